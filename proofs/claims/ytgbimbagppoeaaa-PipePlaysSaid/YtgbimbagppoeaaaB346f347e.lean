/- The parts D15, D15P, TCi, TBiy, Wy, SLXI, PIA, PIB, PIC, PID, PIE, PIF, PJA, PJB, PJC, PJD, PJE, PJF, PJG of the engine and of the walk, one behind the other: no condition. -/
import Derived.Test.YtgbimbagppoeaaaB774966c9
import Derived.Test.YtgbimbagppoeaaaBb134de02
import Derived.Test.YtgbimbagppoeaaaSLT

set_option linter.all false
set_option synthInstance.maxSize 100000
set_option synthInstance.maxHeartbeats 400000
namespace Go.Proofs
open Go Go.SL
/-! the arguments of chapter 15's laws -/
theorem dec_bslY {P : Program} {T el : TypeId} (h : P.underlying T = some (.slice el)) (hk : P.cellsOf el = 1) (he : P.underlying el = some (.int .u8)) :
    Dec P T (fun x : SB => [.slice x.1.1 x.1.2.1 x.1.2.2]) (fun w x => SlIn w (svY x.1) encB x.2) :=
  Dec.map2 (dec_slice encB h hk (dec_byteS he)) _ _ (fun a : Value × List UInt8 => (toSVy a.1, a.2)) fun w a ha => by
    have h1 := ha.1
    obtain ⟨p, c, hv, _, _⟩ := sliceIn_of h1
    rw [hv] at h1
    refine ⟨?_, ?_⟩
    · show [a.1] = _
      rw [hv]; rfl
    · show SlIn w (svY (toSVy a.1)) encB a.2
      rw [hv]; exact h1
abbrev PkA := Int × Int × Int × Int × SB
@[reducible] def encPk : Enc PkA := ⟨5, fun r => [.int .i64 r.1, .int .i64 r.2.1, .int .i64 r.2.2.1, .int .i64 r.2.2.2.1, .slice r.2.2.2.2.1.1 r.2.2.2.2.1.2.1 r.2.2.2.2.1.2.2], fun _ => rfl, fun r v h => by
  simp at h; rcases h with rfl | rfl | rfl | rfl | rfl <;> rfl⟩
def okPk (w : World) (a : PkA) : Prop := wfI .i64 a.2.2.2.1 ∧ SlIn w (svY a.2.2.2.2.1) encB a.2.2.2.2.2
theorem dPk : Dec Try.prog 129 encPk.f okPk :=
  Dec.map (dec_struct Try.underlying129 (by kernel_rfl) (.cons (n := 1) (dec_int Try.underlying3) rfl (by kernel_rfl) (.cons (n := 1) (dec_int Try.underlying3) rfl (by kernel_rfl) (.cons (n := 1) (dec_int Try.underlying3) rfl (by kernel_rfl) (.cons (n := 1) (dec_int Try.underlying3) rfl (by kernel_rfl) (.cons (n := 1) (dec_bslY Try.underlying27 (by kernel_rfl) Try.underlying5) rfl (by kernel_rfl) .nil)))))) _ _ (fun a => (a.1, a.2.1, a.2.2.1, a.2.2.2.1, a.2.2.2.2.1)) (fun _ => rfl) (fun _ _ h => ⟨h.2.2.2.1, h.2.2.2.2.1⟩)
theorem okPk_rd {w : World} {a : PkA} (h : okPk w a) : RdE [ro w] encB (.slice a.2.2.2.2.1.1 a.2.2.2.2.1.2.1 a.2.2.2.2.1.2.2) a.2.2.2.2.2 := ⟨fun w' s => SlIn.mono h.2 (ro_le s)⟩
end Go.Proofs

set_option linter.all false
set_option synthInstance.maxSize 100000
set_option synthInstance.maxHeartbeats 400000
namespace Go.Proofs
open Go Go.SL
/-- a call: kind, number, a packet, bodies -/
abbrev A15 := Int × Int × PkA × (SVy × List SB)
@[reducible] def encSB : Enc SB := ⟨1, fun x => [.slice x.1.1 x.1.2.1 x.1.2.2], fun _ => rfl, fun _ v h => by simp at h; subst h; rfl⟩
@[reducible] def encA15 : Enc A15 := ⟨8, fun r => [.int .i64 r.1, .int .i64 r.2.1, .int .i64 r.2.2.1.1, .int .i64 r.2.2.1.2.1, .int .i64 r.2.2.1.2.2.1, .int .i64 r.2.2.1.2.2.2.1, .slice r.2.2.1.2.2.2.2.1.1 r.2.2.1.2.2.2.2.1.2.1 r.2.2.1.2.2.2.2.1.2.2, .slice r.2.2.2.1.1 r.2.2.2.1.2.1 r.2.2.2.1.2.2], fun _ => rfl, fun r v h => by
  simp at h; rcases h with rfl | rfl | rfl | rfl | rfl | rfl | rfl | rfl <;> rfl⟩
theorem slIn_sb {w : World} {v : Value} {xs : List SB} (h : SlIn w v encSB xs) : SlIn w v encY (xs.map fun x => x.1) := by
  rcases h with ⟨hv, hx⟩ | ⟨a, c, hv, h1, h2, h3⟩
  · exact .inl ⟨hv, by rw [hx]; rfl⟩
  · refine .inr ⟨a, c, by rw [List.length_map]; exact hv, by rw [List.length_map]; exact h1, h2, fun i x hx j u hu => ?_⟩
    rw [List.getElem?_map] at hx
    cases hi : xs[i]? with
    | none => rw [hi] at hx; cases hx
    | some y =>
      rw [hi] at hx
      cases hx
      exact h3 i y hi j u hu
def okBs (w : World) (x : SVy × List SB) : Prop := SlIn w (svY x.1) encY (x.2.map fun x => x.1) ∧ ∀ y ∈ x.2, SlIn w (svY y.1) encB y.2
theorem dec_bss {P : Program} {T el el2 : TypeId} (h : P.underlying T = some (.slice el)) (hk : P.cellsOf el = 1) (h2 : P.underlying el = some (.slice el2)) (hk2 : P.cellsOf el2 = 1) (he : P.underlying el2 = some (.int .u8)) :
    Dec P T (fun x : SVy × List SB => [.slice x.1.1 x.1.2.1 x.1.2.2]) okBs :=
  Dec.map2 (dec_slice encSB h hk (dec_bslY h2 hk2 he)) _ _ (fun a : Value × List SB => (toSVy a.1, a.2)) fun w a ha => by
    have h1 := slIn_sb ha.1
    obtain ⟨p, c, hv, _, _⟩ := sliceIn_of h1
    rw [hv] at h1
    refine ⟨?_, ?_, ha.2⟩
    · show [a.1] = _
      rw [hv]; rfl
    · show SlIn w (svY (toSVy a.1)) encY (a.2.map fun x => x.1)
      rw [hv]; exact h1
def okA15 (w : World) (a : A15) : Prop := wfI .i64 a.2.1 ∧ okPk w a.2.2.1 ∧ okBs w a.2.2.2
theorem dA15 : Dec Try.prog 131 encA15.f okA15 :=
  Dec.map (dec_struct Try.underlying131 (by kernel_rfl) (.cons (n := 1) (dec_int Try.underlying3) rfl (by kernel_rfl) (.cons (n := 1) (dec_int Try.underlying3) rfl (by kernel_rfl) (.cons (n := 5) dPk rfl (by kernel_rfl) (.cons (n := 1) (dec_bss Try.underlying52 (by kernel_rfl) Try.underlying27 (by kernel_rfl) Try.underlying5) rfl (by kernel_rfl) .nil))))) _ _ (fun a => (a.1, a.2.1, a.2.2.1, a.2.2.2.1)) (fun _ => rfl) (fun _ _ h => ⟨h.2.1, h.2.2.1, h.2.2.2.1⟩)
end Go.Proofs

set_option linter.all false
set_option synthInstance.maxSize 100000
set_option synthInstance.maxHeartbeats 400000
namespace Go.Proofs
open Go Go.SL

theorem isNaN_i_spec {L K} {k : Int} (h : Ht L (K (.bool false))) : Ht L (CCall Try.prog 267 [.int .i64 k] K) := by
  refine ccall1 Try.func267 rfl (by decide) Try.ntmps267 (by rfl) (by decide) ?_
  repeat (refine stp ?_)
  refine ret1 rfl ?_
  first | exact h | simpa using h
theorem Compare_i_spec {L K} {x y : Int} (h : Ht L (K (.int .i64 (cmpV x y)))) : Ht L (CCall Try.prog 259 [.int .i64 x, .int .i64 y] K) := by
  refine ccall2 Try.func259 rfl (by decide) Try.ntmps259 (by rfl) (by decide) ?_
  repeat (refine stp ?_)
  refine isNaN_i_spec ?_
  repeat (refine stp ?_)
  refine isNaN_i_spec ?_
  repeat (refine stp ?_)
  refine ht_if ?_ ?_ <;> intro h1
  · repeat (refine stp ?_)
    refine ret1 rfl ?_
    rw [cmpV, if_pos (show KLt.lt x y = true from h1)] at h
    exact h
  · repeat (refine stp ?_)
    rw [cmpV, if_neg (by rw [show KLt.lt x y = false from h1]; simp)] at h
    refine ht_if ?_ ?_ <;> intro h2
    · repeat (refine stp ?_)
      refine ret1 rfl ?_
      rw [if_pos (show KLt.lt y x = true from h2)] at h
      exact h
    · repeat (refine stp ?_)
      refine ret1 rfl ?_
      rw [if_neg (by rw [show KLt.lt y x = false from h2]; simp)] at h
      exact h
end Go.Proofs

set_option linter.all false
set_option synthInstance.maxSize 100000
set_option synthInstance.maxHeartbeats 400000
namespace Go.Proofs
open Go Go.SL

attribute [local irreducible] CCall CO CC CX CD
@[reducible] def enc_iy : Enc (Int × SVy) := ⟨2, fun r => [.int .i64 r.1, .slice (r.2).1 (r.2).2.1 (r.2).2.2], fun _ => rfl, fun _ v h => by simp at h; rcases h with rfl | rfl <;> rfl⟩
instance : Inhabited (Int × SVy) := ⟨(0, ((none, 0, 0) : SVy))⟩
theorem iy_placeF {L K} {r : (Int × SVy)} {k : Int} (h : Ht L (K (.int .i64 (cmpV r.1 k)))) : Ht L (CCall Try.prog 258 [.agg #[.int .i64 r.1, .slice (r.2).1 (r.2).2.1 (r.2).2.2], .int .i64 k] K) := by
  refine ccall2 Try.func258 rfl (by decide) Try.ntmps258 (by rfl) (by decide) ?_
  repeat (refine stp ?_)
  intro b
  repeat (refine stp ?_)
  refine Compare_i_spec ?_
  repeat (refine stp ?_)
  exact ret1 rfl (Ht.frm h)

theorem iy_bs {L K v} {xs : List (Int × SVy)} {k : Int} [rd : RdS L v enc_iy xs] (hs : Srt xs) (hn : xs.length ≤ 1000000) (h : Ht L (K (.tuple #[.int .i64 (tpos k xs : Nat), .bool (thas k xs)]))) :
    Ht L (CCall Try.prog 257 [v, .int .i64 k, .func (.func 258) #[] #[]] K) := by
  refine ccall3 Try.func257 rfl (by decide) Try.ntmps257 (by rfl) (by decide) ?_
  repeat (refine stp ?_)
  refine ht_iter (α := {p : Nat × Nat // p.1 ≤ p.2 ∧ p.2 ≤ xs.length ∧ (∀ j r, j < p.1 → xs[j]? = some r → KLt.lt r.1 k = true) ∧ (∀ j r, p.2 ≤ j → xs[j]? = some r → KLt.lt r.1 k = false)})
    (fun p => p.1.2 - p.1.1) (fun _ => L) (fun p => [(9, .int .i64 p.1.1), (10, .int .i64 p.1.2)]) ⟨(0, xs.length), by omega, by omega, by intro j r h; simp at h, by intro j r h hj; have := (List.getElem?_eq_some_iff.1 hj).1; omega⟩ [9, 10] (fun _ s => s) inferInstance ?_
  intro ⟨(i, j), hij, hj, hlo, hhi⟩
  dsimp only [List.cons_append, List.nil_append] at hij hj hlo hhi ⊢
  repeat (refine stp ?_)
  refine ht_if ?_ ?_ <;> intro hc <;> simp only [decide_eq_true_eq, decide_eq_false_iff_not] at hc
  · repeat (refine stp ?_)
    rewrite [midw i j (by omega)]
    refine co_index (by omega) ?_
    intro hb
    have hg := getB hb.h
    repeat (refine stp ?_)
    refine iy_placeF ?_
    repeat (refine stp ?_)
    refine ht_if ?_ ?_ <;> intro h1 <;> simp only [decide_eq_true_eq, decide_eq_false_iff_not] at h1
    · repeat (refine stp ?_)
      refine ht_again ⟨((i + j) / 2 + 1, j), ?_⟩ ?_ (fun _ s => s) (SubE.cons (by rw [IntWalk.i64_in _ (by omega)]; rfl) (SubE.cons rfl inferInstance)) rfl rfl
      · exact ⟨by omega, hj, srt_low hs hg (cmpV_neg.1 h1), hhi⟩
      · show j - ((i + j) / 2 + 1) < j - i; omega
    · repeat (refine stp ?_)
      refine ht_again ⟨(i, (i + j) / 2), ?_⟩ ?_ (fun _ s => s) (SubE.cons rfl (SubE.cons rfl inferInstance)) rfl rfl
      · exact ⟨by omega, by omega, hlo, srt_high hs hg (cmpV_nneg h1)⟩
      · show (i + j) / 2 - i < j - i; omega
  · have e : i = j := by omega
    subst e
    have hp := tpos_eq hj hlo hhi
    repeat (refine stp ?_)
    refine ht_guard ?_ ?_ <;> intro h1 <;> simp only [decide_eq_true_eq, decide_eq_false_iff_not] at h1
    · repeat (refine stp ?_)
      refine co_index (by omega) ?_
      intro hb
      have hg := getB hb.h
      repeat (refine stp ?_)
      refine iy_placeF ?_
      repeat (refine stp ?_)
      refine ret2 rfl ?_
      have e2 : decide (cmpV (xs[i]!).1 k = 0) = thas k xs := by
        rw [thas, tfind_at (by rw [hp]; exact hg)]
        by_cases hk : (xs[i]!).1 = k
        · rw [if_pos hk, hk, cmpV_self]; rfl
        · rw [if_neg hk, decide_eq_false (fun h0 => hk (cmpV_zero h0))]; rfl
      rewrite [e2]
      rw [hp] at h
      exact h
    · repeat (refine stp ?_)
      refine ret2 rfl ?_
      have e2 : thas k xs = false := by rw [thas, tfind_end (by omega)]; rfl
      rw [hp, e2] at h
      exact h

/-! a table: its rows' slice lies in cell o of block b -/
theorem iy_place {L L1 R K b o l S v} {xs : List (Int × SVy)} {k : Int} [p : Pull (pto b) L (cells l S) L1] [n : Nth l o v] [q : Pull (own enc_iy 356 v) L1 xs R] (hs : Srt xs) (hn : xs.length ≤ 1000000)
    (h : Ht (own enc_iy 356 v xs :: pto b (cells l S) :: R) (K (.tuple #[.int .i64 (tpos k xs : Nat), .bool (thas k xs)]))) :
    Ht L (CCall Try.prog 240 [.pointer (some ⟨b, o, none⟩), .int .i64 k] K) := by
  refine Ht.pull p (Ht.two q ?_)
  refine ccall2 Try.func240 rfl (by decide) Try.ntmps240 (by rfl) (by decide) ?_
  repeat (refine stp ?_)
  refine iy_bs hs hn ?_
  repeat (refine stp ?_)
  exact ret2 rfl h

theorem iy_get {L L1 R K b o l S v} {xs : List (Int × SVy)} {k : Int} [p : Pull (pto b) L (cells l S) L1] [n : Nth l o v] [q : Pull (own enc_iy 356 v) L1 xs R] (hs : Srt xs) (hn : xs.length ≤ 1000000)
    (h : Ht (own enc_iy 356 v xs :: pto b (cells l S) :: R) (K (.tuple #[.slice (((tfind k xs).getD ((none, 0, 0) : SVy))).1 (((tfind k xs).getD ((none, 0, 0) : SVy))).2.1 (((tfind k xs).getD ((none, 0, 0) : SVy))).2.2, .bool (thas k xs)]))) :
    Ht L (CCall Try.prog 208 [.pointer (some ⟨b, o, none⟩), .int .i64 k] K) := by
  refine Ht.pull p (Ht.two q ?_)
  refine ccall2 Try.func208 rfl (by decide) Try.ntmps208 (by rfl) (by decide) ?_
  repeat (refine stp ?_)
  refine iy_place hs hn ?_
  repeat (refine stp ?_)
  refine ht_if ?_ ?_ <;> intro h0 <;> simp only [Bool.not_eq_true', Bool.not_eq_false'] at h0
  · repeat (refine stp ?_)
    refine ret2 rfl ?_
    have e : tfind k xs = none := by rw [thas] at h0; simpa using h0
    rw [h0, e] at h
    exact h
  · repeat (refine stp ?_)
    obtain ⟨u, hu⟩ := Option.isSome_iff_exists.1 h0
    have hk := tfind_some hu
    have hlt := (List.getElem?_eq_some_iff.1 hk).1
    refine co_index (by omega) ?_
    intro hb
    have e2 : xs[tpos k xs]! = (k, u) := by have := getB hb.h; rw [hk] at this; exact (Option.some.inj this).symm
    repeat (refine stp ?_)
    refine ret2 rfl ?_
    rw [h0, hu] at h
    rewrite [e2]
    exact h
theorem iy_get_nil {L K} {k : Int} (h : Ht L (K (.tuple #[.slice (((none, 0, 0) : SVy)).1 (((none, 0, 0) : SVy)).2.1 (((none, 0, 0) : SVy)).2.2, .bool false]))) : Ht L (CCall Try.prog 208 [.pointer none, .int .i64 k] K) := by
  refine ccall2 Try.func208 rfl (by decide) Try.ntmps208 (by rfl) (by decide) ?_
  repeat (refine stp ?_)
  exact ret2 rfl h

theorem iy_insert {L L1 R K sv vb l T' i} {xs : List (Int × SVy)} {x : (Int × SVy)} [p : Pull (own enc_iy 356 sv) L xs L1] [q : Pull (pto vb) L1 (cells l T') R] (hl : l = enc_iy.f x) (hi : i ≤ xs.length) (hn : xs.length ≤ 1000000)
    (h : ∀ v', Ht (own enc_iy 356 v' (xs.take i ++ x :: xs.drop i) :: R) (K v')) :
    Ht L (CCall Try.prog 241 [sv, .int .i64 (i : Nat), .slice (some ⟨vb, 0, none⟩) 1 1] K) := by
  refine Ht.pull p (Ht.two q ?_)
  subst hl
  refine ccall3 Try.func241 rfl (by decide) Try.ntmps241 (by rfl) (by decide) ?_
  repeat (refine stp ?_)
  refine co_slice (by omega) ?_
  intro hsl
  repeat (refine stp ?_)
  refine ht_if ?_ ?_ <;> intro h1 <;> simp only [decide_eq_true_eq, decide_eq_false_iff_not] at h1
  · have e1 : i = xs.length := by omega
    subst e1
    refine Ht.own_lit enc_iy (b := vb) (n := 1) (xs := [x]) rfl rfl (by decide) ?_
    repeat (refine stp ?_)
    refine co_append (e := enc_iy) (by rfl) ?_ ?_ ?_
    · simp; omega
    · simp; omega
    intro v'
    repeat (refine stp ?_)
    refine ret1 rfl ?_
    rw [show xs ++ [x] = xs.take xs.length ++ x :: xs.drop xs.length from by simp]
    exact Ht.frm (h v')
  · have hlt : i < xs.length := by omega
    refine Ht.own_cap (e := enc_iy) (T := 356) (v := sv) (by intro h; subst h; simp at hlt) ?_
    intro b o cap hv hc1 hc2
    subst hv
    repeat (refine stp ?_)
    have hw1 : IntKind.i64.wrap ((xs.length : Int) + ((1 : Nat) : Int)) = ((xs.length + 1 : Nat) : Int) := by rw [IntWalk.i64_in _ (by omega)]; omega
    refine ht_if ?_ ?_ <;> intro h2 <;> simp only [decide_eq_true_eq, decide_eq_false_iff_not] at h2
    · -- a new row
      repeat (refine stp ?_)
      refine co_slice_raw (.slice (some ⟨b, o, none⟩) i cap) (by omega) slSub_lit0 ?_
      repeat (refine stp ?_)
      have hw2 : IntKind.i64.wrap (IntKind.i64.wrap ((xs.length : Int) + ((1 : Nat) : Int)) - (i : Int)) = ((xs.length + 1 - i : Nat) : Int) := by rw [hw1, IntWalk.i64_in _ (by omega)]; omega
      rw [hw1] at h2
      refine co_append_zeros_far (e := enc_iy) (xs := xs.take i) (0, ((none, 0, 0) : SVy)) rfl hw2 ?_ (by omega) (by decide) ?_ (by rfl) ?_ ?_ ?_
      · intro w s
        have := slSub_in (own_sat s) (lo := 0) (hi := i) (by omega)
        rw [slSub_lit0] at this
        simpa [Nat.min_eq_left (show i ≤ xs.length by omega)] using this
      · simp; omega
      · simp; omega
      · simp; omega
      intro v'
      have hL2 : (xs.take i ++ List.replicate (xs.length + 1 - i) ((0, ((none, 0, 0) : SVy)) : (Int × SVy))).length = xs.length + 1 := by simp; omega
      repeat (refine stp ?_)
      refine co_slice (by rw [hL2]; omega) ?_
      intro hsl2
      repeat (refine stp ?_)
      refine co_copy_own enc_iy [x] rfl (by rw [hL2]; omega) ?_ (by rw [hL2]; simp; omega) ?_
      · intro w s
        exact ⟨1, [], raw_in (pre := []) (post := []) (fz := (0,0)) (T := T') (by have := (Pull.sat (R := pto vb) inferInstance s).get; simpa using this) (by simp) (by simp)⟩
      have e3 : (xs.take i ++ List.replicate (xs.length + 1 - i) ((0, ((none, 0, 0) : SVy)) : (Int × SVy))).take i ++ [x] ++ (xs.take i ++ List.replicate (xs.length + 1 - i) ((0, ((none, 0, 0) : SVy)) : (Int × SVy))).drop (i + [x].length) = xs.take i ++ [x] ++ List.replicate (xs.length - i) (0, ((none, 0, 0) : SVy)) := by
        rw [List.take_left' (by simp; omega), List.drop_append, List.drop_eq_nil_of_le (by simp; omega)]
        simp; omega
      rewrite [e3]
      repeat (refine stp ?_)
      refine ht_draw Try.can241x11 Try.mixed (by kernel_rfl) ?_
      repeat (refine stp ?_)
      have hw3 : IntKind.i64.wrap ((i : Int) + ((1 : Nat) : Int)) = ((i + 1 : Nat) : Int) := by rw [IntWalk.i64_in _ (by omega)]; omega
      have hL3 : (xs.take i ++ [x] ++ List.replicate (xs.length - i) ((0, ((none, 0, 0) : SVy)) : (Int × SVy))).length = xs.length + 1 := by simp; omega
      rewrite [hw3]
      refine cd_slice (by rw [hL3]; omega) ?_
      intro hsl3 hsb3
      repeat (refine stp ?_)
      refine cd_slice (by omega) ?_
      intro hsl4 hsb4
      repeat (refine stp ?_)
      refine co_copy_own enc_iy (xs.drop i) (slSub_lit (by omega)) (by rw [hL3]; omega) ?_ (by rw [hL3]; simp <;> omega) ?_
      · intro w s
        have := slSub_in (own_sat (Pull.sat (R := own enc_iy 356 (.slice (some ⟨b, o, none⟩) xs.length cap)) inferInstance s)) (lo := i) (hi := xs.length) (by omega)
        rw [slSub_lit (by omega), List.take_length] at this
        refine ⟨cap - i, [], ?_⟩
        simpa using this
      have e4 : (xs.take i ++ [x] ++ List.replicate (xs.length - i) ((0, ((none, 0, 0) : SVy)) : (Int × SVy))).take (i + 1) ++ xs.drop i ++ (xs.take i ++ [x] ++ List.replicate (xs.length - i) ((0, ((none, 0, 0) : SVy)) : (Int × SVy))).drop (i + 1 + (xs.drop i).length) = xs.take i ++ x :: xs.drop i := by
        have e5 : (xs.take i ++ [x] ++ List.replicate (xs.length - i) ((0, ((none, 0, 0) : SVy)) : (Int × SVy))).drop (i + 1 + (xs.drop i).length) = [] := List.drop_of_length_le (by simp; omega)
        rw [List.take_left' (by simp; omega), e5]
        simp
      rewrite [e4]
      repeat (refine stp ?_)
      exact ret1 rfl (Ht.frm (h v'))
    · -- in its place
      rw [hw1] at h2
      refine Ht.own_open (e := enc_iy) (T := 356) (v := .slice (some ⟨b, o, none⟩) xs.length cap) (by intro h; cases h) ?_
      intro b2 pre post cap2 fz hv _ _ hc3 hfz
      injection hv with hv1 _ hv2
      injection hv1 with hv1
      injection hv1 with hv3 hv4 _
      subst hv2; subst hv3; subst hv4
      have hk2 : (enc_iy).k = 2 := rfl
      rw [hk2] at hc3 hfz
      have hpl : 2 ≤ post.length := by omega
      have hfl := flat_len enc_iy xs
      rw [hk2] at hfl
      repeat (refine stp ?_)
      rewrite [hw1]
      refine co_slice_raw (.slice (some ⟨b, pre.length, none⟩) (xs.length + 1) cap) (by omega) slSub_lit0 ?_
      repeat (refine stp ?_)
      have hw3 : IntKind.i64.wrap ((i : Int) + ((1 : Nat) : Int)) = ((i + 1 : Nat) : Int) := by rw [IntWalk.i64_in _ (by omega)]; omega
      rewrite [hw3]
      refine co_slice_raw (.slice (some ⟨b, pre.length + (i + 1) * 2, none⟩) (xs.length + 1 - (i + 1)) (cap - (i + 1))) (by omega) (slSub_lit (by omega)) ?_
      refine co_overlaps (tS := 248) (tR := 4) Try.func260 (by kernel_rfl) (by kernel_rfl) (by kernel_rfl) (by kernel_rfl) Try.underlying248 rfl rfl (by intro h; have := congrArg List.length h; simp only [List.length_append, hfl, List.length_nil] at this; omega) ?_
      repeat (refine stp ?_)
      refine ht_draw Try.can241x15 Try.mixed (by kernel_rfl) ?_
      repeat (refine stp ?_)
      rewrite [hw3]
      refine cd_slice_raw (by omega) ?_
      intro hsb1
      repeat (refine stp ?_)
      refine cd_slice_raw (by omega) ?_
      intro hsb2
      repeat (refine stp ?_)
      have hA : xs.flatMap enc_iy.f = (xs.take i).flatMap enc_iy.f ++ (xs.drop i).flatMap enc_iy.f := by rw [← List.flatMap_append, List.take_append_drop]
      have hlA : ((xs.take i).flatMap enc_iy.f).length = i * 2 := by rw [flat_len]; simp; omega
      have hlB : ((xs.drop i).flatMap enc_iy.f).length = (xs.length - i) * 2 := by rw [flat_len]; simp
      refine co_copy_raw enc_iy (xs.drop i) (slSub_lit (by omega)) (slSub_lit (by omega)) ?_ (by simp; omega) (by simp only [List.length_append, hfl, List.length_drop]; omega) (by simpa [hfl, Nat.add_assoc] using hfz) ?_
      · intro w s
        refine ⟨cap - i, [], ?_⟩
        have := raw_in (e := enc_iy) (w := w) (b := b) (T := 356) (fz := fz) (pre := pre ++ (xs.take i).flatMap enc_iy.f) (post := post) (xs := xs.drop i) (cap := cap - i) (by
          have := (Pull.sat (R := pto b) inferInstance s).get
          rw [this, hA]; simp) (by simp; omega) (by omega)
        rw [List.length_append, hlA] at this
        simpa using this
      repeat (refine stp ?_)
      have hL4 : ((pre ++ xs.flatMap enc_iy.f ++ post).take (pre.length + (i + 1) * 2) ++ (xs.drop i).flatMap enc_iy.f ++ (pre ++ xs.flatMap enc_iy.f ++ post).drop (pre.length + (i + 1) * 2 + (xs.drop i).length * 2)).length = pre.length + xs.length * 2 + post.length := by simp only [List.length_append, List.length_take, List.length_drop, hlB, hfl]; omega
      refine co_copy_raw enc_iy [x] (slSub_lit (by omega)) rfl ?_ (by simp; omega) (by rw [hL4]; simp; omega) (by rw [hL4]; exact hfz) ?_
      · intro w s
        exact ⟨1, [], raw_in (pre := []) (post := []) (fz := (0,0)) (T := T') (by have := (Pull.sat (R := pto vb) inferInstance s).get; simpa using this) (by simp) (by simp)⟩
      repeat (refine stp ?_)
      refine ret1 rfl ?_
      refine Ht.own_close enc_iy (xs.take i ++ x :: xs.drop i) pre (post.drop 2) (b := b) (n := xs.length + 1) (cap := cap) ?_ (by simp; omega) (by omega) hc2 (by rw [hk2]; simp; omega) ?_ ?_
      · exact ins_cells enc_iy rfl pre post xs x hi hpl
      · rw [ins_cells enc_iy rfl pre post xs x hi hpl, List.length_append, List.length_append, flat_len, hk2, show pre.length + (xs.take i ++ x :: xs.drop i).length * 2 + (post.drop 2).length = pre.length + xs.length * 2 + post.length from by simp; omega]; exact hfz
      · exact Ht.frm (h _)

theorem iy_put {L L1 R K b o l S v} {xs : List (Int × SVy)} {k : Int} {u : SVy} [p : Pull (pto b) L (cells l S) L1] [n : Nth l o v] [q : Pull (own enc_iy 356 v) L1 xs R] (hu : ∀ v', ∃ l', Ups l o [v'] l') (hs : Srt xs) (hn : xs.length ≤ 900000)
    (h : ∀ v' l', Ups l o [v'] l' → Ht (own enc_iy 356 v' (tput k u xs) :: pto b (cells l' S) :: R) (K (.bool (!(thas k xs))))) :
    Ht L (CCall Try.prog 209 [.pointer (some ⟨b, o, none⟩), .int .i64 k, .slice (u).1 (u).2.1 (u).2.2] K) := by
  refine Ht.pull p (Ht.two q ?_)
  refine ccall3 Try.func209 rfl (by decide) Try.ntmps209 (by rfl) (by decide) ?_
  repeat (refine stp ?_)
  refine iy_place hs (by omega) ?_
  repeat (refine stp ?_)
  refine ht_if ?_ ?_ <;> intro h0
  · repeat (refine stp ?_)
    obtain ⟨u0, hu0⟩ := Option.isSome_iff_exists.1 h0
    have hk := tfind_some hu0
    have hlt := (List.getElem?_eq_some_iff.1 hk).1
    refine co_index (by omega) ?_
    intro hb
    have e2 : xs[tpos k xs]! = (k, u0) := by have := getB hb.h; rw [hk] at this; exact (Option.some.inj this).symm
    repeat (refine stp ?_)
    refine co_setEl (e := enc_iy) (el := 356) (k, u) (by rw [e2]; rfl) (by simp) ?_
    repeat (refine stp ?_)
    refine ret1 rfl ?_
    have e3 : xs.set (tpos k xs) (k, u) = tput k u xs := by
      rw [tput, if_pos h0, List.set_eq_take_append_cons_drop, if_pos hlt]
    rw [e3]
    have := h v l (ups_self n.h)
    rw [h0] at this
    exact this
  · repeat (refine stp ?_)
    intro vb
    repeat (refine stp ?_)
    refine iy_insert (x := (k, u)) rfl (tpos_le k xs) (by omega) ?_
    intro v'
    obtain ⟨l', hl'⟩ := hu v'
    haveI := hl'
    refine Ht.one1 (v := v') ?_
    intro _
    repeat (refine stp ?_)
    refine ret1 rfl ?_
    have e3 : xs.take (tpos k xs) ++ (k, u) :: xs.drop (tpos k xs) = tput k u xs := by
      rw [tput, if_neg (by rw [h0]; simp)]
    rw [e3]
    have := h v' l' hl'
    rw [h0] at this
    exact Ht.frm this

theorem iy_delete {L R K sv i} {xs : List (Int × SVy)} [p : Pull (own enc_iy 356 sv) L xs R] (hi : i < xs.length) (hn : xs.length ≤ 1000000)
    (h : ∀ v', Ht (own enc_iy 356 v' (xs.take i ++ xs.drop (i + 1)) :: R) (K v')) :
    Ht L (CCall Try.prog 242 [sv, .int .i64 (i : Nat), .int .i64 ((i + 1 : Nat) : Int)] K) := by
  refine Ht.pull p ?_
  refine ccall3 Try.func242 rfl (by decide) Try.ntmps242 (by rfl) (by decide) ?_
  refine Ht.own_open (e := enc_iy) (T := 356) (v := sv) (by intro _ h; subst h; simp at hi) ?_
  intro b pre post cap fz hv hc1 hc2 hc3 hfz
  subst hv
  have hk2 : (enc_iy).k = 2 := rfl
  rw [hk2] at hc3 hfz
  have hfl := flat_len enc_iy xs
  rw [hk2] at hfl
  repeat (refine stp ?_)
  refine co_slice3_raw (by omega) ?_
  intro v1
  repeat (refine stp ?_)
  refine ht_if_f (by simp; omega) ?_
  repeat (refine stp ?_)
  refine ht_draw Try.can242x5 Try.mixed (by kernel_rfl) ?_
  repeat (refine stp ?_)
  refine cd_slice_raw (by omega) ?_
  intro hsb1
  repeat (refine stp ?_)
  refine cd_slice_raw (by omega) ?_
  intro hsb2
  repeat (refine stp ?_)
  refine co_append_raw enc_iy (xs.drop (i + 1)) slSub_lit0 ?_ (by simp; omega) (by simp only [List.length_append, hfl, List.length_drop]; omega) (by simpa [hfl, Nat.add_assoc] using hfz) ?_
  · intro w s
    have := slSub_in (raw_in (e := enc_iy) (s.get) hc1 hc2) (lo := i + 1) (hi := xs.length) (by omega)
    rw [List.take_length] at this
    exact this
  repeat (refine stp ?_)
  have hd : i + (xs.drop (i + 1)).length = xs.length - 1 := by simp; omega
  rewrite [hd]
  refine co_slice_raw (.slice (some ⟨b, pre.length + (xs.length - 1) * 2, none⟩) 1 (cap - (xs.length - 1))) (by omega) (by rw [slSub_lit (by omega), show xs.length - (xs.length - 1) = 1 from by omega]) ?_
  have hL4 : ((pre ++ xs.flatMap enc_iy.f ++ post).take (pre.length + i * 2) ++ (xs.drop (i + 1)).flatMap enc_iy.f ++ (pre ++ xs.flatMap enc_iy.f ++ post).drop (pre.length + i * 2 + (xs.drop (i + 1)).length * 2)).length = pre.length + xs.length * 2 + post.length := by
    have hlB : ((xs.drop (i + 1)).flatMap enc_iy.f).length = (xs.length - (i + 1)) * 2 := by rw [flat_len]; simp
    simp only [List.length_append, List.length_take, List.length_drop, hfl, hlB]; omega
  refine co_clear_raw0 (enc_iy.f (0, ((none, 0, 0) : SVy))) rfl (by rfl) (enc_iy.h1 _) (by show pre.length + (xs.length - 1) * 2 + 1 * 2 ≤ _; rw [hL4]; omega) (by rw [hL4]; exact hfz) (by decide) ?_
  repeat (refine stp ?_)
  refine ret1 rfl ?_
  have e9 := del_cells enc_iy (k := 2) rfl pre post xs (enc_iy.f (0, ((none, 0, 0) : SVy))) hi rfl
  refine Ht.own_close enc_iy (xs.take i ++ xs.drop (i + 1)) pre (enc_iy.f (0, ((none, 0, 0) : SVy)) ++ post) (b := b) (n := xs.length - 1) (cap := cap) ?_ (by simp; omega) (by omega) hc2 (by rw [hk2]; simp; omega) ?_ ?_
  · rw [← e9]; simp
  · have := congrArg List.length e9
    simp only [List.replicate_one, List.flatten_cons, List.flatten_nil, List.append_nil, Nat.one_mul]
    rw [show (enc_iy.f (0, ((none, 0, 0) : SVy))).length = 2 from rfl, this]
    rw [List.length_append, List.length_append, flat_len, hk2, show pre.length + (xs.take i ++ xs.drop (i + 1)).length * 2 + (enc_iy.f (0, ((none, 0, 0) : SVy)) ++ post).length = pre.length + xs.length * 2 + post.length from by simp; omega]; exact hfz
  · exact Ht.frm (h _)

theorem iy_drop {L L1 R K b o l S v} {xs : List (Int × SVy)} {k : Int} [p : Pull (pto b) L (cells l S) L1] [n : Nth l o v] [q : Pull (own enc_iy 356 v) L1 xs R] (hu : ∀ v', ∃ l', Ups l o [v'] l') (hs : Srt xs) (hn : xs.length ≤ 900000)
    (h : ∀ v' l', Ups l o [v'] l' → Ht (own enc_iy 356 v' (tdrop k xs) :: pto b (cells l' S) :: R) (K (.bool (thas k xs)))) :
    Ht L (CCall Try.prog 210 [.pointer (some ⟨b, o, none⟩), .int .i64 k] K) := by
  refine Ht.pull p (Ht.two q ?_)
  refine ccall2 Try.func210 rfl (by decide) Try.ntmps210 (by rfl) (by decide) ?_
  repeat (refine stp ?_)
  refine iy_place hs (by omega) ?_
  repeat (refine stp ?_)
  refine ht_if ?_ ?_ <;> intro h0
  · repeat (refine stp ?_)
    obtain ⟨u0, hu0⟩ := Option.isSome_iff_exists.1 h0
    have hk := tfind_some hu0
    have hlt := (List.getElem?_eq_some_iff.1 hk).1
    rewrite [show IntKind.i64.wrap ((tpos k xs : Nat) + 1 : Int) = ((tpos k xs + 1 : Nat) : Int) from by rw [IntWalk.i64_in _ (by omega)]; omega]
    refine iy_delete hlt (by omega) ?_
    intro v'
    obtain ⟨l', hl'⟩ := hu v'
    haveI := hl'
    refine Ht.one1 (v := v') ?_
    intro _
    repeat (refine stp ?_)
    refine ret1 rfl ?_
    have := h v' l' hl'
    rw [tdrop, if_pos h0, h0] at this
    rewrite [h0]
    exact Ht.frm this
  · repeat (refine stp ?_)
    refine ret1 rfl ?_
    have := h v l (ups_self n.h)
    rw [tdrop, if_neg (by rw [h0]; simp)] at this
    exact this
end Go.Proofs

set_option linter.all false
set_option synthInstance.maxSize 100000
set_option synthInstance.maxHeartbeats 400000
namespace Go.Proofs
open Go Go.SL
attribute [local irreducible] CCall CO CC CX CD
theorem wy_clone {L K v} {xs : List SVy} [rs : RdE L encY v xs] (hn : xs.length ≤ 1000000) (h : ∀ v', Ht (own encY 27 v' xs :: L) (K v')) : Ht L (CCall Try.prog 211 [v] K) := by
  haveI := rs.toS
  refine ccall1 Try.func211 rfl (by decide) Try.ntmps211 (by rfl) (by decide) ?_
  repeat (refine stp ?_)
  refine ht_if ?_ ?_ <;> intro h0
  · repeat (refine stp ?_)
    refine ret1 rfl ?_
    refine Ht.know (p := xs = []) (fun w s => ?_) (fun hx => ?_)
    · rcases rs.h w s with ⟨rfl, hx⟩ | ⟨a, c, rfl, _⟩
      · exact hx
      · cases h0
    · subst hx
      exact Ht.conseq (h _) (fun w s => own_nil.2 s)
  · repeat (refine stp ?_)
    intro v0
    repeat (refine stp ?_)
    refine Ht.own_lit encY (b := v0) (xs := []) rfl rfl (by decide) ?_
    refine co_append (e := encY) (by rfl) ?_ ?_ ?_
    · simp; omega
    · simp; omega
    intro v'
    repeat (refine stp ?_)
    exact ret1 rfl (h v')

/-! ### what goes out -/
theorem wy_len {L L1 R K b s0 s1 n0 kv tv a} {l : List SVy} [p : Pull (pto b) L (cells [s0, s1, tv, .int .i64 a, n0, kv] 258) L1] [q : Pull (own encY 27 tv) L1 l R] (h : Ht (own encY 27 tv l :: pto b (cells [s0, s1, tv, .int .i64 a, n0, kv] 258) :: R) (K (.int .i64 l.length))) : Ht L (CCall Try.prog 143 [.pointer (some ⟨b, 2, none⟩)] K) := by
  refine Ht.pull p (Ht.two q ?_)
  refine ccall1 Try.func143 rfl (by decide) Try.ntmps143 (by rfl) (by decide) ?_
  repeat (refine stp ?_)
  exact ret1 rfl h
theorem wy_len_nil {L K} (h : Ht L (K (.int .i64 0))) : Ht L (CCall Try.prog 143 [.pointer none] K) := by
  refine ccall1 Try.func143 rfl (by decide) Try.ntmps143 (by rfl) (by decide) ?_
  repeat (refine stp ?_)
  exact ret1 rfl h
theorem wy_acked {L L1 K b s0 s1 n0 kv tv a} [p : Pull (pto b) L (cells [s0, s1, tv, .int .i64 a, n0, kv] 258) L1] (h : Ht (pto b (cells [s0, s1, tv, .int .i64 a, n0, kv] 258) :: L1) (K (.int .i64 a))) : Ht L (CCall Try.prog 207 [.pointer (some ⟨b, 2, none⟩)] K) := by
  refine Ht.pull p ?_
  refine ccall1 Try.func207 rfl (by decide) Try.ntmps207 (by rfl) (by decide) ?_
  repeat (refine stp ?_)
  exact ret1 rfl h
theorem wy_acked_nil {L K} (h : Ht L (K (.int .i64 0))) : Ht L (CCall Try.prog 207 [.pointer none] K) := by
  refine ccall1 Try.func207 rfl (by decide) Try.ntmps207 (by rfl) (by decide) ?_
  repeat (refine stp ?_)
  exact ret1 rfl h
theorem wy_waiting {L L1 R K b s0 s1 n0 kv tv a} {l : List SVy} [p : Pull (pto b) L (cells [s0, s1, tv, .int .i64 a, n0, kv] 258) L1] [q : Pull (own encY 27 tv) L1 l R] (h : Ht (own encY 27 tv l :: pto b (cells [s0, s1, tv, .int .i64 a, n0, kv] 258) :: R) (K (.int .i64 (IntKind.i64.wrap ((l.length : Int) - a))))) : Ht L (CCall Try.prog 152 [.pointer (some ⟨b, 2, none⟩)] K) := by
  refine Ht.pull p (Ht.two q ?_)
  refine ccall1 Try.func152 rfl (by decide) Try.ntmps152 (by rfl) (by decide) ?_
  repeat (refine stp ?_)
  refine wy_len ?_
  repeat (refine stp ?_)
  refine wy_acked ?_
  repeat (refine stp ?_)
  exact ret1 rfl (Ht.frm h)
theorem wy_waiting_nil {L K} (h : Ht L (K (.int .i64 0))) : Ht L (CCall Try.prog 152 [.pointer none] K) := by
  refine ccall1 Try.func152 rfl (by decide) Try.ntmps152 (by rfl) (by decide) ?_
  repeat (refine stp ?_)
  refine wy_len_nil ?_
  repeat (refine stp ?_)
  refine wy_acked_nil ?_
  repeat (refine stp ?_)
  exact ret1 rfl h
theorem wy_push {L L1 R K b s0 s1 n0 kv tv a y} {l ys : List SVy} [p : Pull (pto b) L (cells [s0, s1, tv, .int .i64 a, n0, kv] 258) L1] [q : Pull (own encY 27 tv) L1 l R] [ry : RdE R encY y ys] (hn : l.length + ys.length ≤ 1000000)
    (h : ∀ v', Ht (pto b (cells [s0, s1, v', .int .i64 a, n0, kv] 258) :: own encY 27 v' (l ++ ys) :: R) (K (.int .i64 (l ++ ys).length))) : Ht L (CCall Try.prog 142 [.pointer (some ⟨b, 2, none⟩), y] K) := by
  refine Ht.pull p (Ht.two q ?_)
  haveI : RdE (pto b (cells [s0, s1, tv, .int .i64 a, n0, kv] 258) :: R) encY y ys := ⟨fun w s => ry.h w s.tail⟩
  refine ccall2 Try.func142 rfl (by decide) Try.ntmps142 (by rfl) (by decide) ?_
  repeat (refine stp ?_)
  refine co_append (e := encY) (by rfl) (by omega) (by omega) ?_
  intro v'
  refine Ht.one1 (v := v') ?_
  intro _
  repeat (refine stp ?_)
  exact ret1 rfl (h v')
theorem wy_push_nil {L K y} (h : Ht L (K (.int .i64 0))) : Ht L (CCall Try.prog 142 [.pointer none, y] K) := by
  refine ccall2 Try.func142 rfl (by decide) Try.ntmps142 (by rfl) (by decide) ?_
  repeat (refine stp ?_)
  exact ret1 rfl h
theorem wy_ack {L L1 R K b s0 s1 n0 kv tv a} {n : Int} {l : List SVy} [p : Pull (pto b) L (cells [s0, s1, tv, .int .i64 a, n0, kv] 258) L1] [q : Pull (own encY 27 tv) L1 l R] (h : Ht (own encY 27 tv l :: pto b (cells [s0, s1, tv, .int .i64 (if a < n ∧ n ≤ l.length then n else a), n0, kv] 258) :: R) (K (.int .i64 (if a < n ∧ n ≤ l.length then n else a)))) :
    Ht L (CCall Try.prog 144 [.pointer (some ⟨b, 2, none⟩), .int .i64 n] K) := by
  refine Ht.pull p (Ht.two q ?_)
  refine ccall2 Try.func144 rfl (by decide) Try.ntmps144 (by rfl) (by decide) ?_
  repeat (refine stp ?_)
  refine wy_acked ?_
  repeat (refine stp ?_)
  refine ht_guard ?_ ?_ <;> intro h0 <;> simp only [decide_eq_true_eq, decide_eq_false_iff_not] at h0
  · repeat (refine stp ?_)
    refine wy_len ?_
    repeat (refine stp ?_)
    refine ht_if ?_ ?_ <;> intro h1 <;> simp only [decide_eq_true_eq, decide_eq_false_iff_not] at h1
    · rw [if_pos ⟨h0, h1⟩] at h
      repeat (refine stp ?_)
      refine wy_acked ?_
      repeat (refine stp ?_)
      exact ret1 rfl (Ht.frm h)
    · rw [if_neg (fun hh => h1 hh.2)] at h
      repeat (refine stp ?_)
      refine wy_acked ?_
      repeat (refine stp ?_)
      exact ret1 rfl (Ht.frm h)
  · rw [if_neg (fun hh => h0 hh.1)] at h
    repeat (refine stp ?_)
    refine wy_acked ?_
    repeat (refine stp ?_)
    exact ret1 rfl (Ht.frm h)
theorem wy_ack_nil {L K} {n : Int} (h : Ht L (K (.int .i64 0))) : Ht L (CCall Try.prog 144 [.pointer none, .int .i64 n] K) := by
  refine ccall2 Try.func144 rfl (by decide) Try.ntmps144 (by rfl) (by decide) ?_
  repeat (refine stp ?_)
  refine wy_acked_nil ?_
  repeat (refine stp ?_)
  refine ht_guard ?_ ?_ <;> intro h0 <;> simp only [decide_eq_true_eq, decide_eq_false_iff_not] at h0
  · repeat (refine stp ?_)
    refine wy_len_nil ?_
    repeat (refine stp ?_)
    refine ht_if_f (by simp; omega) ?_
    repeat (refine stp ?_)
    refine wy_acked_nil ?_
    repeat (refine stp ?_)
    exact ret1 rfl h
  · repeat (refine stp ?_)
    refine wy_acked_nil ?_
    repeat (refine stp ?_)
    exact ret1 rfl h
theorem wy_window {L L1 R K b s0 s1 n0 kv tv} {a : Nat} {l : List SVy} [p : Pull (pto b) L (cells [s0, s1, tv, .int .i64 (a : Int), n0, kv] 258) L1] [q : Pull (own encY 27 tv) L1 l R] (hn : l.length ≤ 1000000) (ha : a ≤ l.length)
    (h : ∀ v', Ht (own encY 27 v' ((l.take (a + 16)).drop a) :: own encY 27 tv l :: pto b (cells [s0, s1, tv, .int .i64 (a : Int), n0, kv] 258) :: R) (K (.tuple #[.int .i64 a, v']))) : Ht L (CCall Try.prog 148 [.pointer (some ⟨b, 2, none⟩)] K) := by
  refine Ht.pull p (Ht.two q ?_)
  refine ccall1 Try.func148 rfl (by decide) Try.ntmps148 (by rfl) (by decide) ?_
  repeat (refine stp ?_)
  refine wy_acked ?_
  repeat (refine stp ?_)
  refine wy_len ?_
  repeat (refine stp ?_)
  have hw : IntKind.i64.wrap ((a : Int) + 16) = ((a + 16 : Nat) : Int) := by rw [IntWalk.i64_in _ (by omega)]; omega
  have hm : (if IntKind.i64.wrap ((a : Int) + 16) < (l.length : Int) then IntKind.i64.wrap ((a : Int) + 16) else (l.length : Int)) = ((min l.length (a + 16) : Nat) : Int) := by rw [hw]; split <;> omega
  rewrite [hm]
  refine ht_if ?_ ?_ <;> intro h0 <;> simp only [decide_eq_true_eq, decide_eq_false_iff_not] at h0
  · repeat (refine stp ?_)
    have hh := h (.slice none 0 0)
    rw [show (l.take (a + 16)).drop a = [] from List.drop_of_length_le (by simp; omega)] at hh
    exact ret2 rfl (Ht.frm (Ht.conseq hh (fun w s => own_nil.2 s)))
  · repeat (refine stp ?_)
    refine co_slice (by omega) ?_
    intro hsl
    repeat (refine stp ?_)
    refine wy_clone (xs := (l.take (min l.length (a + 16))).drop a) (by simp; omega) ?_
    intro v'
    repeat (refine stp ?_)
    have hh := h v'
    rw [take_minl l (a + 16)] at hh
    exact ret2 rfl (Ht.frm hh)
theorem wy_window_nil {L K} (h : Ht L (K (.tuple #[.int .i64 0, .slice none 0 0]))) : Ht L (CCall Try.prog 148 [.pointer none] K) := by
  refine ccall1 Try.func148 rfl (by decide) Try.ntmps148 (by rfl) (by decide) ?_
  repeat (refine stp ?_)
  refine wy_acked_nil ?_
  repeat (refine stp ?_)
  refine wy_len_nil ?_
  repeat (refine stp ?_)
  refine ht_if_t (by decide) ?_
  repeat (refine stp ?_)
  exact ret2 rfl h

/-! ### what comes in -/
def wy_offM (nx n : Int) (xs : List (Int × SVy)) : Int := if n < nx then 8 else if 16 ≤ n - nx then 7 else if thas n xs then 6 else 0
theorem wy_next {L L1 K b s0 s1 t0 a0 tv} {nx : Int} [p : Pull (pto b) L (cells [s0, s1, t0, a0, .int .i64 nx, tv] 258) L1] (h : Ht (pto b (cells [s0, s1, t0, a0, .int .i64 nx, tv] 258) :: L1) (K (.int .i64 nx))) : Ht L (CCall Try.prog 153 [.pointer (some ⟨b, 4, none⟩)] K) := by
  refine Ht.pull p ?_
  refine ccall1 Try.func153 rfl (by decide) Try.ntmps153 (by rfl) (by decide) ?_
  repeat (refine stp ?_)
  exact ret1 rfl h
theorem wy_next_nil {L K} (h : Ht L (K (.int .i64 0))) : Ht L (CCall Try.prog 153 [.pointer none] K) := by
  refine ccall1 Try.func153 rfl (by decide) Try.ntmps153 (by rfl) (by decide) ?_
  repeat (refine stp ?_)
  exact ret1 rfl h
theorem wy_start {L L1 K b s0 s1 t0 a0 tv} {nx n : Int} [p : Pull (pto b) L (cells [s0, s1, t0, a0, .int .i64 nx, tv] 258) L1]
    (h : Ht (pto b (if n < 0 ∨ 1099511627776 < n then cells [s0, s1, t0, a0, .int .i64 nx, tv] 258 else cells [s0, s1, t0, a0, .int .i64 n, .slice none 0 0] 258) :: L1) (K (.int .i64 (if n < 0 ∨ 1099511627776 < n then 1 else 0)))) :
    Ht L (CCall Try.prog 150 [.pointer (some ⟨b, 4, none⟩), .int .i64 n] K) := by
  refine Ht.pull p ?_
  refine ccall2 Try.func150 rfl (by decide) Try.ntmps150 (by rfl) (by decide) ?_
  repeat (refine stp ?_)
  refine ht_guard ?_ ?_ <;> intro h0 <;> simp only [decide_eq_true_eq, decide_eq_false_iff_not] at h0
  · rw [if_pos (.inl h0), if_pos (.inl h0)] at h
    repeat (refine stp ?_)
    exact ret1 rfl h
  · repeat (refine stp ?_)
    refine ht_if ?_ ?_ <;> intro h1 <;> simp only [decide_eq_true_eq, decide_eq_false_iff_not] at h1
    · rw [if_pos (.inr h1), if_pos (.inr h1)] at h
      repeat (refine stp ?_)
      exact ret1 rfl h
    · rw [if_neg (by omega), if_neg (by omega)] at h
      repeat (refine stp ?_)
      exact ret1 rfl h
theorem wy_start_nil {L K} {n : Int} (h : Ht L (K (.int .i64 10))) : Ht L (CCall Try.prog 150 [.pointer none, .int .i64 n] K) := by
  refine ccall2 Try.func150 rfl (by decide) Try.ntmps150 (by rfl) (by decide) ?_
  repeat (refine stp ?_)
  exact ret1 rfl h
theorem wy_offer {L L1 R K b s0 s1 t0 a0 tv} {nx n : Int} {x : SVy} {xs : List (Int × SVy)} [p : Pull (pto b) L (cells [s0, s1, t0, a0, .int .i64 nx, tv] 258) L1] [q : Pull (own enc_iy 356 tv) L1 xs R] (hs : Srt xs) (hl : xs.length ≤ 900000)
    (hx : 0 ≤ nx) (hn : n ≤ 9223372036854775807)
    (h : ∀ v', Ht (own enc_iy 356 v' (if wy_offM nx n xs = 0 then tput n x xs else xs) :: pto b (cells [s0, s1, t0, a0, .int .i64 nx, v'] 258) :: R) (K (.int .i64 (wy_offM nx n xs)))) :
    Ht L (CCall Try.prog 145 [.pointer (some ⟨b, 4, none⟩), .int .i64 n, .slice (x).1 (x).2.1 (x).2.2] K) := by
  refine Ht.pull p (Ht.two q ?_)
  refine ccall3 Try.func145 rfl (by decide) Try.ntmps145 (by rfl) (by decide) ?_
  repeat (refine stp ?_)
  refine ht_if ?_ ?_ <;> intro h0 <;> simp only [decide_eq_true_eq, decide_eq_false_iff_not] at h0
  · have e : wy_offM nx n xs = 8 := if_pos h0
    rw [e] at h
    repeat (refine stp ?_)
    exact ret1 rfl (h tv)
  · repeat (refine stp ?_)
    rewrite [show IntKind.i64.wrap (n - nx) = n - nx from IntWalk.i64_in _ (by omega)]
    refine ht_if ?_ ?_ <;> intro h1 <;> simp only [decide_eq_true_eq, decide_eq_false_iff_not] at h1
    · have e : wy_offM nx n xs = 7 := by rw [wy_offM, if_neg h0, if_pos h1]
      rw [e] at h
      repeat (refine stp ?_)
      exact ret1 rfl (h tv)
    · repeat (refine stp ?_)
      refine iy_get hs (by omega) ?_
      repeat (refine stp ?_)
      refine ht_if ?_ ?_ <;> intro h2
      · have e : wy_offM nx n xs = 6 := by rw [wy_offM, if_neg h0, if_neg h1, if_pos h2]
        rw [e] at h
        repeat (refine stp ?_)
        exact ret1 rfl (h tv)
      · have e : wy_offM nx n xs = 0 := by rw [wy_offM, if_neg h0, if_neg h1, if_neg (by rw [h2]; simp)]
        rw [e] at h
        repeat (refine stp ?_)
        refine iy_put (fun v' => ⟨[s0, s1, t0, a0, .int .i64 nx, v'], inferInstance⟩) hs hl ?_
        intro v' l' hl'
        have e2 : l' = [s0, s1, t0, a0, .int .i64 nx, v'] := by have := hl'.h.2; simpa using this.symm
        subst e2
        repeat (refine stp ?_)
        exact ret1 rfl (h v')
theorem wy_offer_nil {L K} {n : Int} {x : SVy} (h : Ht L (K (.int .i64 10))) : Ht L (CCall Try.prog 145 [.pointer none, .int .i64 n, .slice (x).1 (x).2.1 (x).2.2] K) := by
  refine ccall3 Try.func145 rfl (by decide) Try.ntmps145 (by rfl) (by decide) ?_
  repeat (refine stp ?_)
  exact ret1 rfl h
theorem wy_ready {L L1 R K b s0 s1 t0 a0 tv} {nx : Int} {xs : List (Int × SVy)} [p : Pull (pto b) L (cells [s0, s1, t0, a0, .int .i64 nx, tv] 258) L1] [q : Pull (own enc_iy 356 tv) L1 xs R] (hs : Srt xs) (hl : xs.length ≤ 900000)
    (h : Ht (own enc_iy 356 tv xs :: pto b (cells [s0, s1, t0, a0, .int .i64 nx, tv] 258) :: R) (K (.tuple #[.slice (((tfind nx xs).getD ((none, 0, 0) : SVy))).1 (((tfind nx xs).getD ((none, 0, 0) : SVy))).2.1 (((tfind nx xs).getD ((none, 0, 0) : SVy))).2.2, .bool (thas nx xs)]))) :
    Ht L (CCall Try.prog 151 [.pointer (some ⟨b, 4, none⟩)] K) := by
  refine Ht.pull p (Ht.two q ?_)
  refine ccall1 Try.func151 rfl (by decide) Try.ntmps151 (by rfl) (by decide) ?_
  repeat (refine stp ?_)
  refine ht_draw Try.can151x4 Try.mixed (by kernel_rfl) ?_
  repeat (refine stp ?_)
  refine iy_get hs (by omega) ?_
  repeat (refine stp ?_)
  exact ret2 rfl h
theorem wy_ready_nil {L K} (h : Ht L (K (.tuple #[.slice (((none, 0, 0) : SVy)).1 (((none, 0, 0) : SVy)).2.1 (((none, 0, 0) : SVy)).2.2, .bool false]))) : Ht L (CCall Try.prog 151 [.pointer none] K) := by
  refine ccall1 Try.func151 rfl (by decide) Try.ntmps151 (by rfl) (by decide) ?_
  repeat (refine stp ?_)
  exact ret2 rfl h
theorem wy_pop {L L1 R K b s0 s1 t0 a0 tv} {nx : Int} {xs : List (Int × SVy)} [p : Pull (pto b) L (cells [s0, s1, t0, a0, .int .i64 nx, tv] 258) L1] [q : Pull (own enc_iy 356 tv) L1 xs R] (hs : Srt xs) (hl : xs.length ≤ 900000) (hx : 0 ≤ nx ∧ nx ≤ 9223372036854775000)
    (h : ∀ v', Ht (own enc_iy 356 v' (tdrop nx xs) :: pto b (cells [s0, s1, t0, a0, .int .i64 (if thas nx xs then nx + 1 else nx), v'] 258) :: R) (K (.tuple #[.slice (((tfind nx xs).getD ((none, 0, 0) : SVy))).1 (((tfind nx xs).getD ((none, 0, 0) : SVy))).2.1 (((tfind nx xs).getD ((none, 0, 0) : SVy))).2.2, .bool (thas nx xs)]))) :
    Ht L (CCall Try.prog 147 [.pointer (some ⟨b, 4, none⟩)] K) := by
  refine Ht.pull p (Ht.two q ?_)
  refine ccall1 Try.func147 rfl (by decide) Try.ntmps147 (by rfl) (by decide) ?_
  repeat (refine stp ?_)
  refine wy_ready hs (by omega) ?_
  repeat (refine stp ?_)
  refine ht_if ?_ ?_ <;> intro h0
  · repeat (refine stp ?_)
    refine ht_draw Try.can147x3 Try.mixed (by kernel_rfl) ?_
    repeat (refine stp ?_)
    refine iy_drop (fun v' => ⟨[s0, s1, t0, a0, .int .i64 nx, v'], inferInstance⟩) hs (by omega) ?_
    intro v' l' hl'
    have e2 : l' = [s0, s1, t0, a0, .int .i64 nx, v'] := by have := hl'.h.2; simpa using this.symm
    subst e2
    repeat (refine stp ?_)
    refine ret2 rfl ?_
    have hh := h v'
    rw [if_pos h0] at hh
    rewrite [show IntKind.i64.wrap (nx + 1) = nx + 1 from IntWalk.i64_in _ (by omega)]
    exact Ht.frm hh
  · repeat (refine stp ?_)
    refine ret2 rfl ?_
    have hh := h tv
    rw [if_neg (by rw [h0]; simp), tdrop, if_neg (by rw [h0]; simp)] at hh
    exact hh
theorem wy_pop_nil {L K} (h : Ht L (K (.tuple #[.slice (((none, 0, 0) : SVy)).1 (((none, 0, 0) : SVy)).2.1 (((none, 0, 0) : SVy)).2.2, .bool false]))) : Ht L (CCall Try.prog 147 [.pointer none] K) := by
  refine ccall1 Try.func147 rfl (by decide) Try.ntmps147 (by rfl) (by decide) ?_
  repeat (refine stp ?_)
  refine wy_ready_nil ?_
  repeat (refine stp ?_)
  exact ret2 rfl h
end Go.Proofs

set_option linter.all false
set_option synthInstance.maxSize 100000
set_option synthInstance.maxHeartbeats 400000
namespace Go.SL
open Go
/-! ### Sorted rows whose values stand for something else; one region for each row -/
section
variable {κ ν ν' : Type} [KLt κ]
theorem ktpos_map (f : ν → ν') (k : κ) (l : List (κ × ν)) : tpos k (l.map fun x => (x.1, f x.2)) = tpos k l := by
  unfold tpos
  rw [List.takeWhile_map, List.length_map]; rfl
theorem ktfind_map (f : ν → ν') (k : κ) (l : List (κ × ν)) : tfind k (l.map fun x => (x.1, f x.2)) = (tfind k l).map f := by
  unfold tfind
  rw [ktpos_map, List.getElem?_map]
  cases l[tpos k l]? with
  | none => rfl
  | some r =>
    show (if r.1 = k then some (f r.2) else none) = (if r.1 = k then some r.2 else none).map f
    split <;> rfl
theorem kthas_map (f : ν → ν') (k : κ) (l : List (κ × ν)) : thas k (l.map fun x => (x.1, f x.2)) = thas k l := by
  unfold thas; rw [ktfind_map, Option.isSome_map]
theorem ktput_map (f : ν → ν') (k : κ) (v : ν) (l : List (κ × ν)) : (tput k v l).map (fun x => (x.1, f x.2)) = tput k (f v) (l.map fun x => (x.1, f x.2)) := by
  unfold tput
  rw [ktpos_map, kthas_map, List.map_append, List.map_take, List.map_cons, List.map_drop]
theorem ktdrop_map (f : ν → ν') (k : κ) (l : List (κ × ν)) : (tdrop k l).map (fun x => (x.1, f x.2)) = tdrop k (l.map fun x => (x.1, f x.2)) := by
  unfold tdrop
  rw [ktpos_map, kthas_map]
  split
  · rw [List.map_append, List.map_take, List.map_drop]
  · rfl
theorem ksrt_map (f : ν → ν') {l : List (κ × ν)} : Srt (l.map fun x => (x.1, f x.2)) ↔ Srt l := by
  unfold Srt; rw [List.pairwise_map]
variable {F : κ × ν → HP}
theorem bigK_drop {g : List (κ × ν)} {i : Nat} {R : List HP} {w : World} (hi : i < g.length) (s : Sat (bigO F g :: R) w) : Sat (bigO F (g.take i ++ g.drop (i + 1)) :: R) w := by
  have e : g = g.take i ++ g[i] :: g.drop (i + 1) := by rw [← List.drop_eq_getElem_cons hi, List.take_append_drop]
  rw [e] at s
  have hl : (g.take i).length = i := by simp; omega
  have := (bigO_split.1 s)
  have h2 := seps_tail this
  exact h2
theorem bigK_put {g : List (κ × ν)} {k : κ} {x : ν} {R : List HP} {w : World} (s : Sat (F (k, x) :: bigO F g :: R) w) : Sat (bigO F (tput k x g) :: R) w := by
  unfold tput
  refine bigO_split.2 ?_
  refine seps_mono (fun _ a => a) (fun _ t => ?_) s
  by_cases hh : thas k g = true
  · rw [if_pos hh]
    have hlt : tpos k g < g.length := by
      unfold thas at hh
      obtain ⟨v, hv⟩ := Option.isSome_iff_exists.1 hh
      exact (List.getElem?_eq_some_iff.1 (tfind_some hv)).1
    have e : g = g.take (tpos k g) ++ g[tpos k g] :: g.drop (tpos k g + 1) := by rw [← List.drop_eq_getElem_cons hlt, List.take_append_drop]
    have t2 := t
    rw [e] at t2
    exact seps_tail (bigO_split.1 t2)
  · rw [if_neg hh, List.take_append_drop]; exact t
theorem bigK_del {g : List (κ × ν)} {k : κ} {R : List HP} {w : World} (s : Sat (bigO F g :: R) w) : Sat (bigO F (tdrop k g) :: R) w := by
  unfold tdrop
  by_cases hh : thas k g = true
  · rw [if_pos hh]
    have hlt : tpos k g < g.length := by
      unfold thas at hh
      obtain ⟨v, hv⟩ := Option.isSome_iff_exists.1 hh
      exact (List.getElem?_eq_some_iff.1 (tfind_some hv)).1
    exact bigK_drop hlt s
  · rw [if_neg hh]; exact s
end
/-- of a list of regions one that is looked at -/
theorem bigO_at {β : Type} {F : β → HP} {g : List β} {x : β} (hx : x ∈ g) {R : List HP} {w : World} (s : Sat (bigO F g :: R) w) : ∃ R', Sat (F x :: R') w := by
  obtain ⟨i, hi, rfl⟩ := List.getElem_of_mem hx
  have e : g = g.take i ++ g[i] :: g.drop (i + 1) := by rw [← List.drop_eq_getElem_cons hi, List.take_append_drop]
  have s2 : Sat (bigO F (g.take i ++ g[i] :: g.drop (i + 1)) :: R) w := by rw [← e]; exact s
  exact ⟨_, bigO_split.1 s2⟩
section control
variable {P : Program} {ρ : Option Nat} {N : Nat} {E : List (Nat × Value)} {L : List HP}
/-- a result in a cell, and two plain ones -/
theorem retctt {fn : Func} {K : Value → World → Prop} {t u u2 T : Nat} {a : Addr} {v x y : Value} (hr : fn.results = #[.cell t T, .tmp u, .tmp u2]) [l : Look E t (.pointer (some a))] [m : Look E u x] [m2 : Look E u2 y] [vr : Var P L T a v] (h : Ht L (K (.tuple #[v, x, y]))) : Ht L (CX N [] E .ret (FnPost P fn K)) :=
  fnpost_sat (fun N ac w r s => by
    have := r.vals t _ l.h
    have := r.vals u _ m.h
    have := r.vals u2 _ m2.h
    simp only [results, hr]
    simp [*, asAddr, Sem.run_bind, Result.andThen, vr.h w s]) h
end control
end Go.SL

set_option linter.all false
set_option synthInstance.maxSize 100000
set_option synthInstance.maxHeartbeats 400000
namespace Go.Proofs
open Go Go.SL
attribute [local irreducible] CCall CO CC CX CD

theorem yClone_spec {L K v} {xs : List UInt8} [rs : RdE L encB v xs] (hn : (xs.length : Int) ≤ 140737488355328) (h : ∀ v', Ht (own encB 5 v' xs :: L) (K v')) : Ht L (CCall Try.prog 103 [v] K) := by
  haveI := rs.toS
  refine ccall1 Try.func103 rfl (by decide) Try.ntmps103 (by rfl) (by decide) ?_
  repeat (refine stp ?_)
  refine ht_if ?_ ?_ <;> intro h0
  · repeat (refine stp ?_)
    refine ret1 rfl ?_
    refine Ht.know (p := xs = []) (fun w s => ?_) (fun hx => ?_)
    · rcases rs.h w s with ⟨rfl, hx⟩ | ⟨a, c, rfl, _⟩
      · exact hx
      · cases h0
    · subst hx
      exact Ht.conseq (h _) (fun w s => own_nil.2 s)
  · repeat (refine stp ?_)
    intro v0
    repeat (refine stp ?_)
    refine Ht.own_lit encB (b := v0) (xs := []) rfl rfl (by decide) ?_
    refine co_append (e := encB) (by rfl) ?_ ?_ ?_
    · simp; omega
    · simp; omega
    intro v'
    repeat (refine stp ?_)
    exact ret1 rfl (h v')


theorem ySame_spec {L K v u} {xs ys : List UInt8} [r1 : RdE L encB v xs] [r2 : RdE L encB u ys] (h : Ht L (K (.bool (decide (xs = ys))))) : Ht L (CCall Try.prog 16 [v, u] K) := by
  haveI := r1.toS
  haveI := r2.toS
  refine Ht.know (p := xs.length ≤ 9223372036854775807) (fun w s => (r1.h w s).le) (fun hx => ?_)
  refine ccall2 Try.func16 rfl (by decide) Try.ntmps16 (by rfl) (by decide) ?_
  repeat (refine stp ?_)
  refine ht_if ?_ ?_ <;> intro h0 <;> simp at h0
  · repeat (refine stp ?_)
    refine ret1 rfl ?_
    have : xs ≠ ys := fun e => h0 (by rw [e])
    simpa [this] using h
  · repeat (refine stp ?_)
    refine ht_for xs.length (fun i (_ : Unit) => xs.take i = ys.take i) (fun i _ => L) (fun i _ => [(5, .int .i64 i)]) () [5] (by simp) (fun _ s => s) (SubE.cons rfl inferInstance) ?_
    intro i _ hi hx
    dsimp only [List.cons_append, List.nil_append]
    repeat (refine stp ?_)
    refine ht_if ?_ ?_ <;> intro hc <;> simp at hc
    · repeat (refine stp ?_)
      refine ht_draw Try.can16x6 Try.mixed (by kernel_rfl) ?_
      repeat (refine stp ?_)
      refine cd_index (xs := xs) (by simp; omega) ?_
      intro hb1 _
      repeat (refine stp ?_)
      refine cd_index (xs := ys) (by simp; omega) ?_
      intro hb2 _
      repeat (refine stp ?_)
      have g1 : xs[i]! = xs[i] := getElem!_pos xs i hb1.h
      have g2 : ys[i]! = ys[i] := getElem!_pos ys i hb2.h
      rw [g1, g2]
      refine ht_if ?_ ?_ <;> intro hne
      · repeat (refine stp ?_)
        refine ret1 rfl ?_
        have : xs ≠ ys := fun e => by subst e; simp at hne
        simpa [this] using h
      · repeat (refine stp ?_)
        refine ht_next () hb1.h ?_ (fun _ s => s) (SubE.cons (by rw [IntWalk.i64_in _ (by omega)]; rfl) inferInstance) rfl rfl
        simp only [ne_eq, decide_not, Bool.not_eq_false', decide_eq_true_eq] at hne
        rw [List.take_succ_eq_append_getElem hb1.h, List.take_succ_eq_append_getElem hb2.h, hx]
        rw [UInt8.toNat_inj.1 (by omega : (xs[i]'hb1.h).toNat = (ys[i]'hb2.h).toNat)]
    · repeat (refine stp ?_)
      refine ret1 rfl ?_
      have e : xs = ys := by
        have h1 : i = xs.length := by omega
        have h2 : i = ys.length := by omega
        rw [h1, List.take_length] at hx
        rw [← h1, h2, List.take_length] at hx
        exact hx
      simpa [e] using h

theorem ySame_spec' {L K v u} {xs ys : List UInt8} [r1 : RdE L encB v xs] [r2 : RdE L encB u ys] (e : xs = ys) (h : Ht L (K (.bool true))) : Ht L (CCall Try.prog 16 [v, u] K) :=
  ySame_spec (by simpa [e] using h)

/-! ### a pipe's end -/
structure PSt where
  self : Int
  peer : Int
  said : List (List UInt8)
  acked : Nat
  next : Int
  kept : List (Int × List UInt8)
abbrev GR := List (Int × SB)
def rvals (r : GR) : List (Int × SVy) := r.map fun x => (x.1, x.2.1)
def rbytes (r : GR) : List (Int × List UInt8) := r.map fun x => (x.1, x.2.2)
def gsv (g : List SB) : List SVy := g.map fun x => x.1
def gby (g : List SB) : List (List UInt8) := g.map fun x => x.2
def rown : Int × SB → HP := fun x => ownY 5 x.2
def isPipe (b : Nat) (s : PSt) : HP := exs fun (p : (Value × Value) × (List SB × GR)) => seps [pur (gby p.2.1 = s.said ∧ rbytes p.2.2 = s.kept ∧ Srt s.kept), pto b (cells [.int .i64 s.self, .int .i64 s.peer, p.1.1, .int .i64 s.acked, .int .i64 s.next, p.1.2] 258), own encY 27 p.1.1 (gsv p.2.1), bigO (ownY 5) p.2.1, own enc_iy 356 p.1.2 (rvals p.2.2), bigO rown p.2.2]
theorem pp_open {b : Nat} {s : PSt} {R : List HP} {G : World → Prop}
    (h : ∀ tv kv g r, gby g = s.said → rbytes r = s.kept → Srt s.kept → Srt (rvals r) → (gsv g).length = s.said.length → (rvals r).length = s.kept.length → Ht (pto b (cells [.int .i64 s.self, .int .i64 s.peer, tv, .int .i64 s.acked, .int .i64 s.next, kv] 258) :: own encY 27 tv (gsv g) :: bigO (ownY 5) g :: own enc_iy 356 kv (rvals r) :: bigO rown r :: R) G) : Ht (isPipe b s :: R) G := by
  refine Ht.exs fun p => Ht.seps (Ht.pur fun hp => ?_)
  obtain ⟨h1, h2, h3⟩ := hp
  have h4 : Srt p.2.2 := by have := h3; rw [← h2] at this; exact (ksrt_map (fun x : SB => x.2)).1 this
  exact h p.1.1 p.1.2 p.2.1 p.2.2 h1 h2 h3 ((ksrt_map (fun x : SB => x.1)).2 h4) (by rw [← h1]; simp [gsv, gby]) (by rw [← h2]; simp [rvals, rbytes])
theorem pp_shut {b : Nat} {s : PSt} {tv kv : Value} {g : List SB} {r : GR} {o : Obj} {xs : List SVy} {ys : List (Int × SVy)} {L L1 L2 L3 L4 R R' : List HP} {w : World} [p1 : Pull (pto b) L o L1] [p2 : Pull (own encY 27 tv) L1 xs L2] [p3 : Pull (bigO (ownY 5)) L2 g L3] [p4 : Pull (own enc_iy 356 kv) L3 ys L4] [p5 : Pull (bigO rown) L4 r R] [fr : Frm R R']
    (ho : o = cells [.int .i64 s.self, .int .i64 s.peer, tv, .int .i64 s.acked, .int .i64 s.next, kv] 258) (hx : xs = gsv g) (hy : ys = rvals r) (hg : gby g = s.said) (hr : rbytes r = s.kept) (hs : Srt s.kept) (sat : Sat L w) : Sat (isPipe b s :: R') w := by
  have h1 := p1.h _ _ sat
  have h2 := seps_mono (fun _ a => a) (fun _ t => p2.h _ _ t) h1
  have h3 := seps_mono (fun _ a => a) (fun _ t => seps_mono (fun _ a => a) (fun _ t => p3.h _ _ t) t) h2
  have h4 := seps_mono (fun _ a => a) (fun _ t => seps_mono (fun _ a => a) (fun _ t => seps_mono (fun _ a => a) (fun _ t => p4.h _ _ t) t) t) h3
  have h5 := seps_mono (fun _ a => a) (fun _ t => seps_mono (fun _ a => a) (fun _ t => seps_mono (fun _ a => a) (fun _ t => seps_mono (fun _ a => a) (fun _ t => p5.h _ _ t) t) t) t) h4
  subst ho; subst hx; subst hy
  refine seps_exs.2 ⟨((tv, kv), (g, r)), seps_seps.2 (seps_pur.2 ⟨⟨hg, hr, hs⟩, ?_⟩)⟩
  exact seps_mono (fun _ a => a) (fun _ t => seps_mono (fun _ a => a) (fun _ t => seps_mono (fun _ a => a) (fun _ t => seps_mono (fun _ a => a) (fun _ t => seps_mono (fun _ a => a) (fun _ t => fr.h _ _ t) t) t) t) t) h5
theorem pp_close {b : Nat} {s : PSt} {tv kv : Value} {g : List SB} {r : GR} {o : Obj} {xs : List SVy} {ys : List (Int × SVy)} {L L1 L2 L3 L4 R R' : List HP} {G : World → Prop} [p1 : Pull (pto b) L o L1] [p2 : Pull (own encY 27 tv) L1 xs L2] [p3 : Pull (bigO (ownY 5)) L2 g L3] [p4 : Pull (own enc_iy 356 kv) L3 ys L4] [p5 : Pull (bigO rown) L4 r R] [fr : Frm R R']
    (ho : o = cells [.int .i64 s.self, .int .i64 s.peer, tv, .int .i64 s.acked, .int .i64 s.next, kv] 258) (hx : xs = gsv g) (hy : ys = rvals r) (hg : gby g = s.said) (hr : rbytes r = s.kept) (hs : Srt s.kept) (h : Ht (isPipe b s :: R') G) : Ht L G := fun w sat => h w (pp_shut ho hx hy hg hr hs sat)
def pairM (a b : Int) : Bool := decide (0 ≤ a) && decide (a < 3) && (decide (0 ≤ b) && decide (b < 3)) && decide (a ≠ b)
theorem ccp_spec {L K} {n : Int} (h : Ht L (K (.bool (decide (0 ≤ n) && decide (n < 3))))) : Ht L (CCall Try.prog 206 [.int .i64 n] K) := by
  refine ccall1 Try.func206 rfl (by decide) Try.ntmps206 (by rfl) (by decide) ?_
  repeat (refine stp ?_)
  refine ht_guard ?_ ?_ <;> intro h0 <;> simp only [decide_eq_true_eq, decide_eq_false_iff_not] at h0
  · rw [decide_eq_true (show 0 ≤ n by omega), Bool.true_and] at h
    repeat (refine stp ?_)
    exact ret1 rfl h
  · rw [decide_eq_false (show ¬ 0 ≤ n by omega), Bool.false_and] at h
    repeat (refine stp ?_)
    exact ret1 rfl h
theorem pair_spec {L K} {a b : Int} (h : Ht L (K (.bool (pairM a b)))) : Ht L (CCall Try.prog 141 [.int .i64 a, .int .i64 b] K) := by
  refine ccall2 Try.func141 rfl (by decide) Try.ntmps141 (by rfl) (by decide) ?_
  repeat (refine stp ?_)
  refine ccp_spec ?_
  unfold pairM at h
  repeat (refine stp ?_)
  refine ht_guard ?_ ?_ <;> intro h0
  · rw [h0, Bool.true_and] at h
    repeat (refine stp ?_)
    refine ccp_spec ?_
    repeat (refine stp ?_)
    refine ht_guard ?_ ?_ <;> intro h1
    · rw [h1, Bool.true_and] at h
      repeat (refine stp ?_)
      exact ret1 rfl h
    · rw [h1, Bool.false_and] at h
      repeat (refine stp ?_)
      exact ret1 rfl h
  · rw [h0, Bool.false_and, Bool.false_and] at h
    repeat (refine stp ?_)
    exact ret1 rfl h
theorem PNew_spec {L K} {a p : Int} (h1 : pairM a p = false → Ht L (K (.tuple #[.pointer none, .int .i64 5]))) (h2 : pairM a p = true → ∀ b, Ht (isPipe b ⟨a, p, [], 0, 0, []⟩ :: L) (K (.tuple #[.pointer (some ⟨b, 0, none⟩), .int .i64 0]))) : Ht L (CCall Try.prog 56 [.int .i64 a, .int .i64 p] K) := by
  refine ccall2 Try.func56 rfl (by decide) Try.ntmps56 (by rfl) (by decide) ?_
  repeat (refine stp ?_)
  refine pair_spec ?_
  repeat (refine stp ?_)
  refine ht_if ?_ ?_ <;> intro h0 <;> simp only [Bool.not_eq_true', Bool.not_eq_false'] at h0
  · repeat (refine stp ?_)
    exact ret2 rfl (h1 h0)
  · repeat (refine stp ?_)
    intro b
    repeat (refine stp ?_)
    refine ret2 rfl (Ht.conseq (h2 h0 b) (fun w s => ?_))
    have s1 := (bigO_nil (f := ownY 5)).2 ((bigO_nil (f := rown)).2 (own_nil (e := encY) (T := 27).2 (own_nil (e := enc_iy) (T := 356).2 s)))
    exact pp_shut (s := ⟨a, p, [], 0, 0, []⟩) (tv := .slice none 0 0) (kv := .slice none 0 0) (g := []) (r := []) rfl rfl rfl rfl rfl .nil s1
theorem PSaid_spec {L R K b s} [p : Pull (isPipe b) L s R] (h : Ht (isPipe b s :: R) (K (.int .i64 s.said.length))) : Ht L (CCall Try.prog 71 [.pointer (some ⟨b, 0, none⟩)] K) := by
  refine Ht.pull p (pp_open fun tv kv g r hg hr hs hs' hgl hrl => ?_)
  refine ccall1 Try.func71 rfl (by decide) Try.ntmps71 (by rfl) (by decide) ?_
  repeat (refine stp ?_)
  refine wy_len ?_
  rewrite [hgl]
  repeat (refine stp ?_)
  exact ret1 rfl (pp_close (s := s) (g := g) (r := r) rfl rfl rfl hg hr hs h)
theorem PWaiting_spec {L R K b s} [p : Pull (isPipe b) L s R] (h : Ht (isPipe b s :: R) (K (.int .i64 (IntKind.i64.wrap ((s.said.length : Int) - s.acked))))) : Ht L (CCall Try.prog 72 [.pointer (some ⟨b, 0, none⟩)] K) := by
  refine Ht.pull p (pp_open fun tv kv g r hg hr hs hs' hgl hrl => ?_)
  refine ccall1 Try.func72 rfl (by decide) Try.ntmps72 (by rfl) (by decide) ?_
  repeat (refine stp ?_)
  refine wy_waiting ?_
  rewrite [hgl]
  repeat (refine stp ?_)
  exact ret1 rfl (pp_close (s := s) (g := g) (r := r) rfl rfl rfl hg hr hs h)
theorem PTaken_spec {L R K b s} [p : Pull (isPipe b) L s R] (h : Ht (isPipe b s :: R) (K (.int .i64 s.next))) : Ht L (CCall Try.prog 73 [.pointer (some ⟨b, 0, none⟩)] K) := by
  refine Ht.pull p (pp_open fun tv kv g r hg hr hs hs' hgl hrl => ?_)
  refine ccall1 Try.func73 rfl (by decide) Try.ntmps73 (by rfl) (by decide) ?_
  repeat (refine stp ?_)
  refine wy_next ?_
  repeat (refine stp ?_)
  exact ret1 rfl (pp_close (s := s) (g := g) (r := r) rfl rfl rfl hg hr hs h)
end Go.Proofs

set_option linter.all false
set_option synthInstance.maxSize 100000
set_option synthInstance.maxHeartbeats 400000
namespace Go.Proofs
open Go Go.SL
attribute [local irreducible] CCall CO CC CX CD

instance {s : SVy} : One1 (svY s) := ⟨rfl⟩
theorem gsv_len {ms : List SB} : (gsv ms).length = ms.length := by simp [gsv]
theorem gby_len {ms : List SB} : (gby ms).length = ms.length := by simp [gby]
theorem gsv_at {ms : List SB} {i : Nat} (hi : i < ms.length) : (gsv ms)[i]! = (ms[i]!).1 := by
  rw [getElem!_pos (gsv ms) i (by simpa [gsv] using hi), getElem!_pos ms i hi]; simp [gsv]
theorem gby_take {ms : List SB} {i : Nat} (hi : i < ms.length) : (gby ms).take (i + 1) = (gby ms).take i ++ [(ms[i]!).2] := by
  rw [List.take_succ_eq_append_getElem (by simpa [gby] using hi), getElem!_pos ms i hi]; simp [gby]
theorem PSay_spec {L R K b s v} {ms : List SB} [p : Pull (isPipe b) L s R] [rs : RdE R encY v (gsv ms)] (hm : ∀ x ∈ ms, RdE R encB (svY x.1) x.2) (hn : s.said.length + ms.length ≤ 900000) (hb : ∀ x ∈ ms, x.2.length ≤ 1000000)
    (h : Ht (isPipe b { s with said := s.said ++ gby ms } :: R) (K (.int .i64 (s.said ++ gby ms).length))) : Ht L (CCall Try.prog 59 [.pointer (some ⟨b, 0, none⟩), v] K) := by
  haveI := rs.toS
  have hgm := gsv_len (ms := ms)
  have hgb := gby_len (ms := ms)
  refine Ht.pull p ?_
  refine ccall2 Try.func59 rfl (by decide) Try.ntmps59 (by rfl) (by decide) ?_
  haveI rs2 : RdS (isPipe b s :: R) v encY (gsv ms) := ⟨fun w t => this.h w t.tail⟩
  repeat (refine stp ?_)
  refine ht_for ms.length (fun i (_ : Unit) => True) (fun i _ => isPipe b { s with said := s.said ++ (gby ms).take i } :: R) (fun i _ => [(11, .int .i64 i)]) () [11] trivial (fun w t => by simpa using t) inferInstance ?_
  intro i _ hi _
  dsimp only [List.cons_append, List.nil_append]
  haveI rs3 : RdS (isPipe b { s with said := s.said ++ (gby ms).take i } :: R) v encY (gsv ms) := ⟨fun w t => this.h w t.tail⟩
  repeat (refine stp ?_)
  refine ht_if ?_ ?_ <;> intro hc <;> simp only [decide_eq_true_eq, decide_eq_false_iff_not] at hc
  · have hii : i < ms.length := by omega
    haveI hmi := hm _ (List.mem_of_getElem? (getB hii))
    have hbi := hb _ (List.mem_of_getElem? (getB hii))
    repeat (refine stp ?_)
    refine co_index (by omega) ?_
    intro hbx
    repeat (refine stp ?_)
    rewrite [gsv_at hii]
    unfold svY at hmi
    have hx1 := gby_take hii
    generalize ms[i]! = x at hmi hbi hx1 ⊢
    have hmx : ∀ (M : List HP) [fr : Frm M R], RdE M encB (.slice x.1.1 x.1.2.1 x.1.2.2) x.2 := fun M fr => ⟨fun w t => hmi.h w (fr.h _ _ t)⟩
    refine pp_open fun tv kv g r hg hr hs hs' hgl hrl => ?_
    have hgl2 : (gsv g).length ≤ 900000 := by rw [hgl]; simp; omega
    refine ht_draw Try.can59x6 Try.mixed (by kernel_rfl) ?_
    repeat (refine stp ?_)
    refine yClone_spec (xs := x.2) (by omega) ?_
    intro v1
    refine Ht.know (p := ∃ sv : SVy, v1 = svY sv) (fun w t => own_svY t) (fun ⟨sv, e⟩ => ?_)
    subst e
    refine Ht.one1 (v := svY sv) ?_
    intro _
    repeat (refine stp ?_)
    intro b1
    repeat (refine stp ?_)
    refine Ht.own_lit encY (b := b1) (n := 1) (xs := [sv]) rfl rfl (by decide) ?_
    refine wy_push (l := gsv g) (ys := [sv]) (by simp; rw [hgl]; simp; omega) ?_
    intro tv2
    repeat (refine stp ?_)
    have e1 : gsv g ++ [sv] = gsv (g ++ [(sv, x.2)]) := by simp [gsv]
    rewrite [e1]
    refine ht_next () hii trivial (fun w t => ?_) (SubE.cons (by rw [IntWalk.i64_in _ (by omega)]; rfl) inferInstance) rfl rfl
    have t1 : Sat (ownY 5 (sv, x.2) :: bigO (ownY 5) g :: pto b (cells [.int .i64 s.self, .int .i64 s.peer, tv2, .int .i64 s.acked, .int .i64 s.next, kv] 258) :: own encY 27 tv2 (gsv (g ++ [(sv, x.2)])) :: own enc_iy 356 kv (rvals r) :: bigO rown r :: R) w :=
      (inferInstance : Frm _ (own encB 5 (svY sv) x.2 :: bigO (ownY 5) g :: pto b (cells [.int .i64 s.self, .int .i64 s.peer, tv2, .int .i64 s.acked, .int .i64 s.next, kv] 258) :: own encY 27 tv2 (gsv (g ++ [(sv, x.2)])) :: own enc_iy 356 kv (rvals r) :: bigO rown r :: R)).h _ _ t
    exact pp_shut (s := { s with said := s.said ++ (gby ms).take (i + 1) }) (g := g ++ [(sv, x.2)]) (r := r) rfl rfl rfl (by rw [hx1]; simp only [gby, List.map_append] at hg ⊢; rw [hg]; simp) hr hs (bigO_snoc.2 t1)
  · have e : i = ms.length := by omega
    subst e
    rw [show (gby ms).take ms.length = gby ms from by rw [List.take_of_length_le (by omega)]]
    repeat (refine stp ?_)
    refine pp_open fun tv kv g r hg hr hs hs' hgl hrl => ?_
    repeat (refine stp ?_)
    refine wy_len ?_
    rewrite [hgl]
    repeat (refine stp ?_)
    exact ret1 rfl (pp_close (s := { s with said := s.said ++ gby ms }) (g := g) (r := r) rfl rfl rfl hg hr hs h)
end Go.Proofs

set_option linter.all false
set_option synthInstance.maxSize 100000
set_option synthInstance.maxHeartbeats 400000
namespace Go.Proofs
open Go Go.SL
attribute [local irreducible] CCall CO CC CX CD

/-- a packet: kind, from, to, number, body -/
abbrev P5 := Int × Int × Int × Int × SVy
@[reducible] def encP5 : Enc P5 := ⟨5, fun r => [.int .i64 r.1, .int .i64 r.2.1, .int .i64 r.2.2.1, .int .i64 r.2.2.2.1, .slice r.2.2.2.2.1 r.2.2.2.2.2.1 r.2.2.2.2.2.2], fun _ => rfl, fun _ v h => by simp at h; rcases h with rfl | rfl | rfl | rfl | rfl <;> rfl⟩
theorem pp_sat {b : Nat} {s : PSt} {tv kv : Value} {g : List SB} {r : GR} {o : Obj} {xs : List SVy} {ys : List (Int × SVy)} {L L1 L2 L3 L4 R R' : List HP} {e : Env} {u : Hp} [p1 : Pull (pto b) L o L1] [p2 : Pull (own encY 27 tv) L1 xs L2] [p3 : Pull (bigO (ownY 5)) L2 g L3] [p4 : Pull (own enc_iy 356 kv) L3 ys L4] [p5 : Pull (bigO rown) L4 r R] [fr : Frm R R']
    (ho : o = cells [.int .i64 s.self, .int .i64 s.peer, tv, .int .i64 s.acked, .int .i64 s.next, kv] 258) (hx : xs = gsv g) (hy : ys = rvals r) (hg : gby g = s.said) (hr : rbytes r = s.kept) (hs : Srt s.kept) (sat : seps L e u) : seps (isPipe b s :: R') e u := by
  have h1 := p1.h _ _ sat
  have h2 := seps_mono (fun _ a => a) (fun _ t => p2.h _ _ t) h1
  have h3 := seps_mono (fun _ a => a) (fun _ t => seps_mono (fun _ a => a) (fun _ t => p3.h _ _ t) t) h2
  have h4 := seps_mono (fun _ a => a) (fun _ t => seps_mono (fun _ a => a) (fun _ t => seps_mono (fun _ a => a) (fun _ t => p4.h _ _ t) t) t) h3
  have h5 := seps_mono (fun _ a => a) (fun _ t => seps_mono (fun _ a => a) (fun _ t => seps_mono (fun _ a => a) (fun _ t => seps_mono (fun _ a => a) (fun _ t => p5.h _ _ t) t) t) t) h4
  subst ho; subst hx; subst hy
  refine seps_exs.2 ⟨((tv, kv), (g, r)), seps_seps.2 (seps_pur.2 ⟨⟨hg, hr, hs⟩, ?_⟩)⟩
  exact seps_mono (fun _ a => a) (fun _ t => seps_mono (fun _ a => a) (fun _ t => seps_mono (fun _ a => a) (fun _ t => seps_mono (fun _ a => a) (fun _ t => seps_mono (fun _ a => a) (fun _ t => fr.h _ _ t) t) t) t) t) h5
def pkA (self peer : Int) : Int → List SB → List P5
  | _, [] => []
  | f, x :: l => (1, self, peer, f, x.1) :: pkA self peer (f + 1) l
theorem pkA_len {self peer : Int} : ∀ {f : Int} {l : List SB}, (pkA self peer f l).length = l.length
  | _, [] => rfl
  | f, x :: l => by simp [pkA, pkA_len]
theorem pkA_snoc {self peer : Int} {x : SB} : ∀ {f : Int} {l : List SB}, pkA self peer f (l ++ [x]) = pkA self peer f l ++ [(1, self, peer, f + l.length, x.1)]
  | f, [] => by simp [pkA]
  | f, y :: l => by
    simp only [pkA, List.cons_append]
    rw [pkA_snoc, List.length_cons, show f + ((l.length + 1 : Nat) : Int) = f + 1 + l.length from by push_cast; omega]
theorem pkA_at {self peer : Int} : ∀ {f : Int} {l : List SB} {k : Nat}, k < l.length → (pkA self peer f l)[k]! = (1, self, peer, f + k, (l[k]!).1)
  | f, x :: l, 0, _ => by simp [pkA]
  | f, x :: l, k + 1, h => by
    have := pkA_at (self := self) (peer := peer) (f := f + 1) (l := l) (k := k) (by simpa using h)
    simp only [pkA, List.getElem!_cons_succ]
    rw [this, show f + ((k + 1 : Nat) : Int) = f + 1 + k from by push_cast; omega]
theorem packet_spec {L K b v} {kind n self peer : Int} {bs : List UInt8} [c0 : Cl L ⟨b, 0, none⟩ (.int .i64 self)] [c1 : Cl L ⟨b, 1, none⟩ (.int .i64 peer)] [rs : RdE L encB v bs] (hb : bs.length ≤ 1000000)
    (h : ∀ v', Ht (own encB 5 v' bs :: L) (K (.agg #[.int .i64 kind, .int .i64 self, .int .i64 peer, .int .i64 n, v']))) : Ht L (CCall Try.prog 149 [.pointer (some ⟨b, 0, none⟩), .int .i64 kind, .int .i64 n, v] K) := by
  have hc0 : ∀ (M : List HP) [fr : Frm M L], Cl M ⟨b, 0, none⟩ (.int .i64 self) := fun M fr => ⟨fun w s => c0.h w (fr.h _ _ s)⟩
  have hc1 : ∀ (M : List HP) [fr : Frm M L], Cl M ⟨b, 1, none⟩ (.int .i64 peer) := fun M fr => ⟨fun w s => c1.h w (fr.h _ _ s)⟩
  have hrs : ∀ (M : List HP) [fr : Frm M L], RdE M encB v bs := fun M fr => ⟨fun w s => rs.h w (fr.h _ _ s)⟩
  refine Ht.know (p := One1 v) (fun w s => one1_of (rs.h w s)) (fun ho => ?_)
  refine ccall4 Try.func149 rfl (by decide) Try.ntmps149 (by rfl) (by decide) ?_
  repeat (refine stp ?_)
  intro c
  repeat (refine stp ?_)
  refine ht_draw Try.can149x1 Try.mixed (by kernel_rfl) ?_
  repeat (refine stp ?_)
  refine yClone_spec (xs := bs) (by omega) ?_
  intro v1
  refine Ht.one1 (v := v1) ?_
  intro _
  repeat (refine stp ?_)
  exact retc rfl (Ht.frm (h v1))
theorem ack_spec {L R K b s} [p : Pull (isPipe b) L s R] (h : ∀ v', Ht (own encB 5 v' [] :: isPipe b s :: R) (K (.agg #[.int .i64 2, .int .i64 s.self, .int .i64 s.peer, .int .i64 s.next, v']))) : Ht L (CCall Try.prog 146 [.pointer (some ⟨b, 0, none⟩)] K) := by
  refine Ht.pull p ?_
  refine ccall1 Try.func146 rfl (by decide) Try.ntmps146 (by rfl) (by decide) ?_
  repeat (refine stp ?_)
  intro c
  repeat (refine stp ?_)
  refine PTaken_spec (b := b) (s := s) ?_
  repeat (refine stp ?_)
  refine pp_open fun tv kv g r hg hr hs hs' hgl hrl => ?_
  have hnil : ∀ M : List HP, RdE M encB (.slice none 0 0) ([] : List UInt8) := fun M => ⟨fun _ _ => .inl ⟨rfl, rfl⟩⟩
  refine packet_spec (self := s.self) (peer := s.peer) (bs := []) (by simp) ?_
  intro v1
  refine Ht.one1 (v := v1) ?_
  intro _
  repeat (refine stp ?_)
  refine retc rfl ?_
  exact pp_close (b := b) (s := s) (g := g) (r := r) (R' := own encB 5 v1 [] :: R) rfl rfl rfl hg hr hs (Ht.frm (h v1))
theorem bigO_app {β : Type} {F : β → HP} {l : List β} {x : β} {R : List HP} {w : World} (s : Sat (F x :: bigO F l :: R) w) : Sat (bigO F (l ++ [x]) :: R) w := bigO_snoc.2 s
theorem PTick_spec {L R K b s} [p : Pull (isPipe b) L s R] (ha : s.acked ≤ s.said.length) (hn : s.said.length ≤ 900000) (hb : ∀ x ∈ s.said, x.length ≤ 1000000)
    (h : ∀ v l, gby l = (s.said.take (s.acked + 16)).drop s.acked → Ht (own encP5 132 v (pkA s.self s.peer s.acked l) :: bigO (ownY 5) l :: isPipe b s :: R) (K v)) : Ht L (CCall Try.prog 67 [.pointer (some ⟨b, 0, none⟩)] K) := by
  refine Ht.pull p ?_
  refine ccall1 Try.func67 rfl (by decide) Try.ntmps67 (by rfl) (by decide) ?_
  repeat (refine stp ?_)
  refine pp_open fun tv kv g r hg hr hs hs' hgl hrl => ?_
  have hgl0 : g.length = s.said.length := by rw [← hgl]; simp [gsv]
  repeat (refine stp ?_)
  refine wy_window (a := s.acked) (l := gsv g) (by omega) (by omega) ?_
  intro wv
  refine Ht.one1 (v := wv) ?_
  intro _
  generalize hW : (g.take (s.acked + 16)).drop s.acked = W
  have hWs : ((gsv g).take (s.acked + 16)).drop s.acked = gsv W := by rw [← hW]; simp [gsv]
  have hWb : gby W = (s.said.take (s.acked + 16)).drop s.acked := by rw [← hW, ← hg]; simp [gby]
  have hWm : ∀ x ∈ W, x ∈ g := fun x hx => by rw [← hW] at hx; exact List.mem_of_mem_take (List.mem_of_mem_drop hx)
  have hWl : W.length ≤ 16 := by rw [← hW]; simp; omega
  have hWs2 := gsv_len (ms := W)
  rewrite [hWs]
  repeat (refine stp ?_)
  refine ht_for W.length (fun i (x : Value × List SB) => gby x.2 = (gby W).take i) (fun i x => own encP5 132 x.1 (pkA s.self s.peer s.acked x.2) :: bigO (ownY 5) x.2 :: own encY 27 wv (gsv W) :: pto b (cells [.int .i64 s.self, .int .i64 s.peer, tv, .int .i64 s.acked, .int .i64 s.next, kv] 258) :: own encY 27 tv (gsv g) :: bigO (ownY 5) g :: own enc_iy 356 kv (rvals r) :: bigO rown r :: R) (fun i x => [(20, .int .i64 i), (3, x.1)]) (.slice none 0 0, []) [20, 3] (by simp [gby]) (fun w t => own_nil.2 ((bigO_nil (f := ownY 5)).2 ((inferInstance : Frm _ (own encY 27 wv (gsv W) :: pto b (cells [.int .i64 s.self, .int .i64 s.peer, tv, .int .i64 s.acked, .int .i64 s.next, kv] 258) :: own encY 27 tv (gsv g) :: bigO (ownY 5) g :: own enc_iy 356 kv (rvals r) :: bigO rown r :: R)).h _ _ t))) inferInstance ?_
  intro i ⟨lv, l⟩ hi hl
  dsimp only [List.cons_append, List.nil_append] at hl ⊢
  have hll : l.length = i := by
    have := congrArg List.length hl
    rw [gby_len, List.length_take, gby_len] at this; omega
  repeat (refine stp ?_)
  refine ht_if ?_ ?_ <;> intro hc <;> simp only [decide_eq_true_eq, decide_eq_false_iff_not] at hc
  · have hii : i < W.length := by omega
    have hxm := hWm _ (List.mem_of_getElem? (getB hii))
    have hxb : (W[i]!).2.length ≤ 1000000 := hb _ (by rw [← hg]; exact List.mem_map_of_mem hxm)
    repeat (refine stp ?_)
    refine co_index (by omega) ?_
    intro hbx
    repeat (refine stp ?_)
    rewrite [gsv_at hii]
    rewrite [show IntKind.i64.wrap ((s.acked : Int) + i) = (s.acked : Int) + i from IntWalk.i64_in _ (by omega)]
    have hx1 := gby_take hii
    generalize W[i]! = x at hxm hxb hx1 ⊢
    have hmx : ∀ (M M' : List HP) [q : Pull (bigO (ownY 5)) M g M'], RdE M encB (.slice x.1.1 x.1.2.1 x.1.2.2) x.2 := fun M M' q => ⟨fun w t => bigY_at hxm (q.h _ _ t)⟩
    haveI hme : RdE (own encP5 132 lv (pkA s.self s.peer s.acked l) :: bigO (ownY 5) l :: own encY 27 wv (gsv W) :: pto b (cells [.int .i64 s.self, .int .i64 s.peer, tv, .int .i64 s.acked, .int .i64 s.next, kv] 258) :: own encY 27 tv (gsv g) :: bigO (ownY 5) g :: own enc_iy 356 kv (rvals r) :: bigO rown r :: R) encB (.slice x.1.1 x.1.2.1 x.1.2.2) x.2 := ⟨fun w t => bigY_at hxm (R := R) ((inferInstance : Frm _ (bigO (ownY 5) g :: R)).h _ _ t.tail.tail)⟩
    refine packet_spec (self := s.self) (peer := s.peer) (bs := x.2) hxb ?_
    intro v1
    refine Ht.know (p := ∃ sv : SVy, v1 = svY sv) (fun w t => own_svY t) (fun ⟨sv, e⟩ => ?_)
    subst e
    refine Ht.one1 (v := svY sv) ?_
    intro _
    repeat (refine stp ?_)
    intro b1
    repeat (refine stp ?_)
    refine Ht.own_lit encP5 (b := b1) (n := 1) (xs := [(1, s.self, s.peer, (s.acked : Int) + i, sv)]) rfl rfl (by decide) ?_
    refine co_append (e := encP5) (xs := pkA s.self s.peer s.acked l) (by rfl) (by rw [pkA_len]; simp; omega) (by rw [pkA_len]; simp; omega) ?_
    intro lv2
    refine Ht.one1 (v := lv2) ?_
    intro _
    have e3 : pkA s.self s.peer s.acked l ++ [(1, s.self, s.peer, (s.acked : Int) + i, sv)] = pkA s.self s.peer s.acked (l ++ [(sv, x.2)]) := by rw [pkA_snoc, hll]
    rewrite [e3]
    repeat (refine stp ?_)
    refine ht_next (lv2, l ++ [(sv, x.2)]) hii (by rw [hx1, ← hl]; simp [gby]) (fun w t => ?_) (SubE.cons (by rw [IntWalk.i64_in _ (by omega)]; rfl) inferInstance) rfl rfl
    have t1 : Sat (bigO (ownY 5) (l ++ [(sv, x.2)]) :: own encP5 132 lv2 (pkA s.self s.peer s.acked (l ++ [(sv, x.2)])) :: own encY 27 wv (gsv W) :: pto b (cells [.int .i64 s.self, .int .i64 s.peer, tv, .int .i64 s.acked, .int .i64 s.next, kv] 258) :: own encY 27 tv (gsv g) :: bigO (ownY 5) g :: own enc_iy 356 kv (rvals r) :: bigO rown r :: R) w := bigO_app (F := ownY 5) (x := (sv, x.2)) (l := l)
      ((inferInstance : Frm _ (own encB 5 (svY sv) x.2 :: bigO (ownY 5) l :: own encP5 132 lv2 (pkA s.self s.peer s.acked (l ++ [(sv, x.2)])) :: own encY 27 wv (gsv W) :: pto b (cells [.int .i64 s.self, .int .i64 s.peer, tv, .int .i64 s.acked, .int .i64 s.next, kv] 258) :: own encY 27 tv (gsv g) :: bigO (ownY 5) g :: own enc_iy 356 kv (rvals r) :: bigO rown r :: R)).h _ _ t)
    exact seps_swap t1
  · have e : i = W.length := by omega
    subst e
    rw [List.take_of_length_le (by rw [gby_len]; exact Nat.le_refl _), hWb] at hl
    repeat (refine stp ?_)
    refine ret1 rfl ?_
    refine Ht.conseq (L' := own encP5 132 lv (pkA s.self s.peer s.acked l) :: bigO (ownY 5) l :: isPipe b s :: R) (h lv l hl) (fun w t => ?_)
    refine seps_mono (fun _ a => a) (fun _ t => seps_mono (fun _ a => a) (fun _ t => ?_) t) t
    exact pp_sat (s := s) (g := g) (r := r) rfl rfl rfl hg hr hs t
end Go.Proofs

set_option linter.all false
set_option synthInstance.maxSize 100000
set_option synthInstance.maxHeartbeats 400000
namespace Go.Proofs
open Go Go.SL
attribute [local irreducible] CCall CO CC CX CD

def offB (s : PSt) (n : Int) : Int := if n < s.next then 8 else if 16 ≤ n - s.next then 7 else if thas n s.kept then 6 else 0
def ackB (s : PSt) (n : Int) : Nat := if (s.acked : Int) < n ∧ n ≤ (s.said.length : Int) then n.toNat else s.acked
theorem ackB_int {s : PSt} {n : Int} : (if (s.acked : Int) < n ∧ n ≤ (s.said.length : Int) then n else (s.acked : Int)) = ((ackB s n : Nat) : Int) := by
  unfold ackB; split <;> omega
def hearM (kind fr to n : Int) (bs : List UInt8) (s : PSt) : Bool × Int × PSt :=
  if fr ≠ s.peer ∨ to ≠ s.self then (false, 5, s)
  else if kind = 2 then (false, 0, { s with acked := ackB s n })
  else if kind ≠ 1 then (false, 1, s)
  else (true, if offB s n = 7 then 7 else 0, if offB s n = 0 then { s with kept := tput n bs s.kept } else s)
def zeroP : Value := .agg #[.int .i64 0, .int .i64 0, .int .i64 0, .int .i64 0, .slice none 0 0]
theorem PHear_spec {L R K b s v} {kind fr to n : Int} {bs : List UInt8} [p : Pull (isPipe b) L s R] [rs : RdE R encB v bs] (hb : bs.length ≤ 1000000) (hk : s.kept.length ≤ 800000) (hs0 : s.said.length ≤ 900000) (hx : 0 ≤ s.next) (hn : n ≤ 9223372036854775807)
    (h0 : (hearM kind fr to n bs s).1 = false → Ht (isPipe b (hearM kind fr to n bs s).2.2 :: R) (K (.tuple #[zeroP, .bool false, .int .i64 (hearM kind fr to n bs s).2.1])))
    (h1 : (hearM kind fr to n bs s).1 = true → ∀ v', Ht (own encB 5 v' [] :: isPipe b (hearM kind fr to n bs s).2.2 :: R) (K (.tuple #[.agg #[.int .i64 2, .int .i64 s.self, .int .i64 s.peer, .int .i64 s.next, v'], .bool true, .int .i64 (hearM kind fr to n bs s).2.1]))) :
    Ht L (CCall Try.prog 61 [.pointer (some ⟨b, 0, none⟩), .agg #[.int .i64 kind, .int .i64 fr, .int .i64 to, .int .i64 n, v]] K) := by
  refine Ht.pull p ?_
  refine Ht.know (p := One1 v) (fun w t => one1_of (rs.h w t.tail)) (fun ho => ?_)
  refine pp_open fun tv kv g r hg hr hs hs' hgl hrl => ?_
  have hrs : ∀ (M : List HP) [fr : Frm M R], RdE M encB v bs := fun M fr => ⟨fun w t => rs.h w (fr.h _ _ t)⟩
  refine ccall2 Try.func61 rfl (by decide) Try.ntmps61 (by rfl) (by decide) ?_
  repeat (refine stp ?_)
  intro c
  repeat (refine stp ?_)
  intro y
  repeat (refine stp ?_)
  refine ht_draw Try.can61x3 Try.mixed (by kernel_rfl) ?_
  repeat (refine stp ?_)
  have hbad : (fr ≠ s.peer ∨ to ≠ s.self) → Ht (isPipe b s :: R) (K (.tuple #[zeroP, .bool false, .int .i64 5])) := fun hh => by
    have e : hearM kind fr to n bs s = (false, 5, s) := by unfold hearM; rw [if_pos hh]
    have h2 := h0 (by rw [e])
    rw [e] at h2; exact h2
  refine cd_guard (i := 8) rfl ?_ ?_ <;> intro hp <;> simp only [decide_eq_true_eq, decide_eq_false_iff_not] at hp
  · repeat (refine stp ?_)
    refine retctt rfl ?_
    exact pp_close (b := b) (s := s) (g := g) (r := r) (R' := R) rfl rfl rfl hg hr hs (hbad (.inl hp))
  repeat (refine stp ?_)
  refine ht_if ?_ ?_ <;> intro hq <;> simp only [decide_eq_true_eq, decide_eq_false_iff_not] at hq
  · repeat (refine stp ?_)
    refine retctt rfl ?_
    exact pp_close (b := b) (s := s) (g := g) (r := r) (R' := R) rfl rfl rfl hg hr hs (hbad (.inr hq))
  have hpq : ¬ (fr ≠ s.peer ∨ to ≠ s.self) := by rintro (hh | hh); exact hp hh; exact hq hh
  repeat (refine stp ?_)
  refine ht_if ?_ ?_ <;> intro hk2 <;> simp only [decide_eq_true_eq, decide_eq_false_iff_not] at hk2
  · have e : hearM kind fr to n bs s = (false, 0, { s with acked := ackB s n }) := by unfold hearM; rw [if_neg hpq, if_pos hk2]
    have h2 := h0 (by rw [e])
    rw [e] at h2
    repeat (refine stp ?_)
    refine ht_draw Try.can61x6 Try.mixed (by kernel_rfl) ?_
    repeat (refine stp ?_)
    refine wy_ack (l := gsv g) ?_
    rewrite [hgl, ackB_int]
    repeat (refine stp ?_)
    refine retctt rfl ?_
    exact pp_close (b := b) (s := { s with acked := ackB s n }) (g := g) (r := r) (R' := R) rfl rfl rfl hg hr hs h2
  repeat (refine stp ?_)
  refine ht_if ?_ ?_ <;> intro hk1 <;> simp only [decide_eq_true_eq, decide_eq_false_iff_not] at hk1
  · have e : hearM kind fr to n bs s = (false, 1, s) := by unfold hearM; rw [if_neg hpq, if_neg hk2, if_pos hk1]
    have h2 := h0 (by rw [e])
    rw [e] at h2
    repeat (refine stp ?_)
    refine retctt rfl ?_
    exact pp_close (b := b) (s := s) (g := g) (r := r) (R' := R) rfl rfl rfl hg hr hs h2
  have e : hearM kind fr to n bs s = (true, if offB s n = 7 then 7 else 0, if offB s n = 0 then { s with kept := tput n bs s.kept } else s) := by unfold hearM; rw [if_neg hpq, if_neg hk2, if_neg hk1]
  have h2 := h1 (by rw [e])
  rw [e] at h2
  repeat (refine stp ?_)
  refine ht_draw Try.can61x10 Try.mixed (by kernel_rfl) ?_
  repeat (refine stp ?_)
  refine yClone_spec (xs := bs) (by omega) ?_
  intro v1
  refine Ht.know (p := ∃ sv : SVy, v1 = svY sv) (fun w t => own_svY t) (fun ⟨sv, e⟩ => ?_)
  subst e
  refine Ht.one1 (v := svY sv) ?_
  intro _
  have hof : wy_offM s.next n (rvals r) = offB s n := by
    unfold wy_offM offB
    rw [show thas n (rvals r) = thas n s.kept from by rw [← hr]; exact (kthas_map (fun x : SB => x.1) n r).trans (kthas_map (fun x : SB => x.2) n r).symm]
  unfold svY
  repeat (refine stp ?_)
  refine wy_offer (x := sv) (xs := rvals r) hs' (by omega) hx hn ?_
  intro kv2
  rewrite [hof]
  repeat (refine stp ?_)
  refine Ht.conseq (L' := isPipe b (if offB s n = 0 then { s with kept := tput n bs s.kept } else s) :: pto y (cells [.int .i64 0, .int .i64 0, .int .i64 0, .int .i64 0, .slice none 0 0] 132) :: R) ?_ (fun w t => ?_)
  case refine_2 =>
    by_cases h00 : offB s n = 0
    · rw [if_pos h00] at t
      rw [if_pos h00]
      have t1 : Sat (rown (n, sv, bs) :: bigO rown r :: pto b (cells [.int .i64 s.self, .int .i64 s.peer, tv, .int .i64 s.acked, .int .i64 s.next, kv2] 258) :: own encY 27 tv (gsv g) :: bigO (ownY 5) g :: own enc_iy 356 kv2 (tput n sv (rvals r)) :: pto y (cells [.int .i64 0, .int .i64 0, .int .i64 0, .int .i64 0, .slice none 0 0] 132) :: R) w :=
        (inferInstance : Frm _ (own encB 5 (.slice sv.1 sv.2.1 sv.2.2) bs :: bigO rown r :: pto b (cells [.int .i64 s.self, .int .i64 s.peer, tv, .int .i64 s.acked, .int .i64 s.next, kv2] 258) :: own encY 27 tv (gsv g) :: bigO (ownY 5) g :: own enc_iy 356 kv2 (tput n sv (rvals r)) :: pto y (cells [.int .i64 0, .int .i64 0, .int .i64 0, .int .i64 0, .slice none 0 0] 132) :: R)).h _ _ t
      have t2 := bigK_put (F := rown) (k := n) (x := ((sv, bs) : SB)) t1
      exact pp_shut (s := { s with kept := tput n bs s.kept }) (tv := tv) (kv := kv2) (g := g) (r := tput n (sv, bs) r) rfl rfl (ktput_map (fun x : SB => x.1) n (sv, bs) r).symm hg (by rw [← hr]; exact ktput_map (fun x : SB => x.2) n (sv, bs) r) (tput_srt hs) t2
    · rw [if_neg h00] at t
      rw [if_neg h00]
      exact pp_shut (s := s) (tv := tv) (kv := kv2) (g := g) (r := r) rfl rfl rfl hg hr hs t
  have hs2 : (if offB s n = 0 then { s with kept := tput n bs s.kept } else s).self = s.self ∧ (if offB s n = 0 then { s with kept := tput n bs s.kept } else s).peer = s.peer ∧ (if offB s n = 0 then { s with kept := tput n bs s.kept } else s).next = s.next := by split <;> exact ⟨rfl, rfl, rfl⟩
  generalize (if offB s n = 0 then { s with kept := tput n bs s.kept } else s) = s2 at h2 hs2 ⊢
  rw [← hs2.1, ← hs2.2.1, ← hs2.2.2] at h2
  refine ht_if ?_ ?_ <;> intro hz <;> simp only [decide_eq_true_eq, decide_eq_false_iff_not, ne_eq, Classical.not_not] at hz
  · rw [if_neg hz] at h2
    repeat (refine stp ?_)
    refine ack_spec (b := b) (s := s2) ?_
    intro v2
    refine Ht.one1 (v := v2) ?_
    intro _
    repeat (refine stp ?_)
    exact retctt rfl (Ht.frm (h2 v2))
  · rw [if_pos hz] at h2
    rewrite [hz]
    repeat (refine stp ?_)
    refine ack_spec (b := b) (s := s2) ?_
    intro v2
    refine Ht.one1 (v := v2) ?_
    intro _
    repeat (refine stp ?_)
    exact retctt rfl (Ht.frm (h2 v2))
end Go.Proofs

set_option linter.all false
set_option synthInstance.maxSize 100000
set_option synthInstance.maxHeartbeats 400000
namespace Go.Proofs
open Go Go.SL
attribute [local irreducible] CCall CO CC CX CD

theorem rv_find {r : GR} {s : PSt} (hr : rbytes r = s.kept) (n : Int) : tfind n (rvals r) = (tfind n r).map (fun x => x.1) ∧ tfind n s.kept = (tfind n r).map (fun x => x.2) :=
  ⟨ktfind_map (fun x : SB => x.1) n r, by rw [← hr]; exact ktfind_map (fun x : SB => x.2) n r⟩
theorem rv_has {r : GR} {s : PSt} (hr : rbytes r = s.kept) (n : Int) : thas n (rvals r) = thas n s.kept := by
  rw [← hr]; exact (kthas_map (fun x : SB => x.1) n r).trans (kthas_map (fun x : SB => x.2) n r).symm
theorem row_rd {r : GR} {s : PSt} (hr : rbytes r = s.kept) (n : Int) : ∀ (M M' : List HP) [p : Pull (bigO rown) M r M'], RdE M encB (.slice ((tfind n (rvals r)).getD ((none, 0, 0) : SVy)).1 ((tfind n (rvals r)).getD ((none, 0, 0) : SVy)).2.1 ((tfind n (rvals r)).getD ((none, 0, 0) : SVy)).2.2) ((tfind n s.kept).getD []) := fun M M' p => ⟨fun w t => by
  obtain ⟨e1, e2⟩ := rv_find hr n
  rw [e1, e2]
  cases ht : tfind n r with
  | none => exact .inl ⟨rfl, rfl⟩
  | some y =>
    have hm : (n, y) ∈ r := List.mem_of_getElem? (tfind_some ht)
    obtain ⟨R', t2⟩ := bigO_at hm (p.h _ _ t)
    exact own_sat t2⟩
theorem PReady_spec {L R K b s} [p : Pull (isPipe b) L s R] (hk : s.kept.length ≤ 800000) (hb : ((tfind s.next s.kept).getD []).length ≤ 1000000)
    (h : ∀ v', Ht (own encB 5 v' ((tfind s.next s.kept).getD []) :: isPipe b s :: R) (K (.tuple #[v', .bool (thas s.next s.kept)]))) : Ht L (CCall Try.prog 70 [.pointer (some ⟨b, 0, none⟩)] K) := by
  refine Ht.pull p (pp_open fun tv kv g r hg hr hs hs' hgl hrl => ?_)
  have hrd := row_rd hr s.next
  refine ccall1 Try.func70 rfl (by decide) Try.ntmps70 (by rfl) (by decide) ?_
  repeat (refine stp ?_)
  refine wy_ready (xs := rvals r) hs' (by omega) ?_
  rewrite [rv_has hr]
  repeat (refine stp ?_)
  refine yClone_spec (xs := (tfind s.next s.kept).getD []) (by omega) ?_
  intro v1
  refine Ht.one1 (v := v1) ?_
  intro _
  repeat (refine stp ?_)
  refine ret2 rfl ?_
  exact pp_close (b := b) (s := s) (g := g) (r := r) (R' := own encB 5 v1 ((tfind s.next s.kept).getD []) :: R) rfl rfl rfl hg hr hs (Ht.frm (h v1))
theorem PTake_spec {L R K b s} [p : Pull (isPipe b) L s R] (hk : s.kept.length ≤ 800000) (hx : 0 ≤ s.next ∧ s.next ≤ 9223372036854775000)
    (h0 : thas s.next s.kept = false → Ht (isPipe b s :: R) (K (.tuple #[zeroP, .bool false])))
    (h1 : thas s.next s.kept = true → ∀ v', Ht (own encB 5 v' [] :: isPipe b { s with kept := tdrop s.next s.kept, next := s.next + 1 } :: R) (K (.tuple #[.agg #[.int .i64 2, .int .i64 s.self, .int .i64 s.peer, .int .i64 (s.next + 1), v'], .bool true]))) :
    Ht L (CCall Try.prog 65 [.pointer (some ⟨b, 0, none⟩)] K) := by
  refine Ht.pull p (pp_open fun tv kv g r hg hr hs hs' hgl hrl => ?_)
  refine ccall1 Try.func65 rfl (by decide) Try.ntmps65 (by rfl) (by decide) ?_
  repeat (refine stp ?_)
  intro y
  repeat (refine stp ?_)
  refine wy_pop (xs := rvals r) hs' (by omega) hx ?_
  intro kv2
  rewrite [rv_has hr]
  repeat (refine stp ?_)
  have e1 : tdrop s.next (rvals r) = rvals (tdrop s.next r) := (ktdrop_map (fun x : SB => x.1) s.next r).symm
  have e2 : rbytes (tdrop s.next r) = tdrop s.next s.kept := by rw [← hr]; exact ktdrop_map (fun x : SB => x.2) s.next r
  refine ht_if ?_ ?_ <;> intro hh <;> simp only [Bool.not_eq_true', Bool.not_eq_false'] at hh
  · have e3 : tdrop s.next (rvals r) = rvals r := by unfold tdrop; rw [if_neg (by rw [rv_has hr, hh]; decide)]
    rewrite [e3, hh]
    repeat (refine stp ?_)
    refine retct rfl ?_
    exact pp_close (b := b) (s := s) (g := g) (r := r) (R' := R) rfl rfl rfl hg hr hs (h0 hh)
  · rewrite [e1, hh, if_pos rfl]
    refine Ht.conseq (L' := isPipe b { s with kept := tdrop s.next s.kept, next := s.next + 1 } :: pto y (cells [.int .i64 0, .int .i64 0, .int .i64 0, .int .i64 0, .slice none 0 0] 132) :: R) ?_ (fun w t => ?_)
    case refine_2 =>
      have t1 : Sat (bigO rown r :: pto b (cells [.int .i64 s.self, .int .i64 s.peer, tv, .int .i64 s.acked, .int .i64 (s.next + 1), kv2] 258) :: own encY 27 tv (gsv g) :: bigO (ownY 5) g :: own enc_iy 356 kv2 (rvals (tdrop s.next r)) :: pto y (cells [.int .i64 0, .int .i64 0, .int .i64 0, .int .i64 0, .slice none 0 0] 132) :: R) w := (inferInstance : Frm _ (bigO rown r :: pto b (cells [.int .i64 s.self, .int .i64 s.peer, tv, .int .i64 s.acked, .int .i64 (s.next + 1), kv2] 258) :: own encY 27 tv (gsv g) :: bigO (ownY 5) g :: own enc_iy 356 kv2 (rvals (tdrop s.next r)) :: pto y (cells [.int .i64 0, .int .i64 0, .int .i64 0, .int .i64 0, .slice none 0 0] 132) :: R)).h _ _ t
      exact pp_shut (s := { s with kept := tdrop s.next s.kept, next := s.next + 1 }) (tv := tv) (kv := kv2) (g := g) (r := tdrop s.next r) rfl rfl rfl hg e2 (tdrop_srt hs) (bigK_del (F := rown) (k := s.next) t1)
    repeat (refine stp ?_)
    refine ack_spec (b := b) (s := { s with kept := tdrop s.next s.kept, next := s.next + 1 }) ?_
    intro v2
    refine Ht.one1 (v := v2) ?_
    intro _
    repeat (refine stp ?_)
    exact retct rfl (Ht.frm (h1 hh v2))
theorem PRestore_spec {L R K b s v} {n : Int} {ms : List SB} [p : Pull (isPipe b) L s R] [rs : RdE R encY v (gsv ms)] (hm : ∀ x ∈ ms, RdE R encB (svY x.1) x.2) (hn : ms.length ≤ 900000) (hb : ∀ x ∈ ms, x.2.length ≤ 1000000)
    (h0 : (n < 0 ∨ 1099511627776 < n) → Ht (isPipe b s :: R) (K (.int .i64 1)))
    (h1 : ¬ (n < 0 ∨ 1099511627776 < n) → Ht (isPipe b ⟨s.self, s.peer, gby ms, 0, n, []⟩ :: R) (K (.int .i64 0))) : Ht L (CCall Try.prog 69 [.pointer (some ⟨b, 0, none⟩), v, .int .i64 n] K) := by
  haveI := rs.toS
  refine Ht.know (p := One1 v) (fun w t => one1_of (rs.h w (Sat.tail (p.sat t)))) (fun ho => ?_)
  refine Ht.pull p (pp_open fun tv kv g r hg hr hs hs' hgl hrl => ?_)
  refine ccall3 Try.func69 rfl (by decide) Try.ntmps69 (by rfl) (by decide) ?_
  repeat (refine stp ?_)
  refine wy_start ?_
  by_cases hc : n < 0 ∨ 1099511627776 < n
  · rewrite [if_pos hc, if_pos hc]
    repeat (refine stp ?_)
    refine ret1 rfl ?_
    exact pp_close (b := b) (s := s) (g := g) (r := r) (R' := R) rfl rfl rfl hg hr hs (h0 hc)
  · rewrite [if_neg hc, if_neg hc]
    repeat (refine stp ?_)
    refine Ht.conseq (L' := isPipe b ⟨s.self, s.peer, [], 0, n, []⟩ :: R) ?_ (fun w t => ?_)
    case refine_2 =>
      have t1 := (bigO_nil (f := ownY 5)).2 ((bigO_nil (f := rown)).2 (own_nil (e := encY) (T := 27).2 (own_nil (e := enc_iy) (T := 356).2 t)))
      exact pp_shut (s := ⟨s.self, s.peer, [], 0, n, []⟩) (tv := .slice none 0 0) (kv := .slice none 0 0) (g := []) (r := []) rfl rfl rfl rfl rfl .nil t1
    refine PSay_spec (b := b) (s := ⟨s.self, s.peer, [], 0, n, []⟩) (ms := ms) hm (by simpa using hn) hb ?_
    repeat (refine stp ?_)
    exact ret1 rfl (h1 hc)
end Go.Proofs

set_option linter.all false
set_option synthInstance.maxSize 100000
set_option synthInstance.maxHeartbeats 400000
namespace Go.Proofs
open Go Go.SL
attribute [local irreducible] CCall CO CC CX CD

theorem PSay_nil {L K} {v : Value} [o : One1 v] (h : Ht L (K (.int .i64 0))) : Ht L (CCall Try.prog 59 [.pointer none, v] K) := by
  refine ccall2 Try.func59 rfl (by decide) Try.ntmps59 (by rfl) (by decide) ?_
  repeat (refine stp ?_)
  exact ret1 rfl (Ht.frm h)
theorem PTick_nil {L K}  (h : Ht L (K (.slice none 0 0))) : Ht L (CCall Try.prog 67 [.pointer none] K) := by
  refine ccall1 Try.func67 rfl (by decide) Try.ntmps67 (by rfl) (by decide) ?_
  repeat (refine stp ?_)
  exact ret1 rfl (Ht.frm h)
theorem PReady_nil {L K}  (h : Ht L (K (.tuple #[.slice none 0 0, .bool false]))) : Ht L (CCall Try.prog 70 [.pointer none] K) := by
  refine ccall1 Try.func70 rfl (by decide) Try.ntmps70 (by rfl) (by decide) ?_
  repeat (refine stp ?_)
  exact ret2 rfl (Ht.frm h)
theorem PSaid_nil {L K}  (h : Ht L (K (.int .i64 0))) : Ht L (CCall Try.prog 71 [.pointer none] K) := by
  refine ccall1 Try.func71 rfl (by decide) Try.ntmps71 (by rfl) (by decide) ?_
  repeat (refine stp ?_)
  exact ret1 rfl (Ht.frm h)
theorem PWaiting_nil {L K}  (h : Ht L (K (.int .i64 0))) : Ht L (CCall Try.prog 72 [.pointer none] K) := by
  refine ccall1 Try.func72 rfl (by decide) Try.ntmps72 (by rfl) (by decide) ?_
  repeat (refine stp ?_)
  exact ret1 rfl (Ht.frm h)
theorem PTaken_nil {L K}  (h : Ht L (K (.int .i64 0))) : Ht L (CCall Try.prog 73 [.pointer none] K) := by
  refine ccall1 Try.func73 rfl (by decide) Try.ntmps73 (by rfl) (by decide) ?_
  repeat (refine stp ?_)
  exact ret1 rfl (Ht.frm h)
theorem PRestore_nil {L K} {v : Value} {n : Int} [o : One1 v] (h : Ht L (K (.int .i64 10))) : Ht L (CCall Try.prog 69 [.pointer none, v, .int .i64 n] K) := by
  refine ccall3 Try.func69 rfl (by decide) Try.ntmps69 (by rfl) (by decide) ?_
  repeat (refine stp ?_)
  exact ret1 rfl (Ht.frm h)
theorem PTake_nil {L K}  (h : Ht L (K (.tuple #[zeroP, .bool false]))) : Ht L (CCall Try.prog 65 [.pointer none] K) := by
  refine ccall1 Try.func65 rfl (by decide) Try.ntmps65 (by rfl) (by decide) ?_
  repeat (refine stp ?_)
  intro y
  repeat (refine stp ?_)
  exact retct rfl (Ht.frm h)
theorem PHear_nil {L K} {v : Value} {kind fr to n : Int} [o : One1 v] (h : Ht L (K (.tuple #[zeroP, .bool false, .int .i64 10]))) : Ht L (CCall Try.prog 61 [.pointer none, .agg #[.int .i64 kind, .int .i64 fr, .int .i64 to, .int .i64 n, v]] K) := by
  refine ccall2 Try.func61 rfl (by decide) Try.ntmps61 (by rfl) (by decide) ?_
  repeat (refine stp ?_)
  intro c
  repeat (refine stp ?_)
  intro y
  repeat (refine stp ?_)
  exact retctt rfl (Ht.frm h)
theorem ytake_min {xs : List UInt8} {m : Nat} : xs.take (min xs.length m) = xs.take m := by
  by_cases h : xs.length ≤ m
  · rw [Nat.min_eq_left h, List.take_length, List.take_of_length_le h]
  · rw [Nat.min_eq_right (by omega)]
theorem To_spec {L K} {kind fr to n : Int} {sa : Option Addr} {sl sc : Nat} {bs : List UInt8} [rs : RdE L encB (.slice sa sl sc) bs]
    (h : ∀ sv : SVy, RdE L encB (svY sv) (bs.take 100) → Ht L (K (.agg #[.int .i64 kind, .int .i64 fr, .int .i64 to, .int .i64 n, svY sv]))) :
    Ht L (CCall Try.prog 60 [.agg #[.int .i64 kind, .int .i64 fr, .int .i64 to, .int .i64 n, .slice sa sl sc]] K) := by
  refine Ht.know (p := sl = bs.length ∧ bs.length ≤ 9223372036854775807) (fun w s => ?_) (fun ⟨e, hbl⟩ => ?_)
  · have hh := rs.h w s
    obtain ⟨a, c, hv, _, _⟩ := sliceIn_of hh
    cases hv
    exact ⟨rfl, hh.le⟩
  subst e
  haveI := rs.toS
  have hrs : ∀ (M : List HP) [fr : Frm M L], RdS M (.slice sa bs.length sc) encB bs := fun M fr => ⟨fun w t => (rs.h w (fr.h _ _ t))⟩
  refine ccall1 Try.func60 rfl (by decide) Try.ntmps60 (by rfl) (by decide) ?_
  repeat (refine stp ?_)
  intro c
  repeat (refine stp ?_)
  intro y
  repeat (refine stp ?_)
  refine ht_draw Try.can60x1 Try.mixed (by kernel_rfl) ?_
  repeat (refine stp ?_)
  rewrite [show (if (100 : Int) < bs.length then 100 else (bs.length : Int)) = ((min bs.length 100 : Nat) : Int) from by split <;> omega]
  refine cd_slice (xs := bs) (by omega) ?_
  intro hsl _
  have rs2 : ∀ w, Sat L w → SlIn w (slSub (Value.slice sa bs.length sc) 1 0 (min bs.length 100)) encB (bs.take 100) := fun w s => by
    have := slSub_in (rs.h w s) (lo := 0) (hi := min bs.length 100) ⟨by omega, by omega⟩
    rw [List.drop_zero, ytake_min] at this
    exact this
  refine Ht.know (p := ∃ sv : SVy, slSub (Value.slice sa bs.length sc) 1 0 (min bs.length 100) = svY sv) (fun w s => ?_) (fun ⟨sv, e⟩ => ?_)
  · obtain ⟨a, c, hv, _, _⟩ := sliceIn_of (rs2 w s.tail.tail)
    exact ⟨(a, _, c), hv⟩
  rewrite [e]
  repeat (refine stp ?_)
  rw [e] at rs2
  exact retc rfl (Ht.frm (h sv ⟨rs2⟩))
theorem known15_spec {L K} (h : Ht L (K (.bool true))) : Ht L (CCall Try.prog 57 [] K) := by
  refine ccall0 Try.func57 rfl (by decide) Try.ntmps57 (by rfl) (by decide) ?_
  repeat (refine stp ?_)
  refine PNew_spec (fun hh => by simp [pairM] at hh) (fun _ a => ?_)
  repeat (refine stp ?_)
  refine PNew_spec (fun hh => by simp [pairM] at hh) (fun _ b => ?_)
  repeat (refine stp ?_)
  intro c1
  repeat (refine stp ?_)
  refine co_constBytes [120] ?_ ?_
  · rfl
  repeat (refine stp ?_)
  intro c2
  repeat (refine stp ?_)
  refine Ht.own_lit encY (b := c2) (n := 1) (xs := [(some ⟨c1, 0, none⟩, 1, 1)]) rfl rfl (by decide) ?_
  refine PSay_spec (b := a) (s := ⟨0, 1, [], 0, 0, []⟩) (ms := [((some ⟨c1, 0, none⟩, 1, 1), [120])]) ?_ (by simp) (fun x hx => by rw [List.mem_singleton.1 hx]; simp) ?_
  · intro x hx
    rw [List.mem_singleton.1 hx]
    show RdE _ encB (.slice (some ⟨c1, 0, none⟩) 1 1) [120]
    infer_instance
  dsimp only
  rewrite [show ([] : List (List UInt8)) ++ gby [((some ⟨c1, 0, none⟩, 1, 1), [120])] = [[120]] from rfl]
  repeat (refine stp ?_)

  repeat (refine stp ?_)
  refine PTick_spec (b := a) (s := ⟨0, 1, [[120]], 0, 0, []⟩) (by simp) (by simp) (fun x hx => by simp at hx; subst hx; simp) ?_
  intro tv l hl
  refine Ht.one1 (v := tv) ?_
  intro _
  obtain ⟨x, rfl, hx⟩ : ∃ x : SB, l = [x] ∧ x.2 = [120] := by
    have h1 : gby l = [[120]] := hl
    match l, h1 with
    | [x], h1 => exact ⟨x, rfl, by simpa [gby] using h1⟩
    | [], h1 => simp [gby] at h1
    | _ :: _ :: _, h1 => simp [gby] at h1
  rewrite [show (pkA 0 1 ((0 : Nat) : Int) [x]) = [(1, 0, 1, 0, x.1)] from rfl]
  repeat (refine stp ?_)
  refine ht_if ?_ ?_ <;> intro hz2
  · exact absurd hz2 (by simp)
  repeat (refine stp ?_)
  refine co_index (xs := [(1, 0, 1, 0, x.1)]) (by simp) ?_
  intro hb
  repeat (refine stp ?_)
  rewrite [show ([(1, 0, 1, 0, x.1)] : List P5)[0]! = (1, 0, 1, 0, x.1) from rfl]
  have hmx : ∀ (M M' : List HP) [q : Pull (bigO (ownY 5)) M [x] M'], RdE M encB (.slice x.1.1 x.1.2.1 x.1.2.2) [120] := fun M M' q => ⟨fun w t => by rw [← hx]; exact bigY_at (List.mem_singleton.2 rfl) (q.h _ _ t)⟩
  have e1 : hearM 1 0 1 0 [120] ⟨1, 0, [], 0, 0, []⟩ = (true, 0, ⟨1, 0, [], 0, 0, [(0, [120])]⟩) := by rfl
  refine PHear_spec (b := b) (s := ⟨1, 0, [], 0, 0, []⟩) (bs := [120]) (by simp) (by simp) (by simp) (by simp) (by simp) (fun hh => by rw [e1] at hh; cases hh) (fun _ y1 => ?_)
  refine Ht.one1 (v := y1) ?_
  intro _
  rewrite [e1]
  dsimp only
  repeat (refine stp ?_)
  intro c3
  repeat (refine stp ?_)
  refine PTake_spec (b := b) (s := ⟨1, 0, [], 0, 0, [(0, [120])]⟩) (by simp) (by simp) (fun hh => absurd hh (by decide)) (fun _ y2 => ?_)
  refine Ht.know (p := ∃ sv : SVy, y2 = svY sv) (fun w t => own_svY t) (fun ⟨sv2, e⟩ => ?_)
  subst e
  refine Ht.one1 (v := svY sv2) ?_
  intro _
  dsimp only
  rewrite [show tdrop (0 : Int) [((0 : Int), [(120 : UInt8)])] = [] from rfl, show ((0 : Int) + 1) = 1 from rfl]
  repeat (refine stp ?_)
  intro c4
  repeat (refine stp ?_)
  have e2 : hearM 2 1 0 1 [] ⟨0, 1, [[120]], 0, 0, []⟩ = (false, 0, ⟨0, 1, [[120]], 1, 0, []⟩) := by rfl
  refine PHear_spec (b := a) (s := ⟨0, 1, [[120]], 0, 0, []⟩) (bs := []) (by simp) (by simp) (by simp) (by simp) (by simp) (fun _ => ?_) (fun hh => by rw [e2] at hh; cases hh)
  rewrite [e2]
  dsimp only
  unfold zeroP
  repeat (refine stp ?_)
  intro c5
  repeat (refine stp ?_)
  refine PWaiting_spec (b := a) (s := ⟨0, 1, [[120]], 1, 0, []⟩) ?_
  dsimp only
  rewrite [show IntKind.i64.wrap ((([[120]] : List (List UInt8)).length : Int) - ((1 : Nat) : Int)) = 0 from by decide]
  repeat (refine stp ?_)
  refine PTaken_spec (b := b) (s := ⟨1, 0, [], 0, 1, []⟩) ?_
  dsimp only
  repeat (refine stp ?_)
  exact ret1 rfl (Ht.frm h)
end Go.Proofs

set_option linter.all false
set_option synthInstance.maxSize 100000
set_option synthInstance.maxHeartbeats 400000
namespace Go.Proofs
open Go Go.SL
attribute [local irreducible] CCall CO CC CX CD

/-! ### the document's end -/
structure ESt where
  self : Int
  peer : Int
  said : List (List UInt8)
  acked : Nat
  taken : Int
  K : List SB
  I : List Bool
def kvV (x : SB) : Value := .slice x.1.1 x.1.2.1 x.1.2.2
def endT (K : List SB) (I : List Bool) : List Value := K.map kvV ++ I.map .bool
theorem nth_K {K : List SB} {I : List Bool} {a b c d f : Value} {m : Nat} (hm : m < K.length) : Nth (a :: b :: c :: d :: f :: endT K I) (5 + m) (kvV K[m]!) := ⟨by
  rw [show 5 + m = m + 1 + 1 + 1 + 1 + 1 from by omega]
  simp only [List.getElem?_cons_succ]
  unfold endT
  rw [List.getElem?_append_left (by simpa using hm), List.getElem?_map, List.getElem?_eq_getElem hm, getElem!_pos K m hm]; rfl⟩
theorem nth_I {K : List SB} {I : List Bool} {a b c d f : Value} {m : Nat} (hK : K.length = 16) (hm : m < I.length) : Nth (a :: b :: c :: d :: f :: endT K I) (21 + m) (.bool I[m]!) := ⟨by
  rw [show 21 + m = (16 + m) + 1 + 1 + 1 + 1 + 1 from by omega]
  simp only [List.getElem?_cons_succ]
  unfold endT
  rw [List.getElem?_append_right (by simp; omega), List.length_map, hK, show 16 + m - 16 = m from by omega, List.getElem?_map, List.getElem?_eq_getElem hm, getElem!_pos I m hm]; rfl⟩
theorem ups_K {K : List SB} {I : List Bool} {a b c d f : Value} {m : Nat} {x : SB} (hm : m < K.length) : Ups (a :: b :: c :: d :: f :: endT K I) (5 + m) [kvV x] (a :: b :: c :: d :: f :: endT (K.set m x) I) := ⟨by
  refine ⟨by simp [endT]; omega, ?_⟩
  have e : endT (K.set m x) I = (endT K I).set m (kvV x) := by unfold endT; rw [List.map_set, List.set_append_left _ _ (by simpa using hm)]
  rw [e, show 5 + m = m + 1 + 1 + 1 + 1 + 1 from by omega]
  have h2 : m < (endT K I).length := by simp [endT]; omega
  simp only [List.take_succ_cons, List.length_cons, List.length_nil, List.cons_append]
  rw [show m + 1 + 1 + 1 + 1 + 1 + (0 + 1) = (m + 1) + 1 + 1 + 1 + 1 + 1 from by omega]
  simp only [List.drop_succ_cons]
  rw [List.set_eq_take_append_cons_drop, if_pos h2]
  simp⟩
theorem ups_I {K : List SB} {I : List Bool} {a b c d f : Value} {m : Nat} {x : Bool} (hK : K.length = 16) (hm : m < I.length) : Ups (a :: b :: c :: d :: f :: endT K I) (21 + m) [.bool x] (a :: b :: c :: d :: f :: endT K (I.set m x)) := ⟨by
  refine ⟨by simp [endT]; omega, ?_⟩
  have e : endT K (I.set m x) = (endT K I).set (16 + m) (.bool x) := by unfold endT; rw [List.map_set, List.set_append_right _ _ (by simp; omega)]; simp [hK]
  rw [e, show 21 + m = (16 + m) + 1 + 1 + 1 + 1 + 1 from by omega]
  have h2 : 16 + m < (endT K I).length := by simp [endT]; omega
  simp only [List.take_succ_cons, List.length_cons, List.length_nil, List.cons_append]
  rw [show 16 + m + 1 + 1 + 1 + 1 + 1 + (0 + 1) = (16 + m + 1) + 1 + 1 + 1 + 1 + 1 from by omega]
  simp only [List.drop_succ_cons]
  rw [List.set_eq_take_append_cons_drop, if_pos h2]
  simp⟩
def isEnd (b : Nat) (e : ESt) : HP := exs fun (p : Value × List SB) => seps [pur (gby p.2 = e.said ∧ e.K.length = 16 ∧ e.I.length = 16), pto b (cells (.int .i64 e.self :: .int .i64 e.peer :: p.1 :: .int .i64 e.acked :: .int .i64 e.taken :: endT e.K e.I) 127), own encY 27 p.1 (gsv p.2), bigO (ownY 5) p.2]
theorem en_open {b : Nat} {e : ESt} {R : List HP} {G : World → Prop}
    (h : ∀ sv g, gby g = e.said → e.K.length = 16 → e.I.length = 16 → (gsv g).length = e.said.length → Ht (pto b (cells (.int .i64 e.self :: .int .i64 e.peer :: sv :: .int .i64 (e.acked : Nat) :: .int .i64 e.taken :: endT e.K e.I) 127) :: own encY 27 sv (gsv g) :: bigO (ownY 5) g :: R) G) : Ht (isEnd b e :: R) G := by
  refine Ht.exs fun p => Ht.seps (Ht.pur fun hp => ?_)
  obtain ⟨h1, h2, h3⟩ := hp
  exact h p.1 p.2 h1 h2 h3 (by rw [← h1]; simp [gsv, gby])
theorem en_shut {b : Nat} {e : ESt} {sv : Value} {g : List SB} {o : Obj} {xs : List SVy} {L L1 L2 R R' : List HP} {w : World} [p1 : Pull (pto b) L o L1] [p2 : Pull (own encY 27 sv) L1 xs L2] [p3 : Pull (bigO (ownY 5)) L2 g R] [fr : Frm R R']
    (ho : o = cells (.int .i64 e.self :: .int .i64 e.peer :: sv :: .int .i64 (e.acked : Nat) :: .int .i64 e.taken :: endT e.K e.I) 127) (hx : xs = gsv g) (hg : gby g = e.said) (hK : e.K.length = 16) (hI : e.I.length = 16) (sat : Sat L w) : Sat (isEnd b e :: R') w := by
  have h1 := p1.h _ _ sat
  have h2 := seps_mono (fun _ a => a) (fun _ t => p2.h _ _ t) h1
  have h3 := seps_mono (fun _ a => a) (fun _ t => seps_mono (fun _ a => a) (fun _ t => p3.h _ _ t) t) h2
  subst ho; subst hx
  refine seps_exs.2 ⟨(sv, g), seps_seps.2 (seps_pur.2 ⟨⟨hg, hK, hI⟩, ?_⟩)⟩
  exact seps_mono (fun _ a => a) (fun _ t => seps_mono (fun _ a => a) (fun _ t => seps_mono (fun _ a => a) (fun _ t => fr.h _ _ t) t) t) h3
theorem en_close {b : Nat} {e : ESt} {sv : Value} {g : List SB} {o : Obj} {xs : List SVy} {L L1 L2 R R' : List HP} {G : World → Prop} [p1 : Pull (pto b) L o L1] [p2 : Pull (own encY 27 sv) L1 xs L2] [p3 : Pull (bigO (ownY 5)) L2 g R] [fr : Frm R R']
    (ho : o = cells (.int .i64 e.self :: .int .i64 e.peer :: sv :: .int .i64 (e.acked : Nat) :: .int .i64 e.taken :: endT e.K e.I) 127) (hx : xs = gsv g) (hg : gby g = e.said) (hK : e.K.length = 16) (hI : e.I.length = 16) (h : Ht (isEnd b e :: R') G) : Ht L G := fun w sat => h w (en_shut ho hx hg hK hI sat)
theorem Of_spec {L K} {kind fr to n : Int} {v : Value} [o : One1 v] (h : Ht L (K (.agg #[.int .i64 kind, .int .i64 fr, .int .i64 to, .int .i64 n, v]))) :
    Ht L (CCall Try.prog 63 [.agg #[.int .i64 kind, .int .i64 fr, .int .i64 to, .int .i64 n, v]] K) := by
  refine ccall1 Try.func63 rfl (by decide) Try.ntmps63 (by rfl) (by decide) ?_
  repeat (refine stp ?_)
  intro c
  repeat (refine stp ?_)
  intro y
  repeat (refine stp ?_)
  exact retc rfl (Ht.frm h)
theorem RSame_spec {L K} {kind fr to n : Int} {v u : Value} {xs ys : List UInt8} [r1 : RdE L encB v xs] [r2 : RdE L encB u ys] (e : xs = ys) (h : Ht L (K (.bool true))) :
    Ht L (CCall Try.prog 64 [.agg #[.int .i64 kind, .int .i64 fr, .int .i64 to, .int .i64 n, v], .agg #[.int .i64 kind, .int .i64 fr, .int .i64 to, .int .i64 n, u]] K) := by
  refine Ht.know (p := One1 v ∧ One1 u) (fun w s => ⟨one1_of (r1.h w s), one1_of (r2.h w s)⟩) (fun ⟨o1, o2⟩ => ?_)
  have hr1 : ∀ (M : List HP) [fr : Frm M L], RdE M encB v xs := fun M fr => ⟨fun w t => r1.h w (fr.h _ _ t)⟩
  have hr2 : ∀ (M : List HP) [fr : Frm M L], RdE M encB u ys := fun M fr => ⟨fun w t => r2.h w (fr.h _ _ t)⟩
  refine ccall2 Try.func64 rfl (by decide) Try.ntmps64 (by rfl) (by decide) ?_
  repeat (refine stp ?_)
  intro c
  repeat (refine stp ?_)
  intro y
  repeat (refine stp ?_)
  rewrite [decide_eq_true (rfl : kind = kind)]
  repeat (refine stp ?_)
  rewrite [decide_eq_true (rfl : fr = fr)]
  repeat (refine stp ?_)
  rewrite [decide_eq_true (rfl : to = to)]
  repeat (refine stp ?_)
  rewrite [decide_eq_true (rfl : n = n)]
  repeat (refine stp ?_)
  refine ySame_spec' (xs := xs) (ys := ys) e ?_
  repeat (refine stp ?_)
  exact ret1 rfl (Ht.frm h)
end Go.Proofs

set_option linter.all false
set_option synthInstance.maxSize 100000
set_option synthInstance.maxHeartbeats 400000
namespace Go.Proofs
open Go Go.SL
attribute [local irreducible] CCall CO CC CX CD

instance {x : SB} : One1 (kvV x) := ⟨rfl⟩
def ackE (e : ESt) (n : Int) : Nat := if (e.acked : Int) < n ∧ n ≤ (e.said.length : Int) then n.toNat else e.acked
def hearE (kind fr to n : Int) (x : SB) (e : ESt) : Bool × Int × ESt :=
  if fr ≠ e.peer ∨ to ≠ e.self then (false, 5, e)
  else if kind = 2 then (false, 0, { e with acked := ackE e n })
  else if kind ≠ 1 then (false, 1, e)
  else if e.taken ≤ n ∧ 16 ≤ n - e.taken then (true, 7, e)
  else if e.taken ≤ n ∧ e.I[(n - e.taken).toNat]! = false then (true, 0, { e with K := e.K.set (n - e.taken).toNat x, I := e.I.set (n - e.taken).toNat true })
  else (true, 0, e)
theorem EHear_spec {L R K b e} {kind fr to n : Int} {x : SB} [p : Pull (isEnd b) L e R] (hx : 0 ≤ e.taken) (hn : n ≤ 9223372036854775807) (hs0 : e.said.length ≤ 900000)
    (h : Ht (isEnd b (hearE kind fr to n x e).2.2 :: R) (K (.tuple #[.bool (hearE kind fr to n x e).1, .int .i64 (hearE kind fr to n x e).2.1]))) :
    Ht L (CCall Try.prog 62 [.pointer (some ⟨b, 0, none⟩), .agg #[.int .i64 kind, .int .i64 fr, .int .i64 to, .int .i64 n, kvV x]] K) := by
  refine Ht.pull p ?_
  refine en_open fun sv g hg hK hI hgl => ?_
  refine ccall2 Try.func62 rfl (by decide) Try.ntmps62 (by rfl) (by decide) ?_
  repeat (refine stp ?_)
  intro c
  repeat (refine stp ?_)
  refine ht_draw Try.can62x1 Try.mixed (by kernel_rfl) ?_
  repeat (refine stp ?_)
  have hbad : (fr ≠ e.peer ∨ to ≠ e.self) → Ht (isEnd b e :: R) (K (.tuple #[.bool false, .int .i64 5])) := fun hh => by
    have q : hearE kind fr to n x e = (false, 5, e) := by unfold hearE; rw [if_pos hh]
    rw [q] at h; exact h
  refine cd_guard (i := 8) rfl ?_ ?_ <;> intro hp <;> simp only [decide_eq_true_eq, decide_eq_false_iff_not] at hp
  · repeat (refine stp ?_)
    refine ret2 rfl ?_
    exact en_close (b := b) (e := e) (g := g) (R' := R) rfl rfl hg hK hI (hbad (.inl hp))
  repeat (refine stp ?_)
  refine ht_if ?_ ?_ <;> intro hq <;> simp only [decide_eq_true_eq, decide_eq_false_iff_not] at hq
  · repeat (refine stp ?_)
    refine ret2 rfl ?_
    exact en_close (b := b) (e := e) (g := g) (R' := R) rfl rfl hg hK hI (hbad (.inr hq))
  have hpq : ¬ (fr ≠ e.peer ∨ to ≠ e.self) := by rintro (hh | hh); exact hp hh; exact hq hh
  repeat (refine stp ?_)
  refine ht_if ?_ ?_ <;> intro hk2 <;> simp only [decide_eq_true_eq, decide_eq_false_iff_not] at hk2
  · have q : hearE kind fr to n x e = (false, 0, { e with acked := ackE e n }) := by unfold hearE; rw [if_neg hpq, if_pos hk2]
    rw [q] at h
    repeat (refine stp ?_)
    refine ht_draw Try.can62x4 Try.mixed (by kernel_rfl) ?_
    repeat (refine stp ?_)
    refine cd_guard (i := 8) rfl ?_ ?_ <;> intro ha <;> simp only [decide_eq_true_eq, decide_eq_false_iff_not] at ha
    · repeat (refine stp ?_)
      refine ht_if ?_ ?_ <;> intro hb <;> simp only [decide_eq_true_eq, decide_eq_false_iff_not] at hb
      · have e1 : ackE e n = n.toNat := by unfold ackE; rw [if_pos ⟨by omega, by omega⟩]
        rw [e1] at h
        repeat (refine stp ?_)
        refine ret2 rfl ?_
        exact en_close (b := b) (e := { e with acked := n.toNat }) (g := g) (R' := R) (by rw [show ((n.toNat : Nat) : Int) = n from by omega]) rfl hg hK hI h
      · have e1 : ackE e n = e.acked := by unfold ackE; rw [if_neg (by omega)]
        rw [e1] at h
        repeat (refine stp ?_)
        refine ret2 rfl ?_
        exact en_close (b := b) (e := e) (g := g) (R' := R) rfl rfl hg hK hI h
    · have e1 : ackE e n = e.acked := by unfold ackE; rw [if_neg (by omega)]
      rw [e1] at h
      repeat (refine stp ?_)
      refine ret2 rfl ?_
      exact en_close (b := b) (e := e) (g := g) (R' := R) rfl rfl hg hK hI h
  repeat (refine stp ?_)
  refine ht_if ?_ ?_ <;> intro hk1 <;> simp only [decide_eq_true_eq, decide_eq_false_iff_not] at hk1
  · have q : hearE kind fr to n x e = (false, 1, e) := by unfold hearE; rw [if_neg hpq, if_neg hk2, if_pos hk1]
    rw [q] at h
    repeat (refine stp ?_)
    refine ret2 rfl ?_
    exact en_close (b := b) (e := e) (g := g) (R' := R) rfl rfl hg hK hI h
  have q0 : hearE kind fr to n x e = if e.taken ≤ n ∧ 16 ≤ n - e.taken then (true, 7, e) else if e.taken ≤ n ∧ e.I[(n - e.taken).toNat]! = false then (true, 0, { e with K := e.K.set (n - e.taken).toNat x, I := e.I.set (n - e.taken).toNat true }) else (true, 0, e) := by unfold hearE; rw [if_neg hpq, if_neg hk2, if_neg hk1]
  repeat (refine stp ?_)
  refine ht_draw Try.can62x9 Try.mixed (by kernel_rfl) ?_
  repeat (refine stp ?_)
  refine cd_guard (i := 8) rfl ?_ ?_ <;> intro hge <;> simp only [decide_eq_true_eq, decide_eq_false_iff_not] at hge
  case refine_2 =>
    have q : hearE kind fr to n x e = (true, 0, e) := by rw [q0, if_neg (by omega), if_neg (by omega)]
    rw [q] at h
    repeat (refine stp ?_)
    refine ht_draw Try.can62x11 Try.mixed (by kernel_rfl) ?_
    repeat (refine stp ?_)
    rewrite [decide_eq_false (show ¬ e.taken ≤ n by omega)]
    repeat (refine stp ?_)
    refine ret2 rfl ?_
    exact en_close (b := b) (e := e) (g := g) (R' := R) rfl rfl hg hK hI h
  repeat (refine stp ?_)
  have hw : IntKind.i64.wrap (n - e.taken) = n - e.taken := IntWalk.i64_in _ (by omega)
  refine ht_if ?_ ?_ <;> intro hbig <;> simp only [decide_eq_true_eq, decide_eq_false_iff_not, hw] at hbig
  · have q : hearE kind fr to n x e = (true, 7, e) := by rw [q0, if_pos ⟨by omega, by omega⟩]
    rw [q] at h
    repeat (refine stp ?_)
    refine ret2 rfl ?_
    exact en_close (b := b) (e := e) (g := g) (R' := R) rfl rfl hg hK hI h
  obtain ⟨j, hj, hj16⟩ : ∃ j : Nat, n - e.taken = (j : Int) ∧ j < 16 := ⟨(n - e.taken).toNat, by omega, by omega⟩
  rw [if_neg (by omega), hj, Int.toNat_natCast] at q0
  have hwj : IntKind.i64.wrap (n - e.taken) = (j : Int) := by rw [hw, hj]
  haveI ix : IxB (IntKind.i64.wrap (n - e.taken)) 16 := ⟨by rw [hwj]; omega⟩
  haveI tn : ToNat (IntKind.i64.wrap (n - e.taken)) j := ⟨by rw [hwj]; simp⟩
  haveI n1 := @nth_I e.K e.I (.int .i64 e.self) (.int .i64 e.peer) sv (.int .i64 (e.acked : Nat)) (.int .i64 e.taken) j hK (by omega)
  repeat (refine stp ?_)
  refine ht_draw Try.can62x11 Try.mixed (by kernel_rfl) ?_
  repeat (refine stp ?_)
  rewrite [decide_eq_true hge]
  repeat (refine stp ?_)
  refine ht_if ?_ ?_ <;> intro hI0 <;> simp only [Bool.not_eq_true', Bool.not_eq_false'] at hI0
  · have q : hearE kind fr to n x e = (true, 0, { e with K := e.K.set j x, I := e.I.set j true }) := by rw [q0, if_pos ⟨hge, hI0⟩]
    rw [q] at h
    haveI u1 := @ups_K e.K e.I (.int .i64 e.self) (.int .i64 e.peer) sv (.int .i64 (e.acked : Nat)) (.int .i64 e.taken) j x (by omega)
    haveI u2 := @ups_I (e.K.set j x) e.I (.int .i64 e.self) (.int .i64 e.peer) sv (.int .i64 (e.acked : Nat)) (.int .i64 e.taken) j true (by simpa using hK) (by omega)
    repeat (refine stp ?_)
    refine ht_draw Try.can62x12 Try.mixed (by kernel_rfl) ?_
    repeat (refine stp ?_)
    refine ret2 rfl ?_
    exact en_close (b := b) (e := { e with K := e.K.set j x, I := e.I.set j true }) (g := g) (R' := R) rfl rfl hg (by simpa using hK) (by simpa using hI) h
  · have q : hearE kind fr to n x e = (true, 0, e) := by rw [q0, if_neg (by rw [hI0]; simp)]
    rw [q] at h
    repeat (refine stp ?_)
    refine ret2 rfl ?_
    exact en_close (b := b) (e := e) (g := g) (R' := R) rfl rfl hg hK hI h
end Go.Proofs

set_option linter.all false
set_option synthInstance.maxSize 100000
set_option synthInstance.maxHeartbeats 400000
namespace Go.Proofs
open Go Go.SL
attribute [local irreducible] CCall CO CC CX CD

def shN {α : Type} (i : Nat) (K : List α) : List α := (K.drop 1).take i ++ K.drop i
theorem shN_len {α : Type} {i : Nat} {K : List α} (hi : i < K.length) : (shN i K).length = K.length := by unfold shN; simp; omega
theorem shN_zero {α : Type} {K : List α} : shN 0 K = K := by unfold shN; simp
theorem shN_at {α : Type} [Inhabited α] {i j : Nat} {K : List α} (hi : i < K.length) (hj : j < K.length) : (shN i K)[j]! = if j < i then K[j + 1]! else K[j]! := by
  have hl := shN_len hi
  rw [getElem!_pos (shN i K) j (by omega)]
  unfold shN
  split <;> rename_i h
  · rw [List.getElem_append_left (by simp; omega), List.getElem_take, List.getElem_drop, getElem!_pos K (j + 1) (by omega)]
    congr 1; omega
  · have h1 : ((K.drop 1).take i).length = i := by simp; omega
    rw [List.getElem_append_right (by omega), List.getElem_drop, getElem!_pos K j hj]
    congr 1; omega
theorem shN_step {α : Type} [Inhabited α] {i : Nat} {K : List α} (hi : i + 1 < K.length) : (shN i K).set i ((shN i K)[i + 1]!) = shN (i + 1) K := by
  have h0 := shN_len (K := K) (i := i) (by omega)
  have h1 := shN_len (K := K) (i := i + 1) hi
  refine List.ext_getElem (by simp [h0, h1]) fun j h2 h3 => ?_
  have hj : j < K.length := by simpa [h1] using h3
  have a1 := shN_at (K := K) (i := i) (j := j) (by omega) hj
  have a2 := shN_at (K := K) (i := i + 1) (j := j) hi hj
  have a3 := shN_at (K := K) (i := i) (j := i + 1) (by omega) hi
  rw [getElem!_pos (shN i K) j (by omega)] at a1
  rw [getElem!_pos (shN (i + 1) K) j (by omega)] at a2
  rw [List.getElem_set, a2]
  by_cases e : i = j
  · subst e
    rw [if_pos rfl, a3, if_neg (by omega), if_pos (by omega)]
  · rw [if_neg e, a1]
    by_cases hlt : j < i
    · rw [if_pos hlt, if_pos (by omega)]
    · rw [if_neg hlt, if_neg (by omega)]
def takeE (e : ESt) : Bool × ESt := if e.I[0]! = false then (false, e) else (true, { e with K := shN 15 e.K, I := (shN 15 e.I).set 15 false, taken := e.taken + 1 })
theorem ETake_spec {L R K b e} [p : Pull (isEnd b) L e R] (hx : 0 ≤ e.taken ∧ e.taken ≤ 9223372036854775000) (h : Ht (isEnd b (takeE e).2 :: R) (K (.bool (takeE e).1))) : Ht L (CCall Try.prog 66 [.pointer (some ⟨b, 0, none⟩)] K) := by
  refine Ht.pull p ?_
  refine en_open fun sv g hg hK hI hgl => ?_
  refine ccall1 Try.func66 rfl (by decide) Try.ntmps66 (by rfl) (by decide) ?_
  haveI i0 : IxB (0 : Int) 16 := ⟨by omega⟩
  haveI i15 : IxB (15 : Int) 16 := ⟨by omega⟩
  haveI n0 := @nth_I e.K e.I (.int .i64 e.self) (.int .i64 e.peer) sv (.int .i64 (e.acked : Nat)) (.int .i64 e.taken) 0 hK (by omega)
  repeat (refine stp ?_)
  refine ht_if ?_ ?_ <;> intro h0 <;> simp only [Bool.not_eq_true', Bool.not_eq_false'] at h0
  · have q : takeE e = (false, e) := by unfold takeE; rw [if_pos h0]
    rw [q] at h
    repeat (refine stp ?_)
    exact ret1 rfl (en_close (b := b) (e := e) (g := g) (R' := R) rfl rfl hg hK hI h)
  have q : takeE e = (true, { e with K := shN 15 e.K, I := (shN 15 e.I).set 15 false, taken := e.taken + 1 }) := by unfold takeE; rw [if_neg (by rw [h0]; simp)]
  rw [q] at h
  repeat (refine stp ?_)
  refine ht_for 15 (fun i (_ : Unit) => True) (fun i _ => pto b (cells (.int .i64 e.self :: .int .i64 e.peer :: sv :: .int .i64 (e.acked : Nat) :: .int .i64 e.taken :: endT (shN i e.K) (shN i e.I)) 127) :: own encY 27 sv (gsv g) :: bigO (ownY 5) g :: R) (fun i _ => [(3, .int .i64 i)]) () [3] trivial (fun w t => by rw [shN_zero, shN_zero]; exact t) inferInstance ?_
  intro i _ hi _
  dsimp only [List.cons_append, List.nil_append]
  have hKl := shN_len (K := e.K) (i := i) (by omega)
  have hIl := shN_len (K := e.I) (i := i) (by omega)
  have hw : IntKind.i64.wrap ((i : Int) + 1) = ((i + 1 : Nat) : Int) := IntWalk.i64_in _ (by omega)
  repeat (refine stp ?_)
  refine ht_if ?_ ?_ <;> intro hc <;> simp only [decide_eq_true_eq, decide_eq_false_iff_not, hw] at hc
  · have hi15 : i < 15 := by omega
    haveI ix1 : IxB (IntKind.i64.wrap ((i : Int) + 1)) 16 := ⟨by rw [hw]; omega⟩
    haveI tn1 : ToNat (IntKind.i64.wrap ((i : Int) + 1)) (i + 1) := ⟨by rw [hw]; simp⟩
    haveI ix0 : IxB (i : Int) 16 := ⟨by omega⟩
    haveI n1 := @nth_K (shN i e.K) (shN i e.I) (.int .i64 e.self) (.int .i64 e.peer) sv (.int .i64 (e.acked : Nat)) (.int .i64 e.taken) (i + 1) (by omega)
    haveI n2 := @nth_I (shN i e.K) (shN i e.I) (.int .i64 e.self) (.int .i64 e.peer) sv (.int .i64 (e.acked : Nat)) (.int .i64 e.taken) (i + 1) (by omega) (by omega)
    haveI u1 := @ups_K (shN i e.K) (shN i e.I) (.int .i64 e.self) (.int .i64 e.peer) sv (.int .i64 (e.acked : Nat)) (.int .i64 e.taken) i ((shN i e.K)[i + 1]!) (by omega)
    haveI u2 := @ups_I ((shN i e.K).set i ((shN i e.K)[i + 1]!)) (shN i e.I) (.int .i64 e.self) (.int .i64 e.peer) sv (.int .i64 (e.acked : Nat)) (.int .i64 e.taken) i ((shN i e.I)[i + 1]!) (by simp; omega) (by omega)
    repeat (refine stp ?_)
    refine ht_draw Try.can66x6 Try.mixed (by kernel_rfl) ?_
    repeat (refine stp ?_)
    rewrite [shN_step (K := e.K) (by omega), shN_step (K := e.I) (by omega)]
    repeat (refine stp ?_)
    exact ht_next () hi15 trivial (fun w t => t) (SubE.cons (by first | (rw [hw]; done) | (rw [hw]; rfl)) inferInstance) rfl rfl
  · have ei : i = 15 := by omega
    subst ei
    haveI u3 := @ups_I (shN 15 e.K) (shN 15 e.I) (.int .i64 e.self) (.int .i64 e.peer) sv (.int .i64 (e.acked : Nat)) (.int .i64 e.taken) 15 false (by omega) (by omega)
    repeat (refine stp ?_)
    rewrite [show IntKind.i64.wrap (e.taken + 1) = e.taken + 1 from IntWalk.i64_in _ (by omega)]
    repeat (refine stp ?_)
    refine ret1 rfl ?_
    exact en_close (b := b) (e := { e with K := shN 15 e.K, I := (shN 15 e.I).set 15 false, taken := e.taken + 1 }) (g := g) (R' := R) rfl rfl hg (by show (shN 15 e.K).length = 16; omega) (by simp; omega) h
theorem ETick_spec {L L1 R K b sv tl} {self peer tk : Int} {ac : Nat} {g : List SB} [p : Pull (pto b) L (cells (.int .i64 self :: .int .i64 peer :: sv :: .int .i64 ac :: .int .i64 tk :: tl) 127) L1] [q : Pull (own encY 27 sv) L1 (gsv g) R] (ha : ac ≤ g.length) (hn : g.length ≤ 900000)
    (h : ∀ v, Ht (own encP5 129 v (pkA self peer ac ((g.take (ac + 16)).drop ac)) :: own encY 27 sv (gsv g) :: pto b (cells (.int .i64 self :: .int .i64 peer :: sv :: .int .i64 ac :: .int .i64 tk :: tl) 127) :: R) (K v)) :
    Ht L (CCall Try.prog 68 [.pointer (some ⟨b, 0, none⟩)] K) := by
  refine Ht.pull p (Ht.two q ?_)
  refine ccall1 Try.func68 rfl (by decide) Try.ntmps68 (by rfl) (by decide) ?_
  have hgl := gsv_len (ms := g)
  repeat (refine stp ?_)
  refine ht_for (min g.length (ac + 16) - ac) (fun i (_ : Value) => True) (fun i v => own encP5 129 v (pkA self peer ac ((g.drop ac).take i)) :: own encY 27 sv (gsv g) :: pto b (cells (.int .i64 self :: .int .i64 peer :: sv :: .int .i64 ac :: .int .i64 tk :: tl) 127) :: R) (fun i v => [(4, .int .i64 ((ac : Int) + (i : Int))), (3, v)]) (.slice none 0 0) [4, 3] trivial (fun w t => own_nil.2 t) (SubE.cons (by simp) (SubE.cons rfl inferInstance)) ?_
  intro i v hi _
  dsimp only [List.cons_append, List.nil_append]
  have hW : ((g.take (ac + 16)).drop ac) = (g.drop ac).take (min g.length (ac + 16) - ac) := by
    rw [List.drop_take]
    by_cases hh : g.length ≤ ac + 16
    · rw [List.take_of_length_le (by first | (simp; omega) | simp), List.take_of_length_le (by first | (simp; omega) | simp)]
    · congr 1; omega
  have hll : ((g.drop ac).take i).length = i := by simp; omega
  have hw : IntKind.i64.wrap ((ac : Int) + 16) = (ac : Int) + 16 := IntWalk.i64_in _ (by omega)
  repeat (refine stp ?_)
  refine ht_guard ?_ ?_ <;> intro h0 <;> simp only [decide_eq_true_eq, decide_eq_false_iff_not] at h0
  · repeat (refine stp ?_)
    refine ht_if ?_ ?_ <;> intro hc <;> simp only [decide_eq_true_eq, decide_eq_false_iff_not, hw] at hc
    · have hii : i < min g.length (ac + 16) - ac := by omega
      have hai : ac + i < g.length := by omega
      repeat (refine stp ?_)
      refine ht_draw Try.can68x5 Try.mixed (by kernel_rfl) ?_
      repeat (refine stp ?_)
      refine cd_index (xs := gsv g) (by omega) ?_
      intro hb _
      repeat (refine stp ?_)
      rewrite [gsv_at hai]
      intro b1
      repeat (refine stp ?_)
      refine Ht.own_lit encP5 (b := b1) (n := 1) (xs := [(1, self, peer, (ac : Int) + (i : Int), (g[ac + i]!).1)]) rfl rfl (by decide) ?_
      have hpl := @pkA_len self peer ac ((g.drop ac).take i)
      refine co_append (e := encP5) (xs := pkA self peer ac ((g.drop ac).take i)) (by rfl) (by rw [hpl, hll]; simp; omega) (by rw [hpl, hll]; simp; omega) ?_
      intro v2
      refine Ht.one1 (v := v2) ?_
      intro _
      have e3 : pkA self peer ac ((g.drop ac).take i) ++ [(1, self, peer, (ac : Int) + (i : Int), (g[ac + i]!).1)] = pkA self peer ac ((g.drop ac).take (i + 1)) := by
        rw [List.take_succ_eq_append_getElem (by simp; omega), pkA_snoc, hll, List.getElem_drop, getElem!_pos g (ac + i) hai]
      rewrite [e3]
      repeat (refine stp ?_)
      exact ht_next v2 hii trivial (fun w t => (inferInstance : Frm _ _).h _ _ t) (SubE.cons (by rw [IntWalk.i64_in _ (by omega)]; simp only [Int.natCast_add]; exact congrArg (fun z => (Value.int .i64 z)) (Int.add_assoc _ _ _)) inferInstance) rfl rfl
    · have e : i = min g.length (ac + 16) - ac := by omega
      subst e
      rewrite [← hW]
      repeat (refine stp ?_)
      exact ret1 rfl (h v)
  · have e : i = min g.length (ac + 16) - ac := by omega
    subst e
    rewrite [← hW]
    repeat (refine stp ?_)
    exact ret1 rfl (h v)
end Go.Proofs

set_option linter.all false
namespace Go.Proofs
open Go Go.SL

/-! ### the plain law: an end of a pipe and the document's -/
section
variable {ν : Type}
theorem tfind_put_self {n : Int} {v : ν} {l : List (Int × ν)} (s : Srt l) : tfind n (tput n v l) = some v := (tfind_mem (tput_srt s)).2 ((tput_mem s).2 (.inl rfl))
theorem tfind_put_ne {n k : Int} {v : ν} {l : List (Int × ν)} (s : Srt l) (h : k ≠ n) : tfind k (tput n v l) = tfind k l := by
  cases hm : tfind k l with
  | some u => exact (tfind_mem (tput_srt s)).2 ((tput_mem s).2 (.inr ⟨(tfind_mem s).1 hm, h⟩))
  | none =>
    refine (tfind_none (tput_srt s)).2 fun r hr => ?_
    rcases (tput_mem s).1 hr with e | ⟨h1, _⟩
    · rw [e]; exact fun e => h e.symm
    · exact (tfind_none s).1 hm r h1
theorem tfind_drop_ne {n k : Int} {l : List (Int × ν)} (s : Srt l) (h : k ≠ n) : tfind k (tdrop n l) = tfind k l := by
  cases hm : tfind k l with
  | some u => exact (tfind_mem (tdrop_srt s)).2 ((tdrop_mem s).2 ⟨(tfind_mem s).1 hm, h⟩)
  | none => exact (tfind_none (tdrop_srt s)).2 fun r hr => (tfind_none s).1 hm r ((tdrop_mem s).1 hr).1
theorem thas_of {k : Int} {l : List (Int × ν)} {v : ν} (h : tfind k l = some v) : thas k l = true := by unfold thas; rw [h]; rfl
theorem thas_no {k : Int} {l : List (Int × ν)} (h : tfind k l = none) : thas k l = false := by unfold thas; rw [h]; rfl
theorem thas_eq {k k' : Int} {l l' : List (Int × ν)} (h : tfind k l = tfind k' l') : thas k l = thas k' l' := by unfold thas; rw [h]
end
structure PR (s : PSt) (e : ESt) : Prop where
  self : s.self = e.self
  peer : s.peer = e.peer
  said : s.said = e.said
  acked : s.acked = e.acked
  next : s.next = e.taken
  kl : e.K.length = 16
  il : e.I.length = 16
  has : ∀ j : Nat, j < 16 → e.I[j]! = thas (s.next + (j : Int)) s.kept
  val : ∀ j : Nat, j < 16 → e.I[j]! = true → tfind (s.next + (j : Int)) s.kept = some (e.K[j]!).2
  rng : ∀ r ∈ s.kept, s.next ≤ r.1 ∧ r.1 < s.next + 16
  srt : Srt s.kept
theorem PR.ackE {s : PSt} {e : ESt} (h : PR s e) (n : Int) : ackB s n = ackE e n := by
  unfold ackB Go.Proofs.ackE; rw [h.acked, h.said]
theorem PR.hear {s : PSt} {e : ESt} (h : PR s e) (kind fr to n : Int) (x : SB) :
    (hearM kind fr to n x.2 s).1 = (hearE kind fr to n x e).1 ∧ (hearM kind fr to n x.2 s).2.1 = (hearE kind fr to n x e).2.1 ∧ PR (hearM kind fr to n x.2 s).2.2 (hearE kind fr to n x e).2.2 := by
  by_cases h1 : fr ≠ e.peer ∨ to ≠ e.self
  · have q1 : hearM kind fr to n x.2 s = (false, 5, s) := by unfold hearM; rw [h.peer, h.self, if_pos h1]
    have q2 : hearE kind fr to n x e = (false, 5, e) := by unfold hearE; rw [if_pos h1]
    rw [q1, q2]; exact ⟨rfl, rfl, h⟩
  have h1' : ¬ (fr ≠ s.peer ∨ to ≠ s.self) := by rw [h.peer, h.self]; exact h1
  by_cases h2 : kind = 2
  · have q1 : hearM kind fr to n x.2 s = (false, 0, { s with acked := ackB s n }) := by unfold hearM; rw [if_neg h1', if_pos h2]
    have q2 : hearE kind fr to n x e = (false, 0, { e with acked := Go.Proofs.ackE e n }) := by unfold hearE; rw [if_neg h1, if_pos h2]
    rw [q1, q2]
    exact ⟨rfl, rfl, ⟨h.self, h.peer, h.said, h.ackE n, h.next, h.kl, h.il, h.has, h.val, h.rng, h.srt⟩⟩
  by_cases h3 : kind ≠ 1
  · have q1 : hearM kind fr to n x.2 s = (false, 1, s) := by unfold hearM; rw [if_neg h1', if_neg h2, if_pos h3]
    have q2 : hearE kind fr to n x e = (false, 1, e) := by unfold hearE; rw [if_neg h1, if_neg h2, if_pos h3]
    rw [q1, q2]; exact ⟨rfl, rfl, h⟩
  have m0 : hearM kind fr to n x.2 s = (true, if offB s n = 7 then 7 else 0, if offB s n = 0 then { s with kept := tput n x.2 s.kept } else s) := by unfold hearM; rw [if_neg h1', if_neg h2, if_neg h3]
  have m1 : hearE kind fr to n x e = if e.taken ≤ n ∧ 16 ≤ n - e.taken then (true, 7, e) else if e.taken ≤ n ∧ e.I[(n - e.taken).toNat]! = false then (true, 0, { e with K := e.K.set (n - e.taken).toNat x, I := e.I.set (n - e.taken).toNat true }) else (true, 0, e) := by unfold hearE; rw [if_neg h1, if_neg h2, if_neg h3]
  by_cases h4 : n < e.taken
  · have o : offB s n = 8 := by unfold offB; rw [h.next, if_pos h4]
    have q1 : hearM kind fr to n x.2 s = (true, 0, s) := by rw [m0, o]; rfl
    have q2 : hearE kind fr to n x e = (true, 0, e) := by rw [m1, if_neg (by omega), if_neg (by omega)]
    rw [q1, q2]; exact ⟨rfl, rfl, h⟩
  by_cases h5 : 16 ≤ n - e.taken
  · have o : offB s n = 7 := by unfold offB; rw [h.next, if_neg h4, if_pos h5]
    have q1 : hearM kind fr to n x.2 s = (true, 7, s) := by rw [m0, o]; rfl
    have q2 : hearE kind fr to n x e = (true, 7, e) := by rw [m1, if_pos ⟨by omega, h5⟩]
    rw [q1, q2]; exact ⟨rfl, rfl, h⟩
  obtain ⟨j, hj, hj16⟩ : ∃ j : Nat, n - e.taken = (j : Int) ∧ j < 16 := ⟨(n - e.taken).toNat, by omega, by omega⟩
  have hn : n = s.next + (j : Int) := by rw [h.next]; omega
  have hI := h.has j hj16
  rw [← hn] at hI
  rw [hj, Int.toNat_natCast] at m1
  by_cases h6 : thas n s.kept = true
  · have o : offB s n = 6 := by unfold offB; rw [h.next, if_neg h4, if_neg h5, if_pos h6]
    have q1 : hearM kind fr to n x.2 s = (true, 0, s) := by rw [m0, o]; rfl
    have q2 : hearE kind fr to n x e = (true, 0, e) := by rw [m1, if_neg (by omega), if_neg (by rw [hI, h6]; simp)]
    rw [q1, q2]; exact ⟨rfl, rfl, h⟩
  · have h6' : thas n s.kept = false := by simpa using h6
    have o : offB s n = 0 := by unfold offB; rw [h.next, if_neg h4, if_neg h5, if_neg h6]
    have q1 : hearM kind fr to n x.2 s = (true, 0, { s with kept := tput n x.2 s.kept }) := by rw [m0, o]; rfl
    have q2 : hearE kind fr to n x e = (true, 0, { e with K := e.K.set j x, I := e.I.set j true }) := by rw [m1, if_neg (by omega), if_pos ⟨by omega, by rw [hI, h6']⟩]
    rw [q1, q2]
    refine ⟨rfl, rfl, ⟨h.self, h.peer, h.said, h.acked, h.next, by simpa using h.kl, by simpa using h.il, fun i hi => ?_, fun i hi hh => ?_, fun r hr => ?_, tput_srt h.srt⟩⟩
    · show (e.I.set j true)[i]! = thas (s.next + (i : Int)) (tput n x.2 s.kept)
      rw [getElem!_pos (e.I.set j true) i (by simpa [h.il] using hi), List.getElem_set]
      by_cases e1 : j = i
      · subst e1
        rw [if_pos rfl, ← hn, thas_of (tfind_put_self h.srt)]
      · rw [if_neg e1, thas_eq (tfind_put_ne h.srt (by omega)), ← h.has i hi, getElem!_pos e.I i (by rw [h.il]; exact hi)]
    · show tfind (s.next + (i : Int)) (tput n x.2 s.kept) = some ((e.K.set j x)[i]!).2
      rw [getElem!_pos (e.K.set j x) i (by simpa [h.kl] using hi), List.getElem_set]
      by_cases e1 : j = i
      · subst e1
        rw [if_pos rfl, ← hn, tfind_put_self h.srt]
      · rw [if_neg e1, tfind_put_ne h.srt (by omega)]
        have hh2 : (e.I.set j true)[i]! = true := hh
        rw [getElem!_pos (e.I.set j true) i (by simpa [h.il] using hi), List.getElem_set, if_neg e1, ← getElem!_pos e.I i (by rw [h.il]; exact hi)] at hh2
        rw [h.val i hi hh2, getElem!_pos e.K i (by rw [h.kl]; exact hi)]
    · rcases (tput_mem h.srt).1 hr with e1 | ⟨h7, _⟩
      · rw [e1]; show s.next ≤ n ∧ n < s.next + 16; omega
      · exact h.rng r h7
theorem PR.take {s : PSt} {e : ESt} (h : PR s e) : thas s.next s.kept = (takeE e).1 ∧ PR (if thas s.next s.kept then { s with kept := tdrop s.next s.kept, next := s.next + 1 } else s) (takeE e).2 := by
  have h0 := h.has 0 (by omega)
  rw [show s.next + ((0 : Nat) : Int) = s.next from by simp] at h0
  unfold takeE
  by_cases h1 : thas s.next s.kept = true
  · rw [if_pos h1, if_neg (by rw [h0, h1]; simp)]
    refine ⟨h1, ⟨h.self, h.peer, h.said, h.acked, by show s.next + 1 = e.taken + 1; rw [h.next], by show (shN 15 e.K).length = 16; rw [shN_len (by rw [h.kl]; omega), h.kl], by show ((shN 15 e.I).set 15 false).length = 16; rw [List.length_set, shN_len (by rw [h.il]; omega), h.il], fun i hi => ?_, fun i hi hh => ?_, fun r hr => ?_, tdrop_srt h.srt⟩⟩
    · show ((shN 15 e.I).set 15 false)[i]! = thas (s.next + 1 + (i : Int)) (tdrop s.next s.kept)
      have hl : (shN 15 e.I).length = 16 := by rw [shN_len (by rw [h.il]; omega), h.il]
      rw [getElem!_pos ((shN 15 e.I).set 15 false) i (by simpa [hl] using hi), List.getElem_set]
      by_cases e1 : 15 = i
      · subst e1
        rw [if_pos rfl]
        refine (thas_no ((tfind_none (tdrop_srt h.srt)).2 fun r hr => ?_)).symm
        have := h.rng r ((tdrop_mem h.srt).1 hr).1
        omega
      · rw [if_neg e1, thas_eq (tfind_drop_ne h.srt (by omega)), ← getElem!_pos (shN 15 e.I) i (by omega), shN_at (by rw [h.il]; omega) (by rw [h.il]; exact hi), if_pos (by omega), h.has (i + 1) (by omega)]
        congr 1; omega
    · show tfind (s.next + 1 + (i : Int)) (tdrop s.next s.kept) = some ((shN 15 e.K)[i]!).2
      have hl : (shN 15 e.I).length = 16 := by rw [shN_len (by rw [h.il]; omega), h.il]
      have hh2 : ((shN 15 e.I).set 15 false)[i]! = true := hh
      rw [getElem!_pos ((shN 15 e.I).set 15 false) i (by simpa [hl] using hi), List.getElem_set] at hh2
      by_cases e1 : 15 = i
      · rw [if_pos e1] at hh2; cases hh2
      · rw [if_neg e1, ← getElem!_pos (shN 15 e.I) i (by omega), shN_at (by rw [h.il]; omega) (by rw [h.il]; exact hi), if_pos (by omega)] at hh2
        rw [tfind_drop_ne h.srt (by omega), shN_at (by rw [h.kl]; omega) (by rw [h.kl]; exact hi), if_pos (by omega), ← h.val (i + 1) (by omega) hh2]
        congr 1; omega
    · have h7 := (tdrop_mem h.srt).1 hr
      have := h.rng r h7.1
      show s.next + 1 ≤ r.1 ∧ r.1 < s.next + 1 + 16
      omega
  · have h1' : thas s.next s.kept = false := by simpa using h1
    rw [if_neg h1, if_pos (by rw [h0, h1'])]
    exact ⟨h1', h⟩
theorem rep_at {j : Nat} (hj : j < 16) : (List.replicate 16 false)[j]! = false := by
  rw [getElem!_pos (List.replicate 16 false) j (by rw [List.length_replicate]; exact hj), List.getElem_replicate]
theorem PR.new (self peer : Int) (said : List (List UInt8)) (n : Int) {K : List SB} (hK : K.length = 16) : PR ⟨self, peer, said, 0, n, []⟩ ⟨self, peer, said, 0, n, K, List.replicate 16 false⟩ where
  self := rfl
  peer := rfl
  said := rfl
  acked := rfl
  next := rfl
  kl := hK
  il := List.length_replicate
  has := fun j hj => rep_at hj
  val := fun j hj hh => by
    have h1 : (List.replicate 16 false)[j]! = true := hh
    rw [rep_at hj] at h1; cases h1
  rng := fun r hr => by cases hr
  srt := List.Pairwise.nil
end Go.Proofs

set_option linter.all false
set_option synthInstance.maxSize 100000
set_option synthInstance.maxHeartbeats 400000
namespace Go.Proofs
open Go Go.SL
attribute [local irreducible] CCall CO CC CX CD

def bodB (ms : List SB) : List (List UInt8) := ms.map fun x => x.2.take 50
theorem bodies_spec {L K v} {ms : List SB} [rs : RdE L encY v (gsv ms)] (hm : ∀ x ∈ ms, RdE L encB (svY x.1) x.2)
    (h : ∀ v' g, gby g = bodB (ms.take 10) → Ht (own encY 27 v' (gsv g) :: bigO (ownY 5) g :: L) (K v')) : Ht L (CCall Try.prog 58 [v] K) := by
  have hrs : ∀ (M : List HP) [fr : Frm M L], RdS M v encY (gsv ms) := fun M fr => ⟨fun w t => (rs.h w (fr.h _ _ t))⟩
  have hgm := gsv_len (ms := ms)
  refine Ht.know (p := (gsv ms).length ≤ 9223372036854775807) (fun w s => (rs.h w s).le) (fun hml => ?_)
  refine ccall1 Try.func58 rfl (by decide) Try.ntmps58 (by rfl) (by decide) ?_
  repeat (refine stp ?_)
  refine ht_for (min ms.length 10) (fun i (x : Value × List SB) => gby x.2 = bodB (ms.take i)) (fun i x => own encY 27 x.1 (gsv x.2) :: bigO (ownY 5) x.2 :: L) (fun i x => [(4, .int .i64 i), (3, x.1)]) (.slice none 0 0, []) [4, 3] rfl (fun w t => own_nil.2 ((bigO_nil (f := ownY 5)).2 t)) inferInstance ?_
  intro i ⟨lv, l⟩ hi hl
  dsimp only [List.cons_append, List.nil_append] at hl ⊢
  have hll : l.length = i := by
    have := congrArg List.length hl
    rw [gby_len, bodB, List.length_map, List.length_take] at this; omega
  have hgl := gsv_len (ms := l)
  repeat (refine stp ?_)
  refine ht_guard ?_ ?_ <;> intro h0 <;> simp only [decide_eq_true_eq, decide_eq_false_iff_not] at h0
  · repeat (refine stp ?_)
    refine ht_if ?_ ?_ <;> intro hc <;> simp only [decide_eq_true_eq, decide_eq_false_iff_not] at hc
    · have hii : i < ms.length := by omega
      have hmi := hm _ (List.mem_of_getElem? (getB hii))
      have hbs : bodB (ms.take (i + 1)) = bodB (ms.take i) ++ [(ms[i]!).2.take 50] := by
        unfold bodB
        rw [List.take_succ_eq_append_getElem hii, List.map_append, getElem!_pos ms i hii]; rfl
      rw [← gsv_at hii] at hmi
      unfold svY at hmi
      have hmx : ∀ (M : List HP) [fr : Frm M L], RdE M encB (.slice ((gsv ms)[i]!).1 ((gsv ms)[i]!).2.1 ((gsv ms)[i]!).2.2) (ms[i]!).2 := fun M fr => ⟨fun w t => hmi.h w (fr.h _ _ t)⟩
      have hms : ∀ (M : List HP) [fr : Frm M L], RdS M (.slice ((gsv ms)[i]!).1 ((gsv ms)[i]!).2.1 ((gsv ms)[i]!).2.2) encB (ms[i]!).2 := fun M fr => ⟨fun w t => hmi.h w (fr.h _ _ t)⟩
      refine Ht.know (p := ((gsv ms)[i]!).2.1 = (ms[i]!).2.length) (fun w t => slIn_len (s := (gsv ms)[i]!) (hmi.h w t.tail.tail)) (fun hsl => ?_)
      repeat (refine stp ?_)
      refine ht_draw Try.can58x5 Try.mixed (by kernel_rfl) ?_
      repeat (refine stp ?_)
      refine cd_index (xs := gsv ms) (by omega) ?_
      intro hb _
      repeat (refine stp ?_)
      haveI tn : ToNat (if (50 : Int) < (((gsv ms)[i]!).2.1 : Int) then 50 else (((gsv ms)[i]!).2.1 : Int)) (min (ms[i]!).2.length 50) := ⟨by rw [hsl]; split <;> omega⟩
      have hle : (0 : Int) ≤ (if (50 : Int) < (((gsv ms)[i]!).2.1 : Int) then 50 else (((gsv ms)[i]!).2.1 : Int)) ∧ (if (50 : Int) < (((gsv ms)[i]!).2.1 : Int) then 50 else (((gsv ms)[i]!).2.1 : Int)) ≤ (ms[i]!).2.length := by rw [hsl]; split <;> omega
      refine cd_slice (xs := (ms[i]!).2) ⟨Int.le_refl _, hle.1, hle.2⟩ ?_
      intro hs1 _
      have rs2 : ∀ (M : List HP) [fr : Frm M L], RdE M encB (slSub (.slice ((gsv ms)[i]!).1 ((gsv ms)[i]!).2.1 ((gsv ms)[i]!).2.2) 1 0 (min (ms[i]!).2.length 50)) ((ms[i]!).2.take 50) := fun M fr => ⟨fun w t => by
        have := slSub_in (hmi.h w (fr.h _ _ t)) (lo := 0) (hi := min (ms[i]!).2.length 50) ⟨by omega, by omega⟩
        rw [List.drop_zero, ytake_min] at this
        exact this⟩
      have htl : ((ms[i]!).2.take 50).length ≤ 50 := by simp; omega
      repeat (refine stp ?_)
      intro b1
      repeat (refine stp ?_)
      refine Ht.own_lit encB (b := b1) (n := 0) (xs := []) rfl rfl (by decide) ?_
      refine co_append (e := encB) (xs := []) (ys := (ms[i]!).2.take 50) (by rfl) (by simp; omega) (by simp; omega) ?_
      intro v1
      rewrite [List.nil_append]
      refine Ht.know (p := ∃ sv : SVy, v1 = svY sv) (fun w t => own_svY t) (fun ⟨sv, e⟩ => ?_)
      subst e
      refine Ht.one1 (v := svY sv) ?_
      intro _
      repeat (refine stp ?_)
      intro b2
      repeat (refine stp ?_)
      refine Ht.own_lit encY (b := b2) (n := 1) (xs := [sv]) rfl rfl (by decide) ?_
      refine co_append (e := encY) (xs := gsv l) (ys := [sv]) (by rfl) (by simp; omega) (by simp; omega) ?_
      intro lv2
      refine Ht.one1 (v := lv2) ?_
      intro _
      have e1 : gsv l ++ [sv] = gsv (l ++ [(sv, (ms[i]!).2.take 50)]) := by simp [gsv]
      rewrite [e1]
      repeat (refine stp ?_)
      refine ht_next (lv2, l ++ [(sv, (ms[i]!).2.take 50)]) (by omega) (by show gby (l ++ [(sv, (ms[i]!).2.take 50)]) = _; rw [hbs, ← hl]; simp [gby]) (fun w t => ?_) (SubE.cons (by rw [IntWalk.i64_in _ (by omega)]; rfl) inferInstance) rfl rfl
      have t1 : Sat (bigO (ownY 5) (l ++ [(sv, (ms[i]!).2.take 50)]) :: own encY 27 lv2 (gsv (l ++ [(sv, (ms[i]!).2.take 50)])) :: L) w := bigO_app (F := ownY 5) (x := (sv, (ms[i]!).2.take 50)) (l := l)
        ((inferInstance : Frm _ (own encB 5 (svY sv) ((ms[i]!).2.take 50) :: bigO (ownY 5) l :: own encY 27 lv2 (gsv (l ++ [(sv, (ms[i]!).2.take 50)])) :: L)).h _ _ t)
      exact seps_swap t1
    · have e : i = 10 := by omega
      have e2 : ms.take i = ms.take 10 := by rw [e]
      rw [e2] at hl
      repeat (refine stp ?_)
      exact ret1 rfl (h lv l hl)
  · have e2 : ms.take i = ms.take 10 := by rw [List.take_of_length_le (by omega), List.take_of_length_le (by omega)]
    rw [e2] at hl
    repeat (refine stp ?_)
    exact ret1 rfl (h lv l hl)
end Go.Proofs

set_option linter.all false
set_option synthInstance.maxSize 100000
set_option synthInstance.maxHeartbeats 400000
namespace Go.Proofs
open Go Go.SL
attribute [local irreducible] CCall CO CC CX CD

def okAct15 (L : List HP) (a : A15) : Prop := RdE L encB (svY a.2.2.1.2.2.2.2.1) a.2.2.1.2.2.2.2.2 ∧ a.2.2.1.2.2.2.1 ≤ 9223372036854775807 ∧ RdE L encY (svY a.2.2.2.1) (gsv a.2.2.2.2) ∧ ∀ x ∈ a.2.2.2.2, RdE L encB (svY x.1) x.2
theorem okAct15_of {w : World} {a : A15} (h : okA15 w a) : okAct15 [ro w] a :=
  ⟨⟨fun w' s => SlIn.mono h.2.1.2 (ro_le s)⟩, (wf_i64 h.2.1.1).2, ⟨fun w' s => SlIn.mono h.2.2.1 (ro_le s)⟩, fun x hx => ⟨fun w' s => SlIn.mono (h.2.2.2 x hx) (ro_le s)⟩⟩
/-- what is known behind i calls -/
structure PB (L : List HP) (g p : Int) (i : Nat) (s : PSt) (e : ESt) : Prop where
  pr : PR s e
  hs : s.self = g
  hp : s.peer = p
  sl : s.said.length ≤ 10 * i
  sb : ∀ x ∈ s.said, x.length ≤ 100
  ac : s.acked ≤ s.said.length
  nx : 0 ≤ s.next ∧ s.next ≤ 1099511627776 + i
  kl : s.kept.length ≤ i
  kb : ∀ r ∈ s.kept, r.2.length ≤ 100
  rd : ∀ x ∈ e.K, RdE L encB (svY x.1) x.2
section
variable {L : List HP} {g p : Int} {i : Nat} {s s2 : PSt} {e e2 : ESt}
theorem PB.up (h : PB L g p i s e) : PB L g p (i + 1) s e := ⟨h.pr, h.hs, h.hp, by have := h.sl; omega, h.sb, h.ac, by have := h.nx; omega, by have := h.kl; omega, h.kb, h.rd⟩
theorem PB.hear (h : PB L g p i s e) {kind fr to n : Int} {x : SB} {a c : Bool} {b d : Int} (hx : x.2.length ≤ 100) (hr : RdE L encB (svY x.1) x.2) (hm : hearM kind fr to n x.2 s = (a, b, s2)) (he : hearE kind fr to n x e = (c, d, e2)) :
    a = c ∧ b = d ∧ PB L g p (i + 1) s2 e2 ∧ s2.next = s.next ∧ e2.taken = e.taken := by
  have hh := h.pr.hear kind fr to n x
  rw [hm, he] at hh
  obtain ⟨h1, h2, h3⟩ := hh
  dsimp only at h1 h2 h3
  have hs2 : (s2.self = s.self ∧ s2.peer = s.peer ∧ s2.said = s.said ∧ s2.next = s.next) ∧ s2.acked ≤ s.said.length ∧ s2.kept.length ≤ s.kept.length + 1 ∧ ∀ r ∈ s2.kept, r.2.length ≤ 100 := by
    unfold hearM at hm
    have hk1 : s.kept.length ≤ s.kept.length + 1 := by omega
    split at hm
    · cases hm; exact ⟨⟨rfl, rfl, rfl, rfl⟩, h.ac, hk1, h.kb⟩
    split at hm
    · cases hm
      refine ⟨⟨rfl, rfl, rfl, rfl⟩, ?_, hk1, h.kb⟩
      show ackB s n ≤ _
      unfold ackB
      have := h.ac
      split <;> omega
    split at hm
    · cases hm; exact ⟨⟨rfl, rfl, rfl, rfl⟩, h.ac, hk1, h.kb⟩
    · by_cases ho : offB s n = 0
      · rw [if_pos ho] at hm
        cases hm
        refine ⟨⟨rfl, rfl, rfl, rfl⟩, h.ac, tput_len, fun r hr2 => ?_⟩
        rcases (tput_mem h.pr.srt).1 hr2 with e1 | ⟨h7, _⟩
        · rw [e1]; exact hx
        · exact h.kb r h7
      · rw [if_neg ho] at hm
        cases hm; exact ⟨⟨rfl, rfl, rfl, rfl⟩, h.ac, hk1, h.kb⟩
  have he2 : e2.taken = e.taken ∧ ∀ y ∈ e2.K, RdE L encB (svY y.1) y.2 := by
    unfold hearE at he
    split at he
    · cases he; exact ⟨rfl, h.rd⟩
    split at he
    · cases he; exact ⟨rfl, h.rd⟩
    split at he
    · cases he; exact ⟨rfl, h.rd⟩
    split at he
    · cases he; exact ⟨rfl, h.rd⟩
    split at he
    · cases he
      refine ⟨rfl, fun y hy => ?_⟩
      rcases List.mem_or_eq_of_mem_set hy with hy | hy
      · exact h.rd y hy
      · rw [hy]; exact hr
    · cases he; exact ⟨rfl, h.rd⟩
  obtain ⟨⟨g1, g2, g3, g4⟩, g5, g6, g7⟩ := hs2
  refine ⟨h1, h2, ⟨h3, by rw [g1]; exact h.hs, by rw [g2]; exact h.hp, by rw [g3]; have := h.sl; omega, by rw [g3]; exact h.sb, by rw [g3]; exact g5, by rw [g4]; have := h.nx; omega, by have := h.kl; omega, g7, he2.2⟩, g4, he2.1⟩
theorem PB.take (h : PB L g p i s e) : thas s.next s.kept = (takeE e).1 ∧ PB L g p (i + 1) (if thas s.next s.kept then { s with kept := tdrop s.next s.kept, next := s.next + 1 } else s) (takeE e).2 := by
  obtain ⟨h1, h2⟩ := h.pr.take
  have hK : ∀ y ∈ (takeE e).2.K, RdE L encB (svY y.1) y.2 := by
    unfold takeE
    split
    · exact h.rd
    · intro y hy
      have hy2 : y ∈ shN 15 e.K := hy
      unfold shN at hy2
      rcases List.mem_append.1 hy2 with hy2 | hy2
      · exact h.rd y (List.mem_of_mem_drop (List.mem_of_mem_take hy2))
      · exact h.rd y (List.mem_of_mem_drop hy2)
  refine ⟨h1, ?_⟩
  by_cases hh : thas s.next s.kept = true
  · rw [if_pos hh] at h2 ⊢
    exact ⟨h2, h.hs, h.hp, by have := h.sl; show s.said.length ≤ _; omega, h.sb, h.ac, by have := h.nx; show 0 ≤ s.next + 1 ∧ s.next + 1 ≤ _; omega, Nat.le_trans tdrop_len (by have := h.kl; omega), fun r hr => h.kb r ((tdrop_mem h.pr.srt).1 hr).1, hK⟩
  · rw [if_neg hh] at h2 ⊢
    exact ⟨h2, h.hs, h.hp, by have := h.sl; omega, h.sb, h.ac, by have := h.nx; omega, by have := h.kl; omega, h.kb, hK⟩
theorem bodB_ok {ms : List SB} {m : List (List UInt8)} (hm : m = bodB (ms.take 10)) : m.length ≤ 10 ∧ ∀ x ∈ m, x.length ≤ 100 := by
  subst hm
  refine ⟨by simp [bodB]; omega, fun x hx => ?_⟩
  obtain ⟨y, _, rfl⟩ := List.mem_map.1 hx
  simp; omega
theorem PB.say (h : PB L g p i s e) {m : List (List UInt8)} (hl : m.length ≤ 10) (hb : ∀ x ∈ m, x.length ≤ 100) : PB L g p (i + 1) { s with said := s.said ++ m } { e with said := e.said ++ m } := by
  have q := h.pr
  refine ⟨⟨q.self, q.peer, by show s.said ++ m = e.said ++ m; rw [q.said], q.acked, q.next, q.kl, q.il, q.has, q.val, q.rng, q.srt⟩, h.hs, h.hp, ?_, fun x hx => ?_, ?_, by have := h.nx; show 0 ≤ s.next ∧ s.next ≤ _; omega, by have := h.kl; show s.kept.length ≤ _; omega, h.kb, h.rd⟩
  · show (s.said ++ m).length ≤ _
    have := h.sl
    rw [List.length_append]; omega
  · rcases List.mem_append.1 hx with hx | hx
    · exact h.sb x hx
    · exact hb x hx
  · show s.acked ≤ (s.said ++ m).length
    have := h.ac
    rw [List.length_append]; omega
def K0 : List SB := List.replicate 16 ((none, 0, 0), [])
theorem K0_rd {x : SB} (hx : x ∈ K0) : RdE L encB (svY x.1) x.2 := by
  rw [List.eq_of_mem_replicate hx]
  exact ⟨fun _ _ => .inl ⟨rfl, rfl⟩⟩
theorem PB.new {n : Int} {m : List (List UInt8)} (hn : 0 ≤ n ∧ n ≤ 1099511627776) (hl : m.length ≤ 10 * i) (hb : ∀ x ∈ m, x.length ≤ 100) : PB L g p i ⟨g, p, m, 0, n, []⟩ ⟨g, p, m, 0, n, K0, List.replicate 16 false⟩ :=
  ⟨PR.new g p m n (by simp [K0]), rfl, rfl, hl, hb, Nat.zero_le _, ⟨hn.1, by show n ≤ _; omega⟩, Nat.zero_le _, fun r hr => (by cases hr), fun x hx => K0_rd hx⟩
end
theorem pairM_iff {a p : Int} : pairM a p = true ↔ ¬ (a < 0 ∨ 2 < a ∨ p < 0 ∨ 2 < p ∨ a = p) := by
  unfold pairM
  simp only [Bool.and_eq_true, decide_eq_true_eq]
  omega
/-! regions by another name, where there are two lists of them -/
def mown : SB → HP := ownY 5
theorem mown_at {g : List SB} : ∀ (M M' : List HP) [q : Pull (bigO mown) M g M'] (x : SB), x ∈ g → RdE M encB (svY x.1) x.2 := fun M M' q x hx => ⟨fun w t => bigY_at hx (q.h _ _ t)⟩
theorem mown_add {g m : List SB} {R : List HP} {w : World} (t : Sat (bigO mown m :: bigO (ownY 5) g :: R) w) : Sat (bigO (ownY 5) (g ++ m) :: R) w := by
  have t1 : Sat (bigO (ownY 5) m :: bigO (ownY 5) g :: R) w := t
  have t2 := seps_swap t1
  unfold bigO at t2 ⊢
  rw [List.map_append]
  have t3 := seps_seps.1 t2
  have t4 := seps_seps.1 (seps_perm (List.perm_middle (a := seps (m.map (ownY 5))) (l₁ := g.map (ownY 5)) (l₂ := R)) t3)
  refine seps_seps.2 ?_
  rw [List.append_assoc]
  refine seps_perm ?_ t4
  rw [← List.append_assoc, ← List.append_assoc]
  exact List.perm_append_comm.append_right R
theorem mown_is {m : List SB} {R : List HP} {w : World} (t : Sat (bigO mown m :: R) w) : Sat (bigO (ownY 5) m :: R) w := t
theorem bodies_spec' {L K v} {ms : List SB} [rs : RdE L encY v (gsv ms)] (hm : ∀ x ∈ ms, RdE L encB (svY x.1) x.2)
    (h : ∀ v' g, gby g = bodB (ms.take 10) → Ht (own encY 27 v' (gsv g) :: bigO mown g :: L) (K v')) : Ht L (CCall Try.prog 58 [v] K) := bodies_spec hm h
theorem PTick_spec' {L R K b s} [p : Pull (isPipe b) L s R] (ha : s.acked ≤ s.said.length) (hn : s.said.length ≤ 900000) (hb : ∀ x ∈ s.said, x.length ≤ 1000000)
    (h : ∀ v l, gby l = (s.said.take (s.acked + 16)).drop s.acked → Ht (own encP5 132 v (pkA s.self s.peer s.acked l) :: bigO mown l :: isPipe b s :: R) (K v)) : Ht L (CCall Try.prog 67 [.pointer (some ⟨b, 0, none⟩)] K) := PTick_spec ha hn hb h
theorem en_take {b : Nat} {e : ESt} {L R : List HP} {G : World → Prop} [p : Pull (isEnd b) L e R]
    (h : ∀ sv g, gby g = e.said → e.K.length = 16 → e.I.length = 16 → (gsv g).length = e.said.length → Ht (pto b (cells (.int .i64 e.self :: .int .i64 e.peer :: sv :: .int .i64 (e.acked : Nat) :: .int .i64 e.taken :: endT e.K e.I) 127) :: own encY 27 sv (gsv g) :: bigO (ownY 5) g :: R) G) : Ht L G := Ht.pull p (en_open h)
theorem To_spec2 {L L0 K} {kind fr to n : Int} {sa : Option Addr} {sl sc : Nat} {bs : List UInt8} [rs : RdE L0 encB (.slice sa sl sc) bs] (fr0 : ∀ w, Sat L w → Sat L0 w)
    (h : ∀ sv : SVy, RdE L0 encB (svY sv) (bs.take 100) → Ht L (K (.agg #[.int .i64 kind, .int .i64 fr, .int .i64 to, .int .i64 n, svY sv]))) :
    Ht L (CCall Try.prog 60 [.agg #[.int .i64 kind, .int .i64 fr, .int .i64 to, .int .i64 n, .slice sa sl sc]] K) := by
  refine Ht.know (p := sl = bs.length ∧ bs.length ≤ 9223372036854775807) (fun w s => ?_) (fun ⟨e, hbl⟩ => ?_)
  · have hh := rs.h w (fr0 w s)
    obtain ⟨a, c, hv, _, _⟩ := sliceIn_of hh
    cases hv
    exact ⟨rfl, hh.le⟩
  subst e
  have hrs : ∀ (M : List HP) [fr : Frm M L], RdS M (.slice sa bs.length sc) encB bs := fun M fr => ⟨fun w t => (rs.h w (fr0 w (fr.h _ _ t)))⟩
  refine ccall1 Try.func60 rfl (by decide) Try.ntmps60 (by rfl) (by decide) ?_
  repeat (refine stp ?_)
  intro c
  repeat (refine stp ?_)
  intro y
  repeat (refine stp ?_)
  refine ht_draw Try.can60x1 Try.mixed (by kernel_rfl) ?_
  repeat (refine stp ?_)
  rewrite [show (if (100 : Int) < bs.length then 100 else (bs.length : Int)) = ((min bs.length 100 : Nat) : Int) from by split <;> omega]
  refine cd_slice (xs := bs) (by omega) ?_
  intro hsl _
  have rs2 : ∀ w, Sat L0 w → SlIn w (slSub (Value.slice sa bs.length sc) 1 0 (min bs.length 100)) encB (bs.take 100) := fun w s => by
    have := slSub_in (rs.h w s) (lo := 0) (hi := min bs.length 100) ⟨by omega, by omega⟩
    rw [List.drop_zero, ytake_min] at this
    exact this
  refine Ht.know (p := ∃ sv : SVy, slSub (Value.slice sa bs.length sc) 1 0 (min bs.length 100) = svY sv) (fun w s => ?_) (fun ⟨sv, e⟩ => ?_)
  · obtain ⟨a, c, hv, _, _⟩ := sliceIn_of (rs2 w (fr0 w s.tail.tail))
    exact ⟨(a, _, c), hv⟩
  rewrite [e]
  repeat (refine stp ?_)
  rw [e] at rs2
  exact retc rfl (Ht.frm (h sv ⟨rs2⟩))
end Go.Proofs

set_option linter.all false
set_option synthInstance.maxSize 100000
set_option synthInstance.maxHeartbeats 400000
namespace Go.Proofs
open Go Go.SL
attribute [local irreducible] CCall CO CC CX CD

theorem PipePlays_spec {L K v} {g p : Int} {l : List A15} [rs : RdS L v encA15 l] (hok : ∀ a ∈ l, okAct15 L a) (h : Ht L (K (.bool true))) : Ht L (CCall Try.prog 8 [.int .i64 g, .int .i64 p, v] K) := by
  haveI : NZ 6 := ⟨by decide⟩
  refine ccall3 Try.func8 rfl (by decide) Try.ntmps8 (by rfl) (by decide) ?_
  repeat (refine stp ?_)
  refine PNew_spec (fun hpair => ?_) (fun hpair b => ?_)
  · have hbad : g < 0 ∨ 2 < g ∨ p < 0 ∨ 2 < p ∨ g = p := by
      by_cases hh : g < 0 ∨ 2 < g ∨ p < 0 ∨ 2 < p ∨ g = p
      · exact hh
      · rw [pairM_iff.2 hh] at hpair; cases hpair
    repeat (refine stp ?_)
    by_cases c0 : g < 0
    · rewrite [decide_eq_true c0]
      repeat (refine stp ?_)
      refine known15_spec ?_
      repeat (refine stp ?_)
      exact ret1 rfl h
    rewrite [decide_eq_false c0]
    repeat (refine stp ?_)
    by_cases c1 : 2 < g
    · rewrite [decide_eq_true c1]
      repeat (refine stp ?_)
      refine known15_spec ?_
      repeat (refine stp ?_)
      exact ret1 rfl h
    rewrite [decide_eq_false c1]
    repeat (refine stp ?_)
    by_cases c2 : p < 0
    · rewrite [decide_eq_true c2]
      repeat (refine stp ?_)
      refine known15_spec ?_
      repeat (refine stp ?_)
      exact ret1 rfl h
    rewrite [decide_eq_false c2]
    repeat (refine stp ?_)
    by_cases c3 : 2 < p
    · rewrite [decide_eq_true c3]
      repeat (refine stp ?_)
      refine known15_spec ?_
      repeat (refine stp ?_)
      exact ret1 rfl h
    rewrite [decide_eq_false c3]
    repeat (refine stp ?_)
    rewrite [decide_eq_true (show g = p by omega)]
    repeat (refine stp ?_)
    refine known15_spec ?_
    repeat (refine stp ?_)
    exact ret1 rfl h
  · have hgood := pairM_iff.1 hpair
    repeat (refine stp ?_)
    rewrite [decide_eq_false (show ¬ g < 0 by omega)]
    repeat (refine stp ?_)
    rewrite [decide_eq_false (show ¬ 2 < g by omega)]
    repeat (refine stp ?_)
    rewrite [decide_eq_false (show ¬ p < 0 by omega)]
    repeat (refine stp ?_)
    rewrite [decide_eq_false (show ¬ 2 < p by omega)]
    repeat (refine stp ?_)
    rewrite [decide_eq_false (show ¬ g = p by omega)]
    repeat (refine stp ?_)
    intro bd
    repeat (refine stp ?_)
    refine Ht.conseq (L' := isEnd bd ⟨g, p, [], 0, 0, K0, List.replicate 16 false⟩ :: isPipe b ⟨g, p, [], 0, 0, []⟩ :: L) ?_ (fun w t => ?_)
    case refine_2 =>
      have t1 := (bigO_nil (f := ownY 5)).2 (own_nil (e := encY) (T := 27).2 t)
      exact en_shut (e := ⟨g, p, [], 0, 0, K0, List.replicate 16 false⟩) (sv := .slice none 0 0) (g := []) rfl rfl rfl (by simp [K0]) (by simp) t1
    refine ht_cutd (.exit 0) (ι := Nat × PSt × ESt) (fun _ => True) (fun x => isEnd x.1 x.2.2 :: isPipe b x.2.1 :: L) (fun x => [(6, .bool false)]) ?_ ?_
    · intro Q' hQ
      refine cc_env (E' := [(10, .int .i64 0), (9, .pointer (some ⟨bd, 0, none⟩)), (7, .pointer (some ⟨b, 0, none⟩)), (6, .bool false), (0, .int .i64 g), (1, .int .i64 p), (2, v)]) inferInstance ?_
      refine ht_for (min l.length 60) (fun i (x : Nat × PSt × ESt) => PB L g p i x.2.1 x.2.2) (fun _ x => isEnd x.1 x.2.2 :: isPipe b x.2.1 :: L) (fun i x => [(10, .int .i64 i), (9, .pointer (some ⟨x.1, 0, none⟩))]) (bd, ⟨g, p, [], 0, 0, []⟩, ⟨g, p, [], 0, 0, K0, List.replicate 16 false⟩)
        [10, 9] (PB.new (by omega) (by simp) (fun x hx => by cases hx)) (fun w t => t) inferInstance ?_
      intro i ⟨bd, s, e⟩ hi hB
      dsimp only [List.cons_append, List.nil_append] at hB ⊢
      have q := hB.pr
      haveI : RdS (isEnd bd e :: isPipe b s :: L) v encA15 l := ⟨fun w t => rs.h w t.tail.tail⟩
      repeat (refine stp ?_)
      refine ht_guard ?_ ?_ <;> intro h0 <;> simp only [decide_eq_true_eq, decide_eq_false_iff_not] at h0
      · repeat (refine stp ?_)
        refine ht_if ?_ ?_ <;> intro h3 <;> simp only [decide_eq_true_eq, decide_eq_false_iff_not] at h3
        · have hii : i < l.length := by omega
          obtain ⟨hr, hpn, hL, hms⟩ := hok _ (List.mem_of_getElem? (getB hii))
          repeat (refine stp ?_)
          refine co_index (by omega) ?_
          intro hb
          repeat (refine stp ?_)
          generalize l[i]! = ac at hr hpn hL hms ⊢
          obtain ⟨k, n, ⟨pk, pf, pt, pn, ⟨⟨sa, sl, sc⟩, bs⟩⟩, ⟨⟨la, ll, lc⟩, ms⟩⟩ := ac
          dsimp only [svY] at hr hpn hL ⊢
          intro c
          repeat (refine stp ?_)
          have hLM : ∀ (M : List HP) [fr : Frm M L], RdE M encY (.slice la ll lc) (gsv ms) := fun M fr => ⟨fun w t => hL.h w (fr.h _ _ t)⟩
          have hmsM : ∀ (M : List HP) [fr : Frm M L] (x : SB), x ∈ ms → RdE M encB (svY x.1) x.2 := fun M fr x hx => ⟨fun w t => (hms x hx).h w (fr.h _ _ t)⟩
          have hsl := hB.sl
          have hac := hB.ac
          have hnx := hB.nx
          have hkl := hB.kl
          have hsl2 : s.said.length ≤ 600 := by omega
          have hnt : e.taken = s.next := q.next.symm
          refine ht_cutd .normal (ι := Nat × PSt × ESt) (fun x => PB L g p (i + 1) x.2.1 x.2.2) (fun x => isEnd x.1 x.2.2 :: isPipe b x.2.1 :: L)
            (fun x => [(12, .bool true), (10, .int .i64 i), (9, .pointer (some ⟨x.1, 0, none⟩)), (7, .pointer (some ⟨b, 0, none⟩)), (6, .bool false), (0, .int .i64 g), (1, .int .i64 p), (2, v)]) ?_ ?_
          · intro Q2 hQ2
            refine ht_if ?_ ?_ <;> intro k0 <;> simp only [decide_eq_true_eq, decide_eq_false_iff_not] at k0
            · repeat (refine stp ?_)
              refine bodies_spec' (ms := ms) (fun x hx => hmsM _ x hx) ?_
              intro mv gm hgm
              obtain ⟨hm1, hm2⟩ := bodB_ok hgm
              have hgml : (gsv gm).length ≤ 10 := by rw [gsv_len, ← gby_len]; exact hm1
              have hmat := mown_at (g := gm)
              refine Ht.one1 (v := mv) ?_
              intro _
              refine en_take (b := bd) (e := e) fun sv gd hgd hK hI hgl => ?_
              have hgl2 : (gsv gd).length ≤ 600 := by rw [hgl, ← q.said]; exact hsl2
              repeat (refine stp ?_)
              refine co_append (e := encY) (xs := gsv gd) (ys := gsv gm) (by rfl) (by omega) (by omega) ?_
              intro sv2
              refine Ht.one1 (v := sv2) ?_
              intro _
              repeat (refine stp ?_)
              refine ht_draw Try.can8x22 Try.mixed (by kernel_rfl) ?_
              repeat (refine stp ?_)
              refine PSay_spec (b := b) (s := s) (ms := gm) (fun x hx => hmat _ _ x hx) (by rw [← gsv_len (ms := gm)]; omega) (fun x hx => by have := hm2 x.2 (List.mem_map_of_mem (f := fun y : SB => y.2) hx); omega) ?_
              repeat (refine stp ?_)
              have hle : (gsv gd ++ gsv gm).length = (s.said ++ gby gm).length := by
                rw [List.length_append, List.length_append, hgl, ← q.said, gsv_len, gby_len]
              rewrite [hle, decide_eq_true (rfl : ((s.said ++ gby gm).length : Int) = ((s.said ++ gby gm).length : Int))]
              repeat (refine stp ?_)
              refine cx_env inferInstance (Ht.conseq (hQ2 (bd, { s with said := s.said ++ gby gm }, { e with said := e.said ++ gby gm }) (hB.say hm1 hm2)) (fun w t => ?_))
              have t1 : Sat (bigO mown gm :: bigO (ownY 5) gd :: pto bd (cells (.int .i64 e.self :: .int .i64 e.peer :: sv2 :: .int .i64 (e.acked : Nat) :: .int .i64 e.taken :: endT e.K e.I) 127) :: own encY 27 sv2 (gsv gd ++ gsv gm) :: isPipe b { s with said := s.said ++ gby gm } :: L) w :=
                (inferInstance : Frm _ (bigO mown gm :: bigO (ownY 5) gd :: pto bd (cells (.int .i64 e.self :: .int .i64 e.peer :: sv2 :: .int .i64 (e.acked : Nat) :: .int .i64 e.taken :: endT e.K e.I) 127) :: own encY 27 sv2 (gsv gd ++ gsv gm) :: isPipe b { s with said := s.said ++ gby gm } :: L)).h _ _ t
              exact en_shut (e := { e with said := e.said ++ gby gm }) (sv := sv2) (g := gd ++ gm) (R' := isPipe b { s with said := s.said ++ gby gm } :: L) rfl (by simp [gsv]) (by show gby (gd ++ gm) = e.said ++ gby gm; rw [← hgd]; simp [gby]) hK hI (mown_add t1)
            repeat (refine stp ?_)
            refine ht_if ?_ ?_ <;> intro k1 <;> simp only [decide_eq_true_eq, decide_eq_false_iff_not] at k1
            · repeat (refine stp ?_)
              refine To_spec2 (L0 := L) (bs := bs) (fun w t => (inferInstance : Frm _ L).h _ _ t) fun sx hsx => ?_
              have hnil : ∀ M : List HP, RdE M encB (.slice none 0 0) ([] : List UInt8) := fun M => ⟨fun _ _ => .inl ⟨rfl, rfl⟩⟩
              have hsxM : ∀ (M : List HP) [fr : Frm M L], RdE M encB (svY sx) (bs.take 100) := fun M fr => ⟨fun w t => hsx.h w (fr.h _ _ t)⟩
              have hbl : (bs.take 100).length ≤ 100 := by simp; omega
              repeat (refine stp ?_)
              intro c2
              repeat (refine stp ?_)
              rcases hm : hearM pk pf pt pn (bs.take 100) s with ⟨im, em, s2⟩
              rcases he : hearE pk pf pt pn (sx, bs.take 100) e with ⟨ie, ee, e2⟩
              obtain ⟨hi1, hi2, hB2, hn2, ht2⟩ := hB.hear (x := (sx, bs.take 100)) hbl hsx hm he
              subst hi1
              subst hi2
              refine PHear_spec (b := b) (s := s) (bs := bs.take 100) (by omega) (by omega) (by omega) (by omega) hpn (fun hf => ?_) (fun hf y1 => ?_)
              · rw [hm] at hf
                dsimp only at hf
                subst hf
                rewrite [hm]
                dsimp only
                unfold zeroP
                repeat (refine stp ?_)
                intro c3
                repeat (refine stp ?_)
                refine Of_spec (v := svY sx) ?_
                repeat (refine stp ?_)
                refine EHear_spec (b := bd) (e := e) (x := (sx, bs.take 100)) (by omega) hpn (by rw [← q.said]; omega) ?_
                rewrite [he]
                dsimp only
                repeat (refine stp ?_)
                refine ht_draw Try.can8x27 Try.mixed (by kernel_rfl) ?_
                repeat (refine stp ?_)
                rewrite [decide_eq_true (rfl : em = em)]
                repeat (refine stp ?_)
                exact cx_env inferInstance (Ht.frm (hQ2 (bd, s2, e2) hB2))
              · rw [hm] at hf
                dsimp only at hf
                subst hf
                refine Ht.know (p := ∃ sv : SVy, y1 = svY sv) (fun w t => own_svY t) (fun ⟨sy, ey⟩ => ?_)
                subst ey
                refine Ht.one1 (v := svY sy) ?_
                intro _
                rewrite [hm]
                dsimp only
                repeat (refine stp ?_)
                intro c3
                repeat (refine stp ?_)
                refine Of_spec (v := svY sx) ?_
                repeat (refine stp ?_)
                refine EHear_spec (b := bd) (e := e) (x := (sx, bs.take 100)) (by omega) hpn (by rw [← q.said]; omega) ?_
                rewrite [he]
                dsimp only
                repeat (refine stp ?_)
                refine en_take (b := bd) (e := e2) fun sv gd hgd hK hI hgl => ?_
                rewrite [ht2, hnt, hB.hs, hB.hp]
                refine ht_draw Try.can8x27 Try.mixed (by kernel_rfl) ?_
                repeat (refine stp ?_)
                rewrite [decide_eq_true (rfl : em = em)]
                repeat (refine stp ?_)
                refine Of_spec (v := svY sy) ?_
                repeat (refine stp ?_)
                refine RSame_spec (xs := []) (ys := []) rfl ?_
                repeat (refine stp ?_)
                refine cx_env inferInstance (Ht.conseq (hQ2 (bd, s2, e2) hB2) (fun w t => ?_))
                exact en_shut (e := e2) (sv := sv) (g := gd) (R' := isPipe b s2 :: L) (by rw [ht2, hnt]) rfl hgd hK hI t
            repeat (refine stp ?_)
            refine ht_if ?_ ?_ <;> intro k2 <;> simp only [decide_eq_true_eq, decide_eq_false_iff_not] at k2
            · repeat (refine stp ?_)
              have hnil : ∀ M : List HP, RdE M encB (.slice none 0 0) ([] : List UInt8) := fun M => ⟨fun _ _ => .inl ⟨rfl, rfl⟩⟩
              obtain ⟨hta, hB2⟩ := hB.take
              rcases he : takeE e with ⟨ie, e2⟩
              rw [he] at hta hB2
              dsimp only at hta hB2
              refine PTake_spec (b := b) (s := s) (by omega) (by omega) (fun hf => ?_) (fun hf y1 => ?_)
              · rw [hf] at hta hB2
                subst hta
                rw [if_neg (by decide)] at hB2
                unfold zeroP
                repeat (refine stp ?_)
                intro c3
                repeat (refine stp ?_)
                refine ETake_spec (b := bd) (e := e) (by omega) ?_
                rewrite [he]
                dsimp only
                repeat (refine stp ?_)
                refine ht_draw Try.can8x31 Try.mixed (by kernel_rfl) ?_
                repeat (refine stp ?_)
                exact cx_env inferInstance (Ht.frm (hQ2 (bd, s, e2) hB2))
              · rw [hf] at hta hB2
                subst hta
                rw [if_pos rfl] at hB2
                have ht2 : e2.taken = s.next + 1 := hB2.pr.next.symm
                refine Ht.know (p := ∃ sv : SVy, y1 = svY sv) (fun w t => own_svY t) (fun ⟨sy, ey⟩ => ?_)
                subst ey
                refine Ht.one1 (v := svY sy) ?_
                intro _
                repeat (refine stp ?_)
                intro c3
                repeat (refine stp ?_)
                refine ETake_spec (b := bd) (e := e) (by omega) ?_
                rewrite [he]
                dsimp only
                repeat (refine stp ?_)
                refine en_take (b := bd) (e := e2) fun sv gd hgd hK hI hgl => ?_
                rewrite [ht2, hB.hs, hB.hp]
                refine ht_draw Try.can8x31 Try.mixed (by kernel_rfl) ?_
                repeat (refine stp ?_)
                refine Of_spec (v := svY sy) ?_
                repeat (refine stp ?_)
                refine RSame_spec (xs := []) (ys := []) rfl ?_
                repeat (refine stp ?_)
                refine cx_env inferInstance (Ht.conseq (hQ2 (bd, _, e2) hB2) (fun w t => ?_))
                dsimp only
                rw [hB.hs, hB.hp]
                exact en_shut (e := e2) (sv := sv) (g := gd) (R' := isPipe b ⟨g, p, s.said, s.acked, s.next + 1, tdrop s.next s.kept⟩ :: L) (by rw [ht2]) rfl hgd hK hI t
            repeat (refine stp ?_)
            refine ht_if ?_ ?_ <;> intro k3 <;> simp only [decide_eq_true_eq, decide_eq_false_iff_not] at k3
            · repeat (refine stp ?_)
              refine PTick_spec' (b := b) (s := s) (by omega) (by omega) (fun x hx => by have := hB.sb x hx; omega) ?_
              intro tv lt hlt
              refine Ht.one1 (v := tv) ?_
              intro _
              repeat (refine stp ?_)
              refine en_take (b := bd) (e := e) fun sv gd hgd hK hI hgl => ?_
              have hgl2 : gd.length = s.said.length := by rw [← gsv_len, hgl, ← q.said]
              refine ETick_spec (b := bd) (g := gd) (by rw [← q.acked]; omega) (by omega) ?_
              intro uv
              refine Ht.one1 (v := uv) ?_
              intro _
              rewrite [← q.self, ← q.peer, ← q.acked]
              generalize hW : (gd.take (s.acked + 16)).drop s.acked = W
              have hWb : gby W = gby lt := by rw [hlt, ← hW, q.said, ← hgd]; simp [gby]
              have hWm : ∀ x ∈ W, x ∈ gd := fun x hx => by rw [← hW] at hx; exact List.mem_of_mem_take (List.mem_of_mem_drop hx)
              have hWl : W.length = lt.length := by rw [← gby_len, ← gby_len (ms := lt), hWb]
              have hltl : lt.length ≤ 600 := by
                have h1 := congrArg List.length hlt
                rw [gby_len, List.length_drop, List.length_take] at h1; omega
              have hp1 := @pkA_len s.self s.peer s.acked lt
              have hp2 := @pkA_len s.self s.peer s.acked W
              repeat (refine stp ?_)
              rewrite [hp1, hp2, hWl, decide_eq_true (rfl : (lt.length : Int) = (lt.length : Int))]
              repeat (refine stp ?_)
              refine cc_env (E' := [(25, .int .i64 0), (12, .bool true), (24, uv), (23, tv), (10, .int .i64 i), (9, .pointer (some ⟨bd, 0, none⟩)), (7, .pointer (some ⟨b, 0, none⟩)), (6, .bool false), (0, .int .i64 g), (1, .int .i64 p), (2, v)]) inferInstance ?_
              refine ht_for lt.length (fun _ (_ : Unit) => True) (fun _ _ => own encP5 129 uv (pkA s.self s.peer s.acked W) :: own encY 27 sv (gsv gd) :: pto bd (cells (.int .i64 s.self :: .int .i64 s.peer :: sv :: .int .i64 (s.acked : Nat) :: .int .i64 e.taken :: endT e.K e.I) 127) :: bigO (ownY 5) gd :: own encP5 132 tv (pkA s.self s.peer s.acked lt) :: bigO mown lt :: isPipe b s :: L) (fun j _ => [(25, .int .i64 j), (12, .bool true)]) () [25, 12] trivial (fun w t => (inferInstance : Frm _ (own encP5 129 uv (pkA s.self s.peer s.acked W) :: own encY 27 sv (gsv gd) :: pto bd (cells (.int .i64 s.self :: .int .i64 s.peer :: sv :: .int .i64 (s.acked : Nat) :: .int .i64 e.taken :: endT e.K e.I) 127) :: bigO (ownY 5) gd :: own encP5 132 tv (pkA s.self s.peer s.acked lt) :: bigO mown lt :: isPipe b s :: L)).h _ _ t) inferInstance ?_
              intro j _ hj _
              dsimp only [List.cons_append, List.nil_append]
              repeat (refine stp ?_)
              refine ht_guard ?_ ?_ <;> intro hc <;> simp only [decide_eq_true_eq, decide_eq_false_iff_not] at hc
              · have hjl : j < lt.length := by omega
                have hjW : j < W.length := by omega
                have hml := List.mem_of_getElem? (getB hjl)
                have hmW := hWm _ (List.mem_of_getElem? (getB hjW))
                have hbe : (lt[j]!).2 = (W[j]!).2 := by
                  have h1 : (gby lt)[j]! = (gby W)[j]! := by rw [hWb]
                  rw [getElem!_pos (gby lt) j (by rw [gby_len]; exact hjl), getElem!_pos (gby W) j (by rw [gby_len]; exact hjW)] at h1
                  rw [getElem!_pos lt j hjl, getElem!_pos W j hjW]
                  simpa [gby] using h1
                have hr1 : ∀ (M M' : List HP) [q : Pull (bigO mown) M lt M'], RdE M encB (.slice (lt[j]!).1.1 (lt[j]!).1.2.1 (lt[j]!).1.2.2) (lt[j]!).2 := fun M M' q => mown_at M M' _ hml
                have hr2 : ∀ (M M' : List HP) [q : Pull (bigO (ownY 5)) M gd M'], RdE M encB (.slice (W[j]!).1.1 (W[j]!).1.2.1 (W[j]!).1.2.2) (W[j]!).2 := fun M M' q => ⟨fun w t => bigY_at hmW (q.h _ _ t)⟩
                have hp1 := @pkA_len s.self s.peer s.acked lt
                have hp2 := @pkA_len s.self s.peer s.acked W
                repeat (refine stp ?_)
                refine ht_draw Try.can8x38 Try.mixed (by kernel_rfl) ?_
                repeat (refine stp ?_)
                refine cd_index (xs := pkA s.self s.peer s.acked lt) (by omega) ?_
                intro hb1 _
                repeat (refine stp ?_)
                refine cd_index (xs := pkA s.self s.peer s.acked W) (by omega) ?_
                intro hb2 _
                repeat (refine stp ?_)
                refine Of_spec ?_
                repeat (refine stp ?_)
                rewrite [pkA_at hjl, pkA_at hjW]
                refine RSame_spec (xs := (lt[j]!).2) (ys := (W[j]!).2) hbe ?_
                repeat (refine stp ?_)
                exact ht_next () hjl trivial (fun w t => t) (SubE.cons (by rw [IntWalk.i64_in _ (by omega)]; rfl) inferInstance) rfl rfl
              · repeat (refine stp ?_)
                refine cx_env inferInstance (Ht.conseq (hQ2 (bd, s, e) hB.up) (fun w t => ?_))
                exact en_shut (e := e) (sv := sv) (g := gd) (R' := isPipe b s :: L) (by rw [q.self, q.peer, q.acked]) rfl hgd hK hI t
            repeat (refine stp ?_)
            refine ht_if ?_ ?_ <;> intro k4 <;> simp only [decide_eq_true_eq, decide_eq_false_iff_not] at k4
            · repeat (refine stp ?_)
              refine bodies_spec' (ms := ms) (fun x hx => hmsM _ x hx) ?_
              intro mv gm hgm
              obtain ⟨hm1, hm2⟩ := bodB_ok hgm
              have hgml : gm.length ≤ 10 := by rw [← gby_len]; exact hm1
              have hmat := mown_at (g := gm)
              refine Ht.one1 (v := mv) ?_
              intro _
              repeat (refine stp ?_)
              refine PRestore_spec (b := b) (s := s) (ms := gm) (fun x hx => hmat _ _ x hx) (by omega) (fun x hx => by have := hm2 x.2 (List.mem_map_of_mem (f := fun y : SB => y.2) hx); omega) (fun hbadn => ?_) (fun hgoodn => ?_)
              · repeat (refine stp ?_)
                refine ht_guard ?_ ?_ <;> intro hn0 <;> simp only [decide_eq_true_eq, decide_eq_false_iff_not] at hn0
                · repeat (refine stp ?_)
                  exact cx_env inferInstance (Ht.frm (hQ2 (bd, s, e) hB.up))
                · repeat (refine stp ?_)
                  rewrite [decide_eq_true (show (1099511627776 : Int) < n by omega)]
                  repeat (refine stp ?_)
                  exact cx_env inferInstance (Ht.frm (hQ2 (bd, s, e) hB.up))
              · repeat (refine stp ?_)
                rewrite [decide_eq_false (show ¬ n < 0 by omega)]
                repeat (refine stp ?_)
                rewrite [decide_eq_false (show ¬ (1099511627776 : Int) < n by omega)]
                repeat (refine stp ?_)
                intro bd2
                repeat (refine stp ?_)
                refine cx_env inferInstance (Ht.conseq (hQ2 (bd2, ⟨g, p, gby gm, 0, n, []⟩, ⟨g, p, gby gm, 0, n, K0, List.replicate 16 false⟩) (PB.new (by omega) (by omega) hm2)) (fun w t => ?_))
                rw [hB.hs, hB.hp] at t
                have t1 : Sat (_ :: _ :: _ :: bigO (ownY 5) gm :: _) w := t
                exact en_shut (e := ⟨g, p, gby gm, 0, n, K0, List.replicate 16 false⟩) (sv := mv) (g := gm) (R' := isPipe b ⟨g, p, gby gm, 0, n, []⟩ :: L) rfl rfl rfl (by simp [K0]) (by simp) t1
            · repeat (refine stp ?_)
              have hR : (thas s.next s.kept) = e.I[0]! := by have := q.has 0 (by omega); rw [this]; simp
              have hkb : ((tfind s.next s.kept).getD []).length ≤ 100 := by
                cases hf : tfind s.next s.kept with
                | none => simp
                | some u => exact hB.kb _ ((tfind_mem q.srt).1 hf)
              refine PReady_spec (b := b) (s := s) (by omega) (by omega) ?_
              intro rv
              refine Ht.one1 (v := rv) ?_
              intro _
              repeat (refine stp ?_)
              refine en_take (b := bd) (e := e) fun sv gd hgd hK hI hgl => ?_
              haveI i0 : IxB (0 : Int) 16 := ⟨by omega⟩
              haveI n0 := @nth_I e.K e.I (.int .i64 e.self) (.int .i64 e.peer) sv (.int .i64 (e.acked : Nat)) (.int .i64 e.taken) 0 hK (by omega)
              haveI n1 := @nth_K e.K e.I (.int .i64 e.self) (.int .i64 e.peer) sv (.int .i64 (e.acked : Nat)) (.int .i64 e.taken) 0 (by omega)
              rewrite [hR]
              repeat (refine stp ?_)
              rewrite [decide_eq_true (rfl : e.I[0]! = e.I[0]!)]
              repeat (refine stp ?_)
              have hkM : ∀ (M : List HP) [fr : Frm M L], RdE M encB (kvV e.K[0]!) (e.K[0]!).2 := fun M fr => ⟨fun w t => (hB.rd _ (List.mem_of_getElem? (getB (show 0 < e.K.length by omega)))).h w (fr.h _ _ t)⟩
              cases hI0 : e.I[0]! with
              | false =>
                rewrite [Bool.not_false]
                repeat (refine stp ?_)
                refine cc_env (E' := [(30, .int .i64 0), (28, rv), (12, .bool true), (10, .int .i64 i), (9, .pointer (some ⟨bd, 0, none⟩)), (7, .pointer (some ⟨b, 0, none⟩)), (6, .bool false), (0, .int .i64 g), (1, .int .i64 p), (2, v)]) inferInstance ?_
                generalize (tfind s.next s.kept).getD [] = ys at hkb ⊢
                refine ht_for ys.length (fun _ (zs : List UInt8) => zs.length = ys.length) (fun _ zs => own encB 5 rv zs :: pto bd (cells (.int .i64 e.self :: .int .i64 e.peer :: sv :: .int .i64 (e.acked : Nat) :: .int .i64 e.taken :: endT e.K e.I) 127) :: own encY 27 sv (gsv gd) :: bigO (ownY 5) gd :: isPipe b s :: L) (fun j _ => [(30, .int .i64 j)]) ys [30] rfl (fun w t => (inferInstance : Frm _ (own encB 5 rv ys :: pto bd (cells (.int .i64 e.self :: .int .i64 e.peer :: sv :: .int .i64 (e.acked : Nat) :: .int .i64 e.taken :: endT e.K e.I) 127) :: own encY 27 sv (gsv gd) :: bigO (ownY 5) gd :: isPipe b s :: L)).h _ _ t) inferInstance ?_
                intro j zs hj hz
                dsimp only [List.cons_append, List.nil_append]
                repeat (refine stp ?_)
                refine ht_if ?_ ?_ <;> intro hc <;> simp only [decide_eq_true_eq, decide_eq_false_iff_not] at hc
                · repeat (refine stp ?_)
                  refine co_index (xs := zs) (by omega) ?_
                  intro hbi
                  repeat (refine stp ?_)
                  refine co_setEl (e := encB) (el := 5) 1 (by rfl) (by simp) ?_
                  repeat (refine stp ?_)
                  exact ht_next (zs.set j 1) (by omega) (by simpa using hz) (fun w t => t) (SubE.cons (by rw [IntWalk.i64_in _ (by omega)]; rfl) inferInstance) rfl rfl
                · repeat (refine stp ?_)
                  refine cx_env inferInstance (Ht.conseq (hQ2 (bd, s, e) hB.up) (fun w t => ?_))
                  exact en_shut (e := e) (sv := sv) (g := gd) (R' := isPipe b s :: L) rfl rfl hgd hK hI t
              | true =>
                have hg2 : (e.K[0]!).2 = (tfind s.next s.kept).getD [] := by
                  have h1 := q.val 0 (by omega) hI0
                  rw [show s.next + ((0 : Nat) : Int) = s.next from by simp] at h1
                  rw [h1]; rfl
                rewrite [Bool.not_true]
                repeat (refine stp ?_)
                refine ySame_spec' (xs := (tfind s.next s.kept).getD []) (ys := (e.K[0]!).2) hg2.symm ?_
                repeat (refine stp ?_)
                refine cc_env (E' := [(30, .int .i64 0), (28, rv), (12, .bool true), (10, .int .i64 i), (9, .pointer (some ⟨bd, 0, none⟩)), (7, .pointer (some ⟨b, 0, none⟩)), (6, .bool false), (0, .int .i64 g), (1, .int .i64 p), (2, v)]) inferInstance ?_
                generalize (tfind s.next s.kept).getD [] = ys at hkb ⊢
                refine ht_for ys.length (fun _ (zs : List UInt8) => zs.length = ys.length) (fun _ zs => own encB 5 rv zs :: pto bd (cells (.int .i64 e.self :: .int .i64 e.peer :: sv :: .int .i64 (e.acked : Nat) :: .int .i64 e.taken :: endT e.K e.I) 127) :: own encY 27 sv (gsv gd) :: bigO (ownY 5) gd :: isPipe b s :: L) (fun j _ => [(30, .int .i64 j)]) ys [30] rfl (fun w t => (inferInstance : Frm _ (own encB 5 rv ys :: pto bd (cells (.int .i64 e.self :: .int .i64 e.peer :: sv :: .int .i64 (e.acked : Nat) :: .int .i64 e.taken :: endT e.K e.I) 127) :: own encY 27 sv (gsv gd) :: bigO (ownY 5) gd :: isPipe b s :: L)).h _ _ t) inferInstance ?_
                intro j zs hj hz
                dsimp only [List.cons_append, List.nil_append]
                repeat (refine stp ?_)
                refine ht_if ?_ ?_ <;> intro hc <;> simp only [decide_eq_true_eq, decide_eq_false_iff_not] at hc
                · repeat (refine stp ?_)
                  refine co_index (xs := zs) (by omega) ?_
                  intro hbi
                  repeat (refine stp ?_)
                  refine co_setEl (e := encB) (el := 5) 1 (by rfl) (by simp) ?_
                  repeat (refine stp ?_)
                  exact ht_next (zs.set j 1) (by omega) (by simpa using hz) (fun w t => t) (SubE.cons (by rw [IntWalk.i64_in _ (by omega)]; rfl) inferInstance) rfl rfl
                · repeat (refine stp ?_)
                  refine cx_env inferInstance (Ht.conseq (hQ2 (bd, s, e) hB.up) (fun w t => ?_))
                  exact en_shut (e := e) (sv := sv) (g := gd) (R' := isPipe b s :: L) rfl rfl hgd hK hI t

          · intro ⟨bd2, s2, e2⟩ hB2
            dsimp only at hB2 ⊢
            have q2 := hB2.pr
            have hsl3 := hB2.sl
            have hac3 := hB2.ac
            refine en_take (b := bd2) (e := e2) fun sv gd hgd hK hI hgl => ?_
            have hlen : (gsv gd).length = s2.said.length := by rw [hgl, q2.said]
            repeat (refine stp ?_)
            refine ht_draw Try.can8x46 Try.mixed (by kernel_rfl) ?_
            repeat (refine stp ?_)
            refine PSaid_spec (b := b) (s := s2) ?_
            repeat (refine stp ?_)
            rewrite [hlen]
            rewrite [decide_eq_false (show ¬ ((s2.said.length : Int) ≠ (s2.said.length : Int)) from fun hh => hh rfl)]
            repeat (refine stp ?_)
            refine PWaiting_spec (b := b) (s := s2) ?_
            repeat (refine stp ?_)
            rewrite [hlen, ← q2.acked]
            rewrite [decide_eq_false (show ¬ (IntKind.i64.wrap ((s2.said.length : Int) - (s2.acked : Int)) ≠ IntKind.i64.wrap ((s2.said.length : Int) - (s2.acked : Int))) from fun hh => hh rfl)]
            repeat (refine stp ?_)
            refine PTaken_spec (b := b) (s := s2) ?_
            repeat (refine stp ?_)
            rewrite [← q2.next]
            rewrite [decide_eq_false (show ¬ (s2.next ≠ s2.next) from fun hh => hh rfl)]
            repeat (refine stp ?_)
            refine ht_next (bd2, s2, e2) (by omega) hB2 (fun w t => ?_) (SubE.cons (by rw [IntWalk.i64_in _ (by omega)]; rfl) inferInstance) rfl rfl
            exact en_shut (e := e2) (sv := sv) (g := gd) (R' := isPipe b s2 :: L) (by rw [q2.acked, q2.next]) rfl hgd hK hI t
        · repeat (refine stp ?_)
          exact cx_env inferInstance (Ht.frm (hQ (bd, s, e) trivial))
      · repeat (refine stp ?_)
        exact cx_env inferInstance (Ht.frm (hQ (bd, s, e) trivial))
    · intro ⟨bd, s, e⟩ _
      dsimp only
      repeat (refine stp ?_)
      refine known15_spec ?_
      repeat (refine stp ?_)
      exact ret1 rfl (Ht.frm h)
end Go.Proofs
