/- The parts D15, D15P, TCi, TBiy, Wy, SLXI, YSM, PIA, PIB, CRC, SLXJ, FRA, FRB, SLXK, FRC, FRD, SO1, ST1, SS1, SS2, SO2, SO3, SO4, SOX, SO8 of the engine and of the walk, one behind the other: no condition. -/
import Derived.Test.YtiaiakncbgmfhaaGreatB774966c9
import Derived.Test.YtiaiakncbgmfhaaGreatBb134de02
import Derived.Test.YtiaiakncbgmfhaaGreatSLT
import Derived.IntWalk

set_option linter.all false
set_option synthInstance.maxSize 100000
set_option synthInstance.maxHeartbeats 400000
namespace Go.Proofs
open Go Go.SL
/-! the arguments of chapter 15's laws -/
theorem dec_bslY {P : Program} {T el : TypeId} (h : P.underlying T = some (.slice el)) (hk : P.cellsOf el = 1) (he : P.underlying el = some (.int .u8)) :
    Dec P T (fun x : SB => [.slice x.1.1 x.1.2.1 x.1.2.2]) (fun w x => SlIn w (svY x.1) encB x.2) :=
  Dec.map2 (dec_slice encB h hk (dec_byteS he)) _ _ (fun a : Value × List UInt8 => (toSVy a.1, a.2)) fun w a ha => by
    have h1 := ha.1
    obtain ⟨p, c, hv, _, _⟩ := sliceIn_of h1
    rw [hv] at h1
    refine ⟨?_, ?_⟩
    · show [a.1] = _
      rw [hv]; rfl
    · show SlIn w (svY (toSVy a.1)) encB a.2
      rw [hv]; exact h1
abbrev PkA := Int × Int × Int × Int × SB
@[reducible] def encPk : Enc PkA := ⟨5, fun r => [.int .i64 r.1, .int .i64 r.2.1, .int .i64 r.2.2.1, .int .i64 r.2.2.2.1, .slice r.2.2.2.2.1.1 r.2.2.2.2.1.2.1 r.2.2.2.2.1.2.2], fun _ => rfl, fun r v h => by
  simp at h; rcases h with rfl | rfl | rfl | rfl | rfl <;> rfl⟩
def okPk (w : World) (a : PkA) : Prop := wfI .i64 a.2.2.2.1 ∧ SlIn w (svY a.2.2.2.2.1) encB a.2.2.2.2.2
theorem okPk_rd {w : World} {a : PkA} (h : okPk w a) : RdE [ro w] encB (.slice a.2.2.2.2.1.1 a.2.2.2.2.1.2.1 a.2.2.2.2.1.2.2) a.2.2.2.2.2 := ⟨fun w' s => SlIn.mono h.2 (ro_le s)⟩
end Go.Proofs

set_option linter.all false
set_option synthInstance.maxSize 100000
set_option synthInstance.maxHeartbeats 400000
namespace Go.Proofs
open Go Go.SL
/-- a call: kind, number, a packet, bodies -/
abbrev A15 := Int × Int × PkA × (SVy × List SB)
@[reducible] def encSB : Enc SB := ⟨1, fun x => [.slice x.1.1 x.1.2.1 x.1.2.2], fun _ => rfl, fun _ v h => by simp at h; subst h; rfl⟩
@[reducible] def encA15 : Enc A15 := ⟨8, fun r => [.int .i64 r.1, .int .i64 r.2.1, .int .i64 r.2.2.1.1, .int .i64 r.2.2.1.2.1, .int .i64 r.2.2.1.2.2.1, .int .i64 r.2.2.1.2.2.2.1, .slice r.2.2.1.2.2.2.2.1.1 r.2.2.1.2.2.2.2.1.2.1 r.2.2.1.2.2.2.2.1.2.2, .slice r.2.2.2.1.1 r.2.2.2.1.2.1 r.2.2.2.1.2.2], fun _ => rfl, fun r v h => by
  simp at h; rcases h with rfl | rfl | rfl | rfl | rfl | rfl | rfl | rfl <;> rfl⟩
theorem slIn_sb {w : World} {v : Value} {xs : List SB} (h : SlIn w v encSB xs) : SlIn w v encY (xs.map fun x => x.1) := by
  rcases h with ⟨hv, hx⟩ | ⟨a, c, hv, h1, h2, h3⟩
  · exact .inl ⟨hv, by rw [hx]; rfl⟩
  · refine .inr ⟨a, c, by rw [List.length_map]; exact hv, by rw [List.length_map]; exact h1, h2, fun i x hx j u hu => ?_⟩
    rw [List.getElem?_map] at hx
    cases hi : xs[i]? with
    | none => rw [hi] at hx; cases hx
    | some y =>
      rw [hi] at hx
      cases hx
      exact h3 i y hi j u hu
def okBs (w : World) (x : SVy × List SB) : Prop := SlIn w (svY x.1) encY (x.2.map fun x => x.1) ∧ ∀ y ∈ x.2, SlIn w (svY y.1) encB y.2
theorem dec_bss {P : Program} {T el el2 : TypeId} (h : P.underlying T = some (.slice el)) (hk : P.cellsOf el = 1) (h2 : P.underlying el = some (.slice el2)) (hk2 : P.cellsOf el2 = 1) (he : P.underlying el2 = some (.int .u8)) :
    Dec P T (fun x : SVy × List SB => [.slice x.1.1 x.1.2.1 x.1.2.2]) okBs :=
  Dec.map2 (dec_slice encSB h hk (dec_bslY h2 hk2 he)) _ _ (fun a : Value × List SB => (toSVy a.1, a.2)) fun w a ha => by
    have h1 := slIn_sb ha.1
    obtain ⟨p, c, hv, _, _⟩ := sliceIn_of h1
    rw [hv] at h1
    refine ⟨?_, ?_, ha.2⟩
    · show [a.1] = _
      rw [hv]; rfl
    · show SlIn w (svY (toSVy a.1)) encY (a.2.map fun x => x.1)
      rw [hv]; exact h1
def okA15 (w : World) (a : A15) : Prop := wfI .i64 a.2.1 ∧ okPk w a.2.2.1 ∧ okBs w a.2.2.2
end Go.Proofs

set_option linter.all false
set_option synthInstance.maxSize 100000
set_option synthInstance.maxHeartbeats 400000
namespace Go.Proofs
open Go Go.SL

theorem isNaN_i_spec {L K} {k : Int} (h : Ht L (K (.bool false))) : Ht L (CCall Tryz.prog 140 [.int .i64 k] K) := by
  refine ccall1 Tryz.func140 rfl (by decide) Tryz.ntmps140 (by rfl) (by decide) ?_
  repeat (refine stp ?_)
  refine ret1 rfl ?_
  first | exact h | simpa using h
theorem Compare_i_spec {L K} {x y : Int} (h : Ht L (K (.int .i64 (cmpV x y)))) : Ht L (CCall Tryz.prog 118 [.int .i64 x, .int .i64 y] K) := by
  refine ccall2 Tryz.func118 rfl (by decide) Tryz.ntmps118 (by rfl) (by decide) ?_
  repeat (refine stp ?_)
  refine isNaN_i_spec ?_
  repeat (refine stp ?_)
  refine isNaN_i_spec ?_
  repeat (refine stp ?_)
  refine ht_if ?_ ?_ <;> intro h1
  · repeat (refine stp ?_)
    refine ret1 rfl ?_
    rw [cmpV, if_pos (show KLt.lt x y = true from h1)] at h
    exact h
  · repeat (refine stp ?_)
    rw [cmpV, if_neg (by rw [show KLt.lt x y = false from h1]; simp)] at h
    refine ht_if ?_ ?_ <;> intro h2
    · repeat (refine stp ?_)
      refine ret1 rfl ?_
      rw [if_pos (show KLt.lt y x = true from h2)] at h
      exact h
    · repeat (refine stp ?_)
      refine ret1 rfl ?_
      rw [if_neg (by rw [show KLt.lt y x = false from h2]; simp)] at h
      exact h
end Go.Proofs

set_option linter.all false
set_option synthInstance.maxSize 100000
set_option synthInstance.maxHeartbeats 400000
namespace Go.Proofs
open Go Go.SL

attribute [local irreducible] CCall CO CC CX CD
@[reducible] def enc_iy : Enc (Int × SVy) := ⟨2, fun r => [.int .i64 r.1, .slice (r.2).1 (r.2).2.1 (r.2).2.2], fun _ => rfl, fun _ v h => by simp at h; rcases h with rfl | rfl <;> rfl⟩
instance : Inhabited (Int × SVy) := ⟨(0, ((none, 0, 0) : SVy))⟩
theorem iy_placeF {L K} {r : (Int × SVy)} {k : Int} (h : Ht L (K (.int .i64 (cmpV r.1 k)))) : Ht L (CCall Tryz.prog 117 [.agg #[.int .i64 r.1, .slice (r.2).1 (r.2).2.1 (r.2).2.2], .int .i64 k] K) := by
  refine ccall2 Tryz.func117 rfl (by decide) Tryz.ntmps117 (by rfl) (by decide) ?_
  repeat (refine stp ?_)
  intro b
  repeat (refine stp ?_)
  refine Compare_i_spec ?_
  repeat (refine stp ?_)
  exact ret1 rfl (Ht.frm h)

theorem iy_bs {L K v} {xs : List (Int × SVy)} {k : Int} [rd : RdS L v enc_iy xs] (hs : Srt xs) (hn : xs.length ≤ 1000000) (h : Ht L (K (.tuple #[.int .i64 (tpos k xs : Nat), .bool (thas k xs)]))) :
    Ht L (CCall Tryz.prog 116 [v, .int .i64 k, .func (.func 117) #[] #[]] K) := by
  refine ccall3 Tryz.func116 rfl (by decide) Tryz.ntmps116 (by rfl) (by decide) ?_
  repeat (refine stp ?_)
  refine ht_iter (α := {p : Nat × Nat // p.1 ≤ p.2 ∧ p.2 ≤ xs.length ∧ (∀ j r, j < p.1 → xs[j]? = some r → KLt.lt r.1 k = true) ∧ (∀ j r, p.2 ≤ j → xs[j]? = some r → KLt.lt r.1 k = false)})
    (fun p => p.1.2 - p.1.1) (fun _ => L) (fun p => [(9, .int .i64 p.1.1), (10, .int .i64 p.1.2)]) ⟨(0, xs.length), by omega, by omega, by intro j r h; simp at h, by intro j r h hj; have := (List.getElem?_eq_some_iff.1 hj).1; omega⟩ [9, 10] (fun _ s => s) inferInstance ?_
  intro ⟨(i, j), hij, hj, hlo, hhi⟩
  dsimp only [List.cons_append, List.nil_append] at hij hj hlo hhi ⊢
  repeat (refine stp ?_)
  refine ht_if ?_ ?_ <;> intro hc <;> simp only [decide_eq_true_eq, decide_eq_false_iff_not] at hc
  · repeat (refine stp ?_)
    rewrite [midw i j (by omega)]
    refine co_index (by omega) ?_
    intro hb
    have hg := getB hb.h
    repeat (refine stp ?_)
    refine iy_placeF ?_
    repeat (refine stp ?_)
    refine ht_if ?_ ?_ <;> intro h1 <;> simp only [decide_eq_true_eq, decide_eq_false_iff_not] at h1
    · repeat (refine stp ?_)
      refine ht_again ⟨((i + j) / 2 + 1, j), ?_⟩ ?_ (fun _ s => s) (SubE.cons (by rw [IntWalk.i64_in _ (by omega)]; rfl) (SubE.cons rfl inferInstance)) rfl rfl
      · exact ⟨by omega, hj, srt_low hs hg (cmpV_neg.1 h1), hhi⟩
      · show j - ((i + j) / 2 + 1) < j - i; omega
    · repeat (refine stp ?_)
      refine ht_again ⟨(i, (i + j) / 2), ?_⟩ ?_ (fun _ s => s) (SubE.cons rfl (SubE.cons rfl inferInstance)) rfl rfl
      · exact ⟨by omega, by omega, hlo, srt_high hs hg (cmpV_nneg h1)⟩
      · show (i + j) / 2 - i < j - i; omega
  · have e : i = j := by omega
    subst e
    have hp := tpos_eq hj hlo hhi
    repeat (refine stp ?_)
    refine ht_guard ?_ ?_ <;> intro h1 <;> simp only [decide_eq_true_eq, decide_eq_false_iff_not] at h1
    · repeat (refine stp ?_)
      refine co_index (by omega) ?_
      intro hb
      have hg := getB hb.h
      repeat (refine stp ?_)
      refine iy_placeF ?_
      repeat (refine stp ?_)
      refine ret2 rfl ?_
      have e2 : decide (cmpV (xs[i]!).1 k = 0) = thas k xs := by
        rw [thas, tfind_at (by rw [hp]; exact hg)]
        by_cases hk : (xs[i]!).1 = k
        · rw [if_pos hk, hk, cmpV_self]; rfl
        · rw [if_neg hk, decide_eq_false (fun h0 => hk (cmpV_zero h0))]; rfl
      rewrite [e2]
      rw [hp] at h
      exact h
    · repeat (refine stp ?_)
      refine ret2 rfl ?_
      have e2 : thas k xs = false := by rw [thas, tfind_end (by omega)]; rfl
      rw [hp, e2] at h
      exact h

/-! a table: its rows' slice lies in cell o of block b -/
theorem iy_place {L L1 R K b o l S v} {xs : List (Int × SVy)} {k : Int} [p : Pull (pto b) L (cells l S) L1] [n : Nth l o v] [q : Pull (own enc_iy 110 v) L1 xs R] (hs : Srt xs) (hn : xs.length ≤ 1000000)
    (h : Ht (own enc_iy 110 v xs :: pto b (cells l S) :: R) (K (.tuple #[.int .i64 (tpos k xs : Nat), .bool (thas k xs)]))) :
    Ht L (CCall Tryz.prog 94 [.pointer (some ⟨b, o, none⟩), .int .i64 k] K) := by
  refine Ht.pull p (Ht.two q ?_)
  refine ccall2 Tryz.func94 rfl (by decide) Tryz.ntmps94 (by rfl) (by decide) ?_
  repeat (refine stp ?_)
  refine iy_bs hs hn ?_
  repeat (refine stp ?_)
  exact ret2 rfl h

theorem iy_get {L L1 R K b o l S v} {xs : List (Int × SVy)} {k : Int} [p : Pull (pto b) L (cells l S) L1] [n : Nth l o v] [q : Pull (own enc_iy 110 v) L1 xs R] (hs : Srt xs) (hn : xs.length ≤ 1000000)
    (h : Ht (own enc_iy 110 v xs :: pto b (cells l S) :: R) (K (.tuple #[.slice (((tfind k xs).getD ((none, 0, 0) : SVy))).1 (((tfind k xs).getD ((none, 0, 0) : SVy))).2.1 (((tfind k xs).getD ((none, 0, 0) : SVy))).2.2, .bool (thas k xs)]))) :
    Ht L (CCall Tryz.prog 72 [.pointer (some ⟨b, o, none⟩), .int .i64 k] K) := by
  refine Ht.pull p (Ht.two q ?_)
  refine ccall2 Tryz.func72 rfl (by decide) Tryz.ntmps72 (by rfl) (by decide) ?_
  repeat (refine stp ?_)
  refine iy_place hs hn ?_
  repeat (refine stp ?_)
  refine ht_if ?_ ?_ <;> intro h0 <;> simp only [Bool.not_eq_true', Bool.not_eq_false'] at h0
  · repeat (refine stp ?_)
    refine ret2 rfl ?_
    have e : tfind k xs = none := by rw [thas] at h0; simpa using h0
    rw [h0, e] at h
    exact h
  · repeat (refine stp ?_)
    obtain ⟨u, hu⟩ := Option.isSome_iff_exists.1 h0
    have hk := tfind_some hu
    have hlt := (List.getElem?_eq_some_iff.1 hk).1
    refine co_index (by omega) ?_
    intro hb
    have e2 : xs[tpos k xs]! = (k, u) := by have := getB hb.h; rw [hk] at this; exact (Option.some.inj this).symm
    repeat (refine stp ?_)
    refine ret2 rfl ?_
    rw [h0, hu] at h
    rewrite [e2]
    exact h
theorem iy_get_nil {L K} {k : Int} (h : Ht L (K (.tuple #[.slice (((none, 0, 0) : SVy)).1 (((none, 0, 0) : SVy)).2.1 (((none, 0, 0) : SVy)).2.2, .bool false]))) : Ht L (CCall Tryz.prog 72 [.pointer none, .int .i64 k] K) := by
  refine ccall2 Tryz.func72 rfl (by decide) Tryz.ntmps72 (by rfl) (by decide) ?_
  repeat (refine stp ?_)
  exact ret2 rfl h

theorem iy_insert {L L1 R K sv vb l T' i} {xs : List (Int × SVy)} {x : (Int × SVy)} [p : Pull (own enc_iy 110 sv) L xs L1] [q : Pull (pto vb) L1 (cells l T') R] (hl : l = enc_iy.f x) (hi : i ≤ xs.length) (hn : xs.length ≤ 1000000)
    (h : ∀ v', Ht (own enc_iy 110 v' (xs.take i ++ x :: xs.drop i) :: R) (K v')) :
    Ht L (CCall Tryz.prog 95 [sv, .int .i64 (i : Nat), .slice (some ⟨vb, 0, none⟩) 1 1] K) := by
  refine Ht.pull p (Ht.two q ?_)
  subst hl
  refine ccall3 Tryz.func95 rfl (by decide) Tryz.ntmps95 (by rfl) (by decide) ?_
  repeat (refine stp ?_)
  refine co_slice (by omega) ?_
  intro hsl
  repeat (refine stp ?_)
  refine ht_if ?_ ?_ <;> intro h1 <;> simp only [decide_eq_true_eq, decide_eq_false_iff_not] at h1
  · have e1 : i = xs.length := by omega
    subst e1
    refine Ht.own_lit enc_iy (b := vb) (n := 1) (xs := [x]) rfl rfl (by decide) ?_
    repeat (refine stp ?_)
    refine co_append (e := enc_iy) (by rfl) ?_ ?_ ?_
    · simp; omega
    · simp; omega
    intro v'
    repeat (refine stp ?_)
    refine ret1 rfl ?_
    rw [show xs ++ [x] = xs.take xs.length ++ x :: xs.drop xs.length from by simp]
    exact Ht.frm (h v')
  · have hlt : i < xs.length := by omega
    refine Ht.own_cap (e := enc_iy) (T := 110) (v := sv) (by intro h; subst h; simp at hlt) ?_
    intro b o cap hv hc1 hc2
    subst hv
    repeat (refine stp ?_)
    have hw1 : IntKind.i64.wrap ((xs.length : Int) + ((1 : Nat) : Int)) = ((xs.length + 1 : Nat) : Int) := by rw [IntWalk.i64_in _ (by omega)]; omega
    refine ht_if ?_ ?_ <;> intro h2 <;> simp only [decide_eq_true_eq, decide_eq_false_iff_not] at h2
    · -- a new row
      repeat (refine stp ?_)
      refine co_slice_raw (.slice (some ⟨b, o, none⟩) i cap) (by omega) slSub_lit0 ?_
      repeat (refine stp ?_)
      have hw2 : IntKind.i64.wrap (IntKind.i64.wrap ((xs.length : Int) + ((1 : Nat) : Int)) - (i : Int)) = ((xs.length + 1 - i : Nat) : Int) := by rw [hw1, IntWalk.i64_in _ (by omega)]; omega
      rw [hw1] at h2
      refine co_append_zeros_far (e := enc_iy) (xs := xs.take i) (0, ((none, 0, 0) : SVy)) rfl hw2 ?_ (by omega) (by decide) ?_ (by rfl) ?_ ?_ ?_
      · intro w s
        have := slSub_in (own_sat s) (lo := 0) (hi := i) (by omega)
        rw [slSub_lit0] at this
        simpa [Nat.min_eq_left (show i ≤ xs.length by omega)] using this
      · simp; omega
      · simp; omega
      · simp; omega
      intro v'
      have hL2 : (xs.take i ++ List.replicate (xs.length + 1 - i) ((0, ((none, 0, 0) : SVy)) : (Int × SVy))).length = xs.length + 1 := by simp; omega
      repeat (refine stp ?_)
      refine co_slice (by rw [hL2]; omega) ?_
      intro hsl2
      repeat (refine stp ?_)
      refine co_copy_own enc_iy [x] rfl (by rw [hL2]; omega) ?_ (by rw [hL2]; simp; omega) ?_
      · intro w s
        exact ⟨1, [], raw_in (pre := []) (post := []) (fz := (0,0)) (T := T') (by have := (Pull.sat (R := pto vb) inferInstance s).get; simpa using this) (by simp) (by simp)⟩
      have e3 : (xs.take i ++ List.replicate (xs.length + 1 - i) ((0, ((none, 0, 0) : SVy)) : (Int × SVy))).take i ++ [x] ++ (xs.take i ++ List.replicate (xs.length + 1 - i) ((0, ((none, 0, 0) : SVy)) : (Int × SVy))).drop (i + [x].length) = xs.take i ++ [x] ++ List.replicate (xs.length - i) (0, ((none, 0, 0) : SVy)) := by
        rw [List.take_left' (by simp; omega), List.drop_append, List.drop_eq_nil_of_le (by simp; omega)]
        simp; omega
      rewrite [e3]
      repeat (refine stp ?_)
      refine ht_draw Tryz.can95x11 Tryz.mixed (by kernel_rfl) ?_
      repeat (refine stp ?_)
      have hw3 : IntKind.i64.wrap ((i : Int) + ((1 : Nat) : Int)) = ((i + 1 : Nat) : Int) := by rw [IntWalk.i64_in _ (by omega)]; omega
      have hL3 : (xs.take i ++ [x] ++ List.replicate (xs.length - i) ((0, ((none, 0, 0) : SVy)) : (Int × SVy))).length = xs.length + 1 := by simp; omega
      rewrite [hw3]
      refine cd_slice (by rw [hL3]; omega) ?_
      intro hsl3 hsb3
      repeat (refine stp ?_)
      refine cd_slice (by omega) ?_
      intro hsl4 hsb4
      repeat (refine stp ?_)
      refine co_copy_own enc_iy (xs.drop i) (slSub_lit (by omega)) (by rw [hL3]; omega) ?_ (by rw [hL3]; simp <;> omega) ?_
      · intro w s
        have := slSub_in (own_sat (Pull.sat (R := own enc_iy 110 (.slice (some ⟨b, o, none⟩) xs.length cap)) inferInstance s)) (lo := i) (hi := xs.length) (by omega)
        rw [slSub_lit (by omega), List.take_length] at this
        refine ⟨cap - i, [], ?_⟩
        simpa using this
      have e4 : (xs.take i ++ [x] ++ List.replicate (xs.length - i) ((0, ((none, 0, 0) : SVy)) : (Int × SVy))).take (i + 1) ++ xs.drop i ++ (xs.take i ++ [x] ++ List.replicate (xs.length - i) ((0, ((none, 0, 0) : SVy)) : (Int × SVy))).drop (i + 1 + (xs.drop i).length) = xs.take i ++ x :: xs.drop i := by
        have e5 : (xs.take i ++ [x] ++ List.replicate (xs.length - i) ((0, ((none, 0, 0) : SVy)) : (Int × SVy))).drop (i + 1 + (xs.drop i).length) = [] := List.drop_of_length_le (by simp; omega)
        rw [List.take_left' (by simp; omega), e5]
        simp
      rewrite [e4]
      repeat (refine stp ?_)
      exact ret1 rfl (Ht.frm (h v'))
    · -- in its place
      rw [hw1] at h2
      refine Ht.own_open (e := enc_iy) (T := 110) (v := .slice (some ⟨b, o, none⟩) xs.length cap) (by intro h; cases h) ?_
      intro b2 pre post cap2 fz hv _ _ hc3 hfz
      injection hv with hv1 _ hv2
      injection hv1 with hv1
      injection hv1 with hv3 hv4 _
      subst hv2; subst hv3; subst hv4
      have hk2 : (enc_iy).k = 2 := rfl
      rw [hk2] at hc3 hfz
      have hpl : 2 ≤ post.length := by omega
      have hfl := flat_len enc_iy xs
      rw [hk2] at hfl
      repeat (refine stp ?_)
      rewrite [hw1]
      refine co_slice_raw (.slice (some ⟨b, pre.length, none⟩) (xs.length + 1) cap) (by omega) slSub_lit0 ?_
      repeat (refine stp ?_)
      have hw3 : IntKind.i64.wrap ((i : Int) + ((1 : Nat) : Int)) = ((i + 1 : Nat) : Int) := by rw [IntWalk.i64_in _ (by omega)]; omega
      rewrite [hw3]
      refine co_slice_raw (.slice (some ⟨b, pre.length + (i + 1) * 2, none⟩) (xs.length + 1 - (i + 1)) (cap - (i + 1))) (by omega) (slSub_lit (by omega)) ?_
      refine co_overlaps (tS := 101) (tR := 4) Tryz.func119 (by kernel_rfl) (by kernel_rfl) (by kernel_rfl) (by kernel_rfl) Tryz.underlying101 rfl rfl (by intro h; have := congrArg List.length h; simp only [List.length_append, hfl, List.length_nil] at this; omega) ?_
      repeat (refine stp ?_)
      refine ht_draw Tryz.can95x15 Tryz.mixed (by kernel_rfl) ?_
      repeat (refine stp ?_)
      rewrite [hw3]
      refine cd_slice_raw (by omega) ?_
      intro hsb1
      repeat (refine stp ?_)
      refine cd_slice_raw (by omega) ?_
      intro hsb2
      repeat (refine stp ?_)
      have hA : xs.flatMap enc_iy.f = (xs.take i).flatMap enc_iy.f ++ (xs.drop i).flatMap enc_iy.f := by rw [← List.flatMap_append, List.take_append_drop]
      have hlA : ((xs.take i).flatMap enc_iy.f).length = i * 2 := by rw [flat_len]; simp; omega
      have hlB : ((xs.drop i).flatMap enc_iy.f).length = (xs.length - i) * 2 := by rw [flat_len]; simp
      refine co_copy_raw enc_iy (xs.drop i) (slSub_lit (by omega)) (slSub_lit (by omega)) ?_ (by simp; omega) (by simp only [List.length_append, hfl, List.length_drop]; omega) (by simpa [hfl, Nat.add_assoc] using hfz) ?_
      · intro w s
        refine ⟨cap - i, [], ?_⟩
        have := raw_in (e := enc_iy) (w := w) (b := b) (T := 110) (fz := fz) (pre := pre ++ (xs.take i).flatMap enc_iy.f) (post := post) (xs := xs.drop i) (cap := cap - i) (by
          have := (Pull.sat (R := pto b) inferInstance s).get
          rw [this, hA]; simp) (by simp; omega) (by omega)
        rw [List.length_append, hlA] at this
        simpa using this
      repeat (refine stp ?_)
      have hL4 : ((pre ++ xs.flatMap enc_iy.f ++ post).take (pre.length + (i + 1) * 2) ++ (xs.drop i).flatMap enc_iy.f ++ (pre ++ xs.flatMap enc_iy.f ++ post).drop (pre.length + (i + 1) * 2 + (xs.drop i).length * 2)).length = pre.length + xs.length * 2 + post.length := by simp only [List.length_append, List.length_take, List.length_drop, hlB, hfl]; omega
      refine co_copy_raw enc_iy [x] (slSub_lit (by omega)) rfl ?_ (by simp; omega) (by rw [hL4]; simp; omega) (by rw [hL4]; exact hfz) ?_
      · intro w s
        exact ⟨1, [], raw_in (pre := []) (post := []) (fz := (0,0)) (T := T') (by have := (Pull.sat (R := pto vb) inferInstance s).get; simpa using this) (by simp) (by simp)⟩
      repeat (refine stp ?_)
      refine ret1 rfl ?_
      refine Ht.own_close enc_iy (xs.take i ++ x :: xs.drop i) pre (post.drop 2) (b := b) (n := xs.length + 1) (cap := cap) ?_ (by simp; omega) (by omega) hc2 (by rw [hk2]; simp; omega) ?_ ?_
      · exact ins_cells enc_iy rfl pre post xs x hi hpl
      · rw [ins_cells enc_iy rfl pre post xs x hi hpl, List.length_append, List.length_append, flat_len, hk2, show pre.length + (xs.take i ++ x :: xs.drop i).length * 2 + (post.drop 2).length = pre.length + xs.length * 2 + post.length from by simp; omega]; exact hfz
      · exact Ht.frm (h _)

theorem iy_put {L L1 R K b o l S v} {xs : List (Int × SVy)} {k : Int} {u : SVy} [p : Pull (pto b) L (cells l S) L1] [n : Nth l o v] [q : Pull (own enc_iy 110 v) L1 xs R] (hu : ∀ v', ∃ l', Ups l o [v'] l') (hs : Srt xs) (hn : xs.length ≤ 900000)
    (h : ∀ v' l', Ups l o [v'] l' → Ht (own enc_iy 110 v' (tput k u xs) :: pto b (cells l' S) :: R) (K (.bool (!(thas k xs))))) :
    Ht L (CCall Tryz.prog 66 [.pointer (some ⟨b, o, none⟩), .int .i64 k, .slice (u).1 (u).2.1 (u).2.2] K) := by
  refine Ht.pull p (Ht.two q ?_)
  refine ccall3 Tryz.func66 rfl (by decide) Tryz.ntmps66 (by rfl) (by decide) ?_
  repeat (refine stp ?_)
  refine iy_place hs (by omega) ?_
  repeat (refine stp ?_)
  refine ht_if ?_ ?_ <;> intro h0
  · repeat (refine stp ?_)
    obtain ⟨u0, hu0⟩ := Option.isSome_iff_exists.1 h0
    have hk := tfind_some hu0
    have hlt := (List.getElem?_eq_some_iff.1 hk).1
    refine co_index (by omega) ?_
    intro hb
    have e2 : xs[tpos k xs]! = (k, u0) := by have := getB hb.h; rw [hk] at this; exact (Option.some.inj this).symm
    repeat (refine stp ?_)
    refine co_setEl (e := enc_iy) (el := 110) (k, u) (by rw [e2]; rfl) (by simp) ?_
    repeat (refine stp ?_)
    refine ret1 rfl ?_
    have e3 : xs.set (tpos k xs) (k, u) = tput k u xs := by
      rw [tput, if_pos h0, List.set_eq_take_append_cons_drop, if_pos hlt]
    rw [e3]
    have := h v l (ups_self n.h)
    rw [h0] at this
    exact this
  · repeat (refine stp ?_)
    intro vb
    repeat (refine stp ?_)
    refine iy_insert (x := (k, u)) rfl (tpos_le k xs) (by omega) ?_
    intro v'
    obtain ⟨l', hl'⟩ := hu v'
    haveI := hl'
    refine Ht.one1 (v := v') ?_
    intro _
    repeat (refine stp ?_)
    refine ret1 rfl ?_
    have e3 : xs.take (tpos k xs) ++ (k, u) :: xs.drop (tpos k xs) = tput k u xs := by
      rw [tput, if_neg (by rw [h0]; simp)]
    rw [e3]
    have := h v' l' hl'
    rw [h0] at this
    exact Ht.frm this

theorem iy_delete {L R K sv i} {xs : List (Int × SVy)} [p : Pull (own enc_iy 110 sv) L xs R] (hi : i < xs.length) (hn : xs.length ≤ 1000000)
    (h : ∀ v', Ht (own enc_iy 110 v' (xs.take i ++ xs.drop (i + 1)) :: R) (K v')) :
    Ht L (CCall Tryz.prog 101 [sv, .int .i64 (i : Nat), .int .i64 ((i + 1 : Nat) : Int)] K) := by
  refine Ht.pull p ?_
  refine ccall3 Tryz.func101 rfl (by decide) Tryz.ntmps101 (by rfl) (by decide) ?_
  refine Ht.own_open (e := enc_iy) (T := 110) (v := sv) (by intro _ h; subst h; simp at hi) ?_
  intro b pre post cap fz hv hc1 hc2 hc3 hfz
  subst hv
  have hk2 : (enc_iy).k = 2 := rfl
  rw [hk2] at hc3 hfz
  have hfl := flat_len enc_iy xs
  rw [hk2] at hfl
  repeat (refine stp ?_)
  refine co_slice3_raw (by omega) ?_
  intro v1
  repeat (refine stp ?_)
  refine ht_if_f (by simp; omega) ?_
  repeat (refine stp ?_)
  refine ht_draw Tryz.can101x5 Tryz.mixed (by kernel_rfl) ?_
  repeat (refine stp ?_)
  refine cd_slice_raw (by omega) ?_
  intro hsb1
  repeat (refine stp ?_)
  refine cd_slice_raw (by omega) ?_
  intro hsb2
  repeat (refine stp ?_)
  refine co_append_raw enc_iy (xs.drop (i + 1)) slSub_lit0 ?_ (by simp; omega) (by simp only [List.length_append, hfl, List.length_drop]; omega) (by simpa [hfl, Nat.add_assoc] using hfz) ?_
  · intro w s
    have := slSub_in (raw_in (e := enc_iy) (s.get) hc1 hc2) (lo := i + 1) (hi := xs.length) (by omega)
    rw [List.take_length] at this
    exact this
  repeat (refine stp ?_)
  have hd : i + (xs.drop (i + 1)).length = xs.length - 1 := by simp; omega
  rewrite [hd]
  refine co_slice_raw (.slice (some ⟨b, pre.length + (xs.length - 1) * 2, none⟩) 1 (cap - (xs.length - 1))) (by omega) (by rw [slSub_lit (by omega), show xs.length - (xs.length - 1) = 1 from by omega]) ?_
  have hL4 : ((pre ++ xs.flatMap enc_iy.f ++ post).take (pre.length + i * 2) ++ (xs.drop (i + 1)).flatMap enc_iy.f ++ (pre ++ xs.flatMap enc_iy.f ++ post).drop (pre.length + i * 2 + (xs.drop (i + 1)).length * 2)).length = pre.length + xs.length * 2 + post.length := by
    have hlB : ((xs.drop (i + 1)).flatMap enc_iy.f).length = (xs.length - (i + 1)) * 2 := by rw [flat_len]; simp
    simp only [List.length_append, List.length_take, List.length_drop, hfl, hlB]; omega
  refine co_clear_raw0 (enc_iy.f (0, ((none, 0, 0) : SVy))) rfl (by rfl) (enc_iy.h1 _) (by show pre.length + (xs.length - 1) * 2 + 1 * 2 ≤ _; rw [hL4]; omega) (by rw [hL4]; exact hfz) (by decide) ?_
  repeat (refine stp ?_)
  refine ret1 rfl ?_
  have e9 := del_cells enc_iy (k := 2) rfl pre post xs (enc_iy.f (0, ((none, 0, 0) : SVy))) hi rfl
  refine Ht.own_close enc_iy (xs.take i ++ xs.drop (i + 1)) pre (enc_iy.f (0, ((none, 0, 0) : SVy)) ++ post) (b := b) (n := xs.length - 1) (cap := cap) ?_ (by simp; omega) (by omega) hc2 (by rw [hk2]; simp; omega) ?_ ?_
  · rw [← e9]; simp
  · have := congrArg List.length e9
    simp only [List.replicate_one, List.flatten_cons, List.flatten_nil, List.append_nil, Nat.one_mul]
    rw [show (enc_iy.f (0, ((none, 0, 0) : SVy))).length = 2 from rfl, this]
    rw [List.length_append, List.length_append, flat_len, hk2, show pre.length + (xs.take i ++ xs.drop (i + 1)).length * 2 + (enc_iy.f (0, ((none, 0, 0) : SVy)) ++ post).length = pre.length + xs.length * 2 + post.length from by simp; omega]; exact hfz
  · exact Ht.frm (h _)

theorem iy_drop {L L1 R K b o l S v} {xs : List (Int × SVy)} {k : Int} [p : Pull (pto b) L (cells l S) L1] [n : Nth l o v] [q : Pull (own enc_iy 110 v) L1 xs R] (hu : ∀ v', ∃ l', Ups l o [v'] l') (hs : Srt xs) (hn : xs.length ≤ 900000)
    (h : ∀ v' l', Ups l o [v'] l' → Ht (own enc_iy 110 v' (tdrop k xs) :: pto b (cells l' S) :: R) (K (.bool (thas k xs)))) :
    Ht L (CCall Tryz.prog 71 [.pointer (some ⟨b, o, none⟩), .int .i64 k] K) := by
  refine Ht.pull p (Ht.two q ?_)
  refine ccall2 Tryz.func71 rfl (by decide) Tryz.ntmps71 (by rfl) (by decide) ?_
  repeat (refine stp ?_)
  refine iy_place hs (by omega) ?_
  repeat (refine stp ?_)
  refine ht_if ?_ ?_ <;> intro h0
  · repeat (refine stp ?_)
    obtain ⟨u0, hu0⟩ := Option.isSome_iff_exists.1 h0
    have hk := tfind_some hu0
    have hlt := (List.getElem?_eq_some_iff.1 hk).1
    rewrite [show IntKind.i64.wrap ((tpos k xs : Nat) + 1 : Int) = ((tpos k xs + 1 : Nat) : Int) from by rw [IntWalk.i64_in _ (by omega)]; omega]
    refine iy_delete hlt (by omega) ?_
    intro v'
    obtain ⟨l', hl'⟩ := hu v'
    haveI := hl'
    refine Ht.one1 (v := v') ?_
    intro _
    repeat (refine stp ?_)
    refine ret1 rfl ?_
    have := h v' l' hl'
    rw [tdrop, if_pos h0, h0] at this
    rewrite [h0]
    exact Ht.frm this
  · repeat (refine stp ?_)
    refine ret1 rfl ?_
    have := h v l (ups_self n.h)
    rw [tdrop, if_neg (by rw [h0]; simp)] at this
    exact this

theorem iy_all {L L1 K b o l S v} [p : Pull (pto b) L (cells l S) L1] [n : Nth l o v] (h : Ht (pto b (cells l S) :: L1) (K v)) : Ht L (CCall Tryz.prog 87 [.pointer (some ⟨b, o, none⟩)] K) := by
  refine Ht.pull p ?_
  refine ccall1 Tryz.func87 rfl (by decide) Tryz.ntmps87 (by rfl) (by decide) ?_
  repeat (refine stp ?_)
  exact ret1 rfl h
theorem iy_all_nil {L K} (h : Ht L (K (.slice none 0 0))) : Ht L (CCall Tryz.prog 87 [.pointer none] K) := by
  refine ccall1 Tryz.func87 rfl (by decide) Tryz.ntmps87 (by rfl) (by decide) ?_
  repeat (refine stp ?_)
  exact ret1 rfl h
theorem iy_clone {L K v} {xs : List (Int × SVy)} [rs : RdE L enc_iy v xs] (hn : xs.length ≤ 1000000) (h : ∀ v', Ht (own enc_iy 110 v' xs :: L) (K v')) : Ht L (CCall Tryz.prog 100 [v] K) := by
  haveI := rs.toS
  refine ccall1 Tryz.func100 rfl (by decide) Tryz.ntmps100 (by rfl) (by decide) ?_
  repeat (refine stp ?_)
  refine ht_if ?_ ?_ <;> intro h0
  · repeat (refine stp ?_)
    refine ret1 rfl ?_
    refine Ht.know (p := xs = []) (fun w s => ?_) (fun hx => ?_)
    · rcases rs.h w s with ⟨rfl, hx⟩ | ⟨a, c, rfl, _⟩
      · exact hx
      · cases h0
    · subst hx
      exact Ht.conseq (h _) (fun w s => own_nil.2 s)
  · repeat (refine stp ?_)
    intro v0
    repeat (refine stp ?_)
    refine Ht.own_lit enc_iy (b := v0) (xs := []) rfl rfl (by decide) ?_
    refine co_append (e := enc_iy) (by rfl) ?_ ?_ ?_
    · simp; omega
    · simp; omega
    intro v'
    repeat (refine stp ?_)
    exact ret1 rfl (h v')
theorem iy_clone_nil {L K} (h : Ht L (K (.slice none 0 0))) : Ht L (CCall Tryz.prog 100 [.slice none 0 0] K) := by
  refine ccall1 Tryz.func100 rfl (by decide) Tryz.ntmps100 (by rfl) (by decide) ?_
  repeat (refine stp ?_)
  refine ht_if_t rfl ?_
  repeat (refine stp ?_)
  exact ret1 rfl h
theorem iy_rows {L L1 R K b o l S v} {xs : List (Int × SVy)} [p : Pull (pto b) L (cells l S) L1] [n : Nth l o v] [q : Pull (own enc_iy 110 v) L1 xs R] (hn : xs.length ≤ 1000000)
    (h : ∀ v', Ht (own enc_iy 110 v' xs :: own enc_iy 110 v xs :: pto b (cells l S) :: R) (K v')) :
    Ht L (CCall Tryz.prog 70 [.pointer (some ⟨b, o, none⟩)] K) := by
  refine Ht.pull p (Ht.two q ?_)
  refine ccall1 Tryz.func70 rfl (by decide) Tryz.ntmps70 (by rfl) (by decide) ?_
  repeat (refine stp ?_)
  refine iy_all ?_
  repeat (refine stp ?_)
  refine iy_clone hn ?_
  intro v'
  repeat (refine stp ?_)
  exact ret1 rfl (Ht.frm (h v'))
theorem iy_rows_nil {L K} (h : Ht L (K (.slice none 0 0))) : Ht L (CCall Tryz.prog 70 [.pointer none] K) := by
  refine ccall1 Tryz.func70 rfl (by decide) Tryz.ntmps70 (by rfl) (by decide) ?_
  repeat (refine stp ?_)
  refine iy_all_nil ?_
  repeat (refine stp ?_)
  refine iy_clone_nil ?_
  repeat (refine stp ?_)
  exact ret1 rfl h
theorem iy_len {L L1 R K b o l S v} {xs : List (Int × SVy)} [p : Pull (pto b) L (cells l S) L1] [n : Nth l o v] [q : Pull (own enc_iy 110 v) L1 xs R]
    (h : Ht (own enc_iy 110 v xs :: pto b (cells l S) :: R) (K (.int .i64 xs.length))) :
    Ht L (CCall Tryz.prog 57 [.pointer (some ⟨b, o, none⟩)] K) := by
  refine Ht.pull p (Ht.two q ?_)
  refine ccall1 Tryz.func57 rfl (by decide) Tryz.ntmps57 (by rfl) (by decide) ?_
  repeat (refine stp ?_)
  refine iy_all ?_
  repeat (refine stp ?_)
  exact ret1 rfl (Ht.frm h)
theorem iy_len_nil {L K} (h : Ht L (K (.int .i64 0))) : Ht L (CCall Tryz.prog 57 [.pointer none] K) := by
  refine ccall1 Tryz.func57 rfl (by decide) Tryz.ntmps57 (by rfl) (by decide) ?_
  repeat (refine stp ?_)
  refine iy_all_nil ?_
  repeat (refine stp ?_)
  exact ret1 rfl h
theorem iy_at {L L1 R K b o l S v} {xs : List (Int × SVy)} {i : Int} [p : Pull (pto b) L (cells l S) L1] [n : Nth l o v] [q : Pull (own enc_iy 110 v) L1 xs R]
    (h : Ht (own enc_iy 110 v xs :: pto b (cells l S) :: R) (K (.tuple #[.agg ((enc_iy.f (if 0 ≤ i ∧ i < xs.length then xs[i.toNat]! else (0, ((none, 0, 0) : SVy)))).toArray), .bool (decide (0 ≤ i ∧ i < xs.length))]))) :
    Ht L (CCall Tryz.prog 55 [.pointer (some ⟨b, o, none⟩), .int .i64 i] K) := by
  refine Ht.pull p (Ht.two q ?_)
  refine ccall2 Tryz.func55 rfl (by decide) Tryz.ntmps55 (by rfl) (by decide) ?_
  repeat (refine stp ?_)
  intro br
  repeat (refine stp ?_)
  refine iy_all ?_
  repeat (refine stp ?_)
  refine ht_guard ?_ ?_ <;> intro h0 <;> simp only [decide_eq_true_eq, decide_eq_false_iff_not] at h0
  · repeat (refine stp ?_)
    refine ht_if ?_ ?_ <;> intro h1 <;> simp only [decide_eq_true_eq, decide_eq_false_iff_not] at h1
    · rw [if_pos ⟨h0, h1⟩, decide_eq_true (show 0 ≤ i ∧ i < xs.length from ⟨h0, h1⟩)] at h
      repeat (refine stp ?_)
      refine co_index ⟨h0, h1⟩ ?_
      intro hb
      repeat (refine stp ?_)
      refine retct rfl (Ht.frm h)
    · rw [if_neg (by omega), decide_eq_false (show ¬ (0 ≤ i ∧ i < xs.length) by omega)] at h
      repeat (refine stp ?_)
      exact retct rfl (Ht.frm h)
  · rw [if_neg (by omega), decide_eq_false (show ¬ (0 ≤ i ∧ i < xs.length) by omega)] at h
    repeat (refine stp ?_)
    exact retct rfl (Ht.frm h)
theorem iy_at_nil {L K} {i : Int} (h : Ht L (K (.tuple #[.agg ((enc_iy.f (0, ((none, 0, 0) : SVy))).toArray), .bool false]))) :
    Ht L (CCall Tryz.prog 55 [.pointer none, .int .i64 i] K) := by
  refine ccall2 Tryz.func55 rfl (by decide) Tryz.ntmps55 (by rfl) (by decide) ?_
  repeat (refine stp ?_)
  intro br
  repeat (refine stp ?_)
  refine iy_all_nil ?_
  repeat (refine stp ?_)
  refine ht_guard ?_ ?_ <;> intro h0 <;> simp only [decide_eq_true_eq, decide_eq_false_iff_not] at h0
  · repeat (refine stp ?_)
    refine ht_if_f (by simp; omega) ?_
    repeat (refine stp ?_)
    exact retct rfl (Ht.frm h)
  · repeat (refine stp ?_)
    exact retct rfl (Ht.frm h)

theorem iy_told {L K v} (hv : One1 v) (h : ∀ b, Ht (pto b (cells [v] 101) :: L) (K (.func (.func 124) #[] #[.pointer (some ⟨b, 0, none⟩)]))) : Ht L (CCall Tryz.prog 99 [v] K) := by
  refine ccall1 Tryz.func99 rfl (by decide) Tryz.ntmps99 (by rfl) (by decide) ?_
  repeat (refine stp ?_)
  intro b
  repeat (refine stp ?_)
  exact ret1 rfl (h b)
/-! the rows, one by one: told to whatever takes them -/
theorem iy_iter {b v l} {xs : List (Int × SVy)} {A : Nat → HP} {B : HP} {K : Value → World → Prop} (hn : xs.length ≤ 1000000) (hb : ∀ i, i ≤ xs.length → ∀ w, Sat [A i] w → (∃ T fz, w.heap[b]? = some (.cells #[v] T fz)) ∧ SlIn w v enc_iy xs)
    (hy : ∀ i, i < xs.length → Ht [A i] (CYield Tryz.prog l [.int .i64 xs[i]!.1, .slice (xs[i]!.2).1 (xs[i]!.2).2.1 (xs[i]!.2).2.2] (fun v w => (v = .bool true ∧ Sat [A (i + 1)] w) ∨ (v = .bool false ∧ Sat [B] w)))) (hd : ∀ v, Ht [A xs.length] (K v)) (hs : ∀ v, Ht [B] (K v)) :
    Ht [A 0] (CCall Tryz.prog 124 [.func (.yield l) #[] #[], .pointer (some ⟨b, 0, none⟩)] K) := by
  refine ccall2 Tryz.func124 rfl (by decide) Tryz.ntmps124 (by rfl) (by decide) ?_
  haveI : Blk [A 0] b [v] := ⟨fun w s => (hb 0 (by omega) w s).1⟩
  haveI : RdS [A 0] v enc_iy xs := ⟨fun w s => (hb 0 (by omega) w s).2⟩
  repeat (refine stp ?_)
  refine ht_for xs.length (fun _ (_ : Unit) => True) (fun i _ => [A i]) (fun i _ => [(7, .int .i64 i)]) () [7] trivial (fun _ s => s) inferInstance ?_
  intro i _ hi _
  dsimp only [List.cons_append, List.nil_append]
  haveI : RdS [A i] v enc_iy xs := ⟨fun w s => (hb i hi w s).2⟩
  repeat (refine stp ?_)
  refine ht_if ?_ ?_ <;> intro hc <;> simp only [decide_eq_true_eq, decide_eq_false_iff_not] at hc
  · repeat (refine stp ?_)
    refine co_index (by omega) ?_
    intro hbi
    repeat (refine stp ?_)
    intro br
    repeat (refine stp ?_)
    refine Ht.drop ?_
    refine Ht.ymono (hy i (by omega)) (fun r w hr => ?_)
    rcases hr with ⟨rfl, s⟩ | ⟨rfl, s⟩
    · revert s
      revert w
      show Ht [A (i + 1)] _
      repeat (refine stp ?_)
      exact ht_next () (by omega) trivial (fun _ s => s) (SubE.cons (by rw [IntWalk.i64_in _ (by omega)]; rfl) inferInstance) rfl rfl
    · revert s
      revert w
      show Ht [B] _
      repeat (refine stp ?_)
      exact ret0 rfl (hs _)
  · have e : i = xs.length := by omega
    subst e
    repeat (refine stp ?_)
    exact end0 rfl (hd _)
theorem iy_from_nil {L K} {k : Int} (h : ∀ c, Ht (pto c (cells [.slice none 0 0] 101) :: L) (K (.func (.func 124) #[] #[.pointer (some ⟨c, 0, none⟩)]))) : Ht L (CCall Tryz.prog 69 [.pointer none, .int .i64 k] K) := by
  refine ccall2 Tryz.func69 rfl (by decide) Tryz.ntmps69 (by rfl) (by decide) ?_
  repeat (refine stp ?_)
  refine iy_told inferInstance ?_
  intro c
  repeat (refine stp ?_)
  exact ret1 rfl (h c)
theorem iy_from {L L1 R K b o l S v} {xs : List (Int × SVy)} {k : Int} [p : Pull (pto b) L (cells l S) L1] [n : Nth l o v] [q : Pull (own enc_iy 110 v) L1 xs R] (hs : Srt xs) (hn : xs.length ≤ 1000000)
    (h : ∀ c v2, (∀ w, SlIn w v enc_iy xs → SlIn w v2 enc_iy (xs.drop (tpos k xs))) → Ht (pto c (cells [v2] 101) :: own enc_iy 110 v xs :: pto b (cells l S) :: R) (K (.func (.func 124) #[] #[.pointer (some ⟨c, 0, none⟩)]))) :
    Ht L (CCall Tryz.prog 69 [.pointer (some ⟨b, o, none⟩), .int .i64 k] K) := by
  have hle := tpos_le k xs
  refine Ht.pull p (Ht.two q ?_)
  refine ccall2 Tryz.func69 rfl (by decide) Tryz.ntmps69 (by rfl) (by decide) ?_
  repeat (refine stp ?_)
  refine iy_place hs hn ?_
  repeat (refine stp ?_)
  refine co_slice (by omega) ?_
  intro hsl
  repeat (refine stp ?_)
  refine Ht.know (p := One1 (slSub v 2 (tpos k xs) xs.length)) (fun w s => ?_) (fun hv => ?_)
  · rcases own_sat s with ⟨rfl, _⟩ | ⟨a, c, rfl, _⟩ <;> exact ⟨rfl⟩
  refine iy_told hv ?_
  intro c
  repeat (refine stp ?_)
  exact ret1 rfl (h c _ (fun w hw => by have := slSub_in hw hsl.h; rw [List.take_length] at this; exact this))

/-! Change, by a function of which it is known what it says -/
theorem iy_put_nil {L K} {k : Int} {u : SVy} (h : Ht L (K (.bool false))) : Ht L (CCall Tryz.prog 66 [.pointer none, .int .i64 k, .slice (u).1 (u).2.1 (u).2.2] K) := by
  refine ccall3 Tryz.func66 rfl (by decide) Tryz.ntmps66 (by rfl) (by decide) ?_
  repeat (refine stp ?_)
  exact ret1 rfl h
theorem iy_drop_nil {L K} {k : Int} (h : Ht L (K (.bool false))) : Ht L (CCall Tryz.prog 71 [.pointer none, .int .i64 k] K) := by
  refine ccall2 Tryz.func71 rfl (by decide) Tryz.ntmps71 (by rfl) (by decide) ?_
  repeat (refine stp ?_)
  exact ret1 rfl h
def iy_ofM (l : List (Int × SVy)) : List (Int × SVy) := l.foldl (fun t r => tput r.1 r.2 t) []
theorem iy_ofM_srt (l : List (Int × SVy)) : Srt (iy_ofM l) := by
  unfold iy_ofM
  have : ∀ (l t : List (Int × SVy)), Srt t → Srt (l.foldl (fun t r => tput r.1 r.2 t) t) := by
    intro l
    induction l with
    | nil => intro t h; exact h
    | cons r l ih => intro t h; exact ih _ (tput_srt h)
  exact this l [] srt_nil
theorem iy_ofM_len (l : List (Int × SVy)) : (iy_ofM l).length ≤ l.length := by
  unfold iy_ofM
  have : ∀ (l t : List (Int × SVy)), (l.foldl (fun t r => tput r.1 r.2 t) t).length ≤ t.length + l.length := by
    intro l
    induction l with
    | nil => intro t; simp
    | cons r l ih => intro t; have := ih (tput r.1 r.2 t); have := tput_len (k := r.1) (v := r.2) (l := t); simp only [List.foldl_cons, List.length_cons]; omega
  have := this l []
  simpa using this
end Go.Proofs

set_option linter.all false
set_option synthInstance.maxSize 100000
set_option synthInstance.maxHeartbeats 400000
namespace Go.Proofs
open Go Go.SL
attribute [local irreducible] CCall CO CC CX CD
/-! ### what goes out -/
/-! ### what comes in -/
def wy_offM (nx n : Int) (xs : List (Int × SVy)) : Int := if n < nx then 8 else if 16 ≤ n - nx then 7 else if thas n xs then 6 else 0
end Go.Proofs

set_option linter.all false
set_option synthInstance.maxSize 100000
set_option synthInstance.maxHeartbeats 400000
namespace Go.SL
open Go
/-! ### Sorted rows whose values stand for something else; one region for each row -/
section
variable {κ ν ν' : Type} [KLt κ]
theorem ktpos_map (f : ν → ν') (k : κ) (l : List (κ × ν)) : tpos k (l.map fun x => (x.1, f x.2)) = tpos k l := by
  unfold tpos
  rw [List.takeWhile_map, List.length_map]; rfl
theorem ktfind_map (f : ν → ν') (k : κ) (l : List (κ × ν)) : tfind k (l.map fun x => (x.1, f x.2)) = (tfind k l).map f := by
  unfold tfind
  rw [ktpos_map, List.getElem?_map]
  cases l[tpos k l]? with
  | none => rfl
  | some r =>
    show (if r.1 = k then some (f r.2) else none) = (if r.1 = k then some r.2 else none).map f
    split <;> rfl
theorem kthas_map (f : ν → ν') (k : κ) (l : List (κ × ν)) : thas k (l.map fun x => (x.1, f x.2)) = thas k l := by
  unfold thas; rw [ktfind_map, Option.isSome_map]
theorem ktput_map (f : ν → ν') (k : κ) (v : ν) (l : List (κ × ν)) : (tput k v l).map (fun x => (x.1, f x.2)) = tput k (f v) (l.map fun x => (x.1, f x.2)) := by
  unfold tput
  rw [ktpos_map, kthas_map, List.map_append, List.map_take, List.map_cons, List.map_drop]
theorem ktdrop_map (f : ν → ν') (k : κ) (l : List (κ × ν)) : (tdrop k l).map (fun x => (x.1, f x.2)) = tdrop k (l.map fun x => (x.1, f x.2)) := by
  unfold tdrop
  rw [ktpos_map, kthas_map]
  split
  · rw [List.map_append, List.map_take, List.map_drop]
  · rfl
theorem ksrt_map (f : ν → ν') {l : List (κ × ν)} : Srt (l.map fun x => (x.1, f x.2)) ↔ Srt l := by
  unfold Srt; rw [List.pairwise_map]
variable {F : κ × ν → HP}
theorem bigK_drop {g : List (κ × ν)} {i : Nat} {R : List HP} {w : World} (hi : i < g.length) (s : Sat (bigO F g :: R) w) : Sat (bigO F (g.take i ++ g.drop (i + 1)) :: R) w := by
  have e : g = g.take i ++ g[i] :: g.drop (i + 1) := by rw [← List.drop_eq_getElem_cons hi, List.take_append_drop]
  rw [e] at s
  have hl : (g.take i).length = i := by simp; omega
  have := (bigO_split.1 s)
  have h2 := seps_tail this
  exact h2
theorem bigK_put {g : List (κ × ν)} {k : κ} {x : ν} {R : List HP} {w : World} (s : Sat (F (k, x) :: bigO F g :: R) w) : Sat (bigO F (tput k x g) :: R) w := by
  unfold tput
  refine bigO_split.2 ?_
  refine seps_mono (fun _ a => a) (fun _ t => ?_) s
  by_cases hh : thas k g = true
  · rw [if_pos hh]
    have hlt : tpos k g < g.length := by
      unfold thas at hh
      obtain ⟨v, hv⟩ := Option.isSome_iff_exists.1 hh
      exact (List.getElem?_eq_some_iff.1 (tfind_some hv)).1
    have e : g = g.take (tpos k g) ++ g[tpos k g] :: g.drop (tpos k g + 1) := by rw [← List.drop_eq_getElem_cons hlt, List.take_append_drop]
    have t2 := t
    rw [e] at t2
    exact seps_tail (bigO_split.1 t2)
  · rw [if_neg hh, List.take_append_drop]; exact t
theorem bigK_del {g : List (κ × ν)} {k : κ} {R : List HP} {w : World} (s : Sat (bigO F g :: R) w) : Sat (bigO F (tdrop k g) :: R) w := by
  unfold tdrop
  by_cases hh : thas k g = true
  · rw [if_pos hh]
    have hlt : tpos k g < g.length := by
      unfold thas at hh
      obtain ⟨v, hv⟩ := Option.isSome_iff_exists.1 hh
      exact (List.getElem?_eq_some_iff.1 (tfind_some hv)).1
    exact bigK_drop hlt s
  · rw [if_neg hh]; exact s
end
/-- of a list of regions one that is looked at -/
theorem bigO_at {β : Type} {F : β → HP} {g : List β} {x : β} (hx : x ∈ g) {R : List HP} {w : World} (s : Sat (bigO F g :: R) w) : ∃ R', Sat (F x :: R') w := by
  obtain ⟨i, hi, rfl⟩ := List.getElem_of_mem hx
  have e : g = g.take i ++ g[i] :: g.drop (i + 1) := by rw [← List.drop_eq_getElem_cons hi, List.take_append_drop]
  have s2 : Sat (bigO F (g.take i ++ g[i] :: g.drop (i + 1)) :: R) w := by rw [← e]; exact s
  exact ⟨_, bigO_split.1 s2⟩
section control
variable {P : Program} {ρ : Option Nat} {N : Nat} {E : List (Nat × Value)} {L : List HP}
/-- a result in a cell, and two plain ones -/
theorem retctt {fn : Func} {K : Value → World → Prop} {t u u2 T : Nat} {a : Addr} {v x y : Value} (hr : fn.results = #[.cell t T, .tmp u, .tmp u2]) [l : Look E t (.pointer (some a))] [m : Look E u x] [m2 : Look E u2 y] [vr : Var P L T a v] (h : Ht L (K (.tuple #[v, x, y]))) : Ht L (CX N [] E .ret (FnPost P fn K)) :=
  fnpost_sat (fun N ac w r s => by
    have := r.vals t _ l.h
    have := r.vals u _ m.h
    have := r.vals u2 _ m2.h
    simp only [results, hr]
    simp [*, asAddr, Sem.run_bind, Result.andThen, vr.h w s]) h
end control
end Go.SL

set_option linter.all false
set_option synthInstance.maxSize 100000
set_option synthInstance.maxHeartbeats 400000
namespace Go.Proofs
open Go Go.SL
attribute [local irreducible] CCall CO CC CX CD
theorem ySame_spec {L K v u} {xs ys : List UInt8} [r1 : RdE L encB v xs] [r2 : RdE L encB u ys] (h : Ht L (K (.bool (decide (xs = ys))))) : Ht L (CCall Tryz.prog 18 [v, u] K) := by
  haveI := r1.toS
  haveI := r2.toS
  refine Ht.know (p := xs.length ≤ 9223372036854775807) (fun w s => (r1.h w s).le) (fun hx => ?_)
  refine ccall2 Tryz.func18 rfl (by decide) Tryz.ntmps18 (by rfl) (by decide) ?_
  repeat (refine stp ?_)
  refine ht_if ?_ ?_ <;> intro h0 <;> simp at h0
  · repeat (refine stp ?_)
    refine ret1 rfl ?_
    have : xs ≠ ys := fun e => h0 (by rw [e])
    simpa [this] using h
  · repeat (refine stp ?_)
    refine ht_for xs.length (fun i (_ : Unit) => xs.take i = ys.take i) (fun i _ => L) (fun i _ => [(5, .int .i64 i)]) () [5] (by simp) (fun _ s => s) (SubE.cons rfl inferInstance) ?_
    intro i _ hi hx
    dsimp only [List.cons_append, List.nil_append]
    repeat (refine stp ?_)
    refine ht_if ?_ ?_ <;> intro hc <;> simp at hc
    · repeat (refine stp ?_)
      refine ht_draw Tryz.can18x6 Tryz.mixed (by kernel_rfl) ?_
      repeat (refine stp ?_)
      refine cd_index (xs := xs) (by simp; omega) ?_
      intro hb1 _
      repeat (refine stp ?_)
      refine cd_index (xs := ys) (by simp; omega) ?_
      intro hb2 _
      repeat (refine stp ?_)
      have g1 : xs[i]! = xs[i] := getElem!_pos xs i hb1.h
      have g2 : ys[i]! = ys[i] := getElem!_pos ys i hb2.h
      rw [g1, g2]
      refine ht_if ?_ ?_ <;> intro hne
      · repeat (refine stp ?_)
        refine ret1 rfl ?_
        have : xs ≠ ys := fun e => by subst e; simp at hne
        simpa [this] using h
      · repeat (refine stp ?_)
        refine ht_next () hb1.h ?_ (fun _ s => s) (SubE.cons (by rw [IntWalk.i64_in _ (by omega)]; rfl) inferInstance) rfl rfl
        simp only [ne_eq, decide_not, Bool.not_eq_false', decide_eq_true_eq] at hne
        rw [List.take_succ_eq_append_getElem hb1.h, List.take_succ_eq_append_getElem hb2.h, hx]
        rw [UInt8.toNat_inj.1 (by omega : (xs[i]'hb1.h).toNat = (ys[i]'hb2.h).toNat)]
    · repeat (refine stp ?_)
      refine ret1 rfl ?_
      have e : xs = ys := by
        have h1 : i = xs.length := by omega
        have h2 : i = ys.length := by omega
        rw [h1, List.take_length] at hx
        rw [← h1, h2, List.take_length] at hx
        exact hx
      simpa [e] using h

theorem ySame_spec' {L K v u} {xs ys : List UInt8} [r1 : RdE L encB v xs] [r2 : RdE L encB u ys] (e : xs = ys) (h : Ht L (K (.bool true))) : Ht L (CCall Tryz.prog 18 [v, u] K) :=
  ySame_spec (by simpa [e] using h)

end Go.Proofs

set_option linter.all false
set_option synthInstance.maxSize 100000
set_option synthInstance.maxHeartbeats 400000
namespace Go.Proofs
open Go Go.SL
attribute [local irreducible] CCall CO CC CX CD

theorem yClone_spec {L K v} {xs : List UInt8} [rs : RdE L encB v xs] (hn : (xs.length : Int) ≤ 140737488355328) (h : ∀ v', Ht (own encB 5 v' xs :: L) (K v')) : Ht L (CCall Tryz.prog 38 [v] K) := by
  haveI := rs.toS
  refine ccall1 Tryz.func38 rfl (by decide) Tryz.ntmps38 (by rfl) (by decide) ?_
  repeat (refine stp ?_)
  refine ht_if ?_ ?_ <;> intro h0
  · repeat (refine stp ?_)
    refine ret1 rfl ?_
    refine Ht.know (p := xs = []) (fun w s => ?_) (fun hx => ?_)
    · rcases rs.h w s with ⟨rfl, hx⟩ | ⟨a, c, rfl, _⟩
      · exact hx
      · cases h0
    · subst hx
      exact Ht.conseq (h _) (fun w s => own_nil.2 s)
  · repeat (refine stp ?_)
    intro v0
    repeat (refine stp ?_)
    refine Ht.own_lit encB (b := v0) (xs := []) rfl rfl (by decide) ?_
    refine co_append (e := encB) (by rfl) ?_ ?_ ?_
    · simp; omega
    · simp; omega
    intro v'
    repeat (refine stp ?_)
    exact ret1 rfl (h v')


/-! ### a pipe's end -/
structure PSt where
  self : Int
  peer : Int
  said : List (List UInt8)
  acked : Nat
  next : Int
  kept : List (Int × List UInt8)
abbrev GR := List (Int × SB)
def rvals (r : GR) : List (Int × SVy) := r.map fun x => (x.1, x.2.1)
def rbytes (r : GR) : List (Int × List UInt8) := r.map fun x => (x.1, x.2.2)
def gsv (g : List SB) : List SVy := g.map fun x => x.1
def gby (g : List SB) : List (List UInt8) := g.map fun x => x.2
def rown : Int × SB → HP := fun x => ownY 5 x.2
def pairM (a b : Int) : Bool := decide (0 ≤ a) && decide (a < 3) && (decide (0 ≤ b) && decide (b < 3)) && decide (a ≠ b)
end Go.Proofs

set_option linter.all false
set_option synthInstance.maxSize 100000
set_option synthInstance.maxHeartbeats 400000
namespace Go.Proofs
open Go Go.SL
attribute [local irreducible] CCall CO CC CX CD

instance {s : SVy} : One1 (svY s) := ⟨rfl⟩
theorem gsv_len {ms : List SB} : (gsv ms).length = ms.length := by simp [gsv]
theorem gby_len {ms : List SB} : (gby ms).length = ms.length := by simp [gby]
theorem gsv_at {ms : List SB} {i : Nat} (hi : i < ms.length) : (gsv ms)[i]! = (ms[i]!).1 := by
  rw [getElem!_pos (gsv ms) i (by simpa [gsv] using hi), getElem!_pos ms i hi]; simp [gsv]
theorem gby_take {ms : List SB} {i : Nat} (hi : i < ms.length) : (gby ms).take (i + 1) = (gby ms).take i ++ [(ms[i]!).2] := by
  rw [List.take_succ_eq_append_getElem (by simpa [gby] using hi), getElem!_pos ms i hi]; simp [gby]
end Go.Proofs

set_option linter.all false
namespace Go.SL
open Go
/-! ### check sums: the plain law -/
def poly : Nat := 3988292384
def cst (c : Nat) : Nat := if c % 2 = 1 then (c / 2) ^^^ poly else c / 2
def cstN : Nat → Nat → Nat
  | 0, c => c
  | n + 1, c => cstN n (cst c)
theorem xor_lt {a b : Nat} (ha : a < 2 ^ 32) (hb : b < 2 ^ 32) : a ^^^ b < 2 ^ 32 := Nat.xor_lt_two_pow ha hb
theorem poly_lt : poly < 2 ^ 32 := by decide
theorem cst_lt {c : Nat} (h : c < 2 ^ 32) : cst c < 2 ^ 32 := by
  unfold cst
  split
  · exact xor_lt (by omega) poly_lt
  · omega
theorem cstN_lt : ∀ {n c : Nat}, c < 2 ^ 32 → cstN n c < 2 ^ 32
  | 0, _, h => h
  | n + 1, c, h => cstN_lt (n := n) (c := cst c) (cst_lt h)
theorem xor_odd (a b : Nat) : (a ^^^ b) % 2 = 1 ↔ ¬ (a % 2 = 1 ↔ b % 2 = 1) := by
  have h : (a ^^^ b).testBit 0 = (a.testBit 0 ^^ b.testBit 0) := Nat.testBit_xor ..
  simp only [Nat.testBit_zero] at h
  have h2 : (decide ((a ^^^ b) % 2 = 1)) = (decide (a % 2 = 1) ^^ decide (b % 2 = 1)) := h
  by_cases h3 : (a ^^^ b) % 2 = 1 <;> by_cases h4 : a % 2 = 1 <;> by_cases h5 : b % 2 = 1 <;> simp_all
theorem cst_xor (a b : Nat) : cst (a ^^^ b) = cst a ^^^ cst b := by
  unfold cst
  have hd : (a ^^^ b) / 2 = a / 2 ^^^ b / 2 := Nat.xor_div_two
  by_cases ha : a % 2 = 1 <;> by_cases hb : b % 2 = 1
  · rw [if_neg (by rw [xor_odd]; simp [ha, hb]), if_pos ha, if_pos hb, hd, Nat.xor_assoc, ← Nat.xor_assoc poly, Nat.xor_comm poly, Nat.xor_assoc (b / 2), Nat.xor_self, Nat.xor_zero]
  · rw [if_pos (by rw [xor_odd]; simp [ha, hb]), if_pos ha, if_neg hb, hd, Nat.xor_assoc, Nat.xor_comm (b / 2), Nat.xor_assoc]
  · rw [if_pos (by rw [xor_odd]; simp [ha, hb]), if_neg ha, if_pos hb, hd, Nat.xor_assoc]
  · rw [if_neg (by rw [xor_odd]; simp [ha, hb]), if_neg ha, if_neg hb, hd]
theorem cstN_xor : ∀ (n a b : Nat), cstN n (a ^^^ b) = cstN n a ^^^ cstN n b
  | 0, _, _ => rfl
  | n + 1, a, b => by simp only [cstN]; rw [cst_xor, cstN_xor]
theorem cst_even (h : Nat) : cst (2 * h) = h := by
  unfold cst; rw [if_neg (by omega)]; omega
theorem cst8 (h : Nat) : cstN 8 (256 * h) = h := by
  have e : 256 * h = 2 * (2 * (2 * (2 * (2 * (2 * (2 * (2 * h))))))) := by omega
  rw [e]
  simp only [cstN, cst_even]
/-- a byte more, by the table-less way -/
def crcB (c b : Nat) : Nat := (c / 256) ^^^ cstN 8 ((c % 256) ^^^ b)
theorem split_xor (c : Nat) : c = (256 * (c / 256)) ^^^ (c % 256) := by
  have h := Nat.two_pow_add_eq_or_of_lt (i := 8) (b := c % 256) (Nat.mod_lt _ (by omega)) (c / 256)
  have e : 2 ^ 8 * (c / 256) + c % 256 = c := Nat.div_add_mod c 256
  rw [e] at h
  refine Nat.eq_of_testBit_eq fun i => ?_
  rw [Nat.testBit_xor]
  have h2 := congrArg (fun x => Nat.testBit x i) h
  simp only [Nat.testBit_or] at h2
  rw [h2]
  have h3 : (256 * (c / 256)) = 2 ^ 8 * (c / 256) := rfl
  rw [h3, Nat.testBit_two_pow_mul, show (c % 256) = c % 2 ^ 8 from rfl, Nat.testBit_mod_two_pow]
  by_cases hi : i < 8
  · have : ¬ (8 ≤ i) := by omega
    simp [hi, this]
  · have : 8 ≤ i := by omega
    simp [hi, this]
theorem crcB_eq (c b : Nat) : crcB c b = cstN 8 (c ^^^ b) := by
  unfold crcB
  conv => rhs; rw [split_xor c, Nat.xor_assoc, cstN_xor, cst8]
/-- a bit more, as the document does it -/
def refS (p : Nat × Nat) : Nat × Nat := (if p.1 % 2 ≠ p.2 % 2 then (p.1 / 2) ^^^ poly else p.1 / 2, p.2 / 2)
def refN : Nat → Nat × Nat → Nat × Nat
  | 0, p => p
  | n + 1, p => refN n (refS p)
theorem refS_eq (p : Nat × Nat) : (refS p).1 ^^^ (refS p).2 = cst (p.1 ^^^ p.2) := by
  unfold refS cst
  have hd : (p.1 ^^^ p.2) / 2 = p.1 / 2 ^^^ p.2 / 2 := Nat.xor_div_two
  have hm : (p.1 ^^^ p.2) % 2 = 1 ↔ p.1 % 2 ≠ p.2 % 2 := by rw [xor_odd]; omega
  by_cases h : p.1 % 2 ≠ p.2 % 2
  · rw [if_pos h, if_pos (hm.2 h), hd, Nat.xor_assoc, Nat.xor_comm poly, Nat.xor_assoc]
  · rw [if_neg h, if_neg (fun hh => h (hm.1 hh)), hd]
theorem refN_eq : ∀ (n : Nat) (p : Nat × Nat), (refN n p).1 ^^^ (refN n p).2 = cstN n (p.1 ^^^ p.2)
  | 0, _ => rfl
  | n + 1, p => by simp only [refN, cstN]; rw [refN_eq, refS_eq]
theorem refN_snd : ∀ (n : Nat) (p : Nat × Nat), (refN n p).2 = p.2 / 2 ^ n
  | 0, p => by simp [refN]
  | n + 1, p => by simp only [refN]; rw [refN_snd]; unfold refS; rw [Nat.div_div_eq_div_mul, Nat.pow_succ, Nat.mul_comm]
theorem refN_succ : ∀ (n : Nat) (p : Nat × Nat), refN (n + 1) p = refS (refN n p)
  | 0, _ => rfl
  | n + 1, p => by rw [refN, refN_succ n]; rfl
theorem cstN_succ : ∀ (n c : Nat), cstN (n + 1) c = cst (cstN n c)
  | 0, _ => rfl
  | n + 1, c => by rw [cstN, cstN_succ n]; rfl
theorem ref8 (c b : Nat) (hb : b < 256) : (refN 8 (c, b)).1 = crcB c b := by
  have h1 := refN_eq 8 (c, b)
  have h2 := refN_snd 8 (c, b)
  dsimp only at h1 h2
  rw [show b / 2 ^ 8 = 0 from by omega] at h2
  rw [h2, Nat.xor_zero] at h1
  rw [h1, crcB_eq]
theorem crcB_lt {c b : Nat} (hc : c < 2 ^ 32) (hb : b < 256) : crcB c b < 2 ^ 32 := by
  rw [crcB_eq]; exact cstN_lt (xor_lt hc (by omega))
theorem refN_lt : ∀ {n : Nat} {p : Nat × Nat}, p.1 < 2 ^ 32 → (refN n p).1 < 2 ^ 32
  | 0, _, h => h
  | n + 1, p, h => by
    refine refN_lt (n := n) (p := refS p) ?_
    unfold refS
    dsimp only
    split
    · exact xor_lt (by omega) poly_lt
    · omega
def crcL (c : Nat) (l : List UInt8) : Nat := l.foldl (fun c b => crcB c b.toNat) c
theorem crcL_lt : ∀ {l : List UInt8} {c : Nat}, c < 2 ^ 32 → crcL c l < 2 ^ 32
  | [], _, h => h
  | b :: l, c, h => crcL_lt (l := l) (crcB_lt h b.toNat_lt)
theorem crcL_app (c : Nat) (l m : List UInt8) : crcL c (l ++ m) = crcL (crcL c l) m := by unfold crcL; rw [List.foldl_append]
theorem crcL_succ {c : Nat} {l : List UInt8} {i : Nat} (hi : i < l.length) : crcL c (l.take (i + 1)) = crcB (crcL c (l.take i)) (l[i]!).toNat := by
  rw [List.take_succ_eq_append_getElem hi, crcL_app, getElem!_pos l i hi]; rfl
def ones : Nat := 4294967295
/-- the check sum -/
def sumB (l : List UInt8) : Nat := ones - crcL ones l
theorem sumB_lt (l : List UInt8) : sumB l < 2 ^ 32 := by unfold sumB ones; omega
theorem xor_ones {c : Nat} (h : c < 2 ^ 32) : c ^^^ ones = ones - c := by
  refine Nat.eq_of_testBit_eq fun i => ?_
  have e1 : ones - c = 2 ^ 32 - (c + 1) := by unfold ones; omega
  have e2 : ones = 2 ^ 32 - 1 := rfl
  rw [Nat.testBit_xor, e1, Nat.testBit_two_pow_sub_succ h, e2, Nat.testBit_two_pow_sub_one]
  by_cases hi : i < 32
  · simp [hi]
  · have : c.testBit i = false := Nat.testBit_lt_two_pow (Nat.lt_of_lt_of_le h (Nat.pow_le_pow_right (by omega) (by omega)))
    simp [hi, this]
end Go.SL


set_option linter.all false
namespace Go.SL
open Go
instance : NN 8 := ⟨by decide⟩
instance : NN 16 := ⟨by decide⟩
instance : NN 24 := ⟨by decide⟩
/-! ### Words of 32 bits as numbers -/
theorem bv32 {a : Nat} (h : a < 2 ^ 32) : (BitVec.ofInt 32 (a : Int)).toNat = a := by
  rw [BitVec.ofInt_natCast, BitVec.toNat_ofNat, Nat.mod_eq_of_lt h]
theorem bv64 {a : Nat} (h : a < 2 ^ 64) : (BitVec.ofInt 64 (a : Int)).toNat = a := by
  rw [BitVec.ofInt_natCast, BitVec.toNat_ofNat, Nat.mod_eq_of_lt h]
theorem bAnd32 {a b : Nat} (ha : a < 2 ^ 32) (hb : b < 2 ^ 32) : bAnd .u32 (a : Int) (b : Int) = ((a &&& b : Nat) : Int) := by
  have h1 : (BitVec.ofInt 32 (a : Int) &&& BitVec.ofInt 32 (b : Int)).toNat = a &&& b := by rw [BitVec.toNat_and, bv32 ha, bv32 hb]
  have h2 : a &&& b < 2 ^ 32 := Nat.and_lt_two_pow a hb
  show IntKind.u32.wrap (((BitVec.ofInt 32 (a : Int) &&& BitVec.ofInt 32 (b : Int)).toNat : Nat) : Int) = _
  rw [h1]; exact Go.IntWalk.u32_in _ (by omega)
theorem bOr32 {a b : Nat} (ha : a < 2 ^ 32) (hb : b < 2 ^ 32) : bOr .u32 (a : Int) (b : Int) = ((a ||| b : Nat) : Int) := by
  have h1 : (BitVec.ofInt 32 (a : Int) ||| BitVec.ofInt 32 (b : Int)).toNat = a ||| b := by rw [BitVec.toNat_or, bv32 ha, bv32 hb]
  have h2 : a ||| b < 2 ^ 32 := Nat.or_lt_two_pow ha hb
  show IntKind.u32.wrap (((BitVec.ofInt 32 (a : Int) ||| BitVec.ofInt 32 (b : Int)).toNat : Nat) : Int) = _
  rw [h1]; exact Go.IntWalk.u32_in _ (by omega)
theorem bXor32 {a b : Nat} (ha : a < 2 ^ 32) (hb : b < 2 ^ 32) : bXor .u32 (a : Int) (b : Int) = ((a ^^^ b : Nat) : Int) := by
  have h1 : (BitVec.ofInt 32 (a : Int) ^^^ BitVec.ofInt 32 (b : Int)).toNat = a ^^^ b := by rw [BitVec.toNat_xor, bv32 ha, bv32 hb]
  have h2 : a ^^^ b < 2 ^ 32 := xor_lt ha hb
  show IntKind.u32.wrap (((BitVec.ofInt 32 (a : Int) ^^^ BitVec.ofInt 32 (b : Int)).toNat : Nat) : Int) = _
  rw [h1]; exact Go.IntWalk.u32_in _ (by omega)
theorem bXor64 {a b : Nat} (ha : a < 2 ^ 32) (hb : b < 2 ^ 32) : bXor .i64 (a : Int) (b : Int) = ((a ^^^ b : Nat) : Int) := by
  have h1 : (BitVec.ofInt 64 (a : Int) ^^^ BitVec.ofInt 64 (b : Int)).toNat = a ^^^ b := by rw [BitVec.toNat_xor, bv64 (by omega), bv64 (by omega)]
  have h2 : a ^^^ b < 2 ^ 32 := xor_lt ha hb
  show IntKind.i64.wrap (((BitVec.ofInt 64 (a : Int) ^^^ BitVec.ofInt 64 (b : Int)).toNat : Nat) : Int) = _
  rw [h1]; exact Go.IntWalk.i64_in _ (by omega)
theorem and_1 {c : Nat} (h : c < 2 ^ 32) : bAnd .u32 (c : Int) 1 = ((c % 2 : Nat) : Int) := by
  have := bAnd32 h (show 1 < 2 ^ 32 by omega)
  rw [Nat.and_one_is_mod] at this; exact this
theorem and_255 {c : Nat} (h : c < 2 ^ 32) : bAnd .u32 (c : Int) 255 = ((c % 256 : Nat) : Int) := by
  have := bAnd32 h (show 255 < 2 ^ 32 by omega)
  rw [show 255 = 2 ^ 8 - 1 from rfl, Nat.and_two_pow_sub_one_eq_mod] at this; exact this
theorem fdiv_nat (a b : Nat) : Int.fdiv (a : Int) (b : Int) = ((a / b : Nat) : Int) := by
  rw [Int.fdiv_eq_ediv_of_nonneg _ (by omega)]; rfl
/-- four bytes' number -/
def num4 (b : List UInt8) : Nat := (b[0]!).toNat * 16777216 + (b[1]!).toNat * 65536 + (b[2]!).toNat * 256 + (b[3]!).toNat
theorem num4_lt (b : List UInt8) : num4 b < 2 ^ 32 := by
  unfold num4
  have h0 := (b[0]!).toNat_lt
  have h1 := (b[1]!).toNat_lt
  have h2 := (b[2]!).toNat_lt
  have h3 := (b[3]!).toNat_lt
  omega
theorem or_4 {a b c d : Nat} (ha : a < 256) (hb : b < 256) (hc : c < 256) (hd : d < 256) : bOr .u32 (bOr .u32 (bOr .u32 (IntKind.u32.wrap ((a : Int) * 16777216)) (IntKind.u32.wrap ((b : Int) * 65536))) (IntKind.u32.wrap ((c : Int) * 256))) (d : Int) = ((a * 16777216 + b * 65536 + c * 256 + d : Nat) : Int) := by
  rw [Go.IntWalk.u32_in _ (show 0 ≤ (a : Int) * 16777216 ∧ (a : Int) * 16777216 ≤ 4294967295 by omega), Go.IntWalk.u32_in _ (show 0 ≤ (b : Int) * 65536 ∧ (b : Int) * 65536 ≤ 4294967295 by omega), Go.IntWalk.u32_in _ (show 0 ≤ (c : Int) * 256 ∧ (c : Int) * 256 ≤ 4294967295 by omega)]
  rw [show (a : Int) * 16777216 = ((a * 16777216 : Nat) : Int) from by omega, show (b : Int) * 65536 = ((b * 65536 : Nat) : Int) from by omega, show (c : Int) * 256 = ((c * 256 : Nat) : Int) from by omega]
  rw [bOr32 (by omega) (by omega)]
  have e1 : a * 16777216 ||| b * 65536 = a * 16777216 + b * 65536 := by
    have := Nat.two_pow_add_eq_or_of_lt (i := 24) (b := b * 65536) (by omega) a
    rw [show a * 16777216 = 2 ^ 24 * a from by omega]; exact this.symm
  rw [e1, bOr32 (by omega) (by omega)]
  have e2 : (a * 16777216 + b * 65536) ||| c * 256 = a * 16777216 + b * 65536 + c * 256 := by
    have := Nat.two_pow_add_eq_or_of_lt (i := 16) (b := c * 256) (by omega) (a * 256 + b)
    rw [show a * 16777216 + b * 65536 = 2 ^ 16 * (a * 256 + b) from by omega]; exact this.symm
  rw [e2, bOr32 (by omega) (by omega)]
  have e3 : (a * 16777216 + b * 65536 + c * 256) ||| d = a * 16777216 + b * 65536 + c * 256 + d := by
    have := Nat.two_pow_add_eq_or_of_lt (i := 8) (b := d) (by omega) (a * 65536 + b * 256 + c)
    rw [show a * 16777216 + b * 65536 + c * 256 = 2 ^ 8 * (a * 65536 + b * 256 + c) from by omega]; exact this.symm
  rw [e3]
/-- a number's four bytes -/
def word4 (n : Nat) : List UInt8 := [UInt8.ofNat (n / 16777216), UInt8.ofNat (n / 65536), UInt8.ofNat (n / 256), UInt8.ofNat n]
theorem u8w (m : Nat) : IntKind.u8.wrap (m : Int) = ((UInt8.ofNat m).toNat : Int) := by
  rw [u8_wrap_ofInt]
  simp [UInt8.ofInt]
  omega
theorem u32b (b : UInt8) : IntKind.u32.wrap (b.toNat : Int) = (b.toNat : Int) := Go.IntWalk.u32_in _ (by have := b.toNat_lt; omega)
theorem num_word {n : Nat} (h : n < 2 ^ 32) : num4 (word4 n) = n := by
  unfold num4 word4
  simp only [List.getElem!_cons_zero, List.getElem!_cons_succ, UInt8.toNat_ofNat']
  omega
theorem own_prefix {T : TypeId} {α : Type} {e : Enc α} {v : Value} {xs : List α} {n : Nat} {R : List HP} {w : World} (hn : n ≤ xs.length) (s : Sat (own e T v xs :: R) w) : Sat (own e T (slSub v e.k 0 n) (xs.take n) :: R) w := by
  obtain ⟨h1, h2, u, ho, l⟩ := s
  refine ⟨h1, h2, u, ?_, l⟩
  rcases ho with ⟨rfl, rfl⟩ | ⟨b, pre, post, cap, fz, rfl, g1, g2, g3, g4, g5⟩
  · have : n = 0 := by simpa using hn
    subst this
    exact .inl ⟨by simp [slSub], by simp⟩
  · have hl : (xs.take n).length = n := by simp; omega
    have hf : (xs.take n).flatMap e.f ++ (xs.drop n).flatMap e.f = xs.flatMap e.f := by rw [← List.flatMap_append, List.take_append_drop]
    have hd : ((xs.drop n).flatMap e.f).length = (xs.length - n) * e.k := by rw [flat_len, List.length_drop]
    have hm : n * e.k + (xs.length - n) * e.k = xs.length * e.k := by rw [← Nat.add_mul]; congr 1; omega
    refine .inr ⟨b, pre, (xs.drop n).flatMap e.f ++ post, cap, fz, ?_, by omega, by omega, by rw [hl, List.length_append, hd]; omega, ?_, ?_⟩
    · rw [hl]
      have ha : (⟨b, pre.length, none⟩ : Addr).add 0 = ⟨b, pre.length, none⟩ := by simp [Addr.add]
      simp only [slSub, Nat.zero_mul, Nat.sub_zero, Option.map_some, ha, ite_self]
    · rw [g4, ← hf]; simp only [List.append_assoc]
    · rw [hl, List.length_append, hd]
      intro i hi
      exact g5 i (by omega)
end Go.SL

set_option linter.all false
set_option synthInstance.maxSize 100000
set_option synthInstance.maxHeartbeats 400000
namespace Go.Proofs
open Go Go.SL
attribute [local irreducible] CCall CO CC CX CD

theorem shr1 (c : Nat) : Int.fdiv (c : Int) (2 ^ min 1 IntKind.u32.bits) = ((c / 2 : Nat) : Int) := fdiv_nat c 2
theorem shr8 (c : Nat) : Int.fdiv (c : Int) (2 ^ min 8 IntKind.u32.bits) = ((c / 256 : Nat) : Int) := fdiv_nat c 256
theorem shr16 (c : Nat) : Int.fdiv (c : Int) (2 ^ min 16 IntKind.u32.bits) = ((c / 65536 : Nat) : Int) := fdiv_nat c 65536
theorem shr24 (c : Nat) : Int.fdiv (c : Int) (2 ^ min (Int.toNat 24) IntKind.u32.bits) = ((c / 16777216 : Nat) : Int) := fdiv_nat c 16777216
theorem single_spec {L K} {c : Nat} (hc : c < 2 ^ 32) (h : Ht L (K (.int .u32 (cstN 8 c : Nat)))) : Ht L (CCall Tryz.prog 139 [.int .u32 (c : Int)] K) := by
  refine ccall1 Tryz.func139 rfl (by decide) Tryz.ntmps139 (by rfl) (by decide) ?_
  repeat (refine stp ?_)
  refine ht_for 8 (fun i (_ : Unit) => True) (fun _ _ => L) (fun i _ => [(4, .int .i64 i), (0, .int .u32 (cstN i c : Nat))]) () [4, 0] trivial (fun _ s => s) (SubE.cons rfl (SubE.cons rfl inferInstance)) ?_
  intro i _ hi _
  dsimp only [List.cons_append, List.nil_append]
  have hci : cstN i c < 2 ^ 32 := cstN_lt hc
  repeat (refine stp ?_)
  refine ht_if ?_ ?_ <;> intro h0 <;> simp only [decide_eq_true_eq, decide_eq_false_iff_not] at h0
  · repeat (refine stp ?_)
    rewrite [and_1 hci, shr1]
    have hs : cstN (i + 1) c = cst (cstN i c) := cstN_succ i c
    refine ht_if ?_ ?_ <;> intro h1 <;> simp only [decide_eq_true_eq, decide_eq_false_iff_not] at h1
    · have e : cstN (i + 1) c = (cstN i c / 2) ^^^ poly := by rw [hs]; unfold cst; rw [if_pos (by omega)]
      repeat (refine stp ?_)
      have hx : bXor .u32 ((cstN i c / 2 : Nat) : Int) 3988292384 = (((cstN i c / 2) ^^^ poly : Nat) : Int) := bXor32 (by omega) poly_lt
      rewrite [hx, ← e]
      exact ht_next () (by omega) trivial (fun _ s => s) (SubE.cons (by rw [IntWalk.i64_in _ (by omega)]; rfl) inferInstance) rfl rfl
    · have e : cstN (i + 1) c = cstN i c / 2 := by rw [hs]; unfold cst; rw [if_neg (by omega)]
      repeat (refine stp ?_)
      rewrite [← e]
      exact ht_next () (by omega) trivial (fun _ s => s) (SubE.cons (by rw [IntWalk.i64_in _ (by omega)]; rfl) inferInstance) rfl rfl
  · have e : i = 8 := by omega
    subst e
    repeat (refine stp ?_)
    exact ret1 rfl h
def jn (l : List SB) : List UInt8 := (gby l).flatten
theorem jn_take {ms : List SB} {i : Nat} (hi : i < ms.length) : jn (ms.take (i + 1)) = jn (ms.take i) ++ (ms[i]!).2 := by
  unfold jn gby
  rw [List.map_take, List.map_take, ← gby, gby_take hi, List.flatten_append]; simp
theorem Sum_spec {L K v} {ms : List SB} [rs : RdE L encY v (gsv ms)] (hm : ∀ x ∈ ms, RdE L encB (svY x.1) x.2) (h : Ht L (K (.int .u32 (sumB (jn ms) : Nat)))) : Ht L (CCall Tryz.prog 115 [v] K) := by
  haveI := rs.toS
  have hgm := gsv_len (ms := ms)
  refine Ht.know (p := (gsv ms).length ≤ 9223372036854775807) (fun w s => (rs.h w s).le) (fun hml => ?_)
  refine ccall1 Tryz.func115 rfl (by decide) Tryz.ntmps115 (by rfl) (by decide) ?_
  repeat (refine stp ?_)
  refine ht_for ms.length (fun i (_ : Unit) => True) (fun _ _ => L) (fun i _ => [(10, .int .i64 i), (3, .int .u32 (crcL ones (jn (ms.take i)) : Nat))]) () [10, 3] trivial (fun _ s => s) (SubE.cons rfl (SubE.cons rfl inferInstance)) ?_
  intro i _ hi _
  dsimp only [List.cons_append, List.nil_append]
  repeat (refine stp ?_)
  refine ht_if ?_ ?_ <;> intro h0 <;> simp only [decide_eq_true_eq, decide_eq_false_iff_not] at h0
  · have hii : i < ms.length := by omega
    have hmi := hm _ (List.mem_of_getElem? (getB hii))
    rw [← gsv_at hii] at hmi
    unfold svY at hmi
    haveI := hmi
    haveI := hmi.toS
    refine Ht.know (p := ((gsv ms)[i]!).2.1 = (ms[i]!).2.length ∧ (ms[i]!).2.length ≤ 9223372036854775807) (fun w t => ⟨slIn_len (s := (gsv ms)[i]!) (hmi.h w t), (hmi.h w t).le⟩) (fun ⟨hsl, hbl⟩ => ?_)
    repeat (refine stp ?_)
    refine co_index (by omega) ?_
    intro hb
    repeat (refine stp ?_)
    generalize hb0 : crcL ones (jn (ms.take i)) = c0
    have hc0 : c0 < 2 ^ 32 := by rw [← hb0]; exact crcL_lt (by decide)
    have hs1 : crcL ones (jn (ms.take (i + 1))) = crcL c0 (ms[i]!).2 := by rw [jn_take hii, crcL_app, hb0]
    refine ht_for (ms[i]!).2.length (fun j (_ : Unit) => True) (fun _ _ => L) (fun j _ => [(16, .int .i64 j), (3, .int .u32 (crcL c0 ((ms[i]!).2.take j) : Nat))]) () [16, 3] trivial (fun _ s => s) (SubE.cons rfl (SubE.cons rfl inferInstance)) ?_
    intro j _ hj _
    dsimp only [List.cons_append, List.nil_append]
    repeat (refine stp ?_)
    refine ht_if ?_ ?_ <;> intro h2 <;> simp only [decide_eq_true_eq, decide_eq_false_iff_not] at h2
    · have hjj : j < (ms[i]!).2.length := by omega
      have hcj : crcL c0 ((ms[i]!).2.take j) < 2 ^ 32 := crcL_lt hc0
      have hs2 := crcL_succ (c := c0) hjj
      have hbt := ((ms[i]!).2[j]!).toNat_lt
      repeat (refine stp ?_)
      refine co_index (xs := (ms[i]!).2) (by omega) ?_
      intro hb2
      repeat (refine stp ?_)
      rewrite [and_255 hcj, shr8, show IntKind.u32.wrap (((ms[i]!).2[j]!).toNat : Int) = (((ms[i]!).2[j]!).toNat : Int) from IntWalk.u32_in _ (by omega), bXor32 (by omega) (by omega)]
      have hx1 : (crcL c0 ((ms[i]!).2.take j) % 256) ^^^ ((ms[i]!).2[j]!).toNat < 2 ^ 32 := xor_lt (by omega) (by omega)
      refine single_spec hx1 ?_
      repeat (refine stp ?_)
      rewrite [bXor32 (by omega) (cstN_lt hx1), show (crcL c0 ((ms[i]!).2.take j) / 256) ^^^ cstN 8 ((crcL c0 ((ms[i]!).2.take j) % 256) ^^^ ((ms[i]!).2[j]!).toNat) = crcL c0 ((ms[i]!).2.take (j + 1)) from hs2.symm]
      exact ht_next () hjj trivial (fun _ s => s) (SubE.cons (by rw [IntWalk.i64_in _ (by omega)]; rfl) inferInstance) rfl rfl
    · have e : j = (ms[i]!).2.length := by omega
      subst e
      rewrite [List.take_length, ← hs1]
      repeat (refine stp ?_)
      exact ht_next () hii trivial (fun _ s => s) (SubE.cons (by rw [IntWalk.i64_in _ (by omega)]; rfl) inferInstance) rfl rfl
  · have e : i = ms.length := by omega
    subst e
    rewrite [List.take_length]
    have hlt : crcL ones (jn ms) < 2 ^ 32 := crcL_lt (by decide)
    repeat (refine stp ?_)
    have hx : bXor .u32 ((crcL ones (jn ms) : Nat) : Int) 4294967295 = ((sumB (jn ms) : Nat) : Int) := by
      have := bXor32 hlt (show ones < 2 ^ 32 by decide)
      rw [xor_ones hlt] at this; exact this
    rewrite [hx]
    exact ret1 rfl h
end Go.Proofs

set_option linter.all false
set_option synthInstance.maxSize 100000
set_option synthInstance.maxHeartbeats 400000
namespace Go.Proofs
open Go Go.SL
attribute [local irreducible] CCall CO CC CX CD

theorem fword_spec {L K} {n : Nat} (h : ∀ v, Ht (own encB 5 v (word4 n) :: L) (K v)) : Ht L (CCall Tryz.prog 114 [.int .u32 (n : Int)] K) := by
  refine ccall1 Tryz.func114 rfl (by decide) Tryz.ntmps114 (by rfl) (by decide) ?_
  repeat (refine stp ?_)
  rewrite [shr24, shr16, shr8, u8w, u8w, u8w, u8w]
  intro b
  repeat (refine stp ?_)
  refine Ht.own_lit encB (b := b) (n := 4) (xs := word4 n) rfl rfl (by decide) ?_
  exact ret1 rfl (h _)
theorem fnumber_spec {L K v} {bs : List UInt8} [rs : RdE L encB v bs] (hl : 4 ≤ bs.length) (h : Ht L (K (.int .u32 (num4 bs : Nat)))) : Ht L (CCall Tryz.prog 143 [v] K) := by
  haveI := rs.toS
  refine ccall1 Tryz.func143 rfl (by decide) Tryz.ntmps143 (by rfl) (by decide) ?_
  repeat (refine stp ?_)
  refine ht_draw Tryz.can143x1 Tryz.mixed (by kernel_rfl) ?_
  have h0 := (bs[0]!).toNat_lt
  have h1 := (bs[1]!).toNat_lt
  have h2 := (bs[2]!).toNat_lt
  have h3 := (bs[3]!).toNat_lt
  repeat (refine stp ?_)
  refine cd_index (xs := bs) (by omega) ?_
  intro b0 _
  repeat (refine stp ?_)
  refine cd_index (xs := bs) (by omega) ?_
  intro b1 _
  repeat (refine stp ?_)
  refine cd_index (xs := bs) (by omega) ?_
  intro b2 _
  repeat (refine stp ?_)
  refine cd_index (xs := bs) (by omega) ?_
  intro b3 _
  repeat (refine stp ?_)
  rewrite [u32b, u32b, u32b, u32b, show ((2 : Int) ^ min (Int.toNat 24) IntKind.u32.bits) = 16777216 from rfl, show ((2 : Int) ^ min 16 IntKind.u32.bits) = 65536 from rfl, show ((2 : Int) ^ min 8 IntKind.u32.bits) = 256 from rfl, or_4 h0 h1 h2 h3]
  exact ret1 rfl h
theorem Grow_spec {L K} {n : Nat} (hn : n ≤ 100000000) (h : ∀ v', Ht (own encB 5 v' [] :: L) (K v')) : Ht L (CCall Tryz.prog 138 [.slice none 0 0, .int .i64 (n : Int)] K) := by
  refine ccall2 Tryz.func138 rfl (by decide) Tryz.ntmps138 (by rfl) (by decide) ?_
  repeat (refine stp ?_)
  refine ht_if ?_ ?_ <;> intro h0 <;> simp only [decide_eq_true_eq, decide_eq_false_iff_not] at h0
  · omega
  repeat (refine stp ?_)
  rewrite [show IntKind.i64.wrap (((0 : Nat) : Int) - ((0 : Nat) : Int)) = 0 from rfl, show IntKind.i64.wrap ((n : Int) - 0) = (n : Int) from by rw [Int.sub_zero]; exact IntWalk.i64_in _ (by omega)]
  refine ht_if ?_ ?_ <;> intro h1 <;> simp only [decide_eq_true_eq, decide_eq_false_iff_not] at h1
  · haveI hnil : ∀ M : List HP, RdS M (.slice none 0 0) encB ([] : List UInt8) := fun M => ⟨fun _ _ => .inl ⟨rfl, rfl⟩⟩
    repeat (refine stp ?_)
    refine co_slice (e := encB) (xs := []) (by simp) ?_
    intro hs0
    repeat (refine stp ?_)
    refine co_append_zeros_far (e := encB) (xs := []) (m := n) (a := none) (n := 0) (c := 0) 0 rfl rfl (fun w s => .inl ⟨rfl, rfl⟩) (by omega) (by decide) (by simp; omega) (by rfl) (by simp; omega) (by simp; omega) ?_
    intro v1
    rewrite [List.nil_append]
    refine Ht.one1 (v := v1) ?_
    intro _
    repeat (refine stp ?_)
    refine co_slice (e := encB) (xs := List.replicate n 0) (by simp) ?_
    intro hs1
    repeat (refine stp ?_)
    refine Ht.conseq (L' := own encB 5 (slSub v1 1 0 0) [] :: L) ?_ (fun w s => by have := own_prefix (n := 0) (by simp) s; simpa using this)
    exact ret1 rfl (h _)
  · repeat (refine stp ?_)
    exact ret1 rfl (Ht.conseq (h (.slice none 0 0)) (fun w s => own_nil.2 s))
theorem Concat_spec {L K v} {ms : List SB} [rs : RdE L encY v (gsv ms)] (hm : ∀ x ∈ ms, RdE L encB (svY x.1) x.2) (hn : ms.length ≤ 1000000) (hj : (jn ms).length ≤ 100000000)
    (h : ∀ v', Ht (own encB 5 v' (jn ms) :: L) (K v')) : Ht L (CCall Tryz.prog 113 [v] K) := by
  haveI := rs.toS
  have hgm := gsv_len (ms := ms)
  have hpre : ∀ i, (jn (ms.take i)).length ≤ (jn ms).length := fun i => by
    have e : jn ms = jn (ms.take i) ++ jn (ms.drop i) := by
      unfold jn gby
      rw [← List.flatten_append, ← List.map_append, List.take_append_drop]
    rw [e, List.length_append]; omega
  refine ccall1 Tryz.func113 rfl (by decide) Tryz.ntmps113 (by rfl) (by decide) ?_
  repeat (refine stp ?_)
  refine ht_cutd (.exit 0) (ι := Unit) (fun _ => True) (fun _ => L) (fun _ => [(3, .int .i64 (jn ms).length), (2, .slice none 0 0), (0, v)]) ?_ ?_
  · intro Q' hQ
    refine ht_for ms.length (fun i (_ : Unit) => True) (fun _ _ => L) (fun i _ => [(11, .int .i64 i), (3, .int .i64 (jn (ms.take i)).length)]) () [11, 3] trivial (fun _ s => s) (SubE.cons rfl (SubE.cons rfl inferInstance)) ?_
    intro i _ hi _
    dsimp only [List.cons_append, List.nil_append]
    repeat (refine stp ?_)
    refine ht_if ?_ ?_ <;> intro h0 <;> simp only [decide_eq_true_eq, decide_eq_false_iff_not] at h0
    · have hii : i < ms.length := by omega
      have hmi := hm _ (List.mem_of_getElem? (getB hii))
      rw [← gsv_at hii] at hmi
      unfold svY at hmi
      refine Ht.know (p := ((gsv ms)[i]!).2.1 = (ms[i]!).2.length) (fun w t => slIn_len (s := (gsv ms)[i]!) (hmi.h w t)) (fun hsl => ?_)
      have hp1 := hpre (i + 1)
      rw [jn_take hii, List.length_append] at hp1
      repeat (refine stp ?_)
      refine co_index (by omega) ?_
      intro hb
      repeat (refine stp ?_)
      rewrite [hsl, show IntKind.i64.wrap (((jn (ms.take i)).length : Int) + ((ms[i]!).2.length : Int)) = ((jn (ms.take (i + 1))).length : Int) from by rw [jn_take hii, List.length_append, IntWalk.i64_in _ (by omega)]; omega]
      refine ht_if ?_ ?_ <;> intro h1 <;> simp only [decide_eq_true_eq, decide_eq_false_iff_not] at h1
      · omega
      repeat (refine stp ?_)
      exact ht_next () hii trivial (fun _ s => s) (SubE.cons (by rw [IntWalk.i64_in _ (by omega)]; rfl) inferInstance) rfl rfl
    · have e : i = ms.length := by omega
      subst e
      rewrite [List.take_length]
      repeat (refine stp ?_)
      exact cx_env inferInstance (hQ () trivial)
  intro _ _
  repeat (refine stp ?_)
  refine Grow_spec hj ?_
  intro v1
  refine Ht.one1 (v := v1) ?_
  intro _
  repeat (refine stp ?_)
  refine ht_for ms.length (fun i (_ : Value) => True) (fun i u => own encB 5 u (jn (ms.take i)) :: L) (fun i u => [(27, .int .i64 i), (6, u)]) v1 [27, 6] trivial (fun _ s => s) (SubE.cons rfl (SubE.cons rfl inferInstance)) ?_
  intro i u hi _
  dsimp only [List.cons_append, List.nil_append]
  haveI : RdS (own encB 5 u (jn (ms.take i)) :: L) v encY (gsv ms) := ⟨fun w s => rs.h w s.tail⟩
  repeat (refine stp ?_)
  refine ht_if ?_ ?_ <;> intro h0 <;> simp only [decide_eq_true_eq, decide_eq_false_iff_not] at h0
  · have hii : i < ms.length := by omega
    have hmi := hm _ (List.mem_of_getElem? (getB hii))
    rw [← gsv_at hii] at hmi
    unfold svY at hmi
    have hmx : ∀ (M : List HP) [fr : Frm M L], RdE M encB (.slice ((gsv ms)[i]!).1 ((gsv ms)[i]!).2.1 ((gsv ms)[i]!).2.2) (ms[i]!).2 := fun M fr => ⟨fun w t => hmi.h w (fr.h _ _ t)⟩
    have hp1 := hpre (i + 1)
    rw [jn_take hii, List.length_append] at hp1
    repeat (refine stp ?_)
    refine co_index (by omega) ?_
    intro hb
    repeat (refine stp ?_)
    refine co_append (e := encB) (xs := jn (ms.take i)) (ys := (ms[i]!).2) (by rfl) (by omega) (by omega) ?_
    intro u2
    refine Ht.one1 (v := u2) ?_
    intro _
    rewrite [← jn_take hii]
    repeat (refine stp ?_)
    exact ht_next u2 hii trivial (fun _ s => s) (SubE.cons (by rw [IntWalk.i64_in _ (by omega)]; rfl) inferInstance) rfl rfl
  · have e : i = ms.length := by omega
    subst e
    rewrite [List.take_length]
    repeat (refine stp ?_)
    exact ret1 rfl (h u)
def makeF (bs : List UInt8) : List UInt8 := word4 bs.length ++ bs ++ word4 (sumB (word4 bs.length ++ bs))
theorem Make_spec {L K v} {bs : List UInt8} [rs : RdE L encB v bs] (h1 : 1048568 < bs.length → Ht L (K (.tuple #[.slice none 0 0, .int .i64 2]))) (h2 : bs.length ≤ 1048568 → ∀ v', Ht (own encB 5 v' (makeF bs) :: L) (K (.tuple #[v', .int .i64 0]))) :
    Ht L (CCall Tryz.prog 93 [v] K) := by
  haveI := rs.toS
  have hrs : ∀ (M : List HP) [fr : Frm M L], RdE M encB v bs := fun M fr => ⟨fun w t => rs.h w (fr.h _ _ t)⟩
  refine ccall1 Tryz.func93 rfl (by decide) Tryz.ntmps93 (by rfl) (by decide) ?_
  repeat (refine stp ?_)
  refine ht_if ?_ ?_ <;> intro h0 <;> simp only [decide_eq_true_eq, decide_eq_false_iff_not] at h0
  · repeat (refine stp ?_)
    exact ret2 rfl (h1 (by omega))
  repeat (refine stp ?_)
  rewrite [show IntKind.u32.wrap (bs.length : Int) = (bs.length : Int) from IntWalk.u32_in _ (by omega)]
  refine fword_spec ?_
  intro sz
  refine Ht.know (p := (∃ sv : SVy, sz = svY sv) ∧ ∃ sb : SVy, v = svY sb) (fun w s => ⟨own_svY s, by obtain ⟨a, c, hv, _, _⟩ := sliceIn_of (rs.h w s.tail); exact ⟨(a, _, c), hv⟩⟩) (fun ⟨⟨sv, e1⟩, ⟨sb, e2⟩⟩ => ?_)
  subst e1
  subst e2
  refine Ht.one1 (v := svY sv) ?_
  intro _
  repeat (refine stp ?_)
  intro b1
  repeat (refine stp ?_)
  refine Ht.own_lit encY (b := b1) (n := 2) (xs := [sv, sb]) rfl rfl (by decide) ?_
  refine Sum_spec (ms := [(sv, word4 bs.length), (sb, bs)]) ?_ ?_
  · intro x hx
    rcases List.mem_cons.1 hx with e | hx
    · subst e; infer_instance
    · rw [List.mem_singleton.1 hx]; exact hrs _
  repeat (refine stp ?_)
  refine fword_spec ?_
  intro wv
  refine Ht.know (p := ∃ sv : SVy, wv = svY sv) (fun w s => own_svY s) (fun ⟨sw, e3⟩ => ?_)
  subst e3
  refine Ht.one1 (v := svY sw) ?_
  intro _
  repeat (refine stp ?_)
  intro b2
  repeat (refine stp ?_)
  refine Ht.own_lit encY (b := b2) (n := 3) (xs := [sv, sb, sw]) rfl rfl (by decide) ?_
  have hw4 : ∀ n, (word4 n).length = 4 := fun _ => rfl
  refine Concat_spec (ms := [(sv, word4 bs.length), (sb, bs), (sw, word4 (sumB (jn [(sv, word4 bs.length), (sb, bs)])))]) ?_ (by simp) (by simp [jn, gby, hw4]; omega) ?_
  · intro x hx
    rcases List.mem_cons.1 hx with e | hx
    · subst e; infer_instance
    rcases List.mem_cons.1 hx with e | hx
    · subst e; exact hrs _
    · rw [List.mem_singleton.1 hx]; infer_instance
  intro v1
  repeat (refine stp ?_)
  have e : jn [(sv, word4 bs.length), (sb, bs), (sw, word4 (sumB (jn [(sv, word4 bs.length), (sb, bs)])))] = makeF bs := by simp [jn, gby, makeF]
  rewrite [e]
  exact ret2 rfl (Ht.frm (h2 (by omega) v1))
end Go.Proofs

set_option linter.all false
namespace Go.SL
open Go
section sl
variable {P : Program} {ρ : Option Nat} {N : Nat} {D : List Deferred} {E : List (Nat × Value)} {L L' : List HP} {Q : Exit → Act → World → Prop} {ops : Array Oper} {rest : List Oper}
  {d : Nat} {op : Op} {ty : TypeId} {pos : String} {af : Array Edge}
/-- 'x[l:h:m]' -/
theorem run_slice3L {T el : TypeId} {k b : Nat} {z : Value} (td : P.underlying T = some (.slice el)) (ti : TyI P el k b z) {a : Option Addr} {n c : Nat} {k0 k1 k2 : IntKind} {l h m : Int}
    (h1 : 0 ≤ l ∧ l ≤ h ∧ h ≤ m ∧ m ≤ c) (w : World) : (Instr.slice T (.slice a n c) (some (.int k0 l)) (some (.int k1 h)) (some (.int k2 m))).run P w = .ok (slSub3 (.slice a n c) k l.toNat h.toNat m.toNat) w := by
  have e1 : ∀ cd, (Instr.sliceBound (.int k2 m) c cd).run P w = .ok m.toNat w := fun cd => run_bound rfl (by omega) w
  have e2 : ∀ cd, (Instr.sliceBound (.int k1 h) m.toNat cd).run P w = .ok h.toNat w := fun cd => run_bound rfl (by omega) w
  have e3 : ∀ cd, (Instr.sliceBound (.int k0 l) h.toNat cd).run P w = .ok l.toNat w := fun cd => run_bound rfl (by omega) w
  unfold Instr.slice Instr.sliceBounds
  simp only [Sem.run_bind, run_und td, Result.andThen, Sem.run_pure]
  simp [Sem.run_bind, Result.andThen, run_size ti, slSub3, e1, e2, e3]
theorem slSub3_inL {w : World} {v : Value} {α : Type} {e : Enc α} {xs : List α} (h : SlIn w v e xs) {lo hi m : Nat} (hs : lo ≤ hi ∧ hi ≤ m ∧ m ≤ xs.length) : SlIn w (slSub3 v e.k lo hi m) e ((xs.take hi).drop lo) := by
  rcases h with ⟨hv, hx⟩ | ⟨a, cap, hv, h1, h2, h3⟩
  · subst hv; subst hx
    simp at hs
    obtain ⟨rfl, rfl, rfl⟩ : lo = 0 ∧ hi = 0 ∧ m = 0 := by omega
    exact .inl ⟨by simp [slSub3], by simp⟩
  · subst hv
    have hl : ((xs.take hi).drop lo).length = hi - lo := by simp; omega
    refine .inr ⟨if m = lo then a else a.add (lo * e.k), m - lo, ?_, by omega, by omega, fun i x hx j u hu => ?_⟩
    · simp only [slSub3]
      by_cases hc : m = lo
      · simp [hc]; omega
      · simp [hc]; omega
    · rw [List.getElem?_drop, List.getElem?_take] at hx
      split at hx
      · rename_i hlt
        rw [if_neg (by omega), add_add, show lo * e.k + (i * e.k + j) = (lo + i) * e.k + j from by rw [Nat.add_mul]; omega]
        exact h3 _ _ hx j u hu
      · cases hx
theorem co_slice3L {T el : TypeId} {x lo hi mx : Operand} {v : Value} {k0 k1 k2 : IntKind} {l h m : Int} {n0 n1 n2 : Nat} {α : Type} {e : Enc α} {xs : List α} {k b : Nat} {z : Value}
    [td : TyD P T (.slice el)] [ti : TyI P el k b z] [ex : Ev E x v] [evl : Ev E lo (.int k0 l)] [evh : Ev E hi (.int k1 h)] [evm : Ev E mx (.int k2 m)] [rs : RdS L v e xs] [t0 : ToNat l n0] [tm : ToNat h n1] [tn : ToNat m n2]
    (hb : 0 ≤ l ∧ l ≤ h ∧ h ≤ m ∧ m ≤ xs.length) (hh : Ht L (CO P ρ N D ((d, slSub3 v k n0 n1 n2) :: E) ops rest Q)) :
    Ht L (CO P ρ N D E ops (⟨some d, .slice T x (some lo) (some hi) (some mx), ty, pos, af, none⟩ :: rest) Q) :=
  co_val (fun a w r s => ⟨w, by
    obtain ⟨ad, c, hvv, h1, h2⟩ := sliceIn_of (rs.h w s)
    have e0 := t0.h
    have e1 := tm.h
    have e2 := tn.h
    subst e0; subst e1; subst e2; subst hvv
    have := run_slice3L (P := P) td.h ti (a := ad) (n := xs.length) (c := c) (k0 := k0) (k1 := k1) (k2 := k2) (l := l) (h := h) (m := m) ⟨hb.1, hb.2.1, hb.2.2.1, by omega⟩ w
    simp only [execOp, Instr.sliceAt, Sem.run_bind, run_und td.h, Result.andThen, ex.h N D a r, evl.h N D a r, evh.h N D a r, evm.h N D a r, Option.map_some, this, Sem.run_pure], s⟩)
    hh
end sl
end Go.SL

set_option linter.all false
set_option synthInstance.maxSize 100000
set_option synthInstance.maxHeartbeats 400000
namespace Go.Proofs
open Go Go.SL
attribute [local irreducible] CCall CO CC CX CD

/-- what is wrong with the first frame -/
def errF (b : List UInt8) : Int :=
  if b.length < 8 then 12 else if 1048568 < num4 b then 2 else if b.length < num4 b + 8 then 12 else if sumB (b.take (num4 b + 4)) ≠ num4 (b.drop (num4 b + 4)) then 11 else 0
def bodyF (b : List UInt8) : List UInt8 := if errF b = 0 then (b.take (num4 b + 4)).drop 4 else []
def sizeF (b : List UInt8) : Nat := if errF b = 0 then num4 b + 8 else 0
theorem cut_spec' {L K} {sa : Option Addr} {sc : Nat} {bs : List UInt8} [rs : RdE L encB (.slice sa bs.length sc) bs]
    (h : ∀ sv : SVy, RdE L encB (svY sv) (bodyF bs) → Ht L (K (.tuple #[svY sv, .int .i64 (sizeF bs : Nat), .int .i64 (errF bs)]))) :
    Ht L (CCall Tryz.prog 125 [.slice sa bs.length sc] K) := by
  haveI := rs.toS
  have hrs : ∀ (M : List HP) [fr : Frm M L], RdE M encB (.slice sa bs.length sc) bs := fun M fr => ⟨fun w t => rs.h w (fr.h _ _ t)⟩
  have hn4 := num4_lt bs
  have hbad : ∀ x : Int, errF bs = x → x ≠ 0 → Ht L (K (.tuple #[.slice none 0 0, .int .i64 0, .int .i64 x])) := fun x e hx => by
    have h2 := h (none, 0, 0) (by unfold bodyF; rw [if_neg (by rw [e]; exact hx)]; exact ⟨fun _ _ => .inl ⟨rfl, rfl⟩⟩)
    unfold sizeF at h2
    rw [if_neg (by rw [e]; exact hx), e] at h2
    exact h2
  refine ccall1 Tryz.func125 rfl (by decide) Tryz.ntmps125 (by rfl) (by decide) ?_
  repeat (refine stp ?_)
  refine ht_if ?_ ?_ <;> intro h0 <;> simp only [decide_eq_true_eq, decide_eq_false_iff_not] at h0
  · repeat (refine stp ?_)
    exact ret3 rfl (hbad 12 (by unfold errF; rw [if_pos (by omega)]) (by decide))
  repeat (refine stp ?_)
  refine fnumber_spec (bs := bs) (by omega) ?_
  repeat (refine stp ?_)
  refine ht_if ?_ ?_ <;> intro h1 <;> simp only [decide_eq_true_eq, decide_eq_false_iff_not] at h1
  · repeat (refine stp ?_)
    exact ret3 rfl (hbad 2 (by unfold errF; rw [if_neg (by omega), if_pos (by omega)]) (by decide))
  repeat (refine stp ?_)
  rewrite [show IntKind.i64.wrap ((num4 bs : Nat) : Int) = ((num4 bs : Nat) : Int) from IntWalk.i64_in _ (by omega), show IntKind.i64.wrap (((num4 bs : Nat) : Int) + 8) = ((num4 bs : Nat) : Int) + 8 from IntWalk.i64_in _ (by omega)]
  refine ht_if ?_ ?_ <;> intro h2 <;> simp only [decide_eq_true_eq, decide_eq_false_iff_not] at h2
  · repeat (refine stp ?_)
    exact ret3 rfl (hbad 12 (by unfold errF; rw [if_neg (by omega), if_neg (by omega), if_pos (by omega)]) (by decide))
  have he : errF bs = if sumB (bs.take (num4 bs + 4)) ≠ num4 (bs.drop (num4 bs + 4)) then 11 else 0 := by
    unfold errF; rw [if_neg (by omega), if_neg (by omega), if_neg (by omega)]
  have hw : IntKind.i64.wrap (((num4 bs : Nat) : Int) + 8 - 4) = ((num4 bs + 4 : Nat) : Int) := by rw [IntWalk.i64_in _ (by omega)]; omega
  haveI tn : ToNat (IntKind.i64.wrap (((num4 bs : Nat) : Int) + 8 - 4)) (num4 bs + 4) := ⟨by rw [hw]; omega⟩
  repeat (refine stp ?_)
  refine ht_draw Tryz.can125x9 Tryz.mixed (by kernel_rfl) ?_
  repeat (refine stp ?_)
  refine cd_slice (xs := bs) (by rw [hw]; omega) ?_
  intro hs1 _
  repeat (refine stp ?_)
  refine cd_slice (xs := bs) (by rw [hw]; omega) ?_
  intro hs2 _
  repeat (refine stp ?_)
  have hr1 : ∀ (M : List HP) [fr : Frm M L], RdE M encB (slSub (.slice sa bs.length sc) 1 0 (num4 bs + 4)) (bs.take (num4 bs + 4)) := fun M fr => ⟨fun w t => by
    have := slSub_in (rs.h w (fr.h _ _ t)) (lo := 0) (hi := num4 bs + 4) ⟨by omega, by omega⟩
    rw [List.drop_zero] at this; exact this⟩
  have hr2 : ∀ (M : List HP) [fr : Frm M L], RdE M encB (slSub (.slice sa bs.length sc) 1 (num4 bs + 4) bs.length) (bs.drop (num4 bs + 4)) := fun M fr => ⟨fun w t => by
    have := slSub_in (rs.h w (fr.h _ _ t)) (lo := num4 bs + 4) (hi := bs.length) ⟨by omega, by omega⟩
    rw [List.take_length] at this; exact this⟩
  haveI o1 : One1 (slSub (.slice sa bs.length sc) 1 0 (num4 bs + 4)) := ⟨rfl⟩
  haveI o2 : One1 (slSub (.slice sa bs.length sc) 1 (num4 bs + 4) bs.length) := ⟨rfl⟩
  haveI o3 : One1 (slSub3 (.slice sa bs.length sc) 1 4 (num4 bs + 4) (num4 bs + 4)) := ⟨rfl⟩
  repeat (refine stp ?_)
  intro b1
  repeat (refine stp ?_)
  refine Ht.own_lit encY (b := b1) (n := 1) (xs := [(if sc = 0 then sa else sa.map (·.add (0 * 1)), num4 bs + 4 - 0, sc - 0)]) rfl rfl (by decide) ?_
  refine Sum_spec (ms := [((if sc = 0 then sa else sa.map (·.add (0 * 1)), num4 bs + 4 - 0, sc - 0), bs.take (num4 bs + 4))]) ?_ ?_
  · intro x hx
    rw [List.mem_singleton.1 hx]; exact hr1 _
  repeat (refine stp ?_)
  refine fnumber_spec (bs := bs.drop (num4 bs + 4)) (by simp; omega) ?_
  repeat (refine stp ?_)
  rewrite [show jn [((if sc = 0 then sa else sa.map (·.add (0 * 1)), num4 bs + 4 - 0, sc - 0), bs.take (num4 bs + 4))] = bs.take (num4 bs + 4) from by simp [jn, gby]]
  refine ht_if ?_ ?_ <;> intro h3 <;> simp only [decide_eq_true_eq, decide_eq_false_iff_not] at h3
  · repeat (refine stp ?_)
    exact ret3 rfl (Ht.frm (hbad 11 (by rw [he, if_pos (by omega)]) (by decide)))
  have he0 : errF bs = 0 := by rw [he, if_neg (by omega)]
  repeat (refine stp ?_)
  refine co_slice3L (xs := bs) (by rw [hw]; omega) ?_
  repeat (refine stp ?_)
  have hr3 : ∀ w, Sat L w → SlIn w (slSub3 (.slice sa bs.length sc) 1 4 (num4 bs + 4) (num4 bs + 4)) encB (bodyF bs) := fun w t => by
    have := slSub3_inL (rs.h w t) (lo := 4) (hi := num4 bs + 4) (m := num4 bs + 4) ⟨by omega, by omega, by omega⟩
    unfold bodyF; rw [if_pos he0]; exact this
  refine Ht.know (p := ∃ sv : SVy, slSub3 (.slice sa bs.length sc) 1 4 (num4 bs + 4) (num4 bs + 4) = svY sv) (fun w t => ?_) (fun ⟨sv, e⟩ => ?_)
  · obtain ⟨a, c, hv, _, _⟩ := sliceIn_of (hr3 w ((inferInstance : Frm _ L).h _ _ t))
    exact ⟨(a, _, c), hv⟩
  rw [e] at hr3
  rewrite [e]
  have h4 := h sv ⟨hr3⟩
  unfold sizeF at h4
  rw [if_pos he0, he0] at h4
  exact ret3 rfl (Ht.frm h4)
theorem FNext_spec {L K v} {bs : List UInt8} [rs : RdE L encB v bs] (h : ∀ v', Ht (own encB 5 v' (bodyF bs) :: L) (K (.tuple #[v', .int .i64 (sizeF bs : Nat), .int .i64 (errF bs)]))) :
    Ht L (CCall Tryz.prog 103 [v] K) := by
  refine Ht.know (p := (∃ sa sc, v = .slice sa bs.length sc) ∧ bs.length ≤ 9223372036854775807) (fun w s => ⟨by obtain ⟨a, c, hv, _, _⟩ := sliceIn_of (rs.h w s); exact ⟨a, c, hv⟩, (rs.h w s).le⟩) (fun ⟨⟨sa, sc, e⟩, hbl⟩ => ?_)
  subst e
  have hbl2 : (bodyF bs).length ≤ 1048576 := by
    by_cases he : errF bs = 0
    · have h9 : num4 bs ≤ 1048568 := by
        unfold errF at he
        by_cases h8 : bs.length < 8
        · rw [if_pos h8] at he; cases he
        rw [if_neg h8] at he
        by_cases h9 : 1048568 < num4 bs
        · rw [if_pos h9] at he; cases he
        · omega
      unfold bodyF
      rw [if_pos he, List.length_drop, List.length_take]; omega
    · unfold bodyF; rw [if_neg he]; simp
  refine ccall1 Tryz.func103 rfl (by decide) Tryz.ntmps103 (by rfl) (by decide) ?_
  repeat (refine stp ?_)
  refine cut_spec' (bs := bs) fun sv hsv => ?_
  haveI := hsv
  repeat (refine stp ?_)
  refine yClone_spec (xs := bodyF bs) (by omega) ?_
  intro v1
  refine Ht.one1 (v := v1) ?_
  intro _
  repeat (refine stp ?_)
  exact ret3 rfl (h v1)
def openE (bs : List UInt8) : Int := if errF bs ≠ 0 then errF bs else if sizeF bs < bs.length then 3 else 0
def openB (bs : List UInt8) : List UInt8 := if openE bs = 0 then bodyF bs else []
theorem Open_spec {L K v} {bs : List UInt8} [rs : RdE L encB v bs] (h : ∀ v', Ht (own encB 5 v' (openB bs) :: L) (K (.tuple #[v', .int .i64 (openE bs)]))) :
    Ht L (CCall Tryz.prog 81 [v] K) := by
  haveI := rs.toS
  have hrs : ∀ (M : List HP) [fr : Frm M L], RdS M v encB bs := fun M fr => ⟨fun w t => rs.h w (fr.h _ _ t)⟩
  have hbad : ∀ x : Int, openE bs = x → x ≠ 0 → Ht L (K (.tuple #[.slice none 0 0, .int .i64 x])) := fun x e hx => by
    have h2 := h (.slice none 0 0)
    unfold openB at h2
    rw [if_neg (by rw [e]; exact hx), e] at h2
    exact Ht.conseq h2 (fun w s => own_nil.2 s)
  refine ccall1 Tryz.func81 rfl (by decide) Tryz.ntmps81 (by rfl) (by decide) ?_
  repeat (refine stp ?_)
  refine FNext_spec (bs := bs) fun v1 => ?_
  refine Ht.one1 (v := v1) ?_
  intro _
  repeat (refine stp ?_)
  refine ht_if ?_ ?_ <;> intro h0 <;> simp only [decide_eq_true_eq, decide_eq_false_iff_not] at h0
  · repeat (refine stp ?_)
    exact ret2 rfl (Ht.frm (hbad _ (by unfold openE; rw [if_pos h0]) h0))
  repeat (refine stp ?_)
  refine ht_if ?_ ?_ <;> intro h1 <;> simp only [decide_eq_true_eq, decide_eq_false_iff_not] at h1
  · repeat (refine stp ?_)
    exact ret2 rfl (Ht.frm (hbad 3 (by unfold openE; rw [if_neg h0, if_pos (by omega)]) (by decide)))
  have e0 : openE bs = 0 := by unfold openE; rw [if_neg h0, if_neg (by omega)]
  have h2 := h v1
  unfold openB at h2
  rw [if_pos e0, e0] at h2
  repeat (refine stp ?_)
  exact ret2 rfl h2
end Go.Proofs

set_option linter.all false
set_option synthInstance.maxSize 100000
set_option synthInstance.maxHeartbeats 400000
namespace Go.Proofs
open Go Go.SL
attribute [local irreducible] CCall CO CC CX CD

theorem tmod_nat (a b : Nat) : Int.tmod (a : Int) (b : Int) = ((a % b : Nat) : Int) := by
  rw [Int.tmod_eq_emod_of_nonneg (by omega)]; rfl
theorem tdiv_nat (a b : Nat) : Int.tdiv (a : Int) (b : Int) = ((a / b : Nat) : Int) := by
  rw [Int.tdiv_eq_ediv_of_nonneg (by omega)]; rfl
theorem Sum06_spec {L K v} {bs : List UInt8} [rs : RdE L encB v bs] (h : Ht L (K (.int .i64 (sumB bs : Nat)))) : Ht L (CCall Tryz.prog 74 [v] K) := by
  haveI := rs.toS
  haveI : NZ 2 := ⟨by decide⟩
  refine Ht.know (p := bs.length ≤ 9223372036854775807) (fun w s => (rs.h w s).le) (fun hbl => ?_)
  refine ccall1 Tryz.func74 rfl (by decide) Tryz.ntmps74 (by rfl) (by decide) ?_
  repeat (refine stp ?_)
  refine ht_for bs.length (fun i (_ : Unit) => True) (fun _ _ => L) (fun i _ => [(4, .int .i64 i), (3, .int .i64 (crcL ones (bs.take i) : Nat))]) () [4, 3] trivial (fun _ s => s) (SubE.cons rfl (SubE.cons rfl inferInstance)) ?_
  intro i _ hi _
  dsimp only [List.cons_append, List.nil_append]
  have hci : crcL ones (bs.take i) < 2 ^ 32 := crcL_lt (by decide)
  repeat (refine stp ?_)
  refine ht_if ?_ ?_ <;> intro h0 <;> simp only [decide_eq_true_eq, decide_eq_false_iff_not] at h0
  · have hii : i < bs.length := by omega
    have hs := crcL_succ (c := ones) hii
    have hbt := (bs[i]!).toNat_lt
    repeat (refine stp ?_)
    refine co_index (xs := bs) (by omega) ?_
    intro hb
    repeat (refine stp ?_)
    rewrite [show IntKind.i64.wrap ((bs[i]!).toNat : Int) = ((bs[i]!).toNat : Int) from IntWalk.i64_in _ (by omega)]
    generalize hc0 : crcL ones (bs.take i) = c0 at hci hs ⊢
    generalize (bs[i]!).toNat = d0 at hs hbt ⊢
    refine ht_for 8 (fun k (_ : Unit) => True) (fun _ _ => L) (fun k _ => [(6, .int .i64 k), (3, .int .i64 ((refN k (c0, d0)).1 : Nat)), (5, .int .i64 ((refN k (c0, d0)).2 : Nat))]) () [6, 3, 5] trivial (fun _ s => s) (SubE.cons rfl (SubE.cons rfl (SubE.cons rfl inferInstance))) ?_
    intro k _ hk _
    dsimp only [List.cons_append, List.nil_append]
    have hl1 : (refN k (c0, d0)).1 < 2 ^ 32 := refN_lt hci
    have hl2 : (refN k (c0, d0)).2 < 256 := by rw [refN_snd]; exact Nat.lt_of_le_of_lt (Nat.div_le_self _ _) hbt
    repeat (refine stp ?_)
    refine ht_if ?_ ?_ <;> intro h1 <;> simp only [decide_eq_true_eq, decide_eq_false_iff_not] at h1
    · have hsn := refN_succ k (c0, d0)
      unfold refS at hsn
      repeat (refine stp ?_)
      generalize hp : refN k (c0, d0) = q at hl1 hl2 hsn ⊢
      have m1 : Int.tmod (q.1 : Int) 2 = ((q.1 % 2 : Nat) : Int) := tmod_nat q.1 2
      have m2 : Int.tmod (q.2 : Int) 2 = ((q.2 % 2 : Nat) : Int) := tmod_nat q.2 2
      have t1 : IntKind.i64.wrap (Int.tdiv (q.1 : Int) 2) = ((q.1 / 2 : Nat) : Int) := by rw [show Int.tdiv (q.1 : Int) 2 = ((q.1 / 2 : Nat) : Int) from tdiv_nat q.1 2]; exact IntWalk.i64_in _ (by omega)
      have t2 : IntKind.i64.wrap (Int.tdiv (q.2 : Int) 2) = ((q.2 / 2 : Nat) : Int) := by rw [show Int.tdiv (q.2 : Int) 2 = ((q.2 / 2 : Nat) : Int) from tdiv_nat q.2 2]; exact IntWalk.i64_in _ (by omega)
      rewrite [m1, m2, t1, t2]
      refine ht_if ?_ ?_ <;> intro h2 <;> simp only [decide_eq_true_eq, decide_eq_false_iff_not] at h2
      · have e1 : refN (k + 1) (c0, d0) = ((q.1 / 2) ^^^ poly, q.2 / 2) := by rw [hsn, if_pos (by omega)]
        repeat (refine stp ?_)
        have hx : bXor .i64 ((q.1 / 2 : Nat) : Int) 3988292384 = (((q.1 / 2) ^^^ poly : Nat) : Int) := bXor64 (by omega) poly_lt
        rewrite [hx]
        refine ht_next () (by omega) trivial (fun _ s => s) ?_ rfl rfl
        rw [e1]
        exact SubE.cons (by rw [IntWalk.i64_in _ (by omega)]; rfl) (SubE.cons rfl (SubE.cons rfl inferInstance))
      · have e1 : refN (k + 1) (c0, d0) = (q.1 / 2, q.2 / 2) := by rw [hsn, if_neg (by omega)]
        repeat (refine stp ?_)
        refine ht_next () (by omega) trivial (fun _ s => s) ?_ rfl rfl
        rw [e1]
        exact SubE.cons (by rw [IntWalk.i64_in _ (by omega)]; rfl) (SubE.cons rfl (SubE.cons rfl inferInstance))
    · have e : k = 8 := by omega
      subst e
      rewrite [ref8 c0 d0 hbt, ← hs]
      repeat (refine stp ?_)
      exact ht_next () hii trivial (fun _ s => s) (SubE.cons (by rw [IntWalk.i64_in _ (by omega)]; rfl) inferInstance) rfl rfl
  · have e : i = bs.length := by omega
    subst e
    rewrite [List.take_length] at hci
    rewrite [List.take_length]
    repeat (refine stp ?_)
    have hx : IntKind.i64.wrap (4294967295 - ((crcL ones bs : Nat) : Int)) = ((sumB bs : Nat) : Int) := by
      rw [IntWalk.i64_in _ (by omega)]; unfold sumB ones at *; omega
    rewrite [hx]
    exact ret1 rfl h
theorem num06 {a b c d : Nat} (ha : a < 256) (hb : b < 256) (hc : c < 256) (hd : d < 256) : IntKind.i64.wrap (IntKind.i64.wrap (IntKind.i64.wrap (IntKind.i64.wrap (IntKind.i64.wrap (IntKind.i64.wrap ((a : Int) * 256) + (b : Int)) * 256) + (c : Int)) * 256) + (d : Int)) = ((a * 16777216 + b * 65536 + c * 256 + d : Nat) : Int) := by
  have e1 : IntKind.i64.wrap ((a : Int) * 256) = ((a * 256 : Nat) : Int) := by rw [IntWalk.i64_in _ (by omega)]; omega
  have e2 : IntKind.i64.wrap (((a * 256 : Nat) : Int) + (b : Int)) = ((a * 256 + b : Nat) : Int) := by rw [IntWalk.i64_in _ (by omega)]; omega
  have e3 : IntKind.i64.wrap (((a * 256 + b : Nat) : Int) * 256) = (((a * 256 + b) * 256 : Nat) : Int) := by rw [IntWalk.i64_in _ (by omega)]; omega
  have e4 : IntKind.i64.wrap ((((a * 256 + b) * 256 : Nat) : Int) + (c : Int)) = (((a * 256 + b) * 256 + c : Nat) : Int) := by rw [IntWalk.i64_in _ (by omega)]; omega
  have e5 : IntKind.i64.wrap ((((a * 256 + b) * 256 + c : Nat) : Int) * 256) = ((((a * 256 + b) * 256 + c) * 256 : Nat) : Int) := by rw [IntWalk.i64_in _ (by omega)]; omega
  rw [e1, e2, e3, e4, e5, IntWalk.i64_in _ (by omega)]
  omega
theorem number06_spec {L K v} {bs : List UInt8} [rs : RdE L encB v bs] (hl : 4 ≤ bs.length) (h : Ht L (K (.int .i64 (num4 bs : Nat)))) : Ht L (CCall Tryz.prog 73 [v] K) := by
  haveI := rs.toS
  refine ccall1 Tryz.func73 rfl (by decide) Tryz.ntmps73 (by rfl) (by decide) ?_
  repeat (refine stp ?_)
  refine ht_draw Tryz.can73x1 Tryz.mixed (by kernel_rfl) ?_
  have h0 := (bs[0]!).toNat_lt
  have h1 := (bs[1]!).toNat_lt
  have h2 := (bs[2]!).toNat_lt
  have h3 := (bs[3]!).toNat_lt
  repeat (refine stp ?_)
  refine cd_index (xs := bs) (by omega) ?_
  intro b0 _
  repeat (refine stp ?_)
  refine cd_index (xs := bs) (by omega) ?_
  intro b1 _
  repeat (refine stp ?_)
  refine cd_index (xs := bs) (by omega) ?_
  intro b2 _
  repeat (refine stp ?_)
  refine cd_index (xs := bs) (by omega) ?_
  intro b3 _
  repeat (refine stp ?_)
  have hw : ∀ z : UInt8, IntKind.i64.wrap (z.toNat : Int) = (z.toNat : Int) := fun z => IntWalk.i64_in _ (by have := z.toNat_lt; omega)
  rewrite [hw, hw, hw, hw]
  have e : IntKind.i64.wrap (IntKind.i64.wrap (IntKind.i64.wrap (IntKind.i64.wrap (IntKind.i64.wrap (IntKind.i64.wrap (((bs[0]!).toNat : Int) * 256) + ((bs[1]!).toNat : Int)) * 256) + ((bs[2]!).toNat : Int)) * 256) + ((bs[3]!).toNat : Int)) = ((num4 bs : Nat) : Int) := by
    exact num06 h0 h1 h2 h3
  rewrite [e]
  exact ret1 rfl h
theorem FNext06_sub {L K} {sa : Option Addr} {sc : Nat} {bs : List UInt8} [rs : RdE L encB (.slice sa bs.length sc) bs]
    (h : ∀ sv : SVy, (∀ w, SlIn w (.slice sa bs.length sc) encB bs → SlIn w (svY sv) encB (bodyF bs)) → Ht L (K (.tuple #[svY sv, .int .i64 (sizeF bs : Nat), .int .i64 (errF bs)]))) :
    Ht L (CCall Tryz.prog 47 [.slice sa bs.length sc] K) := by
  haveI := rs.toS
  have hrs : ∀ (M : List HP) [fr : Frm M L], RdE M encB (.slice sa bs.length sc) bs := fun M fr => ⟨fun w t => rs.h w (fr.h _ _ t)⟩
  have hn4 := num4_lt bs
  have hbad : ∀ x : Int, errF bs = x → x ≠ 0 → Ht L (K (.tuple #[.slice none 0 0, .int .i64 0, .int .i64 x])) := fun x e hx => by
    have h2 := h (none, 0, 0) (by unfold bodyF; rw [if_neg (by rw [e]; exact hx)]; exact fun _ _ => .inl ⟨rfl, rfl⟩)
    unfold sizeF at h2
    rw [if_neg (by rw [e]; exact hx), e] at h2
    exact h2
  refine ccall1 Tryz.func47 rfl (by decide) Tryz.ntmps47 (by rfl) (by decide) ?_
  repeat (refine stp ?_)
  refine ht_if ?_ ?_ <;> intro h0 <;> simp only [decide_eq_true_eq, decide_eq_false_iff_not] at h0
  · repeat (refine stp ?_)
    exact ret3 rfl (hbad 12 (by unfold errF; rw [if_pos (by omega)]) (by decide))
  repeat (refine stp ?_)
  refine co_slice (xs := bs) (by omega) ?_
  intro hs0
  have hr0 : ∀ (M : List HP) [fr : Frm M L], RdE M encB (slSub (.slice sa bs.length sc) 1 0 4) (bs.take 4) := fun M fr => ⟨fun w t => by
    have := slSub_in (rs.h w (fr.h _ _ t)) (lo := 0) (hi := 4) ⟨by omega, by omega⟩
    rw [List.drop_zero] at this; exact this⟩
  have hn5 : num4 (bs.take 4) = num4 bs := by
    unfold num4
    rw [getElem!_pos (bs.take 4) 0 (by simp; omega), getElem!_pos (bs.take 4) 1 (by simp; omega), getElem!_pos (bs.take 4) 2 (by simp; omega), getElem!_pos (bs.take 4) 3 (by simp; omega), getElem!_pos bs 0 (by omega), getElem!_pos bs 1 (by omega), getElem!_pos bs 2 (by omega), getElem!_pos bs 3 (by omega)]
    simp only [List.getElem_take]
  repeat (refine stp ?_)
  refine number06_spec (bs := bs.take 4) (by simp; omega) ?_
  rewrite [hn5]
  repeat (refine stp ?_)
  refine ht_if ?_ ?_ <;> intro h1 <;> simp only [decide_eq_true_eq, decide_eq_false_iff_not] at h1
  · repeat (refine stp ?_)
    exact ret3 rfl (hbad 2 (by unfold errF; rw [if_neg (by omega), if_pos (by omega)]) (by decide))
  have hw8 : IntKind.i64.wrap (((num4 bs : Nat) : Int) + 8) = ((num4 bs + 8 : Nat) : Int) := by rw [IntWalk.i64_in _ (by omega)]; omega
  have hw4 : IntKind.i64.wrap (((num4 bs : Nat) : Int) + 4) = ((num4 bs + 4 : Nat) : Int) := by rw [IntWalk.i64_in _ (by omega)]; omega
  repeat (refine stp ?_)
  refine ht_if ?_ ?_ <;> intro h2 <;> simp only [decide_eq_true_eq, decide_eq_false_iff_not, hw8] at h2
  · repeat (refine stp ?_)
    exact ret3 rfl (hbad 12 (by unfold errF; rw [if_neg (by omega), if_neg (by omega), if_pos (by omega)]) (by decide))
  have he : errF bs = if sumB (bs.take (num4 bs + 4)) ≠ num4 (bs.drop (num4 bs + 4)) then 11 else 0 := by
    unfold errF; rw [if_neg (by omega), if_neg (by omega), if_neg (by omega)]
  haveI tn4 : ToNat (IntKind.i64.wrap (((num4 bs : Nat) : Int) + 4)) (num4 bs + 4) := ⟨by rw [hw4]; omega⟩
  haveI tn8 : ToNat (IntKind.i64.wrap (((num4 bs : Nat) : Int) + 8)) (num4 bs + 8) := ⟨by rw [hw8]; omega⟩
  repeat (refine stp ?_)
  refine ht_draw Tryz.can47x8 Tryz.mixed (by kernel_rfl) ?_
  repeat (refine stp ?_)
  refine cd_slice (xs := bs) (by rw [hw4]; omega) ?_
  intro hs1 _
  repeat (refine stp ?_)
  refine cd_slice (xs := bs) (by rw [hw4, hw8]; omega) ?_
  intro hs2 _
  have hr1 : ∀ (M : List HP) [fr : Frm M L], RdE M encB (slSub (.slice sa bs.length sc) 1 0 (num4 bs + 4)) (bs.take (num4 bs + 4)) := fun M fr => ⟨fun w t => by
    have := slSub_in (rs.h w (fr.h _ _ t)) (lo := 0) (hi := num4 bs + 4) ⟨by omega, by omega⟩
    rw [List.drop_zero] at this; exact this⟩
  have hr2 : ∀ (M : List HP) [fr : Frm M L], RdE M encB (slSub (.slice sa bs.length sc) 1 (num4 bs + 4) (num4 bs + 8)) ((bs.take (num4 bs + 8)).drop (num4 bs + 4)) := fun M fr => ⟨fun w t => slSub_in (rs.h w (fr.h _ _ t)) (lo := num4 bs + 4) (hi := num4 bs + 8) ⟨by omega, by omega⟩⟩
  have hl5 : 4 ≤ ((bs.take (num4 bs + 8)).drop (num4 bs + 4)).length := by
    clear hr1 hr2 hrs hbad tn4 tn8 hs1 hs2 he hw4 hw8 h rs
    generalize num4 bs = n at *
    rw [List.length_drop, List.length_take]; omega
  have hn6 : num4 ((bs.take (num4 bs + 8)).drop (num4 bs + 4)) = num4 (bs.drop (num4 bs + 4)) := by
    generalize num4 bs = n at *
    unfold num4
    have hl : ((bs.take (n + 8)).drop (n + 4)).length = 4 := by simp; omega
    have hl2 : 4 ≤ (bs.drop (n + 4)).length := by simp; omega
    rw [getElem!_pos ((bs.take (n + 8)).drop (n + 4)) 0 (by omega), getElem!_pos ((bs.take (n + 8)).drop (n + 4)) 1 (by omega), getElem!_pos ((bs.take (n + 8)).drop (n + 4)) 2 (by omega), getElem!_pos ((bs.take (n + 8)).drop (n + 4)) 3 (by omega), getElem!_pos (bs.drop (n + 4)) 0 (by omega), getElem!_pos (bs.drop (n + 4)) 1 (by omega), getElem!_pos (bs.drop (n + 4)) 2 (by omega), getElem!_pos (bs.drop (n + 4)) 3 (by omega)]
    simp only [List.getElem_drop, List.getElem_take]
  haveI o1 : One1 (slSub (.slice sa bs.length sc) 1 4 (num4 bs + 4)) := ⟨rfl⟩
  repeat (refine stp ?_)
  refine Sum06_spec (bs := bs.take (num4 bs + 4)) ?_
  repeat (refine stp ?_)
  refine number06_spec (bs := (bs.take (num4 bs + 8)).drop (num4 bs + 4)) hl5 ?_
  repeat (refine stp ?_)
  rewrite [hn6]
  refine ht_if ?_ ?_ <;> intro h3 <;> simp only [decide_eq_true_eq, decide_eq_false_iff_not] at h3
  · repeat (refine stp ?_)
    exact ret3 rfl (hbad 11 (by rw [he, if_pos (by omega)]) (by decide))
  have he0 : errF bs = 0 := by rw [he, if_neg (by omega)]
  repeat (refine stp ?_)
  refine co_slice (xs := bs) (by rw [hw4]; omega) ?_
  intro hs3
  repeat (refine stp ?_)
  have hr3 : ∀ w, SlIn w (.slice sa bs.length sc) encB bs → SlIn w (slSub (.slice sa bs.length sc) 1 4 (num4 bs + 4)) encB (bodyF bs) := fun w t => by
    have := slSub_in t (lo := 4) (hi := num4 bs + 4) ⟨by omega, by omega⟩
    unfold bodyF; rw [if_pos he0]; exact this
  refine Ht.know (p := ∃ sv : SVy, slSub (.slice sa bs.length sc) 1 4 (num4 bs + 4) = svY sv) (fun w t => ?_) (fun ⟨sv, e⟩ => ?_)
  · obtain ⟨a, c, hv, _, _⟩ := sliceIn_of (hr3 w (rs.h w t))
    exact ⟨(a, _, c), hv⟩
  rw [e] at hr3
  rewrite [e, hw8]
  have h4 := h sv hr3
  unfold sizeF at h4
  rw [if_pos he0, he0] at h4
  exact ret3 rfl h4
theorem FNext06_spec {L K} {sa : Option Addr} {sc : Nat} {bs : List UInt8} [rs : RdE L encB (.slice sa bs.length sc) bs]
    (h : ∀ sv : SVy, RdE L encB (svY sv) (bodyF bs) → Ht L (K (.tuple #[svY sv, .int .i64 (sizeF bs : Nat), .int .i64 (errF bs)]))) :
    Ht L (CCall Tryz.prog 47 [.slice sa bs.length sc] K) := FNext06_sub fun sv hs => h sv ⟨fun w t => hs w (rs.h w t)⟩
end Go.Proofs

set_option linter.all false
set_option synthInstance.maxSize 100000
set_option synthInstance.maxHeartbeats 400000
namespace Go.Proofs
open Go Go.SL

/-! octet: the mistake, the writer -/
theorem ok_spec {L K p l e} [bl : Blk L p l] [n : Nth l 0 (.int .i64 e)] (h : Ht L (K (.bool (decide (e = 0))))) : Ht L (CCall Tryz.prog 107 [.pointer (some ⟨p,0,none⟩)] K) := by
  refine ccall1 Tryz.func107 rfl (by decide) Tryz.ntmps107 (by rfl) (by decide) ?_
  repeat (refine stp ?_)
  exact ret1 rfl h
theorem note_spec {L R K p e x tl T} [pl : Pull (pto p) L (cells (.int .i64 e :: tl) T) R] (h : Ht (pto p (cells (.int .i64 (if e = 0 then x else e) :: tl) T) :: R) (K (.tuple #[]))) : Ht L (CCall Tryz.prog 121 [.pointer (some ⟨p,0,none⟩), .int .i64 x] K) := by
  refine Ht.conseq ?_ (fun w s => pl.sat s)
  refine ccall2 Tryz.func121 rfl (by decide) Tryz.ntmps121 (by rfl) (by decide) ?_
  repeat (refine stp ?_)
  refine ok_spec ?_
  repeat (refine stp ?_)
  refine ht_if ?_ ?_ <;> intro h0 <;> simp only [decide_eq_true_eq, decide_eq_false_iff_not] at h0
  · repeat (refine stp ?_)
    rw [if_pos h0] at h
    exact end0 rfl h
  · repeat (refine stp ?_)
    rw [if_neg h0] at h
    exact end0 rfl h

structure Wr where
  e : Int
  b : List UInt8
def isWriter (p : Nat) (s : Wr) : HP := exs fun v => seps [pur (s.b.length ≤ 1048576), pto p (cells [.int .i64 s.e, v] 153), own encB 5 v s.b]
theorem wr_open {p : Nat} {s : Wr} {R : List HP} {G : World → Prop} (h : ∀ v, s.b.length ≤ 1048576 → Ht (pto p (cells [.int .i64 s.e, v] 153) :: own encB 5 v s.b :: R) G) : Ht (isWriter p s :: R) G := by
  refine Ht.exs fun v => Ht.seps (Ht.pur fun hp => h v hp)
theorem wr_close {p : Nat} {s : Wr} {v : Value} {o : Obj} {bs : List UInt8} {L L1 R R' : List HP} {G : World → Prop} [p1 : Pull (pto p) L o L1] [p2 : Pull (own encB 5 v) L1 bs R] [fr : Frm R R']
    (ho : o = cells [.int .i64 s.e, v] 153) (hb : bs = s.b) (hl : s.b.length ≤ 1048576) (h : Ht (isWriter p s :: R') G) : Ht L G := fun w sat => by
  refine h w ?_
  have h1 := p1.h _ _ sat
  have h2 := seps_mono (fun _ a => a) (fun _ t => p2.h _ _ t) h1
  subst ho; subst hb
  refine seps_exs.2 ⟨v, seps_seps.2 (seps_pur.2 ⟨hl, ?_⟩)⟩
  exact seps_mono (fun _ a => a) (fun _ t => seps_mono (fun _ a => a) (fun _ t => fr.h _ _ t) t) h2

def noteM (e x : Int) : Int := if e = 0 then x else e
def Wr.put (s : Wr) (bs : List UInt8) : Wr := if 1048576 < s.b.length + bs.length then { s with e := noteM s.e 2 } else if s.e = 0 then { s with b := s.b ++ bs } else s

theorem put_spec {L R K p s v} {bs : List UInt8} [pl : Pull (isWriter p) L s R] [rs : RdE R encB v bs] (hx : (bs.length : Int) ≤ 4611686018427387904) (h : Ht (isWriter p (s.put bs) :: R) (K (.pointer (some ⟨p,0,none⟩)))) : Ht L (CCall Tryz.prog 122 [.pointer (some ⟨p,0,none⟩), v] K) := by
  haveI := rs.toS
  refine Ht.pull pl (wr_open fun u hl => ?_)
  refine ccall2 Tryz.func122 rfl (by decide) Tryz.ntmps122 (by rfl) (by decide) ?_
  repeat (refine stp ?_)
  rw [IntWalk.i64_in _ (by omega)]
  refine ht_if ?_ ?_ <;> intro h0 <;> simp only [decide_eq_true_eq, decide_eq_false_iff_not] at h0
  · repeat (refine stp ?_)
    refine note_spec ?_
    repeat (refine stp ?_)
    refine ok_spec ?_
    repeat (refine stp ?_)
    refine ht_if ?_ ?_ <;> intro h1 <;> simp only [decide_eq_true_eq, decide_eq_false_iff_not] at h1
    · exfalso; split at h1 <;> omega
    · repeat (refine stp ?_)
      refine ret1 rfl ?_
      have e : s.put bs = { s with e := noteM s.e 2 } := if_pos (by omega)
      rw [e] at h
      exact wr_close (p := p) (v := u) (s := { s with e := noteM s.e 2 }) rfl rfl hl h
  · repeat (refine stp ?_)
    refine ok_spec ?_
    repeat (refine stp ?_)
    refine ht_if ?_ ?_ <;> intro h1 <;> simp only [decide_eq_true_eq, decide_eq_false_iff_not] at h1
    · repeat (refine stp ?_)
      refine co_append (e := encB) (ys := bs) (by rfl) ?_ ?_ ?_
      · omega
      · omega
      intro v'
      refine Ht.one1 fun _ => ?_
      repeat (refine stp ?_)
      refine ret1 rfl ?_
      have e : s.put bs = { s with b := s.b ++ bs } := (if_neg (by omega)).trans (if_pos h1)
      rw [e] at h
      exact wr_close (p := p) (v := v') (s := { s with b := s.b ++ bs }) rfl rfl (by simp; omega) h
    · repeat (refine stp ?_)
      refine ret1 rfl ?_
      have e : s.put bs = s := (if_neg (by omega)).trans (if_neg h1)
      rw [e] at h
      exact wr_close (p := p) (v := u) (s := s) rfl rfl hl h

/-! sevens -/
theorem own_fresh {L : List HP} {G : World → Prop} {T : Nat} (h : Ht (own encB T (.slice none 0 0) [] :: L) G) : Ht L G := fun w s => h w (own_nil.2 s)
def cut (n : UInt64) (m : UInt8) : UInt8 := UInt8.ofInt ((n &&& 127).toNat : Int) ||| m
theorem cut_spec {L R R2 R3 K a b v} {xs : List UInt8} {n : UInt64} {m : UInt8} {i : Int} [um : U8V i m] [pa : Pull (pto a) L (cells [v] 22) R] [pb : Pull (pto b) R (cells [.int .u64 n.toNat] 42) R2] [ow : Pull (own encB 5 v) R2 xs R3] (hx : xs.length ≤ 1000000)
    (h : ∀ v', Ht (pto a (cells [v'] 22) :: pto b (cells [.int .u64 (shr64 n 7).toNat] 42) :: own encB 5 v' (xs ++ [cut n m]) :: R3) (K (.tuple #[]))) : Ht L (CCall Tryz.prog 142 [.int .u8 i, .pointer (some ⟨a,0,none⟩), .pointer (some ⟨b,0,none⟩)] K) := by
  obtain rfl := um.h
  refine Ht.conseq (L' := pto a (cells [v] 22) :: pto b (cells [.int .u64 n.toNat] 42) :: own encB 5 v xs :: R3) ?_ (fun w s => seps_mono (fun _ a => a) (fun _ t => seps_mono (fun _ a => a) (fun _ t => ow.h _ _ t) (pb.h _ _ t)) (pa.h _ _ s))
  refine ccall3 Tryz.func142 rfl (by decide) Tryz.ntmps142 (by rfl) (by decide) ?_
  repeat (refine stp ?_)
  intro ca
  repeat (refine stp ?_)
  refine co_append (e := encB) (ys := [cut n m]) (by rfl) ?_ ?_ ?_
  · simp; omega
  · simp; omega
  intro v'
  refine Ht.one1 fun _ => ?_
  repeat (refine stp ?_)
  refine end0 rfl ?_
  exact Ht.frm (h v')

/-- the groups of a number -/
def sevensM (n : UInt64) : Nat → List UInt8
  | 0 => [cut n 0]
  | k + 1 => if 127 < n.toNat then cut n 128 :: sevensM (shr64 n 7) k else [cut n 0]
theorem sevens_spec {L K} {i : Int} {n : UInt64} [un : U64V i n] (h : ∀ v, Ht (own encB 5 v (sevensM n 10) :: L) (K v)) : Ht L (CCall Tryz.prog 123 [.int .u64 i] K) := by
  obtain rfl := un.h
  refine ccall1 Tryz.func123 rfl (by decide) Tryz.ntmps123 (by rfl) (by decide) ?_
  repeat (refine stp ?_)
  intro b
  repeat (refine stp ?_)
  intro a
  repeat (refine stp ?_)
  refine own_fresh (T := 5) ?_
  refine ht_iter (α := {x : Nat × UInt64 × Value × List UInt8 // x.1 ≤ 10 ∧ x.2.1.toNat < 128 ^ x.1 ∧ x.2.2.2 ++ sevensM x.2.1 x.1 = sevensM n 10 ∧ x.2.2.2.length + x.1 = 10}) (fun x => x.1.1)
    (fun x => pto a (cells [x.1.2.2.1] 22) :: pto b (cells [.int .u64 x.1.2.1.toNat] 42) :: own encB 5 x.1.2.2.1 x.1.2.2.2 :: L) (fun _ => []) ⟨(10, n, .slice none 0 0, []), Nat.le_refl _, ?_, by simp, by simp⟩ [] (fun w s => ?_) inferInstance ?_
  · have := n.toNat_lt; show n.toNat < 128 ^ 10; omega
  · exact (inferInstance : Frm _ (pto a (cells [.slice none 0 0] 22) :: pto b (cells [.int .u64 n.toNat] 42) :: own encB 5 (.slice none 0 0) [] :: L)).h _ _ s
  intro ⟨(k, m, v, xs), hk, hm, he, hl⟩
  dsimp only [List.cons_append, List.nil_append] at hk hm he hl ⊢
  repeat (refine stp ?_)
  refine ht_if ?_ ?_ <;> intro h0 <;> simp only [decide_eq_true_eq, decide_eq_false_iff_not] at h0
  · repeat (refine stp ?_)
    refine cut_spec (m := 128) (xs := xs) (n := m) (by omega) fun v' => ?_
    repeat (refine stp ?_)
    cases k with
    | zero => omega
    | succ k =>
      have hs : (shr64 m 7).toNat = m.toNat / 128 := by rw [shr64_toNat]; rfl
      refine ht_again ⟨(k, shr64 m 7, v', xs ++ [cut m 128]), by omega, ?_, ?_, by simp; omega⟩ (by simp) (fun w s => s) inferInstance rfl rfl
      · show (shr64 m 7).toNat < 128 ^ k
        rw [hs]; rw [Nat.pow_succ] at hm; omega
      · show (xs ++ [cut m 128]) ++ sevensM (shr64 m 7) k = sevensM n 10
        rw [← he]; simp only [sevensM]; rw [if_pos (by omega)]; simp
  · repeat (refine stp ?_)
    refine cut_spec (m := 0) (xs := xs) (n := m) (by omega) fun v' => ?_
    repeat (refine stp ?_)
    refine ret1 rfl ?_
    have e : xs ++ [cut m 0] = sevensM n 10 := by
      rw [← he]
      cases k with
      | zero => rfl
      | succ k => simp only [sevensM]; rw [if_neg (by omega)]
    rw [e]
    exact Ht.frm (h v')
end Go.Proofs

set_option linter.all false
set_option synthInstance.maxSize 100000
set_option synthInstance.maxHeartbeats 400000
namespace Go.Proofs
open Go Go.SL

def okc (c : UInt8) : Bool := c == 46 || (97 ≤ c && c ≤ 122)
def rightB (s : ByteArray) : Bool := decide (s ≠ ByteArray.empty) && decide (s.size ≤ 12) && s.data.toList.all okc

theorem right_spec {L K s} (h : Ht L (K (.bool (rightB s)))) : Ht L (CCall Tryz.prog 46 [.string s] K) := by
  refine ccall1 Tryz.func46 rfl (by decide) Tryz.ntmps46 (by rfl) (by decide) ?_
  repeat (refine stp ?_)
  refine ht_guard ?_ ?_ <;> intro h0
  · repeat (refine stp ?_)
    refine ret1 rfl ?_
    simp at h0
    have : rightB s = false := by simp [rightB, h0]; intro h; exact absurd rfl h
    rw [this] at h
    exact h
  · repeat (refine stp ?_)
    refine ht_if ?_ ?_ <;> intro h1
    · repeat (refine stp ?_)
      refine ret1 rfl ?_
      simp at h1
      have : rightB s = false := by simp [rightB, h1]; omega
      rw [this] at h
      exact h
    · simp at h1
      repeat (refine stp ?_)
      refine co_bytes (by omega) ?_
      intro v
      repeat (refine stp ?_)
      refine ht_for s.data.toList.length (fun i (_ : Unit) => (s.data.toList.take i).all okc = true) (fun i _ => own encB 5 v s.data.toList :: L) (fun i _ => [(15, .int .i64 i)]) () [15] (by simp) (fun _ s => s) inferInstance ?_
      intro i _ hi hx
      dsimp only [List.cons_append, List.nil_append]
      repeat (refine stp ?_)
      refine ht_if ?_ ?_ <;> intro hc
      · simp at hc
        repeat (refine stp ?_)
        refine co_index (by simp; omega) ?_
        intro hb
        repeat (refine stp ?_)
        have hg : s.data.toList[i]! = s.data.toList[i] := getElem!_pos s.data.toList i hb.h
        rw [hg]
        have bad : okc (s.data.toList[i]'hb.h) = false → rightB s = false := by
          intro hk
          have : s.data.toList.all okc = false := by
            rw [List.all_eq_false]; exact ⟨_, List.getElem_mem hb.h, by simpa using hk⟩
          simp [rightB, this]
        have good : okc (s.data.toList[i]'hb.h) = true → ((s.data.toList.take (i + 1)).all okc = true) := by
          intro hk
          rw [List.take_succ_eq_append_getElem hb.h, List.all_append]
          simp [hx]; simpa using hk
        generalize s.data.toList[i]'hb.h = c at bad good
        have hsz : s.data.toList.length = s.size := by simp
        refine ht_guard ?_ ?_ <;> intro h2
        · repeat (refine stp ?_)
          refine ht_guard ?_ ?_ <;> intro h3
          · repeat (refine stp ?_)
            refine ret1 rfl ?_
            rw [bad (by simp at h2 h3; simp [okc, UInt8.le_iff_toNat_le, ← UInt8.toNat_inj]; omega)] at h
            exact h.drop
          · repeat (refine stp ?_)
            refine ht_if ?_ ?_ <;> intro h4
            · repeat (refine stp ?_)
              refine ret1 rfl ?_
              rw [bad (by simp at h2 h3 h4; simp [okc, UInt8.le_iff_toNat_le, ← UInt8.toNat_inj]; omega)] at h
              exact h.drop
            · repeat (refine stp ?_)
              refine ht_next () hb.h (good (by simp at h2 h3 h4; simp [okc, UInt8.le_iff_toNat_le, ← UInt8.toNat_inj]; omega)) (fun _ s => s) (SubE.cons (by rw [IntWalk.i64_in _ (by omega)]; rfl) inferInstance) rfl rfl
        · repeat (refine stp ?_)
          refine ht_next () hb.h (good (by simp at h2; simp [okc, UInt8.le_iff_toNat_le, ← UInt8.toNat_inj]; omega)) (fun _ s => s) (SubE.cons (by rw [IntWalk.i64_in _ (by omega)]; rfl) inferInstance) rfl rfl
      · repeat (refine stp ?_)
        refine ret1 rfl ?_
        simp at hc
        have e : rightB s = true := by
          have : i = s.data.toList.length := by simp at hi ⊢; omega
          rw [this, List.take_length] at hx
          simp only [rightB, hx]
          simp at h0 ⊢
          exact ⟨fun e => h0 (by rw [e]; rfl), by omega⟩
        rw [e] at h
        exact h.drop
end Go.Proofs

set_option linter.all false
set_option synthInstance.maxSize 100000
set_option synthInstance.maxHeartbeats 400000
namespace Go.Proofs
open Go Go.SL

def useP (l : Int) (d : Bool) : Bool × Int × Bool := if d then (false, l, true) else if l = 0 then (false, l, true) else if 0 < l then (true, l - 1, false) else (true, l, false)

theorem use_spec {L R K b l d tl T} [p : Pull (pto b) L (cells (.int .i64 l :: .bool d :: tl) T) R] (hl : l ≤ 9223372036854775807)
    (h : Ht (pto b (cells (.int .i64 (useP l d).2.1 :: .bool (useP l d).2.2 :: tl) T) :: R) (K (.bool (useP l d).1))) : Ht L (CCall Tryz.prog 27 [.pointer (some ⟨b,0,none⟩)] K) := by
  refine Ht.conseq ?_ (fun w s => p.sat s)
  refine ccall1 Tryz.func27 rfl (by decide) Tryz.ntmps27 (by rfl) (by decide) ?_
  repeat (refine stp ?_)
  refine ht_if ?_ ?_ <;> intro hd <;> subst hd
  · repeat (refine stp ?_)
    exact ret1 rfl h
  · repeat (refine stp ?_)
    refine ht_if ?_ ?_ <;> intro h0 <;> simp only [decide_eq_true_eq, decide_eq_false_iff_not] at h0
    · repeat (refine stp ?_)
      refine ret1 rfl ?_
      simpa [useP, h0] using h
    · repeat (refine stp ?_)
      refine ht_if ?_ ?_ <;> intro h1 <;> simp only [decide_eq_true_eq, decide_eq_false_iff_not] at h1
      · repeat (refine stp ?_)
        refine ret1 rfl ?_
        rw [IntWalk.i64_in _ (by omega)]
        simpa [useP, h0, h1] using h
      · repeat (refine stp ?_)
        refine ret1 rfl ?_
        simpa [useP, h0, h1] using h

theorem useP_le {l d} : (useP l d).2.1 ≤ l := by
  unfold useP; repeat' split
  all_goals (try simp)
  all_goals omega

/-! ### The store -/
structure St where
  left : Int
  down : Bool
  room : Int
  files : List (ByteArray × List UInt8)

abbrev FV := List (ByteArray × (Value × List UInt8))
def fvals (f : FV) : List (ByteArray × Value) := f.map fun x => (x.1, x.2.1)
def fbytes (f : FV) : List (ByteArray × List UInt8) := f.map fun x => (x.1, x.2.2)
def fown : ByteArray × (Value × List UInt8) → HP := fun x => own encB 5 x.2.1 x.2.2

instance (priority := high) {x : ByteArray × (Value × List UInt8)} {L : List HP} : RdS (fown x :: L) x.2.1 encB x.2.2 := ⟨fun _ s => own_sat s⟩
def usedF (f : List (ByteArray × List UInt8)) : Nat := (f.map fun x => x.2.length).sum
def St.used (s : St) : Nat := usedF s.files
def St.ok (s : St) : Prop := (s.used : Int) ≤ s.room ∧ s.room ≤ 1048576 ∧ s.left ≤ 9223372036854775807

def isStore (b : Nat) (s : St) : HP := exs fun (p : Nat × FV) => seps [pur (s.ok ∧ fbytes p.2 = s.files), pto b (cells [.int .i64 s.left, .bool s.down, .int .i64 s.room, .map (some p.1)] 58), mapO mkStr p.1 (fvals p.2), bigO fown p.2]

theorem st_open {b : Nat} {s : St} {R : List HP} {G : World → Prop}
    (h : ∀ r f, s.ok → fbytes f = s.files → Ht (pto b (cells [.int .i64 s.left, .bool s.down, .int .i64 s.room, .map (some r)] 58) :: mapO mkStr r (fvals f) :: bigO fown f :: R) G) : Ht (isStore b s :: R) G := by
  refine Ht.exs fun p => Ht.seps (Ht.pur fun hp => ?_)
  exact h p.1 p.2 hp.1 hp.2

theorem st_shut {b r : Nat} {s : St} {f : FV} {o : Obj} {m : List (ByteArray × Value)} {L L1 L2 R R' : List HP} {w : World} [p1 : Pull (pto b) L o L1] [p2 : Pull (mapO mkStr r) L1 m L2] [p3 : Pull (bigO fown) L2 f R] [fr : Frm R R']
    (ho : o = cells [.int .i64 s.left, .bool s.down, .int .i64 s.room, .map (some r)] 58) (hm : m = fvals f) (hk : s.ok) (hf : fbytes f = s.files) (sat : Sat L w) : Sat (isStore b s :: R') w := by
  have h1 := p1.h _ _ sat
  have h2 := seps_mono (fun _ a => a) (fun _ t => p2.h _ _ t) h1
  have h3 := seps_mono (fun _ a => a) (fun _ t => seps_mono (fun _ a => a) (fun _ t => p3.h _ _ t) t) h2
  subst ho; subst hm
  refine seps_exs.2 ⟨(r, f), seps_seps.2 (seps_pur.2 ⟨⟨hk, hf⟩, ?_⟩)⟩
  exact seps_mono (fun _ a => a) (fun _ t => seps_mono (fun _ a => a) (fun _ t => seps_mono (fun _ a => a) (fun _ t => fr.h _ _ t) t) t) h3
theorem st_close {b r : Nat} {s : St} {f : FV} {o : Obj} {m : List (ByteArray × Value)} {L L1 L2 R R' : List HP} {G : World → Prop} [p1 : Pull (pto b) L o L1] [p2 : Pull (mapO mkStr r) L1 m L2] [p3 : Pull (bigO fown) L2 f R] [fr : Frm R R']
    (ho : o = cells [.int .i64 s.left, .bool s.down, .int .i64 s.room, .map (some r)] 58) (hm : m = fvals f) (hk : s.ok) (hf : fbytes f = s.files) (h : Ht (isStore b s :: R') G) : Ht L G := fun w sat => h w (st_shut ho hm hk hf sat)
theorem st_ok {b : Nat} {s : St} {R : List HP} {w : World} (sat : Sat (isStore b s :: R) w) : s.ok := by
  obtain ⟨p, h⟩ := seps_exs.1 sat
  exact (seps_pur.1 (seps_seps.1 h)).1.1

/-! Room, Down, Arm, Revive -/
theorem Room_spec {L R K b s} [p : Pull (isStore b) L s R] (h : Ht (isStore b s :: R) (K (.int .i64 s.room))) : Ht L (CCall Tryz.prog 44 [.pointer (some ⟨b,0,none⟩)] K) := by
  refine Ht.pull p (st_open fun r f hk hf => ?_)
  refine ccall1 Tryz.func44 rfl (by decide) Tryz.ntmps44 (by rfl) (by decide) ?_
  repeat (refine stp ?_)
  exact ret1 rfl (st_close rfl rfl hk hf h)
theorem Down_spec {L R K b s} [p : Pull (isStore b) L s R] (h : Ht (isStore b s :: R) (K (.bool s.down))) : Ht L (CCall Tryz.prog 45 [.pointer (some ⟨b,0,none⟩)] K) := by
  refine Ht.pull p (st_open fun r f hk hf => ?_)
  refine ccall1 Tryz.func45 rfl (by decide) Tryz.ntmps45 (by rfl) (by decide) ?_
  repeat (refine stp ?_)
  exact ret1 rfl (st_close rfl rfl hk hf h)
theorem Arm_spec {L R K b s u} [p : Pull (isStore b) L s R] (hu : u ≤ 9223372036854775807) (h : Ht (isStore b { s with left := if u < -1 then -1 else u } :: R) (K (.tuple #[]))) : Ht L (CCall Tryz.prog 21 [.pointer (some ⟨b,0,none⟩), .int .i64 u] K) := by
  refine Ht.pull p (st_open fun r f hk hf => ?_)
  refine ccall2 Tryz.func21 rfl (by decide) Tryz.ntmps21 (by rfl) (by decide) ?_
  repeat (refine stp ?_)
  refine end0 rfl (st_close (s := { s with left := if u < -1 then -1 else u }) rfl rfl ⟨hk.1, hk.2.1, ?_⟩ hf h)
  dsimp only; split <;> omega
theorem Revive_spec {L R K b s} [p : Pull (isStore b) L s R] (h : Ht (isStore b { s with left := -1, down := false } :: R) (K (.tuple #[]))) : Ht L (CCall Tryz.prog 22 [.pointer (some ⟨b,0,none⟩)] K) := by
  refine Ht.pull p (st_open fun r f hk hf => ?_)
  refine ccall1 Tryz.func22 rfl (by decide) Tryz.ntmps22 (by rfl) (by decide) ?_
  repeat (refine stp ?_)
  exact end0 rfl (st_close (s := { s with left := -1, down := false }) rfl rfl ⟨hk.1, hk.2.1, by simp⟩ hf h)

/-! New -/
theorem New_spec {L K} {n : Int} (h1 : (n < 0 ∨ 1048576 < n) → Ht L (K (.tuple #[.pointer none, .int .i64 1])))
    (h2 : 0 ≤ n → n ≤ 1048576 → ∀ b, Ht (isStore b ⟨-1, false, n, []⟩ :: L) (K (.tuple #[.pointer (some ⟨b,0,none⟩), .int .i64 0]))) : Ht L (CCall Tryz.prog 8 [.int .i64 n] K) := by
  refine ccall1 Tryz.func8 rfl (by decide) Tryz.ntmps8 (by rfl) (by decide) ?_
  have good : ∀ (r b : Nat), 0 ≤ n → n ≤ 1048576 → Ht (pto b (cells [.int .i64 (-1), .bool false, .int .i64 n, .map (some r)] 58) :: mapO mkStr r [] :: L) (K (.tuple #[.pointer (some ⟨b,0,none⟩), .int .i64 0])) := fun r b h0 h3 => by
    have hz : ∀ w, Sat (pto b (cells [.int .i64 (-1), .bool false, .int .i64 n, .map (some r)] 58) :: mapO mkStr r [] :: L) w → Sat (bigO fown [] :: pto b (cells [.int .i64 (-1), .bool false, .int .i64 n, .map (some r)] 58) :: mapO mkStr r [] :: L) w := fun w s => bigO_nil.2 s
    refine Ht.conseq ?_ hz
    exact st_close (s := ⟨-1, false, n, []⟩) (f := []) rfl rfl ⟨by simp [St.used, usedF]; exact h0, h3, by simp⟩ rfl (h2 h0 h3 b)
  repeat (refine stp ?_)
  refine ht_guard ?_ ?_ <;> intro h3 <;> simp only [decide_eq_true_eq, decide_eq_false_iff_not] at h3
  · repeat (refine stp ?_)
    exact ret2 rfl (h1 (.inl h3))
  · repeat (refine stp ?_)
    refine ht_if ?_ ?_ <;> intro h4 <;> simp only [decide_eq_true_eq, decide_eq_false_iff_not] at h4
    · repeat (refine stp ?_)
      exact ret2 rfl (h1 (.inr h4))
    · repeat (refine stp ?_)
      intro r
      repeat (refine stp ?_)
      intro b
      repeat (refine stp ?_)
      exact ret2 rfl (good r b (by omega) (by omega))

/-! Used -/
theorem usedF_perm {f g : List (ByteArray × List UInt8)} (p : f.Perm g) : usedF f = usedF g := by
  induction p with
  | nil => rfl
  | cons x _ ih => simp [usedF] at ih ⊢; exact ih
  | swap => simp [usedF]; omega
  | trans _ _ a b => exact a.trans b
theorem usedF_append (f g : List (ByteArray × List UInt8)) : usedF (f ++ g) = usedF f + usedF g := by simp [usedF]
theorem fvals_split {lf : FV} {l1 l2 : List (ByteArray × Value)} {q : ByteArray × Value} (h : fvals lf = l1 ++ q :: l2) : ∃ a x b, lf = a ++ x :: b ∧ l1 = fvals a ∧ q = (x.1, x.2.1) ∧ l2 = fvals b := by
  unfold fvals at h
  obtain ⟨a, t, h1, h2, h3⟩ := List.map_eq_append_iff.1 h
  obtain ⟨x, b, h4, h5, h6⟩ := List.map_eq_cons_iff.1 h3
  exact ⟨a, x, b, by rw [h1, h4], h2.symm, h5.symm, h6.symm⟩
theorem Used_open {b r : Nat} {st : St} {f : FV} {m : List (ByteArray × Value)} {L L1 L2 R : List HP} {K : Value → World → Prop} [p1 : Pull (pto b) L (cells [.int .i64 st.left, .bool st.down, .int .i64 st.room, .map (some r)] 58) L1] [p2 : Pull (mapO mkStr r) L1 m L2] [p3 : Pull (bigO fown) L2 f R]
    (hm : m = fvals f) (hk : st.ok) (hf : fbytes f = st.files)
    (h : Ht (pto b (cells [.int .i64 st.left, .bool st.down, .int .i64 st.room, .map (some r)] 58) :: mapO mkStr r (fvals f) :: bigO fown f :: R) (K (.int .i64 st.used))) : Ht L (CCall Tryz.prog 25 [.pointer (some ⟨b,0,none⟩)] K) := by
  subst hm
  refine Ht.conseq (L' := pto b (cells [.int .i64 st.left, .bool st.down, .int .i64 st.room, .map (some r)] 58) :: mapO mkStr r (fvals f) :: bigO fown f :: R) ?_ (fun w sat => seps_mono (fun _ a => a) (fun _ t => seps_mono (fun _ a => a) (fun _ t => p3.h _ _ t) (p2.h _ _ t)) (p1.h _ _ sat))
  refine ccall1 Tryz.func25 rfl (by decide) Tryz.ntmps25 (by rfl) (by decide) ?_
  repeat (refine stp ?_)
  intro it
  repeat (refine stp ?_)
  refine ht_iter (α := {x : FV × FV // (x.1 ++ x.2).Perm f}) (fun x => x.1.2.length)
    (fun x => rangeO mkStr it (r, fvals f, fvals x.1.2, none) :: pto b (cells [.int .i64 st.left, .bool st.down, .int .i64 st.room, .map (some r)] 58) :: bigO fown f :: R)
    (fun x => [(3, .int .i64 (usedF (fbytes x.1.1)))]) ⟨([], f), by simp⟩ [3] (fun w s => s) (SubE.cons rfl inferInstance) ?_
  intro ⟨(dn, lf), hp⟩
  dsimp only [List.cons_append, List.nil_append] at hp ⊢
  repeat (refine stp ?_)
  refine co_next (mk := mkStr) ?_ ?_
  · intro hl
    have hl0 : lf = [] := by simpa [fvals] using hl
    subst hl0
    repeat (refine stp ?_)
    refine ret1 rfl ?_
    have e : usedF (fbytes dn) = st.used := by
      unfold St.used; rw [← hf]; exact usedF_perm ((by simpa using hp : dn.Perm f).map _)
    rw [e]
    refine Ht.conseq (L' := mapO mkStr r (fvals f) :: _) ?_ (fun w s => rangeO_map s)
    exact Ht.frm h
  · intro l1 q l2 hl
    obtain ⟨a, x, b', rfl, rfl, rfl, rfl⟩ := fvals_split hl
    have hq : f.Perm (x :: (dn ++ (a ++ b'))) := hp.symm.trans (by rw [← List.append_assoc, ← List.append_assoc]; exact List.perm_middle)
    refine Ht.big_look (f := fown) hq ?_
    repeat (refine stp ?_)
    have e : usedF (fbytes dn) + x.2.2.length ≤ st.used := by
      have e1 : usedF (fbytes f) = _ := usedF_perm (hq.map (fun (x : ByteArray × Value × List UInt8) => (x.1, x.2.2)))
      unfold St.used; rw [← hf, e1]
      simp [usedF, fbytes]; omega
    have hu := hk.1
    have hu2 := hk.2.1
    refine ht_again ⟨(dn ++ [x], a ++ b'), ?_⟩ ?_ (fun w s => ?_) (SubE.cons ?_ inferInstance) rfl rfl
    · exact (by simp : ((dn ++ [x]) ++ (a ++ b')).Perm (x :: (dn ++ (a ++ b')))).trans hq.symm
    · simp
    · have s1 := bigO_perm hq.symm (@bigO_split _ fown [] _ x _ _ _ |>.2 s)
      have s2 := (inferInstance : Frm _ (rangeO mkStr it (r, fvals f, fvals a ++ fvals b', some (x.1, x.2.1)) :: pto b (cells [.int .i64 st.left, .bool st.down, .int .i64 st.room, .map (some r)] 58) :: bigO fown f :: R)).h _ _ s1
      have s3 := rangeO_none s2
      simp only [fvals, List.map_append] at s3 ⊢
      exact s3
    · rw [IntWalk.i64_in _ (by omega)]
      simp [usedF, fbytes]
theorem Used_spec {L R K b st} [p : Pull (isStore b) L st R] (h : Ht (isStore b st :: R) (K (.int .i64 st.used))) : Ht L (CCall Tryz.prog 25 [.pointer (some ⟨b,0,none⟩)] K) := by
  refine Ht.pull p (st_open fun r f hk hf => ?_)
  exact Used_open rfl hk hf (st_close (s := st) rfl rfl hk hf h)
end Go.Proofs

set_option linter.all false
set_option synthInstance.maxSize 100000
set_option synthInstance.maxHeartbeats 400000
namespace Go.Proofs
open Go Go.SL

/-! slices.Clone of bytes -/
theorem Clone_spec {L K v} {xs : List UInt8} [rs : RdE L encB v xs] (hn : (xs.length : Int) ≤ 140737488355328) (h : ∀ v', Ht (own encB 5 v' xs :: L) (K v')) : Ht L (CCall Tryz.prog 38 [v] K) := by
  haveI := rs.toS
  refine ccall1 Tryz.func38 rfl (by decide) Tryz.ntmps38 (by rfl) (by decide) ?_
  repeat (refine stp ?_)
  refine ht_if ?_ ?_ <;> intro h0
  · repeat (refine stp ?_)
    refine ret1 rfl ?_
    refine Ht.know (p := xs = []) (fun w s => ?_) (fun hx => ?_)
    · rcases rs.h w s with ⟨rfl, hx⟩ | ⟨a, c, rfl, _⟩
      · exact hx
      · cases h0
    · subst hx
      exact Ht.conseq (h _) (fun w s => own_nil.2 s)
  · repeat (refine stp ?_)
    intro v0
    repeat (refine stp ?_)
    refine Ht.own_lit encB (b := v0) (xs := []) rfl rfl (by decide) ?_
    refine co_append (e := encB) (by rfl) ?_ ?_ ?_
    · simp; omega
    · simp; omega
    intro v'
    repeat (refine stp ?_)
    exact ret1 rfl (h v')

def mayM (s : St) (ns : List ByteArray) : Int := if s.down then 14 else if ns.all rightB then 0 else 3
theorem may_spec {L R K b s v ns} [p : Pull (isStore b) L s R] [rs : RdE R SL.encStr v ns] (hn : (ns.length : Int) ≤ 1000000) (h : Ht (isStore b s :: R) (K (.int .i64 (mayM s ns)))) : Ht L (CCall Tryz.prog 26 [.pointer (some ⟨b,0,none⟩), v] K) := by
  haveI := rs.toS
  refine Ht.pull p ?_
  refine ccall2 Tryz.func26 rfl (by decide) Tryz.ntmps26 (by rfl) (by decide) ?_
  repeat (refine stp ?_)
  refine Down_spec ?_
  repeat (refine stp ?_)
  refine ht_if ?_ ?_ <;> intro h0
  · repeat (refine stp ?_)
    refine ret1 rfl ?_
    simpa [mayM, h0] using h
  · repeat (refine stp ?_)
    refine ht_for ns.length (fun i (_ : Unit) => (ns.take i).all rightB = true) (fun i _ => isStore b s :: R) (fun i _ => [(11, .int .i64 i)]) () [11] (by simp) (fun _ s => s) inferInstance ?_
    intro i _ hi hx
    dsimp only [List.cons_append, List.nil_append]
    repeat (refine stp ?_)
    refine ht_if ?_ ?_ <;> intro hc <;> simp at hc
    · repeat (refine stp ?_)
      refine co_index (by simp; omega) ?_
      intro hb
      repeat (refine stp ?_)
      refine right_spec ?_
      have hg : ns[i]! = ns[i] := getElem!_pos ns i hb.h
      rw [hg]
      repeat (refine stp ?_)
      refine ht_if ?_ ?_ <;> intro hr <;> simp only [Bool.not_eq_true', Bool.not_eq_false'] at hr
      · repeat (refine stp ?_)
        refine ret1 rfl ?_
        have : ns.all rightB = false := by
          rw [List.all_eq_false]; exact ⟨_, List.getElem_mem hb.h, by simpa using hr⟩
        simpa [mayM, h0, this] using h
      · repeat (refine stp ?_)
        refine ht_next () hb.h ?_ (fun _ s => s) (SubE.cons (by rw [IntWalk.i64_in _ (by omega)]; rfl) inferInstance) rfl rfl
        rw [List.take_succ_eq_append_getElem hb.h, List.all_append]
        simp [hx]; simpa using hr
    · repeat (refine stp ?_)
      refine ret1 rfl ?_
      have e : ns.all rightB = true := by
        rw [(by omega : i = ns.length), List.take_length] at hx
        exact hx
      simpa [mayM, h0, e] using h

/-! grow -/
def growM (name : ByteArray) : List UInt8 → St → Int × St
  | [], s => (0, s)
  | c :: cs, s => if (useP s.left s.down).1 then growM name cs { s with left := (useP s.left s.down).2.1, down := (useP s.left s.down).2.2, files := mput s.files name ((mget s.files name).getD [] ++ [c]) }
      else (14, { s with left := (useP s.left s.down).2.1, down := (useP s.left s.down).2.2 })

theorem usedF_mput (f : List (ByteArray × List UInt8)) (k : ByteArray) (x : List UInt8) : usedF (mput f k x) + ((mget f k).getD []).length = usedF f + x.length := by
  cases h : mget f k with
  | none => rw [(mget_none h).1]; simp [usedF]
  | some v =>
    obtain ⟨l1, l2, h1, h2, _⟩ := mget_split h
    rw [h2, h1]; simp [usedF]; omega

theorem fbytes_mput (f : FV) (k : ByteArray) (v : Value) (x : List UInt8) : fbytes (mput f k (v, x)) = mput (fbytes f) k x := mput_map (fun p : Value × List UInt8 => p.2) f k (v, x)
theorem fvals_mput (f : FV) (k : ByteArray) (v : Value) (x : List UInt8) : fvals (mput f k (v, x)) = mput (fvals f) k v := mput_map (fun p : Value × List UInt8 => p.1) f k (v, x)
theorem fbytes_mget (f : FV) (k : ByteArray) : mget (fbytes f) k = (mget f k).map (·.2) := mget_map (fun p : Value × List UInt8 => p.2) f k
theorem fvals_mget (f : FV) (k : ByteArray) : mget (fvals f) k = (mget f k).map (·.1) := mget_map (fun p : Value × List UInt8 => p.1) f k

class EqFV (g f : FV) : Prop where
  h : g = f
instance {f : FV} : EqFV f f := ⟨rfl⟩
/-- The file of a name, taken out; what is put in its place may be put back. -/
theorem file_take {f : FV} {name : ByteArray} {L R : List HP} {G : World → Prop} [p : Pull (bigO fown) L f R]
    (h : ∀ g, (∀ {v x L L1 R' w} [PullA (own encB 5 v x) L L1] [PullA (bigO fown g) L1 R'], Sat L w → Sat (bigO fown (mput f name (v, x)) :: R') w) →
      (∀ {L L1 R' w} [PullA (own encB 5 ((mget (fvals f) name).getD (.slice none 0 0)) ((mget (fbytes f) name).getD [])) L L1] [PullA (bigO fown g) L1 R'], Sat L w → Sat (bigO fown f :: R') w) →
      Ht (own encB 5 ((mget (fvals f) name).getD (.slice none 0 0)) ((mget (fbytes f) name).getD []) :: bigO fown g :: R) G) : Ht L G := by
  refine Ht.pull p ?_
  rw [fvals_mget, fbytes_mget] at h
  cases hm : mget f name with
  | none =>
    rw [hm] at h
    refine Ht.conseq (h f ?_ ?_) (fun w s => own_nil.2 s)
    · intro v x L L1 R' w p1 p2 s
      rw [(mget_none hm).1]
      exact bigO_snoc.2 (seps_mono (fun _ a => a) (fun _ t => p2.h _ _ t) (p1.h _ _ s))
    · intro L L1 R' w p1 p2 s
      exact p2.h _ _ (seps_tail (p1.h _ _ s))
  | some vx =>
    obtain ⟨l1, l2, h1, h2, _⟩ := mget_split hm
    rw [hm] at h
    have hh := h (l1 ++ l2) (fun {v x L L1 R' w} p1 p2 s => by rw [h2]; exact bigO_split.2 (seps_mono (fun _ a => a) (fun _ t => p2.h _ _ t) (p1.h _ _ s)))
      (fun {L L1 R' w} p1 p2 s => by rw [h1]; exact bigO_split.2 (seps_mono (fun _ a => a) (fun _ t => p2.h _ _ t) (p1.h _ _ s)))
    rw [h1]
    exact Ht.big_take hh

instance (priority := 800) {f g : FV} {k : ByteArray} {L R : List HP} [p : Pull (bigO fown) L g R] [e : EqFV g f] : RdS L ((mget (fvals f) k).getD (.slice none 0 0)) encB ((mget (fbytes f) k).getD []) := ⟨fun w s => by
  have := e.h; subst this
  have := file_take (f := g) (name := k) (L := L) (R := R) (G := fun w => SlIn w ((mget (fvals g) k).getD (.slice none 0 0)) encB ((mget (fbytes g) k).getD []))
    (fun _ _ _ w s => own_sat s)
  exact this w s⟩
theorem growM_put {name : ByteArray} {c : UInt8} {cs : List UInt8} {s : St} (hu : (useP s.left s.down).1 = true) : growM name (c :: cs) s = growM name cs { s with left := (useP s.left s.down).2.1, down := (useP s.left s.down).2.2, files := mput s.files name ((mget s.files name).getD [] ++ [c]) } := by
  simp only [growM, hu, if_true]
def St.put (s : St) (name : ByteArray) (c : UInt8) : St := { s with left := (useP s.left s.down).2.1, down := (useP s.left s.down).2.2, files := mput s.files name ((mget s.files name).getD [] ++ [c]) }

theorem grow_spec {L R K b st v name} {xs : List UInt8} [p : Pull (isStore b) L st R] [rs : RdE R encB v xs] (hx : (st.used : Int) + xs.length ≤ st.room) (h : Ht (isStore b (growM name xs st).2 :: R) (K (.int .i64 (growM name xs st).1))) : Ht L (CCall Tryz.prog 28 [.pointer (some ⟨b,0,none⟩), .string name, v] K) := by
  haveI := rs.toS
  refine Ht.pull p ?_
  refine Ht.know (p := st.ok) (fun w s => st_ok s) (fun hk => ?_)
  refine ccall3 Tryz.func28 rfl (by decide) Tryz.ntmps28 (by rfl) (by decide) ?_
  repeat (refine stp ?_)
  refine ht_for xs.length (fun i (s : St) => growM name (xs.drop i) s = growM name xs st ∧ (s.used : Int) + (xs.length - i) ≤ s.room ∧ s.room ≤ 1048576 ) (fun i s => isStore b s :: R) (fun i _ => [(11, .int .i64 i)]) st [11] (by simp; exact ⟨hx, hk.2.1⟩) (fun _ s => s) inferInstance ?_
  intro i s hi ⟨he, hr, hr2⟩
  dsimp only [List.cons_append, List.nil_append]
  have hxl : (xs.length : Int) ≤ 1048576 := by have := hk.2.1; omega
  repeat (refine stp ?_)
  refine ht_if ?_ ?_ <;> intro hc <;> simp at hc
  · repeat (refine stp ?_)
    refine co_index (by simp; omega) ?_
    intro hb
    have hg : xs[i]! = xs[i] := getElem!_pos xs i hb.h
    refine stp ?_
    rw [hg]
    have hd : xs.drop i = xs[i] :: xs.drop (i + 1) := (List.getElem_cons_drop hb.h).symm
    rw [hd] at he
    generalize hxi : xs[i]'hb.h = c at *
    refine st_open fun r f hk' hf => ?_
    repeat (refine stp ?_)
    refine use_spec hk'.2.2 ?_
    repeat (refine stp ?_)
    refine ht_if ?_ ?_ <;> intro hu <;> simp only [Bool.not_eq_true', Bool.not_eq_false'] at hu
    · repeat (refine stp ?_)
      refine ret1 rfl ?_
      have e : growM name xs st = (14, { s with left := (useP s.left s.down).2.1, down := (useP s.left s.down).2.2 }) := by
        rw [← he]; simp only [growM, hu, Bool.false_eq_true, if_false]
      rw [e] at h
      refine st_close (s := { s with left := (useP s.left s.down).2.1, down := (useP s.left s.down).2.2 }) rfl rfl ⟨hk'.1, hk'.2.1, ?_⟩ hf h
      exact Int.le_trans useP_le hk'.2.2
    · repeat (refine stp ?_)
      refine ht_draw Tryz.can28x6 Tryz.mixed (by kernel_rfl) ?_
      repeat (refine stp ?_)
      intro ca
      repeat (refine stp ?_)
      refine file_take (f := f) (name := name) fun g hput _ => ?_
      rw [hf]
      have hlen : ((mget s.files name).getD []).length ≤ s.used := by
        have := usedF_mput s.files name []; simp only [St.used]; simp at this; omega
      refine co_append (e := encB) (ys := [c]) (by rfl) ?_ ?_ ?_
      · simp; omega
      · simp; omega
      intro v'
      repeat (refine stp ?_)
      rw [growM_put hu] at he
      refine ht_next _ hb.h ⟨he, ?_, hr2⟩ (fun w sat => ?_) (SubE.cons (by rw [IntWalk.i64_in _ (by omega)]; rfl) inferInstance) rfl rfl
      · have := usedF_mput s.files name ((mget s.files name).getD [] ++ [c])
        simp only [St.used] at hr ⊢
        simp at this
        simp; omega
      · have sat' := hput (v := v') (x := (mget s.files name).getD [] ++ [c]) sat
        refine st_shut (f := mput f name (v', _)) rfl (fvals_mput _ _ _ _).symm ?_ ?_ sat'
        · have := usedF_mput s.files name ((mget s.files name).getD [] ++ [c])
          refine ⟨?_, hk'.2.1, Int.le_trans useP_le hk'.2.2⟩
          simp only [St.used] at hr ⊢
          simp at this
          omega
        · rw [fbytes_mput, hf]
  · repeat (refine stp ?_)
    refine ret1 rfl ?_
    have hd : xs.drop i = [] := List.drop_eq_nil_of_le (by omega)
    rw [hd] at he
    simp only [growM] at he
    rw [← he] at h
    exact h
end Go.Proofs

set_option linter.all false
set_option synthInstance.maxSize 100000
set_option synthInstance.maxHeartbeats 400000
namespace Go.Proofs
open Go Go.SL

theorem sevensM_len : ∀ (n : UInt64) (k : Nat), (sevensM n k).length ≤ k + 1
  | n, 0 => by simp [sevensM]
  | n, k + 1 => by
    simp only [sevensM]
    split
    · have := sevensM_len (shr64 n 7) k; simp; omega
    · simp
def Wr.count (s : Wr) (n : Int) : Wr := if n < 0 then { s with e := noteM s.e 1 } else s.put (sevensM (UInt64.ofInt n) 10)
theorem WCount_spec {L R K p s n} [pl : Pull (isWriter p) L s R] (h : Ht (isWriter p (s.count n) :: R) (K (.pointer (some ⟨p,0,none⟩)))) : Ht L (CCall Tryz.prog 96 [.pointer (some ⟨p,0,none⟩), .int .i64 n] K) := by
  refine Ht.pull pl ?_
  refine ccall2 Tryz.func96 rfl (by decide) Tryz.ntmps96 (by rfl) (by decide) ?_
  repeat (refine stp ?_)
  refine ht_guard ?_ ?_ <;> intro h0 <;> simp only [decide_eq_true_eq, decide_eq_false_iff_not] at h0
  · repeat (refine stp ?_)
    refine wr_open fun u hl => ?_
    refine note_spec ?_
    repeat (refine stp ?_)
    refine ret1 rfl ?_
    have e : s.count n = { s with e := noteM s.e 1 } := if_pos h0
    rw [e] at h
    exact wr_close (p := p) (v := u) (s := { s with e := noteM s.e 1 }) rfl rfl hl h
  · repeat (refine stp ?_)
    refine sevens_spec fun v => ?_
    repeat (refine stp ?_)
    refine put_spec (bs := sevensM (UInt64.ofInt n) 10) ?_ ?_
    · have := sevensM_len (UInt64.ofInt n) 10; omega
    repeat (refine stp ?_)
    refine ret1 rfl ?_
    have e : s.count n = s.put (sevensM (UInt64.ofInt n) 10) := if_neg h0
    rw [e] at h
    exact Ht.frm h

theorem WDone_spec {L R K p s} [pl : Pull (isWriter p) L s R]
    (h : ∀ v, Ht (own encB 5 v (if s.e = 0 then s.b else []) :: isWriter p s :: R) (K (.tuple #[v, .int .i64 s.e]))) : Ht L (CCall Tryz.prog 98 [.pointer (some ⟨p,0,none⟩)] K) := by
  refine Ht.pull pl (wr_open fun u hl => ?_)
  refine ccall1 Tryz.func98 rfl (by decide) Tryz.ntmps98 (by rfl) (by decide) ?_
  repeat (refine stp ?_)
  refine ok_spec ?_
  repeat (refine stp ?_)
  refine ht_if ?_ ?_ <;> intro h0 <;> simp only [Bool.not_eq_true', Bool.not_eq_false', decide_eq_true_eq, decide_eq_false_iff_not] at h0
  · repeat (refine stp ?_)
    refine ht_draw Tryz.can98x4 Tryz.mixed (by kernel_rfl) ?_
    repeat (refine stp ?_)
    refine ret2 rfl ?_
    have h := h (.slice none 0 0)
    rw [if_neg h0] at h
    refine wr_close (p := p) (v := u) (s := s) (R' := R) rfl rfl hl ?_
    exact Ht.conseq h (fun w sat => own_nil.2 sat)
  · repeat (refine stp ?_)
    refine Clone_spec (xs := s.b) (by omega) fun v => ?_
    repeat (refine stp ?_)
    refine ret2 rfl ?_
    have h := h v
    rw [if_pos h0, h0] at h
    refine wr_close (p := p) (v := u) (s := s) (R' := own encB 5 v s.b :: R) rfl rfl hl ?_
    exact Ht.conseq h (fun w sat => seps_swap sat)

/-! texts -/
def textsM (s : Wr) : List ByteArray → Wr
  | [] => s
  | t :: ts => textsM ((s.count t.size).put t.data.toList) ts
theorem WText_spec {L R K p s v} {ts : List ByteArray} [pl : Pull (isWriter p) L s R] [rs : RdE R SL.encStr v ts] (ht : ∀ t ∈ ts, t.size ≤ 4611686018427387904) (h : Ht (isWriter p (textsM s ts) :: R) (K (.pointer (some ⟨p,0,none⟩)))) : Ht L (CCall Tryz.prog 97 [.pointer (some ⟨p,0,none⟩), v] K) := by
  haveI := rs.toS
  refine Ht.pull pl ?_
  refine Ht.know (p := ts.length ≤ 9223372036854775807) (fun w s => (rs.h w s.tail).le) (fun hx => ?_)
  refine ccall2 Tryz.func97 rfl (by decide) Tryz.ntmps97 (by rfl) (by decide) ?_
  repeat (refine stp ?_)
  refine ht_for ts.length (fun i (x : Wr) => textsM x (ts.drop i) = textsM s ts) (fun i x => isWriter p x :: R) (fun i _ => [(9, .int .i64 i)]) s [9] (by simp) (fun _ s => s) inferInstance ?_
  intro i x hi he
  dsimp only [List.cons_append, List.nil_append]
  repeat (refine stp ?_)
  refine ht_if ?_ ?_ <;> intro hc <;> simp at hc
  · repeat (refine stp ?_)
    refine co_index (xs := ts) (by omega) ?_
    intro hb
    refine stp ?_
    have hg : ts[i]! = ts[i] := getElem!_pos ts i hb.h
    rw [hg]
    have hd : ts.drop i = ts[i] :: ts.drop (i + 1) := (List.getElem_cons_drop hb.h).symm
    have hsz := ht _ (List.getElem_mem hb.h)
    rw [hd] at he
    generalize ts[i]'hb.h = t at *
    repeat (refine stp ?_)
    refine WCount_spec ?_
    repeat (refine stp ?_)
    refine co_bytes (by omega) fun u => ?_
    repeat (refine stp ?_)
    have e1 : t.data.toList.length = t.size := by simp
    refine put_spec (bs := t.data.toList) (by omega) ?_
    repeat (refine stp ?_)
    refine ht_next ((x.count t.size).put t.data.toList) hb.h he (fun w s => ?_) (SubE.cons (by rw [IntWalk.i64_in _ (by omega)]; rfl) inferInstance) rfl rfl
    exact (inferInstance : Frm _ (isWriter p ((x.count t.size).put t.data.toList) :: R)).h _ _ s
  · repeat (refine stp ?_)
    refine ret1 rfl ?_
    have hd : ts.drop i = [] := List.drop_eq_nil_of_le (by omega)
    rw [hd] at he
    simp only [textsM] at he
    rw [← he] at h
    exact h
end Go.Proofs

set_option linter.all false
set_option synthInstance.maxSize 100000
set_option synthInstance.maxHeartbeats 400000
namespace Go.Proofs
open Go Go.SL

def zig (n : Int) : UInt64 := UInt64.ofInt (IntKind.i64.wrap (n * 2 ^ min 1 64)) ^^^ UInt64.ofInt (n.fdiv (2 ^ min 63 64))
def Wr.number (s : Wr) (n : Int) : Wr := s.put (sevensM (zig n) 10)
/-- v' is a part of v, whatever the world -/
def SubOf (v : Value) (bs : List UInt8) (v' : Value) (bs' : List UInt8) : Prop := ∀ w, SlIn w v encB bs → SlIn w v' encB bs'
theorem SubOf.refl {v : Value} {bs : List UInt8} : SubOf v bs v bs := fun _ s => s
theorem SubOf.trans {v v1 v2 : Value} {b b1 b2 : List UInt8} (h : SubOf v b v1 b1) (k : SubOf v1 b1 v2 b2) : SubOf v b v2 b2 := fun w s => k w (h w s)
theorem SubOf.rd {L : List HP} {v v1 : Value} {b b1 : List UInt8} (h : SubOf v b v1 b1) (r : RdE L encB v b) : RdE L encB v1 b1 := ⟨fun w s => h w (r.h w s)⟩
theorem SubOf.drop {v : Value} {bs : List UInt8} {n : Nat} (hn : n ≤ bs.length) : SubOf v bs (slSub v 1 n bs.length) (bs.drop n) := fun w s => by
  have := slSub_in (e := encB) s (lo := n) (hi := bs.length) ⟨hn, Nat.le_refl _⟩
  rwa [List.take_length] at this
/-! the reader -/
theorem Read_of {L K v} (h : ∀ p, Ht (pto p (cells [.int .i64 0, v] 162) :: L) (K (.pointer (some ⟨p,0,none⟩)))) [o : One1 v] : Ht L (CCall Tryz.prog 82 [v] K) := by
  refine ccall1 Tryz.func82 rfl (by decide) Tryz.ntmps82 (by rfl) (by decide) ?_
  repeat (refine stp ?_)
  intro p
  repeat (refine stp ?_)
  exact ret1 rfl (h p)
theorem RDone_spec {L R K p e v} {bs : List UInt8} [pl : Pull (pto p) L (cells [.int .i64 e, v] 162) R] [rs : RdE R encB v bs] (h : Ht (pto p (cells [.int .i64 e, v] 162) :: R) (K (.int .i64 (if e ≠ 0 then e else if bs = [] then 0 else 3)))) : Ht L (CCall Tryz.prog 86 [.pointer (some ⟨p,0,none⟩)] K) := by
  haveI := rs.toS
  refine Ht.conseq ?_ (fun w s => pl.sat s)
  refine ccall1 Tryz.func86 rfl (by decide) Tryz.ntmps86 (by rfl) (by decide) ?_
  repeat (refine stp ?_)
  refine ok_spec ?_
  repeat (refine stp ?_)
  refine ht_if ?_ ?_ <;> intro h0 <;> simp only [Bool.not_eq_true', Bool.not_eq_false', decide_eq_true_eq, decide_eq_false_iff_not] at h0
  · repeat (refine stp ?_)
    rw [if_pos h0] at h
    exact ret1 rfl h
  · repeat (refine stp ?_)
    rw [if_neg (by simp [h0])] at h
    refine ht_if ?_ ?_ <;> intro h1 <;> simp at h1
    · repeat (refine stp ?_)
      rw [if_neg (by intro e; subst e; simp at h1)] at h
      exact ret1 rfl h
    · repeat (refine stp ?_)
      rw [if_pos h1] at h
      exact ret1 rfl h

/-- a number's groups, from the i-th on: the mistake, the number, how many bytes -/
def wordM (i : Nat) (n : UInt64) : List UInt8 → Int × UInt64 × Nat
  | [] => (12, 0, 0)
  | c :: cs => if i = 9 ∧ 1 < c.toNat then (3, 0, 0)
    else if 127 < c.toNat then wordM (i + 1) (n ||| shl64 (UInt64.ofInt ((c &&& 127).toNat : Int)) (7 * i)) cs
    else if c.toNat = 0 ∧ 0 < i then (3, 0, 0)
    else (0, n ||| shl64 (UInt64.ofInt ((c &&& 127).toNat : Int)) (7 * i), i + 1)
def wordR (e : Int) (bs : List UInt8) : Int × UInt64 × Nat := if e = 0 then wordM 0 0 bs else (e, 0, 0)

theorem word_spec {L R K p e v} {bs : List UInt8} [pl : Pull (pto p) L (cells [.int .i64 e, v] 162) R] [rs : RdE R encB v bs]
    (h : ∀ v', SubOf v bs v' (bs.drop (wordR e bs).2.2) → One1 v' → Ht (pto p (cells [.int .i64 (wordR e bs).1, v'] 162) :: R) (K (.int .u64 (wordR e bs).2.1.toNat))) : Ht L (CCall Tryz.prog 126 [.pointer (some ⟨p,0,none⟩)] K) := by
  haveI := rs.toS
  refine Ht.conseq ?_ (fun w s => pl.sat s)
  refine Ht.know (p := One1 v ∧ bs.length ≤ 9223372036854775807) (fun w s => ⟨one1_of (rs.h w s.tail), (rs.h w s.tail).le⟩) (fun ⟨ho, hx⟩ => ?_)
  refine ccall1 Tryz.func126 rfl (by decide) Tryz.ntmps126 (by rfl) (by decide) ?_
  repeat (refine stp ?_)
  refine ok_spec ?_
  repeat (refine stp ?_)
  refine ht_if ?_ ?_ <;> intro h0 <;> simp only [Bool.not_eq_true', Bool.not_eq_false', decide_eq_true_eq, decide_eq_false_iff_not] at h0
  · repeat (refine stp ?_)
    have e1 : wordR e bs = (e, 0, 0) := if_neg h0
    rw [e1] at h
    exact ret1 rfl (h v .refl ho)
  · subst h0
    have e1 : wordR 0 bs = wordM 0 0 bs := if_pos rfl
    rw [e1] at h
    repeat (refine stp ?_)
    refine ht_for bs.length (fun i (n : UInt64) => i ≤ 9 ∧ ∃ r, wordM i n (bs.drop i) = r ∧ wordM 0 0 bs = r) (fun i _ => pto p (cells [.int .i64 0, v] 162) :: R) (fun i n => [(20, .int .i64 i), (3, .int .u64 n.toNat)]) 0 [20, 3] ⟨by omega, _, rfl, rfl⟩ (fun _ s => s) (SubE.cons rfl (SubE.cons rfl inferInstance)) ?_
    intro i n hi ⟨hi9, r, hr1, hr2⟩
    dsimp only [List.cons_append, List.nil_append]
    repeat (refine stp ?_)
    refine ht_if ?_ ?_ <;> intro hc <;> simp at hc
    · repeat (refine stp ?_)
      refine co_index (xs := bs) (by omega) ?_
      intro hb
      repeat (refine stp ?_)
      have hg : bs[i]! = bs[i] := getElem!_pos bs i hb.h
      rw [hg]
      have hd : bs.drop i = bs[i] :: bs.drop (i + 1) := (List.getElem_cons_drop hb.h).symm
      rw [hd] at hr1
      generalize bs[i]'hb.h = c at *
      subst hr2
      have hmul : IntKind.i64.wrap (7 * (i : Int)) = ((7 * i : Nat) : Int) := by rw [IntWalk.i64_in _ (by omega)]; omega
      have hadd : IntKind.i64.wrap ((i : Int) + 1) = ((i + 1 : Nat) : Int) := by rw [IntWalk.i64_in _ (by omega)]; omega
      have h3 : (i = 9 ∧ 1 < c.toNat) ∨ (i = 9 ∧ ¬ 1 < c.toNat) ∨ ¬ i = 9 := by omega
      rcases h3 with ⟨g1, g2⟩ | h3
      · have d1 : decide ((i : Int) = 9) = true := by simp; omega
        have d2 : decide ((1 : Int) < (c.toNat : Int)) = true := by simp; omega
        rw [d1]
        repeat (refine stp ?_)
        rw [d2]
        repeat (refine stp ?_)
        refine note_spec ?_
        repeat (refine stp ?_)
        refine ret1 rfl ?_
        have e2 : wordM 0 0 bs = (3, 0, 0) := by rw [← hr1]; exact if_pos ⟨g1, g2⟩
        rw [e2] at h
        exact h v .refl ho
      · have hn : ¬ (i = 9 ∧ 1 < c.toNat) := by omega
        simp only [wordM, if_neg hn] at hr1
        rcases h3 with ⟨g1, g2⟩ | g1
        · have d1 : decide ((i : Int) = 9) = true := by simp; omega
          have d2 : decide ((1 : Int) < (c.toNat : Int)) = false := by simp; omega
          rw [d1]
          repeat (refine stp ?_)
          rw [d2]
          repeat (refine stp ?_)
          rw [hmul]
          repeat (refine stp ?_)
          refine ht_if ?_ ?_ <;> intro h5 <;> simp only [decide_eq_true_eq, decide_eq_false_iff_not] at h5
          · rw [if_pos (by omega)] at hr1
            repeat (refine stp ?_)
            refine ht_next (n ||| shl64 (UInt64.ofInt ((c &&& 127).toNat : Int)) (7 * i)) hb.h ⟨by omega, _, hr1, rfl⟩ (fun _ s => s) (SubE.cons (by rw [hadd]) (SubE.cons rfl inferInstance)) rfl rfl
          · rw [if_neg (by omega)] at hr1
            repeat (refine stp ?_)
            have h6 : (c.toNat = 0 ∧ 0 < i) ∨ (c.toNat = 0 ∧ ¬ 0 < i) ∨ ¬ c.toNat = 0 := by omega
            have fin : ¬ (c.toNat = 0 ∧ 0 < i) → Ht (pto p (cells [.int .i64 0, slSub v 1 (i + 1) bs.length] 162) :: R) (K (.int .u64 (n ||| shl64 (UInt64.ofInt ((c &&& 127).toNat : Int)) (7 * i)).toNat)) := fun hn6 => by
              rw [if_neg hn6] at hr1
              have r1 : SubOf v bs (slSub v 1 (i + 1) bs.length) (bs.drop (i + 1)) := .drop (by omega)
              rw [← hr1] at h
              intro w s
              exact h _ r1 (one1_of (r1 w (rs.h w s.tail))) w s
            rcases h6 with ⟨g3, g4⟩ | ⟨g3, g4⟩ | g3
            · have d3 : decide ((c.toNat : Int) = 0) = true := by simp; omega
              have d4 : decide ((0 : Int) < (i : Int)) = true := by simp; omega
              rw [d3]
              repeat (refine stp ?_)
              rw [d4]
              repeat (refine stp ?_)
              refine note_spec ?_
              repeat (refine stp ?_)
              refine ret1 rfl ?_
              rw [if_pos ⟨g3, g4⟩] at hr1
              rw [← hr1] at h
              exact h v .refl ho
            · have d3 : decide ((c.toNat : Int) = 0) = true := by simp; omega
              have d4 : decide ((0 : Int) < (i : Int)) = false := by simp; omega
              rw [d3]
              repeat (refine stp ?_)
              rw [d4]
              repeat (refine stp ?_)
              rw [hadd]
              refine co_slice (xs := bs) ⟨by omega, by omega, by omega⟩ ?_
              intro is
              refine Ht.know (p := One1 (slSub v 1 (i + 1) bs.length)) (fun w s => ?_) (fun _ => ?_)
              · have r0 : RdS R (slSub v 1 (i + 1) bs.length) encB ((bs.take bs.length).drop (i + 1)) := inferInstance
                exact one1_of (r0.h w s.tail)
              repeat (refine stp ?_)
              refine ret1 rfl ?_
              exact fin (by omega)
            · have d3 : decide ((c.toNat : Int) = 0) = false := by simp; omega
              rw [d3]
              repeat (refine stp ?_)
              rw [hadd]
              refine co_slice (xs := bs) ⟨by omega, by omega, by omega⟩ ?_
              intro is
              refine Ht.know (p := One1 (slSub v 1 (i + 1) bs.length)) (fun w s => ?_) (fun _ => ?_)
              · have r0 : RdS R (slSub v 1 (i + 1) bs.length) encB ((bs.take bs.length).drop (i + 1)) := inferInstance
                exact one1_of (r0.h w s.tail)
              repeat (refine stp ?_)
              refine ret1 rfl ?_
              exact fin (by omega)
        · have d1 : decide ((i : Int) = 9) = false := by simp; omega
          rw [d1]
          repeat (refine stp ?_)
          rw [hmul]
          repeat (refine stp ?_)
          refine ht_if ?_ ?_ <;> intro h5 <;> simp only [decide_eq_true_eq, decide_eq_false_iff_not] at h5
          · rw [if_pos (by omega)] at hr1
            repeat (refine stp ?_)
            refine ht_next (n ||| shl64 (UInt64.ofInt ((c &&& 127).toNat : Int)) (7 * i)) hb.h ⟨by omega, _, hr1, rfl⟩ (fun _ s => s) (SubE.cons (by rw [hadd]) (SubE.cons rfl inferInstance)) rfl rfl
          · rw [if_neg (by omega)] at hr1
            repeat (refine stp ?_)
            have h6 : (c.toNat = 0 ∧ 0 < i) ∨ (c.toNat = 0 ∧ ¬ 0 < i) ∨ ¬ c.toNat = 0 := by omega
            have fin : ¬ (c.toNat = 0 ∧ 0 < i) → Ht (pto p (cells [.int .i64 0, slSub v 1 (i + 1) bs.length] 162) :: R) (K (.int .u64 (n ||| shl64 (UInt64.ofInt ((c &&& 127).toNat : Int)) (7 * i)).toNat)) := fun hn6 => by
              rw [if_neg hn6] at hr1
              have r1 : SubOf v bs (slSub v 1 (i + 1) bs.length) (bs.drop (i + 1)) := .drop (by omega)
              rw [← hr1] at h
              intro w s
              exact h _ r1 (one1_of (r1 w (rs.h w s.tail))) w s
            rcases h6 with ⟨g3, g4⟩ | ⟨g3, g4⟩ | g3
            · have d3 : decide ((c.toNat : Int) = 0) = true := by simp; omega
              have d4 : decide ((0 : Int) < (i : Int)) = true := by simp; omega
              rw [d3]
              repeat (refine stp ?_)
              rw [d4]
              repeat (refine stp ?_)
              refine note_spec ?_
              repeat (refine stp ?_)
              refine ret1 rfl ?_
              rw [if_pos ⟨g3, g4⟩] at hr1
              rw [← hr1] at h
              exact h v .refl ho
            · have d3 : decide ((c.toNat : Int) = 0) = true := by simp; omega
              have d4 : decide ((0 : Int) < (i : Int)) = false := by simp; omega
              rw [d3]
              repeat (refine stp ?_)
              rw [d4]
              repeat (refine stp ?_)
              rw [hadd]
              refine co_slice (xs := bs) ⟨by omega, by omega, by omega⟩ ?_
              intro is
              refine Ht.know (p := One1 (slSub v 1 (i + 1) bs.length)) (fun w s => ?_) (fun _ => ?_)
              · have r0 : RdS R (slSub v 1 (i + 1) bs.length) encB ((bs.take bs.length).drop (i + 1)) := inferInstance
                exact one1_of (r0.h w s.tail)
              repeat (refine stp ?_)
              refine ret1 rfl ?_
              exact fin (by omega)
            · have d3 : decide ((c.toNat : Int) = 0) = false := by simp; omega
              rw [d3]
              repeat (refine stp ?_)
              rw [hadd]
              refine co_slice (xs := bs) ⟨by omega, by omega, by omega⟩ ?_
              intro is
              refine Ht.know (p := One1 (slSub v 1 (i + 1) bs.length)) (fun w s => ?_) (fun _ => ?_)
              · have r0 : RdS R (slSub v 1 (i + 1) bs.length) encB ((bs.take bs.length).drop (i + 1)) := inferInstance
                exact one1_of (r0.h w s.tail)
              repeat (refine stp ?_)
              refine ret1 rfl ?_
              exact fin (by omega)
    · repeat (refine stp ?_)
      have hd : bs.drop i = [] := List.drop_eq_nil_of_le (by omega)
      rw [hd] at hr1
      refine note_spec ?_
      repeat (refine stp ?_)
      refine ret1 rfl ?_
      rw [hr2, ← hr1] at h
      exact h v (by simpa [wordM] using (SubOf.refl : SubOf v bs v bs)) ho
end Go.Proofs

set_option linter.all false
set_option synthInstance.maxSize 100000
set_option synthInstance.maxHeartbeats 400000
namespace Go.Proofs
open Go Go.SL
attribute [local irreducible] CCall CO CC CX CD

theorem back_spec {L R K p e v was} [pl : Pull (pto p) L (cells [.int .i64 e, v] 162) R] [o1 : One1 v] [o2 : One1 was] (h : Ht (pto p (cells [.int .i64 e, if e = 0 then v else was] 162) :: R) (K (.bool (decide (e = 0))))) : Ht L (CCall Tryz.prog 109 [.pointer (some ⟨p,0,none⟩), was] K) := by
  refine Ht.conseq ?_ (fun w s => pl.sat s)
  refine ccall2 Tryz.func109 rfl (by decide) Tryz.ntmps109 (by rfl) (by decide) ?_
  repeat (refine stp ?_)
  refine ok_spec ?_
  repeat (refine stp ?_)
  refine ht_if ?_ ?_ <;> intro h0 <;> simp only [Bool.not_eq_true', Bool.not_eq_false', decide_eq_true_eq, decide_eq_false_iff_not] at h0
  · repeat (refine stp ?_)
    refine ok_spec ?_
    repeat (refine stp ?_)
    rw [if_neg h0] at h
    exact ret1 rfl h
  · repeat (refine stp ?_)
    refine ok_spec ?_
    repeat (refine stp ?_)
    rw [if_pos h0] at h
    exact ret1 rfl h

/-- a count: the mistake, the number, how many bytes -/
def countM (e : Int) (bs : List UInt8) (most : Int) : Int × Int × Nat :=
  if (wordR e bs).1 ≠ 0 then ((wordR e bs).1, 0, 0)
  else if (shr64 (wordR e bs).2.1 63).toNat = 1 then (3, 0, 0)
  else if most < IntKind.i64.wrap (wordR e bs).2.1.toNat then (2, 0, 0)
  else (0, IntKind.i64.wrap (wordR e bs).2.1.toNat, (wordR e bs).2.2)
theorem RCount_spec {L R K p e v most} {bs : List UInt8} [pl : Pull (pto p) L (cells [.int .i64 e, v] 162) R] [rs : RdE R encB v bs]
    (h : ∀ v', SubOf v bs v' (bs.drop (countM e bs most).2.2) → One1 v' → Ht (pto p (cells [.int .i64 (countM e bs most).1, v'] 162) :: R) (K (.int .i64 (countM e bs most).2.1))) : Ht L (CCall Tryz.prog 104 [.pointer (some ⟨p,0,none⟩), .int .i64 most] K) := by
  haveI := rs.toS
  refine Ht.conseq ?_ (fun w s => pl.sat s)
  refine Ht.know (p := One1 v) (fun w s => one1_of (rs.h w s.tail)) (fun ho => ?_)
  refine ccall2 Tryz.func104 rfl (by decide) Tryz.ntmps104 (by rfl) (by decide) ?_
  repeat (refine stp ?_)
  refine ok_spec ?_
  repeat (refine stp ?_)
  refine ht_if ?_ ?_ <;> intro h0 <;> simp only [Bool.not_eq_true', Bool.not_eq_false', decide_eq_true_eq, decide_eq_false_iff_not] at h0
  · repeat (refine stp ?_)
    have e1 : wordR e bs = (e, 0, 0) := if_neg h0
    have e2 : countM e bs most = (e, 0, 0) := by simp only [countM, e1]; rw [if_pos h0]
    rw [e2] at h
    refine ret1 rfl ?_; exact (h v .refl ho)
  · repeat (refine stp ?_)
    refine word_spec (bs := bs) fun v1 r1 o1 => ?_
    repeat (refine stp ?_)
    refine ok_spec ?_
    repeat (refine stp ?_)
    have hc : countM e bs most = if (wordR e bs).1 ≠ 0 then ((wordR e bs).1, 0, 0) else if (shr64 (wordR e bs).2.1 63).toNat = 1 then (3, 0, 0) else if most < IntKind.i64.wrap (wordR e bs).2.1.toNat then (2, 0, 0) else (0, IntKind.i64.wrap (wordR e bs).2.1.toNat, (wordR e bs).2.2) := rfl
    generalize wordR e bs = x at r1 hc ⊢
    obtain ⟨x1, x2, x3⟩ := x
    dsimp only at r1 hc ⊢
    have d0 : decide ((0 : Int) = 0) = true := rfl
    have n3 : (if (0 : Int) = 0 then (3 : Int) else 0) = 3 := rfl
    have n2 : (if (0 : Int) = 0 then (2 : Int) else 0) = 2 := rfl
    have m3 : decide ((3 : Int) = 0) = false := rfl
    have m2 : decide ((2 : Int) = 0) = false := rfl
    have i3 : (if (3 : Int) = 0 then v1 else v) = v := rfl
    have i2 : (if (2 : Int) = 0 then v1 else v) = v := rfl
    have i0 : (if (0 : Int) = 0 then v1 else v) = v1 := rfl
    by_cases c1 : x1 = 0
    · subst c1
      rw [if_neg (by simp)] at hc
      by_cases c2 : (shr64 x2 63).toNat = 1
      · rw [if_pos c2] at hc
        rw [hc] at h
        have d2 : decide (((shr64 x2 63).toNat : Int) = 1) = true := by simp; omega
        repeat (first | refine stp ?_ | rewrite [d0] | rewrite [Bool.not_false] | rewrite [Bool.not_true] | rewrite [n3] | rewrite [n2] | rewrite [m3] | rewrite [m2] | rewrite [i3] | rewrite [i2] | rewrite [i0] | rewrite [d2] | refine ok_spec ?_ | refine note_spec ?_ | refine back_spec ?_)
        refine ret1 rfl ?_; exact (h v .refl ho)
      · rw [if_neg c2] at hc
        have d2 : decide (((shr64 x2 63).toNat : Int) = 1) = false := by simp; omega
        by_cases c3 : most < IntKind.i64.wrap x2.toNat
        · rw [if_pos c3] at hc
          rw [hc] at h
          have d3 : decide (most < IntKind.i64.wrap x2.toNat) = true := by simp [c3]
          repeat (first | refine stp ?_ | rewrite [d0] | rewrite [Bool.not_false] | rewrite [Bool.not_true] | rewrite [n3] | rewrite [n2] | rewrite [m3] | rewrite [m2] | rewrite [i3] | rewrite [i2] | rewrite [i0] | rewrite [d2] | rewrite [d3] | refine ok_spec ?_ | refine note_spec ?_ | refine back_spec ?_)
          refine ret1 rfl ?_; exact (h v .refl ho)
        · rw [if_neg c3] at hc
          rw [hc] at h
          have d3 : decide (most < IntKind.i64.wrap x2.toNat) = false := by simp [c3]
          repeat (first | refine stp ?_ | rewrite [d0] | rewrite [Bool.not_false] | rewrite [Bool.not_true] | rewrite [n3] | rewrite [n2] | rewrite [m3] | rewrite [m2] | rewrite [i3] | rewrite [i2] | rewrite [i0] | rewrite [d2] | rewrite [d3] | refine ok_spec ?_ | refine note_spec ?_ | refine back_spec ?_)
          refine ret1 rfl ?_; exact (h v1 r1 o1)
    · rw [if_pos c1] at hc
      rw [hc] at h
      have d1 : decide (x1 = 0) = false := by simp [c1]
      have i1 : (if x1 = 0 then v1 else v) = v := if_neg c1
      rewrite [d1]
      repeat (first | refine stp ?_ | rewrite [d0] | rewrite [Bool.not_false] | rewrite [Bool.not_true] | rewrite [n3] | rewrite [n2] | rewrite [m3] | rewrite [m2] | rewrite [i3] | rewrite [i2] | rewrite [i0] | rewrite [d1] | rewrite [i1] | refine ok_spec ?_ | refine note_spec ?_ | refine back_spec ?_)
      refine ret1 rfl ?_; exact (h v .refl ho)
end Go.Proofs

set_option linter.all false
namespace Go.Proofs
open Go Go.SL

theorem and127 (n : UInt64) : (n &&& 127).toNat = n.toNat % 128 := by
  rw [UInt64.toNat_and]
  exact Nat.and_two_pow_sub_one_eq_mod n.toNat 7
theorem and127b (n : UInt8) : (n &&& 127).toNat = n.toNat % 128 := by
  rw [UInt8.toNat_and]
  exact Nat.and_two_pow_sub_one_eq_mod n.toNat 7
theorem ofInt_small (n : Nat) (h : n < 256) : (UInt8.ofInt (n : Int)).toNat = n := by
  simp [UInt8.ofInt, UInt8.toNat_ofNat']; omega
theorem ofInt64_small (n : Nat) (h : n < 18446744073709551616) : (UInt64.ofInt (n : Int)).toNat = n := by
  simp [UInt64.ofInt, UInt64.toNat_ofNat']; omega
theorem cut0 (n : UInt64) : (cut n 0).toNat = n.toNat % 128 := by
  unfold cut
  rw [UInt8.toNat_or, ofInt_small _ (by rw [and127]; omega), and127]
  simp
theorem cut128 (n : UInt64) : (cut n 128).toNat = n.toNat % 128 + 128 := by
  unfold cut
  rw [UInt8.toNat_or, ofInt_small _ (by rw [and127]; omega), and127]
  have h := Nat.two_pow_add_eq_or_of_lt (i := 7) (b := n.toNat % 128) (by omega) 1
  show n.toNat % 128 ||| 128 = _
  rw [Nat.or_comm]
  simpa [Nat.add_comm] using h.symm
theorem shr7 (n : UInt64) : (shr64 n 7).toNat = n.toNat / 128 := by rw [shr64_toNat]; rfl
/-- the next group in its place -/
theorem or_place {n : UInt64} {c : UInt8} {i : Nat} (hi : i ≤ 9) (hn : n.toNat < 2 ^ (7 * i)) (h9 : i = 9 → c.toNat ≤ 1) :
    (n ||| shl64 (UInt64.ofInt ((c &&& 127).toNat : Int)) (7 * i)).toNat = n.toNat + 2 ^ (7 * i) * (c.toNat % 128) := by
  have hc : (UInt64.ofInt ((c &&& 127).toNat : Int)).toNat = c.toNat % 128 := by rw [ofInt64_small _ (by rw [and127b]; omega), and127b]
  have hm : min (7 * i) 64 = 7 * i := by omega
  have hlt : c.toNat % 128 * 2 ^ (7 * i) < 18446744073709551616 := by
    by_cases h : i = 9
    · subst h
      have := h9 rfl
      have h2 : c.toNat % 128 ≤ 1 := by omega
      calc c.toNat % 128 * 2 ^ (7 * 9) ≤ 1 * 2 ^ (7 * 9) := Nat.mul_le_mul_right _ h2
        _ < _ := by decide
    · have h2 : 2 ^ (7 * i) ≤ 2 ^ 56 := Nat.pow_le_pow_right (by decide) (by omega)
      calc c.toNat % 128 * 2 ^ (7 * i) ≤ 127 * 2 ^ 56 := Nat.mul_le_mul (by omega) h2
        _ < _ := by decide
  have hs : (shl64 (UInt64.ofInt ((c &&& 127).toNat : Int)) (7 * i)).toNat = c.toNat % 128 * 2 ^ (7 * i) := by
    unfold shl64
    rw [hc, hm, UInt64.toNat_ofNat']
    exact Nat.mod_eq_of_lt hlt
  rw [UInt64.toNat_or, hs, Nat.or_comm, Nat.mul_comm (c.toNat % 128)]
  rw [← Nat.two_pow_add_eq_or_of_lt hn]
  omega
theorem word_sevens : ∀ (bs : List UInt8) (i : Nat) (n r : UInt64) (j : Nat), i ≤ 9 → n.toNat < 2 ^ (7 * i) → wordM i n bs = (0, r, j) →
    ∃ q : Nat, r.toNat = n.toNat + 2 ^ (7 * i) * q ∧ i < j ∧ j ≤ 10 ∧ (0 < i → 0 < q) ∧ q < 18446744073709551616 ∧ sevensM (UInt64.ofNat q) (10 - i) = bs.take (j - i) ∧ j - i ≤ bs.length
  | [], i, n, r, j, hi, hn, h => by simp [wordM] at h
  | c :: cs, i, n, r, j, hi, hn, h => by
    simp only [wordM] at h
    have hc := c.toNat_lt
    split at h
    · simp at h
    rename_i h1
    have hor := or_place hi hn (c := c) (fun e => by omega)
    split at h
    · rename_i h2
      have hi8 : i ≤ 8 := by omega
      have hn' : (n ||| shl64 (UInt64.ofInt ((c &&& 127).toNat : Int)) (7 * i)).toNat < 2 ^ (7 * (i + 1)) := by
        rw [hor]
        have : 2 ^ (7 * (i + 1)) = 2 ^ (7 * i) * 128 := by rw [Nat.mul_add, Nat.pow_add]
        rw [this]
        have h3 : 2 ^ (7 * i) * (c.toNat % 128) ≤ 2 ^ (7 * i) * 127 := Nat.mul_le_mul_left _ (by omega)
        omega
      obtain ⟨q, e1, e2, e3, e4, e5, e6, e7⟩ := word_sevens cs (i + 1) _ r j (by omega) hn' h
      have hq := e4 (by omega)
      have hr := r.toNat_lt
      have e1' : r.toNat = n.toNat + 2 ^ (7 * i) * (c.toNat % 128 + 128 * q) := by
        have hp : 2 ^ (7 * (i + 1)) * q = 2 ^ (7 * i) * (128 * q) := by rw [Nat.mul_add, Nat.pow_add, Nat.mul_assoc]
        rw [e1, hor, hp, Nat.mul_add]
        omega
      have hqlt : c.toNat % 128 + 128 * q < 18446744073709551616 := by
        have h1 : 1 * (c.toNat % 128 + 128 * q) ≤ 2 ^ (7 * i) * (c.toNat % 128 + 128 * q) := Nat.mul_le_mul_right _ (Nat.one_le_two_pow)
        omega
      refine ⟨c.toNat % 128 + 128 * q, e1', by omega, e3, by omega, hqlt, ?_, by simp; omega⟩
      have hk : 10 - i = (10 - (i + 1)) + 1 := by omega
      have hv : (UInt64.ofNat (c.toNat % 128 + 128 * q)).toNat = c.toNat % 128 + 128 * q := by rw [UInt64.toNat_ofNat']; exact Nat.mod_eq_of_lt hqlt
      have hj : j - i = (j - (i + 1)) + 1 := by omega
      rw [hk, hj, List.take_succ_cons]
      simp only [sevensM]
      rw [if_pos (by omega)]
      congr 1
      · apply UInt8.toNat_inj.1
        rw [cut128, hv]; omega
      · rw [← e6]
        congr 1
        apply UInt64.toNat_inj.1
        rw [shr7, hv, UInt64.toNat_ofNat']
        rw [Nat.mod_eq_of_lt e5]
        omega
    · rename_i h2
      split at h
      · simp at h
      rename_i h3
      simp only [Prod.mk.injEq, true_and] at h
      obtain ⟨rfl, rfl⟩ := h
      refine ⟨c.toNat % 128, hor, by omega, by omega, by omega, by omega, ?_, by simp⟩
      have hj : i + 1 - i = 0 + 1 := by omega
      rw [hj, List.take_succ_cons, List.take_zero]
      have hv : (UInt64.ofNat (c.toNat % 128)).toNat = c.toNat % 128 := by rw [UInt64.toNat_ofNat']; omega
      have e0 : [cut (UInt64.ofNat (c.toNat % 128)) 0] = [c] := by
        congr 1
        apply UInt8.toNat_inj.1
        rw [cut0, hv]; omega
      cases hk : 10 - i with
      | zero => simpa only [sevensM] using e0
      | succ k => simp only [sevensM]; rw [if_neg (by omega)]; exact e0
end Go.Proofs

set_option linter.all false
set_option synthInstance.maxSize 100000
set_option synthInstance.maxHeartbeats 400000
namespace Go.Proofs
open Go Go.SL
attribute [local irreducible] CCall CO CC CX CD

theorem bytes_spec {L R K p e v} {bs : List UInt8} {i : Int} {n : Nat} [tn : ToNat i n] [pl : Pull (pto p) L (cells [.int .i64 e, v] 162) R] [rs : RdE R encB v bs] (hi : 0 ≤ i)
    (h0 : e ≠ 0 → Ht (pto p (cells [.int .i64 e, v] 162) :: R) (K (.slice none 0 0)))
    (h1 : e = 0 → bs.length < n → Ht (pto p (cells [.int .i64 12, v] 162) :: R) (K (.slice none 0 0)))
    (h2 : e = 0 → n ≤ bs.length → ∀ v1 v2, SubOf v bs v1 (bs.take n) → SubOf v bs v2 (bs.drop n) → One1 v2 → Ht (pto p (cells [.int .i64 0, v2] 162) :: R) (K v1)) :
    Ht L (CCall Tryz.prog 108 [.pointer (some ⟨p,0,none⟩), .int .i64 i] K) := by
  have hin : i = (n : Int) := by have := tn.h; omega
  subst hin
  haveI := rs.toS
  refine Ht.conseq ?_ (fun w s => pl.sat s)
  refine Ht.know (p := One1 v) (fun w s => one1_of (rs.h w s.tail)) (fun ho => ?_)
  refine ccall2 Tryz.func108 rfl (by decide) Tryz.ntmps108 (by rfl) (by decide) ?_
  repeat (refine stp ?_)
  refine ok_spec ?_
  repeat (refine stp ?_)
  refine ht_if ?_ ?_ <;> intro hc <;> simp only [Bool.not_eq_true', Bool.not_eq_false', decide_eq_true_eq, decide_eq_false_iff_not] at hc
  · repeat (refine stp ?_)
    exact ret1 rfl (h0 hc)
  · subst hc
    repeat (refine stp ?_)
    refine ht_if ?_ ?_ <;> intro hl <;> simp only [decide_eq_true_eq, decide_eq_false_iff_not] at hl
    · repeat (refine stp ?_)
      refine note_spec ?_
      repeat (refine stp ?_)
      exact ret1 rfl (h1 rfl (by omega))
    · repeat (refine stp ?_)
      refine co_slice3 (xs := bs) ⟨by omega, by omega, by omega⟩ ?_
      intro i3
      repeat (refine stp ?_)
      refine co_slice (xs := bs) ⟨by omega, by omega, by omega⟩ ?_
      intro i2
      have r0 : SubOf v bs (slSub v 1 n bs.length) (bs.drop n) := .drop (by omega)
      have r1 : SubOf v bs (slSub3 v 1 0 n n) (bs.take n) := fun w s => slSub3_in s ⟨Nat.le_refl _, by omega⟩
      refine Ht.know (p := One1 (slSub v 1 n bs.length)) (fun w s => one1_of (r0 w (rs.h w s.tail))) (fun o1 => ?_)
      repeat (refine stp ?_)
      refine ret1 rfl ?_
      exact h2 rfl (by omega) _ _ r1 r0 o1

def unzig (n : UInt64) : Int := bXor .i64 (IntKind.i64.wrap (shr64 n 1).toNat) (IntKind.i64.wrap (0 - IntKind.i64.wrap (n &&& 1).toNat))
end Go.Proofs
