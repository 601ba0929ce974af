/- The parts FXG, FXH, FXI, TBsw, FXJ, FXK, FXL, FXM, FXN, FXO, FXP, FYC, TBsl, SLXE, SLXF, SLXC, IDA of the engine and of the walk, one behind the other: no condition. -/
import Derived.Test.YtkaglgcglbkdhaaBd2c26d8a
import Derived.Test.YtkaglgcglbkdhaaB18de254f
import Derived.Laws.Strings
import Derived.Laws.Slices
import Std

set_option linter.all false
set_option synthInstance.maxSize 100000
set_option synthInstance.maxHeartbeats 400000
namespace Go.Proofs
open Go Go.SL
attribute [local irreducible] CCall CO CC CX CD

theorem takeSnoc {α : Type} [Inhabited α] {q : List α} {i : Nat} (hi : i < q.length) : q.take (i + 1) = q.take i ++ [q[i]!] := by
  rw [List.take_add_one, List.getElem?_eq_getElem hi, getElem!_pos q i hi]; rfl
abbrev Bk := ByteArray × (Int × SVy) × (Int × SVy)
@[reducible] def encBk : Enc Bk := ⟨5, fun x => [.string x.1, .bool (decide (x.2.1.1 < 0)), .slice x.2.1.2.1 x.2.1.2.2.1 x.2.1.2.2.2, .bool (decide (x.2.2.1 < 0)), .slice x.2.2.2.1 x.2.2.2.2.1 x.2.2.2.2.2], fun _ => rfl, fun _ v h => by simp at h; rcases h with rfl | rfl | rfl | rfl | rfl <;> rfl⟩
def absB (l : List Bk) : List (ByteArray × Int × Int) := l.map fun x => (x.1, x.2.1.1, x.2.2.1)
def brkOf (X Y : List (ByteArray × Int)) (p : ByteArray × Int) : ByteArray × Int × Int := (p.1, (tfind p.1 X).getD 0, (tfind p.1 Y).getD 0)
def brkL (X Y B : List (ByteArray × Int)) : List (ByteArray × Int × Int) := (B.filter fun p => decide (p.2 ≠ 0)).map (brkOf X Y)
def nzL (x : Ln) : Bool := decide (x.2.1 ≠ 0)
def nilS : SVy := (none, 0, 0)
theorem Ht.pool0 {L : List HP} {G : World → Prop} (h : Ht (bigO pown [(0, nilS)] :: L) G) : Ht L G := fun w s => h w (by
  have s2 : Sat (pown (0, nilS) :: bigO pown ([] ++ []) :: L) w := by
    have : dgI 0 = [] := dg_nil.2 rfl
    unfold pown
    rw [this]
    exact own_nil.2 (bigO_nil.2 s)
  exact (bigO_split (f := pown) (l1 := []) (l2 := []) (x := (0, nilS))).2 s2)
theorem of_get {L K v} {ls : List Ln} {k : ByteArray} [rs : RdE L encLn v ls] (hs : Srt ls) (hn : ls.length ≤ 1000000)
    (h : Ht L (K (nV ((tfind k ls).getD (0, nilS)).1 (svY ((tfind k ls).getD (0, nilS)).2)))) : Ht L (CCall Try.prog 63 [v, .string k] K) :=
  of_spec hs hn (fun p hp => by rw [hp] at h; exact h) (fun hp => by rw [hp] at h; exact h)
theorem len_pos {sv : SVy} {z : Int} {w : World} (h : SlIn w (svY sv) SL.encI (dgI z)) : sv.2.1 = (dgI z).length := by
  rcases h with ⟨h1, h2⟩ | ⟨a, c, h1, _⟩
  · unfold svY at h1
    injection h1 with e1 e2 e3
    rw [h2]; exact e2
  · unfold svY at h1
    injection h1 with e1 e2 e3
theorem dgI_pos {z : Int} : (0 < ((dgI z).length : Int)) ↔ z ≠ 0 := by
  unfold dgI
  constructor
  · intro h hz
    rw [hz] at h
    have : dg (0 : Int).natAbs = [] := dg_nil.2 rfl
    rw [this] at h; simp at h
  · intro h
    have : dg z.natAbs ≠ [] := fun hh => h (by have := dg_nil.1 hh; omega)
    have := List.length_pos_iff.2 this
    omega
theorem getD_in {ls : List Ln} {P : List (Int × SVy)} (hs : Srt ls) (hp : InP ls P) (h0 : (0, nilS) ∈ P) (k : ByteArray) : (tfind k ls).getD (0, nilS) ∈ P := by
  cases hf : tfind k ls with
  | none => exact h0
  | some p => exact hp _ ((tfind_mem hs).1 hf)
theorem absL_find {ls : List Ln} {k : ByteArray} : (tfind k (absL ls)).getD 0 = ((tfind k ls).getD (0, nilS)).1 := by
  unfold absL
  rw [ktfind_map (fun p : Int × SVy => p.1)]
  cases tfind k ls <;> rfl
theorem RBreaks_spec {L K rv1 rv2} {r1 r2 : List (ByteArray × Int)} {c1 c2 : Int} [q1 : RdE L encRw rv1 r1] [q2 : RdE L encRw rv2 r2] (hn1 : r1.length ≤ 20000) (hn2 : r2.length ≤ 20000) (hc1 : fitW c1) (hc2 : fitW c2) (h1 : rows64 r1) (h2 : rows64 r2)
    (h : ∀ v' bs P', One1 v' → absB bs = brkL (linesL [] r1 c1) (linesL [] r2 c2) (linesL (linesL [] r1 c1) r2 c2) → (∀ x ∈ bs, x.2.1 ∈ P' ∧ x.2.2 ∈ P') → (∀ x ∈ bs, smallZ x.2.1.1 ∧ smallZ x.2.2.1) → bs.length ≤ 60000 → Ht (own encBk 79 v' bs :: bigO pown P' :: L) (K v')) :
    Ht L (CCall Try.prog 30 [hV rv1 c1, hV rv2 c2] K) := by
  have hr1 : ∀ (M : List HP) [fr : Frm M L], RdE M encRw rv1 r1 := fun M fr => ⟨fun w t => q1.h w (fr.h _ _ t)⟩
  have hr2 : ∀ (M : List HP) [fr : Frm M L], RdE M encRw rv2 r2 := fun M fr => ⟨fun w t => q2.h w (fr.h _ _ t)⟩
  have hnil : ∀ M : List HP, RdE M encLn (.slice none 0 0) [] := fun M => ⟨fun _ _ => .inl ⟨rfl, rfl⟩⟩
  refine Ht.know (p := One1 rv1 ∧ One1 rv2) (fun w t => ⟨one1_of (q1.h w t), one1_of (q2.h w t)⟩) (fun ⟨o1, o2⟩ => ?_)
  refine ccall2 Try.func30 rfl (by decide) Try.ntmps30 (by rfl) (by decide) ?_
  repeat (refine stp ?_)
  intro k2
  repeat (refine stp ?_)
  intro k3
  repeat (refine stp ?_)
  refine ht_draw Try.can30x1 Try.mixed (by kernel_rfl) ?_
  repeat (refine stp ?_)
  refine Ht.pool0 ?_
  refine Lines_spec (ls := []) (P := [(0, nilS)]) (rows := r1) (c := c1) (M := 0) srt_nil (by simp; omega) (by omega) (fun x hx => by cases hx) (fun x hx => by cases hx) hc1 h1 fun xv xs P1 ox hxa hxs hxp hx0 hxb hxl => ?_
  repeat (refine stp ?_)
  refine Lines_spec (ls := []) (P := P1) (rows := r2) (c := c2) (M := 0) srt_nil (by simp; omega) (by omega) (fun x hx => by cases hx) (fun x hx => by cases hx) hc2 h2 fun yv ys P2 oy hya hys hyp hy0 hyb hyl => ?_
  repeat (refine stp ?_)
  refine ht_draw Try.can30x2 Try.mixed (by kernel_rfl) ?_
  repeat (refine stp ?_)
  refine Lines_spec (ls := []) (P := P2) (rows := r1) (c := c1) (M := 0) srt_nil (by simp; omega) (by omega) (fun x hx => by cases hx) (fun x hx => by cases hx) hc1 h1 fun tv ts P3 ot hta hts htp ht0 htb htl => ?_
  repeat (refine stp ?_)
  refine Lines_spec (ls := ts) (P := P3) (rows := r2) (c := c2) (M := 0 + 1 + r1.length) hts (by simp at htl; omega) (by omega) htb htp hc2 h2 fun bv bl P bo hba hbs hbp hb0 hbb hbl => ?_
  repeat (refine stp ?_)
  have hxP : InP xs P := fun x hx => hb0 _ (ht0 _ (hy0 _ (hxp x hx)))
  have hyP : InP ys P := fun x hx => hb0 _ (ht0 _ (hyp x hx))
  have h0P : (0, nilS) ∈ P := hb0 _ (ht0 _ (hy0 _ (hx0 _ (by simp))))
  have hxS := bnd_small (by omega) hxb
  have hyS := bnd_small (by omega) hyb
  simp only [List.length_nil] at hxl hyl htl
  rw [show absL ([] : List Ln) = [] from rfl] at hxa hya hta
  rw [hta] at hba
  have hgetS : ∀ (ls : List Ln) (k : ByteArray), Srt ls → (∀ x ∈ ls, smallZ x.2.1) → smallZ ((tfind k ls).getD (0, nilS)).1 := fun ls k hs hS => by
    cases hf : tfind k ls with
    | none => show smallZ 0; unfold smallZ; omega
    | some p => exact hS _ ((tfind_mem hs).1 hf)
  obtain ⟨mk, hmk⟩ : ∃ mk : Ln → Bk, mk = fun x => (x.1, (tfind x.1 xs).getD (0, nilS), (tfind x.1 ys).getD (0, nilS)) := ⟨_, rfl⟩
  refine cc_env (E' := [(9, .int .i64 0), (8, .slice none 0 0), (7, bv), (6, yv), (5, xv)]) inferInstance ?_
  refine ht_for bl.length (fun i (x : Value) => One1 x) (fun i x => own encBk 79 x (((bl.take i).filter nzL).map mk) :: own encLn 97 bv bl :: bigO pown P :: own encLn 97 yv ys :: own encLn 97 xv xs :: L) (fun i x => [(9, .int .i64 (i : Int)), (8, x)]) (.slice none 0 0) [9, 8]
    ⟨rfl⟩ (fun w t => own_nil.2 ((inferInstance : Frm _ _).h _ _ t)) (SubE.cons rfl (SubE.cons rfl inferInstance)) ?_
  intro i x hi ox2
  dsimp only [List.cons_append, List.nil_append] at ox2 ⊢
  have hfl : (((bl.take i).filter nzL).map mk).length ≤ i := by
    rw [List.length_map]
    have := List.length_filter_le nzL (bl.take i)
    rw [List.length_take] at this; omega
  repeat (refine stp ?_)
  refine ht_if ?_ ?_ <;> intro hcc <;> simp only [decide_eq_true_eq, decide_eq_false_iff_not] at hcc
  · have hii : i < bl.length := by omega
    have hmem : bl[i]! ∈ bl := List.mem_of_getElem? (getB hii)
    have hpi := hbp _ hmem
    repeat (refine stp ?_)
    refine co_index (xs := bl) (by omega) ?_
    intro hb
    refine Ht.know (p := (bl[i]!).2.2.2.1 = (dgI (bl[i]!).2.1).length) (fun w t => len_pos ((pown_at hpi _ _).h w t)) (fun hlen => ?_)
    repeat (refine stp ?_)
    rewrite [hlen]
    have hts2 := takeSnoc hii
    refine ht_if ?_ ?_ <;> intro hnz <;> simp only [decide_eq_true_eq, decide_eq_false_iff_not] at hnz
    · have hz := dgI_pos.1 hnz
      repeat (refine stp ?_)
      refine ht_draw Try.can30x8 Try.mixed (by kernel_rfl) ?_
      repeat (refine stp ?_)
      refine cd_index (xs := bl) (by omega) ?_
      intro hb1 hb2
      repeat (refine stp ?_)
      refine of_get (ls := xs) hxs (by omega) ?_
      repeat (refine stp ?_)
      refine of_get (ls := ys) hys (by omega) ?_
      repeat (refine stp ?_)
      intro b1
      repeat (refine stp ?_)
      refine Ht.own_lit encBk (b := b1) (n := 1) (xs := [((bl[i]!).1, (tfind (bl[i]!).1 xs).getD (0, nilS), (tfind (bl[i]!).1 ys).getD (0, nilS))]) rfl rfl (by decide) ?_
      refine co_append (e := encBk) (xs := (((bl.take i).filter nzL).map mk)) (ys := [((bl[i]!).1, (tfind (bl[i]!).1 xs).getD (0, nilS), (tfind (bl[i]!).1 ys).getD (0, nilS))]) (by rfl) (by rw [List.length_cons, List.length_nil]; omega) (by rw [List.length_cons, List.length_nil]; omega) ?_
      intro x2
      refine Ht.one1 (v := x2) ?_
      intro ox3
      repeat (refine stp ?_)
      refine ht_next x2 hii ox3 (fun w t => ?_) (SubE.cons (by rw [IntWalk.i64_in _ (by omega)]; rfl) (SubE.cons rfl inferInstance)) rfl rfl
      rw [hts2, List.filter_append, List.filter_cons_of_pos (show nzL (bl[i]!) = true from decide_eq_true hz), List.filter_nil, List.map_append]
      rw [show [bl[i]!].map mk = [((bl[i]!).1, (tfind (bl[i]!).1 xs).getD (0, nilS), (tfind (bl[i]!).1 ys).getD (0, nilS))] from by rw [hmk]; rfl]
      exact (inferInstance : Frm _ _).h _ _ t
    · have hz : (bl[i]!).2.1 = 0 := Classical.not_not.1 fun hh => hnz (dgI_pos.2 hh)
      repeat (refine stp ?_)
      refine ht_next x hii ox2 (fun w t => ?_) (SubE.cons (by rw [IntWalk.i64_in _ (by omega)]; rfl) (SubE.cons rfl inferInstance)) rfl rfl
      rw [hts2, List.filter_append, List.filter_cons_of_neg (show ¬ nzL (bl[i]!) = true from fun hh => of_decide_eq_true hh hz), List.filter_nil, List.append_nil]
      exact t
  · have ei : i = bl.length := by omega
    subst ei
    rw [List.take_length] at hfl ⊢
    repeat (refine stp ?_)
    have h9 := h x ((bl.filter nzL).map mk) P ox2 (by
      rw [← hxa, ← hya]
      rw [hxa, ← hba]
      unfold absB brkL
      rw [List.map_map]
      rw [← hxa, show absL bl = bl.map (fun x => (x.1, x.2.1)) from rfl, List.filter_map, List.map_map]
      refine List.map_congr_left fun y _ => ?_
      simp only [Function.comp, hmk, brkOf, absL_find]) (fun b hb => by
      obtain ⟨y, _, rfl⟩ := List.mem_map.1 hb
      rw [hmk]
      exact ⟨getD_in hxs hxP h0P _, getD_in hys hyP h0P _⟩) (fun b hb => by
      obtain ⟨y, _, rfl⟩ := List.mem_map.1 hb
      rw [hmk]
      exact ⟨hgetS xs _ hxs hxS, hgetS ys _ hys hyS⟩) (by omega)
    exact ret1 rfl (Ht.frm h9)
end Go.Proofs

set_option linter.all false
set_option synthInstance.maxSize 100000
set_option synthInstance.maxHeartbeats 400000
namespace Go.Proofs
open Go Go.SL
attribute [local irreducible] CCall CO CC CX CD

/-! ### what a holding is -/
abbrev Rows := List (ByteArray × Int)
def badR (r : ByteArray × Int) : Bool := decide (r.2 = 0) || decide (r.1 = noS)
def RightP (l : Rows) : Prop := Srt l ∧ ∀ r ∈ l, badR r = false
noncomputable instance {l : Rows} : Decidable (RightP l) := Classical.propDecidable _
theorem srt_of_adj : ∀ {l : Rows}, (∀ i, i + 1 < l.length → KLt.lt (l[i]!).1 (l[i + 1]!).1 = true) → Srt l
  | [], _ => List.Pairwise.nil
  | [x], _ => List.pairwise_singleton _ _
  | x :: y :: l, h => by
    have ht : Srt (y :: l) := srt_of_adj fun i hi => by
      have := h (i + 1) (by simpa using hi)
      simpa using this
    have h0 : KLt.lt x.1 y.1 = true := by simpa using h 0 (by simp)
    refine List.pairwise_cons.2 ⟨fun z hz => ?_, ht⟩
    rcases List.mem_cons.1 hz with rfl | hz
    · exact h0
    · exact KLt.tr _ _ _ h0 ((List.pairwise_cons.1 ht).1 z hz)
theorem adj_of_srt {l : Rows} (h : Srt l) {i : Nat} (hi : i + 1 < l.length) : KLt.lt (l[i]!).1 (l[i + 1]!).1 = true := srt_lt h (Nat.lt_succ_self i) (getB (by omega)) (getB hi)
theorem NSorted_spec {L K v} {l : Rows} [rs : RdE L encRw v l] (hn : l.length ≤ 1000000) (h : ∀ b : Bool, (b = true ↔ Srt l) → Ht L (K (.bool b))) : Ht L (CCall Try.prog 75 [v] K) := by
  haveI := rs.toS
  refine Ht.know (p := One1 v) (fun w t => one1_of (rs.h w t)) (fun ov => ?_)
  refine ccall1 Try.func75 rfl (by decide) Try.ntmps75 (by rfl) (by decide) ?_
  repeat (refine stp ?_)
  refine ht_for (l.length - 1) (fun j (_ : Unit) => ∀ t, t < j → KLt.lt (l[t]!).1 (l[t + 1]!).1 = true) (fun _ _ => L) (fun j _ => [(3, .int .i64 ((j + 1 : Nat) : Int))]) () [3] (fun t ht => absurd ht (by omega)) (fun _ t => t) (SubE.cons rfl inferInstance) ?_
  intro j _ hj hinv
  dsimp only [List.cons_append, List.nil_append]
  repeat (refine stp ?_)
  refine ht_if ?_ ?_ <;> intro hc <;> simp only [decide_eq_true_eq, decide_eq_false_iff_not] at hc
  · repeat (refine stp ?_)
    refine ht_draw Try.can75x4 Try.mixed (by kernel_rfl) ?_
    repeat (refine stp ?_)
    rewrite [show IntKind.i64.wrap (((j + 1 : Nat) : Int) - 1) = (j : Int) from by rw [IntWalk.i64_in _ (by omega)]; omega]
    refine cd_index (xs := l) (by omega) ?_
    intro hb1 hb2
    repeat (refine stp ?_)
    refine cd_index (xs := l) (by omega) ?_
    intro hb3 hb4
    repeat (refine stp ?_)
    cases hlt : Op.bytesLess (l[j]!).1.toList (l[j + 1]!).1.toList
    · have h2 := h false ⟨fun hh => (by cases hh), fun hs => by
        have := adj_of_srt hs (i := j) (by omega)
        rw [show KLt.lt (l[j]!).1 (l[j + 1]!).1 = Op.bytesLess (l[j]!).1.toList (l[j + 1]!).1.toList from rfl, hlt] at this
        cases this⟩
      rewrite [show (!false) = true from rfl]
      repeat (refine stp ?_)
      exact ret1 rfl h2
    · rewrite [show (!true) = false from rfl]
      repeat (refine stp ?_)
      refine ht_next () (by omega) (fun t ht => ?_) (fun _ t => t) (SubE.cons (by rw [IntWalk.i64_in _ (by omega)]; rfl) inferInstance) rfl rfl
      by_cases htj : t = j
      · rw [htj]; exact hlt
      · exact hinv t (by omega)
  · have h2 := h true ⟨fun _ => srt_of_adj fun i hi => hinv i (by omega), fun _ => rfl⟩
    repeat (refine stp ?_)
    exact ret1 rfl h2
theorem badR_spec {L K} {r : ByteArray × Int} (h : Ht L (K (.bool (badR r)))) : Ht L (CCall Try.prog 77 [.agg #[.string r.1, .int .i64 r.2]] K) := by
  refine ccall1 Try.func77 rfl (by decide) Try.ntmps77 (by rfl) (by decide) ?_
  unfold badR at h
  repeat (refine stp ?_)
  intro c1
  repeat (refine stp ?_)
  by_cases h0 : r.2 = 0
  · rewrite [decide_eq_true h0]
    rw [decide_eq_true h0, Bool.true_or] at h
    repeat (refine stp ?_)
    exact ret1 rfl (Ht.frm h)
  · rewrite [decide_eq_false h0]
    rw [decide_eq_false h0, Bool.false_or] at h
    repeat (refine stp ?_)
    exact ret1 rfl (Ht.frm h)
theorem badIdx_spec {L K v} {l : Rows} [rs : RdE L encRw v l] (hn : l.length ≤ 1000000) (h : ∀ b : Bool, (b = false ↔ ∀ r ∈ l, badR r = false) → Ht L (K (.bool b))) : Ht L (CCall Try.prog 76 [v, .func (.func 77) #[] #[]] K) := by
  haveI := rs.toS
  refine Ht.know (p := One1 v) (fun w t => one1_of (rs.h w t)) (fun ov => ?_)
  refine ccall2 Try.func76 rfl (by decide) Try.ntmps76 (by rfl) (by decide) ?_
  repeat (refine stp ?_)
  refine ccall2 Try.func109 rfl (by decide) Try.ntmps109 (by rfl) (by decide) ?_
  repeat (refine stp ?_)
  refine ht_for l.length (fun i (_ : Unit) => ∀ t, t < i → badR (l[t]!) = false) (fun _ _ => L) (fun i _ => [(8, .int .i64 (i : Int))]) () [8] (fun t ht => absurd ht (by omega)) (fun _ t => t) inferInstance ?_
  intro i _ hi hinv
  dsimp only [List.cons_append, List.nil_append]
  repeat (refine stp ?_)
  refine ht_if ?_ ?_ <;> intro hc <;> simp only [decide_eq_true_eq, decide_eq_false_iff_not] at hc
  · have hii : i < l.length := by omega
    repeat (refine stp ?_)
    refine co_index (xs := l) (by omega) ?_
    intro hb
    repeat (refine stp ?_)
    refine badR_spec (r := l[i]!) ?_
    cases hbad : badR (l[i]!)
    · repeat (refine stp ?_)
      refine ht_next () hii (fun t ht => ?_) (fun _ t => t) (SubE.cons (by rw [IntWalk.i64_in _ (by omega)]; rfl) inferInstance) rfl rfl
      by_cases hti : t = i
      · rw [hti]; exact hbad
      · exact hinv t (by omega)
    · have h2 := h true ⟨fun hh => (by cases hh), fun hh => by rw [hh _ (List.mem_of_getElem? (getB hii))] at hbad; cases hbad⟩
      repeat (refine stp ?_)
      refine ret1 rfl ?_
      repeat (refine stp ?_)
      rewrite [show decide ((0 : Int) ≤ (i : Int)) = true from decide_eq_true (by omega)]
      exact ret1 rfl h2
  · have h2 := h false ⟨fun _ r hr => by
      obtain ⟨j, hj, rfl⟩ := List.mem_iff_getElem.1 hr
      have := hinv j (by omega)
      rwa [getElem!_pos l j hj] at this, fun _ => rfl⟩
    repeat (refine stp ?_)
    refine ret1 rfl ?_
    repeat (refine stp ?_)
    rewrite [show decide ((0 : Int) ≤ -1) = false from rfl]
    exact ret1 rfl h2
theorem ARight_spec {L K rv} {l : Rows} {c : Int} [rs : RdE L encRw rv l] (hn : l.length ≤ 1000000) (h : Ht L (K (.bool (decide (RightP l))))) : Ht L (CCall Try.prog 48 [hV rv c] K) := by
  have hrs : ∀ (M : List HP) [fr : Frm M L], RdE M encRw rv l := fun M fr => ⟨fun w t => rs.h w (fr.h _ _ t)⟩
  refine Ht.know (p := One1 rv) (fun w t => one1_of (rs.h w t)) (fun ov => ?_)
  refine ccall1 Try.func48 rfl (by decide) Try.ntmps48 (by rfl) (by decide) ?_
  repeat (refine stp ?_)
  intro c1
  repeat (refine stp ?_)
  refine NSorted_spec (l := l) hn fun b hb => ?_
  repeat (refine stp ?_)
  cases b
  · rw [decide_eq_false (show ¬ RightP l from fun hh => by have := hb.2 hh.1; cases this)] at h
    repeat (refine stp ?_)
    exact ret1 rfl (Ht.frm h)
  · repeat (refine stp ?_)
    refine badIdx_spec (l := l) hn fun b2 hb2 => ?_
    repeat (refine stp ?_)
    have e : decide (RightP l) = !b2 := by
      cases b2
      · exact decide_eq_true ⟨hb.1 rfl, hb2.1 rfl⟩
      · exact decide_eq_false fun hh => by have := hb2.2 hh.2; cases this
    rw [e] at h
    exact ret1 rfl (Ht.frm h)
end Go.Proofs

set_option linter.all false
set_option synthInstance.maxSize 100000
set_option synthInstance.maxHeartbeats 400000
namespace Go.Proofs
open Go Go.SL
attribute [local irreducible] CCall CO CC CX CD

theorem size0 {s : ByteArray} : (s.size : Int) = 0 ↔ s = noS := by
  constructor
  · intro h
    have h1 : s.size = 0 := by omega
    obtain ⟨d⟩ := s
    unfold noS
    congr 1
    exact Array.eq_empty_of_size_eq_zero h1
  · rintro rfl; rfl
theorem RRight_spec {L K rv} {l : Rows} {c : Int} [rs : RdE L encRw rv l] (hn : l.length ≤ 1000000) (h : Ht L (K (.bool (decide (RightP l))))) : Ht L (CCall Try.prog 8 [hV rv c] K) := by
  have hrs : ∀ (M : List HP) [fr : Frm M L], RdS M rv encRw l := fun M fr => ⟨fun w t => (rs.h w (fr.h _ _ t))⟩
  refine Ht.know (p := One1 rv) (fun w t => one1_of (rs.h w t)) (fun ov => ?_)
  refine ccall1 Try.func8 rfl (by decide) Try.ntmps8 (by rfl) (by decide) ?_
  repeat (refine stp ?_)
  intro c1
  repeat (refine stp ?_)
  refine ht_for l.length (fun i (_ : Unit) => (∀ t, t < i → badR (l[t]!) = false) ∧ (∀ t, t + 1 < i → KLt.lt (l[t]!).1 (l[t + 1]!).1 = true)) (fun _ _ => pto c1 (cells [rv, .int .i64 (wHi c), .int .u64 (wLo c)] 34) :: L) (fun i _ => [(3, .int .i64 (i : Int))]) () [3] ⟨fun t ht => absurd ht (by omega), fun t ht => absurd ht (by omega)⟩ (fun _ t => t) inferInstance ?_
  intro i _ hi ⟨hinv, hadj⟩
  dsimp only [List.cons_append, List.nil_append]
  repeat (refine stp ?_)
  refine ht_if ?_ ?_ <;> intro hc <;> simp only [decide_eq_true_eq, decide_eq_false_iff_not] at hc
  · have hii : i < l.length := by omega
    have hmem : l[i]! ∈ l := List.mem_of_getElem? (getB hii)
    have hfalse : badR (l[i]!) = true → decide (RightP l) = false := fun hb => decide_eq_false fun hh => by rw [hh.2 _ hmem] at hb; cases hb
    repeat (refine stp ?_)
    refine ht_draw Try.can8x4 Try.mixed (by kernel_rfl) ?_
    repeat (refine stp ?_)
    refine cd_index (xs := l) (by omega) ?_
    intro hb1 hb2
    by_cases h0 : (l[i]!).2 = 0
    · rw [hfalse (by unfold badR; rw [decide_eq_true h0]; rfl)] at h
      repeat (refine stp ?_)
      rewrite [decide_eq_true h0]
      repeat (refine stp ?_)
      exact ret1 rfl (Ht.frm h)
    repeat (refine stp ?_)
    rewrite [decide_eq_false h0]
    repeat (refine stp ?_)
    by_cases hs : (l[i]!).1 = noS
    · rw [hfalse (by unfold badR; rw [decide_eq_true hs, Bool.or_true])] at h
      rewrite [show decide ((((l[i]!).1.size : Nat) : Int) = 0) = true from decide_eq_true (size0.2 hs)]
      repeat (refine stp ?_)
      exact ret1 rfl (Ht.frm h)
    rewrite [show decide ((((l[i]!).1.size : Nat) : Int) = 0) = false from decide_eq_false fun hh => hs (size0.1 hh)]
    have hbad : badR (l[i]!) = false := by unfold badR; rw [decide_eq_false h0, decide_eq_false hs]; rfl
    have hinv2 : ∀ t, t < i + 1 → badR (l[t]!) = false := fun t ht => by
      by_cases hti : t = i
      · rw [hti]; exact hbad
      · exact hinv t (by omega)
    repeat (refine stp ?_)
    cases i with
    | zero =>
      rewrite [show decide ((0 : Int) < ((0 : Nat) : Int)) = false from rfl]
      repeat (refine stp ?_)
      refine ht_next () hii ⟨hinv2, fun t ht => absurd ht (by omega)⟩ (fun _ t => t) (SubE.cons (by rw [IntWalk.i64_in _ (by omega)]; rfl) inferInstance) rfl rfl
    | succ j =>
      rewrite [show decide ((0 : Int) < ((j + 1 : Nat) : Int)) = true from decide_eq_true (by omega)]
      repeat (refine stp ?_)
      rewrite [show IntKind.i64.wrap (((j + 1 : Nat) : Int) - 1) = (j : Int) from by rw [IntWalk.i64_in _ (by omega)]; omega]
      refine cd_index (xs := l) (by omega) ?_
      intro hb3 hb4
      repeat (refine stp ?_)
      cases hlt : Op.bytesLess (l[j]!).1.toList (l[j + 1]!).1.toList
      · rw [decide_eq_false (show ¬ RightP l from fun hh => by
          have := adj_of_srt hh.1 (i := j) (by omega)
          rw [show KLt.lt (l[j]!).1 (l[j + 1]!).1 = Op.bytesLess (l[j]!).1.toList (l[j + 1]!).1.toList from rfl, hlt] at this
          cases this)] at h
        rewrite [show (!false) = true from rfl]
        repeat (refine stp ?_)
        exact ret1 rfl (Ht.frm h)
      · rewrite [show (!true) = false from rfl]
        repeat (refine stp ?_)
        refine ht_next () hii ⟨hinv2, fun t ht => ?_⟩ (fun _ t => t) (SubE.cons (by rw [IntWalk.i64_in _ (by omega)]; rfl) inferInstance) rfl rfl
        by_cases htj : t = j
        · rw [htj]; exact hlt
        · exact hadj t (by omega)
  · have ei : i = l.length := by omega
    rw [decide_eq_true (show RightP l from ⟨srt_of_adj fun t ht => hadj t (by omega), fun r hr => by
      obtain ⟨j, hj, rfl⟩ := List.mem_iff_getElem.1 hr
      have := hinv j (by omega)
      rwa [getElem!_pos l j hj] at this⟩)] at h
    repeat (refine stp ?_)
    exact ret1 rfl (Ht.frm h)
end Go.Proofs

set_option linter.all false
set_option synthInstance.maxSize 100000
set_option synthInstance.maxHeartbeats 400000
namespace Go.Proofs
open Go Go.SL

attribute [local irreducible] CCall CO CC CX CD
@[reducible] def enc_sw : Enc (ByteArray × (Int × UInt64)) := ⟨3, fun r => [.string r.1, .int .i64 (r.2).1, .int .u64 (r.2).2.toNat], fun _ => rfl, fun _ v h => by simp at h; rcases h with rfl | rfl | rfl <;> rfl⟩
instance : Inhabited (ByteArray × (Int × UInt64)) := ⟨(⟨#[]⟩, ((0, 0) : Int × UInt64))⟩
theorem sw_placeF {L K} {r : (ByteArray × (Int × UInt64))} {k : ByteArray} (h : Ht L (K (.int .i64 (cmpV r.1 k)))) : Ht L (CCall Try.prog 124 [.agg #[.string r.1, .int .i64 (r.2).1, .int .u64 (r.2).2.toNat], .string k] K) := by
  refine ccall2 Try.func124 rfl (by decide) Try.ntmps124 (by rfl) (by decide) ?_
  repeat (refine stp ?_)
  intro b
  repeat (refine stp ?_)
  refine Compare_s_spec ?_
  repeat (refine stp ?_)
  exact ret1 rfl (Ht.frm h)

theorem sw_bs {L K v} {xs : List (ByteArray × (Int × UInt64))} {k : ByteArray} [rd : RdS L v enc_sw xs] (hs : Srt xs) (hn : xs.length ≤ 1000000) (h : Ht L (K (.tuple #[.int .i64 (tpos k xs : Nat), .bool (thas k xs)]))) :
    Ht L (CCall Try.prog 123 [v, .string k, .func (.func 124) #[] #[]] K) := by
  refine ccall3 Try.func123 rfl (by decide) Try.ntmps123 (by rfl) (by decide) ?_
  repeat (refine stp ?_)
  refine ht_iter (α := {p : Nat × Nat // p.1 ≤ p.2 ∧ p.2 ≤ xs.length ∧ (∀ j r, j < p.1 → xs[j]? = some r → KLt.lt r.1 k = true) ∧ (∀ j r, p.2 ≤ j → xs[j]? = some r → KLt.lt r.1 k = false)})
    (fun p => p.1.2 - p.1.1) (fun _ => L) (fun p => [(9, .int .i64 p.1.1), (10, .int .i64 p.1.2)]) ⟨(0, xs.length), by omega, by omega, by intro j r h; simp at h, by intro j r h hj; have := (List.getElem?_eq_some_iff.1 hj).1; omega⟩ [9, 10] (fun _ s => s) inferInstance ?_
  intro ⟨(i, j), hij, hj, hlo, hhi⟩
  dsimp only [List.cons_append, List.nil_append] at hij hj hlo hhi ⊢
  repeat (refine stp ?_)
  refine ht_if ?_ ?_ <;> intro hc <;> simp only [decide_eq_true_eq, decide_eq_false_iff_not] at hc
  · repeat (refine stp ?_)
    rewrite [midw i j (by omega)]
    refine co_index (by omega) ?_
    intro hb
    have hg := getB hb.h
    repeat (refine stp ?_)
    refine sw_placeF ?_
    repeat (refine stp ?_)
    refine ht_if ?_ ?_ <;> intro h1 <;> simp only [decide_eq_true_eq, decide_eq_false_iff_not] at h1
    · repeat (refine stp ?_)
      refine ht_again ⟨((i + j) / 2 + 1, j), ?_⟩ ?_ (fun _ s => s) (SubE.cons (by rw [IntWalk.i64_in _ (by omega)]; rfl) (SubE.cons rfl inferInstance)) rfl rfl
      · exact ⟨by omega, hj, srt_low hs hg (cmpV_neg.1 h1), hhi⟩
      · show j - ((i + j) / 2 + 1) < j - i; omega
    · repeat (refine stp ?_)
      refine ht_again ⟨(i, (i + j) / 2), ?_⟩ ?_ (fun _ s => s) (SubE.cons rfl (SubE.cons rfl inferInstance)) rfl rfl
      · exact ⟨by omega, by omega, hlo, srt_high hs hg (cmpV_nneg h1)⟩
      · show (i + j) / 2 - i < j - i; omega
  · have e : i = j := by omega
    subst e
    have hp := tpos_eq hj hlo hhi
    repeat (refine stp ?_)
    refine ht_guard ?_ ?_ <;> intro h1 <;> simp only [decide_eq_true_eq, decide_eq_false_iff_not] at h1
    · repeat (refine stp ?_)
      refine co_index (by omega) ?_
      intro hb
      have hg := getB hb.h
      repeat (refine stp ?_)
      refine sw_placeF ?_
      repeat (refine stp ?_)
      refine ret2 rfl ?_
      have e2 : decide (cmpV (xs[i]!).1 k = 0) = thas k xs := by
        rw [thas, tfind_at (by rw [hp]; exact hg)]
        by_cases hk : (xs[i]!).1 = k
        · rw [if_pos hk, hk, cmpV_self]; rfl
        · rw [if_neg hk, decide_eq_false (fun h0 => hk (cmpV_zero h0))]; rfl
      rewrite [e2]
      rw [hp] at h
      exact h
    · repeat (refine stp ?_)
      refine ret2 rfl ?_
      have e2 : thas k xs = false := by rw [thas, tfind_end (by omega)]; rfl
      rw [hp, e2] at h
      exact h

/-! a table: its rows' slice lies in cell o of block b -/
theorem sw_place {L L1 R K b o l S v} {xs : List (ByteArray × (Int × UInt64))} {k : ByteArray} [p : Pull (pto b) L (cells l S) L1] [n : Nth l o v] [q : Pull (own enc_sw 175 v) L1 xs R] (hs : Srt xs) (hn : xs.length ≤ 1000000)
    (h : Ht (own enc_sw 175 v xs :: pto b (cells l S) :: R) (K (.tuple #[.int .i64 (tpos k xs : Nat), .bool (thas k xs)]))) :
    Ht L (CCall Try.prog 94 [.pointer (some ⟨b, o, none⟩), .string k] K) := by
  refine Ht.pull p (Ht.two q ?_)
  refine ccall2 Try.func94 rfl (by decide) Try.ntmps94 (by rfl) (by decide) ?_
  repeat (refine stp ?_)
  refine sw_bs hs hn ?_
  repeat (refine stp ?_)
  exact ret2 rfl h

theorem sw_get {L L1 R K b o l S v} {xs : List (ByteArray × (Int × UInt64))} {k : ByteArray} [p : Pull (pto b) L (cells l S) L1] [n : Nth l o v] [q : Pull (own enc_sw 175 v) L1 xs R] (hs : Srt xs) (hn : xs.length ≤ 1000000)
    (h : Ht (own enc_sw 175 v xs :: pto b (cells l S) :: R) (K (.tuple #[.agg #[.int .i64 (((tfind k xs).getD ((0, 0) : Int × UInt64))).1, .int .u64 (((tfind k xs).getD ((0, 0) : Int × UInt64))).2.toNat], .bool (thas k xs)]))) :
    Ht L (CCall Try.prog 59 [.pointer (some ⟨b, o, none⟩), .string k] K) := by
  refine Ht.pull p (Ht.two q ?_)
  refine ccall2 Try.func59 rfl (by decide) Try.ntmps59 (by rfl) (by decide) ?_
  repeat (refine stp ?_)
  intro br
  repeat (refine stp ?_)
  intro bn
  repeat (refine stp ?_)
  refine sw_place hs hn ?_
  repeat (refine stp ?_)
  refine ht_if ?_ ?_ <;> intro h0 <;> simp only [Bool.not_eq_true', Bool.not_eq_false'] at h0
  · repeat (refine stp ?_)
    have e : tfind k xs = none := by rw [thas] at h0; simpa using h0
    rw [h0, e] at h
    exact retct rfl (Ht.frm h)
  · repeat (refine stp ?_)
    obtain ⟨u, hu⟩ := Option.isSome_iff_exists.1 h0
    have hk := tfind_some hu
    have hlt := (List.getElem?_eq_some_iff.1 hk).1
    refine co_index (by omega) ?_
    intro hb
    have e2 : xs[tpos k xs]! = (k, u) := by have := getB hb.h; rw [hk] at this; exact (Option.some.inj this).symm
    repeat (refine stp ?_)
    rw [h0, hu] at h
    rewrite [e2]
    exact retct rfl (Ht.frm h)
theorem sw_get_nil {L K} {k : ByteArray} (h : Ht L (K (.tuple #[.agg #[.int .i64 (((0, 0) : Int × UInt64)).1, .int .u64 (((0, 0) : Int × UInt64)).2.toNat], .bool false]))) : Ht L (CCall Try.prog 59 [.pointer none, .string k] K) := by
  refine ccall2 Try.func59 rfl (by decide) Try.ntmps59 (by rfl) (by decide) ?_
  repeat (refine stp ?_)
  intro br
  repeat (refine stp ?_)
  intro bn
  repeat (refine stp ?_)
  exact retct rfl (Ht.frm h)

theorem sw_insert {L L1 R K sv vb l T' i} {xs : List (ByteArray × (Int × UInt64))} {x : (ByteArray × (Int × UInt64))} [p : Pull (own enc_sw 175 sv) L xs L1] [q : Pull (pto vb) L1 (cells l T') R] (hl : l = enc_sw.f x) (hi : i ≤ xs.length) (hn : xs.length ≤ 1000000)
    (h : ∀ v', Ht (own enc_sw 175 v' (xs.take i ++ x :: xs.drop i) :: R) (K v')) :
    Ht L (CCall Try.prog 122 [sv, .int .i64 (i : Nat), .slice (some ⟨vb, 0, none⟩) 1 1] K) := by
  refine Ht.pull p (Ht.two q ?_)
  subst hl
  refine ccall3 Try.func122 rfl (by decide) Try.ntmps122 (by rfl) (by decide) ?_
  repeat (refine stp ?_)
  refine co_slice (by omega) ?_
  intro hsl
  repeat (refine stp ?_)
  refine ht_if ?_ ?_ <;> intro h1 <;> simp only [decide_eq_true_eq, decide_eq_false_iff_not] at h1
  · have e1 : i = xs.length := by omega
    subst e1
    refine Ht.own_lit enc_sw (b := vb) (n := 1) (xs := [x]) rfl rfl (by decide) ?_
    repeat (refine stp ?_)
    refine co_append (e := enc_sw) (by rfl) ?_ ?_ ?_
    · simp; omega
    · simp; omega
    intro v'
    repeat (refine stp ?_)
    refine ret1 rfl ?_
    rw [show xs ++ [x] = xs.take xs.length ++ x :: xs.drop xs.length from by simp]
    exact Ht.frm (h v')
  · have hlt : i < xs.length := by omega
    refine Ht.own_cap (e := enc_sw) (T := 175) (v := sv) (by intro h; subst h; simp at hlt) ?_
    intro b o cap hv hc1 hc2
    subst hv
    repeat (refine stp ?_)
    have hw1 : IntKind.i64.wrap ((xs.length : Int) + ((1 : Nat) : Int)) = ((xs.length + 1 : Nat) : Int) := by rw [IntWalk.i64_in _ (by omega)]; omega
    refine ht_if ?_ ?_ <;> intro h2 <;> simp only [decide_eq_true_eq, decide_eq_false_iff_not] at h2
    · -- a new row
      repeat (refine stp ?_)
      refine co_slice_raw (.slice (some ⟨b, o, none⟩) i cap) (by omega) slSub_lit0 ?_
      repeat (refine stp ?_)
      have hw2 : IntKind.i64.wrap (IntKind.i64.wrap ((xs.length : Int) + ((1 : Nat) : Int)) - (i : Int)) = ((xs.length + 1 - i : Nat) : Int) := by rw [hw1, IntWalk.i64_in _ (by omega)]; omega
      rw [hw1] at h2
      refine co_append_zeros_far (e := enc_sw) (xs := xs.take i) (⟨#[]⟩, ((0, 0) : Int × UInt64)) rfl hw2 ?_ (by omega) (by decide) ?_ (by rfl) ?_ ?_ ?_
      · intro w s
        have := slSub_in (own_sat s) (lo := 0) (hi := i) (by omega)
        rw [slSub_lit0] at this
        simpa [Nat.min_eq_left (show i ≤ xs.length by omega)] using this
      · simp; omega
      · simp; omega
      · simp; omega
      intro v'
      have hL2 : (xs.take i ++ List.replicate (xs.length + 1 - i) ((⟨#[]⟩, ((0, 0) : Int × UInt64)) : (ByteArray × (Int × UInt64)))).length = xs.length + 1 := by simp; omega
      repeat (refine stp ?_)
      refine co_slice (by rw [hL2]; omega) ?_
      intro hsl2
      repeat (refine stp ?_)
      refine co_copy_own enc_sw [x] rfl (by rw [hL2]; omega) ?_ (by rw [hL2]; simp; omega) ?_
      · intro w s
        exact ⟨1, [], raw_in (pre := []) (post := []) (fz := (0,0)) (T := T') (by have := (Pull.sat (R := pto vb) inferInstance s).get; simpa using this) (by simp) (by simp)⟩
      have e3 : (xs.take i ++ List.replicate (xs.length + 1 - i) ((⟨#[]⟩, ((0, 0) : Int × UInt64)) : (ByteArray × (Int × UInt64)))).take i ++ [x] ++ (xs.take i ++ List.replicate (xs.length + 1 - i) ((⟨#[]⟩, ((0, 0) : Int × UInt64)) : (ByteArray × (Int × UInt64)))).drop (i + [x].length) = xs.take i ++ [x] ++ List.replicate (xs.length - i) (⟨#[]⟩, ((0, 0) : Int × UInt64)) := by
        rw [List.take_left' (by simp; omega), List.drop_append, List.drop_eq_nil_of_le (by simp; omega)]
        simp; omega
      rewrite [e3]
      repeat (refine stp ?_)
      refine ht_draw Try.can122x11 Try.mixed (by kernel_rfl) ?_
      repeat (refine stp ?_)
      have hw3 : IntKind.i64.wrap ((i : Int) + ((1 : Nat) : Int)) = ((i + 1 : Nat) : Int) := by rw [IntWalk.i64_in _ (by omega)]; omega
      have hL3 : (xs.take i ++ [x] ++ List.replicate (xs.length - i) ((⟨#[]⟩, ((0, 0) : Int × UInt64)) : (ByteArray × (Int × UInt64)))).length = xs.length + 1 := by simp; omega
      rewrite [hw3]
      refine cd_slice (by rw [hL3]; omega) ?_
      intro hsl3 hsb3
      repeat (refine stp ?_)
      refine cd_slice (by omega) ?_
      intro hsl4 hsb4
      repeat (refine stp ?_)
      refine co_copy_own enc_sw (xs.drop i) (slSub_lit (by omega)) (by rw [hL3]; omega) ?_ (by rw [hL3]; simp <;> omega) ?_
      · intro w s
        have := slSub_in (own_sat (Pull.sat (R := own enc_sw 175 (.slice (some ⟨b, o, none⟩) xs.length cap)) inferInstance s)) (lo := i) (hi := xs.length) (by omega)
        rw [slSub_lit (by omega), List.take_length] at this
        refine ⟨cap - i, [], ?_⟩
        simpa using this
      have e4 : (xs.take i ++ [x] ++ List.replicate (xs.length - i) ((⟨#[]⟩, ((0, 0) : Int × UInt64)) : (ByteArray × (Int × UInt64)))).take (i + 1) ++ xs.drop i ++ (xs.take i ++ [x] ++ List.replicate (xs.length - i) ((⟨#[]⟩, ((0, 0) : Int × UInt64)) : (ByteArray × (Int × UInt64)))).drop (i + 1 + (xs.drop i).length) = xs.take i ++ x :: xs.drop i := by
        have e5 : (xs.take i ++ [x] ++ List.replicate (xs.length - i) ((⟨#[]⟩, ((0, 0) : Int × UInt64)) : (ByteArray × (Int × UInt64)))).drop (i + 1 + (xs.drop i).length) = [] := List.drop_of_length_le (by simp; omega)
        rw [List.take_left' (by simp; omega), e5]
        simp
      rewrite [e4]
      repeat (refine stp ?_)
      exact ret1 rfl (Ht.frm (h v'))
    · -- in its place
      rw [hw1] at h2
      refine Ht.own_open (e := enc_sw) (T := 175) (v := .slice (some ⟨b, o, none⟩) xs.length cap) (by intro h; cases h) ?_
      intro b2 pre post cap2 fz hv _ _ hc3 hfz
      injection hv with hv1 _ hv2
      injection hv1 with hv1
      injection hv1 with hv3 hv4 _
      subst hv2; subst hv3; subst hv4
      have hk2 : (enc_sw).k = 3 := rfl
      rw [hk2] at hc3 hfz
      have hpl : 3 ≤ post.length := by omega
      have hfl := flat_len enc_sw xs
      rw [hk2] at hfl
      repeat (refine stp ?_)
      rewrite [hw1]
      refine co_slice_raw (.slice (some ⟨b, pre.length, none⟩) (xs.length + 1) cap) (by omega) slSub_lit0 ?_
      repeat (refine stp ?_)
      have hw3 : IntKind.i64.wrap ((i : Int) + ((1 : Nat) : Int)) = ((i + 1 : Nat) : Int) := by rw [IntWalk.i64_in _ (by omega)]; omega
      rewrite [hw3]
      refine co_slice_raw (.slice (some ⟨b, pre.length + (i + 1) * 3, none⟩) (xs.length + 1 - (i + 1)) (cap - (i + 1))) (by omega) (slSub_lit (by omega)) ?_
      refine co_overlaps (tS := 177) (tR := 4) Try.func135 (by kernel_rfl) (by kernel_rfl) (by kernel_rfl) (by kernel_rfl) Try.underlying177 rfl rfl (by intro h; have := congrArg List.length h; simp only [List.length_append, hfl, List.length_nil] at this; omega) ?_
      repeat (refine stp ?_)
      refine ht_draw Try.can122x15 Try.mixed (by kernel_rfl) ?_
      repeat (refine stp ?_)
      rewrite [hw3]
      refine cd_slice_raw (by omega) ?_
      intro hsb1
      repeat (refine stp ?_)
      refine cd_slice_raw (by omega) ?_
      intro hsb2
      repeat (refine stp ?_)
      have hA : xs.flatMap enc_sw.f = (xs.take i).flatMap enc_sw.f ++ (xs.drop i).flatMap enc_sw.f := by rw [← List.flatMap_append, List.take_append_drop]
      have hlA : ((xs.take i).flatMap enc_sw.f).length = i * 3 := by rw [flat_len]; simp; omega
      have hlB : ((xs.drop i).flatMap enc_sw.f).length = (xs.length - i) * 3 := by rw [flat_len]; simp
      refine co_copy_raw enc_sw (xs.drop i) (slSub_lit (by omega)) (slSub_lit (by omega)) ?_ (by simp; omega) (by simp only [List.length_append, hfl, List.length_drop]; omega) (by simpa [hfl, Nat.add_assoc] using hfz) ?_
      · intro w s
        refine ⟨cap - i, [], ?_⟩
        have := raw_in (e := enc_sw) (w := w) (b := b) (T := 175) (fz := fz) (pre := pre ++ (xs.take i).flatMap enc_sw.f) (post := post) (xs := xs.drop i) (cap := cap - i) (by
          have := (Pull.sat (R := pto b) inferInstance s).get
          rw [this, hA]; simp) (by simp; omega) (by omega)
        rw [List.length_append, hlA] at this
        simpa using this
      repeat (refine stp ?_)
      have hL4 : ((pre ++ xs.flatMap enc_sw.f ++ post).take (pre.length + (i + 1) * 3) ++ (xs.drop i).flatMap enc_sw.f ++ (pre ++ xs.flatMap enc_sw.f ++ post).drop (pre.length + (i + 1) * 3 + (xs.drop i).length * 3)).length = pre.length + xs.length * 3 + post.length := by simp only [List.length_append, List.length_take, List.length_drop, hlB, hfl]; omega
      refine co_copy_raw enc_sw [x] (slSub_lit (by omega)) rfl ?_ (by simp; omega) (by rw [hL4]; simp; omega) (by rw [hL4]; exact hfz) ?_
      · intro w s
        exact ⟨1, [], raw_in (pre := []) (post := []) (fz := (0,0)) (T := T') (by have := (Pull.sat (R := pto vb) inferInstance s).get; simpa using this) (by simp) (by simp)⟩
      repeat (refine stp ?_)
      refine ret1 rfl ?_
      refine Ht.own_close enc_sw (xs.take i ++ x :: xs.drop i) pre (post.drop 3) (b := b) (n := xs.length + 1) (cap := cap) ?_ (by simp; omega) (by omega) hc2 (by rw [hk2]; simp; omega) ?_ ?_
      · exact ins_cells enc_sw rfl pre post xs x hi hpl
      · rw [ins_cells enc_sw rfl pre post xs x hi hpl, List.length_append, List.length_append, flat_len, hk2, show pre.length + (xs.take i ++ x :: xs.drop i).length * 3 + (post.drop 3).length = pre.length + xs.length * 3 + post.length from by simp; omega]; exact hfz
      · exact Ht.frm (h _)

theorem sw_put {L L1 R K b o l S v} {xs : List (ByteArray × (Int × UInt64))} {k : ByteArray} {u : (Int × UInt64)} [p : Pull (pto b) L (cells l S) L1] [n : Nth l o v] [q : Pull (own enc_sw 175 v) L1 xs R] (hu : ∀ v', ∃ l', Ups l o [v'] l') (hs : Srt xs) (hn : xs.length ≤ 900000)
    (h : ∀ v' l', Ups l o [v'] l' → Ht (own enc_sw 175 v' (tput k u xs) :: pto b (cells l' S) :: R) (K (.bool (!(thas k xs))))) :
    Ht L (CCall Try.prog 93 [.pointer (some ⟨b, o, none⟩), .string k, .agg #[.int .i64 (u).1, .int .u64 (u).2.toNat]] K) := by
  refine Ht.pull p (Ht.two q ?_)
  refine ccall3 Try.func93 rfl (by decide) Try.ntmps93 (by rfl) (by decide) ?_
  repeat (refine stp ?_)
  intro bu
  repeat (refine stp ?_)
  refine sw_place hs (by omega) ?_
  repeat (refine stp ?_)
  refine ht_if ?_ ?_ <;> intro h0
  · repeat (refine stp ?_)
    obtain ⟨u0, hu0⟩ := Option.isSome_iff_exists.1 h0
    have hk := tfind_some hu0
    have hlt := (List.getElem?_eq_some_iff.1 hk).1
    refine ht_draw Try.can93x5 Try.mixed (by kernel_rfl) ?_
    repeat (refine stp ?_)
    refine cd_index (by omega) ?_
    intro hb hb2
    have e2 : xs[tpos k xs]! = (k, u0) := by have := getB hb.h; rw [hk] at this; exact (Option.some.inj this).symm
    repeat (refine stp ?_)
    refine co_setEl (e := enc_sw) (el := 175) (k, u) (by rw [e2]; rfl) (by simp) ?_
    repeat (refine stp ?_)
    refine ret1 rfl ?_
    have e3 : xs.set (tpos k xs) (k, u) = tput k u xs := by
      rw [tput, if_pos h0, List.set_eq_take_append_cons_drop, if_pos hlt]
    rw [e3]
    have := h v l (ups_self n.h)
    rw [h0] at this
    exact Ht.frm this
  · repeat (refine stp ?_)
    refine ht_draw Try.can93x7 Try.mixed (by kernel_rfl) ?_
    repeat (refine stp ?_)
    intro vb
    repeat (refine stp ?_)
    refine sw_insert (x := (k, u)) rfl (tpos_le k xs) (by omega) ?_
    intro v'
    obtain ⟨l', hl'⟩ := hu v'
    haveI := hl'
    refine Ht.one1 (v := v') ?_
    intro _
    repeat (refine stp ?_)
    refine ret1 rfl ?_
    have e3 : xs.take (tpos k xs) ++ (k, u) :: xs.drop (tpos k xs) = tput k u xs := by
      rw [tput, if_neg (by rw [h0]; simp)]
    rw [e3]
    have := h v' l' hl'
    rw [h0] at this
    exact Ht.frm this

theorem sw_delete {L R K sv i} {xs : List (ByteArray × (Int × UInt64))} [p : Pull (own enc_sw 175 sv) L xs R] (hi : i < xs.length) (hn : xs.length ≤ 1000000)
    (h : ∀ v', Ht (own enc_sw 175 v' (xs.take i ++ xs.drop (i + 1)) :: R) (K v')) :
    Ht L (CCall Try.prog 138 [sv, .int .i64 (i : Nat), .int .i64 ((i + 1 : Nat) : Int)] K) := by
  refine Ht.pull p ?_
  refine ccall3 Try.func138 rfl (by decide) Try.ntmps138 (by rfl) (by decide) ?_
  refine Ht.own_open (e := enc_sw) (T := 175) (v := sv) (by intro _ h; subst h; simp at hi) ?_
  intro b pre post cap fz hv hc1 hc2 hc3 hfz
  subst hv
  have hk2 : (enc_sw).k = 3 := rfl
  rw [hk2] at hc3 hfz
  have hfl := flat_len enc_sw xs
  rw [hk2] at hfl
  repeat (refine stp ?_)
  refine co_slice3_raw (by omega) ?_
  intro v1
  repeat (refine stp ?_)
  refine ht_if_f (by simp; omega) ?_
  repeat (refine stp ?_)
  refine ht_draw Try.can138x5 Try.mixed (by kernel_rfl) ?_
  repeat (refine stp ?_)
  refine cd_slice_raw (by omega) ?_
  intro hsb1
  repeat (refine stp ?_)
  refine cd_slice_raw (by omega) ?_
  intro hsb2
  repeat (refine stp ?_)
  refine co_append_raw enc_sw (xs.drop (i + 1)) slSub_lit0 ?_ (by simp; omega) (by simp only [List.length_append, hfl, List.length_drop]; omega) (by simpa [hfl, Nat.add_assoc] using hfz) ?_
  · intro w s
    have := slSub_in (raw_in (e := enc_sw) (s.get) hc1 hc2) (lo := i + 1) (hi := xs.length) (by omega)
    rw [List.take_length] at this
    exact this
  repeat (refine stp ?_)
  have hd : i + (xs.drop (i + 1)).length = xs.length - 1 := by simp; omega
  rewrite [hd]
  refine co_slice_raw (.slice (some ⟨b, pre.length + (xs.length - 1) * 3, none⟩) 1 (cap - (xs.length - 1))) (by omega) (by rw [slSub_lit (by omega), show xs.length - (xs.length - 1) = 1 from by omega]) ?_
  have hL4 : ((pre ++ xs.flatMap enc_sw.f ++ post).take (pre.length + i * 3) ++ (xs.drop (i + 1)).flatMap enc_sw.f ++ (pre ++ xs.flatMap enc_sw.f ++ post).drop (pre.length + i * 3 + (xs.drop (i + 1)).length * 3)).length = pre.length + xs.length * 3 + post.length := by
    have hlB : ((xs.drop (i + 1)).flatMap enc_sw.f).length = (xs.length - (i + 1)) * 3 := by rw [flat_len]; simp
    simp only [List.length_append, List.length_take, List.length_drop, hfl, hlB]; omega
  refine co_clear_raw0 (enc_sw.f (⟨#[]⟩, ((0, 0) : Int × UInt64))) rfl (by rfl) (enc_sw.h1 _) (by show pre.length + (xs.length - 1) * 3 + 1 * 3 ≤ _; rw [hL4]; omega) (by rw [hL4]; exact hfz) (by decide) ?_
  repeat (refine stp ?_)
  refine ret1 rfl ?_
  have e9 := del_cells enc_sw (k := 3) rfl pre post xs (enc_sw.f (⟨#[]⟩, ((0, 0) : Int × UInt64))) hi rfl
  refine Ht.own_close enc_sw (xs.take i ++ xs.drop (i + 1)) pre (enc_sw.f (⟨#[]⟩, ((0, 0) : Int × UInt64)) ++ post) (b := b) (n := xs.length - 1) (cap := cap) ?_ (by simp; omega) (by omega) hc2 (by rw [hk2]; simp; omega) ?_ ?_
  · rw [← e9]; simp
  · have := congrArg List.length e9
    simp only [List.replicate_one, List.flatten_cons, List.flatten_nil, List.append_nil, Nat.one_mul]
    rw [show (enc_sw.f (⟨#[]⟩, ((0, 0) : Int × UInt64))).length = 3 from rfl, this]
    rw [List.length_append, List.length_append, flat_len, hk2, show pre.length + (xs.take i ++ xs.drop (i + 1)).length * 3 + (enc_sw.f (⟨#[]⟩, ((0, 0) : Int × UInt64)) ++ post).length = pre.length + xs.length * 3 + post.length from by simp; omega]; exact hfz
  · exact Ht.frm (h _)

theorem sw_drop {L L1 R K b o l S v} {xs : List (ByteArray × (Int × UInt64))} {k : ByteArray} [p : Pull (pto b) L (cells l S) L1] [n : Nth l o v] [q : Pull (own enc_sw 175 v) L1 xs R] (hu : ∀ v', ∃ l', Ups l o [v'] l') (hs : Srt xs) (hn : xs.length ≤ 900000)
    (h : ∀ v' l', Ups l o [v'] l' → Ht (own enc_sw 175 v' (tdrop k xs) :: pto b (cells l' S) :: R) (K (.bool (thas k xs)))) :
    Ht L (CCall Try.prog 126 [.pointer (some ⟨b, o, none⟩), .string k] K) := by
  refine Ht.pull p (Ht.two q ?_)
  refine ccall2 Try.func126 rfl (by decide) Try.ntmps126 (by rfl) (by decide) ?_
  repeat (refine stp ?_)
  refine sw_place hs (by omega) ?_
  repeat (refine stp ?_)
  refine ht_if ?_ ?_ <;> intro h0
  · repeat (refine stp ?_)
    obtain ⟨u0, hu0⟩ := Option.isSome_iff_exists.1 h0
    have hk := tfind_some hu0
    have hlt := (List.getElem?_eq_some_iff.1 hk).1
    rewrite [show IntKind.i64.wrap ((tpos k xs : Nat) + 1 : Int) = ((tpos k xs + 1 : Nat) : Int) from by rw [IntWalk.i64_in _ (by omega)]; omega]
    refine sw_delete hlt (by omega) ?_
    intro v'
    obtain ⟨l', hl'⟩ := hu v'
    haveI := hl'
    refine Ht.one1 (v := v') ?_
    intro _
    repeat (refine stp ?_)
    refine ret1 rfl ?_
    have := h v' l' hl'
    rw [tdrop, if_pos h0, h0] at this
    rewrite [h0]
    exact Ht.frm this
  · repeat (refine stp ?_)
    refine ret1 rfl ?_
    have := h v l (ups_self n.h)
    rw [tdrop, if_neg (by rw [h0]; simp)] at this
    exact this

theorem sw_all {L L1 K b o l S v} [p : Pull (pto b) L (cells l S) L1] [n : Nth l o v] (h : Ht (pto b (cells l S) :: L1) (K v)) : Ht L (CCall Try.prog 99 [.pointer (some ⟨b, o, none⟩)] K) := by
  refine Ht.pull p ?_
  refine ccall1 Try.func99 rfl (by decide) Try.ntmps99 (by rfl) (by decide) ?_
  repeat (refine stp ?_)
  exact ret1 rfl h
theorem sw_all_nil {L K} (h : Ht L (K (.slice none 0 0))) : Ht L (CCall Try.prog 99 [.pointer none] K) := by
  refine ccall1 Try.func99 rfl (by decide) Try.ntmps99 (by rfl) (by decide) ?_
  repeat (refine stp ?_)
  exact ret1 rfl h
theorem sw_clone {L K v} {xs : List (ByteArray × (Int × UInt64))} [rs : RdE L enc_sw v xs] (hn : xs.length ≤ 1000000) (h : ∀ v', Ht (own enc_sw 175 v' xs :: L) (K v')) : Ht L (CCall Try.prog 137 [v] K) := by
  haveI := rs.toS
  refine ccall1 Try.func137 rfl (by decide) Try.ntmps137 (by rfl) (by decide) ?_
  repeat (refine stp ?_)
  refine ht_if ?_ ?_ <;> intro h0
  · repeat (refine stp ?_)
    refine ret1 rfl ?_
    refine Ht.know (p := xs = []) (fun w s => ?_) (fun hx => ?_)
    · rcases rs.h w s with ⟨rfl, hx⟩ | ⟨a, c, rfl, _⟩
      · exact hx
      · cases h0
    · subst hx
      exact Ht.conseq (h _) (fun w s => own_nil.2 s)
  · repeat (refine stp ?_)
    intro v0
    repeat (refine stp ?_)
    refine Ht.own_lit enc_sw (b := v0) (xs := []) rfl rfl (by decide) ?_
    refine co_append (e := enc_sw) (by rfl) ?_ ?_ ?_
    · simp; omega
    · simp; omega
    intro v'
    repeat (refine stp ?_)
    exact ret1 rfl (h v')
theorem sw_clone_nil {L K} (h : Ht L (K (.slice none 0 0))) : Ht L (CCall Try.prog 137 [.slice none 0 0] K) := by
  refine ccall1 Try.func137 rfl (by decide) Try.ntmps137 (by rfl) (by decide) ?_
  repeat (refine stp ?_)
  refine ht_if_t rfl ?_
  repeat (refine stp ?_)
  exact ret1 rfl h
theorem sw_rows {L L1 R K b o l S v} {xs : List (ByteArray × (Int × UInt64))} [p : Pull (pto b) L (cells l S) L1] [n : Nth l o v] [q : Pull (own enc_sw 175 v) L1 xs R] (hn : xs.length ≤ 1000000)
    (h : ∀ v', Ht (own enc_sw 175 v' xs :: own enc_sw 175 v xs :: pto b (cells l S) :: R) (K v')) :
    Ht L (CCall Try.prog 125 [.pointer (some ⟨b, o, none⟩)] K) := by
  refine Ht.pull p (Ht.two q ?_)
  refine ccall1 Try.func125 rfl (by decide) Try.ntmps125 (by rfl) (by decide) ?_
  repeat (refine stp ?_)
  refine sw_all ?_
  repeat (refine stp ?_)
  refine sw_clone hn ?_
  intro v'
  repeat (refine stp ?_)
  exact ret1 rfl (Ht.frm (h v'))
theorem sw_rows_nil {L K} (h : Ht L (K (.slice none 0 0))) : Ht L (CCall Try.prog 125 [.pointer none] K) := by
  refine ccall1 Try.func125 rfl (by decide) Try.ntmps125 (by rfl) (by decide) ?_
  repeat (refine stp ?_)
  refine sw_all_nil ?_
  repeat (refine stp ?_)
  refine sw_clone_nil ?_
  repeat (refine stp ?_)
  exact ret1 rfl h
theorem sw_copy {L L1 R K b o l S v} {xs : List (ByteArray × (Int × UInt64))} [p : Pull (pto b) L (cells l S) L1] [n : Nth l o v] [q : Pull (own enc_sw 175 v) L1 xs R] (hn : xs.length ≤ 1000000)
    (h : ∀ b' v', Ht (pto b' (cells [v'] 179) :: own enc_sw 175 v' xs :: own enc_sw 175 v xs :: pto b (cells l S) :: R) (K (.pointer (some ⟨b', 0, none⟩)))) :
    Ht L (CCall Try.prog 95 [.pointer (some ⟨b, o, none⟩)] K) := by
  refine Ht.pull p (Ht.two q ?_)
  refine ccall1 Try.func95 rfl (by decide) Try.ntmps95 (by rfl) (by decide) ?_
  repeat (refine stp ?_)
  refine sw_rows hn ?_
  intro v'
  refine Ht.one1 (v := v') ?_
  intro _
  repeat (refine stp ?_)
  intro b'
  repeat (refine stp ?_)
  exact ret1 rfl (Ht.frm (h b' v'))
theorem sw_told {L K v} (hv : One1 v) (h : ∀ b, Ht (pto b (cells [v] 177) :: L) (K (.func (.func 127) #[] #[.pointer (some ⟨b, 0, none⟩)]))) : Ht L (CCall Try.prog 98 [v] K) := by
  refine ccall1 Try.func98 rfl (by decide) Try.ntmps98 (by rfl) (by decide) ?_
  repeat (refine stp ?_)
  intro b
  repeat (refine stp ?_)
  exact ret1 rfl (h b)
/-! the rows, one by one: told to whatever takes them -/
theorem sw_iter {b v l} {xs : List (ByteArray × (Int × UInt64))} {A : Nat → HP} {B : HP} {K : Value → World → Prop} (hn : xs.length ≤ 1000000) (hb : ∀ i, i ≤ xs.length → ∀ w, Sat [A i] w → (∃ T fz, w.heap[b]? = some (.cells #[v] T fz)) ∧ SlIn w v enc_sw xs)
    (hy : ∀ i, i < xs.length → Ht [A i] (CYield Try.prog l [.string xs[i]!.1, .agg #[.int .i64 (xs[i]!.2).1, .int .u64 (xs[i]!.2).2.toNat]] (fun v w => (v = .bool true ∧ Sat [A (i + 1)] w) ∨ (v = .bool false ∧ Sat [B] w)))) (hd : ∀ v, Ht [A xs.length] (K v)) (hs : ∀ v, Ht [B] (K v)) :
    Ht [A 0] (CCall Try.prog 127 [.func (.yield l) #[] #[], .pointer (some ⟨b, 0, none⟩)] K) := by
  refine ccall2 Try.func127 rfl (by decide) Try.ntmps127 (by rfl) (by decide) ?_
  haveI : Blk [A 0] b [v] := ⟨fun w s => (hb 0 (by omega) w s).1⟩
  haveI : RdS [A 0] v enc_sw xs := ⟨fun w s => (hb 0 (by omega) w s).2⟩
  repeat (refine stp ?_)
  refine ht_for xs.length (fun _ (_ : Unit) => True) (fun i _ => [A i]) (fun i _ => [(7, .int .i64 i)]) () [7] trivial (fun _ s => s) inferInstance ?_
  intro i _ hi _
  dsimp only [List.cons_append, List.nil_append]
  haveI : RdS [A i] v enc_sw xs := ⟨fun w s => (hb i hi w s).2⟩
  repeat (refine stp ?_)
  refine ht_if ?_ ?_ <;> intro hc <;> simp only [decide_eq_true_eq, decide_eq_false_iff_not] at hc
  · repeat (refine stp ?_)
    refine co_index (by omega) ?_
    intro hbi
    repeat (refine stp ?_)
    intro br
    repeat (refine stp ?_)
    refine Ht.drop ?_
    refine Ht.ymono (hy i (by omega)) (fun r w hr => ?_)
    rcases hr with ⟨rfl, s⟩ | ⟨rfl, s⟩
    · revert s
      revert w
      show Ht [A (i + 1)] _
      repeat (refine stp ?_)
      exact ht_next () (by omega) trivial (fun _ s => s) (SubE.cons (by rw [IntWalk.i64_in _ (by omega)]; rfl) inferInstance) rfl rfl
    · revert s
      revert w
      show Ht [B] _
      repeat (refine stp ?_)
      exact ret0 rfl (hs _)
  · have e : i = xs.length := by omega
    subst e
    repeat (refine stp ?_)
    exact end0 rfl (hd _)
theorem sw_each {L L1 R K b o l S v} {xs : List (ByteArray × (Int × UInt64))} [p : Pull (pto b) L (cells l S) L1] [n : Nth l o v] [q : Pull (own enc_sw 175 v) L1 xs R]
    (h : ∀ c, Ht (pto c (cells [v] 177) :: own enc_sw 175 v xs :: pto b (cells l S) :: R) (K (.func (.func 127) #[] #[.pointer (some ⟨c, 0, none⟩)]))) : Ht L (CCall Try.prog 62 [.pointer (some ⟨b, o, none⟩)] K) := by
  refine Ht.pull p (Ht.two q ?_)
  refine ccall1 Try.func62 rfl (by decide) Try.ntmps62 (by rfl) (by decide) ?_
  repeat (refine stp ?_)
  refine sw_all ?_
  repeat (refine stp ?_)
  refine Ht.conseq (L' := own enc_sw 175 v xs :: pto b (cells l S) :: R) ?_ (fun w s => (inferInstance : Frm _ (own enc_sw 175 v xs :: pto b (cells l S) :: R)).h _ _ s)
  refine Ht.one1 (v := v) ?_
  intro hv
  refine sw_told hv ?_
  intro c
  repeat (refine stp ?_)
  exact ret1 rfl (h c)
theorem sw_each_nil {L K} (h : ∀ c, Ht (pto c (cells [.slice none 0 0] 177) :: L) (K (.func (.func 127) #[] #[.pointer (some ⟨c, 0, none⟩)]))) : Ht L (CCall Try.prog 62 [.pointer none] K) := by
  refine ccall1 Try.func62 rfl (by decide) Try.ntmps62 (by rfl) (by decide) ?_
  repeat (refine stp ?_)
  refine sw_all_nil ?_
  repeat (refine stp ?_)
  refine sw_told inferInstance ?_
  intro c
  repeat (refine stp ?_)
  exact ret1 rfl (h c)
/-! Change, by a function of which it is known what it says -/
theorem sw_change {L L1 R R' K b o l S v f} {capl zs : List Value} {xs : List (ByteArray × (Int × UInt64))} {k : ByteArray} {u : (Int × UInt64)} {keep : Bool} [p : Pull (pto b) L (cells l S) L1] [n : Nth l o v] [q : Pull (own enc_sw 175 v) L1 xs R]
    [a : App [.agg #[.int .i64 (((tfind k xs).getD ((0, 0) : Int × UInt64))).1, .int .u64 (((tfind k xs).getD ((0, 0) : Int × UInt64))).2.toNat], .bool (thas k xs)] capl zs] (hu : ∀ v', ∃ l', Ups l o [v'] l') (hs : Srt xs) (hn : xs.length ≤ 900000)
    (hf : ∀ K', Ht (own enc_sw 175 v xs :: pto b (cells l S) :: R') (K' (.tuple #[.agg #[.int .i64 (u).1, .int .u64 (u).2.toNat], .bool keep])) → Ht (own enc_sw 175 v xs :: pto b (cells l S) :: R) (CCall Try.prog f zs K'))
    (h : ∀ v' l', Ups l o [v'] l' → Ht (own enc_sw 175 v' (if keep then tput k u xs else tdrop k xs) :: pto b (cells l' S) :: R') (K (.tuple #[]))) :
    Ht L (CCall Try.prog 96 [.pointer (some ⟨b, o, none⟩), .string k, .func (.func f) #[] capl.toArray] K) := by
  refine Ht.pull p (Ht.two q ?_)
  refine ccall3 Try.func96 rfl (by decide) Try.ntmps96 (by rfl) (by decide) ?_
  repeat (refine stp ?_)
  refine sw_get hs (by omega) ?_
  repeat (refine stp ?_)
  refine hf _ ?_
  repeat (refine stp ?_)
  intro bx
  repeat (refine stp ?_)
  cases keep with
  | true =>
    repeat (refine stp ?_)
    refine sw_put hu hs hn ?_
    intro v' l' hl'
    repeat (refine stp ?_)
    have h2 := h v' l' hl'
    rw [if_pos rfl] at h2
    exact ret0 rfl (Ht.frm h2)
  | false =>
    repeat (refine stp ?_)
    refine sw_drop hu hs hn ?_
    intro v' l' hl'
    repeat (refine stp ?_)
    have h2 := h v' l' hl'
    rw [if_neg (by decide)] at h2
    exact end0 rfl (Ht.frm h2)
theorem sw_change_nil {L K f} {capl : List Value} {k : ByteArray} (h : Ht L (K (.tuple #[]))) : Ht L (CCall Try.prog 96 [.pointer none, .string k, .func (.func f) #[] capl.toArray] K) := by
  refine ccall3 Try.func96 rfl (by decide) Try.ntmps96 (by rfl) (by decide) ?_
  repeat (refine stp ?_)
  exact ret0 rfl h
theorem sw_put_nil {L K} {k : ByteArray} {u : (Int × UInt64)} (h : Ht L (K (.bool false))) : Ht L (CCall Try.prog 93 [.pointer none, .string k, .agg #[.int .i64 (u).1, .int .u64 (u).2.toNat]] K) := by
  refine ccall3 Try.func93 rfl (by decide) Try.ntmps93 (by rfl) (by decide) ?_
  repeat (refine stp ?_)
  intro bu
  repeat (refine stp ?_)
  exact ret1 rfl (Ht.frm h)
theorem sw_drop_nil {L K} {k : ByteArray} (h : Ht L (K (.bool false))) : Ht L (CCall Try.prog 126 [.pointer none, .string k] K) := by
  refine ccall2 Try.func126 rfl (by decide) Try.ntmps126 (by rfl) (by decide) ?_
  repeat (refine stp ?_)
  exact ret1 rfl h
theorem sw_copy_nil {L K} (h : ∀ b', Ht (pto b' (cells [.slice none 0 0] 179) :: L) (K (.pointer (some ⟨b', 0, none⟩)))) : Ht L (CCall Try.prog 95 [.pointer none] K) := by
  refine ccall1 Try.func95 rfl (by decide) Try.ntmps95 (by rfl) (by decide) ?_
  repeat (refine stp ?_)
  refine sw_rows_nil ?_
  repeat (refine stp ?_)
  intro b'
  repeat (refine stp ?_)
  exact ret1 rfl (h b')

def sw_ofM (l : List (ByteArray × (Int × UInt64))) : List (ByteArray × (Int × UInt64)) := l.foldl (fun t r => tput r.1 r.2 t) []
theorem sw_ofM_srt (l : List (ByteArray × (Int × UInt64))) : Srt (sw_ofM l) := by
  unfold sw_ofM
  have : ∀ (l t : List (ByteArray × (Int × UInt64))), Srt t → Srt (l.foldl (fun t r => tput r.1 r.2 t) t) := by
    intro l
    induction l with
    | nil => intro t h; exact h
    | cons r l ih => intro t h; exact ih _ (tput_srt h)
  exact this l [] srt_nil
theorem sw_ofM_len (l : List (ByteArray × (Int × UInt64))) : (sw_ofM l).length ≤ l.length := by
  unfold sw_ofM
  have : ∀ (l t : List (ByteArray × (Int × UInt64))), (l.foldl (fun t r => tput r.1 r.2 t) t).length ≤ t.length + l.length := by
    intro l
    induction l with
    | nil => intro t; simp
    | cons r l ih => intro t; have := ih (tput r.1 r.2 t); have := tput_len (k := r.1) (v := r.2) (l := t); simp only [List.foldl_cons, List.length_cons]; omega
  have := this l []
  simpa using this
theorem sw_of {L K v} {xs : List (ByteArray × (Int × UInt64))} [rs : RdE L enc_sw v xs] (hn : xs.length ≤ 100000)
    (h : ∀ b v', Ht (pto b (cells [v'] 179) :: own enc_sw 175 v' (sw_ofM xs) :: L) (K (.pointer (some ⟨b, 0, none⟩)))) : Ht L (CCall Try.prog 92 [v] K) := by
  haveI := rs.toS
  refine ccall1 Try.func92 rfl (by decide) Try.ntmps92 (by rfl) (by decide) ?_
  repeat (refine stp ?_)
  intro b
  repeat (refine stp ?_)
  refine ht_for xs.length (fun i (_ : Value) => True) (fun i v' => pto b (cells [v'] 179) :: own enc_sw 175 v' (sw_ofM (xs.take i)) :: L) (fun i _ => [(10, .int .i64 i)]) (.slice none 0 0) [10, 5] trivial (fun w s => ?_) inferInstance ?_
  · exact seps_swap (own_nil.2 s)
  intro i v' hi _
  dsimp only [List.cons_append, List.nil_append]
  repeat (refine stp ?_)
  refine ht_if ?_ ?_ <;> intro hc <;> simp only [decide_eq_true_eq, decide_eq_false_iff_not] at hc
  · repeat (refine stp ?_)
    haveI : RdS (pto b (cells [v'] 179) :: own enc_sw 175 v' (sw_ofM (xs.take i)) :: L) v enc_sw xs := ⟨fun w s => rs.h w s.tail.tail⟩
    refine co_index (by omega) ?_
    intro hb
    have hg := getB hb.h
    repeat (refine stp ?_)
    intro br
    repeat (refine stp ?_)
    have hlen := sw_ofM_len (xs.take i)
    refine sw_put (fun v' => ⟨[v'], inferInstance⟩) (sw_ofM_srt _) (by simp at hlen; omega) ?_
    intro v2 l2 hl2
    have e : l2 = [v2] := by have := hl2.h.2; simpa using this.symm
    subst e
    repeat (refine stp ?_)
    refine ht_next v2 (by omega) trivial (fun w s => ?_) (SubE.cons (by rw [IntWalk.i64_in _ (by omega)]; rfl) inferInstance) rfl rfl
    have e2 : sw_ofM (xs.take (i + 1)) = tput (xs[i]!).1 (xs[i]!).2 (sw_ofM (xs.take i)) := by
      rw [List.take_succ, hg]; simp [sw_ofM, List.foldl_append]
    rw [e2]
    exact (inferInstance : Frm _ (pto b (cells [v2] 179) :: own enc_sw 175 v2 (tput (xs[i]!).1 (xs[i]!).2 (sw_ofM (xs.take i))) :: L)).h _ _ s
  · have e : i = xs.length := by omega
    subst e
    rw [List.take_length]
    repeat (refine stp ?_)
    exact ret1 rfl (h b v')
end Go.Proofs

set_option linter.all false
set_option synthInstance.maxSize 100000
set_option synthInstance.maxHeartbeats 400000
namespace Go.Proofs
open Go Go.SL
attribute [local irreducible] CCall CO CC CX CD

theorem takeSn {l : Rows} {i : Nat} (hi : i < l.length) : l.take i ++ [((l[i]!).1, (l[i]!).2)] = l.take (i + 1) := (takeSnoc hi).symm
theorem To17_spec {L K v} {l : Rows} {c : Int} [rs : RdE L encRw v l] (h : ∀ v', One1 v' → Ht (own encRw 85 v' (l.take 30) :: L) (K (hV v' c))) : Ht L (CCall Try.prog 6 [hV v c] K) := by
  have hrs : ∀ (M : List HP) [fr : Frm M L], RdS M v encRw l := fun M fr => ⟨fun w t => (rs.h w (fr.h _ _ t))⟩
  refine Ht.know (p := One1 v ∧ l.length ≤ 9223372036854775807) (fun w t => ⟨one1_of (rs.h w t), (rs.h w t).le⟩) (fun ⟨ov, hle⟩ => ?_)
  refine ccall1 Try.func6 rfl (by decide) Try.ntmps6 (by rfl) (by decide) ?_
  repeat (refine stp ?_)
  intro c1
  repeat (refine stp ?_)
  intro c2
  repeat (refine stp ?_)
  intro c3
  repeat (refine stp ?_)
  refine cc_env (E' := [(4, .int .i64 0), (3, .pointer (some ⟨c3, 0, none⟩)), (2, .pointer (some ⟨c2, 0, none⟩)), (1, .pointer (some ⟨c1, 0, none⟩))]) inferInstance ?_
  refine ht_for (min 30 l.length) (fun i (x : Value) => One1 x) (fun i x => own encRw 85 x (l.take i) :: pto c3 (cells [x, .int .i64 (wHi c), .int .u64 (wLo c)] 30) :: pto c2 (cells [.slice none 0 0, .int .i64 0, .int .u64 0] 30) :: pto c1 (cells [v, .int .i64 (wHi c), .int .u64 (wLo c)] 34) :: L) (fun i x => [(4, .int .i64 (i : Int))]) (.slice none 0 0) [4] ⟨rfl⟩ (fun w t => own_nil.2 t) inferInstance ?_
  intro i x hi ox
  dsimp only [List.cons_append, List.nil_append]
  have htl : (l.take i).length = i := by rw [List.length_take]; omega
  repeat (refine stp ?_)
  refine ht_val 3 [(19, .bool (decide (i < min 30 l.length))), (4, .int .i64 (i : Int)), (3, .pointer (some ⟨c3, 0, none⟩)), (2, .pointer (some ⟨c2, 0, none⟩)), (1, .pointer (some ⟨c1, 0, none⟩))] ?_ ?_
  · intro rest Q3 hQ3
    dsimp only [List.take_succ_cons, List.take_zero, List.cons_append, List.nil_append]
    by_cases h1 : i < l.length
    · rewrite [show decide ((i : Int) < (l.length : Int)) = true from decide_eq_true (by omega)]
      repeat (refine stp ?_)
      refine co_leave hQ3 (SubE.cons (congrArg Value.bool ?_) inferInstance)
      exact decide_eq_decide.2 (by omega)
    · rewrite [show decide ((i : Int) < (l.length : Int)) = false from decide_eq_false (by omega)]
      repeat (refine stp ?_)
      refine co_leave hQ3 (SubE.cons (congrArg Value.bool ?_) inferInstance)
      exact (decide_eq_false (by omega)).symm
  simp only [List.drop_succ_cons, List.drop_zero]
  by_cases hii : i < min 30 l.length
  · rewrite [decide_eq_true hii]
    repeat (refine stp ?_)
    refine ht_draw Try.can6x5 Try.mixed (by kernel_rfl) ?_
    repeat (refine stp ?_)
    refine cd_index (xs := l) (by omega) ?_
    intro hb1 hb2
    repeat (refine stp ?_)
    intro b1
    repeat (refine stp ?_)
    refine Ht.own_lit encRw (b := b1) (n := 1) (xs := [((l[i]!).1, (l[i]!).2)]) rfl rfl (by decide) ?_
    refine co_append (e := encRw) (xs := l.take i) (ys := [((l[i]!).1, (l[i]!).2)]) (by rfl) (by simp; omega) (by simp; omega) ?_
    intro x2
    refine Ht.one1 (v := x2) ?_
    intro ox2
    rewrite [takeSn (by omega)]
    repeat (refine stp ?_)
    exact ht_next x2 hii ox2 (fun w t => (inferInstance : Frm _ _).h _ _ t) (SubE.cons (by rw [IntWalk.i64_in _ (by omega)]; rfl) inferInstance) rfl rfl
  · rewrite [decide_eq_false hii]
    have e : l.take i = l.take 30 := by
      by_cases h30 : l.length ≤ 30
      · rw [List.take_of_length_le (by omega), List.take_of_length_le h30]
      · rw [show i = 30 by omega]
    rw [e]
    repeat (refine stp ?_)
    exact retc rfl (Ht.frm (h x ox))
theorem Of17_spec {L K v} {l : Rows} {c : Int} [rs : RdE L encRw v l] (hn : l.length ≤ 1000000) (h : ∀ v', One1 v' → Ht (own encRw 84 v' l :: L) (K (hV v' c))) : Ht L (CCall Try.prog 7 [hV v c] K) := by
  have hrs : ∀ (M : List HP) [fr : Frm M L], RdS M v encRw l := fun M fr => ⟨fun w t => (rs.h w (fr.h _ _ t))⟩
  refine Ht.know (p := One1 v) (fun w t => one1_of (rs.h w t)) (fun ov => ?_)
  refine ccall1 Try.func7 rfl (by decide) Try.ntmps7 (by rfl) (by decide) ?_
  repeat (refine stp ?_)
  intro c1
  repeat (refine stp ?_)
  intro c2
  repeat (refine stp ?_)
  intro c3
  repeat (refine stp ?_)
  refine ht_for l.length (fun i (x : Value) => One1 x) (fun i x => own encRw 84 x (l.take i) :: pto c3 (cells [x, .int .i64 (wHi c), .int .u64 (wLo c)] 34) :: pto c2 (cells [.slice none 0 0, .int .i64 0, .int .u64 0] 34) :: pto c1 (cells [v, .int .i64 (wHi c), .int .u64 (wLo c)] 30) :: L) (fun i x => [(4, .int .i64 (i : Int))]) (.slice none 0 0) [4] ⟨rfl⟩ (fun w t => own_nil.2 t) inferInstance ?_
  intro i x hi ox
  dsimp only [List.cons_append, List.nil_append]
  have htl : (l.take i).length = i := by rw [List.length_take]; omega
  repeat (refine stp ?_)
  refine ht_if ?_ ?_ <;> intro hc <;> simp only [decide_eq_true_eq, decide_eq_false_iff_not] at hc
  · have hii : i < l.length := by omega
    repeat (refine stp ?_)
    refine ht_draw Try.can7x5 Try.mixed (by kernel_rfl) ?_
    repeat (refine stp ?_)
    refine cd_index (xs := l) (by omega) ?_
    intro hb1 hb2
    repeat (refine stp ?_)
    intro b1
    repeat (refine stp ?_)
    refine Ht.own_lit encRw (b := b1) (n := 1) (xs := [((l[i]!).1, (l[i]!).2)]) rfl rfl (by decide) ?_
    refine co_append (e := encRw) (xs := l.take i) (ys := [((l[i]!).1, (l[i]!).2)]) (by rfl) (by simp; omega) (by simp; omega) ?_
    intro x2
    refine Ht.one1 (v := x2) ?_
    intro ox2
    rewrite [takeSn (by omega)]
    repeat (refine stp ?_)
    exact ht_next x2 hii ox2 (fun w t => (inferInstance : Frm _ _).h _ _ t) (SubE.cons (by rw [IntWalk.i64_in _ (by omega)]; rfl) inferInstance) rfl rfl
  · have ei : i = l.length := by omega
    subst ei
    rw [List.take_length]
    repeat (refine stp ?_)
    exact retc rfl (Ht.frm (h x ox))
/-! ### a holding's numbers as a table -/
def wU (z : Int) : Int × UInt64 := (wHi z, UInt64.ofNat (wLo z).toNat)
theorem wU_lo (z : Int) : (((wU z).2.toNat : Nat) : Int) = wLo z := by
  unfold wU wLo
  have : (z % 18446744073709551616).toNat < 18446744073709551616 := by omega
  simp only [UInt64.toNat_ofNat']
  omega
def sideF (t : List (ByteArray × (Int × UInt64))) (r : ByteArray × Int) : List (ByteArray × (Int × UInt64)) := tput r.1 (wU r.2) t
def sideM (l : Rows) (c : Int) : List (ByteArray × (Int × UInt64)) := l.foldl sideF (tput noS (wU c) [])
theorem side_take {l : Rows} {t : List (ByteArray × (Int × UInt64))} {i : Nat} (h : i < l.length) : (l.take (i + 1)).foldl sideF t = tput (l[i]!).1 (wU (l[i]!).2) ((l.take i).foldl sideF t) := by
  rw [takeSnoc h, List.foldl_append]; rfl
theorem side_ok : ∀ (l : Rows) (t : List (ByteArray × (Int × UInt64))), Srt t → Srt (l.foldl sideF t) ∧ (l.foldl sideF t).length ≤ t.length + l.length
  | [], t, h => ⟨h, by simp⟩
  | r :: l, t, h => by
    obtain ⟨h1, h2⟩ := side_ok l (tput r.1 (wU r.2) t) (tput_srt h)
    refine ⟨h1, ?_⟩
    show (l.foldl sideF (tput r.1 (wU r.2) t)).length ≤ _
    have := @tput_len _ _ _ r.1 (wU r.2) t
    rw [List.length_cons]; omega
theorem putW {L L1 R K b v} {xs : List (ByteArray × (Int × UInt64))} {k : ByteArray} {z : Int} [p : Pull (pto b) L (cells [v] 179) L1] [q : Pull (own enc_sw 175 v) L1 xs R] (hs : Srt xs) (hn : xs.length ≤ 900000)
    (h : ∀ v', One1 v' → Ht (own enc_sw 175 v' (tput k (wU z) xs) :: pto b (cells [v'] 179) :: R) (K (.bool (!(thas k xs))))) :
    Ht L (CCall Try.prog 93 [.pointer (some ⟨b, 0, none⟩), .string k, wV z] K) := by
  have := sw_put (L := L) (K := K) (b := b) (o := 0) (l := [v]) (v := v) (xs := xs) (k := k) (u := wU z) (fun v' => ⟨[v'], inferInstance⟩) hs hn (fun v' l' hl' => by
    have e : l' = [v'] := by have := hl'.h.2; simpa using this.symm
    subst e
    refine Ht.know (p := One1 v') (fun w t => one1_of (own_sat t)) (fun o => h v' o))
  rw [wU_lo] at this
  exact this
theorem side_spec {L K v} {l : Rows} {c : Int} [rs : RdE L encRw v l] (hn : l.length ≤ 100000) (h64 : rows64 l)
    (h : ∀ b tv, One1 tv → Ht (pto b (cells [tv] 179) :: own enc_sw 175 tv (sideM l c) :: L) (K (.pointer (some ⟨b, 0, none⟩)))) : Ht L (CCall Try.prog 57 [hV v c] K) := by
  have hrs : ∀ (M : List HP) [fr : Frm M L], RdS M v encRw l := fun M fr => ⟨fun w t => (rs.h w (fr.h _ _ t))⟩
  refine Ht.know (p := One1 v) (fun w t => one1_of (rs.h w t)) (fun ov => ?_)
  refine ccall1 Try.func57 rfl (by decide) Try.ntmps57 (by rfl) (by decide) ?_
  repeat (refine stp ?_)
  intro c1
  repeat (refine stp ?_)
  intro b1
  repeat (refine stp ?_)
  refine Ht.own_lit enc_sw (b := b1) (n := 1) (xs := [(noS, wU c)]) (by show [_, _, Value.int .u64 (((wU c).2.toNat : Nat) : Int)] = _; rw [wU_lo]; rfl) rfl (by decide) ?_
  refine sw_of (xs := [(noS, wU c)]) (by simp) fun b tv => ?_
  refine Ht.know (p := One1 tv) (fun w t => one1_of (own_sat t.tail)) (fun otv => ?_)
  repeat (refine stp ?_)
  have hso := side_ok (l := l) (t := tput noS (wU c) []) (tput_srt srt_nil)
  refine ht_for l.length (fun i (x : Value) => One1 x) (fun i x => own enc_sw 175 x ((l.take i).foldl sideF (tput noS (wU c) [])) :: pto b (cells [x] 179) :: pto c1 (cells [v, .int .i64 (wHi c), .int .u64 (wLo c)] 30) :: L) (fun i x => [(14, .int .i64 (i : Int))]) tv [14] otv (fun w t => (inferInstance : Frm _ (own enc_sw 175 tv (sw_ofM [(noS, wU c)]) :: pto b (cells [tv] 179) :: pto c1 (cells [v, .int .i64 (wHi c), .int .u64 (wLo c)] 30) :: L)).h _ _ t) inferInstance ?_
  intro i x hi ox
  dsimp only [List.cons_append, List.nil_append]
  have hsi := side_ok (l.take i) (tput noS (wU c) []) (tput_srt srt_nil)
  have hl1 : (tput noS (wU c) ([] : List (ByteArray × (Int × UInt64)))).length ≤ 1 := tput_len
  rw [List.length_take] at hsi
  repeat (refine stp ?_)
  refine ht_if ?_ ?_ <;> intro hc <;> simp only [decide_eq_true_eq, decide_eq_false_iff_not] at hc
  · have hii : i < l.length := by omega
    have hr := h64 _ (List.mem_of_getElem? (getB hii))
    repeat (refine stp ?_)
    refine co_index (xs := l) (by omega) ?_
    intro hb
    repeat (refine stp ?_)
    intro c5
    repeat (refine stp ?_)
    refine ht_draw Try.can57x5 Try.mixed (by kernel_rfl) ?_
    repeat (refine stp ?_)
    refine Of_spec (n := (l[i]!).2) hr.1 hr.2 ?_
    repeat (refine stp ?_)
    refine putW (b := b) (v := x) (xs := (l.take i).foldl sideF (tput noS (wU c) [])) (k := (l[i]!).1) (z := (l[i]!).2) hsi.1 (by omega) fun x2 ox2 => ?_
    rewrite [← side_take hii]
    repeat (refine stp ?_)
    exact ht_next x2 hii ox2 (fun w t => (inferInstance : Frm _ _).h _ _ t) (SubE.cons (by rw [IntWalk.i64_in _ (by omega)]; rfl) inferInstance) rfl rfl
  · have ei : i = l.length := by omega
    subst ei
    have h2 := h b x ox
    unfold sideM at h2
    rw [List.take_length]
    repeat (refine stp ?_)
    exact ret1 rfl (Ht.frm h2)
end Go.Proofs

set_option linter.all false
set_option synthInstance.maxSize 100000
set_option synthInstance.maxHeartbeats 400000
namespace Go.Proofs
open Go Go.SL
attribute [local irreducible] CCall CO CC CX CD

abbrev Tw := List (ByteArray × (Int × UInt64))
def mgM (xs ys : Tw) : Tw := ys.foldl (fun t r => tput r.1 (if thas r.1 t = true then (tfind r.1 t).getD (0, 0) else r.2) t) xs
theorem mgM_srt {xs : Tw} (hs : Srt xs) (ys : Tw) : Srt (mgM xs ys) := by
  unfold mgM
  induction ys generalizing xs with
  | nil => exact hs
  | cons y ys ih => exact ih (tput_srt hs)
theorem mgM_len (xs ys : Tw) : (mgM xs ys).length ≤ xs.length + ys.length := by
  unfold mgM
  induction ys generalizing xs with
  | nil => simp
  | cons y ys ih =>
    have h1 := ih (tput y.1 (if thas y.1 xs = true then (tfind y.1 xs).getD (0, 0) else y.2) xs)
    have h2 := tput_len (k := y.1) (v := if thas y.1 xs = true then (tfind y.1 xs).getD (0, 0) else y.2) (l := xs)
    simp only [List.foldl_cons, List.length_cons]; omega
theorem mgG {L K} {a b : Int} {c d : Int} (h : Ht L (K (.agg #[.int .i64 a, .int .u64 b]))) : Ht L (CCall Try.prog 61 [.agg #[.int .i64 a, .int .u64 b], .agg #[.int .i64 c, .int .u64 d]] K) := by
  refine ccall2 Try.func61 rfl (by decide) Try.ntmps61 (by rfl) (by decide) ?_
  repeat (refine stp ?_)
  intro c1
  repeat (refine stp ?_)
  intro c2
  repeat (refine stp ?_)
  intro c3
  repeat (refine stp ?_)
  exact retc rfl (Ht.frm h)
theorem mgS_c {L K p5 p9} {was y : Int × UInt64} {has : Bool} [b5 : Blk L p5 [.func (.func 61) #[] #[]]] [b9 : Blk L p9 [.int .i64 y.1, .int .u64 y.2.toNat]]
    (h : Ht L (K (.tuple #[.agg #[.int .i64 (if has = true then was else y).1, .int .u64 (if has = true then was else y).2.toNat], .bool true]))) : Ht L (CCall Try.prog 97 [.agg #[.int .i64 was.1, .int .u64 was.2.toNat], .bool has, .pointer (some ⟨p5, 0, none⟩), .pointer (some ⟨p9, 0, none⟩)] K) := by
  refine ccall4 Try.func97 rfl (by decide) Try.ntmps97 (by rfl) (by decide) ?_
  repeat (refine stp ?_)
  intro c1
  repeat (refine stp ?_)
  intro c2
  repeat (refine stp ?_)
  cases has
  · repeat (refine stp ?_)
    exact retct rfl (Ht.frm h)
  · repeat (refine stp ?_)
    refine mgG ?_
    repeat (refine stp ?_)
    exact retct rfl (Ht.frm h)
theorem sw_merge {L L1 L2 L3 R K bb bv} {ba av} {xs : List (ByteArray × (Int × UInt64))} {ys : List (ByteArray × (Int × UInt64))} [p1 : Pull (pto ba) L (cells [av] 179) L1] [q1 : Pull (own enc_sw 175 av) L1 xs L2] [p2 : Pull (pto bb) L2 (cells [bv] 179) L3] [q2 : Pull (own enc_sw 175 bv) L3 ys R]
    (hsx : Srt xs) (hnx : xs.length ≤ 100000) (hny : ys.length ≤ 100000)
    (h : ∀ bo ov, Ht (pto bo (cells [ov] 179) :: own enc_sw 175 ov (mgM xs ys) :: own enc_sw 175 bv ys :: pto bb (cells [bv] 179) :: own enc_sw 175 av xs :: pto ba (cells [av] 179) :: R) (K (.pointer (some ⟨bo, 0, none⟩)))) :
    Ht L (CCall Try.prog 60 [.pointer (some ⟨ba, 0, none⟩), .pointer (some ⟨bb, 0, none⟩), .func (.func 61) #[] #[]] K) := by
  refine Ht.pull p1 (Ht.two q1 (Ht.four p2 q2 ?_))
  refine ccall3 Try.func60 rfl (by decide) Try.ntmps60 (by rfl) (by decide) ?_
  repeat (refine stp ?_)
  intro p5
  repeat (refine stp ?_)
  refine sw_copy (by omega) ?_
  intro bo ov0
  repeat (refine stp ?_)
  intro p7
  repeat (refine stp ?_)
  refine sw_each (b := bb) (xs := ys) ?_
  intro c
  skip
  repeat (refine stp ?_)
  refine ht_rangeFunc (β := Value) ys.length (fun i => [.string (ys[i]!).1, .agg #[.int .i64 (ys[i]!).2.1, .int .u64 (ys[i]!).2.2.toNat]]) (fun _ _ => True) (fun i ov => pto p7 (cells [.pointer (some ⟨bo, 0, none⟩)] 121) :: pto bo (cells [ov] 179) :: own enc_sw 175 ov (mgM xs (ys.take i)) :: pto c (cells [bv] 177) :: pto p5 (cells [.func (.func 61) #[] #[]] 127) :: own enc_sw 175 bv ys :: pto bb (cells [bv] 179) :: own enc_sw 175 av xs :: pto ba (cells [av] 179) :: R) noX
    ⟨_, Try.func127, by decide, rfl⟩ (fun _ => rfl) ov0 trivial (fun e h s => (inferInstance : Frm _ (pto p7 (cells [.pointer (some ⟨bo, 0, none⟩)] 121) :: pto bo (cells [ov0] 179) :: own enc_sw 175 ov0 xs :: pto c (cells [bv] 177) :: pto p5 (cells [.func (.func 61) #[] #[]] 127) :: own enc_sw 175 bv ys :: pto bb (cells [bv] 179) :: own enc_sw 175 av xs :: pto ba (cells [av] 179) :: R)).h e h s) ?_ ?_ ?_ (fun dd j => ht_noX)
  · intro l A B K' hA hy hd hs
    refine sw_iter (b := c) (v := bv) (by omega) (fun i hi w s => ?_) hy hd hs
    obtain ⟨ov, _, sx⟩ := hA i hi w s
    exact ⟨(inferInstance : Blk (pto p7 (cells [.pointer (some ⟨bo, 0, none⟩)] 121) :: pto bo (cells [ov] 179) :: own enc_sw 175 ov (mgM xs (ys.take i)) :: pto c (cells [bv] 177) :: pto p5 (cells [.func (.func 61) #[] #[]] 127) :: own enc_sw 175 bv ys :: pto bb (cells [bv] 179) :: own enc_sw 175 av xs :: pto ba (cells [av] 179) :: R) c [bv]).h w sx, (inferInstance : RdS (pto p7 (cells [.pointer (some ⟨bo, 0, none⟩)] 121) :: pto bo (cells [ov] 179) :: own enc_sw 175 ov (mgM xs (ys.take i)) :: pto c (cells [bv] 177) :: pto p5 (cells [.func (.func 61) #[] #[]] 127) :: own enc_sw 175 bv ys :: pto bb (cells [bv] 179) :: own enc_sw 175 av xs :: pto ba (cells [av] 179) :: R) bv enc_sw ys).h w sx⟩
  · intro i hi ov _ l dd r hr hok Q' hnext _
    dsimp only [psE]
    repeat (refine stp ?_)
    intro p9
    repeat (refine stp ?_)
    refine rf_begin hr hok ?_
    repeat (refine stp ?_)
    have hlm := mgM_len xs (ys.take i)
    have htk : (ys.take i).length ≤ ys.length := by simp; omega
    refine sw_change (R' := pto l (.loop { r with state := .busy }) :: pto p9 (cells [.int .i64 (ys[i]!).2.1, .int .u64 (ys[i]!).2.2.toNat] 28) :: pto dd (.deferred (some [])) :: pto p7 (cells [.pointer (some ⟨bo, 0, none⟩)] 121) :: pto c (cells [bv] 177) :: pto p5 (cells [.func (.func 61) #[] #[]] 127) :: own enc_sw 175 bv ys :: pto bb (cells [bv] 179) :: own enc_sw 175 av xs :: pto ba (cells [av] 179) :: R) (u := if thas (ys[i]!).1 (mgM xs (ys.take i)) then (tfind (ys[i]!).1 (mgM xs (ys.take i))).getD (0, 0) else (ys[i]!).2) (keep := true) (fun v' => ⟨[v'], inferInstance⟩) (mgM_srt hsx _) (by first | (simp only [List.length_nil] at hlm; omega) | omega) ?_ ?_
    · intro K' hK
      exact mgS_c (y := (ys[i]!).2) (Ht.frm hK)
    intro v2 l2 hl2
    have e : l2 = [v2] := by have := hl2.h.2; simpa using this.symm
    subst e
    rewrite [if_pos rfl]
    repeat (refine stp ?_)
    have e2 : tput (ys[i]!).1 (if thas (ys[i]!).1 (mgM xs (ys.take i)) = true then (tfind (ys[i]!).1 (mgM xs (ys.take i))).getD (0, 0) else (ys[i]!).2) (mgM xs (ys.take i)) = mgM xs (ys.take (i + 1)) := by
      rw [List.take_succ, getB hi, mgM, mgM]; simp [List.foldl_append]
    rewrite [e2]
    exact cx_env SubE.nil (Ht.frm (hnext v2 [] trivial))
  · intro dd ov _
    rw [List.take_length]
    repeat (refine stp ?_)
    exact retD1 rfl (Ht.frm (h bo ov))

end Go.Proofs

set_option linter.all false
set_option synthInstance.maxSize 100000
set_option synthInstance.maxHeartbeats 400000
namespace Go.Proofs
open Go Go.SL
attribute [local irreducible] CCall CO CC CX CD

abbrev Pb := ByteArray × (Int × UInt64) × (Int × UInt64)
@[reducible] def encPb : Enc Pb := ⟨5, fun x => [.string x.1, .int .i64 x.2.1.1, .int .u64 x.2.1.2.toNat, .int .i64 x.2.2.1, .int .u64 x.2.2.2.toNat], fun _ => rfl, fun _ v h => by simp at h; rcases h with rfl | rfl | rfl | rfl | rfl <;> rfl⟩
def zOf (p : Int × UInt64) : Int := p.1 * 18446744073709551616 + (p.2.toNat : Int)
theorem zOf_hi (p : Int × UInt64) : wHi (zOf p) = p.1 := by
  have := p.2.toNat_lt
  unfold zOf; exact wHi_of (by omega) (by omega)
theorem zOf_lo (p : Int × UInt64) : wLo (zOf p) = (p.2.toNat : Int) := by
  have := p.2.toNat_lt
  unfold zOf; exact wLo_of (by omega) (by omega)
theorem zOf_wU (z : Int) : zOf (wU z) = z := by
  unfold zOf
  rw [wU_lo]
  unfold wU wHi wLo; dsimp only; omega
def fitP (p : Int × UInt64) : Prop := -9223372036854775808 ≤ p.1 ∧ p.1 ≤ 9223372036854775807
theorem fitP_w {p : Int × UInt64} (h : fitP p) : fitW (zOf p) := by
  have := p.2.toNat_lt
  unfold fitP at h
  unfold fitW zOf; omega
theorem fitP_wU {z : Int} (h : fitW z) : fitP (wU z) := by
  unfold fitW at h
  unfold fitP wU wHi; dsimp only; omega
def fitT (A : Tw) : Prop := ∀ r ∈ A, fitP r.2
def getW (A : Tw) (k : ByteArray) : Int × UInt64 := (tfind k A).getD (0, 0)
theorem getW_fit {A : Tw} (hs : Srt A) (h : fitT A) (k : ByteArray) : fitP (getW A k) := by
  unfold getW
  cases hf : tfind k A with
  | none => exact ⟨by decide, by decide⟩
  | some p => exact h _ ((tfind_mem hs).1 hf)
def lookM (A B : Tw) (out : List Pb) (k : ByteArray) : List Pb := if zOf (getW A k) + zOf (getW B k) ≠ 0 then out ++ [(k, getW A k, getW B k)] else out
theorem look_spec {R K p6 p7 p8 ba bb av bv lv} {A B : Tw} {out : List Pb} {k : ByteArray} (hsA : Srt A) (hsB : Srt B) (hA : A.length ≤ 1000000) (hB : B.length ≤ 1000000) (fA : fitT A) (fB : fitT B) (ho : out.length ≤ 1000000)
    (h : ∀ lv', One1 lv' → Ht (own encPb 74 lv' (lookM A B out k) :: pto p8 (cells [lv'] 68) :: pto p6 (cells [.pointer (some ⟨ba, 0, none⟩)] 121) :: pto p7 (cells [.pointer (some ⟨bb, 0, none⟩)] 121) :: pto ba (cells [av] 179) :: own enc_sw 175 av A :: pto bb (cells [bv] 179) :: own enc_sw 175 bv B :: R) (K (.tuple #[]))) :
    Ht (own encPb 74 lv out :: pto p8 (cells [lv] 68) :: pto p6 (cells [.pointer (some ⟨ba, 0, none⟩)] 121) :: pto p7 (cells [.pointer (some ⟨bb, 0, none⟩)] 121) :: pto ba (cells [av] 179) :: own enc_sw 175 av A :: pto bb (cells [bv] 179) :: own enc_sw 175 bv B :: R)
      (CCall Try.prog 58 [.string k, .pointer (some ⟨p6, 0, none⟩), .pointer (some ⟨p7, 0, none⟩), .pointer (some ⟨p8, 0, none⟩)] K) := by
  refine Ht.know (p := One1 lv) (fun w t => one1_of (own_sat t)) (fun olv => ?_)
  have hfa := fitP_w (getW_fit hsA fA k)
  have hfb := fitP_w (getW_fit hsB fB k)
  refine ccall4 Try.func58 rfl (by decide) Try.ntmps58 (by rfl) (by decide) ?_
  repeat (refine stp ?_)
  refine sw_get (b := ba) (o := 0) (l := [av]) (v := av) (xs := A) hsA hA ?_
  rewrite [show (tfind k A).getD (0, 0) = getW A k from rfl]
  repeat (refine stp ?_)
  intro c5
  repeat (refine stp ?_)
  refine sw_get (b := bb) (o := 0) (l := [bv]) (v := bv) (xs := B) hsB hB ?_
  rewrite [show (tfind k B).getD (0, 0) = getW B k from rfl]
  repeat (refine stp ?_)
  intro c7
  repeat (refine stp ?_)
  intro b1
  repeat (refine stp ?_)
  refine Ht.own_lit encW (b := b1) (n := 2) (xs := ws [zOf (getW A k), zOf (getW B k)]) (by unfold ws; simp only [List.map_cons, List.map_nil, List.flatMap_cons, List.flatMap_nil, zOf_hi, zOf_lo]; rfl) rfl (by decide) ?_
  refine Plus_spec (l := [zOf (getW A k), zOf (getW B k)]) (by simp) (fun z hz => by
    rcases List.mem_cons.1 hz with rfl | hz
    · exact hfa
    · rw [List.mem_singleton.1 hz]; exact hfb) ?_
  unfold overV
  rewrite [show ([zOf (getW A k), zOf (getW B k)] : List Int).sum = zOf (getW A k) + zOf (getW B k) from by simp]
  repeat (refine stp ?_)
  intro c9
  repeat (refine stp ?_)
  obtain ⟨S, hS⟩ : ∃ S, zOf (getW A k) + zOf (getW B k) = S := ⟨_, rfl⟩
  unfold lookM at h
  rw [hS] at h
  rewrite [hS]
  obtain ⟨W, hW⟩ : ∃ W, (if fitW S then S else 0) = W := ⟨_, rfl⟩
  obtain ⟨e, he⟩ : ∃ e : Int, (if fitW S then (0 : Int) else 4) = e := ⟨_, rfl⟩
  rewrite [hW, he]
  refine ht_val 4 [(36, .bool (decide (S ≠ 0))), (5, .pointer (some ⟨c5, 0, none⟩)), (7, .pointer (some ⟨c7, 0, none⟩)), (0, .string k), (3, .pointer (some ⟨p8, 0, none⟩))] ?_ ?_
  · intro rest Q3 hQ3
    dsimp only [List.take_succ_cons, List.take_zero, List.cons_append, List.nil_append]
    by_cases hf : fitW S
    · have e1 : W = S := by rw [← hW, if_pos hf]
      have e2 : e = 0 := by rw [← he, if_pos hf]
      rewrite [show decide (e ≠ 0) = false from decide_eq_false fun hh => hh e2]
      repeat (refine stp ?_)
      refine Sign_spec (by rw [e1]; exact hf) ?_
      repeat (refine stp ?_)
      refine co_leave (Ht.frm hQ3) (SubE.cons (congrArg Value.bool ?_) inferInstance)
      rw [e1]
      refine decide_eq_decide.2 ⟨fun hc hz => hc (cmpI_eq hz), fun hz hc => ?_⟩
      unfold cmpI at hc
      split at hc
      · cases hc
      · split at hc
        · cases hc
        · omega
    · have e2 : e = 4 := by rw [← he, if_neg hf]
      rewrite [show decide (e ≠ 0) = true from decide_eq_true (show e ≠ 0 by omega)]
      repeat (refine stp ?_)
      refine co_leave (Ht.frm hQ3) (SubE.cons (congrArg Value.bool ?_) inferInstance)
      have hz : S ≠ 0 := fun hz => hf (by rw [hz]; unfold fitW; omega)
      exact (decide_eq_true hz).symm
  simp only [List.drop_succ_cons, List.drop_zero]
  by_cases hz : S ≠ 0
  · rewrite [decide_eq_true hz]
    rw [if_pos hz] at h
    repeat (refine stp ?_)
    intro b2
    repeat (refine stp ?_)
    refine Ht.own_lit encPb (b := b2) (n := 1) (xs := [(k, getW A k, getW B k)]) rfl rfl (by decide) ?_
    refine co_append (e := encPb) (xs := out) (ys := [(k, getW A k, getW B k)]) (by rfl) (by simp; omega) (by simp; omega) ?_
    intro lv2
    refine Ht.one1 (v := lv2) ?_
    intro olv2
    repeat (refine stp ?_)
    exact end0 rfl (Ht.frm (h lv2 olv2))
  · rewrite [decide_eq_false hz]
    rw [if_neg hz] at h
    repeat (refine stp ?_)
    exact end0 rfl (Ht.frm (h lv olv))
end Go.Proofs

set_option linter.all false
set_option synthInstance.maxSize 100000
set_option synthInstance.maxHeartbeats 400000
namespace Go.Proofs
open Go Go.SL
attribute [local irreducible] CCall CO CC CX CD

def outM (A B M : Tw) : List Pb := (M.map fun r => r.1).foldl (lookM A B) []
theorem lookM_len {A B : Tw} {out : List Pb} {k : ByteArray} : (lookM A B out k).length ≤ out.length + 1 := by
  unfold lookM; split <;> simp
theorem outM_len (A B M : Tw) : (outM A B M).length ≤ M.length := by
  unfold outM
  have : ∀ (ks : List ByteArray) (o : List Pb), (ks.foldl (lookM A B) o).length ≤ o.length + ks.length := by
    intro ks
    induction ks with
    | nil => intro o; simp
    | cons k ks ih =>
      intro o
      have h1 := ih (lookM A B o k)
      have h2 := @lookM_len A B o k
      rw [List.foldl_cons, List.length_cons]; omega
  have h := this (M.map fun r => r.1) []
  simpa using h
theorem outM_step {A B M : Tw} {i : Nat} (h : i < M.length) : outM A B (M.take (i + 1)) = lookM A B (outM A B (M.take i)) (M[i]!).1 := by
  unfold outM
  rw [takeSnoc h, List.map_append, List.foldl_append]; rfl
theorem sideM_fit {l : Rows} {c : Int} (hc : fitW c) (h64 : rows64 l) : fitT (sideM l c) := by
  unfold sideM
  have : ∀ (l : Rows) (t : Tw), Srt t → fitT t → rows64 l → fitT (l.foldl sideF t) := by
    intro l
    induction l with
    | nil => intro t _ h _; exact h
    | cons r l ih =>
      intro t hs h h6
      refine ih (tput r.1 (wU r.2) t) (tput_srt hs) (fun x hx => ?_) (fun x hx => h6 x (List.mem_cons_of_mem _ hx))
      rcases (tput_mem hs).1 hx with rfl | ⟨hx, _⟩
      · have := h6 r List.mem_cons_self
        exact fitP_wU (by unfold fitW; omega)
      · exact h x hx
  refine this l _ (tput_srt srt_nil) (fun x hx => ?_) h64
  rcases (tput_mem srt_nil).1 hx with rfl | ⟨hx, _⟩
  · exact fitP_wU hc
  · cases hx
/-! ### two calls in order, beside two new variables: any order -/
abbrev ideals8 : List (List Bool) := [[false, false, false, false, false, false, false, false], [false, false, false, false, false, true, false, false], [false, false, false, false, true, false, false, false], [false, false, false, false, true, true, false, false], [false, false, true, false, false, false, false, false], [false, false, true, false, false, true, false, false], [false, false, true, false, true, false, false, false], [false, false, true, false, true, true, false, false], [true, false, false, false, false, false, false, false], [true, false, false, false, false, true, false, false], [true, false, false, false, true, false, false, false], [true, false, false, false, true, true, false, false], [true, false, true, false, false, false, false, false], [true, false, true, false, false, true, false, false], [true, false, true, false, true, false, false, false], [true, false, true, false, true, true, false, false], [true, true, false, false, false, false, false, false], [true, true, false, false, false, true, false, false], [true, true, false, false, true, false, false, false], [true, true, false, false, true, true, false, false], [true, true, true, false, false, false, false, false], [true, true, true, false, false, true, false, false], [true, true, true, false, true, false, false, false], [true, true, true, false, true, true, false, false], [true, true, true, true, false, false, false, false], [true, true, true, true, false, true, false, false], [true, true, true, true, true, false, false, false], [true, true, true, true, true, true, false, false], [true, true, true, true, true, true, true, false], [true, true, true, true, true, true, true, true]]
def preds8 : Nat → List Nat
  | 1 => [0]
  | 3 => [0, 1, 2]
  | 6 => [0, 1, 2, 3, 4, 5]
  | 7 => [0, 1, 2, 3, 4, 5, 6]
  | _ => []
theorem eight {s : List Bool} {n : Nat} (h : s.length = n) (hn : n = 8 := by rfl) : ∃ b0 b1 b2 b3 b4 b5 b6 b7, s = [b0, b1, b2, b3, b4, b5, b6, b7] := by
  subst hn
  match s, h with
  | [b0, b1, b2, b3, b4, b5, b6, b7], _ => exact ⟨b0, b1, b2, b3, b4, b5, b6, b7, rfl⟩
theorem eightI {i n : Nat} (h : i < n) (hn : n = 8 := by rfl) : i = 0 ∨ i = 1 ∨ i = 2 ∨ i = 3 ∨ i = 4 ∨ i = 5 ∨ i = 6 ∨ i = 7 := by omega
def bt : List Bool → Nat → Bool
  | [], _ => false
  | b :: _, 0 => b
  | _ :: s, n + 1 => bt s n
def nots8 : Nat → List Nat
  | 1 => [6]
  | 3 => [7]
  | 4 => [6]
  | 5 => [7]
  | _ => []
structure D29 where
  v0 : Value
  v1 : Value
  v2 : Value
  v3 : Value
  v6 : Value
  v7 : Value
  ba : Nat
  av : Value
  bb : Nat
  bv : Value
  p6 : Nat
  p7 : Nat
theorem predsB_len {s : List Bool} (h : s ∈ ideals8) : s.length = 8 := by
  have : (ideals8.all fun s => Nat.beq s.length 8) = true := by decide
  rw [List.all_eq_true] at this
  simpa [Nat.beq_eq] using this s h
def F29 (rv1 rv2 : Value) (c1 c2 : Int) (s : List Bool) (d : D29) : Prop :=
  (bt s 0 = true → d.v0 = hV rv1 c1) ∧ (bt s 1 = true → d.v1 = .pointer (some ⟨d.ba, 0, none⟩)) ∧ (bt s 2 = true → d.v2 = hV rv2 c2) ∧ (bt s 3 = true → d.v3 = .pointer (some ⟨d.bb, 0, none⟩))
  ∧ (bt s 4 = true → d.v6 = .pointer (some ⟨d.p6, 0, none⟩)) ∧ (bt s 5 = true → d.v7 = .pointer (some ⟨d.p7, 0, none⟩))
def ifV : Bool → Value → Value
  | true, v => v
  | false, _ => .pointer none
def L29 (A B : Tw) (base : List HP) (s : List Bool) (d : D29) : List HP :=
  cH (bt s 1) (pto d.ba (cells [d.av] 179)) :: cH (bt s 1) (own enc_sw 175 d.av A)
  :: cH (bt s 3) (pto d.bb (cells [d.bv] 179)) :: cH (bt s 3) (own enc_sw 175 d.bv B)
  :: cH (bt s 4) (pto d.p6 (cells [ifV (bt s 6) (.pointer (some ⟨d.ba, 0, none⟩))] 121)) :: cH (bt s 5) (pto d.p7 (cells [ifV (bt s 7) (.pointer (some ⟨d.bb, 0, none⟩))] 121)) :: base
def E29 (E0 : List (Nat × Value)) (d : D29) : List (Nat × Value) := (20, d.v0) :: (21, d.v1) :: (22, d.v2) :: (23, d.v3) :: (6, d.v6) :: (7, d.v7) :: E0
theorem PBreaks_spec {L K rv1 rv2} {r1 r2 : Rows} {c1 c2 : Int} [q1 : RdE L encRw rv1 r1] [q2 : RdE L encRw rv2 r2] (hn1 : r1.length ≤ 20000) (hn2 : r2.length ≤ 20000) (hc1 : fitW c1) (hc2 : fitW c2) (h1 : rows64 r1) (h2 : rows64 r2)
    (hbad : ¬ (RightP r1 ∧ RightP r2) → Ht L (K (.tuple #[.slice none 0 0, .int .i64 1])))
    (h : RightP r1 → RightP r2 → ∀ lv, One1 lv → Ht (own encPb 74 lv (outM (sideM r1 c1) (sideM r2 c2) (mgM (sideM r1 c1) (sideM r2 c2))) :: L) (K (.tuple #[lv, .int .i64 0]))) :
    Ht L (CCall Try.prog 29 [hV rv1 c1, hV rv2 c2] K) := by
  have hr1 : ∀ (M : List HP) [fr : Frm M L], RdE M encRw rv1 r1 := fun M fr => ⟨fun w t => q1.h w (fr.h _ _ t)⟩
  have hr2 : ∀ (M : List HP) [fr : Frm M L], RdE M encRw rv2 r2 := fun M fr => ⟨fun w t => q2.h w (fr.h _ _ t)⟩
  refine Ht.know (p := One1 rv1 ∧ One1 rv2) (fun w t => ⟨one1_of (q1.h w t), one1_of (q2.h w t)⟩) (fun ⟨o1, o2⟩ => ?_)
  refine ccall2 Try.func29 rfl (by decide) Try.ntmps29 (by rfl) (by decide) ?_
  repeat (refine stp ?_)
  intro k2
  repeat (refine stp ?_)
  intro k3
  repeat (refine stp ?_)
  refine ARight_spec (l := r1) (by omega) ?_
  by_cases hR1 : ¬ RightP r1
  · rewrite [decide_eq_false hR1]
    repeat (refine stp ?_)
    exact ret2 rfl (Ht.frm (hbad fun hh => hR1 hh.1))
  replace hR1 := Classical.not_not.1 hR1
  rewrite [decide_eq_true hR1]
  repeat (refine stp ?_)
  refine ARight_spec (l := r2) (by omega) ?_
  by_cases hR2 : ¬ RightP r2
  · rewrite [decide_eq_false hR2]
    repeat (refine stp ?_)
    exact ret2 rfl (Ht.frm (hbad fun hh => hR2 hh.2))
  replace hR2 := Classical.not_not.1 hR2
  rewrite [decide_eq_true hR2]
  repeat (refine stp ?_)
  have hso1 := side_ok r1 (tput noS (wU c1) []) (tput_srt srt_nil)
  have hso2 := side_ok r2 (tput noS (wU c2) []) (tput_srt srt_nil)
  refine cc_env (E' := [(3, .pointer (some ⟨k3, 0, none⟩)), (2, .pointer (some ⟨k2, 0, none⟩)), (4, .slice none 0 0), (5, .int .i64 0)]) inferInstance ?_
  refine ht_drawI ideals8 Try.mixed (by kernel_rfl) (F29 rv1 rv2 c1 c2) (L29 (sideM r1 c1) (sideM r2 c2) (pto k3 (cells [rv2, .int .i64 (wHi c2), .int .u64 (wLo c2)] 30) :: pto k2 (cells [rv1, .int .i64 (wHi c1), .int .u64 (wLo c1)] 30) :: L)) (fun _ => E29 [(3, .pointer (some ⟨k3, 0, none⟩)), (2, .pointer (some ⟨k2, 0, none⟩)), (4, .slice none 0 0), (5, .int .i64 0)]) ?_ ?_ ?_
  · intro w a s r
    obtain ⟨v7, r⟩ := r.more (t := 7) (by decide)
    obtain ⟨v6, r⟩ := r.more (t := 6) (by decide)
    obtain ⟨v3, r⟩ := r.more (t := 23) (by decide)
    obtain ⟨v2, r⟩ := r.more (t := 22) (by decide)
    obtain ⟨v1, r⟩ := r.more (t := 21) (by decide)
    obtain ⟨v0, r⟩ := r.more (t := 20) (by decide)
    exact ⟨⟨v0, v1, v2, v3, v6, v7, 0, .bool false, 0, .bool false, 0, 0⟩, ⟨fun h => (by cases h), fun h => (by cases h), fun h => (by cases h), fun h => (by cases h), fun h => (by cases h), fun h => (by cases h)⟩, pur_true (pur_true (pur_true (pur_true (pur_true (pur_true s))))), r⟩
  · intro s hs i hi d hF
    obtain ⟨hi8, hlen, hnot, hpre⟩ := predsB_at (p := preds8) (by kernel_rfl) hs hi
    have hno := notsB_at (p := nots8) (by kernel_rfl) hs hi
    obtain ⟨b0, b1, b2, b3, b4, b5, b6, b7, rfl⟩ := eight hlen
    obtain ⟨v0, v1, v2, v3, v6, v7, ba, av, bb, bv, p6, p7⟩ := d
    obtain ⟨f0, f1, f2, f3, f4, f5⟩ := hF
    dsimp only at f0 f1 f2 f3 f4 f5
    rcases eightI hi8 with rfl | rfl | rfl | rfl | rfl | rfl | rfl | rfl
    · have e : b0 = false := hnot
      subst e
      refine ⟨_, rfl, rfl, ?_⟩
      unfold L29 E29
      dsimp only [bt, List.set_cons_zero, List.set_cons_succ, cH, ifV]
      repeat (refine stp ?_)
      exact ht_ideal ⟨hV rv1 c1, v1, v2, v3, v6, v7, ba, av, bb, bv, p6, p7⟩ ⟨fun _ => rfl, f1, f2, f3, f4, f5⟩ (fun w t => by
        dsimp only [bt, List.set_cons_zero, List.set_cons_succ, cH, ifV]
        exact (inferInstance : Frm _ _).h _ _ t) inferInstance
    · have e : b1 = false := hnot
      have e0 : b0 = true := hpre 0 (by simp [preds8])
      have e6 : b6 = false := hno 6 (by simp [nots8])
      subst e; subst e0; subst e6
      have g0 := f0 rfl
      subst g0
      refine ⟨_, rfl, rfl, ?_⟩
      unfold L29 E29
      dsimp only [bt, List.set_cons_zero, List.set_cons_succ, cH, ifV]
      repeat (refine stp ?_)
      refine side_spec (l := r1) (by omega) h1 fun ba' av' oav => ?_
      repeat (refine stp ?_)
      exact ht_ideal ⟨hV rv1 c1, (.pointer (some ⟨ba', 0, none⟩)), v2, v3, v6, v7, ba', av', bb, bv, p6, p7⟩ ⟨fun _ => rfl, fun _ => rfl, f2, f3, f4, f5⟩ (fun w t => by
        dsimp only [bt, List.set_cons_zero, List.set_cons_succ, cH, ifV]
        exact (inferInstance : Frm _ _).h _ _ t) inferInstance
    · have e : b2 = false := hnot
      subst e
      refine ⟨_, rfl, rfl, ?_⟩
      unfold L29 E29
      dsimp only [bt, List.set_cons_zero, List.set_cons_succ, cH, ifV]
      repeat (refine stp ?_)
      exact ht_ideal ⟨v0, v1, hV rv2 c2, v3, v6, v7, ba, av, bb, bv, p6, p7⟩ ⟨f0, f1, fun _ => rfl, f3, f4, f5⟩ (fun w t => by
        dsimp only [bt, List.set_cons_zero, List.set_cons_succ, cH, ifV]
        exact (inferInstance : Frm _ _).h _ _ t) inferInstance
    · have e : b3 = false := hnot
      have e0 : b0 = true := hpre 0 (by simp [preds8])
      have e1 : b1 = true := hpre 1 (by simp [preds8])
      have e2 : b2 = true := hpre 2 (by simp [preds8])
      have e7 : b7 = false := hno 7 (by simp [nots8])
      subst e; subst e0; subst e1; subst e2; subst e7
      have g0 := f0 rfl
      subst g0
      have g1 := f1 rfl
      subst g1
      have g2 := f2 rfl
      subst g2
      refine ⟨_, rfl, rfl, ?_⟩
      unfold L29 E29
      dsimp only [bt, List.set_cons_zero, List.set_cons_succ, cH, ifV]
      repeat (refine stp ?_)
      refine side_spec (l := r2) (by omega) h2 fun bb' bv' obv => ?_
      repeat (refine stp ?_)
      exact ht_ideal ⟨hV rv1 c1, (.pointer (some ⟨ba, 0, none⟩)), hV rv2 c2, (.pointer (some ⟨bb', 0, none⟩)), v6, v7, ba, av, bb', bv', p6, p7⟩ ⟨fun _ => rfl, fun _ => rfl, fun _ => rfl, fun _ => rfl, f4, f5⟩ (fun w t => by
        dsimp only [bt, List.set_cons_zero, List.set_cons_succ, cH, ifV]
        exact (inferInstance : Frm _ _).h _ _ t) inferInstance
    · have e : b4 = false := hnot
      subst e
      have e6 : b6 = false := hno 6 (by simp [nots8])
      subst e6
      refine ⟨_, rfl, rfl, ?_⟩
      unfold L29 E29
      dsimp only [bt, List.set_cons_zero, List.set_cons_succ, cH, ifV]
      repeat (refine stp ?_)
      intro p6'
      repeat (refine stp ?_)
      exact ht_ideal ⟨v0, v1, v2, v3, (.pointer (some ⟨p6', 0, none⟩)), v7, ba, av, bb, bv, p6', p7⟩ ⟨f0, f1, f2, f3, fun _ => rfl, f5⟩ (fun w t => by
        dsimp only [bt, List.set_cons_zero, List.set_cons_succ, cH, ifV]
        exact (inferInstance : Frm _ _).h _ _ t) inferInstance
    · have e : b5 = false := hnot
      subst e
      have e7 : b7 = false := hno 7 (by simp [nots8])
      subst e7
      refine ⟨_, rfl, rfl, ?_⟩
      unfold L29 E29
      dsimp only [bt, List.set_cons_zero, List.set_cons_succ, cH, ifV]
      repeat (refine stp ?_)
      intro p7'
      repeat (refine stp ?_)
      exact ht_ideal ⟨v0, v1, v2, v3, v6, (.pointer (some ⟨p7', 0, none⟩)), ba, av, bb, bv, p6, p7'⟩ ⟨f0, f1, f2, f3, f4, fun _ => rfl⟩ (fun w t => by
        dsimp only [bt, List.set_cons_zero, List.set_cons_succ, cH, ifV]
        exact (inferInstance : Frm _ _).h _ _ t) inferInstance
    · have e : b6 = false := hnot
      have e0 : b0 = true := hpre 0 (by simp [preds8])
      have e1 : b1 = true := hpre 1 (by simp [preds8])
      have e2 : b2 = true := hpre 2 (by simp [preds8])
      have e3 : b3 = true := hpre 3 (by simp [preds8])
      have e4 : b4 = true := hpre 4 (by simp [preds8])
      have e5 : b5 = true := hpre 5 (by simp [preds8])
      subst e; subst e0; subst e1; subst e2; subst e3; subst e4; subst e5
      have g0 := f0 rfl
      subst g0
      have g1 := f1 rfl
      subst g1
      have g2 := f2 rfl
      subst g2
      have g3 := f3 rfl
      subst g3
      have g4 := f4 rfl
      subst g4
      have g5 := f5 rfl
      subst g5
      refine ⟨_, rfl, rfl, ?_⟩
      unfold L29 E29
      dsimp only [bt, List.set_cons_zero, List.set_cons_succ, cH, ifV]
      repeat (refine stp ?_)
      exact ht_ideal ⟨hV rv1 c1, (.pointer (some ⟨ba, 0, none⟩)), hV rv2 c2, (.pointer (some ⟨bb, 0, none⟩)), (.pointer (some ⟨p6, 0, none⟩)), (.pointer (some ⟨p7, 0, none⟩)), ba, av, bb, bv, p6, p7⟩ ⟨fun _ => rfl, fun _ => rfl, fun _ => rfl, fun _ => rfl, fun _ => rfl, fun _ => rfl⟩ (fun w t => by
        dsimp only [bt, List.set_cons_zero, List.set_cons_succ, cH, ifV]
        exact (inferInstance : Frm _ _).h _ _ t) inferInstance
    · have e : b7 = false := hnot
      have e0 : b0 = true := hpre 0 (by simp [preds8])
      have e1 : b1 = true := hpre 1 (by simp [preds8])
      have e2 : b2 = true := hpre 2 (by simp [preds8])
      have e3 : b3 = true := hpre 3 (by simp [preds8])
      have e4 : b4 = true := hpre 4 (by simp [preds8])
      have e5 : b5 = true := hpre 5 (by simp [preds8])
      have e6 : b6 = true := hpre 6 (by simp [preds8])
      subst e; subst e0; subst e1; subst e2; subst e3; subst e4; subst e5; subst e6
      have g0 := f0 rfl
      subst g0
      have g1 := f1 rfl
      subst g1
      have g2 := f2 rfl
      subst g2
      have g3 := f3 rfl
      subst g3
      have g4 := f4 rfl
      subst g4
      have g5 := f5 rfl
      subst g5
      refine ⟨_, rfl, rfl, ?_⟩
      unfold L29 E29
      dsimp only [bt, List.set_cons_zero, List.set_cons_succ, cH, ifV]
      repeat (refine stp ?_)
      exact ht_ideal ⟨hV rv1 c1, (.pointer (some ⟨ba, 0, none⟩)), hV rv2 c2, (.pointer (some ⟨bb, 0, none⟩)), (.pointer (some ⟨p6, 0, none⟩)), (.pointer (some ⟨p7, 0, none⟩)), ba, av, bb, bv, p6, p7⟩ ⟨fun _ => rfl, fun _ => rfl, fun _ => rfl, fun _ => rfl, fun _ => rfl, fun _ => rfl⟩ (fun w t => by
        dsimp only [bt, List.set_cons_zero, List.set_cons_succ, cH, ifV]
        exact (inferInstance : Frm _ _).h _ _ t) inferInstance
  intro s hs hall d hF
  have hlen : s.length = 8 := by
    have := (predsB_len hs); exact this
  obtain ⟨b0, b1, b2, b3, b4, b5, b6, b7, rfl⟩ := eight hlen
  simp only [List.all_cons, List.all_nil, Bool.and_true, Bool.and_eq_true] at hall
  obtain ⟨rfl, rfl, rfl, rfl, rfl, rfl, rfl, rfl⟩ := hall
  obtain ⟨v0, v1, v2, v3, v6, v7, ba, av, bb, bv, p6, p7⟩ := d
  obtain ⟨f0, f1, f2, f3, f4, f5⟩ := hF
  dsimp only at f0 f1 f2 f3 f4 f5
  have g0 := f0 rfl
  have g1 := f1 rfl
  have g2 := f2 rfl
  have g3 := f3 rfl
  have g4 := f4 rfl
  have g5 := f5 rfl
  subst g0; subst g1; subst g2; subst g3; subst g4; subst g5
  unfold L29 E29
  dsimp only [bt, cH, ifV]
  refine Ht.know (p := One1 av ∧ One1 bv) (fun w t => ⟨one1_of (own_sat t.tail), one1_of (own_sat t.tail.tail.tail)⟩) (fun ⟨oav, obv⟩ => ?_)
  repeat (refine stp ?_)
  intro p8
  repeat (refine stp ?_)
  intro p9
  repeat (refine stp ?_)
  have hl1 : (tput noS (wU c1) ([] : Tw)).length ≤ 1 := tput_len
  have hl2 : (tput noS (wU c2) ([] : Tw)).length ≤ 1 := tput_len
  have fA := sideM_fit hc1 h1
  have fB := sideM_fit hc2 h2
  unfold sideM at h fA fB ⊢
  generalize List.foldl sideF (tput noS (wU c1) []) r1 = A at *
  generalize List.foldl sideF (tput noS (wU c2) []) r2 = B at *
  have hml := mgM_len A B
  refine sw_merge (ba := ba) (av := av) (bb := bb) (bv := bv) (xs := A) (ys := B) hso1.1 (by omega) (by omega) ?_
  intro bo ov
  refine Ht.know (p := One1 ov) (fun w t => one1_of (own_sat t.tail)) (fun oov => ?_)
  generalize mgM A B = M at *
  repeat (refine stp ?_)
  refine sw_each (b := bo) (xs := M) ?_
  intro c
  repeat (refine stp ?_)
  refine Ht.conseq (L' := own encPb 74 (.slice none 0 0) [] :: _) ?_ (fun w s => own_nil.2 s)
  refine ht_rangeFunc (β := Value) M.length (fun i => [.string (M[i]!).1, .agg #[.int .i64 (M[i]!).2.1, .int .u64 (M[i]!).2.2.toNat]]) (fun _ lv => One1 lv) (fun i lv => own encPb 74 lv (outM A B (M.take i)) :: pto p8 (cells [lv] 68) :: pto p6 (cells [.pointer (some ⟨ba, 0, none⟩)] 121) :: pto p7 (cells [.pointer (some ⟨bb, 0, none⟩)] 121) :: pto ba (cells [av] 179) :: own enc_sw 175 av A :: pto bb (cells [bv] 179) :: own enc_sw 175 bv B :: pto c (cells [ov] 177) :: own enc_sw 175 ov M :: pto p9 (cells [.func (.func 58) #[] #[.pointer (some ⟨p6, 0, none⟩), .pointer (some ⟨p7, 0, none⟩), .pointer (some ⟨p8, 0, none⟩)]] 125) :: L) noX
    ⟨_, Try.func127, by decide, rfl⟩ (fun _ => rfl) (.slice none 0 0) ⟨rfl⟩ (fun e h s => (inferInstance : Frm _ (own encPb 74 (.slice none 0 0) [] :: pto p8 (cells [(.slice none 0 0)] 68) :: pto p6 (cells [.pointer (some ⟨ba, 0, none⟩)] 121) :: pto p7 (cells [.pointer (some ⟨bb, 0, none⟩)] 121) :: pto ba (cells [av] 179) :: own enc_sw 175 av A :: pto bb (cells [bv] 179) :: own enc_sw 175 bv B :: pto c (cells [ov] 177) :: own enc_sw 175 ov M :: pto p9 (cells [.func (.func 58) #[] #[.pointer (some ⟨p6, 0, none⟩), .pointer (some ⟨p7, 0, none⟩), .pointer (some ⟨p8, 0, none⟩)]] 125) :: L)).h e h s) ?_ ?_ ?_ (fun dd j => ht_noX)
  · intro l A' B' K' hA hy hd hs
    refine sw_iter (b := c) (v := ov) (xs := M) (by omega) (fun i hi w s => ?_) hy hd hs
    obtain ⟨lv, _, sx⟩ := hA i hi w s
    exact ⟨(inferInstance : Blk (own encPb 74 lv (outM A B (M.take i)) :: pto p8 (cells [lv] 68) :: pto p6 (cells [.pointer (some ⟨ba, 0, none⟩)] 121) :: pto p7 (cells [.pointer (some ⟨bb, 0, none⟩)] 121) :: pto ba (cells [av] 179) :: own enc_sw 175 av A :: pto bb (cells [bv] 179) :: own enc_sw 175 bv B :: pto c (cells [ov] 177) :: own enc_sw 175 ov M :: pto p9 (cells [.func (.func 58) #[] #[.pointer (some ⟨p6, 0, none⟩), .pointer (some ⟨p7, 0, none⟩), .pointer (some ⟨p8, 0, none⟩)]] 125) :: L) c [ov]).h w sx, (inferInstance : RdS (own encPb 74 lv (outM A B (M.take i)) :: pto p8 (cells [lv] 68) :: pto p6 (cells [.pointer (some ⟨ba, 0, none⟩)] 121) :: pto p7 (cells [.pointer (some ⟨bb, 0, none⟩)] 121) :: pto ba (cells [av] 179) :: own enc_sw 175 av A :: pto bb (cells [bv] 179) :: own enc_sw 175 bv B :: pto c (cells [ov] 177) :: own enc_sw 175 ov M :: pto p9 (cells [.func (.func 58) #[] #[.pointer (some ⟨p6, 0, none⟩), .pointer (some ⟨p7, 0, none⟩), .pointer (some ⟨p8, 0, none⟩)]] 125) :: L) ov enc_sw M).h w sx⟩
  · intro i hi lv olv l dd r hr hok Q' hnext _
    dsimp only [psE]
    have hol := outM_len A B (M.take i)
    rw [List.length_take] at hol
    repeat (refine stp ?_)
    refine rf_begin hr hok ?_
    repeat (refine stp ?_)
    refine Ht.conseq (L' := own encPb 74 lv (outM A B (M.take i)) :: pto p8 (cells [lv] 68) :: pto p6 (cells [.pointer (some ⟨ba, 0, none⟩)] 121) :: pto p7 (cells [.pointer (some ⟨bb, 0, none⟩)] 121) :: pto ba (cells [av] 179) :: own enc_sw 175 av A :: pto bb (cells [bv] 179) :: own enc_sw 175 bv B :: pto l (.loop { r with state := .busy }) :: pto dd (.deferred (some [])) :: pto c (cells [ov] 177) :: own enc_sw 175 ov M :: pto p9 (cells [.func (.func 58) #[] #[.pointer (some ⟨p6, 0, none⟩), .pointer (some ⟨p7, 0, none⟩), .pointer (some ⟨p8, 0, none⟩)]] 125) :: L) ?_ (fun w s => (inferInstance : Frm _ _).h _ _ s)
    refine look_spec hso1.1 hso2.1 (by omega) (by omega) fA fB (by omega) fun lv2 olv2 => ?_
    rewrite [← outM_step hi]
    repeat (refine stp ?_)
    exact cx_env SubE.nil (Ht.frm (hnext lv2 [] olv2))
  · intro dd lv olv
    rw [List.take_length]
    repeat (refine stp ?_)
    exact retD2 rfl (Ht.frm (h hR1 hR2 lv olv))
end Go.Proofs

set_option linter.all false
set_option synthInstance.maxSize 100000
set_option synthInstance.maxHeartbeats 400000
namespace Go.Proofs
open Go Go.SL
attribute [local irreducible] CCall CO CC CX CD

/-- what recon.Breaks finds -/
def brkM (r1 r2 : Rows) (c1 c2 : Int) : List Pb := outM (sideM r1 c1) (sideM r2 c2) (mgM (sideM r1 c1) (sideM r2 c2))
theorem Agree_spec {L K rv1 rv2} {r1 r2 : Rows} {c1 c2 : Int} [q1 : RdE L encRw rv1 r1] [q2 : RdE L encRw rv2 r2] (hn1 : r1.length ≤ 20000) (hn2 : r2.length ≤ 20000) (hc1 : fitW c1) (hc2 : fitW c2) (h1 : rows64 r1) (h2 : rows64 r2)
    (h : Ht L (K (.bool (decide (RightP r1 ∧ RightP r2 ∧ brkM r1 r2 c1 c2 = []))))) : Ht L (CCall Try.prog 25 [hV rv1 c1, hV rv2 c2] K) := by
  have hr1 : ∀ (M : List HP) [fr : Frm M L], RdE M encRw rv1 r1 := fun M fr => ⟨fun w t => q1.h w (fr.h _ _ t)⟩
  have hr2 : ∀ (M : List HP) [fr : Frm M L], RdE M encRw rv2 r2 := fun M fr => ⟨fun w t => q2.h w (fr.h _ _ t)⟩
  refine Ht.know (p := One1 rv1 ∧ One1 rv2) (fun w t => ⟨one1_of (q1.h w t), one1_of (q2.h w t)⟩) (fun ⟨o1, o2⟩ => ?_)
  refine ccall2 Try.func25 rfl (by decide) Try.ntmps25 (by rfl) (by decide) ?_
  repeat (refine stp ?_)
  intro k2
  repeat (refine stp ?_)
  intro k3
  repeat (refine stp ?_)
  refine PBreaks_spec (r1 := r1) (r2 := r2) hn1 hn2 hc1 hc2 h1 h2 (fun hb => ?_) (fun hR1 hR2 lv olv => ?_)
  · rw [decide_eq_false (fun hh : RightP r1 ∧ RightP r2 ∧ brkM r1 r2 c1 c2 = [] => hb ⟨hh.1, hh.2.1⟩)] at h
    repeat (refine stp ?_)
    exact ret1 rfl (Ht.frm h)
  · repeat (refine stp ?_)
    rewrite [show outM (sideM r1 c1) (sideM r2 c2) (mgM (sideM r1 c1) (sideM r2 c2)) = brkM r1 r2 c1 c2 from rfl]
    rw [show decide (RightP r1 ∧ RightP r2 ∧ brkM r1 r2 c1 c2 = []) = decide (((brkM r1 r2 c1 c2).length : Int) = 0) from decide_eq_decide.2 ⟨fun hh => by rw [hh.2.2]; rfl, fun hh => ⟨hR1, hR2, List.eq_nil_of_length_eq_zero (by omega)⟩⟩] at h
    exact ret1 rfl (Ht.frm h)
end Go.Proofs

set_option linter.all false
set_option synthInstance.maxSize 100000
namespace Go.Proofs
open Go Go.SL

/-! ### the plain law: where two holdings say otherwise -/
theorem keys_ext {κ ν ν' : Type} [KLt κ] : ∀ {l : List (κ × ν)} {m : List (κ × ν')}, Srt l → Srt m → (∀ k, (∃ x ∈ l, x.1 = k) ↔ ∃ x ∈ m, x.1 = k) → l.map (fun x => x.1) = m.map fun x => x.1
  | [], [], _, _, _ => rfl
  | [], y :: m, _, _, h => by
    obtain ⟨x, hx, _⟩ := (h y.1).2 ⟨y, List.mem_cons_self, rfl⟩
    cases hx
  | x :: l, [], _, _, h => by
    obtain ⟨y, hy, _⟩ := (h x.1).1 ⟨x, List.mem_cons_self, rfl⟩
    cases hy
  | x :: l, y :: m, hl, hm, h => by
    have hl' := List.pairwise_cons.1 hl
    have hm' := List.pairwise_cons.1 hm
    have hxy : x.1 = y.1 := by
      obtain ⟨a, ha, ea⟩ := (h x.1).1 ⟨x, List.mem_cons_self, rfl⟩
      obtain ⟨b, hb, eb⟩ := (h y.1).2 ⟨y, List.mem_cons_self, rfl⟩
      rcases List.mem_cons.1 ha with rfl | ha
      · exact ea.symm
      rcases List.mem_cons.1 hb with rfl | hb
      · exact eb
      have h1 := hm'.1 a ha
      have h2 := hl'.1 b hb
      rw [ea] at h1
      rw [eb] at h2
      have := KLt.tr _ _ _ h1 h2
      rw [KLt.irr] at this; cases this
    rw [List.map_cons, List.map_cons, hxy]
    congr 1
    refine keys_ext hl'.2 hm'.2 fun k => ⟨fun ⟨a, ha, ea⟩ => ?_, fun ⟨b, hb, eb⟩ => ?_⟩
    · obtain ⟨b, hb, eb⟩ := (h k).1 ⟨a, List.mem_cons_of_mem _ ha, ea⟩
      rcases List.mem_cons.1 hb with rfl | hb
      · have := hl'.1 a ha
        rw [ea, ← eb, hxy, KLt.irr] at this; cases this
      · exact ⟨b, hb, eb⟩
    · obtain ⟨a, ha, ea⟩ := (h k).2 ⟨b, List.mem_cons_of_mem _ hb, eb⟩
      rcases List.mem_cons.1 ha with rfl | ha
      · have := hm'.1 b hb
        rw [eb, ← ea, hxy, KLt.irr] at this; cases this
      · exact ⟨a, ha, ea⟩
theorem tfind_put {κ ν : Type} [KLt κ] {l : List (κ × ν)} (hs : Srt l) (k k' : κ) (v : ν) : tfind k' (tput k v l) = if k = k' then some v else tfind k' l := by
  split
  · next h => subst h; exact (tfind_mem (tput_srt hs)).2 ((tput_mem hs).2 (.inl rfl))
  · next h =>
    cases hf : tfind k' l with
    | none =>
      refine (tfind_none (tput_srt hs)).2 fun r hr => ?_
      rcases (tput_mem hs).1 hr with rfl | ⟨hr, _⟩
      · exact h
      · exact (tfind_none hs).1 hf r hr
    | some u =>
      refine (tfind_mem (tput_srt hs)).2 ((tput_mem hs).2 (.inr ⟨(tfind_mem hs).1 hf, fun e => h e.symm⟩))
def tget (A : Rows) (k : ByteArray) : Int := (tfind k A).getD 0
def sumR (l : Rows) (k : ByteArray) : Int := (l.map fun r => if r.1 = k then r.2 else 0).sum
theorem addL_get {A : Rows} (hs : Srt A) (k k' : ByteArray) (z : Int) : tget (addL A k z) k' = tget A k' + if k = k' then z else 0 := by
  unfold tget addL
  rw [tfind_put hs]
  split
  · next h => subst h; simp
  · simp
theorem fold_get : ∀ (l : Rows) (A : Rows), Srt A → Srt (l.foldl (fun A r => addL A r.1 r.2) A) ∧ ∀ k, tget (l.foldl (fun A r => addL A r.1 r.2) A) k = tget A k + sumR l k
  | [], A, h => ⟨h, fun k => by simp [sumR]⟩
  | r :: l, A, h => by
    obtain ⟨h1, h2⟩ := fold_get l (addL A r.1 r.2) (addL_srt h)
    refine ⟨h1, fun k => ?_⟩
    rw [List.foldl_cons, h2, addL_get h]
    unfold sumR
    rw [List.map_cons, List.sum_cons]; omega
theorem linesL_get {A : Rows} (hs : Srt A) (l : Rows) (c : Int) : Srt (linesL A l c) ∧ ∀ k, tget (linesL A l c) k = tget A k + (if noS = k then c else 0) + sumR l k := by
  obtain ⟨h1, h2⟩ := fold_get l (addL A noS c) (addL_srt hs)
  refine ⟨h1, fun k => ?_⟩
  show tget (l.foldl _ (addL A noS c)) k = _
  rw [h2, addL_get hs]
theorem fold_keys : ∀ (l : Rows) (A : Rows), Srt A → ∀ k, (∃ x ∈ l.foldl (fun A r => addL A r.1 r.2) A, x.1 = k) ↔ (∃ x ∈ A, x.1 = k) ∨ ∃ x ∈ l, x.1 = k
  | [], A, _, k => by simp
  | r :: l, A, h, k => by
    rw [List.foldl_cons, fold_keys l _ (addL_srt h), put_keys h]
    simp only [List.mem_cons, exists_eq_or_imp]
    constructor
    · rintro ((h1 | h1) | h1)
      · exact .inr (.inl h1)
      · exact .inl h1
      · exact .inr (.inr h1)
    · rintro (h1 | h1 | h1)
      · exact .inl (.inr h1)
      · exact .inl (.inl h1)
      · exact .inr h1
where
  put_keys {A : Rows} {k0 : ByteArray} {z : Int} (h : Srt A) {k : ByteArray} : (∃ x ∈ addL A k0 z, x.1 = k) ↔ k0 = k ∨ ∃ x ∈ A, x.1 = k := by
    unfold addL
    constructor
    · rintro ⟨x, hx, e⟩
      rcases (tput_mem h).1 hx with rfl | ⟨hx, _⟩
      · exact .inl e
      · exact .inr ⟨x, hx, e⟩
    · rintro (rfl | ⟨x, hx, e⟩)
      · exact ⟨_, (tput_mem h).2 (.inl rfl), rfl⟩
      · by_cases hk : k0 = k
        · exact ⟨_, (tput_mem h).2 (.inl rfl), hk⟩
        · exact ⟨x, (tput_mem h).2 (.inr ⟨hx, fun e2 => hk (by rw [← e2, e])⟩), e⟩
/-! the program's side -/
def zget (A : Tw) (k : ByteArray) : Int := zOf (getW A k)
theorem zOf_zero : zOf (0, 0) = 0 := rfl
theorem side_get : ∀ (l : Rows) (t : Tw), Srt t → (∀ r ∈ l, r.1 ≠ noS) → Srt l → (∀ r ∈ l, ∀ x ∈ t, x.1 ≠ r.1) → ∀ k, zget (l.foldl sideF t) k = zget t k + sumR l k
  | [], t, _, _, _, _, k => by simp [sumR]
  | r :: l, t, hs, h0, hl, hd, k => by
    have hl' := List.pairwise_cons.1 hl
    have hne : ∀ r' ∈ l, r.1 ≠ r'.1 := fun r' hr' e => by
      have := hl'.1 r' hr'
      rw [e, KLt.irr] at this; cases this
    have ih := side_get l (tput r.1 (wU r.2) t) (tput_srt hs) (fun x hx => h0 x (List.mem_cons_of_mem _ hx)) hl'.2 (fun r' hr' x hx => by
      rcases (tput_mem hs).1 hx with rfl | ⟨hx, _⟩
      · exact hne r' hr'
      · exact hd r' (List.mem_cons_of_mem _ hr') x hx) k
    show zget (l.foldl sideF (tput r.1 (wU r.2) t)) k = _
    rw [ih]
    unfold sumR
    rw [List.map_cons, List.sum_cons]
    unfold zget getW
    rw [tfind_put hs]
    by_cases he : r.1 = k
    · rw [if_pos he, if_pos he, Option.getD_some, zOf_wU]
      have hn : tfind k t = none := (tfind_none hs).2 fun x hx e => hd r List.mem_cons_self x hx (by rw [e, he])
      rw [hn, Option.getD_none, zOf_zero]; omega
    · rw [if_neg he, if_neg he]; omega
theorem sideM_get {l : Rows} {c : Int} (h : RightP l) (k : ByteArray) : zget (sideM l c) k = (if noS = k then c else 0) + sumR l k := by
  have hns : ∀ r ∈ l, r.1 ≠ noS := fun r hr e => by
    have := h.2 r hr
    unfold badR at this
    rw [decide_eq_true e, Bool.or_true] at this; cases this
  unfold sideM
  rw [side_get l _ (tput_srt srt_nil) hns h.1 (fun r hr x hx => by
    rcases (tput_mem srt_nil).1 hx with rfl | ⟨hx, _⟩
    · exact fun e => hns r hr e.symm
    · cases hx) k]
  unfold zget getW
  rw [tfind_put srt_nil]
  split
  · rw [Option.getD_some, zOf_wU]
  · rw [show tfind k ([] : Tw) = none from rfl, Option.getD_none, zOf_zero]
theorem tput_keys {κ ν : Type} [KLt κ] {A : List (κ × ν)} {k0 : κ} {z : ν} (h : Srt A) {k : κ} : (∃ x ∈ tput k0 z A, x.1 = k) ↔ k0 = k ∨ ∃ x ∈ A, x.1 = k := by
  constructor
  · rintro ⟨x, hx, e⟩
    rcases (tput_mem h).1 hx with rfl | ⟨hx, _⟩
    · exact .inl e
    · exact .inr ⟨x, hx, e⟩
  · rintro (rfl | ⟨x, hx, e⟩)
    · exact ⟨_, (tput_mem h).2 (.inl rfl), rfl⟩
    · by_cases hk : k0 = k
      · exact ⟨_, (tput_mem h).2 (.inl rfl), hk⟩
      · exact ⟨x, (tput_mem h).2 (.inr ⟨hx, fun e2 => hk (by rw [← e2, e])⟩), e⟩
theorem put_fold_keys {κ ν ρ' : Type} [KLt κ] (f : List (κ × ν) → κ × ρ' → ν) : ∀ (l : List (κ × ρ')) (A : List (κ × ν)), Srt A → Srt (l.foldl (fun t r => tput r.1 (f t r) t) A) ∧ ∀ k, (∃ x ∈ l.foldl (fun t r => tput r.1 (f t r) t) A, x.1 = k) ↔ (∃ x ∈ A, x.1 = k) ∨ ∃ x ∈ l, x.1 = k
  | [], A, h => ⟨h, fun k => by simp⟩
  | r :: l, A, h => by
    obtain ⟨h1, h2⟩ := put_fold_keys f l (tput r.1 (f A r) A) (tput_srt h)
    refine ⟨h1, fun k => ?_⟩
    rw [List.foldl_cons, h2, tput_keys h]
    simp only [List.mem_cons, exists_eq_or_imp]
    constructor
    · rintro ((h1 | h1) | h1)
      · exact .inr (.inl h1)
      · exact .inl h1
      · exact .inr (.inr h1)
    · rintro (h1 | h1 | h1)
      · exact .inl (.inr h1)
      · exact .inl (.inl h1)
      · exact .inr h1
theorem sideM_keys {l : Rows} {c : Int} : Srt (sideM l c) ∧ ∀ k, (∃ x ∈ sideM l c, x.1 = k) ↔ noS = k ∨ ∃ x ∈ l, x.1 = k := by
  obtain ⟨h1, h2⟩ := put_fold_keys (fun (_ : Tw) (r : ByteArray × Int) => wU r.2) l (tput noS (wU c) []) (tput_srt srt_nil)
  refine ⟨h1, fun k => ?_⟩
  have := h2 k
  rw [tput_keys srt_nil] at this
  exact this.trans ⟨fun h => h.elim (fun h => h.elim .inl (fun ⟨x, hx, _⟩ => by cases hx)) .inr, fun h => h.elim (fun h => .inl (.inl h)) .inr⟩
theorem mgM_keys {A B : Tw} (hA : Srt A) : Srt (mgM A B) ∧ ∀ k, (∃ x ∈ mgM A B, x.1 = k) ↔ (∃ x ∈ A, x.1 = k) ∨ ∃ x ∈ B, x.1 = k :=
  put_fold_keys (fun (t : Tw) (r : ByteArray × (Int × UInt64)) => if thas r.1 t = true then (tfind r.1 t).getD (0, 0) else r.2) B A hA
theorem linesL_keys {A : Rows} (hA : Srt A) (l : Rows) (c : Int) (k : ByteArray) : (∃ x ∈ linesL A l c, x.1 = k) ↔ (noS = k ∨ ∃ x ∈ A, x.1 = k) ∨ ∃ x ∈ l, x.1 = k := by
  unfold linesL
  rw [fold_keys l _ (addL_srt hA), fold_keys.put_keys hA]
def mkP (A B : Tw) (k : ByteArray) : Pb := (k, getW A k, getW B k)
def nzK (A B : Tw) (k : ByteArray) : Bool := decide (zget A k + zget B k ≠ 0)
theorem outM_eq (A B M : Tw) : outM A B M = ((M.map fun r => r.1).filter (nzK A B)).map (mkP A B) := by
  unfold outM
  have : ∀ (ks : List ByteArray) (o : List Pb), ks.foldl (lookM A B) o = o ++ (ks.filter (nzK A B)).map (mkP A B) := by
    intro ks
    induction ks with
    | nil => intro o; simp
    | cons k ks ih =>
      intro o
      rw [List.foldl_cons, ih]
      unfold lookM
      by_cases hz : zOf (getW A k) + zOf (getW B k) ≠ 0
      · rw [if_pos hz, List.filter_cons_of_pos (show nzK A B k = true from decide_eq_true hz), List.map_cons, List.append_assoc]; rfl
      · rw [if_neg hz, List.filter_cons_of_neg (show ¬ nzK A B k = true from fun hh => hz (of_decide_eq_true hh))]
  simpa using this (M.map fun r => r.1) []
/-- as the document has it -/
def asD (p : Pb) : ByteArray × Int × Int := (p.1, zOf p.2.1, zOf p.2.2)
theorem brk_law {r1 r2 : Rows} {c1 c2 : Int} (h1 : RightP r1) (h2 : RightP r2) : (brkM r1 r2 c1 c2).map asD = brkL (linesL [] r1 c1) (linesL [] r2 c2) (linesL (linesL [] r1 c1) r2 c2) := by
  have sX := linesL_get (A := []) srt_nil r1 c1
  have sY := linesL_get (A := []) srt_nil r2 c2
  have sB := linesL_get sX.1 r2 c2
  have kA := sideM_keys (l := r1) (c := c1)
  have kB := sideM_keys (l := r2) (c := c2)
  have kM := mgM_keys (B := sideM r2 c2) kA.1
  have hg : ∀ (r : Rows) (c : Int), RightP r → ∀ k, zget (sideM r c) k = tget (linesL [] r c) k := fun r c hr k => by
    rw [sideM_get hr, (linesL_get (A := []) srt_nil r c).2]
    show _ = 0 + _ + _
    omega
  have hkeys : (mgM (sideM r1 c1) (sideM r2 c2)).map (fun r => r.1) = (linesL (linesL [] r1 c1) r2 c2).map fun r => r.1 := by
    refine keys_ext kM.1 sB.1 fun k => ?_
    rw [kM.2, kA.2, kB.2, linesL_keys sX.1, linesL_keys srt_nil]
    constructor
    · rintro ((h | h) | (h | h))
      · exact .inl (.inl h)
      · exact .inl (.inr (.inr h))
      · exact .inl (.inl h)
      · exact .inr h
    · rintro ((h | ((h | ⟨x, hx, _⟩) | h)) | h)
      · exact .inl (.inl h)
      · exact .inl (.inl h)
      · cases hx
      · exact .inl (.inr h)
      · exact .inr (.inr h)
  unfold brkM
  rw [outM_eq, hkeys, List.map_map]
  unfold brkL
  rw [List.filter_map, List.map_map]
  have hf : (linesL (linesL [] r1 c1) r2 c2).filter (nzK (sideM r1 c1) (sideM r2 c2) ∘ fun r => r.1) = (linesL (linesL [] r1 c1) r2 c2).filter fun p => decide (p.2 ≠ 0) := by
    refine List.filter_congr fun p hp => ?_
    have hv : p.2 = tget (linesL (linesL [] r1 c1) r2 c2) p.1 := by
      unfold tget
      rw [(tfind_mem sB.1).2 (show (p.1, p.2) ∈ _ from hp)]; rfl
    have e : p.2 = zget (sideM r1 c1) p.1 + zget (sideM r2 c2) p.1 := by
      rw [hv, sB.2, hg r1 c1 h1, hg r2 c2 h2, sY.2]
      have : tget [] p.1 = 0 := rfl
      omega
    show decide (_ ≠ 0) = decide _
    rw [e]
  rw [hf]
  refine List.map_congr_left fun p _ => ?_
  have e1 := hg r1 c1 h1 p.1
  have e2 := hg r2 c2 h2 p.1
  unfold zget at e1 e2
  show (p.1, zOf (getW _ p.1), zOf (getW _ p.1)) = (p.1, tget _ p.1, tget _ p.1)
  rw [e1, e2]
theorem brk_swap {r1 r2 : Rows} {c1 c2 : Int} : brkM r2 r1 c2 c1 = (brkM r1 r2 c1 c2).map fun p => (p.1, p.2.2, p.2.1) := by
  have kA := sideM_keys (l := r1) (c := c1)
  have kB := sideM_keys (l := r2) (c := c2)
  have kM := mgM_keys (B := sideM r2 c2) kA.1
  have kN := mgM_keys (B := sideM r1 c1) kB.1
  have hkeys : (mgM (sideM r2 c2) (sideM r1 c1)).map (fun r => r.1) = (mgM (sideM r1 c1) (sideM r2 c2)).map fun r => r.1 := by
    refine keys_ext kN.1 kM.1 fun k => ?_
    rw [kM.2, kN.2]
    exact ⟨fun h => h.symm, fun h => h.symm⟩
  unfold brkM
  rw [outM_eq, outM_eq, hkeys, List.map_map]
  have hn : nzK (sideM r2 c2) (sideM r1 c1) = nzK (sideM r1 c1) (sideM r2 c2) := by
    funext k
    unfold nzK
    rw [Int.add_comm]
  rw [hn]; rfl
end Go.Proofs

set_option linter.all false
set_option synthInstance.maxSize 100000
set_option synthInstance.maxHeartbeats 400000
namespace Go.Proofs
open Go Go.SL
attribute [local irreducible] CCall CO CC CX CD

def usS : ByteArray := ⟨#[85, 83, 48, 51, 55, 56, 51, 51, 49, 48, 48, 53]⟩
theorem known_brk : brkM [(usS, 10)] [(usS, -9)] 0 0 = [(usS, wU 10, wU (-9))] := by kernel_rfl
theorem known_brk2 : brkM [] [] 5 (-5) = [] := by kernel_rfl
theorem known26_spec {L K} (h : Ht L (K (.bool true))) : Ht L (CCall Try.prog 23 [] K) := by
  have hnil : ∀ M : List HP, RdE M encRw (.slice none 0 0) [] := fun M => ⟨fun _ _ => .inl ⟨rfl, rfl⟩⟩
  refine ccall0 Try.func23 rfl (by decide) Try.ntmps23 (by rfl) (by decide) ?_
  repeat (refine stp ?_)
  intro b1
  repeat (refine stp ?_)
  intro b2
  repeat (refine stp ?_)
  refine Ht.own_lit encRw (b := b1) (n := 1) (xs := [(usS, 10)]) rfl rfl (by decide) ?_
  refine Ht.own_lit encRw (b := b2) (n := 1) (xs := [(usS, -9)]) rfl rfl (by decide) ?_
  have hR : ∀ n : Int, n ≠ 0 → RightP [(usS, n)] := fun n hn => ⟨List.pairwise_singleton _ _, fun r hr => by
    rw [List.mem_singleton.1 hr]
    unfold badR
    rw [decide_eq_false hn]; rfl⟩
  have h64 : ∀ n : Int, -9223372036854775808 ≤ n → n ≤ 9223372036854775807 → rows64 [(usS, n)] := fun n h1 h2 r hr => by rw [List.mem_singleton.1 hr]; exact ⟨h1, h2⟩
  refine PBreaks_spec (r1 := [(usS, 10)]) (r2 := [(usS, -9)]) (c1 := 0) (c2 := 0) (by simp) (by simp) (by decide) (by decide) (h64 _ (by decide) (by decide)) (h64 _ (by decide) (by decide)) (fun hb => absurd ⟨hR 10 (by decide), hR (-9) (by decide)⟩ hb) (fun hR1 hR2 lv olv => ?_)
  rewrite [show outM (sideM [(usS, 10)] 0) (sideM [(usS, -9)] 0) (mgM (sideM [(usS, 10)] 0) (sideM [(usS, -9)] 0)) = [(usS, wU 10, wU (-9))] from known_brk]
  haveI : SmS usS := ⟨by decide⟩
  repeat (refine stp ?_)
  refine ht_draw Try.can23x3 Try.mixed (by kernel_rfl) ?_
  repeat (refine stp ?_)
  refine cd_index (xs := [(usS, wU 10, wU (-9))]) ⟨by omega, by simp⟩ ?_
  intro hb1 hb2
  repeat (refine stp ?_)
  refine Of_spec (n := 10) (by decide) (by decide) ?_
  repeat (refine stp ?_)
  refine Of_spec (n := -9) (by decide) (by decide) ?_
  repeat (refine stp ?_)
  haveI : EqB (.agg #[.string (([(usS, wU 10, wU (-9))] : List Pb)[0]!).1, .int .i64 (([(usS, wU 10, wU (-9))] : List Pb)[0]!).2.1.1, .int .u64 (((([(usS, wU 10, wU (-9))] : List Pb)[0]!).2.1.2.toNat : Nat) : Int), .int .i64 (([(usS, wU 10, wU (-9))] : List Pb)[0]!).2.2.1, .int .u64 (((([(usS, wU 10, wU (-9))] : List Pb)[0]!).2.2.2.toNat : Nat) : Int)]) (.agg #[.string ⟨#[85, 83, 48, 51, 55, 56, 51, 51, 49, 48, 48, 53]⟩, .int .i64 (wHi 10), .int .u64 (wLo 10), .int .i64 (wHi (-9)), .int .u64 (wLo (-9))]) :=
    ⟨usS, wHi 10, wLo 10, wHi (-9), wLo (-9), (by
      show Value.agg #[.string usS, .int .i64 (wU 10).1, .int .u64 (((wU 10).2.toNat : Nat) : Int), .int .i64 (wU (-9)).1, .int .u64 (((wU (-9)).2.toNat : Nat) : Int)] = _
      rw [wU_lo, wU_lo]; rfl), rfl, by decide, by decide, by decide, by decide, by decide⟩
  repeat (refine stp ?_)
  refine Of_spec (n := 5) (by decide) (by decide) ?_
  repeat (refine stp ?_)
  refine Of_spec (n := -5) (by decide) (by decide) ?_
  repeat (refine stp ?_)
  refine Agree_spec (r1 := []) (r2 := []) (c1 := 5) (c2 := -5) (by simp) (by simp) (by decide) (by decide) (fun r hr => by cases hr) (fun r hr => by cases hr) ?_
  rewrite [decide_eq_true (show RightP [] ∧ RightP [] ∧ brkM [] [] 5 (-5) = [] from ⟨⟨List.Pairwise.nil, fun r hr => by cases hr⟩, ⟨List.Pairwise.nil, fun r hr => by cases hr⟩, known_brk2⟩)]
  repeat (refine stp ?_)
  exact ret1 rfl (Ht.frm h)
end Go.Proofs

set_option linter.all false
set_option synthInstance.maxSize 100000
set_option synthInstance.maxHeartbeats 400000
namespace Go.Proofs
open Go Go.SL
attribute [local irreducible] CCall CO CC CX CD

/-! ### the opposite of a holding -/
def negR (r : ByteArray × Int) : ByteArray × Int := (r.1, if fit64 (0 - r.2) then 0 - r.2 else 0)
def negL (l : Rows) : Rows := l.map negR
theorem negL_len {l : Rows} : (negL l).length = l.length := by unfold negL; rw [List.length_map]
theorem negSn {l : Rows} {i : Nat} (hi : i < l.length) : negL (l.take i) ++ [((l[i]!).1, if fit64 (0 - (l[i]!).2) then 0 - (l[i]!).2 else 0)] = negL (l.take (i + 1)) := by
  unfold negL
  rw [takeSnoc hi, List.map_append]; rfl
theorem stepT {l : Rows} {c e : Int} {i : Nat} (he : e = 0) (hx : e = 0 ↔ fitW (0 - c) ∧ ∀ t, t < i → fit64 (0 - (l[t]!).2)) :
    (if fit64 (0 - (l[i]!).2) then (0 : Int) else 4) = 0 ↔ fitW (0 - c) ∧ ∀ t, t < i + 1 → fit64 (0 - (l[t]!).2) := by
  obtain ⟨h1, h2⟩ := hx.1 he
  by_cases hf : fit64 (0 - (l[i]!).2)
  · rw [if_pos hf]
    refine ⟨fun _ => ⟨h1, fun t ht => ?_⟩, fun _ => rfl⟩
    by_cases hti : t = i
    · rw [hti]; exact hf
    · exact h2 t (by omega)
  · rw [if_neg hf]
    exact ⟨fun h => absurd h (by decide), fun h => absurd (h.2 i (by omega)) hf⟩
theorem stepF {l : Rows} {c e : Int} {i : Nat} (he : ¬ e = 0) (hx : e = 0 ↔ fitW (0 - c) ∧ ∀ t, t < i → fit64 (0 - (l[t]!).2)) :
    e = 0 ↔ fitW (0 - c) ∧ ∀ t, t < i + 1 → fit64 (0 - (l[t]!).2) :=
  ⟨fun h => absurd h he, fun h => hx.2 ⟨h.1, fun t ht => h.2 t (by omega)⟩⟩
theorem AOpp_spec {L K rv} {l : Rows} {c : Int} [rs : RdE L encRw rv l] (hn : l.length ≤ 100000) (hc : fitW c) (h64 : rows64 l)
    (hb : ∀ e : Int, e ≠ 0 → Ht L (K (.tuple #[hV (.slice none 0 0) 0, .int .i64 e])))
    (hg : ∀ v', One1 v' → RightP l → fitW (0 - c) → (∀ r ∈ l, fit64 (0 - r.2)) → Ht (own encRw 85 v' (negL l) :: L) (K (.tuple #[hV v' (0 - c), .int .i64 0]))) :
    Ht L (CCall Try.prog 21 [hV rv c] K) := by
  have hrs : ∀ (M : List HP) [fr : Frm M L], RdE M encRw rv l := fun M fr => ⟨fun w t => rs.h w (fr.h _ _ t)⟩
  have hrs2 : ∀ (M : List HP) [fr : Frm M L], RdS M rv encRw l := fun M fr => ⟨fun w t => rs.h w (fr.h _ _ t)⟩
  refine Ht.know (p := One1 rv) (fun w t => one1_of (rs.h w t)) (fun ov => ?_)
  refine ccall1 Try.func21 rfl (by decide) Try.ntmps21 (by rfl) (by decide) ?_
  repeat (refine stp ?_)
  intro c1
  repeat (refine stp ?_)
  intro c2
  repeat (refine stp ?_)
  refine ARight_spec (l := l) (by omega) ?_
  repeat (refine stp ?_)
  by_cases hR : RightP l
  · rewrite [decide_eq_true hR, show (!true) = false from rfl]
    repeat (refine stp ?_)
    refine Opp_spec hc ?_
    unfold overV
    obtain ⟨c', hc'⟩ : ∃ c', c' = (if fitW (0 - c) then 0 - c else 0) := ⟨_, rfl⟩
    obtain ⟨e0, he0⟩ : ∃ e0 : Int, e0 = (if fitW (0 - c) then 0 else 4) := ⟨_, rfl⟩
    rewrite [← hc', ← he0]
    repeat (refine stp ?_)
    intro c4
    repeat (refine stp ?_)
    intro c6
    repeat (refine stp ?_)
    refine ht_for l.length (fun i (x : Value × Int) => One1 x.1 ∧ (x.2 = 0 ↔ fitW (0 - c) ∧ ∀ t, t < i → fit64 (0 - (l[t]!).2))) (fun i x => own encRw 85 x.1 (negL (l.take i)) :: pto c6 (cells [x.1, .int .i64 (wHi c'), .int .u64 (wLo c')] 30) :: pto c4 (cells [.int .i64 (wHi c'), .int .u64 (wLo c')] 28) :: pto c2 (cells [.slice none 0 0, .int .i64 0, .int .u64 0] 30) :: pto c1 (cells [rv, .int .i64 (wHi c), .int .u64 (wLo c)] 30) :: L) (fun i x => [(26, .int .i64 (i : Int)), (5, .int .i64 x.2)]) (.slice none 0 0, e0) [26, 5] ⟨⟨rfl⟩, by rw [he0]; split <;> simp_all⟩ (fun w t => own_nil.2 t) inferInstance ?_
    intro i ⟨x, e⟩ hi ⟨ox, hx⟩
    dsimp only at ox hx
    dsimp only [List.cons_append, List.nil_append]
    have htl : (negL (l.take i)).length = i := by rw [negL_len, List.length_take]; omega
    repeat (refine stp ?_)
    refine ht_if ?_ ?_ <;> intro hc3 <;> simp only [decide_eq_true_eq, decide_eq_false_iff_not] at hc3
    · have hii : i < l.length := by omega
      have hr := h64 _ (List.mem_of_getElem? (getB hii))
      repeat (refine stp ?_)
      refine co_index (xs := l) (by omega) ?_
      intro hb
      repeat (refine stp ?_)
      intro c8
      repeat (refine stp ?_)
      refine Sub_spec (x := 0) (y := (l[i]!).2) (by decide) hr ?_
      unfold narV
      repeat (refine stp ?_)
      by_cases he : e = 0
      · rewrite [decide_eq_true he]
        repeat (refine stp ?_)
        intro b1
        repeat (refine stp ?_)
        refine Ht.own_lit encRw (b := b1) (n := 1) (xs := [((l[i]!).1, if fit64 (0 - (l[i]!).2) then 0 - (l[i]!).2 else 0)]) rfl rfl (by decide) ?_
        refine co_append (e := encRw) (xs := negL (l.take i)) (ys := [((l[i]!).1, if fit64 (0 - (l[i]!).2) then 0 - (l[i]!).2 else 0)]) (by rfl) (by simp; omega) (by simp; omega) ?_
        intro x2
        refine Ht.one1 (v := x2) ?_
        intro ox2
        rewrite [negSn hii]
        repeat (refine stp ?_)
        exact ht_next (x2, if fit64 (0 - (l[i]!).2) then (0 : Int) else 4) hii ⟨ox2, stepT he hx⟩ (fun w t => (inferInstance : Frm _ _).h _ _ t) (SubE.cons (by rw [IntWalk.i64_in _ (by omega)]; rfl) inferInstance) rfl rfl

      · rewrite [decide_eq_false he]
        repeat (refine stp ?_)
        intro b1
        repeat (refine stp ?_)
        refine Ht.own_lit encRw (b := b1) (n := 1) (xs := [((l[i]!).1, if fit64 (0 - (l[i]!).2) then 0 - (l[i]!).2 else 0)]) rfl rfl (by decide) ?_
        refine co_append (e := encRw) (xs := negL (l.take i)) (ys := [((l[i]!).1, if fit64 (0 - (l[i]!).2) then 0 - (l[i]!).2 else 0)]) (by rfl) (by simp; omega) (by simp; omega) ?_
        intro x2
        refine Ht.one1 (v := x2) ?_
        intro ox2
        rewrite [negSn hii]
        repeat (refine stp ?_)
        exact ht_next (x2, e) hii ⟨ox2, stepF he hx⟩ (fun w t => (inferInstance : Frm _ _).h _ _ t) (SubE.cons (by rw [IntWalk.i64_in _ (by omega)]; rfl) inferInstance) rfl rfl

    · have ei : i = l.length := by omega
      subst ei
      rw [List.take_length]
      repeat (refine stp ?_)
      by_cases he : e = 0
      · obtain ⟨hfc, hall⟩ := hx.1 he
        rw [if_pos hfc] at hc'
        subst hc' he
        rewrite [show decide ((0 : Int) ≠ 0) = false from rfl]
        repeat (refine stp ?_)
        exact retct rfl (Ht.frm (hg x ox hR hfc fun r hr => by
          obtain ⟨j, hj, rfl⟩ := List.mem_iff_getElem.1 hr
          have := hall j hj
          rwa [getElem!_pos l j hj] at this))
      · rewrite [decide_eq_true (show e ≠ 0 from he)]
        repeat (refine stp ?_)
        exact retct rfl (Ht.frm (hb e he))
  · rewrite [decide_eq_false hR, show (!false) = true from rfl]
    repeat (refine stp ?_)
    exact retct rfl (Ht.frm (hb 1 (by decide)))
end Go.Proofs

set_option linter.all false
set_option synthInstance.maxSize 100000
set_option synthInstance.maxHeartbeats 400000
namespace Go.Proofs
open Go Go.SL

attribute [local irreducible] CCall CO CC CX CD
@[reducible] def enc_sl : Enc (ByteArray × Int) := ⟨2, fun r => [.string r.1, .int .i64 r.2], fun _ => rfl, fun _ v h => by simp at h; rcases h with rfl | rfl <;> rfl⟩
theorem sl_placeF {L K} {r : (ByteArray × Int)} {k : ByteArray} (h : Ht L (K (.int .i64 (cmpV r.1 k)))) : Ht L (CCall Try.prog 111 [.agg #[.string r.1, .int .i64 r.2], .string k] K) := by
  refine ccall2 Try.func111 rfl (by decide) Try.ntmps111 (by rfl) (by decide) ?_
  repeat (refine stp ?_)
  intro b
  repeat (refine stp ?_)
  refine Compare_s_spec ?_
  repeat (refine stp ?_)
  exact ret1 rfl (Ht.frm h)

theorem sl_bs {L K v} {xs : List (ByteArray × Int)} {k : ByteArray} [rd : RdS L v enc_sl xs] (hs : Srt xs) (hn : xs.length ≤ 1000000) (h : Ht L (K (.tuple #[.int .i64 (tpos k xs : Nat), .bool (thas k xs)]))) :
    Ht L (CCall Try.prog 110 [v, .string k, .func (.func 111) #[] #[]] K) := by
  refine ccall3 Try.func110 rfl (by decide) Try.ntmps110 (by rfl) (by decide) ?_
  repeat (refine stp ?_)
  refine ht_iter (α := {p : Nat × Nat // p.1 ≤ p.2 ∧ p.2 ≤ xs.length ∧ (∀ j r, j < p.1 → xs[j]? = some r → KLt.lt r.1 k = true) ∧ (∀ j r, p.2 ≤ j → xs[j]? = some r → KLt.lt r.1 k = false)})
    (fun p => p.1.2 - p.1.1) (fun _ => L) (fun p => [(9, .int .i64 p.1.1), (10, .int .i64 p.1.2)]) ⟨(0, xs.length), by omega, by omega, by intro j r h; simp at h, by intro j r h hj; have := (List.getElem?_eq_some_iff.1 hj).1; omega⟩ [9, 10] (fun _ s => s) inferInstance ?_
  intro ⟨(i, j), hij, hj, hlo, hhi⟩
  dsimp only [List.cons_append, List.nil_append] at hij hj hlo hhi ⊢
  repeat (refine stp ?_)
  refine ht_if ?_ ?_ <;> intro hc <;> simp only [decide_eq_true_eq, decide_eq_false_iff_not] at hc
  · repeat (refine stp ?_)
    rewrite [midw i j (by omega)]
    refine co_index (by omega) ?_
    intro hb
    have hg := getB hb.h
    repeat (refine stp ?_)
    refine sl_placeF ?_
    repeat (refine stp ?_)
    refine ht_if ?_ ?_ <;> intro h1 <;> simp only [decide_eq_true_eq, decide_eq_false_iff_not] at h1
    · repeat (refine stp ?_)
      refine ht_again ⟨((i + j) / 2 + 1, j), ?_⟩ ?_ (fun _ s => s) (SubE.cons (by rw [IntWalk.i64_in _ (by omega)]; rfl) (SubE.cons rfl inferInstance)) rfl rfl
      · exact ⟨by omega, hj, srt_low hs hg (cmpV_neg.1 h1), hhi⟩
      · show j - ((i + j) / 2 + 1) < j - i; omega
    · repeat (refine stp ?_)
      refine ht_again ⟨(i, (i + j) / 2), ?_⟩ ?_ (fun _ s => s) (SubE.cons rfl (SubE.cons rfl inferInstance)) rfl rfl
      · exact ⟨by omega, by omega, hlo, srt_high hs hg (cmpV_nneg h1)⟩
      · show (i + j) / 2 - i < j - i; omega
  · have e : i = j := by omega
    subst e
    have hp := tpos_eq hj hlo hhi
    repeat (refine stp ?_)
    refine ht_guard ?_ ?_ <;> intro h1 <;> simp only [decide_eq_true_eq, decide_eq_false_iff_not] at h1
    · repeat (refine stp ?_)
      refine co_index (by omega) ?_
      intro hb
      have hg := getB hb.h
      repeat (refine stp ?_)
      refine sl_placeF ?_
      repeat (refine stp ?_)
      refine ret2 rfl ?_
      have e2 : decide (cmpV (xs[i]!).1 k = 0) = thas k xs := by
        rw [thas, tfind_at (by rw [hp]; exact hg)]
        by_cases hk : (xs[i]!).1 = k
        · rw [if_pos hk, hk, cmpV_self]; rfl
        · rw [if_neg hk, decide_eq_false (fun h0 => hk (cmpV_zero h0))]; rfl
      rewrite [e2]
      rw [hp] at h
      exact h
    · repeat (refine stp ?_)
      refine ret2 rfl ?_
      have e2 : thas k xs = false := by rw [thas, tfind_end (by omega)]; rfl
      rw [hp, e2] at h
      exact h

/-! a table: its rows' slice lies in cell o of block b -/
theorem sl_place {L L1 R K b o l S v} {xs : List (ByteArray × Int)} {k : ByteArray} [p : Pull (pto b) L (cells l S) L1] [n : Nth l o v] [q : Pull (own enc_sl 159 v) L1 xs R] (hs : Srt xs) (hn : xs.length ≤ 1000000)
    (h : Ht (own enc_sl 159 v xs :: pto b (cells l S) :: R) (K (.tuple #[.int .i64 (tpos k xs : Nat), .bool (thas k xs)]))) :
    Ht L (CCall Try.prog 80 [.pointer (some ⟨b, o, none⟩), .string k] K) := by
  refine Ht.pull p (Ht.two q ?_)
  refine ccall2 Try.func80 rfl (by decide) Try.ntmps80 (by rfl) (by decide) ?_
  repeat (refine stp ?_)
  refine sl_bs hs hn ?_
  repeat (refine stp ?_)
  exact ret2 rfl h

theorem sl_get {L L1 R K b o l S v} {xs : List (ByteArray × Int)} {k : ByteArray} [p : Pull (pto b) L (cells l S) L1] [n : Nth l o v] [q : Pull (own enc_sl 159 v) L1 xs R] (hs : Srt xs) (hn : xs.length ≤ 1000000)
    (h : Ht (own enc_sl 159 v xs :: pto b (cells l S) :: R) (K (.tuple #[.int .i64 ((tfind k xs).getD 0), .bool (thas k xs)]))) :
    Ht L (CCall Try.prog 52 [.pointer (some ⟨b, o, none⟩), .string k] K) := by
  refine Ht.pull p (Ht.two q ?_)
  refine ccall2 Try.func52 rfl (by decide) Try.ntmps52 (by rfl) (by decide) ?_
  repeat (refine stp ?_)
  refine sl_place hs hn ?_
  repeat (refine stp ?_)
  refine ht_if ?_ ?_ <;> intro h0 <;> simp only [Bool.not_eq_true', Bool.not_eq_false'] at h0
  · repeat (refine stp ?_)
    refine ret2 rfl ?_
    have e : tfind k xs = none := by rw [thas] at h0; simpa using h0
    rw [h0, e] at h
    exact h
  · repeat (refine stp ?_)
    obtain ⟨u, hu⟩ := Option.isSome_iff_exists.1 h0
    have hk := tfind_some hu
    have hlt := (List.getElem?_eq_some_iff.1 hk).1
    refine co_index (by omega) ?_
    intro hb
    have e2 : xs[tpos k xs]! = (k, u) := by have := getB hb.h; rw [hk] at this; exact (Option.some.inj this).symm
    repeat (refine stp ?_)
    refine ret2 rfl ?_
    rw [h0, hu] at h
    rewrite [e2]
    exact h
theorem sl_get_nil {L K} {k : ByteArray} (h : Ht L (K (.tuple #[.int .i64 0, .bool false]))) : Ht L (CCall Try.prog 52 [.pointer none, .string k] K) := by
  refine ccall2 Try.func52 rfl (by decide) Try.ntmps52 (by rfl) (by decide) ?_
  repeat (refine stp ?_)
  exact ret2 rfl h

theorem sl_insert {L L1 R K sv vb l T' i} {xs : List (ByteArray × Int)} {x : (ByteArray × Int)} [p : Pull (own enc_sl 159 sv) L xs L1] [q : Pull (pto vb) L1 (cells l T') R] (hl : l = enc_sl.f x) (hi : i ≤ xs.length) (hn : xs.length ≤ 1000000)
    (h : ∀ v', Ht (own enc_sl 159 v' (xs.take i ++ x :: xs.drop i) :: R) (K v')) :
    Ht L (CCall Try.prog 116 [sv, .int .i64 (i : Nat), .slice (some ⟨vb, 0, none⟩) 1 1] K) := by
  refine Ht.pull p (Ht.two q ?_)
  subst hl
  refine ccall3 Try.func116 rfl (by decide) Try.ntmps116 (by rfl) (by decide) ?_
  repeat (refine stp ?_)
  refine co_slice (by omega) ?_
  intro hsl
  repeat (refine stp ?_)
  refine ht_if ?_ ?_ <;> intro h1 <;> simp only [decide_eq_true_eq, decide_eq_false_iff_not] at h1
  · have e1 : i = xs.length := by omega
    subst e1
    refine Ht.own_lit enc_sl (b := vb) (n := 1) (xs := [x]) rfl rfl (by decide) ?_
    repeat (refine stp ?_)
    refine co_append (e := enc_sl) (by rfl) ?_ ?_ ?_
    · simp; omega
    · simp; omega
    intro v'
    repeat (refine stp ?_)
    refine ret1 rfl ?_
    rw [show xs ++ [x] = xs.take xs.length ++ x :: xs.drop xs.length from by simp]
    exact Ht.frm (h v')
  · have hlt : i < xs.length := by omega
    refine Ht.own_cap (e := enc_sl) (T := 159) (v := sv) (by intro h; subst h; simp at hlt) ?_
    intro b o cap hv hc1 hc2
    subst hv
    repeat (refine stp ?_)
    have hw1 : IntKind.i64.wrap ((xs.length : Int) + ((1 : Nat) : Int)) = ((xs.length + 1 : Nat) : Int) := by rw [IntWalk.i64_in _ (by omega)]; omega
    refine ht_if ?_ ?_ <;> intro h2 <;> simp only [decide_eq_true_eq, decide_eq_false_iff_not] at h2
    · -- a new row
      repeat (refine stp ?_)
      refine co_slice_raw (.slice (some ⟨b, o, none⟩) i cap) (by omega) slSub_lit0 ?_
      repeat (refine stp ?_)
      have hw2 : IntKind.i64.wrap (IntKind.i64.wrap ((xs.length : Int) + ((1 : Nat) : Int)) - (i : Int)) = ((xs.length + 1 - i : Nat) : Int) := by rw [hw1, IntWalk.i64_in _ (by omega)]; omega
      rw [hw1] at h2
      refine co_append_zeros_far (e := enc_sl) (xs := xs.take i) (⟨#[]⟩, 0) rfl hw2 ?_ (by omega) (by decide) ?_ (by rfl) ?_ ?_ ?_
      · intro w s
        have := slSub_in (own_sat s) (lo := 0) (hi := i) (by omega)
        rw [slSub_lit0] at this
        simpa [Nat.min_eq_left (show i ≤ xs.length by omega)] using this
      · simp; omega
      · simp; omega
      · simp; omega
      intro v'
      have hL2 : (xs.take i ++ List.replicate (xs.length + 1 - i) ((⟨#[]⟩, 0) : (ByteArray × Int))).length = xs.length + 1 := by simp; omega
      repeat (refine stp ?_)
      refine co_slice (by rw [hL2]; omega) ?_
      intro hsl2
      repeat (refine stp ?_)
      refine co_copy_own enc_sl [x] rfl (by rw [hL2]; omega) ?_ (by rw [hL2]; simp; omega) ?_
      · intro w s
        exact ⟨1, [], raw_in (pre := []) (post := []) (fz := (0,0)) (T := T') (by have := (Pull.sat (R := pto vb) inferInstance s).get; simpa using this) (by simp) (by simp)⟩
      have e3 : (xs.take i ++ List.replicate (xs.length + 1 - i) ((⟨#[]⟩, 0) : (ByteArray × Int))).take i ++ [x] ++ (xs.take i ++ List.replicate (xs.length + 1 - i) ((⟨#[]⟩, 0) : (ByteArray × Int))).drop (i + [x].length) = xs.take i ++ [x] ++ List.replicate (xs.length - i) (⟨#[]⟩, 0) := by
        rw [List.take_left' (by simp; omega), List.drop_append, List.drop_eq_nil_of_le (by simp; omega)]
        simp; omega
      rewrite [e3]
      repeat (refine stp ?_)
      refine ht_draw Try.can116x11 Try.mixed (by kernel_rfl) ?_
      repeat (refine stp ?_)
      have hw3 : IntKind.i64.wrap ((i : Int) + ((1 : Nat) : Int)) = ((i + 1 : Nat) : Int) := by rw [IntWalk.i64_in _ (by omega)]; omega
      have hL3 : (xs.take i ++ [x] ++ List.replicate (xs.length - i) ((⟨#[]⟩, 0) : (ByteArray × Int))).length = xs.length + 1 := by simp; omega
      rewrite [hw3]
      refine cd_slice (by rw [hL3]; omega) ?_
      intro hsl3 hsb3
      repeat (refine stp ?_)
      refine cd_slice (by omega) ?_
      intro hsl4 hsb4
      repeat (refine stp ?_)
      refine co_copy_own enc_sl (xs.drop i) (slSub_lit (by omega)) (by rw [hL3]; omega) ?_ (by rw [hL3]; simp <;> omega) ?_
      · intro w s
        have := slSub_in (own_sat (Pull.sat (R := own enc_sl 159 (.slice (some ⟨b, o, none⟩) xs.length cap)) inferInstance s)) (lo := i) (hi := xs.length) (by omega)
        rw [slSub_lit (by omega), List.take_length] at this
        refine ⟨cap - i, [], ?_⟩
        simpa using this
      have e4 : (xs.take i ++ [x] ++ List.replicate (xs.length - i) ((⟨#[]⟩, 0) : (ByteArray × Int))).take (i + 1) ++ xs.drop i ++ (xs.take i ++ [x] ++ List.replicate (xs.length - i) ((⟨#[]⟩, 0) : (ByteArray × Int))).drop (i + 1 + (xs.drop i).length) = xs.take i ++ x :: xs.drop i := by
        have e5 : (xs.take i ++ [x] ++ List.replicate (xs.length - i) ((⟨#[]⟩, 0) : (ByteArray × Int))).drop (i + 1 + (xs.drop i).length) = [] := List.drop_of_length_le (by simp; omega)
        rw [List.take_left' (by simp; omega), e5]
        simp
      rewrite [e4]
      repeat (refine stp ?_)
      exact ret1 rfl (Ht.frm (h v'))
    · -- in its place
      rw [hw1] at h2
      refine Ht.own_open (e := enc_sl) (T := 159) (v := .slice (some ⟨b, o, none⟩) xs.length cap) (by intro h; cases h) ?_
      intro b2 pre post cap2 fz hv _ _ hc3 hfz
      injection hv with hv1 _ hv2
      injection hv1 with hv1
      injection hv1 with hv3 hv4 _
      subst hv2; subst hv3; subst hv4
      have hk2 : (enc_sl).k = 2 := rfl
      rw [hk2] at hc3 hfz
      have hpl : 2 ≤ post.length := by omega
      have hfl := flat_len enc_sl xs
      rw [hk2] at hfl
      repeat (refine stp ?_)
      rewrite [hw1]
      refine co_slice_raw (.slice (some ⟨b, pre.length, none⟩) (xs.length + 1) cap) (by omega) slSub_lit0 ?_
      repeat (refine stp ?_)
      have hw3 : IntKind.i64.wrap ((i : Int) + ((1 : Nat) : Int)) = ((i + 1 : Nat) : Int) := by rw [IntWalk.i64_in _ (by omega)]; omega
      rewrite [hw3]
      refine co_slice_raw (.slice (some ⟨b, pre.length + (i + 1) * 2, none⟩) (xs.length + 1 - (i + 1)) (cap - (i + 1))) (by omega) (slSub_lit (by omega)) ?_
      refine co_overlaps (tS := 108) (tR := 4) Try.func133 (by kernel_rfl) (by kernel_rfl) (by kernel_rfl) (by kernel_rfl) Try.underlying108 rfl rfl (by intro h; have := congrArg List.length h; simp only [List.length_append, hfl, List.length_nil] at this; omega) ?_
      repeat (refine stp ?_)
      refine ht_draw Try.can116x15 Try.mixed (by kernel_rfl) ?_
      repeat (refine stp ?_)
      rewrite [hw3]
      refine cd_slice_raw (by omega) ?_
      intro hsb1
      repeat (refine stp ?_)
      refine cd_slice_raw (by omega) ?_
      intro hsb2
      repeat (refine stp ?_)
      have hA : xs.flatMap enc_sl.f = (xs.take i).flatMap enc_sl.f ++ (xs.drop i).flatMap enc_sl.f := by rw [← List.flatMap_append, List.take_append_drop]
      have hlA : ((xs.take i).flatMap enc_sl.f).length = i * 2 := by rw [flat_len]; simp; omega
      have hlB : ((xs.drop i).flatMap enc_sl.f).length = (xs.length - i) * 2 := by rw [flat_len]; simp
      refine co_copy_raw enc_sl (xs.drop i) (slSub_lit (by omega)) (slSub_lit (by omega)) ?_ (by simp; omega) (by simp only [List.length_append, hfl, List.length_drop]; omega) (by simpa [hfl, Nat.add_assoc] using hfz) ?_
      · intro w s
        refine ⟨cap - i, [], ?_⟩
        have := raw_in (e := enc_sl) (w := w) (b := b) (T := 159) (fz := fz) (pre := pre ++ (xs.take i).flatMap enc_sl.f) (post := post) (xs := xs.drop i) (cap := cap - i) (by
          have := (Pull.sat (R := pto b) inferInstance s).get
          rw [this, hA]; simp) (by simp; omega) (by omega)
        rw [List.length_append, hlA] at this
        simpa using this
      repeat (refine stp ?_)
      have hL4 : ((pre ++ xs.flatMap enc_sl.f ++ post).take (pre.length + (i + 1) * 2) ++ (xs.drop i).flatMap enc_sl.f ++ (pre ++ xs.flatMap enc_sl.f ++ post).drop (pre.length + (i + 1) * 2 + (xs.drop i).length * 2)).length = pre.length + xs.length * 2 + post.length := by simp only [List.length_append, List.length_take, List.length_drop, hlB, hfl]; omega
      refine co_copy_raw enc_sl [x] (slSub_lit (by omega)) rfl ?_ (by simp; omega) (by rw [hL4]; simp; omega) (by rw [hL4]; exact hfz) ?_
      · intro w s
        exact ⟨1, [], raw_in (pre := []) (post := []) (fz := (0,0)) (T := T') (by have := (Pull.sat (R := pto vb) inferInstance s).get; simpa using this) (by simp) (by simp)⟩
      repeat (refine stp ?_)
      refine ret1 rfl ?_
      refine Ht.own_close enc_sl (xs.take i ++ x :: xs.drop i) pre (post.drop 2) (b := b) (n := xs.length + 1) (cap := cap) ?_ (by simp; omega) (by omega) hc2 (by rw [hk2]; simp; omega) ?_ ?_
      · exact ins_cells enc_sl rfl pre post xs x hi hpl
      · rw [ins_cells enc_sl rfl pre post xs x hi hpl, List.length_append, List.length_append, flat_len, hk2, show pre.length + (xs.take i ++ x :: xs.drop i).length * 2 + (post.drop 2).length = pre.length + xs.length * 2 + post.length from by simp; omega]; exact hfz
      · exact Ht.frm (h _)

theorem sl_put {L L1 R K b o l S v} {xs : List (ByteArray × Int)} {k : ByteArray} {u : Int} [p : Pull (pto b) L (cells l S) L1] [n : Nth l o v] [q : Pull (own enc_sl 159 v) L1 xs R] (hu : ∀ v', ∃ l', Ups l o [v'] l') (hs : Srt xs) (hn : xs.length ≤ 900000)
    (h : ∀ v' l', Ups l o [v'] l' → Ht (own enc_sl 159 v' (tput k u xs) :: pto b (cells l' S) :: R) (K (.bool (!(thas k xs))))) :
    Ht L (CCall Try.prog 83 [.pointer (some ⟨b, o, none⟩), .string k, .int .i64 u] K) := by
  refine Ht.pull p (Ht.two q ?_)
  refine ccall3 Try.func83 rfl (by decide) Try.ntmps83 (by rfl) (by decide) ?_
  repeat (refine stp ?_)
  refine sl_place hs (by omega) ?_
  repeat (refine stp ?_)
  refine ht_if ?_ ?_ <;> intro h0
  · repeat (refine stp ?_)
    obtain ⟨u0, hu0⟩ := Option.isSome_iff_exists.1 h0
    have hk := tfind_some hu0
    have hlt := (List.getElem?_eq_some_iff.1 hk).1
    refine co_index (by omega) ?_
    intro hb
    have e2 : xs[tpos k xs]! = (k, u0) := by have := getB hb.h; rw [hk] at this; exact (Option.some.inj this).symm
    repeat (refine stp ?_)
    refine co_setEl (e := enc_sl) (el := 159) (k, u) (by rw [e2]; rfl) (by simp) ?_
    repeat (refine stp ?_)
    refine ret1 rfl ?_
    have e3 : xs.set (tpos k xs) (k, u) = tput k u xs := by
      rw [tput, if_pos h0, List.set_eq_take_append_cons_drop, if_pos hlt]
    rw [e3]
    have := h v l (ups_self n.h)
    rw [h0] at this
    exact this
  · repeat (refine stp ?_)
    intro vb
    repeat (refine stp ?_)
    refine sl_insert (x := (k, u)) rfl (tpos_le k xs) (by omega) ?_
    intro v'
    obtain ⟨l', hl'⟩ := hu v'
    haveI := hl'
    refine Ht.one1 (v := v') ?_
    intro _
    repeat (refine stp ?_)
    refine ret1 rfl ?_
    have e3 : xs.take (tpos k xs) ++ (k, u) :: xs.drop (tpos k xs) = tput k u xs := by
      rw [tput, if_neg (by rw [h0]; simp)]
    rw [e3]
    have := h v' l' hl'
    rw [h0] at this
    exact Ht.frm this

theorem sl_all {L L1 K b o l S v} [p : Pull (pto b) L (cells l S) L1] [n : Nth l o v] (h : Ht (pto b (cells l S) :: L1) (K v)) : Ht L (CCall Try.prog 115 [.pointer (some ⟨b, o, none⟩)] K) := by
  refine Ht.pull p ?_
  refine ccall1 Try.func115 rfl (by decide) Try.ntmps115 (by rfl) (by decide) ?_
  repeat (refine stp ?_)
  exact ret1 rfl h
theorem sl_all_nil {L K} (h : Ht L (K (.slice none 0 0))) : Ht L (CCall Try.prog 115 [.pointer none] K) := by
  refine ccall1 Try.func115 rfl (by decide) Try.ntmps115 (by rfl) (by decide) ?_
  repeat (refine stp ?_)
  exact ret1 rfl h
theorem sl_len {L L1 R K b o l S v} {xs : List (ByteArray × Int)} [p : Pull (pto b) L (cells l S) L1] [n : Nth l o v] [q : Pull (own enc_sl 159 v) L1 xs R]
    (h : Ht (own enc_sl 159 v xs :: pto b (cells l S) :: R) (K (.int .i64 xs.length))) :
    Ht L (CCall Try.prog 82 [.pointer (some ⟨b, o, none⟩)] K) := by
  refine Ht.pull p (Ht.two q ?_)
  refine ccall1 Try.func82 rfl (by decide) Try.ntmps82 (by rfl) (by decide) ?_
  repeat (refine stp ?_)
  refine sl_all ?_
  repeat (refine stp ?_)
  exact ret1 rfl (Ht.frm h)
theorem sl_len_nil {L K} (h : Ht L (K (.int .i64 0))) : Ht L (CCall Try.prog 82 [.pointer none] K) := by
  refine ccall1 Try.func82 rfl (by decide) Try.ntmps82 (by rfl) (by decide) ?_
  repeat (refine stp ?_)
  refine sl_all_nil ?_
  repeat (refine stp ?_)
  exact ret1 rfl h
theorem sl_told {L K v} (hv : One1 v) (h : ∀ b, Ht (pto b (cells [v] 108) :: L) (K (.func (.func 139) #[] #[.pointer (some ⟨b, 0, none⟩)]))) : Ht L (CCall Try.prog 129 [v] K) := by
  refine ccall1 Try.func129 rfl (by decide) Try.ntmps129 (by rfl) (by decide) ?_
  repeat (refine stp ?_)
  intro b
  repeat (refine stp ?_)
  exact ret1 rfl (h b)
/-! the rows, one by one: told to whatever takes them -/
theorem sl_iter {b v l} {xs : List (ByteArray × Int)} {A : Nat → HP} {B : HP} {K : Value → World → Prop} (hn : xs.length ≤ 1000000) (hb : ∀ i, i ≤ xs.length → ∀ w, Sat [A i] w → (∃ T fz, w.heap[b]? = some (.cells #[v] T fz)) ∧ SlIn w v enc_sl xs)
    (hy : ∀ i, i < xs.length → Ht [A i] (CYield Try.prog l [.string xs[i]!.1, .int .i64 xs[i]!.2] (fun v w => (v = .bool true ∧ Sat [A (i + 1)] w) ∨ (v = .bool false ∧ Sat [B] w)))) (hd : ∀ v, Ht [A xs.length] (K v)) (hs : ∀ v, Ht [B] (K v)) :
    Ht [A 0] (CCall Try.prog 139 [.func (.yield l) #[] #[], .pointer (some ⟨b, 0, none⟩)] K) := by
  refine ccall2 Try.func139 rfl (by decide) Try.ntmps139 (by rfl) (by decide) ?_
  haveI : Blk [A 0] b [v] := ⟨fun w s => (hb 0 (by omega) w s).1⟩
  haveI : RdS [A 0] v enc_sl xs := ⟨fun w s => (hb 0 (by omega) w s).2⟩
  repeat (refine stp ?_)
  refine ht_for xs.length (fun _ (_ : Unit) => True) (fun i _ => [A i]) (fun i _ => [(7, .int .i64 i)]) () [7] trivial (fun _ s => s) inferInstance ?_
  intro i _ hi _
  dsimp only [List.cons_append, List.nil_append]
  haveI : RdS [A i] v enc_sl xs := ⟨fun w s => (hb i hi w s).2⟩
  repeat (refine stp ?_)
  refine ht_if ?_ ?_ <;> intro hc <;> simp only [decide_eq_true_eq, decide_eq_false_iff_not] at hc
  · repeat (refine stp ?_)
    refine co_index (by omega) ?_
    intro hbi
    repeat (refine stp ?_)
    intro br
    repeat (refine stp ?_)
    refine Ht.drop ?_
    refine Ht.ymono (hy i (by omega)) (fun r w hr => ?_)
    rcases hr with ⟨rfl, s⟩ | ⟨rfl, s⟩
    · revert s
      revert w
      show Ht [A (i + 1)] _
      repeat (refine stp ?_)
      exact ht_next () (by omega) trivial (fun _ s => s) (SubE.cons (by rw [IntWalk.i64_in _ (by omega)]; rfl) inferInstance) rfl rfl
    · revert s
      revert w
      show Ht [B] _
      repeat (refine stp ?_)
      exact ret0 rfl (hs _)
  · have e : i = xs.length := by omega
    subst e
    repeat (refine stp ?_)
    exact end0 rfl (hd _)
theorem sl_each {L L1 R K b o l S v} {xs : List (ByteArray × Int)} [p : Pull (pto b) L (cells l S) L1] [n : Nth l o v] [q : Pull (own enc_sl 159 v) L1 xs R]
    (h : ∀ c, Ht (pto c (cells [v] 108) :: own enc_sl 159 v xs :: pto b (cells l S) :: R) (K (.func (.func 139) #[] #[.pointer (some ⟨c, 0, none⟩)]))) : Ht L (CCall Try.prog 107 [.pointer (some ⟨b, o, none⟩)] K) := by
  refine Ht.pull p (Ht.two q ?_)
  refine ccall1 Try.func107 rfl (by decide) Try.ntmps107 (by rfl) (by decide) ?_
  repeat (refine stp ?_)
  refine sl_all ?_
  repeat (refine stp ?_)
  refine Ht.conseq (L' := own enc_sl 159 v xs :: pto b (cells l S) :: R) ?_ (fun w s => (inferInstance : Frm _ (own enc_sl 159 v xs :: pto b (cells l S) :: R)).h _ _ s)
  refine Ht.one1 (v := v) ?_
  intro hv
  refine sl_told hv ?_
  intro c
  repeat (refine stp ?_)
  exact ret1 rfl (h c)
theorem sl_each_nil {L K} (h : ∀ c, Ht (pto c (cells [.slice none 0 0] 108) :: L) (K (.func (.func 139) #[] #[.pointer (some ⟨c, 0, none⟩)]))) : Ht L (CCall Try.prog 107 [.pointer none] K) := by
  refine ccall1 Try.func107 rfl (by decide) Try.ntmps107 (by rfl) (by decide) ?_
  repeat (refine stp ?_)
  refine sl_all_nil ?_
  repeat (refine stp ?_)
  refine sl_told inferInstance ?_
  intro c
  repeat (refine stp ?_)
  exact ret1 rfl (h c)
/-! Change, by a function of which it is known what it says -/
theorem sl_put_nil {L K} {k : ByteArray} {u : Int} (h : Ht L (K (.bool false))) : Ht L (CCall Try.prog 83 [.pointer none, .string k, .int .i64 u] K) := by
  refine ccall3 Try.func83 rfl (by decide) Try.ntmps83 (by rfl) (by decide) ?_
  repeat (refine stp ?_)
  exact ret1 rfl h
def sl_ofM (l : List (ByteArray × Int)) : List (ByteArray × Int) := l.foldl (fun t r => tput r.1 r.2 t) []
theorem sl_ofM_srt (l : List (ByteArray × Int)) : Srt (sl_ofM l) := by
  unfold sl_ofM
  have : ∀ (l t : List (ByteArray × Int)), Srt t → Srt (l.foldl (fun t r => tput r.1 r.2 t) t) := by
    intro l
    induction l with
    | nil => intro t h; exact h
    | cons r l ih => intro t h; exact ih _ (tput_srt h)
  exact this l [] srt_nil
theorem sl_ofM_len (l : List (ByteArray × Int)) : (sl_ofM l).length ≤ l.length := by
  unfold sl_ofM
  have : ∀ (l t : List (ByteArray × Int)), (l.foldl (fun t r => tput r.1 r.2 t) t).length ≤ t.length + l.length := by
    intro l
    induction l with
    | nil => intro t; simp
    | cons r l ih => intro t; have := ih (tput r.1 r.2 t); have := tput_len (k := r.1) (v := r.2) (l := t); simp only [List.foldl_cons, List.length_cons]; omega
  have := this l []
  simpa using this
theorem sl_of {L K v} {xs : List (ByteArray × Int)} [rs : RdE L enc_sl v xs] (hn : xs.length ≤ 100000)
    (h : ∀ b v', Ht (pto b (cells [v'] 110) :: own enc_sl 159 v' (sl_ofM xs) :: L) (K (.pointer (some ⟨b, 0, none⟩)))) : Ht L (CCall Try.prog 105 [v] K) := by
  haveI := rs.toS
  refine ccall1 Try.func105 rfl (by decide) Try.ntmps105 (by rfl) (by decide) ?_
  repeat (refine stp ?_)
  intro b
  repeat (refine stp ?_)
  refine ht_for xs.length (fun i (_ : Value) => True) (fun i v' => pto b (cells [v'] 110) :: own enc_sl 159 v' (sl_ofM (xs.take i)) :: L) (fun i _ => [(10, .int .i64 i)]) (.slice none 0 0) [10, 5] trivial (fun w s => ?_) inferInstance ?_
  · exact seps_swap (own_nil.2 s)
  intro i v' hi _
  dsimp only [List.cons_append, List.nil_append]
  repeat (refine stp ?_)
  refine ht_if ?_ ?_ <;> intro hc <;> simp only [decide_eq_true_eq, decide_eq_false_iff_not] at hc
  · repeat (refine stp ?_)
    haveI : RdS (pto b (cells [v'] 110) :: own enc_sl 159 v' (sl_ofM (xs.take i)) :: L) v enc_sl xs := ⟨fun w s => rs.h w s.tail.tail⟩
    refine co_index (by omega) ?_
    intro hb
    have hg := getB hb.h
    repeat (refine stp ?_)
    intro br
    repeat (refine stp ?_)
    have hlen := sl_ofM_len (xs.take i)
    refine sl_put (fun v' => ⟨[v'], inferInstance⟩) (sl_ofM_srt _) (by simp at hlen; omega) ?_
    intro v2 l2 hl2
    have e : l2 = [v2] := by have := hl2.h.2; simpa using this.symm
    subst e
    repeat (refine stp ?_)
    refine ht_next v2 (by omega) trivial (fun w s => ?_) (SubE.cons (by rw [IntWalk.i64_in _ (by omega)]; rfl) inferInstance) rfl rfl
    have e2 : sl_ofM (xs.take (i + 1)) = tput (xs[i]!).1 (xs[i]!).2 (sl_ofM (xs.take i)) := by
      rw [List.take_succ, hg]; simp [sl_ofM, List.foldl_append]
    rw [e2]
    exact (inferInstance : Frm _ (pto b (cells [v2] 110) :: own enc_sl 159 v2 (tput (xs[i]!).1 (xs[i]!).2 (sl_ofM (xs.take i))) :: L)).h _ _ s
  · have e : i = xs.length := by omega
    subst e
    rw [List.take_length]
    repeat (refine stp ?_)
    exact ret1 rfl (h b v')
end Go.Proofs

set_option linter.all false
set_option synthInstance.maxSize 100000
set_option synthInstance.maxHeartbeats 400000
namespace Go.SL
open Go
section
variable {P : Program} {ρ : Option Nat} {N : Nat} {D : List Deferred} {E : List (Nat × Value)} {L : List HP} {Q : Exit → Act → World → Prop}

theorem sat_exM {β : Type} {F : β → Prop} {L : β → List HP} {M : List HP} {w : World} : Sat ((fun e h => ∃ x, F x ∧ seps (L x) e h) :: M) w ↔ ∃ x, F x ∧ Sat (L x ++ M) w := by
  constructor
  · rintro ⟨h1, h2, u, ⟨x, hx, a⟩, l⟩
    exact ⟨x, hx, seps_seps.1 ⟨h1, h2, u, a, l⟩⟩
  · rintro ⟨x, hx, s⟩
    obtain ⟨h1, h2, u, a, l⟩ := seps_seps.2 s
    exact ⟨h1, h2, u, ⟨x, hx, a⟩, l⟩

/-- a range over a function that has memory of its own, and says in what order it likes -/
theorem ht_rangeFuncM {g : Operand} {ps : List Nat} {assign body : Code} {gf : Nat} {lb : List Value} {β γ : Type} (encs : γ → List Value) (Ok : List γ → γ → Prop) (Fin : List γ → Prop) (Inv : List γ → β → Prop) (Lf : List γ → β → List HP) (M Mend : List HP)
    [ev : Ev E g (.func (.func gf) #[] lb.toArray)] (hfn : FnOk P gf) (hps : ∀ c, (encs c).length = ps.length)
    (x0 : β) (hx0 : Inv [] x0) (hL : ∀ e h, seps L e h → seps (Lf [] x0 ++ M) e h)
    (hit : ∀ (l : Nat) (A : List γ → HP) (K : Value → World → Prop),
      (∀ h c M', Ok h c → Ht (A h :: M') (CYield P l (encs c) (fun v w => v = .bool true ∧ Sat (A (h ++ [c]) :: M') w))) → (∀ h v, Fin h → Ht (A h :: Mend) (K v)) → Ht (A [] :: M) (CCall P gf (.func (.yield l) #[] #[] :: lb) K))
    (hbody : ∀ h c, Ok h c → ∀ x, Inv h x → ∀ (M' : List HP) (l dd : Nat) (r : Loop), r.state = .ready → okC N body = true → ∀ Q',
      (∀ x' E', Inv (h ++ [c]) x' → Ht (pto l (.loop { r with state := .busy }) :: pto dd (.deferred (some [])) :: (Lf (h ++ [c]) x' ++ M')) (CX N [] E' .normal Q')) →
      Ht (pto l (.loop r) :: pto dd (.deferred (some [])) :: (Lf h x ++ M')) (CC P (some l) N [] (psE ps (encs c) E) assign (BeginP P l N body Q')))
    (hdone : ∀ dd h x, Fin h → Inv h x → Ht (pto dd (.deferred (some [])) :: (Lf h x ++ Mend)) (CX N ({ target := .collected dd, args := #[] } :: D) E .normal Q)) :
    Ht L (CC P none N D E (.rangeFunc g ps.toArray assign body) Q) := fun w s ok a rp => by
  simp only [okC, Bool.and_eq_true, List.toList_toArray] at ok
  obtain ⟨⟨ok1, ok2⟩, ok3⟩ := ok
  have hg := ev.h N D a rp
  refine wpIn_rangeFunc ?_
  intro fn _
  obtain ⟨rec, hrec⟩ : ∃ rec : LoopState → Option Code → Loop, rec = fun st pe => { state := st, pending := pe, fn, tmps := a.tmps, params := ps.toArray, assign, body, defers := w.heap.size } := ⟨_, rfl⟩
  obtain ⟨W1, hW1⟩ : ∃ W1, (w.alloc (.deferred (some []))).alloc (.loop (rec .ready none)) = W1 := ⟨_, rfl⟩
  have S1 : Sat (pto (w.heap.size + 1) (.loop (rec .ready none)) :: pto w.heap.size (.deferred (some [])) :: L) W1 := by
    rw [← hW1]
    have s1 : Sat (pto w.heap.size (.deferred (some [])) :: L) (w.alloc (.deferred (some []))) := s.new rfl rfl
    have s2 := s1.new (w' := (w.alloc (.deferred (some []))).alloc (.loop (rec .ready none))) (o := .loop (rec .ready none)) rfl rfl
    rw [World.size_alloc] at s2
    exact s2
  refine ⟨w.heap.size + 1, [{ target := .collected w.heap.size, args := #[] }], W1, { target := .fn (.func gf) lb.toArray, args := #[.func (.yield (w.heap.size + 1)) #[] #[]] }, W1, gf,
    #[.func (.yield (w.heap.size + 1)) #[] #[]] ++ lb.toArray, W1, ?_, ?_, fun _ _ => trivial, ?_, fun h => by simp at h, ?_⟩
  · rw [← hW1, hrec]; exact run_enterLoop_outer _ _ _ _ _
  · simp only [resolve, hg]
    simp [go_sem]
  · simp [invoke, go_sem, run_callFunc hfn]
  · have hA : ∀ h M' w', Sat ((fun e hh => ∃ x, Inv h x ∧ seps (pto (w.heap.size + 1) (.loop (rec .ready none)) :: pto w.heap.size (.deferred (some [])) :: Lf h x) e hh) :: M') w' ↔ ∃ x, Inv h x ∧ Sat (pto (w.heap.size + 1) (.loop (rec .ready none)) :: pto w.heap.size (.deferred (some [])) :: (Lf h x ++ M')) w' := fun h M' w' => sat_exM
    have main := hit (w.heap.size + 1) (fun h e hh => ∃ x, Inv h x ∧ seps (pto (w.heap.size + 1) (.loop (rec .ready none)) :: pto w.heap.size (.deferred (some [])) :: Lf h x) e hh)
      (fun v w' => rangePost (Fr none) 0 P (w.heap.size + 1) Q { a with defers := [{ target := .collected w.heap.size, args := #[] }] ++ a.defers } (.returned v) w')
      (fun h c M' hok w' sw => by
        obtain ⟨x, hx, sx⟩ := (hA h M' w').1 sw
        have hl := sx.get
        have hy := run_yield (P := P) (args := (encs c).toArray) hl (by rw [hrec]; simp [hps c])
        refine ⟨fn, _, assign, body, by rw [hrec] at hy; exact hy, roundIn_of_wpIn (F := Fr none) trivial ?_⟩
        have hbd := hbody h c hok x hx M' (w.heap.size + 1) w.heap.size (rec .ready none) (by rw [hrec]) ok3
          (roundPost P (w.heap.size + 1) fun e w' => ∃ v, e = .returned v ∧ (v = .bool true ∧ Sat ((fun e hh => ∃ x, Inv (h ++ [c]) x ∧ seps (pto (w.heap.size + 1) (.loop (rec .ready none)) :: pto w.heap.size (.deferred (some [])) :: Lf (h ++ [c]) x) e hh) :: M') w'))
          (fun x' E' hx' w2 s2 a2 r2 => by
            have h2 := s2.get
            have hr := run_endRound (P := P) none h2
            refine ⟨_, _, hr, _, rfl, ⟨rfl, (hA (h ++ [c]) M' _).2 ⟨x', hx', ?_⟩⟩⟩
            have := putObj_set (o' := .loop (rec .ready none)) s2
            rw [hrec] at this ⊢
            exact this)
        have := hbd w' sx ok2 ⟨((ps.zip (encs c)).foldl (fun T (x : Nat × Value) => T.setIfInBounds x.1 x.2) a.tmps), []⟩ (psE_rep (ds := []) ⟨rp.size, rfl, rp.vals⟩ ok1)
        refine wpIn_mono (F := Fr (some (w.heap.size + 1))) (by simpa only [List.zip_toArray, List.foldl_toArray] using this) ?_
        intro e a1 w1 hh
        cases e <;> first | exact hh | skip
        obtain ⟨w2, hb2, hb3⟩ := hh
        exact ⟨w2, hb2, hb3 ok3⟩)
      (fun h v hfin w' sw => by
        obtain ⟨x, hx, sx⟩ := (hA h Mend w').1 sw
        have he := run_endLoop (P := P) sx.get (by rw [hrec]; simp)
        refine ⟨none, _, by rw [hrec] at he; exact he, ?_⟩
        exact hdone w.heap.size h x hfin hx _ (putObj_set sx).tail _ ⟨rp.size, by simp [rp.defers], rp.vals⟩)
    have sA := (hA [] M W1).2 ⟨x0, hx0, seps_mono (fun _ a => a) (fun _ t => seps_mono (fun _ a => a) (fun _ t => hL _ _ t) t) S1⟩
    have := (main W1 sA).2
    have e : (Value.func (.yield (w.heap.size + 1)) #[] #[] :: lb).toArray = #[.func (.yield (w.heap.size + 1)) #[] #[]] ++ lb.toArray := by simp
    rw [e] at this
    refine CallsIn.mono (F := Fr none) this ?_
    rintro e w' ⟨v, rfl, hk⟩
    exact hk
end
end Go.SL

set_option linter.all false
namespace Go.SL
open Go
variable {P : Program} {ρ : Option Nat} {N : Nat} {D : List Deferred} {E : List (Nat × Value)} {L R : List HP} {Q : Exit → Act → World → Prop} {ops : Array Oper} {rest : List Oper}
  {d : Nat} {ty : TypeId} {pos : String} {af : Array Edge}
/-- 's[i]' of a string -/
theorem co_strIdx {T : TypeId} {x i : Operand} {str : ByteArray} {k : IntKind} {iv : Int} {m : Nat} [ts : TyD P T .string] [ex : Ev E x (.string str)] [ei : Ev E i (.int k iv)] [tn : ToNat iv m] (hb : 0 ≤ iv ∧ iv < str.size)
    (hK : Ht L (CO P ρ N D ((d, .int .u8 (str.data.toList[m]!).toNat) :: E) ops rest Q)) :
    Ht L (CO P ρ N D E ops (⟨some d, .index T x i, ty, pos, af, none⟩ :: rest) Q) :=
  co_val (fun a w r s => ⟨w, by
    have e1 := tn.h
    subst e1
    have := run_index_string (P := P) w T str k iv ts.h
    rw [dif_pos hb] at this
    have e2 : (str[iv.toNat]'(by omega)) = str.data.toList[iv.toNat]! := by
      have hl : iv.toNat < str.data.toList.length := by rw [Array.length_toList]; show iv.toNat < str.size; omega
      rw [getElem!_pos str.data.toList iv.toNat hl, Array.getElem_toList]; rfl
    rw [e2] at this
    simp only [execOp, Sem.run_bind, Result.andThen, ex.h N D a r, ei.h N D a r, this, Sem.run_pure], s⟩) hK
end Go.SL

set_option linter.all false
namespace Go.SL
open Go
variable {P : Program} {ρ : Option Nat} {N : Nat} {D : List Deferred} {E : List (Nat × Value)} {L R : List HP} {Q : Exit → Act → World → Prop} {ops : Array Oper} {rest : List Oper}
  {d : Nat} {ty : TypeId} {pos : String} {af : Array Edge}
/-- 's[:h]' of a string -/
theorem co_strTake {T : TypeId} {x hi : Operand} {str : ByteArray} {k : IntKind} {h : Int} {n : Nat} [ts : TyD P T .string] [ex : Ev E x (.string str)] [eh : Ev E hi (.int k h)] [tn : ToNat h n] (hb : 0 ≤ h ∧ h ≤ str.size)
    (hK : Ht L (CO P ρ N D ((d, .string (str.extract 0 n)) :: E) ops rest Q)) :
    Ht L (CO P ρ N D E ops (⟨some d, .slice T x none (some hi) none, ty, pos, af, none⟩ :: rest) Q) :=
  co_val (fun a w r s => ⟨w, by
    have e1 := tn.h
    subst e1
    have := run_slice_string_h (P := P) w T str ts.h k h hb.1 hb.2
    simp only [execOp, Instr.sliceAt, Sem.run_bind, run_und ts.h, Result.andThen, ex.h N D a r, eh.h N D a r, Option.map_none, Option.map_some, this, Sem.run_pure], s⟩) hK
theorem eqIn_self {P : Program} {T e k b : Nat} {z : Value} (h : P.underlying T = some (.pointer e)) (ti : TyI P e k b z) (d : Nat) (a : Addr) (w : World) : (Op.equalIn (d + 1) T (.pointer (some a)) (.pointer (some a))).run P w = .ok true w := by
  simp only [Op.equalIn, Sem.run_bind, run_und h, Result.andThen]
  simp [run_size ti, sameAddr]
theorem run_eq_self {P : Program} {T e k b : Nat} {z : Value} (h : P.underlying T = some (.pointer e)) (ti : TyI P e k b z) (a : Addr) (w : World) : (Op.equal T (.pointer (some a)) (.pointer (some a))).run P w = .ok true w := eqIn_self h ti 9999 a w
instance {T yT : Nat} {x y : Operand} {e k b : Nat} {z : Value} {a : Addr} [t : TyD P T (.pointer e)] [ti : TyI P e k b z] [ex : Ev E x (.pointer (some a))] [ey : Ev E y (.pointer (some a))] : Rd P L E (.binOp .neq T x y yT) (.bool false) := ⟨fun N D A w r _ d ty pos af g => by
  simp [execOp, ex.h N D A r, ey.h N D A r, eqGuard, binOp, Sem.run_bind, run_eq_self t.h ti, Result.andThen]⟩
end Go.SL

set_option linter.all false
namespace Go.Proofs

/-! ### chapter 2, plain: the check digit -/
def upB (c : UInt8) : Bool := decide (65 ≤ c.toNat) && decide (c.toNat ≤ 90)
def smB (c : UInt8) : Bool := decide (97 ≤ c.toNat) && decide (c.toNat ≤ 122)
def dgB (c : UInt8) : Bool := decide (48 ≤ c.toNat) && decide (c.toNat ≤ 57)
/-- what a byte makes, the higher digit first -/
def dgs (c : UInt8) : List Nat := if dgB c then [c.toNat - 48] else [(c.toNat - 55) / 10, (c.toNat - 55) % 10]
def row (l : List UInt8) : List Nat := l.flatMap dgs
def dbl (d : Nat) : Nat := 2 * d / 10 + 2 * d % 10
/-- from the last digit on -/
def ls : Bool → List Nat → Nat
  | _, [] => 0
  | true, d :: l => dbl d + ls false l
  | false, d :: l => (d / 10 + d % 10) + ls true l
/-- from the first one on -/
def lr : List Nat → Nat
  | [] => 0
  | d :: l => (if (l.length + 1) % 2 = 1 then dbl d else d / 10 + d % 10) + lr l
theorem ls_snoc : ∀ (l : List Nat) (b : Bool) (d : Nat), ls b (l ++ [d]) = ls b l + (if (l.length % 2 = 0) = (b = true) then dbl d else d / 10 + d % 10)
  | [], true, d => by simp [ls]
  | [], false, d => by simp [ls]
  | x :: l, true, d => by
    have h := ls_snoc l false d
    simp only [List.cons_append, ls, h, List.length_cons]
    by_cases h0 : l.length % 2 = 0
    · have h1 : ¬ (l.length + 1) % 2 = 0 := by omega
      simp [h0, h1]; omega
    · have h1 : (l.length + 1) % 2 = 0 := by omega
      simp [h0, h1]; omega
  | x :: l, false, d => by
    have h := ls_snoc l true d
    simp only [List.cons_append, ls, h, List.length_cons]
    by_cases h0 : l.length % 2 = 0
    · have h1 : ¬ (l.length + 1) % 2 = 0 := by omega
      simp [h0, h1]; omega
    · have h1 : (l.length + 1) % 2 = 0 := by omega
      simp [h0, h1]; omega
theorem ls_rev : ∀ l : List Nat, ls true l.reverse = lr l
  | [] => rfl
  | d :: l => by
    rw [List.reverse_cons, ls_snoc, ls_rev l, lr, List.length_reverse]
    by_cases h : (l.length + 1) % 2 = 1
    · have h0 : l.length % 2 = 0 := by omega
      simp [h, h0]; omega
    · have h0 : ¬ l.length % 2 = 0 := by omega
      simp [h, h0]; omega
def bodyB (l : List UInt8) : Bool := decide (l.length = 11) && (l.take 2).all upB && (l.drop 2).all fun c => upB c || dgB c
def chk (l : List UInt8) : Nat := (10 - lr (row l) % 10) % 10
theorem chk_of {s c : Nat} (h : (s + c) % 10 = 0) (hc : c < 10) : c = (10 - s % 10) % 10 := by omega
theorem row_le {l : List UInt8} (h : l.all (fun c => upB c || dgB c) = true) : ∀ d ∈ row l, d ≤ 9 := by
  intro d hd
  unfold row at hd
  obtain ⟨c, hc, hd⟩ := List.mem_flatMap.1 hd
  have := List.all_eq_true.1 h c hc
  unfold dgs at hd
  split at hd
  · next h1 =>
    unfold dgB at h1
    simp only [Bool.and_eq_true, decide_eq_true_eq] at h1
    simp at hd; omega
  · next h1 =>
    have hu : upB c = true := by
      rcases Bool.or_eq_true _ _ ▸ this with h | h
      · exact h
      · exact absurd h h1
    unfold upB at hu
    simp only [Bool.and_eq_true, decide_eq_true_eq] at hu
    obtain ⟨h2, h3⟩ := hu
    rcases List.mem_cons.1 hd with h | hd
    · omega
    · rw [List.mem_singleton.1 hd]; omega
theorem dbl_le {d : Nat} (h : d ≤ 9) : dbl d = if 9 < 2 * d then 2 * d - 9 else 2 * d := by unfold dbl; split <;> omega
/-- what is wrong with an ISIN -/
def isinE (l : List UInt8) : Int := if l.length ≠ 12 then 3 else if dgB l[11]! = false then 3 else if bodyB (l.take 11) = false then 3 else if chk (l.take 11) ≠ (l[11]!).toNat - 48 then 11 else 0
def membE (l : List UInt8) : Int := if l.length < 1 then 3 else if 8 < l.length then 3 else if smB l[0]! = false then 3 else if l.all (fun c => smB c || dgB c) then 0 else 3
end Go.Proofs
