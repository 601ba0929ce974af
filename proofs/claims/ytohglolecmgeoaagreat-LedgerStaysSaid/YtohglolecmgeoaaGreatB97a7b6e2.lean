/- The parts BS, BT, FXI, TBsw, FXJ, FXK, FXL, FXM, FXN, FXO, FXP, FYC, BQ, BU, BV, BW, BX, BY, BZ, SLYX, HA, HB, SLYZ, HC, BO, HD, HE, HF, HG of the engine and of the walk, one behind the other: no condition. -/
import Derived.Test.YtohglolecmgeoaaGreatB68ecc3ae
import Derived.Test.YtohglolecmgeoaaGreatBc1cdae2c
import Derived.Test.YtohglolecmgeoaaGreatB0846091a
import Derived.Test.YtohglolecmgeoaaGreatSRT
import Derived.Test.YtohglolecmgeoaaGreatB8cc88581
import Derived.Test.YtohglolecmgeoaaGreatB44315c48
import Derived.Test.YtohglolecmgeoaaGreatBc929d4e8
import Derived.Test.YtohglolecmgeoaaGreatB75a9e7c7

set_option linter.all false
set_option maxRecDepth 20000
set_option synthInstance.maxSize 100000
set_option synthInstance.maxHeartbeats 400000
namespace Go.Proofs
open Go Go.SL
attribute [local irreducible] CCall CO CC CX CD
theorem link_spec {L K} {n : Int} (hn : 0 ≤ n ∧ n ≤ 2) (h : Ht L (K (.string (lnkB n)))) : Ht L (CCall Tryz.prog 63 [.int .i64 n] K) := by
  refine ccall1 Tryz.func63 rfl (by decide) Tryz.ntmps63 (by rfl) (by decide) ?_
  repeat (refine stp ?_)
  refine nLink_spec hn ?_
  repeat (refine stp ?_)
  exact ret1 rfl h
def namesR (R : Ros) (hm : Int) : List ByteArray := (peersR R hm).map lnkB ++ (memsR R hm).map (mS ++ ·)
def knownB (R : Ros) (hm : Int) (n : ByteArray) : Bool := (namesR R hm).any fun y => decide (y = n)
theorem knownB_iff {R : Ros} {hm : Int} {n : ByteArray} : knownB R hm n = true ↔ n ∈ namesR R hm := by
  unfold knownB
  rw [List.any_eq_true]
  exact ⟨fun ⟨y, hy, he⟩ => by rw [← of_decide_eq_true he]; exact hy, fun h => ⟨n, h, decide_eq_true rfl⟩⟩
theorem memsR_len {R : Ros} (ok : RosOk R) {n : Int} : (memsR R n).length ≤ 64 := by
  have h1 := memT_len ok
  unfold memsR memsK
  rw [List.length_map]
  have := List.length_filter_le (atHome n) (memT R)
  omega
theorem memsR_size {R : Ros} (ok : RosOk R) {n : Int} {m : ByteArray} (h : m ∈ memsR R n) : m.size ≤ 8 := by
  unfold memsR memsK at h
  obtain ⟨r, hr, rfl⟩ := List.mem_map.1 h
  have h1 := (List.mem_filter.1 hr).1
  have hf : tfind r.1 (memT R) = some r.2 := (tfind_mem (fold_srt _ _ List.Pairwise.nil : Srt (memT R))).2 (show (r.1, r.2) ∈ memT R from h1)
  rw [memT_find ok] at hf
  have hh : ¬ homeR R r.1 < 0 := fun hh => by rw [if_pos hh] at hf; cases hf
  exact (memb_size ((homeR_rg ok r.1).resolve_left (by omega)).2.2).2
theorem LgNames_spec {L M K b} {x : LgL} {R : Ros} [ca : Cl M ⟨b, 0, none⟩ (.pointer (some ⟨x.ros, 0, none⟩))] [cb : Cl M ⟨b, 1, none⟩ (.int .i64 x.hm)] [pl : Pull (isRos x.ros) L R M] (ok : RosOk R) 
    (h : ∀ v l, One1 v → l.Perm (namesR R x.hm) → Ht (own SL.encStr 9 v l :: isRos x.ros R :: M) (K v)) : Ht L (CCall Tryz.prog 20 [.pointer (some ⟨b, 0, none⟩)] K) := by
  refine Ht.pull pl ?_
  refine ccall1 Tryz.func20 rfl (by decide) Tryz.ntmps20 (by rfl) (by decide) ?_
  repeat (refine stp ?_)
  refine peers_spec (x := x) (R := R) fun pv opv => ?_
  have hpl := peersR_len ok (n := x.hm)
  repeat (refine stp ?_)
  refine ht_for (peersR R x.hm).length (fun i (lv : Value) => One1 lv) (fun i lv => own SL.encStr 9 lv (((peersR R x.hm).take i).map lnkB) :: own SL.encI 3 pv (peersR R x.hm) :: isRos x.ros R :: M) (fun i lv => [(13, .int .i64 (i : Int)), (3, lv)]) (.slice none 0 0) [13, 3] ⟨rfl⟩ (fun w t => own_nil.2 t) inferInstance ?_
  intro i lv hi olv
  dsimp only [List.cons_append, List.nil_append]
  have htl : (((peersR R x.hm).take i).map lnkB).length = i := by rw [List.length_map, List.length_take]; omega
  repeat (refine stp ?_)
  refine ht_if ?_ ?_ <;> intro hc <;> simp only [decide_eq_true_eq, decide_eq_false_iff_not] at hc
  · have hii : i < (peersR R x.hm).length := by omega
    have hpp := peersR_pos _ (List.mem_of_getElem? (getB hii))
    have hn3 := ok.nodes
    repeat (refine stp ?_)
    refine co_index (xs := peersR R x.hm) (by omega) ?_
    intro hb
    repeat (refine stp ?_)
    refine link_spec (by omega) ?_
    repeat (refine stp ?_)
    intro b1
    repeat (refine stp ?_)
    refine Ht.own_lit SL.encStr (b := b1) (n := 1) (xs := [lnkB (peersR R x.hm)[i]!]) rfl rfl (by decide) ?_
    refine co_append (e := SL.encStr) (xs := ((peersR R x.hm).take i).map lnkB) (ys := [lnkB (peersR R x.hm)[i]!]) (by rfl) (by simp; omega) (by simp; omega) ?_
    intro v2
    refine Ht.one1 (v := v2) ?_
    intro ov2
    repeat (refine stp ?_)
    refine ht_next v2 hii ov2 (fun w t => by rw [takeSnoc hii, List.map_append, List.map_cons, List.map_nil]; exact (inferInstance : Frm _ _).h _ _ t) (SubE.cons (by rw [IntWalk.i64_in _ (by omega)]; rfl) inferInstance) rfl rfl
  · have he : i = (peersR R x.hm).length := by omega
    subst he
    rw [List.take_length]
    repeat (refine stp ?_)
    refine ht_draw Tryz.can20x9 Tryz.mixed (by kernel_rfl) ?_
    repeat (refine stp ?_)
    refine RMembers_spec (p := x.ros) (R := R) (n := x.hm) fun mv omv => ?_
    have hml := memsR_len ok (n := x.hm)
    repeat (refine stp ?_)
    refine ht_for (memsR R x.hm).length (fun i (lv : Value) => One1 lv) (fun i lv => own SL.encStr 9 lv ((peersR R x.hm).map lnkB ++ ((memsR R x.hm).take i).map (mS ++ ·)) :: own SL.encStr 9 mv (memsR R x.hm) :: isRos x.ros R :: own SL.encI 3 pv (peersR R x.hm) :: M) (fun i lv => [(33, .int .i64 (i : Int)), (3, lv)]) lv [33, 3] olv (fun w t => by rw [List.take_zero, List.map_nil, List.append_nil]; exact (inferInstance : Frm _ _).h _ _ t) inferInstance ?_
    intro i lv hi olv
    dsimp only [List.cons_append, List.nil_append]
    have htl : ((peersR R x.hm).map lnkB ++ ((memsR R x.hm).take i).map (mS ++ ·)).length = (peersR R x.hm).length + i := by rw [List.length_append, List.length_map, List.length_map, List.length_take]; omega
    repeat (refine stp ?_)
    refine ht_if ?_ ?_ <;> intro hc <;> simp only [decide_eq_true_eq, decide_eq_false_iff_not] at hc
    · have hii : i < (memsR R x.hm).length := by omega
      have hms := memsR_size ok (List.mem_of_getElem? (getB hii))
      repeat (refine stp ?_)
      refine co_index (xs := memsR R x.hm) (by omega) ?_
      intro hb
      repeat (refine stp ?_)
      refine Member_spec (by omega) ?_
      rewrite [show memS = mS from rfl]
      repeat (refine stp ?_)
      intro b1
      repeat (refine stp ?_)
      refine Ht.own_lit SL.encStr (b := b1) (n := 1) (xs := [mS ++ (memsR R x.hm)[i]!]) rfl rfl (by decide) ?_
      refine co_append (e := SL.encStr) (xs := (peersR R x.hm).map lnkB ++ ((memsR R x.hm).take i).map (mS ++ ·)) (ys := [mS ++ (memsR R x.hm)[i]!]) (by rfl) (by rw [htl]; simp; omega) (by rw [htl]; simp; omega) ?_
      intro v2
      refine Ht.one1 (v := v2) ?_
      intro ov2
      repeat (refine stp ?_)
      refine ht_next v2 hii ov2 (fun w t => by rw [takeSnoc hii, List.map_append, ← List.append_assoc, List.map_cons, List.map_nil]; exact (inferInstance : Frm _ _).h _ _ t) (SubE.cons (by rw [IntWalk.i64_in _ (by omega)]; rfl) inferInstance) rfl rfl
    · have he : i = (memsR R x.hm).length := by omega
      subst he
      rw [List.take_length] at htl ⊢
      repeat (refine stp ?_)
      refine sort_spec (xs := (peersR R x.hm).map lnkB ++ (memsR R x.hm).map (mS ++ ·)) (by rw [htl]; omega) ?_
      repeat (refine stp ?_)
      have hpm : (sortB ((peersR R x.hm).map lnkB ++ (memsR R x.hm).map (mS ++ ·))).Perm (namesR R x.hm) := sortB_perm
      exact ret1 rfl (Ht.frm (h lv _ olv hpm))
theorem LgKnown_spec {L M K b} {x : LgL} {R : Ros} {name : ByteArray} [ca : Cl M ⟨b, 0, none⟩ (.pointer (some ⟨x.ros, 0, none⟩))] [cb : Cl M ⟨b, 1, none⟩ (.int .i64 x.hm)] [pl : Pull (isRos x.ros) L R M] (ok : RosOk R)
    (h : Ht (isRos x.ros R :: M) (K (.bool (knownB R x.hm name)))) : Ht L (CCall Tryz.prog 69 [.pointer (some ⟨b, 0, none⟩), .string name] K) := by
  refine Ht.pull pl ?_
  refine ccall2 Tryz.func69 rfl (by decide) Tryz.ntmps69 (by rfl) (by decide) ?_
  repeat (refine stp ?_)
  refine LgNames_spec (x := x) (R := R) ok fun v l ov hp => ?_
  repeat (refine stp ?_)
  refine Contains_spec (l := l) ?_
  repeat (refine stp ?_)
  rw [show knownB R x.hm name = decide (0 ≤ idxS name l) from by
    rw [Bool.eq_iff_iff, knownB_iff, decide_eq_true_eq]
    exact hp.mem_iff.symm.trans idxS_mem.symm] at h
  exact ret1 rfl (Ht.frm h)
end Go.Proofs
namespace Go.Proofs
open Go Go.SL
attribute [local irreducible] CCall CO CC CX CD
abbrev nilH : Value := hV (.slice none 0 0) 0
theorem between_spec {L L1 M K b} {k : Nat} {x : LgL} {s : Lg} {R : Ros} {name : ByteArray} {a u : Int} [pl : Pull (isLg b) L x L1] [pr : Pull (isRos x.ros) L1 R M] (st : LgSt R k x s)
    (h1 : knownB R x.hm name = false → Ht (isLg b x :: isRos x.ros R :: M) (K (.tuple #[nilH, .int .i64 5])))
    (h2 : knownB R x.hm name = true → complB x.hm s u = false → Ht (isLg b x :: isRos x.ros R :: M) (K (.tuple #[nilH, .int .i64 9])))
    (h3 : knownB R x.hm name = true → complB x.hm s u = true → ∀ v, One1 v → Ht (own encRw 109 v (rowsB (posE s name a u)) :: isLg b x :: isRos x.ros R :: M) (K (.tuple #[hV v (eCs (posE s name a u)), .int .i64 0]))) :
    Ht L (CCall Tryz.prog 67 [.pointer (some ⟨b, 0, none⟩), .string name, .int .i64 a, .int .i64 u] K) := by
  refine Ht.conseq (L' := isLg b x :: isRos x.ros R :: M) ?_ (fun w s => seps_mono (fun _ a => a) (fun _ t => pr.h _ _ t) (pl.h _ _ s))
  refine lg_at fun v ov => ?_
  refine ccall4 Tryz.func67 rfl (by decide) Tryz.ntmps67 (by rfl) (by decide) ?_
  repeat (refine stp ?_)
  intro c8
  repeat (refine stp ?_)
  refine LgKnown_spec (x := x) (R := R) st.ok.ros ?_
  cases hk : knownB R x.hm name with
  | false =>
    repeat (refine stp ?_)
    try rewrite [Bool.not_false]
    repeat (refine stp ?_)
    exact retct rfl (lg_close (b := b) (x := x) (R := isRos x.ros R :: M) ov (h1 hk))
  | true =>
    repeat (refine stp ?_)
    try rewrite [Bool.not_true]
    repeat (refine stp ?_)
    refine Compl0_spec (x := x) (R := R) (vp := v.vp) st.ok.ros st.plen st.clen ?_
    rewrite [cpl_all st]
    repeat (refine stp ?_)
    cases hc : complB x.hm s u with
    | false =>
      repeat (refine stp ?_)
      try rewrite [Bool.not_false]
      repeat (refine stp ?_)
      exact retct rfl (lg_close (b := b) (x := x) (R := isRos x.ros R :: M) ov (h2 hk hc))
    | true =>
      repeat (refine stp ?_)
      try rewrite [Bool.not_true]
      repeat (refine stp ?_)
      refine DBet_ok (b := b) (o := 4) (l0 := lgC x v) (vd := v.vd) (D := x.D) (B := s.ents) (I := R.isins) st.rp.db st.bkg (by have := st.dlen; omega) fun rv rows orv hr hrl => ?_
      obtain rfl : rows = rowsB (posE s name a u) := hr.uniq (rowsB_hr (st.bkg.bet name a u).ne) fun _ _ => rfl
      repeat (refine stp ?_)
      exact retct rfl (lg_close (b := b) (x := x) (R := own encRw 109 rv (rowsB (posE s name a u)) :: isRos x.ros R :: M) ov (Ht.frm (h3 hk hc rv orv)))
theorem LgBy_spec {L L1 M K b} {k : Nat} {x : LgL} {s : Lg} {R : Ros} {name : ByteArray} {u : Int} [pl : Pull (isLg b) L x L1] [pr : Pull (isRos x.ros) L1 R M] (st : LgSt R k x s)
    (h1 : knownB R x.hm name = false → Ht (isLg b x :: isRos x.ros R :: M) (K (.tuple #[nilH, .int .i64 5])))
    (h2 : knownB R x.hm name = true → complB x.hm s u = false → Ht (isLg b x :: isRos x.ros R :: M) (K (.tuple #[nilH, .int .i64 9])))
    (h3 : knownB R x.hm name = true → complB x.hm s u = true → ∀ v, One1 v → Ht (own encRw 109 v (rowsB (posE s name 0 u)) :: isLg b x :: isRos x.ros R :: M) (K (.tuple #[hV v (eCs (posE s name 0 u)), .int .i64 0]))) :
    Ht L (CCall Tryz.prog 21 [.pointer (some ⟨b, 0, none⟩), .string name, .int .i64 u] K) := by
  refine Ht.conseq (L' := isLg b x :: isRos x.ros R :: M) ?_ (fun w s => seps_mono (fun _ a => a) (fun _ t => pr.h _ _ t) (pl.h _ _ s))
  refine ccall3 Tryz.func21 rfl (by decide) Tryz.ntmps21 (by rfl) (by decide) ?_
  repeat (refine stp ?_)
  intro c6
  repeat (refine stp ?_)
  refine between_spec (x := x) (R := R) st (fun hk => ?_) (fun hk hc => ?_) (fun hk hc v ov => ?_)
  · repeat (refine stp ?_)
    exact retct rfl (Ht.frm (h1 hk))
  · repeat (refine stp ?_)
    exact retct rfl (Ht.frm (h2 hk hc))
  · repeat (refine stp ?_)
    exact retct rfl (Ht.frm (h3 hk hc v ov))
end Go.Proofs
namespace Go.Proofs
open Go Go.SL
attribute [local irreducible] CCall CO CC CX CD
end Go.Proofs
namespace Go.Proofs
open Go Go.SL
attribute [local irreducible] CCall CO CC CX CD
end Go.Proofs
namespace Go.Proofs
open Go Go.SL
attribute [local irreducible] CCall CO CC CX CD
theorem takeSn {l : Rows} {i : Nat} (hi : i < l.length) : l.take i ++ [((l[i]!).1, (l[i]!).2)] = l.take (i + 1) := (takeSnoc hi).symm
end Go.Proofs
namespace Go.Proofs
open Go Go.SL
attribute [local irreducible] CCall CO CC CX CD
abbrev Tw := List (ByteArray × (Int × UInt64))
end Go.Proofs
namespace Go.Proofs
open Go Go.SL
attribute [local irreducible] CCall CO CC CX CD
abbrev Pb := ByteArray × (Int × UInt64) × (Int × UInt64)
end Go.Proofs
namespace Go.Proofs
open Go Go.SL
attribute [local irreducible] CCall CO CC CX CD
abbrev ideals8 : List (List Bool) := [[false, false, false, false, false, false, false, false], [false, false, false, false, false, true, false, false], [false, false, false, false, true, false, false, false], [false, false, false, false, true, true, false, false], [false, false, true, false, false, false, false, false], [false, false, true, false, false, true, false, false], [false, false, true, false, true, false, false, false], [false, false, true, false, true, true, false, false], [true, false, false, false, false, false, false, false], [true, false, false, false, false, true, false, false], [true, false, false, false, true, false, false, false], [true, false, false, false, true, true, false, false], [true, false, true, false, false, false, false, false], [true, false, true, false, false, true, false, false], [true, false, true, false, true, false, false, false], [true, false, true, false, true, true, false, false], [true, true, false, false, false, false, false, false], [true, true, false, false, false, true, false, false], [true, true, false, false, true, false, false, false], [true, true, false, false, true, true, false, false], [true, true, true, false, false, false, false, false], [true, true, true, false, false, true, false, false], [true, true, true, false, true, false, false, false], [true, true, true, false, true, true, false, false], [true, true, true, true, false, false, false, false], [true, true, true, true, false, true, false, false], [true, true, true, true, true, false, false, false], [true, true, true, true, true, true, false, false], [true, true, true, true, true, true, true, false], [true, true, true, true, true, true, true, true]]
def bt : List Bool → Nat → Bool
  | [], _ => false
  | b :: _, 0 => b
  | _ :: s, n + 1 => bt s n
structure D29 where
  v0 : Value
  v1 : Value
  v2 : Value
  v3 : Value
  v6 : Value
  v7 : Value
  ba : Nat
  av : Value
  bb : Nat
  bv : Value
  p6 : Nat
  p7 : Nat
end Go.Proofs
namespace Go.Proofs
open Go Go.SL
attribute [local irreducible] CCall CO CC CX CD
end Go.Proofs
namespace Go.Proofs
open Go Go.SL
end Go.Proofs
namespace Go.Proofs
open Go Go.SL
attribute [local irreducible] CCall CO CC CX CD
end Go.Proofs
namespace Go.Proofs
open Go Go.SL
attribute [local irreducible] CCall CO CC CX CD
def negR (r : ByteArray × Int) : ByteArray × Int := (r.1, if fit64 (0 - r.2) then 0 - r.2 else 0)
def negL (l : Rows) : Rows := l.map negR
theorem negL_len {l : Rows} : (negL l).length = l.length := by unfold negL; rw [List.length_map]
theorem negSn {l : Rows} {i : Nat} (hi : i < l.length) : negL (l.take i) ++ [((l[i]!).1, if fit64 (0 - (l[i]!).2) then 0 - (l[i]!).2 else 0)] = negL (l.take (i + 1)) := by
  unfold negL
  rw [takeSnoc hi, List.map_append]; rfl
theorem stepT {l : Rows} {c e : Int} {i : Nat} (he : e = 0) (hx : e = 0 ↔ fitW (0 - c) ∧ ∀ t, t < i → fit64 (0 - (l[t]!).2)) :
    (if fit64 (0 - (l[i]!).2) then (0 : Int) else 4) = 0 ↔ fitW (0 - c) ∧ ∀ t, t < i + 1 → fit64 (0 - (l[t]!).2) := by
  obtain ⟨h1, h2⟩ := hx.1 he
  by_cases hf : fit64 (0 - (l[i]!).2)
  · rw [if_pos hf]
    refine ⟨fun _ => ⟨h1, fun t ht => ?_⟩, fun _ => rfl⟩
    by_cases hti : t = i
    · rw [hti]; exact hf
    · exact h2 t (by omega)
  · rw [if_neg hf]
    exact ⟨fun h => absurd h (by decide), fun h => absurd (h.2 i (by omega)) hf⟩
theorem stepF {l : Rows} {c e : Int} {i : Nat} (he : ¬ e = 0) (hx : e = 0 ↔ fitW (0 - c) ∧ ∀ t, t < i → fit64 (0 - (l[t]!).2)) :
    e = 0 ↔ fitW (0 - c) ∧ ∀ t, t < i + 1 → fit64 (0 - (l[t]!).2) :=
  ⟨fun h => absurd h he, fun h => hx.2 ⟨h.1, fun t ht => h.2 t (by omega)⟩⟩
theorem AOpp_why {L K rv} {l : Rows} {c : Int} [rs : RdE L encRw rv l] (hn : l.length ≤ 100000) (hc : fitW c) (h64 : rows64 l)
    (hb : ∀ e : Int, e ≠ 0 → ¬ (RightP l ∧ fitW (0 - c) ∧ ∀ r ∈ l, fit64 (0 - r.2)) → Ht L (K (.tuple #[hV (.slice none 0 0) 0, .int .i64 e])))
    (hg : ∀ v', One1 v' → RightP l → fitW (0 - c) → (∀ r ∈ l, fit64 (0 - r.2)) → Ht (own encRw 109 v' (negL l) :: L) (K (.tuple #[hV v' (0 - c), .int .i64 0]))) :
    Ht L (CCall Tryz.prog 45 [hV rv c] K) := by
  have hrs : ∀ (M : List HP) [fr : Frm M L], RdE M encRw rv l := fun M fr => ⟨fun w t => rs.h w (fr.h _ _ t)⟩
  have hrs2 : ∀ (M : List HP) [fr : Frm M L], RdS M rv encRw l := fun M fr => ⟨fun w t => rs.h w (fr.h _ _ t)⟩
  refine Ht.know (p := One1 rv) (fun w t => one1_of (rs.h w t)) (fun ov => ?_)
  refine ccall1 Tryz.func45 rfl (by decide) Tryz.ntmps45 (by rfl) (by decide) ?_
  repeat (refine stp ?_)
  intro c1
  repeat (refine stp ?_)
  intro c2
  repeat (refine stp ?_)
  refine ARight_spec (l := l) (by omega) ?_
  repeat (refine stp ?_)
  by_cases hR : RightP l
  · rewrite [decide_eq_true hR, show (!true) = false from rfl]
    repeat (refine stp ?_)
    refine Opp_spec hc ?_
    unfold overV
    obtain ⟨c', hc'⟩ : ∃ c', c' = (if fitW (0 - c) then 0 - c else 0) := ⟨_, rfl⟩
    obtain ⟨e0, he0⟩ : ∃ e0 : Int, e0 = (if fitW (0 - c) then 0 else 4) := ⟨_, rfl⟩
    rewrite [← hc', ← he0]
    repeat (refine stp ?_)
    intro c4
    repeat (refine stp ?_)
    intro c6
    repeat (refine stp ?_)
    refine ht_for l.length (fun i (x : Value × Int) => One1 x.1 ∧ (x.2 = 0 ↔ fitW (0 - c) ∧ ∀ t, t < i → fit64 (0 - (l[t]!).2))) (fun i x => own encRw 109 x.1 (negL (l.take i)) :: pto c6 (cells [x.1, .int .i64 (wHi c'), .int .u64 (wLo c')] 55) :: pto c4 (cells [.int .i64 (wHi c'), .int .u64 (wLo c')] 53) :: pto c2 (cells [.slice none 0 0, .int .i64 0, .int .u64 0] 55) :: pto c1 (cells [rv, .int .i64 (wHi c), .int .u64 (wLo c)] 55) :: L) (fun i x => [(26, .int .i64 (i : Int)), (5, .int .i64 x.2)]) (.slice none 0 0, e0) [26, 5] ⟨⟨rfl⟩, by rw [he0]; split <;> simp_all⟩ (fun w t => own_nil.2 t) inferInstance ?_
    intro i ⟨x, e⟩ hi ⟨ox, hx⟩
    dsimp only at ox hx
    dsimp only [List.cons_append, List.nil_append]
    have htl : (negL (l.take i)).length = i := by rw [negL_len, List.length_take]; omega
    repeat (refine stp ?_)
    refine ht_if ?_ ?_ <;> intro hc3 <;> simp only [decide_eq_true_eq, decide_eq_false_iff_not] at hc3
    · have hii : i < l.length := by omega
      have hr := h64 _ (List.mem_of_getElem? (getB hii))
      repeat (refine stp ?_)
      refine co_index (xs := l) (by omega) ?_
      intro hb
      repeat (refine stp ?_)
      intro c8
      repeat (refine stp ?_)
      refine Sub_spec (x := 0) (y := (l[i]!).2) (by decide) hr ?_
      unfold narV
      repeat (refine stp ?_)
      by_cases he : e = 0
      · rewrite [decide_eq_true he]
        repeat (refine stp ?_)
        intro b1
        repeat (refine stp ?_)
        refine Ht.own_lit encRw (b := b1) (n := 1) (xs := [((l[i]!).1, if fit64 (0 - (l[i]!).2) then 0 - (l[i]!).2 else 0)]) rfl rfl (by decide) ?_
        refine co_append (e := encRw) (xs := negL (l.take i)) (ys := [((l[i]!).1, if fit64 (0 - (l[i]!).2) then 0 - (l[i]!).2 else 0)]) (by rfl) (by simp; omega) (by simp; omega) ?_
        intro x2
        refine Ht.one1 (v := x2) ?_
        intro ox2
        rewrite [negSn hii]
        repeat (refine stp ?_)
        exact ht_next (x2, if fit64 (0 - (l[i]!).2) then (0 : Int) else 4) hii ⟨ox2, stepT he hx⟩ (fun w t => (inferInstance : Frm _ _).h _ _ t) (SubE.cons (by rw [IntWalk.i64_in _ (by omega)]; rfl) inferInstance) rfl rfl
      · rewrite [decide_eq_false he]
        repeat (refine stp ?_)
        intro b1
        repeat (refine stp ?_)
        refine Ht.own_lit encRw (b := b1) (n := 1) (xs := [((l[i]!).1, if fit64 (0 - (l[i]!).2) then 0 - (l[i]!).2 else 0)]) rfl rfl (by decide) ?_
        refine co_append (e := encRw) (xs := negL (l.take i)) (ys := [((l[i]!).1, if fit64 (0 - (l[i]!).2) then 0 - (l[i]!).2 else 0)]) (by rfl) (by simp; omega) (by simp; omega) ?_
        intro x2
        refine Ht.one1 (v := x2) ?_
        intro ox2
        rewrite [negSn hii]
        repeat (refine stp ?_)
        exact ht_next (x2, e) hii ⟨ox2, stepF he hx⟩ (fun w t => (inferInstance : Frm _ _).h _ _ t) (SubE.cons (by rw [IntWalk.i64_in _ (by omega)]; rfl) inferInstance) rfl rfl
    · have ei : i = l.length := by omega
      subst ei
      rw [List.take_length]
      repeat (refine stp ?_)
      by_cases he : e = 0
      · obtain ⟨hfc, hall⟩ := hx.1 he
        rw [if_pos hfc] at hc'
        subst hc' he
        rewrite [show decide ((0 : Int) ≠ 0) = false from rfl]
        repeat (refine stp ?_)
        exact retct rfl (Ht.frm (hg x ox hR hfc fun r hr => by
          obtain ⟨j, hj, rfl⟩ := List.mem_iff_getElem.1 hr
          have := hall j hj
          rwa [getElem!_pos l j hj] at this))
      · rewrite [decide_eq_true (show e ≠ 0 from he)]
        repeat (refine stp ?_)
        exact retct rfl (Ht.frm (hb e he fun hh => he (hx.2 ⟨hh.2.1, fun t ht => hh.2.2 _ (List.mem_of_getElem? (getB ht))⟩)))
  · rewrite [decide_eq_false hR, show (!false) = true from rfl]
    repeat (refine stp ?_)
    exact retct rfl (Ht.frm (hb 1 (by decide) fun hh => hR hh.1))
end Go.Proofs
namespace Go.Proofs
open Go Go.SL
theorem srt_sorted : ∀ {l : Rows}, Srt l → sortedR l = true
  | [], _ => rfl
  | [_], _ => rfl
  | a :: b :: l, h => by
    obtain ⟨h1, h2⟩ := List.pairwise_cons.1 h
    unfold sortedR
    rw [srt_sorted h2, Bool.and_true]
    exact h1 b List.mem_cons_self
theorem right_iff {l : Rows} : rightR l = true ↔ RightP l := by
  unfold rightR RightP
  rw [Bool.and_eq_true, List.all_eq_true]
  constructor
  · rintro ⟨h1, h2⟩
    refine ⟨sorted_srt h2, fun r hr => ?_⟩
    have := h1 r hr
    rw [Bool.and_eq_true, decide_eq_true_eq, decide_eq_true_eq] at this
    unfold badR
    rw [decide_eq_false this.1, decide_eq_false this.2]; rfl
  · rintro ⟨h1, h2⟩
    refine ⟨fun r hr => ?_, srt_sorted h1⟩
    have := h2 r hr
    unfold badR at this
    rw [Bool.or_eq_false_iff, decide_eq_false_iff_not, decide_eq_false_iff_not] at this
    rw [Bool.and_eq_true, decide_eq_true_eq, decide_eq_true_eq]; exact this
theorem negL_eq {l : Rows} (h : ∀ r ∈ l, fit64 (0 - r.2)) : negL l = negRw l := by
  unfold negL negRw
  refine List.map_congr_left fun r hr => ?_
  unfold negR
  rw [if_pos (h r hr)]
  exact congrArg (Prod.mk r.1) (by omega)
theorem same_fit {I : List ByteArray} {es : List Ent} (g : BkG I es) {l : Rows} {c : Int} (h : sameR (l, c) es = true) : RightP l ∧ fitW (0 - c) ∧ ∀ r ∈ l, fit64 (0 - r.2) := by
  unfold sameR at h
  rw [Bool.and_eq_true, Bool.and_eq_true, decide_eq_true_eq, decide_eq_true_eq] at h
  obtain ⟨⟨h1, h2⟩, h3⟩ := h
  dsimp only at h1 h2 h3
  refine ⟨right_iff.1 h1, by rw [show (0 : Int) - c = eCs es by omega]; exact g.ec_fit, fun r hr => ?_⟩
  have hm : (r.1, -r.2) ∈ rowsB es := by rw [← h2]; exact List.mem_map.2 ⟨r, hr, rfl⟩
  have hh := (rowsB_hr g.ne).mem.1 hm
  rw [show (0 : Int) - r.2 = eQ es r.1 by rw [hh.2.2]; omega]
  exact g.eq_fit r.1
theorem same_iff {es : List Ent} {l : Rows} {c : Int} (hR : RightP l) (hf : ∀ r ∈ l, fit64 (0 - r.2)) : decide (negL l = rowsB es ∧ 0 - c = eCs es) = sameR (l, c) es := by
  unfold sameR
  rw [negL_eq hf, right_iff.2 hR, Bool.true_and, ← Bool.decide_and]
  exact decide_eq_decide.2 ⟨fun hh => ⟨hh.1, by show -c = _; omega⟩, fun hh => ⟨hh.1, by have : -c = eCs es := hh.2; omega⟩⟩
end Go.Proofs
namespace Go.Proofs
open Go Go.SL
attribute [local irreducible] CCall CO CC CX CD
theorem pts_take {x : LgL} {n : Int} (hn : 0 ≤ n ∧ n < x.pts.length) : ∃ P', x.pts.Perm (x.pts[n.toNat]! :: P') := by
  have hmem : x.pts[n.toNat]! ∈ x.pts := List.mem_of_getElem? (getB (by omega))
  obtain ⟨A1, A2, hA⟩ := List.append_of_mem hmem
  exact ⟨A1 ++ A2, by rw [hA]; exact List.perm_middle.trans (by rw [← hA])⟩
theorem prBlk_some {x : LgL} {n : Int} (hn : 0 ≤ n ∧ n < x.pts.length) (hh : n ≠ x.hm) : prBlk x n = some (x.pts[n.toNat]!).blk := by
  unfold prBlk ptBlk
  rw [if_neg hh, if_pos hn]
theorem pt_back {pts P' : List PtL} {q : PtL} {vd vr : Value} {L L1 L2 L3 L4 L5 R : List HP} {G : World → Prop} (hp : pts.Perm (q :: P')) (od : One1 vd) (or : One1 vr)
    [p1 : Pull (pto q.blk) L (cells [vd, vr, .bool q.shut, .int .i64 (q.legs : Int)] 191) L1] [p2 : Pull (own enc_ip 279 vd) L1 (clRows 0 q.cls) L2] [p3 : Pull (own encHo 55 vr) L2 q.reps L3] [p4 : Pull (bigO isCs) L3 q.cls L4] [p5 : Pull (bigO hwn) L4 q.reps L5] [p6 : Pull (bigO isPt) L5 P' R]
    (h : Ht (bigO isPt pts :: R) G) : Ht L G := Ht.conseq h fun w t =>
  bigO_perm hp.symm ((bigO_split (l1 := [])).2 (pt_shut od or (seps_mono (fun _ a => a) (fun _ t => seps_mono (fun _ a => a) (fun _ t => seps_mono (fun _ a => a) (fun _ t => seps_mono (fun _ a => a) (fun _ t => seps_mono (fun _ a => a) (fun _ t => p6.h _ _ t) (p5.h _ _ t)) (p4.h _ _ t)) (p3.h _ _ t)) (p2.h _ _ t)) (p1.h _ _ t))))
theorem rp_fit {h : Rows × Int} (r : RpOk h) : rows64 h.1 := fun y hy => by
  have := (r.v y hy).2
  simp only [Lit.wf, IntKind.min, IntKind.max, IntKind.signed, IntKind.bits, Bool.and_eq_true, decide_eq_true_eq, if_true] at this
  simp at this
  omega
theorem said_spec {L M K b} {k : Nat} {x : LgL} {s : Lg} {R : Ros} {n d : Int} {l : Rows} {c : Int} [pl : Pull (isLg b) L x M] (st : LgSt R k x s) (hp : peerB x.hm s n = true) (hd : 1 ≤ d ∧ d ≤ ((ptAt s n).reports.length : Int)) (hr : (ptAt s n).reports[(d - 1).toNat]! = (l, c))
    (hb : ¬ (RightP l ∧ fitW (0 - c) ∧ ∀ r ∈ l, fit64 (0 - r.2)) → Ht (isLg b x :: M) (K (.tuple #[nilH, .bool false])))
    (hg : ∀ v', One1 v' → RightP l → fitW (0 - c) → (∀ r ∈ l, fit64 (0 - r.2)) → Ht (own encRw 109 v' (negL l) :: isLg b x :: M) (K (.tuple #[hV v' (0 - c), .bool true]))) :
    Ht L (CCall Tryz.prog 160 [.pointer (some ⟨b, 0, none⟩), .int .i64 n, .int .i64 d] K) := by
  refine Ht.pull pl ?_
  obtain ⟨hn', hnm⟩ := peerB_iff.1 hp
  have hlen := st.rp.len
  have hn : 0 ≤ n ∧ n < x.pts.length := by omega
  have hpt := st.rp.pt hn
  have hrep := st.ok.rep _ (ptAt_mem hn')
  rw [hpt] at hr hd hrep
  obtain ⟨P', hP⟩ := pts_take hn
  have hpb := prBlk_some hn hnm
  obtain ⟨q, hq⟩ : ∃ q, x.pts[n.toNat]! = q := ⟨_, rfl⟩
  rw [hq] at hr hd hrep hP hpb
  have hrl : q.pt.reports.length = q.reps.length := List.length_map _
  rw [hrl] at hd hrep
  obtain ⟨j, rfl⟩ : ∃ j : Nat, d = j + 1 := ⟨(d - 1).toNat, by omega⟩
  have hj : j < q.reps.length := by omega
  rw [show ((j : Int) + 1 - 1).toNat = j by omega, getElem!_pos q.pt.reports j (by omega)] at hr
  have hrp : RpOk (l, c) := by rw [← hr]; exact hrep.2 _ (List.getElem_mem _)
  have hr : (q.reps[j]'hj).2 = (l, c) := by rw [← hr]; exact (List.getElem_map ..).symm
  obtain ⟨sv, hsv⟩ : ∃ sv, q.reps[j]! = (sv, l, c) := ⟨(q.reps[j]'hj).1, by rw [getElem!_pos q.reps j hj, ← hr]⟩
  have hmem : (sv, l, c) ∈ q.reps := by rw [← hsv]; exact List.mem_of_getElem? (getB hj)
  refine lg_at fun v ov => ?_
  refine ccall3 Tryz.func160 rfl (by decide) Tryz.ntmps160 (by rfl) (by decide) ?_
  repeat (refine stp ?_)
  intro c6
  repeat (refine stp ?_)
  refine peer_spec (x := x) (vp := v.vp) (n := n) st.plen ?_
  rewrite [hpb, show pv (some q.blk) = .pointer (some ⟨q.blk, 0, none⟩) from rfl]
  repeat (refine stp ?_)
  rewrite [decide_eq_false (show ¬ ((j : Int) + 1 < 1) by omega)]
  repeat (refine stp ?_)
  refine Ht.big_look (f := isPt) hP ?_
  refine pt_open fun vd vr od or => ?_
  have hjw : q.reps.length ≤ 500 := hrep.1
  repeat (refine stp ?_)
  rewrite [decide_eq_false (show ¬ ((q.reps.length : Int) < (j : Int) + 1) by omega)]
  repeat (refine stp ?_)
  try rewrite [show IntKind.i64.wrap ((j : Int) + 1 - 1) = (j : Int) from by rw [IntWalk.i64_in _ (by omega)]; omega]
  repeat (refine stp ?_)
  refine co_index (xs := q.reps) (by omega) ?_
  intro hb2
  have hrd := hwn_at hmem
  dsimp only at hrd
  repeat (refine stp ?_)
  rewrite [hsv]
  refine AOpp_why (rv := svY sv) (l := l) (c := c) (by have := hrp.len; dsimp only at this; omega) hrp.c (rp_fit hrp) (fun e he hno => ?_) (fun v' ov' hR hfc hall => ?_)
  · repeat (refine stp ?_)
    intro c9
    repeat (refine stp ?_)
    rewrite [decide_eq_false he]
    refine retct rfl ?_
    refine pt_back hP od or ?_
    exact lg_close (b := b) (x := x) (R := M) ov (hb hno)
  · repeat (refine stp ?_)
    intro c9
    repeat (refine stp ?_)
    refine retct rfl ?_
    refine pt_back hP od or ?_
    exact lg_close (b := b) (x := x) (R := own encRw 109 v' (negL l) :: M) ov (Ht.frm (hg v' ov' hR hfc hall))
end Go.Proofs
namespace Go.Proofs
open Go Go.SL
attribute [local irreducible] CCall CO CC CX CD
theorem DBy_ok {L L1 L2 M K b o l0 S vd} {D : DTab} {B : Book} {I : List ByteArray} {name : ByteArray} {u : Int} [p : Pull (pto b) L (cells l0 S) L1] [nt : Nth l0 o vd] [q : Pull (own enc_ia 514 vd) L1 (dRows D) L2] [r : Pull (bigO isDy) L2 D M]
    (hD : DbOk D B) (hB : BkG I (allB B)) (hn : D.length ≤ 900)
    (h : ∀ v, One1 v → Ht (own encRw 109 v (rowsB (posB B name 0 u)) :: pto b (cells l0 S) :: own enc_ia 514 vd (dRows D) :: bigO isDy D :: M) (K (hV v (eCs (posB B name 0 u))))) :
    Ht L (CCall Tryz.prog 161 [.pointer (some ⟨b, o, none⟩), .string name, .int .i64 u] K) := by
  refine Ht.conseq (L' := pto b (cells l0 S) :: own enc_ia 514 vd (dRows D) :: bigO isDy D :: M) ?_ (fun w s => seps_mono (fun _ a => a) (fun _ t => seps_mono (fun _ a => a) (fun _ t => r.h _ _ t) (q.h _ _ t)) (p.h _ _ s))
  refine ccall3 Tryz.func161 rfl (by decide) Tryz.ntmps161 (by rfl) (by decide) ?_
  repeat (refine stp ?_)
  intro c1
  repeat (refine stp ?_)
  refine DBet_ok (b := b) (o := o) (l0 := l0) (vd := vd) (D := D) (B := B) (I := I) hD hB hn fun rv rows orv hr hrl => ?_
  obtain rfl : rows = rowsB (posB B name 0 u) := hr.uniq (rowsB_hr (hB.bet name 0 u).ne) fun _ _ => rfl
  repeat (refine stp ?_)
  exact retc rfl (Ht.frm (h rv orv))
theorem isin_rw {a : ByteArray} (h : isinS a = 0) : a.size ≤ maxLen := by rw [isin_size h]; decide
theorem negL_rw {l : Rows} {c : Int} (h : RpOk (l, c)) (hf : ∀ r ∈ l, fit64 (0 - r.2)) : rwOk (negL l) := fun r hr => by
  unfold negL at hr
  obtain ⟨y, hy, rfl⟩ := List.mem_map.1 hr
  have h1 := hf y hy
  unfold negR
  rw [if_pos h1]
  exact ⟨isin_rw (h.v y hy).1, wfL_of h1.1 h1.2⟩
theorem rowsB_rw {R : Ros} {k : Nat} {x : LgL} {s : Lg} (st : LgSt R k x s) {es : List Ent} (hg : BkG R.isins es) : rwOk (rowsB es) := fun r hr => by
  have h1 := (rowsB_hr hg.ne).mem.1 hr
  have h2 := hg.eq_fit r.1
  obtain ⟨e, he, hee⟩ := eQ_ne (es := es) (k := r.1) (by rw [h1.2.2]; exact h1.1)
  rw [h1.2.2] at h2
  exact ⟨isin_rw (st.ok.ros.iv r.1 (by rw [← hee]; exact hg.mem e he)), wfL_of h2.1 h2.2⟩
theorem agrI_false {hm : Int} {s : Lg} {n d : Int} (h : agrI hm s n d = false) : agrS hm s n d = false := by unfold agrS; rw [h]; rfl
theorem agreed_spec {L M K b} {k : Nat} {x : LgL} {s : Lg} {R : Ros} {n d : Int} [pl : Pull (isLg b) L x M] (st : LgSt R k x s)
    (h : Ht (isLg b x :: M) (K (.tuple #[.bool (agrI x.hm s n d), .bool (agrS x.hm s n d)]))) :
    Ht L (CCall Tryz.prog 76 [.pointer (some ⟨b, 0, none⟩), .int .i64 n, .int .i64 d] K) := by
  refine Ht.pull pl ?_
  refine lg_at fun v ov => ?_
  refine ccall3 Tryz.func76 rfl (by decide) Tryz.ntmps76 (by rfl) (by decide) ?_
  repeat (refine stp ?_)
  refine peer_spec (x := x) (vp := v.vp) (n := n) st.plen ?_
  have hlen := st.rp.len
  cases hp : peerB x.hm s n with
  | false =>
    have hpb : prBlk x n = none := by
      have := st.rp.peer n
      rw [hp] at this
      cases hx : prBlk x n with
      | none => rfl
      | some q => rw [hx] at this; cases this
    have hI : agrI x.hm s n d = false := by unfold agrI withB; rw [hp, Bool.and_false, Bool.false_and, Bool.false_and]
    rw [hI, agrI_false hI] at h
    rewrite [hpb, show pv none = .pointer none from rfl]
    repeat (refine stp ?_)
    exact ret2 rfl (lg_close (b := b) (x := x) (R := M) ov h)
  | true =>
    obtain ⟨hn', hnm⟩ := peerB_iff.1 hp
    have hn : 0 ≤ n ∧ n < x.pts.length := by omega
    have hpt := st.rp.pt hn
    have hrep := st.ok.rep _ (ptAt_mem hn')
    obtain ⟨P', hP⟩ := pts_take hn
    have hpb := prBlk_some hn hnm
    obtain ⟨q, hq⟩ : ∃ q, x.pts[n.toNat]! = q := ⟨_, rfl⟩
    rw [hq] at hpt hP hpb
    have hrl : (ptAt s n).reports.length = q.reps.length := by rw [hpt]; exact List.length_map _
    rewrite [hpb, show pv (some q.blk) = .pointer (some ⟨q.blk, 0, none⟩) from rfl]
    repeat (refine stp ?_)
    by_cases h1 : d < 1
    · have hI : agrI x.hm s n d = false := by unfold agrI withB; rw [decide_eq_false (show ¬ 1 ≤ d by omega), Bool.false_and, Bool.false_and, Bool.false_and, Bool.false_and]
      rw [hI, agrI_false hI] at h
      rewrite [decide_eq_true h1]
      repeat (refine stp ?_)
      exact ret2 rfl (lg_close (b := b) (x := x) (R := M) ov h)
    rewrite [decide_eq_false h1]
    repeat (refine stp ?_)
    refine Ht.big_look (f := isPt) hP ?_
    refine pt_open fun vd vr od or => ?_
    repeat (refine stp ?_)
    refine pt_back hP od or ?_
    by_cases h2 : (q.reps.length : Int) < d
    · have hI : agrI x.hm s n d = false := by unfold agrI; rw [hrl, decide_eq_false (show ¬ d ≤ (q.reps.length : Int) by omega), Bool.and_false]
      rw [hI, agrI_false hI] at h
      rewrite [decide_eq_true h2]
      repeat (refine stp ?_)
      exact ret2 rfl (lg_close (b := b) (x := x) (R := M) ov h)
    rewrite [decide_eq_false h2]
    repeat (refine stp ?_)
    intro b1
    repeat (refine stp ?_)
    refine Ht.own_lit SL.encI (b := b1) (n := 1) (xs := [n]) rfl rfl (by decide) ?_
    refine Compl_spec (x := x) (vp := v.vp) (ps := [n]) st.plen st.clen ⟨Nat.one_pos, by show 1 ≤ 100; decide⟩ ?_
    rewrite [cpl_one st.rp]
    cases hw : withB x.hm s d n with
    | false =>
      have hI : agrI x.hm s n d = false := by unfold agrI; rw [hw, Bool.false_and]
      rw [hI, agrI_false hI] at h
      repeat (refine stp ?_)
      try rewrite [Bool.not_false]
      repeat (refine stp ?_)
      exact ret2 rfl (lg_close (b := b) (x := x) (R := M) ov h)
    | true =>
      have hI : agrI x.hm s n d = true := by unfold agrI; rw [hw, hrl, decide_eq_true (show d ≤ (q.reps.length : Int) by omega)]; rfl
      repeat (refine stp ?_)
      try rewrite [Bool.not_true]
      repeat (refine stp ?_)
      refine lg_close (b := b) (x := x) (R := M) ov ?_
      obtain ⟨⟨l, c⟩, hlc⟩ : ∃ y, (ptAt s n).reports[(d - 1).toNat]! = y := ⟨_, rfl⟩
      have hS : agrS x.hm s n d = sameR (l, c) (posE s (lnkB n) 0 d) := by unfold agrS; rw [hI, Bool.true_and, hlc]
      have hrp : RpOk (l, c) := by rw [← hlc]; exact hrep.2 _ (List.mem_of_getElem? (getB (by omega)))
      have hg := st.bkg.bet (lnkB n) 0 d
      rw [hI, hS] at h
      refine said_spec (x := x) (R := R) st hp (by omega) hlc (fun hno => ?_) (fun v' ov' hRp hfc hall => ?_)
      · have hf : sameR (l, c) (posE s (lnkB n) 0 d) = false := by
          cases hx : sameR (l, c) (posE s (lnkB n) 0 d) with
          | false => rfl
          | true => exact absurd (same_fit hg hx) hno
        rw [hf] at h
        repeat (refine stp ?_)
        intro c9
        repeat (refine stp ?_)
        refine ht_draw Tryz.can76x5 Tryz.mixed (by kernel_rfl) ?_
        repeat (refine stp ?_)
        exact ret2 rfl (Ht.frm h)
      · repeat (refine stp ?_)
        intro c9
        repeat (refine stp ?_)
        refine ht_draw Tryz.can76x5 Tryz.mixed (by kernel_rfl) ?_
        repeat (refine stp ?_)
        refine Ht.conseq (L' := isLg b x :: pto c9 (cells [v', .int .i64 (wHi (0 - c)), .int .u64 (wLo (0 - c))] 55) :: own encRw 109 v' (negL l) :: M) ?_ (fun w t => (inferInstance : Frm _ _).h _ _ t)
        refine lg_at fun v2 ov2 => ?_
        repeat (refine stp ?_)
        refine link_spec (by have := st.ok.pts; have := st.ok.ros.nodes; omega) ?_
        repeat (refine stp ?_)
        refine DBy_ok (b := b) (o := 4) (l0 := lgC x v2) (vd := v2.vd) (D := x.D) (B := s.ents) (I := R.isins) st.rp.db st.bkg (by have := st.dlen; omega) fun rv orv => ?_
        repeat (refine stp ?_)
        refine ASame_spec (av := v') (bv := rv) (l := negL l) (m := rowsB (posB s.ents (lnkB n) 0 d)) (y := 0 - c) (z := eCs (posB s.ents (lnkB n) 0 d)) (negL_rw hrp hall) (rowsB_rw st hg) (by rw [negL_len]; have := hrp.len; dsimp only at this; omega) (by have := hr_len (rowsB_hr hg.ne) hg.mem; have := hg.il; omega) hfc hg.ec_fit ?_
        rewrite [show decide (negL l = rowsB (posB s.ents (lnkB n) 0 d) ∧ 0 - c = eCs (posB s.ents (lnkB n) 0 d)) = sameR (l, c) (posE s (lnkB n) 0 d) from same_iff hRp hall]
        repeat (refine stp ?_)
        exact ret2 rfl (lg_close (b := b) (x := x) (R := M) ov2 h)
theorem Reconciled_spec {L M K b} {k : Nat} {x : LgL} {s : Lg} {R : Ros} {n d : Int} [pl : Pull (isLg b) L x M] (st : LgSt R k x s)
    (h : Ht (isLg b x :: M) (K (.bool (agrS x.hm s n d)))) :
    Ht L (CCall Tryz.prog 29 [.pointer (some ⟨b, 0, none⟩), .int .i64 n, .int .i64 d] K) := by
  refine Ht.pull pl ?_
  refine ccall3 Tryz.func29 rfl (by decide) Tryz.ntmps29 (by rfl) (by decide) ?_
  repeat (refine stp ?_)
  refine agreed_spec (x := x) (R := R) st ?_
  cases hI : agrI x.hm s n d with
  | false =>
    rw [agrI_false hI] at h ⊢
    repeat (refine stp ?_)
    exact ret1 rfl h
  | true =>
    repeat (refine stp ?_)
    exact ret1 rfl h
theorem Broken_spec {L M K b} {k : Nat} {x : LgL} {s : Lg} {R : Ros} {n d : Int} [pl : Pull (isLg b) L x M] (st : LgSt R k x s)
    (h : Ht (isLg b x :: M) (K (.bool (agrI x.hm s n d && !agrS x.hm s n d)))) :
    Ht L (CCall Tryz.prog 30 [.pointer (some ⟨b, 0, none⟩), .int .i64 n, .int .i64 d] K) := by
  refine Ht.pull pl ?_
  refine ccall3 Tryz.func30 rfl (by decide) Tryz.ntmps30 (by rfl) (by decide) ?_
  repeat (refine stp ?_)
  refine agreed_spec (x := x) (R := R) st ?_
  cases hI : agrI x.hm s n d with
  | false =>
    rw [hI, Bool.false_and] at h
    repeat (refine stp ?_)
    exact ret1 rfl h
  | true =>
    rw [hI, Bool.true_and] at h
    repeat (refine stp ?_)
    exact ret1 rfl h
end Go.Proofs
namespace Go.Proofs
open Go Go.SL
attribute [local irreducible] CCall CO CC CX CD
theorem pr_none {k : Nat} {x : LgL} {s : Lg} (rp : LgRep k x s) {n : Int} (hp : peerB x.hm s n = false) : prBlk x n = none := by
  have := rp.peer n
  rw [hp] at this
  cases hx : prBlk x n with
  | none => rfl
  | some q => rw [hx] at this; cases this
theorem pr_some {k : Nat} {x : LgL} {s : Lg} (rp : LgRep k x s) {n : Int} (hp : peerB x.hm s n = true) : ∃ q, prBlk x n = some q := by
  have := rp.peer n
  rw [hp] at this
  cases hx : prBlk x n with
  | none => rw [hx] at this; cases this
  | some q => exact ⟨q, rfl⟩
def shutB (hm : Int) (s : Lg) (n : Int) : Bool := peerB hm s n && (ptAt s n).shut
theorem LgShut_spec {L M K b} {k : Nat} {x : LgL} {s : Lg} {R : Ros} {n : Int} [pl : Pull (isLg b) L x M] (st : LgSt R k x s)
    (h : Ht (isLg b x :: M) (K (.bool (shutB x.hm s n)))) :
    Ht L (CCall Tryz.prog 31 [.pointer (some ⟨b, 0, none⟩), .int .i64 n] K) := by
  refine Ht.pull pl ?_
  unfold shutB at h
  refine lg_at fun v ov => ?_
  refine ccall2 Tryz.func31 rfl (by decide) Tryz.ntmps31 (by rfl) (by decide) ?_
  repeat (refine stp ?_)
  refine peer_spec (x := x) (vp := v.vp) (n := n) st.plen ?_
  have hlen := st.rp.len
  cases hp : peerB x.hm s n with
  | false =>
    have hpb : prBlk x n = none := by
      have := st.rp.peer n
      rw [hp] at this
      cases hx : prBlk x n with
      | none => rfl
      | some q => rw [hx] at this; cases this
    rw [hp, Bool.false_and] at h
    rewrite [hpb, show pv none = .pointer none from rfl]
    repeat (refine stp ?_)
    exact ret1 rfl (lg_close (b := b) (x := x) (R := M) ov h)
  | true =>
    obtain ⟨hn', hnm⟩ := peerB_iff.1 hp
    have hn : 0 ≤ n ∧ n < x.pts.length := by omega
    have hpt := st.rp.pt hn
    obtain ⟨P', hP⟩ := pts_take hn
    have hpb := prBlk_some hn hnm
    obtain ⟨q, hq⟩ : ∃ q, x.pts[n.toNat]! = q := ⟨_, rfl⟩
    rw [hq] at hpt hP hpb
    rw [hp, Bool.true_and, hpt] at h
    rewrite [hpb, show pv (some q.blk) = .pointer (some ⟨q.blk, 0, none⟩) from rfl]
    refine Ht.big_look (f := isPt) hP ?_
    refine pt_open fun vd vr od or => ?_
    repeat (refine stp ?_)
    refine ret1 rfl ?_
    refine pt_back hP od or ?_
    exact lg_close (b := b) (x := x) (R := M) ov h
theorem pf64 {P : PTab} (h : ∀ y ∈ P, 0 ≤ y.2.2 ∧ y.2.2 ≤ mostP) : ∀ y ∈ P, fit64 y.2.2 := fun y hy => by
  have := h y hy
  have hm : mostP = 1099511627776 := rfl
  unfold fit64; omega
theorem Pledged_spec {L M K b} {k : Nat} {x : LgL} {s : Lg} {R : Ros} {m : ByteArray} [pl : Pull (isLg b) L x M] (st : LgSt R k x s) (hs : m.size ≤ 1000000)
    (h : Ht (isLg b x :: M) (K (hV (.slice none 0 0) (hasL s m)))) :
    Ht L (CCall Tryz.prog 32 [.pointer (some ⟨b, 0, none⟩), .string m] K) := by
  refine Ht.pull pl ?_
  rw [← st.rp.pA] at h
  refine lg_at fun v ov => ?_
  refine ccall2 Tryz.func32 rfl (by decide) Tryz.ntmps32 (by rfl) (by decide) ?_
  repeat (refine stp ?_)
  intro c4
  repeat (refine stp ?_)
  refine ht_draw Tryz.can32x3 Tryz.mixed (by kernel_rfl) ?_
  repeat (refine stp ?_)
  refine Member_spec (by omega) ?_
  rewrite [show memS = mS from rfl]
  repeat (refine stp ?_)
  have hk := st.hk
  have hpl := st.rp.pL
  refine pHeld_ok (b := b) (o := 9) (l0 := lgC x v) (vo := v.vo) (P := x.P) (name := mS ++ m) st.rp.pS (by omega) (pf64 st.rp.pF) ?_
  repeat (refine stp ?_)
  exact retc rfl (lg_close (b := b) (x := x) (R := M) ov h)
end Go.Proofs
namespace Go.Proofs
open Go Go.SL
attribute [local irreducible] CCall CO CC CX CD
theorem mine_spec {L L1 M K b} {k : Nat} {x : LgL} {s : Lg} {R : Ros} {m : ByteArray} [pl : Pull (isLg b) L x L1] [pr : Pull (isRos x.ros) L1 R M] (st : LgSt R k x s)
    (h : Ht (isLg b x :: isRos x.ros R :: M) (K (.int .i64 (if mineB R x.hm m = false then 5 else 0)))) :
    Ht L (CCall Tryz.prog 207 [.pointer (some ⟨b, 0, none⟩), .string m] K) := by
  refine Ht.conseq (L' := isLg b x :: isRos x.ros R :: M) ?_ (fun w s => seps_mono (fun _ a => a) (fun _ t => pr.h _ _ t) (pl.h _ _ s))
  have hm := st.hm
  refine lg_at fun v ov => ?_
  refine ccall2 Tryz.func207 rfl (by decide) Tryz.ntmps207 (by rfl) (by decide) ?_
  repeat (refine stp ?_)
  refine RHome_spec (p := x.ros) (R := R) ?_
  unfold mineB at h
  by_cases h0 : homeR R m < 0
  · rewrite [if_pos h0, if_pos h0]
    rw [if_pos (decide_eq_false (show ¬ homeR R m = x.hm by omega))] at h
    repeat (refine stp ?_)
    try rewrite [show decide ((5 : Int) ≠ 0) = true from rfl]
    repeat (refine stp ?_)
    exact ret1 rfl (lg_close (b := b) (x := x) (R := isRos x.ros R :: M) ov h)
  · rewrite [if_neg h0, if_neg h0]
    repeat (refine stp ?_)
    try rewrite [show decide ((0 : Int) ≠ 0) = false from rfl]
    repeat (refine stp ?_)
    by_cases h1 : homeR R m = x.hm
    · rw [if_neg (by rw [decide_eq_true h1]; decide)] at h
      rewrite [show decide (homeR R m ≠ x.hm) = false from decide_eq_false fun hh => hh h1]
      repeat (refine stp ?_)
      exact ret1 rfl (lg_close (b := b) (x := x) (R := isRos x.ros R :: M) ov h)
    · rw [if_pos (decide_eq_false h1)] at h
      rewrite [show decide (homeR R m ≠ x.hm) = true from decide_eq_true h1]
      repeat (refine stp ?_)
      exact ret1 rfl (lg_close (b := b) (x := x) (R := isRos x.ros R :: M) ov h)
theorem hasL_nn {s : Lg} {R : Ros} {k : Nat} {hm : Int} (ok : LgOk R hm k s) (m : ByteArray) : 0 ≤ hasL s m := by
  have h : ∀ l : List Int, (∀ z ∈ l, 0 ≤ z) → 0 ≤ l.sum := fun l => by
    induction l with
    | nil => intro _; exact Int.le_refl _
    | cons a l ih => intro hl; rw [List.sum_cons]; have := hl a List.mem_cons_self; have := ih fun z hz => hl z (List.mem_cons_of_mem _ hz); omega
  unfold hasL
  refine h _ fun z hz => ?_
  obtain ⟨y, hy, rfl⟩ := List.mem_map.1 hz
  exact Int.le_of_lt (ok.pl y (List.mem_filter.1 hy).1).1
theorem LgFits_spec {L M K b} {k : Nat} {x : LgL} {s : Lg} {R : Ros} {m : ByteArray} {a : Int} [pl : Pull (isLg b) L x M] (st : LgSt R k x s) (hs : m.size ≤ 1000000) (ha : 0 ≤ a ∧ a ≤ 9223372036854775807)
    (h : Ht (isLg b x :: M) (K (.int .i64 (if mostP < hasL s m + a then 7 else 0)))) :
    Ht L (CCall Tryz.prog 208 [.pointer (some ⟨b, 0, none⟩), .string m, .int .i64 a] K) := by
  refine Ht.pull pl ?_
  have h1 := hasL_nn st.ok m
  have h2 := st.ok.plm m
  have hmp : mostP = 1099511627776 := rfl
  have hbm : bigM = 2147483647 := rfl
  refine ccall3 Tryz.func208 rfl (by decide) Tryz.ntmps208 (by rfl) (by decide) ?_
  repeat (refine stp ?_)
  refine Pledged_spec (x := x) (R := R) st hs ?_
  repeat (refine stp ?_)
  intro c7
  repeat (refine stp ?_)
  rewrite [show IntKind.u64.wrap a = a from IntWalk.u64_in _ (by omega), show wLo (hasL s m) = hasL s m from by unfold wLo; omega, IntWalk.u64_in (hasL s m + a) (by omega)]
  by_cases hf : mostP < hasL s m + a
  · rw [if_pos hf] at h
    rewrite [decide_eq_true (show 1099511627776 < hasL s m + a by omega)]
    repeat (refine stp ?_)
    exact ret1 rfl (Ht.frm h)
  · rw [if_neg hf] at h
    rewrite [decide_eq_false (show ¬ 1099511627776 < hasL s m + a by omega)]
    repeat (refine stp ?_)
    exact ret1 rfl (Ht.frm h)
theorem next_spec {L M K b} {k : Nat} {x : LgL} {s : Lg} {R : Ros} {n : Nt} {rv : Value} [pl : Pull (isLg b) L x M] (st : LgSt R k x s) (ov : One1 rv)
    (h : Ht (isLg b x :: M) (K (.int .i64 (nextE x.hm s n)))) :
    Ht L (CCall Tryz.prog 213 [.pointer (some ⟨b, 0, none⟩), ntV n rv] K) := by
  refine Ht.pull pl ?_
  refine lg_at fun v ov => ?_
  refine ccall2 Tryz.func213 rfl (by decide) Tryz.ntmps213 (by rfl) (by decide) ?_
  repeat (refine stp ?_)
  intro c3
  repeat (refine stp ?_)
  refine peer_spec (x := x) (vp := v.vp) (n := n.peer) st.plen ?_
  unfold nextE at h
  cases hp : peerB x.hm s n.peer with
  | false =>
    have hpb := pr_none st.rp hp
    rw [hp, if_pos rfl] at h
    rewrite [hpb, show pv none = .pointer none from rfl]
    repeat (refine stp ?_)
    exact ret1 rfl (lg_close (b := b) (x := x) (R := M) ov h)
  | true =>
    rw [hp, if_neg (show ¬ true = false by decide)] at h
    obtain ⟨q, hpb⟩ := pr_some st.rp hp
    rewrite [hpb, show pv (some q) = .pointer (some ⟨q, 0, none⟩) from rfl]
    repeat (refine stp ?_)
    refine ht_draw Tryz.can213x3 Tryz.mixed (by kernel_rfl) ?_
    repeat (refine stp ?_)
    refine Ended_spec (x := x) (vp := v.vp) (n := n.peer) st.plen ?_
    rewrite [st.rp.ended]
    repeat (refine stp ?_)
    have he := endedL_le st.ok n.peer
    rewrite [show IntKind.i64.wrap (((endedL s n.peer : Nat) : Int) + 1) = ((endedL s n.peer : Nat) : Int) + 1 from IntWalk.i64_in _ (by omega)]
    by_cases hd : n.day ≠ ((endedL s n.peer : Nat) : Int) + 1
    · rw [if_pos hd] at h
      rewrite [decide_eq_true hd]
      repeat (refine stp ?_)
      exact ret1 rfl (lg_close (b := b) (x := x) (R := M) ov h)
    · rw [if_neg hd] at h
      rewrite [decide_eq_false hd]
      repeat (refine stp ?_)
      exact ret1 rfl (lg_close (b := b) (x := x) (R := M) ov h)
end Go.Proofs
namespace Go.Proofs
open Go Go.SL
attribute [local irreducible] CCall CO CC CX CD
theorem ids_2000 {k : Nat} {x : LgL} {s : Lg} {R : Ros} (st : LgSt R k x s) : x.ids.length ≤ 2000 := by rw [st.rp.idL]; exact st.ok.ids
theorem shut_home {k : Nat} {s : Lg} {R : Ros} {hm n : Int} (ok : LgOk R hm k s) (hn : 0 ≤ n ∧ n < R.nodes) : shutB hm s n = true ↔ n ≠ hm ∧ (ptAt s n).shut = true := by
  have hp := ok.pts
  unfold shutB
  rw [Bool.and_eq_true, peerB_iff]
  exact ⟨fun h => ⟨h.1.2, h.2⟩, fun h => ⟨⟨by omega, h.1⟩, h.2⟩⟩
theorem mayAccept_spec {L L1 M K b} {k : Nat} {x : LgL} {s : Lg} {R : Ros} {n : Nt} {rv : Value} [pl : Pull (isLg b) L x L1] [pr : Pull (isRos x.ros) L1 R M] (st : LgSt R k x s) (orv : One1 rv)
    (h : Ht (isLg b x :: isRos x.ros R :: M) (K (.int .i64 (may1 R x.hm s n)))) :
    Ht L (CCall Tryz.prog 119 [.pointer (some ⟨b, 0, none⟩), ntV n rv] K) := by
  refine Ht.conseq (L' := isLg b x :: isRos x.ros R :: M) ?_ (fun w s => seps_mono (fun _ a => a) (fun _ t => pr.h _ _ t) (pl.h _ _ s))
  have hm := st.hm
  have hid := ids_2000 st
  refine lg_at fun v ov => ?_
  refine ccall2 Tryz.func119 rfl (by decide) Tryz.ntmps119 (by rfl) (by decide) ?_
  repeat (refine stp ?_)
  intro c3
  repeat (refine stp ?_)
  refine ht_draw Tryz.can119x1 Tryz.mixed (by kernel_rfl) ?_
  repeat (refine stp ?_)
  refine RRoute_spec (p := x.ros) (R := R) (t := n.tr) ?_
  repeat (refine stp ?_)
  refine ht_draw Tryz.can119x2 Tryz.mixed (by kernel_rfl) ?_
  repeat (refine stp ?_)
  refine lb_get (b := b) (o := 3) (l := lgC x v) (v := v.vi) (xs := x.ids) (k := n.tr.id) st.rp.idS (by omega) ?_
  rewrite [st.rp.idM]
  repeat (refine stp ?_)
  unfold may1 at h
  by_cases hr : routeE R n.tr ≠ 0
  · rw [if_pos hr] at h
    rewrite [decide_eq_true hr]
    repeat (refine stp ?_)
    exact ret1 rfl (lg_close (b := b) (x := x) (R := isRos x.ros R :: M) ov h)
  rw [if_neg hr] at h
  rewrite [decide_eq_false hr]
  have hr0 : routeE R n.tr = 0 := Decidable.not_not.1 hr
  rewrite [if_pos hr0, if_pos hr0]
  repeat (refine stp ?_)
  by_cases hb : homeR R n.tr.buyer ≠ x.hm
  · rw [if_pos hb] at h
    rewrite [decide_eq_true hb]
    repeat (refine stp ?_)
    exact ret1 rfl (lg_close (b := b) (x := x) (R := isRos x.ros R :: M) ov h)
  rw [if_neg hb] at h
  rewrite [decide_eq_false hb]
  repeat (refine stp ?_)
  by_cases hi : n.tr.id ∈ s.ids
  · rw [if_pos hi] at h
    rewrite [decide_eq_true hi]
    repeat (refine stp ?_)
    exact ret1 rfl (lg_close (b := b) (x := x) (R := isRos x.ros R :: M) ov h)
  rw [if_neg hi] at h
  rewrite [decide_eq_false hi]
  repeat (refine stp ?_)
  refine Day_spec (x := x) (vp := v.vp) st.plen st.clen ?_
  rewrite [st.rp.ended, show (((endedL s x.hm : Nat) : Int) + 1) = dayL x.hm s from rfl]
  repeat (refine stp ?_)
  by_cases hd : 500 < dayL x.hm s
  · rw [if_pos (.inl hd)] at h
    rewrite [decide_eq_true hd]
    repeat (refine stp ?_)
    exact ret1 rfl (lg_close (b := b) (x := x) (R := isRos x.ros R :: M) ov h)
  rewrite [decide_eq_false hd]
  repeat (refine stp ?_)
  refine lb_len (b := b) (o := 3) (l := lgC x v) (v := v.vi) (xs := x.ids) ?_
  rewrite [st.rp.idL]
  repeat (refine stp ?_)
  by_cases hl : (2000 : Int) ≤ (s.ids.length : Int)
  · rw [if_pos (.inr (by omega))] at h
    rewrite [decide_eq_true hl]
    repeat (refine stp ?_)
    exact ret1 rfl (lg_close (b := b) (x := x) (R := isRos x.ros R :: M) ov h)
  rw [if_neg (by omega)] at h
  rewrite [decide_eq_false hl]
  repeat (refine stp ?_)
  refine lg_close (b := b) (x := x) (R := isRos x.ros R :: M) ov ?_
  refine LgShut_spec (x := x) (R := R) st ?_
  obtain ⟨_, rb, rs, _⟩ := route_z hr0
  have hsm := shut_home st.ok (n := homeR R n.tr.seller) ⟨rs, ((homeR_rg st.ok.ros n.tr.seller).resolve_left (by omega)).2.1⟩
  by_cases hs : homeR R n.tr.seller ≠ x.hm ∧ (ptAt s (homeR R n.tr.seller)).shut = true
  · rw [if_pos hs] at h
    rewrite [hsm.2 hs]
    repeat (refine stp ?_)
    exact ret1 rfl (Ht.frm h)
  · rw [if_neg hs] at h
    rewrite [show shutB x.hm s (homeR R n.tr.seller) = false from by
      cases hx : shutB x.hm s (homeR R n.tr.seller) with
      | false => rfl
      | true => exact absurd (hsm.1 hx) hs]
    repeat (refine stp ?_)
    exact ret1 rfl (Ht.frm h)
theorem mayCut_spec {L M K b} {k : Nat} {x : LgL} {s : Lg} {R : Ros} {n : Nt} {rv : Value} [pl : Pull (isLg b) L x M] (st : LgSt R k x s) (orv : One1 rv)
    (h : Ht (isLg b x :: M) (K (.int .i64 (may2 x.hm s)))) :
    Ht L (CCall Tryz.prog 121 [.pointer (some ⟨b, 0, none⟩), ntV n rv] K) := by
  refine Ht.pull pl ?_
  refine lg_at fun v ov => ?_
  refine ccall2 Tryz.func121 rfl (by decide) Tryz.ntmps121 (by rfl) (by decide) ?_
  repeat (refine stp ?_)
  intro c3
  repeat (refine stp ?_)
  refine Day_spec (x := x) (vp := v.vp) st.plen st.clen ?_
  rewrite [st.rp.ended, show (((endedL s x.hm : Nat) : Int) + 1) = dayL x.hm s from rfl]
  unfold may2 at h
  repeat (refine stp ?_)
  by_cases hd : 500 < dayL x.hm s
  · rw [if_pos hd] at h
    rewrite [decide_eq_true hd]
    repeat (refine stp ?_)
    exact ret1 rfl (lg_close (b := b) (x := x) (R := M) ov h)
  · rw [if_neg hd] at h
    rewrite [decide_eq_false hd]
    repeat (refine stp ?_)
    exact ret1 rfl (lg_close (b := b) (x := x) (R := M) ov h)
theorem mayPrice_spec {L L1 M K b} {k : Nat} {x : LgL} {s : Lg} {R : Ros} {n : Nt} {rv : Value} [pl : Pull (isLg b) L x L1] [pr : Pull (isRos x.ros) L1 R M] (st : LgSt R k x s) (orv : One1 rv)
    (h : Ht (isLg b x :: isRos x.ros R :: M) (K (.int .i64 (may3 R n)))) :
    Ht L (CCall Tryz.prog 123 [.pointer (some ⟨b, 0, none⟩), ntV n rv] K) := by
  refine Ht.conseq (L' := isLg b x :: isRos x.ros R :: M) ?_ (fun w s => seps_mono (fun _ a => a) (fun _ t => pr.h _ _ t) (pl.h _ _ s))
  refine lg_at fun v ov => ?_
  refine ccall2 Tryz.func123 rfl (by decide) Tryz.ntmps123 (by rfl) (by decide) ?_
  repeat (refine stp ?_)
  intro c3
  repeat (refine stp ?_)
  try refine ht_draw Tryz.can123x1 Tryz.mixed (by kernel_rfl) ?_
  repeat (refine stp ?_)
  refine RHas_spec (p := x.ros) (R := R) ?_
  unfold may3 at h
  cases hh : hasR R n.name with
  | false =>
    rw [hh, if_pos rfl] at h
    repeat (refine stp ?_)
    try rewrite [Bool.not_false]
    repeat (refine stp ?_)
    exact ret1 rfl (lg_close (b := b) (x := x) (R := isRos x.ros R :: M) ov h)
  | true =>
    rw [hh, if_neg (by decide)] at h
    repeat (refine stp ?_)
    try rewrite [Bool.not_true]
    repeat (refine stp ?_)
    exact ret1 rfl (lg_close (b := b) (x := x) (R := isRos x.ros R :: M) ov h)
end Go.Proofs
namespace Go.Proofs
open Go Go.SL
attribute [local irreducible] CCall CO CC CX CD
theorem peersR_mem {k : Nat} {x : LgL} {s : Lg} {R : Ros} (st : LgSt R k x s) {p : Nat} (hp : p < s.pts.length) (hn : (p : Int) ≠ x.hm) : (p : Int) ∈ peersR R x.hm := by
  have hm := st.hm
  have := st.ok.pts
  unfold peersR
  rw [if_neg (by omega)]
  exact List.mem_filter.2 ⟨List.mem_map.2 ⟨p, List.mem_range.2 (by omega), rfl⟩, neB_t hn⟩
theorem settle_no {k : Nat} {x : LgL} {s : Lg} {R : Ros} (st : LgSt R k x s) {d : Int} {i : Nat} (hi : i < (peersR R x.hm).length) (h : agrS x.hm s (peersR R x.hm)[i]! d = false) :
    ((List.range s.pts.length).all fun p => decide ((p : Int) = x.hm) || agrS x.hm s p d) = false := by
  rw [List.all_eq_false]
  have hmem : (peersR R x.hm)[i]! ∈ peersR R x.hm := List.mem_of_getElem? (getB hi)
  generalize (peersR R x.hm)[i]! = q at h hmem
  obtain ⟨h1, h2, h3⟩ := peersR_pos q hmem
  have := st.ok.pts
  obtain ⟨j, rfl⟩ : ∃ j : Nat, q = j := ⟨q.toNat, by omega⟩
  refine ⟨j, List.mem_range.2 (by omega), ?_⟩
  rw [h, decide_eq_false h3]; decide
theorem settle_yes {k : Nat} {x : LgL} {s : Lg} {R : Ros} (st : LgSt R k x s) {d : Int} (h : (peersR R x.hm).all (fun p => agrS x.hm s p d) = true) :
    ¬ ((List.range s.pts.length).all fun p => decide ((p : Int) = x.hm) || agrS x.hm s p d) = false := by
  rw [Bool.not_eq_false, List.all_eq_true]
  intro p hp
  by_cases hn : (p : Int) = x.hm
  · rw [decide_eq_true hn, Bool.true_or]
  · rw [List.all_eq_true.1 h _ (peersR_mem st (List.mem_range.1 hp) hn), Bool.or_true]
theorem maySettle_spec {L L1 M K b} {k : Nat} {x : LgL} {s : Lg} {R : Ros} {n : Nt} {rv : Value} [pl : Pull (isLg b) L x L1] [pr : Pull (isRos x.ros) L1 R M] (st : LgSt R k x s) (orv : One1 rv)
    (h : Ht (isLg b x :: isRos x.ros R :: M) (K (.int .i64 (may4 x.hm s n)))) :
    Ht L (CCall Tryz.prog 125 [.pointer (some ⟨b, 0, none⟩), ntV n rv] K) := by
  refine Ht.conseq (L' := isLg b x :: isRos x.ros R :: M) ?_ (fun w s => seps_mono (fun _ a => a) (fun _ t => pr.h _ _ t) (pl.h _ _ s))
  have hm := st.hm
  have hpl := peersR_len st.ok.ros (n := x.hm)
  refine lg_at fun v ov => ?_
  refine ccall2 Tryz.func125 rfl (by decide) Tryz.ntmps125 (by rfl) (by decide) ?_
  repeat (refine stp ?_)
  intro c3
  repeat (refine stp ?_)
  refine ht_draw Tryz.can125x1 Tryz.mixed (by kernel_rfl) ?_
  repeat (refine stp ?_)
  rewrite [st.rp.st]
  unfold may4 at h
  by_cases hd : n.day ≤ s.settled
  · rw [if_pos hd] at h
    rewrite [decide_eq_true hd]
    repeat (refine stp ?_)
    exact ret1 rfl (lg_close (b := b) (x := x) (R := isRos x.ros R :: M) ov h)
  rw [if_neg hd] at h
  rewrite [decide_eq_false hd]
  repeat (refine stp ?_)
  refine Compl0_spec (x := x) (R := R) (vp := v.vp) st.ok.ros st.plen st.clen ?_
  rewrite [cpl_all st]
  cases hc : complB x.hm s n.day with
  | false =>
    rw [hc, if_pos rfl] at h
    repeat (refine stp ?_)
    try rewrite [Bool.not_false]
    repeat (refine stp ?_)
    exact ret1 rfl (lg_close (b := b) (x := x) (R := isRos x.ros R :: M) ov h)
  | true =>
    rw [hc, if_neg (show ¬ true = false by decide)] at h
    repeat (refine stp ?_)
    try rewrite [Bool.not_true]
    repeat (refine stp ?_)
    refine peers_spec (x := x) (R := R) fun pv opv => ?_
    repeat (refine stp ?_)
    refine lg_close (b := b) (x := x) (R := own SL.encI 3 pv (peersR R x.hm) :: pto c3 (cells (ntC n rv) 63) :: isRos x.ros R :: M) ov ?_
    refine ht_for (peersR R x.hm).length (fun i (_ : Unit) => ((peersR R x.hm).take i).all (fun p => agrS x.hm s p n.day) = true) (fun i _ => isLg b x :: own SL.encI 3 pv (peersR R x.hm) :: pto c3 (cells (ntC n rv) 63) :: isRos x.ros R :: M) (fun i _ => [(22, .int .i64 (i : Int))]) () [22] rfl (fun w t => t) inferInstance ?_
    intro i _ hi hal
    dsimp only [List.cons_append, List.nil_append]
    repeat (refine stp ?_)
    refine ht_if ?_ ?_ <;> intro hcc <;> simp only [decide_eq_true_eq, decide_eq_false_iff_not] at hcc
    · have hii : i < (peersR R x.hm).length := by omega
      repeat (refine stp ?_)
      refine co_index (xs := peersR R x.hm) (by omega) ?_
      intro hb
      repeat (refine stp ?_)
      refine Reconciled_spec (x := x) (R := R) st ?_
      cases ha : agrS x.hm s (peersR R x.hm)[i]! n.day with
      | false =>
        rw [if_pos (settle_no st hii ha)] at h
        repeat (refine stp ?_)
        try rewrite [Bool.not_false]
        repeat (refine stp ?_)
        exact ret1 rfl (Ht.frm h)
      | true =>
        repeat (refine stp ?_)
        try rewrite [Bool.not_true]
        repeat (refine stp ?_)
        refine ht_next () hii (by rw [List.take_succ, getB hii, List.all_append, hal]; show (true && (agrS x.hm s (peersR R x.hm)[i]! n.day && true)) = true; rw [ha]; rfl) (fun w t => (inferInstance : Frm _ _).h _ _ t) (SubE.cons (by rw [IntWalk.i64_in _ (by omega)]; rfl) inferInstance) rfl rfl
    · have he : i = (peersR R x.hm).length := by omega
      subst he
      rw [List.take_length] at hal
      rw [if_neg (settle_yes st hal)] at h
      repeat (refine stp ?_)
      exact ret1 rfl (Ht.frm h)
end Go.Proofs
namespace Go.SL
open Go
section can
variable (P : Program) (ρ : Option Nat) (ops : Array Oper) (Q : Exit → Act → World → Prop) (R : List (List CanIt))
def CanR : List CanIt → List Watch → Act → World → Prop
  | [], W, a, w => ∀ σ ∈ R, Can P ρ ops Q σ W a w
  | .q i :: π, W, a, w => ∃ o, ops[i]? = some o ∧
      ((Region.wanted o (yielded ops a.tmps) = true ∧ ∃ v, (execOp a.eval o).run P w = .ok (.value v) w ∧ CanR π ((i, execOp a.eval o, v) :: W) (a.put o.dst v) w) ∨
       (Region.wanted o (yielded ops a.tmps) = false ∧ CanR π W (a.put o.dst undef) w))
  | .x i keep :: π, W, a, w => ∃ o, ops[i]? = some o ∧
      ((Region.wanted o (yielded ops a.tmps) = true ∧ o.wpIn (Fr ρ) 0 P a w (fun a' w' => (∀ p ∈ W, p.1 ∈ keep → RunAt P p w') ∧ CanR π W a' w') Q0) ∨
       (Region.wanted o (yielded ops a.tmps) = false ∧ CanR π W (a.put o.dst undef) w))
end can
section
variable {P : Program} {ρ : Option Nat} {ops : Array Oper} {Q : Exit → Act → World → Prop} {R : List (List CanIt)}
theorem canR_W {π : List CanIt} : ∀ {W W' : List Watch} {a : Act} {w : World}, (∀ p ∈ W', p ∈ W) → CanR P ρ ops Q R π W a w → CanR P ρ ops Q R π W' a w := by
  induction π with
  | nil => exact fun hs h σ hσ => can_W hs (h σ hσ)
  | cons it π ih =>
    intro W W' a w hs h
    cases it with
    | q i =>
      obtain ⟨o, ho, h⟩ := h
      refine ⟨o, ho, ?_⟩
      rcases h with ⟨hw, v, hr, h⟩ | ⟨hw, h⟩
      · exact .inl ⟨hw, v, hr, ih (fun p hp => by
          rcases List.mem_cons.1 hp with h | hp
          · rw [h]; exact List.mem_cons_self
          · exact List.mem_cons_of_mem _ (hs p hp)) h⟩
      · exact .inr ⟨hw, ih hs h⟩
    | x i keep =>
      obtain ⟨o, ho, h⟩ := h
      refine ⟨o, ho, ?_⟩
      rcases h with ⟨hw, h⟩ | ⟨hw, h⟩
      · exact .inl ⟨hw, wp_monoK (fun a' w' h => ⟨fun p hp => h.1 p (hs p hp), ih hs h.2⟩) h⟩
      · exact .inr ⟨hw, ih hs h⟩
theorem canR_first (it : CanIt) (π2 : List CanIt) : ∀ (π1 : List CanIt) {W : List Watch} {a : Act} {w : World}, (∀ i ∈ π1, FirstOk ops it i) → CanR P ρ ops Q R (π1 ++ it :: π2) W a w →
    ∃ o, ops[it.i]? = some o ∧
      match it with
      | .q j => (Region.wanted o (yielded ops a.tmps) = true ∧ ∃ v, (execOp a.eval o).run P w = .ok (.value v) w ∧ CanR P ρ ops Q R (π1 ++ π2) W (a.put o.dst v) w) ∨
          (Region.wanted o (yielded ops a.tmps) = false ∧ CanR P ρ ops Q R (π1 ++ π2) W (a.put o.dst undef) w)
      | .x j keep => (Region.wanted o (yielded ops a.tmps) = true ∧ o.wpIn (Fr ρ) 0 P a w (fun a' w' => (∀ p ∈ W, p.1 ∈ keep → RunAt P p w') ∧ CanR P ρ ops Q R (π1 ++ π2) W a' w') Q0) ∨
          (Region.wanted o (yielded ops a.tmps) = false ∧ CanR P ρ ops Q R (π1 ++ π2) W (a.put o.dst undef) w) := by
  intro π1
  induction π1 with
  | nil =>
    intro W a w _ h
    cases it with
    | q j =>
      obtain ⟨o, ho, h⟩ := h
      refine ⟨o, ho, ?_⟩
      rcases h with ⟨hw, v, hr, h⟩ | h
      · exact .inl ⟨hw, v, hr, canR_W (fun p hp => List.mem_cons_of_mem _ hp) h⟩
      · exact .inr h
    | x j keep => exact h
  | cons i π1 ih =>
    intro W a w hf h
    have hi := hf i (by simp)
    cases i with
    | x i _ => exact hi.elim
    | q i =>
      obtain ⟨oi, hoi, h⟩ := h
      have hf' : ∀ k ∈ π1, FirstOk ops it k := fun k hk => hf k (by simp [hk])
      have hoj : ∃ oj, ops[it.i]? = some oj := by
        rcases h with ⟨_, v, _, h⟩ | ⟨_, h⟩
        · obtain ⟨o, ho, _⟩ := ih hf' h; exact ⟨o, ho⟩
        · obtain ⟨o, ho, _⟩ := ih hf' h; exact ⟨o, ho⟩
      obtain ⟨oj, hoj⟩ := hoj
      obtain ⟨hap, hpj, hpi, hkp⟩ := hi oi oj hoi hoj
      obtain ⟨h1, h2, h3⟩ := Oper.apart_spec hap
      refine ⟨oj, hoj, ?_⟩
      have hwi : ∀ (a : Act) u, Region.wanted oi (yielded ops (a.put oj.dst u).tmps) = Region.wanted oi (yielded ops a.tmps) := fun a u => wanted_put oi a oj.dst u h3
      have hei : ∀ (a : Act) u, execOp (a.put oj.dst u).eval oi = execOp a.eval oi := fun a u => execOp_put oi (plain_sel hpi) a oj.dst u h3
      have hwj : ∀ (a : Act) u, Region.wanted oj (yielded ops (a.put oi.dst u).tmps) = Region.wanted oj (yielded ops a.tmps) := fun a u => wanted_put oj a oi.dst u h1
      have hej : ∀ (a : Act) u, execOp (a.put oi.dst u).eval oj = execOp a.eval oj := fun a u => execOp_put oj (plain_sel hpj) a oi.dst u h1
      -- the quiet operation as a step: its value, and the list behind it
      have hstep : ∃ (W' : List Watch) (v : Value) (X : World → Prop), (∀ p ∈ W, p ∈ W') ∧ CanR P ρ ops Q R (π1 ++ it :: π2) W' (a.put oi.dst v) w ∧ X w ∧
          (∀ (w' : World) (keep : List Nat), i ∈ keep → (∀ p ∈ W', p.1 ∈ keep → RunAt P p w') → X w') ∧
          ∀ (a' : Act) (w' : World), (∃ u, a'.tmps = (a.put oj.dst u).tmps) → X w' → CanR P ρ ops Q R (π1 ++ π2) W' (a'.put oi.dst v) w' → CanR P ρ ops Q R (.q i :: (π1 ++ π2)) W a' w' := by
        rcases h with ⟨hw, v, hr, h⟩ | ⟨hw, h⟩
        · refine ⟨(i, execOp a.eval oi, v) :: W, v, fun w' => RunAt P (i, execOp a.eval oi, v) w', fun p hp => List.mem_cons_of_mem _ hp, h, hr, fun w' keep hk hh => hh _ List.mem_cons_self hk, ?_⟩
          rintro a' w' ⟨u, hu⟩ hx hc
          have he : execOp a'.eval oi = execOp a.eval oi := by rw [eval_tmps hu, hei]
          refine ⟨oi, hoi, .inl ⟨by rw [hu, hwi]; exact hw, v, by rw [he]; exact hx, ?_⟩⟩
          rw [he]; exact hc
        · refine ⟨W, undef, fun _ => True, fun p hp => hp, h, trivial, fun _ _ _ _ => trivial, ?_⟩
          rintro a' w' ⟨u, hu⟩ _ hc
          exact ⟨oi, hoi, .inr ⟨by rw [hu, hwi]; exact hw, hc⟩⟩
      obtain ⟨W', v, X, hWs, hc, hX0, hXk, hback⟩ := hstep
      obtain ⟨o', ho', h⟩ := ih hf' hc
      rw [hoj] at ho'; cases ho'
      cases it with
      | q j =>
        simp only at h ⊢
        rw [hwj, hej] at h
        rcases h with ⟨hw', u, hr', h⟩ | ⟨hw', h⟩
        · refine .inl ⟨hw', u, hr', hback _ _ ⟨u, rfl⟩ hX0 ?_⟩
          rw [← Act.put_comm a v u h2]; exact h
        · refine .inr ⟨hw', hback _ _ ⟨undef, rfl⟩ hX0 ?_⟩
          rw [← Act.put_comm a v undef h2]; exact h
      | x j keep =>
        simp only at h ⊢ hkp
        rw [hwj] at h
        rcases h with ⟨hw', h⟩ | ⟨hw', h⟩
        · refine .inl ⟨hw', wp_monoK (fun a' w' hh => ?_) (wp_fact (wp_put (ops := ops) hap hpj h))⟩
          obtain ⟨hu, hwt, hc⟩ := hh
          exact ⟨fun p hp hk => hwt p (hWs p hp) hk, hback a' w' hu (hXk w' keep hkp hwt) hc⟩
        · refine .inr ⟨hw', hback _ _ ⟨undef, rfl⟩ hX0 ?_⟩
          rw [← Act.put_comm a v undef h2]; exact h
theorem canR_all {σ : List CanIt} (hσ : σ ∈ R) : ∀ {π : List CanIt} {W : List Watch} {a : Act} {w : World}, CanR P ρ ops Q R π W a w → Can P ρ ops Q (π ++ σ) W a w := by
  intro π
  induction π with
  | nil => exact fun h => h σ hσ
  | cons it π ih =>
    intro W a w h
    cases it with
    | q i =>
      obtain ⟨o, ho, h⟩ := h
      refine ⟨o, ho, ?_⟩
      rcases h with ⟨hw, v, hr, h⟩ | ⟨hw, h⟩
      · exact .inl ⟨hw, v, hr, ih h⟩
      · exact .inr ⟨hw, ih h⟩
    | x i keep =>
      obtain ⟨o, ho, h⟩ := h
      refine ⟨o, ho, ?_⟩
      rcases h with ⟨hw, h⟩ | ⟨hw, h⟩
      · exact .inl ⟨hw, wp_monoK (fun a' w' h => ⟨h.1, ih h.2⟩) h⟩
      · exact .inr ⟨hw, ih h⟩
theorem split_uniq : ∀ {l1 m1 : List CanIt} {a b : CanIt} {l2 m2 : List CanIt}, l1 ++ a :: l2 = m1 ++ b :: m2 → a.i = b.i → ((l1 ++ a :: l2).map (·.i)).Nodup → l1 = m1 ∧ a = b ∧ l2 = m2
  | [], [], _, _, _, _, h, _, _ => by simp at h; exact ⟨rfl, h.1, h.2⟩
  | [], c :: m1, a, b, l2, m2, h, he, hn => by
    simp only [List.nil_append, List.cons_append, List.cons.injEq] at h
    simp only [List.nil_append, List.map_cons, List.nodup_cons] at hn
    exact absurd (by rw [h.2, he]; simp) hn.1
  | c :: l1, [], a, b, l2, m2, h, he, hn => by
    simp only [List.nil_append, List.cons_append, List.cons.injEq] at h
    simp only [List.cons_append, List.map_cons, List.nodup_cons] at hn
    exact absurd (by rw [h.1, ← he]; simp) hn.1
  | c :: l1, d :: m1, a, b, l2, m2, h, he, hn => by
    simp only [List.cons_append, List.cons.injEq] at h
    simp only [List.cons_append, List.map_cons, List.nodup_cons] at hn
    obtain ⟨h1, h2, h3⟩ := split_uniq h.2 he hn.2
    exact ⟨by rw [h.1, h1], h2, h3⟩
theorem remL_app {listed : Array Bool} {a b : List CanIt} : remL listed (a ++ b) = remL listed a ++ remL listed b := List.filter_append ..
theorem remL_un {listed : Array Bool} {it : CanIt} {l : List CanIt} (h : listed.getD it.i false = false) : remL listed (it :: l) = it :: remL listed l := by
  unfold remL
  rw [List.filter_cons, if_pos (by rw [h]; rfl)]
theorem can_famA {X : List Nat} {F : List (List CanIt)} {A : Nat} {qs : List CanIt} {kp : List Nat} (hp : ops.toList.all plainOp = true) (hE : edgesB ops = true) {T : Array Nat} (hT : closedB ops T = true) (hF0 : F ≠ [])
    (hnd : ∀ π ∈ F, (π.map (·.i)).Nodup) (hrg : ∀ π ∈ F, ∀ it ∈ π, it.i < ops.size) (hpw : ∀ π ∈ F, π.Pairwise (fun k l => pairG ops T k l = true)) (hlast : ∀ π ∈ F, lastB T none π = true) (hall : ∀ π ∈ F, ∀ i, i < ops.size → i ∈ π.map (·.i)) (hX : ∀ π ∈ F, ∀ j, j ∈ xsOf π ↔ j ∈ X)
    (hcov : ∀ π ∈ F, ∀ h, h <+: xsOf π → ∀ j ∈ X, j ∈ h ∨ (∃ i ∈ X, succB T i j = true ∧ i ∉ h) ∨ ∃ π' ∈ F, (h ++ [j]) <+: xsOf π')
    (hsing : ∀ π ∈ F, ∀ π' ∈ F, ∀ h j, (h ++ [j]) <+: xsOf π → (h ++ [j]) <+: xsOf π' → (h = [] ∧ j = A) ∨ (∃ o, ops[j]? = some o ∧ isV o = true) ∨ (π.filter fun it => !(h ++ [j]).contains it.i) = (π'.filter fun it => !(h ++ [j]).contains it.i))
    (hA0 : ∀ π ∈ F, [A] <+: xsOf π → ∃ σ ∈ R, π = qs ++ .x A kp :: σ) (hqs : ∀ it ∈ qs, ∃ i, it = .q i) (hex : ∃ σ ∈ R, qs ++ .x A kp :: σ ∈ F) (hAσ : ∀ σ ∈ R, ∀ it ∈ σ, it.i ∈ X ∨ succB T A it.i = true) :
    ∀ (n : Nat) (h : List Nat) (W : List Watch) (listed : Array Bool) (a : Act) (w : World), (∀ π ∈ F, (remL listed π).length = n) → Closed ops listed → listed.size = ops.size → (∀ j ∈ X, (listed.getD j false = true ↔ j ∈ h)) → (∀ i ∈ h, i ∈ X) →
      (∃ π ∈ F, h <+: xsOf π) → (∀ π ∈ F, h <+: xsOf π → Can P ρ ops Q (remL listed π) W a w) → (h = [] → CanR P ρ ops Q R (remL listed (qs ++ [.x A kp])) W a w) → wpAnyIn (Fr ρ) 0 P .any ops Q n listed a w := by
  have hd : ∀ (listed : Array Bool) (i : Nat), i < listed.size → ∀ d, listed.getD i d = listed.getD i false := fun listed i hi d => by simp [Array.getD, hi]
  have hpl : ∀ (m : Nat) (om : Oper), ops[m]? = some om → plainOp om = true := fun m om hm => by
    simp only [List.all_eq_true] at hp
    exact hp om (by simpa using Array.mem_of_getElem? hm)
  have hin : ∀ (listed : Array Bool) (π : List CanIt), π ∈ F → ∀ j, j < ops.size → listed.getD j false = false → ∃ it ∈ remL listed π, it.i = j := fun listed π hπ j hj hl => by
    obtain ⟨it, hit, rfl⟩ := List.mem_map.1 (hall π hπ j hj)
    exact ⟨it, List.mem_filter.2 ⟨hit, by rw [hl]; rfl⟩, rfl⟩
  intro n
  induction n with
  | zero =>
    intro h W listed a w hl _ hsz _ _ ⟨π, hπ, hpre⟩ hcan _
    have hnil : remL listed π = [] := List.eq_nil_of_length_eq_zero (hl π hπ)
    have hc := hcan π hπ hpre
    rw [hnil] at hc
    refine ⟨?_, hc⟩
    apply List.eq_nil_iff_forall_not_mem.2
    intro i hi
    rw [mem_ready] at hi
    obtain ⟨h1, o, ho, _⟩ := hi
    have hlt : i < ops.size := (Array.getElem?_eq_some_iff.1 ho).1
    obtain ⟨it, hit, _⟩ := hin listed π hπ i hlt (by rw [← hd listed i (by omega) true]; exact h1)
    rw [hnil] at hit; cases hit
  | succ n ih =>
    intro h W listed a w hl hcl hsz hxl hhX ⟨π0, hπ0, hpre0⟩ hcan hRinv
    refine ⟨fun hr => ?_, fun j hj => ?_⟩
    · exfalso
      have key : ∀ j, j < ops.size → listed.getD j false = false → False := by
        intro j
        induction j using Nat.strongRecOn with
        | _ j ihj =>
          intro hj hu
          have : j ∈ Region.ready .any ops listed := by
            rw [mem_ready]
            refine ⟨by rw [hd listed j (by omega) true]; exact hu, _, Array.getElem?_eq_getElem hj, fun e he hb => ?_⟩
            simp only [edgesB, List.all_eq_true, List.mem_range] at hE
            have := hE j hj
            simp only [Array.getElem?_eq_getElem hj, Option.all_some, List.all_eq_true] at this
            have := this e (by simpa using he)
            simp only [bindE, hb, Bool.not_true, Bool.false_or, Nat.blt_eq] at this
            cases hle : listed.getD e.on false with
            | true => rfl
            | false => exact (ihj e.on this (by omega) hle).elim
          rw [hr] at this
          cases this
      have h0 := hl π0 hπ0
      cases hrem : remL listed π0 with
      | nil => rw [hrem] at h0; simp at h0
      | cons it π =>
        have hm : it ∈ remL listed π0 := by rw [hrem]; exact List.mem_cons_self
        obtain ⟨hm1, hm2⟩ := List.mem_filter.1 hm
        exact key it.i (hrg π0 hπ0 it hm1) (by simpa using hm2)
    · rw [mem_ready] at hj
      obtain ⟨h1, o, ho, hallE⟩ := hj
      have hlt : j < ops.size := (Array.getElem?_eq_some_iff.1 ho).1
      have h1' : listed.getD j false = false := by rw [← hd listed j (by omega) true]; exact h1
      -- what is known of a schedule that still may be
      have split : ∀ π ∈ F, ∃ it π1 π2, it.i = j ∧ remL listed π = π1 ++ it :: π2 ∧ it ∈ π ∧ ((∀ i k, CanIt.x i k ∈ π1 → False) → ∀ k ∈ π1, FirstOk ops it k) ∧ (h <+: xsOf π → ∀ i k, CanIt.x i k ∈ π1 → ∃ kp, it = .x j kp) ∧ remL (listed.setIfInBounds j true) π = π1 ++ π2 := fun π hπ => by
        obtain ⟨it, hit, hij⟩ := hin listed π hπ j hlt h1'
        obtain ⟨A, C, hAC⟩ := List.append_of_mem (List.mem_filter.1 hit).1
        obtain ⟨π1, hπ1⟩ : ∃ π1, remL listed A = π1 := ⟨_, rfl⟩
        obtain ⟨π2, hπ2⟩ : ∃ π2, remL listed C = π2 := ⟨_, rfl⟩
        have hs : remL listed π = π1 ++ it :: π2 := by
          rw [← hπ1, ← hπ2, hAC]
          unfold remL
          have hit2 : (!(listed.getD it.i false)) = true := (List.mem_filter.1 hit).2
          rw [List.filter_append, List.filter_cons, if_pos hit2]
        have hpwr : (remL listed π).Pairwise (fun k l => pairG ops T k l = true) := (hpw π hπ).sublist List.filter_sublist
        rw [hs, List.pairwise_append] at hpwr
        have hpk : ∀ k ∈ π1, pairG ops T k it = true := fun k hk => hpwr.2.2 k hk it List.mem_cons_self
        have hns : ∀ k ∈ π1, succB T k.i it.i ≠ true := fun k hk hss => by
          have hkm : k ∈ remL listed π := by rw [hs]; exact List.mem_append_left _ hk
          obtain ⟨hk1, hk2⟩ := List.mem_filter.1 hkm
          have := succ_listed hT hcl j o ho hallE k.i (hrg π hπ k hk1) (by rw [← hij]; exact hss)
          rw [this] at hk2; simp at hk2
        have hndr : ((remL listed π).map (·.i)).Nodup := (hnd π hπ).sublist (List.filter_sublist.map _)
        refine ⟨it, π1, π2, hij, hs, (List.mem_filter.1 hit).1, fun hno k hk => ?_, fun hpr i k hk => ?_, ?_⟩
        · cases k with
          | x i kp => exact (hno i kp hk).elim
          | q i =>
            intro oi oj hoi hoj
            have hpq : pairB ops T (.q i) it = true := hpk _ hk
            simp only [pairB, Bool.or_eq_true] at hpq
            have hpq := hpq.resolve_left (hns _ hk)
            simp only [hoi, hoj, Bool.and_eq_true] at hpq
            refine ⟨hpq.1, hpl _ _ hoj, hpl _ _ hoi, ?_⟩
            cases it with
            | q _ => trivial
            | x _ keep => simpa using hpq.2
        · cases it with
          | x j' kp => exact ⟨kp, by rw [← hij]; rfl⟩
          | q j' =>
            exfalso
            have hj' : j' = j := hij
            subst hj'
            have hiA : i ∈ xsOf A := by
              rw [← hπ1] at hk
              exact xsOf_mem.2 ⟨k, (List.mem_filter.1 hk).1⟩
            have hih : i ∉ h := fun hm => by
              have hl2 := (hxl i (hhX i hm)).2 hm
              rw [← hπ1] at hk
              have hl3 := (List.mem_filter.1 hk).2
              have hl4 : (!(listed.getD i false)) = true := hl3
              rw [hl2] at hl4; cases hl4
            have hA : xsOf A <+: xsOf π := by rw [hAC, xsOf_append]; exact List.prefix_append _ _
            have hndA : (xsOf A).Nodup := by
              have h9 : (xsOf π).Nodup := (hnd π hπ).sublist (xsOf_sub π)
              exact h9.sublist hA.sublist
            rcases List.prefix_or_prefix_of_prefix hA hpr with hx | hx
            · exact hih (hx.subset hiA)
            · obtain ⟨s, hs2⟩ := hx
              have hsne : s ≠ [] := fun e => by
                rw [e, List.append_nil] at hs2
                rw [← hs2] at hiA; exact hih hiA
              obtain ⟨i0, hi0⟩ : ∃ i0, s.getLast? = some i0 := by
                cases hq : s.getLast? with
                | none => rw [List.getLast?_eq_none_iff] at hq; exact absurd hq hsne
                | some u => exact ⟨u, rfl⟩
              have hl0 : (xsOf A).getLast? = some i0 := by rw [← hs2, List.getLast?_append, hi0]; rfl
              have hsu : succB T i0 j' = true := by
                have hll := hlast π hπ
                rw [hAC] at hll
                exact lastB_at hll i0 (by simpa using hl0)
              have hi0s : i0 ∈ s := List.mem_of_getLast? hi0
              have hi0h : i0 ∉ h := fun hm => by
                rw [← hs2, List.nodup_append] at hndA
                exact hndA.2.2 i0 hm i0 hi0s rfl
              have hi0A : i0 ∈ xsOf A := by rw [← hs2]; exact List.mem_append_right _ hi0s
              have hi0π : i0 ∈ xsOf π := hA.subset hi0A
              have hi0r : i0 < ops.size := by
                obtain ⟨k', hk'⟩ := xsOf_mem.1 hi0π
                exact hrg π hπ _ hk'
              have hli := succ_listed hT hcl j' o ho hallE i0 hi0r hsu
              exact hi0h ((hxl i0 ((hX π hπ i0).1 hi0π)).1 hli)
        · rw [remL_set (by omega), hs, ← hij]
          rw [hs] at hndr
          exact filter_split hndr
      have hclosed : Closed ops (listed.setIfInBounds j true) := by
        intro m om hm hml e he hb
        by_cases hmj : m = j
        · subst hmj
          rw [ho] at hm; cases hm
          exact getD_set_true (hallE e he hb)
        · rw [getD_set_ne false (Ne.symm hmj)] at hml
          exact getD_set_true (hcl m om hm hml e he hb)
      have hlen : ∀ π ∈ F, (remL (listed.setIfInBounds j true) π).length = n := fun π hπ => by
        obtain ⟨it, π1, π2, _, hs, _, _, _, he⟩ := split π hπ
        have := hl π hπ
        rw [hs] at this
        rw [he]
        simp at this ⊢; omega
      obtain ⟨σ0, hσR, hσF⟩ := hex
      have hAX : A ∈ X := (hX _ hσF A).1 (xsOf_mem.2 ⟨kp, by simp⟩)
      have hAlt : A < ops.size := hrg _ hσF (.x A kp) (by simp)
      have hAun : h = [] → listed.getD A false = false := fun he => by
        cases hq : listed.getD A false with
        | false => rfl
        | true => have := (hxl A hAX).1 hq; rw [he] at this; cases this
      have hσun : h = [] → ∀ σ ∈ R, (∀ it ∈ σ, it.i < ops.size) → remL listed σ = σ := fun he σ hσ hlt => by
        unfold remL
        rw [List.filter_eq_self]
        intro it hit
        cases hq : listed.getD it.i false with
        | false => rfl
        | true =>
          exfalso
          rcases hAσ σ hσ it hit with hx | hx
          · have := (hxl it.i hx).1 hq; rw [he] at this; cases this
          · have hoi := Array.getElem?_eq_getElem (hlt it hit)
            have := succ_listed hT hcl it.i _ hoi (fun e hem hb => hcl it.i _ hoi hq e hem hb) A hAlt hx
            rw [hAun he] at this; cases this
      have hrq : h = [] → remL listed (qs ++ [.x A kp]) = remL listed qs ++ [.x A kp] := fun he => by
        rw [remL_app, remL_un (hAun he)]; rfl
      unfold wpOpIn
      simp only [ho]
      by_cases hjX : j ∈ X
      · have hjh : j ∉ h := fun hm => by
          have := (hxl j hjX).2 hm
          rw [h1'] at this; cases this
        obtain ⟨πc, hπc, hprec⟩ : ∃ π' ∈ F, (h ++ [j]) <+: xsOf π' := by
          rcases hcov π0 hπ0 h hpre0 j hjX with hh | ⟨i, hiX, his, hih⟩ | hh
          · exact absurd hh hjh
          · have hir : i < ops.size := by
              obtain ⟨k, hk⟩ := xsOf_mem.1 ((hX π0 hπ0 i).2 hiX)
              exact hrg π0 hπ0 _ hk
            have := succ_listed hT hcl j o ho hallE i hir his
            exact absurd ((hxl i hiX).1 this) hih
          · exact hh
        have hh' : ∀ j' ∈ X, ((listed.setIfInBounds j true).getD j' false = true ↔ j' ∈ h ++ [j]) := fun j' hj' => by
          by_cases e : j' = j
          · subst e
            rw [getD_set_self (by omega)]; simp
          · rw [getD_set_ne false (Ne.symm e), hxl j' hj']; simp [e]
        have hhX' : ∀ i ∈ h ++ [j], i ∈ X := fun i hi => by
          rcases List.mem_append.1 hi with hi | hi
          · exact hhX i hi
          · rw [List.mem_singleton.1 hi]; exact hjX
        have hone : ∀ π ∈ F, (h ++ [j]) <+: xsOf π → ((Region.wanted o (yielded ops a.tmps) = true ∧ o.wpIn (Fr ρ) 0 P a w (fun a' w' => Can P ρ ops Q (remL (listed.setIfInBounds j true) π) W a' w') Q0) ∨
            (Region.wanted o (yielded ops a.tmps) = false ∧ Can P ρ ops Q (remL (listed.setIfInBounds j true) π) W (a.put o.dst undef) w)) := fun π hπ hpre => by
          obtain ⟨it, π1, π2, hij, hs, hmem, hfirst, hxk, he⟩ := split π hπ
          obtain ⟨kp0, hk0⟩ := xsOf_mem.1 ((hX π hπ j).2 hjX)
          have hitx : it = .x j kp0 := inj_map (hnd π hπ) hmem hk0 hij
          subst hitx
          have hpre1 : h <+: xsOf π := (List.prefix_append h [j]).trans hpre
          have hno : ∀ i k, CanIt.x i k ∈ π1 → False := fun i k hk => by
            obtain ⟨t, ht⟩ := hpre
            have e1 : xsOf (remL listed π) = (xsOf π).filter (fun i => !(listed.getD i false)) := xsOf_filter (fun i => !(listed.getD i false)) π
            have e2 : (xsOf π).filter (fun i => !(listed.getD i false)) = j :: t.filter (fun i => !(listed.getD i false)) := by
              rw [← ht, List.filter_append, List.filter_append]
              have e3 : h.filter (fun i => !(listed.getD i false)) = [] := by
                rw [List.filter_eq_nil_iff]
                intro i hi
                rw [(hxl i (hhX i hi)).2 hi]; simp
              rw [e3, List.nil_append, List.filter_cons_of_pos (by rw [h1']; rfl)]; rfl
            have hndx : (xsOf (remL listed π)).Nodup := ((hnd π hπ).sublist (List.filter_sublist.map _)).sublist (xsOf_sub _)
            have e4 : xsOf π1 ++ (j :: xsOf π2) = j :: t.filter (fun i => !(listed.getD i false)) := by
              rw [← e2, ← e1, hs, xsOf_append]; rfl
            rw [hs, xsOf_append] at hndx
            have hne : xsOf π1 ≠ [] := List.ne_nil_of_mem (xsOf_mem.2 ⟨k, hk⟩)
            cases hx1 : xsOf π1 with
            | nil => exact hne hx1
            | cons b l1 =>
              rw [hx1, List.cons_append, List.cons.injEq] at e4
              rw [hx1, e4.1] at hndx
              have : (j :: (l1 ++ (j :: xsOf π2))).Nodup := hndx
              rw [List.nodup_cons] at this
              exact this.1 (by simp)
          have hc := hcan π hπ hpre1
          rw [hs] at hc
          obtain ⟨o', ho', hx⟩ := can_first (.x j kp0) π2 π1 (hfirst hno) hc
          have ho2 : ops[j]? = some o' := ho'
          rw [ho] at ho2; cases ho2
          rw [he]
          rcases hx with ⟨hw, hc⟩ | hx
          · exact .inl ⟨hw, wp_monoK (fun a' w' hh => hh.2) hc⟩
          · exact .inr hx
        rcases hone πc hπc hprec with ⟨hw, hwp⟩ | ⟨hw, _⟩
        · rw [if_pos hw]
          have hall2 : ∀ π ∈ F, (h ++ [j]) <+: xsOf π → o.wpIn (Fr ρ) 0 P a w (fun a' w' => Can P ρ ops Q (remL (listed.setIfInBounds j true) π) W a' w') Q0 := fun π hπ hpre => by
            rcases hone π hπ hpre with ⟨_, hh⟩ | ⟨hw', _⟩
            · exact hh
            · rw [hw] at hw'; cases hw'
          have hconj : o.wpIn (Fr ρ) 0 P a w (fun a' w' => ∀ π ∈ F, (h ++ [j]) <+: xsOf π → Can P ρ ops Q (remL (listed.setIfInBounds j true) π) W a' w') Q0 := by
            by_cases hAA : h = [] ∧ j = A
            · obtain ⟨rfl, rfl⟩ := hAA
              have hR := hRinv rfl
              rw [hrq rfl] at hR
              obtain ⟨it, π1, π2, hij, hs, hmem, hfirst, _, _⟩ := split _ hσF
              have hit : it = .x j kp := inj_map (hnd _ hσF) hmem (by simp) hij
              subst hit
              rw [remL_app, remL_un (hAun rfl)] at hs
              have hndr : ((remL listed qs ++ CanIt.x j kp :: remL listed σ0).map (·.i)).Nodup := by
                have := (hnd _ hσF).sublist ((List.filter_sublist (p := fun it : CanIt => !(listed.getD it.i false))).map _)
                have e : (qs ++ .x j kp :: σ0).filter (fun it : CanIt => !(listed.getD it.i false)) = remL listed qs ++ .x j kp :: remL listed σ0 := by
                  show remL listed _ = _
                  rw [remL_app, remL_un (hAun rfl)]
                rwa [e] at this
              obtain ⟨e1, _, _⟩ := split_uniq hs rfl hndr
              subst e1
              have hno : ∀ i k, CanIt.x i k ∈ remL listed qs → False := fun i k hk => by
                obtain ⟨m, hm⟩ := hqs _ (List.mem_filter.1 hk).1
                cases hm
              obtain ⟨o', ho', hx⟩ := canR_first (.x j kp) [] (remL listed qs) (hfirst hno) hR
              have ho2 : ops[j]? = some o' := ho'
              rw [ho] at ho2; cases ho2
              rcases hx with ⟨_, hx⟩ | ⟨hx, _⟩
              · refine wp_monoK (fun a' w' hh π hπ hpre => ?_) hx
                obtain ⟨σ, hσ, rfl⟩ := hA0 π hπ hpre
                have hc := canR_all hσ hh.2
                rw [List.append_nil] at hc
                have hσe := hσun rfl σ hσ (fun it hit => hrg _ hπ it (by simp [hit]))
                have hndp : ((remL listed qs ++ CanIt.x j kp :: σ).map (·.i)).Nodup := by
                  have := (hnd _ hπ).sublist ((List.filter_sublist (p := fun it : CanIt => !(listed.getD it.i false))).map _)
                  have e : (qs ++ .x j kp :: σ).filter (fun it : CanIt => !(listed.getD it.i false)) = remL listed qs ++ .x j kp :: σ := by
                    show remL listed _ = _
                    rw [remL_app, remL_un (hAun rfl), hσe]
                  rwa [e] at this
                rw [remL_set (by omega), remL_app, remL_un (hAun rfl), hσe]
                have := filter_split hndp
                rw [show (CanIt.x j kp).i = j from rfl] at this
                rw [this]; exact hc
              · rw [hw] at hx; cases hx
            by_cases hv : isV o = true
            · refine ⟨fun _ _ => trivial, ?_⟩
              have hc0 := hwp.2
              have hca := fun π hπ hpre => (hall2 π hπ hpre).2
              rw [Oper.semAt_eq _ _ _ (plain_def (hpl _ _ ho))] at hc0 ⊢
              simp only [Oper.semAt_eq _ _ _ (plain_def (hpl _ _ ho))] at hca
              cases hr : (execOp a.eval o).run P w with
              | ok x w' =>
                obtain ⟨v, rfl⟩ := isV_shape hv hr
                rw [hr] at hc0
                simp only [hr] at hca
                simp only [Oper.uponIn] at hc0 hca ⊢
                exact fun π hπ hpre => hca π hπ hpre
              | halt x w' =>
                rw [hr] at hc0
                cases x <;> simp only [Oper.uponIn] at hc0 ⊢ <;> exact hc0
            · refine wp_monoK (fun a' w' hh π hπ hpre => ?_) hwp
              have hrem : ∀ π : List CanIt, remL (listed.setIfInBounds j true) π = (π.filter fun it => !(h ++ [j]).contains it.i).filter (fun it => !((listed.setIfInBounds j true).getD it.i false)) := fun π => by
                unfold remL
                rw [List.filter_filter]
                congr 1
                funext k
                by_cases hk : (h ++ [j]).contains k.i = true
                · have hkm : k.i ∈ h ++ [j] := by simpa using hk
                  rw [(hh' k.i (hhX' _ hkm)).2 hkm]; simp
                · have : (h ++ [j]).contains k.i = false := by simpa using hk
                  rw [this]; simp
              rcases hsing π hπ πc hπc h j hpre hprec with hAA' | ⟨o', ho', hv'⟩ | he
              · exact absurd hAA' hAA
              · rw [ho] at ho'; cases ho'; exact absurd hv' hv
              · rw [hrem π, he, ← hrem πc]; exact hh
          exact q0_mono (wp_monoK (fun a' w' hh => ih (h ++ [j]) W _ a' w' hlen hclosed (by simp [hsz]) hh' hhX' ⟨πc, hπc, hprec⟩ hh (fun he => absurd he (by simp))) hconj)
        · rw [if_neg (by simp [hw])]
          refine ⟨fun _ _ => trivial, ih (h ++ [j]) W _ _ _ hlen hclosed (by simp [hsz]) hh' hhX' ⟨πc, hπc, hprec⟩ (fun π hπ hpre => ?_) (fun he => absurd he (by simp))⟩
          rcases hone π hπ hpre with ⟨hw', _⟩ | ⟨_, hc⟩
          · rw [hw] at hw'; cases hw'
          · exact hc
      · -- a quiet one
        have hh' : ∀ j' ∈ X, ((listed.setIfInBounds j true).getD j' false = true ↔ j' ∈ h) := fun j' hj' => by
          have hne : j' ≠ j := fun e => hjX (e ▸ hj')
          rw [getD_set_ne false (Ne.symm hne)]
          exact hxl j' hj'
        have hone : ∀ π ∈ F, h <+: xsOf π → ((Region.wanted o (yielded ops a.tmps) = true ∧ ∃ v, (execOp a.eval o).run P w = .ok (.value v) w ∧ Can P ρ ops Q (remL (listed.setIfInBounds j true) π) W (a.put o.dst v) w) ∨
            (Region.wanted o (yielded ops a.tmps) = false ∧ Can P ρ ops Q (remL (listed.setIfInBounds j true) π) W (a.put o.dst undef) w)) := fun π hπ hpre => by
          obtain ⟨it, π1, π2, hij, hs, hmem, hfirst, hxk, he⟩ := split π hπ
          have hq : it = .q j := by
            cases it with
            | q j' => rw [← hij]; rfl
            | x j' kp => exact absurd ((hX π hπ j).1 (xsOf_mem.2 ⟨kp, by rw [← hij]; exact hmem⟩)) hjX
          subst hq
          have hno : ∀ i k, CanIt.x i k ∈ π1 → False := fun i k hk => by obtain ⟨kp, hkp⟩ := hxk hpre i k hk; cases hkp
          have hc := hcan π hπ hpre
          rw [hs] at hc
          obtain ⟨o', ho', hx⟩ := can_first (.q j) π2 π1 (hfirst hno) hc
          have ho2 : ops[j]? = some o' := ho'
          rw [ho] at ho2; cases ho2
          rw [he]; exact hx
        have honeR : h = [] → ((Region.wanted o (yielded ops a.tmps) = true ∧ ∃ v, (execOp a.eval o).run P w = .ok (.value v) w ∧ CanR P ρ ops Q R (remL (listed.setIfInBounds j true) (qs ++ [.x A kp])) W (a.put o.dst v) w) ∨
            (Region.wanted o (yielded ops a.tmps) = false ∧ CanR P ρ ops Q R (remL (listed.setIfInBounds j true) (qs ++ [.x A kp])) W (a.put o.dst undef) w)) := fun he0 => by
          have hR := hRinv he0
          obtain ⟨it, π1, π2, hij, hs, hmem, hfirst, hxk, _⟩ := split _ hσF
          have hq : it = .q j := by
            cases it with
            | q j' => rw [← hij]; rfl
            | x j' kp' => exact absurd ((hX _ hσF j).1 (xsOf_mem.2 ⟨kp', by rw [← hij]; exact hmem⟩)) hjX
          subst hq
          have hno : ∀ i k, CanIt.x i k ∈ π1 → False := fun i k hk => by obtain ⟨kp, hkp⟩ := hxk (by rw [he0]; exact List.nil_prefix) i k hk; cases hkp
          have hqm : CanIt.q j ∈ qs := by
            rcases List.mem_append.1 hmem with hm | hm
            · exact hm
            · rcases List.mem_cons.1 hm with hm | hm
              · cases hm
              · exfalso
                rcases hAσ σ0 hσR _ hm with hx | hx
                · exact hjX hx
                · have := succ_listed hT hcl j o ho hallE A hAlt hx
                  rw [hAun he0] at this; cases this
          obtain ⟨q1, q2, rfl⟩ := List.append_of_mem hqm
          have e1 : remL listed (q1 ++ .q j :: q2 ++ [.x A kp]) = remL listed q1 ++ .q j :: (remL listed q2 ++ [.x A kp]) := by
            rw [hrq he0, remL_app, remL_un (show listed.getD (CanIt.q j).i false = false from h1'), List.append_assoc]; rfl
          have e2 : remL listed (q1 ++ .q j :: q2 ++ .x A kp :: σ0) = remL listed q1 ++ .q j :: (remL listed q2 ++ .x A kp :: remL listed σ0) := by
            rw [remL_app, remL_app, remL_un (show listed.getD (CanIt.q j).i false = false from h1'), remL_un (hAun he0), List.append_assoc]; rfl
          have hndr : ((remL listed q1 ++ CanIt.q j :: (remL listed q2 ++ CanIt.x A kp :: remL listed σ0)).map (·.i)).Nodup := by
            have := (hnd _ hσF).sublist ((List.filter_sublist (p := fun it : CanIt => !(listed.getD it.i false))).map _)
            have e : (q1 ++ .q j :: q2 ++ .x A kp :: σ0).filter (fun it : CanIt => !(listed.getD it.i false)) = remL listed q1 ++ .q j :: (remL listed q2 ++ .x A kp :: remL listed σ0) := e2
            rwa [e] at this
          rw [e2] at hs
          obtain ⟨e3, _, _⟩ := split_uniq hs rfl hndr
          subst e3
          rw [e1] at hR
          obtain ⟨o', ho', hx⟩ := canR_first (.q j) (remL listed q2 ++ [.x A kp]) (remL listed q1) (hfirst hno) hR
          have ho2 : ops[j]? = some o' := ho'
          rw [ho] at ho2; cases ho2
          have hnd2 : ((remL listed q1 ++ CanIt.q j :: (remL listed q2 ++ [CanIt.x A kp])).map (·.i)).Nodup := by
            refine hndr.sublist (List.Sublist.map _ (List.Sublist.append_left (List.Sublist.cons_cons _ (List.Sublist.append_left (List.Sublist.cons_cons _ (List.nil_sublist _)) _)) _))
          rw [remL_set (by omega), e1]
          have := filter_split hnd2
          rw [show (CanIt.q j).i = j from rfl] at this
          rw [this]; exact hx
        rcases hone π0 hπ0 hpre0 with ⟨hw, v, hr, _⟩ | ⟨hw, _⟩
        · rw [if_pos hw]
          refine ⟨fun _ _ => trivial, ?_⟩
          rw [Oper.semAt_eq _ _ _ (plain_def (hpl _ _ ho)), hr]
          refine ih h W _ _ _ hlen hclosed (by simp [hsz]) hh' hhX ⟨π0, hπ0, hpre0⟩ (fun π hπ hpre => ?_) (fun he0 => ?_)
          · rcases hone π hπ hpre with ⟨_, v', hr', hc⟩ | ⟨hw', _⟩
            · rw [hr] at hr'; cases hr'; exact hc
            · rw [hw] at hw'; cases hw'
          · rcases honeR he0 with ⟨_, v', hr', hc⟩ | ⟨hw', _⟩
            · rw [hr] at hr'; cases hr'; exact hc
            · rw [hw] at hw'; cases hw'
        · rw [if_neg (by simp [hw])]
          refine ⟨fun _ _ => trivial, ih h W _ _ _ hlen hclosed (by simp [hsz]) hh' hhX ⟨π0, hπ0, hpre0⟩ (fun π hπ hpre => ?_) (fun he0 => ?_)⟩
          · rcases hone π hπ hpre with ⟨hw', _⟩ | ⟨_, hc⟩
            · rw [hw] at hw'; cases hw'
            · exact hc
          · rcases honeR he0 with ⟨hw', _⟩ | ⟨_, hc⟩
            · rw [hw] at hw'; cases hw'
            · exact hc
def isQ : CanIt → Bool
  | .q _ => true
  | .x _ _ => false
def singA (ops : Array Oper) (F : List (List CanIt)) (A : Nat) : Bool := F.all fun π => F.all fun π' => (List.range (xsOf π).length).all fun m =>
  !(((xsOf π).take (m + 1)).isPrefixOf (xsOf π')) || (m == 0 && (xsOf π)[0]? == some A) || (match (xsOf π)[m]?.bind (fun j => ops[j]?) with | some o => isV o | none => false) || itsB (π.filter fun it => !((xsOf π).take (m + 1)).contains it.i) (π'.filter fun it => !((xsOf π).take (m + 1)).contains it.i)
def famA (ops : Array Oper) (X : List Nat) (A : Nat) (qs : List CanIt) (kp : List Nat) (R F2 : List (List CanIt)) : Bool :=
  let T := Region.before ops
  let F := R.map (fun σ => qs ++ .x A kp :: σ) ++ F2
  edgesB ops && closedB ops T && ops.toList.all plainOp && (F.all fun π => nodupB (π.map (·.i)) && (π.all fun it => Nat.blt it.i ops.size) && (pairsG ops T π && lastB T none π) && ((List.range ops.size).all fun i => (π.map (·.i)).contains i) && π.length == ops.size && ((xsOf π).all fun i => X.contains i) && (X.all fun i => (xsOf π).contains i))
  && covB T X F && singA ops F A && (!R.isEmpty && qs.all isQ && (R.all fun σ => σ.all fun it => X.contains it.i || succB T A it.i) && (F2.all fun π => !((xsOf π)[0]? == some A)))
theorem can_regionA {id : Nat} {l : List Oper} {X : List Nat} {A : Nat} {qs : List CanIt} {kp : List Nat} {F2 : List (List CanIt)} (hm : P.follows .mixedOrders = true) (hc : famA l.toArray X A qs kp R F2 = true) {a : Act} {w : World} (h : CanR P ρ l.toArray Q R (qs ++ [.x A kp]) [] a { w with drawn := w.drawn + 1 }) (h2 : ∀ π ∈ F2, Can P ρ l.toArray Q π [] a { w with drawn := w.drawn + 1 }) :
    (Code.region id l.toArray true).wpIn (Fr ρ) 0 P Q a w := by
  obtain ⟨F, hFe⟩ : ∃ F, F = R.map (fun σ => qs ++ .x A kp :: σ) ++ F2 := ⟨_, rfl⟩
  simp only [famA, ← hFe, Bool.and_eq_true, List.all_eq_true, Bool.not_eq_true', List.mem_range] at hc
  obtain ⟨⟨⟨⟨⟨⟨hE, hT⟩, hpl⟩, hall⟩, hcov⟩, hsing⟩, ⟨⟨hRne, hqs⟩, hRx⟩, hF2⟩ := hc
  obtain ⟨σ0, hσ0⟩ : ∃ σ, σ ∈ R := by
    cases hR : R with
    | nil => rw [hR] at hRne; cases hRne
    | cons σ R' => exact ⟨σ, List.mem_cons_self⟩
  have hσF : qs ++ .x A kp :: σ0 ∈ F := by rw [hFe]; exact List.mem_append_left _ (List.mem_map.2 ⟨σ0, hσ0, rfl⟩)
  have hne : F ≠ [] := List.ne_nil_of_mem hσF
  have hcanF : ∀ π ∈ F, Can P ρ l.toArray Q π [] a { w with drawn := w.drawn + 1 } := fun π hπ => by
    rw [hFe] at hπ
    rcases List.mem_append.1 hπ with hπ | hπ
    · obtain ⟨σ, hσ, rfl⟩ := List.mem_map.1 hπ
      have := canR_all hσ h
      rwa [List.append_assoc] at this
    · exact h2 π hπ
  have hqq : ∀ it ∈ qs, ∃ i, it = .q i := fun it hit => by
    have := hqs it hit
    cases it with
    | q i => exact ⟨i, rfl⟩
    | x i k => cases this
  have hnd : ∀ π ∈ F, (π.map (·.i)).Nodup := fun π hπ => nodup_of (hall π hπ).1.1.1.1.1.1
  have hrg : ∀ π ∈ F, ∀ it ∈ π, it.i < l.toArray.size := fun π hπ it hit => by
    have := (hall π hπ).1.1.1.1.1.2 it hit
    simpa [Nat.blt_eq] using this
  have hlen : ∀ π ∈ F, π.length = l.toArray.size := fun π hπ => by simpa using (hall π hπ).1.1.2
  have hcont : ∀ (L : List Nat) (j : Nat), L.contains j = true ↔ j ∈ L := fun L j => by simp
  have hX : ∀ π ∈ F, ∀ j, j ∈ xsOf π ↔ j ∈ X := fun π hπ j => ⟨fun hj => (hcont _ _).1 ((hall π hπ).1.2 j hj), fun hj => (hcont _ _).1 ((hall π hπ).2 j hj)⟩
  have hpre : ∀ {L h : List Nat}, h <+: L → L.take h.length = h ∧ h.length ≤ L.length := fun {L h} ⟨t, ht⟩ => by
    rw [← ht]; simp
  have h0 : ∀ (π : List CanIt), remL (Array.replicate l.toArray.size false) π = π := fun π => by
    unfold remL
    rw [List.filter_eq_self]
    intro it _
    have : (Array.replicate l.toArray.size false).getD it.i false = false := by simp [Array.getD]
    rw [this]; rfl
  refine wpIn_region_any hm (can_famA (X := X) (F := F) (A := A) (qs := qs) (kp := kp) (R := R) (by simpa [List.all_eq_true] using hpl) hE hT hne hnd hrg (fun π hπ => pairsG_pw (hall π hπ).1.1.1.1.2.1) (fun π hπ => (hall π hπ).1.1.1.1.2.2) (fun π hπ i hi => (hcont _ _).1 ((hall π hπ).1.1.1.2 i hi)) hX ?_ ?_ ?_ hqq ⟨σ0, hσ0, hσF⟩ (fun σ hσ it hit => ?_) _ [] [] _ a _ (fun π hπ => by rw [h0]; exact hlen π hπ) ?_ (by simp) ?_ (by simp) ?_ (fun π hπ _ => by rw [h0]; exact hcanF π hπ) (fun _ => by rw [h0]; exact h))
  · intro π hπ h' hp j hj
    obtain ⟨e1, e2⟩ := hpre hp
    simp only [covB, List.all_eq_true, List.mem_range] at hcov
    have := hcov π hπ h'.length (by omega) j hj
    rw [e1] at this
    simp only [Bool.or_eq_true, List.any_eq_true, Bool.and_eq_true, Bool.not_eq_true'] at this
    rcases this with (hh | ⟨i, hi, hs, hn⟩) | ⟨π', hπ', hh⟩
    · exact .inl ((hcont _ _).1 hh)
    · exact .inr (.inl ⟨i, hi, hs, fun hm => by rw [(hcont _ _).2 hm] at hn; cases hn⟩)
    · exact .inr (.inr ⟨π', hπ', List.isPrefixOf_iff_prefix.1 hh⟩)
  · intro π hπ π' hπ' h' j hp hp'
    obtain ⟨e1, e2⟩ := hpre hp
    have e3 : (h' ++ [j]).length = h'.length + 1 := by simp
    rw [e3] at e1 e2
    simp only [singA, List.all_eq_true, List.mem_range] at hsing
    have hg : (xsOf π)[h'.length]? = some j := by
      obtain ⟨t, ht⟩ := hp
      rw [← ht]; simp
    have := hsing π hπ π' hπ' h'.length (by omega)
    rw [e1, hg, List.isPrefixOf_iff_prefix.2 hp'] at this
    simp only [Bool.not_true, Bool.false_or, Bool.or_eq_true, Option.bind_some] at this
    rcases this with (hh | hh) | hh
    · left
      simp only [Bool.and_eq_true, beq_iff_eq] at hh
      have hh0 : h' = [] := List.eq_nil_of_length_eq_zero (by simpa using hh.1)
      refine ⟨hh0, ?_⟩
      rw [hh0] at hg
      rw [show ([] : List Nat).length = 0 from rfl, hh.2] at hg
      exact (Option.some.inj hg).symm
    · right; left
      cases ho : l.toArray[j]? with
      | none => rw [ho] at hh; cases hh
      | some o => rw [ho] at hh; exact ⟨o, rfl, hh⟩
    · exact .inr (.inr (itsB_eq hh))
  · intro π hπ hpA
    rw [hFe] at hπ
    rcases List.mem_append.1 hπ with hπ | hπ
    · obtain ⟨σ, hσ, rfl⟩ := List.mem_map.1 hπ
      exact ⟨σ, hσ, rfl⟩
    · exfalso
      have := hF2 π hπ
      obtain ⟨t, ht⟩ := hpA
      rw [← ht] at this
      simp at this
  · have := hRx σ hσ it hit
    simp only [Bool.or_eq_true] at this
    exact this.imp (fun hh => (hcont _ _).1 hh) (fun hh => hh)
  · intro j o _ hl
    simp [Array.getD] at hl
  · intro j _
    simp [Array.getD]
  · cases hF : F with
    | nil => exact absurd hF hne
    | cons π F' => exact ⟨π, by simp, List.nil_prefix⟩
end
section
variable {P : Program} {ρ : Option Nat} {N : Nat} {D : List Deferred} {E E' : List (Nat × Value)} {L L' R : List HP} {Q : Exit → Act → World → Prop} {l : List Oper} {π : List CanIt} {W : List SW} {keep : List Nat}
  {d : Nat} {op : Op} {ty : TypeId} {pos : String} {af : Array Edge} {S : List (List CanIt)}
def CDR (P : Program) (ρ : Option Nat) (N : Nat) (D : List Deferred) (E : List (Nat × Value)) (l : List Oper) (S : List (List CanIt)) (π : List CanIt) (W : List SW) (Q : Exit → Act → World → Prop) : World → Prop := fun w =>
  l.all (okO N) = true → ∀ a, Rep N D E a → ∀ Ws, WRel N D W Ws → CanR P ρ l.toArray Q S π Ws a w
def CanQR (P : Program) (ρ : Option Nat) (N : Nat) (D : List Deferred) (l : List Oper) (S : List (List CanIt)) (π : List CanIt) (W : List SW) (keep : List Nat) (Q : Exit → Act → World → Prop) : Exit → Act → World → Prop
  | .normal, a, w => l.all (okO N) = true → ∀ Ws, WRel N D W Ws → (∀ p ∈ Ws, p.1 ∈ keep → RunAt P p w) ∧ CanR P ρ l.toArray Q S π Ws a w
  | _, _, _ => False
theorem cdr_q {i : Nat} {v : Value} {g : Option (Nat × Bool)} (n : NthO l i ⟨some d, op, ty, pos, af, g⟩) (hg : ∀ N D a, Rep N D E a → Region.wanted ⟨some d, op, ty, pos, af, g⟩ (yielded l.toArray a.tmps) = true) (x : Rd P L E op v)
    (h : Ht L (CDR P ρ N D ((d, v) :: E) l S π ((i, E, op, v) :: W) Q)) : Ht L (CDR P ρ N D E l S (.q i :: π) W Q) := fun w s ok a r Ws hW => by
  have hd : d < N := by simpa [okO, Nat.blt_eq] using n.ok ok
  exact ⟨_, by simpa using n.h, .inl ⟨hg _ _ a r, v, x.h N D a w r s _ _ _ _ _, h w s ok _ (r.put hd v) _ (.cons r hW)⟩⟩
theorem cdr_x {i : Nat} {dst : Option Nat} {g : Option (Nat × Bool)} (n : NthO l i ⟨dst, op, ty, pos, af, g⟩) (hg : ∀ N D a, Rep N D E a → Region.wanted ⟨dst, op, ty, pos, af, g⟩ (yielded l.toArray a.tmps) = true)
    (h : Ht L (CO P ρ N D E l.toArray [⟨dst, op, ty, pos, af, none⟩] (CanQR P ρ N D l S π W keep Q))) : Ht L (CDR P ρ N D E l S (.x i keep :: π) W Q) := fun w s ok a r Ws hW => by
  have hok := n.ok ok
  have := h w s (by simpa [okO] using hok) a r
  simp only [wpListIn, Region.wanted, if_true] at this
  refine ⟨_, by simpa using n.h, .inl ⟨hg _ _ a r, ?_⟩⟩
  have h2 : (⟨dst, op, ty, pos, af, g⟩ : Oper).wpIn (Fr ρ) 0 P a w (fun a' w' => l.all (okO N) = true → ∀ Ws, WRel N D W Ws → (∀ p ∈ Ws, p.1 ∈ keep → RunAt P p w') ∧ CanR P ρ l.toArray Q S π Ws a' w') Q0 := by
    refine ⟨fun _ _ => trivial, ?_⟩
    have hh := this.2
    have e : (Oper.semAt (Fr ρ).round a.eval ⟨dst, op, ty, pos, af, g⟩) = (Oper.semAt (Fr ρ).round a.eval ⟨dst, op, ty, pos, af, none⟩) := by
      unfold Oper.semAt; cases (Fr ρ).round <;> cases op <;> rfl
    rw [e]
    generalize (Oper.semAt (Fr ρ).round a.eval ⟨dst, op, ty, pos, af, none⟩).run P w = rr at *
    have hL : ¬ LetsOut (CanQR P ρ N D l S π W keep Q) := fun ⟨_, _, h⟩ => h
    cases rr with
    | ok x w' =>
      cases x <;> simp only [Oper.uponIn] at hh ⊢ <;> exact hh
    | halt x w' => cases x <;> simp only [Oper.uponIn] at hh ⊢ <;> exact hh.elim
  exact wp_monoK (fun a' w' hh => hh ok Ws hW) h2
theorem cx_canqr (w : ∀ p ∈ W, p.1 ∈ keep → Rd P L p.2.1 p.2.2.1 p.2.2.2) (h : Ht L (CDR P ρ N D E l S π W Q)) : Ht L (CX N D E .normal (CanQR P ρ N D l S π W keep Q)) := fun w' s a r ok Ws hW =>
  ⟨wok_run w hW s, h w' s ok a r Ws hW⟩
instance {i : Nat} {v : Value} [n : NthO l i ⟨some d, op, ty, pos, af, none⟩] [x : Rd P L E op v] : Step (Ht L (CDR P ρ N D E l S (.q i :: π) W Q)) (Ht L (CDR P ρ N D ((d, v) :: E) l S π ((i, E, op, v) :: W) Q)) :=
  ⟨cdr_q n (fun _ _ _ _ => rfl) x⟩
instance {i : Nat} {dst : Option Nat} [n : NthO l i ⟨dst, op, ty, pos, af, none⟩] : Step (Ht L (CDR P ρ N D E l S (.x i keep :: π) W Q)) (Ht L (CO P ρ N D E l.toArray [⟨dst, op, ty, pos, af, none⟩] (CanQR P ρ N D l S π W keep Q))) :=
  ⟨cdr_x n (fun _ _ _ _ => rfl)⟩
instance [w : WOk P L W keep] : Step (Ht L (CX N D E .normal (CanQR P ρ N D l S π W keep Q))) (Ht L (CDR P ρ N D E l S π W Q)) := ⟨cx_canqr w.h⟩
theorem cdr_nil (h : ∀ σ ∈ S, Ht L (CD P ρ N D E l σ W Q)) : Ht L (CDR P ρ N D E l S [] W Q) := fun w s ok a r Ws hW σ hσ => h σ hσ w s ok a r Ws hW
theorem ht_drawA {id : Nat} (X : List Nat) (A : Nat) (qs : List CanIt) (kp : List Nat) (S F2 : List (List CanIt)) (hm : P.follows .mixedOrders = true) (hc : famA l.toArray X A qs kp S F2 = true)
    (h : Ht L (CDR P ρ N D E l S (qs ++ [.x A kp]) [] Q)) (h2 : ∀ π ∈ F2, Ht L (CD P ρ N D E l π [] Q)) : Ht L (CC P ρ N D E (.region id l.toArray true) Q) := fun w s ok a r =>
  can_regionA hm hc (h { w with drawn := w.drawn + 1 } (s.same rfl rfl) (by simpa [okC] using ok) a r [] .nil) (fun π hπ => h2 π hπ { w with drawn := w.drawn + 1 } (s.same rfl rfl) (by simpa [okC] using ok) a r [] .nil)
end
end Go.SL
namespace Go.Proofs
open Go Go.SL
attribute [local irreducible] CCall CO CC CX CD
theorem mayPost_spec {L L1 M K b} {k : Nat} {x : LgL} {s : Lg} {R : Ros} {n : Nt} {rv : Value} [pl : Pull (isLg b) L x L1] [pr : Pull (isRos x.ros) L1 R M] (st : LgSt R k x s) (orv : One1 rv) (hs : n.name.size ≤ 1000000) (ha : 0 ≤ n.amount ∧ n.amount ≤ bigM)
    (h : Ht (isLg b x :: isRos x.ros R :: M) (K (.int .i64 (may5 R x.hm s n)))) :
    Ht L (CCall Tryz.prog 127 [.pointer (some ⟨b, 0, none⟩), ntV n rv] K) := by
  refine Ht.conseq (L' := isLg b x :: isRos x.ros R :: M) ?_ (fun w s => seps_mono (fun _ a => a) (fun _ t => pr.h _ _ t) (pl.h _ _ s))
  have hbm : bigM = 2147483647 := rfl
  refine ccall2 Tryz.func127 rfl (by decide) Tryz.ntmps127 (by rfl) (by decide) ?_
  repeat (refine stp ?_)
  intro c3
  repeat (refine stp ?_)
  refine mine_spec (x := x) (R := R) st ?_
  unfold may5 at h
  by_cases hm : mineB R x.hm n.name = false
  · rw [if_pos hm] at h
    rewrite [if_pos hm]
    repeat (refine stp ?_)
    try rewrite [show decide ((5 : Int) ≠ 0) = true from rfl]
    repeat (refine stp ?_)
    exact ret1 rfl (Ht.frm h)
  · rw [if_neg hm] at h
    rewrite [if_neg hm]
    repeat (refine stp ?_)
    try rewrite [show decide ((0 : Int) ≠ 0) = false from rfl]
    repeat (refine stp ?_)
    refine LgFits_spec (x := x) (R := R) st hs (by omega) ?_
    repeat (refine stp ?_)
    exact ret1 rfl (Ht.frm h)
theorem mayCall_spec {L L1 M K b} {k : Nat} {x : LgL} {s : Lg} {R : Ros} {n : Nt} {rv : Value} [pl : Pull (isLg b) L x L1] [pr : Pull (isRos x.ros) L1 R M] (st : LgSt R k x s) (orv : One1 rv) (hs : n.name.size ≤ 1000000)
    (h : Ht (isLg b x :: isRos x.ros R :: M) (K (.int .i64 (may6 R x.hm s n)))) :
    Ht L (CCall Tryz.prog 129 [.pointer (some ⟨b, 0, none⟩), ntV n rv] K) := by
  refine Ht.conseq (L' := isLg b x :: isRos x.ros R :: M) ?_ (fun w s => seps_mono (fun _ a => a) (fun _ t => pr.h _ _ t) (pl.h _ _ s))
  have hj := st.ok.calls
  have hk := st.hk
  refine ccall2 Tryz.func129 rfl (by decide) Tryz.ntmps129 (by rfl) (by decide) ?_
  repeat (refine stp ?_)
  intro c3
  repeat (refine stp ?_)
  refine mine_spec (x := x) (R := R) st ?_
  unfold may6 at h
  by_cases hm : mineB R x.hm n.name = false
  · rw [if_pos hm] at h
    rewrite [if_pos hm]
    repeat (refine stp ?_)
    try rewrite [show decide ((5 : Int) ≠ 0) = true from rfl]
    repeat (refine stp ?_)
    exact ret1 rfl (Ht.frm h)
  · rw [if_neg hm] at h
    rewrite [if_neg hm]
    repeat (refine stp ?_)
    try rewrite [show decide ((0 : Int) ≠ 0) = false from rfl]
    repeat (refine stp ?_)
    refine lg_at fun v ov => ?_
    refine ht_draw Tryz.can129x4 Tryz.mixed (by kernel_rfl) ?_
    repeat (refine stp ?_)
    have hfl := hj.js.fl
    have hxl := hj.js.xl
    refine cl_copy (b := x.clb) (lv := v.vl) (tv := v.vf) (g := 1) (e := x.cend) (xs := x.xs) (fs := x.fs) (by rw [st.rp.fs]; exact hj.js.srt) (by rw [st.rp.fs]; exact hj.tru) (by rw [st.rp.fs]; omega) (by rw [st.rp.xs]; omega) fun b2 lv2 tv2 => ?_
    repeat (refine stp ?_)
    refine Member_spec (by omega) ?_
    rewrite [show memS = mS from rfl]
    repeat (refine stp ?_)
    refine Day_spec (x := x) (vp := v.vp) st.plen st.clen ?_
    rewrite [st.rp.ended, show (((endedL s x.hm : Nat) : Int) + 1) = dayL x.hm s from rfl]
    repeat (refine stp ?_)
    refine cl_make (b := b2) (lv := lv2) (tv := tv2) (g := 1) (e := x.cend) (xs := x.xs) (fs := x.fs) (am := n.amount) (on := dayL x.hm s) (by rw [st.rp.fs]; exact hj.js.srt) (by rw [st.rp.fs]; omega) (by rw [st.rp.xs]; omega) fun lv3 => ?_
    rw [← st.rp.xs, ← st.rp.fs, ← st.rp.ce] at h
    repeat (refine stp ?_)
    exact ret1 rfl (lg_close (b := b) (x := x) (R := isRos x.ros R :: M) ov h)
def famMA1 : List (List CanIt) := [[.x 7 [], .q 8, .q 9, .q 10, .x 11 [0, 1, 2, 3, 4, 5, 8, 9, 10], .x 12 [10], .q 13], [.x 11 [0, 1, 2, 3, 4, 5], .x 7 [], .q 8, .q 9, .q 10, .x 12 [10], .q 13]]
def famMA2 : List (List CanIt) := [[.q 0, .q 1, .q 2, .q 3, .q 4, .q 5, .x 11 [0, 1, 2, 3, 4, 5], .x 6 [0, 1, 2, 3], .x 7 [], .q 8, .q 9, .q 10, .x 12 [10], .q 13]]
theorem mayAnswer_spec {L L1 M K b} {k : Nat} {x : LgL} {s : Lg} {R : Ros} {n : Nt} {rv : Value} [pl : Pull (isLg b) L x L1] [pr : Pull (isRos x.ros) L1 R M] (st : LgSt R k x s) (orv : One1 rv) (hs : n.name.size ≤ 1000000)
    (h : Ht (isLg b x :: isRos x.ros R :: M) (K (.int .i64 (may7 R x.hm s n)))) :
    Ht L (CCall Tryz.prog 131 [.pointer (some ⟨b, 0, none⟩), ntV n rv] K) := by
  refine Ht.conseq (L' := isLg b x :: isRos x.ros R :: M) ?_ (fun w s => seps_mono (fun _ a => a) (fun _ t => pr.h _ _ t) (pl.h _ _ s))
  have hj := st.ok.calls
  have hk := st.hk
  have hbm : bigM = 2147483647 := rfl
  have hfl := hj.js.fl
  have hxl := hj.js.xl
  refine ccall2 Tryz.func131 rfl (by decide) Tryz.ntmps131 (by rfl) (by decide) ?_
  repeat (refine stp ?_)
  intro c3
  repeat (refine stp ?_)
  refine mine_spec (x := x) (R := R) st ?_
  unfold may7 at h
  by_cases hm : mineB R x.hm n.name = false
  · rw [if_pos hm] at h
    rewrite [if_pos hm]
    repeat (refine stp ?_)
    try rewrite [show decide ((5 : Int) ≠ 0) = true from rfl]
    repeat (refine stp ?_)
    exact ret1 rfl (Ht.frm h)
  · rw [if_neg hm] at h
    rewrite [if_neg hm]
    repeat (refine stp ?_)
    try rewrite [show decide ((0 : Int) ≠ 0) = false from rfl]
    repeat (refine stp ?_)
    refine ht_cutd .normal (ι := Nat) (fun _ => True) (fun c6 => pto c6 (cells (encCl.f ((opnM (mS ++ n.name) x.xs).getD zCl)) 299) :: isLg b x :: pto c3 (cells (ntC n rv) 63) :: isRos x.ros R :: M) (fun c6 => [(6, .pointer (some ⟨c6, 0, none⟩)), (7, .bool (opnM (mS ++ n.name) x.xs).isSome), (3, .pointer (some ⟨c3, 0, none⟩)), (0, .pointer (some ⟨b, 0, none⟩))]) ?_ ?_
    · intro Q' hQ
      refine lg_at fun v ov => ?_
      refine ht_drawA [6, 7, 11, 12] 6 [.q 0, .q 1, .q 2, .q 3, .q 4, .q 5] [0, 1, 2, 3] famMA1 famMA2 Tryz.mixed (by kernel_rfl) ?_ ?_
      · dsimp only [List.cons_append, List.nil_append]
        repeat (refine stp ?_)
        refine Member_spec (s := n.name) (by omega) ?_
        rewrite [show memS = mS from rfl]
        repeat (refine stp ?_)
        refine cdr_nil fun σ hσ => ?_
        simp only [famMA1, List.mem_cons, List.mem_nil_iff, or_false] at hσ
        rcases hσ with rfl | rfl
        · repeat (refine stp ?_)
          refine cl_open (b := x.clb) (lv := v.vl) (xs := x.xs) (name := mS ++ n.name) (by rw [st.rp.xs]; omega) ?_
          repeat (refine stp ?_)
          intro c6
          repeat (refine stp ?_)
          exact cx_env inferInstance (lg_close (b := b) (x := x) (R := pto c6 (cells (encCl.f ((opnM (mS ++ n.name) x.xs).getD zCl)) 299) :: pto c3 (cells (ntC n rv) 63) :: isRos x.ros R :: M) ov (Ht.frm (hQ c6 trivial)))
        · repeat (refine stp ?_)
          intro c6
          repeat (refine stp ?_)
          refine cl_open (b := x.clb) (lv := v.vl) (xs := x.xs) (name := mS ++ n.name) (by rw [st.rp.xs]; omega) ?_
          repeat (refine stp ?_)
          exact cx_env inferInstance (lg_close (b := b) (x := x) (R := pto c6 (cells (encCl.f ((opnM (mS ++ n.name) x.xs).getD zCl)) 299) :: pto c3 (cells (ntC n rv) 63) :: isRos x.ros R :: M) ov (Ht.frm (hQ c6 trivial)))
      · intro π hπ
        simp only [famMA2, List.mem_cons, List.mem_nil_iff, or_false] at hπ
        subst hπ
        repeat (refine stp ?_)
        intro c6
        repeat (refine stp ?_)
        refine Member_spec (s := n.name) (by omega) ?_
        rewrite [show memS = mS from rfl]
        repeat (refine stp ?_)
        refine cl_open (b := x.clb) (lv := v.vl) (xs := x.xs) (name := mS ++ n.name) (by rw [st.rp.xs]; omega) ?_
        repeat (refine stp ?_)
        exact cx_env inferInstance (lg_close (b := b) (x := x) (R := pto c6 (cells (encCl.f ((opnM (mS ++ n.name) x.xs).getD zCl)) 299) :: pto c3 (cells (ntC n rv) 63) :: isRos x.ros R :: M) ov (Ht.frm (hQ c6 trivial)))
    intro c6 _
    rewrite [st.rp.xs]
    cases ho : opnM (mS ++ n.name) s.xs with
    | none =>
      rw [ho] at h
      rewrite [show (none : Option Cll).isSome = false from rfl]
      repeat (refine stp ?_)
      try rewrite [Bool.not_false]
      repeat (refine stp ?_)
      exact ret1 rfl (Ht.frm h)
    | some y =>
      rw [ho] at h
      dsimp only at h
      rewrite [show (some y : Option Cll).isSome = true from rfl, show (some y : Option Cll).getD zCl = y from rfl]
      have hy := opn_in ho
      have h1 := hj.am y hy
      have h2 := st.rp.cam y hy
      repeat (refine stp ?_)
      try rewrite [Bool.not_true]
      repeat (refine stp ?_)
      refine LgFits_spec (x := x) (R := R) st hs (by omega) ?_
      repeat (refine stp ?_)
      exact ret1 rfl (Ht.frm h)
end Go.Proofs
namespace Go.Proofs
open Go Go.SL
attribute [local irreducible] CCall CO CC CX CD
theorem pr_get {R : Ros} {k : Nat} {x : LgL} {s : Lg} (st : LgSt R k x s) {n : Int} (hp : peerB x.hm s n = true) : ∃ (q : PtL) (P' : List PtL), x.pts.Perm (q :: P') ∧ prBlk x n = some q.blk ∧ ptAt s n = q.pt ∧ (0 ≤ n ∧ n < x.pts.length) ∧ x.pts[n.toNat]! = q := by
  obtain ⟨hn', hnm⟩ := peerB_iff.1 hp
  have hlen := st.rp.len
  have hn : 0 ≤ n ∧ n < x.pts.length := by omega
  obtain ⟨P', hP⟩ := pts_take hn
  exact ⟨x.pts[n.toNat]!, P', hP, prBlk_some hn hnm, st.rp.pt hn, hn, rfl⟩
theorem mayStop_spec {L M K b} {k : Nat} {x : LgL} {s : Lg} {R : Ros} {n : Nt} {rv : Value} [pl : Pull (isLg b) L x M] (st : LgSt R k x s) (orv : One1 rv)
    (h : Ht (isLg b x :: M) (K (.int .i64 (may8 x.hm s n)))) :
    Ht L (CCall Tryz.prog 133 [.pointer (some ⟨b, 0, none⟩), ntV n rv] K) := by
  refine Ht.pull pl ?_
  refine lg_at fun v ov => ?_
  refine ccall2 Tryz.func133 rfl (by decide) Tryz.ntmps133 (by rfl) (by decide) ?_
  repeat (refine stp ?_)
  intro c3
  repeat (refine stp ?_)
  refine peer_spec (x := x) (vp := v.vp) (n := n.peer) st.plen ?_
  unfold may8 at h
  cases hp : peerB x.hm s n.peer with
  | false =>
    rw [hp, if_pos rfl] at h
    rewrite [pr_none st.rp hp, show pv none = .pointer none from rfl]
    repeat (refine stp ?_)
    exact ret1 rfl (lg_close (b := b) (x := x) (R := M) ov h)
  | true =>
    rw [hp, if_neg (show ¬ true = false by decide)] at h
    obtain ⟨q, hpb⟩ := pr_some st.rp hp
    rewrite [hpb, show pv (some q) = .pointer (some ⟨q, 0, none⟩) from rfl]
    repeat (refine stp ?_)
    refine lg_close (b := b) (x := x) (R := pto c3 (cells (ntC n rv) 63) :: M) ov ?_
    refine LgShut_spec (x := x) (R := R) st ?_
    unfold shutB
    rewrite [hp, Bool.true_and]
    cases hs : (ptAt s n.peer).shut with
    | true =>
      rw [hs, if_pos rfl] at h
      repeat (refine stp ?_)
      exact ret1 rfl (Ht.frm h)
    | false =>
      rw [hs, if_neg (by decide)] at h
      repeat (refine stp ?_)
      exact ret1 rfl (Ht.frm h)
theorem mayMark_spec {L M K b} {k : Nat} {x : LgL} {s : Lg} {R : Ros} {n : Nt} {rv : Value} [pl : Pull (isLg b) L x M] (st : LgSt R k x s) (orv : One1 rv)
    (h : Ht (isLg b x :: M) (K (.int .i64 (nextE x.hm s n)))) :
    Ht L (CCall Tryz.prog 137 [.pointer (some ⟨b, 0, none⟩), ntV n rv] K) := by
  refine Ht.pull pl ?_
  refine ccall2 Tryz.func137 rfl (by decide) Tryz.ntmps137 (by rfl) (by decide) ?_
  repeat (refine stp ?_)
  intro c3
  repeat (refine stp ?_)
  refine next_spec (x := x) (R := R) (n := n) (rv := rv) st orv ?_
  repeat (refine stp ?_)
  exact ret1 rfl (Ht.frm h)
theorem mayHalt_spec {L M K b} {k : Nat} {x : LgL} {s : Lg} {R : Ros} {n : Nt} {rv : Value} [pl : Pull (isLg b) L x M] (st : LgSt R k x s) (orv : One1 rv)
    (h : Ht (isLg b x :: M) (K (.int .i64 (may12 x.hm s n)))) :
    Ht L (CCall Tryz.prog 141 [.pointer (some ⟨b, 0, none⟩), ntV n rv] K) := by
  refine Ht.pull pl ?_
  refine lg_at fun v ov => ?_
  refine ccall2 Tryz.func141 rfl (by decide) Tryz.ntmps141 (by rfl) (by decide) ?_
  repeat (refine stp ?_)
  intro c3
  repeat (refine stp ?_)
  refine peer_spec (x := x) (vp := v.vp) (n := n.peer) st.plen ?_
  unfold may12 at h
  cases hp : peerB x.hm s n.peer with
  | false =>
    rw [hp, if_pos rfl] at h
    rewrite [pr_none st.rp hp, show pv none = .pointer none from rfl]
    repeat (refine stp ?_)
    exact ret1 rfl (lg_close (b := b) (x := x) (R := M) ov h)
  | true =>
    rw [hp, if_neg (show ¬ true = false by decide)] at h
    obtain ⟨q, hpb⟩ := pr_some st.rp hp
    rewrite [hpb, show pv (some q) = .pointer (some ⟨q, 0, none⟩) from rfl]
    repeat (refine stp ?_)
    exact ret1 rfl (lg_close (b := b) (x := x) (R := M) ov h)
theorem mayReport_spec {L M K b} {k : Nat} {x : LgL} {s : Lg} {R : Ros} {n : Nt} {rv : Value} [pl : Pull (isLg b) L x M] (st : LgSt R k x s) (orv : One1 rv)
    (h : Ht (isLg b x :: M) (K (.int .i64 (may11 x.hm s n)))) :
    Ht L (CCall Tryz.prog 139 [.pointer (some ⟨b, 0, none⟩), ntV n rv] K) := by
  refine Ht.pull pl ?_
  refine lg_at fun v ov => ?_
  refine ccall2 Tryz.func139 rfl (by decide) Tryz.ntmps139 (by rfl) (by decide) ?_
  repeat (refine stp ?_)
  intro c3
  repeat (refine stp ?_)
  refine peer_spec (x := x) (vp := v.vp) (n := n.peer) st.plen ?_
  unfold may11 at h
  cases hp : peerB x.hm s n.peer with
  | false =>
    rw [hp, if_pos rfl] at h
    rewrite [pr_none st.rp hp, show pv none = .pointer none from rfl]
    repeat (refine stp ?_)
    exact ret1 rfl (lg_close (b := b) (x := x) (R := M) ov h)
  | true =>
    rw [hp, if_neg (show ¬ true = false by decide)] at h
    obtain ⟨q, P', hP, hpb, hpt, hn, hq⟩ := pr_get st hp
    have hrep := (st.ok.rep _ (ptAt_mem (peerB_iff.1 hp).1)).1
    have hrl : (ptAt s n.peer).reports.length = q.reps.length := by rw [hpt]; exact List.length_map _
    have hel := endedL_le st.ok n.peer
    rewrite [hpb, show pv (some q.blk) = .pointer (some ⟨q.blk, 0, none⟩) from rfl]
    repeat (refine stp ?_)
    refine ht_draw Tryz.can139x4 Tryz.mixed (by kernel_rfl) ?_
    repeat (refine stp ?_)
    refine Ht.big_look (f := isPt) hP ?_
    refine pt_open fun vd vr od or => ?_
    repeat (refine stp ?_)
    have hw : IntKind.i64.wrap ((q.reps.length : Int) + 1) = (q.reps.length : Int) + 1 := IntWalk.i64_in _ (by omega)
    refine cd_guardq ?_ ?_ <;> intro h1 <;> simp only [decide_eq_true_eq, decide_eq_false_iff_not] at h1
    · rw [hw] at h1
      rw [if_pos (.inl (by rw [hrl]; exact h1))] at h
      repeat (refine stp ?_)
      refine ret1 rfl ?_
      refine pt_back hP od or ?_
      exact lg_close (b := b) (x := x) (R := M) ov h
    · rw [hw] at h1
      refine pt_back hP od or ?_
      repeat (refine stp ?_)
      refine Ended_spec (x := x) (vp := v.vp) (n := n.peer) st.plen ?_
      repeat (refine stp ?_)
      rewrite [st.rp.ended]
      by_cases h2 : ((endedL s n.peer : Nat) : Int) < n.day
      · rw [if_pos (.inr h2)] at h
        rewrite [decide_eq_true h2]
        repeat (refine stp ?_)
        exact ret1 rfl (lg_close (b := b) (x := x) (R := M) ov h)
      · rw [if_neg (by rw [hrl]; omega)] at h
        rewrite [decide_eq_false h2]
        repeat (refine stp ?_)
        exact ret1 rfl (lg_close (b := b) (x := x) (R := M) ov h)
theorem mayLeg_spec {L L1 M K b} {k : Nat} {x : LgL} {s : Lg} {R : Ros} {n : Nt} {rv : Value} [pl : Pull (isLg b) L x L1] [pr : Pull (isRos x.ros) L1 R M] (st : LgSt R k x s) (orv : One1 rv)
    (h : Ht (isLg b x :: isRos x.ros R :: M) (K (.int .i64 (may9 R x.hm s n)))) :
    Ht L (CCall Tryz.prog 135 [.pointer (some ⟨b, 0, none⟩), ntV n rv] K) := by
  refine Ht.conseq (L' := isLg b x :: isRos x.ros R :: M) ?_ (fun w s => seps_mono (fun _ a => a) (fun _ t => pr.h _ _ t) (pl.h _ _ s))
  refine ccall2 Tryz.func135 rfl (by decide) Tryz.ntmps135 (by rfl) (by decide) ?_
  repeat (refine stp ?_)
  intro c3
  repeat (refine stp ?_)
  refine next_spec (x := x) (R := R) (n := n) (rv := rv) st orv ?_
  unfold may9 at h
  by_cases h0 : nextE x.hm s n ≠ 0
  · rw [if_pos h0] at h
    repeat (refine stp ?_)
    rewrite [decide_eq_true h0]
    repeat (refine stp ?_)
    exact ret1 rfl (Ht.frm h)
  rw [if_neg h0] at h
  repeat (refine stp ?_)
  rewrite [decide_eq_false h0]
  have hp : peerB x.hm s n.peer = true := by
    unfold nextE at h0
    cases hb : peerB x.hm s n.peer with
    | true => rfl
    | false => rw [if_pos hb] at h0; exact absurd (by decide) h0
  repeat (refine stp ?_)
  refine lg_at fun v ov => ?_
  refine ht_draw Tryz.can135x4 Tryz.mixed (by kernel_rfl) ?_
  repeat (refine stp ?_)
  refine RRoute_spec (p := x.ros) (R := R) (t := n.tr) ?_
  repeat (refine stp ?_)
  by_cases hr : routeE R n.tr ≠ 0
  · rw [if_pos hr] at h
    rewrite [decide_eq_true hr]
    repeat (refine stp ?_)
    exact ret1 rfl (lg_close (b := b) (x := x) (R := isRos x.ros R :: M) ov h)
  rw [if_neg hr] at h
  rewrite [decide_eq_false hr]
  have hr0 : routeE R n.tr = 0 := Decidable.not_not.1 hr
  rewrite [if_pos hr0, if_pos hr0]
  repeat (refine stp ?_)
  by_cases hb : homeR R n.tr.buyer ≠ n.peer
  · rw [if_pos (.inl hb)] at h
    rewrite [decide_eq_true hb]
    repeat (refine stp ?_)
    exact ret1 rfl (lg_close (b := b) (x := x) (R := isRos x.ros R :: M) ov h)
  rewrite [decide_eq_false hb]
  repeat (refine stp ?_)
  by_cases hs : homeR R n.tr.seller ≠ x.hm
  · rw [if_pos (.inr hs)] at h
    rewrite [decide_eq_true hs]
    repeat (refine stp ?_)
    exact ret1 rfl (lg_close (b := b) (x := x) (R := isRos x.ros R :: M) ov h)
  rw [if_neg (fun hh => hh.elim hb hs)] at h
  rewrite [decide_eq_false hs]
  repeat (refine stp ?_)
  refine peer_spec (x := x) (vp := v.vp) (n := n.peer) st.plen ?_
  obtain ⟨q, P', hP, hpb, hpt, hn, hq⟩ := pr_get st hp
  rw [hpt] at h
  rewrite [hpb, show pv (some q.blk) = .pointer (some ⟨q.blk, 0, none⟩) from rfl]
  refine Ht.big_look (f := isPt) hP ?_
  refine pt_open fun vd vr od or => ?_
  repeat (refine stp ?_)
  by_cases hl : (2000 : Int) ≤ (q.legs : Int)
  · rw [if_pos (show 2000 ≤ q.pt.legs from by show 2000 ≤ q.legs; omega)] at h
    rewrite [decide_eq_true hl]
    repeat (refine stp ?_)
    refine ret1 rfl ?_
    refine pt_back hP od or ?_
    exact lg_close (b := b) (x := x) (R := isRos x.ros R :: M) ov h
  · rw [if_neg (show ¬ 2000 ≤ q.pt.legs from by show ¬ 2000 ≤ q.legs; omega)] at h
    rewrite [decide_eq_false hl]
    repeat (refine stp ?_)
    refine ret1 rfl ?_
    refine pt_back hP od or ?_
    exact lg_close (b := b) (x := x) (R := isRos x.ros R :: M) ov h
end Go.Proofs
namespace Go.SL
open Go
section
variable {P : Program} {ρ : Option Nat} {N : Nat} {D : List Deferred} {E : List (Nat × Value)} {L L' R : List HP} {Q : Exit → Act → World → Prop} {ops : Array Oper} {rest : List Oper}
  {d : Nat} {ty : TypeId} {pos : String} {af : Array Edge}
instance {T kt et r : Nat} {x k y : Operand} {s : Int} {v : Value} {m : List (Int × Value)} [td : TyD P T (.map kt et)] [tk : TyD P kt (.int .i64)] [ex : Ev E x (.map (some r))] [ek : Ev E k (.int .i64 s)] [ey : Ev E y v] [p : Pull (mapO mkInt r) L m R] :
    Step (Ht L (CO P ρ N D E ops (⟨none, .insert T x k y, ty, pos, af, none⟩ :: rest) Q)) (Ht (mapO mkInt r (mput m s v) :: R) (CO P ρ N D E ops rest Q)) :=
  ⟨co_skip (by intro c h; cases h) fun a w rp sat => by
    obtain ⟨w', hr, hs⟩ := run_update (P := P) (mk := mkInt) td.h tk.h (p.sat sat) s v
    refine ⟨w', ?_, hs⟩
    simp only [execOp, ex.h N D a rp, ek.h N D a rp, ey.h N D a rp, Sem.run_bind]
    show Result.andThen ((Instr.mapUpdate T (.map (some r)) (mkInt.enc s) v).run P w) _ = _
    rw [hr]; rfl⟩
end
end Go.SL
namespace Go.Proofs
open Go Go.SL
attribute [local irreducible] CCall CO CC CX CD
abbrev deedV (a b : Nat) : Value := .agg #[.func (.func a) #[] #[], .func (.func b) #[] #[]]
def deedsM : List (Int × Value) := [(1, deedV 119 120), (2, deedV 121 122), (3, deedV 123 124), (4, deedV 125 126), (5, deedV 127 128), (6, deedV 129 130), (7, deedV 131 132), (8, deedV 133 134), (9, deedV 135 136), (10, deedV 137 138), (11, deedV 139 140), (12, deedV 141 142)]
theorem deeds_spec {L K} (h : ∀ r, Ht (mapO mkInt r deedsM :: L) (K (.map (some r)))) : Ht L (CCall Tryz.prog 53 [] K) := by
  refine ccall0 Tryz.func53 rfl (by decide) Tryz.ntmps53 (by rfl) (by decide) ?_
  repeat (refine stp ?_)
  intro r
  repeat (refine stp ?_)
  exact ret1 rfl (h r)
theorem kind_c {n : Nt} (h : noteE n = 0) : n.kind = 1 ∨ n.kind = 2 ∨ n.kind = 3 ∨ n.kind = 4 ∨ n.kind = 5 ∨ n.kind = 6 ∨ n.kind = 7 ∨ n.kind = 8 ∨ n.kind = 9 ∨ n.kind = 10 ∨ n.kind = 11 ∨ n.kind = 12 := by
  unfold noteE at h
  by_cases c1 : okK n.kind = false
  · rw [if_pos c1] at h; cases h
  have hk : okK n.kind = true := by simpa using c1
  unfold okK at hk
  simp only [Bool.and_eq_true, decide_eq_true_eq] at hk
  omega
theorem nm_size {n : Nt} (h : noteE n = 0) (hk : n.kind = 5 ∨ n.kind = 6 ∨ n.kind = 7) : n.name.size ≤ 1000000 := by
  obtain ⟨_, _, _, nn, _, _⟩ := noteE_parts h
  obtain ⟨f1, _, f3, _⟩ := @fm_k n.kind
  have hf : (fm n.kind).name = true := by
    rcases hk with hk | hk | hk
    · exact (f1 (by omega)).1
    · exact (f1 (by omega)).1
    · exact f3 hk
  have := nn hf
  unfold nameE at this
  rw [if_neg (by omega)] at this
  have := memb_size this
  omega
theorem am_rg {n : Nt} (h : noteE n = 0) (hk : n.kind = 5 ∨ n.kind = 6) : 0 ≤ n.amount ∧ n.amount ≤ bigM := by
  obtain ⟨_, _, _, _, na, _⟩ := noteE_parts h
  obtain ⟨f1, _⟩ := @fm_k n.kind
  have := na (f1 (by omega)).2
  unfold amtB at this
  rw [if_neg (by omega)] at this
  simp only [Bool.and_eq_true, decide_eq_true_eq] at this
  have hb : bigM = 2147483647 := rfl
  omega
theorem May_spec {L L1 M K b} {k : Nat} {x : LgL} {s : Lg} {R : Ros} {n : Nt} {rv : Value} [pl : Pull (isLg b) L x L1] [pr : Pull (isRos x.ros) L1 R M] [rs : RdE M encRw rv n.rows] (st : LgSt R k x s) (hok : NtOk n) (hn : n.rows.length ≤ 1000000)
    (h : Ht (isLg b x :: isRos x.ros R :: M) (K (.int .i64 (mayL R x.hm s n)))) :
    Ht L (CCall Tryz.prog 27 [.pointer (some ⟨b, 0, none⟩), ntV n rv] K) := by
  refine Ht.conseq (L' := isLg b x :: isRos x.ros R :: M) ?_ (fun w s => seps_mono (fun _ a => a) (fun _ t => pr.h _ _ t) (pl.h _ _ s))
  have hrs : ∀ (M' : List HP) [fr : Frm M' M], RdE M' encRw rv n.rows := fun M' fr => ⟨fun w t => rs.h w (fr.h _ _ t)⟩
  refine Ht.know (p := One1 rv) (fun w t => one1_of (rs.h w t.tail.tail)) (fun orv => ?_)
  refine ccall2 Tryz.func27 rfl (by decide) Tryz.ntmps27 (by rfl) (by decide) ?_
  repeat (refine stp ?_)
  intro c3
  repeat (refine stp ?_)
  refine Check_spec (n := n) (rv := rv) hok hn ?_
  unfold mayL at h
  repeat (refine stp ?_)
  by_cases h0 : noteE n ≠ 0
  · rw [if_pos h0] at h
    rewrite [decide_eq_true h0]
    repeat (refine stp ?_)
    exact ret1 rfl (Ht.frm h)
  rw [if_neg h0] at h
  have h0 : noteE n = 0 := Decidable.not_not.1 h0
  have hnm := nm_size h0
  have hamt := am_rg h0
  rewrite [decide_eq_false (show ¬ noteE n ≠ 0 from fun hh => hh h0)]
  repeat (refine stp ?_)
  refine ht_draw Tryz.can27x6 Tryz.mixed (by kernel_rfl) ?_
  repeat (refine stp ?_)
  refine deeds_spec fun r => ?_
  repeat (refine stp ?_)
  rcases kind_c h0 with hk | hk | hk | hk | hk | hk | hk | hk | hk | hk | hk | hk
  · have hK : mayK R x.hm s n = may1 R x.hm s n := by unfold mayK; rw [if_pos hk]
    rw [hK] at h
    rewrite [show (mget deedsM n.kind).getD (.agg #[.nilFunc, .nilFunc]) = deedV 119 120 from by rw [hk]; rfl]
    repeat (refine stp ?_)
    refine mayAccept_spec (x := x) (R := R) (n := n) (rv := rv) st orv ?_
    repeat (refine stp ?_)
    exact ret1 rfl (Ht.frm h)
  · have hK : mayK R x.hm s n = may2 x.hm s := by unfold mayK; rw [if_neg (by omega), if_pos hk]
    rw [hK] at h
    rewrite [show (mget deedsM n.kind).getD (.agg #[.nilFunc, .nilFunc]) = deedV 121 122 from by rw [hk]; rfl]
    repeat (refine stp ?_)
    refine mayCut_spec (x := x) (R := R) (n := n) (rv := rv) st orv ?_
    repeat (refine stp ?_)
    exact ret1 rfl (Ht.frm h)
  · have hK : mayK R x.hm s n = may3 R n := by unfold mayK; rw [if_neg (by omega), if_neg (by omega), if_pos hk]
    rw [hK] at h
    rewrite [show (mget deedsM n.kind).getD (.agg #[.nilFunc, .nilFunc]) = deedV 123 124 from by rw [hk]; rfl]
    repeat (refine stp ?_)
    refine mayPrice_spec (x := x) (R := R) (n := n) (rv := rv) st orv ?_
    repeat (refine stp ?_)
    exact ret1 rfl (Ht.frm h)
  · have hK : mayK R x.hm s n = may4 x.hm s n := by unfold mayK; rw [if_neg (by omega), if_neg (by omega), if_neg (by omega), if_pos hk]
    rw [hK] at h
    rewrite [show (mget deedsM n.kind).getD (.agg #[.nilFunc, .nilFunc]) = deedV 125 126 from by rw [hk]; rfl]
    repeat (refine stp ?_)
    refine maySettle_spec (x := x) (R := R) (n := n) (rv := rv) st orv ?_
    repeat (refine stp ?_)
    exact ret1 rfl (Ht.frm h)
  · have hK : mayK R x.hm s n = may5 R x.hm s n := by unfold mayK; rw [if_neg (by omega), if_neg (by omega), if_neg (by omega), if_neg (by omega), if_pos hk]
    rw [hK] at h
    rewrite [show (mget deedsM n.kind).getD (.agg #[.nilFunc, .nilFunc]) = deedV 127 128 from by rw [hk]; rfl]
    repeat (refine stp ?_)
    refine mayPost_spec (x := x) (R := R) (n := n) (rv := rv) st orv (hnm (by omega)) (hamt (by omega)) ?_
    repeat (refine stp ?_)
    exact ret1 rfl (Ht.frm h)
  · have hK : mayK R x.hm s n = may6 R x.hm s n := by unfold mayK; rw [if_neg (by omega), if_neg (by omega), if_neg (by omega), if_neg (by omega), if_neg (by omega), if_pos hk]
    rw [hK] at h
    rewrite [show (mget deedsM n.kind).getD (.agg #[.nilFunc, .nilFunc]) = deedV 129 130 from by rw [hk]; rfl]
    repeat (refine stp ?_)
    refine mayCall_spec (x := x) (R := R) (n := n) (rv := rv) st orv (hnm (by omega)) ?_
    repeat (refine stp ?_)
    exact ret1 rfl (Ht.frm h)
  · have hK : mayK R x.hm s n = may7 R x.hm s n := by unfold mayK; rw [if_neg (by omega), if_neg (by omega), if_neg (by omega), if_neg (by omega), if_neg (by omega), if_neg (by omega), if_pos hk]
    rw [hK] at h
    rewrite [show (mget deedsM n.kind).getD (.agg #[.nilFunc, .nilFunc]) = deedV 131 132 from by rw [hk]; rfl]
    repeat (refine stp ?_)
    refine mayAnswer_spec (x := x) (R := R) (n := n) (rv := rv) st orv (hnm (by omega)) ?_
    repeat (refine stp ?_)
    exact ret1 rfl (Ht.frm h)
  · have hK : mayK R x.hm s n = may8 x.hm s n := by unfold mayK; rw [if_neg (by omega), if_neg (by omega), if_neg (by omega), if_neg (by omega), if_neg (by omega), if_neg (by omega), if_neg (by omega), if_pos hk]
    rw [hK] at h
    rewrite [show (mget deedsM n.kind).getD (.agg #[.nilFunc, .nilFunc]) = deedV 133 134 from by rw [hk]; rfl]
    repeat (refine stp ?_)
    refine mayStop_spec (x := x) (R := R) (n := n) (rv := rv) st orv ?_
    repeat (refine stp ?_)
    exact ret1 rfl (Ht.frm h)
  · have hK : mayK R x.hm s n = may9 R x.hm s n := by unfold mayK; rw [if_neg (by omega), if_neg (by omega), if_neg (by omega), if_neg (by omega), if_neg (by omega), if_neg (by omega), if_neg (by omega), if_neg (by omega), if_pos hk]
    rw [hK] at h
    rewrite [show (mget deedsM n.kind).getD (.agg #[.nilFunc, .nilFunc]) = deedV 135 136 from by rw [hk]; rfl]
    repeat (refine stp ?_)
    refine mayLeg_spec (x := x) (R := R) (n := n) (rv := rv) st orv ?_
    repeat (refine stp ?_)
    exact ret1 rfl (Ht.frm h)
  · have hK : mayK R x.hm s n = nextE x.hm s n := by unfold mayK; rw [if_neg (by omega), if_neg (by omega), if_neg (by omega), if_neg (by omega), if_neg (by omega), if_neg (by omega), if_neg (by omega), if_neg (by omega), if_neg (by omega), if_pos hk]
    rw [hK] at h
    rewrite [show (mget deedsM n.kind).getD (.agg #[.nilFunc, .nilFunc]) = deedV 137 138 from by rw [hk]; rfl]
    repeat (refine stp ?_)
    refine mayMark_spec (x := x) (R := R) (n := n) (rv := rv) st orv ?_
    repeat (refine stp ?_)
    exact ret1 rfl (Ht.frm h)
  · have hK : mayK R x.hm s n = may11 x.hm s n := by unfold mayK; rw [if_neg (by omega), if_neg (by omega), if_neg (by omega), if_neg (by omega), if_neg (by omega), if_neg (by omega), if_neg (by omega), if_neg (by omega), if_neg (by omega), if_neg (by omega), if_pos hk]
    rw [hK] at h
    rewrite [show (mget deedsM n.kind).getD (.agg #[.nilFunc, .nilFunc]) = deedV 139 140 from by rw [hk]; rfl]
    repeat (refine stp ?_)
    refine mayReport_spec (x := x) (R := R) (n := n) (rv := rv) st orv ?_
    repeat (refine stp ?_)
    exact ret1 rfl (Ht.frm h)
  · have hK : mayK R x.hm s n = may12 x.hm s n := by unfold mayK; rw [if_neg (by omega), if_neg (by omega), if_neg (by omega), if_neg (by omega), if_neg (by omega), if_neg (by omega), if_neg (by omega), if_neg (by omega), if_neg (by omega), if_neg (by omega), if_neg (by omega)]
    rw [hK] at h
    rewrite [show (mget deedsM n.kind).getD (.agg #[.nilFunc, .nilFunc]) = deedV 141 142 from by rw [hk]; rfl]
    repeat (refine stp ?_)
    refine mayHalt_spec (x := x) (R := R) (n := n) (rv := rv) st orv ?_
    repeat (refine stp ?_)
    exact ret1 rfl (Ht.frm h)
end Go.Proofs
namespace Go.Proofs
open Go Go.SL
attribute [local irreducible] CCall CO CC CX CD
abbrev OutL := (Int × Nt) × SVy
@[reducible] def encOt : Enc OutL := ⟨15, fun x => [.int .i64 x.1.1, .int .i64 x.1.2.kind, .int .i64 x.1.2.peer, .int .i64 x.1.2.day, .int .i64 x.1.2.tr.id, .string x.1.2.tr.buyer, .string x.1.2.tr.seller, .string x.1.2.tr.isin, .int .i64 x.1.2.tr.qty, .int .i64 x.1.2.tr.price, .string x.1.2.name, .int .i64 x.1.2.amount, .slice x.2.1 x.2.2.1 x.2.2.2, .int .i64 x.1.2.hi, .int .u64 x.1.2.lo], fun _ => rfl, fun _ v h => by
  simp only [List.mem_cons, List.mem_nil_iff, or_false] at h
  rcases h with rfl | rfl | rfl | rfl | rfl | rfl | rfl | rfl | rfl | rfl | rfl | rfl | rfl | rfl | rfl <;> rfl⟩
def hOt (x : OutL) : HP := own encRw 109 (svY x.2) x.1.2.rows
def isOuts (v : Value) (l : List (Int × Nt)) : HP := exs fun (ls : List OutL) => seps [pur (One1 v ∧ ls.map Prod.fst = l), own encOt 69 v ls, bigO hOt ls]
theorem outs_open {v : Value} {l : List (Int × Nt)} {R : List HP} {G : World → Prop}
    (h : ∀ ls : List OutL, One1 v → ls.map Prod.fst = l → Ht (own encOt 69 v ls :: bigO hOt ls :: R) G) : Ht (isOuts v l :: R) G := by
  refine Ht.exs fun ls => Ht.seps (Ht.pur fun hp => ?_)
  exact h ls hp.1 hp.2
theorem outs_shut {v : Value} {l : List (Int × Nt)} {ls : List OutL} {R : List HP} {w : World} (ov : One1 v) (hl : ls.map Prod.fst = l)
    (sat : Sat (own encOt 69 v ls :: bigO hOt ls :: R) w) : Sat (isOuts v l :: R) w :=
  seps_exs.2 ⟨ls, seps_seps.2 (seps_pur.2 ⟨⟨ov, hl⟩, sat⟩)⟩
theorem outs_nil {R : List HP} {w : World} (t : Sat R w) : Sat (isOuts (.slice none 0 0) [] :: R) w :=
  outs_shut (ls := []) inferInstance rfl (own_nil.2 (bigO_nil.2 t))
theorem outs_one {v : Value} {o : Int × Nt} {sv : SVy} {R : List HP} {w : World} (ov : One1 v) (t : Sat (own encOt 69 v [(o, sv)] :: own encRw 109 (svY sv) o.2.rows :: R) w) : Sat (isOuts v [o] :: R) w := by
  have t2 : Sat (hOt (o, sv) :: own encOt 69 v [(o, sv)] :: R) w := Sat.rot [_] [_] t
  have t3 : Sat (bigO hOt [(o, sv)] :: own encOt 69 v [(o, sv)] :: R) w := (bigO_split (l1 := []) (l2 := [])).2 (seps_mono (fun _ a => a) (fun _ t => bigO_nil.2 t) t2)
  exact outs_shut ov rfl (Sat.rot [_] [_] t3)
theorem outs_one0 {v : Value} {o : Int × Nt} {R : List HP} {w : World} (ov : One1 v) (ho : o.2.rows = []) (t : Sat (own encOt 69 v [(o, ((none, 0, 0) : SVy))] :: R) w) : Sat (isOuts v [o] :: R) w :=
  outs_one (sv := ((none, 0, 0) : SVy)) ov (by
    have t2 : Sat (own encRw 109 (.slice none 0 0) [] :: own encOt 69 v [(o, ((none, 0, 0) : SVy))] :: R) w := own_nil.2 t
    rw [ho]
    exact Sat.rot [_] [_] t2)
end Go.Proofs
namespace Go.Proofs
open Go Go.SL
attribute [local irreducible] CCall CO CC CX CD
def DoneP (R : Ros) (k b : Nat) (x : LgL) (s : Lg) (n : Nt) (M : List HP) (K : Value → World → Prop) : Prop := ∀ x' ov, LgSt R (k + 1) x' (doK R x.hm s n).1 → x'.ros = x.ros → x'.hm = x.hm → One1 ov → Ht (isOuts ov (doK R x.hm s n).2 :: isLg b x' :: isRos x.ros R :: M) (K ov)
theorem may_note {R : Ros} {hm : Int} {s : Lg} {n : Nt} (hE : mayL R hm s n = 0) : noteE n = 0 ∧ mayK R hm s n = 0 := by
  unfold mayL at hE
  split at hE
  · next hh => exact absurd hE hh
  · next hh => exact ⟨Decidable.not_not.1 hh, hE⟩
theorem DoneP.nil {R : Ros} {k b : Nat} {x : LgL} {s : Lg} {n : Nt} {M : List HP} {K : Value → World → Prop} (h : DoneP R k b x s n M K) {x' : LgL} (st : LgSt R (k + 1) x' (doK R x.hm s n).1) (hr : x'.ros = x.ros) (hh : x'.hm = x.hm) (ho : (doK R x.hm s n).2 = []) :
    Ht (isLg b x' :: isRos x.ros R :: M) (K (.slice none 0 0)) := by
  have := h x' (.slice none 0 0) st hr hh ⟨rfl⟩
  rw [ho] at this
  exact Ht.conseq this fun w t => outs_nil t
theorem done_st {R : Ros} {k : Nat} {x x' : LgL} {s : Lg} {n : Nt} (st : LgSt R k x s) (hk : k + 1 ≤ 500) (hno : NtOk n) (hE : mayL R x.hm s n = 0) (hh : x'.hm = x.hm) (rp : LgRep (k + 1) x' (doK R x.hm s n).1) : LgSt R (k + 1) x' (doK R x.hm s n).1 :=
  ⟨by rw [hh]; exact do_ok st.ok st.hk hno hE, rp, hk⟩
theorem may3_t {R : Ros} {n : Nt} (h : may3 R n = 0) : hasR R n.name = true := by
  unfold may3 at h
  cases hb : hasR R n.name with
  | true => rfl
  | false => rw [if_pos hb] at h; exact absurd h (by decide)
theorem price_spec {L L1 M K b} {k : Nat} {x : LgL} {s : Lg} {R : Ros} {n : Nt} {rv : Value} [pl : Pull (isLg b) L x L1] [pr : Pull (isRos x.ros) L1 R M] (st : LgSt R k x s) (orv : One1 rv) (hk : k + 1 ≤ 500) (hno : NtOk n) (hE : mayL R x.hm s n = 0) (hn : n.kind = 3)
    (h : DoneP R k b x s n M K) : Ht L (CCall Tryz.prog 124 [.pointer (some ⟨b, 0, none⟩), ntV n rv] K) := by
  refine Ht.conseq (L' := isLg b x :: isRos x.ros R :: M) ?_ (fun w s => seps_mono (fun _ a => a) (fun _ t => pr.h _ _ t) (pl.h _ _ s))
  obtain ⟨h0, hm⟩ := may_note hE
  unfold mayK at hm
  rw [if_neg (by omega), if_neg (by omega), if_pos hn] at hm
  have hh := may3_t hm
  have hD : doK R x.hm s n = ({ s with prices := tput n.name n.amount s.prices }, []) := by unfold doK; rw [if_neg (by omega), if_neg (by omega), if_pos hn]
  obtain ⟨_, _, _, _, na, _⟩ := noteE_parts h0
  have hamt := na ((@fm_k n.kind).1 (.inl hn)).2
  unfold amtB at hamt
  rw [if_pos hn] at hamt
  have hamt : 0 ≤ n.amount ∧ n.amount ≤ bigM := by simpa using hamt
  have hps := st.ok.pr.srt
  have hpl := st.ok.pr.len
  have hfull : thas n.name x.prices = true ∨ x.prices.length < 32 := by
    rw [st.rp.pr]
    cases ht : thas n.name s.prices with
    | true => exact .inl rfl
    | false =>
      right
      have h1 := tput_new (v := n.amount) ht
      have h2 := keys_le (R := R) (tput_srt (k := n.name) (v := n.amount) hps) fun r hr => by
        rcases (tput_mem hps).1 hr with rfl | hr
        · exact hh
        · exact st.ok.prk r hr.1
      have h3 := st.ok.ros.il
      omega
  refine lg_at fun v ov => ?_
  refine ccall2 Tryz.func124 rfl (by decide) Tryz.ntmps124 (by rfl) (by decide) ?_
  repeat (refine stp ?_)
  intro c3
  repeat (refine stp ?_)
  refine ht_draw Tryz.can124x1 Tryz.mixed (by kernel_rfl) ?_
  repeat (refine stp ?_)
  refine pSet_ok (b := x.prb) (T := x.prices) (k := n.name) (n := n.amount) (by rw [st.rp.pr]; exact hps) (by rw [st.rp.pr]; exact hpl) (hasR_v st.ok.ros hh) hamt hfull ?_
  repeat (refine stp ?_)
  refine ret1 rfl ?_
  refine lg_close (b := b) (x := { x with prices := tput n.name n.amount x.prices }) (R := isRos x.ros R :: M) ov ?_
  exact h.nil (done_st st hk hno hE rfl (by rw [hD]; exact st.rp.price.up)) rfl rfl (by rw [hD])
theorem settle_spec {L L1 M K b} {k : Nat} {x : LgL} {s : Lg} {R : Ros} {n : Nt} {rv : Value} [pl : Pull (isLg b) L x L1] [pr : Pull (isRos x.ros) L1 R M] (st : LgSt R k x s) (orv : One1 rv) (hk : k + 1 ≤ 500) (hno : NtOk n) (hE : mayL R x.hm s n = 0) (hn : n.kind = 4)
    (h : DoneP R k b x s n M K) : Ht L (CCall Tryz.prog 126 [.pointer (some ⟨b, 0, none⟩), ntV n rv] K) := by
  refine Ht.conseq (L' := isLg b x :: isRos x.ros R :: M) ?_ (fun w s => seps_mono (fun _ a => a) (fun _ t => pr.h _ _ t) (pl.h _ _ s))
  have hD : doK R x.hm s n = ({ s with settled := n.day }, []) := by unfold doK; rw [if_neg (by omega), if_neg (by omega), if_neg (by omega), if_pos hn]
  refine lg_at fun v ov => ?_
  refine ccall2 Tryz.func126 rfl (by decide) Tryz.ntmps126 (by rfl) (by decide) ?_
  repeat (refine stp ?_)
  intro c3
  repeat (refine stp ?_)
  refine ret1 rfl ?_
  refine lg_close (b := b) (x := { x with settled := n.day }) (v := v) (R := isRos x.ros R :: M) ov ?_
  exact h.nil (done_st st hk hno hE rfl (by rw [hD]; exact st.rp.settle.up)) rfl rfl (by rw [hD])
theorem may5_t {R : Ros} {hm : Int} {s : Lg} {n : Nt} (h : may5 R hm s n = 0) : mineB R hm n.name = true ∧ hasL s n.name + n.amount ≤ mostP := by
  unfold may5 at h
  split at h
  · exact absurd h (by decide)
  next hb =>
  split at h
  · exact absurd h (by decide)
  next hle => exact ⟨by simpa using hb, by omega⟩
theorem mine_size {R : Ros} {hm : Int} {k : Nat} {s : Lg} (ok : LgOk R hm k s) {nm : ByteArray} (h : mineB R hm nm = true) : nm.size ≤ 8 := by
  unfold mineB at h
  have hb : homeR R nm = hm := by simpa using h
  have := ok.home
  exact (memb_size ((homeR_rg ok.ros nm).resolve_left (by omega)).2.2).2
theorem mS_ok {nm : ByteArray} (h : nm.size ≤ 8) : mS ++ nm ≠ noS ∧ (mS ++ nm).size ≤ 16 := by
  have e : (mS ++ nm).size = mS.size + nm.size := by simp
  have h2 : mS.size = 2 := rfl
  refine ⟨fun hh => ?_, by omega⟩
  rw [hh] at e
  have : noS.size = 0 := rfl
  omega
theorem post_spec {L L1 M K b} {k : Nat} {x : LgL} {s : Lg} {R : Ros} {n : Nt} {rv : Value} [pl : Pull (isLg b) L x L1] [pr : Pull (isRos x.ros) L1 R M] (st : LgSt R k x s) (orv : One1 rv) (hk : k + 1 ≤ 500) (hno : NtOk n) (hE : mayL R x.hm s n = 0) (hn : n.kind = 5)
    (h : DoneP R k b x s n M K) : Ht L (CCall Tryz.prog 128 [.pointer (some ⟨b, 0, none⟩), ntV n rv] K) := by
  refine Ht.conseq (L' := isLg b x :: isRos x.ros R :: M) ?_ (fun w s => seps_mono (fun _ a => a) (fun _ t => pr.h _ _ t) (pl.h _ _ s))
  obtain ⟨h0, hm⟩ := may_note hE
  unfold mayK at hm
  rw [if_neg (by omega), if_neg (by omega), if_neg (by omega), if_neg (by omega), if_pos hn] at hm
  obtain ⟨hmi, hle⟩ := may5_t hm
  have hsz := mine_size st.ok hmi
  have hD : doK R x.hm s n = ({ s with pledges := s.pledges ++ [(n.name, n.amount)] }, []) := by unfold doK; rw [if_neg (by omega), if_neg (by omega), if_neg (by omega), if_neg (by omega), if_pos hn]
  obtain ⟨_, _, _, _, na, _⟩ := noteE_parts h0
  have hamt := na ((@fm_k n.kind).1 (.inr (.inl hn))).2
  unfold amtB at hamt
  rw [if_neg (by omega)] at hamt
  have hamt : 0 < n.amount ∧ n.amount ≤ bigM := by simpa using hamt
  have hnn := hasL_nn st.ok n.name
  have hpl := st.rp.pL
  refine lg_at fun v ov => ?_
  refine ccall2 Tryz.func128 rfl (by decide) Tryz.ntmps128 (by rfl) (by decide) ?_
  repeat (refine stp ?_)
  intro c3
  repeat (refine stp ?_)
  refine ht_draw Tryz.can128x1 Tryz.mixed (by kernel_rfl) ?_
  repeat (refine stp ?_)
  refine Member_spec (by omega) ?_
  rewrite [show memS = mS from rfl]
  repeat (refine stp ?_)
  refine pAdd_ok (b := b) (o := 9) (l0 := lgC x v) (vo := v.vo) (P := x.P) (name := mS ++ n.name) (n := n.amount) st.rp.pS (by omega) (mS_ok hsz) hamt (by rw [st.rp.pA]; exact hnn) (by rw [st.rp.pA]; exact hle) fun vo' bl ovo => ?_
  rewrite [show (lgC x v).set 9 vo' = lgC { x with P := tput (mS ++ n.name) (bl, amtP x.P (mS ++ n.name) + n.amount) x.P } { v with vo := vo' } from rfl]
  repeat (refine stp ?_)
  refine ret1 rfl ?_
  refine lg_close (b := b) (x := { x with P := tput (mS ++ n.name) (bl, amtP x.P (mS ++ n.name) + n.amount) x.P }) (v := { v with vo := vo' }) (R := isRos x.ros R :: M) ⟨ov.p, ov.i, ov.d, ov.a, ovo, ov.l, ov.f⟩ ?_
  exact h.nil (done_st st hk hno hE rfl (by rw [hD]; exact st.rp.pledge (by omega) hle)) rfl rfl (by rw [hD])
theorem may6_t {R : Ros} {hm : Int} {s : Lg} {n : Nt} (h : may6 R hm s n = 0) : mineB R hm n.name = true ∧ mkE s.cend s.xs s.fs (mS ++ n.name) n.amount (dayL hm s) = 0 := by
  unfold may6 at h
  split at h
  · exact absurd h (by decide)
  next hb => exact ⟨by simpa using hb, h⟩
theorem call_spec {L L1 M K b} {k : Nat} {x : LgL} {s : Lg} {R : Ros} {n : Nt} {rv : Value} [pl : Pull (isLg b) L x L1] [pr : Pull (isRos x.ros) L1 R M] (st : LgSt R k x s) (orv : One1 rv) (hk : k + 1 ≤ 500) (hno : NtOk n) (hE : mayL R x.hm s n = 0) (hn : n.kind = 6)
    (h : DoneP R k b x s n M K) : Ht L (CCall Tryz.prog 130 [.pointer (some ⟨b, 0, none⟩), ntV n rv] K) := by
  refine Ht.conseq (L' := isLg b x :: isRos x.ros R :: M) ?_ (fun w s => seps_mono (fun _ a => a) (fun _ t => pr.h _ _ t) (pl.h _ _ s))
  obtain ⟨h0, hm⟩ := may_note hE
  unfold mayK at hm
  rw [if_neg (by omega), if_neg (by omega), if_neg (by omega), if_neg (by omega), if_neg (by omega), if_pos hn] at hm
  obtain ⟨hmi, hmk⟩ := may6_t hm
  have hsz := mine_size st.ok hmi
  have hD : doK R x.hm s n = ({ s with xs := s.xs ++ [((s.xs.length : Int), mS ++ n.name, n.amount, dayL x.hm s, 0)] }, []) := by unfold doK; rw [if_neg (by omega), if_neg (by omega), if_neg (by omega), if_neg (by omega), if_neg (by omega), if_pos hn]
  have hamt := (am_rg h0 (.inr hn)).2
  have hj := st.ok.calls
  have hfl := hj.js.fl
  have hxl := hj.js.xl
  have hk0 := st.hk
  refine lg_at fun v ov => ?_
  refine ccall2 Tryz.func130 rfl (by decide) Tryz.ntmps130 (by rfl) (by decide) ?_
  repeat (refine stp ?_)
  intro c3
  repeat (refine stp ?_)
  refine ht_draw Tryz.can130x1 Tryz.mixed (by kernel_rfl) ?_
  repeat (refine stp ?_)
  refine Member_spec (by omega) ?_
  rewrite [show memS = mS from rfl]
  repeat (refine stp ?_)
  refine Day_spec (x := x) (vp := v.vp) st.plen st.clen ?_
  rewrite [st.rp.ended, show (((endedL s x.hm : Nat) : Int) + 1) = dayL x.hm s from rfl]
  repeat (refine stp ?_)
  refine cl_make (b := x.clb) (lv := v.vl) (tv := v.vf) (g := 1) (e := x.cend) (xs := x.xs) (fs := x.fs) (am := n.amount) (on := dayL x.hm s) (by rw [st.rp.fs]; exact hj.js.srt) (by rw [st.rp.fs]; omega) (by rw [st.rp.xs]; omega) fun lv3 => ?_
  rewrite [if_pos (show mkE x.cend x.xs x.fs (mS ++ n.name) n.amount (dayL x.hm s) = 0 by rw [st.rp.ce, st.rp.xs, st.rp.fs]; exact hmk), if_pos (show mkE x.cend x.xs x.fs (mS ++ n.name) n.amount (dayL x.hm s) = 0 by rw [st.rp.ce, st.rp.xs, st.rp.fs]; exact hmk)]
  refine Ht.know (p := One1 lv3) (fun w t => one1_of (own_sat t.tail)) (fun olv => ?_)
  repeat (refine stp ?_)
  refine ret1 rfl ?_
  refine lg_close (b := b) (x := { x with xs := x.xs ++ [((x.xs.length : Int), mS ++ n.name, n.amount, dayL x.hm s, 0)] }) (v := { v with vl := lv3 }) (R := isRos x.ros R :: M) ⟨ov.p, ov.i, ov.d, ov.a, ov.o, olv, ov.f⟩ ?_
  exact h.nil (done_st st hk hno hE rfl (by
    rw [hD]
    exact (st.rp.calls' (xs := s.xs ++ [((s.xs.length : Int), mS ++ n.name, n.amount, dayL x.hm s, 0)]) (by rw [st.rp.xs]) st.rp.fs st.rp.ce fun y hy => by
      rcases List.mem_append.1 hy with hy | hy
      · exact st.rp.cam y hy
      · rw [List.mem_singleton.1 hy]; exact hamt).up)) rfl rfl (by rw [hD])
theorem may7_t {R : Ros} {hm : Int} {s : Lg} {n : Nt} (h : may7 R hm s n = 0) : mineB R hm n.name = true ∧ ∃ y, opnM (mS ++ n.name) s.xs = some y ∧ hasL s n.name + y.2.2.1 ≤ mostP := by
  unfold may7 at h
  split at h
  · exact absurd h (by decide)
  next hb =>
  cases ho : opnM (mS ++ n.name) s.xs with
  | none => rw [ho] at h; exact absurd (show (13 : Int) = 0 from h) (by decide)
  | some y =>
    rw [ho] at h
    dsimp only at h
    split at h
    · exact absurd h (by decide)
    · exact ⟨by simpa using hb, y, rfl, by omega⟩
theorem meet_am {nm : ByteArray} {xs : List Cll} (h : ∀ y ∈ xs, y.2.2.1 ≤ bigM) : ∀ y ∈ meetM nm xs, y.2.2.1 ≤ bigM := fun y hy => by
  unfold meetM at hy
  cases ho : opnM nm xs with
  | none => rw [ho] at hy; exact h y hy
  | some z =>
    rw [ho] at hy
    rcases List.mem_or_eq_of_mem_set hy with hy | hy
    · exact h y hy
    · rw [hy]; exact h z (opn_in ho)
theorem answer_spec {L L1 M K b} {k : Nat} {x : LgL} {s : Lg} {R : Ros} {n : Nt} {rv : Value} [pl : Pull (isLg b) L x L1] [pr : Pull (isRos x.ros) L1 R M] (st : LgSt R k x s) (orv : One1 rv) (hk : k + 1 ≤ 500) (hno : NtOk n) (hE : mayL R x.hm s n = 0) (hn : n.kind = 7)
    (h : DoneP R k b x s n M K) : Ht L (CCall Tryz.prog 132 [.pointer (some ⟨b, 0, none⟩), ntV n rv] K) := by
  refine Ht.conseq (L' := isLg b x :: isRos x.ros R :: M) ?_ (fun w s => seps_mono (fun _ a => a) (fun _ t => pr.h _ _ t) (pl.h _ _ s))
  obtain ⟨h0, hm⟩ := may_note hE
  unfold mayK at hm
  rw [if_neg (by omega), if_neg (by omega), if_neg (by omega), if_neg (by omega), if_neg (by omega), if_neg (by omega), if_pos hn] at hm
  obtain ⟨hmi, y, ho, hle⟩ := may7_t hm
  have hsz := mine_size st.ok hmi
  have hD : doK R x.hm s n = ({ s with xs := meetM (mS ++ n.name) s.xs, pledges := s.pledges ++ [(n.name, ((opnM (mS ++ n.name) s.xs).getD zCl).2.2.1)] }, []) := by unfold doK; rw [if_neg (by omega), if_neg (by omega), if_neg (by omega), if_neg (by omega), if_neg (by omega), if_neg (by omega), if_pos hn]
  rw [ho, show (some y : Option Cll).getD zCl = y from rfl] at hD
  have hj := st.ok.calls
  have hfl := hj.js.fl
  have hxl := hj.js.xl
  have hk0 := st.hk
  have hy := opn_in ho
  have ha1 := hj.am y hy
  have ha2 := st.rp.cam y hy
  have hnn := hasL_nn st.ok n.name
  have hpl := st.rp.pL
  refine lg_at fun v ov => ?_
  refine ccall2 Tryz.func132 rfl (by decide) Tryz.ntmps132 (by rfl) (by decide) ?_
  repeat (refine stp ?_)
  intro c3
  repeat (refine stp ?_)
  refine ht_draw Tryz.can132x1 Tryz.mixed (by kernel_rfl) ?_
  repeat (refine stp ?_)
  refine Member_spec (by omega) ?_
  rewrite [show memS = mS from rfl]
  repeat (refine stp ?_)
  refine cl_meet (b := x.clb) (lv := v.vl) (tv := v.vf) (g := 1) (e := x.cend) (xs := x.xs) (name := mS ++ n.name) (by rw [st.rp.xs]; omega) (by rw [st.rp.xs]; exact hj.js.numB) ?_
  rewrite [show (opnM (mS ++ n.name) x.xs).isSome = true from by rw [st.rp.xs, ho]; rfl, show ((opnM (mS ++ n.name) x.xs).map (·.2.2.1)).getD 0 = y.2.2.1 from by rw [st.rp.xs, ho]; rfl]
  repeat (refine stp ?_)
  rewrite [show decide ((if (true : Bool) = true then (0 : Int) else 13) = 0) = true from rfl]
  repeat (refine stp ?_)
  refine ht_draw Tryz.can132x3 Tryz.mixed (by kernel_rfl) ?_
  repeat (refine stp ?_)
  refine Member_spec (by omega) ?_
  rewrite [show memS = mS from rfl]
  repeat (refine stp ?_)
  refine pAdd_ok (b := b) (o := 9) (l0 := lgC x v) (vo := v.vo) (P := x.P) (name := mS ++ n.name) (n := y.2.2.1) st.rp.pS (by omega) (mS_ok hsz) ⟨by omega, ha2⟩ (by rw [st.rp.pA]; exact hnn) (by rw [st.rp.pA]; exact hle) fun vo' bl ovo => ?_
  rewrite [show (lgC x v).set 9 vo' = lgC { x with P := tput (mS ++ n.name) (bl, amtP x.P (mS ++ n.name) + y.2.2.1) x.P, xs := meetM (mS ++ n.name) x.xs } { v with vo := vo' } from rfl]
  repeat (refine stp ?_)
  refine ret1 rfl ?_
  refine lg_close (b := b) (x := { x with P := tput (mS ++ n.name) (bl, amtP x.P (mS ++ n.name) + y.2.2.1) x.P, xs := meetM (mS ++ n.name) x.xs }) (v := { v with vo := vo' }) (R := isRos x.ros R :: M) ⟨ov.p, ov.i, ov.d, ov.a, ovo, ov.l, ov.f⟩ ?_
  exact h.nil (done_st st hk hno hE rfl (by
    rw [hD]
    exact (st.rp.calls' (xs := meetM (mS ++ n.name) s.xs) (xs' := meetM (mS ++ n.name) x.xs) (by rw [st.rp.xs]) st.rp.fs st.rp.ce (meet_am st.rp.cam)).pledge (nm := n.name) (b := bl) (a := y.2.2.1) (show 0 ≤ hasL s n.name + y.2.2.1 by omega) hle)) rfl rfl (by rw [hD])
end Go.Proofs
namespace Go.Proofs
open Go Go.SL
attribute [local irreducible] CCall CO CC CX CD
theorem LgDay_spec {L M K b} {x : LgL} [pl : Pull (isLg b) L x M] (hl : x.pts.length ≤ 100) (hc : ∀ p ∈ x.pts, p.cls.length ≤ 1000)
    (h : Ht (isLg b x :: M) (K (.int .i64 ((endPt x x.hm : Nat) + 1)))) : Ht L (CCall Tryz.prog 10 [.pointer (some ⟨b, 0, none⟩)] K) := by
  refine Ht.pull pl ?_
  refine lg_at fun v ov => ?_
  refine Day_spec (x := x) (vp := v.vp) hl hc ?_
  exact lg_close (b := b) (x := x) (R := M) ov h
theorem atL_len {R : Ros} {node : Int} {t : Td} (h : atE R node t = 0) : (atL R node t).length = 2 := by
  unfold atL
  rw [if_neg (fun hh => hh h)]
  split <;> rfl
theorem enter_spec {L L1 M K b p} {x : LgL} {R : Ros} {B : Book} {I : List ByteArray} {d : Int} {t : Td} [pl : Pull (isLg b) L x L1] [pr : Pull (isRos p) L1 R M] (hp : x.ros = p) (ok : RosOk R) (hE : atE R x.hm t = 0) (hD : DbOk x.D B) (hDn : x.D.length ≤ 900) (hT : AccT x.T (allB B)) (hn : x.n = B.length)
    (hB : BkG I (allB (B ++ entD d (atL R x.hm t)))) (hd : 1 ≤ d ∧ d ≤ 500)
    (h : ∀ D' T', DbOk D' (B ++ entD d (atL R x.hm t)) → AccT T' (allB (B ++ entD d (atL R x.hm t))) → Ht (isLg b { x with D := D', T := T', n := x.n + (atL R x.hm t).length } :: isRos p R :: M) (K (.tuple #[]))) :
    Ht L (CCall Tryz.prog 201 [.pointer (some ⟨b, 0, none⟩), .int .i64 d, tdV t] K) := by
  subst hp
  refine Ht.conseq (L' := isLg b x :: isRos x.ros R :: M) ?_ (fun w s => seps_mono (fun _ a => a) (fun _ t => pr.h _ _ t) (pl.h _ _ s))
  have hl := atL_len hE
  obtain ⟨_, _, hq, hc⟩ := atL_ok ok (node := x.hm) (t := t)
  refine lg_at fun v ov => ?_
  refine ccall3 Tryz.func201 rfl (by decide) Tryz.ntmps201 (by rfl) (by decide) ?_
  repeat (refine stp ?_)
  intro c5
  repeat (refine stp ?_)
  refine ht_draw Tryz.can201x1 Tryz.mixed (by kernel_rfl) ?_
  repeat (refine stp ?_)
  refine nAt_spec (p := x.ros) (R := R) (t := t) (node := x.hm) ok (fun hh => absurd hE hh) (fun _ u ou => ?_)
  repeat (refine stp ?_)
  try rewrite [show decide ((0 : Int) = 0) = true from rfl]
  repeat (refine stp ?_)
  refine DPost_ok (b := b) (o := 4) (l0 := lgC x v) (vd := v.vd) (va := v.va) (lv := u) (n := x.n) (D := x.D) (T := x.T) (B := B) (I := I) (es := atL R x.hm t) (day := d) hD hDn hT hn hB hd ⟨by omega, by omega⟩ hq hc fun vd' va' D' T' ovd ova hD' hT' hDl => ?_
  rewrite [show (((lgC x v).set (4 + 1) va').set 4 vd').set (4 + 2) (.int .i64 ((x.n + (atL R x.hm t).length : Nat) : Int)) = lgC { x with D := D', T := T', n := x.n + (atL R x.hm t).length } { v with vd := vd', va := va' } from rfl]
  repeat (refine stp ?_)
  refine end0 rfl ?_
  refine lg_close (b := b) (x := { x with D := D', T := T', n := x.n + (atL R x.hm t).length }) (v := { v with vd := vd', va := va' }) (R := isRos x.ros R :: M) ⟨ov.p, ov.i, ovd, ova, ov.o, ov.l, ov.f⟩ ?_
  exact h D' T' hD' hT'
theorem may1_t {R : Ros} {hm : Int} {s : Lg} {n : Nt} (h : may1 R hm s n = 0) : routeE R n.tr = 0 ∧ homeR R n.tr.buyer = hm ∧ n.tr.id ∉ s.ids ∧ dayL hm s ≤ 500 ∧ s.ids.length < 2000 := by
  unfold may1 at h
  split at h
  · next hh => exact absurd h hh
  next h1 =>
  split at h
  · exact absurd h (by decide)
  next h2 =>
  split at h
  · exact absurd h (by decide)
  next h3 =>
  split at h
  · exact absurd h (by decide)
  next h4 => exact ⟨Decidable.not_not.1 h1, Decidable.not_not.1 h2, h3, by omega, by omega⟩
theorem BkG.ent {R : Ros} {k : Nat} {x : LgL} {s : Lg} (st : LgSt R k x s) (node d : Int) (t : Td) : BkG R.isins (allB (s.ents ++ entD d (atL R node t))) := by
  have hg := st.bkg
  obtain ⟨h1, h2, _, _⟩ := atL_ok st.ok.ros (node := node) (t := t)
  have hen := st.rp.en
  have hk := st.hk
  have e : allB (s.ents ++ entD d (atL R node t)) = allB s.ents ++ atL R node t := by rw [allB_app, allB_entD]
  rw [e]
  have hl : (allB s.ents).length = s.ents.length := List.length_map _
  have hi : ∀ y ∈ atL R node t, y.isin ∈ R.isins := fun y hy => by
    have := (h1 y hy).1
    unfold hasR at this
    obtain ⟨z, hz, hze⟩ := List.any_eq_true.1 this
    rw [← show z = y.isin by simpa using hze]; exact hz
  refine ⟨by rw [List.length_append]; omega, hg.il, fun y hy => ?_, fun y hy => ?_, fun y hy => ?_, fun y hy => ?_⟩
  · rcases List.mem_append.1 hy with hy | hy
    · exact hg.mem y hy
    · exact hi y hy
  · rcases List.mem_append.1 hy with hy | hy
    · exact hg.ne y hy
    · exact isin_ne (hasR_v st.ok.ros (h1 y hy).1)
  · rcases List.mem_append.1 hy with hy | hy
    · exact hg.q y hy
    · exact (h1 y hy).2.1
  · rcases List.mem_append.1 hy with hy | hy
    · exact hg.c y hy
    · exact (h1 y hy).2.2.1
theorem dayL_pos {hm : Int} {s : Lg} : 1 ≤ dayL hm s := by unfold dayL; omega
theorem accept_spec {L L1 M K b} {k : Nat} {x : LgL} {s : Lg} {R : Ros} {n : Nt} {rv : Value} [pl : Pull (isLg b) L x L1] [pr : Pull (isRos x.ros) L1 R M] (st : LgSt R k x s) (orv : One1 rv) (hk : k + 1 ≤ 500) (hno : NtOk n) (hE : mayL R x.hm s n = 0) (hn : n.kind = 1)
    (h : DoneP R k b x s n M K) : Ht L (CCall Tryz.prog 120 [.pointer (some ⟨b, 0, none⟩), ntV n rv] K) := by
  refine Ht.conseq (L' := isLg b x :: isRos x.ros R :: M) ?_ (fun w s => seps_mono (fun _ a => a) (fun _ t => pr.h _ _ t) (pl.h _ _ s))
  obtain ⟨h0, hm⟩ := may_note hE
  unfold mayK at hm
  rw [if_pos hn] at hm
  obtain ⟨hr, hb, hid, hday, hil⟩ := may1_t hm
  have hD : doK R x.hm s n = do1 R x.hm s n := by unfold doK; rw [if_pos hn]
  have hil2 := ids_2000 st
  have hat : atE R x.hm n.tr = 0 := by unfold atE; rw [if_neg (fun hh => hh hr), if_pos hb.symm]
  have hdl := st.dlen
  have hl2 := atL_len hat
  refine lg_at fun v ov => ?_
  refine ccall2 Tryz.func120 rfl (by decide) Tryz.ntmps120 (by rfl) (by decide) ?_
  repeat (refine stp ?_)
  intro c3
  repeat (refine stp ?_)
  refine ht_draw Tryz.can120x1 Tryz.mixed (by kernel_rfl) ?_
  repeat (refine stp ?_)
  refine RRoute_spec (p := x.ros) (R := R) (t := n.tr) ?_
  rewrite [if_pos hr, if_pos hr]
  repeat (refine stp ?_)
  refine ht_draw Tryz.can120x2 Tryz.mixed (by kernel_rfl) ?_
  repeat (refine stp ?_)
  refine lb_put (b := b) (o := 3) (l := lgC x v) (v := v.vi) (xs := x.ids) (k := n.tr.id) (u := true) (fun v' => ⟨_, ups_mk (by show 3 < 12; decide)⟩) st.rp.idS (by omega) fun vi' l' hl' => ?_
  refine Ht.one1 (v := vi') ?_
  intro ovi
  obtain ⟨_, rfl⟩ := ups_eq hl'
  rewrite [show (lgC x v).set 3 vi' = lgC { x with ids := tput n.tr.id true x.ids } { v with vi := vi' } from rfl]
  repeat (refine stp ?_)
  refine lg_close (b := b) (x := { x with ids := tput n.tr.id true x.ids }) (v := { v with vi := vi' }) (R := pto c3 (cells (ntC n rv) 63) :: isRos x.ros R :: M) ⟨ov.p, ovi, ov.d, ov.a, ov.o, ov.l, ov.f⟩ ?_
  obtain ⟨x1, hx1⟩ : ∃ y, { x with ids := tput n.tr.id true x.ids } = y := ⟨_, rfl⟩
  have e1 : x1.pts = x.pts := by rw [← hx1]
  have e2 : x1.hm = x.hm := by rw [← hx1]
  have e3 : x1.ros = x.ros := by rw [← hx1]
  have e4 : x1.D = x.D ∧ x1.T = x.T ∧ x1.n = x.n := by rw [← hx1]; exact ⟨rfl, rfl, rfl⟩
  have e5 : endPt x1 x1.hm = endedL s x.hm := by rw [← hx1]; exact st.rp.ended x.hm
  rewrite [hx1]
  refine ht_draw Tryz.can120x3 Tryz.mixed (by kernel_rfl) ?_
  repeat (refine stp ?_)
  refine LgDay_spec (x := x1) (by rw [e1]; exact st.plen) (by rw [e1]; exact st.clen) ?_
  rewrite [e5, show (((endedL s x.hm : Nat) : Int) + 1) = dayL x.hm s from rfl]
  repeat (refine stp ?_)
  refine enter_spec (x := x1) (p := x.ros) (R := R) (B := s.ents) (I := R.isins) (d := dayL x.hm s) (t := n.tr) e3 st.ok.ros (by rw [e2]; exact hat) (by rw [e4.1]; exact st.rp.db) (by rw [e4.1]; omega) (by rw [e4.2.1]; exact st.rp.at') (by rw [e4.2.2]; exact st.rp.n) (by rw [e2]; exact BkG.ent st _ _ _) ⟨dayL_pos, hday⟩ fun D' T' hD' hT' => ?_
  repeat (refine stp ?_)
  obtain ⟨x2, hx2⟩ : ∃ y, { x1 with D := D', T := T', n := x1.n + (atL R x1.hm n.tr).length } = y := ⟨_, rfl⟩
  have st2 : LgSt R (k + 1) x2 (doK R x.hm s n).1 := by
    rw [← hx2, ← hx1]
    refine done_st st hk hno hE rfl ?_
    rw [hD]
    rw [e2] at hD' hT'
    exact (st.rp.ids hid).enter hD' hT' (Nat.le_of_eq hl2)
  have g1 : x2.pts = x.pts := by rw [← hx2]; exact e1
  have g2 : x2.hm = x.hm := by rw [← hx2]; exact e2
  have g3 : x2.ros = x.ros := by rw [← hx2]; exact e3
  have g5 : endPt x2 x2.hm = endedL s x.hm := by rw [← hx2, ← hx1]; exact st.rp.ended x.hm
  rewrite [hx2]
  refine lg_at (x := x2) fun v2 ov2 => ?_
  repeat (refine stp ?_)
  rewrite [g2]
  by_cases hs : homeR R n.tr.seller = x.hm
  · rewrite [decide_eq_true hs]
    repeat (refine stp ?_)
    refine ret1 rfl ?_
    refine lg_close (b := b) (x := x2) (v := v2) (R := isRos x.ros R :: M) ov2 ?_
    exact h.nil st2 g3 g2 (by rw [hD]; unfold do1; exact if_pos hs)
  · rewrite [decide_eq_false hs]
    have ho : (doK R x.hm s n).2 = [(homeR R n.tr.seller, ntK 9 x.hm (dayL x.hm s) n.tr [] 0 0)] := by rw [hD]; unfold do1; exact if_neg hs
    repeat (refine stp ?_)
    refine ht_draw Tryz.can120x6 Tryz.mixed (by kernel_rfl) ?_
    repeat (refine stp ?_)
    refine Day_spec (x := x2) (vp := v2.vp) st2.plen st2.clen ?_
    rewrite [g5, show (((endedL s x.hm : Nat) : Int) + 1) = dayL x.hm s from rfl, ← g2]
    repeat (refine stp ?_)
    intro c
    repeat (refine stp ?_)
    refine Ht.own_lit encOt (b := c) (n := 1) (xs := [((homeR R n.tr.seller, ntK 9 x2.hm (dayL x2.hm s) n.tr [] 0 0), ((none, 0, 0) : SVy))]) rfl rfl (by decide) ?_
    repeat (refine stp ?_)
    refine ret1 rfl ?_
    have hf := h x2 (.slice (some ⟨c, 0, none⟩) 1 1) st2 g3 g2 ⟨rfl⟩
    rw [ho, ← g2] at hf
    refine lg_close (b := b) (x := x2) (v := v2) (R := own encOt 69 (.slice (some ⟨c, 0, none⟩) 1 1) [((homeR R n.tr.seller, ntK 9 x2.hm (dayL x2.hm s) n.tr [] 0 0), ((none, 0, 0) : SVy))] :: isRos x.ros R :: M) ov2 ?_
    exact Ht.conseq hf fun w t => outs_one0 ⟨rfl⟩ rfl (Sat.rot [_] [_] t)
end Go.Proofs
namespace Go.Proofs
open Go Go.SL
attribute [local irreducible] CCall CO CC CX CD
theorem pts_set {x : LgL} {n : Int} (hn : 0 ≤ n ∧ n < x.pts.length) : ∃ P', x.pts.Perm (x.pts[n.toNat]! :: P') ∧ ∀ q' : PtL, (x.pts.set n.toNat q').Perm (q' :: P') := by
  have hl : n.toNat < x.pts.length := by omega
  refine ⟨x.pts.take n.toNat ++ x.pts.drop (n.toNat + 1), ?_, fun q' => ?_⟩
  · have e : x.pts = x.pts.take n.toNat ++ x.pts[n.toNat]! :: x.pts.drop (n.toNat + 1) := by
      conv => lhs; rw [← List.take_append_drop n.toNat x.pts]
      rw [List.drop_eq_getElem_cons hl, getElem!_pos x.pts n.toNat hl]
    conv => lhs; rw [e]
    exact List.perm_middle
  · rw [show x.pts.set n.toNat q' = x.pts.take n.toNat ++ q' :: x.pts.drop (n.toNat + 1) from List.set_eq_take_append_cons_drop .. |>.trans (if_pos hl)]
    exact List.perm_middle
theorem blk_set {l : List PtL} {i : Nat} {q' : PtL} (hl : i < l.length) (h : q'.blk = (l[i]!).blk) : ((l.set i q').map fun p => some p.blk) = l.map fun p => some p.blk := by
  rw [List.map_set, h]
  refine List.ext_getElem (by rw [List.length_set]) fun j h1 h2 => ?_
  rw [List.getElem_set]
  by_cases hj : i = j
  · subst hj
    rw [if_pos rfl, List.getElem_map, getElem!_pos l i hl]
  · rw [if_neg hj]
theorem pr_get2 {R : Ros} {k : Nat} {x : LgL} {s : Lg} (st : LgSt R k x s) {n : Int} (hp : peerB x.hm s n = true) : ∃ (q : PtL) (P' : List PtL), x.pts.Perm (q :: P') ∧ (∀ q' : PtL, (x.pts.set n.toNat q').Perm (q' :: P')) ∧ prBlk x n = some q.blk ∧ ptAt s n = q.pt ∧ (0 ≤ n ∧ n < x.pts.length) ∧ x.pts[n.toNat]! = q := by
  obtain ⟨hn', hnm⟩ := peerB_iff.1 hp
  have hlen := st.rp.len
  have hn : 0 ≤ n ∧ n < x.pts.length := by omega
  obtain ⟨P', hP, hP2⟩ := pts_set hn
  exact ⟨x.pts[n.toNat]!, P', hP, hP2, prBlk_some hn hnm, st.rp.pt hn, hn, rfl⟩
theorem may9_t {R : Ros} {hm : Int} {s : Lg} {n : Nt} (h : may9 R hm s n = 0) : peerB hm s n.peer = true ∧ routeE R n.tr = 0 ∧ homeR R n.tr.buyer = n.peer ∧ homeR R n.tr.seller = hm ∧ (ptAt s n.peer).legs < 2000 := by
  unfold may9 at h
  split at h
  · next hh => exact absurd h hh
  next h1 =>
  split at h
  · next hh => exact absurd h hh
  next h2 =>
  split at h
  · exact absurd h (by decide)
  next h3 =>
  split at h
  · exact absurd h (by decide)
  next h4 =>
  refine ⟨?_, Decidable.not_not.1 h2, by omega, by omega, by omega⟩
  unfold nextE at h1
  cases hb : peerB hm s n.peer with
  | true => rfl
  | false => rw [if_pos hb] at h1; exact absurd (by decide) h1
theorem leg_spec {L L1 M K b} {k : Nat} {x : LgL} {s : Lg} {R : Ros} {n : Nt} {rv : Value} [pl : Pull (isLg b) L x L1] [pr : Pull (isRos x.ros) L1 R M] (st : LgSt R k x s) (orv : One1 rv) (hk : k + 1 ≤ 500) (hno : NtOk n) (hE : mayL R x.hm s n = 0) (hn : n.kind = 9)
    (h : DoneP R k b x s n M K) : Ht L (CCall Tryz.prog 136 [.pointer (some ⟨b, 0, none⟩), ntV n rv] K) := by
  refine Ht.conseq (L' := isLg b x :: isRos x.ros R :: M) ?_ (fun w s => seps_mono (fun _ a => a) (fun _ t => pr.h _ _ t) (pl.h _ _ s))
  obtain ⟨h0, hm⟩ := may_note hE
  unfold mayK at hm
  rw [if_neg (by omega), if_neg (by omega), if_neg (by omega), if_neg (by omega), if_neg (by omega), if_neg (by omega), if_neg (by omega), if_neg (by omega), if_pos hn] at hm
  obtain ⟨hp, hr, hb, hs, hlg⟩ := may9_t hm
  have hD : doK R x.hm s n = (do9 R x.hm s n, []) := by unfold doK; rw [if_neg (by omega), if_neg (by omega), if_neg (by omega), if_neg (by omega), if_neg (by omega), if_neg (by omega), if_neg (by omega), if_neg (by omega), if_pos hn]
  have hday := (noteE_parts h0).2.1 ((@fm_k n.kind).2.2.2.2.1 (.inl hn))
  obtain ⟨q, P', hP, hP2, hpb, hpt, hnl, hq⟩ := pr_get2 st hp
  have hnm := (peerB_iff.1 hp).2
  have hat : atE R x.hm n.tr = 0 := by unfold atE; rw [if_neg (fun hh => hh hr), if_neg (by omega), if_pos hs.symm]
  have hl2 := atL_len hat
  have hdl := st.dlen
  rw [hpt] at hlg
  have hlg : q.legs < 2000 := hlg
  refine lg_at fun v ov => ?_
  refine ccall2 Tryz.func136 rfl (by decide) Tryz.ntmps136 (by rfl) (by decide) ?_
  repeat (refine stp ?_)
  intro c3
  repeat (refine stp ?_)
  refine peer_spec (x := x) (vp := v.vp) (n := n.peer) st.plen ?_
  rewrite [hpb, show pv (some q.blk) = .pointer (some ⟨q.blk, 0, none⟩) from rfl]
  refine Ht.big_look (f := isPt) hP ?_
  refine pt_open fun vd vr od or => ?_
  repeat (refine stp ?_)
  rewrite [show IntKind.i64.wrap ((q.legs : Int) + 1) = ((q.legs + 1 : Nat) : Int) from by rw [IntWalk.i64_in _ (by omega)]; omega]
  refine pt_back (q := { q with legs := q.legs + 1 }) (hP2 { q with legs := q.legs + 1 }) od or ?_
  rewrite [show (x.pts.map fun p => some p.blk) = ((x.pts.set n.peer.toNat { q with legs := q.legs + 1 }).map fun p => some p.blk) from (blk_set (by omega) (by rw [hq])).symm]
  refine lg_close (b := b) (x := { x with pts := x.pts.set n.peer.toNat { q with legs := q.legs + 1 } }) (v := v) (R := pto c3 (cells (ntC n rv) 63) :: isRos x.ros R :: M) ov ?_
  have rp1 := st.rp.upd hnl (q := { q with legs := q.legs + 1 }) (f := fun p => { p with legs := p.legs + 1 }) (by rw [hq]; rfl)
  obtain ⟨x1, hx1⟩ : ∃ y, { x with pts := x.pts.set n.peer.toNat { q with legs := q.legs + 1 } } = y := ⟨_, rfl⟩
  have e2 : x1.hm = x.hm := by rw [← hx1]
  have e3 : x1.ros = x.ros := by rw [← hx1]
  have e4 : x1.D = x.D ∧ x1.T = x.T ∧ x1.n = x.n := by rw [← hx1]; exact ⟨rfl, rfl, rfl⟩
  rewrite [hx1]
  rw [hx1] at rp1
  refine enter_spec (x := x1) (p := x.ros) (R := R) (B := s.ents) (I := R.isins) (d := n.day) (t := n.tr) e3 st.ok.ros (by rw [e2]; exact hat) (by rw [e4.1]; exact st.rp.db) (by rw [e4.1]; omega) (by rw [e4.2.1]; exact st.rp.at') (by rw [e4.2.2]; exact st.rp.n) (by rw [e2]; exact BkG.ent st _ _ _) hday fun D' T' hD' hT' => ?_
  repeat (refine stp ?_)
  refine ret1 rfl ?_
  refine Ht.frm (L' := isLg b { x1 with D := D', T := T', n := x1.n + (atL R x1.hm n.tr).length } :: isRos x.ros R :: M) ?_
  rw [e2] at hD' hT'
  refine h.nil (done_st st hk hno hE e2 ?_) e3 e2 (by rw [hD])
  rw [hD, show atL R x1.hm n.tr = atL R x.hm n.tr from by rw [e2]]
  exact rp1.enter hD' hT' (Nat.le_of_eq hl2)
theorem may8_t {hm : Int} {s : Lg} {n : Nt} (h : may8 hm s n = 0) : peerB hm s n.peer = true := by
  unfold may8 at h
  cases hb : peerB hm s n.peer with
  | true => rfl
  | false => rw [if_pos hb] at h; exact absurd h (by decide)
theorem may12_t {hm : Int} {s : Lg} {n : Nt} (h : may12 hm s n = 0) : peerB hm s n.peer = true := by
  unfold may12 at h
  cases hb : peerB hm s n.peer with
  | true => rfl
  | false => rw [if_pos hb] at h; exact absurd h (by decide)
theorem halt_spec {L L1 M K b} {k : Nat} {x : LgL} {s : Lg} {R : Ros} {n : Nt} {rv : Value} [pl : Pull (isLg b) L x L1] [pr : Pull (isRos x.ros) L1 R M] (st : LgSt R k x s) (orv : One1 rv) (hk : k + 1 ≤ 500) (hno : NtOk n) (hE : mayL R x.hm s n = 0) (hn : n.kind = 12)
    (h : DoneP R k b x s n M K) : Ht L (CCall Tryz.prog 142 [.pointer (some ⟨b, 0, none⟩), ntV n rv] K) := by
  refine Ht.conseq (L' := isLg b x :: isRos x.ros R :: M) ?_ (fun w s => seps_mono (fun _ a => a) (fun _ t => pr.h _ _ t) (pl.h _ _ s))
  obtain ⟨h0, hm⟩ := may_note hE
  unfold mayK at hm
  rw [if_neg (by omega), if_neg (by omega), if_neg (by omega), if_neg (by omega), if_neg (by omega), if_neg (by omega), if_neg (by omega), if_neg (by omega), if_neg (by omega), if_neg (by omega), if_neg (by omega)] at hm
  have hp := may12_t hm
  have hD : doK R x.hm s n = (updP s n.peer fun p => { p with shut := true }, []) := by unfold doK; rw [if_neg (by omega), if_neg (by omega), if_neg (by omega), if_neg (by omega), if_neg (by omega), if_neg (by omega), if_neg (by omega), if_neg (by omega), if_neg (by omega), if_neg (by omega), if_neg (by omega)]
  obtain ⟨q, P', hP, hP2, hpb, hpt, hnl, hq⟩ := pr_get2 st hp
  refine lg_at fun v ov => ?_
  refine ccall2 Tryz.func142 rfl (by decide) Tryz.ntmps142 (by rfl) (by decide) ?_
  repeat (refine stp ?_)
  intro c3
  repeat (refine stp ?_)
  refine peer_spec (x := x) (vp := v.vp) (n := n.peer) st.plen ?_
  rewrite [hpb, show pv (some q.blk) = .pointer (some ⟨q.blk, 0, none⟩) from rfl]
  refine Ht.big_look (f := isPt) hP ?_
  refine pt_open fun vd vr od or => ?_
  repeat (refine stp ?_)
  refine ret1 rfl ?_
  refine pt_back (q := { q with shut := true }) (hP2 { q with shut := true }) od or ?_
  rewrite [show (x.pts.map fun p => some p.blk) = ((x.pts.set n.peer.toNat { q with shut := true }).map fun p => some p.blk) from (blk_set (by omega) (by rw [hq])).symm]
  refine lg_close (b := b) (x := { x with pts := x.pts.set n.peer.toNat { q with shut := true } }) (v := v) (R := isRos x.ros R :: M) ov ?_
  exact h.nil (done_st st hk hno hE rfl (by rw [hD]; exact (st.rp.upd hnl (q := { q with shut := true }) (f := fun p => { p with shut := true }) (by rw [hq]; rfl)).up)) rfl rfl (by rw [hD])
theorem stop_spec {L L1 M K b} {k : Nat} {x : LgL} {s : Lg} {R : Ros} {n : Nt} {rv : Value} [pl : Pull (isLg b) L x L1] [pr : Pull (isRos x.ros) L1 R M] (st : LgSt R k x s) (orv : One1 rv) (hk : k + 1 ≤ 500) (hno : NtOk n) (hE : mayL R x.hm s n = 0) (hn : n.kind = 8)
    (h : DoneP R k b x s n M K) : Ht L (CCall Tryz.prog 134 [.pointer (some ⟨b, 0, none⟩), ntV n rv] K) := by
  refine Ht.conseq (L' := isLg b x :: isRos x.ros R :: M) ?_ (fun w s => seps_mono (fun _ a => a) (fun _ t => pr.h _ _ t) (pl.h _ _ s))
  obtain ⟨h0, hm⟩ := may_note hE
  unfold mayK at hm
  rw [if_neg (by omega), if_neg (by omega), if_neg (by omega), if_neg (by omega), if_neg (by omega), if_neg (by omega), if_neg (by omega), if_pos hn] at hm
  have hp := may8_t hm
  have hD : doK R x.hm s n = (updP s n.peer fun p => { p with shut := true }, [(n.peer, ntK 12 x.hm 0 noTd [] 0 0)]) := by unfold doK; rw [if_neg (by omega), if_neg (by omega), if_neg (by omega), if_neg (by omega), if_neg (by omega), if_neg (by omega), if_neg (by omega), if_pos hn]
  obtain ⟨q, P', hP, hP2, hpb, hpt, hnl, hq⟩ := pr_get2 st hp
  refine lg_at fun v ov => ?_
  refine ccall2 Tryz.func134 rfl (by decide) Tryz.ntmps134 (by rfl) (by decide) ?_
  repeat (refine stp ?_)
  intro c3
  repeat (refine stp ?_)
  refine peer_spec (x := x) (vp := v.vp) (n := n.peer) st.plen ?_
  rewrite [hpb, show pv (some q.blk) = .pointer (some ⟨q.blk, 0, none⟩) from rfl]
  refine Ht.big_look (f := isPt) hP ?_
  refine pt_open fun vd vr od or => ?_
  repeat (refine stp ?_)
  refine pt_back (q := { q with shut := true }) (hP2 { q with shut := true }) od or ?_
  rewrite [show (x.pts.map fun p => some p.blk) = ((x.pts.set n.peer.toNat { q with shut := true }).map fun p => some p.blk) from (blk_set (by omega) (by rw [hq])).symm]
  refine ht_draw Tryz.can134x2 Tryz.mixed (by kernel_rfl) ?_
  repeat (refine stp ?_)
  intro c
  repeat (refine stp ?_)
  refine Ht.own_lit encOt (b := c) (n := 1) (xs := [((n.peer, ntK 12 x.hm 0 noTd [] 0 0), ((none, 0, 0) : SVy))]) rfl rfl (by decide) ?_
  repeat (refine stp ?_)
  refine ret1 rfl ?_
  have hf := h { x with pts := x.pts.set n.peer.toNat { q with shut := true } } (.slice (some ⟨c, 0, none⟩) 1 1) (done_st st hk hno hE rfl (by rw [hD]; exact (st.rp.upd hnl (q := { q with shut := true }) (f := fun p => { p with shut := true }) (by rw [hq]; rfl)).up)) rfl rfl ⟨rfl⟩
  rw [hD] at hf
  refine lg_close (b := b) (x := { x with pts := x.pts.set n.peer.toNat { q with shut := true } }) (v := v) (R := own encOt 69 (.slice (some ⟨c, 0, none⟩) 1 1) [((n.peer, ntK 12 x.hm 0 noTd [] 0 0), ((none, 0, 0) : SVy))] :: isRos x.ros R :: M) ov ?_
  exact Ht.conseq hf fun w t => outs_one0 ⟨rfl⟩ rfl (Sat.rot [_] [_] t)
end Go.Proofs
namespace Go.Proofs
open Go Go.SL
attribute [local irreducible] CCall CO CC CX CD
theorem may11_t {hm : Int} {s : Lg} {n : Nt} (h : may11 hm s n = 0) : peerB hm s n.peer = true ∧ n.day = ((ptAt s n.peer).reports.length : Int) + 1 := by
  unfold may11 at h
  split at h
  · exact absurd h (by decide)
  next hb =>
  split at h
  · exact absurd h (by decide)
  next hd => exact ⟨by simpa using hb, by omega⟩
theorem hwn_push {sv : SVy} {rows : Rows} {z : Int} {reps : List Hd1} {L M1 M : List HP} {G : World → Prop} [p : Pull (own encRw 109 (svY sv)) L rows M1] [q : Pull (bigO hwn) M1 reps M] (h : Ht (bigO hwn (reps ++ [(sv, rows, z)]) :: M) G) : Ht L G :=
  Ht.conseq h fun w t => bigO_snoc.2 (seps_mono (fun _ a => a) (fun _ t => q.h _ _ t) (p.h _ _ t))
theorem zW_hl {n : Nt} (hno : NtOk n) : wHi (zW n.hi n.lo) = n.hi ∧ wLo (zW n.hi n.lo) = n.lo := by
  have h2 := hno.lo
  simp only [Lit.wf, IntKind.min, IntKind.max, IntKind.signed, IntKind.bits, Bool.and_eq_true, decide_eq_true_eq, if_true] at h2
  simp at h2
  unfold wHi wLo zW
  omega
theorem report_spec {L L1 M K b} {k : Nat} {x : LgL} {s : Lg} {R : Ros} {n : Nt} {rv : Value} [pl : Pull (isLg b) L x L1] [pr : Pull (isRos x.ros) L1 R M] [rs : RdE M encRw rv n.rows] (st : LgSt R k x s) (orv : One1 rv) (hk : k + 1 ≤ 500) (hno : NtOk n) (hE : mayL R x.hm s n = 0) (hn : n.kind = 11)
    (h : DoneP R k b x s n M K) : Ht L (CCall Tryz.prog 140 [.pointer (some ⟨b, 0, none⟩), ntV n rv] K) := by
  refine Ht.conseq (L' := isLg b x :: isRos x.ros R :: M) ?_ (fun w s => seps_mono (fun _ a => a) (fun _ t => pr.h _ _ t) (pl.h _ _ s))
  have hrs : ∀ (M' : List HP) [fr : Frm M' M], RdE M' encRw rv n.rows := fun M' fr => ⟨fun w t => rs.h w (fr.h _ _ t)⟩
  obtain ⟨h0, hm⟩ := may_note hE
  unfold mayK at hm
  rw [if_neg (by omega), if_neg (by omega), if_neg (by omega), if_neg (by omega), if_neg (by omega), if_neg (by omega), if_neg (by omega), if_neg (by omega), if_neg (by omega), if_neg (by omega), if_pos hn] at hm
  obtain ⟨hp, hdy⟩ := may11_t hm
  have hD : doK R x.hm s n = (updP s n.peer fun p => { p with reports := p.reports ++ [(n.rows, zW n.hi n.lo)] }, []) := by unfold doK; rw [if_neg (by omega), if_neg (by omega), if_neg (by omega), if_neg (by omega), if_neg (by omega), if_neg (by omega), if_neg (by omega), if_neg (by omega), if_neg (by omega), if_neg (by omega), if_pos hn]
  obtain ⟨q, P', hP, hP2, hpb, hpt, hnl, hq⟩ := pr_get2 st hp
  have hrep := (st.ok.rep _ (ptAt_mem (peerB_iff.1 hp).1)).1
  have hrl : (ptAt s n.peer).reports.length = q.reps.length := by rw [hpt]; exact List.length_map _
  rw [hrl] at hrep
  have hrw := (rowsE_ok ((noteE_parts h0).2.2.2.2.2 ((@fm_k n.kind).2.2.2.2.2.2 (.inr hn)))).1
  obtain ⟨z1, z2⟩ := zW_hl hno
  refine lg_at fun v ov => ?_
  refine ccall2 Tryz.func140 rfl (by decide) Tryz.ntmps140 (by rfl) (by decide) ?_
  repeat (refine stp ?_)
  intro c3
  repeat (refine stp ?_)
  refine peer_spec (x := x) (vp := v.vp) (n := n.peer) st.plen ?_
  rewrite [hpb, show pv (some q.blk) = .pointer (some ⟨q.blk, 0, none⟩) from rfl]
  refine Ht.big_look (f := isPt) hP ?_
  refine pt_open fun vd vr od or => ?_
  repeat (refine stp ?_)
  refine ht_draw Tryz.can140x2 Tryz.mixed (by kernel_rfl) ?_
  repeat (refine stp ?_)
  refine gClone_spec (l := n.rows) (by omega) fun v' ov' => ?_
  refine Ht.know (p := ∃ sv : SVy, v' = svY sv) (fun w t => svY_know t) (fun hsv => ?_)
  obtain ⟨sv, rfl⟩ := hsv
  repeat (refine stp ?_)
  intro b1
  repeat (refine stp ?_)
  refine Ht.own_lit encHo (b := b1) (n := 1) (xs := [(sv, n.rows, zW n.hi n.lo)]) (by show [svY sv, Value.int .i64 (wHi (zW n.hi n.lo)), Value.int .u64 (wLo (zW n.hi n.lo))] = _; rw [z1, z2]) rfl (by decide) ?_
  refine co_append (e := encHo) (xs := q.reps) (ys := [(sv, n.rows, zW n.hi n.lo)]) (by rfl) (by simp; omega) (by simp; omega) ?_
  intro v2
  refine Ht.one1 (v := v2) ?_
  intro ov2
  repeat (refine stp ?_)
  refine ret1 rfl ?_
  refine hwn_push (sv := sv) (rows := n.rows) (z := zW n.hi n.lo) (reps := q.reps) ?_
  refine pt_back (q := { q with reps := q.reps ++ [(sv, n.rows, zW n.hi n.lo)] }) (hP2 { q with reps := q.reps ++ [(sv, n.rows, zW n.hi n.lo)] }) od ov2 ?_
  rewrite [show (x.pts.map fun p => some p.blk) = ((x.pts.set n.peer.toNat { q with reps := q.reps ++ [(sv, n.rows, zW n.hi n.lo)] }).map fun p => some p.blk) from (blk_set (by omega) (by rw [hq])).symm]
  refine lg_close (b := b) (x := { x with pts := x.pts.set n.peer.toNat { q with reps := q.reps ++ [(sv, n.rows, zW n.hi n.lo)] } }) (v := v) (R := isRos x.ros R :: M) ov ?_
  exact h.nil (done_st st hk hno hE rfl (by rw [hD]; exact (st.rp.upd hnl (q := { q with reps := q.reps ++ [(sv, n.rows, zW n.hi n.lo)] }) (f := fun p => { p with reports := p.reports ++ [(n.rows, zW n.hi n.lo)] }) (by rw [hq]; unfold PtL.pt; dsimp only; rw [List.map_append]; rfl)).up)) rfl rfl (by rw [hD])
end Go.Proofs