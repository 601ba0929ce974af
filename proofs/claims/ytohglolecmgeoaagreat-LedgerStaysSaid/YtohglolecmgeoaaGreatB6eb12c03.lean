/- The parts HH, HI, HJ, HN, HK, HO, HP, HQ, NIK, HS, SLXA, D25, HT, HU, HV, HW, HX, HY, NIQ, HZ, D25S of the engine and of the walk, one behind the other: no condition. -/
import Derived.Test.YtohglolecmgeoaaGreatB97a7b6e2
import Derived.Test.YtohglolecmgeoaaGreatB0846091a
import Derived.Test.YtohglolecmgeoaaGreatB68ecc3ae
import Derived.Test.YtohglolecmgeoaaGreatB75a9e7c7
import Derived.Test.YtohglolecmgeoaaGreatBc1cdae2c
import Derived.Test.YtohglolecmgeoaaGreatB8cc88581

set_option linter.all false
set_option maxRecDepth 20000
set_option synthInstance.maxSize 100000
set_option synthInstance.maxHeartbeats 400000
namespace Go.Proofs
open Go Go.SL
attribute [local irreducible] CCall CO CC CX CD
def famR1 : List (List CanIt) := [[.x 6 [], .x 7 [0, 1, 2, 3, 5], .x 8 []], [.x 7 [0, 1, 2, 3, 5], .x 6 [], .x 8 []]]
def famR2 : List (List CanIt) := [[.q 0, .q 1, .q 2, .q 3, .q 5, .x 7 [0, 1, 2, 3, 5], .x 4 [0, 1, 2, 5], .x 6 [], .x 8 []]]
theorem reported_spec {L M K b} {k : Nat} {x : LgL} {s : Lg} {R : Ros} {n d : Int} [pl : Pull (isLg b) L x M] (st : LgSt R k x s) (hn : 0 ≤ n ∧ n ≤ 2)
    (h : ∀ ov, One1 ov → Ht (isOuts ov (repL x.hm s n d) :: isLg b x :: M) (K ov)) :
    Ht L (CCall Tryz.prog 204 [.pointer (some ⟨b, 0, none⟩), .int .i64 n, .int .i64 d] K) := by
  refine Ht.pull pl ?_
  refine lg_at fun v ov => ?_
  refine ccall3 Tryz.func204 rfl (by decide) Tryz.ntmps204 (by rfl) (by decide) ?_
  repeat (refine stp ?_)
  intro b1
  repeat (refine stp ?_)
  refine Ht.own_lit SL.encI (b := b1) (n := 1) (xs := [n]) rfl rfl (by decide) ?_
  refine Compl_spec (x := x) (vp := v.vp) (ps := [n]) st.plen st.clen ⟨Nat.one_pos, by show 1 ≤ 100; decide⟩ ?_
  rewrite [cpl_one st.rp]
  unfold repL at h
  cases hw : withB x.hm s d n with
  | false =>
    rw [hw, if_neg (by decide)] at h
    repeat (refine stp ?_)
    try rewrite [Bool.not_false]
    repeat (refine stp ?_)
    refine ret1 rfl ?_
    refine lg_close (b := b) (x := x) (R := M) ov ?_
    exact Ht.conseq (h (.slice none 0 0) ⟨rfl⟩) fun w t => outs_nil t
  | true =>
    rw [hw, if_pos rfl] at h
    obtain ⟨es, hes⟩ : ∃ es, posE s (lnkB n) 0 d = es := ⟨_, rfl⟩
    repeat (refine stp ?_)
    try rewrite [Bool.not_true]
    repeat (refine stp ?_)
    refine ht_cutd .normal (ι := Nat × SVy) (fun _ => True) (fun y => pto y.1 (cells [svY y.2, .int .i64 (wHi (eCs es)), .int .u64 (wLo (eCs es))] 55) :: own encRw 109 (svY y.2) (rowsB es) :: isLg b x :: M) (fun y => [(7, .pointer (some ⟨y.1, 0, none⟩)), (0, .pointer (some ⟨b, 0, none⟩)), (1, .int .i64 n), (2, .int .i64 d)]) ?_ ?_
    · intro Q' hQ
      refine ht_drawA [4, 6, 7, 8] 4 [.q 0, .q 1, .q 2, .q 3, .q 5] [0, 1, 2, 5] famR1 famR2 Tryz.mixed (by kernel_rfl) ?_ ?_
      · dsimp only [List.cons_append, List.nil_append]
        repeat (refine stp ?_)
        refine link_spec hn ?_
        repeat (refine stp ?_)
        refine cdr_nil fun σ hσ => ?_
        simp only [famR1, List.mem_cons, List.mem_nil_iff, or_false] at hσ
        rcases hσ with rfl | rfl
        · repeat (refine stp ?_)
          refine DBy_ok (b := b) (o := 4) (l0 := lgC x v) (vd := v.vd) (D := x.D) (B := s.ents) (I := R.isins) st.rp.db st.bkg (by have := st.dlen; omega) fun rv orv => ?_
          rewrite [show posB s.ents (lnkB n) 0 d = es from hes]
          refine Ht.know (p := ∃ sv : SVy, rv = svY sv) (fun w t => svY_know t) (fun hsv => ?_)
          obtain ⟨sv, rfl⟩ := hsv
          repeat (refine stp ?_)
          intro c7
          repeat (refine stp ?_)
          exact cx_env inferInstance (lg_close (b := b) (x := x) (R := pto c7 (cells [svY sv, .int .i64 (wHi (eCs es)), .int .u64 (wLo (eCs es))] 55) :: own encRw 109 (svY sv) (rowsB es) :: M) ov (Ht.frm (hQ (c7, sv) trivial)))
        · repeat (refine stp ?_)
          intro c7
          repeat (refine stp ?_)
          refine DBy_ok (b := b) (o := 4) (l0 := lgC x v) (vd := v.vd) (D := x.D) (B := s.ents) (I := R.isins) st.rp.db st.bkg (by have := st.dlen; omega) fun rv orv => ?_
          rewrite [show posB s.ents (lnkB n) 0 d = es from hes]
          refine Ht.know (p := ∃ sv : SVy, rv = svY sv) (fun w t => svY_know t) (fun hsv => ?_)
          obtain ⟨sv, rfl⟩ := hsv
          repeat (refine stp ?_)
          exact cx_env inferInstance (lg_close (b := b) (x := x) (R := pto c7 (cells [svY sv, .int .i64 (wHi (eCs es)), .int .u64 (wLo (eCs es))] 55) :: own encRw 109 (svY sv) (rowsB es) :: M) ov (Ht.frm (hQ (c7, sv) trivial)))
      · intro π hπ
        simp only [famR2, List.mem_cons, List.mem_nil_iff, or_false] at hπ
        subst hπ
        repeat (refine stp ?_)
        intro c7
        repeat (refine stp ?_)
        refine link_spec hn ?_
        repeat (refine stp ?_)
        refine DBy_ok (b := b) (o := 4) (l0 := lgC x v) (vd := v.vd) (D := x.D) (B := s.ents) (I := R.isins) st.rp.db st.bkg (by have := st.dlen; omega) fun rv orv => ?_
        rewrite [show posB s.ents (lnkB n) 0 d = es from hes]
        refine Ht.know (p := ∃ sv : SVy, rv = svY sv) (fun w t => svY_know t) (fun hsv => ?_)
        obtain ⟨sv, rfl⟩ := hsv
        repeat (refine stp ?_)
        exact cx_env inferInstance (lg_close (b := b) (x := x) (R := pto c7 (cells [svY sv, .int .i64 (wHi (eCs es)), .int .u64 (wLo (eCs es))] 55) :: own encRw 109 (svY sv) (rowsB es) :: M) ov (Ht.frm (hQ (c7, sv) trivial)))
    intro ⟨c7, sv⟩ _
    dsimp only
    repeat (refine stp ?_)
    refine Ht.conseq (L' := isLg b x :: pto c7 (cells [svY sv, .int .i64 (wHi (eCs es)), .int .u64 (wLo (eCs es))] 55) :: own encRw 109 (svY sv) (rowsB es) :: M) ?_ (fun w t => (inferInstance : Frm _ _).h _ _ t)
    refine lg_at fun v2 ov2 => ?_
    refine ht_draw Tryz.can204x4 Tryz.mixed (by kernel_rfl) ?_
    repeat (refine stp ?_)
    intro c
    repeat (refine stp ?_)
    refine Ht.own_lit encOt (b := c) (n := 1) (xs := [((n, ntK 11 x.hm d noTd (rowsB es) (wHi (eCs es)) (wLo (eCs es))), sv)]) rfl rfl (by decide) ?_
    repeat (refine stp ?_)
    refine ret1 rfl ?_
    have hf := h (.slice (some ⟨c, 0, none⟩) 1 1) ⟨rfl⟩
    unfold repN at hf
    rw [hes] at hf
    refine lg_close (b := b) (x := x) (v := v2) (R := own encOt 69 (.slice (some ⟨c, 0, none⟩) 1 1) [((n, ntK 11 x.hm d noTd (rowsB es) (wHi (eCs es)) (wLo (eCs es))), sv)] :: own encRw 109 (svY sv) (rowsB es) :: M) ov2 ?_
    exact Ht.conseq hf fun w t => outs_one (sv := sv) ⟨rfl⟩ (Sat.rot [_] [_, _] t)
end Go.Proofs
namespace Go.Proofs
open Go Go.SL
attribute [local irreducible] CCall CO CC CX CD
theorem clRows_key : ∀ {l : List (Nat × Rows)} {i : Nat} {r : Int × Option Nat}, r ∈ clRows i l → (i : Int) < r.1 ∧ r.1 ≤ (i : Int) + l.length
  | [], i, r, h => by cases h
  | c :: l, i, r, h => by
    rcases List.mem_cons.1 h with rfl | h
    · simp; omega
    · have := clRows_key h
      simp at this ⊢; omega
theorem clRows_srt : ∀ {l : List (Nat × Rows)} {i : Nat}, Srt (clRows i l)
  | [], i => List.Pairwise.nil
  | c :: l, i => List.pairwise_cons.2 ⟨fun r hr => by
      have := clRows_key hr
      show decide (_ < _) = true
      simp at this ⊢; omega, clRows_srt⟩
theorem clRows_put {l : List (Nat × Rows)} {b : Nat} {rows : Rows} {d : Int} (hd : d = (l.length : Int) + 1) : tput d (some b) (clRows 0 l) = clRows 0 (l ++ [(b, rows)]) := by
  rw [tput_end (fun r hr => by
    have := clRows_key hr
    show decide (_ < _) = true
    simp at this ⊢; omega), clRows_app]
  congr 1
  rw [clRows, clRows, Nat.zero_add, hd]
theorem cs_push {b : Nat} {rows : Rows} {cls : List (Nat × Rows)} {L M1 M : List HP} {G : World → Prop} [p : Pull (isPr b) L rows M1] [q : Pull (bigO isCs) M1 cls M] (h : Ht (bigO isCs (cls ++ [(b, rows)]) :: M) G) : Ht L G :=
  Ht.conseq h fun w t => bigO_snoc.2 (seps_mono (fun _ a => a) (fun _ t => q.h _ _ t) (p.h _ _ t))
theorem next_t {hm : Int} {s : Lg} {n : Nt} (h : nextE hm s n = 0) : peerB hm s n.peer = true ∧ n.day = (endedL s n.peer : Int) + 1 := by
  unfold nextE at h
  split at h
  · exact absurd h (by decide)
  next hb =>
  split at h
  · exact absurd h (by decide)
  next hd => exact ⟨by simpa using hb, by omega⟩
theorem mark_spec {L L1 M K b} {k : Nat} {x : LgL} {s : Lg} {R : Ros} {n : Nt} {rv : Value} [pl : Pull (isLg b) L x L1] [pr : Pull (isRos x.ros) L1 R M] [rs : RdE M encRw rv n.rows] (st : LgSt R k x s) (orv : One1 rv) (hk : k + 1 ≤ 500) (hno : NtOk n) (hE : mayL R x.hm s n = 0) (hn : n.kind = 10)
    (h : DoneP R k b x s n M K) : Ht L (CCall Tryz.prog 138 [.pointer (some ⟨b, 0, none⟩), ntV n rv] K) := by
  refine Ht.conseq (L' := isLg b x :: isRos x.ros R :: M) ?_ (fun w s => seps_mono (fun _ a => a) (fun _ t => pr.h _ _ t) (pl.h _ _ s))
  have hrs : ∀ (M' : List HP) [fr : Frm M' M], RdE M' encRw rv n.rows := fun M' fr => ⟨fun w t => rs.h w (fr.h _ _ t)⟩
  obtain ⟨h0, hm⟩ := may_note hE
  unfold mayK at hm
  rw [if_neg (by omega), if_neg (by omega), if_neg (by omega), if_neg (by omega), if_neg (by omega), if_neg (by omega), if_neg (by omega), if_neg (by omega), if_neg (by omega), if_pos hn] at hm
  obtain ⟨hp, hdy⟩ := next_t hm
  have hD : doK R x.hm s n = (do10 s n, repL x.hm (do10 s n) n.peer n.day) := by unfold doK; rw [if_neg (by omega), if_neg (by omega), if_neg (by omega), if_neg (by omega), if_neg (by omega), if_neg (by omega), if_neg (by omega), if_neg (by omega), if_neg (by omega), if_pos hn]
  obtain ⟨q, P', hP, hP2, hpb, hpt, hnl, hq⟩ := pr_get2 st hp
  have hrw := rowsE_ok ((noteE_parts h0).2.2.2.2.2 ((@fm_k n.kind).2.2.2.2.2.2 (.inl hn)))
  have hel := endedL_le st.ok n.peer
  have hcl : endedL s n.peer = q.cls.length := by unfold endedL; rw [hpt]; exact List.length_map _
  have hnp := (noteE_parts h0).1 ((@fm_k n.kind).2.2.2.1 (by omega))
  refine lg_at fun v ov => ?_
  refine ccall2 Tryz.func138 rfl (by decide) Tryz.ntmps138 (by rfl) (by decide) ?_
  repeat (refine stp ?_)
  intro c3
  repeat (refine stp ?_)
  refine pOf_ok (T := n.rows) (sorted_srt hrw.2.2.1) hrw.1 (fun r hr => ⟨hrw.2.1 r hr, hrw.2.2.2 hn r hr⟩) fun b' => ?_
  repeat (refine stp ?_)
  refine ht_draw Tryz.can138x2 Tryz.mixed (by kernel_rfl) ?_
  repeat (refine stp ?_)
  refine peer_spec (x := x) (vp := v.vp) (n := n.peer) st.plen ?_
  rewrite [hpb, show pv (some q.blk) = .pointer (some ⟨q.blk, 0, none⟩) from rfl]
  refine Ht.big_look (f := isPt) hP ?_
  refine pt_open fun vd vr od or => ?_
  repeat (refine stp ?_)
  refine ip_put (b := q.blk) (o := 0) (l := [vd, vr, .bool q.shut, .int .i64 (q.legs : Int)]) (v := vd) (xs := clRows 0 q.cls) (k := n.day) (u := some b') (fun v' => ⟨_, ups_mk (by show 0 < 4; decide)⟩) clRows_srt (by rw [clRows_len]; omega) fun vd' l' hl' => ?_
  obtain ⟨_, rfl⟩ := ups_eq hl'
  rewrite [clRows_put (rows := n.rows) (show n.day = (q.cls.length : Int) + 1 by rw [hdy, hcl])]
  refine Ht.one1 (v := vd') ?_
  intro od'
  refine cs_push (b := b') (rows := n.rows) (cls := q.cls) ?_
  repeat (refine stp ?_)
  rewrite [show ([vd, vr, Value.bool q.shut, Value.int .i64 (q.legs : Int)] : List Value).set 0 vd' = [vd', vr, Value.bool q.shut, Value.int .i64 (q.legs : Int)] from rfl]
  obtain ⟨q', hq'⟩ : ∃ y, { q with cls := q.cls ++ [(b', n.rows)] } = y := ⟨_, rfl⟩
  refine pt_back (q := { q with cls := q.cls ++ [(b', n.rows)] }) (hP2 { q with cls := q.cls ++ [(b', n.rows)] }) od' or ?_
  rewrite [show (x.pts.map fun p => some p.blk) = ((x.pts.set n.peer.toNat { q with cls := q.cls ++ [(b', n.rows)] }).map fun p => some p.blk) from (blk_set (by omega) (by rw [hq])).symm]
  refine lg_close (b := b) (x := { x with pts := x.pts.set n.peer.toNat { q with cls := q.cls ++ [(b', n.rows)] } }) (v := v) (R := pto c3 (cells (ntC n rv) 63) :: isRos x.ros R :: M) ov ?_
  have rp1 := st.rp.upd hnl (q := { q with cls := q.cls ++ [(b', n.rows)] }) (f := fun p => { p with closed := p.closed ++ [n.rows] }) (by rw [hq]; unfold PtL.pt; dsimp only; rw [List.map_append]; rfl)
  obtain ⟨x1, hx1⟩ : ∃ y, { x with pts := x.pts.set n.peer.toNat { q with cls := q.cls ++ [(b', n.rows)] } } = y := ⟨_, rfl⟩
  have e2 : x1.hm = x.hm := by rw [← hx1]
  have e3 : x1.ros = x.ros := by rw [← hx1]
  rewrite [hx1]
  rw [hx1] at rp1
  have st1 : LgSt R (k + 1) x1 (doK R x.hm s n).1 := done_st st hk hno hE e2 (by rw [hD]; exact rp1.up)
  have st2 : LgSt R (k + 1) x1 (do10 s n) := by rw [hD] at st1; exact st1
  refine reported_spec (x := x1) (R := R) st2 (by omega) fun ov3 oov3 => ?_
  rewrite [e2]
  repeat (refine stp ?_)
  refine ret1 rfl ?_
  have hf := h x1 ov3 st1 e3 e2 oov3
  rw [hD] at hf
  exact Ht.frm hf
end Go.Proofs
namespace Go.Proofs
open Go Go.SL
attribute [local irreducible] CCall CO CC CX CD
theorem LgPeers_spec {L L1 M K b p} {x : LgL} {R : Ros} [pl : Pull (isLg b) L x L1] [pr : Pull (isRos p) L1 R M] (hp : x.ros = p)
    (h : ∀ v, One1 v → Ht (own SL.encI 3 v (peersR R x.hm) :: isLg b x :: isRos p R :: M) (K v)) : Ht L (CCall Tryz.prog 62 [.pointer (some ⟨b, 0, none⟩)] K) := by
  subst hp
  refine Ht.conseq (L' := isLg b x :: isRos x.ros R :: M) ?_ (fun w s => seps_mono (fun _ a => a) (fun _ t => pr.h _ _ t) (pl.h _ _ s))
  refine lg_at fun v ov => ?_
  refine peers_spec (x := x) (R := R) fun pv opv => ?_
  refine lg_close (b := b) (x := x) (v := v) (R := own SL.encI 3 pv (peersR R x.hm) :: isRos x.ros R :: M) ov ?_
  exact Ht.frm (h pv opv)
theorem peersL_eq {R : Ros} {hm : Int} {k : Nat} {s : Lg} (ok : LgOk R hm k s) : peersR R hm = peersL hm s := by
  have h1 := ok.home
  have h2 := ok.pts
  unfold peersR peersL
  rw [if_neg (by omega), show R.nodes.toNat = s.pts.length by omega]
  rfl
theorem may2_t {hm : Int} {s : Lg} (h : may2 hm s = 0) : dayL hm s ≤ 500 := by
  unfold may2 at h
  split at h
  · exact absurd h (by decide)
  · omega
theorem end_am {g on : Int} {xs : List Cll} (h : ∀ y ∈ xs, y.2.2.1 ≤ bigM) : ∀ y ∈ xsM g on xs xs.length, y.2.2.1 ≤ bigM := fun y hy => by
  rw [xsM_all] at hy
  obtain ⟨z, hz, rfl⟩ := List.mem_map.1 hy
  rw [lapC_day.2]; exact h z hz
theorem big_app {β : Type} {f : β → HP} {b : List β} {R : List HP} {e : Env} : ∀ {a : List β} {h : Hp}, seps (bigO f a :: bigO f b :: R) e h → seps (bigO f (a ++ b) :: R) e h
  | [], h, t => (bigO_nil (f := f)).1 t
  | x :: a, h, t => by
    have t2 : seps (f x :: bigO f a :: bigO f b :: R) e h := (bigO_split (l1 := [])).1 t
    have t3 : seps (f x :: bigO f (a ++ b) :: R) e h := seps_mono (fun _ a => a) (fun _ t => big_app t) t2
    exact (bigO_split (l1 := [])).2 t3
theorem outs_merge {a b : List OutL} {L M1 M : List HP} {G : World → Prop} [p : Pull (bigO hOt) L b M1] [q : Pull (bigO hOt) M1 a M] (h : Ht (bigO hOt (a ++ b) :: M) G) : Ht L G :=
  Ht.conseq h fun w t => bigO_perm List.perm_append_comm (big_app (seps_mono (fun _ a => a) (fun _ t => q.h _ _ t) (p.h _ _ t)))
theorem outs_push {o : OutL} {a : List OutL} {L M1 M : List HP} {G : World → Prop} [p : Pull (own encRw 109 (svY o.2)) L o.1.2.rows M1] [q : Pull (bigO hOt) M1 a M] (h : Ht (bigO hOt (a ++ [o]) :: M) G) : Ht L G :=
  Ht.conseq h fun w t => bigO_snoc.2 (seps_mono (fun _ a => a) (fun _ t => q.h _ _ t) (p.h _ _ t))
theorem endR_x {g e on : Int} {xs xs' : List Cll} {fs fs' : List (ByteArray × Bool)} {e' : Int} {out : List Cll} (h : EndR g e on xs fs e' xs' fs' out) : xs' = if endOk e on then xsM g on xs xs.length else xs := by
  rcases h with ⟨h0, h1, h2, h3, h4⟩ | ⟨h0, h1, h2, h3, h4⟩
  · rw [if_neg h0]; assumption
  · rw [if_pos h0]; assumption
theorem endR_f {g e on : Int} {xs xs' : List Cll} {fs fs' : List (ByteArray × Bool)} {e' : Int} {out : List Cll} (h : EndR g e on xs fs e' xs' fs' out) : fs' = if endOk e on then fsM g on xs fs xs.length else fs := by
  rcases h with ⟨h0, h1, h2, h3, h4⟩ | ⟨h0, h1, h2, h3, h4⟩
  · rw [if_neg h0]; assumption
  · rw [if_pos h0]; assumption
theorem endR_e {g e on : Int} {xs xs' : List Cll} {fs fs' : List (ByteArray × Bool)} {e' : Int} {out : List Cll} (h : EndR g e on xs fs e' xs' fs' out) : e' = if endOk e on then on else e := by
  rcases h with ⟨h0, h1, h2, h3, h4⟩ | ⟨h0, h1, h2, h3, h4⟩
  · rw [if_neg h0]; assumption
  · rw [if_pos h0]; assumption
theorem cut_spec {L L1 M K b} {k : Nat} {x : LgL} {s : Lg} {R : Ros} {n : Nt} {rv : Value} [pl : Pull (isLg b) L x L1] [pr : Pull (isRos x.ros) L1 R M] (st : LgSt R k x s) (orv : One1 rv) (hk : k + 1 ≤ 500) (hno : NtOk n) (hE : mayL R x.hm s n = 0) (hn : n.kind = 2)
    (h : DoneP R k b x s n M K) : Ht L (CCall Tryz.prog 122 [.pointer (some ⟨b, 0, none⟩), ntV n rv] K) := by
  refine Ht.conseq (L' := isLg b x :: isRos x.ros R :: M) ?_ (fun w s => seps_mono (fun _ a => a) (fun _ t => pr.h _ _ t) (pl.h _ _ s))
  obtain ⟨h0, hm⟩ := may_note hE
  unfold mayK at hm
  rw [if_neg (by omega), if_pos hn] at hm
  have hday := may2_t hm
  have hD : doK R x.hm s n = do2 x.hm s := by unfold doK; rw [if_neg (by omega), if_pos hn]
  have hhm := st.hm
  have hp3 := st.plen3
  have hnl : 0 ≤ x.hm ∧ x.hm < x.pts.length := by omega
  obtain ⟨P', hP, hP2⟩ := pts_set hnl
  have hpb : ptBlk x x.hm = some (x.pts[x.hm.toNat]!).blk := by unfold ptBlk; rw [if_pos hnl]
  have hpt := st.rp.pt hnl
  obtain ⟨q, hq⟩ : ∃ q, x.pts[x.hm.toNat]! = q := ⟨_, rfl⟩
  rw [hq] at hP hpb hpt
  have hel := endedL_le st.ok x.hm
  have hcl : endedL s x.hm = q.cls.length := by unfold endedL; rw [hpt]; exact List.length_map _
  have hj := st.ok.calls
  have hfl := hj.js.fl
  have hxl := hj.js.xl
  have hk0 := st.hk
  have hps := st.ok.pr.srt
  have hpl := st.ok.pr.len
  refine lg_at fun v ov => ?_
  refine ccall2 Tryz.func122 rfl (by decide) Tryz.ntmps122 (by rfl) (by decide) ?_
  repeat (refine stp ?_)
  intro c3
  repeat (refine stp ?_)
  refine Day_spec (x := x) (vp := v.vp) st.plen st.clen ?_
  rewrite [st.rp.ended, show (((endedL s x.hm : Nat) : Int) + 1) = dayL x.hm s from rfl]
  repeat (refine stp ?_)
  refine ht_draw Tryz.can122x2 Tryz.mixed (by kernel_rfl) ?_
  repeat (refine stp ?_)
  refine party_spec (x := x) (vp := v.vp) (n := x.hm) st.plen ?_
  rewrite [hpb, show pv (some q.blk) = .pointer (some ⟨q.blk, 0, none⟩) from rfl]
  repeat (refine stp ?_)
  refine pCopy_ok (b := x.prb) (T := x.prices) (by rw [st.rp.pr]; exact hps) (by rw [st.rp.pr]; exact hpl) fun b' => ?_
  refine Ht.big_look (f := isPt) hP ?_
  refine pt_open fun vd vr od or => ?_
  repeat (refine stp ?_)
  refine ip_put (b := q.blk) (o := 0) (l := [vd, vr, .bool q.shut, .int .i64 (q.legs : Int)]) (v := vd) (xs := clRows 0 q.cls) (k := dayL x.hm s) (u := some b') (fun v' => ⟨_, ups_mk (by show 0 < 4; decide)⟩) clRows_srt (by rw [clRows_len]; omega) fun vd' l' hl' => ?_
  obtain ⟨_, rfl⟩ := ups_eq hl'
  rewrite [clRows_put (rows := x.prices) (show dayL x.hm s = (q.cls.length : Int) + 1 by unfold dayL; rw [hcl])]
  refine Ht.one1 (v := vd') ?_
  intro od'
  refine cs_push (b := b') (rows := x.prices) (cls := q.cls) ?_
  rewrite [show ([vd, vr, Value.bool q.shut, Value.int .i64 (q.legs : Int)] : List Value).set 0 vd' = [vd', vr, Value.bool q.shut, Value.int .i64 (q.legs : Int)] from rfl]
  repeat (refine stp ?_)
  refine cl_endR (b := x.clb) (lv := v.vl) (tv := v.vf) (g := 1) (e := x.cend) (on := dayL x.hm s) (xs := x.xs) (fs := x.fs) (by rw [st.rp.fs]; exact hj.js.srt) (by rw [st.rp.fs]; omega) (by rw [st.rp.xs]; omega) (by decide) fun gv e' tv' xs' fs' out hend ogv => ?_
  refine Ht.know (p := One1 tv') (fun w t => one1_of (own_sat t.tail)) (fun otv => ?_)
  refine pt_back (q := { q with cls := q.cls ++ [(b', x.prices)] }) (hP2 { q with cls := q.cls ++ [(b', x.prices)] }) od' or ?_
  rewrite [show (x.pts.map fun p => some p.blk) = ((x.pts.set x.hm.toNat { q with cls := q.cls ++ [(b', x.prices)] }).map fun p => some p.blk) from (blk_set (by omega) (by rw [hq])).symm]
  refine lg_close (b := b) (x := { x with pts := x.pts.set x.hm.toNat { q with cls := q.cls ++ [(b', x.prices)] }, xs := xs', fs := fs', cend := e' }) (v := { v with vf := tv' }) (R := pto c3 (cells (ntC n rv) 63) :: isRos x.ros R :: M) ⟨ov.p, ov.i, ov.d, ov.a, ov.o, ov.l, otv⟩ ?_
  have rp1 := (st.rp.upd hnl (q := { q with cls := q.cls ++ [(b', x.prices)] }) (f := fun p => { p with closed := p.closed ++ [s.prices] }) (by rw [hq, ← st.rp.pr]; unfold PtL.pt; dsimp only; rw [List.map_append]; rfl)).calls' (xs' := xs') (fs' := fs') (e' := e') (xs := if endOk s.cend (dayL x.hm s) then xsM 1 (dayL x.hm s) s.xs s.xs.length else s.xs) (fs := if endOk s.cend (dayL x.hm s) then fsM 1 (dayL x.hm s) s.xs s.fs s.xs.length else s.fs) (e := if endOk s.cend (dayL x.hm s) then dayL x.hm s else s.cend)
    (by rw [← st.rp.xs, ← st.rp.ce]; exact endR_x hend) (by rw [← st.rp.xs, ← st.rp.ce, ← st.rp.fs]; exact endR_f hend) (by rw [← st.rp.ce]; exact endR_e hend) (by
      split
      · exact end_am st.rp.cam
      · exact st.rp.cam)
  obtain ⟨x1, hx1⟩ : ∃ y, { x with pts := x.pts.set x.hm.toNat { q with cls := q.cls ++ [(b', x.prices)] }, xs := xs', fs := fs', cend := e' } = y := ⟨_, rfl⟩
  have e2 : x1.hm = x.hm := by rw [← hx1]
  have e3 : x1.ros = x.ros := by rw [← hx1]
  have e4 : x1.prb = x.prb ∧ x1.prices = x.prices := by rw [← hx1]; exact ⟨rfl, rfl⟩
  rewrite [hx1]
  have st1 : LgSt R (k + 1) x1 (doK R x.hm s n).1 := done_st st hk hno hE e2 (by rw [hD, ← hx1]; exact rp1.up)
  have st2 : LgSt R (k + 1) x1 (cutL x.hm s) := by rw [hD] at st1; exact st1
  repeat (refine stp ?_)
  refine LgPeers_spec (x := x1) (p := x.ros) (R := R) e3 fun pv opv => ?_
  rewrite [e2]
  have hpl3 := peersR_len st.ok.ros (n := x.hm)
  obtain ⟨ps, hpe⟩ : ∃ ps, peersR R x.hm = ps := ⟨_, rfl⟩
  obtain ⟨dd, hdd⟩ : ∃ dd, dayL x.hm s = dd := ⟨_, rfl⟩
  have hpp : ∀ p ∈ ps, 0 ≤ p ∧ p < R.nodes ∧ p ≠ x.hm := fun p hp => peersR_pos p (by rw [hpe]; exact hp)
  rw [hpe] at hpl3
  rewrite [hpe, hdd]
  repeat (refine stp ?_)
  refine cc_env (E' := [(38, .int .i64 0), (37, .int .i64 (ps.length : Int)), (36, pv), (6, .slice none 0 0), (5, .int .i64 dd), (0, .pointer (some ⟨b, 0, none⟩))]) inferInstance ?_
  refine ht_for ps.length (fun i (y : Value × List OutL) => One1 y.1 ∧ y.2.map Prod.fst = (ps.take i).map fun p => (p, ntK 10 x.hm dd noTd s.prices 0 0)) (fun i y => own encOt 69 y.1 y.2 :: bigO hOt y.2 :: isLg b x1 :: own SL.encI 3 pv ps :: isRos x.ros R :: M) (fun i y => [(38, .int .i64 (i : Int)), (6, y.1)]) (.slice none 0 0, []) [38, 6] ⟨⟨rfl⟩, rfl⟩ (fun w t => own_nil.2 (bigO_nil.2 ((inferInstance : Frm _ _).h _ _ t))) inferInstance ?_
  intro i ⟨lv, ls⟩ hi ⟨olv, hls⟩
  dsimp only at olv hls
  dsimp only [List.cons_append, List.nil_append]
  have hll : ls.length = i := by
    have := congrArg List.length hls
    rw [List.length_map, List.length_map, List.length_take] at this
    omega
  repeat (refine stp ?_)
  refine ht_if ?_ ?_ <;> intro hc <;> simp only [decide_eq_true_eq, decide_eq_false_iff_not] at hc
  · have hii : i < ps.length := by omega
    repeat (refine stp ?_)
    refine co_index (xs := ps) (by omega) ?_
    intro hb
    repeat (refine stp ?_)
    refine Ht.conseq (L' := isLg b x1 :: own encOt 69 lv ls :: bigO hOt ls :: own SL.encI 3 pv ps :: isRos x.ros R :: M) ?_ (fun w t => (inferInstance : Frm _ _).h _ _ t)
    refine lg_at fun v3 ov3 => ?_
    refine ht_draw Tryz.can122x8 Tryz.mixed (by kernel_rfl) ?_
    repeat (refine stp ?_)
    refine pRows_ok (b := x1.prb) (T := x1.prices) (by rw [e4.2, st.rp.pr]; omega) fun u ou => ?_
    refine Ht.know (p := ∃ sv : SVy, u = svY sv) (fun w t => svY_know t) (fun hsv => ?_)
    obtain ⟨sv, rfl⟩ := hsv
    repeat (refine stp ?_)
    intro b1
    repeat (refine stp ?_)
    refine Ht.own_lit encOt (b := b1) (n := 1) (xs := [((ps[i]!, ntK 10 x1.hm dd noTd x1.prices 0 0), sv)]) rfl rfl (by decide) ?_
    refine co_append (e := encOt) (xs := ls) (ys := [((ps[i]!, ntK 10 x1.hm dd noTd x1.prices 0 0), sv)]) (by rfl) (by simp; omega) (by simp; omega) ?_
    intro v2
    refine Ht.one1 (v := v2) ?_
    intro ov2
    repeat (refine stp ?_)
    refine outs_push (o := ((ps[i]!, ntK 10 x1.hm dd noTd x1.prices 0 0), sv)) (a := ls) ?_
    refine lg_close (b := b) (x := x1) (v := v3) (R := own encOt 69 v2 (ls ++ [((ps[i]!, ntK 10 x1.hm dd noTd x1.prices 0 0), sv)]) :: bigO hOt (ls ++ [((ps[i]!, ntK 10 x1.hm dd noTd x1.prices 0 0), sv)]) :: own SL.encI 3 pv ps :: isRos x.ros R :: M) ov3 ?_
    refine ht_next (v2, ls ++ [((ps[i]!, ntK 10 x1.hm dd noTd x1.prices 0 0), sv)]) hii ⟨ov2, by rw [List.map_append, hls, takeSnoc hii, List.map_append, e2, e4.2, st.rp.pr]; rfl⟩ (fun w t => (inferInstance : Frm _ _).h _ _ t) (SubE.cons (by rw [IntWalk.i64_in _ (by omega)]; rfl) (SubE.cons rfl inferInstance)) rfl rfl
  · have he : i = ps.length := by omega
    subst he
    rw [List.take_length] at hls
    repeat (refine stp ?_)
    refine LgPeers_spec (x := x1) (p := x.ros) (R := R) e3 fun pv2 opv2 => ?_
    rewrite [e2, hpe]
    repeat (refine stp ?_)
    refine cc_env (E' := [(62, .int .i64 0), (61, .int .i64 (ps.length : Int)), (60, pv2), (6, lv), (5, .int .i64 dd), (0, .pointer (some ⟨b, 0, none⟩))]) inferInstance ?_
    refine ht_for ps.length (fun i (y : Value × List OutL) => One1 y.1 ∧ y.2.length ≤ 10 + 10 * i ∧ y.2.map Prod.fst = (ps.map fun p => (p, ntK 10 x.hm dd noTd s.prices 0 0)) ++ (ps.take i).flatMap fun p => repL x.hm (cutL x.hm s) p dd) (fun i y => own encOt 69 y.1 y.2 :: bigO hOt y.2 :: isLg b x1 :: own SL.encI 3 pv2 ps :: isRos x.ros R :: M) (fun i y => [(62, .int .i64 (i : Int)), (6, y.1)]) (lv, ls) [62, 6] ⟨olv, by dsimp only; omega, by rw [List.take_zero, List.flatMap_nil, List.append_nil]; exact hls⟩ (fun w t => (inferInstance : Frm _ _).h _ _ t) inferInstance ?_
    intro j ⟨lw, lt⟩ hj2 ⟨olw, hln, hlt⟩
    dsimp only at olw hlt hln
    dsimp only [List.cons_append, List.nil_append]
    repeat (refine stp ?_)
    refine ht_if ?_ ?_ <;> intro hc2 <;> simp only [decide_eq_true_eq, decide_eq_false_iff_not] at hc2
    · have hjj : j < ps.length := by omega
      have hpj := hpp _ (List.mem_of_getElem? (getB hjj))
      have hn3 := st.ok.ros.nodes
      repeat (refine stp ?_)
      refine co_index (xs := ps) (by omega) ?_
      intro hb2
      repeat (refine stp ?_)
      refine Ht.conseq (L' := isLg b x1 :: own encOt 69 lw lt :: bigO hOt lt :: own SL.encI 3 pv2 ps :: isRos x.ros R :: M) ?_ (fun w t => (inferInstance : Frm _ _).h _ _ t)
      refine reported_spec (x := x1) (R := R) st2 (by omega) fun ov5 oov5 => ?_
      refine outs_open fun l5 _ hl5 => ?_
      rw [e2] at hl5
      have hl5n : l5.length ≤ 1 := by
        have := congrArg List.length hl5
        rw [List.length_map] at this
        rw [this]; unfold repL; split <;> simp
      repeat (refine stp ?_)
      refine co_append (e := encOt) (xs := lt) (ys := l5) (by rfl) (by omega) (by omega) ?_
      intro v2
      refine Ht.one1 (v := v2) ?_
      intro ov2
      repeat (refine stp ?_)
      refine outs_merge (a := lt) (b := l5) ?_
      refine ht_next (v2, lt ++ l5) hjj ⟨ov2, by rw [List.length_append]; omega, by rw [List.map_append, hlt, hl5, takeSnoc hjj, List.flatMap_append, List.append_assoc]; simp⟩ (fun w t => (inferInstance : Frm _ _).h _ _ t) (SubE.cons (by rw [IntWalk.i64_in _ (by omega)]; rfl) (SubE.cons rfl inferInstance)) rfl rfl
    · have he2 : j = ps.length := by omega
      subst he2
      rw [List.take_length] at hlt
      repeat (refine stp ?_)
      refine ret1 rfl ?_
      have hf := h x1 lw st1 e3 e2 olw
      have ho : (doK R x.hm s n).2 = lt.map Prod.fst := by
        rw [hD, hlt]
        unfold do2
        rw [← peersL_eq st.ok, hpe, hdd]
      rw [ho] at hf
      exact Ht.conseq hf fun w t => outs_shut olw rfl ((inferInstance : Frm _ _).h _ _ t)
end Go.Proofs
namespace Go.Proofs
open Go Go.SL
attribute [local irreducible] CCall CO CC CX CD
def pt0 : Pt := ⟨[], [], false, 0⟩
def lg0 (n : Nat) : Lg := ⟨List.replicate n pt0, [], [], [], 0, [], [], [], 0⟩
theorem lg0_ok {R : Ros} (ok : RosOk R) {hm : Int} (h : 0 ≤ hm ∧ hm < R.nodes) : LgOk R hm 0 (lg0 R.nodes.toNat) := by
  have hn := ok.nodes
  have hp : ∀ p ∈ (lg0 R.nodes.toNat).pts, p = pt0 := fun p hp => List.eq_of_mem_replicate hp
  refine ⟨ok, h, ?_, Nat.zero_le _, fun p hp' => ?_, fun x hx => (by cases hx), Nat.zero_le _, fun j => rfl, rfl, ⟨List.Pairwise.nil, Nat.zero_le _, fun r hr => (by cases hr)⟩, fun r hr => (by cases hr), fun p hp' => ?_, fun p hp' => ?_, fun x hx => (by cases hx), fun m => ?_, JP.nil, ⟨Int.le_refl _, by show (0 : Int) ≤ 500; decide⟩⟩
  · show ((List.replicate R.nodes.toNat pt0).length : Int) = R.nodes
    rw [List.length_replicate]; omega
  · rw [hp p hp']; exact Nat.zero_le _
  · rw [hp p hp']; exact ⟨Nat.zero_le _, fun l hl => (by cases hl)⟩
  · rw [hp p hp']; exact ⟨Nat.zero_le _, fun l hl => (by cases hl)⟩
  · show (0 : Int) ≤ mostP; decide
theorem lg0_rep {x : LgL} {n : Nat} (hp : x.pts.map PtL.pt = List.replicate n pt0) (h : x.ids = [] ∧ x.D = [] ∧ x.T = [] ∧ x.n = 0 ∧ x.prices = [] ∧ x.settled = 0 ∧ x.P = [] ∧ x.xs = [] ∧ x.fs = [] ∧ x.cend = 0) : LgRep 0 x (lg0 n) := by
  obtain ⟨h1, h2, h3, h4, h5, h6, h7, h8, h9, h10⟩ := h
  refine ⟨hp, by rw [h1]; exact List.Pairwise.nil, by rw [h1]; rfl, fun i => by rw [h1]; simp [thas, tfind, lg0], ?_, by rw [h3]; exact AccT.nil, by rw [h4]; rfl, h5, h6, by rw [h7]; exact List.Pairwise.nil, by rw [h7]; exact Nat.zero_le _, fun m => by rw [h7]; rfl, fun y hy => (by rw [h7] at hy; cases hy), h8, h9, h10, Nat.zero_le _, fun y hy => (by cases hy)⟩
  rw [h2]
  exact ⟨List.Pairwise.nil, fun d => by simp [lg0], fun y hy => (by cases hy)⟩
theorem pt_new {c : Nat} {R : List HP} {w : World} (t : Sat (pto c (cells [.slice none 0 0, .slice none 0 0, .bool false, .int .i64 0] 191) :: R) w) : Sat (isPt ⟨c, [], [], false, 0⟩ :: R) w := by
  have t1 : Sat (own enc_ip 279 (.slice none 0 0) [] :: own encHo 55 (.slice none 0 0) [] :: bigO isCs [] :: bigO hwn [] :: pto c (cells [.slice none 0 0, .slice none 0 0, .bool false, .int .i64 0] 191) :: R) w := own_nil.2 (own_nil.2 (bigO_nil.2 (bigO_nil.2 t)))
  exact pt_shut (x := ⟨c, [], [], false, 0⟩) (vd := .slice none 0 0) (vr := .slice none 0 0) ⟨rfl⟩ ⟨rfl⟩ (Sat.rot [_, _, _, _] [_] t1)
theorem LNew_spec {L M K p} {R : Ros} {hm : Int} [pl : Pull (isRos p) L R M]
    (hE : hm < 0 ∨ R.nodes ≤ hm → Ht (isRos p R :: M) (K (.tuple #[.pointer none, .int .i64 5])))
    (hG : 0 ≤ hm → hm < R.nodes → ∀ b x, LgSt R 0 x (lg0 R.nodes.toNat) → x.ros = p → x.hm = hm → Ht (isLg b x :: isRos p R :: M) (K (.tuple #[.pointer (some ⟨b, 0, none⟩), .int .i64 0]))) :
    Ht L (CCall Tryz.prog 26 [.pointer (some ⟨p, 0, none⟩), .int .i64 hm] K) := by
  refine Ht.conseq (L' := isRos p R :: M) ?_ (fun w t => pl.sat t)
  refine Ht.know (p := RosOk R) (fun w t => ros_ok t) (fun ok => ?_)
  have hn3 := ok.nodes
  refine ccall2 Tryz.func26 rfl (by decide) Tryz.ntmps26 (by rfl) (by decide) ?_
  repeat (refine stp ?_)
  by_cases h0 : hm < 0
  · rewrite [decide_eq_true h0]
    repeat (refine stp ?_)
    exact ret2 rfl (hE (.inl h0))
  rewrite [decide_eq_false h0]
  repeat (refine stp ?_)
  refine RNodes_spec ?_
  repeat (refine stp ?_)
  by_cases h1 : R.nodes ≤ hm
  · rewrite [decide_eq_true h1]
    repeat (refine stp ?_)
    exact ret2 rfl (hE (.inr h1))
  rewrite [decide_eq_false h1]
  repeat (refine stp ?_)
  refine cl_new (fun hh => absurd hh (by decide)) (fun _ _ clb => ?_)
  repeat (refine stp ?_)
  try rewrite [show decide ((0 : Int) ≠ 0) = false from rfl]
  repeat (refine stp ?_)
  intro prb
  repeat (refine stp ?_)
  intro b
  repeat (refine stp ?_)
  refine RNodes_spec ?_
  repeat (refine stp ?_)
  obtain ⟨m, hm2⟩ : ∃ m : Nat, R.nodes = m := ⟨R.nodes.toNat, by omega⟩
  rewrite [hm2]
  refine cc_env (E' := [(37, .int .i64 0), (36, .int .i64 (m : Int)), (8, .pointer (some ⟨b, 0, none⟩))]) inferInstance ?_
  refine ht_for m (fun i (y : Value × List PtL) => One1 y.1 ∧ y.2.map PtL.pt = List.replicate i pt0) (fun i y => pto b (cells [.pointer (some ⟨p, 0, none⟩), .int .i64 hm, y.1, .slice none 0 0, .slice none 0 0, .slice none 0 0, .int .i64 0, .pointer (some ⟨prb, 0, none⟩), .int .i64 0, .slice none 0 0, .slice none 0 0, .pointer (some ⟨clb, 0, none⟩)] 149) :: own encPv 180 y.1 (y.2.map fun p => some p.blk) :: bigO isPt y.2 :: isRos p R :: pto prb (cells [.slice none 0 0] 201) :: pto clb (cells [.int .i64 1, .int .i64 0, .slice none 0 0, .slice none 0 0] 289) :: M) (fun i y => [(37, .int .i64 (i : Int))]) (.slice none 0 0, []) [37] ⟨⟨rfl⟩, rfl⟩ (fun w t => by
    have t1 : Sat (own encPv 180 (.slice none 0 0) [] :: bigO isPt [] :: _) w := own_nil.2 (bigO_nil.2 t)
    dsimp only
    rw [List.map_nil]
    exact (inferInstance : Frm _ _).h _ _ t1) inferInstance ?_
  intro i ⟨lv, ps⟩ hi ⟨olv, hps⟩
  dsimp only at olv hps
  dsimp only [List.cons_append, List.nil_append]
  have hpl : ps.length = i := by
    have := congrArg List.length hps
    rwa [List.length_map, List.length_replicate] at this
  have hml : (ps.map fun p => some p.blk).length = i := by rw [List.length_map, hpl]
  repeat (refine stp ?_)
  refine ht_if ?_ ?_ <;> intro hcc <;> simp only [decide_eq_true_eq, decide_eq_false_iff_not] at hcc
  · have hii : i < m := by omega
    repeat (refine stp ?_)
    intro c
    repeat (refine stp ?_)
    intro b1
    repeat (refine stp ?_)
    refine Ht.own_lit encPv (b := b1) (n := 1) (xs := [some c]) rfl rfl (by decide) ?_
    refine co_append (e := encPv) (xs := ps.map fun (q : PtL) => some q.blk) (ys := [some c]) (by rfl) (by rw [hml]; simp; omega) (by rw [hml]; simp; omega) ?_
    intro v2
    refine Ht.one1 (v := v2) ?_
    intro ov2
    repeat (refine stp ?_)
    refine ht_next (v2, ps ++ [⟨c, [], [], false, 0⟩]) hii ⟨ov2, by rw [List.map_append, hps, List.replicate_succ']; rfl⟩ (fun w t => ?_) (SubE.cons (by rw [IntWalk.i64_in _ (by omega)]; rfl) inferInstance) rfl rfl
    dsimp only
    rw [List.map_append, List.map_cons, List.map_nil]
    have t1 : Sat (pto c (cells [.slice none 0 0, .slice none 0 0, .bool false, .int .i64 0] 191) :: own encPv 180 v2 ((ps.map fun (q : PtL) => some q.blk) ++ [some c]) :: pto b (cells [.pointer (some ⟨p, 0, none⟩), .int .i64 hm, v2, .slice none 0 0, .slice none 0 0, .slice none 0 0, .int .i64 0, .pointer (some ⟨prb, 0, none⟩), .int .i64 0, .slice none 0 0, .slice none 0 0, .pointer (some ⟨clb, 0, none⟩)] 149) :: bigO isPt ps :: isRos p R :: pto prb (cells [.slice none 0 0] 201) :: pto clb (cells [.int .i64 1, .int .i64 0, .slice none 0 0, .slice none 0 0] 289) :: M) w := (inferInstance : Frm _ _).h _ _ t
    have t2 := pt_new t1
    have t3 : Sat (isPt ⟨c, [], [], false, 0⟩ :: bigO isPt ps :: own encPv 180 v2 ((ps.map fun (q : PtL) => some q.blk) ++ [some c]) :: pto b (cells [.pointer (some ⟨p, 0, none⟩), .int .i64 hm, v2, .slice none 0 0, .slice none 0 0, .slice none 0 0, .int .i64 0, .pointer (some ⟨prb, 0, none⟩), .int .i64 0, .slice none 0 0, .slice none 0 0, .pointer (some ⟨clb, 0, none⟩)] 149) :: isRos p R :: pto prb (cells [.slice none 0 0] 201) :: pto clb (cells [.int .i64 1, .int .i64 0, .slice none 0 0, .slice none 0 0] 289) :: M) w := (inferInstance : Frm _ _).h _ _ t2
    have t4 := (bigO_snoc (f := isPt)).2 t3
    exact (inferInstance : Frm _ _).h _ _ t4
  · have he : i = m := by omega
    subst he
    repeat (refine stp ?_)
    refine ret2 rfl ?_
    have hbb := hG (by omega) (by omega) b ⟨p, hm, ps, [], [], [], 0, prb, [], 0, [], clb, [], [], 0⟩ ⟨lg0_ok ok (show 0 ≤ hm ∧ hm < R.nodes from ⟨by omega, by omega⟩), lg0_rep (by rw [hps, hm2]; rfl) ⟨rfl, rfl, rfl, rfl, rfl, rfl, rfl, rfl, rfl, rfl⟩, by omega⟩ rfl rfl
    refine Ht.conseq hbb fun w t => ?_
    have t1 : Sat (own enc_sl 393 (.slice none 0 0) [] :: own enc_lb 431 (.slice none 0 0) [] :: own enc_ia 514 (.slice none 0 0) (dRows []) :: own enc_sh 517 (.slice none 0 0) [] :: bigO isDy [] :: bigO hown [] :: own enc_so 467 (.slice none 0 0) (pRows []) :: bigO isLt [] :: own encCl 299 (.slice none 0 0) [] :: own enc_sb 317 (.slice none 0 0) [] :: pto b (cells [.pointer (some ⟨p, 0, none⟩), .int .i64 hm, lv, .slice none 0 0, .slice none 0 0, .slice none 0 0, .int .i64 0, .pointer (some ⟨prb, 0, none⟩), .int .i64 0, .slice none 0 0, .slice none 0 0, .pointer (some ⟨clb, 0, none⟩)] 149) :: own encPv 180 lv (ps.map fun (q : PtL) => some q.blk) :: bigO isPt ps :: isRos p R :: pto prb (cells [.slice none 0 0] 201) :: pto clb (cells [.int .i64 1, .int .i64 0, .slice none 0 0, .slice none 0 0] 289) :: M) w := own_nil.2 (own_nil.2 (own_nil.2 (own_nil.2 (bigO_nil.2 (bigO_nil.2 (own_nil.2 (bigO_nil.2 (own_nil.2 (own_nil.2 t)))))))))
    have t2 : Sat (pto prb (cells [.slice none 0 0] 201) :: own enc_sl 393 (.slice none 0 0) [] :: own enc_lb 431 (.slice none 0 0) [] :: own enc_ia 514 (.slice none 0 0) (dRows []) :: own enc_sh 517 (.slice none 0 0) [] :: bigO isDy [] :: bigO hown [] :: own enc_so 467 (.slice none 0 0) (pRows []) :: bigO isLt [] :: own encCl 299 (.slice none 0 0) [] :: own enc_sb 317 (.slice none 0 0) [] :: pto b (cells [.pointer (some ⟨p, 0, none⟩), .int .i64 hm, lv, .slice none 0 0, .slice none 0 0, .slice none 0 0, .int .i64 0, .pointer (some ⟨prb, 0, none⟩), .int .i64 0, .slice none 0 0, .slice none 0 0, .pointer (some ⟨clb, 0, none⟩)] 149) :: own encPv 180 lv (ps.map fun (q : PtL) => some q.blk) :: bigO isPt ps :: isRos p R :: pto clb (cells [.int .i64 1, .int .i64 0, .slice none 0 0, .slice none 0 0] 289) :: M) w := (inferInstance : Frm _ _).h _ _ t1
    have t3 := pr_shut (b := prb) (T := []) ⟨rfl⟩ t2
    exact lg_shut (v := ⟨lv, .slice none 0 0, .slice none 0 0, .slice none 0 0, .slice none 0 0, .slice none 0 0, .slice none 0 0⟩) ⟨olv, ⟨rfl⟩, ⟨rfl⟩, ⟨rfl⟩, ⟨rfl⟩, ⟨rfl⟩, ⟨rfl⟩⟩ ((inferInstance : Frm _ (pto b (cells [.pointer (some ⟨p, 0, none⟩), .int .i64 hm, lv, .slice none 0 0, .slice none 0 0, .slice none 0 0, .int .i64 0, .pointer (some ⟨prb, 0, none⟩), .int .i64 0, .slice none 0 0, .slice none 0 0, .pointer (some ⟨clb, 0, none⟩)] 149) :: own encPv 180 lv (ps.map fun (q : PtL) => some q.blk) :: bigO isPt ps :: own enc_lb 431 (.slice none 0 0) [] :: own enc_ia 514 (.slice none 0 0) (dRows []) :: own enc_sh 517 (.slice none 0 0) [] :: bigO isDy [] :: bigO hown [] :: isPr prb [] :: own enc_so 467 (.slice none 0 0) (pRows []) :: bigO isLt [] :: pto clb (cells [.int .i64 1, .int .i64 0, .slice none 0 0, .slice none 0 0] 289) :: own encCl 299 (.slice none 0 0) [] :: own enc_sb 317 (.slice none 0 0) [] :: isRos p R :: M)).h _ _ t3)
end Go.Proofs
namespace Go.Proofs
open Go Go.SL
attribute [local irreducible] CCall CO CC CX CD
theorem Apply_spec {L L1 M K b} {k : Nat} {x : LgL} {s : Lg} {R : Ros} {n : Nt} {rv : Value} [pl : Pull (isLg b) L x L1] [pr : Pull (isRos x.ros) L1 R M] [rs : RdE M encRw rv n.rows] (st : LgSt R k x s) (hk1 : k + 1 ≤ 500) (hok : NtOk n) (hn : n.rows.length ≤ 1000000)
    (hE : mayL R x.hm s n ≠ 0 → Ht (isLg b x :: isRos x.ros R :: M) (K (.tuple #[.slice none 0 0, .int .i64 (mayL R x.hm s n)])))
    (hD : mayL R x.hm s n = 0 → ∀ x' ov, LgSt R (k + 1) x' (doK R x.hm s n).1 → x'.ros = x.ros → x'.hm = x.hm → One1 ov → Ht (isOuts ov (doK R x.hm s n).2 :: isLg b x' :: isRos x.ros R :: M) (K (.tuple #[ov, .int .i64 0]))) :
    Ht L (CCall Tryz.prog 17 [.pointer (some ⟨b, 0, none⟩), ntV n rv] K) := by
  refine Ht.conseq (L' := isLg b x :: isRos x.ros R :: M) ?_ (fun w s => seps_mono (fun _ a => a) (fun _ t => pr.h _ _ t) (pl.h _ _ s))
  have hrs : ∀ (M' : List HP) [fr : Frm M' M], RdE M' encRw rv n.rows := fun M' fr => ⟨fun w t => rs.h w (fr.h _ _ t)⟩
  refine Ht.know (p := One1 rv) (fun w t => one1_of (rs.h w t.tail.tail)) (fun orv => ?_)
  refine ccall2 Tryz.func17 rfl (by decide) Tryz.ntmps17 (by rfl) (by decide) ?_
  repeat (refine stp ?_)
  intro c3
  repeat (refine stp ?_)
  refine May_spec (x := x) (R := R) (n := n) (rv := rv) st hok hn ?_
  repeat (refine stp ?_)
  by_cases h0 : mayL R x.hm s n ≠ 0
  · rewrite [decide_eq_true h0]
    repeat (refine stp ?_)
    exact ret2 rfl (Ht.frm (hE h0))
  rewrite [decide_eq_false h0]
  have h0 : mayL R x.hm s n = 0 := Decidable.not_not.1 h0
  have hD := hD h0
  repeat (refine stp ?_)
  refine ht_draw Tryz.can17x4 Tryz.mixed (by kernel_rfl) ?_
  repeat (refine stp ?_)
  refine deeds_spec fun r => ?_
  repeat (refine stp ?_)
  rcases kind_c (may_note h0).1 with hk | hk | hk | hk | hk | hk | hk | hk | hk | hk | hk | hk
  · rewrite [show (mget deedsM n.kind).getD (.agg #[.nilFunc, .nilFunc]) = deedV 119 120 from by rw [hk]; rfl]
    repeat (refine stp ?_)
    refine accept_spec (x := x) (R := R) (n := n) (rv := rv) st orv hk1 hok h0 hk fun x' ov st' hr' hh' oov => ?_
    repeat (refine stp ?_)
    exact ret2 rfl (Ht.frm (hD x' ov st' hr' hh' oov))
  · rewrite [show (mget deedsM n.kind).getD (.agg #[.nilFunc, .nilFunc]) = deedV 121 122 from by rw [hk]; rfl]
    repeat (refine stp ?_)
    refine cut_spec (x := x) (R := R) (n := n) (rv := rv) st orv hk1 hok h0 hk fun x' ov st' hr' hh' oov => ?_
    repeat (refine stp ?_)
    exact ret2 rfl (Ht.frm (hD x' ov st' hr' hh' oov))
  · rewrite [show (mget deedsM n.kind).getD (.agg #[.nilFunc, .nilFunc]) = deedV 123 124 from by rw [hk]; rfl]
    repeat (refine stp ?_)
    refine price_spec (x := x) (R := R) (n := n) (rv := rv) st orv hk1 hok h0 hk fun x' ov st' hr' hh' oov => ?_
    repeat (refine stp ?_)
    exact ret2 rfl (Ht.frm (hD x' ov st' hr' hh' oov))
  · rewrite [show (mget deedsM n.kind).getD (.agg #[.nilFunc, .nilFunc]) = deedV 125 126 from by rw [hk]; rfl]
    repeat (refine stp ?_)
    refine settle_spec (x := x) (R := R) (n := n) (rv := rv) st orv hk1 hok h0 hk fun x' ov st' hr' hh' oov => ?_
    repeat (refine stp ?_)
    exact ret2 rfl (Ht.frm (hD x' ov st' hr' hh' oov))
  · rewrite [show (mget deedsM n.kind).getD (.agg #[.nilFunc, .nilFunc]) = deedV 127 128 from by rw [hk]; rfl]
    repeat (refine stp ?_)
    refine post_spec (x := x) (R := R) (n := n) (rv := rv) st orv hk1 hok h0 hk fun x' ov st' hr' hh' oov => ?_
    repeat (refine stp ?_)
    exact ret2 rfl (Ht.frm (hD x' ov st' hr' hh' oov))
  · rewrite [show (mget deedsM n.kind).getD (.agg #[.nilFunc, .nilFunc]) = deedV 129 130 from by rw [hk]; rfl]
    repeat (refine stp ?_)
    refine call_spec (x := x) (R := R) (n := n) (rv := rv) st orv hk1 hok h0 hk fun x' ov st' hr' hh' oov => ?_
    repeat (refine stp ?_)
    exact ret2 rfl (Ht.frm (hD x' ov st' hr' hh' oov))
  · rewrite [show (mget deedsM n.kind).getD (.agg #[.nilFunc, .nilFunc]) = deedV 131 132 from by rw [hk]; rfl]
    repeat (refine stp ?_)
    refine answer_spec (x := x) (R := R) (n := n) (rv := rv) st orv hk1 hok h0 hk fun x' ov st' hr' hh' oov => ?_
    repeat (refine stp ?_)
    exact ret2 rfl (Ht.frm (hD x' ov st' hr' hh' oov))
  · rewrite [show (mget deedsM n.kind).getD (.agg #[.nilFunc, .nilFunc]) = deedV 133 134 from by rw [hk]; rfl]
    repeat (refine stp ?_)
    refine stop_spec (x := x) (R := R) (n := n) (rv := rv) st orv hk1 hok h0 hk fun x' ov st' hr' hh' oov => ?_
    repeat (refine stp ?_)
    exact ret2 rfl (Ht.frm (hD x' ov st' hr' hh' oov))
  · rewrite [show (mget deedsM n.kind).getD (.agg #[.nilFunc, .nilFunc]) = deedV 135 136 from by rw [hk]; rfl]
    repeat (refine stp ?_)
    refine leg_spec (x := x) (R := R) (n := n) (rv := rv) st orv hk1 hok h0 hk fun x' ov st' hr' hh' oov => ?_
    repeat (refine stp ?_)
    exact ret2 rfl (Ht.frm (hD x' ov st' hr' hh' oov))
  · rewrite [show (mget deedsM n.kind).getD (.agg #[.nilFunc, .nilFunc]) = deedV 137 138 from by rw [hk]; rfl]
    repeat (refine stp ?_)
    refine mark_spec (x := x) (R := R) (n := n) (rv := rv) st orv hk1 hok h0 hk fun x' ov st' hr' hh' oov => ?_
    repeat (refine stp ?_)
    exact ret2 rfl (Ht.frm (hD x' ov st' hr' hh' oov))
  · rewrite [show (mget deedsM n.kind).getD (.agg #[.nilFunc, .nilFunc]) = deedV 139 140 from by rw [hk]; rfl]
    repeat (refine stp ?_)
    refine report_spec (x := x) (R := R) (n := n) (rv := rv) st orv hk1 hok h0 hk fun x' ov st' hr' hh' oov => ?_
    repeat (refine stp ?_)
    exact ret2 rfl (Ht.frm (hD x' ov st' hr' hh' oov))
  · rewrite [show (mget deedsM n.kind).getD (.agg #[.nilFunc, .nilFunc]) = deedV 141 142 from by rw [hk]; rfl]
    repeat (refine stp ?_)
    refine halt_spec (x := x) (R := R) (n := n) (rv := rv) st orv hk1 hok h0 hk fun x' ov st' hr' hh' oov => ?_
    repeat (refine stp ?_)
    exact ret2 rfl (Ht.frm (hD x' ov st' hr' hh' oov))
end Go.Proofs
namespace Go.Proofs
open Go Go.SL
def usB : ByteArray := ⟨#[85, 83, 48, 51, 55, 56, 51, 51, 49, 48, 48, 53]⟩
def alfK : ByteArray := ⟨#[97, 108, 102, 97]⟩
def betK : ByteArray := ⟨#[98, 101, 116, 97]⟩
def Rk : Ros := ⟨2, [usB], [(alfK, 0), (betK, 1)]⟩
def trK : Td := ⟨1, alfK, betK, usB, 10, 5⟩
def nK1 : Nt := ntK 1 0 0 trK [] 0 0
def nK2 : Nt := ntK 2 0 0 noTd [] 0 0
def nK3 : Nt := ntK 10 1 1 noTd [] 0 0
def nK4 : Nt := ntK 11 1 1 noTd [(usB, 10)] (wHi (-50)) (wLo (-50))
def sK0 : Lg := lg0 2
def sK1 : Lg := (doK Rk 0 sK0 nK1).1
def sK2 : Lg := (doK Rk 0 sK1 nK2).1
def sK3 : Lg := (doK Rk 0 sK2 nK3).1
def sK4 : Lg := (doK Rk 0 sK3 nK4).1
theorem kR : rosE Rk = 0 := by decide
theorem kE1 : mayL Rk 0 sK0 nK1 = 0 := by decide
theorem kE2 : mayL Rk 0 sK1 nK2 = 0 := by decide
theorem kE3 : mayL Rk 0 sK2 nK3 = 0 := by decide
theorem kE4 : mayL Rk 0 sK3 nK4 = 0 := by decide
theorem kO1 : (doK Rk 0 sK0 nK1).2 = [(1, ntK 9 0 1 trK [] 0 0)] := rfl
theorem kO2 : (doK Rk 0 sK1 nK2).2 = [(1, ntK 10 0 1 noTd [] 0 0)] := rfl
theorem kO3 : (doK Rk 0 sK2 nK3).2 = [(1, ntK 11 0 1 noTd [(usB, -10)] (wHi 50) (wLo 50))] := by kernel_rfl
theorem kS : agrS 0 sK4 1 1 = true := by kernel_rfl
theorem kI : agrI 0 sK4 1 1 = true := by kernel_rfl
end Go.Proofs
namespace Go.Proofs
open Go Go.SL
attribute [local irreducible] CCall CO CC CX CD
theorem one_ls {ls : List OutL} {o : Int × Nt} (h : ls.map Prod.fst = [o]) : ∃ sv, ls = [(o, sv)] := by
  cases ls with
  | nil => cases h
  | cons a l =>
    cases l with
    | cons b l => cases h
    | nil =>
      obtain ⟨a1, a2⟩ := a
      simp at h
      exact ⟨a2, by rw [h]⟩
theorem nKok1 : NtOk nK1 := ⟨by decide, by decide, by decide, by decide, by decide, by decide, by decide, by decide, by decide, by decide, by decide, by decide, by decide, fun r hr => (by cases hr)⟩
theorem nKok2 : NtOk nK2 := ⟨by decide, by decide, by decide, by decide, by decide, by decide, by decide, by decide, by decide, by decide, by decide, by decide, by decide, fun r hr => (by cases hr)⟩
theorem nKok3 : NtOk nK3 := ⟨by decide, by decide, by decide, by decide, by decide, by decide, by decide, by decide, by decide, by decide, by decide, by decide, by decide, fun r hr => (by cases hr)⟩
theorem nKok4 : NtOk nK4 := ⟨by decide, by decide, by decide, by decide, by decide, by decide, by decide, by decide, by decide, by decide, by decide, by decide, by decide, fun r hr => by
  have hr : r ∈ [(usB, (10 : Int))] := hr
  rw [List.mem_singleton.1 hr]; exact ⟨by decide, by decide⟩⟩
instance instInhNtL : Inhabited Nt := ⟨ntK 0 0 0 noTd [] 0 0⟩
local instance {α : Type} {a : α} {l : List α} : InB 0 (a :: l).length := ⟨by simp⟩
local instance {α : Type} {a : α} {l : List α} : IxB 0 (a :: l).length := ⟨by simp⟩
theorem hot_one {o : Int × Nt} {sv : SVy} {R : List HP} {G : World → Prop} (h : Ht (own encRw 109 (svY sv) o.2.rows :: R) G) : Ht (bigO hOt [(o, sv)] :: R) G := fun w t => by
  have t2 : seps (hOt (o, sv) :: bigO hOt [] :: R) (envOf w) (fun b => w.heap[b]?) := (bigO_split (l1 := [])).1 t
  exact h w (seps_mono (fun _ a => a) (fun _ t => bigO_nil.1 t) t2)
def famK5 : List (List CanIt) := [[.q 0, .q 1, .q 2, .q 3, .q 4, .q 5, .q 6, .q 7, .q 8, .q 9, .q 10, .x 11 [], .q 12, .q 13, .q 14, .x 15 [0, 1, 2, 3, 4, 5, 6, 7, 8, 9, 10, 12, 13, 14], .x 16 [14], .q 17], [.q 0, .q 1, .q 2, .q 3, .q 4, .q 5, .q 6, .q 7, .q 8, .q 9, .q 10, .x 15 [0, 1, 2, 3, 4, 5, 6, 7, 8, 9, 10], .x 11 [], .q 12, .q 13, .q 14, .x 16 [14], .q 17]]
theorem kRw64 : rows64 [(usB, (-10 : Int))] := fun r hr => by rw [List.mem_singleton.1 hr]; decide
theorem kRight : RightP [(usB, (-10 : Int))] ∧ fitW (0 - 50) ∧ ∀ r ∈ [(usB, (-10 : Int))], fit64 (0 - r.2) := by
  refine ⟨⟨List.pairwise_singleton _ _, fun r hr => ?_⟩, by decide, fun r hr => ?_⟩
  · rw [List.mem_singleton.1 hr]; rfl
  · rw [List.mem_singleton.1 hr]; unfold fit64; decide
theorem known25_spec {L K} (h : Ht L (K (.bool true))) : Ht L (CCall Tryz.prog 8 [] K) := by
  refine ccall0 Tryz.func8 rfl (by decide) Tryz.ntmps8 (by rfl) (by decide) ?_
  repeat (refine stp ?_)
  intro b1
  repeat (refine stp ?_)
  intro b2
  repeat (refine stp ?_)
  refine Ht.own_lit encRw (b := b2) (n := 2) (xs := [(alfK, 0), (betK, 1)]) rfl rfl (by decide) ?_
  refine Ht.own_lit SL.encStr (b := b1) (n := 1) (xs := [usB]) rfl rfl (by decide) ?_
  refine RNew_spec (R := Rk) (fun hh => absurd kR hh) (fun _ hok p => ?_)
  repeat (refine stp ?_)
  refine LNew_spec (p := p) (R := Rk) (hm := 0) (fun hh => absurd hh (by decide)) (fun _ _ b x0 st0 hr0 hh0 => ?_)
  repeat (refine stp ?_)
  try rewrite [show decide ((0 : Int) ≠ 0) = false from rfl]
  repeat (refine stp ?_)
  intro c6
  repeat (refine stp ?_)
  subst hr0
  have st0 : LgSt Rk 0 x0 sK0 := st0
  refine Apply_spec (x := x0) (R := Rk) (n := nK1) (rv := .slice none 0 0) st0 (by decide) nKok1 (by decide) (fun hh => absurd (by rw [hh0]; exact kE1) hh) (fun _ x1 ov1 st1 hr1 hh1 oov1 => ?_)
  rw [hh0] at st1 hh1
  rewrite [hh0, kO1, ← hr1]
  refine outs_open fun ls1 _ hls1 => ?_
  obtain ⟨sv1, rfl⟩ := one_ls hls1
  have st1 : LgSt Rk 1 x1 sK1 := st1
  repeat (refine stp ?_)
  refine Ht.conseq (L' := isLg b x1 :: isRos x1.ros Rk :: own encOt 69 ov1 [((1, ntK 9 0 1 trK [] 0 0), sv1)] :: L) ?_ (fun w t => (inferInstance : Frm _ _).h _ _ t)
  refine Apply_spec (x := x1) (R := Rk) (n := nK2) (rv := .slice none 0 0) st1 (by decide) nKok2 (by decide) (fun hh => absurd (by rw [hh1]; exact kE2) hh) (fun _ x2 ov2 st2 hr2 hh2 oov2 => ?_)
  rw [hh1] at st2 hh2
  rewrite [hh1, kO2, ← hr2]
  refine outs_open fun ls2 _ hls2 => ?_
  obtain ⟨sv2, rfl⟩ := one_ls hls2
  have st2 : LgSt Rk 2 x2 sK2 := st2
  repeat (refine stp ?_)
  refine Ht.conseq (L' := isLg b x2 :: isRos x2.ros Rk :: own encOt 69 ov2 [((1, ntK 10 0 1 noTd [] 0 0), sv2)] :: own encOt 69 ov1 [((1, ntK 9 0 1 trK [] 0 0), sv1)] :: L) ?_ (fun w t => (inferInstance : Frm _ _).h _ _ t)
  refine Apply_spec (x := x2) (R := Rk) (n := nK3) (rv := .slice none 0 0) st2 (by decide) nKok3 (by decide) (fun hh => absurd (by rw [hh2]; exact kE3) hh) (fun _ x3 ov3 st3 hr3 hh3 oov3 => ?_)
  rw [hh2] at st3 hh3
  rewrite [hh2, kO3, ← hr3]
  refine outs_open fun ls3 _ hls3 => ?_
  obtain ⟨sv3, rfl⟩ := one_ls hls3
  have st3 : LgSt Rk 3 x3 sK3 := st3
  refine Ht.conseq (L' := bigO hOt [(((1 : Int), ntK 11 0 1 noTd [(usB, -10)] (wHi 50) (wLo 50)), sv3)] :: own encOt 69 ov3 [((1, ntK 11 0 1 noTd [(usB, -10)] (wHi 50) (wLo 50)), sv3)] :: isLg b x3 :: isRos x3.ros Rk :: own encOt 69 ov2 [((1, ntK 10 0 1 noTd [] 0 0), sv2)] :: own encOt 69 ov1 [((1, ntK 9 0 1 trK [] 0 0), sv1)] :: L) ?_ (fun w t => (inferInstance : Frm _ _).h _ _ t)
  refine hot_one ?_
  refine Ht.know (p := sv3.2.1 = 1) (fun w t => ?_) (fun hs3 => ?_)
  · obtain ⟨ad, c, hv, _, _⟩ := sliceIn_of (own_sat t)
    unfold svY at hv
    exact (Value.slice.inj hv).2.1
  obtain ⟨o1, ho1⟩ : ∃ o : OutL, o = ((1, ntK 9 0 1 trK [] 0 0), sv1) := ⟨_, rfl⟩
  obtain ⟨o2, ho2⟩ : ∃ o : OutL, o = ((1, ntK 10 0 1 noTd [] 0 0), sv2) := ⟨_, rfl⟩
  obtain ⟨o3, ho3⟩ : ∃ o : OutL, o = ((1, ntK 11 0 1 noTd [(usB, -10)] (wHi 50) (wLo 50)), sv3) := ⟨_, rfl⟩
  have a11 : o1.1.1 = 1 := by rw [ho1]
  have a12 : o1.1.2.kind = 9 := by rw [ho1]; rfl
  have a22 : o2.1.2.kind = 10 := by rw [ho2]; rfl
  have a32 : o3.2 = sv3 := by rw [ho3]
  have a33 : o3.1.2.hi = wHi 50 ∧ o3.1.2.lo = wLo 50 := by rw [ho3]; exact ⟨rfl, rfl⟩
  rewrite [← ho1, ← ho2, ← ho3]
  show Ht (own encRw 109 (svY sv3) [(usB, -10)] :: _) _
  repeat (refine stp ?_)
  rewrite [show decide ((([o1] : List OutL).length : Int) ≠ 1) = false from rfl]
  repeat (refine stp ?_)
  rewrite [show ([o1] : List OutL)[0]! = o1 from rfl, show decide (o1.1.1 ≠ 1) = false from by rw [a11]; rfl]
  repeat (refine stp ?_)
  rewrite [show ([o1] : List OutL)[0]! = o1 from rfl, show decide (o1.1.2.kind ≠ 9) = false from by rw [a12]; rfl]
  repeat (refine stp ?_)
  rewrite [show decide ((([o2] : List OutL).length : Int) ≠ 1) = false from rfl]
  repeat (refine stp ?_)
  rewrite [show ([o2] : List OutL)[0]! = o2 from rfl, show decide (o2.1.2.kind ≠ 10) = false from by rw [a22]; rfl]
  repeat (refine stp ?_)
  rewrite [show decide ((([o3] : List OutL).length : Int) ≠ 1) = false from rfl]
  repeat (refine stp ?_)
  unfold svY
  rewrite [show ([o3] : List OutL)[0]! = o3 from rfl, a32, show decide ((sv3.2.1 : Int) ≠ 1) = false from by rw [hs3]; rfl]
  repeat (refine stp ?_)
  rewrite [show ([o3] : List OutL)[0]! = o3 from rfl, a32]
  repeat (refine stp ?_)
  rewrite [show decide ((([(usB, (-10 : Int))] : Rows)[0]!).2 ≠ -10) = false from rfl]
  repeat (refine stp ?_)
  subst ho3
  refine ht_cutd .normal (ι := Nat × Value) (fun y => One1 y.2) (fun y => pto y.1 (cells [y.2, .int .i64 (wHi (0 - 50)), .int .u64 (wLo (0 - 50))] 55) :: own encRw 109 y.2 (negL [(usB, -10)]) :: isLg b x3 :: isRos x3.ros Rk :: L) (fun y => [(13, .pointer (some ⟨y.1, 0, none⟩)), (4, .pointer (some ⟨b, 0, none⟩))]) ?_ ?_
  · intro Q' hQ
    refine ht_drawG [11, 15, 16] famK5 Tryz.mixed (by kernel_rfl) ?_
    intro π hπ
    simp only [famK5, List.mem_cons, List.mem_nil_iff, or_false] at hπ
    rcases hπ with rfl | rfl
    · repeat (refine stp ?_)
      refine AOpp_why (rv := .slice sv3.1 sv3.2.1 sv3.2.2) (l := [(usB, -10)]) (c := 50) (by decide) (by decide) kRw64 (fun e he hno => absurd kRight hno) (fun v' ov' _ _ _ => ?_)
      repeat (refine stp ?_)
      intro c13
      repeat (refine stp ?_)
      exact cx_env inferInstance (Ht.frm (hQ (c13, v') ov'))
    · repeat (refine stp ?_)
      intro c13
      repeat (refine stp ?_)
      refine AOpp_why (rv := .slice sv3.1 sv3.2.1 sv3.2.2) (l := [(usB, -10)]) (c := 50) (by decide) (by decide) kRw64 (fun e he hno => absurd kRight hno) (fun v' ov' _ _ _ => ?_)
      repeat (refine stp ?_)
      exact cx_env inferInstance (Ht.frm (hQ (c13, v') ov'))
  intro ⟨c13, v4⟩ ov4
  dsimp only at ov4 ⊢
  rewrite [show (0 : Int) - 50 = -50 from rfl, show negL [(usB, (-10 : Int))] = [(usB, 10)] from by unfold negL negR; simp [fit64]]
  repeat (refine stp ?_)
  refine Apply_spec (x := x3) (R := Rk) (n := nK4) (rv := v4) st3 (by decide) nKok4 (by decide) (fun hh => absurd (by rw [hh3]; exact kE4) hh) (fun _ x4 ov5 st4 hr4 hh4 oov4 => ?_)
  rw [hh3] at st4 hh4
  rewrite [← hr4]
  have st4 : LgSt Rk 4 x4 sK4 := st4
  repeat (refine stp ?_)
  try rewrite [show decide ((0 : Int) = 0) = true from rfl]
  repeat (refine stp ?_)
  refine Reconciled_spec (x := x4) (R := Rk) st4 ?_
  rewrite [hh4, kS]
  repeat (refine stp ?_)
  refine Broken_spec (x := x4) (R := Rk) st4 ?_
  rewrite [hh4, kS, kI, show (true && !true) = false from rfl]
  repeat (refine stp ?_)
  try rewrite [show (!false) = true from rfl]
  repeat (refine stp ?_)
  exact ret1 rfl (Ht.frm h)
end Go.Proofs
namespace Go.Proofs
open Go Go.SL
attribute [local irreducible] CCall CO CC CX CD
end Go.Proofs
namespace Go.Proofs
open Go Go.SL
attribute [local irreducible] CCall CO CC CX CD
instance tn40 {n : Nat} : ToNat (if (40 : Int) < (n : Int) then (40 : Int) else (n : Int)) (min n 40) := ⟨by split <;> omega⟩
instance sz40 {s : ByteArray} : SzB s (if (40 : Int) < ((s.size : Nat) : Int) then (40 : Int) else ((s.size : Nat) : Int)) := ⟨by split <;> omega⟩
def clip (s : ByteArray) : ByteArray := s.extract 0 (min s.size 40)
def clipT (t : Td) : Td := ⟨t.id, clip t.buyer, clip t.seller, clip t.isin, t.qty, t.price⟩
def clipR (r : ByteArray × Int) : ByteArray × Int := (clip r.1, r.2)
def clipN (n : Nt) : Nt := ⟨n.kind, n.peer, n.day, clipT n.tr, clip n.name, n.amount, (n.rows.take 40).map clipR, n.hi, n.lo⟩
theorem clip_size {s : ByteArray} : (clip s).size ≤ 40 := by
  rw [← szl]
  unfold clip
  rw [take_ext, List.length_take]; omega
theorem To7_spec {L K} {t : Td} (h : Ht L (K (tdV (clipT t)))) : Ht L (CCall Tryz.prog 52 [tdV t] K) := by
  refine ccall1 Tryz.func52 rfl (by decide) Tryz.ntmps52 (by rfl) (by decide) ?_
  repeat (refine stp ?_)
  intro c1
  repeat (refine stp ?_)
  intro c2
  repeat (refine stp ?_)
  refine ht_draw Tryz.can52x1 Tryz.mixed (by kernel_rfl) ?_
  repeat (refine stp ?_)
  exact retc rfl (Ht.frm h)
theorem clipSn {l : Rows} {i : Nat} (hi : i < l.length) : (l.take i).map clipR ++ [(clip (l[i]!).1, (l[i]!).2)] = (l.take (i + 1)).map clipR := by
  rw [List.take_succ, getB hi, Option.toList_some, List.map_append]; rfl
def famT9 : List (List CanIt) := [[.q 0, .q 1, .q 2, .q 3, .q 4, .q 5, .q 6, .q 7, .q 9, .q 10, .q 11, .q 12, .q 13, .q 14, .q 15, .q 16, .q 17, .q 18, .q 19, .q 20, .q 21, .q 22, .x 8 [0, 1, 2, 3, 4, 5, 9, 10, 11, 12, 13, 14, 15, 16, 17, 18, 19, 20, 21, 22], .q 23, .x 24 [0, 1, 2, 3, 4, 5, 6, 7, 9, 10, 11, 12, 13, 14, 15, 16, 17, 18, 19, 20, 21, 22, 23], .x 25 []],
  [.q 0, .q 1, .q 2, .q 3, .q 4, .q 5, .q 6, .q 7, .q 9, .q 10, .q 11, .q 12, .q 13, .q 14, .q 15, .q 16, .q 17, .q 18, .q 19, .q 20, .q 21, .q 22, .x 24 [0, 1, 2, 3, 4, 5, 6, 7, 9, 10, 11, 12, 13, 14, 15, 16, 17, 18, 19, 20, 21, 22], .x 8 [0, 1, 2, 3, 4, 5, 9, 10, 11, 12, 13, 14, 15, 16, 17, 18, 19, 20, 21, 22], .q 23, .x 25 []]]
theorem To9_spec {L K rv} {n : Nt} [rs : RdE L encRw rv n.rows] (h : ∀ v', One1 v' → Ht (own encRw 109 v' (clipN n).rows :: L) (K (ntV (clipN n) v'))) : Ht L (CCall Tryz.prog 16 [ntV n rv] K) := by
  have hrs : ∀ (M : List HP) [fr : Frm M L], RdS M rv encRw n.rows := fun M fr => ⟨fun w t => (rs.h w (fr.h _ _ t))⟩
  refine Ht.know (p := One1 rv ∧ n.rows.length ≤ 9223372036854775807) (fun w t => ⟨one1_of (rs.h w t), (rs.h w t).le⟩) (fun ⟨ov, hle⟩ => ?_)
  refine ccall1 Tryz.func16 rfl (by decide) Tryz.ntmps16 (by rfl) (by decide) ?_
  repeat (refine stp ?_)
  intro c1
  repeat (refine stp ?_)
  intro c2
  repeat (refine stp ?_)
  refine ht_cutd .normal (ι := Nat) (fun _ => True) (fun c3 => pto c3 (cells (ntC (clipN n) (.slice none 0 0)) 63) :: pto c2 (cells [.int .i64 0, .int .i64 0, .int .i64 0, .int .i64 0, .string ⟨#[]⟩, .string ⟨#[]⟩, .string ⟨#[]⟩, .int .i64 0, .int .i64 0, .string ⟨#[]⟩, .int .i64 0, .slice none 0 0, .int .i64 0, .int .u64 0] 63) :: pto c1 (cells (ntC n rv) 40) :: L) (fun c3 => [(3, .pointer (some ⟨c3, 0, none⟩)), (2, .pointer (some ⟨c2, 0, none⟩)), (1, .pointer (some ⟨c1, 0, none⟩))]) ?_ ?_
  · intro Q' hQ
    refine ht_drawG [8, 24, 25] famT9 Tryz.mixed (by kernel_rfl) ?_
    intro π hπ
    simp only [famT9, List.mem_cons, List.mem_nil_iff, or_false] at hπ
    rcases hπ with rfl | rfl
    · repeat (refine stp ?_)
      refine To7_spec (t := n.tr) ?_
      repeat (refine stp ?_)
      intro c3
      repeat (refine stp ?_)
      exact cx_env inferInstance (hQ c3 trivial)
    · repeat (refine stp ?_)
      intro c3
      repeat (refine stp ?_)
      refine To7_spec (t := n.tr) ?_
      repeat (refine stp ?_)
      exact cx_env inferInstance (hQ c3 trivial)
  intro c3 _
  repeat (refine stp ?_)
  refine ht_for (min 40 n.rows.length) (fun i (x : Value) => One1 x) (fun i x => own encRw 109 x ((n.rows.take i).map clipR) :: pto c3 (cells (ntC (clipN n) x) 63) :: pto c2 (cells [.int .i64 0, .int .i64 0, .int .i64 0, .int .i64 0, .string ⟨#[]⟩, .string ⟨#[]⟩, .string ⟨#[]⟩, .int .i64 0, .int .i64 0, .string ⟨#[]⟩, .int .i64 0, .slice none 0 0, .int .i64 0, .int .u64 0] 63) :: pto c1 (cells (ntC n rv) 40) :: L) (fun i x => [(4, .int .i64 (i : Int))]) (.slice none 0 0) [4] ⟨rfl⟩ (fun w t => own_nil.2 t) inferInstance ?_
  intro i x hil ox
  dsimp only [List.cons_append, List.nil_append]
  have htl : ((n.rows.take i).map clipR).length = i := by rw [List.length_map, List.length_take]; omega
  repeat (refine stp ?_)
  refine ht_val 3 [(37, .bool (decide (i < min 40 n.rows.length))), (4, .int .i64 (i : Int)), (3, .pointer (some ⟨c3, 0, none⟩)), (2, .pointer (some ⟨c2, 0, none⟩)), (1, .pointer (some ⟨c1, 0, none⟩))] ?_ ?_
  · intro rest Q3 hQ3
    dsimp only [List.take_succ_cons, List.take_zero, List.cons_append, List.nil_append]
    by_cases h1 : i < n.rows.length
    · rewrite [show decide ((i : Int) < (n.rows.length : Int)) = true from decide_eq_true (by omega)]
      repeat (refine stp ?_)
      refine co_leave hQ3 (SubE.cons (congrArg Value.bool ?_) inferInstance)
      exact decide_eq_decide.2 (by omega)
    · rewrite [show decide ((i : Int) < (n.rows.length : Int)) = false from decide_eq_false (by omega)]
      repeat (refine stp ?_)
      refine co_leave hQ3 (SubE.cons (congrArg Value.bool ?_) inferInstance)
      exact (decide_eq_false (by omega)).symm
  simp only [List.drop_succ_cons, List.drop_zero]
  by_cases hii : i < min 40 n.rows.length
  · rewrite [decide_eq_true hii]
    repeat (refine stp ?_)
    refine ht_draw Tryz.can16x5 Tryz.mixed (by kernel_rfl) ?_
    repeat (refine stp ?_)
    refine cd_index (xs := n.rows) (by omega) ?_
    intro hb1 hb2
    repeat (refine stp ?_)
    intro b1
    repeat (refine stp ?_)
    refine Ht.own_lit encRw (b := b1) (n := 1) (xs := [(clip (n.rows[i]!).1, (n.rows[i]!).2)]) rfl rfl (by decide) ?_
    refine co_append (e := encRw) (xs := (n.rows.take i).map clipR) (ys := [(clip (n.rows[i]!).1, (n.rows[i]!).2)]) (by rfl) (by rw [htl]; simp; omega) (by rw [htl]; simp; omega) ?_
    intro x2
    refine Ht.one1 (v := x2) ?_
    intro ox2
    rewrite [clipSn (show i < n.rows.length by omega)]
    repeat (refine stp ?_)
    exact ht_next x2 (by omega) ox2 (fun w t => (inferInstance : Frm _ _).h _ _ t) (SubE.cons (by rw [IntWalk.i64_in _ (by omega)]; rfl) inferInstance) rfl rfl
  · rewrite [decide_eq_false hii]
    have e : (n.rows.take i).map clipR = (clipN n).rows := by
      show _ = (n.rows.take 40).map clipR
      congr 1
      by_cases h40 : n.rows.length ≤ 40
      · rw [List.take_of_length_le (by omega), List.take_of_length_le h40]
      · rw [show i = 40 by omega]
    rw [e]
    repeat (refine stp ?_)
    exact retc rfl (Ht.frm (h x ox))
end Go.Proofs
namespace Go.Proofs
open Go Go.SL
attribute [local irreducible] CCall CO CC CX CD
end Go.Proofs
namespace Go.SL
open Go
end Go.SL
namespace Go.Proofs
open Go Go.SL
def okR9 (w : World) (r : ByteArray × Int) : Prop := r.1.size ≤ maxLen ∧ wfI .i64 r.2
theorem dR9 : Dec Tryz.prog 156 encRw.f okR9 :=
  Dec.map (dec_struct Tryz.underlying156 (by kernel_rfl) (.cons (n := 1) (dec_str Tryz.underlying9) rfl (by kernel_rfl) (.cons (n := 1) (dec_int Tryz.underlying2) rfl (by kernel_rfl) .nil))) _ _ (fun a => (a.1, a.2.1)) (fun _ => rfl) (fun _ _ h => ⟨h.1, h.2.1⟩)
def fTd (t : Td) : List Value := [.int .i64 t.id, .string t.buyer, .string t.seller, .string t.isin, .int .i64 t.qty, .int .i64 t.price]
def okTd (w : World) (t : Td) : Prop := wfI .i64 t.id ∧ t.buyer.size ≤ maxLen ∧ t.seller.size ≤ maxLen ∧ t.isin.size ≤ maxLen ∧ wfI .i64 t.qty ∧ wfI .i64 t.price
theorem dTd : Dec Tryz.prog 36 fTd okTd :=
  Dec.map (dec_struct Tryz.underlying36 (by kernel_rfl) (.cons (n := 1) (dec_int Tryz.underlying2) rfl (by kernel_rfl) (.cons (n := 1) (dec_str Tryz.underlying9) rfl (by kernel_rfl) (.cons (n := 1) (dec_str Tryz.underlying9) rfl (by kernel_rfl)
    (.cons (n := 1) (dec_str Tryz.underlying9) rfl (by kernel_rfl) (.cons (n := 1) (dec_int Tryz.underlying2) rfl (by kernel_rfl) (.cons (n := 1) (dec_int Tryz.underlying2) rfl (by kernel_rfl) .nil))))))) _ _
    (fun a => ⟨a.1, a.2.1, a.2.2.1, a.2.2.2.1, a.2.2.2.2.1, a.2.2.2.2.2.1⟩) (fun _ => rfl) (fun _ _ h => ⟨h.1, h.2.1, h.2.2.1, h.2.2.2.1, h.2.2.2.2.1, h.2.2.2.2.2.1⟩)
abbrev NtA := Nt × Value
def fNt (b : NtA) : List Value := ntC b.1 b.2
def okNt (w : World) (b : NtA) : Prop := NtOk b.1 ∧ SlIn w b.2 encRw b.1.rows
theorem dNt : Dec Tryz.prog 40 fNt okNt :=
  Dec.map (dec_struct Tryz.underlying40 (by kernel_rfl) (.cons (n := 1) (dec_int Tryz.underlying3) rfl (by kernel_rfl) (.cons (n := 1) (dec_int Tryz.underlying3) rfl (by kernel_rfl) (.cons (n := 1) (dec_int Tryz.underlying3) rfl (by kernel_rfl)
    (.cons (n := 6) dTd rfl (by kernel_rfl) (.cons (n := 1) (dec_str Tryz.underlying9) rfl (by kernel_rfl) (.cons (n := 1) (dec_int Tryz.underlying2) rfl (by kernel_rfl) (.cons (n := 1) (dec_slice encRw Tryz.underlying37 (by kernel_rfl) dR9) rfl (by kernel_rfl)
    (.cons (n := 1) (dec_int Tryz.underlying2) rfl (by kernel_rfl) (.cons (n := 1) (dec_int Tryz.underlying38) rfl (by kernel_rfl) .nil)))))))))) _ _
    (fun a => (⟨a.1, a.2.1, a.2.2.1, a.2.2.2.1, a.2.2.2.2.1, a.2.2.2.2.2.1, a.2.2.2.2.2.2.1.2, a.2.2.2.2.2.2.2.1, a.2.2.2.2.2.2.2.2.1⟩, a.2.2.2.2.2.2.1.1)) (fun _ => rfl)
    (fun _ _ h => by
      obtain ⟨h1, h2, h3, ⟨t1, t2, t3, t4, t5, t6⟩, h5, h6, ⟨h7, h8⟩, h9, h10, _⟩ := h
      exact ⟨⟨h1, h2, h3, t1, t2, t3, t4, t5, t6, h5, h6, h9, h10, fun r hr => h8 r hr⟩, h7⟩)
end Go.Proofs
namespace Go.Proofs
open Go Go.SL
attribute [local irreducible] CCall CO CC CX CD
theorem any_snoc {α : Type} [Inhabited α] {f : α → Bool} {l : List α} {k : Nat} (hk : k < l.length) (h : (l.take k).any f = false) (h1 : f l[k]! = false) : (l.take (k + 1)).any f = false := by
  rw [takeSnoc hk, List.any_append, h, List.any_cons, h1]; rfl
theorem any_hit {α : Type} [Inhabited α] {f : α → Bool} {l : List α} {k i : Nat} (hk : k < i) (hi : i < l.length) (h1 : f l[k]! = true) : (l.take i).any f = true :=
  List.any_eq_true.2 ⟨l[k]!, by
    rw [getElem!_pos l k (by omega), List.mem_take_iff_getElem]
    exact ⟨k, by omega, rfl⟩, h1⟩
theorem RCheck_spec {L K iv mv} {R : Ros} [ri : RdE L SL.encStr iv R.isins] [rm : RdE L encRw mv R.members] (h : Ht L (K (.int .i64 (rosE R)))) :
    Ht L (CCall Tryz.prog 42 [.agg #[.int .i64 R.nodes, iv, mv]] K) := by
  have hri : ∀ (M' : List HP) [fr : Frm M' L], RdS M' iv SL.encStr R.isins := fun M' fr => ⟨fun w t => ri.h w (fr.h _ _ t)⟩
  have hrm : ∀ (M' : List HP) [fr : Frm M' L], RdS M' mv encRw R.members := fun M' fr => ⟨fun w t => rm.h w (fr.h _ _ t)⟩
  refine Ht.know (p := One1 iv ∧ One1 mv ∧ R.isins.length ≤ 9223372036854775807 ∧ R.members.length ≤ 9223372036854775807) (fun w t => ⟨one1_of (ri.h w t), one1_of (rm.h w t), (ri.h w t).le, (rm.h w t).le⟩) (fun ⟨oiv, omv, hle1, hle2⟩ => ?_)
  refine ccall1 Tryz.func42 rfl (by decide) Tryz.ntmps42 (by rfl) (by decide) ?_
  repeat (refine stp ?_)
  intro c
  repeat (refine stp ?_)
  unfold rosE at h
  by_cases h0 : R.nodes < 1
  · rewrite [decide_eq_true h0]
    rw [if_pos (.inl h0)] at h
    repeat (refine stp ?_)
    exact ret1 rfl (Ht.frm h)
  rewrite [decide_eq_false h0]
  repeat (refine stp ?_)
  by_cases h1 : 3 < R.nodes
  · rewrite [decide_eq_true h1]
    rw [if_pos (.inr h1)] at h
    repeat (refine stp ?_)
    exact ret1 rfl (Ht.frm h)
  rewrite [decide_eq_false h1]
  rw [if_neg (by omega)] at h
  repeat (refine stp ?_)
  by_cases h2 : (32 : Int) < (R.isins.length : Int)
  · rewrite [decide_eq_true h2]
    rw [if_pos (.inl (by omega))] at h
    repeat (refine stp ?_)
    exact ret1 rfl (Ht.frm h)
  rewrite [decide_eq_false h2]
  repeat (refine stp ?_)
  by_cases h3 : (64 : Int) < (R.members.length : Int)
  · rewrite [decide_eq_true h3]
    rw [if_pos (.inr (by omega))] at h
    repeat (refine stp ?_)
    exact ret1 rfl (Ht.frm h)
  rewrite [decide_eq_false h3]
  rw [if_neg (by omega)] at h
  repeat (refine stp ?_)
  refine cc_env (E' := [(3, .int .i64 0), (1, .pointer (some ⟨c, 0, none⟩))]) inferInstance ?_
  refine ht_for R.isins.length (fun i (_ : Unit) => firstF addI [] (R.isins.take i) = 0) (fun i _ => pto c (cells [.int .i64 R.nodes, iv, mv] 25) :: L) (fun i _ => [(3, .int .i64 (i : Int))]) () [3] rfl (fun w t => t) inferInstance ?_
  intro i _ hi hf
  dsimp only [List.cons_append, List.nil_append]
  repeat (refine stp ?_)
  refine ht_if ?_ ?_ <;> intro hcc <;> simp only [decide_eq_true_eq, decide_eq_false_iff_not] at hcc
  · have hii : i < R.isins.length := by omega
    have hsp := take_split hii
    have hfa := firstF_at (f := addI) (a := R.isins[i]!) (l2 := R.isins.drop (i + 1)) hf
    rw [← hsp, List.nil_append] at hfa
    repeat (refine stp ?_)
    refine co_index (xs := R.isins) (by omega) ?_
    intro hb
    repeat (refine stp ?_)
    refine RIsin_spec ?_
    repeat (refine stp ?_)
    by_cases hz : isinS R.isins[i]! ≠ 0
    · rewrite [decide_eq_true hz]
      have hae : addI (R.isins.take i) R.isins[i]! = isinS R.isins[i]! := by unfold addI; rw [if_pos hz]
      rw [hae, if_pos hz] at hfa
      rw [hfa, if_pos hz] at h
      repeat (refine stp ?_)
      exact ret1 rfl (Ht.frm h)
    rewrite [decide_eq_false hz]
    repeat (refine stp ?_)
    refine cc_env (E' := [(5, .int .i64 0), (3, .int .i64 (i : Int)), (1, .pointer (some ⟨c, 0, none⟩))]) inferInstance ?_
    refine ht_for i (fun k (_ : Unit) => ((R.isins.take k).any fun x => decide (x = R.isins[i]!)) = false) (fun k _ => pto c (cells [.int .i64 R.nodes, iv, mv] 25) :: L) (fun k _ => [(5, .int .i64 (k : Int))]) () [5] rfl (fun w t => t) inferInstance ?_
    intro k _ hk hn
    dsimp only [List.cons_append, List.nil_append]
    repeat (refine stp ?_)
    refine ht_if ?_ ?_ <;> intro hck <;> simp only [decide_eq_true_eq, decide_eq_false_iff_not] at hck
    · have hki : k < i := by omega
      repeat (refine stp ?_)
      refine ht_draw Tryz.can42x14 Tryz.mixed (by kernel_rfl) ?_
      repeat (refine stp ?_)
      refine cd_index (xs := R.isins) (by omega) ?_
      intro hb hbx
      repeat (refine stp ?_)
      refine cd_index (xs := R.isins) (by omega) ?_
      intro hb2 hbx2
      repeat (refine stp ?_)
      by_cases hq : R.isins[k]! = R.isins[i]!
      · rewrite [decide_eq_true hq]
        have hany : ((R.isins.take i).any fun x => decide (x = R.isins[i]!)) = true := any_hit hki hii (decide_eq_true hq)
        have hae : addI (R.isins.take i) R.isins[i]! = 6 := by unfold addI; rw [if_neg hz, if_pos hany]
        rw [hae, if_pos (by decide)] at hfa
        rw [hfa, if_pos (by decide)] at h
        repeat (refine stp ?_)
        exact ret1 rfl (Ht.frm h)
      · rewrite [decide_eq_false hq]
        repeat (refine stp ?_)
        exact ht_next () hki (any_snoc (f := fun x => decide (x = R.isins[i]!)) (by omega) hn (decide_eq_false hq)) (fun w t => t) (SubE.cons (by rw [IntWalk.i64_in _ (by omega)]; rfl) inferInstance) rfl rfl
    · have he : k = i := by omega
      subst he
      repeat (refine stp ?_)
      exact ht_next () hii (by rw [takeSnoc hii]; exact firstF_snoc hf (by rw [List.nil_append]; unfold addI; rw [if_neg hz, if_neg (by rw [hn]; decide)])) (fun w t => t) (SubE.cons (by rw [IntWalk.i64_in _ (by omega)]; rfl) inferInstance) rfl rfl
  · have he : i = R.isins.length := by omega
    subst he
    rw [List.take_length] at hf
    rw [hf, if_neg (by decide)] at h
    repeat (refine stp ?_)
    refine cc_env (E' := [(6, .int .i64 0), (1, .pointer (some ⟨c, 0, none⟩))]) inferInstance ?_
    refine ht_for R.members.length (fun i (_ : Unit) => firstF (addM R.nodes) [] (R.members.take i) = 0) (fun i _ => pto c (cells [.int .i64 R.nodes, iv, mv] 25) :: L) (fun i _ => [(6, .int .i64 (i : Int))]) () [6] rfl (fun w t => t) inferInstance ?_
    intro i _ hi2 hg
    dsimp only [List.cons_append, List.nil_append]
    repeat (refine stp ?_)
    refine ht_if ?_ ?_ <;> intro hcd <;> simp only [decide_eq_true_eq, decide_eq_false_iff_not] at hcd
    · have hii : i < R.members.length := by omega
      have hsp := take_split hii
      have hfa := firstF_at (f := addM R.nodes) (a := R.members[i]!) (l2 := R.members.drop (i + 1)) hg
      rw [← hsp, List.nil_append] at hfa
      repeat (refine stp ?_)
      refine co_index (xs := R.members) (by omega) ?_
      intro hb
      repeat (refine stp ?_)
      intro c7
      repeat (refine stp ?_)
      refine RMember_spec ?_
      repeat (refine stp ?_)
      by_cases hz : membS (R.members[i]!).1 ≠ 0
      · rewrite [decide_eq_true hz]
        have hae : addM R.nodes (R.members.take i) R.members[i]! = membS (R.members[i]!).1 := by unfold addM; rw [if_pos hz]
        rw [hae, if_pos hz] at hfa
        rw [hfa] at h
        repeat (refine stp ?_)
        exact ret1 rfl (Ht.frm h)
      rewrite [decide_eq_false hz]
      repeat (refine stp ?_)
      refine cc_env (E' := [(9, .int .i64 0), (7, .pointer (some ⟨c7, 0, none⟩)), (6, .int .i64 (i : Int)), (1, .pointer (some ⟨c, 0, none⟩))]) inferInstance ?_
      refine ht_for i (fun k (_ : Unit) => ((R.members.take k).any fun x => decide (x.1 = (R.members[i]!).1)) = false) (fun k _ => pto c7 (cells [.string (R.members[i]!).1, .int .i64 (R.members[i]!).2] 216) :: pto c (cells [.int .i64 R.nodes, iv, mv] 25) :: L) (fun k _ => [(9, .int .i64 (k : Int))]) () [9] rfl (fun w t => t) inferInstance ?_
      intro k _ hk hn
      dsimp only [List.cons_append, List.nil_append]
      repeat (refine stp ?_)
      refine ht_if ?_ ?_ <;> intro hck <;> simp only [decide_eq_true_eq, decide_eq_false_iff_not] at hck
      · have hki : k < i := by omega
        repeat (refine stp ?_)
        refine ht_draw Tryz.can42x26 Tryz.mixed (by kernel_rfl) ?_
        repeat (refine stp ?_)
        refine cd_index (xs := R.members) (by omega) ?_
        intro hb2 hbx2
        repeat (refine stp ?_)
        by_cases hq : (R.members[k]!).1 = (R.members[i]!).1
        · rewrite [decide_eq_true hq]
          have hany : ((R.members.take i).any fun x => decide (x.1 = (R.members[i]!).1)) = true := any_hit hki hii (decide_eq_true hq)
          have hae : addM R.nodes (R.members.take i) R.members[i]! = 6 := by unfold addM; rw [if_neg hz, if_pos hany]
          rw [hae, if_pos (by decide)] at hfa
          rw [hfa] at h
          repeat (refine stp ?_)
          exact ret1 rfl (Ht.frm h)
        · rewrite [decide_eq_false hq]
          repeat (refine stp ?_)
          exact ht_next () hki (any_snoc (f := fun (x : ByteArray × Int) => decide (x.1 = (R.members[i]!).1)) (by omega) hn (decide_eq_false hq)) (fun w t => t) (SubE.cons (by rw [IntWalk.i64_in _ (by omega)]; rfl) inferInstance) rfl rfl
      · have he : k = i := by omega
        subst he
        repeat (refine stp ?_)
        by_cases h5 : (R.members[k]!).2 < 0
        · rewrite [decide_eq_true h5]
          have hae : addM R.nodes (R.members.take k) R.members[k]! = 5 := by unfold addM; rw [if_neg hz, if_neg (by rw [hn]; decide), if_pos (.inl h5)]
          rw [hae, if_pos (by decide)] at hfa
          rw [hfa] at h
          repeat (refine stp ?_)
          exact ret1 rfl (Ht.frm h)
        rewrite [decide_eq_false h5]
        repeat (refine stp ?_)
        by_cases h6 : R.nodes ≤ (R.members[k]!).2
        · rewrite [decide_eq_true h6]
          have hae : addM R.nodes (R.members.take k) R.members[k]! = 5 := by unfold addM; rw [if_neg hz, if_neg (by rw [hn]; decide), if_pos (.inr h6)]
          rw [hae, if_pos (by decide)] at hfa
          rw [hfa] at h
          repeat (refine stp ?_)
          exact ret1 rfl (Ht.frm h)
        rewrite [decide_eq_false h6]
        repeat (refine stp ?_)
        exact ht_next () hii (by rw [takeSnoc hii]; exact firstF_snoc hg (by rw [List.nil_append]; unfold addM; rw [if_neg hz, if_neg (by rw [hn]; decide), if_neg (by omega)])) (fun w t => (inferInstance : Frm _ _).h _ _ t) (SubE.cons (by rw [IntWalk.i64_in _ (by omega)]; rfl) inferInstance) rfl rfl
    · have he : i = R.members.length := by omega
      subst he
      rw [List.take_length] at hg
      rw [hg] at h
      repeat (refine stp ?_)
      exact ret1 rfl (Ht.frm h)
end Go.Proofs
namespace Go.Proofs
open Go Go.SL
attribute [local irreducible] CCall CO CC CX CD
section control
variable {P : Program} {ρ : Option Nat} {N : Nat} {E : List (Nat × Value)} {L : List HP}
theorem rettct {fn : Func} {K : Value → World → Prop} {t u u2 T : Nat} {a : Addr} {v x y : Value} (hr : fn.results = #[.tmp u, .cell t T, .tmp u2]) [l : Look E t (.pointer (some a))] [m : Look E u x] [m2 : Look E u2 y] [vr : Var P L T a v] (h : Ht L (K (.tuple #[x, v, y]))) : Ht L (CX N [] E .ret (FnPost P fn K)) :=
  fnpost_sat (fun N ac w r s => by
    have := r.vals t _ l.h
    have := r.vals u _ m.h
    have := r.vals u2 _ m2.h
    simp only [results, hr]
    simp [*, asAddr, Sem.run_bind, Result.andThen, vr.h w s]) h
end control
theorem take_min {α : Type} (l : List α) (n : Nat) : l.take (min l.length n) = l.take n := by
  by_cases h : l.length ≤ n
  · rw [List.take_of_length_le (by omega), List.take_of_length_le h]
  · rw [show min l.length n = n by omega]
theorem To08_spec {L K iv mv} {R : Ros} [ri : RdE L SL.encStr iv R.isins] [rm : RdE L encRw mv R.members]
    (hE : rosE ⟨R.nodes, R.isins.take 40, R.members.take 70⟩ ≠ 0 → ∀ iv' mv', One1 iv' → One1 mv' → (∀ w, SlIn w iv SL.encStr R.isins → SlIn w iv' SL.encStr (R.isins.take 40)) → (∀ w, SlIn w mv encRw R.members → SlIn w mv' encRw (R.members.take 70)) →
      Ht L (K (.tuple #[.pointer none, .agg #[.int .i64 R.nodes, iv', mv'], .int .i64 (rosE ⟨R.nodes, R.isins.take 40, R.members.take 70⟩)])))
    (hG : rosE ⟨R.nodes, R.isins.take 40, R.members.take 70⟩ = 0 → RosOk ⟨R.nodes, R.isins.take 40, R.members.take 70⟩ → ∀ iv' mv' p, One1 iv' → One1 mv' → (∀ w, SlIn w iv SL.encStr R.isins → SlIn w iv' SL.encStr (R.isins.take 40)) → (∀ w, SlIn w mv encRw R.members → SlIn w mv' encRw (R.members.take 70)) →
      Ht (isRos p ⟨R.nodes, R.isins.take 40, R.members.take 70⟩ :: L) (K (.tuple #[.pointer (some ⟨p, 0, none⟩), .agg #[.int .i64 R.nodes, iv', mv'], .int .i64 0]))) :
    Ht L (CCall Tryz.prog 41 [.agg #[.int .i64 R.nodes, iv, mv]] K) := by
  have hri : ∀ (M' : List HP) [fr : Frm M' L], RdS M' iv SL.encStr R.isins := fun M' fr => ⟨fun w t => ri.h w (fr.h _ _ t)⟩
  have hrm : ∀ (M' : List HP) [fr : Frm M' L], RdS M' mv encRw R.members := fun M' fr => ⟨fun w t => rm.h w (fr.h _ _ t)⟩
  refine Ht.know (p := One1 iv ∧ One1 mv ∧ R.isins.length ≤ 9223372036854775807 ∧ R.members.length ≤ 9223372036854775807) (fun w t => ⟨one1_of (ri.h w t), one1_of (rm.h w t), (ri.h w t).le, (rm.h w t).le⟩) (fun ⟨oiv, omv, hle1, hle2⟩ => ?_)
  have hsub1 : ∀ w, SlIn w iv SL.encStr R.isins → SlIn w (slSub iv SL.encStr.k 0 (min R.isins.length 40)) SL.encStr (R.isins.take 40) := fun w t => by
    have := slSub_in t (lo := 0) (hi := min R.isins.length 40) (by omega)
    rwa [List.drop_zero, take_min] at this
  have hsub2 : ∀ w, SlIn w mv encRw R.members → SlIn w (slSub mv encRw.k 0 (min R.members.length 70)) encRw (R.members.take 70) := fun w t => by
    have := slSub_in t (lo := 0) (hi := min R.members.length 70) (by omega)
    rwa [List.drop_zero, take_min] at this
  obtain ⟨u, hu⟩ : ∃ u, u = slSub iv SL.encStr.k 0 (min R.isins.length 40) := ⟨_, rfl⟩
  obtain ⟨v, hv⟩ : ∃ v, v = slSub mv encRw.k 0 (min R.members.length 70) := ⟨_, rfl⟩
  rw [← hu] at hsub1
  rw [← hv] at hsub2
  refine Ht.know (p := One1 u ∧ One1 v) (fun w t => ⟨one1_of (hsub1 w (ri.h w t)), one1_of (hsub2 w (rm.h w t))⟩) (fun ⟨ou, ov⟩ => ?_)
  have hE := fun hh => hE hh u v ou ov hsub1 hsub2
  have hG := fun hh hk p => hG hh hk u v p ou ov hsub1 hsub2
  refine ccall1 Tryz.func41 rfl (by decide) Tryz.ntmps41 (by rfl) (by decide) ?_
  repeat (refine stp ?_)
  intro c
  repeat (refine stp ?_)
  intro c3
  repeat (refine stp ?_)
  rewrite [show (if (40 : Int) < (R.isins.length : Int) then (40 : Int) else (R.isins.length : Int)) = ((min R.isins.length 40 : Nat) : Int) from by split <;> omega]
  refine co_slice (e := SL.encStr) (xs := R.isins) (by omega) ?_
  intro _
  rewrite [show slSub iv 1 0 (min R.isins.length 40) = u from hu.symm]
  repeat (refine stp ?_)
  rewrite [show (if (70 : Int) < (R.members.length : Int) then (70 : Int) else (R.members.length : Int)) = ((min R.members.length 70 : Nat) : Int) from by split <;> omega]
  refine co_slice (e := encRw) (xs := R.members) (by omega) ?_
  intro _
  rewrite [show slSub mv 2 0 (min R.members.length 70) = v from hv.symm]
  clear hri hrm
  have hri : ∀ (M' : List HP) [fr : Frm M' L], RdS M' u SL.encStr (R.isins.take 40) := fun M' fr => ⟨fun w t => hsub1 w (ri.h w (fr.h _ _ t))⟩
  have hrm : ∀ (M' : List HP) [fr : Frm M' L], RdS M' v encRw (R.members.take 70) := fun M' fr => ⟨fun w t => hsub2 w (rm.h w (fr.h _ _ t))⟩
  obtain ⟨nd, hnd⟩ : ∃ x, x = R.nodes := ⟨_, rfl⟩
  obtain ⟨l, hl⟩ : ∃ l, l = R.isins.take 40 := ⟨_, rfl⟩
  obtain ⟨m, hm⟩ : ∃ m, m = R.members.take 70 := ⟨_, rfl⟩
  have hml : m.length ≤ 70 := by rw [hm, List.length_take]; omega
  rewrite [← hnd]
  rw [← hnd, ← hl, ← hm] at hE hG
  rw [← hl] at hri
  rw [← hm] at hrm
  repeat (refine stp ?_)
  refine cc_env (E' := [(6, .int .i64 0), (5, .slice none 0 0), (4, .int .i64 0), (3, .pointer (some ⟨c3, 0, none⟩)), (2, .pointer none), (1, .pointer (some ⟨c, 0, none⟩))]) inferInstance ?_
  refine ht_for m.length (fun i (x : Value) => One1 x) (fun i x => own encRw 107 x (m.take i) :: pto c (cells [.int .i64 nd, u, v] 25) :: pto c3 (cells [.int .i64 0, .slice none 0 0, .slice none 0 0] 25) :: L) (fun i x => [(6, .int .i64 (i : Int)), (5, x)]) (.slice none 0 0) [6, 5] ⟨rfl⟩ (fun w t => own_nil.2 t) inferInstance ?_
  intro i x hi ox
  dsimp only [List.cons_append, List.nil_append]
  have htl : (m.take i).length = i := by rw [List.length_take]; omega
  repeat (refine stp ?_)
  refine ht_if ?_ ?_ <;> intro hc <;> simp only [decide_eq_true_eq, decide_eq_false_iff_not] at hc
  · have hii : i < m.length := by omega
    repeat (refine stp ?_)
    refine ht_draw Tryz.can41x7 Tryz.mixed (by kernel_rfl) ?_
    repeat (refine stp ?_)
    refine cd_index (xs := m) (by omega) ?_
    intro hb1 hb2
    repeat (refine stp ?_)
    intro b1
    repeat (refine stp ?_)
    refine Ht.own_lit encRw (b := b1) (n := 1) (xs := [((m[i]!).1, (m[i]!).2)]) rfl rfl (by decide) ?_
    refine co_append (e := encRw) (xs := m.take i) (ys := [((m[i]!).1, (m[i]!).2)]) (by rfl) (by simp; omega) (by simp; omega) ?_
    intro x2
    refine Ht.one1 (v := x2) ?_
    intro ox2
    rewrite [takeSn hii]
    repeat (refine stp ?_)
    exact ht_next x2 hii ox2 (fun w t => (inferInstance : Frm _ _).h _ _ t) (SubE.cons (by rw [IntWalk.i64_in _ (by omega)]; rfl) inferInstance) rfl rfl
  · have ei : i = m.length := by omega
    subst ei
    rw [List.take_length]
    repeat (refine stp ?_)
    refine RNew_spec (R := ⟨nd, l, m⟩) (fun hbad => ?_) (fun hz hk p => ?_)
    · have hh := hE hbad
      repeat (refine stp ?_)
      refine ht_draw Tryz.can41x9 Tryz.mixed (by kernel_rfl) ?_
      repeat (refine stp ?_)
      exact rettct rfl (Ht.frm hh)
    · have hh := hG hz hk p
      repeat (refine stp ?_)
      refine ht_draw Tryz.can41x9 Tryz.mixed (by kernel_rfl) ?_
      repeat (refine stp ?_)
      exact rettct rfl (Ht.frm hh)
end Go.Proofs
namespace Go.Proofs
open Go Go.SL
attribute [local irreducible] CCall CO CC CX CD
abbrev PtD := SVy × SVy × Bool × Int
@[reducible] def encPd : Enc PtD := ⟨4, fun x => [svY x.1, svY x.2.1, .bool x.2.2.1, .int .i64 x.2.2.2], fun _ => rfl, fun _ v h => by simp [svY] at h; rcases h with rfl | rfl | rfl | rfl <;> rfl⟩
@[reducible] def pd0 : PtD := ((none, 0, 0), (none, 0, 0), false, 0)
def famRN : List (List CanIt) := [[.q 0, .q 1, .q 2, .q 3, .q 5, .q 7, .x 4 [0, 1, 5, 7], .x 6 [0, 1, 2, 3, 7], .x 8 [0, 1, 2, 3, 5], .q 9, .x 10 [], .q 11], [.q 0, .q 1, .q 2, .q 3, .q 5, .q 7, .x 4 [0, 1, 5, 7], .x 8 [0, 1, 2, 3, 5], .x 6 [0, 1, 2, 3, 7], .q 9, .x 10 [], .q 11], [.q 0, .q 1, .q 2, .q 3, .q 5, .q 7, .x 6 [0, 1, 2, 3, 7], .x 4 [0, 1, 5, 7], .x 8 [0, 1, 2, 3, 5], .q 9, .x 10 [], .q 11], [.q 0, .q 1, .q 2, .q 3, .q 5, .q 7, .x 6 [0, 1, 2, 3, 7], .x 8 [0, 1, 2, 3, 5], .x 4 [0, 1, 5, 7], .q 9, .x 10 [], .q 11], [.q 0, .q 1, .q 2, .q 3, .q 5, .q 7, .x 8 [0, 1, 2, 3, 5], .x 4 [0, 1, 5, 7], .x 6 [0, 1, 2, 3, 7], .q 9, .x 10 [], .q 11], [.q 0, .q 1, .q 2, .q 3, .q 5, .q 7, .x 8 [0, 1, 2, 3, 5], .x 6 [0, 1, 2, 3, 7], .x 4 [0, 1, 5, 7], .q 9, .x 10 [], .q 11]]
theorem RefNew_spec {L K iv mv} {m : Nat} {hm : Int} (hb : m ≤ 3) (oiv : One1 iv) (omv : One1 mv)
    (h : ∀ p pr cl pv, One1 pv → Ht (pto p (cells [.int .i64 m, iv, mv, .int .i64 hm, pv, .slice none 0 0, .slice none 0 0, .pointer (some ⟨pr, 0, none⟩), .int .i64 0, .slice none 0 0, .pointer (some ⟨cl, 0, none⟩)] 50) :: own encPd 153 pv (List.replicate m pd0) :: pto pr (cells [.slice none 0 0] 220) :: pto cl (cells [.int .i64 1, .int .i64 0, .slice none 0 0] 223) :: L) (K (.pointer (some ⟨p, 0, none⟩)))) :
    Ht L (CCall Tryz.prog 43 [.agg #[.int .i64 m, iv, mv], .int .i64 hm] K) := by
  refine ccall2 Tryz.func43 rfl (by decide) Tryz.ntmps43 (by rfl) (by decide) ?_
  repeat (refine stp ?_)
  intro c
  repeat (refine stp ?_)
  refine ht_drawG [4, 6, 8, 10] famRN Tryz.mixed (by kernel_rfl) ?_
  intro π hπ
  simp only [famRN, List.mem_cons, List.mem_nil_iff, or_false] at hπ
  rcases hπ with rfl | rfl | rfl | rfl | rfl | rfl
  · repeat (refine stp ?_)
    refine co_makeSlice encPd pd0 (m := m) rfl (by omega) (by omega) (by omega) ?_
    intro pv
    refine Ht.one1 (v := pv) ?_
    intro opv
    repeat (refine stp ?_)
    intro pr
    repeat (refine stp ?_)
    intro cl
    repeat (refine stp ?_)
    intro p
    repeat (refine stp ?_)
    exact ret1 rfl (Ht.frm (h p pr cl pv opv))
  · repeat (refine stp ?_)
    refine co_makeSlice encPd pd0 (m := m) rfl (by omega) (by omega) (by omega) ?_
    intro pv
    refine Ht.one1 (v := pv) ?_
    intro opv
    repeat (refine stp ?_)
    intro cl
    repeat (refine stp ?_)
    intro pr
    repeat (refine stp ?_)
    intro p
    repeat (refine stp ?_)
    exact ret1 rfl (Ht.frm (h p pr cl pv opv))
  · repeat (refine stp ?_)
    intro pr
    repeat (refine stp ?_)
    refine co_makeSlice encPd pd0 (m := m) rfl (by omega) (by omega) (by omega) ?_
    intro pv
    refine Ht.one1 (v := pv) ?_
    intro opv
    repeat (refine stp ?_)
    intro cl
    repeat (refine stp ?_)
    intro p
    repeat (refine stp ?_)
    exact ret1 rfl (Ht.frm (h p pr cl pv opv))
  · repeat (refine stp ?_)
    intro pr
    repeat (refine stp ?_)
    intro cl
    repeat (refine stp ?_)
    refine co_makeSlice encPd pd0 (m := m) rfl (by omega) (by omega) (by omega) ?_
    intro pv
    refine Ht.one1 (v := pv) ?_
    intro opv
    repeat (refine stp ?_)
    intro p
    repeat (refine stp ?_)
    exact ret1 rfl (Ht.frm (h p pr cl pv opv))
  · repeat (refine stp ?_)
    intro cl
    repeat (refine stp ?_)
    refine co_makeSlice encPd pd0 (m := m) rfl (by omega) (by omega) (by omega) ?_
    intro pv
    refine Ht.one1 (v := pv) ?_
    intro opv
    repeat (refine stp ?_)
    intro pr
    repeat (refine stp ?_)
    intro p
    repeat (refine stp ?_)
    exact ret1 rfl (Ht.frm (h p pr cl pv opv))
  · repeat (refine stp ?_)
    intro cl
    repeat (refine stp ?_)
    intro pr
    repeat (refine stp ?_)
    refine co_makeSlice encPd pd0 (m := m) rfl (by omega) (by omega) (by omega) ?_
    intro pv
    refine Ht.one1 (v := pv) ?_
    intro opv
    repeat (refine stp ?_)
    intro p
    repeat (refine stp ?_)
    exact ret1 rfl (Ht.frm (h p pr cl pv opv))
end Go.Proofs
namespace Go.Proofs
open Go Go.SL
attribute [local irreducible] CCall CO CC CX CD
@[reducible] def clipRo (R : Ros) : Ros := ⟨R.nodes, R.isins.take 40, R.members.take 70⟩
theorem RefNew_at {L K iv mv} {nd hm : Int} (hn : 0 ≤ nd ∧ nd ≤ 3) (oiv : One1 iv) (omv : One1 mv)
    (h : ∀ p pr cl pv, One1 pv → Ht (pto p (cells [.int .i64 nd, iv, mv, .int .i64 hm, pv, .slice none 0 0, .slice none 0 0, .pointer (some ⟨pr, 0, none⟩), .int .i64 0, .slice none 0 0, .pointer (some ⟨cl, 0, none⟩)] 50) :: own encPd 153 pv (List.replicate nd.toNat pd0) :: pto pr (cells [.slice none 0 0] 220) :: pto cl (cells [.int .i64 1, .int .i64 0, .slice none 0 0] 223) :: L) (K (.pointer (some ⟨p, 0, none⟩)))) :
    Ht L (CCall Tryz.prog 43 [.agg #[.int .i64 nd, iv, mv], .int .i64 hm] K) := by
  obtain ⟨m, rfl⟩ := Int.eq_ofNat_of_zero_le hn.1
  exact RefNew_spec (by omega) oiv omv h
theorem Begin_spec {L K iv mv} {R : Ros} {hm : Int} [ri : RdE L SL.encStr iv R.isins] [rm : RdE L encRw mv R.members]
    (hE : rosE (clipRo R) ≠ 0 ∨ hm < 0 ∨ R.nodes ≤ hm → Ht L (K (.tuple #[.agg #[.pointer none, .pointer none], .bool false, .bool true])))
    (hG : rosE (clipRo R) = 0 → RosOk (clipRo R) → 0 ≤ hm → hm < R.nodes → ∀ iv' mv', One1 iv' → One1 mv' → (∀ w, SlIn w iv SL.encStr R.isins → SlIn w iv' SL.encStr (R.isins.take 40)) → (∀ w, SlIn w mv encRw R.members → SlIn w mv' encRw (R.members.take 70)) → ∀ b x d pr cl pv, One1 pv → LgSt (clipRo R) 0 x (lg0 R.nodes.toNat) → x.hm = hm →
      Ht (isLg b x :: isRos x.ros (clipRo R) :: pto d (cells [.int .i64 R.nodes, iv', mv', .int .i64 hm, pv, .slice none 0 0, .slice none 0 0, .pointer (some ⟨pr, 0, none⟩), .int .i64 0, .slice none 0 0, .pointer (some ⟨cl, 0, none⟩)] 50) :: own encPd 153 pv (List.replicate R.nodes.toNat pd0) :: pto pr (cells [.slice none 0 0] 220) :: pto cl (cells [.int .i64 1, .int .i64 0, .slice none 0 0] 223) :: L)
        (K (.tuple #[.agg #[.pointer (some ⟨b, 0, none⟩), .pointer (some ⟨d, 0, none⟩)], .bool true, .bool true]))) :
    Ht L (CCall Tryz.prog 7 [.agg #[.int .i64 R.nodes, iv, mv], .int .i64 hm] K) := by
  have hri : ∀ (M' : List HP) [fr : Frm M' L], RdE M' SL.encStr iv R.isins := fun M' fr => ⟨fun w t => ri.h w (fr.h _ _ t)⟩
  have hrm : ∀ (M' : List HP) [fr : Frm M' L], RdE M' encRw mv R.members := fun M' fr => ⟨fun w t => rm.h w (fr.h _ _ t)⟩
  refine Ht.know (p := One1 iv ∧ One1 mv) (fun w t => ⟨one1_of (ri.h w t), one1_of (rm.h w t)⟩) (fun ⟨oiv, omv⟩ => ?_)
  refine ccall2 Tryz.func7 rfl (by decide) Tryz.ntmps7 (by rfl) (by decide) ?_
  repeat (refine stp ?_)
  intro c2
  repeat (refine stp ?_)
  intro c4
  repeat (refine stp ?_)
  refine To08_spec (R := R) (fun hbad iv' mv' oi om hi2 hm2 => ?_) (fun hz hok iv' mv' p oi om hi2 hm2 => ?_)
  · have hri2 : ∀ (M' : List HP) [fr : Frm M' L], RdE M' SL.encStr iv' (R.isins.take 40) := fun M' fr => ⟨fun w t => hi2 w (ri.h w (fr.h _ _ t))⟩
    have hrm2 : ∀ (M' : List HP) [fr : Frm M' L], RdE M' encRw mv' (R.members.take 70) := fun M' fr => ⟨fun w t => hm2 w (rm.h w (fr.h _ _ t))⟩
    repeat (refine stp ?_)
    intro c8
    repeat (refine stp ?_)
    rewrite [decide_eq_true hbad]
    repeat (refine stp ?_)
    refine RCheck_spec (R := clipRo R) ?_
    repeat (refine stp ?_)
    rewrite [decide_eq_true hbad]
    repeat (refine stp ?_)
    exact retctt rfl (Ht.frm (hE (.inl hbad)))
  · repeat (refine stp ?_)
    intro c8
    repeat (refine stp ?_)
    try rewrite [show decide ((0 : Int) ≠ 0) = false from rfl]
    repeat (refine stp ?_)
    refine LNew_spec (R := clipRo R) (fun hb => ?_) (fun h0 h1 b x st hro hhm => ?_)
    · repeat (refine stp ?_)
      by_cases h5 : hm < 0
      · rewrite [decide_eq_true h5]
        repeat (refine stp ?_)
        try rewrite [show decide ((5 : Int) = 5) = true from rfl]
        repeat (refine stp ?_)
        exact retctt rfl (Ht.frm (hE (.inr hb)))
      rewrite [decide_eq_false h5]
      repeat (refine stp ?_)
      rewrite [decide_eq_true (show R.nodes ≤ hm from hb.resolve_left h5)]
      repeat (refine stp ?_)
      try rewrite [show decide ((5 : Int) = 5) = true from rfl]
      repeat (refine stp ?_)
      exact retctt rfl (Ht.frm (hE (.inr hb)))
    · subst hro
      have h1 : hm < R.nodes := h1
      repeat (refine stp ?_)
      rewrite [decide_eq_false (show ¬ hm < 0 from by omega)]
      repeat (refine stp ?_)
      rewrite [decide_eq_false (show ¬ R.nodes ≤ hm from by omega)]
      repeat (refine stp ?_)
      have hn3 : 1 ≤ R.nodes ∧ R.nodes ≤ 3 := hok.nodes
      refine RefNew_at (by omega) oi om fun d pr cl pv opv => ?_
      repeat (refine stp ?_)
      try rewrite [show decide ((0 : Int) = 0) = true from rfl]
      repeat (refine stp ?_)
      exact retctt rfl (Ht.frm (hG hz hok h0 h1 iv' mv' oi om hi2 hm2 b x d pr cl pv opv st hhm))
end Go.Proofs
namespace Go.Proofs
open Go Go.SL
def OutOk (o : Int × Nt) : Prop := NtOk o.2 ∧ noteE o.2 = 0 ∧ o.2.rows.length ≤ 32
theorem firstE_of : ∀ {l : Rows}, (∀ r ∈ l, isinS r.1 = 0) → firstE l = 0
  | [], _ => rfl
  | a :: l, h => by
    unfold firstE
    rw [if_neg (fun hh => hh (h a (List.mem_cons_self ..)))]
    exact firstE_of fun r hr => h r (List.mem_cons_of_mem _ hr)
theorem rowsE_of {k : Int} {l : Rows} (h1 : l.length ≤ 32) (h2 : ∀ r ∈ l, isinS r.1 = 0) (h3 : Srt l) (h4 : k = 10 → ∀ r ∈ l, 0 ≤ r.2 ∧ r.2 ≤ bigM) : rowsE k l = 0 := by
  unfold rowsE
  rw [if_neg (by omega), if_neg (fun hh => hh (firstE_of h2)), if_neg (by rw [srt_sorted h3]; decide), if_neg]
  rintro ⟨hk, hh⟩
  obtain ⟨r, hr, hh⟩ := List.any_eq_true.1 hh
  have := h4 hk r hr
  unfold amtB at hh
  rw [if_pos rfl, decide_eq_true this.1, decide_eq_true this.2] at hh
  cases hh
theorem ntK_wf {k peer day hi lo : Int} {tr : Td} {rows : Rows} (hk : 0 ≤ k ∧ k ≤ 12) (hp : 0 ≤ peer ∧ peer ≤ 2) (hd : 0 ≤ day ∧ day ≤ 500)
    (ht : (Lit.int .i64 tr.id).wf = true ∧ tr.buyer.size ≤ maxLen ∧ tr.seller.size ≤ maxLen ∧ tr.isin.size ≤ maxLen ∧ (Lit.int .i64 tr.qty).wf = true ∧ (Lit.int .i64 tr.price).wf = true)
    (hh : (Lit.int .i64 hi).wf = true) (hl : (Lit.int .u64 lo).wf = true) (hr : ∀ r ∈ rows, r.1.size ≤ maxLen ∧ (Lit.int .i64 r.2).wf = true) : NtOk (ntK k peer day tr rows hi lo) :=
  ⟨wfL_of (by show _ ≤ k; omega) (by show k ≤ _; omega), wfL_of (by show _ ≤ peer; omega) (by show peer ≤ _; omega), wfL_of (by show _ ≤ day; omega) (by show day ≤ _; omega), ht.1, ht.2.1, ht.2.2.1, ht.2.2.2.1, ht.2.2.2.2.1, ht.2.2.2.2.2, Nat.zero_le _, wfL_of (by show _ ≤ (0 : Int); decide) (by show (0 : Int) ≤ _; decide), hh, hl, hr⟩
theorem noTd_wf : (Lit.int .i64 noTd.id).wf = true ∧ noTd.buyer.size ≤ maxLen ∧ noTd.seller.size ≤ maxLen ∧ noTd.isin.size ≤ maxLen ∧ (Lit.int .i64 noTd.qty).wf = true ∧ (Lit.int .i64 noTd.price).wf = true := by
  refine ⟨by decide, Nat.zero_le _, Nat.zero_le _, Nat.zero_le _, by decide, by decide⟩
theorem out9 {hm day : Int} {tr : Td} (h1 : 0 ≤ hm ∧ hm ≤ 2) (h2 : 1 ≤ day ∧ day ≤ 500) (h3 : tradeE tr = 0) : noteE (ntK 9 hm day tr [] 0 0) = 0 := by
  have hf : fm 9 = ⟨true, true, true, false, false, false, false⟩ := rfl
  unfold noteE
  show (if okK 9 = false then 1 else _) = 0
  rw [if_neg (by decide), if_neg (by simp [ntK, hf, moreF, hasN]), if_neg (fun hh => by have := hh.2; simp only [ntK] at this; omega), if_neg (fun hh => by have := hh.2; simp only [ntK] at this; omega), if_neg (fun hh => hh.2 h3), if_neg (by simp [ntK, hf]), if_neg (by simp [ntK, hf]), if_neg (by simp [ntK, hf])]
theorem out10 {hm day : Int} {rows : Rows} (h1 : 0 ≤ hm ∧ hm ≤ 2) (h2 : 1 ≤ day ∧ day ≤ 500) (h3 : rowsE 10 rows = 0) : noteE (ntK 10 hm day noTd rows 0 0) = 0 := by
  have hf : fm 10 = ⟨true, true, false, false, false, true, false⟩ := rfl
  unfold noteE
  show (if okK 10 = false then 1 else _) = 0
  rw [if_neg (by decide), if_neg (by simp [ntK, hf, moreF, hasN, noTd]), if_neg (fun hh => by have := hh.2; simp only [ntK] at this; omega), if_neg (fun hh => by have := hh.2; simp only [ntK] at this; omega), if_neg (by simp [ntK, hf]), if_neg (by simp [ntK, hf]), if_neg (by simp [ntK, hf]), if_pos (by simp [ntK, hf])]
  exact h3
theorem out11 {hm day hi lo : Int} {rows : Rows} (h1 : 0 ≤ hm ∧ hm ≤ 2) (h2 : 1 ≤ day ∧ day ≤ 500) (h3 : rowsE 11 rows = 0) : noteE (ntK 11 hm day noTd rows hi lo) = 0 := by
  have hf : fm 11 = ⟨true, true, false, false, false, true, true⟩ := rfl
  unfold noteE
  show (if okK 11 = false then 1 else _) = 0
  rw [if_neg (by decide), if_neg (by simp [ntK, hf, moreF, hasN, noTd]), if_neg (fun hh => by have := hh.2; simp only [ntK] at this; omega), if_neg (fun hh => by have := hh.2; simp only [ntK] at this; omega), if_neg (by simp [ntK, hf]), if_neg (by simp [ntK, hf]), if_neg (by simp [ntK, hf]), if_pos (by simp [ntK, hf])]
  exact h3
theorem out12 {hm : Int} (h1 : 0 ≤ hm ∧ hm ≤ 2) : noteE (ntK 12 hm 0 noTd [] 0 0) = 0 := by
  have hf : fm 12 = ⟨true, false, false, false, false, false, false⟩ := rfl
  unfold noteE
  show (if okK 12 = false then 1 else _) = 0
  rw [if_neg (by decide), if_neg (by simp [ntK, hf, moreF, hasN, noTd]), if_neg (fun hh => by have := hh.2; simp only [ntK] at this; omega), if_neg (by simp [ntK, hf]), if_neg (by simp [ntK, hf]), if_neg (by simp [ntK, hf]), if_neg (by simp [ntK, hf]), if_neg (by simp [ntK, hf])]
theorem route_trade {R : Ros} {t : Td} (h : routeE R t = 0) : tradeE t = 0 := by
  unfold routeE at h
  split at h
  · next hh => exact absurd h hh
  next hh => exact Decidable.not_not.1 hh
theorem rowsB_len {R : Ros} (ok : RosOk R) {es : List Ent} (hg : BkG R.isins es) : (rowsB es).length ≤ 32 ∧ ∀ r ∈ rowsB es, isinS r.1 = 0 := by
  have hr := rowsB_hr hg.ne
  have hm : ∀ r ∈ rowsB es, r.1 ∈ R.isins := fun r hr' => by
    have h1 := hr.mem.1 hr'
    obtain ⟨e, he, hee⟩ := eQ_ne (es := es) (k := r.1) (by rw [h1.2.2]; exact h1.1)
    rw [← hee]; exact hg.mem e he
  have := keys_le (R := R) hr.srt fun r hr' => List.any_eq_true.2 ⟨r.1, hm r hr', by simp⟩
  have := ok.il
  exact ⟨by omega, fun r hr' => ok.iv _ (hm r hr')⟩
theorem doK_outs {R : Ros} {k : Nat} {x : LgL} {s : Lg} {n : Nt} (st : LgSt R k x s) (hno : NtOk n) (hE : mayL R x.hm s n = 0) : ∀ o ∈ (doK R x.hm s n).2, OutOk o := by
  obtain ⟨h0, hm⟩ := may_note hE
  have hhm := st.ok.home
  have hn3 := st.ok.ros.nodes
  have hh2 : 0 ≤ x.hm ∧ x.hm ≤ 2 := by omega
  have htd : (Lit.int .i64 n.tr.id).wf = true ∧ n.tr.buyer.size ≤ maxLen ∧ n.tr.seller.size ≤ maxLen ∧ n.tr.isin.size ≤ maxLen ∧ (Lit.int .i64 n.tr.qty).wf = true ∧ (Lit.int .i64 n.tr.price).wf = true := ⟨hno.id, hno.buyer, hno.seller, hno.isin, hno.qty, hno.price⟩
  have hrep : ∀ (s' : Lg) (p d : Int), s'.ents = s.ents → (endedL s' x.hm : Int) ≤ 500 → ∀ o ∈ repL x.hm s' p d, OutOk o := fun s' p d he hd o ho => by
    unfold repL at ho
    split at ho
    · next hw =>
      rw [List.mem_singleton] at ho
      subst ho
      have hg := st.bkg.bet (lnkB p) 0 d
      have hpe : posE s' (lnkB p) 0 d = posB s.ents (lnkB p) 0 d := by unfold posE posB; rw [he]
      unfold withB at hw
      rw [Bool.and_eq_true, Bool.and_eq_true, Bool.and_eq_true, decide_eq_true_eq, decide_eq_true_eq] at hw
      obtain ⟨l1, l2⟩ := rowsB_len st.ok.ros hg
      unfold repN
      rw [hpe]
      refine ⟨ntK_wf (by decide) hh2 (by omega) noTd_wf (wfHi hg.ec_fit) wfLo (rowsB_rw st hg), out11 hh2 (by omega) (rowsE_of l1 l2 (rowsB_hr hg.ne).srt (fun hk => absurd hk (by decide))), l1⟩
    · cases ho
  unfold mayK at hm
  unfold doK
  by_cases k1 : n.kind = 1
  · rw [if_pos k1] at hm ⊢
    obtain ⟨m1, m2, m3, m4, m5⟩ := may1_t hm
    unfold do1
    split
    · intro o ho; cases ho
    · intro o ho
      rw [List.mem_singleton] at ho
      subst ho
      have : 1 ≤ dayL x.hm s := by unfold dayL; omega
      exact ⟨ntK_wf (by decide) hh2 (by omega) htd (by decide) (by decide) (fun r hr => (by cases hr)), out9 hh2 (by omega) (route_trade m1), Nat.zero_le _⟩
  rw [if_neg k1] at hm ⊢
  by_cases k2 : n.kind = 2
  · rw [if_pos k2] at hm ⊢
    have m1 := may2_t hm
    intro o ho
    unfold do2 at ho
    rcases List.mem_append.1 ho with ho | ho
    · obtain ⟨p, hp, rfl⟩ := List.mem_map.1 ho
      have : 1 ≤ dayL x.hm s := by unfold dayL; omega
      have hpr := st.ok.pr
      exact ⟨ntK_wf (by decide) hh2 (by omega) noTd_wf (by decide) (by decide) (fun r hr => by
        have := hpr.v r hr
        exact ⟨isin_rw this.1, wfL_of (by omega) (by have := this.2.2; unfold bigM at this; omega)⟩), out10 hh2 (by omega) (rowsE_of hpr.len (fun r hr => (hpr.v r hr).1) hpr.srt (fun _ r hr => (hpr.v r hr).2)), hpr.len⟩
    · obtain ⟨p, hp, ho⟩ := List.mem_flatMap.1 ho
      refine hrep (cutL x.hm s) p _ rfl ?_ o ho
      have hk := home_in st.ok
      have : endedL (cutL x.hm s) x.hm = endedL s x.hm + 1 := by
        unfold endedL cutL ptAt updP
        dsimp only
        rw [List.length_set, if_pos hk, getElem!_pos _ _ (by rw [List.length_set]; omega), List.getElem_set_self, List.length_append]
        unfold ptAt
        rw [if_pos hk]; rfl
      unfold dayL at m1
      omega
  rw [if_neg k2] at hm ⊢
  by_cases k3 : n.kind = 3
  · rw [if_pos k3]; intro o ho; cases ho
  rw [if_neg k3] at hm ⊢
  by_cases k4 : n.kind = 4
  · rw [if_pos k4]; intro o ho; cases ho
  rw [if_neg k4] at hm ⊢
  by_cases k5 : n.kind = 5
  · rw [if_pos k5]; intro o ho; cases ho
  rw [if_neg k5] at hm ⊢
  by_cases k6 : n.kind = 6
  · rw [if_pos k6]; intro o ho; cases ho
  rw [if_neg k6] at hm ⊢
  by_cases k7 : n.kind = 7
  · rw [if_pos k7]; intro o ho; cases ho
  rw [if_neg k7] at hm ⊢
  by_cases k8 : n.kind = 8
  · rw [if_pos k8]
    intro o ho
    rw [List.mem_singleton] at ho
    subst ho
    exact ⟨ntK_wf (by decide) hh2 (by decide) noTd_wf (by decide) (by decide) (fun r hr => (by cases hr)), out12 hh2, Nat.zero_le _⟩
  rw [if_neg k8] at hm ⊢
  by_cases k9 : n.kind = 9
  · rw [if_pos k9]; intro o ho; cases ho
  rw [if_neg k9] at hm ⊢
  by_cases k10 : n.kind = 10
  · rw [if_pos k10] at hm ⊢
    obtain ⟨m1, m2⟩ := next_t hm
    have hp := (peerB_iff.1 m1).2
    have hp1 := (peerB_iff.1 m1).1
    intro o ho
    refine hrep (do10 s n) n.peer n.day rfl ?_ o ho
    have hk := home_in st.ok
    have : endedL (do10 s n) x.hm = endedL s x.hm := by
      unfold endedL do10 ptAt updP
      dsimp only
      rw [List.length_set, if_pos hk, if_pos hk, getElem!_pos _ _ (by rw [List.length_set]; omega), getElem!_pos _ _ (by omega), List.getElem_set_ne (by omega)]
    rw [this]
    have := endedL_le st.ok x.hm
    omega
  rw [if_neg k10] at hm ⊢
  by_cases k11 : n.kind = 11
  · rw [if_pos k11]; intro o ho; cases ho
  rw [if_neg k11]; intro o ho; cases ho
end Go.Proofs
namespace Go.Proofs
open Go Go.SL
theorem betB_late {B C : Book} {a u : Int} (h : ∀ x ∈ C, u < x.1) : betB (B ++ C) a u = betB B a u := by
  unfold betB
  rw [List.filter_append, List.map_append]
  have : C.filter (fun x => decide (a < x.1 ∧ x.1 ≤ u)) = [] := List.filter_eq_nil_iff.2 fun x hx => by have := h x hx; simp; omega
  rw [this, List.map_nil, List.append_nil]
theorem entD_day {d : Int} {l : List Ent} {u : Int} (h : u < d) : ∀ x ∈ entD d l, u < x.1 := fun x hx => by
  obtain ⟨e, he, rfl⟩ := List.mem_map.1 hx
  exact h
def Farther (u : Int) (s s' : Lg) : Prop := s'.pts.length = s.pts.length ∧ (∀ n, endedL s n ≤ endedL s' n) ∧ ∀ name, posE s' name 0 u = posE s name 0 u
theorem Farther.refl {u : Int} {s : Lg} : Farther u s s := ⟨rfl, fun n => Nat.le_refl _, fun name => rfl⟩
theorem Farther.trans {u : Int} {s s' s2 : Lg} (h : Farther u s s') (h' : Farther u s' s2) : Farther u s s2 :=
  ⟨h'.1.trans h.1, fun n => Nat.le_trans (h.2.1 n) (h'.2.1 n), fun name => (h'.2.2 name).trans (h.2.2 name)⟩
theorem Farther.compl {u hm : Int} {s s' : Lg} (h : Farther u s s') (hc : complB hm s u = true) : complB hm s' u = true := by
  unfold complB at hc ⊢
  rw [Bool.and_eq_true, Bool.and_eq_true, decide_eq_true_eq, decide_eq_true_eq, List.all_eq_true] at hc
  rw [Bool.and_eq_true, Bool.and_eq_true, decide_eq_true_eq, decide_eq_true_eq, List.all_eq_true, h.1]
  have h1 := h.2.1 hm
  refine ⟨⟨hc.1.1, by omega⟩, fun n hn => ?_⟩
  have h2 := hc.2 n hn
  have h3 := h.2.1 n
  rw [Bool.or_eq_true, decide_eq_true_eq, decide_eq_true_eq] at h2 ⊢
  omega
theorem endL_upd {s : Lg} {m : Int} {f : Pt → Pt} (hm : 0 ≤ m) (hf : ∀ p, p.closed.length ≤ (f p).closed.length) (n : Int) : endedL s n ≤ endedL (updP s m f) n := by
  unfold endedL
  by_cases hn : 0 ≤ n ∧ n < s.pts.length
  · have hn' : 0 ≤ n ∧ n < (updP s m f).pts.length := by unfold updP; rw [List.length_set]; exact hn
    unfold ptAt
    rw [if_pos hn, if_pos hn']
    unfold updP at hn' ⊢
    dsimp only at hn' ⊢
    rw [getElem!_pos _ _ (by omega), getElem!_pos _ _ (by omega), List.getElem_set]
    split
    · next hh =>
      obtain rfl : m = n := by omega
      unfold ptAt
      rw [if_pos hn, getElem!_pos _ _ (by omega)]
      exact hf _
    · exact Nat.le_refl _
  · unfold ptAt
    rw [if_neg hn]; exact Nat.zero_le _
theorem far_upd {u : Int} {s : Lg} {m : Int} {f : Pt → Pt} (hm : 0 ≤ m) (hf : ∀ p, p.closed.length ≤ (f p).closed.length) : Farther u s (updP s m f) :=
  ⟨by unfold updP; rw [List.length_set], endL_upd hm hf, fun name => rfl⟩
theorem far_same {u : Int} {s s' : Lg} (h1 : s'.pts = s.pts) (h2 : s'.ents = s.ents) : Farther u s s' :=
  ⟨by rw [h1], fun n => by unfold endedL ptAt; rw [h1]; exact Nat.le_refl _, fun name => by unfold posE; rw [h2]⟩
theorem far_ents {u : Int} {s s' : Lg} {C : Book} (h1 : s'.pts = s.pts) (h2 : s'.ents = s.ents ++ C) (h : ∀ x ∈ C, u < x.1) : Farther u s s' :=
  ⟨by rw [h1], fun n => by unfold endedL ptAt; rw [h1]; exact Nat.le_refl _, fun name => by unfold posE; rw [h2, betB_late h]⟩
theorem doK_far {R : Ros} {hm : Int} {k : Nat} {s : Lg} {n : Nt} {u : Int} (ok : LgOk R hm k s) (hE : mayL R hm s n = 0) (hc : complB hm s u = true) : Farther u s (doK R hm s n).1 := by
  obtain ⟨h0, hmm⟩ := may_note hE
  have hhm := ok.home
  have hu : u ≤ endedL s hm := by
    unfold complB at hc
    rw [Bool.and_eq_true, Bool.and_eq_true, decide_eq_true_eq, decide_eq_true_eq] at hc
    exact hc.1.2
  have hup : ∀ p : Int, 0 ≤ p → p < s.pts.length → p ≠ hm → u ≤ endedL s p := fun p h1 h2 h3 => by
    unfold complB at hc
    rw [Bool.and_eq_true, List.all_eq_true] at hc
    have := hc.2 p.toNat (List.mem_range.2 (by omega))
    rw [Bool.or_eq_true, decide_eq_true_eq, decide_eq_true_eq, show ((p.toNat : Nat) : Int) = p by omega] at this
    exact this.resolve_left h3
  have hle : ∀ p : Pt, p.closed.length ≤ p.closed.length := fun p => Nat.le_refl _
  unfold mayK at hmm
  unfold doK
  by_cases k1 : n.kind = 1
  · rw [if_pos k1]
    exact far_ents rfl rfl (entD_day (by unfold dayL; omega))
  rw [if_neg k1] at hmm ⊢
  by_cases k2 : n.kind = 2
  · rw [if_pos k2]
    exact (far_upd (u := u) (s := s) (m := hm) (f := fun p => { p with closed := p.closed ++ [s.prices] }) hhm.1 (fun p => by show _ ≤ (p.closed ++ _).length; rw [List.length_append]; omega)).trans (far_same rfl rfl)
  rw [if_neg k2] at hmm ⊢
  by_cases k3 : n.kind = 3
  · rw [if_pos k3]; exact far_same rfl rfl
  rw [if_neg k3] at hmm ⊢
  by_cases k4 : n.kind = 4
  · rw [if_pos k4]; exact far_same rfl rfl
  rw [if_neg k4] at hmm ⊢
  by_cases k5 : n.kind = 5
  · rw [if_pos k5]; exact far_same rfl rfl
  rw [if_neg k5] at hmm ⊢
  by_cases k6 : n.kind = 6
  · rw [if_pos k6]; exact far_same rfl rfl
  rw [if_neg k6] at hmm ⊢
  by_cases k7 : n.kind = 7
  · rw [if_pos k7]; exact far_same rfl rfl
  rw [if_neg k7] at hmm ⊢
  by_cases k8 : n.kind = 8
  · rw [if_pos k8] at hmm ⊢
    have hp : peerB hm s n.peer = true := by
      unfold may8 at hmm
      split at hmm
      · exact absurd hmm (by decide)
      next hh => simpa using hh
    exact far_upd (peerB_iff.1 hp).1.1 hle
  rw [if_neg k8] at hmm ⊢
  by_cases k9 : n.kind = 9
  · rw [if_pos k9] at hmm ⊢
    have hp := (may9_t hmm).1
    have hd : n.day = (endedL s n.peer : Int) + 1 := by
      unfold may9 at hmm
      split at hmm
      · next hh => exact absurd hmm hh
      next hh => exact (next_t (Decidable.not_not.1 hh)).2
    have h1 := peerB_iff.1 hp
    have h2 := hup n.peer h1.1.1 h1.1.2 h1.2
    exact (far_upd (u := u) (s := s) (m := n.peer) (f := fun p => { p with legs := p.legs + 1 }) h1.1.1 hle).trans (far_ents rfl rfl (entD_day (by omega)))
  rw [if_neg k9] at hmm ⊢
  by_cases k10 : n.kind = 10
  · rw [if_pos k10] at hmm ⊢
    exact far_upd (peerB_iff.1 (next_t hmm).1).1.1 (fun p => by show _ ≤ (p.closed ++ _).length; rw [List.length_append]; omega)
  rw [if_neg k10] at hmm ⊢
  by_cases k11 : n.kind = 11
  · rw [if_pos k11] at hmm ⊢
    exact far_upd (peerB_iff.1 (may11_t hmm).1).1.1 hle
  rw [if_neg k11] at hmm ⊢
  have hp : peerB hm s n.peer = true := by
    unfold may12 at hmm
    split at hmm
    · exact absurd hmm (by decide)
    next hh => simpa using hh
  exact far_upd (peerB_iff.1 hp).1.1 hle
end Go.Proofs
set_option maxRecDepth 10000
set_option maxHeartbeats 1000000
namespace Go.Proofs
open Go Go.SL
attribute [local irreducible] CCall CO CC CX CD
theorem nt_ext {a b : Nt} (h1 : a.kind = b.kind) (h2 : a.peer = b.peer) (h3 : a.day = b.day) (h4 : a.tr = b.tr) (h5 : a.name = b.name) (h6 : a.amount = b.amount) (h7 : a.rows = b.rows) (h8 : a.hi = b.hi) (h9 : a.lo = b.lo) : a = b := by
  obtain ⟨a1, a2, a3, a4, a5, a6, a7, a8, a9⟩ := a
  obtain ⟨b1, b2, b3, b4, b5, b6, b7, b8, b9⟩ := b
  dsimp only at *
  subst h1 h2 h3 h4 h5 h6 h7 h8 h9; rfl
theorem td_iff {a b : Td} : a = b ↔ (a.id = b.id ∧ a.buyer = b.buyer ∧ a.seller = b.seller ∧ a.isin = b.isin ∧ a.qty = b.qty ∧ a.price = b.price) := by
  constructor
  · rintro rfl; exact ⟨rfl, rfl, rfl, rfl, rfl, rfl⟩
  · obtain ⟨a1, a2, a3, a4, a5, a6⟩ := a
    obtain ⟨b1, b2, b3, b4, b5, b6⟩ := b
    rintro ⟨h1, h2, h3, h4, h5, h6⟩
    dsimp only at *
    subst h1 h2 h3 h4 h5 h6; rfl
theorem NEqual_spec {L K av bv} {a b : Nt} (ha : NtOk a) (hb : NtOk b) [r1 : RdE L encRw av a.rows] [r2 : RdE L encRw bv b.rows] (hn : a.rows.length ≤ 1000000) (hm : b.rows.length ≤ 1000000) (h : ∀ r : Bool, (r = true ↔ a = b) → Ht L (K (.bool r))) : Ht L (CCall Tryz.prog 18 [ntV a av, ntV b bv] K) := by
  have hr1 : ∀ (M : List HP) [fr : Frm M L], RdE M encRw av a.rows := fun M fr => ⟨fun w t => r1.h w (fr.h _ _ t)⟩
  have hr2 : ∀ (M : List HP) [fr : Frm M L], RdE M encRw bv b.rows := fun M fr => ⟨fun w t => r2.h w (fr.h _ _ t)⟩
  have hs1 : ∀ (M : List HP) [fr : Frm M L], RdS M av encRw a.rows := fun M fr => ⟨fun w t => r1.h w (fr.h _ _ t)⟩
  have hs2 : ∀ (M : List HP) [fr : Frm M L], RdS M bv encRw b.rows := fun M fr => ⟨fun w t => r2.h w (fr.h _ _ t)⟩
  refine Ht.know (p := One1 av ∧ One1 bv) (fun w t => ⟨one1_of (r1.h w t), one1_of (r2.h w t)⟩) (fun ⟨o1, o2⟩ => ?_)
  haveI : W64 a.tr.id := ⟨ha.id⟩
  haveI : W64 a.tr.qty := ⟨ha.qty⟩
  haveI : W64 a.tr.price := ⟨ha.price⟩
  haveI : SmS a.tr.buyer := ⟨ha.buyer⟩
  haveI : SmS a.tr.seller := ⟨ha.seller⟩
  haveI : SmS a.tr.isin := ⟨ha.isin⟩
  haveI : W64 a.hi := ⟨ha.hi⟩
  haveI : WU64 a.lo := ⟨ha.lo⟩
  haveI : W64 b.tr.id := ⟨hb.id⟩
  haveI : W64 b.tr.qty := ⟨hb.qty⟩
  haveI : W64 b.tr.price := ⟨hb.price⟩
  haveI : SmS b.tr.buyer := ⟨hb.buyer⟩
  haveI : SmS b.tr.seller := ⟨hb.seller⟩
  haveI : SmS b.tr.isin := ⟨hb.isin⟩
  haveI : W64 b.hi := ⟨hb.hi⟩
  haveI : WU64 b.lo := ⟨hb.lo⟩
  refine ccall2 Tryz.func18 rfl (by decide) Tryz.ntmps18 (by rfl) (by decide) ?_
  repeat (refine stp ?_)
  intro c2
  repeat (refine stp ?_)
  intro c3
  repeat (refine stp ?_)
  by_cases hx : a.kind = b.kind
  rotate_left
  · rewrite [decide_eq_false hx]
    repeat (refine stp ?_)
    exact ret1 rfl (Ht.frm (h false ⟨fun hh => (by cases hh), fun hh => absurd (by rw [hh]) hx⟩))
  have e1 := hx
  clear hx
  rewrite [decide_eq_true e1]
  repeat (refine stp ?_)
  by_cases hx : a.peer = b.peer
  rotate_left
  · rewrite [decide_eq_false hx]
    repeat (refine stp ?_)
    exact ret1 rfl (Ht.frm (h false ⟨fun hh => (by cases hh), fun hh => absurd (by rw [hh]) hx⟩))
  have e2 := hx
  clear hx
  rewrite [decide_eq_true e2]
  repeat (refine stp ?_)
  by_cases hx : a.day = b.day
  rotate_left
  · rewrite [decide_eq_false hx]
    repeat (refine stp ?_)
    exact ret1 rfl (Ht.frm (h false ⟨fun hh => (by cases hh), fun hh => absurd (by rw [hh]) hx⟩))
  have e3 := hx
  clear hx
  rewrite [decide_eq_true e3]
  repeat (refine stp ?_)
  by_cases hx : a.tr.id = b.tr.id ∧ a.tr.buyer = b.tr.buyer ∧ a.tr.seller = b.tr.seller ∧ a.tr.isin = b.tr.isin ∧ a.tr.qty = b.tr.qty ∧ a.tr.price = b.tr.price
  rotate_left
  · rewrite [decide_eq_false hx]
    repeat (refine stp ?_)
    exact ret1 rfl (Ht.frm (h false ⟨fun hh => (by cases hh), fun hh => absurd (td_iff.1 (by rw [hh])) hx⟩))
  have e4 := hx
  clear hx
  rewrite [decide_eq_true e4]
  repeat (refine stp ?_)
  by_cases hx : a.name = b.name
  rotate_left
  · rewrite [decide_eq_false hx]
    repeat (refine stp ?_)
    exact ret1 rfl (Ht.frm (h false ⟨fun hh => (by cases hh), fun hh => absurd (by rw [hh]) hx⟩))
  have e5 := hx
  clear hx
  rewrite [decide_eq_true e5]
  repeat (refine stp ?_)
  by_cases hx : a.amount = b.amount
  rotate_left
  · rewrite [decide_eq_false hx]
    repeat (refine stp ?_)
    exact ret1 rfl (Ht.frm (h false ⟨fun hh => (by cases hh), fun hh => absurd (by rw [hh]) hx⟩))
  have e6 := hx
  clear hx
  rewrite [decide_eq_true e6]
  repeat (refine stp ?_)
  refine REq_spec (l := a.rows) (m := b.rows) ha.rows hb.rows hn hm fun r hr => ?_
  cases r
  · repeat (refine stp ?_)
    exact ret1 rfl (Ht.frm (h false ⟨fun hh => (by cases hh), fun hh => by have := hr.2 (by rw [hh]); cases this⟩))
  have e7 := hr.1 rfl
  repeat (refine stp ?_)
  by_cases hx : a.hi = b.hi ∧ a.lo = b.lo
  · rewrite [decide_eq_true hx]
    repeat (refine stp ?_)
    exact ret1 rfl (Ht.frm (h true ⟨fun _ => nt_ext e1 e2 e3 (td_iff.2 e4) e5 e6 e7 hx.1 hx.2, fun _ => rfl⟩))
  · rewrite [decide_eq_false hx]
    repeat (refine stp ?_)
    exact ret1 rfl (Ht.frm (h false ⟨fun hh => (by cases hh), fun hh => absurd ⟨by rw [hh], by rw [hh]⟩ hx⟩))
end Go.Proofs
set_option maxRecDepth 20000
namespace Go.Proofs
open Go Go.SL
attribute [local irreducible] CCall CO CC CX CD
def stepK (R : Ros) (hm : Int) (s : Lg) (n : Nt) : Lg := if mayL R hm s n = 0 then (doK R hm s n).1 else s
def outsK (R : Ros) (hm : Int) (s : Lg) (n : Nt) : List (Int × Nt) := if mayL R hm s n = 0 then (doK R hm s n).2 else []
theorem LgSt.up {R : Ros} {k : Nat} {x : LgL} {s : Lg} (h : LgSt R k x s) (hk : k + 1 ≤ 500) : LgSt R (k + 1) x s := ⟨h.ok.up, h.rp.up, hk⟩
theorem outsK_ok {R : Ros} {k : Nat} {x : LgL} {s : Lg} {n : Nt} (st : LgSt R k x s) (hno : NtOk n) : ∀ o ∈ outsK R x.hm s n, OutOk o := by
  unfold outsK
  split
  · next hh => exact doK_outs st hno hh
  · intro o ho; cases ho
theorem stepK_far {R : Ros} {hm : Int} {k : Nat} {s : Lg} {n : Nt} {u : Int} (ok : LgOk R hm k s) (hc : complB hm s u = true) : Farther u s (stepK R hm s n) := by
  unfold stepK
  split
  · next hh => exact doK_far ok hh hc
  · exact Farther.refl
theorem Apply_any {L L1 M K b} {k : Nat} {x : LgL} {s : Lg} {R : Ros} {n : Nt} {rv : Value} [pl : Pull (isLg b) L x L1] [pr : Pull (isRos x.ros) L1 R M] [rs : RdE M encRw rv n.rows] (st : LgSt R k x s) (hk1 : k + 1 ≤ 500) (hok : NtOk n) (hn : n.rows.length ≤ 1000000)
    (h : ∀ x' ov, LgSt R (k + 1) x' (stepK R x.hm s n) → x'.ros = x.ros → x'.hm = x.hm → One1 ov → Ht (isOuts ov (outsK R x.hm s n) :: isLg b x' :: isRos x.ros R :: M) (K (.tuple #[ov, .int .i64 (mayL R x.hm s n)]))) :
    Ht L (CCall Tryz.prog 17 [.pointer (some ⟨b, 0, none⟩), ntV n rv] K) := by
  refine Apply_spec (x := x) (R := R) st hk1 hok hn (fun hne => ?_) (fun h0 x' ov st' h1 h2 oov => ?_)
  · have e1 : stepK R x.hm s n = s := if_neg hne
    have e2 : outsK R x.hm s n = [] := if_neg hne
    have hh := h x (.slice none 0 0) (by rw [e1]; exact st.up hk1) rfl rfl inferInstance
    rw [e2] at hh
    exact Ht.conseq hh fun w t => outs_nil t
  · have e1 : stepK R x.hm s n = (doK R x.hm s n).1 := if_pos h0
    have e2 : outsK R x.hm s n = (doK R x.hm s n).2 := if_pos h0
    have hh := h x' ov (by rw [e1]; exact st') h1 h2 oov
    rw [e2, h0] at hh
    exact hh
theorem clipK_ok {n : Nt} (h : NtOk n) : NtOk (clipN n) := by
  have hc : ∀ s : ByteArray, (clip s).size ≤ maxLen := fun s => by have := @clip_size s; unfold maxLen; omega
  refine ⟨h.kind, h.peer, h.day, h.id, hc _, hc _, hc _, h.qty, h.price, hc _, h.amount, h.hi, h.lo, fun r hr => ?_⟩
  obtain ⟨x, hx, rfl⟩ := List.mem_map.1 hr
  exact ⟨hc _, (h.rows x (List.mem_of_mem_take hx)).2⟩
theorem clipK_len {n : Nt} : (clipN n).rows.length ≤ 40 := by
  show ((n.rows.take 40).map clipR).length ≤ 40
  rw [List.length_map, List.length_take]; omega
theorem hOt_at {P : List OutL} {p : OutL} (hp : p ∈ P) : ∀ (M M' : List HP) [q : Pull (bigO hOt) M P M'], RdE M encRw (svY p.2) p.1.2.rows := fun M M' q => ⟨fun w t => by
  obtain ⟨R', hs⟩ := bigO_at hp (q.h _ _ t)
  exact own_sat hs⟩
abbrev NtS := Nt × SVy
@[reducible] def encNs : Enc NtS := ⟨14, fun x => [.int .i64 x.1.kind, .int .i64 x.1.peer, .int .i64 x.1.day, .int .i64 x.1.tr.id, .string x.1.tr.buyer, .string x.1.tr.seller, .string x.1.tr.isin, .int .i64 x.1.tr.qty, .int .i64 x.1.tr.price, .string x.1.name, .int .i64 x.1.amount, .slice x.2.1 x.2.2.1 x.2.2.2, .int .i64 x.1.hi, .int .u64 x.1.lo], fun _ => rfl, fun _ v h => by
  simp only [List.mem_cons, List.mem_nil_iff, or_false] at h
  rcases h with rfl | rfl | rfl | rfl | rfl | rfl | rfl | rfl | rfl | rfl | rfl | rfl | rfl | rfl <;> rfl⟩
instance instInhNs : Inhabited NtS := ⟨(⟨0, 0, 0, ⟨0, ⟨#[]⟩, ⟨#[]⟩, ⟨#[]⟩, 0, 0⟩, ⟨#[]⟩, 0, [], 0, 0⟩, (none, 0, 0))⟩
theorem LgNames_any {L L1 M K b} {k : Nat} {x : LgL} {s : Lg} {R : Ros} [pl : Pull (isLg b) L x L1] [pr : Pull (isRos x.ros) L1 R M] (st : LgSt R k x s)
    (h : ∀ v l, One1 v → l.Perm (namesR R x.hm) → Ht (own SL.encStr 9 v l :: isLg b x :: isRos x.ros R :: M) (K v)) : Ht L (CCall Tryz.prog 20 [.pointer (some ⟨b, 0, none⟩)] K) := by
  refine Ht.conseq (L' := isLg b x :: isRos x.ros R :: M) ?_ (fun w s => seps_mono (fun _ a => a) (fun _ t => pr.h _ _ t) (pl.h _ _ s))
  refine lg_at fun v ov => ?_
  refine LgNames_spec (b := b) (x := x) (R := R) st.ok.ros fun nv l onv hp => ?_
  exact lg_close (b := b) (x := x) (v := v) (R := own SL.encStr 9 nv l :: isRos x.ros R :: M) ov (Ht.frm (h nv l onv hp))
theorem Compl_any {L L1 M K b} {k : Nat} {x : LgL} {s : Lg} {R : Ros} {day : Int} [pl : Pull (isLg b) L x L1] [pr : Pull (isRos x.ros) L1 R M] (st : LgSt R k x s)
    (h : Ht (isLg b x :: isRos x.ros R :: M) (K (.bool (complB x.hm s day)))) : Ht L (CCall Tryz.prog 22 [.pointer (some ⟨b, 0, none⟩), .int .i64 day, .slice none 0 0] K) := by
  refine Ht.conseq (L' := isLg b x :: isRos x.ros R :: M) ?_ (fun w s => seps_mono (fun _ a => a) (fun _ t => pr.h _ _ t) (pl.h _ _ s))
  refine lg_at fun v ov => ?_
  refine Compl0_spec (b := b) (vp := v.vp) (x := x) (R := R) st.ok.ros st.plen st.clen ?_
  rw [cpl_all st]
  exact lg_close (b := b) (x := x) (v := v) (R := isRos x.ros R :: M) ov (Ht.frm h)
def hdN (hm : Int) (s : Lg) (u : Int) (nm : ByteArray) : Rows × Int := if complB hm s u = true then (rowsB (posE s nm 0 u), eCs (posE s nm 0 u)) else ([], 0)
theorem By_any {L L1 M K b} {k : Nat} {x : LgL} {s : Lg} {R : Ros} {name : ByteArray} {u : Int} [pl : Pull (isLg b) L x L1] [pr : Pull (isRos x.ros) L1 R M] (st : LgSt R k x s) (hk : knownB R x.hm name = true)
    (h : ∀ v, One1 v → Ht (own encRw 109 v (hdN x.hm s u name).1 :: isLg b x :: isRos x.ros R :: M) (K (.tuple #[hV v (hdN x.hm s u name).2, .int .i64 (if complB x.hm s u = true then 0 else 9)]))) :
    Ht L (CCall Tryz.prog 21 [.pointer (some ⟨b, 0, none⟩), .string name, .int .i64 u] K) := by
  refine LgBy_spec (x := x) (R := R) st (fun hh => absurd hh (by rw [hk]; decide)) (fun _ hc => ?_) (fun _ hc v ov => ?_)
  · have e : hdN x.hm s u name = ([], 0) := if_neg (by rw [hc]; decide)
    have hh := h (.slice none 0 0) inferInstance
    rw [e, if_neg (by rw [hc]; decide)] at hh
    exact Ht.conseq hh fun w t => own_nil.2 t
  · have e : hdN x.hm s u name = (rowsB (posE s name 0 u), eCs (posE s name 0 u)) := if_pos hc
    have hh := h v ov
    rw [e, if_pos hc] at hh
    exact hh
theorem hdN_good {R : Ros} {k : Nat} {x : LgL} {s : Lg} (st : LgSt R k x s) (u : Int) (nm : ByteArray) : rwOk (hdN x.hm s u nm).1 ∧ (hdN x.hm s u nm).1.length ≤ 32 ∧ fitW (hdN x.hm s u nm).2 := by
  unfold hdN
  split
  · have hg := st.bkg.bet nm 0 u
    exact ⟨rowsB_rw st hg, (rowsB_len st.ok.ros hg).1, hg.ec_fit⟩
  · exact ⟨fun r hr => (by cases hr), Nat.zero_le _, by unfold fitW; dsimp only; omega⟩
def famS23 : List (List CanIt) := [[.q 0, .q 1, .q 2, .q 3, .q 4, .q 5, .q 6, .x 7 [], .q 8, .q 9, .q 10, .x 11 [0, 1, 2, 3, 4, 5, 6, 8, 9, 10], .x 12 [10], .q 13], [.q 0, .q 1, .q 2, .q 3, .q 4, .q 5, .q 6, .x 11 [0, 1, 2, 3, 4, 5, 6], .x 7 [], .q 8, .q 9, .q 10, .x 12 [10], .q 13]]
theorem LedgerStays_spec {L K iv mv lv ev} {R : Ros} {hm day : Int} {l more : List NtS} [ri : RdE L SL.encStr iv R.isins] [rm : RdE L encRw mv R.members] [rl : RdE L encNs lv l] [re : RdE L encNs ev more]
    (hl : ∀ x ∈ l, NtOk x.1 ∧ RdE L encRw (svY x.2) x.1.rows) (he : ∀ x ∈ more, NtOk x.1 ∧ RdE L encRw (svY x.2) x.1.rows) (h : Ht L (K (.bool true))) :
    Ht L (CCall Tryz.prog 4 [.agg #[.int .i64 R.nodes, iv, mv], .int .i64 hm, lv, ev, .int .i64 day] K) := by
  have hri : ∀ (M' : List HP) [fr : Frm M' L], RdE M' SL.encStr iv R.isins := fun M' fr => ⟨fun w t => ri.h w (fr.h _ _ t)⟩
  have hrm : ∀ (M' : List HP) [fr : Frm M' L], RdE M' encRw mv R.members := fun M' fr => ⟨fun w t => rm.h w (fr.h _ _ t)⟩
  have hrl : ∀ (M' : List HP) [fr : Frm M' L], RdS M' lv encNs l := fun M' fr => ⟨fun w t => rl.h w (fr.h _ _ t)⟩
  have hre : ∀ (M' : List HP) [fr : Frm M' L], RdS M' ev encNs more := fun M' fr => ⟨fun w t => re.h w (fr.h _ _ t)⟩
  refine Ht.know (p := (One1 iv ∧ One1 mv) ∧ (One1 lv ∧ One1 ev) ∧ l.length ≤ 9223372036854775807 ∧ more.length ≤ 9223372036854775807) (fun w t => ⟨⟨one1_of (ri.h w t), one1_of (rm.h w t)⟩, ⟨one1_of (rl.h w t), one1_of (re.h w t)⟩, (rl.h w t).le, (re.h w t).le⟩) (fun ⟨⟨oiv, omv⟩, ⟨olv, oev⟩, hl63, he63⟩ => ?_)
  refine ccall5 Tryz.func4 rfl (by decide) Tryz.ntmps4 (by rfl) (by decide) ?_
  repeat (refine stp ?_)
  intro c5
  repeat (refine stp ?_)
  refine Begin_spec (R := R) (hm := hm) (fun hbad => ?_) ?_
  · repeat (refine stp ?_)
    intro c11
    repeat (refine stp ?_)
    refine Begin_spec (R := R) (hm := hm) (fun _ => ?_) ?_
    · repeat (refine stp ?_)
      intro c14
      repeat (refine stp ?_)
      refine known25_spec ?_
      repeat (refine stp ?_)
      exact ret1 rfl (Ht.frm h)
    · intro _ _ _ _ iv' mv' oi om _ _ b2 x2 d2 pr2 cl2 pv2 opv2 st2 hh2
      repeat (refine stp ?_)
      intro c14
      repeat (refine stp ?_)
      refine known25_spec ?_
      repeat (refine stp ?_)
      exact ret1 rfl (Ht.frm h)
  · intro hz hok hm0 hm1 iv' mv' oi om _ _ b1 x1 d1 pr1 cl1 pv1 opv1 st1 hh1
    repeat (refine stp ?_)
    intro c11
    repeat (refine stp ?_)
    refine Begin_spec (R := R) (hm := hm) (fun hbad => ?_) ?_
    · exfalso
      rcases hbad with hh | hh | hh
      · exact hh hz
      · omega
      · omega
    · intro _ _ _ _ iv'' mv'' oi2 om2 _ _ b2 x2 d2 pr2 cl2 pv2 opv2 st2 hh2
      repeat (refine stp ?_)
      intro c14
      repeat (refine stp ?_)
      refine cc_env (E' := [(17, .int .i64 0), (14, .pointer (some ⟨c14, 0, none⟩)), (11, .pointer (some ⟨c11, 0, none⟩)), (4, .int .i64 day), (3, ev), (2, lv)]) inferInstance ?_
      refine ht_for (min l.length 60) (fun i (y : LgL × LgL × Lg) => (LgSt (clipRo R) i y.1 y.2.2 ∧ LgSt (clipRo R) i y.2.1 y.2.2) ∧ (y.1.ros = x1.ros ∧ y.2.1.ros = x2.ros) ∧ (y.1.hm = hm ∧ y.2.1.hm = hm)) (fun i y => isLg b1 y.1 :: isRos x1.ros (clipRo R) :: isLg b2 y.2.1 :: isRos x2.ros (clipRo R) :: pto c11 (cells [.pointer (some ⟨b1, 0, none⟩), .pointer (some ⟨d1, 0, none⟩)] 30) :: pto c14 (cells [.pointer (some ⟨b2, 0, none⟩), .pointer (some ⟨d2, 0, none⟩)] 30) :: L) (fun i _ => [(17, .int .i64 (i : Int))]) (x1, x2, lg0 R.nodes.toNat) [17] ⟨⟨st1, st2⟩, ⟨rfl, rfl⟩, hh1, hh2⟩ (fun w t => (inferInstance : Frm _ _).h _ _ t) inferInstance ?_
      intro i ⟨x, x', s⟩ hi ⟨⟨s1, s2⟩, ⟨r1, r2⟩, h1, h2⟩
      dsimp only at s1 s2 r1 r2 h1 h2
      dsimp only [List.cons_append, List.nil_append]
      repeat (refine stp ?_)
      refine ht_val 3 [(65, .bool (decide ((i : Int) < ((min l.length 60 : Nat) : Int)))), (17, .int .i64 (i : Int)), (14, .pointer (some ⟨c14, 0, none⟩)), (11, .pointer (some ⟨c11, 0, none⟩)), (4, .int .i64 day), (3, ev), (2, lv)] ?_ ?_
      · intro rest Q3 hQ3
        dsimp only [List.take_succ_cons, List.take_zero, List.cons_append, List.nil_append]
        by_cases g0 : (i : Int) < (l.length : Int)
        · rewrite [decide_eq_true g0]
          repeat (refine stp ?_)
          exact co_leave hQ3 (SubE.cons (congrArg Value.bool (decide_eq_decide.2 (by omega))) inferInstance)
        · rewrite [decide_eq_false g0]
          repeat (refine stp ?_)
          exact co_leave hQ3 (SubE.cons (congrArg Value.bool (decide_eq_false (by omega)).symm) inferInstance)
      simp only [List.drop_succ_cons, List.drop_zero]
      repeat (refine stp ?_)
      refine ht_if ?_ ?_ <;> intro g1 <;> simp only [decide_eq_true_eq, decide_eq_false_iff_not] at g1
      · repeat (refine stp ?_)
        refine co_index (xs := l) (by omega) ?_
        intro hb
        obtain ⟨nn, hnn⟩ : ∃ nn, nn = l[i]! := ⟨_, rfl⟩
        have hmem : nn ∈ l := by rw [hnn, getElem!_pos l i (by omega)]; exact List.getElem_mem _
        repeat (refine stp ?_)
        rewrite [← hnn]
        obtain ⟨n, sv⟩ := nn
        obtain ⟨hno, hrd⟩ := hl _ hmem
        dsimp only at hno hrd ⊢
        have hrd' : ∀ (M' : List HP) [fr : Frm M' L], RdE M' encRw (svY sv) n.rows := fun M' fr => ⟨fun w t => hrd.h w (fr.h _ _ t)⟩
        clear hnn hmem
        refine To9_spec (n := n) (rv := svY sv) fun v' ov' => ?_
        have hno' := clipK_ok hno
        have hlen := clipK_len (n := n)
        generalize clipN n = m at hno' hlen ⊢
        repeat (refine stp ?_)
        intro c18
        repeat (refine stp ?_)
        rewrite [← r1, ← r2]
        refine Apply_any (x := x) (R := clipRo R) (n := m) (rv := v') s1 (by omega) hno' (by omega) fun y1 a1 t1 e1 f1 oa1 => ?_
        have hout := outsK_ok (n := m) s1 hno'
        obtain ⟨os, hos⟩ : ∃ os, os = outsK (clipRo R) x.hm s m := ⟨_, rfl⟩
        obtain ⟨er, her⟩ : ∃ er, er = mayL (clipRo R) x.hm s m := ⟨_, rfl⟩
        rewrite [← hos, ← her]
        refine outs_open fun ls1 o1 q1 => ?_
        refine Ht.know (p := ls1.length ≤ 9223372036854775807) (fun w t => (own_sat t).le) (fun hl163 => ?_)
        repeat (refine stp ?_)
        refine Apply_any (x := x') (R := clipRo R) (n := m) (rv := v') s2 (by omega) hno' (by omega) fun y2 a2 t2 e2 f2 oa2 => ?_
        rewrite [show mayL (clipRo R) x'.hm s m = er from by rw [her, h1, h2], show outsK (clipRo R) x'.hm s m = os from by rw [hos, h1, h2]]
        rw [← hos] at hout
        refine outs_open fun ls2 o2 q2 => ?_
        have hle1 : ls1.length = os.length := by rw [← q1, List.length_map]
        have hle2 : ls2.length = os.length := by rw [← q2, List.length_map]
        repeat (refine stp ?_)
        rewrite [decide_eq_false (show ¬ er ≠ er from fun hh => hh rfl)]
        repeat (refine stp ?_)
        rewrite [decide_eq_false (show ¬ (ls1.length : Int) ≠ (ls2.length : Int) from by omega)]
        repeat (refine stp ?_)
        refine cc_env (E' := [(23, .int .i64 0), (21, a2), (19, a1), (17, .int .i64 (i : Int)), (14, .pointer (some ⟨c14, 0, none⟩)), (11, .pointer (some ⟨c11, 0, none⟩)), (4, .int .i64 day), (3, ev), (2, lv)]) inferInstance ?_
        refine ht_for ls1.length (fun k (_ : Unit) => True) (fun k _ => own encOt 69 a2 ls2 :: bigO hOt ls2 :: own encOt 69 a1 ls1 :: bigO hOt ls1 :: isLg b2 y2 :: isRos x'.ros (clipRo R) :: isLg b1 y1 :: isRos x.ros (clipRo R) :: pto c11 (cells [.pointer (some ⟨b1, 0, none⟩), .pointer (some ⟨d1, 0, none⟩)] 30) :: pto c14 (cells [.pointer (some ⟨b2, 0, none⟩), .pointer (some ⟨d2, 0, none⟩)] 30) :: L) (fun k _ => [(23, .int .i64 (k : Int))]) () [23] trivial (fun w t => (inferInstance : Frm _ _).h _ _ t) inferInstance ?_
        intro k _ hk _
        dsimp only [List.cons_append, List.nil_append]
        repeat (refine stp ?_)
        refine ht_if ?_ ?_ <;> intro hkc <;> simp only [decide_eq_true_eq, decide_eq_false_iff_not] at hkc
        · have hk1 : k < ls1.length := by omega
          have hk2 : k < ls2.length := by omega
          have heq : (ls1[k]!).1 = (ls2[k]!).1 := by
            rw [getElem!_pos ls1 k hk1, getElem!_pos ls2 k hk2]
            have hh : (ls1.map Prod.fst)[k]'(by rw [List.length_map]; omega) = (ls2.map Prod.fst)[k]'(by rw [List.length_map]; omega) := by simp only [q1, q2]
            rwa [List.getElem_map, List.getElem_map] at hh
          have hm1 : ls1[k]! ∈ ls1 := by rw [getElem!_pos ls1 k hk1]; exact List.getElem_mem _
          have hm2 : ls2[k]! ∈ ls2 := by rw [getElem!_pos ls2 k hk2]; exact List.getElem_mem _
          obtain ⟨w1, w2, w3⟩ := hout (ls1[k]!).1 (by rw [← q1]; exact List.mem_map_of_mem hm1)
          have hr1 := hOt_at hm1
          have hr2 := hOt_at hm2
          repeat (refine stp ?_)
          refine ht_draw Tryz.can4x16 Tryz.mixed (by kernel_rfl) ?_
          repeat (refine stp ?_)
          refine cd_index (xs := ls1) (by omega) ?_
          intro ib1 ix1
          repeat (refine stp ?_)
          refine cd_index (xs := ls2) (by omega) ?_
          intro ib2 ix2
          repeat (refine stp ?_)
          rewrite [decide_eq_false (show ¬ (ls1[k]!).1.1 ≠ (ls2[k]!).1.1 from fun hh => hh (by rw [heq]))]
          repeat (refine stp ?_)
          refine NEqual_spec (a := (ls1[k]!).1.2) (b := (ls2[k]!).1.2) (av := svY (ls1[k]!).2) (bv := svY (ls2[k]!).2) w1 (by rw [← heq]; exact w1) (by omega) (by rw [← heq]; omega) fun r hr => ?_
          obtain rfl : r = true := hr.2 (by rw [heq])
          repeat (refine stp ?_)
          refine Check_spec (n := (ls1[k]!).1.2) (rv := svY (ls1[k]!).2) w1 (by omega) ?_
          rewrite [w2]
          repeat (refine stp ?_)
          try rewrite [show decide ((0 : Int) ≠ 0) = false from rfl]
          repeat (refine stp ?_)
          exact ht_next () hk1 trivial (fun w t => t) (SubE.cons (by rw [IntWalk.i64_in _ (by omega)]; rfl) inferInstance) rfl rfl
        · repeat (refine stp ?_)
          refine ht_next (y1, y2, stepK (clipRo R) x.hm s m) (by omega) ⟨⟨t1, by rw [h1, ← h2]; exact t2⟩, ⟨e1, e2⟩, f1.trans h1, f2.trans h2⟩ (fun w t => (inferInstance : Frm _ _).h _ _ t) (SubE.cons (by rw [IntWalk.i64_in _ (by omega)]; rfl) inferInstance) rfl rfl
      · repeat (refine stp ?_)
        have hi : i = min l.length 60 := by omega
        rewrite [← r1]
        have hi60 : i ≤ 60 := by omega
        clear s2 r1 r2 h2 g1 hi
        refine Ht.conseq (L' := isLg b1 x :: isRos x.ros (clipRo R) :: pto c11 (cells [.pointer (some ⟨b1, 0, none⟩), .pointer (some ⟨d1, 0, none⟩)] 30) :: L) ?_ (fun w t => (inferInstance : Frm _ _).h _ _ t)
        refine LgNames_any (x := x) (R := clipRo R) s1 fun nv ns onv hns => ?_
        have hnk : ∀ nm ∈ ns, knownB (clipRo R) x.hm nm = true := fun nm hnm => knownB_iff.2 (hns.mem_iff.1 hnm)
        have hns63 : ns.length ≤ 100 := by
          rw [hns.length_eq]
          unfold namesR
          rw [List.length_append, List.length_map, List.length_map]
          have := peersR_len hok (n := x.hm)
          have := memsR_len hok (n := x.hm)
          omega
        repeat (refine stp ?_)
        refine cc_env (E' := [(26, .int .i64 0), (25, .slice none 0 0), (24, nv), (11, .pointer (some ⟨c11, 0, none⟩)), (4, .int .i64 day), (3, ev)]) inferInstance ?_
        refine ht_for ns.length (fun j (y : Value × List Hd1) => One1 y.1 ∧ y.2.map Prod.snd = (ns.take j).map (hdN x.hm s day)) (fun j y => own encHo 55 y.1 y.2 :: bigO hwn y.2 :: own SL.encStr 9 nv ns :: isLg b1 x :: isRos x.ros (clipRo R) :: pto c11 (cells [.pointer (some ⟨b1, 0, none⟩), .pointer (some ⟨d1, 0, none⟩)] 30) :: L) (fun j y => [(26, .int .i64 (j : Int)), (25, y.1)]) (.slice none 0 0, []) [26, 25] ⟨inferInstance, rfl⟩ (fun w t => own_nil.2 (bigO_nil.2 t)) inferInstance ?_
        intro j ⟨hv, hs⟩ hj ⟨ohv, hhs⟩
        dsimp only at ohv hhs
        dsimp only [List.cons_append, List.nil_append]
        have hsl : hs.length = j := by
          have := congrArg List.length hhs
          rw [List.length_map, List.length_map, List.length_take] at this
          omega
        repeat (refine stp ?_)
        refine ht_if ?_ ?_ <;> intro g2 <;> simp only [decide_eq_true_eq, decide_eq_false_iff_not] at g2
        · have hjj : j < ns.length := by omega
          have hnm := hnk (ns[j]!) (by rw [getElem!_pos ns j hjj]; exact List.getElem_mem _)
          repeat (refine stp ?_)
          refine ht_cutd .normal (ι := Nat × Value) (fun y => One1 y.2) (fun y => pto y.1 (cells [y.2, .int .i64 (wHi (hdN x.hm s day ns[j]!).2), .int .u64 (wLo (hdN x.hm s day ns[j]!).2)] 55) :: own encRw 109 y.2 (hdN x.hm s day ns[j]!).1 :: own encHo 55 hv hs :: bigO hwn hs :: own SL.encStr 9 nv ns :: isLg b1 x :: isRos x.ros (clipRo R) :: pto c11 (cells [.pointer (some ⟨b1, 0, none⟩), .pointer (some ⟨d1, 0, none⟩)] 30) :: L) (fun y => [(28, .int .i64 (if complB x.hm s day = true then 0 else 9)), (27, .pointer (some ⟨y.1, 0, none⟩)), (26, .int .i64 (j : Int)), (25, hv), (24, nv), (11, .pointer (some ⟨c11, 0, none⟩)), (4, .int .i64 day), (3, ev)]) ?_ ?_
          · intro Q' hQ
            refine ht_drawG [7, 11, 12] famS23 Tryz.mixed (by kernel_rfl) ?_
            intro π hπ
            simp only [famS23, List.mem_cons, List.mem_nil_iff, or_false] at hπ
            rcases hπ with rfl | rfl
            · repeat (refine stp ?_)
              refine cd_index (xs := ns) (by omega) ?_
              intro ib ix
              repeat (refine stp ?_)
              refine By_any (x := x) (R := clipRo R) s1 hnm fun v ov => ?_
              repeat (refine stp ?_)
              intro c27
              repeat (refine stp ?_)
              exact cx_env inferInstance (Ht.frm (hQ (c27, v) ov))
            · repeat (refine stp ?_)
              refine cd_index (xs := ns) (by omega) ?_
              intro ib ix
              repeat (refine stp ?_)
              intro c27
              repeat (refine stp ?_)
              refine By_any (x := x) (R := clipRo R) s1 hnm fun v ov => ?_
              repeat (refine stp ?_)
              exact cx_env inferInstance (Ht.frm (hQ (c27, v) ov))
          intro ⟨c27, v⟩ ov
          dsimp only at ov ⊢
          refine Ht.know (p := ∃ sv : SVy, v = svY sv) (fun w t => svY_know t.tail) (fun hsv => ?_)
          obtain ⟨sv, rfl⟩ := hsv
          repeat (refine stp ?_)
          refine Compl_any (x := x) (R := clipRo R) (day := day) s1 ?_
          rewrite [show decide ((if complB x.hm s day = true then (0 : Int) else 9) = 0) = complB x.hm s day from by cases complB x.hm s day <;> rfl]
          repeat (refine stp ?_)
          rewrite [decide_eq_false (show ¬ complB x.hm s day ≠ complB x.hm s day from fun hh => hh rfl)]
          obtain ⟨rz, hrz⟩ : ∃ rz, rz = hdN x.hm s day ns[j]! := ⟨_, rfl⟩
          rewrite [← hrz]
          repeat (refine stp ?_)
          intro bb
          repeat (refine stp ?_)
          refine Ht.own_lit encHo (b := bb) (n := 1) (xs := [(sv, rz.1, rz.2)]) rfl rfl (by decide) ?_
          refine co_append (e := encHo) (xs := hs) (ys := [(sv, rz.1, rz.2)]) (by rfl) (by simp; omega) (by simp; omega) ?_
          intro hv2
          refine Ht.one1 (v := hv2) ?_
          intro ohv2
          repeat (refine stp ?_)
          refine hwn_push (sv := sv) (rows := rz.1) (z := rz.2) (reps := hs) ?_
          exact ht_next (hv2, hs ++ [(sv, rz.1, rz.2)]) hjj ⟨ohv2, by rw [List.map_append, hhs, takeSnoc hjj, List.map_append, List.map_cons, List.map_nil, List.map_cons, List.map_nil, ← hrz]⟩ (fun w t => (inferInstance : Frm _ _).h _ _ t) (SubE.cons (by rw [IntWalk.i64_in _ (by omega)]; rfl) inferInstance) rfl rfl
        · have ej : j = ns.length := by omega
          subst ej
          rw [List.take_length] at hhs
          repeat (refine stp ?_)
          refine Compl_any (x := x) (R := clipRo R) (day := day) s1 ?_
          repeat (refine stp ?_)
          refine cc_env (E' := [(30, .int .i64 0), (29, .bool (complB x.hm s day)), (25, hv), (24, nv), (11, .pointer (some ⟨c11, 0, none⟩)), (4, .int .i64 day), (3, ev)]) inferInstance ?_
          refine ht_for (min more.length 60) (fun j (y : LgL × Lg) => LgSt (clipRo R) (i + j) y.1 y.2 ∧ (y.1.ros = x.ros ∧ y.1.hm = x.hm) ∧ (complB x.hm s day = true → Farther day s y.2)) (fun j y => own encHo 55 hv hs :: bigO hwn hs :: own SL.encStr 9 nv ns :: isLg b1 y.1 :: isRos x.ros (clipRo R) :: pto c11 (cells [.pointer (some ⟨b1, 0, none⟩), .pointer (some ⟨d1, 0, none⟩)] 30) :: L) (fun j y => [(30, .int .i64 (j : Int))]) (x, s) [30] ⟨s1, ⟨rfl, rfl⟩, fun _ => Farther.refl⟩ (fun w t => (inferInstance : Frm _ _).h _ _ t) inferInstance ?_
          intro j ⟨x4, s4⟩ hj4 ⟨u4, ⟨p4, q4⟩, f4⟩
          dsimp only at u4 p4 q4 f4
          dsimp only [List.cons_append, List.nil_append]
          repeat (refine stp ?_)
          refine ht_val 3 [(179, .bool (decide ((j : Int) < ((min more.length 60 : Nat) : Int)))), (30, .int .i64 (j : Int)), (29, .bool (complB x.hm s day)), (25, hv), (24, nv), (11, .pointer (some ⟨c11, 0, none⟩)), (4, .int .i64 day), (3, ev)] ?_ ?_
          · intro rest Q3 hQ3
            dsimp only [List.take_succ_cons, List.take_zero, List.cons_append, List.nil_append]
            by_cases g0 : (j : Int) < (more.length : Int)
            · rewrite [decide_eq_true g0]
              repeat (refine stp ?_)
              exact co_leave hQ3 (SubE.cons (congrArg Value.bool (decide_eq_decide.2 (by omega))) inferInstance)
            · rewrite [decide_eq_false g0]
              repeat (refine stp ?_)
              exact co_leave hQ3 (SubE.cons (congrArg Value.bool (decide_eq_false (by omega)).symm) inferInstance)
          simp only [List.drop_succ_cons, List.drop_zero]
          repeat (refine stp ?_)
          refine ht_if ?_ ?_ <;> intro g3 <;> simp only [decide_eq_true_eq, decide_eq_false_iff_not] at g3
          · have hjj : j < more.length := by omega
            repeat (refine stp ?_)
            refine ht_draw Tryz.can4x31 Tryz.mixed (by kernel_rfl) ?_
            repeat (refine stp ?_)
            refine cd_index (xs := more) (by omega) ?_
            intro ib ix
            repeat (refine stp ?_)
            obtain ⟨nn, hnn⟩ : ∃ nn, nn = more[j]! := ⟨_, rfl⟩
            have hmem : nn ∈ more := by rw [hnn, getElem!_pos more j hjj]; exact List.getElem_mem _
            rewrite [← hnn]
            obtain ⟨n, sv⟩ := nn
            obtain ⟨hno, hrd⟩ := he _ hmem
            dsimp only at hno hrd ⊢
            have hrd' : ∀ (M' : List HP) [fr : Frm M' L], RdE M' encRw (svY sv) n.rows := fun M' fr => ⟨fun w t => hrd.h w (fr.h _ _ t)⟩
            clear hnn hmem
            refine To9_spec (n := n) (rv := svY sv) fun v' ov' => ?_
            have hno' := clipK_ok hno
            have hlen := clipK_len (n := n)
            generalize clipN n = m at hno' hlen ⊢
            repeat (refine stp ?_)
            rewrite [← p4]
            refine Apply_any (x := x4) (R := clipRo R) (n := m) (rv := v') u4 (by omega) hno' (by omega) fun y1 a1 t1 e1 f1 oa1 => ?_
            repeat (refine stp ?_)
            exact ht_next (y1, stepK (clipRo R) x4.hm s4 m) (by omega) ⟨t1, ⟨e1, f1.trans q4⟩, fun hc => (f4 hc).trans (stepK_far u4.ok (by rw [q4]; exact (f4 hc).compl hc))⟩ (fun w t => (inferInstance : Frm _ _).h _ _ t) (SubE.cons (by rw [IntWalk.i64_in _ (by omega)]; rfl) inferInstance) rfl rfl
          · rewrite [← p4]
            repeat (refine stp ?_)
            refine cc_env (E' := [(31, .int .i64 0), (29, .bool (complB x.hm s day)), (25, hv), (24, nv), (11, .pointer (some ⟨c11, 0, none⟩)), (4, .int .i64 day)]) inferInstance ?_
            refine ht_for ns.length (fun _ (_ : Unit) => True) (fun j y => own encHo 55 hv hs :: bigO hwn hs :: own SL.encStr 9 nv ns :: isLg b1 x4 :: isRos x4.ros (clipRo R) :: pto c11 (cells [.pointer (some ⟨b1, 0, none⟩), .pointer (some ⟨d1, 0, none⟩)] 30) :: L) (fun j y => [(31, .int .i64 (j : Int))]) () [31] trivial (fun w t => t) inferInstance ?_
            intro a _ ha _
            dsimp only [List.cons_append, List.nil_append]
            repeat (refine stp ?_)
            by_cases g4 : (a : Int) < (ns.length : Int)
            · rewrite [decide_eq_true g4]
              have haa : a < ns.length := by omega
              repeat (refine stp ?_)
              refine ht_if ?_ ?_ <;> intro g5
              · have hnm := hnk (ns[a]!) (by rw [getElem!_pos ns a haa]; exact List.getElem_mem _)
                have hf := f4 g5
                have hc4 : complB x4.hm s4 day = true := by rw [q4]; exact hf.compl g5
                have hhd : hdN x4.hm s4 day ns[a]! = hdN x.hm s day ns[a]! := by
                  unfold hdN
                  rw [if_pos hc4, if_pos g5, hf.2.2]
                have hsA : hs.length = ns.length := hsl
                have hmA : hs[a]! ∈ hs := by rw [getElem!_pos hs a (by omega)]; exact List.getElem_mem _
                have hvA : (hs[a]!).2 = hdN x.hm s day ns[a]! := by
                  have hh : (hs.map Prod.snd)[a]'(by rw [List.length_map]; omega) = (ns.map (hdN x.hm s day))[a]'(by rw [List.length_map]; omega) := by simp only [hhs]
                  rw [List.getElem_map, List.getElem_map] at hh
                  rw [getElem!_pos hs a (by omega), getElem!_pos ns a haa]
                  exact hh
                have hrA := hwn_at hmA
                repeat (refine stp ?_)
                refine ht_cutd .normal (ι := Nat × Value) (fun y => One1 y.2) (fun y => pto y.1 (cells [y.2, .int .i64 (wHi (hdN x.hm s day ns[a]!).2), .int .u64 (wLo (hdN x.hm s day ns[a]!).2)] 55) :: own encRw 109 y.2 (hdN x.hm s day ns[a]!).1 :: own encHo 55 hv hs :: bigO hwn hs :: own SL.encStr 9 nv ns :: isLg b1 x4 :: isRos x4.ros (clipRo R) :: pto c11 (cells [.pointer (some ⟨b1, 0, none⟩), .pointer (some ⟨d1, 0, none⟩)] 30) :: L) (fun y => [(33, .int .i64 0), (32, .pointer (some ⟨y.1, 0, none⟩)), (31, .int .i64 (a : Int)), (29, .bool (complB x.hm s day)), (25, hv), (24, nv), (11, .pointer (some ⟨c11, 0, none⟩)), (4, .int .i64 day)]) ?_ ?_
                · intro Q' hQ
                  refine ht_drawG [7, 11, 12] famS23 Tryz.mixed (by kernel_rfl) ?_
                  intro π hπ
                  simp only [famS23, List.mem_cons, List.mem_nil_iff, or_false] at hπ
                  rcases hπ with rfl | rfl
                  · repeat (refine stp ?_)
                    refine cd_index (xs := ns) (by omega) ?_
                    intro ib ix
                    repeat (refine stp ?_)
                    refine By_any (x := x4) (R := clipRo R) u4 (by rw [q4]; exact hnm) fun v ov => ?_
                    rewrite [hhd, if_pos hc4]
                    repeat (refine stp ?_)
                    intro c32
                    repeat (refine stp ?_)
                    exact cx_env inferInstance (Ht.frm (hQ (c32, v) ov))
                  · repeat (refine stp ?_)
                    refine cd_index (xs := ns) (by omega) ?_
                    intro ib ix
                    repeat (refine stp ?_)
                    intro c32
                    repeat (refine stp ?_)
                    refine By_any (x := x4) (R := clipRo R) u4 (by rw [q4]; exact hnm) fun v ov => ?_
                    rewrite [hhd, if_pos hc4]
                    repeat (refine stp ?_)
                    exact cx_env inferInstance (Ht.frm (hQ (c32, v) ov))
                intro ⟨c32, v⟩ ov
                dsimp only at ov ⊢
                repeat (refine stp ?_)
                refine ht_draw Tryz.can4x36 Tryz.mixed (by kernel_rfl) ?_
                repeat (refine stp ?_)
                try rewrite [show decide ((0 : Int) ≠ 0) = false from rfl]
                repeat (refine stp ?_)
                refine cd_index (xs := hs) (by omega) ?_
                intro ib ix
                repeat (refine stp ?_)
                obtain ⟨z1, z2, z3⟩ := hdN_good s1 day ns[a]!
                refine ASame_spec (l := (hdN x.hm s day ns[a]!).1) (m := (hs[a]!).2.1) (y := (hdN x.hm s day ns[a]!).2) (z := (hs[a]!).2.2) (av := v) (bv := svY (hs[a]!).1) z1 (by rw [hvA]; exact z1) (by omega) (by rw [hvA]; omega) z3 (by rw [hvA]; exact z3) ?_
                rewrite [decide_eq_true (show (hdN x.hm s day ns[a]!).1 = (hs[a]!).2.1 ∧ (hdN x.hm s day ns[a]!).2 = (hs[a]!).2.2 from by rw [hvA]; exact ⟨rfl, rfl⟩)]
                repeat (refine stp ?_)
                exact ht_next () haa trivial (fun w t => (inferInstance : Frm _ _).h _ _ t) (SubE.cons (by rw [IntWalk.i64_in _ (by omega)]; rfl) inferInstance) rfl rfl
              · repeat (refine stp ?_)
                refine known25_spec ?_
                repeat (refine stp ?_)
                exact ret1 rfl (Ht.frm h)
            · rewrite [decide_eq_false g4]
              repeat (refine stp ?_)
              refine known25_spec ?_
              repeat (refine stp ?_)
              exact ret1 rfl (Ht.frm h)
end Go.Proofs
namespace Go.Proofs
open Go Go.SL
def svOf : Value → SVy
  | .slice a n c => (a, n, c)
  | _ => (none, 0, 0)
def okNs (w : World) (b : NtS) : Prop := NtOk b.1 ∧ SlIn w (svY b.2) encRw b.1.rows
theorem dNs : Dec Tryz.prog 40 encNs.f okNs :=
  Dec.map2 dNt _ _ (fun a : NtA => (a.1, svOf a.2)) fun w a ha => by
    obtain ⟨n, v⟩ := a
    obtain ⟨h1, h2⟩ := ha
    obtain ⟨p, c, hv, _, _⟩ := sliceIn_of h2
    dsimp only at hv h1 h2
    subst hv
    exact ⟨rfl, h1, h2⟩
abbrev RoA := Int × (Value × List ByteArray) × (Value × List (ByteArray × Int))
def fRo (b : RoA) : List Value := [.int .i64 b.1, b.2.1.1, b.2.2.1]
def okRo (w : World) (b : RoA) : Prop := SlIn w b.2.1.1 SL.encStr b.2.1.2 ∧ SlIn w b.2.2.1 encRw b.2.2.2
theorem dMb : Dec Tryz.prog 216 encRw.f okR9 :=
  Dec.map (dec_struct Tryz.underlying216 (by kernel_rfl) (.cons (n := 1) (dec_str Tryz.underlying9) rfl (by kernel_rfl) (.cons (n := 1) (dec_int Tryz.underlying3) rfl (by kernel_rfl) .nil))) _ _ (fun a => (a.1, a.2.1)) (fun _ => rfl) (fun _ _ h => ⟨h.1, h.2.1⟩)
theorem dRo : Dec Tryz.prog 25 fRo okRo :=
  Dec.map (dec_struct Tryz.underlying25 (by kernel_rfl) (.cons (n := 1) (dec_int Tryz.underlying3) rfl (by kernel_rfl) (.cons (n := 1) (dec_slice SL.encStr Tryz.underlying22 (by kernel_rfl) (dec_str Tryz.underlying9)) rfl (by kernel_rfl)
    (.cons (n := 1) (dec_slice encRw Tryz.underlying23 (by kernel_rfl) dMb) rfl (by kernel_rfl) .nil)))) _ _
    (fun a => (a.1, a.2.1, a.2.2.1)) (fun _ => rfl) (fun _ _ h => ⟨h.2.1.1, h.2.2.1.1⟩)
theorem LedgerStays_walk {w : World} {a : RoA} {hm day : Int} {v2 v3 : Value} {l more : List NtS} {K} (ha : okRo w a) [r2 : RoIn w v2 encNs l] [r3 : RoIn w v3 encNs more] (h2 : ∀ x ∈ l, okNs w x) (h3 : ∀ x ∈ more, okNs w x) (h : Ht [ro w] (K (.bool true))) :
    Ht [ro w] (CCall Tryz.prog 4 [.agg (fRo a).toArray, .int .i64 hm, v2, v3, .int .i64 day] K) := by
  obtain ⟨n, ⟨iv, is⟩, mv, ms⟩ := a
  haveI : RdE [ro w] SL.encStr iv is := ⟨fun w' s => SlIn.mono ha.1 (ro_le s)⟩
  haveI : RdE [ro w] encRw mv ms := ⟨fun w' s => SlIn.mono ha.2 (ro_le s)⟩
  haveI : RdE [ro w] encNs v2 l := ⟨fun w' s => SlIn.mono r2.h (ro_le s)⟩
  haveI : RdE [ro w] encNs v3 more := ⟨fun w' s => SlIn.mono r3.h (ro_le s)⟩
  exact LedgerStays_spec (R := ⟨n, is, ms⟩) (l := l) (more := more) (fun x hx => ⟨(h2 x hx).1, ⟨fun w' s => SlIn.mono (h2 x hx).2 (ro_le s)⟩⟩) (fun x hx => ⟨(h3 x hx).1, ⟨fun w' s => SlIn.mono (h3 x hx).2 (ro_le s)⟩⟩) h
end Go.Proofs