/- The parts HI, HJ, HN, HK, HO, HP, HQ, NIK, HS, SLXA, D25 of the engine and of the walk, one behind the other: no condition. -/
import Derived.Test.YtohglolecmgeoaaGreatBe2aea64c
import Derived.Test.YtohglolecmgeoaaGreatB4b57a90e
import Derived.Test.YtohglolecmgeoaaGreatB9d3ae9e8
import Derived.Test.YtohglolecmgeoaaGreatBc42594f4
import Derived.Test.YtohglolecmgeoaaGreatBe71c7712
import Derived.Test.YtohglolecmgeoaaGreatB2dc22f2e

set_option linter.all false
set_option maxRecDepth 20000
set_option synthInstance.maxSize 100000
set_option synthInstance.maxHeartbeats 400000
namespace Go.Proofs
open Go Go.SL
attribute [local irreducible] CCall CO CC CX CD

/-! ### ledger: mark -/
theorem clRows_key : ∀ {l : List (Nat × Rows)} {i : Nat} {r : Int × Option Nat}, r ∈ clRows i l → (i : Int) < r.1 ∧ r.1 ≤ (i : Int) + l.length
  | [], i, r, h => by cases h
  | c :: l, i, r, h => by
    rcases List.mem_cons.1 h with rfl | h
    · simp; omega
    · have := clRows_key h
      simp at this ⊢; omega
theorem clRows_srt : ∀ {l : List (Nat × Rows)} {i : Nat}, Srt (clRows i l)
  | [], i => List.Pairwise.nil
  | c :: l, i => List.pairwise_cons.2 ⟨fun r hr => by
      have := clRows_key hr
      show decide (_ < _) = true
      simp at this ⊢; omega, clRows_srt⟩
theorem clRows_put {l : List (Nat × Rows)} {b : Nat} {rows : Rows} {d : Int} (hd : d = (l.length : Int) + 1) : tput d (some b) (clRows 0 l) = clRows 0 (l ++ [(b, rows)]) := by
  rw [tput_end (fun r hr => by
    have := clRows_key hr
    show decide (_ < _) = true
    simp at this ⊢; omega), clRows_app]
  congr 1
  rw [clRows, clRows, Nat.zero_add, hd]
theorem cs_push {b : Nat} {rows : Rows} {cls : List (Nat × Rows)} {L M1 M : List HP} {G : World → Prop} [p : Pull (isPr b) L rows M1] [q : Pull (bigO isCs) M1 cls M] (h : Ht (bigO isCs (cls ++ [(b, rows)]) :: M) G) : Ht L G :=
  Ht.conseq h fun w t => bigO_snoc.2 (seps_mono (fun _ a => a) (fun _ t => q.h _ _ t) (p.h _ _ t))
theorem next_t {hm : Int} {s : Lg} {n : Nt} (h : nextE hm s n = 0) : peerB hm s n.peer = true ∧ n.day = (endedL s n.peer : Int) + 1 := by
  unfold nextE at h
  split at h
  · exact absurd h (by decide)
  next hb =>
  split at h
  · exact absurd h (by decide)
  next hd => exact ⟨by simpa using hb, by omega⟩
theorem mark_spec {L L1 M K b} {k : Nat} {x : LgL} {s : Lg} {R : Ros} {n : Nt} {rv : Value} [pl : Pull (isLg b) L x L1] [pr : Pull (isRos x.ros) L1 R M] [rs : RdE M encRw rv n.rows] (st : LgSt R k x s) (orv : One1 rv) (hk : k + 1 ≤ 500) (hno : NtOk n) (hE : mayL R x.hm s n = 0) (hn : n.kind = 10)
    (h : DoneP R k b x s n M K) : Ht L (CCall Tryz.prog 138 [.pointer (some ⟨b, 0, none⟩), ntV n rv] K) := by
  refine Ht.conseq (L' := isLg b x :: isRos x.ros R :: M) ?_ (fun w s => seps_mono (fun _ a => a) (fun _ t => pr.h _ _ t) (pl.h _ _ s))
  have hrs : ∀ (M' : List HP) [fr : Frm M' M], RdE M' encRw rv n.rows := fun M' fr => ⟨fun w t => rs.h w (fr.h _ _ t)⟩
  obtain ⟨h0, hm⟩ := may_note hE
  unfold mayK at hm
  rw [if_neg (by omega), if_neg (by omega), if_neg (by omega), if_neg (by omega), if_neg (by omega), if_neg (by omega), if_neg (by omega), if_neg (by omega), if_neg (by omega), if_pos hn] at hm
  obtain ⟨hp, hdy⟩ := next_t hm
  have hD : doK R x.hm s n = (do10 s n, repL x.hm (do10 s n) n.peer n.day) := by unfold doK; rw [if_neg (by omega), if_neg (by omega), if_neg (by omega), if_neg (by omega), if_neg (by omega), if_neg (by omega), if_neg (by omega), if_neg (by omega), if_neg (by omega), if_pos hn]
  obtain ⟨q, P', hP, hP2, hpb, hpt, hnl, hq⟩ := pr_get2 st hp
  have hrw := rowsE_ok ((noteE_parts h0).2.2.2.2.2 ((@fm_k n.kind).2.2.2.2.2.2 (.inl hn)))
  have hel := endedL_le st.ok n.peer
  have hcl : endedL s n.peer = q.cls.length := by unfold endedL; rw [hpt]; exact List.length_map _
  have hnp := (noteE_parts h0).1 ((@fm_k n.kind).2.2.2.1 (by omega))
  refine lg_at fun v ov => ?_
  refine ccall2 Tryz.func138 rfl (by decide) Tryz.ntmps138 (by rfl) (by decide) ?_
  repeat (refine stp ?_)
  intro c3
  repeat (refine stp ?_)
  refine pOf_ok (T := n.rows) (sorted_srt hrw.2.2.1) hrw.1 (fun r hr => ⟨hrw.2.1 r hr, hrw.2.2.2 hn r hr⟩) fun b' => ?_
  repeat (refine stp ?_)
  refine ht_draw Tryz.can138x2 Tryz.mixed (by kernel_rfl) ?_
  repeat (refine stp ?_)
  refine peer_spec (x := x) (vp := v.vp) (n := n.peer) st.plen ?_
  rewrite [hpb, show pv (some q.blk) = .pointer (some ⟨q.blk, 0, none⟩) from rfl]
  refine Ht.big_look (f := isPt) hP ?_
  refine pt_open fun vd vr od or => ?_
  repeat (refine stp ?_)
  refine ip_put (b := q.blk) (o := 0) (l := [vd, vr, .bool q.shut, .int .i64 (q.legs : Int)]) (v := vd) (xs := clRows 0 q.cls) (k := n.day) (u := some b') (fun v' => ⟨_, ups_mk (by show 0 < 4; decide)⟩) clRows_srt (by rw [clRows_len]; omega) fun vd' l' hl' => ?_
  obtain ⟨_, rfl⟩ := ups_eq hl'
  rewrite [clRows_put (rows := n.rows) (show n.day = (q.cls.length : Int) + 1 by rw [hdy, hcl])]
  refine Ht.one1 (v := vd') ?_
  intro od'
  refine cs_push (b := b') (rows := n.rows) (cls := q.cls) ?_
  repeat (refine stp ?_)
  rewrite [show ([vd, vr, Value.bool q.shut, Value.int .i64 (q.legs : Int)] : List Value).set 0 vd' = [vd', vr, Value.bool q.shut, Value.int .i64 (q.legs : Int)] from rfl]
  obtain ⟨q', hq'⟩ : ∃ y, { q with cls := q.cls ++ [(b', n.rows)] } = y := ⟨_, rfl⟩
  refine pt_back (q := { q with cls := q.cls ++ [(b', n.rows)] }) (hP2 { q with cls := q.cls ++ [(b', n.rows)] }) od' or ?_
  rewrite [show (x.pts.map fun p => some p.blk) = ((x.pts.set n.peer.toNat { q with cls := q.cls ++ [(b', n.rows)] }).map fun p => some p.blk) from (blk_set (by omega) (by rw [hq])).symm]
  refine lg_close (b := b) (x := { x with pts := x.pts.set n.peer.toNat { q with cls := q.cls ++ [(b', n.rows)] } }) (v := v) (R := pto c3 (cells (ntC n rv) 63) :: isRos x.ros R :: M) ov ?_
  have rp1 := st.rp.upd hnl (q := { q with cls := q.cls ++ [(b', n.rows)] }) (f := fun p => { p with closed := p.closed ++ [n.rows] }) (by rw [hq]; unfold PtL.pt; dsimp only; rw [List.map_append]; rfl)
  obtain ⟨x1, hx1⟩ : ∃ y, { x with pts := x.pts.set n.peer.toNat { q with cls := q.cls ++ [(b', n.rows)] } } = y := ⟨_, rfl⟩
  have e2 : x1.hm = x.hm := by rw [← hx1]
  have e3 : x1.ros = x.ros := by rw [← hx1]
  rewrite [hx1]
  rw [hx1] at rp1
  have st1 : LgSt R (k + 1) x1 (doK R x.hm s n).1 := done_st st hk hno hE e2 (by rw [hD]; exact rp1.up)
  have st2 : LgSt R (k + 1) x1 (do10 s n) := by rw [hD] at st1; exact st1
  refine reported_spec (x := x1) (R := R) st2 (by omega) fun ov3 oov3 => ?_
  rewrite [e2]
  repeat (refine stp ?_)
  refine ret1 rfl ?_
  have hf := h x1 ov3 st1 e3 e2 oov3
  rw [hD] at hf
  exact Ht.frm hf
end Go.Proofs

set_option linter.all false
set_option maxRecDepth 20000
set_option synthInstance.maxSize 100000
set_option synthInstance.maxHeartbeats 400000
namespace Go.Proofs
open Go Go.SL
attribute [local irreducible] CCall CO CC CX CD

/-! ### ledger: cut -/
theorem LgPeers_spec {L L1 M K b p} {x : LgL} {R : Ros} [pl : Pull (isLg b) L x L1] [pr : Pull (isRos p) L1 R M] (hp : x.ros = p)
    (h : ∀ v, One1 v → Ht (own SL.encI 3 v (peersR R x.hm) :: isLg b x :: isRos p R :: M) (K v)) : Ht L (CCall Tryz.prog 62 [.pointer (some ⟨b, 0, none⟩)] K) := by
  subst hp
  refine Ht.conseq (L' := isLg b x :: isRos x.ros R :: M) ?_ (fun w s => seps_mono (fun _ a => a) (fun _ t => pr.h _ _ t) (pl.h _ _ s))
  refine lg_at fun v ov => ?_
  refine peers_spec (x := x) (R := R) fun pv opv => ?_
  refine lg_close (b := b) (x := x) (v := v) (R := own SL.encI 3 pv (peersR R x.hm) :: isRos x.ros R :: M) ov ?_
  exact Ht.frm (h pv opv)
theorem peersL_eq {R : Ros} {hm : Int} {k : Nat} {s : Lg} (ok : LgOk R hm k s) : peersR R hm = peersL hm s := by
  have h1 := ok.home
  have h2 := ok.pts
  unfold peersR peersL
  rw [if_neg (by omega), show R.nodes.toNat = s.pts.length by omega]
  rfl
theorem may2_t {hm : Int} {s : Lg} (h : may2 hm s = 0) : dayL hm s ≤ 500 := by
  unfold may2 at h
  split at h
  · exact absurd h (by decide)
  · omega
theorem end_am {g on : Int} {xs : List Cll} (h : ∀ y ∈ xs, y.2.2.1 ≤ bigM) : ∀ y ∈ xsM g on xs xs.length, y.2.2.1 ≤ bigM := fun y hy => by
  rw [xsM_all] at hy
  obtain ⟨z, hz, rfl⟩ := List.mem_map.1 hy
  rw [lapC_day.2]; exact h z hz
theorem big_app {β : Type} {f : β → HP} {b : List β} {R : List HP} {e : Env} : ∀ {a : List β} {h : Hp}, seps (bigO f a :: bigO f b :: R) e h → seps (bigO f (a ++ b) :: R) e h
  | [], h, t => (bigO_nil (f := f)).1 t
  | x :: a, h, t => by
    have t2 : seps (f x :: bigO f a :: bigO f b :: R) e h := (bigO_split (l1 := [])).1 t
    have t3 : seps (f x :: bigO f (a ++ b) :: R) e h := seps_mono (fun _ a => a) (fun _ t => big_app t) t2
    exact (bigO_split (l1 := [])).2 t3
theorem outs_merge {a b : List OutL} {L M1 M : List HP} {G : World → Prop} [p : Pull (bigO hOt) L b M1] [q : Pull (bigO hOt) M1 a M] (h : Ht (bigO hOt (a ++ b) :: M) G) : Ht L G :=
  Ht.conseq h fun w t => bigO_perm List.perm_append_comm (big_app (seps_mono (fun _ a => a) (fun _ t => q.h _ _ t) (p.h _ _ t)))
theorem outs_push {o : OutL} {a : List OutL} {L M1 M : List HP} {G : World → Prop} [p : Pull (own encRw 109 (svY o.2)) L o.1.2.rows M1] [q : Pull (bigO hOt) M1 a M] (h : Ht (bigO hOt (a ++ [o]) :: M) G) : Ht L G :=
  Ht.conseq h fun w t => bigO_snoc.2 (seps_mono (fun _ a => a) (fun _ t => q.h _ _ t) (p.h _ _ t))
theorem endR_x {g e on : Int} {xs xs' : List Cll} {fs fs' : List (ByteArray × Bool)} {e' : Int} {out : List Cll} (h : EndR g e on xs fs e' xs' fs' out) : xs' = if endOk e on then xsM g on xs xs.length else xs := by
  rcases h with ⟨h0, h1, h2, h3, h4⟩ | ⟨h0, h1, h2, h3, h4⟩
  · rw [if_neg h0]; assumption
  · rw [if_pos h0]; assumption
theorem endR_f {g e on : Int} {xs xs' : List Cll} {fs fs' : List (ByteArray × Bool)} {e' : Int} {out : List Cll} (h : EndR g e on xs fs e' xs' fs' out) : fs' = if endOk e on then fsM g on xs fs xs.length else fs := by
  rcases h with ⟨h0, h1, h2, h3, h4⟩ | ⟨h0, h1, h2, h3, h4⟩
  · rw [if_neg h0]; assumption
  · rw [if_pos h0]; assumption
theorem endR_e {g e on : Int} {xs xs' : List Cll} {fs fs' : List (ByteArray × Bool)} {e' : Int} {out : List Cll} (h : EndR g e on xs fs e' xs' fs' out) : e' = if endOk e on then on else e := by
  rcases h with ⟨h0, h1, h2, h3, h4⟩ | ⟨h0, h1, h2, h3, h4⟩
  · rw [if_neg h0]; assumption
  · rw [if_pos h0]; assumption
theorem cut_spec {L L1 M K b} {k : Nat} {x : LgL} {s : Lg} {R : Ros} {n : Nt} {rv : Value} [pl : Pull (isLg b) L x L1] [pr : Pull (isRos x.ros) L1 R M] (st : LgSt R k x s) (orv : One1 rv) (hk : k + 1 ≤ 500) (hno : NtOk n) (hE : mayL R x.hm s n = 0) (hn : n.kind = 2)
    (h : DoneP R k b x s n M K) : Ht L (CCall Tryz.prog 122 [.pointer (some ⟨b, 0, none⟩), ntV n rv] K) := by
  refine Ht.conseq (L' := isLg b x :: isRos x.ros R :: M) ?_ (fun w s => seps_mono (fun _ a => a) (fun _ t => pr.h _ _ t) (pl.h _ _ s))
  obtain ⟨h0, hm⟩ := may_note hE
  unfold mayK at hm
  rw [if_neg (by omega), if_pos hn] at hm
  have hday := may2_t hm
  have hD : doK R x.hm s n = do2 x.hm s := by unfold doK; rw [if_neg (by omega), if_pos hn]
  have hhm := st.hm
  have hp3 := st.plen3
  have hnl : 0 ≤ x.hm ∧ x.hm < x.pts.length := by omega
  obtain ⟨P', hP, hP2⟩ := pts_set hnl
  have hpb : ptBlk x x.hm = some (x.pts[x.hm.toNat]!).blk := by unfold ptBlk; rw [if_pos hnl]
  have hpt := st.rp.pt hnl
  obtain ⟨q, hq⟩ : ∃ q, x.pts[x.hm.toNat]! = q := ⟨_, rfl⟩
  rw [hq] at hP hpb hpt
  have hel := endedL_le st.ok x.hm
  have hcl : endedL s x.hm = q.cls.length := by unfold endedL; rw [hpt]; exact List.length_map _
  have hj := st.ok.calls
  have hfl := hj.js.fl
  have hxl := hj.js.xl
  have hk0 := st.hk
  have hps := st.ok.pr.srt
  have hpl := st.ok.pr.len
  refine lg_at fun v ov => ?_
  refine ccall2 Tryz.func122 rfl (by decide) Tryz.ntmps122 (by rfl) (by decide) ?_
  repeat (refine stp ?_)
  intro c3
  repeat (refine stp ?_)
  refine Day_spec (x := x) (vp := v.vp) st.plen st.clen ?_
  rewrite [st.rp.ended, show (((endedL s x.hm : Nat) : Int) + 1) = dayL x.hm s from rfl]
  repeat (refine stp ?_)
  refine ht_draw Tryz.can122x2 Tryz.mixed (by kernel_rfl) ?_
  repeat (refine stp ?_)
  refine party_spec (x := x) (vp := v.vp) (n := x.hm) st.plen ?_
  rewrite [hpb, show pv (some q.blk) = .pointer (some ⟨q.blk, 0, none⟩) from rfl]
  repeat (refine stp ?_)
  refine pCopy_ok (b := x.prb) (T := x.prices) (by rw [st.rp.pr]; exact hps) (by rw [st.rp.pr]; exact hpl) fun b' => ?_
  refine Ht.big_look (f := isPt) hP ?_
  refine pt_open fun vd vr od or => ?_
  repeat (refine stp ?_)
  refine ip_put (b := q.blk) (o := 0) (l := [vd, vr, .bool q.shut, .int .i64 (q.legs : Int)]) (v := vd) (xs := clRows 0 q.cls) (k := dayL x.hm s) (u := some b') (fun v' => ⟨_, ups_mk (by show 0 < 4; decide)⟩) clRows_srt (by rw [clRows_len]; omega) fun vd' l' hl' => ?_
  obtain ⟨_, rfl⟩ := ups_eq hl'
  rewrite [clRows_put (rows := x.prices) (show dayL x.hm s = (q.cls.length : Int) + 1 by unfold dayL; rw [hcl])]
  refine Ht.one1 (v := vd') ?_
  intro od'
  refine cs_push (b := b') (rows := x.prices) (cls := q.cls) ?_
  rewrite [show ([vd, vr, Value.bool q.shut, Value.int .i64 (q.legs : Int)] : List Value).set 0 vd' = [vd', vr, Value.bool q.shut, Value.int .i64 (q.legs : Int)] from rfl]
  repeat (refine stp ?_)
  refine cl_endR (b := x.clb) (lv := v.vl) (tv := v.vf) (g := 1) (e := x.cend) (on := dayL x.hm s) (xs := x.xs) (fs := x.fs) (by rw [st.rp.fs]; exact hj.js.srt) (by rw [st.rp.fs]; omega) (by rw [st.rp.xs]; omega) (by decide) fun gv e' tv' xs' fs' out hend ogv => ?_
  refine Ht.know (p := One1 tv') (fun w t => one1_of (own_sat t.tail)) (fun otv => ?_)
  refine pt_back (q := { q with cls := q.cls ++ [(b', x.prices)] }) (hP2 { q with cls := q.cls ++ [(b', x.prices)] }) od' or ?_
  rewrite [show (x.pts.map fun p => some p.blk) = ((x.pts.set x.hm.toNat { q with cls := q.cls ++ [(b', x.prices)] }).map fun p => some p.blk) from (blk_set (by omega) (by rw [hq])).symm]
  refine lg_close (b := b) (x := { x with pts := x.pts.set x.hm.toNat { q with cls := q.cls ++ [(b', x.prices)] }, xs := xs', fs := fs', cend := e' }) (v := { v with vf := tv' }) (R := pto c3 (cells (ntC n rv) 63) :: isRos x.ros R :: M) ⟨ov.p, ov.i, ov.d, ov.a, ov.o, ov.l, otv⟩ ?_
  have rp1 := (st.rp.upd hnl (q := { q with cls := q.cls ++ [(b', x.prices)] }) (f := fun p => { p with closed := p.closed ++ [s.prices] }) (by rw [hq, ← st.rp.pr]; unfold PtL.pt; dsimp only; rw [List.map_append]; rfl)).calls' (xs' := xs') (fs' := fs') (e' := e') (xs := if endOk s.cend (dayL x.hm s) then xsM 1 (dayL x.hm s) s.xs s.xs.length else s.xs) (fs := if endOk s.cend (dayL x.hm s) then fsM 1 (dayL x.hm s) s.xs s.fs s.xs.length else s.fs) (e := if endOk s.cend (dayL x.hm s) then dayL x.hm s else s.cend)
    (by rw [← st.rp.xs, ← st.rp.ce]; exact endR_x hend) (by rw [← st.rp.xs, ← st.rp.ce, ← st.rp.fs]; exact endR_f hend) (by rw [← st.rp.ce]; exact endR_e hend) (by
      split
      · exact end_am st.rp.cam
      · exact st.rp.cam)
  obtain ⟨x1, hx1⟩ : ∃ y, { x with pts := x.pts.set x.hm.toNat { q with cls := q.cls ++ [(b', x.prices)] }, xs := xs', fs := fs', cend := e' } = y := ⟨_, rfl⟩
  have e2 : x1.hm = x.hm := by rw [← hx1]
  have e3 : x1.ros = x.ros := by rw [← hx1]
  have e4 : x1.prb = x.prb ∧ x1.prices = x.prices := by rw [← hx1]; exact ⟨rfl, rfl⟩
  rewrite [hx1]
  have st1 : LgSt R (k + 1) x1 (doK R x.hm s n).1 := done_st st hk hno hE e2 (by rw [hD, ← hx1]; exact rp1.up)
  have st2 : LgSt R (k + 1) x1 (cutL x.hm s) := by rw [hD] at st1; exact st1
  repeat (refine stp ?_)
  refine LgPeers_spec (x := x1) (p := x.ros) (R := R) e3 fun pv opv => ?_
  rewrite [e2]
  have hpl3 := peersR_len st.ok.ros (n := x.hm)
  obtain ⟨ps, hpe⟩ : ∃ ps, peersR R x.hm = ps := ⟨_, rfl⟩
  obtain ⟨dd, hdd⟩ : ∃ dd, dayL x.hm s = dd := ⟨_, rfl⟩
  have hpp : ∀ p ∈ ps, 0 ≤ p ∧ p < R.nodes ∧ p ≠ x.hm := fun p hp => peersR_pos p (by rw [hpe]; exact hp)
  rw [hpe] at hpl3
  rewrite [hpe, hdd]
  repeat (refine stp ?_)
  refine cc_env (E' := [(38, .int .i64 0), (37, .int .i64 (ps.length : Int)), (36, pv), (6, .slice none 0 0), (5, .int .i64 dd), (0, .pointer (some ⟨b, 0, none⟩))]) inferInstance ?_
  refine ht_for ps.length (fun i (y : Value × List OutL) => One1 y.1 ∧ y.2.map Prod.fst = (ps.take i).map fun p => (p, ntK 10 x.hm dd noTd s.prices 0 0)) (fun i y => own encOt 69 y.1 y.2 :: bigO hOt y.2 :: isLg b x1 :: own SL.encI 3 pv ps :: isRos x.ros R :: M) (fun i y => [(38, .int .i64 (i : Int)), (6, y.1)]) (.slice none 0 0, []) [38, 6] ⟨⟨rfl⟩, rfl⟩ (fun w t => own_nil.2 (bigO_nil.2 ((inferInstance : Frm _ _).h _ _ t))) inferInstance ?_
  intro i ⟨lv, ls⟩ hi ⟨olv, hls⟩
  dsimp only at olv hls
  dsimp only [List.cons_append, List.nil_append]
  have hll : ls.length = i := by
    have := congrArg List.length hls
    rw [List.length_map, List.length_map, List.length_take] at this
    omega
  repeat (refine stp ?_)
  refine ht_if ?_ ?_ <;> intro hc <;> simp only [decide_eq_true_eq, decide_eq_false_iff_not] at hc
  · have hii : i < ps.length := by omega
    repeat (refine stp ?_)
    refine co_index (xs := ps) (by omega) ?_
    intro hb
    repeat (refine stp ?_)
    refine Ht.conseq (L' := isLg b x1 :: own encOt 69 lv ls :: bigO hOt ls :: own SL.encI 3 pv ps :: isRos x.ros R :: M) ?_ (fun w t => (inferInstance : Frm _ _).h _ _ t)
    refine lg_at fun v3 ov3 => ?_
    refine ht_draw Tryz.can122x8 Tryz.mixed (by kernel_rfl) ?_
    repeat (refine stp ?_)
    refine pRows_ok (b := x1.prb) (T := x1.prices) (by rw [e4.2, st.rp.pr]; omega) fun u ou => ?_
    refine Ht.know (p := ∃ sv : SVy, u = svY sv) (fun w t => svY_know t) (fun hsv => ?_)
    obtain ⟨sv, rfl⟩ := hsv
    repeat (refine stp ?_)
    intro b1
    repeat (refine stp ?_)
    refine Ht.own_lit encOt (b := b1) (n := 1) (xs := [((ps[i]!, ntK 10 x1.hm dd noTd x1.prices 0 0), sv)]) rfl rfl (by decide) ?_
    refine co_append (e := encOt) (xs := ls) (ys := [((ps[i]!, ntK 10 x1.hm dd noTd x1.prices 0 0), sv)]) (by rfl) (by simp; omega) (by simp; omega) ?_
    intro v2
    refine Ht.one1 (v := v2) ?_
    intro ov2
    repeat (refine stp ?_)
    refine outs_push (o := ((ps[i]!, ntK 10 x1.hm dd noTd x1.prices 0 0), sv)) (a := ls) ?_
    refine lg_close (b := b) (x := x1) (v := v3) (R := own encOt 69 v2 (ls ++ [((ps[i]!, ntK 10 x1.hm dd noTd x1.prices 0 0), sv)]) :: bigO hOt (ls ++ [((ps[i]!, ntK 10 x1.hm dd noTd x1.prices 0 0), sv)]) :: own SL.encI 3 pv ps :: isRos x.ros R :: M) ov3 ?_
    refine ht_next (v2, ls ++ [((ps[i]!, ntK 10 x1.hm dd noTd x1.prices 0 0), sv)]) hii ⟨ov2, by rw [List.map_append, hls, takeSnoc hii, List.map_append, e2, e4.2, st.rp.pr]; rfl⟩ (fun w t => (inferInstance : Frm _ _).h _ _ t) (SubE.cons (by rw [IntWalk.i64_in _ (by omega)]; rfl) (SubE.cons rfl inferInstance)) rfl rfl
  · have he : i = ps.length := by omega
    subst he
    rw [List.take_length] at hls
    repeat (refine stp ?_)
    refine LgPeers_spec (x := x1) (p := x.ros) (R := R) e3 fun pv2 opv2 => ?_
    rewrite [e2, hpe]
    repeat (refine stp ?_)
    refine cc_env (E' := [(62, .int .i64 0), (61, .int .i64 (ps.length : Int)), (60, pv2), (6, lv), (5, .int .i64 dd), (0, .pointer (some ⟨b, 0, none⟩))]) inferInstance ?_
    refine ht_for ps.length (fun i (y : Value × List OutL) => One1 y.1 ∧ y.2.length ≤ 10 + 10 * i ∧ y.2.map Prod.fst = (ps.map fun p => (p, ntK 10 x.hm dd noTd s.prices 0 0)) ++ (ps.take i).flatMap fun p => repL x.hm (cutL x.hm s) p dd) (fun i y => own encOt 69 y.1 y.2 :: bigO hOt y.2 :: isLg b x1 :: own SL.encI 3 pv2 ps :: isRos x.ros R :: M) (fun i y => [(62, .int .i64 (i : Int)), (6, y.1)]) (lv, ls) [62, 6] ⟨olv, by dsimp only; omega, by rw [List.take_zero, List.flatMap_nil, List.append_nil]; exact hls⟩ (fun w t => (inferInstance : Frm _ _).h _ _ t) inferInstance ?_
    intro j ⟨lw, lt⟩ hj2 ⟨olw, hln, hlt⟩
    dsimp only at olw hlt hln
    dsimp only [List.cons_append, List.nil_append]
    repeat (refine stp ?_)
    refine ht_if ?_ ?_ <;> intro hc2 <;> simp only [decide_eq_true_eq, decide_eq_false_iff_not] at hc2
    · have hjj : j < ps.length := by omega
      have hpj := hpp _ (List.mem_of_getElem? (getB hjj))
      have hn3 := st.ok.ros.nodes
      repeat (refine stp ?_)
      refine co_index (xs := ps) (by omega) ?_
      intro hb2
      repeat (refine stp ?_)
      refine Ht.conseq (L' := isLg b x1 :: own encOt 69 lw lt :: bigO hOt lt :: own SL.encI 3 pv2 ps :: isRos x.ros R :: M) ?_ (fun w t => (inferInstance : Frm _ _).h _ _ t)
      refine reported_spec (x := x1) (R := R) st2 (by omega) fun ov5 oov5 => ?_
      refine outs_open fun l5 _ hl5 => ?_
      rw [e2] at hl5
      have hl5n : l5.length ≤ 1 := by
        have := congrArg List.length hl5
        rw [List.length_map] at this
        rw [this]; unfold repL; split <;> simp
      repeat (refine stp ?_)
      refine co_append (e := encOt) (xs := lt) (ys := l5) (by rfl) (by omega) (by omega) ?_
      intro v2
      refine Ht.one1 (v := v2) ?_
      intro ov2
      repeat (refine stp ?_)
      refine outs_merge (a := lt) (b := l5) ?_
      refine ht_next (v2, lt ++ l5) hjj ⟨ov2, by rw [List.length_append]; omega, by rw [List.map_append, hlt, hl5, takeSnoc hjj, List.flatMap_append, List.append_assoc]; simp⟩ (fun w t => (inferInstance : Frm _ _).h _ _ t) (SubE.cons (by rw [IntWalk.i64_in _ (by omega)]; rfl) (SubE.cons rfl inferInstance)) rfl rfl
    · have he2 : j = ps.length := by omega
      subst he2
      rw [List.take_length] at hlt
      repeat (refine stp ?_)
      refine ret1 rfl ?_
      have hf := h x1 lw st1 e3 e2 olw
      have ho : (doK R x.hm s n).2 = lt.map Prod.fst := by
        rw [hD, hlt]
        unfold do2
        rw [← peersL_eq st.ok, hpe, hdd]
      rw [ho] at hf
      exact Ht.conseq hf fun w t => outs_shut olw rfl ((inferInstance : Frm _ _).h _ _ t)
end Go.Proofs

set_option linter.all false
set_option maxRecDepth 20000
set_option synthInstance.maxSize 100000
set_option synthInstance.maxHeartbeats 400000
namespace Go.Proofs
open Go Go.SL
attribute [local irreducible] CCall CO CC CX CD

/-! ### ledger: New -/
def pt0 : Pt := ⟨[], [], false, 0⟩
def lg0 (n : Nat) : Lg := ⟨List.replicate n pt0, [], [], [], 0, [], [], [], 0⟩
theorem lg0_ok {R : Ros} (ok : RosOk R) {hm : Int} (h : 0 ≤ hm ∧ hm < R.nodes) : LgOk R hm 0 (lg0 R.nodes.toNat) := by
  have hn := ok.nodes
  have hp : ∀ p ∈ (lg0 R.nodes.toNat).pts, p = pt0 := fun p hp => List.eq_of_mem_replicate hp
  refine ⟨ok, h, ?_, Nat.zero_le _, fun p hp' => ?_, fun x hx => (by cases hx), Nat.zero_le _, fun j => rfl, rfl, ⟨List.Pairwise.nil, Nat.zero_le _, fun r hr => (by cases hr)⟩, fun r hr => (by cases hr), fun p hp' => ?_, fun p hp' => ?_, fun x hx => (by cases hx), fun m => ?_, JP.nil, ⟨Int.le_refl _, by show (0 : Int) ≤ 500; decide⟩⟩
  · show ((List.replicate R.nodes.toNat pt0).length : Int) = R.nodes
    rw [List.length_replicate]; omega
  · rw [hp p hp']; exact Nat.zero_le _
  · rw [hp p hp']; exact ⟨Nat.zero_le _, fun l hl => (by cases hl)⟩
  · rw [hp p hp']; exact ⟨Nat.zero_le _, fun l hl => (by cases hl)⟩
  · show (0 : Int) ≤ mostP; decide
theorem lg0_rep {x : LgL} {n : Nat} (hp : x.pts.map PtL.pt = List.replicate n pt0) (h : x.ids = [] ∧ x.D = [] ∧ x.T = [] ∧ x.n = 0 ∧ x.prices = [] ∧ x.settled = 0 ∧ x.P = [] ∧ x.xs = [] ∧ x.fs = [] ∧ x.cend = 0) : LgRep 0 x (lg0 n) := by
  obtain ⟨h1, h2, h3, h4, h5, h6, h7, h8, h9, h10⟩ := h
  refine ⟨hp, by rw [h1]; exact List.Pairwise.nil, by rw [h1]; rfl, fun i => by rw [h1]; simp [thas, tfind, lg0], ?_, by rw [h3]; exact AccT.nil, by rw [h4]; rfl, h5, h6, by rw [h7]; exact List.Pairwise.nil, by rw [h7]; exact Nat.zero_le _, fun m => by rw [h7]; rfl, fun y hy => (by rw [h7] at hy; cases hy), h8, h9, h10, Nat.zero_le _, fun y hy => (by cases hy)⟩
  rw [h2]
  exact ⟨List.Pairwise.nil, fun d => by simp [lg0], fun y hy => (by cases hy)⟩
theorem pt_new {c : Nat} {R : List HP} {w : World} (t : Sat (pto c (cells [.slice none 0 0, .slice none 0 0, .bool false, .int .i64 0] 191) :: R) w) : Sat (isPt ⟨c, [], [], false, 0⟩ :: R) w := by
  have t1 : Sat (own enc_ip 279 (.slice none 0 0) [] :: own encHo 55 (.slice none 0 0) [] :: bigO isCs [] :: bigO hwn [] :: pto c (cells [.slice none 0 0, .slice none 0 0, .bool false, .int .i64 0] 191) :: R) w := own_nil.2 (own_nil.2 (bigO_nil.2 (bigO_nil.2 t)))
  exact pt_shut (x := ⟨c, [], [], false, 0⟩) (vd := .slice none 0 0) (vr := .slice none 0 0) ⟨rfl⟩ ⟨rfl⟩ (Sat.rot [_, _, _, _] [_] t1)
theorem LNew_spec {L M K p} {R : Ros} {hm : Int} [pl : Pull (isRos p) L R M]
    (hE : hm < 0 ∨ R.nodes ≤ hm → Ht (isRos p R :: M) (K (.tuple #[.pointer none, .int .i64 5])))
    (hG : 0 ≤ hm → hm < R.nodes → ∀ b x, LgSt R 0 x (lg0 R.nodes.toNat) → x.ros = p → x.hm = hm → Ht (isLg b x :: isRos p R :: M) (K (.tuple #[.pointer (some ⟨b, 0, none⟩), .int .i64 0]))) :
    Ht L (CCall Tryz.prog 26 [.pointer (some ⟨p, 0, none⟩), .int .i64 hm] K) := by
  refine Ht.conseq (L' := isRos p R :: M) ?_ (fun w t => pl.sat t)
  refine Ht.know (p := RosOk R) (fun w t => ros_ok t) (fun ok => ?_)
  have hn3 := ok.nodes
  refine ccall2 Tryz.func26 rfl (by decide) Tryz.ntmps26 (by rfl) (by decide) ?_
  repeat (refine stp ?_)
  by_cases h0 : hm < 0
  · rewrite [decide_eq_true h0]
    repeat (refine stp ?_)
    exact ret2 rfl (hE (.inl h0))
  rewrite [decide_eq_false h0]
  repeat (refine stp ?_)
  refine RNodes_spec ?_
  repeat (refine stp ?_)
  by_cases h1 : R.nodes ≤ hm
  · rewrite [decide_eq_true h1]
    repeat (refine stp ?_)
    exact ret2 rfl (hE (.inr h1))
  rewrite [decide_eq_false h1]
  repeat (refine stp ?_)
  refine cl_new (fun hh => absurd hh (by decide)) (fun _ _ clb => ?_)
  repeat (refine stp ?_)
  try rewrite [show decide ((0 : Int) ≠ 0) = false from rfl]
  repeat (refine stp ?_)
  intro prb
  repeat (refine stp ?_)
  intro b
  repeat (refine stp ?_)
  refine RNodes_spec ?_
  repeat (refine stp ?_)
  obtain ⟨m, hm2⟩ : ∃ m : Nat, R.nodes = m := ⟨R.nodes.toNat, by omega⟩
  rewrite [hm2]
  refine cc_env (E' := [(37, .int .i64 0), (36, .int .i64 (m : Int)), (8, .pointer (some ⟨b, 0, none⟩))]) inferInstance ?_
  refine ht_for m (fun i (y : Value × List PtL) => One1 y.1 ∧ y.2.map PtL.pt = List.replicate i pt0) (fun i y => pto b (cells [.pointer (some ⟨p, 0, none⟩), .int .i64 hm, y.1, .slice none 0 0, .slice none 0 0, .slice none 0 0, .int .i64 0, .pointer (some ⟨prb, 0, none⟩), .int .i64 0, .slice none 0 0, .slice none 0 0, .pointer (some ⟨clb, 0, none⟩)] 149) :: own encPv 180 y.1 (y.2.map fun p => some p.blk) :: bigO isPt y.2 :: isRos p R :: pto prb (cells [.slice none 0 0] 201) :: pto clb (cells [.int .i64 1, .int .i64 0, .slice none 0 0, .slice none 0 0] 289) :: M) (fun i y => [(37, .int .i64 (i : Int))]) (.slice none 0 0, []) [37] ⟨⟨rfl⟩, rfl⟩ (fun w t => by
    have t1 : Sat (own encPv 180 (.slice none 0 0) [] :: bigO isPt [] :: _) w := own_nil.2 (bigO_nil.2 t)
    dsimp only
    rw [List.map_nil]
    exact (inferInstance : Frm _ _).h _ _ t1) inferInstance ?_
  intro i ⟨lv, ps⟩ hi ⟨olv, hps⟩
  dsimp only at olv hps
  dsimp only [List.cons_append, List.nil_append]
  have hpl : ps.length = i := by
    have := congrArg List.length hps
    rwa [List.length_map, List.length_replicate] at this
  have hml : (ps.map fun p => some p.blk).length = i := by rw [List.length_map, hpl]
  repeat (refine stp ?_)
  refine ht_if ?_ ?_ <;> intro hcc <;> simp only [decide_eq_true_eq, decide_eq_false_iff_not] at hcc
  · have hii : i < m := by omega
    repeat (refine stp ?_)
    intro c
    repeat (refine stp ?_)
    intro b1
    repeat (refine stp ?_)
    refine Ht.own_lit encPv (b := b1) (n := 1) (xs := [some c]) rfl rfl (by decide) ?_
    refine co_append (e := encPv) (xs := ps.map fun (q : PtL) => some q.blk) (ys := [some c]) (by rfl) (by rw [hml]; simp; omega) (by rw [hml]; simp; omega) ?_
    intro v2
    refine Ht.one1 (v := v2) ?_
    intro ov2
    repeat (refine stp ?_)
    refine ht_next (v2, ps ++ [⟨c, [], [], false, 0⟩]) hii ⟨ov2, by rw [List.map_append, hps, List.replicate_succ']; rfl⟩ (fun w t => ?_) (SubE.cons (by rw [IntWalk.i64_in _ (by omega)]; rfl) inferInstance) rfl rfl
    dsimp only
    rw [List.map_append, List.map_cons, List.map_nil]
    have t1 : Sat (pto c (cells [.slice none 0 0, .slice none 0 0, .bool false, .int .i64 0] 191) :: own encPv 180 v2 ((ps.map fun (q : PtL) => some q.blk) ++ [some c]) :: pto b (cells [.pointer (some ⟨p, 0, none⟩), .int .i64 hm, v2, .slice none 0 0, .slice none 0 0, .slice none 0 0, .int .i64 0, .pointer (some ⟨prb, 0, none⟩), .int .i64 0, .slice none 0 0, .slice none 0 0, .pointer (some ⟨clb, 0, none⟩)] 149) :: bigO isPt ps :: isRos p R :: pto prb (cells [.slice none 0 0] 201) :: pto clb (cells [.int .i64 1, .int .i64 0, .slice none 0 0, .slice none 0 0] 289) :: M) w := (inferInstance : Frm _ _).h _ _ t
    have t2 := pt_new t1
    have t3 : Sat (isPt ⟨c, [], [], false, 0⟩ :: bigO isPt ps :: own encPv 180 v2 ((ps.map fun (q : PtL) => some q.blk) ++ [some c]) :: pto b (cells [.pointer (some ⟨p, 0, none⟩), .int .i64 hm, v2, .slice none 0 0, .slice none 0 0, .slice none 0 0, .int .i64 0, .pointer (some ⟨prb, 0, none⟩), .int .i64 0, .slice none 0 0, .slice none 0 0, .pointer (some ⟨clb, 0, none⟩)] 149) :: isRos p R :: pto prb (cells [.slice none 0 0] 201) :: pto clb (cells [.int .i64 1, .int .i64 0, .slice none 0 0, .slice none 0 0] 289) :: M) w := (inferInstance : Frm _ _).h _ _ t2
    have t4 := (bigO_snoc (f := isPt)).2 t3
    exact (inferInstance : Frm _ _).h _ _ t4
  · have he : i = m := by omega
    subst he
    repeat (refine stp ?_)
    refine ret2 rfl ?_
    have hbb := hG (by omega) (by omega) b ⟨p, hm, ps, [], [], [], 0, prb, [], 0, [], clb, [], [], 0⟩ ⟨lg0_ok ok (show 0 ≤ hm ∧ hm < R.nodes from ⟨by omega, by omega⟩), lg0_rep (by rw [hps, hm2]; rfl) ⟨rfl, rfl, rfl, rfl, rfl, rfl, rfl, rfl, rfl, rfl⟩, by omega⟩ rfl rfl
    refine Ht.conseq hbb fun w t => ?_
    have t1 : Sat (own enc_sl 393 (.slice none 0 0) [] :: own enc_lb 431 (.slice none 0 0) [] :: own enc_ia 514 (.slice none 0 0) (dRows []) :: own enc_sh 517 (.slice none 0 0) [] :: bigO isDy [] :: bigO hown [] :: own enc_so 467 (.slice none 0 0) (pRows []) :: bigO isLt [] :: own encCl 299 (.slice none 0 0) [] :: own enc_sb 317 (.slice none 0 0) [] :: pto b (cells [.pointer (some ⟨p, 0, none⟩), .int .i64 hm, lv, .slice none 0 0, .slice none 0 0, .slice none 0 0, .int .i64 0, .pointer (some ⟨prb, 0, none⟩), .int .i64 0, .slice none 0 0, .slice none 0 0, .pointer (some ⟨clb, 0, none⟩)] 149) :: own encPv 180 lv (ps.map fun (q : PtL) => some q.blk) :: bigO isPt ps :: isRos p R :: pto prb (cells [.slice none 0 0] 201) :: pto clb (cells [.int .i64 1, .int .i64 0, .slice none 0 0, .slice none 0 0] 289) :: M) w := own_nil.2 (own_nil.2 (own_nil.2 (own_nil.2 (bigO_nil.2 (bigO_nil.2 (own_nil.2 (bigO_nil.2 (own_nil.2 (own_nil.2 t)))))))))
    have t2 : Sat (pto prb (cells [.slice none 0 0] 201) :: own enc_sl 393 (.slice none 0 0) [] :: own enc_lb 431 (.slice none 0 0) [] :: own enc_ia 514 (.slice none 0 0) (dRows []) :: own enc_sh 517 (.slice none 0 0) [] :: bigO isDy [] :: bigO hown [] :: own enc_so 467 (.slice none 0 0) (pRows []) :: bigO isLt [] :: own encCl 299 (.slice none 0 0) [] :: own enc_sb 317 (.slice none 0 0) [] :: pto b (cells [.pointer (some ⟨p, 0, none⟩), .int .i64 hm, lv, .slice none 0 0, .slice none 0 0, .slice none 0 0, .int .i64 0, .pointer (some ⟨prb, 0, none⟩), .int .i64 0, .slice none 0 0, .slice none 0 0, .pointer (some ⟨clb, 0, none⟩)] 149) :: own encPv 180 lv (ps.map fun (q : PtL) => some q.blk) :: bigO isPt ps :: isRos p R :: pto clb (cells [.int .i64 1, .int .i64 0, .slice none 0 0, .slice none 0 0] 289) :: M) w := (inferInstance : Frm _ _).h _ _ t1
    have t3 := pr_shut (b := prb) (T := []) ⟨rfl⟩ t2
    exact lg_shut (v := ⟨lv, .slice none 0 0, .slice none 0 0, .slice none 0 0, .slice none 0 0, .slice none 0 0, .slice none 0 0⟩) ⟨olv, ⟨rfl⟩, ⟨rfl⟩, ⟨rfl⟩, ⟨rfl⟩, ⟨rfl⟩, ⟨rfl⟩⟩ ((inferInstance : Frm _ (pto b (cells [.pointer (some ⟨p, 0, none⟩), .int .i64 hm, lv, .slice none 0 0, .slice none 0 0, .slice none 0 0, .int .i64 0, .pointer (some ⟨prb, 0, none⟩), .int .i64 0, .slice none 0 0, .slice none 0 0, .pointer (some ⟨clb, 0, none⟩)] 149) :: own encPv 180 lv (ps.map fun (q : PtL) => some q.blk) :: bigO isPt ps :: own enc_lb 431 (.slice none 0 0) [] :: own enc_ia 514 (.slice none 0 0) (dRows []) :: own enc_sh 517 (.slice none 0 0) [] :: bigO isDy [] :: bigO hown [] :: isPr prb [] :: own enc_so 467 (.slice none 0 0) (pRows []) :: bigO isLt [] :: pto clb (cells [.int .i64 1, .int .i64 0, .slice none 0 0, .slice none 0 0] 289) :: own encCl 299 (.slice none 0 0) [] :: own enc_sb 317 (.slice none 0 0) [] :: isRos p R :: M)).h _ _ t3)
end Go.Proofs

set_option linter.all false
set_option maxRecDepth 20000
set_option synthInstance.maxSize 100000
set_option synthInstance.maxHeartbeats 400000
namespace Go.Proofs
open Go Go.SL
attribute [local irreducible] CCall CO CC CX CD

/-! ### ledger: Apply -/
theorem Apply_spec {L L1 M K b} {k : Nat} {x : LgL} {s : Lg} {R : Ros} {n : Nt} {rv : Value} [pl : Pull (isLg b) L x L1] [pr : Pull (isRos x.ros) L1 R M] [rs : RdE M encRw rv n.rows] (st : LgSt R k x s) (hk1 : k + 1 ≤ 500) (hok : NtOk n) (hn : n.rows.length ≤ 1000000)
    (hE : mayL R x.hm s n ≠ 0 → Ht (isLg b x :: isRos x.ros R :: M) (K (.tuple #[.slice none 0 0, .int .i64 (mayL R x.hm s n)])))
    (hD : mayL R x.hm s n = 0 → ∀ x' ov, LgSt R (k + 1) x' (doK R x.hm s n).1 → x'.ros = x.ros → x'.hm = x.hm → One1 ov → Ht (isOuts ov (doK R x.hm s n).2 :: isLg b x' :: isRos x.ros R :: M) (K (.tuple #[ov, .int .i64 0]))) :
    Ht L (CCall Tryz.prog 17 [.pointer (some ⟨b, 0, none⟩), ntV n rv] K) := by
  refine Ht.conseq (L' := isLg b x :: isRos x.ros R :: M) ?_ (fun w s => seps_mono (fun _ a => a) (fun _ t => pr.h _ _ t) (pl.h _ _ s))
  have hrs : ∀ (M' : List HP) [fr : Frm M' M], RdE M' encRw rv n.rows := fun M' fr => ⟨fun w t => rs.h w (fr.h _ _ t)⟩
  refine Ht.know (p := One1 rv) (fun w t => one1_of (rs.h w t.tail.tail)) (fun orv => ?_)
  refine ccall2 Tryz.func17 rfl (by decide) Tryz.ntmps17 (by rfl) (by decide) ?_
  repeat (refine stp ?_)
  intro c3
  repeat (refine stp ?_)
  refine May_spec (x := x) (R := R) (n := n) (rv := rv) st hok hn ?_
  repeat (refine stp ?_)
  by_cases h0 : mayL R x.hm s n ≠ 0
  · rewrite [decide_eq_true h0]
    repeat (refine stp ?_)
    exact ret2 rfl (Ht.frm (hE h0))
  rewrite [decide_eq_false h0]
  have h0 : mayL R x.hm s n = 0 := Decidable.not_not.1 h0
  have hD := hD h0
  repeat (refine stp ?_)
  refine ht_draw Tryz.can17x4 Tryz.mixed (by kernel_rfl) ?_
  repeat (refine stp ?_)
  refine deeds_spec fun r => ?_
  repeat (refine stp ?_)
  rcases kind_c (may_note h0).1 with hk | hk | hk | hk | hk | hk | hk | hk | hk | hk | hk | hk
  · rewrite [show (mget deedsM n.kind).getD (.agg #[.nilFunc, .nilFunc]) = deedV 119 120 from by rw [hk]; rfl]
    repeat (refine stp ?_)
    refine accept_spec (x := x) (R := R) (n := n) (rv := rv) st orv hk1 hok h0 hk fun x' ov st' hr' hh' oov => ?_
    repeat (refine stp ?_)
    exact ret2 rfl (Ht.frm (hD x' ov st' hr' hh' oov))
  · rewrite [show (mget deedsM n.kind).getD (.agg #[.nilFunc, .nilFunc]) = deedV 121 122 from by rw [hk]; rfl]
    repeat (refine stp ?_)
    refine cut_spec (x := x) (R := R) (n := n) (rv := rv) st orv hk1 hok h0 hk fun x' ov st' hr' hh' oov => ?_
    repeat (refine stp ?_)
    exact ret2 rfl (Ht.frm (hD x' ov st' hr' hh' oov))
  · rewrite [show (mget deedsM n.kind).getD (.agg #[.nilFunc, .nilFunc]) = deedV 123 124 from by rw [hk]; rfl]
    repeat (refine stp ?_)
    refine price_spec (x := x) (R := R) (n := n) (rv := rv) st orv hk1 hok h0 hk fun x' ov st' hr' hh' oov => ?_
    repeat (refine stp ?_)
    exact ret2 rfl (Ht.frm (hD x' ov st' hr' hh' oov))
  · rewrite [show (mget deedsM n.kind).getD (.agg #[.nilFunc, .nilFunc]) = deedV 125 126 from by rw [hk]; rfl]
    repeat (refine stp ?_)
    refine settle_spec (x := x) (R := R) (n := n) (rv := rv) st orv hk1 hok h0 hk fun x' ov st' hr' hh' oov => ?_
    repeat (refine stp ?_)
    exact ret2 rfl (Ht.frm (hD x' ov st' hr' hh' oov))
  · rewrite [show (mget deedsM n.kind).getD (.agg #[.nilFunc, .nilFunc]) = deedV 127 128 from by rw [hk]; rfl]
    repeat (refine stp ?_)
    refine post_spec (x := x) (R := R) (n := n) (rv := rv) st orv hk1 hok h0 hk fun x' ov st' hr' hh' oov => ?_
    repeat (refine stp ?_)
    exact ret2 rfl (Ht.frm (hD x' ov st' hr' hh' oov))
  · rewrite [show (mget deedsM n.kind).getD (.agg #[.nilFunc, .nilFunc]) = deedV 129 130 from by rw [hk]; rfl]
    repeat (refine stp ?_)
    refine call_spec (x := x) (R := R) (n := n) (rv := rv) st orv hk1 hok h0 hk fun x' ov st' hr' hh' oov => ?_
    repeat (refine stp ?_)
    exact ret2 rfl (Ht.frm (hD x' ov st' hr' hh' oov))
  · rewrite [show (mget deedsM n.kind).getD (.agg #[.nilFunc, .nilFunc]) = deedV 131 132 from by rw [hk]; rfl]
    repeat (refine stp ?_)
    refine answer_spec (x := x) (R := R) (n := n) (rv := rv) st orv hk1 hok h0 hk fun x' ov st' hr' hh' oov => ?_
    repeat (refine stp ?_)
    exact ret2 rfl (Ht.frm (hD x' ov st' hr' hh' oov))
  · rewrite [show (mget deedsM n.kind).getD (.agg #[.nilFunc, .nilFunc]) = deedV 133 134 from by rw [hk]; rfl]
    repeat (refine stp ?_)
    refine stop_spec (x := x) (R := R) (n := n) (rv := rv) st orv hk1 hok h0 hk fun x' ov st' hr' hh' oov => ?_
    repeat (refine stp ?_)
    exact ret2 rfl (Ht.frm (hD x' ov st' hr' hh' oov))
  · rewrite [show (mget deedsM n.kind).getD (.agg #[.nilFunc, .nilFunc]) = deedV 135 136 from by rw [hk]; rfl]
    repeat (refine stp ?_)
    refine leg_spec (x := x) (R := R) (n := n) (rv := rv) st orv hk1 hok h0 hk fun x' ov st' hr' hh' oov => ?_
    repeat (refine stp ?_)
    exact ret2 rfl (Ht.frm (hD x' ov st' hr' hh' oov))
  · rewrite [show (mget deedsM n.kind).getD (.agg #[.nilFunc, .nilFunc]) = deedV 137 138 from by rw [hk]; rfl]
    repeat (refine stp ?_)
    refine mark_spec (x := x) (R := R) (n := n) (rv := rv) st orv hk1 hok h0 hk fun x' ov st' hr' hh' oov => ?_
    repeat (refine stp ?_)
    exact ret2 rfl (Ht.frm (hD x' ov st' hr' hh' oov))
  · rewrite [show (mget deedsM n.kind).getD (.agg #[.nilFunc, .nilFunc]) = deedV 139 140 from by rw [hk]; rfl]
    repeat (refine stp ?_)
    refine report_spec (x := x) (R := R) (n := n) (rv := rv) st orv hk1 hok h0 hk fun x' ov st' hr' hh' oov => ?_
    repeat (refine stp ?_)
    exact ret2 rfl (Ht.frm (hD x' ov st' hr' hh' oov))
  · rewrite [show (mget deedsM n.kind).getD (.agg #[.nilFunc, .nilFunc]) = deedV 141 142 from by rw [hk]; rfl]
    repeat (refine stp ?_)
    refine halt_spec (x := x) (R := R) (n := n) (rv := rv) st orv hk1 hok h0 hk fun x' ov st' hr' hh' oov => ?_
    repeat (refine stp ?_)
    exact ret2 rfl (Ht.frm (hD x' ov st' hr' hh' oov))
end Go.Proofs

set_option linter.all false
set_option maxRecDepth 20000
set_option synthInstance.maxSize 100000
set_option synthInstance.maxHeartbeats 400000
namespace Go.Proofs
open Go Go.SL

/-! ### the chapter's example, plain -/
def usB : ByteArray := ⟨#[85, 83, 48, 51, 55, 56, 51, 51, 49, 48, 48, 53]⟩
def alfK : ByteArray := ⟨#[97, 108, 102, 97]⟩
def betK : ByteArray := ⟨#[98, 101, 116, 97]⟩
def Rk : Ros := ⟨2, [usB], [(alfK, 0), (betK, 1)]⟩
def trK : Td := ⟨1, alfK, betK, usB, 10, 5⟩
def nK1 : Nt := ntK 1 0 0 trK [] 0 0
def nK2 : Nt := ntK 2 0 0 noTd [] 0 0
def nK3 : Nt := ntK 10 1 1 noTd [] 0 0
def nK4 : Nt := ntK 11 1 1 noTd [(usB, 10)] (wHi (-50)) (wLo (-50))
def sK0 : Lg := lg0 2
def sK1 : Lg := (doK Rk 0 sK0 nK1).1
def sK2 : Lg := (doK Rk 0 sK1 nK2).1
def sK3 : Lg := (doK Rk 0 sK2 nK3).1
def sK4 : Lg := (doK Rk 0 sK3 nK4).1
theorem kR : rosE Rk = 0 := by decide
theorem kE1 : mayL Rk 0 sK0 nK1 = 0 := by decide
theorem kE2 : mayL Rk 0 sK1 nK2 = 0 := by decide
theorem kE3 : mayL Rk 0 sK2 nK3 = 0 := by decide
theorem kE4 : mayL Rk 0 sK3 nK4 = 0 := by decide
theorem kO1 : (doK Rk 0 sK0 nK1).2 = [(1, ntK 9 0 1 trK [] 0 0)] := rfl
theorem kO2 : (doK Rk 0 sK1 nK2).2 = [(1, ntK 10 0 1 noTd [] 0 0)] := rfl
theorem kO3 : (doK Rk 0 sK2 nK3).2 = [(1, ntK 11 0 1 noTd [(usB, -10)] (wHi 50) (wLo 50))] := by kernel_rfl
theorem kS : agrS 0 sK4 1 1 = true := by kernel_rfl
theorem kI : agrI 0 sK4 1 1 = true := by kernel_rfl
end Go.Proofs

set_option linter.all false
set_option maxRecDepth 20000
set_option synthInstance.maxSize 100000
set_option synthInstance.maxHeartbeats 400000
namespace Go.Proofs
open Go Go.SL
attribute [local irreducible] CCall CO CC CX CD

/-! ### law 25: known -/
theorem one_ls {ls : List OutL} {o : Int × Nt} (h : ls.map Prod.fst = [o]) : ∃ sv, ls = [(o, sv)] := by
  cases ls with
  | nil => cases h
  | cons a l =>
    cases l with
    | cons b l => cases h
    | nil =>
      obtain ⟨a1, a2⟩ := a
      simp at h
      exact ⟨a2, by rw [h]⟩
theorem nKok1 : NtOk nK1 := ⟨by decide, by decide, by decide, by decide, by decide, by decide, by decide, by decide, by decide, by decide, by decide, by decide, by decide, fun r hr => (by cases hr)⟩
theorem nKok2 : NtOk nK2 := ⟨by decide, by decide, by decide, by decide, by decide, by decide, by decide, by decide, by decide, by decide, by decide, by decide, by decide, fun r hr => (by cases hr)⟩
theorem nKok3 : NtOk nK3 := ⟨by decide, by decide, by decide, by decide, by decide, by decide, by decide, by decide, by decide, by decide, by decide, by decide, by decide, fun r hr => (by cases hr)⟩
theorem nKok4 : NtOk nK4 := ⟨by decide, by decide, by decide, by decide, by decide, by decide, by decide, by decide, by decide, by decide, by decide, by decide, by decide, fun r hr => by
  have hr : r ∈ [(usB, (10 : Int))] := hr
  rw [List.mem_singleton.1 hr]; exact ⟨by decide, by decide⟩⟩
instance instInhNtL : Inhabited Nt := ⟨ntK 0 0 0 noTd [] 0 0⟩
local instance {α : Type} {a : α} {l : List α} : InB 0 (a :: l).length := ⟨by simp⟩
local instance {α : Type} {a : α} {l : List α} : IxB 0 (a :: l).length := ⟨by simp⟩
theorem hot_one {o : Int × Nt} {sv : SVy} {R : List HP} {G : World → Prop} (h : Ht (own encRw 109 (svY sv) o.2.rows :: R) G) : Ht (bigO hOt [(o, sv)] :: R) G := fun w t => by
  have t2 : seps (hOt (o, sv) :: bigO hOt [] :: R) (envOf w) (fun b => w.heap[b]?) := (bigO_split (l1 := [])).1 t
  exact h w (seps_mono (fun _ a => a) (fun _ t => bigO_nil.1 t) t2)
def famK5 : List (List CanIt) := [[.q 0, .q 1, .q 2, .q 3, .q 4, .q 5, .q 6, .q 7, .q 8, .q 9, .q 10, .x 11 [], .q 12, .q 13, .q 14, .x 15 [0, 1, 2, 3, 4, 5, 6, 7, 8, 9, 10, 12, 13, 14], .x 16 [14], .q 17], [.q 0, .q 1, .q 2, .q 3, .q 4, .q 5, .q 6, .q 7, .q 8, .q 9, .q 10, .x 15 [0, 1, 2, 3, 4, 5, 6, 7, 8, 9, 10], .x 11 [], .q 12, .q 13, .q 14, .x 16 [14], .q 17]]
theorem kRw64 : rows64 [(usB, (-10 : Int))] := fun r hr => by rw [List.mem_singleton.1 hr]; decide
theorem kRight : RightP [(usB, (-10 : Int))] ∧ fitW (0 - 50) ∧ ∀ r ∈ [(usB, (-10 : Int))], fit64 (0 - r.2) := by
  refine ⟨⟨List.pairwise_singleton _ _, fun r hr => ?_⟩, by decide, fun r hr => ?_⟩
  · rw [List.mem_singleton.1 hr]; rfl
  · rw [List.mem_singleton.1 hr]; unfold fit64; decide
theorem known25_spec {L K} (h : Ht L (K (.bool true))) : Ht L (CCall Tryz.prog 8 [] K) := by
  refine ccall0 Tryz.func8 rfl (by decide) Tryz.ntmps8 (by rfl) (by decide) ?_
  repeat (refine stp ?_)
  intro b1
  repeat (refine stp ?_)
  intro b2
  repeat (refine stp ?_)
  refine Ht.own_lit encRw (b := b2) (n := 2) (xs := [(alfK, 0), (betK, 1)]) rfl rfl (by decide) ?_
  refine Ht.own_lit SL.encStr (b := b1) (n := 1) (xs := [usB]) rfl rfl (by decide) ?_
  refine RNew_spec (R := Rk) (fun hh => absurd kR hh) (fun _ hok p => ?_)
  repeat (refine stp ?_)
  refine LNew_spec (p := p) (R := Rk) (hm := 0) (fun hh => absurd hh (by decide)) (fun _ _ b x0 st0 hr0 hh0 => ?_)
  repeat (refine stp ?_)
  try rewrite [show decide ((0 : Int) ≠ 0) = false from rfl]
  repeat (refine stp ?_)
  intro c6
  repeat (refine stp ?_)
  subst hr0
  have st0 : LgSt Rk 0 x0 sK0 := st0
  refine Apply_spec (x := x0) (R := Rk) (n := nK1) (rv := .slice none 0 0) st0 (by decide) nKok1 (by decide) (fun hh => absurd (by rw [hh0]; exact kE1) hh) (fun _ x1 ov1 st1 hr1 hh1 oov1 => ?_)
  rw [hh0] at st1 hh1
  rewrite [hh0, kO1, ← hr1]
  refine outs_open fun ls1 _ hls1 => ?_
  obtain ⟨sv1, rfl⟩ := one_ls hls1
  have st1 : LgSt Rk 1 x1 sK1 := st1
  repeat (refine stp ?_)
  refine Ht.conseq (L' := isLg b x1 :: isRos x1.ros Rk :: own encOt 69 ov1 [((1, ntK 9 0 1 trK [] 0 0), sv1)] :: L) ?_ (fun w t => (inferInstance : Frm _ _).h _ _ t)
  refine Apply_spec (x := x1) (R := Rk) (n := nK2) (rv := .slice none 0 0) st1 (by decide) nKok2 (by decide) (fun hh => absurd (by rw [hh1]; exact kE2) hh) (fun _ x2 ov2 st2 hr2 hh2 oov2 => ?_)
  rw [hh1] at st2 hh2
  rewrite [hh1, kO2, ← hr2]
  refine outs_open fun ls2 _ hls2 => ?_
  obtain ⟨sv2, rfl⟩ := one_ls hls2
  have st2 : LgSt Rk 2 x2 sK2 := st2
  repeat (refine stp ?_)
  refine Ht.conseq (L' := isLg b x2 :: isRos x2.ros Rk :: own encOt 69 ov2 [((1, ntK 10 0 1 noTd [] 0 0), sv2)] :: own encOt 69 ov1 [((1, ntK 9 0 1 trK [] 0 0), sv1)] :: L) ?_ (fun w t => (inferInstance : Frm _ _).h _ _ t)
  refine Apply_spec (x := x2) (R := Rk) (n := nK3) (rv := .slice none 0 0) st2 (by decide) nKok3 (by decide) (fun hh => absurd (by rw [hh2]; exact kE3) hh) (fun _ x3 ov3 st3 hr3 hh3 oov3 => ?_)
  rw [hh2] at st3 hh3
  rewrite [hh2, kO3, ← hr3]
  refine outs_open fun ls3 _ hls3 => ?_
  obtain ⟨sv3, rfl⟩ := one_ls hls3
  have st3 : LgSt Rk 3 x3 sK3 := st3
  refine Ht.conseq (L' := bigO hOt [(((1 : Int), ntK 11 0 1 noTd [(usB, -10)] (wHi 50) (wLo 50)), sv3)] :: own encOt 69 ov3 [((1, ntK 11 0 1 noTd [(usB, -10)] (wHi 50) (wLo 50)), sv3)] :: isLg b x3 :: isRos x3.ros Rk :: own encOt 69 ov2 [((1, ntK 10 0 1 noTd [] 0 0), sv2)] :: own encOt 69 ov1 [((1, ntK 9 0 1 trK [] 0 0), sv1)] :: L) ?_ (fun w t => (inferInstance : Frm _ _).h _ _ t)
  refine hot_one ?_
  refine Ht.know (p := sv3.2.1 = 1) (fun w t => ?_) (fun hs3 => ?_)
  · obtain ⟨ad, c, hv, _, _⟩ := sliceIn_of (own_sat t)
    unfold svY at hv
    exact (Value.slice.inj hv).2.1
  obtain ⟨o1, ho1⟩ : ∃ o : OutL, o = ((1, ntK 9 0 1 trK [] 0 0), sv1) := ⟨_, rfl⟩
  obtain ⟨o2, ho2⟩ : ∃ o : OutL, o = ((1, ntK 10 0 1 noTd [] 0 0), sv2) := ⟨_, rfl⟩
  obtain ⟨o3, ho3⟩ : ∃ o : OutL, o = ((1, ntK 11 0 1 noTd [(usB, -10)] (wHi 50) (wLo 50)), sv3) := ⟨_, rfl⟩
  have a11 : o1.1.1 = 1 := by rw [ho1]
  have a12 : o1.1.2.kind = 9 := by rw [ho1]; rfl
  have a22 : o2.1.2.kind = 10 := by rw [ho2]; rfl
  have a32 : o3.2 = sv3 := by rw [ho3]
  have a33 : o3.1.2.hi = wHi 50 ∧ o3.1.2.lo = wLo 50 := by rw [ho3]; exact ⟨rfl, rfl⟩
  rewrite [← ho1, ← ho2, ← ho3]
  show Ht (own encRw 109 (svY sv3) [(usB, -10)] :: _) _
  repeat (refine stp ?_)
  rewrite [show decide ((([o1] : List OutL).length : Int) ≠ 1) = false from rfl]
  repeat (refine stp ?_)
  rewrite [show ([o1] : List OutL)[0]! = o1 from rfl, show decide (o1.1.1 ≠ 1) = false from by rw [a11]; rfl]
  repeat (refine stp ?_)
  rewrite [show ([o1] : List OutL)[0]! = o1 from rfl, show decide (o1.1.2.kind ≠ 9) = false from by rw [a12]; rfl]
  repeat (refine stp ?_)
  rewrite [show decide ((([o2] : List OutL).length : Int) ≠ 1) = false from rfl]
  repeat (refine stp ?_)
  rewrite [show ([o2] : List OutL)[0]! = o2 from rfl, show decide (o2.1.2.kind ≠ 10) = false from by rw [a22]; rfl]
  repeat (refine stp ?_)
  rewrite [show decide ((([o3] : List OutL).length : Int) ≠ 1) = false from rfl]
  repeat (refine stp ?_)
  unfold svY
  rewrite [show ([o3] : List OutL)[0]! = o3 from rfl, a32, show decide ((sv3.2.1 : Int) ≠ 1) = false from by rw [hs3]; rfl]
  repeat (refine stp ?_)
  rewrite [show ([o3] : List OutL)[0]! = o3 from rfl, a32]
  repeat (refine stp ?_)
  rewrite [show decide ((([(usB, (-10 : Int))] : Rows)[0]!).2 ≠ -10) = false from rfl]
  repeat (refine stp ?_)
  subst ho3
  refine ht_cutd .normal (ι := Nat × Value) (fun y => One1 y.2) (fun y => pto y.1 (cells [y.2, .int .i64 (wHi (0 - 50)), .int .u64 (wLo (0 - 50))] 55) :: own encRw 109 y.2 (negL [(usB, -10)]) :: isLg b x3 :: isRos x3.ros Rk :: L) (fun y => [(13, .pointer (some ⟨y.1, 0, none⟩)), (4, .pointer (some ⟨b, 0, none⟩))]) ?_ ?_
  · intro Q' hQ
    refine ht_drawG [11, 15, 16] famK5 Tryz.mixed (by kernel_rfl) ?_
    intro π hπ
    simp only [famK5, List.mem_cons, List.mem_nil_iff, or_false] at hπ
    rcases hπ with rfl | rfl
    · repeat (refine stp ?_)
      refine AOpp_why (rv := .slice sv3.1 sv3.2.1 sv3.2.2) (l := [(usB, -10)]) (c := 50) (by decide) (by decide) kRw64 (fun e he hno => absurd kRight hno) (fun v' ov' _ _ _ => ?_)
      repeat (refine stp ?_)
      intro c13
      repeat (refine stp ?_)
      exact cx_env inferInstance (Ht.frm (hQ (c13, v') ov'))
    · repeat (refine stp ?_)
      intro c13
      repeat (refine stp ?_)
      refine AOpp_why (rv := .slice sv3.1 sv3.2.1 sv3.2.2) (l := [(usB, -10)]) (c := 50) (by decide) (by decide) kRw64 (fun e he hno => absurd kRight hno) (fun v' ov' _ _ _ => ?_)
      repeat (refine stp ?_)
      exact cx_env inferInstance (Ht.frm (hQ (c13, v') ov'))
  intro ⟨c13, v4⟩ ov4
  dsimp only at ov4 ⊢
  rewrite [show (0 : Int) - 50 = -50 from rfl, show negL [(usB, (-10 : Int))] = [(usB, 10)] from by unfold negL negR; simp [fit64]]
  repeat (refine stp ?_)
  refine Apply_spec (x := x3) (R := Rk) (n := nK4) (rv := v4) st3 (by decide) nKok4 (by decide) (fun hh => absurd (by rw [hh3]; exact kE4) hh) (fun _ x4 ov5 st4 hr4 hh4 oov4 => ?_)
  rw [hh3] at st4 hh4
  rewrite [← hr4]
  have st4 : LgSt Rk 4 x4 sK4 := st4
  repeat (refine stp ?_)
  try rewrite [show decide ((0 : Int) = 0) = true from rfl]
  repeat (refine stp ?_)
  refine Reconciled_spec (x := x4) (R := Rk) st4 ?_
  rewrite [hh4, kS]
  repeat (refine stp ?_)
  refine Broken_spec (x := x4) (R := Rk) st4 ?_
  rewrite [hh4, kS, kI, show (true && !true) = false from rfl]
  repeat (refine stp ?_)
  try rewrite [show (!false) = true from rfl]
  repeat (refine stp ?_)
  exact ret1 rfl (Ht.frm h)
end Go.Proofs

set_option linter.all false
set_option maxRecDepth 20000
set_option synthInstance.maxSize 100000
set_option synthInstance.maxHeartbeats 400000
namespace Go.Proofs
open Go Go.SL
attribute [local irreducible] CCall CO CC CX CD

/-! ### ledger: a nil one -/
theorem party_nil {L K} {n : Int} (h : Ht L (K (.pointer none))) : Ht L (CCall Tryz.prog 70 [.pointer none, .int .i64 n] K) := by
  refine ccall2 Tryz.func70 rfl (by decide) Tryz.ntmps70 (by rfl) (by decide) ?_
  repeat (refine stp ?_)
  exact ret1 rfl (Ht.frm h)
theorem peer_nil {L K} {n : Int} (h : Ht L (K (.pointer none))) : Ht L (CCall Tryz.prog 68 [.pointer none, .int .i64 n] K) := by
  refine ccall2 Tryz.func68 rfl (by decide) Tryz.ntmps68 (by rfl) (by decide) ?_
  repeat (refine stp ?_)
  exact ret1 rfl (Ht.frm h)
theorem Ended_nil {L K} {n : Int} (h : Ht L (K (.int .i64 0))) : Ht L (CCall Tryz.prog 28 [.pointer none, .int .i64 n] K) := by
  refine ccall2 Tryz.func28 rfl (by decide) Tryz.ntmps28 (by rfl) (by decide) ?_
  repeat (refine stp ?_)
  refine party_nil ?_
  repeat (refine stp ?_)
  exact ret1 rfl (Ht.frm h)
theorem Day_nil {L K} (h : Ht L (K (.int .i64 0))) : Ht L (CCall Tryz.prog 10 [.pointer none] K) := by
  refine ccall1 Tryz.func10 rfl (by decide) Tryz.ntmps10 (by rfl) (by decide) ?_
  repeat (refine stp ?_)
  exact ret1 rfl (Ht.frm h)
theorem Compl_nil {L K} {n : Int} {v : Value} (h : Ht L (K (.bool false))) : Ht L (CCall Tryz.prog 22 [.pointer none, .int .i64 n, v] K) := by
  refine ccall3 Tryz.func22 rfl (by decide) Tryz.ntmps22 (by rfl) (by decide) ?_
  repeat (refine stp ?_)
  exact ret1 rfl (Ht.frm h)
theorem LgNames_nil {L K} (h : Ht L (K (.slice none 0 0))) : Ht L (CCall Tryz.prog 20 [.pointer none] K) := by
  refine ccall1 Tryz.func20 rfl (by decide) Tryz.ntmps20 (by rfl) (by decide) ?_
  repeat (refine stp ?_)
  exact ret1 rfl (Ht.frm h)
theorem between_nil {L K} {s : ByteArray} {n m : Int} (h : Ht L (K (.tuple #[nilH, .int .i64 10]))) : Ht L (CCall Tryz.prog 67 [.pointer none, .string s, .int .i64 n, .int .i64 m] K) := by
  refine ccall4 Tryz.func67 rfl (by decide) Tryz.ntmps67 (by rfl) (by decide) ?_
  repeat (refine stp ?_)
  intro c
  repeat (refine stp ?_)
  exact retct rfl (Ht.frm h)
theorem By_nil {L K} {s : ByteArray} {n : Int} (h : Ht L (K (.tuple #[nilH, .int .i64 10]))) : Ht L (CCall Tryz.prog 21 [.pointer none, .string s, .int .i64 n] K) := by
  refine ccall3 Tryz.func21 rfl (by decide) Tryz.ntmps21 (by rfl) (by decide) ?_
  repeat (refine stp ?_)
  intro c
  repeat (refine stp ?_)
  refine between_nil ?_
  repeat (refine stp ?_)
  exact retct rfl (Ht.frm h)
theorem Between_nil {L K} {s : ByteArray} {n m : Int} (h : Ht L (K (.tuple #[nilH, .int .i64 10]))) : Ht L (CCall Tryz.prog 24 [.pointer none, .string s, .int .i64 n, .int .i64 m] K) := by
  refine ccall4 Tryz.func24 rfl (by decide) Tryz.ntmps24 (by rfl) (by decide) ?_
  repeat (refine stp ?_)
  intro c
  repeat (refine stp ?_)
  refine between_nil ?_
  repeat (refine stp ?_)
  exact retct rfl (Ht.frm h)
theorem Total_nil {L K} (h : Ht L (K (.tuple #[nilH, .int .i64 10]))) : Ht L (CCall Tryz.prog 14 [.pointer none] K) := by
  refine ccall1 Tryz.func14 rfl (by decide) Tryz.ntmps14 (by rfl) (by decide) ?_
  repeat (refine stp ?_)
  intro c
  repeat (refine stp ?_)
  exact retct rfl (Ht.frm h)
theorem agreed_nil {L K} {n m : Int} (h : Ht L (K (.tuple #[.bool false, .bool false]))) : Ht L (CCall Tryz.prog 76 [.pointer none, .int .i64 n, .int .i64 m] K) := by
  refine ccall3 Tryz.func76 rfl (by decide) Tryz.ntmps76 (by rfl) (by decide) ?_
  repeat (refine stp ?_)
  refine peer_nil ?_
  repeat (refine stp ?_)
  exact ret2 rfl (Ht.frm h)
theorem Reconciled_nil {L K} {n m : Int} (h : Ht L (K (.bool false))) : Ht L (CCall Tryz.prog 29 [.pointer none, .int .i64 n, .int .i64 m] K) := by
  refine ccall3 Tryz.func29 rfl (by decide) Tryz.ntmps29 (by rfl) (by decide) ?_
  repeat (refine stp ?_)
  refine agreed_nil ?_
  repeat (refine stp ?_)
  exact ret1 rfl (Ht.frm h)
theorem Broken_nil {L K} {n m : Int} (h : Ht L (K (.bool false))) : Ht L (CCall Tryz.prog 30 [.pointer none, .int .i64 n, .int .i64 m] K) := by
  refine ccall3 Tryz.func30 rfl (by decide) Tryz.ntmps30 (by rfl) (by decide) ?_
  repeat (refine stp ?_)
  refine agreed_nil ?_
  repeat (refine stp ?_)
  exact ret1 rfl (Ht.frm h)
theorem Prices_nil {L K} {n m : Int} (h : Ht L (K (.tuple #[.pointer none, .int .i64 10]))) : Ht L (CCall Tryz.prog 25 [.pointer none, .int .i64 n, .int .i64 m] K) := by
  refine ccall3 Tryz.func25 rfl (by decide) Tryz.ntmps25 (by rfl) (by decide) ?_
  repeat (refine stp ?_)
  refine party_nil ?_
  repeat (refine stp ?_)
  exact ret2 rfl (Ht.frm h)
theorem Settled_nil {L K} (h : Ht L (K (.int .i64 0))) : Ht L (CCall Tryz.prog 13 [.pointer none] K) := by
  refine ccall1 Tryz.func13 rfl (by decide) Tryz.ntmps13 (by rfl) (by decide) ?_
  repeat (refine stp ?_)
  exact ret1 rfl (Ht.frm h)
theorem LgShut_nil {L K} {n : Int} (h : Ht L (K (.bool false))) : Ht L (CCall Tryz.prog 31 [.pointer none, .int .i64 n] K) := by
  refine ccall2 Tryz.func31 rfl (by decide) Tryz.ntmps31 (by rfl) (by decide) ?_
  repeat (refine stp ?_)
  refine peer_nil ?_
  repeat (refine stp ?_)
  exact ret1 rfl (Ht.frm h)
theorem Pledged_nil {L K} {s : ByteArray} (h : Ht L (K (nilH))) : Ht L (CCall Tryz.prog 32 [.pointer none, .string s] K) := by
  refine ccall2 Tryz.func32 rfl (by decide) Tryz.ntmps32 (by rfl) (by decide) ?_
  repeat (refine stp ?_)
  intro c
  repeat (refine stp ?_)
  exact retc rfl (Ht.frm h)
theorem Calls_nil {L K} (h : Ht L (K (.pointer none))) : Ht L (CCall Tryz.prog 33 [.pointer none] K) := by
  refine ccall1 Tryz.func33 rfl (by decide) Tryz.ntmps33 (by rfl) (by decide) ?_
  repeat (refine stp ?_)
  exact ret1 rfl (Ht.frm h)
theorem Accepted_nil {L K} (h : Ht L (K (.int .i64 0))) : Ht L (CCall Tryz.prog 12 [.pointer none] K) := by
  refine ccall1 Tryz.func12 rfl (by decide) Tryz.ntmps12 (by rfl) (by decide) ?_
  repeat (refine stp ?_)
  exact ret1 rfl (Ht.frm h)
theorem May_nil {L K} {n : Nt} {rv : Value} (orv : One1 rv) (h : Ht L (K (.int .i64 10))) : Ht L (CCall Tryz.prog 27 [.pointer none, ntV n rv] K) := by
  refine ccall2 Tryz.func27 rfl (by decide) Tryz.ntmps27 (by rfl) (by decide) ?_
  repeat (refine stp ?_)
  intro c
  repeat (refine stp ?_)
  exact ret1 rfl (Ht.frm h)
theorem Apply_nil {L K} {n : Nt} {rv : Value} (orv : One1 rv) (h : Ht L (K (.tuple #[.slice none 0 0, .int .i64 10]))) : Ht L (CCall Tryz.prog 17 [.pointer none, ntV n rv] K) := by
  refine ccall2 Tryz.func17 rfl (by decide) Tryz.ntmps17 (by rfl) (by decide) ?_
  repeat (refine stp ?_)
  intro c
  repeat (refine stp ?_)
  refine May_nil orv ?_
  repeat (refine stp ?_)
  try rewrite [show decide ((10 : Int) ≠ 0) = true from rfl]
  repeat (refine stp ?_)
  exact ret2 rfl (Ht.frm h)
theorem LNew_nil {L K} {n : Int} (h : Ht L (K (.tuple #[.pointer none, .int .i64 1]))) : Ht L (CCall Tryz.prog 26 [.pointer none, .int .i64 n] K) := by
  refine ccall2 Tryz.func26 rfl (by decide) Tryz.ntmps26 (by rfl) (by decide) ?_
  repeat (refine stp ?_)
  exact ret2 rfl h
end Go.Proofs

set_option linter.all false
set_option maxRecDepth 20000
set_option synthInstance.maxSize 100000
set_option synthInstance.maxHeartbeats 400000
namespace Go.Proofs
open Go Go.SL
attribute [local irreducible] CCall CO CC CX CD

/-! ### notes of the laws, there and back -/
instance tn40 {n : Nat} : ToNat (if (40 : Int) < (n : Int) then (40 : Int) else (n : Int)) (min n 40) := ⟨by split <;> omega⟩
instance sz40 {s : ByteArray} : SzB s (if (40 : Int) < ((s.size : Nat) : Int) then (40 : Int) else ((s.size : Nat) : Int)) := ⟨by split <;> omega⟩
def clip (s : ByteArray) : ByteArray := s.extract 0 (min s.size 40)
def clipT (t : Td) : Td := ⟨t.id, clip t.buyer, clip t.seller, clip t.isin, t.qty, t.price⟩
def clipR (r : ByteArray × Int) : ByteArray × Int := (clip r.1, r.2)
def clipN (n : Nt) : Nt := ⟨n.kind, n.peer, n.day, clipT n.tr, clip n.name, n.amount, (n.rows.take 40).map clipR, n.hi, n.lo⟩
theorem To7_spec {L K} {t : Td} (h : Ht L (K (tdV (clipT t)))) : Ht L (CCall Tryz.prog 52 [tdV t] K) := by
  refine ccall1 Tryz.func52 rfl (by decide) Tryz.ntmps52 (by rfl) (by decide) ?_
  repeat (refine stp ?_)
  intro c1
  repeat (refine stp ?_)
  intro c2
  repeat (refine stp ?_)
  refine ht_draw Tryz.can52x1 Tryz.mixed (by kernel_rfl) ?_
  repeat (refine stp ?_)
  exact retc rfl (Ht.frm h)
theorem clipSn {l : Rows} {i : Nat} (hi : i < l.length) : (l.take i).map clipR ++ [(clip (l[i]!).1, (l[i]!).2)] = (l.take (i + 1)).map clipR := by
  rw [List.take_succ, getB hi, Option.toList_some, List.map_append]; rfl
def famT9 : List (List CanIt) := [[.q 0, .q 1, .q 2, .q 3, .q 4, .q 5, .q 6, .q 7, .q 9, .q 10, .q 11, .q 12, .q 13, .q 14, .q 15, .q 16, .q 17, .q 18, .q 19, .q 20, .q 21, .q 22, .x 8 [0, 1, 2, 3, 4, 5, 9, 10, 11, 12, 13, 14, 15, 16, 17, 18, 19, 20, 21, 22], .q 23, .x 24 [0, 1, 2, 3, 4, 5, 6, 7, 9, 10, 11, 12, 13, 14, 15, 16, 17, 18, 19, 20, 21, 22, 23], .x 25 []],
  [.q 0, .q 1, .q 2, .q 3, .q 4, .q 5, .q 6, .q 7, .q 9, .q 10, .q 11, .q 12, .q 13, .q 14, .q 15, .q 16, .q 17, .q 18, .q 19, .q 20, .q 21, .q 22, .x 24 [0, 1, 2, 3, 4, 5, 6, 7, 9, 10, 11, 12, 13, 14, 15, 16, 17, 18, 19, 20, 21, 22], .x 8 [0, 1, 2, 3, 4, 5, 9, 10, 11, 12, 13, 14, 15, 16, 17, 18, 19, 20, 21, 22], .q 23, .x 25 []]]
theorem To9_spec {L K rv} {n : Nt} [rs : RdE L encRw rv n.rows] (h : ∀ v', One1 v' → Ht (own encRw 109 v' (clipN n).rows :: L) (K (ntV (clipN n) v'))) : Ht L (CCall Tryz.prog 16 [ntV n rv] K) := by
  have hrs : ∀ (M : List HP) [fr : Frm M L], RdS M rv encRw n.rows := fun M fr => ⟨fun w t => (rs.h w (fr.h _ _ t))⟩
  refine Ht.know (p := One1 rv ∧ n.rows.length ≤ 9223372036854775807) (fun w t => ⟨one1_of (rs.h w t), (rs.h w t).le⟩) (fun ⟨ov, hle⟩ => ?_)
  refine ccall1 Tryz.func16 rfl (by decide) Tryz.ntmps16 (by rfl) (by decide) ?_
  repeat (refine stp ?_)
  intro c1
  repeat (refine stp ?_)
  intro c2
  repeat (refine stp ?_)
  refine ht_cutd .normal (ι := Nat) (fun _ => True) (fun c3 => pto c3 (cells (ntC (clipN n) (.slice none 0 0)) 63) :: pto c2 (cells [.int .i64 0, .int .i64 0, .int .i64 0, .int .i64 0, .string ⟨#[]⟩, .string ⟨#[]⟩, .string ⟨#[]⟩, .int .i64 0, .int .i64 0, .string ⟨#[]⟩, .int .i64 0, .slice none 0 0, .int .i64 0, .int .u64 0] 63) :: pto c1 (cells (ntC n rv) 40) :: L) (fun c3 => [(3, .pointer (some ⟨c3, 0, none⟩)), (2, .pointer (some ⟨c2, 0, none⟩)), (1, .pointer (some ⟨c1, 0, none⟩))]) ?_ ?_
  · intro Q' hQ
    refine ht_drawG [8, 24, 25] famT9 Tryz.mixed (by kernel_rfl) ?_
    intro π hπ
    simp only [famT9, List.mem_cons, List.mem_nil_iff, or_false] at hπ
    rcases hπ with rfl | rfl
    · repeat (refine stp ?_)
      refine To7_spec (t := n.tr) ?_
      repeat (refine stp ?_)
      intro c3
      repeat (refine stp ?_)
      exact cx_env inferInstance (hQ c3 trivial)
    · repeat (refine stp ?_)
      intro c3
      repeat (refine stp ?_)
      refine To7_spec (t := n.tr) ?_
      repeat (refine stp ?_)
      exact cx_env inferInstance (hQ c3 trivial)
  intro c3 _
  repeat (refine stp ?_)
  refine ht_for (min 40 n.rows.length) (fun i (x : Value) => One1 x) (fun i x => own encRw 109 x ((n.rows.take i).map clipR) :: pto c3 (cells (ntC (clipN n) x) 63) :: pto c2 (cells [.int .i64 0, .int .i64 0, .int .i64 0, .int .i64 0, .string ⟨#[]⟩, .string ⟨#[]⟩, .string ⟨#[]⟩, .int .i64 0, .int .i64 0, .string ⟨#[]⟩, .int .i64 0, .slice none 0 0, .int .i64 0, .int .u64 0] 63) :: pto c1 (cells (ntC n rv) 40) :: L) (fun i x => [(4, .int .i64 (i : Int))]) (.slice none 0 0) [4] ⟨rfl⟩ (fun w t => own_nil.2 t) inferInstance ?_
  intro i x hil ox
  dsimp only [List.cons_append, List.nil_append]
  have htl : ((n.rows.take i).map clipR).length = i := by rw [List.length_map, List.length_take]; omega
  repeat (refine stp ?_)
  refine ht_val 3 [(37, .bool (decide (i < min 40 n.rows.length))), (4, .int .i64 (i : Int)), (3, .pointer (some ⟨c3, 0, none⟩)), (2, .pointer (some ⟨c2, 0, none⟩)), (1, .pointer (some ⟨c1, 0, none⟩))] ?_ ?_
  · intro rest Q3 hQ3
    dsimp only [List.take_succ_cons, List.take_zero, List.cons_append, List.nil_append]
    by_cases h1 : i < n.rows.length
    · rewrite [show decide ((i : Int) < (n.rows.length : Int)) = true from decide_eq_true (by omega)]
      repeat (refine stp ?_)
      refine co_leave hQ3 (SubE.cons (congrArg Value.bool ?_) inferInstance)
      exact decide_eq_decide.2 (by omega)
    · rewrite [show decide ((i : Int) < (n.rows.length : Int)) = false from decide_eq_false (by omega)]
      repeat (refine stp ?_)
      refine co_leave hQ3 (SubE.cons (congrArg Value.bool ?_) inferInstance)
      exact (decide_eq_false (by omega)).symm
  simp only [List.drop_succ_cons, List.drop_zero]
  by_cases hii : i < min 40 n.rows.length
  · rewrite [decide_eq_true hii]
    repeat (refine stp ?_)
    refine ht_draw Tryz.can16x5 Tryz.mixed (by kernel_rfl) ?_
    repeat (refine stp ?_)
    refine cd_index (xs := n.rows) (by omega) ?_
    intro hb1 hb2
    repeat (refine stp ?_)
    intro b1
    repeat (refine stp ?_)
    refine Ht.own_lit encRw (b := b1) (n := 1) (xs := [(clip (n.rows[i]!).1, (n.rows[i]!).2)]) rfl rfl (by decide) ?_
    refine co_append (e := encRw) (xs := (n.rows.take i).map clipR) (ys := [(clip (n.rows[i]!).1, (n.rows[i]!).2)]) (by rfl) (by rw [htl]; simp; omega) (by rw [htl]; simp; omega) ?_
    intro x2
    refine Ht.one1 (v := x2) ?_
    intro ox2
    rewrite [clipSn (show i < n.rows.length by omega)]
    repeat (refine stp ?_)
    exact ht_next x2 (by omega) ox2 (fun w t => (inferInstance : Frm _ _).h _ _ t) (SubE.cons (by rw [IntWalk.i64_in _ (by omega)]; rfl) inferInstance) rfl rfl
  · rewrite [decide_eq_false hii]
    have e : (n.rows.take i).map clipR = (clipN n).rows := by
      show _ = (n.rows.take 40).map clipR
      congr 1
      by_cases h40 : n.rows.length ≤ 40
      · rw [List.take_of_length_le (by omega), List.take_of_length_le h40]
      · rw [show i = 40 by omega]
    rw [e]
    repeat (refine stp ?_)
    exact retc rfl (Ht.frm (h x ox))
end Go.Proofs

set_option linter.all false
set_option maxRecDepth 20000
set_option synthInstance.maxSize 100000
set_option synthInstance.maxHeartbeats 400000
namespace Go.Proofs
open Go Go.SL
attribute [local irreducible] CCall CO CC CX CD

/-! ### law 25: LedgerNil -/
theorem LedgerNil_spec {L K rv} {n : Nt} {day : Int} [rs : RdE L encRw rv n.rows] (h : Ht L (K (.bool true))) : Ht L (CCall Tryz.prog 5 [ntV n rv, .int .i64 day] K) := by
  have hrs : ∀ (M' : List HP) [fr : Frm M' L], RdE M' encRw rv n.rows := fun M' fr => ⟨fun w t => rs.h w (fr.h _ _ t)⟩
  refine Ht.know (p := One1 rv) (fun w t => one1_of (rs.h w t)) (fun orv => ?_)
  refine ccall2 Tryz.func5 rfl (by decide) Tryz.ntmps5 (by rfl) (by decide) ?_
  repeat (refine stp ?_)
  intro c2
  repeat (refine stp ?_)
  refine To9_spec (n := n) (rv := rv) fun v' ov' => ?_
  repeat (refine stp ?_)
  refine Apply_nil ov' ?_
  repeat (refine stp ?_)
  refine By_nil ?_
  repeat (refine stp ?_)
  intro c8
  repeat (refine stp ?_)
  refine Between_nil ?_
  repeat (refine stp ?_)
  intro c10
  repeat (refine stp ?_)
  refine Total_nil ?_
  repeat (refine stp ?_)
  intro c12
  repeat (refine stp ?_)
  refine Prices_nil ?_
  repeat (refine stp ?_)
  refine LNew_nil ?_
  repeat (refine stp ?_)
  refine known25_spec ?_
  repeat (first | refine stp ?_ | rewrite [show decide ((10 : Int) = 10) = true from rfl] | rewrite [show decide ((1 : Int) = 1) = true from rfl] | rewrite [show decide ((0 : Int) = 0) = true from rfl] | rewrite [show (!false) = true from rfl])
  refine To9_spec (n := n) (rv := rv) fun v2 ov2 => ?_
  repeat (first | refine stp ?_ | rewrite [show decide ((10 : Int) = 10) = true from rfl] | rewrite [show decide ((1 : Int) = 1) = true from rfl] | rewrite [show decide ((0 : Int) = 0) = true from rfl] | rewrite [show (!false) = true from rfl])
  refine May_nil ov2 ?_
  repeat (first | refine stp ?_ | rewrite [show decide ((10 : Int) = 10) = true from rfl] | rewrite [show decide ((1 : Int) = 1) = true from rfl] | rewrite [show decide ((0 : Int) = 0) = true from rfl] | rewrite [show (!false) = true from rfl])
  refine Day_nil ?_
  repeat (first | refine stp ?_ | rewrite [show decide ((10 : Int) = 10) = true from rfl] | rewrite [show decide ((1 : Int) = 1) = true from rfl] | rewrite [show decide ((0 : Int) = 0) = true from rfl] | rewrite [show (!false) = true from rfl])
  refine Ended_nil ?_
  repeat (first | refine stp ?_ | rewrite [show decide ((10 : Int) = 10) = true from rfl] | rewrite [show decide ((1 : Int) = 1) = true from rfl] | rewrite [show decide ((0 : Int) = 0) = true from rfl] | rewrite [show (!false) = true from rfl])
  refine Compl_nil ?_
  repeat (first | refine stp ?_ | rewrite [show decide ((10 : Int) = 10) = true from rfl] | rewrite [show decide ((1 : Int) = 1) = true from rfl] | rewrite [show decide ((0 : Int) = 0) = true from rfl] | rewrite [show (!false) = true from rfl])
  refine LgNames_nil ?_
  repeat (first | refine stp ?_ | rewrite [show decide ((10 : Int) = 10) = true from rfl] | rewrite [show decide ((1 : Int) = 1) = true from rfl] | rewrite [show decide ((0 : Int) = 0) = true from rfl] | rewrite [show (!false) = true from rfl])
  refine Reconciled_nil ?_
  repeat (first | refine stp ?_ | rewrite [show decide ((10 : Int) = 10) = true from rfl] | rewrite [show decide ((1 : Int) = 1) = true from rfl] | rewrite [show decide ((0 : Int) = 0) = true from rfl] | rewrite [show (!false) = true from rfl])
  refine Broken_nil ?_
  repeat (first | refine stp ?_ | rewrite [show decide ((10 : Int) = 10) = true from rfl] | rewrite [show decide ((1 : Int) = 1) = true from rfl] | rewrite [show decide ((0 : Int) = 0) = true from rfl] | rewrite [show (!false) = true from rfl])
  refine Settled_nil ?_
  repeat (first | refine stp ?_ | rewrite [show decide ((10 : Int) = 10) = true from rfl] | rewrite [show decide ((1 : Int) = 1) = true from rfl] | rewrite [show decide ((0 : Int) = 0) = true from rfl] | rewrite [show (!false) = true from rfl])
  refine LgShut_nil ?_
  repeat (first | refine stp ?_ | rewrite [show decide ((10 : Int) = 10) = true from rfl] | rewrite [show decide ((1 : Int) = 1) = true from rfl] | rewrite [show decide ((0 : Int) = 0) = true from rfl] | rewrite [show (!false) = true from rfl])
  refine Pledged_nil ?_
  repeat (first | refine stp ?_ | rewrite [show decide ((10 : Int) = 10) = true from rfl] | rewrite [show decide ((1 : Int) = 1) = true from rfl] | rewrite [show decide ((0 : Int) = 0) = true from rfl] | rewrite [show (!false) = true from rfl])
  refine Nought_spec (l := []) (z := 0) (by decide) ?_
  rewrite [show decide (([] : Rows) = [] ∧ (0 : Int) = 0) = true from by simp]
  repeat (first | refine stp ?_ | rewrite [show decide ((10 : Int) = 10) = true from rfl] | rewrite [show decide ((1 : Int) = 1) = true from rfl] | rewrite [show decide ((0 : Int) = 0) = true from rfl] | rewrite [show (!false) = true from rfl])
  refine Calls_nil ?_
  repeat (first | refine stp ?_ | rewrite [show decide ((10 : Int) = 10) = true from rfl] | rewrite [show decide ((1 : Int) = 1) = true from rfl] | rewrite [show decide ((0 : Int) = 0) = true from rfl] | rewrite [show (!false) = true from rfl])
  refine Accepted_nil ?_
  repeat (first | refine stp ?_ | rewrite [show decide ((10 : Int) = 10) = true from rfl] | rewrite [show decide ((1 : Int) = 1) = true from rfl] | rewrite [show decide ((0 : Int) = 0) = true from rfl] | rewrite [show (!false) = true from rfl])
  exact ret1 rfl (Ht.frm h)
end Go.Proofs

set_option linter.all false
namespace Go.SL
open Go
end Go.SL

set_option linter.all false
set_option maxRecDepth 20000
set_option synthInstance.maxSize 100000
set_option synthInstance.maxHeartbeats 400000
namespace Go.Proofs
open Go Go.SL
/-! the arguments of chapter 25's laws: notes -/
def okR9 (w : World) (r : ByteArray × Int) : Prop := r.1.size ≤ maxLen ∧ wfI .i64 r.2
theorem dR9 : Dec Tryz.prog 156 encRw.f okR9 :=
  Dec.map (dec_struct Tryz.underlying156 (by kernel_rfl) (.cons (n := 1) (dec_str Tryz.underlying9) rfl (by kernel_rfl) (.cons (n := 1) (dec_int Tryz.underlying2) rfl (by kernel_rfl) .nil))) _ _ (fun a => (a.1, a.2.1)) (fun _ => rfl) (fun _ _ h => ⟨h.1, h.2.1⟩)
def fTd (t : Td) : List Value := [.int .i64 t.id, .string t.buyer, .string t.seller, .string t.isin, .int .i64 t.qty, .int .i64 t.price]
def okTd (w : World) (t : Td) : Prop := wfI .i64 t.id ∧ t.buyer.size ≤ maxLen ∧ t.seller.size ≤ maxLen ∧ t.isin.size ≤ maxLen ∧ wfI .i64 t.qty ∧ wfI .i64 t.price
theorem dTd : Dec Tryz.prog 36 fTd okTd :=
  Dec.map (dec_struct Tryz.underlying36 (by kernel_rfl) (.cons (n := 1) (dec_int Tryz.underlying2) rfl (by kernel_rfl) (.cons (n := 1) (dec_str Tryz.underlying9) rfl (by kernel_rfl) (.cons (n := 1) (dec_str Tryz.underlying9) rfl (by kernel_rfl)
    (.cons (n := 1) (dec_str Tryz.underlying9) rfl (by kernel_rfl) (.cons (n := 1) (dec_int Tryz.underlying2) rfl (by kernel_rfl) (.cons (n := 1) (dec_int Tryz.underlying2) rfl (by kernel_rfl) .nil))))))) _ _
    (fun a => ⟨a.1, a.2.1, a.2.2.1, a.2.2.2.1, a.2.2.2.2.1, a.2.2.2.2.2.1⟩) (fun _ => rfl) (fun _ _ h => ⟨h.1, h.2.1, h.2.2.1, h.2.2.2.1, h.2.2.2.2.1, h.2.2.2.2.2.1⟩)
/-- a note and the slice its rows lie in -/
abbrev NtA := Nt × Value
def fNt (b : NtA) : List Value := ntC b.1 b.2
def okNt (w : World) (b : NtA) : Prop := NtOk b.1 ∧ SlIn w b.2 encRw b.1.rows
theorem dNt : Dec Tryz.prog 40 fNt okNt :=
  Dec.map (dec_struct Tryz.underlying40 (by kernel_rfl) (.cons (n := 1) (dec_int Tryz.underlying3) rfl (by kernel_rfl) (.cons (n := 1) (dec_int Tryz.underlying3) rfl (by kernel_rfl) (.cons (n := 1) (dec_int Tryz.underlying3) rfl (by kernel_rfl)
    (.cons (n := 6) dTd rfl (by kernel_rfl) (.cons (n := 1) (dec_str Tryz.underlying9) rfl (by kernel_rfl) (.cons (n := 1) (dec_int Tryz.underlying2) rfl (by kernel_rfl) (.cons (n := 1) (dec_slice encRw Tryz.underlying37 (by kernel_rfl) dR9) rfl (by kernel_rfl)
    (.cons (n := 1) (dec_int Tryz.underlying2) rfl (by kernel_rfl) (.cons (n := 1) (dec_int Tryz.underlying38) rfl (by kernel_rfl) .nil)))))))))) _ _
    (fun a => (⟨a.1, a.2.1, a.2.2.1, a.2.2.2.1, a.2.2.2.2.1, a.2.2.2.2.2.1, a.2.2.2.2.2.2.1.2, a.2.2.2.2.2.2.2.1, a.2.2.2.2.2.2.2.2.1⟩, a.2.2.2.2.2.2.1.1)) (fun _ => rfl)
    (fun _ _ h => by
      obtain ⟨h1, h2, h3, ⟨t1, t2, t3, t4, t5, t6⟩, h5, h6, ⟨h7, h8⟩, h9, h10, _⟩ := h
      exact ⟨⟨h1, h2, h3, t1, t2, t3, t4, t5, t6, h5, h6, h9, h10, fun r hr => h8 r hr⟩, h7⟩)
theorem LedgerNil_walk {w : World} {a : NtA} {k : Int} {K} (ha : okNt w a) (h : Ht [ro w] (K (.bool true))) :
    Ht [ro w] (CCall Tryz.prog 5 [.agg (fNt a).toArray, .int .i64 k] K) := by
  haveI : RdE [ro w] encRw a.2 a.1.rows := ⟨fun w' s => SlIn.mono ha.2 (ro_le s)⟩
  exact LedgerNil_spec (n := a.1) (rv := a.2) h
end Go.Proofs
