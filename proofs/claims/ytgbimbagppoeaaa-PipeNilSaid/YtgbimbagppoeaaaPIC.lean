import Derived.Test.YtgbimbagppoeaaaPIB
set_option linter.all false
set_option synthInstance.maxSize 100000
set_option synthInstance.maxHeartbeats 400000
namespace Go.Proofs
open Go Go.SL
attribute [local irreducible] CCall CO CC CX CD

/-- a packet: kind, from, to, number, body -/
abbrev P5 := Int × Int × Int × Int × SVy
@[reducible] def encP5 : Enc P5 := ⟨5, fun r => [.int .i64 r.1, .int .i64 r.2.1, .int .i64 r.2.2.1, .int .i64 r.2.2.2.1, .slice r.2.2.2.2.1 r.2.2.2.2.2.1 r.2.2.2.2.2.2], fun _ => rfl, fun _ v h => by simp at h; rcases h with rfl | rfl | rfl | rfl | rfl <;> rfl⟩
theorem pp_sat {b : Nat} {s : PSt} {tv kv : Value} {g : List SB} {r : GR} {o : Obj} {xs : List SVy} {ys : List (Int × SVy)} {L L1 L2 L3 L4 R R' : List HP} {e : Env} {u : Hp} [p1 : Pull (pto b) L o L1] [p2 : Pull (own encY 27 tv) L1 xs L2] [p3 : Pull (bigO (ownY 5)) L2 g L3] [p4 : Pull (own enc_iy 356 kv) L3 ys L4] [p5 : Pull (bigO rown) L4 r R] [fr : Frm R R']
    (ho : o = cells [.int .i64 s.self, .int .i64 s.peer, tv, .int .i64 s.acked, .int .i64 s.next, kv] 258) (hx : xs = gsv g) (hy : ys = rvals r) (hg : gby g = s.said) (hr : rbytes r = s.kept) (hs : Srt s.kept) (sat : seps L e u) : seps (isPipe b s :: R') e u := by
  have h1 := p1.h _ _ sat
  have h2 := seps_mono (fun _ a => a) (fun _ t => p2.h _ _ t) h1
  have h3 := seps_mono (fun _ a => a) (fun _ t => seps_mono (fun _ a => a) (fun _ t => p3.h _ _ t) t) h2
  have h4 := seps_mono (fun _ a => a) (fun _ t => seps_mono (fun _ a => a) (fun _ t => seps_mono (fun _ a => a) (fun _ t => p4.h _ _ t) t) t) h3
  have h5 := seps_mono (fun _ a => a) (fun _ t => seps_mono (fun _ a => a) (fun _ t => seps_mono (fun _ a => a) (fun _ t => seps_mono (fun _ a => a) (fun _ t => p5.h _ _ t) t) t) t) h4
  subst ho; subst hx; subst hy
  refine seps_exs.2 ⟨((tv, kv), (g, r)), seps_seps.2 (seps_pur.2 ⟨⟨hg, hr, hs⟩, ?_⟩)⟩
  exact seps_mono (fun _ a => a) (fun _ t => seps_mono (fun _ a => a) (fun _ t => seps_mono (fun _ a => a) (fun _ t => seps_mono (fun _ a => a) (fun _ t => seps_mono (fun _ a => a) (fun _ t => fr.h _ _ t) t) t) t) t) h5
def pkA (self peer : Int) : Int → List SB → List P5
  | _, [] => []
  | f, x :: l => (1, self, peer, f, x.1) :: pkA self peer (f + 1) l
theorem pkA_len {self peer : Int} : ∀ {f : Int} {l : List SB}, (pkA self peer f l).length = l.length
  | _, [] => rfl
  | f, x :: l => by simp [pkA, pkA_len]
theorem pkA_snoc {self peer : Int} {x : SB} : ∀ {f : Int} {l : List SB}, pkA self peer f (l ++ [x]) = pkA self peer f l ++ [(1, self, peer, f + l.length, x.1)]
  | f, [] => by simp [pkA]
  | f, y :: l => by
    simp only [pkA, List.cons_append]
    rw [pkA_snoc, List.length_cons, show f + ((l.length + 1 : Nat) : Int) = f + 1 + l.length from by push_cast; omega]
theorem pkA_at {self peer : Int} : ∀ {f : Int} {l : List SB} {k : Nat}, k < l.length → (pkA self peer f l)[k]! = (1, self, peer, f + k, (l[k]!).1)
  | f, x :: l, 0, _ => by simp [pkA]
  | f, x :: l, k + 1, h => by
    have := pkA_at (self := self) (peer := peer) (f := f + 1) (l := l) (k := k) (by simpa using h)
    simp only [pkA, List.getElem!_cons_succ]
    rw [this, show f + ((k + 1 : Nat) : Int) = f + 1 + k from by push_cast; omega]
theorem packet_spec {L K b v} {kind n self peer : Int} {bs : List UInt8} [c0 : Cl L ⟨b, 0, none⟩ (.int .i64 self)] [c1 : Cl L ⟨b, 1, none⟩ (.int .i64 peer)] [rs : RdE L encB v bs] (hb : bs.length ≤ 1000000)
    (h : ∀ v', Ht (own encB 5 v' bs :: L) (K (.agg #[.int .i64 kind, .int .i64 self, .int .i64 peer, .int .i64 n, v']))) : Ht L (CCall Try.prog 149 [.pointer (some ⟨b, 0, none⟩), .int .i64 kind, .int .i64 n, v] K) := by
  have hc0 : ∀ (M : List HP) [fr : Frm M L], Cl M ⟨b, 0, none⟩ (.int .i64 self) := fun M fr => ⟨fun w s => c0.h w (fr.h _ _ s)⟩
  have hc1 : ∀ (M : List HP) [fr : Frm M L], Cl M ⟨b, 1, none⟩ (.int .i64 peer) := fun M fr => ⟨fun w s => c1.h w (fr.h _ _ s)⟩
  have hrs : ∀ (M : List HP) [fr : Frm M L], RdE M encB v bs := fun M fr => ⟨fun w s => rs.h w (fr.h _ _ s)⟩
  refine Ht.know (p := One1 v) (fun w s => one1_of (rs.h w s)) (fun ho => ?_)
  refine ccall4 Try.func149 rfl (by decide) Try.ntmps149 (by rfl) (by decide) ?_
  repeat (refine stp ?_)
  intro c
  repeat (refine stp ?_)
  refine ht_draw Try.can149x1 Try.mixed (by kernel_rfl) ?_
  repeat (refine stp ?_)
  refine yClone_spec (xs := bs) (by omega) ?_
  intro v1
  refine Ht.one1 (v := v1) ?_
  intro _
  repeat (refine stp ?_)
  exact retc rfl (Ht.frm (h v1))
theorem ack_spec {L R K b s} [p : Pull (isPipe b) L s R] (h : ∀ v', Ht (own encB 5 v' [] :: isPipe b s :: R) (K (.agg #[.int .i64 2, .int .i64 s.self, .int .i64 s.peer, .int .i64 s.next, v']))) : Ht L (CCall Try.prog 146 [.pointer (some ⟨b, 0, none⟩)] K) := by
  refine Ht.pull p ?_
  refine ccall1 Try.func146 rfl (by decide) Try.ntmps146 (by rfl) (by decide) ?_
  repeat (refine stp ?_)
  intro c
  repeat (refine stp ?_)
  refine PTaken_spec (b := b) (s := s) ?_
  repeat (refine stp ?_)
  refine pp_open fun tv kv g r hg hr hs hs' hgl hrl => ?_
  have hnil : ∀ M : List HP, RdE M encB (.slice none 0 0) ([] : List UInt8) := fun M => ⟨fun _ _ => .inl ⟨rfl, rfl⟩⟩
  refine packet_spec (self := s.self) (peer := s.peer) (bs := []) (by simp) ?_
  intro v1
  refine Ht.one1 (v := v1) ?_
  intro _
  repeat (refine stp ?_)
  refine retc rfl ?_
  exact pp_close (b := b) (s := s) (g := g) (r := r) (R' := own encB 5 v1 [] :: R) rfl rfl rfl hg hr hs (Ht.frm (h v1))
theorem bigO_app {β : Type} {F : β → HP} {l : List β} {x : β} {R : List HP} {w : World} (s : Sat (F x :: bigO F l :: R) w) : Sat (bigO F (l ++ [x]) :: R) w := bigO_snoc.2 s
theorem PTick_spec {L R K b s} [p : Pull (isPipe b) L s R] (ha : s.acked ≤ s.said.length) (hn : s.said.length ≤ 900000) (hb : ∀ x ∈ s.said, x.length ≤ 1000000)
    (h : ∀ v l, gby l = (s.said.take (s.acked + 16)).drop s.acked → Ht (own encP5 132 v (pkA s.self s.peer s.acked l) :: bigO (ownY 5) l :: isPipe b s :: R) (K v)) : Ht L (CCall Try.prog 67 [.pointer (some ⟨b, 0, none⟩)] K) := by
  refine Ht.pull p ?_
  refine ccall1 Try.func67 rfl (by decide) Try.ntmps67 (by rfl) (by decide) ?_
  repeat (refine stp ?_)
  refine pp_open fun tv kv g r hg hr hs hs' hgl hrl => ?_
  have hgl0 : g.length = s.said.length := by rw [← hgl]; simp [gsv]
  repeat (refine stp ?_)
  refine wy_window (a := s.acked) (l := gsv g) (by omega) (by omega) ?_
  intro wv
  refine Ht.one1 (v := wv) ?_
  intro _
  generalize hW : (g.take (s.acked + 16)).drop s.acked = W
  have hWs : ((gsv g).take (s.acked + 16)).drop s.acked = gsv W := by rw [← hW]; simp [gsv]
  have hWb : gby W = (s.said.take (s.acked + 16)).drop s.acked := by rw [← hW, ← hg]; simp [gby]
  have hWm : ∀ x ∈ W, x ∈ g := fun x hx => by rw [← hW] at hx; exact List.mem_of_mem_take (List.mem_of_mem_drop hx)
  have hWl : W.length ≤ 16 := by rw [← hW]; simp; omega
  have hWs2 := gsv_len (ms := W)
  rewrite [hWs]
  repeat (refine stp ?_)
  refine ht_for W.length (fun i (x : Value × List SB) => gby x.2 = (gby W).take i) (fun i x => own encP5 132 x.1 (pkA s.self s.peer s.acked x.2) :: bigO (ownY 5) x.2 :: own encY 27 wv (gsv W) :: pto b (cells [.int .i64 s.self, .int .i64 s.peer, tv, .int .i64 s.acked, .int .i64 s.next, kv] 258) :: own encY 27 tv (gsv g) :: bigO (ownY 5) g :: own enc_iy 356 kv (rvals r) :: bigO rown r :: R) (fun i x => [(20, .int .i64 i), (3, x.1)]) (.slice none 0 0, []) [20, 3] (by simp [gby]) (fun w t => own_nil.2 ((bigO_nil (f := ownY 5)).2 ((inferInstance : Frm _ (own encY 27 wv (gsv W) :: pto b (cells [.int .i64 s.self, .int .i64 s.peer, tv, .int .i64 s.acked, .int .i64 s.next, kv] 258) :: own encY 27 tv (gsv g) :: bigO (ownY 5) g :: own enc_iy 356 kv (rvals r) :: bigO rown r :: R)).h _ _ t))) inferInstance ?_
  intro i ⟨lv, l⟩ hi hl
  dsimp only [List.cons_append, List.nil_append] at hl ⊢
  have hll : l.length = i := by
    have := congrArg List.length hl
    rw [gby_len, List.length_take, gby_len] at this; omega
  repeat (refine stp ?_)
  refine ht_if ?_ ?_ <;> intro hc <;> simp only [decide_eq_true_eq, decide_eq_false_iff_not] at hc
  · have hii : i < W.length := by omega
    have hxm := hWm _ (List.mem_of_getElem? (getB hii))
    have hxb : (W[i]!).2.length ≤ 1000000 := hb _ (by rw [← hg]; exact List.mem_map_of_mem hxm)
    repeat (refine stp ?_)
    refine co_index (by omega) ?_
    intro hbx
    repeat (refine stp ?_)
    rewrite [gsv_at hii]
    rewrite [show IntKind.i64.wrap ((s.acked : Int) + i) = (s.acked : Int) + i from IntWalk.i64_in _ (by omega)]
    have hx1 := gby_take hii
    generalize W[i]! = x at hxm hxb hx1 ⊢
    have hmx : ∀ (M M' : List HP) [q : Pull (bigO (ownY 5)) M g M'], RdE M encB (.slice x.1.1 x.1.2.1 x.1.2.2) x.2 := fun M M' q => ⟨fun w t => bigY_at hxm (q.h _ _ t)⟩
    haveI hme : RdE (own encP5 132 lv (pkA s.self s.peer s.acked l) :: bigO (ownY 5) l :: own encY 27 wv (gsv W) :: pto b (cells [.int .i64 s.self, .int .i64 s.peer, tv, .int .i64 s.acked, .int .i64 s.next, kv] 258) :: own encY 27 tv (gsv g) :: bigO (ownY 5) g :: own enc_iy 356 kv (rvals r) :: bigO rown r :: R) encB (.slice x.1.1 x.1.2.1 x.1.2.2) x.2 := ⟨fun w t => bigY_at hxm (R := R) ((inferInstance : Frm _ (bigO (ownY 5) g :: R)).h _ _ t.tail.tail)⟩
    refine packet_spec (self := s.self) (peer := s.peer) (bs := x.2) hxb ?_
    intro v1
    refine Ht.know (p := ∃ sv : SVy, v1 = svY sv) (fun w t => own_svY t) (fun ⟨sv, e⟩ => ?_)
    subst e
    refine Ht.one1 (v := svY sv) ?_
    intro _
    repeat (refine stp ?_)
    intro b1
    repeat (refine stp ?_)
    refine Ht.own_lit encP5 (b := b1) (n := 1) (xs := [(1, s.self, s.peer, (s.acked : Int) + i, sv)]) rfl rfl (by decide) ?_
    refine co_append (e := encP5) (xs := pkA s.self s.peer s.acked l) (by rfl) (by rw [pkA_len]; simp; omega) (by rw [pkA_len]; simp; omega) ?_
    intro lv2
    refine Ht.one1 (v := lv2) ?_
    intro _
    have e3 : pkA s.self s.peer s.acked l ++ [(1, s.self, s.peer, (s.acked : Int) + i, sv)] = pkA s.self s.peer s.acked (l ++ [(sv, x.2)]) := by rw [pkA_snoc, hll]
    rewrite [e3]
    repeat (refine stp ?_)
    refine ht_next (lv2, l ++ [(sv, x.2)]) hii (by rw [hx1, ← hl]; simp [gby]) (fun w t => ?_) (SubE.cons (by rw [IntWalk.i64_in _ (by omega)]; rfl) inferInstance) rfl rfl
    have t1 : Sat (bigO (ownY 5) (l ++ [(sv, x.2)]) :: own encP5 132 lv2 (pkA s.self s.peer s.acked (l ++ [(sv, x.2)])) :: own encY 27 wv (gsv W) :: pto b (cells [.int .i64 s.self, .int .i64 s.peer, tv, .int .i64 s.acked, .int .i64 s.next, kv] 258) :: own encY 27 tv (gsv g) :: bigO (ownY 5) g :: own enc_iy 356 kv (rvals r) :: bigO rown r :: R) w := bigO_app (F := ownY 5) (x := (sv, x.2)) (l := l)
      ((inferInstance : Frm _ (own encB 5 (svY sv) x.2 :: bigO (ownY 5) l :: own encP5 132 lv2 (pkA s.self s.peer s.acked (l ++ [(sv, x.2)])) :: own encY 27 wv (gsv W) :: pto b (cells [.int .i64 s.self, .int .i64 s.peer, tv, .int .i64 s.acked, .int .i64 s.next, kv] 258) :: own encY 27 tv (gsv g) :: bigO (ownY 5) g :: own enc_iy 356 kv (rvals r) :: bigO rown r :: R)).h _ _ t)
    exact seps_swap t1
  · have e : i = W.length := by omega
    subst e
    rw [List.take_of_length_le (by rw [gby_len]; exact Nat.le_refl _), hWb] at hl
    repeat (refine stp ?_)
    refine ret1 rfl ?_
    refine Ht.conseq (L' := own encP5 132 lv (pkA s.self s.peer s.acked l) :: bigO (ownY 5) l :: isPipe b s :: R) (h lv l hl) (fun w t => ?_)
    refine seps_mono (fun _ a => a) (fun _ t => seps_mono (fun _ a => a) (fun _ t => ?_) t) t
    exact pp_sat (s := s) (g := g) (r := r) rfl rfl rfl hg hr hs t
end Go.Proofs
