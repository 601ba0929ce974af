/- The parts VLD, SLXT, VLE, JRM, VLF, VLG, VLH, VLM, VLI, VLJ, VLK, VLN, VLL, VLO, VLP, VLQ, VLR, VLS, D13P of the engine and of the walk, one behind the other: no condition. -/
import Derived.Test.YtiaiakncbgmfhaaGreatB9be47155
import Derived.Test.YtiaiakncbgmfhaaGreatB5e682aec

set_option linter.all false
set_option synthInstance.maxSize 100000
set_option synthInstance.maxHeartbeats 400000
namespace Go.Proofs
open Go Go.SL
attribute [local irreducible] CCall CO CC CX CD

/-! ### what a vault asks of its journal beyond JournalNil -/
theorem Start_spec {L R K b} {s : Jn} {n : Int} [p : Pull (isJ b) L s R] (hb : s.broken = false) (hr : s.recs = []) (hn0 : 0 ≤ n) (hn1 : n ≤ grB) (h : Ht (isJ b { s with next := n } :: R) (K (.int .i64 0))) : Ht L (CCall Tryz.prog 35 [.pointer (some ⟨b, 0, none⟩), .int .i64 n] K) := by
  refine Ht.pull p ?_
  refine ccall2 Tryz.func35 rfl (by decide) Tryz.ntmps35 (by rfl) (by decide) ?_
  repeat (refine stp ?_)
  refine Sound_spec (b := b) ?_
  rewrite [hb]
  repeat (refine stp ?_)
  refine jr_open fun kv r h1 h2 h3 h4 => ?_
  repeat (refine stp ?_)
  rewrite [Bool.not_not]
  repeat (refine stp ?_)
  refine iy_len (b := b) (xs := rvals r) ?_
  have hl : (rvals r).length = 0 := by rw [h4, hr]; rfl
  rewrite [hl]
  repeat (refine stp ?_)
  rewrite [show decide ((0 : Int) < ((0 : Nat) : Int)) = false from rfl]
  repeat (refine stp ?_)
  rewrite [show decide (n < 0) = false from decide_eq_false (by omega)]
  repeat (refine stp ?_)
  rewrite [show decide ((4611686018427387903 : Int) < n) = false from decide_eq_false (by unfold grB at hn1; omega)]
  repeat (refine stp ?_)
  exact ret1 rfl (jr_close (b := b) (s := { s with next := n }) (kv := kv) (r := r) (R' := R) (by rw [hb]) rfl h1 h2 h)
theorem JGet_spec {L R K b} {s : Jn} {n : Int} [p : Pull (isJ b) L s R] (hr : s.recs.length ≤ 800000) (hx : ∀ x ∈ s.recs, x.2.length ≤ 1000000)
    (hno : tfind n s.recs = none → Ht (isJ b s :: R) (K (.tuple #[.slice none 0 0, .int .i64 13])))
    (hyes : ∀ x, tfind n s.recs = some x → ∀ v, Ht (own encB 5 v x :: isJ b s :: R) (K (.tuple #[v, .int .i64 0]))) :
    Ht L (CCall Tryz.prog 43 [.pointer (some ⟨b, 0, none⟩), .int .i64 n] K) := by
  refine Ht.pull p (jr_open fun kv r h1 h2 h3 h4 => ?_)
  refine ccall2 Tryz.func43 rfl (by decide) Tryz.ntmps43 (by rfl) (by decide) ?_
  repeat (refine stp ?_)
  refine iy_get (b := b) (xs := rvals r) h3 (by omega) ?_
  have e1 : tfind n (rvals r) = (tfind n r).map fun x => x.1 := ktfind_map (fun x : SB => x.1) n r
  have e2 : tfind n s.recs = (tfind n r).map fun x => x.2 := by rw [← h1]; exact ktfind_map (fun x : SB => x.2) n r
  cases hf : tfind n r with
  | none =>
    rw [hf] at e1 e2
    rewrite [show thas n (rvals r) = false from by unfold thas; rw [e1]; rfl]
    repeat (refine stp ?_)
    exact ret2 rfl (jr_close (b := b) (s := s) (kv := kv) (r := r) (R' := R) rfl rfl h1 h2 (hno e2))
  | some x =>
    rw [hf] at e1 e2
    have hmem : (n, x) ∈ r := List.mem_of_getElem? (tfind_some hf)
    have hxl : x.2.length ≤ 1000000 := hx (n, x.2) (by rw [← h1]; exact List.mem_map_of_mem (f := fun x : Int × SB => (x.1, x.2.2)) hmem)
    have hrx := rown_at hmem
    rewrite [show thas n (rvals r) = true from by unfold thas; rw [e1]; rfl, e1]
    simp only [Option.map_some, Option.getD_some]
    rw [show (Value.slice x.1.1 x.1.2.1 x.1.2.2) = svY x.1 from rfl]
    repeat (refine stp ?_)
    refine yClone_spec (xs := x.2) (by omega) ?_
    intro v
    refine Ht.one1 (v := v) ?_
    intro _
    repeat (refine stp ?_)
    refine ret2 rfl ?_
    refine jr_close (b := b) (s := s) (kv := kv) (r := r) (R' := own encB 5 v x.2 :: R) rfl rfl h1 h2 ?_
    exact Ht.frm (hyes x.2 e2 v)

/-! ### a vault in the heap -/
def vF : SB → HP := ownY 5
def isV (b : Nat) (s : Vt) : HP := exs fun (p : Nat × Value × List SB) => seps [pur (gby p.2.2 = s.old), pto b (cells [.pointer (some ⟨s.j.disk, 0, none⟩), .pointer (some ⟨p.1, 0, none⟩), p.2.1, .bool s.broken] 74), isJ p.1 s.j, own encY 22 p.2.1 (gsv p.2.2), bigO vF p.2.2]
theorem v_open {b : Nat} {s : Vt} {R : List HP} {G : World → Prop}
    (h : ∀ jb ov g, gby g = s.old → One1 ov → Ht (pto b (cells [.pointer (some ⟨s.j.disk, 0, none⟩), .pointer (some ⟨jb, 0, none⟩), ov, .bool s.broken] 74) :: isJ jb s.j :: own encY 22 ov (gsv g) :: bigO vF g :: R) G) : Ht (isV b s :: R) G := by
  refine Ht.exs fun p => Ht.seps (Ht.pur fun hp => ?_)
  refine Ht.know (p := One1 p.2.1) (fun w t => one1_of (own_sat t.tail.tail)) (fun ho => ?_)
  exact h p.1 p.2.1 p.2.2 hp ho
theorem v_shut {b jb : Nat} {s : Vt} {ov : Value} {g : List SB} {o : Obj} {j : Jn} {ys : List SVy} {L L1 L2 L3 R R' : List HP} {w : World} [p1 : Pull (pto b) L o L1] [p2 : Pull (isJ jb) L1 j L2] [p4 : Pull (own encY 22 ov) L2 ys L3] [p5 : Pull (bigO vF) L3 g R] [fr : Frm R R']
    (ho : o = cells [.pointer (some ⟨s.j.disk, 0, none⟩), .pointer (some ⟨jb, 0, none⟩), ov, .bool s.broken] 74) (hj : j = s.j) (hy : ys = gsv g) (hg : gby g = s.old) (sat : Sat L w) : Sat (isV b s :: R') w := by
  have h1 := p1.h _ _ sat
  have h2 := seps_mono (fun _ a => a) (fun _ t => p2.h _ _ t) h1
  have h3 := seps_mono (fun _ a => a) (fun _ t => seps_mono (fun _ a => a) (fun _ t => p4.h _ _ t) t) h2
  have h4 := seps_mono (fun _ a => a) (fun _ t => seps_mono (fun _ a => a) (fun _ t => seps_mono (fun _ a => a) (fun _ t => p5.h _ _ t) t) t) h3
  subst ho; subst hj; subst hy
  refine seps_exs.2 ⟨(jb, ov, g), seps_seps.2 (seps_pur.2 ⟨hg, ?_⟩)⟩
  exact seps_mono (fun _ a => a) (fun _ t => seps_mono (fun _ a => a) (fun _ t => seps_mono (fun _ a => a) (fun _ t => seps_mono (fun _ a => a) (fun _ t => fr.h _ _ t) t) t) t) h4
theorem v_close {b jb : Nat} {s : Vt} {ov : Value} {g : List SB} {o : Obj} {j : Jn} {ys : List SVy} {L L1 L2 L3 R R' : List HP} {G : World → Prop} [p1 : Pull (pto b) L o L1] [p2 : Pull (isJ jb) L1 j L2] [p4 : Pull (own encY 22 ov) L2 ys L3] [p5 : Pull (bigO vF) L3 g R] [fr : Frm R R']
    (ho : o = cells [.pointer (some ⟨s.j.disk, 0, none⟩), .pointer (some ⟨jb, 0, none⟩), ov, .bool s.broken] 74) (hj : j = s.j) (hy : ys = gsv g) (hg : gby g = s.old) (h : Ht (isV b s :: R') G) : Ht L G := fun w sat => h w (v_shut ho hj hy hg sat)

theorem VSound_spec {L R K b} {s : Vt} [p : Pull (isV b) L s R] (h : Ht (isV b s :: R) (K (.bool (!s.broken)))) : Ht L (CCall Tryz.prog 16 [.pointer (some ⟨b, 0, none⟩)] K) := by
  refine Ht.pull p (v_open fun jb ov g hg _ => ?_)
  refine ccall1 Tryz.func16 rfl (by decide) Tryz.ntmps16 (by rfl) (by decide) ?_
  repeat (refine stp ?_)
  exact ret1 rfl (v_close (s := s) (g := g) (R' := R) rfl rfl rfl hg h)
theorem vnote_spec {L R K b} {s : Vt} {e : Int} [p : Pull (isV b) L s R] (h : Ht (isV b { s with broken := s.broken || decide (e = 14) } :: R) (K (.int .i64 e))) : Ht L (CCall Tryz.prog 40 [.pointer (some ⟨b, 0, none⟩), .int .i64 e] K) := by
  refine Ht.pull p (v_open fun jb ov g hg _ => ?_)
  refine ccall2 Tryz.func40 rfl (by decide) Tryz.ntmps40 (by rfl) (by decide) ?_
  repeat (refine stp ?_)
  refine ht_if ?_ ?_ <;> intro h0
  · rw [h0, Bool.or_true] at h
    repeat (refine stp ?_)
    exact ret1 rfl (v_close (s := { s with broken := true }) (g := g) (R' := R) rfl rfl rfl hg h)
  · rw [h0, Bool.or_false] at h
    repeat (refine stp ?_)
    exact ret1 rfl (v_close (s := s) (g := g) (R' := R) rfl rfl rfl hg h)
theorem VLen_spec {L R K b} {s : Vt} [p : Pull (isV b) L s R] (h : Ht (isV b s :: R) (K (.int .i64 s.j.next))) : Ht L (CCall Tryz.prog 15 [.pointer (some ⟨b, 0, none⟩)] K) := by
  refine Ht.pull p (v_open fun jb ov g hg _ => ?_)
  refine ccall1 Tryz.func15 rfl (by decide) Tryz.ntmps15 (by rfl) (by decide) ?_
  repeat (refine stp ?_)
  refine Next_spec (b := jb) ?_
  repeat (refine stp ?_)
  exact ret1 rfl (v_close (s := s) (g := g) (R' := R) rfl rfl rfl hg h)
theorem VSpare_spec {L L1 R K b} {s : Vt} {st : St} [p : Pull (isV b) L s L1] [q : Pull (isStore s.j.disk) L1 st R] (h : st.ok → Ht (isV b s :: isStore s.j.disk st :: R) (K (.int .i64 (st.room - st.used)))) : Ht L (CCall Tryz.prog 24 [.pointer (some ⟨b, 0, none⟩)] K) := by
  refine Ht.pull p (Ht.two q ?_)
  refine Ht.know (p := st.ok) (fun w t => st_ok t) (fun hk => ?_)
  have hk2 := hk
  obtain ⟨k1, k2, k3⟩ := hk2
  refine Ht.pull (inferInstance : Pull (isV b) (isStore s.j.disk st :: isV b s :: R) s (isStore s.j.disk st :: R)) (v_open fun jb ov g hg _ => ?_)
  refine ccall1 Tryz.func24 rfl (by decide) Tryz.ntmps24 (by rfl) (by decide) ?_
  repeat (refine stp ?_)
  refine ht_draw Tryz.can24x3 Tryz.mixed (by kernel_rfl) ?_
  repeat (refine stp ?_)
  refine Room_spec ?_
  repeat (refine stp ?_)
  refine Used_spec ?_
  repeat (refine stp ?_)
  rewrite [show IntKind.i64.wrap (st.room - (st.used : Int)) = st.room - (st.used : Int) from IntWalk.i64_in _ (by omega)]
  refine ret1 rfl ?_
  refine v_close (b := b) (jb := jb) (s := s) (ov := ov) (g := g) (R' := isStore s.j.disk st :: R) rfl rfl rfl hg ?_
  exact h hk
theorem VAdd_spec {L L1 R K b v} {s : Vt} {st : St} {x : List UInt8} [p : Pull (isV b) L s L1] [q : Pull (isStore s.j.disk) L1 st R] [rs : RdE R encB v x] (hn : 0 ≤ s.j.next) (hl : x.length ≤ 1000000) (hr : s.j.recs.length ≤ 800000)
    (h : Ht (isV b (addV x s st).2.1 :: isStore s.j.disk (addV x s st).2.2 :: R) (K (.int .i64 (addV x s st).1))) :
    Ht L (CCall Tryz.prog 19 [.pointer (some ⟨b, 0, none⟩), v] K) := by
  refine Ht.pull p (Ht.two q ?_)
  refine Ht.know (p := One1 v) (fun w t => one1_of (rs.h w t.tail.tail)) (fun ho => ?_)
  have hrs : ∀ (M : List HP) [fr : Frm M R], RdE M encB v x := fun M fr => ⟨fun w t => rs.h w (fr.h _ _ t)⟩
  refine ccall2 Tryz.func19 rfl (by decide) Tryz.ntmps19 (by rfl) (by decide) ?_
  have hA : addV x s st = if s.broken = true then (10, s, st) else if 10000 ≤ s.j.next then (2, s, st)
    else ((appJ x s.j st).1.2, { s with j := (appJ x s.j st).2.1, broken := s.broken || decide ((appJ x s.j st).1.2 = 14) }, (appJ x s.j st).2.2) := rfl
  repeat (refine stp ?_)
  refine VSound_spec (b := b) ?_
  repeat (refine stp ?_)
  rewrite [Bool.not_not]
  refine ht_if ?_ ?_ <;> intro h0
  · rw [if_pos h0] at hA
    rw [hA] at h
    repeat (refine stp ?_)
    exact ret1 rfl (Ht.frm h)
  rw [if_neg (by rw [h0]; decide)] at hA
  repeat (refine stp ?_)
  refine VLen_spec (b := b) ?_
  repeat (refine stp ?_)
  refine ht_if ?_ ?_ <;> intro h1 <;> simp only [decide_eq_true_eq, decide_eq_false_iff_not, ge_iff_le] at h1
  · rw [if_pos h1] at hA
    rw [hA] at h
    repeat (refine stp ?_)
    exact ret1 rfl (Ht.frm h)
  rw [if_neg h1] at hA
  rw [hA] at h
  refine v_open fun jb ov g hg _ => ?_
  repeat (refine stp ?_)
  have hd : (appJ x s.j st).2.1.disk = s.j.disk := by unfold appJ; repeat (first | rfl | split)
  refine JAppend_spec (b := jb) (s := s.j) (st := st) (x := x) hn hl hr ?_
  repeat (refine stp ?_)
  refine v_close (b := b) (jb := jb) (s := { s with j := (appJ x s.j st).2.1 }) (ov := ov) (g := g) (R' := isStore s.j.disk (appJ x s.j st).2.2 :: R) ?_ rfl rfl hg ?_
  · dsimp only; rw [hd]
  refine vnote_spec (b := b) ?_
  repeat (refine stp ?_)
  exact ret1 rfl (Ht.frm h)
end Go.Proofs

namespace Go.SL
open Go
set_option linter.all false
/-! ### A range over a function that, behind its call, makes things of its own (q) and keeps them while it tells -/
theorem ht_rangeFuncQ {P : Program} {N : Nat} {D : List Deferred} {E : List (Nat × Value)} {L : List HP} {Q : Exit → Act → World → Prop} {g : Operand} {ps : List Nat} {assign body : Code} {gf : Nat} {lb : List Value} {β δ : Type} (n : δ → Nat) (encs : δ → Nat → List Value) (Inv : δ → Nat → β → Prop) (Lf : δ → Nat → β → List HP) (X : Option Nat → List HP)
    [ev : Ev E g (.func (.func gf) #[] lb.toArray)] (hfn : FnOk P gf) (hps : ∀ q i, (encs q i).length = ps.length)
    (hit : ∀ (l : Nat) (C : HP) (A : δ → Nat → HP) (B : HP) (K : Value → World → Prop), (∀ q i w, Sat [A q i] w ↔ ∃ x, Inv q i x ∧ Sat (C :: Lf q i x) w) →
      (∀ q i, i < n q → Ht [A q i] (CYield P l (encs q i) (fun v w => (v = .bool true ∧ Sat [A q (i + 1)] w) ∨ (v = .bool false ∧ Sat [B] w)))) → (∀ q v, Ht [A q (n q)] (K v)) → (∀ v, Ht [B] (K v)) → Ht (C :: L) (CCall P gf (.func (.yield l) #[] #[] :: lb) K))
    (hbody : ∀ q i, i < n q → ∀ x, Inv q i x → ∀ (l dd : Nat) (r : Loop), r.state = .ready → okC N body = true → ∀ Q',
      (∀ x' E', Inv q (i + 1) x' → Ht (pto l (.loop { r with state := .busy }) :: pto dd (.deferred (some [])) :: Lf q (i + 1) x') (CX N [] E' .normal Q')) →
      (∀ j E', Ht (pto l (.loop { r with state := .busy }) :: pto dd (.deferred (some [])) :: X j) (CX N [] E' (jumpX j) Q')) →
      Ht (pto l (.loop r) :: pto dd (.deferred (some [])) :: Lf q i x) (CC P (some l) N [] (psE ps (encs q i) E) assign (BeginP P l N body Q')))
    (hdone : ∀ q dd x, Inv q (n q) x → Ht (pto dd (.deferred (some [])) :: Lf q (n q) x) (CX N ({ target := .collected dd, args := #[] } :: D) E .normal Q))
    (hstop : ∀ dd j, Ht (pto dd (.deferred (some [])) :: X j) (CC P none N ({ target := .collected dd, args := #[] } :: D) E (jumpC j) Q)) :
    Ht L (CC P none N D E (.rangeFunc g ps.toArray assign body) Q) := fun w s ok a rp => by
  simp only [okC, Bool.and_eq_true, List.toList_toArray] at ok
  obtain ⟨⟨ok1, ok2⟩, ok3⟩ := ok
  have hg := ev.h N D a rp
  refine wpIn_rangeFunc ?_
  intro fn _
  obtain ⟨rec, hrec⟩ : ∃ rec : LoopState → Option Code → Loop, rec = fun st pe => { state := st, pending := pe, fn, tmps := a.tmps, params := ps.toArray, assign, body, defers := w.heap.size } := ⟨_, rfl⟩
  obtain ⟨W1, hW1⟩ : ∃ W1, (w.alloc (.deferred (some []))).alloc (.loop (rec .ready none)) = W1 := ⟨_, rfl⟩
  have S1 : Sat (pto (w.heap.size + 1) (.loop (rec .ready none)) :: pto w.heap.size (.deferred (some [])) :: L) W1 := by
    rw [← hW1]
    have s1 : Sat (pto w.heap.size (.deferred (some [])) :: L) (w.alloc (.deferred (some []))) := s.new rfl rfl
    have s2 := s1.new (w' := (w.alloc (.deferred (some []))).alloc (.loop (rec .ready none))) (o := .loop (rec .ready none)) rfl rfl
    rw [World.size_alloc] at s2
    exact s2
  refine ⟨w.heap.size + 1, [{ target := .collected w.heap.size, args := #[] }], W1, { target := .fn (.func gf) lb.toArray, args := #[.func (.yield (w.heap.size + 1)) #[] #[]] }, W1, gf,
    #[.func (.yield (w.heap.size + 1)) #[] #[]] ++ lb.toArray, W1, ?_, ?_, fun _ _ => trivial, ?_, fun h => by simp at h, ?_⟩
  · rw [← hW1, hrec]; exact run_enterLoop_outer _ _ _ _ _
  · simp only [resolve, hg]
    simp [go_sem]
  · simp [invoke, go_sem, run_callFunc hfn]
  · have hA : ∀ q i w', Sat [fun e h => ∃ x, Inv q i x ∧ seps (pto (w.heap.size + 1) (.loop (rec .ready none)) :: pto w.heap.size (.deferred (some [])) :: Lf q i x) e h] w' ↔ ∃ x, Inv q i x ∧ Sat (pto (w.heap.size + 1) (.loop (rec .ready none)) :: pto w.heap.size (.deferred (some [])) :: Lf q i x) w' := fun q i w' => sat_ex
    have hC : ∀ (M : List HP) w', Sat (seps [pto (w.heap.size + 1) (.loop (rec .ready none)), pto w.heap.size (.deferred (some []))] :: M) w' ↔ Sat (pto (w.heap.size + 1) (.loop (rec .ready none)) :: pto w.heap.size (.deferred (some [])) :: M) w' := fun M w' => seps_seps
    have hB : ∀ w', Sat [fun e h => ∃ j, True ∧ seps (pto (w.heap.size + 1) (.loop (rec .done (some (jumpC j)))) :: pto w.heap.size (.deferred (some [])) :: X j) e h] w' ↔ ∃ j, True ∧ Sat (pto (w.heap.size + 1) (.loop (rec .done (some (jumpC j)))) :: pto w.heap.size (.deferred (some [])) :: X j) w' := fun w' => sat_ex
    have main := hit (w.heap.size + 1) (seps [pto (w.heap.size + 1) (.loop (rec .ready none)), pto w.heap.size (.deferred (some []))]) (fun q i e h => ∃ x, Inv q i x ∧ seps (pto (w.heap.size + 1) (.loop (rec .ready none)) :: pto w.heap.size (.deferred (some [])) :: Lf q i x) e h) _ (fun v w' => rangePost (Fr none) 0 P (w.heap.size + 1) Q { a with defers := [{ target := .collected w.heap.size, args := #[] }] ++ a.defers } (.returned v) w')
      (fun q i w' => (hA q i w').trans ⟨fun ⟨x, hx, sx⟩ => ⟨x, hx, (hC _ _).2 sx⟩, fun ⟨x, hx, sx⟩ => ⟨x, hx, (hC _ _).1 sx⟩⟩)
      (fun q i hi w' sw => by
        obtain ⟨x, hx, sx⟩ := (hA q i w').1 sw
        have hl := sx.get
        have hy := run_yield (P := P) (args := (encs q i).toArray) hl (by rw [hrec]; simp [hps q i])
        refine ⟨fn, _, assign, body, by rw [hrec] at hy; exact hy, roundIn_of_wpIn (F := Fr none) trivial ?_⟩
        have hbd := hbody q i hi x hx (w.heap.size + 1) w.heap.size (rec .ready none) (by rw [hrec]) ok3
          (roundPost P (w.heap.size + 1) fun e w' => ∃ v, e = .returned v ∧ ((v = .bool true ∧ Sat [fun e h => ∃ x, Inv q (i + 1) x ∧ seps (pto (w.heap.size + 1) (.loop (rec .ready none)) :: pto w.heap.size (.deferred (some [])) :: Lf q (i + 1) x) e h] w') ∨
            (v = .bool false ∧ Sat [fun e h => ∃ j, True ∧ seps (pto (w.heap.size + 1) (.loop (rec .done (some (jumpC j)))) :: pto w.heap.size (.deferred (some [])) :: X j) e h] w')))
          (fun x' E' hx' w2 s2 a2 r2 => by
            have h2 := s2.get
            have hr := run_endRound (P := P) none h2
            refine ⟨_, _, hr, _, rfl, .inl ⟨rfl, (hA q (i + 1) _).2 ⟨x', hx', ?_⟩⟩⟩
            have := putObj_set (o' := .loop (rec .ready none)) s2
            rw [hrec] at this ⊢
            exact this)
          (fun j E' w2 s2 a2 r2 => by
            have h2 := s2.get
            have hr := run_endRound (P := P) (some (jumpC j)) h2
            have hsat : Sat [fun e h => ∃ j, True ∧ seps (pto (w.heap.size + 1) (.loop (rec .done (some (jumpC j)))) :: pto w.heap.size (.deferred (some [])) :: X j) e h] (w2.putObj (w.heap.size + 1) (.loop { { rec .ready none with state := LoopState.busy } with state := if (some (jumpC j)).isNone then .ready else .done, pending := some (jumpC j) })) := (hB _).2 ⟨j, trivial, by
              have := putObj_set (o' := .loop (rec .done (some (jumpC j)))) s2
              rw [hrec] at this ⊢
              exact this⟩
            cases j with
            | none => exact ⟨_, _, hr, _, rfl, .inr ⟨rfl, hsat⟩⟩
            | some id => exact ⟨_, _, hr, _, rfl, .inr ⟨rfl, hsat⟩⟩)
        have := hbd w' sx ok2 ⟨((ps.zip (encs q i)).foldl (fun T (x : Nat × Value) => T.setIfInBounds x.1 x.2) a.tmps), []⟩ (psE_rep (ds := []) ⟨rp.size, rfl, rp.vals⟩ ok1)
        refine wpIn_mono (F := Fr (some (w.heap.size + 1))) (by simpa only [List.zip_toArray, List.foldl_toArray] using this) ?_
        intro e a1 w1 hh
        cases e <;> first | exact hh | skip
        obtain ⟨w2, hb2, hb3⟩ := hh
        exact ⟨w2, hb2, hb3 ok3⟩)
      (fun q v w' sw => by
        obtain ⟨x, hx, sx⟩ := (hA q (n q) w').1 sw
        have he := run_endLoop (P := P) sx.get (by rw [hrec]; simp)
        refine ⟨none, _, by rw [hrec] at he; exact he, ?_⟩
        exact hdone q w.heap.size x hx _ (putObj_set sx).tail _ ⟨rp.size, by simp [rp.defers], rp.vals⟩)
      (fun v w' sw => by
        obtain ⟨j, _, sx⟩ := (hB w').1 sw
        have he := run_endLoop (P := P) sx.get (by rw [hrec]; simp)
        refine ⟨some (jumpC j), _, by rw [hrec] at he; exact he, ?_⟩
        exact hstop w.heap.size j _ (putObj_set sx).tail (by cases j <;> rfl) _ ⟨rp.size, by simp [rp.defers], rp.vals⟩)
    have := (main W1 ((hC _ _).2 S1)).2
    have e : (Value.func (.yield (w.heap.size + 1)) #[] #[] :: lb).toArray = #[.func (.yield (w.heap.size + 1)) #[] #[]] ++ lb.toArray := by simp
    rw [e] at this
    refine CallsIn.mono (F := Fr none) this ?_
    rintro e w' ⟨v, rfl, hk⟩
    exact hk
end Go.SL

set_option linter.all false
set_option synthInstance.maxSize 100000
set_option synthInstance.maxHeartbeats 400000
namespace Go.Proofs
open Go Go.SL
attribute [local irreducible] CCall CO CC CX CD

/-! ### all records of a vault -/
def vG : SB → HP := ownY 5
def vE : SB → HP := ownY 5
theorem each_spec {L K b} (h : ∀ c, Ht (pto c (cells [.pointer b] 31) :: L) (K (.func (.func 60) #[] #[.pointer (some ⟨c, 0, none⟩)]))) : Ht L (CCall Tryz.prog 37 [.pointer b] K) := by
  refine ccall1 Tryz.func37 rfl (by decide) Tryz.ntmps37 (by rfl) (by decide) ?_
  repeat (refine stp ?_)
  intro c
  repeat (refine stp ?_)
  exact ret1 rfl (h c)
theorem gsv_app (g h : List SB) : gsv (g ++ h) = gsv g ++ gsv h := by simp [gsv]
theorem gby_app (g h : List SB) : gby (g ++ h) = gby g ++ gby h := by simp [gby]
theorem own_encY_svY {T : TypeId} {v : Value} {xs : List SVy} {w : World} {R : List HP} (s : Sat (own encY T v xs :: R) w) : ∃ sv : SVy, v = svY sv ∧ sv.2.1 = xs.length := by
  obtain ⟨a, c, hv, _, _⟩ := sliceIn_of (own_sat s)
  exact ⟨(a, _, c), hv, rfl⟩
theorem VAll_spec {L R K b} {s : Vt} (F : SB → HP) (hF : F = ownY 5) [p : Pull (isV b) L s R] (hr : s.j.recs.length ≤ 100000) (ho : s.old.length ≤ 100000) (hx : ∀ x ∈ allV s, x.length ≤ 1048576) (hj : ∀ x ∈ s.j.recs, x.2.length ≤ 1000000)
    (h : ∀ lv g, gby g = allV s → Ht (own encY 22 lv (gsv g) :: bigO F g :: isV b s :: R) (K lv)) :
    Ht L (CCall Tryz.prog 14 [.pointer (some ⟨b, 0, none⟩)] K) := by
  refine Ht.pull p (v_open fun jb ov g hg hov => ?_)
  have hgl : g.length ≤ 100000 := by rw [← hg, gby_len] at ho; exact ho
  refine Ht.know (p := ∃ sv : SVy, ov = svY sv ∧ sv.2.1 = (gsv g).length) (fun w t => own_encY_svY t.tail.tail) (fun ⟨sv, eov, hsl⟩ => ?_)
  subst eov
  refine ccall1 Tryz.func14 rfl (by decide) Tryz.ntmps14 (by rfl) (by decide) ?_
  repeat (refine stp ?_)
  intro c3
  repeat (refine stp ?_)
  refine each_spec fun c => ?_
  repeat (refine stp ?_)
  refine ht_rangeFuncQ (β := Value × List SB) (δ := Value × List SB) (fun q => g.length + q.2.length) (fun q i => [svY (gsv (g ++ q.2))[i]!])
    (fun q i x => (gby q.2 = fromJ (s.old.length : Int) s.j.recs ∧ q.2.length ≤ 100000) ∧ gby x.2 = (gby (g ++ q.2)).take i)
    (fun q i x => pto c3 (cells [x.1] 28) :: own encY 22 x.1 (gsv x.2) :: bigO F x.2 :: own encY 22 q.1 (gsv (g ++ q.2)) :: bigO vE q.2 :: pto c (cells [.pointer (some ⟨b, 0, none⟩)] 31) :: pto b (cells [.pointer (some ⟨s.j.disk, 0, none⟩), .pointer (some ⟨jb, 0, none⟩), svY sv, .bool s.broken] 74) :: isJ jb s.j :: own encY 22 (svY sv) (gsv g) :: bigO vF g :: R)
    noX ⟨_, Tryz.func60, by decide, rfl⟩ (fun _ _ => rfl) ?_ ?_ ?_ ?_
  · intro l C A B K' hA hy hd hs
    refine ccall2 Tryz.func60 rfl (by decide) Tryz.ntmps60 (by rfl) (by decide) ?_
    repeat (refine stp ?_)
    refine ht_draw Tryz.can60x1 Tryz.mixed (by kernel_rfl) ?_
    repeat (refine stp ?_)
    refine Records_spec (b := jb) (k := ((gsv g).length : Int)) vE rfl (by omega) hj fun rv gr hgr => ?_
    rw [gsv_len, ← gby_len, hg] at hgr
    refine Ht.know (p := ∃ sv : SVy, rv = svY sv ∧ sv.2.1 = (gsv gr).length) (fun w t => own_encY_svY t) (fun ⟨rsv, erv, hrl⟩ => ?_)
    subst erv
    have hgr2 : gr.length ≤ 100000 := by
      have := congrArg List.length hgr
      rw [gby_len] at this
      rw [this]; unfold fromJ
      rw [List.length_map, List.length_drop]; omega
    have hlen : (gsv (g ++ gr)).length = g.length + gr.length := by rw [gsv_len, List.length_append]
    refine Ht.one1 (v := svY rsv) ?_
    intro _
    repeat (refine stp ?_)
    intro b1
    repeat (refine stp ?_)
    refine Ht.own_lit encY (b := b1) (n := 2) (xs := [sv, rsv]) rfl rfl (by decide) ?_
    have hjg : jg [(sv, gsv g), (rsv, gsv gr)] = gsv (g ++ gr) := by rw [gsv_app]; simp [jg, ggb]
    refine ConcatG_spec (ms := [(sv, gsv g), (rsv, gsv gr)]) (fun x hx => ?_) (by simp) (by rw [hjg, hlen]; omega) ?_
    · rcases List.mem_cons.1 hx with e | hx
      · subst e; infer_instance
      · rw [List.mem_singleton.1 hx]; infer_instance
    rewrite [hjg]
    intro cv
    refine Ht.one1 (v := cv) ?_
    intro ocv
    refine Ht.know (p := ∃ sv : SVy, cv = svY sv ∧ sv.2.1 = (gsv (g ++ gr)).length) (fun w t => own_encY_svY t) (fun ⟨csv, ecv, hcl⟩ => ?_)
    subst ecv
    repeat (refine stp ?_)
    refine ht_for (g.length + gr.length) (fun _ (_ : Unit) => True) (fun i _ => [A (svY csv, gr) i]) (fun i _ => [(25, .int .i64 i)]) () [25] trivial (fun w t => (hA (svY csv, gr) 0 w).2 ⟨(.slice none 0 0, []), ⟨⟨hgr, hgr2⟩, by simp [gby]⟩, ?_⟩) (SubE.cons rfl inferInstance) ?_
    · have t1 : Sat (C :: pto c3 (cells [.slice none 0 0] 28) :: own encY 22 (svY csv) (gsv (g ++ gr)) :: bigO vE gr :: pto c (cells [.pointer (some ⟨b, 0, none⟩)] 31) :: pto b (cells [.pointer (some ⟨s.j.disk, 0, none⟩), .pointer (some ⟨jb, 0, none⟩), svY sv, .bool s.broken] 74) :: isJ jb s.j :: own encY 22 (svY sv) (gsv g) :: bigO vF g :: R) w := Frm.h _ _ t
      have t2 : Sat (own encY 22 (.slice none 0 0) ([] : List SVy) :: bigO F [] :: C :: pto c3 (cells [.slice none 0 0] 28) :: own encY 22 (svY csv) (gsv (g ++ gr)) :: bigO vE gr :: pto c (cells [.pointer (some ⟨b, 0, none⟩)] 31) :: pto b (cells [.pointer (some ⟨s.j.disk, 0, none⟩), .pointer (some ⟨jb, 0, none⟩), svY sv, .bool s.broken] 74) :: isJ jb s.j :: own encY 22 (svY sv) (gsv g) :: bigO vF g :: R) w := own_nil.2 ((bigO_nil (f := F)).2 t1)
      exact (inferInstance : Frm _ (C :: pto c3 (cells [(.slice none 0 0)] 28) :: own encY 22 (.slice none 0 0) ([] : List SVy) :: bigO F [] :: own encY 22 (svY csv) (gsv (g ++ gr)) :: bigO vE gr :: pto c (cells [.pointer (some ⟨b, 0, none⟩)] 31) :: pto b (cells [.pointer (some ⟨s.j.disk, 0, none⟩), .pointer (some ⟨jb, 0, none⟩), svY sv, .bool s.broken] 74) :: isJ jb s.j :: own encY 22 (svY sv) (gsv g) :: bigO vF g :: R)).h _ _ t2
    · intro i _ hi _
      dsimp only [List.cons_append, List.nil_append]
      haveI hrd : RdS [A (svY csv, gr) i] (svY csv) encY (gsv (g ++ gr)) := ⟨fun w t => by
        obtain ⟨⟨lv, gl⟩, _, sx⟩ := (hA _ i w).1 t
        exact (inferInstance : RdE (C :: pto c3 (cells [lv] 28) :: own encY 22 lv (gsv gl) :: bigO F gl :: own encY 22 (svY csv) (gsv (g ++ gr)) :: bigO vE gr :: pto c (cells [.pointer (some ⟨b, 0, none⟩)] 31) :: pto b (cells [.pointer (some ⟨s.j.disk, 0, none⟩), .pointer (some ⟨jb, 0, none⟩), svY sv, .bool s.broken] 74) :: isJ jb s.j :: own encY 22 (svY sv) (gsv g) :: bigO vF g :: R) encY (svY csv) (gsv (g ++ gr))).h w sx⟩
      repeat (refine stp ?_)
      refine ht_if ?_ ?_ <;> intro h0 <;> simp only [decide_eq_true_eq, decide_eq_false_iff_not] at h0
      · have hii : i < g.length + gr.length := by omega
        repeat (refine stp ?_)
        refine co_index (xs := gsv (g ++ gr)) (by omega) ?_
        intro hb
        repeat (refine stp ?_)
        refine Ht.ymono (hy (svY csv, gr) i hii) (fun r w hr => ?_)
        rcases hr with ⟨rfl, t⟩ | ⟨rfl, t⟩
        · revert t
          revert w
          show Ht [A (svY csv, gr) (i + 1)] _
          repeat (refine stp ?_)
          exact ht_next () hii trivial (fun _ s => s) (SubE.cons (by rw [IntWalk.i64_in _ (by omega)]; rfl) inferInstance) rfl rfl
        · revert t
          revert w
          show Ht [B] _
          repeat (refine stp ?_)
          exact ret0 rfl (hs _)
      · have e : i = g.length + gr.length := by omega
        subst e
        repeat (refine stp ?_)
        exact end0 rfl (hd _ _)
  · intro ⟨cv, gr⟩ i hi ⟨lv, gl⟩ hI l' dd rr hr' hok Q2 hnext _
    dsimp only at hi hI ⊢
    obtain ⟨⟨hgr, hgr2⟩, hgt⟩ := hI
    have hii : i < (g ++ gr).length := by rw [List.length_append]; omega
    have hrx : ∀ (M M1 M2 M3 : List HP) [q1 : Pull (bigO vF) M g M1] [q2 : Pull (bigO vE) M1 gr M2], RdE M encB (svY ((g ++ gr)[i]!).1) ((g ++ gr)[i]!).2 := fun M M1 M2 M3 q1 q2 => by
      have hmem : (g ++ gr)[i]! ∈ g ++ gr := List.mem_of_getElem? (getB hii)
      rcases List.mem_append.1 hmem with hm | hm
      · exact bigF_at (F := vF) rfl M M1 _ hm
      · have := bigF_at (F := vE) rfl M1 M2 _ hm
        exact ⟨fun w t => this.h w (q1.sat t).tail⟩
    have hxl : ((g ++ gr)[i]!).2.length ≤ 1048576 := by
      refine hx _ ?_
      have hmem : (g ++ gr)[i]! ∈ g ++ gr := List.mem_of_getElem? (getB hii)
      have e : allV s = gby (g ++ gr) := by rw [gby_app, hg, hgr]; rfl
      rw [e]
      exact List.mem_map_of_mem (f := fun x : SB => x.2) hmem
    have hgl2 : gl.length = i := by
      have := congrArg List.length hgt
      rw [gby_len, List.length_take, gby_len] at this; omega
    have hgs := gsv_len (ms := gl)
    have hat : (gsv (g ++ gr))[i]! = ((g ++ gr)[i]!).1 := gsv_at hii
    rw [hat]
    dsimp only [psE]
    repeat (refine stp ?_)
    refine rf_begin hr' hok ?_
    repeat (refine stp ?_)
    refine ht_draw Tryz.can14x4 Tryz.mixed (by kernel_rfl) ?_
    repeat (refine stp ?_)
    refine yClone_spec (xs := ((g ++ gr)[i]!).2) (rs := hrx _ _ _ []) (by omega) ?_
    intro v3
    refine Ht.know (p := ∃ sv : SVy, v3 = svY sv) (fun w t => own_svY t) (fun ⟨xv, e⟩ => ?_)
    subst e
    refine Ht.one1 (v := svY xv) ?_
    intro _
    repeat (refine stp ?_)
    intro b1
    repeat (refine stp ?_)
    refine Ht.own_lit encY (b := b1) (n := 1) (xs := [xv]) rfl rfl (by decide) ?_
    refine co_append (e := encY) (xs := gsv gl) (ys := [xv]) (by rfl) (by simp; omega) (by simp; omega) ?_
    intro lv2
    refine Ht.one1 (v := lv2) ?_
    intro _
    have e1 : gsv gl ++ [xv] = gsv (gl ++ [(xv, ((g ++ gr)[i]!).2)]) := by simp [gsv]
    rewrite [e1]
    repeat (refine stp ?_)
    refine cx_env SubE.nil (Ht.conseq (hnext (lv2, (gl ++ [(xv, ((g ++ gr)[i]!).2)])) [] ?_) (fun w t => ?_))
    · refine ⟨⟨hgr, hgr2⟩, ?_⟩
      show gby (gl ++ [(xv, ((g ++ gr)[i]!).2)]) = _
      have hb : i < (gby (g ++ gr)).length := by rw [gby_len]; exact hii
      rw [List.take_succ_eq_append_getElem hb, gby_app gl, hgt]
      have e3 : (gby (g ++ gr))[i] = ((g ++ gr)[i]!).2 := by
        rw [getElem!_pos (g ++ gr) i hii]
        show (List.map (fun x : SB => x.2) (g ++ gr))[i]'(by simpa using hii) = _
        rw [List.getElem_map]
      rw [e3]; rfl
    · have t1 : Sat (bigO F (gl ++ [(xv, ((g ++ gr)[i]!).2)]) :: pto l' (.loop { rr with state := .busy }) :: pto dd (.deferred (some [])) :: pto c3 (cells [lv2] 28) :: own encY 22 lv2 (gsv (gl ++ [(xv, ((g ++ gr)[i]!).2)])) :: own encY 22 cv (gsv (g ++ gr)) :: bigO vE gr :: pto c (cells [.pointer (some ⟨b, 0, none⟩)] 31) :: pto b (cells [.pointer (some ⟨s.j.disk, 0, none⟩), .pointer (some ⟨jb, 0, none⟩), svY sv, .bool s.broken] 74) :: isJ jb s.j :: own encY 22 (svY sv) (gsv g) :: bigO vF g :: R) w := by
        refine bigO_snoc.2 ?_
        rw [hF]
        rw [hF] at t
        exact (inferInstance : Frm _ (own encB 5 (svY xv) ((g ++ gr)[i]!).2 :: bigO (ownY 5) gl :: pto l' (.loop { rr with state := .busy }) :: pto dd (.deferred (some [])) :: pto c3 (cells [lv2] 28) :: own encY 22 lv2 (gsv (gl ++ [(xv, ((g ++ gr)[i]!).2)])) :: own encY 22 cv (gsv (g ++ gr)) :: bigO vE gr :: pto c (cells [.pointer (some ⟨b, 0, none⟩)] 31) :: pto b (cells [.pointer (some ⟨s.j.disk, 0, none⟩), .pointer (some ⟨jb, 0, none⟩), svY sv, .bool s.broken] 74) :: isJ jb s.j :: own encY 22 (svY sv) (gsv g) :: bigO vF g :: R)).h _ _ t
      exact (inferInstance : Frm _ (pto l' (.loop { rr with state := .busy }) :: pto dd (.deferred (some [])) :: pto c3 (cells [lv2] 28) :: own encY 22 lv2 (gsv (gl ++ [(xv, ((g ++ gr)[i]!).2)])) :: bigO F (gl ++ [(xv, ((g ++ gr)[i]!).2)]) :: own encY 22 cv (gsv (g ++ gr)) :: bigO vE gr :: pto c (cells [.pointer (some ⟨b, 0, none⟩)] 31) :: pto b (cells [.pointer (some ⟨s.j.disk, 0, none⟩), .pointer (some ⟨jb, 0, none⟩), svY sv, .bool s.broken] 74) :: isJ jb s.j :: own encY 22 (svY sv) (gsv g) :: bigO vF g :: R)).h _ _ t1
  · intro ⟨cv, gr⟩ dd ⟨lv, gl⟩ hI
    dsimp only at hI ⊢
    obtain ⟨⟨hgr, _⟩, hgt⟩ := hI
    have hfull : gby gl = allV s := by
      rw [hgt, List.take_of_length_le (by rw [gby_len, List.length_append]; omega), gby_app, hg, hgr]; rfl
    repeat (refine stp ?_)
    refine Ht.know (p := One1 lv) (fun w t => one1_of ((inferInstance : RdE (pto dd (.deferred (some [])) :: pto c3 (cells [lv] 28) :: own encY 22 lv (gsv gl) :: bigO F gl :: own encY 22 cv (gsv (g ++ gr)) :: bigO vE gr :: pto c (cells [.pointer (some ⟨b, 0, none⟩)] 31) :: pto b (cells [.pointer (some ⟨s.j.disk, 0, none⟩), .pointer (some ⟨jb, 0, none⟩), svY sv, .bool s.broken] 74) :: isJ jb s.j :: own encY 22 (svY sv) (gsv g) :: bigO vF g :: R) encY lv (gsv gl)).h w t)) (fun ho => ?_)
    repeat (refine stp ?_)
    refine retD1 rfl ?_
    refine v_close (b := b) (jb := jb) (s := s) (ov := svY sv) (g := g) (R' := own encY 22 lv (gsv gl) :: bigO F gl :: R) rfl rfl rfl hg ?_
    exact Ht.frm (h lv gl hfull)
  · intro dd j
    exact ht_noX
end Go.Proofs

set_option linter.all false
set_option synthInstance.maxSize 100000
set_option synthInstance.maxHeartbeats 400000
namespace Go.Proofs
open Go Go.SL
attribute [local irreducible] CCall CO CC CX CD

theorem jrd_len : ∀ (l : List (List UInt8)) (f : Bool) (n : Int), (jrd f n l).1.length ≤ l.length
  | [], f, n => by simp [jrd]
  | x :: l, f, n => by
    simp only [jrd]
    split
    · simp
    · have := jrd_len l false ((countM 0 x grB).2.1 + 1)
      simp only [List.length_cons]; omega
theorem frs_tot (b : List UInt8) : sizes (frs b) ≤ b.length := by
  have := (frs_drop (frs b).length b (Nat.le_refl _)).2
  rwa [List.take_length] at this
theorem sizes_mem : ∀ {l : List (List UInt8)} {x : List UInt8}, x ∈ l → x.length ≤ sizes l
  | y :: l, x, h => by
    rw [sizes_cons]
    rcases List.mem_cons.1 h with rfl | h
    · omega
    · have := sizes_mem h; omega
theorem sizes_len : ∀ l : List (List UInt8), 8 * l.length ≤ sizes l
  | [] => Nat.zero_le _
  | x :: l => by have := sizes_len l; rw [sizes_cons, List.length_cons]; omega
theorem cut_slice {a : Option Addr} {n c m : Nat} : ∃ a' c', slSub (.slice a n c) 1 0 m = .slice a' m c' := ⟨_, _, rfl⟩
end Go.Proofs

set_option linter.all false
set_option synthInstance.maxSize 100000
set_option synthInstance.maxHeartbeats 400000
namespace Go.Proofs
open Go Go.SL

/-! ### what any file may hold -/
theorem text_le {bs : List UInt8} : (textM 0 bs 1048576).2.1.length ≤ 1048576 := by
  have h := @count_le 0 1048576 bs (by decide)
  unfold textM
  split
  · simp
  · split
    · simp
    · simp only [List.length_take]; omega
theorem many_le : ∀ (k : Nat) (bs : List UInt8), (manyM k bs).2.1.length ≤ k ∧ ∀ x ∈ (manyM k bs).2.1, x.length ≤ 1048576
  | 0, bs => ⟨by simp [manyM], by simp [manyM]⟩
  | k + 1, bs => by
    simp only [manyM]
    split
    · exact ⟨by simp, by simp⟩
    · obtain ⟨h1, h2⟩ := many_le k (bs.drop (textM 0 bs 1048576).2.2)
      unfold joinM
      split
      · exact ⟨by simp, by simp⟩
      · refine ⟨by simp; omega, fun x hx => ?_⟩
        rcases List.mem_append.1 hx with h | h
        · rw [List.mem_singleton.1 h]; exact text_le
        · exact h2 x h
theorem manyC_le (bs : List UInt8) : (manyC bs).2.1.length ≤ 10000 ∧ ∀ x ∈ (manyC bs).2.1, x.length ≤ 1048576 := by
  unfold manyC
  split
  · exact ⟨by simp, by simp⟩
  · have h := @count_le 0 10000 bs (by decide)
    obtain ⟨h1, h2⟩ := many_le (countM 0 bs 10000).2.1.toNat (bs.drop (countM 0 bs 10000).2.2)
    exact ⟨by omega, h2⟩
theorem dec_le (bs : List UInt8) : (decM bs).2.length ≤ 10000 ∧ ∀ x ∈ (decM bs).2, x.length ≤ 1048576 := by
  unfold decM
  split
  · exact ⟨by simp, by simp⟩
  · split
    · exact ⟨by simp, by simp⟩
    · split
      · exact ⟨by simp, by simp⟩
      · exact manyC_le _
theorem load_le (st : St) : (loadM st).2.length ≤ 10000 ∧ ∀ x ∈ (loadM st).2, x.length ≤ 1048576 := by
  unfold loadM
  split
  · exact ⟨by simp, by simp⟩
  · split
    · exact ⟨by simp, by simp⟩
    · exact dec_le _
theorem jrd_num : ∀ (l : List (List UInt8)) (f : Bool) (n : Int), ∃ (k : Int) (L : List (List UInt8)), (jrd f n l).1 = num k L ∧ 0 ≤ k ∧ k ≤ grB ∧ (f = false → L ≠ [] → k = n)
  | [], f, n => ⟨0, [], rfl, by decide, by decide, fun _ h => absurd rfl h⟩
  | x :: l, f, n => by
    simp only [jrd]
    split
    · exact ⟨0, [], rfl, by decide, by decide, fun _ h => absurd rfl h⟩
    · rename_i hc
      obtain ⟨k, L, h1, h2, h3, h4⟩ := jrd_num l false ((countM 0 x grB).2.1 + 1)
      refine ⟨(countM 0 x grB).2.1, x.drop (countM 0 x grB).2.2 :: L, ?_, count_nn, count_le (by decide), fun hf _ => ?_⟩
      · show (_, _) :: _ = (_, _) :: num _ L
        congr 1
        rw [h1]
        by_cases hL : L = []
        · subst hL; rfl
        · rw [h4 rfl hL]
      · exact Classical.not_not.1 fun hh => hc (.inr ⟨hf, hh⟩)
theorem jlogR_num (st : St) : ∃ (k : Int) (L : List (List UInt8)), jlogR st = num k L ∧ 0 ≤ k ∧ k ≤ grB := by
  obtain ⟨k, L, h1, h2, h3, _⟩ := jrd_num (frs (jlogB st)) true 0
  exact ⟨k, L, h1, h2, h3⟩
theorem first_next {st : St} {d : Nat} : (firstJ ⟨jlogR st, jnx (jlogR st), false, d⟩ = jnx (jlogR st)) ↔ jlogR st = [] := by
  obtain ⟨k, L, h1, _, _⟩ := jlogR_num st
  rw [h1]
  cases L with
  | nil => exact ⟨fun _ => rfl, fun _ => rfl⟩
  | cons x L =>
    rw [num_nx _ _ (by simp)]
    refine ⟨fun h => ?_, fun h => by simp [num] at h⟩
    have e : firstJ ⟨num k (x :: L), k + ((x :: L).length : Int), false, d⟩ = k := rfl
    rw [e, List.length_cons] at h
    omega
theorem jlogR_in (st : St) : ∀ y ∈ jlogR st, (0 ≤ y.1 ∧ y.1 ≤ grB) ∧ y.2.length ≤ (jlogB st).length := fun y hy => by
  obtain ⟨h1, x, hx, h2⟩ := jrd_keys _ _ _ y hy
  have h3 := sizes_mem hx
  have h4 := frs_tot (jlogB st)
  exact ⟨h1, by omega⟩
theorem jlogR_len (st : St) : 8 * (jlogR st).length ≤ (jlogB st).length := by
  have h1 := jrd_len (frs (jlogB st)) true 0
  have h2 := sizes_len (frs (jlogB st))
  have h3 := frs_tot (jlogB st)
  unfold jlogR; omega
theorem jnx_nn (st : St) : 0 ≤ jnx (jlogR st) ∧ jnx (jlogR st) ≤ grB + 1 := jnx_in fun y hy => (jlogR_in st y hy).1
end Go.Proofs

set_option linter.all false
set_option synthInstance.maxSize 100000
set_option synthInstance.maxHeartbeats 400000
namespace Go.Proofs
open Go Go.SL
attribute [local irreducible] CCall CO CC CX CD

/-! ### one record, packing, opening -/
theorem v_opn {b : Nat} {s : Vt} {L R : List HP} {G : World → Prop} [p : Pull (isV b) L s R]
    (h : ∀ jb ov g, gby g = s.old → One1 ov → Ht (pto b (cells [.pointer (some ⟨s.j.disk, 0, none⟩), .pointer (some ⟨jb, 0, none⟩), ov, .bool s.broken] 74) :: isJ jb s.j :: own encY 22 ov (gsv g) :: bigO vF g :: R) G) : Ht L G := Ht.pull p (v_open h)
theorem VGet_spec {L R K b} {s : Vt} {n : Int} [p : Pull (isV b) L s R] (hr : s.j.recs.length ≤ 100000) (hx : ∀ x ∈ s.old, x.length ≤ 1048576) (hj : ∀ x ∈ s.j.recs, x.2.length ≤ 1000000)
    (hout : (n < 0 ∨ s.j.next ≤ n) → Ht (isV b s :: R) (K (.tuple #[.slice none 0 0, .int .i64 13])))
    (hold : 0 ≤ n → n.toNat < s.old.length → ∀ v, Ht (own encB 5 v s.old[n.toNat]! :: isV b s :: R) (K (.tuple #[v, .int .i64 0])))
    (hno : 0 ≤ n → n < s.j.next → (s.old.length : Int) ≤ n → tfind n s.j.recs = none → Ht (isV b s :: R) (K (.tuple #[.slice none 0 0, .int .i64 13])))
    (hyes : 0 ≤ n → n < s.j.next → (s.old.length : Int) ≤ n → ∀ x, tfind n s.j.recs = some x → ∀ v, Ht (own encB 5 v x :: isV b s :: R) (K (.tuple #[v, .int .i64 0]))) :
    Ht L (CCall Tryz.prog 23 [.pointer (some ⟨b, 0, none⟩), .int .i64 n] K) := by
  refine Ht.pull p ?_
  refine ccall2 Tryz.func23 rfl (by decide) Tryz.ntmps23 (by rfl) (by decide) ?_
  repeat (refine stp ?_)
  by_cases h0 : n < 0
  · rewrite [decide_eq_true h0]
    repeat (refine stp ?_)
    exact ret2 rfl (hout (.inl h0))
  rewrite [decide_eq_false h0]
  repeat (refine stp ?_)
  refine VLen_spec (b := b) ?_
  repeat (refine stp ?_)
  refine ht_if ?_ ?_ <;> intro h1 <;> simp only [decide_eq_true_eq, decide_eq_false_iff_not, ge_iff_le] at h1
  · repeat (refine stp ?_)
    exact ret2 rfl (hout (.inr h1))
  refine v_opn (b := b) fun jb ov g hg hov => ?_
  have hgl : (gsv g).length = s.old.length := by rw [← hg, gsv_len, gby_len]
  repeat (refine stp ?_)
  refine ht_if ?_ ?_ <;> intro h2 <;> simp only [decide_eq_true_eq, decide_eq_false_iff_not] at h2
  · have hn : n.toNat < g.length := by rw [gsv_len] at h2; omega
    have hmem : g[n.toNat]! ∈ g := List.mem_of_getElem? (getB hn)
    have hgv : s.old[n.toNat]! = (g[n.toNat]!).2 := by
      rw [← hg, getElem!_pos g n.toNat hn, getElem!_pos (gby g) n.toNat (by rw [gby_len]; omega)]; simp [gby]
    have hxl : (g[n.toNat]!).2.length ≤ 1048576 := hx _ (by rw [← hg]; exact List.mem_map_of_mem (f := fun x : SB => x.2) hmem)
    repeat (refine stp ?_)
    refine co_index (xs := gsv g) (by omega) ?_
    intro hb
    repeat (refine stp ?_)
    rewrite [gsv_at hn]
    rewrite [show (Value.slice (g[n.toNat]!).1.1 (g[n.toNat]!).1.2.1 (g[n.toNat]!).1.2.2) = svY (g[n.toNat]!).1 from rfl]
    have hrx := fun (M M' : List HP) (q : Pull (bigO vF) M g M') => bigF_at (F := vF) rfl M M' (q := q) _ hmem
    refine yClone_spec (xs := (g[n.toNat]!).2) (rs := hrx _ _ inferInstance) (by omega) ?_
    intro v
    refine Ht.one1 (v := v) ?_
    intro _
    repeat (refine stp ?_)
    refine ret2 rfl ?_
    refine v_close (b := b) (jb := jb) (s := s) (ov := ov) (g := g) (R' := own encB 5 v (g[n.toNat]!).2 :: R) rfl rfl rfl hg ?_
    rw [← hgv]
    exact Ht.frm (hold (by omega) (by omega) v)
  · repeat (refine stp ?_)
    refine JGet_spec (b := jb) (by omega) hj (fun hf => ?_) (fun x hf v => ?_)
    · repeat (refine stp ?_)
      refine ret2 rfl ?_
      refine v_close (b := b) (jb := jb) (s := s) (ov := ov) (g := g) (R' := R) rfl rfl rfl hg ?_
      exact hno (by omega) (by omega) (by omega) hf
    · refine Ht.one1 (v := v) ?_
      intro _
      repeat (refine stp ?_)
      refine ret2 rfl ?_
      refine v_close (b := b) (jb := jb) (s := s) (ov := ov) (g := g) (R' := own encB 5 v x :: R) rfl rfl rfl hg ?_
      exact Ht.frm (hyes (by omega) (by omega) (by omega) x hf v)
theorem VPack_spec {L L1 R K b} {s : Vt} {st : St} [p : Pull (isV b) L s L1] [q : Pull (isStore s.j.disk) L1 st R] (hr : s.j.recs.length ≤ 1000) (hx : ∀ x ∈ s.j.recs, x.2.length ≤ 100000 ∧ 0 ≤ x.1 ∧ x.1 ≤ grB) (ho : (allV s).length ≤ 1000) (ha : ∀ x ∈ allV s, x.length ≤ 100000) (hl : (snapB (allV s)).length ≤ 1048568)
    (h : (s.broken = false → (saveV s st).1 = 0 → (saveV s st).2.ok) → Ht (isV b (packV s st).2.1 :: isStore s.j.disk (packV s st).2.2 :: R) (K (.int .i64 (packV s st).1))) :
    Ht L (CCall Tryz.prog 20 [.pointer (some ⟨b, 0, none⟩)] K) := by
  refine Ht.pull p (Ht.two q ?_)
  have hP : packV s st = if s.broken = true then (10, s, st)
    else if (saveV s st).1 ≠ 0 then ((saveV s st).1, { s with broken := s.broken || decide ((saveV s st).1 = 14) }, (saveV s st).2)
    else ((trimJ ((allV s).length : Int) s.j (saveV s st).2).1, ⟨allV s, (trimJ ((allV s).length : Int) s.j (saveV s st).2).2.1, s.broken || decide ((trimJ ((allV s).length : Int) s.j (saveV s st).2).1 = 14)⟩, (trimJ ((allV s).length : Int) s.j (saveV s st).2).2.2) := rfl
  have hol : s.old.length ≤ (allV s).length := by unfold allV; rw [List.length_append]; omega
  refine ccall1 Tryz.func20 rfl (by decide) Tryz.ntmps20 (by rfl) (by decide) ?_
  repeat (refine stp ?_)
  refine VSound_spec (b := b) ?_
  repeat (refine stp ?_)
  rewrite [Bool.not_not]
  refine ht_if ?_ ?_ <;> intro h0
  · rw [if_pos h0] at hP
    rw [hP] at h
    repeat (refine stp ?_)
    exact ret1 rfl (Ht.frm (h fun hh => by rw [h0] at hh; cases hh))
  rw [if_neg (by rw [h0]; decide)] at hP
  repeat (refine stp ?_)
  refine VAll_spec (b := b) vG rfl (by omega) (by omega) (fun x hxx => by have := ha x hxx; omega) (fun x hxx => by have := (hx x hxx).1; omega) fun lv g2 hg2 => ?_
  refine Ht.one1 (v := lv) ?_
  intro _
  refine v_opn (b := b) fun jb ov g hg hov => ?_
  repeat (refine stp ?_)
  have hg2l : g2.length = (allV s).length := by rw [← hg2, gby_len]
  refine Save_spec (ms := g2) (st := st) (fun x hxx => bigF_at (F := vG) rfl _ _ x hxx) (by omega) (by rw [hg2]; exact hl) ?_
  rewrite [hg2]
  rewrite [show moveM freshN snapN (makeF (snapB (allV s))) st = saveV s st from rfl]
  generalize saveV s st = sv at h hP
  obtain ⟨e, st2⟩ := sv
  dsimp only at h hP ⊢
  repeat (refine stp ?_)
  refine v_close (b := b) (jb := jb) (s := s) (ov := ov) (g := g) (R' := isStore s.j.disk st2 :: own encY 22 lv (gsv g2) :: bigO vG g2 :: R) rfl rfl rfl hg ?_
  refine vnote_spec (b := b) ?_
  repeat (refine stp ?_)
  refine ht_if ?_ ?_ <;> intro h1 <;> simp only [decide_eq_true_eq, decide_eq_false_iff_not, ne_eq, Classical.not_not] at h1
  · rw [if_pos h1] at hP
    rw [hP] at h
    repeat (refine stp ?_)
    exact ret1 rfl (Ht.frm (h fun _ hh => absurd hh h1))
  rw [if_neg (by simp [h1])] at hP
  subst h1
  rewrite [show (s.broken || decide ((0 : Int) = 14)) = s.broken from by simp]
  refine Ht.know (p := st2.ok) (fun w t => st_ok ((inferInstance : Frm _ (isStore s.j.disk st2 :: R)).h _ _ t)) (fun hok => ?_)
  replace h := h fun _ _ => hok
  refine v_opn (b := b) fun jb ov g hg hov => ?_
  dsimp only at hg ⊢
  repeat (refine stp ?_)
  rewrite [gsv_len, hg2l]
  refine Trim_spec (b := jb) (s := s.j) (st := st2) (k := ((allV s).length : Int)) hr hx ?_
  have hd : (trimJ ((allV s).length : Int) s.j st2).2.1.disk = s.j.disk := by unfold trimJ; repeat (first | rfl | split)
  generalize trimJ ((allV s).length : Int) s.j st2 = tj at hd hP
  obtain ⟨te, tj, tst⟩ := tj
  dsimp only at hd hP ⊢
  rw [hP] at h
  dsimp only at h
  repeat (refine stp ?_)
  refine Ht.conseq (L' := isV b ⟨allV s, tj, s.broken⟩ :: isStore s.j.disk tst :: R) ?_ (fun w t => ?_)
  · refine vnote_spec (b := b) ?_
    repeat (refine stp ?_)
    exact ret1 rfl (Ht.frm h)
  · have t1 : Sat (pto b (cells [.pointer (some ⟨s.j.disk, 0, none⟩), .pointer (some ⟨jb, 0, none⟩), lv, .bool s.broken] 74) :: isJ jb tj :: own encY 22 lv (gsv g2) :: bigO vG g2 :: isStore s.j.disk tst :: R) w := Frm.h _ _ t
    have t2 : Sat (pto b (cells [.pointer (some ⟨tj.disk, 0, none⟩), .pointer (some ⟨jb, 0, none⟩), lv, .bool s.broken] 74) :: isJ jb tj :: own encY 22 lv (gsv g2) :: bigO vF g2 :: isStore s.j.disk tst :: R) w := by rw [hd]; exact t1
    exact v_shut (s := ⟨allV s, tj, s.broken⟩) (R' := isStore s.j.disk tst :: R) rfl rfl rfl hg2 t2
end Go.Proofs

set_option linter.all false
set_option synthInstance.maxSize 100000
set_option synthInstance.maxHeartbeats 400000
namespace Go.Proofs
open Go Go.SL
attribute [local irreducible] CCall CO CC CX CD

theorem load_cut (st : St) : loadM (jcutS st) = loadM st := by
  unfold jcutS
  split
  · exact loadM_eq (mget_putn snap_log)
  · rfl
theorem VOpen_spec {L R K d} {st : St} [p : Pull (isStore d) L st R] (hd : st.down = false) (hl : st.left < 0) (hb : (jlogB st).length ≤ 2000000)
    (hbad : (openV d st).1 = 8 → Ht (isStore d (jcutS st) :: R) (K (.tuple #[.pointer none, .int .i64 8])))
    (hok : (openV d st).1 = 0 → ∀ b, Ht (isV b (openV d st).2 :: isStore d (jcutS st) :: R) (K (.tuple #[.pointer (some ⟨b, 0, none⟩), .int .i64 0]))) :
    Ht L (CCall Tryz.prog 11 [.pointer (some ⟨d, 0, none⟩)] K) := by
  refine Ht.pull p ?_
  have hO : openV d st = if jlogR st = [] then (0, ⟨(loadM st).2, ⟨[], (loadM st).2.length, false, d⟩, false⟩)
    else if ((loadM st).2.length : Int) < firstJ ⟨jlogR st, jnx (jlogR st), false, d⟩ ∨ jnx (jlogR st) < (loadM st).2.length then (8, ⟨(loadM st).2, ⟨jlogR st, jnx (jlogR st), false, d⟩, false⟩)
    else (0, ⟨(loadM st).2, ⟨jlogR st, jnx (jlogR st), false, d⟩, false⟩) := rfl
  have hfn := @first_next st d
  have hlo := (load_le st).1
  refine ccall1 Tryz.func11 rfl (by decide) Tryz.ntmps11 (by rfl) (by decide) ?_
  repeat (refine stp ?_)
  refine JOpen_spec hd hl hb fun jb => ?_
  repeat (refine stp ?_)
  intro b
  repeat (refine stp ?_)
  refine Load_spec vF rfl fun lv g hg => ?_
  rewrite [load_cut]
  rw [load_cut] at hg
  have hgl : (gsv g).length = (loadM st).2.length := by rw [← hg, gsv_len, gby_len]
  refine Ht.one1 (v := lv) ?_
  intro _
  repeat (refine stp ?_)
  refine ht_draw Tryz.can11x7 Tryz.mixed (by kernel_rfl) ?_
  repeat (refine stp ?_)
  refine First_spec (b := jb) ?_
  repeat (refine stp ?_)
  refine Next_spec (b := jb) ?_
  repeat (refine stp ?_)
  rewrite [show decide (firstJ ⟨jlogR st, jnx (jlogR st), false, d⟩ = jnx (jlogR st)) = decide (jlogR st = []) from by simp only [hfn]]
  have hnx := jnx_nn st
  refine ht_if ?_ ?_ <;> intro h0 <;> simp only [decide_eq_true_eq, decide_eq_false_iff_not] at h0
  · rw [if_pos h0] at hO
    rw [hO] at hok
    repeat (refine stp ?_)
    refine Start_spec (b := jb) (s := ⟨jlogR st, jnx (jlogR st), false, d⟩) rfl h0 (by omega) (by unfold grB; omega) ?_
    repeat (refine stp ?_)
    refine ret2 rfl ?_
    refine v_close (b := b) (jb := jb) (s := ⟨(loadM st).2, ⟨[], (loadM st).2.length, false, d⟩, false⟩) (ov := lv) (g := g) (R' := isStore d (jcutS st) :: R) rfl (by rw [h0, hgl]) rfl hg ?_
    exact hok rfl b
  · rw [if_neg h0] at hO
    rw [hO] at hok hbad
    have hbad' : (((loadM st).2.length : Int) < firstJ ⟨jlogR st, jnx (jlogR st), false, d⟩ ∨ jnx (jlogR st) < (loadM st).2.length) → Ht (isStore d (jcutS st) :: R) (K (.tuple #[.pointer none, .int .i64 8])) := fun hh => hbad (by rw [if_pos hh])
    repeat (refine stp ?_)
    refine First_spec (b := jb) ?_
    repeat (refine stp ?_)
    rewrite [hgl]
    by_cases h1 : ((loadM st).2.length : Int) < firstJ ⟨jlogR st, jnx (jlogR st), false, d⟩
    · rewrite [decide_eq_true h1]
      repeat (refine stp ?_)
      exact ret2 rfl (Ht.frm (hbad' (.inl h1)))
    · rewrite [decide_eq_false h1]
      repeat (refine stp ?_)
      refine Next_spec (b := jb) ?_
      repeat (refine stp ?_)
      refine ht_if ?_ ?_ <;> intro h2 <;> simp only [decide_eq_true_eq, decide_eq_false_iff_not] at h2
      · repeat (refine stp ?_)
        exact ret2 rfl (Ht.frm (hbad' (.inr h2)))
      · rw [if_neg (fun hh => hh.elim h1 h2)] at hok
        repeat (refine stp ?_)
        refine ret2 rfl ?_
        refine v_close (b := b) (jb := jb) (s := ⟨(loadM st).2, ⟨jlogR st, jnx (jlogR st), false, d⟩, false⟩) (ov := lv) (g := g) (R' := isStore d (jcutS st) :: R) rfl rfl rfl hg ?_
        exact hok rfl b
end Go.Proofs

set_option linter.all false
set_option synthInstance.maxSize 100000
set_option synthInstance.maxHeartbeats 400000
namespace Go.Proofs
open Go Go.SL

/-! ### a log that was cut once stays -/
theorem num4_take {b : List UInt8} {m : Nat} (h : 4 ≤ m) : num4 (b.take m) = num4 b := by
  have e : (b.take m).take 4 = b.take 4 := by rw [List.take_take, Nat.min_eq_left h]
  match b, m, h with
  | [], m + 4, _ => rfl
  | [x], m + 4, _ => rfl
  | [x, y], m + 4, _ => rfl
  | [x, y, z], m + 4, _ => rfl
  | x :: y :: z :: u :: l, m + 4, _ => rfl
theorem frame_take {b : List UInt8} {m : Nat} (h : errF b = 0) (hm : sizeF b ≤ m) : errF (b.take m) = 0 ∧ bodyF (b.take m) = bodyF b ∧ sizeF (b.take m) = sizeF b := by
  obtain ⟨h1, h2, h3⟩ := errF_ok h
  have hs : sizeF b = num4 b + 8 := by unfold sizeF; rw [if_pos h]
  have hn : num4 (b.take m) = num4 b := num4_take (by omega)
  have ht : (b.take m).take (num4 b + 4) = b.take (num4 b + 4) := by rw [List.take_take, Nat.min_eq_left (by omega)]
  have hd : num4 ((b.take m).drop (num4 b + 4)) = num4 (b.drop (num4 b + 4)) := by rw [List.drop_take]; exact num4_take (by omega)
  have hl : num4 b + 8 ≤ (b.take m).length := by rw [List.length_take]; omega
  have he : errF (b.take m) = 0 := by
    have h0 := h
    unfold errF at h0 ⊢
    rw [hn, ht, hd]
    rw [if_neg (by omega), if_neg (by omega), if_neg (by omega)] at h0
    rw [if_neg (by omega), if_neg (by omega), if_neg (by omega)]
    exact h0
  refine ⟨he, ?_, ?_⟩
  · unfold bodyF; rw [if_pos he, if_pos h, hn, ht]
  · unfold sizeF; rw [if_pos he, if_pos h, hn]
theorem frs_take : ∀ (i : Nat) (b : List UInt8), i ≤ (frs b).length → frs (b.take (sizes ((frs b).take i))) = (frs b).take i
  | 0, b, _ => by rw [List.take_zero]; rfl
  | i + 1, b, hi => by
    by_cases he : errF b = 0
    · have hc : frs b = bodyF b :: frs (b.drop (sizeF b)) := by rw [frs_eq, if_neg (by simp [he])]
      obtain ⟨hz1, hz2⟩ := sizeF_ok he
      have hi2 : i ≤ (frs (b.drop (sizeF b))).length := by
        rw [hc, List.length_cons] at hi; omega
      have ih := frs_take i (b.drop (sizeF b)) hi2
      rw [hc, List.take_succ_cons, sizes_cons, ← hz1]
      obtain ⟨g1, g2, g3⟩ := frame_take (m := sizeF b + sizes ((frs (b.drop (sizeF b))).take i)) he (by omega)
      rw [frs_eq, if_neg (by simp [g1]), g2, g3]
      congr 1
      rw [List.drop_take, show sizeF b + sizes ((frs (b.drop (sizeF b))).take i) - sizeF b = sizes ((frs (b.drop (sizeF b))).take i) from by omega]
      exact ih
    · rw [frs_eq, if_pos he] at hi
      simp at hi
theorem jrd_pre : ∀ (l : List (List UInt8)) (f : Bool) (n : Int), (jrd f n l).2 = sizes (l.take (jrd f n l).1.length) ∧ jrd f n (l.take (jrd f n l).1.length) = jrd f n l
  | [], f, n => ⟨rfl, rfl⟩
  | x :: l, f, n => by
    by_cases hc : (countM 0 x grB).1 ≠ 0 ∨ (f = false ∧ (countM 0 x grB).2.1 ≠ n)
    · have e : jrd f n (x :: l) = ([], 0) := by simp only [jrd]; rw [if_pos hc]
      rw [e]; exact ⟨rfl, rfl⟩
    · obtain ⟨h1, h2⟩ := jrd_pre l false ((countM 0 x grB).2.1 + 1)
      have e : jrd f n (x :: l) = (((countM 0 x grB).2.1, x.drop (countM 0 x grB).2.2) :: (jrd false ((countM 0 x grB).2.1 + 1) l).1, x.length + 8 + (jrd false ((countM 0 x grB).2.1 + 1) l).2) := by simp only [jrd]; rw [if_neg hc]
      rw [e]
      simp only [List.length_cons, List.take_succ_cons]
      refine ⟨by rw [sizes_cons, h1], ?_⟩
      conv => lhs; simp only [jrd]
      rw [if_neg hc, h2]
theorem jlog_cut (st : St) : jlogB (jcutS st) = (jlogB st).take (jlogS st) := by
  have h1 := jrd_le (frs (jlogB st)) true 0
  unfold jcutS
  split
  · show (mget (mput st.files logN _) logN).getD [] = _
    rw [mget_put, Option.getD_some]
  · rw [List.take_of_length_le (by omega)]
theorem jlog_again (st : St) : jlogR (jcutS st) = jlogR st ∧ jlogS (jcutS st) = jlogS st ∧ jcutS (jcutS st) = jcutS st := by
  obtain ⟨h1, h2⟩ := jrd_pre (frs (jlogB st)) true 0
  have hl := jrd_len (frs (jlogB st)) true 0
  have hf : frs (jlogB (jcutS st)) = (frs (jlogB st)).take (jrd true 0 (frs (jlogB st))).1.length := by
    rw [jlog_cut]
    unfold jlogS
    rw [h1]
    exact frs_take _ _ hl
  have hR : jlogR (jcutS st) = jlogR st := by unfold jlogR; rw [hf, h2]
  have hS : jlogS (jcutS st) = jlogS st := by unfold jlogS; rw [hf, h2]
  refine ⟨hR, hS, ?_⟩
  exact if_neg (by rw [hS, jlog_cut, List.length_take]; omega)
theorem open_again (d : Nat) (st : St) : openV d (jcutS st) = openV d st := by
  unfold openV
  rw [(jlog_again st).1, load_cut]

/-! ### what the document says of two files -/
def rec13 (old : List (List UInt8)) (R : List (Int × List UInt8)) : List (List UInt8) × Int :=
  if R = [] then (old, 0)
  else if (old.length : Int) < (R.headD (0, [])).1 ∨ jnx R < old.length then ([], 8)
  else (old ++ (R.filter fun x => decide ((old.length : Int) ≤ x.1)).map fun x => x.2, 0)
theorem open_rec (d : Nat) (st : St) : (openV d st).1 = (rec13 (loadM st).2 (jlogR st)).2 ∧ ((openV d st).1 = 0 ∨ (openV d st).1 = 8) ∧ (openV d st).2.j.disk = d ∧ (openV d st).2.broken = false ∧
    ((openV d st).1 = 0 → allV (openV d st).2 = (rec13 (loadM st).2 (jlogR st)).1 ∧ (openV d st).2.j.next = (rec13 (loadM st).2 (jlogR st)).1.length) := by
  obtain ⟨k, L, hR, h0, h1⟩ := jlogR_num st
  unfold openV rec13
  rw [hR]
  generalize (loadM st).2 = old
  cases L with
  | nil =>
    rw [if_pos (show num k [] = [] from rfl), if_pos (show num k [] = [] from rfl)]
    refine ⟨rfl, .inl rfl, rfl, rfl, fun _ => ⟨?_, rfl⟩⟩
    show old ++ fromJ _ [] = old
    rw [show fromJ (old.length : Int) [] = [] from rfl, List.append_nil]
  | cons x L =>
    have hne : ¬ num k (x :: L) = [] := by simp [num]
    rw [if_neg hne, if_neg hne]
    have hx := num_nx (x :: L) k (by simp)
    have hfirst : firstJ ⟨num k (x :: L), jnx (num k (x :: L)), false, d⟩ = k := rfl
    have hh : ((num k (x :: L)).headD (0, [])).1 = k := rfl
    rw [hfirst, hh]
    by_cases hc : (old.length : Int) < k ∨ jnx (num k (x :: L)) < old.length
    · rw [if_pos hc, if_pos hc]
      exact ⟨rfl, .inr rfl, rfl, rfl, fun hh => by cases hh⟩
    · rw [if_neg hc, if_neg hc]
      rw [hx] at hc
      have hff : ((num k (x :: L)).filter fun y => decide ((old.length : Int) ≤ y.1)).map (fun y => y.2) = fromJ (old.length : Int) (num k (x :: L)) := by
        rw [srt_from (num_srt _ _)]; rfl
      have hfl : (fromJ (old.length : Int) (num k (x :: L))).length = (x :: L).length - (old.length - k).toNat := by
        unfold fromJ
        rw [List.length_map, List.length_drop, num_pos _ _ _ (by omega), num_len]
        omega
      refine ⟨rfl, .inl rfl, rfl, rfl, fun _ => ⟨?_, ?_⟩⟩
      · show old ++ fromJ _ _ = _
        rw [hff]
      · show jnx (num k (x :: L)) = _
        rw [hff, List.length_append, hfl, hx]
        omega
end Go.Proofs

set_option linter.all false
set_option synthInstance.maxSize 100000
set_option synthInstance.maxHeartbeats 400000
namespace Go.Proofs
open Go Go.SL

/-! ### the law of a vault, plain -/
theorem Few.drop {hv : List (List UInt8)} (h : Few hv) (n : Nat) : ∀ y ∈ hv.drop n, y.length ≤ 1000000 := fun y hy => by
  have := h.x y (List.mem_of_mem_drop hy); omega
theorem VMem.len {hv : List (List UInt8)} {n : Nat} {s : Vt} (m : VMem hv n s) : s.j.recs.length = hv.length - n := by
  rw [m.recs, num_len, List.length_drop]
theorem vadd {hv : List (List UInt8)} {n : Nat} {s : Vt} {st : St} {x : List UInt8} (hf : Few hv) (hx : x.length ≤ 100) (hn : hv.length < 100) (m : VMem hv n s) (l : VLive s st) :
    (addV x s st).2.2.room = st.room ∧ usedF (addV x s st).2.2.files ≤ usedF st.files + x.length + 9 ∧ (addV x s st).2.1.j.disk = s.j.disk ∧
    (((addV x s st).1 = 0 ∧ VMem (hv ++ [x]) n (addV x s st).2.1 ∧ VLive (addV x s st).2.1 (addV x s st).2.2) ∨
     ((addV x s st).1 = 14 ∧ VMem hv n (addV x s st).2.1 ∧ (addV x s st).2.1.broken = true ∧ (addV x s st).2.2.down = true ∧ VFile hv (addV x s st).2.2) ∨
     ((addV x s st).1 = 7 ∧ (addV x s st).2.1 = s ∧ (addV x s st).2.2 = st ∧ st.room - st.used < x.length + 9)) := by
  have hfr : (recF s.j.next x).length = x.length + 9 := by rw [m.next]; exact recF_len1 (by omega)
  have hF := m.file l
  obtain ⟨old, ⟨recs, next, jbr, disk⟩, br⟩ := s
  obtain ⟨lo, hi, hold, hrecs, hnext⟩ := m
  obtain ⟨vb, jb, up, snap, log⟩ := l
  dsimp only at *
  subst vb; subst jb
  have hA : addV x ⟨old, ⟨recs, next, false, disk⟩, false⟩ st = if (appendM logN (recF next x) st).1 ≠ 0 then ((appendM logN (recF next x) st).1, ⟨old, ⟨recs, next, decide ((appendM logN (recF next x) st).1 = 14), disk⟩, decide ((appendM logN (recF next x) st).1 = 14)⟩, (appendM logN (recF next x) st).2)
      else (0, ⟨old, ⟨tput next x recs, next + 1, false, disk⟩, false⟩, (appendM logN (recF next x) st).2) := by
    unfold addV appJ
    dsimp only
    rw [if_neg (by decide), if_neg (by omega), if_neg (by decide), if_neg (by unfold grB; omega)]
    split
    · simp
    · simp
  rw [hA]
  rcases appendM_die (name := logN) (xs := recF next x) (s := st) up logN_ok (recF_ne _ _) with ⟨h1, h2⟩ | ⟨h1, h2⟩
  · rw [h2, if_pos (by simp)]
    exact ⟨rfl, by dsimp only; omega, rfl, .inr (.inr ⟨rfl, rfl, rfl, by rw [hfr] at h1; omega⟩)⟩
  · rw [h2]
    obtain ⟨a1, a2, a3, a4⟩ := growM_die (name := logN) (recF next x) st up
    generalize growM logN (recF next x) st = g at a1 a2 a3 a4 ⊢
    obtain ⟨e, t⟩ := g
    dsimp only at a1 a2 a3 a4 ⊢
    rw [hfr] at a3
    have hld : loadM t = loadM st := loadM_eq (a1 snapN snap_log)
    rcases a4 with ⟨b1, b2, b3⟩ | ⟨b1, b2, k, b3, b4⟩
    · subst b1
      rw [if_neg (by simp)]
      refine ⟨a2, by omega, rfl, .inl ⟨rfl, ⟨lo, ?_, ?_, ?_, ?_⟩, ⟨rfl, rfl, b2, by rw [hld]; exact snap, ?_⟩⟩⟩
      · show old.length ≤ _; rw [List.length_append]; omega
      · show old = _; rw [List.take_append_of_le_length hi]; exact hold
      · show tput next x recs = _
        rw [List.drop_append_of_le_length (by omega), hrecs, hnext]
        have h6 : (hv.length : Int) = (n : Int) + ((hv.drop n).length : Int) := by rw [List.length_drop]; omega
        rw [h6]; exact num_put _ _ _
      · show next + 1 = _; rw [hnext, List.length_append]; rfl
      · show jlogB t = recsF (tput next x recs)
        have h6 : next = (n : Int) + ((hv.drop n).length : Int) := by rw [List.length_drop]; omega
        have h7 : tput next x recs = recs ++ [(next, x)] := by
          rw [hrecs, h6, num_put, num_app]; rfl
        rw [h7, recsF_snoc, ← log]; exact b3
    · subst b1
      rw [if_pos (by simp)]
      refine ⟨a2, by dsimp only; omega, rfl, .inr (.inl ⟨rfl, ⟨lo, hi, hold, hrecs, hnext⟩, rfl, b2, ?_⟩)⟩
      refine ⟨old.length, n, (recF next x).take k, lo, hi, by rw [hld]; exact snap.trans hold, ?_, ?_, ?_⟩
      · rw [← hrecs, ← log]; exact b4
      · have hsl := @sevensM_len (UInt64.ofInt next) 10
        unfold recF
        unfold recF at b3
        rw [makeF_len] at b3
        exact frs_part (by rw [List.length_append]; omega) b3
      · rw [List.length_take]; omega
theorem recsB_most {m : Nat} : ∀ (l : List (List UInt8)), (∀ x ∈ l, x.length ≤ m) → (recsB l).length ≤ (m + 11) * l.length
  | [], _ => by simp [recsB]
  | x :: l, h => by
    have h1 := recsB_most l (fun y hy => h y (List.mem_cons_of_mem _ hy))
    have h2 := h x List.mem_cons_self
    have h3 := @sevensM_len (UInt64.ofInt (x.length : Int)) 10
    have e : (recsB (x :: l)).length = (sevensM (UInt64.ofInt (x.length : Int)) 10).length + x.length + (recsB l).length := by unfold recsB recB; rw [List.map_cons, List.flatten_cons, List.length_append, List.length_append]
    rw [e, List.length_cons, Nat.mul_succ]; omega
theorem Few.snap {hv : List (List UInt8)} (h : Few hv) : (snapB hv).length ≤ 12000 := by
  have h1 := recsB_most (m := 100) hv h.x
  have h3 := @sevensM_len (UInt64.ofInt (hv.length : Int)) 10
  unfold snapB
  rw [List.length_append]
  have := h.n
  omega
theorem Few.load {hv : List (List UInt8)} (h : Few hv) {st : St} (hg : mget st.files snapN = some (makeF (snapB hv))) : (loadM st).2 = hv := by
  have hs := h.snap
  rw [loadM_of hg, dec_enc (by have := h.n; omega) (fun x hx => by have := h.x x hx; omega) (by omega)]
  rfl
theorem vpack {hv : List (List UInt8)} {n : Nat} {s : Vt} {st : St} (hf : Few hv) (m : VMem hv n s) (l : VLive s st) (hk : s.broken = false → (saveV s st).1 = 0 → (saveV s st).2.ok) :
    (packV s st).2.2.room = st.room ∧ usedF (packV s st).2.2.files ≤ usedF st.files + (makeF (snapB hv)).length ∧ (packV s st).2.1.j.disk = s.j.disk ∧
    (((packV s st).1 = 0 ∧ VMem hv hv.length (packV s st).2.1 ∧ VLive (packV s st).2.1 (packV s st).2.2) ∨
     ((packV s st).1 = 14 ∧ VMem hv n (packV s st).2.1 ∧ (packV s st).2.1.broken = true ∧ (packV s st).2.2.down = true ∧ VFile hv (packV s st).2.2) ∨
     ((packV s st).1 = 7 ∧ (packV s st).2.1 = s ∧ (packV s st).2.2 = st ∧ st.room - st.used < (makeF (snapB hv)).length)) := by
  have hF := m.file l
  have hall := m.all
  have hk1 := hk l.vb
  clear hk
  have hsv : saveV s st = moveM freshN snapN (makeF (snapB hv)) st := by unfold saveV; rw [hall]
  rw [hsv] at hk1
  have hP : packV s st = if (moveM freshN snapN (makeF (snapB hv)) st).1 ≠ 0 then ((moveM freshN snapN (makeF (snapB hv)) st).1, { s with broken := s.broken || decide ((moveM freshN snapN (makeF (snapB hv)) st).1 = 14) }, (moveM freshN snapN (makeF (snapB hv)) st).2)
    else ((trimJ (hv.length : Int) s.j (moveM freshN snapN (makeF (snapB hv)) st).2).1, ⟨hv, (trimJ (hv.length : Int) s.j (moveM freshN snapN (makeF (snapB hv)) st).2).2.1, s.broken || decide ((trimJ (hv.length : Int) s.j (moveM freshN snapN (makeF (snapB hv)) st).2).1 = 14)⟩, (trimJ (hv.length : Int) s.j (moveM freshN snapN (makeF (snapB hv)) st).2).2.2) := by
    unfold packV
    rw [if_neg (by rw [l.vb]; decide), hsv, hall]
  rw [hP]
  have hdie := moveM_die (fr := freshN) (to := snapN) (f := makeF (snapB hv)) (s := st) l.up freshN_ok snapN_ok snap_ne
  generalize moveM freshN snapN (makeF (snapB hv)) st = mv at hk1 hdie ⊢
  obtain ⟨e, t⟩ := mv
  dsimp only at hk1 hdie ⊢
  obtain ⟨old, ⟨recs, next, jbr, disk⟩, br⟩ := s
  obtain ⟨lo, hi, hold, hrecs, hnext⟩ := m
  obtain ⟨vb, jb, up, snap, log⟩ := l
  dsimp only at *
  subst vb; subst jb
  rcases hdie with ⟨h1, h2⟩ | ⟨h1, a2, a3, h4⟩
  · injection h2 with e1 e2
    subst e1; subst e2
    rw [if_pos (by simp)]
    exact ⟨rfl, by dsimp only; omega, rfl, .inr (.inr ⟨rfl, rfl, rfl, by omega⟩)⟩
  rcases h4 with ⟨b1, b2, b3, b4⟩ | ⟨b1, b2, b3⟩
  · subst b1
    rw [if_neg (by simp)]
    have hlg : jlogB t = jlogB st := jlogB_eq (b4 logN log_fresh log_snap)
    have hld := hf.load b3
    rw [trimJ_move rfl]
    have hdr : recs.drop (tpos (hv.length : Int) recs) = [] := by
      refine List.drop_of_length_le ?_
      rw [hrecs, num_pos _ _ _ (by omega), num_len, List.length_drop]; omega
    dsimp only
    rw [hdr]
    have hk2 := hk1 rfl
    have hdie2 := moveM_die (fr := lognN) (to := logN) (f := recsF []) (s := t) b2 lognN_ok logN_ok log_ne
    generalize moveM lognN logN (recsF []) t = mv2 at hdie2 ⊢
    obtain ⟨e2, t2⟩ := mv2
    dsimp only at hdie2 ⊢
    have hr0 : (recsF []).length = 0 := rfl
    rcases hdie2 with ⟨c1, c2⟩ | ⟨c1, c2, c3, c4⟩
    · have := hk2.1
      rw [hr0] at c1
      omega
    rw [hr0] at c3
    rcases c4 with ⟨d1, d2, d3, d4⟩ | ⟨d1, d2, d3⟩
    · subst d1
      have hld2 : (loadM t2).2 = hv := by rw [loadM_eq (d4 snapN snap_logn snap_log)]; exact hld
      refine ⟨c2.trans a2, by omega, rfl, .inl ⟨rfl, ⟨Nat.le_refl _, Nat.le_refl _, ?_, ?_, hnext⟩, ⟨rfl, rfl, d2, hld2, ?_⟩⟩⟩
      · show hv = hv.take hv.length; rw [List.take_length]
      · show [] = num (hv.length : Int) (hv.drop hv.length); rw [List.drop_length]; rfl
      · show jlogB t2 = recsF []
        unfold jlogB; rw [d3]; rfl
    · subst d1
      have hld2 : (loadM t2).2 = hv := by rw [loadM_eq (d3 snapN snap_logn)]; exact hld
      refine ⟨c2.trans a2, by omega, rfl, .inr (.inl ⟨rfl, ⟨by dsimp only; omega, Nat.le_refl _, ?_, hrecs, hnext⟩, rfl, d2, ?_⟩)⟩
      · show hv = hv.take hv.length; rw [List.take_length]
      · refine ⟨hv.length, n, [], by omega, Nat.le_refl _, by rw [List.take_length]; exact hld2, ?_, rfl, by simp⟩
        rw [List.append_nil, jlogB_eq (d3 logN log_ne), hlg, log, hrecs]
  · subst b1
    rw [if_pos (by simp)]
    refine ⟨a2, a3, rfl, .inr (.inl ⟨rfl, ⟨lo, hi, hold, hrecs, hnext⟩, rfl, b2, ?_⟩)⟩
    refine ⟨old.length, n, [], lo, hi, ?_, ?_, rfl, by simp⟩
    · rw [loadM_eq (b3 snapN snap_ne)]; exact snap.trans hold
    · rw [List.append_nil, jlogB_eq (b3 logN log_fresh), log, hrecs]
end Go.Proofs

set_option linter.all false
set_option synthInstance.maxSize 100000
set_option synthInstance.maxHeartbeats 400000
namespace Go.Proofs
open Go Go.SL

theorem add_free {hv : List (List UInt8)} {n : Nat} {s : Vt} {left room : Int} {f : List (ByteArray × List UInt8)} {x : List UInt8} (hl : left < 0) (hf : Few hv) (m : VMem hv n s) (l : VLive s ⟨left, false, room, f⟩) (hroom : (x.length : Int) + 19 ≤ room - usedF f) :
    addV x s ⟨left, false, room, f⟩ = (0, ⟨s.old, ⟨tput s.j.next x s.j.recs, s.j.next + 1, false, s.j.disk⟩, false⟩, ⟨left, false, room, mput f logN ((mget f logN).getD [] ++ recF s.j.next x)⟩) := by
  have hfl := recF_len s.j.next x
  have := hf.n
  have hnx := m.next
  unfold addV appJ
  rw [if_neg (by rw [l.vb]; decide), if_neg (by omega), if_neg (by rw [l.jb]; decide), if_neg (by unfold grB; omega), appM_free hl logN_ok (recF_ne _ _) (by omega), if_neg (by simp)]
  simp [l.vb, l.jb]
theorem pack_free {hv : List (List UInt8)} {n : Nat} {s : Vt} {left room : Int} {f : List (ByteArray × List UInt8)} (hl : left < 0) (m : VMem hv n s) (l : VLive s ⟨left, false, room, f⟩) (hroom : ((makeF (snapB hv)).length : Int) ≤ room - usedF f) :
    packV s ⟨left, false, room, f⟩ = (0, ⟨hv, ⟨[], s.j.next, false, s.j.disk⟩, false⟩, ⟨left, false, room, mput (mdel (mput (mput (mdel (mput f freshN (makeF (snapB hv))) freshN) snapN (makeF (snapB hv))) lognN []) lognN) logN []⟩) := by
  have hall := m.all
  have hdie := moveM_die (fr := freshN) (to := snapN) (f := makeF (snapB hv)) (s := ⟨left, false, room, f⟩) rfl freshN_ok snapN_ok snap_ne
  have hmv := moveM_all (fr := freshN) (to := snapN) (f := makeF (snapB hv)) (fs := f) (room := room) hl freshN_ok snapN_ok (by omega)
  have hu : usedF (mput (mdel (mput f freshN (makeF (snapB hv))) freshN) snapN (makeF (snapB hv))) ≤ usedF f + (makeF (snapB hv)).length := by
    rw [hmv] at hdie
    rcases hdie with ⟨_, h2⟩ | ⟨_, _, a3, _⟩
    · injection h2 with e1 e2; cases e1
    · exact a3
  have hsv : saveV s ⟨left, false, room, f⟩ = (0, ⟨left, false, room, mput (mdel (mput f freshN (makeF (snapB hv))) freshN) snapN (makeF (snapB hv))⟩) := by unfold saveV; rw [hall, hmv]
  unfold packV
  rw [if_neg (by rw [l.vb]; decide), hsv, hall, if_neg (by simp), trimJ_move l.jb]
  have hdr : s.j.recs.drop (tpos (hv.length : Int) s.j.recs) = [] := by
    refine List.drop_of_length_le ?_
    have h1 := m.lo
    have h2 := m.hi
    rw [m.recs, num_pos _ _ _ (by omega), num_len, List.length_drop]; omega
  rw [hdr]
  have hr0 : (recsF []).length = 0 := rfl
  rw [moveM_all hl lognN_ok logN_ok (by rw [hr0]; omega)]
  simp [l.vb, l.jb, recsF]
theorem Few.app {hv : List (List UInt8)} {x : List UInt8} (h : Few hv) (hn : hv.length < 100) (hx : x.length ≤ 100) : Few (hv ++ [x]) :=
  ⟨by rw [List.length_append]; simp; omega, fun y hy => by
    rcases List.mem_append.1 hy with h1 | h1
    · exact h.x y h1
    · rw [List.mem_singleton.1 h1]; exact hx⟩
theorem Few.nil : Few [] := ⟨by simp, by simp⟩
theorem vopen {hv : List (List UInt8)} {st : St} {d : Nat} (hf : Few hv) (h : VFile hv st) (hd : st.down = false) :
    (openV d st).1 = 0 ∧ (openV d st).2.j.disk = d ∧ (∃ n, VMem hv n (openV d st).2) ∧ VLive (openV d st).2 (jcutS st) ∧ (jcutS st).room = st.room ∧ (jcutS st).left = st.left ∧ (jcutS st).down = false ∧ usedF (jcutS st).files ≤ usedF st.files ∧ (jlogB st).length ≤ 2000000 := by
  obtain ⟨m, n, p, h1, h2, h3, h4, h5, h6⟩ := h
  have hfn := hf.n
  have hl1 := hf.drop n
  have hb1 : n + (hv.drop n).length ≤ grB + 1 := by rw [List.length_drop]; unfold grB; omega
  have hR : jlogR st = num (n : Int) (hv.drop n) := jlogR_of h4 h5 (by omega) hb1 hl1
  have hS : jlogS st = (recsF (num (n : Int) (hv.drop n))).length := by
    unfold jlogS
    rw [h4, frs_recs _ _ (fun x hx => hl1 _ (num_mem hx).2.2), h5, List.append_nil, jrd_recs _ _ 0 true (by omega) hb1 (fun hh => by cases hh)]
  have hrl := recsF_le (l := num (n : Int) (hv.drop n)) (m := 100) (fun r hr => hf.x _ (List.mem_of_mem_drop (num_mem hr).2.2))
  rw [num_len, List.length_drop] at hrl
  have hbl : (jlogB st).length ≤ 2000000 := by
    rw [h4, List.length_append]
    have : (hv.length - n) * (100 + 19) ≤ 100 * 119 := Nat.mul_le_mul (by omega) (by omega)
    omega
  have hlog : jlogB (jcutS st) = recsF (num (n : Int) (hv.drop n)) := by
    unfold jcutS
    split
    · show (mget (mput st.files logN _) logN).getD [] = _
      rw [mget_put, Option.getD_some, hS, h4, List.take_left']
      rfl
    · rename_i hh
      rw [hS, h4, List.length_append] at hh
      have hp : p = [] := List.eq_nil_of_length_eq_zero (by omega)
      rw [h4, hp, List.append_nil]
  have hu : usedF (jcutS st).files ≤ usedF st.files := by
    unfold jcutS
    split
    · show usedF (mput st.files logN _) ≤ _
      have hm := usedF_mput st.files logN ((jlogB st).take (jlogS st))
      unfold jlogB at hm ⊢
      rw [List.length_take] at hm
      omega
    · exact Nat.le_refl _
  have hsame : (jcutS st).room = st.room ∧ (jcutS st).left = st.left ∧ (jcutS st).down = st.down := by unfold jcutS; split <;> exact ⟨rfl, rfl, rfl⟩
  have hld := load_cut st
  have hol : (loadM st).2.length = m := by rw [h3, List.length_take]; omega
  have hO : openV d st = (0, ⟨hv.take m, ⟨num (n : Int) (hv.drop n), hv.length, false, d⟩, false⟩) := by
    unfold openV
    rw [hR, h3]
    by_cases hc : hv.drop n = []
    · have hn : hv.length ≤ n := by
        have := congrArg List.length hc
        rw [List.length_drop] at this
        simp at this; omega
      rw [hc]
      rw [if_pos (show num (n : Int) [] = [] from rfl), List.length_take]
      have e : min m hv.length = hv.length := by omega
      rw [e]; rfl
    · have hn : n < hv.length := by
        refine Nat.lt_of_not_le fun hh => hc (List.drop_of_length_le hh)
      have hx : jnx (num (n : Int) (hv.drop n)) = (hv.length : Int) := by rw [num_nx _ _ hc, List.length_drop]; omega
      obtain ⟨y, ys, hy⟩ := List.exists_cons_of_ne_nil hc
      rw [if_neg (by rw [hy]; simp [num]), hx]
      have hfirst : firstJ ⟨num (n : Int) (hv.drop n), (hv.length : Int), false, d⟩ = (n : Int) := by rw [hy]; rfl
      rw [hfirst, if_neg]
      rw [List.length_take]
      omega
  rw [hO]
  refine ⟨rfl, rfl, ⟨n, ⟨?_, ?_, ?_, rfl, rfl⟩⟩, ⟨rfl, rfl, by rw [hsame.2.2]; exact hd, by rw [hld]; exact h3, hlog⟩, hsame.1, hsame.2.1, by rw [hsame.2.2]; exact hd, hu, hbl⟩
  · show n ≤ (hv.take m).length; rw [List.length_take]; omega
  · show (hv.take m).length ≤ hv.length; rw [List.length_take]; omega
  · show hv.take m = hv.take (hv.take m).length; rw [List.length_take, Nat.min_eq_left h2]
theorem VFile.revive {hv : List (List UInt8)} {st : St} {l : Int} {b : Bool} (h : VFile hv st) : VFile hv { st with left := l, down := b } := h
theorem vfile_nil {left room : Int} {b : Bool} : VFile [] ⟨left, b, room, []⟩ := ⟨0, 0, [], Nat.le_refl _, Nat.le_refl _, rfl, rfl, rfl, by simp⟩
end Go.Proofs

set_option linter.all false
set_option synthInstance.maxSize 100000
set_option synthInstance.maxHeartbeats 400000
namespace Go.Proofs
open Go Go.SL
attribute [local irreducible] CCall CO CC CX CD

/-! ### vaults that are sound, in stores that live -/
theorem add_step {hv : List (List UInt8)} {n : Nat} {s : Vt} {left room : Int} {f : List (ByteArray × List UInt8)} {x : List UInt8} (hl : left < 0) (hf : Few hv) (hx : x.length ≤ 100) (hn : hv.length < 100) (m : VMem hv n s) (l : VLive s ⟨left, false, room, f⟩) (hroom : (x.length : Int) + 19 ≤ room - usedF f) :
    ∃ o r nx f', addV x s ⟨left, false, room, f⟩ = (0, ⟨o, ⟨r, nx, false, s.j.disk⟩, false⟩, ⟨left, false, room, f'⟩) ∧ VMem (hv ++ [x]) n ⟨o, ⟨r, nx, false, s.j.disk⟩, false⟩ ∧ VLive ⟨o, ⟨r, nx, false, s.j.disk⟩, false⟩ ⟨left, false, room, f'⟩ ∧ usedF f' ≤ usedF f + x.length + 9 ∧ ∃ y, f' = mput f logN y := by
  have e := add_free hl hf m l hroom
  obtain ⟨a1, a2, a3, a4⟩ := vadd hf hx hn m l
  rw [e] at a1 a2 a3 a4
  refine ⟨_, _, _, _, e, ?_⟩
  rcases a4 with ⟨_, b2, b3⟩ | ⟨b1, _⟩ | ⟨b1, _⟩
  · exact ⟨b2, b3, a2, _, rfl⟩
  · cases b1
  · cases b1
theorem pack_step {hv : List (List UInt8)} {n : Nat} {s : Vt} {left room : Int} {f : List (ByteArray × List UInt8)} (hl : left < 0) (hf : Few hv) (m : VMem hv n s) (l : VLive s ⟨left, false, room, f⟩) (hr : room ≤ 1048576) (hroom : ((makeF (snapB hv)).length : Int) ≤ room - usedF f) :
    ∃ o r nx f', packV s ⟨left, false, room, f⟩ = (0, ⟨o, ⟨r, nx, false, s.j.disk⟩, false⟩, ⟨left, false, room, f'⟩) ∧ VMem hv hv.length ⟨o, ⟨r, nx, false, s.j.disk⟩, false⟩ ∧ VLive ⟨o, ⟨r, nx, false, s.j.disk⟩, false⟩ ⟨left, false, room, f'⟩ ∧ usedF f' ≤ usedF f + (makeF (snapB hv)).length ∧ ∃ S, f' = mput (mdel (mput (mput (mdel (mput f freshN S) freshN) snapN S) lognN []) lognN) logN [] := by
  have e := pack_free hl m l hroom
  have hall := m.all
  have hdie := moveM_die (fr := freshN) (to := snapN) (f := makeF (snapB hv)) (s := ⟨left, false, room, f⟩) rfl freshN_ok snapN_ok snap_ne
  have hmv := moveM_all (fr := freshN) (to := snapN) (f := makeF (snapB hv)) (fs := f) (room := room) hl freshN_ok snapN_ok (by omega)
  have hk : s.broken = false → (saveV s ⟨left, false, room, f⟩).1 = 0 → (saveV s ⟨left, false, room, f⟩).2.ok := fun _ _ => by
    unfold saveV
    rw [hall, hmv]
    rw [hmv] at hdie
    rcases hdie with ⟨_, h2⟩ | ⟨_, _, a3, _⟩
    · injection h2 with e1 e2; cases e1
    · exact ⟨by show ((usedF (mput (mdel (mput f freshN (makeF (snapB hv))) freshN) snapN (makeF (snapB hv))) : Nat) : Int) ≤ room; dsimp only at a3; omega, hr, by show left ≤ _; omega⟩
  obtain ⟨a1, a2, a3, a4⟩ := vpack hf m l hk
  rw [e] at a1 a2 a3 a4
  refine ⟨_, _, _, _, e, ?_⟩
  rcases a4 with ⟨_, b2, b3⟩ | ⟨b1, _⟩ | ⟨b1, _⟩
  · exact ⟨b2, b3, a2, _, rfl⟩
  · cases b1
  · cases b1
theorem VMem.recs_len {hv : List (List UInt8)} {n : Nat} {s : Vt} (m : VMem hv n s) (hf : Few hv) : s.j.recs.length ≤ 100 := by
  have := m.len; have := hf.n; omega
theorem VMem.recs_in {hv : List (List UInt8)} {n : Nat} {s : Vt} (m : VMem hv n s) (hf : Few hv) : ∀ x ∈ s.j.recs, x.2.length ≤ 100 ∧ 0 ≤ x.1 ∧ x.1 ≤ grB := fun x hx => by
  rw [m.recs] at hx
  obtain ⟨h1, h2, h3⟩ := num_mem hx
  have h4 := hf.n
  rw [List.length_drop] at h2
  exact ⟨hf.x _ (List.mem_of_mem_drop h3), by omega, by unfold grB; omega⟩
theorem VMem.old_len {hv : List (List UInt8)} {n : Nat} {s : Vt} (m : VMem hv n s) (hf : Few hv) : s.old.length ≤ 100 := by
  have := m.hi; have := hf.n; omega
theorem VAdd_ok {L L1 R K b v} {hv o : List (List UInt8)} {r : List (Int × List UInt8)} {nx left room : Int} {n d : Nat} {f : List (ByteArray × List UInt8)} {x : List UInt8} [p : Pull (isV b) L ⟨o, ⟨r, nx, false, d⟩, false⟩ L1] [q : Pull (isStore d) L1 ⟨left, false, room, f⟩ R] [rs : RdE R encB v x]
    (hl : left < 0) (hf : Few hv) (hx : x.length ≤ 100) (hn : hv.length < 100) (m : VMem hv n ⟨o, ⟨r, nx, false, d⟩, false⟩) (l : VLive ⟨o, ⟨r, nx, false, d⟩, false⟩ ⟨left, false, room, f⟩) (hroom : (x.length : Int) + 19 ≤ room - usedF f)
    (h : ∀ o r nx f', VMem (hv ++ [x]) n ⟨o, ⟨r, nx, false, d⟩, false⟩ → VLive ⟨o, ⟨r, nx, false, d⟩, false⟩ ⟨left, false, room, f'⟩ → usedF f' ≤ usedF f + x.length + 9 → (∃ y, f' = mput f logN y) → Ht (isV b ⟨o, ⟨r, nx, false, d⟩, false⟩ :: isStore d ⟨left, false, room, f'⟩ :: R) (K (.int .i64 0))) :
    Ht L (CCall Tryz.prog 19 [.pointer (some ⟨b, 0, none⟩), v] K) := by
  obtain ⟨o2, r2, nx2, f2, e, m2, l2, u2, y2⟩ := add_step hl hf hx hn m l hroom
  have h1 := m.recs_len hf
  have h2 := m.next
  refine VAdd_spec (b := b) (s := ⟨o, ⟨r, nx, false, d⟩, false⟩) (st := ⟨left, false, room, f⟩) (x := x) (by rw [h2]; omega) (by omega) (by omega) ?_
  rw [e]
  exact h _ _ _ _ m2 l2 u2 y2
theorem VPack_ok {L L1 R K b} {hv o : List (List UInt8)} {r : List (Int × List UInt8)} {nx left room : Int} {n d : Nat} {f : List (ByteArray × List UInt8)} [p : Pull (isV b) L ⟨o, ⟨r, nx, false, d⟩, false⟩ L1] [q : Pull (isStore d) L1 ⟨left, false, room, f⟩ R]
    (hl : left < 0) (hf : Few hv) (m : VMem hv n ⟨o, ⟨r, nx, false, d⟩, false⟩) (l : VLive ⟨o, ⟨r, nx, false, d⟩, false⟩ ⟨left, false, room, f⟩) (hr : room ≤ 1048576) (hroom : ((makeF (snapB hv)).length : Int) ≤ room - usedF f)
    (h : ∀ o r nx f', VMem hv hv.length ⟨o, ⟨r, nx, false, d⟩, false⟩ → VLive ⟨o, ⟨r, nx, false, d⟩, false⟩ ⟨left, false, room, f'⟩ → usedF f' ≤ usedF f + (makeF (snapB hv)).length → (∃ S, f' = mput (mdel (mput (mput (mdel (mput f freshN S) freshN) snapN S) lognN []) lognN) logN []) → Ht (isV b ⟨o, ⟨r, nx, false, d⟩, false⟩ :: isStore d ⟨left, false, room, f'⟩ :: R) (K (.int .i64 0))) :
    Ht L (CCall Tryz.prog 20 [.pointer (some ⟨b, 0, none⟩)] K) := by
  obtain ⟨o2, r2, nx2, f2, e, m2, l2, u2, y2⟩ := pack_step hl hf m l hr hroom
  have h1 := m.recs_len hf
  have h2 := m.recs_in hf
  have h3 := hf.snap
  refine VPack_spec (b := b) (s := ⟨o, ⟨r, nx, false, d⟩, false⟩) (st := ⟨left, false, room, f⟩) (by omega) (fun x hx => ⟨by have := (h2 x hx).1; omega, (h2 x hx).2⟩) (by rw [m.all]; have := hf.n; omega) (fun x hx => by rw [m.all] at hx; have := hf.x x hx; omega) (by rw [m.all]; omega) fun _ => ?_
  rw [e]
  exact h _ _ _ _ m2 l2 u2 y2
theorem VAll_ok {L R K b} {s : Vt} {hv : List (List UInt8)} {n : Nat} (F : SB → HP) (hF : F = ownY 5) [p : Pull (isV b) L s R] (hf : Few hv) (m : VMem hv n s)
    (h : ∀ lv g, gby g = hv → Ht (own encY 22 lv (gsv g) :: bigO F g :: isV b s :: R) (K lv)) :
    Ht L (CCall Tryz.prog 14 [.pointer (some ⟨b, 0, none⟩)] K) := by
  have h1 := m.recs_len hf
  have h2 := m.recs_in hf
  have h3 := m.old_len hf
  refine VAll_spec (b := b) F hF (by omega) (by omega) (fun x hx => by rw [m.all] at hx; have := hf.x x hx; omega) (fun x hx => by have := (h2 x hx).1; omega) fun lv g hg => h lv g (by rw [hg, m.all])
theorem VOpen_ok {L R K d} {hv : List (List UInt8)} {left room : Int} {f : List (ByteArray × List UInt8)} [p : Pull (isStore d) L ⟨left, false, room, f⟩ R] (hl : left < 0) (hf : Few hv) (hF : VFile hv ⟨left, false, room, f⟩)
    (h : ∀ b o r nx n f', VMem hv n ⟨o, ⟨r, nx, false, d⟩, false⟩ → VLive ⟨o, ⟨r, nx, false, d⟩, false⟩ ⟨left, false, room, f'⟩ → usedF f' ≤ usedF f → (f' = f ∨ ∃ y, (mget f logN).isSome = true ∧ f' = mput f logN y) → Ht (isV b ⟨o, ⟨r, nx, false, d⟩, false⟩ :: isStore d ⟨left, false, room, f'⟩ :: R) (K (.tuple #[.pointer (some ⟨b, 0, none⟩), .int .i64 0]))) :
    Ht L (CCall Tryz.prog 11 [.pointer (some ⟨d, 0, none⟩)] K) := by
  obtain ⟨a1, a2, ⟨n, a3⟩, a4, a5, a6, a7, a8, a9⟩ := vopen (d := d) hf hF rfl
  have hj : jcutS ⟨left, false, room, f⟩ = ⟨left, false, room, (jcutS ⟨left, false, room, f⟩).files⟩ := by unfold jcutS; split <;> rfl
  have hf' : (jcutS ⟨left, false, room, f⟩).files = f ∨ ∃ y, (mget f logN).isSome = true ∧ (jcutS ⟨left, false, room, f⟩).files = mput f logN y := by
    unfold jcutS
    split
    · rename_i hh
      refine .inr ⟨_, ?_, rfl⟩
      unfold jlogB at hh
      dsimp only at hh
      cases hm : mget f logN with
      | none => rw [hm] at hh; simp at hh
      | some y => rfl
    · exact .inl rfl
  refine VOpen_spec (d := d) (st := ⟨left, false, room, f⟩) rfl hl a9 (fun hh => by rw [a1] at hh; cases hh) (fun _ b => ?_)
  rw [hj]
  rw [hj] at a4
  generalize (jcutS ⟨left, false, room, f⟩).files = f' at a4 a8 hf' ⊢
  generalize (openV d ⟨left, false, room, f⟩).2 = s at a2 a3 a4 ⊢
  obtain ⟨o, ⟨r, nx, jb, dd⟩, vb⟩ := s
  have e1 := a4.vb
  have e2 := a4.jb
  dsimp only at a2 e1 e2
  subst a2; subst e1; subst e2
  exact h b o r nx n f' a3 a4 a8 hf'
end Go.Proofs

set_option linter.all false
set_option synthInstance.maxSize 100000
set_option synthInstance.maxHeartbeats 400000
namespace Go.Proofs
open Go Go.SL
attribute [local irreducible] CCall CO CC CX CD

def old13 (is : Bool) (sb : List UInt8) : List (List UInt8) := if is then (decM sb).2 else []
def rF : SB → HP := ownY 5
def sel13 (m : Int) (q : GR) : List SB := (q.filter fun x => decide (m ≤ x.1)).map fun x => x.2
theorem sel13_gby (m : Int) (q : GR) : gby (sel13 m q) = ((rbytes q).filter fun x => decide (m ≤ x.1)).map fun x => x.2 := by
  unfold sel13 gby
  rw [← rbytes_filter]
  unfold rbytes
  rw [List.map_map, List.map_map]; rfl
theorem sel13_le (m : Int) (q : GR) : (sel13 m q).length ≤ q.length := by
  unfold sel13
  rw [List.length_map]; exact List.length_filter_le _ _
theorem dec_err {bs : List UInt8} (h : ¬ (decM bs).1 = 0) : (decM bs).2 = [] := by
  unfold decM at h ⊢
  split
  · rfl
  · rename_i h1
    rw [if_neg h1] at h
    split
    · rfl
    · rename_i h2
      rw [if_neg h2] at h
      split
      · rfl
      · rename_i h3
        rw [if_neg h3] at h
        exact absurd rfl h
theorem Records13_spec {L K sv} {is : Bool} {sa : Option Addr} {sc : Nat} {sb lb : List UInt8} [rs : RdE L encB sv sb] [rl : RdE L encB (.slice sa lb.length sc) lb] (hl : lb.length ≤ 600)
    (h : ∀ lv hs g, gby hs = (rec13 (old13 is sb) (jrd true 0 (frs lb)).1).1 → One1 lv → (∀ x ∈ hs, x ∈ g ∨ Subs (.slice sa lb.length sc) lb [x]) → Ht (own encY 22 lv (gsv hs) :: bigO rF g :: L) (K (.tuple #[lv, .int .i64 (rec13 (old13 is sb) (jrd true 0 (frs lb)).1).2]))) :
    Ht L (CCall Tryz.prog 10 [sv, .bool is, .slice sa lb.length sc] K) := by
  have hrs : ∀ (M : List HP) [fr : Frm M L], RdE M encB sv sb := fun M fr => ⟨fun w t => rs.h w (fr.h _ _ t)⟩
  have hrl : ∀ (M : List HP) [fr : Frm M L], RdE M encB (.slice sa lb.length sc) lb := fun M fr => ⟨fun w t => rl.h w (fr.h _ _ t)⟩
  refine Ht.know (p := One1 sv) (fun w t => one1_of (rs.h w t)) (fun ho => ?_)
  refine ccall3 Tryz.func10 rfl (by decide) Tryz.ntmps10 (by rfl) (by decide) ?_
  repeat (refine stp ?_)
  refine ht_cutd .normal (ι := Value × List SB) (fun x => gby x.2 = old13 is sb ∧ One1 x.1) (fun x => own encY 22 x.1 (gsv x.2) :: bigO rF x.2 :: L) (fun x => [(8, x.1), (2, .slice sa lb.length sc), (6, .slice none 0 0), (7, .int .i64 0)]) ?_ ?_
  · intro Q' hQ
    cases is with
    | false =>
      repeat (refine stp ?_)
      exact cx_env inferInstance (Ht.conseq (hQ (.slice none 0 0, []) ⟨rfl, ⟨rfl⟩⟩) (fun w t => own_nil.2 ((bigO_nil (f := rF)).2 t)))
    | true =>
      repeat (refine stp ?_)
      refine RDecode12_spec (bs := sb) rF rfl fun lv g hg => ?_
      refine Ht.one1 (v := lv) ?_
      intro olv
      repeat (refine stp ?_)
      refine ht_if ?_ ?_ <;> intro h0 <;> simp only [decide_eq_true_eq, decide_eq_false_iff_not] at h0
      · repeat (refine stp ?_)
        exact cx_env inferInstance (hQ (lv, g) ⟨hg, olv⟩)
      · repeat (refine stp ?_)
        exact cx_env inferInstance (Ht.conseq (hQ (.slice none 0 0, []) ⟨(dec_err h0).symm, ⟨rfl⟩⟩) (fun w t => own_nil.2 ((bigO_nil (f := rF)).2 t.tail.tail)))
  · intro ⟨ov, g⟩ ⟨hg, oo⟩
    dsimp only at hg oo ⊢
    repeat (refine stp ?_)
    refine Counts_spec (bs := lb) (by omega) fun cv q hq hsub oc => ?_
    rw [← hq] at h
    have hgo : (gsv g).length = (old13 is sb).length := by rw [gsv_len, ← hg, gby_len]
    have hqv := rvals_len q
    have hqb : (rbytes q).length = q.length := by simp [rbytes]
    have hold : (old13 is sb).length ≤ 10000 := by
      unfold old13
      cases is with
      | false => simp
      | true => exact (dec_le sb).1
    generalize old13 is sb = old at h hg hgo hold
    have h8 := jlogR_len ⟨-1, false, 0, [(logN, lb)]⟩
    have hin := jlogR_in ⟨-1, false, 0, [(logN, lb)]⟩
    have eB : jlogB ⟨-1, false, 0, [(logN, lb)]⟩ = lb := by unfold jlogB; rw [mget_cons, if_pos rfl]; rfl
    have eR : jlogR ⟨-1, false, 0, [(logN, lb)]⟩ = rbytes q := by unfold jlogR; rw [eB, hq]
    rw [eR, eB] at h8 hin
    clear eB eR hq
    have hR : rec13 old (rbytes q) = if rbytes q = [] then (old, 0)
      else if (old.length : Int) < ((rbytes q).headD (0, [])).1 ∨ jnx (rbytes q) < old.length then ([], 8)
      else (old ++ ((rbytes q).filter fun x => decide ((old.length : Int) ≤ x.1)).map fun x => x.2, 0) := rfl
    repeat (refine stp ?_)
    rewrite [hqv]
    refine ht_if ?_ ?_ <;> intro h0 <;> simp only [decide_eq_true_eq, decide_eq_false_iff_not] at h0
    · have hq0 : q = [] := List.eq_nil_of_length_eq_zero (by omega)
      rw [if_pos (by rw [hq0]; rfl)] at hR
      rw [hR] at h
      repeat (refine stp ?_)
      exact ret2 rfl (Ht.frm (h ov g g hg oo (fun x hx => .inl hx)))
    have hqn : 0 < q.length := by omega
    rw [if_neg (by intro e; rw [e] at hqb; simp at hqb; omega)] at hR
    have hhead : ((rbytes q).headD (0, [])).1 = (rvals q)[0]!.1 := by
      cases q with
      | nil => simp at hqn
      | cons x q => rfl
    have hlast : jnx (rbytes q) = (rvals q)[q.length - 1]!.1 + 1 := by
      have e : q.length = (q.length - 1) + 1 := by omega
      exact jnx_last e
    rw [hhead, hlast] at hR
    have hnn := jnx_in (l := rbytes q) (fun y hy => (hin y hy).1)
    rw [hlast] at hnn
    unfold grB at hnn
    repeat (refine stp ?_)
    refine co_index (xs := rvals q) (by omega) ?_
    intro hb0
    repeat (refine stp ?_)
    rewrite [hgo]
    have hbad : (old.length : Int) < (rvals q)[0]!.1 ∨ (rvals q)[q.length - 1]!.1 + 1 < old.length → ∀ M : List HP, (∀ w, Sat M w → Sat L w) → Ht M (K (.tuple #[.slice none 0 0, .int .i64 8])) := fun hc M hM => by
      rw [if_pos hc] at hR
      rw [hR] at h
      exact Ht.conseq (h (.slice none 0 0) [] [] rfl ⟨rfl⟩ (fun x hx => by cases hx)) (fun w t => own_nil.2 ((bigO_nil (f := rF)).2 (hM w t)))
    by_cases h1 : (old.length : Int) < (rvals q)[0]!.1
    · rewrite [decide_eq_true h1]
      repeat (refine stp ?_)
      exact ret2 rfl (hbad (.inl h1) _ (fun w t => t.tail.tail.tail))
    rewrite [decide_eq_false h1]
    repeat (refine stp ?_)
    rewrite [hqv, show IntKind.i64.wrap ((q.length : Int) - 1) = ((q.length - 1 : Nat) : Int) from by rw [IntWalk.i64_in _ (by omega)]; omega]
    refine co_index (xs := rvals q) (by omega) ?_
    intro hb1
    repeat (refine stp ?_)
    rewrite [hgo, show IntKind.i64.wrap ((rvals q)[q.length - 1]!.1 + 1) = (rvals q)[q.length - 1]!.1 + 1 from IntWalk.i64_in _ (by omega)]
    refine ht_if ?_ ?_ <;> intro h2 <;> simp only [decide_eq_true_eq, decide_eq_false_iff_not] at h2
    · repeat (refine stp ?_)
      exact ret2 rfl (hbad (.inr h2) _ (fun w t => t.tail.tail.tail))
    rw [if_neg (fun hh => hh.elim h1 h2)] at hR
    rw [hR] at h
    clear hbad
    repeat (refine stp ?_)
    refine Ht.conseq (L' := own encY 22 (.slice none 0 0) ([] : List SVy) :: own enc_iy 65 cv (rvals q) :: own encY 22 ov (gsv g) :: bigO rF g :: L) ?_ (fun w t => own_nil.2 t)
    refine co_append (e := encY) (xs := []) (ys := gsv g) (by rfl) (by simp; omega) (by simp; omega) ?_
    intro av
    rewrite [List.nil_append]
    refine Ht.one1 (v := av) ?_
    intro oa
    repeat (refine stp ?_)
    refine ht_for q.length (fun i (x : Value × List SB) => x.2 = g ++ sel13 (old.length : Int) (q.take i) ∧ One1 x.1) (fun i x => own encY 22 x.1 (gsv x.2) :: own enc_iy 65 cv (rvals q) :: own encY 22 ov (gsv g) :: bigO rF g :: L) (fun i x => [(14, .int .i64 i), (13, x.1)]) (av, g) [14, 13]
      ⟨by simp [sel13], oa⟩ (fun w t => t) (SubE.cons rfl (SubE.cons rfl inferInstance)) ?_
    intro i ⟨bv, hs⟩ hi ⟨hhs, ob⟩
    dsimp only [List.cons_append, List.nil_append] at hhs ob ⊢
    have hsl : hs.length ≤ old.length + i := by
      have h3 := sel13_le (old.length : Int) (q.take i)
      rw [List.length_take] at h3
      have h4 : g.length = old.length := by rw [← hgo, gsv_len]
      rw [hhs, List.length_append]; omega
    have hsg := gsv_len (ms := hs)
    repeat (refine stp ?_)
    rewrite [hqv]
    refine ht_if ?_ ?_ <;> intro hc <;> simp only [decide_eq_true_eq, decide_eq_false_iff_not] at hc
    · have hii : i < q.length := by omega
      repeat (refine stp ?_)
      refine co_index (xs := rvals q) (by omega) ?_
      intro hb
      repeat (refine stp ?_)
      rewrite [rvals_at hii, hgo]
      refine ht_if ?_ ?_ <;> intro hge <;> simp only [decide_eq_true_eq, decide_eq_false_iff_not, ge_iff_le] at hge
      · repeat (refine stp ?_)
        refine co_index (xs := rvals q) (by omega) ?_
        intro hb2
        repeat (refine stp ?_)
        rewrite [rvals_at hii]
        intro b1
        repeat (refine stp ?_)
        refine Ht.own_lit encY (b := b1) (n := 1) (xs := [q[i]!.2.1]) rfl rfl (by decide) ?_
        refine co_append (e := encY) (xs := gsv hs) (ys := [q[i]!.2.1]) (by rfl) (by simp; omega) (by simp; omega) ?_
        intro bv2
        refine Ht.one1 (v := bv2) ?_
        intro ob2
        rewrite [show gsv hs ++ [q[i]!.2.1] = gsv (hs ++ [q[i]!.2]) from by simp [gsv]]
        repeat (refine stp ?_)
        refine ht_next (bv2, hs ++ [q[i]!.2]) hii ⟨?_, ob2⟩ (fun w t => (inferInstance : Frm _ _).h _ _ t) (SubE.cons ?_ (SubE.cons rfl inferInstance)) rfl rfl
        · show hs ++ [q[i]!.2] = _
          unfold sel13 at hhs ⊢
          rw [take_snoc hii, List.filter_append, List.map_append, ← List.append_assoc, ← hhs, List.filter_cons_of_pos (by simpa using hge)]; rfl
        · rw [IntWalk.i64_in _ (by omega)]; rfl
      · repeat (refine stp ?_)
        refine ht_next (bv, hs) hii ⟨?_, ob⟩ (fun w t => t) (SubE.cons ?_ (SubE.cons rfl inferInstance)) rfl rfl
        · show hs = _
          unfold sel13 at hhs ⊢
          rw [take_snoc hii, List.filter_append, List.map_append, ← List.append_assoc, ← hhs, List.filter_cons_of_neg (by simpa using hge)]; simp
        · rw [IntWalk.i64_in _ (by omega)]; rfl
    · have ei : i = q.length := by omega
      subst ei
      rw [List.take_length] at hhs
      repeat (refine stp ?_)
      refine ret2 rfl (Ht.frm (h bv hs g ?_ ob ?_))
      · rw [hhs, gby_app, sel13_gby, hg]
      · intro x hx
        rw [hhs] at hx
        rcases List.mem_append.1 hx with h3 | h3
        · exact .inl h3
        · refine .inr ?_
          obtain ⟨y, hy, rfl⟩ := List.mem_map.1 h3
          intro z hz w t
          rw [List.mem_singleton.1 hz]
          exact hsub y (List.mem_filter.1 hy).1 w t
end Go.Proofs

set_option linter.all false
set_option synthInstance.maxSize 100000
set_option synthInstance.maxHeartbeats 400000
namespace Go.Proofs
open Go Go.SL
attribute [local irreducible] CCall CO CC CX CD

theorem known13_spec {L K} (h : Ht L (K (.bool true))) : Ht L (CCall Tryz.prog 12 [] K) := by
  have hf0 := Few.nil
  have hf1 : Few [[120]] := ⟨by decide, by decide⟩
  have hf2 : Few [[120], [121]] := ⟨by decide, by decide⟩
  have hf3 : Few [[120], [121], [122]] := ⟨by decide, by decide⟩
  have hS : (makeF (snapB [[120], [121]])).length ≤ 60 := by
    have h1 := recsB_most (m := 1) [[120], [121]] (by decide)
    have h3 := @sevensM_len (UInt64.ofInt ((([[120], [121]] : List (List UInt8)).length : Nat) : Int)) 10
    rw [makeF_len]
    unfold snapB
    rw [List.length_append]
    have e : ([[120], [121]] : List (List UInt8)).length = 2 := rfl
    rw [e] at h1 h3 ⊢
    omega
  refine ccall0 Tryz.func12 rfl (by decide) Tryz.ntmps12 (by rfl) (by decide) ?_
  repeat (refine stp ?_)
  refine New_spec (fun hh => by omega) (fun _ _ d => ?_)
  repeat (refine stp ?_)
  refine VOpen_ok (hv := []) (by decide) hf0 vfile_nil fun b o0 r0 n0 m f0 m0 l0 u0 y0 => ?_
  have e0 : f0 = [] := by
    rcases y0 with e | ⟨_, e, _⟩
    · exact e
    · cases e
  subst e0
  have z0 : usedF [] = 0 := rfl
  repeat (refine stp ?_)
  intro c1
  repeat (refine stp ?_)
  refine co_constBytes [120] ?_ ?_
  · rfl
  repeat (refine stp ?_)
  refine VAdd_ok (b := b) (d := d) (hv := []) (x := [120]) (by decide) hf0 (by decide) (by decide) m0 l0 (by rw [z0]; decide) fun o1 r1 n1 f1 m1 l1 u1 y1 => ?_
  rw [z0] at u1
  repeat (refine stp ?_)
  intro c2
  repeat (refine stp ?_)
  refine co_constBytes [121] ?_ ?_
  · rfl
  repeat (refine stp ?_)
  refine VAdd_ok (b := b) (d := d) (hv := [[120]]) (x := [121]) (by decide) hf1 (by decide) (by decide) m1 l1 (by simp at u1 ⊢; omega) fun o2 r2 n2 f2 m2 l2 u2 y2 => ?_
  repeat (refine stp ?_)
  have u2' : usedF f2 ≤ 20 := by simp at u1 u2; omega
  refine VPack_ok (b := b) (d := d) (hv := [[120], [121]]) (by decide) hf2 m2 l2 (by decide) (by omega) fun o3 r3 n3 f3 m3 l3 u3 y3 => ?_
  repeat (refine stp ?_)
  intro c3
  repeat (refine stp ?_)
  refine co_constBytes [122] ?_ ?_
  · rfl
  repeat (refine stp ?_)
  refine VAdd_ok (b := b) (d := d) (hv := [[120], [121]]) (x := [122]) (by decide) hf2 (by decide) (by decide) m3 l3 (by simp; omega) fun o4 r4 n4 f4 m4 l4 u4 y4 => ?_
  repeat (refine stp ?_)
  have hf4 : f4.map (fun x => x.1) = [logN, snapN] := by
    obtain ⟨a1, rfl⟩ := y1
    obtain ⟨a2, rfl⟩ := y2
    obtain ⟨a3, rfl⟩ := y3
    obtain ⟨a4, rfl⟩ := y4
    rfl
  refine VOpen_ok (d := d) (hv := [[120], [121], [122]]) (by decide) hf3 (m4.file l4) fun b2 o5 r5 n5 m' f5 m5 l5 u5 y5 => ?_
  have hf5 : f5.map (fun x => x.1) = [logN, snapN] := by
    rcases y5 with e | ⟨y, _, e⟩
    · rw [e]; exact hf4
    · rw [e]
      obtain ⟨a1, rfl⟩ := y1
      obtain ⟨a2, rfl⟩ := y2
      obtain ⟨a3, rfl⟩ := y3
      obtain ⟨a4, rfl⟩ := y4
      rfl
  repeat (refine stp ?_)
  refine VAll_ok (b := b2) vG rfl hf3 m5 fun lv g hg => ?_
  refine Ht.one1 (v := lv) ?_
  intro _
  repeat (refine stp ?_)
  intro k1
  repeat (refine stp ?_)
  refine co_constBytes [120] ?_ ?_
  · rfl
  repeat (refine stp ?_)
  intro k2
  repeat (refine stp ?_)
  refine co_constBytes [121] ?_ ?_
  · rfl
  repeat (refine stp ?_)
  intro k3
  repeat (refine stp ?_)
  refine co_constBytes [122] ?_ ?_
  · rfl
  repeat (refine stp ?_)
  intro k4
  repeat (refine stp ?_)
  refine Ht.own_lit encY (b := k4) (n := 3) (xs := [(some ⟨k1, 0, none⟩, 1, 1), (some ⟨k2, 0, none⟩, 1, 1), (some ⟨k3, 0, none⟩, 1, 1)]) rfl rfl (by decide) ?_
  refine Same12_spec (ms := g) (ns := [((some ⟨k1, 0, none⟩, 1, 1), [120]), ((some ⟨k2, 0, none⟩, 1, 1), [121]), ((some ⟨k3, 0, none⟩, 1, 1), [122])]) (fun x hx => bigF_at (F := vG) rfl _ _ x hx) (fun x hx => ?_) (by rw [hg]; rfl) ?_
  · rcases List.mem_cons.1 hx with e | hx
    · subst e
      show RdE _ encB (.slice (some ⟨k1, 0, none⟩) 1 1) [120]
      infer_instance
    rcases List.mem_cons.1 hx with e | hx
    · subst e
      show RdE _ encB (.slice (some ⟨k2, 0, none⟩) 1 1) [121]
      infer_instance
    · rw [List.mem_singleton.1 hx]
      show RdE _ encB (.slice (some ⟨k3, 0, none⟩) 1 1) [122]
      infer_instance
  repeat (refine stp ?_)
  have hf5l : f5.length = 2 := by have := congrArg List.length hf5; simpa using this
  refine Names_spec (by show f5.length ≤ _; omega) fun nv => ?_
  refine Ht.one1 (v := nv) ?_
  intro _
  repeat (refine stp ?_)
  rewrite [sortB_len, List.length_map]
  dsimp only
  rewrite [hf5l]
  repeat (refine stp ?_)
  exact ret1 rfl (Ht.frm h)
/-! ### a nil vault -/
theorem VSound_nil {L K} (h : Ht L (K (.bool false))) : Ht L (CCall Tryz.prog 16 [.pointer none] K) := by
  refine ccall1 Tryz.func16 rfl (by decide) Tryz.ntmps16 (by rfl) (by decide) ?_
  repeat (refine stp ?_)
  exact ret1 rfl h
theorem VLen_nil {L K} (h : Ht L (K (.int .i64 0))) : Ht L (CCall Tryz.prog 15 [.pointer none] K) := by
  refine ccall1 Tryz.func15 rfl (by decide) Tryz.ntmps15 (by rfl) (by decide) ?_
  repeat (refine stp ?_)
  exact ret1 rfl h
theorem VSpare_nil {L K} (h : Ht L (K (.int .i64 0))) : Ht L (CCall Tryz.prog 24 [.pointer none] K) := by
  refine ccall1 Tryz.func24 rfl (by decide) Tryz.ntmps24 (by rfl) (by decide) ?_
  repeat (refine stp ?_)
  exact ret1 rfl h
theorem VAdd_nil {L K v} (h : Ht L (K (.int .i64 10))) : Ht L (CCall Tryz.prog 19 [.pointer none, v] K) := by
  refine ccall2 Tryz.func19 rfl (by decide) Tryz.ntmps19 (by rfl) (by decide) ?_
  repeat (refine stp ?_)
  refine VSound_nil ?_
  repeat (refine stp ?_)
  exact ret1 rfl h
theorem VPack_nil {L K} (h : Ht L (K (.int .i64 10))) : Ht L (CCall Tryz.prog 20 [.pointer none] K) := by
  refine ccall1 Tryz.func20 rfl (by decide) Tryz.ntmps20 (by rfl) (by decide) ?_
  repeat (refine stp ?_)
  refine VSound_nil ?_
  repeat (refine stp ?_)
  exact ret1 rfl h
theorem VGet_nil {L K} {n : Int} (h : Ht L (K (.tuple #[.slice none 0 0, .int .i64 13]))) : Ht L (CCall Tryz.prog 23 [.pointer none, .int .i64 n] K) := by
  refine ccall2 Tryz.func23 rfl (by decide) Tryz.ntmps23 (by rfl) (by decide) ?_
  repeat (refine stp ?_)
  by_cases h0 : n < 0
  · rewrite [decide_eq_true h0]
    repeat (refine stp ?_)
    exact ret2 rfl h
  rewrite [decide_eq_false h0]
  repeat (refine stp ?_)
  refine VLen_nil ?_
  repeat (refine stp ?_)
  rewrite [show decide (n ≥ 0) = true from decide_eq_true (by omega)]
  repeat (refine stp ?_)
  exact ret2 rfl h
theorem VOpen_nil {L K} (h : Ht L (K (.tuple #[.pointer none, .int .i64 14]))) : Ht L (CCall Tryz.prog 11 [.pointer none] K) := by
  refine ccall1 Tryz.func11 rfl (by decide) Tryz.ntmps11 (by rfl) (by decide) ?_
  repeat (refine stp ?_)
  refine JOpen_nil ?_
  repeat (refine stp ?_)
  exact ret2 rfl h
theorem VAll_nil {L K} (h : Ht L (K (.slice none 0 0))) : Ht L (CCall Tryz.prog 14 [.pointer none] K) := by
  refine ccall1 Tryz.func14 rfl (by decide) Tryz.ntmps14 (by rfl) (by decide) ?_
  repeat (refine stp ?_)
  intro c3
  repeat (refine stp ?_)
  refine each_spec fun c => ?_
  repeat (refine stp ?_)
  refine ht_rangeFuncQ (β := Unit) (δ := Unit) (fun _ => 0) (fun _ _ => [.slice none 0 0]) (fun _ _ _ => True) (fun _ _ _ => pto c3 (cells [.slice none 0 0] 28) :: L)
    noX ⟨_, Tryz.func60, by decide, rfl⟩ (fun _ _ => rfl) ?_ ?_ ?_ ?_
  · intro l C A B K' hA hy hd hs
    refine ccall2 Tryz.func60 rfl (by decide) Tryz.ntmps60 (by rfl) (by decide) ?_
    repeat (refine stp ?_)
    refine ret0 rfl (Ht.conseq (hd () _) (fun w t => (hA () 0 w).2 ⟨(), trivial, ?_⟩))
    exact (inferInstance : Frm _ (C :: pto c3 (cells [.slice none 0 0] 28) :: L)).h _ _ t
  · intro q i hi
    omega
  · intro q dd x hI
    repeat (refine stp ?_)
    exact retD1 rfl (Ht.frm h)
  · intro dd j
    exact ht_noX
theorem VaultNil_spec {L K v} {n : Int} (h : Ht L (K (.bool true))) : Ht L (CCall Tryz.prog 6 [v, .int .i64 n] K) := by
  refine ccall2 Tryz.func6 rfl (by decide) Tryz.ntmps6 (by rfl) (by decide) ?_
  repeat (refine stp ?_)
  refine VGet_nil ?_
  repeat (refine stp ?_)
  refine VOpen_nil ?_
  repeat (refine stp ?_)
  refine known13_spec ?_
  repeat (refine stp ?_)
  refine VAdd_nil ?_
  repeat (refine stp ?_)
  refine VPack_nil ?_
  repeat (refine stp ?_)
  refine VAll_nil ?_
  repeat (refine stp ?_)
  refine VLen_nil ?_
  repeat (refine stp ?_)
  refine VSound_nil ?_
  repeat (refine stp ?_)
  refine VSpare_nil ?_
  repeat (refine stp ?_)
  exact ret1 rfl h
end Go.Proofs

set_option linter.all false
set_option synthInstance.maxSize 100000
set_option synthInstance.maxHeartbeats 400000
namespace Go.Proofs
open Go Go.SL
attribute [local irreducible] CCall CO CC CX CD

theorem logR_bounds {b : List UInt8} (hb : b.length ≤ 600) {st : St} (hB : jlogB st = b) : (jlogB st).length ≤ 2000000 ∧ (jlogR st).length ≤ 100 ∧ ∀ x ∈ jlogR st, x.2.length ≤ 600 := by
  have h1 := jlogR_len st
  have h2 := jlogR_in st
  rw [hB] at h1 h2 ⊢
  exact ⟨by omega, by omega, fun x hx => by have := (h2 x hx).2; omega⟩
theorem open_bounds {d : Nat} {st : St} (hb : (jlogB st).length ≤ 600) : (openV d st).2.j.recs.length ≤ 100 ∧ (openV d st).2.old.length ≤ 10000 ∧ (∀ x ∈ allV (openV d st).2, x.length ≤ 1048576) ∧ (∀ x ∈ (openV d st).2.j.recs, x.2.length ≤ 1000000) := by
  obtain ⟨h1, h2, h3⟩ := logR_bounds hb rfl (st := st)
  have h4 := load_le st
  have hr : (openV d st).2.j.recs = jlogR st ∧ (openV d st).2.old = (loadM st).2 := by
    unfold openV
    split
    · rename_i hh
      exact ⟨hh.symm, rfl⟩
    · split <;> exact ⟨rfl, rfl⟩
  rw [hr.1, hr.2]
  refine ⟨h2, h4.1, fun x hx => ?_, fun x hx => by have := h3 x hx; omega⟩
  unfold allV at hx
  rw [hr.1, hr.2] at hx
  rcases List.mem_append.1 hx with h | h
  · exact h4.2 x h
  · unfold fromJ at h
    obtain ⟨y, hy, rfl⟩ := List.mem_map.1 h
    have := h3 y (List.mem_of_mem_drop hy)
    omega
theorem VaultOpens_spec {L K} {ba xa : Option Addr} {bc xc : Nat} {bs xs : List UInt8} {is : Bool} [rb : RdE L encB (.slice ba bs.length bc) bs] [rx : RdE L encB (.slice xa xs.length xc) xs] (h : Ht L (K (.bool true))) :
    Ht L (CCall Tryz.prog 3 [.slice ba bs.length bc, .slice xa xs.length xc, .bool is] K) := by
  have hrb : ∀ (M : List HP) [fr : Frm M L], RdS M (.slice ba bs.length bc) encB bs := fun M fr => ⟨fun w t => (rb.h w (fr.h _ _ t))⟩
  have hrx : ∀ (M : List HP) [fr : Frm M L], RdS M (.slice xa xs.length xc) encB xs := fun M fr => ⟨fun w t => (rx.h w (fr.h _ _ t))⟩
  refine Ht.know (p := bs.length ≤ 9223372036854775807 ∧ xs.length ≤ 9223372036854775807) (fun w s => ⟨(rb.h w s).le, (rx.h w s).le⟩) (fun ⟨hbl, hxl⟩ => ?_)
  refine ccall3 Tryz.func3 rfl (by decide) Tryz.ntmps3 (by rfl) (by decide) ?_
  repeat (refine stp ?_)
  refine ht_draw Tryz.can3x1 Tryz.mixed (by kernel_rfl) ?_
  repeat (refine stp ?_)
  rewrite [show (if (600 : Int) < bs.length then 600 else (bs.length : Int)) = ((min bs.length 600 : Nat) : Int) from by split <;> omega]
  refine cd_slice (xs := bs) (by omega) ?_
  intro hs0 hs1
  have hb1 : SubOf (.slice ba bs.length bc) bs (slSub (.slice ba bs.length bc) 1 0 (min bs.length 600)) (bs.take 600) := fun w t => by
    have := slSub_in t (lo := 0) (hi := min bs.length 600) ⟨by omega, by omega⟩
    rw [List.drop_zero, stake_min] at this
    exact this
  haveI ob : One1 (slSub (.slice ba bs.length bc) 1 0 (min bs.length 600)) := ⟨rfl⟩
  generalize slSub (.slice ba bs.length bc) 1 0 (min bs.length 600) = bv at hb1 ob ⊢
  repeat (refine stp ?_)
  rewrite [show (if (600 : Int) < xs.length then 600 else (xs.length : Int)) = ((min xs.length 600 : Nat) : Int) from by split <;> omega]
  refine cd_slice (xs := xs) (by omega) ?_
  intro hs2 hs3
  have hx1 : SubOf (.slice xa xs.length xc) xs (slSub (.slice xa xs.length xc) 1 0 (min xs.length 600)) (xs.take 600) := fun w t => by
    have := slSub_in t (lo := 0) (hi := min xs.length 600) ⟨by omega, by omega⟩
    rw [List.drop_zero, stake_min] at this
    exact this
  haveI ox : One1 (slSub (.slice xa xs.length xc) 1 0 (min xs.length 600)) := ⟨rfl⟩
  have hbf := @cut_slice xa xs.length xc (min xs.length 600)
  generalize slSub (.slice xa xs.length xc) 1 0 (min xs.length 600) = xv at hx1 ox hbf ⊢
  repeat (refine stp ?_)
  obtain ⟨ca, cc, ec⟩ := hbf
  rw [show min xs.length 600 = (xs.take 600).length from by rw [List.length_take, Nat.min_comm]] at ec
  have hB : ∀ (M : List HP) [fr : Frm M L], RdE M encB bv (bs.take 600) := fun M fr => ⟨fun w t => hb1 w ((hrb M).h w t)⟩
  have hX : ∀ (M : List HP) [fr : Frm M L], RdE M encB xv (xs.take 600) := fun M fr => ⟨fun w t => hx1 w ((hrx M).h w t)⟩
  have hxl : (xs.take 600).length ≤ 600 := by rw [List.length_take]; omega
  have hbl : (bs.take 600).length ≤ 600 := by rw [List.length_take]; omega
  subst ec
  generalize bs.take 600 = sb at hB hbl hb1
  generalize xs.take 600 = lb at hX hxl ox ⊢
  clear hb1 hx1
  refine New_spec (fun hh => by omega) (fun _ _ d => ?_)
  repeat (refine stp ?_)
  refine Write_spec' (name := logN) (xs := lb) (n := 0) (st' := ⟨-1, false, 100000, [(logN, lb)]⟩) (writeM_all (by decide) logN_ok (by show (lb.length : Int) ≤ 100000 - ((0 : Nat) : Int) + ((0 : Nat) : Int); omega)) ?_
  repeat (refine stp ?_)
  cases is
  case' false =>
    repeat (refine stp ?_)
    have hm : jlogB ⟨-1, false, 100000, [(logN, lb)]⟩ = lb := by unfold jlogB; rw [mget_cons, if_pos rfl]; rfl
    have hld : (loadM ⟨-1, false, 100000, [(logN, lb)]⟩).2 = old13 false sb := by
      unfold loadM
      rw [if_pos (by rw [mget_cons, if_neg snap_log]; rfl)]; rfl
    generalize [(logN, lb)] = fl at hm hld ⊢
    refine Records13_spec (sb := sb) (lb := lb) hxl fun lv hs g hhs ol hmem => ?_
    revert hm hld hhs hmem
    generalize old13 false sb = old
    intro hm hld hhs hmem
  case' true =>
    repeat (refine stp ?_)
    refine Write_spec' (name := snapN) (xs := sb) (n := 0) (st' := ⟨-1, false, 100000, mput [(logN, lb)] snapN sb⟩) (writeM_all (by decide) snapN_ok (by rw [usedF_sgl]; omega)) ?_
    repeat (refine stp ?_)
    have hm : jlogB ⟨-1, false, 100000, mput [(logN, lb)] snapN sb⟩ = lb := by unfold jlogB; rw [mget_putn log_snap, mget_cons, if_pos rfl]; rfl
    have hld : (loadM ⟨-1, false, 100000, mput [(logN, lb)] snapN sb⟩).2 = old13 true sb := by
      rw [loadM_of (b := sb) mget_put]
      by_cases h0 : (decM sb).1 = 0
      · rw [if_neg (by simp [h0])]; rfl
      · rw [if_pos h0]; exact (dec_err h0).symm
    generalize mput [(logN, lb)] snapN sb = fl at hm hld ⊢
    refine Records13_spec (sb := sb) (lb := lb) hxl fun lv hs g hhs ol hmem => ?_
    revert hm hld hhs hmem
    generalize old13 true sb = old
    intro hm hld hhs hmem
  all_goals
    have hR : jlogR ⟨-1, false, 100000, fl⟩ = (jrd true 0 (frs lb)).1 := by unfold jlogR; rw [hm]
    obtain ⟨o1, o2, o3, o4, o5⟩ := open_rec d ⟨-1, false, 100000, fl⟩
    rw [hR, hld] at o1 o5
    obtain ⟨b1, b2, b3, b4⟩ := open_bounds (d := d) (st := ⟨-1, false, 100000, fl⟩) (by rw [hm]; exact hxl)
    rw [← hhs] at o5
    rewrite [← o1]
    repeat (refine stp ?_)
    refine VOpen_spec (d := d) (st := ⟨-1, false, 100000, fl⟩) rfl (show (-1 : Int) < 0 by decide) (by rw [hm]; omega) (fun hbad => ?_) (fun hok b => ?_)
    · rewrite [hbad]
      repeat (refine stp ?_)
      refine known13_spec ?_
      repeat (refine stp ?_)
      exact ret1 rfl (Ht.frm h)
    · rewrite [hok]
      obtain ⟨q1, q2⟩ := o5 hok
      repeat (refine stp ?_)
      refine known13_spec ?_
      repeat (refine stp ?_)
      refine VAll_spec (b := b) vG rfl (by omega) (by omega) b3 b4 fun av ga hga => ?_
      refine Ht.one1 (v := av) ?_
      intro _
      repeat (refine stp ?_)
      refine Same12_spec (ms := ga) (ns := hs) (fun x hx => bigF_at (F := vG) rfl _ _ x hx) (fun x hx => ?_) (by rw [hga, q1]) ?_
      · rcases hmem x hx with hh | hh
        · exact bigF_at (F := rF) rfl _ _ x hh
        · exact hh.rd (hX _) (List.mem_singleton.2 rfl)
      repeat (refine stp ?_)
      refine VLen_spec (b := b) ?_
      rewrite [q2, gby_len, ← gsv_len]
      repeat (refine stp ?_)
      rewrite [show decide (((gsv hs).length : Int) = ((gsv hs).length : Int)) = true from decide_eq_true rfl]
      repeat (refine stp ?_)
      refine VSound_spec (b := b) ?_
      rewrite [o4]
      repeat (refine stp ?_)
      exact ret1 rfl (Ht.frm h)
end Go.Proofs

set_option linter.all false
set_option synthInstance.maxSize 100000
set_option synthInstance.maxHeartbeats 400000
namespace Go.Proofs
open Go Go.SL
attribute [local irreducible] CCall CO CC CX CD

theorem jcut_snap (st : St) : mget (jcutS st).files snapN = mget st.files snapN := by
  unfold jcutS
  split
  · exact mget_putn snap_log
  · rfl
theorem jcut_same (st : St) : (jcutS st).down = st.down ∧ (jcutS st).left = st.left := by unfold jcutS; split <;> exact ⟨rfl, rfl⟩
theorem VaultTwice_spec {L K} {ba xa : Option Addr} {bc xc : Nat} {bs xs : List UInt8} [rb : RdE L encB (.slice ba bs.length bc) bs] [rx : RdE L encB (.slice xa xs.length xc) xs] (h : Ht L (K (.bool true))) :
    Ht L (CCall Tryz.prog 4 [.slice ba bs.length bc, .slice xa xs.length xc] K) := by
  have hrb : ∀ (M : List HP) [fr : Frm M L], RdS M (.slice ba bs.length bc) encB bs := fun M fr => ⟨fun w t => (rb.h w (fr.h _ _ t))⟩
  have hrx : ∀ (M : List HP) [fr : Frm M L], RdS M (.slice xa xs.length xc) encB xs := fun M fr => ⟨fun w t => (rx.h w (fr.h _ _ t))⟩
  refine Ht.know (p := bs.length ≤ 9223372036854775807 ∧ xs.length ≤ 9223372036854775807) (fun w s => ⟨(rb.h w s).le, (rx.h w s).le⟩) (fun ⟨hbl, hxl⟩ => ?_)
  refine ccall2 Tryz.func4 rfl (by decide) Tryz.ntmps4 (by rfl) (by decide) ?_
  repeat (refine stp ?_)
  refine ht_draw Tryz.can4x1 Tryz.mixed (by kernel_rfl) ?_
  repeat (refine stp ?_)
  rewrite [show (if (600 : Int) < bs.length then 600 else (bs.length : Int)) = ((min bs.length 600 : Nat) : Int) from by split <;> omega]
  refine cd_slice (xs := bs) (by omega) ?_
  intro hs0 hs1
  have hb1 : SubOf (.slice ba bs.length bc) bs (slSub (.slice ba bs.length bc) 1 0 (min bs.length 600)) (bs.take 600) := fun w t => by
    have := slSub_in t (lo := 0) (hi := min bs.length 600) ⟨by omega, by omega⟩
    rw [List.drop_zero, stake_min] at this
    exact this
  haveI ob : One1 (slSub (.slice ba bs.length bc) 1 0 (min bs.length 600)) := ⟨rfl⟩
  generalize slSub (.slice ba bs.length bc) 1 0 (min bs.length 600) = bv at hb1 ob ⊢
  repeat (refine stp ?_)
  rewrite [show (if (600 : Int) < xs.length then 600 else (xs.length : Int)) = ((min xs.length 600 : Nat) : Int) from by split <;> omega]
  refine cd_slice (xs := xs) (by omega) ?_
  intro hs2 hs3
  have hx1 : SubOf (.slice xa xs.length xc) xs (slSub (.slice xa xs.length xc) 1 0 (min xs.length 600)) (xs.take 600) := fun w t => by
    have := slSub_in t (lo := 0) (hi := min xs.length 600) ⟨by omega, by omega⟩
    rw [List.drop_zero, stake_min] at this
    exact this
  haveI ox : One1 (slSub (.slice xa xs.length xc) 1 0 (min xs.length 600)) := ⟨rfl⟩
  generalize slSub (.slice xa xs.length xc) 1 0 (min xs.length 600) = xv at hx1 ox ⊢
  repeat (refine stp ?_)
  have hB : ∀ (M : List HP) [fr : Frm M L], RdE M encB bv (bs.take 600) := fun M fr => ⟨fun w t => hb1 w ((hrb M).h w t)⟩
  have hX : ∀ (M : List HP) [fr : Frm M L], RdE M encB xv (xs.take 600) := fun M fr => ⟨fun w t => hx1 w ((hrx M).h w t)⟩
  have hxl : (xs.take 600).length ≤ 600 := by rw [List.length_take]; omega
  have hbl : (bs.take 600).length ≤ 600 := by rw [List.length_take]; omega
  generalize bs.take 600 = sb at hB hbl hb1
  generalize xs.take 600 = lb at hX hxl hx1
  clear hb1 hx1
  refine New_spec (fun hh => by omega) (fun _ _ d => ?_)
  repeat (refine stp ?_)
  refine Write_spec' (name := logN) (xs := lb) (n := 0) (st' := ⟨-1, false, 100000, [(logN, lb)]⟩) (writeM_all (by decide) logN_ok (by show (lb.length : Int) ≤ 100000 - ((0 : Nat) : Int) + ((0 : Nat) : Int); omega)) ?_
  repeat (refine stp ?_)
  refine Write_spec' (name := snapN) (xs := sb) (n := 0) (st' := ⟨-1, false, 100000, mput [(logN, lb)] snapN sb⟩) (writeM_all (by decide) snapN_ok (by rw [usedF_sgl]; omega)) ?_
  repeat (refine stp ?_)
  have hm : jlogB ⟨-1, false, 100000, mput [(logN, lb)] snapN sb⟩ = lb := by unfold jlogB; rw [mget_putn log_snap, mget_cons, if_pos rfl]; rfl
  have hsn : mget (mput [(logN, lb)] snapN sb) snapN = some sb := mget_put
  generalize mput [(logN, lb)] snapN sb = fl at hm hsn ⊢
  obtain ⟨st, hst⟩ : ∃ st : St, st = ⟨-1, false, 100000, fl⟩ := ⟨_, rfl⟩
  have hsn2 : mget st.files snapN = some sb := by rw [hst]; exact hsn
  have hd : st.down = false := by rw [hst]
  have hlf : st.left < 0 := by rw [hst]; show (-1 : Int) < 0; decide
  rw [← hst] at hm ⊢
  clear hst hsn fl
  have hcs := jcut_snap st
  have hcc := jcut_same st
  obtain ⟨o1, o2, o3, o4, o5⟩ := open_rec d st
  obtain ⟨b1, b2, b3, b4⟩ := open_bounds (d := d) (st := st) (by rw [hm]; exact hxl)
  have hag := open_again d st
  have hag2 := (jlog_again st).2.2
  have hl2 : (jlogB (jcutS st)).length ≤ 600 := by rw [jlog_cut, List.length_take, hm]; omega
  refine VOpen_spec (d := d) (st := st) hd hlf (by rw [hm]; omega) (fun hbad => ?_) (fun hok b => ?_)
  · repeat (refine stp ?_)
    refine Read_spec' (name := logN) (xs := jlogB (jcutS st)) (ok := (mget (jcutS st).files logN).isSome) rfl rfl (fun v1 => ?_)
    refine Ht.one1 (v := v1) ?_
    intro _
    repeat (refine stp ?_)
    refine VOpen_spec (d := d) (st := jcutS st) (by rw [hcc.1]; exact hd) (by rw [hcc.2]; exact hlf) (by omega) (fun _ => ?_) (fun hok b => by rw [hag, hbad] at hok; cases hok)
    rewrite [hag2]
    repeat (refine stp ?_)
    refine Read_spec' (name := logN) (xs := jlogB (jcutS st)) (ok := (mget (jcutS st).files logN).isSome) rfl rfl (fun v2 => ?_)
    refine Ht.one1 (v := v2) ?_
    intro _
    repeat (refine stp ?_)
    refine Read_spec' (name := snapN) (xs := sb) (ok := true) (by rw [hcs, hsn2]; rfl) (by rw [hcs, hsn2]; rfl) (fun v3 => ?_)
    refine Ht.one1 (v := v3) ?_
    intro _
    repeat (refine stp ?_)
    refine known13_spec ?_
    repeat (refine stp ?_)
    refine VAll_nil ?_
    repeat (refine stp ?_)
    refine VAll_nil ?_
    repeat (refine stp ?_)
    haveI hnil : ∀ M : List HP, RdE M encY (.slice none 0 0) (gsv []) := fun M => ⟨fun _ _ => .inl ⟨rfl, rfl⟩⟩
    refine Same12_spec (ms := []) (ns := []) (fun x hx => by cases hx) (fun x hx => by cases hx) rfl ?_
    repeat (refine stp ?_)
    refine ySame_spec' (xs := jlogB (jcutS st)) (ys := jlogB (jcutS st)) rfl ?_
    repeat (refine stp ?_)
    haveI := hB
    refine ySame_spec' (xs := sb) (ys := sb) rfl ?_
    repeat (refine stp ?_)
    refine VLen_nil ?_
    repeat (refine stp ?_)
    refine VLen_nil ?_
    repeat (refine stp ?_)
    exact ret1 rfl (Ht.frm h)
  · repeat (refine stp ?_)
    refine Read_spec' (name := logN) (xs := jlogB (jcutS st)) (ok := (mget (jcutS st).files logN).isSome) rfl rfl (fun v1 => ?_)
    refine Ht.one1 (v := v1) ?_
    intro _
    repeat (refine stp ?_)
    refine VOpen_spec (d := d) (st := jcutS st) (by rw [hcc.1]; exact hd) (by rw [hcc.2]; exact hlf) (by omega) (fun hbad => by rw [hag, hok] at hbad; cases hbad) (fun _ b' => ?_)
    rewrite [hag2, hag]
    repeat (refine stp ?_)
    refine Read_spec' (name := logN) (xs := jlogB (jcutS st)) (ok := (mget (jcutS st).files logN).isSome) rfl rfl (fun v2 => ?_)
    refine Ht.one1 (v := v2) ?_
    intro _
    repeat (refine stp ?_)
    refine Read_spec' (name := snapN) (xs := sb) (ok := true) (by rw [hcs, hsn2]; rfl) (by rw [hcs, hsn2]; rfl) (fun v3 => ?_)
    refine Ht.one1 (v := v3) ?_
    intro _
    repeat (refine stp ?_)
    refine known13_spec ?_
    repeat (refine stp ?_)
    refine VAll_spec (b := b) vG rfl (by omega) (by omega) b3 b4 fun av ga hga => ?_
    refine Ht.one1 (v := av) ?_
    intro _
    repeat (refine stp ?_)
    refine VAll_spec (b := b') vE rfl (by omega) (by omega) b3 b4 fun av2 ga2 hga2 => ?_
    refine Ht.one1 (v := av2) ?_
    intro _
    repeat (refine stp ?_)
    refine Same12_spec (ms := ga) (ns := ga2) (fun x hx => bigF_at (F := vG) rfl _ _ x hx) (fun x hx => bigF_at (F := vE) rfl _ _ x hx) (by rw [hga, hga2]) ?_
    repeat (refine stp ?_)
    refine ySame_spec' (xs := jlogB (jcutS st)) (ys := jlogB (jcutS st)) rfl ?_
    repeat (refine stp ?_)
    haveI := hB
    refine ySame_spec' (xs := sb) (ys := sb) rfl ?_
    repeat (refine stp ?_)
    refine VLen_spec (b := b) ?_
    repeat (refine stp ?_)
    refine VLen_spec (b := b') ?_
    repeat (refine stp ?_)
    rewrite [show decide ((openV d st).2.j.next = (openV d st).2.j.next) = true from decide_eq_true rfl]
    repeat (refine stp ?_)
    exact ret1 rfl (Ht.frm h)
end Go.Proofs

set_option linter.all false
set_option synthInstance.maxSize 100000
set_option synthInstance.maxHeartbeats 400000
namespace Go.Proofs
open Go Go.SL
attribute [local irreducible] CCall CO CC CX CD

theorem Same12_len {L K v u} {ms ns : List SB} [rs : RdE L encY v (gsv ms)] [rt : RdE L encY u (gsv ns)] (e : ms.length ≠ ns.length)
    (h : Ht L (K (.bool false))) : Ht L (CCall Tryz.prog 13 [v, u] K) := by
  haveI := rs.toS
  haveI := rt.toS
  have hgm := gsv_len (ms := ms)
  have hgn := gsv_len (ms := ns)
  refine ccall2 Tryz.func13 rfl (by decide) Tryz.ntmps13 (by rfl) (by decide) ?_
  repeat (refine stp ?_)
  rewrite [show decide (((gsv ms).length : Int) ≠ ((gsv ns).length : Int)) = true from decide_eq_true (by omega)]
  repeat (refine stp ?_)
  exact ret1 rfl h
/-- the parts taken of the first ten texts -/
def clipV (l : List (List UInt8)) : List (List UInt8) := (l.take 10).map fun x => x.take 40
theorem clipV_len (l : List (List UInt8)) : (clipV l).length = min 10 l.length := by unfold clipV; simp
theorem clipV_mem {l : List (List UInt8)} : ∀ x ∈ clipV l, x.length ≤ 40 := fun x hx => by
  unfold clipV at hx
  obtain ⟨y, _, rfl⟩ := List.mem_map.1 hx
  rw [List.length_take]; omega
theorem clipV_at {l : List (List UInt8)} {i : Nat} (h8 : i < 10) (hi : i < l.length) : (clipV l).take (i + 1) = (clipV l).take i ++ [(l[i]!).take 40] := by
  have hc : i < (clipV l).length := by rw [clipV_len]; omega
  rw [take_snoc hc, getElem!_pos (clipV l) i hc, getElem!_pos l i hi]
  unfold clipV; simp
theorem clipV_few (l : List (List UInt8)) (i : Nat) : Few ((clipV l).take i) := ⟨by rw [List.length_take, clipV_len]; omega, fun y hy => by have := clipV_mem y (List.mem_of_mem_take hy); omega⟩
theorem clipV_snap (l : List (List UInt8)) (i : Nat) : (makeF (snapB ((clipV l).take i))).length ≤ 530 := by
  have h1 := recsB_most (m := 40) ((clipV l).take i) (fun y hy => clipV_mem y (List.mem_of_mem_take hy))
  have h2 : ((clipV l).take i).length ≤ 10 := by rw [List.length_take, clipV_len]; omega
  have h3 := @sevensM_len (UInt64.ofInt ((((clipV l).take i).length : Nat) : Int)) 10
  rw [makeF_len]
  unfold snapB
  rw [List.length_append]
  omega
theorem VaultEnds_spec {L K v} {ms : List SB} {packed units : Int} {pack : Bool} [rs : RdE L encY v (gsv ms)] (hm : ∀ x ∈ ms, RdE L encB (svY x.1) x.2) (h : Ht L (K (.bool true))) :
    Ht L (CCall Tryz.prog 5 [v, .int .i64 packed, .int .i64 units, .bool pack] K) := by
  haveI : NZ 10 := ⟨by decide⟩
  haveI : NZ 600 := ⟨by decide⟩
  obtain ⟨kp, hkp, hkp10⟩ := modw packed (n := 10) (by decide) (by decide)
  obtain ⟨u, hu, hu600⟩ := modw units (n := 600) (by decide) (by decide)
  rewrite [show ((10 : Nat) : Int) = 10 from rfl] at hkp
  rewrite [show ((600 : Nat) : Int) = 600 from rfl] at hu
  have hgs := gsv_len (ms := ms)
  have hgb := gby_len (ms := ms)
  have hmM : ∀ (M : List HP) [fr : Frm M L] (x : SB), x ∈ ms → RdE M encB (svY x.1) x.2 := fun M fr x hx => ⟨fun w t => (hm x hx).h w (fr.h _ _ t)⟩
  have hrs : ∀ (M : List HP) [fr : Frm M L], RdS M v encY (gsv ms) := fun M fr => ⟨fun w t => rs.h w (fr.h _ _ t)⟩
  refine Ht.know (p := (One1 v ∧ (gsv ms).length ≤ 9223372036854775807) ∧ (∀ x ∈ ms, x.2.length ≤ 9223372036854775807 ∧ x.1.2.1 = x.2.length)) (fun w s => ⟨⟨one1_of (rs.h w s), (rs.h w s).le⟩, fun x hx => ⟨((hm x hx).h w s).le, slIn_len ((hm x hx).h w s)⟩⟩) (fun ⟨⟨ov, hle⟩, hxl⟩ => ?_)
  refine ccall4 Tryz.func5 rfl (by decide) Tryz.ntmps5 (by rfl) (by decide) ?_
  repeat (refine stp ?_)
  refine New_spec (fun hh => by omega) (fun _ _ d => ?_)
  repeat (refine stp ?_)
  refine VOpen_ok (hv := []) (by decide) Few.nil vfile_nil fun b o0 r0 x0 n0 f0 m0 l0 u0 y0 => ?_
  repeat (refine stp ?_)
  rewrite [hkp]
  repeat (refine stp ?_)
  have hcl := clipV_len (gby ms)
  refine cc_env (E' := [(14, .int .i64 0), (13, .slice none 0 0), (1, .int .i64 (kp : Int)), (9, .pointer (some ⟨d, 0, none⟩)), (11, .pointer (some ⟨b, 0, none⟩)), (8, .bool false), (0, v), (2, .int .i64 units), (3, .bool pack)]) inferInstance ?_
  refine ht_for (clipV (gby ms)).length (fun i (x : Value × List SB × List (List UInt8) × List (Int × List UInt8) × Int × Nat × List (ByteArray × List UInt8)) => (gby x.2.1 = (clipV (gby ms)).take i ∧ (∀ y ∈ x.2.1, RdE L encB (svY y.1) y.2) ∧ One1 x.1) ∧ VMem ((clipV (gby ms)).take i) x.2.2.2.2.2.1 ⟨x.2.2.1, ⟨x.2.2.2.1, x.2.2.2.2.1, false, d⟩, false⟩ ∧ VLive ⟨x.2.2.1, ⟨x.2.2.2.1, x.2.2.2.2.1, false, d⟩, false⟩ ⟨-1, false, 100000, x.2.2.2.2.2.2⟩ ∧ usedF x.2.2.2.2.2.2 ≤ 600 * i)
    (fun i x => own encY 22 x.1 (gsv x.2.1) :: isV b ⟨x.2.2.1, ⟨x.2.2.2.1, x.2.2.2.2.1, false, d⟩, false⟩ :: isStore d ⟨-1, false, 100000, x.2.2.2.2.2.2⟩ :: L)
    (fun i x => [(14, .int .i64 i), (13, x.1)]) (.slice none 0 0, [], o0, r0, x0, n0, f0) [14, 13] ⟨⟨rfl, (fun y hy => by cases hy), ⟨rfl⟩⟩, m0, l0, u0⟩ (fun w t => own_nil.2 t) (SubE.cons rfl (SubE.cons rfl inferInstance)) ?_
  intro i ⟨hv, hs, o, r, nx, n, f⟩ hi ⟨⟨hq, hqr, oh⟩, m, l, hus⟩
  dsimp only [List.cons_append, List.nil_append] at hq hqr oh m l hus ⊢
  have hsl := gsv_len (ms := hs)
  have htl : ((clipV (gby ms)).take i).length = i := by rw [List.length_take]; omega
  have hsn0 : hs.length = i := by have := congrArg List.length hq; rw [gby_len, htl] at this; exact this
  have hfew := clipV_few (gby ms) i
  have hsnap := clipV_snap (gby ms) i
  repeat (refine stp ?_)
  refine ht_val 3 [(52, .bool (decide (i < (clipV (gby ms)).length))), (14, .int .i64 i), (13, hv), (1, .int .i64 (kp : Int)), (9, .pointer (some ⟨d, 0, none⟩)), (11, .pointer (some ⟨b, 0, none⟩)), (8, .bool false), (0, v), (2, .int .i64 units), (3, .bool pack)] ?_ ?_
  · intro rest Q3 hQ3
    dsimp only [List.take_succ_cons, List.take_zero, List.cons_append, List.nil_append]
    by_cases h1 : i < ms.length
    · rewrite [show decide ((i : Int) < ((gsv ms).length : Int)) = true from decide_eq_true (by omega)]
      repeat (refine stp ?_)
      refine co_leave hQ3 (SubE.cons (congrArg Value.bool ?_) inferInstance)
      exact decide_eq_decide.2 (by omega)
    · rewrite [show decide ((i : Int) < ((gsv ms).length : Int)) = false from decide_eq_false (by omega)]
      repeat (refine stp ?_)
      refine co_leave hQ3 (SubE.cons (congrArg Value.bool ?_) inferInstance)
      exact (decide_eq_false (by omega)).symm
  simp only [List.drop_succ_cons, List.drop_zero]
  by_cases hii : i < (clipV (gby ms)).length
  · have hi8 : i < 10 := by omega
    have him : i < ms.length := by omega
    have hgv : (gsv ms)[i]! = (ms[i]!).1 := by rw [getElem!_pos ms i him, getElem!_pos (gsv ms) i (by omega)]; simp [gsv]
    have hgbi : (gby ms)[i]! = (ms[i]!).2 := by rw [getElem!_pos ms i him, getElem!_pos (gby ms) i (by omega)]; simp [gby]
    have hxi := hxl _ (List.mem_of_getElem? (getB him))
    have hxr : ∀ (M : List HP) [fr : Frm M L], RdS M (.slice ((gsv ms)[i]!).1 ((gsv ms)[i]!).2.1 ((gsv ms)[i]!).2.2) encB (ms[i]!).2 := fun M fr => by
      rw [hgv]; exact (hmM M _ (List.mem_of_getElem? (getB him))).toS
    rewrite [decide_eq_true hii]
    repeat (refine stp ?_)
    refine ht_draw Tryz.can5x10 Tryz.mixed (by kernel_rfl) ?_
    repeat (refine stp ?_)
    refine cd_index (xs := gsv ms) (by omega) ?_
    intro hb1 hb2
    repeat (refine stp ?_)
    have hmin : (if (40 : Int) < (((gsv ms)[i]!).2.1 : Int) then 40 else (((gsv ms)[i]!).2.1 : Int)) = ((min (ms[i]!).2.length 40 : Nat) : Int) := by
      rw [hgv, hxi.2]; split <;> omega
    rewrite [hmin]
    refine cd_slice (xs := (ms[i]!).2) (by omega) ?_
    intro hs0 hs1
    have hb1 : ∀ (M : List HP) [fr : Frm M L], RdE M encB (slSub (.slice ((gsv ms)[i]!).1 ((gsv ms)[i]!).2.1 ((gsv ms)[i]!).2.2) 1 0 (min (ms[i]!).2.length 40)) ((ms[i]!).2.take 40) := fun M fr => ⟨fun w t => by
      have := slSub_in ((hxr M).h w t) (lo := 0) (hi := min (ms[i]!).2.length 40) ⟨by omega, by omega⟩
      rw [List.drop_zero, stake_min] at this
      exact this⟩
    haveI ob : One1 (slSub (.slice ((gsv ms)[i]!).1 ((gsv ms)[i]!).2.1 ((gsv ms)[i]!).2.2) 1 0 (min (ms[i]!).2.length 40)) := ⟨rfl⟩
    have hsf : ∃ s : SVy, slSub (.slice ((gsv ms)[i]!).1 ((gsv ms)[i]!).2.1 ((gsv ms)[i]!).2.2) 1 0 (min (ms[i]!).2.length 40) = svY s := ⟨(_, _, _), rfl⟩
    generalize slSub (.slice ((gsv ms)[i]!).1 ((gsv ms)[i]!).2.1 ((gsv ms)[i]!).2.2) 1 0 (min (ms[i]!).2.length 40) = bv at hb1 ob hsf ⊢
    repeat (refine stp ?_)
    obtain ⟨s, es⟩ := hsf
    subst es
    have hxl2 : ((ms[i]!).2.take 40).length ≤ 40 := by rw [List.length_take]; omega
    have hsn := clipV_at hi8 (show i < (gby ms).length by omega)
    rw [hgbi] at hsn
    have hfew2 := clipV_few (gby ms) (i + 1)
    have hsnap2 := clipV_snap (gby ms) (i + 1)
    generalize (ms[i]!).2.take 40 = x at hb1 hxl2 hsn
    refine VAdd_ok (b := b) (d := d) (hv := (clipV (gby ms)).take i) (x := x) (by decide) hfew (by omega) (by omega) m l (by omega) fun o1 r1 nx1 f1 m1 l1 u1 _ => ?_
    rw [← hsn] at m1
    repeat (refine stp ?_)
    by_cases hpk : i = kp
    · rewrite [show decide ((i : Int) = (kp : Int)) = true from decide_eq_true (by omega)]
      repeat (refine stp ?_)
      refine VPack_ok (b := b) (d := d) (hv := (clipV (gby ms)).take (i + 1)) (by decide) hfew2 m1 l1 (by decide) (by omega) fun o2 r2 nx2 f2 m2 l2 u2 _ => ?_
      repeat (refine stp ?_)
      unfold svY
      repeat (refine stp ?_)
      intro b2
      repeat (refine stp ?_)
      refine Ht.own_lit encY (b := b2) (n := 1) (xs := [s]) rfl rfl (by decide) ?_
      refine co_append (e := encY) (xs := gsv hs) (ys := [s]) (by rfl) (by simp; omega) (by simp; omega) ?_
      intro hv2
      refine Ht.one1 (v := hv2) ?_
      intro oh2
      rewrite [show gsv hs ++ [s] = gsv (hs ++ [(s, x)]) from by simp [gsv]]
      repeat (refine stp ?_)
      refine ht_next (hv2, hs ++ [(s, x)], o2, r2, nx2, _, f2) hii ⟨⟨?_, ?_, oh2⟩, m2, l2, by dsimp only; omega⟩ (fun w t => (inferInstance : Frm _ _).h _ _ t) (SubE.cons ?_ (SubE.cons rfl inferInstance)) rfl rfl
      · show gby (hs ++ [(s, x)]) = _
        rw [gby_app, hsn, hq]; rfl
      · intro y hy
        rcases List.mem_append.1 hy with hy | hy
        · exact hqr y hy
        · rw [List.mem_singleton.1 hy]; exact hb1 L
      · rw [IntWalk.i64_in _ (by omega)]; rfl
    · rewrite [show decide ((i : Int) = (kp : Int)) = false from decide_eq_false (by omega)]
      repeat (refine stp ?_)
      unfold svY
      repeat (refine stp ?_)
      intro b2
      repeat (refine stp ?_)
      refine Ht.own_lit encY (b := b2) (n := 1) (xs := [s]) rfl rfl (by decide) ?_
      refine co_append (e := encY) (xs := gsv hs) (ys := [s]) (by rfl) (by simp; omega) (by simp; omega) ?_
      intro hv2
      refine Ht.one1 (v := hv2) ?_
      intro oh2
      rewrite [show gsv hs ++ [s] = gsv (hs ++ [(s, x)]) from by simp [gsv]]
      repeat (refine stp ?_)
      refine ht_next (hv2, hs ++ [(s, x)], o1, r1, nx1, n, f1) hii ⟨⟨?_, ?_, oh2⟩, m1, l1, by dsimp only; omega⟩ (fun w t => (inferInstance : Frm _ _).h _ _ t) (SubE.cons ?_ (SubE.cons rfl inferInstance)) rfl rfl
      · show gby (hs ++ [(s, x)]) = _
        rw [gby_app, hsn, hq]; rfl
      · intro y hy
        rcases List.mem_append.1 hy with hy | hy
        · exact hqr y hy
        · rw [List.mem_singleton.1 hy]; exact hb1 L
      · rw [IntWalk.i64_in _ (by omega)]; rfl
  · have ei : i = (clipV (gby ms)).length := by omega
    rewrite [decide_eq_false hii]
    rw [show (clipV (gby ms)).take i = clipV (gby ms) from List.take_of_length_le (by omega)] at hq htl hfew hsnap m
    generalize clipV (gby ms) = hl at hq htl hfew hsnap m hcl ei hi hii
    clear hii hi
    repeat (refine stp ?_)
    rewrite [hu]
    refine Arm_spec' (u : Int) (by omega) (by rw [if_neg (by omega)]) ?_
    dsimp only
    repeat (refine stp ?_)
    intro c
    repeat (refine stp ?_)
    refine co_constBytes [108, 97, 115, 116] ?_ ?_
    · rfl
    repeat (refine stp ?_)
    have hqM : ∀ (M : List HP) [fr : Frm M L] (y : SB), y ∈ hs → RdE M encB (svY y.1) y.2 := fun M fr y hy => ⟨fun w t => (hqr y hy).h w (fr.h _ _ t)⟩
    have l' : VLive ⟨o, ⟨r, nx, false, d⟩, false⟩ ⟨(u : Int), false, 100000, f⟩ := ⟨l.vb, l.jb, rfl, l.snap, l.log⟩
    have hrl := m.recs_len hfew
    have hri := m.recs_in hfew
    have hall := m.all
    have hnx := m.next
    have hsn3 := hfew.snap
    have hun : ((⟨(u : Int), false, 100000, f⟩ : St).used : Int) = usedF f := rfl
    cases pack
    · repeat (refine stp ?_)
      refine VAdd_spec (b := b) (s := ⟨o, ⟨r, nx, false, d⟩, false⟩) (st := ⟨(u : Int), false, 100000, f⟩) (x := [108, 97, 115, 116]) (by rw [hnx]; omega) (by decide) (by omega) ?_
      obtain ⟨a1, a2, a3, a4⟩ := vadd (x := [108, 97, 115, 116]) hfew (by decide) (by omega) m l'
      generalize addV [108, 97, 115, 116] ⟨o, ⟨r, nx, false, d⟩, false⟩ ⟨(u : Int), false, 100000, f⟩ = ra at a1 a2 a3 a4 ⊢
      obtain ⟨e, s', st'⟩ := ra
      dsimp only at a1 a2 a3 a4 ⊢
      have hfew4 : Few (hl ++ [[108, 97, 115, 116]]) := hfew.app (by omega) (by decide)
      rcases a4 with ⟨b1, b2, b3⟩ | ⟨b1, b2, b3, b4, b5⟩ | ⟨b1, b2, b3, b4⟩
      · subst b1
        have hF := b2.file b3
        repeat (refine stp ?_)
        refine Revive_spec (s := st') ?_
        repeat (refine stp ?_)
        refine VOpen_ok (d := d) (hv := hl ++ [[108, 97, 115, 116]]) (by decide) hfew4 hF fun b' o5 r5 n5 m' f5 m5 l5 u5 _ => ?_
        repeat (refine stp ?_)
        refine VAll_ok (b := b') vG rfl hfew4 m5 fun lv g hg => ?_
        refine Ht.one1 (v := lv) ?_
        intro _
        repeat (refine stp ?_)
        intro e1
        repeat (refine stp ?_)
        refine Ht.own_lit encY (b := e1) (n := 0) (xs := []) rfl rfl (by decide) ?_
        refine co_append (e := encY) (xs := []) (ys := gsv hs) (by rfl) (by simp; omega) (by simp; omega) ?_
        intro tv
        refine Ht.one1 (v := tv) ?_
        intro _
        rewrite [List.nil_append]
        repeat (refine stp ?_)
        intro e2
        repeat (refine stp ?_)
        refine Ht.own_lit encY (b := e2) (n := 1) (xs := [(some ⟨c, 0, none⟩, 4, 4)]) rfl rfl (by decide) ?_
        refine co_append (e := encY) (xs := gsv hs) (ys := [(some ⟨c, 0, none⟩, 4, 4)]) (by rfl) (by simp; omega) (by simp; omega) ?_
        intro tv2
        refine Ht.one1 (v := tv2) ?_
        intro _
        rewrite [show gsv hs ++ [((some ⟨c, 0, none⟩, 4, 4) : SVy)] = gsv (hs ++ [((some ⟨c, 0, none⟩, 4, 4), [108, 97, 115, 116])]) from by simp [gsv]]
        repeat (refine stp ?_)
        refine known13_spec ?_
        repeat (refine stp ?_)
        refine Same12_spec (ms := g) (ns := hs ++ [((some ⟨c, 0, none⟩, 4, 4), [108, 97, 115, 116])]) (fun x hx => bigF_at (F := vG) rfl _ _ x hx) (fun x hx => ?_) (by rw [hg, gby_app, hq]; rfl) ?_
        · rcases List.mem_append.1 hx with hh | hh
          · exact hqM _ x hh
          · rw [List.mem_singleton.1 hh]
            show RdE _ encB (.slice (some ⟨c, 0, none⟩) 4 4) [108, 97, 115, 116]
            infer_instance
        repeat (refine stp ?_)
        refine VAdd_ok (b := b') (d := d) (hv := hl ++ [[108, 97, 115, 116]]) (x := [108, 97, 115, 116]) (by decide) hfew4 (by decide) (by rw [List.length_append]; simp; omega) m5 l5 (by rw [a1]; have u5' : usedF f5 ≤ usedF st'.files := u5; simp at a2 ⊢; omega) fun o6 r6 n6 f6 m6 l6 u6 _ => ?_
        repeat (refine stp ?_)
        exact ret1 rfl (Ht.frm h)
      · subst b1
        repeat (refine stp ?_)
        refine Revive_spec (s := st') ?_
        repeat (refine stp ?_)
        refine VOpen_ok (d := d) (hv := hl) (by decide) hfew b5 fun b' o5 r5 n5 m' f5 m5 l5 u5 _ => ?_
        repeat (refine stp ?_)
        refine VAll_ok (b := b') vG rfl hfew m5 fun lv g hg => ?_
        refine Ht.one1 (v := lv) ?_
        intro _
        repeat (refine stp ?_)
        intro e1
        repeat (refine stp ?_)
        refine Ht.own_lit encY (b := e1) (n := 0) (xs := []) rfl rfl (by decide) ?_
        refine co_append (e := encY) (xs := []) (ys := gsv hs) (by rfl) (by simp; omega) (by simp; omega) ?_
        intro tv
        refine Ht.one1 (v := tv) ?_
        intro _
        rewrite [List.nil_append]
        repeat (refine stp ?_)
        intro e2
        repeat (refine stp ?_)
        refine Ht.own_lit encY (b := e2) (n := 1) (xs := [(some ⟨c, 0, none⟩, 4, 4)]) rfl rfl (by decide) ?_
        refine co_append (e := encY) (xs := gsv hs) (ys := [(some ⟨c, 0, none⟩, 4, 4)]) (by rfl) (by simp; omega) (by simp; omega) ?_
        intro tv2
        refine Ht.one1 (v := tv2) ?_
        intro _
        rewrite [show gsv hs ++ [((some ⟨c, 0, none⟩, 4, 4) : SVy)] = gsv (hs ++ [((some ⟨c, 0, none⟩, 4, 4), [108, 97, 115, 116])]) from by simp [gsv]]
        repeat (refine stp ?_)
        refine known13_spec ?_
        repeat (refine stp ?_)
        refine Same12_len (ms := g) (ns := hs ++ [((some ⟨c, 0, none⟩, 4, 4), [108, 97, 115, 116])]) (by rw [← gby_len, hg, List.length_append, hsn0, htl]; simp) ?_
        repeat (refine stp ?_)
        refine Same12_spec (ms := g) (ns := hs) (fun x hx => bigF_at (F := vG) rfl _ _ x hx) (fun x hx => hqM _ x hx) (by rw [hg, hq]) ?_
        repeat (refine stp ?_)
        refine VAdd_ok (b := b') (d := d) (hv := hl) (x := [108, 97, 115, 116]) (by decide) hfew (by decide) (by omega) m5 l5 (by rw [a1]; have u5' : usedF f5 ≤ usedF st'.files := u5; simp at a2 ⊢; omega) fun o6 r6 n6 f6 m6 l6 u6 _ => ?_
        repeat (refine stp ?_)
        exact ret1 rfl (Ht.frm h)
      · exfalso
        rw [hun] at b4
        simp at b4; omega
    · repeat (refine stp ?_)
      refine VPack_spec (b := b) (s := ⟨o, ⟨r, nx, false, d⟩, false⟩) (st := ⟨(u : Int), false, 100000, f⟩) (by omega) (fun x hx => ⟨by have := (hri x hx).1; omega, (hri x hx).2⟩) (by rw [hall]; omega) (fun x hx => by rw [hall] at hx; have := hfew.x x hx; omega) (by rw [hall]; omega) fun hk => ?_
      obtain ⟨a1, a2, a3, a4⟩ := vpack hfew m l' hk
      clear hk
      generalize packV ⟨o, ⟨r, nx, false, d⟩, false⟩ ⟨(u : Int), false, 100000, f⟩ = ra at a1 a2 a3 a4 ⊢
      obtain ⟨e, s', st'⟩ := ra
      dsimp only at a1 a2 a3 a4 ⊢
      have hF : (e = 0 ∨ e = 14) ∧ VFile hl st' := by
        rcases a4 with ⟨b1, b2, b3⟩ | ⟨b1, b2, b3, b4, b5⟩ | ⟨b1, b2, b3, b4⟩
        · exact ⟨.inl b1, b2.file b3⟩
        · exact ⟨.inr b1, b5⟩
        · exfalso
          rw [hun] at b4
          omega
      obtain ⟨he, hF⟩ := hF
      repeat (refine stp ?_)
      refine Revive_spec (s := st') ?_
      repeat (refine stp ?_)
      refine VOpen_ok (d := d) (hv := hl) (by decide) hfew hF fun b' o5 r5 n5 m' f5 m5 l5 u5 _ => ?_
      repeat (refine stp ?_)
      refine VAll_ok (b := b') vG rfl hfew m5 fun lv g hg => ?_
      refine Ht.one1 (v := lv) ?_
      intro _
      repeat (refine stp ?_)
      intro e1
      repeat (refine stp ?_)
      refine Ht.own_lit encY (b := e1) (n := 0) (xs := []) rfl rfl (by decide) ?_
      refine co_append (e := encY) (xs := []) (ys := gsv hs) (by rfl) (by simp; omega) (by simp; omega) ?_
      intro tv
      refine Ht.one1 (v := tv) ?_
      intro _
      rewrite [List.nil_append]
      repeat (refine stp ?_)
      intro e2
      repeat (refine stp ?_)
      refine Ht.own_lit encY (b := e2) (n := 1) (xs := [(some ⟨c, 0, none⟩, 4, 4)]) rfl rfl (by decide) ?_
      refine co_append (e := encY) (xs := gsv hs) (ys := [(some ⟨c, 0, none⟩, 4, 4)]) (by rfl) (by simp; omega) (by simp; omega) ?_
      intro tv2
      refine Ht.one1 (v := tv2) ?_
      intro _
      rewrite [show gsv hs ++ [((some ⟨c, 0, none⟩, 4, 4) : SVy)] = gsv (hs ++ [((some ⟨c, 0, none⟩, 4, 4), [108, 97, 115, 116])]) from by simp [gsv]]
      repeat (refine stp ?_)
      refine known13_spec ?_
      repeat (refine stp ?_)
      refine Same12_spec (ms := g) (ns := hs) (fun x hx => bigF_at (F := vG) rfl _ _ x hx) (fun x hx => hqM _ x hx) (by rw [hg, hq]) ?_
      repeat (refine stp ?_)
      rcases he with rfl | rfl
      · rewrite [show decide ((0 : Int) = 0) = true from rfl]
        repeat (refine stp ?_)
        exact ret1 rfl (Ht.frm h)
      · rewrite [show decide ((14 : Int) = 0) = false from rfl]
        repeat (refine stp ?_)
        exact ret1 rfl (Ht.frm h)
end Go.Proofs

set_option linter.all false
set_option synthInstance.maxSize 100000
set_option synthInstance.maxHeartbeats 400000
namespace Go.Proofs
open Go Go.SL
attribute [local irreducible] CCall CO CC CX CD

theorem tfind_num : ∀ (l : List (List UInt8)) (k : Int) (i : Nat), i < l.length → tfind (k + i) (num k l) = some l[i]!
  | [], _, _, h => by simp at h
  | x :: l, k, 0, _ => by
    have ht : tpos (k + ((0 : Nat) : Int)) (num k (x :: l)) = 0 := by
      unfold tpos
      show (List.takeWhile _ ((k, x) :: num (k + 1) l)).length = 0
      rw [List.takeWhile_cons, if_neg (by show ¬ decide (k < k + ((0 : Nat) : Int)) = true; simp)]; rfl
    rw [tfind_at (r := (k, x)) (by rw [ht]; rfl), if_pos (by simp)]; rfl
  | x :: l, k, i + 1, h => by
    have ih := tfind_num l (k + 1) i (by simpa using h)
    have e : k + ((i + 1 : Nat) : Int) = k + 1 + (i : Int) := by omega
    rw [e]
    have ht : tpos (k + 1 + (i : Int)) (num k (x :: l)) = tpos (k + 1 + (i : Int)) (num (k + 1) l) + 1 := by
      unfold tpos
      show (List.takeWhile _ ((k, x) :: num (k + 1) l)).length = _
      rw [List.takeWhile_cons, if_pos (by show decide (k < k + 1 + (i : Int)) = true; simp; omega)]; rfl
    have h2 := tfind_some ih
    rw [tfind_at (r := (k + 1 + (i : Int), l[i]!)) (by rw [ht]; exact h2), if_pos rfl]
    simp
theorem VMem.get {hv : List (List UInt8)} {n : Nat} {s : Vt} (m : VMem hv n s) {k : Nat} (h1 : s.old.length ≤ k) (h2 : k < hv.length) : tfind (k : Int) s.j.recs = some hv[k]! := by
  have h3 := m.lo
  have e : (k : Int) = (n : Int) + ((k - n : Nat) : Int) := by omega
  rw [m.recs, e, tfind_num _ _ _ (by rw [List.length_drop]; omega)]
  congr 1
  rw [getElem!_pos (hv.drop n) (k - n) (by rw [List.length_drop]; omega), getElem!_pos hv k h2, List.getElem_drop]
  congr 1; omega
theorem VMem.get_old {hv : List (List UInt8)} {n : Nat} {s : Vt} (m : VMem hv n s) {k : Nat} (h1 : k < s.old.length) : s.old[k]! = hv[k]! := by
  have h2 := m.hi
  rw [getElem!_pos hv k (by omega), getElem!_pos s.old k h1]
  have h3 : (hv.take s.old.length)[k]? = some s.old[k] := by rw [← m.old]; exact List.getElem?_eq_getElem h1
  rw [List.getElem?_take, if_pos h1, List.getElem?_eq_getElem (by omega)] at h3
  injection h3 with h3
  exact h3.symm
theorem vopen' {hv : List (List UInt8)} {s : Vt} {st st' : St} (l : VLive s st) (hf : st'.files = st.files) (hd : st'.down = st.down) : VLive s st' :=
  ⟨l.vb, l.jb, hd.trans l.up, by rw [← l.snap]; exact congrArg Prod.snd (loadM_eq (by rw [hf])), by rw [← l.log]; exact jlogB_eq (by rw [hf])⟩

/-! ### a play's call, and what stands behind each -/
@[reducible] def encA13 : Enc (Int × Int × SB) := ⟨3, fun r => [.int .i64 r.1, .int .i64 r.2.1, .slice r.2.2.1.1 r.2.2.1.2.1 r.2.2.1.2.2], fun _ => rfl, fun r v h => by
  simp at h; rcases h with rfl | rfl | rfl <;> rfl⟩
abbrev A13 := Int × Int × SB
def okAct13 (L : List HP) (a : A13) : Prop := RdE L encB (svY a.2.2.1) a.2.2.2 ∧ a.2.1 ≤ 9223372036854775807
structure PI13 (L : List HP) (room : Int) (i : Nat) (s : Vt) (st : St) (n : Nat) (hs : List SB) : Prop where
  few : Few (gby hs)
  len : hs.length ≤ i
  rd : ∀ y ∈ hs, RdE L encB (svY y.1) y.2
  mem : VMem (gby hs) n s
  file : VFile (gby hs) st
  live : s.broken = false → VLive s st
  room_ : st.room = room
variable {L : List HP} {room : Int} {i n : Nat} {s : Vt} {st : St} {hs : List SB}
theorem PI13.up (h : PI13 L room i s st n hs) : PI13 L room (i + 1) s st n hs := { h with len := by have := h.len; omega }
theorem PI13.arm (h : PI13 L room i s st n hs) (l : Int) : PI13 L room (i + 1) s { st with left := l } n hs :=
  { h with len := by have := h.len; omega, file := h.file, live := fun hb => vopen' (hv := []) (h.live hb) rfl rfl }
theorem PI13.fewS (h : PI13 L room i s st n hs) : s.j.recs.length ≤ 100 ∧ (∀ x ∈ s.j.recs, x.2.length ≤ 100 ∧ 0 ≤ x.1 ∧ x.1 ≤ grB) ∧ s.old.length ≤ 100 ∧ allV s = gby hs ∧ s.j.next = hs.length ∧ (∀ x ∈ gby hs, x.length ≤ 100) ∧ (snapB (gby hs)).length ≤ 12000 :=
  ⟨h.mem.recs_len h.few, h.mem.recs_in h.few, h.mem.old_len h.few, h.mem.all, by rw [h.mem.next, gby_len], h.few.x, h.few.snap⟩
/-- what an Add tells, and what stands behind it -/
theorem PI13.add (h : PI13 L room i s st n hs) {x : SB} (hx : x.2.length ≤ 60) (hi : i < 60) (hr : RdE L encB (svY x.1) x.2) :
    (addV x.2 s st).2.1.j.disk = s.j.disk ∧
    ((s.broken = true ∧ addV x.2 s st = (10, s, st)) ∨
     (s.broken = false ∧ (addV x.2 s st).1 = 0 ∧ (addV x.2 s st).2.1.broken = false ∧ PI13 L room (i + 1) (addV x.2 s st).2.1 (addV x.2 s st).2.2 n (hs ++ [x])) ∨
     (s.broken = false ∧ (addV x.2 s st).1 = 14 ∧ (addV x.2 s st).2.1.broken = true ∧ PI13 L room (i + 1) (addV x.2 s st).2.1 (addV x.2 s st).2.2 n hs) ∨
     (s.broken = false ∧ addV x.2 s st = (7, s, st) ∧ st.room - st.used < x.2.length + 9)) := by
  cases hb : s.broken with
  | true =>
    have e : addV x.2 s st = (10, s, st) := by unfold addV; rw [if_pos hb]
    rw [e]
    exact ⟨rfl, .inl ⟨rfl, rfl⟩⟩
  | false =>
    have hl := h.len
    have hfl : (gby hs).length < 100 := by rw [gby_len]; omega
    obtain ⟨a1, a2, a3, a4⟩ := vadd (x := x.2) h.few (by omega) hfl h.mem (h.live hb)
    refine ⟨a3, .inr ?_⟩
    rcases a4 with ⟨b1, b2, b3⟩ | ⟨b1, b2, b3, b4, b5⟩ | ⟨b1, b2, b3, b4⟩
    · have eg : gby (hs ++ [x]) = gby hs ++ [x.2] := by rw [gby_app]; rfl
      refine .inl ⟨rfl, b1, b3.vb, ⟨?_, ?_, ?_, ?_, ?_, fun _ => b3, a1.trans h.room_⟩⟩
      · rw [eg]; exact h.few.app hfl (by omega)
      · rw [List.length_append]; simp; omega
      · intro y hy
        rcases List.mem_append.1 hy with hy | hy
        · exact h.rd y hy
        · rw [List.mem_singleton.1 hy]; exact hr
      · rw [eg]; exact b2
      · rw [eg]; exact b2.file b3
    · exact .inr (.inl ⟨rfl, b1, b3, ⟨h.few, by omega, h.rd, b2, b5, (fun hh => by rw [b3] at hh; cases hh), a1.trans h.room_⟩⟩)
    · refine .inr (.inr ⟨rfl, ?_, b4⟩)
      have e : addV x.2 s st = ((addV x.2 s st).1, (addV x.2 s st).2.1, (addV x.2 s st).2.2) := rfl
      rw [e, b1, b2, b3]
theorem PI13.pack (h : PI13 L room i s st n hs) (hk : s.broken = false → (saveV s st).1 = 0 → (saveV s st).2.ok) :
    (packV s st).2.1.j.disk = s.j.disk ∧
    ((s.broken = true ∧ packV s st = (10, s, st)) ∨
     (s.broken = false ∧ ((packV s st).1 = 0 ∨ (packV s st).1 = 7) ∧ (packV s st).2.1.broken = false ∧ ∃ n', PI13 L room (i + 1) (packV s st).2.1 (packV s st).2.2 n' hs) ∨
     (s.broken = false ∧ (packV s st).1 = 14 ∧ (packV s st).2.1.broken = true ∧ PI13 L room (i + 1) (packV s st).2.1 (packV s st).2.2 n hs)) := by
  cases hb : s.broken with
  | true =>
    have e : packV s st = (10, s, st) := by unfold packV; rw [if_pos hb]
    rw [e]
    exact ⟨rfl, .inl ⟨rfl, rfl⟩⟩
  | false =>
    have hl := h.len
    obtain ⟨a1, a2, a3, a4⟩ := vpack h.few h.mem (h.live hb) hk
    refine ⟨a3, .inr ?_⟩
    rcases a4 with ⟨b1, b2, b3⟩ | ⟨b1, b2, b3, b4, b5⟩ | ⟨b1, b2, b3, b4⟩
    · exact .inl ⟨rfl, .inl b1, b3.vb, _, ⟨h.few, by omega, h.rd, b2, b2.file b3, fun _ => b3, a1.trans h.room_⟩⟩
    · exact .inr ⟨rfl, b1, b3, ⟨h.few, by omega, h.rd, b2, b5, (fun hh => by rw [b3] at hh; cases hh), a1.trans h.room_⟩⟩
    · rw [b2, b3]
      exact .inl ⟨rfl, .inr b1, hb, n, h.up⟩
theorem PI13.again (h : PI13 L room i s st n hs) (d : Nat) : ∃ n', PI13 L room (i + 1) (openV d { st with left := -1, down := false }).2 (jcutS { st with left := -1, down := false }) n' hs ∧ (openV d { st with left := -1, down := false }).1 = 0 ∧ (openV d { st with left := -1, down := false }).2.j.disk = d ∧ (openV d { st with left := -1, down := false }).2.broken = false ∧ (jlogB { st with left := -1, down := false }).length ≤ 2000000 := by
  have hl := h.len
  obtain ⟨a1, a2, ⟨n', a3⟩, a4, a5, a6, a7, a8, a9⟩ := vopen (d := d) (st := { st with left := -1, down := false }) h.few h.file rfl
  exact ⟨n', ⟨h.few, by omega, h.rd, a3, a3.file a4, fun _ => a4, a5.trans h.room_⟩, a1, a2, a4.vb, a9⟩
theorem PI13.new {i : Nat} {d : Nat} : ∃ n, PI13 L room i (openV d ⟨-1, false, room, []⟩).2 (jcutS ⟨-1, false, room, []⟩) n [] ∧ (openV d ⟨-1, false, room, []⟩).1 = 0 ∧ (openV d ⟨-1, false, room, []⟩).2.j.disk = d ∧ (openV d ⟨-1, false, room, []⟩).2.broken = false := by
  obtain ⟨a1, a2, ⟨n', a3⟩, a4, a5, a6, a7, a8, a9⟩ := vopen (d := d) (st := ⟨-1, false, room, []⟩) Few.nil vfile_nil rfl
  exact ⟨n', ⟨Few.nil, by simp, (fun y hy => by cases hy), a3, a3.file a4, fun _ => a4, a5⟩, a1, a2, a4.vb⟩
end Go.Proofs

set_option linter.all false
set_option synthInstance.maxSize 100000
set_option synthInstance.maxHeartbeats 400000
namespace Go.Proofs
open Go Go.SL
attribute [local irreducible] CCall CO CC CX CD

def famV : List (List CanIt) := [[.q 1, .q 3, .q 4, .x 0 [1, 3, 4], .x 2 [3, 4], .x 5 [1], .x 6 [], .q 7], [.q 1, .q 3, .q 4, .x 0 [1, 3, 4], .x 5 [1], .x 2 [3, 4], .x 6 [], .q 7], [.q 1, .q 3, .q 4, .x 5 [1], .x 0 [1, 3, 4], .x 2 [3, 4], .x 6 [], .q 7]]
theorem VSpare_ok {L L1 R K b} {o : List (List UInt8)} {r : List (Int × List UInt8)} {nx : Int} {jb br : Bool} {d : Nat} {st : St} [p : Pull (isV b) L ⟨o, ⟨r, nx, jb, d⟩, br⟩ L1] [q : Pull (isStore d) L1 st R] (h : st.ok → Ht (isV b ⟨o, ⟨r, nx, jb, d⟩, br⟩ :: isStore d st :: R) (K (.int .i64 (st.room - st.used)))) : Ht L (CCall Tryz.prog 24 [.pointer (some ⟨b, 0, none⟩)] K) :=
  VSpare_spec (b := b) (s := ⟨o, ⟨r, nx, jb, d⟩, br⟩) h
theorem VaultPlays_spec {L K v} {p0 : Int} {l : List A13} [rs : RdS L v encA13 l] (hok : ∀ a ∈ l, okAct13 L a) (h : Ht L (K (.bool true))) : Ht L (CCall Tryz.prog 7 [.int .i64 p0, v] K) := by
  haveI : NZ 6 := ⟨by decide⟩
  haveI : NZ 600 := ⟨by decide⟩
  obtain ⟨g, hg, hg600⟩ := modw p0 (n := 600) (by decide) (by decide)
  rewrite [show ((600 : Nat) : Int) = 600 from rfl] at hg
  refine ccall2 Tryz.func7 rfl (by decide) Tryz.ntmps7 (by rfl) (by decide) ?_
  repeat (refine stp ?_)
  rewrite [hg, show IntKind.i64.wrap (30 + (g : Int)) = 30 + (g : Int) from IntWalk.i64_in _ (by omega)]
  refine New_spec (fun hh => by omega) (fun _ _ d => ?_)
  repeat (refine stp ?_)
  obtain ⟨n0, P0, e0, d0, v0⟩ := PI13.new (L := L) (room := 30 + (g : Int)) (i := 0) (d := d)
  refine VOpen_spec (d := d) (st := ⟨-1, false, 30 + (g : Int), []⟩) rfl (show (-1 : Int) < 0 by decide) (by show ([] : List UInt8).length ≤ _; decide) (fun hh => by rw [e0] at hh; cases hh) (fun _ b => ?_)
  generalize jcutS ⟨-1, false, 30 + (g : Int), []⟩ = st at P0 ⊢
  generalize (openV d ⟨-1, false, 30 + (g : Int), []⟩).2 = s at P0 d0 v0 ⊢
  obtain ⟨o, ⟨r, nx, jb, dd⟩, br⟩ := s
  dsimp only at d0 v0
  subst d0; subst v0
  repeat (refine stp ?_)
  refine cc_env (E' := [(12, .int .i64 0), (7, .pointer (some ⟨b, 0, none⟩)), (9, .slice none 0 0), (10, .slice none 0 0), (11, .bool true), (5, .pointer (some ⟨dd, 0, none⟩)), (0, .int .i64 (30 + (g : Int))), (1, v), (4, .bool false)]) inferInstance ?_
  revert P0
  generalize dd = d
  intro P0
  refine ht_cutd (.exit 0) (ι := Unit) (fun x => True) (fun x => L) (fun x => [(4, .bool false)]) ?_ ?_
  · intro Q' hQ
    refine ht_for (min l.length 60) (fun i (x : Nat × List (List UInt8) × List (Int × List UInt8) × Int × Bool × Bool × St × Nat × Value × List SB × Value) => PI13 L (30 + (g : Int)) i ⟨x.2.1, ⟨x.2.2.1, x.2.2.2.1, x.2.2.2.2.1, d⟩, x.2.2.2.2.2.1⟩ x.2.2.2.2.2.2.1 x.2.2.2.2.2.2.2.1 x.2.2.2.2.2.2.2.2.2.1 ∧ One1 x.2.2.2.2.2.2.2.2.1 ∧ One1 x.2.2.2.2.2.2.2.2.2.2) (fun _ x => own encY 22 x.2.2.2.2.2.2.2.2.1 (gsv x.2.2.2.2.2.2.2.2.2.1) :: isV x.1 ⟨x.2.1, ⟨x.2.2.1, x.2.2.2.1, x.2.2.2.2.1, d⟩, x.2.2.2.2.2.1⟩ :: isStore d x.2.2.2.2.2.2.1 :: L) (fun i x => [(12, .int .i64 i), (7, .pointer (some ⟨x.1, 0, none⟩)), (9, x.2.2.2.2.2.2.2.2.1), (10, x.2.2.2.2.2.2.2.2.2.2), (11, .bool (!x.2.2.2.2.2.1))]) (b, o, r, nx, jb, false, st, n0, .slice none 0 0, [], .slice none 0 0) [12, 7, 9, 10, 11] ⟨P0, ⟨rfl⟩, ⟨rfl⟩⟩ (fun w s => own_nil.2 ((inferInstance : Frm _ _).h _ _ s)) (SubE.cons rfl (SubE.cons rfl (SubE.cons rfl (SubE.cons rfl (SubE.cons rfl inferInstance))))) ?_
    intro i ⟨b, o, r, nx, jb, br, st, n, hv, hs, mv⟩ hi ⟨hP, oh, om⟩
    dsimp only [List.cons_append, List.nil_append] at hP oh om ⊢
    clear P0
    have hsg := gsv_len (ms := hs)
    have hlen := hP.len
    haveI : RdS (own encY 22 hv (gsv hs) :: isV b ⟨o, ⟨r, nx, jb, d⟩, br⟩ :: isStore d st :: L) v encA13 l := ⟨fun w s => rs.h w s.tail.tail.tail⟩
    repeat (refine stp ?_)
    refine ht_guard ?_ ?_ <;> intro h0 <;> simp only [decide_eq_true_eq, decide_eq_false_iff_not] at h0
    · repeat (refine stp ?_)
      refine ht_if ?_ ?_ <;> intro h3 <;> simp only [decide_eq_true_eq, decide_eq_false_iff_not] at h3
      · have hii : i < l.length := by omega
        obtain ⟨hr, hN⟩ : okAct13 L l[i]! := (hok _ (List.mem_of_getElem? (getB hii)))
        repeat (refine stp ?_)
        refine co_index (by omega) ?_
        intro hb
        repeat (refine stp ?_)
        generalize l[i]! = ac at hr hN ⊢
        obtain ⟨k, m, ⟨sa, sl, sc⟩, bs⟩ := ac
        dsimp only [svY] at hr hN ⊢
        intro c
        repeat (refine stp ?_)
        refine Ht.know (p := sl = bs.length ∧ bs.length ≤ 9223372036854775807) (fun w s => ?_) (fun ⟨e, hbl⟩ => ?_)
        · have hh := hr.h w s.tail.tail.tail.tail
          obtain ⟨a, c, hv, _, _⟩ := sliceIn_of hh
          cases hv
          exact ⟨rfl, hh.le⟩
        subst e
        haveI := hr.toS
        rewrite [show (if (60 : Int) < bs.length then 60 else (bs.length : Int)) = ((min bs.length 60 : Nat) : Int) from by split <;> omega]
        refine co_slice (xs := bs) (by omega) ?_
        intro hsl
        have rs2 : RdE L encB (slSub (Value.slice sa bs.length sc) 1 0 (min bs.length 60)) (bs.take 60) := ⟨fun w s => by
          have := slSub_in (hr.h w s) (lo := 0) (hi := min bs.length 60) ⟨by omega, by omega⟩
          rw [List.drop_zero, stake_min] at this
          exact this⟩
        have hsf : ∃ s : SVy, slSub (Value.slice sa bs.length sc) 1 0 (min bs.length 60) = svY s ∧ s.2.1 = min bs.length 60 := ⟨(_, _, _), rfl, by simp⟩
        haveI ob : One1 (slSub (Value.slice sa bs.length sc) 1 0 (min bs.length 60)) := ⟨rfl⟩
        generalize slSub (Value.slice sa bs.length sc) 1 0 (min bs.length 60) = bv at rs2 hsf ob ⊢
        obtain ⟨sv, esv, hsvl⟩ := hsf
        subst esv
        have hbt : (bs.take 60).length = min bs.length 60 := by rw [List.length_take, Nat.min_comm]
        rw [← hbt] at hsvl
        have hbt60 : (bs.take 60).length ≤ 60 := by rw [hbt]; omega
        generalize bs.take 60 = xb at rs2 hsvl hbt60
        have rsM : ∀ (M : List HP) [fr : Frm M L], RdE M encB (svY sv) xb := fun M fr => ⟨fun w t => rs2.h w (fr.h _ _ t)⟩
        have rsM' : ∀ (M : List HP) [fr : Frm M L], RdE M encB (.slice sv.1 sv.2.1 sv.2.2) xb := fun M fr => ⟨fun w t => rs2.h w (fr.h _ _ t)⟩
        have hsM : ∀ (M : List HP) [fr : Frm M L] (y : SB), y ∈ hs → RdE M encB (svY y.1) y.2 := fun M fr y hy => ⟨fun w t => (hP.rd y hy).h w (fr.h _ _ t)⟩
        obtain ⟨f1, f2, f3, f4, f5, f6, f7⟩ := hP.fewS
        repeat (refine stp ?_)
        refine ht_cutd .normal (ι := Nat × List (List UInt8) × List (Int × List UInt8) × Int × Bool × Bool × St × Nat × Value × List SB × Value) (fun x => PI13 L (30 + (g : Int)) (i + 1) ⟨x.2.1, ⟨x.2.2.1, x.2.2.2.1, x.2.2.2.2.1, d⟩, x.2.2.2.2.2.1⟩ x.2.2.2.2.2.2.1 x.2.2.2.2.2.2.2.1 x.2.2.2.2.2.2.2.2.2.1 ∧ One1 x.2.2.2.2.2.2.2.2.1 ∧ One1 x.2.2.2.2.2.2.2.2.2.2) (fun x => own encY 22 x.2.2.2.2.2.2.2.2.1 (gsv x.2.2.2.2.2.2.2.2.2.1) :: isV x.1 ⟨x.2.1, ⟨x.2.2.1, x.2.2.2.1, x.2.2.2.2.1, d⟩, x.2.2.2.2.2.1⟩ :: isStore d x.2.2.2.2.2.2.1 :: L) (fun x => [(12, .int .i64 i), (7, .pointer (some ⟨x.1, 0, none⟩)), (9, x.2.2.2.2.2.2.2.2.1), (10, x.2.2.2.2.2.2.2.2.2.2), (11, .bool (!x.2.2.2.2.2.1))] ++ [(5, .pointer (some ⟨d, 0, none⟩)), (0, .int .i64 (30 + (g : Int))), (1, v), (4, .bool false)]) ?_ ?_
        · intro Q2 hQ2
          dsimp only [List.cons_append, List.nil_append] at hQ2
          refine ht_if ?_ ?_ <;> intro k0 <;> simp only [decide_eq_true_eq, decide_eq_false_iff_not] at k0
          · repeat (refine stp ?_)
            refine VAdd_spec (b := b) (s := ⟨o, ⟨r, nx, jb, d⟩, br⟩) (st := st) (x := xb) (rs := rsM _) (by show (0 : Int) ≤ nx; rw [show nx = (hs.length : Int) from f5]; omega) (by omega) (by have f1' : r.length ≤ 100 := f1; show r.length ≤ _; omega) ?_
            obtain ⟨hdk, hcase⟩ := hP.add (x := (sv, xb)) hbt60 (by omega) rs2
            generalize addV xb ⟨o, ⟨r, nx, jb, d⟩, br⟩ st = ra at hdk hcase ⊢
            obtain ⟨e, ⟨o2, ⟨r2, nx2, jb2, d2⟩, br2⟩, st2⟩ := ra
            dsimp only at hdk hcase ⊢
            subst hdk
            rcases hcase with ⟨hb1, e1⟩ | ⟨hb1, he, hb2, hP2⟩ | ⟨hb1, he, hb2, hP2⟩ | ⟨hb1, e1, hfull⟩
            · simp only [Prod.mk.injEq, Vt.mk.injEq, Jn.mk.injEq] at e1
              obtain ⟨rfl, ⟨rfl, ⟨rfl, rfl, rfl, _⟩, rfl⟩, rfl⟩ := e1
              subst hb1
              repeat (refine stp ?_)
              rewrite [Bool.not_not]
              repeat (refine stp ?_)
              exact cx_env (SubE.cons rfl (SubE.cons rfl (SubE.cons rfl (SubE.cons rfl (SubE.cons rfl inferInstance))))) (Ht.frm (hQ2 (b, _, _, _, _, true, _, n, hv, hs, mv) ⟨hP.up, oh, om⟩))
            · subst hb1; subst he; subst hb2
              repeat (refine stp ?_)
              rewrite [Bool.not_not]
              repeat (refine stp ?_)
              unfold svY
              repeat (refine stp ?_)
              intro b1
              repeat (refine stp ?_)
              refine Ht.own_lit encY (b := b1) (n := 1) (xs := [sv]) rfl rfl (by decide) ?_
              refine co_append (e := encY) (xs := gsv hs) (ys := [sv]) (by rfl) (by simp; omega) (by simp; omega) ?_
              intro hv2
              refine Ht.one1 (v := hv2) ?_
              intro oh2
              rewrite [show gsv hs ++ [sv] = gsv (hs ++ [(sv, xb)]) from by simp [gsv]]
              repeat (refine stp ?_)
              exact cx_env (SubE.cons rfl (SubE.cons rfl (SubE.cons rfl (SubE.cons rfl (SubE.cons rfl inferInstance))))) (Ht.frm (hQ2 (b, _, _, _, _, false, _, n, hv2, hs ++ [(sv, xb)], hv2) ⟨hP2, oh2, oh2⟩))
            · subst hb1; subst he; subst hb2
              repeat (refine stp ?_)
              rewrite [Bool.not_not]
              repeat (refine stp ?_)
              unfold svY
              refine ht_drawG [0, 2, 5, 6] famV Tryz.mixed (by kernel_rfl) ?_
              intro π hπ
              simp only [famV, List.mem_cons, List.mem_nil_iff, or_false] at hπ
              rcases hπ with rfl | rfl | rfl
              · repeat (refine stp ?_)
                intro b1
                refine Ht.own_lit encY (b := b1) (n := 0) (xs := []) rfl rfl (by decide) ?_
                repeat (refine stp ?_)
                refine co_append (e := encY) (xs := []) (ys := gsv hs) (by rfl) (by simp; omega) (by simp; omega) ?_
                intro tv
                refine Ht.one1 (v := tv) ?_
                intro ot
                repeat (refine stp ?_)
                repeat (refine stp ?_)
                intro b2
                refine Ht.own_lit encY (b := b2) (n := 1) (xs := [sv]) rfl rfl (by decide) ?_
                repeat (refine stp ?_)
                refine co_append (e := encY) (xs := [] ++ gsv hs) (ys := [sv]) (by rfl) (by simp; omega) (by simp; omega) ?_
                intro tv2
                refine Ht.one1 (v := tv2) ?_
                intro ot2
                repeat (refine stp ?_)
                exact cx_env (SubE.cons rfl (SubE.cons rfl (SubE.cons rfl (SubE.cons rfl (SubE.cons rfl inferInstance))))) (Ht.frm (hQ2 (b, _, _, _, _, true, _, n, hv, hs, tv2) ⟨hP2, oh, ot2⟩))
              · repeat (refine stp ?_)
                intro b1
                refine Ht.own_lit encY (b := b1) (n := 0) (xs := []) rfl rfl (by decide) ?_
                repeat (refine stp ?_)
                intro b2
                refine Ht.own_lit encY (b := b2) (n := 1) (xs := [sv]) rfl rfl (by decide) ?_
                repeat (refine stp ?_)
                refine co_append (e := encY) (xs := []) (ys := gsv hs) (by rfl) (by simp; omega) (by simp; omega) ?_
                intro tv
                refine Ht.one1 (v := tv) ?_
                intro ot
                repeat (refine stp ?_)
                repeat (refine stp ?_)
                refine co_append (e := encY) (xs := [] ++ gsv hs) (ys := [sv]) (by rfl) (by simp; omega) (by simp; omega) ?_
                intro tv2
                refine Ht.one1 (v := tv2) ?_
                intro ot2
                repeat (refine stp ?_)
                exact cx_env (SubE.cons rfl (SubE.cons rfl (SubE.cons rfl (SubE.cons rfl (SubE.cons rfl inferInstance))))) (Ht.frm (hQ2 (b, _, _, _, _, true, _, n, hv, hs, tv2) ⟨hP2, oh, ot2⟩))
              · repeat (refine stp ?_)
                intro b2
                refine Ht.own_lit encY (b := b2) (n := 1) (xs := [sv]) rfl rfl (by decide) ?_
                repeat (refine stp ?_)
                intro b1
                refine Ht.own_lit encY (b := b1) (n := 0) (xs := []) rfl rfl (by decide) ?_
                repeat (refine stp ?_)
                refine co_append (e := encY) (xs := []) (ys := gsv hs) (by rfl) (by simp; omega) (by simp; omega) ?_
                intro tv
                refine Ht.one1 (v := tv) ?_
                intro ot
                repeat (refine stp ?_)
                repeat (refine stp ?_)
                refine co_append (e := encY) (xs := [] ++ gsv hs) (ys := [sv]) (by rfl) (by simp; omega) (by simp; omega) ?_
                intro tv2
                refine Ht.one1 (v := tv2) ?_
                intro ot2
                repeat (refine stp ?_)
                exact cx_env (SubE.cons rfl (SubE.cons rfl (SubE.cons rfl (SubE.cons rfl (SubE.cons rfl inferInstance))))) (Ht.frm (hQ2 (b, _, _, _, _, true, _, n, hv, hs, tv2) ⟨hP2, oh, ot2⟩))
            · simp only [Prod.mk.injEq, Vt.mk.injEq, Jn.mk.injEq] at e1
              obtain ⟨rfl, ⟨rfl, ⟨rfl, rfl, rfl, _⟩, rfl⟩, rfl⟩ := e1
              subst hb1
              repeat (refine stp ?_)
              rewrite [Bool.not_not]
              repeat (refine stp ?_)
              unfold svY
              refine ht_draw Tryz.can7x24 Tryz.mixed (by kernel_rfl) ?_
              repeat (refine stp ?_)
              refine VSpare_ok (b := b) (st := _) fun hk => ?_
              have hr' := hP.room_
              have hk2 := hk.2.1
              have hk1 := hk.1
              repeat (refine stp ?_)
              rewrite [show decide (IntKind.i64.wrap ((sv.2.1 : Int) + 12) ≤ st2.room - (st2.used : Int)) = false from decide_eq_false (by rw [IntWalk.i64_in _ (by omega)]; omega)]
              repeat (refine stp ?_)
              exact cx_env (SubE.cons rfl (SubE.cons rfl (SubE.cons rfl (SubE.cons rfl (SubE.cons rfl inferInstance))))) (Ht.frm (hQ2 (b, _, _, _, _, false, _, n, hv, hs, mv) ⟨hP.up, oh, om⟩))
          repeat (refine stp ?_)
          refine ht_if ?_ ?_ <;> intro k1 <;> simp only [decide_eq_true_eq, decide_eq_false_iff_not] at k1
          · repeat (refine stp ?_)
            refine VPack_spec (b := b) (s := ⟨o, ⟨r, nx, jb, d⟩, br⟩) (st := st) (by have f1' : r.length ≤ 100 := f1; show r.length ≤ _; omega) (fun y hy => ⟨by have := (f2 y hy).1; omega, (f2 y hy).2⟩) (by rw [f4, gby_len]; omega) (fun y hy => by rw [f4] at hy; have := f6 y hy; omega) (by rw [f4]; omega) fun hk => ?_
            obtain ⟨hdk, hcase⟩ := hP.pack hk
            clear hk
            generalize packV ⟨o, ⟨r, nx, jb, d⟩, br⟩ st = ra at hdk hcase ⊢
            obtain ⟨e, ⟨o2, ⟨r2, nx2, jb2, d2⟩, br2⟩, st2⟩ := ra
            dsimp only at hdk hcase ⊢
            subst hdk
            rcases hcase with ⟨hb1, e1⟩ | ⟨hb1, he, hb2, n2, hP2⟩ | ⟨hb1, he, hb2, hP2⟩
            · simp only [Prod.mk.injEq, Vt.mk.injEq, Jn.mk.injEq] at e1
              obtain ⟨rfl, ⟨rfl, ⟨rfl, rfl, rfl, _⟩, rfl⟩, rfl⟩ := e1
              subst hb1
              repeat (refine stp ?_)
              rewrite [Bool.not_not]
              repeat (refine stp ?_)
              exact cx_env (SubE.cons rfl (SubE.cons rfl (SubE.cons rfl (SubE.cons rfl (SubE.cons rfl inferInstance))))) (Ht.frm (hQ2 (b, _, _, _, _, true, _, n, hv, hs, mv) ⟨hP.up, oh, om⟩))
            · subst hb1; subst hb2
              rcases he with rfl | rfl
              · repeat (refine stp ?_)
                rewrite [Bool.not_not]
                repeat (refine stp ?_)
                exact cx_env (SubE.cons rfl (SubE.cons rfl (SubE.cons rfl (SubE.cons rfl (SubE.cons rfl inferInstance))))) (Ht.frm (hQ2 (b, _, _, _, _, false, _, n2, hv, hs, mv) ⟨hP2, oh, om⟩))
              · repeat (refine stp ?_)
                rewrite [Bool.not_not]
                repeat (refine stp ?_)
                exact cx_env (SubE.cons rfl (SubE.cons rfl (SubE.cons rfl (SubE.cons rfl (SubE.cons rfl inferInstance))))) (Ht.frm (hQ2 (b, _, _, _, _, false, _, n2, hv, hs, mv) ⟨hP2, oh, om⟩))
            · subst hb1; subst he; subst hb2
              repeat (refine stp ?_)
              rewrite [Bool.not_not]
              repeat (refine stp ?_)
              exact cx_env (SubE.cons rfl (SubE.cons rfl (SubE.cons rfl (SubE.cons rfl (SubE.cons rfl inferInstance))))) (Ht.frm (hQ2 (b, _, _, _, _, true, _, n, hv, hs, mv) ⟨hP2, oh, om⟩))
          repeat (refine stp ?_)
          refine ht_if ?_ ?_ <;> intro k2 <;> simp only [decide_eq_true_eq, decide_eq_false_iff_not] at k2
          · repeat (refine stp ?_)
            refine Arm_spec (b := d) (s := st) hN ?_
            repeat (refine stp ?_)
            exact cx_env (SubE.cons rfl (SubE.cons rfl (SubE.cons rfl (SubE.cons rfl (SubE.cons rfl inferInstance))))) (Ht.frm (hQ2 (b, o, r, nx, jb, br, { st with left := if m < -1 then -1 else m }, n, hv, hs, mv) ⟨hP.arm _, oh, om⟩))
          repeat (refine stp ?_)
          refine ht_if ?_ ?_ <;> intro k3 <;> simp only [decide_eq_true_eq, decide_eq_false_iff_not] at k3
          · repeat (refine stp ?_)
            refine Revive_spec (b := d) (s := st) ?_
            repeat (refine stp ?_)
            obtain ⟨n', P', e', d', v', lb'⟩ := hP.again d
            refine VOpen_spec (d := d) (st := { st with left := -1, down := false }) rfl (show (-1 : Int) < 0 by decide) lb' (fun hh => by rw [e'] at hh; cases hh) (fun _ b' => ?_)
            generalize jcutS { st with left := -1, down := false } = st3 at P' ⊢
            generalize (openV d { st with left := -1, down := false }).2 = s3 at P' d' v' ⊢
            obtain ⟨o3, ⟨r3, nx3, jb3, d3⟩, br3⟩ := s3
            dsimp only at d' v'
            subst d'; subst v'
            repeat (refine stp ?_)
            refine VAll_ok (b := b') vG rfl P'.few P'.mem fun lv g2 hg2 => ?_
            refine Ht.one1 (v := lv) ?_
            intro _
            repeat (refine stp ?_)
            refine Same12_spec (ms := g2) (ns := hs) (fun y hy => bigF_at (F := vG) rfl _ _ y hy) (fun y hy => hsM _ y hy) hg2 ?_
            repeat (refine stp ?_)
            exact cx_env (SubE.cons rfl (SubE.cons rfl (SubE.cons rfl (SubE.cons rfl (SubE.cons rfl inferInstance))))) (Ht.frm (hQ2 (b', _, _, _, _, false, _, n', hv, hs, hv) ⟨P', oh, oh⟩))
          repeat (refine stp ?_)
          refine ht_if ?_ ?_ <;> intro k4 <;> simp only [decide_eq_true_eq, decide_eq_false_iff_not] at k4
          · repeat (refine stp ?_)
            have hfin : ∀ (E' : List (Nat × Value)) (M : List HP) [fr : Frm M (own encY 22 hv (gsv hs) :: isV b ⟨o, ⟨r, nx, jb, d⟩, br⟩ :: isStore d st :: L)] [se : SubE E' ([(12, .int .i64 i), (7, .pointer (some ⟨b, 0, none⟩)), (9, hv), (10, mv), (11, .bool (!br)), (5, .pointer (some ⟨d, 0, none⟩)), (0, .int .i64 (30 + (g : Int))), (1, v), (4, .bool false)])], Ht M (CX 249 [] E' .normal Q2) := fun E' M fr se =>
              cx_env se (Ht.frm (hQ2 (b, o, r, nx, jb, br, st, n, hv, hs, mv) ⟨hP.up, oh, om⟩))
            have hnx : nx = (hs.length : Int) := f5
            refine VGet_spec (b := b) (n := m) (by have f1' : r.length ≤ 100 := f1; show r.length ≤ _; omega) (fun y hy => by
              have hm2 : y ∈ allV ⟨o, ⟨r, nx, jb, d⟩, br⟩ := by unfold allV; exact List.mem_append_left _ hy
              rw [f4] at hm2
              have := f6 y hm2; omega) (fun y hy => by have := (f2 y hy).1; omega) (fun hout => ?_) (fun hm0 hm1 xv => ?_) (fun hm0 hm1 hm2 hno => ?_) (fun hm0 hm1 hm2 x hf xv => ?_)
            · repeat (refine stp ?_)
              by_cases hm : m < 0
              · rewrite [decide_eq_true hm]
                repeat (refine stp ?_)
                exact hfin _ _
              · rewrite [decide_eq_false hm]
                repeat (refine stp ?_)
                rewrite [show decide ((((gsv hs).length : Nat) : Int) ≤ m) = true from decide_eq_true (by rcases hout with hh | hh; exact absurd hh hm; rw [hsg]; dsimp only at hh; omega)]
                repeat (refine stp ?_)
                exact hfin _ _
            · dsimp only at hm1 ⊢
              have hmk : m.toNat < hs.length := by have := hP.mem.hi; rw [gby_len] at this; dsimp only at this; omega
              have hq1 := hP.mem.get_old (k := m.toNat) hm1
              rw [gby_at hmk] at hq1
              dsimp only at hq1
              refine Ht.one1 (v := xv) ?_
              intro _
              repeat (refine stp ?_)
              rewrite [decide_eq_false (show ¬ m < 0 by omega)]
              repeat (refine stp ?_)
              rewrite [show decide ((((gsv hs).length : Nat) : Int) ≤ m) = false from decide_eq_false (by rw [hsg]; omega)]
              repeat (refine stp ?_)
              refine co_index (xs := gsv hs) (by rw [hsg]; omega) ?_
              intro hbi
              repeat (refine stp ?_)
              rewrite [gsv_at hmk]
              refine ySame_spec' (xs := o[m.toNat]!) (ys := (hs[m.toNat]!).2) (r2 := hsM _ _ (List.mem_of_getElem? (getB hmk))) hq1 ?_
              repeat (refine stp ?_)
              exact hfin _ _
            · exfalso
              have hm1' : m < nx := hm1
              have hm2' : (o.length : Int) ≤ m := hm2
              have hq1 := hP.mem.get (k := m.toNat) (by show o.length ≤ _; omega) (by rw [gby_len]; omega)
              rw [show ((m.toNat : Nat) : Int) = m from by omega, hno] at hq1
              cases hq1
            · have hm1' : m < nx := hm1
              have hm2' : (o.length : Int) ≤ m := hm2
              have hmk : m.toNat < hs.length := by omega
              have hq1 := hP.mem.get (k := m.toNat) (by show o.length ≤ _; omega) (by rw [gby_len]; omega)
              rw [show ((m.toNat : Nat) : Int) = m from by omega, hf, gby_at hmk] at hq1
              injection hq1 with hq1
              refine Ht.one1 (v := xv) ?_
              intro _
              repeat (refine stp ?_)
              rewrite [decide_eq_false (show ¬ m < 0 by omega)]
              repeat (refine stp ?_)
              rewrite [show decide ((((gsv hs).length : Nat) : Int) ≤ m) = false from decide_eq_false (by rw [hsg]; omega)]
              repeat (refine stp ?_)
              refine co_index (xs := gsv hs) (by rw [hsg]; omega) ?_
              intro hbi
              repeat (refine stp ?_)
              rewrite [gsv_at hmk]
              refine ySame_spec' (xs := x) (ys := (hs[m.toNat]!).2) (r2 := hsM _ _ (List.mem_of_getElem? (getB hmk))) hq1 ?_
              repeat (refine stp ?_)
              exact hfin _ _
          repeat (refine stp ?_)
          refine VAll_ok (b := b) vG rfl hP.few hP.mem fun xv g2 hg2 => ?_
          refine Ht.one1 (v := xv) ?_
          intro oxv
          have hg2l : (gsv g2).length = g2.length := gsv_len
          have hg2n : g2.length = hs.length := by rw [← gby_len, hg2, gby_len]
          have hg2x : ∀ y ∈ g2, y.2.length ≤ 100 := fun y hy => f6 _ (by rw [← hg2]; exact List.mem_map_of_mem (f := fun x : SB => x.2) hy)
          generalize cells [.int .i64 k, .int .i64 m, svY sv] 52 = oc
          repeat (refine stp ?_)
          refine cc_env (E' := [(21, .int .i64 0), (20, xv), (12, .int .i64 i), (7, .pointer (some ⟨b, 0, none⟩)), (9, hv), (10, mv), (11, .bool (!br)), (5, .pointer (some ⟨d, 0, none⟩)), (0, .int .i64 (30 + (g : Int))), (1, v), (4, .bool false)]) inferInstance ?_
          refine ht_for g2.length (fun _ (z : List SB) => gsv z = gsv g2 ∧ ∀ y ∈ z, y.2.length ≤ 100) (fun _ z => bigO vG z :: own encY 22 xv (gsv g2) :: isV b ⟨o, ⟨r, nx, jb, d⟩, br⟩ :: pto c oc :: own encY 22 hv (gsv hs) :: isStore d st :: L) (fun j _ => [(21, .int .i64 j)]) g2 [21] ⟨rfl, hg2x⟩ (fun w t => (inferInstance : Frm _ _).h _ _ t) inferInstance ?_
          intro j z hj ⟨hz, hzx⟩
          dsimp only [List.cons_append, List.nil_append]
          have hzl : z.length = g2.length := by rw [← gsv_len, hz, gsv_len]
          repeat (refine stp ?_)
          refine ht_if ?_ ?_ <;> intro hc <;> simp only [decide_eq_true_eq, decide_eq_false_iff_not] at hc
          · have hjj : j < z.length := by omega
            have hjg : j < g2.length := by omega
            have hzs : z = z.take j ++ z[j]! :: z.drop (j + 1) := by
              rw [getElem!_pos z j hjj, ← List.drop_eq_getElem_cons hjj, List.take_append_drop]
            have hzj : (gsv g2)[j]! = (z[j]!).1 := by rw [← hz]; exact gsv_at hjj
            have hzx2 := hzx _ (List.mem_of_getElem? (getB hjj))
            generalize z[j]! = zj at hzs hzj hzx2
            obtain ⟨zs, zb⟩ := zj
            dsimp only at hzj hzx2
            repeat (refine stp ?_)
            refine Ht.conseq (L' := own encB 5 (.slice zs.1 zs.2.1 zs.2.2) zb :: bigO vG (z.take j ++ z.drop (j + 1)) :: own encY 22 xv (gsv g2) :: isV b ⟨o, ⟨r, nx, jb, d⟩, br⟩ :: pto c oc :: own encY 22 hv (gsv hs) :: isStore d st :: L) ?_ (fun w t => by rw [hzs] at t; exact bigO_split.1 t)
            refine ht_for zb.length (fun _ (ys : List UInt8) => ys.length = zb.length) (fun _ ys => own encB 5 (.slice zs.1 zs.2.1 zs.2.2) ys :: bigO vG (z.take j ++ z.drop (j + 1)) :: own encY 22 xv (gsv g2) :: isV b ⟨o, ⟨r, nx, jb, d⟩, br⟩ :: pto c oc :: own encY 22 hv (gsv hs) :: isStore d st :: L) (fun q _ => [(22, .int .i64 q)]) zb [22] rfl (fun w t => t) inferInstance ?_
            intro q ys hq hys
            dsimp only [List.cons_append, List.nil_append]
            refine Ht.know (p := zs.2.1 = ys.length) (fun w t => slIn_len (own_sat t)) (fun hzl2 => ?_)
            repeat (refine stp ?_)
            refine co_index (xs := gsv g2) (by omega) ?_
            intro hb1
            repeat (refine stp ?_)
            rewrite [hzj]
            refine ht_if ?_ ?_ <;> intro hc2 <;> simp only [decide_eq_true_eq, decide_eq_false_iff_not] at hc2
            · repeat (refine stp ?_)
              refine co_index (xs := gsv g2) (by omega) ?_
              intro hb2
              repeat (refine stp ?_)
              rewrite [hzj]
              refine co_index (xs := ys) (by omega) ?_
              intro hb3
              repeat (refine stp ?_)
              refine co_setEl (e := encB) (el := 5) 1 (by rfl) (by simp) ?_
              repeat (refine stp ?_)
              exact ht_next (ys.set q 1) (by omega) (by simpa using hys) (fun w t => t) (SubE.cons (by rw [IntWalk.i64_in _ (by omega)]; rfl) inferInstance) rfl rfl
            · repeat (refine stp ?_)
              refine ht_next (z.take j ++ (zs, ys) :: z.drop (j + 1)) hjg ⟨?_, ?_⟩ (fun w t => ?_) (SubE.cons (by rw [IntWalk.i64_in _ (by omega)]; rfl) inferInstance) rfl rfl
              · rw [← hz]
                conv => rhs; rw [hzs]
                simp [gsv]
              · intro y hy
                rcases List.mem_append.1 hy with hy | hy
                · exact hzx y (List.mem_of_mem_take hy)
                · rcases List.mem_cons.1 hy with rfl | hy
                  · dsimp only; omega
                  · exact hzx y (List.mem_of_mem_drop hy)
              · exact bigO_split.2 t
          · repeat (refine stp ?_)
            exact cx_env (SubE.cons rfl (SubE.cons rfl (SubE.cons rfl (SubE.cons rfl (SubE.cons rfl inferInstance))))) (Ht.frm (hQ2 (b, o, r, nx, jb, br, st, n, hv, hs, mv) ⟨hP.up, oh, om⟩))
        · intro ⟨b, o, r, nx, jb, br, st, n, hv, hs, mv⟩ ⟨hP, oh, om⟩
          dsimp only [List.cons_append, List.nil_append] at hP oh om ⊢
          have f5 := hP.fewS.2.2.2.2.1
          have hsM : ∀ (M : List HP) [fr : Frm M L] (y : SB), y ∈ hs → RdE M encB (svY y.1) y.2 := fun M fr y hy => ⟨fun w t => (hP.rd y hy).h w (fr.h _ _ t)⟩
          repeat (refine stp ?_)
          refine VSound_spec (b := b) ?_
          repeat (refine stp ?_)
          rewrite [show decide ((!br) ≠ (!br)) = false from decide_eq_false (fun hh => hh rfl)]
          repeat (refine stp ?_)
          refine VLen_spec (b := b) ?_
          rewrite [f5]
          repeat (refine stp ?_)
          rewrite [show decide ((hs.length : Int) ≠ (((gsv hs).length : Nat) : Int)) = false from decide_eq_false (fun hh => hh (by rw [gsv_len]))]
          repeat (refine stp ?_)
          refine VAll_ok (b := b) vG rfl hP.few hP.mem fun lv g2 hg2 => ?_
          refine Ht.one1 (v := lv) ?_
          intro _
          repeat (refine stp ?_)
          refine Same12_spec (ms := g2) (ns := hs) (fun y hy => bigF_at (F := vG) rfl _ _ y hy) (fun y hy => hsM _ y hy) hg2 ?_
          repeat (refine stp ?_)
          refine VSpare_ok (b := b) (st := st) fun hk => ?_
          have hk1 := hk.1
          have hk2 := hk.2.1
          repeat (refine stp ?_)
          refine Used_spec (b := d) ?_
          repeat (refine stp ?_)
          rewrite [hP.room_, show IntKind.i64.wrap (30 + (g : Int) - (st.used : Int)) = 30 + (g : Int) - (st.used : Int) from IntWalk.i64_in _ (by rw [hP.room_] at hk1; omega), show decide (30 + (g : Int) - (st.used : Int) ≠ 30 + (g : Int) - (st.used : Int)) = false from decide_eq_false (fun hh => hh rfl)]
          repeat (refine stp ?_)
          refine ht_next (b, o, r, nx, jb, br, st, n, hv, hs, mv) (by omega) ⟨hP, oh, om⟩ (fun w s => (inferInstance : Frm _ _).h _ _ s) (SubE.cons (by rw [IntWalk.i64_in _ (by omega)]; rfl) inferInstance) rfl rfl
      · have e : i = min l.length 60 := by omega
        repeat (refine stp ?_)
        exact cx_env inferInstance (Ht.frm (hQ () trivial))
    · have e : i = min l.length 60 := by omega
      repeat (refine stp ?_)
      exact cx_env inferInstance (Ht.frm (hQ () trivial))
  · intro _ _
    repeat (refine stp ?_)
    refine known13_spec ?_
    repeat (refine stp ?_)
    exact ret1 rfl h
end Go.Proofs

set_option linter.all false
set_option synthInstance.maxSize 100000
set_option synthInstance.maxHeartbeats 400000
namespace Go.Proofs
open Go Go.SL
def okA13 (w : World) (a : A13) : Prop := wfI .i64 a.2.1 ∧ SlIn w (svY a.2.2.1) encB a.2.2.2
theorem dA13 : Dec Tryz.prog 52 encA13.f okA13 :=
  Dec.map (dec_struct Tryz.underlying52 (by kernel_rfl) (.cons (n := 1) (dec_int Tryz.underlying3) rfl (by kernel_rfl) (.cons (n := 1) (dec_int Tryz.underlying3) rfl (by kernel_rfl) (.cons (n := 1) (dec_bslY Tryz.underlying22 (by kernel_rfl) Tryz.underlying5) rfl (by kernel_rfl) .nil)))) _ _ (fun a => (a.1, a.2.1, a.2.2.1)) (fun _ => rfl) (fun _ _ h => ⟨h.2.1, h.2.2.1⟩)
theorem okAct13_of {w : World} {a : A13} (h : okA13 w a) : okAct13 [ro w] a := ⟨⟨fun w' s => SlIn.mono h.2 (ro_le s)⟩, (wf_i64 h.1).2⟩
theorem VaultPlays_walk {w : World} {v : Value} {p : Int} {l : List A13} {K} (hm : ∀ x ∈ l, okA13 w x) [r1 : RoIn w v encA13 l]
    (h : Ht [ro w] (K (.bool true))) : Ht [ro w] (CCall Tryz.prog 7 [.int .i64 p, v] K) :=
  VaultPlays_spec (l := l) (fun a ha => okAct13_of (hm a ha)) h
end Go.Proofs
