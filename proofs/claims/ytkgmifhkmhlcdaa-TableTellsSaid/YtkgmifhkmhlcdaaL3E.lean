import Derived.Test.YtkgmifhkmhlcdaaO3
import Derived.Test.YtkgmifhkmhlcdaaSLY
set_option linter.all false
set_option synthInstance.maxSize 100000
set_option synthInstance.maxHeartbeats 400000
namespace Go.Proofs
open Go Go.SL
attribute [local irreducible] CCall CO CC CX CD

theorem r3_from {L L1 R K b v} {xs : List (Int × Int)} {k : Int} [p : Pull (pto b) L (cells [v] 79) L1] [q : Pull (own enc_ii 73 v) L1 xs R] (hs : Srt xs) (hn : xs.length ≤ 1000000)
    (h : ∀ rv, (∀ w, SlIn w v enc_ii xs → SlIn w rv enc_ii (xs.drop (tpos k xs))) → Ht (own enc_ii 73 v xs :: pto b (cells [v] 79) :: R) (K rv)) : Ht L (CCall Try.prog 46 [.pointer (some ⟨b, 0, none⟩), .int .i64 k] K) := by
  have hle := tpos_le k xs
  refine Ht.pull p (Ht.two q ?_)
  refine ccall2 Try.func46 rfl (by decide) Try.ntmps46 (by rfl) (by decide) ?_
  repeat (refine stp ?_)
  refine r3_place hs hn ?_
  repeat (refine stp ?_)
  refine co_slice (by omega) ?_
  intro hsl
  repeat (refine stp ?_)
  exact ret1 rfl (h _ (fun w hw => by have := slSub_in hw hsl.h; rw [List.take_length] at this; exact this))
def tlX (L : Value → List HP) (ok : Prop) : Option Nat → List HP
  | some 0 => [fun e h => ∃ gv, ok ∧ seps (L gv) e h]
  | _ => [pur False]
theorem TableTells_spec {L K v} {l : List (Int × Int)} {k at_ st : Int} [rs : RdS L v enc_ii l] (h : Ht L (K (.bool true))) : Ht L (CCall Try.prog 5 [v, .int .i64 k, .int .i64 at_, .int .i64 st] K) := by
  haveI : NZ 60 := ⟨by decide⟩
  have n1 : (ofL l).length ≤ 50 := by simp [ofL]; omega
  have m1 := ii_ofM_len (ofL l)
  have s1 := ii_ofM_srt (ofL l)
  refine ccall4 Try.func5 rfl (by decide) Try.ntmps5 (by rfl) (by decide) ?_
  repeat (refine stp ?_)
  intro p7
  repeat (refine stp ?_)
  refine l3_of (l := l) ?_
  intro bt tv bd dv
  generalize ii_ofM (ofL l) = xs at *
  repeat (refine stp ?_)
  refine l3_known ?_
  repeat (refine stp ?_)
  obtain ⟨j, hj, hj60⟩ := modw st (n := 60) (by decide) (by decide)
  rewrite [show ((60 : Nat) : Int) = 60 from rfl] at hj
  obtain ⟨sn, hs, hs1, hs60⟩ : ∃ sn : Nat, IntKind.i64.wrap (1 + IntKind.i64.wrap ((IntKind.u64.wrap st).tmod 60)) = (sn : Int) ∧ 1 ≤ sn ∧ sn ≤ 60 := ⟨1 + j, by rw [hj, IntWalk.i64_in _ (by omega)]; omega, by omega, by omega⟩
  rewrite [hs]
  intro p11
  repeat (refine stp ?_)
  intro p12
  repeat (refine stp ?_)
  refine ii_each (b := bt) (xs := xs) ?_
  intro c1
  refine Ht.conseq (L' := own enc_ii 73 (.slice none 0 0) [] :: _) ?_ (fun w s => own_nil.2 s)
  repeat (refine stp ?_)
  refine ht_cutb (ι := Value × Nat) (fun _ => True) (fun x => pto x.2 (.deferred (some [])) :: pto p11 (cells [x.1] 64) :: own enc_ii 73 x.1 (xs.take (min sn xs.length)) :: pto p12 (cells [.slice none 0 0] 64) :: own enc_ii 75 tv xs :: pto bt (cells [tv] 88) :: pto bd (cells [dv] 79) :: own enc_ii 73 dv xs :: pto p7 (cells [.int .i64 ((sn : Nat) : Int)] 3) :: L)
    (fun x => [{ target := .collected x.2, args := #[] }]) (fun _ => [(9, .pointer (some ⟨bt, 0, none⟩)), (10, .pointer (some ⟨bd, 0, none⟩)), (7, .pointer (some ⟨p7, 0, none⟩)), (11, .pointer (some ⟨p11, 0, none⟩)), (12, .pointer (some ⟨p12, 0, none⟩)), (1, .int .i64 k), (2, .int .i64 at_)]) ?_ ?_
  · intro Q' hQ
    refine ht_rangeFunc (β := Value) xs.length (fun i => [.int .i64 (xs[i]!).1, .int .i64 (xs[i]!).2]) (fun i _ => i < sn) (fun i gv => pto p11 (cells [gv] 64) :: own enc_ii 73 gv (xs.take i) :: pto c1 (cells [tv] 80) :: pto p12 (cells [.slice none 0 0] 64) :: own enc_ii 75 tv xs :: pto bt (cells [tv] 88) :: pto bd (cells [dv] 79) :: own enc_ii 73 dv xs :: pto p7 (cells [.int .i64 ((sn : Nat) : Int)] 3) :: L) (tlX (fun gv => pto p11 (cells [gv] 64) :: own enc_ii 73 gv (xs.take sn) :: pto c1 (cells [tv] 80) :: pto p12 (cells [.slice none 0 0] 64) :: own enc_ii 75 tv xs :: pto bt (cells [tv] 88) :: pto bd (cells [dv] 79) :: own enc_ii 73 dv xs :: pto p7 (cells [.int .i64 ((sn : Nat) : Int)] 3) :: L) (sn ≤ xs.length))
      ⟨_, Try.func269, by decide, rfl⟩ (fun _ => rfl) (.slice none 0 0) (by omega) (fun e h s => (inferInstance : Frm _ (pto p11 (cells [(.slice none 0 0)] 64) :: own enc_ii 73 (.slice none 0 0) [] :: pto c1 (cells [tv] 80) :: pto p12 (cells [.slice none 0 0] 64) :: own enc_ii 75 tv xs :: pto bt (cells [tv] 88) :: pto bd (cells [dv] 79) :: own enc_ii 73 dv xs :: pto p7 (cells [.int .i64 ((sn : Nat) : Int)] 3) :: L)).h e h s) ?_ ?_ ?_ ?_
    · intro l' A B K' hA hy hd hs
      refine ii_iter (b := c1) (v := tv) (by omega) (fun i hi w s => ?_) hy hd hs
      obtain ⟨gv, _, sx⟩ := hA i hi w s
      exact ⟨(inferInstance : Blk (pto p11 (cells [gv] 64) :: own enc_ii 73 gv (xs.take i) :: pto c1 (cells [tv] 80) :: pto p12 (cells [.slice none 0 0] 64) :: own enc_ii 75 tv xs :: pto bt (cells [tv] 88) :: pto bd (cells [dv] 79) :: own enc_ii 73 dv xs :: pto p7 (cells [.int .i64 ((sn : Nat) : Int)] 3) :: L) c1 [tv]).h w sx, (inferInstance : RdS (pto p11 (cells [gv] 64) :: own enc_ii 73 gv (xs.take i) :: pto c1 (cells [tv] 80) :: pto p12 (cells [.slice none 0 0] 64) :: own enc_ii 75 tv xs :: pto bt (cells [tv] 88) :: pto bd (cells [dv] 79) :: own enc_ii 73 dv xs :: pto p7 (cells [.int .i64 ((sn : Nat) : Int)] 3) :: L) tv enc_ii xs).h w sx⟩
    · intro i hi gv his l' dd r hr hok Q2 hnext hstop
      dsimp only [psE]
      repeat (refine stp ?_)
      refine rf_begin hr hok ?_
      repeat (refine stp ?_)
      intro b1
      repeat (refine stp ?_)
      refine Ht.own_lit enc_ii (b := b1) (n := 1) (xs := [((xs[i]!).1, (xs[i]!).2)]) rfl rfl (by decide) ?_
      refine co_append (e := enc_ii) (by rfl) (by simp; omega) (by simp; omega) ?_
      intro gv2
      refine Ht.one1 (v := gv2) ?_
      intro _
      rewrite [show xs.take i ++ [((xs[i]!).1, (xs[i]!).2)] = xs.take (i + 1) from by rw [List.take_succ, getB hi]; rfl]
      repeat (refine stp ?_)
      refine ht_if ?_ ?_ <;> intro hc <;> simp only [decide_eq_true_eq, decide_eq_false_iff_not] at hc
      · have e : i + 1 = sn := by simp at hc; omega
        rw [e]
        repeat (refine stp ?_)
        refine cx_env SubE.nil (Ht.conseq (hstop (some 0) []) (fun w sw => ?_))
        have s2 := (inferInstance : Frm _ (pto l' (.loop { r with state := .busy }) :: pto dd (.deferred (some [])) :: pto p11 (cells [gv2] 64) :: own enc_ii 73 gv2 (xs.take sn) :: pto c1 (cells [tv] 80) :: pto p12 (cells [.slice none 0 0] 64) :: own enc_ii 75 tv xs :: pto bt (cells [tv] 88) :: pto bd (cells [dv] 79) :: own enc_ii 73 dv xs :: pto p7 (cells [.int .i64 ((sn : Nat) : Int)] 3) :: L)).h _ _ sw
        exact seps_mono (fun _ a => a) (fun _ t => seps_mono (fun _ a => a) (fun _ t => ⟨_, fun _ => none, fun _ => .inr ⟨rfl, rfl⟩, ⟨gv2, by omega, t⟩, trivial⟩) t) s2
      · repeat (refine stp ?_)
        exact cx_env SubE.nil (Ht.frm (hnext gv2 [] (by simp at hc; omega)))
    · intro dd gv hls
      have := hQ (gv, dd) trivial
      rw [show min sn xs.length = xs.length from by omega] at this
      repeat (refine stp ?_)
      exact cx_env inferInstance (Ht.frm this)
    · intro dd jj
      cases jj with
      | none => exact fun w s => (seps_pur.1 (seps_tail s)).1.elim
      | some n =>
        cases n with
        | succ n => exact fun w s => (seps_pur.1 (seps_tail s)).1.elim
        | zero =>
          intro w sw
          obtain ⟨g1, g2, u, hd1, g3, g4, u2, ⟨gv, hle, hx⟩, _⟩ := sw
          have sw2 : Sat (pto dd (.deferred (some [])) :: pto p11 (cells [gv] 64) :: own enc_ii 73 gv (xs.take sn) :: pto c1 (cells [tv] 80) :: pto p12 (cells [.slice none 0 0] 64) :: own enc_ii 75 tv xs :: pto bt (cells [tv] 88) :: pto bd (cells [dv] 79) :: own enc_ii 73 dv xs :: pto p7 (cells [.int .i64 ((sn : Nat) : Int)] 3) :: L) w := ⟨g1, g2, u, hd1, seps_up (fun b o hb => by have := u2 b; simp_all) hx⟩
          have := hQ (gv, dd) trivial
          rw [show min sn xs.length = sn from by omega] at this
          refine (?_ : Ht (pto dd (.deferred (some [])) :: pto p11 (cells [gv] 64) :: own enc_ii 73 gv (xs.take sn) :: pto c1 (cells [tv] 80) :: pto p12 (cells [.slice none 0 0] 64) :: own enc_ii 75 tv xs :: pto bt (cells [tv] 88) :: pto bd (cells [dv] 79) :: own enc_ii 73 dv xs :: pto p7 (cells [.int .i64 ((sn : Nat) : Int)] 3) :: L) _) w sw2
          show Ht _ (CC Try.prog none 164 _ _ (.exit 0) _)
          repeat (refine stp ?_)
          exact cx_env inferInstance (Ht.frm this)
  · intro ⟨g1, dd1⟩ _
    dsimp only
    repeat (refine stp ?_)
    have hple := tpos_le k xs
    refine ii_from (b := bt) (xs := xs) s1 (by omega) ?_
    intro c2 v2 hv2
    refine Ht.conseq (L' := own enc_ii 73 (.slice none 0 0) [] :: _) ?_ (fun w s => own_nil.2 s)
    repeat (refine stp ?_)
    have hdl : (xs.drop (tpos k xs)).length ≤ xs.length := by simp
    refine ht_rangeFunc (β := Value) (xs.drop (tpos k xs)).length (fun i => [.int .i64 ((xs.drop (tpos k xs))[i]!).1, .int .i64 ((xs.drop (tpos k xs))[i]!).2]) (fun _ _ => True) (fun i gv => pto p12 (cells [gv] 64) :: own enc_ii 73 gv ((xs.drop (tpos k xs)).take i) :: pto c2 (cells [v2] 80) :: pto p11 (cells [g1] 64) :: own enc_ii 73 g1 (xs.take (min sn xs.length)) :: pto dd1 (.deferred (some [])) :: own enc_ii 75 tv xs :: pto bt (cells [tv] 88) :: pto bd (cells [dv] 79) :: own enc_ii 73 dv xs :: pto p7 (cells [.int .i64 ((sn : Nat) : Int)] 3) :: L) noX
      ⟨_, Try.func269, by decide, rfl⟩ (fun _ => rfl) (.slice none 0 0) trivial (fun e h s => (inferInstance : Frm _ (pto p12 (cells [(.slice none 0 0)] 64) :: own enc_ii 73 (.slice none 0 0) [] :: pto c2 (cells [v2] 80) :: pto p11 (cells [g1] 64) :: own enc_ii 73 g1 (xs.take (min sn xs.length)) :: pto dd1 (.deferred (some [])) :: own enc_ii 75 tv xs :: pto bt (cells [tv] 88) :: pto bd (cells [dv] 79) :: own enc_ii 73 dv xs :: pto p7 (cells [.int .i64 ((sn : Nat) : Int)] 3) :: L)).h e h s) ?_ ?_ ?_ (fun dd j => ht_noX)
    · intro l' A B K' hA hy hd hs
      refine ii_iter (b := c2) (v := v2) (by omega) (fun i hi w s => ?_) hy hd hs
      obtain ⟨gv, _, sx⟩ := hA i hi w s
      exact ⟨(inferInstance : Blk (pto p12 (cells [gv] 64) :: own enc_ii 73 gv ((xs.drop (tpos k xs)).take i) :: pto c2 (cells [v2] 80) :: pto p11 (cells [g1] 64) :: own enc_ii 73 g1 (xs.take (min sn xs.length)) :: pto dd1 (.deferred (some [])) :: own enc_ii 75 tv xs :: pto bt (cells [tv] 88) :: pto bd (cells [dv] 79) :: own enc_ii 73 dv xs :: pto p7 (cells [.int .i64 ((sn : Nat) : Int)] 3) :: L) c2 [v2]).h w sx, hv2 w ((inferInstance : RdS (pto p12 (cells [gv] 64) :: own enc_ii 73 gv ((xs.drop (tpos k xs)).take i) :: pto c2 (cells [v2] 80) :: pto p11 (cells [g1] 64) :: own enc_ii 73 g1 (xs.take (min sn xs.length)) :: pto dd1 (.deferred (some [])) :: own enc_ii 75 tv xs :: pto bt (cells [tv] 88) :: pto bd (cells [dv] 79) :: own enc_ii 73 dv xs :: pto p7 (cells [.int .i64 ((sn : Nat) : Int)] 3) :: L) tv enc_ii xs).h w sx)⟩
    · intro i hi gv _ l' dd r hr hok Q2 hnext _
      have hi' : i < (xs.drop (tpos k xs)).length := hi
      dsimp only [psE]
      repeat (refine stp ?_)
      refine rf_begin hr hok ?_
      repeat (refine stp ?_)
      intro b1
      repeat (refine stp ?_)
      refine Ht.own_lit enc_ii (b := b1) (n := 1) (xs := [(((xs.drop (tpos k xs))[i]!).1, ((xs.drop (tpos k xs))[i]!).2)]) rfl rfl (by decide) ?_
      refine co_append (e := enc_ii) (by rfl) (by simp; omega) (by simp; omega) ?_
      intro gv2
      refine Ht.one1 (v := gv2) ?_
      intro _
      rewrite [show (xs.drop (tpos k xs)).take i ++ [(((xs.drop (tpos k xs))[i]!).1, ((xs.drop (tpos k xs))[i]!).2)] = (xs.drop (tpos k xs)).take (i + 1) from by rw [List.take_succ, getB hi']; rfl]
      repeat (refine stp ?_)
      exact cx_env SubE.nil (Ht.frm (hnext gv2 [] trivial))
    · intro dd2 g2 _
      rw [List.take_length]
      repeat (refine stp ?_)
      refine ii_at (b := bt) (xs := xs) ?_
      repeat (refine stp ?_)
      intro p17
      repeat (refine stp ?_)
      refine ht_cuto (ι := Unit) (fun _ => True) (fun _ => pto dd2 (.deferred (some [])) :: pto p12 (cells [g2] 64) :: own enc_ii 73 g2 (xs.drop (tpos k xs)) :: pto c2 (cells [v2] 80) :: pto p11 (cells [g1] 64) :: own enc_ii 73 g1 (xs.take (min sn xs.length)) :: pto dd1 (.deferred (some [])) :: own enc_ii 75 tv xs :: pto bt (cells [tv] 88) :: pto bd (cells [dv] 79) :: own enc_ii 73 dv xs :: pto p7 (cells [.int .i64 ((sn : Nat) : Int)] 3) :: L) (fun _ => [(9, .pointer (some ⟨bt, 0, none⟩)), (10, .pointer (some ⟨bd, 0, none⟩)), (7, .pointer (some ⟨p7, 0, none⟩)), (11, .pointer (some ⟨p11, 0, none⟩)), (12, .pointer (some ⟨p12, 0, none⟩)), (1, .int .i64 k), (2, .int .i64 at_)]) ?_ ?_
      · intro Q' hQ
        by_cases hat : 0 ≤ at_ ∧ at_ < (xs.length : Int)
        · rewrite [if_pos hat, decide_eq_true hat, show decide (at_ < 0) = false from by simp; omega]
          repeat (refine stp ?_)
          rewrite [show decide ((xs.length : Int) ≤ at_) = false from by simp; omega]
          repeat (refine stp ?_)
          refine ht_draw Try.can5x19 Try.mixed (by kernel_rfl) ?_
          repeat (refine stp ?_)
          refine cd_index hat ?_
          intro hb1 _
          repeat (refine stp ?_)
          rewrite [show decide ((xs[at_.toNat]!).1 ≠ (xs[at_.toNat]!).1) = false from by simp]
          repeat (refine stp ?_)
          rewrite [show decide ((xs[at_.toNat]!).2 ≠ (xs[at_.toNat]!).2) = false from by simp]
          repeat (refine stp ?_)
          exact cx_env inferInstance (Ht.frm (hQ () trivial))
        · rewrite [if_neg hat, decide_eq_false hat]
          by_cases ha0 : at_ < 0
          · rewrite [show decide (at_ < 0) = true from by simp; omega]
            repeat (refine stp ?_)
            exact cx_env inferInstance (Ht.frm (hQ () trivial))
          · rewrite [show decide (at_ < 0) = false from by simp; omega]
            repeat (refine stp ?_)
            rewrite [show decide ((xs.length : Int) ≤ at_) = true from by simp; omega]
            repeat (refine stp ?_)
            exact cx_env inferInstance (Ht.frm (hQ () trivial))
      · intro _ _
        repeat (refine stp ?_)
        refine ii_rows (b := bt) (xs := xs) (by omega) ?_
        intro mv
        repeat (refine stp ?_)
        refine ht_for xs.length (fun _ (ms : List (Int × Int)) => ms.length = xs.length) (fun _ ms => own enc_ii 75 mv ms :: pto dd2 (.deferred (some [])) :: pto p12 (cells [g2] 64) :: own enc_ii 73 g2 (xs.drop (tpos k xs)) :: pto c2 (cells [v2] 80) :: pto p11 (cells [g1] 64) :: own enc_ii 73 g1 (xs.take (min sn xs.length)) :: pto dd1 (.deferred (some [])) :: own enc_ii 75 tv xs :: pto bt (cells [tv] 88) :: pto bd (cells [dv] 79) :: own enc_ii 73 dv xs :: pto p7 (cells [.int .i64 ((sn : Nat) : Int)] 3) :: L) (fun i _ => [(20, .int .i64 i)]) xs [20] rfl
          (fun w s => (inferInstance : Frm _ (own enc_ii 75 mv xs :: pto dd2 (.deferred (some [])) :: pto p12 (cells [g2] 64) :: own enc_ii 73 g2 (xs.drop (tpos k xs)) :: pto c2 (cells [v2] 80) :: pto p11 (cells [g1] 64) :: own enc_ii 73 g1 (xs.take (min sn xs.length)) :: pto dd1 (.deferred (some [])) :: own enc_ii 75 tv xs :: pto bt (cells [tv] 88) :: pto bd (cells [dv] 79) :: own enc_ii 73 dv xs :: pto p7 (cells [.int .i64 ((sn : Nat) : Int)] 3) :: L)).h _ _ s) inferInstance ?_
        intro i ms hi hms
        dsimp only [List.cons_append, List.nil_append] at hms ⊢
        repeat (refine stp ?_)
        refine ht_if ?_ ?_ <;> intro hc <;> simp only [decide_eq_true_eq, decide_eq_false_iff_not] at hc
        · repeat (refine stp ?_)
          refine co_index (by omega) ?_
          intro hb
          repeat (refine stp ?_)
          refine co_setEl (e := enc_ii) (el := 75) ((ms[i]!).1, -1) (by rfl) (by simp) ?_
          repeat (refine stp ?_)
          exact ht_next (ms.set i ((ms[i]!).1, -1)) (by omega) (by simpa using hms) (fun _ s => s) (SubE.cons (by rw [IntWalk.i64_in _ (by omega)]; rfl) inferInstance) rfl rfl
        · repeat (refine stp ?_)
          refine ht_draw Try.can5x26 Try.mixed (by kernel_rfl) ?_
          repeat (refine stp ?_)
          refine l3_known ?_
          repeat (refine stp ?_)
          have hm : (if (xs.length : Int) < (sn : Int) then (xs.length : Int) else (sn : Int)) = ((min sn xs.length : Nat) : Int) := by split <;> omega
          rewrite [hm]
          refine cd_slice (by omega) ?_
          intro hsl hsb
          repeat (refine stp ?_)
          refine r3_same (xs := xs.take (min sn xs.length)) (ys := (xs.take (min sn xs.length)).drop 0) (by simp; omega) ?_
          rewrite [show decide (xs.take (min sn xs.length) = (xs.take (min sn xs.length)).drop 0) = true from by simp]
          repeat (refine stp ?_)
          refine r3_from (b := bd) (xs := xs) s1 (by omega) ?_
          intro rv hrv
          haveI : ∀ {R : List HP}, RdS (own enc_ii 73 dv xs :: R) rv enc_ii (xs.drop (tpos k xs)) := ⟨fun w s => hrv w (own_sat s)⟩
          repeat (refine stp ?_)
          refine r3_same (xs := xs.drop (tpos k xs)) (ys := xs.drop (tpos k xs)) (by omega) ?_
          rewrite [show decide (xs.drop (tpos k xs) = xs.drop (tpos k xs)) = true from decide_eq_true rfl]
          repeat (refine stp ?_)
          refine ii_rows (b := bt) (xs := xs) (by omega) ?_
          intro _
          repeat (refine stp ?_)
          refine l3_rows (xs := xs) (by omega) ?_
          intro _
          repeat (refine stp ?_)
          refine r3_same (xs := xs) (ys := xs) (by omega) ?_
          rewrite [show decide (xs = xs) = true from decide_eq_true rfl]
          repeat (refine stp ?_)
          exact retD1 rfl (Ht.frm h)
end Go.Proofs
