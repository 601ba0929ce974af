import Derived.Test.YtgbimbagppoeaaaPIC
set_option linter.all false
set_option synthInstance.maxSize 100000
set_option synthInstance.maxHeartbeats 400000
namespace Go.Proofs
open Go Go.SL
attribute [local irreducible] CCall CO CC CX CD

def offB (s : PSt) (n : Int) : Int := if n < s.next then 8 else if 16 ≤ n - s.next then 7 else if thas n s.kept then 6 else 0
def ackB (s : PSt) (n : Int) : Nat := if (s.acked : Int) < n ∧ n ≤ (s.said.length : Int) then n.toNat else s.acked
theorem ackB_int {s : PSt} {n : Int} : (if (s.acked : Int) < n ∧ n ≤ (s.said.length : Int) then n else (s.acked : Int)) = ((ackB s n : Nat) : Int) := by
  unfold ackB; split <;> omega
def hearM (kind fr to n : Int) (bs : List UInt8) (s : PSt) : Bool × Int × PSt :=
  if fr ≠ s.peer ∨ to ≠ s.self then (false, 5, s)
  else if kind = 2 then (false, 0, { s with acked := ackB s n })
  else if kind ≠ 1 then (false, 1, s)
  else (true, if offB s n = 7 then 7 else 0, if offB s n = 0 then { s with kept := tput n bs s.kept } else s)
def zeroP : Value := .agg #[.int .i64 0, .int .i64 0, .int .i64 0, .int .i64 0, .slice none 0 0]
theorem PHear_spec {L R K b s v} {kind fr to n : Int} {bs : List UInt8} [p : Pull (isPipe b) L s R] [rs : RdE R encB v bs] (hb : bs.length ≤ 1000000) (hk : s.kept.length ≤ 800000) (hs0 : s.said.length ≤ 900000) (hx : 0 ≤ s.next) (hn : n ≤ 9223372036854775807)
    (h0 : (hearM kind fr to n bs s).1 = false → Ht (isPipe b (hearM kind fr to n bs s).2.2 :: R) (K (.tuple #[zeroP, .bool false, .int .i64 (hearM kind fr to n bs s).2.1])))
    (h1 : (hearM kind fr to n bs s).1 = true → ∀ v', Ht (own encB 5 v' [] :: isPipe b (hearM kind fr to n bs s).2.2 :: R) (K (.tuple #[.agg #[.int .i64 2, .int .i64 s.self, .int .i64 s.peer, .int .i64 s.next, v'], .bool true, .int .i64 (hearM kind fr to n bs s).2.1]))) :
    Ht L (CCall Try.prog 61 [.pointer (some ⟨b, 0, none⟩), .agg #[.int .i64 kind, .int .i64 fr, .int .i64 to, .int .i64 n, v]] K) := by
  refine Ht.pull p ?_
  refine Ht.know (p := One1 v) (fun w t => one1_of (rs.h w t.tail)) (fun ho => ?_)
  refine pp_open fun tv kv g r hg hr hs hs' hgl hrl => ?_
  have hrs : ∀ (M : List HP) [fr : Frm M R], RdE M encB v bs := fun M fr => ⟨fun w t => rs.h w (fr.h _ _ t)⟩
  refine ccall2 Try.func61 rfl (by decide) Try.ntmps61 (by rfl) (by decide) ?_
  repeat (refine stp ?_)
  intro c
  repeat (refine stp ?_)
  intro y
  repeat (refine stp ?_)
  refine ht_draw Try.can61x3 Try.mixed (by kernel_rfl) ?_
  repeat (refine stp ?_)
  have hbad : (fr ≠ s.peer ∨ to ≠ s.self) → Ht (isPipe b s :: R) (K (.tuple #[zeroP, .bool false, .int .i64 5])) := fun hh => by
    have e : hearM kind fr to n bs s = (false, 5, s) := by unfold hearM; rw [if_pos hh]
    have h2 := h0 (by rw [e])
    rw [e] at h2; exact h2
  refine cd_guard (i := 8) rfl ?_ ?_ <;> intro hp <;> simp only [decide_eq_true_eq, decide_eq_false_iff_not] at hp
  · repeat (refine stp ?_)
    refine retctt rfl ?_
    exact pp_close (b := b) (s := s) (g := g) (r := r) (R' := R) rfl rfl rfl hg hr hs (hbad (.inl hp))
  repeat (refine stp ?_)
  refine ht_if ?_ ?_ <;> intro hq <;> simp only [decide_eq_true_eq, decide_eq_false_iff_not] at hq
  · repeat (refine stp ?_)
    refine retctt rfl ?_
    exact pp_close (b := b) (s := s) (g := g) (r := r) (R' := R) rfl rfl rfl hg hr hs (hbad (.inr hq))
  have hpq : ¬ (fr ≠ s.peer ∨ to ≠ s.self) := by rintro (hh | hh); exact hp hh; exact hq hh
  repeat (refine stp ?_)
  refine ht_if ?_ ?_ <;> intro hk2 <;> simp only [decide_eq_true_eq, decide_eq_false_iff_not] at hk2
  · have e : hearM kind fr to n bs s = (false, 0, { s with acked := ackB s n }) := by unfold hearM; rw [if_neg hpq, if_pos hk2]
    have h2 := h0 (by rw [e])
    rw [e] at h2
    repeat (refine stp ?_)
    refine ht_draw Try.can61x6 Try.mixed (by kernel_rfl) ?_
    repeat (refine stp ?_)
    refine wy_ack (l := gsv g) ?_
    rewrite [hgl, ackB_int]
    repeat (refine stp ?_)
    refine retctt rfl ?_
    exact pp_close (b := b) (s := { s with acked := ackB s n }) (g := g) (r := r) (R' := R) rfl rfl rfl hg hr hs h2
  repeat (refine stp ?_)
  refine ht_if ?_ ?_ <;> intro hk1 <;> simp only [decide_eq_true_eq, decide_eq_false_iff_not] at hk1
  · have e : hearM kind fr to n bs s = (false, 1, s) := by unfold hearM; rw [if_neg hpq, if_neg hk2, if_pos hk1]
    have h2 := h0 (by rw [e])
    rw [e] at h2
    repeat (refine stp ?_)
    refine retctt rfl ?_
    exact pp_close (b := b) (s := s) (g := g) (r := r) (R' := R) rfl rfl rfl hg hr hs h2
  have e : hearM kind fr to n bs s = (true, if offB s n = 7 then 7 else 0, if offB s n = 0 then { s with kept := tput n bs s.kept } else s) := by unfold hearM; rw [if_neg hpq, if_neg hk2, if_neg hk1]
  have h2 := h1 (by rw [e])
  rw [e] at h2
  repeat (refine stp ?_)
  refine ht_draw Try.can61x10 Try.mixed (by kernel_rfl) ?_
  repeat (refine stp ?_)
  refine yClone_spec (xs := bs) (by omega) ?_
  intro v1
  refine Ht.know (p := ∃ sv : SVy, v1 = svY sv) (fun w t => own_svY t) (fun ⟨sv, e⟩ => ?_)
  subst e
  refine Ht.one1 (v := svY sv) ?_
  intro _
  have hof : wy_offM s.next n (rvals r) = offB s n := by
    unfold wy_offM offB
    rw [show thas n (rvals r) = thas n s.kept from by rw [← hr]; exact (kthas_map (fun x : SB => x.1) n r).trans (kthas_map (fun x : SB => x.2) n r).symm]
  unfold svY
  repeat (refine stp ?_)
  refine wy_offer (x := sv) (xs := rvals r) hs' (by omega) hx hn ?_
  intro kv2
  rewrite [hof]
  repeat (refine stp ?_)
  refine Ht.conseq (L' := isPipe b (if offB s n = 0 then { s with kept := tput n bs s.kept } else s) :: pto y (cells [.int .i64 0, .int .i64 0, .int .i64 0, .int .i64 0, .slice none 0 0] 132) :: R) ?_ (fun w t => ?_)
  case refine_2 =>
    by_cases h00 : offB s n = 0
    · rw [if_pos h00] at t
      rw [if_pos h00]
      have t1 : Sat (rown (n, sv, bs) :: bigO rown r :: pto b (cells [.int .i64 s.self, .int .i64 s.peer, tv, .int .i64 s.acked, .int .i64 s.next, kv2] 258) :: own encY 27 tv (gsv g) :: bigO (ownY 5) g :: own enc_iy 356 kv2 (tput n sv (rvals r)) :: pto y (cells [.int .i64 0, .int .i64 0, .int .i64 0, .int .i64 0, .slice none 0 0] 132) :: R) w :=
        (inferInstance : Frm _ (own encB 5 (.slice sv.1 sv.2.1 sv.2.2) bs :: bigO rown r :: pto b (cells [.int .i64 s.self, .int .i64 s.peer, tv, .int .i64 s.acked, .int .i64 s.next, kv2] 258) :: own encY 27 tv (gsv g) :: bigO (ownY 5) g :: own enc_iy 356 kv2 (tput n sv (rvals r)) :: pto y (cells [.int .i64 0, .int .i64 0, .int .i64 0, .int .i64 0, .slice none 0 0] 132) :: R)).h _ _ t
      have t2 := bigK_put (F := rown) (k := n) (x := ((sv, bs) : SB)) t1
      exact pp_shut (s := { s with kept := tput n bs s.kept }) (tv := tv) (kv := kv2) (g := g) (r := tput n (sv, bs) r) rfl rfl (ktput_map (fun x : SB => x.1) n (sv, bs) r).symm hg (by rw [← hr]; exact ktput_map (fun x : SB => x.2) n (sv, bs) r) (tput_srt hs) t2
    · rw [if_neg h00] at t
      rw [if_neg h00]
      exact pp_shut (s := s) (tv := tv) (kv := kv2) (g := g) (r := r) rfl rfl rfl hg hr hs t
  have hs2 : (if offB s n = 0 then { s with kept := tput n bs s.kept } else s).self = s.self ∧ (if offB s n = 0 then { s with kept := tput n bs s.kept } else s).peer = s.peer ∧ (if offB s n = 0 then { s with kept := tput n bs s.kept } else s).next = s.next := by split <;> exact ⟨rfl, rfl, rfl⟩
  generalize (if offB s n = 0 then { s with kept := tput n bs s.kept } else s) = s2 at h2 hs2 ⊢
  rw [← hs2.1, ← hs2.2.1, ← hs2.2.2] at h2
  refine ht_if ?_ ?_ <;> intro hz <;> simp only [decide_eq_true_eq, decide_eq_false_iff_not, ne_eq, Classical.not_not] at hz
  · rw [if_neg hz] at h2
    repeat (refine stp ?_)
    refine ack_spec (b := b) (s := s2) ?_
    intro v2
    refine Ht.one1 (v := v2) ?_
    intro _
    repeat (refine stp ?_)
    exact retctt rfl (Ht.frm (h2 v2))
  · rw [if_pos hz] at h2
    rewrite [hz]
    repeat (refine stp ?_)
    refine ack_spec (b := b) (s := s2) ?_
    intro v2
    refine Ht.one1 (v := v2) ?_
    intro _
    repeat (refine stp ?_)
    exact retctt rfl (Ht.frm (h2 v2))
end Go.Proofs
