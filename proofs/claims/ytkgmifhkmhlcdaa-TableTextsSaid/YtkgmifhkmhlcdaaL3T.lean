import Derived.Test.YtkgmifhkmhlcdaaTBsi
import Derived.Test.YtkgmifhkmhlcdaaSLZ
import Derived.Test.YtkgmifhkmhlcdaaK3
set_option linter.all false
set_option synthInstance.maxSize 100000
set_option synthInstance.maxHeartbeats 400000
namespace Go.Proofs
open Go Go.SL
attribute [local irreducible] CCall CO CC CX CD

/-- rows of the texts so far: each text stands, with a place where it stands -/
def TxInv (l : List ByteArray) (i : Nat) (xs : List (ByteArray × Int)) : Prop :=
  Srt xs ∧ (∀ r ∈ xs, ∃ j, j < i ∧ r.2 = (j : Int) ∧ l[j]? = some r.1) ∧ (∀ j s, j < i → l[j]? = some s → ∃ v, (s, v) ∈ xs)
theorem tx_has {l : List ByteArray} {i : Nat} {xs : List (ByteArray × Int)} (h : TxInv l i xs) (k : ByteArray) : thas k xs = (l.take i).any (fun s => decide (s = k)) := by
  obtain ⟨hs, h1, h2⟩ := h
  rw [Bool.eq_iff_iff, List.any_eq_true]
  constructor
  · intro h
    obtain ⟨v, hv⟩ := Option.isSome_iff_exists.1 h
    obtain ⟨j, hj, _, hl⟩ := h1 _ ((tfind_mem hs).1 hv)
    exact ⟨k, List.mem_of_getElem? (i := j) (by rw [List.getElem?_take, if_pos hj]; exact hl), by simp⟩
  · rintro ⟨s, hs1, hs2⟩
    have : s = k := by simpa using hs2
    subst this
    obtain ⟨j, hj⟩ := List.mem_iff_getElem?.1 hs1
    rw [List.getElem?_take] at hj
    split at hj
    · rename_i hlt
      obtain ⟨v, hv⟩ := h2 j s hlt hj
      show (tfind s xs).isSome = true
      rw [(tfind_mem hs).2 hv]; rfl
    · cases hj
theorem tx_put {l : List ByteArray} {i : Nat} {xs : List (ByteArray × Int)} (h : TxInv l i xs) {k : ByteArray} (hk : l[i]? = some k) : TxInv l (i + 1) (tput k (i : Int) xs) := by
  obtain ⟨hs, h1, h2⟩ := h
  refine ⟨tput_srt hs, fun r hr => ?_, fun j s hj hl => ?_⟩
  · rcases (tput_mem hs).1 hr with rfl | ⟨hr, _⟩
    · exact ⟨i, by omega, rfl, hk⟩
    · obtain ⟨j, a, b, c⟩ := h1 r hr; exact ⟨j, by omega, b, c⟩
  · by_cases he : s = k
    · subst he; exact ⟨_, (tput_mem hs).2 (.inl rfl)⟩
    · have hji : j < i := by
        rcases Nat.lt_or_ge j i with h | h
        · exact h
        · have : j = i := by omega
          subst this; rw [hk] at hl; cases hl; exact absurd rfl he
      obtain ⟨v, hv⟩ := h2 j s hji hl
      exact ⟨v, (tput_mem hs).2 (.inr ⟨hv, he⟩)⟩

theorem TableTexts_spec {L K v} {l : List ByteArray} [rs : RdS L v encStr l] (h : Ht L (K (.bool true))) : Ht L (CCall Try.prog 4 [v] K) := by
  refine ccall1 Try.func4 rfl (by decide) Try.ntmps4 (by rfl) (by decide) ?_
  repeat (refine stp ?_)
  intro bt
  repeat (refine stp ?_)
  refine ht_cute (.exit 0) (ι := Value × List (ByteArray × Int)) (E' := [(3, .pointer (some ⟨bt, 0, none⟩)), (0, v)]) (fun x => TxInv l (min l.length 30) x.2 ∧ x.2.length ≤ 30) (fun x => pto bt (cells [x.1] 56) :: own enc_si 60 x.1 x.2 :: L) ?_ ?_
  · intro Q' hQ
    refine ht_for (min l.length 30) (fun i (x : Value × List (ByteArray × Int)) => TxInv l i x.2 ∧ x.2.length ≤ i) (fun i x => pto bt (cells [x.1] 56) :: own enc_si 60 x.1 x.2 :: L)
      (fun i _ => [(4, .int .i64 i)]) (.slice none 0 0, []) [4, 12, 13, 2] ⟨⟨srt_nil, by simp, by intro j s hj; omega⟩, by simp⟩ (fun w s => ?_) inferInstance ?_
    · exact (inferInstance : Frm (own enc_si 60 (.slice none 0 0) [] :: pto bt (cells [.slice none 0 0] 56) :: L) (pto bt (cells [.slice none 0 0] 56) :: own enc_si 60 (.slice none 0 0) [] :: L)).h _ _ (own_nil.2 s)
    intro i ⟨tv, xs⟩ hi ⟨hx, hl⟩
    dsimp only [List.cons_append, List.nil_append] at hx hl ⊢
    haveI : RdS (pto bt (cells [tv] 56) :: own enc_si 60 tv xs :: L) v encStr l := ⟨fun w s => rs.h w s.tail.tail⟩
    repeat (refine stp ?_)
    refine ht_guard ?_ ?_ <;> intro h0 <;> simp only [decide_eq_true_eq, decide_eq_false_iff_not] at h0
    · repeat (refine stp ?_)
      refine ht_if ?_ ?_ <;> intro h1 <;> simp only [decide_eq_true_eq, decide_eq_false_iff_not] at h1
      · repeat (refine stp ?_)
        have hlt : i < l.length := by omega
        have hgi := getB hlt
        refine ht_for i (fun _ (_ : Unit) => True) (fun _ _ => pto bt (cells [tv] 56) :: own enc_si 60 tv xs :: L) (fun k _ => [(6, .int .i64 k), (5, .bool ((l.take k).any fun s => decide (s = l[i]!)))]) () [6, 5] trivial (fun _ s => s) (SubE.cons rfl (SubE.cons (by simp) inferInstance)) ?_
        intro k _ hk _
        dsimp only [List.cons_append, List.nil_append]
        repeat (refine stp ?_)
        refine ht_if ?_ ?_ <;> intro hc <;> simp only [decide_eq_true_eq, decide_eq_false_iff_not] at hc
        · repeat (refine stp ?_)
          refine ht_draw Try.can4x9 Try.mixed (by kernel_rfl) ?_
          repeat (refine stp ?_)
          have hgk := getB (show k < l.length by omega)
          have hnext : (l.take (k + 1)).any (fun s => decide (s = l[i]!)) = ((l.take k).any (fun s => decide (s = l[i]!)) || decide (l[k]! = l[i]!)) := by
            rw [List.take_succ, hgk, List.any_append]; simp
          refine cd_guardq ?_ ?_ <;> intro hm
          · repeat (refine stp ?_)
            exact ht_next () (by omega) trivial (fun _ s => s) (SubE.cons (by rw [IntWalk.i64_in _ (by omega)]; rfl) (SubE.cons (by rw [hnext, hm]; rfl) inferInstance)) rfl rfl
          · repeat (refine stp ?_)
            refine cd_index (by omega) ?_
            intro hb1 _
            repeat (refine stp ?_)
            refine cd_index (by omega) ?_
            intro hb2 _
            repeat (refine stp ?_)
            exact ht_next () (by omega) trivial (fun _ s => s) (SubE.cons (by rw [IntWalk.i64_in _ (by omega)]; rfl) (SubE.cons (by rw [hnext, hm, Bool.false_or]) inferInstance)) rfl rfl
        · have hki : k = i := by omega
          subst hki
          repeat (refine stp ?_)
          refine co_index (by omega) ?_
          intro hb
          repeat (refine stp ?_)
          refine si_put (fun v' => ⟨[v'], inferInstance⟩) hx.1 (by omega) ?_
          intro v2 l2 hl2
          have e : l2 = [v2] := by have := hl2.h.2; simpa using this.symm
          subst e
          repeat (refine stp ?_)
          rewrite [show decide ((!thas (l[k]!) xs) = (l.take k).any fun s => decide (s = l[k]!)) = false from by rw [tx_has hx]; simp]
          repeat (refine stp ?_)
          exact ht_next (v2, tput (l[k]!) (k : Int) xs) (by omega) ⟨tx_put hx hgi, Nat.le_trans tput_len (by omega)⟩ (fun w s => (inferInstance : Frm _ (pto bt (cells [v2] 56) :: own enc_si 60 v2 (tput (l[k]!) (k : Int) xs) :: L)).h _ _ s) (SubE.cons (by rw [IntWalk.i64_in _ (by omega)]; rfl) inferInstance) rfl rfl
      · have e : i = min l.length 30 := by omega
        repeat (refine stp ?_)
        exact cx_env inferInstance (hQ (tv, xs) ⟨e ▸ hx, by show xs.length ≤ 30; omega⟩)
    · have e : i = min l.length 30 := by omega
      repeat (refine stp ?_)
      exact cx_env inferInstance (hQ (tv, xs) ⟨e ▸ hx, by show xs.length ≤ 30; omega⟩)
  · intro ⟨tv, xs⟩ ⟨hx, hl⟩
    dsimp only at hx hl ⊢
    haveI : RdS (pto bt (cells [tv] 56) :: own enc_si 60 tv xs :: L) v encStr l := ⟨fun w s => rs.h w s.tail.tail⟩
    repeat (refine stp ?_)
    refine si_rows (by omega) ?_
    intro rv
    repeat (refine stp ?_)
    haveI : RdS (own enc_si 60 rv xs :: own enc_si 60 tv xs :: pto bt (cells [tv] 56) :: L) v encStr l := ⟨fun w s => rs.h w s.tail.tail.tail⟩
    refine ht_for xs.length (fun _ (_ : Unit) => True) (fun _ _ => own enc_si 60 rv xs :: own enc_si 60 tv xs :: pto bt (cells [tv] 56) :: L) (fun i _ => [(8, .int .i64 i)]) () [8] trivial (fun _ s => s) inferInstance ?_
    intro i _ hi _
    dsimp only [List.cons_append, List.nil_append]
    repeat (refine stp ?_)
    refine ht_if ?_ ?_ <;> intro hc <;> simp only [decide_eq_true_eq, decide_eq_false_iff_not] at hc
    · have hlt : i < xs.length := by omega
      have hgi := getB hlt
      obtain ⟨hs, hv1, hv2⟩ := hx
      obtain ⟨j, hj, hj1, hj2⟩ := hv1 _ (List.mem_of_getElem? hgi)
      have hjl := (List.getElem?_eq_some_iff.1 hj2).1
      have hjv : l[j]! = (xs[i]!).1 := by have := getB hjl; rw [hj2] at this; exact (Option.some.inj this).symm
      repeat (refine stp ?_)
      refine ht_draw Try.can4x16 Try.mixed (by kernel_rfl) ?_
      repeat (refine stp ?_)
      have rest : ∀ {P1 : Prop}, P1 → P1 := fun h => h
      refine cd_guardq ?_ ?_ <;> intro h0 <;> simp only [decide_eq_true_eq, decide_eq_false_iff_not] at h0
      · repeat (refine stp ?_)
        have hw : IntKind.i64.wrap ((i : Int) - 1) = ((i - 1 : Nat) : Int) := by rw [IntWalk.i64_in _ (by omega)]; omega
        rewrite [hw]
        refine cd_index (by omega) ?_
        intro hb1 _
        repeat (refine stp ?_)
        refine cd_index (by omega) ?_
        intro hb2 _
        repeat (refine stp ?_)
        have hlt2 : Op.bytesLess (xs[i - 1]!).1.toList (xs[i]!).1.toList = true := srt_lt hs (show i - 1 < i by omega) (getB hb1.h) hgi
        rewrite [show (!Op.bytesLess (xs[i - 1]!).1.toList (xs[i]!).1.toList) = false from by rw [hlt2]; rfl]
        repeat (refine stp ?_)
        rewrite [show decide ((xs[i]!).2 < 0) = false from by rw [hj1]; simp]
        repeat (refine stp ?_)
        rewrite [show decide ((l.length : Int) ≤ (xs[i]!).2) = false from by rw [hj1]; simp; omega]
        repeat (refine stp ?_)
        haveI : ToNat (xs[i]!).2 j := ⟨by rw [hj1]; simp⟩
        refine cd_index (by rw [hj1]; omega) ?_
        intro hb3 _
        repeat (refine stp ?_)
        rewrite [show decide (l[j]! ≠ (xs[i]!).1) = false from by rw [hjv]; simp]
        repeat (refine stp ?_)
        exact ht_next () (by omega) trivial (fun _ s => s) (SubE.cons (by rw [IntWalk.i64_in _ (by omega)]; rfl) inferInstance) rfl rfl
      · repeat (refine stp ?_)
        refine cd_index (by omega) ?_
        intro hb2 _
        repeat (refine stp ?_)
        rewrite [show decide ((xs[i]!).2 < 0) = false from by rw [hj1]; simp]
        repeat (refine stp ?_)
        rewrite [show decide ((l.length : Int) ≤ (xs[i]!).2) = false from by rw [hj1]; simp; omega]
        repeat (refine stp ?_)
        haveI : ToNat (xs[i]!).2 j := ⟨by rw [hj1]; simp⟩
        refine cd_index (by rw [hj1]; omega) ?_
        intro hb3 _
        repeat (refine stp ?_)
        rewrite [show decide (l[j]! ≠ (xs[i]!).1) = false from by rw [hjv]; simp]
        repeat (refine stp ?_)
        exact ht_next () (by omega) trivial (fun _ s => s) (SubE.cons (by rw [IntWalk.i64_in _ (by omega)]; rfl) inferInstance) rfl rfl
    · repeat (refine stp ?_)
      refine ht_for (min l.length 30) (fun _ (_ : Unit) => True) (fun _ _ => own enc_si 60 rv xs :: own enc_si 60 tv xs :: pto bt (cells [tv] 56) :: L) (fun i _ => [(9, .int .i64 i)]) () [9] trivial (fun _ s => s) inferInstance ?_
      intro i _ hi _
      dsimp only [List.cons_append, List.nil_append]
      repeat (refine stp ?_)
      refine ht_guard ?_ ?_ <;> intro h0 <;> simp only [decide_eq_true_eq, decide_eq_false_iff_not] at h0
      · repeat (refine stp ?_)
        refine ht_if ?_ ?_ <;> intro h1 <;> simp only [decide_eq_true_eq, decide_eq_false_iff_not] at h1
        · repeat (refine stp ?_)
          refine co_index (by omega) ?_
          intro hb
          repeat (refine stp ?_)
          refine si_get hx.1 (by omega) ?_
          have hth : thas (l[i]!) xs = true := by
            rw [tx_has hx, List.any_eq_true]
            exact ⟨l[i]!, List.mem_of_getElem? (i := i) (by rw [List.getElem?_take, if_pos (by omega)]; exact getB hb.h), by simp⟩
          rewrite [hth]
          repeat (refine stp ?_)
          exact ht_next () (by omega) trivial (fun w s => (inferInstance : Frm _ (own enc_si 60 rv xs :: own enc_si 60 tv xs :: pto bt (cells [tv] 56) :: L)).h _ _ s) (SubE.cons (by rw [IntWalk.i64_in _ (by omega)]; rfl) inferInstance) rfl rfl
        · repeat (refine stp ?_)
          refine l3_known ?_
          repeat (refine stp ?_)
          exact ret1 rfl (Ht.frm h)
      · repeat (refine stp ?_)
        refine l3_known ?_
        repeat (refine stp ?_)
        exact ret1 rfl (Ht.frm h)
end Go.Proofs
