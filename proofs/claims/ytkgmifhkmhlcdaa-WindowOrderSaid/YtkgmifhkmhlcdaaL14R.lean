import Derived.Test.YtkgmifhkmhlcdaaWi
import Derived.Test.YtkgmifhkmhlcdaaK14
set_option linter.all false
set_option synthInstance.maxSize 100000
set_option synthInstance.maxHeartbeats 400000
namespace Go.Proofs
open Go Go.SL
attribute [local irreducible] CCall CO CC CX CD
def sqs (n : Nat) : List Int := (List.range n).map fun (i : Nat) => (i : Int) * (i : Int)
theorem sqs_len (n : Nat) : (sqs n).length = n := by simp [sqs]
theorem sqs_succ (n : Nat) : sqs (n + 1) = sqs n ++ [(n : Int) * (n : Int)] := by simp [sqs, List.range_succ]
theorem sqs_win {n a j : Nat} (h : j < (((sqs n).take (a + 16)).drop a).length) : (((sqs n).take (a + 16)).drop a)[j]! = ((a + j : Nat) : Int) * ((a + j : Nat) : Int) ∧ a + j < n := by
  have h1 : a + j < n := by simp [sqs] at h; omega
  refine ⟨?_, h1⟩
  rw [getElem!_pos (((sqs n).take (a + 16)).drop a) j h]
  simp [sqs]
def JW (n a nx : Nat) (xs : List (Int × Int)) : Prop := a ≤ nx ∧ nx ≤ n ∧ Srt xs ∧ ∀ r ∈ xs, ((nx : Int) ≤ r.1 ∧ r.1 < (n : Int)) ∧ r.2 = r.1 * r.1
theorem JW.len {n a nx : Nat} {xs : List (Int × Int)} (h : JW n a nx xs) : xs.length ≤ n := by
  have := srt_len h.2.2.1 (fun r hr => (h.2.2.2 r hr).1); omega
theorem JW.offer {n a nx k : Nat} {xs : List (Int × Int)} (h : JW n a nx xs) (hk : k < n) : JW n a nx (if wi_offM nx k xs = 0 then tput (k : Int) ((k : Int) * (k : Int)) xs else xs) := by
  split
  · rename_i h0
    have hnx : nx ≤ k := by
      unfold wi_offM at h0; split at h0
      · cases h0
      · omega
    refine ⟨h.1, h.2.1, tput_srt h.2.2.1, fun r hr => ?_⟩
    rcases (tput_mem h.2.2.1).1 hr with rfl | ⟨hr, _⟩
    · exact ⟨⟨by show (nx : Int) ≤ (k : Int); omega, by show (k : Int) < n; omega⟩, rfl⟩
    · exact h.2.2.2 r hr
  · exact h
theorem JW.has {n a nx k : Nat} {xs : List (Int × Int)} (h : JW n a nx xs) (hk : k = nx ∨ thas (nx : Int) xs = true) : thas (nx : Int) (if wi_offM nx k xs = 0 then tput (k : Int) ((k : Int) * (k : Int)) xs else xs) = true := by
  have key : thas (nx : Int) xs = true → thas (nx : Int) (if wi_offM nx k xs = 0 then tput (k : Int) ((k : Int) * (k : Int)) xs else xs) = true := by
    intro hh
    split
    · obtain ⟨v, hv⟩ := Option.isSome_iff_exists.1 hh
      have hm := (tfind_mem h.2.2.1).1 hv
      by_cases he : k = nx
      · subst he
        show (tfind _ _).isSome = true
        rw [(tfind_mem (tput_srt h.2.2.1)).2 ((tput_mem h.2.2.1).2 (.inl rfl))]; rfl
      · show (tfind _ _).isSome = true
        rw [(tfind_mem (v := v) (tput_srt h.2.2.1)).2 ((tput_mem h.2.2.1).2 (.inr ⟨hm, by show (nx : Int) ≠ k; omega⟩))]; rfl
    · exact hh
  rcases hk with rfl | hk
  · by_cases hh : thas (k : Int) xs = true
    · exact key hh
    · have h0 : wi_offM k k xs = 0 := by
        simp [wi_offM, hh]
      rw [if_pos h0]
      show (tfind _ _).isSome = true
      rw [(tfind_mem (tput_srt h.2.2.1)).2 ((tput_mem h.2.2.1).2 (.inl rfl))]; rfl
  · exact key hk
theorem JW.pop {n a nx : Nat} {xs : List (Int × Int)} (h : JW n a nx xs) : JW n a (if thas (nx : Int) xs then nx + 1 else nx) (tdrop (nx : Int) xs) ∧ (thas (nx : Int) xs = true → (tfind (nx : Int) xs).getD 0 = (nx : Int) * (nx : Int)) := by
  constructor
  · split
    · rename_i hh
      obtain ⟨v, hv⟩ := Option.isSome_iff_exists.1 hh
      have hm := h.2.2.2 _ ((tfind_mem h.2.2.1).1 hv)
      refine ⟨by have := h.1; omega, by have := hm.1.2; simp only at this; omega, tdrop_srt h.2.2.1, fun r hr => ?_⟩
      obtain ⟨hr1, hr2⟩ := (tdrop_mem h.2.2.1).1 hr
      have := h.2.2.2 r hr1
      exact ⟨⟨by have := this.1.1; omega, this.1.2⟩, this.2⟩
    · rename_i hh
      rw [tdrop, if_neg hh]; exact h
  · intro hh
    obtain ⟨v, hv⟩ := Option.isSome_iff_exists.1 hh
    have hm := h.2.2.2 _ ((tfind_mem h.2.2.1).1 hv)
    rw [hv]; exact hm.2
theorem JW.ack {n a nx : Nat} {xs : List (Int × Int)} (h : JW n a nx xs) : (if (a : Int) < (nx : Int) ∧ (nx : Int) ≤ ((sqs n).length : Int) then (nx : Int) else (a : Int)) = (nx : Int) ∧ JW n nx nx xs := by
  have h1 := h.1
  have h2 := h.2.1
  refine ⟨?_, Nat.le_refl _, h2, h.2.2⟩
  rw [sqs_len]; split <;> omega

theorem WindowOrder_spec {L K v} {n0 : Int} {picks : List Int} [rs : RdS L v encI picks] (h : Ht L (K (.bool true))) : Ht L (CCall Try.prog 10 [.int .i64 n0, v] K) := by
  haveI : NZ 60 := ⟨by decide⟩
  haveI : NZ 3 := ⟨by decide⟩
  haveI : NZ 5 := ⟨by decide⟩
  refine ccall2 Try.func10 rfl (by decide) Try.ntmps10 (by rfl) (by decide) ?_
  repeat (refine stp ?_)
  intro bo
  obtain ⟨n, hn, hn60⟩ := modw n0 (n := 60) (by decide) (by decide)
  rewrite [show ((60 : Nat) : Int) = 60 from rfl] at hn
  rewrite [hn]
  repeat (refine stp ?_)
  refine ht_for n (fun i (_ : Value) => True) (fun i ov => pto bo (cells [ov, .int .i64 0] 116) :: own encI 3 ov (sqs i) :: L) (fun i _ => [(6, .int .i64 i)]) (.slice none 0 0) [6, 25, 26, 21, 22, 23, 24, 4] trivial
    (fun w s => (inferInstance : Frm (own encI 3 (.slice none 0 0) [] :: pto bo (cells [.slice none 0 0, .int .i64 0] 116) :: L) (pto bo (cells [.slice none 0 0, .int .i64 0] 116) :: own encI 3 (.slice none 0 0) [] :: L)).h _ _ (own_nil.2 s)) inferInstance ?_
  intro i ov hi _
  dsimp only [List.cons_append, List.nil_append]
  repeat (refine stp ?_)
  refine ht_if ?_ ?_ <;> intro hc <;> simp only [decide_eq_true_eq, decide_eq_false_iff_not] at hc
  · repeat (refine stp ?_)
    have hsq : (i : Int) * (i : Int) ≤ 3600 ∧ 0 ≤ (i : Int) * (i : Int) := by
      have h1 : i * i ≤ 60 * 60 := Nat.mul_le_mul (by omega) (by omega)
      have h2 : ((i * i : Nat) : Int) = (i : Int) * (i : Int) := Int.natCast_mul i i
      omega
    rewrite [show IntKind.i64.wrap ((i : Int) * (i : Int)) = (i : Int) * (i : Int) from IntWalk.i64_in _ (by omega)]
    repeat (refine stp ?_)
    intro b1
    repeat (refine stp ?_)
    refine Ht.own_lit encI (b := b1) (n := 1) (xs := [(i : Int) * (i : Int)]) rfl rfl (by decide) ?_
    refine wi_push (ys := [(i : Int) * (i : Int)]) (by rw [sqs_len]; simp; omega) ?_
    intro ov2
    rewrite [← sqs_succ]
    repeat (refine stp ?_)
    exact ht_next ov2 (by omega) trivial (fun w s => (inferInstance : Frm _ (pto bo (cells [ov2, .int .i64 0] 116) :: own encI 3 ov2 (sqs (i + 1)) :: L)).h _ _ s) (SubE.cons (by rw [IntWalk.i64_in _ (by omega)]; rfl) inferInstance) rfl rfl
  · have hin : n = i := by omega
    subst hin
    repeat (refine stp ?_)
    intro bi
    repeat (refine stp ?_)
    refine ht_cutd (.exit 2) (ι := Value × Nat × Nat × List (Int × Int)) (fun x => JW n x.2.1 x.2.2.1 x.2.2.2) (fun x => pto bo (cells [ov, .int .i64 ((x.2.1 : Nat) : Int)] 116) :: own encI 3 ov (sqs n) :: pto bi (cells [.int .i64 ((x.2.2.1 : Nat) : Int), x.1] 122) :: own enc_ii 75 x.1 x.2.2.2 :: L)
      (fun x => [(8, .int .i64 ((x.2.2.1 : Nat) : Int)), (7, .pointer (some ⟨bi, 0, none⟩)), (5, .pointer (some ⟨bo, 0, none⟩)), (0, .int .i64 (n : Int)), (1, v)]) ?_ ?_
    · intro Q' hQ
      refine ht_for (min picks.length 200) (fun _ (x : Value × Nat × Nat × List (Int × Int)) => JW n x.2.1 x.2.2.1 x.2.2.2) (fun _ x => pto bo (cells [ov, .int .i64 ((x.2.1 : Nat) : Int)] 116) :: own encI 3 ov (sqs n) :: pto bi (cells [.int .i64 ((x.2.2.1 : Nat) : Int), x.1] 122) :: own enc_ii 75 x.1 x.2.2.2 :: L)
        (fun i x => [(9, .int .i64 i), (8, .int .i64 ((x.2.2.1 : Nat) : Int))]) (.slice none 0 0, 0, 0, []) [9, 8, 39, 38, 29, 28, 27, 6] ⟨Nat.le_refl _, Nat.zero_le _, srt_nil, by simp⟩
        (fun w s => (inferInstance : Frm (own enc_ii 75 (.slice none 0 0) [] :: pto bi (cells [.int .i64 0, .slice none 0 0] 122) :: pto bo (cells [ov, .int .i64 0] 116) :: own encI 3 ov (sqs n) :: L) (pto bo (cells [ov, .int .i64 ((0 : Nat) : Int)] 116) :: own encI 3 ov (sqs n) :: pto bi (cells [.int .i64 ((0 : Nat) : Int), (.slice none 0 0)] 122) :: own enc_ii 75 (.slice none 0 0) [] :: L)).h _ _ (own_nil.2 s)) (SubE.cons rfl (SubE.cons rfl inferInstance)) ?_
      intro i ⟨tv, a, nx, xs⟩ hi hJ
      dsimp only [List.cons_append, List.nil_append] at hJ ⊢
      have hxl := hJ.len
      have ha := hJ.1
      have hnx := hJ.2.1
      repeat (refine stp ?_)
      refine ht_guard ?_ ?_ <;> intro h0 <;> simp only [decide_eq_true_eq, decide_eq_false_iff_not] at h0
      · repeat (refine stp ?_)
        refine ht_if ?_ ?_ <;> intro h1 <;> simp only [decide_eq_true_eq, decide_eq_false_iff_not] at h1
        · repeat (refine stp ?_)
          refine wi_window (by rw [sqs_len]; omega) (by rw [sqs_len]; omega) ?_
          intro wv
          repeat (refine stp ?_)
          refine ht_if ?_ ?_ <;> intro h2 <;> simp only [decide_eq_true_eq, decide_eq_false_iff_not] at h2
          · repeat (refine stp ?_)
            exact cx_env inferInstance (Ht.frm (hQ (tv, a, nx, xs) hJ))
          · repeat (refine stp ?_)
            have hwl : (((sqs n).take (a + 16)).drop a).length ≤ 60 := by simp [sqs]; omega
            refine co_index (by omega) ?_
            intro hb
            repeat (refine stp ?_)
            generalize picks[i]! = pk
            rewrite [u64n (by omega)]
            obtain ⟨j, hj, hjl⟩ := modw pk (n := (((sqs n).take (a + 16)).drop a).length) (by omega) (by omega)
            haveI : NZ ((((sqs n).take (a + 16)).drop a).length : Int) := ⟨by omega⟩
            repeat (refine stp ?_)
            rewrite [hj, show IntKind.i64.wrap ((a : Int) + (j : Int)) = ((a + j : Nat) : Int) from by rw [IntWalk.i64_in _ (by omega)]; omega]
            refine co_index (by omega) ?_
            intro hb2
            repeat (refine stp ?_)
            obtain ⟨hw1, hw2⟩ := sqs_win hjl
            rewrite [hw1]
            refine wi_offer hJ.2.2.1 (by omega) (by omega) (by omega) ?_
            intro tv2
            have hJ2 := hJ.offer hw2
            revert hJ2
            generalize (if wi_offM (nx : Int) ((a + j : Nat) : Int) xs = 0 then tput ((a + j : Nat) : Int) (((a + j : Nat) : Int) * ((a + j : Nat) : Int)) xs else xs) = xs2
            intro hJ2
            have hxl2 := hJ2.len
            repeat (refine stp ?_)
            refine co_index (by omega) ?_
            intro hb3
            repeat (refine stp ?_)
            refine ht_cutd .normal (ι := Value × Nat × List (Int × Int)) (fun x => JW n a x.2.1 x.2.2) (fun x => pto bo (cells [ov, .int .i64 ((a : Nat) : Int)] 116) :: own encI 3 ov (sqs n) :: pto bi (cells [.int .i64 ((x.2.1 : Nat) : Int), x.1] 122) :: own enc_ii 75 x.1 x.2.2 :: L)
              (fun x => [(9, .int .i64 i), (8, .int .i64 ((x.2.1 : Nat) : Int)), (7, .pointer (some ⟨bi, 0, none⟩)), (5, .pointer (some ⟨bo, 0, none⟩)), (0, .int .i64 (n : Int)), (1, v)]) ?_ ?_
            · intro Q2 hQ2
              refine ht_if ?_ ?_ <;> intro h3
              · repeat (refine stp ?_)
                refine wi_pop hJ2.2.2.1 (by omega) (by omega) ?_
                intro tv3
                obtain ⟨hJ3, hv⟩ := hJ2.pop
                by_cases hh : thas (nx : Int) xs2 = true
                · rw [if_pos hh] at hJ3
                  rewrite [if_pos hh, hh, hv hh]
                  repeat (refine stp ?_)
                  have hsq : (nx : Int) * (nx : Int) ≤ 3600 ∧ 0 ≤ (nx : Int) * (nx : Int) := by
                    have h1 : nx * nx ≤ 60 * 60 := Nat.mul_le_mul (by omega) (by omega)
                    have h2 : ((nx * nx : Nat) : Int) = (nx : Int) * (nx : Int) := Int.natCast_mul nx nx
                    omega
                  rewrite [show IntKind.i64.wrap ((nx : Int) * (nx : Int)) = (nx : Int) * (nx : Int) from IntWalk.i64_in _ (by omega), show decide ((nx : Int) * (nx : Int) ≠ (nx : Int) * (nx : Int)) = false from by simp]
                  repeat (refine stp ?_)
                  rewrite [show IntKind.i64.wrap ((nx : Int) + 1) = ((nx + 1 : Nat) : Int) from by rw [IntWalk.i64_in _ (by omega)]; omega, show (nx : Int) + 1 = ((nx + 1 : Nat) : Int) from by omega]
                  exact cx_env inferInstance (Ht.frm (hQ2 (tv3, nx + 1, tdrop (nx : Int) xs2) hJ3))
                · have hf : thas (nx : Int) xs2 = false := by simpa using hh
                  rw [if_neg hh] at hJ3
                  rewrite [if_neg hh, hf]
                  repeat (refine stp ?_)
                  exact cx_env inferInstance (Ht.frm (hQ2 (tv3, nx, tdrop (nx : Int) xs2) hJ3))
              · repeat (refine stp ?_)
                exact cx_env inferInstance (Ht.frm (hQ2 (tv2, nx, xs2) hJ2))
            · intro ⟨tv3, nx3, xs3⟩ hJ3
              dsimp only at hJ3 ⊢
              have hxl3 := hJ3.len
              have ha3 := hJ3.1
              have hnx3 := hJ3.2.1
              repeat (refine stp ?_)
              refine co_index (by omega) ?_
              intro hb4
              repeat (refine stp ?_)
              refine ht_if ?_ ?_ <;> intro h5
              · repeat (refine stp ?_)
                refine wi_next ?_
                repeat (refine stp ?_)
                refine wi_ack ?_
                obtain ⟨he, hJ4⟩ := hJ3.ack
                rewrite [he]
                repeat (refine stp ?_)
                exact ht_next (tv3, nx3, nx3, xs3) (by omega) hJ4 (fun w s => (inferInstance : Frm _ (pto bo (cells [ov, .int .i64 ((nx3 : Nat) : Int)] 116) :: own encI 3 ov (sqs n) :: pto bi (cells [.int .i64 ((nx3 : Nat) : Int), tv3] 122) :: own enc_ii 75 tv3 xs3 :: L)).h _ _ s) (SubE.cons (by rw [IntWalk.i64_in _ (by omega)]; rfl) (SubE.cons rfl inferInstance)) rfl rfl
              · repeat (refine stp ?_)
                exact ht_next (tv3, a, nx3, xs3) (by omega) hJ3 (fun w s => (inferInstance : Frm _ (pto bo (cells [ov, .int .i64 ((a : Nat) : Int)] 116) :: own encI 3 ov (sqs n) :: pto bi (cells [.int .i64 ((nx3 : Nat) : Int), tv3] 122) :: own enc_ii 75 tv3 xs3 :: L)).h _ _ s) (SubE.cons (by rw [IntWalk.i64_in _ (by omega)]; rfl) (SubE.cons rfl inferInstance)) rfl rfl
        · repeat (refine stp ?_)
          exact cx_env inferInstance (Ht.frm (hQ (tv, a, nx, xs) hJ))
      · repeat (refine stp ?_)
        exact cx_env inferInstance (Ht.frm (hQ (tv, a, nx, xs) hJ))
    · intro ⟨tv, a, nx, xs⟩ hJ
      dsimp only at hJ ⊢
      repeat (refine stp ?_)
      refine ht_for 200 (fun i (x : Value × Nat × Nat × List (Int × Int)) => JW n x.2.1 x.2.2.1 x.2.2.2 ∧ (1 ≤ i → x.2.1 = x.2.2.1) ∧ (i ≤ x.2.2.1 + 1 ∨ x.2.2.1 = n)) (fun _ x => pto bo (cells [ov, .int .i64 ((x.2.1 : Nat) : Int)] 116) :: own encI 3 ov (sqs n) :: pto bi (cells [.int .i64 ((x.2.2.1 : Nat) : Int), x.1] 122) :: own enc_ii 75 x.1 x.2.2.2 :: L)
        (fun i x => [(15, .int .i64 i), (8, .int .i64 ((x.2.2.1 : Nat) : Int))]) (tv, a, nx, xs) [15, 8] ⟨hJ, by omega, by left; omega⟩ (fun w s => s) (SubE.cons rfl (SubE.cons rfl inferInstance)) ?_
      intro i ⟨tv2, a2, nx2, xs2⟩ hi ⟨hJ2, hA, hB⟩
      dsimp only [List.cons_append, List.nil_append] at hJ2 hA hB ⊢
      have hxl := hJ2.len
      have ha := hJ2.1
      have hnx := hJ2.2.1
      repeat (refine stp ?_)
      refine ht_if ?_ ?_ <;> intro hc <;> simp only [decide_eq_true_eq, decide_eq_false_iff_not] at hc
      · repeat (refine stp ?_)
        refine wi_window (by rw [sqs_len]; omega) (by rw [sqs_len]; omega) ?_
        intro wv
        repeat (refine stp ?_)
        have hwl : (((sqs n).take (a2 + 16)).drop a2).length = min (a2 + 16) n - a2 := by simp [sqs]
        refine ht_for (((sqs n).take (a2 + 16)).drop a2).length (fun k (x : Value × List (Int × Int)) => JW n a2 nx2 x.2 ∧ (a2 = nx2 → 0 < k → thas (nx2 : Int) x.2 = true)) (fun _ x => own encI 3 wv (((sqs n).take (a2 + 16)).drop a2) :: pto bo (cells [ov, .int .i64 ((a2 : Nat) : Int)] 116) :: own encI 3 ov (sqs n) :: pto bi (cells [.int .i64 ((nx2 : Nat) : Int), x.1] 122) :: own enc_ii 75 x.1 x.2 :: L)
          (fun k _ => [(18, .int .i64 k)]) (tv2, xs2) [18] ⟨hJ2, by omega⟩ (fun w s => (inferInstance : Frm _ (own encI 3 wv (((sqs n).take (a2 + 16)).drop a2) :: pto bo (cells [ov, .int .i64 ((a2 : Nat) : Int)] 116) :: own encI 3 ov (sqs n) :: pto bi (cells [.int .i64 ((nx2 : Nat) : Int), tv2] 122) :: own enc_ii 75 tv2 xs2 :: L)).h _ _ s) inferInstance ?_
        intro k ⟨tv3, xs3⟩ hk ⟨hJ3, hH⟩
        dsimp only [List.cons_append, List.nil_append] at hJ3 hH ⊢
        have hxl3 := hJ3.len
        repeat (refine stp ?_)
        refine ht_if ?_ ?_ <;> intro hc2 <;> simp only [decide_eq_true_eq, decide_eq_false_iff_not] at hc2
        · repeat (refine stp ?_)
          have hkl : k < (((sqs n).take (a2 + 16)).drop a2).length := by omega
          obtain ⟨hw1, hw2⟩ := sqs_win hkl
          rewrite [show IntKind.i64.wrap ((a2 : Int) + (k : Int)) = ((a2 + k : Nat) : Int) from by rw [IntWalk.i64_in _ (by omega)]; omega]
          refine co_index (by omega) ?_
          intro hb
          repeat (refine stp ?_)
          rewrite [hw1]
          refine wi_offer hJ3.2.2.1 (by omega) (by omega) (by omega) ?_
          intro tv4
          have hJ4 := hJ3.offer hw2
          have hH4 : a2 = nx2 → 0 < k + 1 → thas (nx2 : Int) (if wi_offM (nx2 : Int) ((a2 + k : Nat) : Int) xs3 = 0 then tput ((a2 + k : Nat) : Int) (((a2 + k : Nat) : Int) * ((a2 + k : Nat) : Int)) xs3 else xs3) = true := fun he _ => by
            refine hJ3.has ?_
            rcases Nat.eq_zero_or_pos k with h | h
            · left; omega
            · right; exact hH he h
          revert hJ4 hH4
          generalize (if wi_offM (nx2 : Int) ((a2 + k : Nat) : Int) xs3 = 0 then tput ((a2 + k : Nat) : Int) (((a2 + k : Nat) : Int) * ((a2 + k : Nat) : Int)) xs3 else xs3) = xs4
          intro hJ4 hH4
          repeat (refine stp ?_)
          exact ht_next (tv4, xs4) (by omega) ⟨hJ4, hH4⟩ (fun w s => (inferInstance : Frm _ (own encI 3 wv (((sqs n).take (a2 + 16)).drop a2) :: pto bo (cells [ov, .int .i64 ((a2 : Nat) : Int)] 116) :: own encI 3 ov (sqs n) :: pto bi (cells [.int .i64 ((nx2 : Nat) : Int), tv4] 122) :: own enc_ii 75 tv4 xs4 :: L)).h _ _ s) (SubE.cons (by rw [IntWalk.i64_in _ (by omega)]; rfl) inferInstance) rfl rfl
        · have hkk : k = (((sqs n).take (a2 + 16)).drop a2).length := by omega
          repeat (refine stp ?_)
          refine wi_pop hJ3.2.2.1 (by omega) (by omega) ?_
          intro tv5
          obtain ⟨hJ5, hv⟩ := hJ3.pop
          by_cases hh : thas (nx2 : Int) xs3 = true
          · rw [if_pos hh] at hJ5
            rewrite [if_pos hh, hh, hv hh]
            repeat (refine stp ?_)
            have hsq : (nx2 : Int) * (nx2 : Int) ≤ 3600 ∧ 0 ≤ (nx2 : Int) * (nx2 : Int) := by
              have h1 : nx2 * nx2 ≤ 60 * 60 := Nat.mul_le_mul (by omega) (by omega)
              have h2 : ((nx2 * nx2 : Nat) : Int) = (nx2 : Int) * (nx2 : Int) := Int.natCast_mul nx2 nx2
              omega
            rewrite [show IntKind.i64.wrap ((nx2 : Int) * (nx2 : Int)) = (nx2 : Int) * (nx2 : Int) from IntWalk.i64_in _ (by omega), show decide ((nx2 : Int) * (nx2 : Int) ≠ (nx2 : Int) * (nx2 : Int)) = false from by simp]
            repeat (refine stp ?_)
            rewrite [show (nx2 : Int) + 1 = ((nx2 + 1 : Nat) : Int) from by omega]
            refine wi_next ?_
            repeat (refine stp ?_)
            refine wi_ack ?_
            obtain ⟨he, hJ6⟩ := hJ5.ack
            rewrite [he]
            repeat (refine stp ?_)
            exact ht_next (tv5, nx2 + 1, nx2 + 1, tdrop (nx2 : Int) xs3) (by omega) ⟨hJ6, fun _ => rfl, by show i + 1 ≤ nx2 + 1 + 1 ∨ nx2 + 1 = n; have := hJ5.2.1; omega⟩ (fun w s => (inferInstance : Frm _ (pto bo (cells [ov, .int .i64 (((nx2 + 1) : Nat) : Int)] 116) :: own encI 3 ov (sqs n) :: pto bi (cells [.int .i64 (((nx2 + 1) : Nat) : Int), tv5] 122) :: own enc_ii 75 tv5 (tdrop (nx2 : Int) xs3) :: L)).h _ _ s) (SubE.cons (by rw [IntWalk.i64_in _ (by omega)]; rfl) (SubE.cons (by rw [IntWalk.i64_in _ (by omega)]) inferInstance)) rfl rfl
          · have hf : thas (nx2 : Int) xs3 = false := by simpa using hh
            rw [if_neg hh] at hJ5
            rewrite [if_neg hh, hf]
            repeat (refine stp ?_)
            refine wi_next ?_
            repeat (refine stp ?_)
            refine wi_ack ?_
            obtain ⟨he, hJ6⟩ := hJ5.ack
            rewrite [he]
            repeat (refine stp ?_)
            have hend : i = 0 ∨ nx2 = n := by
              rcases Nat.eq_zero_or_pos i with h | h
              · exact .inl h
              · right
                have h1 := hA h
                rcases Nat.eq_zero_or_pos k with h2 | h2
                · rw [hkk, hwl] at h2; omega
                · rw [hH h1 h2] at hf; cases hf
            exact ht_next (tv5, nx2, nx2, tdrop (nx2 : Int) xs3) (by omega) ⟨hJ6, fun _ => rfl, by show i + 1 ≤ nx2 + 1 ∨ nx2 = n; omega⟩ (fun w s => (inferInstance : Frm _ (pto bo (cells [ov, .int .i64 ((nx2 : Nat) : Int)] 116) :: own encI 3 ov (sqs n) :: pto bi (cells [.int .i64 ((nx2 : Nat) : Int), tv5] 122) :: own enc_ii 75 tv5 (tdrop (nx2 : Int) xs3) :: L)).h _ _ s) (SubE.cons (by rw [IntWalk.i64_in _ (by omega)]; rfl) (SubE.cons rfl inferInstance)) rfl rfl
      · have hend : nx2 = n ∧ a2 = n := by have := hA (by omega); omega
        obtain ⟨rfl, rfl⟩ := hend
        repeat (refine stp ?_)
        refine l14_known ?_
        repeat (refine stp ?_)
        rewrite [show decide ((a2 : Int) = (a2 : Int)) = true from decide_eq_true rfl]
        repeat (refine stp ?_)
        refine wi_waiting ?_
        rewrite [show IntKind.i64.wrap (((sqs a2).length : Int) - (a2 : Int)) = 0 from by rw [sqs_len, IntWalk.i64_in _ (by omega)]; omega]
        repeat (refine stp ?_)
        exact ret1 rfl (Ht.frm h)
end Go.Proofs
