/- The parts PQB, SLXN, PQC, PIC, PID, PIE, PIF, PQD, D15B of the engine and of the walk, one behind the other: no condition. -/
import Derived.Test.YtbdhnlcnllpfiaaB17b2d6e5
import Derived.Test.YtbdhnlcnllpfiaaB375b5f31

set_option linter.all false
set_option synthInstance.maxSize 100000
set_option synthInstance.maxHeartbeats 400000
namespace Go.Proofs
open Go Go.SL
attribute [local irreducible] CCall CO CC CX CD

/-! ### the document's Decode -/
def pkG (i : Nat) (e k f t : Int) (b : List UInt8) : PkD :=
  if i = 0 then pkF (byteM e b).1 ((byteM e b).2.1.toNat : Int) (b.drop (byteM e b).2.2) else if i = 1 then pkF e k b else if i = 2 then pkT e k f b else pkN e k f t b
theorem byteM_le {e : Int} {b : List UInt8} : (byteM e b).2.2 ≤ b.length := by
  unfold byteM
  split
  · exact Nat.zero_le _
  · split
    · exact Nat.zero_le _
    · rename_i h
      show 1 ≤ b.length
      cases b with
      | nil => exact absurd rfl h
      | cons => simp
theorem pkG0 {e k f t : Int} {b : List UInt8} : pkG 0 e k f t b = pkG 1 (byteM e b).1 ((byteM e b).2.1.toNat : Int) f t (b.drop (byteM e b).2.2) := by
  unfold pkG; rw [if_pos rfl, if_neg (by decide), if_pos rfl]
theorem pkG1 {e k f t : Int} {b : List UInt8} : pkG 1 e k f t b = pkG 2 (byteM e b).1 k ((byteM e b).2.1.toNat : Int) t (b.drop (byteM e b).2.2) := by
  unfold pkG; rw [if_neg (by decide), if_pos rfl, if_neg (by decide), if_neg (by decide), if_pos rfl]; rfl
theorem pkG2 {e k f t : Int} {b : List UInt8} : pkG 2 e k f t b = pkG 3 (byteM e b).1 k f ((byteM e b).2.1.toNat : Int) (b.drop (byteM e b).2.2) := by
  unfold pkG; rw [if_neg (by decide), if_neg (by decide), if_pos rfl, if_neg (by decide), if_neg (by decide), if_neg (by decide)]; rfl
theorem pkG3 {e k f t : Int} {b : List UInt8} : pkG 3 e k f t b = pkN e k f t b := by
  unfold pkG; rw [if_neg (by decide), if_neg (by decide), if_neg (by decide)]
/-- one byte of the document's reader, whatever it is -/
theorem Byte05_spec {L R K p a v} {e : Int} {bs : List UInt8} [pl : Pull (pto p) L (rdr v a e) R] [rs : RdE R encB v bs] (ha : a ≤ bs.length) (hl : bs.length ≤ 1000000000)
    (h : ∀ u l, RdE R encB u l → One1 u → (l.length = 1 ∧ l[0]! = (byteM e (bs.drop a)).2.1 ∨ l = [] ∧ (byteM e (bs.drop a)).2.1 = 0) → Ht (pto p (rdr v (a + (byteM e (bs.drop a)).2.2) (byteM e (bs.drop a)).1) :: R) (K u)) :
    Ht L (CCall Try.prog 86 [.pointer (some ⟨p, 0, none⟩), .int .i64 1, .int .i64 (a : Int)] K) := by
  refine Bytes05_spec (p := p) (n := 1) (was := a) (e := e) (bs := bs) ha hl (by omega) (fun h0 => ?_) (fun h0 h1 => ?_) (fun h0 h1 sv hs => ?_)
  · have e2 : byteM e (bs.drop a) = (e, (0 : UInt8), (0 : Nat)) := by unfold byteM; rw [if_pos h0]
    rw [e2] at h
    exact h (.slice none 0 0) [] ⟨fun _ _ => .inl ⟨rfl, rfl⟩⟩ ⟨rfl⟩ (.inr ⟨rfl, rfl⟩)
  · have hb : bs.drop a = [] := List.eq_nil_of_length_eq_zero (by rw [List.length_drop]; omega)
    have e2 : byteM e (bs.drop a) = ((12 : Int), (0 : UInt8), (0 : Nat)) := by unfold byteM; rw [if_neg (by simp [h0]), if_pos hb]
    rw [e2] at h
    exact h (.slice none 0 0) [] ⟨fun _ _ => .inl ⟨rfl, rfl⟩⟩ ⟨rfl⟩ (.inr ⟨rfl, rfl⟩)
  · have hb : bs.drop a ≠ [] := fun e => by have := congrArg List.length e; rw [List.length_drop] at this; simp at this; omega
    have e2 : byteM e (bs.drop a) = ((0 : Int), (bs.drop a)[0]!, (1 : Nat)) := by unfold byteM; rw [if_neg (by simp [h0]), if_neg hb]
    rw [e2] at h
    have hl : ((bs.drop a).take 1).length = 1 := by rw [List.length_take, List.length_drop]; omega
    refine h (svY sv) _ hs ⟨rfl⟩ (.inl ⟨hl, ?_⟩)
    show ((bs.drop a).take 1)[0]! = (bs.drop a)[0]!
    rw [getElem!_pos _ 0 (by omega), getElem!_pos (bs.drop a) 0 (by rw [List.length_drop]; omega), List.getElem_take]
def fam15 : List (List CanIt) := [[.q 0, .q 1, .q 2, .q 3, .q 4, .q 5, .q 6, .x 7 [0, 1, 2, 3, 4, 5], .q 8, .x 9 [0, 1, 2, 3, 4, 5, 6, 8], .x 10 []],
  [.q 0, .q 1, .q 2, .q 3, .q 4, .q 5, .q 6, .x 9 [0, 1, 2, 3, 4, 5, 6], .x 7 [0, 1, 2, 3, 4, 5], .q 8, .x 10 []]]
theorem rpair_spec {L K} {a b : Int} (h : Ht L (K (.bool (pairM a b)))) : Ht L (CCall Try.prog 87 [.int .i64 a, .int .i64 b] K) := by
  refine ccall2 Try.func87 rfl (by decide) Try.ntmps87 (by rfl) (by decide) ?_
  repeat (refine stp ?_)
  unfold pairM at h
  by_cases h1 : 0 ≤ a
  · rewrite [decide_eq_true h1]
    rw [decide_eq_true h1] at h
    repeat (refine stp ?_)
    by_cases h2 : a < 3
    · rewrite [decide_eq_true h2]
      rw [decide_eq_true h2] at h
      repeat (refine stp ?_)
      by_cases h3 : 0 ≤ b
      · rewrite [decide_eq_true h3]
        rw [decide_eq_true h3] at h
        repeat (refine stp ?_)
        by_cases h4 : b < 3
        · rewrite [decide_eq_true h4]
          rw [decide_eq_true h4] at h
          repeat (refine stp ?_)
          exact ret1 rfl h
        · rewrite [decide_eq_false h4]
          rw [decide_eq_false h4] at h
          repeat (refine stp ?_)
          exact ret1 rfl h
      · rewrite [decide_eq_false h3]
        rw [decide_eq_false h3] at h
        repeat (refine stp ?_)
        exact ret1 rfl h
    · rewrite [decide_eq_false h2]
      rw [decide_eq_false h2] at h
      repeat (refine stp ?_)
      exact ret1 rfl h
  · rewrite [decide_eq_false h1]
    rw [decide_eq_false h1] at h
    repeat (refine stp ?_)
    exact ret1 rfl h
theorem RDecode15_spec {L K v} {bs : List UInt8} [rs : RdE L encB v bs]
    (h : ∀ u, One1 u → Ht (own encB 5 u (pkD bs).2.2.2.2.2 :: L) (K (.tuple #[.agg #[.int .i64 (pkD bs).2.1, .int .i64 (pkD bs).2.2.1, .int .i64 (pkD bs).2.2.2.1, .int .i64 (pkD bs).2.2.2.2.1, u], .int .i64 (pkD bs).1]))) :
    Ht L (CCall Try.prog 28 [v] K) := by
  haveI := rs.toS
  have hnil : ∀ x : Int, pkD bs = (x, 0, 0, 0, 0, []) → ∀ M : List HP, (∀ w, Sat M w → Sat L w) → Ht M (K (.tuple #[.agg #[.int .i64 0, .int .i64 0, .int .i64 0, .int .i64 0, .slice none 0 0], .int .i64 x])) := fun x e M hM => by
    have h2 := h (.slice none 0 0) ⟨rfl⟩
    rw [e] at h2
    exact Ht.conseq h2 (fun w t => own_nil.2 (hM w t))
  refine Ht.know (p := (∃ sa sc, v = .slice sa bs.length sc) ∧ bs.length ≤ 9223372036854775807) (fun w s => ⟨by obtain ⟨a, c, hv, _, _⟩ := sliceIn_of (rs.h w s); exact ⟨a, c, hv⟩, (rs.h w s).le⟩) (fun ⟨⟨sa, sc, e⟩, hbl⟩ => ?_)
  subst e
  have hrs : ∀ (M : List HP) [fr : Frm M L], RdS M (.slice sa bs.length sc) encB bs := fun M fr => ⟨fun w t => (rs.h w (fr.h _ _ t))⟩
  refine ccall1 Try.func28 rfl (by decide) Try.ntmps28 (by rfl) (by decide) ?_
  repeat (refine stp ?_)
  intro rc
  repeat (refine stp ?_)
  refine FNext06_spec (bs := bs) fun sb hsb => ?_
  repeat (refine stp ?_)
  refine ht_if ?_ ?_ <;> intro h0 <;> simp only [decide_eq_true_eq, decide_eq_false_iff_not, ne_eq, Classical.not_not] at h0
  · repeat (refine stp ?_)
    exact retct rfl (hnil _ (by unfold pkD openE; rw [if_pos h0, if_pos h0]) _ (fun w t => t.tail))
  repeat (refine stp ?_)
  refine ht_if ?_ ?_ <;> intro h1 <;> simp only [decide_eq_true_eq, decide_eq_false_iff_not] at h1
  · repeat (refine stp ?_)
    have e3 : openE bs = 3 := by unfold openE; rw [if_neg (by simp [h0]), if_pos (by omega)]
    exact retct rfl (hnil _ (by unfold pkD; rw [if_pos (by rw [e3]; decide), e3]) _ (fun w t => t.tail))
  have e0 : openE bs = 0 := by unfold openE; rw [if_neg (by simp [h0]), if_neg (by omega)]
  have eb : openB bs = bodyF bs := by unfold openB; rw [if_pos e0]
  have hd : pkD bs = pkG 0 0 0 0 0 (bodyF bs) := by unfold pkD; rw [if_neg (by simp [e0]), eb]; unfold pkG pkK; rw [if_pos rfl]
  have hbB : (bodyF bs).length ≤ 1048576 := by
    have h9 : num4 bs ≤ 1048568 := by
      have he := h0
      unfold errF at he
      by_cases h8 : bs.length < 8
      · rw [if_pos h8] at he; cases he
      rw [if_neg h8] at he
      by_cases h9 : 1048568 < num4 bs
      · rw [if_pos h9] at he; cases he
      · omega
    unfold bodyF
    rw [if_pos h0, List.length_drop, List.length_take]; omega
  rw [hd] at h hnil
  clear hd
  generalize bodyF bs = B at hsb h hnil hbB
  have hsM : ∀ (M : List HP) [fr : Frm M (pto rc (cells [.int .i64 0, .int .i64 0, .int .i64 0, .int .i64 0, .slice none 0 0] 48) :: L)], RdE M encB (svY sb) B := fun M fr => ⟨fun w t => hsb.h w (fr.h _ _ t)⟩
  repeat (refine stp ?_)
  intro p
  repeat (refine stp ?_)
  intro c3
  repeat (refine stp ?_)
  refine ht_cutd (.exit 0) (ι := Int × Int × Int × Int × Nat) (fun x => x.2.2.2.2 ≤ B.length ∧ pkG 0 0 0 0 0 B = pkN x.2.2.2.1 x.1 x.2.1 x.2.2.1 (B.drop x.2.2.2.2))
    (fun x => pto c3 (cells [.int .i64 x.1, .int .i64 x.2.1, .int .i64 x.2.2.1] 146) :: pto p (rdr (svY sb) x.2.2.2.2 x.2.2.2.1) :: pto rc (cells [.int .i64 0, .int .i64 0, .int .i64 0, .int .i64 0, .slice none 0 0] 48) :: L)
    (fun _ => [(8, .pointer (some ⟨c3, 0, none⟩)), (7, .pointer (some ⟨p, 0, none⟩)), (2, .pointer (some ⟨rc, 0, none⟩))]) ?_ ?_
  · intro Q' hQ
    refine ht_for 3 (fun i (x : Int × Int × Int × Int × Nat) => (x.2.2.2.2 ≤ B.length ∧ pkG 0 0 0 0 0 B = pkG i x.2.2.2.1 x.1 x.2.1 x.2.2.1 (B.drop x.2.2.2.2)) ∧ (i ≤ 0 → x.1 = 0) ∧ (i ≤ 1 → x.2.1 = 0) ∧ (i ≤ 2 → x.2.2.1 = 0))
      (fun _ x => pto c3 (cells [.int .i64 x.1, .int .i64 x.2.1, .int .i64 x.2.2.1] 146) :: pto p (rdr (svY sb) x.2.2.2.2 x.2.2.2.1) :: pto rc (cells [.int .i64 0, .int .i64 0, .int .i64 0, .int .i64 0, .slice none 0 0] 48) :: L) (fun i _ => [(9, .int .i64 i)]) (0, 0, 0, 0, 0) [9] ⟨⟨Nat.zero_le _, by simp only [List.drop_zero]⟩, fun _ => rfl, fun _ => rfl, fun _ => rfl⟩ (fun w t => t) inferInstance ?_
    intro i ⟨k, f, t, e, a⟩ hi ⟨⟨ha, hG⟩, hz0, hz1, hz2⟩
    dsimp only [List.cons_append, List.nil_append] at ha hG hz0 hz1 hz2 ⊢
    repeat (refine stp ?_)
    refine ht_if ?_ ?_ <;> intro hc <;> simp only [decide_eq_true_eq, decide_eq_false_iff_not] at hc
    · repeat (refine stp ?_)
      refine Byte05_spec (p := p) (a := a) (e := e) (bs := B) ha (by omega) fun u l hu ou hul => ?_
      have hu' : ∀ (M : List HP) [fr : Frm M (pto c3 (cells [.int .i64 k, .int .i64 f, .int .i64 t] 146) :: pto rc (cells [.int .i64 0, .int .i64 0, .int .i64 0, .int .i64 0, .slice none 0 0] 48) :: L)], RdS M u encB l := fun M fr => ⟨fun w t => hu.h w (fr.h _ _ t)⟩
      have hle := @byteM_le e (B.drop a)
      rw [List.length_drop] at hle
      have hdd : (B.drop a).drop (byteM e (B.drop a)).2.2 = B.drop (a + (byteM e (B.drop a)).2.2) := List.drop_drop
      repeat (refine stp ?_)
      refine ht_if ?_ ?_ <;> intro h2 <;> simp only [decide_eq_true_eq, decide_eq_false_iff_not] at h2
      · rcases hul with ⟨hl1, hl2⟩ | ⟨hl1, hl2⟩
        · repeat (refine stp ?_)
          refine co_index (xs := l) (by omega) ?_
          intro hb
          rcases (show i = 0 ∨ i = 1 ∨ i = 2 by omega) with rfl | rfl | rfl
          · rewrite [show ((0 : Nat) : Int) = 0 from rfl]
            repeat (refine stp ?_)
            rewrite [hl2, u8i64]
            have hG2 := hG.trans pkG0
            rw [hdd] at hG2
            generalize ((byteM e (B.drop a)).2.1.toNat : Int) = k' at hG2 ⊢
            repeat (refine stp ?_)
            exact ht_next (k', f, t, _, _) (by omega) ⟨⟨by show a + (byteM e (B.drop a)).2.2 ≤ B.length; omega, hG2⟩, ⟨fun h => by omega, fun _ => hz1 (by omega), fun _ => hz2 (by omega)⟩⟩ (fun w t => (inferInstance : Frm _ _).h _ _ t) (SubE.cons rfl inferInstance) rfl rfl
          · rewrite [show ((1 : Nat) : Int) = 1 from rfl]
            repeat (refine stp ?_)
            rewrite [hl2, u8i64]
            have hG2 := hG.trans pkG1
            rw [hdd] at hG2
            generalize ((byteM e (B.drop a)).2.1.toNat : Int) = k' at hG2 ⊢
            repeat (refine stp ?_)
            exact ht_next (k, k', t, _, _) (by omega) ⟨⟨by show a + (byteM e (B.drop a)).2.2 ≤ B.length; omega, hG2⟩, ⟨fun h => by omega, fun h => by omega, fun _ => hz2 (by omega)⟩⟩ (fun w t => (inferInstance : Frm _ _).h _ _ t) (SubE.cons rfl inferInstance) rfl rfl
          · rewrite [show ((2 : Nat) : Int) = 2 from rfl]
            repeat (refine stp ?_)
            rewrite [hl2, u8i64]
            have hG2 := hG.trans pkG2
            rw [hdd] at hG2
            generalize ((byteM e (B.drop a)).2.1.toNat : Int) = k' at hG2 ⊢
            repeat (refine stp ?_)
            exact ht_next (k, f, k', _, _) (by omega) ⟨⟨by show a + (byteM e (B.drop a)).2.2 ≤ B.length; omega, hG2⟩, ⟨fun h => by omega, fun h => by omega, fun h => by omega⟩⟩ (fun w t => (inferInstance : Frm _ _).h _ _ t) (SubE.cons rfl inferInstance) rfl rfl
        · subst hl1; simp at h2
      · rcases hul with ⟨hl1, hl2⟩ | ⟨hl1, hl2⟩
        · omega
        · rcases (show i = 0 ∨ i = 1 ∨ i = 2 by omega) with rfl | rfl | rfl
          · have e0 := hz0 (by omega)
            subst e0
            have hG2 := hG.trans pkG0
            rw [hdd, hl2] at hG2
            repeat (refine stp ?_)
            exact ht_next (0, f, t, _, _) (by omega) ⟨⟨by show a + (byteM e (B.drop a)).2.2 ≤ B.length; omega, hG2⟩, ⟨fun h => by omega, fun _ => hz1 (by omega), fun _ => hz2 (by omega)⟩⟩ (fun w t => (inferInstance : Frm _ _).h _ _ t) (SubE.cons rfl inferInstance) rfl rfl
          · have e0 := hz1 (by omega)
            subst e0
            have hG2 := hG.trans pkG1
            rw [hdd, hl2] at hG2
            repeat (refine stp ?_)
            exact ht_next (k, 0, t, _, _) (by omega) ⟨⟨by show a + (byteM e (B.drop a)).2.2 ≤ B.length; omega, hG2⟩, ⟨fun h => by omega, fun h => by omega, fun _ => hz2 (by omega)⟩⟩ (fun w t => (inferInstance : Frm _ _).h _ _ t) (SubE.cons rfl inferInstance) rfl rfl
          · have e0 := hz2 (by omega)
            subst e0
            have hG2 := hG.trans pkG2
            rw [hdd, hl2] at hG2
            repeat (refine stp ?_)
            exact ht_next (k, f, 0, _, _) (by omega) ⟨⟨by show a + (byteM e (B.drop a)).2.2 ≤ B.length; omega, hG2⟩, ⟨fun h => by omega, fun h => by omega, fun h => by omega⟩⟩ (fun w t => (inferInstance : Frm _ _).h _ _ t) (SubE.cons rfl inferInstance) rfl rfl
    · have hi3 : i = 3 := by omega
      subst hi3
      repeat (refine stp ?_)
      exact cx_env inferInstance (Ht.frm (hQ (k, f, t, e, a) ⟨ha, hG.trans pkG3⟩))
  · intro ⟨k, f, t, e, a⟩ ⟨ha, hG⟩
    dsimp only at ha hG ⊢
    rw [hG] at h hnil
    have hcb := @count_bound e 1099511627776 (B.drop a)
    rw [List.length_drop] at hcb
    rcases hcn : countM e (B.drop a) 1099511627776 with ⟨e4, n, cn⟩
    have hk0 : pkN e k f t (B.drop a) = pkS e4 k f t n (B.drop (a + cn)) := by unfold pkN; rw [hcn, List.drop_drop]
    rw [hk0] at h hnil
    rw [hcn] at hcb
    clear hk0 hG
    dsimp only at hcb
    obtain ⟨a4, ha4⟩ : ∃ a4, a + cn = a4 := ⟨_, rfl⟩
    rw [ha4] at h hnil
    have ha5 : a4 ≤ B.length := by omega
    refine stp ?_
    refine stp ?_
    refine stp ?_
    refine ht_cutd .normal (ι := Nat) (fun _ => True) (fun c => pto c (cells [.int .i64 k, .int .i64 f, .int .i64 t, .int .i64 n, .slice none 0 0] 48) :: pto p (rdr (svY sb) a4 e4) :: pto c3 (cells [.int .i64 k, .int .i64 f, .int .i64 t] 146) :: pto rc (cells [.int .i64 0, .int .i64 0, .int .i64 0, .int .i64 0, .slice none 0 0] 48) :: L) (fun c => [(7, .pointer (some ⟨p, 0, none⟩)), (11, .pointer (some ⟨c, 0, none⟩)), (2, .pointer (some ⟨rc, 0, none⟩))]) ?_ ?_
    · intro Q' hQ
      refine ht_drawG [7, 9, 10] fam15 Try.mixed (by kernel_rfl) ?_
      intro π hπ
      simp only [fam15, List.mem_cons, List.mem_nil_iff, or_false] at hπ
      rcases hπ with rfl | rfl
      · repeat (refine stp ?_)
        refine Count05_spec (p := p) (a := a) (e := e) (bs := B) ha (by omega) (by omega) ?_
        rewrite [hcn]
        dsimp only
        rewrite [ha4]
        repeat (refine stp ?_)
        intro c
        repeat (refine stp ?_)
        exact cx_env inferInstance (Ht.frm (hQ c trivial))
      · repeat (refine stp ?_)
        intro c
        repeat (refine stp ?_)
        refine Count05_spec (p := p) (a := a) (e := e) (bs := B) ha (by omega) (by omega) ?_
        rewrite [hcn]
        dsimp only
        rewrite [ha4]
        repeat (refine stp ?_)
        exact cx_env inferInstance (Ht.frm (hQ c trivial))
    intro c _
    clear hcn
    repeat (refine stp ?_)
    refine ht_cutd .normal (ι := Value × List UInt8 × Nat × Int) (fun x => x.2.2.1 ≤ B.length ∧ One1 x.1 ∧ pkS e4 k f t n (B.drop a4) = pkR (if x.2.2.2 = 0 ∧ k ≠ 1 ∧ k ≠ 2 then 3 else x.2.2.2) k f t n x.2.1 (B.drop x.2.2.1))
      (fun x => pto c (cells [.int .i64 k, .int .i64 f, .int .i64 t, .int .i64 n, x.1] 48) :: own encB 5 x.1 x.2.1 :: pto p (rdr (svY sb) x.2.2.1 x.2.2.2) :: pto c3 (cells [.int .i64 k, .int .i64 f, .int .i64 t] 146) :: pto rc (cells [.int .i64 0, .int .i64 0, .int .i64 0, .int .i64 0, .slice none 0 0] 48) :: L) (fun _ => [(7, .pointer (some ⟨p, 0, none⟩)), (11, .pointer (some ⟨c, 0, none⟩)), (2, .pointer (some ⟨rc, 0, none⟩))]) ?_ ?_
    · intro Q' hQ
      repeat (refine stp ?_)
      refine ht_if ?_ ?_ <;> intro hk1 <;> simp only [decide_eq_true_eq, decide_eq_false_iff_not] at hk1
      · repeat (refine stp ?_)
        refine Text05_spec (p := p) (a := a4) (e := e4) (bs := B) ha5 (by omega) (by omega) ?_
        have hS : pkS e4 k f t n (B.drop a4) = pkR (textM e4 (B.drop a4) 1048576).1 k f t n (textM e4 (B.drop a4) 1048576).2.1 (B.drop (a4 + (textM e4 (B.drop a4) 1048576).2.2)) := by unfold pkS; rw [if_pos hk1, List.drop_drop]
        have htl := @textM_len e4 1048576 (B.drop a4)
        have htb : (textM e4 (B.drop a4) 1048576).2.2 ≤ (B.drop a4).length := by
          unfold textM
          split
          · exact Nat.zero_le _
          split
          · exact Nat.zero_le _
          · rename_i h4 h5
            have := @count_bound e4 1048576 (B.drop a4)
            show (countM e4 (B.drop a4) 1048576).2.2 + (countM e4 (B.drop a4) 1048576).2.1.toNat ≤ _
            rw [List.length_drop] at h5
            omega
        rw [List.length_drop] at htb htl
        repeat (refine stp ?_)
        refine co_bytes (by show (textM e4 (B.drop a4) 1048576).2.1.toArray.size ≤ _; rw [List.size_toArray]; omega) fun u => ?_
        refine Ht.one1 (v := u) ?_
        intro ou
        repeat (refine stp ?_)
        exact cx_env inferInstance (Ht.frm (hQ (u, _, a4 + (textM e4 (B.drop a4) 1048576).2.2, _) ⟨by show a4 + (textM e4 (B.drop a4) 1048576).2.2 ≤ B.length; omega, ou, by rw [hS, if_neg (fun hh => hh.2.1 hk1)]⟩))
      · repeat (refine stp ?_)
        refine cx_env inferInstance (Ht.conseq (hQ (.slice none 0 0, [], a4, e4) ⟨ha5, ⟨rfl⟩, ?_⟩) (fun w t => ?_))
        · show _ = pkR (if e4 = 0 ∧ k ≠ 1 ∧ k ≠ 2 then 3 else e4) k f t n [] (B.drop a4)
          unfold pkS
          rw [if_neg hk1]
          by_cases hk2 : k = 2
          · rw [if_pos hk2, if_neg (fun hh => hh.2.2 hk2)]
          · rw [if_neg hk2]
            by_cases he : e4 = 0
            · rw [if_pos he, if_pos ⟨he, hk1, hk2⟩]
            · rw [if_neg he, if_neg (fun hh => he hh.1)]
        · exact seps_swap (own_nil.2 t)
    intro ⟨u, s, a6, e6⟩ ⟨ha6, ou, hS⟩
    dsimp only at ha6 ou hS ⊢
    rw [hS] at h hnil
    clear hS
    refine stp ?_
    refine stp ?_
    refine ht_cutd .normal (ι := Int) (fun e7 => e7 = (if e6 = 0 ∧ k ≠ 1 ∧ k ≠ 2 then 3 else e6)) (fun e7 => pto c (cells [.int .i64 k, .int .i64 f, .int .i64 t, .int .i64 n, u] 48) :: own encB 5 u s :: pto p (rdr (svY sb) a6 e7) :: pto c3 (cells [.int .i64 k, .int .i64 f, .int .i64 t] 146) :: pto rc (cells [.int .i64 0, .int .i64 0, .int .i64 0, .int .i64 0, .slice none 0 0] 48) :: L) (fun _ => [(7, .pointer (some ⟨p, 0, none⟩)), (11, .pointer (some ⟨c, 0, none⟩)), (2, .pointer (some ⟨rc, 0, none⟩))]) ?_ ?_
    · intro Q' hQ
      repeat (refine stp ?_)
      by_cases he : e6 = 0
      · rewrite [decide_eq_true he]
        repeat (refine stp ?_)
        by_cases hk1 : k = 1
        · rewrite [show decide (k ≠ 1) = false from by simp [hk1]]
          repeat (refine stp ?_)
          exact cx_env inferInstance (Ht.frm (hQ e6 (by rw [if_neg (fun hh => hh.2.1 hk1)])))
        · rewrite [show decide (k ≠ 1) = true from by simp [hk1]]
          repeat (refine stp ?_)
          by_cases hk2 : k = 2
          · rewrite [show decide (k ≠ 2) = false from by simp [hk2]]
            repeat (refine stp ?_)
            exact cx_env inferInstance (Ht.frm (hQ e6 (by rw [if_neg (fun hh => hh.2.2 hk2)])))
          · rewrite [show decide (k ≠ 2) = true from by simp [hk2]]
            repeat (refine stp ?_)
            exact cx_env inferInstance (Ht.frm (hQ 3 (by rw [if_pos ⟨he, hk1, hk2⟩])))
      · rewrite [decide_eq_false he]
        repeat (refine stp ?_)
        exact cx_env inferInstance (Ht.frm (hQ e6 (by rw [if_neg (fun hh => he hh.1)])))
    intro e7 he7
    rw [← he7] at h hnil
    clear he7
    repeat (refine stp ?_)
    refine Done05_spec (p := p) (a := a6) (e := e7) (bs := B) ha6 ?_
    repeat (refine stp ?_)
    have hR : pkR e7 k f t n s (B.drop a6) = if e7 ≠ 0 then (e7, 0, 0, 0, 0, []) else if B.drop a6 ≠ [] then (3, 0, 0, 0, 0, []) else if pairM f t = true then (0, k, f, t, n, s) else (5, 0, 0, 0, 0, []) := rfl
    have hd : (if e7 ≠ 0 then e7 else if B.drop a6 = [] then 0 else 3) ≠ 0 → pkR e7 k f t n s (B.drop a6) = (if e7 ≠ 0 then e7 else if B.drop a6 = [] then 0 else 3, 0, 0, 0, 0, []) := fun hd => by
      rw [hR]
      by_cases he : e7 = 0
      · subst he
        by_cases hb : B.drop a6 = []
        · rw [if_neg (by simp), if_pos hb] at hd; exact absurd rfl hd
        · rw [if_neg (by simp), if_pos hb, if_neg (by simp), if_neg hb]
      · rw [if_pos he, if_pos he]
    have hd0 : (if e7 ≠ 0 then e7 else if B.drop a6 = [] then 0 else 3) = 0 → pkR e7 k f t n s (B.drop a6) = if pairM f t = true then (0, k, f, t, n, s) else (5, 0, 0, 0, 0, []) := fun hd => by
      rw [hR]
      by_cases he : e7 = 0
      · subst he
        by_cases hb : B.drop a6 = []
        · rw [if_neg (by simp), if_neg (by simp [hb])]
        · rw [if_neg (by simp), if_neg hb] at hd; cases hd
      · rw [if_pos he] at hd; exact absurd hd he
    generalize hdv : (if e7 ≠ 0 then e7 else if B.drop a6 = [] then 0 else 3) = d at hd hd0 ⊢
    refine ht_if ?_ ?_ <;> intro h1 <;> simp only [decide_eq_true_eq, decide_eq_false_iff_not, ne_eq, Classical.not_not] at h1
    · repeat (refine stp ?_)
      refine Done05_spec (p := p) (a := a6) (e := e7) (bs := B) ha6 ?_
      rewrite [hdv]
      repeat (refine stp ?_)
      exact retct rfl (hnil _ (hd h1) _ (fun w t => (inferInstance : Frm _ L).h _ _ t))
    · have hd1 := hd0 h1
      repeat (refine stp ?_)
      refine rpair_spec ?_
      repeat (refine stp ?_)
      refine ht_if ?_ ?_ <;> intro h2 <;> simp only [Bool.not_eq_true', Bool.not_eq_false'] at h2
      · repeat (refine stp ?_)
        exact retct rfl (hnil _ (by rw [hd1, if_neg (by rw [h2]; decide)]) _ (fun w t => (inferInstance : Frm _ L).h _ _ t))
      · rw [if_pos h2] at hd1
        rw [hd1] at h
        repeat (refine stp ?_)
        exact retct rfl (Ht.frm (h u ou))
end Go.Proofs

set_option linter.all false
set_option synthInstance.maxSize 100000
set_option synthInstance.maxHeartbeats 400000
namespace Go.SL
open Go
/-! ### Some operations of a region, joined: whatever ways there are through them, a temporary holds one value behind them -/
section
variable {P : Program} {ρ : Option Nat} {N : Nat} {D : List Deferred} {E : List (Nat × Value)} {L : List HP} {Q : Exit → Act → World → Prop} {ops : Array Oper} {l : List Oper}
theorem ht_val (n : Nat) (E' : List (Nat × Value))
    (h1 : ∀ rest Q', Ht L (CO P ρ N D E' ops rest Q') → Ht L (CO P ρ N D E ops (l.take n ++ rest) Q'))
    (h2 : Ht L (CO P ρ N D E' ops (l.drop n) Q)) : Ht L (CO P ρ N D E ops l Q) := by
  have := h1 (l.drop n) Q h2
  rwa [List.take_append_drop] at this
theorem co_leave {E' : List (Nat × Value)} {rest : List Oper} (h : Ht L (CO P ρ N D E' ops rest Q)) (s : SubE E E') : Ht L (CO P ρ N D E ops rest Q) := co_env s h
theorem SubE.bool {E E' : List (Nat × Value)} {d : Nat} {a b : Bool} (e : a = b) (h : SubE ((d, .bool a) :: E) E') : SubE ((d, .bool a) :: E) ((d, .bool b) :: E') := by
  subst e
  exact SubE.cons rfl h
end
end Go.SL

set_option linter.all false
set_option synthInstance.maxSize 100000
set_option synthInstance.maxHeartbeats 400000
namespace Go.Proofs
open Go Go.SL
attribute [local irreducible] CCall CO CC CX CD

/-! ### which packets are right; as bytes -/
def pkBad (k n : Int) (l : Nat) : Bool := decide (k < 1) || decide (2 < k) || decide (n < 0) || decide (1099511627776 < n) || (decide (k = 2) && decide (0 < (l : Int)))
def pkC (k f t n : Int) (l : Nat) : Int := if pkBad k n l = true then 1 else if pairM f t = true then 0 else 5
theorem Check15_spec {L K v} {k f t n : Int} {bs : List UInt8} [rs : RdE L encB v bs] (h : Ht L (K (.int .i64 (pkC k f t n bs.length)))) :
    Ht L (CCall Try.prog 30 [.agg #[.int .i64 k, .int .i64 f, .int .i64 t, .int .i64 n, v]] K) := by
  have hrs : ∀ (M : List HP) [fr : Frm M L], RdS M v encB bs := fun M fr => ⟨fun w t => (rs.h w (fr.h _ _ t))⟩
  refine Ht.know (p := One1 v) (fun w t => one1_of (rs.h w t)) (fun ho => ?_)
  refine ccall1 Try.func30 rfl (by decide) Try.ntmps30 (by rfl) (by decide) ?_
  repeat (refine stp ?_)
  intro c
  repeat (refine stp ?_)
  refine ht_val 25 [(31, .bool (pkBad k n bs.length)), (1, .pointer (some ⟨c, 0, none⟩))] ?_ ?_
  · intro rest Q' hQ
    dsimp only [List.take_succ_cons, List.take_zero, List.cons_append, List.nil_append]
    repeat' (first | refine stp ?_ | (refine ht_guard ?_ ?_ <;> intro _))
    all_goals (refine co_leave hQ (SubE.cons (congrArg Value.bool ?_) inferInstance); unfold pkBad; simp_all <;> omega)
  simp only [List.drop_succ_cons, List.drop_zero]
  repeat (refine stp ?_)
  refine ht_if ?_ ?_ <;> intro h0
  · rw [show pkC k f t n bs.length = 1 from by unfold pkC; rw [if_pos h0]] at h
    repeat (refine stp ?_)
    exact ret1 rfl (Ht.frm h)
  · have e : pkC k f t n bs.length = if pairM f t = true then 0 else 5 := by unfold pkC; rw [if_neg (by rw [h0]; decide)]
    rw [e] at h
    repeat (refine stp ?_)
    refine rpair_spec ?_
    repeat (refine stp ?_)
    refine ht_if ?_ ?_ <;> intro h1 <;> simp only [Bool.not_eq_true', Bool.not_eq_false'] at h1
    · rw [if_neg (by rw [h1]; decide)] at h
      repeat (refine stp ?_)
      exact ret1 rfl (Ht.frm h)
    · rw [if_pos h1] at h
      repeat (refine stp ?_)
      exact ret1 rfl (Ht.frm h)
def pkB (k f t n : Int) (bs : List UInt8) : List UInt8 := [UInt8.ofInt k, UInt8.ofInt f, UInt8.ofInt t] ++ sevensM (UInt64.ofInt n) 10 ++ (if k = 1 then sevensM (UInt64.ofInt (bs.length : Int)) 10 ++ bs else [])
theorem pkB_len {k f t n : Int} {bs : List UInt8} (h : bs.length ≤ 100) : (pkB k f t n bs).length ≤ 200 := by
  have h1 := @sevensM_len (UInt64.ofInt n) 10
  have h2 := @sevensM_len (UInt64.ofInt (bs.length : Int)) 10
  unfold pkB
  rw [List.length_append, List.length_append]
  split
  · rw [List.length_append]; show 3 + _ + _ ≤ _; omega
  · show 3 + _ + 0 ≤ _; omega
theorem Encode15_spec {L K v} {k f t n : Int} {bs : List UInt8} [rs : RdE L encB v bs] (hl : bs.length ≤ 100)
    (h1 : pkC k f t n bs.length ≠ 0 → Ht L (K (.tuple #[.slice none 0 0, .int .i64 (pkC k f t n bs.length)])))
    (h2 : pkC k f t n bs.length = 0 → ∀ v', Ht (own encB 5 v' (makeF (pkB k f t n bs)) :: L) (K (.tuple #[v', .int .i64 0]))) :
    Ht L (CCall Try.prog 26 [.agg #[.int .i64 k, .int .i64 f, .int .i64 t, .int .i64 n, v]] K) := by
  have hrs : ∀ (M : List HP) [fr : Frm M L], RdS M v encB bs := fun M fr => ⟨fun w t => (rs.h w (fr.h _ _ t))⟩
  refine Ht.know (p := One1 v) (fun w t => one1_of (rs.h w t)) (fun ho => ?_)
  refine ccall1 Try.func26 rfl (by decide) Try.ntmps26 (by rfl) (by decide) ?_
  repeat (refine stp ?_)
  intro c
  repeat (refine stp ?_)
  refine ht_val 26 [(7, .bool (pkBad k n bs.length)), (1, .pointer (some ⟨c, 0, none⟩))] ?_ ?_
  · intro rest Q' hQ
    dsimp only [List.take_succ_cons, List.take_zero, List.cons_append, List.nil_append]
    repeat' (first | refine stp ?_ | (refine ht_guard ?_ ?_ <;> intro _))
    all_goals (refine co_leave hQ (SubE.cons (congrArg Value.bool ?_) inferInstance); unfold pkBad; simp_all <;> omega)
  simp only [List.drop_succ_cons, List.drop_zero]
  repeat (refine stp ?_)
  refine ht_if ?_ ?_ <;> intro h0
  · rw [show pkC k f t n bs.length = 1 from by unfold pkC; rw [if_pos h0]] at h1
    repeat (refine stp ?_)
    exact ret2 rfl (Ht.frm (h1 (by decide)))
  have e : pkC k f t n bs.length = if pairM f t = true then 0 else 5 := by unfold pkC; rw [if_neg (by rw [h0]; decide)]
  rw [e] at h1 h2
  repeat (refine stp ?_)
  refine pair_spec ?_
  repeat (refine stp ?_)
  refine ht_if ?_ ?_ <;> intro h3 <;> simp only [Bool.not_eq_true', Bool.not_eq_false'] at h3
  · rw [if_neg (by rw [h3]; decide)] at h1
    repeat (refine stp ?_)
    exact ret2 rfl (Ht.frm (h1 (by decide)))
  rw [if_pos h3] at h2
  have h2 := h2 rfl
  clear h1 e
  repeat (refine stp ?_)
  refine ht_draw Try.can26x5 Try.mixed (by kernel_rfl) ?_
  repeat (refine stp ?_)
  intro p
  refine wr_new (p := p) ?_
  repeat (refine stp ?_)
  refine WByte_spec (p := p) ?_
  repeat (refine stp ?_)
  refine WByte_spec (p := p) ?_
  repeat (refine stp ?_)
  refine WByte_spec (p := p) ?_
  repeat (refine stp ?_)
  refine WCount_spec (p := p) (n := n) ?_
  have hn : 0 ≤ n := by
    unfold pkBad at h0
    simp only [Bool.or_eq_false_iff, decide_eq_false_iff_not] at h0
    omega
  have hk : k = 1 ∨ k = 2 := by
    unfold pkBad at h0
    simp only [Bool.or_eq_false_iff, decide_eq_false_iff_not] at h0
    omega
  have hsl := @sevensM_len (UInt64.ofInt n) 10
  have hw : ((((⟨0, []⟩ : Wr).put [UInt8.ofInt k]).put [UInt8.ofInt f]).put [UInt8.ofInt t]).count n = ⟨0, [UInt8.ofInt k, UInt8.ofInt f, UInt8.ofInt t] ++ sevensM (UInt64.ofInt n) 10⟩ := by
    rw [putF (by simp), putF (by simp), putF (by simp)]
    unfold Wr.count
    rw [if_neg (by omega), putF (by simp; omega)]
    rfl
  rewrite [hw]
  have hpb : pkB k f t n bs = ([UInt8.ofInt k, UInt8.ofInt f, UInt8.ofInt t] ++ sevensM (UInt64.ofInt n) 10) ++ (if k = 1 then sevensM (UInt64.ofInt (bs.length : Int)) 10 ++ bs else []) := rfl
  have hql : ([UInt8.ofInt k, UInt8.ofInt f, UInt8.ofInt t] ++ sevensM (UInt64.ofInt n) 10).length ≤ 20 := by rw [List.length_append]; show 3 + _ ≤ _; omega
  have hpl := @pkB_len k f t n bs hl
  generalize [UInt8.ofInt k, UInt8.ofInt f, UInt8.ofInt t] ++ sevensM (UInt64.ofInt n) 10 = q at hpb hql ⊢
  refine stp ?_
  refine stp ?_
  refine stp ?_
  refine stp ?_
  refine stp ?_
  refine stp ?_
  refine ht_cutd .normal (ι := Value) (fun _ => True) (fun x => isWriter p ⟨0, pkB k f t n bs⟩ :: L) (fun _ => [(4, .pointer (some ⟨p, 0, none⟩))]) ?_ ?_
  · intro Q' hQ
    repeat (refine stp ?_)
    refine ht_if ?_ ?_ <;> intro hk1 <;> simp only [decide_eq_true_eq, decide_eq_false_iff_not] at hk1
    · rw [if_pos hk1] at hpb
      repeat (refine stp ?_)
      intro b1
      repeat (refine stp ?_)
      refine Ht.own_lit SL.encStr (b := b1) (n := 1) (xs := [⟨bs.toArray⟩]) rfl rfl (by decide) ?_
      have hz : (⟨bs.toArray⟩ : ByteArray).size = bs.length := by show bs.toArray.size = _; simp
      refine WText_spec (p := p) (ts := [⟨bs.toArray⟩]) (fun t ht => ?_) ?_
      · rw [List.mem_singleton.1 ht, hz]; omega
      have hsb := @sevensM_len (UInt64.ofInt (bs.length : Int)) 10
      rewrite [show textsM ⟨0, q⟩ [⟨bs.toArray⟩] = ⟨0, pkB k f t n bs⟩ from by
        simp only [textsM]
        rw [hz, hpb]
        unfold Wr.count
        rw [if_neg (by omega), putF (by omega), putF (by rw [List.length_append]; show _ + bs.length ≤ _; omega), List.append_assoc]]
      repeat (refine stp ?_)
      exact cx_env inferInstance (Ht.frm (hQ (.slice none 0 0) trivial))
    · rw [if_neg hk1, List.append_nil] at hpb
      rewrite [← hpb]
      repeat (refine stp ?_)
      exact cx_env inferInstance (Ht.frm (hQ (.slice none 0 0) trivial))
  intro _ _
  repeat (refine stp ?_)
  refine WDone_spec (p := p) ?_
  intro bv
  refine Ht.one1 (v := bv) ?_
  intro _
  rewrite [if_pos rfl]
  repeat (refine stp ?_)
  refine Make_spec (bs := pkB k f t n bs) (fun hh => by omega) (fun _ v1 => ?_)
  refine Ht.one1 (v := v1) ?_
  intro _
  repeat (refine stp ?_)
  exact ret2 rfl (Ht.frm (h2 v1))
theorem REncode15_spec {L K v} {k f t n : Int} {bs : List UInt8} [rs : RdE L encB v bs] (hl : bs.length ≤ 100) (hn : 0 ≤ n) (hn2 : n ≤ 1099511627776)
    (h2 : ∀ v', Ht (own encB 5 v' (makeF (pkB k f t n bs)) :: L) (K v')) :
    Ht L (CCall Try.prog 33 [.agg #[.int .i64 k, .int .i64 f, .int .i64 t, .int .i64 n, v]] K) := by
  have hrs : ∀ (M : List HP) [fr : Frm M L], RdS M v encB bs := fun M fr => ⟨fun w t => (rs.h w (fr.h _ _ t))⟩
  refine Ht.know (p := One1 v) (fun w t => one1_of (rs.h w t)) (fun ho => ?_)
  refine ccall1 Try.func33 rfl (by decide) Try.ntmps33 (by rfl) (by decide) ?_
  repeat (refine stp ?_)
  intro c
  repeat (refine stp ?_)
  intro b1
  repeat (refine stp ?_)
  rewrite [u8_wrap_ofInt k, u8_wrap_ofInt f, u8_wrap_ofInt t, u64_wrap_ofInt n]
  refine Ht.own_lit encB (b := b1) (n := 3) (xs := [UInt8.ofInt k, UInt8.ofInt f, UInt8.ofInt t]) rfl rfl (by decide) ?_
  refine Groups_all ?_
  intro v0
  refine Ht.one1 (v := v0) ?_
  intro _
  have hsl := @sevensM_len (UInt64.ofInt n) 10
  have hsb := @sevensM_len (UInt64.ofInt (bs.length : Int)) 10
  have hpb : pkB k f t n bs = ([UInt8.ofInt k, UInt8.ofInt f, UInt8.ofInt t] ++ sevensM (UInt64.ofInt n) 10) ++ (if k = 1 then sevensM (UInt64.ofInt (bs.length : Int)) 10 ++ bs else []) := rfl
  have hql : ([UInt8.ofInt k, UInt8.ofInt f, UInt8.ofInt t] ++ sevensM (UInt64.ofInt n) 10).length ≤ 20 := by rw [List.length_append]; show 3 + _ ≤ _; omega
  have hpl := @pkB_len k f t n bs hl
  repeat (refine stp ?_)
  refine Ht.conseq (L' := own encB 5 (.slice (some ⟨b1, 0, none⟩) 3 3) [UInt8.ofInt k, UInt8.ofInt f, UInt8.ofInt t] :: own encB 5 v0 (sevensM (UInt64.ofInt n) 10) :: pto c (cells [.int .i64 k, .int .i64 f, .int .i64 t, .int .i64 n, v] 48) :: L) ?_ (fun w t => (inferInstance : Frm _ _).h _ _ t)
  refine co_append (e := encB) (xs := [UInt8.ofInt k, UInt8.ofInt f, UInt8.ofInt t]) (ys := sevensM (UInt64.ofInt n) 10) (by rfl) (by show (3 + _) * 1 ≤ _; omega) (by show 3 + _ ≤ _; omega) ?_
  intro u1
  refine Ht.one1 (v := u1) ?_
  intro ou1
  generalize [UInt8.ofInt k, UInt8.ofInt f, UInt8.ofInt t] ++ sevensM (UInt64.ofInt n) 10 = q at hpb hql ⊢
  repeat (refine stp ?_)
  refine ht_cutd .normal (ι := Value) (fun x => One1 x) (fun x => own encB 5 x (pkB k f t n bs) :: L) (fun x => [(3, x)]) ?_ ?_
  · intro Q' hQ
    repeat (refine stp ?_)
    refine ht_if ?_ ?_ <;> intro hk1 <;> simp only [decide_eq_true_eq, decide_eq_false_iff_not] at hk1
    · rw [if_pos hk1] at hpb
      refine Ht.know (p := ∃ sa sc, v = .slice sa bs.length sc) (fun w s => by obtain ⟨a, c, hv, _, _⟩ := sliceIn_of ((hrs _).h w s); exact ⟨a, c, hv⟩) (fun ⟨sa, sc, e⟩ => ?_)
      subst e
      repeat (refine stp ?_)
      rewrite [u64_wrap_ofInt (bs.length : Int)]
      refine Groups_all ?_
      intro v2
      refine Ht.one1 (v := v2) ?_
      intro _
      repeat (refine stp ?_)
      refine Ht.conseq (L' := own encB 5 u1 q :: own encB 5 v2 (sevensM (UInt64.ofInt (bs.length : Int)) 10) :: pto c (cells [.int .i64 k, .int .i64 f, .int .i64 t, .int .i64 n, .slice sa bs.length sc] 48) :: L) ?_ (fun w t => (inferInstance : Frm _ _).h _ _ t)
      refine co_append (e := encB) (xs := q) (ys := sevensM (UInt64.ofInt (bs.length : Int)) 10) (by rfl) (by omega) (by omega) ?_
      intro u2
      refine Ht.one1 (v := u2) ?_
      intro _
      repeat (refine stp ?_)
      refine co_append (e := encB) (xs := q ++ sevensM (UInt64.ofInt (bs.length : Int)) 10) (ys := bs) (by rfl) (by rw [List.length_append]; omega) (by rw [List.length_append]; omega) ?_
      intro u3
      refine Ht.one1 (v := u3) ?_
      intro o3
      rewrite [List.append_assoc, ← hpb]
      repeat (refine stp ?_)
      exact cx_env inferInstance (Ht.frm (hQ u3 o3))
    · rw [if_neg hk1, List.append_nil] at hpb
      rewrite [← hpb]
      repeat (refine stp ?_)
      exact cx_env inferInstance (Ht.frm (hQ u1 ou1))
  intro x ox
  repeat (refine stp ?_)
  refine Make06_spec (bs := pkB k f t n bs) (by omega) fun v1 => ?_
  repeat (refine stp ?_)
  exact ret1 rfl (Ht.frm (h2 v1))
end Go.Proofs

set_option linter.all false
set_option synthInstance.maxSize 100000
set_option synthInstance.maxHeartbeats 400000
namespace Go.Proofs
open Go Go.SL
attribute [local irreducible] CCall CO CC CX CD

/-- a packet: kind, from, to, number, body -/
abbrev P5 := Int × Int × Int × Int × SVy
@[reducible] def encP5 : Enc P5 := ⟨5, fun r => [.int .i64 r.1, .int .i64 r.2.1, .int .i64 r.2.2.1, .int .i64 r.2.2.2.1, .slice r.2.2.2.2.1 r.2.2.2.2.2.1 r.2.2.2.2.2.2], fun _ => rfl, fun _ v h => by simp at h; rcases h with rfl | rfl | rfl | rfl | rfl <;> rfl⟩
theorem pp_sat {b : Nat} {s : PSt} {tv kv : Value} {g : List SB} {r : GR} {o : Obj} {xs : List SVy} {ys : List (Int × SVy)} {L L1 L2 L3 L4 R R' : List HP} {e : Env} {u : Hp} [p1 : Pull (pto b) L o L1] [p2 : Pull (own encY 23 tv) L1 xs L2] [p3 : Pull (bigO (ownY 5)) L2 g L3] [p4 : Pull (own enc_iy 173 kv) L3 ys L4] [p5 : Pull (bigO rown) L4 r R] [fr : Frm R R']
    (ho : o = cells [.int .i64 s.self, .int .i64 s.peer, tv, .int .i64 s.acked, .int .i64 s.next, kv] 239) (hx : xs = gsv g) (hy : ys = rvals r) (hg : gby g = s.said) (hr : rbytes r = s.kept) (hs : Srt s.kept) (sat : seps L e u) : seps (isPipe b s :: R') e u := by
  have h1 := p1.h _ _ sat
  have h2 := seps_mono (fun _ a => a) (fun _ t => p2.h _ _ t) h1
  have h3 := seps_mono (fun _ a => a) (fun _ t => seps_mono (fun _ a => a) (fun _ t => p3.h _ _ t) t) h2
  have h4 := seps_mono (fun _ a => a) (fun _ t => seps_mono (fun _ a => a) (fun _ t => seps_mono (fun _ a => a) (fun _ t => p4.h _ _ t) t) t) h3
  have h5 := seps_mono (fun _ a => a) (fun _ t => seps_mono (fun _ a => a) (fun _ t => seps_mono (fun _ a => a) (fun _ t => seps_mono (fun _ a => a) (fun _ t => p5.h _ _ t) t) t) t) h4
  subst ho; subst hx; subst hy
  refine seps_exs.2 ⟨((tv, kv), (g, r)), seps_seps.2 (seps_pur.2 ⟨⟨hg, hr, hs⟩, ?_⟩)⟩
  exact seps_mono (fun _ a => a) (fun _ t => seps_mono (fun _ a => a) (fun _ t => seps_mono (fun _ a => a) (fun _ t => seps_mono (fun _ a => a) (fun _ t => seps_mono (fun _ a => a) (fun _ t => fr.h _ _ t) t) t) t) t) h5
def pkA (self peer : Int) : Int → List SB → List P5
  | _, [] => []
  | f, x :: l => (1, self, peer, f, x.1) :: pkA self peer (f + 1) l
theorem pkA_len {self peer : Int} : ∀ {f : Int} {l : List SB}, (pkA self peer f l).length = l.length
  | _, [] => rfl
  | f, x :: l => by simp [pkA, pkA_len]
theorem pkA_snoc {self peer : Int} {x : SB} : ∀ {f : Int} {l : List SB}, pkA self peer f (l ++ [x]) = pkA self peer f l ++ [(1, self, peer, f + l.length, x.1)]
  | f, [] => by simp [pkA]
  | f, y :: l => by
    simp only [pkA, List.cons_append]
    rw [pkA_snoc, List.length_cons, show f + ((l.length + 1 : Nat) : Int) = f + 1 + l.length from by push_cast; omega]
theorem pkA_at {self peer : Int} : ∀ {f : Int} {l : List SB} {k : Nat}, k < l.length → (pkA self peer f l)[k]! = (1, self, peer, f + k, (l[k]!).1)
  | f, x :: l, 0, _ => by simp [pkA]
  | f, x :: l, k + 1, h => by
    have := pkA_at (self := self) (peer := peer) (f := f + 1) (l := l) (k := k) (by simpa using h)
    simp only [pkA, List.getElem!_cons_succ]
    rw [this, show f + ((k + 1 : Nat) : Int) = f + 1 + k from by push_cast; omega]
theorem packet_spec {L K b v} {kind n self peer : Int} {bs : List UInt8} [c0 : Cl L ⟨b, 0, none⟩ (.int .i64 self)] [c1 : Cl L ⟨b, 1, none⟩ (.int .i64 peer)] [rs : RdE L encB v bs] (hb : bs.length ≤ 1000000)
    (h : ∀ v', Ht (own encB 5 v' bs :: L) (K (.agg #[.int .i64 kind, .int .i64 self, .int .i64 peer, .int .i64 n, v']))) : Ht L (CCall Try.prog 151 [.pointer (some ⟨b, 0, none⟩), .int .i64 kind, .int .i64 n, v] K) := by
  have hc0 : ∀ (M : List HP) [fr : Frm M L], Cl M ⟨b, 0, none⟩ (.int .i64 self) := fun M fr => ⟨fun w s => c0.h w (fr.h _ _ s)⟩
  have hc1 : ∀ (M : List HP) [fr : Frm M L], Cl M ⟨b, 1, none⟩ (.int .i64 peer) := fun M fr => ⟨fun w s => c1.h w (fr.h _ _ s)⟩
  have hrs : ∀ (M : List HP) [fr : Frm M L], RdE M encB v bs := fun M fr => ⟨fun w s => rs.h w (fr.h _ _ s)⟩
  refine Ht.know (p := One1 v) (fun w s => one1_of (rs.h w s)) (fun ho => ?_)
  refine ccall4 Try.func151 rfl (by decide) Try.ntmps151 (by rfl) (by decide) ?_
  repeat (refine stp ?_)
  intro c
  repeat (refine stp ?_)
  refine ht_draw Try.can151x1 Try.mixed (by kernel_rfl) ?_
  repeat (refine stp ?_)
  refine yClone_spec (xs := bs) (by omega) ?_
  intro v1
  refine Ht.one1 (v := v1) ?_
  intro _
  repeat (refine stp ?_)
  exact retc rfl (Ht.frm (h v1))
theorem ack_spec {L R K b s} [p : Pull (isPipe b) L s R] (h : ∀ v', Ht (own encB 5 v' [] :: isPipe b s :: R) (K (.agg #[.int .i64 2, .int .i64 s.self, .int .i64 s.peer, .int .i64 s.next, v']))) : Ht L (CCall Try.prog 154 [.pointer (some ⟨b, 0, none⟩)] K) := by
  refine Ht.pull p ?_
  refine ccall1 Try.func154 rfl (by decide) Try.ntmps154 (by rfl) (by decide) ?_
  repeat (refine stp ?_)
  intro c
  repeat (refine stp ?_)
  refine PTaken_spec (b := b) (s := s) ?_
  repeat (refine stp ?_)
  refine pp_open fun tv kv g r hg hr hs hs' hgl hrl => ?_
  have hnil : ∀ M : List HP, RdE M encB (.slice none 0 0) ([] : List UInt8) := fun M => ⟨fun _ _ => .inl ⟨rfl, rfl⟩⟩
  refine packet_spec (self := s.self) (peer := s.peer) (bs := []) (by simp) ?_
  intro v1
  refine Ht.one1 (v := v1) ?_
  intro _
  repeat (refine stp ?_)
  refine retc rfl ?_
  exact pp_close (b := b) (s := s) (g := g) (r := r) (R' := own encB 5 v1 [] :: R) rfl rfl rfl hg hr hs (Ht.frm (h v1))
theorem bigO_app {β : Type} {F : β → HP} {l : List β} {x : β} {R : List HP} {w : World} (s : Sat (F x :: bigO F l :: R) w) : Sat (bigO F (l ++ [x]) :: R) w := bigO_snoc.2 s
theorem PTick_spec {L R K b s} [p : Pull (isPipe b) L s R] (ha : s.acked ≤ s.said.length) (hn : s.said.length ≤ 900000) (hb : ∀ x ∈ s.said, x.length ≤ 1000000)
    (h : ∀ v l, gby l = (s.said.take (s.acked + 16)).drop s.acked → Ht (own encP5 49 v (pkA s.self s.peer s.acked l) :: bigO (ownY 5) l :: isPipe b s :: R) (K v)) : Ht L (CCall Try.prog 90 [.pointer (some ⟨b, 0, none⟩)] K) := by
  refine Ht.pull p ?_
  refine ccall1 Try.func90 rfl (by decide) Try.ntmps90 (by rfl) (by decide) ?_
  repeat (refine stp ?_)
  refine pp_open fun tv kv g r hg hr hs hs' hgl hrl => ?_
  have hgl0 : g.length = s.said.length := by rw [← hgl]; simp [gsv]
  repeat (refine stp ?_)
  refine wy_window (a := s.acked) (l := gsv g) (by omega) (by omega) ?_
  intro wv
  refine Ht.one1 (v := wv) ?_
  intro _
  generalize hW : (g.take (s.acked + 16)).drop s.acked = W
  have hWs : ((gsv g).take (s.acked + 16)).drop s.acked = gsv W := by rw [← hW]; simp [gsv]
  have hWb : gby W = (s.said.take (s.acked + 16)).drop s.acked := by rw [← hW, ← hg]; simp [gby]
  have hWm : ∀ x ∈ W, x ∈ g := fun x hx => by rw [← hW] at hx; exact List.mem_of_mem_take (List.mem_of_mem_drop hx)
  have hWl : W.length ≤ 16 := by rw [← hW]; simp; omega
  have hWs2 := gsv_len (ms := W)
  rewrite [hWs]
  repeat (refine stp ?_)
  refine ht_for W.length (fun i (x : Value × List SB) => gby x.2 = (gby W).take i) (fun i x => own encP5 49 x.1 (pkA s.self s.peer s.acked x.2) :: bigO (ownY 5) x.2 :: own encY 23 wv (gsv W) :: pto b (cells [.int .i64 s.self, .int .i64 s.peer, tv, .int .i64 s.acked, .int .i64 s.next, kv] 239) :: own encY 23 tv (gsv g) :: bigO (ownY 5) g :: own enc_iy 173 kv (rvals r) :: bigO rown r :: R) (fun i x => [(20, .int .i64 i), (3, x.1)]) (.slice none 0 0, []) [20, 3] (by simp [gby]) (fun w t => own_nil.2 ((bigO_nil (f := ownY 5)).2 ((inferInstance : Frm _ (own encY 23 wv (gsv W) :: pto b (cells [.int .i64 s.self, .int .i64 s.peer, tv, .int .i64 s.acked, .int .i64 s.next, kv] 239) :: own encY 23 tv (gsv g) :: bigO (ownY 5) g :: own enc_iy 173 kv (rvals r) :: bigO rown r :: R)).h _ _ t))) inferInstance ?_
  intro i ⟨lv, l⟩ hi hl
  dsimp only [List.cons_append, List.nil_append] at hl ⊢
  have hll : l.length = i := by
    have := congrArg List.length hl
    rw [gby_len, List.length_take, gby_len] at this; omega
  repeat (refine stp ?_)
  refine ht_if ?_ ?_ <;> intro hc <;> simp only [decide_eq_true_eq, decide_eq_false_iff_not] at hc
  · have hii : i < W.length := by omega
    have hxm := hWm _ (List.mem_of_getElem? (getB hii))
    have hxb : (W[i]!).2.length ≤ 1000000 := hb _ (by rw [← hg]; exact List.mem_map_of_mem hxm)
    repeat (refine stp ?_)
    refine co_index (by omega) ?_
    intro hbx
    repeat (refine stp ?_)
    rewrite [gsv_at hii]
    rewrite [show IntKind.i64.wrap ((s.acked : Int) + i) = (s.acked : Int) + i from IntWalk.i64_in _ (by omega)]
    have hx1 := gby_take hii
    generalize W[i]! = x at hxm hxb hx1 ⊢
    have hmx : ∀ (M M' : List HP) [q : Pull (bigO (ownY 5)) M g M'], RdE M encB (.slice x.1.1 x.1.2.1 x.1.2.2) x.2 := fun M M' q => ⟨fun w t => bigY_at hxm (q.h _ _ t)⟩
    haveI hme : RdE (own encP5 49 lv (pkA s.self s.peer s.acked l) :: bigO (ownY 5) l :: own encY 23 wv (gsv W) :: pto b (cells [.int .i64 s.self, .int .i64 s.peer, tv, .int .i64 s.acked, .int .i64 s.next, kv] 239) :: own encY 23 tv (gsv g) :: bigO (ownY 5) g :: own enc_iy 173 kv (rvals r) :: bigO rown r :: R) encB (.slice x.1.1 x.1.2.1 x.1.2.2) x.2 := ⟨fun w t => bigY_at hxm (R := R) ((inferInstance : Frm _ (bigO (ownY 5) g :: R)).h _ _ t.tail.tail)⟩
    refine packet_spec (self := s.self) (peer := s.peer) (bs := x.2) hxb ?_
    intro v1
    refine Ht.know (p := ∃ sv : SVy, v1 = svY sv) (fun w t => own_svY t) (fun ⟨sv, e⟩ => ?_)
    subst e
    refine Ht.one1 (v := svY sv) ?_
    intro _
    repeat (refine stp ?_)
    intro b1
    repeat (refine stp ?_)
    refine Ht.own_lit encP5 (b := b1) (n := 1) (xs := [(1, s.self, s.peer, (s.acked : Int) + i, sv)]) rfl rfl (by decide) ?_
    refine co_append (e := encP5) (xs := pkA s.self s.peer s.acked l) (by rfl) (by rw [pkA_len]; simp; omega) (by rw [pkA_len]; simp; omega) ?_
    intro lv2
    refine Ht.one1 (v := lv2) ?_
    intro _
    have e3 : pkA s.self s.peer s.acked l ++ [(1, s.self, s.peer, (s.acked : Int) + i, sv)] = pkA s.self s.peer s.acked (l ++ [(sv, x.2)]) := by rw [pkA_snoc, hll]
    rewrite [e3]
    repeat (refine stp ?_)
    refine ht_next (lv2, l ++ [(sv, x.2)]) hii (by rw [hx1, ← hl]; simp [gby]) (fun w t => ?_) (SubE.cons (by rw [IntWalk.i64_in _ (by omega)]; rfl) inferInstance) rfl rfl
    have t1 : Sat (bigO (ownY 5) (l ++ [(sv, x.2)]) :: own encP5 49 lv2 (pkA s.self s.peer s.acked (l ++ [(sv, x.2)])) :: own encY 23 wv (gsv W) :: pto b (cells [.int .i64 s.self, .int .i64 s.peer, tv, .int .i64 s.acked, .int .i64 s.next, kv] 239) :: own encY 23 tv (gsv g) :: bigO (ownY 5) g :: own enc_iy 173 kv (rvals r) :: bigO rown r :: R) w := bigO_app (F := ownY 5) (x := (sv, x.2)) (l := l)
      ((inferInstance : Frm _ (own encB 5 (svY sv) x.2 :: bigO (ownY 5) l :: own encP5 49 lv2 (pkA s.self s.peer s.acked (l ++ [(sv, x.2)])) :: own encY 23 wv (gsv W) :: pto b (cells [.int .i64 s.self, .int .i64 s.peer, tv, .int .i64 s.acked, .int .i64 s.next, kv] 239) :: own encY 23 tv (gsv g) :: bigO (ownY 5) g :: own enc_iy 173 kv (rvals r) :: bigO rown r :: R)).h _ _ t)
    exact seps_swap t1
  · have e : i = W.length := by omega
    subst e
    rw [List.take_of_length_le (by rw [gby_len]; exact Nat.le_refl _), hWb] at hl
    repeat (refine stp ?_)
    refine ret1 rfl ?_
    refine Ht.conseq (L' := own encP5 49 lv (pkA s.self s.peer s.acked l) :: bigO (ownY 5) l :: isPipe b s :: R) (h lv l hl) (fun w t => ?_)
    refine seps_mono (fun _ a => a) (fun _ t => seps_mono (fun _ a => a) (fun _ t => ?_) t) t
    exact pp_sat (s := s) (g := g) (r := r) rfl rfl rfl hg hr hs t
end Go.Proofs

set_option linter.all false
set_option synthInstance.maxSize 100000
set_option synthInstance.maxHeartbeats 400000
namespace Go.Proofs
open Go Go.SL
attribute [local irreducible] CCall CO CC CX CD

def offB (s : PSt) (n : Int) : Int := if n < s.next then 8 else if 16 ≤ n - s.next then 7 else if thas n s.kept then 6 else 0
def ackB (s : PSt) (n : Int) : Nat := if (s.acked : Int) < n ∧ n ≤ (s.said.length : Int) then n.toNat else s.acked
theorem ackB_int {s : PSt} {n : Int} : (if (s.acked : Int) < n ∧ n ≤ (s.said.length : Int) then n else (s.acked : Int)) = ((ackB s n : Nat) : Int) := by
  unfold ackB; split <;> omega
def hearM (kind fr to n : Int) (bs : List UInt8) (s : PSt) : Bool × Int × PSt :=
  if fr ≠ s.peer ∨ to ≠ s.self then (false, 5, s)
  else if kind = 2 then (false, 0, { s with acked := ackB s n })
  else if kind ≠ 1 then (false, 1, s)
  else (true, if offB s n = 7 then 7 else 0, if offB s n = 0 then { s with kept := tput n bs s.kept } else s)
def zeroP : Value := .agg #[.int .i64 0, .int .i64 0, .int .i64 0, .int .i64 0, .slice none 0 0]
theorem PHear_spec {L R K b s v} {kind fr to n : Int} {bs : List UInt8} [p : Pull (isPipe b) L s R] [rs : RdE R encB v bs] (hb : bs.length ≤ 1000000) (hk : s.kept.length ≤ 800000) (hs0 : s.said.length ≤ 900000) (hx : 0 ≤ s.next) (hn : n ≤ 9223372036854775807)
    (h0 : (hearM kind fr to n bs s).1 = false → Ht (isPipe b (hearM kind fr to n bs s).2.2 :: R) (K (.tuple #[zeroP, .bool false, .int .i64 (hearM kind fr to n bs s).2.1])))
    (h1 : (hearM kind fr to n bs s).1 = true → ∀ v', Ht (own encB 5 v' [] :: isPipe b (hearM kind fr to n bs s).2.2 :: R) (K (.tuple #[.agg #[.int .i64 2, .int .i64 s.self, .int .i64 s.peer, .int .i64 s.next, v'], .bool true, .int .i64 (hearM kind fr to n bs s).2.1]))) :
    Ht L (CCall Try.prog 91 [.pointer (some ⟨b, 0, none⟩), .agg #[.int .i64 kind, .int .i64 fr, .int .i64 to, .int .i64 n, v]] K) := by
  refine Ht.pull p ?_
  refine Ht.know (p := One1 v) (fun w t => one1_of (rs.h w t.tail)) (fun ho => ?_)
  refine pp_open fun tv kv g r hg hr hs hs' hgl hrl => ?_
  have hrs : ∀ (M : List HP) [fr : Frm M R], RdE M encB v bs := fun M fr => ⟨fun w t => rs.h w (fr.h _ _ t)⟩
  refine ccall2 Try.func91 rfl (by decide) Try.ntmps91 (by rfl) (by decide) ?_
  repeat (refine stp ?_)
  intro c
  repeat (refine stp ?_)
  intro y
  repeat (refine stp ?_)
  refine ht_draw Try.can91x3 Try.mixed (by kernel_rfl) ?_
  repeat (refine stp ?_)
  have hbad : (fr ≠ s.peer ∨ to ≠ s.self) → Ht (isPipe b s :: R) (K (.tuple #[zeroP, .bool false, .int .i64 5])) := fun hh => by
    have e : hearM kind fr to n bs s = (false, 5, s) := by unfold hearM; rw [if_pos hh]
    have h2 := h0 (by rw [e])
    rw [e] at h2; exact h2
  refine cd_guard (i := 8) rfl ?_ ?_ <;> intro hp <;> simp only [decide_eq_true_eq, decide_eq_false_iff_not] at hp
  · repeat (refine stp ?_)
    refine retctt rfl ?_
    exact pp_close (b := b) (s := s) (g := g) (r := r) (R' := R) rfl rfl rfl hg hr hs (hbad (.inl hp))
  repeat (refine stp ?_)
  refine ht_if ?_ ?_ <;> intro hq <;> simp only [decide_eq_true_eq, decide_eq_false_iff_not] at hq
  · repeat (refine stp ?_)
    refine retctt rfl ?_
    exact pp_close (b := b) (s := s) (g := g) (r := r) (R' := R) rfl rfl rfl hg hr hs (hbad (.inr hq))
  have hpq : ¬ (fr ≠ s.peer ∨ to ≠ s.self) := by rintro (hh | hh); exact hp hh; exact hq hh
  repeat (refine stp ?_)
  refine ht_if ?_ ?_ <;> intro hk2 <;> simp only [decide_eq_true_eq, decide_eq_false_iff_not] at hk2
  · have e : hearM kind fr to n bs s = (false, 0, { s with acked := ackB s n }) := by unfold hearM; rw [if_neg hpq, if_pos hk2]
    have h2 := h0 (by rw [e])
    rw [e] at h2
    repeat (refine stp ?_)
    refine ht_draw Try.can91x6 Try.mixed (by kernel_rfl) ?_
    repeat (refine stp ?_)
    refine wy_ack (l := gsv g) ?_
    rewrite [hgl, ackB_int]
    repeat (refine stp ?_)
    refine retctt rfl ?_
    exact pp_close (b := b) (s := { s with acked := ackB s n }) (g := g) (r := r) (R' := R) rfl rfl rfl hg hr hs h2
  repeat (refine stp ?_)
  refine ht_if ?_ ?_ <;> intro hk1 <;> simp only [decide_eq_true_eq, decide_eq_false_iff_not] at hk1
  · have e : hearM kind fr to n bs s = (false, 1, s) := by unfold hearM; rw [if_neg hpq, if_neg hk2, if_pos hk1]
    have h2 := h0 (by rw [e])
    rw [e] at h2
    repeat (refine stp ?_)
    refine retctt rfl ?_
    exact pp_close (b := b) (s := s) (g := g) (r := r) (R' := R) rfl rfl rfl hg hr hs h2
  have e : hearM kind fr to n bs s = (true, if offB s n = 7 then 7 else 0, if offB s n = 0 then { s with kept := tput n bs s.kept } else s) := by unfold hearM; rw [if_neg hpq, if_neg hk2, if_neg hk1]
  have h2 := h1 (by rw [e])
  rw [e] at h2
  repeat (refine stp ?_)
  refine ht_draw Try.can91x10 Try.mixed (by kernel_rfl) ?_
  repeat (refine stp ?_)
  refine yClone_spec (xs := bs) (by omega) ?_
  intro v1
  refine Ht.know (p := ∃ sv : SVy, v1 = svY sv) (fun w t => own_svY t) (fun ⟨sv, e⟩ => ?_)
  subst e
  refine Ht.one1 (v := svY sv) ?_
  intro _
  have hof : wy_offM s.next n (rvals r) = offB s n := by
    unfold wy_offM offB
    rw [show thas n (rvals r) = thas n s.kept from by rw [← hr]; exact (kthas_map (fun x : SB => x.1) n r).trans (kthas_map (fun x : SB => x.2) n r).symm]
  unfold svY
  repeat (refine stp ?_)
  refine wy_offer (x := sv) (xs := rvals r) hs' (by omega) hx hn ?_
  intro kv2
  rewrite [hof]
  repeat (refine stp ?_)
  refine Ht.conseq (L' := isPipe b (if offB s n = 0 then { s with kept := tput n bs s.kept } else s) :: pto y (cells [.int .i64 0, .int .i64 0, .int .i64 0, .int .i64 0, .slice none 0 0] 49) :: R) ?_ (fun w t => ?_)
  case refine_2 =>
    by_cases h00 : offB s n = 0
    · rw [if_pos h00] at t
      rw [if_pos h00]
      have t1 : Sat (rown (n, sv, bs) :: bigO rown r :: pto b (cells [.int .i64 s.self, .int .i64 s.peer, tv, .int .i64 s.acked, .int .i64 s.next, kv2] 239) :: own encY 23 tv (gsv g) :: bigO (ownY 5) g :: own enc_iy 173 kv2 (tput n sv (rvals r)) :: pto y (cells [.int .i64 0, .int .i64 0, .int .i64 0, .int .i64 0, .slice none 0 0] 49) :: R) w :=
        (inferInstance : Frm _ (own encB 5 (.slice sv.1 sv.2.1 sv.2.2) bs :: bigO rown r :: pto b (cells [.int .i64 s.self, .int .i64 s.peer, tv, .int .i64 s.acked, .int .i64 s.next, kv2] 239) :: own encY 23 tv (gsv g) :: bigO (ownY 5) g :: own enc_iy 173 kv2 (tput n sv (rvals r)) :: pto y (cells [.int .i64 0, .int .i64 0, .int .i64 0, .int .i64 0, .slice none 0 0] 49) :: R)).h _ _ t
      have t2 := bigK_put (F := rown) (k := n) (x := ((sv, bs) : SB)) t1
      exact pp_shut (s := { s with kept := tput n bs s.kept }) (tv := tv) (kv := kv2) (g := g) (r := tput n (sv, bs) r) rfl rfl (ktput_map (fun x : SB => x.1) n (sv, bs) r).symm hg (by rw [← hr]; exact ktput_map (fun x : SB => x.2) n (sv, bs) r) (tput_srt hs) t2
    · rw [if_neg h00] at t
      rw [if_neg h00]
      exact pp_shut (s := s) (tv := tv) (kv := kv2) (g := g) (r := r) rfl rfl rfl hg hr hs t
  have hs2 : (if offB s n = 0 then { s with kept := tput n bs s.kept } else s).self = s.self ∧ (if offB s n = 0 then { s with kept := tput n bs s.kept } else s).peer = s.peer ∧ (if offB s n = 0 then { s with kept := tput n bs s.kept } else s).next = s.next := by split <;> exact ⟨rfl, rfl, rfl⟩
  generalize (if offB s n = 0 then { s with kept := tput n bs s.kept } else s) = s2 at h2 hs2 ⊢
  rw [← hs2.1, ← hs2.2.1, ← hs2.2.2] at h2
  refine ht_if ?_ ?_ <;> intro hz <;> simp only [decide_eq_true_eq, decide_eq_false_iff_not, ne_eq, Classical.not_not] at hz
  · rw [if_neg hz] at h2
    repeat (refine stp ?_)
    refine ack_spec (b := b) (s := s2) ?_
    intro v2
    refine Ht.one1 (v := v2) ?_
    intro _
    repeat (refine stp ?_)
    exact retctt rfl (Ht.frm (h2 v2))
  · rw [if_pos hz] at h2
    rewrite [hz]
    repeat (refine stp ?_)
    refine ack_spec (b := b) (s := s2) ?_
    intro v2
    refine Ht.one1 (v := v2) ?_
    intro _
    repeat (refine stp ?_)
    exact retctt rfl (Ht.frm (h2 v2))
end Go.Proofs

set_option linter.all false
set_option synthInstance.maxSize 100000
set_option synthInstance.maxHeartbeats 400000
namespace Go.Proofs
open Go Go.SL
attribute [local irreducible] CCall CO CC CX CD

theorem rv_find {r : GR} {s : PSt} (hr : rbytes r = s.kept) (n : Int) : tfind n (rvals r) = (tfind n r).map (fun x => x.1) ∧ tfind n s.kept = (tfind n r).map (fun x => x.2) :=
  ⟨ktfind_map (fun x : SB => x.1) n r, by rw [← hr]; exact ktfind_map (fun x : SB => x.2) n r⟩
theorem rv_has {r : GR} {s : PSt} (hr : rbytes r = s.kept) (n : Int) : thas n (rvals r) = thas n s.kept := by
  rw [← hr]; exact (kthas_map (fun x : SB => x.1) n r).trans (kthas_map (fun x : SB => x.2) n r).symm
theorem row_rd {r : GR} {s : PSt} (hr : rbytes r = s.kept) (n : Int) : ∀ (M M' : List HP) [p : Pull (bigO rown) M r M'], RdE M encB (.slice ((tfind n (rvals r)).getD ((none, 0, 0) : SVy)).1 ((tfind n (rvals r)).getD ((none, 0, 0) : SVy)).2.1 ((tfind n (rvals r)).getD ((none, 0, 0) : SVy)).2.2) ((tfind n s.kept).getD []) := fun M M' p => ⟨fun w t => by
  obtain ⟨e1, e2⟩ := rv_find hr n
  rw [e1, e2]
  cases ht : tfind n r with
  | none => exact .inl ⟨rfl, rfl⟩
  | some y =>
    have hm : (n, y) ∈ r := List.mem_of_getElem? (tfind_some ht)
    obtain ⟨R', t2⟩ := bigO_at hm (p.h _ _ t)
    exact own_sat t2⟩
theorem PTake_spec {L R K b s} [p : Pull (isPipe b) L s R] (hk : s.kept.length ≤ 800000) (hx : 0 ≤ s.next ∧ s.next ≤ 9223372036854775000)
    (h0 : thas s.next s.kept = false → Ht (isPipe b s :: R) (K (.tuple #[zeroP, .bool false])))
    (h1 : thas s.next s.kept = true → ∀ v', Ht (own encB 5 v' [] :: isPipe b { s with kept := tdrop s.next s.kept, next := s.next + 1 } :: R) (K (.tuple #[.agg #[.int .i64 2, .int .i64 s.self, .int .i64 s.peer, .int .i64 (s.next + 1), v'], .bool true]))) :
    Ht L (CCall Try.prog 92 [.pointer (some ⟨b, 0, none⟩)] K) := by
  refine Ht.pull p (pp_open fun tv kv g r hg hr hs hs' hgl hrl => ?_)
  refine ccall1 Try.func92 rfl (by decide) Try.ntmps92 (by rfl) (by decide) ?_
  repeat (refine stp ?_)
  intro y
  repeat (refine stp ?_)
  refine wy_pop (xs := rvals r) hs' (by omega) hx ?_
  intro kv2
  rewrite [rv_has hr]
  repeat (refine stp ?_)
  have e1 : tdrop s.next (rvals r) = rvals (tdrop s.next r) := (ktdrop_map (fun x : SB => x.1) s.next r).symm
  have e2 : rbytes (tdrop s.next r) = tdrop s.next s.kept := by rw [← hr]; exact ktdrop_map (fun x : SB => x.2) s.next r
  refine ht_if ?_ ?_ <;> intro hh <;> simp only [Bool.not_eq_true', Bool.not_eq_false'] at hh
  · have e3 : tdrop s.next (rvals r) = rvals r := by unfold tdrop; rw [if_neg (by rw [rv_has hr, hh]; decide)]
    rewrite [e3, hh]
    repeat (refine stp ?_)
    refine retct rfl ?_
    exact pp_close (b := b) (s := s) (g := g) (r := r) (R' := R) rfl rfl rfl hg hr hs (h0 hh)
  · rewrite [e1, hh, if_pos rfl]
    refine Ht.conseq (L' := isPipe b { s with kept := tdrop s.next s.kept, next := s.next + 1 } :: pto y (cells [.int .i64 0, .int .i64 0, .int .i64 0, .int .i64 0, .slice none 0 0] 49) :: R) ?_ (fun w t => ?_)
    case refine_2 =>
      have t1 : Sat (bigO rown r :: pto b (cells [.int .i64 s.self, .int .i64 s.peer, tv, .int .i64 s.acked, .int .i64 (s.next + 1), kv2] 239) :: own encY 23 tv (gsv g) :: bigO (ownY 5) g :: own enc_iy 173 kv2 (rvals (tdrop s.next r)) :: pto y (cells [.int .i64 0, .int .i64 0, .int .i64 0, .int .i64 0, .slice none 0 0] 49) :: R) w := (inferInstance : Frm _ (bigO rown r :: pto b (cells [.int .i64 s.self, .int .i64 s.peer, tv, .int .i64 s.acked, .int .i64 (s.next + 1), kv2] 239) :: own encY 23 tv (gsv g) :: bigO (ownY 5) g :: own enc_iy 173 kv2 (rvals (tdrop s.next r)) :: pto y (cells [.int .i64 0, .int .i64 0, .int .i64 0, .int .i64 0, .slice none 0 0] 49) :: R)).h _ _ t
      exact pp_shut (s := { s with kept := tdrop s.next s.kept, next := s.next + 1 }) (tv := tv) (kv := kv2) (g := g) (r := tdrop s.next r) rfl rfl rfl hg e2 (tdrop_srt hs) (bigK_del (F := rown) (k := s.next) t1)
    repeat (refine stp ?_)
    refine ack_spec (b := b) (s := { s with kept := tdrop s.next s.kept, next := s.next + 1 }) ?_
    intro v2
    refine Ht.one1 (v := v2) ?_
    intro _
    repeat (refine stp ?_)
    exact retct rfl (Ht.frm (h1 hh v2))
end Go.Proofs

set_option linter.all false
set_option synthInstance.maxSize 100000
set_option synthInstance.maxHeartbeats 400000
namespace Go.Proofs
open Go Go.SL
attribute [local irreducible] CCall CO CC CX CD

theorem PSay_nil {L K} {v : Value} [o : One1 v] (h : Ht L (K (.int .i64 0))) : Ht L (CCall Try.prog 89 [.pointer none, v] K) := by
  refine ccall2 Try.func89 rfl (by decide) Try.ntmps89 (by rfl) (by decide) ?_
  repeat (refine stp ?_)
  exact ret1 rfl (Ht.frm h)
theorem PTick_nil {L K}  (h : Ht L (K (.slice none 0 0))) : Ht L (CCall Try.prog 90 [.pointer none] K) := by
  refine ccall1 Try.func90 rfl (by decide) Try.ntmps90 (by rfl) (by decide) ?_
  repeat (refine stp ?_)
  exact ret1 rfl (Ht.frm h)
theorem PWaiting_nil {L K}  (h : Ht L (K (.int .i64 0))) : Ht L (CCall Try.prog 93 [.pointer none] K) := by
  refine ccall1 Try.func93 rfl (by decide) Try.ntmps93 (by rfl) (by decide) ?_
  repeat (refine stp ?_)
  exact ret1 rfl (Ht.frm h)
theorem PTaken_nil {L K}  (h : Ht L (K (.int .i64 0))) : Ht L (CCall Try.prog 94 [.pointer none] K) := by
  refine ccall1 Try.func94 rfl (by decide) Try.ntmps94 (by rfl) (by decide) ?_
  repeat (refine stp ?_)
  exact ret1 rfl (Ht.frm h)
theorem PTake_nil {L K}  (h : Ht L (K (.tuple #[zeroP, .bool false]))) : Ht L (CCall Try.prog 92 [.pointer none] K) := by
  refine ccall1 Try.func92 rfl (by decide) Try.ntmps92 (by rfl) (by decide) ?_
  repeat (refine stp ?_)
  intro y
  repeat (refine stp ?_)
  exact retct rfl (Ht.frm h)
theorem PHear_nil {L K} {v : Value} {kind fr to n : Int} [o : One1 v] (h : Ht L (K (.tuple #[zeroP, .bool false, .int .i64 10]))) : Ht L (CCall Try.prog 91 [.pointer none, .agg #[.int .i64 kind, .int .i64 fr, .int .i64 to, .int .i64 n, v]] K) := by
  refine ccall2 Try.func91 rfl (by decide) Try.ntmps91 (by rfl) (by decide) ?_
  repeat (refine stp ?_)
  intro c
  repeat (refine stp ?_)
  intro y
  repeat (refine stp ?_)
  exact retctt rfl (Ht.frm h)
theorem ytake_min {xs : List UInt8} {m : Nat} : xs.take (min xs.length m) = xs.take m := by
  by_cases h : xs.length ≤ m
  · rw [Nat.min_eq_left h, List.take_length, List.take_of_length_le h]
  · rw [Nat.min_eq_right (by omega)]
theorem To_spec {L K} {kind fr to n : Int} {sa : Option Addr} {sl sc : Nat} {bs : List UInt8} [rs : RdE L encB (.slice sa sl sc) bs]
    (h : ∀ sv : SVy, RdE L encB (svY sv) (bs.take 100) → Ht L (K (.agg #[.int .i64 kind, .int .i64 fr, .int .i64 to, .int .i64 n, svY sv]))) :
    Ht L (CCall Try.prog 24 [.agg #[.int .i64 kind, .int .i64 fr, .int .i64 to, .int .i64 n, .slice sa sl sc]] K) := by
  refine Ht.know (p := sl = bs.length ∧ bs.length ≤ 9223372036854775807) (fun w s => ?_) (fun ⟨e, hbl⟩ => ?_)
  · have hh := rs.h w s
    obtain ⟨a, c, hv, _, _⟩ := sliceIn_of hh
    cases hv
    exact ⟨rfl, hh.le⟩
  subst e
  haveI := rs.toS
  have hrs : ∀ (M : List HP) [fr : Frm M L], RdS M (.slice sa bs.length sc) encB bs := fun M fr => ⟨fun w t => (rs.h w (fr.h _ _ t))⟩
  refine ccall1 Try.func24 rfl (by decide) Try.ntmps24 (by rfl) (by decide) ?_
  repeat (refine stp ?_)
  intro c
  repeat (refine stp ?_)
  intro y
  repeat (refine stp ?_)
  refine ht_draw Try.can24x1 Try.mixed (by kernel_rfl) ?_
  repeat (refine stp ?_)
  rewrite [show (if (100 : Int) < bs.length then 100 else (bs.length : Int)) = ((min bs.length 100 : Nat) : Int) from by split <;> omega]
  refine cd_slice (xs := bs) (by omega) ?_
  intro hsl _
  have rs2 : ∀ w, Sat L w → SlIn w (slSub (Value.slice sa bs.length sc) 1 0 (min bs.length 100)) encB (bs.take 100) := fun w s => by
    have := slSub_in (rs.h w s) (lo := 0) (hi := min bs.length 100) ⟨by omega, by omega⟩
    rw [List.drop_zero, ytake_min] at this
    exact this
  refine Ht.know (p := ∃ sv : SVy, slSub (Value.slice sa bs.length sc) 1 0 (min bs.length 100) = svY sv) (fun w s => ?_) (fun ⟨sv, e⟩ => ?_)
  · obtain ⟨a, c, hv, _, _⟩ := sliceIn_of (rs2 w s.tail.tail)
    exact ⟨(a, _, c), hv⟩
  rewrite [e]
  repeat (refine stp ?_)
  rw [e] at rs2
  exact retc rfl (Ht.frm (h sv ⟨rs2⟩))
theorem known15_spec {L K} (h : Ht L (K (.bool true))) : Ht L (CCall Try.prog 29 [] K) := by
  refine ccall0 Try.func29 rfl (by decide) Try.ntmps29 (by rfl) (by decide) ?_
  repeat (refine stp ?_)
  refine PNew_spec (fun hh => by simp [pairM] at hh) (fun _ a => ?_)
  repeat (refine stp ?_)
  refine PNew_spec (fun hh => by simp [pairM] at hh) (fun _ b => ?_)
  repeat (refine stp ?_)
  intro c1
  repeat (refine stp ?_)
  refine co_constBytes [120] ?_ ?_
  · rfl
  repeat (refine stp ?_)
  intro c2
  repeat (refine stp ?_)
  refine Ht.own_lit encY (b := c2) (n := 1) (xs := [(some ⟨c1, 0, none⟩, 1, 1)]) rfl rfl (by decide) ?_
  refine PSay_spec (b := a) (s := ⟨0, 1, [], 0, 0, []⟩) (ms := [((some ⟨c1, 0, none⟩, 1, 1), [120])]) ?_ (by simp) (fun x hx => by rw [List.mem_singleton.1 hx]; simp) ?_
  · intro x hx
    rw [List.mem_singleton.1 hx]
    show RdE _ encB (.slice (some ⟨c1, 0, none⟩) 1 1) [120]
    infer_instance
  dsimp only
  rewrite [show ([] : List (List UInt8)) ++ gby [((some ⟨c1, 0, none⟩, 1, 1), [120])] = [[120]] from rfl]
  repeat (refine stp ?_)

  repeat (refine stp ?_)
  refine PTick_spec (b := a) (s := ⟨0, 1, [[120]], 0, 0, []⟩) (by simp) (by simp) (fun x hx => by simp at hx; subst hx; simp) ?_
  intro tv l hl
  refine Ht.one1 (v := tv) ?_
  intro _
  obtain ⟨x, rfl, hx⟩ : ∃ x : SB, l = [x] ∧ x.2 = [120] := by
    have h1 : gby l = [[120]] := hl
    match l, h1 with
    | [x], h1 => exact ⟨x, rfl, by simpa [gby] using h1⟩
    | [], h1 => simp [gby] at h1
    | _ :: _ :: _, h1 => simp [gby] at h1
  rewrite [show (pkA 0 1 ((0 : Nat) : Int) [x]) = [(1, 0, 1, 0, x.1)] from rfl]
  repeat (refine stp ?_)
  refine ht_if ?_ ?_ <;> intro hz2
  · exact absurd hz2 (by simp)
  repeat (refine stp ?_)
  refine co_index (xs := [(1, 0, 1, 0, x.1)]) (by simp) ?_
  intro hb
  repeat (refine stp ?_)
  rewrite [show ([(1, 0, 1, 0, x.1)] : List P5)[0]! = (1, 0, 1, 0, x.1) from rfl]
  have hmx : ∀ (M M' : List HP) [q : Pull (bigO (ownY 5)) M [x] M'], RdE M encB (.slice x.1.1 x.1.2.1 x.1.2.2) [120] := fun M M' q => ⟨fun w t => by rw [← hx]; exact bigY_at (List.mem_singleton.2 rfl) (q.h _ _ t)⟩
  have e1 : hearM 1 0 1 0 [120] ⟨1, 0, [], 0, 0, []⟩ = (true, 0, ⟨1, 0, [], 0, 0, [(0, [120])]⟩) := by rfl
  refine PHear_spec (b := b) (s := ⟨1, 0, [], 0, 0, []⟩) (bs := [120]) (by simp) (by simp) (by simp) (by simp) (by simp) (fun hh => by rw [e1] at hh; cases hh) (fun _ y1 => ?_)
  refine Ht.one1 (v := y1) ?_
  intro _
  rewrite [e1]
  dsimp only
  repeat (refine stp ?_)
  intro c3
  repeat (refine stp ?_)
  refine PTake_spec (b := b) (s := ⟨1, 0, [], 0, 0, [(0, [120])]⟩) (by simp) (by simp) (fun hh => absurd hh (by decide)) (fun _ y2 => ?_)
  refine Ht.know (p := ∃ sv : SVy, y2 = svY sv) (fun w t => own_svY t) (fun ⟨sv2, e⟩ => ?_)
  subst e
  refine Ht.one1 (v := svY sv2) ?_
  intro _
  dsimp only
  rewrite [show tdrop (0 : Int) [((0 : Int), [(120 : UInt8)])] = [] from rfl, show ((0 : Int) + 1) = 1 from rfl]
  repeat (refine stp ?_)
  intro c4
  repeat (refine stp ?_)
  have e2 : hearM 2 1 0 1 [] ⟨0, 1, [[120]], 0, 0, []⟩ = (false, 0, ⟨0, 1, [[120]], 1, 0, []⟩) := by rfl
  refine PHear_spec (b := a) (s := ⟨0, 1, [[120]], 0, 0, []⟩) (bs := []) (by simp) (by simp) (by simp) (by simp) (by simp) (fun _ => ?_) (fun hh => by rw [e2] at hh; cases hh)
  rewrite [e2]
  dsimp only
  unfold zeroP
  repeat (refine stp ?_)
  intro c5
  repeat (refine stp ?_)
  refine PWaiting_spec (b := a) (s := ⟨0, 1, [[120]], 1, 0, []⟩) ?_
  dsimp only
  rewrite [show IntKind.i64.wrap ((([[120]] : List (List UInt8)).length : Int) - ((1 : Nat) : Int)) = 0 from by decide]
  repeat (refine stp ?_)
  refine PTaken_spec (b := b) (s := ⟨1, 0, [], 0, 1, []⟩) ?_
  dsimp only
  repeat (refine stp ?_)
  exact ret1 rfl (Ht.frm h)
end Go.Proofs

set_option linter.all false
set_option synthInstance.maxSize 100000
set_option synthInstance.maxHeartbeats 400000
namespace Go.Proofs
open Go Go.SL
attribute [local irreducible] CCall CO CC CX CD

theorem To15_spec {L K} {sa : Option Addr} {sc : Nat} {k f t n : Int} {bs : List UInt8} [rs : RdE L encB (.slice sa bs.length sc) bs]
    (h : ∀ v', One1 v' → SubOf (.slice sa bs.length sc) bs v' (bs.take 100) → Ht L (K (.agg #[.int .i64 k, .int .i64 f, .int .i64 t, .int .i64 n, v']))) :
    Ht L (CCall Try.prog 24 [.agg #[.int .i64 k, .int .i64 f, .int .i64 t, .int .i64 n, .slice sa bs.length sc]] K) := by
  have hrs : ∀ (M : List HP) [fr : Frm M L], RdS M (.slice sa bs.length sc) encB bs := fun M fr => ⟨fun w t => (rs.h w (fr.h _ _ t))⟩
  refine Ht.know (p := bs.length ≤ 9223372036854775807) (fun w s => (rs.h w s).le) (fun hbl => ?_)
  refine ccall1 Try.func24 rfl (by decide) Try.ntmps24 (by rfl) (by decide) ?_
  repeat (refine stp ?_)
  intro c
  repeat (refine stp ?_)
  intro rc
  repeat (refine stp ?_)
  refine ht_draw Try.can24x1 Try.mixed (by kernel_rfl) ?_
  repeat (refine stp ?_)
  rewrite [show (if (100 : Int) < bs.length then 100 else (bs.length : Int)) = ((min bs.length 100 : Nat) : Int) from by split <;> omega]
  refine cd_slice (xs := bs) (by omega) ?_
  intro hs0 hs1
  have hb1 : SubOf (.slice sa bs.length sc) bs (slSub (.slice sa bs.length sc) 1 0 (min bs.length 100)) (bs.take 100) := fun w t => by
    have := slSub_in t (lo := 0) (hi := min bs.length 100) ⟨by omega, by omega⟩
    rw [List.drop_zero, stake_min] at this
    exact this
  haveI ob : One1 (slSub (.slice sa bs.length sc) 1 0 (min bs.length 100)) := ⟨rfl⟩
  generalize slSub (.slice sa bs.length sc) 1 0 (min bs.length 100) = bv at hb1 ob ⊢
  repeat (refine stp ?_)
  exact retc rfl (Ht.frm (h bv ob hb1))
theorem Of15_spec {L K v} [o : One1 v] {k f t n : Int} 
    (h : Ht L (K (.agg #[.int .i64 k, .int .i64 f, .int .i64 t, .int .i64 n, v]))) :
    Ht L (CCall Try.prog 25 [.agg #[.int .i64 k, .int .i64 f, .int .i64 t, .int .i64 n, v]] K) := by
  refine ccall1 Try.func25 rfl (by decide) Try.ntmps25 (by rfl) (by decide) ?_
  repeat (refine stp ?_)
  intro c
  repeat (refine stp ?_)
  intro rc
  repeat (refine stp ?_)
  exact retc rfl (Ht.frm h)
theorem Same15_spec {L K v u} {k f t n : Int} {bs cs : List UInt8} [r1 : RdE L encB v bs] [r2 : RdE L encB u cs] (e : bs = cs) (h : Ht L (K (.bool true))) :
    Ht L (CCall Try.prog 31 [.agg #[.int .i64 k, .int .i64 f, .int .i64 t, .int .i64 n, v], .agg #[.int .i64 k, .int .i64 f, .int .i64 t, .int .i64 n, u]] K) := by
  have hr1 : ∀ (M : List HP) [fr : Frm M L], RdE M encB v bs := fun M fr => ⟨fun w t => (r1.h w (fr.h _ _ t))⟩
  have hr2 : ∀ (M : List HP) [fr : Frm M L], RdE M encB u cs := fun M fr => ⟨fun w t => (r2.h w (fr.h _ _ t))⟩
  refine Ht.know (p := One1 v ∧ One1 u) (fun w t => ⟨one1_of (r1.h w t), one1_of (r2.h w t)⟩) (fun ⟨o1, o2⟩ => ?_)
  refine ccall2 Try.func31 rfl (by decide) Try.ntmps31 (by rfl) (by decide) ?_
  repeat (refine stp ?_)
  intro c
  repeat (refine stp ?_)
  intro c2
  repeat (refine stp ?_)
  rewrite [show decide (k = k) = true from decide_eq_true rfl]
  repeat (refine stp ?_)
  rewrite [show decide (f = f) = true from decide_eq_true rfl]
  repeat (refine stp ?_)
  rewrite [show decide (t = t) = true from decide_eq_true rfl]
  repeat (refine stp ?_)
  rewrite [show decide (n = n) = true from decide_eq_true rfl]
  repeat (refine stp ?_)
  refine ySame_spec' e ?_
  repeat (refine stp ?_)
  exact ret1 rfl (Ht.frm h)
theorem u8lit {k : Int} (h0 : 0 ≤ k) (h1 : k < 256) : ((UInt8.ofInt k).toNat : Int) = k := by
  have := u8_wrap_ofInt k
  rw [← this]
  unfold IntKind.wrap; simp [IntKind.signed, IntKind.bits]; omega
theorem pkD_enc {k f t n : Int} {bs : List UInt8} (hl : bs.length ≤ 100) (hc : pkC k f t n bs.length = 0) : pkD (makeF (pkB k f t n bs)) = (0, k, f, t, n, bs) := by
  have hbad : pkBad k n bs.length = false := by
    unfold pkC at hc
    cases hb : pkBad k n bs.length
    · rfl
    · rw [hb, if_pos rfl] at hc; cases hc
  have hp : pairM f t = true := by
    unfold pkC at hc
    rw [hbad, if_neg (by decide)] at hc
    cases hb : pairM f t
    · rw [hb, if_neg (by decide)] at hc; cases hc
    · rfl
  unfold pkBad at hbad
  simp only [Bool.or_eq_false_iff, decide_eq_false_iff_not, Bool.and_eq_false_imp, decide_eq_true_eq] at hbad
  have hp2 := hp
  unfold pairM at hp2
  simp only [Bool.and_eq_true, decide_eq_true_eq] at hp2
  obtain ⟨_, ho, hb⟩ := open_make (b := pkB k f t n bs) (by have := @pkB_len k f t n bs hl; omega)
  unfold pkD
  rw [if_neg (by simp [ho]), hb]
  have e1 : ∀ (c : UInt8) (r : List UInt8), byteM 0 (c :: r) = (0, c, 1) := fun c r => by
    unfold byteM; rw [if_neg (by decide), if_neg (by simp)]; rfl
  have hcn : ∀ r, countM 0 (sevensM (UInt64.ofInt n) 10 ++ r) 1099511627776 = (0, n, (sevensM (UInt64.ofInt n) 10).length) := fun r => count_of (by omega) (by omega) (by omega)
  have hB : pkB k f t n bs = UInt8.ofInt k :: UInt8.ofInt f :: UInt8.ofInt t :: (sevensM (UInt64.ofInt n) 10 ++ (if k = 1 then sevensM (UInt64.ofInt (bs.length : Int)) 10 ++ bs else [])) := by
    unfold pkB; simp
  rw [hB]
  unfold pkK
  rw [e1]
  dsimp only
  unfold pkF
  rw [List.drop_one, List.tail_cons, e1]
  dsimp only
  unfold pkT
  rw [List.drop_one, List.tail_cons, e1]
  dsimp only
  unfold pkN
  rw [List.drop_one, List.tail_cons, hcn]
  dsimp only
  rw [List.drop_left' rfl, u8lit (by omega) (by omega), u8lit (by omega) (by omega), u8lit (by omega) (by omega)]
  by_cases hk1 : k = 1
  · rw [if_pos hk1]
    unfold pkS
    have ht : textM 0 (sevensM (UInt64.ofInt (bs.length : Int)) 10 ++ bs) 1048576 = (0, bs, (sevensM (UInt64.ofInt (bs.length : Int)) 10).length + bs.length) := by
      have := text_of (t := bs) (most := 1048576) (rest := []) (by omega) (by omega)
      rw [List.append_nil] at this
      exact this
    rw [if_pos hk1, ht]
    dsimp only
    unfold pkR
    rw [if_neg (by simp), if_neg (by simp [List.drop_eq_nil_of_le]), if_pos hp]
  · have hk2 : k = 2 := by omega
    have hbs : bs = [] := List.eq_nil_of_length_eq_zero (by have := hbad.2 hk2; omega)
    rw [if_neg hk1]
    unfold pkS
    rw [if_neg hk1, if_pos hk2]
    unfold pkR
    rw [if_neg (by simp), if_neg (by simp), if_pos hp, hbs]
theorem Encode15_any {L K v} {k f t n : Int} {bs : List UInt8} [rs : RdE L encB v bs] (hl : bs.length ≤ 100)
    (h : ∀ cv cl, One1 cv → (pkC k f t n bs.length ≠ 0 → cl = []) → (pkC k f t n bs.length = 0 → cl = makeF (pkB k f t n bs)) → Ht (own encB 5 cv cl :: L) (K (.tuple #[cv, .int .i64 (pkC k f t n bs.length)]))) :
    Ht L (CCall Try.prog 26 [.agg #[.int .i64 k, .int .i64 f, .int .i64 t, .int .i64 n, v]] K) := by
  refine Encode15_spec (bs := bs) hl (fun hc => ?_) (fun hc v1 => ?_)
  · exact Ht.conseq (h (.slice none 0 0) [] ⟨rfl⟩ (fun _ => rfl) (fun e => absurd e hc)) (fun w t => own_nil.2 t)
  · refine Ht.one1 (v := v1) ?_
    intro o
    have := h v1 (makeF (pkB k f t n bs)) o (fun e => absurd hc e) (fun _ => rfl)
    rw [hc] at this
    exact this
theorem PipeBytes_spec {L K} {sa ba : Option Addr} {sc bl bc : Nat} {k f t n : Int} {ps bs : List UInt8} [rp : RdE L encB (.slice sa ps.length sc) ps] [rb : RdE L encB (.slice ba bl bc) bs] (h : Ht L (K (.bool true))) :
    Ht L (CCall Try.prog 6 [.agg #[.int .i64 k, .int .i64 f, .int .i64 t, .int .i64 n, .slice sa ps.length sc], .slice ba bl bc] K) := by
  refine Ht.know (p := bl = bs.length ∧ bs.length ≤ 9223372036854775807) (fun w s => ?_) (fun ⟨e, hbl⟩ => ?_)
  · have hh := rb.h w s
    obtain ⟨a, c, hv, _, _⟩ := sliceIn_of hh
    cases hv
    exact ⟨rfl, hh.le⟩
  subst e
  have hrb : ∀ (M : List HP) [fr : Frm M L], RdS M (.slice ba bs.length bc) encB bs := fun M fr => ⟨fun w t => (rb.h w (fr.h _ _ t))⟩
  have hrp : ∀ (M : List HP) [fr : Frm M L], RdE M encB (.slice sa ps.length sc) ps := fun M fr => ⟨fun w t => (rp.h w (fr.h _ _ t))⟩
  refine ccall2 Try.func6 rfl (by decide) Try.ntmps6 (by rfl) (by decide) ?_
  repeat (refine stp ?_)
  intro c0
  repeat (refine stp ?_)
  refine To15_spec (bs := ps) fun xv ox hx => ?_
  have hrx : ∀ (M : List HP) [fr : Frm M L], RdE M encB xv (ps.take 100) := fun M fr => hx.rd (hrp M)
  have hxl : (ps.take 100).length ≤ 100 := by rw [List.length_take]; omega
  generalize ps.take 100 = xs at hrx hxl hx
  repeat (refine stp ?_)
  intro cx
  repeat (refine stp ?_)
  refine Of15_spec ?_
  repeat (refine stp ?_)
  intro cy
  repeat (refine stp ?_)
  rewrite [show (if (300 : Int) < bs.length then 300 else (bs.length : Int)) = ((min bs.length 300 : Nat) : Int) from by split <;> omega]
  refine co_slice (xs := bs) (by omega) ?_
  intro hs0
  have hb1 : ∀ (M : List HP) [fr : Frm M L], RdE M encB (slSub (.slice ba bs.length bc) 1 0 (min bs.length 300)) (bs.take 300) := fun M fr => ⟨fun w t => by
    have := slSub_in (rb.h w (fr.h _ _ t)) (lo := 0) (hi := min bs.length 300) ⟨by omega, by omega⟩
    rw [List.drop_zero, stake_min] at this
    exact this⟩
  haveI ob : One1 (slSub (.slice ba bs.length bc) 1 0 (min bs.length 300)) := ⟨rfl⟩
  generalize slSub (.slice ba bs.length bc) 1 0 (min bs.length 300) = bv at hb1 ob ⊢
  generalize bs.take 300 = b at hb1
  repeat (refine stp ?_)
  have hC : pkC k f t n xs.length = 0 ∨ pkC k f t n xs.length ≠ 0 := by omega
  refine Encode15_any (bs := xs) hxl fun cv cl ocv hc1 hc2 => ?_
  repeat (refine stp ?_)
  refine Decode15_spec (bs := b) fun zu ozu => ?_
  repeat (refine stp ?_)
  intro cz
  repeat (refine stp ?_)
  refine RDecode15_spec (bs := b) fun wu owu => ?_
  repeat (refine stp ?_)
  intro cw
  obtain ⟨pe, pk, pf, pt, pn, ps2⟩ := pkD b
  dsimp only
  have hne : ∀ x : Int, decide (x ≠ x) = false := fun x => by simp
  repeat (refine stp ?_)
  refine ht_draw Try.can6x7 Try.mixed (by kernel_rfl) ?_
  repeat (refine stp ?_)
  refine known15_spec ?_
  repeat (refine stp ?_)
  refine Check15_spec (bs := xs) ?_
  repeat (refine stp ?_)
  rewrite [hne]
  repeat (refine stp ?_)
  rewrite [hne]
  repeat (refine stp ?_)
  refine Of15_spec ?_
  repeat (refine stp ?_)
  refine Same15_spec (bs := ps2) (cs := ps2) rfl ?_
  repeat (refine stp ?_)
  refine ht_if ?_ ?_ <;> intro hC <;> simp only [decide_eq_true_eq, decide_eq_false_iff_not, ne_eq, Classical.not_not] at hC
  · have hcl := hc1 hC
    subst hcl
    repeat (refine stp ?_)
    exact ret1 rfl (Ht.frm h)
  · have hcl := hc2 hC
    subst hcl
    have hrt := pkD_enc (bs := xs) hxl hC
    have hn : 0 ≤ n ∧ n ≤ 1099511627776 := by
      unfold pkC at hC
      cases hb : pkBad k n xs.length
      · unfold pkBad at hb
        simp only [Bool.or_eq_false_iff, decide_eq_false_iff_not] at hb
        omega
      · rw [hb, if_pos rfl] at hC; cases hC
    repeat (refine stp ?_)
    refine Decode15_spec (bs := makeF (pkB k f t n xs)) fun bu obu => ?_
    rewrite [hrt]
    dsimp only
    repeat (refine stp ?_)
    intro cb
    repeat (refine stp ?_)
    refine ht_draw Try.can6x12 Try.mixed (by kernel_rfl) ?_
    repeat (refine stp ?_)
    refine REncode15_spec (bs := xs) hxl hn.1 hn.2 fun rv => ?_
    refine Ht.one1 (v := rv) ?_
    intro _
    repeat (refine stp ?_)
    refine ySame_spec' (xs := makeF (pkB k f t n xs)) (ys := makeF (pkB k f t n xs)) rfl ?_
    repeat (refine stp ?_)
    refine Of15_spec ?_
    repeat (refine stp ?_)
    refine Same15_spec (bs := xs) (cs := xs) rfl ?_
    repeat (refine stp ?_)
    exact ret1 rfl (Ht.frm h)
end Go.Proofs

set_option linter.all false
set_option synthInstance.maxSize 100000
set_option synthInstance.maxHeartbeats 400000
namespace Go.Proofs
open Go Go.SL
theorem dUB : Dec Try.prog 5 encB.f okB := dec_byteS Try.underlying5
theorem PipeBytes_walk {w : World} {v1 : Value} {a : PkA} {bs : List UInt8} {K} (ha : okPk w a) [r1 : RoIn w v1 encB bs]
    (h : Ht [ro w] (K (.bool true))) : Ht [ro w] (CCall Try.prog 6 [.agg (encPk.f a).toArray, v1] K) := by
  obtain ⟨k, f, t, n, ⟨sa, sl, sc⟩, ps⟩ := a
  have hl := slIn_len ha.2
  dsimp only at hl
  subst hl
  obtain ⟨b, c, hv, _, _⟩ := sliceIn_of r1.h
  subst hv
  haveI : RdE [ro w] encB (.slice sa ps.length sc) ps := ⟨fun w' s => SlIn.mono ha.2 (ro_le s)⟩
  haveI : RdE [ro w] encB (.slice b bs.length c) bs := ⟨fun w' s => SlIn.mono r1.h (ro_le s)⟩
  exact PipeBytes_spec (ps := ps) (bs := bs) h
end Go.Proofs
