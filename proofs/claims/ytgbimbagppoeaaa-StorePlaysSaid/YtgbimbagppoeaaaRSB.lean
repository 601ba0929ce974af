import Derived.Test.YtgbimbagppoeaaaB0f7ce397
set_option linter.all false
set_option synthInstance.maxSize 100000
set_option synthInstance.maxHeartbeats 400000
namespace Go.Proofs
open Go Go.SL
attribute [local irreducible] CCall CO CC CX CD

theorem grow_room {name : ByteArray} : ∀ {xs : List UInt8} {s : St}, (growM name xs s).2.room = s.room
  | [], s => rfl
  | c :: cs, s => by
    simp only [growM]
    split
    · rw [grow_room]
    · rfl
theorem append_room {name : ByteArray} {xs : List UInt8} {s : St} : (appendM name xs s).2.room = s.room := by
  unfold appendM
  split
  · rfl
  split
  · rfl
  rw [grow_room]
  split <;> rfl
theorem write_room {name : ByteArray} {xs : List UInt8} {s : St} : (writeM name xs s).2.room = s.room := by
  unfold writeM
  split
  · rfl
  split
  · rfl
  split
  · rw [grow_room]
  · rfl
theorem cut_room {name : ByteArray} {n : Int} {s : St} : (cutM name n s).2.room = s.room := by
  unfold cutM
  split
  · rfl
  split
  · rfl
  split <;> rfl
theorem rename_room {a b : ByteArray} {s : St} : (renameM a b s).2.room = s.room := by
  unfold renameM
  split
  · rfl
  split <;> rfl
theorem drop_room : ∀ {ns : List ByteArray} {s : St}, (dropM ns s).2.room = s.room
  | [], s => rfl
  | n :: ns, s => by
    simp only [dropM]
    split
    · rfl
    split
    · rw [drop_room]; rfl
    · rfl
theorem drop_left : ∀ {ns : List ByteArray} {s : St}, (dropM ns s).2.left ≤ s.left
  | [], s => Int.le_refl _
  | n :: ns, s => by
    simp only [dropM]
    split
    · exact Int.le_refl _
    split
    · exact Int.le_trans (drop_left (ns := ns) (s := { usedS s with files := mdel s.files n })) useP_le
    · exact useP_le
theorem drop_two {a b : ByteArray} {s : St} : dropM [a, b] s = if (dropM [a] s).1 = 0 then dropM [b] (dropM [a] s).2 else dropM [a] s := by
  simp only [dropM]
  by_cases h1 : thereM s a [] = 0
  · by_cases h2 : (useP s.left s.down).1 = true
    · simp [h1, h2]
    · simp [h1, h2]
  · simp [h1]
theorem StorePlays_spec {L K v} {p0 : Int} {l : List A10} [rs : RdS L v encA10 l] (hok : ∀ a ∈ l, okAct L a) (h : Ht L (K (.bool true))) : Ht L (CCall Try.prog 10 [.int .i64 p0, v] K) := by
  haveI : NZ 9 := ⟨by decide⟩
  haveI : NZ 200 := ⟨by decide⟩
  obtain ⟨g, hg, hg20⟩ := modw p0 (n := 200) (by decide) (by decide)
  refine ccall2 Try.func10 rfl (by decide) Try.ntmps10 (by rfl) (by decide) ?_
  repeat (refine stp ?_)
  rewrite [show ((200 : Nat) : Int) = 200 from rfl] at hg
  rewrite [hg]
  refine New_spec (fun hh => by omega) (fun _ _ a => ?_)
  repeat (refine stp ?_)
  intro bd
  repeat (refine stp ?_)
  refine Ht.conseq (L' := isRef bd ⟨-1, false, (g : Int), []⟩ :: isStore a ⟨-1, false, (g : Int), []⟩ :: L) ?_ (fun w s => ?_)
  case refine_2 =>
    have s2 := (bigO_nil (f := gown)).2 s
    have s1 : Sat (pto bd (cells [.slice none 0 0, .int .i64 (g : Int), .int .i64 (-1), .bool false] 157) :: own encFl 273 (.slice none 0 0) (gvals []) :: bigO gown [] :: isStore a ⟨-1, false, (g : Int), []⟩ :: L) w := by
      exact (inferInstance : Frm (own encFl 273 (.slice none 0 0) (gvals []) :: bigO gown [] :: pto bd (cells [.slice none 0 0, .int .i64 (g : Int), .int .i64 (-1), .bool false] 157) :: isStore a ⟨-1, false, (g : Int), []⟩ :: L) (pto bd (cells [.slice none 0 0, .int .i64 (g : Int), .int .i64 (-1), .bool false] 157) :: own encFl 273 (.slice none 0 0) (gvals []) :: bigO gown [] :: isStore a ⟨-1, false, (g : Int), []⟩ :: L)).h _ _ (own_nil.2 s2)
    exact rf_shut (D := ⟨-1, false, (g : Int), []⟩) (lv := .slice none 0 0) (g := []) rfl rfl rfl .nil s1
  refine ht_cutd (.exit 0) (ι := Nat × St × St) (fun x => True) (fun x => isRef bd x.2.2 :: isStore x.1 x.2.1 :: L) (fun x => [(4, .bool false)]) ?_ ?_
  · intro Q' hQ
    refine ht_for (min l.length 60) (fun i (x : Nat × St × St) => Rs x.2.1 x.2.2 ∧ x.2.1.room = (g : Int) ∧ x.2.1.files.length ≤ 61 * i) (fun _ x => isRef bd x.2.2 :: isStore x.1 x.2.1 :: L) (fun i x => [(8, .int .i64 i), (5, .pointer (some ⟨x.1, 0, none⟩))]) (a, ⟨-1, false, (g : Int), []⟩, ⟨-1, false, (g : Int), []⟩) [8, 5, 34, 33, 32, 31, 30, 29, 28, 27, 26, 6, 25, 24, 21, 23, 22, 20, 19, 18, 17] ⟨⟨Rl.refl (by simp [Kn]), .nil⟩, rfl, by simp⟩ (fun w s => s) inferInstance ?_
    intro i ⟨a, S, D⟩ hi ⟨hRs, hroom, hlen⟩
    dsimp only [List.cons_append, List.nil_append] at hRs hroom hlen ⊢
    haveI : RdS (isRef bd D :: isStore a S :: L) v encA10 l := ⟨fun w s => rs.h w s.tail.tail⟩
    repeat (refine stp ?_)
    refine ht_guard ?_ ?_ <;> intro h0 <;> simp only [decide_eq_true_eq, decide_eq_false_iff_not] at h0
    · repeat (refine stp ?_)
      refine ht_if ?_ ?_ <;> intro h3 <;> simp only [decide_eq_true_eq, decide_eq_false_iff_not] at h3
      · have hii : i < l.length := by omega
        obtain ⟨hr, hN⟩ : okAct L l[i]! := (hok _ (List.mem_of_getElem? (getB hii)))
        repeat (refine stp ?_)
        refine co_index (by omega) ?_
        intro hb
        repeat (refine stp ?_)
        generalize l[i]! = ac at hr hN ⊢
        obtain ⟨k, n, n1, n2, ⟨sa, sl, sc⟩, bs⟩ := ac
        dsimp only [svV] at hr hN ⊢
        intro c
        repeat (refine stp ?_)
        refine Ht.know (p := sl = bs.length ∧ bs.length ≤ 9223372036854775807) (fun w s => ?_) (fun ⟨e, hbl⟩ => ?_)
        · have hh := hr.h w s.tail.tail.tail
          obtain ⟨a, c, hv, _, _⟩ := sliceIn_of hh
          cases hv
          exact ⟨rfl, hh.le⟩
        subst e
        haveI := hr.toS
        rewrite [show (if (60 : Int) < bs.length then 60 else (bs.length : Int)) = ((min bs.length 60 : Nat) : Int) from by split <;> omega]
        refine co_slice (xs := bs) (by omega) ?_
        intro hsl
        haveI rs2 : RdE L encB (slSub (Value.slice sa bs.length sc) 1 0 (min bs.length 60)) (bs.take 60) := ⟨fun w s => by
          have := slSub_in (hr.h w s) (lo := 0) (hi := min bs.length 60) ⟨by omega, by omega⟩
          rw [List.drop_zero, take_min] at this
          exact this⟩
        generalize slSub (Value.slice sa bs.length sc) 1 0 (min bs.length 60) = bv at rs2 ⊢
        haveI rs3 : ∀ B : HP, RdE (B :: L) encB bv (bs.take 60) := fun B => ⟨fun w s => rs2.h w s.tail⟩
        haveI rs4 : ∀ B C : HP, RdE (B :: C :: L) encB bv (bs.take 60) := fun B C => ⟨fun w s => rs2.h w s.tail.tail⟩
        refine Ht.know (p := One1 bv) (fun w s => one1_of (rs2.h w s.tail.tail.tail)) (fun ho => ?_)
        refine Ht.know (p := S.ok) (fun w s => st_ok (b := a) (R := L) ((inferInstance : Frm _ (isStore a S :: L)).h _ _ s)) (fun hk => ?_)
        have hbt : (bs.take 60).length ≤ 60 := by simp; omega
        have hDl : D.left ≤ 9223372036854775807 := by rw [← hRs.rl.left]; exact hk.2.2
        have hDu : D.used ≤ 200 := by have := hk.1; rw [← hRs.rl.usedE]; omega
        have hDn : D.files.length ≤ 61 * i := by rw [← hRs.rl.files.length_eq]; exact hlen
        repeat (refine stp ?_)
        refine ht_cutd .normal (ι := Nat × St × St) (fun x => Rs x.2.1 x.2.2 ∧ x.2.1.room = (g : Int) ∧ x.2.1.files.length ≤ 61 * (i + 1)) (fun x => isRef bd x.2.2 :: isStore x.1 x.2.1 :: L)
          (fun x => [(10, .bool true), (8, .int .i64 i), (5, .pointer (some ⟨x.1, 0, none⟩)), (7, .pointer (some ⟨bd, 0, none⟩)), (0, .int .i64 (g : Int)), (4, .bool false), (1, v)]) ?_ ?_
        · intro Q2 hQ2
          refine ht_if ?_ ?_ <;> intro k0 <;> simp only [decide_eq_true_eq, decide_eq_false_iff_not] at k0
          · have hap : R2 (appendM n1 (bs.take 60) S) (appendM n1 (bs.take 60) D) := hRs.rl.append
            have hl2 := append_len (name := n1) (xs := bs.take 60) (s := S)
            repeat (refine stp ?_)
            refine ht_draw Try.can10x19 Try.mixed (by kernel_rfl) ?_
            repeat (refine stp ?_)
            refine Append_spec (b := a) (st := S) (xs := bs.take 60) ?_
            repeat (refine stp ?_)
            refine Append10_spec (b := bd) (D := D) (xs := bs.take 60) (by omega) hDl (by omega) fun D' hD' => ?_
            rewrite [hap.1]
            repeat (refine stp ?_)
            rewrite [decide_eq_true (rfl : (appendM n1 (bs.take 60) D).1 = (appendM n1 (bs.take 60) D).1)]
            exact cx_env inferInstance (Ht.frm (hQ2 (a, (appendM n1 (bs.take 60) S).2, D') ⟨hD'.lead hap.2, by show (appendM n1 (bs.take 60) S).2.room = _; rw [append_room]; exact hroom, by show (appendM n1 (bs.take 60) S).2.files.length ≤ _; omega⟩))
          repeat (refine stp ?_)
          refine ht_if ?_ ?_ <;> intro k1 <;> simp only [decide_eq_true_eq, decide_eq_false_iff_not] at k1
          · have hap : R2 (writeM n1 (bs.take 60) S) (writeM n1 (bs.take 60) D) := hRs.rl.write
            have hl2 := write_len (name := n1) (xs := bs.take 60) (s := S)
            repeat (refine stp ?_)
            refine ht_draw Try.can10x21 Try.mixed (by kernel_rfl) ?_
            repeat (refine stp ?_)
            refine Write_spec (b := a) (st := S) (xs := bs.take 60) ?_
            repeat (refine stp ?_)
            refine Write10_spec (b := bd) (D := D) (xs := bs.take 60) (by omega) hDl (by omega) fun D' hD' => ?_
            rewrite [hap.1]
            repeat (refine stp ?_)
            rewrite [decide_eq_true (rfl : (writeM n1 (bs.take 60) D).1 = (writeM n1 (bs.take 60) D).1)]
            exact cx_env inferInstance (Ht.frm (hQ2 (a, (writeM n1 (bs.take 60) S).2, D') ⟨hD'.lead hap.2, by show (writeM n1 (bs.take 60) S).2.room = _; rw [write_room]; exact hroom, by show (writeM n1 (bs.take 60) S).2.files.length ≤ _; omega⟩))
          repeat (refine stp ?_)
          refine ht_if ?_ ?_ <;> intro k2 <;> simp only [decide_eq_true_eq, decide_eq_false_iff_not] at k2
          · have hap : R2 (cutM n1 n S) (cutM n1 n D) := hRs.rl.cut
            have hl2 := cut_len (name := n1) (n := n) (s := S)
            repeat (refine stp ?_)
            refine ht_draw Try.can10x23 Try.mixed (by kernel_rfl) ?_
            repeat (refine stp ?_)
            refine Cut_spec (b := a) (st := S) ?_
            repeat (refine stp ?_)
            refine Cut10_spec (b := bd) (D := D) (by omega) hDl (by omega) fun D' hD' => ?_
            rewrite [hap.1]
            repeat (refine stp ?_)
            rewrite [decide_eq_true (rfl : (cutM n1 n D).1 = (cutM n1 n D).1)]
            exact cx_env inferInstance (Ht.frm (hQ2 (a, (cutM n1 n S).2, D') ⟨hD'.lead hap.2, by show (cutM n1 n S).2.room = _; rw [cut_room]; exact hroom, by show (cutM n1 n S).2.files.length ≤ _; omega⟩))
          repeat (refine stp ?_)
          refine ht_if ?_ ?_ <;> intro k3 <;> simp only [decide_eq_true_eq, decide_eq_false_iff_not] at k3
          · have hap : R2 (renameM n1 n2 S) (renameM n1 n2 D) := hRs.rl.rename
            have hl2 := rename_len (a := n1) (b := n2) (s := S)
            repeat (refine stp ?_)
            refine ht_draw Try.can10x25 Try.mixed (by kernel_rfl) ?_
            repeat (refine stp ?_)
            refine Rename_spec (b := a) (st := S) ?_
            repeat (refine stp ?_)
            refine Rename10_spec (b := bd) (D := D) hDl (by omega) fun D' hD' => ?_
            rewrite [hap.1]
            repeat (refine stp ?_)
            rewrite [decide_eq_true (rfl : (renameM n1 n2 D).1 = (renameM n1 n2 D).1)]
            exact cx_env inferInstance (Ht.frm (hQ2 (a, (renameM n1 n2 S).2, D') ⟨hD'.lead hap.2, by show (renameM n1 n2 S).2.room = _; rw [rename_room]; exact hroom, by show (renameM n1 n2 S).2.files.length ≤ _; omega⟩))
          repeat (refine stp ?_)
          refine ht_if ?_ ?_ <;> intro k4 <;> simp only [decide_eq_true_eq, decide_eq_false_iff_not] at k4
          · have hap : R2 (dropM [n1, n2] S) (dropM [n1, n2] D) := hRs.rl.drop
            have hl2 := drop_len (ns := [n1, n2]) (s := S)
            have htwo := drop_two (a := n1) (b := n2) (s := D)
            repeat (refine stp ?_)
            intro b1
            repeat (refine stp ?_)
            refine Ht.own_lit SL.encStr (b := b1) (n := 2) (xs := [n1, n2]) rfl rfl (by decide) ?_
            refine Drop_spec (b := a) (st := S) (ns := [n1, n2]) (by simp) ?_
            rewrite [hap.1]
            repeat (refine stp ?_)
            refine Drop10_spec (b := bd) (D := D) hDl (by omega) fun D1 hD1 => ?_
            have hl1 := drop_len (ns := [n1]) (s := D)
            have hD1n : D1.files.length ≤ D.files.length := by rw [← hD1.rl.files.length_eq]; exact hl1
            have hD1l : D1.left ≤ 9223372036854775807 := by rw [← hD1.rl.left]; exact Int.le_trans drop_left hDl
            repeat (refine stp ?_)
            have hfin : ∀ D', Rs (dropM [n1, n2] D).2 D' → (Rs (dropM [n1, n2] S).2 D' ∧ (dropM [n1, n2] S).2.room = (g : Int) ∧ (dropM [n1, n2] S).2.files.length ≤ 61 * (i + 1)) := fun D' hD' => ⟨hD'.lead hap.2, by rw [drop_room]; exact hroom, by omega⟩
            refine ht_if ?_ ?_ <;> intro kz <;> simp only [decide_eq_true_eq, decide_eq_false_iff_not] at kz
            · rw [if_pos kz] at htwo
              have hap1 : R2 (dropM [n2] (dropM [n1] D).2) (dropM [n2] D1) := hD1.rl.drop
              repeat (refine stp ?_)
              refine Drop10_spec (b := bd) (D := D1) hD1l (by omega) fun D' hD' => ?_
              rewrite [htwo, hap1.1]
              repeat (refine stp ?_)
              rewrite [decide_eq_true (rfl : (dropM [n2] D1).1 = (dropM [n2] D1).1)]
              have hf := hfin D' (by rw [htwo]; exact hD'.lead hap1.2)
              exact cx_env inferInstance (Ht.frm (hQ2 (a, (dropM [n1, n2] S).2, D') hf))
            · rw [if_neg kz] at htwo
              rewrite [htwo]
              repeat (refine stp ?_)
              rewrite [decide_eq_true (rfl : (dropM [n1] D).1 = (dropM [n1] D).1)]
              have hf := hfin D1 (by rw [htwo]; exact hD1)
              exact cx_env inferInstance (Ht.frm (hQ2 (a, (dropM [n1, n2] S).2, D1) hf))
          repeat (refine stp ?_)
          refine ht_if ?_ ?_ <;> intro k5 <;> simp only [decide_eq_true_eq, decide_eq_false_iff_not] at k5
          · repeat (refine stp ?_)
            refine Arm_spec (b := a) (s := S) hN ?_
            repeat (refine stp ?_)
            refine Ht.conseq (L' := isRef bd D :: isStore a { S with left := if n < -1 then -1 else n } :: L) ?_ (fun w s => (inferInstance : Frm _ (isRef bd D :: isStore a { S with left := if n < -1 then -1 else n } :: L)).h _ _ s)
            refine rf_open fun lv gg hf hs hgs hgl => ?_
            repeat (refine stp ?_)
            refine cx_env inferInstance (Ht.conseq (hQ2 (a, { S with left := if n < -1 then -1 else n }, { D with left := if n < -1 then -1 else n }) ⟨⟨hRs.rl.arm _, hRs.srt⟩, hroom, by show S.files.length ≤ _; omega⟩) (fun w s => ?_))
            exact rf_shut (D := { D with left := if n < -1 then -1 else n }) (lv := lv) (g := gg) rfl rfl hf hs s
          repeat (refine stp ?_)
          refine ht_if ?_ ?_ <;> intro k6 <;> simp only [decide_eq_true_eq, decide_eq_false_iff_not] at k6
          · repeat (refine stp ?_)
            refine Revive_spec (b := a) (s := S) ?_
            repeat (refine stp ?_)
            refine Ht.conseq (L' := isRef bd D :: isStore a { S with left := -1, down := false } :: L) ?_ (fun w s => (inferInstance : Frm _ (isRef bd D :: isStore a { S with left := -1, down := false } :: L)).h _ _ s)
            refine rf_open fun lv gg hf hs hgs hgl => ?_
            repeat (refine stp ?_)
            refine cx_env inferInstance (Ht.conseq (hQ2 (a, { S with left := -1, down := false }, { D with left := -1, down := false }) ⟨⟨hRs.rl.revive, hRs.srt⟩, hroom, by show S.files.length ≤ _; omega⟩) (fun w s => ?_))
            exact rf_shut (D := { D with left := -1, down := false }) (lv := lv) (g := gg) rfl rfl hf hs s
          repeat (refine stp ?_)
          refine ht_if ?_ ?_ <;> intro k7 <;> simp only [decide_eq_true_eq, decide_eq_false_iff_not] at k7
          · repeat (refine stp ?_)
            refine Copy_spec (b := a) (st := S) fun a3 fs hp => ?_
            have RC : Rl S { S with files := fs } := ⟨rfl, rfl, rfl, hp.symm, hRs.rl.kn⟩
            repeat (refine stp ?_)
            intro b1
            repeat (refine stp ?_)
            refine co_constBytes [121] ?_ ?_
            · rfl
            repeat (refine stp ?_)
            refine Write_spec (b := a) (st := S) (xs := [121]) ?_
            repeat (refine stp ?_)
            exact cx_env inferInstance (Ht.frm (hQ2 (a3, { S with files := fs }, D) ⟨Rs.lead RC.symm hRs, hroom, by show fs.length ≤ _; rw [hp.length_eq]; omega⟩))
          · repeat (refine stp ?_)
            refine Read_spec (b := a) (st := S) ?_
            intro x1
            refine Ht.one1 (v := x1) ?_
            intro _
            repeat (refine stp ?_)
            have hys : ((mget S.files n1).getD []).length ≤ 200 := by have := get_used (D := S) n1; have := hk.1; omega
            generalize (mget S.files n1).getD [] = ys at hys ⊢
            generalize cells [.int .i64 k, .int .i64 n, .string n1, .string n2, bv] 159 = oc
            refine ht_for ys.length (fun _ (zs : List UInt8) => zs.length = ys.length) (fun _ zs => own encB 5 x1 zs :: isStore a S :: pto c oc :: isRef bd D :: L) (fun j _ => [(16, .int .i64 j)]) ys [16] rfl (fun w s => s) inferInstance ?_
            intro j zs hj hz
            dsimp only [List.cons_append, List.nil_append]
            repeat (refine stp ?_)
            refine ht_if ?_ ?_ <;> intro hc <;> simp only [decide_eq_true_eq, decide_eq_false_iff_not] at hc
            · repeat (refine stp ?_)
              refine co_index (xs := zs) (by omega) ?_
              intro hbi
              repeat (refine stp ?_)
              refine co_setEl (e := encB) (el := 5) 1 (by rfl) (by simp) ?_
              repeat (refine stp ?_)
              exact ht_next (zs.set j 1) (by omega) (by simpa using hz) (fun w s => s) (SubE.cons (by rw [IntWalk.i64_in _ (by omega)]; rfl) inferInstance) rfl rfl
            · repeat (refine stp ?_)
              exact cx_env inferInstance (Ht.frm (hQ2 (a, S, D) ⟨hRs, hroom, by show S.files.length ≤ _; omega⟩))
        · intro ⟨a2, S2, D2⟩ ⟨hRs2, hroom2, hlen2⟩
          dsimp only at hRs2 hroom2 hlen2 ⊢
          refine Ht.know (p := S2.ok) (fun w s => st_ok (b := a2) (R := isRef bd D2 :: L) ((inferInstance : Frm _ (isStore a2 S2 :: isRef bd D2 :: L)).h _ _ s)) (fun hk2 => ?_)
          repeat (refine stp ?_)
          refine Same10_spec (a := a2) (b := bd) (S := S2) (D := D2) hRs2 (by rw [← hRs2.rl.files.length_eq]; omega) (by have := hk2.1; rw [← hRs2.rl.usedE]; omega) ?_
          repeat (refine stp ?_)
          refine Room_spec (b := a2) (s := S2) ?_
          rewrite [hroom2]
          repeat (refine stp ?_)
          rewrite [decide_eq_false (show ¬ ((g : Int) ≠ (g : Int)) from fun hh => hh rfl)]
          repeat (refine stp ?_)
          exact ht_next (a2, S2, D2) (by omega) ⟨hRs2, hroom2, hlen2⟩ (fun w s => (inferInstance : Frm _ (isRef bd D2 :: isStore a2 S2 :: L)).h _ _ s) (SubE.cons (by rw [IntWalk.i64_in _ (by omega)]; rfl) inferInstance) rfl rfl
      · have e : i = min l.length 60 := by omega
        repeat (refine stp ?_)
        exact cx_env inferInstance (Ht.frm (hQ (a, S, D) trivial))
    · have e : i = min l.length 60 := by omega
      repeat (refine stp ?_)
      exact cx_env inferInstance (Ht.frm (hQ (a, S, D) trivial))
  · intro ⟨a, S, D⟩ _
    dsimp only
    repeat (refine stp ?_)
    refine known_spec ?_
    repeat (refine stp ?_)
    exact ret1 rfl (Ht.frm h)
end Go.Proofs
