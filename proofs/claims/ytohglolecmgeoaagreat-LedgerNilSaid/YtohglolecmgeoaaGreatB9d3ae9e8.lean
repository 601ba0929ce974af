/- The parts HM, BL, BR, IDX of the engine and of the walk, one behind the other: no condition. -/
import Derived.Test.YtohglolecmgeoaaGreatB4b57a90e
import Derived.Test.YtohglolecmgeoaaGreatSLT
import Derived.Test.YtohglolecmgeoaaGreatB2dc22f2e

set_option linter.all false
set_option maxRecDepth 20000
set_option synthInstance.maxSize 100000
set_option synthInstance.maxHeartbeats 400000
namespace Go.Proofs
open Go Go.SL
attribute [local irreducible] CCall CO CC CX CD

/-! ### roster: New -/
theorem firstF_at {α : Type} {f : List α → α → Int} {a : α} {l2 : List α} : ∀ {l1 pre : List α}, firstF f pre l1 = 0 → firstF f pre (l1 ++ a :: l2) = if f (pre ++ l1) a ≠ 0 then f (pre ++ l1) a else firstF f (pre ++ l1 ++ [a]) l2
  | [], pre, _ => by rw [List.nil_append, firstF, List.append_nil]
  | b :: l1, pre, h => by
    rw [firstF] at h
    split at h
    · next hh => exact absurd h hh
    next hh =>
    rw [List.cons_append, firstF, if_neg hh, firstF_at h]
    simp only [List.append_assoc, List.cons_append, List.nil_append]
theorem firstF_zero {α : Type} {f : List α → α → Int} : ∀ {l pre : List α}, firstF f pre l = 0 → ∀ l1 a l2, l = l1 ++ a :: l2 → f (pre ++ l1) a = 0
  | [], pre, _, l1, a, l2, e => by cases l1 <;> cases e
  | b :: l, pre, h, l1, a, l2, e => by
    rw [firstF] at h
    split at h
    · next hh => exact absurd h hh
    next hh =>
    cases l1 with
    | nil =>
      simp only [List.nil_append, List.cons.injEq] at e
      rw [← e.1, List.append_nil]; exact Decidable.not_not.1 hh
    | cons c l1 =>
      simp only [List.cons_append, List.cons.injEq] at e
      have := firstF_zero h l1 a l2 e.2
      rw [← e.1, show pre ++ b :: l1 = pre ++ [b] ++ l1 by simp]; exact this
theorem firstF_snoc {α : Type} {f : List α → α → Int} {l pre : List α} {a : α} (h : firstF f pre l = 0) (ha : f (pre ++ l) a = 0) : firstF f pre (l ++ [a]) = 0 := by
  rw [firstF_at h, if_neg (fun hh => hh ha)]; rfl
theorem take_split {α : Type} [Inhabited α] {l : List α} {i : Nat} (h : i < l.length) : l = l.take i ++ l[i]! :: l.drop (i + 1) := by
  conv => lhs; rw [← List.take_append_drop i l]
  rw [List.drop_eq_getElem_cons h, getElem!_pos l i h]
theorem nodup_split {α β : Type} (g : α → β) : ∀ {l pre : List α}, (∀ l1 a l2, l = l1 ++ a :: l2 → ∀ x ∈ pre ++ l1, g x ≠ g a) → (l.map g).Nodup
  | [], _, _ => List.nodup_nil
  | b :: l, pre, h => by
    rw [List.map_cons, List.nodup_cons]
    refine ⟨fun hm => ?_, nodup_split g (pre := pre ++ [b]) fun l1 a l2 e x hx => ?_⟩
    · obtain ⟨y, hy, hyb⟩ := List.mem_map.1 hm
      obtain ⟨l1, l2, e⟩ := List.append_of_mem hy
      exact h (b :: l1) y l2 (by rw [e]; rfl) b (by simp) hyb.symm
    · exact h (b :: l1) a l2 (by rw [e]; rfl) x (by simpa using hx)
theorem rosE_ok {R : Ros} (h : rosE R = 0) : RosOk R := by
  unfold rosE at h
  split at h
  · exact absurd h (by decide)
  next h1 =>
  split at h
  · exact absurd h (by decide)
  next h2 =>
  split at h
  · next hh => exact absurd h hh
  next h3 =>
  have h3 : firstF addI [] R.isins = 0 := Decidable.not_not.1 h3
  have hi : ∀ l1 a l2, R.isins = l1 ++ a :: l2 → isinS a = 0 ∧ ∀ x ∈ l1, x ≠ a := fun l1 a l2 e => by
    have := firstF_zero h3 l1 a l2 e
    rw [List.nil_append] at this
    unfold addI at this
    split at this
    · next hh => exact absurd this hh
    next hh =>
    split at this
    · exact absurd this (by decide)
    next hn => exact ⟨Decidable.not_not.1 hh, fun x hx hxa => hn (List.any_eq_true.2 ⟨x, hx, decide_eq_true hxa⟩)⟩
  have hm : ∀ l1 a l2, R.members = l1 ++ a :: l2 → (membS a.1 = 0 ∧ 0 ≤ a.2 ∧ a.2 < R.nodes) ∧ ∀ x ∈ l1, x.1 ≠ a.1 := fun l1 a l2 e => by
    have := firstF_zero h l1 a l2 e
    rw [List.nil_append] at this
    unfold addM at this
    split at this
    · next hh => exact absurd this hh
    next hh =>
    split at this
    · exact absurd this (by decide)
    next hn =>
    split at this
    · exact absurd this (by decide)
    next hr => exact ⟨⟨Decidable.not_not.1 hh, by omega, by omega⟩, fun x hx hxa => hn (List.any_eq_true.2 ⟨x, hx, decide_eq_true hxa⟩)⟩
  refine ⟨by omega, by omega, fun s hs => ?_, ?_, by omega, fun m hmm => ?_, ?_⟩
  · obtain ⟨l1, l2, e⟩ := List.append_of_mem hs
    exact (hi l1 s l2 e).1
  · have := nodup_split (fun x : ByteArray => x) (l := R.isins) (pre := []) fun l1 a l2 e x hx => (hi l1 a l2 e).2 x (by simpa using hx)
    rwa [List.map_id'] at this
  · obtain ⟨l1, l2, e⟩ := List.append_of_mem hmm
    exact (hm l1 m l2 e).1
  · exact nodup_split (fun x : ByteArray × Int => x.1) (l := R.members) (pre := []) fun l1 a l2 e x hx => (hm l1 a l2 e).2 x (by simpa using hx)
@[reducible] def tI (l : List ByteArray) : List (ByteArray × Bool) := l.foldl (fun t s => tput s true t) []
@[reducible] def tM (l : List (ByteArray × Int)) : List (ByteArray × Int) := l.foldl (fun t m => tput m.1 m.2 t) []
theorem RNew_spec {L K iv mv} {R : Ros} [ri : RdE L SL.encStr iv R.isins] [rm : RdE L encRw mv R.members]
    (hE : rosE R ≠ 0 → Ht L (K (.tuple #[.pointer none, .int .i64 (rosE R)])))
    (hG : rosE R = 0 → RosOk R → ∀ p, Ht (isRos p R :: L) (K (.tuple #[.pointer (some ⟨p, 0, none⟩), .int .i64 0]))) :
    Ht L (CCall Tryz.prog 44 [.int .i64 R.nodes, iv, mv] K) := by
  have hri : ∀ (M' : List HP) [fr : Frm M' L], RdS M' iv SL.encStr R.isins := fun M' fr => ⟨fun w t => ri.h w (fr.h _ _ t)⟩
  have hrm : ∀ (M' : List HP) [fr : Frm M' L], RdS M' mv encRw R.members := fun M' fr => ⟨fun w t => rm.h w (fr.h _ _ t)⟩
  refine Ht.know (p := One1 iv ∧ One1 mv ∧ R.isins.length ≤ 9223372036854775807 ∧ R.members.length ≤ 9223372036854775807) (fun w t => ⟨one1_of (ri.h w t), one1_of (rm.h w t), (ri.h w t).le, (rm.h w t).le⟩) (fun ⟨oiv, omv, hle1, hle2⟩ => ?_)
  refine ccall3 Tryz.func44 rfl (by decide) Tryz.ntmps44 (by rfl) (by decide) ?_
  repeat (refine stp ?_)
  unfold rosE at hE
  by_cases h0 : R.nodes < 1
  · rewrite [decide_eq_true h0]
    have hh := hE (by rw [if_pos (.inl h0)]; decide)
    rw [if_pos (.inl h0)] at hh
    repeat (refine stp ?_)
    exact ret2 rfl hh
  rewrite [decide_eq_false h0]
  repeat (refine stp ?_)
  by_cases h1 : 3 < R.nodes
  · rewrite [decide_eq_true h1]
    have hh := hE (by rw [if_pos (.inr h1)]; decide)
    rw [if_pos (.inr h1)] at hh
    repeat (refine stp ?_)
    exact ret2 rfl hh
  rewrite [decide_eq_false h1]
  rw [if_neg (by omega)] at hE
  repeat (refine stp ?_)
  by_cases h2 : (32 : Int) < (R.isins.length : Int)
  · rewrite [decide_eq_true h2]
    have hc : 32 < R.isins.length ∨ 64 < R.members.length := .inl (by omega)
    have hh := hE (by rw [if_pos hc]; decide)
    rw [if_pos hc] at hh
    repeat (refine stp ?_)
    exact ret2 rfl hh
  rewrite [decide_eq_false h2]
  repeat (refine stp ?_)
  by_cases h3 : (64 : Int) < (R.members.length : Int)
  · rewrite [decide_eq_true h3]
    have hc : 32 < R.isins.length ∨ 64 < R.members.length := .inr (by omega)
    have hh := hE (by rw [if_pos hc]; decide)
    rw [if_pos hc] at hh
    repeat (refine stp ?_)
    exact ret2 rfl hh
  rewrite [decide_eq_false h3]
  have hc : ¬ (32 < R.isins.length ∨ 64 < R.members.length) := by omega
  rw [if_neg hc] at hE
  repeat (refine stp ?_)
  refine si_of (xs := []) (by decide) fun a v => ?_
  rewrite [show si_ofM ([] : List (ByteArray × Int)) = [] from rfl]
  refine Ht.know (p := One1 v) (fun w t => one1_of (own_sat t.tail)) (fun ov => ?_)
  repeat (refine stp ?_)
  refine sb_of (xs := []) (by decide) fun bb u => ?_
  rewrite [show sb_ofM ([] : List (ByteArray × Bool)) = [] from rfl]
  refine Ht.know (p := One1 u) (fun w t => one1_of (own_sat t.tail)) (fun ou => ?_)
  repeat (refine stp ?_)
  intro p
  repeat (refine stp ?_)
  refine cc_env (E' := [(39, .int .i64 0), (38, .int .i64 (R.isins.length : Int)), (37, iv), (8, .pointer (some ⟨p, 0, none⟩)), (2, mv)]) inferInstance ?_
  refine ht_for R.isins.length (fun i (y : Value) => One1 y ∧ firstF addI [] (R.isins.take i) = 0) (fun i y => pto p (cells [.pointer (some ⟨a, 0, none⟩), .int .i64 R.nodes, .pointer (some ⟨bb, 0, none⟩)] 231) :: pto a (cells [v] 143) :: own enc_si 314 v [] :: pto bb (cells [y] 285) :: own enc_sb 317 y (tI (R.isins.take i)) :: L) (fun i y => [(39, .int .i64 (i : Int))]) u [39] ⟨ou, rfl⟩ (fun w t => by rw [List.take_zero, show tI [] = [] from rfl]; exact (inferInstance : Frm _ _).h _ _ t) inferInstance ?_
  intro i y hi ⟨oy, hf⟩
  dsimp only [List.cons_append, List.nil_append]
  have htl : (tI (R.isins.take i)).length ≤ i := by
    have := @fold_len _ _ _ _ (fun s : ByteArray => s) (fun _ => true) (R.isins.take i) []
    rw [List.length_take, List.length_nil] at this
    exact Nat.le_trans this (by omega)
  have hts : Srt (tI (R.isins.take i)) := fold_srt (fun s : ByteArray => s) (fun _ => true) List.Pairwise.nil
  repeat (refine stp ?_)
  refine ht_if ?_ ?_ <;> intro hcc <;> simp only [decide_eq_true_eq, decide_eq_false_iff_not] at hcc
  · have hii : i < R.isins.length := by omega
    have hsp := take_split hii
    repeat (refine stp ?_)
    refine co_index (xs := R.isins) (by omega) ?_
    intro hb
    repeat (refine stp ?_)
    refine rIsin_ok (s := R.isins[i]!) hts (by omega) fun u' TI' ou' hT1 hT2 => ?_
    have hth : thas (R.isins[i]!) (tI (R.isins.take i)) = (R.isins.take i).any fun x => decide (x = R.isins[i]!) := by
      rw [fold_has (fun s : ByteArray => s) (fun _ => true) List.Pairwise.nil]
      simp [thas, tfind]
    have hfa := firstF_at (f := addI) (a := R.isins[i]!) (l2 := R.isins.drop (i + 1)) hf
    rw [← hsp, List.nil_append] at hfa
    rewrite [hth, show (if isinS R.isins[i]! ≠ 0 then isinS R.isins[i]! else if ((R.isins.take i).any fun x => decide (x = R.isins[i]!)) = true then 6 else 0) = addI (R.isins.take i) R.isins[i]! from rfl]
    repeat (refine stp ?_)
    by_cases hae : addI (R.isins.take i) R.isins[i]! ≠ 0
    · rw [if_pos hae] at hfa
      rewrite [decide_eq_true hae]
      rw [hfa, if_pos hae] at hE
      have hh := hE hae
      repeat (refine stp ?_)
      exact ret2 rfl (Ht.frm hh)
    · rewrite [decide_eq_false hae]
      have hae := Decidable.not_not.1 hae
      have hi0 : isinS R.isins[i]! = 0 := by
        unfold addI at hae
        split at hae
        · next hh => exact absurd hae hh
        · next hh => exact Decidable.not_not.1 hh
      repeat (refine stp ?_)
      refine ht_next u' hii ⟨ou', by rw [takeSnoc hii]; exact firstF_snoc hf hae⟩ (fun w t => by
        rw [takeSnoc hii, show tI (R.isins.take i ++ [R.isins[i]!]) = TI' from by rw [hT1 hi0]; unfold tI; rw [List.foldl_append]; rfl]
        exact (inferInstance : Frm _ _).h _ _ t) (SubE.cons (by rw [IntWalk.i64_in _ (by omega)]; rfl) inferInstance) rfl rfl
  · have he : i = R.isins.length := by omega
    subst he
    rw [List.take_length] at hf hts htl
    rw [List.take_length]
    rw [hf, if_neg (by decide)] at hE
    repeat (refine stp ?_)
    refine cc_env (E' := [(52, .int .i64 0), (51, .int .i64 (R.members.length : Int)), (50, mv), (8, .pointer (some ⟨p, 0, none⟩))]) inferInstance ?_
    refine ht_for R.members.length (fun i (z : Value) => One1 z ∧ firstF (addM R.nodes) [] (R.members.take i) = 0) (fun i z => pto p (cells [.pointer (some ⟨a, 0, none⟩), .int .i64 R.nodes, .pointer (some ⟨bb, 0, none⟩)] 231) :: pto a (cells [z] 143) :: own enc_si 314 z (tM (R.members.take i)) :: pto bb (cells [y] 285) :: own enc_sb 317 y (tI R.isins) :: L) (fun i z => [(52, .int .i64 (i : Int))]) v [52] ⟨ov, rfl⟩ (fun w t => by rw [List.take_zero, show tM [] = [] from rfl]; exact (inferInstance : Frm _ _).h _ _ t) inferInstance ?_
    intro i z hi ⟨oz, hg⟩
    dsimp only [List.cons_append, List.nil_append]
    have hml : (tM (R.members.take i)).length ≤ i := by
      have := @fold_len _ _ _ _ (fun m : ByteArray × Int => m.1) (fun m => m.2) (R.members.take i) []
      rw [List.length_take, List.length_nil] at this
      exact Nat.le_trans this (by omega)
    have hms : Srt (tM (R.members.take i)) := fold_srt (fun m : ByteArray × Int => m.1) (fun m => m.2) List.Pairwise.nil
    repeat (refine stp ?_)
    refine ht_if ?_ ?_ <;> intro hcd <;> simp only [decide_eq_true_eq, decide_eq_false_iff_not] at hcd
    · have hii : i < R.members.length := by omega
      have hsp := take_split hii
      have hth : thas (R.members[i]!).1 (tM (R.members.take i)) = (R.members.take i).any fun x => decide (x.1 = (R.members[i]!).1) := by
        rw [fold_has (fun m : ByteArray × Int => m.1) (fun m => m.2) List.Pairwise.nil]
        simp [thas, tfind]
      have hfa := firstF_at (f := addM R.nodes) (a := R.members[i]!) (l2 := R.members.drop (i + 1)) hg
      rw [← hsp, List.nil_append] at hfa
      repeat (refine stp ?_)
      refine co_index (xs := R.members) (by omega) ?_
      intro hb
      repeat (refine stp ?_)
      intro c13
      repeat (refine stp ?_)
      refine Ht.conseq (L' := pto p (cells [.pointer (some ⟨a, 0, none⟩), .int .i64 R.nodes, .pointer (some ⟨bb, 0, none⟩)] 231) :: pto a (cells [z] 143) :: own enc_si 314 z (tM (R.members.take i)) :: pto bb (cells [y] 285) :: own enc_sb 317 y (tI R.isins) :: L) ?_ (fun w t => (inferInstance : Frm _ _).h _ _ t)
      refine rMember_ok (m := R.members[i]!) hms (by omega) (fun hbad => ?_) (fun g1 g2 g3 g4 v' ov' => ?_)
      · rewrite [hth, show (if membS (R.members[i]!).1 ≠ 0 then membS (R.members[i]!).1 else if ((R.members.take i).any fun x => decide (x.1 = (R.members[i]!).1)) = true then 6 else if (R.members[i]!).2 < 0 ∨ R.nodes ≤ (R.members[i]!).2 then 5 else 0) = addM R.nodes (R.members.take i) R.members[i]! from rfl]
        have hae : addM R.nodes (R.members.take i) R.members[i]! ≠ 0 := by
          rw [hth] at hbad
          unfold addM
          split
          · assumption
          next q1 =>
          split
          · decide
          next q2 =>
          split
          · decide
          next q3 =>
          rcases hbad with q | q | q | q
          · exact absurd q q1
          · exact absurd q q2
          · exact absurd (.inl q) q3
          · exact absurd (.inr q) q3
        rw [if_pos hae] at hfa
        repeat (refine stp ?_)
        rewrite [decide_eq_true hae]
        rw [hfa] at hE
        have hh := hE hae
        repeat (refine stp ?_)
        exact ret2 rfl (Ht.frm hh)
      · have hae : addM R.nodes (R.members.take i) R.members[i]! = 0 := by
          rw [hth] at g2
          unfold addM
          rw [if_neg (fun hh => hh g1), if_neg (by rw [g2]; decide), if_neg (by omega)]
        repeat (refine stp ?_)
        try rewrite [show decide ((0 : Int) ≠ 0) = false from rfl]
        repeat (refine stp ?_)
        refine ht_next v' hii ⟨ov', by rw [takeSnoc hii]; exact firstF_snoc hg hae⟩ (fun w t => by
          rw [takeSnoc hii, show tM (R.members.take i ++ [R.members[i]!]) = tput (R.members[i]!).1 (R.members[i]!).2 (tM (R.members.take i)) from by unfold tM; rw [List.foldl_append]; rfl]
          exact (inferInstance : Frm _ _).h _ _ t) (SubE.cons (by rw [IntWalk.i64_in _ (by omega)]; rfl) inferInstance) rfl rfl
    · have he : i = R.members.length := by omega
      subst he
      rw [List.take_length] at hg hms hml
      rw [List.take_length]
      have hz : rosE R = 0 := by unfold rosE; rw [if_neg (by omega), if_neg hc, hf, if_neg (by decide)]; exact hg
      have hok := rosE_ok hz
      repeat (refine stp ?_)
      exact ret2 rfl (Ht.conseq (hG hz hok p) fun w t => ros_shut (a := a) (b := bb) (v := z) (u := y) hok oz oy t)
end Go.Proofs

set_option linter.all false
set_option maxRecDepth 20000
set_option synthInstance.maxSize 100000
set_option synthInstance.maxHeartbeats 400000
namespace Go.Proofs
open Go Go.SL
attribute [local irreducible] CCall CO CC CX CD

/-! ### ledger: Complete with some peers -/
def okPr (x : LgL) (day n : Int) : Bool := (prBlk x n).isSome && decide (day ≤ (endPt x n : Int))
def cplP (x : LgL) (day : Int) (ps : List Int) : Bool := decide (1 ≤ day) && decide (day ≤ (endPt x x.hm : Int)) && ps.all (okPr x day)
theorem peersR_pos {R : Ros} {n : Int} : ∀ p ∈ peersR R n, 0 ≤ p ∧ p < R.nodes ∧ p ≠ n := fun p hp => by
  unfold peersR at hp
  split at hp
  · cases hp
  · obtain ⟨h1, h2⟩ := List.mem_filter.1 hp
    obtain ⟨i, hi, rfl⟩ := List.mem_map.1 h1
    have := List.mem_range.1 hi
    refine ⟨Int.natCast_nonneg _, by show (i : Int) < _; omega, by simpa [neB] using h2⟩
theorem peersR_len {R : Ros} (ok : RosOk R) {n : Int} : (peersR R n).length ≤ 3 := by
  have := ok.nodes
  unfold peersR
  split
  · exact Nat.zero_le _
  · have h1 := List.length_filter_le (neB n) (upI R.nodes.toNat)
    have hu : (upI R.nodes.toNat).length = R.nodes.toNat := by unfold upI; rw [List.length_map, List.length_range]
    omega
theorem okPr_all {x : LgL} {day : Int} {ps : List Int} {i : Nat} (hi : i < ps.length) (h : (ps.take i).all (okPr x day) = true) : (ps.take (i + 1)).all (okPr x day) = okPr x day ps[i]! := by
  rw [List.take_succ, getB hi, List.all_append, h]
  simp
theorem okPr_no {x : LgL} {day : Int} {ps : List Int} {i : Nat} (hi : i < ps.length) (h : okPr x day ps[i]! = false) : ps.all (okPr x day) = false := by
  rw [List.all_eq_false]
  exact ⟨_, List.mem_of_getElem? (getB hi), by rw [h]; simp⟩
theorem Compl_spec {L M K b vp pvv} {x : LgL} {day : Int} {ps : List Int} [ca : Cl M ⟨b, 2, none⟩ vp] [cb : Cl M ⟨b, 1, none⟩ (.int .i64 x.hm)] [rs : RdE M encPv vp (x.pts.map fun p => some p.blk)] [rq : RdE M SL.encI pvv ps] [r : Pull (bigO isPt) L x.pts M] (hl : x.pts.length ≤ 100) (hc : ∀ p ∈ x.pts, p.cls.length ≤ 1000) (hp : 0 < ps.length ∧ ps.length ≤ 100)
    (h : Ht (bigO isPt x.pts :: M) (K (.bool (cplP x day ps)))) : Ht L (CCall Tryz.prog 22 [.pointer (some ⟨b, 0, none⟩), .int .i64 day, pvv] K) := by
  refine Ht.pull r ?_
  have hrs : ∀ (M' : List HP) [fr : Frm M' M], RdE M' encPv vp (x.pts.map fun p => some p.blk) := fun M' fr => ⟨fun w t => rs.h w (fr.h _ _ t)⟩
  have hrq : ∀ (M' : List HP) [fr : Frm M' M], RdE M' SL.encI pvv ps := fun M' fr => ⟨fun w t => rq.h w (fr.h _ _ t)⟩
  have hrqs : ∀ (M' : List HP) [fr : Frm M' M], RdS M' pvv SL.encI ps := fun M' fr => (hrq M').toS
  refine Ht.know (p := One1 pvv) (fun w t => one1_of (rq.h w t.tail)) (fun ov => ?_)
  unfold cplP at h
  refine ccall3 Tryz.func22 rfl (by decide) Tryz.ntmps22 (by rfl) (by decide) ?_
  repeat (refine stp ?_)
  by_cases h0 : day < 1
  · rewrite [decide_eq_true h0]
    rw [decide_eq_false (show ¬ 1 ≤ day by omega), Bool.false_and, Bool.false_and] at h
    repeat (refine stp ?_)
    exact ret1 rfl h
  rewrite [decide_eq_false h0]
  rw [decide_eq_true (show 1 ≤ day by omega), Bool.true_and] at h
  repeat (refine stp ?_)
  refine Day_spec (x := x) (vp := vp) hl hc ?_
  repeat (refine stp ?_)
  by_cases h1 : ((endPt x x.hm : Nat) : Int) + 1 ≤ day
  · rewrite [decide_eq_true h1]
    rw [decide_eq_false (show ¬ day ≤ (endPt x x.hm : Int) by omega), Bool.false_and] at h
    repeat (refine stp ?_)
    exact ret1 rfl (Ht.frm h)
  · rewrite [decide_eq_false h1]
    rw [decide_eq_true (show day ≤ (endPt x x.hm : Int) by omega), Bool.true_and] at h
    repeat (refine stp ?_)
    rewrite [show decide ((ps.length : Int) = 0) = false from decide_eq_false (by omega)]
    repeat (refine stp ?_)
    refine ht_for ps.length (fun i (_ : Unit) => (ps.take i).all (okPr x day) = true) (fun i _ => bigO isPt x.pts :: M) (fun i _ => [(28, .int .i64 (i : Int))]) () [28] rfl (fun w t => (inferInstance : Frm _ _).h _ _ t) inferInstance ?_
    intro i _ hi hal
    dsimp only [List.cons_append, List.nil_append]
    repeat (refine stp ?_)
    refine ht_if ?_ ?_ <;> intro hcc <;> simp only [decide_eq_true_eq, decide_eq_false_iff_not] at hcc
    · have hii : i < ps.length := by omega
      have hna := okPr_all hii hal
      repeat (refine stp ?_)
      refine co_index (xs := ps) (by omega) ?_
      intro hb
      repeat (refine stp ?_)
      refine peer_spec (x := x) (vp := vp) (n := ps[i]!) hl ?_
      repeat (refine stp ?_)
      cases hpb : prBlk x ps[i]! with
      | none =>
        unfold pv
        have hno : okPr x day ps[i]! = false := by unfold okPr; rw [hpb]; rfl
        rw [okPr_no hii hno] at h
        repeat (refine stp ?_)
        exact ret1 rfl h
      | some q =>
        unfold pv
        repeat (refine stp ?_)
        refine Ended_spec (x := x) (vp := vp) (n := ps[i]!) hl ?_
        repeat (refine stp ?_)
        by_cases h2 : ((endPt x ps[i]! : Nat) : Int) < day
        · rewrite [decide_eq_true h2]
          have hno : okPr x day ps[i]! = false := by unfold okPr; rw [decide_eq_false (show ¬ day ≤ ((endPt x ps[i]! : Nat) : Int) by omega), Bool.and_false]
          rw [okPr_no hii hno] at h
          repeat (refine stp ?_)
          exact ret1 rfl (Ht.frm h)
        · rewrite [decide_eq_false h2]
          repeat (refine stp ?_)
          refine ht_next () hii (by rw [hna]; unfold okPr; rw [hpb, decide_eq_true (show day ≤ ((endPt x ps[i]! : Nat) : Int) by omega)]; rfl) (fun w t => (inferInstance : Frm _ _).h _ _ t) (SubE.cons (by rw [IntWalk.i64_in _ (by omega)]; rfl) inferInstance) rfl rfl
    · have he : i = ps.length := by omega
      subst he
      rw [List.take_length] at hal
      rw [hal] at h
      repeat (refine stp ?_)
      exact ret1 rfl h
theorem Compl0_spec {L L1 M K b vp} {x : LgL} {R : Ros} {day : Int} [ca : Cl M ⟨b, 2, none⟩ vp] [cb : Cl M ⟨b, 1, none⟩ (.int .i64 x.hm)] [cc : Cl M ⟨b, 0, none⟩ (.pointer (some ⟨x.ros, 0, none⟩))] [rs : RdE M encPv vp (x.pts.map fun p => some p.blk)] [r : Pull (bigO isPt) L x.pts L1] [pl : Pull (isRos x.ros) L1 R M] (ok : RosOk R) (hl : x.pts.length ≤ 100) (hc : ∀ p ∈ x.pts, p.cls.length ≤ 1000)
    (h : Ht (bigO isPt x.pts :: isRos x.ros R :: M) (K (.bool (cplP x day (peersR R x.hm))))) : Ht L (CCall Tryz.prog 22 [.pointer (some ⟨b, 0, none⟩), .int .i64 day, .slice none 0 0] K) := by
  refine Ht.conseq (L' := bigO isPt x.pts :: isRos x.ros R :: M) ?_ (fun w s => seps_mono (fun _ a => a) (fun _ t => pl.h _ _ t) (r.h _ _ s))
  have hrs : ∀ (M' : List HP) [fr : Frm M' M], RdE M' encPv vp (x.pts.map fun p => some p.blk) := fun M' fr => ⟨fun w t => rs.h w (fr.h _ _ t)⟩
  unfold cplP at h
  refine ccall3 Tryz.func22 rfl (by decide) Tryz.ntmps22 (by rfl) (by decide) ?_
  repeat (refine stp ?_)
  by_cases h0 : day < 1
  · rewrite [decide_eq_true h0]
    rw [decide_eq_false (show ¬ 1 ≤ day by omega), Bool.false_and, Bool.false_and] at h
    repeat (refine stp ?_)
    exact ret1 rfl h
  rewrite [decide_eq_false h0]
  rw [decide_eq_true (show 1 ≤ day by omega), Bool.true_and] at h
  repeat (refine stp ?_)
  refine Day_spec (x := x) (vp := vp) hl hc ?_
  repeat (refine stp ?_)
  by_cases h1 : ((endPt x x.hm : Nat) : Int) + 1 ≤ day
  · rewrite [decide_eq_true h1]
    rw [decide_eq_false (show ¬ day ≤ (endPt x x.hm : Int) by omega), Bool.false_and] at h
    repeat (refine stp ?_)
    exact ret1 rfl (Ht.frm h)
  · rewrite [decide_eq_false h1]
    rw [decide_eq_true (show day ≤ (endPt x x.hm : Int) by omega), Bool.true_and] at h
    repeat (refine stp ?_)
    try rewrite [show decide ((0 : Int) = 0) = true from rfl]
    repeat (refine stp ?_)
    refine peers_spec (x := x) (R := R) fun uv opv => ?_
    have hpl := peersR_len ok (n := x.hm)
    obtain ⟨ps, hps⟩ : ∃ ps, peersR R x.hm = ps := ⟨_, rfl⟩
    rw [hps] at h hpl ⊢
    repeat (refine stp ?_)
    refine ht_for ps.length (fun i (_ : Unit) => (ps.take i).all (okPr x day) = true) (fun i _ => own SL.encI 3 uv ps :: bigO isPt x.pts :: isRos x.ros R :: M) (fun i _ => [(28, .int .i64 (i : Int))]) () [28] rfl (fun w t => (inferInstance : Frm _ _).h _ _ t) inferInstance ?_
    intro i _ hi hal
    dsimp only [List.cons_append, List.nil_append]
    repeat (refine stp ?_)
    refine ht_if ?_ ?_ <;> intro hcc <;> simp only [decide_eq_true_eq, decide_eq_false_iff_not] at hcc
    · have hii : i < ps.length := by omega
      have hna := okPr_all hii hal
      repeat (refine stp ?_)
      refine co_index (xs := ps) (by omega) ?_
      intro hb
      repeat (refine stp ?_)
      refine peer_spec (x := x) (vp := vp) (n := ps[i]!) hl ?_
      repeat (refine stp ?_)
      cases hpb : prBlk x ps[i]! with
      | none =>
        unfold pv
        have hno : okPr x day ps[i]! = false := by unfold okPr; rw [hpb]; rfl
        rw [okPr_no hii hno] at h
        repeat (refine stp ?_)
        exact ret1 rfl (Ht.frm h)
      | some q =>
        unfold pv
        repeat (refine stp ?_)
        refine Ended_spec (x := x) (vp := vp) (n := ps[i]!) hl ?_
        repeat (refine stp ?_)
        by_cases h2 : ((endPt x ps[i]! : Nat) : Int) < day
        · rewrite [decide_eq_true h2]
          have hno : okPr x day ps[i]! = false := by unfold okPr; rw [decide_eq_false (show ¬ day ≤ ((endPt x ps[i]! : Nat) : Int) by omega), Bool.and_false]
          rw [okPr_no hii hno] at h
          repeat (refine stp ?_)
          exact ret1 rfl (Ht.frm h)
        · rewrite [decide_eq_false h2]
          repeat (refine stp ?_)
          refine ht_next () hii (by rw [hna]; unfold okPr; rw [hpb, decide_eq_true (show day ≤ ((endPt x ps[i]! : Nat) : Int) by omega)]; rfl) (fun w t => (inferInstance : Frm _ _).h _ _ t) (SubE.cons (by rw [IntWalk.i64_in _ (by omega)]; rfl) inferInstance) rfl rfl
    · have he : i = ps.length := by omega
      subst he
      rw [List.take_length] at hal
      rw [hal] at h
      repeat (refine stp ?_)
      exact ret1 rfl (Ht.frm h)
end Go.Proofs

set_option linter.all false
set_option maxRecDepth 20000
set_option synthInstance.maxSize 100000
set_option synthInstance.maxHeartbeats 400000
namespace Go.Proofs
open Go Go.SL
attribute [local irreducible] CCall CO CC CX CD

/-! ### complete days, plain -/
theorem cpl_one {k : Nat} {x : LgL} {s : Lg} (rp : LgRep k x s) {d p : Int} : cplP x d [p] = withB x.hm s d p := by
  unfold cplP withB
  rw [List.all_cons, List.all_nil, Bool.and_true]
  unfold okPr
  rw [rp.ended, rp.ended, rp.peer]
  simp only [Bool.and_assoc]
theorem cpl_all {R : Ros} {k : Nat} {x : LgL} {s : Lg} (st : LgSt R k x s) {d : Int} : cplP x d (peersR R x.hm) = complB x.hm s d := by
  have hm := st.hm
  unfold cplP complB peersR
  rw [if_neg (by omega), st.rp.ended]
  congr 1
  have hl : R.nodes.toNat = s.pts.length := by have := st.ok.pts; omega
  rw [hl, Bool.eq_iff_iff, List.all_eq_true, List.all_eq_true]
  constructor
  · intro h n hn
    by_cases he : (n : Int) = x.hm
    · rw [decide_eq_true he, Bool.true_or]
    · have h1 := h (n : Int) (List.mem_filter.2 ⟨List.mem_map.2 ⟨n, hn, rfl⟩, neB_t he⟩)
      unfold okPr at h1
      rw [st.rp.ended, Bool.and_eq_true] at h1
      rw [h1.2, Bool.or_true]
  · intro h n hn
    obtain ⟨h1, h2⟩ := List.mem_filter.1 hn
    obtain ⟨i, hi, rfl⟩ := List.mem_map.1 h1
    have h3 : (Int.ofNat i) ≠ x.hm := by simpa [neB] using h2
    have h4 := h i hi
    have h5 := List.mem_range.1 hi
    unfold okPr
    rw [st.rp.ended, st.rp.peer]
    have h6 : peerB x.hm s (Int.ofNat i) = true := peerB_iff.2 ⟨⟨Int.natCast_nonneg _, by show (i : Int) < _; omega⟩, h3⟩
    rw [h6, Bool.true_and]
    rw [decide_eq_false (show ¬ (i : Int) = x.hm from h3), Bool.false_or] at h4
    exact h4
end Go.Proofs

set_option linter.all false
set_option maxRecDepth 20000
set_option synthInstance.maxSize 100000
set_option synthInstance.maxHeartbeats 400000
namespace Go.Proofs
open Go Go.SL
attribute [local irreducible] CCall CO CC CX CD

/-! ### is a text among others -/
end Go.Proofs
