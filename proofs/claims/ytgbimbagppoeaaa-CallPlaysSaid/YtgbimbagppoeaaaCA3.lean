import Derived.Test.YtgbimbagppoeaaaCA2
set_option linter.all false
set_option synthInstance.maxSize 100000
set_option synthInstance.maxHeartbeats 400000
namespace Go.Proofs
open Go Go.SL
attribute [local irreducible] CCall CO CC CX CD

def inSt (st : Int) (x : Cll) : Bool := decide (x.2.2.2.2 = st)
theorem filter_step {α : Type} [Inhabited α] (f : α → Bool) {xs : List α} {i : Nat} (hi : i < xs.length) : (xs.take (i + 1)).filter f = (xs.take i).filter f ++ (if f xs[i]! then [xs[i]!] else []) := by
  rw [List.take_succ, getB hi, List.filter_append]
  congr 1
  show List.filter f [xs[i]!] = _
  simp only [List.filter]
  split <;> simp_all
theorem filter_take_len {α : Type} (f : α → Bool) {xs : List α} {i : Nat} : ((xs.take i).filter f).length ≤ xs.length := by
  have h1 := List.length_filter_le f (xs.take i)
  have h2 := List.length_take_le' i xs
  omega
theorem cl_all {L K b lv} {st : Int} {xs : List Cll} [ca : Cl L ⟨b, 2, none⟩ lv] [rs : RdS L lv encCl xs] (hn : xs.length ≤ 400000) (h : ∀ v, Ht (own encCl 78 v (xs.filter (inSt st)) :: L) (K v)) : Ht L (CCall Try.prog 45 [.pointer (some ⟨b, 0, none⟩), .int .i64 st] K) := by
  refine ccall2 Try.func45 rfl (by decide) Try.ntmps45 (by rfl) (by decide) ?_
  repeat (refine stp ?_)
  intro bs
  repeat (refine stp ?_)
  intro bl
  repeat (refine stp ?_)
  refine cl_each ?_
  intro c
  repeat (refine stp ?_)
  refine Ht.conseq (L' := own encCl 78 (.slice none 0 0) [] :: _) ?_ (fun w s => own_nil.2 s)
  refine ht_rangeFunc (β := Value) xs.length (fun i => [.int .i64 i, .agg (encCl.f (xs[i]!)).toArray]) (fun _ _ => True) (fun i gv => own encCl 78 gv ((xs.take i).filter (inSt st)) :: pto c (cells [.pointer (some ⟨b, 0, none⟩)] 64) :: pto bl (cells [gv] 74) :: pto bs (cells [.int .i64 st] 3) :: L) noX
    ⟨_, Try.func184, by decide, rfl⟩ (fun _ => rfl) (.slice none 0 0) trivial (fun e h s => (inferInstance : Frm _ (own encCl 78 (.slice none 0 0) [] :: pto c (cells [.pointer (some ⟨b, 0, none⟩)] 64) :: pto bl (cells [(.slice none 0 0)] 74) :: pto bs (cells [.int .i64 st] 3) :: L)).h _ _ s) ?_ ?_ ?_ (fun dd j => ht_noX)
  · intro l A B K' hA hy hd hs
    refine cl_iter (b := b) (c := c) (lv := lv) (XS := fun _ => xs) (vals := fun i => xs[i]!) (by omega) (fun i hi w s => ?_) (fun i hi => ⟨rfl, fun _ => rfl⟩) hy hd hs
    obtain ⟨gv, _, sx⟩ := hA i hi w s
    exact ⟨(inferInstance : Cl (own encCl 78 gv ((xs.take i).filter (inSt st)) :: pto c (cells [.pointer (some ⟨b, 0, none⟩)] 64) :: pto bl (cells [gv] 74) :: pto bs (cells [.int .i64 st] 3) :: L) ⟨c, 0, none⟩ _).h w sx, (inferInstance : Cl (own encCl 78 gv ((xs.take i).filter (inSt st)) :: pto c (cells [.pointer (some ⟨b, 0, none⟩)] 64) :: pto bl (cells [gv] 74) :: pto bs (cells [.int .i64 st] 3) :: L) ⟨b, 2, none⟩ lv).h w sx, (inferInstance : RdS (own encCl 78 gv ((xs.take i).filter (inSt st)) :: pto c (cells [.pointer (some ⟨b, 0, none⟩)] 64) :: pto bl (cells [gv] 74) :: pto bs (cells [.int .i64 st] 3) :: L) lv encCl xs).h w sx⟩
  · intro i hi gv _ l' dd r hr hok Q2 hnext _
    dsimp only [psE]
    have hl := filter_take_len (inSt st) (xs := xs) (i := i)
    have hst := filter_step (inSt st) hi
    repeat (refine stp ?_)
    intro bx
    repeat (refine stp ?_)
    refine rf_begin hr hok ?_
    repeat (refine stp ?_)
    refine ht_if ?_ ?_ <;> intro h0
    · repeat (refine stp ?_)
      intro b1
      repeat (refine stp ?_)
      refine Ht.own_lit encCl (b := b1) (n := 1) (xs := [xs[i]!]) rfl rfl (by decide) ?_
      refine co_append (e := encCl) (by rfl) (by simp; omega) (by simp; omega) ?_
      intro gv2
      refine Ht.one1 (v := gv2) ?_
      intro _
      repeat (refine stp ?_)
      rw [if_pos (by exact h0)] at hst
      rewrite [← hst]
      exact Ht.frm (hnext gv2 _ trivial)
    · rw [if_neg (by rw [show inSt st xs[i]! = false from h0]; decide), List.append_nil] at hst
      rewrite [← hst]
      repeat (refine stp ?_)
      exact Ht.frm (hnext gv _ trivial)
  · intro dd gv _
    rw [List.take_length]
    repeat (refine stp ?_)
    exact retD1 rfl (Ht.frm (h gv))
theorem cl_new {L K} {g : Int} (h1 : g < 0 ∨ 500 < g → Ht L (K (.tuple #[.pointer none, .int .i64 1])))
    (h2 : 0 ≤ g → g ≤ 500 → ∀ b, Ht (pto b (cells [.int .i64 g, .int .i64 0, .slice none 0 0, .slice none 0 0] 204) :: L) (K (.tuple #[.pointer (some ⟨b, 0, none⟩), .int .i64 0]))) : Ht L (CCall Try.prog 33 [.int .i64 g] K) := by
  refine ccall1 Try.func33 rfl (by decide) Try.ntmps33 (by rfl) (by decide) ?_
  repeat (refine stp ?_)
  refine ht_guard ?_ ?_ <;> intro h0 <;> simp only [decide_eq_true_eq, decide_eq_false_iff_not] at h0
  · repeat (refine stp ?_)
    exact ret2 rfl (h1 (.inl h0))
  · repeat (refine stp ?_)
    refine ht_if ?_ ?_ <;> intro h3 <;> simp only [decide_eq_true_eq, decide_eq_false_iff_not] at h3
    · repeat (refine stp ?_)
      exact ret2 rfl (h1 (.inr h3))
    · repeat (refine stp ?_)
      intro b
      repeat (refine stp ?_)
      exact ret2 rfl (h2 (by omega) (by omega) b)
theorem Ht.three {α β : Type} {A : HP} {B : α → HP} {C : β → HP} {x : α} {y : β} {L1 L2 R : List HP} {G : World → Prop} (q : Pull B L1 x L2) (r : Pull C L2 y R) (h : Ht (C y :: B x :: A :: R) G) : Ht (A :: L1) G := by
  refine Ht.two q ?_
  intro w s
  refine h w ?_
  have s1 : Sat (B x :: A :: C y :: R) w := seps_mono (fun _ a => a) (fun _ t => seps_mono (fun _ a => a) (fun _ t => r.h _ _ t) t) s
  exact s1.perm ((List.Perm.swap (C y) A R).cons (B x) |>.trans (List.Perm.swap (C y) (B x) (A :: R)))
def mkE (e : Int) (xs : List Cll) (fs : List (ByteArray × Bool)) (name : ByteArray) (am on : Int) : Int :=
  if name = ⟨#[]⟩ ∨ (16 : Int) < name.size then 3 else if am < 1 ∨ 2147483648 ≤ am then 1 else if ¬(1 ≤ on ∧ on ≤ 500) then 2 else if on ≤ e ∨ on < lastDay xs then 8
  else if thas name fs = true then 10 else if (opnM name xs).isSome = true then 6 else if (1000 : Int) ≤ xs.length then 7 else 0
theorem cl_make {L L1 L2 R K b lv tv name} {g e am on : Int} {xs : List Cll} {fs : List (ByteArray × Bool)} [p : Pull (pto b) L (cells [.int .i64 g, .int .i64 e, lv, tv] 204) L1] [q : Pull (own encCl 78 lv) L1 xs L2] [r : Pull (own enc_sb 291 tv) L2 fs R] (hs : Srt fs) (hf : fs.length ≤ 900000) (hn : xs.length ≤ 400000)
    (h : ∀ lv', Ht (own enc_sb 291 tv fs :: own encCl 78 lv' (if mkE e xs fs name am on = 0 then xs ++ [((xs.length : Int), name, am, on, 0)] else xs) :: pto b (cells [.int .i64 g, .int .i64 e, lv', tv] 204) :: R) (K (.tuple #[.int .i64 (if mkE e xs fs name am on = 0 then xs.length else 0), .int .i64 (mkE e xs fs name am on)]))) :
    Ht L (CCall Try.prog 34 [.pointer (some ⟨b, 0, none⟩), .string name, .int .i64 am, .int .i64 on] K) := by
  refine Ht.pull p (Ht.three q r ?_)
  refine ccall4 Try.func34 rfl (by decide) Try.ntmps34 (by rfl) (by decide) ?_
  repeat (refine stp ?_)
  refine ht_guard ?_ ?_ <;> intro h0 <;> simp only [decide_eq_true_eq, decide_eq_false_iff_not] at h0
  · repeat (refine stp ?_)
    have hk : mkE e xs fs name am on = 3 := by unfold mkE; exact if_pos (.inl h0)
    have hh := h lv
    rw [hk, if_neg (by decide), if_neg (by decide)] at hh
    repeat (refine stp ?_)
    exact ret2 rfl (Ht.frm hh)
  repeat (refine stp ?_)
  refine ht_if ?_ ?_ <;> intro h1 <;> simp only [decide_eq_true_eq, decide_eq_false_iff_not] at h1
  · repeat (refine stp ?_)
    have hk : mkE e xs fs name am on = 3 := by unfold mkE; exact if_pos (.inr h1)
    have hh := h lv
    rw [hk, if_neg (by decide), if_neg (by decide)] at hh
    repeat (refine stp ?_)
    exact ret2 rfl (Ht.frm hh)
  have n1 : ¬(name = ⟨#[]⟩ ∨ (16 : Int) < name.size) := fun hh => hh.elim h0 h1
  repeat (refine stp ?_)
  refine ht_guard ?_ ?_ <;> intro h2 <;> simp only [decide_eq_true_eq, decide_eq_false_iff_not] at h2
  · repeat (refine stp ?_)
    have hk : mkE e xs fs name am on = 1 := by unfold mkE; rw [if_neg n1]; exact if_pos (.inl h2)
    have hh := h lv
    rw [hk, if_neg (by decide), if_neg (by decide)] at hh
    repeat (refine stp ?_)
    exact ret2 rfl (Ht.frm hh)
  repeat (refine stp ?_)
  refine ht_if ?_ ?_ <;> intro h3 <;> simp only [decide_eq_true_eq, decide_eq_false_iff_not] at h3
  · repeat (refine stp ?_)
    have hk : mkE e xs fs name am on = 1 := by unfold mkE; rw [if_neg n1]; exact if_pos (.inr h3)
    have hh := h lv
    rw [hk, if_neg (by decide), if_neg (by decide)] at hh
    repeat (refine stp ?_)
    exact ret2 rfl (Ht.frm hh)
  have n2 : ¬(am < 1 ∨ 2147483648 ≤ am) := fun hh => hh.elim h2 h3
  repeat (refine stp ?_)
  refine cl_day ?_
  repeat (refine stp ?_)
  refine ht_if ?_ ?_ <;> intro h4 <;> simp only [Bool.not_eq_true', Bool.not_eq_false', decide_eq_true_eq, decide_eq_false_iff_not] at h4
  · repeat (refine stp ?_)
    have hk : mkE e xs fs name am on = 2 := by unfold mkE; rw [if_neg n1, if_neg n2]; exact if_pos h4
    have hh := h lv
    rw [hk, if_neg (by decide), if_neg (by decide)] at hh
    repeat (refine stp ?_)
    exact ret2 rfl (Ht.frm hh)
  repeat (refine stp ?_)
  refine ht_guard ?_ ?_ <;> intro h5 <;> simp only [decide_eq_true_eq, decide_eq_false_iff_not] at h5
  · repeat (refine stp ?_)
    have hk : mkE e xs fs name am on = 8 := by unfold mkE; rw [if_neg n1, if_neg n2, if_neg (fun hh => hh h4)]; exact if_pos (.inl h5)
    have hh := h lv
    rw [hk, if_neg (by decide), if_neg (by decide)] at hh
    repeat (refine stp ?_)
    exact ret2 rfl (Ht.frm hh)
  repeat (refine stp ?_)
  refine cl_last (xs := xs) (by omega) ?_
  repeat (refine stp ?_)
  refine ht_if ?_ ?_ <;> intro h6 <;> simp only [decide_eq_true_eq, decide_eq_false_iff_not] at h6
  · repeat (refine stp ?_)
    have hk : mkE e xs fs name am on = 8 := by unfold mkE; rw [if_neg n1, if_neg n2, if_neg (fun hh => hh h4)]; exact if_pos (.inr h6)
    have hh := h lv
    rw [hk, if_neg (by decide), if_neg (by decide)] at hh
    repeat (refine stp ?_)
    exact ret2 rfl (Ht.frm hh)
  have n5 : ¬(on ≤ e ∨ on < lastDay xs) := fun hh => hh.elim h5 h6
  repeat (refine stp ?_)
  refine sb_get hs (by omega) ?_
  repeat (refine stp ?_)
  refine ht_if ?_ ?_ <;> intro h7
  · repeat (refine stp ?_)
    have hk : mkE e xs fs name am on = 10 := by unfold mkE; rw [if_neg n1, if_neg n2, if_neg (fun hh => hh h4), if_neg n5]; exact if_pos h7
    have hh := h lv
    rw [hk, if_neg (by decide), if_neg (by decide)] at hh
    repeat (refine stp ?_)
    exact ret2 rfl (Ht.frm hh)
  repeat (refine stp ?_)
  refine cl_open (xs := xs) (by omega) ?_
  repeat (refine stp ?_)
  intro bx
  repeat (refine stp ?_)
  refine ht_if ?_ ?_ <;> intro h8
  · repeat (refine stp ?_)
    have hk : mkE e xs fs name am on = 6 := by unfold mkE; rw [if_neg n1, if_neg n2, if_neg (fun hh => hh h4), if_neg n5, if_neg (by rw [h7]; decide)]; exact if_pos h8
    have hh := h lv
    rw [hk, if_neg (by decide), if_neg (by decide)] at hh
    repeat (refine stp ?_)
    exact ret2 rfl (Ht.frm hh)
  repeat (refine stp ?_)
  refine cl_len (xs := xs) ?_
  repeat (refine stp ?_)
  refine ht_if ?_ ?_ <;> intro h9 <;> simp only [decide_eq_true_eq, decide_eq_false_iff_not] at h9
  · repeat (refine stp ?_)
    have hk : mkE e xs fs name am on = 7 := by unfold mkE; rw [if_neg n1, if_neg n2, if_neg (fun hh => hh h4), if_neg n5, if_neg (by rw [h7]; decide), if_neg (by rw [h8]; decide)]; exact if_pos h9
    have hh := h lv
    rw [hk, if_neg (by decide), if_neg (by decide)] at hh
    repeat (refine stp ?_)
    exact ret2 rfl (Ht.frm hh)
  have hk : mkE e xs fs name am on = 0 := by unfold mkE; rw [if_neg n1, if_neg n2, if_neg (fun hh => hh h4), if_neg n5, if_neg (by rw [h7]; decide), if_neg (by rw [h8]; decide)]; exact if_neg h9
  rw [hk, if_pos rfl, if_pos rfl] at h
  repeat (refine stp ?_)
  refine ht_draw Try.can34x19 Try.mixed (by kernel_rfl) ?_
  repeat (refine stp ?_)
  refine cl_len (xs := xs) ?_
  repeat (refine stp ?_)
  intro b1
  repeat (refine stp ?_)
  refine Ht.own_lit encCl (b := b1) (n := 1) (xs := [((xs.length : Int), name, am, on, (0 : Int))]) rfl rfl (by decide) ?_
  refine co_append (e := encCl) (by rfl) (by simp; omega) (by simp; omega) ?_
  intro lv2
  refine Ht.one1 (v := lv2) ?_
  intro _
  repeat (refine stp ?_)
  refine cl_len (xs := xs ++ [((xs.length : Int), name, am, on, (0 : Int))]) ?_
  repeat (refine stp ?_)
  rewrite [show IntKind.i64.wrap (((xs ++ [((xs.length : Int), name, am, on, (0 : Int))]).length : Int) - 1) = xs.length from by rw [IntWalk.i64_in _ (by simp; omega)]; simp]
  exact ret2 rfl (Ht.frm (h lv2))
def meetM (name : ByteArray) (xs : List Cll) : List Cll := match opnM name xs with
  | none => xs
  | some x => xs.set x.1.toNat (x.1, x.2.1, x.2.2.1, x.2.2.2.1, 1)
theorem opn_mem {name : ByteArray} {xs : List Cll} {x : Cll} (h : opnM name xs = some x) : ∃ i, i < xs.length ∧ xs[i]! = x ∧ x.2.1 = name ∧ x.2.2.2.2 = 0 := by
  have hm := List.mem_of_find?_eq_some h
  have hp := List.find?_some h
  obtain ⟨i, hi, he⟩ := List.getElem_of_mem hm
  simp only [isOpn, Bool.and_eq_true, decide_eq_true_eq] at hp
  exact ⟨i, hi, by rw [getElem!_pos xs i hi, he], hp⟩
theorem cl_meet {L L1 R K b lv tv name} {g e : Int} {xs : List Cll} [p : Pull (pto b) L (cells [.int .i64 g, .int .i64 e, lv, tv] 204) L1] [q : Pull (own encCl 78 lv) L1 xs R] (hn : xs.length ≤ 400000) (hnum : ∀ i, i < xs.length → (xs[i]!).1 = i)
    (h : Ht (own encCl 78 lv (meetM name xs) :: pto b (cells [.int .i64 g, .int .i64 e, lv, tv] 204) :: R) (K (.tuple #[.int .i64 (((opnM name xs).map (·.2.2.1)).getD 0), .int .i64 (if (opnM name xs).isSome then 0 else 13)]))) :
    Ht L (CCall Try.prog 35 [.pointer (some ⟨b, 0, none⟩), .string name] K) := by
  refine Ht.pull p (Ht.two q ?_)
  refine ccall2 Try.func35 rfl (by decide) Try.ntmps35 (by rfl) (by decide) ?_
  repeat (refine stp ?_)
  refine cl_open (xs := xs) (by omega) ?_
  repeat (refine stp ?_)
  intro bx
  repeat (refine stp ?_)
  refine ht_if ?_ ?_ <;> intro h0 <;> simp only [Bool.not_eq_true', Bool.not_eq_false'] at h0
  · have hf : opnM name xs = none := by cases h1 : opnM name xs <;> simp_all
    have e1 : meetM name xs = xs := by unfold meetM; rw [hf]
    rw [e1, hf] at h
    repeat (refine stp ?_)
    exact ret2 rfl (Ht.frm h)
  · obtain ⟨x, hf⟩ := Option.isSome_iff_exists.1 h0
    obtain ⟨i, hi, hx, _, _⟩ := opn_mem hf
    have hxi : x.1 = i := by rw [← hx]; exact hnum i hi
    have e1 : meetM name xs = xs.set i (x.1, x.2.1, x.2.2.1, x.2.2.2.1, 1) := by unfold meetM; rw [hf]; simp only [hxi, Int.toNat_natCast]
    rw [e1, hf] at h
    rewrite [hf]
    rewrite [Option.getD_some]
    repeat (refine stp ?_)
    refine ht_draw Try.can35x6 Try.mixed (by kernel_rfl) ?_
    repeat (refine stp ?_)
    rewrite [hxi]
    refine cd_index (by omega) ?_
    intro hb _
    repeat (refine stp ?_)
    refine co_setEl (e := encCl) (el := 78) (x.1, x.2.1, x.2.2.1, x.2.2.2.1, 1) (by rw [hx]; rfl) (by simp) ?_
    repeat (refine stp ?_)
    exact ret2 rfl (Ht.frm h)
theorem cl_failed {L L1 R K b lv tv} {g e : Int} {fs : List (ByteArray × Bool)} [p : Pull (pto b) L (cells [.int .i64 g, .int .i64 e, lv, tv] 204) L1] [r : Pull (own enc_sb 291 tv) L1 fs R] (hn : fs.length ≤ 400000)
    (h : ∀ v, Ht (own encStr 9 v (fs.map (·.1)) :: own enc_sb 291 tv fs :: pto b (cells [.int .i64 g, .int .i64 e, lv, tv] 204) :: R) (K v)) :
    Ht L (CCall Try.prog 123 [.pointer (some ⟨b, 0, none⟩)] K) := by
  refine Ht.pull p (Ht.two r ?_)
  refine ccall1 Try.func123 rfl (by decide) Try.ntmps123 (by rfl) (by decide) ?_
  repeat (refine stp ?_)
  intro p3
  repeat (refine stp ?_)
  refine sb_each (b := b) (o := 3) (l := [.int .i64 g, .int .i64 e, lv, tv]) (xs := fs) ?_
  intro c
  repeat (refine stp ?_)
  refine Ht.conseq (L' := own encStr 9 (.slice none 0 0) [] :: _) ?_ (fun w s => own_nil.2 s)
  refine ht_rangeFunc (β := Value) fs.length (fun i => [.string (fs[i]!).1, .bool (fs[i]!).2]) (fun _ _ => True) (fun i gv => own encStr 9 gv ((fs.take i).map (·.1)) :: pto c (cells [tv] 198) :: own enc_sb 291 tv fs :: pto p3 (cells [gv] 76) :: pto b (cells [.int .i64 g, .int .i64 e, lv, tv] 204) :: R) noX
    ⟨_, Try.func249, by decide, rfl⟩ (fun _ => rfl) (.slice none 0 0) trivial (fun e' h' s => (inferInstance : Frm _ (own encStr 9 (.slice none 0 0) [] :: pto c (cells [tv] 198) :: own enc_sb 291 tv fs :: pto p3 (cells [(.slice none 0 0)] 76) :: pto b (cells [.int .i64 g, .int .i64 e, lv, tv] 204) :: R)).h _ _ s) ?_ ?_ ?_ (fun dd j => ht_noX)
  · intro l' A B K' hA hy hd hs
    refine sb_iter (b := c) (v := tv) (by omega) (fun i hi w s => ?_) hy hd hs
    obtain ⟨gv, _, sx⟩ := hA i hi w s
    exact ⟨(inferInstance : Blk (own encStr 9 gv ((fs.take i).map (·.1)) :: pto c (cells [tv] 198) :: own enc_sb 291 tv fs :: pto p3 (cells [gv] 76) :: pto b (cells [.int .i64 g, .int .i64 e, lv, tv] 204) :: R) c [tv]).h w sx, (inferInstance : RdS (own encStr 9 gv ((fs.take i).map (·.1)) :: pto c (cells [tv] 198) :: own enc_sb 291 tv fs :: pto p3 (cells [gv] 76) :: pto b (cells [.int .i64 g, .int .i64 e, lv, tv] 204) :: R) tv enc_sb fs).h w sx⟩
  · intro i hi gv _ l' dd r hr hok Q2 hnext _
    dsimp only [psE]
    repeat (refine stp ?_)
    refine rf_begin hr hok ?_
    repeat (refine stp ?_)
    intro b1
    repeat (refine stp ?_)
    refine Ht.own_lit encStr (b := b1) (n := 1) (xs := [(fs[i]!).1]) rfl rfl (by decide) ?_
    refine co_append (e := encStr) (by rfl) (by simp; omega) (by simp; omega) ?_
    intro gv2
    refine Ht.one1 (v := gv2) ?_
    intro _
    rewrite [show (fs.take i).map (·.1) ++ [(fs[i]!).1] = (fs.take (i + 1)).map (·.1) from by rw [List.take_succ, getB hi, List.map_append]; rfl]
    repeat (refine stp ?_)
    exact Ht.frm (hnext gv2 _ trivial)
  · intro dd gv _
    rw [List.take_length]
    repeat (refine stp ?_)
    exact retD1 rfl (Ht.frm (h gv))
end Go.Proofs
