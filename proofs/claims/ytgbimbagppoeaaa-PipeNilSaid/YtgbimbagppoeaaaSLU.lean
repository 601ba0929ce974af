import Derived.Test.YtgbimbagppoeaaaSLS
import Derived.Laws.IdiomCopy
import Derived.Lib.Overlaps
namespace Go.SL
open Go
set_option linter.all false

/-! ### Writing into slices of one's own; copies; clearing -/
instance (priority := high+1) {b o : Nat} : AAdd ⟨b, o, none⟩ 0 ⟨b, o, none⟩ := ⟨by simp [Addr.add]⟩

theorem oneCell_of {v : Value} (h : v.oneCell = true) : v.oneCell' = true := by cases v <;> simp_all [Value.oneCell, Value.oneCell']

abbrev blk (b : Nat) (l : List Value) (T : TypeId) (fz : Nat × Nat) : HP := pto b (.cells l.toArray T fz)

theorem raw_in {α : Type} {e : Enc α} {w : World} {b : Nat} {T : TypeId} {fz : Nat × Nat} {pre post : List Value} {xs : List α} {cap : Nat} (hb : w.heap[b]? = some (.cells (pre ++ xs.flatMap e.f ++ post).toArray T fz))
    (h1 : xs.length ≤ cap) (h2 : cap ≤ 9223372036854775807) : SlIn w (.slice (some ⟨b, pre.length, none⟩) xs.length cap) e xs := by
  refine .inr ⟨_, cap, rfl, h1, h2, fun i x hx j u hu => ?_⟩
  have := flat_get e hx hu
  have hlt := (List.getElem?_eq_some_iff.1 this).1
  have ha : (Addr.add ⟨b, pre.length, none⟩ (i * e.k + j)) = ⟨b, pre.length + (i * e.k + j), none⟩ := by by_cases h : i * e.k + j = 0 <;> simp [Addr.add, h]
  rw [ha]
  simp only [World.cell?, hb, Option.isSome_none, Bool.false_eq_true, if_false, List.getElem?_toArray]
  rw [List.append_assoc, List.getElem?_append_right (by omega), Nat.add_sub_cancel_left, List.getElem?_append_left (by omega)]
  exact this

theorem Ht.own_open {α : Type} {e : Enc α} {T : TypeId} {v : Value} {xs : List α} {L R : List HP} {G : World → Prop} [p : Pull (own e T v) L xs R]
    (h0 : v = .slice none 0 0 → xs = [] → Ht R G)
    (h1 : ∀ b pre post cap fz, v = .slice (some ⟨b, List.length pre, none⟩) xs.length cap → xs.length ≤ cap → cap ≤ 9223372036854775807 → cap * e.k ≤ xs.length * e.k + List.length post →
      fzOk fz (pre.length + xs.length * e.k + post.length) → Ht (blk b (pre ++ xs.flatMap e.f ++ post) T fz :: R) G) : Ht L G := fun w s => by
  obtain ⟨g1, g2, u, ho, l⟩ := p.sat s
  rcases ho with ⟨rfl, rfl⟩ | ⟨b, pre, post, cap, fz, hv, a1, a2, a3, a4, a5⟩
  · exact h0 rfl rfl w (Sat.tail (A := own e T (.slice none 0 0) []) ⟨g1, g2, u, .inl ⟨rfl, rfl⟩, l⟩)
  · exact h1 b pre post cap fz hv a1 a2 a3 a5 w ⟨g1, g2, u, a4, l⟩
theorem Ht.own_close {α : Type} (e : Enc α) (xs : List α) (pre post : List Value) {cap n : Nat} {T : TypeId} {b : Nat} {l : List Value} {fz : Nat × Nat} {L R : List HP} {G : World → Prop} [p : Pull (pto b) L (.cells l.toArray T fz) R]
    (hl : l = pre ++ xs.flatMap e.f ++ post) (hn : n = xs.length) (h1 : n ≤ cap) (h2 : cap ≤ 9223372036854775807) (h3 : cap * e.k ≤ n * e.k + post.length) (h4 : fzOk fz l.length)
    (h : Ht (own e T (.slice (some ⟨b, pre.length, none⟩) n cap) xs :: R) G) : Ht L G := fun w s => by
  subst hn; subst hl
  refine h w (seps_mono (fun g hb => .inr ⟨b, pre, post, cap, fz, rfl, h1, h2, h3, hb, ?_⟩) (fun _ l => l) (p.sat s))
  rw [List.length_append, List.length_append, flat_len] at h4
  exact h4

section sl
variable {P : Program} {ρ : Option Nat} {N : Nat} {D : List Deferred} {E : List (Nat × Value)} {L L' R : List HP} {Q : Exit → Act → World → Prop} {ops : Array Oper} {rest : List Oper}
  {d : Nat} {op : Op} {ty : TypeId} {pos : String} {af : Array Edge}

theorem store_raw {w : World} {b o : Nat} {l vs : List Value} {T : TypeId} {fz : Nat × Nat} (s : Sat (blk b l T fz :: R) w) (h1 : ∀ v ∈ vs, v.oneCell = true) (ho : o + vs.length ≤ l.length) (hf : fzOk fz l.length) :
    (storeCells ⟨b, o, none⟩ vs).run P w = .ok () (w.setCells b o vs) ∧ Sat (blk b (l.take o ++ vs ++ l.drop (o + vs.length)) T fz :: R) (w.setCells b o vs) := by
  have hb := s.get
  have hst := run_storeCells_cells (P := P) b o vs 0 w
    (fun j hj => by
      simp only [World.cell?, hb, Option.isSome_none, Bool.false_eq_true, if_false, List.getElem?_toArray, Nat.add_zero]
      rw [Option.isSome_iff_exists]; exact ⟨_, List.getElem?_eq_getElem (by omega)⟩)
    (fun j hj => by
      simp only [World.frozen?, hb, Nat.add_zero]
      have := hf (o + j) (by omega)
      simpa using this)
    (fun v hv => oneCell_of (h1 v hv))
  simp only [Nat.add_zero] at hst
  obtain ⟨k1, k2, k3⟩ := setCells_heap (vs := vs) (o := o) hb ho
  exact ⟨hst, s.set k3 k1 k2⟩

theorem flat_set {α : Type} (e : Enc α) {xs : List α} {m : Nat} (x' : α) (hm : m < xs.length) : (xs.set m x').flatMap e.f = (xs.flatMap e.f).take (m * e.k) ++ e.f x' ++ (xs.flatMap e.f).drop (m * e.k + e.k) := by
  have h0 : xs = xs.take m ++ xs.drop m := (List.take_append_drop m xs).symm
  have hl : (xs.take m).length = m := by simp; omega
  have e1 : (xs.flatMap e.f).take (m * e.k) = (xs.take m).flatMap e.f := by
    conv => lhs; rw [h0]
    rw [List.flatMap_append, List.take_left' (by rw [flat_len, hl])]
  have e2 : (xs.flatMap e.f).drop (m * e.k + e.k) = (xs.drop (m + 1)).flatMap e.f := by
    conv => lhs; rw [(List.take_append_drop (m + 1) xs).symm]
    rw [List.flatMap_append, List.drop_left' (by rw [flat_len]; simp; rw [Nat.min_eq_left (by omega), Nat.add_mul, Nat.one_mul])]
  rw [e1, e2, List.set_eq_take_append_cons_drop, if_pos hm]
  simp [List.flatMap_append]

/-- a store into an element -/
theorem co_setEl {α : Type} [Inhabited α] {e : Enc α} {el T : TypeId} {n b0 : Nat} {z : Value} {x y : Operand} {v sv : Value} {vs : List Value} {xs : List α} {k m j : Nat} (x' : α)
    [ti : TyI P T n b0 z] [ex : Ev E x (.pointer (some (elP sv k m j)))] [ey : Ev E y v] [vc : VC v vs] [on : One vs] [hn : Len vs n] [p : Pull (own e el sv) L xs R] [hk : EqNat e.k k] [ib : InB m xs.length]
    (hx : (e.f xs[m]!).take j ++ vs ++ (e.f xs[m]!).drop (j + vs.length) = e.f x') (hj : j + vs.length ≤ k)
    (h : Ht (own e el sv (xs.set m x') :: R) (CO P ρ N D E ops rest Q)) :
    Ht L (CO P ρ N D E ops (⟨none, .store T x y, ty, pos, af, none⟩ :: rest) Q) :=
  co_skip (L' := own e el sv (xs.set m x') :: R) (by intro c h; cases h) (fun a w r s => by
    have hl : vs.length = n := hn.h
    have hm := ib.h
    have hke := hk.h
    subst hke
    obtain ⟨g1, g2, u, ho, l⟩ := p.sat s
    rcases ho with ⟨_, rfl⟩ | ⟨b, pre, post, cap, fz, hv, a1, a2, a3, a4, a5⟩
    · simp at hm
    · have hel : elP sv e.k m j = ⟨b, pre.length + (m * e.k + j), none⟩ := by
        rw [hv]; simp only [elP]
        by_cases h : m * e.k + j = 0 <;> simp [Addr.add, h]
      have hmk : m * e.k + e.k ≤ xs.length * e.k := by
        have : (m + 1) * e.k ≤ xs.length * e.k := Nat.mul_le_mul_right _ hm
        rw [Nat.add_mul] at this; omega
      have hfl := flat_len e xs
      obtain ⟨s1, s2⟩ := store_raw (P := P) (R := R) (o := pre.length + (m * e.k + j)) (vs := vs) ⟨g1, g2, u, a4, l⟩ on.h (by simp only [List.length_append, hfl]; omega) (by simpa [hfl, Nat.add_assoc] using a5)
      refine ⟨_, ?_, seps_mono (fun g hb => .inr ⟨b, pre, post, cap, fz, by simpa using hv, by simpa using a1, a2, by simpa using a3, ?_, by simpa using a5⟩) (fun _ l => l) s2⟩
      · simp only [execOp, ex.h N D a r, ey.h N D a r, Instr.storeAt, Instr.sureAddr, Sem.run_bind, Sem.run_pure, Result.andThen, storeVar, vc.h, run_size ti, List.size_toArray, hl, ne_eq, not_true, if_false, hel]
        simp [s1, Result.andThen]
      · rw [show g b = some _ from hb, flat_set e x' hm, ← hx]
        have hxm : e.f xs[m]! = ((xs.flatMap e.f).drop (m * e.k)).take e.k := by
          apply List.ext_getElem?
          intro i
          rw [List.getElem?_take]
          split
          · rename_i hi
            rw [List.getElem?_drop]
            have := flat_get e (getB hm) (j := i) (u := (e.f xs[m]!)[i]'(by rw [e.hk]; exact hi)) (List.getElem?_eq_getElem _)
            rw [this, List.getElem?_eq_getElem]
          · rw [List.getElem?_eq_none (by rw [e.hk]; omega)]
        congr 2
        rw [hxm]
        apply congrArg
        have t1 : (pre ++ xs.flatMap e.f ++ post).take (pre.length + (m * e.k + j)) = pre ++ ((xs.flatMap e.f).take (m * e.k) ++ (((xs.flatMap e.f).drop (m * e.k)).take e.k).take j) := by
          rw [List.append_assoc, List.take_append, List.take_of_length_le (by omega), Nat.add_sub_cancel_left, List.take_append_of_le_length (by omega), List.take_take, Nat.min_eq_left (by omega), List.take_add]
        have t2 : (pre ++ xs.flatMap e.f ++ post).drop (pre.length + (m * e.k + j) + vs.length) = ((((xs.flatMap e.f).drop (m * e.k)).take e.k).drop (j + vs.length) ++ (xs.flatMap e.f).drop (m * e.k + e.k)) ++ post := by
          rw [List.append_assoc, List.drop_append, List.drop_eq_nil_of_le (by omega), List.nil_append, show pre.length + (m * e.k + j) + vs.length - pre.length = m * e.k + (j + vs.length) from by omega, List.drop_append_of_le_length (by omega)]
          congr 1
          rw [← List.drop_drop (i := j + vs.length) (j := m * e.k), ← List.drop_drop (i := e.k) (j := m * e.k)]
          generalize (xs.flatMap e.f).drop (m * e.k) = f
          conv => lhs; rw [← List.take_append_drop e.k f]
          by_cases hlt : j + vs.length ≤ (f.take e.k).length
          · rw [List.drop_append_of_le_length hlt]
          · have : (f.take e.k).length = min e.k f.length := by simp
            rw [List.drop_append, @List.drop_eq_nil_of_le _ (f.take e.k) _ (by omega)]
            have hff : f.length ≤ e.k := by omega
            simp [List.drop_eq_nil_of_le hff]
        rw [t1, t2]
        simp only [List.append_assoc]) h

theorem run_first {α : Type} {e : Enc α} {w : World} {v : Value} {ys : List α} {m : Nat} (h : SlIn w v e ys) (hm : m ≤ ys.length) : (Builtin.firstCells e.k m v).run P w = .ok ((ys.take m).flatMap e.f).toArray w := by
  rcases h with ⟨rfl, rfl⟩ | ⟨a, cap, rfl, h1, h2, h3⟩
  · simp [Builtin.firstCells]
  · simp only [Builtin.firstCells]
    have := run_loadCells (P := P) (w := w) (a := a) (vs := (ys.take m).flatMap e.f) (fun j u hj => by
      have hlt := (List.getElem?_eq_some_iff.1 hj).1
      rw [flat_len] at hlt
      have hkp : 0 < e.k := by rcases Nat.eq_zero_or_pos e.k with h | h; · rw [h] at hlt; omega
                               · exact h
      have hq : j / e.k < (ys.take m).length := Nat.div_lt_of_lt_mul (by rw [Nat.mul_comm]; exact hlt)
      have hr : j % e.k < e.k := Nat.mod_lt _ hkp
      have hx := List.getElem?_eq_getElem hq
      have hy : (e.f (ys.take m)[j / e.k])[j % e.k]? = some ((e.f (ys.take m)[j / e.k])[j % e.k]'(by rw [e.hk]; exact hr)) := List.getElem?_eq_getElem _
      have e2 := flat_get e hx hy
      have e3 : j / e.k * e.k + j % e.k = j := by rw [Nat.mul_comm]; exact Nat.div_add_mod j e.k
      have hx' : ys[j / e.k]? = some (ys.take m)[j / e.k] := by
        rw [List.getElem?_take] at hx
        split at hx
        · exact hx
        · cases hx
      have e1 := h3 _ _ hx' _ _ hy
      rw [e3] at e1 e2
      rw [e2] at hj
      cases hj
      exact e1)
    rw [flat_len, List.length_take, Nat.min_eq_left hm] at this
    exact this

theorem flat_one {α : Type} {e : Enc α} {ys : List α} : ∀ v ∈ ys.flatMap e.f, v.oneCell = true := fun v hv => by
  obtain ⟨x, _, hx⟩ := List.mem_flatMap.1 hv; exact e.h1 x v hx

/-- 'copy(s, y)', of which just ys comes over, into a block that is known. -/
theorem co_copy_raw {α : Type} (e : Enc α) (ys : List α) {t tx el : TypeId} {k b0 : Nat} {z : Value} {x u : Operand} {xv uv : Value} {b o dn dc sn sc : Nat} {sa : Option Addr} {l : List Value} {T : TypeId} {fz : Nat × Nat}
    [td : TyD P t (.slice el)] [ti : TyI P el k b0 z] [ex : Ev E x xv] [eu : Ev E u uv] (hxv : xv = .slice (some ⟨b, o, none⟩) dn dc) (huv : uv = .slice sa sn sc) [p : Pull (pto b) L (.cells l.toArray T fz) R] [hk : EqNat e.k k]
    (hs : ∀ w, Sat L w → ∃ c' ys', SlIn w (.slice sa (ys ++ ys').length c') e (ys ++ ys')) (hl : ys.length = min sn dn) (ho : o + ys.length * k ≤ l.length) (hf : fzOk fz l.length)
    (h : Ht (blk b (l.take o ++ ys.flatMap e.f ++ l.drop (o + ys.length * k)) T fz :: R) (CO P ρ N D ((d, .int .i64 (min sn dn : Nat)) :: E) ops rest Q)) :
    Ht L (CO P ρ N D E ops (⟨some d, .call ⟨.builtin .copy, #[x, u], #[t, tx]⟩, ty, pos, af, none⟩ :: rest) Q) :=
  co_gen fun a w r s => by
    have hke := hk.h
    subst hke; subst hxv; subst huv
    obtain ⟨c', ys', hin⟩ := hs w s
    have hc := run_first (P := P) hin (m := min sn dn) (by rw [← hl]; simp)
    rw [← hl, List.take_left] at hc
    obtain ⟨s1, s2⟩ := store_raw (P := P) (R := R) (o := o) (vs := ys.flatMap e.f) (p.sat s) flat_one (by rw [flat_len]; exact ho) hf
    rw [flat_len] at s2
    have hc' : (Builtin.firstCells e.k (min sn dn) (.slice sa sn sc)).run P w = .ok (ys.flatMap e.f).toArray w := by
      rw [← hl, ← hc]; cases sa <;> rfl
    refine ⟨_, _, ?_, _, s2, h⟩
    simp only [execOp, resolve, invoke, builtin, Sem.run_bind, Sem.run_pure, Result.andThen, List.map_toArray, List.map_cons, List.map_nil, ex.h N D a r, eu.h N D a r]
    simp [Builtin.copy_, Builtin.lenOf, run_und td.h, run_size ti, Result.andThen, goInt, hc', s1]

theorem slSub_lit {b p n c k lo hi : Nat} (h : lo < c) : slSub (.slice (some ⟨b, p, none⟩) n c) k lo hi = .slice (some ⟨b, p + lo * k, none⟩) (hi - lo) (c - lo) := by
  simp only [slSub, if_neg (show ¬ c = lo by omega), Option.map_some]
  congr 2
  by_cases h : lo * k = 0 <;> simp [Addr.add, h]
theorem slSub_lit0 {b p n c k hi : Nat} : slSub (.slice (some ⟨b, p, none⟩) n c) k 0 hi = .slice (some ⟨b, p, none⟩) hi c := by
  simp [slSub, Addr.add]

/-- 's[lo:hi]', whatever lies there. -/
theorem co_slice_raw {T el : TypeId} {x : Operand} {lo hi : Option Operand} {a : Option Addr} {n c : Nat} {lv hv : Option Value} {l h : Int} {m n' : Nat} {k b : Nat} {z : Value} (v' : Value)
    [td : TyD P T (.slice el)] [ti : TyI P el k b z] [ex : Ev E x (.slice a n c)] [evl : EvO E lo lv] [evh : EvO E hi hv] [bl : Bnd lv 0 l] [bh : Bnd hv n h] [tm : ToNat l m] [tn : ToNat h n']
    (hb : 0 ≤ l ∧ l ≤ h ∧ h ≤ c) (hv' : slSub (.slice a n c) k m n' = v') (hh : Ht L (CO P ρ N D ((d, v') :: E) ops rest Q)) :
    Ht L (CO P ρ N D E ops (⟨some d, .slice T x lo hi none, ty, pos, af, none⟩ :: rest) Q) :=
  co_val (fun ac w r s => ⟨w, by
    have e1 := tm.h
    have e2 := tn.h
    subst e1; subst e2; subst hv'
    have := run_slice2 (P := P) td.h ti (a := a) (n := n) (c := c) (lo := lv) (hi := hv) (l := l) (h := h) hb w
    simp only [execOp, Instr.sliceAt, Sem.run_bind, run_und td.h, Result.andThen, ex.h N D ac r, evl.h N D ac r, evh.h N D ac r, Option.map_none, this, Sem.run_pure], s⟩)
    hh

/-- 'append(s[:i], y...)' that must move: what it is appended to stays. -/
theorem co_append_far {α : Type} {e : Enc α} {t tx el e' : TypeId} {k b : Nat} {z : Value} {x u : Operand} {a : Option Addr} {n c : Nat} {y : Value} {xs ys : List α} [td : TyD P t (.slice el)] [tx' : TyD P tx (.slice e')] [ti : TyI P el k b z]
    {xv : Value} [ex : Ev E x xv] [eu : Ev E u y] (hxv : xv = .slice a n c) [rd : RdE L e y ys] [hk : EqNat e.k k] (hs : ∀ w, Sat L w → SlIn w (.slice a n c) e xs) (hc : c < xs.length + ys.length) (hz : z.cells.size = k)
    (hb : (xs.length + ys.length) * b ≤ 140737488355328) (h63 : xs.length + ys.length ≤ 9223372036854775807)
    (h : ∀ v', Ht (own e el v' (xs ++ ys) :: L) (CO P ρ N D ((d, v') :: E) ops rest Q)) :
    Ht L (CO P ρ N D E ops (⟨some d, .call ⟨.builtin .append, #[x, u], #[t, tx]⟩, ty, pos, af, none⟩ :: rest) Q) :=
  co_gen fun ac w r s => by
    have hke := hk.h
    subst hxv
    obtain ⟨i, hi, hi1, hi2, hi3⟩ := ti.get
    have hv := hs w s
    have hsrc := src_of (P := P) tx'.h (rd.h w s)
    obtain ⟨_, _, he, _, _⟩ := sliceIn_of hv
    injection he with _ hn _
    subst hn
    rw [← hke] at hi1
    rw [← hi1] at hsrc
    have hold : (Builtin.firstCells i.size xs.length (.slice a xs.length c)).run P w.drew = .ok (xs.flatMap e.f).toArray w.drew := by
      have := (src_of (P := P) td.h hv).cellsD
      rw [hi1]; exact this
    have hfit := growslice_fits (old := c) hc (bytes := i.bytes) (by rw [hi2]; exact hb)
    have hrun := run_append_grow_src (P := P) (ty := ty) w t tx el i z td.h hi hi3 a xs.length c (xs.flatMap e.f) hold y ys.length (ys.flatMap e.f) hsrc hc (by omega) hfit
    have hgc := grownCap_ge w (xs.length + ys.length) c el
    have hgm := grownCap_le_maxLen w (xs.length + ys.length) c el (by simp [maxLen]; omega)
    simp [maxLen] at hgm
    have hlen : (xs ++ ys).length = xs.length + ys.length := List.length_append
    rw [← hlen] at hrun
    suffices hh : ∃ v' w', (Builtin.append_ #[t, tx] ty #[.slice a xs.length c, y]).run P w = .ok v' w' ∧ Sat (own e el v' (xs ++ ys) :: L) w' by
      obtain ⟨v', w', hr', hs'⟩ := hh
      exact ⟨v', w', by simp [execOp, resolve, invoke, builtin, ex.h N D ac r, eu.h N D ac r, Sem.run_bind, Result.andThen, hr'], _, hs', h v'⟩
    refine ⟨_, _, hrun, ?_⟩
    refine own_new (post := (Builtin.zeroCells z.cells (grownCap w (xs.length + ys.length) c el - (xs.length + ys.length))).toList) s rfl ?_ ?_ (by rw [hlen]; exact hgc) (by rw [hlen]; exact hgm) ?_ ?_ (fz := (0, 0))
    · rw [hlen]
      show (w.heap.push _)[w.heap.size]? = _
      simp [List.flatMap_append]
    · intro x hx
      show (w.heap.push _)[x]? = _
      rw [Array.getElem?_push, if_neg (by omega)]
    · have hzl : (Builtin.zeroCells z.cells (grownCap w (xs.length + ys.length) c el - (xs.length + ys.length))).toList.length = (grownCap w (xs.length + ys.length) c el - (xs.length + ys.length)) * e.k := by
        rw [Array.length_toList, size_zeroCells, hz, hke]
      rw [hlen, hzl, Nat.sub_mul]
      have : (xs.length + ys.length) * e.k ≤ grownCap w (xs.length + ys.length) c el * e.k := Nat.mul_le_mul_right _ hgc
      omega
    · intro j _ h; simp at h

/-- 'append(s, y...)' where there is room, in a block that is known. -/
theorem co_append_raw {α : Type} (e : Enc α) (ys : List α) {t tx el e' : TypeId} {k b0 : Nat} {z : Value} {x u : Operand} {b o n c : Nat} {y : Value} {l : List Value} {T : TypeId} {fz : Nat × Nat} [td : TyD P t (.slice el)] [tx' : TyD P tx (.slice e')] [ti : TyI P el k b0 z]
    {xv : Value} [ex : Ev E x xv] [eu : Ev E u y] (hxv : xv = .slice (some ⟨b, o, none⟩) n c) [p : Pull (pto b) L (.cells l.toArray T fz) R] [hk : EqNat e.k k] (hs : ∀ w, Sat L w → SlIn w y e ys) (hc : n + ys.length ≤ c)
    (ho : o + n * k + ys.length * k ≤ l.length) (hf : fzOk fz l.length)
    (h : Ht (blk b (l.take (o + n * k) ++ ys.flatMap e.f ++ l.drop (o + n * k + ys.length * k)) T fz :: R) (CO P ρ N D ((d, .slice (some ⟨b, o, none⟩) (n + ys.length) c) :: E) ops rest Q)) :
    Ht L (CO P ρ N D E ops (⟨some d, .call ⟨.builtin .append, #[x, u], #[t, tx]⟩, ty, pos, af, none⟩ :: rest) Q) :=
  co_gen fun ac w r s => by
    have hke := hk.h
    subst hke; subst hxv
    obtain ⟨i, hi, hi1, hi2, hi3⟩ := ti.get
    have hsrc := src_of (P := P) tx'.h (hs w s)
    rw [← hi1] at hsrc
    have s' := p.sat s
    have hb := s'.get
    have hrun := run_append_room_src (P := P) (ty := ty) w t tx el i td.h hi b o n c y ys.length (ys.flatMap e.f) hsrc hc
      (fun j hj => by
        rw [flat_len] at hj
        simp only [World.cell?, hb, Option.isSome_none, Bool.false_eq_true, if_false, List.getElem?_toArray]
        rw [hi1, Option.isSome_iff_exists]
        exact ⟨_, List.getElem?_eq_getElem (by omega)⟩)
      (fun j hj => by
        rw [flat_len] at hj
        simp only [World.frozen?, hb]
        have := hf (o + n * i.size + j) (by rw [hi1]; omega)
        simpa using this)
    rw [hi1] at hrun
    obtain ⟨k1, k2, k3⟩ := setCells_heap (vs := ys.flatMap e.f) (o := o + n * e.k) hb (by rw [flat_len]; exact ho)
    rw [flat_len] at k1
    exact ⟨.slice (some ⟨b, o, none⟩) (n + ys.length) c, w.setCells b (o + n * e.k) (ys.flatMap e.f), by simp [execOp, resolve, invoke, builtin, ex.h N D ac r, eu.h N D ac r, Sem.run_bind, Result.andThen, hrun], _, s'.set k3 k1 k2, h⟩

/-- 'clear(s)' in a block that is known -/
theorem clear_raw {t el : TypeId} {k b0 : Nat} {z : Value} (zl : List Value) (td : P.underlying t = some (.slice el)) (ti : TyI P el k b0 z) (hz : z.cells = zl.toArray) (hz1 : ∀ v ∈ zl, v.oneCell = true)
    {b o n c : Nat} {l : List Value} {T : TypeId} {fz : Nat × Nat} {w : World} (s : Sat (blk b l T fz :: R) w) (ho : o + n * zl.length ≤ l.length) (hf : fzOk fz l.length) (hn : 0 < n) :
    ∃ w', (Builtin.clear_ #[t] ty #[.slice (some ⟨b, o, none⟩) n c]).run P w = .ok (.tuple #[]) w' ∧ Sat (blk b (l.take o ++ (List.replicate n zl).flatten ++ l.drop (o + n * zl.length)) T fz :: R) w' := by
  have hzc : (Builtin.zeroCells z.cells n).toList = (List.replicate n zl).flatten := by
    rw [hz, ← rep_cells]
    simp [Builtin.zeroCells]
  have hfl : (List.replicate n zl).flatten.length = n * zl.length := by simp
  obtain ⟨s1, s2⟩ := store_raw (P := P) (R := R) (o := o) (vs := (List.replicate n zl).flatten) s (fun v hv => by
    simp only [List.mem_flatten, List.mem_replicate] at hv
    obtain ⟨l', ⟨_, rfl⟩, h⟩ := hv
    exact hz1 v h) (by rw [hfl]; exact ho) hf
  rw [hfl] at s2
  refine ⟨_, ?_, s2⟩
  obtain ⟨m, rfl⟩ : ∃ m, n = m + 1 := ⟨n - 1, by omega⟩
  simp [Builtin.clear_, run_und td, run_zero ti, Sem.run_bind, Result.andThen, hzc, s1]
theorem co_clear_raw {t el : TypeId} {k b0 : Nat} {z : Value} (zl : List Value) {x : Operand} {b o n c : Nat} {l : List Value} {T : TypeId} {fz : Nat × Nat} [td : TyD P t (.slice el)] [ti : TyI P el k b0 z]
    {xv : Value} [ex : Ev E x xv] (hxv : xv = .slice (some ⟨b, o, none⟩) n c) [p : Pull (pto b) L (.cells l.toArray T fz) R] (hz : z.cells = zl.toArray) (hz1 : ∀ v ∈ zl, v.oneCell = true) (ho : o + n * zl.length ≤ l.length) (hf : fzOk fz l.length) (hn : 0 < n)
    (h : Ht (blk b (l.take o ++ (List.replicate n zl).flatten ++ l.drop (o + n * zl.length)) T fz :: R) (CO P ρ N D ((d, .tuple #[]) :: E) ops rest Q)) :
    Ht L (CO P ρ N D E ops (⟨some d, .call ⟨.builtin .clear, #[x], #[t]⟩, ty, pos, af, none⟩ :: rest) Q) :=
  co_gen fun ac w r s => by
    subst hxv
    obtain ⟨w', h1, h2⟩ := clear_raw (P := P) (R := R) (ty := ty) (c := c) zl td.h ti hz hz1 (p.sat s) ho hf hn
    exact ⟨.tuple #[], w', by simp [execOp, resolve, invoke, builtin, ex.h N D ac r, Sem.run_bind, Result.andThen, h1], _, h2, h⟩
theorem co_clear_raw0 {t el : TypeId} {k b0 : Nat} {z : Value} (zl : List Value) {x : Operand} {b o n c : Nat} {l : List Value} {T : TypeId} {fz : Nat × Nat} [td : TyD P t (.slice el)] [ti : TyI P el k b0 z]
    {xv : Value} [ex : Ev E x xv] (hxv : xv = .slice (some ⟨b, o, none⟩) n c) [p : Pull (pto b) L (.cells l.toArray T fz) R] (hz : z.cells = zl.toArray) (hz1 : ∀ v ∈ zl, v.oneCell = true) (ho : o + n * zl.length ≤ l.length) (hf : fzOk fz l.length) (hn : 0 < n)
    (h : Ht (blk b (l.take o ++ (List.replicate n zl).flatten ++ l.drop (o + n * zl.length)) T fz :: R) (CO P ρ N D E ops rest Q)) :
    Ht L (CO P ρ N D E ops (⟨none, .call ⟨.builtin .clear, #[x], #[t]⟩, ty, pos, af, none⟩ :: rest) Q) :=
  co_drop (L' := blk b (l.take o ++ (List.replicate n zl).flatten ++ l.drop (o + n * zl.length)) T fz :: R) (fun ac w r s => by
    subst hxv
    obtain ⟨w', h1, h2⟩ := clear_raw (P := P) (R := R) (ty := ty) (c := c) zl td.h ti hz hz1 (p.sat s) ho hf hn
    exact ⟨.tuple #[], w', by simp [execOp, resolve, invoke, builtin, ex.h N D ac r, Sem.run_bind, Result.andThen, h1], h2⟩) h
end sl
end Go.SL
