import Derived.Test.YtgbimbagppoeaaaSLU
import Derived.Test.YtgbimbagppoeaaaSLY
set_option linter.all false
namespace Go.SL
open Go
variable {P : Program} {ρ : Option Nat} {N : Nat} {D : List Deferred} {E : List (Nat × Value)} {L R : List HP} {Q : Exit → Act → World → Prop} {ops : Array Oper} {rest : List Oper}
  {d : Nat} {ty : TypeId} {pos : String} {af : Array Edge}

theorem run_append_s {α : Type} {e : Enc α} {t tx ty el : TypeId} {k b : Nat} {z : Value} (td : P.underlying t = some (.slice el)) (ti : TyI P el k b z) (hk : e.k = k) (hz : z.cells.size = k)
    {v y : Value} {xs ys : List α} {w : World} (s : Sat (own e el v xs :: R) w) (hsrc : Src P e.k tx y ys.length (ys.flatMap e.f) w) (hb : (xs.length + ys.length) * b ≤ 140737488355328) (h63 : xs.length + ys.length ≤ 9223372036854775807) :
    ∃ v' w', (Builtin.append_ #[t, tx] ty #[v, y]).run P w = .ok v' w' ∧ Sat (own e el v' (xs ++ ys) :: R) w' := by
  obtain ⟨i, hi, hi1, hi2, hi3⟩ := ti.get
  have hv := own_sat s
  have hnl : (ys.flatMap e.f).length = ys.length * e.k := flat_len e ys
  have hxl : (xs.flatMap e.f).length = xs.length * e.k := flat_len e xs
  rw [← hk] at hi1
  obtain ⟨ad, c, hvs, hc1, hc2⟩ := sliceIn_of hv
  by_cases hroom : xs.length + ys.length ≤ c
  · obtain ⟨h1, h2, u, ho, l⟩ := s
    rcases ho with ⟨rfl, rfl⟩ | ⟨bb, pre, post, cap, fz, rfl, g2, g3, g4, g5, g6⟩
    · cases hvs
      have hy0 : ys = [] := by cases ys with | nil => rfl | cons y ys => simp at hroom
      subst hy0
      refine ⟨.slice none 0 0, w, ?_, ⟨h1, h2, u, .inl ⟨rfl, rfl⟩, l⟩⟩
      have h3 := hsrc.cells
      have h4 := hsrc.len
      simp only [List.length_nil] at h3 h4
      rcases hsrc.kind with ⟨e', tx'⟩ | tx' <;> simp [Builtin.append_, run_underlying td, run_underlying tx', sizeOf, typeInfo, hi, h4, hi1, h3]
    · simp only [Value.slice.injEq, Option.some.injEq] at hvs
      obtain ⟨_, _, rfl⟩ := hvs
      have hpost : ys.length * e.k ≤ post.length := by
        have : (xs.length + ys.length) * e.k ≤ cap * e.k := Nat.mul_le_mul_right _ hroom
        rw [Nat.add_mul] at this; omega
      have hbb : w.heap[bb]? = some (.cells (pre ++ xs.flatMap e.f ++ post).toArray el fz) := by
        have := u bb; simp_all
      rw [← hi1] at hsrc
      have hrun := run_append_room_src (P := P) w t tx ty el i td hi bb pre.length xs.length cap y ys.length (ys.flatMap e.f) hsrc hroom
        (fun j hj => by
          simp only [World.cell?, hbb, Option.isSome_none, Bool.false_eq_true, if_false, List.getElem?_toArray]
          rw [hi1, Option.isSome_iff_exists]
          exact ⟨_, List.getElem?_eq_getElem (by simp only [List.length_append, hxl]; omega)⟩)
        (fun j hj => by
          simp only [World.frozen?, hbb]
          have := g6 (pre.length + xs.length * i.size + j) (by rw [hi1]; omega)
          simpa using this)
      rw [hi1] at hrun
      refine ⟨_, _, hrun, ?_⟩
      obtain ⟨k1, k2, k3⟩ := setCells_heap (b := bb) (vs := ys.flatMap e.f) (o := pre.length + xs.length * e.k) hbb (by simp only [List.length_append, hxl, hnl]; omega)
      refine ⟨fun x => if x = bb then (w.setCells bb (pre.length + xs.length * e.k) (ys.flatMap e.f)).heap[bb]? else h1 x, h2, fun x => ?_, ?_, k3 ▸ l⟩
      · have := u x
        by_cases hx : x = bb
        · subst hx; simp_all
        · have := k2 x hx; simp_all
      · refine .inr ⟨bb, pre, post.drop (ys.length * e.k), cap, fz, by simp, by simpa using hroom, g3, ?_, ?_, ?_⟩
        · simp only [List.length_append, List.length_drop, Nat.add_mul]; omega
        · simp only [if_true]
          rw [k1]
          have e1 : (pre ++ xs.flatMap e.f ++ post).take (pre.length + xs.length * e.k) = pre ++ xs.flatMap e.f := by
            rw [List.take_left' (by simp only [List.length_append, hxl])]
          have e2 : (pre ++ xs.flatMap e.f ++ post).drop (pre.length + xs.length * e.k + (ys.flatMap e.f).length) = post.drop (ys.length * e.k) := by
            rw [← List.drop_drop, List.drop_left' (by simp only [List.length_append, hxl]), hnl]
          rw [e1, e2, List.flatMap_append]
          simp only [List.append_assoc]
        · intro j hj
          refine g6 j ?_
          simp only [List.length_append, List.length_drop, Nat.add_mul] at hj
          omega
  · subst hvs
    rw [← hi1] at hsrc
    have hold : (Builtin.firstCells i.size xs.length (.slice ad xs.length c)).run P w.drew = .ok (xs.flatMap e.f).toArray w.drew := by
      have := (src_of (P := P) td hv).cellsD
      rw [hi1]; exact this
    have hlt : c < xs.length + ys.length := by omega
    have hfit := growslice_fits (old := c) hlt (bytes := i.bytes) (by rw [hi2]; exact hb)
    have hrun := run_append_grow_src (P := P) w t tx ty el i z td hi hi3 ad xs.length c (xs.flatMap e.f) hold y ys.length (ys.flatMap e.f) hsrc hlt (by omega) hfit
    refine ⟨_, _, hrun, ?_⟩
    have hgc := grownCap_ge w (xs.length + ys.length) c el
    have hgm := grownCap_le_maxLen w (xs.length + ys.length) c el (by simp [maxLen]; omega)
    simp [maxLen] at hgm
    have hlen : (xs ++ ys).length = xs.length + ys.length := List.length_append
    rw [← hlen]
    refine own_new (post := (Builtin.zeroCells z.cells (grownCap w (xs.length + ys.length) c el - (xs.length + ys.length))).toList) s.tail rfl ?_ ?_ (by rw [hlen]; exact hgc) (by rw [hlen]; exact hgm) ?_ ?_ (fz := (0, 0))
    · rw [hlen]
      show (w.heap.push _)[w.heap.size]? = _
      simp [List.flatMap_append]
    · intro x hx
      show (w.heap.push _)[x]? = _
      rw [Array.getElem?_push, if_neg (by omega)]
    · have hzl : (Builtin.zeroCells z.cells (grownCap w (xs.length + ys.length) c el - (xs.length + ys.length))).toList.length = (grownCap w (xs.length + ys.length) c el - (xs.length + ys.length)) * e.k := by
        rw [Array.length_toList, size_zeroCells, hz, hk]
      rw [hlen, hzl, Nat.sub_mul]
      have : (xs.length + ys.length) * e.k ≤ grownCap w (xs.length + ys.length) c el * e.k := Nat.mul_le_mul_right _ hgc
      omega
    · intro j _ h; simp at h


/-- 'append(s, t...)' of a string, on a slice of one's own -/
theorem co_append_str {t tx el : TypeId} {b : Nat} {z : Value} {x u : Operand} {v : Value} {xs : List UInt8} {str : ByteArray} [td : TyD P t (.slice el)] [tx' : TyD P tx .string] [ti : TyI P el 1 b z]
    [ex : Ev E x v] [eu : Ev E u (.string str)] [p : Pull (own encB el v) L xs R] (hz : z.cells.size = 1)
    (hb : (xs.length + str.size) * b ≤ 140737488355328) (h63 : xs.length + str.size ≤ 9223372036854775807)
    (h : ∀ v', Ht (own encB el v' (xs ++ str.data.toList) :: R) (CO P ρ N D ((d, v') :: E) ops rest Q)) :
    Ht L (CO P ρ N D E ops (⟨some d, .call ⟨.builtin .append, #[x, u], #[t, tx]⟩, ty, pos, af, none⟩ :: rest) Q) :=
  co_gen fun a w r s => by
    have s' := p.sat s
    have hl : str.data.toList.length = str.size := by rw [Array.length_toList]; rfl
    have hs : Src P encB.k tx (.string str) str.data.toList.length (str.data.toList.flatMap encB.f) w := by
      have := Src.ofString (P := P) w tx'.h str
      rw [← hl] at this
      have e1 : byteCells str = str.data.toList.flatMap encB.f := by simp [byteCells, List.map_eq_flatMap]
      rw [← e1]; exact this
    obtain ⟨v', w', hr, hs⟩ := run_append_s (ty := ty) td.h ti rfl hz s' hs (by rw [hl]; exact hb) (by rw [hl]; exact h63)
    exact ⟨v', w', by simp [execOp, resolve, invoke, builtin, ex.h N D a r, eu.h N D a r, Sem.run_bind, Result.andThen, hr], _, hs, h v'⟩
end Go.SL
