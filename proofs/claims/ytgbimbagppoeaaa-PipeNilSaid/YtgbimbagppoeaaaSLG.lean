import Derived.Test.YtgbimbagppoeaaaSLF
namespace Go.SL
open Go
set_option linter.all false

/-! ### Slices: cut, appended to, made -/
/-- A slice that is known, whatever the list of the caller, to hold xs; the encoding is given. -/
class RdE (L : List HP) {α : Type} (e : Enc α) (v : Value) (xs : outParam (List α)) : Prop where
  h : ∀ w, Sat L w → SlIn w v e xs
instance (priority := 500) {L : List HP} {α : Type} {e : Enc α} {v : Value} {xs : List α} [i : RdS L v e xs] : RdE L e v xs := ⟨i.h⟩
instance (priority := high) {L : List HP} {α : Type} {e : Enc α} : RdE L e (.slice none 0 0) [] := ⟨fun _ _ => .inl ⟨rfl, rfl⟩⟩
theorem RdE.toS {L : List HP} {α : Type} {e : Enc α} {v : Value} {xs : List α} (i : RdE L e v xs) : RdS L v e xs := ⟨i.h⟩

/-- cells, told as elements -/
class DecE {α : Type} (e : Enc α) (l : List Value) (xs : outParam (List α)) : Prop where
  h : xs.flatMap e.f = l
instance {α : Type} {e : Enc α} : DecE e [] [] := ⟨rfl⟩
instance {l : List Value} {s : ByteArray} {xs : List ByteArray} [i : DecE encStr l xs] : DecE encStr (.string s :: l) (s :: xs) := ⟨by simp [List.flatMap_cons, encStr]; exact i.h⟩
instance {l : List Value} {n : Int} {xs : List Int} [i : DecE encI l xs] : DecE encI (.int .i64 n :: l) (n :: xs) := ⟨by simp [List.flatMap_cons, encI]; exact i.h⟩
instance {l : List Value} {n : UInt8} {xs : List UInt8} [i : DecE encB l xs] : DecE encB (.int .u8 (n.toNat : Int) :: l) (n :: xs) := ⟨by simp [List.flatMap_cons, encB]; exact i.h⟩

theorem addr_lit (b o n : Nat) : (Addr.add ⟨b, o, none⟩ n) = ⟨b, o + n, none⟩ := by by_cases h : n = 0 <;> simp [Addr.add, h]

theorem lit_in {w : World} {b : Nat} {l : List Value} {T : TypeId} {fz : Nat × Nat} {α : Type} {e : Enc α} {xs : List α} (hb : w.heap[b]? = some (.cells l.toArray T fz)) (hx : xs.flatMap e.f = l) (c : Nat) (hc : xs.length ≤ c) (hm : c ≤ 9223372036854775807) :
    SlIn w (.slice (some ⟨b, 0, none⟩) xs.length c) e xs := by
  refine .inr ⟨_, c, rfl, hc, hm, fun i x h j u hu => ?_⟩
  have := flat_get e h hu
  rw [hx] at this
  rw [addr_lit]
  simp [World.cell?, hb, this]
class LeN (a b : Nat) : Prop where
  h : a ≤ b
instance {a : Nat} : LeN a a := ⟨Nat.le_refl _⟩
class SmallN (a : Nat) : Prop where
  h : a ≤ 9223372036854775807
instance {L : List HP} {b n : Nat} {l : List Value} {α : Type} {e : Enc α} {xs : List α} [k : Blk L b l] [dc : DecE e l xs] [ln : Len xs n] [sm : EqB (Nat.ble n 1000000) true] : RdE L e (.slice (some ⟨b, 0, none⟩) n n) xs :=
  ⟨fun w s => by
    obtain ⟨T, fz, hb⟩ := k.h w s
    have := ln.h
    subst this
    have hm := sm.h
    simp at hm
    exact lit_in hb dc.h _ (Nat.le_refl _) (by omega)⟩

section sl
variable {P : Program} {ρ : Option Nat} {N : Nat} {D : List Deferred} {E : List (Nat × Value)} {L L' R : List HP} {Q : Exit → Act → World → Prop} {ops : Array Oper} {rest : List Oper}
  {d : Nat} {op : Op} {ty : TypeId} {pos : String} {af : Array Edge}

/-- what one may know of the state, whatever the world -/
theorem Ht.know {p : Prop} {G : World → Prop} (hp : ∀ w, Sat L w → p) (h : p → Ht L G) : Ht L G := fun w s => h (hp w s) w s

/-- 's[lo:hi]' -/
theorem co_slice {T el : TypeId} {x : Operand} {lo hi : Option Operand} {v : Value} {lv hv : Option Value} {l h : Int} {m n : Nat} {α : Type} {e : Enc α} {xs : List α} {k b : Nat} {z : Value}
    [td : TyD P T (.slice el)] [ti : TyI P el k b z] [ex : Ev E x v] [evl : EvO E lo lv] [evh : EvO E hi hv] [rs : RdS L v e xs] [bl : Bnd lv 0 l] [bh : Bnd hv xs.length h] [tm : ToNat l m] [tn : ToNat h n]
    (hb : 0 ≤ l ∧ l ≤ h ∧ h ≤ xs.length) (hh : InSl m n xs.length → Ht L (CO P ρ N D ((d, slSub v k m n) :: E) ops rest Q)) :
    Ht L (CO P ρ N D E ops (⟨some d, .slice T x lo hi none, ty, pos, af, none⟩ :: rest) Q) :=
  co_val (fun a w r s => ⟨w, by
    obtain ⟨ad, c, hvv, h1, h2⟩ := sliceIn_of (rs.h w s)
    have e1 := tm.h
    have e2 := tn.h
    subst e1; subst e2; subst hvv
    have := run_slice2 (P := P) td.h ti (a := ad) (n := xs.length) (c := c) (lo := lv) (hi := hv) (l := l) (h := h) ⟨hb.1, hb.2.1, by omega⟩ w
    simp only [execOp, Instr.sliceAt, Sem.run_bind, run_und td.h, Result.andThen, ex.h N D a r, evl.h N D a r, evh.h N D a r, Option.map_none, this, Sem.run_pure], s⟩)
    (hh ⟨by have := tm.h; have := tn.h; omega⟩)

theorem setCells_heap {b : Nat} {vs : List Value} : ∀ {w : World} {o : Nat} {l : List Value} {T : TypeId} {fz : Nat × Nat}, w.heap[b]? = some (.cells l.toArray T fz) → o + vs.length ≤ l.length →
    (w.setCells b o vs).heap[b]? = some (.cells (l.take o ++ vs ++ l.drop (o + vs.length)).toArray T fz) ∧ (∀ x, x ≠ b → (w.setCells b o vs).heap[x]? = w.heap[x]?) ∧ envOf (w.setCells b o vs) = envOf w := by
  induction vs with
  | nil => intro w o l T fz hb _; exact ⟨by simpa [World.setCells] using hb, fun _ _ => rfl, rfl⟩
  | cons v vs ih =>
    intro w o l T fz hb hle
    simp only [List.length_cons] at hle
    have h1 : (w.setCell ⟨b, o, none⟩ v).heap[b]? = some (.cells (l.set o v).toArray T fz) := by
      simp only [World.setCell, Array.getElem?_modify, if_true, hb, Option.map_some]
      simp
    obtain ⟨g1, g2, g3⟩ := ih (w := w.setCell ⟨b, o, none⟩ v) (o := o + 1) h1 (by simp; omega)
    refine ⟨?_, fun x hx => (g2 x hx).trans (setCell_other hx), g3⟩
    simp only [World.setCells]
    rw [g1]
    congr 3
    have e1 : (l.set o v).take (o + 1) = l.take o ++ [v] := by
      rw [List.take_succ_eq_append_getElem (by simp; omega), List.take_set_of_le (by omega)]
      simp
    have e2 : (l.set o v).drop (o + 1 + vs.length) = l.drop (o + (v :: vs).length) := by
      rw [List.drop_set_of_lt (by omega)]
      congr 1; simp; omega
    rw [e1, e2]; simp

theorem drew_env (w : World) : envOf w.drew = envOf w := rfl

/-- what an append takes from a slice -/
theorem src_of {tx e' : TypeId} {w : World} {y : Value} {α : Type} {e : Enc α} {ys : List α} (hk : P.underlying tx = some (.slice e')) (h : SlIn w y e ys) : Src P e.k tx y ys.length (ys.flatMap e.f) w := by
  rcases h with ⟨rfl, rfl⟩ | ⟨a, cap, rfl, h1, h2, h3⟩
  · exact Src.ofNil w hk 0
  · refine Src.ofSlice w hk a _ cap _ (flat_len e ys) (fun j u hj => ?_) (fun u hu => ?_)
    · by_cases hkz : e.k = 0
      · have : (ys.flatMap e.f).length = 0 := by rw [flat_len, hkz]; simp
        have := (List.getElem?_eq_some_iff.1 hj).1
        omega
      · have hlt : j < (ys.flatMap e.f).length := (List.getElem?_eq_some_iff.1 hj).1
        rw [flat_len] at hlt
        have hq : j / e.k < ys.length := Nat.div_lt_of_lt_mul (by rw [Nat.mul_comm]; exact hlt)
        have hr : j % e.k < e.k := Nat.mod_lt _ (by omega)
        have hx := List.getElem?_eq_getElem hq
        have hy : (e.f ys[j / e.k])[j % e.k]? = some ((e.f ys[j / e.k])[j % e.k]'(by rw [e.hk]; exact hr)) := List.getElem?_eq_getElem _
        have e1 := h3 _ _ hx _ _ hy
        have e2 := flat_get e hx hy
        have e3 : j / e.k * e.k + j % e.k = j := by rw [Nat.mul_comm]; exact Nat.div_add_mod j e.k
        rw [e3] at e1 e2
        rw [e2] at hj
        cases hj
        exact e1
    · obtain ⟨x, _, hx⟩ := List.mem_flatMap.1 hu
      have := e.h1 x u hx
      cases u <;> simp_all [Value.oneCell, Value.oneCell']

theorem own_nil {α : Type} {e : Enc α} {T : TypeId} {w : World} : Sat (own e T (.slice none 0 0) [] :: L) w ↔ Sat L w :=
  ⟨fun s => s.tail, fun s => ⟨fun _ => none, _, fun _ => .inl ⟨rfl, rfl⟩, .inl ⟨rfl, rfl⟩, s⟩⟩

theorem own_new {α : Type} {e : Enc α} {T : TypeId} {w w' : World} {xs : List α} {post : List Value} {cap : Nat} {fz : Nat × Nat} (s : Sat L w) (he : envOf w' = envOf w)
    (hb : w'.heap[w.heap.size]? = some (.cells (xs.flatMap e.f ++ post).toArray T fz)) (ho : ∀ x, x < w.heap.size → w'.heap[x]? = w.heap[x]?) (h1 : xs.length ≤ cap) (h2 : cap ≤ 9223372036854775807)
    (h3 : cap * e.k ≤ xs.length * e.k + post.length) (h4 : fzOk fz (xs.length * e.k + post.length)) : Sat (own e T (.slice (some ⟨w.heap.size, 0, none⟩) xs.length cap) xs :: L) w' := by
  refine ⟨fun x => if x < w.heap.size then none else w'.heap[x]?, fun x => w.heap[x]?, fun x => ?_, ?_, he ▸ s⟩
  · by_cases hx : x < w.heap.size
    · simp [hx, ho x hx]
    · simp only [if_neg hx]
      exact .inr ⟨Array.getElem?_eq_none (by omega), trivial⟩
  · exact .inr ⟨w.heap.size, [], post, cap, fz, rfl, h1, h2, h3, by simpa using hb, by simpa using h4⟩

theorem run_append {α : Type} {e : Enc α} {t tx ty el e' : TypeId} {k b : Nat} {z : Value} (td : P.underlying t = some (.slice el)) (tx' : P.underlying tx = some (.slice e')) (ti : TyI P el k b z) (hk : e.k = k) (hz : z.cells.size = k)
    {v y : Value} {xs ys : List α} {w : World} (s : Sat (own e el v xs :: R) w) (hy : SlIn w y e ys) (hb : (xs.length + ys.length) * b ≤ 140737488355328) (h63 : xs.length + ys.length ≤ 9223372036854775807) :
    ∃ v' w', (Builtin.append_ #[t, tx] ty #[v, y]).run P w = .ok v' w' ∧ Sat (own e el v' (xs ++ ys) :: R) w' := by
  obtain ⟨i, hi, hi1, hi2, hi3⟩ := ti.get
  have hsrc := src_of (P := P) tx' hy
  have hv := own_sat s
  have hnl : (ys.flatMap e.f).length = ys.length * e.k := flat_len e ys
  have hxl : (xs.flatMap e.f).length = xs.length * e.k := flat_len e xs
  rw [← hk] at hi1
  obtain ⟨ad, c, hvs, hc1, hc2⟩ := sliceIn_of hv
  by_cases hroom : xs.length + ys.length ≤ c
  · obtain ⟨h1, h2, u, ho, l⟩ := s
    rcases ho with ⟨rfl, rfl⟩ | ⟨bb, pre, post, cap, fz, rfl, g2, g3, g4, g5, g6⟩
    · cases hvs
      have hy0 : ys = [] := by cases ys with | nil => rfl | cons y ys => simp at hroom
      subst hy0
      refine ⟨.slice none 0 0, w, ?_, ⟨h1, h2, u, .inl ⟨rfl, rfl⟩, l⟩⟩
      have h3 := hsrc.cells
      have h4 := hsrc.len
      simp only [List.length_nil] at h3 h4
      simp [Builtin.append_, run_underlying td, run_underlying tx', sizeOf, typeInfo, hi, h4, hi1, h3]
    · simp only [Value.slice.injEq, Option.some.injEq] at hvs
      obtain ⟨_, _, rfl⟩ := hvs
      have hpost : ys.length * e.k ≤ post.length := by
        have : (xs.length + ys.length) * e.k ≤ cap * e.k := Nat.mul_le_mul_right _ hroom
        rw [Nat.add_mul] at this; omega
      have hbb : w.heap[bb]? = some (.cells (pre ++ xs.flatMap e.f ++ post).toArray el fz) := by
        have := u bb; simp_all
      rw [← hi1] at hsrc
      have hrun := run_append_room_src (P := P) w t tx ty el i td hi bb pre.length xs.length cap y ys.length (ys.flatMap e.f) hsrc hroom
        (fun j hj => by
          simp only [World.cell?, hbb, Option.isSome_none, Bool.false_eq_true, if_false, List.getElem?_toArray]
          rw [hi1, Option.isSome_iff_exists]
          exact ⟨_, List.getElem?_eq_getElem (by simp only [List.length_append, hxl]; omega)⟩)
        (fun j hj => by
          simp only [World.frozen?, hbb]
          have := g6 (pre.length + xs.length * i.size + j) (by rw [hi1]; omega)
          simpa using this)
      rw [hi1] at hrun
      refine ⟨_, _, hrun, ?_⟩
      obtain ⟨k1, k2, k3⟩ := setCells_heap (b := bb) (vs := ys.flatMap e.f) (o := pre.length + xs.length * e.k) hbb (by simp only [List.length_append, hxl, hnl]; omega)
      refine ⟨fun x => if x = bb then (w.setCells bb (pre.length + xs.length * e.k) (ys.flatMap e.f)).heap[bb]? else h1 x, h2, fun x => ?_, ?_, k3 ▸ l⟩
      · have := u x
        by_cases hx : x = bb
        · subst hx; simp_all
        · have := k2 x hx; simp_all
      · refine .inr ⟨bb, pre, post.drop (ys.length * e.k), cap, fz, by simp, by simpa using hroom, g3, ?_, ?_, ?_⟩
        · simp only [List.length_append, List.length_drop, Nat.add_mul]; omega
        · simp only [if_true]
          rw [k1]
          have e1 : (pre ++ xs.flatMap e.f ++ post).take (pre.length + xs.length * e.k) = pre ++ xs.flatMap e.f := by
            rw [List.take_left' (by simp only [List.length_append, hxl])]
          have e2 : (pre ++ xs.flatMap e.f ++ post).drop (pre.length + xs.length * e.k + (ys.flatMap e.f).length) = post.drop (ys.length * e.k) := by
            rw [← List.drop_drop, List.drop_left' (by simp only [List.length_append, hxl]), hnl]
          rw [e1, e2, List.flatMap_append]
          simp only [List.append_assoc]
        · intro j hj
          refine g6 j ?_
          simp only [List.length_append, List.length_drop, Nat.add_mul] at hj
          omega
  · subst hvs
    rw [← hi1] at hsrc
    have hold : (Builtin.firstCells i.size xs.length (.slice ad xs.length c)).run P w.drew = .ok (xs.flatMap e.f).toArray w.drew := by
      have := (src_of (P := P) tx' hv).cellsD
      rw [hi1]; exact this
    have hlt : c < xs.length + ys.length := by omega
    have hfit := growslice_fits (old := c) hlt (bytes := i.bytes) (by rw [hi2]; exact hb)
    have hrun := run_append_grow_src (P := P) w t tx ty el i z td hi hi3 ad xs.length c (xs.flatMap e.f) hold y ys.length (ys.flatMap e.f) hsrc hlt (by omega) hfit
    refine ⟨_, _, hrun, ?_⟩
    have hgc := grownCap_ge w (xs.length + ys.length) c el
    have hgm := grownCap_le_maxLen w (xs.length + ys.length) c el (by simp [maxLen]; omega)
    simp [maxLen] at hgm
    have hlen : (xs ++ ys).length = xs.length + ys.length := List.length_append
    rw [← hlen]
    refine own_new (post := (Builtin.zeroCells z.cells (grownCap w (xs.length + ys.length) c el - (xs.length + ys.length))).toList) s.tail rfl ?_ ?_ (by rw [hlen]; exact hgc) (by rw [hlen]; exact hgm) ?_ ?_ (fz := (0, 0))
    · rw [hlen]
      show (w.heap.push _)[w.heap.size]? = _
      simp [List.flatMap_append]
    · intro x hx
      show (w.heap.push _)[x]? = _
      rw [Array.getElem?_push, if_neg (by omega)]
    · have hzl : (Builtin.zeroCells z.cells (grownCap w (xs.length + ys.length) c el - (xs.length + ys.length))).toList.length = (grownCap w (xs.length + ys.length) c el - (xs.length + ys.length)) * e.k := by
        rw [Array.length_toList, size_zeroCells, hz, hk]
      rw [hlen, hzl, Nat.sub_mul]
      have : (xs.length + ys.length) * e.k ≤ grownCap w (xs.length + ys.length) c el * e.k := Nat.mul_le_mul_right _ hgc
      omega
    · intro j _ h; simp at h

/-- 'append(s, y...)' on a slice of one's own -/
theorem co_append {α : Type} {e : Enc α} {t tx el e' : TypeId} {k b : Nat} {z : Value} {x u : Operand} {v y : Value} {xs ys : List α} [td : TyD P t (.slice el)] [tx' : TyD P tx (.slice e')] [ti : TyI P el k b z]
    [ex : Ev E x v] [eu : Ev E u y] [p : Pull (own e el v) L xs R] [rd : RdE R e y ys] [hk : EqNat e.k k] (hz : z.cells.size = k)
    (hb : (xs.length + ys.length) * b ≤ 140737488355328) (h63 : xs.length + ys.length ≤ 9223372036854775807)
    (h : ∀ v', Ht (own e el v' (xs ++ ys) :: R) (CO P ρ N D ((d, v') :: E) ops rest Q)) :
    Ht L (CO P ρ N D E ops (⟨some d, .call ⟨.builtin .append, #[x, u], #[t, tx]⟩, ty, pos, af, none⟩ :: rest) Q) :=
  co_gen fun a w r s => by
    have s' := p.sat s
    obtain ⟨v', w', hr, hs⟩ := run_append (ty := ty) td.h tx'.h ti hk.h hz s' (rd.h w s'.tail) hb h63
    exact ⟨v', w', by simp [execOp, resolve, invoke, builtin, ex.h N D a r, eu.h N D a r, Sem.run_bind, Result.andThen, hr], _, hs, h v'⟩

/-- '[]byte(s)' -/
theorem co_bytes {S T el : TypeId} {x : Operand} {s : ByteArray} [ts : TyD P S .string] [td : TyD P T (.slice el)] [te : TyD P el (.int .u8)] [ex : Ev E x (.string s)] (hs : s.size ≤ 9223372036854775807)
    (h : ∀ v, Ht (own encB el v s.data.toList :: L) (CO P ρ N D ((d, v) :: E) ops rest Q)) :
    Ht L (CO P ρ N D E ops (⟨some d, .convert S T x, ty, pos, af, none⟩ :: rest) Q) :=
  co_gen fun a w r sat => by
    have hr := Lib.run_convert_string_bytes (P := P) w S T el s ts.h td.h te.h
    refine ⟨.slice (some ⟨w.heap.size, 0, none⟩) s.size (grownCap w s.size 0 el), Lib.bytesWorld w el s, by simp only [execOp, ex.h N D a r, Sem.run_bind, hr, Result.andThen, Sem.run_pure], _, ?_, h _⟩
    have hgc := grownCap_ge w s.size 0 el
    have hgm := grownCap_le_maxLen w s.size 0 el (by simpa [maxLen] using hs)
    simp [maxLen] at hgm
    have hsz : s.data.toList.length = s.size := by rw [Array.length_toList]; rfl
    rw [← hsz]
    refine own_new (post := List.replicate (grownCap w s.size 0 el - s.size) (.int .u8 0)) sat rfl ?_ (fun x hx => Lib.bytesWorld_at_old w el s x hx) (by rw [hsz]; exact hgc) (by rw [hsz]; exact hgm) ?_ ?_
      (fz := ((Lib.bytesCells w el s).size, (Lib.bytesCells w el s).size + 1))
    · rw [Lib.bytesWorld_at_new]
      congr 2
      apply Array.ext'
      simp [Lib.bytesCells, encB, List.flatMap_singleton, List.map_eq_flatMap]
    · rw [hsz]; simp [encB]; omega
    · intro j hj h
      have : (Lib.bytesCells w el s).size = s.size + (grownCap w s.size 0 el - s.size) := by simp [Lib.bytesCells]
      simp [encB, hsz] at hj
      omega

/-- 'string(b)' -/
instance rd_string {S T el : TypeId} {x : Operand} {v : Value} {xs : List UInt8} [td : TyD P T .string] [ts : TyD P S (.slice el)] [te : TyD P el (.int .u8)] [ex : Ev E x v] [rs : RdS L v encB xs] :
    Rd P L E (.convert S T x) (.string ⟨xs.toArray⟩) := ⟨fun N D a w r s d ty pos af g => by
  rcases rs.h w s with ⟨rfl, rfl⟩ | ⟨ad, cap, rfl, h1, h2, h3⟩
  · have := run_convert_bytes_nil (P := P) w S el ts.h te.h 0 0 T td.h
    simp [execOp, ex.h N D a r, this]
    rfl
  · have hc : ∀ j u, (xs.map fun b => Value.int .u8 b.toNat)[j]? = some u → w.cell? (ad.add j) = some u := by
      intro j u hu
      rw [List.getElem?_map] at hu
      cases hx : xs[j]? with
      | none => simp [hx] at hu
      | some x =>
        simp [hx] at hu
        have := h3 j x hx 0 u (by simp [encB, hu])
        simpa [encB] using this
    have hb := run_bytesToString (P := P) w ad xs.length cap (xs.map fun b => (b.toNat : Int)) (by
      have := run_loadCells (P := P) hc
      rw [List.map_map]
      simpa [Function.comp_def] using this)
    rw [foldl_push_byteCells] at hb
    simp only [execOp, ex.h N D a r, Sem.run_bind]
    rw [run_convert_bytes_string (P := P) w S T el _ _ _ ts.h te.h td.h, hb]
    simp [Result.andThen]⟩
end sl
end Go.SL
