import Derived.Test.YtgbimbagppoeaaaSLL
import Derived.IntWalk
namespace Go.SL
open Go
set_option linter.all false

/-! ### Framing -/
class PullA (A : HP) (L : List HP) (L' : outParam (List HP)) : Prop where
  h : ∀ e h, seps L e h → seps (A :: L') e h
instance (priority := high) {A : HP} {L : List HP} : PullA A (A :: L) L := ⟨fun _ _ s => s⟩
instance (priority := 900) {A B : HP} {L L' : List HP} [p : PullA A L L'] : PullA A (B :: L) (B :: L') := ⟨fun e h s => seps_swap (seps_mono (fun _ a => a) (fun _ t => p.h _ _ t) s)⟩
/-- L' and maybe more is in L -/
class Frm (L L' : List HP) : Prop where
  h : ∀ e h, seps L e h → seps L' e h
instance (priority := high) {L : List HP} : Frm L L := ⟨fun _ _ s => s⟩
instance (priority := 900) {A : HP} {L L1 L' : List HP} [p : PullA A L L1] [f : Frm L1 L'] : Frm L (A :: L') := ⟨fun e h s => seps_mono (fun _ a => a) (fun _ t => f.h _ _ t) (p.h _ _ s)⟩
instance (priority := 800) {A : HP} {L L' : List HP} [f : Frm L L'] : Frm (A :: L) L' := ⟨fun e h s => f.h _ _ (seps_tail s)⟩
theorem Ht.frm {L L' : List HP} {G : World → Prop} [f : Frm L L'] (h : Ht L' G) : Ht L G := fun w s => h w (f.h _ _ s)
theorem Ht.exs {α : Type} {A : α → HP} {L : List HP} {G : World → Prop} (h : ∀ x, Ht (A x :: L) G) : Ht (exs A :: L) G := fun w s => by
  obtain ⟨x, s⟩ := seps_exs.1 s; exact h x w s
theorem Ht.pur {p : Prop} {L : List HP} {G : World → Prop} (h : p → Ht L G) : Ht (pur p :: L) G := fun w s => by
  obtain ⟨x, s⟩ := seps_pur.1 s; exact h x w s
theorem Ht.seps {M L : List HP} {G : World → Prop} (h : Ht (M ++ L) G) : Ht (SL.seps M :: L) G := fun w s => h w (seps_seps.1 s)
theorem Ht.pull {α : Type} {A : α → HP} {x : α} {L R : List HP} {G : World → Prop} (p : Pull A L x R) (h : Ht (A x :: R) G) : Ht L G := fun w s => h w (p.sat s)

/-! ### One region for each of a list -/
def bigO {β : Type} (f : β → HP) (l : List β) : HP := seps (l.map f)
theorem bigO_split {β : Type} {f : β → HP} {l1 l2 : List β} {x : β} {R : List HP} {e : Env} {h : Hp} : seps (bigO f (l1 ++ x :: l2) :: R) e h ↔ seps (f x :: bigO f (l1 ++ l2) :: R) e h := by
  have p : ((l1 ++ x :: l2).map f ++ R).Perm (f x :: ((l1 ++ l2).map f ++ R)) := by
    simp only [List.map_append, List.map_cons, List.append_assoc, List.cons_append]
    exact List.perm_middle
  constructor
  · intro s
    have := seps_perm p (seps_seps.1 s)
    exact seps_mono (fun _ a => a) (fun _ t => seps_seps.2 t) this
  · intro s
    exact seps_seps.2 (seps_perm p.symm (seps_mono (fun _ a => a) (fun _ t => seps_seps.1 t) s))
theorem bigO_snoc {β : Type} {f : β → HP} {l : List β} {x : β} {R : List HP} {e : Env} {h : Hp} : seps (bigO f (l ++ [x]) :: R) e h ↔ seps (f x :: bigO f l :: R) e h := by
  have := @bigO_split β f l [] x R e h; simpa using this
theorem bigO_nil {β : Type} {f : β → HP} {R : List HP} {e : Env} {h : Hp} : seps (bigO f [] :: R) e h ↔ seps R e h := by
  unfold bigO; simpa using @seps_seps [] R e h
theorem Ht.big_take {β : Type} {f : β → HP} {l1 l2 : List β} {x : β} {R : List HP} {G : World → Prop} (h : Ht (f x :: bigO f (l1 ++ l2) :: R) G) : Ht (bigO f (l1 ++ x :: l2) :: R) G := fun w s => h w (bigO_split.1 s)
theorem Ht.big_give {β : Type} {f : β → HP} {l1 l2 : List β} {x : β} {R : List HP} {G : World → Prop} (h : Ht (bigO f (l1 ++ x :: l2) :: R) G) : Ht (f x :: bigO f (l1 ++ l2) :: R) G := fun w s => h w (bigO_split.2 s)
theorem Ht.big_snoc {β : Type} {f : β → HP} {l : List β} {x : β} {R : List HP} {G : World → Prop} (h : Ht (bigO f (l ++ [x]) :: R) G) : Ht (f x :: bigO f l :: R) G := fun w s => h w (bigO_snoc.2 s)
theorem Ht.big_nil {β : Type} {f : β → HP} {R : List HP} {G : World → Prop} (h : Ht (bigO f [] :: R) G) : Ht R G := fun w s => h w (bigO_nil.2 s)

theorem bigO_perm {β : Type} {f : β → HP} {l l' : List β} {R : List HP} {e : Env} {h : Hp} (p : l.Perm l') (s : seps (bigO f l :: R) e h) : seps (bigO f l' :: R) e h :=
  seps_seps.2 (seps_perm ((p.map f).append_right R) (seps_seps.1 s))
theorem Ht.big_perm {β : Type} {f : β → HP} {l l' : List β} {R : List HP} {G : World → Prop} (p : l.Perm l') (h : Ht (bigO f l' :: R) G) : Ht (bigO f l :: R) G := fun w s => h w (bigO_perm p s)
/-- one of the row, looked at -/
theorem Ht.big_look {β : Type} {f : β → HP} {l l' : List β} {x : β} {L R : List HP} {G : World → Prop} [q : Pull (bigO f) L l R] (p : l.Perm (x :: l')) (h : Ht (f x :: bigO f l' :: R) G) : Ht L G := fun w s =>
  h w (@bigO_split β f [] l' x R _ _ |>.1 (bigO_perm p (q.sat s)))
theorem Ht.big_back {β : Type} {f : β → HP} {l l' : List β} {x : β} {R : List HP} {G : World → Prop} (p : (x :: l').Perm l) (h : Ht (bigO f l :: R) G) : Ht (f x :: bigO f l' :: R) G := fun w s =>
  h w (bigO_perm p (@bigO_split β f [] l' x R _ _ |>.2 s))
theorem rangeO_none {κ : Type} [DecidableEq κ] {mk : MK κ} {r it : Nat} {m l : List (κ × Value)} {q : Option (κ × Value)} {L : List HP} {e : Env} {h : Hp} (s : seps (rangeO mk it (r, m, l, q) :: L) e h) : seps (rangeO mk it (r, m, l, none) :: L) e h :=
  seps_mono (fun h ⟨a, es, clock, seen, h1, h2, h3, h4, _⟩ => ⟨a, es, clock, seen, h1, h2, h3, h4, fun q hq => by cases hq⟩) (fun _ l => l) s
instance (priority := high) {κ : Type} [DecidableEq κ] {mk : MK κ} {r it : Nat} {m : List (κ × Value)} {x : List (κ × Value) × Option (κ × Value)} {L : List HP} : Pull (mapO mk r) (rangeO mk it (r, m, x) :: L) m L :=
  ⟨fun e h s => seps_mono (fun h ⟨_, es, clock, seen, h1, _, h2, _⟩ => ⟨es, clock, h1, h2⟩) (fun _ l => l) s⟩
theorem Ht.own_lit {α : Type} (e : Enc α) {b n T : Nat} {l : List Value} {xs : List α} {L R : List HP} {G : World → Prop} [p : Pull (pto b) L (cells l T) R] (hx : xs.flatMap e.f = l) (hn : n = xs.length) (hm : n ≤ 9223372036854775807)
    (h : Ht (own e T (.slice (some ⟨b, 0, none⟩) n n) xs :: R) G) : Ht L G := fun w s => h w (seps_mono (fun g hb => .inr ⟨b, [], [], n, (0, 0), by subst hn; rfl, by omega, hm, by subst hn; simp, by
      subst hx; have hb' : g b = some (cells (List.flatMap e.f xs) T) := hb; simpa using hb', fun i _ => by simp⟩) (fun _ l => l) (p.sat s))
section rd
variable {P : Program} {L : List HP} {E : List (Nat × Value)}
/-! ### More operations -/
instance {x y : Operand} {k : IntKind} {a b : Int} {T1 T2 : Nat} [ex : Ev E x (.int k a)] [ey : Ev E y (.int k b)] : Rd P L E (.call ⟨.builtin .min, #[x, y], #[T1, T2]⟩) (.int k (if b < a then b else a)) := ⟨fun N D A w r _ d ty pos af g => by
  simp [execOp, resolve, invoke, builtin, ex.h N D A r, ey.h N D A r, Sem.run_bind, Result.andThen, Builtin.min_, Builtin.min2]⟩
instance {x y : Operand} {k : IntKind} {a b : Int} {T1 T2 : Nat} [ex : Ev E x (.int k a)] [ey : Ev E y (.int k b)] : Rd P L E (.call ⟨.builtin .max, #[x, y], #[T1, T2]⟩) (.int k (if a < b then b else a)) := ⟨fun N D A w r _ d ty pos af g => by
  simp [execOp, resolve, invoke, builtin, ex.h N D A r, ey.h N D A r, Sem.run_bind, Result.andThen, Builtin.max_, Builtin.max2]⟩
section lit
variable {T yT : Nat} {x y : Operand} {k : IntKind} {a b : Nat}
instance (priority := high) [ex : Ev E x (.int k (OfNat.ofNat a))] [ey : Ev E y (.int k (OfNat.ofNat b))] [e : EqB (Nat.beq a b) true] : Rd P L E (.binOp .eql T x y yT) (.bool true) := ⟨fun N D A w r _ d ty pos af g => by
  have h : a = b := Nat.eq_of_beq_eq_true e.h
  subst h
  simp [execOp, ex.h N D A r, ey.h N D A r, eqGuard, binOp, Op.intCmp, Sem.run_bind, int_beq]⟩
instance (priority := high) [ex : Ev E x (.int k (OfNat.ofNat a))] [ey : Ev E y (.int k (OfNat.ofNat b))] [e : EqB (Nat.beq a b) false] : Rd P L E (.binOp .eql T x y yT) (.bool false) := ⟨fun N D A w r _ d ty pos af g => by
  have h : ¬ ((a : Int) = (b : Int)) := by have := e.ne; omega
  have h' : ¬ ((OfNat.ofNat a : Int) = (OfNat.ofNat b : Int)) := h
  simp [execOp, ex.h N D A r, ey.h N D A r, eqGuard, binOp, Op.intCmp, Sem.run_bind, int_beq]
  exact h'⟩
instance (priority := high) [ex : Ev E x (.int k (OfNat.ofNat a))] [ey : Ev E y (.int k (OfNat.ofNat b))] [e : EqB (Nat.beq a b) true] : Rd P L E (.binOp .neq T x y yT) (.bool false) := ⟨fun N D A w r _ d ty pos af g => by
  have h : a = b := Nat.eq_of_beq_eq_true e.h
  subst h
  simp [execOp, ex.h N D A r, ey.h N D A r, eqGuard, binOp, Op.intCmp, Sem.run_bind, bne, int_beq]⟩
instance (priority := high) [ex : Ev E x (.int k (OfNat.ofNat a))] [ey : Ev E y (.int k (OfNat.ofNat b))] [e : EqB (Nat.beq a b) false] : Rd P L E (.binOp .neq T x y yT) (.bool true) := ⟨fun N D A w r _ d ty pos af g => by
  have h : ¬ ((a : Int) = (b : Int)) := by have := e.ne; omega
  have h' : ¬ ((OfNat.ofNat a : Int) = (OfNat.ofNat b : Int)) := h
  simp [execOp, ex.h N D A r, ey.h N D A r, eqGuard, binOp, Op.intCmp, Sem.run_bind, bne, int_beq]
  exact h'⟩
end lit
class SameS (a b : ByteArray) : Prop where
  h : a = b
instance {a : ByteArray} : SameS a a := ⟨rfl⟩
instance (priority := high) {T yT x y a b} [ex : Ev E x (.string a)] [ey : Ev E y (.string b)] [e : SameS a b] : Rd P L E (.binOp .eql T x y yT) (.bool true) := ⟨fun N D A w r _ d ty pos af g => by
  have := e.h; subst this
  simp [execOp, ex.h N D A r, ey.h N D A r, eqGuard, binOp, Op.stringOp, Sem.run_bind]⟩
class NZ (b : Int) : Prop where
  h : b ≠ 0
instance {n : Nat} [e : EqB (Nat.beq n 0) false] : NZ (OfNat.ofNat n : Int) := ⟨by have := e.ne; show ((n : Nat) : Int) ≠ 0; omega⟩
instance {T yT x y k a b} [ex : Ev E x (.int k a)] [ey : Ev E y (.int k b)] [nz : NZ b] : Rd P L E (.binOp .rem T x y yT) (.int k (a.tmod b)) := ⟨fun N D A w r _ d ty pos af g => by
  simp [execOp, ex.h N D A r, ey.h N D A r, eqGuard, binOp, Op.intDiv, nz.h]⟩
instance {T yT x y k a b} [ex : Ev E x (.int k a)] [ey : Ev E y (.int k b)] [nz : NZ b] : Rd P L E (.binOp .quo T x y yT) (.int k (k.wrap (a.tdiv b))) := ⟨fun N D A w r _ d ty pos af g => by
  simp [execOp, ex.h N D A r, ey.h N D A r, eqGuard, binOp, Op.intDiv, nz.h]⟩
def isNilS (v : Value) : Bool := match v with | .slice none _ _ => true | _ => false
class SlV (L : List HP) (v : Value) : Prop where
  h : ∀ w, Sat L w → ∃ a n c, v = .slice a n c
instance {L : List HP} {a n c} : SlV L (.slice a n c) := ⟨fun _ _ => ⟨_, _, _, rfl⟩⟩
instance {L : List HP} {v : Value} {α : Type} {e : Enc α} {xs : List α} [i : RdS L v e xs] : SlV L v := ⟨fun w s => by
  rcases i.h w s with ⟨rfl, _⟩ | ⟨a, cap, rfl, _⟩
  · exact ⟨_, _, _, rfl⟩
  · exact ⟨_, _, _, rfl⟩⟩
theorem eqIn_nil {T e : TypeId} (h : P.underlying T = some (.slice e)) (d : Nat) (a : Option Addr) (n c : Nat) (w : World) : (Op.equalIn (d + 1) T (.slice a n c) (.slice none 0 0)).run P w = .ok (isNilS (.slice a n c)) w := by
  simp only [Op.equalIn, Sem.run_bind, run_und h, Result.andThen]
  cases a <;> rfl
theorem run_eq_nil {T e : TypeId} (h : P.underlying T = some (.slice e)) (a : Option Addr) (n c : Nat) (w : World) : (Op.equal T (.slice a n c) (.slice none 0 0)).run P w = .ok (isNilS (.slice a n c)) w := eqIn_nil h 9999 a n c w
instance {T yT x y e v} [t : TyD P T (.slice e)] [ex : Ev E x v] [ey : Ev E y (.slice none 0 0)] [sv : SlV L v] : Rd P L E (.binOp .eql T x y yT) (.bool (isNilS v)) := ⟨fun N D A w r s d ty pos af g => by
  obtain ⟨a, n, c, rfl⟩ := sv.h w s
  simp [execOp, ex.h N D A r, ey.h N D A r, eqGuard, binOp, Sem.run_bind, run_eq_nil t.h, Result.andThen]⟩
instance {T yT x y e v} [t : TyD P T (.slice e)] [ex : Ev E x v] [ey : Ev E y (.slice none 0 0)] [sv : SlV L v] : Rd P L E (.binOp .neq T x y yT) (.bool (!isNilS v)) := ⟨fun N D A w r s d ty pos af g => by
  obtain ⟨a, n, c, rfl⟩ := sv.h w s
  simp [execOp, ex.h N D A r, ey.h N D A r, eqGuard, binOp, Sem.run_bind, run_eq_nil t.h, Result.andThen]⟩
end rd

theorem rep_cells (zl : List Value) : ∀ m, (List.range (m * zl.length)).map (fun x => zl[x % zl.length]!) = (List.replicate m zl).flatten
  | 0 => by simp
  | m + 1 => by
    rw [Nat.add_mul, Nat.one_mul, List.range_add, List.map_append, rep_cells zl m, List.replicate_succ', List.flatten_append, List.map_map]
    congr 1
    simp only [List.flatten_cons, List.flatten_nil, List.append_nil]
    apply List.ext_getElem
    · simp
    · intro i h1 h2
      simp only [List.getElem_map, List.getElem_range, Function.comp]
      rw [Nat.mul_comm, Nat.mul_add_mod, Nat.mod_eq_of_lt h2, getElem!_pos zl i h2]
section ops
variable {P : Program} {ρ : Option Nat} {N : Nat} {D : List Deferred} {E : List (Nat × Value)} {L L' R : List HP} {Q : Exit → Act → World → Prop} {ops : Array Oper} {rest : List Oper}
  {d : Nat} {op : Op} {ty : TypeId} {pos : String} {af : Array Edge}
theorem co_makeSlice {α : Type} (e : Enc α) (z' : α) {T el : TypeId} {k b m : Nat} {z : Value} {x y : Operand} {n : Int} [td : TyD P T (.slice el)] [ti : TyI P el k b z] [ex : Ev E x (.int .i64 n)] [ey : Ev E y (.int .i64 n)]
    [hk : EqNat e.k k] [tn : ToNat n m] (hz : z.cells.toList = e.f z') (h0 : 0 ≤ n) (hb : m * b ≤ 140737488355328) (h63 : m ≤ 9223372036854775807)
    (h : ∀ v, Ht (own e el v (List.replicate m z') :: L) (CO P ρ N D ((d, v) :: E) ops rest Q)) :
    Ht L (CO P ρ N D E ops (⟨some d, .makeSlice T x y, ty, pos, af, none⟩ :: rest) Q) :=
  co_gen fun a w r s => by
    obtain ⟨i, hi, hi1, hi2, hi3⟩ := ti.get
    have hm := tn.h
    have hn : n = (m : Int) := by omega
    subst hn
    have hw : IntKind.i64.wrap (m : Int) = (m : Int) := IntWalk.i64_in _ (by omega)
    have hsz : z.cells.size = k := by have := congrArg List.length hz; rw [e.hk, hk.h] at this; simpa using this
    refine ⟨.slice (some ⟨w.heap.size, 0, none⟩) m m, { w with heap := w.heap.push (.cells ((Array.range (m * k)).map (z.cells[· % z.cells.size]!)) el (0, 0)) }, ?_, _, ?_, h _⟩
    · have h1 : ¬ (decide ((m : Int) < 0) || decide ((b : Int) * (m : Int) > 2 ^ 48)) = true := by
        have : (b : Int) * m ≤ 140737488355328 := by rw [Int.mul_comm, ← Int.natCast_mul]; omega
        simp only [Bool.or_eq_true, decide_eq_true_eq, not_or]; omega
      have h1' : ¬ (decide ((m : Int) < 0) || decide ((b : Int) * (m : Int) > 2 ^ 48) || decide ((m : Int) < 0) || decide ((m : Int) > (m : Int))) = true := by
        simp only [Bool.or_eq_true, decide_eq_true_eq, not_or] at h1 ⊢; omega
      have h2 : ¬ m * b > roomBytes := by show ¬ m * b > 2 ^ 47; omega
      have ht : (typeInfo el).run P w = .ok i w := by simp [typeInfo, program, Sem.run_bind, Sem.run, Result.andThen, hi]
      simp only [execOp, ex.h N D a r, ey.h N D a r, Sem.run_bind, Instr.makeSlice, run_und td.h, Result.andThen, asInt, asIntOf, Sem.run_pure, hw, ht, hi2]
      rw [if_neg h1']
      have hs : ∀ w, (sizeOf el).run P w = .ok k w := fun w => run_size ti w
      have hzv : ∀ w, (zeroValue el).run P w = .ok z w := fun w => run_zero ti w
      simp only [Int.toNat_natCast, askRoom, if_neg h2, Sem.run_bind, Sem.run_pure, hs]
      by_cases h0 : m * k = 0
      · have e0 : Array.range 0 = #[] := rfl
        simp [h0, e0, Sem.run_bind, newRow, newObj, Sem.run, Result.andThen]
      · simp [if_neg h0, Sem.run_bind, hzv, newRow, newObj, Sem.run, Result.andThen]
    · have := own_new (e := e) (T := el) (xs := List.replicate m z') (post := []) (cap := m) (fz := (0, 0)) (w' := { w with heap := w.heap.push (.cells ((Array.range (m * k)).map (z.cells[· % z.cells.size]!)) el (0, 0)) }) s rfl ?_ (fun x hx => by simp [Array.getElem?_push]; omega) (by simp) h63 (by simp) (fun i hi => by omega)
      · simpa using this
      · simp only [Array.getElem?_push_size, List.append_nil]
        congr 2
        apply Array.ext'
        have e1 : ∀ x, z.cells[x % z.cells.size]! = (e.f z')[x % (e.f z').length]! := fun x => by rw [← hz]; simp [getElem!_def, Array.getElem?_toList]
        have e2 : k = (e.f z').length := by rw [← hz]; simpa using hsz.symm
        simp only [Array.toList_map, Array.toList_range, e1]
        conv => lhs; rw [e2]
        rw [rep_cells, List.flatMap_def, List.map_replicate]
/-- '[]byte("abc")' of a constant -/
theorem co_constBytes {T el b n c : Nat} {x : Operand} {l : List Value} [td : TyD P T (.slice el)] [te : TyD P el (.int .u8)] [ex : Ev E x (.slice (some ⟨b, 0, none⟩) n c)] [p : Pull (pto b) L (cells l el) R] [ln : Len l n] [lc : EqNat c n] [sm : EqB (Nat.ble n 16777216) true]
    (xs : List UInt8) (hx : xs.flatMap encB.f = l) (h : Ht (own encB el (.slice (some ⟨b, 0, none⟩) n c) xs :: R) (CO P ρ N D ((d, .slice (some ⟨b, 0, none⟩) n c) :: E) ops rest Q)) :
    Ht L (CO P ρ N D E ops (⟨some d, .convert T T x, ty, pos, af, none⟩ :: rest) Q) :=
  co_gen fun a w r s => by
    have s' := p.sat s
    have hb := s'.get
    have hn := ln.h
    have hc := lc.h
    subst hc
    have hxn : xs.length = l.length := by rw [← hx, flat_len]; simp
    have hlt : b < w.heap.size := (Array.getElem?_eq_some_iff.1 hb).1
    have hle : c ≤ 16777216 := by have := sm.h; exact Nat.le_of_ble_eq_true this
    have hsh : w.shape? b = some (el, l.length) := by unfold World.shape?; rw [hb]; simp
    refine ⟨_, w.freeze ⟨b, l.length, none⟩ 1, by
      simp only [execOp, ex.h N D a r, Sem.run_bind]
      simp [convert, run_und td.h, run_und te.h, Sem.run_bind, markStringish, hsh, Result.andThen], _, ?_, h⟩
    have hset : Sat (pto b (.cells l.toArray el (l.length, l.length + 1)) :: R) (w.freeze ⟨b, l.length, none⟩ 1) := by
      refine s'.set rfl ?_ ?_
      · simp only [World.freeze, Nat.one_ne_zero, if_false, Array.getElem?_modify, if_true, hb]; simp
      · intro x hx
        simp only [World.freeze, Nat.one_ne_zero, if_false, Array.getElem?_modify, if_neg (Ne.symm hx)]
    refine seps_mono (fun g hg => .inr ⟨b, [], [], c, (l.length, l.length + 1), by rw [hxn, hn]; rfl, by omega, by omega, by simp [encB]; omega, ?_, fun i hi => ?_⟩) (fun _ l => l) hset
    · have hg' : g b = some (.cells l.toArray el (l.length, l.length + 1)) := hg
      rw [hg']; simp [hx]
    · simp [encB] at hi; simp; omega
end ops
end Go.SL
