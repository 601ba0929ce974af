import Derived.Test.YtgbimbagppoeaaaSLB
import Derived.Laws.Strings
namespace Go.SL
open Go
set_option linter.all false

/-! ### Types -/
class TyD (P : Program) (t : TypeId) (d : outParam TypeDesc) : Prop where
  h : P.underlying t = some d
/-- cells, bytes, zero of a type -/
class TyI (P : Program) (t : TypeId) (size bytes : outParam Nat) (z : outParam Value) : Prop where
  h : (P.info? t).map (fun i => (i.size, i.bytes, i.zero)) = some (size, bytes, some z)

theorem run_und {P : Program} {t : TypeId} {d : TypeDesc} (h : P.underlying t = some d) (w : World) : (underlying t).run P w = .ok d w := by
  simp [underlying, program, Sem.run_bind, Sem.run, Result.andThen, h]
theorem TyI.get {P : Program} {t : TypeId} {s b : Nat} {z : Value} (i : TyI P t s b z) : ∃ i, P.info? t = some i ∧ i.size = s ∧ i.bytes = b ∧ i.zero = some z := by
  have := i.h
  cases hi : P.info? t with
  | none => simp [hi] at this
  | some j => simp [hi] at this; exact ⟨j, rfl, this⟩
theorem run_size {P : Program} {t : TypeId} {s b : Nat} {z : Value} (i : TyI P t s b z) (w : World) : (sizeOf t).run P w = .ok s w := by
  obtain ⟨i, h, rfl, _⟩ := i.get
  simp [sizeOf, typeInfo, program, Sem.run_bind, Sem.run, Result.andThen, h]
theorem run_zero {P : Program} {t : TypeId} {s b : Nat} {z : Value} (i : TyI P t s b z) (w : World) : (zeroValue t).run P w = .ok z w := by
  obtain ⟨i, h, _, _, hz⟩ := i.get
  simp [zeroValue, typeInfo, program, Sem.run_bind, Sem.run, Result.andThen, h, hz]

/-! ### Operations that only read -/
/-- The operation gives v, whatever the world is of which L says something, and leaves it alone. -/
class Rd (P : Program) (L : List HP) (E : List (Nat × Value)) (op : Op) (v : outParam Value) : Prop where
  h : ∀ N D a w, Rep N D E a → Sat L w → ∀ d ty pos af g, (execOp a.eval ⟨d, op, ty, pos, af, g⟩).run P w = .ok (.value v) w

def notDefer : Op → Prop | .defer _ => False | _ => True

theorem notDefer_of {P : Program} {a : Act} {d ty pos af g w v w'} {op : Op} (h : (execOp a.eval ⟨d, op, ty, pos, af, g⟩).run P w = .ok (.value v) w') : ∀ c, op ≠ .defer c := by
  intro c hc
  subst hc
  simp only [execOp, Sem.run_bind] at h
  cases hr : (resolve a.eval c ty).run P w <;> simp [hr, Result.andThen, Sem.run] at h

/-- One operation that ends in a value, whatever it does to the world. -/
theorem co_val {P : Program} {ρ : Option Nat} {N : Nat} {D : List Deferred} {E : List (Nat × Value)} {L L' : List HP} {Q : Exit → Act → World → Prop} {ops : Array Oper} {rest : List Oper}
    {d : Nat} {op : Op} {ty : TypeId} {pos : String} {af : Array Edge} {v : Value}
    (hrun : ∀ a w, Rep N D E a → Sat L w → ∃ w', (execOp a.eval ⟨some d, op, ty, pos, af, none⟩).run P w = .ok (.value v) w' ∧ Sat L' w')
    (h : Ht L' (CO P ρ N D ((d, v) :: E) ops rest Q)) : Ht L (CO P ρ N D E ops (⟨some d, op, ty, pos, af, none⟩ :: rest) Q) := fun w s ok a r => by
  obtain ⟨w', hr, s'⟩ := hrun a w r s
  simp only [List.all_cons, Bool.and_eq_true] at ok
  simp only [wpListIn, Region.wanted, if_true, Oper.wpIn]
  refine ⟨fun _ _ => trivial, ?_⟩
  rw [Oper.semAt_eq _ _ _ (notDefer_of hr), hr]
  have hd : d < N := by simpa [okO, Nat.blt_eq] using ok.1
  exact h w' s' ok.2 _ (r.put hd v)

instance {P : Program} {ρ : Option Nat} {N : Nat} {D : List Deferred} {E : List (Nat × Value)} {L : List HP} {Q : Exit → Act → World → Prop} {ops : Array Oper} {rest : List Oper}
    {d : Nat} {op : Op} {ty : TypeId} {pos : String} {af : Array Edge} {v : Value} [x : Rd P L E op v] :
    Step (Ht L (CO P ρ N D E ops (⟨some d, op, ty, pos, af, none⟩ :: rest) Q)) (Ht L (CO P ρ N D ((d, v) :: E) ops rest Q)) :=
  ⟨co_val fun a w r s => ⟨w, x.h N D a w r s _ _ _ _ _, s⟩⟩

theorem int_beq (a b : Int) : (a == b) = decide (a = b) := by by_cases h : a = b <;> simp [h]
theorem bytes_beq (x y : ByteArray) : (x.toList == y.toList) = decide (x = y) := by
  by_cases h : x = y
  · simp [h]
  · have : x.toList ≠ y.toList := fun e => h (ByteArray.ext (by rw [ByteArray.toList_eq, ByteArray.toList_eq] at e; exact Array.toList_inj.mp e))
    simp [h, this]

theorem eqIn_bool {P : Program} {T : TypeId} (h : P.underlying T = some .bool) (d : Nat) (a b : Bool) (w : World) : (Op.equalIn (d + 1) T (.bool a) (.bool b)).run P w = .ok (decide (a = b)) w := by
  simp only [Op.equalIn, Sem.run_bind, run_und h, Result.andThen]
  cases a <;> cases b <;> rfl
theorem eqIn_ptr {P : Program} {T e : TypeId} (h : P.underlying T = some (.pointer e)) (d : Nat) (a : Option Addr) (w : World) : (Op.equalIn (d + 1) T (.pointer a) (.pointer none)).run P w = .ok a.isNone w := by
  simp only [Op.equalIn, Sem.run_bind, run_und h, Result.andThen]
  cases a <;> rfl
theorem run_eq_bool {P : Program} {T : TypeId} (h : P.underlying T = some .bool) (a b : Bool) (w : World) : (Op.equal T (.bool a) (.bool b)).run P w = .ok (decide (a = b)) w := eqIn_bool h 9999 a b w
theorem run_eq_ptr {P : Program} {T e : TypeId} (h : P.underlying T = some (.pointer e)) (a : Option Addr) (w : World) : (Op.equal T (.pointer a) (.pointer none)).run P w = .ok a.isNone w := eqIn_ptr h 9999 a w

section rd
variable {P : Program} {L : List HP} {E : List (Nat × Value)}

instance {x v} [e : Ev E x v] : Rd P L E (.move x) v := ⟨fun N D a w r _ d ty pos af g => by simp [execOp, e.h N D a r]⟩
instance {x v} [e : Ev E x v] : Rd P L E (.assign x) v := ⟨fun N D a w r _ d ty pos af g => by simp [execOp, e.h N D a r]⟩
instance (priority := high) {c x y v} [ec : Ev E c (.bool true)] [e : Ev E x v] : Rd P L E (.pick c x y) v := ⟨fun N D a w r _ d ty pos af g => by
  simp [execOp, ec.h N D a r, e.h N D a r, asBool, Sem.run_bind, Result.andThen]⟩
instance (priority := high) {c x y v} [ec : Ev E c (.bool false)] [e : Ev E y v] : Rd P L E (.pick c x y) v := ⟨fun N D a w r _ d ty pos af g => by
  simp [execOp, ec.h N D a r, e.h N D a r, asBool, Sem.run_bind, Result.andThen]⟩
instance {fn first cap vs us} [e1 : EvL E first vs] [e2 : EvL E cap us] : Rd P L E (.makeFunc fn first.toArray cap.toArray) (.func fn vs.toArray us.toArray) := ⟨fun N D a w r _ d ty pos af g => by
  simp [execOp, Instr.makeFunc, e1.h N D a r, e2.h N D a r]⟩


/-! ints -/
instance {T yT x y k a b} [ex : Ev E x (.int k a)] [ey : Ev E y (.int k b)] : Rd P L E (.binOp .add T x y yT) (.int k (k.wrap (a + b))) := ⟨fun N D A w r _ d ty pos af g => by
  simp [execOp, ex.h N D A r, ey.h N D A r, eqGuard, binOp, Op.intArith]⟩
instance {T yT x y k a b} [ex : Ev E x (.int k a)] [ey : Ev E y (.int k b)] : Rd P L E (.binOp .sub T x y yT) (.int k (k.wrap (a - b))) := ⟨fun N D A w r _ d ty pos af g => by
  simp [execOp, ex.h N D A r, ey.h N D A r, eqGuard, binOp, Op.intArith]⟩
instance {T yT x y k a b} [ex : Ev E x (.int k a)] [ey : Ev E y (.int k b)] : Rd P L E (.binOp .mul T x y yT) (.int k (k.wrap (a * b))) := ⟨fun N D A w r _ d ty pos af g => by
  simp [execOp, ex.h N D A r, ey.h N D A r, eqGuard, binOp, Op.intArith]⟩
instance {T yT x y k a b} [ex : Ev E x (.int k a)] [ey : Ev E y (.int k b)] : Rd P L E (.binOp .lss T x y yT) (.bool (decide (a < b))) := ⟨fun N D A w r _ d ty pos af g => by
  simp [execOp, ex.h N D A r, ey.h N D A r, eqGuard, binOp, Op.intCmp]⟩
instance {T yT x y k a b} [ex : Ev E x (.int k a)] [ey : Ev E y (.int k b)] : Rd P L E (.binOp .leq T x y yT) (.bool (decide (a ≤ b))) := ⟨fun N D A w r _ d ty pos af g => by
  simp [execOp, ex.h N D A r, ey.h N D A r, eqGuard, binOp, Op.intCmp]⟩
instance {T yT x y k a b} [ex : Ev E x (.int k a)] [ey : Ev E y (.int k b)] : Rd P L E (.binOp .gtr T x y yT) (.bool (decide (b < a))) := ⟨fun N D A w r _ d ty pos af g => by
  simp [execOp, ex.h N D A r, ey.h N D A r, eqGuard, binOp, Op.intCmp]⟩
instance {T yT x y k a b} [ex : Ev E x (.int k a)] [ey : Ev E y (.int k b)] : Rd P L E (.binOp .geq T x y yT) (.bool (decide (b ≤ a))) := ⟨fun N D A w r _ d ty pos af g => by
  simp [execOp, ex.h N D A r, ey.h N D A r, eqGuard, binOp, Op.intCmp]⟩
instance {T yT x y k a b} [ex : Ev E x (.int k a)] [ey : Ev E y (.int k b)] : Rd P L E (.binOp .eql T x y yT) (.bool (decide (a = b))) := ⟨fun N D A w r _ d ty pos af g => by
  simp [execOp, ex.h N D A r, ey.h N D A r, eqGuard, binOp, Op.intCmp, Sem.run_bind, int_beq]⟩
instance {T yT x y k a b} [ex : Ev E x (.int k a)] [ey : Ev E y (.int k b)] : Rd P L E (.binOp .neq T x y yT) (.bool (decide (a ≠ b))) := ⟨fun N D A w r _ d ty pos af g => by
  simp [execOp, ex.h N D A r, ey.h N D A r, eqGuard, binOp, Op.intCmp, Sem.run_bind, bne, int_beq]⟩
instance {T x b} [ex : Ev E x (.bool b)] : Rd P L E (.unOp .not T x) (.bool (!b)) := ⟨fun N D A w r _ d ty pos af g => by
  simp [execOp, ex.h N D A r, Op.unary]⟩
instance {T x k a} [ex : Ev E x (.int k a)] : Rd P L E (.unOp .neg T x) (.int k (k.wrap (0 - a))) := ⟨fun N D A w r _ d ty pos af g => by
  simp [execOp, ex.h N D A r, Op.unary, Op.intArith]⟩
instance {S T x k j a dS} [tS : TyD P S dS] [t : TyD P T (.int k)] [ex : Ev E x (.int j a)] : Rd P L E (.convert S T x) (.int k (k.wrap a)) := ⟨fun N D A w r _ d ty pos af g => by
  simp [execOp, ex.h N D A r, convert, Sem.run_bind, run_und t.h, run_und tS.h, Result.andThen, Conv.intToInt]⟩
instance {T yT x y a b} [t : TyD P T .bool] [ex : Ev E x (.bool a)] [ey : Ev E y (.bool b)] : Rd P L E (.binOp .eql T x y yT) (.bool (decide (a = b))) := ⟨fun N D A w r _ d ty pos af g => by
  simp [execOp, ex.h N D A r, ey.h N D A r, eqGuard, binOp, Sem.run_bind, run_eq_bool t.h, Result.andThen]⟩
instance {T yT x y a b} [t : TyD P T .bool] [ex : Ev E x (.bool a)] [ey : Ev E y (.bool b)] : Rd P L E (.binOp .neq T x y yT) (.bool (decide (a ≠ b))) := ⟨fun N D A w r _ d ty pos af g => by
  simp [execOp, ex.h N D A r, ey.h N D A r, eqGuard, binOp, Sem.run_bind, run_eq_bool t.h, Result.andThen]⟩
instance {T yT x y a b} [ex : Ev E x (.string a)] [ey : Ev E y (.string b)] : Rd P L E (.binOp .eql T x y yT) (.bool (decide (a = b))) := ⟨fun N D A w r _ d ty pos af g => by
  simp [execOp, ex.h N D A r, ey.h N D A r, eqGuard, binOp, Op.stringOp, Sem.run_bind, bytes_beq]⟩
instance {T yT x y a b} [ex : Ev E x (.string a)] [ey : Ev E y (.string b)] : Rd P L E (.binOp .neq T x y yT) (.bool (decide (a ≠ b))) := ⟨fun N D A w r _ d ty pos af g => by
  simp [execOp, ex.h N D A r, ey.h N D A r, eqGuard, binOp, Op.stringOp, Sem.run_bind, bytes_beq]⟩
instance {T yT x y a b} [ex : Ev E x (.string a)] [ey : Ev E y (.string b)] : Rd P L E (.binOp .lss T x y yT) (.bool (Op.bytesLess a.toList b.toList)) := ⟨fun N D A w r _ d ty pos af g => by
  simp [execOp, ex.h N D A r, ey.h N D A r, eqGuard, binOp, Op.stringOp, Sem.run_bind]⟩
instance {T yT x y e a} [t : TyD P T (.pointer e)] [ex : Ev E x (.pointer (some a))] [ey : Ev E y (.pointer none)] : Rd P L E (.binOp .eql T x y yT) (.bool false) := ⟨fun N D A w r _ d ty pos af g => by
  simp [execOp, ex.h N D A r, ey.h N D A r, eqGuard, binOp, Sem.run_bind, run_eq_ptr t.h, Result.andThen]⟩
instance {T yT x y e a} [t : TyD P T (.pointer e)] [ex : Ev E x (.pointer (some a))] [ey : Ev E y (.pointer none)] : Rd P L E (.binOp .neq T x y yT) (.bool true) := ⟨fun N D A w r _ d ty pos af g => by
  simp [execOp, ex.h N D A r, ey.h N D A r, eqGuard, binOp, Sem.run_bind, run_eq_ptr t.h, Result.andThen]⟩
instance {T yT x y e} [t : TyD P T (.pointer e)] [ex : Ev E x (.pointer none)] [ey : Ev E y (.pointer none)] : Rd P L E (.binOp .eql T x y yT) (.bool true) := ⟨fun N D A w r _ d ty pos af g => by
  simp [execOp, ex.h N D A r, ey.h N D A r, eqGuard, binOp, Sem.run_bind, run_eq_ptr t.h, Result.andThen]⟩
instance {T yT x y e} [t : TyD P T (.pointer e)] [ex : Ev E x (.pointer none)] [ey : Ev E y (.pointer none)] : Rd P L E (.binOp .neq T x y yT) (.bool false) := ⟨fun N D A w r _ d ty pos af g => by
  simp [execOp, ex.h N D A r, ey.h N D A r, eqGuard, binOp, Sem.run_bind, run_eq_ptr t.h, Result.andThen]⟩

/-! memory -/
instance {x a} [ex : Ev E x (.pointer (some a))] : Rd P L E (.nilCheck x) (.pointer (some a)) := ⟨fun N D A w r _ d ty pos af g => by
  simp [execOp, ex.h N D A r]⟩
instance {x f u v} [ex : Ev E x (.func (.func f) u v)] : Rd P L E (.nilCheck x) (.func (.func f) u v) := ⟨fun N D A w r _ d ty pos af g => by
  simp [execOp, ex.h N D A r]⟩
end rd

/-- field i of struct s lies at this offset. -/
class FOff (P : Program) (s i : Nat) (o : outParam Nat) : Prop where
  h : ∃ fs f z b n, P.underlying s = some (.struct fs) ∧ fs[i]? = some f ∧ f.offset = o ∧ TyI P f.type (n + 1) b z
class AAdd (a : Addr) (n : Nat) (c : outParam Addr) : Prop where
  h : a.add n = c
instance (priority := high) {b n} : AAdd ⟨b, 0, none⟩ n ⟨b, n, none⟩ := ⟨by by_cases h : n = 0 <;> simp [Addr.add, h]⟩
instance {b o n} : AAdd ⟨b, o, none⟩ n ⟨b, o + n, none⟩ := ⟨by by_cases h : n = 0 <;> simp [Addr.add, h]⟩

class Nth {α : Type} (l : List α) (n : Nat) (v : outParam α) : Prop where
  h : l[n]? = some v
instance {α : Type} {v : α} {l : List α} : Nth (v :: l) 0 v := ⟨rfl⟩
instance {α : Type} {v u : α} {l : List α} {n : Nat} [i : Nth l n v] : Nth (u :: l) (n + 1) v := ⟨i.h⟩
class Tk {α : Type} (l : List α) (n : Nat) (v : outParam (List α)) : Prop where
  h : n ≤ l.length ∧ l.take n = v
instance {α : Type} {l : List α} : Tk l 0 [] := ⟨by simp⟩
instance {α : Type} {u : α} {l v : List α} {n : Nat} [i : Tk l n v] : Tk (u :: l) (n + 1) (u :: v) := ⟨by have := i.h; simp [this.2]; omega⟩
class Sub {α : Type} (l : List α) (o n : Nat) (v : outParam (List α)) : Prop where
  h : o + n ≤ l.length ∧ (l.drop o).take n = v
instance {α : Type} {l v : List α} {n : Nat} [i : Tk l n v] : Sub l 0 n v := ⟨by have := i.h; simpa using this⟩
instance {α : Type} {u : α} {l v : List α} {o n : Nat} [i : Sub l o n v] : Sub (u :: l) (o + 1) n v := ⟨by have := i.h; simp [this.2]; omega⟩

/-- what lies in a block, of cells -/
class Blk (L : List HP) (b : Nat) (l : outParam (List Value)) : Prop where
  h : ∀ w, Sat L w → ∃ T fz, w.heap[b]? = some (.cells l.toArray T fz)
instance (priority := high) {b l T fz L} : Blk (pto b (.cells l.toArray T fz) :: L) b l := ⟨fun _ s => ⟨T, fz, s.get⟩⟩
instance (priority := 900) {A L b l} [i : Blk L b l] : Blk (A :: L) b l := ⟨fun w s => i.h w s.tail⟩
/-- a cell -/
class Cl (L : List HP) (a : Addr) (v : outParam Value) : Prop where
  h : ∀ w, Sat L w → w.cell? a = some v
instance {L b o l v} [i : Blk L b l] [n : Nth l o v] : Cl L ⟨b, o, none⟩ v := ⟨fun w s => by
  obtain ⟨T, fz, h⟩ := i.h w s
  have := n.h
  simp [World.cell?, h, this]⟩
/-- a row of cells -/
class Cls (L : List HP) (a : Addr) (n : Nat) (vs : outParam (List Value)) : Prop where
  h : ∀ w, Sat L w → vs.length = n ∧ ∀ j u, vs[j]? = some u → w.cell? (a.add j) = some u
instance {L b o l n vs} [i : Blk L b l] [k : Sub l o n vs] : Cls L ⟨b, o, none⟩ n vs := ⟨fun w s => by
  obtain ⟨T, fz, h⟩ := i.h w s
  obtain ⟨h1, h2⟩ := k.h
  subst h2
  refine ⟨by simp; omega, fun j u hj => ?_⟩
  have ha : (Addr.add ⟨b, o, none⟩ j) = ⟨b, o + j, none⟩ := by by_cases h : j = 0 <;> simp [Addr.add, h]
  rw [ha]
  rw [List.getElem?_take] at hj
  split at hj
  · simp only [World.cell?, h]
    simpa using hj
  · cases hj⟩

theorem add_add (a : Addr) (m n : Nat) : (a.add m).add n = a.add (m + n) := by
  by_cases h : m = 0
  · simp [Addr.add, h]
  · by_cases h' : n = 0
    · simp [Addr.add, h']
    · simp [Addr.add, h, h', Nat.add_assoc]

theorem run_load {P : Program} {w : World} {a : Addr} {v : Value} (h : w.cell? a = some v) : (load a).run P w = .ok v w := by simp [load, Sem.run, h]
theorem run_loadCells {P : Program} {w : World} {a : Addr} {vs : List Value} (h : ∀ j u, vs[j]? = some u → w.cell? (a.add j) = some u) : (loadCells a vs.length).run P w = .ok vs.toArray w := by
  have key : ∀ (vs : List Value) (i : Nat) (acc : Array Value), (∀ j u, vs[j]? = some u → w.cell? (a.add (i + j)) = some u) → (loadCellsFrom a i vs.length acc).run P w = .ok (acc ++ vs.toArray) w := by
    intro vs
    induction vs with
    | nil => intro i acc _; simp [loadCellsFrom]
    | cons v vs ih =>
      intro i acc h
      have h0 := h 0 v rfl
      simp only [Nat.add_zero] at h0
      have := ih (i + 1) (acc.push v) (fun j u hj => by have := h (j + 1) u (by simpa using hj); rw [show i + 1 + j = i + (j + 1) from by omega]; exact this)
      simp only [List.length_cons, loadCellsFrom, Sem.run_bind, run_load h0, Result.andThen, this]
      simp
  have := key vs 0 #[] (by simpa using h)
  simpa [loadCells] using this

class IsScalar (d : TypeDesc) : Prop where
  h : (match d with | .struct _ | .array _ _ => true | _ => false) = false
instance {k} : IsScalar (.int k) := ⟨rfl⟩
instance : IsScalar .bool := ⟨rfl⟩
instance : IsScalar .string := ⟨rfl⟩
instance {e} : IsScalar (.pointer e) := ⟨rfl⟩
instance {e} : IsScalar (.slice e) := ⟨rfl⟩
instance {k e} : IsScalar (.map k e) := ⟨rfl⟩
instance {a b c} : IsScalar (.func a b c) := ⟨rfl⟩
instance {ms} : IsScalar (.interface ms) := ⟨rfl⟩

/-- a variable of a type, read -/
class Var (P : Program) (L : List HP) (t : TypeId) (a : Addr) (v : outParam Value) : Prop where
  h : ∀ w, Sat L w → (loadVar t a).run P w = .ok v w
instance {P L t a v d} [td : TyD P t d] [sc : IsScalar d] [c : Cl L a v] : Var P L t a v := ⟨fun w s => by
  have := sc.h
  unfold loadVar isAgg
  simp only [Sem.run_bind, run_und td.h, Result.andThen]
  have hc := c.h w s
  cases d <;> simp_all [run_load hc]⟩
instance {P L t a vs fs n b z} [td : TyD P t (.struct fs)] [ti : TyI P t n b z] [c : Cls L a n vs] : Var P L t a (.agg vs.toArray) := ⟨fun w s => by
  obtain ⟨h1, h2⟩ := c.h w s
  subst h1
  unfold loadVar isAgg
  simp [Sem.run_bind, run_und td.h, Result.andThen, run_size ti, run_loadCells h2]⟩

section rd
variable {P : Program} {L : List HP} {E : List (Nat × Value)}
instance {t x a v} [ex : Ev E x (.pointer (some a))] [va : Var P L t a v] : Rd P L E (.load t x) v := ⟨fun N D A w r s d ty pos af g => by
  simp [execOp, ex.h N D A r, Instr.loadAt, Instr.sureAddr, va.h w s]⟩
instance {s x i a o c} [ex : Ev E x (.pointer (some a))] [f : FOff P s i o] [ad : AAdd a o c] : Rd P L E (.fieldAddr s x i) (.pointer (some c)) := ⟨fun N D A w r _ d ty pos af g => by
  obtain ⟨fs, f, z, b, n, h1, h2, h3, h4⟩ := f.h
  have := ad.h
  simp [execOp, ex.h N D A r, Instr.fieldAt, Instr.sureAddr, Sem.run_bind, run_und h1, Result.andThen, h2, fieldPlace, run_size h4, h3, this]⟩
instance {x vs i v} [ex : Ev E x (.tuple vs)] [n : Nth vs.toList i v] : Rd P L E (.extract x i) v := ⟨fun N D A w r _ d ty pos af g => by
  have := n.h
  simp only [Array.getElem?_toList] at this
  simp [execOp, ex.h N D A r, Instr.extract, this]⟩
end rd
end Go.SL
