import Derived.Test.YtgbimbagppoeaaaSLE
import Derived.Deep.AppendSrc
import Derived.IntWalk
import Derived.Lib.ConvBytes
import Derived.Laws.BytesArg
import Derived.Laws.BytesString
import Derived.Laws.IdiomStrings
import Derived.Laws.MakeOwn
namespace Go.SL
open Go
set_option linter.all false

/-! ### Slices -/
structure Enc (α : Type) where
  k : Nat
  f : α → List Value
  hk : ∀ x, (f x).length = k
  h1 : ∀ x, ∀ v ∈ f x, v.oneCell = true

@[reducible] def encB : Enc UInt8 := ⟨1, fun b => [.int .u8 b.toNat], fun _ => rfl, fun _ v h => by simp at h; subst h; rfl⟩
@[reducible] def encStr : Enc ByteArray := ⟨1, fun b => [.string b], fun _ => rfl, fun _ v h => by simp at h; subst h; rfl⟩
@[reducible] def encI : Enc Int := ⟨1, fun b => [.int .i64 b], fun _ => rfl, fun _ v h => by simp at h; subst h; rfl⟩

def SlIn {α : Type} (w : World) (v : Value) (e : Enc α) (xs : List α) : Prop :=
  (v = .slice none 0 0 ∧ xs = []) ∨ ∃ a cap, v = .slice (some a) xs.length cap ∧ xs.length ≤ cap ∧ cap ≤ 9223372036854775807 ∧
    ∀ i x, xs[i]? = some x → ∀ j u, (e.f x)[j]? = some u → w.cell? (a.add (i * e.k + j)) = some u

theorem SlIn.le {α : Type} {w : World} {v : Value} {e : Enc α} {xs : List α} (h : SlIn w v e xs) : xs.length ≤ 9223372036854775807 := by
  rcases h with ⟨_, rfl⟩ | ⟨a, cap, _, h1, h2, _⟩
  · simp
  · omega

class RdS (L : List HP) (v : Value) {α : outParam Type} (e : outParam (Enc α)) (xs : outParam (List α)) : Prop where
  h : ∀ w, Sat L w → SlIn w v e xs
instance (priority := 900) {A : HP} {L : List HP} {v : Value} {α : Type} {e : Enc α} {xs : List α} [i : RdS L v e xs] : RdS (A :: L) v e xs := ⟨fun w s => i.h w s.tail⟩

def fzOk (fz : Nat × Nat) (n : Nat) : Prop := ∀ i, i < n → ¬ (fz.1 ≤ i ∧ i < fz.2)

def own {α : Type} (e : Enc α) (T : TypeId) (v : Value) (xs : List α) : HP := fun _ h =>
  (v = .slice none 0 0 ∧ xs = []) ∨ ∃ b pre post cap fz, v = .slice (some ⟨b, List.length pre, none⟩) xs.length cap ∧ xs.length ≤ cap ∧ cap ≤ 9223372036854775807 ∧
    cap * e.k ≤ xs.length * e.k + List.length post ∧ h b = some (.cells (pre ++ xs.flatMap e.f ++ post).toArray T fz) ∧ fzOk fz (pre.length + xs.length * e.k + post.length)

theorem flat_len {α : Type} (e : Enc α) (xs : List α) : (xs.flatMap e.f).length = xs.length * e.k := by
  induction xs with
  | nil => simp
  | cons x xs ih => simp [List.flatMap_cons, ih, e.hk, Nat.add_mul, Nat.add_comm]
theorem flat_get {α : Type} (e : Enc α) {xs : List α} : ∀ {i : Nat} {x : α}, xs[i]? = some x → ∀ {j : Nat} {u : Value}, (e.f x)[j]? = some u → (xs.flatMap e.f)[i * e.k + j]? = some u := by
  induction xs with
  | nil => intro i x h; simp at h
  | cons y ys ih =>
    intro i x h j u hu
    have hj : j < e.k := by rw [← e.hk x]; exact (List.getElem?_eq_some_iff.1 hu).1
    cases i with
    | zero =>
      simp only [List.getElem?_cons_zero, Option.some.injEq] at h
      subst h
      rw [List.flatMap_cons, List.getElem?_append_left (by rw [e.hk]; omega)]
      simpa using hu
    | succ i =>
      simp only [List.getElem?_cons_succ] at h
      rw [List.flatMap_cons, List.getElem?_append_right (by rw [e.hk, Nat.add_mul]; omega)]
      have := ih h hu
      rw [e.hk, show (i + 1) * e.k + j - e.k = i * e.k + j from by rw [Nat.add_mul]; omega]
      exact this

theorem own_sat {α : Type} {e : Enc α} {T : TypeId} {v : Value} {xs : List α} {L : List HP} {w : World} (s : Sat (own e T v xs :: L) w) : SlIn w v e xs := by
  obtain ⟨h1, hle, ho⟩ := seps_head s
  rcases ho with h | ⟨b, pre, post, cap, fz, hv, h2, h3, h4, h5, h6⟩
  · exact .inl h
  · refine .inr ⟨_, cap, hv, h2, h3, fun i x hx j u hu => ?_⟩
    have hb := hle _ _ h5
    have := flat_get e hx hu
    have hlt := (List.getElem?_eq_some_iff.1 this).1
    have ha : (Addr.add ⟨b, pre.length, none⟩ (i * e.k + j)) = ⟨b, pre.length + (i * e.k + j), none⟩ := by by_cases h : i * e.k + j = 0 <;> simp [Addr.add, h]
    rw [ha]
    simp only [World.cell?, hb, Option.isSome_none, Bool.false_eq_true, if_false, List.getElem?_toArray]
    rw [List.append_assoc, List.getElem?_append_right (by omega), Nat.add_sub_cancel_left, List.getElem?_append_left (by omega)]
    exact this

instance (priority := high) {α : Type} {e : Enc α} {T : TypeId} {v : Value} {xs : List α} {L : List HP} : RdS (own e T v xs :: L) v e xs := ⟨fun _ s => own_sat s⟩

/-! in bounds, as instances -/
class InB (i n : Nat) : Prop where
  h : i < n
class InSl (lo hi n : Nat) : Prop where
  h : lo ≤ hi ∧ hi ≤ n
class EqNat (a b : Nat) : Prop where
  h : a = b
instance {a : Nat} : EqNat a a := ⟨rfl⟩

def elP (v : Value) (k i j : Nat) : Addr := match v with | .slice (some a) _ _ => a.add (i * k + j) | _ => (⟨0, 0, none⟩ : Addr).add (i * k + j)
theorem elP_add (v : Value) (k i j n : Nat) : (elP v k i j).add n = elP v k i (j + n) := by
  unfold elP; split <;> rw [add_add, Nat.add_assoc]
instance (priority := high) {v k i n} : AAdd (elP v k i 0) n (elP v k i n) := ⟨by rw [elP_add, Nat.zero_add]⟩
instance {v k i j n} : AAdd (elP v k i j) n (elP v k i (j + n)) := ⟨elP_add ..⟩

def slSub (v : Value) (k lo hi : Nat) : Value := match v with | .slice a _ c => .slice (if c = lo then a else a.map (·.add (lo * k))) (hi - lo) (c - lo) | x => x
def slSub3 (v : Value) (k lo hi m : Nat) : Value := match v with | .slice a _ _ => .slice (if m = lo then a else a.map (·.add (lo * k))) (hi - lo) (m - lo) | x => x

/-- the n-th element -/
theorem getB {α : Type} [Inhabited α] {xs : List α} {i : Nat} (h : i < xs.length) : xs[i]? = some xs[i]! := by
  rw [List.getElem?_eq_getElem h, getElem!_pos xs i h]

instance {P : Program} {L : List HP} {t : TypeId} {v : Value} {i j : Nat} {α : Type} [Inhabited α] {e : Enc α} {xs : List α} {d : TypeDesc} {k : Nat} {u : Value}
    [td : TyD P t d] [sc : IsScalar d] [rs : RdS L v e xs] [hk : EqNat e.k k] [ib : InB i xs.length] [n : Nth (e.f xs[i]!) j u] : Var P L t (elP v k i j) u := ⟨fun w s => by
  have hc : w.cell? (elP v k i j) = some u := by
    rcases rs.h w s with ⟨hv, hx⟩ | ⟨a, cap, hv, h1, h2, h3⟩
    · have := ib.h; rw [hx] at this; simp at this
    · have := h3 i _ (getB ib.h) j u n.h
      rw [hv, ← hk.h]; exact this
  have := sc.h
  unfold loadVar isAgg
  simp only [Sem.run_bind, run_und td.h, Result.andThen]
  cases d <;> simp_all [run_load hc]⟩
instance {P : Program} {L : List HP} {t : TypeId} {v : Value} {i j : Nat} {α : Type} [Inhabited α] {e : Enc α} {xs : List α} {fs : Array Field} {k : Nat} {us : List Value} {n b : Nat} {z : Value}
    [td : TyD P t (.struct fs)] [ti : TyI P t n b z] [rs : RdS L v e xs] [hk : EqNat e.k k] [ib : InB i xs.length] [sb : Sub (e.f xs[i]!) j n us] : Var P L t (elP v k i j) (.agg us.toArray) := ⟨fun w s => by
  obtain ⟨h1, h2⟩ := sb.h
  have hl : us.length = n := by rw [← h2]; simp only [List.length_take, List.length_drop]; omega
  have hc : ∀ m u, us[m]? = some u → w.cell? ((elP v k i j).add m) = some u := by
    intro m u hu
    rcases rs.h w s with ⟨hv, hx⟩ | ⟨a, cap, hv, g1, g2, g3⟩
    · have := ib.h; rw [hx] at this; simp at this
    · rw [elP_add]
      have hm : (e.f xs[i]!)[j + m]? = some u := by
        rw [← h2, List.getElem?_take] at hu
        split at hu
        · simpa using hu
        · cases hu
      have := g3 i _ (getB ib.h) (j + m) u hm
      rw [hv, ← hk.h]; exact this
  subst hl
  unfold loadVar isAgg
  simp [Sem.run_bind, run_und td.h, Result.andThen, run_size ti, run_loadCells hc]⟩

class ToNat (n : Int) (i : outParam Nat) : Prop where
  h : n.toNat = i
instance (priority := high) {i : Nat} : ToNat (i : Int) i := ⟨by simp⟩
instance (priority := high) {i : Nat} : ToNat ((i : Int) + 1) (i + 1) := ⟨by omega⟩
instance (priority := high) {i j : Nat} : ToNat ((i : Int) + (j : Int)) (i + j) := ⟨by omega⟩
instance (priority := high) {i : Nat} : ToNat (OfNat.ofNat i : Int) (OfNat.ofNat i : Nat) := ⟨rfl⟩
instance (priority := low) {n : Int} : ToNat n n.toNat := ⟨rfl⟩

section sl
variable {P : Program} {ρ : Option Nat} {N : Nat} {D : List Deferred} {E : List (Nat × Value)} {L L' : List HP} {Q : Exit → Act → World → Prop} {ops : Array Oper} {rest : List Oper}
  {d : Nat} {op : Op} {ty : TypeId} {pos : String} {af : Array Edge}

/-- 'xs[i]', its place -/
theorem co_index {T el : TypeId} {x i : Operand} {v : Value} {ik : IntKind} {iv : Int} {α : Type} {e : Enc α} {xs : List α} {k b m : Nat} {z : Value}
    [td : TyD P T (.slice el)] [ti : TyI P el k b z] [ex : Ev E x v] [ei : Ev E i (.int ik iv)] [rs : RdS L v e xs] [tn : ToNat iv m] (hi : 0 ≤ iv ∧ iv < xs.length)
    (h : InB m xs.length → Ht L (CO P ρ N D ((d, .pointer (some (elP v k m 0))) :: E) ops rest Q)) :
    Ht L (CO P ρ N D E ops (⟨some d, .indexAddr T x i, ty, pos, af, none⟩ :: rest) Q) :=
  co_val (fun a w r s => ⟨w, by
    have hm := tn.h
    rcases rs.h w s with ⟨hv, hx⟩ | ⟨ad, cap, hv, _, _, _⟩
    · rw [hx] at hi; simp at hi; omega
    · subst hv
      simp only [execOp, ex.h N D a r, ei.h N D a r, Instr.indexAt, asIntOf, Sem.run_bind, Sem.run_pure, Result.andThen, run_und td.h, hi, and_self, if_true, run_size ti, elP, hm, Nat.add_zero], s⟩)
    (h ⟨by have := tn.h; omega⟩)

/-- 'len' -/
theorem run_len_sl {T el : TypeId} (td : P.underlying T = some (.slice el)) (a : Option Addr) (n c : Nat) (w : World) : (Builtin.len_ #[T] ty #[.slice a n c]).run P w = .ok (.int .i64 n) w := by
  simp [Builtin.len_, Sem.run_bind, run_und td, Result.andThen, goInt]
instance {T el : TypeId} {x : Operand} {v : Value} {α : Type} {e : Enc α} {xs : List α} [td : TyD P T (.slice el)] [ex : Ev E x v] [rs : RdS L v e xs] :
    Rd P L E (.call ⟨.builtin .len, #[x], #[T]⟩) (.int .i64 xs.length) := ⟨fun N D a w r s d ty pos af g => by
  have : ∃ a c, v = .slice a xs.length c := by
    rcases rs.h w s with ⟨hv, hx⟩ | ⟨a, cap, hv, _⟩
    · exact ⟨none, 0, by rw [hv, hx]; rfl⟩
    · exact ⟨_, _, hv⟩
  obtain ⟨a', c, rfl⟩ := this
  simp [execOp, resolve, invoke, builtin, ex.h N D a r, Sem.run_bind, Result.andThen, run_len_sl td.h]⟩
instance (priority := high) {T el : TypeId} {x : Operand} {a : Option Addr} {n c : Nat} [td : TyD P T (.slice el)] [ex : Ev E x (.slice a n c)] :
    Rd P L E (.call ⟨.builtin .len, #[x], #[T]⟩) (.int .i64 n) := ⟨fun N D a w r s d ty pos af g => by
  simp [execOp, resolve, invoke, builtin, ex.h N D a r, Sem.run_bind, Result.andThen, run_len_sl td.h]⟩
instance {T : TypeId} {x : Operand} {st : ByteArray} [td : TyD P T .string] [ex : Ev E x (.string st)] :
    Rd P L E (.call ⟨.builtin .len, #[x], #[T]⟩) (.int .i64 st.size) := ⟨fun N D a w r s d ty pos af g => by
  simp [execOp, resolve, invoke, builtin, ex.h N D a r, Sem.run_bind, Result.andThen, Builtin.len_, run_und td.h, goInt]⟩

/-- a literal row of values -/
def partsOk (n : Nat) (l : List (Nat × Operand)) : Prop := l.map (·.1) = List.range n

theorem sliceIn_of {w : World} {v : Value} {α : Type} {e : Enc α} {xs : List α} (h : SlIn w v e xs) : ∃ a c, v = .slice a xs.length c ∧ xs.length ≤ c ∧ c ≤ 9223372036854775807 := by
  rcases h with ⟨hv, hx⟩ | ⟨a, cap, hv, h1, h2, _⟩
  · exact ⟨none, 0, by rw [hv, hx]; rfl, by simp [hx], by omega⟩
  · exact ⟨_, _, hv, h1, h2⟩

theorem slSub_in {w : World} {v : Value} {α : Type} {e : Enc α} {xs : List α} (h : SlIn w v e xs) {lo hi : Nat} (hs : lo ≤ hi ∧ hi ≤ xs.length) : SlIn w (slSub v e.k lo hi) e ((xs.take hi).drop lo) := by
  rcases h with ⟨hv, hx⟩ | ⟨a, cap, hv, h1, h2, h3⟩
  · subst hv; subst hx
    simp at hs
    obtain ⟨rfl, rfl⟩ : lo = 0 ∧ hi = 0 := by omega
    exact .inl ⟨by simp [slSub], by simp⟩
  · subst hv
    refine .inr ⟨if cap = lo then a else a.add (lo * e.k), cap - lo, ?_, ?_, by omega, fun i x hx j u hu => ?_⟩
    · simp only [slSub]
      by_cases hc : cap = lo
      · simp [hc]; omega
      · simp [hc]; omega
    · simp; omega
    · have hlt := (List.getElem?_eq_some_iff.1 hx).1
      simp at hlt
      have hx' : xs[lo + i]? = some x := by
        rw [List.getElem?_drop, List.getElem?_take] at hx
        split at hx
        · exact hx
        · cases hx
      rw [if_neg (by omega), add_add]
      have := h3 _ _ hx' j u hu
      rw [show lo * e.k + (i * e.k + j) = (lo + i) * e.k + j from by rw [Nat.add_mul]; omega]
      exact this

instance {v : Value} {α : Type} {e : Enc α} {xs : List α} {lo hi k : Nat} [rs : RdS L v e xs] [hk : EqNat e.k k] [hs : InSl lo hi xs.length] : RdS L (slSub v k lo hi) e ((xs.take hi).drop lo) :=
  ⟨fun w s => by rw [← hk.h]; exact slSub_in (rs.h w s) hs.h⟩

class EvO (E : List (Nat × Value)) (x : Option Operand) (v : outParam (Option Value)) : Prop where
  h : ∀ N D a, Rep N D E a → x.map a.eval = v
instance : EvO E none none := ⟨fun _ _ _ _ => rfl⟩
instance {x v} [e : Ev E x v] : EvO E (some x) (some v) := ⟨fun N D a r => by simp [e.h N D a r]⟩
/-- a bound, or where it is left out another -/
class Bnd (v : Option Value) (dflt : Nat) (n : outParam Int) : Prop where
  h : (v = none ∧ n = dflt) ∨ ∃ k, v = some (.int k n)
instance {d : Nat} : Bnd none d d := ⟨.inl ⟨rfl, rfl⟩⟩
instance {k n} {d : Nat} : Bnd (some (.int k n)) d n := ⟨.inr ⟨k, rfl⟩⟩

theorem run_bound {v : Value} {k : IntKind} {n : Int} {y : Nat} {c : BoundsCode} (hv : v = .int k n) (h : 0 ≤ n ∧ n ≤ y) (w : World) : (Instr.sliceBound v y c).run P w = .ok n.toNat w := by
  subst hv
  simp [Instr.sliceBound, asIntOf, Sem.run_bind, Result.andThen, h]

theorem run_slice2 {T el : TypeId} {k b : Nat} {z : Value} (td : P.underlying T = some (.slice el)) (ti : TyI P el k b z) {a : Option Addr} {n c : Nat} {lo hi : Option Value} {l h : Int} [bl : Bnd lo 0 l] [bh : Bnd hi n h]
    (h1 : 0 ≤ l ∧ l ≤ h ∧ h ≤ c) (w : World) : (Instr.slice T (.slice a n c) lo hi none).run P w = .ok (slSub (.slice a n c) k l.toNat h.toNat) w := by
  have e1 : ∀ cd, (match hi, (none : Option Value) with | some v, some _ => Instr.sliceBound v c .slice3B | some v, none => Instr.sliceBound v c cd | none, none => pure n | none, some _ => stuck "Slice: max without high").run P w = .ok h.toNat w := by
    intro cd
    rcases bh.h with ⟨rfl, rfl⟩ | ⟨k, rfl⟩
    · simp
    · exact run_bound rfl (by omega) w
  have e2 : ∀ cd, (match lo with | some v => Instr.sliceBound v h.toNat cd | none => (pure 0 : Sem Nat)).run P w = .ok l.toNat w := by
    intro cd
    rcases bl.h with ⟨rfl, rfl⟩ | ⟨k, rfl⟩
    · simp
    · exact run_bound rfl (by omega) w
  unfold Instr.slice Instr.sliceBounds
  simp only [Sem.run_bind, run_und td, Result.andThen, Sem.run_pure]
  have e1' := e1 .sliceAcap
  have e2' := e2 .sliceB
  simp only [Option.isSome_none, Bool.false_eq_true, if_false, if_true] at *
  rcases bh.h with ⟨rfl, rfl⟩ | ⟨kh, rfl⟩ <;> rcases bl.h with ⟨rfl, rfl⟩ | ⟨kl, rfl⟩ <;>
    simp_all [Sem.run_bind, Result.andThen, run_size ti, slSub] <;> (try split) <;> (try simp_all) <;> (try omega)
end sl
end Go.SL
