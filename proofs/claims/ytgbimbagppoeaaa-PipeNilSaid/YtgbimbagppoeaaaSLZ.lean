import Derived.Test.YtgbimbagppoeaaaSLW
namespace Go.SL
open Go
set_option linter.all false
/-- the same, at any way out -/
theorem ht_cute {P : Program} {ρ : Option Nat} {N : Nat} {D : List Deferred} {E E' : List (Nat × Value)} {L : List HP} {c : Code} {Q : Exit → Act → World → Prop} {ι : Type} (x : Exit) (F : ι → Prop) (L' : ι → List HP)
    (h1 : ∀ Q', (∀ i, F i → Ht (L' i) (CX N D E' x Q')) → Ht L (CC P ρ N D E c Q')) (h2 : ∀ i, F i → Ht (L' i) (CX N D E' x Q)) : Ht L (CC P ρ N D E c Q) := h1 _ h2
end Go.SL
namespace Go.SL
theorem take_minl {α : Type} (l : List α) (n : Nat) : l.take n = l.take (min l.length n) := by
  rcases Nat.le_total l.length n with h | h
  · rw [Nat.min_eq_left h, List.take_length, List.take_of_length_le h]
  · rw [Nat.min_eq_right h]
end Go.SL
namespace Go.SL
open Go
class SzLe (a b : ByteArray) : Prop where
  h : a.size + b.size ≤ 9223372036854775807
instance rd_sadd {P : Program} {L : List HP} {E : List (Nat × Value)} {T yT : Nat} {x y : Operand} {a b : ByteArray} [ex : Ev E x (.string a)] [ey : Ev E y (.string b)] [sz : SzLe a b] : Rd P L E (.binOp .add T x y yT) (.string (a ++ b)) := ⟨fun N D A w r _ d ty pos af g => by
  have h : ¬ (((a.size + b.size : Nat) : Int) > IntKind.i64.max) := by
    have := sz.h
    show ¬ (((a.size + b.size : Nat) : Int) > 9223372036854775807)
    omega
  simp only [execOp, ex.h N D A r, ey.h N D A r, eqGuard, binOp, Op.stringOp, Sem.run_bind, if_neg h]
  simp [Result.andThen]⟩
end Go.SL
namespace Go.SL
open Go
/-! long regions: their operations stand in two lists -/
section
variable {P : Program} {ρ : Option Nat} {N : Nat} {D : List Deferred} {E : List (Nat × Value)} {L : List HP} {Q : Exit → Act → World → Prop} {ops : Array Oper}
instance {x : Oper} {l m : List Oper} : Step (Ht L (CO P ρ N D E ops (List.append (x :: l) m) Q)) (Ht L (CO P ρ N D E ops (x :: List.append l m) Q)) := ⟨fun h => h⟩
instance {m : List Oper} : Step (Ht L (CO P ρ N D E ops (List.append [] m) Q)) (Ht L (CO P ρ N D E ops m Q)) := ⟨fun h => h⟩
instance {t op ty pos af g l m} : DstN (List.append (⟨some t, op, ty, pos, af, g⟩ :: l) m) 0 t := ⟨rfl⟩
instance {o l m j t} [i : DstN (List.append l m) j t] : DstN (List.append (o :: l) m) (j + 1) t := ⟨i.h⟩
instance {m j t} [i : DstN m j t] : DstN (List.append [] m) j t := ⟨i.h⟩
instance {o l m} : NthO (List.append (o :: l) m) 0 o := ⟨rfl⟩
instance {o u l m n} [i : NthO (List.append l m) n o] : NthO (List.append (u :: l) m) (n + 1) o := ⟨i.h⟩
instance {m n o} [i : NthO m n o] : NthO (List.append [] m) n o := ⟨i.h⟩
end
end Go.SL
namespace Go.SL
open Go
/-- a value, made a slice (what came in as a slice is itself) -/
def slV (v : Value) : Value := match v with | .slice a n c => .slice a n c | _ => .slice none 0 0
theorem slV_one (v : Value) : (slV v).oneCell = true := by unfold slV; split <;> rfl
theorem slV_oneI (v : Value) : One1 (slV v) := ⟨slV_one v⟩
theorem slV_of {a n c} : slV (.slice a n c) = .slice a n c := rfl
theorem slV_in {w : World} {v : Value} {α : Type} {e : Enc α} {xs : List α} (h : SlIn w v e xs) : slV v = v := by
  rcases h with ⟨rfl, _⟩ | ⟨a, c, rfl, _⟩ <;> rfl
end Go.SL
namespace Go.SL
open Go
/-- a tail that many ways share, the temporaries hanging on the way -/
theorem ht_cutd {P : Program} {ρ : Option Nat} {N : Nat} {D : List Deferred} {E : List (Nat × Value)} {L : List HP} {c : Code} {Q : Exit → Act → World → Prop} {ι : Type} (x : Exit) (F : ι → Prop) (L' : ι → List HP) (E' : ι → List (Nat × Value))
    (h1 : ∀ Q', (∀ i, F i → Ht (L' i) (CX N D (E' i) x Q')) → Ht L (CC P ρ N D E c Q')) (h2 : ∀ i, F i → Ht (L' i) (CX N D (E' i) x Q)) : Ht L (CC P ρ N D E c Q) := h1 _ h2
theorem modw (p : Int) {n : Nat} (h0 : 0 < n) (h1 : n ≤ 1000000) : ∃ j : Nat, IntKind.i64.wrap (Int.tmod (IntKind.u64.wrap p) (n : Int)) = (j : Int) ∧ j < n := by
  have e : Int.tmod (((UInt64.ofInt p).toNat : Nat) : Int) (n : Int) = (((UInt64.ofInt p).toNat % n : Nat) : Int) := by
    rw [Int.tmod_eq_emod_of_nonneg (by omega)]; simp
  rw [u64_wrap_ofInt, e]
  have := Nat.mod_lt (UInt64.ofInt p).toNat h0
  exact ⟨_, IntWalk.i64_in _ (by omega), this⟩
theorem u64n {n : Nat} (h1 : n ≤ 1000000) : IntKind.u64.wrap (n : Int) = (n : Int) := by
  rw [u64_wrap_ofInt]; simp [UInt64.ofInt]; omega
theorem srt_len {ν : Type} : ∀ {xs : List (Int × ν)} {lo hi : Nat}, Srt xs → (∀ r ∈ xs, (lo : Int) ≤ r.1 ∧ r.1 < hi) → xs.length ≤ hi - lo
  | [], _, _, _, _ => by simp
  | x :: xs, lo, hi, s, h => by
    have h0 := h x (by simp)
    have := srt_len (lo := lo + 1) (hi := hi) (List.Pairwise.of_cons s) (fun r hr => by
      have h1 := List.rel_of_pairwise_cons s hr
      have h2 : x.1 < r.1 := by simpa [KLt.lt] using h1
      have := h r (by simp [hr])
      omega)
    simp only [List.length_cons]
    omega
end Go.SL
