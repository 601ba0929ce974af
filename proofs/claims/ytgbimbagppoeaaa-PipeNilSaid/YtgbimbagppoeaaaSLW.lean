import Derived.Test.YtgbimbagppoeaaaSLV
import Derived.IntWalk
namespace Go.SL
open Go
set_option linter.all false

/-! ### Comparing -/
section
variable {κ : Type} [KLt κ]
def cmpV (a b : κ) : Int := if KLt.lt a b = true then -1 else if KLt.lt b a = true then 1 else 0
theorem cmpV_neg {a b : κ} : cmpV a b < 0 ↔ KLt.lt a b = true := by
  unfold cmpV; split
  · simp_all
  · split <;> simp_all
theorem cmpV_nneg {a b : κ} (h : ¬ cmpV a b < 0) : KLt.lt a b = false := by
  cases hh : KLt.lt a b with
  | false => rfl
  | true => exact absurd (cmpV_neg.2 hh) h
theorem cmpV_self (a : κ) : cmpV a a = 0 := by simp [cmpV, KLt.irr]
theorem cmpV_zero {a b : κ} (h : cmpV a b = 0) : a = b := by
  unfold cmpV at h
  split at h
  · omega
  · split at h
    · omega
    · exact KLt.tri _ _ (by simp_all) (by simp_all)
end

theorem midw (i j : Nat) (h : i + j ≤ 1000000000000) : IntKind.i64.wrap ((shr64 (UInt64.ofInt (IntKind.i64.wrap ((i : Int) + (j : Int)))) 1).toNat : Int) = (((i + j) / 2 : Nat) : Int) := by
  have e : (UInt64.ofInt (((i + j : Nat)) : Int)).toNat = i + j := by
    simp [UInt64.ofInt]; omega
  rw [IntWalk.i64_in ((i : Int) + j) (by omega), show (i : Int) + (j : Int) = ((i + j : Nat) : Int) from by omega, shr64_toNat, e]
  show IntKind.i64.wrap (((i + j) / 2 ^ 1 : Nat) : Int) = _
  rw [IntWalk.i64_in _ (by omega), Nat.pow_one]

theorem ups_self {α : Type} : ∀ {l : List α} {o : Nat} {v : α}, l[o]? = some v → Ups l o [v] l := fun {l o v} h => ⟨by
  obtain ⟨hlt, hv⟩ := List.getElem?_eq_some_iff.1 h
  refine ⟨by simp; omega, ?_⟩
  subst hv
  simp⟩

/-- a tail that many ways share -/
theorem ht_cutx {P : Program} {ρ : Option Nat} {N : Nat} {D : List Deferred} {E E' : List (Nat × Value)} {L : List HP} {c : Code} {Q : Exit → Act → World → Prop} {ι : Type} (F : ι → Prop) (L' : ι → List HP)
    (h1 : ∀ Q', (∀ i, F i → Ht (L' i) (CX N D E' .normal Q')) → Ht L (CC P ρ N D E c Q')) (h2 : ∀ i, F i → Ht (L' i) (CX N D E' .normal Q)) : Ht L (CC P ρ N D E c Q) := h1 _ h2
instance : One1 Value.nilIface := ⟨rfl⟩

theorem Ht.two {α : Type} {A : HP} {B : α → HP} {x : α} {L1 R : List HP} {G : World → Prop} (q : Pull B L1 x R) (h : Ht (B x :: A :: R) G) : Ht (A :: L1) G := fun w s =>
  h w (seps_swap (seps_mono (fun _ a => a) (fun _ t => q.h _ _ t) s))
theorem Ht.own_cap {α : Type} {e : Enc α} {T : TypeId} {v : Value} {xs : List α} {L R : List HP} {G : World → Prop} [p : Pull (own e T v) L xs R] (hne : xs ≠ [])
    (h : ∀ b o cap, v = .slice (some ⟨b, o, none⟩) xs.length cap → xs.length ≤ cap → cap ≤ 9223372036854775807 → Ht (own e T v xs :: R) G) : Ht L G := fun w s => by
  have s' := p.sat s
  obtain ⟨h1, hle, ho⟩ := seps_head s'
  rcases ho with ⟨_, hx⟩ | ⟨b, pre, post, cap, fz, hv, a1, a2, _⟩
  · exact absurd hx hne
  · exact h b _ cap hv a1 a2 w s'

theorem flat_take {α : Type} (e : Enc α) (pre post : List Value) {xs : List α} {m : Nat} (h : m ≤ xs.length) : (pre ++ xs.flatMap e.f ++ post).take (pre.length + m * e.k) = pre ++ (xs.take m).flatMap e.f := by
  have h0 : xs.flatMap e.f = (xs.take m).flatMap e.f ++ (xs.drop m).flatMap e.f := by rw [← List.flatMap_append, List.take_append_drop]
  rw [h0, List.append_assoc, List.append_assoc, ← List.append_assoc, List.take_left' (by rw [List.length_append, flat_len]; simp; rw [Nat.min_eq_left h])]
theorem flat_drop {α : Type} (e : Enc α) (pre post : List Value) {xs : List α} {m : Nat} (h : m ≤ xs.length) : (pre ++ xs.flatMap e.f ++ post).drop (pre.length + m * e.k) = (xs.drop m).flatMap e.f ++ post := by
  have h0 : xs.flatMap e.f = (xs.take m).flatMap e.f ++ (xs.drop m).flatMap e.f := by rw [← List.flatMap_append, List.take_append_drop]
  rw [h0, List.append_assoc, List.append_assoc, ← List.append_assoc, List.drop_left' (by rw [List.length_append, flat_len]; simp; rw [Nat.min_eq_left h])]
theorem flat_drop_all {α : Type} (e : Enc α) (pre post : List Value) {xs : List α} {m j : Nat} (h : m = xs.length) : (pre ++ xs.flatMap e.f ++ post).drop (pre.length + m * e.k + j) = post.drop j := by
  subst h
  rw [← List.drop_drop, List.drop_left' (by rw [List.length_append, flat_len])]

theorem ins_cells {α : Type} (e : Enc α) {k : Nat} (hk : e.k = k) (pre post : List Value) (xs : List α) (x : α) {i : Nat} (hi : i ≤ xs.length) (hp : k ≤ post.length) :
    ((pre ++ xs.flatMap e.f ++ post).take (pre.length + (i + 1) * k) ++ (xs.drop i).flatMap e.f ++ (pre ++ xs.flatMap e.f ++ post).drop (pre.length + (i + 1) * k + (xs.drop i).length * k)).take (pre.length + i * k) ++ [x].flatMap e.f ++
      ((pre ++ xs.flatMap e.f ++ post).take (pre.length + (i + 1) * k) ++ (xs.drop i).flatMap e.f ++ (pre ++ xs.flatMap e.f ++ post).drop (pre.length + (i + 1) * k + (xs.drop i).length * k)).drop (pre.length + i * k + [x].length * k)
      = pre ++ (xs.take i ++ x :: xs.drop i).flatMap e.f ++ post.drop k := by
  subst hk
  have hik : i * e.k ≤ xs.length * e.k := Nat.mul_le_mul_right _ hi
  have hla : ((pre ++ xs.flatMap e.f ++ post).take (pre.length + (i + 1) * e.k)).length = pre.length + (i + 1) * e.k := by
    simp only [List.length_take, List.length_append, flat_len, Nat.add_mul, Nat.one_mul]; omega
  have h1 : (pre ++ xs.flatMap e.f ++ post).drop (pre.length + (i + 1) * e.k + (xs.drop i).length * e.k) = post.drop e.k := by
    have : pre.length + (i + 1) * e.k + (xs.drop i).length * e.k = pre.length + xs.length * e.k + e.k := by
      rw [List.length_drop, Nat.sub_mul, Nat.add_mul, Nat.one_mul]; omega
    rw [this, flat_drop_all e pre post rfl]
  have h2 : pre.length + i * e.k + [x].length * e.k = pre.length + (i + 1) * e.k := by simp [Nat.add_mul]; omega
  rw [h1, h2]
  conv => lhs; arg 1; arg 1; rw [List.append_assoc, List.take_append_of_le_length (by rw [hla, Nat.add_mul]; omega), List.take_take, Nat.min_eq_left (by rw [Nat.add_mul]; omega), flat_take e pre post hi]
  conv => lhs; arg 2; rw [List.append_assoc, List.drop_left' hla]
  simp [List.flatMap_append, List.flatMap_cons]
theorem del_cells {α : Type} (e : Enc α) {k : Nat} (hk : e.k = k) (pre post : List Value) (xs : List α) (zl : List Value) {i : Nat} (hi : i < xs.length) (hz : zl.length = k) :
    ((pre ++ xs.flatMap e.f ++ post).take (pre.length + i * k) ++ (xs.drop (i + 1)).flatMap e.f ++ (pre ++ xs.flatMap e.f ++ post).drop (pre.length + i * k + (xs.drop (i + 1)).length * k)).take (pre.length + (xs.length - 1) * k) ++ zl ++
      ((pre ++ xs.flatMap e.f ++ post).take (pre.length + i * k) ++ (xs.drop (i + 1)).flatMap e.f ++ (pre ++ xs.flatMap e.f ++ post).drop (pre.length + i * k + (xs.drop (i + 1)).length * k)).drop (pre.length + (xs.length - 1) * k + k)
      = pre ++ (xs.take i ++ xs.drop (i + 1)).flatMap e.f ++ (zl ++ post) := by
  subst hk
  obtain ⟨n, hn⟩ : ∃ n, xs.length = n + 1 := ⟨xs.length - 1, by omega⟩
  have h0 : (i + (xs.drop (i + 1)).length) * e.k = (xs.length - 1) * e.k := by simp; rw [show i + (xs.length - (i + 1)) = xs.length - 1 from by omega]
  rw [Nat.add_mul] at h0
  have h1 : (pre ++ xs.flatMap e.f ++ post).drop (pre.length + i * e.k + (xs.drop (i + 1)).length * e.k) = (xs.drop (xs.length - 1)).flatMap e.f ++ post := by
    rw [Nat.add_assoc, h0, flat_drop e pre post (by omega)]
  rw [h1, flat_take e pre post (by omega)]
  have hl : (pre ++ (xs.take i).flatMap e.f ++ (xs.drop (i + 1)).flatMap e.f).length = pre.length + (xs.length - 1) * e.k := by
    simp only [List.length_append, flat_len]
    rw [← h0]; simp [Nat.min_eq_left (show i ≤ xs.length by omega)]; omega
  rw [List.take_left' hl, ← List.drop_drop (i := e.k) (j := pre.length + (xs.length - 1) * e.k), List.drop_left' hl, List.drop_left' (by rw [flat_len]; simp; rw [show xs.length - (xs.length - 1) = 1 from by omega, Nat.one_mul])]
  simp [List.flatMap_append]

section control
variable {P : Program} {ρ : Option Nat} {N : Nat} {E : List (Nat × Value)} {L : List HP}
/-- a result in a cell, and a plain one -/
theorem retct {fn : Func} {K : Value → World → Prop} {t u T : Nat} {a : Addr} {v x : Value} (hr : fn.results = #[.cell t T, .tmp u]) [l : Look E t (.pointer (some a))] [m : Look E u x] [vr : Var P L T a v] (h : Ht L (K (.tuple #[v, x]))) : Ht L (CX N [] E .ret (FnPost P fn K)) :=
  fnpost_sat (fun N ac w r s => by
    have := r.vals t _ l.h
    have := r.vals u _ m.h
    simp only [results, hr]
    simp [*, asAddr, Sem.run_bind, Result.andThen, vr.h w s]) h
end control
section sl
variable {P : Program} {ρ : Option Nat} {N : Nat} {D : List Deferred} {E : List (Nat × Value)} {L L' R : List HP} {Q : Exit → Act → World → Prop} {ops : Array Oper} {rest : List Oper}
  {d : Nat} {op : Op} {ty : TypeId} {pos : String} {af : Array Edge}
/-- 'copy(s[lo:hi], y)', of which ys comes over, into a slice of one's own -/
theorem co_copy_own {α : Type} (e : Enc α) (ys : List α) {t tx el : TypeId} {k b0 : Nat} {z : Value} {x u : Operand} {v uv : Value} {sn sc lo hi : Nat} {sa : Option Addr} {xs : List α}
    [td : TyD P t (.slice el)] [ti : TyI P el k b0 z] [ex : Ev E x (slSub v k lo hi)] [eu : Ev E u uv] [p : Pull (own e el v) L xs R] [hk : EqNat e.k k] (huv : uv = .slice sa sn sc) (hlh : lo < hi ∧ hi ≤ xs.length)
    (hs : ∀ w, Sat L w → ∃ c' ys', SlIn w (.slice sa (ys ++ ys').length c') e (ys ++ ys')) (hl : ys.length = min sn (hi - lo))
    (h : Ht (own e el v (xs.take lo ++ ys ++ xs.drop (lo + ys.length)) :: R) (CO P ρ N D ((d, .int .i64 (min sn (hi - lo) : Nat)) :: E) ops rest Q)) :
    Ht L (CO P ρ N D E ops (⟨some d, .call ⟨.builtin .copy, #[x, u], #[t, tx]⟩, ty, pos, af, none⟩ :: rest) Q) :=
  co_gen fun a w r s => by
    have hke := hk.h
    subst hke; subst huv
    obtain ⟨c', ys', hin⟩ := hs w s
    have hc := run_first (P := P) hin (m := min sn (hi - lo)) (by rw [← hl]; simp)
    rw [← hl, List.take_left] at hc
    obtain ⟨g1, g2, uu, ho, l⟩ := p.sat s
    rcases ho with ⟨_, rfl⟩ | ⟨b, pre, post, cap, fz, rfl, a1, a2, a3, a4, a5⟩
    · simp at hlh; omega
    · have hb : lo + ys.length ≤ xs.length := by omega
      have hfl := flat_len e xs
      have hmul : (lo + ys.length) * e.k ≤ xs.length * e.k := Nat.mul_le_mul_right _ hb
      rw [Nat.add_mul] at hmul
      obtain ⟨s1, s2⟩ := store_raw (P := P) (R := R) (o := pre.length + lo * e.k) (vs := ys.flatMap e.f) ⟨g1, g2, uu, a4, l⟩ flat_one (by rw [flat_len]; simp only [List.length_append, hfl]; omega) (by simpa [hfl, Nat.add_assoc] using a5)
      have hlen : (xs.take lo ++ ys ++ xs.drop (lo + ys.length)).length = xs.length := by simp; omega
      refine ⟨_, _, ?_, _, seps_mono (fun g hb => .inr ⟨b, pre, post, cap, fz, by rw [hlen], by rw [hlen]; exact a1, a2, by rw [hlen]; exact a3, ?_, by rw [hlen]; exact a5⟩) (fun _ l => l) s2, h⟩
      · have hc' : (Builtin.firstCells e.k (min sn (hi - lo)) (.slice sa sn sc)).run P w = .ok (ys.flatMap e.f).toArray w := by
          rw [← hl, ← hc]; cases sa <;> rfl
        simp only [execOp, resolve, invoke, builtin, Sem.run_bind, Sem.run_pure, Result.andThen, List.map_toArray, List.map_cons, List.map_nil, ex.h N D a r, eu.h N D a r]
        rw [slSub_lit (by omega)]
        simp [Builtin.copy_, Builtin.lenOf, run_und td.h, run_size ti, Result.andThen, goInt, hc', s1]
      · rw [show g b = some _ from hb, flat_len, flat_take e pre post (by omega), show pre.length + lo * e.k + ys.length * e.k = pre.length + (lo + ys.length) * e.k from by rw [Nat.add_mul]; omega, flat_drop e pre post (by omega)]
        simp [List.flatMap_append]

theorem cd_guardq {l : List Oper} {π : List CanIt} {W : List SW} {i j t : Nat} {b c : Bool} {o : Oper} [n : OGrd l i o j b] [g : Grd l E j t c]
    (h1 : c = true → Ht L (CD P ρ N D ((t, .bool true) :: E) l (.q i :: π) W Q))
    (h2 : c = false → Ht L (CD P ρ N D ((t, .bool false) :: E) l (.q i :: π) W Q)) : Ht L (CD P ρ N D E l (.q i :: π) W Q) := cd_guard (i := i) (it := .q i) rfl h1 h2
theorem cd_guardx {l : List Oper} {π : List CanIt} {W : List SW} {keep : List Nat} {i j t : Nat} {b c : Bool} {o : Oper} [n : OGrd l i o j b] [g : Grd l E j t c]
    (h1 : c = true → Ht L (CD P ρ N D ((t, .bool true) :: E) l (.x i keep :: π) W Q))
    (h2 : c = false → Ht L (CD P ρ N D ((t, .bool false) :: E) l (.x i keep :: π) W Q)) : Ht L (CD P ρ N D E l (.x i keep :: π) W Q) := cd_guard (i := i) (it := .x i keep) rfl h1 h2
/-- 's[lo:hi:m]', whatever lies there. -/
theorem co_slice3_raw {T el : TypeId} {x lo hi mx : Operand} {a : Option Addr} {n c : Nat} {k0 k1 k2 : IntKind} {l h m : Int} {k b : Nat} {z : Value} [td : TyD P T (.slice el)] [ti : TyI P el k b z] [ex : Ev E x (.slice a n c)]
    [evl : Ev E lo (.int k0 l)] [evh : Ev E hi (.int k1 h)] [evm : Ev E mx (.int k2 m)] (hb : 0 ≤ l ∧ l ≤ h ∧ h ≤ m ∧ m ≤ c) (hh : ∀ v', Ht L (CO P ρ N D ((d, v') :: E) ops rest Q)) :
    Ht L (CO P ρ N D E ops (⟨some d, .slice T x (some lo) (some hi) (some mx), ty, pos, af, none⟩ :: rest) Q) :=
  co_gen (fun ac w r s => by
    have e1 : ∀ cd, (Instr.sliceBound (.int k2 m) c cd).run P w = .ok m.toNat w := fun cd => run_bound rfl (by omega) w
    have e2 : ∀ cd, (Instr.sliceBound (.int k1 h) m.toNat cd).run P w = .ok h.toNat w := fun cd => run_bound rfl (by omega) w
    have e3 : ∀ cd, (Instr.sliceBound (.int k0 l) h.toNat cd).run P w = .ok l.toNat w := fun cd => run_bound rfl (by omega) w
    have hr : ∃ v', (Instr.slice T (.slice a n c) (some (.int k0 l)) (some (.int k1 h)) (some (.int k2 m))).run P w = .ok v' w := by
      unfold Instr.slice Instr.sliceBounds
      simp only [Sem.run_bind, run_und td.h, Result.andThen, Sem.run_pure]
      simp [Sem.run_bind, Result.andThen, run_size ti, e1, e2, e3]
    obtain ⟨v', hr⟩ := hr
    refine ⟨v', w, by simp only [execOp, Instr.sliceAt, Sem.run_bind, run_und td.h, Result.andThen, ex.h N D ac r, evl.h N D ac r, evh.h N D ac r, evm.h N D ac r, Option.map_some, hr, Sem.run_pure], _, s, hh v'⟩)
end sl
end Go.SL
