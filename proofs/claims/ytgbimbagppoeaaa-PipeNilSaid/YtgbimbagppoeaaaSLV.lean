import Derived.Test.YtgbimbagppoeaaaSLU
import Derived.Test.YtgbimbagppoeaaaTBA
import Derived.Lib.AppendZerosOnto
import Derived.Sort.Walk0
namespace Go.SL
open Go
set_option linter.all false

theorem bless (a b : ByteArray) : Op.bytesLess a.toList b.toList = decide (a.toList < b.toList) := Go.Proofs.bytesLess_eq _ _
theorem toList_inj {a b : ByteArray} (h : a.toList = b.toList) : a = b := ByteArray.ext (by rw [ByteArray.toList_eq, ByteArray.toList_eq] at h; exact Array.toList_inj.mp h)
instance : KLt ByteArray where
  dec := inferInstance
  lt a b := Op.bytesLess a.toList b.toList
  irr a := by rw [bless]; simp
  tr a b c h1 h2 := by rw [bless, decide_eq_true_eq] at *; exact List.lt_trans h1 h2
  tri a b h1 h2 := by
    rw [bless, decide_eq_false_iff_not] at *
    exact toList_inj (List.le_antisymm (List.not_lt.1 h2) (List.not_lt.1 h1))
theorem bgtr (a b : ByteArray) : (!(Op.bytesLess a.toList b.toList || a.toList == b.toList)) = Op.bytesLess b.toList a.toList := by
  by_cases h : a = b
  · subst h; simp [KLt.irr (κ := ByteArray) a, show Op.bytesLess a.toList a.toList = false from KLt.irr (κ := ByteArray) a]
  · have hne : (a.toList == b.toList) = false := by
      cases hh : (a.toList == b.toList) with
      | false => rfl
      | true => exact absurd (toList_inj (by simpa using hh)) h
    rw [hne, Bool.or_false]
    cases h1 : Op.bytesLess a.toList b.toList with
    | true =>
      cases h2 : Op.bytesLess b.toList a.toList with
      | false => rfl
      | true => have := KLt.tr (κ := ByteArray) a b a h1 h2; rw [KLt.irr] at this; cases this
    | false =>
      cases h2 : Op.bytesLess b.toList a.toList with
      | true => rfl
      | false => exact absurd (KLt.tri (κ := ByteArray) a b h1 h2) h

section rd
variable {P : Program} {L : List HP} {E : List (Nat × Value)}
instance {T yT x y a b} [ex : Ev E x (.string a)] [ey : Ev E y (.string b)] : Rd P L E (.binOp .gtr T x y yT) (.bool (Op.bytesLess b.toList a.toList)) := ⟨fun N D A w r _ d ty pos af g => by
  rw [← bgtr]
  simp [execOp, ex.h N D A r, ey.h N D A r, eqGuard, binOp, Op.stringOp, Sem.run_bind]⟩
instance {T yT x y a b} [ex : Ev E x (.string a)] [ey : Ev E y (.string b)] : Rd P L E (.binOp .geq T x y yT) (.bool (!(Op.bytesLess a.toList b.toList))) := ⟨fun N D A w r _ d ty pos af g => by
  simp [execOp, ex.h N D A r, ey.h N D A r, eqGuard, binOp, Op.stringOp, Sem.run_bind]⟩
instance rd_cap {T el : TypeId} {x : Operand} {a : Option Addr} {n c : Nat} [td : TyD P T (.slice el)] [ex : Ev E x (.slice a n c)] :
    Rd P L E (.call ⟨.builtin .cap, #[x], #[T]⟩) (.int .i64 c) := ⟨fun N D A w r s d ty pos af g => by
  simp [execOp, resolve, invoke, builtin, ex.h N D A r, Sem.run_bind, Result.andThen, Builtin.cap_, run_und td.h, goInt]⟩
/-- a cut that is in bounds of the room -/
instance rd_slice_raw {T el : TypeId} {x : Operand} {lo hi : Option Operand} {a : Option Addr} {n c : Nat} {lv hv : Option Value} {l h : Int} {m n' : Nat} {k b : Nat} {z : Value}
    [td : TyD P T (.slice el)] [ti : TyI P el k b z] [ex : Ev E x (.slice a n c)] [evl : EvO E lo lv] [evh : EvO E hi hv] [bl : Bnd lv 0 l] [bh : Bnd hv n h] [tm : ToNat l m] [tn : ToNat h n'] [hb : SlB l h c] :
    Rd P L E (.slice T x lo hi none) (slSub (.slice a n c) k m n') := ⟨fun N D ac w r s d ty pos af g => by
  have e1 := tm.h
  have e2 := tn.h
  subst e1; subst e2
  have := run_slice2 (P := P) td.h ti (a := a) (n := n) (c := c) (lo := lv) (hi := hv) (l := l) (h := h) hb.h w
  simp only [execOp, Instr.sliceAt, Sem.run_bind, run_und td.h, Result.andThen, ex.h N D ac r, evl.h N D ac r, evh.h N D ac r, Option.map_none, this, Sem.run_pure]⟩
end rd
section sl
variable {P : Program} {ρ : Option Nat} {N : Nat} {D : List Deferred} {E : List (Nat × Value)} {L L' R : List HP} {Q : Exit → Act → World → Prop} {ops : Array Oper} {rest : List Oper}
  {d : Nat} {op : Op} {ty : TypeId} {pos : String} {af : Array Edge}
theorem cd_slice_raw {l : List Oper} {π : List CanIt} {W : List SW} {j : Nat} {g : Option (Nat × Bool)} [gk : GOk l E g] {T el : TypeId} {x : Operand} {lo hi : Option Operand} {a : Option Addr} {n0 c : Nat} {lv hv : Option Value} {lw h : Int} {m n' : Nat} {k b : Nat} {z : Value} [n : NthO l j ⟨some d, .slice T x lo hi none, ty, pos, af, g⟩]
    [td : TyD P T (.slice el)] [ti : TyI P el k b z] [ex : Ev E x (.slice a n0 c)] [evl : EvO E lo lv] [evh : EvO E hi hv] [bl : Bnd lv 0 lw] [bh : Bnd hv n0 h] [tm : ToNat lw m] [tn : ToNat h n'] (hb : 0 ≤ lw ∧ lw ≤ h ∧ h ≤ c)
    (hh : SlB lw h c → Ht L (CD P ρ N D ((d, slSub (.slice a n0 c) k m n') :: E) l π ((j, E, .slice T x lo hi none, slSub (.slice a n0 c) k m n') :: W) Q)) : Ht L (CD P ρ N D E l (.q j :: π) W Q) := by
  haveI : SlB lw h c := ⟨hb⟩
  exact cd_q n (fun N D a r => gk.h N D a r _ rfl) rd_slice_raw (hh this)

theorem zeros_flat {α : Type} {e : Enc α} {z' : α} {z : Value} (hz : z.cells.toList = e.f z') (m : Nat) : (Builtin.zeroCells z.cells m).toList = (List.replicate m z').flatMap e.f := by
  have := rep_cells (e.f z') m
  rw [← hz] at this
  simp only [Builtin.zeroCells, Array.toList_map, Array.toList_range]
  have e1 : z.cells.size = z.cells.toList.length := by simp
  rw [e1]
  have e2 : (fun i => z.cells[i % z.cells.toList.length]!) = (fun x => z.cells.toList[x % z.cells.toList.length]!) := by
    funext i; simp [getElem!_def]
  rw [e2, this, hz]
  induction m with
  | zero => rfl
  | succ m ih =>
    have := rep_cells (e.f z') m
    simp [List.replicate_succ, List.flatMap_cons] 
    simp [List.flatMap_replicate] 

/-- 'append(s[:i], make(S, m)...)' that must move -/
theorem co_append_zeros_far {α : Type} {e : Enc α} (z' : α) {t tn el : TypeId} {kn kq : IntKind} {k b : Nat} {z : Value} {x u : Operand} {xv : Value} {a : Option Addr} {n c m : Nat} {iv : Int} {xs : List α} [td : TyD P t (.slice el)] [tx' : TyD P tn (.int kn)] [ti : TyI P el k b z]
    [ex : Ev E x xv] [eu : Ev E u (.int kq iv)] (hxv : xv = .slice a n c) (hiv : iv = (m : Int)) [hk : EqNat e.k k] (hs : ∀ w, Sat L w → SlIn w (.slice a n c) e xs) (h0 : 0 < m) (hk0 : 0 < k) (hc : c < xs.length + m) (hz : z.cells.toList = e.f z')
    (hb : (xs.length + m) * b ≤ 140737488355328) (h63 : xs.length + m ≤ 9223372036854775807)
    (h : ∀ v', Ht (own e el v' (xs ++ List.replicate m z') :: L) (CO P ρ N D ((d, v') :: E) ops rest Q)) :
    Ht L (CO P ρ N D E ops (⟨some d, .call ⟨.builtin .append, #[x, u], #[t, tn]⟩, ty, pos, af, none⟩ :: rest) Q) :=
  co_gen fun ac w r s => by
    have hke := hk.h
    subst hxv; subst hiv
    obtain ⟨i, hi, hi1, hi2, hi3⟩ := ti.get
    have hv := hs w s
    obtain ⟨_, _, he, _, _⟩ := sliceIn_of hv
    injection he with _ hn _
    subst hn
    have hold : (Builtin.firstCells i.size xs.length (.slice a xs.length c)).run P w.drew = .ok (xs.flatMap e.f).toArray w.drew := by
      have := (src_of (P := P) td.h hv).cellsD
      rw [hi1, ← hke]; exact this
    have hfit := growslice_fits (old := c) hc (bytes := i.bytes) (by rw [hi2]; exact hb)
    have hmb : m * i.bytes ≤ 281474976710656 := by
      have : m * i.bytes ≤ (xs.length + m) * i.bytes := Nat.mul_le_mul_right _ (by omega)
      rw [hi2] at this ⊢; omega
    have hrun := Lib.run_append_grow_zeros (P := P) (ty := ty) w t tn el i z kq kn td.h tx'.h hi hi3 a xs.length c (xs.flatMap e.f) hold m h0 (by rw [hi1]; exact hk0) hc (by omega) hmb hfit
    have hgc := grownCap_ge w (xs.length + m) c el
    have hgm := grownCap_le_maxLen w (xs.length + m) c el (by simp [maxLen]; omega)
    simp [maxLen] at hgm
    have hlen : (xs ++ List.replicate m z').length = xs.length + m := by simp
    rw [← hlen] at hrun
    suffices hh : ∃ v' w', (Builtin.append_ #[t, tn] ty #[.slice a xs.length c, .int kq (m : Int)]).run P w = .ok v' w' ∧ Sat (own e el v' (xs ++ List.replicate m z') :: L) w' by
      obtain ⟨v', w', hr', hs'⟩ := hh
      exact ⟨v', w', by simp [execOp, resolve, invoke, builtin, ex.h N D ac r, eu.h N D ac r, Sem.run_bind, Result.andThen, hr'], _, hs', h v'⟩
    refine ⟨_, _, hrun, ?_⟩
    refine own_new (post := (Builtin.zeroCells z.cells (grownCap w (xs.length + m) c el - (xs.length + m))).toList) s rfl ?_ ?_ (by rw [hlen]; exact hgc) (by rw [hlen]; exact hgm) ?_ ?_ (fz := (0, 0))
    · rw [hlen]
      show (w.heap.push _)[w.heap.size]? = _
      simp only [Array.getElem?_push_size, Option.some.injEq]
      congr 1
      apply Array.ext'
      simp only [Array.toList_append, List.toList_toArray, List.flatMap_append, zeros_flat hz m, List.append_assoc]
    · intro x hx
      show (w.heap.push _)[x]? = _
      rw [Array.getElem?_push, if_neg (by omega)]
    · have hsz : z.cells.size = e.k := by have := congrArg List.length hz; rw [e.hk] at this; simpa using this
      have hzl : (Builtin.zeroCells z.cells (grownCap w (xs.length + m) c el - (xs.length + m))).toList.length = (grownCap w (xs.length + m) c el - (xs.length + m)) * e.k := by
        rw [Array.length_toList, size_zeroCells, hsz]
      rw [hlen, hzl, Nat.sub_mul]
      have : (xs.length + m) * e.k ≤ grownCap w (xs.length + m) c el * e.k := Nat.mul_le_mul_right _ hgc
      omega
    · intro j _ h; simp at h

theorem seps_two {A B : HP} {L : List HP} {w : World} (s : Sat (A :: B :: L) w) : ∃ h1 h2, (∀ b o, h1 b = some o → w.heap[b]? = some o) ∧ (∀ b o, h2 b = some o → w.heap[b]? = some o) ∧ (∀ b, h1 b = none ∨ h2 b = none) ∧ A (envOf w) h1 ∧ B (envOf w) h2 := by
  obtain ⟨h1, h2, u, a, g1, g2, v, b, l⟩ := s
  refine ⟨h1, g1, fun b o hb => ?_, fun b o hb => ?_, fun b => ?_, a, b⟩
  · have := u b; simp_all
  · have := u b; have := v b; simp_all
  · have := u b; have := v b; grind

/-- 'slices.overlaps' of a new literal row and a block of one's own: they are two. -/
theorem run_overlaps {f : FuncId} {fn : Func} {tS tR el : TypeId} {k b0 : Nat} {z : Value} (hf : P.funcs[f]? = some fn) (hname : (fn.name == "runtime.NumGoroutine") = false) (hb : fn.body.isNone = true) (hn : Extern.findNext fn = none)
    (he : Extern.find fn = some (Extern.SlicesOverlaps.overlaps #[tS, tS] #[tR])) (td : P.underlying tS = some (.slice el)) (ti : TyI P el k b0 z) {vb b : Nat} {l1 l2 : List Value} {T1 T2 : TypeId} {fz : Nat × Nat} {o na ca nb cb : Nat} {w : World}
    (s : Sat (pto vb (cells l1 T1) :: blk b l2 T2 fz :: R) w) (hne : l2 ≠ []) :
    (callFunc f #[.slice (some ⟨vb, 0, none⟩) na ca, .slice (some ⟨b, o, none⟩) nb cb]).run P w = .ok (.value (.bool false)) w := by
  obtain ⟨h1, h2, a1, a2, ap, p1, p2⟩ := seps_two s
  have q1 := a1 _ _ p1
  have q2 := a2 _ _ p2
  have hvb : vb ≠ b := by
    rintro rfl
    rcases ap vb with h | h
    · rw [show h1 vb = _ from p1] at h; cases h
    · rw [show h2 vb = _ from p2] at h; cases h
  rw [run_callFunc_extern hf hname hb hn he]
  have := Lib.run_overlaps_apart (P := P) w tS tR el td k (fun w => run_size ti w) ⟨vb, 0, none⟩ ⟨b, o, none⟩ na ca nb cb hvb T1 T2 l1.length l2.length (by simp [World.shape?, q1, cells]) (by simp [World.shape?, q2])
    (by simpa using hne) (by simp [World.frozen?, q1, cells]) (by simp [World.frozen?, q1, cells])
  rw [this]; rfl
theorem co_overlaps {f : FuncId} {fn : Func} {tS tR el : TypeId} {k b0 : Nat} {z : Value} {x u : Operand} {xv uv : Value} {tys : Array TypeId} (hf : P.funcs[f]? = some fn) (hname : (fn.name == "runtime.NumGoroutine") = false) (hb : fn.body.isNone = true) (hn : Extern.findNext fn = none)
    (he : Extern.find fn = some (Extern.SlicesOverlaps.overlaps #[tS, tS] #[tR])) (td : P.underlying tS = some (.slice el)) [ti : TyI P el k b0 z] {vb b : Nat} {l1 l2 : List Value} {T1 T2 : TypeId} {fz : Nat × Nat} {o na ca nb cb : Nat}
    [ex : Ev E x xv] [eu : Ev E u uv] (hxv : xv = .slice (some ⟨vb, 0, none⟩) na ca) (huv : uv = .slice (some ⟨b, o, none⟩) nb cb) [p : Pull (pto vb) L (cells l1 T1) R] [q : Pull (pto b) R (.cells l2.toArray T2 fz) L'] (hne : l2 ≠ [])
    (h : Ht L (CO P ρ N D ((d, .bool false) :: E) ops rest Q)) :
    Ht L (CO P ρ N D E ops (⟨some d, .call ⟨.value (.func f), #[x, u], tys⟩, ty, pos, af, none⟩ :: rest) Q) :=
  co_gen fun ac w r s => by
    subst hxv; subst huv
    have s2 : Sat (pto vb (cells l1 T1) :: blk b l2 T2 fz :: L') w := seps_mono (fun _ a => a) (fun _ t => q.h _ _ t) (p.sat s)
    have hr := run_overlaps (P := P) (na := na) (ca := ca) (nb := nb) (cb := cb) (o := o) hf hname hb hn he td ti s2 hne
    refine ⟨_, w, ?_, _, s, h⟩
    have hfe : ac.eval (.func f) = .func (.func f) #[] #[] := rfl
    simp [execOp, resolve, ex.h N D ac r, eu.h N D ac r, hfe, Deferred.ofValue, invoke, Sem.run_bind, Result.andThen, hr]
end sl
end Go.SL
