/- The parts SLXE, SLXF, SLXC, SLXU, SLXW, GSF, NIE, FXS, SLXS, FYA, GSG, FXG, NSO, FXH, GSH, FYB, DEC10, GSB, GSC, GSD, GSE, REQ, GSI, GSJ, GSK of the engine and of the walk, one behind the other: no condition. -/
import Derived.Test.YtohglolecmgeoaaGreatB18de254f
import Derived.Laws.Strings
import Derived.Laws.Slices
import Derived.Test.YtohglolecmgeoaaGreatB9a3e9273
import Derived.Laws.Strings2
import Derived.Test.YtohglolecmgeoaaGreatB59733f62
import Derived.Test.YtohglolecmgeoaaGreatSLT
import Derived.DeepKeys
import Derived.Lib.Mul64
import Derived.Laws.Bits64b

set_option linter.all false
set_option synthInstance.maxSize 100000
set_option synthInstance.maxHeartbeats 400000
namespace Go.SL
open Go
section
variable {P : Program} {ρ : Option Nat} {N : Nat} {D : List Deferred} {E : List (Nat × Value)} {L : List HP} {Q : Exit → Act → World → Prop}

theorem sat_exM {β : Type} {F : β → Prop} {L : β → List HP} {M : List HP} {w : World} : Sat ((fun e h => ∃ x, F x ∧ seps (L x) e h) :: M) w ↔ ∃ x, F x ∧ Sat (L x ++ M) w := by
  constructor
  · rintro ⟨h1, h2, u, ⟨x, hx, a⟩, l⟩
    exact ⟨x, hx, seps_seps.1 ⟨h1, h2, u, a, l⟩⟩
  · rintro ⟨x, hx, s⟩
    obtain ⟨h1, h2, u, a, l⟩ := seps_seps.2 s
    exact ⟨h1, h2, u, ⟨x, hx, a⟩, l⟩

/-- a range over a function that has memory of its own, and says in what order it likes -/
theorem ht_rangeFuncM {g : Operand} {ps : List Nat} {assign body : Code} {gf : Nat} {lb : List Value} {β γ : Type} (encs : γ → List Value) (Ok : List γ → γ → Prop) (Fin : List γ → Prop) (Inv : List γ → β → Prop) (Lf : List γ → β → List HP) (M Mend : List HP)
    [ev : Ev E g (.func (.func gf) #[] lb.toArray)] (hfn : FnOk P gf) (hps : ∀ c, (encs c).length = ps.length)
    (x0 : β) (hx0 : Inv [] x0) (hL : ∀ e h, seps L e h → seps (Lf [] x0 ++ M) e h)
    (hit : ∀ (l : Nat) (A : List γ → HP) (K : Value → World → Prop),
      (∀ h c M', Ok h c → Ht (A h :: M') (CYield P l (encs c) (fun v w => v = .bool true ∧ Sat (A (h ++ [c]) :: M') w))) → (∀ h v, Fin h → Ht (A h :: Mend) (K v)) → Ht (A [] :: M) (CCall P gf (.func (.yield l) #[] #[] :: lb) K))
    (hbody : ∀ h c, Ok h c → ∀ x, Inv h x → ∀ (M' : List HP) (l dd : Nat) (r : Loop), r.state = .ready → okC N body = true → ∀ Q',
      (∀ x' E', Inv (h ++ [c]) x' → Ht (pto l (.loop { r with state := .busy }) :: pto dd (.deferred (some [])) :: (Lf (h ++ [c]) x' ++ M')) (CX N [] E' .normal Q')) →
      Ht (pto l (.loop r) :: pto dd (.deferred (some [])) :: (Lf h x ++ M')) (CC P (some l) N [] (psE ps (encs c) E) assign (BeginP P l N body Q')))
    (hdone : ∀ dd h x, Fin h → Inv h x → Ht (pto dd (.deferred (some [])) :: (Lf h x ++ Mend)) (CX N ({ target := .collected dd, args := #[] } :: D) E .normal Q)) :
    Ht L (CC P none N D E (.rangeFunc g ps.toArray assign body) Q) := fun w s ok a rp => by
  simp only [okC, Bool.and_eq_true, List.toList_toArray] at ok
  obtain ⟨⟨ok1, ok2⟩, ok3⟩ := ok
  have hg := ev.h N D a rp
  refine wpIn_rangeFunc ?_
  intro fn _
  obtain ⟨rec, hrec⟩ : ∃ rec : LoopState → Option Code → Loop, rec = fun st pe => { state := st, pending := pe, fn, tmps := a.tmps, params := ps.toArray, assign, body, defers := w.heap.size } := ⟨_, rfl⟩
  obtain ⟨W1, hW1⟩ : ∃ W1, (w.alloc (.deferred (some []))).alloc (.loop (rec .ready none)) = W1 := ⟨_, rfl⟩
  have S1 : Sat (pto (w.heap.size + 1) (.loop (rec .ready none)) :: pto w.heap.size (.deferred (some [])) :: L) W1 := by
    rw [← hW1]
    have s1 : Sat (pto w.heap.size (.deferred (some [])) :: L) (w.alloc (.deferred (some []))) := s.new rfl rfl
    have s2 := s1.new (w' := (w.alloc (.deferred (some []))).alloc (.loop (rec .ready none))) (o := .loop (rec .ready none)) rfl rfl
    rw [World.size_alloc] at s2
    exact s2
  refine ⟨w.heap.size + 1, [{ target := .collected w.heap.size, args := #[] }], W1, { target := .fn (.func gf) lb.toArray, args := #[.func (.yield (w.heap.size + 1)) #[] #[]] }, W1, gf,
    #[.func (.yield (w.heap.size + 1)) #[] #[]] ++ lb.toArray, W1, ?_, ?_, fun _ _ => trivial, ?_, fun h => by simp at h, ?_⟩
  · rw [← hW1, hrec]; exact run_enterLoop_outer _ _ _ _ _
  · simp only [resolve, hg]
    simp [go_sem]
  · simp [invoke, go_sem, run_callFunc hfn]
  · have hA : ∀ h M' w', Sat ((fun e hh => ∃ x, Inv h x ∧ seps (pto (w.heap.size + 1) (.loop (rec .ready none)) :: pto w.heap.size (.deferred (some [])) :: Lf h x) e hh) :: M') w' ↔ ∃ x, Inv h x ∧ Sat (pto (w.heap.size + 1) (.loop (rec .ready none)) :: pto w.heap.size (.deferred (some [])) :: (Lf h x ++ M')) w' := fun h M' w' => sat_exM
    have main := hit (w.heap.size + 1) (fun h e hh => ∃ x, Inv h x ∧ seps (pto (w.heap.size + 1) (.loop (rec .ready none)) :: pto w.heap.size (.deferred (some [])) :: Lf h x) e hh)
      (fun v w' => rangePost (Fr none) 0 P (w.heap.size + 1) Q { a with defers := [{ target := .collected w.heap.size, args := #[] }] ++ a.defers } (.returned v) w')
      (fun h c M' hok w' sw => by
        obtain ⟨x, hx, sx⟩ := (hA h M' w').1 sw
        have hl := sx.get
        have hy := run_yield (P := P) (args := (encs c).toArray) hl (by rw [hrec]; simp [hps c])
        refine ⟨fn, _, assign, body, by rw [hrec] at hy; exact hy, roundIn_of_wpIn (F := Fr none) trivial ?_⟩
        have hbd := hbody h c hok x hx M' (w.heap.size + 1) w.heap.size (rec .ready none) (by rw [hrec]) ok3
          (roundPost P (w.heap.size + 1) fun e w' => ∃ v, e = .returned v ∧ (v = .bool true ∧ Sat ((fun e hh => ∃ x, Inv (h ++ [c]) x ∧ seps (pto (w.heap.size + 1) (.loop (rec .ready none)) :: pto w.heap.size (.deferred (some [])) :: Lf (h ++ [c]) x) e hh) :: M') w'))
          (fun x' E' hx' w2 s2 a2 r2 => by
            have h2 := s2.get
            have hr := run_endRound (P := P) none h2
            refine ⟨_, _, hr, _, rfl, ⟨rfl, (hA (h ++ [c]) M' _).2 ⟨x', hx', ?_⟩⟩⟩
            have := putObj_set (o' := .loop (rec .ready none)) s2
            rw [hrec] at this ⊢
            exact this)
        have := hbd w' sx ok2 ⟨((ps.zip (encs c)).foldl (fun T (x : Nat × Value) => T.setIfInBounds x.1 x.2) a.tmps), []⟩ (psE_rep (ds := []) ⟨rp.size, rfl, rp.vals⟩ ok1)
        refine wpIn_mono (F := Fr (some (w.heap.size + 1))) (by simpa only [List.zip_toArray, List.foldl_toArray] using this) ?_
        intro e a1 w1 hh
        cases e <;> first | exact hh | skip
        obtain ⟨w2, hb2, hb3⟩ := hh
        exact ⟨w2, hb2, hb3 ok3⟩)
      (fun h v hfin w' sw => by
        obtain ⟨x, hx, sx⟩ := (hA h Mend w').1 sw
        have he := run_endLoop (P := P) sx.get (by rw [hrec]; simp)
        refine ⟨none, _, by rw [hrec] at he; exact he, ?_⟩
        exact hdone w.heap.size h x hfin hx _ (putObj_set sx).tail _ ⟨rp.size, by simp [rp.defers], rp.vals⟩)
    have sA := (hA [] M W1).2 ⟨x0, hx0, seps_mono (fun _ a => a) (fun _ t => seps_mono (fun _ a => a) (fun _ t => hL _ _ t) t) S1⟩
    have := (main W1 sA).2
    have e : (Value.func (.yield (w.heap.size + 1)) #[] #[] :: lb).toArray = #[.func (.yield (w.heap.size + 1)) #[] #[]] ++ lb.toArray := by simp
    rw [e] at this
    refine CallsIn.mono (F := Fr none) this ?_
    rintro e w' ⟨v, rfl, hk⟩
    exact hk
end
end Go.SL

set_option linter.all false
namespace Go.SL
open Go
variable {P : Program} {ρ : Option Nat} {N : Nat} {D : List Deferred} {E : List (Nat × Value)} {L R : List HP} {Q : Exit → Act → World → Prop} {ops : Array Oper} {rest : List Oper}
  {d : Nat} {ty : TypeId} {pos : String} {af : Array Edge}
/-- 's[i]' of a string -/
theorem co_strIdx {T : TypeId} {x i : Operand} {str : ByteArray} {k : IntKind} {iv : Int} {m : Nat} [ts : TyD P T .string] [ex : Ev E x (.string str)] [ei : Ev E i (.int k iv)] [tn : ToNat iv m] (hb : 0 ≤ iv ∧ iv < str.size)
    (hK : Ht L (CO P ρ N D ((d, .int .u8 (str.data.toList[m]!).toNat) :: E) ops rest Q)) :
    Ht L (CO P ρ N D E ops (⟨some d, .index T x i, ty, pos, af, none⟩ :: rest) Q) :=
  co_val (fun a w r s => ⟨w, by
    have e1 := tn.h
    subst e1
    have := run_index_string (P := P) w T str k iv ts.h
    rw [dif_pos hb] at this
    have e2 : (str[iv.toNat]'(by omega)) = str.data.toList[iv.toNat]! := by
      have hl : iv.toNat < str.data.toList.length := by rw [Array.length_toList]; show iv.toNat < str.size; omega
      rw [getElem!_pos str.data.toList iv.toNat hl, Array.getElem_toList]; rfl
    rw [e2] at this
    simp only [execOp, Sem.run_bind, Result.andThen, ex.h N D a r, ei.h N D a r, this, Sem.run_pure], s⟩) hK
end Go.SL

set_option linter.all false
namespace Go.SL
open Go
variable {P : Program} {ρ : Option Nat} {N : Nat} {D : List Deferred} {E : List (Nat × Value)} {L R : List HP} {Q : Exit → Act → World → Prop} {ops : Array Oper} {rest : List Oper}
  {d : Nat} {ty : TypeId} {pos : String} {af : Array Edge}
/-- 's[:h]' of a string -/
theorem co_strTake {T : TypeId} {x hi : Operand} {str : ByteArray} {k : IntKind} {h : Int} {n : Nat} [ts : TyD P T .string] [ex : Ev E x (.string str)] [eh : Ev E hi (.int k h)] [tn : ToNat h n] (hb : 0 ≤ h ∧ h ≤ str.size)
    (hK : Ht L (CO P ρ N D ((d, .string (str.extract 0 n)) :: E) ops rest Q)) :
    Ht L (CO P ρ N D E ops (⟨some d, .slice T x none (some hi) none, ty, pos, af, none⟩ :: rest) Q) :=
  co_val (fun a w r s => ⟨w, by
    have e1 := tn.h
    subst e1
    have := run_slice_string_h (P := P) w T str ts.h k h hb.1 hb.2
    simp only [execOp, Instr.sliceAt, Sem.run_bind, run_und ts.h, Result.andThen, ex.h N D a r, eh.h N D a r, Option.map_none, Option.map_some, this, Sem.run_pure], s⟩) hK
theorem eqIn_self {P : Program} {T e k b : Nat} {z : Value} (h : P.underlying T = some (.pointer e)) (ti : TyI P e k b z) (d : Nat) (a : Addr) (w : World) : (Op.equalIn (d + 1) T (.pointer (some a)) (.pointer (some a))).run P w = .ok true w := by
  simp only [Op.equalIn, Sem.run_bind, run_und h, Result.andThen]
  simp [run_size ti, sameAddr]
theorem run_eq_self {P : Program} {T e k b : Nat} {z : Value} (h : P.underlying T = some (.pointer e)) (ti : TyI P e k b z) (a : Addr) (w : World) : (Op.equal T (.pointer (some a)) (.pointer (some a))).run P w = .ok true w := eqIn_self h ti 9999 a w
instance {T yT : Nat} {x y : Operand} {e k b : Nat} {z : Value} {a : Addr} [t : TyD P T (.pointer e)] [ti : TyI P e k b z] [ex : Ev E x (.pointer (some a))] [ey : Ev E y (.pointer (some a))] : Rd P L E (.binOp .neq T x y yT) (.bool false) := ⟨fun N D A w r _ d ty pos af g => by
  simp [execOp, ex.h N D A r, ey.h N D A r, eqGuard, binOp, Sem.run_bind, run_eq_self t.h ti, Result.andThen]⟩
end Go.SL

set_option linter.all false
namespace Go.SL
open Go
/-! ### strings in drawn regions: 's[:n]' and 's[i]' as quiet operations -/
class SzB (s : ByteArray) (n : Int) : Prop where
  h : 0 ≤ n ∧ n ≤ s.size
class SzI (s : ByteArray) (n : Int) : Prop where
  h : 0 ≤ n ∧ n < s.size
section rd
variable {P : Program} {L : List HP} {E : List (Nat × Value)}
instance rd_strTake {T : TypeId} {x hi : Operand} {str : ByteArray} {k : IntKind} {h : Int} {n : Nat} [ts : TyD P T .string] [ex : Ev E x (.string str)] [eh : Ev E hi (.int k h)] [tn : ToNat h n] [sb : SzB str h] :
    Rd P L E (.slice T x none (some hi) none) (.string (str.extract 0 n)) := ⟨fun N D a w r s d ty pos af g => by
  have e1 := tn.h
  subst e1
  have := run_slice_string_h (P := P) w T str ts.h k h sb.h.1 sb.h.2
  simp only [execOp, Instr.sliceAt, Sem.run_bind, run_und ts.h, Result.andThen, ex.h N D a r, eh.h N D a r, Option.map_none, Option.map_some, this, Sem.run_pure]⟩
instance rd_strIdx {T : TypeId} {x i : Operand} {str : ByteArray} {k : IntKind} {iv : Int} {m : Nat} [ts : TyD P T .string] [ex : Ev E x (.string str)] [ei : Ev E i (.int k iv)] [tn : ToNat iv m] [si : SzI str iv] :
    Rd P L E (.index T x i) (.int .u8 (str.data.toList[m]!).toNat) := ⟨fun N D a w r s d ty pos af g => by
  have hb := si.h
  have e1 := tn.h
  subst e1
  have := run_index_string (P := P) w T str k iv ts.h
  rw [dif_pos hb] at this
  have e2 : (str[iv.toNat]'(by omega)) = str.data.toList[iv.toNat]! := by
    have hl : iv.toNat < str.data.toList.length := by rw [Array.length_toList]; show iv.toNat < str.size; omega
    rw [getElem!_pos str.data.toList iv.toNat hl, Array.getElem_toList]; rfl
  rw [e2] at this
  simp [execOp, ex.h N D a r, ei.h N D a r, this, Sem.run_bind, Result.andThen]⟩
end rd
end Go.SL
namespace Go.SL
open Go
/-- an array literal that names every element -/
instance rd_buildA {P : Program} {L : List HP} {E : List (Nat × Value)} {t el m n k b b' : Nat} {z z' : Value} {zs : List Value} {ps : List (Nat × Operand)} {out : List Value} [td : TyD P t (.array m el)] [ti : TyI P t n b z] [te : TyI P el k b' z'] [vz : VC z zs] [lz : Len zs n] [ev : EvF E ps 0 k out] [lo : Len out n] :
    Rd P L E (.build t ps.toArray) (.agg out.toArray) := ⟨fun N D a w r s d ty pos af g => by
  obtain ⟨vs, h1, h2, h3⟩ := ev.h
  have h4 := h1 N D a r
  have h5 := lz.h
  have h6 := lo.h
  have h7 := h3 [] zs (by simp) (by omega)
  simp only [List.nil_append] at h7
  rw [List.drop_eq_nil_of_le (by omega), List.append_nil] at h7
  simp only [execOp, Instr.build, Sem.run_bind, run_zero ti, Result.andThen, run_und td.h, run_size te, vz.h, List.map_toArray, h4]
  simp [h7]⟩
end Go.SL
namespace Go.SL
open Go
variable {P : Program} {ρ : Option Nat} {N : Nat} {D : List Deferred} {E : List (Nat × Value)} {L R : List HP} {Q : Exit → Act → World → Prop} {ops : Array Oper} {rest : List Oper}
  {d : Nat} {ty : TypeId} {pos : String} {af : Array Edge}
/-- 's[l:h]' of a string -/
theorem co_strSlice {T : TypeId} {x lo hi : Operand} {str : ByteArray} {k k' : IntKind} {l h : Int} {m n : Nat} [ts : TyD P T .string] [ex : Ev E x (.string str)] [el : Ev E lo (.int k l)] [eh : Ev E hi (.int k' h)] [tm : ToNat l m] [tn : ToNat h n] (hb : 0 ≤ l ∧ l ≤ h ∧ h ≤ str.size)
    (hK : Ht L (CO P ρ N D ((d, .string (str.extract m n)) :: E) ops rest Q)) :
    Ht L (CO P ρ N D E ops (⟨some d, .slice T x (some lo) (some hi) none, ty, pos, af, none⟩ :: rest) Q) :=
  co_val (fun a w r s => ⟨w, by
    have e1 := tm.h
    have e2 := tn.h
    subst e1; subst e2
    have := run_slice_string (P := P) w T str k k' l h ts.h hb.1 hb.2.1 hb.2.2
    simp only [execOp, Instr.sliceAt, Sem.run_bind, run_und ts.h, Result.andThen, ex.h N D a r, el.h N D a r, eh.h N D a r, Option.map_none, Option.map_some, this, Sem.run_pure], s⟩) hK
/-- 's[l:]' of a string -/
theorem co_strDrop {T : TypeId} {x lo : Operand} {str : ByteArray} {k : IntKind} {l : Int} {m : Nat} [ts : TyD P T .string] [ex : Ev E x (.string str)] [el : Ev E lo (.int k l)] [tm : ToNat l m] (hb : 0 ≤ l ∧ l ≤ str.size)
    (hK : Ht L (CO P ρ N D ((d, .string (str.extract m str.size)) :: E) ops rest Q)) :
    Ht L (CO P ρ N D E ops (⟨some d, .slice T x (some lo) none none, ty, pos, af, none⟩ :: rest) Q) :=
  co_val (fun a w r s => ⟨w, by
    have e1 := tm.h
    subst e1
    have := run_slice_string_l (P := P) w T str ts.h k l hb.1 hb.2
    simp only [execOp, Instr.sliceAt, Sem.run_bind, run_und ts.h, Result.andThen, ex.h N D a r, el.h N D a r, Option.map_none, Option.map_some, this, Sem.run_pure], s⟩) hK
/-- a package's variable, named -/
instance ev_global {E : List (Nat × Value)} {g : Nat} : Ev E (.global g) (.pointer (some ⟨g, 0, none⟩)) := ⟨fun N D a r => rfl⟩
end Go.SL

set_option linter.all false
namespace Go.SL
open Go
section
variable {P : Program} {ρ : Option Nat} {N : Nat} {D : List Deferred} {E : List (Nat × Value)} {L R : List HP} {rest : List Oper} {Q : Exit → Act → World → Prop} {ops : Array Oper} {d : Nat} {ty : TypeId} {pos : String} {af : Array Edge}
/-! ranging over a nil map -/
theorem co_rangeNil {T kt et : Nat} {x : Operand} [td : TyD P T (.map kt et)] [ex : Ev E x (.map none)]
    (h : ∀ it, Ht (pto it (.mapIter none 0 #[] 0) :: L) (CO P ρ N D ((d, .pointer (some ⟨it, 0, none⟩)) :: E) ops rest Q)) :
    Ht L (CO P ρ N D E ops (⟨some d, .range T x, ty, pos, af, none⟩ :: rest) Q) :=
  co_gen fun a w rp s => by
    refine ⟨.pointer (some ⟨w.heap.size, 0, none⟩), { w with heap := w.heap.push (.mapIter none 0 #[] 0) }, ?_, _, s.new rfl rfl, h w.heap.size⟩
    simp [execOp, Instr.range, ex.h N D a rp, Sem.run_bind, run_und td.h, Result.andThen, newObj, Sem.run]
instance {T kt et : Nat} {x : Operand} [td : TyD P T (.map kt et)] [ex : Ev E x (.map none)] :
    Step (Ht L (CO P ρ N D E ops (⟨some d, .range T x, ty, pos, af, none⟩ :: rest) Q)) (∀ it, Ht (pto it (.mapIter none 0 #[] 0) :: L) (CO P ρ N D ((d, .pointer (some ⟨it, 0, none⟩)) :: E) ops rest Q)) := ⟨co_rangeNil⟩
theorem co_nextNil {it : Nat} {x : Operand} [ex : Ev E x (.pointer (some ⟨it, 0, none⟩))] [p : Pull (pto it) L (.mapIter none 0 #[] 0) R]
    (h : Ht (pto it (.mapIter none 0 #[] 0) :: R) (CO P ρ N D ((d, .tuple #[.bool false]) :: E) ops rest Q)) :
    Ht L (CO P ρ N D E ops (⟨some d, .next x false, ty, pos, af, none⟩ :: rest) Q) :=
  co_gen fun a w rp s => by
    have s' := p.sat s
    obtain ⟨g1, g2, u, hp, l⟩ := s'
    have hi' : w.heap[it]? = some (.mapIter none 0 #[] 0) := by
      have := u it
      have hp' : g1 it = some (.mapIter none 0 #[] 0) := hp
      simp_all
    refine ⟨.tuple #[.bool false], w, ?_, _, p.sat s, h⟩
    simp [execOp, Instr.next, ex.h N D a rp, Sem.run_bind, getObj, Sem.run, hi', Result.andThen]
instance {it : Nat} {x : Operand} [ex : Ev E x (.pointer (some ⟨it, 0, none⟩))] [p : Pull (pto it) L (.mapIter none 0 #[] 0) R] :
    Step (Ht L (CO P ρ N D E ops (⟨some d, .next x false, ty, pos, af, none⟩ :: rest) Q)) (Ht (pto it (.mapIter none 0 #[] 0) :: R) (CO P ρ N D ((d, .tuple #[.bool false]) :: E) ops rest Q)) := ⟨co_nextNil⟩
end
section rd
variable {P : Program} {L : List HP} {E : List (Nat × Value)}
theorem eqIn_map {w : World} {T kt et : Nat} (h : P.underlying T = some (.map kt et)) (d : Nat) (a : Option Nat) : (Op.equalIn (d + 1) T (.map a) (.map none)).run P w = .ok a.isNone w := by
  simp only [Op.equalIn, Sem.run_bind, run_und h, Result.andThen]
  cases a <;> rfl
theorem run_eq_map {w : World} {T kt et r : Nat} (h : P.underlying T = some (.map kt et)) : (Op.equal T (.map (some r)) (.map none)).run P w = .ok false w := eqIn_map h 9999 (some r)
theorem run_eq_map0 {w : World} {T kt et : Nat} (h : P.underlying T = some (.map kt et)) : (Op.equal T (.map none) (.map none)).run P w = .ok true w := eqIn_map h 9999 none
instance {T yT x y kt et r} [t : TyD P T (.map kt et)] [ex : Ev E x (.map (some r))] [ey : Ev E y (.map none)] : Rd P L E (.binOp .eql T x y yT) (.bool false) := ⟨fun N D A w rp _ d ty pos af g => by
  simp [execOp, ex.h N D A rp, ey.h N D A rp, eqGuard, binOp, Sem.run_bind, run_eq_map t.h, Result.andThen]⟩
instance {T yT x y kt et} [t : TyD P T (.map kt et)] [ex : Ev E x (.map none)] [ey : Ev E y (.map none)] : Rd P L E (.binOp .eql T x y yT) (.bool true) := ⟨fun N D A w rp _ d ty pos af g => by
  simp [execOp, ex.h N D A rp, ey.h N D A rp, eqGuard, binOp, Sem.run_bind, run_eq_map0 t.h, Result.andThen]⟩
end rd
section
variable {P : Program} {N : Nat} {D : List Deferred} {E : List (Nat × Value)} {L L' : List HP}
theorem retDct [c : Coll P L D L'] {fn : Func} {K : Value → World → Prop} {t u T : Nat} {a : Addr} {v x : Value} (hr : fn.results = #[.cell t T, .tmp u]) [l : Look E t (.pointer (some a))] [m : Look E u x] [vr : Var P L' T a v] (h : Ht L' (K (.tuple #[v, x]))) : Ht L (CX N D E .ret (FnPost P fn K)) :=
  fnpost_coll (fun N ac w r s => by
    have := r.vals t _ l.h
    have := r.vals u _ m.h
    simp only [results, hr]
    simp [*, asAddr, Sem.run_bind, Result.andThen, vr.h w s]) h _ (.inl rfl)
end
section
variable {P : Program} {L : List HP} {E : List (Nat × Value)}
instance rd_strDrop {T : TypeId} {x lo : Operand} {str : ByteArray} {k : IntKind} {l : Int} {m : Nat} [ts : TyD P T .string] [ex : Ev E x (.string str)] [el : Ev E lo (.int k l)] [tm : ToNat l m] [sb : SzB str l] :
    Rd P L E (.slice T x (some lo) none none) (.string (str.extract m str.size)) := ⟨fun N D a w r s d ty pos af g => by
  have e1 := tm.h
  subst e1
  have := run_slice_string_l (P := P) w T str ts.h k l sb.h.1 sb.h.2
  simp only [execOp, Instr.sliceAt, Sem.run_bind, run_und ts.h, Result.andThen, ex.h N D a r, el.h N D a r, Option.map_none, Option.map_some, this, Sem.run_pure]⟩
end
end Go.SL

set_option linter.all false
set_option maxRecDepth 20000
set_option synthInstance.maxSize 100000
set_option synthInstance.maxHeartbeats 400000
namespace Go.Proofs
open Go Go.SL
attribute [local irreducible] CCall CO CC CX CD

/-! ### account's sums: lists of numbers by names -/
abbrev SV := List (ByteArray × (Value × List Int))
def svals (f : SV) : List (ByteArray × Value) := f.map fun x => (x.1, x.2.1)
def snums (f : SV) : List (ByteArray × List Int) := f.map fun x => (x.1, x.2.2)
def sown : ByteArray × (Value × List Int) → HP := fun x => own encW 53 x.2.1 (ws x.2.2)
theorem snums_mput (f : SV) (k : ByteArray) (v : Value) (x : List Int) : snums (mput f k (v, x)) = mput (snums f) k x := mput_map (fun p : Value × List Int => p.2) f k (v, x)
theorem svals_mput (f : SV) (k : ByteArray) (v : Value) (x : List Int) : svals (mput f k (v, x)) = mput (svals f) k v := mput_map (fun p : Value × List Int => p.1) f k (v, x)
theorem snums_mget (f : SV) (k : ByteArray) : mget (snums f) k = (mget f k).map (·.2) := mget_map (fun p : Value × List Int => p.2) f k
theorem svals_mget (f : SV) (k : ByteArray) : mget (svals f) k = (mget f k).map (·.1) := mget_map (fun p : Value × List Int => p.1) f k
theorem sum_take1 {f : SV} {name : ByteArray} {L R : List HP} {G : World → Prop} [p : Pull (bigO sown) L f R]
    (h : ∀ g, (∀ {v x L L1 R' w} [PullA (own encW 53 v (ws x)) L L1] [PullA (bigO sown g) L1 R'], Sat L w → Sat (bigO sown (mput f name (v, x)) :: R') w) →
      Ht (own encW 53 ((mget (svals f) name).getD (.slice none 0 0)) (ws ((mget (snums f) name).getD [])) :: bigO sown g :: R) G) : Ht L G := by
  refine Ht.pull p ?_
  rw [svals_mget, snums_mget] at h
  cases hm : mget f name with
  | none =>
    rw [hm] at h
    refine Ht.conseq (h f ?_) (fun w s => own_nil.2 s)
    intro v x L L1 R' w p1 p2 s
    rw [(mget_none hm).1]
    exact bigO_snoc.2 (seps_mono (fun _ a => a) (fun _ t => p2.h _ _ t) (p1.h _ _ s))
  | some vx =>
    obtain ⟨l1, l2, h1, h2, _⟩ := mget_split hm
    rw [hm] at h
    have hh := h (l1 ++ l2) (fun {v x L L1 R' w} p1 p2 s => by rw [h2]; exact bigO_split.2 (seps_mono (fun _ a => a) (fun _ t => p2.h _ _ t) (p1.h _ _ s)))
    rw [h1]
    exact Ht.big_take hh
theorem sown_at {P : SV} {p : ByteArray × (Value × List Int)} (hp : p ∈ P) : ∀ (M M' : List HP) [q : Pull (bigO sown) M P M'], RdE M encW p.2.1 (ws p.2.2) := fun M M' q => ⟨fun w t => by
  obtain ⟨R', hs⟩ := bigO_at hp (q.h _ _ t)
  exact own_sat hs⟩
/-- what a list of sums holds: by names, and cash -/
abbrev Sms := List (ByteArray × List Int) × List Int
def addQ (m : List (ByteArray × List Int)) (k : ByteArray) (q : Int) : List (ByteArray × List Int) := if k = noS then m else mput m k ((mget m k).getD [] ++ [q])
def sAdd (s : Sms) (k : ByteArray) (q c : Int) : Sms := (addQ s.1 k q, s.2 ++ [c])
/-- how many numbers stand in a map's lists -/
def cntQ (m : List (ByteArray × List Int)) : Nat := (m.map fun x => x.2.length).sum
theorem cntQ_mput (m : List (ByteArray × List Int)) (k : ByteArray) (x : List Int) : cntQ (mput m k x) + ((mget m k).getD []).length = cntQ m + x.length := by
  cases h : mget m k with
  | none => rw [(mget_none h).1]; simp [cntQ]
  | some v =>
    obtain ⟨l1, l2, h1, h2, _⟩ := mget_split h
    rw [h2, h1]; simp [cntQ]; omega
theorem cntQ_addQ {m : List (ByteArray × List Int)} {k : ByteArray} {q : Int} : cntQ (addQ m k q) ≤ cntQ m + 1 := by
  unfold addQ
  split
  · omega
  · have := cntQ_mput m k ((mget m k).getD [] ++ [q])
    rw [List.length_append] at this
    simp only [List.length_cons, List.length_nil] at this
    omega
theorem cntQ_get {m : List (ByteArray × List Int)} {k : ByteArray} : ((mget m k).getD []).length ≤ cntQ m := by
  have := cntQ_mput m k []
  simp only [List.length_nil] at this
  omega
/-- sums that were begun -/
def isSums (b : Nat) (s : Sms) : HP := exs fun (p : Nat × SV × Value) => seps [pur (One1 p.2.2 ∧ snums p.2.1 = s.1), pto b (cells [.map (some p.1), p.2.2] 305), own encW 53 p.2.2 (ws s.2), mapO mkStr p.1 (svals p.2.1), bigO sown p.2.1]
def isSm (b : Nat) (s : Option Sms) : HP := match s with
  | none => pto b (cells [.map none, .slice none 0 0] 305)
  | some s => isSums b s
theorem sm_open {b : Nat} {s : Sms} {R : List HP} {G : World → Prop}
    (h : ∀ r f v, One1 v → snums f = s.1 → Ht (pto b (cells [.map (some r), v] 305) :: own encW 53 v (ws s.2) :: mapO mkStr r (svals f) :: bigO sown f :: R) G) : Ht (isSums b s :: R) G := by
  refine Ht.exs fun p => Ht.seps (Ht.pur fun hp => ?_)
  exact h p.1 p.2.1 p.2.2 hp.1 hp.2
theorem sm_shut {b r : Nat} {s : Sms} {f : SV} {v : Value} {R : List HP} {w : World} (ov : One1 v) (hf : snums f = s.1)
    (sat : Sat (pto b (cells [.map (some r), v] 305) :: own encW 53 v (ws s.2) :: mapO mkStr r (svals f) :: bigO sown f :: R) w) : Sat (isSums b s :: R) w :=
  seps_exs.2 ⟨(r, f, v), seps_seps.2 (seps_pur.2 ⟨⟨ov, hf⟩, sat⟩)⟩
def smS (s : Option Sms) : Sms := s.getD ([], [])
theorem ws_app {a b : List Int} : ws (a ++ b) = ws a ++ ws b := by simp [ws]
theorem add_spec {L R K b} {s : Option Sms} {k : ByteArray} {q c : Int} [p : Pull (isSm b) L s R] (hq : -9223372036854775808 ≤ q ∧ q ≤ 9223372036854775807) (hc : fitW c) (h1 : cntQ (smS s).1 ≤ 100000) (h2 : (smS s).2.length ≤ 100000)
    (h : Ht (isSm b (some (sAdd (smS s) k q c)) :: R) (K (.tuple #[]))) : Ht L (CCall Tryz.prog 246 [.pointer (some ⟨b, 0, none⟩), .string k, .int .i64 q, wV c] K) := by
  refine Ht.pull p ?_
  cases s with
  | none =>
    show Ht (pto b (cells [.map none, .slice none 0 0] 305) :: R) _
    refine ccall4 Tryz.func246 rfl (by decide) Tryz.ntmps246 (by rfl) (by decide) ?_
    repeat (refine stp ?_)
    intro c7
    repeat (refine stp ?_)
    intro r
    repeat (refine stp ?_)
    obtain ⟨s, hs⟩ : ∃ s : Sms, s = ([], []) := ⟨_, rfl⟩
    obtain ⟨f, hff⟩ : ∃ f : SV, f = [] := ⟨_, rfl⟩
    obtain ⟨v, hv⟩ : ∃ v, v = Value.slice none 0 0 := ⟨_, rfl⟩
    have ov : One1 v := ⟨by rw [hv]; rfl⟩
    have hf : snums f = s.1 := by rw [hff, hs]; rfl
    have hsm : smS none = s := hs.symm
    rw [hsm] at h h1 h2
    refine Ht.conseq (L' := pto b (cells [.map (some r), v] 305) :: own encW 53 v (ws s.2) :: mapO mkStr r (svals f) :: bigO sown f :: pto c7 (cells [.int .i64 (wHi c), .int .u64 (wLo c)] 53) :: R) ?_ (fun w t => by
      subst hv; subst hff; subst hs
      have t2 : Sat (bigO sown [] :: own encW 53 (.slice none 0 0) (ws []) :: pto b (cells [.map (some r), .slice none 0 0] 305) :: mapO mkStr r [] :: pto c7 (cells [.int .i64 (wHi c), .int .u64 (wLo c)] 53) :: R) w := bigO_nil.2 (own_nil.2 t)
      exact (inferInstance : Frm _ (pto b (cells [.map (some r), .slice none 0 0] 305) :: own encW 53 (.slice none 0 0) (ws []) :: mapO mkStr r [] :: bigO sown [] :: pto c7 (cells [.int .i64 (wHi c), .int .u64 (wLo c)] 53) :: R)).h _ _ t2)
    by_cases hk : k = noS
    · rw [show sAdd s k q c = (s.1, s.2 ++ [c]) from by unfold sAdd addQ; rw [if_pos hk]] at h
      rewrite [show decide (k ≠ ⟨#[]⟩) = false from decide_eq_false (fun hh => hh hk)]
      repeat (refine stp ?_)
      refine ht_draw Tryz.can246x5 Tryz.mixed (by kernel_rfl) ?_
      repeat (refine stp ?_)
      intro b2
      repeat (refine stp ?_)
      refine Ht.own_lit encW (b := b2) (n := 1) (xs := ws [c]) (by unfold ws; rfl) rfl (by decide) ?_
      refine co_append (e := encW) (xs := ws s.2) (ys := ws [c]) (by rfl) (by rw [ws_len, ws_len]; simp only [List.length_cons, List.length_nil]; omega) (by rw [ws_len, ws_len]; simp only [List.length_cons, List.length_nil]; omega) ?_
      intro v2
      refine Ht.one1 (v := v2) ?_
      intro ov2
      repeat (refine stp ?_)
      rewrite [← ws_app]
      refine end0 rfl (Ht.conseq h fun w t => ?_)
      exact sm_shut (s := (s.1, s.2 ++ [c])) (r := r) (f := f) (v := v2) ov2 hf ((inferInstance : Frm _ _).h _ _ t)
    · rw [show sAdd s k q c = (mput s.1 k ((mget s.1 k).getD [] ++ [q]), s.2 ++ [c]) from by unfold sAdd addQ; rw [if_neg hk]] at h
      rewrite [show decide (k ≠ ⟨#[]⟩) = true from decide_eq_true hk]
      repeat (refine stp ?_)
      refine ht_draw Tryz.can246x4 Tryz.mixed (by kernel_rfl) ?_
      repeat (refine stp ?_)
      refine Of_spec hq.1 hq.2 ?_
      repeat (refine stp ?_)
      intro b1
      repeat (refine stp ?_)
      refine Ht.own_lit encW (b := b1) (n := 1) (xs := ws [q]) (by unfold ws; rfl) rfl (by decide) ?_
      refine sum_take1 (f := f) (name := k) fun g hput => ?_
      rewrite [hf]
      have hgl := @cntQ_get s.1 k
      refine co_append (e := encW) (xs := ws ((mget s.1 k).getD [])) (ys := ws [q]) (by rfl) (by rw [ws_len, ws_len]; simp only [List.length_cons, List.length_nil]; omega) (by rw [ws_len, ws_len]; simp only [List.length_cons, List.length_nil]; omega) ?_
      intro v1
      repeat (refine stp ?_)
      rewrite [← ws_app]
      refine Ht.conseq ?_ (fun w t => hput (v := v1) (x := (mget s.1 k).getD [] ++ [q]) t)
      rewrite [← svals_mput f k v1 ((mget s.1 k).getD [] ++ [q])]
      repeat (refine stp ?_)
      refine ht_draw Tryz.can246x5 Tryz.mixed (by kernel_rfl) ?_
      repeat (refine stp ?_)
      intro b2
      repeat (refine stp ?_)
      refine Ht.own_lit encW (b := b2) (n := 1) (xs := ws [c]) (by unfold ws; rfl) rfl (by decide) ?_
      refine co_append (e := encW) (xs := ws s.2) (ys := ws [c]) (by rfl) (by rw [ws_len, ws_len]; simp only [List.length_cons, List.length_nil]; omega) (by rw [ws_len, ws_len]; simp only [List.length_cons, List.length_nil]; omega) ?_
      intro v2
      refine Ht.one1 (v := v2) ?_
      intro ov2
      repeat (refine stp ?_)
      rewrite [← ws_app]
      refine end0 rfl (Ht.conseq h fun w t => ?_)
      exact sm_shut (s := (mput s.1 k ((mget s.1 k).getD [] ++ [q]), s.2 ++ [c])) (r := r) (f := mput f k (v1, (mget s.1 k).getD [] ++ [q])) (v := v2) ov2 (by rw [snums_mput, hf]) ((inferInstance : Frm _ _).h _ _ t)
  | some s =>
    show Ht (isSums b s :: R) _
    refine sm_open fun r f v ov hf => ?_
    refine ccall4 Tryz.func246 rfl (by decide) Tryz.ntmps246 (by rfl) (by decide) ?_
    repeat (refine stp ?_)
    intro c7
    repeat (refine stp ?_)
    have hsm : smS (some s) = s := rfl
    rw [hsm] at h h1 h2
    by_cases hk : k = noS
    · rw [show sAdd s k q c = (s.1, s.2 ++ [c]) from by unfold sAdd addQ; rw [if_pos hk]] at h
      rewrite [show decide (k ≠ ⟨#[]⟩) = false from decide_eq_false (fun hh => hh hk)]
      repeat (refine stp ?_)
      refine ht_draw Tryz.can246x5 Tryz.mixed (by kernel_rfl) ?_
      repeat (refine stp ?_)
      intro b2
      repeat (refine stp ?_)
      refine Ht.own_lit encW (b := b2) (n := 1) (xs := ws [c]) (by unfold ws; rfl) rfl (by decide) ?_
      refine co_append (e := encW) (xs := ws s.2) (ys := ws [c]) (by rfl) (by rw [ws_len, ws_len]; simp only [List.length_cons, List.length_nil]; omega) (by rw [ws_len, ws_len]; simp only [List.length_cons, List.length_nil]; omega) ?_
      intro v2
      refine Ht.one1 (v := v2) ?_
      intro ov2
      repeat (refine stp ?_)
      rewrite [← ws_app]
      refine end0 rfl (Ht.conseq h fun w t => ?_)
      exact sm_shut (s := (s.1, s.2 ++ [c])) (r := r) (f := f) (v := v2) ov2 hf ((inferInstance : Frm _ _).h _ _ t)
    · rw [show sAdd s k q c = (mput s.1 k ((mget s.1 k).getD [] ++ [q]), s.2 ++ [c]) from by unfold sAdd addQ; rw [if_neg hk]] at h
      rewrite [show decide (k ≠ ⟨#[]⟩) = true from decide_eq_true hk]
      repeat (refine stp ?_)
      refine ht_draw Tryz.can246x4 Tryz.mixed (by kernel_rfl) ?_
      repeat (refine stp ?_)
      refine Of_spec hq.1 hq.2 ?_
      repeat (refine stp ?_)
      intro b1
      repeat (refine stp ?_)
      refine Ht.own_lit encW (b := b1) (n := 1) (xs := ws [q]) (by unfold ws; rfl) rfl (by decide) ?_
      refine sum_take1 (f := f) (name := k) fun g hput => ?_
      rewrite [hf]
      have hgl := @cntQ_get s.1 k
      refine co_append (e := encW) (xs := ws ((mget s.1 k).getD [])) (ys := ws [q]) (by rfl) (by rw [ws_len, ws_len]; simp only [List.length_cons, List.length_nil]; omega) (by rw [ws_len, ws_len]; simp only [List.length_cons, List.length_nil]; omega) ?_
      intro v1
      repeat (refine stp ?_)
      rewrite [← ws_app]
      refine Ht.conseq ?_ (fun w t => hput (v := v1) (x := (mget s.1 k).getD [] ++ [q]) t)
      rewrite [← svals_mput f k v1 ((mget s.1 k).getD [] ++ [q])]
      repeat (refine stp ?_)
      refine ht_draw Tryz.can246x5 Tryz.mixed (by kernel_rfl) ?_
      repeat (refine stp ?_)
      intro b2
      repeat (refine stp ?_)
      refine Ht.own_lit encW (b := b2) (n := 1) (xs := ws [c]) (by unfold ws; rfl) rfl (by decide) ?_
      refine co_append (e := encW) (xs := ws s.2) (ys := ws [c]) (by rfl) (by rw [ws_len, ws_len]; simp only [List.length_cons, List.length_nil]; omega) (by rw [ws_len, ws_len]; simp only [List.length_cons, List.length_nil]; omega) ?_
      intro v2
      refine Ht.one1 (v := v2) ?_
      intro ov2
      repeat (refine stp ?_)
      rewrite [← ws_app]
      refine end0 rfl (Ht.conseq h fun w t => ?_)
      exact sm_shut (s := (mput s.1 k ((mget s.1 k).getD [] ++ [q]), s.2 ++ [c])) (r := r) (f := mput f k (v1, (mget s.1 k).getD [] ++ [q])) (v := v2) ov2 (by rw [snums_mput, hf]) ((inferInstance : Frm _ _).h _ _ t)
end Go.Proofs

set_option linter.all false
set_option maxRecDepth 20000
set_option synthInstance.maxSize 100000
set_option synthInstance.maxHeartbeats 400000
namespace Go.Proofs
open Go Go.SL

/-! ### structs of numbers and texts are compared -/
theorem cellsL : Tryz.prog.cellsOf 2 = 1 := by kernel_rfl
theorem cellsU : Tryz.prog.cellsOf 38 = 1 := by kernel_rfl
theorem cellsS : Tryz.prog.cellsOf 9 = 1 := by kernel_rfl
theorem litsL {d : Nat} {h : Int} (h1 : (Lit.int .i64 h).wf = true) : Tryz.prog.keyLits (d + 1) 2 [.int .i64 h] = some [.int .i64 h] := by
  unfold Program.keyLits; simp only [Tryz.underlying2]; simp [h1]
theorem litsU {d : Nat} {l : Int} (h2 : (Lit.int .u64 l).wf = true) : Tryz.prog.keyLits (d + 1) 38 [.int .u64 l] = some [.int .u64 l] := by
  unfold Program.keyLits; simp only [Tryz.underlying38]; simp [h2]
theorem litsS {d : Nat} {s : ByteArray} (h1 : s.size ≤ maxLen) : Tryz.prog.keyLits (d + 1) 9 [.string s] = some [.string s.data.toList] := by
  unfold Program.keyLits; simp only [Tryz.underlying9]; simp [h1]
theorem strEq {s t : ByteArray} : s.data.toList = t.data.toList ↔ s = t := by
  obtain ⟨a⟩ := s
  obtain ⟨b⟩ := t
  simp
theorem strEq2 {s t : ByteArray} : s.data = t.data ↔ s = t := by
  obtain ⟨a⟩ := s
  obtain ⟨b⟩ := t
  simp
class W64 (z : Int) : Prop where
  h : (Lit.int .i64 z).wf = true
class WU64 (z : Int) : Prop where
  h : (Lit.int .u64 z).wf = true
class SmS (s : ByteArray) : Prop where
  h : s.size ≤ maxLen
instance w64_0 : W64 0 := ⟨by decide⟩
instance wu64_0 : WU64 0 := ⟨by decide⟩
instance smS_0 : SmS ⟨#[]⟩ := ⟨by decide⟩
instance smS_e : SmS ByteArray.empty := ⟨by decide⟩
theorem cellsW : Tryz.prog.cellsOf 53 = 2 := by kernel_rfl
theorem litsW {d : Nat} {a0 : Int} {a1 : Int} (h0 : (Lit.int .i64 a0).wf = true) (h1 : (Lit.int .u64 a1).wf = true) : Tryz.prog.keyLits (d + 2) 53 [.int .i64 a0, .int .u64 a1] = some [.int .i64 a0, .int .u64 a1] := by
  unfold Program.keyLits
  simp only [Tryz.underlying53]
  simp [cellsW, cellsL, cellsU, cellsS, litsL h0, litsU h1]
theorem eqW {a0 : Int} {a1 : Int} {b0 : Int} {b1 : Int} (h0 : (Lit.int .i64 a0).wf = true) (h1 : (Lit.int .u64 a1).wf = true) (g0 : (Lit.int .i64 b0).wf = true) (g1 : (Lit.int .u64 b1).wf = true) (w : World) :
    (Op.equal 53 (.agg #[.int .i64 a0, .int .u64 a1]) (.agg #[.int .i64 b0, .int .u64 b1])).run Tryz.prog w = .ok (decide (a0 = b0 ∧ a1 = b1)) w := by
  obtain ⟨r, hr, hiff⟩ := run_equalIn_deep (P := Tryz.prog) 9998 2 53 (by kernel_rfl) w 3 3 (.agg #[.int .i64 a0, .int .u64 a1]) (.agg #[.int .i64 b0, .int .u64 b1]) _ _ (by kernel_rfl) (by kernel_rfl) (litsW h0 h1) (litsW g0 g1)
  have e : r = decide (a0 = b0 ∧ a1 = b1) := by
    cases r
    · symm; refine decide_eq_false fun hh => ?_
      obtain ⟨rfl, rfl⟩ := hh
      have := hiff.2 rfl; cases this
    · symm; refine decide_eq_true ?_
      have := hiff.1 rfl
      simpa [strEq, strEq2] using this
  rw [← e]; exact hr
theorem guardW {x y : Operand} {a b : Array Value} (op : BinOp) (w : World) : (eqGuard op 53 x y (.agg a) (.agg b)).run Tryz.prog w = .ok () w := by
  have hd : Tryz.prog.eqGuardType Tryz.prog.depth 53 = false := by kernel_rfl
  unfold eqGuard
  cases op <;> simp [go_sem, hd]
section
variable {L : List HP} {E : List (Nat × Value)} {x y : Operand} {yT : TypeId} {a0 : Int} {a1 : Int} {b0 : Int} {b1 : Int}
instance rd_neqW [ex : Ev E x (.agg #[.int .i64 a0, .int .u64 a1])] [ey : Ev E y (.agg #[.int .i64 b0, .int .u64 b1])] [p0 : W64 a0] [p1 : WU64 a1] [q0 : W64 b0] [q1 : WU64 b1] :
    Rd Tryz.prog L E (.binOp .neq 53 x y yT) (.bool (!decide (a0 = b0 ∧ a1 = b1))) := ⟨fun N D A w r _ d ty pos af g => by
  simp [execOp, ex.h N D A r, ey.h N D A r, binOp, Sem.run_bind, guardW, eqW p0.h p1.h q0.h q1.h, Result.andThen]⟩
instance rd_eqlW [ex : Ev E x (.agg #[.int .i64 a0, .int .u64 a1])] [ey : Ev E y (.agg #[.int .i64 b0, .int .u64 b1])] [p0 : W64 a0] [p1 : WU64 a1] [q0 : W64 b0] [q1 : WU64 b1] :
    Rd Tryz.prog L E (.binOp .eql 53 x y yT) (.bool (decide (a0 = b0 ∧ a1 = b1))) := ⟨fun N D A w r _ d ty pos af g => by
  simp [execOp, ex.h N D A r, ey.h N D A r, binOp, Sem.run_bind, guardW, eqW p0.h p1.h q0.h q1.h, Result.andThen]⟩
end
theorem cellsTd : Tryz.prog.cellsOf 61 = 6 := by kernel_rfl
theorem litsTd {d : Nat} {a0 : Int} {a1 : ByteArray} {a2 : ByteArray} {a3 : ByteArray} {a4 : Int} {a5 : Int} (h0 : (Lit.int .i64 a0).wf = true) (h1 : a1.size ≤ maxLen) (h2 : a2.size ≤ maxLen) (h3 : a3.size ≤ maxLen) (h4 : (Lit.int .i64 a4).wf = true) (h5 : (Lit.int .i64 a5).wf = true) : Tryz.prog.keyLits (d + 2) 61 [.int .i64 a0, .string a1, .string a2, .string a3, .int .i64 a4, .int .i64 a5] = some [.int .i64 a0, .string a1.data.toList, .string a2.data.toList, .string a3.data.toList, .int .i64 a4, .int .i64 a5] := by
  unfold Program.keyLits
  simp only [Tryz.underlying61]
  simp [cellsTd, cellsL, cellsU, cellsS, litsL h0, litsS h1, litsS h2, litsS h3, litsL h4, litsL h5]
theorem eqTd {a0 : Int} {a1 : ByteArray} {a2 : ByteArray} {a3 : ByteArray} {a4 : Int} {a5 : Int} {b0 : Int} {b1 : ByteArray} {b2 : ByteArray} {b3 : ByteArray} {b4 : Int} {b5 : Int} (h0 : (Lit.int .i64 a0).wf = true) (h1 : a1.size ≤ maxLen) (h2 : a2.size ≤ maxLen) (h3 : a3.size ≤ maxLen) (h4 : (Lit.int .i64 a4).wf = true) (h5 : (Lit.int .i64 a5).wf = true) (g0 : (Lit.int .i64 b0).wf = true) (g1 : b1.size ≤ maxLen) (g2 : b2.size ≤ maxLen) (g3 : b3.size ≤ maxLen) (g4 : (Lit.int .i64 b4).wf = true) (g5 : (Lit.int .i64 b5).wf = true) (w : World) :
    (Op.equal 61 (.agg #[.int .i64 a0, .string a1, .string a2, .string a3, .int .i64 a4, .int .i64 a5]) (.agg #[.int .i64 b0, .string b1, .string b2, .string b3, .int .i64 b4, .int .i64 b5])).run Tryz.prog w = .ok (decide (a0 = b0 ∧ a1 = b1 ∧ a2 = b2 ∧ a3 = b3 ∧ a4 = b4 ∧ a5 = b5)) w := by
  obtain ⟨r, hr, hiff⟩ := run_equalIn_deep (P := Tryz.prog) 9998 2 61 (by kernel_rfl) w 3 3 (.agg #[.int .i64 a0, .string a1, .string a2, .string a3, .int .i64 a4, .int .i64 a5]) (.agg #[.int .i64 b0, .string b1, .string b2, .string b3, .int .i64 b4, .int .i64 b5]) _ _ (by kernel_rfl) (by kernel_rfl) (litsTd h0 h1 h2 h3 h4 h5) (litsTd g0 g1 g2 g3 g4 g5)
  have e : r = decide (a0 = b0 ∧ a1 = b1 ∧ a2 = b2 ∧ a3 = b3 ∧ a4 = b4 ∧ a5 = b5) := by
    cases r
    · symm; refine decide_eq_false fun hh => ?_
      obtain ⟨rfl, rfl, rfl, rfl, rfl, rfl⟩ := hh
      have := hiff.2 rfl; cases this
    · symm; refine decide_eq_true ?_
      have := hiff.1 rfl
      simpa [strEq, strEq2] using this
  rw [← e]; exact hr
theorem guardTd {x y : Operand} {a b : Array Value} (op : BinOp) (w : World) : (eqGuard op 61 x y (.agg a) (.agg b)).run Tryz.prog w = .ok () w := by
  have hd : Tryz.prog.eqGuardType Tryz.prog.depth 61 = false := by kernel_rfl
  unfold eqGuard
  cases op <;> simp [go_sem, hd]
section
variable {L : List HP} {E : List (Nat × Value)} {x y : Operand} {yT : TypeId} {a0 : Int} {a1 : ByteArray} {a2 : ByteArray} {a3 : ByteArray} {a4 : Int} {a5 : Int} {b0 : Int} {b1 : ByteArray} {b2 : ByteArray} {b3 : ByteArray} {b4 : Int} {b5 : Int}
instance rd_neqTd [ex : Ev E x (.agg #[.int .i64 a0, .string a1, .string a2, .string a3, .int .i64 a4, .int .i64 a5])] [ey : Ev E y (.agg #[.int .i64 b0, .string b1, .string b2, .string b3, .int .i64 b4, .int .i64 b5])] [p0 : W64 a0] [p1 : SmS a1] [p2 : SmS a2] [p3 : SmS a3] [p4 : W64 a4] [p5 : W64 a5] [q0 : W64 b0] [q1 : SmS b1] [q2 : SmS b2] [q3 : SmS b3] [q4 : W64 b4] [q5 : W64 b5] :
    Rd Tryz.prog L E (.binOp .neq 61 x y yT) (.bool (!decide (a0 = b0 ∧ a1 = b1 ∧ a2 = b2 ∧ a3 = b3 ∧ a4 = b4 ∧ a5 = b5))) := ⟨fun N D A w r _ d ty pos af g => by
  simp [execOp, ex.h N D A r, ey.h N D A r, binOp, Sem.run_bind, guardTd, eqTd p0.h p1.h p2.h p3.h p4.h p5.h q0.h q1.h q2.h q3.h q4.h q5.h, Result.andThen]⟩
instance rd_eqlTd [ex : Ev E x (.agg #[.int .i64 a0, .string a1, .string a2, .string a3, .int .i64 a4, .int .i64 a5])] [ey : Ev E y (.agg #[.int .i64 b0, .string b1, .string b2, .string b3, .int .i64 b4, .int .i64 b5])] [p0 : W64 a0] [p1 : SmS a1] [p2 : SmS a2] [p3 : SmS a3] [p4 : W64 a4] [p5 : W64 a5] [q0 : W64 b0] [q1 : SmS b1] [q2 : SmS b2] [q3 : SmS b3] [q4 : W64 b4] [q5 : W64 b5] :
    Rd Tryz.prog L E (.binOp .eql 61 x y yT) (.bool (decide (a0 = b0 ∧ a1 = b1 ∧ a2 = b2 ∧ a3 = b3 ∧ a4 = b4 ∧ a5 = b5))) := ⟨fun N D A w r _ d ty pos af g => by
  simp [execOp, ex.h N D A r, ey.h N D A r, binOp, Sem.run_bind, guardTd, eqTd p0.h p1.h p2.h p3.h p4.h p5.h q0.h q1.h q2.h q3.h q4.h q5.h, Result.andThen]⟩
end
theorem cellsRt : Tryz.prog.cellsOf 36 = 6 := by kernel_rfl
theorem litsRt {d : Nat} {a0 : Int} {a1 : ByteArray} {a2 : ByteArray} {a3 : ByteArray} {a4 : Int} {a5 : Int} (h0 : (Lit.int .i64 a0).wf = true) (h1 : a1.size ≤ maxLen) (h2 : a2.size ≤ maxLen) (h3 : a3.size ≤ maxLen) (h4 : (Lit.int .i64 a4).wf = true) (h5 : (Lit.int .i64 a5).wf = true) : Tryz.prog.keyLits (d + 2) 36 [.int .i64 a0, .string a1, .string a2, .string a3, .int .i64 a4, .int .i64 a5] = some [.int .i64 a0, .string a1.data.toList, .string a2.data.toList, .string a3.data.toList, .int .i64 a4, .int .i64 a5] := by
  unfold Program.keyLits
  simp only [Tryz.underlying36]
  simp [cellsRt, cellsL, cellsU, cellsS, litsL h0, litsS h1, litsS h2, litsS h3, litsL h4, litsL h5]
theorem eqRt {a0 : Int} {a1 : ByteArray} {a2 : ByteArray} {a3 : ByteArray} {a4 : Int} {a5 : Int} {b0 : Int} {b1 : ByteArray} {b2 : ByteArray} {b3 : ByteArray} {b4 : Int} {b5 : Int} (h0 : (Lit.int .i64 a0).wf = true) (h1 : a1.size ≤ maxLen) (h2 : a2.size ≤ maxLen) (h3 : a3.size ≤ maxLen) (h4 : (Lit.int .i64 a4).wf = true) (h5 : (Lit.int .i64 a5).wf = true) (g0 : (Lit.int .i64 b0).wf = true) (g1 : b1.size ≤ maxLen) (g2 : b2.size ≤ maxLen) (g3 : b3.size ≤ maxLen) (g4 : (Lit.int .i64 b4).wf = true) (g5 : (Lit.int .i64 b5).wf = true) (w : World) :
    (Op.equal 36 (.agg #[.int .i64 a0, .string a1, .string a2, .string a3, .int .i64 a4, .int .i64 a5]) (.agg #[.int .i64 b0, .string b1, .string b2, .string b3, .int .i64 b4, .int .i64 b5])).run Tryz.prog w = .ok (decide (a0 = b0 ∧ a1 = b1 ∧ a2 = b2 ∧ a3 = b3 ∧ a4 = b4 ∧ a5 = b5)) w := by
  obtain ⟨r, hr, hiff⟩ := run_equalIn_deep (P := Tryz.prog) 9998 2 36 (by kernel_rfl) w 3 3 (.agg #[.int .i64 a0, .string a1, .string a2, .string a3, .int .i64 a4, .int .i64 a5]) (.agg #[.int .i64 b0, .string b1, .string b2, .string b3, .int .i64 b4, .int .i64 b5]) _ _ (by kernel_rfl) (by kernel_rfl) (litsRt h0 h1 h2 h3 h4 h5) (litsRt g0 g1 g2 g3 g4 g5)
  have e : r = decide (a0 = b0 ∧ a1 = b1 ∧ a2 = b2 ∧ a3 = b3 ∧ a4 = b4 ∧ a5 = b5) := by
    cases r
    · symm; refine decide_eq_false fun hh => ?_
      obtain ⟨rfl, rfl, rfl, rfl, rfl, rfl⟩ := hh
      have := hiff.2 rfl; cases this
    · symm; refine decide_eq_true ?_
      have := hiff.1 rfl
      simpa [strEq, strEq2] using this
  rw [← e]; exact hr
theorem guardRt {x y : Operand} {a b : Array Value} (op : BinOp) (w : World) : (eqGuard op 36 x y (.agg a) (.agg b)).run Tryz.prog w = .ok () w := by
  have hd : Tryz.prog.eqGuardType Tryz.prog.depth 36 = false := by kernel_rfl
  unfold eqGuard
  cases op <;> simp [go_sem, hd]
section
variable {L : List HP} {E : List (Nat × Value)} {x y : Operand} {yT : TypeId} {a0 : Int} {a1 : ByteArray} {a2 : ByteArray} {a3 : ByteArray} {a4 : Int} {a5 : Int} {b0 : Int} {b1 : ByteArray} {b2 : ByteArray} {b3 : ByteArray} {b4 : Int} {b5 : Int}
instance rd_neqRt [ex : Ev E x (.agg #[.int .i64 a0, .string a1, .string a2, .string a3, .int .i64 a4, .int .i64 a5])] [ey : Ev E y (.agg #[.int .i64 b0, .string b1, .string b2, .string b3, .int .i64 b4, .int .i64 b5])] [p0 : W64 a0] [p1 : SmS a1] [p2 : SmS a2] [p3 : SmS a3] [p4 : W64 a4] [p5 : W64 a5] [q0 : W64 b0] [q1 : SmS b1] [q2 : SmS b2] [q3 : SmS b3] [q4 : W64 b4] [q5 : W64 b5] :
    Rd Tryz.prog L E (.binOp .neq 36 x y yT) (.bool (!decide (a0 = b0 ∧ a1 = b1 ∧ a2 = b2 ∧ a3 = b3 ∧ a4 = b4 ∧ a5 = b5))) := ⟨fun N D A w r _ d ty pos af g => by
  simp [execOp, ex.h N D A r, ey.h N D A r, binOp, Sem.run_bind, guardRt, eqRt p0.h p1.h p2.h p3.h p4.h p5.h q0.h q1.h q2.h q3.h q4.h q5.h, Result.andThen]⟩
instance rd_eqlRt [ex : Ev E x (.agg #[.int .i64 a0, .string a1, .string a2, .string a3, .int .i64 a4, .int .i64 a5])] [ey : Ev E y (.agg #[.int .i64 b0, .string b1, .string b2, .string b3, .int .i64 b4, .int .i64 b5])] [p0 : W64 a0] [p1 : SmS a1] [p2 : SmS a2] [p3 : SmS a3] [p4 : W64 a4] [p5 : W64 a5] [q0 : W64 b0] [q1 : SmS b1] [q2 : SmS b2] [q3 : SmS b3] [q4 : W64 b4] [q5 : W64 b5] :
    Rd Tryz.prog L E (.binOp .eql 36 x y yT) (.bool (decide (a0 = b0 ∧ a1 = b1 ∧ a2 = b2 ∧ a3 = b3 ∧ a4 = b4 ∧ a5 = b5))) := ⟨fun N D A w r _ d ty pos af g => by
  simp [execOp, ex.h N D A r, ey.h N D A r, binOp, Sem.run_bind, guardRt, eqRt p0.h p1.h p2.h p3.h p4.h p5.h q0.h q1.h q2.h q3.h q4.h q5.h, Result.andThen]⟩
end
theorem cellsRw : Tryz.prog.cellsOf 109 = 2 := by kernel_rfl
theorem litsRw {d : Nat} {a0 : ByteArray} {a1 : Int} (h0 : a0.size ≤ maxLen) (h1 : (Lit.int .i64 a1).wf = true) : Tryz.prog.keyLits (d + 2) 109 [.string a0, .int .i64 a1] = some [.string a0.data.toList, .int .i64 a1] := by
  unfold Program.keyLits
  simp only [Tryz.underlying109]
  simp [cellsRw, cellsL, cellsU, cellsS, litsS h0, litsL h1]
theorem eqRw {a0 : ByteArray} {a1 : Int} {b0 : ByteArray} {b1 : Int} (h0 : a0.size ≤ maxLen) (h1 : (Lit.int .i64 a1).wf = true) (g0 : b0.size ≤ maxLen) (g1 : (Lit.int .i64 b1).wf = true) (w : World) :
    (Op.equal 109 (.agg #[.string a0, .int .i64 a1]) (.agg #[.string b0, .int .i64 b1])).run Tryz.prog w = .ok (decide (a0 = b0 ∧ a1 = b1)) w := by
  obtain ⟨r, hr, hiff⟩ := run_equalIn_deep (P := Tryz.prog) 9998 2 109 (by kernel_rfl) w 3 3 (.agg #[.string a0, .int .i64 a1]) (.agg #[.string b0, .int .i64 b1]) _ _ (by kernel_rfl) (by kernel_rfl) (litsRw h0 h1) (litsRw g0 g1)
  have e : r = decide (a0 = b0 ∧ a1 = b1) := by
    cases r
    · symm; refine decide_eq_false fun hh => ?_
      obtain ⟨rfl, rfl⟩ := hh
      have := hiff.2 rfl; cases this
    · symm; refine decide_eq_true ?_
      have := hiff.1 rfl
      simpa [strEq, strEq2] using this
  rw [← e]; exact hr
theorem guardRw {x y : Operand} {a b : Array Value} (op : BinOp) (w : World) : (eqGuard op 109 x y (.agg a) (.agg b)).run Tryz.prog w = .ok () w := by
  have hd : Tryz.prog.eqGuardType Tryz.prog.depth 109 = false := by kernel_rfl
  unfold eqGuard
  cases op <;> simp [go_sem, hd]
section
variable {L : List HP} {E : List (Nat × Value)} {x y : Operand} {yT : TypeId} {a0 : ByteArray} {a1 : Int} {b0 : ByteArray} {b1 : Int}
instance rd_neqRw [ex : Ev E x (.agg #[.string a0, .int .i64 a1])] [ey : Ev E y (.agg #[.string b0, .int .i64 b1])] [p0 : SmS a0] [p1 : W64 a1] [q0 : SmS b0] [q1 : W64 b1] :
    Rd Tryz.prog L E (.binOp .neq 109 x y yT) (.bool (!decide (a0 = b0 ∧ a1 = b1))) := ⟨fun N D A w r _ d ty pos af g => by
  simp [execOp, ex.h N D A r, ey.h N D A r, binOp, Sem.run_bind, guardRw, eqRw p0.h p1.h q0.h q1.h, Result.andThen]⟩
instance rd_eqlRw [ex : Ev E x (.agg #[.string a0, .int .i64 a1])] [ey : Ev E y (.agg #[.string b0, .int .i64 b1])] [p0 : SmS a0] [p1 : W64 a1] [q0 : SmS b0] [q1 : W64 b1] :
    Rd Tryz.prog L E (.binOp .eql 109 x y yT) (.bool (decide (a0 = b0 ∧ a1 = b1))) := ⟨fun N D A w r _ d ty pos af g => by
  simp [execOp, ex.h N D A r, ey.h N D A r, binOp, Sem.run_bind, guardRw, eqRw p0.h p1.h q0.h q1.h, Result.andThen]⟩
end
theorem cellsRr : Tryz.prog.cellsOf 156 = 2 := by kernel_rfl
theorem litsRr {d : Nat} {a0 : ByteArray} {a1 : Int} (h0 : a0.size ≤ maxLen) (h1 : (Lit.int .i64 a1).wf = true) : Tryz.prog.keyLits (d + 2) 156 [.string a0, .int .i64 a1] = some [.string a0.data.toList, .int .i64 a1] := by
  unfold Program.keyLits
  simp only [Tryz.underlying156]
  simp [cellsRr, cellsL, cellsU, cellsS, litsS h0, litsL h1]
theorem eqRr {a0 : ByteArray} {a1 : Int} {b0 : ByteArray} {b1 : Int} (h0 : a0.size ≤ maxLen) (h1 : (Lit.int .i64 a1).wf = true) (g0 : b0.size ≤ maxLen) (g1 : (Lit.int .i64 b1).wf = true) (w : World) :
    (Op.equal 156 (.agg #[.string a0, .int .i64 a1]) (.agg #[.string b0, .int .i64 b1])).run Tryz.prog w = .ok (decide (a0 = b0 ∧ a1 = b1)) w := by
  obtain ⟨r, hr, hiff⟩ := run_equalIn_deep (P := Tryz.prog) 9998 2 156 (by kernel_rfl) w 3 3 (.agg #[.string a0, .int .i64 a1]) (.agg #[.string b0, .int .i64 b1]) _ _ (by kernel_rfl) (by kernel_rfl) (litsRr h0 h1) (litsRr g0 g1)
  have e : r = decide (a0 = b0 ∧ a1 = b1) := by
    cases r
    · symm; refine decide_eq_false fun hh => ?_
      obtain ⟨rfl, rfl⟩ := hh
      have := hiff.2 rfl; cases this
    · symm; refine decide_eq_true ?_
      have := hiff.1 rfl
      simpa [strEq, strEq2] using this
  rw [← e]; exact hr
theorem guardRr {x y : Operand} {a b : Array Value} (op : BinOp) (w : World) : (eqGuard op 156 x y (.agg a) (.agg b)).run Tryz.prog w = .ok () w := by
  have hd : Tryz.prog.eqGuardType Tryz.prog.depth 156 = false := by kernel_rfl
  unfold eqGuard
  cases op <;> simp [go_sem, hd]
section
variable {L : List HP} {E : List (Nat × Value)} {x y : Operand} {yT : TypeId} {a0 : ByteArray} {a1 : Int} {b0 : ByteArray} {b1 : Int}
instance rd_neqRr [ex : Ev E x (.agg #[.string a0, .int .i64 a1])] [ey : Ev E y (.agg #[.string b0, .int .i64 b1])] [p0 : SmS a0] [p1 : W64 a1] [q0 : SmS b0] [q1 : W64 b1] :
    Rd Tryz.prog L E (.binOp .neq 156 x y yT) (.bool (!decide (a0 = b0 ∧ a1 = b1))) := ⟨fun N D A w r _ d ty pos af g => by
  simp [execOp, ex.h N D A r, ey.h N D A r, binOp, Sem.run_bind, guardRr, eqRr p0.h p1.h q0.h q1.h, Result.andThen]⟩
instance rd_eqlRr [ex : Ev E x (.agg #[.string a0, .int .i64 a1])] [ey : Ev E y (.agg #[.string b0, .int .i64 b1])] [p0 : SmS a0] [p1 : W64 a1] [q0 : SmS b0] [q1 : W64 b1] :
    Rd Tryz.prog L E (.binOp .eql 156 x y yT) (.bool (decide (a0 = b0 ∧ a1 = b1))) := ⟨fun N D A w r _ d ty pos af g => by
  simp [execOp, ex.h N D A r, ey.h N D A r, binOp, Sem.run_bind, guardRr, eqRr p0.h p1.h q0.h q1.h, Result.andThen]⟩
end
end Go.Proofs

set_option linter.all false
set_option maxRecDepth 20000
set_option synthInstance.maxSize 100000
set_option synthInstance.maxHeartbeats 400000
namespace Go.Proofs
open Go Go.SL

/-! ### structs of numbers and texts are compared -/
section
variable {L : List HP} {E : List (Nat × Value)} {x y : Operand} {yT : TypeId} {s : ByteArray} {h1 l1 h2 l2 : Int}
end
end Go.Proofs

set_option linter.all false
set_option synthInstance.maxSize 100000
namespace Go.SL
open Go Go.Proofs
section sl
variable {P : Program} {L : List HP} {E : List (Nat × Value)}
theorem not64 (n : Int) : ((BitVec.ofInt 64 (-1)) ^^^ (BitVec.ofInt 64 n)).toNat = (18446744073709551615 - n % 18446744073709551616).toNat := by
  have h : BitVec.ofInt 64 (-1) = BitVec.allOnes 64 := by decide
  rw [h, BitVec.allOnes_xor, BitVec.toNat_not, BitVec.toNat_ofInt]
  omega
theorem not64u (n : Int) : ((BitVec.ofInt 64 18446744073709551615) ^^^ (BitVec.ofInt 64 n)).toNat = (18446744073709551615 - n % 18446744073709551616).toNat := by
  have h : BitVec.ofInt 64 18446744073709551615 = BitVec.allOnes 64 := by decide
  rw [h, BitVec.allOnes_xor, BitVec.toNat_not, BitVec.toNat_ofInt]
  omega
instance rd_not_i {T : TypeId} {x : Operand} {n : Int} [ex : Ev E x (.int .i64 n)] : Rd P L E (.unOp .xor T x) (.int .i64 (IntKind.i64.wrap (((18446744073709551615 - n % 18446744073709551616).toNat : Nat) : Int))) := ⟨fun N D A w r _ d ty pos af g => by
  have : Op.unary .xor (.int .i64 n) = pure (.int .i64 (IntKind.i64.wrap (((18446744073709551615 - n % 18446744073709551616).toNat : Nat) : Int))) := by
    show Op.intBits .xor .i64 (-1) n = _
    unfold Op.intBits
    show pure (Value.int .i64 (IntKind.i64.wrap (((BitVec.ofInt 64 (-1)) ^^^ (BitVec.ofInt 64 n)).toNat : Nat))) = _
    rw [not64]
  simp [execOp, ex.h N D A r, this]⟩
instance rd_not_u {T : TypeId} {x : Operand} {n : Int} [ex : Ev E x (.int .u64 n)] : Rd P L E (.unOp .xor T x) (.int .u64 (IntKind.u64.wrap (((18446744073709551615 - n % 18446744073709551616).toNat : Nat) : Int))) := ⟨fun N D A w r _ d ty pos af g => by
  have : Op.unary .xor (.int .u64 n) = pure (.int .u64 (IntKind.u64.wrap (((18446744073709551615 - n % 18446744073709551616).toNat : Nat) : Int))) := by
    show Op.intBits .xor .u64 18446744073709551615 n = _
    unfold Op.intBits
    show pure (Value.int .u64 (IntKind.u64.wrap (((BitVec.ofInt 64 18446744073709551615) ^^^ (BitVec.ofInt 64 n)).toNat : Nat))) = _
    rw [not64u]
  simp [execOp, ex.h N D A r, this]⟩
end sl
end Go.SL

set_option linter.all false
set_option maxRecDepth 20000
set_option synthInstance.maxSize 100000
set_option synthInstance.maxHeartbeats 400000
namespace Go.Proofs
open Go Go.SL
attribute [local irreducible] CCall CO CC CX CD

/-! ### differences and opposites -/
theorem wrap_hi_of (n : Int) : ∃ hv : Int, IntKind.i64.wrap n = hv ∧ -9223372036854775808 ≤ hv ∧ hv ≤ 9223372036854775807 ∧ (hv - n) % 18446744073709551616 = 0 := wrap_hi n
theorem notHi {y : Int} (hy : fitW y) : IntKind.i64.wrap (((18446744073709551615 - wHi y % 18446744073709551616).toNat : Nat) : Int) = wHi (-1 - y) := by
  obtain ⟨hv, e, h1, h2, h3⟩ := wrap_hi_of (((18446744073709551615 - wHi y % 18446744073709551616).toNat : Nat) : Int)
  rw [e]
  unfold fitW at hy
  unfold wHi at h3 ⊢
  omega
theorem notLo {y : Int} : IntKind.u64.wrap (((18446744073709551615 - wLo y % 18446744073709551616).toNat : Nat) : Int) = wLo (-1 - y) := by
  rw [u64_mod]
  unfold wLo
  omega
theorem Minus_spec {L K} {x y : Int} (hx : fitW x) (hy : fitW y) (h : Ht L (K (overV (x - y)))) : Ht L (CCall Tryz.prog 180 [wV x, wV y] K) := by
  refine ccall2 Tryz.func180 rfl (by decide) Tryz.ntmps180 (by rfl) (by decide) ?_
  repeat (refine stp ?_)
  intro c1
  repeat (refine stp ?_)
  intro c2
  repeat (refine stp ?_)
  intro c3
  repeat (refine stp ?_)
  intro c4
  repeat (refine stp ?_)
  refine Ht.conseq (L' := isLong c4 0 :: _) ?_ (fun w t => t)
  refine ladd_spec (b := c4) (T := 0) (z := x) (by omega) hx ?_
  repeat (refine stp ?_)
  rewrite [notHi hy, notLo]
  refine ladd_spec (b := c4) (T := 0 + x) (z := -1 - y) (by unfold fitW at hx; omega) (by unfold fitW at hy ⊢; omega) ?_
  repeat (refine stp ?_)
  refine ladd_spec (b := c4) (T := 0 + x + (-1 - y)) (z := 1) (by unfold fitW at hx hy; omega) (by unfold fitW; omega) ?_
  rewrite [show 0 + x + (-1 - y) + 1 = x - y from by omega]
  repeat (refine stp ?_)
  refine lwide_spec (b := c4) (T := x - y) (by unfold fitW at hx hy; omega) fun z hz hfz => ?_
  repeat (refine stp ?_)
  refine fits_spec ?_
  repeat (refine stp ?_)
  have hh := h
  unfold overV at hh
  have e : (if decide (fitW (x - y)) = true then z else 0) = if fitW (x - y) then x - y else 0 := by
    by_cases hf2 : fitW (x - y)
    · simp [hf2, hz hf2]
    · simp [hf2]
  have e2 : (if decide (fitW (x - y)) = true then (0 : Int) else 4) = if fitW (x - y) then 0 else 4 := by simp
  rewrite [e, e2]
  exact retct rfl (Ht.frm hh)
theorem Opp_spec {L K} {x : Int} (hx : fitW x) (h : Ht L (K (overV (0 - x)))) : Ht L (CCall Tryz.prog 93 [wV x] K) := by
  refine ccall1 Tryz.func93 rfl (by decide) Tryz.ntmps93 (by rfl) (by decide) ?_
  repeat (refine stp ?_)
  intro c1
  repeat (refine stp ?_)
  intro c2
  repeat (refine stp ?_)
  refine Minus_spec (x := 0) (y := x) (by decide) hx ?_
  unfold overV at h ⊢
  repeat (refine stp ?_)
  exact retct rfl (Ht.frm h)
/-- does it fit 64 bits? -/
def fit64 (z : Int) : Prop := -9223372036854775808 ≤ z ∧ z ≤ 9223372036854775807
instance {z : Int} : Decidable (fit64 z) := by unfold fit64; exact inferInstance
def narV (z : Int) : Value := .tuple #[.int .i64 (if fit64 z then z else 0), .int .i64 (if fit64 z then 0 else 4)]
theorem nar_test {z : Int} (hz : fitW z) : (wHi z ≠ (IntKind.i64.wrap (wLo z)).fdiv (2 ^ min 63 IntKind.i64.bits)) ↔ ¬ fit64 z := by
  obtain ⟨hv, e, h1, h2, h3⟩ := wrap_hi (wLo z)
  rw [e, fdiv63 h1 h2]
  unfold fit64 fitW wHi wLo at *
  omega
theorem nar_val {z : Int} (hz : fit64 z) : IntKind.i64.wrap (wLo z) = z := by
  obtain ⟨hv, e, h1, h2, h3⟩ := wrap_hi (wLo z)
  rw [e]
  unfold fit64 wLo at *
  omega
theorem Int_spec {L K} {z : Int} (hz : fitW z) (h : Ht L (K (narV z))) : Ht L (CCall Tryz.prog 249 [wV z] K) := by
  refine ccall1 Tryz.func249 rfl (by decide) Tryz.ntmps249 (by rfl) (by decide) ?_
  unfold narV at h
  repeat (refine stp ?_)
  intro c1
  repeat (refine stp ?_)
  by_cases hf : fit64 z
  · rewrite [decide_eq_false (fun hh => (nar_test hz).1 hh hf)]
    rw [if_pos hf, if_pos hf] at h
    repeat (refine stp ?_)
    rewrite [nar_val hf]
    exact ret2 rfl (Ht.frm h)
  · rewrite [decide_eq_true ((nar_test hz).2 hf)]
    rw [if_neg hf, if_neg hf] at h
    repeat (refine stp ?_)
    exact ret2 rfl (Ht.frm h)
theorem narrow_spec {L K} {z e : Int} (hz : fitW z) (h : Ht L (K (if e = 0 then narV z else .tuple #[.int .i64 0, .int .i64 e]))) : Ht L (CCall Tryz.prog 181 [wV z, .int .i64 e] K) := by
  refine ccall2 Tryz.func181 rfl (by decide) Tryz.ntmps181 (by rfl) (by decide) ?_
  repeat (refine stp ?_)
  intro c1
  repeat (refine stp ?_)
  by_cases he : e = 0
  · rewrite [decide_eq_false (fun hh => hh he)]
    rw [if_pos he] at h
    repeat (refine stp ?_)
    refine Int_spec hz ?_
    unfold narV at h ⊢
    repeat (refine stp ?_)
    exact ret2 rfl (Ht.frm h)
  · rewrite [decide_eq_true he]
    rw [if_neg he] at h
    repeat (refine stp ?_)
    exact ret2 rfl (Ht.frm h)
theorem Sub_spec {L K} {x y : Int} (hx : fit64 x) (hy : fit64 y) (h : Ht L (K (narV (x - y)))) : Ht L (CCall Tryz.prog 94 [.int .i64 x, .int .i64 y] K) := by
  refine ccall2 Tryz.func94 rfl (by decide) Tryz.ntmps94 (by rfl) (by decide) ?_
  have hf : fitW (x - y) := by unfold fit64 at hx hy; unfold fitW; omega
  repeat (refine stp ?_)
  refine Of_spec hx.1 hx.2 ?_
  repeat (refine stp ?_)
  refine Of_spec hy.1 hy.2 ?_
  repeat (refine stp ?_)
  refine Minus_spec (x := x) (y := y) (by unfold fit64 at hx; unfold fitW; omega) (by unfold fit64 at hy; unfold fitW; omega) ?_
  unfold overV
  rewrite [if_pos hf, if_pos hf]
  repeat (refine stp ?_)
  refine narrow_spec (z := x - y) (e := 0) hf ?_
  rewrite [if_pos rfl]
  unfold narV at h ⊢
  repeat (refine stp ?_)
  exact ret2 rfl h
end Go.Proofs

set_option linter.all false
set_option maxRecDepth 20000
set_option synthInstance.maxSize 100000
set_option synthInstance.maxHeartbeats 400000
namespace Go.Proofs
open Go Go.SL
attribute [local irreducible] CCall CO CC CX CD

/-! ### account's sums: a holding, and the total -/
def sFold (rows : List (ByteArray × Int)) (s : Sms) : Sms := rows.foldl (fun s r => sAdd s r.1 r.2 0) s
def sHold (s : Sms) (rows : List (ByteArray × Int)) (c : Int) : Sms := sFold rows (sAdd s noS 0 c)
theorem sAdd_len {s : Sms} {k : ByteArray} {q c : Int} : (sAdd s k q c).2.length = s.2.length + 1 := by unfold sAdd; simp
theorem fold_cnt : ∀ {rows : List (ByteArray × Int)} {s : Sms}, cntQ (sFold rows s).1 ≤ cntQ s.1 + rows.length ∧ (sFold rows s).2.length = s.2.length + rows.length
  | [], s => ⟨Nat.le_refl _, rfl⟩
  | r :: l, s => by
    have h1 := @fold_cnt l (sAdd s r.1 r.2 0)
    have h2 := @cntQ_addQ s.1 r.1 r.2
    have h3 := @sAdd_len s r.1 r.2 0
    rw [show sFold (r :: l) s = sFold l (sAdd s r.1 r.2 0) from rfl, List.length_cons]
    have h4 : (sAdd s r.1 r.2 0).1 = addQ s.1 r.1 r.2 := rfl
    rw [h4] at h1
    omega
theorem sf_take {rows : List (ByteArray × Int)} {s : Sms} {i : Nat} (h : i < rows.length) : sFold (rows.take (i + 1)) s = sAdd (sFold (rows.take i) s) (rows[i]!).1 (rows[i]!).2 0 := by
  unfold sFold
  rw [List.take_succ, getB h, Option.toList_some, List.foldl_append]; rfl
theorem holding_spec {L R K b rv} {s : Option Sms} {rows : List (ByteArray × Int)} {c : Int} [p : Pull (isSm b) L s R] [rs : RdE R encRw rv rows] (hr : rows64 rows) (hc : fitW c) (hl : rows.length ≤ 1000) (h1 : cntQ (smS s).1 ≤ 50000) (h2 : (smS s).2.length ≤ 50000)
    (h : Ht (isSm b (some (sHold (smS s) rows c)) :: R) (K (.tuple #[]))) : Ht L (CCall Tryz.prog 168 [.pointer (some ⟨b, 0, none⟩), hV rv c] K) := by
  have hrs2 : ∀ (M : List HP) [fr : Frm M R], RdS M rv encRw rows := fun M fr => ⟨fun w t => rs.h w (fr.h _ _ t)⟩
  refine Ht.pull p ?_
  refine Ht.know (p := One1 rv) (fun w t => one1_of (rs.h w t.tail)) (fun ov => ?_)
  refine ccall2 Tryz.func168 rfl (by decide) Tryz.ntmps168 (by rfl) (by decide) ?_
  repeat (refine stp ?_)
  intro c3
  repeat (refine stp ?_)
  refine add_spec (s := s) (k := ⟨#[]⟩) (q := 0) (c := c) (by decide) hc (by omega) (by omega) ?_
  rewrite [show sAdd (smS s) ⟨#[]⟩ 0 c = sAdd (smS s) noS 0 c from rfl]
  have hs0 : cntQ (sAdd (smS s) noS 0 c).1 ≤ 50001 := by have := @cntQ_addQ (smS s).1 noS 0; have e : (sAdd (smS s) noS 0 c).1 = addQ (smS s).1 noS 0 := rfl; rw [e]; omega
  have hs1 := @sAdd_len (smS s) noS 0 c
  unfold sHold at h
  obtain ⟨t0, ht0⟩ : ∃ t, sAdd (smS s) noS 0 c = t := ⟨_, rfl⟩
  rw [ht0] at h hs0 hs1
  rewrite [ht0]
  repeat (refine stp ?_)
  refine ht_for rows.length (fun i (_ : Unit) => True) (fun i _ => isSm b (some (sFold (rows.take i) t0)) :: pto c3 (cells [rv, .int .i64 (wHi c), .int .u64 (wLo c)] 55) :: R) (fun i _ => [(13, .int .i64 (i : Int))]) () [13] trivial (fun w t => t) inferInstance ?_
  intro i _ hil _
  dsimp only [List.cons_append, List.nil_append]
  have hfc := @fold_cnt (rows.take i) t0
  rw [List.length_take] at hfc
  repeat (refine stp ?_)
  refine ht_if ?_ ?_ <;> intro hc2 <;> simp only [decide_eq_true_eq, decide_eq_false_iff_not] at hc2
  · have hii : i < rows.length := by omega
    have h6 := hr _ (List.mem_of_getElem? (getB hii))
    repeat (refine stp ?_)
    refine co_index (xs := rows) (by omega) ?_
    intro hbx
    repeat (refine stp ?_)
    intro c5
    repeat (refine stp ?_)
    refine add_spec (s := some (sFold (rows.take i) t0)) (k := (rows[i]!).1) (q := (rows[i]!).2) (c := 0) h6 (by decide) (by show cntQ _ ≤ _; dsimp only [smS, Option.getD]; omega) (by dsimp only [smS, Option.getD]; omega) ?_
    rewrite [show smS (some (sFold (rows.take i) t0)) = sFold (rows.take i) t0 from rfl]
    repeat (refine stp ?_)
    exact ht_next () hii trivial (fun w t => by rw [sf_take hii]; exact (inferInstance : Frm _ _).h _ _ t) (SubE.cons (by rw [IntWalk.i64_in _ (by omega)]; rfl) inferInstance) rfl rfl
  · have ei : i = rows.length := by omega
    subst ei
    rw [List.take_length]
    repeat (refine stp ?_)
    exact end0 rfl (Ht.frm h)
theorem map_nodup {L R : List HP} {r : Nat} {f : SV} {w : World} [p : Pull (mapO mkStr r) L (svals f) R] (t : Sat L w) : (f.map (·.1)).Nodup := by
  obtain ⟨es, clock, _, hm⟩ := mapO_get (p.sat t)
  have := hm.2.1
  unfold svals at this
  rwa [List.map_map] at this
/-- what the total's rows are -/
def RowsOf (m : List (ByteArray × List Int)) (rows : List (ByteArray × Int)) : Prop := Srt rows ∧ ∀ k z, (k, z) ∈ rows ↔ z ≠ 0 ∧ ∃ l, (k, l) ∈ m ∧ l.sum = z
theorem sum64_fit {l : List Int} (hl : l.length ≤ 100000) (h : ∀ q ∈ l, fit64 q) : fitW l.sum := by
  have key : ∀ l : List Int, (∀ q ∈ l, fit64 q) → -9223372036854775808 * (l.length : Int) ≤ l.sum ∧ l.sum ≤ 9223372036854775808 * (l.length : Int) := by
    intro l
    induction l with
    | nil => intro _; simp
    | cons x l ih =>
      intro h
      have h1 := h x List.mem_cons_self
      have h2 := ih fun q hq => h q (List.mem_cons_of_mem _ hq)
      unfold fit64 at h1
      rw [List.sum_cons, List.length_cons]
      push_cast
      omega
  have := key l h
  unfold fitW
  omega
theorem svals_split {lf : SV} {l1 l2 : List (ByteArray × Value)} {q : ByteArray × Value} (h : svals lf = l1 ++ q :: l2) : ∃ a x b, lf = a ++ x :: b ∧ l1 = svals a ∧ q = (x.1, x.2.1) ∧ l2 = svals b := by
  unfold svals at h
  obtain ⟨a, t, h1, h2, h3⟩ := List.map_eq_append_iff.1 h
  obtain ⟨x, b, h4, h5, h6⟩ := List.map_eq_cons_iff.1 h3
  exact ⟨a, x, b, by rw [h1, h4], h2.symm, h5.symm, h6.symm⟩
/-- one entry more -/
theorem RowsOf.skip {m : List (ByteArray × List Int)} {rows : List (ByteArray × Int)} {k : ByteArray} {l : List Int} (h : RowsOf m rows) (hz : l.sum = 0) : RowsOf (m ++ [(k, l)]) rows := by
  refine ⟨h.1, fun j z => ?_⟩
  rw [h.2 j z]
  constructor
  · rintro ⟨h1, u, h2, h3⟩
    exact ⟨h1, u, List.mem_append_left _ h2, h3⟩
  · rintro ⟨h1, u, h2, h3⟩
    rcases List.mem_append.1 h2 with h2 | h2
    · exact ⟨h1, u, h2, h3⟩
    · obtain ⟨rfl, rfl⟩ := Prod.mk.inj (List.mem_singleton.1 h2)
      exact absurd (h3.symm.trans hz) h1
theorem RowsOf.put {m : List (ByteArray × List Int)} {rows : List (ByteArray × Int)} {k : ByteArray} {l : List Int} (h : RowsOf m rows) (hz : l.sum ≠ 0) (hk : k ∉ m.map (·.1)) : RowsOf (m ++ [(k, l)]) (tput k l.sum rows) := by
  refine ⟨tput_srt h.1, fun j z => ?_⟩
  rw [tput_mem h.1]
  constructor
  · rintro (h1 | ⟨h1, h2⟩)
    · obtain ⟨rfl, rfl⟩ := Prod.mk.inj h1
      exact ⟨hz, l, List.mem_append_right _ List.mem_cons_self, rfl⟩
    · obtain ⟨h3, u, h4, h5⟩ := (h.2 j z).1 h1
      exact ⟨h3, u, List.mem_append_left _ h4, h5⟩
  · rintro ⟨h1, u, h2, h3⟩
    rcases List.mem_append.1 h2 with h2 | h2
    · exact .inr ⟨(h.2 j z).2 ⟨h1, u, h2, h3⟩, fun hjk => hk (List.mem_map.2 ⟨(j, u), h2, hjk⟩)⟩
    · obtain ⟨rfl, rfl⟩ := Prod.mk.inj (List.mem_singleton.1 h2)
      exact .inl (by rw [h3])
theorem RowsOf.perm {m m' : List (ByteArray × List Int)} {rows : List (ByteArray × Int)} (h : RowsOf m rows) (p : m.Perm m') : RowsOf m' rows :=
  ⟨h.1, fun k z => by
    rw [h.2 k z]
    constructor
    · rintro ⟨h1, u, h2, h3⟩; exact ⟨h1, u, p.mem_iff.1 h2, h3⟩
    · rintro ⟨h1, u, h2, h3⟩; exact ⟨h1, u, p.mem_iff.2 h2, h3⟩⟩
theorem RowsOf.nil : RowsOf [] [] := ⟨List.Pairwise.nil, fun k z => ⟨fun h => (by cases h), fun ⟨_, _, h, _⟩ => (by cases h)⟩⟩
theorem total_spec {L R K b} {s : Option Sms} [p : Pull (isSm b) L s R] (h1 : ∀ x ∈ (smS s).1, x.2.length ≤ 100000 ∧ ∀ q ∈ x.2, fit64 q) (h2 : (smS s).2.length ≤ 100000) (h3 : ∀ c ∈ (smS s).2, fitW c) (h4 : (smS s).1.length ≤ 100000)
    (hE : (¬ fitW (smS s).2.sum ∨ ∃ x ∈ (smS s).1, ¬ fit64 x.2.sum) → Ht R (K (.tuple #[hV (.slice none 0 0) 0, .int .i64 4])))
    (hG : fitW (smS s).2.sum → (∀ x ∈ (smS s).1, fit64 x.2.sum) → ∀ v rows, One1 v → RowsOf (smS s).1 rows → rows.length ≤ (smS s).1.length → Ht (own encRw 109 v rows :: R) (K (.tuple #[hV v (smS s).2.sum, .int .i64 0]))) :
    Ht L (CCall Tryz.prog 169 [.pointer (some ⟨b, 0, none⟩)] K) := by
  refine Ht.pull p ?_
  cases s with
  | none =>
    show Ht (pto b (cells [.map none, .slice none 0 0] 305) :: R) _
    refine ccall1 Tryz.func169 rfl (by decide) Tryz.ntmps169 (by rfl) (by decide) ?_
    repeat (refine stp ?_)
    intro c2
    repeat (refine stp ?_)
    refine Plus_spec (l := []) (by decide) (fun c hc => (by cases hc)) ?_
    unfold overV
    have hfw : fitW (([] : List Int).sum) := by decide
    have hG := hG hfw (fun x hx => (by cases hx))
    rewrite [if_pos hfw, if_pos hfw]
    obtain ⟨z, hz⟩ : ∃ z, ([] : List Int).sum = z := ⟨_, rfl⟩
    rw [show (smS none).2 = [] from rfl, hz] at hG
    rewrite [hz]
    repeat (refine stp ?_)
    intro c4
    repeat (refine stp ?_)
    refine sl_of (xs := []) (by decide) ?_
    intro bt tv
    rewrite [show sl_ofM [] = [] from rfl]
    refine Ht.know (p := One1 tv) (fun w t => one1_of (own_sat t.tail)) (fun otv => ?_)
    obtain ⟨rows, hrows⟩ : ∃ l : List (ByteArray × Int), l = [] := ⟨_, rfl⟩
    have hrl2 : rows.length ≤ 100 := by rw [hrows]; decide
    have hrws : RowsOf (smS none).1 rows := by rw [hrows]; exact RowsOf.nil
    have hrl3 : rows.length ≤ (smS none).1.length := by rw [hrows]; exact Nat.zero_le _
    rewrite [← hrows]
    repeat (refine stp ?_)
    intro it
    repeat (refine stp ?_)
    refine cc_env (E' := [(33, .pointer (some ⟨it, 0, none⟩)), (6, .pointer (some ⟨bt, 0, none⟩)), (5, .int .i64 0), (4, .pointer (some ⟨c4, 0, none⟩)), (3, .int .i64 0), (2, .pointer (some ⟨c2, 0, none⟩))]) inferInstance ?_
    refine ht_iter (α := Unit) (fun _ => 0) (fun _ => pto it (.mapIter none 0 #[] 0) :: own enc_sl 393 tv rows :: pto bt (cells [tv] 197) :: pto c4 (cells [.int .i64 (wHi z), .int .u64 (wLo z)] 53) :: pto c2 (cells [.slice none 0 0, .int .i64 0, .int .u64 0] 55) :: R) (fun _ => []) () [] (fun w t => (inferInstance : Frm _ _).h _ _ t) inferInstance ?_
    intro _
    dsimp only [List.nil_append]
    repeat (refine stp ?_)
    intro c13
    repeat (refine stp ?_)
    refine sl_each (b := bt) (o := 0) (l := [tv]) (v := tv) (xs := rows) ?_
    intro ce
    repeat (refine stp ?_)
    refine Ht.conseq (L' := own encRw 109 (.slice none 0 0) [] :: _) ?_ (fun w s => own_nil.2 s)
    refine cc_env (E' := [(62, .func (.func 349) #[] #[.pointer (some ⟨ce, 0, none⟩)]), (13, .pointer (some ⟨c13, 0, none⟩)), (3, .int .i64 0), (2, .pointer (some ⟨c2, 0, none⟩))]) inferInstance ?_
    refine ht_rangeFunc (β := Value) rows.length (fun i => [.string (rows[i]!).1, .int .i64 (rows[i]!).2]) (fun _ lv => One1 lv) (fun i lv => own encRw 109 lv (rows.take i) :: pto c13 (cells [lv, .int .i64 (wHi z), .int .u64 (wLo z)] 55) :: pto ce (cells [tv] 195) :: own enc_sl 393 tv rows :: pto bt (cells [tv] 197) :: pto c2 (cells [.slice none 0 0, .int .i64 0, .int .u64 0] 55) :: R) noX
      ⟨_, Tryz.func349, by decide, rfl⟩ (fun _ => rfl) (.slice none 0 0) ⟨rfl⟩ (fun e h s => (inferInstance : Frm _ (own encRw 109 (.slice none 0 0) [] :: pto c13 (cells [(.slice none 0 0), .int .i64 (wHi z), .int .u64 (wLo z)] 55) :: pto ce (cells [tv] 195) :: own enc_sl 393 tv rows :: pto bt (cells [tv] 197) :: pto c2 (cells [.slice none 0 0, .int .i64 0, .int .u64 0] 55) :: R)).h e h s) ?_ ?_ ?_ (fun dd j => ht_noX)
    · intro l A' B' K' hA hy hd hs
      refine sl_iter (b := ce) (v := tv) (xs := rows) (by omega) (fun i hi w s => ?_) hy hd hs
      obtain ⟨lv, _, sx⟩ := hA i hi w s
      exact ⟨(inferInstance : Blk (own encRw 109 lv (rows.take i) :: pto c13 (cells [lv, .int .i64 (wHi z), .int .u64 (wLo z)] 55) :: pto ce (cells [tv] 195) :: own enc_sl 393 tv rows :: pto bt (cells [tv] 197) :: pto c2 (cells [.slice none 0 0, .int .i64 0, .int .u64 0] 55) :: R) ce [tv]).h w sx, (inferInstance : RdS (own encRw 109 lv (rows.take i) :: pto c13 (cells [lv, .int .i64 (wHi z), .int .u64 (wLo z)] 55) :: pto ce (cells [tv] 195) :: own enc_sl 393 tv rows :: pto bt (cells [tv] 197) :: pto c2 (cells [.slice none 0 0, .int .i64 0, .int .u64 0] 55) :: R) tv enc_sl rows).h w sx⟩
    · intro i hi lv olv l dd r' hr hok Q' hnext _
      dsimp only [psE]
      have htl : (rows.take i).length = i := by rw [List.length_take]; omega
      repeat (refine stp ?_)
      refine rf_begin hr hok ?_
      repeat (refine stp ?_)
      intro b3
      repeat (refine stp ?_)
      refine Ht.own_lit encRw (b := b3) (n := 1) (xs := [((rows[i]!).1, (rows[i]!).2)]) rfl rfl (by decide) ?_
      refine co_append (e := encRw) (xs := rows.take i) (ys := [((rows[i]!).1, (rows[i]!).2)]) (by rfl) (by rw [htl]; simp only [List.length_cons, List.length_nil]; omega) (by rw [htl]; simp only [List.length_cons, List.length_nil]; omega) ?_
      intro v3
      refine Ht.one1 (v := v3) ?_
      intro ov3
      rewrite [show rows.take i ++ [((rows[i]!).1, (rows[i]!).2)] = rows.take (i + 1) from by rw [List.take_succ, getB hi]; rfl]
      repeat (refine stp ?_)
      exact cx_env SubE.nil (Ht.frm (hnext v3 [] ov3))
    · intro dd lv olv
      rw [List.take_length]
      repeat (refine stp ?_)
      exact retDct rfl (Ht.frm (hG lv rows olv hrws hrl3))
  | some s =>
    rw [show smS (some s) = s from rfl] at *
    show Ht (isSums b s :: R) _
    refine sm_open fun r f v ov hf => ?_
    refine ccall1 Tryz.func169 rfl (by decide) Tryz.ntmps169 (by rfl) (by decide) ?_
    repeat (refine stp ?_)
    intro c2
    repeat (refine stp ?_)
    refine Plus_spec (l := s.2) (by omega) h3 ?_
    unfold overV
    repeat (refine stp ?_)
    intro c4
    repeat (refine stp ?_)
    by_cases hfw : fitW s.2.sum
    · have hG := hG hfw
      rewrite [if_pos hfw, if_pos hfw]
      repeat (refine stp ?_)
      rewrite [show decide ((0 : Int) ≠ 0) = false from rfl]
      repeat (refine stp ?_)
      refine sl_of (xs := []) (by decide) ?_
      intro bt tv0
      rewrite [show sl_ofM [] = [] from rfl]
      refine Ht.know (p := One1 tv0) (fun w t => one1_of (own_sat t.tail)) (fun otv0 => ?_)
      repeat (refine stp ?_)
      intro it
      refine Ht.know (p := (f.map (·.1)).Nodup) (fun w t => map_nodup (r := r) (f := f) (rangeO_map t)) (fun hnd => ?_)
      repeat (refine stp ?_)
      refine cc_env (E' := [(33, .pointer (some ⟨it, 0, none⟩)), (6, .pointer (some ⟨bt, 0, none⟩)), (5, .int .i64 0), (4, .pointer (some ⟨c4, 0, none⟩)), (3, .int .i64 0), (2, .pointer (some ⟨c2, 0, none⟩))]) inferInstance ?_
      refine ht_iter (α := {x : SV × SV × Value × List (ByteArray × Int) // (x.1 ++ x.2.1).Perm f ∧ RowsOf (snums x.1) x.2.2.2 ∧ (∀ y ∈ snums x.1, fit64 y.2.sum) ∧ x.2.2.2.length ≤ x.1.length ∧ One1 x.2.2.1}) (fun x => x.1.2.1.length)
        (fun x => rangeO mkStr it (r, svals f, svals x.1.2.1, none) :: own enc_sl 393 x.1.2.2.1 x.1.2.2.2 :: pto bt (cells [x.1.2.2.1] 197) :: bigO sown f :: pto c4 (cells [.int .i64 (wHi s.2.sum), .int .u64 (wLo s.2.sum)] 53) :: pto c2 (cells [.slice none 0 0, .int .i64 0, .int .u64 0] 55) :: R)
        (fun x => []) ⟨([], f, tv0, []), by simp, RowsOf.nil, fun y hy => (by cases hy), Nat.le_refl _, otv0⟩ [] (fun w t => (inferInstance : Frm _ _).h _ _ t) inferInstance ?_
      intro ⟨(dn, lf, tv, rows), hp, hrw, hft, hrl, otv⟩
      dsimp only [List.nil_append] at hp hrw hft hrl otv ⊢
      repeat (refine stp ?_)
      refine co_next (mk := mkStr) ?_ ?_
      · intro hl
        have hl0 : lf = [] := by simpa [svals] using hl
        subst hl0
        rw [List.append_nil] at hp
        have hrws : RowsOf s.1 rows := hrw.perm (by rw [← hf]; exact hp.map _)
        have hfit : ∀ x ∈ s.1, fit64 x.2.sum := fun x hx => hft x (by
          rw [← hf] at hx
          exact ((hp.map (fun x : ByteArray × (Value × List Int) => (x.1, x.2.2))).mem_iff).2 hx)
        have hrl2 : rows.length ≤ s.1.length := by
          have e1 := hp.length_eq
          have e2 : f.length = s.1.length := by rw [← hf]; unfold snums; simp
          omega
        repeat (refine stp ?_)
        intro c13
        repeat (refine stp ?_)
        refine sl_each (b := bt) (o := 0) (l := [tv]) (v := tv) (xs := rows) ?_
        intro ce
        repeat (refine stp ?_)
        obtain ⟨z, hz⟩ : ∃ z, s.2.sum = z := ⟨_, rfl⟩
        rw [hz] at hG
        rewrite [hz]
        refine Ht.conseq (L' := own encRw 109 (.slice none 0 0) [] :: _) ?_ (fun w s => own_nil.2 s)
        refine cc_env (E' := [(62, .func (.func 349) #[] #[.pointer (some ⟨ce, 0, none⟩)]), (13, .pointer (some ⟨c13, 0, none⟩)), (3, .int .i64 0), (2, .pointer (some ⟨c2, 0, none⟩))]) inferInstance ?_
        refine ht_rangeFunc (β := Value) rows.length (fun i => [.string (rows[i]!).1, .int .i64 (rows[i]!).2]) (fun _ lv => One1 lv) (fun i lv => own encRw 109 lv (rows.take i) :: pto c13 (cells [lv, .int .i64 (wHi z), .int .u64 (wLo z)] 55) :: pto ce (cells [tv] 195) :: own enc_sl 393 tv rows :: pto bt (cells [tv] 197) :: pto c2 (cells [.slice none 0 0, .int .i64 0, .int .u64 0] 55) :: R) noX
          ⟨_, Tryz.func349, by decide, rfl⟩ (fun _ => rfl) (.slice none 0 0) ⟨rfl⟩ (fun e h s => (inferInstance : Frm _ (own encRw 109 (.slice none 0 0) [] :: pto c13 (cells [(.slice none 0 0), .int .i64 (wHi z), .int .u64 (wLo z)] 55) :: pto ce (cells [tv] 195) :: own enc_sl 393 tv rows :: pto bt (cells [tv] 197) :: pto c2 (cells [.slice none 0 0, .int .i64 0, .int .u64 0] 55) :: R)).h e h s) ?_ ?_ ?_ (fun dd j => ht_noX)
        · intro l A' B' K' hA hy hd hs
          refine sl_iter (b := ce) (v := tv) (xs := rows) (by omega) (fun i hi w s => ?_) hy hd hs
          obtain ⟨lv, _, sx⟩ := hA i hi w s
          exact ⟨(inferInstance : Blk (own encRw 109 lv (rows.take i) :: pto c13 (cells [lv, .int .i64 (wHi z), .int .u64 (wLo z)] 55) :: pto ce (cells [tv] 195) :: own enc_sl 393 tv rows :: pto bt (cells [tv] 197) :: pto c2 (cells [.slice none 0 0, .int .i64 0, .int .u64 0] 55) :: R) ce [tv]).h w sx, (inferInstance : RdS (own encRw 109 lv (rows.take i) :: pto c13 (cells [lv, .int .i64 (wHi z), .int .u64 (wLo z)] 55) :: pto ce (cells [tv] 195) :: own enc_sl 393 tv rows :: pto bt (cells [tv] 197) :: pto c2 (cells [.slice none 0 0, .int .i64 0, .int .u64 0] 55) :: R) tv enc_sl rows).h w sx⟩
        · intro i hi lv olv l dd r' hr hok Q' hnext _
          dsimp only [psE]
          have htl : (rows.take i).length = i := by rw [List.length_take]; omega
          repeat (refine stp ?_)
          refine rf_begin hr hok ?_
          repeat (refine stp ?_)
          intro b3
          repeat (refine stp ?_)
          refine Ht.own_lit encRw (b := b3) (n := 1) (xs := [((rows[i]!).1, (rows[i]!).2)]) rfl rfl (by decide) ?_
          refine co_append (e := encRw) (xs := rows.take i) (ys := [((rows[i]!).1, (rows[i]!).2)]) (by rfl) (by rw [htl]; simp only [List.length_cons, List.length_nil]; omega) (by rw [htl]; simp only [List.length_cons, List.length_nil]; omega) ?_
          intro v3
          refine Ht.one1 (v := v3) ?_
          intro ov3
          rewrite [show rows.take i ++ [((rows[i]!).1, (rows[i]!).2)] = rows.take (i + 1) from by rw [List.take_succ, getB hi]; rfl]
          repeat (refine stp ?_)
          exact cx_env SubE.nil (Ht.frm (hnext v3 [] ov3))
        · intro dd lv olv
          rw [List.take_length]
          repeat (refine stp ?_)
          exact retDct rfl (Ht.frm (hG hfit lv rows olv hrws hrl2))
      · intro l1 q l2 hl
        obtain ⟨a, x, b', rfl, rfl, rfl, rfl⟩ := svals_split hl
        have hq : f.Perm (x :: (dn ++ (a ++ b'))) := hp.symm.trans (by rw [← List.append_assoc, ← List.append_assoc]; exact List.perm_middle)
        have hxf : x ∈ f := hq.mem_iff.2 List.mem_cons_self
        have hxm : (x.1, x.2.2) ∈ s.1 := by rw [← hf]; exact List.mem_map.2 ⟨x, hxf, rfl⟩
        obtain ⟨hx1, hx2⟩ := h1 _ hxm
        dsimp only at hx1 hx2
        have hxw := sum64_fit hx1 hx2
        have hkn : x.1 ∉ (snums dn).map (·.1) := by
          have := (hq.map (·.1)).nodup_iff.1 hnd
          rw [List.map_cons, List.nodup_cons, List.map_append] at this
          intro hmem
          refine this.1 (List.mem_append_left _ ?_)
          unfold snums at hmem
          rwa [List.map_map] at hmem
        have hperm : ((dn ++ [x]) ++ (a ++ b')).Perm f := (by simp : ((dn ++ [x]) ++ (a ++ b')).Perm (x :: (dn ++ (a ++ b')))).trans hq.symm
        have hsn : snums (dn ++ [x]) = snums dn ++ [(x.1, x.2.2)] := by simp [snums]
        have hft2 : fit64 x.2.2.sum → ∀ y ∈ snums (dn ++ [x]), fit64 y.2.sum := fun hz y hy => by
          rw [hsn] at hy
          rcases List.mem_append.1 hy with hy | hy
          · exact hft y hy
          · rw [List.mem_singleton.1 hy]; exact hz
        have hfl : dn.length ≤ 100000 := by
          have e1 := hq.length_eq
          have e2 : f.length = s.1.length := by rw [← hf]; unfold snums; simp
          rw [List.length_cons, List.length_append] at e1
          omega
        repeat (refine stp ?_)
        refine Plus_spec (v := x.2.1) (l := x.2.2) (p := sown_at hxf _ _) (by omega) (fun z hz => by have := hx2 z hz; unfold fit64 at this; unfold fitW; omega) ?_
        unfold overV
        rewrite [if_pos hxw, if_pos hxw]
        repeat (refine stp ?_)
        intro c9
        repeat (refine stp ?_)
        refine Int_spec hxw ?_
        unfold narV
        by_cases h64 : fit64 x.2.2.sum
        · rewrite [if_pos h64, if_pos h64]
          repeat (refine stp ?_)
          by_cases hz : x.2.2.sum ≠ 0
          · rewrite [decide_eq_true hz]
            repeat (refine stp ?_)
            refine sl_put (b := bt) (o := 0) (l := [tv]) (v := tv) (xs := rows) (k := x.1) (u := x.2.2.sum) (fun v' => ⟨[v'], inferInstance⟩) hrw.1 (by omega) (fun v' l' hl' => ?_)
            have e : l' = [v'] := by have := hl'.h.2; simpa using this.symm
            subst e
            refine Ht.know (p := One1 v') (fun w t => one1_of (own_sat t)) (fun otv' => ?_)
            repeat (refine stp ?_)
            exact ht_again ⟨(dn ++ [x], a ++ b', v', tput x.1 x.2.2.sum rows), hperm, by dsimp only; rw [hsn]; exact hrw.put hz hkn, hft2 h64, by dsimp only; rw [List.length_append, List.length_cons, List.length_nil]; have := @tput_len _ _ _ x.1 x.2.2.sum rows; omega, otv'⟩ (by simp) (fun w t => by
              have t2 : Sat (rangeO mkStr it (r, svals f, svals a ++ svals b', some (x.1, x.2.1)) :: own enc_sl 393 v' (tput x.1 x.2.2.sum rows) :: pto bt (cells [v'] 197) :: bigO sown f :: pto c4 (cells [.int .i64 (wHi s.2.sum), .int .u64 (wLo s.2.sum)] 53) :: pto c2 (cells [.slice none 0 0, .int .i64 0, .int .u64 0] 55) :: R) w := (inferInstance : Frm _ _).h _ _ t
              have t3 := rangeO_none t2
              rw [show svals a ++ svals b' = svals (a ++ b') from by simp [svals]] at t3
              exact t3) inferInstance rfl rfl
          · rewrite [decide_eq_false hz]
            repeat (refine stp ?_)
            exact ht_again ⟨(dn ++ [x], a ++ b', tv, rows), hperm, by dsimp only; rw [hsn]; exact hrw.skip (Classical.not_not.1 hz), hft2 h64, by dsimp only; rw [List.length_append, List.length_cons, List.length_nil]; omega, otv⟩ (by simp) (fun w t => by
              have t2 : Sat (rangeO mkStr it (r, svals f, svals a ++ svals b', some (x.1, x.2.1)) :: own enc_sl 393 tv (rows) :: pto bt (cells [tv] 197) :: bigO sown f :: pto c4 (cells [.int .i64 (wHi s.2.sum), .int .u64 (wLo s.2.sum)] 53) :: pto c2 (cells [.slice none 0 0, .int .i64 0, .int .u64 0] 55) :: R) w := (inferInstance : Frm _ _).h _ _ t
              have t3 := rangeO_none t2
              rw [show svals a ++ svals b' = svals (a ++ b') from by simp [svals]] at t3
              exact t3) inferInstance rfl rfl
        · rewrite [if_neg h64, if_neg h64]
          repeat (refine stp ?_)
          exact retct rfl (Ht.frm (hE (.inr ⟨_, hxm, h64⟩)))
    · rewrite [if_neg hfw, if_neg hfw]
      repeat (refine stp ?_)
      rewrite [show decide ((4 : Int) ≠ 0) = true from rfl]
      repeat (refine stp ?_)
      exact retct rfl (Ht.frm (hE (.inl hfw)))
end Go.Proofs

set_option linter.all false
set_option maxRecDepth 20000
set_option synthInstance.maxSize 100000
set_option synthInstance.maxHeartbeats 400000
namespace Go.Proofs
open Go Go.SL
attribute [local irreducible] CCall CO CC CX CD

theorem takeSnoc {α : Type} [Inhabited α] {q : List α} {i : Nat} (hi : i < q.length) : q.take (i + 1) = q.take i ++ [q[i]!] := by
  rw [List.take_add_one, List.getElem?_eq_getElem hi, getElem!_pos q i hi]; rfl
abbrev Bk := ByteArray × (Int × SVy) × (Int × SVy)
@[reducible] def encBk : Enc Bk := ⟨5, fun x => [.string x.1, .bool (decide (x.2.1.1 < 0)), .slice x.2.1.2.1 x.2.1.2.2.1 x.2.1.2.2.2, .bool (decide (x.2.2.1 < 0)), .slice x.2.2.2.1 x.2.2.2.2.1 x.2.2.2.2.2], fun _ => rfl, fun _ v h => by simp at h; rcases h with rfl | rfl | rfl | rfl | rfl <;> rfl⟩
def absB (l : List Bk) : List (ByteArray × Int × Int) := l.map fun x => (x.1, x.2.1.1, x.2.2.1)
def brkOf (X Y : List (ByteArray × Int)) (p : ByteArray × Int) : ByteArray × Int × Int := (p.1, (tfind p.1 X).getD 0, (tfind p.1 Y).getD 0)
def brkL (X Y B : List (ByteArray × Int)) : List (ByteArray × Int × Int) := (B.filter fun p => decide (p.2 ≠ 0)).map (brkOf X Y)
def nzL (x : Ln) : Bool := decide (x.2.1 ≠ 0)
def nilS : SVy := (none, 0, 0)
theorem Ht.pool0 {L : List HP} {G : World → Prop} (h : Ht (bigO pown [(0, nilS)] :: L) G) : Ht L G := fun w s => h w (by
  have s2 : Sat (pown (0, nilS) :: bigO pown ([] ++ []) :: L) w := by
    have : dgI 0 = [] := dg_nil.2 rfl
    unfold pown
    rw [this]
    exact own_nil.2 (bigO_nil.2 s)
  exact (bigO_split (f := pown) (l1 := []) (l2 := []) (x := (0, nilS))).2 s2)
theorem len_pos {sv : SVy} {z : Int} {w : World} (h : SlIn w (svY sv) SL.encI (dgI z)) : sv.2.1 = (dgI z).length := by
  rcases h with ⟨h1, h2⟩ | ⟨a, c, h1, _⟩
  · unfold svY at h1
    injection h1 with e1 e2 e3
    rw [h2]; exact e2
  · unfold svY at h1
    injection h1 with e1 e2 e3
theorem dgI_pos {z : Int} : (0 < ((dgI z).length : Int)) ↔ z ≠ 0 := by
  unfold dgI
  constructor
  · intro h hz
    rw [hz] at h
    have : dg (0 : Int).natAbs = [] := dg_nil.2 rfl
    rw [this] at h; simp at h
  · intro h
    have : dg z.natAbs ≠ [] := fun hh => h (by have := dg_nil.1 hh; omega)
    have := List.length_pos_iff.2 this
    omega
theorem getD_in {ls : List Ln} {P : List (Int × SVy)} (hs : Srt ls) (hp : InP ls P) (h0 : (0, nilS) ∈ P) (k : ByteArray) : (tfind k ls).getD (0, nilS) ∈ P := by
  cases hf : tfind k ls with
  | none => exact h0
  | some p => exact hp _ ((tfind_mem hs).1 hf)
theorem absL_find {ls : List Ln} {k : ByteArray} : (tfind k (absL ls)).getD 0 = ((tfind k ls).getD (0, nilS)).1 := by
  unfold absL
  rw [ktfind_map (fun p : Int × SVy => p.1)]
  cases tfind k ls <;> rfl
end Go.Proofs

set_option linter.all false
set_option maxRecDepth 20000
set_option synthInstance.maxSize 100000
set_option synthInstance.maxHeartbeats 400000
namespace Go.Proofs
open Go Go.SL
attribute [local irreducible] CCall CO CC CX CD

/-! ### rows in order -/
abbrev Rows := List (ByteArray × Int)
theorem srt_of_adj : ∀ {l : Rows}, (∀ i, i + 1 < l.length → KLt.lt (l[i]!).1 (l[i + 1]!).1 = true) → Srt l
  | [], _ => List.Pairwise.nil
  | [x], _ => List.pairwise_singleton _ _
  | x :: y :: l, h => by
    have ht : Srt (y :: l) := srt_of_adj fun i hi => by
      have := h (i + 1) (by simpa using hi)
      simpa using this
    have h0 : KLt.lt x.1 y.1 = true := by simpa using h 0 (by simp)
    refine List.pairwise_cons.2 ⟨fun z hz => ?_, ht⟩
    rcases List.mem_cons.1 hz with rfl | hz
    · exact h0
    · exact KLt.tr _ _ _ h0 ((List.pairwise_cons.1 ht).1 z hz)
theorem adj_of_srt {l : Rows} (h : Srt l) {i : Nat} (hi : i + 1 < l.length) : KLt.lt (l[i]!).1 (l[i + 1]!).1 = true := srt_lt h (Nat.lt_succ_self i) (getB (by omega)) (getB hi)
theorem NSorted_spec {L K v} {l : Rows} [rs : RdE L encRw v l] (hn : l.length ≤ 1000000) (h : ∀ b : Bool, (b = true ↔ Srt l) → Ht L (K (.bool b))) : Ht L (CCall Tryz.prog 146 [v] K) := by
  haveI := rs.toS
  refine Ht.know (p := One1 v) (fun w t => one1_of (rs.h w t)) (fun ov => ?_)
  refine ccall1 Tryz.func146 rfl (by decide) Tryz.ntmps146 (by rfl) (by decide) ?_
  repeat (refine stp ?_)
  refine ht_for (l.length - 1) (fun j (_ : Unit) => ∀ t, t < j → KLt.lt (l[t]!).1 (l[t + 1]!).1 = true) (fun _ _ => L) (fun j _ => [(3, .int .i64 ((j + 1 : Nat) : Int))]) () [3] (fun t ht => absurd ht (by omega)) (fun _ t => t) (SubE.cons rfl inferInstance) ?_
  intro j _ hj hinv
  dsimp only [List.cons_append, List.nil_append]
  repeat (refine stp ?_)
  refine ht_if ?_ ?_ <;> intro hc <;> simp only [decide_eq_true_eq, decide_eq_false_iff_not] at hc
  · repeat (refine stp ?_)
    refine ht_draw Tryz.can146x4 Tryz.mixed (by kernel_rfl) ?_
    repeat (refine stp ?_)
    rewrite [show IntKind.i64.wrap (((j + 1 : Nat) : Int) - 1) = (j : Int) from by rw [IntWalk.i64_in _ (by omega)]; omega]
    refine cd_index (xs := l) (by omega) ?_
    intro hb1 hb2
    repeat (refine stp ?_)
    refine cd_index (xs := l) (by omega) ?_
    intro hb3 hb4
    repeat (refine stp ?_)
    cases hlt : Op.bytesLess (l[j]!).1.toList (l[j + 1]!).1.toList
    · have h2 := h false ⟨fun hh => (by cases hh), fun hs => by
        have := adj_of_srt hs (i := j) (by omega)
        rw [show KLt.lt (l[j]!).1 (l[j + 1]!).1 = Op.bytesLess (l[j]!).1.toList (l[j + 1]!).1.toList from rfl, hlt] at this
        cases this⟩
      rewrite [show (!false) = true from rfl]
      repeat (refine stp ?_)
      exact ret1 rfl h2
    · rewrite [show (!true) = false from rfl]
      repeat (refine stp ?_)
      refine ht_next () (by omega) (fun t ht => ?_) (fun _ t => t) (SubE.cons (by rw [IntWalk.i64_in _ (by omega)]; rfl) inferInstance) rfl rfl
      by_cases htj : t = j
      · rw [htj]; exact hlt
      · exact hinv t (by omega)
  · have h2 := h true ⟨fun _ => srt_of_adj fun i hi => hinv i (by omega), fun _ => rfl⟩
    repeat (refine stp ?_)
    exact ret1 rfl h2
theorem R9Sorted_spec {L K v} {l : Rows} [rs : RdE L encRw v l] (hn : l.length ≤ 1000000) (h : ∀ b : Bool, (b = true ↔ Srt l) → Ht L (K (.bool b))) : Ht L (CCall Tryz.prog 185 [v] K) := by
  haveI := rs.toS
  refine Ht.know (p := One1 v) (fun w t => one1_of (rs.h w t)) (fun ov => ?_)
  refine ccall1 Tryz.func185 rfl (by decide) Tryz.ntmps185 (by rfl) (by decide) ?_
  repeat (refine stp ?_)
  refine ht_for (l.length - 1) (fun j (_ : Unit) => ∀ t, t < j → KLt.lt (l[t]!).1 (l[t + 1]!).1 = true) (fun _ _ => L) (fun j _ => [(3, .int .i64 ((j + 1 : Nat) : Int))]) () [3] (fun t ht => absurd ht (by omega)) (fun _ t => t) (SubE.cons rfl inferInstance) ?_
  intro j _ hj hinv
  dsimp only [List.cons_append, List.nil_append]
  repeat (refine stp ?_)
  refine ht_if ?_ ?_ <;> intro hc <;> simp only [decide_eq_true_eq, decide_eq_false_iff_not] at hc
  · repeat (refine stp ?_)
    refine ht_draw Tryz.can185x4 Tryz.mixed (by kernel_rfl) ?_
    repeat (refine stp ?_)
    rewrite [show IntKind.i64.wrap (((j + 1 : Nat) : Int) - 1) = (j : Int) from by rw [IntWalk.i64_in _ (by omega)]; omega]
    refine cd_index (xs := l) (by omega) ?_
    intro hb1 hb2
    repeat (refine stp ?_)
    refine cd_index (xs := l) (by omega) ?_
    intro hb3 hb4
    repeat (refine stp ?_)
    cases hlt : Op.bytesLess (l[j]!).1.toList (l[j + 1]!).1.toList
    · have h2 := h false ⟨fun hh => (by cases hh), fun hs => by
        have := adj_of_srt hs (i := j) (by omega)
        rw [show KLt.lt (l[j]!).1 (l[j + 1]!).1 = Op.bytesLess (l[j]!).1.toList (l[j + 1]!).1.toList from rfl, hlt] at this
        cases this⟩
      rewrite [show (!false) = true from rfl]
      repeat (refine stp ?_)
      exact ret1 rfl h2
    · rewrite [show (!true) = false from rfl]
      repeat (refine stp ?_)
      refine ht_next () (by omega) (fun t ht => ?_) (fun _ t => t) (SubE.cons (by rw [IntWalk.i64_in _ (by omega)]; rfl) inferInstance) rfl rfl
      by_cases htj : t = j
      · rw [htj]; exact hlt
      · exact hinv t (by omega)
  · have h2 := h true ⟨fun _ => srt_of_adj fun i hi => hinv i (by omega), fun _ => rfl⟩
    repeat (refine stp ?_)
    exact ret1 rfl h2
end Go.Proofs

set_option linter.all false
set_option maxRecDepth 20000
set_option synthInstance.maxSize 100000
set_option synthInstance.maxHeartbeats 400000
namespace Go.Proofs
open Go Go.SL
attribute [local irreducible] CCall CO CC CX CD

/-! ### what a holding is -/
def badR (r : ByteArray × Int) : Bool := decide (r.2 = 0) || decide (r.1 = noS)
def RightP (l : Rows) : Prop := Srt l ∧ ∀ r ∈ l, badR r = false
noncomputable instance {l : Rows} : Decidable (RightP l) := Classical.propDecidable _
theorem badR_spec {L K} {r : ByteArray × Int} (h : Ht L (K (.bool (badR r)))) : Ht L (CCall Tryz.prog 174 [.agg #[.string r.1, .int .i64 r.2]] K) := by
  refine ccall1 Tryz.func174 rfl (by decide) Tryz.ntmps174 (by rfl) (by decide) ?_
  unfold badR at h
  repeat (refine stp ?_)
  intro c1
  repeat (refine stp ?_)
  by_cases h0 : r.2 = 0
  · rewrite [decide_eq_true h0]
    rw [decide_eq_true h0, Bool.true_or] at h
    repeat (refine stp ?_)
    exact ret1 rfl (Ht.frm h)
  · rewrite [decide_eq_false h0]
    rw [decide_eq_false h0, Bool.false_or] at h
    repeat (refine stp ?_)
    exact ret1 rfl (Ht.frm h)
theorem badIdx_spec {L K v} {l : Rows} [rs : RdE L encRw v l] (hn : l.length ≤ 1000000) (h : ∀ b : Bool, (b = false ↔ ∀ r ∈ l, badR r = false) → Ht L (K (.bool b))) : Ht L (CCall Tryz.prog 147 [v, .func (.func 174) #[] #[]] K) := by
  haveI := rs.toS
  refine Ht.know (p := One1 v) (fun w t => one1_of (rs.h w t)) (fun ov => ?_)
  refine ccall2 Tryz.func147 rfl (by decide) Tryz.ntmps147 (by rfl) (by decide) ?_
  repeat (refine stp ?_)
  refine ccall2 Tryz.func218 rfl (by decide) Tryz.ntmps218 (by rfl) (by decide) ?_
  repeat (refine stp ?_)
  refine ht_for l.length (fun i (_ : Unit) => ∀ t, t < i → badR (l[t]!) = false) (fun _ _ => L) (fun i _ => [(8, .int .i64 (i : Int))]) () [8] (fun t ht => absurd ht (by omega)) (fun _ t => t) inferInstance ?_
  intro i _ hi hinv
  dsimp only [List.cons_append, List.nil_append]
  repeat (refine stp ?_)
  refine ht_if ?_ ?_ <;> intro hc <;> simp only [decide_eq_true_eq, decide_eq_false_iff_not] at hc
  · have hii : i < l.length := by omega
    repeat (refine stp ?_)
    refine co_index (xs := l) (by omega) ?_
    intro hb
    repeat (refine stp ?_)
    refine badR_spec (r := l[i]!) ?_
    cases hbad : badR (l[i]!)
    · repeat (refine stp ?_)
      refine ht_next () hii (fun t ht => ?_) (fun _ t => t) (SubE.cons (by rw [IntWalk.i64_in _ (by omega)]; rfl) inferInstance) rfl rfl
      by_cases hti : t = i
      · rw [hti]; exact hbad
      · exact hinv t (by omega)
    · have h2 := h true ⟨fun hh => (by cases hh), fun hh => by rw [hh _ (List.mem_of_getElem? (getB hii))] at hbad; cases hbad⟩
      repeat (refine stp ?_)
      refine ret1 rfl ?_
      repeat (refine stp ?_)
      rewrite [show decide ((0 : Int) ≤ (i : Int)) = true from decide_eq_true (by omega)]
      exact ret1 rfl h2
  · have h2 := h false ⟨fun _ r hr => by
      obtain ⟨j, hj, rfl⟩ := List.mem_iff_getElem.1 hr
      have := hinv j (by omega)
      rwa [getElem!_pos l j hj] at this, fun _ => rfl⟩
    repeat (refine stp ?_)
    refine ret1 rfl ?_
    repeat (refine stp ?_)
    rewrite [show decide ((0 : Int) ≤ -1) = false from rfl]
    exact ret1 rfl h2
theorem ARight_spec {L K rv} {l : Rows} {c : Int} [rs : RdE L encRw rv l] (hn : l.length ≤ 1000000) (h : Ht L (K (.bool (decide (RightP l))))) : Ht L (CCall Tryz.prog 86 [hV rv c] K) := by
  have hrs : ∀ (M : List HP) [fr : Frm M L], RdE M encRw rv l := fun M fr => ⟨fun w t => rs.h w (fr.h _ _ t)⟩
  refine Ht.know (p := One1 rv) (fun w t => one1_of (rs.h w t)) (fun ov => ?_)
  refine ccall1 Tryz.func86 rfl (by decide) Tryz.ntmps86 (by rfl) (by decide) ?_
  repeat (refine stp ?_)
  intro c1
  repeat (refine stp ?_)
  refine NSorted_spec (l := l) hn fun b hb => ?_
  repeat (refine stp ?_)
  cases b
  · rw [decide_eq_false (show ¬ RightP l from fun hh => by have := hb.2 hh.1; cases this)] at h
    repeat (refine stp ?_)
    exact ret1 rfl (Ht.frm h)
  · repeat (refine stp ?_)
    refine badIdx_spec (l := l) hn fun b2 hb2 => ?_
    repeat (refine stp ?_)
    have e : decide (RightP l) = !b2 := by
      cases b2
      · exact decide_eq_true ⟨hb.1 rfl, hb2.1 rfl⟩
      · exact decide_eq_false fun hh => by have := hb2.2 hh.2; cases this
    rw [e] at h
    exact ret1 rfl (Ht.frm h)
end Go.Proofs

set_option linter.all false
set_option maxRecDepth 20000
set_option synthInstance.maxSize 100000
set_option synthInstance.maxHeartbeats 400000
namespace Go.Proofs
open Go Go.SL
attribute [local irreducible] CCall CO CC CX CD

/-! ### sums of holdings -/
/-- a holding: where its rows lie, the rows, the cash -/
abbrev Hd1 := SVy × List (ByteArray × Int) × Int
/-- an instruction: an account's holding -/
abbrev In1 := ByteArray × Hd1
@[reducible] def encHo : Enc Hd1 := ⟨3, fun x => [.slice x.1.1 x.1.2.1 x.1.2.2, .int .i64 (wHi x.2.2), .int .u64 (wLo x.2.2)], fun _ => rfl, fun _ v h => by simp at h; rcases h with rfl | rfl | rfl <;> rfl⟩
@[reducible] def encIn : Enc In1 := ⟨4, fun x => [.string x.1, .slice x.2.1.1 x.2.1.2.1 x.2.1.2.2, .int .i64 (wHi x.2.2.2), .int .u64 (wLo x.2.2.2)], fun _ => rfl, fun _ v h => by simp at h; rcases h with rfl | rfl | rfl | rfl <;> rfl⟩
/-- a right size -/
def HdOk (x : Hd1) : Prop := rows64 x.2.1 ∧ x.2.1.length ≤ 30 ∧ fitW x.2.2
def sAll (l : List Hd1) : Sms := l.foldl (fun s x => sHold s x.2.1 x.2.2) ([], [])
def sAllO (l : List Hd1) : Option Sms := if l.length = 0 then none else some (sAll l)
theorem sAllO_s (l : List Hd1) : smS (sAllO l) = sAll l := by
  unfold sAllO
  split
  · rename_i h
    rw [List.eq_nil_of_length_eq_zero h]; rfl
  · rfl
structure SmOk (s : Sms) (n : Nat) : Prop where
  q : ∀ x ∈ s.1, ∀ q ∈ x.2, fit64 q
  len : s.1.length ≤ n
  cnt : cntQ s.1 ≤ n
  cl : s.2.length ≤ n
  c : ∀ c ∈ s.2, fitW c
theorem mput_mem {m : List (ByteArray × List Int)} {k : ByteArray} {v : List Int} {x : ByteArray × List Int} (h : x ∈ mput m k v) : x = (k, v) ∨ x ∈ m := by
  cases hm : mget m k with
  | none =>
    rw [(mget_none hm).1] at h
    rcases List.mem_append.1 h with h | h
    · exact .inr h
    · exact .inl (List.mem_singleton.1 h)
  | some u =>
    obtain ⟨l1, l2, h1, h2, _⟩ := mget_split hm
    rw [h2] at h
    rw [h1]
    rcases List.mem_append.1 h with h | h
    · exact .inr (List.mem_append_left _ h)
    · rcases List.mem_cons.1 h with h | h
      · exact .inl h
      · exact .inr (List.mem_append_right _ (List.mem_cons_of_mem _ h))
theorem mput_length {m : List (ByteArray × List Int)} {k : ByteArray} {v : List Int} : (mput m k v).length ≤ m.length + 1 := by
  cases hm : mget m k with
  | none => rw [(mget_none hm).1]; simp
  | some u =>
    obtain ⟨l1, l2, h1, h2, _⟩ := mget_split hm
    rw [h2, h1]; simp
theorem mget_memQ {m : List (ByteArray × List Int)} {k : ByteArray} {q : Int} (h : q ∈ (mget m k).getD []) : ∃ x ∈ m, q ∈ x.2 := by
  cases hm : mget m k with
  | none => rw [hm] at h; cases h
  | some u =>
    obtain ⟨l1, l2, h1, h2, _⟩ := mget_split hm
    rw [hm] at h
    exact ⟨(k, u), by rw [h1]; simp, h⟩
theorem SmOk.add {s : Sms} {n : Nat} {k : ByteArray} {q c : Int} (h : SmOk s n) (hq : fit64 q) (hc : fitW c) : SmOk (sAdd s k q c) (n + 1) := by
  have h4 : (sAdd s k q c).1 = addQ s.1 k q := rfl
  have h5 : (sAdd s k q c).2 = s.2 ++ [c] := rfl
  have hl := h.len; have hn := h.cnt; have hcl := h.cl
  refine ⟨?_, ?_, ?_, ?_, ?_⟩
  · rw [h4]
    unfold addQ
    split
    · exact h.q
    · intro x hx y hy
      rcases mput_mem hx with rfl | hx
      · rcases List.mem_append.1 hy with hy | hy
        · obtain ⟨z, hz, hyz⟩ := mget_memQ hy
          exact h.q z hz y hyz
        · rw [List.mem_singleton.1 hy]; exact hq
      · exact h.q x hx y hy
  · rw [h4]
    unfold addQ
    split
    · omega
    · have := @mput_length s.1 k ((mget s.1 k).getD [] ++ [q]); omega
  · rw [h4]; have := @cntQ_addQ s.1 k q; omega
  · rw [h5, List.length_append, List.length_cons, List.length_nil]; omega
  · rw [h5]
    intro x hx
    rcases List.mem_append.1 hx with hx | hx
    · exact h.c x hx
    · rw [List.mem_singleton.1 hx]; exact hc
theorem SmOk.fold : ∀ {rows : List (ByteArray × Int)} {s : Sms} {n : Nat}, SmOk s n → rows64 rows → SmOk (sFold rows s) (n + rows.length)
  | [], s, n, h, _ => h
  | r :: l, s, n, h, hr => by
    have h1 := h.add (k := r.1) (q := r.2) (c := 0) (hr r List.mem_cons_self) (by decide)
    have := @SmOk.fold l _ _ h1 fun x hx => hr x (List.mem_cons_of_mem _ hx)
    rw [List.length_cons, show n + (l.length + 1) = n + 1 + l.length from by omega]
    exact this
theorem SmOk.hold {s : Sms} {n : Nat} {x : Hd1} (h : SmOk s n) (hx : HdOk x) : SmOk (sHold s x.2.1 x.2.2) (n + 31) := by
  have h1 := (h.add (k := noS) (q := 0) (c := x.2.2) (by unfold fit64; decide) hx.2.2).fold hx.1
  have h2 := hx.2.1
  rw [show sHold s x.2.1 x.2.2 = sFold x.2.1 (sAdd s noS 0 x.2.2) from rfl]
  exact ⟨h1.q, by have := h1.len; omega, by have := h1.cnt; omega, by have := h1.cl; omega, h1.c⟩
theorem sAll_ok : ∀ {l : List Hd1} {s : Sms} {n : Nat}, SmOk s n → (∀ x ∈ l, HdOk x) → SmOk (l.foldl (fun s x => sHold s x.2.1 x.2.2) s) (n + 31 * l.length)
  | [], s, n, h, _ => h
  | x :: l, s, n, h, hx => by
    have := @sAll_ok l _ _ (h.hold (hx x List.mem_cons_self)) fun y hy => hx y (List.mem_cons_of_mem _ hy)
    rw [List.length_cons, show n + 31 * (l.length + 1) = n + 31 + 31 * l.length from by omega]
    exact this
theorem SmOk.nil : SmOk ([], []) 0 := ⟨fun x hx => (by cases hx), Nat.le_refl _, Nat.le_refl _, Nat.le_refl _, fun c hc => (by cases hc)⟩
theorem sAll_OK {l : List Hd1} (h : ∀ x ∈ l, HdOk x) : SmOk (sAll l) (31 * l.length) := by
  have := sAll_ok SmOk.nil h
  rwa [Nat.zero_add] at this
theorem sAll_take {l : List Hd1} {i : Nat} (h : i < l.length) : sAll (l.take (i + 1)) = sHold (sAll (l.take i)) (l[i]!).2.1 (l[i]!).2.2 := by
  unfold sAll
  rw [List.take_succ, getB h, Option.toList_some, List.foldl_append]; rfl
theorem cntQ_mem {m : List (ByteArray × List Int)} {x : ByteArray × List Int} (h : x ∈ m) : x.2.length ≤ cntQ m := by
  obtain ⟨l1, l2, rfl⟩ := List.append_of_mem h
  simp [cntQ]; omega
theorem APlus_spec {L K v} {l : List Hd1} [rs : RdE L encHo v l] (hrd : ∀ x ∈ l, RdE L encRw (svY x.1) x.2.1) (hok : ∀ x ∈ l, HdOk x) (hl : l.length ≤ 1000)
    (hA : (∃ x ∈ l, ¬ RightP x.2.1) → Ht L (K (.tuple #[hV (.slice none 0 0) 0, .int .i64 1])))
    (hE : (∀ x ∈ l, RightP x.2.1) → (¬ fitW (sAll l).2.sum ∨ ∃ x ∈ (sAll l).1, ¬ fit64 x.2.sum) → Ht L (K (.tuple #[hV (.slice none 0 0) 0, .int .i64 4])))
    (hG : (∀ x ∈ l, RightP x.2.1) → fitW (sAll l).2.sum → (∀ x ∈ (sAll l).1, fit64 x.2.sum) → ∀ v rows, One1 v → RowsOf (sAll l).1 rows → rows.length ≤ 31 * l.length → Ht (own encRw 109 v rows :: L) (K (.tuple #[hV v (sAll l).2.sum, .int .i64 0]))) :
    Ht L (CCall Tryz.prog 80 [v] K) := by
  haveI := rs.toS
  refine Ht.know (p := One1 v) (fun w t => one1_of (rs.h w t)) (fun ov => ?_)
  refine ccall1 Tryz.func80 rfl (by decide) Tryz.ntmps80 (by rfl) (by decide) ?_
  repeat (refine stp ?_)
  intro c2
  repeat (refine stp ?_)
  intro c4
  repeat (refine stp ?_)
  refine ht_for l.length (fun i (_ : Unit) => ∀ x ∈ l.take i, RightP x.2.1) (fun i _ => isSm c4 (sAllO (l.take i)) :: pto c2 (cells [.slice none 0 0, .int .i64 0, .int .u64 0] 55) :: L) (fun i _ => [(9, .int .i64 (i : Int))]) () [9] (fun x hx => (by cases hx)) (fun w t => t) inferInstance ?_
  intro i _ hil hri
  dsimp only [List.cons_append, List.nil_append]
  have hsm := sAll_OK (l := l.take i) (fun x hx => hok x (List.mem_of_mem_take hx))
  rw [List.length_take] at hsm
  have hc1 := hsm.cnt
  have hc2 := hsm.cl
  repeat (refine stp ?_)
  refine ht_if ?_ ?_ <;> intro hc <;> simp only [decide_eq_true_eq, decide_eq_false_iff_not] at hc
  · have hii : i < l.length := by omega
    have hmem : l[i]! ∈ l := List.mem_of_getElem? (getB hii)
    have hxo := hok _ hmem
    have hrx : ∀ (M : List HP) [fr : Frm M L], RdE M encRw (svY (l[i]!).1) (l[i]!).2.1 := fun M fr => ⟨fun w t => (hrd _ hmem).h w (fr.h _ _ t)⟩
    repeat (refine stp ?_)
    refine co_index (xs := l) (by omega) ?_
    intro hbx
    repeat (refine stp ?_)
    intro c6
    repeat (refine stp ?_)
    refine ARight_spec (rv := svY (l[i]!).1) (l := (l[i]!).2.1) (c := (l[i]!).2.2) (by have := hxo.2.1; omega) ?_
    repeat (refine stp ?_)
    by_cases hR : RightP (l[i]!).2.1
    · rewrite [show (!decide (RightP (l[i]!).2.1)) = false from by rw [decide_eq_true hR]; rfl]
      repeat (refine stp ?_)
      refine holding_spec (rv := svY (l[i]!).1) (s := sAllO (l.take i)) (rows := (l[i]!).2.1) (c := (l[i]!).2.2) hxo.1 hxo.2.2 (by have := hxo.2.1; omega) (by rw [sAllO_s]; omega) (by rw [sAllO_s]; omega) ?_
      rewrite [sAllO_s]
      repeat (refine stp ?_)
      refine ht_next () hii (fun x hx => ?_) (fun w t => ?_) (SubE.cons (by rw [IntWalk.i64_in _ (by omega)]; rfl) inferInstance) rfl rfl
      · rw [List.take_succ, getB hii, Option.toList_some] at hx
        rcases List.mem_append.1 hx with hx | hx
        · exact hri x hx
        · rw [List.mem_singleton.1 hx]; exact hR
      · have e : sAllO (l.take (i + 1)) = some (sHold (sAll (l.take i)) (l[i]!).2.1 (l[i]!).2.2) := by
          unfold sAllO
          rw [if_neg (by rw [List.length_take]; omega), sAll_take hii]
        rw [e]
        exact (inferInstance : Frm _ _).h _ _ t
    · rewrite [show (!decide (RightP (l[i]!).2.1)) = true from by rw [decide_eq_false hR]; rfl]
      repeat (refine stp ?_)
      exact retct rfl (Ht.frm (hA ⟨_, hmem, hR⟩))
  · have ei : i = l.length := by omega
    subst ei
    rw [List.take_length] at hri hsm hc1 hc2 ⊢
    rw [Nat.min_self] at hsm hc1 hc2
    repeat (refine stp ?_)
    refine total_spec (s := sAllO l) (by rw [sAllO_s]; exact fun x hx => ⟨by have := cntQ_mem hx; omega, hsm.q x hx⟩) (by rw [sAllO_s]; omega) (by rw [sAllO_s]; exact hsm.c) (by rw [sAllO_s]; have := hsm.len; omega) ?_ ?_
    · rw [sAllO_s]
      intro hbad
      repeat (refine stp ?_)
      exact retct rfl (Ht.frm (hE hri hbad))
    · rw [sAllO_s]
      intro hf1 hf2 u rows ou hrw hrl
      repeat (refine stp ?_)
      exact retct rfl (Ht.frm (hG hri hf1 hf2 u rows ou hrw (by have := hsm.len; omega)))
end Go.Proofs

set_option linter.all false
set_option maxRecDepth 20000
set_option synthInstance.maxSize 100000
set_option synthInstance.maxHeartbeats 400000
namespace Go.Proofs
open Go Go.SL
attribute [local irreducible] CCall CO CC CX CD

/-! ### products -/
instance : NN 32 := ⟨by decide⟩
theorem trn_lo {z : Int} : (wLo (-1 - z) + 1 + 0) % 18446744073709551616 = wLo (0 - z) := by unfold wLo; omega
theorem notHiU {z : Int} (hz : fitW z) : IntKind.u64.wrap (((18446744073709551615 - (IntKind.u64.wrap (wHi z)) % 18446744073709551616).toNat : Nat) : Int) = wHi (-1 - z) % 18446744073709551616 := by
  rw [u64_mod, u64_mod]
  unfold wHi fitW at *
  omega
theorem trn_hi {z : Int} (hz : fitW (0 - z)) : IntKind.i64.wrap (IntKind.u64.wrap (wHi (-1 - z) % 18446744073709551616 + (wLo (-1 - z) + 1 + 0) / 18446744073709551616)) = wHi (0 - z) := by
  obtain ⟨hv, e, h1, h2, h3⟩ := wrap_hi (IntKind.u64.wrap (wHi (-1 - z) % 18446744073709551616 + (wLo (-1 - z) + 1 + 0) / 18446744073709551616))
  rw [e]
  rw [u64_mod] at h3
  unfold wHi wLo fitW at *
  omega
theorem turned_spec {L K} {z : Int} (hz : fitW (0 - z)) (hz2 : fitW z) (h : Ht L (K (wV (0 - z)))) : Ht L (CCall Tryz.prog 310 [wV z] K) := by
  refine ccall1 Tryz.func310 rfl (by decide) Tryz.ntmps310 (by rfl) (by decide) ?_
  repeat (refine stp ?_)
  intro c1
  repeat (refine stp ?_)
  intro c2
  repeat (refine stp ?_)
  rewrite [notLo]
  refine ⟨by unfold wLo; omega, ?_⟩
  repeat (refine stp ?_)
  rewrite [notHiU hz2, trn_hi hz, trn_lo]
  exact retc rfl (Ht.frm h)
theorem fsize_spec {L K} {x : Int} (hx : fit64 x) (h : Ht L (K (.int .u64 (x.natAbs : Nat)))) : Ht L (CCall Tryz.prog 402 [.int .i64 x] K) := by
  refine ccall1 Tryz.func402 rfl (by decide) Tryz.ntmps402 (by rfl) (by decide) ?_
  unfold fit64 at hx
  repeat (refine stp ?_)
  refine ht_if ?_ ?_ <;> intro hc <;> simp only [decide_eq_true_eq, decide_eq_false_iff_not] at hc
  · repeat (refine stp ?_)
    rewrite [u64_mod, u64_mod, show (0 - x % 18446744073709551616) % 18446744073709551616 = (x.natAbs : Int) from by omega]
    exact ret1 rfl h
  · repeat (refine stp ?_)
    rewrite [u64_mod, show x % 18446744073709551616 = (x.natAbs : Int) from by omega]
    exact ret1 rfl h
theorem maskN (a : Nat) (ha : a < 18446744073709551616) : bAnd .u64 (a : Int) 4294967295 = ((a % 4294967296 : Nat) : Int) := by
  have h1 : (BitVec.ofInt 64 (a : Int)).toNat = a := by
    rw [BitVec.ofInt_natCast, BitVec.toNat_ofNat]; exact Nat.mod_eq_of_lt (by omega)
  have h2 : (BitVec.ofInt 64 (4294967295 : Int)).toNat = 4294967295 := by decide
  have e : a &&& 4294967295 = a % 4294967296 := Nat.and_two_pow_sub_one_eq_mod a 32
  unfold bAnd
  show IntKind.u64.wrap ((BitVec.ofInt 64 (a : Int) &&& BitVec.ofInt 64 4294967295).toNat : Int) = _
  rw [BitVec.toNat_and, h1, h2, e, u64_mod]
  omega
theorem divN (a : Nat) : (a : Int).fdiv (2 ^ min 32 IntKind.u64.bits) = ((a / 4294967296 : Nat) : Int) := by
  rw [show ((2 : Int) ^ min 32 IntKind.u64.bits) = 4294967296 from by decide, Int.fdiv_eq_ediv_of_nonneg _ (by decide)]
  omega
theorem shrN (a : Nat) (ha : a < 18446744073709551616) : (((shr64 (UInt64.ofInt (a : Int)) 32).toNat : Nat) : Int) = ((a / 4294967296 : Nat) : Int) := by
  have e : (UInt64.ofInt (a : Int)).toNat = a := by
    unfold UInt64.ofInt
    rw [UInt64.toNat_ofNat']
    omega
  rw [shr64_toNat, e]
  rfl
theorem mulN (a b : Nat) : (a : Int) * (b : Int) = ((a * b : Nat) : Int) := (Int.natCast_mul a b).symm
theorem addN (a b : Nat) : (a : Int) + (b : Int) = ((a + b : Nat) : Int) := (Int.natCast_add a b).symm
theorem wrapN (a : Nat) (ha : a < 18446744073709551616) : IntKind.u64.wrap (a : Int) = (a : Int) := by rw [u64_mod]; omega
theorem wrapM (a : Nat) : IntKind.u64.wrap (a : Int) = ((a % 18446744073709551616 : Nat) : Int) := by rw [u64_mod]; omega
theorem Mul64_spec {L K} {x y : Nat} (hx : x < 18446744073709551616) (hy : y < 18446744073709551616) (h : Ht L (K (.tuple #[.int .u64 ((x * y / 18446744073709551616 : Nat) : Int), .int .u64 ((x * y % 18446744073709551616 : Nat) : Int)]))) : Ht L (CCall Tryz.prog 401 [.int .u64 (x : Int), .int .u64 (y : Int)] K) := by
  refine ccall2 Tryz.func401 rfl (by decide) Tryz.ntmps401 (by rfl) (by decide) ?_
  obtain ⟨bd, bt, bw, hhi⟩ := Lib.mul64_hi x y hx hy
  have ba := Lib.half_mul_le (a := x / 4294967296) (b := y / 4294967296) (by omega) (by omega)
  have bb := Lib.half_mul_le (a := x / 4294967296) (b := y % 4294967296) (by omega) (by omega)
  have bc := Lib.half_mul_le (a := x % 4294967296) (b := y / 4294967296) (by omega) (by omega)
  have ba' : x / 4294967296 * (y / 4294967296) < 18446744073709551616 := by omega
  have bb' : x / 4294967296 * (y % 4294967296) < 18446744073709551616 := by omega
  have bc' : x % 4294967296 * (y / 4294967296) < 18446744073709551616 := by omega
  have bh1 : x / 4294967296 * (y / 4294967296) + (x / 4294967296 * (y % 4294967296) + x % 4294967296 * (y % 4294967296) / 4294967296) / 4294967296 < 18446744073709551616 := by omega
  have bh : x / 4294967296 * (y / 4294967296) + (x / 4294967296 * (y % 4294967296) + x % 4294967296 * (y % 4294967296) / 4294967296) / 4294967296 + ((x / 4294967296 * (y % 4294967296) + x % 4294967296 * (y % 4294967296) / 4294967296) % 4294967296 + x % 4294967296 * (y / 4294967296)) / 4294967296 < 18446744073709551616 := by omega
  repeat (refine stp ?_)
  simp only [maskN x hx, maskN y hy, divN, mulN, addN, wrapN _ bd, wrapN _ bb', shrN _ bd, wrapN _ bt, maskN _ bt, shrN _ bt, wrapN _ bc', wrapN _ bw, shrN _ bw, wrapN _ ba', wrapN _ bh1, wrapN _ bh, wrapM (x * y)]
  rewrite [hhi]
  exact ret2 rfl h
/-- the product of two narrow ones -/
theorem mul_in {a b : Int} (ha : fit64 a) (hb : fit64 b) : a.natAbs * b.natAbs ≤ 85070591730234615865843651857942052864 := by
  unfold fit64 at ha hb
  have := Nat.mul_le_mul (show a.natAbs ≤ 9223372036854775808 by omega) (show b.natAbs ≤ 9223372036854775808 by omega)
  omega
theorem mul_sgn (a b : Int) : a * b = if decide (a < 0) ≠ decide (b < 0) then 0 - ((a.natAbs * b.natAbs : Nat) : Int) else ((a.natAbs * b.natAbs : Nat) : Int) := by
  rw [Int.natCast_mul]
  by_cases h1 : a < 0 <;> by_cases h2 : b < 0
  · have e1 : (a.natAbs : Int) = -a := by omega
    have e2 : (b.natAbs : Int) = -b := by omega
    simp [h1, h2, e1, e2, Int.neg_mul_neg]
  · have e1 : (a.natAbs : Int) = -a := by omega
    have e2 : (b.natAbs : Int) = b := by omega
    simp [h1, h2, e1, e2, Int.neg_mul]
  · have e1 : (a.natAbs : Int) = a := by omega
    have e2 : (b.natAbs : Int) = -b := by omega
    simp [h1, h2, e1, e2, Int.mul_neg]
  · have e1 : (a.natAbs : Int) = a := by omega
    have e2 : (b.natAbs : Int) = b := by omega
    simp [h1, h2, e1, e2]
theorem Times_spec {L K} {a b : Int} (ha : fit64 a) (hb : fit64 b) (h : Ht L (K (wV (a * b)))) : Ht L (CCall Tryz.prog 396 [.int .i64 a, .int .i64 b] K) := by
  refine ccall2 Tryz.func396 rfl (by decide) Tryz.ntmps396 (by rfl) (by decide) ?_
  have hm := mul_in ha hb
  obtain ⟨m, em⟩ : ∃ m, a.natAbs * b.natAbs = m := ⟨_, rfl⟩
  have hs := mul_sgn a b
  rw [em] at hm hs
  repeat (refine stp ?_)
  intro c1
  repeat (refine stp ?_)
  refine fsize_spec ha ?_
  repeat (refine stp ?_)
  refine fsize_spec hb ?_
  repeat (refine stp ?_)
  refine Mul64_spec (x := a.natAbs) (y := b.natAbs) (by unfold fit64 at ha; omega) (by unfold fit64 at hb; omega) ?_
  rewrite [em]
  have hh : IntKind.i64.wrap (((m / 18446744073709551616 : Nat) : Int)) = wHi (m : Int) := by
    unfold wHi
    rw [IntWalk.i64_in _ (by omega)]; omega
  have hlo : (((m % 18446744073709551616 : Nat) : Int)) = wLo (m : Int) := by unfold wLo; omega
  have hfm : fitW (m : Int) := by unfold fitW; omega
  have hfn : fitW (0 - (m : Int)) := by unfold fitW; omega
  repeat (refine stp ?_)
  intro c2
  rewrite [hh, hlo]
  repeat (refine stp ?_)
  by_cases hsg : decide (a < 0) ≠ decide (b < 0)
  · rw [if_pos hsg] at hs
    rewrite [decide_eq_true hsg]
    rw [hs] at h
    repeat (refine stp ?_)
    refine turned_spec hfn hfm ?_
    repeat (refine stp ?_)
    exact retc rfl (Ht.frm h)
  · rw [if_neg hsg] at hs
    rewrite [decide_eq_false hsg]
    rw [hs] at h
    repeat (refine stp ?_)
    exact retc rfl (Ht.frm h)
end Go.Proofs

set_option linter.all false
namespace Go.Proofs
open Go

/-! ### decimal texts -/
/-- the decimal digits of a number, the lowest first; none of 0 -/
def dL (n : Nat) : List UInt8 := if h : n = 0 then [] else UInt8.ofNat (48 + n % 10) :: dL (n / 10)
termination_by n
decreasing_by omega
theorem dL_zero : dL 0 = [] := by rw [dL]; rfl
theorem dL_step {n : Nat} (h : n ≠ 0) : dL n = UInt8.ofNat (48 + n % 10) :: dL (n / 10) := by rw [dL, dif_neg h]
/-- a number's text -/
def decL (n : Nat) : List UInt8 := if n = 0 then [48] else (dL n).reverse
def decS (z : Int) : List UInt8 := (if z < 0 then [45] else []) ++ decL z.natAbs
theorem dL_len : ∀ (k n : Nat), n < 10 ^ k → (dL n).length ≤ k
  | 0, n, h => by
    have : n = 0 := by simpa using h
    rw [this, dL_zero]; exact Nat.le_refl 0
  | k + 1, n, h => by
    by_cases h0 : n = 0
    · rw [h0, dL_zero]; exact Nat.zero_le _
    · rw [dL_step h0, List.length_cons]
      have := dL_len k (n / 10) (by rw [Nat.pow_succ] at h; omega)
      omega
/-- the first digit comes always -/
def dG (n : Nat) : List UInt8 := UInt8.ofNat (48 + n % 10) :: dL (n / 10)
theorem dG_rev {n : Nat} : (dG n).reverse = decL n := by
  unfold decL
  by_cases h : n = 0
  · rw [if_pos h, h]
    unfold dG
    rw [show 0 / 10 = 0 from rfl, dL_zero]; rfl
  · rw [if_neg h, dL_step h]; rfl
/-! ### a quotient by 10 of two words, as math/bits.Div64 computes it -/
theorem div10 {hi lo : Nat} (h : hi < 10) (hl : lo < 18446744073709551616) :
    let u := hi * 1152921504606846976 + lo / 16
    let v := (u % 2684354560) * 4294967296 + (lo % 16) * 268435456
    (u / 2684354560) * 4294967296 + v / 2684354560 = (hi * 18446744073709551616 + lo) / 10 ∧ (v % 2684354560) / 268435456 = (hi * 18446744073709551616 + lo) % 10
      ∧ u / 2684354560 < 4294967296 ∧ v / 2684354560 < 4294967296 ∧ v < 18446744073709551616 ∧ u < 18446744073709551616 := by
  intro u v
  omega
/-! ### digits to the base 65536, divided by 10 from the highest on -/
structure DivI (xs ys : List Int) (k : Nat) (r : Int) : Prop where
  len : ys.length = xs.length
  low : ys.take k = xs.take k
  hi : InD (ys.drop k)
  r0 : 0 ≤ r
  r9 : r < 10
  eq : vl xs = vl (xs.take k) + bp k * (10 * vl (ys.drop k) + r)
theorem DivI.init {xs : List Int} : DivI xs xs xs.length 0 :=
  ⟨rfl, rfl, by rw [List.drop_length]; exact InD.nil, by decide, by decide, by rw [List.take_length, List.drop_length]; simp [vl]⟩
theorem DivI.at {xs ys : List Int} {k : Nat} {r : Int} (h : DivI xs ys (k + 1) r) (hk : k < xs.length) : ys[k]! = xs[k]! := by
  have hl := h.len
  have e := h.low
  have e1 : (ys.take (k + 1))[k]? = (xs.take (k + 1))[k]? := by rw [e]
  rw [List.getElem?_take_of_lt (by omega), List.getElem?_take_of_lt (by omega)] at e1
  rw [getElem!_def, getElem!_def, e1]
theorem DivI.step {xs ys : List Int} {k : Nat} {r : Int} (h : DivI xs ys (k + 1) r) (hk : k < xs.length) (hx : InD xs) : DivI xs (ys.set k ((r * 65536 + xs[k]!) / 10)) k ((r * 65536 + xs[k]!) % 10) := by
  have hl := h.len
  have h0 := h.r0
  have h9 := h.r9
  have hd := hx xs[k]! (by rw [getElem!_pos xs k hk]; exact List.getElem_mem hk)
  have ed : (ys.set k ((r * 65536 + xs[k]!) / 10)).drop k = ((r * 65536 + xs[k]!) / 10) :: ys.drop (k + 1) := by
    rw [List.drop_eq_getElem_cons (by rw [List.length_set]; omega)]
    congr 1
    · simp
    · exact List.drop_set_of_lt (by omega)
  refine ⟨by rw [List.length_set]; exact hl, ?_, ?_, by omega, by omega, ?_⟩
  · rw [List.take_set_of_le (Nat.le_refl k)]
    have e := h.low
    have := congrArg (List.take k) e
    rwa [List.take_take, List.take_take, Nat.min_eq_left (by omega)] at this
  · rw [ed]
    intro x hxm
    rcases List.mem_cons.1 hxm with rfl | hxm
    · omega
    · exact h.hi x hxm
  · rw [ed, h.eq, vl_take_step hk, bp_succ]
    show _ = _ + bp k * (10 * ((r * 65536 + xs[k]!) / 10 + 65536 * vl (ys.drop (k + 1))) + (r * 65536 + xs[k]!) % 10)
    have e : 10 * ((r * 65536 + xs[k]!) / 10 + 65536 * vl (ys.drop (k + 1))) + (r * 65536 + xs[k]!) % 10 = xs[k]! + 65536 * (10 * vl (ys.drop (k + 1)) + r) := by omega
    rw [e]
    generalize 10 * vl (ys.drop (k + 1)) + r = Y
    rw [Int.mul_add, Int.mul_left_comm, Int.mul_assoc, Int.add_assoc]
theorem DivI.fin {m : Nat} {ys : List Int} {r : Int} (h : DivI (dg m) ys 0 r) : strip ys = dg (m / 10) ∧ r = ((m % 10 : Nat) : Int) := by
  have e := h.eq
  have hi := h.hi
  rw [List.drop_zero] at e hi
  have hb : bp 0 = 1 := rfl
  rw [dg_vl, List.take_zero, hb] at e
  have hv0 : vl [] = 0 := rfl
  rw [hv0] at e
  have h0 := h.r0
  have h9 := h.r9
  have hp := (vl_in hi).1
  refine ⟨?_, by omega⟩
  rw [strip_dg hi]
  congr 1
  omega
theorem decL_pos {m : Nat} (h : m ≠ 0) : decL m = (dL m).reverse := if_neg h
theorem dL_ne {m : Nat} (h : m ≠ 0) : dL m ≠ [] := by rw [dL_step h]; simp
end Go.Proofs

set_option linter.all false
set_option maxRecDepth 20000
set_option synthInstance.maxSize 100000
set_option synthInstance.maxHeartbeats 400000
namespace Go.Proofs
open Go Go.SL
attribute [local irreducible] CCall CO CC CX CD

/-! ### math/bits.Div64 by 10 -/
theorem len10 {L K} (h : Ht L (K (.int .i64 4))) : Ht L (CCall Tryz.prog 232 [.int .u64 10] K) := by
  refine ccall1 Tryz.func232 rfl (by decide) Tryz.ntmps232 (by rfl) (by decide) ?_
  repeat (refine stp ?_)
  rewrite [show decide ((4294967296 : Int) ≤ 10) = false from rfl]
  repeat (refine stp ?_)
  rewrite [show decide ((65536 : Int) ≤ 10) = false from rfl]
  repeat (refine stp ?_)
  rewrite [show decide ((256 : Int) ≤ 10) = false from rfl]
  repeat (refine stp ?_)
  rewrite [show IntKind.u8.wrap 10 = 10 from rfl]
  refine co_strIdx (of_decide_eq_true (by kernel_rfl)) ?_
  repeat (refine stp ?_)
  have e : ∀ x : Int, x = 4 → Ht L (K (.int .i64 x)) := fun x e => e ▸ h
  exact ret1 rfl (e _ (by kernel_rfl))
theorem lz10 {L K} (h : Ht L (K (.int .i64 60))) : Ht L (CCall Tryz.prog 311 [.int .u64 10] K) := by
  refine ccall1 Tryz.func311 rfl (by decide) Tryz.ntmps311 (by rfl) (by decide) ?_
  repeat (refine stp ?_)
  refine len10 ?_
  repeat (refine stp ?_)
  rewrite [show IntKind.i64.wrap (64 - 4) = 60 from rfl]
  exact ret1 rfl h
theorem ofI64n (x : Int) : ((UInt64.ofInt x).toNat : Int) = x % 18446744073709551616 := by
  rw [← u64_wrap_ofInt]
  simp only [IntKind.wrap, IntKind.signed, IntKind.bits, Bool.false_and, Bool.false_eq_true, if_false]
  rfl
theorem bOr_nat {a b : Nat} (ha : a < 18446744073709551616) (hb : b < 18446744073709551616) : bOr .u64 (a : Int) (b : Int) = ((a ||| b : Nat) : Int) := by
  have h1 : a ||| b < 2 ^ 64 := Nat.or_lt_two_pow ha hb
  unfold bOr
  have e : (BitVec.ofInt IntKind.u64.bits (a : Int) ||| BitVec.ofInt IntKind.u64.bits (b : Int)).toNat = a ||| b := by
    rw [BitVec.toNat_or, BitVec.ofInt_natCast, BitVec.ofInt_natCast, BitVec.toNat_ofNat, BitVec.toNat_ofNat]
    show a % 2 ^ 64 ||| b % 2 ^ 64 = _
    rw [Nat.mod_eq_of_lt ha, Nat.mod_eq_of_lt hb]
  rw [e, IntWalk.u64_in _ (by omega)]
theorem bAnd_nat {a b : Nat} (ha : a < 18446744073709551616) (hb : b < 18446744073709551616) : bAnd .u64 (a : Int) (b : Int) = ((a &&& b : Nat) : Int) := by
  have h1 : a &&& b < 2 ^ 64 := Nat.and_lt_two_pow a hb
  unfold bAnd
  have e : (BitVec.ofInt IntKind.u64.bits (a : Int) &&& BitVec.ofInt IntKind.u64.bits (b : Int)).toNat = a &&& b := by
    rw [BitVec.toNat_and, BitVec.ofInt_natCast, BitVec.ofInt_natCast, BitVec.toNat_ofNat, BitVec.toNat_ofNat]
    show a % 2 ^ 64 &&& b % 2 ^ 64 = _
    rw [Nat.mod_eq_of_lt ha, Nat.mod_eq_of_lt hb]
  rw [e, IntWalk.u64_in _ (by omega)]
theorem un32_of {hi lo : Nat} (h0 : hi < 10) (h1 : lo < 18446744073709551616) : bOr .u64 (IntKind.u64.wrap ((hi : Int) * 2 ^ min (Int.toNat 60) IntKind.u64.bits)) ((lo : Int).fdiv (2 ^ min 4 IntKind.u64.bits)) = ((hi * 1152921504606846976 + lo / 16 : Nat) : Int) := by
  have e1 : (2 : Int) ^ min (Int.toNat 60) IntKind.u64.bits = 1152921504606846976 := by kernel_rfl
  have e2 : (2 : Int) ^ min 4 IntKind.u64.bits = 16 := by kernel_rfl
  rw [e1, e2, IntWalk.u64_in _ (by omega), Int.fdiv_eq_ediv_of_nonneg _ (by decide), show (hi : Int) * 1152921504606846976 = ((2 ^ 60 * hi : Nat) : Int) from by omega, show (lo : Int) / 16 = ((lo / 16 : Nat) : Int) from by omega, bOr_nat (by omega) (by omega), ← Nat.two_pow_add_eq_or_of_lt (by omega)]
  omega
theorem un10_of {lo : Nat} : IntKind.u64.wrap ((lo : Int) * 2 ^ min (Int.toNat 60) IntKind.u64.bits) = ((lo % 16 * 1152921504606846976 : Nat) : Int) := by
  have e1 : (2 : Int) ^ min (Int.toNat 60) IntKind.u64.bits = 1152921504606846976 := by kernel_rfl
  rw [e1, u64_mod]; omega
theorem un1_of {lo : Nat} : (((shr64 (UInt64.ofInt ((lo : Int) * 2 ^ min (Int.toNat 60) IntKind.u64.bits)) 32).toNat : Nat) : Int) = ((lo % 16 * 268435456 : Nat) : Int) := by
  have e1 : (2 : Int) ^ min (Int.toNat 60) IntKind.u64.bits = 1152921504606846976 := by kernel_rfl
  have e2 := ofI64n ((lo : Int) * 1152921504606846976)
  rw [e1, shr64_toNat, show 2 ^ min 32 64 = 4294967296 from rfl]
  omega
theorem un0_of {lo : Nat} : bAnd .u64 ((lo % 16 * 1152921504606846976 : Nat) : Int) 4294967295 = 0 := by
  rw [show (4294967295 : Int) = ((4294967295 : Nat) : Int) from rfl, bAnd_nat (by omega) (by omega), show 4294967295 = 2 ^ 32 - 1 from rfl, Nat.and_two_pow_sub_one_eq_mod]
  omega
theorem quo_of {u : Nat} (h : u < 18446744073709551616) : IntKind.u64.wrap ((u : Int).tdiv 2684354560) = ((u / 2684354560 : Nat) : Int) := by
  rw [Int.tdiv_eq_ediv_of_nonneg (by omega), IntWalk.u64_in _ (by omega)]; omega
theorem rem_of {u : Nat} (h : u < 18446744073709551616) : IntKind.u64.wrap ((u : Int) - IntKind.u64.wrap (((u / 2684354560 : Nat) : Int) * 2684354560)) = ((u % 2684354560 : Nat) : Int) := by
  rw [IntWalk.u64_in (((u / 2684354560 : Nat) : Int) * 2684354560) (by omega), IntWalk.u64_in _ (by omega)]; omega
theorem un21_of {u q r c y : Int} (hu : u = q * 2684354560 + r) (hy : y = 2684354560 * 4294967296) (h0 : 0 ≤ r * 4294967296 + c) (h1 : r * 4294967296 + c < 18446744073709551616) :
    IntKind.u64.wrap (IntKind.u64.wrap (IntKind.u64.wrap (u * 4294967296) + c) - IntKind.u64.wrap (q * y)) = r * 4294967296 + c := by
  rw [u64_mod, u64_mod, u64_mod, u64_mod, ← Int.sub_emod, Int.add_sub_assoc, Int.emod_add_emod]
  have e : u * 4294967296 + (c - q * y) = r * 4294967296 + c := by
    rw [hu, hy, Int.add_mul, Int.mul_assoc]; omega
  rw [e, Int.emod_eq_of_lt h0 h1]
theorem no_more {a q : Int} : decide (IntKind.u64.wrap a < IntKind.u64.wrap (q * 0)) = false := by
  rw [Int.mul_zero, u64_mod, u64_mod]
  exact decide_eq_false (by have := Int.emod_nonneg a (show (18446744073709551616 : Int) ≠ 0 by decide); omega)
theorem shr60 {x : Int} {r : Nat} (hr : r < 2684354560) (h : IntKind.u64.wrap x = (r : Int) * 4294967296 + 0) : (((shr64 (UInt64.ofInt x) (Int.toNat 60)).toNat : Nat) : Int) = ((r / 268435456 : Nat) : Int) := by
  rw [u64_mod] at h
  have e := ofI64n x
  rw [shr64_toNat, show 2 ^ min (Int.toNat 60) 64 = 1152921504606846976 from by kernel_rfl]
  omega
theorem Div10_spec {L K} {hi lo : Nat} (h0 : hi < 10) (h1 : lo < 18446744073709551616)
    (h : Ht L (K (.tuple #[.int .u64 (((hi * 18446744073709551616 + lo) / 10 : Nat) : Int), .int .u64 (((hi * 18446744073709551616 + lo) % 10 : Nat) : Int)]))) : Ht L (CCall Tryz.prog 251 [.int .u64 (hi : Int), .int .u64 (lo : Int), .int .u64 10] K) := by
  haveI : NZ 10 := ⟨by decide⟩
  haveI : NZ 2684354560 := ⟨by decide⟩
  haveI : NN 60 := ⟨by decide⟩
  haveI : NN 4 := ⟨by decide⟩
  haveI : NN 32 := ⟨by decide⟩
  refine ccall3 Tryz.func251 rfl (by decide) Tryz.ntmps251 (by rfl) (by decide) ?_
  repeat (refine stp ?_)
  rewrite [show decide ((10 : Int) ≤ (hi : Int)) = false from decide_eq_false (by omega)]
  repeat (refine stp ?_)
  refine ht_if ?_ ?_ <;> intro hz <;> simp only [decide_eq_true_eq, decide_eq_false_iff_not] at hz
  · obtain rfl : hi = 0 := by omega
    repeat (refine stp ?_)
    refine ht_draw Tryz.can251x6 Tryz.mixed (by kernel_rfl) ?_
    repeat (refine stp ?_)
    rewrite [show (lo : Int).tmod 10 = (((0 * 18446744073709551616 + lo) % 10 : Nat) : Int) from by rw [Int.tmod_eq_emod_of_nonneg (by omega)]; omega, show IntKind.u64.wrap ((lo : Int).tdiv 10) = (((0 * 18446744073709551616 + lo) / 10 : Nat) : Int) from by rw [Int.tdiv_eq_ediv_of_nonneg (by omega), IntWalk.u64_in _ (by omega)]; omega]
    exact ret2 rfl h
  · obtain ⟨d1, d2, d3, d4, d5, d6⟩ := div10 h0 h1
    have e32 := un32_of h0 h1
    obtain ⟨u, hu⟩ : ∃ u, hi * 1152921504606846976 + lo / 16 = u := ⟨_, rfl⟩
    rw [hu] at e32 d1 d2 d3 d4 d5 d6
    repeat (refine stp ?_)
    refine lz10 ?_
    repeat (refine stp ?_)
    rewrite [show IntKind.u64.wrap 60 = 60 from rfl]
    repeat (refine stp ?_)
    rewrite [show bAnd IntKind.u64 (IntKind.u64.wrap (10 * 2 ^ min (Int.toNat 60) IntKind.u64.bits)) 4294967295 = 0 from by kernel_rfl, show (((shr64 (UInt64.ofInt (10 * 2 ^ min (Int.toNat 60) IntKind.u64.bits)) 32).toNat : Nat) : Int) = 2684354560 from by kernel_rfl, show IntKind.u64.wrap (10 * 2 ^ min (Int.toNat 60) IntKind.u64.bits) = 11529215046068469760 from by kernel_rfl, show IntKind.u64.wrap (64 - 60) = 4 from rfl]
    repeat (refine stp ?_)
    rewrite [e32, un1_of, un10_of, un0_of]
    clear e32 hu
    rewrite [quo_of d6, rem_of d6]
    obtain ⟨q1, hq1⟩ : ∃ q, u / 2684354560 = q := ⟨_, rfl⟩
    obtain ⟨r1, hr1⟩ : ∃ q, u % 2684354560 = q := ⟨_, rfl⟩
    rw [hq1, hr1] at d1 
    rw [hr1] at d2 d4 d5
    rw [hq1] at d3
    rewrite [hq1, hr1]
    obtain ⟨v, hv⟩ : ∃ v, r1 * 4294967296 + lo % 16 * 268435456 = v := ⟨_, rfl⟩
    rw [hv] at d1 d2 d4 d5
    have e21 : IntKind.u64.wrap (IntKind.u64.wrap (IntKind.u64.wrap ((u : Int) * 4294967296) + ((lo % 16 * 268435456 : Nat) : Int)) - IntKind.u64.wrap ((q1 : Int) * 11529215046068469760)) = (v : Int) := by
      rw [@un21_of (u : Int) (q1 : Int) (r1 : Int) ((lo % 16 * 268435456 : Nat) : Int) 11529215046068469760 (by omega) (by decide) (by omega) (by omega)]
      omega
    have hr1l : r1 < 2684354560 := by omega
    refine cc_env (E' := [(15, .int .u64 (q1 : Int)), (16, .int .u64 (r1 : Int)), (14, .int .u64 0), (13, .int .u64 ((lo % 16 * 268435456 : Nat) : Int)), (11, .int .u64 (u : Int)), (10, .int .u64 0), (9, .int .u64 2684354560), (2, .int .u64 11529215046068469760), (8, .int .u64 60), (6, .int .u64 0), (7, .int .u64 0)]) inferInstance ?_
    refine ht_iter (α := Unit) (fun _ => 0) (fun _ => L) (fun _ => []) () [] (fun w s => s) inferInstance ?_
    intro _
    dsimp only [List.nil_append]
    repeat (refine stp ?_)
    rewrite [show decide ((4294967296 : Int) ≤ (q1 : Int)) = false from decide_eq_false (by omega)]
    repeat (refine stp ?_)
    rewrite [no_more]
    repeat (refine stp ?_)
    rewrite [e21, quo_of d5, rem_of d5]
    obtain ⟨q0, hq0⟩ : ∃ q, v / 2684354560 = q := ⟨_, rfl⟩
    obtain ⟨r0, hr0⟩ : ∃ q, v % 2684354560 = q := ⟨_, rfl⟩
    rw [hq0] at d1 d4
    rw [hr0] at d2
    rewrite [hq0, hr0]
    have e22 := @un21_of (v : Int) (q0 : Int) (r0 : Int) 0 11529215046068469760 (by omega) (by decide) (by omega) (by omega)
    refine cc_env (E' := [(18, .int .u64 (q0 : Int)), (17, .int .u64 (v : Int)), (15, .int .u64 (q1 : Int)), (16, .int .u64 (r0 : Int)), (14, .int .u64 0), (10, .int .u64 0), (9, .int .u64 2684354560), (2, .int .u64 11529215046068469760), (8, .int .u64 60), (6, .int .u64 0), (7, .int .u64 0)]) inferInstance ?_
    refine ht_iter (α := Unit) (fun _ => 0) (fun _ => L) (fun _ => []) () [] (fun w s => s) inferInstance ?_
    intro _
    dsimp only [List.nil_append]
    repeat (refine stp ?_)
    rewrite [show decide ((4294967296 : Int) ≤ (q0 : Int)) = false from decide_eq_false (by omega)]
    repeat (refine stp ?_)
    rewrite [no_more]
    repeat (refine stp ?_)
    have hr0l : r0 < 2684354560 := by omega
    rewrite [shr60 hr0l e22, d2]
    rewrite [show IntKind.u64.wrap (IntKind.u64.wrap ((q1 : Int) * 4294967296) + (q0 : Int)) = (((hi * 18446744073709551616 + lo) / 10 : Nat) : Int) from by rw [← d1, IntWalk.u64_in ((q1 : Int) * 4294967296) (by omega), IntWalk.u64_in _ (by omega)]; omega]
    exact ret2 rfl h
end Go.Proofs

set_option linter.all false
set_option maxRecDepth 20000
set_option synthInstance.maxSize 100000
set_option synthInstance.maxHeartbeats 400000
namespace Go.Proofs
open Go Go.SL
attribute [local irreducible] CCall CO CC CX CD

/-! ### a wide number's text -/
theorem trn_hi2 {z : Int} (hz : fitW z) : IntKind.i64.wrap (IntKind.u64.wrap (wHi (-1 - z) % 18446744073709551616 + (wLo (-1 - z) + 1 + 0) / 18446744073709551616)) = IntKind.i64.wrap (wHi (0 - z)) := by
  obtain ⟨hv, e, h1, h2, h3⟩ := wrap_hi (IntKind.u64.wrap (wHi (-1 - z) % 18446744073709551616 + (wLo (-1 - z) + 1 + 0) / 18446744073709551616))
  obtain ⟨hv2, e2, h12, h22, h32⟩ := wrap_hi (wHi (0 - z))
  rw [e, e2]
  rw [u64_mod] at h3
  unfold wHi wLo fitW at *
  omega
theorem turned_spec2 {L K} {z : Int} (hz2 : fitW z) (h : Ht L (K (.agg #[.int .i64 (IntKind.i64.wrap (wHi (0 - z))), .int .u64 (wLo (0 - z))]))) : Ht L (CCall Tryz.prog 310 [wV z] K) := by
  refine ccall1 Tryz.func310 rfl (by decide) Tryz.ntmps310 (by rfl) (by decide) ?_
  repeat (refine stp ?_)
  intro c1
  repeat (refine stp ?_)
  intro c2
  repeat (refine stp ?_)
  rewrite [notLo]
  refine ⟨by unfold wLo; omega, ?_⟩
  repeat (refine stp ?_)
  rewrite [notHiU hz2, trn_hi2 hz2, trn_lo]
  exact retc rfl (Ht.frm h)
theorem away_hi {z : Int} (hz : fitW z) (h : z < 0) : IntKind.u64.wrap (IntKind.i64.wrap (wHi (0 - z))) = ((z.natAbs / 18446744073709551616 : Nat) : Int) := by
  obtain ⟨hv2, e2, h12, h22, h32⟩ := wrap_hi (wHi (0 - z))
  rw [e2, u64_mod]
  unfold wHi fitW at *
  omega
theorem away_spec {L K} {z : Int} (hz : fitW z) (h : Ht L (K (.tuple #[.int .u64 ((z.natAbs / 18446744073709551616 : Nat) : Int), .int .u64 ((z.natAbs % 18446744073709551616 : Nat) : Int), .bool (decide (z < 0))]))) :
    Ht L (CCall Tryz.prog 250 [wV z] K) := by
  refine ccall1 Tryz.func250 rfl (by decide) Tryz.ntmps250 (by rfl) (by decide) ?_
  repeat (refine stp ?_)
  intro c1
  repeat (refine stp ?_)
  by_cases hn : z < 0
  · rw [decide_eq_true hn] at h
    rewrite [show decide (wHi z < 0) = true from decide_eq_true (by unfold wHi; omega)]
    repeat (refine stp ?_)
    refine turned_spec2 hz ?_
    repeat (refine stp ?_)
    refine ht_draw Tryz.can250x3 Tryz.mixed (by kernel_rfl) ?_
    repeat (refine stp ?_)
    rewrite [away_hi hz hn, show wLo (0 - z) = ((z.natAbs % 18446744073709551616 : Nat) : Int) from by unfold wLo; omega]
    exact ret3 rfl (Ht.frm h)
  · rw [decide_eq_false hn] at h
    rewrite [show decide (wHi z < 0) = false from decide_eq_false (by unfold wHi; omega)]
    repeat (refine stp ?_)
    refine ht_draw Tryz.can250x3 Tryz.mixed (by kernel_rfl) ?_
    repeat (refine stp ?_)
    rewrite [show IntKind.u64.wrap (wHi z) = ((z.natAbs / 18446744073709551616 : Nat) : Int) from by rw [u64_mod]; unfold wHi fitW at *; omega, show wLo z = ((z.natAbs % 18446744073709551616 : Nat) : Int) from by unfold wLo; omega]
    exact ret3 rfl (Ht.frm h)
/-- a list, so many of whose ends have been put round -/
def swp (l : List UInt8) (i : Nat) : List UInt8 := (List.range l.length).map fun j => if j < i ∨ l.length - i ≤ j then l[l.length - 1 - j]! else l[j]!
theorem swp_len {l : List UInt8} {i : Nat} : (swp l i).length = l.length := by unfold swp; simp
theorem swp_at {l : List UInt8} {i j : Nat} (h : j < l.length) : (swp l i)[j]! = if j < i ∨ l.length - i ≤ j then l[l.length - 1 - j]! else l[j]! := by
  rw [getElem!_pos (swp l i) j (by rw [swp_len]; exact h)]
  unfold swp
  simp
theorem swp_zero {l : List UInt8} : swp l 0 = l := by
  apply List.ext_getElem (by rw [swp_len])
  intro j h1 h2
  have := @swp_at l 0 j h2
  rw [getElem!_pos (swp l 0) j h1, if_neg (by omega), getElem!_pos l j h2] at this
  exact this
theorem swp_next {l : List UInt8} {i : Nat} (h : i < l.length - 1 - i) : ((swp l i).set i (l[l.length - 1 - i]!)).set (l.length - 1 - i) (l[i]!) = swp l (i + 1) := by
  apply List.ext_getElem (by simp [swp_len])
  intro j h1 h2
  have hj : j < l.length := by rw [swp_len] at h2; exact h2
  have e1 := @swp_at l i j hj
  have e2 := @swp_at l (i + 1) j hj
  rw [getElem!_pos (swp l i) j (by rw [swp_len]; exact hj)] at e1
  rw [getElem!_pos (swp l (i + 1)) j h2] at e2
  rw [e2, List.getElem_set, List.getElem_set, e1]
  by_cases c1 : l.length - 1 - i = j
  · rw [if_pos c1, if_pos (by omega), ← c1, show l.length - 1 - (l.length - 1 - i) = i from by omega]
  · rw [if_neg c1]
    by_cases c2 : i = j
    · rw [if_pos c2, if_pos (by omega), c2]
    · rw [if_neg c2]
      by_cases c3 : j < i ∨ l.length - i ≤ j
      · rw [if_pos c3, if_pos (by omega)]
      · rw [if_neg c3, if_neg (by omega)]
theorem swp_all {l : List UInt8} {i : Nat} (h : ¬ (i < l.length - 1 - i)) : swp l i = l.reverse := by
  apply List.ext_getElem (by rw [swp_len, List.length_reverse])
  intro j h1 h2
  have hj : j < l.length := by rw [swp_len] at h1; exact h1
  have e1 := @swp_at l i j hj
  rw [getElem!_pos (swp l i) j h1] at e1
  rw [e1, List.getElem_reverse]
  by_cases c3 : j < i ∨ l.length - i ≤ j
  · rw [if_pos c3, getElem!_pos l _ (by omega)]
  · rw [if_neg c3, getElem!_pos l j hj]
    have : l.length - 1 - j = j := by omega
    simp only [this]
theorem dG_len {n : Nat} (h : n < 340282366920938463463374607431768211456) : (dG n).length ≤ 40 := by
  have := dL_len 39 (n / 10) (by omega)
  unfold dG
  rw [List.length_cons]; omega
theorem hl_split {m : Nat} : m / 10 / 18446744073709551616 = m / 18446744073709551616 / 10 ∧ m / 10 % 18446744073709551616 = (m / 18446744073709551616 % 10 * 18446744073709551616 + m % 18446744073709551616) / 10
    ∧ m % 10 = (m / 18446744073709551616 % 10 * 18446744073709551616 + m % 18446744073709551616) % 10 := by omega
theorem digU {d : Nat} (h : d < 10) : IntKind.u8.wrap (IntKind.u64.wrap (48 + (d : Int))) = (((UInt8.ofNat (48 + d)).toNat : Nat) : Int) := by
  rw [IntWalk.u64_in _ (by omega), IntWalk.u8_in _ (by omega)]
  have : (UInt8.ofNat (48 + d)).toNat = 48 + d := UInt8.toNat_ofNat_of_lt (by show 48 + d < 256; omega)
  omega
theorem FText_spec {L K} {z : Int} (hz : fitW z) (h : Ht L (K (.string ⟨(decS z).toArray⟩))) : Ht L (CCall Tryz.prog 172 [wV z] K) := by
  haveI : NZ 10 := ⟨by decide⟩
  refine ccall1 Tryz.func172 rfl (by decide) Tryz.ntmps172 (by rfl) (by decide) ?_
  repeat (refine stp ?_)
  intro c1
  repeat (refine stp ?_)
  refine away_spec hz ?_
  repeat (refine stp ?_)
  obtain ⟨m0, hm0⟩ : ∃ m, z.natAbs = m := ⟨_, rfl⟩
  have hm : m0 < 340282366920938463463374607431768211456 := by unfold fitW at hz; omega
  have hd : decS z = (if z < 0 then [45] else []) ++ (dG m0).reverse := by unfold decS; rw [hm0, dG_rev]
  rewrite [hm0]
  refine cc_env (E' := [(7, .bool true), (6, .slice none 0 0), (5, .bool (decide (z < 0))), (4, .int .u64 ((m0 % 18446744073709551616 : Nat) : Int)), (3, .int .u64 ((m0 / 18446744073709551616 : Nat) : Int)), (2, .string ⟨#[]⟩)]) inferInstance ?_
  refine ht_iter (α := {x : Bool × Nat × Value × List UInt8 // One1 x.2.2.1 ∧ x.2.1 < 340282366920938463463374607431768211456 ∧ (if x.1 = true then x.2.1 = m0 ∧ x.2.2.2 = [] else x.2.2.2 ++ dL x.2.1 = dG m0)}) (fun x => 2 * x.1.2.1 + (if x.1.1 = true then 1 else 0))
    (fun x => own encB 5 x.1.2.2.1 x.1.2.2.2 :: pto c1 (cells [.int .i64 (wHi z), .int .u64 (wLo z)] 53) :: L) (fun x => [(7, .bool x.1.1), (6, x.1.2.2.1), (4, .int .u64 ((x.1.2.1 % 18446744073709551616 : Nat) : Int)), (3, .int .u64 ((x.1.2.1 / 18446744073709551616 : Nat) : Int))])
    ⟨(true, m0, .slice none 0 0, []), ⟨rfl⟩, hm, by rw [if_pos rfl]; exact ⟨rfl, rfl⟩⟩ [7, 6, 4, 3] (fun w s => own_nil.2 s) inferInstance ?_
  intro ⟨(first, m, v, xs), ov, hlt, hx⟩
  dsimp only [List.cons_append, List.nil_append] at ov hlt hx ⊢
  repeat (refine stp ?_)
  have hlen := dG_len hm
  cases first
  · rw [if_neg (by decide)] at hx
    repeat (refine stp ?_)
    have hxl : xs.length ≤ 40 := by rw [← hx, List.length_append] at hlen; omega
    by_cases hmz : m = 0
    · subst hmz
      rw [dL_zero, List.append_nil] at hx
      subst hx
      rewrite [show decide ((0 : Int) < ((0 / 18446744073709551616 : Nat) : Int)) = false from by decide]
      repeat (refine stp ?_)
      rewrite [show decide ((0 : Int) < ((0 % 18446744073709551616 : Nat) : Int)) = false from by decide]
      repeat (refine stp ?_)
      by_cases hn : z < 0
      · rewrite [decide_eq_true hn]
        rw [if_pos hn] at hd
        repeat (refine stp ?_)
        intro b1
        repeat (refine stp ?_)
        rewrite [show (45 : Int) = (((45 : UInt8).toNat : Nat) : Int) from rfl]
        refine Ht.own_lit encB (b := b1) (n := 1) (xs := [45]) rfl rfl (by decide) ?_
        refine co_append (e := encB) (xs := dG m0) (ys := [45]) (by rfl) (by simp only [List.length_cons, List.length_nil]; omega) (by simp only [List.length_cons, List.length_nil]; omega) ?_
        intro v2
        refine Ht.one1 (v := v2) ?_
        intro ov2
        repeat (refine stp ?_)
        have hll : (dG m0 ++ [45]).length ≤ 41 := by first | omega | (simp only [List.length_append, List.length_cons, List.length_nil]; omega)
        have hl0 : 0 < (dG m0 ++ [45]).length := by unfold dG; simp
        have hdl : (dG m0 ++ [45]).reverse = decS z := by rw [hd]; simp
        obtain ⟨l, hl⟩ : ∃ l, l = dG m0 ++ [45] := ⟨_, rfl⟩
        rw [← hl] at hdl hll hl0
        rewrite [← hl]
        rewrite [show IntKind.i64.wrap ((l.length : Int) - 1) = ((l.length - 1 - 0 : Nat) : Int) from by rw [IntWalk.i64_in _ (by omega)]; omega]
        refine Ht.frm (L' := own encB 5 v2 l :: L) ?_
        refine cc_env (E' := [(10, .int .i64 ((l.length - 1 - 0 : Nat) : Int)), (9, .int .i64 0), (6, v2), (2, .string ⟨#[]⟩)]) inferInstance ?_
        refine ht_iter (α := {i : Nat // 2 * i ≤ l.length}) (fun i => l.length - i.1) (fun i => own encB 5 v2 (swp l i.1) :: L) (fun i => [(10, .int .i64 ((l.length - 1 - i.1 : Nat) : Int)), (9, .int .i64 (i.1 : Int))]) ⟨0, by omega⟩ [10, 9] (fun w t => by rw [swp_zero]; exact t) inferInstance ?_
        intro ⟨i, hi⟩
        dsimp only [List.cons_append, List.nil_append] at hi ⊢
        have hsl := @swp_len l i
        repeat (refine stp ?_)
        refine ht_if ?_ ?_ <;> intro hc <;> simp only [decide_eq_true_eq, decide_eq_false_iff_not] at hc
        · repeat (refine stp ?_)
          refine ht_draw Tryz.can172x15 Tryz.mixed (by kernel_rfl) ?_
          repeat (refine stp ?_)
          refine cd_index (xs := swp l i) (by rw [hsl]; omega) ?_
          intro hb1 hb2
          repeat (refine stp ?_)
          refine cd_index (xs := swp l i) (iv := (i : Int)) (by rw [hsl]; omega) ?_
          intro hb3 hb4
          repeat (refine stp ?_)
          have ea : (swp l i)[l.length - 1 - i]! = l[l.length - 1 - i]! := by rw [swp_at (by omega), if_neg (by omega)]
          have eb : (swp l i)[i]! = l[i]! := by rw [swp_at (by omega), if_neg (by omega)]
          rewrite [ea, eb]
          refine co_setEl (e := encB) (el := 5) (l[l.length - 1 - i]!) (by rfl) (by simp) ?_
          repeat (refine stp ?_)
          refine cd_index (xs := (swp l i).set i (l[l.length - 1 - i]!)) (iv := ((l.length - 1 - i : Nat) : Int)) (by rw [List.length_set, hsl]; omega) ?_
          intro hb5 hb6
          repeat (refine stp ?_)
          refine co_setEl (e := encB) (el := 5) (l[i]!) (by rfl) (by simp) ?_
          rewrite [swp_next (by omega)]
          repeat (refine stp ?_)
          exact ht_again ⟨i + 1, by omega⟩ (by dsimp only; omega) (fun w t => (inferInstance : Frm _ _).h _ _ t) (SubE.cons (show Value.int .i64 (IntKind.i64.wrap (((l.length - 1 - i : Nat) : Int) - 1)) = .int .i64 ((l.length - 1 - (i + 1) : Nat) : Int) from by rw [IntWalk.i64_in _ (by omega)]; exact congrArg _ (by omega)) (SubE.cons (by rw [IntWalk.i64_in _ (by omega)]; rfl) inferInstance)) rfl rfl
        · rw [swp_all (by omega), hdl]
          repeat (refine stp ?_)
          exact ret1 rfl (Ht.frm h)
      · rewrite [decide_eq_false hn]
        rw [if_neg hn] at hd
        repeat (refine stp ?_)
        have hll : (dG m0).length ≤ 41 := by first | omega | (simp only [List.length_append, List.length_cons, List.length_nil]; omega)
        have hl0 : 0 < (dG m0).length := by unfold dG; simp
        have hdl : (dG m0).reverse = decS z := by rw [hd]; simp
        obtain ⟨l, hl⟩ : ∃ l, l = dG m0 := ⟨_, rfl⟩
        rw [← hl] at hdl hll hl0
        rewrite [← hl]
        rewrite [show IntKind.i64.wrap ((l.length : Int) - 1) = ((l.length - 1 - 0 : Nat) : Int) from by rw [IntWalk.i64_in _ (by omega)]; omega]
        refine Ht.frm (L' := own encB 5 v l :: L) ?_
        refine cc_env (E' := [(10, .int .i64 ((l.length - 1 - 0 : Nat) : Int)), (9, .int .i64 0), (6, v), (2, .string ⟨#[]⟩)]) inferInstance ?_
        refine ht_iter (α := {i : Nat // 2 * i ≤ l.length}) (fun i => l.length - i.1) (fun i => own encB 5 v (swp l i.1) :: L) (fun i => [(10, .int .i64 ((l.length - 1 - i.1 : Nat) : Int)), (9, .int .i64 (i.1 : Int))]) ⟨0, by omega⟩ [10, 9] (fun w t => by rw [swp_zero]; exact t) inferInstance ?_
        intro ⟨i, hi⟩
        dsimp only [List.cons_append, List.nil_append] at hi ⊢
        have hsl := @swp_len l i
        repeat (refine stp ?_)
        refine ht_if ?_ ?_ <;> intro hc <;> simp only [decide_eq_true_eq, decide_eq_false_iff_not] at hc
        · repeat (refine stp ?_)
          refine ht_draw Tryz.can172x15 Tryz.mixed (by kernel_rfl) ?_
          repeat (refine stp ?_)
          refine cd_index (xs := swp l i) (by rw [hsl]; omega) ?_
          intro hb1 hb2
          repeat (refine stp ?_)
          refine cd_index (xs := swp l i) (iv := (i : Int)) (by rw [hsl]; omega) ?_
          intro hb3 hb4
          repeat (refine stp ?_)
          have ea : (swp l i)[l.length - 1 - i]! = l[l.length - 1 - i]! := by rw [swp_at (by omega), if_neg (by omega)]
          have eb : (swp l i)[i]! = l[i]! := by rw [swp_at (by omega), if_neg (by omega)]
          rewrite [ea, eb]
          refine co_setEl (e := encB) (el := 5) (l[l.length - 1 - i]!) (by rfl) (by simp) ?_
          repeat (refine stp ?_)
          refine cd_index (xs := (swp l i).set i (l[l.length - 1 - i]!)) (iv := ((l.length - 1 - i : Nat) : Int)) (by rw [List.length_set, hsl]; omega) ?_
          intro hb5 hb6
          repeat (refine stp ?_)
          refine co_setEl (e := encB) (el := 5) (l[i]!) (by rfl) (by simp) ?_
          rewrite [swp_next (by omega)]
          repeat (refine stp ?_)
          exact ht_again ⟨i + 1, by omega⟩ (by dsimp only; omega) (fun w t => (inferInstance : Frm _ _).h _ _ t) (SubE.cons (show Value.int .i64 (IntKind.i64.wrap (((l.length - 1 - i : Nat) : Int) - 1)) = .int .i64 ((l.length - 1 - (i + 1) : Nat) : Int) from by rw [IntWalk.i64_in _ (by omega)]; exact congrArg _ (by omega)) (SubE.cons (by rw [IntWalk.i64_in _ (by omega)]; rfl) inferInstance)) rfl rfl
        · rw [swp_all (by omega), hdl]
          repeat (refine stp ?_)
          exact ret1 rfl (Ht.frm h)
    have hgo : dG m0 = xs ++ (UInt8.ofNat (48 + m % 10) :: dL (m / 10)) := by rw [← dL_step hmz]; exact hx.symm
    by_cases hh : 0 < m / 18446744073709551616
    · rewrite [show decide ((0 : Int) < ((m / 18446744073709551616 : Nat) : Int)) = true from decide_eq_true (by omega)]
      repeat (refine stp ?_)
      rewrite [show ((m / 18446744073709551616 : Nat) : Int).tmod 10 = ((m / 18446744073709551616 % 10 : Nat) : Int) from by rw [Int.tmod_eq_emod_of_nonneg (by omega)]; omega, show IntKind.u64.wrap (((m / 18446744073709551616 : Nat) : Int).tdiv 10) = ((m / 10 / 18446744073709551616 : Nat) : Int) from by rw [Int.tdiv_eq_ediv_of_nonneg (by omega), IntWalk.u64_in _ (by omega)]; omega]
      refine Div10_spec (hi := m / 18446744073709551616 % 10) (lo := m % 18446744073709551616) (by omega) (by omega) ?_
      rewrite [← (@hl_split m).2.1, ← (@hl_split m).2.2]
      repeat (refine stp ?_)
      intro b1
      repeat (refine stp ?_)
      rewrite [digU (Nat.mod_lt _ (by decide))]
      refine Ht.own_lit encB (b := b1) (n := 1) (xs := [UInt8.ofNat (48 + m % 10)]) rfl rfl (by decide) ?_
      refine co_append (e := encB) (xs := xs) (ys := [UInt8.ofNat (48 + m % 10)]) (by rfl) (by simp only [List.length_cons, List.length_nil] at *; omega) (by simp only [List.length_cons, List.length_nil] at *; omega) ?_
      intro v2
      refine Ht.one1 (v := v2) ?_
      intro ov2
      repeat (refine stp ?_)
      exact ht_again ⟨(false, m / 10, v2, xs ++ [UInt8.ofNat (48 + m % 10)]), ov2, by dsimp only; omega, by rw [if_neg Bool.false_ne_true]; dsimp only; rw [List.append_assoc]; exact hgo.symm⟩ (by dsimp only; rw [if_neg Bool.false_ne_true]; omega) (fun w t => (inferInstance : Frm _ _).h _ _ t) inferInstance rfl rfl
    · rewrite [show decide ((0 : Int) < ((m / 18446744073709551616 : Nat) : Int)) = false from decide_eq_false (by omega)]
      repeat (refine stp ?_)
      rewrite [show decide ((0 : Int) < ((m % 18446744073709551616 : Nat) : Int)) = true from decide_eq_true (by omega)]
      repeat (refine stp ?_)
      rewrite [show ((m / 18446744073709551616 : Nat) : Int).tmod 10 = ((m / 18446744073709551616 % 10 : Nat) : Int) from by rw [Int.tmod_eq_emod_of_nonneg (by omega)]; omega, show IntKind.u64.wrap (((m / 18446744073709551616 : Nat) : Int).tdiv 10) = ((m / 10 / 18446744073709551616 : Nat) : Int) from by rw [Int.tdiv_eq_ediv_of_nonneg (by omega), IntWalk.u64_in _ (by omega)]; omega]
      refine Div10_spec (hi := m / 18446744073709551616 % 10) (lo := m % 18446744073709551616) (by omega) (by omega) ?_
      rewrite [← (@hl_split m).2.1, ← (@hl_split m).2.2]
      repeat (refine stp ?_)
      intro b1
      repeat (refine stp ?_)
      rewrite [digU (Nat.mod_lt _ (by decide))]
      refine Ht.own_lit encB (b := b1) (n := 1) (xs := [UInt8.ofNat (48 + m % 10)]) rfl rfl (by decide) ?_
      refine co_append (e := encB) (xs := xs) (ys := [UInt8.ofNat (48 + m % 10)]) (by rfl) (by simp only [List.length_cons, List.length_nil] at *; omega) (by simp only [List.length_cons, List.length_nil] at *; omega) ?_
      intro v2
      refine Ht.one1 (v := v2) ?_
      intro ov2
      repeat (refine stp ?_)
      exact ht_again ⟨(false, m / 10, v2, xs ++ [UInt8.ofNat (48 + m % 10)]), ov2, by dsimp only; omega, by rw [if_neg Bool.false_ne_true]; dsimp only; rw [List.append_assoc]; exact hgo.symm⟩ (by dsimp only; rw [if_neg Bool.false_ne_true]; omega) (fun w t => (inferInstance : Frm _ _).h _ _ t) inferInstance rfl rfl
  · rw [if_pos rfl] at hx
    obtain ⟨rfl, rfl⟩ := hx
    have hgo : dG m = [] ++ (UInt8.ofNat (48 + m % 10) :: dL (m / 10)) := rfl
    repeat (refine stp ?_)
    rewrite [show ((m / 18446744073709551616 : Nat) : Int).tmod 10 = ((m / 18446744073709551616 % 10 : Nat) : Int) from by rw [Int.tmod_eq_emod_of_nonneg (by omega)]; omega, show IntKind.u64.wrap (((m / 18446744073709551616 : Nat) : Int).tdiv 10) = ((m / 10 / 18446744073709551616 : Nat) : Int) from by rw [Int.tdiv_eq_ediv_of_nonneg (by omega), IntWalk.u64_in _ (by omega)]; omega]
    refine Div10_spec (hi := m / 18446744073709551616 % 10) (lo := m % 18446744073709551616) (by omega) (by omega) ?_
    rewrite [← (@hl_split m).2.1, ← (@hl_split m).2.2]
    repeat (refine stp ?_)
    intro b1
    repeat (refine stp ?_)
    rewrite [digU (Nat.mod_lt _ (by decide))]
    refine Ht.own_lit encB (b := b1) (n := 1) (xs := [UInt8.ofNat (48 + m % 10)]) rfl rfl (by decide) ?_
    refine co_append (e := encB) (xs := []) (ys := [UInt8.ofNat (48 + m % 10)]) (by rfl) (by simp only [List.length_cons, List.length_nil] at *; omega) (by simp only [List.length_cons, List.length_nil] at *; omega) ?_
    intro v2
    refine Ht.one1 (v := v2) ?_
    intro ov2
    repeat (refine stp ?_)
    exact ht_again ⟨(false, m / 10, v2, [] ++ [UInt8.ofNat (48 + m % 10)]), ov2, by dsimp only; omega, by rw [if_neg Bool.false_ne_true]; dsimp only; rw [List.append_assoc]; exact hgo.symm⟩ (by dsimp only; rw [if_neg Bool.false_ne_true]; simp only [if_true]; omega) (fun w t => (inferInstance : Frm _ _).h _ _ t) inferInstance rfl rfl
end Go.Proofs

set_option linter.all false
set_option maxRecDepth 20000
set_option synthInstance.maxSize 100000
set_option synthInstance.maxHeartbeats 400000
namespace Go.Proofs
open Go Go.SL
attribute [local irreducible] CCall CO CC CX CD

/-! ### the document's decimal text -/
theorem ba_app {a b : List UInt8} : (⟨a.toArray⟩ : ByteArray) ++ ⟨b.toArray⟩ = ⟨(a ++ b).toArray⟩ := by
  apply ByteArray.ext
  rw [ByteArray.data_append]
  simp
theorem gba_size {a : List UInt8} : (⟨a.toArray⟩ : ByteArray).size = a.length := by simp [ByteArray.size]
theorem dL_k {m k : Nat} (h : (dg m).length ≤ k) : (dL m).length ≤ 5 * k := by
  refine dL_len (5 * k) m ?_
  have h1 := (vl_in (dg_in m)).2
  rw [dg_vl] at h1
  have h2 := bp_mono h
  have h3 : bp k = ((65536 ^ k : Nat) : Int) := by unfold bp; rw [Int.natCast_pow]; rfl
  have h4 : (65536 ^ k : Nat) ≤ 10 ^ (5 * k) := by
    have := Nat.pow_le_pow_left (show 65536 ≤ 10 ^ 5 by decide) k
    rwa [← Nat.pow_mul] at this
  have h5 : (m : Int) < ((65536 ^ k : Nat) : Int) := by rw [← h3]; exact Int.lt_of_lt_of_le h1 h2
  exact Nat.lt_of_lt_of_le (Int.ofNat_lt.1 h5) h4
theorem dL_small {m : Nat} (h : (dg m).length ≤ 1000) : (dL m).length ≤ 5000 := dL_k h
end Go.Proofs

set_option linter.all false
set_option maxRecDepth 20000
set_option synthInstance.maxSize 100000
set_option synthInstance.maxHeartbeats 400000
namespace Go.Proofs
open Go Go.SL
attribute [local irreducible] CCall CO CC CX CD

/-! ### an instruction's text -/
def decB (z : Int) : ByteArray := ⟨(decS z).toArray⟩
def txR (s : ByteArray) (r : ByteArray × Int) : ByteArray := s ++ (⟨#[32]⟩ ++ r.1 ++ ⟨#[58]⟩ ++ decB r.2)
def cashS : ByteArray := ⟨#[99, 97, 115, 104]⟩
def textS (name : ByteArray) (rows : List (ByteArray × Int)) (z : Int) : ByteArray :=
  if z ≠ 0 then txR (rows.foldl txR name) (cashS, z) else rows.foldl txR name
theorem decB_size {z : Int} (hz : fitW z) : (decB z).size ≤ 60 := by
  have h1 : z.natAbs < 10 ^ 40 := by unfold fitW at hz; omega
  have h2 := dL_len 40 _ h1
  unfold decB
  rw [gba_size]
  unfold decS decL
  rw [List.length_append]
  have h3 : (if z < 0 then [45] else ([] : List UInt8)).length ≤ 1 := by split <;> decide
  have h4 : (if z.natAbs = 0 then [48] else (dL z.natAbs).reverse).length ≤ 41 := by
    split
    · decide
    · rw [List.length_reverse]; omega
  omega
theorem txR_size {s : ByteArray} {r : ByteArray × Int} (hz : fitW r.2) : (txR s r).size ≤ s.size + r.1.size + 62 := by
  have := decB_size hz
  unfold txR
  simp only [ByteArray.size_append]
  have e1 : (⟨#[32]⟩ : ByteArray).size = 1 := rfl
  have e2 : (⟨#[58]⟩ : ByteArray).size = 1 := rfl
  omega
theorem fold_size : ∀ {rows : List (ByteArray × Int)} {s : ByteArray}, (∀ r ∈ rows, r.1.size ≤ 1048576 ∧ fitW r.2) → (rows.foldl txR s).size ≤ s.size + 1048638 * rows.length
  | [], s, _ => by simp
  | r :: l, s, h => by
    have h1 := h r List.mem_cons_self
    have h2 := @txR_size s r h1.2
    have ih := @fold_size l (txR s r) fun x hx => h x (List.mem_cons_of_mem _ hx)
    rw [List.foldl_cons, List.length_cons]
    omega
theorem gmore_spec {L R K b} {s : ByteArray} {name : ByteArray} {z : Int} [p : Pull (pto b) L (cells [.string s] 9) R] (hz : fitW z) (hs : s.size ≤ 100000000) (hn : name.size ≤ 1048576)
    (h : Ht (pto b (cells [.string (txR s (name, z))] 9) :: R) (K (.tuple #[]))) : Ht L (CCall Tryz.prog 171 [.string name, wV z, .pointer (some ⟨b, 0, none⟩)] K) := by
  have hd := decB_size hz
  unfold txR at h
  refine Ht.pull p ?_
  refine ccall3 Tryz.func171 rfl (by decide) Tryz.ntmps171 (by rfl) (by decide) ?_
  repeat (refine stp ?_)
  intro c4
  repeat (refine stp ?_)
  haveI : SzLe ⟨#[32]⟩ name := ⟨by show 1 + name.size ≤ _; omega⟩
  haveI : SzLe (⟨#[32]⟩ ++ name) ⟨#[58]⟩ := ⟨by rw [ByteArray.size_append]; show 1 + name.size + 1 ≤ _; omega⟩
  haveI : SzLe (⟨#[32]⟩ ++ name ++ ⟨#[58]⟩) (decB z) := ⟨by rw [ByteArray.size_append, ByteArray.size_append]; show 1 + name.size + 1 + _ ≤ _; omega⟩
  haveI : SzLe s (⟨#[32]⟩ ++ name ++ ⟨#[58]⟩ ++ decB z) := ⟨by rw [ByteArray.size_append, ByteArray.size_append, ByteArray.size_append]; show s.size + (1 + name.size + 1 + _) ≤ _; omega⟩
  refine ht_draw Tryz.can171x1 Tryz.mixed (by kernel_rfl) ?_
  repeat (refine stp ?_)
  refine FText_spec hz ?_
  rewrite [show (⟨(decS z).toArray⟩ : ByteArray) = decB z from rfl]
  repeat (refine stp ?_)
  exact end0 rfl (Ht.frm h)
theorem SCash_spec {L K rv} {z : Int} [o : One1 rv] (hz : fitW z) (h : Ht L (K (.bool (decide (z ≠ 0))))) : Ht L (CCall Tryz.prog 85 [hV rv z] K) := by
  refine ccall1 Tryz.func85 rfl (by decide) Tryz.ntmps85 (by rfl) (by decide) ?_
  repeat (refine stp ?_)
  intro c1
  repeat (refine stp ?_)
  refine Sign_spec hz ?_
  repeat (refine stp ?_)
  rewrite [show decide (cmpI z 0 ≠ 0) = decide (z ≠ 0) from decide_eq_decide.2 (by unfold cmpI; split <;> (try split) <;> omega)]
  exact ret1 rfl (Ht.frm h)
theorem tx_take {rows : List (ByteArray × Int)} {s : ByteArray} {i : Nat} (h : i < rows.length) : (rows.take (i + 1)).foldl txR s = txR ((rows.take i).foldl txR s) (rows[i]!) := by
  rw [List.take_succ, getB h, Option.toList_some, List.foldl_append]; rfl
theorem SText_spec {L K rv} {name : ByteArray} {rows : List (ByteArray × Int)} {z : Int} [rs : RdE L encRw rv rows] (hz : fitW z) (hr : ∀ r ∈ rows, r.1.size ≤ 1048576) (h64 : rows64 rows) (hl : rows.length ≤ 30) (hn : name.size ≤ 1048576)
    (h : Ht L (K (.string (textS name rows z)))) : Ht L (CCall Tryz.prog 83 [.agg #[.string name, rv, .int .i64 (wHi z), .int .u64 (wLo z)]] K) := by
  have hrs2 : ∀ (M : List HP) [fr : Frm M L], RdS M rv encRw rows := fun M fr => ⟨fun w t => rs.h w (fr.h _ _ t)⟩
  refine Ht.know (p := One1 rv) (fun w t => one1_of (rs.h w t)) (fun ov => ?_)
  have hall : ∀ r ∈ rows, r.1.size ≤ 1048576 ∧ fitW r.2 := fun r hm => ⟨hr r hm, by have := h64 r hm; unfold fitW; omega⟩
  refine ccall1 Tryz.func83 rfl (by decide) Tryz.ntmps83 (by rfl) (by decide) ?_
  repeat (refine stp ?_)
  intro c1
  repeat (refine stp ?_)
  intro c3
  repeat (refine stp ?_)
  refine ht_for rows.length (fun i (_ : Unit) => True) (fun i _ => pto c3 (cells [.string ((rows.take i).foldl txR name)] 9) :: pto c1 (cells [.string name, rv, .int .i64 (wHi z), .int .u64 (wLo z)] 208) :: L) (fun i _ => [(14, .int .i64 (i : Int))]) () [14] trivial (fun w t => t) inferInstance ?_
  intro i _ hil _
  dsimp only [List.cons_append, List.nil_append]
  have hfs := @fold_size (rows.take i) name (fun r hm => hall r (List.mem_of_mem_take hm))
  rw [List.length_take] at hfs
  repeat (refine stp ?_)
  refine ht_if ?_ ?_ <;> intro hc <;> simp only [decide_eq_true_eq, decide_eq_false_iff_not] at hc
  · have hii : i < rows.length := by omega
    have hri := hall _ (List.mem_of_getElem? (getB hii))
    have h6 := h64 _ (List.mem_of_getElem? (getB hii))
    repeat (refine stp ?_)
    refine co_index (xs := rows) (by omega) ?_
    intro hbx
    repeat (refine stp ?_)
    intro c6
    repeat (refine stp ?_)
    refine ht_draw Tryz.can83x6 Tryz.mixed (by kernel_rfl) ?_
    repeat (refine stp ?_)
    refine Of_spec h6.1 h6.2 ?_
    repeat (refine stp ?_)
    refine gmore_spec (name := (rows[i]!).1) (z := (rows[i]!).2) hri.2 (by omega) hri.1 ?_
    repeat (refine stp ?_)
    exact ht_next () hii trivial (fun w t => by rw [tx_take hii]; exact (inferInstance : Frm _ _).h _ _ t) (SubE.cons (by rw [IntWalk.i64_in _ (by omega)]; rfl) inferInstance) rfl rfl
  · have ei : i = rows.length := by omega
    subst ei
    rw [List.take_length] at hfs ⊢
    repeat (refine stp ?_)
    refine SCash_spec hz ?_
    unfold textS at h
    by_cases hzz : z ≠ 0
    · rw [if_pos hzz] at h
      rewrite [decide_eq_true hzz]
      repeat (refine stp ?_)
      refine gmore_spec (name := cashS) (z := z) hz (by omega) (by decide) ?_
      repeat (refine stp ?_)
      exact ret1 rfl (Ht.frm h)
    · rw [if_neg hzz] at h
      rewrite [decide_eq_false hzz]
      repeat (refine stp ?_)
      exact ret1 rfl (Ht.frm h)
end Go.Proofs

set_option linter.all false
set_option synthInstance.maxSize 100000
set_option synthInstance.maxHeartbeats 400000
set_option maxRecDepth 10000
set_option maxHeartbeats 1000000
namespace Go.Proofs
open Go Go.SL
attribute [local irreducible] CCall CO CC CX CD
/-! ### the same rows? -/
def rwOk (l : Rows) : Prop := ∀ r ∈ l, r.1.size ≤ maxLen ∧ (Lit.int .i64 r.2).wf = true
theorem rows_at {l m : Rows} (hl : l.length = m.length) (h : ∀ i, i < l.length → l[i]! = m[i]!) : l = m := by
  refine List.ext_getElem hl fun i h1 h2 => ?_
  have := h i h1
  rwa [getElem!_pos l i h1, getElem!_pos m i h2] at this
theorem REq_spec {L K v u} {l m : Rows} [r1 : RdE L encRw v l] [r2 : RdE L encRw u m] (h1 : rwOk l) (h2 : rwOk m) (hn : l.length ≤ 1000000) (hm : m.length ≤ 1000000) (h : ∀ r : Bool, (r = true ↔ l = m) → Ht L (K (.bool r))) : Ht L (CCall Tryz.prog 54 [v, u] K) := by
  have hr1 : ∀ (M : List HP) [fr : Frm M L], RdS M v encRw l := fun M fr => ⟨fun w t => r1.h w (fr.h _ _ t)⟩
  have hr2 : ∀ (M : List HP) [fr : Frm M L], RdS M u encRw m := fun M fr => ⟨fun w t => r2.h w (fr.h _ _ t)⟩
  refine Ht.know (p := One1 v ∧ One1 u) (fun w t => ⟨one1_of (r1.h w t), one1_of (r2.h w t)⟩) (fun ⟨o1, o2⟩ => ?_)
  refine ccall2 Tryz.func54 rfl (by decide) Tryz.ntmps54 (by rfl) (by decide) ?_
  repeat (refine stp ?_)
  by_cases hl : l.length = m.length
  · rewrite [show decide ((l.length : Int) ≠ (m.length : Int)) = false from decide_eq_false (by omega)]
    repeat (refine stp ?_)
    refine ht_for l.length (fun i (_ : Unit) => ∀ t, t < i → l[t]! = m[t]!) (fun _ _ => L) (fun i _ => [(13, .int .i64 (i : Int))]) () [13] (fun t ht => absurd ht (by omega)) (fun _ t => t) inferInstance ?_
    intro i _ hi hinv
    dsimp only [List.cons_append, List.nil_append]
    repeat (refine stp ?_)
    refine ht_if ?_ ?_ <;> intro hc <;> simp only [decide_eq_true_eq, decide_eq_false_iff_not] at hc
    · have hii : i < l.length := by omega
      have q1 := h1 _ (List.mem_of_getElem? (getB hii))
      have q2 := h2 _ (List.mem_of_getElem? (getB (show i < m.length by omega)))
      haveI : SmS (l[i]!).1 := ⟨q1.1⟩
      haveI : SmS (m[i]!).1 := ⟨q2.1⟩
      haveI : W64 (l[i]!).2 := ⟨q1.2⟩
      haveI : W64 (m[i]!).2 := ⟨q2.2⟩
      repeat (refine stp ?_)
      refine ht_draw Tryz.can54x6 Tryz.mixed (by kernel_rfl) ?_
      repeat (refine stp ?_)
      refine cd_index (xs := l) (by omega) ?_
      intro hb1 hb2
      repeat (refine stp ?_)
      refine cd_index (xs := m) (by omega) ?_
      intro hb3 hb4
      repeat (refine stp ?_)
      by_cases he : l[i]! = m[i]!
      · rewrite [show (!decide ((l[i]!).1 = (m[i]!).1 ∧ (l[i]!).2 = (m[i]!).2)) = false from by rw [he]; simp]
        repeat (refine stp ?_)
        exact ht_next () hii (fun t ht => by
          by_cases hti : t = i
          · rw [hti]; exact he
          · exact hinv t (by omega)) (fun _ t => t) (SubE.cons (by rw [IntWalk.i64_in _ (by omega)]; rfl) inferInstance) rfl rfl
      · rewrite [show (!decide ((l[i]!).1 = (m[i]!).1 ∧ (l[i]!).2 = (m[i]!).2)) = true from by
          rw [decide_eq_false fun hh => he (Prod.ext hh.1 hh.2)]; rfl]
        repeat (refine stp ?_)
        exact ret1 rfl (h false ⟨fun hh => (by cases hh), fun hh => absurd (by rw [hh]) he⟩)
    · repeat (refine stp ?_)
      exact ret1 rfl (h true ⟨fun _ => rows_at hl fun t ht => hinv t (by omega), fun _ => rfl⟩)
  · rewrite [show decide ((l.length : Int) ≠ (m.length : Int)) = true from decide_eq_true (by omega)]
    repeat (refine stp ?_)
    exact ret1 rfl (h false ⟨fun hh => (by cases hh), fun hh => absurd (by rw [hh]) hl⟩)
end Go.Proofs

set_option linter.all false
set_option synthInstance.maxSize 100000
set_option synthInstance.maxHeartbeats 400000
set_option maxRecDepth 10000
namespace Go.Proofs
open Go Go.SL
attribute [local irreducible] CCall CO CC CX CD

/-! ### lists of instructions -/
theorem wfL_of {z : Int} (h0 : -9223372036854775808 ≤ z) (h1 : z ≤ 9223372036854775807) : (Lit.int .i64 z).wf = true := by
  simp [Lit.wf, IntKind.min, IntKind.max, IntKind.signed, IntKind.bits]
  omega
theorem wfHi {z : Int} (h : fitW z) : (Lit.int .i64 (wHi z)).wf = true := by
  unfold fitW at h
  exact wfL_of (by unfold wHi; omega) (by unfold wHi; omega)
theorem wfLo {z : Int} : (Lit.int .u64 (wLo z)).wf = true := by
  have h0 : 0 ≤ wLo z := by unfold wLo; omega
  have h1 : wLo z < 18446744073709551616 := by unfold wLo; omega
  simp [Lit.wf, IntKind.min, IntKind.max, IntKind.signed, IntKind.bits]
  omega
theorem w_eq {a b : Int} : (wHi a = wHi b ∧ wLo a = wLo b) ↔ a = b := by
  unfold wHi wLo
  constructor
  · rintro ⟨h1, h2⟩; omega
  · rintro rfl; exact ⟨rfl, rfl⟩
theorem Nought_spec {L K rv} {l : Rows} {z : Int} [rs : RdE L encRw rv l] (hz : fitW z) (h : Ht L (K (.bool (decide (l = [] ∧ z = 0))))) : Ht L (CCall Tryz.prog 15 [hV rv z] K) := by
  have hrs2 : ∀ (M : List HP) [fr : Frm M L], RdS M rv encRw l := fun M fr => ⟨fun w t => rs.h w (fr.h _ _ t)⟩
  refine Ht.know (p := One1 rv) (fun w t => one1_of (rs.h w t)) (fun ov => ?_)
  haveI : W64 (wHi z) := ⟨wfHi hz⟩
  haveI : WU64 (wLo z) := ⟨wfLo⟩
  refine ccall1 Tryz.func15 rfl (by decide) Tryz.ntmps15 (by rfl) (by decide) ?_
  repeat (refine stp ?_)
  intro c1
  repeat (refine stp ?_)
  by_cases hl : l = []
  · rewrite [show decide ((l.length : Int) = 0) = true from by rw [hl]; rfl]
    repeat (refine stp ?_)
    rw [show decide (l = [] ∧ z = 0) = decide (wHi z = 0 ∧ wLo z = 0) from decide_eq_decide.2 ⟨fun hh => by rw [hh.2]; exact ⟨rfl, rfl⟩, fun hh => ⟨hl, (w_eq (b := 0)).1 hh⟩⟩] at h
    exact ret1 rfl (Ht.frm h)
  · rw [decide_eq_false (fun hh => hl hh.1)] at h
    rewrite [show decide ((l.length : Int) = 0) = false from decide_eq_false (fun hh => hl (List.eq_nil_of_length_eq_zero (by omega)))]
    repeat (refine stp ?_)
    exact ret1 rfl (Ht.frm h)
theorem ASame_spec {L K av bv} {l m : Rows} {y z : Int} [r1 : RdE L encRw av l] [r2 : RdE L encRw bv m] (h1 : rwOk l) (h2 : rwOk m) (hn : l.length ≤ 1000000) (hm : m.length ≤ 1000000) (hy : fitW y) (hz : fitW z)
    (h : Ht L (K (.bool (decide (l = m ∧ y = z))))) : Ht L (CCall Tryz.prog 23 [hV av y, hV bv z] K) := by
  have hr1 : ∀ (M : List HP) [fr : Frm M L], RdE M encRw av l := fun M fr => ⟨fun w t => r1.h w (fr.h _ _ t)⟩
  have hr2 : ∀ (M : List HP) [fr : Frm M L], RdE M encRw bv m := fun M fr => ⟨fun w t => r2.h w (fr.h _ _ t)⟩
  refine Ht.know (p := One1 av ∧ One1 bv) (fun w t => ⟨one1_of (r1.h w t), one1_of (r2.h w t)⟩) (fun ⟨o1, o2⟩ => ?_)
  haveI : W64 (wHi y) := ⟨wfHi hy⟩
  haveI : WU64 (wLo y) := ⟨wfLo⟩
  haveI : W64 (wHi z) := ⟨wfHi hz⟩
  haveI : WU64 (wLo z) := ⟨wfLo⟩
  refine ccall2 Tryz.func23 rfl (by decide) Tryz.ntmps23 (by rfl) (by decide) ?_
  repeat (refine stp ?_)
  intro c2
  repeat (refine stp ?_)
  intro c3
  repeat (refine stp ?_)
  refine REq_spec (l := l) (m := m) h1 h2 hn hm fun r hr => ?_
  repeat (refine stp ?_)
  cases r
  · rw [decide_eq_false (fun hh => by have := hr.2 hh.1; cases this)] at h
    repeat (refine stp ?_)
    exact ret1 rfl (Ht.frm h)
  · have hlm := hr.1 rfl
    repeat (refine stp ?_)
    rw [show decide (l = m ∧ y = z) = decide (wHi y = wHi z ∧ wLo y = wLo z) from decide_eq_decide.2 ⟨fun hh => by rw [hh.2]; exact ⟨rfl, rfl⟩, fun hh => ⟨hlm, w_eq.1 hh⟩⟩] at h
    exact ret1 rfl (Ht.frm h)
theorem gClone_spec {L K v} {l : Rows} [rs : RdE L encRw v l] (hn : l.length ≤ 1000000) (h : ∀ u, One1 u → Ht (own encRw 109 u l :: L) (K u)) : Ht L (CCall Tryz.prog 170 [v] K) := by
  have hrs2 : ∀ (M : List HP) [fr : Frm M L], RdS M v encRw l := fun M fr => ⟨fun w t => rs.h w (fr.h _ _ t)⟩
  refine Ht.know (p := One1 v) (fun w t => one1_of (rs.h w t)) (fun ov => ?_)
  refine ccall1 Tryz.func170 rfl (by decide) Tryz.ntmps170 (by rfl) (by decide) ?_
  repeat (refine stp ?_)
  refine ht_if ?_ ?_ <;> intro h0
  · repeat (refine stp ?_)
    refine ret1 rfl ?_
    refine Ht.know (p := l = []) (fun w s => ?_) (fun hx => ?_)
    · rcases rs.h w s with ⟨rfl, hx⟩ | ⟨a, c, rfl, _⟩
      · exact hx
      · cases h0
    · subst hx
      exact Ht.conseq (h _ ⟨rfl⟩) (fun w s => own_nil.2 s)
  · repeat (refine stp ?_)
    intro v0
    repeat (refine stp ?_)
    refine Ht.own_lit encRw (b := v0) (n := 0) (xs := []) rfl rfl (by decide) ?_
    refine co_append (e := encRw) (xs := []) (ys := l) (by rfl) (by simp; omega) (by simp; omega) ?_
    rewrite [List.nil_append]
    intro v'
    refine Ht.one1 (v := v') ?_
    intro ov'
    repeat (refine stp ?_)
    exact ret1 rfl (Ht.frm (h v' ov'))
theorem copied_spec {L K rv} {l : Rows} {z : Int} [rs : RdE L encRw rv l] (hn : l.length ≤ 1000000) (h : ∀ u, One1 u → Ht (own encRw 109 u l :: L) (K (hV u z))) : Ht L (CCall Tryz.prog 81 [hV rv z] K) := by
  have hrs : ∀ (M : List HP) [fr : Frm M L], RdE M encRw rv l := fun M fr => ⟨fun w t => rs.h w (fr.h _ _ t)⟩
  refine Ht.know (p := One1 rv) (fun w t => one1_of (rs.h w t)) (fun ov => ?_)
  refine ccall1 Tryz.func81 rfl (by decide) Tryz.ntmps81 (by rfl) (by decide) ?_
  repeat (refine stp ?_)
  intro c1
  repeat (refine stp ?_)
  intro c2
  repeat (refine stp ?_)
  refine ht_draw Tryz.can81x1 Tryz.mixed (by kernel_rfl) ?_
  repeat (refine stp ?_)
  refine gClone_spec (l := l) hn fun u ou => ?_
  repeat (refine stp ?_)
  exact retc rfl (Ht.frm (h u ou))
def memS : ByteArray := ⟨#[109, 58]⟩
def lnkS : ByteArray := ⟨#[99, 58]⟩
/-- the account of a member? -/
def isMem (s : ByteArray) : Bool := decide (2 ≤ s.size) && decide (s.extract 0 2 = memS)
theorem Split_spec {L K} {s : ByteArray} (hs : s.size ≤ 9223372036854775807) (h : Ht L (K (if 2 ≤ s.size ∧ (s.extract 0 2 = memS ∨ s.extract 0 2 = lnkS) then .tuple #[.string (s.extract 0 2), .string (s.extract 2 s.size)] else .tuple #[.string ⟨#[]⟩, .string ⟨#[]⟩]))) : Ht L (CCall Tryz.prog 84 [.string s] K) := by
  refine ccall1 Tryz.func84 rfl (by decide) Tryz.ntmps84 (by rfl) (by decide) ?_
  repeat (refine stp ?_)
  by_cases h2 : 2 ≤ s.size
  · rewrite [show decide ((2 : Int) ≤ ((s.size : Nat) : Int)) = true from decide_eq_true (by omega)]
    repeat (refine stp ?_)
    haveI : SzB s 2 := ⟨by omega⟩
    refine ht_draw Tryz.can84x2 Tryz.mixed (by kernel_rfl) ?_
    repeat (refine stp ?_)
    by_cases hm : s.extract 0 2 = memS
    · rw [if_pos ⟨h2, .inl hm⟩] at h
      rewrite [show decide (s.extract 0 2 = ⟨#[109, 58]⟩) = true from decide_eq_true hm]
      repeat (refine stp ?_)
      exact ret2 rfl h
    · rewrite [show decide (s.extract 0 2 = ⟨#[109, 58]⟩) = false from decide_eq_false hm]
      repeat (refine stp ?_)
      by_cases hk : s.extract 0 2 = lnkS
      · rw [if_pos ⟨h2, .inr hk⟩] at h
        rewrite [show decide (s.extract 0 2 = ⟨#[99, 58]⟩) = true from decide_eq_true hk]
        repeat (refine stp ?_)
        exact ret2 rfl h
      · rw [if_neg (fun hh => hh.2.elim hm hk)] at h
        rewrite [show decide (s.extract 0 2 = ⟨#[99, 58]⟩) = false from decide_eq_false hk]
        repeat (refine stp ?_)
        exact ret2 rfl h
  · rw [if_neg (fun hh => h2 hh.1)] at h
    rewrite [show decide ((2 : Int) ≤ ((s.size : Nat) : Int)) = false from decide_eq_false (by omega)]
    repeat (refine stp ?_)
    exact ret2 rfl h
end Go.Proofs

set_option linter.all false
set_option synthInstance.maxSize 100000
set_option synthInstance.maxHeartbeats 400000
set_option maxRecDepth 10000
namespace Go.Proofs
open Go Go.SL
attribute [local irreducible] CCall CO CC CX CD

theorem Member_spec {L K} {s : ByteArray} (hs : s.size ≤ 1000000000) (h : Ht L (K (.string (memS ++ s)))) : Ht L (CCall Tryz.prog 65 [.string s] K) := by
  haveI : SzLe ⟨#[109, 58]⟩ s := ⟨by show 2 + s.size ≤ _; omega⟩
  refine ccall1 Tryz.func65 rfl (by decide) Tryz.ntmps65 (by rfl) (by decide) ?_
  repeat (refine stp ?_)
  exact ret1 rfl h
/-- an instruction's size -/
def InOk (x : In1) : Prop := x.1.size ≤ 1048576 ∧ HdOk x.2 ∧ rwOk x.2.2.1
def cntI (x : In1) : Nat := x.2.2.1.length + (if x.2.2.2 ≠ 0 then 1 else 0)
theorem cntI_le {x : In1} (h : InOk x) : cntI x ≤ 31 := by
  have := h.2.1.2.1
  unfold cntI
  split <;> omega
theorem svY_len {α : Type} {L : List HP} {sv : SVy} {e : Enc α} {xs : List α} (r : RdE L e (svY sv) xs) {w : World} (t : Sat L w) : sv.2.1 = xs.length := by
  obtain ⟨a, c, hv, _, _⟩ := sliceIn_of (r.h w t)
  exact (Value.slice.inj hv).2.1
theorem SCount_spec {L K v} {l : List In1} [rs : RdE L encIn v l] (hrd : ∀ x ∈ l, RdE L encRw (svY x.2.1) x.2.2.1) (hok : ∀ x ∈ l, InOk x) (hl : l.length ≤ 1000) (h : Ht L (K (.int .i64 ((l.map cntI).sum : Nat)))) : Ht L (CCall Tryz.prog 39 [v] K) := by
  haveI := rs.toS
  refine Ht.know (p := One1 v) (fun w t => one1_of (rs.h w t)) (fun ov => ?_)
  refine ccall1 Tryz.func39 rfl (by decide) Tryz.ntmps39 (by rfl) (by decide) ?_
  repeat (refine stp ?_)
  refine ht_for l.length (fun i (_ : Unit) => True) (fun i _ => L) (fun i _ => [(8, .int .i64 (i : Int)), (3, .int .i64 (((l.take i).map cntI).sum : Nat))]) () [8, 3] trivial (fun w t => t) (SubE.cons rfl (SubE.cons rfl inferInstance)) ?_
  intro i _ hil _
  dsimp only [List.cons_append, List.nil_append]
  have hsum : ∀ j, j ≤ l.length → ((l.take j).map cntI).sum ≤ 31 * j := fun j => by
    induction j with
    | zero => intro _; simp
    | succ j ih =>
      intro hj
      have h1 := ih (by omega)
      rw [List.take_succ, getB (by omega), Option.toList_some, List.map_append, List.sum_append]
      have h2 := cntI_le (hok _ (List.mem_of_getElem? (getB (show j < l.length by omega))))
      simp only [List.map_cons, List.map_nil, List.sum_cons, List.sum_nil]
      omega
  have hsi := hsum i hil
  repeat (refine stp ?_)
  refine ht_if ?_ ?_ <;> intro hc <;> simp only [decide_eq_true_eq, decide_eq_false_iff_not] at hc
  · have hii : i < l.length := by omega
    have hmem : l[i]! ∈ l := List.mem_of_getElem? (getB hii)
    have hxo := (hok _ hmem).2.1
    have hrx : ∀ (M : List HP) [fr : Frm M L], RdS M (svY (l[i]!).2.1) encRw (l[i]!).2.2.1 := fun M fr => ⟨fun w t => (hrd _ hmem).h w (fr.h _ _ t)⟩
    have hx2 := hxo.2.1
    repeat (refine stp ?_)
    refine co_index (xs := l) (by omega) ?_
    intro hbx
    repeat (refine stp ?_)
    intro c5
    repeat (refine stp ?_)
    refine SCash_spec (rv := svY (l[i]!).2.1) (z := (l[i]!).2.2.2) hxo.2.2 ?_
    have hst : ((l.take (i + 1)).map cntI).sum = ((l.take i).map cntI).sum + cntI (l[i]!) := by
      rw [List.take_succ, getB hii, Option.toList_some, List.map_append, List.sum_append]
      simp
    have hc31 : cntI (l[i]!) = (l[i]!).2.2.1.length + (if (l[i]!).2.2.2 ≠ 0 then 1 else 0) := rfl
    refine Ht.know (p := (l[i]!).2.1.2.1 = (l[i]!).2.2.1.length) (fun w t => svY_len (hrd _ hmem) t.tail) (fun hlen => ?_)
    obtain ⟨x, hx⟩ : ∃ x, l[i]! = x := ⟨_, rfl⟩
    rw [hx] at hxo hx2 hst hc31 hlen
    rewrite [hx]
    by_cases hz : x.2.2.2 ≠ 0
    · rewrite [decide_eq_true hz]
      rw [if_pos hz] at hc31
      repeat (refine stp ?_)
      exact ht_next () hii trivial (fun w t => (inferInstance : Frm _ _).h _ _ t) (SubE.cons (by rw [IntWalk.i64_in _ (by omega)]; rfl) (SubE.cons (by rw [hst, IntWalk.i64_in ((((l.take i).map cntI).sum : Int) + _) (by omega), IntWalk.i64_in _ (by omega)]; exact congrArg _ (by omega)) inferInstance)) rfl rfl
    · rewrite [decide_eq_false hz]
      rw [if_neg hz] at hc31
      repeat (refine stp ?_)
      exact ht_next () hii trivial (fun w t => (inferInstance : Frm _ _).h _ _ t) (SubE.cons (by rw [IntWalk.i64_in _ (by omega)]; rfl) (SubE.cons (by rw [hst, IntWalk.i64_in _ (by omega)]; exact congrArg _ (by omega)) inferInstance)) rfl rfl
  · have ei : i = l.length := by omega
    subst ei
    rw [List.take_length]
    repeat (refine stp ?_)
    exact ret1 rfl h
end Go.Proofs

set_option linter.all false
set_option synthInstance.maxSize 100000
set_option synthInstance.maxHeartbeats 400000
set_option maxRecDepth 10000
namespace Go.Proofs
open Go Go.SL
attribute [local irreducible] CCall CO CC CX CD

theorem find_take {l : List In1} {name : ByteArray} {i : Nat} (hi : i < l.length) (h0 : ∀ j, j < i → (l[j]!).1 ≠ name) (h : (l[i]!).1 = name) : l.find? (fun x => decide (x.1 = name)) = some (l[i]!) := by
  rw [List.find?_eq_some_iff_append]
  refine ⟨decide_eq_true h, l.take i, l.drop (i + 1), ?_, ?_⟩
  · rw [getElem!_pos l i hi, ← List.drop_eq_getElem_cons hi, List.take_append_drop]
  · intro x hx
    obtain ⟨j, hj, rfl⟩ := List.getElem_of_mem hx
    rw [List.length_take] at hj
    have := h0 j (by omega)
    rw [getElem!_pos l j (by omega)] at this
    rw [List.getElem_take]
    simpa using this
theorem find_no {l : List In1} {name : ByteArray} (h0 : ∀ j, j < l.length → (l[j]!).1 ≠ name) : l.find? (fun x => decide (x.1 = name)) = none := by
  rw [List.find?_eq_none]
  intro x hx
  obtain ⟨j, hj, rfl⟩ := List.getElem_of_mem hx
  have := h0 j hj
  rw [getElem!_pos l j hj] at this
  simpa using this
theorem SFind_spec {L K v} {l : List In1} {name : ByteArray} [rs : RdE L encIn v l] (hrd : ∀ x ∈ l, RdE L encRw (svY x.2.1) x.2.2.1) (hok : ∀ x ∈ l, InOk x) (hl : l.length ≤ 1000)
    (h0 : l.find? (fun x => decide (x.1 = name)) = none → Ht L (K (.tuple #[hV (.slice none 0 0) 0, .bool false])))
    (h1 : ∀ x u, l.find? (fun x => decide (x.1 = name)) = some x → One1 u → Ht (own encRw 109 u x.2.2.1 :: L) (K (.tuple #[hV u x.2.2.2, .bool true]))) : Ht L (CCall Tryz.prog 36 [v, .string name] K) := by
  haveI := rs.toS
  refine Ht.know (p := One1 v) (fun w t => one1_of (rs.h w t)) (fun ov => ?_)
  refine ccall2 Tryz.func36 rfl (by decide) Tryz.ntmps36 (by rfl) (by decide) ?_
  repeat (refine stp ?_)
  intro c4
  repeat (refine stp ?_)
  refine ht_for l.length (fun i (_ : Unit) => ∀ j, j < i → (l[j]!).1 ≠ name) (fun i _ => pto c4 (cells [.slice none 0 0, .int .i64 0, .int .u64 0] 55) :: L) (fun i _ => [(10, .int .i64 (i : Int))]) () [10] (fun j hj => absurd hj (by omega)) (fun w t => t) inferInstance ?_
  intro i _ hil hinv
  dsimp only [List.cons_append, List.nil_append]
  repeat (refine stp ?_)
  refine ht_if ?_ ?_ <;> intro hc <;> simp only [decide_eq_true_eq, decide_eq_false_iff_not] at hc
  · have hii : i < l.length := by omega
    have hmem : l[i]! ∈ l := List.mem_of_getElem? (getB hii)
    have hxo := (hok _ hmem).2.1
    have hrx : ∀ (M : List HP) [fr : Frm M L], RdE M encRw (svY (l[i]!).2.1) (l[i]!).2.2.1 := fun M fr => ⟨fun w t => (hrd _ hmem).h w (fr.h _ _ t)⟩
    have hx2 := hxo.2.1
    repeat (refine stp ?_)
    refine co_index (xs := l) (by omega) ?_
    intro hbx
    repeat (refine stp ?_)
    intro c7
    repeat (refine stp ?_)
    by_cases hn : (l[i]!).1 = name
    · rewrite [decide_eq_true hn]
      repeat (refine stp ?_)
      refine copied_spec (rv := svY (l[i]!).2.1) (l := (l[i]!).2.2.1) (z := (l[i]!).2.2.2) (by omega) fun u ou => ?_
      repeat (refine stp ?_)
      exact retct rfl (Ht.frm (h1 _ u (find_take hii hinv hn) ou))
    · rewrite [decide_eq_false hn]
      repeat (refine stp ?_)
      exact ht_next () hii (fun j hj => by
        by_cases hji : j = i
        · rw [hji]; exact hn
        · exact hinv j (by omega)) (fun w t => (inferInstance : Frm _ _).h _ _ t) (SubE.cons (by rw [IntWalk.i64_in _ (by omega)]; rfl) inferInstance) rfl rfl
  · have ei : i = l.length := by omega
    subst ei
    repeat (refine stp ?_)
    exact retct rfl (Ht.frm (h0 (find_no hinv)))
def hds (l : List In1) : List Hd1 := l.map fun x => x.2
theorem hds_len (l : List In1) : (hds l).length = l.length := by unfold hds; rw [List.length_map]
theorem hds_mem {l : List In1} {x : Hd1} (h : x ∈ hds l) : ∃ y ∈ l, y.2 = x := List.mem_map.1 h
theorem hds_in {l : List In1} {y : In1} (h : y ∈ l) : y.2 ∈ hds l := List.mem_map.2 ⟨y, h, rfl⟩
theorem hds_take {l : List In1} {i : Nat} (h : i < l.length) : hds (l.take (i + 1)) = hds (l.take i) ++ [(l[i]!).2] := by
  unfold hds
  rw [List.take_succ, getB h, Option.toList_some, List.map_append]; rfl
theorem Sum_spec {L K v} {l : List In1} [rs : RdE L encIn v l] (hrd : ∀ x ∈ l, RdE L encRw (svY x.2.1) x.2.2.1) (hok : ∀ x ∈ l, InOk x) (hl : l.length ≤ 1000)
    (hA : (∃ x ∈ l, ¬ RightP x.2.2.1) → Ht L (K (.tuple #[hV (.slice none 0 0) 0, .int .i64 1])))
    (hE : (∀ x ∈ l, RightP x.2.2.1) → (¬ fitW (sAll (hds l)).2.sum ∨ ∃ x ∈ (sAll (hds l)).1, ¬ fit64 x.2.sum) → Ht L (K (.tuple #[hV (.slice none 0 0) 0, .int .i64 4])))
    (hG : (∀ x ∈ l, RightP x.2.2.1) → fitW (sAll (hds l)).2.sum → (∀ x ∈ (sAll (hds l)).1, fit64 x.2.sum) → ∀ v rows, One1 v → RowsOf (sAll (hds l)).1 rows → rows.length ≤ 31 * l.length → Ht (own encRw 109 v rows :: L) (K (.tuple #[hV v (sAll (hds l)).2.sum, .int .i64 0]))) :
    Ht L (CCall Tryz.prog 35 [v] K) := by
  haveI := rs.toS
  refine Ht.know (p := One1 v) (fun w t => one1_of (rs.h w t)) (fun ov => ?_)
  refine ccall1 Tryz.func35 rfl (by decide) Tryz.ntmps35 (by rfl) (by decide) ?_
  repeat (refine stp ?_)
  intro c2
  repeat (refine stp ?_)
  refine ht_for l.length (fun i (u : Value) => One1 u) (fun i u => own encHo 55 u (hds (l.take i)) :: pto c2 (cells [.slice none 0 0, .int .i64 0, .int .u64 0] 55) :: L) (fun i u => [(9, .int .i64 (i : Int)), (4, u)]) (.slice none 0 0) [9, 4] ⟨rfl⟩ (fun w t => own_nil.2 t) inferInstance ?_
  intro i u hil ou
  dsimp only [List.cons_append, List.nil_append]
  have htl : (hds (l.take i)).length = i := by rw [hds_len, List.length_take]; omega
  repeat (refine stp ?_)
  refine ht_if ?_ ?_ <;> intro hc <;> simp only [decide_eq_true_eq, decide_eq_false_iff_not] at hc
  · have hii : i < l.length := by omega
    repeat (refine stp ?_)
    refine co_index (xs := l) (by omega) ?_
    intro hbx
    repeat (refine stp ?_)
    intro c6
    repeat (refine stp ?_)
    intro b1
    repeat (refine stp ?_)
    refine Ht.own_lit encHo (b := b1) (n := 1) (xs := [(l[i]!).2]) rfl rfl (by decide) ?_
    refine co_append (e := encHo) (xs := hds (l.take i)) (ys := [(l[i]!).2]) (by rfl) (by rw [htl]; simp only [List.length_cons, List.length_nil]; omega) (by rw [htl]; simp only [List.length_cons, List.length_nil]; omega) ?_
    intro u2
    refine Ht.one1 (v := u2) ?_
    intro ou2
    rewrite [show hds (l.take i) ++ [(l[i]!).2] = hds (l.take (i + 1)) from (hds_take hii).symm]
    repeat (refine stp ?_)
    exact ht_next u2 hii ou2 (fun w t => (inferInstance : Frm _ _).h _ _ t) (SubE.cons (by rw [IntWalk.i64_in _ (by omega)]; rfl) inferInstance) rfl rfl
  · have ei : i = l.length := by omega
    subst ei
    rw [List.take_length]
    repeat (refine stp ?_)
    refine APlus_spec (l := hds l) (fun x hx => ?_) (fun x hx => ?_) (by rw [hds_len]; omega) (fun hb => ?_) (fun hr hb => ?_) (fun hr h1 h2 v2 rows ov2 hrw hrl => ?_)
    · obtain ⟨y, hy, rfl⟩ := hds_mem hx
      exact ⟨fun w t => (hrd y hy).h w ((inferInstance : Frm (own encHo 55 u (hds l) :: pto c2 (cells [.slice none 0 0, .int .i64 0, .int .u64 0] 55) :: L) L).h _ _ t)⟩
    · obtain ⟨y, hy, rfl⟩ := hds_mem hx
      exact (hok y hy).2.1
    · repeat (refine stp ?_)
      obtain ⟨x, hx, hb⟩ := hb
      obtain ⟨y, hy, rfl⟩ := hds_mem hx
      exact retct rfl (Ht.frm (hA ⟨y, hy, hb⟩))
    · repeat (refine stp ?_)
      exact retct rfl (Ht.frm (hE (fun y hy => hr _ (hds_in hy)) hb))
    · repeat (refine stp ?_)
      rw [hds_len] at hrl
      exact retct rfl (Ht.frm (hG (fun y hy => hr _ (hds_in hy)) h1 h2 v2 rows ov2 hrw hrl))
end Go.Proofs
