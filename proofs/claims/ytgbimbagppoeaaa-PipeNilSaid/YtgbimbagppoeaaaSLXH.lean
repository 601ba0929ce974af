import Derived.Test.YtgbimbagppoeaaaSLXG
import Derived.Test.YtgbimbagppoeaaaSLV
set_option linter.all false
set_option synthInstance.maxSize 100000
set_option synthInstance.maxHeartbeats 400000
namespace Go.SL
open Go
/-! ### Slices of slices of bytes; arrays inside a block -/
abbrev SVy := Option Addr × Nat × Nat
def svY (s : SVy) : Value := .slice s.1 s.2.1 s.2.2
@[reducible] def encY : Enc SVy := ⟨1, fun s => [.slice s.1 s.2.1 s.2.2], fun _ => rfl, fun _ v h => by simp at h; subst h; rfl⟩
/-- a slice and what lies in it -/
abbrev SB := SVy × List UInt8
def ownY (T : TypeId) : SB → HP := fun x => own encB T (svY x.1) x.2
def toSVy : Value → SVy
  | .slice p n c => (p, n, c)
  | _ => (none, 0, 0)
theorem own_svY {T : TypeId} {v : Value} {bs : List UInt8} {R : List HP} {w : World} (s : Sat (own encB T v bs :: R) w) : ∃ sv : SVy, v = svY sv := by
  obtain ⟨a, c, hv, _, _⟩ := sliceIn_of (own_sat s)
  exact ⟨(a, bs.length, c), hv⟩
theorem bigY_at {T : TypeId} {g : List SB} {x : SB} (hx : x ∈ g) {R : List HP} {w : World} (s : Sat (bigO (ownY T) g :: R) w) : SlIn w (svY x.1) encB x.2 := by
  obtain ⟨i, hi, rfl⟩ := List.getElem_of_mem hx
  have e : g = g.take i ++ g[i] :: g.drop (i + 1) := by rw [← List.drop_eq_getElem_cons hi, List.take_append_drop]
  have s2 : Sat (bigO (ownY T) (g.take i ++ g[i] :: g.drop (i + 1)) :: R) w := by rw [← e]; exact s
  have s3 : Sat (own encB T (svY g[i].1) g[i].2 :: bigO (ownY T) (g.take i ++ g.drop (i + 1)) :: R) w := bigO_split.1 s2
  exact own_sat s3
theorem slIn_len {w : World} {s : SVy} {bs : List UInt8} (h : SlIn w (svY s) encB bs) : s.2.1 = bs.length := by
  obtain ⟨a, c, hv, _, _⟩ := sliceIn_of h
  unfold svY at hv
  injection hv with _ h2 _
section rd
variable {P : Program} {L : List HP} {E : List (Nat × Value)}
instance rd_indexA {T el : TypeId} {x i : Operand} {len b o bb : Nat} {ik : IntKind} {iv : Int} {m : Nat} {z : Value}
    [td : TyD P T (.array len el)] [ti : TyI P el 1 bb z] [ex : Ev E x (.pointer (some ⟨b, o, none⟩))] [ei : Ev E i (.int ik iv)] [tn : ToNat iv m] [hi : IxB iv len] :
    Rd P L E (.indexAddr T x i) (.pointer (some ⟨b, o + m, none⟩)) := ⟨fun N D a w r s d ty pos af g => by
  have hm := tn.h
  have hi := hi.h
  simp only [execOp, ex.h N D a r, ei.h N D a r, Instr.indexAt, Instr.sureAddr, asIntOf, Sem.run_bind, Sem.run_pure, Result.andThen, run_und td.h, hi, and_self, if_true, run_size ti, hm, Nat.mul_one, addr_lit]⟩
end rd
end Go.SL
