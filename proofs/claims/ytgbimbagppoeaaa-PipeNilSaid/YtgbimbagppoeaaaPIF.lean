import Derived.Test.YtgbimbagppoeaaaPIE
set_option linter.all false
set_option synthInstance.maxSize 100000
set_option synthInstance.maxHeartbeats 400000
namespace Go.Proofs
open Go Go.SL
attribute [local irreducible] CCall CO CC CX CD

theorem PSay_nil {L K} {v : Value} [o : One1 v] (h : Ht L (K (.int .i64 0))) : Ht L (CCall Try.prog 59 [.pointer none, v] K) := by
  refine ccall2 Try.func59 rfl (by decide) Try.ntmps59 (by rfl) (by decide) ?_
  repeat (refine stp ?_)
  exact ret1 rfl (Ht.frm h)
theorem PTick_nil {L K}  (h : Ht L (K (.slice none 0 0))) : Ht L (CCall Try.prog 67 [.pointer none] K) := by
  refine ccall1 Try.func67 rfl (by decide) Try.ntmps67 (by rfl) (by decide) ?_
  repeat (refine stp ?_)
  exact ret1 rfl (Ht.frm h)
theorem PReady_nil {L K}  (h : Ht L (K (.tuple #[.slice none 0 0, .bool false]))) : Ht L (CCall Try.prog 70 [.pointer none] K) := by
  refine ccall1 Try.func70 rfl (by decide) Try.ntmps70 (by rfl) (by decide) ?_
  repeat (refine stp ?_)
  exact ret2 rfl (Ht.frm h)
theorem PSaid_nil {L K}  (h : Ht L (K (.int .i64 0))) : Ht L (CCall Try.prog 71 [.pointer none] K) := by
  refine ccall1 Try.func71 rfl (by decide) Try.ntmps71 (by rfl) (by decide) ?_
  repeat (refine stp ?_)
  exact ret1 rfl (Ht.frm h)
theorem PWaiting_nil {L K}  (h : Ht L (K (.int .i64 0))) : Ht L (CCall Try.prog 72 [.pointer none] K) := by
  refine ccall1 Try.func72 rfl (by decide) Try.ntmps72 (by rfl) (by decide) ?_
  repeat (refine stp ?_)
  exact ret1 rfl (Ht.frm h)
theorem PTaken_nil {L K}  (h : Ht L (K (.int .i64 0))) : Ht L (CCall Try.prog 73 [.pointer none] K) := by
  refine ccall1 Try.func73 rfl (by decide) Try.ntmps73 (by rfl) (by decide) ?_
  repeat (refine stp ?_)
  exact ret1 rfl (Ht.frm h)
theorem PRestore_nil {L K} {v : Value} {n : Int} [o : One1 v] (h : Ht L (K (.int .i64 10))) : Ht L (CCall Try.prog 69 [.pointer none, v, .int .i64 n] K) := by
  refine ccall3 Try.func69 rfl (by decide) Try.ntmps69 (by rfl) (by decide) ?_
  repeat (refine stp ?_)
  exact ret1 rfl (Ht.frm h)
theorem PTake_nil {L K}  (h : Ht L (K (.tuple #[zeroP, .bool false]))) : Ht L (CCall Try.prog 65 [.pointer none] K) := by
  refine ccall1 Try.func65 rfl (by decide) Try.ntmps65 (by rfl) (by decide) ?_
  repeat (refine stp ?_)
  intro y
  repeat (refine stp ?_)
  exact retct rfl (Ht.frm h)
theorem PHear_nil {L K} {v : Value} {kind fr to n : Int} [o : One1 v] (h : Ht L (K (.tuple #[zeroP, .bool false, .int .i64 10]))) : Ht L (CCall Try.prog 61 [.pointer none, .agg #[.int .i64 kind, .int .i64 fr, .int .i64 to, .int .i64 n, v]] K) := by
  refine ccall2 Try.func61 rfl (by decide) Try.ntmps61 (by rfl) (by decide) ?_
  repeat (refine stp ?_)
  intro c
  repeat (refine stp ?_)
  intro y
  repeat (refine stp ?_)
  exact retctt rfl (Ht.frm h)
theorem ytake_min {xs : List UInt8} {m : Nat} : xs.take (min xs.length m) = xs.take m := by
  by_cases h : xs.length ≤ m
  · rw [Nat.min_eq_left h, List.take_length, List.take_of_length_le h]
  · rw [Nat.min_eq_right (by omega)]
theorem To_spec {L K} {kind fr to n : Int} {sa : Option Addr} {sl sc : Nat} {bs : List UInt8} [rs : RdE L encB (.slice sa sl sc) bs]
    (h : ∀ sv : SVy, RdE L encB (svY sv) (bs.take 100) → Ht L (K (.agg #[.int .i64 kind, .int .i64 fr, .int .i64 to, .int .i64 n, svY sv]))) :
    Ht L (CCall Try.prog 60 [.agg #[.int .i64 kind, .int .i64 fr, .int .i64 to, .int .i64 n, .slice sa sl sc]] K) := by
  refine Ht.know (p := sl = bs.length ∧ bs.length ≤ 9223372036854775807) (fun w s => ?_) (fun ⟨e, hbl⟩ => ?_)
  · have hh := rs.h w s
    obtain ⟨a, c, hv, _, _⟩ := sliceIn_of hh
    cases hv
    exact ⟨rfl, hh.le⟩
  subst e
  haveI := rs.toS
  have hrs : ∀ (M : List HP) [fr : Frm M L], RdS M (.slice sa bs.length sc) encB bs := fun M fr => ⟨fun w t => (rs.h w (fr.h _ _ t))⟩
  refine ccall1 Try.func60 rfl (by decide) Try.ntmps60 (by rfl) (by decide) ?_
  repeat (refine stp ?_)
  intro c
  repeat (refine stp ?_)
  intro y
  repeat (refine stp ?_)
  refine ht_draw Try.can60x1 Try.mixed (by kernel_rfl) ?_
  repeat (refine stp ?_)
  rewrite [show (if (100 : Int) < bs.length then 100 else (bs.length : Int)) = ((min bs.length 100 : Nat) : Int) from by split <;> omega]
  refine cd_slice (xs := bs) (by omega) ?_
  intro hsl _
  have rs2 : ∀ w, Sat L w → SlIn w (slSub (Value.slice sa bs.length sc) 1 0 (min bs.length 100)) encB (bs.take 100) := fun w s => by
    have := slSub_in (rs.h w s) (lo := 0) (hi := min bs.length 100) ⟨by omega, by omega⟩
    rw [List.drop_zero, ytake_min] at this
    exact this
  refine Ht.know (p := ∃ sv : SVy, slSub (Value.slice sa bs.length sc) 1 0 (min bs.length 100) = svY sv) (fun w s => ?_) (fun ⟨sv, e⟩ => ?_)
  · obtain ⟨a, c, hv, _, _⟩ := sliceIn_of (rs2 w s.tail.tail)
    exact ⟨(a, _, c), hv⟩
  rewrite [e]
  repeat (refine stp ?_)
  rw [e] at rs2
  exact retc rfl (Ht.frm (h sv ⟨rs2⟩))
theorem known15_spec {L K} (h : Ht L (K (.bool true))) : Ht L (CCall Try.prog 57 [] K) := by
  refine ccall0 Try.func57 rfl (by decide) Try.ntmps57 (by rfl) (by decide) ?_
  repeat (refine stp ?_)
  refine PNew_spec (fun hh => by simp [pairM] at hh) (fun _ a => ?_)
  repeat (refine stp ?_)
  refine PNew_spec (fun hh => by simp [pairM] at hh) (fun _ b => ?_)
  repeat (refine stp ?_)
  intro c1
  repeat (refine stp ?_)
  refine co_constBytes [120] ?_ ?_
  · rfl
  repeat (refine stp ?_)
  intro c2
  repeat (refine stp ?_)
  refine Ht.own_lit encY (b := c2) (n := 1) (xs := [(some ⟨c1, 0, none⟩, 1, 1)]) rfl rfl (by decide) ?_
  refine PSay_spec (b := a) (s := ⟨0, 1, [], 0, 0, []⟩) (ms := [((some ⟨c1, 0, none⟩, 1, 1), [120])]) ?_ (by simp) (fun x hx => by rw [List.mem_singleton.1 hx]; simp) ?_
  · intro x hx
    rw [List.mem_singleton.1 hx]
    show RdE _ encB (.slice (some ⟨c1, 0, none⟩) 1 1) [120]
    infer_instance
  dsimp only
  rewrite [show ([] : List (List UInt8)) ++ gby [((some ⟨c1, 0, none⟩, 1, 1), [120])] = [[120]] from rfl]
  repeat (refine stp ?_)

  repeat (refine stp ?_)
  refine PTick_spec (b := a) (s := ⟨0, 1, [[120]], 0, 0, []⟩) (by simp) (by simp) (fun x hx => by simp at hx; subst hx; simp) ?_
  intro tv l hl
  refine Ht.one1 (v := tv) ?_
  intro _
  obtain ⟨x, rfl, hx⟩ : ∃ x : SB, l = [x] ∧ x.2 = [120] := by
    have h1 : gby l = [[120]] := hl
    match l, h1 with
    | [x], h1 => exact ⟨x, rfl, by simpa [gby] using h1⟩
    | [], h1 => simp [gby] at h1
    | _ :: _ :: _, h1 => simp [gby] at h1
  rewrite [show (pkA 0 1 ((0 : Nat) : Int) [x]) = [(1, 0, 1, 0, x.1)] from rfl]
  repeat (refine stp ?_)
  refine ht_if ?_ ?_ <;> intro hz2
  · exact absurd hz2 (by simp)
  repeat (refine stp ?_)
  refine co_index (xs := [(1, 0, 1, 0, x.1)]) (by simp) ?_
  intro hb
  repeat (refine stp ?_)
  rewrite [show ([(1, 0, 1, 0, x.1)] : List P5)[0]! = (1, 0, 1, 0, x.1) from rfl]
  have hmx : ∀ (M M' : List HP) [q : Pull (bigO (ownY 5)) M [x] M'], RdE M encB (.slice x.1.1 x.1.2.1 x.1.2.2) [120] := fun M M' q => ⟨fun w t => by rw [← hx]; exact bigY_at (List.mem_singleton.2 rfl) (q.h _ _ t)⟩
  have e1 : hearM 1 0 1 0 [120] ⟨1, 0, [], 0, 0, []⟩ = (true, 0, ⟨1, 0, [], 0, 0, [(0, [120])]⟩) := by rfl
  refine PHear_spec (b := b) (s := ⟨1, 0, [], 0, 0, []⟩) (bs := [120]) (by simp) (by simp) (by simp) (by simp) (by simp) (fun hh => by rw [e1] at hh; cases hh) (fun _ y1 => ?_)
  refine Ht.one1 (v := y1) ?_
  intro _
  rewrite [e1]
  dsimp only
  repeat (refine stp ?_)
  intro c3
  repeat (refine stp ?_)
  refine PTake_spec (b := b) (s := ⟨1, 0, [], 0, 0, [(0, [120])]⟩) (by simp) (by simp) (fun hh => absurd hh (by decide)) (fun _ y2 => ?_)
  refine Ht.know (p := ∃ sv : SVy, y2 = svY sv) (fun w t => own_svY t) (fun ⟨sv2, e⟩ => ?_)
  subst e
  refine Ht.one1 (v := svY sv2) ?_
  intro _
  dsimp only
  rewrite [show tdrop (0 : Int) [((0 : Int), [(120 : UInt8)])] = [] from rfl, show ((0 : Int) + 1) = 1 from rfl]
  repeat (refine stp ?_)
  intro c4
  repeat (refine stp ?_)
  have e2 : hearM 2 1 0 1 [] ⟨0, 1, [[120]], 0, 0, []⟩ = (false, 0, ⟨0, 1, [[120]], 1, 0, []⟩) := by rfl
  refine PHear_spec (b := a) (s := ⟨0, 1, [[120]], 0, 0, []⟩) (bs := []) (by simp) (by simp) (by simp) (by simp) (by simp) (fun _ => ?_) (fun hh => by rw [e2] at hh; cases hh)
  rewrite [e2]
  dsimp only
  unfold zeroP
  repeat (refine stp ?_)
  intro c5
  repeat (refine stp ?_)
  refine PWaiting_spec (b := a) (s := ⟨0, 1, [[120]], 1, 0, []⟩) ?_
  dsimp only
  rewrite [show IntKind.i64.wrap ((([[120]] : List (List UInt8)).length : Int) - ((1 : Nat) : Int)) = 0 from by decide]
  repeat (refine stp ?_)
  refine PTaken_spec (b := b) (s := ⟨1, 0, [], 0, 1, []⟩) ?_
  dsimp only
  repeat (refine stp ?_)
  exact ret1 rfl (Ht.frm h)
end Go.Proofs
