/- The parts JRN, JRO, D11C of the engine and of the walk, one behind the other: no condition. -/
import Derived.Test.YtbdhnlcnllpfiaaBacda69b5
import Derived.Test.YtbdhnlcnllpfiaaBf619cad1

set_option linter.all false
set_option synthInstance.maxSize 100000
set_option synthInstance.maxHeartbeats 400000
namespace Go.Proofs
open Go Go.SL
attribute [local irreducible] CCall CO CC CX CD

/-! ### a store that dies -/
theorem growM_sgl {name : ByteArray} {room : Int} : ∀ (xs c : List UInt8) (l : Nat), growM name xs ⟨l, false, room, [(name, c)]⟩ =
    (if xs.length ≤ l then 0 else 14, ⟨((l - xs.length : Nat) : Int), decide (l < xs.length), room, [(name, c ++ xs.take l)]⟩)
  | [], c, l => by simp [growM]
  | x :: xs, c, 0 => by simp [growM, useP]
  | x :: xs, c, l + 1 => by
    have hu : useP ((l + 1 : Nat) : Int) false = (true, (l : Int), false) := by
      simp only [useP, Bool.false_eq_true, if_false]
      rw [if_neg (by omega), if_pos (by omega)]
      simp
    have h1 : mget [(name, c)] name = some c := by rw [mget_cons, if_pos rfl]
    have h2 : mput [(name, c)] name (c ++ [x]) = [(name, c ++ [x])] := by simp [mput]
    simp only [growM, hu, if_true, h1, h2, Option.getD_some]
    rw [growM_sgl xs (c ++ [x]) l]
    simp
theorem growM_emp {name : ByteArray} {room : Int} {xs : List UInt8} (l : Nat) (hx : xs ≠ []) : ∃ fs, growM name xs ⟨l, false, room, []⟩ =
    (if xs.length ≤ l then 0 else 14, ⟨((l - xs.length : Nat) : Int), decide (l < xs.length), room, fs⟩) ∧ (mget fs name).getD [] = xs.take l := by
  cases xs with
  | nil => exact absurd rfl hx
  | cons x xs =>
    cases l with
    | zero => exact ⟨[], by simp [growM, useP], rfl⟩
    | succ l =>
      have hu : useP ((l + 1 : Nat) : Int) false = (true, (l : Int), false) := by
        simp only [useP, Bool.false_eq_true, if_false]
        rw [if_neg (by omega), if_pos (by omega)]
        simp
      refine ⟨[(name, x :: xs.take l)], ?_, by rw [mget_cons, if_pos rfl]; rfl⟩
      have h1 : mget ([] : List (ByteArray × List UInt8)) name = none := rfl
      have h2 : mput ([] : List (ByteArray × List UInt8)) name ([] ++ [x]) = [(name, [x])] := rfl
      simp only [growM, hu, if_true, h1, h2, Option.getD_none]
      rw [growM_sgl xs [x] l]
      simp
theorem fLog_get (l : List (Int × List UInt8)) : (mget (fLog l) logN).getD [] = recsF l := by
  unfold fLog
  split
  · next h => subst h; rfl
  · rw [mget_cons, if_pos rfl]; rfl
theorem fLog_used (l : List (Int × List UInt8)) : usedF (fLog l) = (recsF l).length := by
  unfold fLog
  split
  · next h => subst h; rfl
  · exact usedF_sgl _ _
/-- what is told of an act, and what lies there behind it -/
def After (e : Int) (st : St) (have_ then_ : List (List UInt8)) : Prop :=
  (e = 0 ∨ e = 14) ∧ ∃ (R : List (Int × List UInt8)), (jlogB st).length ≤ 2000000 ∧ jlogR st = R ∧ R.length ≤ 100 ∧ (∀ r ∈ R, 0 ≤ r.1 ∧ r.2.length ≤ 1000) ∧ ((e = 0 ∧ R.map (fun x => x.2) = then_) ∨ (e = 14 ∧ (R.map (fun x => x.2) = then_ ∨ R.map (fun x => x.2) = have_)))
theorem jlogR_of {st : St} {n : Int} {l : List (List UInt8)} {p : List UInt8} (h : jlogB st = recsF (num n l) ++ p) (hp : frs p = []) (h0 : 0 ≤ n) (h1 : n + l.length ≤ grB + 1) (hl : ∀ x ∈ l, x.length ≤ 1000000) : jlogR st = num n l := by
  unfold jlogR
  rw [h, frs_recs _ _ (fun x hx => hl _ (num_mem hx).2.2), hp, List.append_nil, jrd_recs l n 0 true h0 h1 (fun hh => by cases hh)]
theorem after_app {u : Nat} {d : Nat} {l : List (List UInt8)} {x : List UInt8} (hn : l.length ≤ 40) (hl : ∀ y ∈ l, y.length ≤ 1000) (hx : x.length ≤ 1000) :
    After (appJ x ⟨num 0 l, (l.length : Int), false, d⟩ ⟨(u : Int), false, 100000, fLog (num 0 l)⟩).1.2
      { (appJ x ⟨num 0 l, (l.length : Int), false, d⟩ ⟨(u : Int), false, 100000, fLog (num 0 l)⟩).2.2 with left := -1, down := false } l (l ++ [x]) := by
  have hfl := recF_len (l.length : Int) x
  have hrl := recsF_le (l := num 0 l) (m := 1000) (fun r hr => hl _ (num_mem hr).2.2)
  rw [num_len] at hrl
  obtain ⟨fs, hap, hfs⟩ : ∃ fs, appendM logN (recF (l.length : Int) x) ⟨(u : Int), false, 100000, fLog (num 0 l)⟩ = (if (recF (l.length : Int) x).length ≤ u then 0 else 14, ⟨((u - (recF (l.length : Int) x).length : Nat) : Int), decide (u < (recF (l.length : Int) x).length), 100000, fs⟩)
      ∧ (mget fs logN).getD [] = recsF (num 0 l) ++ (recF (l.length : Int) x).take u := by
    unfold appendM
    rw [mayM_ok rfl (by simp [logN_ok]), if_neg (by simp), if_neg (by show ¬ (100000 : Int) - (usedF (fLog (num 0 l)) : Int) < _; rw [fLog_used]; omega), if_neg (fun hh => recF_ne _ _ hh.2)]
    by_cases he : num 0 l = []
    · rw [he]
      obtain ⟨fs, h1, h2⟩ := growM_emp (name := logN) (room := 100000) (xs := recF (l.length : Int) x) u (recF_ne _ _)
      exact ⟨fs, h1, h2⟩
    · have e : fLog (num 0 l) = [(logN, recsF (num 0 l))] := if_neg he
      rw [e]
      exact ⟨_, growM_sgl _ _ u, by rw [mget_cons, if_pos rfl]; rfl⟩
  have hA : appJ x ⟨num 0 l, (l.length : Int), false, d⟩ ⟨(u : Int), false, 100000, fLog (num 0 l)⟩ =
      if (recF (l.length : Int) x).length ≤ u then (((l.length : Int), 0), ⟨tput (l.length : Int) x (num 0 l), (l.length : Int) + 1, false, d⟩, ⟨((u - (recF (l.length : Int) x).length : Nat) : Int), decide (u < (recF (l.length : Int) x).length), 100000, fs⟩)
      else ((0, 14), ⟨num 0 l, (l.length : Int), true, d⟩, ⟨((u - (recF (l.length : Int) x).length : Nat) : Int), decide (u < (recF (l.length : Int) x).length), 100000, fs⟩) := by
    unfold appJ
    dsimp only
    rw [if_neg (by decide), if_neg (by unfold grB; omega), hap]
    split
    · simp
    · simp
  have hall : ∀ y ∈ l ++ [x], y.length ≤ 1000 := fun y hy => by
    rcases List.mem_append.1 hy with h | h
    · exact hl y h
    · rw [List.mem_singleton.1 h]; exact hx
  have hll : (l ++ [x]).length = l.length + 1 := by simp
  rw [hA]
  by_cases hu : (recF (l.length : Int) x).length ≤ u
  · rw [if_pos hu]
    dsimp only
    have hb : jlogB ⟨-1, false, 100000, fs⟩ = recsF (num 0 (l ++ [x])) ++ [] := by
      unfold jlogB
      rw [hfs, List.take_of_length_le hu, List.append_nil, num_app, Int.zero_add]
      exact (recsF_snoc _ _ _).symm
    refine ⟨.inl rfl, num 0 (l ++ [x]), ?_, jlogR_of hb rfl (by decide) (by rw [hll]; unfold grB; omega) (fun y hy => by have := hall y hy; omega), by rw [num_len]; omega, fun r hr => ⟨(num_mem hr).1, hall _ (num_mem hr).2.2⟩, .inl ⟨rfl, num_snd _ _⟩⟩
    have := recsF_le (l := num 0 (l ++ [x])) (m := 1000) (fun r hr => hall _ (num_mem hr).2.2)
    rw [num_len] at this
    rw [hb, List.append_nil]; omega
  · rw [if_neg hu]
    dsimp only
    have hb : jlogB ⟨-1, false, 100000, fs⟩ = recsF (num 0 l) ++ (recF (l.length : Int) x).take u := hfs
    have hsl := @sevensM_len (UInt64.ofInt (l.length : Int)) 10
    have hp : frs ((recF (l.length : Int) x).take u) = [] := by
      unfold recF
      refine frs_part (by rw [List.length_append]; omega) ?_
      unfold recF at hu
      rw [makeF_len] at hu; omega
    refine ⟨.inr rfl, num 0 l, ?_, jlogR_of hb hp (by decide) (by unfold grB; omega) (fun y hy => by have := hl y hy; omega), by rw [num_len]; omega, fun r hr => ⟨(num_mem hr).1, hl _ (num_mem hr).2.2⟩, .inr ⟨rfl, .inr (num_snd _ _)⟩⟩
    rw [hb, List.length_append, List.length_take]; omega
theorem after_trim {u : Nat} {d : Nat} {k : Int} {l : List (List UInt8)} (hk : 0 ≤ k) (hn : l.length ≤ 40) (hl : ∀ y ∈ l, y.length ≤ 1000) :
    After (trimJ k ⟨num 0 l, (l.length : Int), false, d⟩ ⟨(u : Int), false, 100000, fLog (num 0 l)⟩).1
      { (trimJ k ⟨num 0 l, (l.length : Int), false, d⟩ ⟨(u : Int), false, 100000, fLog (num 0 l)⟩).2.2 with left := -1, down := false } l (l.drop (tpos k (num 0 l))) := by
  have hrl := recsF_le (l := num 0 l) (m := 1000) (fun r hr => hl _ (num_mem hr).2.2)
  rw [num_len] at hrl
  have hdl : ∀ y ∈ l.drop (tpos k (num 0 l)), y.length ≤ 1000 := fun y hy => hl y (List.mem_of_mem_drop hy)
  have hrd := recsF_le (l := num (0 + (tpos k (num 0 l) : Nat)) (l.drop (tpos k (num 0 l)))) (m := 1000) (fun r hr => hdl _ (num_mem hr).2.2)
  rw [num_len, List.length_drop] at hrd
  rw [trimJ_move rfl]
  dsimp only
  rw [num_drop]
  have hn2 : (tpos k (num 0 l)) ≤ l.length := by
    have := tpos_le (k := k) (l := num 0 l)
    rwa [num_len] at this
  have hne : mget (fLog (num 0 l)) lognN = none := by
    unfold fLog
    split
    · rfl
    · rw [mget_cons, if_neg (fun e => log_ne e.symm)]; rfl
  have hout := moveM_out (fr := lognN) (to := logN) (f := recsF (num (0 + (tpos k (num 0 l) : Nat)) (l.drop (tpos k (num 0 l))))) (s := ⟨(u : Int), false, 100000, fLog (num 0 l)⟩) rfl lognN_ok logN_ok log_ne (by
    have e2 : (⟨(u : Int), false, 100000, fLog (num 0 l)⟩ : St).used = usedF (fLog (num 0 l)) := rfl
    rw [e2, fLog_used]
    dsimp only
    have h5 : (l.length - tpos k (num 0 l)) * (1000 + 19) ≤ 40 * 1019 := Nat.mul_le_mul (by omega) (by omega)
    rw [hne]
    have h6 : l.length * (1000 + 19) ≤ 40 * 1019 := Nat.mul_le_mul (by omega) (by omega)
    rw [Option.getD_none]; show (_ : Int) ≤ _ + ((0 : Nat) : Int); omega)
  generalize moveM lognN logN (recsF (num (0 + (tpos k (num 0 l) : Nat)) (l.drop (tpos k (num 0 l))))) ⟨(u : Int), false, 100000, fLog (num 0 l)⟩ = mv at hout ⊢
  obtain ⟨e, st⟩ := mv
  dsimp only at hout ⊢
  rcases hout with ⟨h1, h2⟩ | ⟨h1, h2⟩
  · subst h1
    have hb : jlogB { st with left := -1, down := false } = recsF (num (0 + (tpos k (num 0 l) : Nat)) (l.drop (tpos k (num 0 l)))) ++ [] := by
      unfold jlogB
      show (mget st.files logN).getD [] = _
      rw [h2, List.append_nil]; rfl
    refine ⟨.inl rfl, num (0 + (tpos k (num 0 l) : Nat)) (l.drop (tpos k (num 0 l))), ?_, jlogR_of hb rfl (by omega) (by rw [List.length_drop]; unfold grB; omega) (fun y hy => by have := hdl y hy; omega), by rw [num_len, List.length_drop]; omega, fun r hr => ⟨by have := (num_mem hr).1; omega, hdl _ (num_mem hr).2.2⟩, .inl ⟨rfl, num_snd _ _⟩⟩
    rw [hb, List.append_nil]; omega
  · subst h1
    have hb : jlogB { st with left := -1, down := false } = recsF (num 0 l) ++ [] := by
      unfold jlogB
      show (mget st.files logN).getD [] = _
      rw [h2, List.append_nil]
      exact fLog_get _
    refine ⟨.inr rfl, num 0 l, ?_, jlogR_of hb rfl (by decide) (by unfold grB; omega) (fun y hy => by have := hl y hy; omega), by rw [num_len]; omega, fun r hr => ⟨(num_mem hr).1, hl _ (num_mem hr).2.2⟩, .inr ⟨rfl, .inr (num_snd _ _)⟩⟩
    rw [hb, List.append_nil]; omega
theorem srt_from {k : Int} : ∀ {l : List (Int × List UInt8)}, Srt l → l.filter (fun x => decide (k ≤ x.1)) = l.drop (tpos k l)
  | [], _ => rfl
  | x :: l, h => by
    have hc := List.pairwise_cons.1 h
    by_cases hx : k ≤ x.1
    · have ht : tpos k (x :: l) = 0 := by
        unfold tpos
        rw [List.takeWhile_cons, if_neg (by show ¬ decide (x.1 < k) = true; simp; omega)]; rfl
      rw [ht, List.drop_zero, List.filter_eq_self]
      intro y hy
      rcases List.mem_cons.1 hy with rfl | hy
      · exact decide_eq_true hx
      · have : x.1 < y.1 := of_decide_eq_true (hc.1 y hy)
        exact decide_eq_true (by omega)
    · have ht : tpos k (x :: l) = tpos k l + 1 := by
        unfold tpos
        rw [List.takeWhile_cons, if_pos (by show decide (x.1 < k) = true; simp; omega)]; rfl
      rw [ht, List.drop_succ_cons, List.filter_cons_of_neg (by simpa using hx), srt_from hc.2]
end Go.Proofs

set_option linter.all false
set_option synthInstance.maxSize 100000
set_option synthInstance.maxHeartbeats 400000
namespace Go.Proofs
open Go Go.SL
attribute [local irreducible] CCall CO CC CX CD

theorem rvals_len (q : GR) : (rvals q).length = q.length := by simp [rvals]
theorem rvals_at {q : GR} {i : Nat} (hi : i < q.length) : (rvals q)[i]! = (q[i]!.1, q[i]!.2.1) := by
  rw [getElem!_pos (rvals q) i (by rw [rvals_len]; exact hi), getElem!_pos q i hi]; simp [rvals]
theorem take_snoc {α : Type} [Inhabited α] {q : List α} {i : Nat} (hi : i < q.length) : q.take (i + 1) = q.take i ++ [q[i]!] := by
  rw [List.take_add_one, List.getElem?_eq_getElem hi, getElem!_pos q i hi]; rfl
theorem From11_spec {L K v} {q : GR} {n : Int} [rs : RdE L enc_iy v (rvals q)] (hl : q.length ≤ 1000000)
    (h : ∀ ov, One1 ov → Ht (own enc_iy 80 ov (rvals (q.filter fun x => decide (n ≤ x.1))) :: L) (K ov)) : Ht L (CCall Try.prog 50 [v, .int .i64 n] K) := by
  haveI := rs.toS
  have hqv := rvals_len q
  refine Ht.know (p := One1 v) (fun w t => one1_of (rs.h w t)) (fun ho => ?_)
  refine ccall2 Try.func50 rfl (by decide) Try.ntmps50 (by rfl) (by decide) ?_
  repeat (refine stp ?_)
  refine ht_for q.length (fun i (x : Value × GR) => x.2 = (q.take i).filter (fun x => decide (n ≤ x.1)) ∧ One1 x.1) (fun i x => own enc_iy 80 x.1 (rvals x.2) :: L) (fun i x => [(6, .int .i64 i), (5, x.1)]) (.slice none 0 0, []) [6, 5]
    ⟨rfl, ⟨rfl⟩⟩ (fun w t => own_nil.2 t) (SubE.cons rfl (SubE.cons rfl inferInstance)) ?_
  intro i ⟨ov, q2⟩ hi ⟨hq, oo⟩
  dsimp only [List.cons_append, List.nil_append] at hq oo ⊢
  have hq2 : q2.length ≤ i := by
    rw [hq]
    have := List.length_filter_le (fun x : Int × SB => decide (n ≤ x.1)) (q.take i)
    rw [List.length_take] at this; omega
  have hqv2 := rvals_len q2
  repeat (refine stp ?_)
  refine ht_if ?_ ?_ <;> intro hc <;> simp only [decide_eq_true_eq, decide_eq_false_iff_not] at hc
  · have hii : i < q.length := by omega
    repeat (refine stp ?_)
    refine co_index (xs := rvals q) (by omega) ?_
    intro hb
    repeat (refine stp ?_)
    rewrite [rvals_at hii]
    refine ht_if ?_ ?_ <;> intro hge <;> simp only [decide_eq_true_eq, decide_eq_false_iff_not] at hge
    · repeat (refine stp ?_)
      refine co_index (xs := rvals q) (by omega) ?_
      intro hb2
      repeat (refine stp ?_)
      rewrite [rvals_at hii]
      intro b1
      repeat (refine stp ?_)
      refine Ht.own_lit enc_iy (b := b1) (n := 1) (xs := [(q[i]!.1, q[i]!.2.1)]) rfl rfl (by decide) ?_
      refine co_append (e := enc_iy) (xs := rvals q2) (ys := [(q[i]!.1, q[i]!.2.1)]) (by rfl) (by simp; omega) (by simp; omega) ?_
      intro ov2
      refine Ht.one1 (v := ov2) ?_
      intro oo2
      rewrite [show rvals q2 ++ [(q[i]!.1, q[i]!.2.1)] = rvals (q2 ++ [q[i]!]) from by simp [rvals]]
      repeat (refine stp ?_)
      refine ht_next (ov2, q2 ++ [q[i]!]) hii ⟨?_, oo2⟩ (fun w t => (inferInstance : Frm _ _).h _ _ t) (SubE.cons ?_ (SubE.cons rfl inferInstance)) rfl rfl
      · show q2 ++ [q[i]!] = _
        rw [take_snoc hii, List.filter_append, ← hq, List.filter_cons_of_pos (by simpa using hge)]; rfl
      · rw [IntWalk.i64_in _ (by omega)]; rfl
    · repeat (refine stp ?_)
      refine ht_next (ov, q2) hii ⟨?_, oo⟩ (fun w t => t) (SubE.cons ?_ (SubE.cons rfl inferInstance)) rfl rfl
      · show q2 = _
        rw [take_snoc hii, List.filter_append, ← hq, List.filter_cons_of_neg (by simpa using hge)]; simp
      · rw [IntWalk.i64_in _ (by omega)]; rfl
  · have ei : i = q.length := by omega
    subst ei
    repeat (refine stp ?_)
    rw [List.take_length] at hq
    subst hq
    exact ret1 rfl (Ht.frm (h ov oo))
/-- the parts taken of the first eight texts -/
def clip (l : List (List UInt8)) : List (List UInt8) := (l.take 8).map fun x => x.take 40
theorem clip_len (l : List (List UInt8)) : (clip l).length = min 8 l.length := by unfold clip; simp
theorem clip_mem {l : List (List UInt8)} : ∀ x ∈ clip l, x.length ≤ 40 := fun x hx => by
  unfold clip at hx
  obtain ⟨y, _, rfl⟩ := List.mem_map.1 hx
  rw [List.length_take]; omega
theorem clip_at {l : List (List UInt8)} {i : Nat} (h8 : i < 8) (hi : i < l.length) : (clip l).take (i + 1) = (clip l).take i ++ [(l[i]!).take 40] := by
  have hc : i < (clip l).length := by rw [clip_len]; omega
  rw [take_snoc hc, getElem!_pos (clip l) i hc, getElem!_pos l i hi]
  unfold clip; simp
theorem num_fst {l : List (List UInt8)} {n : Int} : ∀ r ∈ num n l, n ≤ r.1 := fun r hr => (num_mem hr).1
theorem rbytes_filter (q : GR) (n : Int) : rbytes (q.filter fun x => decide (n ≤ x.1)) = (rbytes q).filter fun x => decide (n ≤ x.1) := by
  unfold rbytes; rw [List.filter_map]; rfl
theorem rsnd (q : GR) : (q.map fun x => x.2.2) = (rbytes q).map fun x => x.2 := by unfold rbytes; rw [List.map_map]; rfl
theorem JournalEnds_spec {L K v} {xa : Option Addr} {xc : Nat} {ms : List SB} {xs : List UInt8} {n units : Int} {trim : Bool} [rs : RdE L encY v (gsv ms)] (hm : ∀ x ∈ ms, RdE L encB (svY x.1) x.2) [rx : RdE L encB (.slice xa xs.length xc) xs] (h : Ht L (K (.bool true))) :
    Ht L (CCall Try.prog 9 [v, .slice xa xs.length xc, .int .i64 n, .int .i64 units, .bool trim] K) := by
  haveI : NZ 10 := ⟨by decide⟩
  haveI : NZ 400 := ⟨by decide⟩
  obtain ⟨kn, hkn, hkn10⟩ := modw n (n := 10) (by decide) (by decide)
  obtain ⟨u, hu, hu400⟩ := modw units (n := 400) (by decide) (by decide)
  rewrite [show ((10 : Nat) : Int) = 10 from rfl] at hkn
  rewrite [show ((400 : Nat) : Int) = 400 from rfl] at hu
  have hgs := gsv_len (ms := ms)
  have hgb := gby_len (ms := ms)
  have hmM : ∀ (M : List HP) [fr : Frm M L] (x : SB), x ∈ ms → RdE M encB (svY x.1) x.2 := fun M fr x hx => ⟨fun w t => (hm x hx).h w (fr.h _ _ t)⟩
  have hrs : ∀ (M : List HP) [fr : Frm M L], RdS M v encY (gsv ms) := fun M fr => ⟨fun w t => rs.h w (fr.h _ _ t)⟩
  have hrx : ∀ (M : List HP) [fr : Frm M L], RdS M (.slice xa xs.length xc) encB xs := fun M fr => ⟨fun w t => (rx.h w (fr.h _ _ t))⟩
  refine Ht.know (p := (One1 v ∧ (gsv ms).length ≤ 9223372036854775807) ∧ (∀ x ∈ ms, x.2.length ≤ 9223372036854775807 ∧ x.1.2.1 = x.2.length) ∧ xs.length ≤ 9223372036854775807) (fun w s => ⟨⟨one1_of (rs.h w s), (rs.h w s).le⟩, fun x hx => ⟨((hm x hx).h w s).le, slIn_len ((hm x hx).h w s)⟩, (rx.h w s).le⟩) (fun ⟨⟨ov, hle⟩, hxl, hxs⟩ => ?_)
  refine ccall5 Try.func9 rfl (by decide) Try.ntmps9 (by rfl) (by decide) ?_
  repeat (refine stp ?_)
  refine New_spec (fun hh => by omega) (fun _ _ d => ?_)
  repeat (refine stp ?_)
  refine JOpen_new fun b => ?_
  repeat (refine stp ?_)
  have hcl := clip_len (gby ms)
  refine cc_env (E' := [(16, .int .i64 0), (15, .slice none 0 0), (11, .pointer (some ⟨d, 0, none⟩)), (13, .pointer (some ⟨b, 0, none⟩)), (10, .bool false), (0, v), (1, .slice xa xs.length xc), (2, .int .i64 n), (3, .int .i64 units), (4, .bool trim)]) inferInstance ?_
  refine ht_for (clip (gby ms)).length (fun i (x : Value × GR) => rbytes x.2 = num 0 ((clip (gby ms)).take i) ∧ (∀ y ∈ x.2, RdE L encB (svY y.2.1) y.2.2) ∧ One1 x.1) (fun i x => own enc_iy 80 x.1 (rvals x.2) :: isJ b ⟨num 0 ((clip (gby ms)).take i), 0 + (((clip (gby ms)).take i).length : Int), false, d⟩ :: isStore d ⟨-1, false, 100000, fLog (num 0 ((clip (gby ms)).take i))⟩ :: L)
    (fun i x => [(16, .int .i64 i), (15, x.1)]) (.slice none 0 0, []) [16, 15] ⟨rfl, (fun y hy => by cases hy), ⟨rfl⟩⟩ (fun w t => own_nil.2 t) (SubE.cons rfl (SubE.cons rfl inferInstance)) ?_
  intro i ⟨hv, q⟩ hi ⟨hq, hqr, oh⟩
  dsimp only [List.cons_append, List.nil_append] at hq hqr oh ⊢
  have hqn : q.length = i := by
    have := congrArg List.length hq
    rw [num_len, List.length_take] at this
    unfold rbytes at this
    rw [List.length_map] at this; omega
  have hqv := rvals_len q
  have htl : ((clip (gby ms)).take i).length = i := by rw [List.length_take]; omega
  have hctm : ∀ y ∈ (clip (gby ms)).take i, y.length ≤ 40 := fun y hy => clip_mem y (List.mem_of_mem_take hy)
  repeat (refine stp ?_)
  refine ht_val 3 [(51, .bool (decide (i < (clip (gby ms)).length))), (16, .int .i64 i), (15, hv), (11, .pointer (some ⟨d, 0, none⟩)), (13, .pointer (some ⟨b, 0, none⟩)), (10, .bool false), (0, v), (1, .slice xa xs.length xc), (2, .int .i64 n), (3, .int .i64 units), (4, .bool trim)] ?_ ?_
  · intro rest Q3 hQ3
    dsimp only [List.take_succ_cons, List.take_zero, List.cons_append, List.nil_append]
    by_cases h1 : i < ms.length
    · rewrite [show decide ((i : Int) < ((gsv ms).length : Int)) = true from decide_eq_true (by omega)]
      repeat (refine stp ?_)
      refine co_leave hQ3 (SubE.cons (congrArg Value.bool ?_) inferInstance)
      exact decide_eq_decide.2 (by omega)
    · rewrite [show decide ((i : Int) < ((gsv ms).length : Int)) = false from decide_eq_false (by omega)]
      repeat (refine stp ?_)
      refine co_leave hQ3 (SubE.cons (congrArg Value.bool ?_) inferInstance)
      exact (decide_eq_false (by omega)).symm
  simp only [List.drop_succ_cons, List.drop_zero]
  by_cases hii : i < (clip (gby ms)).length
  · have hi8 : i < 8 := by omega
    have him : i < ms.length := by omega
    have hgv : (gsv ms)[i]! = (ms[i]!).1 := by rw [getElem!_pos ms i him, getElem!_pos (gsv ms) i (by omega)]; simp [gsv]
    have hgbi : (gby ms)[i]! = (ms[i]!).2 := by rw [getElem!_pos ms i him, getElem!_pos (gby ms) i (by omega)]; simp [gby]
    have hxi := hxl _ (List.mem_of_getElem? (getB him))
    have hxr : ∀ (M : List HP) [fr : Frm M L], RdS M (.slice ((gsv ms)[i]!).1 ((gsv ms)[i]!).2.1 ((gsv ms)[i]!).2.2) encB (ms[i]!).2 := fun M fr => by
      rw [hgv]; exact (hmM M _ (List.mem_of_getElem? (getB him))).toS
    rewrite [decide_eq_true hii]
    repeat (refine stp ?_)
    refine ht_draw Try.can9x9 Try.mixed (by kernel_rfl) ?_
    repeat (refine stp ?_)
    refine cd_index (xs := gsv ms) (by omega) ?_
    intro hb1 hb2
    repeat (refine stp ?_)
    have hmin : (if (40 : Int) < (((gsv ms)[i]!).2.1 : Int) then 40 else (((gsv ms)[i]!).2.1 : Int)) = ((min (ms[i]!).2.length 40 : Nat) : Int) := by
      rw [hgv, hxi.2]; split <;> omega
    rewrite [hmin]
    refine cd_slice (xs := (ms[i]!).2) (by omega) ?_
    intro hs0 hs1
    have hb1 : ∀ (M : List HP) [fr : Frm M L], RdE M encB (slSub (.slice ((gsv ms)[i]!).1 ((gsv ms)[i]!).2.1 ((gsv ms)[i]!).2.2) 1 0 (min (ms[i]!).2.length 40)) ((ms[i]!).2.take 40) := fun M fr => ⟨fun w t => by
      have := slSub_in ((hxr M).h w t) (lo := 0) (hi := min (ms[i]!).2.length 40) ⟨by omega, by omega⟩
      rw [List.drop_zero, stake_min] at this
      exact this⟩
    haveI ob : One1 (slSub (.slice ((gsv ms)[i]!).1 ((gsv ms)[i]!).2.1 ((gsv ms)[i]!).2.2) 1 0 (min (ms[i]!).2.length 40)) := ⟨rfl⟩
    have hsf : ∃ s : SVy, slSub (.slice ((gsv ms)[i]!).1 ((gsv ms)[i]!).2.1 ((gsv ms)[i]!).2.2) 1 0 (min (ms[i]!).2.length 40) = svY s := ⟨(_, _, _), rfl⟩
    generalize slSub (.slice ((gsv ms)[i]!).1 ((gsv ms)[i]!).2.1 ((gsv ms)[i]!).2.2) 1 0 (min (ms[i]!).2.length 40) = bv at hb1 ob hsf ⊢
    repeat (refine stp ?_)
    obtain ⟨s, es⟩ := hsf
    subst es
    have hxl2 : ((ms[i]!).2.take 40).length ≤ 40 := by rw [List.length_take]; omega
    have hrl := recsF_le (l := num 0 ((clip (gby ms)).take i)) (m := 40) (fun r hr => hctm _ (num_mem hr).2.2)
    rw [num_len, htl] at hrl
    have hsn := clip_at hi8 (show i < (gby ms).length by omega)
    rw [hgbi] at hsn
    generalize (ms[i]!).2.take 40 = x at hb1 hxl2 hsn
    refine JAppend_free (b := b) (d := d) (n := 0) (l := (clip (gby ms)).take i) (x := x) (by decide) (by rw [htl]; unfold grB; omega) (by omega) (by omega) (by omega) (by
      by_cases h0 : i = 0
      · subst h0; exact .inr ⟨rfl, rfl⟩
      · left
        unfold fLog
        rw [if_neg (fun e => h0 (by have := congrArg List.length e; rw [num_len, htl] at this; exact this))]) ?_
    rewrite [← hsn]
    repeat (refine stp ?_)
    unfold svY
    repeat (refine stp ?_)
    intro b2
    repeat (refine stp ?_)
    refine Ht.own_lit enc_iy (b := b2) (n := 1) (xs := [((i : Int), s)]) rfl rfl (by decide) ?_
    refine co_append (e := enc_iy) (xs := rvals q) (ys := [((i : Int), s)]) (by rfl) (by simp; omega) (by simp; omega) ?_
    intro hv2
    refine Ht.one1 (v := hv2) ?_
    intro oh2
    rewrite [show rvals q ++ [((i : Int), s)] = rvals (q ++ [((i : Int), (s, x))]) from by simp [rvals]]
    repeat (refine stp ?_)
    have hne : num 0 ((clip (gby ms)).take (i + 1)) ≠ [] := fun e => by
      have := congrArg List.length e
      rw [num_len, hsn, List.length_append] at this; simp at this
    refine ht_next (hv2, q ++ [((i : Int), (s, x))]) hii ⟨?_, ?_, oh2⟩ (fun w t => by
      dsimp only
      rw [show fLog (num 0 ((clip (gby ms)).take (i + 1))) = [(logN, recsF (num 0 ((clip (gby ms)).take (i + 1))))] from if_neg hne]
      exact (inferInstance : Frm _ _).h _ _ t) (SubE.cons ?_ (SubE.cons rfl inferInstance)) rfl rfl
    · show rbytes (q ++ [((i : Int), (s, x))]) = _
      rw [hsn, num_app, htl, ← hq, Int.zero_add]; simp [rbytes, num]
    · intro y hy
      rcases List.mem_append.1 hy with hy | hy
      · exact hqr y hy
      · rw [List.mem_singleton.1 hy]; exact hb1 L
    · rw [IntWalk.i64_in _ (by omega)]; rfl
  · have ei : i = (clip (gby ms)).length := by omega
    rewrite [decide_eq_false hii]
    rw [show (clip (gby ms)).take i = clip (gby ms) from List.take_of_length_le (by omega)] at hq htl hctm ⊢
    generalize clip (gby ms) = l at hq htl hctm hcl ei ⊢
    clear hii hi
    repeat (refine stp ?_)
    rewrite [show (if (40 : Int) < xs.length then 40 else (xs.length : Int)) = ((min xs.length 40 : Nat) : Int) from by split <;> omega]
    refine co_slice (xs := xs) (by omega) ?_
    intro hs0
    have hx1 : ∀ (M : List HP) [fr : Frm M L], RdE M encB (slSub (.slice xa xs.length xc) 1 0 (min xs.length 40)) (xs.take 40) := fun M fr => ⟨fun w t => by
      have := slSub_in ((hrx M).h w t) (lo := 0) (hi := min xs.length 40) ⟨by omega, by omega⟩
      rw [List.drop_zero, stake_min] at this
      exact this⟩
    haveI ox : One1 (slSub (.slice xa xs.length xc) 1 0 (min xs.length 40)) := ⟨rfl⟩
    have hsf : ∃ s : SVy, slSub (.slice xa xs.length xc) 1 0 (min xs.length 40) = svY s := ⟨(_, _, _), rfl⟩
    have hxl2 : (xs.take 40).length ≤ 40 := by rw [List.length_take]; omega
    generalize slSub (.slice xa xs.length xc) 1 0 (min xs.length 40) = bv at hx1 ox hsf ⊢
    generalize xs.take 40 = x at hx1 hxl2
    obtain ⟨s, es⟩ := hsf
    subst es
    rewrite [Int.zero_add]
    repeat (refine stp ?_)
    rewrite [hkn]
    repeat (refine stp ?_)
    rewrite [hu]
    refine Arm_spec' (u : Int) (by omega) (by rw [if_neg (by omega)]) ?_
    dsimp only
    repeat (refine stp ?_)
    have hqn2 : (rbytes q).map (fun x => x.2) = l := by rw [hq, num_snd]
    have hl8 : l.length ≤ 8 := by omega
    have hl40 : ∀ y ∈ l, y.length ≤ 1000 := fun y hy => by have := hctm y hy; omega
    refine ht_cutd .normal (ι := Value × GR × Int × St × Jn) (fun z => One1 z.1 ∧ (∀ y ∈ z.2.1, RdE L encB (svY y.2.1) y.2.2) ∧ After z.2.2.1 { z.2.2.2.1 with left := -1, down := false } l (z.2.1.map fun y => y.2.2))
      (fun z => own enc_iy 80 z.1 (rvals z.2.1) :: own enc_iy 80 hv (rvals q) :: isStore d z.2.2.2.1 :: isJ b z.2.2.2.2 :: L)
      (fun z => [(21, .int .i64 z.2.2.1), (20, z.1), (15, hv), (11, .pointer (some ⟨d, 0, none⟩)), (10, .bool false)]) ?_ ?_
    · intro Q' hQ
      cases trim
      · repeat (refine stp ?_)
        refine JAppend_spec (b := b) (x := x) (s := ⟨num 0 l, (l.length : Int), false, d⟩) (st := ⟨(u : Int), false, 100000, fLog (num 0 l)⟩) (by show (0 : Int) ≤ (l.length : Int); omega) (by omega) (by show (num 0 l).length ≤ _; rw [num_len]; omega) ?_
        have haf := after_app (u := u) (d := d) (l := l) (x := x) (by omega) hl40 (by omega)
        generalize appJ x ⟨num 0 l, (l.length : Int), false, d⟩ ⟨(u : Int), false, 100000, fLog (num 0 l)⟩ = r at haf ⊢
        obtain ⟨⟨r0, e⟩, s', st'⟩ := r
        dsimp only at haf ⊢
        repeat (refine stp ?_)
        intro b1
        repeat (refine stp ?_)
        refine Ht.own_lit enc_iy (b := b1) (n := 0) (xs := []) rfl rfl (by decide) ?_
        refine co_append (e := enc_iy) (xs := []) (ys := rvals q) (by rfl) (by simp; omega) (by simp; omega) ?_
        intro tv
        refine Ht.one1 (v := tv) ?_
        intro ot
        rewrite [List.nil_append]
        unfold svY
        repeat (refine stp ?_)
        intro b3
        repeat (refine stp ?_)
        refine Ht.own_lit enc_iy (b := b3) (n := 1) (xs := [(((rvals q).length : Int), s)]) rfl rfl (by decide) ?_
        refine co_append (e := enc_iy) (xs := rvals q) (ys := [(((rvals q).length : Int), s)]) (by rfl) (by simp; omega) (by simp; omega) ?_
        intro tv2
        refine Ht.one1 (v := tv2) ?_
        intro ot2
        rewrite [show rvals q ++ [(((rvals q).length : Int), s)] = rvals (q ++ [(((rvals q).length : Int), (s, x))]) from by simp [rvals]]
        repeat (refine stp ?_)
        refine cx_env inferInstance (Ht.frm (hQ (tv2, q ++ [(((rvals q).length : Int), (s, x))], e, st', s') ⟨ot2, ?_, ?_⟩))
        · intro y hy
          rcases List.mem_append.1 hy with hy | hy
          · exact hqr y hy
          · rw [List.mem_singleton.1 hy]; exact hx1 L
        · show After e _ l ((q ++ [(((rvals q).length : Int), (s, x))]).map fun y => y.2.2)
          rw [List.map_append, rsnd q, hqn2]
          exact haf
      · repeat (refine stp ?_)
        refine Trim_spec (b := b) (s := ⟨num 0 l, (l.length : Int), false, d⟩) (st := ⟨(u : Int), false, 100000, fLog (num 0 l)⟩) (k := (kn : Int)) (by show (num 0 l).length ≤ _; rw [num_len]; omega) (fun r hr => by
          obtain ⟨h1, h2, h3⟩ := num_mem hr
          have := hctm _ h3
          exact ⟨by omega, h1, by unfold grB; omega⟩) ?_
        have haf := after_trim (u := u) (d := d) (k := (kn : Int)) (l := l) (by omega) (by omega) hl40
        generalize trimJ (kn : Int) ⟨num 0 l, (l.length : Int), false, d⟩ ⟨(u : Int), false, 100000, fLog (num 0 l)⟩ = r at haf ⊢
        obtain ⟨e, s', st'⟩ := r
        dsimp only at haf ⊢
        repeat (refine stp ?_)
        refine From11_spec (q := q) (by omega) fun tv ot => ?_
        repeat (refine stp ?_)
        refine cx_env inferInstance (Ht.frm (hQ (tv, q.filter (fun x => decide ((kn : Int) ≤ x.1)), e, st', s') ⟨ot, fun y hy => hqr y (List.mem_filter.1 hy).1, ?_⟩))
        show After e _ l ((q.filter (fun x => decide ((kn : Int) ≤ x.1))).map fun y => y.2.2)
        rw [rsnd, rbytes_filter, hq, srt_from (num_srt l 0), num_drop, num_snd]
        exact haf
    rintro ⟨tv, q2, e, st, s'⟩ ⟨ot, hq2r, he, R, hlb, hlR, hRn, hRk, hR⟩
    dsimp only at ot hq2r he hlb hlR hR ⊢
    repeat (refine stp ?_)
    refine Revive_spec (s := st) ?_
    repeat (refine stp ?_)
    refine JOpen_spec (st := { st with left := -1, down := false }) rfl (show (-1 : Int) < 0 by decide) hlb fun o => ?_
    rewrite [hlR]
    repeat (refine stp ?_)
    refine Records_spec (b := o) (k := 0) eJ rfl (by show R.length ≤ _; omega) (fun r hr => by have := (hRk r hr).2; omega) fun lv g hg => ?_
    have hA := bigF_at (F := eJ) rfl (g := g)
    refine Ht.one1 (v := lv) ?_
    intro _
    have hg2 : gby g = R.map fun x => x.2 := by
      rw [hg]
      unfold fromJ
      have ht : tpos 0 R = 0 := by
        unfold tpos
        cases hr : R with
        | nil => rfl
        | cons y l =>
          have := (hRk y (by rw [hr]; exact List.mem_cons_self)).1
          rw [List.takeWhile_cons, if_neg (by show ¬ decide (y.1 < 0) = true; simp; omega)]; rfl
      rw [ht, List.drop_zero]
    have hqM : ∀ (M : List HP) [fr : Frm M L] (y : Int × SB), y ∈ q → RdE M encB (svY y.2.1) y.2.2 := fun M fr y hy => ⟨fun w t => (hqr y hy).h w (fr.h _ _ t)⟩
    have hq2M : ∀ (M : List HP) [fr : Frm M L] (y : Int × SB), y ∈ q2 → RdE M encB (svY y.2.1) y.2.2 := fun M fr y hy => ⟨fun w t => (hq2r y hy).h w (fr.h _ _ t)⟩
    have hqb : (q.map fun y => y.2.2) = l := by rw [rsnd, hqn2]
    repeat (refine stp ?_)
    refine known11_spec ?_
    repeat (refine stp ?_)
    rcases hR with ⟨rfl, hR⟩ | ⟨rfl, hR⟩
    · rewrite [show decide ((0 : Int) = 0) = true from rfl]
      repeat (refine stp ?_)
      refine Same11_spec (ms := g) (q := q2) (fun x hx => hA _ _ x hx) (fun x hx => hq2M _ x hx) ?_
      rewrite [decide_eq_true (hg2.trans hR)]
      repeat (refine stp ?_)
      refine Sound_spec (b := o) ?_
      repeat (refine stp ?_)
      exact ret1 rfl (Ht.frm h)
    · rewrite [show decide ((14 : Int) = 0) = false from rfl]
      repeat (refine stp ?_)
      refine Same11_spec (ms := g) (q := q2) (fun x hx => hA _ _ x hx) (fun x hx => hq2M _ x hx) ?_
      by_cases h2 : gby g = q2.map fun y => y.2.2
      · rewrite [decide_eq_true h2]
        repeat (refine stp ?_)
        refine Sound_spec (b := o) ?_
        repeat (refine stp ?_)
        exact ret1 rfl (Ht.frm h)
      · rewrite [decide_eq_false h2]
        repeat (refine stp ?_)
        refine Same11_spec (ms := g) (q := q) (fun x hx => hA _ _ x hx) (fun x hx => hqM _ x hx) ?_
        rewrite [decide_eq_true (show gby g = q.map (fun y => y.2.2) from by
          rcases hR with hR | hR
          · exact absurd (hg2.trans hR) h2
          · rw [hqb, hg2, hR])]
        repeat (refine stp ?_)
        refine Sound_spec (b := o) ?_
        repeat (refine stp ?_)
        exact ret1 rfl (Ht.frm h)
end Go.Proofs

set_option linter.all false
set_option synthInstance.maxSize 100000
set_option synthInstance.maxHeartbeats 400000
namespace Go.Proofs
open Go Go.SL
theorem JournalEnds_walk {w : World} {v1 v2 : Value} {ms : List SB} {xs : List UInt8} {n u : Int} {t : Bool} {K} (hm : ∀ x ∈ ms, okSB w x) [r1 : RoIn w v1 encSB ms] [r2 : RoIn w v2 encB xs]
    (h : Ht [ro w] (K (.bool true))) : Ht [ro w] (CCall Try.prog 9 [v1, v2, .int .i64 n, .int .i64 u, .bool t] K) := by
  haveI : RdE [ro w] encY v1 (gsv ms) := ⟨fun w' s => SlIn.mono (slIn_sb r1.h) (ro_le s)⟩
  obtain ⟨b, c, hv, _, _⟩ := sliceIn_of r2.h
  subst hv
  haveI : RdE [ro w] encB (.slice b xs.length c) xs := ⟨fun w' s => SlIn.mono r2.h (ro_le s)⟩
  exact JournalEnds_spec (ms := ms) (xs := xs) (fun x hx => ⟨fun w' s => SlIn.mono (hm x hx) (ro_le s)⟩) h
end Go.Proofs
