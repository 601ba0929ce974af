/- The parts JRM, D11B of the engine and of the walk, one behind the other: no condition. -/
import Derived.Test.YtbdhnlcnllpfiaaBacda69b5

set_option linter.all false
set_option synthInstance.maxSize 100000
set_option synthInstance.maxHeartbeats 400000
namespace Go.Proofs
open Go Go.SL
attribute [local irreducible] CCall CO CC CX CD

theorem jrd_len : ∀ (l : List (List UInt8)) (f : Bool) (n : Int), (jrd f n l).1.length ≤ l.length
  | [], f, n => by simp [jrd]
  | x :: l, f, n => by
    simp only [jrd]
    split
    · simp
    · have := jrd_len l false ((countM 0 x grB).2.1 + 1)
      simp only [List.length_cons]; omega
theorem frs_tot (b : List UInt8) : sizes (frs b) ≤ b.length := by
  have := (frs_drop (frs b).length b (Nat.le_refl _)).2
  rwa [List.take_length] at this
theorem sizes_mem : ∀ {l : List (List UInt8)} {x : List UInt8}, x ∈ l → x.length ≤ sizes l
  | y :: l, x, h => by
    rw [sizes_cons]
    rcases List.mem_cons.1 h with rfl | h
    · omega
    · have := sizes_mem h; omega
theorem sizes_len : ∀ l : List (List UInt8), 8 * l.length ≤ sizes l
  | [] => Nat.zero_le _
  | x :: l => by have := sizes_len l; rw [sizes_cons, List.length_cons]; omega
theorem cut_slice {a : Option Addr} {n c m : Nat} : ∃ a' c', slSub (.slice a n c) 1 0 m = .slice a' m c' := ⟨_, _, rfl⟩
theorem JournalOpens_spec {L K} {ba xa : Option Addr} {bc xc : Nat} {bs xs : List UInt8} [rb : RdE L encB (.slice ba bs.length bc) bs] [rx : RdE L encB (.slice xa xs.length xc) xs] (h : Ht L (K (.bool true))) :
    Ht L (CCall Try.prog 8 [.slice ba bs.length bc, .slice xa xs.length xc] K) := by
  have hrb : ∀ (M : List HP) [fr : Frm M L], RdS M (.slice ba bs.length bc) encB bs := fun M fr => ⟨fun w t => (rb.h w (fr.h _ _ t))⟩
  have hrx : ∀ (M : List HP) [fr : Frm M L], RdS M (.slice xa xs.length xc) encB xs := fun M fr => ⟨fun w t => (rx.h w (fr.h _ _ t))⟩
  refine Ht.know (p := bs.length ≤ 9223372036854775807 ∧ xs.length ≤ 9223372036854775807) (fun w s => ⟨(rb.h w s).le, (rx.h w s).le⟩) (fun ⟨hbl, hxl⟩ => ?_)
  refine ccall2 Try.func8 rfl (by decide) Try.ntmps8 (by rfl) (by decide) ?_
  repeat (refine stp ?_)
  refine ht_draw Try.can8x1 Try.mixed (by kernel_rfl) ?_
  repeat (refine stp ?_)
  rewrite [show (if (600 : Int) < bs.length then 600 else (bs.length : Int)) = ((min bs.length 600 : Nat) : Int) from by split <;> omega]
  refine cd_slice (xs := bs) (by omega) ?_
  intro hs0 hs1
  have hb1 : SubOf (.slice ba bs.length bc) bs (slSub (.slice ba bs.length bc) 1 0 (min bs.length 600)) (bs.take 600) := fun w t => by
    have := slSub_in t (lo := 0) (hi := min bs.length 600) ⟨by omega, by omega⟩
    rw [List.drop_zero, stake_min] at this
    exact this
  haveI ob : One1 (slSub (.slice ba bs.length bc) 1 0 (min bs.length 600)) := ⟨rfl⟩
  have hbf := @cut_slice ba bs.length bc (min bs.length 600)
  generalize slSub (.slice ba bs.length bc) 1 0 (min bs.length 600) = bv at hb1 ob hbf ⊢
  repeat (refine stp ?_)
  rewrite [show (if (100 : Int) < xs.length then 100 else (xs.length : Int)) = ((min xs.length 100 : Nat) : Int) from by split <;> omega]
  refine cd_slice (xs := xs) (by omega) ?_
  intro hs2 hs3
  have hx1 : SubOf (.slice xa xs.length xc) xs (slSub (.slice xa xs.length xc) 1 0 (min xs.length 100)) (xs.take 100) := fun w t => by
    have := slSub_in t (lo := 0) (hi := min xs.length 100) ⟨by omega, by omega⟩
    rw [List.drop_zero, stake_min] at this
    exact this
  haveI ox : One1 (slSub (.slice xa xs.length xc) 1 0 (min xs.length 100)) := ⟨rfl⟩
  generalize slSub (.slice xa xs.length xc) 1 0 (min xs.length 100) = xv at hx1 ox ⊢
  repeat (refine stp ?_)
  obtain ⟨ca, cc, ec⟩ := hbf
  rw [show min bs.length 600 = (bs.take 600).length from by rw [List.length_take, Nat.min_comm]] at ec
  have hB : ∀ (M : List HP) [fr : Frm M L], RdE M encB bv (bs.take 600) := fun M fr => ⟨fun w t => hb1 w ((hrb M).h w t)⟩
  have hX : ∀ (M : List HP) [fr : Frm M L], RdE M encB xv (xs.take 100) := fun M fr => ⟨fun w t => hx1 w ((hrx M).h w t)⟩
  have hxl : (xs.take 100).length ≤ 100 := by rw [List.length_take]; omega
  have hbl : (bs.take 600).length ≤ 600 := by rw [List.length_take]; omega
  subst ec
  generalize bs.take 600 = b at hB hbl ob ⊢
  generalize xs.take 100 = x at hX hxl
  clear hb1 hx1
  refine New_spec (fun hh => by omega) (fun _ _ d => ?_)
  repeat (refine stp ?_)
  refine Write_spec' (name := logN) (xs := b) (n := 0) (st' := ⟨-1, false, 100000, [(logN, b)]⟩) (writeM_all (by decide) logN_ok (by show (b.length : Int) ≤ 100000 - ((0 : Nat) : Int) + ((0 : Nat) : Int); omega)) ?_
  repeat (refine stp ?_)
  have hzt := frs_tot b
  have hzl := sizes_len (frs b)
  have hql := jrd_len (frs b) true 0
  have hcut := jrd_le (frs b) true 0
  have hkk : ∀ y ∈ (jrd true 0 (frs b)).1, (0 ≤ y.1 ∧ y.1 ≤ grB) ∧ y.2.length ≤ 600 := fun y hy => by
    obtain ⟨h1, z, hz, h2⟩ := jrd_keys _ _ _ y hy
    have := sizes_mem hz
    exact ⟨h1, by omega⟩
  refine Counts_spec (bs := b) (by omega) fun ov q hq hsub oo => ?_
  repeat (refine stp ?_)
  have eB : jlogB ⟨-1, false, 100000, [(logN, b)]⟩ = b := by unfold jlogB; rw [mget_cons, if_pos rfl]; rfl
  have eR : jlogR ⟨-1, false, 100000, [(logN, b)]⟩ = (jrd true 0 (frs b)).1 := by unfold jlogR; rw [eB]
  have eS : jcutS ⟨-1, false, 100000, [(logN, b)]⟩ = ⟨-1, false, 100000, [(logN, b.take (jrd true 0 (frs b)).2)]⟩ := by
    unfold jcutS jlogS
    rw [eB]
    split
    · simp [mput]
    · rw [List.take_of_length_le (by omega)]
  refine JOpen_spec (st := ⟨-1, false, 100000, [(logN, b)]⟩) rfl (show (-1 : Int) < 0 by decide) (by rw [eB]; omega) fun jb => ?_
  rw [eR, eS]
  rw [← hq] at hql hkk ⊢
  have hqs : ∀ y ∈ q, RdE L encB (svY y.2.1) y.2.2 := fun y hy => ⟨fun w t => hsub y hy w ((hB L).h w t)⟩
  have hqM : ∀ (M : List HP) [fr : Frm M L] (y : Int × SB), y ∈ q → RdE M encB (svY y.2.1) y.2.2 := fun M fr y hy => ⟨fun w t => (hqs y hy).h w (fr.h _ _ t)⟩
  generalize (jrd true 0 (frs b)).2 = sz at hcut ⊢
  have hsz : sz ≤ b.length := by omega
  have hkq : ∀ y ∈ q, 0 ≤ y.1 ∧ y.1 ≤ grB := fun y hy => (hkk (y.1, y.2.2) (by unfold rbytes; exact List.mem_map.2 ⟨y, hy, rfl⟩)).1
  have hjn := jnx_in (l := rbytes q) fun y hy => (hkk y hy).1
  repeat (refine stp ?_)
  refine next11_spec (q := q) hkq ?_
  repeat (refine stp ?_)
  refine is11_spec (b := jb) (s := ⟨rbytes q, jnx (rbytes q), false, d⟩) (q := q) (fun y hy => hqM _ y hy) rfl rfl (fun y hy => ⟨(hkk y hy).1.1, by have := (hkk y hy).2; omega⟩) (by show (rbytes q).length ≤ _; omega) ?_
  repeat (refine stp ?_)
  refine Read_spec' (name := logN) (xs := b.take sz) (ok := true) rfl rfl (fun cv => ?_)
  refine Ht.one1 (v := cv) ?_
  intro oc
  repeat (refine stp ?_)
  have hBS : ∀ (M : List HP) [fr : Frm M L], RdS M (.slice ca b.length cc) encB b := fun M fr => (hB M).toS
  refine co_slice (xs := b) (by omega) ?_
  intro hs4
  have hbt : ∀ (M : List HP) [fr : Frm M L], RdE M encB (slSub (.slice ca b.length cc) 1 0 sz) (b.take sz) := fun M fr => ⟨fun w t => by
    have := slSub_in ((hB M).h w t) (lo := 0) (hi := sz) ⟨by omega, by omega⟩
    rw [List.drop_zero] at this
    exact this⟩
  repeat (refine stp ?_)
  refine ySame_spec' (xs := b.take sz) (ys := b.take sz) rfl ?_
  repeat (refine stp ?_)
  refine JAppend_spec (x := x) (s := ⟨rbytes q, jnx (rbytes q), false, d⟩) (st := ⟨-1, false, 100000, [(logN, b.take sz)]⟩) hjn.1 (by omega) (by show (rbytes q).length ≤ _; omega) ?_
  have hfl : (b.take sz).length = sz := by rw [List.length_take]; omega
  have hrl := recF_len (jnx (rbytes q)) x
  by_cases hN : grB < jnx (rbytes q)
  · have ea : appJ x ⟨rbytes q, jnx (rbytes q), false, d⟩ ⟨-1, false, 100000, [(logN, b.take sz)]⟩ = ((0, 2), ⟨rbytes q, jnx (rbytes q), false, d⟩, ⟨-1, false, 100000, [(logN, b.take sz)]⟩) := by
      unfold appJ
      dsimp only
      rw [if_neg (by decide), if_pos hN]
    rewrite [ea]
    dsimp only
    repeat (refine stp ?_)
    refine Read_spec' (name := logN) (xs := b.take sz) (ok := true) rfl rfl (fun dv => ?_)
    refine Ht.one1 (v := dv) ?_
    intro od
    repeat (refine stp ?_)
    refine next11_spec (q := q) hkq ?_
    repeat (refine stp ?_)
    intro ra
    repeat (refine stp ?_)
    rewrite [show decide ((4611686018427387903 : Int) < jnx (rbytes q)) = true from decide_eq_true hN]
    repeat (refine stp ?_)
    refine known11_spec ?_
    repeat (refine stp ?_)
    refine co_slice (xs := b) (by omega) ?_
    intro hs5
    repeat (refine stp ?_)
    refine ySame_spec' (xs := b.take sz) (ys := b.take sz) rfl ?_
    repeat (refine stp ?_)
    exact ret1 rfl (Ht.frm h)
  · have ea : appJ x ⟨rbytes q, jnx (rbytes q), false, d⟩ ⟨-1, false, 100000, [(logN, b.take sz)]⟩ = ((jnx (rbytes q), 0), ⟨tput (jnx (rbytes q)) x (rbytes q), jnx (rbytes q) + 1, false, d⟩, ⟨-1, false, 100000, [(logN, b.take sz ++ recF (jnx (rbytes q)) x)]⟩) := by
      have hap : appendM logN (recF (jnx (rbytes q)) x) ⟨-1, false, 100000, [(logN, b.take sz)]⟩ = (0, ⟨-1, false, 100000, [(logN, b.take sz ++ recF (jnx (rbytes q)) x)]⟩) := by
        rw [appM_free (by decide) logN_ok (recF_ne _ _) (by rw [usedF_sgl]; omega), mget_cons, if_pos rfl]
        simp [mput]
      unfold appJ
      dsimp only
      rw [if_neg (by decide), if_neg hN, hap, if_neg (by simp)]
    rewrite [ea]
    dsimp only
    repeat (refine stp ?_)
    refine Read_spec' (name := logN) (xs := b.take sz ++ recF (jnx (rbytes q)) x) (ok := true) rfl rfl (fun dv => ?_)
    refine Ht.one1 (v := dv) ?_
    intro od
    repeat (refine stp ?_)
    refine next11_spec (q := q) hkq ?_
    repeat (refine stp ?_)
    intro ra
    repeat (refine stp ?_)
    rewrite [show decide ((4611686018427387903 : Int) < jnx (rbytes q)) = false from decide_eq_false hN]
    repeat (refine stp ?_)
    refine ht_draw Try.can8x17 Try.mixed (by kernel_rfl) ?_
    repeat (refine stp ?_)
    refine known11_spec ?_
    repeat (refine stp ?_)
    rewrite [show decide (jnx (rbytes q) = jnx (rbytes q)) = true from decide_eq_true rfl]
    repeat (refine stp ?_)
    refine cd_slice (xs := b) (by omega) ?_
    intro hs6 hs7
    repeat (refine stp ?_)
    intro b1
    repeat (refine stp ?_)
    refine Ht.own_lit encB (b := b1) (n := 0) (xs := []) rfl rfl (by decide) ?_
    refine co_append (e := encB) (xs := []) (ys := b.take sz) (by rfl) (by rw [hfl]; simp; omega) (by rw [hfl]; simp; omega) ?_
    intro v1
    refine Ht.one1 (v := v1) ?_
    intro o1
    rewrite [List.nil_append]
    repeat (refine stp ?_)
    refine Frame11_spec (bs := x) (by omega) fun v2 => ?_
    refine Ht.one1 (v := v2) ?_
    intro o2
    repeat (refine stp ?_)
    refine co_append (e := encB) (xs := b.take sz) (ys := recF (jnx (rbytes q)) x) (by rfl) (by omega) (by omega) ?_
    intro v3
    refine Ht.one1 (v := v3) ?_
    intro o3
    repeat (refine stp ?_)
    refine ySame_spec' (xs := b.take sz ++ recF (jnx (rbytes q)) x) (ys := b.take sz ++ recF (jnx (rbytes q)) x) rfl ?_
    repeat (refine stp ?_)
    exact ret1 rfl (Ht.frm h)
end Go.Proofs

set_option linter.all false
set_option synthInstance.maxSize 100000
set_option synthInstance.maxHeartbeats 400000
namespace Go.Proofs
open Go Go.SL
theorem JournalOpens_walk {w : World} {v1 v2 : Value} {bs xs : List UInt8} {K} [r1 : RoIn w v1 encB bs] [r2 : RoIn w v2 encB xs]
    (h : Ht [ro w] (K (.bool true))) : Ht [ro w] (CCall Try.prog 8 [v1, v2] K) := by
  obtain ⟨b, c, hv, _, _⟩ := sliceIn_of r1.h
  subst hv
  obtain ⟨b2, c2, hv2, _, _⟩ := sliceIn_of r2.h
  subst hv2
  haveI : RdE [ro w] encB (.slice b bs.length c) bs := ⟨fun w' s => SlIn.mono r1.h (ro_le s)⟩
  haveI : RdE [ro w] encB (.slice b2 xs.length c2) xs := ⟨fun w' s => SlIn.mono r2.h (ro_le s)⟩
  exact JournalOpens_spec (bs := bs) (xs := xs) h
end Go.Proofs
