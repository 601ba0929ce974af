/- The parts NIZ, SLXS, NIN, NIO of the engine and of the walk, one behind the other: no condition. -/
import Derived.Test.YtkaglgcglbkdhaaDoorBeedc5cb7
import Derived.Test.YtkaglgcglbkdhaaDoorB758db7de
import Derived.Test.YtkaglgcglbkdhaaDoorB153c49d4

set_option linter.all false
set_option synthInstance.maxSize 100000
set_option synthInstance.maxHeartbeats 400000
namespace Go.Proofs
open Go Go.SL
attribute [local irreducible] CCall CO CC CX CD
theorem u8_of {n : Int} (h0 : 0 ≤ n) (h1 : n < 256) : IntKind.u8.wrap n = (((UInt8.ofInt n).toNat : Nat) : Int) := by
  obtain ⟨m, rfl⟩ := Int.eq_ofNat_of_zero_le h0
  have hm : m < 256 := by omega
  rw [IntWalk.u8_in _ (by omega)]
  exact congrArg Int.ofNat (ofInt_small m hm).symm
theorem renc1 {L K rv} {peer day amount hi lo : Int} {tr : Td} {name : ByteArray} {rows : Rows} (hok : NtOk ⟨1, peer, day, tr, name, amount, rows, hi, lo⟩) (hsm : NtSm ⟨1, peer, day, tr, name, amount, rows, hi, lo⟩) (hz0 : noteE ⟨1, peer, day, tr, name, amount, rows, hi, lo⟩ = 0) [rs : RdE L encRw rv rows]
    (h : ∀ v, Ht (own encB 5 v (encL ⟨1, peer, day, tr, name, amount, rows, hi, lo⟩) :: L) (K v)) : Ht L (CCall Tryd.prog 22 [ntV ⟨1, peer, day, tr, name, amount, rows, hi, lo⟩ rv] K) := by
  have hrs : ∀ (M : List HP) [fr : Frm M L], RdE M encRw rv rows := fun M fr => ⟨fun w t => rs.h w (fr.h _ _ t)⟩
  have hrs2 : ∀ (M : List HP) [fr : Frm M L], RdS M rv encRw rows := fun M fr => ⟨fun w t => rs.h w (fr.h _ _ t)⟩
  have hlen : rows.length ≤ 1000 := hsm.len
  have hg := good_of hz0
  refine Ht.know (p := One1 rv) (fun w t => one1_of (rs.h w t)) (fun ov => ?_)
  refine ccall1 Tryd.func22 rfl (by decide) Tryd.ntmps22 (by rfl) (by decide) ?_
  repeat (refine stp ?_)
  intro c1
  repeat (refine stp ?_)
  intro b0
  repeat (refine stp ?_)
  rewrite [show IntKind.u8.wrap 1 = (((UInt8.ofInt 1).toNat : Nat) : Int) from rfl]
  refine Ht.own_lit encB (b := b0) (n := 1) (xs := [UInt8.ofInt 1]) rfl rfl (by decide) ?_
  obtain ⟨b, hb⟩ : ∃ b, b = [UInt8.ofInt 1] := ⟨_, rfl⟩
  have hbl : b.length ≤ 1 := by rw [hb]; simp
  rewrite [← hb]
  repeat (refine stp ?_)
  refine asks_spec (k := 1) (c := 112) ?_
  rewrite [show asksB 1 112 = false from by decide]
  repeat (refine stp ?_)
  refine asks_spec (k := 1) (c := 100) ?_
  rewrite [show asksB 1 100 = false from by decide]
  repeat (refine stp ?_)
  refine asks_spec (k := 1) (c := 116) ?_
  rewrite [show asksB 1 116 = true from by decide]
  repeat (refine stp ?_)
  have hs1 : tr.buyer.size ≤ 300 := hsm.buyer
  have hs2 : tr.seller.size ≤ 300 := hsm.seller
  have hs3 : tr.isin.size ≤ 300 := hsm.isin
  refine RPut_spec (t := tr) (R64.of hok.id) hs1 hs2 hs3 (R64.of hok.qty) (R64.of hok.price) fun u1 => ?_
  have hl1 : (trdL tr).length ≤ 966 := by
    have q1 := @numL_len tr.id
    have q2 := @txtL_len tr.buyer
    have q3 := @txtL_len tr.seller
    have q4 := @txtL_len tr.isin
    have q5 := @numL_len tr.qty
    have q6 := @numL_len tr.price
    unfold trdL
    simp only [List.length_append]; omega
  refine co_append (e := encB) (by rfl) (by first | omega | (simp only [List.length_append, List.length_cons, List.length_nil]; omega)) (by first | omega | (simp only [List.length_append, List.length_cons, List.length_nil]; omega)) ?_
  intro v1
  refine Ht.one1 (v := v1) ?_
  intro o1
  obtain ⟨b1, hb1⟩ : ∃ x, x = b ++ trdL tr := ⟨_, rfl⟩
  have hbl1 : b1.length ≤ 967 := by rw [hb1]; simp only [List.length_append, List.length_cons, List.length_nil]; omega
  rewrite [← hb1]
  repeat (refine stp ?_)
  refine asks_spec (k := 1) (c := 110) ?_
  rewrite [show asksB 1 110 = false from by decide]
  repeat (refine stp ?_)
  refine asks_spec (k := 1) (c := 97) ?_
  rewrite [show asksB 1 97 = false from by decide]
  repeat (refine stp ?_)
  refine asks_spec (k := 1) (c := 114) ?_
  rewrite [show asksB 1 114 = false from by decide]
  repeat (refine stp ?_)
  refine asks_spec (k := 1) (c := 99) ?_
  rewrite [show asksB 1 99 = false from by decide]
  repeat (refine stp ?_)
  rw [show encL ⟨1, peer, day, tr, name, amount, rows, hi, lo⟩ = b1 from by
    unfold encL
    dsimp only
    rw [show (fm 1).peer = false from rfl, show (fm 1).day = false from rfl, show (fm 1).trade = true from rfl, show (fm 1).name = false from rfl, show (fm 1).amount = false from rfl, show (fm 1).rows = false from rfl, show (fm 1).cash = false from rfl]
    rw [hb1, hb]
    simp only [if_true, if_false, Bool.false_eq_true, List.append_nil, List.append_assoc]] at h
  exact ret1 rfl (Ht.frm (h v1))
theorem renc2 {L K rv} {peer day amount hi lo : Int} {tr : Td} {name : ByteArray} {rows : Rows} (hok : NtOk ⟨2, peer, day, tr, name, amount, rows, hi, lo⟩) (hsm : NtSm ⟨2, peer, day, tr, name, amount, rows, hi, lo⟩) (hz0 : noteE ⟨2, peer, day, tr, name, amount, rows, hi, lo⟩ = 0) [rs : RdE L encRw rv rows]
    (h : ∀ v, Ht (own encB 5 v (encL ⟨2, peer, day, tr, name, amount, rows, hi, lo⟩) :: L) (K v)) : Ht L (CCall Tryd.prog 22 [ntV ⟨2, peer, day, tr, name, amount, rows, hi, lo⟩ rv] K) := by
  have hrs : ∀ (M : List HP) [fr : Frm M L], RdE M encRw rv rows := fun M fr => ⟨fun w t => rs.h w (fr.h _ _ t)⟩
  have hrs2 : ∀ (M : List HP) [fr : Frm M L], RdS M rv encRw rows := fun M fr => ⟨fun w t => rs.h w (fr.h _ _ t)⟩
  have hlen : rows.length ≤ 1000 := hsm.len
  have hg := good_of hz0
  refine Ht.know (p := One1 rv) (fun w t => one1_of (rs.h w t)) (fun ov => ?_)
  refine ccall1 Tryd.func22 rfl (by decide) Tryd.ntmps22 (by rfl) (by decide) ?_
  repeat (refine stp ?_)
  intro c1
  repeat (refine stp ?_)
  intro b0
  repeat (refine stp ?_)
  rewrite [show IntKind.u8.wrap 2 = (((UInt8.ofInt 2).toNat : Nat) : Int) from rfl]
  refine Ht.own_lit encB (b := b0) (n := 1) (xs := [UInt8.ofInt 2]) rfl rfl (by decide) ?_
  obtain ⟨b, hb⟩ : ∃ b, b = [UInt8.ofInt 2] := ⟨_, rfl⟩
  have hbl : b.length ≤ 1 := by rw [hb]; simp
  rewrite [← hb]
  repeat (refine stp ?_)
  refine asks_spec (k := 2) (c := 112) ?_
  rewrite [show asksB 2 112 = false from by decide]
  repeat (refine stp ?_)
  refine asks_spec (k := 2) (c := 100) ?_
  rewrite [show asksB 2 100 = false from by decide]
  repeat (refine stp ?_)
  refine asks_spec (k := 2) (c := 116) ?_
  rewrite [show asksB 2 116 = false from by decide]
  repeat (refine stp ?_)
  refine asks_spec (k := 2) (c := 110) ?_
  rewrite [show asksB 2 110 = false from by decide]
  repeat (refine stp ?_)
  refine asks_spec (k := 2) (c := 97) ?_
  rewrite [show asksB 2 97 = false from by decide]
  repeat (refine stp ?_)
  refine asks_spec (k := 2) (c := 114) ?_
  rewrite [show asksB 2 114 = false from by decide]
  repeat (refine stp ?_)
  refine asks_spec (k := 2) (c := 99) ?_
  rewrite [show asksB 2 99 = false from by decide]
  repeat (refine stp ?_)
  rw [show encL ⟨2, peer, day, tr, name, amount, rows, hi, lo⟩ = b from by
    unfold encL
    dsimp only
    rw [show (fm 2).peer = false from rfl, show (fm 2).day = false from rfl, show (fm 2).trade = false from rfl, show (fm 2).name = false from rfl, show (fm 2).amount = false from rfl, show (fm 2).rows = false from rfl, show (fm 2).cash = false from rfl]
    rw [hb]
    simp only [if_true, if_false, Bool.false_eq_true, List.append_nil, List.append_assoc]] at h
  exact ret1 rfl (Ht.frm (h _))
theorem renc3 {L K rv} {peer day amount hi lo : Int} {tr : Td} {name : ByteArray} {rows : Rows} (hok : NtOk ⟨3, peer, day, tr, name, amount, rows, hi, lo⟩) (hsm : NtSm ⟨3, peer, day, tr, name, amount, rows, hi, lo⟩) (hz0 : noteE ⟨3, peer, day, tr, name, amount, rows, hi, lo⟩ = 0) [rs : RdE L encRw rv rows]
    (h : ∀ v, Ht (own encB 5 v (encL ⟨3, peer, day, tr, name, amount, rows, hi, lo⟩) :: L) (K v)) : Ht L (CCall Tryd.prog 22 [ntV ⟨3, peer, day, tr, name, amount, rows, hi, lo⟩ rv] K) := by
  have hrs : ∀ (M : List HP) [fr : Frm M L], RdE M encRw rv rows := fun M fr => ⟨fun w t => rs.h w (fr.h _ _ t)⟩
  have hrs2 : ∀ (M : List HP) [fr : Frm M L], RdS M rv encRw rows := fun M fr => ⟨fun w t => rs.h w (fr.h _ _ t)⟩
  have hlen : rows.length ≤ 1000 := hsm.len
  have hg := good_of hz0
  refine Ht.know (p := One1 rv) (fun w t => one1_of (rs.h w t)) (fun ov => ?_)
  refine ccall1 Tryd.func22 rfl (by decide) Tryd.ntmps22 (by rfl) (by decide) ?_
  repeat (refine stp ?_)
  intro c1
  repeat (refine stp ?_)
  intro b0
  repeat (refine stp ?_)
  rewrite [show IntKind.u8.wrap 3 = (((UInt8.ofInt 3).toNat : Nat) : Int) from rfl]
  refine Ht.own_lit encB (b := b0) (n := 1) (xs := [UInt8.ofInt 3]) rfl rfl (by decide) ?_
  obtain ⟨b, hb⟩ : ∃ b, b = [UInt8.ofInt 3] := ⟨_, rfl⟩
  have hbl : b.length ≤ 1 := by rw [hb]; simp
  rewrite [← hb]
  repeat (refine stp ?_)
  refine asks_spec (k := 3) (c := 112) ?_
  rewrite [show asksB 3 112 = false from by decide]
  repeat (refine stp ?_)
  refine asks_spec (k := 3) (c := 100) ?_
  rewrite [show asksB 3 100 = false from by decide]
  repeat (refine stp ?_)
  refine asks_spec (k := 3) (c := 116) ?_
  rewrite [show asksB 3 116 = false from by decide]
  repeat (refine stp ?_)
  refine asks_spec (k := 3) (c := 110) ?_
  rewrite [show asksB 3 110 = true from by decide]
  repeat (refine stp ?_)
  have hs4 : name.size ≤ 300 := hsm.name
  refine RTxt_spec (s := name) hs4 fun u1 => ?_
  have hl1 := @txtL_len name
  refine co_append (e := encB) (by rfl) (by first | omega | (simp only [List.length_append, List.length_cons, List.length_nil]; omega)) (by first | omega | (simp only [List.length_append, List.length_cons, List.length_nil]; omega)) ?_
  intro v1
  refine Ht.one1 (v := v1) ?_
  intro o1
  obtain ⟨b1, hb1⟩ : ∃ x, x = b ++ txtL name := ⟨_, rfl⟩
  have hbl1 : b1.length ≤ 312 := by rw [hb1]; simp only [List.length_append, List.length_cons, List.length_nil]; omega
  rewrite [← hb1]
  repeat (refine stp ?_)
  refine asks_spec (k := 3) (c := 97) ?_
  rewrite [show asksB 3 97 = true from by decide]
  repeat (refine stp ?_)
  refine RNum_spec (n := amount) (R64.of hok.amount) fun u2 => ?_
  have hl2 := @numL_len amount
  refine co_append (e := encB) (by rfl) (by first | omega | (simp only [List.length_append, List.length_cons, List.length_nil]; omega)) (by first | omega | (simp only [List.length_append, List.length_cons, List.length_nil]; omega)) ?_
  intro v2
  refine Ht.one1 (v := v2) ?_
  intro o2
  obtain ⟨b2, hb2⟩ : ∃ x, x = b1 ++ numL amount := ⟨_, rfl⟩
  have hbl2 : b2.length ≤ 323 := by rw [hb2]; simp only [List.length_append, List.length_cons, List.length_nil]; omega
  rewrite [← hb2]
  repeat (refine stp ?_)
  refine asks_spec (k := 3) (c := 114) ?_
  rewrite [show asksB 3 114 = false from by decide]
  repeat (refine stp ?_)
  refine asks_spec (k := 3) (c := 99) ?_
  rewrite [show asksB 3 99 = false from by decide]
  repeat (refine stp ?_)
  rw [show encL ⟨3, peer, day, tr, name, amount, rows, hi, lo⟩ = b2 from by
    unfold encL
    dsimp only
    rw [show (fm 3).peer = false from rfl, show (fm 3).day = false from rfl, show (fm 3).trade = false from rfl, show (fm 3).name = true from rfl, show (fm 3).amount = true from rfl, show (fm 3).rows = false from rfl, show (fm 3).cash = false from rfl]
    rw [hb2, hb1, hb]
    simp only [if_true, if_false, Bool.false_eq_true, List.append_nil, List.append_assoc]] at h
  exact ret1 rfl (Ht.frm (h v2))
theorem renc4 {L K rv} {peer day amount hi lo : Int} {tr : Td} {name : ByteArray} {rows : Rows} (hok : NtOk ⟨4, peer, day, tr, name, amount, rows, hi, lo⟩) (hsm : NtSm ⟨4, peer, day, tr, name, amount, rows, hi, lo⟩) (hz0 : noteE ⟨4, peer, day, tr, name, amount, rows, hi, lo⟩ = 0) [rs : RdE L encRw rv rows]
    (h : ∀ v, Ht (own encB 5 v (encL ⟨4, peer, day, tr, name, amount, rows, hi, lo⟩) :: L) (K v)) : Ht L (CCall Tryd.prog 22 [ntV ⟨4, peer, day, tr, name, amount, rows, hi, lo⟩ rv] K) := by
  have hrs : ∀ (M : List HP) [fr : Frm M L], RdE M encRw rv rows := fun M fr => ⟨fun w t => rs.h w (fr.h _ _ t)⟩
  have hrs2 : ∀ (M : List HP) [fr : Frm M L], RdS M rv encRw rows := fun M fr => ⟨fun w t => rs.h w (fr.h _ _ t)⟩
  have hlen : rows.length ≤ 1000 := hsm.len
  have hg := good_of hz0
  refine Ht.know (p := One1 rv) (fun w t => one1_of (rs.h w t)) (fun ov => ?_)
  refine ccall1 Tryd.func22 rfl (by decide) Tryd.ntmps22 (by rfl) (by decide) ?_
  repeat (refine stp ?_)
  intro c1
  repeat (refine stp ?_)
  intro b0
  repeat (refine stp ?_)
  rewrite [show IntKind.u8.wrap 4 = (((UInt8.ofInt 4).toNat : Nat) : Int) from rfl]
  refine Ht.own_lit encB (b := b0) (n := 1) (xs := [UInt8.ofInt 4]) rfl rfl (by decide) ?_
  obtain ⟨b, hb⟩ : ∃ b, b = [UInt8.ofInt 4] := ⟨_, rfl⟩
  have hbl : b.length ≤ 1 := by rw [hb]; simp
  rewrite [← hb]
  repeat (refine stp ?_)
  refine asks_spec (k := 4) (c := 112) ?_
  rewrite [show asksB 4 112 = false from by decide]
  repeat (refine stp ?_)
  refine asks_spec (k := 4) (c := 100) ?_
  rewrite [show asksB 4 100 = true from by decide]
  repeat (refine stp ?_)
  have hd := hg.day
  dsimp only at hd
  rw [if_pos (show (fm 4).day = true from rfl)] at hd
  rewrite [u64_of (show 0 ≤ day by omega) (by omega)]
  refine Groups_all fun u1 => ?_
  rewrite [show sevensM (UInt64.ofInt day) 10 = cntL day from rfl]
  have hl1 := @cntL_len day
  refine co_append (e := encB) (by rfl) (by first | omega | (simp only [List.length_append, List.length_cons, List.length_nil]; omega)) (by first | omega | (simp only [List.length_append, List.length_cons, List.length_nil]; omega)) ?_
  intro v1
  refine Ht.one1 (v := v1) ?_
  intro o1
  obtain ⟨b1, hb1⟩ : ∃ x, x = b ++ cntL day := ⟨_, rfl⟩
  have hbl1 : b1.length ≤ 12 := by rw [hb1]; simp only [List.length_append, List.length_cons, List.length_nil]; omega
  rewrite [← hb1]
  repeat (refine stp ?_)
  refine asks_spec (k := 4) (c := 116) ?_
  rewrite [show asksB 4 116 = false from by decide]
  repeat (refine stp ?_)
  refine asks_spec (k := 4) (c := 110) ?_
  rewrite [show asksB 4 110 = false from by decide]
  repeat (refine stp ?_)
  refine asks_spec (k := 4) (c := 97) ?_
  rewrite [show asksB 4 97 = false from by decide]
  repeat (refine stp ?_)
  refine asks_spec (k := 4) (c := 114) ?_
  rewrite [show asksB 4 114 = false from by decide]
  repeat (refine stp ?_)
  refine asks_spec (k := 4) (c := 99) ?_
  rewrite [show asksB 4 99 = false from by decide]
  repeat (refine stp ?_)
  rw [show encL ⟨4, peer, day, tr, name, amount, rows, hi, lo⟩ = b1 from by
    unfold encL
    dsimp only
    rw [show (fm 4).peer = false from rfl, show (fm 4).day = true from rfl, show (fm 4).trade = false from rfl, show (fm 4).name = false from rfl, show (fm 4).amount = false from rfl, show (fm 4).rows = false from rfl, show (fm 4).cash = false from rfl]
    rw [hb1, hb]
    simp only [if_true, if_false, Bool.false_eq_true, List.append_nil, List.append_assoc]] at h
  exact ret1 rfl (Ht.frm (h v1))
theorem renc5 {L K rv} {peer day amount hi lo : Int} {tr : Td} {name : ByteArray} {rows : Rows} (hok : NtOk ⟨5, peer, day, tr, name, amount, rows, hi, lo⟩) (hsm : NtSm ⟨5, peer, day, tr, name, amount, rows, hi, lo⟩) (hz0 : noteE ⟨5, peer, day, tr, name, amount, rows, hi, lo⟩ = 0) [rs : RdE L encRw rv rows]
    (h : ∀ v, Ht (own encB 5 v (encL ⟨5, peer, day, tr, name, amount, rows, hi, lo⟩) :: L) (K v)) : Ht L (CCall Tryd.prog 22 [ntV ⟨5, peer, day, tr, name, amount, rows, hi, lo⟩ rv] K) := by
  have hrs : ∀ (M : List HP) [fr : Frm M L], RdE M encRw rv rows := fun M fr => ⟨fun w t => rs.h w (fr.h _ _ t)⟩
  have hrs2 : ∀ (M : List HP) [fr : Frm M L], RdS M rv encRw rows := fun M fr => ⟨fun w t => rs.h w (fr.h _ _ t)⟩
  have hlen : rows.length ≤ 1000 := hsm.len
  have hg := good_of hz0
  refine Ht.know (p := One1 rv) (fun w t => one1_of (rs.h w t)) (fun ov => ?_)
  refine ccall1 Tryd.func22 rfl (by decide) Tryd.ntmps22 (by rfl) (by decide) ?_
  repeat (refine stp ?_)
  intro c1
  repeat (refine stp ?_)
  intro b0
  repeat (refine stp ?_)
  rewrite [show IntKind.u8.wrap 5 = (((UInt8.ofInt 5).toNat : Nat) : Int) from rfl]
  refine Ht.own_lit encB (b := b0) (n := 1) (xs := [UInt8.ofInt 5]) rfl rfl (by decide) ?_
  obtain ⟨b, hb⟩ : ∃ b, b = [UInt8.ofInt 5] := ⟨_, rfl⟩
  have hbl : b.length ≤ 1 := by rw [hb]; simp
  rewrite [← hb]
  repeat (refine stp ?_)
  refine asks_spec (k := 5) (c := 112) ?_
  rewrite [show asksB 5 112 = false from by decide]
  repeat (refine stp ?_)
  refine asks_spec (k := 5) (c := 100) ?_
  rewrite [show asksB 5 100 = false from by decide]
  repeat (refine stp ?_)
  refine asks_spec (k := 5) (c := 116) ?_
  rewrite [show asksB 5 116 = false from by decide]
  repeat (refine stp ?_)
  refine asks_spec (k := 5) (c := 110) ?_
  rewrite [show asksB 5 110 = true from by decide]
  repeat (refine stp ?_)
  have hs4 : name.size ≤ 300 := hsm.name
  refine RTxt_spec (s := name) hs4 fun u1 => ?_
  have hl1 := @txtL_len name
  refine co_append (e := encB) (by rfl) (by first | omega | (simp only [List.length_append, List.length_cons, List.length_nil]; omega)) (by first | omega | (simp only [List.length_append, List.length_cons, List.length_nil]; omega)) ?_
  intro v1
  refine Ht.one1 (v := v1) ?_
  intro o1
  obtain ⟨b1, hb1⟩ : ∃ x, x = b ++ txtL name := ⟨_, rfl⟩
  have hbl1 : b1.length ≤ 312 := by rw [hb1]; simp only [List.length_append, List.length_cons, List.length_nil]; omega
  rewrite [← hb1]
  repeat (refine stp ?_)
  refine asks_spec (k := 5) (c := 97) ?_
  rewrite [show asksB 5 97 = true from by decide]
  repeat (refine stp ?_)
  refine RNum_spec (n := amount) (R64.of hok.amount) fun u2 => ?_
  have hl2 := @numL_len amount
  refine co_append (e := encB) (by rfl) (by first | omega | (simp only [List.length_append, List.length_cons, List.length_nil]; omega)) (by first | omega | (simp only [List.length_append, List.length_cons, List.length_nil]; omega)) ?_
  intro v2
  refine Ht.one1 (v := v2) ?_
  intro o2
  obtain ⟨b2, hb2⟩ : ∃ x, x = b1 ++ numL amount := ⟨_, rfl⟩
  have hbl2 : b2.length ≤ 323 := by rw [hb2]; simp only [List.length_append, List.length_cons, List.length_nil]; omega
  rewrite [← hb2]
  repeat (refine stp ?_)
  refine asks_spec (k := 5) (c := 114) ?_
  rewrite [show asksB 5 114 = false from by decide]
  repeat (refine stp ?_)
  refine asks_spec (k := 5) (c := 99) ?_
  rewrite [show asksB 5 99 = false from by decide]
  repeat (refine stp ?_)
  rw [show encL ⟨5, peer, day, tr, name, amount, rows, hi, lo⟩ = b2 from by
    unfold encL
    dsimp only
    rw [show (fm 5).peer = false from rfl, show (fm 5).day = false from rfl, show (fm 5).trade = false from rfl, show (fm 5).name = true from rfl, show (fm 5).amount = true from rfl, show (fm 5).rows = false from rfl, show (fm 5).cash = false from rfl]
    rw [hb2, hb1, hb]
    simp only [if_true, if_false, Bool.false_eq_true, List.append_nil, List.append_assoc]] at h
  exact ret1 rfl (Ht.frm (h v2))
theorem renc6 {L K rv} {peer day amount hi lo : Int} {tr : Td} {name : ByteArray} {rows : Rows} (hok : NtOk ⟨6, peer, day, tr, name, amount, rows, hi, lo⟩) (hsm : NtSm ⟨6, peer, day, tr, name, amount, rows, hi, lo⟩) (hz0 : noteE ⟨6, peer, day, tr, name, amount, rows, hi, lo⟩ = 0) [rs : RdE L encRw rv rows]
    (h : ∀ v, Ht (own encB 5 v (encL ⟨6, peer, day, tr, name, amount, rows, hi, lo⟩) :: L) (K v)) : Ht L (CCall Tryd.prog 22 [ntV ⟨6, peer, day, tr, name, amount, rows, hi, lo⟩ rv] K) := by
  have hrs : ∀ (M : List HP) [fr : Frm M L], RdE M encRw rv rows := fun M fr => ⟨fun w t => rs.h w (fr.h _ _ t)⟩
  have hrs2 : ∀ (M : List HP) [fr : Frm M L], RdS M rv encRw rows := fun M fr => ⟨fun w t => rs.h w (fr.h _ _ t)⟩
  have hlen : rows.length ≤ 1000 := hsm.len
  have hg := good_of hz0
  refine Ht.know (p := One1 rv) (fun w t => one1_of (rs.h w t)) (fun ov => ?_)
  refine ccall1 Tryd.func22 rfl (by decide) Tryd.ntmps22 (by rfl) (by decide) ?_
  repeat (refine stp ?_)
  intro c1
  repeat (refine stp ?_)
  intro b0
  repeat (refine stp ?_)
  rewrite [show IntKind.u8.wrap 6 = (((UInt8.ofInt 6).toNat : Nat) : Int) from rfl]
  refine Ht.own_lit encB (b := b0) (n := 1) (xs := [UInt8.ofInt 6]) rfl rfl (by decide) ?_
  obtain ⟨b, hb⟩ : ∃ b, b = [UInt8.ofInt 6] := ⟨_, rfl⟩
  have hbl : b.length ≤ 1 := by rw [hb]; simp
  rewrite [← hb]
  repeat (refine stp ?_)
  refine asks_spec (k := 6) (c := 112) ?_
  rewrite [show asksB 6 112 = false from by decide]
  repeat (refine stp ?_)
  refine asks_spec (k := 6) (c := 100) ?_
  rewrite [show asksB 6 100 = false from by decide]
  repeat (refine stp ?_)
  refine asks_spec (k := 6) (c := 116) ?_
  rewrite [show asksB 6 116 = false from by decide]
  repeat (refine stp ?_)
  refine asks_spec (k := 6) (c := 110) ?_
  rewrite [show asksB 6 110 = true from by decide]
  repeat (refine stp ?_)
  have hs4 : name.size ≤ 300 := hsm.name
  refine RTxt_spec (s := name) hs4 fun u1 => ?_
  have hl1 := @txtL_len name
  refine co_append (e := encB) (by rfl) (by first | omega | (simp only [List.length_append, List.length_cons, List.length_nil]; omega)) (by first | omega | (simp only [List.length_append, List.length_cons, List.length_nil]; omega)) ?_
  intro v1
  refine Ht.one1 (v := v1) ?_
  intro o1
  obtain ⟨b1, hb1⟩ : ∃ x, x = b ++ txtL name := ⟨_, rfl⟩
  have hbl1 : b1.length ≤ 312 := by rw [hb1]; simp only [List.length_append, List.length_cons, List.length_nil]; omega
  rewrite [← hb1]
  repeat (refine stp ?_)
  refine asks_spec (k := 6) (c := 97) ?_
  rewrite [show asksB 6 97 = true from by decide]
  repeat (refine stp ?_)
  refine RNum_spec (n := amount) (R64.of hok.amount) fun u2 => ?_
  have hl2 := @numL_len amount
  refine co_append (e := encB) (by rfl) (by first | omega | (simp only [List.length_append, List.length_cons, List.length_nil]; omega)) (by first | omega | (simp only [List.length_append, List.length_cons, List.length_nil]; omega)) ?_
  intro v2
  refine Ht.one1 (v := v2) ?_
  intro o2
  obtain ⟨b2, hb2⟩ : ∃ x, x = b1 ++ numL amount := ⟨_, rfl⟩
  have hbl2 : b2.length ≤ 323 := by rw [hb2]; simp only [List.length_append, List.length_cons, List.length_nil]; omega
  rewrite [← hb2]
  repeat (refine stp ?_)
  refine asks_spec (k := 6) (c := 114) ?_
  rewrite [show asksB 6 114 = false from by decide]
  repeat (refine stp ?_)
  refine asks_spec (k := 6) (c := 99) ?_
  rewrite [show asksB 6 99 = false from by decide]
  repeat (refine stp ?_)
  rw [show encL ⟨6, peer, day, tr, name, amount, rows, hi, lo⟩ = b2 from by
    unfold encL
    dsimp only
    rw [show (fm 6).peer = false from rfl, show (fm 6).day = false from rfl, show (fm 6).trade = false from rfl, show (fm 6).name = true from rfl, show (fm 6).amount = true from rfl, show (fm 6).rows = false from rfl, show (fm 6).cash = false from rfl]
    rw [hb2, hb1, hb]
    simp only [if_true, if_false, Bool.false_eq_true, List.append_nil, List.append_assoc]] at h
  exact ret1 rfl (Ht.frm (h v2))
theorem renc7 {L K rv} {peer day amount hi lo : Int} {tr : Td} {name : ByteArray} {rows : Rows} (hok : NtOk ⟨7, peer, day, tr, name, amount, rows, hi, lo⟩) (hsm : NtSm ⟨7, peer, day, tr, name, amount, rows, hi, lo⟩) (hz0 : noteE ⟨7, peer, day, tr, name, amount, rows, hi, lo⟩ = 0) [rs : RdE L encRw rv rows]
    (h : ∀ v, Ht (own encB 5 v (encL ⟨7, peer, day, tr, name, amount, rows, hi, lo⟩) :: L) (K v)) : Ht L (CCall Tryd.prog 22 [ntV ⟨7, peer, day, tr, name, amount, rows, hi, lo⟩ rv] K) := by
  have hrs : ∀ (M : List HP) [fr : Frm M L], RdE M encRw rv rows := fun M fr => ⟨fun w t => rs.h w (fr.h _ _ t)⟩
  have hrs2 : ∀ (M : List HP) [fr : Frm M L], RdS M rv encRw rows := fun M fr => ⟨fun w t => rs.h w (fr.h _ _ t)⟩
  have hlen : rows.length ≤ 1000 := hsm.len
  have hg := good_of hz0
  refine Ht.know (p := One1 rv) (fun w t => one1_of (rs.h w t)) (fun ov => ?_)
  refine ccall1 Tryd.func22 rfl (by decide) Tryd.ntmps22 (by rfl) (by decide) ?_
  repeat (refine stp ?_)
  intro c1
  repeat (refine stp ?_)
  intro b0
  repeat (refine stp ?_)
  rewrite [show IntKind.u8.wrap 7 = (((UInt8.ofInt 7).toNat : Nat) : Int) from rfl]
  refine Ht.own_lit encB (b := b0) (n := 1) (xs := [UInt8.ofInt 7]) rfl rfl (by decide) ?_
  obtain ⟨b, hb⟩ : ∃ b, b = [UInt8.ofInt 7] := ⟨_, rfl⟩
  have hbl : b.length ≤ 1 := by rw [hb]; simp
  rewrite [← hb]
  repeat (refine stp ?_)
  refine asks_spec (k := 7) (c := 112) ?_
  rewrite [show asksB 7 112 = false from by decide]
  repeat (refine stp ?_)
  refine asks_spec (k := 7) (c := 100) ?_
  rewrite [show asksB 7 100 = false from by decide]
  repeat (refine stp ?_)
  refine asks_spec (k := 7) (c := 116) ?_
  rewrite [show asksB 7 116 = false from by decide]
  repeat (refine stp ?_)
  refine asks_spec (k := 7) (c := 110) ?_
  rewrite [show asksB 7 110 = true from by decide]
  repeat (refine stp ?_)
  have hs4 : name.size ≤ 300 := hsm.name
  refine RTxt_spec (s := name) hs4 fun u1 => ?_
  have hl1 := @txtL_len name
  refine co_append (e := encB) (by rfl) (by first | omega | (simp only [List.length_append, List.length_cons, List.length_nil]; omega)) (by first | omega | (simp only [List.length_append, List.length_cons, List.length_nil]; omega)) ?_
  intro v1
  refine Ht.one1 (v := v1) ?_
  intro o1
  obtain ⟨b1, hb1⟩ : ∃ x, x = b ++ txtL name := ⟨_, rfl⟩
  have hbl1 : b1.length ≤ 312 := by rw [hb1]; simp only [List.length_append, List.length_cons, List.length_nil]; omega
  rewrite [← hb1]
  repeat (refine stp ?_)
  refine asks_spec (k := 7) (c := 97) ?_
  rewrite [show asksB 7 97 = false from by decide]
  repeat (refine stp ?_)
  refine asks_spec (k := 7) (c := 114) ?_
  rewrite [show asksB 7 114 = false from by decide]
  repeat (refine stp ?_)
  refine asks_spec (k := 7) (c := 99) ?_
  rewrite [show asksB 7 99 = false from by decide]
  repeat (refine stp ?_)
  rw [show encL ⟨7, peer, day, tr, name, amount, rows, hi, lo⟩ = b1 from by
    unfold encL
    dsimp only
    rw [show (fm 7).peer = false from rfl, show (fm 7).day = false from rfl, show (fm 7).trade = false from rfl, show (fm 7).name = true from rfl, show (fm 7).amount = false from rfl, show (fm 7).rows = false from rfl, show (fm 7).cash = false from rfl]
    rw [hb1, hb]
    simp only [if_true, if_false, Bool.false_eq_true, List.append_nil, List.append_assoc]] at h
  exact ret1 rfl (Ht.frm (h v1))
theorem renc8 {L K rv} {peer day amount hi lo : Int} {tr : Td} {name : ByteArray} {rows : Rows} (hok : NtOk ⟨8, peer, day, tr, name, amount, rows, hi, lo⟩) (hsm : NtSm ⟨8, peer, day, tr, name, amount, rows, hi, lo⟩) (hz0 : noteE ⟨8, peer, day, tr, name, amount, rows, hi, lo⟩ = 0) [rs : RdE L encRw rv rows]
    (h : ∀ v, Ht (own encB 5 v (encL ⟨8, peer, day, tr, name, amount, rows, hi, lo⟩) :: L) (K v)) : Ht L (CCall Tryd.prog 22 [ntV ⟨8, peer, day, tr, name, amount, rows, hi, lo⟩ rv] K) := by
  have hrs : ∀ (M : List HP) [fr : Frm M L], RdE M encRw rv rows := fun M fr => ⟨fun w t => rs.h w (fr.h _ _ t)⟩
  have hrs2 : ∀ (M : List HP) [fr : Frm M L], RdS M rv encRw rows := fun M fr => ⟨fun w t => rs.h w (fr.h _ _ t)⟩
  have hlen : rows.length ≤ 1000 := hsm.len
  have hg := good_of hz0
  refine Ht.know (p := One1 rv) (fun w t => one1_of (rs.h w t)) (fun ov => ?_)
  refine ccall1 Tryd.func22 rfl (by decide) Tryd.ntmps22 (by rfl) (by decide) ?_
  repeat (refine stp ?_)
  intro c1
  repeat (refine stp ?_)
  intro b0
  repeat (refine stp ?_)
  rewrite [show IntKind.u8.wrap 8 = (((UInt8.ofInt 8).toNat : Nat) : Int) from rfl]
  refine Ht.own_lit encB (b := b0) (n := 1) (xs := [UInt8.ofInt 8]) rfl rfl (by decide) ?_
  obtain ⟨b, hb⟩ : ∃ b, b = [UInt8.ofInt 8] := ⟨_, rfl⟩
  have hbl : b.length ≤ 1 := by rw [hb]; simp
  rewrite [← hb]
  repeat (refine stp ?_)
  refine asks_spec (k := 8) (c := 112) ?_
  rewrite [show asksB 8 112 = true from by decide]
  repeat (refine stp ?_)
  have hp := hg.peer
  dsimp only at hp
  rw [if_pos (show (fm 8).peer = true from rfl)] at hp
  intro bp
  repeat (refine stp ?_)
  rewrite [u8_of (show 0 ≤ peer by omega) (by omega)]
  refine Ht.own_lit encB (b := bp) (n := 1) (xs := [UInt8.ofInt peer]) rfl rfl (by decide) ?_
  refine co_append (e := encB) (by rfl) (by first | omega | (simp only [List.length_append, List.length_cons, List.length_nil]; omega)) (by first | omega | (simp only [List.length_append, List.length_cons, List.length_nil]; omega)) ?_
  intro v1
  refine Ht.one1 (v := v1) ?_
  intro o1
  obtain ⟨b1, hb1⟩ : ∃ x, x = b ++ [UInt8.ofInt peer] := ⟨_, rfl⟩
  have hbl1 : b1.length ≤ 2 := by rw [hb1]; simp only [List.length_append, List.length_cons, List.length_nil]; omega
  rewrite [← hb1]
  repeat (refine stp ?_)
  refine asks_spec (k := 8) (c := 100) ?_
  rewrite [show asksB 8 100 = false from by decide]
  repeat (refine stp ?_)
  refine asks_spec (k := 8) (c := 116) ?_
  rewrite [show asksB 8 116 = false from by decide]
  repeat (refine stp ?_)
  refine asks_spec (k := 8) (c := 110) ?_
  rewrite [show asksB 8 110 = false from by decide]
  repeat (refine stp ?_)
  refine asks_spec (k := 8) (c := 97) ?_
  rewrite [show asksB 8 97 = false from by decide]
  repeat (refine stp ?_)
  refine asks_spec (k := 8) (c := 114) ?_
  rewrite [show asksB 8 114 = false from by decide]
  repeat (refine stp ?_)
  refine asks_spec (k := 8) (c := 99) ?_
  rewrite [show asksB 8 99 = false from by decide]
  repeat (refine stp ?_)
  rw [show encL ⟨8, peer, day, tr, name, amount, rows, hi, lo⟩ = b1 from by
    unfold encL
    dsimp only
    rw [show (fm 8).peer = true from rfl, show (fm 8).day = false from rfl, show (fm 8).trade = false from rfl, show (fm 8).name = false from rfl, show (fm 8).amount = false from rfl, show (fm 8).rows = false from rfl, show (fm 8).cash = false from rfl]
    rw [hb1, hb]
    simp only [if_true, if_false, Bool.false_eq_true, List.append_nil, List.append_assoc]] at h
  exact ret1 rfl (Ht.frm (h v1))
theorem renc9 {L K rv} {peer day amount hi lo : Int} {tr : Td} {name : ByteArray} {rows : Rows} (hok : NtOk ⟨9, peer, day, tr, name, amount, rows, hi, lo⟩) (hsm : NtSm ⟨9, peer, day, tr, name, amount, rows, hi, lo⟩) (hz0 : noteE ⟨9, peer, day, tr, name, amount, rows, hi, lo⟩ = 0) [rs : RdE L encRw rv rows]
    (h : ∀ v, Ht (own encB 5 v (encL ⟨9, peer, day, tr, name, amount, rows, hi, lo⟩) :: L) (K v)) : Ht L (CCall Tryd.prog 22 [ntV ⟨9, peer, day, tr, name, amount, rows, hi, lo⟩ rv] K) := by
  have hrs : ∀ (M : List HP) [fr : Frm M L], RdE M encRw rv rows := fun M fr => ⟨fun w t => rs.h w (fr.h _ _ t)⟩
  have hrs2 : ∀ (M : List HP) [fr : Frm M L], RdS M rv encRw rows := fun M fr => ⟨fun w t => rs.h w (fr.h _ _ t)⟩
  have hlen : rows.length ≤ 1000 := hsm.len
  have hg := good_of hz0
  refine Ht.know (p := One1 rv) (fun w t => one1_of (rs.h w t)) (fun ov => ?_)
  refine ccall1 Tryd.func22 rfl (by decide) Tryd.ntmps22 (by rfl) (by decide) ?_
  repeat (refine stp ?_)
  intro c1
  repeat (refine stp ?_)
  intro b0
  repeat (refine stp ?_)
  rewrite [show IntKind.u8.wrap 9 = (((UInt8.ofInt 9).toNat : Nat) : Int) from rfl]
  refine Ht.own_lit encB (b := b0) (n := 1) (xs := [UInt8.ofInt 9]) rfl rfl (by decide) ?_
  obtain ⟨b, hb⟩ : ∃ b, b = [UInt8.ofInt 9] := ⟨_, rfl⟩
  have hbl : b.length ≤ 1 := by rw [hb]; simp
  rewrite [← hb]
  repeat (refine stp ?_)
  refine asks_spec (k := 9) (c := 112) ?_
  rewrite [show asksB 9 112 = true from by decide]
  repeat (refine stp ?_)
  have hp := hg.peer
  dsimp only at hp
  rw [if_pos (show (fm 9).peer = true from rfl)] at hp
  intro bp
  repeat (refine stp ?_)
  rewrite [u8_of (show 0 ≤ peer by omega) (by omega)]
  refine Ht.own_lit encB (b := bp) (n := 1) (xs := [UInt8.ofInt peer]) rfl rfl (by decide) ?_
  refine co_append (e := encB) (by rfl) (by first | omega | (simp only [List.length_append, List.length_cons, List.length_nil]; omega)) (by first | omega | (simp only [List.length_append, List.length_cons, List.length_nil]; omega)) ?_
  intro v1
  refine Ht.one1 (v := v1) ?_
  intro o1
  obtain ⟨b1, hb1⟩ : ∃ x, x = b ++ [UInt8.ofInt peer] := ⟨_, rfl⟩
  have hbl1 : b1.length ≤ 2 := by rw [hb1]; simp only [List.length_append, List.length_cons, List.length_nil]; omega
  rewrite [← hb1]
  repeat (refine stp ?_)
  refine asks_spec (k := 9) (c := 100) ?_
  rewrite [show asksB 9 100 = true from by decide]
  repeat (refine stp ?_)
  have hd := hg.day
  dsimp only at hd
  rw [if_pos (show (fm 9).day = true from rfl)] at hd
  rewrite [u64_of (show 0 ≤ day by omega) (by omega)]
  refine Groups_all fun u2 => ?_
  rewrite [show sevensM (UInt64.ofInt day) 10 = cntL day from rfl]
  have hl2 := @cntL_len day
  refine co_append (e := encB) (by rfl) (by first | omega | (simp only [List.length_append, List.length_cons, List.length_nil]; omega)) (by first | omega | (simp only [List.length_append, List.length_cons, List.length_nil]; omega)) ?_
  intro v2
  refine Ht.one1 (v := v2) ?_
  intro o2
  obtain ⟨b2, hb2⟩ : ∃ x, x = b1 ++ cntL day := ⟨_, rfl⟩
  have hbl2 : b2.length ≤ 13 := by rw [hb2]; simp only [List.length_append, List.length_cons, List.length_nil]; omega
  rewrite [← hb2]
  repeat (refine stp ?_)
  refine asks_spec (k := 9) (c := 116) ?_
  rewrite [show asksB 9 116 = true from by decide]
  repeat (refine stp ?_)
  have hs1 : tr.buyer.size ≤ 300 := hsm.buyer
  have hs2 : tr.seller.size ≤ 300 := hsm.seller
  have hs3 : tr.isin.size ≤ 300 := hsm.isin
  refine RPut_spec (t := tr) (R64.of hok.id) hs1 hs2 hs3 (R64.of hok.qty) (R64.of hok.price) fun u3 => ?_
  have hl3 : (trdL tr).length ≤ 966 := by
    have q1 := @numL_len tr.id
    have q2 := @txtL_len tr.buyer
    have q3 := @txtL_len tr.seller
    have q4 := @txtL_len tr.isin
    have q5 := @numL_len tr.qty
    have q6 := @numL_len tr.price
    unfold trdL
    simp only [List.length_append]; omega
  refine co_append (e := encB) (by rfl) (by first | omega | (simp only [List.length_append, List.length_cons, List.length_nil]; omega)) (by first | omega | (simp only [List.length_append, List.length_cons, List.length_nil]; omega)) ?_
  intro v3
  refine Ht.one1 (v := v3) ?_
  intro o3
  obtain ⟨b3, hb3⟩ : ∃ x, x = b2 ++ trdL tr := ⟨_, rfl⟩
  have hbl3 : b3.length ≤ 979 := by rw [hb3]; simp only [List.length_append, List.length_cons, List.length_nil]; omega
  rewrite [← hb3]
  repeat (refine stp ?_)
  refine asks_spec (k := 9) (c := 110) ?_
  rewrite [show asksB 9 110 = false from by decide]
  repeat (refine stp ?_)
  refine asks_spec (k := 9) (c := 97) ?_
  rewrite [show asksB 9 97 = false from by decide]
  repeat (refine stp ?_)
  refine asks_spec (k := 9) (c := 114) ?_
  rewrite [show asksB 9 114 = false from by decide]
  repeat (refine stp ?_)
  refine asks_spec (k := 9) (c := 99) ?_
  rewrite [show asksB 9 99 = false from by decide]
  repeat (refine stp ?_)
  rw [show encL ⟨9, peer, day, tr, name, amount, rows, hi, lo⟩ = b3 from by
    unfold encL
    dsimp only
    rw [show (fm 9).peer = true from rfl, show (fm 9).day = true from rfl, show (fm 9).trade = true from rfl, show (fm 9).name = false from rfl, show (fm 9).amount = false from rfl, show (fm 9).rows = false from rfl, show (fm 9).cash = false from rfl]
    rw [hb3, hb2, hb1, hb]
    simp only [if_true, if_false, Bool.false_eq_true, List.append_nil, List.append_assoc]] at h
  exact ret1 rfl (Ht.frm (h v3))
theorem renc10 {L K rv} {peer day amount hi lo : Int} {tr : Td} {name : ByteArray} {rows : Rows} (hok : NtOk ⟨10, peer, day, tr, name, amount, rows, hi, lo⟩) (hsm : NtSm ⟨10, peer, day, tr, name, amount, rows, hi, lo⟩) (hz0 : noteE ⟨10, peer, day, tr, name, amount, rows, hi, lo⟩ = 0) [rs : RdE L encRw rv rows]
    (h : ∀ v, Ht (own encB 5 v (encL ⟨10, peer, day, tr, name, amount, rows, hi, lo⟩) :: L) (K v)) : Ht L (CCall Tryd.prog 22 [ntV ⟨10, peer, day, tr, name, amount, rows, hi, lo⟩ rv] K) := by
  have hrs : ∀ (M : List HP) [fr : Frm M L], RdE M encRw rv rows := fun M fr => ⟨fun w t => rs.h w (fr.h _ _ t)⟩
  have hrs2 : ∀ (M : List HP) [fr : Frm M L], RdS M rv encRw rows := fun M fr => ⟨fun w t => rs.h w (fr.h _ _ t)⟩
  have hlen : rows.length ≤ 1000 := hsm.len
  have hg := good_of hz0
  refine Ht.know (p := One1 rv) (fun w t => one1_of (rs.h w t)) (fun ov => ?_)
  refine ccall1 Tryd.func22 rfl (by decide) Tryd.ntmps22 (by rfl) (by decide) ?_
  repeat (refine stp ?_)
  intro c1
  repeat (refine stp ?_)
  intro b0
  repeat (refine stp ?_)
  rewrite [show IntKind.u8.wrap 10 = (((UInt8.ofInt 10).toNat : Nat) : Int) from rfl]
  refine Ht.own_lit encB (b := b0) (n := 1) (xs := [UInt8.ofInt 10]) rfl rfl (by decide) ?_
  obtain ⟨b, hb⟩ : ∃ b, b = [UInt8.ofInt 10] := ⟨_, rfl⟩
  have hbl : b.length ≤ 1 := by rw [hb]; simp
  rewrite [← hb]
  repeat (refine stp ?_)
  refine asks_spec (k := 10) (c := 112) ?_
  rewrite [show asksB 10 112 = true from by decide]
  repeat (refine stp ?_)
  have hp := hg.peer
  dsimp only at hp
  rw [if_pos (show (fm 10).peer = true from rfl)] at hp
  intro bp
  repeat (refine stp ?_)
  rewrite [u8_of (show 0 ≤ peer by omega) (by omega)]
  refine Ht.own_lit encB (b := bp) (n := 1) (xs := [UInt8.ofInt peer]) rfl rfl (by decide) ?_
  refine co_append (e := encB) (by rfl) (by first | omega | (simp only [List.length_append, List.length_cons, List.length_nil]; omega)) (by first | omega | (simp only [List.length_append, List.length_cons, List.length_nil]; omega)) ?_
  intro v1
  refine Ht.one1 (v := v1) ?_
  intro o1
  obtain ⟨b1, hb1⟩ : ∃ x, x = b ++ [UInt8.ofInt peer] := ⟨_, rfl⟩
  have hbl1 : b1.length ≤ 2 := by rw [hb1]; simp only [List.length_append, List.length_cons, List.length_nil]; omega
  rewrite [← hb1]
  repeat (refine stp ?_)
  refine asks_spec (k := 10) (c := 100) ?_
  rewrite [show asksB 10 100 = true from by decide]
  repeat (refine stp ?_)
  have hd := hg.day
  dsimp only at hd
  rw [if_pos (show (fm 10).day = true from rfl)] at hd
  rewrite [u64_of (show 0 ≤ day by omega) (by omega)]
  refine Groups_all fun u2 => ?_
  rewrite [show sevensM (UInt64.ofInt day) 10 = cntL day from rfl]
  have hl2 := @cntL_len day
  refine co_append (e := encB) (by rfl) (by first | omega | (simp only [List.length_append, List.length_cons, List.length_nil]; omega)) (by first | omega | (simp only [List.length_append, List.length_cons, List.length_nil]; omega)) ?_
  intro v2
  refine Ht.one1 (v := v2) ?_
  intro o2
  obtain ⟨b2, hb2⟩ : ∃ x, x = b1 ++ cntL day := ⟨_, rfl⟩
  have hbl2 : b2.length ≤ 13 := by rw [hb2]; simp only [List.length_append, List.length_cons, List.length_nil]; omega
  rewrite [← hb2]
  repeat (refine stp ?_)
  refine asks_spec (k := 10) (c := 116) ?_
  rewrite [show asksB 10 116 = false from by decide]
  repeat (refine stp ?_)
  refine asks_spec (k := 10) (c := 110) ?_
  rewrite [show asksB 10 110 = false from by decide]
  repeat (refine stp ?_)
  refine asks_spec (k := 10) (c := 97) ?_
  rewrite [show asksB 10 97 = false from by decide]
  repeat (refine stp ?_)
  refine asks_spec (k := 10) (c := 114) ?_
  rewrite [show asksB 10 114 = true from by decide]
  repeat (refine stp ?_)
  rewrite [u64_of (show 0 ≤ (rows.length : Int) by omega) (by omega)]
  refine Groups_all fun u3 => ?_
  rewrite [show sevensM (UInt64.ofInt (rows.length : Int)) 10 = cntL rows.length from rfl]
  have hl3 := @cntL_len (rows.length : Int)
  refine co_append (e := encB) (by rfl) (by first | omega | (simp only [List.length_append, List.length_cons, List.length_nil]; omega)) (by first | omega | (simp only [List.length_append, List.length_cons, List.length_nil]; omega)) ?_
  intro v3
  refine Ht.one1 (v := v3) ?_
  intro o3
  obtain ⟨b3, hb3⟩ : ∃ x, x = b2 ++ cntL rows.length := ⟨_, rfl⟩
  have hbl3 : b3.length ≤ 24 := by rw [hb3]; simp only [List.length_append, List.length_cons, List.length_nil]; omega
  rewrite [← hb3]
  repeat (refine stp ?_)
  have hrl := @rowsL_len rows hsm.rows
  refine ht_for rows.length (fun i (x : Value) => One1 x) (fun i x => own encB 5 x (b3 ++ (rows.take i).flatMap rwL) :: pto c1 (cells (ntC ⟨10, peer, day, tr, name, amount, rows, hi, lo⟩ rv) 27) :: L) (fun i x => [(5, .int .i64 (i : Int)), (4, x)]) v3 [5, 4] o3 (fun w t => by rw [List.take_zero, List.flatMap_nil, List.append_nil]; exact (inferInstance : Frm _ _).h _ _ t) inferInstance ?_
  intro i x hil ox
  dsimp only [List.cons_append, List.nil_append]
  have hti := @rowsL_len (rows.take i) (fun r hr => hsm.rows r (List.mem_of_mem_take hr))
  rw [List.length_take] at hti
  repeat (refine stp ?_)
  refine ht_if ?_ ?_ <;> intro hc <;> simp only [decide_eq_true_eq, decide_eq_false_iff_not] at hc
  · have hii : i < rows.length := by omega
    have hrz : (rows[i]!).1.size ≤ 300 := hsm.rows _ (List.mem_of_getElem? (getB hii))
    have hrw := (hok.rows _ (List.mem_of_getElem? (getB hii))).2
    have q1 := @txtL_len (rows[i]!).1
    have q2 := @numL_len (rows[i]!).2
    repeat (refine stp ?_)
    refine co_index (xs := rows) (by omega) ?_
    intro hbx
    repeat (refine stp ?_)
    refine RTxt_spec (s := (rows[i]!).1) hrz fun w1 => ?_
    refine co_append (e := encB) (by rfl) (by simp only [List.length_append]; omega) (by simp only [List.length_append]; omega) ?_
    intro y1
    refine Ht.one1 (v := y1) ?_
    intro oy1
    repeat (refine stp ?_)
    refine co_index (xs := rows) (by omega) ?_
    intro hbx2
    repeat (refine stp ?_)
    refine RNum_spec (n := (rows[i]!).2) (R64.of hrw) fun w2 => ?_
    refine co_append (e := encB) (by rfl) (by simp only [List.length_append]; omega) (by simp only [List.length_append]; omega) ?_
    intro y2
    refine Ht.one1 (v := y2) ?_
    intro oy2
    rewrite [show b3 ++ (rows.take i).flatMap rwL ++ txtL (rows[i]!).1 ++ numL (rows[i]!).2 = b3 ++ (rows.take (i + 1)).flatMap rwL from by rw [← rowsL_sn hii]; simp only [List.append_assoc]]
    repeat (refine stp ?_)
    exact ht_next y2 (by omega) oy2 (fun w t => (inferInstance : Frm _ _).h _ _ t) (SubE.cons (by rw [IntWalk.i64_in _ (by omega)]; rfl) inferInstance) rfl rfl
  rw [List.take_of_length_le (by omega)]
  obtain ⟨b4, hb4⟩ : ∃ x, x = b3 ++ rows.flatMap rwL := ⟨_, rfl⟩
  have hbl4 : b4.length ≤ 322024 := by rw [hb4]; simp only [List.length_append, List.length_cons, List.length_nil]; omega
  rewrite [← hb4]
  repeat (refine stp ?_)
  refine asks_spec (k := 10) (c := 99) ?_
  rewrite [show asksB 10 99 = false from by decide]
  repeat (refine stp ?_)
  rw [show encL ⟨10, peer, day, tr, name, amount, rows, hi, lo⟩ = b4 from by
    unfold encL
    dsimp only
    rw [show (fm 10).peer = true from rfl, show (fm 10).day = true from rfl, show (fm 10).trade = false from rfl, show (fm 10).name = false from rfl, show (fm 10).amount = false from rfl, show (fm 10).rows = true from rfl, show (fm 10).cash = false from rfl]
    rw [hb4, hb3, hb2, hb1, hb]
    simp only [if_true, if_false, Bool.false_eq_true, List.append_nil, List.append_assoc]] at h
  exact ret1 rfl (Ht.frm (h _))
theorem renc11 {L K rv} {peer day amount hi lo : Int} {tr : Td} {name : ByteArray} {rows : Rows} (hok : NtOk ⟨11, peer, day, tr, name, amount, rows, hi, lo⟩) (hsm : NtSm ⟨11, peer, day, tr, name, amount, rows, hi, lo⟩) (hz0 : noteE ⟨11, peer, day, tr, name, amount, rows, hi, lo⟩ = 0) [rs : RdE L encRw rv rows]
    (h : ∀ v, Ht (own encB 5 v (encL ⟨11, peer, day, tr, name, amount, rows, hi, lo⟩) :: L) (K v)) : Ht L (CCall Tryd.prog 22 [ntV ⟨11, peer, day, tr, name, amount, rows, hi, lo⟩ rv] K) := by
  have hrs : ∀ (M : List HP) [fr : Frm M L], RdE M encRw rv rows := fun M fr => ⟨fun w t => rs.h w (fr.h _ _ t)⟩
  have hrs2 : ∀ (M : List HP) [fr : Frm M L], RdS M rv encRw rows := fun M fr => ⟨fun w t => rs.h w (fr.h _ _ t)⟩
  have hlen : rows.length ≤ 1000 := hsm.len
  have hg := good_of hz0
  refine Ht.know (p := One1 rv) (fun w t => one1_of (rs.h w t)) (fun ov => ?_)
  refine ccall1 Tryd.func22 rfl (by decide) Tryd.ntmps22 (by rfl) (by decide) ?_
  repeat (refine stp ?_)
  intro c1
  repeat (refine stp ?_)
  intro b0
  repeat (refine stp ?_)
  rewrite [show IntKind.u8.wrap 11 = (((UInt8.ofInt 11).toNat : Nat) : Int) from rfl]
  refine Ht.own_lit encB (b := b0) (n := 1) (xs := [UInt8.ofInt 11]) rfl rfl (by decide) ?_
  obtain ⟨b, hb⟩ : ∃ b, b = [UInt8.ofInt 11] := ⟨_, rfl⟩
  have hbl : b.length ≤ 1 := by rw [hb]; simp
  rewrite [← hb]
  repeat (refine stp ?_)
  refine asks_spec (k := 11) (c := 112) ?_
  rewrite [show asksB 11 112 = true from by decide]
  repeat (refine stp ?_)
  have hp := hg.peer
  dsimp only at hp
  rw [if_pos (show (fm 11).peer = true from rfl)] at hp
  intro bp
  repeat (refine stp ?_)
  rewrite [u8_of (show 0 ≤ peer by omega) (by omega)]
  refine Ht.own_lit encB (b := bp) (n := 1) (xs := [UInt8.ofInt peer]) rfl rfl (by decide) ?_
  refine co_append (e := encB) (by rfl) (by first | omega | (simp only [List.length_append, List.length_cons, List.length_nil]; omega)) (by first | omega | (simp only [List.length_append, List.length_cons, List.length_nil]; omega)) ?_
  intro v1
  refine Ht.one1 (v := v1) ?_
  intro o1
  obtain ⟨b1, hb1⟩ : ∃ x, x = b ++ [UInt8.ofInt peer] := ⟨_, rfl⟩
  have hbl1 : b1.length ≤ 2 := by rw [hb1]; simp only [List.length_append, List.length_cons, List.length_nil]; omega
  rewrite [← hb1]
  repeat (refine stp ?_)
  refine asks_spec (k := 11) (c := 100) ?_
  rewrite [show asksB 11 100 = true from by decide]
  repeat (refine stp ?_)
  have hd := hg.day
  dsimp only at hd
  rw [if_pos (show (fm 11).day = true from rfl)] at hd
  rewrite [u64_of (show 0 ≤ day by omega) (by omega)]
  refine Groups_all fun u2 => ?_
  rewrite [show sevensM (UInt64.ofInt day) 10 = cntL day from rfl]
  have hl2 := @cntL_len day
  refine co_append (e := encB) (by rfl) (by first | omega | (simp only [List.length_append, List.length_cons, List.length_nil]; omega)) (by first | omega | (simp only [List.length_append, List.length_cons, List.length_nil]; omega)) ?_
  intro v2
  refine Ht.one1 (v := v2) ?_
  intro o2
  obtain ⟨b2, hb2⟩ : ∃ x, x = b1 ++ cntL day := ⟨_, rfl⟩
  have hbl2 : b2.length ≤ 13 := by rw [hb2]; simp only [List.length_append, List.length_cons, List.length_nil]; omega
  rewrite [← hb2]
  repeat (refine stp ?_)
  refine asks_spec (k := 11) (c := 116) ?_
  rewrite [show asksB 11 116 = false from by decide]
  repeat (refine stp ?_)
  refine asks_spec (k := 11) (c := 110) ?_
  rewrite [show asksB 11 110 = false from by decide]
  repeat (refine stp ?_)
  refine asks_spec (k := 11) (c := 97) ?_
  rewrite [show asksB 11 97 = false from by decide]
  repeat (refine stp ?_)
  refine asks_spec (k := 11) (c := 114) ?_
  rewrite [show asksB 11 114 = true from by decide]
  repeat (refine stp ?_)
  rewrite [u64_of (show 0 ≤ (rows.length : Int) by omega) (by omega)]
  refine Groups_all fun u3 => ?_
  rewrite [show sevensM (UInt64.ofInt (rows.length : Int)) 10 = cntL rows.length from rfl]
  have hl3 := @cntL_len (rows.length : Int)
  refine co_append (e := encB) (by rfl) (by first | omega | (simp only [List.length_append, List.length_cons, List.length_nil]; omega)) (by first | omega | (simp only [List.length_append, List.length_cons, List.length_nil]; omega)) ?_
  intro v3
  refine Ht.one1 (v := v3) ?_
  intro o3
  obtain ⟨b3, hb3⟩ : ∃ x, x = b2 ++ cntL rows.length := ⟨_, rfl⟩
  have hbl3 : b3.length ≤ 24 := by rw [hb3]; simp only [List.length_append, List.length_cons, List.length_nil]; omega
  rewrite [← hb3]
  repeat (refine stp ?_)
  have hrl := @rowsL_len rows hsm.rows
  refine ht_for rows.length (fun i (x : Value) => One1 x) (fun i x => own encB 5 x (b3 ++ (rows.take i).flatMap rwL) :: pto c1 (cells (ntC ⟨11, peer, day, tr, name, amount, rows, hi, lo⟩ rv) 27) :: L) (fun i x => [(5, .int .i64 (i : Int)), (4, x)]) v3 [5, 4] o3 (fun w t => by rw [List.take_zero, List.flatMap_nil, List.append_nil]; exact (inferInstance : Frm _ _).h _ _ t) inferInstance ?_
  intro i x hil ox
  dsimp only [List.cons_append, List.nil_append]
  have hti := @rowsL_len (rows.take i) (fun r hr => hsm.rows r (List.mem_of_mem_take hr))
  rw [List.length_take] at hti
  repeat (refine stp ?_)
  refine ht_if ?_ ?_ <;> intro hc <;> simp only [decide_eq_true_eq, decide_eq_false_iff_not] at hc
  · have hii : i < rows.length := by omega
    have hrz : (rows[i]!).1.size ≤ 300 := hsm.rows _ (List.mem_of_getElem? (getB hii))
    have hrw := (hok.rows _ (List.mem_of_getElem? (getB hii))).2
    have q1 := @txtL_len (rows[i]!).1
    have q2 := @numL_len (rows[i]!).2
    repeat (refine stp ?_)
    refine co_index (xs := rows) (by omega) ?_
    intro hbx
    repeat (refine stp ?_)
    refine RTxt_spec (s := (rows[i]!).1) hrz fun w1 => ?_
    refine co_append (e := encB) (by rfl) (by simp only [List.length_append]; omega) (by simp only [List.length_append]; omega) ?_
    intro y1
    refine Ht.one1 (v := y1) ?_
    intro oy1
    repeat (refine stp ?_)
    refine co_index (xs := rows) (by omega) ?_
    intro hbx2
    repeat (refine stp ?_)
    refine RNum_spec (n := (rows[i]!).2) (R64.of hrw) fun w2 => ?_
    refine co_append (e := encB) (by rfl) (by simp only [List.length_append]; omega) (by simp only [List.length_append]; omega) ?_
    intro y2
    refine Ht.one1 (v := y2) ?_
    intro oy2
    rewrite [show b3 ++ (rows.take i).flatMap rwL ++ txtL (rows[i]!).1 ++ numL (rows[i]!).2 = b3 ++ (rows.take (i + 1)).flatMap rwL from by rw [← rowsL_sn hii]; simp only [List.append_assoc]]
    repeat (refine stp ?_)
    exact ht_next y2 (by omega) oy2 (fun w t => (inferInstance : Frm _ _).h _ _ t) (SubE.cons (by rw [IntWalk.i64_in _ (by omega)]; rfl) inferInstance) rfl rfl
  rw [List.take_of_length_le (by omega)]
  obtain ⟨b4, hb4⟩ : ∃ x, x = b3 ++ rows.flatMap rwL := ⟨_, rfl⟩
  have hbl4 : b4.length ≤ 322024 := by rw [hb4]; simp only [List.length_append, List.length_cons, List.length_nil]; omega
  rewrite [← hb4]
  repeat (refine stp ?_)
  refine asks_spec (k := 11) (c := 99) ?_
  rewrite [show asksB 11 99 = true from by decide]
  repeat (refine stp ?_)
  have hlo := lo_of hok.lo
  dsimp only at hlo
  have h8 : (eightM (UInt64.ofInt lo) 8).length = 8 := rfl
  refine RNum_spec (n := hi) (R64.of hok.hi) fun u5 => ?_
  have hl5 := @numL_len hi
  refine co_append (e := encB) (by rfl) (by first | omega | (simp only [List.length_append, List.length_cons, List.length_nil]; omega)) (by first | omega | (simp only [List.length_append, List.length_cons, List.length_nil]; omega)) ?_
  intro v5
  refine Ht.one1 (v := v5) ?_
  intro o5
  obtain ⟨b5, hb5⟩ : ∃ x, x = b4 ++ numL hi := ⟨_, rfl⟩
  have hbl5 : b5.length ≤ 322035 := by rw [hb5]; simp only [List.length_append, List.length_cons, List.length_nil]; omega
  rewrite [← hb5]
  repeat (refine stp ?_)
  rewrite [show (Value.int .u64 lo) = .int .u64 ((UInt64.ofInt lo).toNat : Int) from by rw [← hlo]]
  refine Word_spec (n := UInt64.ofInt lo) fun u6 => ?_
  refine co_append (e := encB) (by rfl) (by first | omega | (simp only [List.length_append, List.length_cons, List.length_nil]; omega)) (by first | omega | (simp only [List.length_append, List.length_cons, List.length_nil]; omega)) ?_
  intro v6
  refine Ht.one1 (v := v6) ?_
  intro o6
  obtain ⟨b6, hb6⟩ : ∃ x, x = b5 ++ eightM (UInt64.ofInt lo) 8 := ⟨_, rfl⟩
  have hbl6 : b6.length ≤ 322043 := by rw [hb6]; simp only [List.length_append, List.length_cons, List.length_nil]; omega
  rewrite [← hb6]
  repeat (refine stp ?_)
  rw [show encL ⟨11, peer, day, tr, name, amount, rows, hi, lo⟩ = b6 from by
    unfold encL
    dsimp only
    rw [show (fm 11).peer = true from rfl, show (fm 11).day = true from rfl, show (fm 11).trade = false from rfl, show (fm 11).name = false from rfl, show (fm 11).amount = false from rfl, show (fm 11).rows = true from rfl, show (fm 11).cash = true from rfl]
    rw [hb6, hb5, hb4, hb3, hb2, hb1, hb]
    simp only [if_true, if_false, Bool.false_eq_true, List.append_nil, List.append_assoc]] at h
  exact ret1 rfl (Ht.frm (h v6))
theorem renc12 {L K rv} {peer day amount hi lo : Int} {tr : Td} {name : ByteArray} {rows : Rows} (hok : NtOk ⟨12, peer, day, tr, name, amount, rows, hi, lo⟩) (hsm : NtSm ⟨12, peer, day, tr, name, amount, rows, hi, lo⟩) (hz0 : noteE ⟨12, peer, day, tr, name, amount, rows, hi, lo⟩ = 0) [rs : RdE L encRw rv rows]
    (h : ∀ v, Ht (own encB 5 v (encL ⟨12, peer, day, tr, name, amount, rows, hi, lo⟩) :: L) (K v)) : Ht L (CCall Tryd.prog 22 [ntV ⟨12, peer, day, tr, name, amount, rows, hi, lo⟩ rv] K) := by
  have hrs : ∀ (M : List HP) [fr : Frm M L], RdE M encRw rv rows := fun M fr => ⟨fun w t => rs.h w (fr.h _ _ t)⟩
  have hrs2 : ∀ (M : List HP) [fr : Frm M L], RdS M rv encRw rows := fun M fr => ⟨fun w t => rs.h w (fr.h _ _ t)⟩
  have hlen : rows.length ≤ 1000 := hsm.len
  have hg := good_of hz0
  refine Ht.know (p := One1 rv) (fun w t => one1_of (rs.h w t)) (fun ov => ?_)
  refine ccall1 Tryd.func22 rfl (by decide) Tryd.ntmps22 (by rfl) (by decide) ?_
  repeat (refine stp ?_)
  intro c1
  repeat (refine stp ?_)
  intro b0
  repeat (refine stp ?_)
  rewrite [show IntKind.u8.wrap 12 = (((UInt8.ofInt 12).toNat : Nat) : Int) from rfl]
  refine Ht.own_lit encB (b := b0) (n := 1) (xs := [UInt8.ofInt 12]) rfl rfl (by decide) ?_
  obtain ⟨b, hb⟩ : ∃ b, b = [UInt8.ofInt 12] := ⟨_, rfl⟩
  have hbl : b.length ≤ 1 := by rw [hb]; simp
  rewrite [← hb]
  repeat (refine stp ?_)
  refine asks_spec (k := 12) (c := 112) ?_
  rewrite [show asksB 12 112 = true from by decide]
  repeat (refine stp ?_)
  have hp := hg.peer
  dsimp only at hp
  rw [if_pos (show (fm 12).peer = true from rfl)] at hp
  intro bp
  repeat (refine stp ?_)
  rewrite [u8_of (show 0 ≤ peer by omega) (by omega)]
  refine Ht.own_lit encB (b := bp) (n := 1) (xs := [UInt8.ofInt peer]) rfl rfl (by decide) ?_
  refine co_append (e := encB) (by rfl) (by first | omega | (simp only [List.length_append, List.length_cons, List.length_nil]; omega)) (by first | omega | (simp only [List.length_append, List.length_cons, List.length_nil]; omega)) ?_
  intro v1
  refine Ht.one1 (v := v1) ?_
  intro o1
  obtain ⟨b1, hb1⟩ : ∃ x, x = b ++ [UInt8.ofInt peer] := ⟨_, rfl⟩
  have hbl1 : b1.length ≤ 2 := by rw [hb1]; simp only [List.length_append, List.length_cons, List.length_nil]; omega
  rewrite [← hb1]
  repeat (refine stp ?_)
  refine asks_spec (k := 12) (c := 100) ?_
  rewrite [show asksB 12 100 = false from by decide]
  repeat (refine stp ?_)
  refine asks_spec (k := 12) (c := 116) ?_
  rewrite [show asksB 12 116 = false from by decide]
  repeat (refine stp ?_)
  refine asks_spec (k := 12) (c := 110) ?_
  rewrite [show asksB 12 110 = false from by decide]
  repeat (refine stp ?_)
  refine asks_spec (k := 12) (c := 97) ?_
  rewrite [show asksB 12 97 = false from by decide]
  repeat (refine stp ?_)
  refine asks_spec (k := 12) (c := 114) ?_
  rewrite [show asksB 12 114 = false from by decide]
  repeat (refine stp ?_)
  refine asks_spec (k := 12) (c := 99) ?_
  rewrite [show asksB 12 99 = false from by decide]
  repeat (refine stp ?_)
  rw [show encL ⟨12, peer, day, tr, name, amount, rows, hi, lo⟩ = b1 from by
    unfold encL
    dsimp only
    rw [show (fm 12).peer = true from rfl, show (fm 12).day = false from rfl, show (fm 12).trade = false from rfl, show (fm 12).name = false from rfl, show (fm 12).amount = false from rfl, show (fm 12).rows = false from rfl, show (fm 12).cash = false from rfl]
    rw [hb1, hb]
    simp only [if_true, if_false, Bool.false_eq_true, List.append_nil, List.append_assoc]] at h
  exact ret1 rfl (Ht.frm (h v1))
theorem REncode_spec {L K rv} {n : Nt} (hok : NtOk n) (hsm : NtSm n) (hz0 : noteE n = 0) [rs : RdE L encRw rv n.rows]
    (h : ∀ v, Ht (own encB 5 v (encL n) :: L) (K v)) : Ht L (CCall Tryd.prog 22 [ntV n rv] K) := by
  have hk := (good_of hz0).k
  obtain ⟨kind, peer, day, tr, name, amount, rows, hi, lo⟩ := n
  rcases kinds hk with e | e | e | e | e | e | e | e | e | e | e | e <;> (dsimp only at e; subst e)
  · exact renc1 hok hsm hz0 h
  · exact renc2 hok hsm hz0 h
  · exact renc3 hok hsm hz0 h
  · exact renc4 hok hsm hz0 h
  · exact renc5 hok hsm hz0 h
  · exact renc6 hok hsm hz0 h
  · exact renc7 hok hsm hz0 h
  · exact renc8 hok hsm hz0 h
  · exact renc9 hok hsm hz0 h
  · exact renc10 hok hsm hz0 h
  · exact renc11 hok hsm hz0 h
  · exact renc12 hok hsm hz0 h
end Go.Proofs

set_option linter.all false
set_option synthInstance.maxSize 100000
namespace Go.SL
open Go Go.Proofs
section sl
variable {P : Program} {L : List HP} {E : List (Nat × Value)}
theorem not64 (n : Int) : ((BitVec.ofInt 64 (-1)) ^^^ (BitVec.ofInt 64 n)).toNat = (18446744073709551615 - n % 18446744073709551616).toNat := by
  have h : BitVec.ofInt 64 (-1) = BitVec.allOnes 64 := by decide
  rw [h, BitVec.allOnes_xor, BitVec.toNat_not, BitVec.toNat_ofInt]
  omega
theorem not64u (n : Int) : ((BitVec.ofInt 64 18446744073709551615) ^^^ (BitVec.ofInt 64 n)).toNat = (18446744073709551615 - n % 18446744073709551616).toNat := by
  have h : BitVec.ofInt 64 18446744073709551615 = BitVec.allOnes 64 := by decide
  rw [h, BitVec.allOnes_xor, BitVec.toNat_not, BitVec.toNat_ofInt]
  omega
instance rd_not_i {T : TypeId} {x : Operand} {n : Int} [ex : Ev E x (.int .i64 n)] : Rd P L E (.unOp .xor T x) (.int .i64 (IntKind.i64.wrap (((18446744073709551615 - n % 18446744073709551616).toNat : Nat) : Int))) := ⟨fun N D A w r _ d ty pos af g => by
  have : Op.unary .xor (.int .i64 n) = pure (.int .i64 (IntKind.i64.wrap (((18446744073709551615 - n % 18446744073709551616).toNat : Nat) : Int))) := by
    show Op.intBits .xor .i64 (-1) n = _
    unfold Op.intBits
    show pure (Value.int .i64 (IntKind.i64.wrap (((BitVec.ofInt 64 (-1)) ^^^ (BitVec.ofInt 64 n)).toNat : Nat))) = _
    rw [not64]
  simp [execOp, ex.h N D A r, this]⟩
instance rd_not_u {T : TypeId} {x : Operand} {n : Int} [ex : Ev E x (.int .u64 n)] : Rd P L E (.unOp .xor T x) (.int .u64 (IntKind.u64.wrap (((18446744073709551615 - n % 18446744073709551616).toNat : Nat) : Int))) := ⟨fun N D A w r _ d ty pos af g => by
  have : Op.unary .xor (.int .u64 n) = pure (.int .u64 (IntKind.u64.wrap (((18446744073709551615 - n % 18446744073709551616).toNat : Nat) : Int))) := by
    show Op.intBits .xor .u64 18446744073709551615 n = _
    unfold Op.intBits
    show pure (Value.int .u64 (IntKind.u64.wrap (((BitVec.ofInt 64 18446744073709551615) ^^^ (BitVec.ofInt 64 n)).toNat : Nat))) = _
    rw [not64u]
  simp [execOp, ex.h N D A r, this]⟩
end sl
end Go.SL

set_option linter.all false
set_option synthInstance.maxSize 100000
set_option synthInstance.maxHeartbeats 400000
namespace Go.Proofs
open Go Go.SL
attribute [local irreducible] CCall CO CC CX CD

/-! ### the words of the kinds: strings.Fields of one text -/
def spB (c : UInt8) : Int := if c = 9 ∨ c = 10 ∨ c = 11 ∨ c = 12 ∨ c = 13 ∨ c = 32 then 1 else 0
/-- the library's table lies as it was laid -/
class GTab (L : List HP) : Prop where
  h : ∀ w, Sat L w → ∀ c : UInt8, w.cell? ⟨0, c.toNat, none⟩ = some (.int .u8 (spB c))
def kW : ByteArray := ⟨#[97, 99, 99, 101, 112, 116, 32, 99, 117, 116, 32, 112, 114, 105, 99, 101, 32, 115, 101, 116, 116, 108, 101, 32, 112, 111, 115, 116, 32, 99, 97, 108, 108, 32, 97, 110, 115, 119, 101, 114, 32, 115, 116, 111, 112, 32, 108, 101, 103, 32, 109, 97, 114, 107, 32, 114, 101, 112, 111, 114, 116, 32, 104, 97, 108, 116]⟩
def kL : List UInt8 := kW.data.toList
def wordsL : List ByteArray := [⟨#[97, 99, 99, 101, 112, 116]⟩, ⟨#[99, 117, 116]⟩, ⟨#[112, 114, 105, 99, 101]⟩, ⟨#[115, 101, 116, 116, 108, 101]⟩, ⟨#[112, 111, 115, 116]⟩, ⟨#[99, 97, 108, 108]⟩, ⟨#[97, 110, 115, 119, 101, 114]⟩, ⟨#[115, 116, 111, 112]⟩, ⟨#[108, 101, 103]⟩, ⟨#[109, 97, 114, 107]⟩, ⟨#[114, 101, 112, 111, 114, 116]⟩, ⟨#[104, 97, 108, 116]⟩]
/-- how many words begin ahead of a place; was the last byte a space; the bits -/
def n1 (i : Nat) : Nat := ((List.range i).filter fun j => decide (kL[j]! ≠ 32) && (decide (j = 0) || decide (kL[j - 1]! = 32))).length
def w1 (i : Nat) : Nat := if i = 0 then 1 else if kL[i - 1]! = 32 then 1 else 0
def s1 (i : Nat) : UInt8 := (kL.take i).foldl (fun a c => a ||| c) 0
/-- how many words end ahead of a place; where the word begins -/
def n2 (i : Nat) : Nat := ((kL.take i).filter fun c => decide (c = 32)).length
def f2 (i : Nat) : Nat := ((List.range i).filter fun j => decide (kL[j]! = 32)).foldl (fun _ j => j + 1) 0
def a2 (i : Nat) : List ByteArray := wordsL.take (n2 i) ++ List.replicate (12 - n2 i) ⟨#[]⟩
theorem facts : (∀ i, i < 66 → (kL[i]! = 32 ∨ spB kL[i]! = 0) ∧ n1 (i + 1) = n1 i + (if w1 i = 1 ∧ kL[i]! ≠ 32 then 1 else 0) ∧ s1 (i + 1) = s1 i ||| kL[i]! ∧ n1 i ≤ 12 ∧ (kL[i]! = 32 → n2 (i + 1) = n2 i + 1 ∧ n2 i < 11 ∧ f2 i ≤ i ∧ f2 (i + 1) = i + 1 ∧ i + 1 < 66 ∧ kL[i + 1]! ≠ 32 ∧ (kW.extract (f2 i) i) = wordsL[n2 i]!) ∧ (kL[i]! ≠ 32 → n2 (i + 1) = n2 i ∧ f2 (i + 1) = f2 i)) ∧ n1 66 = 12 ∧ (s1 66).toNat < 128 ∧ kL[0]! ≠ 32 ∧ n2 66 = 11 ∧ f2 66 = 62 ∧ kW.extract 62 66 = wordsL[11]! ∧ kL.length = 66 ∧ kW.size = 66 := by
  decide +kernel
theorem a2_set : ∀ k, k < 12 → (wordsL.take k ++ List.replicate (12 - k) (⟨#[]⟩ : ByteArray)).set k wordsL[k]! = wordsL.take (k + 1) ++ List.replicate (12 - (k + 1)) ⟨#[]⟩ := by decide +kernel
theorem a2_len {i : Nat} (h : n2 i ≤ 12) : (a2 i).length = 12 := by
  unfold a2
  rw [List.length_append, List.length_take, List.length_replicate, show wordsL.length = 12 from rfl]; omega
theorem Fields_spec {L K} [gt : GTab L] (h : ∀ v, One1 v → Ht (own SL.encStr 9 v wordsL :: L) (K v)) : Ht L (CCall Tryd.prog 37 [.string kW] K) := by
  haveI hcl : ∀ (M : List HP) [fr : Frm M L] (c : UInt8), Cl M ⟨0, c.toNat, none⟩ (.int .u8 (spB c)) := fun M fr c => ⟨fun w t => gt.h w (fr.h _ _ t) c⟩
  obtain ⟨F, e12, es, e0, en2, ef2, ew, ekl, eks⟩ := facts
  refine ccall1 Tryd.func37 rfl (by decide) Tryd.ntmps37 (by rfl) (by decide) ?_
  have hsz : kW.data.toList = kL := rfl
  generalize hkw : kW = kw at *
  repeat (refine stp ?_)
  refine ht_for 66 (fun i (_ : Unit) => True) (fun _ _ => L) (fun i _ => [(6, .int .i64 (i : Int)), (3, .int .i64 ((n1 i : Nat) : Int)), (4, .int .i64 ((w1 i : Nat) : Int)), (5, .int .u8 (((s1 i).toNat : Nat) : Int))]) () [6, 3, 4, 5] trivial (fun _ t => t) (show SubE _ [(6, .int .i64 0), (3, .int .i64 0), (4, .int .i64 1), (5, .int .u8 0)] from inferInstance) ?_
  intro i _ hi _
  dsimp only [List.cons_append, List.nil_append]
  repeat (refine stp ?_)
  refine ht_if ?_ ?_ <;> intro hc <;> simp only [decide_eq_true_eq, decide_eq_false_iff_not] at hc
  · have hii : i < 66 := by omega
    obtain ⟨hsp, hn1, hs1, hn12, _, _⟩ := F i hii
    repeat (refine stp ?_)
    refine co_strIdx (str := kw) (by omega) ?_
    rewrite [hsz]
    repeat (refine stp ?_)
    refine co_ixA (m := (kL[i]!).toNat) (iv := (((kL[i]!).toNat : Nat) : Int)) (n := 256) (k := 1) (o := 0) (kL[i]!).toNat (by have := (kL[i]!).toNat_lt; omega) (by omega) ?_
    have hw : w1 i = 0 ∨ w1 i = 1 := by unfold w1; split <;> (try split) <;> simp
    have hsv : spB kL[i]! = if kL[i]! = 32 then 1 else 0 := by
      rcases hsp with h2 | h2
      · rw [if_pos h2, h2]; rfl
      · rw [if_neg (fun h3 => by rw [h3] at h2; cases h2), h2]
    have hw2 : w1 (i + 1) = if kL[i]! = 32 then 1 else 0 := by unfold w1; rw [if_neg (by omega), Nat.add_sub_cancel]
    repeat (refine stp ?_)
    refine ht_next () (by omega) trivial (fun _ t => t) (SubE.cons (by rw [IntWalk.i64_in _ (by omega)]; rfl) (SubE.cons ?_ (SubE.cons ?_ (SubE.cons (by rw [hs1]) inferInstance)))) rfl rfl
    · rw [hn1, hsv]
      by_cases h32 : kL[i]! = 32
      · rw [if_pos h32, if_neg (fun hh => hh.2 h32)]
        rcases hw with hw | hw <;> rw [hw] <;> congr 1 <;> rw [show bAnd .i64 _ (IntKind.i64.wrap (((18446744073709551615 - (IntKind.i64.wrap 1) % 18446744073709551616).toNat : Nat) : Int)) = 0 from by decide, IntWalk.i64_in _ (by omega)] <;> omega
      · rw [if_neg h32]
        rcases hw with hw | hw
        · rw [hw, if_neg (fun hh => absurd hh.1 (by decide))]
          congr 1
          rw [show bAnd .i64 ((0 : Nat) : Int) (IntKind.i64.wrap (((18446744073709551615 - (IntKind.i64.wrap 0) % 18446744073709551616).toNat : Nat) : Int)) = 0 from by decide, IntWalk.i64_in _ (by omega)]
          omega
        · rw [hw, if_pos ⟨rfl, h32⟩]
          congr 1
          rw [show bAnd .i64 ((1 : Nat) : Int) (IntKind.i64.wrap (((18446744073709551615 - (IntKind.i64.wrap 0) % 18446744073709551616).toNat : Nat) : Int)) = 1 from by decide, IntWalk.i64_in _ (by omega)]
          omega
    · rw [hw2, hsv]; split <;> rfl
  · have ei : i = 66 := by omega
    subst ei
    rw [e12]
    repeat (refine stp ?_)
    rewrite [show decide ((128 : Int) ≤ (((s1 66).toNat : Nat) : Int)) = false from decide_eq_false (by omega)]
    repeat (refine stp ?_)
    refine co_makeSlice SL.encStr ⟨#[]⟩ (m := 12) rfl (by omega) (by omega) (by omega) ?_
    intro v
    refine Ht.one1 (v := v) ?_
    intro ov
    have h := h v ov
    repeat (refine stp ?_)
    refine ht_for 0 (fun i (_ : Unit) => True) (fun _ _ => own SL.encStr 9 v (List.replicate 12 ⟨#[]⟩) :: L) (fun i _ => [(12, .int .i64 0)]) () [12] trivial (fun _ t => t) inferInstance ?_
    intro i _ hi _
    dsimp only [List.cons_append, List.nil_append]
    repeat (refine stp ?_)
    rewrite [show decide ((0 : Int) < ((kw.size : Nat) : Int)) = true from decide_eq_true (by omega)]
    repeat (refine stp ?_)
    refine co_strIdx (str := kw) (by omega) ?_
    rewrite [hsz]
    repeat (refine stp ?_)
    refine co_ixA (m := (kL[0]!).toNat) (iv := (((kL[0]!).toNat : Nat) : Int)) (n := 256) (k := 1) (o := 0) (kL[0]!).toNat (by have := (kL[0]!).toNat_lt; omega) (by omega) ?_
    repeat (refine stp ?_)
    have hs0 : spB kL[0]! = 0 := (F 0 (by omega)).1.resolve_left e0
    rewrite [hs0]
    rewrite [show decide ((0 : Int) ≠ 0) = false from rfl]
    repeat (refine stp ?_)
    refine ht_for 66 (fun i (_ : Unit) => n2 i ≤ 11 ∧ f2 i ≤ i) (fun i _ => own SL.encStr 9 v (a2 i) :: L) (fun i _ => [(12, .int .i64 (i : Int)), (10, .int .i64 ((n2 i : Nat) : Int)), (11, .int .i64 ((f2 i : Nat) : Int))]) () [12, 10, 11] ⟨by decide, by decide⟩ (fun _ t => t) (show SubE _ [(12, .int .i64 0), (10, .int .i64 0), (11, .int .i64 0)] from inferInstance) ?_
    intro i _ hi ⟨hn2, hf2⟩
    dsimp only [List.cons_append, List.nil_append]
    have hal := a2_len (show n2 i ≤ 12 by omega)
    repeat (refine stp ?_)
    refine ht_if ?_ ?_ <;> intro hc <;> simp only [decide_eq_true_eq, decide_eq_false_iff_not] at hc
    · have hii : i < 66 := by omega
      obtain ⟨hsp, _, _, _, h32, hno⟩ := F i hii
      repeat (refine stp ?_)
      refine co_strIdx (str := kw) (by omega) ?_
      rewrite [hsz]
      repeat (refine stp ?_)
      refine co_ixA (m := (kL[i]!).toNat) (iv := (((kL[i]!).toNat : Nat) : Int)) (n := 256) (k := 1) (o := 0) (kL[i]!).toNat (by have := (kL[i]!).toNat_lt; omega) (by omega) ?_
      repeat (refine stp ?_)
      by_cases hs : kL[i]! = 32
      · obtain ⟨g1, g2, g3, g4, g5, g6, g7⟩ := h32 hs
        rewrite [show spB kL[i]! = 1 from by rw [hs]; rfl, show decide ((1 : Int) = 0) = false from rfl]
        repeat (refine stp ?_)
        refine co_strSlice (str := kw) (m := f2 i) (n := i) (by omega) ?_
        rewrite [g7]
        repeat (refine stp ?_)
        refine co_index (xs := a2 i) (by omega) ?_
        intro hb
        repeat (refine stp ?_)
        refine co_setEl (e := SL.encStr) (el := 9) (wordsL[n2 i]!) (by rfl) (by simp) ?_
        rewrite [show (a2 i).set (n2 i) wordsL[n2 i]! = a2 (i + 1) from by unfold a2; rw [a2_set _ (by omega), g1]]
        repeat (refine stp ?_)
        refine ht_for 0 (fun q (_ : Unit) => True) (fun _ _ => own SL.encStr 9 v (a2 (i + 1)) :: L) (fun q _ => [(12, .int .i64 ((i + 1 : Nat) : Int))]) () [12] trivial (fun _ t => t) (SubE.cons (by rw [IntWalk.i64_in _ (by omega)]; rfl) inferInstance) ?_
        intro q _ hq _
        dsimp only [List.cons_append, List.nil_append]
        repeat (refine stp ?_)
        rewrite [show decide (((i + 1 : Nat) : Int) < ((kw.size : Nat) : Int)) = true from decide_eq_true (by omega)]
        repeat (refine stp ?_)
        refine co_strIdx (str := kw) (m := i + 1) (by omega) ?_
        rewrite [hsz]
        repeat (refine stp ?_)
        refine co_ixA (m := (kL[i + 1]!).toNat) (iv := (((kL[i + 1]!).toNat : Nat) : Int)) (n := 256) (k := 1) (o := 0) (kL[i + 1]!).toNat (by have := (kL[i + 1]!).toNat_lt; omega) (by omega) ?_
        repeat (refine stp ?_)
        have hs0 : spB kL[i + 1]! = 0 := (F (i + 1) (by omega)).1.resolve_left g6
        rewrite [hs0]
        rewrite [show decide ((0 : Int) ≠ 0) = false from rfl]
        repeat (refine stp ?_)
        exact ht_next () hii ⟨by omega, by omega⟩ (fun _ t => t) (SubE.cons rfl (SubE.cons (by rw [g1, IntWalk.i64_in _ (by omega)]; rfl) (SubE.cons (by rw [g4]) inferInstance))) rfl rfl
      · obtain ⟨g1, g2⟩ := hno hs
        have hs0 : spB kL[i]! = 0 := hsp.resolve_left hs
        rewrite [hs0]
        rewrite [show decide ((0 : Int) = 0) = true from rfl]
        repeat (refine stp ?_)
        rewrite [show a2 i = a2 (i + 1) from by unfold a2; rw [g1]]
        exact ht_next () hii ⟨by omega, by omega⟩ (fun _ t => t) (SubE.cons (by rw [IntWalk.i64_in _ (by omega)]; rfl) (SubE.cons (by rw [g1]) (SubE.cons (by rw [g2]) inferInstance))) rfl rfl
    · have ei : i = 66 := by omega
      subst ei
      rw [en2, ef2]
      repeat (refine stp ?_)
      rewrite [show decide (((62 : Nat) : Int) < ((kw.size : Nat) : Int)) = true from decide_eq_true (by omega)]
      repeat (refine stp ?_)
      refine co_strDrop (str := kw) (m := 62) (by omega) ?_
      rewrite [eks, ew]
      repeat (refine stp ?_)
      refine co_index (xs := a2 66) (by omega) ?_
      intro hb
      repeat (refine stp ?_)
      refine co_setEl (e := SL.encStr) (el := 9) (wordsL[11]!) (by rfl) (by simp) ?_
      rewrite [show (a2 66).set 11 wordsL[11]! = wordsL from by unfold a2; rw [en2, a2_set 11 (by omega)]; rfl]
      repeat (refine stp ?_)
      exact ret1 rfl h
end Go.Proofs

set_option linter.all false
set_option synthInstance.maxSize 100000
set_option synthInstance.maxHeartbeats 400000
namespace Go.Proofs
open Go Go.SL
attribute [local irreducible] CCall CO CC CX CD

def wordK (k : Int) : ByteArray := if k < 1 then ⟨#[]⟩ else if 12 < k then ⟨#[]⟩ else wordsL[(k - 1).toNat]!
theorem NWord_spec {L K} {k : Int} [gt : GTab L] (h : Ht L (K (.string (wordK k)))) : Ht L (CCall Tryd.prog 13 [.int .i64 k] K) := by
  refine ccall1 Tryd.func13 rfl (by decide) Tryd.ntmps13 (by rfl) (by decide) ?_
  unfold wordK at h
  repeat (refine stp ?_)
  refine Fields_spec fun v ov => ?_
  repeat (refine stp ?_)
  by_cases h1 : k < 1
  · rw [if_pos h1] at h
    rewrite [decide_eq_true h1]
    repeat (refine stp ?_)
    exact ret1 rfl (Ht.frm h)
  rw [if_neg h1] at h
  rewrite [decide_eq_false h1]
  repeat (refine stp ?_)
  have hwl : wordsL.length = 12 := rfl
  by_cases h2 : 12 < k
  · rw [if_pos h2] at h
    rewrite [show decide (((wordsL.length : Nat) : Int) < k) = true from decide_eq_true (by omega)]
    repeat (refine stp ?_)
    exact ret1 rfl (Ht.frm h)
  rw [if_neg h2] at h
  rewrite [show decide (((wordsL.length : Nat) : Int) < k) = false from decide_eq_false (by omega)]
  repeat (refine stp ?_)
  rewrite [IntWalk.i64_in (k - 1) (by omega)]
  refine co_index (xs := wordsL) (by omega) ?_
  intro hb
  repeat (refine stp ?_)
  exact ret1 rfl (Ht.frm h)
theorem RWord_spec {L K} {k : Int} (h : Ht L (K (.string (wordK k)))) : Ht L (CCall Tryd.prog 14 [.int .i64 k] K) := by
  by_cases hk : k < 0 ∨ 12 < k
  · have hw : wordK k = ⟨#[]⟩ := by
      unfold wordK
      rcases hk with hk | hk
      · rw [if_pos (by omega)]
      · rw [if_neg (by omega), if_pos hk]
    rw [hw] at h
    refine ccall1 Tryd.func14 rfl (by decide) Tryd.ntmps14 (by rfl) (by decide) ?_
    repeat (refine stp ?_)
    intro c3
    repeat (refine stp ?_)
    by_cases h1 : k < 0
    · rewrite [decide_eq_true h1]
      repeat (refine stp ?_)
      exact ret1 rfl (Ht.frm h)
    rewrite [decide_eq_false h1]
    repeat (refine stp ?_)
    rewrite [show decide ((12 : Int) < k) = true from decide_eq_true (by omega)]
    repeat (refine stp ?_)
    exact ret1 rfl (Ht.frm h)
  refine ccall1 Tryd.func14 rfl (by decide) Tryd.ntmps14 (by rfl) (by decide) ?_
  repeat (refine stp ?_)
  intro c3
  repeat (refine stp ?_)
  rewrite [show decide (k < 0) = false from decide_eq_false (by omega)]
  repeat (refine stp ?_)
  rewrite [show decide ((12 : Int) < k) = false from decide_eq_false (by omega)]
  repeat (refine stp ?_)
  rcases (show k = 0 ∨ k = 1 ∨ k = 2 ∨ k = 3 ∨ k = 4 ∨ k = 5 ∨ k = 6 ∨ k = 7 ∨ k = 8 ∨ k = 9 ∨ k = 10 ∨ k = 11 ∨ k = 12 by omega) with rfl | rfl | rfl | rfl | rfl | rfl | rfl | rfl | rfl | rfl | rfl | rfl | rfl
  · refine co_ixA (m := 0) (iv := 0) (n := 13) (k := 1) (o := 0) 0 (by decide) rfl ?_
    repeat (refine stp ?_)
    exact ret1 rfl (Ht.frm h)
  · refine co_ixA (m := 1) (iv := 1) (n := 13) (k := 1) (o := 0) 1 (by decide) rfl ?_
    repeat (refine stp ?_)
    exact ret1 rfl (Ht.frm h)
  · refine co_ixA (m := 2) (iv := 2) (n := 13) (k := 1) (o := 0) 2 (by decide) rfl ?_
    repeat (refine stp ?_)
    exact ret1 rfl (Ht.frm h)
  · refine co_ixA (m := 3) (iv := 3) (n := 13) (k := 1) (o := 0) 3 (by decide) rfl ?_
    repeat (refine stp ?_)
    exact ret1 rfl (Ht.frm h)
  · refine co_ixA (m := 4) (iv := 4) (n := 13) (k := 1) (o := 0) 4 (by decide) rfl ?_
    repeat (refine stp ?_)
    exact ret1 rfl (Ht.frm h)
  · refine co_ixA (m := 5) (iv := 5) (n := 13) (k := 1) (o := 0) 5 (by decide) rfl ?_
    repeat (refine stp ?_)
    exact ret1 rfl (Ht.frm h)
  · refine co_ixA (m := 6) (iv := 6) (n := 13) (k := 1) (o := 0) 6 (by decide) rfl ?_
    repeat (refine stp ?_)
    exact ret1 rfl (Ht.frm h)
  · refine co_ixA (m := 7) (iv := 7) (n := 13) (k := 1) (o := 0) 7 (by decide) rfl ?_
    repeat (refine stp ?_)
    exact ret1 rfl (Ht.frm h)
  · refine co_ixA (m := 8) (iv := 8) (n := 13) (k := 1) (o := 0) 8 (by decide) rfl ?_
    repeat (refine stp ?_)
    exact ret1 rfl (Ht.frm h)
  · refine co_ixA (m := 9) (iv := 9) (n := 13) (k := 1) (o := 0) 9 (by decide) rfl ?_
    repeat (refine stp ?_)
    exact ret1 rfl (Ht.frm h)
  · refine co_ixA (m := 10) (iv := 10) (n := 13) (k := 1) (o := 0) 10 (by decide) rfl ?_
    repeat (refine stp ?_)
    exact ret1 rfl (Ht.frm h)
  · refine co_ixA (m := 11) (iv := 11) (n := 13) (k := 1) (o := 0) 11 (by decide) rfl ?_
    repeat (refine stp ?_)
    exact ret1 rfl (Ht.frm h)
  · refine co_ixA (m := 12) (iv := 12) (n := 13) (k := 1) (o := 0) 12 (by decide) rfl ?_
    repeat (refine stp ?_)
    exact ret1 rfl (Ht.frm h)
theorem Message_spec {L K rv} {n : Nt} (ov : One1 rv) (h : Ht L (K (.bool (decide (9 ≤ n.kind) && decide (n.kind ≤ 12))))) : Ht L (CCall Tryd.prog 12 [ntV n rv] K) := by
  refine ccall1 Tryd.func12 rfl (by decide) Tryd.ntmps12 (by rfl) (by decide) ?_
  repeat (refine stp ?_)
  intro c1
  repeat (refine stp ?_)
  by_cases h1 : 9 ≤ n.kind
  · rewrite [show decide ((9 : Int) ≤ n.kind) = true from decide_eq_true h1]
    rw [decide_eq_true h1, Bool.true_and] at h
    repeat (refine stp ?_)
    exact ret1 rfl (Ht.frm h)
  · rewrite [show decide ((9 : Int) ≤ n.kind) = false from decide_eq_false h1]
    rw [decide_eq_false h1, Bool.false_and] at h
    repeat (refine stp ?_)
    exact ret1 rfl (Ht.frm h)
end Go.Proofs
