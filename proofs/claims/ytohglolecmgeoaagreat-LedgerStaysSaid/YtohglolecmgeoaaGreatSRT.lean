import Derived.Test.YtohglolecmgeoaaGreatSLT
import Derived.Test.YtohglolecmgeoaaGreatB8cc88581
import Derived.Shelf.SortM.Plain
import Derived.Shelf.SortM.SortNone
set_option linter.all false
set_option synthInstance.maxSize 100000
set_option synthInstance.maxHeartbeats 400000
namespace Go.Proofs
open Go
def Tryz.sortR : Go.Shelf.Ren := Go.Shelf.Ren.mk
  (fun x => match x with | 6 => 66 | 8 => 153 | 9 => 152 | 19 => 231 | 20 => 232 | 21 => 222 | 22 => 223 | 23 => 224 | 24 => 225 | 25 => 226 | 26 => 227 | 27 => 228 | 28 => 229 | 29 => 230 | 36 => 285 | 31 => 286 | 32 => 287 | 37 => 288 | 38 => 289 | 39 => 290 | 41 => 346 | n => n)
  (fun x => match x with | 27 => 22 | 29 => 9 | 3 => 3 | 32 => 272 | 26 => 22 | 0 => 0 | 44 => 378 | 46 => 38 | 4 => 4 | 36 => 371 | 35 => 370 | 41 => 276 | 5 => 5 | 9 => 9 | 53 => 448 | 57 => 452 | 63 => 510 | 64 => 511 | n => n)
  (fun n => n)
theorem Tryz.sortL : SlLaysM.n6 Tryz.prog Tryz.sortR :=
  { mixed := Eq.refl true,
    f6 := Exists.intro "slices.Sort[[]string,string]" ⟨of_decide_eq_true (id (Eq.refl true)), Eq.trans Tryz.func66 (congrArg some rfl)⟩,
    f8 := Eq.trans Tryz.func153 (congrArg some rfl),
    f9 := Exists.intro "slices.pdqsortOrdered[string]" ⟨of_decide_eq_true (id (Eq.refl true)), Eq.trans Tryz.func152 (congrArg some rfl)⟩,
    f19 := Eq.trans Tryz.func231 (congrArg some rfl),
    f20 := Eq.trans Tryz.func232 (congrArg some rfl),
    f21 := Exists.intro "slices.insertionSortOrdered[string]" ⟨of_decide_eq_true (id (Eq.refl true)), Eq.trans Tryz.func222 (congrArg some rfl)⟩,
    f22 := Exists.intro "slices.heapSortOrdered[string]" ⟨of_decide_eq_true (id (Eq.refl true)), Eq.trans Tryz.func223 (congrArg some rfl)⟩,
    f23 := Exists.intro "slices.breakPatternsOrdered[string]" ⟨of_decide_eq_true (id (Eq.refl true)), Eq.trans Tryz.func224 (congrArg some rfl)⟩,
    f24 := Exists.intro "slices.choosePivotOrdered[string]" ⟨of_decide_eq_true (id (Eq.refl true)), Eq.trans Tryz.func225 (congrArg some rfl)⟩,
    f25 := Exists.intro "slices.reverseRangeOrdered[string]" ⟨of_decide_eq_true (id (Eq.refl true)), Eq.trans Tryz.func226 (congrArg some rfl)⟩,
    f26 := Exists.intro "slices.partialInsertionSortOrdered[string]" ⟨of_decide_eq_true (id (Eq.refl true)), Eq.trans Tryz.func227 (congrArg some rfl)⟩,
    f27 := Exists.intro "cmp.Less[string]" ⟨of_decide_eq_true (id (Eq.refl true)), Eq.trans Tryz.func228 (congrArg some rfl)⟩,
    f28 := Exists.intro "slices.partitionEqualOrdered[string]" ⟨of_decide_eq_true (id (Eq.refl true)), Eq.trans Tryz.func229 (congrArg some rfl)⟩,
    f29 := Exists.intro "slices.partitionOrdered[string]" ⟨of_decide_eq_true (id (Eq.refl true)), Eq.trans Tryz.func230 (congrArg some rfl)⟩,
    f31 := Eq.trans Tryz.func286 (congrArg some rfl),
    f32 := Eq.trans Tryz.func287 (congrArg some rfl),
    f36 := Exists.intro "slices.siftDownOrdered[string]" ⟨of_decide_eq_true (id (Eq.refl true)), Eq.trans Tryz.func285 (congrArg some rfl)⟩,
    f37 := Exists.intro "slices.medianAdjacentOrdered[string]" ⟨of_decide_eq_true (id (Eq.refl true)), Eq.trans Tryz.func288 (congrArg some rfl)⟩,
    f38 := Exists.intro "slices.medianOrdered[string]" ⟨of_decide_eq_true (id (Eq.refl true)), Eq.trans Tryz.func289 (congrArg some rfl)⟩,
    f39 := Exists.intro "cmp.isNaN[string]" ⟨of_decide_eq_true (id (Eq.refl true)), Eq.trans Tryz.func290 (congrArg some rfl)⟩,
    f41 := Exists.intro "slices.order2Ordered[string]" ⟨of_decide_eq_true (id (Eq.refl true)), Eq.trans Tryz.func346 (congrArg some rfl)⟩,
    t0 := Tryz.underlying0,
    a0 := Tryz.isAgg0,
    z0 := Tryz.sizeOf0,
    v0 := Tryz.zeroValue0,
    t3 := Tryz.underlying3,
    a3 := Tryz.isAgg3,
    z3 := Tryz.sizeOf3,
    v3 := Tryz.zeroValue3,
    t4 := Tryz.underlying4,
    a4 := Tryz.isAgg4,
    z4 := Tryz.sizeOf4,
    v4 := Tryz.zeroValue4,
    t5 := Tryz.underlying5,
    a5 := Tryz.isAgg5,
    z5 := Tryz.sizeOf5,
    v5 := Tryz.zeroValue5,
    t9 := Tryz.underlying9,
    a9 := Tryz.isAgg9,
    z9 := Tryz.sizeOf9,
    v9 := Tryz.zeroValue9,
    t26 := Tryz.underlying22,
    a26 := Tryz.isAgg22,
    z26 := Tryz.sizeOf22,
    v26 := Tryz.zeroValue22,
    t27 := Tryz.underlying22,
    a27 := Tryz.isAgg22,
    z27 := Tryz.sizeOf22,
    v27 := Tryz.zeroValue22,
    t29 := Tryz.underlying9,
    a29 := Tryz.isAgg9,
    z29 := Tryz.sizeOf9,
    v29 := Tryz.zeroValue9,
    t32 := Tryz.underlying272,
    a32 := Tryz.isAgg272,
    z32 := Tryz.sizeOf272,
    v32 := Tryz.zeroValue272,
    t35 := Tryz.underlying370,
    a35 := Tryz.isAgg370,
    z35 := Tryz.sizeOf370,
    v35 := Tryz.zeroValue370,
    t36 := Tryz.underlying371,
    a36 := Tryz.isAgg371,
    z36 := Tryz.sizeOf371,
    v36 := Tryz.zeroValue371,
    t41 := Tryz.underlying276,
    a41 := Tryz.isAgg276,
    z41 := Tryz.sizeOf276,
    v41 := Tryz.zeroValue276,
    t44 := Tryz.underlying378,
    a44 := Tryz.isAgg378,
    z44 := Tryz.sizeOf378,
    v44 := Tryz.zeroValue378,
    t46 := Tryz.underlying38,
    a46 := Tryz.isAgg38,
    z46 := Tryz.sizeOf38,
    v46 := Tryz.zeroValue38,
    t53 := Tryz.underlying448,
    a53 := Tryz.isAgg448,
    z53 := Tryz.sizeOf448,
    v53 := Tryz.zeroValue448,
    t57 := Tryz.underlying452,
    a57 := Tryz.isAgg452,
    z57 := Tryz.sizeOf452,
    v57 := Tryz.zeroValue452,
    t63 := Tryz.underlying510,
    a63 := Tryz.isAgg510,
    z63 := Tryz.sizeOf510,
    v63 := Tryz.zeroValue510,
    t64 := Tryz.underlying511,
    a64 := Tryz.isAgg511,
    z64 := Tryz.sizeOf511,
    v64 := Tryz.zeroValue511 }
def toL (b : ByteArray) : List UInt8 := b.data.toList
def ofL (l : List UInt8) : ByteArray := ⟨l.toArray⟩
theorem ofL_toL (b : ByteArray) : ofL (toL b) = b := by simp [ofL, toL]
def sortB (xs : List ByteArray) : List ByteArray := ((xs.map toL).mergeSort (fun x y => decide (x ≤ y))).map ofL
theorem sortB_len {xs : List ByteArray} : (sortB xs).length = xs.length := by simp [sortB]
theorem sortB_perm {xs : List ByteArray} : (sortB xs).Perm xs := by
  have h := (List.mergeSort_perm (xs.map toL) (fun x y => decide (x ≤ y))).map ofL
  rw [List.map_map] at h
  have e : xs.map (ofL ∘ toL) = xs := by
    conv => rhs; rw [← List.map_id xs]
    exact List.map_congr_left fun b _ => ofL_toL b
  rw [e] at h
  exact h
theorem putCells_mid (d : Array (List UInt8)) (pre mid post : List Value) (hm : mid.length = d.size) : Go.Sort.putCells Go.Proofs.encStr pre.length d (pre ++ mid ++ post).toArray = (pre ++ (d.toList.map Go.Proofs.encStr) ++ post).toArray := by
  apply Array.ext_getElem?
  intro k
  simp only [Go.Sort.putCells, Array.getElem?_mapIdx, List.getElem?_toArray]
  by_cases h1 : k < pre.length
  · rw [List.append_assoc, List.append_assoc, List.getElem?_append_left h1, List.getElem?_append_left h1, List.getElem?_eq_getElem h1]
    simp only [Option.map_some]
    rw [if_neg (by omega)]
  · by_cases h2 : k < pre.length + d.size
    · rw [List.getElem?_append_left (by simp; omega), List.getElem?_append_right (by omega), List.getElem?_append_left (by simp; omega), List.getElem?_append_right (by omega), List.getElem?_eq_getElem (by omega), List.getElem?_map]
      simp only [Option.map_some]
      rw [if_pos (by omega), Array.getElem?_toList, getElem!_pos d _ (by omega), Array.getElem?_eq_getElem (by omega)]
      rfl
    · rw [List.getElem?_append_right (by simp; omega), List.getElem?_append_right (by simp; omega)]
      simp only [List.length_append, List.length_map, Array.length_toList, hm]
      cases hq : post[k - (pre.length + d.size)]? with
      | none => rfl
      | some u =>
        simp only [Option.map_some]
        rw [if_neg (by omega)]
open Go.SL
theorem sort_spec {L R K v} {xs : List ByteArray} [p : Pull (own SL.encStr 9 v) L xs R] (hn : xs.length ≤ 1000000) (h : Ht (own SL.encStr 9 v (sortB xs) :: R) (K (.tuple #[]))) : Ht L (CCall Tryz.prog 66 [v] K) := by
  intro w s0
  have s := p.sat s0
  refine ⟨⟨Tryz.f66, Tryz.func66, by decide, rfl⟩, ?_⟩
  by_cases hx : xs = []
  · subst hx
    obtain ⟨ad, c, hv, _, _⟩ := sliceIn_of (own_sat s)
    subst hv
    have hc := AnyM.slices_Sort_string_none Tryz.sortL ad c w
    refine callsIn_wide.2 (hc.mono fun e w' hh => ?_)
    obtain ⟨he, hw⟩ := hh
    subst hw
    have e0 : sortB [] = [] := by simp [sortB]
    rw [e0] at h
    exact ⟨_, he, h _ s⟩
  · obtain ⟨h1, h2, u, ho, l⟩ := s
    rcases ho with ⟨_, hnil⟩ | ⟨bb, pre, post, cap, fz, hv, g2, g3, g4, g5, g6⟩
    · exact absurd hnil hx
    subst hv
    have hfl : xs.flatMap SL.encStr.f = xs.map fun b => Value.string b := by simp [List.map_eq_flatMap]
    have hk : SL.encStr.k = 1 := rfl
    rw [hk, Nat.mul_one, Nat.mul_one] at g4
    rw [hk, Nat.mul_one] at g6
    have hbb : w.heap[bb]? = some (.cells (pre ++ xs.flatMap SL.encStr.f ++ post).toArray 9 fz) := by
      have := u bb; simp_all
    have hlt : bb < w.heap.size := by
      refine Nat.lt_of_not_le fun hh => ?_
      rw [Array.getElem?_eq_none hh] at hbb; cases hbb
    have hH : Go.Sort.Holds Go.Proofs.encStr w bb pre.length (xs.map toL).toArray := fun j hj => by
      have hj2 : j < xs.length := by simpa using hj
      refine ⟨?_, ?_⟩
      · simp only [World.cell?, hbb, Option.isSome_none, Bool.false_eq_true, if_false, List.getElem?_toArray]
        rw [hfl, List.append_assoc, List.getElem?_append_right (by omega), List.getElem?_append_left (by simp; omega), show pre.length + j - pre.length = j from by omega, List.getElem?_map, List.getElem?_eq_getElem hj2, getElem!_pos _ j hj]
        simp [Go.Proofs.encStr, toL]
      · simp only [World.frozen?, hbb]
        have := g6 (pre.length + j) (by omega)
        simpa using this
    have hc := AnyM.slices_Sort_string Tryz.sortL bb pre.length cap (xs.map toL) w hH hlt (by simp; omega)
    rw [List.length_map] at hc
    refine callsIn_wide.2 (hc.mono fun e w' hh => ?_)
    obtain ⟨he, n, os, hw⟩ := hh
    refine ⟨_, he, ?_⟩
    refine h w' ?_
    have hp1 : (Go.Sort.putRow Go.Proofs.encStr (Go.Sort.ahead w n) bb pre.length ((xs.map toL).mergeSort fun x y => decide (x ≤ y)).toArray).heap[bb]? = some (.cells (pre ++ (sortB xs).flatMap SL.encStr.f ++ post).toArray 9 fz) := by
      have e1 : (sortB xs).flatMap SL.encStr.f = ((xs.map toL).mergeSort fun x y => decide (x ≤ y)).map Go.Proofs.encStr := by
        unfold sortB
        generalize ((xs.map toL).mergeSort fun x y => decide (x ≤ y)) = q
        rw [List.flatMap_map]
        induction q with
        | nil => rfl
        | cons a q ih => rw [List.flatMap_cons, List.map_cons, ih]; rfl
      rw [e1]
      have e2 := putCells_mid ((xs.map toL).mergeSort fun x y => decide (x ≤ y)).toArray pre (xs.flatMap SL.encStr.f) post (by rw [hfl]; simp)
      show ((Go.Sort.ahead w n).heap.modify bb _)[bb]? = _
      rw [Array.getElem?_modify, if_pos rfl]
      show (w.heap[bb]?).map _ = _
      rw [hbb]
      simp only [Option.map_some, Go.Sort.onCells]
      rw [e2]
    have hp2 : ∀ x, x ≠ bb → (Go.Sort.putRow Go.Proofs.encStr (Go.Sort.ahead w n) bb pre.length ((xs.map toL).mergeSort fun x y => decide (x ≤ y)).toArray).heap[x]? = w.heap[x]? := fun x hxb => by
      show ((Go.Sort.ahead w n).heap.modify bb _)[x]? = _
      rw [Array.getElem?_modify, if_neg (Ne.symm hxb)]
      rfl
    have hsz : (Go.Sort.putRow Go.Proofs.encStr (Go.Sort.ahead w n) bb pre.length ((xs.map toL).mergeSort fun x y => decide (x ≤ y)).toArray).heap.size = w.heap.size := by
      show ((Go.Sort.ahead w n).heap.modify bb _).size = _
      rw [Array.size_modify]; rfl
    have henv : envOf (Go.Sort.grow (Go.Sort.putRow Go.Proofs.encStr (Go.Sort.ahead w n) bb pre.length ((xs.map toL).mergeSort fun x y => decide (x ≤ y)).toArray) os) = envOf w := rfl
    generalize Go.Sort.putRow Go.Proofs.encStr (Go.Sort.ahead w n) bb pre.length ((xs.map toL).mergeSort fun x y => decide (x ≤ y)).toArray = W at hw hp1 hp2 hsz henv
    have hg : ∀ x, x < w.heap.size → w'.heap[x]? = W.heap[x]? := fun x hx => by
      subst hw; show (W.heap ++ os)[x]? = _
      rw [Array.getElem?_append, if_pos (by omega)]
    refine ⟨fun x => if x = bb then w'.heap[bb]? else if x < w.heap.size then h1 x else w'.heap[x]?, h2, fun x => ?_, ?_, ?_⟩
    · have hu := u x
      by_cases hxb : x = bb
      · subst hxb; simp_all
      · by_cases hxs : x < w.heap.size
        · have e1 := (hg x hxs).trans (hp2 x hxb)
          simp only [if_neg hxb, if_pos hxs, e1]; exact hu
        · have e2 : w.heap[x]? = none := Array.getElem?_eq_none (by omega)
          replace hu : (h1 x = none ∧ w.heap[x]? = h2 x) ∨ (h2 x = none ∧ w.heap[x]? = h1 x) := hu
          rw [e2] at hu
          simp only [if_neg hxb, if_neg hxs]
          refine .inr ⟨?_, trivial⟩
          rcases hu with ⟨_, q⟩ | ⟨q, _⟩
          · exact q.symm
          · exact q
    · refine .inr ⟨bb, pre, post, cap, fz, by rw [sortB_len], by rw [sortB_len]; exact g2, g3, by rw [hk, sortB_len, Nat.mul_one, Nat.mul_one]; exact g4, ?_, by rw [hk, sortB_len, Nat.mul_one]; exact g6⟩
      show (if bb = bb then w'.heap[bb]? else _) = _
      rw [if_pos rfl, hg bb hlt]
      exact hp1
    · subst hw; exact henv ▸ l
end Go.Proofs