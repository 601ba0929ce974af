import Derived.Test.YtgbimbagppoeaaaRD
set_option linter.all false
set_option synthInstance.maxSize 100000
set_option synthInstance.maxHeartbeats 400000
namespace Go.Proofs
open Go Go.SL
attribute [local irreducible] CCall CO CC CX CD

/-! ### what is told: the plain law -/
def cntD (st : Int) (ys : List Dll) : Nat := (ys.filter (fun y => decide (y.2.2.2 = st))).length
theorem cnt_step {st : Int} {ys : List Dll} {i : Nat} (hi : i < ys.length) : cntD st (ys.take (i + 1)) = cntD st (ys.take i) + (if (ys[i]!).2.2.2 = st then 1 else 0) := by
  unfold cntD
  rw [takeD hi, List.filter_append, List.length_append]
  congr 1
  simp only [List.filter]
  split <;> rename_i h <;> simp_all
theorem cnt_all {st : Int} {xs : List Cll} : (xs.filter (inSt st)).length = cntD st (xs.map dr) := by
  unfold cntD
  rw [List.filter_map, List.length_map]; rfl
theorem cnt_le {st : Int} {ys : List Dll} {i : Nat} : cntD st (ys.take i) ≤ ys.length := by
  unfold cntD
  have h1 := List.length_filter_le (fun y : Dll => decide (y.2.2.2 = st)) (ys.take i)
  have h2 := List.length_take_le' i ys
  omega
def csV (ys : List Dll) : List Value := [.int .i64 (cntD 0 ys), .int .i64 (cntD 1 ys), .int .i64 (cntD 2 ys)]
theorem csV_nth {ys : List Dll} {m : Nat} (hm : m < 3) : Nth (csV ys) m (.int .i64 (cntD (m : Int) ys)) := by
  match m, hm with
  | 0, _ => exact ⟨rfl⟩
  | 1, _ => exact ⟨rfl⟩
  | 2, _ => exact ⟨rfl⟩
theorem csV_ups {ys : List Dll} {i m : Nat} (hi : i < ys.length) (hm : m < 3) (hs : (ys[i]!).2.2.2 = (m : Int)) : Ups (csV (ys.take i)) m [.int .i64 ((cntD (m : Int) (ys.take i) : Int) + 1)] (csV (ys.take (i + 1))) := by
  have h := fun st => cnt_step (st := st) hi
  match m, hm with
  | 0, _ =>
    have h0 := h 0; have h1 := h 1; have h2 := h 2
    rw [hs] at h0 h1 h2
    rw [if_pos (by decide)] at h0; rw [if_neg (by decide)] at h1 h2
    exact ⟨by simp [csV], by simp [csV, h0, h1, h2]⟩
  | 1, _ =>
    have h0 := h 0; have h1 := h 1; have h2 := h 2
    rw [hs] at h0 h1 h2
    rw [if_pos (by decide)] at h1; rw [if_neg (by decide)] at h0 h2
    exact ⟨by simp [csV], by simp [csV, h0, h1, h2]⟩
  | 2, _ =>
    have h0 := h 0; have h1 := h 1; have h2 := h 2
    rw [hs] at h0 h1 h2
    rw [if_pos (by decide)] at h2; rw [if_neg (by decide)] at h0 h1
    exact ⟨by simp [csV], by simp [csV, h0, h1, h2]⟩
def OpR (name : ByteArray) (ys : List Dll) (i : Nat) (op : Int) : Prop := (op = -1 ∧ (ys.take i).any (isD name 0) = false) ∨ ∃ j : Nat, j < i ∧ op = j ∧ isD name 0 ys[j]! = true
theorem OpR.no {name : ByteArray} {ys : List Dll} {i : Nat} {op : Int} (hi : i < ys.length) (h : OpR name ys i op) (hx : isD name 0 ys[i]! = false) : OpR name ys (i + 1) op := by
  rcases h with ⟨h1, h2⟩ | ⟨j, h1, h2, h3⟩
  · exact .inl ⟨h1, any_step hi h2 hx⟩
  · exact .inr ⟨j, by omega, h2, h3⟩
theorem filt_inc {n : Nat} {xs : List Cll} {fs : List (ByteArray × Bool)} (h : JS n xs fs) {f : Cll → Bool} {i : Nat} (h0 : 0 < i) (hi : i < (xs.filter f).length) : ((xs.filter f)[i - 1]!).1 < ((xs.filter f)[i]!).1 := by
  have hp : xs.Pairwise (fun a b => a.1 < b.1) := by
    rw [List.pairwise_iff_getElem]
    intro i j hi hj hij
    have h1 := h.num i _ (List.getElem?_eq_getElem hi)
    have h2 := h.num j _ (List.getElem?_eq_getElem hj)
    omega
  have hq := hp.sublist (List.filter_sublist (p := f))
  rw [List.pairwise_iff_getElem] at hq
  rw [getElem!_pos _ i hi, getElem!_pos _ (i - 1) (by omega)]
  exact hq _ _ _ _ (by omega)
theorem filt_st {xs : List Cll} {st : Int} {i : Nat} (hi : i < (xs.filter (inSt st)).length) : ((xs.filter (inSt st))[i]!).2.2.2.2 = st := by
  have hm : (xs.filter (inSt st))[i]! ∈ xs.filter (inSt st) := List.mem_of_getElem? (getB hi)
  generalize (xs.filter (inSt st))[i]! = x at hm ⊢
  exact of_decide_eq_true (List.mem_filter.1 hm).2
def keysB (fs : List (ByteArray × Bool)) : List ByteArray := fs.map fun (x : ByteArray × Bool) => x.1
theorem keys_any {n : Nat} {xs : List Cll} {fs : List (ByteArray × Bool)} (h : JP n xs fs) (name : ByteArray) : (keysB fs).any (fun k => decide (k = name)) = (xs.map dr).any (isD name 2) := by
  rw [← h.has, Bool.eq_iff_iff, thas_iff h.js.srt, keysB, List.any_map, List.any_eq_true]
  simp only [Function.comp, decide_eq_true_eq]
theorem keys_in {n : Nat} {xs : List Cll} {fs : List (ByteArray × Bool)} (h : JP n xs fs) {i : Nat} (hi : i < (keysB fs).length) : (xs.map dr).any (isD (keysB fs)[i]! 2) = true := by
  rw [← keys_any h, List.any_eq_true]
  exact ⟨_, List.mem_of_getElem? (getB hi), decide_eq_true rfl⟩
theorem keys_inc {fs : List (ByteArray × Bool)} (h : Srt fs) {i : Nat} (h0 : 0 < i) (hi : i < (keysB fs).length) : Op.bytesLess ((keysB fs)[i - 1]!).toList ((keysB fs)[i]!).toList = true := by
  have hl : i < fs.length := by simpa [keysB] using hi
  have h1 : (keysB fs)[i]! = (fs[i]!).1 := by rw [getElem!_pos _ i hi, getElem!_pos fs i hl]; simp [keysB]
  have h2 : (keysB fs)[i - 1]! = (fs[i - 1]!).1 := by rw [getElem!_pos _ (i - 1) (by omega), getElem!_pos fs (i - 1) (by omega)]; simp [keysB]
  rw [h1, h2]
  exact srt_lt h (i := i - 1) (j := i) (by omega) (getB (by omega)) (getB hl)
theorem keys_step {fs : List ByteArray} {name : ByteArray} {i : Nat} (hi : i < fs.length) : (fs.take (i + 1)).any (fun k => decide (k = name)) = ((fs.take i).any (fun k => decide (k = name)) || decide (fs[i]! = name)) := by
  rw [List.take_succ, getB hi, List.any_append]
  simp
end Go.Proofs
