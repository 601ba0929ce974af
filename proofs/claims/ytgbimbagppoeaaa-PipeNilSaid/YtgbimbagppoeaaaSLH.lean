import Derived.Test.YtgbimbagppoeaaaSLG
namespace Go.SL
open Go
set_option linter.all false

/-! ### Maps -/
theorem ba_beq (a b : ByteArray) : (a == b) = decide (a = b) := by
  show ByteArray.beq a b = _
  simp only [ByteArray.beq]
  obtain ⟨x⟩ := a
  obtain ⟨y⟩ := b
  by_cases h : x = y <;> simp [h]
theorem map_eraseIdx {α β : Type} (f : α → β) : ∀ (l : List α) (i : Nat), (l.eraseIdx i).map f = (l.map f).eraseIdx i
  | [], _ => by simp
  | x :: l, 0 => by simp
  | x :: l, i + 1 => by simp [map_eraseIdx f l i]

structure MK (κ : Type) [DecidableEq κ] where
  enc : κ → Value
  kind : TypeDesc
  plain : ∀ (P : Program) (n : Nat) (b : Bool) (t : TypeId) (k : κ) (w : World), P.underlying t = some kind → (Instr.checkKey b (n + 1) t (enc k)).run P w = .ok () w
  same : ∀ a b, Instr.sameNow kind (enc a) (enc b) = some (decide (a = b))
  bits : ∀ n a, Instr.sameBits n (enc a) (enc a) = true

def mkStr : MK ByteArray where
  enc := .string
  kind := .string
  plain := fun P n b t k w h => by simp [Instr.checkKey, Sem.run_bind, run_und h, Result.andThen]
  same := fun a b => by simp [Instr.sameNow, ba_beq]
  bits := fun n a => by cases n <;> simp [Instr.sameBits, ba_beq]
def mkInt : MK Int where
  enc := .int .i64
  kind := .int .i64
  plain := fun P n b t k w h => by simp [Instr.checkKey, Sem.run_bind, run_und h, Result.andThen]
  same := fun a b => by by_cases h : a = b <;> simp [Instr.sameNow, h]
  bits := fun n a => by cases n <;> simp [Instr.sameBits]

section maps
variable {κ V V' : Type} [DecidableEq κ]

def mfind : List (κ × V) → κ → Option (Nat × V)
  | [], _ => none
  | (j, v) :: m, k => if k = j then some (0, v) else (mfind m k).map fun x => (x.1 + 1, x.2)
def mget (m : List (κ × V)) (k : κ) : Option V := (mfind m k).map (·.2)
def mput : List (κ × V) → κ → V → List (κ × V)
  | [], k, v => [(k, v)]
  | (j, u) :: m, k, v => if k = j then (k, v) :: m else (j, u) :: mput m k v
def mdel : List (κ × V) → κ → List (κ × V)
  | [], _ => []
  | (j, u) :: m, k => if k = j then m else (j, u) :: mdel m k

def MapIn (mk : MK κ) (es : Array MapEntry) (clock : Nat) (m : List (κ × Value)) : Prop :=
  es.toList.map (fun e => (e.key, e.val)) = m.map (fun p => (mk.enc p.1, p.2)) ∧ (m.map (·.1)).Nodup ∧ (es.toList.map (·.born)).Nodup ∧ ∀ e ∈ es.toList, e.born < clock
def mapO (mk : MK κ) (r : Nat) (m : List (κ × Value)) : HP := fun _ h => ∃ es clock, h r = some (.map es clock) ∧ MapIn mk es clock m

theorem findNow_eq (mk : MK κ) (k : κ) : ∀ (l : List MapEntry) (m : List (κ × Value)) (i : Nat), l.map (fun e => (e.key, e.val)) = m.map (fun p => (mk.enc p.1, p.2)) →
    Instr.findNow mk.kind (mk.enc k) l i = some ((mfind m k).map fun x => (i + x.1, x.2)) := by
  intro l
  induction l with
  | nil => intro m i h; cases m with | nil => simp [Instr.findNow, mfind] | cons p m => simp at h
  | cons e l ih =>
    intro m i h
    cases m with
    | nil => simp at h
    | cons p m =>
      simp only [List.map_cons, List.cons.injEq, Prod.mk.injEq] at h
      obtain ⟨⟨h1, h2⟩, h3⟩ := h
      simp only [Instr.findNow, h1, mk.same, mfind]
      by_cases hk : k = p.1
      · simp [hk, h2]
      · simp only [hk, decide_false, if_false]
        rw [ih m (i + 1) h3, Option.map_map]
        congr 2
        funext x
        simp; omega

theorem mfind_lt {m : List (κ × V)} {k : κ} {i : Nat} {v : V} (h : mfind m k = some (i, v)) : i < m.length ∧ m[i]? = some (k, v) := by
  induction m generalizing i with
  | nil => simp [mfind] at h
  | cons p m ih =>
    obtain ⟨j, u⟩ := p
    simp only [mfind] at h
    by_cases hk : k = j
    · simp only [hk, if_true, Option.some.injEq, Prod.mk.injEq] at h
      obtain ⟨rfl, rfl⟩ := h
      simp [hk]
    · simp only [if_neg hk, Option.map_eq_some_iff] at h
      obtain ⟨⟨a, b⟩, h1, h2⟩ := h
      simp at h2
      obtain ⟨rfl, rfl⟩ := h2
      obtain ⟨h3, h4⟩ := ih h1
      exact ⟨by simp; omega, by simpa using h4⟩
theorem mfind_none {m : List (κ × V)} {k : κ} (h : mfind m k = none) : k ∉ m.map (·.1) := by
  induction m with
  | nil => simp
  | cons p m ih =>
    obtain ⟨j, u⟩ := p
    simp only [mfind] at h
    by_cases hk : k = j
    · simp [hk] at h
    · simp only [if_neg hk, Option.map_eq_none_iff] at h
      simp only [List.map_cons, List.mem_cons, not_or]
      exact ⟨hk, ih h⟩
theorem mput_none {m : List (κ × V)} {k : κ} {v : V} (h : mfind m k = none) : mput m k v = m ++ [(k, v)] := by
  induction m with
  | nil => rfl
  | cons p m ih =>
    obtain ⟨j, u⟩ := p
    simp only [mfind] at h
    by_cases hk : k = j
    · simp [hk] at h
    · simp only [if_neg hk, Option.map_eq_none_iff] at h
      simp [mput, hk, ih h]
theorem mput_some {m : List (κ × V)} {k : κ} {v u : V} {i : Nat} (h : mfind m k = some (i, u)) : mput m k v = m.set i (k, v) := by
  induction m generalizing i with
  | nil => simp [mfind] at h
  | cons p m ih =>
    obtain ⟨j, u'⟩ := p
    simp only [mfind] at h
    by_cases hk : k = j
    · simp only [hk, if_true, Option.some.injEq, Prod.mk.injEq] at h
      obtain ⟨rfl, rfl⟩ := h
      simp [mput, hk]
    · simp only [if_neg hk, Option.map_eq_some_iff] at h
      obtain ⟨⟨a, b⟩, h1, h2⟩ := h
      simp at h2
      obtain ⟨rfl, rfl⟩ := h2
      simp [mput, hk, ih h1]
theorem mdel_none {m : List (κ × V)} {k : κ} (h : mfind m k = none) : mdel m k = m := by
  induction m with
  | nil => rfl
  | cons p m ih =>
    obtain ⟨j, u⟩ := p
    simp only [mfind] at h
    by_cases hk : k = j
    · simp [hk] at h
    · simp only [if_neg hk, Option.map_eq_none_iff] at h
      simp [mdel, hk, ih h]
theorem mdel_some {m : List (κ × V)} {k : κ} {u : V} {i : Nat} (h : mfind m k = some (i, u)) : mdel m k = m.eraseIdx i := by
  induction m generalizing i with
  | nil => simp [mfind] at h
  | cons p m ih =>
    obtain ⟨j, u'⟩ := p
    simp only [mfind] at h
    by_cases hk : k = j
    · simp only [hk, if_true, Option.some.injEq, Prod.mk.injEq] at h
      obtain ⟨rfl, rfl⟩ := h
      simp [mdel, hk]
    · simp only [if_neg hk, Option.map_eq_some_iff] at h
      obtain ⟨⟨a, b⟩, h1, h2⟩ := h
      simp at h2
      obtain ⟨rfl, rfl⟩ := h2
      simp [mdel, hk, ih h1]

theorem mfind_map (g : V → V') (m : List (κ × V)) (k : κ) : mfind (m.map fun x => (x.1, g x.2)) k = (mfind m k).map fun x => (x.1, g x.2) := by
  induction m with
  | nil => rfl
  | cons p m ih =>
    simp only [List.map_cons, mfind]
    by_cases h : k = p.1
    · simp [h]
    · simp [h, ih, Option.map_map, Function.comp_def]
theorem mget_map (g : V → V') (m : List (κ × V)) (k : κ) : mget (m.map fun x => (x.1, g x.2)) k = (mget m k).map g := by
  simp [mget, mfind_map, Option.map_map, Function.comp_def]
theorem mput_map (g : V → V') (m : List (κ × V)) (k : κ) (v : V) : (mput m k v).map (fun x => (x.1, g x.2)) = mput (m.map fun x => (x.1, g x.2)) k (g v) := by
  induction m with
  | nil => rfl
  | cons p m ih =>
    simp only [List.map_cons, mput]
    by_cases h : k = p.1 <;> simp [h, ih]
theorem mdel_map (g : V → V') (m : List (κ × V)) (k : κ) : (mdel m k).map (fun x => (x.1, g x.2)) = mdel (m.map fun x => (x.1, g x.2)) k := by
  induction m with
  | nil => rfl
  | cons p m ih =>
    simp only [List.map_cons, mdel]
    by_cases h : k = p.1 <;> simp [h, ih]
/-- where it is: what lies ahead, and behind -/
theorem mget_split {m : List (κ × V)} {k : κ} {v : V} (h : mget m k = some v) : ∃ l1 l2, m = l1 ++ (k, v) :: l2 ∧ (∀ u, mput m k u = l1 ++ (k, u) :: l2) ∧ mdel m k = l1 ++ l2 := by
  induction m with
  | nil => simp [mget, mfind] at h
  | cons p m ih =>
    obtain ⟨j, u⟩ := p
    by_cases hk : k = j
    · subst hk
      simp [mget, mfind] at h
      subst h
      exact ⟨[], m, rfl, fun u => by simp [mput], by simp [mdel]⟩
    · have : mget m k = some v := by
        simp only [mget, mfind, if_neg hk, Option.map_map] at h
        simp only [mget]
        rw [← h]; rfl
      obtain ⟨l1, l2, h1, h2, h3⟩ := ih this
      exact ⟨(j, u) :: l1, l2, by simp [h1], fun u' => by simp [mput, hk, h2], by simp [mdel, hk, h3]⟩
theorem mget_none {m : List (κ × V)} {k : κ} (h : mget m k = none) : (∀ u, mput m k u = m ++ [(k, u)]) ∧ mdel m k = m := by
  have : mfind m k = none := by simpa [mget] using h
  exact ⟨fun u => mput_none this, mdel_none this⟩

variable {P : Program} {mk : MK κ} {w : World} {r : Nat} {m : List (κ × Value)} {L R : List HP}

theorem run_findKey {kt : TypeId} {es : Array MapEntry} {clock : Nat} (hk : P.underlying kt = some mk.kind) (hm : MapIn mk es clock m) (k : κ) (w : World) :
    (Instr.findKey kt (mk.enc k) es.toList).run P w = .ok (mfind m k) w := by
  have := findNow_eq mk k es.toList m 0 hm.1
  simp only [Nat.zero_add, Option.map_id'] at this
  simp [Instr.findKey, Sem.run_bind, run_und hk, Result.andThen, this]

theorem mapO_get (s : Sat (mapO mk r m :: L) w) : ∃ es clock, w.heap[r]? = some (.map es clock) ∧ MapIn mk es clock m := by
  obtain ⟨h1, hle, es, clock, hr, hm⟩ := seps_head s
  exact ⟨es, clock, hle _ _ hr, hm⟩
theorem mapO_set {m' : List (κ × Value)} {es' : Array MapEntry} {clock' : Nat} {w' : World} (s : Sat (mapO mk r m :: L) w) (he : envOf w' = envOf w) (hr : w'.heap[r]? = some (.map es' clock')) (ho : ∀ x, x ≠ r → w'.heap[x]? = w.heap[x]?)
    (hm : MapIn mk es' clock' m') : Sat (mapO mk r m' :: L) w' := by
  obtain ⟨h1, h2, u, ⟨es, clock, h3, h4⟩, l⟩ := s
  refine ⟨fun x => if x = r then some (.map es' clock') else h1 x, h2, fun x => ?_, ⟨es', clock', by simp, hm⟩, he ▸ l⟩
  have := u x
  by_cases hx : x = r
  · subst hx; simp_all
  · have := ho x hx; simp_all

theorem run_getObj_map {es : Array MapEntry} {clock : Nat} (h : w.heap[r]? = some (.map es clock)) : (getObj r).run P w = .ok (.map es clock) w := by simp [getObj, Sem.run, h]
theorem run_setObj_map {es : Array MapEntry} {clock : Nat} {o : Obj} (h : w.heap[r]? = some (.map es clock)) : (setObj r o).run P w = .ok () { w with heap := w.heap.setIfInBounds r o } := by simp [setObj, Sem.run, h]

theorem run_lookup {mt kt et : TypeId} {n b : Nat} {z : Value} (hmt : P.underlying mt = some (.map kt et)) (hkt : P.underlying kt = some mk.kind) (ti : TyI P et n b z) (s : Sat (mapO mk r m :: L) w) (k : κ) (ok : Bool) :
    (Instr.lookup mt (.map (some r)) (mk.enc k) ok).run P w = .ok (if ok then .tuple #[(mget m k).getD z, .bool (mget m k).isSome] else (mget m k).getD z) w := by
  obtain ⟨es, clock, hr, hm⟩ := mapO_get s
  have hc := fun b => mk.plain P 9999 b kt k w hkt
  simp only [Instr.lookup, Sem.run_bind, run_und hmt, Result.andThen, run_getObj_map hr, Sem.run_pure, hc, run_findKey hkt hm k w]
  simp only [mget]
  cases mfind m k with
  | none => simp [run_zero ti, Sem.run_bind, Result.andThen]
  | some p => simp

theorem nodup_set {α : Type} {l : List α} {i : Nat} {x : α} (h : l[i]? = some x) : l.set i x = l := by
  apply List.ext_getElem?
  intro j
  rw [List.getElem?_set]
  by_cases hj : i = j
  · subst hj
    have := (List.getElem?_eq_some_iff.1 h).1
    simp [this]
    have := List.getElem?_eq_getElem this
    rw [h] at this; exact Option.some.inj this
  · simp [hj]

theorem run_update {mt kt et : TypeId} (hmt : P.underlying mt = some (.map kt et)) (hkt : P.underlying kt = some mk.kind) (s : Sat (mapO mk r m :: L) w) (k : κ) (v : Value) :
    ∃ w', (Instr.mapUpdate mt (.map (some r)) (mk.enc k) v).run P w = .ok () w' ∧ Sat (mapO mk r (mput m k v) :: L) w' := by
  obtain ⟨es, clock, hr, hm⟩ := mapO_get s
  have hc := fun b => mk.plain P 9999 b kt k w hkt
  have hlt : r < w.heap.size := (Array.getElem?_eq_some_iff.1 hr).1
  obtain ⟨h1, h2, h3, h4⟩ := hm
  cases hf : mfind m k with
  | none =>
    refine ⟨{ w with heap := w.heap.setIfInBounds r (.map (es.push { key := mk.enc k, val := v, born := clock }) (clock + 1)) }, ?_, ?_⟩
    · simp [Instr.mapUpdate, Sem.run_bind, run_und hmt, Result.andThen, run_getObj_map hr, hc, run_findKey hkt ⟨h1, h2, h3, h4⟩ k w, hf, run_setObj_map hr]
    · refine mapO_set (es' := es.push { key := mk.enc k, val := v, born := clock }) (clock' := clock + 1) s rfl (by simp [hlt]) (fun x hx => by simp [Array.getElem?_setIfInBounds_ne (Ne.symm hx)]) ⟨?_, ?_, ?_, ?_⟩
      · rw [mput_none hf]; simp [h1]
      · rw [mput_none hf]
        simp only [List.map_append, List.map_cons, List.map_nil]
        rw [List.nodup_append]
        exact ⟨h2, by simp, fun a ha b hb => by simp at hb; subst hb; intro e; subst e; exact mfind_none hf ha⟩
      · simp only [Array.toList_push, List.map_append, List.map_cons, List.map_nil]
        rw [List.nodup_append]
        refine ⟨h3, by simp, fun a ha b hb => ?_⟩
        simp at hb; subst hb
        obtain ⟨e, he, rfl⟩ := List.mem_map.1 ha
        have := h4 e he
        omega
      · intro e he
        simp at he
        rcases he with he | rfl
        · have := h4 e (by simpa using he); omega
        · simp
  | some p =>
    obtain ⟨i, u⟩ := p
    obtain ⟨hi, hp⟩ := mfind_lt hf
    have hlen : es.toList.length = m.length := by have := congrArg List.length h1; simpa using this
    have hie : i < es.size := by rw [← Array.length_toList, hlen]; exact hi
    have hkey : es[i].key = mk.enc k := by
      have := congrArg (fun l => l[i]?) h1
      simp [hp, hie] at this
      exact this.1
    refine ⟨{ w with heap := w.heap.setIfInBounds r (.map (es.modify i fun e => { e with key := mk.enc k, val := v }) clock) }, ?_, ?_⟩
    · simp [Instr.mapUpdate, Sem.run_bind, run_und hmt, Result.andThen, run_getObj_map hr, hc, run_findKey hkt ⟨h1, h2, h3, h4⟩ k w, hf, Instr.keyThatStays, hie, hkey, mk.bits, run_setObj_map hr]
    · refine mapO_set (es' := es.modify i fun e => { e with key := mk.enc k, val := v }) (clock' := clock) s rfl (by simp [hlt]) (fun x hx => by simp [Array.getElem?_setIfInBounds_ne (Ne.symm hx)]) ⟨?_, ?_, ?_, ?_⟩
      · rw [mput_some hf]
        apply List.ext_getElem?
        intro j
        have := congrArg (fun l => l[j]?) h1
        simp only [List.getElem?_map, Array.getElem?_toList, Array.getElem?_modify, List.getElem?_set] at this ⊢
        by_cases hj : i = j
        · subst hj; simp [hi, hie]
        · simp [hj, this]
      · rw [mput_some hf, List.map_set, nodup_set (by simp [hp])]
        exact h2
      · have : (es.modify i fun e => { e with key := mk.enc k, val := v }).toList.map (·.born) = es.toList.map (·.born) := by
          apply List.ext_getElem?
          intro j
          simp only [List.getElem?_map, Array.getElem?_toList, Array.getElem?_modify]
          by_cases hj : i = j
          · subst hj; simp [hie]
          · simp [hj]
        rw [this]; exact h3
      · intro e he
        obtain ⟨j, hj⟩ := List.getElem?_of_mem he
        rw [Array.getElem?_toList, Array.getElem?_modify] at hj
        by_cases hij : i = j
        · subst hij
          simp [hie] at hj
          subst hj
          exact h4 es[i] (by simp)
        · rw [if_neg hij] at hj
          exact h4 e (by rw [← Array.getElem?_toList] at hj; exact List.mem_of_getElem? hj)

theorem run_delete {mt kt et ty : TypeId} {U : TypeId} (hmt : P.underlying mt = some (.map kt et)) (hkt : P.underlying kt = some mk.kind) (s : Sat (mapO mk r m :: L) w) (k : κ) :
    ∃ w', (Builtin.delete_ #[mt, U] ty #[.map (some r), mk.enc k]).run P w = .ok (.tuple #[]) w' ∧ Sat (mapO mk r (mdel m k) :: L) w' := by
  obtain ⟨es, clock, hr, hm⟩ := mapO_get s
  have hc := fun b => mk.plain P 9999 b kt k w hkt
  have hlt : r < w.heap.size := (Array.getElem?_eq_some_iff.1 hr).1
  have hm' := hm
  obtain ⟨h1, h2, h3, h4⟩ := hm
  cases hf : mfind m k with
  | none =>
    refine ⟨{ w with heap := w.heap.setIfInBounds r (.map es clock) }, ?_, ?_⟩
    · simp [Builtin.delete_, Sem.run_bind, run_und hmt, Result.andThen, run_getObj_map hr, hc, run_findKey hkt hm' k w, hf, run_setObj_map hr]
    · rw [mdel_none hf]
      exact mapO_set (es' := es) (clock' := clock) s rfl (by simp [hlt]) (fun x hx => by simp [Array.getElem?_setIfInBounds_ne (Ne.symm hx)]) hm'
  | some p =>
    obtain ⟨i, u⟩ := p
    obtain ⟨hi, hp⟩ := mfind_lt hf
    have hlen : es.toList.length = m.length := by have := congrArg List.length h1; simpa using this
    have hie : i < es.size := by rw [← Array.length_toList, hlen]; exact hi
    refine ⟨{ w with heap := w.heap.setIfInBounds r (.map (es.eraseIdxIfInBounds i) clock) }, ?_, ?_⟩
    · simp [Builtin.delete_, Sem.run_bind, run_und hmt, Result.andThen, run_getObj_map hr, hc, run_findKey hkt hm' k w, hf, run_setObj_map hr]
    · rw [mdel_some hf]
      have hel : (es.eraseIdxIfInBounds i).toList = es.toList.eraseIdx i := by simp [Array.eraseIdxIfInBounds, hie]
      refine mapO_set (es' := es.eraseIdxIfInBounds i) (clock' := clock) s rfl (by simp [hlt]) (fun x hx => by simp [Array.getElem?_setIfInBounds_ne (Ne.symm hx)]) ⟨?_, ?_, ?_, ?_⟩
      · rw [hel, map_eraseIdx, map_eraseIdx, h1]
      · rw [map_eraseIdx]; exact h2.sublist (List.eraseIdx_sublist ..)
      · rw [hel, map_eraseIdx]; exact h3.sublist (List.eraseIdx_sublist ..)
      · intro e he
        rw [hel] at he
        exact h4 e ((List.eraseIdx_sublist ..).subset he)
end maps
end Go.SL
