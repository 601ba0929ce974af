import Derived.Test.YtgbimbagppoeaaaSLH
namespace Go.SL
open Go
set_option linter.all false

theorem run_choose {P : Program} (q : Question) (w : World) : (choose q).run P w = if q.forced = true then .ok 0 w else .ok (q.cut (w.tape w.drawn q)) { w with drawn := w.drawn + 1 } := by
  unfold choose; simp only [Sem.run]
theorem filter_ne_eraseIdx {α : Type} (f : α → Nat) : ∀ (l : List α) (i : Nat) (h : i < l.length), (l.map f).Nodup → l.filter (fun e => f e != f l[i]) = l.eraseIdx i
  | x :: l, 0, _, hn => by
    simp only [List.map_cons, List.nodup_cons] at hn
    simp only [List.getElem_cons_zero, List.eraseIdx_zero, List.tail_cons]
    rw [List.filter_cons_of_neg (by simp), List.filter_eq_self]
    intro e he
    have : f e ≠ f x := fun h => hn.1 (h ▸ List.mem_map_of_mem he)
    simpa using this
  | x :: l, i + 1, h, hn => by
    simp only [List.map_cons, List.nodup_cons] at hn
    simp only [List.getElem_cons_succ, List.eraseIdx_cons_succ]
    have hi : i < l.length := by simpa using h
    have : f x ≠ f l[i] := fun h => hn.1 (h ▸ List.mem_map_of_mem (List.getElem_mem hi))
    rw [List.filter_cons_of_pos (by simpa using this), filter_ne_eraseIdx f l i hi hn.2]

section ops
variable {P : Program} {ρ : Option Nat} {N : Nat} {D : List Deferred} {E : List (Nat × Value)} {L L' R : List HP} {Q : Exit → Act → World → Prop} {ops : Array Oper} {rest : List Oper}
  {d : Nat} {op : Op} {ty : TypeId} {pos : String} {af : Array Edge}

/-! maps with strings for keys, with ints for keys -/
instance {T kt et n b r : Nat} {z : Value} {x k : Operand} {s : ByteArray} {m : List (ByteArray × Value)} [td : TyD P T (.map kt et)] [tk : TyD P kt .string] [ti : TyI P et n b z] [ex : Ev E x (.map (some r))] [ek : Ev E k (.string s)] [p : Pull (mapO mkStr r) L m R] :
    Rd P L E (.lookup T x k true) (.tuple #[(mget m s).getD z, .bool (mget m s).isSome]) := ⟨fun N D a w r' sat d ty pos af g => by
  have := run_lookup (P := P) (mk := mkStr) td.h tk.h ti (p.sat sat) s true
  simp only [if_true] at this
  simp only [execOp, ex.h N D a r', ek.h N D a r', Sem.run_bind]
  show Result.andThen ((Instr.lookup T (.map (some r)) (mkStr.enc s) true).run P w) _ = _
  rw [this]; rfl⟩
instance {T kt et n b r : Nat} {z : Value} {x k : Operand} {s : ByteArray} {m : List (ByteArray × Value)} [td : TyD P T (.map kt et)] [tk : TyD P kt .string] [ti : TyI P et n b z] [ex : Ev E x (.map (some r))] [ek : Ev E k (.string s)] [p : Pull (mapO mkStr r) L m R] :
    Rd P L E (.lookup T x k false) ((mget m s).getD z) := ⟨fun N D a w r' sat d ty pos af g => by
  have := run_lookup (P := P) (mk := mkStr) td.h tk.h ti (p.sat sat) s false
  simp only [Bool.false_eq_true, if_false] at this
  simp only [execOp, ex.h N D a r', ek.h N D a r', Sem.run_bind]
  show Result.andThen ((Instr.lookup T (.map (some r)) (mkStr.enc s) false).run P w) _ = _
  rw [this]; rfl⟩
instance {T kt et n b r : Nat} {z : Value} {x k : Operand} {s : Int} {m : List (Int × Value)} [td : TyD P T (.map kt et)] [tk : TyD P kt (.int .i64)] [ti : TyI P et n b z] [ex : Ev E x (.map (some r))] [ek : Ev E k (.int .i64 s)] [p : Pull (mapO mkInt r) L m R] :
    Rd P L E (.lookup T x k true) (.tuple #[(mget m s).getD z, .bool (mget m s).isSome]) := ⟨fun N D a w r' sat d ty pos af g => by
  have := run_lookup (P := P) (mk := mkInt) td.h tk.h ti (p.sat sat) s true
  simp only [if_true] at this
  simp only [execOp, ex.h N D a r', ek.h N D a r', Sem.run_bind]
  show Result.andThen ((Instr.lookup T (.map (some r)) (mkInt.enc s) true).run P w) _ = _
  rw [this]; rfl⟩
instance {T kt et n b r : Nat} {z : Value} {x k : Operand} {s : Int} {m : List (Int × Value)} [td : TyD P T (.map kt et)] [tk : TyD P kt (.int .i64)] [ti : TyI P et n b z] [ex : Ev E x (.map (some r))] [ek : Ev E k (.int .i64 s)] [p : Pull (mapO mkInt r) L m R] :
    Rd P L E (.lookup T x k false) ((mget m s).getD z) := ⟨fun N D a w r' sat d ty pos af g => by
  have := run_lookup (P := P) (mk := mkInt) td.h tk.h ti (p.sat sat) s false
  simp only [Bool.false_eq_true, if_false] at this
  simp only [execOp, ex.h N D a r', ek.h N D a r', Sem.run_bind]
  show Result.andThen ((Instr.lookup T (.map (some r)) (mkInt.enc s) false).run P w) _ = _
  rw [this]; rfl⟩

instance {T kt et r : Nat} {x k y : Operand} {s : ByteArray} {v : Value} {m : List (ByteArray × Value)} [td : TyD P T (.map kt et)] [tk : TyD P kt .string] [ex : Ev E x (.map (some r))] [ek : Ev E k (.string s)] [ey : Ev E y v] [p : Pull (mapO mkStr r) L m R] :
    Step (Ht L (CO P ρ N D E ops (⟨none, .mapUpdate T x k y, ty, pos, af, none⟩ :: rest) Q)) (Ht (mapO mkStr r (mput m s v) :: R) (CO P ρ N D E ops rest Q)) :=
  ⟨co_skip (by intro c h; cases h) fun a w rp sat => by
    obtain ⟨w', hr, hs⟩ := run_update (P := P) (mk := mkStr) td.h tk.h (p.sat sat) s v
    refine ⟨w', ?_, hs⟩
    simp only [execOp, ex.h N D a rp, ek.h N D a rp, ey.h N D a rp, Sem.run_bind]
    show Result.andThen ((Instr.mapUpdate T (.map (some r)) (mkStr.enc s) v).run P w) _ = _
    rw [hr]; rfl⟩
instance {T kt et r : Nat} {x k y : Operand} {s : Int} {v : Value} {m : List (Int × Value)} [td : TyD P T (.map kt et)] [tk : TyD P kt (.int .i64)] [ex : Ev E x (.map (some r))] [ek : Ev E k (.int .i64 s)] [ey : Ev E y v] [p : Pull (mapO mkInt r) L m R] :
    Step (Ht L (CO P ρ N D E ops (⟨none, .mapUpdate T x k y, ty, pos, af, none⟩ :: rest) Q)) (Ht (mapO mkInt r (mput m s v) :: R) (CO P ρ N D E ops rest Q)) :=
  ⟨co_skip (by intro c h; cases h) fun a w rp sat => by
    obtain ⟨w', hr, hs⟩ := run_update (P := P) (mk := mkInt) td.h tk.h (p.sat sat) s v
    refine ⟨w', ?_, hs⟩
    simp only [execOp, ex.h N D a rp, ek.h N D a rp, ey.h N D a rp, Sem.run_bind]
    show Result.andThen ((Instr.mapUpdate T (.map (some r)) (mkInt.enc s) v).run P w) _ = _
    rw [hr]; rfl⟩
theorem delete_op {T U kt et r : Nat} {x k : Operand} {s : ByteArray} {m : List (ByteArray × Value)} [td : TyD P T (.map kt et)] [tk : TyD P kt .string] [ex : Ev E x (.map (some r))] [ek : Ev E k (.string s)] [p : Pull (mapO mkStr r) L m R] {dst : Option Nat}
    (a : Act) (w : World) (rp : Rep N D E a) (sat : Sat L w) : ∃ w', (execOp a.eval ⟨dst, .call ⟨.builtin .delete, #[x, k], #[T, U]⟩, ty, pos, af, none⟩).run P w = .ok (.value (.tuple #[])) w' ∧ Sat (mapO mkStr r (mdel m s) :: R) w' := by
  obtain ⟨w', hr, hs⟩ := run_delete (P := P) (mk := mkStr) (ty := ty) (U := U) td.h tk.h (p.sat sat) s
  refine ⟨w', ?_, hs⟩
  simp only [execOp, resolve, invoke, builtin, Sem.run_bind, Sem.run_pure, Result.andThen, List.map_toArray, List.map_cons, List.map_nil, ex.h N D a rp, ek.h N D a rp]
  have hr' : (Builtin.delete_ #[T, U] ty #[.map (some r), .string s]).run P w = .ok (.tuple #[]) w' := hr
  rw [hr']
instance {T U kt et r : Nat} {x k : Operand} {s : ByteArray} {m : List (ByteArray × Value)} [td : TyD P T (.map kt et)] [tk : TyD P kt .string] [ex : Ev E x (.map (some r))] [ek : Ev E k (.string s)] [p : Pull (mapO mkStr r) L m R] :
    Step (Ht L (CO P ρ N D E ops (⟨some d, .call ⟨.builtin .delete, #[x, k], #[T, U]⟩, ty, pos, af, none⟩ :: rest) Q)) (Ht (mapO mkStr r (mdel m s) :: R) (CO P ρ N D ((d, .tuple #[]) :: E) ops rest Q)) :=
  ⟨co_val fun a w rp sat => delete_op (U := U) a w rp sat⟩
instance {T U kt et r : Nat} {x k : Operand} {s : ByteArray} {m : List (ByteArray × Value)} [td : TyD P T (.map kt et)] [tk : TyD P kt .string] [ex : Ev E x (.map (some r))] [ek : Ev E k (.string s)] [p : Pull (mapO mkStr r) L m R] :
    Step (Ht L (CO P ρ N D E ops (⟨none, .call ⟨.builtin .delete, #[x, k], #[T, U]⟩, ty, pos, af, none⟩ :: rest) Q)) (Ht (mapO mkStr r (mdel m s) :: R) (CO P ρ N D E ops rest Q)) :=
  ⟨co_drop fun a w rp sat => let ⟨w', h⟩ := delete_op (U := U) a w rp sat; ⟨_, w', h⟩⟩

theorem mapO_new {κ : Type} [DecidableEq κ] {mk : MK κ} {w : World} (s : Sat L w) : Sat (mapO mk w.heap.size [] :: L) { w with heap := w.heap.push (.map #[] 0) } := by
  have := s.new (o := .map #[] 0) (w' := { w with heap := w.heap.push (.map #[] 0) }) rfl rfl
  exact seps_mono (fun h hp => ⟨#[], 0, hp, by simp, by simp, by simp, by simp⟩) (fun _ l => l) this
theorem co_makeMap {κ : Type} [DecidableEq κ] (mk : MK κ) {T : Nat} (h : ∀ r, Ht (mapO mk r [] :: L) (CO P ρ N D ((d, .map (some r)) :: E) ops rest Q)) :
    Ht L (CO P ρ N D E ops (⟨some d, .makeMap T none, ty, pos, af, none⟩ :: rest) Q) :=
  co_gen fun a w rp s => ⟨.map (some w.heap.size), { w with heap := w.heap.push (.map #[] 0) }, by
    simp [execOp, Instr.makeMap, newObj, Sem.run_bind, Sem.run, Result.andThen], _, mapO_new s, h _⟩
instance {T kt et : Nat} [td : TyD P T (.map kt et)] [tk : TyD P kt .string] :
    Step (Ht L (CO P ρ N D E ops (⟨some d, .makeMap T none, ty, pos, af, none⟩ :: rest) Q)) (∀ r, Ht (mapO mkStr r [] :: L) (CO P ρ N D ((d, .map (some r)) :: E) ops rest Q)) := ⟨co_makeMap mkStr⟩
instance {T kt et : Nat} [td : TyD P T (.map kt et)] [tk : TyD P kt (.int .i64)] :
    Step (Ht L (CO P ρ N D E ops (⟨some d, .makeMap T none, ty, pos, af, none⟩ :: rest) Q)) (∀ r, Ht (mapO mkInt r [] :: L) (CO P ρ N D ((d, .map (some r)) :: E) ops rest Q)) := ⟨co_makeMap mkInt⟩

/-! ranging over a map -/
def rangeO {κ : Type} [DecidableEq κ] (mk : MK κ) (it : Nat) (x : Nat × List (κ × Value) × List (κ × Value) × Option (κ × Value)) : HP := fun _ h => x.1 ≠ it ∧ ∃ (es : Array MapEntry) (clock : Nat) (seen : Array Nat),
  h x.1 = some (.map es clock) ∧ h it = some (.mapIter (some x.1) clock seen clock) ∧ MapIn mk es clock x.2.1 ∧
    (es.filter fun e => !seen.contains e.born).toList.map (fun e => (e.key, e.val)) = x.2.2.1.map (fun p => (mk.enc p.1, p.2)) ∧
    ∀ q, x.2.2.2 = some q → ∃ e ∈ es.toList, seen.back? = some e.born ∧ e.key = mk.enc q.1 ∧ e.val = q.2

theorem rangeO_map {κ : Type} [DecidableEq κ] {mk : MK κ} {r it : Nat} {m : List (κ × Value)} {x : List (κ × Value) × Option (κ × Value)} {w : World} (s : Sat (rangeO mk it (r, m, x) :: L) w) : Sat (mapO mk r m :: L) w :=
  seps_mono (fun h ⟨_, es, clock, seen, h1, _, h2, _⟩ => ⟨es, clock, h1, h2⟩) (fun _ l => l) s

theorem co_range {κ : Type} [DecidableEq κ] {mk : MK κ} {T kt et r : Nat} {x : Operand} {m : List (κ × Value)} [td : TyD P T (.map kt et)] [ex : Ev E x (.map (some r))] [p : Pull (mapO mk r) L m R]
    (h : ∀ it, Ht (rangeO mk it (r, m, m, none) :: R) (CO P ρ N D ((d, .pointer (some ⟨it, 0, none⟩)) :: E) ops rest Q)) :
    Ht L (CO P ρ N D E ops (⟨some d, .range T x, ty, pos, af, none⟩ :: rest) Q) :=
  co_gen fun a w rp s => by
    have s' := p.sat s
    obtain ⟨es, clock, hr, hm⟩ := mapO_get s'
    refine ⟨.pointer (some ⟨w.heap.size, 0, none⟩), { w with heap := w.heap.push (.mapIter (some r) clock #[] clock) }, ?_, _, ?_, h w.heap.size⟩
    · simp [execOp, Instr.range, ex.h N D a rp, Sem.run_bind, run_und td.h, Result.andThen, run_getObj_map hr, newObj, Sem.run]
    · obtain ⟨h1, h2, u, ⟨es', clock', g1, g2⟩, l⟩ := s'
      have hlt : r < w.heap.size := (Array.getElem?_eq_some_iff.1 hr).1
      have h1s : h1 w.heap.size = none ∧ h2 w.heap.size = none := by
        have := u w.heap.size
        dsimp only at this
        rw [Array.getElem?_eq_none (Nat.le_refl _)] at this
        rcases this with ⟨a, b⟩ | ⟨a, b⟩
        · exact ⟨a, b.symm⟩
        · exact ⟨b.symm, a⟩
      have hes : es' = es ∧ clock' = clock := by
        have := u r
        dsimp only at this
        rw [hr, g1] at this
        simp at this
        exact ⟨this.2.1.symm, this.2.2.symm⟩
      obtain ⟨rfl, rfl⟩ := hes
      refine ⟨fun b => if b = w.heap.size then some (.mapIter (some r) clock' #[] clock') else h1 b, h2, fun b => ?_, ⟨by omega, es', clock', #[], by simp [show r ≠ w.heap.size from by omega, g1], by simp, g2, ?_, fun q hq => by cases hq⟩, l⟩
      · simp only [Array.getElem?_push]
        by_cases hb : b = w.heap.size
        · subst hb; simp [h1s]
        · have := u b; simp_all
      · have : (es'.filter fun e => !(#[] : Array Nat).contains e.born) = es' := by simp
        rw [this]; exact g2.1

theorem co_next {κ : Type} [DecidableEq κ] {mk : MK κ} {r it : Nat} {x : Operand} {m left : List (κ × Value)} {cur : Option (κ × Value)} [ex : Ev E x (.pointer (some ⟨it, 0, none⟩))] [p : Pull (rangeO mk it) L (r, m, left, cur) R]
    (h0 : left = [] → Ht (rangeO mk it (r, m, [], cur) :: R) (CO P ρ N D ((d, .tuple #[.bool false]) :: E) ops rest Q))
    (h1 : ∀ l1 q l2, left = l1 ++ q :: l2 → Ht (rangeO mk it (r, m, l1 ++ l2, some q) :: R) (CO P ρ N D ((d, .tuple #[.bool true, mk.enc q.1, q.2]) :: E) ops rest Q)) :
    Ht L (CO P ρ N D E ops (⟨some d, .next x false, ty, pos, af, none⟩ :: rest) Q) :=
  co_gen fun a w rp s => by
    have s' := p.sat s
    obtain ⟨g1, g2, u, ⟨hne, es, clock, seen, hr, hi, hm, hl, hcur⟩, l⟩ := s'
    dsimp only at hne hr hi hm hl hcur
    have hr' : w.heap[r]? = some (.map es clock) := by have := u r; simp_all
    have hi' : w.heap[it]? = some (.mapIter (some r) clock seen clock) := by have := u it; simp_all
    have hlt : it < w.heap.size := (Array.getElem?_eq_some_iff.1 hi').1
    have hall : ∀ e ∈ es, e.born < clock := fun e he => hm.2.2.2 e (by simpa using he)
    have hguard : (!seen.isEmpty && !es.isEmpty && es.all (·.born ≥ clock)) = false := by
      cases hes : es.isEmpty with
      | true => simp
      | false =>
        have : ∃ e, e ∈ es := by
          obtain ⟨es⟩ := es
          cases es with
          | nil => simp at hes
          | cons e es => exact ⟨e, by simp⟩
        obtain ⟨e, he⟩ := this
        have hlt := hall e he
        have : es.all (·.born ≥ clock) = false := by
          rw [← Bool.not_eq_true, Array.all_eq_true_iff_forall_mem]
          intro hh
          have := hh e he
          simp at this
          omega
        simp [this]
    have hold : (es.filter fun e => !seen.contains e.born).filter (·.born < clock) = es.filter fun e => !seen.contains e.born := by
      apply Array.filter_eq_self.2
      intro e he
      have := hall e (Array.mem_filter.1 he).1
      simpa using this
    have hnew : (es.filter fun e => !seen.contains e.born).filter (·.born ≥ clock) = #[] := by
      rw [Array.filter_eq_empty_iff]
      intro e he
      have := hall e (Array.mem_filter.1 he).1
      simp; omega
    generalize hA : (es.filter fun e => !seen.contains e.born) = A at *
    have hAl : A.toList.length = left.length := by have := congrArg List.length hl; simpa using this
    have hmap : (Instr.next (.pointer (some ⟨it, 0, none⟩)) false ty).run P w =
        (do
          match ((if A.isEmpty then #[none] else #[]) ++ A.map some)[← choose (.mapNext ((if A.isEmpty then #[none] else #[]) ++ A.map some).size)]? with
          | some (some e) =>
            setObj it (.mapIter (some r) clock (seen.push e.born) clock)
            pure (.tuple #[.bool true, e.key, e.val])
          | some none => pure (.tuple #[.bool false])
          | none => stuck "Next: no such candidate" : Sem Value).run P w := by
      simp only [Instr.next, Sem.run_bind, getObj, Sem.run, hi', hr', Result.andThen, hguard, Bool.false_eq_true, if_false, hA, hold, hnew, Array.append_empty]
      rfl
    by_cases hemp : A = #[]
    · have hle : left = [] := by
        have : left.length = 0 := by rw [← hAl, hemp]; rfl
        exact List.eq_nil_of_length_eq_zero this
      subst hle
      refine ⟨.tuple #[.bool false], w, ?_, _, p.sat s, h0 rfl⟩
      simp only [execOp, ex.h N D a rp, Sem.run_bind, hmap]
      simp [hemp, choose, Sem.run, Question.forced, Result.andThen, Sem.run_bind]
    · have hpos : 0 < A.size := Array.size_pos_iff.2 hemp
      have hne' : A.isEmpty = false := by simpa using hemp
      have hcand : (if A.isEmpty then #[none] else #[]) ++ A.map some = A.map some := by simp [hne']
      rw [hcand] at hmap
      have hch : ∃ i w1, i < A.size ∧ (choose (.mapNext (A.map some).size)).run P w = .ok i w1 ∧ w1.heap = w.heap ∧ envOf w1 = envOf w := by
        by_cases hf : (Question.mapNext (A.map some).size).forced = true
        · exact ⟨0, w, hpos, by rw [run_choose, if_pos hf], rfl, rfl⟩
        · refine ⟨_, { w with drawn := w.drawn + 1 }, ?_, by rw [run_choose, if_neg hf], rfl, rfl⟩
          simp only [Question.cut, Array.size_map]
          exact Nat.mod_lt _ hpos
      obtain ⟨i, w1, hi1, hch, hh1, he1⟩ := hch
      have hw1 : w1.heap[it]? = some (.mapIter (some r) clock seen clock) := by rw [hh1]; exact hi'
      have hil : i < left.length := by rw [← hAl]; simpa using hi1
      have hAi : A.toList[i]'(by simpa using hi1) = A[i] := by simp
      have hkv : (A[i].key, A[i].val) = (mk.enc left[i].1, left[i].2) := by
        have := congrArg (fun l => l[i]?) hl
        simp [hi1, hil] at this
        simp [this]
      have hsplit : left = left.take i ++ left[i] :: left.drop (i + 1) := by
        rw [List.getElem_cons_drop, List.take_append_drop]
      refine ⟨.tuple #[.bool true, A[i].key, A[i].val], { w1 with heap := w1.heap.setIfInBounds it (.mapIter (some r) clock (seen.push A[i].born) clock) }, ?_, rangeO mk it (r, m, left.take i ++ left.drop (i + 1), some left[i]) :: R, ?_, ?_⟩
      · simp only [execOp, ex.h N D a rp, Sem.run_bind, hmap, hch, Result.andThen]
        simp [hi1, Sem.run_bind, setObj, Sem.run, hw1, Result.andThen]
      · refine ⟨fun b => if b = it then some (.mapIter (some r) clock (seen.push A[i].born) clock) else g1 b, g2, fun b => ?_, ⟨hne, es, clock, seen.push A[i].born, (if_neg hne).trans hr, if_pos rfl, hm, ?_, ?_⟩, ?_⟩
        · show ((if b = it then some (Obj.mapIter (some r) clock (seen.push A[i].born) clock) else g1 b) = none ∧ (w1.heap.setIfInBounds it (.mapIter (some r) clock (seen.push A[i].born) clock))[b]? = g2 b) ∨ _
          have := u b
          by_cases hb : b = it
          · subst hb
            have h2n : g2 b = none := by
              rcases this with h | h
              · rw [hi] at h; cases h.1
              · exact h.1
            refine .inr ⟨h2n, ?_⟩
            show (w1.heap.setIfInBounds b (.mapIter (some r) clock (seen.push A[i].born) clock))[b]? = _
            rw [hh1]; simp [hlt]
          · have e1 : (w1.heap.setIfInBounds it (.mapIter (some r) clock (seen.push A[i].born) clock))[b]? = w.heap[b]? := by
              rw [Array.getElem?_setIfInBounds_ne (Ne.symm hb), hh1]
            show _ ∨ (g2 b = none ∧ (w1.heap.setIfInBounds it (.mapIter (some r) clock (seen.push A[i].born) clock))[b]? = _)
            rw [e1]
            simpa [hb] using this
        · have hnd : (A.toList.map (·.born)).Nodup := by
            rw [← hA, Array.toList_filter]
            exact hm.2.2.1.sublist (List.filter_sublist.map _)
          have hf : (es.filter fun e => !(seen.push A[i].born).contains e.born).toList = A.toList.eraseIdx i := by
            have e0 := filter_ne_eraseIdx (·.born) A.toList i (by simpa using hi1) hnd
            rw [hAi] at e0
            rw [← e0]
            generalize A[i].born = bi
            rw [← hA, Array.toList_filter, Array.toList_filter, List.filter_filter]
            apply List.filter_congr
            intro e _
            by_cases h1 : e.born = bi <;> simp [h1]
          rw [hf, map_eraseIdx, hl, ← map_eraseIdx]
          congr 1
          rw [List.eraseIdx_eq_take_drop_succ]
        · intro q hq
          cases hq
          simp only [Prod.mk.injEq] at hkv
          have hAm : A[i] ∈ es := by
            have : ∀ e ∈ A, e ∈ es := fun e he => by
              rw [← hA] at he
              exact (Array.mem_filter.1 he).1
            exact this _ (Array.getElem_mem hi1)
          exact ⟨A[i], by simpa using hAm, by simp, hkv.1, hkv.2⟩
        · show seps R (envOf { w1 with heap := _ }) g2
          have : envOf ({ w1 with heap := w1.heap.setIfInBounds it (.mapIter (some r) clock (seen.push A[i].born) clock) } : World) = envOf w := he1
          rw [this]; exact l
      · have := h1 _ _ _ hsplit
        simp only [Prod.mk.injEq] at hkv
        rw [← hkv.1, ← hkv.2] at this
        exact this
theorem rd_entry {κ : Type} [DecidableEq κ] {mk : MK κ} {r it : Nat} {x : Operand} {m left : List (κ × Value)} {q : κ × Value} [ex : Ev E x (.pointer (some ⟨it, 0, none⟩))] [p : Pull (rangeO mk it) L (r, m, left, some q) R] :
    Rd P L E (.entry x) (.tuple #[mk.enc q.1, q.2]) := ⟨fun N D a w rp s d ty pos af g => by
  obtain ⟨g1, g2, u, ⟨hne, es, clock, seen, hr, hi, hm, hl, hcur⟩, l⟩ := p.sat s
  dsimp only at hne hr hi hm hl hcur
  obtain ⟨e, he, hb, hk, hv⟩ := hcur q rfl
  have hr' : w.heap[r]? = some (.map es clock) := by have := u r; simp_all
  have hi' : w.heap[it]? = some (.mapIter (some r) clock seen clock) := by have := u it; simp_all
  have hfind : es.find? (fun x => x.born == e.born) = some e := by
    rw [← Array.find?_toList]
    have hnd := hm.2.2.1
    have key : ∀ (l : List MapEntry), (l.map (·.born)).Nodup → e ∈ l → l.find? (fun x => x.born == e.born) = some e := by
      intro l
      induction l with
      | nil => intro _ h; cases h
      | cons y l ih =>
        intro hn hm
        simp only [List.map_cons, List.nodup_cons] at hn
        rcases List.mem_cons.1 hm with rfl | hm
        · simp
        · have : y.born ≠ e.born := fun h => hn.1 (h ▸ List.mem_map_of_mem hm)
          rw [List.find?_cons_of_neg (by simpa using this)]
          exact ih hn.2 hm
    exact key es.toList hnd he
  simp [execOp, Instr.entry, ex.h N D a rp, Sem.run_bind, getObj, Sem.run, hi', hr', Result.andThen, hb, hfind, hk, hv]⟩
instance {r it : Nat} {x : Operand} {m left : List (ByteArray × Value)} {q : ByteArray × Value} [ex : Ev E x (.pointer (some ⟨it, 0, none⟩))] [p : Pull (rangeO mkStr it) L (r, m, left, some q) R] :
    Rd P L E (.entry x) (.tuple #[.string q.1, q.2]) := rd_entry (mk := mkStr)
instance {r it : Nat} {x : Operand} {m left : List (Int × Value)} {q : Int × Value} [ex : Ev E x (.pointer (some ⟨it, 0, none⟩))] [p : Pull (rangeO mkInt it) L (r, m, left, some q) R] :
    Rd P L E (.entry x) (.tuple #[.int .i64 q.1, q.2]) := rd_entry (mk := mkInt)
instance {T kt et r : Nat} {x : Operand} {m : List (ByteArray × Value)} [td : TyD P T (.map kt et)] [ex : Ev E x (.map (some r))] [p : Pull (mapO mkStr r) L m R] :
    Step (Ht L (CO P ρ N D E ops (⟨some d, .range T x, ty, pos, af, none⟩ :: rest) Q)) (∀ it, Ht (rangeO mkStr it (r, m, m, none) :: R) (CO P ρ N D ((d, .pointer (some ⟨it, 0, none⟩)) :: E) ops rest Q)) := ⟨co_range⟩
end ops
end Go.SL
