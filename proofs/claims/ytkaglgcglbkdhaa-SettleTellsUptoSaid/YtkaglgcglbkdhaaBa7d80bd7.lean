/- The parts SLXZ, D27 of the engine and of the walk, one behind the other: no condition. -/
import Derived.Test.YtkaglgcglbkdhaaB4ad3eb19
import Derived.Test.YtkaglgcglbkdhaaB08ef2b08

namespace Go.SL
open Go Go.ChangeShapes Go.WideShapes
set_option linter.all false

/-! ### A type's cells where what they read as is of a bounded bulk -/
structure Bulk (H : Type) where
  μ : DataW H → Nat
  str : ∀ bs : List UInt8, bs.length ≤ μ (.lit (.string bs))
  agg : ∀ (ps : List (DataW H)), ∀ p ∈ ps, μ p ≤ μ (.agg ps)
  sl : ∀ (ps rs : List (DataW H)), ∀ p ∈ ps, μ p ≤ μ (.slice ps rs)
  len : ∀ (ps rs : List (DataW H)), ps.length ≤ μ (.slice ps rs)

structure DecB (P : Program) (B : Nat) (T : TypeId) {α : Type} (f : α → List Value) (ok : World → α → Prop) : Prop where
  h : ∀ {H : Type} (m : Bulk H) {enc : TypeId × Value → H} {w : World} {base : Nat} {spare : Nat → Bool} {held : Bool} {fuel : Nat} {cs : List Value} {x : DataW H × List MemPlace},
    DataW.trod enc P w base spare held fuel T cs = some x → m.μ x.1 ≤ B → ∃ a : α, cs = f a ∧ ok w a

theorem Dec.b {P : Program} {B : Nat} {T : TypeId} {α : Type} {f : α → List Value} {ok : World → α → Prop} (d : Dec P T f ok) : DecB P B T f ok := ⟨fun {H} m {enc w base spare held fuel cs x} h _ => d.h h⟩
theorem decB_str {P : Program} {B : Nat} {T : TypeId} (h : P.underlying T = some .string) : DecB P B T (fun n : ByteArray => [.string n]) (fun _ n => n.size ≤ B) := ⟨fun {H} m {enc w base spare held fuel cs x} ht hb => by
  obtain ⟨n, h1, h2, _⟩ := DataW.trod_string h ht
  subst h2
  refine ⟨n, h1, ?_⟩
  have := m.str n.data.toList
  have h3 : n.data.toList.length = n.size := by rw [Array.length_toList]; rfl
  dsimp only at hb
  omega⟩
inductive DecFB (P : Program) (B : Nat) : List Field → Nat → {α : Type} → (α → List Value) → (World → α → Prop) → Prop
  | nil {o : Nat} : DecFB P B [] o (fun _ : Unit => []) (fun _ _ => True)
  | cons {F : Field} {Fs : List Field} {o n : Nat} {α β : Type} {f : α → List Value} {ok : World → α → Prop} {g : β → List Value} {ok' : World → β → Prop} :
      DecB P B F.type f ok → F.offset = o → P.cellsOf F.type = n → DecFB P B Fs (o + n) g ok' → DecFB P B (F :: Fs) o (fun a : α × β => f a.1 ++ g a.2) (fun w a => ok w a.1 ∧ ok' w a.2)
theorem decFB_go {P : Program} {B : Nat} {H : Type} (m : Bulk H) {enc : TypeId × Value → H} {w : World} {base : Nat} {spare : Nat → Bool} {held : Bool} {n : Nat} {cs : List Value} : ∀ {Fs : List Field} {o : Nat} {α : Type} {f : α → List Value} {ok : World → α → Prop}, DecFB P B Fs o f ok →
    ∀ (xs : List (DataW H × List MemPlace)), xs.length = Fs.length → (∀ x ∈ xs, m.μ x.1 ≤ B) → (∀ (i : Nat) (F : Field), Fs[i]? = some F → DataW.trod enc P w base spare held n F.type ((cs.drop F.offset).take (P.cellsOf F.type)) = xs[i]?) →
    o + (Fs.map fun F => P.cellsOf F.type).sum = cs.length → ∃ a : α, cs.drop o = f a ∧ ok w a := by
  intro Fs o α f ok d
  induction d with
  | nil => intro xs _ _ _ hs; exact ⟨(), by simp at hs; simp [hs], trivial⟩
  | @cons F Fs o n' α β f ok g ok' dF ho hn dr ih =>
    intro xs hl hB hx hs
    match xs, hl with
    | x :: xs, hl =>
      simp only [List.map_cons, List.sum_cons, hn] at hs
      obtain ⟨b, hb1, hb2⟩ := ih xs (by simpa using hl) (fun y hy => hB y (List.mem_cons_of_mem _ hy)) (fun i F' hF => by simpa using hx (i + 1) F' (by simpa using hF)) (by omega)
      have h0 := hx 0 F rfl
      rw [ho, hn] at h0
      obtain ⟨a, ha1, ha2⟩ := dF.h m (x := x) (by simpa using h0) (hB x List.mem_cons_self)
      refine ⟨(a, b), ?_, ha2, hb2⟩
      show _ = f a ++ g b
      rw [← ha1, ← hb1, ← List.drop_drop, List.take_append_drop]
theorem decB_struct {P : Program} {B : Nat} {T : TypeId} {Fs : List Field} {α : Type} {f : α → List Value} {ok : World → α → Prop} (h : P.underlying T = some (.struct Fs.toArray)) (hs : (Fs.map fun F => P.cellsOf F.type).sum = P.cellsOf T) (d : DecFB P B Fs 0 f ok) : DecB P B T f ok := ⟨fun {H} m {enc w base spare held fuel cs x} ht hb => by
  obtain ⟨xs, n, _, hxe, hc, hl, hx⟩ := DataW.trod_struct h ht
  subst hxe
  obtain ⟨a, h1, h2⟩ := decFB_go m d xs (by simpa using hl) (fun y hy => Nat.le_trans (m.agg _ _ (List.mem_map.2 ⟨y, hy, rfl⟩)) hb) (fun i F hF => hx i F (by simpa using hF)) (by omega)
  exact ⟨a, by simpa using h1, h2⟩⟩
theorem DecB.map2 {P : Program} {B : Nat} {T : TypeId} {α β : Type} {f : α → List Value} {ok : World → α → Prop} (d : DecB P B T f ok) (g : β → List Value) (ok' : World → β → Prop) (k : α → β) (h : ∀ w a, ok w a → f a = g (k a) ∧ ok' w (k a)) : DecB P B T g ok' := ⟨fun {H} m {enc w base spare held fuel cs x} ht hb => by
  obtain ⟨a, ha, hb⟩ := d.h m ht hb; exact ⟨k a, by rw [ha, (h _ _ hb).1], (h _ _ hb).2⟩⟩
theorem decB_slice {P : Program} {B : Nat} {T el : TypeId} {α : Type} [Inhabited α] (e : Enc α) {ok : World → α → Prop} (h : P.underlying T = some (.slice el)) (hk : P.cellsOf el = e.k) (d : DecB P B el e.f ok) :
    DecB P B T (fun a : Value × List α => [a.1]) (fun w a => SlIn w a.1 e a.2 ∧ (∀ x ∈ a.2, ok w x) ∧ a.2.length ≤ B) := ⟨fun {H} m {enc w base spare held fuel cs x} ht hB => by
  rcases Deep.open_slice h ht with ⟨rfl, _⟩ | ⟨a, len, cap, m', n, D, Pl, rfl, hb, hl, hm, hmm, hxe, hx⟩
  · exact ⟨(.slice none 0 0, []), rfl, .inl ⟨rfl, rfl⟩, by simp, Nat.zero_le _⟩
  · subst hxe
    have hlm : len ≤ m' := by rw [hmm]; split <;> omega
    have hlB : len ≤ B := by
      have := m.len ((List.range len).map D) ((List.range (m' - len)).map fun j => D (len + j))
      rw [List.length_map, List.length_range] at this
      exact Nat.le_trans this hB
    obtain ⟨g, hg⟩ := Deep.choose_lt (n := len) (p := fun i (y : α) => (w.cells? base (a.add (i * P.cellsOf el)) (P.cellsOf el)) = some (e.f y) ∧ ok w y) (fun i hi => by
      obtain ⟨cs', h1, h2⟩ := hx i (by omega)
      obtain ⟨y, rfl, h3⟩ := d.h m h2 (Nat.le_trans (m.sl _ _ _ (List.mem_map.2 ⟨i, List.mem_range.2 hi, rfl⟩)) hB)
      exact ⟨y, h1, h3⟩)
    refine ⟨(.slice (some a) len cap, (List.range len).map g), rfl, .inr ⟨a, cap, by simp, by simpa using hl, by simpa [maxLen] using hm, fun i y hy j u hu => ?_⟩, fun y hy => ?_, by simpa using hlB⟩
    · simp only [List.getElem?_map, Option.map_eq_some_iff] at hy
      obtain ⟨i', hi', rfl⟩ := hy
      obtain ⟨hlt0, hii⟩ := List.getElem?_eq_some_iff.1 hi'
      have hlt : i < len := by simpa using hlt0
      rw [List.getElem_range] at hii
      subst hii
      have h1 := (hg i hlt).1
      obtain ⟨_, hlen, hc⟩ := World.cells?_some h1
      have hj : j < P.cellsOf el := by rw [hk, ← e.hk (g i)]; exact (List.getElem?_eq_some_iff.1 hu).1
      have := hc j hj
      rw [hu, hk, add_add] at this
      exact this
    · simp only [List.mem_map, List.mem_range] at hy
      obtain ⟨i, hi, rfl⟩ := hy
      exact (hg i hi).2⟩
end Go.SL

set_option linter.all false
set_option synthInstance.maxSize 100000
set_option synthInstance.maxHeartbeats 400000
namespace Go.Proofs
open Go Go.SL
/-! the arguments of chapter 27's law: named holdings, of a bounded bulk -/
theorem wfI_i {n : Int} (h : wfI .i64 n) : -9223372036854775808 ≤ n ∧ n ≤ 9223372036854775807 := by
  simp [wfI, Lit.wf, IntKind.min, IntKind.max, IntKind.signed, IntKind.bits] at h
  omega
theorem wfI_u {n : Int} (h : wfI .u64 n) : 0 ≤ n ∧ n < 18446744073709551616 := by
  simp [wfI, Lit.wf, IntKind.min, IntKind.max, IntKind.signed, IntKind.bits] at h
  omega
def okRwB (w : World) (r : ByteArray × Int) : Prop := r.1.size ≤ 1048576 ∧ wfI .i64 r.2
theorem dRwB : DecB Try.prog 1048576 84 encRw.f okRwB :=
  DecB.map2 (decB_struct Try.underlying84 (by kernel_rfl) (.cons (n := 1) (decB_str Try.underlying9) rfl (by kernel_rfl) (.cons (n := 1) (Dec.b (dec_int Try.underlying2)) rfl (by kernel_rfl) .nil))) _ _ (fun a => (a.1, a.2.1)) (fun _ _ h => ⟨rfl, h.1, h.2.1⟩)
def okHo (w : World) (x : Hd1) : Prop := SlIn w (svY x.1) encRw x.2.1 ∧ (∀ r ∈ x.2.1, okRwB w r) ∧ x.2.1.length ≤ 1048576 ∧ fitW x.2.2
theorem dHoB : DecB Try.prog 1048576 34 encHo.f okHo :=
  DecB.map2 (decB_struct Try.underlying34 (by kernel_rfl) (.cons (n := 1) (decB_slice encRw Try.underlying32 (by kernel_rfl) dRwB) rfl (by kernel_rfl) (.cons (n := 1) (Dec.b (dec_int Try.underlying2)) rfl (by kernel_rfl) (.cons (n := 1) (Dec.b (dec_int Try.underlying26)) rfl (by kernel_rfl) .nil)))) _ _ (fun a => (toSVy a.1.1, a.1.2, a.2.1 * 18446744073709551616 + a.2.2.1))
    (fun w a h => by
      obtain ⟨⟨v, l⟩, hi, lo, ⟨⟩⟩ := a
      obtain ⟨⟨h1, h2, h3⟩, h4, h5, -⟩ := h
      dsimp only at h1 h2 h3 h4 h5 ⊢
      have i4 := wfI_i h4
      have i5 := wfI_u h5
      obtain ⟨p, c, hv, _, _⟩ := sliceIn_of h1
      subst hv
      refine ⟨?_, h1, h2, h3, ?_⟩
      · dsimp only [encHo, toSVy]
        rw [wHi_of i5.1 i5.2, wLo_of i5.1 i5.2]; rfl
      · dsimp only
        unfold fitW; omega)
def okIn1 (w : World) (x : In1) : Prop := x.1.size ≤ 1048576 ∧ okHo w x.2
theorem dInB : DecB Try.prog 1048576 36 encIn.f okIn1 :=
  DecB.map2 (decB_struct Try.underlying36 (by kernel_rfl) (.cons (n := 1) (decB_str Try.underlying9) rfl (by kernel_rfl) (.cons (n := 3) dHoB rfl (by kernel_rfl) .nil))) _ _ (fun a => (a.1, a.2.1)) (fun _ _ h => ⟨rfl, h.1, h.2.1⟩)
theorem okIn1_nm {w : World} {x : In1} (h : okIn1 w x) : NmOk x :=
  ⟨h.1, fun r hr => wfI_i (h.2.2.1 r hr).2, h.2.2.2.1, h.2.2.2.2, fun r hr => (h.2.2.1 r hr).1⟩
theorem SettleTells_walk {w : World} {v0 : Value} {x0 : List In1} {name : ByteArray} {K} (h0 : SlIn w v0 encIn x0) (ok : ∀ x ∈ x0, okIn1 w x) (hl : x0.length ≤ 1048576) (h : Ht [ro w] (K (.bool true))) :
    Ht [ro w] (CCall Try.prog 3 [v0, .string name] K) := by
  haveI : RdE [ro w] encIn v0 x0 := ⟨fun w' s => SlIn.mono h0 (ro_le s)⟩
  exact SettleTells_spec (xs := x0) (fun x hx => ⟨fun w' s => SlIn.mono (ok x hx).2.1 (ro_le s)⟩) (fun x hx => okIn1_nm (ok x hx)) hl h
end Go.Proofs
