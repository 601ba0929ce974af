import Derived.Test.YtgbimbagppoeaaaSLO
import Derived.Deep.Slices
import Derived.ChangeArms
import Derived.ProofKit
namespace Go.SL
open Go Go.ChangeShapes Go.WideShapes
set_option linter.all false

/-! ### What a type's cells are, where they read as data: by type -/
/-- Cells that read as a T are 'f a' of some a, of which ok holds in that world. -/
structure Dec (P : Program) (T : TypeId) {α : Type} (f : α → List Value) (ok : World → α → Prop) : Prop where
  h : ∀ {H : Type} {enc : TypeId × Value → H} {w : World} {base : Nat} {spare : Nat → Bool} {held : Bool} {fuel : Nat} {cs : List Value} {x : DataW H × List MemPlace},
    DataW.trod enc P w base spare held fuel T cs = some x → ∃ a : α, cs = f a ∧ ok w a

def wfI (k : IntKind) (n : Int) : Prop := (Lit.int k n).wf = true
theorem dec_int {P : Program} {T : TypeId} {k : IntKind} (h : P.underlying T = some (.int k)) : Dec P T (fun n : Int => [.int k n]) (fun _ n => wfI k n) := ⟨fun ht => by
  obtain ⟨n, h1, _, h2⟩ := DataW.trod_int h ht; exact ⟨n, h1, h2⟩⟩
theorem dec_bool {P : Program} {T : TypeId} (h : P.underlying T = some .bool) : Dec P T (fun n : Bool => [.bool n]) (fun _ _ => True) := ⟨fun ht => by
  obtain ⟨n, h1, _⟩ := DataW.trod_bool h ht; exact ⟨n, h1, trivial⟩⟩
theorem dec_str {P : Program} {T : TypeId} (h : P.underlying T = some .string) : Dec P T (fun n : ByteArray => [.string n]) (fun _ n => n.size ≤ maxLen) := ⟨fun ht => by
  obtain ⟨n, h1, _, h2⟩ := DataW.trod_string h ht; exact ⟨n, h1, h2⟩⟩
theorem wf_i64 {n : Int} (h : wfI .i64 n) : -9223372036854775808 ≤ n ∧ n ≤ 9223372036854775807 := by
  simp [wfI, Lit.wf] at h; exact ⟨by have := h.1; exact this, by have := h.2; exact this⟩
theorem wf_u64 {n : Int} (h : wfI .u64 n) : 0 ≤ n ∧ n ≤ 18446744073709551615 := by
  simp [wfI, Lit.wf] at h; exact ⟨by have := h.1; exact this, by have := h.2; exact this⟩
theorem wf_u8 {n : Int} (h : wfI .u8 n) : 0 ≤ n ∧ n ≤ 255 := by
  simp [wfI, Lit.wf] at h; exact ⟨by have := h.1; exact this, by have := h.2; exact this⟩

/-- a struct: its fields, one by one, from cell o on -/
inductive DecF (P : Program) : List Field → Nat → {α : Type} → (α → List Value) → (World → α → Prop) → Prop
  | nil {o : Nat} : DecF P [] o (fun _ : Unit => []) (fun _ _ => True)
  | cons {F : Field} {Fs : List Field} {o n : Nat} {α β : Type} {f : α → List Value} {ok : World → α → Prop} {g : β → List Value} {ok' : World → β → Prop} :
      Dec P F.type f ok → F.offset = o → P.cellsOf F.type = n → DecF P Fs (o + n) g ok' → DecF P (F :: Fs) o (fun a : α × β => f a.1 ++ g a.2) (fun w a => ok w a.1 ∧ ok' w a.2)
theorem decF_go {P : Program} {H : Type} {enc : TypeId × Value → H} {w : World} {base : Nat} {spare : Nat → Bool} {held : Bool} {n : Nat} {cs : List Value} : ∀ {Fs : List Field} {o : Nat} {α : Type} {f : α → List Value} {ok : World → α → Prop}, DecF P Fs o f ok →
    ∀ (xs : List (DataW H × List MemPlace)), xs.length = Fs.length → (∀ (i : Nat) (F : Field), Fs[i]? = some F → DataW.trod enc P w base spare held n F.type ((cs.drop F.offset).take (P.cellsOf F.type)) = xs[i]?) →
    o + (Fs.map fun F => P.cellsOf F.type).sum = cs.length → ∃ a : α, cs.drop o = f a ∧ ok w a := by
  intro Fs o α f ok d
  induction d with
  | nil => intro xs _ _ hs; exact ⟨(), by simp at hs; simp [hs], trivial⟩
  | @cons F Fs o n' α β f ok g ok' dF ho hn dr ih =>
    intro xs hl hx hs
    match xs, hl with
    | x :: xs, hl =>
      simp only [List.map_cons, List.sum_cons, hn] at hs
      obtain ⟨b, hb1, hb2⟩ := ih xs (by simpa using hl) (fun i F' hF => by simpa using hx (i + 1) F' (by simpa using hF)) (by omega)
      have h0 := hx 0 F rfl
      rw [ho, hn] at h0
      obtain ⟨a, ha1, ha2⟩ := dF.h (x := x) (by simpa using h0)
      refine ⟨(a, b), ?_, ha2, hb2⟩
      show _ = f a ++ g b
      rw [← ha1, ← hb1, ← List.drop_drop, List.take_append_drop]
theorem dec_struct {P : Program} {T : TypeId} {Fs : List Field} {α : Type} {f : α → List Value} {ok : World → α → Prop} (h : P.underlying T = some (.struct Fs.toArray)) (hs : (Fs.map fun F => P.cellsOf F.type).sum = P.cellsOf T) (d : DecF P Fs 0 f ok) : Dec P T f ok := ⟨fun ht => by
  obtain ⟨xs, n, _, _, hc, hl, hx⟩ := DataW.trod_struct h ht
  obtain ⟨a, h1, h2⟩ := decF_go d xs (by simpa using hl) (fun i F hF => hx i F (by simpa using hF)) (by omega)
  exact ⟨a, by simpa using h1, h2⟩⟩
/-- the same by another name for what it is of -/
theorem Dec.map {P : Program} {T : TypeId} {α β : Type} {f : α → List Value} {ok : World → α → Prop} (d : Dec P T f ok) (g : β → List Value) (ok' : World → β → Prop) (k : α → β) (h1 : ∀ a, f a = g (k a)) (h2 : ∀ w a, ok w a → ok' w (k a)) : Dec P T g ok' := ⟨fun ht => by
  obtain ⟨a, ha, hb⟩ := d.h ht; exact ⟨k a, by rw [ha, h1], h2 _ _ hb⟩⟩

theorem dec_slice {P : Program} {T el : TypeId} {α : Type} [Inhabited α] (e : Enc α) {ok : World → α → Prop} (h : P.underlying T = some (.slice el)) (hk : P.cellsOf el = e.k) (d : Dec P el e.f ok) :
    Dec P T (fun a : Value × List α => [a.1]) (fun w a => SlIn w a.1 e a.2 ∧ ∀ x ∈ a.2, ok w x) := ⟨fun {H enc w base spare held fuel cs x} ht => by
  rcases Deep.open_slice h ht with ⟨rfl, _⟩ | ⟨a, len, cap, m, n, D, Pl, rfl, hb, hl, hm, hmm, _, hx⟩
  · exact ⟨(.slice none 0 0, []), rfl, .inl ⟨rfl, rfl⟩, by simp⟩
  · have hlm : len ≤ m := by rw [hmm]; split <;> omega
    obtain ⟨g, hg⟩ := Deep.choose_lt (n := len) (p := fun i (y : α) => (w.cells? base (a.add (i * P.cellsOf el)) (P.cellsOf el)) = some (e.f y) ∧ ok w y) (fun i hi => by
      obtain ⟨cs', h1, h2⟩ := hx i (by omega)
      obtain ⟨y, rfl, h3⟩ := d.h h2
      exact ⟨y, h1, h3⟩)
    refine ⟨(.slice (some a) len cap, (List.range len).map g), rfl, .inr ⟨a, cap, by simp, by simpa using hl, by simpa [maxLen] using hm, fun i y hy j u hu => ?_⟩, fun y hy => ?_⟩
    · simp only [List.getElem?_map, Option.map_eq_some_iff] at hy
      obtain ⟨i', hi', rfl⟩ := hy
      obtain ⟨hlt0, hii⟩ := List.getElem?_eq_some_iff.1 hi'
      have hlt : i < len := by simpa using hlt0
      rw [List.getElem_range] at hii
      subst hii
      have h1 := (hg i hlt).1
      obtain ⟨_, hlen, hc⟩ := World.cells?_some h1
      have hj : j < P.cellsOf el := by rw [hk, ← e.hk (g i)]; exact (List.getElem?_eq_some_iff.1 hu).1
      have := hc j hj
      rw [hu, hk, add_add] at this
      exact this
    · simp only [List.mem_map, List.mem_range] at hy
      obtain ⟨i, hi, rfl⟩ := hy
      exact (hg i hi).2⟩
end Go.SL
namespace Go.SL
def okStr (_ : World) (s : ByteArray) : Prop := s.size ≤ maxLen
def okI (_ : World) (s : Int) : Prop := wfI .i64 s
theorem dec_strS {P : Program} {T : TypeId} (h : P.underlying T = some .string) : Dec P T encStr.f okStr := dec_str h
theorem dec_intS {P : Program} {T : TypeId} (h : P.underlying T = some (.int .i64)) : Dec P T encI.f okI := dec_int h
end Go.SL
namespace Go.SL
theorem Dec.map2 {P : Program} {T : TypeId} {α β : Type} {f : α → List Value} {ok : World → α → Prop} (d : Dec P T f ok) (g : β → List Value) (ok' : World → β → Prop) (k : α → β) (h : ∀ w a, ok w a → f a = g (k a) ∧ ok' w (k a)) : Dec P T g ok' := ⟨fun ht => by
  obtain ⟨a, ha, hb⟩ := d.h ht; exact ⟨k a, by rw [ha, (h _ _ hb).1], (h _ _ hb).2⟩⟩
end Go.SL
