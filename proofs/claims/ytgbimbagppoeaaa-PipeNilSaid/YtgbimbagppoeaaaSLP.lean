import Derived.Test.YtgbimbagppoeaaaSLO
import Derived.ProofKit
namespace Go.SL
open Go
set_option linter.all false

/-- a slice of bytes that came in, as bytes -/
theorem bytes_in {w : World} {x : Addr} {len cap : Nat} {zs : List Int} (hl : len ≤ cap) (hm : cap ≤ maxLen) (hz : zs.length = cap) (hc : ∀ i, i < zs.length → w.cell? (x.add i) = some (.int .u8 (zs.getD i 0))) (hw : ∀ n ∈ zs, (Lit.int .u8 n).wf = true) :
    ∃ xs : List UInt8, SlIn w (.slice (some x) len cap) encB xs := by
  have hb : ∀ n ∈ zs, 0 ≤ n ∧ n ≤ 255 := fun n hn => by
    have := hw n hn
    simp [Lit.wf] at this
    exact this
  refine ⟨(zs.take len).map (fun z => UInt8.ofNat z.toNat), .inr ⟨x, cap, ?_, ?_, ?_, ?_⟩⟩
  · simp; omega
  · simp; omega
  · simpa [maxLen] using hm
  · intro i u hu j v hv
    have hi : i < zs.length ∧ i < len ∧ u = UInt8.ofNat (zs.getD i 0).toNat := by
      simp only [List.getElem?_map, List.getElem?_take] at hu
      split at hu
      · rename_i h
        cases h2 : zs[i]? with
        | none => rw [h2] at hu; simp at hu
        | some z =>
          rw [h2] at hu
          have := (List.getElem?_eq_some_iff.1 h2).1
          simp at hu
          exact ⟨this, h, by simp [List.getD, h2, ← hu]⟩
      · simp at hu
    obtain ⟨h1, h2, h3⟩ := hi
    have hz0 : zs.getD i 0 ∈ zs := by
      simp [List.getD, List.getElem?_eq_getElem h1]
    have hb0 := hb _ hz0
    have hj : j = 0 ∧ v = .int .u8 (u.toNat : Int) := by
      cases j with
      | zero => simp [encB] at hv; exact ⟨rfl, hv.symm⟩
      | succ j => simp [encB] at hv
    obtain ⟨rfl, rfl⟩ := hj
    have e : ((u.toNat : Nat) : Int) = zs.getD i 0 := by
      rw [h3]
      generalize zs.getD i 0 = z at hb0 ⊢
      have : z.toNat < 256 := by omega
      rw [UInt8.toNat_ofNat']
      omega
    rw [e]
    simpa [encB] using hc i h1
end Go.SL
