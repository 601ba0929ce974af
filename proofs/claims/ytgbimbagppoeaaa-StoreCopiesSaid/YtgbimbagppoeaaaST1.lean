import Derived.Test.YtgbimbagppoeaaaSLT
import Derived.Test.YtgbimbagppoeaaaSLL
import Derived.IntWalk
set_option linter.all false
set_option synthInstance.maxSize 100000
set_option synthInstance.maxHeartbeats 400000
namespace Go.Proofs
open Go Go.SL

def okc (c : UInt8) : Bool := c == 46 || (97 ≤ c && c ≤ 122)
def rightB (s : ByteArray) : Bool := decide (s ≠ ByteArray.empty) && decide (s.size ≤ 12) && s.data.toList.all okc

theorem right_spec {L K s} (h : Ht L (K (.bool (rightB s)))) : Ht L (CCall Try.prog 212 [.string s] K) := by
  refine ccall1 Try.func212 rfl (by decide) Try.ntmps212 (by rfl) (by decide) ?_
  repeat (refine stp ?_)
  refine ht_guard ?_ ?_ <;> intro h0
  · repeat (refine stp ?_)
    refine ret1 rfl ?_
    simp at h0
    have : rightB s = false := by simp [rightB, h0]; intro h; exact absurd rfl h
    rw [this] at h
    exact h
  · repeat (refine stp ?_)
    refine ht_if ?_ ?_ <;> intro h1
    · repeat (refine stp ?_)
      refine ret1 rfl ?_
      simp at h1
      have : rightB s = false := by simp [rightB, h1]; omega
      rw [this] at h
      exact h
    · simp at h1
      repeat (refine stp ?_)
      refine co_bytes (by omega) ?_
      intro v
      repeat (refine stp ?_)
      refine ht_for s.data.toList.length (fun i (_ : Unit) => (s.data.toList.take i).all okc = true) (fun i _ => own encB 5 v s.data.toList :: L) (fun i _ => [(15, .int .i64 i)]) () [15] (by simp) (fun _ s => s) inferInstance ?_
      intro i _ hi hx
      dsimp only [List.cons_append, List.nil_append]
      repeat (refine stp ?_)
      refine ht_if ?_ ?_ <;> intro hc
      · simp at hc
        repeat (refine stp ?_)
        refine co_index (by simp; omega) ?_
        intro hb
        repeat (refine stp ?_)
        have hg : s.data.toList[i]! = s.data.toList[i] := getElem!_pos s.data.toList i hb.h
        rw [hg]
        have bad : okc (s.data.toList[i]'hb.h) = false → rightB s = false := by
          intro hk
          have : s.data.toList.all okc = false := by
            rw [List.all_eq_false]; exact ⟨_, List.getElem_mem hb.h, by simpa using hk⟩
          simp [rightB, this]
        have good : okc (s.data.toList[i]'hb.h) = true → ((s.data.toList.take (i + 1)).all okc = true) := by
          intro hk
          rw [List.take_succ_eq_append_getElem hb.h, List.all_append]
          simp [hx]; simpa using hk
        generalize s.data.toList[i]'hb.h = c at bad good
        have hsz : s.data.toList.length = s.size := by simp
        refine ht_guard ?_ ?_ <;> intro h2
        · repeat (refine stp ?_)
          refine ht_guard ?_ ?_ <;> intro h3
          · repeat (refine stp ?_)
            refine ret1 rfl ?_
            rw [bad (by simp at h2 h3; simp [okc, UInt8.le_iff_toNat_le, ← UInt8.toNat_inj]; omega)] at h
            exact h.drop
          · repeat (refine stp ?_)
            refine ht_if ?_ ?_ <;> intro h4
            · repeat (refine stp ?_)
              refine ret1 rfl ?_
              rw [bad (by simp at h2 h3 h4; simp [okc, UInt8.le_iff_toNat_le, ← UInt8.toNat_inj]; omega)] at h
              exact h.drop
            · repeat (refine stp ?_)
              refine ht_next () hb.h (good (by simp at h2 h3 h4; simp [okc, UInt8.le_iff_toNat_le, ← UInt8.toNat_inj]; omega)) (fun _ s => s) (SubE.cons (by rw [IntWalk.i64_in _ (by omega)]; rfl) inferInstance) rfl rfl
        · repeat (refine stp ?_)
          refine ht_next () hb.h (good (by simp at h2; simp [okc, UInt8.le_iff_toNat_le, ← UInt8.toNat_inj]; omega)) (fun _ s => s) (SubE.cons (by rw [IntWalk.i64_in _ (by omega)]; rfl) inferInstance) rfl rfl
      · repeat (refine stp ?_)
        refine ret1 rfl ?_
        simp at hc
        have e : rightB s = true := by
          have : i = s.data.toList.length := by simp at hi ⊢; omega
          rw [this, List.take_length] at hx
          simp only [rightB, hx]
          simp at h0 ⊢
          exact ⟨fun e => h0 (by rw [e]; rfl), by omega⟩
        rw [e] at h
        exact h.drop
end Go.Proofs
