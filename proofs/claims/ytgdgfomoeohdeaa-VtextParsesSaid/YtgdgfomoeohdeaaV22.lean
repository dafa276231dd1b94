/- The plain law of douaneref01.Get: the first half. -/
import Derived.Test.YtgdgfomoeohdeaaV21
set_option linter.unusedVariables false
set_option linter.unusedSimpArgs false
namespace Go.Proofs.Ytgdgfomoeohdeaa
open Aw

/-- What getU says, written out. -/
theorem getU_iff {s : ByteArray} {p : Nat} {c : Int} {k : Nat} : getU s p = some (c, k) ↔ p < s.size ∧ (firstS (bt s p)).1 = k ∧ k ≠ 0 ∧ p + k ≤ s.size ∧ (∀ i, i < k - 1 → contU s p i = true) ∧ accU s p (firstS (bt s p)).2 (k - 1) = c ∧ codeB c = true ∧ longN c = k := by
  unfold getU
  constructor
  · intro h
    split at h
    · split at h
      · exact absurd h (by simp)
      · rename_i h1 h2
        split at h
        · rename_i h3
          split at h
          · rename_i h4
            simp only [Option.some.injEq, Prod.mk.injEq] at h
            obtain ⟨h5, h6⟩ := h
            rw [h6] at h2 h3 h5 h4
            rw [h5] at h4
            exact ⟨h1, h6, by omega, by omega, accU_range.1 h3, h5, h4.1, h4.2⟩
          · exact absurd h (by simp)
        · exact absurd h (by simp)
    · exact absurd h (by simp)
  · rintro ⟨h1, h2, h3, h4, h5, h6, h7, h8⟩
    rw [if_pos h1, h2, if_neg (by omega), if_pos (accU_range.2 h5), h6, if_pos ⟨h7, h8⟩]

theorem acc_cR {s : ByteArray} {p : Nat} : ∀ k : Nat, k ≠ 0 → (firstS (bt s p)).1 = k → (∀ i, i < k - 1 → contU s p i = true) → accU s p (firstS (bt s p)).2 (k - 1) = cR s p k := by
  intro k hk hf hc
  have hlead : (firstS (bt s p)).2 = lead (bt s p) := by
    unfold firstS lead at *
    have := bt_nn s p
    revert hf
    repeat' split
    all_goals intro hf; first | rfl | (exfalso; simp at hf; omega) | omega
  have step : ∀ i : Nat, i < k → accU s p (firstS (bt s p)).2 i = cR s p (i + 1) := by
    intro i
    induction i with
    | zero => intro _; exact hlead
    | succ i ih =>
      intro hi
      have h1 := hc i (by omega)
      unfold contU at h1
      rw [Bool.and_eq_true] at h1
      have d1 := of_decide_eq_true h1.1
      have d2 := of_decide_eq_true h1.2
      have e : p + 1 + i = p + (i + 1) := by omega
      rw [e] at d1 d2
      simp only [accU, cR]
      rw [ih (by omega), e]
      omega
  obtain ⟨k', rfl⟩ : ∃ k', k = k' + 1 := ⟨k - 1, by omega⟩
  exact step k' (by omega)
end Go.Proofs.Ytgdgfomoeohdeaa
