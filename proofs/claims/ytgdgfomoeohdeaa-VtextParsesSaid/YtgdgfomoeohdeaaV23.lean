/- The plain law of douaneref01.Get: whole. -/
import Derived.Test.YtgdgfomoeohdeaaV22
set_option linter.unusedVariables false
set_option linter.unusedSimpArgs false
namespace Go.Proofs.Ytgdgfomoeohdeaa
open Aw

theorem put1 {c x : Int} : putS c = [x] ↔ codeB c = true ∧ c < 128 ∧ x = c := by
  unfold putS
  repeat' split
  all_goals simp_all
  all_goals first | (constructor <;> intro h <;> omega) | omega
theorem put2 {c x y : Int} : putS c = [x, y] ↔ codeB c = true ∧ ¬ c < 128 ∧ c < 2048 ∧ x = 192 + c / 64 ∧ y = 128 + c % 64 := by
  unfold putS
  repeat' split
  all_goals simp_all
  all_goals first | (constructor <;> intro h <;> omega) | omega
theorem put3 {c x y z : Int} : putS c = [x, y, z] ↔ codeB c = true ∧ ¬ c < 128 ∧ ¬ c < 2048 ∧ c < 65536 ∧ x = 224 + c / 4096 ∧ y = 128 + c / 64 % 64 ∧ z = 128 + c % 64 := by
  unfold putS
  repeat' split
  all_goals simp_all
  all_goals first | (constructor <;> intro h <;> omega) | omega
theorem put4 {c x y z w : Int} : putS c = [x, y, z, w] ↔ codeB c = true ∧ ¬ c < 128 ∧ ¬ c < 2048 ∧ ¬ c < 65536 ∧ x = 240 + c / 262144 ∧ y = 128 + c / 4096 % 64 ∧ z = 128 + c / 64 % 64 ∧ w = 128 + c % 64 := by
  unfold putS
  repeat' split
  all_goals simp_all
  all_goals first | (constructor <;> intro h <;> omega) | omega
theorem contU_iff {s : ByteArray} {p i : Nat} : contU s p i = true ↔ 128 ≤ bt s (p + (i + 1) : Nat) ∧ bt s (p + (i + 1) : Nat) < 192 := by
  unfold contU
  rw [show p + 1 + i = p + (i + 1) by omega, Bool.and_eq_true, decide_eq_true_eq, decide_eq_true_eq]
theorem lead_iff {x : Int} : (lead x = x ∧ x < 192) ∨ (lead x = x - 192 ∧ 192 ≤ x ∧ x < 224) ∨ (lead x = x - 224 ∧ 224 ≤ x ∧ x < 240) ∨ (lead x = x - 240 ∧ 240 ≤ x) := by
  unfold lead
  repeat' split
  all_goals omega
theorem first_iff {x : Int} : (x < 128 ∧ (firstS x).1 = 1) ∨ (192 ≤ x ∧ x < 224 ∧ (firstS x).1 = 2) ∨ (224 ≤ x ∧ x < 240 ∧ (firstS x).1 = 3) ∨ (240 ≤ x ∧ x < 248 ∧ (firstS x).1 = 4) ∨ ((128 ≤ x ∧ x < 192 ∨ 248 ≤ x) ∧ (firstS x).1 = 0) := by
  unfold firstS
  repeat' split
  all_goals (dsimp only; omega)
theorem long_iff {c : Int} : (c < 128 ∧ longN c = 1) ∨ (128 ≤ c ∧ c < 2048 ∧ longN c = 2) ∨ (2048 ≤ c ∧ c < 65536 ∧ longN c = 3) ∨ (65536 ≤ c ∧ longN c = 4) := by
  unfold longN
  repeat' split
  all_goals omega

theorem rget_law : RGetLaw := by
  refine ⟨?_, fun s p c k h => ?_⟩
  · intro s p n h1 h4 hp
    have hlt : p < s.size := by omega
    have goal : ∀ X : Prop, (putS (cR s p n) = bytesAt s p n ↔ X) → (X ↔ (firstS (bt s p)).1 = n ∧ (∀ i, i < n - 1 → contU s p i = true) ∧ codeB (cR s p n) = true ∧ longN (cR s p n) = n) → (putS (cR s p n) = bytesAt s p n ↔ getU s p = some (cR s p n, n)) := by
      intro X e1 e2
      rw [e1, e2, getU_iff]
      constructor
      · rintro ⟨a, b, c, d⟩
        exact ⟨hlt, a, by omega, hp, b, acc_cR n (by omega) a b, c, d⟩
      · rintro ⟨_, a, _, _, b, _, c, d⟩
        exact ⟨a, b, c, d⟩
    have b0 := bt_nn s p
    have b0' := bt_lt s p
    have hl := lead_iff (x := bt s p)
    have hf := first_iff (x := bt s p)
    rcases (by omega : n = 1 ∨ n = 2 ∨ n = 3 ∨ n = 4) with e | e | e | e <;> subst e
    · have hc : cR s p 1 = lead (bt s p) := rfl
      have hL := long_iff (c := cR s p 1)
      refine goal _ (put1 (x := bt s p)) ?_
      generalize cR s p 1 = c at *
      constructor
      · rintro ⟨a, b, d⟩; exact ⟨by omega, fun i hi => by omega, a, by omega⟩
      · rintro ⟨a, _, b, d⟩; exact ⟨b, by omega, by omega⟩
    · have hc : cR s p 2 = lead (bt s p) * 64 + bt s (p + 1 : Nat) % 64 := rfl
      have hL := long_iff (c := cR s p 2)
      have b1 := bt_nn s (p + 1 : Nat)
      have k0 : contU s p 0 = true ↔ 128 ≤ bt s (p + 1 : Nat) ∧ bt s (p + 1 : Nat) < 192 := contU_iff
      refine goal _ (put2 (x := bt s p) (y := bt s (p + 1 : Nat))) ?_
      generalize cR s p 2 = c at *
      constructor
      · rintro ⟨a, b, d, e, f⟩
        refine ⟨by omega, fun i hi => ?_, a, by omega⟩
        have : i = 0 := by omega
        subst this; exact k0.2 (by omega)
      · rintro ⟨a, k, b, d⟩
        have := k0.1 (k 0 (by omega))
        exact ⟨b, by omega, by omega, by omega, by omega⟩
    · have hc : cR s p 3 = (lead (bt s p) * 64 + bt s (p + 1 : Nat) % 64) * 64 + bt s (p + 2 : Nat) % 64 := rfl
      have hL := long_iff (c := cR s p 3)
      have b1 := bt_nn s (p + 1 : Nat)
      have b2 := bt_nn s (p + 2 : Nat)
      have k0 : contU s p 0 = true ↔ 128 ≤ bt s (p + 1 : Nat) ∧ bt s (p + 1 : Nat) < 192 := contU_iff
      have k1 : contU s p 1 = true ↔ 128 ≤ bt s (p + 2 : Nat) ∧ bt s (p + 2 : Nat) < 192 := contU_iff
      refine goal _ (put3 (x := bt s p) (y := bt s (p + 1 : Nat)) (z := bt s (p + 2 : Nat))) ?_
      generalize cR s p 3 = c at *
      constructor
      · rintro ⟨a, b, b', d, e, f, g⟩
        refine ⟨by omega, fun i hi => ?_, a, by omega⟩
        rcases (by omega : i = 0 ∨ i = 1) with e' | e' <;> subst e'
        · exact k0.2 (by omega)
        · exact k1.2 (by omega)
      · rintro ⟨a, k, b, d⟩
        have := k0.1 (k 0 (by omega))
        have := k1.1 (k 1 (by omega))
        exact ⟨b, by omega, by omega, by omega, by omega, by omega, by omega⟩
    · have hc : cR s p 4 = ((lead (bt s p) * 64 + bt s (p + 1 : Nat) % 64) * 64 + bt s (p + 2 : Nat) % 64) * 64 + bt s (p + 3 : Nat) % 64 := rfl
      have hL := long_iff (c := cR s p 4)
      have b1 := bt_nn s (p + 1 : Nat)
      have b2 := bt_nn s (p + 2 : Nat)
      have b3 := bt_nn s (p + 3 : Nat)
      have k0 : contU s p 0 = true ↔ 128 ≤ bt s (p + 1 : Nat) ∧ bt s (p + 1 : Nat) < 192 := contU_iff
      have k1 : contU s p 1 = true ↔ 128 ≤ bt s (p + 2 : Nat) ∧ bt s (p + 2 : Nat) < 192 := contU_iff
      have k2 : contU s p 2 = true ↔ 128 ≤ bt s (p + 3 : Nat) ∧ bt s (p + 3 : Nat) < 192 := contU_iff
      refine goal _ (put4 (x := bt s p) (y := bt s (p + 1 : Nat)) (z := bt s (p + 2 : Nat)) (w := bt s (p + 3 : Nat))) ?_
      have hcode : codeB (cR s p 4) = true → cR s p 4 ≤ 1114111 := fun h => (of_decide_eq_true (show decide (0 ≤ cR s p 4 ∧ cR s p 4 ≤ 1114111 ∧ (cR s p 4 < 55296 ∨ 57343 < cR s p 4)) = true from h)).2.1
      generalize cR s p 4 = c at *
      constructor
      · rintro ⟨a, b, b', b'', d, e, f, g⟩
        have := hcode a
        refine ⟨by omega, fun i hi => ?_, a, by omega⟩
        rcases (by omega : i = 0 ∨ i = 1 ∨ i = 2) with e' | e' | e' <;> subst e'
        · exact k0.2 (by omega)
        · exact k1.2 (by omega)
        · exact k2.2 (by omega)
      · rintro ⟨a, k, b, d⟩
        have := k0.1 (k 0 (by omega))
        have := k1.1 (k 1 (by omega))
        have := k2.1 (k 2 (by omega))
        exact ⟨b, by omega, by omega, by omega, by omega, by omega, by omega, by omega⟩
  · obtain ⟨_, a, hk, _, b, d, _, _⟩ := getU_iff.1 h
    rw [← d]
    exact acc_cR k hk a b
theorem rget_ok : RGetOk := rget_pure rget_law
theorem rvalid_ok : RValidOk u8B := rvalid_pure rget_ok
end Go.Proofs.Ytgdgfomoeohdeaa
