/- utf.Count and utf.Valid (the contract of utf.Codes is asked for). -/
import Derived.Test.YtgdgfomoeohdeaaV17
set_option linter.unusedVariables false
set_option linter.unusedSimpArgs false
namespace Go.Proofs.Ytgdgfomoeohdeaa
open Aw

def UCodesOk : Prop := ∀ (s : ByteArray), s.size < 1000000000 → PureA Try.prog 82 [.c (.v (.string s))] (codesAV (codesU s s.size 0))
theorem codesU_le {s : ByteArray} : ∀ (n p : Nat), p ≤ s.size → (codesU s n p).2 ≤ s.size ∧ (codesU s n p).1.length ≤ n
  | 0, p, hp => by simp [codesU, hp]
  | n + 1, p, hp => by
    simp only [codesU]
    split
    · cases hg : getU s p with
      | none => simp [hp]
      | some ck =>
        obtain ⟨c, k⟩ := ck
        have := getU_some hg
        have := codesU_le (s := s) n (p + k) (by omega)
        simp; omega
    · simp [hp]
theorem ucount_pure (hC : UCodesOk) (s : ByteArray) (hs : s.size < 1000000000) : PureA Try.prog 78 [.c (.v (.string s))] (.c (.v (.int .i64 (if u8B s then ((codesU s s.size 0).1.length : Int) else -1)))) := by
  intro h
  refine callsA_of (D := D1 16 [] [] []) ty_ok mixed Try.func78 rfl (by kernel_rfl) (by kernel_rfl) (by simp [D1]) ?_
  intro g vs hr
  clear hr
  have hc := hC s hs
  have hle := (codesU_le (s := s) s.size 0 (Nat.zero_le _)).1
  refine ⟨_, hc, Br.mk (fun h1 => ?_) (fun h1 => ?_)⟩
  · have h1 := of_decide_eq_true h1
    have : u8B s = false := by unfold u8B; exact decide_eq_false (by omega)
    exact ⟨ret_i (by rw [this]; rfl), rfl⟩
  · have h1 := of_decide_eq_false h1
    have : u8B s = true := by unfold u8B; exact decide_eq_true (by omega)
    exact ⟨ret_i (by rw [this]; simp [rowsI]), rfl⟩
theorem valid_pure (hC : UCodesOk) : ValidOk u8B := by
  intro s hs h
  refine callsA_of (D := D1 6 [] [] []) ty_ok mixed Try.func67 rfl (by kernel_rfl) (by kernel_rfl) (by simp [D1]) ?_
  intro g vs hr
  clear hr
  have hc := ucount_pure hC s (by omega)
  refine ⟨_, hc, ret_b ?_, rfl⟩
  cases u8B s with
  | true => exact decide_eq_true (by simp)
  | false => rfl
end Go.Proofs.Ytgdgfomoeohdeaa
