/- The text of a value, read: what it says (the document's way); rows of bytes; letters. -/
import Derived.Test.YtdgjpncflkpjfaaDoorV4
import Derived.Test.YtdgjpncflkpjfaaDoorAw9
set_option linter.unusedVariables false
set_option linter.unusedSimpArgs false
namespace Go.Proofs.YtdgjpncflkpjfaaDoor
open Aw

/-- How many bytes of a kind stand at a place. -/
def rowF (f : Int → Bool) (s : ByteArray) : Nat → Nat → Nat
  | 0, _ => 0
  | n + 1, p => if p < s.size ∧ f (bt s p) = true then rowF f s n (p + 1) + 1 else 0
def rowN (f : Int → Bool) (s : ByteArray) (p : Nat) : Nat := rowF f s (s.size - p) p
theorem rowF_eq (f : Int → Bool) (s : ByteArray) : ∀ (m p n : Nat), s.size - p ≤ m → (∀ k, k < n → p + k < s.size ∧ f (bt s (p + k : Nat)) = true) → ¬ (p + n < s.size ∧ f (bt s (p + n : Nat)) = true) → rowF f s m p = n
  | 0, p, n, hf, h1, h2 => by
    cases n with
    | zero => rfl
    | succ n => have := (h1 0 (by omega)).1; omega
  | m + 1, p, n, hf, h1, h2 => by
    simp only [rowF]
    cases n with
    | zero => rw [if_neg (by simpa using h2)]
    | succ n =>
      rw [if_pos (by simpa using h1 0 (by omega))]
      rw [rowF_eq f s m (p + 1) n (by omega) (fun k hk => by have := h1 (k + 1) (by omega); rwa [show p + 1 + k = p + (k + 1) by omega]) (by rwa [show p + 1 + n = p + (n + 1) by omega])]
theorem rowN_eq {f : Int → Bool} {s : ByteArray} {p n : Nat} (h1 : ∀ k, k < n → p + k < s.size ∧ f (bt s (p + k : Nat)) = true) (h2 : ¬ (p + n < s.size ∧ f (bt s (p + n : Nat)) = true)) : rowN f s p = n := rowF_eq f s _ p n (Nat.le_refl _) h1 h2
theorem rowF_spec (f : Int → Bool) (s : ByteArray) : ∀ (m p : Nat), s.size - p ≤ m → (∀ k, k < rowF f s m p → p + k < s.size ∧ f (bt s (p + k : Nat)) = true) ∧ ¬ (p + rowF f s m p < s.size ∧ f (bt s (p + rowF f s m p : Nat)) = true)
  | 0, p, hf => by simp [rowF]; intro h; omega
  | m + 1, p, hf => by
    simp only [rowF]
    by_cases h : p < s.size ∧ f (bt s p) = true
    · rw [if_pos h]
      obtain ⟨h1, h2⟩ := rowF_spec f s m (p + 1) (by omega)
      refine ⟨fun k hk => ?_, ?_⟩
      · cases k with
        | zero => exact h
        | succ k => have := h1 k (by omega); rwa [show p + 1 + k = p + (k + 1) by omega] at this
      · rwa [show p + 1 + rowF f s m (p + 1) = p + (rowF f s m (p + 1) + 1) by omega] at h2
    · rw [if_neg h]; exact ⟨by simp, h⟩
theorem rowN_spec (f : Int → Bool) (s : ByteArray) (p : Nat) : (∀ k, k < rowN f s p → p + k < s.size ∧ f (bt s (p + k : Nat)) = true) ∧ ¬ (p + rowN f s p < s.size ∧ f (bt s (p + rowN f s p : Nat)) = true) := rowF_spec f s _ p (Nat.le_refl _)
theorem rowN_le {f : Int → Bool} {s : ByteArray} {p : Nat} (hp : p ≤ s.size) : p + rowN f s p ≤ s.size := by
  have := (rowN_spec f s p).1
  cases hr : rowN f s p with
  | zero => omega
  | succ n => have := (this n (by omega)).1; omega

/-! ### What a text says -/
inductive Res where
  | ok (v : Val) (next : Nat)
  | no (at' : Nat) (e : Int)
def wordS (s : ByteArray) (p : Nat) : Res :=
  let w := s.extract p (p + rowN letterB s p)
  if w.toList == ByteArray.toList ⟨#[110, 117, 108, 108]⟩ then .ok ⟨0, 0, ⟨#[]⟩, []⟩ (p + rowN letterB s p)
  else if w.toList == ByteArray.toList ⟨#[116, 114, 117, 101]⟩ then .ok ⟨1, 1, ⟨#[]⟩, []⟩ (p + rowN letterB s p)
  else if w.toList == ByteArray.toList ⟨#[102, 97, 108, 115, 101]⟩ then .ok ⟨1, 0, ⟨#[]⟩, []⟩ (p + rowN letterB s p)
  else .no p 2
def symS (s : ByteArray) (p : Nat) : Res :=
  let e := p + 1 + rowN symC s (p + 1)
  if nameB (s.extract (p + 1) e) then .ok ⟨3, 0, s.extract (p + 1) e, []⟩ e else .no (p + 1) 2
def numS (s : ByteArray) (p : Nat) : Res :=
  if (scanS s p).2.2 = 0 then .ok ⟨2, (scanS s p).1, ⟨#[]⟩, []⟩ (scanS s p).2.1 else .no p (scanS s p).2.2
def strF (s : ByteArray) : Nat → Nat → ByteArray → Res
  | 0, i, out => .no s.size 2
  | n + 1, i, out =>
    if i < s.size then
      if bt s i = 34 then .ok ⟨4, 0, out, []⟩ (i + 1)
      else if bt s i = 92 then
        if i + 1 = s.size ∨ bt s (i + 1 : Nat) ≠ 34 ∧ bt s (i + 1 : Nat) ≠ 92 then .no i 2
        else strF s n (i + 2) (out ++ s.extract (i + 1) (i + 2))
      else strF s n (i + 1) (out ++ s.extract i (i + 1))
    else .no s.size 2
def strS (s : ByteArray) (p : Nat) : Res := strF s (s.size - p) (p + 1) ⟨#[]⟩
def itemsF (s : ByteArray) (g : Nat → Res) : Nat → Nat → List Val → Res
  | 0, i, acc => .no i 2
  | n + 1, i, acc =>
    if i < s.size ∧ bt s i = 93 then .ok ⟨5, 0, ⟨#[]⟩, acc⟩ (i + 1)
    else if acc ≠ [] ∧ ¬ (i < s.size ∧ bt s i = 32) then .no i 2
    else match g (if acc = [] then i else i + 1) with
      | .no a e => .no a e
      | .ok x next => itemsF s g n next (acc ++ [x])
def kindS (s : ByteArray) (p : Nat) (list : Nat → Res) : Res :=
  if p = s.size then .no p 2
  else if bt s p = 39 then symS s p
  else if bt s p = 45 ∨ 48 ≤ bt s p ∧ bt s p ≤ 57 then numS s p
  else if bt s p = 34 then strS s p
  else if bt s p = 91 then list p
  else wordS s p
def getS (s : ByteArray) : Nat → Nat → Res
  | 0, p => kindS s p fun p => .no p 3
  | d + 1, p => kindS s p fun p => itemsF s (getS s d) (s.size + 1 - p) (p + 1) []
end Go.Proofs.YtdgjpncflkpjfaaDoor
