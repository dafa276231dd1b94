/- Values that are read are small. -/
import Derived.Test.YtdgjpncflkpjfaaDoorV9a
set_option linter.unusedVariables false
set_option linter.unusedSimpArgs false
namespace Go.Proofs.YtdgjpncflkpjfaaDoor
open Aw

mutual
def Val.ok : Val → Prop
  | ⟨k, n, s, l⟩ => s.size < 1000000000 ∧ Val.oks l
def Val.oks : List Val → Prop
  | [] => True
  | x :: xs => x.ok ∧ Val.oks xs
end
theorem oks_mem : ∀ (l : List Val), Val.oks l → ∀ x ∈ l, x.ok
  | x :: l, h, y, hy => by
    rcases List.mem_cons.1 hy with e | hy
    · subst e; exact h.1
    · exact oks_mem l h.2 y hy
theorem ok_def (v : Val) : v.ok = (v.s.size < 1000000000 ∧ Val.oks v.l) := by cases v; rfl

theorem strF_ok {s : ByteArray} : ∀ (m i : Nat) (out : ByteArray) (v : Val) (next : Nat), out.size ≤ i → i ≤ s.size → strF s m i out = .ok v next → v.s.size ≤ s.size ∧ v.l = []
  | 0, i, out, v, next, ho, hi, h => by simp [strF] at h
  | m + 1, i, out, v, next, ho, hi, h => by
    simp only [strF] at h
    split at h
    · split at h
      · cases h; exact ⟨by show out.size ≤ _; omega, rfl⟩
      · split at h
        · split at h
          · cases h
          · refine strF_ok m _ _ v next ?_ (by omega) h
            simp; omega
        · refine strF_ok m _ _ v next ?_ (by omega) h
          simp; omega
    · cases h
theorem oks_append : ∀ {a b : List Val}, Val.oks a → Val.oks b → Val.oks (a ++ b)
  | [], b, _, h => h
  | x :: a, b, h, k => ⟨h.1, oks_append h.2 k⟩
theorem itemsF_ok {s : ByteArray} {g : Nat → Res} (hg : ∀ q v next, q ≤ s.size → g q = .ok v next → next ≤ s.size ∧ v.ok) : ∀ (n i : Nat) (acc : List Val), i ≤ s.size → Val.oks acc → ∀ v next, itemsF s g n i acc = .ok v next → v.ok
  | 0, i, acc, hi, ha, v, next, h => by simp [itemsF] at h
  | n + 1, i, acc, hi, ha, v, next, h => by
    simp only [itemsF] at h
    by_cases h1 : i < s.size ∧ bt s i = 93
    · rw [if_pos h1] at h
      cases h
      exact ⟨by decide, ha⟩
    · rw [if_neg h1] at h
      by_cases h2 : acc ≠ [] ∧ ¬ (i < s.size ∧ bt s i = 32)
      · rw [if_pos h2] at h; cases h
      · rw [if_neg h2] at h
        have hq : (if acc = [] then i else i + 1) ≤ s.size := by
          split
          · omega
          · rename_i hne
            have : i < s.size ∧ bt s i = 32 := Classical.byContradiction fun hh => h2 ⟨hne, hh⟩
            omega
        cases hr : g (if acc = [] then i else i + 1) with
        | no a e => rw [hr] at h; cases h
        | ok x nx =>
          rw [hr] at h
          obtain ⟨g1, g2⟩ := hg _ x nx hq hr
          exact itemsF_ok hg n nx (acc ++ [x]) g1 (oks_append ha ⟨g2, trivial⟩) v next h
theorem kindS_ok {s : ByteArray} (hs : s.size < 1000000000) {list : Nat → Res} {p : Nat} (hp : p ≤ s.size) (hl : p < s.size → ∀ v next, list p = .ok v next → v.ok) : ∀ v next, kindS s p list = .ok v next → v.ok := by
  intro v next h
  have leaf : ∀ (k n : Int) (str : ByteArray), str.size ≤ s.size → (Val.mk k n str []).ok := fun k n str h => ⟨by omega, trivial⟩
  unfold kindS at h
  by_cases h0 : p = s.size
  · rw [if_pos h0] at h; cases h
  rw [if_neg h0] at h
  by_cases h1 : bt s p = 39
  · rw [if_pos h1] at h
    unfold symS at h
    dsimp only at h
    split at h
    · cases h; exact leaf _ _ _ (by simp; omega)
    · cases h
  rw [if_neg h1] at h
  by_cases h2 : bt s p = 45 ∨ 48 ≤ bt s p ∧ bt s p ≤ 57
  · rw [if_pos h2] at h
    unfold numS at h
    split at h
    · cases h; exact leaf _ _ _ (Nat.zero_le _)
    · cases h
  rw [if_neg h2] at h
  by_cases h3 : bt s p = 34
  · rw [if_pos h3] at h
    have := strF_ok _ (p + 1) ⟨#[]⟩ v next (Nat.zero_le _) (by omega) h
    obtain ⟨k, n, str, l⟩ := v
    obtain ⟨h5, h6⟩ := this
    cases h6
    exact leaf _ _ _ h5
  rw [if_neg h3] at h
  by_cases h4 : bt s p = 91
  · rw [if_pos h4] at h; exact hl (by omega) v next h
  rw [if_neg h4] at h
  unfold wordS at h
  dsimp only at h
  split at h
  · cases h; exact leaf _ _ _ (Nat.zero_le _)
  · split at h
    · cases h; exact leaf _ _ _ (Nat.zero_le _)
    · split at h
      · cases h; exact leaf _ _ _ (Nat.zero_le _)
      · cases h
theorem getS_ok {s : ByteArray} (hs : s.size < 1000000000) : ∀ (d p : Nat), p ≤ s.size → ∀ v next, getS s d p = .ok v next → v.ok
  | 0, p, hp => kindS_ok hs hp fun _ v next h => by cases h
  | d + 1, p, hp => kindS_ok hs hp fun hlt v next h =>
    itemsF_ok (s := s) (g := getS s d) (fun q v next hq h => ⟨((getS_next d q hq).1 v next h).2, getS_ok hs d q hq v next h⟩) _ (p + 1) [] (by omega) trivial v next h
end Go.Proofs.YtdgjpncflkpjfaaDoor
