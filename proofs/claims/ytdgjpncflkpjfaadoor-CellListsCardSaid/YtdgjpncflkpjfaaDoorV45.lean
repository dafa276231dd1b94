/- Plain laws: numbers that are read are in range; a right value's text, parsed; what was parsed, told. -/
import Derived.Test.YtdgjpncflkpjfaaDoorV41
import Derived.Test.YtdgjpncflkpjfaaDoorV29
import Derived.Test.YtdgjpncflkpjfaaDoorV31
import Derived.Test.YtdgjpncflkpjfaaDoorV38
set_option linter.unusedVariables false
set_option linter.unusedSimpArgs false
namespace Go.Proofs.YtdgjpncflkpjfaaDoor
open Aw

theorem parse_rng {b : ByteArray} {n : Int} (h : parseS b = (n, 0)) : -9223372036854775808 ≤ n ∧ n < 9223372036854775808 := by
  unfold parseS at h
  by_cases hbad : badB (bodyB b) (negB b) = true
  · rw [if_pos hbad] at h; cases h
  rw [if_neg hbad] at h
  by_cases hbig : mostN (negB b) < valN (bodyB b) (bodyB b).size
  · rw [if_pos hbig] at h; cases h
  rw [if_neg hbig] at h
  have hn := congrArg Prod.fst h
  have hn : (if negB b = true then -(valN (bodyB b) (bodyB b).size : Int) else (valN (bodyB b) (bodyB b).size : Int)) = n := hn
  have hbig : valN (bodyB b) (bodyB b).size ≤ mostN (negB b) := by omega
  cases hN : negB b with
  | true =>
    rw [hN, if_pos rfl] at hn
    have : mostN (negB b) = 9223372036854775808 := by rw [hN]; rfl
    omega
  | false =>
    rw [hN, if_neg (by simp)] at hn
    have : mostN (negB b) = 9223372036854775807 := by rw [hN]; rfl
    omega
theorem rngs_append : ∀ {a b : List Val}, Val.rngs a → Val.rngs b → Val.rngs (a ++ b)
  | [], b, _, h => h
  | x :: a, b, h, k => ⟨h.1, rngs_append h.2 k⟩
theorem itemsF_rng {s : ByteArray} {g : Nat → Res} (hg : ∀ q v next, q ≤ s.size → g q = .ok v next → next ≤ s.size ∧ v.rng) : ∀ (n i : Nat) (acc : List Val), i ≤ s.size → Val.rngs acc → ∀ v next, itemsF s g n i acc = .ok v next → v.rng
  | 0, i, acc, hi, ha, v, next, h => by simp [itemsF] at h
  | n + 1, i, acc, hi, ha, v, next, h => by
    simp only [itemsF] at h
    by_cases h1 : i < s.size ∧ bt s i = 93
    · rw [if_pos h1] at h
      cases h
      exact ⟨⟨by decide, by decide⟩, ha⟩
    · rw [if_neg h1] at h
      by_cases h2 : acc ≠ [] ∧ ¬ (i < s.size ∧ bt s i = 32)
      · rw [if_pos h2] at h; cases h
      · rw [if_neg h2] at h
        have hq : (if acc = [] then i else i + 1) ≤ s.size := by
          split
          · omega
          · rename_i hne
            have : i < s.size ∧ bt s i = 32 := Classical.byContradiction fun hh => h2 ⟨hne, hh⟩
            omega
        cases hr : g (if acc = [] then i else i + 1) with
        | no a e => rw [hr] at h; cases h
        | ok x nx =>
          rw [hr] at h
          obtain ⟨g1, g2⟩ := hg _ x nx hq hr
          exact itemsF_rng hg n nx (acc ++ [x]) g1 (rngs_append ha ⟨g2, trivial⟩) v next h
theorem kindS_rng {s : ByteArray} {list : Nat → Res} {p : Nat} (hp : p ≤ s.size) (hl : p < s.size → ∀ v next, list p = .ok v next → v.rng) : ∀ v next, kindS s p list = .ok v next → v.rng := by
  intro v next h
  have leaf : ∀ (k : Int) (str : ByteArray), (Val.mk k 0 str []).rng := fun k str => ⟨⟨by decide, by decide⟩, trivial⟩
  unfold kindS at h
  by_cases h0 : p = s.size
  · rw [if_pos h0] at h; cases h
  rw [if_neg h0] at h
  by_cases h1 : bt s p = 39
  · rw [if_pos h1] at h
    unfold symS at h
    dsimp only at h
    split at h
    · cases h; exact leaf _ _
    · cases h
  rw [if_neg h1] at h
  by_cases h2 : bt s p = 45 ∨ 48 ≤ bt s p ∧ bt s p ≤ 57
  · rw [if_pos h2] at h
    unfold numS at h
    split at h
    · rename_i he
      cases h
      unfold scanS at he ⊢
      split at he
      · rename_i hz
        rw [if_pos hz]
        exact ⟨parse_rng (Prod.ext rfl hz : parseS (s.extract p (scanE s p)) = (_, 0)), trivial⟩
      · rename_i hz; exact absurd he hz
    · cases h
  rw [if_neg h2] at h
  by_cases h3 : bt s p = 34
  · rw [if_pos h3] at h
    unfold strS at h
    obtain ⟨o, rfl, _⟩ := strF_text _ _ _ _ _ h
    exact leaf _ _
  rw [if_neg h3] at h
  by_cases h4 : bt s p = 91
  · rw [if_pos h4] at h; exact hl (by omega) v next h
  rw [if_neg h4] at h
  unfold wordS at h
  dsimp only at h
  split at h
  · cases h; exact leaf _ _
  · split at h
    · cases h; exact ⟨⟨by decide, by decide⟩, trivial⟩
    · split at h
      · cases h; exact leaf _ _
      · cases h
theorem getS_rng {s : ByteArray} : ∀ (d p : Nat), p ≤ s.size → ∀ v next, getS s d p = .ok v next → v.rng
  | 0, p, hp => kindS_rng hp fun _ v next h => by cases h
  | d + 1, p, hp => kindS_rng hp fun hlt v next h =>
    itemsF_rng (s := s) (g := getS s d) (fun q v next hq h => ⟨((getS_next d q hq).1 v next h).2, getS_rng d q hq v next h⟩) _ (p + 1) [] (by omega) trivial v next h

theorem right_spec {u8B : ByteArray → Bool} {v : Val} (h : rightB u8B v = true) : v.deep ≤ 4 ∧ v.nodes ≤ 100 ∧ v.parts u8B = true := by
  unfold rightB at h
  simp only [Bool.and_eq_true, decide_eq_true_eq] at h
  exact ⟨h.1.1, h.1.2, h.2⟩
theorem text_size (v : Val) : v.text.size = (TL v).length := (size_toList _).symm
theorem right_size {u8B : ByteArray → Bool} {v : Val} (h : rightB u8B v = true) : v.text.size ≤ 40500 := by
  obtain ⟨h1, h2, h3⟩ := right_spec h
  have := (parts_small v h3).1
  rw [text_size]; omega
theorem right_ok {u8B : ByteArray → Bool} {v : Val} (h : rightB u8B v = true) : v.ok := (parts_small v (right_spec h).2.2).2

/-- A text that begins with a right value's: what Scan answers. -/
theorem scan_text {u8B : ByteArray → Bool} {v : Val} (h : rightB u8B v = true) (hr : v.rng) {t : ByteArray} (hat : At t 0 (TL v)) (hs : v.kind < 4 → Stops t (TL v).length) : scanO u8B t 0 = (v, ((TL v).length : Int), 0) := by
  obtain ⟨h1, h2, h3⟩ := right_spec h
  have hrd := (text_read v h3 hr t 4 0 hat (by rw [Nat.zero_add]; exact hs)).1 h1
  unfold scanO
  rw [if_neg (by omega), show (0 : Int).toNat = 0 from rfl, hrd]
  dsimp only
  rw [if_pos h, Nat.zero_add]
/-- A right value's text, parsed. -/
theorem parse_text {u8B : ByteArray → Bool} {v : Val} (h : rightB u8B v = true) (hr : v.rng) : parseO u8B v.text = (v, (v.text.size : Int), 0) := by
  have hs := scan_text h hr (t := v.text) (At.of (l := TL v) (r := []) (by rw [List.append_nil]; rfl)) (fun _ hh => by have := hh.1; rw [text_size] at this; omega)
  unfold parseO
  rw [hs, if_neg (by rw [text_size]; dsimp only; omega), text_size]
/-- What was parsed without an error. -/
theorem parse_spec {u8B : ByteArray → Bool} {s : ByteArray} {v : Val} {a : Int} (h : parseO u8B s = (v, a, 0)) : rightB u8B v = true ∧ v.text = s ∧ v.rng := by
  unfold parseO at h
  have hns : scanO u8B s 0 = (v, a, 0) ∧ ¬ ((scanO u8B s 0).2.2 = 0 ∧ (scanO u8B s 0).2.1 < s.size) := by
    split at h
    · cases h
    · rename_i hn; exact ⟨h, hn⟩
  obtain ⟨h1, h2⟩ := hns
  rw [h1] at h2
  unfold scanO at h1
  rw [if_neg (by omega), show (0 : Int).toNat = 0 from rfl] at h1
  cases hg : getS s 4 0 with
  | no a' e =>
    rw [hg] at h1
    have he := (getS_next (s := s) 4 0 (Nat.zero_le _)).2 a' e hg
    dsimp only at h1
    have : e = 0 := by have := congrArg (fun q => q.2.2) h1; exact this
    exact absurd this he
  | ok u n =>
    rw [hg] at h1
    dsimp only at h1
    split at h1
    · rename_i hrt
      have e1 : u = v := congrArg (fun q => q.1) h1
      have e2 : ((n : Nat) : Int) = a := congrArg (fun q => q.2.1) h1
      subst e1
      have hn := (getS_next (s := s) 4 0 (Nat.zero_le _)).1 u n hg
      have hns : n = s.size := by
        have : ¬ (a < s.size) := fun hh => h2 ⟨rfl, hh⟩
        omega
      have ht := read_text 4 0 (Nat.zero_le _) u n hg
      refine ⟨hrt, data_inj ?_, getS_rng 4 0 (Nat.zero_le _) u n hg⟩
      show TL u = _
      rw [ht, hns, seg_all]
    · cases h1
end Go.Proofs.YtdgjpncflkpjfaaDoor
