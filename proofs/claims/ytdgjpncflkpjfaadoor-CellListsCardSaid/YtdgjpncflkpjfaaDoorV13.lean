/- Laws of what a text says; what Scan and Parse answer. -/
import Derived.Test.YtdgjpncflkpjfaaDoorV9a
import Derived.Test.YtdgjpncflkpjfaaDoorV2
set_option linter.unusedVariables false
set_option linter.unusedSimpArgs false
namespace Go.Proofs.YtdgjpncflkpjfaaDoor
open Aw

theorem nodess_append : ∀ (a b : List Val), Val.nodess (a ++ b) = Val.nodess a + Val.nodess b
  | [], b => by simp [Val.nodess]
  | x :: a, b => by simp only [List.cons_append, Val.nodess, nodess_append a b]; omega
theorem deeps_le : ∀ (l : List Val) (m d : Int), m ≤ d → (∀ x ∈ l, x.deep ≤ d) → Val.deeps m l ≤ d
  | [], m, d, h, _ => h
  | x :: l, m, d, h, hl => by
    simp only [Val.deeps]
    exact deeps_le l _ d (by have := hl x (by simp); omega) fun y hy => hl y (by simp [hy])
theorem itemsF_size {s : ByteArray} {g : Nat → Res} {d : Int} (hd : 0 ≤ d) (hg : ∀ q v next, q ≤ s.size → g q = .ok v next → q < next ∧ next ≤ s.size ∧ v.nodes ≤ next - q ∧ v.deep ≤ d) : ∀ (n i : Nat) (acc : List Val), i ≤ s.size → (∀ x ∈ acc, x.deep ≤ d) →
    ∀ v next, itemsF s g n i acc = .ok v next → i < next ∧ v.nodes ≤ next - i + Val.nodess acc ∧ v.deep ≤ d + 1
  | 0, i, acc, hi, ha, v, next, h => by simp [itemsF] at h
  | n + 1, i, acc, hi, ha, v, next, h => by
    simp only [itemsF] at h
    by_cases h1 : i < s.size ∧ bt s i = 93
    · rw [if_pos h1] at h
      cases h
      have e1 : (Val.mk 5 0 ⟨#[]⟩ acc).nodes = 1 + Val.nodess acc := rfl
      have e2 : (Val.mk 5 0 ⟨#[]⟩ acc).deep = Val.deeps 0 acc + 1 := by rw [deep_def]; rfl
      have := deeps_le acc 0 d hd ha
      refine ⟨by omega, by rw [e1]; omega, by rw [e2]; omega⟩
    · rw [if_neg h1] at h
      by_cases h2 : acc ≠ [] ∧ ¬ (i < s.size ∧ bt s i = 32)
      · rw [if_pos h2] at h; cases h
      · rw [if_neg h2] at h
        have hq : (if acc = [] then i else i + 1) ≤ s.size ∧ i ≤ (if acc = [] then i else i + 1) := by
          split
          · omega
          · rename_i hne
            have : i < s.size ∧ bt s i = 32 := Classical.byContradiction fun hh => h2 ⟨hne, hh⟩
            omega
        cases hr : g (if acc = [] then i else i + 1) with
        | no a e => rw [hr] at h; cases h
        | ok x nx =>
          rw [hr] at h
          obtain ⟨g1, g2, g3, g4⟩ := hg _ x nx hq.1 hr
          have h3 := itemsF_size hd hg n nx (acc ++ [x]) g2 (fun y hy => by
            rcases List.mem_append.1 hy with hy | hy
            · exact ha y hy
            · simp at hy; subst hy; exact g4) v next h
          have e3 : Val.nodess (acc ++ [x]) = Val.nodess acc + x.nodes := by rw [nodess_append]; simp [Val.nodess]
          refine ⟨by omega, by have := h3.2.1; omega, h3.2.2⟩
theorem kindS_size {s : ByteArray} {list : Nat → Res} {p : Nat} {d : Int} (hd : 0 ≤ d) (hp : p ≤ s.size) (hl : p < s.size → ∀ v next, list p = .ok v next → p < next ∧ v.nodes ≤ next - p ∧ v.deep ≤ d) (hnext : ∀ v next, kindS s p list = .ok v next → p < next ∧ next ≤ s.size) :
    ∀ v next, kindS s p list = .ok v next → v.nodes ≤ next - p ∧ v.deep ≤ d := by
  intro v next h
  have hn := hnext v next h
  have leaf : ∀ (k n : Int) (str : ByteArray), k ≠ 5 → (Val.mk k n str []).nodes ≤ next - p ∧ (Val.mk k n str []).deep ≤ d := by
    intro k n str hk
    have e1 : (Val.mk k n str []).nodes = 1 := rfl
    have e2 : (Val.mk k n str []).deep = 0 := by rw [deep_def, if_neg (by simp [hk])]; rfl
    rw [e1, e2]; omega
  have str : ∀ (m i : Nat) (out : ByteArray), strF s m i out = .ok v next → ∃ o, v = ⟨4, 0, o, []⟩ := by
    intro m
    induction m with
    | zero => intro i out h; simp [strF] at h
    | succ m ih =>
      intro i out h
      simp only [strF] at h
      split at h
      · split at h
        · cases h; exact ⟨_, rfl⟩
        · split at h
          · split at h
            · cases h
            · exact ih _ _ h
          · exact ih _ _ h
      · cases h
  unfold kindS at h
  by_cases h0 : p = s.size
  · rw [if_pos h0] at h; cases h
  rw [if_neg h0] at h
  by_cases h1 : bt s p = 39
  · rw [if_pos h1] at h
    unfold symS at h
    dsimp only at h
    split at h
    · cases h; exact leaf _ _ _ (by decide)
    · cases h
  rw [if_neg h1] at h
  by_cases h2 : bt s p = 45 ∨ 48 ≤ bt s p ∧ bt s p ≤ 57
  · rw [if_pos h2] at h
    unfold numS at h
    split at h
    · cases h; exact leaf _ _ _ (by decide)
    · cases h
  rw [if_neg h2] at h
  by_cases h3 : bt s p = 34
  · rw [if_pos h3] at h
    obtain ⟨o, rfl⟩ := str _ _ _ h
    exact leaf _ _ _ (by decide)
  rw [if_neg h3] at h
  by_cases h4 : bt s p = 91
  · rw [if_pos h4] at h; exact (hl (by omega) v next h).2
  rw [if_neg h4] at h
  unfold wordS at h
  dsimp only at h
  split at h
  · cases h; exact leaf _ _ _ (by decide)
  · split at h
    · cases h; exact leaf _ _ _ (by decide)
    · split at h
      · cases h; exact leaf _ _ _ (by decide)
      · cases h
theorem getS_size {s : ByteArray} : ∀ (d p : Nat), p ≤ s.size → ∀ v next, getS s d p = .ok v next → v.nodes ≤ next - p ∧ v.deep ≤ d
  | 0, p, hp, v, next, h => kindS_size (d := (0 : Nat)) (by omega) hp (fun _ v next h => by cases h) (fun v next h => (getS_next 0 p hp).1 v next h) v next h
  | d + 1, p, hp, v, next, h => by
    refine kindS_size (d := (d + 1 : Nat)) (by omega) hp (fun hlt v next h => ?_) (fun v next h => (getS_next (d + 1) p hp).1 v next h) v next h
    have := itemsF_size (s := s) (g := getS s d) (d := d) (by omega) (fun q v next hq h => by
      have h1 := (getS_next d q hq).1 v next h
      have h2 := getS_size d q hq v next h
      exact ⟨h1.1, h1.2, h2⟩) (s.size + 1 - p) (p + 1) [] (by omega) (by simp) v next h
    have e : Val.nodess [] = 0 := rfl
    rw [e] at this
    refine ⟨by omega, by have := this.2.1; omega, by have := this.2.2; omega⟩

def zeroV : Val := ⟨0, 0, ⟨#[]⟩, []⟩
/-- What Scan and Parse answer. -/
def scanO (u8B : ByteArray → Bool) (s : ByteArray) (p : Int) : Val × Int × Int :=
  if p < 0 ∨ p > s.size then (zeroV, p, 1) else
  match getS s 4 p.toNat with
  | .no a e => (zeroV, a, e)
  | .ok v n => if rightB u8B v then (v, n, 0) else (zeroV, p, 4)
def parseO (u8B : ByteArray → Bool) (s : ByteArray) : Val × Int × Int :=
  if (scanO u8B s 0).2.2 = 0 ∧ (scanO u8B s 0).2.1 < s.size then (zeroV, (scanO u8B s 0).2.1, 2) else scanO u8B s 0
def outAV (o : Val × Int × Int) : AV := .tup [.agg [.v (.int .i64 o.1.kind), .v (.int .i64 o.1.n), .v (.string o.1.s), .sl 4 (Val.acs o.1.l)], .c (.v (.int .i64 o.2.1)), .c (.v (.int .i64 o.2.2))]
theorem leZero {o : Val × Int × Int} {x y : Int} (h : o = (zeroV, x, y)) : VLe (.tup [.agg [.v (.int .i64 0), .v (.int .i64 0), .v (.string ⟨#[]⟩), .nil], .c (.v (.int .i64 x)), .c (.v (.int .i64 y))]) (outAV o) := by
  subst h; exact VLe.tup3 (aggNil _ _ _) (VLe.refl _) (VLe.refl _)
end Go.Proofs.YtdgjpncflkpjfaaDoor
