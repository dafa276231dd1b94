/- douaneref03.Compare and Same, at two equal values. -/
import Derived.Test.YtgdgfomoeohdeaaV9
set_option linter.unusedVariables false
set_option linter.unusedSimpArgs false
namespace Go.Proofs.Ytgdgfomoeohdeaa
open Aw

mutual
def Val.ok : Val → Prop
  | ⟨k, n, s, l⟩ => s.size < 1000000000 ∧ Val.oks l
def Val.oks : List Val → Prop
  | [] => True
  | x :: xs => x.ok ∧ Val.oks xs
end
theorem oks_mem : ∀ (l : List Val), Val.oks l → ∀ x ∈ l, x.ok
  | x :: l, h, y, hy => by
    rcases List.mem_cons.1 hy with e | hy
    · subst e; exact h.1
    · exact oks_mem l h.2 y hy
theorem ok_def (v : Val) : v.ok = (v.s.size < 1000000000 ∧ Val.oks v.l) := by cases v; rfl

set_option maxRecDepth 4000 in
theorem cmp_refl (v : Val) (hok : v.ok) : PureA Try.prog 23 [.agg v.ac, .agg v.ac] (.c (.v (.int .i64 0))) := by
  intro h
  refine callsA_of (D := D1 116 [] [] [33, 79]) ty_ok mixed Try.func23 rfl (by kernel_rfl) (by kernel_rfl) (by simp [D1]) ?_
  intro g vs hr
  rw [ok_def] at hok
  rw [Val.ac_eq] at hr ⊢
  have hlen : v.l.length ≤ lenMax := by have := sl_len hr; rwa [Val.acs_len] at this
  clear hr
  have lt_ff : ∀ x : Int, decide (x < x) = false := fun x => decide_eq_false (by omega)
  have gt_ff : ∀ x : Int, decide (x > x) = false := fun x => decide_eq_false (by omega)
  have ne_ff : ∀ x : Int, (x != x) = false := fun x => by simp
  refine Br.mk (fun h1 => by rw [ne_ff] at h1; cases h1) (fun _ => ?_)
  refine Br.mk (fun h1 => by rw [ne_ff] at h1; cases h1) (fun _ => ?_)
  refine LoopA.mk ⟨⟨[2, 3, 4, 5], 2, 0⟩, fun n st => ∃ (i : Nat) (j : Int), st = ⟨[(2, .c (.loc 0 0)), (3, .c (.loc 1 0)), (4, .c (.v (.int .i64 0))), (5, .c (.v (.int .i64 j)))], ⟨[(25, [.v (.int .i64 v.kind), .v (.int .i64 v.n), .v (.string v.s), .sl 4 (Val.acs v.l)]), (25, [.v (.int .i64 v.kind), .v (.int .i64 v.n), .v (.string v.s), .sl 4 (Val.acs v.l)])], [], h⟩⟩ ∧ i ≤ v.s.size ∧ n = v.s.size - i ∧ j = i, ⟨rfl, v.s.size, _, .refl _ _, 0, _, rfl, Nat.zero_le _, rfl, rfl⟩, ?_⟩
  rintro n _ ⟨i, j, rfl, hi, rfl, rfl⟩
  refine Br.mk (fun h1 => ?_) (fun h1 => ?_)
  · have hl : i < v.s.size := by have := of_decide_eq_true h1; omega
    have hix : 0 ≤ (i : Int) ∧ (i : Int).toNat < v.s.size := ⟨by omega, by omega⟩
    refine Br.mk (fun h2 => ?_) (fun h2 => by rw [h1] at h2; cases h2)
    refine Pre.mk (by kernel_rfl) ?_
    refine Pre.mk hix (Pre.mk hix (Br.mk (fun h3 => by rw [lt_ff] at h3; cases h3) (fun _ => ?_)))
    refine Pre.mk (by kernel_rfl) ?_
    refine Pre.mk hix (Pre.mk hix (Br.mk (fun h3 => by rw [gt_ff] at h3; cases h3) (fun _ => ?_)))
    exact ⟨rfl, v.s.size - (i + 1), by omega, _, .refl _ _, i + 1, _, rfl, by omega, rfl, by rw [wrap64] <;> omega⟩
  refine Br.mk (fun h2 => by rw [ne_ff] at h2; cases h2) (fun _ => ?_)
  refine LoopA.mk ⟨⟨[2, 3, 4, 6], 2, 0⟩, fun n st => ∃ (i : Nat) (j : Int), st = ⟨[(2, .c (.loc 0 0)), (3, .c (.loc 1 0)), (4, .c (.v (.int .i64 0))), (6, .c (.v (.int .i64 j)))], ⟨[(25, [.v (.int .i64 v.kind), .v (.int .i64 v.n), .v (.string v.s), .sl 4 (Val.acs v.l)]), (25, [.v (.int .i64 v.kind), .v (.int .i64 v.n), .v (.string v.s), .sl 4 (Val.acs v.l)])], [], h⟩⟩ ∧ i ≤ v.l.length ∧ n = v.l.length - i ∧ j = i, ⟨rfl, v.l.length, _, .refl _ _, 0, _, rfl, Nat.zero_le _, rfl, rfl⟩, ?_⟩
  rintro n _ ⟨i, j, rfl, hi, rfl, rfl⟩
  refine Br.mk (fun h1 => ?_) (fun h1 => ?_)
  · have hlt : i < v.l.length := by have := of_decide_eq_true h1; rw [Val.acs_len] at this; omega
    have hx : v.l[i]? = some v.l[i] := List.getElem?_eq_getElem hlt
    have hmem : v.l[i] ∈ v.l := List.getElem_mem hlt
    refine Br.mk (fun h2 => ?_) (fun h2 => by rw [h1] at h2; cases h2)
    have hI := cmp_refl v.l[i] (oks_mem _ hok.2 _ hmem)
    rw [Val.ac_eq] at hI
    refine Pre.mk (by kernel_rfl) ?_
    refine ⟨_, ⟨by omega, Val.acs_get hx⟩, _, ⟨by omega, Val.acs_get hx⟩, ?_⟩
    refine ⟨_, hI, ?_⟩
    refine Br.mk (fun h3 => by cases h3) (fun _ => ?_)
    exact ⟨rfl, v.l.length - (i + 1), by omega, _, .refl _ _, i + 1, _, rfl, by omega, rfl, by rw [wrap64] <;> have := lt64 hlen <;> omega⟩
  · refine Br.mk (fun h2 => by rw [lt_ff] at h2; cases h2) (fun _ => ?_)
    refine Br.mk (fun h2 => by rw [gt_ff] at h2; cases h2) (fun _ => ?_)
    exact ⟨rfl, rfl⟩
termination_by v
decreasing_by all_goals exact Val.size_mem hmem

theorem same_refl (v : Val) (hok : v.ok) : PureA Try.prog 11 [.agg v.ac, .agg v.ac] (.c (.v (.bool true))) := by
  intro h
  refine callsA_of (D := D1 9 [] [] []) ty_ok mixed Try.func11 rfl (by kernel_rfl) (by kernel_rfl) (by simp [D1]) ?_
  intro g vs hr
  clear hr
  have hc := cmp_refl v hok
  rw [Val.ac_eq] at hc ⊢
  exact ⟨_, hc, rfl, rfl⟩

theorem strF_ok {s : ByteArray} : ∀ (m i : Nat) (out : ByteArray) (v : Val) (next : Nat), out.size ≤ i → i ≤ s.size → strF s m i out = .ok v next → v.s.size ≤ s.size ∧ v.l = []
  | 0, i, out, v, next, ho, hi, h => by simp [strF] at h
  | m + 1, i, out, v, next, ho, hi, h => by
    simp only [strF] at h
    split at h
    · split at h
      · cases h; exact ⟨by show out.size ≤ _; omega, rfl⟩
      · split at h
        · split at h
          · cases h
          · refine strF_ok m _ _ v next ?_ (by omega) h
            simp; omega
        · refine strF_ok m _ _ v next ?_ (by omega) h
          simp; omega
    · cases h
theorem oks_append : ∀ {a b : List Val}, Val.oks a → Val.oks b → Val.oks (a ++ b)
  | [], b, _, h => h
  | x :: a, b, h, k => ⟨h.1, oks_append h.2 k⟩
theorem itemsF_ok {s : ByteArray} {g : Nat → Res} (hg : ∀ q v next, q ≤ s.size → g q = .ok v next → next ≤ s.size ∧ v.ok) : ∀ (n i : Nat) (acc : List Val), i ≤ s.size → Val.oks acc → ∀ v next, itemsF s g n i acc = .ok v next → v.ok
  | 0, i, acc, hi, ha, v, next, h => by simp [itemsF] at h
  | n + 1, i, acc, hi, ha, v, next, h => by
    simp only [itemsF] at h
    by_cases h1 : i < s.size ∧ bt s i = 93
    · rw [if_pos h1] at h
      cases h
      exact ⟨by decide, ha⟩
    · rw [if_neg h1] at h
      by_cases h2 : acc ≠ [] ∧ ¬ (i < s.size ∧ bt s i = 32)
      · rw [if_pos h2] at h; cases h
      · rw [if_neg h2] at h
        have hq : (if acc = [] then i else i + 1) ≤ s.size := by
          split
          · omega
          · rename_i hne
            have : i < s.size ∧ bt s i = 32 := Classical.byContradiction fun hh => h2 ⟨hne, hh⟩
            omega
        cases hr : g (if acc = [] then i else i + 1) with
        | no a e => rw [hr] at h; cases h
        | ok x nx =>
          rw [hr] at h
          obtain ⟨g1, g2⟩ := hg _ x nx hq hr
          exact itemsF_ok hg n nx (acc ++ [x]) g1 (oks_append ha ⟨g2, trivial⟩) v next h
theorem kindS_ok {s : ByteArray} (hs : s.size < 1000000000) {list : Nat → Res} {p : Nat} (hp : p ≤ s.size) (hl : p < s.size → ∀ v next, list p = .ok v next → v.ok) : ∀ v next, kindS s p list = .ok v next → v.ok := by
  intro v next h
  have leaf : ∀ (k n : Int) (str : ByteArray), str.size ≤ s.size → (Val.mk k n str []).ok := fun k n str h => ⟨by omega, trivial⟩
  unfold kindS at h
  by_cases h0 : p = s.size
  · rw [if_pos h0] at h; cases h
  rw [if_neg h0] at h
  by_cases h1 : bt s p = 39
  · rw [if_pos h1] at h
    unfold symS at h
    dsimp only at h
    split at h
    · cases h; exact leaf _ _ _ (by simp; omega)
    · cases h
  rw [if_neg h1] at h
  by_cases h2 : bt s p = 45 ∨ 48 ≤ bt s p ∧ bt s p ≤ 57
  · rw [if_pos h2] at h
    unfold numS at h
    split at h
    · cases h; exact leaf _ _ _ (Nat.zero_le _)
    · cases h
  rw [if_neg h2] at h
  by_cases h3 : bt s p = 34
  · rw [if_pos h3] at h
    have := strF_ok _ (p + 1) ⟨#[]⟩ v next (Nat.zero_le _) (by omega) h
    obtain ⟨k, n, str, l⟩ := v
    obtain ⟨h5, h6⟩ := this
    cases h6
    exact leaf _ _ _ h5
  rw [if_neg h3] at h
  by_cases h4 : bt s p = 91
  · rw [if_pos h4] at h; exact hl (by omega) v next h
  rw [if_neg h4] at h
  unfold wordS at h
  dsimp only at h
  split at h
  · cases h; exact leaf _ _ _ (Nat.zero_le _)
  · split at h
    · cases h; exact leaf _ _ _ (Nat.zero_le _)
    · split at h
      · cases h; exact leaf _ _ _ (Nat.zero_le _)
      · cases h
theorem getS_ok {s : ByteArray} (hs : s.size < 1000000000) : ∀ (d p : Nat), p ≤ s.size → ∀ v next, getS s d p = .ok v next → v.ok
  | 0, p, hp => kindS_ok hs hp fun _ v next h => by cases h
  | d + 1, p, hp => kindS_ok hs hp fun hlt v next h =>
    itemsF_ok (s := s) (g := getS s d) (fun q v next hq h => ⟨((getS_next d q hq).1 v next h).2, getS_ok hs d q hq v next h⟩) _ (p + 1) [] (by omega) trivial v next h
end Go.Proofs.Ytgdgfomoeohdeaa
