/- The codes of a text; the contracts of douaneref01.Codes and Valid (Get's is asked for). -/
import Derived.Test.YtgdgfomoeohdeaaV16
set_option linter.unusedVariables false
set_option linter.unusedSimpArgs false
namespace Go.Proofs.Ytgdgfomoeohdeaa
open Aw

def codesU (s : ByteArray) : Nat → Nat → List Int × Nat
  | 0, p => ([], p)
  | n + 1, p => if p < s.size then match getU s p with
    | none => ([], p)
    | some (c, k) => (c :: (codesU s n (p + k)).1, (codesU s n (p + k)).2)
    else ([], p)
def u8B (s : ByteArray) : Bool := decide ((codesU s s.size 0).2 = s.size)
def rowsI (l : List Int) : List (List AC) := l.map fun c => [AC.v (.int .i64 c)]
def codesAV (r : List Int × Nat) : AV := .tup [.c (.sl 1 (rowsI r.1)), .c (.v (.int .i64 r.2))]
theorem VLe.tup2 {a b a' b' : AV} (h1 : VLe a a') (h2 : VLe b b') : VLe (.tup [a, b]) (.tup [a', b']) := by
  rintro g y ⟨ys, rfl, h⟩
  refine ⟨ys, rfl, ?_⟩
  match ys, h with
  | [_, _], h => exact ⟨h1 _ _ h.1, h2 _ _ h.2.1, trivial⟩
theorem getU_some {s : ByteArray} {p : Nat} {c : Int} {k : Nat} (h : getU s p = some (c, k)) : 1 ≤ k ∧ p + k ≤ s.size ∧ k ≤ 4 := by
  have hfl := firstS_le (bt_nn s p)
  unfold getU at h
  split at h
  · split at h
    · exact absurd h (by simp)
    · rename_i h1 h2
      split at h
      · split at h
        · simp only [Option.some.injEq, Prod.mk.injEq] at h
          obtain ⟨_, h⟩ := h
          omega
        · exact absurd h (by simp)
      · exact absurd h (by simp)
  · exact absurd h (by simp)
theorem rowsI_snoc (acc : List Int) (c : Int) : rowsI (acc ++ [c]) = rowsI acc ++ [[AC.v (.int .i64 c)]] := by simp [rowsI]
def RGetOk : Prop := ∀ (s : ByteArray), s.size < 1000000000 → ∀ p : Nat, p ≤ s.size → PureA Try.prog 81 [.c (.sl 1 (rowsB s)), .c (.v (.int .i64 p))] (getAV (getU s p))

set_option maxRecDepth 4000 in
theorem rcodes_pure (hG : RGetOk) (s : ByteArray) (hs : s.size < 1000000000) : PureA Try.prog 77 [.c (.v (.string s))] (codesAV (codesU s s.size 0)) := by
  refine PureA.le fun h => ?_
  refine callsA_of (D := D1 34 [] [] []) ty_ok mixed Try.func77 rfl (by kernel_rfl) (by kernel_rfl) (by simp [D1]) ?_
  intro g vs hr
  clear hr
  obtain ⟨R, hR⟩ : ∃ R, R = codesU s s.size 0 := ⟨_, rfl⟩
  rw [← hR]
  have leNil : ∀ {e : Nat} {x : Int}, R = ([], e) → x = (e : Int) → VLe (.tup [.c .nil, .c (.v (.int .i64 x))]) (codesAV R) := by
    intro e x h1 h2; subst h1 h2; exact VLe.tup2 (VLe.c (CLe.nil (by decide))) (VLe.refl _)
  have leOwn : ∀ {e : Nat} {x : Int} {acc : List Int}, R = (acc, e) → x = (e : Int) → VLe (.tup [.c (.sl 1 (rowsI acc)), .c (.v (.int .i64 x))]) (codesAV R) := by
    intro e x acc h1 h2; subst h1 h2; exact VLe.refl _
  refine LoopA.mk ⟨⟨[0, 2, 3, 4, 5], 0, 1⟩, fun n st => ∃ (i m : Nat) (j : Int) (acc : List Int), i ≤ s.size ∧ n = s.size - i ∧ j = i ∧ R = (acc ++ (codesU s m i).1, (codesU s m i).2) ∧ s.size - i ≤ m ∧ acc.length ≤ i ∧
      ((acc = [] ∧ st = ⟨[(0, .c (.v (.string s))), (2, .c .nil), (3, .c (.v (.int .i64 0))), (4, .c .nil), (5, .c (.v (.int .i64 j)))], ⟨[], [], h⟩⟩) ∨
       (∃ rows len, rows = rowsI acc ∧ len = acc.length ∧ st = ⟨[(0, .c (.v (.string s))), (2, .c .nil), (3, .c (.v (.int .i64 0))), (4, .c (.own 0 1 rows)), (5, .c (.v (.int .i64 j)))], ⟨[], [(3, 1, len)], h⟩⟩)), ⟨rfl, s.size, _, .refl _ _, 0, s.size, _, [], Nat.zero_le _, rfl, rfl, by rw [hR]; rfl, Nat.le_refl _, Nat.le_refl _, .inl ⟨rfl, rfl⟩⟩, ?_⟩
  rintro n _ ⟨i, m, j, acc, hi, rfl, rfl, hRF, hm, hacc, hst⟩
  have hend : ¬ i < s.size → R = (acc, i) := fun hn => by
    rw [hRF]; cases m with
    | zero => simp [codesU]
    | succ m => simp only [codesU]; rw [if_neg hn]; simp
  have hno : i < s.size → getU s i = none → R = (acc, i) := fun hl hg => by
    obtain ⟨m, rfl⟩ : ∃ m', m = m' + 1 := ⟨m - 1, by omega⟩
    rw [hRF]; simp only [codesU]; rw [if_pos hl, hg]; simp
  have hyes : ∀ c k, i < s.size → getU s i = some (c, k) → ∃ m', m = m' + 1 ∧ R = ((acc ++ [c]) ++ (codesU s m' (i + k)).1, (codesU s m' (i + k)).2) := fun c k hl hg => by
    obtain ⟨m, rfl⟩ : ∃ m', m = m' + 1 := ⟨m - 1, by omega⟩
    refine ⟨m, rfl, ?_⟩
    rw [hRF]; simp only [codesU]; rw [if_pos hl, hg]; simp
  have hconv : s.size ≤ lenMax := by unfold lenMax; omega
  have hget := hG s hs i hi
  have hpre : ∀ len : Nat, len ≤ i → 3 = 3 ∧ 1 = 1 ∧ 1 = 1 ∧ len = len ∧ (len + 1) * 8 ≤ lenMax ∧ len + 1 ≤ lenMax := fun len h => ⟨rfl, rfl, rfl, rfl, by unfold lenMax; omega, by unfold lenMax; omega⟩
  have hpre0 : 0 < 1 ∧ 1 * 8 ≤ lenMax ∧ 1 ≤ lenMax := by unfold lenMax; omega
  rcases hst with ⟨rfl, rfl⟩ | ⟨rows, len, rfl, rfl, rfl⟩
  · refine Br.mk (fun h1 => ?_) (fun h1 => ?_)
    · have hl : i < s.size := by have := of_decide_eq_true h1; omega
      cases hg : getU s i with
      | none =>
        rw [hg] at hget
        exact Pre.mk hconv ⟨_, hget, Br.mk (fun _ => ⟨⟨_, rfl, leNil (hno hl hg) rfl⟩, rfl⟩) (fun h => by cases h)⟩
      | some ck =>
        obtain ⟨c, k⟩ := ck
        rw [hg] at hget
        obtain ⟨m', rfl, hR'⟩ := hyes c k hl hg
        have hk := getU_some hg
        refine Pre.mk hconv ⟨_, hget, Br.mk (fun h => by cases h) (fun _ => Pre.mk hpre0 ?_)⟩
        exact ⟨rfl, s.size - (i + k), by omega, _, .refl _ _, i + k, m', _, [c], by omega, rfl, by rw [wrap64] <;> omega, hR', by omega, by simp; omega, .inr ⟨_, _, rfl, rfl, rfl⟩⟩
    · exact ⟨⟨_, rfl, leNil (hend (by have := of_decide_eq_false h1; omega)) rfl⟩, rfl⟩
  · refine Br.mk (fun h1 => ?_) (fun h1 => ?_)
    · have hl : i < s.size := by have := of_decide_eq_true h1; omega
      cases hg : getU s i with
      | none =>
        rw [hg] at hget
        exact Pre.mk hconv ⟨_, hget, Br.mk (fun _ => ⟨⟨_, rfl, leOwn (hno hl hg) rfl⟩, rfl⟩) (fun h => by cases h)⟩
      | some ck =>
        obtain ⟨c, k⟩ := ck
        rw [hg] at hget
        obtain ⟨m', rfl, hR'⟩ := hyes c k hl hg
        have hk := getU_some hg
        have hp := hpre acc.length hacc
        refine Pre.mk hconv ⟨_, hget, Br.mk (fun h => by cases h) (fun _ => Pre.mk ⟨rfl, rfl, rfl, by simp [rowsI], hp.2.2.2.2⟩ ?_)⟩
        exact ⟨rfl, s.size - (i + k), by omega, _, .refl _ _, i + k, m', _, acc ++ [c], by omega, rfl, by rw [wrap64] <;> omega, hR', by omega, by simp; omega, .inr ⟨_, _, (rowsI_snoc acc c).symm, by simp, rfl⟩⟩
    · exact ⟨⟨_, rfl, leOwn (hend (by have := of_decide_eq_false h1; omega)) rfl⟩, rfl⟩

theorem rvalid_pure (hG : RGetOk) : RValidOk u8B := by
  intro s hs h
  refine callsA_of (D := D1 14 [] [] []) ty_ok mixed Try.func66 rfl (by kernel_rfl) (by kernel_rfl) (by simp [D1]) ?_
  intro g vs hr
  clear hr
  have hc := rcodes_pure hG s (by omega)
  refine ⟨_, hc, ret_b ?_, rfl⟩
  unfold u8B
  by_cases e : (codesU s s.size 0).2 = s.size
  · rw [decide_eq_true e, e]; simp
  · rw [decide_eq_false e]; simp; omega
end Go.Proofs.Ytgdgfomoeohdeaa
