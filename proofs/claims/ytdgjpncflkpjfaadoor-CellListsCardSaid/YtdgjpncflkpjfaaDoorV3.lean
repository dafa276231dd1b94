/- The contracts of package num: digits, read. -/
import Derived.Test.YtdgjpncflkpjfaaDoorV1
set_option linter.unusedVariables false
set_option linter.unusedSimpArgs false
namespace Go.Proofs.YtdgjpncflkpjfaaDoor
open Aw

def digB (c : Int) : Bool := decide (48 ≤ c) && decide (c ≤ 57)
def runF (s : ByteArray) : Nat → Nat → Nat
  | 0, _ => 0
  | f + 1, p => if p < s.size ∧ digB (bt s p) = true then runF s f (p + 1) + 1 else 0
/-- How many digits stand at a place. -/
def runs (s : ByteArray) (p : Nat) : Nat := runF s (s.size - p) p

theorem runF_eq (s : ByteArray) : ∀ (f p n : Nat), s.size - p ≤ f → (∀ k, k < n → p + k < s.size ∧ digB (bt s (p + k : Nat)) = true) → ¬ (p + n < s.size ∧ digB (bt s (p + n : Nat)) = true) → runF s f p = n
  | 0, p, n, hf, h1, h2 => by
    cases n with
    | zero => rfl
    | succ n => have := (h1 0 (by omega)).1; omega
  | f + 1, p, n, hf, h1, h2 => by
    simp only [runF]
    cases n with
    | zero => rw [if_neg (by simpa using h2)]
    | succ n =>
      rw [if_pos (by simpa using h1 0 (by omega))]
      rw [runF_eq s f (p + 1) n (by omega) (fun k hk => by have := h1 (k + 1) (by omega); rwa [show p + 1 + k = p + (k + 1) by omega]) (by rwa [show p + 1 + n = p + (n + 1) by omega])]
theorem runs_eq {s : ByteArray} {p n : Nat} (h1 : ∀ k, k < n → p + k < s.size ∧ digB (bt s (p + k : Nat)) = true) (h2 : ¬ (p + n < s.size ∧ digB (bt s (p + n : Nat)) = true)) : runs s p = n := runF_eq s _ p n (Nat.le_refl _) h1 h2
theorem runF_spec (s : ByteArray) : ∀ (f p : Nat), s.size - p ≤ f → (∀ k, k < runF s f p → p + k < s.size ∧ digB (bt s (p + k : Nat)) = true) ∧ ¬ (p + runF s f p < s.size ∧ digB (bt s (p + runF s f p : Nat)) = true)
  | 0, p, hf => by simp [runF]; intro h; omega
  | f + 1, p, hf => by
    simp only [runF]
    by_cases h : p < s.size ∧ digB (bt s p) = true
    · rw [if_pos h]
      obtain ⟨h1, h2⟩ := runF_spec s f (p + 1) (by omega)
      refine ⟨fun k hk => ?_, ?_⟩
      · cases k with
        | zero => exact h
        | succ k => have := h1 k (by omega); rwa [show p + 1 + k = p + (k + 1) by omega] at this
      · rwa [show p + 1 + runF s f (p + 1) = p + (runF s f (p + 1) + 1) by omega] at h2
    · rw [if_neg h]; exact ⟨by simp, h⟩
theorem runs_spec (s : ByteArray) (p : Nat) : (∀ k, k < runs s p → p + k < s.size ∧ digB (bt s (p + k : Nat)) = true) ∧ ¬ (p + runs s p < s.size ∧ digB (bt s (p + runs s p : Nat)) = true) := runF_spec s _ p (Nat.le_refl _)
theorem runs_le {s : ByteArray} {p : Nat} (hp : p ≤ s.size) : p + runs s p ≤ s.size := by
  have := (runs_spec s p).1
  cases hr : runs s p with
  | zero => omega
  | succ n => have := (this n (by omega)).1; omega

set_option maxRecDepth 4000 in
theorem run_pure (s : ByteArray) (p : Nat) (hs : s.size < 1000000000) (hp : p ≤ s.size) : PureA Tryd.prog 100 [.c (.v (.string s)), .c (.v (.int .i64 p))] (.c (.v (.int .i64 (runs s p)))) := by
  intro h
  refine callsA_of (D := D1 31 [] [] [12, 20]) ty_ok mixed Tryd.func100 rfl (by kernel_rfl) (by kernel_rfl) (by simp [D1]) ?_
  intro g vs hr
  clear hr
  refine LoopA.mk ⟨⟨[0, 1, 4, 5], 0, 0⟩, fun n st => ∃ (i : Nat) (j : Int), st = ⟨[(0, .c (.v (.string s))), (1, .c (.v (.int .i64 p))), (4, .c (.v (.int .i64 0))), (5, .c (.v (.int .i64 j)))], ⟨[], [], h⟩⟩ ∧ n = s.size - p - i ∧ j = i ∧ ∀ k, k < i → p + k < s.size ∧ digB (bt s (p + k : Nat)) = true, ⟨rfl, s.size - p, _, .refl _ _, 0, _, rfl, by simp, rfl, by simp⟩, ?_⟩
  rintro n _ ⟨i, j, rfl, rfl, rfl, hall⟩
  have hle : p + i ≤ s.size := by
    cases i with
    | zero => omega
    | succ n => have := (hall n (by omega)).1; omega
  have hw : IntKind.i64.wrap ((p : Int) + i) = (p + i : Nat) := by rw [wrap64] <;> omega
  have stopd : ¬ (p + i < s.size ∧ digB (bt s (p + i : Nat)) = true) → AEnd.ret (AV.c (.v (.int .i64 (i : Int)))) = AEnd.ret (.c (.v (.int .i64 (runs s p)))) := fun hn => ret_i (by rw [runs_eq hall hn])
  refine Br.mk (fun hb => ?_) (fun hb => ?_)
  · rw [hw] at hb
    have hlt : p + i < s.size := by have := of_decide_eq_true hb; omega
    refine ⟨by rw [hw]; exact ⟨by omega, by simp; omega⟩, ?_⟩
    refine Br.mk (fun hb2 => ?_) (fun hb2 => ?_)
    · rw [hw] at hb2
      refine ⟨by rw [hw]; exact ⟨by omega, by simp; omega⟩, ?_⟩
      refine Br.mk (fun hb3 => ?_) (fun hb3 => ?_)
      · rw [hw] at hb3
        refine ⟨rfl, s.size - p - (i + 1), by omega, _, .refl _ _, i + 1, _, rfl, rfl, ?_, ?_⟩
        · rw [wrap64] <;> omega
        · intro k hk
          by_cases e : k = i
          · subst e; exact ⟨hlt, by unfold digB; exact Bool.and_eq_true_iff.2 ⟨hb2, hb3⟩⟩
          · exact hall k (by omega)
      · rw [hw] at hb3
        exact ⟨stopd fun hn => (by have := hn.2; unfold digB at this; rw [hb3] at this; simp at this), rfl⟩
    · rw [hw] at hb2
      exact ⟨stopd fun hn => (by
        have := hn.2
        unfold digB at this
        have h2 : decide (48 ≤ bt s (p + i : Nat)) = false := hb2
        rw [h2] at this; simp at this), rfl⟩
  · rw [hw] at hb
    exact ⟨stopd fun hn => (by have := hn.1; have := of_decide_eq_false hb; omega), rfl⟩

/-- The number that the first digits say. -/
def valN (s : ByteArray) : Nat → Nat
  | 0 => 0
  | i + 1 => valN s i * 10 + (bt s i - 48).toNat
def negB (s : ByteArray) : Bool := decide (s.size ≠ 0) && (bt s 0 == 45)
def bodyB (s : ByteArray) : ByteArray := if negB s then s.extract 1 s.size else s
def badB (d : ByteArray) (neg : Bool) : Bool := decide (d.size = 0) || decide (runs d 0 ≠ d.size) || (decide (bt d 0 = 48) && (decide (1 < d.size) || neg))
def mostN (neg : Bool) : Nat := if neg then 9223372036854775808 else 9223372036854775807
def parseS (s : ByteArray) : Int × Int :=
  if badB (bodyB s) (negB s) then (0, 2)
  else if mostN (negB s) < valN (bodyB s) (bodyB s).size then (0, 5)
  else (if negB s then -(valN (bodyB s) (bodyB s).size : Int) else valN (bodyB s) (bodyB s).size, 0)

theorem valN_mono (s : ByteArray) (i : Nat) : ∀ k, valN s i ≤ valN s (i + k)
  | 0 => Nat.le_refl _
  | k + 1 => by have := valN_mono s i k; show _ ≤ valN s (i + k) * 10 + _; omega

theorem ret2 {k k' : IntKind} {x x' y y' : Int} (h : (x, x') = (y, y')) : AEnd.ret (.tup [.c (.v (.int k x)), .c (.v (.int k' x'))]) = .ret (.tup [.c (.v (.int k y)), .c (.v (.int k' y'))]) := by cases h; rfl

theorem toList_empty' {s : ByteArray} : (s.toList == ByteArray.toList ⟨#[]⟩) = true ↔ s.size = 0 := by
  rw [toList_empty]; exact decide_eq_true_iff
theorem u64neg {m : Nat} (h : m ≤ 9223372036854775808) : IntKind.i64.wrap (IntKind.u64.wrap (-(m : Int))) = -(m : Int) := by
  show (if decide ((-(m : Int) % 18446744073709551616) % 18446744073709551616 ≥ 9223372036854775808) = true then (-(m : Int) % 18446744073709551616) % 18446744073709551616 - 18446744073709551616 else (-(m : Int) % 18446744073709551616) % 18446744073709551616) = _
  simp only [decide_eq_true_eq]
  split <;> omega
theorem parseS_bad {s d : ByteArray} {neg : Bool} (hN : negB s = neg) (hB : bodyB s = d) (h : badB d neg = true) : parseS s = (0, 2) := by
  unfold parseS; rw [hN, hB, if_pos h]
theorem parseS_big {s d : ByteArray} {neg : Bool} (hN : negB s = neg) (hB : bodyB s = d) (h : badB d neg = false) (hm : mostN neg < valN d d.size) : parseS s = (0, 5) := by
  unfold parseS; rw [hN, hB, if_neg (by simp [h]), if_pos hm]
theorem parseS_ok {s d : ByteArray} {neg : Bool} (hN : negB s = neg) (hB : bodyB s = d) (h : badB d neg = false) (hm : valN d d.size ≤ mostN neg) : parseS s = (if neg then -(valN d d.size : Int) else valN d d.size, 0) := by
  unfold parseS; rw [hN, hB, if_neg (by simp [h]), if_neg (by omega)]
theorem mostN_le (neg : Bool) : mostN neg ≤ 9223372036854775808 := by cases neg <;> decide
theorem mostN_ge (neg : Bool) : 9223372036854775807 ≤ mostN neg := by cases neg <;> decide

set_option maxRecDepth 8000 in
theorem parse_pure (s : ByteArray) (hs : s.size < 1000000000) : PureA Tryd.prog 99 [.c (.v (.string s))] (.tup [.c (.v (.int .i64 (parseS s).1)), .c (.v (.int .i64 (parseS s).2))]) := by
  intro h
  refine callsA_of (D := D1 72 [] [] [12, 16, 23, 30, 34, 38]) ty_ok mixed Tryd.func99 rfl (by kernel_rfl) (by kernel_rfl) (by simp [D1]) ?_
  intro g vs hr
  clear hr
  refine Br.mk (fun h1 => ?_) (fun h1 => ?_)
  · have hne : s.size ≠ 0 := by rw [toList_ne] at h1; exact of_decide_eq_true h1
    refine ⟨⟨by omega, by simp; omega⟩, ?_⟩
    refine Br.mk (fun h2 => ?_) (fun h2 => ?_)
    · have hN : negB s = true := by unfold negB; rw [h2, decide_eq_true hne]; rfl
      have hB : bodyB s = s.extract (Int.toNat 1) s.size := by unfold bodyB; rw [hN]; rfl
      have hsz : (s.extract (Int.toNat 1) s.size).size < 1000000000 := by simp; omega
      refine ⟨⟨by omega, by omega⟩, ?_⟩
      refine Br.mk (fun h3 => ?_) (fun h3 => ?_)
      · have hz : (s.extract (Int.toNat 1) s.size).size = 0 := by exact toList_empty'.1 h3
        exact ⟨ret2 (parseS_bad hN hB (by simp only [badB, hz]; rfl)).symm, rfl⟩
      have hz : (s.extract (Int.toNat 1) s.size).size ≠ 0 := by intro e; rw [toList_empty'.2 e] at h3; cases h3
      refine ⟨_, run_pure (s.extract (Int.toNat 1) s.size) 0 hsz (Nat.zero_le _), ?_⟩
      refine Br.mk (fun h4 => ?_) (fun h4 => ?_)
      · have h4 : runs (s.extract (Int.toNat 1) s.size) 0 ≠ (s.extract (Int.toNat 1) s.size).size := by intro e; rw [e] at h4; simp at h4
        exact ⟨ret2 (parseS_bad hN hB (by unfold badB; rw [decide_eq_true h4]; simp)).symm, rfl⟩
      have h4 : runs (s.extract (Int.toNat 1) s.size) 0 = (s.extract (Int.toNat 1) s.size).size := by have := (bne_eq_false_iff_eq.1 h4); omega
      refine ⟨⟨by omega, by show 0 < (s.extract (Int.toNat 1) s.size).size; omega⟩, ?_⟩
      have loopOk : badB (s.extract (Int.toNat 1) s.size) true = false → True := fun _ => trivial
      refine Br.mk (fun h5 => ?_) (fun h5 => ?_)
      · have h5 : bt (s.extract (Int.toNat 1) s.size) 0 = 48 := by simpa using h5
        refine Br.mk (fun h6 => ?_) (fun h6 => ?_)
        · have h6 : 1 < (s.extract (Int.toNat 1) s.size).size := by have := of_decide_eq_true h6; omega
          exact ⟨ret2 (parseS_bad hN hB (by unfold badB; rw [decide_eq_true h6, decide_eq_true h5]; simp)).symm, rfl⟩
        · have h6 : ¬ 1 < (s.extract (Int.toNat 1) s.size).size := by have := of_decide_eq_false h6; omega
          exact ⟨ret2 (parseS_bad hN hB (by unfold badB; rw [decide_eq_true h5]; simp)).symm, rfl⟩
      · have h5 : ¬ bt (s.extract (Int.toNat 1) s.size) 0 = 48 := by simpa using h5
        have hbad : badB (s.extract (Int.toNat 1) s.size) true = false := by unfold badB; rw [decide_eq_false h5, decide_eq_false hz, h4]; simp
        refine LoopA.mk ⟨⟨[2, 3, 4, 5, 6, 7, 47, 48], 0, 0⟩, fun n st => ∃ (i : Nat) (j m b : Int), st = ⟨[(2, .c (.v (.int .i64 0))), (3, .c (.v (.int .i64 0))), (4, .c .tt), (5, .c (.v (.string (s.extract (Int.toNat 1) s.size)))), (6, .c (.v (.int .u64 b))), (7, .c (.v (.int .u64 m))), (47, .c (.v (.int .i64 (s.extract (Int.toNat 1) s.size).size))), (48, .c (.v (.int .i64 j)))], ⟨[], [], h⟩⟩ ∧ i ≤ (s.extract (Int.toNat 1) s.size).size ∧ n = (s.extract (Int.toNat 1) s.size).size - i ∧ j = i ∧ m = valN (s.extract (Int.toNat 1) s.size) i ∧ b = mostN true ∧ valN (s.extract (Int.toNat 1) s.size) i ≤ mostN true, ⟨rfl, (s.extract (Int.toNat 1) s.size).size, _, .refl _ _, 0, _, _, _, rfl, Nat.zero_le _, rfl, rfl, rfl, by first | rfl | decide, Nat.zero_le _⟩, ?_⟩
        rintro n _ ⟨i, j, m, b, rfl, hi, rfl, rfl, rfl, rfl, hle⟩
        have hmx := mostN_le true
        have hmg := mostN_ge true
        refine Br.mk (fun hb => ?_) (fun hb => ?_)
        · have hlt : i < (s.extract (Int.toNat 1) s.size).size := by have := of_decide_eq_true hb; omega
          have hdig := (runs_spec (s.extract (Int.toNat 1) s.size) 0).1 i (by omega)
          rw [Nat.zero_add] at hdig
          have hdig := hdig.2
          unfold digB at hdig
          rw [Bool.and_eq_true] at hdig
          have d1 := of_decide_eq_true hdig.1
          have d2 := of_decide_eq_true hdig.2
          have hv : valN (s.extract (Int.toNat 1) s.size) (i + 1) = valN (s.extract (Int.toNat 1) s.size) i * 10 + (bt (s.extract (Int.toNat 1) s.size) i - 48).toNat := rfl
          have e0 : IntKind.u64.wrap (IntKind.u8.wrap (bt (s.extract (Int.toNat 1) s.size) i - 48)) = bt (s.extract (Int.toNat 1) s.size) i - 48 := by rw [wrapu8 (by omega) (by omega), wrapu64 (by omega) (by omega)]
          have e1 : IntKind.u64.wrap ((IntKind.u64.wrap ((mostN true : Int) - IntKind.u64.wrap (IntKind.u8.wrap (bt (s.extract (Int.toNat 1) s.size) i - 48)))).tdiv 10) = ((mostN true : Int) - (bt (s.extract (Int.toNat 1) s.size) i - 48)) / 10 := by
            rw [e0, wrapu64 (x := (mostN true : Int) - (bt (s.extract (Int.toNat 1) s.size) i - 48)) (by omega) (by omega), Int.tdiv_eq_ediv_of_nonneg (by omega), wrapu64 (by omega) (by omega)]
          refine ⟨⟨by omega, by show i < (s.extract (Int.toNat 1) s.size).size; omega⟩, ⟨by decide, ?_⟩⟩
          refine Br.mk (fun h9 => ?_) (fun h9 => ?_)
          · rw [e1] at h9
            have h9 := of_decide_eq_true h9
            have := valN_mono (s.extract (Int.toNat 1) s.size) (i + 1) ((s.extract (Int.toNat 1) s.size).size - (i + 1))
            rw [show i + 1 + ((s.extract (Int.toNat 1) s.size).size - (i + 1)) = (s.extract (Int.toNat 1) s.size).size by omega] at this
            exact ⟨ret2 (parseS_big hN hB hbad (by omega)).symm, rfl⟩
          · rw [e1] at h9
            have h9 := of_decide_eq_false h9
            refine ⟨rfl, (s.extract (Int.toNat 1) s.size).size - (i + 1), by omega, _, .refl _ _, i + 1, _, _, _, rfl, by omega, rfl, ?_, ?_, rfl, by omega⟩
            · rw [wrap64] <;> omega
            · rw [e0, wrapu64 (x := (valN (s.extract (Int.toNat 1) s.size) i : Int) * 10) (by omega) (by omega), wrapu64 (by omega) (by omega), hv]; omega
        · have he : i = (s.extract (Int.toNat 1) s.size).size := by have := of_decide_eq_false hb; omega
          subst he
          exact ⟨ret2 ((parseS_ok hN hB hbad hle).trans (by
            show ((if true = true then -(valN (s.extract (Int.toNat 1) s.size) (s.extract (Int.toNat 1) s.size).size : Int) else (valN (s.extract (Int.toNat 1) s.size) (s.extract (Int.toNat 1) s.size).size : Int)), (0 : Int)) = _
            have hq : valN (s.extract (Int.toNat 1) s.size) (s.extract (Int.toNat 1) s.size).size ≤ mostN true := hle
            rw [if_pos rfl, Int.zero_sub, u64neg (by omega)])).symm, rfl⟩
    · have hN : negB s = false := by unfold negB; rw [h2]; simp
      have hB : bodyB s = s := by unfold bodyB; rw [hN]; rfl
      have hsz := hs
      refine Br.mk (fun h3 => ?_) (fun h3 => ?_)
      · have hz : (s).size = 0 := by exact toList_empty'.1 h3
        exact ⟨ret2 (parseS_bad hN hB (by simp only [badB, hz]; rfl)).symm, rfl⟩
      have hz : (s).size ≠ 0 := by intro e; rw [toList_empty'.2 e] at h3; cases h3
      refine ⟨_, run_pure (s) 0 hsz (Nat.zero_le _), ?_⟩
      refine Br.mk (fun h4 => ?_) (fun h4 => ?_)
      · have h4 : runs (s) 0 ≠ (s).size := by intro e; rw [e] at h4; simp at h4
        exact ⟨ret2 (parseS_bad hN hB (by unfold badB; rw [decide_eq_true h4]; simp)).symm, rfl⟩
      have h4 : runs (s) 0 = (s).size := by have := (bne_eq_false_iff_eq.1 h4); omega
      refine ⟨⟨by omega, by show 0 < (s).size; omega⟩, ?_⟩
      have loopOk : badB (s) false = false → True := fun _ => trivial
      refine Br.mk (fun h5 => ?_) (fun h5 => ?_)
      · have h5 : bt (s) 0 = 48 := by simpa using h5
        refine Br.mk (fun h6 => ?_) (fun h6 => ?_)
        · have h6 : 1 < (s).size := by have := of_decide_eq_true h6; omega
          exact ⟨ret2 (parseS_bad hN hB (by unfold badB; rw [decide_eq_true h6, decide_eq_true h5]; simp)).symm, rfl⟩
        · have h6 : ¬ 1 < (s).size := by have := of_decide_eq_false h6; omega
          have hbad : badB (s) false = false := by unfold badB; rw [decide_eq_false h6, decide_eq_false hz, h4]; simp
          refine LoopA.mk ⟨⟨[2, 3, 4, 5, 6, 7, 47, 48], 0, 0⟩, fun n st => ∃ (i : Nat) (j m b : Int), st = ⟨[(2, .c (.v (.int .i64 0))), (3, .c (.v (.int .i64 0))), (4, .c .ff), (5, .c (.v (.string (s)))), (6, .c (.v (.int .u64 b))), (7, .c (.v (.int .u64 m))), (47, .c (.v (.int .i64 (s).size))), (48, .c (.v (.int .i64 j)))], ⟨[], [], h⟩⟩ ∧ i ≤ (s).size ∧ n = (s).size - i ∧ j = i ∧ m = valN (s) i ∧ b = mostN false ∧ valN (s) i ≤ mostN false, ⟨rfl, (s).size, _, .refl _ _, 0, _, _, _, rfl, Nat.zero_le _, rfl, rfl, rfl, by first | rfl | decide, Nat.zero_le _⟩, ?_⟩
          rintro n _ ⟨i, j, m, b, rfl, hi, rfl, rfl, rfl, rfl, hle⟩
          have hmx := mostN_le false
          have hmg := mostN_ge false
          refine Br.mk (fun hb => ?_) (fun hb => ?_)
          · have hlt : i < (s).size := by have := of_decide_eq_true hb; omega
            have hdig := (runs_spec (s) 0).1 i (by omega)
            rw [Nat.zero_add] at hdig
            have hdig := hdig.2
            unfold digB at hdig
            rw [Bool.and_eq_true] at hdig
            have d1 := of_decide_eq_true hdig.1
            have d2 := of_decide_eq_true hdig.2
            have hv : valN (s) (i + 1) = valN (s) i * 10 + (bt (s) i - 48).toNat := rfl
            have e0 : IntKind.u64.wrap (IntKind.u8.wrap (bt (s) i - 48)) = bt (s) i - 48 := by rw [wrapu8 (by omega) (by omega), wrapu64 (by omega) (by omega)]
            have e1 : IntKind.u64.wrap ((IntKind.u64.wrap ((mostN false : Int) - IntKind.u64.wrap (IntKind.u8.wrap (bt (s) i - 48)))).tdiv 10) = ((mostN false : Int) - (bt (s) i - 48)) / 10 := by
              rw [e0, wrapu64 (x := (mostN false : Int) - (bt (s) i - 48)) (by omega) (by omega), Int.tdiv_eq_ediv_of_nonneg (by omega), wrapu64 (by omega) (by omega)]
            refine ⟨⟨by omega, by show i < (s).size; omega⟩, ⟨by decide, ?_⟩⟩
            refine Br.mk (fun h9 => ?_) (fun h9 => ?_)
            · rw [e1] at h9
              have h9 := of_decide_eq_true h9
              have := valN_mono (s) (i + 1) ((s).size - (i + 1))
              rw [show i + 1 + ((s).size - (i + 1)) = (s).size by omega] at this
              exact ⟨ret2 (parseS_big hN hB hbad (by omega)).symm, rfl⟩
            · rw [e1] at h9
              have h9 := of_decide_eq_false h9
              refine ⟨rfl, (s).size - (i + 1), by omega, _, .refl _ _, i + 1, _, _, _, rfl, by omega, rfl, ?_, ?_, rfl, by omega⟩
              · rw [wrap64] <;> omega
              · rw [e0, wrapu64 (x := (valN (s) i : Int) * 10) (by omega) (by omega), wrapu64 (by omega) (by omega), hv]; omega
          · have he : i = (s).size := by have := of_decide_eq_false hb; omega
            subst he
            exact ⟨ret2 ((parseS_ok hN hB hbad hle).trans (by
              show ((if false = true then -(valN (s) (s).size : Int) else (valN (s) (s).size : Int)), (0 : Int)) = _
              have hq : valN (s) (s).size ≤ mostN false := hle
              rw [if_neg (by decide), wrap64 (by omega) (by have : _ ≤ (9223372036854775807 : Nat) := hq; omega)])).symm, rfl⟩
      · have h5 : ¬ bt (s) 0 = 48 := by simpa using h5
        have hbad : badB (s) false = false := by unfold badB; rw [decide_eq_false h5, decide_eq_false hz, h4]; simp
        refine LoopA.mk ⟨⟨[2, 3, 4, 5, 6, 7, 47, 48], 0, 0⟩, fun n st => ∃ (i : Nat) (j m b : Int), st = ⟨[(2, .c (.v (.int .i64 0))), (3, .c (.v (.int .i64 0))), (4, .c .ff), (5, .c (.v (.string (s)))), (6, .c (.v (.int .u64 b))), (7, .c (.v (.int .u64 m))), (47, .c (.v (.int .i64 (s).size))), (48, .c (.v (.int .i64 j)))], ⟨[], [], h⟩⟩ ∧ i ≤ (s).size ∧ n = (s).size - i ∧ j = i ∧ m = valN (s) i ∧ b = mostN false ∧ valN (s) i ≤ mostN false, ⟨rfl, (s).size, _, .refl _ _, 0, _, _, _, rfl, Nat.zero_le _, rfl, rfl, rfl, by first | rfl | decide, Nat.zero_le _⟩, ?_⟩
        rintro n _ ⟨i, j, m, b, rfl, hi, rfl, rfl, rfl, rfl, hle⟩
        have hmx := mostN_le false
        have hmg := mostN_ge false
        refine Br.mk (fun hb => ?_) (fun hb => ?_)
        · have hlt : i < (s).size := by have := of_decide_eq_true hb; omega
          have hdig := (runs_spec (s) 0).1 i (by omega)
          rw [Nat.zero_add] at hdig
          have hdig := hdig.2
          unfold digB at hdig
          rw [Bool.and_eq_true] at hdig
          have d1 := of_decide_eq_true hdig.1
          have d2 := of_decide_eq_true hdig.2
          have hv : valN (s) (i + 1) = valN (s) i * 10 + (bt (s) i - 48).toNat := rfl
          have e0 : IntKind.u64.wrap (IntKind.u8.wrap (bt (s) i - 48)) = bt (s) i - 48 := by rw [wrapu8 (by omega) (by omega), wrapu64 (by omega) (by omega)]
          have e1 : IntKind.u64.wrap ((IntKind.u64.wrap ((mostN false : Int) - IntKind.u64.wrap (IntKind.u8.wrap (bt (s) i - 48)))).tdiv 10) = ((mostN false : Int) - (bt (s) i - 48)) / 10 := by
            rw [e0, wrapu64 (x := (mostN false : Int) - (bt (s) i - 48)) (by omega) (by omega), Int.tdiv_eq_ediv_of_nonneg (by omega), wrapu64 (by omega) (by omega)]
          refine ⟨⟨by omega, by show i < (s).size; omega⟩, ⟨by decide, ?_⟩⟩
          refine Br.mk (fun h9 => ?_) (fun h9 => ?_)
          · rw [e1] at h9
            have h9 := of_decide_eq_true h9
            have := valN_mono (s) (i + 1) ((s).size - (i + 1))
            rw [show i + 1 + ((s).size - (i + 1)) = (s).size by omega] at this
            exact ⟨ret2 (parseS_big hN hB hbad (by omega)).symm, rfl⟩
          · rw [e1] at h9
            have h9 := of_decide_eq_false h9
            refine ⟨rfl, (s).size - (i + 1), by omega, _, .refl _ _, i + 1, _, _, _, rfl, by omega, rfl, ?_, ?_, rfl, by omega⟩
            · rw [wrap64] <;> omega
            · rw [e0, wrapu64 (x := (valN (s) i : Int) * 10) (by omega) (by omega), wrapu64 (by omega) (by omega), hv]; omega
        · have he : i = (s).size := by have := of_decide_eq_false hb; omega
          subst he
          exact ⟨ret2 ((parseS_ok hN hB hbad hle).trans (by
            show ((if false = true then -(valN (s) (s).size : Int) else (valN (s) (s).size : Int)), (0 : Int)) = _
            have hq : valN (s) (s).size ≤ mostN false := hle
            rw [if_neg (by decide), wrap64 (by omega) (by have : _ ≤ (9223372036854775807 : Nat) := hq; omega)])).symm, rfl⟩
  · have hz : s.size = 0 := by rw [toList_ne] at h1; simpa using h1
    have hN : negB s = false := by unfold negB; simp [hz]
    have hB : bodyB s = s := by unfold bodyB; rw [hN]; rfl
    refine Br.mk (fun h3 => ?_) (fun h3 => ?_)
    · exact ⟨ret2 (parseS_bad hN hB (by simp [badB, hz])).symm, rfl⟩
    · rw [toList_empty] at h3; simp [hz] at h3
end Go.Proofs.YtdgjpncflkpjfaaDoor
