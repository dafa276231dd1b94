/- The contracts of douaneref02: digits, read the document's way. -/
import Derived.Test.YtgdgfomoeohdeaaV4
set_option linter.unusedVariables false
set_option linter.unusedSimpArgs false
namespace Go.Proofs.Ytgdgfomoeohdeaa
open Aw

theorem bt_extract {s : ByteArray} {a b k : Nat} (hb : b ≤ s.size) (hk : a + k < b) : bt (s.extract a b) k = bt s (a + k : Nat) := by
  unfold bt
  have h : (s.extract a b).data.toList = (s.data.toList.drop a).take (b - a) := by
    simp [ByteArray.data_extract, List.take_drop, List.extract_eq_take_drop]
  rw [Int.toNat_natCast, Int.toNat_natCast, h]
  have : ((s.data.toList.drop a).take (b - a))[k]? = s.data.toList[a + k]? := by
    rw [List.getElem?_take, if_pos (by omega), List.getElem?_drop]
  simp only [List.getD_eq_getElem?_getD, this]
theorem tdivneg {x : Int} (h : 0 ≤ x) : (-x).tdiv 10 = -(x / 10) := by
  rw [Int.neg_tdiv, Int.tdiv_eq_ediv_of_nonneg h]

set_option maxRecDepth 8000 in
theorem rparse_pure (s : ByteArray) (hs : s.size < 1000000000) : PureA Try.prog 65 [.c (.v (.string s))] (.tup [.c (.v (.int .i64 (parseS s).1)), .c (.v (.int .i64 (parseS s).2))]) := by
  intro h
  refine callsA_of (D := D1 78 [] [] [13, 33, 43]) ty_ok mixed Try.func65 rfl (by kernel_rfl) (by kernel_rfl) (by simp [D1]) ?_
  intro g vs hr
  clear hr
  refine Br.mk (fun h1 => ?_) (fun h1 => ?_)
  · have hne : s.size ≠ 0 := by have := of_decide_eq_true h1; omega
    refine ⟨⟨by omega, by simp; omega⟩, ?_⟩
    refine Br.mk (fun h2 => ?_) (fun h2 => ?_)
    · obtain ⟨d, hd⟩ : ∃ d, d = s.extract 1 s.size := ⟨_, rfl⟩
      have hN : negB s = true := by unfold negB; rw [h2, decide_eq_true hne]; rfl
      have hB : bodyB s = d := by unfold bodyB; rw [hN, hd]; rfl
      have hsz : d.size = s.size - 1 := by rw [hd]; simp
      have hbt : ∀ k : Nat, 1 + k < s.size → bt s (1 + k : Nat) = bt d k := fun k hk => by rw [hd, bt_extract (Nat.le_refl _) hk]
      have hbt' : ∀ k : Nat, k < d.size → bt s ((1 : Int) + k) = bt d k := fun k hk => by rw [← hbt k (by omega)]; rfl
      refine Br.mk (fun h3 => ?_) (fun h3 => ?_)
      · have hz : d.size = 0 := by have := eq_of_beq h3; omega
        exact ⟨ret2 (parseS_bad hN hB (by simp only [badB, hz]; rfl)).symm, rfl⟩
      have hz : d.size ≠ 0 := by have := ne_of_beq_false h3; omega
      refine LoopA.mk ⟨⟨[0, 2, 3, 4, 5], 0, 0⟩, fun n st => ∃ (i : Nat) (j : Int), st = ⟨[(0, .c (.v (.string s))), (2, .c (.v (.int .i64 0))), (3, .c (.v (.int .i64 0))), (4, .c (.v (.int .i64 1))), (5, .c (.v (.int .i64 j)))], ⟨[], [], h⟩⟩ ∧ i ≤ d.size ∧ n = d.size - i ∧ j = (1 : Int) + i ∧ ∀ k : Nat, k < i → digB (bt d k) = true, ⟨rfl, d.size, _, .refl _ _, 0, _, rfl, Nat.zero_le _, rfl, rfl, by simp⟩, ?_⟩
      rintro n _ ⟨i, j, rfl, hi, rfl, rfl, hall⟩
      refine Br.mk (fun hb => ?_) (fun hb => ?_)
      · have hlt : i < d.size := by have := of_decide_eq_true hb; omega
        have hbd := hbt' i hlt
        have hbad : digB (bt d i) = false → badB d true = true := fun hd => by
          have : runs d 0 ≠ d.size := fun e => by
            have := (runs_spec d 0).1 i (by omega)
            rw [Nat.zero_add, hd] at this; exact absurd this.2 (by simp)
          unfold badB; rw [decide_eq_true this]; simp
        refine ⟨⟨by omega, by show ((1 : Int) + i).toNat < s.size; omega⟩, ?_⟩
        refine Br.mk (fun h4 => ?_) (fun h4 => ?_)
        · rw [hbd] at h4
          exact ⟨ret2 (parseS_bad hN hB (hbad (by unfold digB; rw [decide_eq_false (by have := of_decide_eq_true h4; omega)]; rfl))).symm, rfl⟩
        · refine ⟨⟨by omega, by show ((1 : Int) + i).toNat < s.size; omega⟩, ?_⟩
          refine Br.mk (fun h5 => ?_) (fun h5 => ?_)
          · rw [hbd] at h5
            exact ⟨ret2 (parseS_bad hN hB (hbad (by unfold digB; rw [decide_eq_false (p := bt d i ≤ 57) (by have := of_decide_eq_true h5; omega)]; simp))).symm, rfl⟩
          · rw [hbd] at h4 h5
            refine ⟨rfl, d.size - (i + 1), by omega, _, .refl _ _, i + 1, _, rfl, by omega, rfl, ?_, ?_⟩
            · rw [wrap64] <;> omega
            · intro k hk
              by_cases e : k = i
              · subst e; unfold digB; rw [decide_eq_true (by have := of_decide_eq_false h4; omega), decide_eq_true (by have := of_decide_eq_false h5; omega)]; rfl
              · exact hall k (by omega)
      have he : i = d.size := by have := of_decide_eq_false hb; omega
      subst he
      have hrun : runs d 0 = d.size := runs_eq (fun k hk => ⟨by omega, by rw [Nat.zero_add]; exact hall k hk⟩) (by omega)
      have hb0 := hbt' 0 (by omega)
      refine ⟨⟨by omega, by show (1 : Int).toNat < s.size; omega⟩, ?_⟩
      have hb0 : bt s 1 = bt d 0 := hb0
      refine Br.mk (fun h4 => ?_) (fun h4 => ?_)
      · have h4' : bt d 0 = 48 := by rw [← hb0]; exact eq_of_beq h4
        refine Br.mk (fun h5 => ?_) (fun h5 => ?_)
        · have h5 := of_decide_eq_true h5
          exact ⟨ret2 (parseS_bad hN hB (by unfold badB; rw [decide_eq_true h4']; simp)).symm, rfl⟩
        · have h5 := of_decide_eq_false h5
          omega
      · have h4' : ¬ bt d 0 = 48 := by rw [← hb0]; exact ne_of_beq_false h4
        have hbad : badB d true = false := by unfold badB; rw [decide_eq_false h4', decide_eq_false hz, hrun]; simp
        refine LoopA.mk ⟨⟨[0, 2, 3, 4, 6, 7, 8], 0, 0⟩, fun n st => ∃ (i : Nat) (m j : Int), st = ⟨[(0, .c (.v (.string s))), (2, .c (.v (.int .i64 0))), (3, .c (.v (.int .i64 0))), (4, .c (.v (.int .i64 1))), (6, .c (.v (.int .i64 (-9223372036854775808)))), (7, .c (.v (.int .i64 m))), (8, .c (.v (.int .i64 j)))], ⟨[], [], h⟩⟩ ∧ i ≤ d.size ∧ n = d.size - i ∧ j = (1 : Int) + i ∧ m = -(valN d i : Int) ∧ valN d i ≤ 9223372036854775808, ⟨rfl, d.size, _, .refl _ _, 0, _, _, rfl, Nat.zero_le _, rfl, rfl, rfl, Nat.zero_le _⟩, ?_⟩
        rintro n _ ⟨i, m, j, rfl, hi, rfl, rfl, rfl, hle⟩
        have hmx := mostN_le true
        refine Br.mk (fun hb => ?_) (fun hb => ?_)
        · have hlt : i < d.size := by have := of_decide_eq_true hb; omega
          have hbd := hbt' i hlt
          have hdig := hall i hlt
          unfold digB at hdig
          rw [Bool.and_eq_true] at hdig
          have d1 := of_decide_eq_true hdig.1
          have d2 := of_decide_eq_true hdig.2
          have hv : valN d (i + 1) = valN d i * 10 + (bt d i - 48).toNat := rfl
          have e0 : IntKind.i64.wrap (IntKind.i64.wrap (bt s ((1 : Int) + i)) - 48) = bt d i - 48 := by rw [hbd, wrap64 (x := bt d i) (by omega) (by omega), wrap64 (by omega) (by omega)]
          have e1 : IntKind.i64.wrap ((IntKind.i64.wrap (-9223372036854775808 + IntKind.i64.wrap (IntKind.i64.wrap (bt s ((1 : Int) + i)) - 48))).tdiv 10) = -((9223372036854775808 - (bt d i - 48)) / 10) := by
            rw [e0, wrap64 (x := -9223372036854775808 + (bt d i - 48)) (by omega) (by omega), show (-9223372036854775808 : Int) + (bt d i - 48) = -(9223372036854775808 - (bt d i - 48)) by omega, tdivneg (by omega), wrap64 (by omega) (by omega)]
          refine ⟨⟨by omega, by show ((1 : Int) + i).toNat < s.size; omega⟩, ⟨by decide, ?_⟩⟩
          refine Br.mk (fun h9 => ?_) (fun h9 => ?_)
          · rw [e1] at h9
            have h9 := of_decide_eq_true h9
            have := valN_mono d (i + 1) (d.size - (i + 1))
            rw [show i + 1 + (d.size - (i + 1)) = d.size by omega] at this
            exact ⟨ret2 (parseS_big hN hB hbad (by omega)).symm, rfl⟩
          · rw [e1] at h9
            have h9 := of_decide_eq_false h9
            refine ⟨rfl, d.size - (i + 1), by omega, _, .refl _ _, i + 1, _, _, rfl, by omega, rfl, ?_, ?_, by omega⟩
            · rw [wrap64] <;> omega
            · rw [e0, wrap64 (x := -(valN d i : Int) * 10) (by omega) (by omega), wrap64 (by omega) (by omega), hv]; omega
        · have he : i = d.size := by have := of_decide_eq_false hb; omega
          subst he
          refine Br.mk (fun hx => by cases hx) (fun hx => ?_)
          exact ⟨ret2 ((parseS_ok hN hB hbad hle).trans rfl).symm, rfl⟩
    · obtain ⟨d, hd⟩ : ∃ d, d = s := ⟨_, rfl⟩
      have hN : negB s = false := by unfold negB; rw [h2]; simp
      have hB : bodyB s = d := by unfold bodyB; rw [hN, hd]; rfl
      have hsz : d.size = s.size - 0 := by rw [hd]; simp
      have hbt' : ∀ k : Nat, k < d.size → bt s ((0 : Int) + k) = bt d k := fun k hk => by rw [hd, Int.zero_add]
      refine Br.mk (fun h3 => ?_) (fun h3 => ?_)
      · have hz : d.size = 0 := by have := eq_of_beq h3; omega
        exact ⟨ret2 (parseS_bad hN hB (by simp only [badB, hz]; rfl)).symm, rfl⟩
      have hz : d.size ≠ 0 := by have := ne_of_beq_false h3; omega
      refine LoopA.mk ⟨⟨[0, 2, 3, 4, 5], 0, 0⟩, fun n st => ∃ (i : Nat) (j : Int), st = ⟨[(0, .c (.v (.string s))), (2, .c (.v (.int .i64 0))), (3, .c (.v (.int .i64 0))), (4, .c (.v (.int .i64 0))), (5, .c (.v (.int .i64 j)))], ⟨[], [], h⟩⟩ ∧ i ≤ d.size ∧ n = d.size - i ∧ j = (0 : Int) + i ∧ ∀ k : Nat, k < i → digB (bt d k) = true, ⟨rfl, d.size, _, .refl _ _, 0, _, rfl, Nat.zero_le _, rfl, rfl, by simp⟩, ?_⟩
      rintro n _ ⟨i, j, rfl, hi, rfl, rfl, hall⟩
      refine Br.mk (fun hb => ?_) (fun hb => ?_)
      · have hlt : i < d.size := by have := of_decide_eq_true hb; omega
        have hbd := hbt' i hlt
        have hbad : digB (bt d i) = false → badB d false = true := fun hd => by
          have : runs d 0 ≠ d.size := fun e => by
            have := (runs_spec d 0).1 i (by omega)
            rw [Nat.zero_add, hd] at this; exact absurd this.2 (by simp)
          unfold badB; rw [decide_eq_true this]; simp
        refine ⟨⟨by omega, by show ((0 : Int) + i).toNat < s.size; omega⟩, ?_⟩
        refine Br.mk (fun h4 => ?_) (fun h4 => ?_)
        · rw [hbd] at h4
          exact ⟨ret2 (parseS_bad hN hB (hbad (by unfold digB; rw [decide_eq_false (by have := of_decide_eq_true h4; omega)]; rfl))).symm, rfl⟩
        · refine ⟨⟨by omega, by show ((0 : Int) + i).toNat < s.size; omega⟩, ?_⟩
          refine Br.mk (fun h5 => ?_) (fun h5 => ?_)
          · rw [hbd] at h5
            exact ⟨ret2 (parseS_bad hN hB (hbad (by unfold digB; rw [decide_eq_false (p := bt d i ≤ 57) (by have := of_decide_eq_true h5; omega)]; simp))).symm, rfl⟩
          · rw [hbd] at h4 h5
            refine ⟨rfl, d.size - (i + 1), by omega, _, .refl _ _, i + 1, _, rfl, by omega, rfl, ?_, ?_⟩
            · rw [wrap64] <;> omega
            · intro k hk
              by_cases e : k = i
              · subst e; unfold digB; rw [decide_eq_true (by have := of_decide_eq_false h4; omega), decide_eq_true (by have := of_decide_eq_false h5; omega)]; rfl
              · exact hall k (by omega)
      have he : i = d.size := by have := of_decide_eq_false hb; omega
      subst he
      have hrun : runs d 0 = d.size := runs_eq (fun k hk => ⟨by omega, by rw [Nat.zero_add]; exact hall k hk⟩) (by omega)
      have hb0 := hbt' 0 (by omega)
      refine ⟨⟨by omega, by show (0 : Int).toNat < s.size; omega⟩, ?_⟩
      have hb0 : bt s 0 = bt d 0 := hb0
      refine Br.mk (fun h4 => ?_) (fun h4 => ?_)
      · have h4' : bt d 0 = 48 := by rw [← hb0]; exact eq_of_beq h4
        refine Br.mk (fun h5 => ?_) (fun h5 => ?_)
        · have h5 := of_decide_eq_true h5
          exact ⟨ret2 (parseS_bad hN hB (by unfold badB; rw [decide_eq_true h4', decide_eq_true (p := 1 < d.size) (by omega)]; simp)).symm, rfl⟩
        · have h5 := of_decide_eq_false h5
          have hbad : badB d false = false := by unfold badB; rw [decide_eq_false (p := 1 < d.size) (by omega), decide_eq_false hz, hrun]; simp
          refine LoopA.mk ⟨⟨[0, 2, 3, 4, 6, 7, 8], 0, 0⟩, fun n st => ∃ (i : Nat) (m j : Int), st = ⟨[(0, .c (.v (.string s))), (2, .c (.v (.int .i64 0))), (3, .c (.v (.int .i64 0))), (4, .c (.v (.int .i64 0))), (6, .c (.v (.int .i64 (-9223372036854775808)))), (7, .c (.v (.int .i64 m))), (8, .c (.v (.int .i64 j)))], ⟨[], [], h⟩⟩ ∧ i ≤ d.size ∧ n = d.size - i ∧ j = (0 : Int) + i ∧ m = -(valN d i : Int) ∧ valN d i ≤ 9223372036854775808, ⟨rfl, d.size, _, .refl _ _, 0, _, _, rfl, Nat.zero_le _, rfl, rfl, rfl, Nat.zero_le _⟩, ?_⟩
          rintro n _ ⟨i, m, j, rfl, hi, rfl, rfl, rfl, hle⟩
          have hmx := mostN_le false
          refine Br.mk (fun hb => ?_) (fun hb => ?_)
          · have hlt : i < d.size := by have := of_decide_eq_true hb; omega
            have hbd := hbt' i hlt
            have hdig := hall i hlt
            unfold digB at hdig
            rw [Bool.and_eq_true] at hdig
            have d1 := of_decide_eq_true hdig.1
            have d2 := of_decide_eq_true hdig.2
            have hv : valN d (i + 1) = valN d i * 10 + (bt d i - 48).toNat := rfl
            have e0 : IntKind.i64.wrap (IntKind.i64.wrap (bt s ((0 : Int) + i)) - 48) = bt d i - 48 := by rw [hbd, wrap64 (x := bt d i) (by omega) (by omega), wrap64 (by omega) (by omega)]
            have e1 : IntKind.i64.wrap ((IntKind.i64.wrap (-9223372036854775808 + IntKind.i64.wrap (IntKind.i64.wrap (bt s ((0 : Int) + i)) - 48))).tdiv 10) = -((9223372036854775808 - (bt d i - 48)) / 10) := by
              rw [e0, wrap64 (x := -9223372036854775808 + (bt d i - 48)) (by omega) (by omega), show (-9223372036854775808 : Int) + (bt d i - 48) = -(9223372036854775808 - (bt d i - 48)) by omega, tdivneg (by omega), wrap64 (by omega) (by omega)]
            refine ⟨⟨by omega, by show ((0 : Int) + i).toNat < s.size; omega⟩, ⟨by decide, ?_⟩⟩
            refine Br.mk (fun h9 => ?_) (fun h9 => ?_)
            · rw [e1] at h9
              have h9 := of_decide_eq_true h9
              have := valN_mono d (i + 1) (d.size - (i + 1))
              rw [show i + 1 + (d.size - (i + 1)) = d.size by omega] at this
              exact ⟨ret2 (parseS_big hN hB hbad (by omega)).symm, rfl⟩
            · rw [e1] at h9
              have h9 := of_decide_eq_false h9
              refine ⟨rfl, d.size - (i + 1), by omega, _, .refl _ _, i + 1, _, _, rfl, by omega, rfl, ?_, ?_, by omega⟩
              · rw [wrap64] <;> omega
              · rw [e0, wrap64 (x := -(valN d i : Int) * 10) (by omega) (by omega), wrap64 (by omega) (by omega), hv]; omega
          · have he : i = d.size := by have := of_decide_eq_false hb; omega
            subst he
            refine Br.mk (fun hx => ?_) (fun hx => by cases hx)
            refine Br.mk (fun hy => ?_) (fun hy => ?_)
            · have hy := eq_of_beq hy
              exact ⟨ret2 (parseS_big hN hB hbad (by show 9223372036854775807 < _; omega)).symm, rfl⟩
            · have hy := ne_of_beq_false hy
              have hw : IntKind.i64.wrap (0 - -(valN d d.size : Int)) = valN d d.size := by rw [wrap64] <;> omega
              exact ⟨ret2 (by rw [hw]; exact ((parseS_ok hN hB hbad (by show _ ≤ 9223372036854775807; omega)).trans rfl).symm), rfl⟩
      · have h4' : ¬ bt d 0 = 48 := by rw [← hb0]; exact ne_of_beq_false h4
        have hbad : badB d false = false := by unfold badB; rw [decide_eq_false h4', decide_eq_false hz, hrun]; simp
        refine LoopA.mk ⟨⟨[0, 2, 3, 4, 6, 7, 8], 0, 0⟩, fun n st => ∃ (i : Nat) (m j : Int), st = ⟨[(0, .c (.v (.string s))), (2, .c (.v (.int .i64 0))), (3, .c (.v (.int .i64 0))), (4, .c (.v (.int .i64 0))), (6, .c (.v (.int .i64 (-9223372036854775808)))), (7, .c (.v (.int .i64 m))), (8, .c (.v (.int .i64 j)))], ⟨[], [], h⟩⟩ ∧ i ≤ d.size ∧ n = d.size - i ∧ j = (0 : Int) + i ∧ m = -(valN d i : Int) ∧ valN d i ≤ 9223372036854775808, ⟨rfl, d.size, _, .refl _ _, 0, _, _, rfl, Nat.zero_le _, rfl, rfl, rfl, Nat.zero_le _⟩, ?_⟩
        rintro n _ ⟨i, m, j, rfl, hi, rfl, rfl, rfl, hle⟩
        have hmx := mostN_le false
        refine Br.mk (fun hb => ?_) (fun hb => ?_)
        · have hlt : i < d.size := by have := of_decide_eq_true hb; omega
          have hbd := hbt' i hlt
          have hdig := hall i hlt
          unfold digB at hdig
          rw [Bool.and_eq_true] at hdig
          have d1 := of_decide_eq_true hdig.1
          have d2 := of_decide_eq_true hdig.2
          have hv : valN d (i + 1) = valN d i * 10 + (bt d i - 48).toNat := rfl
          have e0 : IntKind.i64.wrap (IntKind.i64.wrap (bt s ((0 : Int) + i)) - 48) = bt d i - 48 := by rw [hbd, wrap64 (x := bt d i) (by omega) (by omega), wrap64 (by omega) (by omega)]
          have e1 : IntKind.i64.wrap ((IntKind.i64.wrap (-9223372036854775808 + IntKind.i64.wrap (IntKind.i64.wrap (bt s ((0 : Int) + i)) - 48))).tdiv 10) = -((9223372036854775808 - (bt d i - 48)) / 10) := by
            rw [e0, wrap64 (x := -9223372036854775808 + (bt d i - 48)) (by omega) (by omega), show (-9223372036854775808 : Int) + (bt d i - 48) = -(9223372036854775808 - (bt d i - 48)) by omega, tdivneg (by omega), wrap64 (by omega) (by omega)]
          refine ⟨⟨by omega, by show ((0 : Int) + i).toNat < s.size; omega⟩, ⟨by decide, ?_⟩⟩
          refine Br.mk (fun h9 => ?_) (fun h9 => ?_)
          · rw [e1] at h9
            have h9 := of_decide_eq_true h9
            have := valN_mono d (i + 1) (d.size - (i + 1))
            rw [show i + 1 + (d.size - (i + 1)) = d.size by omega] at this
            exact ⟨ret2 (parseS_big hN hB hbad (by omega)).symm, rfl⟩
          · rw [e1] at h9
            have h9 := of_decide_eq_false h9
            refine ⟨rfl, d.size - (i + 1), by omega, _, .refl _ _, i + 1, _, _, rfl, by omega, rfl, ?_, ?_, by omega⟩
            · rw [wrap64] <;> omega
            · rw [e0, wrap64 (x := -(valN d i : Int) * 10) (by omega) (by omega), wrap64 (by omega) (by omega), hv]; omega
        · have he : i = d.size := by have := of_decide_eq_false hb; omega
          subst he
          refine Br.mk (fun hx => ?_) (fun hx => by cases hx)
          refine Br.mk (fun hy => ?_) (fun hy => ?_)
          · have hy := eq_of_beq hy
            exact ⟨ret2 (parseS_big hN hB hbad (by show 9223372036854775807 < _; omega)).symm, rfl⟩
          · have hy := ne_of_beq_false hy
            have hw : IntKind.i64.wrap (0 - -(valN d d.size : Int)) = valN d d.size := by rw [wrap64] <;> omega
            exact ⟨ret2 (by rw [hw]; exact ((parseS_ok hN hB hbad (by show _ ≤ 9223372036854775807; omega)).trans rfl).symm), rfl⟩
  · have hz : s.size = 0 := by have := of_decide_eq_false h1; omega
    have hN : negB s = false := by unfold negB; simp [hz]
    have hB : bodyB s = s := by unfold bodyB; rw [hN]; rfl
    refine Br.mk (fun h3 => ?_) (fun h3 => ?_)
    · exact ⟨ret2 (parseS_bad hN hB (by simp [badB, hz])).symm, rfl⟩
    · rw [hz] at h3; simp at h3

set_option maxRecDepth 8000 in
theorem rscan_pure (s : ByteArray) (p : Nat) (hs : s.size < 1000000000) (hp : p ≤ s.size) : PureA Try.prog 41 [.c (.v (.string s)), .c (.v (.int .i64 p))] (.tup [.c (.v (.int .i64 (scanS s p).1)), .c (.v (.int .i64 (scanS s p).2.1)), .c (.v (.int .i64 (scanS s p).2.2))]) := by
  intro h
  refine callsA_of (D := D1 63 [] [] [12, 24, 29, 35, 39]) ty_ok mixed Try.func41 rfl (by kernel_rfl) (by kernel_rfl) (by simp [D1]) ?_
  intro g vs hr
  clear hr
  have hq := scanQ_le hp
  have he := scanE_le hp
  refine Br.mk (fun h1 => by have := of_decide_eq_true h1; omega) (fun h1 => ?_)
  refine Br.mk (fun h2 => by have := of_decide_eq_true h2; omega) (fun h2 => ?_)
  have hsz : (s.extract p (scanE s p)).size < 1000000000 := by simp; omega
  -- where the row ends
  have stopAt : ∀ e : Nat, p ≤ e → e ≤ s.size → (∀ k : Nat, p ≤ k → k < e → digB (bt s k) = true ∨ k = p ∧ bt s k = 45) → ¬ (e < s.size ∧ (digB (bt s e) = true ∨ e = p ∧ bt s e = 45)) → e = scanE s p := by
    intro e h1 h2 h3 h4
    have hd45 : digB 45 = false := by decide
    by_cases hm : p < s.size ∧ bt s p = 45
    · have hQ : scanQ s p = p + 1 := by unfold scanQ; rw [if_pos hm]
      have hep : p < e := by
        rcases Nat.lt_or_ge p e with h | h
        · exact h
        · have : e = p := by omega
          subst this; exact absurd ⟨hm.1, .inr ⟨rfl, hm.2⟩⟩ h4
      have : runs s (p + 1) = e - (p + 1) := runs_eq (fun k hk => ⟨by omega, by
          rcases h3 (p + 1 + k) (by omega) (by omega) with h | h
          · exact h
          · omega⟩) (fun hh => h4 ⟨by omega, .inl (by rw [show p + 1 + (e - (p + 1)) = e by omega] at hh; exact hh.2)⟩)
      unfold scanE; rw [hQ, this]; omega
    · have hQ : scanQ s p = p := by unfold scanQ; rw [if_neg hm]
      have : runs s p = e - p := runs_eq (fun k hk => ⟨by omega, by
          rcases h3 (p + k) (by omega) (by omega) with h | ⟨h, h'⟩
          · exact h
          · exact absurd ⟨by omega, by rw [← h]; exact h'⟩ hm⟩) (fun hh => h4 ⟨by omega, .inl (by rw [show p + (e - p) = e by omega] at hh; exact hh.2)⟩)
      unfold scanE; rw [hQ, this]; omega
  refine LoopA.mk ⟨⟨[0, 1, 4, 5, 6, 7], 0, 0⟩, fun n st => ∃ (e : Nat) (j : Int), st = ⟨[(0, .c (.v (.string s))), (1, .c (.v (.int .i64 p))), (4, .c (.v (.int .i64 0))), (5, .c (.v (.int .i64 0))), (6, .c (.v (.int .i64 0))), (7, .c (.v (.int .i64 j)))], ⟨[], [], h⟩⟩ ∧ p ≤ e ∧ e ≤ s.size ∧ n = s.size - e ∧ j = e ∧ ∀ k : Nat, p ≤ k → k < e → digB (bt s k) = true ∨ k = p ∧ bt s k = 45, ⟨rfl, s.size - p, _, .refl _ _, p, _, rfl, Nat.le_refl _, hp, rfl, rfl, by omega⟩, ?_⟩
  rintro n _ ⟨e, j, rfl, hpe, hes, rfl, rfl, hall⟩
  have hwr : e < s.size → IntKind.i64.wrap ((e : Int) + 1) = (e + 1 : Nat) := fun h => by rw [wrap64] <;> omega
  have go : e < s.size → (digB (bt s e) = true ∨ e = p ∧ bt s e = 45) → ∀ k : Nat, p ≤ k → k < e + 1 → digB (bt s k) = true ∨ k = p ∧ bt s k = 45 := fun _ hd k h1 h2 => by
    by_cases h : k = e
    · subst h; exact hd
    · exact hall k h1 (by omega)
  have ends : ¬ (e < s.size ∧ (digB (bt s e) = true ∨ e = p ∧ bt s e = 45)) → (e : Int) = (scanE s p : Nat) := fun hn => by rw [stopAt e hpe hes hall hn]
  refine Br.mk (fun h3 => ?_) (fun h3 => ?_)
  · have h3 := of_decide_eq_true h3
    have hlt : e < s.size := by omega
    have hix : 0 ≤ (e : Int) ∧ (e : Int).toNat < s.size := ⟨by omega, by simpa using hlt⟩
    refine ⟨hix, ?_⟩
    refine Br.mk (fun h4 => ?_) (fun h4 => ?_)
    · refine ⟨hix, ?_⟩
      refine Br.mk (fun h5 => ?_) (fun h5 => ?_)
      · have hgo : digB (bt s e) = true ∨ e = p ∧ bt s e = 45 := .inl (by unfold digB; rw [Bool.and_eq_true]; exact ⟨h4, h5⟩)
        refine ⟨rfl, s.size - (e + 1), by omega, _, .refl _ _, e + 1, _, rfl, by omega, by omega, rfl, hwr hlt, go hlt hgo⟩
      · have hnd : ¬ digB (bt s e) = true := by unfold digB; rw [Bool.and_eq_true]; intro hh; rw [hh.2] at h5; cases h5
        refine Br.mk (fun h6 => ?_) (fun h6 => ?_)
        · refine ⟨hix, ?_⟩
          refine Br.mk (fun h7 => ?_) (fun h7 => ?_)
          · have hgo : digB (bt s e) = true ∨ e = p ∧ bt s e = 45 := .inr ⟨by have := eq_of_beq h6; omega, eq_of_beq h7⟩
            refine ⟨rfl, s.size - (e + 1), by omega, _, .refl _ _, e + 1, _, rfl, by omega, by omega, rfl, hwr hlt, go hlt hgo⟩
          · have hst := ends (fun hh => by
              rcases hh.2 with hh | hh
              · exact hnd hh
              · exact ne_of_beq_false h7 hh.2)
            refine ⟨by rw [hst]; omega, ?_⟩
            refine ⟨_, pureS (by first | (rw [hst]; rfl) | (simp only [hst]; rfl) | simp [hst]) (rparse_pure (s.extract p (scanE s p)) hsz), ?_⟩
            refine Br.mk (fun h9 => ?_) (fun h9 => ?_)
            · have h9 : ¬ (parseS (s.extract p (scanE s p))).2 = 0 := by simpa using h9
              exact ⟨ret3 (by unfold scanS; rw [if_neg h9]), rfl⟩
            · have h9 : (parseS (s.extract p (scanE s p))).2 = 0 := by simpa using h9
              exact ⟨ret3 (by unfold scanS; rw [if_pos h9, hst]), rfl⟩
        · have hst := ends (fun hh => by
            rcases hh.2 with hh | hh
            · exact hnd hh
            · exact ne_of_beq_false h6 (by omega))
          refine ⟨by rw [hst]; omega, ?_⟩
          refine ⟨_, pureS (by first | (rw [hst]; rfl) | (simp only [hst]; rfl) | simp [hst]) (rparse_pure (s.extract p (scanE s p)) hsz), ?_⟩
          refine Br.mk (fun h9 => ?_) (fun h9 => ?_)
          · have h9 : ¬ (parseS (s.extract p (scanE s p))).2 = 0 := by simpa using h9
            exact ⟨ret3 (by unfold scanS; rw [if_neg h9]), rfl⟩
          · have h9 : (parseS (s.extract p (scanE s p))).2 = 0 := by simpa using h9
            exact ⟨ret3 (by unfold scanS; rw [if_pos h9, hst]), rfl⟩
    · have hnd : ¬ digB (bt s e) = true := by
        unfold digB; rw [Bool.and_eq_true]; intro hh
        have h4 : decide (48 ≤ bt s e) = false := h4
        rw [hh.1] at h4; cases h4
      refine Br.mk (fun h6 => ?_) (fun h6 => ?_)
      · refine ⟨hix, ?_⟩
        refine Br.mk (fun h7 => ?_) (fun h7 => ?_)
        · have hgo : digB (bt s e) = true ∨ e = p ∧ bt s e = 45 := .inr ⟨by have := eq_of_beq h6; omega, eq_of_beq h7⟩
          refine ⟨rfl, s.size - (e + 1), by omega, _, .refl _ _, e + 1, _, rfl, by omega, by omega, rfl, hwr hlt, go hlt hgo⟩
        · have hst := ends (fun hh => by
            rcases hh.2 with hh | hh
            · exact hnd hh
            · exact ne_of_beq_false h7 hh.2)
          refine ⟨by rw [hst]; omega, ?_⟩
          refine ⟨_, pureS (by first | (rw [hst]; rfl) | (simp only [hst]; rfl) | simp [hst]) (rparse_pure (s.extract p (scanE s p)) hsz), ?_⟩
          refine Br.mk (fun h9 => ?_) (fun h9 => ?_)
          · have h9 : ¬ (parseS (s.extract p (scanE s p))).2 = 0 := by simpa using h9
            exact ⟨ret3 (by unfold scanS; rw [if_neg h9]), rfl⟩
          · have h9 : (parseS (s.extract p (scanE s p))).2 = 0 := by simpa using h9
            exact ⟨ret3 (by unfold scanS; rw [if_pos h9, hst]), rfl⟩
      · have hst := ends (fun hh => by
          rcases hh.2 with hh | hh
          · exact hnd hh
          · exact ne_of_beq_false h6 (by omega))
        refine ⟨by rw [hst]; omega, ?_⟩
        refine ⟨_, pureS (by first | (rw [hst]; rfl) | (simp only [hst]; rfl) | simp [hst]) (rparse_pure (s.extract p (scanE s p)) hsz), ?_⟩
        refine Br.mk (fun h9 => ?_) (fun h9 => ?_)
        · have h9 : ¬ (parseS (s.extract p (scanE s p))).2 = 0 := by simpa using h9
          exact ⟨ret3 (by unfold scanS; rw [if_neg h9]), rfl⟩
        · have h9 : (parseS (s.extract p (scanE s p))).2 = 0 := by simpa using h9
          exact ⟨ret3 (by unfold scanS; rw [if_pos h9, hst]), rfl⟩
  · have hst := ends (fun hh => by have := of_decide_eq_false h3; omega)
    refine ⟨by rw [hst]; omega, ?_⟩
    refine ⟨_, pureS (by first | (rw [hst]; rfl) | (simp only [hst]; rfl) | simp [hst]) (rparse_pure (s.extract p (scanE s p)) hsz), ?_⟩
    refine Br.mk (fun h9 => ?_) (fun h9 => ?_)
    · have h9 : ¬ (parseS (s.extract p (scanE s p))).2 = 0 := by simpa using h9
      exact ⟨ret3 (by unfold scanS; rw [if_neg h9]), rfl⟩
    · have h9 : (parseS (s.extract p (scanE s p))).2 = 0 := by simpa using h9
      exact ⟨ret3 (by unfold scanS; rw [if_pos h9, hst]), rfl⟩
end Go.Proofs.Ytgdgfomoeohdeaa
