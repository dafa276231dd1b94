/- The contract of utf.Get: the code at a place. -/
import Derived.Test.YtgdgfomoeohdeaaV15
set_option linter.unusedVariables false
set_option linter.unusedSimpArgs false
namespace Go.Proofs.Ytgdgfomoeohdeaa
open Aw

def rowsB (s : ByteArray) : List (List AC) := s.data.toList.map fun b => [AC.v (.int .u8 b.toNat)]
theorem rowsB_len (s : ByteArray) : (rowsB s).length = s.size := by unfold rowsB; simp
theorem rowsB_get {s : ByteArray} {i : Nat} (h : i < s.size) : (rowsB s)[i]? = some [AC.v (.int .u8 (bt s i))] := by
  unfold rowsB bt
  rw [List.getElem?_map, Int.toNat_natCast]
  have h' : i < s.data.toList.length := by simpa using h
  rw [List.getElem?_eq_getElem h', List.getD_eq_getElem?_getD, List.getElem?_eq_getElem h']
  rfl
def accU (s : ByteArray) (p : Nat) (c : Int) : Nat → Int
  | 0 => c
  | k + 1 => accU s p c k * 64 + (bt s (p + 1 + k : Nat) - 128)
def contU (s : ByteArray) (p k : Nat) : Bool := decide (128 ≤ bt s (p + 1 + k : Nat)) && decide (bt s (p + 1 + k : Nat) < 192)
def getU (s : ByteArray) (p : Nat) : Option (Int × Nat) :=
  if p < s.size then
    if (firstS (bt s p)).1 = 0 ∨ s.size - p < (firstS (bt s p)).1 then none
    else if (List.range ((firstS (bt s p)).1 - 1)).all (contU s p) then
      if codeB (accU s p (firstS (bt s p)).2 ((firstS (bt s p)).1 - 1)) ∧ longN (accU s p (firstS (bt s p)).2 ((firstS (bt s p)).1 - 1)) = (firstS (bt s p)).1 then
        some (accU s p (firstS (bt s p)).2 ((firstS (bt s p)).1 - 1), (firstS (bt s p)).1) else none
    else none
  else none
def getAV : Option (Int × Nat) → AV
  | some (c, n) => .tup [.c (.v (.int .i64 c)), .c (.v (.int .i64 n)), .c (.v (.bool true))]
  | none => .tup [.c (.v (.int .i64 0)), .c (.v (.int .i64 0)), .c (.v (.bool false))]
theorem retU {a b : Option (Int × Nat)} (h : a = b) : AEnd.ret (getAV a) = .ret (getAV b) := by rw [h]
theorem firstS_le {x : Int} (h : 0 ≤ x) : (firstS x).1 ≤ 4 ∧ 0 ≤ (firstS x).2 ∧ (firstS x).2 < 128 := by
  unfold firstS
  repeat' split
  all_goals (refine ⟨?_, ?_, ?_⟩ <;> dsimp only <;> omega)
theorem accU_bound {s : ByteArray} {p : Nat} {c : Int} (h0 : 0 ≤ c) (h1 : c < 128) : ∀ i : Nat, (∀ k, k < i → contU s p k = true) → 0 ≤ accU s p c i ∧ accU s p c i < 128 * (64 : Int) ^ i
  | 0, _ => by simp only [accU, Int.pow_zero]; omega
  | i + 1, hc => by
    have ih := accU_bound h0 h1 i (fun k hk => hc k (by omega))
    have hci := hc i (by omega)
    unfold contU at hci
    rw [Bool.and_eq_true] at hci
    have d1 := of_decide_eq_true hci.1
    have d2 := of_decide_eq_true hci.2
    simp only [accU, Int.pow_succ]
    generalize (64 : Int) ^ i = B at *
    omega
theorem pow64 {i : Nat} (h : i ≤ 3) : (64 : Int) ^ i ≤ 262144 := by
  rcases (by omega : i = 0 ∨ i = 1 ∨ i = 2 ∨ i = 3) with e | e | e | e <;> subst e <;> decide
theorem or64 {a y : Int} (h0 : 0 ≤ a) (h1 : a < 1099511627776) (h2 : 0 ≤ y) (h3 : y < 64) : IntKind.i64.wrap (BitVec.ofInt IntKind.i64.bits (a * 64) ||| BitVec.ofInt IntKind.i64.bits y).toNat = a * 64 + y := by
  obtain ⟨n, rfl⟩ : ∃ n : Nat, a = n := ⟨a.toNat, by omega⟩
  obtain ⟨m, rfl⟩ : ∃ m : Nat, y = m := ⟨y.toNat, by omega⟩
  have e1 : (BitVec.ofInt IntKind.i64.bits ((n : Int) * 64)).toNat = n * 64 := by
    rw [BitVec.toNat_ofInt]
    show (((n : Int) * 64) % ((2 ^ 64 : Nat) : Int)).toNat = _
    omega
  have e2 : (BitVec.ofInt IntKind.i64.bits (m : Int)).toNat = m := by
    rw [BitVec.toNat_ofInt]
    show (((m : Int)) % ((2 ^ 64 : Nat) : Int)).toNat = _
    omega
  have e3 : n * 64 ||| m = n * 64 + m := by
    have := Nat.shiftLeft_add_eq_or_of_lt (b := m) (i := 6) (by omega) n
    rw [Nat.shiftLeft_eq] at this
    exact this.symm
  rw [BitVec.toNat_or, e1, e2, e3, wrap64] <;> omega
theorem accU_range {s : ByteArray} {p m : Nat} : (List.range m).all (contU s p) = true ↔ ∀ k, k < m → contU s p k = true := by
  rw [List.all_eq_true]; simp

set_option maxRecDepth 4000 in
theorem uget_pure (s : ByteArray) (hs : s.size < 1000000000) (p : Nat) (hp : p ≤ s.size) : PureA Try.prog 88 [.c (.sl 1 (rowsB s)), .c (.v (.int .i64 p))] (getAV (getU s p)) := by
  intro h
  refine callsA_of (D := D1 76 [] [] [15, 31, 69]) ty_ok mixed Try.func88 rfl (by kernel_rfl) (by kernel_rfl) (by simp [D1]) ?_
  intro g vs hr
  clear hr
  obtain ⟨O, hO⟩ : ∃ O, O = getU s p := ⟨_, rfl⟩
  rw [← hO]
  unfold getU at hO
  have none_ : O = none → AEnd.ret (AV.tup [.c (.v (.int .i64 0)), .c (.v (.int .i64 0)), .c (.v (.bool false))]) = AEnd.ret (getAV O) := fun e => by rw [e]; rfl
  refine Br.mk (fun h1 => by have := of_decide_eq_true h1; omega) (fun _ => ?_)
  refine Br.mk (fun h2 => ?_) (fun h2 => ?_)
  · rw [rowsB_len] at h2
    have h2 := of_decide_eq_true h2
    rw [if_neg (by omega)] at hO
    exact ⟨none_ hO, rfl⟩
  rw [rowsB_len] at h2
  have h2 := of_decide_eq_false h2
  have hlt : p < s.size := by omega
  rw [if_pos hlt] at hO
  refine ⟨_, ⟨by omega, rowsB_get hlt⟩, ?_⟩
  have hf := first_pure (bt_nn s p) (bt_lt s p)
  obtain ⟨n, hn⟩ : ∃ n, n = (firstS (bt s p)).1 := ⟨_, rfl⟩
  obtain ⟨c0, hc0⟩ : ∃ c0, c0 = (firstS (bt s p)).2 := ⟨_, rfl⟩
  have hfl := firstS_le (bt_nn s p)
  rw [← hn, ← hc0] at hO hfl hf
  refine ⟨_, hf, ?_⟩
  refine Br.mk (fun h3 => ?_) (fun h3 => ?_)
  · have h3 := eq_of_beq h3
    rw [if_pos (.inl (by omega))] at hO
    exact ⟨none_ hO, rfl⟩
  have h3 := ne_of_beq_false h3
  have hw1 : IntKind.i64.wrap (((rowsB s).length : Int) - p) = (s.size - p : Nat) := by rw [rowsB_len, wrap64] <;> omega
  refine Br.mk (fun h4 => ?_) (fun h4 => ?_)
  · rw [hw1] at h4
    have h4 := of_decide_eq_true h4
    rw [if_pos (.inr (by omega))] at hO
    exact ⟨none_ hO, rfl⟩
  rw [hw1] at h4
  have h4 := of_decide_eq_false h4
  rw [if_neg (by omega)] at hO
  have hw2 : IntKind.i64.wrap ((p : Int) + 1) = (p + 1 : Nat) := by rw [wrap64] <;> omega
  have hw3 : IntKind.i64.wrap ((p : Int) + (n : Nat)) = (p + n : Nat) := by rw [wrap64] <;> omega
  refine Pre.mk (by rw [hw2, hw3, rowsB_len]; omega) ?_
  have hx : ((rowsB s).take (IntKind.i64.wrap ((p : Int) + (n : Nat))).toNat).drop (IntKind.i64.wrap ((p : Int) + 1)).toNat = ((rowsB s).take (p + n)).drop (p + 1) := by rw [hw2, hw3]; rfl
  obtain ⟨X, hX⟩ : ∃ X, X = ((rowsB s).take (IntKind.i64.wrap ((p : Int) + (n : Nat))).toNat).drop (IntKind.i64.wrap ((p : Int) + 1)).toNat := ⟨_, rfl⟩
  have hXl : X.length = n - 1 := by rw [hX, hx, List.length_drop, List.length_take, rowsB_len]; omega
  have hXg : ∀ k : Nat, k < n - 1 → X[k]? = some [AC.v (.int .u8 (bt s (p + 1 + k : Nat)))] := fun k hk => by
    rw [hX, hx, List.getElem?_drop, List.getElem?_take, if_pos (by omega)]
    exact rowsB_get (by omega)
  refine LoopA.mk ⟨⟨[4, 5, 6, 7, 8, 45, 46, 47], 0, 0⟩, fun m st => ∃ (i : Nat) (j c l : Int) (Y : List (List AC)), st = ⟨[(4, .c (.v (.int .i64 0))), (5, .c (.v (.int .i64 0))), (6, .c .ff), (7, .c (.v (.int .i64 n))), (8, .c (.v (.int .i64 c))), (45, .c (.sl 1 Y)), (46, .c (.v (.int .i64 l))), (47, .c (.v (.int .i64 j)))], ⟨[], [], h⟩⟩ ∧ Y = X ∧ l = (X.length : Int) ∧ i ≤ n - 1 ∧ m = n - 1 - i ∧ j = i ∧ c = accU s p c0 i ∧ ∀ k, k < i → contU s p k = true, ⟨rfl, n - 1, _, .refl _ _, 0, _, _, _, _, rfl, hX.symm, by rw [hX], Nat.zero_le _, rfl, rfl, rfl, by simp⟩, ?_⟩
  rintro m _ ⟨i, j, c, l, Y, rfl, rfl, rfl, hi, rfl, rfl, rfl, hall⟩
  refine Br.mk (fun hb => ?_) (fun hb => ?_)
  · have hlt2 : i < n - 1 := by rw [hXl] at hb; have := of_decide_eq_true hb; omega
    refine ⟨_, ⟨by omega, hXg i hlt2⟩, ?_⟩
    obtain ⟨y, hy⟩ : ∃ y : Nat, bt s (p + 1 + i : Nat) = y := ⟨(bt s (p + 1 + i : Nat)).toNat, by have := bt_nn s (p + 1 + i : Nat); omega⟩
    have hy256 : y < 256 := by have := bt_lt s (p + 1 + i : Nat); omega
    have hnot : (IntKind.u8.wrap (BitVec.ofInt IntKind.u8.bits (y : Int) &&& ~~~(BitVec.ofInt IntKind.u8.bits 63)).toNat != 128) = !(decide (128 ≤ y) && decide (y < 192)) := not63 ⟨y, hy256⟩
    have hcb := accU_bound hfl.2.1 hfl.2.2 i hall
    have hp64 := pow64 (i := i) (by omega)
    refine Br.mk (fun h5 => ?_) (fun h5 => ?_)
    · rw [hy, hnot] at h5
      have h5 := not_t h5
      have hc : contU s p i = false := by
        unfold contU; rw [hy]
        rw [Bool.and_eq_false_iff] at h5 ⊢
        rcases h5 with h5 | h5
        · left; have := of_decide_eq_false h5; exact decide_eq_false (by omega)
        · right; have := of_decide_eq_false h5; exact decide_eq_false (by omega)
      have : ¬ (List.range (n - 1)).all (contU s p) = true := fun hh => by
        have := accU_range.1 hh i hlt2
        rw [hc] at this; cases this
      rw [if_neg this] at hO
      exact ⟨none_ hO, rfl⟩
    · rw [hy, hnot] at h5
      have h5 := not_f h5
      rw [Bool.and_eq_true] at h5
      have y1 := of_decide_eq_true h5.1
      have y2 := of_decide_eq_true h5.2
      have hc : contU s p i = true := by
        unfold contU; rw [hy, decide_eq_true (by omega), decide_eq_true (by omega)]; rfl
      have e5 : andU (bt s (p + 1 + i : Nat)) 63 = (y : Int) - 128 := by rw [hy]; exact and63 ⟨y, hy256⟩ y1 y2
      have e6 : IntKind.i64.wrap (accU s p c0 i * 2 ^ (min (6 : Int).toNat IntKind.i64.bits)) = accU s p c0 i * 64 := by
        show IntKind.i64.wrap (accU s p c0 i * 64) = _
        rw [wrap64] <;> omega
      refine Pre.mk (by decide) ?_
      refine ⟨rfl, n - 1 - (i + 1), by omega, _, .refl _ _, i + 1, _, _, _, _, rfl, rfl, rfl, by omega, rfl, by rw [wrap64] <;> omega, ?_, ?_⟩
      · show IntKind.i64.wrap (BitVec.ofInt IntKind.i64.bits (IntKind.i64.wrap (accU s p c0 i * 2 ^ (min (6 : Int).toNat IntKind.i64.bits))) ||| BitVec.ofInt IntKind.i64.bits (andU (bt s (p + 1 + i : Nat)) 63)).toNat = accU s p c0 (i + 1)
        rw [e5, e6, or64 hcb.1 (by omega) (by omega) (by omega)]
        simp only [accU]; rw [hy]
      · intro k hk
        by_cases e : k = i
        · subst e; exact hc
        · exact hall k (by omega)
  · have he : i = n - 1 := by rw [hXl] at hb; have := of_decide_eq_false hb; omega
    subst he
    rw [if_pos (accU_range.2 hall)] at hO
    refine ⟨_, long_pure _, _, code_pure _, ?_⟩
    refine Br.mk (fun h5 => ?_) (fun h5 => ?_)
    · rw [if_neg (fun hh => by rw [not_t h5] at hh; cases hh.1)] at hO
      exact ⟨none_ hO, rfl⟩
    · refine Br.mk (fun h6 => ?_) (fun h6 => ?_)
      · have h6 : ¬ longN (accU s p c0 (n - 1)) = n := by intro e; rw [e] at h6; simp at h6
        rw [if_neg (fun hh => h6 hh.2)] at hO
        exact ⟨none_ hO, rfl⟩
      · have h6 : longN (accU s p c0 (n - 1)) = n := by have := bne_eq_false_iff_eq.1 h6; omega
        rw [if_pos ⟨not_f h5, h6⟩] at hO
        exact ⟨by rw [hO]; rfl, rfl⟩
end Go.Proofs.Ytgdgfomoeohdeaa
