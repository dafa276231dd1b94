/- The contracts of package utf: one code. The contract of utf.Get: the code at a place. The codes of a text; the contracts of douaneref01.Codes and Valid (Get's is asked for). utf.Count and utf.Valid (the contract of utf.Codes is asked for). -/
import Derived.Test.YtdgjpncflkpjfaaDoorV9a
import Derived.Test.YtdgjpncflkpjfaaDoorV2
import Derived.Test.YtdgjpncflkpjfaaDoorV7
/-! The contracts of package utf: one code. -/
set_option linter.unusedVariables false
set_option linter.unusedSimpArgs false
namespace Go.Proofs.YtdgjpncflkpjfaaDoor
open Aw

def codeB (c : Int) : Bool := decide (0 ≤ c ∧ c ≤ 1114111 ∧ (c < 55296 ∨ 57343 < c))
def longN (c : Int) : Nat := if c < 128 then 1 else if c < 2048 then 2 else if c < 65536 then 3 else 4
def longH (c : Int) : Int := if c < 128 then 0 else if c < 2048 then 192 else if c < 65536 then 224 else 240
def firstS (x : Int) : Nat × Int :=
  if x < 128 then (1, x) else if 192 ≤ x ∧ x < 224 then (2, x - 192) else if 224 ≤ x ∧ x < 240 then (3, x - 224) else if 240 ≤ x ∧ x < 248 then (4, x - 240) else (0, 0)
theorem code_pure (c : Int) : PureA Tryd.prog 104 [.c (.v (.int .i64 c))] (.c (.v (.bool (codeB c)))) := by
  intro h
  refine callsA_of (D := D1 17 [] [] [5, 9, 12]) ty_ok mixed Tryd.func104 rfl (by kernel_rfl) (by kernel_rfl) (by simp [D1]) ?_
  intro g vs hr
  clear hr
  repeat' refine Br.mk (fun _ => ?_) (fun _ => ?_)
  all_goals
    refine ⟨ret_b ?_, rfl⟩
    unfold codeB
    simp only [decide_eq_true_eq, decide_eq_false_iff_not] at *
    try simp only [decide_eq_decide]
    first | (rw [eq_comm, decide_eq_true_eq]; omega) | (rw [eq_comm, decide_eq_false_iff_not]; omega) | omega
theorem long_pure (c : Int) : PureA Tryd.prog 103 [.c (.v (.int .i64 c))] (.tup [.c (.v (.int .i64 (longN c))), .c (.v (.int .i64 (longH c)))]) := by
  intro h
  refine callsA_of (D := D1 13 [] [] []) ty_ok mixed Tryd.func103 rfl (by kernel_rfl) (by kernel_rfl) (by simp [D1]) ?_
  intro g vs hr
  clear hr
  unfold longN longH
  refine Br.mk (fun h1 => ?_) (fun h1 => ?_)
  · have h1 := of_decide_eq_true h1
    exact ⟨ret2 (by rw [if_pos h1, if_pos h1]; rfl), rfl⟩
  have h1 := of_decide_eq_false h1
  rw [if_neg h1, if_neg h1]
  refine Br.mk (fun h2 => ?_) (fun h2 => ?_)
  · have h2 := of_decide_eq_true h2
    exact ⟨ret2 (by rw [if_pos h2, if_pos h2]; rfl), rfl⟩
  have h2 := of_decide_eq_false h2
  rw [if_neg h2, if_neg h2]
  refine Br.mk (fun h3 => ?_) (fun h3 => ?_)
  · have h3 := of_decide_eq_true h3
    exact ⟨ret2 (by rw [if_pos h3, if_pos h3]; rfl), rfl⟩
  have h3 := of_decide_eq_false h3
  rw [if_neg h3, if_neg h3]
  exact ⟨ret2 rfl, rfl⟩
def andU (x m : Int) : Int := IntKind.i64.wrap (IntKind.u8.wrap (BitVec.ofInt IntKind.u8.bits x &&& BitVec.ofInt IntKind.u8.bits m).toNat)
theorem and31 : ∀ n : Fin 256, 192 ≤ n.val → n.val < 224 → andU n.val 31 = (n.val : Int) - 192 := by decide +kernel
theorem and15 : ∀ n : Fin 256, 224 ≤ n.val → n.val < 240 → andU n.val 15 = (n.val : Int) - 224 := by decide +kernel
theorem and7 : ∀ n : Fin 256, 240 ≤ n.val → n.val < 248 → andU n.val 7 = (n.val : Int) - 240 := by decide +kernel
theorem and63 : ∀ n : Fin 256, 128 ≤ n.val → n.val < 192 → andU n.val 63 = (n.val : Int) - 128 := by decide +kernel
theorem not63 : ∀ n : Fin 256, (IntKind.u8.wrap (BitVec.ofInt IntKind.u8.bits (n.val : Int) &&& ~~~(BitVec.ofInt IntKind.u8.bits 63)).toNat != 128) = !(decide (128 ≤ n.val) && decide (n.val < 192)) := by decide +kernel
theorem first_pure {x : Int} (h0 : 0 ≤ x) (hx : x < 256) : PureA Tryd.prog 102 [.c (.v (.int .u8 x))] (.tup [.c (.v (.int .i64 (firstS x).1)), .c (.v (.int .i64 (firstS x).2))]) := by
  obtain ⟨n, rfl⟩ : ∃ n : Nat, x = n := ⟨x.toNat, by omega⟩
  have hn : n < 256 := by omega
  intro h
  refine callsA_of (D := D1 39 [] [] [4, 9, 12, 19, 22, 29, 32]) ty_ok mixed Tryd.func102 rfl (by kernel_rfl) (by kernel_rfl) (by simp [D1]) ?_
  intro g vs hr
  clear hr
  have w : IntKind.i64.wrap (n : Int) = n := by rw [wrap64] <;> omega
  repeat' refine Br.mk (fun _ => ?_) (fun _ => ?_)
  all_goals
    refine ⟨ret2 ?_, rfl⟩
    simp only [decide_eq_true_eq, decide_eq_false_iff_not] at *
    unfold firstS
    rcases (by omega : (n : Int) < 128 ∨ (192 ≤ (n : Int) ∧ (n : Int) < 224) ∨ (224 ≤ (n : Int) ∧ (n : Int) < 240) ∨ (240 ≤ (n : Int) ∧ (n : Int) < 248) ∨ (128 ≤ (n : Int) ∧ (n : Int) < 192 ∨ 248 ≤ (n : Int))) with e | e | e | e | e
    · first | (exfalso; omega) | (rw [if_pos e, w]; rfl)
    · first | (exfalso; omega) | (have h1 : ¬ (n : Int) < 128 := by omega
                                  rw [if_neg h1, if_pos e]; exact congrArg (Prod.mk (2 : Int)) (and31 ⟨n, hn⟩ (by show 192 ≤ n; omega) (by show n < 224; omega)))
    · first | (exfalso; omega) | (have h1 : ¬ (n : Int) < 128 := by omega
                                  have h2 : ¬ (192 ≤ (n : Int) ∧ (n : Int) < 224) := by omega
                                  rw [if_neg h1, if_neg h2, if_pos e]; exact congrArg (Prod.mk (3 : Int)) (and15 ⟨n, hn⟩ (by show 224 ≤ n; omega) (by show n < 240; omega)))
    · first | (exfalso; omega) | (have h1 : ¬ (n : Int) < 128 := by omega
                                  have h2 : ¬ (192 ≤ (n : Int) ∧ (n : Int) < 224) := by omega
                                  have h3 : ¬ (224 ≤ (n : Int) ∧ (n : Int) < 240) := by omega
                                  rw [if_neg h1, if_neg h2, if_neg h3, if_pos e]; exact congrArg (Prod.mk (4 : Int)) (and7 ⟨n, hn⟩ (by show 240 ≤ n; omega) (by show n < 248; omega)))
    · first | (exfalso; omega) | (have h1 : ¬ (n : Int) < 128 := by omega
                                  have h2 : ¬ (192 ≤ (n : Int) ∧ (n : Int) < 224) := by omega
                                  have h3 : ¬ (224 ≤ (n : Int) ∧ (n : Int) < 240) := by omega
                                  have h4 : ¬ (240 ≤ (n : Int) ∧ (n : Int) < 248) := by omega
                                  rw [if_neg h1, if_neg h2, if_neg h3, if_neg h4]; rfl)
end Go.Proofs.YtdgjpncflkpjfaaDoor

/-! The contract of utf.Get: the code at a place. -/
set_option linter.unusedVariables false
set_option linter.unusedSimpArgs false
namespace Go.Proofs.YtdgjpncflkpjfaaDoor
open Aw

def rowsB (s : ByteArray) : List (List AC) := s.data.toList.map fun b => [AC.v (.int .u8 b.toNat)]
theorem rowsB_len (s : ByteArray) : (rowsB s).length = s.size := by unfold rowsB; simp
theorem rowsB_get {s : ByteArray} {i : Nat} (h : i < s.size) : (rowsB s)[i]? = some [AC.v (.int .u8 (bt s i))] := by
  unfold rowsB bt
  rw [List.getElem?_map, Int.toNat_natCast]
  have h' : i < s.data.toList.length := by simpa using h
  rw [List.getElem?_eq_getElem h', List.getD_eq_getElem?_getD, List.getElem?_eq_getElem h']
  rfl
def accU (s : ByteArray) (p : Nat) (c : Int) : Nat → Int
  | 0 => c
  | k + 1 => accU s p c k * 64 + (bt s (p + 1 + k : Nat) - 128)
def contU (s : ByteArray) (p k : Nat) : Bool := decide (128 ≤ bt s (p + 1 + k : Nat)) && decide (bt s (p + 1 + k : Nat) < 192)
def getU (s : ByteArray) (p : Nat) : Option (Int × Nat) :=
  if p < s.size then
    if (firstS (bt s p)).1 = 0 ∨ s.size - p < (firstS (bt s p)).1 then none
    else if (List.range ((firstS (bt s p)).1 - 1)).all (contU s p) then
      if codeB (accU s p (firstS (bt s p)).2 ((firstS (bt s p)).1 - 1)) ∧ longN (accU s p (firstS (bt s p)).2 ((firstS (bt s p)).1 - 1)) = (firstS (bt s p)).1 then
        some (accU s p (firstS (bt s p)).2 ((firstS (bt s p)).1 - 1), (firstS (bt s p)).1) else none
    else none
  else none
def getAV : Option (Int × Nat) → AV
  | some (c, n) => .tup [.c (.v (.int .i64 c)), .c (.v (.int .i64 n)), .c (.v (.bool true))]
  | none => .tup [.c (.v (.int .i64 0)), .c (.v (.int .i64 0)), .c (.v (.bool false))]
theorem retU {a b : Option (Int × Nat)} (h : a = b) : AEnd.ret (getAV a) = .ret (getAV b) := by rw [h]
theorem firstS_le {x : Int} (h : 0 ≤ x) : (firstS x).1 ≤ 4 ∧ 0 ≤ (firstS x).2 ∧ (firstS x).2 < 128 := by
  unfold firstS
  repeat' split
  all_goals (refine ⟨?_, ?_, ?_⟩ <;> dsimp only <;> omega)
theorem accU_bound {s : ByteArray} {p : Nat} {c : Int} (h0 : 0 ≤ c) (h1 : c < 128) : ∀ i : Nat, (∀ k, k < i → contU s p k = true) → 0 ≤ accU s p c i ∧ accU s p c i < 128 * (64 : Int) ^ i
  | 0, _ => by simp only [accU, Int.pow_zero]; omega
  | i + 1, hc => by
    have ih := accU_bound h0 h1 i (fun k hk => hc k (by omega))
    have hci := hc i (by omega)
    unfold contU at hci
    rw [Bool.and_eq_true] at hci
    have d1 := of_decide_eq_true hci.1
    have d2 := of_decide_eq_true hci.2
    simp only [accU, Int.pow_succ]
    generalize (64 : Int) ^ i = B at *
    omega
theorem pow64 {i : Nat} (h : i ≤ 3) : (64 : Int) ^ i ≤ 262144 := by
  rcases (by omega : i = 0 ∨ i = 1 ∨ i = 2 ∨ i = 3) with e | e | e | e <;> subst e <;> decide
theorem or64 {a y : Int} (h0 : 0 ≤ a) (h1 : a < 1099511627776) (h2 : 0 ≤ y) (h3 : y < 64) : IntKind.i64.wrap (BitVec.ofInt IntKind.i64.bits (a * 64) ||| BitVec.ofInt IntKind.i64.bits y).toNat = a * 64 + y := by
  obtain ⟨n, rfl⟩ : ∃ n : Nat, a = n := ⟨a.toNat, by omega⟩
  obtain ⟨m, rfl⟩ : ∃ m : Nat, y = m := ⟨y.toNat, by omega⟩
  have e1 : (BitVec.ofInt IntKind.i64.bits ((n : Int) * 64)).toNat = n * 64 := by
    rw [BitVec.toNat_ofInt]
    show (((n : Int) * 64) % ((2 ^ 64 : Nat) : Int)).toNat = _
    omega
  have e2 : (BitVec.ofInt IntKind.i64.bits (m : Int)).toNat = m := by
    rw [BitVec.toNat_ofInt]
    show (((m : Int)) % ((2 ^ 64 : Nat) : Int)).toNat = _
    omega
  have e3 : n * 64 ||| m = n * 64 + m := by
    have := Nat.shiftLeft_add_eq_or_of_lt (b := m) (i := 6) (by omega) n
    rw [Nat.shiftLeft_eq] at this
    exact this.symm
  rw [BitVec.toNat_or, e1, e2, e3, wrap64] <;> omega
theorem accU_range {s : ByteArray} {p m : Nat} : (List.range m).all (contU s p) = true ↔ ∀ k, k < m → contU s p k = true := by
  rw [List.all_eq_true]; simp

set_option maxRecDepth 4000 in
theorem uget_pure (s : ByteArray) (hs : s.size < 1000000000) (p : Nat) (hp : p ≤ s.size) : PureA Tryd.prog 98 [.c (.sl 1 (rowsB s)), .c (.v (.int .i64 p))] (getAV (getU s p)) := by
  intro h
  refine callsA_of (D := D1 76 [] [] [15, 31, 69]) ty_ok mixed Tryd.func98 rfl (by kernel_rfl) (by kernel_rfl) (by simp [D1]) ?_
  intro g vs hr
  clear hr
  obtain ⟨O, hO⟩ : ∃ O, O = getU s p := ⟨_, rfl⟩
  rw [← hO]
  unfold getU at hO
  have none_ : O = none → AEnd.ret (AV.tup [.c (.v (.int .i64 0)), .c (.v (.int .i64 0)), .c (.v (.bool false))]) = AEnd.ret (getAV O) := fun e => by rw [e]; rfl
  refine Br.mk (fun h1 => by have := of_decide_eq_true h1; omega) (fun _ => ?_)
  refine Br.mk (fun h2 => ?_) (fun h2 => ?_)
  · rw [rowsB_len] at h2
    have h2 := of_decide_eq_true h2
    rw [if_neg (by omega)] at hO
    exact ⟨none_ hO, rfl⟩
  rw [rowsB_len] at h2
  have h2 := of_decide_eq_false h2
  have hlt : p < s.size := by omega
  rw [if_pos hlt] at hO
  refine ⟨_, ⟨by omega, rowsB_get hlt⟩, ?_⟩
  have hf := first_pure (bt_nn s p) (bt_lt s p)
  obtain ⟨n, hn⟩ : ∃ n, n = (firstS (bt s p)).1 := ⟨_, rfl⟩
  obtain ⟨c0, hc0⟩ : ∃ c0, c0 = (firstS (bt s p)).2 := ⟨_, rfl⟩
  have hfl := firstS_le (bt_nn s p)
  rw [← hn, ← hc0] at hO hfl hf
  refine ⟨_, hf, ?_⟩
  refine Br.mk (fun h3 => ?_) (fun h3 => ?_)
  · have h3 := eq_of_beq h3
    rw [if_pos (.inl (by omega))] at hO
    exact ⟨none_ hO, rfl⟩
  have h3 := ne_of_beq_false h3
  have hw1 : IntKind.i64.wrap (((rowsB s).length : Int) - p) = (s.size - p : Nat) := by rw [rowsB_len, wrap64] <;> omega
  refine Br.mk (fun h4 => ?_) (fun h4 => ?_)
  · rw [hw1] at h4
    have h4 := of_decide_eq_true h4
    rw [if_pos (.inr (by omega))] at hO
    exact ⟨none_ hO, rfl⟩
  rw [hw1] at h4
  have h4 := of_decide_eq_false h4
  rw [if_neg (by omega)] at hO
  have hw2 : IntKind.i64.wrap ((p : Int) + 1) = (p + 1 : Nat) := by rw [wrap64] <;> omega
  have hw3 : IntKind.i64.wrap ((p : Int) + (n : Nat)) = (p + n : Nat) := by rw [wrap64] <;> omega
  refine Pre.mk (by rw [hw2, hw3, rowsB_len]; omega) ?_
  have hx : ((rowsB s).take (IntKind.i64.wrap ((p : Int) + (n : Nat))).toNat).drop (IntKind.i64.wrap ((p : Int) + 1)).toNat = ((rowsB s).take (p + n)).drop (p + 1) := by rw [hw2, hw3]; rfl
  obtain ⟨X, hX⟩ : ∃ X, X = ((rowsB s).take (IntKind.i64.wrap ((p : Int) + (n : Nat))).toNat).drop (IntKind.i64.wrap ((p : Int) + 1)).toNat := ⟨_, rfl⟩
  have hXl : X.length = n - 1 := by rw [hX, hx, List.length_drop, List.length_take, rowsB_len]; omega
  have hXg : ∀ k : Nat, k < n - 1 → X[k]? = some [AC.v (.int .u8 (bt s (p + 1 + k : Nat)))] := fun k hk => by
    rw [hX, hx, List.getElem?_drop, List.getElem?_take, if_pos (by omega)]
    exact rowsB_get (by omega)
  refine LoopA.mk ⟨⟨[4, 5, 6, 7, 8, 45, 46, 47], 0, 0⟩, fun m st => ∃ (i : Nat) (j c l : Int) (Y : List (List AC)), st = ⟨[(4, .c (.v (.int .i64 0))), (5, .c (.v (.int .i64 0))), (6, .c .ff), (7, .c (.v (.int .i64 n))), (8, .c (.v (.int .i64 c))), (45, .c (.sl 1 Y)), (46, .c (.v (.int .i64 l))), (47, .c (.v (.int .i64 j)))], ⟨[], [], h⟩⟩ ∧ Y = X ∧ l = (X.length : Int) ∧ i ≤ n - 1 ∧ m = n - 1 - i ∧ j = i ∧ c = accU s p c0 i ∧ ∀ k, k < i → contU s p k = true, ⟨rfl, n - 1, _, .refl _ _, 0, _, _, _, _, rfl, hX.symm, by rw [hX], Nat.zero_le _, rfl, rfl, rfl, by simp⟩, ?_⟩
  rintro m _ ⟨i, j, c, l, Y, rfl, rfl, rfl, hi, rfl, rfl, rfl, hall⟩
  refine Br.mk (fun hb => ?_) (fun hb => ?_)
  · have hlt2 : i < n - 1 := by rw [hXl] at hb; have := of_decide_eq_true hb; omega
    refine ⟨_, ⟨by omega, hXg i hlt2⟩, ?_⟩
    obtain ⟨y, hy⟩ : ∃ y : Nat, bt s (p + 1 + i : Nat) = y := ⟨(bt s (p + 1 + i : Nat)).toNat, by have := bt_nn s (p + 1 + i : Nat); omega⟩
    have hy256 : y < 256 := by have := bt_lt s (p + 1 + i : Nat); omega
    have hnot : (IntKind.u8.wrap (BitVec.ofInt IntKind.u8.bits (y : Int) &&& ~~~(BitVec.ofInt IntKind.u8.bits 63)).toNat != 128) = !(decide (128 ≤ y) && decide (y < 192)) := not63 ⟨y, hy256⟩
    have hcb := accU_bound hfl.2.1 hfl.2.2 i hall
    have hp64 := pow64 (i := i) (by omega)
    refine Br.mk (fun h5 => ?_) (fun h5 => ?_)
    · rw [hy, hnot] at h5
      have h5 := not_t h5
      have hc : contU s p i = false := by
        unfold contU; rw [hy]
        rw [Bool.and_eq_false_iff] at h5 ⊢
        rcases h5 with h5 | h5
        · left; have := of_decide_eq_false h5; exact decide_eq_false (by omega)
        · right; have := of_decide_eq_false h5; exact decide_eq_false (by omega)
      have : ¬ (List.range (n - 1)).all (contU s p) = true := fun hh => by
        have := accU_range.1 hh i hlt2
        rw [hc] at this; cases this
      rw [if_neg this] at hO
      exact ⟨none_ hO, rfl⟩
    · rw [hy, hnot] at h5
      have h5 := not_f h5
      rw [Bool.and_eq_true] at h5
      have y1 := of_decide_eq_true h5.1
      have y2 := of_decide_eq_true h5.2
      have hc : contU s p i = true := by
        unfold contU; rw [hy, decide_eq_true (by omega), decide_eq_true (by omega)]; rfl
      have e5 : andU (bt s (p + 1 + i : Nat)) 63 = (y : Int) - 128 := by rw [hy]; exact and63 ⟨y, hy256⟩ y1 y2
      have e6 : IntKind.i64.wrap (accU s p c0 i * 2 ^ (min (6 : Int).toNat IntKind.i64.bits)) = accU s p c0 i * 64 := by
        show IntKind.i64.wrap (accU s p c0 i * 64) = _
        rw [wrap64] <;> omega
      refine Pre.mk (by decide) ?_
      refine ⟨rfl, n - 1 - (i + 1), by omega, _, .refl _ _, i + 1, _, _, _, _, rfl, rfl, rfl, by omega, rfl, by rw [wrap64] <;> omega, ?_, ?_⟩
      · show IntKind.i64.wrap (BitVec.ofInt IntKind.i64.bits (IntKind.i64.wrap (accU s p c0 i * 2 ^ (min (6 : Int).toNat IntKind.i64.bits))) ||| BitVec.ofInt IntKind.i64.bits (andU (bt s (p + 1 + i : Nat)) 63)).toNat = accU s p c0 (i + 1)
        rw [e5, e6, or64 hcb.1 (by omega) (by omega) (by omega)]
        simp only [accU]; rw [hy]
      · intro k hk
        by_cases e : k = i
        · subst e; exact hc
        · exact hall k (by omega)
  · have he : i = n - 1 := by rw [hXl] at hb; have := of_decide_eq_false hb; omega
    subst he
    rw [if_pos (accU_range.2 hall)] at hO
    refine ⟨_, long_pure _, _, code_pure _, ?_⟩
    refine Br.mk (fun h5 => ?_) (fun h5 => ?_)
    · rw [if_neg (fun hh => by rw [not_t h5] at hh; cases hh.1)] at hO
      exact ⟨none_ hO, rfl⟩
    · refine Br.mk (fun h6 => ?_) (fun h6 => ?_)
      · have h6 : ¬ longN (accU s p c0 (n - 1)) = n := by intro e; rw [e] at h6; simp at h6
        rw [if_neg (fun hh => h6 hh.2)] at hO
        exact ⟨none_ hO, rfl⟩
      · have h6 : longN (accU s p c0 (n - 1)) = n := by have := bne_eq_false_iff_eq.1 h6; omega
        rw [if_pos ⟨not_f h5, h6⟩] at hO
        exact ⟨by rw [hO]; rfl, rfl⟩
end Go.Proofs.YtdgjpncflkpjfaaDoor

/-! The codes of a text; the contracts of douaneref01.Codes and Valid (Get's is asked for). -/
set_option linter.unusedVariables false
set_option linter.unusedSimpArgs false
namespace Go.Proofs.YtdgjpncflkpjfaaDoor
open Aw

def codesU (s : ByteArray) : Nat → Nat → List Int × Nat
  | 0, p => ([], p)
  | n + 1, p => if p < s.size then match getU s p with
    | none => ([], p)
    | some (c, k) => (c :: (codesU s n (p + k)).1, (codesU s n (p + k)).2)
    else ([], p)
def u8B (s : ByteArray) : Bool := decide ((codesU s s.size 0).2 = s.size)
def rowsI (l : List Int) : List (List AC) := l.map fun c => [AC.v (.int .i64 c)]
def codesAV (r : List Int × Nat) : AV := .tup [.c (.sl 1 (rowsI r.1)), .c (.v (.int .i64 r.2))]
theorem VLe.tup2 {a b a' b' : AV} (h1 : VLe a a') (h2 : VLe b b') : VLe (.tup [a, b]) (.tup [a', b']) := by
  rintro g y ⟨ys, rfl, h⟩
  refine ⟨ys, rfl, ?_⟩
  match ys, h with
  | [_, _], h => exact ⟨h1 _ _ h.1, h2 _ _ h.2.1, trivial⟩
theorem getU_some {s : ByteArray} {p : Nat} {c : Int} {k : Nat} (h : getU s p = some (c, k)) : 1 ≤ k ∧ p + k ≤ s.size ∧ k ≤ 4 := by
  have hfl := firstS_le (bt_nn s p)
  unfold getU at h
  split at h
  · split at h
    · exact absurd h (by simp)
    · rename_i h1 h2
      split at h
      · split at h
        · simp only [Option.some.injEq, Prod.mk.injEq] at h
          obtain ⟨_, h⟩ := h
          omega
        · exact absurd h (by simp)
      · exact absurd h (by simp)
  · exact absurd h (by simp)
theorem rowsI_snoc (acc : List Int) (c : Int) : rowsI (acc ++ [c]) = rowsI acc ++ [[AC.v (.int .i64 c)]] := by simp [rowsI]
def RGetOk : Prop := ∀ (s : ByteArray), s.size < 1000000000 → ∀ p : Nat, p ≤ s.size → PureA Tryd.prog 88 [.c (.sl 1 (rowsB s)), .c (.v (.int .i64 p))] (getAV (getU s p))

set_option maxRecDepth 4000 in
theorem rcodes_pure (hG : RGetOk) (s : ByteArray) (hs : s.size < 1000000000) : PureA Tryd.prog 79 [.c (.v (.string s))] (codesAV (codesU s s.size 0)) := by
  refine PureA.le fun h => ?_
  refine callsA_of (D := D1 34 [] [] []) ty_ok mixed Tryd.func79 rfl (by kernel_rfl) (by kernel_rfl) (by simp [D1]) ?_
  intro g vs hr
  clear hr
  obtain ⟨R, hR⟩ : ∃ R, R = codesU s s.size 0 := ⟨_, rfl⟩
  rw [← hR]
  have leNil : ∀ {e : Nat} {x : Int}, R = ([], e) → x = (e : Int) → VLe (.tup [.c .nil, .c (.v (.int .i64 x))]) (codesAV R) := by
    intro e x h1 h2; subst h1 h2; exact VLe.tup2 (VLe.c (CLe.nil (by decide))) (VLe.refl _)
  have leOwn : ∀ {e : Nat} {x : Int} {acc : List Int}, R = (acc, e) → x = (e : Int) → VLe (.tup [.c (.sl 1 (rowsI acc)), .c (.v (.int .i64 x))]) (codesAV R) := by
    intro e x acc h1 h2; subst h1 h2; exact VLe.refl _
  refine LoopA.mk ⟨⟨[0, 2, 3, 4, 5], 0, 1⟩, fun n st => ∃ (i m : Nat) (j : Int) (acc : List Int), i ≤ s.size ∧ n = s.size - i ∧ j = i ∧ R = (acc ++ (codesU s m i).1, (codesU s m i).2) ∧ s.size - i ≤ m ∧ acc.length ≤ i ∧
      ((acc = [] ∧ st = ⟨[(0, .c (.v (.string s))), (2, .c .nil), (3, .c (.v (.int .i64 0))), (4, .c .nil), (5, .c (.v (.int .i64 j)))], ⟨[], [], h⟩⟩) ∨
       (∃ rows len, rows = rowsI acc ∧ len = acc.length ∧ st = ⟨[(0, .c (.v (.string s))), (2, .c .nil), (3, .c (.v (.int .i64 0))), (4, .c (.own 0 1 rows)), (5, .c (.v (.int .i64 j)))], ⟨[], [(3, 1, len)], h⟩⟩)), ⟨rfl, s.size, _, .refl _ _, 0, s.size, _, [], Nat.zero_le _, rfl, rfl, by rw [hR]; rfl, Nat.le_refl _, Nat.le_refl _, .inl ⟨rfl, rfl⟩⟩, ?_⟩
  rintro n _ ⟨i, m, j, acc, hi, rfl, rfl, hRF, hm, hacc, hst⟩
  have hend : ¬ i < s.size → R = (acc, i) := fun hn => by
    rw [hRF]; cases m with
    | zero => simp [codesU]
    | succ m => simp only [codesU]; rw [if_neg hn]; simp
  have hno : i < s.size → getU s i = none → R = (acc, i) := fun hl hg => by
    obtain ⟨m, rfl⟩ : ∃ m', m = m' + 1 := ⟨m - 1, by omega⟩
    rw [hRF]; simp only [codesU]; rw [if_pos hl, hg]; simp
  have hyes : ∀ c k, i < s.size → getU s i = some (c, k) → ∃ m', m = m' + 1 ∧ R = ((acc ++ [c]) ++ (codesU s m' (i + k)).1, (codesU s m' (i + k)).2) := fun c k hl hg => by
    obtain ⟨m, rfl⟩ : ∃ m', m = m' + 1 := ⟨m - 1, by omega⟩
    refine ⟨m, rfl, ?_⟩
    rw [hRF]; simp only [codesU]; rw [if_pos hl, hg]; simp
  have hconv : s.size ≤ lenMax := by unfold lenMax; omega
  have hget := hG s hs i hi
  have hpre : ∀ len : Nat, len ≤ i → 3 = 3 ∧ 1 = 1 ∧ 1 = 1 ∧ len = len ∧ (len + 1) * 8 ≤ lenMax ∧ len + 1 ≤ lenMax := fun len h => ⟨rfl, rfl, rfl, rfl, by unfold lenMax; omega, by unfold lenMax; omega⟩
  have hpre0 : 0 < 1 ∧ 1 * 8 ≤ lenMax ∧ 1 ≤ lenMax := by unfold lenMax; omega
  rcases hst with ⟨rfl, rfl⟩ | ⟨rows, len, rfl, rfl, rfl⟩
  · refine Br.mk (fun h1 => ?_) (fun h1 => ?_)
    · have hl : i < s.size := by have := of_decide_eq_true h1; omega
      cases hg : getU s i with
      | none =>
        rw [hg] at hget
        exact Pre.mk hconv ⟨_, hget, Br.mk (fun _ => ⟨⟨_, rfl, leNil (hno hl hg) rfl⟩, rfl⟩) (fun h => by cases h)⟩
      | some ck =>
        obtain ⟨c, k⟩ := ck
        rw [hg] at hget
        obtain ⟨m', rfl, hR'⟩ := hyes c k hl hg
        have hk := getU_some hg
        refine Pre.mk hconv ⟨_, hget, Br.mk (fun h => by cases h) (fun _ => Pre.mk hpre0 ?_)⟩
        exact ⟨rfl, s.size - (i + k), by omega, _, .refl _ _, i + k, m', _, [c], by omega, rfl, by rw [wrap64] <;> omega, hR', by omega, by simp; omega, .inr ⟨_, _, rfl, rfl, rfl⟩⟩
    · exact ⟨⟨_, rfl, leNil (hend (by have := of_decide_eq_false h1; omega)) rfl⟩, rfl⟩
  · refine Br.mk (fun h1 => ?_) (fun h1 => ?_)
    · have hl : i < s.size := by have := of_decide_eq_true h1; omega
      cases hg : getU s i with
      | none =>
        rw [hg] at hget
        exact Pre.mk hconv ⟨_, hget, Br.mk (fun _ => ⟨⟨_, rfl, leOwn (hno hl hg) rfl⟩, rfl⟩) (fun h => by cases h)⟩
      | some ck =>
        obtain ⟨c, k⟩ := ck
        rw [hg] at hget
        obtain ⟨m', rfl, hR'⟩ := hyes c k hl hg
        have hk := getU_some hg
        have hp := hpre acc.length hacc
        refine Pre.mk hconv ⟨_, hget, Br.mk (fun h => by cases h) (fun _ => Pre.mk ⟨rfl, rfl, rfl, by simp [rowsI], hp.2.2.2.2⟩ ?_)⟩
        exact ⟨rfl, s.size - (i + k), by omega, _, .refl _ _, i + k, m', _, acc ++ [c], by omega, rfl, by rw [wrap64] <;> omega, hR', by omega, by simp; omega, .inr ⟨_, _, (rowsI_snoc acc c).symm, by simp, rfl⟩⟩
    · exact ⟨⟨_, rfl, leOwn (hend (by have := of_decide_eq_false h1; omega)) rfl⟩, rfl⟩

theorem rvalid_pure (hG : RGetOk) : RValidOk u8B := by
  intro s hs h
  refine callsA_of (D := D1 14 [] [] []) ty_ok mixed Tryd.func68 rfl (by kernel_rfl) (by kernel_rfl) (by simp [D1]) ?_
  intro g vs hr
  clear hr
  have hc := rcodes_pure hG s (by omega)
  refine ⟨_, hc, ret_b ?_, rfl⟩
  unfold u8B
  by_cases e : (codesU s s.size 0).2 = s.size
  · rw [decide_eq_true e, e]; simp
  · rw [decide_eq_false e]; simp; omega
end Go.Proofs.YtdgjpncflkpjfaaDoor

/-! utf.Count and utf.Valid (the contract of utf.Codes is asked for). -/
set_option linter.unusedVariables false
set_option linter.unusedSimpArgs false
namespace Go.Proofs.YtdgjpncflkpjfaaDoor
open Aw

def UCodesOk : Prop := ∀ (s : ByteArray), s.size < 1000000000 → PureA Tryd.prog 80 [.c (.v (.string s))] (codesAV (codesU s s.size 0))
theorem codesU_le {s : ByteArray} : ∀ (n p : Nat), p ≤ s.size → (codesU s n p).2 ≤ s.size ∧ (codesU s n p).1.length ≤ n
  | 0, p, hp => by simp [codesU, hp]
  | n + 1, p, hp => by
    simp only [codesU]
    split
    · cases hg : getU s p with
      | none => simp [hp]
      | some ck =>
        obtain ⟨c, k⟩ := ck
        have := getU_some hg
        have := codesU_le (s := s) n (p + k) (by omega)
        simp; omega
    · simp [hp]
theorem ucount_pure (hC : UCodesOk) (s : ByteArray) (hs : s.size < 1000000000) : PureA Tryd.prog 69 [.c (.v (.string s))] (.c (.v (.int .i64 (if u8B s then ((codesU s s.size 0).1.length : Int) else -1)))) := by
  intro h
  refine callsA_of (D := D1 16 [] [] []) ty_ok mixed Tryd.func69 rfl (by kernel_rfl) (by kernel_rfl) (by simp [D1]) ?_
  intro g vs hr
  clear hr
  have hc := hC s hs
  have hle := (codesU_le (s := s) s.size 0 (Nat.zero_le _)).1
  refine ⟨_, hc, Br.mk (fun h1 => ?_) (fun h1 => ?_)⟩
  · have h1 := of_decide_eq_true h1
    have : u8B s = false := by unfold u8B; exact decide_eq_false (by omega)
    exact ⟨ret_i (by rw [this]; rfl), rfl⟩
  · have h1 := of_decide_eq_false h1
    have : u8B s = true := by unfold u8B; exact decide_eq_true (by omega)
    exact ⟨ret_i (by rw [this]; simp [rowsI]), rfl⟩
theorem valid_pure (hC : UCodesOk) : ValidOk u8B := by
  intro s hs h
  refine callsA_of (D := D1 6 [] [] []) ty_ok mixed Tryd.func51 rfl (by kernel_rfl) (by kernel_rfl) (by simp [D1]) ?_
  intro g vs hr
  clear hr
  have hc := ucount_pure hC s (by omega)
  refine ⟨_, hc, ret_b ?_, rfl⟩
  cases u8B s with
  | true => exact decide_eq_true (by simp)
  | false => rfl
end Go.Proofs.YtdgjpncflkpjfaaDoor
