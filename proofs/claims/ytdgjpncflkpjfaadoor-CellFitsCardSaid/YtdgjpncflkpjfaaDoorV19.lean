/- douaneref01: Code, Put, Bytes. douaneref01: Put. douaneref01: Get (the plain law of its rounds is asked for). The plain law of douaneref01.Get: the first half. The plain law of douaneref01.Get: whole. -/
import Derived.Test.YtdgjpncflkpjfaaDoorV15
/-! douaneref01: Code, Put, Bytes. -/
set_option linter.unusedVariables false
set_option linter.unusedSimpArgs false
namespace Go.Proofs.YtdgjpncflkpjfaaDoor
open Aw

theorem rcode_pure (c : Int) : PureA Tryd.prog 101 [.c (.v (.int .i64 c))] (.c (.v (.bool (codeB c)))) := by
  intro h
  refine callsA_of (D := D1 17 [] [] [5, 9, 12]) ty_ok mixed Tryd.func101 rfl (by kernel_rfl) (by kernel_rfl) (by simp [D1]) ?_
  intro g vs hr
  clear hr
  repeat' refine Br.mk (fun _ => ?_) (fun _ => ?_)
  all_goals
    refine ⟨ret_b ?_, rfl⟩
    unfold codeB
    simp only [decide_eq_true_eq, decide_eq_false_iff_not] at *
    try simp only [decide_eq_decide]
    first | (rw [eq_comm, decide_eq_true_eq]; omega) | (rw [eq_comm, decide_eq_false_iff_not]; omega) | omega

def rowsN (l : List Int) : List (List AC) := l.map fun b => [AC.v (.int .u8 b)]
theorem rowsN_len (l : List Int) : (rowsN l).length = l.length := by simp [rowsN]
theorem rowsN_get {l : List Int} {i : Nat} (h : i < l.length) : (rowsN l)[i]? = some [AC.v (.int .u8 l[i])] := by
  unfold rowsN; rw [List.getElem?_map, List.getElem?_eq_getElem h]; rfl
theorem bytes_pure (a b : List Int) (ha : a.length < 1000000) : PureA Tryd.prog 95 [.c (.sl 1 (rowsN a)), .c (.sl 1 (rowsN b))] (.c (.v (.bool (decide (a = b))))) := by
  intro h
  refine callsA_of (D := D1 26 [] [] []) ty_ok mixed Tryd.func95 rfl (by kernel_rfl) (by kernel_rfl) (by simp [D1]) ?_
  intro g vs hr
  clear hr
  refine Br.mk (fun h1 => ?_) (fun h1 => ?_)
  · rw [rowsN_len, rowsN_len] at h1
    have : ¬ a = b := fun e => by rw [e] at h1; simp at h1
    exact ⟨ret_b (decide_eq_false this).symm, rfl⟩
  rw [rowsN_len, rowsN_len] at h1
  have hl : a.length = b.length := by have := bne_eq_false_iff_eq.1 h1; omega
  refine LoopA.mk ⟨⟨[0, 1, 4, 5], 0, 0⟩, fun n st => ∃ (i : Nat) (j : Int), st = ⟨[(0, .c (.sl 1 (rowsN a))), (1, .c (.sl 1 (rowsN b))), (4, .c .ff), (5, .c (.v (.int .i64 j)))], ⟨[], [], h⟩⟩ ∧ i ≤ a.length ∧ n = a.length - i ∧ j = i ∧ a.take i = b.take i, ⟨rfl, a.length, _, .refl _ _, 0, _, rfl, Nat.zero_le _, rfl, rfl, rfl⟩, ?_⟩
  rintro n _ ⟨i, j, rfl, hi, rfl, rfl, heq⟩
  refine Br.mk (fun hb => ?_) (fun hb => ?_)
  · rw [rowsN_len] at hb
    have hlt : i < a.length := by have := of_decide_eq_true hb; omega
    have hlt' : i < b.length := by omega
    refine Pre.mk (by kernel_rfl) ?_
    refine ⟨_, ⟨by omega, rowsN_get hlt⟩, _, ⟨by omega, rowsN_get hlt'⟩, ?_⟩
    refine Br.mk (fun h2 => ?_) (fun h2 => ?_)
    · have h2 : a[i] ≠ b[i] := by simpa using h2
      have : ¬ a = b := fun e => h2 (by subst e; rfl)
      exact ⟨ret_b (decide_eq_false this).symm, rfl⟩
    · have h2 : a[i] = b[i] := by simpa using h2
      refine ⟨rfl, a.length - (i + 1), by omega, _, .refl _ _, i + 1, _, rfl, by omega, rfl, by rw [wrap64] <;> omega, ?_⟩
      rw [List.take_succ_eq_append_getElem hlt, List.take_succ_eq_append_getElem hlt', heq, h2]
  · rw [rowsN_len] at hb
    have he : i = a.length := by have := of_decide_eq_false hb; omega
    have : a = b := by
      have h1 := List.take_of_length_le (Nat.le_of_eq he.symm)
      have h2 := List.take_of_length_le (l := b) (i := i) (by omega)
      rw [← h1, heq, h2]
    exact ⟨ret_b (decide_eq_true this).symm, rfl⟩
end Go.Proofs.YtdgjpncflkpjfaaDoor

/-! douaneref01: Put. -/
set_option linter.unusedVariables false
set_option linter.unusedSimpArgs false
namespace Go.Proofs.YtdgjpncflkpjfaaDoor
open Aw

def putS (c : Int) : List Int :=
  if codeB c then
    if c < 128 then [c]
    else if c < 2048 then [192 + c / 64, 128 + c % 64]
    else if c < 65536 then [224 + c / 4096, 128 + c / 64 % 64, 128 + c % 64]
    else [240 + c / 262144, 128 + c / 4096 % 64, 128 + c / 64 % 64, 128 + c % 64]
  else []
theorem lePut {l m : List Int} (h : l = m) : VLe (.c (.sl 1 (rowsN l))) (.c (.sl 1 (rowsN m))) := by rw [h]; exact VLe.refl _
set_option maxRecDepth 4000 in
theorem put_pure (c : Int) : PureA Tryd.prog 96 [.c (.v (.int .i64 c))] (.c (.sl 1 (rowsN (putS c)))) := by
  refine PureA.le fun h => ?_
  refine callsA_of (D := D1 57 [] [] []) ty_ok mixed Tryd.func96 rfl (by kernel_rfl) (by kernel_rfl) (by simp [D1]) ?_
  intro g vs hr
  clear hr
  refine ⟨_, rcode_pure c, Br.mk (fun h1 => ?_) (fun h1 => ?_)⟩
  · have : putS c = [] := by unfold putS; rw [if_neg (by rw [not_t h1]; exact Bool.false_ne_true)]
    rw [this]
    exact ⟨⟨_, rfl, VLe.c (CLe.nil (by decide))⟩, rfl⟩
  have hc := not_f h1
  have hb := of_decide_eq_true (show decide (0 ≤ c ∧ c ≤ 1114111 ∧ (c < 55296 ∨ 57343 < c)) = true from hc)
  obtain ⟨L, hL⟩ : ∃ L, L = putS c := ⟨_, rfl⟩
  rw [← hL]
  unfold putS at hL
  rw [if_pos hc] at hL
  have dv : ∀ m : Int, 0 < m → IntKind.i64.wrap (c.tdiv m) = c / m := fun m hm => by
    rw [Int.tdiv_eq_ediv_of_nonneg hb.1]
    have h1 : 0 ≤ c / m := Int.ediv_nonneg hb.1 (by omega)
    have h2 : c / m ≤ c := Int.ediv_le_self _ hb.1
    rw [wrap64] <;> omega
  have d64 := dv 64 (by decide)
  have d4096 := dv 4096 (by decide)
  have d262 := dv 262144 (by decide)
  have m0 : c.tmod 64 = c % 64 := Int.tmod_eq_emod_of_nonneg hb.1
  have m1 : (c / 64).tmod 64 = c / 64 % 64 := Int.tmod_eq_emod_of_nonneg (by omega)
  have m2 : (c / 4096).tmod 64 = c / 4096 % 64 := Int.tmod_eq_emod_of_nonneg (by omega)
  have ww : ∀ x : Int, 0 ≤ x → x < 256 → IntKind.u8.wrap (IntKind.i64.wrap x) = x := fun x h0 h1 => by rw [wrap64 (by omega) (by omega), wrapu8 h0 h1]
  refine Br.mk (fun h2 => ?_) (fun h2 => ?_)
  · have h2 := of_decide_eq_true h2
    rw [if_pos h2] at hL
    exact ⟨⟨_, rfl, lePut (l := [IntKind.u8.wrap c]) (by rw [hL, wrapu8 hb.1 (by omega)])⟩, rfl⟩
  have h2 := of_decide_eq_false h2
  rw [if_neg h2] at hL
  refine Br.mk (fun h3 => ?_) (fun h3 => ?_)
  · have h3 := of_decide_eq_true h3
    rw [if_pos h3] at hL
    refine Pre.mk (by decide) (Pre.mk (by decide) ?_)
    exact ⟨⟨_, rfl, lePut (l := [IntKind.u8.wrap (IntKind.i64.wrap (192 + IntKind.i64.wrap (c.tdiv 64))), IntKind.u8.wrap (IntKind.i64.wrap (128 + c.tmod 64))]) (by rw [hL, d64, m0, ww _ (by omega) (by omega), ww _ (by omega) (by omega)])⟩, rfl⟩
  have h3 := of_decide_eq_false h3
  rw [if_neg h3] at hL
  refine Br.mk (fun h4 => ?_) (fun h4 => ?_)
  · have h4 := of_decide_eq_true h4
    rw [if_pos h4] at hL
    refine Pre.mk (by decide) (Pre.mk (by decide) (Pre.mk (by decide) (Pre.mk (by decide) ?_)))
    exact ⟨⟨_, rfl, lePut (l := [IntKind.u8.wrap (IntKind.i64.wrap (224 + IntKind.i64.wrap (c.tdiv 4096))), IntKind.u8.wrap (IntKind.i64.wrap (128 + (IntKind.i64.wrap (c.tdiv 64)).tmod 64)), IntKind.u8.wrap (IntKind.i64.wrap (128 + c.tmod 64))]) (by rw [hL, d4096, d64, m0, m1, ww _ (by omega) (by omega), ww _ (by omega) (by omega), ww _ (by omega) (by omega)])⟩, rfl⟩
  have h4 := of_decide_eq_false h4
  rw [if_neg h4] at hL
  refine Pre.mk (by decide) (Pre.mk (by decide) (Pre.mk (by decide) (Pre.mk (by decide) (Pre.mk (by decide) (Pre.mk (by decide) ?_)))))
  exact ⟨⟨_, rfl, lePut (l := [IntKind.u8.wrap (IntKind.i64.wrap (240 + IntKind.i64.wrap (c.tdiv 262144))), IntKind.u8.wrap (IntKind.i64.wrap (128 + (IntKind.i64.wrap (c.tdiv 4096)).tmod 64)), IntKind.u8.wrap (IntKind.i64.wrap (128 + (IntKind.i64.wrap (c.tdiv 64)).tmod 64)), IntKind.u8.wrap (IntKind.i64.wrap (128 + c.tmod 64))]) (by rw [hL, d262, d4096, d64, m0, m1, m2, ww _ (by omega) (by omega), ww _ (by omega) (by omega), ww _ (by omega) (by omega), ww _ (by omega) (by omega)])⟩, rfl⟩
end Go.Proofs.YtdgjpncflkpjfaaDoor

/-! douaneref01: Get (the plain law of its rounds is asked for). -/
set_option linter.unusedVariables false
set_option linter.unusedSimpArgs false
namespace Go.Proofs.YtdgjpncflkpjfaaDoor
open Aw

def lead (x : Int) : Int := if x ≥ 240 then x - 240 else if x ≥ 224 then x - 224 else if x ≥ 192 then x - 192 else x
def cR (s : ByteArray) (p : Nat) : Nat → Int
  | 0 => 0
  | 1 => lead (bt s p)
  | n + 2 => cR s p (n + 1) * 64 + bt s (p + (n + 1) : Nat) % 64
def bytesAt (s : ByteArray) (p n : Nat) : List Int := (List.range n).map fun k => bt s (p + k : Nat)
def RGetLaw : Prop := (∀ (s : ByteArray) (p n : Nat), 1 ≤ n → n ≤ 4 → p + n ≤ s.size → (putS (cR s p n) = bytesAt s p n ↔ getU s p = some (cR s p n, n))) ∧ ∀ (s : ByteArray) (p : Nat) (c : Int) (k : Nat), getU s p = some (c, k) → c = cR s p k
theorem putS_len (c : Int) : (putS c).length < 1000000 := by
  unfold putS
  repeat' split
  all_goals simp
theorem rows_at {s : ByteArray} {p n : Nat} (h : p + n ≤ s.size) : ((rowsB s).take (p + n)).drop p = rowsN (bytesAt s p n) := by
  apply List.ext_getElem?
  intro k
  rw [List.getElem?_drop, List.getElem?_take]
  unfold rowsN bytesAt
  by_cases hk : k < n
  · rw [if_pos (by omega), rowsB_get (by omega)]
    simp [hk]
  · rw [if_neg (by omega)]
    simp [hk]
theorem cR_bound (s : ByteArray) (p : Nat) : ∀ n : Nat, 0 ≤ cR s p n ∧ cR s p n < 256 * (64 : Int) ^ n
  | 0 => by simp [cR]
  | 1 => by
    have h1 := bt_nn s p
    have h2 := bt_lt s p
    simp only [cR, lead]
    repeat' split
    all_goals (refine ⟨?_, ?_⟩ <;> omega)
  | n + 2 => by
    have ih := cR_bound s p (n + 1)
    have h1 := bt_nn s (p + (n + 1) : Nat)
    simp only [cR]
    rw [Int.pow_succ]
    generalize (64 : Int) ^ (n + 1) = B at *
    omega

theorem pureI {f : Nat} {k : IntKind} {x y : Int} {r : AV} (h : x = y) (hp : PureA Tryd.prog f [.c (.v (.int k y))] r) : PureA Tryd.prog f [.c (.v (.int k x))] r := h ▸ hp
theorem pureB {f : Nat} {a : AV} {x y : List (List AC)} {r : AV} (h : x = y) (hp : PureA Tryd.prog f [a, .c (.sl 1 y)] r) : PureA Tryd.prog f [a, .c (.sl 1 x)] r := h ▸ hp
theorem retG {O : Option (Int × Nat)} {c x : Int} {n : Nat} (h : O = some (c, n)) (hx : x = c) : AEnd.ret (AV.tup [.c (.v (.int .i64 x)), .c (.v (.int .i64 n)), .c (.v (.bool true))]) = AEnd.ret (getAV O) := by subst h hx; rfl
set_option maxRecDepth 4000 in
theorem rget_pure (hlaw : RGetLaw) : RGetOk := by
  intro s hs p hp h
  refine callsA_of (D := D1 69 [] [] [12, 20]) ty_ok mixed Tryd.func88 rfl (by kernel_rfl) (by kernel_rfl) (by simp [D1]) ?_
  intro g vs hr
  clear hr
  obtain ⟨O, hO⟩ : ∃ O, O = getU s p := ⟨_, rfl⟩
  rw [← hO]
  have none_ : O = none → AEnd.ret (AV.tup [.c (.v (.int .i64 0)), .c (.v (.int .i64 0)), .c (.v (.bool false))]) = AEnd.ret (getAV O) := fun e => by rw [e]; rfl
  refine Br.mk (fun h1 => by have := of_decide_eq_true h1; omega) (fun _ => ?_)
  refine Br.mk (fun h2 => ?_) (fun h2 => ?_)
  · rw [rowsB_len] at h2
    have h2 := of_decide_eq_true h2
    unfold getU at hO
    rw [if_neg (by omega)] at hO
    exact ⟨none_ hO, rfl⟩
  rw [rowsB_len] at h2
  have h2 := of_decide_eq_false h2
  have hlt : p < s.size := by omega
  refine LoopA.mk ⟨⟨[0, 1, 4, 5, 6, 7, 8], 0, 0⟩, fun m st => ∃ (n : Nat) (j c : Int), st = ⟨[(0, .c (.sl 1 (rowsB s))), (1, .c (.v (.int .i64 p))), (4, .c (.v (.int .i64 0))), (5, .c (.v (.int .i64 0))), (6, .c .ff), (7, .c (.v (.int .i64 c))), (8, .c (.v (.int .i64 j)))], ⟨[], [], h⟩⟩ ∧ n ≤ 4 ∧ p + n ≤ s.size ∧ m = 5 - n ∧ j = (n + 1 : Nat) ∧ c = cR s p n ∧ ∀ k, 1 ≤ k → k ≤ n → getU s p ≠ some (cR s p k, k), ⟨rfl, 5, _, .refl _ _, 0, _, _, rfl, by omega, hp, rfl, rfl, rfl, fun k h1 h2 => by omega⟩, ?_⟩
  rintro m _ ⟨n, j, c, rfl, hn4, hpn, rfl, rfl, rfl, hprev⟩
  have hend : ¬ (n + 1 ≤ 4 ∧ p + (n + 1) ≤ s.size) → O = none := fun hh => by
    rw [hO]
    cases hg : getU s p with
    | none => rfl
    | some ck =>
      exfalso
      obtain ⟨c, k⟩ := ck
      have hk := getU_some hg
      have hcr := hlaw.2 s p c k hg
      subst hcr
      exact hprev k hk.1 (by omega) hg
  have hw : IntKind.i64.wrap (((rowsB s).length : Int) - p) = (s.size - p : Nat) := by rw [rowsB_len, wrap64] <;> omega
  refine Br.mk (fun h3 => ?_) (fun h3 => ?_)
  · have h3 := of_decide_eq_true h3
    refine Br.mk (fun h4 => ?_) (fun h4 => ?_)
    · rw [hw] at h4
      have h4 := of_decide_eq_true h4
      have hlen4 : p + (n + 1) ≤ s.size := by omega
      have hiff := hlaw.1 s p (n + 1) (by omega) (by omega) hlen4
      have hi1 : IntKind.i64.wrap ((p : Int) + (n + 1 : Nat)) = (p + (n + 1) : Nat) := by rw [wrap64] <;> omega
      have hi2 : IntKind.i64.wrap (IntKind.i64.wrap ((p : Int) + (n + 1 : Nat)) - 1) = (p + n : Nat) := by rw [hi1, wrap64] <;> omega
      have hsl : 0 ≤ (p : Int) ∧ (p : Int) ≤ IntKind.i64.wrap ((p : Int) + (n + 1 : Nat)) ∧ IntKind.i64.wrap ((p : Int) + (n + 1 : Nat)) ≤ ((rowsB s).length : Int) := by rw [hi1, rowsB_len]; omega
      have hrows : ((rowsB s).take (IntKind.i64.wrap ((p : Int) + (n + 1 : Nat))).toNat).drop (p : Int).toNat = rowsN (bytesAt s p (n + 1)) := by rw [hi1]; exact rows_at hlen4
      have hputl : (putS (cR s p (n + 1))).length < 1000000 := putS_len _
      have hx0 := bt_nn s (p + n : Nat)
      have hx1 := bt_lt s (p + n : Nat)
      have hwx : IntKind.i64.wrap (bt s (p + n : Nat)) = bt s (p + n : Nat) := by rw [wrap64] <;> omega
      refine ⟨[AC.v (.int .u8 (bt s (p + n : Nat)))], ⟨by rw [hi2]; omega, by rw [hi2]; exact rowsB_get (by omega)⟩, ?_⟩
      refine Br.mk (fun h5 => ?_) (fun h5 => ?_)
      · have h5 := eq_of_beq h5
        have hn0 : n = 0 := by omega
        have hc1 : cR s p (n + 1) = lead (bt s (p + n : Nat)) := by subst hn0; rfl
        unfold lead at hc1
        refine Br.mk (fun h6 => ?_) (fun h6 => ?_)
        · rw [hwx] at h6
          have h6 := of_decide_eq_true h6
          have hcr : IntKind.i64.wrap (IntKind.i64.wrap (bt s (p + n : Nat)) - 240) = cR s p (n + 1) := by rw [hc1, if_pos h6, hwx, wrap64] <;> omega
          refine Pre.mk (by kernel_rfl) ?_
          refine ⟨_, pureI hcr (put_pure (cR s p (n + 1))), ?_⟩
          refine Pre.mk hsl ?_
          refine ⟨_, pureB hrows (bytes_pure (putS (cR s p (n + 1))) (bytesAt s p (n + 1)) hputl), ?_⟩
          refine Br.mk (fun h7 => ?_) (fun h7 => ?_)
          · exact ⟨retG (hO.trans (hiff.1 (of_decide_eq_true h7))) hcr, rfl⟩
          · refine ⟨rfl, 5 - (n + 1), by omega, _, .refl _ _, n + 1, _, _, rfl, by omega, by omega, rfl, by rw [wrap64] <;> omega, hcr, ?_⟩
            intro k hk1 hk2
            by_cases e : k = n + 1
            · subst e; exact fun hg => of_decide_eq_false h7 (hiff.2 hg)
            · exact hprev k hk1 (by omega)
        rw [hwx] at h6
        have h6 := of_decide_eq_false h6
        rw [if_neg h6] at hc1
        refine Br.mk (fun h6 => ?_) (fun h6 => ?_)
        · rw [hwx] at h6
          have h6 := of_decide_eq_true h6
          have hcr : IntKind.i64.wrap (IntKind.i64.wrap (bt s (p + n : Nat)) - 224) = cR s p (n + 1) := by rw [hc1, if_pos h6, hwx, wrap64] <;> omega
          refine Pre.mk (by kernel_rfl) ?_
          refine ⟨_, pureI hcr (put_pure (cR s p (n + 1))), ?_⟩
          refine Pre.mk hsl ?_
          refine ⟨_, pureB hrows (bytes_pure (putS (cR s p (n + 1))) (bytesAt s p (n + 1)) hputl), ?_⟩
          refine Br.mk (fun h7 => ?_) (fun h7 => ?_)
          · exact ⟨retG (hO.trans (hiff.1 (of_decide_eq_true h7))) hcr, rfl⟩
          · refine ⟨rfl, 5 - (n + 1), by omega, _, .refl _ _, n + 1, _, _, rfl, by omega, by omega, rfl, by rw [wrap64] <;> omega, hcr, ?_⟩
            intro k hk1 hk2
            by_cases e : k = n + 1
            · subst e; exact fun hg => of_decide_eq_false h7 (hiff.2 hg)
            · exact hprev k hk1 (by omega)
        rw [hwx] at h6
        have h6 := of_decide_eq_false h6
        rw [if_neg h6] at hc1
        refine Br.mk (fun h6 => ?_) (fun h6 => ?_)
        · rw [hwx] at h6
          have h6 := of_decide_eq_true h6
          have hcr : IntKind.i64.wrap (IntKind.i64.wrap (bt s (p + n : Nat)) - 192) = cR s p (n + 1) := by rw [hc1, if_pos h6, hwx, wrap64] <;> omega
          refine Pre.mk (by kernel_rfl) ?_
          refine ⟨_, pureI hcr (put_pure (cR s p (n + 1))), ?_⟩
          refine Pre.mk hsl ?_
          refine ⟨_, pureB hrows (bytes_pure (putS (cR s p (n + 1))) (bytesAt s p (n + 1)) hputl), ?_⟩
          refine Br.mk (fun h7 => ?_) (fun h7 => ?_)
          · exact ⟨retG (hO.trans (hiff.1 (of_decide_eq_true h7))) hcr, rfl⟩
          · refine ⟨rfl, 5 - (n + 1), by omega, _, .refl _ _, n + 1, _, _, rfl, by omega, by omega, rfl, by rw [wrap64] <;> omega, hcr, ?_⟩
            intro k hk1 hk2
            by_cases e : k = n + 1
            · subst e; exact fun hg => of_decide_eq_false h7 (hiff.2 hg)
            · exact hprev k hk1 (by omega)
        rw [hwx] at h6
        have h6 := of_decide_eq_false h6
        rw [if_neg h6] at hc1
        have hcr : IntKind.i64.wrap (bt s (p + n : Nat)) = cR s p (n + 1) := by rw [hc1, hwx]
        refine Pre.mk (by kernel_rfl) ?_
        refine ⟨_, pureI hcr (put_pure (cR s p (n + 1))), ?_⟩
        refine Pre.mk hsl ?_
        refine ⟨_, pureB hrows (bytes_pure (putS (cR s p (n + 1))) (bytesAt s p (n + 1)) hputl), ?_⟩
        refine Br.mk (fun h7 => ?_) (fun h7 => ?_)
        · exact ⟨retG (hO.trans (hiff.1 (of_decide_eq_true h7))) hcr, rfl⟩
        · refine ⟨rfl, 5 - (n + 1), by omega, _, .refl _ _, n + 1, _, _, rfl, by omega, by omega, rfl, by rw [wrap64] <;> omega, hcr, ?_⟩
          intro k hk1 hk2
          by_cases e : k = n + 1
          · subst e; exact fun hg => of_decide_eq_false h7 (hiff.2 hg)
          · exact hprev k hk1 (by omega)
      · have h5 := ne_of_beq_false h5
        obtain ⟨n', rfl⟩ : ∃ n', n = n' + 1 := ⟨n - 1, by omega⟩
        have hc1 : cR s p (n' + 1 + 1) = cR s p (n' + 1) * 64 + bt s (p + (n' + 1) : Nat) % 64 := rfl
        have hcb := cR_bound s p (n' + 1)
        have hpw : (64 : Int) ^ (n' + 1) ≤ 262144 := pow64 (by omega)
        have hm : (IntKind.i64.wrap (bt s (p + (n' + 1) : Nat))).tmod 64 = bt s (p + (n' + 1) : Nat) % 64 := by rw [hwx]; exact Int.tmod_eq_emod_of_nonneg hx0
        have hcr : IntKind.i64.wrap (IntKind.i64.wrap (cR s p (n' + 1) * 64) + (IntKind.i64.wrap (bt s (p + (n' + 1) : Nat))).tmod 64) = cR s p (n' + 1 + 1) := by
          rw [hm, wrap64 (x := cR s p (n' + 1) * 64) (by omega) (by omega), hc1, wrap64] <;> omega
        refine Pre.mk (by decide) ?_
        refine Pre.mk (by kernel_rfl) ?_
        refine ⟨_, pureI hcr (put_pure (cR s p (n' + 1 + 1))), ?_⟩
        refine Pre.mk hsl ?_
        refine ⟨_, pureB hrows (bytes_pure (putS (cR s p (n' + 1 + 1))) (bytesAt s p (n' + 1 + 1)) hputl), ?_⟩
        refine Br.mk (fun h7 => ?_) (fun h7 => ?_)
        · exact ⟨retG (hO.trans (hiff.1 (of_decide_eq_true h7))) hcr, rfl⟩
        · refine ⟨rfl, 5 - (n' + 1 + 1), by omega, _, .refl _ _, n' + 1 + 1, _, _, rfl, by omega, by omega, rfl, by rw [wrap64] <;> omega, hcr, ?_⟩
          intro k hk1 hk2
          by_cases e : k = n' + 1 + 1
          · subst e; exact fun hg => of_decide_eq_false h7 (hiff.2 hg)
          · exact hprev k hk1 (by omega)
    · rw [hw] at h4
      have h4 := of_decide_eq_false h4
      exact ⟨none_ (hend (by omega)), rfl⟩
  · have h3 := of_decide_eq_false h3
    exact ⟨none_ (hend (by omega)), rfl⟩
end Go.Proofs.YtdgjpncflkpjfaaDoor

/-! The plain law of douaneref01.Get: the first half. -/
set_option linter.unusedVariables false
set_option linter.unusedSimpArgs false
namespace Go.Proofs.YtdgjpncflkpjfaaDoor
open Aw

/-- What getU says, written out. -/
theorem getU_iff {s : ByteArray} {p : Nat} {c : Int} {k : Nat} : getU s p = some (c, k) ↔ p < s.size ∧ (firstS (bt s p)).1 = k ∧ k ≠ 0 ∧ p + k ≤ s.size ∧ (∀ i, i < k - 1 → contU s p i = true) ∧ accU s p (firstS (bt s p)).2 (k - 1) = c ∧ codeB c = true ∧ longN c = k := by
  unfold getU
  constructor
  · intro h
    split at h
    · split at h
      · exact absurd h (by simp)
      · rename_i h1 h2
        split at h
        · rename_i h3
          split at h
          · rename_i h4
            simp only [Option.some.injEq, Prod.mk.injEq] at h
            obtain ⟨h5, h6⟩ := h
            rw [h6] at h2 h3 h5 h4
            rw [h5] at h4
            exact ⟨h1, h6, by omega, by omega, accU_range.1 h3, h5, h4.1, h4.2⟩
          · exact absurd h (by simp)
        · exact absurd h (by simp)
    · exact absurd h (by simp)
  · rintro ⟨h1, h2, h3, h4, h5, h6, h7, h8⟩
    rw [if_pos h1, h2, if_neg (by omega), if_pos (accU_range.2 h5), h6, if_pos ⟨h7, h8⟩]

theorem acc_cR {s : ByteArray} {p : Nat} : ∀ k : Nat, k ≠ 0 → (firstS (bt s p)).1 = k → (∀ i, i < k - 1 → contU s p i = true) → accU s p (firstS (bt s p)).2 (k - 1) = cR s p k := by
  intro k hk hf hc
  have hlead : (firstS (bt s p)).2 = lead (bt s p) := by
    unfold firstS lead at *
    have := bt_nn s p
    revert hf
    repeat' split
    all_goals intro hf; first | rfl | (exfalso; simp at hf; omega) | omega
  have step : ∀ i : Nat, i < k → accU s p (firstS (bt s p)).2 i = cR s p (i + 1) := by
    intro i
    induction i with
    | zero => intro _; exact hlead
    | succ i ih =>
      intro hi
      have h1 := hc i (by omega)
      unfold contU at h1
      rw [Bool.and_eq_true] at h1
      have d1 := of_decide_eq_true h1.1
      have d2 := of_decide_eq_true h1.2
      have e : p + 1 + i = p + (i + 1) := by omega
      rw [e] at d1 d2
      simp only [accU, cR]
      rw [ih (by omega), e]
      omega
  obtain ⟨k', rfl⟩ : ∃ k', k = k' + 1 := ⟨k - 1, by omega⟩
  exact step k' (by omega)
end Go.Proofs.YtdgjpncflkpjfaaDoor

/-! The plain law of douaneref01.Get: whole. -/
set_option linter.unusedVariables false
set_option linter.unusedSimpArgs false
namespace Go.Proofs.YtdgjpncflkpjfaaDoor
open Aw

theorem put1 {c x : Int} : putS c = [x] ↔ codeB c = true ∧ c < 128 ∧ x = c := by
  unfold putS
  repeat' split
  all_goals simp_all
  all_goals first | (constructor <;> intro h <;> omega) | omega
theorem put2 {c x y : Int} : putS c = [x, y] ↔ codeB c = true ∧ ¬ c < 128 ∧ c < 2048 ∧ x = 192 + c / 64 ∧ y = 128 + c % 64 := by
  unfold putS
  repeat' split
  all_goals simp_all
  all_goals first | (constructor <;> intro h <;> omega) | omega
theorem put3 {c x y z : Int} : putS c = [x, y, z] ↔ codeB c = true ∧ ¬ c < 128 ∧ ¬ c < 2048 ∧ c < 65536 ∧ x = 224 + c / 4096 ∧ y = 128 + c / 64 % 64 ∧ z = 128 + c % 64 := by
  unfold putS
  repeat' split
  all_goals simp_all
  all_goals first | (constructor <;> intro h <;> omega) | omega
theorem put4 {c x y z w : Int} : putS c = [x, y, z, w] ↔ codeB c = true ∧ ¬ c < 128 ∧ ¬ c < 2048 ∧ ¬ c < 65536 ∧ x = 240 + c / 262144 ∧ y = 128 + c / 4096 % 64 ∧ z = 128 + c / 64 % 64 ∧ w = 128 + c % 64 := by
  unfold putS
  repeat' split
  all_goals simp_all
  all_goals first | (constructor <;> intro h <;> omega) | omega
theorem contU_iff {s : ByteArray} {p i : Nat} : contU s p i = true ↔ 128 ≤ bt s (p + (i + 1) : Nat) ∧ bt s (p + (i + 1) : Nat) < 192 := by
  unfold contU
  rw [show p + 1 + i = p + (i + 1) by omega, Bool.and_eq_true, decide_eq_true_eq, decide_eq_true_eq]
theorem lead_iff {x : Int} : (lead x = x ∧ x < 192) ∨ (lead x = x - 192 ∧ 192 ≤ x ∧ x < 224) ∨ (lead x = x - 224 ∧ 224 ≤ x ∧ x < 240) ∨ (lead x = x - 240 ∧ 240 ≤ x) := by
  unfold lead
  repeat' split
  all_goals omega
theorem first_iff {x : Int} : (x < 128 ∧ (firstS x).1 = 1) ∨ (192 ≤ x ∧ x < 224 ∧ (firstS x).1 = 2) ∨ (224 ≤ x ∧ x < 240 ∧ (firstS x).1 = 3) ∨ (240 ≤ x ∧ x < 248 ∧ (firstS x).1 = 4) ∨ ((128 ≤ x ∧ x < 192 ∨ 248 ≤ x) ∧ (firstS x).1 = 0) := by
  unfold firstS
  repeat' split
  all_goals (dsimp only; omega)
theorem long_iff {c : Int} : (c < 128 ∧ longN c = 1) ∨ (128 ≤ c ∧ c < 2048 ∧ longN c = 2) ∨ (2048 ≤ c ∧ c < 65536 ∧ longN c = 3) ∨ (65536 ≤ c ∧ longN c = 4) := by
  unfold longN
  repeat' split
  all_goals omega

theorem rget_law : RGetLaw := by
  refine ⟨?_, fun s p c k h => ?_⟩
  · intro s p n h1 h4 hp
    have hlt : p < s.size := by omega
    have goal : ∀ X : Prop, (putS (cR s p n) = bytesAt s p n ↔ X) → (X ↔ (firstS (bt s p)).1 = n ∧ (∀ i, i < n - 1 → contU s p i = true) ∧ codeB (cR s p n) = true ∧ longN (cR s p n) = n) → (putS (cR s p n) = bytesAt s p n ↔ getU s p = some (cR s p n, n)) := by
      intro X e1 e2
      rw [e1, e2, getU_iff]
      constructor
      · rintro ⟨a, b, c, d⟩
        exact ⟨hlt, a, by omega, hp, b, acc_cR n (by omega) a b, c, d⟩
      · rintro ⟨_, a, _, _, b, _, c, d⟩
        exact ⟨a, b, c, d⟩
    have b0 := bt_nn s p
    have b0' := bt_lt s p
    have hl := lead_iff (x := bt s p)
    have hf := first_iff (x := bt s p)
    rcases (by omega : n = 1 ∨ n = 2 ∨ n = 3 ∨ n = 4) with e | e | e | e <;> subst e
    · have hc : cR s p 1 = lead (bt s p) := rfl
      have hL := long_iff (c := cR s p 1)
      refine goal _ (put1 (x := bt s p)) ?_
      generalize cR s p 1 = c at *
      constructor
      · rintro ⟨a, b, d⟩; exact ⟨by omega, fun i hi => by omega, a, by omega⟩
      · rintro ⟨a, _, b, d⟩; exact ⟨b, by omega, by omega⟩
    · have hc : cR s p 2 = lead (bt s p) * 64 + bt s (p + 1 : Nat) % 64 := rfl
      have hL := long_iff (c := cR s p 2)
      have b1 := bt_nn s (p + 1 : Nat)
      have k0 : contU s p 0 = true ↔ 128 ≤ bt s (p + 1 : Nat) ∧ bt s (p + 1 : Nat) < 192 := contU_iff
      refine goal _ (put2 (x := bt s p) (y := bt s (p + 1 : Nat))) ?_
      generalize cR s p 2 = c at *
      constructor
      · rintro ⟨a, b, d, e, f⟩
        refine ⟨by omega, fun i hi => ?_, a, by omega⟩
        have : i = 0 := by omega
        subst this; exact k0.2 (by omega)
      · rintro ⟨a, k, b, d⟩
        have := k0.1 (k 0 (by omega))
        exact ⟨b, by omega, by omega, by omega, by omega⟩
    · have hc : cR s p 3 = (lead (bt s p) * 64 + bt s (p + 1 : Nat) % 64) * 64 + bt s (p + 2 : Nat) % 64 := rfl
      have hL := long_iff (c := cR s p 3)
      have b1 := bt_nn s (p + 1 : Nat)
      have b2 := bt_nn s (p + 2 : Nat)
      have k0 : contU s p 0 = true ↔ 128 ≤ bt s (p + 1 : Nat) ∧ bt s (p + 1 : Nat) < 192 := contU_iff
      have k1 : contU s p 1 = true ↔ 128 ≤ bt s (p + 2 : Nat) ∧ bt s (p + 2 : Nat) < 192 := contU_iff
      refine goal _ (put3 (x := bt s p) (y := bt s (p + 1 : Nat)) (z := bt s (p + 2 : Nat))) ?_
      generalize cR s p 3 = c at *
      constructor
      · rintro ⟨a, b, b', d, e, f, g⟩
        refine ⟨by omega, fun i hi => ?_, a, by omega⟩
        rcases (by omega : i = 0 ∨ i = 1) with e' | e' <;> subst e'
        · exact k0.2 (by omega)
        · exact k1.2 (by omega)
      · rintro ⟨a, k, b, d⟩
        have := k0.1 (k 0 (by omega))
        have := k1.1 (k 1 (by omega))
        exact ⟨b, by omega, by omega, by omega, by omega, by omega, by omega⟩
    · have hc : cR s p 4 = ((lead (bt s p) * 64 + bt s (p + 1 : Nat) % 64) * 64 + bt s (p + 2 : Nat) % 64) * 64 + bt s (p + 3 : Nat) % 64 := rfl
      have hL := long_iff (c := cR s p 4)
      have b1 := bt_nn s (p + 1 : Nat)
      have b2 := bt_nn s (p + 2 : Nat)
      have b3 := bt_nn s (p + 3 : Nat)
      have k0 : contU s p 0 = true ↔ 128 ≤ bt s (p + 1 : Nat) ∧ bt s (p + 1 : Nat) < 192 := contU_iff
      have k1 : contU s p 1 = true ↔ 128 ≤ bt s (p + 2 : Nat) ∧ bt s (p + 2 : Nat) < 192 := contU_iff
      have k2 : contU s p 2 = true ↔ 128 ≤ bt s (p + 3 : Nat) ∧ bt s (p + 3 : Nat) < 192 := contU_iff
      refine goal _ (put4 (x := bt s p) (y := bt s (p + 1 : Nat)) (z := bt s (p + 2 : Nat)) (w := bt s (p + 3 : Nat))) ?_
      have hcode : codeB (cR s p 4) = true → cR s p 4 ≤ 1114111 := fun h => (of_decide_eq_true (show decide (0 ≤ cR s p 4 ∧ cR s p 4 ≤ 1114111 ∧ (cR s p 4 < 55296 ∨ 57343 < cR s p 4)) = true from h)).2.1
      generalize cR s p 4 = c at *
      constructor
      · rintro ⟨a, b, b', b'', d, e, f, g⟩
        have := hcode a
        refine ⟨by omega, fun i hi => ?_, a, by omega⟩
        rcases (by omega : i = 0 ∨ i = 1 ∨ i = 2) with e' | e' | e' <;> subst e'
        · exact k0.2 (by omega)
        · exact k1.2 (by omega)
        · exact k2.2 (by omega)
      · rintro ⟨a, k, b, d⟩
        have := k0.1 (k 0 (by omega))
        have := k1.1 (k 1 (by omega))
        have := k2.1 (k 2 (by omega))
        exact ⟨b, by omega, by omega, by omega, by omega, by omega, by omega, by omega⟩
  · obtain ⟨_, a, hk, _, b, d, _, _⟩ := getU_iff.1 h
    rw [← d]
    exact acc_cR k hk a b
theorem rget_ok : RGetOk := rget_pure rget_law
theorem rvalid_ok : RValidOk u8B := rvalid_pure rget_ok
end Go.Proofs.YtdgjpncflkpjfaaDoor
