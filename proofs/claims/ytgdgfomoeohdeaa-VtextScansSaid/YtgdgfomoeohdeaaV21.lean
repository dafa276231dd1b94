/- douaneref01: Get (the plain law of its rounds is asked for). -/
import Derived.Test.YtgdgfomoeohdeaaV20
set_option linter.unusedVariables false
set_option linter.unusedSimpArgs false
namespace Go.Proofs.Ytgdgfomoeohdeaa
open Aw

def lead (x : Int) : Int := if x ≥ 240 then x - 240 else if x ≥ 224 then x - 224 else if x ≥ 192 then x - 192 else x
def cR (s : ByteArray) (p : Nat) : Nat → Int
  | 0 => 0
  | 1 => lead (bt s p)
  | n + 2 => cR s p (n + 1) * 64 + bt s (p + (n + 1) : Nat) % 64
def bytesAt (s : ByteArray) (p n : Nat) : List Int := (List.range n).map fun k => bt s (p + k : Nat)
def RGetLaw : Prop := (∀ (s : ByteArray) (p n : Nat), 1 ≤ n → n ≤ 4 → p + n ≤ s.size → (putS (cR s p n) = bytesAt s p n ↔ getU s p = some (cR s p n, n))) ∧ ∀ (s : ByteArray) (p : Nat) (c : Int) (k : Nat), getU s p = some (c, k) → c = cR s p k
theorem putS_len (c : Int) : (putS c).length < 1000000 := by
  unfold putS
  repeat' split
  all_goals simp
theorem rows_at {s : ByteArray} {p n : Nat} (h : p + n ≤ s.size) : ((rowsB s).take (p + n)).drop p = rowsN (bytesAt s p n) := by
  apply List.ext_getElem?
  intro k
  rw [List.getElem?_drop, List.getElem?_take]
  unfold rowsN bytesAt
  by_cases hk : k < n
  · rw [if_pos (by omega), rowsB_get (by omega)]
    simp [hk]
  · rw [if_neg (by omega)]
    simp [hk]
theorem cR_bound (s : ByteArray) (p : Nat) : ∀ n : Nat, 0 ≤ cR s p n ∧ cR s p n < 256 * (64 : Int) ^ n
  | 0 => by simp [cR]
  | 1 => by
    have h1 := bt_nn s p
    have h2 := bt_lt s p
    simp only [cR, lead]
    repeat' split
    all_goals (refine ⟨?_, ?_⟩ <;> omega)
  | n + 2 => by
    have ih := cR_bound s p (n + 1)
    have h1 := bt_nn s (p + (n + 1) : Nat)
    simp only [cR]
    rw [Int.pow_succ]
    generalize (64 : Int) ^ (n + 1) = B at *
    omega

theorem pureI {f : Nat} {k : IntKind} {x y : Int} {r : AV} (h : x = y) (hp : PureA Try.prog f [.c (.v (.int k y))] r) : PureA Try.prog f [.c (.v (.int k x))] r := h ▸ hp
theorem pureB {f : Nat} {a : AV} {x y : List (List AC)} {r : AV} (h : x = y) (hp : PureA Try.prog f [a, .c (.sl 1 y)] r) : PureA Try.prog f [a, .c (.sl 1 x)] r := h ▸ hp
theorem retG {O : Option (Int × Nat)} {c x : Int} {n : Nat} (h : O = some (c, n)) (hx : x = c) : AEnd.ret (AV.tup [.c (.v (.int .i64 x)), .c (.v (.int .i64 n)), .c (.v (.bool true))]) = AEnd.ret (getAV O) := by subst h hx; rfl
set_option maxRecDepth 4000 in
theorem rget_pure (hlaw : RGetLaw) : RGetOk := by
  intro s hs p hp h
  refine callsA_of (D := D1 69 [] [] [12, 20]) ty_ok mixed Try.func81 rfl (by kernel_rfl) (by kernel_rfl) (by simp [D1]) ?_
  intro g vs hr
  clear hr
  obtain ⟨O, hO⟩ : ∃ O, O = getU s p := ⟨_, rfl⟩
  rw [← hO]
  have none_ : O = none → AEnd.ret (AV.tup [.c (.v (.int .i64 0)), .c (.v (.int .i64 0)), .c (.v (.bool false))]) = AEnd.ret (getAV O) := fun e => by rw [e]; rfl
  refine Br.mk (fun h1 => by have := of_decide_eq_true h1; omega) (fun _ => ?_)
  refine Br.mk (fun h2 => ?_) (fun h2 => ?_)
  · rw [rowsB_len] at h2
    have h2 := of_decide_eq_true h2
    unfold getU at hO
    rw [if_neg (by omega)] at hO
    exact ⟨none_ hO, rfl⟩
  rw [rowsB_len] at h2
  have h2 := of_decide_eq_false h2
  have hlt : p < s.size := by omega
  refine LoopA.mk ⟨⟨[0, 1, 4, 5, 6, 7, 8], 0, 0⟩, fun m st => ∃ (n : Nat) (j c : Int), st = ⟨[(0, .c (.sl 1 (rowsB s))), (1, .c (.v (.int .i64 p))), (4, .c (.v (.int .i64 0))), (5, .c (.v (.int .i64 0))), (6, .c .ff), (7, .c (.v (.int .i64 c))), (8, .c (.v (.int .i64 j)))], ⟨[], [], h⟩⟩ ∧ n ≤ 4 ∧ p + n ≤ s.size ∧ m = 5 - n ∧ j = (n + 1 : Nat) ∧ c = cR s p n ∧ ∀ k, 1 ≤ k → k ≤ n → getU s p ≠ some (cR s p k, k), ⟨rfl, 5, _, .refl _ _, 0, _, _, rfl, by omega, hp, rfl, rfl, rfl, fun k h1 h2 => by omega⟩, ?_⟩
  rintro m _ ⟨n, j, c, rfl, hn4, hpn, rfl, rfl, rfl, hprev⟩
  have hend : ¬ (n + 1 ≤ 4 ∧ p + (n + 1) ≤ s.size) → O = none := fun hh => by
    rw [hO]
    cases hg : getU s p with
    | none => rfl
    | some ck =>
      exfalso
      obtain ⟨c, k⟩ := ck
      have hk := getU_some hg
      have hcr := hlaw.2 s p c k hg
      subst hcr
      exact hprev k hk.1 (by omega) hg
  have hw : IntKind.i64.wrap (((rowsB s).length : Int) - p) = (s.size - p : Nat) := by rw [rowsB_len, wrap64] <;> omega
  refine Br.mk (fun h3 => ?_) (fun h3 => ?_)
  · have h3 := of_decide_eq_true h3
    refine Br.mk (fun h4 => ?_) (fun h4 => ?_)
    · rw [hw] at h4
      have h4 := of_decide_eq_true h4
      have hlen4 : p + (n + 1) ≤ s.size := by omega
      have hiff := hlaw.1 s p (n + 1) (by omega) (by omega) hlen4
      have hi1 : IntKind.i64.wrap ((p : Int) + (n + 1 : Nat)) = (p + (n + 1) : Nat) := by rw [wrap64] <;> omega
      have hi2 : IntKind.i64.wrap (IntKind.i64.wrap ((p : Int) + (n + 1 : Nat)) - 1) = (p + n : Nat) := by rw [hi1, wrap64] <;> omega
      have hsl : 0 ≤ (p : Int) ∧ (p : Int) ≤ IntKind.i64.wrap ((p : Int) + (n + 1 : Nat)) ∧ IntKind.i64.wrap ((p : Int) + (n + 1 : Nat)) ≤ ((rowsB s).length : Int) := by rw [hi1, rowsB_len]; omega
      have hrows : ((rowsB s).take (IntKind.i64.wrap ((p : Int) + (n + 1 : Nat))).toNat).drop (p : Int).toNat = rowsN (bytesAt s p (n + 1)) := by rw [hi1]; exact rows_at hlen4
      have hputl : (putS (cR s p (n + 1))).length < 1000000 := putS_len _
      have hx0 := bt_nn s (p + n : Nat)
      have hx1 := bt_lt s (p + n : Nat)
      have hwx : IntKind.i64.wrap (bt s (p + n : Nat)) = bt s (p + n : Nat) := by rw [wrap64] <;> omega
      refine ⟨[AC.v (.int .u8 (bt s (p + n : Nat)))], ⟨by rw [hi2]; omega, by rw [hi2]; exact rowsB_get (by omega)⟩, ?_⟩
      refine Br.mk (fun h5 => ?_) (fun h5 => ?_)
      · have h5 := eq_of_beq h5
        have hn0 : n = 0 := by omega
        have hc1 : cR s p (n + 1) = lead (bt s (p + n : Nat)) := by subst hn0; rfl
        unfold lead at hc1
        refine Br.mk (fun h6 => ?_) (fun h6 => ?_)
        · rw [hwx] at h6
          have h6 := of_decide_eq_true h6
          have hcr : IntKind.i64.wrap (IntKind.i64.wrap (bt s (p + n : Nat)) - 240) = cR s p (n + 1) := by rw [hc1, if_pos h6, hwx, wrap64] <;> omega
          refine Pre.mk (by kernel_rfl) ?_
          refine ⟨_, pureI hcr (put_pure (cR s p (n + 1))), ?_⟩
          refine Pre.mk hsl ?_
          refine ⟨_, pureB hrows (bytes_pure (putS (cR s p (n + 1))) (bytesAt s p (n + 1)) hputl), ?_⟩
          refine Br.mk (fun h7 => ?_) (fun h7 => ?_)
          · exact ⟨retG (hO.trans (hiff.1 (of_decide_eq_true h7))) hcr, rfl⟩
          · refine ⟨rfl, 5 - (n + 1), by omega, _, .refl _ _, n + 1, _, _, rfl, by omega, by omega, rfl, by rw [wrap64] <;> omega, hcr, ?_⟩
            intro k hk1 hk2
            by_cases e : k = n + 1
            · subst e; exact fun hg => of_decide_eq_false h7 (hiff.2 hg)
            · exact hprev k hk1 (by omega)
        rw [hwx] at h6
        have h6 := of_decide_eq_false h6
        rw [if_neg h6] at hc1
        refine Br.mk (fun h6 => ?_) (fun h6 => ?_)
        · rw [hwx] at h6
          have h6 := of_decide_eq_true h6
          have hcr : IntKind.i64.wrap (IntKind.i64.wrap (bt s (p + n : Nat)) - 224) = cR s p (n + 1) := by rw [hc1, if_pos h6, hwx, wrap64] <;> omega
          refine Pre.mk (by kernel_rfl) ?_
          refine ⟨_, pureI hcr (put_pure (cR s p (n + 1))), ?_⟩
          refine Pre.mk hsl ?_
          refine ⟨_, pureB hrows (bytes_pure (putS (cR s p (n + 1))) (bytesAt s p (n + 1)) hputl), ?_⟩
          refine Br.mk (fun h7 => ?_) (fun h7 => ?_)
          · exact ⟨retG (hO.trans (hiff.1 (of_decide_eq_true h7))) hcr, rfl⟩
          · refine ⟨rfl, 5 - (n + 1), by omega, _, .refl _ _, n + 1, _, _, rfl, by omega, by omega, rfl, by rw [wrap64] <;> omega, hcr, ?_⟩
            intro k hk1 hk2
            by_cases e : k = n + 1
            · subst e; exact fun hg => of_decide_eq_false h7 (hiff.2 hg)
            · exact hprev k hk1 (by omega)
        rw [hwx] at h6
        have h6 := of_decide_eq_false h6
        rw [if_neg h6] at hc1
        refine Br.mk (fun h6 => ?_) (fun h6 => ?_)
        · rw [hwx] at h6
          have h6 := of_decide_eq_true h6
          have hcr : IntKind.i64.wrap (IntKind.i64.wrap (bt s (p + n : Nat)) - 192) = cR s p (n + 1) := by rw [hc1, if_pos h6, hwx, wrap64] <;> omega
          refine Pre.mk (by kernel_rfl) ?_
          refine ⟨_, pureI hcr (put_pure (cR s p (n + 1))), ?_⟩
          refine Pre.mk hsl ?_
          refine ⟨_, pureB hrows (bytes_pure (putS (cR s p (n + 1))) (bytesAt s p (n + 1)) hputl), ?_⟩
          refine Br.mk (fun h7 => ?_) (fun h7 => ?_)
          · exact ⟨retG (hO.trans (hiff.1 (of_decide_eq_true h7))) hcr, rfl⟩
          · refine ⟨rfl, 5 - (n + 1), by omega, _, .refl _ _, n + 1, _, _, rfl, by omega, by omega, rfl, by rw [wrap64] <;> omega, hcr, ?_⟩
            intro k hk1 hk2
            by_cases e : k = n + 1
            · subst e; exact fun hg => of_decide_eq_false h7 (hiff.2 hg)
            · exact hprev k hk1 (by omega)
        rw [hwx] at h6
        have h6 := of_decide_eq_false h6
        rw [if_neg h6] at hc1
        have hcr : IntKind.i64.wrap (bt s (p + n : Nat)) = cR s p (n + 1) := by rw [hc1, hwx]
        refine Pre.mk (by kernel_rfl) ?_
        refine ⟨_, pureI hcr (put_pure (cR s p (n + 1))), ?_⟩
        refine Pre.mk hsl ?_
        refine ⟨_, pureB hrows (bytes_pure (putS (cR s p (n + 1))) (bytesAt s p (n + 1)) hputl), ?_⟩
        refine Br.mk (fun h7 => ?_) (fun h7 => ?_)
        · exact ⟨retG (hO.trans (hiff.1 (of_decide_eq_true h7))) hcr, rfl⟩
        · refine ⟨rfl, 5 - (n + 1), by omega, _, .refl _ _, n + 1, _, _, rfl, by omega, by omega, rfl, by rw [wrap64] <;> omega, hcr, ?_⟩
          intro k hk1 hk2
          by_cases e : k = n + 1
          · subst e; exact fun hg => of_decide_eq_false h7 (hiff.2 hg)
          · exact hprev k hk1 (by omega)
      · have h5 := ne_of_beq_false h5
        obtain ⟨n', rfl⟩ : ∃ n', n = n' + 1 := ⟨n - 1, by omega⟩
        have hc1 : cR s p (n' + 1 + 1) = cR s p (n' + 1) * 64 + bt s (p + (n' + 1) : Nat) % 64 := rfl
        have hcb := cR_bound s p (n' + 1)
        have hpw : (64 : Int) ^ (n' + 1) ≤ 262144 := pow64 (by omega)
        have hm : (IntKind.i64.wrap (bt s (p + (n' + 1) : Nat))).tmod 64 = bt s (p + (n' + 1) : Nat) % 64 := by rw [hwx]; exact Int.tmod_eq_emod_of_nonneg hx0
        have hcr : IntKind.i64.wrap (IntKind.i64.wrap (cR s p (n' + 1) * 64) + (IntKind.i64.wrap (bt s (p + (n' + 1) : Nat))).tmod 64) = cR s p (n' + 1 + 1) := by
          rw [hm, wrap64 (x := cR s p (n' + 1) * 64) (by omega) (by omega), hc1, wrap64] <;> omega
        refine Pre.mk (by decide) ?_
        refine Pre.mk (by kernel_rfl) ?_
        refine ⟨_, pureI hcr (put_pure (cR s p (n' + 1 + 1))), ?_⟩
        refine Pre.mk hsl ?_
        refine ⟨_, pureB hrows (bytes_pure (putS (cR s p (n' + 1 + 1))) (bytesAt s p (n' + 1 + 1)) hputl), ?_⟩
        refine Br.mk (fun h7 => ?_) (fun h7 => ?_)
        · exact ⟨retG (hO.trans (hiff.1 (of_decide_eq_true h7))) hcr, rfl⟩
        · refine ⟨rfl, 5 - (n' + 1 + 1), by omega, _, .refl _ _, n' + 1 + 1, _, _, rfl, by omega, by omega, rfl, by rw [wrap64] <;> omega, hcr, ?_⟩
          intro k hk1 hk2
          by_cases e : k = n' + 1 + 1
          · subst e; exact fun hg => of_decide_eq_false h7 (hiff.2 hg)
          · exact hprev k hk1 (by omega)
    · rw [hw] at h4
      have h4 := of_decide_eq_false h4
      exact ⟨none_ (hend (by omega)), rfl⟩
  · have h3 := of_decide_eq_false h3
    exact ⟨none_ (hend (by omega)), rfl⟩
end Go.Proofs.Ytgdgfomoeohdeaa
