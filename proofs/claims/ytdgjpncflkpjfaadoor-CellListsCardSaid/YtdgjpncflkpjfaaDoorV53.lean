/- A field's value, and a value's field: the contracts of cell.read, OfField, ToField; of douaneref10.Has, Fits. -/
import Derived.Test.YtdgjpncflkpjfaaDoorV52
import Derived.Test.YtdgjpncflkpjfaaDoorV29
import Derived.Test.YtdgjpncflkpjfaaDoorV19
set_option linter.unusedVariables false
set_option linter.unusedSimpArgs false
namespace Go.Proofs.YtdgjpncflkpjfaaDoor
open Aw

/-- What a function answers at arguments of which more is known. -/
theorem Aw.PureA.args {P : Program} {f : Nat} {args args' : List AV} {r : AV} (c : PureA P f args r) (hle : ∀ (g : G) vs, RelVs g [] args' vs → RelVs g [] args vs) : PureA P f args' r := fun h =>
  ⟨(c h).fn, fun g w vs hb hs hr => (c h).run g w vs hb hs (hle g vs hr)⟩
theorem nil_args {a b c : AC} {n : Nat} (hn : 0 < n) {r : List AV} (g : G) (vs : List Value) (h : RelVs g [] (.agg [a, b, c, .nil] :: r) vs) : RelVs g [] (.agg [a, b, c, .sl n []] :: r) vs := by
  match vs, h with
  | y :: ys, h =>
    refine ⟨?_, h.2⟩
    exact VLe.agg (xs := [a, b, c, .nil]) (ys := [a, b, c, .sl n []]) ⟨CLe.refl _, CLe.refl _, CLe.refl _, CLe.nil hn, trivial⟩ g y h.1

/-- A value's field; the value of a text, and what is wrong, whether it fits or not; the value of a field, and what is wrong. -/
def toF (ty : Int) (v : Val) : ByteArray := if (rightB u8B v && hasB ty v.kind) = true then (if ty = 16 ∨ ty = 8 then v.s else v.text) else ⟨#[]⟩
def readO (ty : Int) (s : ByteArray) : Val × Int :=
  if ty = 16 then (⟨4, 0, s, []⟩, if rightB u8B ⟨4, 0, s, []⟩ then 0 else 4)
  else if ty = 8 then (⟨3, 0, s, []⟩, if rightB u8B ⟨3, 0, s, []⟩ then 0 else 8)
  else ((parseO u8B s).1, (parseO u8B s).2.2)
def ofO (ty : Int) (s : ByteArray) : Val × Int :=
  if (readO ty s).2 ≠ 0 then (zeroV, (readO ty s).2) else if (rightB u8B (readO ty s).1 && hasB ty (readO ty s).1.kind) = true then ((readO ty s).1, 0) else (zeroV, 8)
def pairAV (o : Val × Int) : AV := .tup [.agg [.v (.int .i64 o.1.kind), .v (.int .i64 o.1.n), .v (.string o.1.s), .sl 4 (Val.acs o.1.l)], .c (.v (.int .i64 o.2))]
theorem leLeaf {o : Val × Int} {k n e : Int} {s : ByteArray} (h : o = (⟨k, n, s, []⟩, e)) : VLe (.tup [.agg [.v (.int .i64 k), .v (.int .i64 n), .v (.string s), .nil], .c (.v (.int .i64 e))]) (pairAV o) := by
  subst h
  exact VLe.tup2 (VLe.agg (xs := [_, _, _, .nil]) (ys := [_, _, _, .sl 4 []]) ⟨CLe.refl _, CLe.refl _, CLe.refl _, CLe.nil (by decide), trivial⟩) (VLe.refl _)
theorem lePair {o : Val × Int} {v : Val} {e : Int} (h : o = (v, e)) : VLe (.tup [.agg [.v (.int .i64 v.kind), .v (.int .i64 v.n), .v (.string v.s), .sl 4 (Val.acs v.l)], .c (.v (.int .i64 e))]) (pairAV o) := by
  subst h; exact VLe.refl _

theorem toField_pure (nm : ByteArray) (ty : Int) (rq : Bool) (d v : Val) (hd : v.deep < 1000000) (hn : v.nodes < 1000000) (hr : v.rng) : PureA Tryd.prog 9 [.agg (slotC nm ty rq d), .agg v.ac] (.c (.v (.string (toF ty v)))) := by
  intro h
  refine callsA_of (D := D1 21 [] [] []) ty_ok mixed Tryd.func9 rfl (by kernel_rfl) (by kernel_rfl) (by simp [D1]) ?_
  intro g vs hrv
  clear hrv
  have hfits := fits_pure nm ty rq d v hd hn
  have htext := text_pure v hr
  obtain ⟨R, hR⟩ : ∃ R, R = toF ty v := ⟨_, rfl⟩
  rw [← hR]
  unfold toF at hR
  rw [Val.ac_eq] at hfits htext ⊢
  refine ⟨_, hfits, Br.mk (fun h1 => ?_) (fun h1 => ?_)⟩
  · rw [if_neg (by rw [not_t h1]; simp)] at hR
    exact ⟨by rw [hR]; rfl, rfl⟩
  have h1 := not_f h1
  rw [if_pos h1] at hR
  have hright : rightB u8B v = true := by revert h1; cases rightB u8B v <;> simp
  refine Br.mk (fun h2 => ?_) (fun h2 => ?_)
  · rw [if_pos (.inl (eq_of_beq h2))] at hR
    refine Br.mk (fun h3 => ?_) (fun h3 => by rw [h2] at h3; cases h3)
    exact ⟨by rw [hR]; rfl, rfl⟩
  · refine Br.mk (fun h3 => ?_) (fun h3 => ?_)
    · rw [if_pos (.inr (eq_of_beq h3))] at hR
      exact ⟨by rw [hR]; rfl, rfl⟩
    · rw [if_neg (fun e => e.elim (ne_of_beq_false h2) (ne_of_beq_false h3))] at hR
      refine ⟨_, htext (by have := right_size hright; omega), ?_⟩
      exact ⟨by rw [hR]; rfl, rfl⟩

theorem leaf_small {k n : Int} {s : ByteArray} (hk : k ≠ 5) : (Val.mk k n s []).deep < 1000000 ∧ (Val.mk k n s []).nodes < 1000000 := by
  rw [leaf_deep k n s hk, nodes_def]
  show (0 : Int) < 1000000 ∧ (1 + Val.nodess [] : Int) < 1000000
  exact ⟨by decide, by decide⟩
theorem read_pure (nm : ByteArray) (ty : Int) (rq : Bool) (d : Val) (s : ByteArray) (hs : s.size ≤ 500000) : PureA Tryd.prog 22 [.agg (slotC nm ty rq d), .c (.v (.string s))] (pairAV (readO ty s)) := by
  refine PureA.le fun h => ?_
  refine callsA_of (D := D1 39 [] [] []) ty_ok mixed Tryd.func22 rfl (by kernel_rfl) (by kernel_rfl) (by simp [D1]) ?_
  intro g vs hrv
  clear hrv
  obtain ⟨R, hR⟩ : ∃ R, R = readO ty s := ⟨_, rfl⟩
  rw [← hR]
  unfold readO at hR
  have hparse := parsex_pure s hs
  simp only [outAV] at hparse
  have h4 := (right_pure uvalid_ok ⟨4, 0, s, []⟩ (leaf_small (by decide)).1 (leaf_small (by decide)).2).args (nil_args (by decide))
  have h3 := (right_pure uvalid_ok ⟨3, 0, s, []⟩ (leaf_small (by decide)).1 (leaf_small (by decide)).2).args (nil_args (by decide))
  refine Br.mk (fun h1 => ?_) (fun h1 => ?_)
  · rw [if_pos (eq_of_beq h1)] at hR
    refine ⟨_, h4, Br.mk (fun h2 => ?_) (fun h2 => ?_)⟩
    · rw [if_neg (by rw [not_t h2]; simp)] at hR
      exact ⟨⟨_, rfl, leLeaf hR⟩, rfl⟩
    · rw [if_pos (not_f h2)] at hR
      exact ⟨⟨_, rfl, leLeaf hR⟩, rfl⟩
  rw [if_neg (ne_of_beq_false h1)] at hR
  refine Br.mk (fun h2 => ?_) (fun h2 => ?_)
  · rw [if_pos (eq_of_beq h2)] at hR
    refine ⟨_, h3, Br.mk (fun h2 => ?_) (fun h2 => ?_)⟩
    · rw [if_neg (by rw [not_t h2]; simp)] at hR
      exact ⟨⟨_, rfl, leLeaf hR⟩, rfl⟩
    · rw [if_pos (not_f h2)] at hR
      exact ⟨⟨_, rfl, leLeaf hR⟩, rfl⟩
  rw [if_neg (ne_of_beq_false h2)] at hR
  refine ⟨_, hparse, ?_⟩
  exact ⟨⟨_, rfl, lePair hR⟩, rfl⟩

/-- What is read without a fault is right. -/
theorem readO_right {ty : Int} {s : ByteArray} (h : (readO ty s).2 = 0) : rightB u8B (readO ty s).1 = true := by
  unfold readO at h ⊢
  split
  · rename_i e
    rw [if_pos e] at h
    dsimp only at h ⊢
    cases hr : rightB u8B ⟨4, 0, s, []⟩ with
    | true => rfl
    | false => rw [hr] at h; cases h
  · rename_i e
    rw [if_neg e] at h
    split
    · rename_i e
      rw [if_pos e] at h
      dsimp only at h ⊢
      cases hr : rightB u8B ⟨3, 0, s, []⟩ with
      | true => rfl
      | false => rw [hr] at h; cases h
    · rename_i e
      rw [if_neg e] at h
      dsimp only at h ⊢
      exact (parse_spec (s := s) (v := (parseO u8B s).1) (a := (parseO u8B s).2.1) (by rw [← h])).1

theorem ofField_pure (nm : ByteArray) (ty : Int) (rq : Bool) (d : Val) (s : ByteArray) (hs : s.size ≤ 500000) : PureA Tryd.prog 8 [.agg (slotC nm ty rq d), .c (.v (.string s))] (pairAV (ofO ty s)) := by
  refine PureA.le fun h => ?_
  refine callsA_of (D := D1 26 [] [] []) ty_ok mixed Tryd.func8 rfl (by kernel_rfl) (by kernel_rfl) (by simp [D1]) ?_
  intro g vs hrv
  clear hrv
  obtain ⟨R, hR⟩ : ∃ R, R = ofO ty s := ⟨_, rfl⟩
  rw [← hR]
  unfold ofO at hR
  have hread := read_pure nm ty rq d s hs
  have hro := readO_right (ty := ty) (s := s)
  generalize readO ty s = O at hread hro hR
  obtain ⟨x, e⟩ := O
  dsimp only at hro hR
  simp only [pairAV] at hread
  have hfits := fits_pure nm ty rq d x
  rw [Val.ac_eq] at hfits
  refine ⟨_, hread, ?_⟩
  refine Br.mk (fun h1 => ?_) (fun h1 => ?_)
  · rw [if_pos (by simpa using h1)] at hR
    exact ⟨⟨_, rfl, leLeaf hR⟩, rfl⟩
  have he : e = 0 := by simpa using h1
  rw [if_neg (by simpa using he)] at hR
  obtain ⟨q1, q2, q3⟩ := right_spec (hro he)
  refine ⟨_, hfits (by omega) (by omega), Br.mk (fun h2 => ?_) (fun h2 => ?_)⟩
  · rw [if_neg (by rw [not_t h2]; simp)] at hR
    exact ⟨⟨_, rfl, leLeaf hR⟩, rfl⟩
  · rw [if_pos (not_f h2)] at hR
    exact ⟨⟨_, rfl, lePair hR⟩, rfl⟩

/-! ### The document's answer -/
theorem rhas_pure (t : Int) (k : Nat) (h0 : 0 ≤ t) (h1 : t < 9223372036854775808) (hk : k ≤ 1000) : PureA Tryd.prog 25 [.c (.v (.int .i64 t)), .c (.v (.int .i64 (k : Int)))] (.c (.v (.bool (hasB t k)))) := by
  intro h
  refine callsA_of (D := D1 16 [] [] []) ty_ok mixed Tryd.func25 rfl (by kernel_rfl) (by kernel_rfl) (by simp [D1]) ?_
  intro g vs hrv
  clear hrv
  refine LoopA.mk ⟨⟨[0, 1, 4, 5], 0, 0⟩, fun n st => ∃ (i : Nat) (x j : Int), st = ⟨[(0, .c (.v (.int .i64 x))), (1, .c (.v (.int .i64 (k : Int)))), (4, .c .ff), (5, .c (.v (.int .i64 j)))], ⟨[], [], h⟩⟩ ∧ i ≤ k ∧ n = k - i ∧ j = i ∧ x = t / 2 ^ i,
    ⟨rfl, k, _, .refl _ _, 0, _, _, rfl, Nat.zero_le _, rfl, rfl, by simp⟩, ?_⟩
  rintro n _ ⟨i, x, j, rfl, hi, rfl, rfl, rfl⟩
  have hx0 : 0 ≤ t / 2 ^ i := Int.ediv_nonneg h0 (Int.le_of_lt (Int.pow_pos (by decide)))
  have hx1 : t / 2 ^ i ≤ t := Int.ediv_le_self _ h0
  refine Br.mk (fun h2 => ?_) (fun h2 => ?_)
  · have hlt : i < k := by have := of_decide_eq_true h2; omega
    refine Pre.mk (by decide) ?_
    refine ⟨rfl, k - (i + 1), by omega, _, .refl _ _, i + 1, _, _, rfl, by omega, rfl, by rw [wrap64] <;> omega, ?_⟩
    rw [Int.tdiv_eq_ediv_of_nonneg hx0, wrap64 (by omega) (by omega), Int.ediv_ediv_of_nonneg (Int.le_of_lt (Int.pow_pos (by decide))), Int.pow_succ]
  · have he : i = k := by have := of_decide_eq_false h2; omega
    subst he
    refine Pre.mk (by decide) ?_
    refine ⟨ret_b ?_, rfl⟩
    unfold hasB
    rw [Int.tmod_eq_emod_of_nonneg hx0, Int.toNat_natCast]
    by_cases e : t / 2 ^ i % 2 = 1
    · rw [e]; simp
    · simp [e]

theorem rfits_pure (nm : ByteArray) (ty : Int) (rq : Bool) (d v : Val) (h0 : 0 ≤ ty) (h1 : ty < 9223372036854775808) (hd : v.deep < 1000000) (hn : v.nodes ≤ 1001) : PureA Tryd.prog 11 [.agg (slotC nm ty rq d), .agg v.ac] (.c (.v (.bool (rightB u8B v && hasB ty v.kind)))) := by
  intro h
  refine callsA_of (D := D1 14 [] [] [7]) ty_ok mixed Tryd.func11 rfl (by kernel_rfl) (by kernel_rfl) (by simp [D1]) ?_
  intro g vs hr
  clear hr
  have hright := rright_pure rvalid_ok v hd hn
  rw [Val.ac_eq] at hright ⊢
  refine ⟨_, hright, Br.mk (fun h2 => ?_) (fun h2 => ?_)⟩
  · have hk := parts_kind (right_spec h2).2.2
    have hh := rhas_pure ty v.kind.toNat h0 h1 (by omega)
    rw [Int.toNat_of_nonneg hk.1] at hh
    refine ⟨_, hh, ?_⟩
    exact ⟨ret_b (by rw [h2]; rfl), rfl⟩
  · exact ⟨ret_b (by rw [h2]; rfl), rfl⟩
end Go.Proofs.YtdgjpncflkpjfaaDoor
