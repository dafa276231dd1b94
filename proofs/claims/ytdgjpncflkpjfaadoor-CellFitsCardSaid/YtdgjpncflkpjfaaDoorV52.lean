/- The contracts of schema.Fits and slices.Index at strings. The contract of slices.Index at strings. Things of JSON as trees. -/
import Derived.Test.YtdgjpncflkpjfaaDoorV45
set_option linter.unusedVariables false
set_option linter.unusedSimpArgs false
namespace Go.Proofs.YtdgjpncflkpjfaaDoor
open Aw

/-- Is a kind among those that a number tells? -/
def hasB (t k : Int) : Bool := decide ((t / 2 ^ k.toNat) % 2 = 1)
theorem and_one (x : Int) : IntKind.i64.wrap ((BitVec.ofInt IntKind.i64.bits x &&& BitVec.ofInt IntKind.i64.bits 1).toNat : Int) = x % 2 := by
  have e : (BitVec.ofInt 64 x &&& BitVec.ofInt 64 1).toNat = (x % 18446744073709551616).toNat % 2 := by
    rw [BitVec.toNat_and, BitVec.toNat_ofInt]
    show (x % 18446744073709551616).toNat &&& 1 = _
    rw [Nat.and_one_is_mod]
  show IntKind.i64.wrap ((BitVec.ofInt 64 x &&& BitVec.ofInt 64 1).toNat : Int) = _
  rw [e, wrap64] <;> omega
/-- A slot's cells: its name, its kinds, whether it must be there, what it is if nothing is told. -/
def slotC (nm : ByteArray) (ty : Int) (rq : Bool) (d : Val) : List AC := [.v (.string nm), .v (.int .i64 ty), .v (.bool rq), .v (.int .i64 d.kind), .v (.int .i64 d.n), .v (.string d.s), .sl 4 (Val.acs d.l)]
theorem parts_kind {u8B : ByteArray → Bool} {v : Val} (h : v.parts u8B = true) : 0 ≤ v.kind ∧ v.kind ≤ 5 := by
  have hc := parts_cases v h
  have f : ∀ k : Int, v.kind = k → 0 ≤ k → k ≤ 5 → 0 ≤ v.kind ∧ v.kind ≤ 5 := fun k e h1 h2 => by omega
  cases hc with
  | nul => exact f 0 rfl (by decide) (by decide)
  | fls => exact f 1 rfl (by decide) (by decide)
  | tru => exact f 1 rfl (by decide) (by decide)
  | int n => exact f 2 rfl (by decide) (by decide)
  | sym s _ => exact f 3 rfl (by decide) (by decide)
  | str s _ _ => exact f 4 rfl (by decide) (by decide)
  | lst l _ _ => exact f 5 rfl (by decide) (by decide)
theorem fits_pure (nm : ByteArray) (ty : Int) (rq : Bool) (d v : Val) (hd : v.deep < 1000000) (hn : v.nodes < 1000000) : PureA Tryd.prog 7 [.agg (slotC nm ty rq d), .agg v.ac] (.c (.v (.bool (rightB u8B v && hasB ty v.kind)))) := by
  intro h
  refine callsA_of (D := D1 16 [] [] [7]) ty_ok mixed Tryd.func7 rfl (by kernel_rfl) (by kernel_rfl) (by simp [D1]) ?_
  intro g vs hr
  clear hr
  have hright := right_pure uvalid_ok v hd hn
  rw [Val.ac_eq] at hright ⊢
  refine ⟨_, hright, Br.mk (fun h1 => ?_) (fun h1 => ?_)⟩
  · have hk := parts_kind (right_spec h1).2.2
    refine Pre.mk hk.1 ?_
    refine ⟨ret_b ?_, rfl⟩
    rw [h1, and_one]
    have hm : min v.kind.toNat IntKind.i64.bits = v.kind.toNat := by
      have : IntKind.i64.bits = 64 := by kernel_rfl
      rw [this]; omega
    rw [hm, Int.fdiv_eq_ediv_of_nonneg _ (by exact Int.le_of_lt (Int.pow_pos (by decide)))]
    rfl
  · exact ⟨ret_b (by rw [h1]; rfl), rfl⟩
end Go.Proofs.YtdgjpncflkpjfaaDoor

/-! The contract of slices.Index at strings. -/
set_option linter.unusedVariables false
set_option linter.unusedSimpArgs false
namespace Go.Proofs.YtdgjpncflkpjfaaDoor
open Aw

/-- Where a text stands in a list first; -1: nowhere. -/
def idxS (x : ByteArray) : Nat → List ByteArray → Int
  | _, [] => -1
  | i, y :: l => if x = y then i else idxS x (i + 1) l
theorem strR_get {l : List ByteArray} {i : Nat} {x : ByteArray} (h : l[i]? = some x) : (strR l)[i]? = some [AC.v (.string x)] := by
  unfold strR; rw [List.getElem?_map, h]; rfl
theorem str_beq {x y : ByteArray} : (x.toList == y.toList) = true ↔ x = y := by
  constructor
  · exact fun h => word_eq h
  · intro h; rw [h]; exact str_eq' y
where
  str_eq' (s : ByteArray) : (s.toList == s.toList) = true := beq_self_eq_true _
theorem index_pure (l : List ByteArray) (x : ByteArray) (hl : l.length ≤ lenMax) : PureA Tryd.prog 71 [.c (.sl 1 (strR l)), .c (.v (.string x))] (.c (.v (.int .i64 (idxS x 0 l)))) := by
  intro h
  refine callsA_of (D := D1 19 [] [] []) ty_ok mixed Tryd.func71 rfl (by kernel_rfl) (by kernel_rfl) (by simp [D1]) ?_
  intro g vs hr
  clear hr
  obtain ⟨R, hR⟩ : ∃ R, R = idxS x 0 l := ⟨_, rfl⟩
  rw [← hR]
  have hlm := lenMax_lt
  refine LoopA.mk ⟨⟨[0, 1, 4, 7, 8], 0, 0⟩, fun n st => ∃ (i : Nat) (j : Int), st = ⟨[(0, .c (.sl 1 (strR l))), (1, .c (.v (.string x))), (4, .c (.v (.int .i64 0))), (7, .c (.v (.int .i64 (strR l).length))), (8, .c (.v (.int .i64 j)))], ⟨[], [], h⟩⟩ ∧ i ≤ l.length ∧ n = l.length - i ∧ j = i ∧ R = idxS x i (l.drop i),
    ⟨rfl, l.length, _, .refl _ _, 0, _, rfl, Nat.zero_le _, rfl, rfl, hR⟩, ?_⟩
  rintro n _ ⟨i, j, rfl, hi, rfl, rfl, hRi⟩
  refine Br.mk (fun h1 => ?_) (fun h1 => ?_)
  · have hlt : i < l.length := by have := of_decide_eq_true h1; rw [strR_len] at this; omega
    have hx : l[i]? = some l[i] := List.getElem?_eq_getElem hlt
    rw [List.drop_eq_getElem_cons hlt] at hRi
    simp only [idxS] at hRi
    refine ⟨_, ⟨by omega, strR_get hx⟩, ?_⟩
    refine Br.mk (fun h2 => ?_) (fun h2 => ?_)
    · rw [if_pos (str_beq.1 h2)] at hRi
      exact ⟨ret_i hRi.symm, rfl⟩
    · rw [if_neg (fun e => by rw [str_beq.2 e] at h2; cases h2)] at hRi
      exact ⟨rfl, l.length - (i + 1), by omega, _, .refl _ _, i + 1, _, rfl, by omega, rfl, by rw [wrap64] <;> omega, hRi⟩
  · have he : i = l.length := by have := of_decide_eq_false h1; rw [strR_len] at this; omega
    rw [he, List.drop_length] at hRi
    exact ⟨ret_i hRi.symm, rfl⟩
end Go.Proofs.YtdgjpncflkpjfaaDoor

/-! Things of JSON as trees. -/
set_option linter.unusedVariables false
set_option linter.unusedSimpArgs false
namespace Go.Proofs.YtdgjpncflkpjfaaDoor
open Aw

structure Jsn where
  kind : Int
  n : Int
  s : ByteArray
  names : List ByteArray
  l : List Jsn

mutual
def Jsn.ac : Jsn → List AC
  | ⟨k, n, s, ns, l⟩ => [.v (.int .i64 k), .v (.int .i64 n), .v (.string s), .sl 1 (strR ns), .sl 5 (Jsn.acs l)]
def Jsn.acs : List Jsn → List (List AC)
  | [] => []
  | x :: xs => x.ac :: Jsn.acs xs
end
theorem Jsn.acs_eq : ∀ l : List Jsn, Jsn.acs l = l.map Jsn.ac
  | [] => rfl
  | x :: xs => by simp [Jsn.acs, Jsn.acs_eq xs]
theorem Jsn.ac_eq (v : Jsn) : v.ac = [.v (.int .i64 v.kind), .v (.int .i64 v.n), .v (.string v.s), .sl 1 (strR v.names), .sl 5 (Jsn.acs v.l)] := by cases v; rfl
theorem Jsn.acs_get {l : List Jsn} {i : Nat} {v : Jsn} (h : l[i]? = some v) : (Jsn.acs l)[i]? = some [.v (.int .i64 v.kind), .v (.int .i64 v.n), .v (.string v.s), .sl 1 (strR v.names), .sl 5 (Jsn.acs v.l)] := by rw [Jsn.acs_eq, List.getElem?_map, h, ← Jsn.ac_eq]; rfl
theorem Jsn.acs_len (l : List Jsn) : (Jsn.acs l).length = l.length := by rw [Jsn.acs_eq, List.length_map]
theorem Jsn.size_mem {v x : Jsn} (h : x ∈ v.l) : SizeOf.sizeOf x < SizeOf.sizeOf v := by
  have := List.sizeOf_lt_of_mem h
  cases v
  simp at this ⊢
  omega
/-- A value's thing. -/
def thingJ : Val → Jsn
  | ⟨k, n, s, l⟩ => if k = 3 then ⟨6, 0, ⟨#[]⟩, [⟨#[115, 121, 109]⟩], [⟨4, 0, s, [], []⟩]⟩ else ⟨k, n, s, [], thingsJ l⟩
where
  thingsJ : List Val → List Jsn
    | [] => []
    | x :: xs => thingJ x :: thingsJ xs
end Go.Proofs.YtdgjpncflkpjfaaDoor
