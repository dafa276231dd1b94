/- Values of the program as trees; small laws that the contracts share. -/
import Derived.Test.YtdgjpncflkpjfaaDoorTy
set_option linter.unusedVariables false
set_option linter.unusedSimpArgs false
namespace Go.Proofs.YtdgjpncflkpjfaaDoor
open Aw

structure Val where
  kind : Int
  n : Int
  s : ByteArray
  l : List Val

mutual
def Val.ac : Val → List AC
  | ⟨k, n, s, l⟩ => [.v (.int .i64 k), .v (.int .i64 n), .v (.string s), .sl 4 (Val.acs l)]
def Val.acs : List Val → List (List AC)
  | [] => []
  | x :: xs => x.ac :: Val.acs xs
end
theorem Val.acs_eq : ∀ l : List Val, Val.acs l = l.map Val.ac
  | [] => rfl
  | x :: xs => by simp [Val.acs, Val.acs_eq xs]
theorem Val.ac_eq (v : Val) : v.ac = [.v (.int .i64 v.kind), .v (.int .i64 v.n), .v (.string v.s), .sl 4 (Val.acs v.l)] := by cases v; rfl
theorem Val.acs_get {l : List Val} {i : Nat} {v : Val} (h : l[i]? = some v) : (Val.acs l)[i]? = some [.v (.int .i64 v.kind), .v (.int .i64 v.n), .v (.string v.s), .sl 4 (Val.acs v.l)] := by rw [Val.acs_eq, List.getElem?_map, h, ← Val.ac_eq]; rfl
theorem Val.acs_len (l : List Val) : (Val.acs l).length = l.length := by rw [Val.acs_eq, List.length_map]
theorem Val.size_mem {v x : Val} (h : x ∈ v.l) : SizeOf.sizeOf x < SizeOf.sizeOf v := by
  have := List.sizeOf_lt_of_mem h
  cases v
  simp at this ⊢
  omega

noncomputable def D0 (nt : Nat) (impure : List Nat) : Cfg2 := { P := Tryd.prog, ty := ty, nt := nt, pure := fun f => !impure.any (Nat.beq f), esc := fun _ => false, lload := fun _ => false, gd := fun _ => true }
/-- The same, with booleans kept whole but for some. -/
noncomputable def D1 (nt : Nat) (impure esc gd : List Nat) : Cfg2 := { P := Tryd.prog, ty := ty, nt := nt, pure := fun f => !impure.any (Nat.beq f), esc := fun t => esc.any (Nat.beq t), lload := fun _ => false, gd := fun t => gd.any (Nat.beq t) }
theorem mixed : Tryd.prog.follows .mixedOrders = true := by kernel_rfl

theorem awp1 {nt : Nat} {im es gd : List Nat} {c : Code} {st : St} {Q : AX → St → Prop} (h : awp (D1 nt im es gd) c st Q) : Awp (D1 nt im es gd) c st Q := .of ty_ok mixed h
theorem not_t {b : Bool} (h : (!b) = true) : b = false := by cases b <;> first | rfl | cases h
theorem not_f {b : Bool} (h : (!b) = false) : b = true := by cases b <;> first | rfl | cases h
theorem i64max : IntKind.i64.max = 9223372036854775807 := by kernel_rfl
theorem wrap64 {x : Int} (h1 : -9223372036854775808 ≤ x) (h2 : x < 9223372036854775808) : IntKind.i64.wrap x = x := by
  show (if decide (x % 18446744073709551616 ≥ 9223372036854775808) = true then x % 18446744073709551616 - 18446744073709551616 else x % 18446744073709551616) = x
  simp only [decide_eq_true_eq]
  split <;> omega
theorem wrapu64 {x : Int} (h1 : 0 ≤ x) (h2 : x < 18446744073709551616) : IntKind.u64.wrap x = x := by
  show x % 18446744073709551616 = x
  omega
theorem wrapu8 {x : Int} (h1 : 0 ≤ x) (h2 : x < 256) : IntKind.u8.wrap x = x := by
  show x % 256 = x
  omega
theorem ret_i {k : IntKind} {x y : Int} (h : x = y) : AEnd.ret (.c (.v (.int k x))) = .ret (.c (.v (.int k y))) := by rw [h]
theorem ret_b {x y : Bool} (h : x = y) : AEnd.ret (.c (.v (.bool x))) = .ret (.c (.v (.bool y))) := by rw [h]

theorem sl_len {g : G} {a b c : AC} {n : Nat} {rows : List (List AC)} {r : List AV} {vs : List Value} (h : RelVs g [] (.agg [a, b, c, .sl n rows] :: r) vs) : rows.length ≤ lenMax := by
  cases vs with
  | nil => exact h.elim
  | cons y vs =>
    obtain ⟨ys, _, h⟩ := h.1
    match ys, h with
    | [_, _, _, y4], h =>
      have h4 : Rel g.I (.sl n rows) y4 := h.2.2.2.1
      cases h4 <;> first | assumption | simp_all | (simp; done)
theorem lenMax_lt : lenMax ≤ 140737488355328 := by decide
theorem lt64 {n : Nat} (h : n ≤ lenMax) : (n : Int) < 9223372036854775808 := by have := lenMax_lt; omega
end Go.Proofs.YtdgjpncflkpjfaaDoor
