/- The seat's types, as the abstract machine wants them (written by a program of this session's out of the translation). -/
import Derived.Test.YtdgjpncflkpjfaaDoorAw8
import Derived.Test.YtdgjpncflkpjfaaDoorProg
set_option linter.unusedVariables false
set_option linter.unusedSimpArgs false
namespace Go.Proofs.YtdgjpncflkpjfaaDoor
open Aw
theorem tiok_mk {P : Program} {t : Nat} {td : TD} {sz bys : Nat} {zero : List AC} {z : Value} {d : TypeDesc} (h1 : (P.info? t).map (fun i => (i.size, i.bytes, i.zero)) = some (sz, bys, some z))
    (h2 : match (generalizing := false) z with | .agg _ => TI.agg ⟨td, sz, bys, zero⟩ = true | .tuple _ => False | _ => TI.agg ⟨td, sz, bys, zero⟩ = false) (h3 : All2 (Rel (fun _ _ => none)) zero z.cells.toList) (h4 : zero.length = sz) (h5 : P.underlying t = some d) (h6 : td.ok P d) : TIOk P t ⟨td, sz, bys, zero⟩ := by
  cases hi : P.info? t with
  | none => rw [hi] at h1; cases h1
  | some info =>
    rw [hi] at h1
    simp only [Option.map_some, Option.some.injEq, Prod.mk.injEq] at h1
    exact ⟨⟨info, z, hi, h1.1, h1.2.1, h1.2.2, h2, h3⟩, h4, ⟨d, h5, h6⟩⟩
theorem all_cons {p : Nat × Nat × Nat → Prop} {x : Nat × Nat × Nat} {l : List (Nat × Nat × Nat)} (h : p x) (k : ∀ y ∈ l, p y) : ∀ y ∈ x :: l, p y := fun y hy => by
  cases hy with
  | head => exact h
  | tail _ hy => exact k y hy
theorem all_nil {p : Nat × Nat × Nat → Prop} : ∀ y ∈ ([] : List (Nat × Nat × Nat)), p y := fun _ h => by cases h
def ti1 : TI := ⟨.other, 1, 8, [.v .nilFunc]⟩
theorem tiok1 : TIOk Tryd.prog 1 ti1 := tiok_mk (z := .nilFunc) (by kernel_rfl) rfl ⟨.v _ rfl, trivial⟩ rfl Tryd.underlying1 trivial
def ti2 : TI := ⟨.int .i64, 1, 8, [.v (.int .i64 0)]⟩
theorem tiok2 : TIOk Tryd.prog 2 ti2 := tiok_mk (z := .int .i64 0) (by kernel_rfl) rfl ⟨.v _ rfl, trivial⟩ rfl Tryd.underlying2 rfl
def ti3 : TI := ⟨.int .i64, 1, 8, [.v (.int .i64 0)]⟩
theorem tiok3 : TIOk Tryd.prog 3 ti3 := tiok_mk (z := .int .i64 0) (by kernel_rfl) rfl ⟨.v _ rfl, trivial⟩ rfl Tryd.underlying3 rfl
def ti4 : TI := ⟨.bool, 1, 1, [.ff]⟩
theorem tiok4 : TIOk Tryd.prog 4 ti4 := tiok_mk (z := .bool false) (by kernel_rfl) rfl ⟨.ff, trivial⟩ rfl Tryd.underlying4 rfl
def ti5 : TI := ⟨.int .u8, 1, 1, [.v (.int .u8 0)]⟩
theorem tiok5 : TIOk Tryd.prog 5 ti5 := tiok_mk (z := .int .u8 0) (by kernel_rfl) rfl ⟨.v _ rfl, trivial⟩ rfl Tryd.underlying5 rfl
def ti6 : TI := ⟨.int .u8, 1, 1, [.v (.int .u8 0)]⟩
theorem tiok6 : TIOk Tryd.prog 6 ti6 := tiok_mk (z := .int .u8 0) (by kernel_rfl) rfl ⟨.v _ rfl, trivial⟩ rfl Tryd.underlying6 rfl
def ti7 : TI := ⟨.struct [(2, 0, 1), (3, 1, 1), (4, 2, 1), (6, 3, 1)], 4, 24, [.v (.int .i64 0), .v (.int .i64 0), .ff, .v (.int .u8 0)]⟩
theorem tiok7 : TIOk Tryd.prog 7 ti7 := tiok_mk (z := .agg #[.int .i64 0, .int .i64 0, .bool false, .int .u8 0]) (by kernel_rfl) rfl ⟨.v _ rfl, .v _ rfl, .ff, .v _ rfl, trivial⟩ rfl Tryd.underlying7 ⟨_, rfl, rfl, all_cons ⟨by decide, by kernel_rfl⟩ (all_cons ⟨by decide, by kernel_rfl⟩ (all_cons ⟨by decide, by kernel_rfl⟩ (all_cons ⟨by decide, by kernel_rfl⟩ (all_nil))))⟩
def ti8 : TI := ⟨.struct [(2, 0, 1), (3, 1, 1), (4, 2, 1), (6, 3, 1)], 4, 24, [.v (.int .i64 0), .v (.int .i64 0), .ff, .v (.int .u8 0)]⟩
theorem tiok8 : TIOk Tryd.prog 8 ti8 := tiok_mk (z := .agg #[.int .i64 0, .int .i64 0, .bool false, .int .u8 0]) (by kernel_rfl) rfl ⟨.v _ rfl, .v _ rfl, .ff, .v _ rfl, trivial⟩ rfl Tryd.underlying8 ⟨_, rfl, rfl, all_cons ⟨by decide, by kernel_rfl⟩ (all_cons ⟨by decide, by kernel_rfl⟩ (all_cons ⟨by decide, by kernel_rfl⟩ (all_cons ⟨by decide, by kernel_rfl⟩ (all_nil))))⟩
def ti9 : TI := ⟨.str, 1, 16, [.v (.string ⟨#[]⟩)]⟩
theorem tiok9 : TIOk Tryd.prog 9 ti9 := tiok_mk (z := .string ⟨#[]⟩) (by kernel_rfl) rfl ⟨.v _ rfl, trivial⟩ rfl Tryd.underlying9 rfl
def ti10 : TI := ⟨.str, 1, 16, [.v (.string ⟨#[]⟩)]⟩
theorem tiok10 : TIOk Tryd.prog 10 ti10 := tiok_mk (z := .string ⟨#[]⟩) (by kernel_rfl) rfl ⟨.v _ rfl, trivial⟩ rfl Tryd.underlying10 rfl
def ti11 : TI := ⟨.str, 1, 16, [.v (.string ⟨#[]⟩)]⟩
theorem tiok11 : TIOk Tryd.prog 11 ti11 := tiok_mk (z := .string ⟨#[]⟩) (by kernel_rfl) rfl ⟨.v _ rfl, trivial⟩ rfl Tryd.underlying11 rfl
def ti12 : TI := ⟨.int .u64, 1, 8, [.v (.int .u64 0)]⟩
theorem tiok12 : TIOk Tryd.prog 12 ti12 := tiok_mk (z := .int .u64 0) (by kernel_rfl) rfl ⟨.v _ rfl, trivial⟩ rfl Tryd.underlying12 rfl
def ti13 : TI := ⟨.struct [(9, 0, 1), (12, 1, 1)], 2, 24, [.v (.string ⟨#[]⟩), .v (.int .u64 0)]⟩
theorem tiok13 : TIOk Tryd.prog 13 ti13 := tiok_mk (z := .agg #[.string ⟨#[]⟩, .int .u64 0]) (by kernel_rfl) rfl ⟨.v _ rfl, .v _ rfl, trivial⟩ rfl Tryd.underlying13 ⟨_, rfl, rfl, all_cons ⟨by decide, by kernel_rfl⟩ (all_cons ⟨by decide, by kernel_rfl⟩ (all_nil))⟩
def ti14 : TI := ⟨.struct [(9, 0, 1), (12, 1, 1)], 2, 24, [.v (.string ⟨#[]⟩), .v (.int .u64 0)]⟩
theorem tiok14 : TIOk Tryd.prog 14 ti14 := tiok_mk (z := .agg #[.string ⟨#[]⟩, .int .u64 0]) (by kernel_rfl) rfl ⟨.v _ rfl, .v _ rfl, trivial⟩ rfl Tryd.underlying14 ⟨_, rfl, rfl, all_cons ⟨by decide, by kernel_rfl⟩ (all_cons ⟨by decide, by kernel_rfl⟩ (all_nil))⟩
def ti15 : TI := ⟨.ptr 133, 1, 8, [.v (.pointer none)]⟩
theorem tiok15 : TIOk Tryd.prog 15 ti15 := tiok_mk (z := .pointer none) (by kernel_rfl) rfl ⟨.v _ rfl, trivial⟩ rfl Tryd.underlying15 rfl
def ti16 : TI := ⟨.ptr 136, 1, 8, [.v (.pointer none)]⟩
theorem tiok16 : TIOk Tryd.prog 16 ti16 := tiok_mk (z := .pointer none) (by kernel_rfl) rfl ⟨.v _ rfl, trivial⟩ rfl Tryd.underlying16 rfl
def ti17 : TI := ⟨.ptr 145, 1, 8, [.v (.pointer none)]⟩
theorem tiok17 : TIOk Tryd.prog 17 ti17 := tiok_mk (z := .pointer none) (by kernel_rfl) rfl ⟨.v _ rfl, trivial⟩ rfl Tryd.underlying17 rfl
def ti18 : TI := ⟨.struct [(17, 0, 1)], 1, 8, [.v (.pointer none)]⟩
theorem tiok18 : TIOk Tryd.prog 18 ti18 := tiok_mk (z := .agg #[.pointer none]) (by kernel_rfl) rfl ⟨.v _ rfl, trivial⟩ rfl Tryd.underlying18 ⟨_, rfl, rfl, all_cons ⟨by decide, by kernel_rfl⟩ (all_nil)⟩
def ti19 : TI := ⟨.struct [(17, 0, 1)], 1, 8, [.v (.pointer none)]⟩
theorem tiok19 : TIOk Tryd.prog 19 ti19 := tiok_mk (z := .agg #[.pointer none]) (by kernel_rfl) rfl ⟨.v _ rfl, trivial⟩ rfl Tryd.underlying19 ⟨_, rfl, rfl, all_cons ⟨by decide, by kernel_rfl⟩ (all_nil)⟩
def ti20 : TI := ⟨.iface, 1, 16, [.v .nilIface]⟩
theorem tiok20 : TIOk Tryd.prog 20 ti20 := tiok_mk (z := .nilIface) (by kernel_rfl) rfl ⟨.v _ rfl, trivial⟩ rfl Tryd.underlying20 ⟨_, rfl⟩
def ti21 : TI := ⟨.int .i32, 1, 4, [.v (.int .i32 0)]⟩
theorem tiok21 : TIOk Tryd.prog 21 ti21 := tiok_mk (z := .int .i32 0) (by kernel_rfl) rfl ⟨.v _ rfl, trivial⟩ rfl Tryd.underlying21 rfl
def ti22 : TI := ⟨.slice 24, 1, 24, [.nil]⟩
theorem tiok22 : TIOk Tryd.prog 22 ti22 := tiok_mk (z := .slice none 0 0) (by kernel_rfl) rfl ⟨.nil, trivial⟩ rfl Tryd.underlying22 rfl
def ti23 : TI := ⟨.struct [(3, 0, 1), (2, 1, 1), (9, 2, 1), (22, 3, 1)], 4, 56, [.v (.int .i64 0), .v (.int .i64 0), .v (.string ⟨#[]⟩), .nil]⟩
theorem tiok23 : TIOk Tryd.prog 23 ti23 := tiok_mk (z := .agg #[.int .i64 0, .int .i64 0, .string ⟨#[]⟩, .slice none 0 0]) (by kernel_rfl) rfl ⟨.v _ rfl, .v _ rfl, .v _ rfl, .nil, trivial⟩ rfl Tryd.underlying23 ⟨_, rfl, rfl, all_cons ⟨by decide, by kernel_rfl⟩ (all_cons ⟨by decide, by kernel_rfl⟩ (all_cons ⟨by decide, by kernel_rfl⟩ (all_cons ⟨by decide, by kernel_rfl⟩ (all_nil))))⟩
def ti24 : TI := ⟨.struct [(3, 0, 1), (2, 1, 1), (9, 2, 1), (22, 3, 1)], 4, 56, [.v (.int .i64 0), .v (.int .i64 0), .v (.string ⟨#[]⟩), .nil]⟩
theorem tiok24 : TIOk Tryd.prog 24 ti24 := tiok_mk (z := .agg #[.int .i64 0, .int .i64 0, .string ⟨#[]⟩, .slice none 0 0]) (by kernel_rfl) rfl ⟨.v _ rfl, .v _ rfl, .v _ rfl, .nil, trivial⟩ rfl Tryd.underlying24 ⟨_, rfl, rfl, all_cons ⟨by decide, by kernel_rfl⟩ (all_cons ⟨by decide, by kernel_rfl⟩ (all_cons ⟨by decide, by kernel_rfl⟩ (all_cons ⟨by decide, by kernel_rfl⟩ (all_nil))))⟩
def ti25 : TI := ⟨.struct [(9, 0, 1), (3, 1, 1), (4, 2, 1), (24, 3, 4)], 7, 88, [.v (.string ⟨#[]⟩), .v (.int .i64 0), .ff, .v (.int .i64 0), .v (.int .i64 0), .v (.string ⟨#[]⟩), .nil]⟩
theorem tiok25 : TIOk Tryd.prog 25 ti25 := tiok_mk (z := .agg #[.string ⟨#[]⟩, .int .i64 0, .bool false, .int .i64 0, .int .i64 0, .string ⟨#[]⟩, .slice none 0 0]) (by kernel_rfl) rfl ⟨.v _ rfl, .v _ rfl, .ff, .v _ rfl, .v _ rfl, .v _ rfl, .nil, trivial⟩ rfl Tryd.underlying25 ⟨_, rfl, rfl, all_cons ⟨by decide, by kernel_rfl⟩ (all_cons ⟨by decide, by kernel_rfl⟩ (all_cons ⟨by decide, by kernel_rfl⟩ (all_cons ⟨by decide, by kernel_rfl⟩ (all_nil))))⟩
def ti26 : TI := ⟨.struct [(9, 0, 1), (3, 1, 1), (4, 2, 1), (24, 3, 4)], 7, 88, [.v (.string ⟨#[]⟩), .v (.int .i64 0), .ff, .v (.int .i64 0), .v (.int .i64 0), .v (.string ⟨#[]⟩), .nil]⟩
theorem tiok26 : TIOk Tryd.prog 26 ti26 := tiok_mk (z := .agg #[.string ⟨#[]⟩, .int .i64 0, .bool false, .int .i64 0, .int .i64 0, .string ⟨#[]⟩, .slice none 0 0]) (by kernel_rfl) rfl ⟨.v _ rfl, .v _ rfl, .ff, .v _ rfl, .v _ rfl, .v _ rfl, .nil, trivial⟩ rfl Tryd.underlying26 ⟨_, rfl, rfl, all_cons ⟨by decide, by kernel_rfl⟩ (all_cons ⟨by decide, by kernel_rfl⟩ (all_cons ⟨by decide, by kernel_rfl⟩ (all_cons ⟨by decide, by kernel_rfl⟩ (all_nil))))⟩
def ti27 : TI := ⟨.other, 1, 8, [.v .nilFunc]⟩
theorem tiok27 : TIOk Tryd.prog 27 ti27 := tiok_mk (z := .nilFunc) (by kernel_rfl) rfl ⟨.v _ rfl, trivial⟩ rfl Tryd.underlying27 trivial
def ti28 : TI := ⟨.other, 1, 8, [.v .nilFunc]⟩
theorem tiok28 : TIOk Tryd.prog 28 ti28 := tiok_mk (z := .nilFunc) (by kernel_rfl) rfl ⟨.v _ rfl, trivial⟩ rfl Tryd.underlying28 trivial
def ti29 : TI := ⟨.other, 1, 8, [.v .nilFunc]⟩
theorem tiok29 : TIOk Tryd.prog 29 ti29 := tiok_mk (z := .nilFunc) (by kernel_rfl) rfl ⟨.v _ rfl, trivial⟩ rfl Tryd.underlying29 trivial
def ti30 : TI := ⟨.int .i64, 1, 8, [.v (.int .i64 0)]⟩
theorem tiok30 : TIOk Tryd.prog 30 ti30 := tiok_mk (z := .int .i64 0) (by kernel_rfl) rfl ⟨.v _ rfl, trivial⟩ rfl Tryd.underlying30 rfl
def ti32 : TI := ⟨.other, 1, 8, [.v .nilFunc]⟩
theorem tiok32 : TIOk Tryd.prog 32 ti32 := tiok_mk (z := .nilFunc) (by kernel_rfl) rfl ⟨.v _ rfl, trivial⟩ rfl Tryd.underlying32 trivial
def ti33 : TI := ⟨.other, 1, 8, [.v .nilFunc]⟩
theorem tiok33 : TIOk Tryd.prog 33 ti33 := tiok_mk (z := .nilFunc) (by kernel_rfl) rfl ⟨.v _ rfl, trivial⟩ rfl Tryd.underlying33 trivial
def ti34 : TI := ⟨.other, 1, 8, [.v .nilFunc]⟩
theorem tiok34 : TIOk Tryd.prog 34 ti34 := tiok_mk (z := .nilFunc) (by kernel_rfl) rfl ⟨.v _ rfl, trivial⟩ rfl Tryd.underlying34 trivial
def ti35 : TI := ⟨.other, 1, 8, [.v .nilFunc]⟩
theorem tiok35 : TIOk Tryd.prog 35 ti35 := tiok_mk (z := .nilFunc) (by kernel_rfl) rfl ⟨.v _ rfl, trivial⟩ rfl Tryd.underlying35 trivial
def ti36 : TI := ⟨.slice 9, 1, 24, [.nil]⟩
theorem tiok36 : TIOk Tryd.prog 36 ti36 := tiok_mk (z := .slice none 0 0) (by kernel_rfl) rfl ⟨.nil, trivial⟩ rfl Tryd.underlying36 rfl
def ti37 : TI := ⟨.slice 39, 1, 24, [.nil]⟩
theorem tiok37 : TIOk Tryd.prog 37 ti37 := tiok_mk (z := .slice none 0 0) (by kernel_rfl) rfl ⟨.nil, trivial⟩ rfl Tryd.underlying37 rfl
def ti38 : TI := ⟨.struct [(3, 0, 1), (2, 1, 1), (9, 2, 1), (36, 3, 1), (37, 4, 1)], 5, 80, [.v (.int .i64 0), .v (.int .i64 0), .v (.string ⟨#[]⟩), .nil, .nil]⟩
theorem tiok38 : TIOk Tryd.prog 38 ti38 := tiok_mk (z := .agg #[.int .i64 0, .int .i64 0, .string ⟨#[]⟩, .slice none 0 0, .slice none 0 0]) (by kernel_rfl) rfl ⟨.v _ rfl, .v _ rfl, .v _ rfl, .nil, .nil, trivial⟩ rfl Tryd.underlying38 ⟨_, rfl, rfl, all_cons ⟨by decide, by kernel_rfl⟩ (all_cons ⟨by decide, by kernel_rfl⟩ (all_cons ⟨by decide, by kernel_rfl⟩ (all_cons ⟨by decide, by kernel_rfl⟩ (all_cons ⟨by decide, by kernel_rfl⟩ (all_nil)))))⟩
def ti39 : TI := ⟨.struct [(3, 0, 1), (2, 1, 1), (9, 2, 1), (36, 3, 1), (37, 4, 1)], 5, 80, [.v (.int .i64 0), .v (.int .i64 0), .v (.string ⟨#[]⟩), .nil, .nil]⟩
theorem tiok39 : TIOk Tryd.prog 39 ti39 := tiok_mk (z := .agg #[.int .i64 0, .int .i64 0, .string ⟨#[]⟩, .slice none 0 0, .slice none 0 0]) (by kernel_rfl) rfl ⟨.v _ rfl, .v _ rfl, .v _ rfl, .nil, .nil, trivial⟩ rfl Tryd.underlying39 ⟨_, rfl, rfl, all_cons ⟨by decide, by kernel_rfl⟩ (all_cons ⟨by decide, by kernel_rfl⟩ (all_cons ⟨by decide, by kernel_rfl⟩ (all_cons ⟨by decide, by kernel_rfl⟩ (all_cons ⟨by decide, by kernel_rfl⟩ (all_nil)))))⟩
def ti40 : TI := ⟨.other, 1, 8, [.v .nilFunc]⟩
theorem tiok40 : TIOk Tryd.prog 40 ti40 := tiok_mk (z := .nilFunc) (by kernel_rfl) rfl ⟨.v _ rfl, trivial⟩ rfl Tryd.underlying40 trivial
def ti41 : TI := ⟨.other, 1, 8, [.v .nilFunc]⟩
theorem tiok41 : TIOk Tryd.prog 41 ti41 := tiok_mk (z := .nilFunc) (by kernel_rfl) rfl ⟨.v _ rfl, trivial⟩ rfl Tryd.underlying41 trivial
def ti42 : TI := ⟨.other, 1, 8, [.v .nilFunc]⟩
theorem tiok42 : TIOk Tryd.prog 42 ti42 := tiok_mk (z := .nilFunc) (by kernel_rfl) rfl ⟨.v _ rfl, trivial⟩ rfl Tryd.underlying42 trivial
def ti43 : TI := ⟨.other, 1, 8, [.v .nilFunc]⟩
theorem tiok43 : TIOk Tryd.prog 43 ti43 := tiok_mk (z := .nilFunc) (by kernel_rfl) rfl ⟨.v _ rfl, trivial⟩ rfl Tryd.underlying43 trivial
def ti44 : TI := ⟨.other, 1, 8, [.v .nilFunc]⟩
theorem tiok44 : TIOk Tryd.prog 44 ti44 := tiok_mk (z := .nilFunc) (by kernel_rfl) rfl ⟨.v _ rfl, trivial⟩ rfl Tryd.underlying44 trivial
def ti46 : TI := ⟨.other, 1, 8, [.v .nilFunc]⟩
theorem tiok46 : TIOk Tryd.prog 46 ti46 := tiok_mk (z := .nilFunc) (by kernel_rfl) rfl ⟨.v _ rfl, trivial⟩ rfl Tryd.underlying46 trivial
def ti47 : TI := ⟨.other, 1, 8, [.v .nilFunc]⟩
theorem tiok47 : TIOk Tryd.prog 47 ti47 := tiok_mk (z := .nilFunc) (by kernel_rfl) rfl ⟨.v _ rfl, trivial⟩ rfl Tryd.underlying47 trivial
def ti48 : TI := ⟨.other, 1, 8, [.v .nilFunc]⟩
theorem tiok48 : TIOk Tryd.prog 48 ti48 := tiok_mk (z := .nilFunc) (by kernel_rfl) rfl ⟨.v _ rfl, trivial⟩ rfl Tryd.underlying48 trivial
def ti49 : TI := ⟨.other, 1, 8, [.v .nilFunc]⟩
theorem tiok49 : TIOk Tryd.prog 49 ti49 := tiok_mk (z := .nilFunc) (by kernel_rfl) rfl ⟨.v _ rfl, trivial⟩ rfl Tryd.underlying49 trivial
def ti50 : TI := ⟨.other, 1, 8, [.v .nilFunc]⟩
theorem tiok50 : TIOk Tryd.prog 50 ti50 := tiok_mk (z := .nilFunc) (by kernel_rfl) rfl ⟨.v _ rfl, trivial⟩ rfl Tryd.underlying50 trivial
def ti51 : TI := ⟨.other, 1, 8, [.v .nilFunc]⟩
theorem tiok51 : TIOk Tryd.prog 51 ti51 := tiok_mk (z := .nilFunc) (by kernel_rfl) rfl ⟨.v _ rfl, trivial⟩ rfl Tryd.underlying51 trivial
def ti52 : TI := ⟨.other, 1, 8, [.v .nilFunc]⟩
theorem tiok52 : TIOk Tryd.prog 52 ti52 := tiok_mk (z := .nilFunc) (by kernel_rfl) rfl ⟨.v _ rfl, trivial⟩ rfl Tryd.underlying52 trivial
def ti53 : TI := ⟨.other, 1, 8, [.v .nilFunc]⟩
theorem tiok53 : TIOk Tryd.prog 53 ti53 := tiok_mk (z := .nilFunc) (by kernel_rfl) rfl ⟨.v _ rfl, trivial⟩ rfl Tryd.underlying53 trivial
def ti54 : TI := ⟨.arr 7 4, 7, 7, [.ff, .ff, .ff, .ff, .ff, .ff, .ff]⟩
theorem tiok54 : TIOk Tryd.prog 54 ti54 := tiok_mk (z := .agg #[.bool false, .bool false, .bool false, .bool false, .bool false, .bool false, .bool false]) (by kernel_rfl) rfl ⟨.ff, .ff, .ff, .ff, .ff, .ff, .ff, trivial⟩ rfl Tryd.underlying54 rfl
def ti56 : TI := ⟨.other, 1, 8, [.v .nilFunc]⟩
theorem tiok56 : TIOk Tryd.prog 56 ti56 := tiok_mk (z := .nilFunc) (by kernel_rfl) rfl ⟨.v _ rfl, trivial⟩ rfl Tryd.underlying56 trivial
def ti57 : TI := ⟨.other, 1, 8, [.v .nilFunc]⟩
theorem tiok57 : TIOk Tryd.prog 57 ti57 := tiok_mk (z := .nilFunc) (by kernel_rfl) rfl ⟨.v _ rfl, trivial⟩ rfl Tryd.underlying57 trivial
def ti58 : TI := ⟨.other, 1, 8, [.v .nilFunc]⟩
theorem tiok58 : TIOk Tryd.prog 58 ti58 := tiok_mk (z := .nilFunc) (by kernel_rfl) rfl ⟨.v _ rfl, trivial⟩ rfl Tryd.underlying58 trivial
def ti59 : TI := ⟨.other, 1, 8, [.v .nilFunc]⟩
theorem tiok59 : TIOk Tryd.prog 59 ti59 := tiok_mk (z := .nilFunc) (by kernel_rfl) rfl ⟨.v _ rfl, trivial⟩ rfl Tryd.underlying59 trivial
def ti60 : TI := ⟨.other, 1, 8, [.v .nilFunc]⟩
theorem tiok60 : TIOk Tryd.prog 60 ti60 := tiok_mk (z := .nilFunc) (by kernel_rfl) rfl ⟨.v _ rfl, trivial⟩ rfl Tryd.underlying60 trivial
def ti61 : TI := ⟨.other, 1, 8, [.v .nilFunc]⟩
theorem tiok61 : TIOk Tryd.prog 61 ti61 := tiok_mk (z := .nilFunc) (by kernel_rfl) rfl ⟨.v _ rfl, trivial⟩ rfl Tryd.underlying61 trivial
def ti62 : TI := ⟨.ptr 65, 1, 8, [.v (.pointer none)]⟩
theorem tiok62 : TIOk Tryd.prog 62 ti62 := tiok_mk (z := .pointer none) (by kernel_rfl) rfl ⟨.v _ rfl, trivial⟩ rfl Tryd.underlying62 rfl
def ti63 : TI := ⟨.slice 5, 1, 24, [.nil]⟩
theorem tiok63 : TIOk Tryd.prog 63 ti63 := tiok_mk (z := .slice none 0 0) (by kernel_rfl) rfl ⟨.nil, trivial⟩ rfl Tryd.underlying63 rfl
def ti64 : TI := ⟨.struct [(62, 0, 1), (63, 1, 1)], 2, 32, [.v (.pointer none), .nil]⟩
theorem tiok64 : TIOk Tryd.prog 64 ti64 := tiok_mk (z := .agg #[.pointer none, .slice none 0 0]) (by kernel_rfl) rfl ⟨.v _ rfl, .nil, trivial⟩ rfl Tryd.underlying64 ⟨_, rfl, rfl, all_cons ⟨by decide, by kernel_rfl⟩ (all_cons ⟨by decide, by kernel_rfl⟩ (all_nil))⟩
def ti65 : TI := ⟨.struct [(62, 0, 1), (63, 1, 1)], 2, 32, [.v (.pointer none), .nil]⟩
theorem tiok65 : TIOk Tryd.prog 65 ti65 := tiok_mk (z := .agg #[.pointer none, .slice none 0 0]) (by kernel_rfl) rfl ⟨.v _ rfl, .nil, trivial⟩ rfl Tryd.underlying65 ⟨_, rfl, rfl, all_cons ⟨by decide, by kernel_rfl⟩ (all_cons ⟨by decide, by kernel_rfl⟩ (all_nil))⟩
def ti66 : TI := ⟨.other, 1, 8, [.v .nilFunc]⟩
theorem tiok66 : TIOk Tryd.prog 66 ti66 := tiok_mk (z := .nilFunc) (by kernel_rfl) rfl ⟨.v _ rfl, trivial⟩ rfl Tryd.underlying66 trivial
def ti67 : TI := ⟨.other, 1, 8, [.v .nilFunc]⟩
theorem tiok67 : TIOk Tryd.prog 67 ti67 := tiok_mk (z := .nilFunc) (by kernel_rfl) rfl ⟨.v _ rfl, trivial⟩ rfl Tryd.underlying67 trivial
def ti69 : TI := ⟨.other, 1, 8, [.v .nilFunc]⟩
theorem tiok69 : TIOk Tryd.prog 69 ti69 := tiok_mk (z := .nilFunc) (by kernel_rfl) rfl ⟨.v _ rfl, trivial⟩ rfl Tryd.underlying69 trivial
def ti70 : TI := ⟨.other, 1, 8, [.v .nilFunc]⟩
theorem tiok70 : TIOk Tryd.prog 70 ti70 := tiok_mk (z := .nilFunc) (by kernel_rfl) rfl ⟨.v _ rfl, trivial⟩ rfl Tryd.underlying70 trivial
def ti71 : TI := ⟨.other, 1, 8, [.v .nilFunc]⟩
theorem tiok71 : TIOk Tryd.prog 71 ti71 := tiok_mk (z := .nilFunc) (by kernel_rfl) rfl ⟨.v _ rfl, trivial⟩ rfl Tryd.underlying71 trivial
def ti72 : TI := ⟨.other, 1, 8, [.v .nilFunc]⟩
theorem tiok72 : TIOk Tryd.prog 72 ti72 := tiok_mk (z := .nilFunc) (by kernel_rfl) rfl ⟨.v _ rfl, trivial⟩ rfl Tryd.underlying72 trivial
def ti73 : TI := ⟨.other, 1, 8, [.v .nilFunc]⟩
theorem tiok73 : TIOk Tryd.prog 73 ti73 := tiok_mk (z := .nilFunc) (by kernel_rfl) rfl ⟨.v _ rfl, trivial⟩ rfl Tryd.underlying73 trivial
def ti74 : TI := ⟨.other, 1, 8, [.v .nilFunc]⟩
theorem tiok74 : TIOk Tryd.prog 74 ti74 := tiok_mk (z := .nilFunc) (by kernel_rfl) rfl ⟨.v _ rfl, trivial⟩ rfl Tryd.underlying74 trivial
def ti75 : TI := ⟨.other, 1, 8, [.v .nilFunc]⟩
theorem tiok75 : TIOk Tryd.prog 75 ti75 := tiok_mk (z := .nilFunc) (by kernel_rfl) rfl ⟨.v _ rfl, trivial⟩ rfl Tryd.underlying75 trivial
def ti76 : TI := ⟨.other, 1, 8, [.v .nilFunc]⟩
theorem tiok76 : TIOk Tryd.prog 76 ti76 := tiok_mk (z := .nilFunc) (by kernel_rfl) rfl ⟨.v _ rfl, trivial⟩ rfl Tryd.underlying76 trivial
def ti77 : TI := ⟨.other, 1, 8, [.v .nilFunc]⟩
theorem tiok77 : TIOk Tryd.prog 77 ti77 := tiok_mk (z := .nilFunc) (by kernel_rfl) rfl ⟨.v _ rfl, trivial⟩ rfl Tryd.underlying77 trivial
def ti78 : TI := ⟨.other, 1, 8, [.v .nilFunc]⟩
theorem tiok78 : TIOk Tryd.prog 78 ti78 := tiok_mk (z := .nilFunc) (by kernel_rfl) rfl ⟨.v _ rfl, trivial⟩ rfl Tryd.underlying78 trivial
def ti80 : TI := ⟨.other, 1, 8, [.v .nilFunc]⟩
theorem tiok80 : TIOk Tryd.prog 80 ti80 := tiok_mk (z := .nilFunc) (by kernel_rfl) rfl ⟨.v _ rfl, trivial⟩ rfl Tryd.underlying80 trivial
def ti81 : TI := ⟨.int .u64, 1, 8, [.v (.int .u64 0)]⟩
theorem tiok81 : TIOk Tryd.prog 81 ti81 := tiok_mk (z := .int .u64 0) (by kernel_rfl) rfl ⟨.v _ rfl, trivial⟩ rfl Tryd.underlying81 rfl
def ti82 : TI := ⟨.other, 1, 8, [.v .nilFunc]⟩
theorem tiok82 : TIOk Tryd.prog 82 ti82 := tiok_mk (z := .nilFunc) (by kernel_rfl) rfl ⟨.v _ rfl, trivial⟩ rfl Tryd.underlying82 trivial
def ti83 : TI := ⟨.other, 1, 8, [.v .nilFunc]⟩
theorem tiok83 : TIOk Tryd.prog 83 ti83 := tiok_mk (z := .nilFunc) (by kernel_rfl) rfl ⟨.v _ rfl, trivial⟩ rfl Tryd.underlying83 trivial
def ti84 : TI := ⟨.other, 1, 8, [.v .nilFunc]⟩
theorem tiok84 : TIOk Tryd.prog 84 ti84 := tiok_mk (z := .nilFunc) (by kernel_rfl) rfl ⟨.v _ rfl, trivial⟩ rfl Tryd.underlying84 trivial
def ti85 : TI := ⟨.other, 1, 8, [.v .nilFunc]⟩
theorem tiok85 : TIOk Tryd.prog 85 ti85 := tiok_mk (z := .nilFunc) (by kernel_rfl) rfl ⟨.v _ rfl, trivial⟩ rfl Tryd.underlying85 trivial
def ti86 : TI := ⟨.iface, 1, 16, [.v .nilIface]⟩
theorem tiok86 : TIOk Tryd.prog 86 ti86 := tiok_mk (z := .nilIface) (by kernel_rfl) rfl ⟨.v _ rfl, trivial⟩ rfl Tryd.underlying86 ⟨_, rfl⟩
def ti87 : TI := ⟨.iface, 1, 16, [.v .nilIface]⟩
theorem tiok87 : TIOk Tryd.prog 87 ti87 := tiok_mk (z := .nilIface) (by kernel_rfl) rfl ⟨.v _ rfl, trivial⟩ rfl Tryd.underlying87 ⟨_, rfl⟩
def ti88 : TI := ⟨.other, 1, 8, [.v .nilFunc]⟩
theorem tiok88 : TIOk Tryd.prog 88 ti88 := tiok_mk (z := .nilFunc) (by kernel_rfl) rfl ⟨.v _ rfl, trivial⟩ rfl Tryd.underlying88 trivial
def ti89 : TI := ⟨.other, 1, 8, [.v .nilFunc]⟩
theorem tiok89 : TIOk Tryd.prog 89 ti89 := tiok_mk (z := .nilFunc) (by kernel_rfl) rfl ⟨.v _ rfl, trivial⟩ rfl Tryd.underlying89 trivial
def ti91 : TI := ⟨.other, 1, 8, [.v .nilFunc]⟩
theorem tiok91 : TIOk Tryd.prog 91 ti91 := tiok_mk (z := .nilFunc) (by kernel_rfl) rfl ⟨.v _ rfl, trivial⟩ rfl Tryd.underlying91 trivial
def ti92 : TI := ⟨.arr 2 9, 2, 32, [.v (.string ⟨#[]⟩), .v (.string ⟨#[]⟩)]⟩
theorem tiok92 : TIOk Tryd.prog 92 ti92 := tiok_mk (z := .agg #[.string ⟨#[]⟩, .string ⟨#[]⟩]) (by kernel_rfl) rfl ⟨.v _ rfl, .v _ rfl, trivial⟩ rfl Tryd.underlying92 rfl
def ti93 : TI := ⟨.ptr 5, 1, 8, [.v (.pointer none)]⟩
theorem tiok93 : TIOk Tryd.prog 93 ti93 := tiok_mk (z := .pointer none) (by kernel_rfl) rfl ⟨.v _ rfl, trivial⟩ rfl Tryd.underlying93 rfl
def ti94 : TI := ⟨.other, 1, 8, [.v .nilFunc]⟩
theorem tiok94 : TIOk Tryd.prog 94 ti94 := tiok_mk (z := .nilFunc) (by kernel_rfl) rfl ⟨.v _ rfl, trivial⟩ rfl Tryd.underlying94 trivial
def ti95 : TI := ⟨.other, 1, 8, [.v .nilFunc]⟩
theorem tiok95 : TIOk Tryd.prog 95 ti95 := tiok_mk (z := .nilFunc) (by kernel_rfl) rfl ⟨.v _ rfl, trivial⟩ rfl Tryd.underlying95 trivial
def ti96 : TI := ⟨.slice 3, 1, 24, [.nil]⟩
theorem tiok96 : TIOk Tryd.prog 96 ti96 := tiok_mk (z := .slice none 0 0) (by kernel_rfl) rfl ⟨.nil, trivial⟩ rfl Tryd.underlying96 rfl
def ti97 : TI := ⟨.other, 1, 8, [.v .nilFunc]⟩
theorem tiok97 : TIOk Tryd.prog 97 ti97 := tiok_mk (z := .nilFunc) (by kernel_rfl) rfl ⟨.v _ rfl, trivial⟩ rfl Tryd.underlying97 trivial
def ti98 : TI := ⟨.other, 1, 8, [.v .nilFunc]⟩
theorem tiok98 : TIOk Tryd.prog 98 ti98 := tiok_mk (z := .nilFunc) (by kernel_rfl) rfl ⟨.v _ rfl, trivial⟩ rfl Tryd.underlying98 trivial
def ti99 : TI := ⟨.other, 1, 8, [.v .nilFunc]⟩
theorem tiok99 : TIOk Tryd.prog 99 ti99 := tiok_mk (z := .nilFunc) (by kernel_rfl) rfl ⟨.v _ rfl, trivial⟩ rfl Tryd.underlying99 trivial
def ti100 : TI := ⟨.map 9 4, 1, 8, [.v (.map none)]⟩
theorem tiok100 : TIOk Tryd.prog 100 ti100 := tiok_mk (z := .map none) (by kernel_rfl) rfl ⟨.v _ rfl, trivial⟩ rfl Tryd.underlying100 rfl
def ti101 : TI := ⟨.other, 1, 8, [.v .nilFunc]⟩
theorem tiok101 : TIOk Tryd.prog 101 ti101 := tiok_mk (z := .nilFunc) (by kernel_rfl) rfl ⟨.v _ rfl, trivial⟩ rfl Tryd.underlying101 trivial
def ti102 : TI := ⟨.other, 1, 8, [.v .nilFunc]⟩
theorem tiok102 : TIOk Tryd.prog 102 ti102 := tiok_mk (z := .nilFunc) (by kernel_rfl) rfl ⟨.v _ rfl, trivial⟩ rfl Tryd.underlying102 trivial
def ti103 : TI := ⟨.int .u64, 1, 8, [.v (.int .u64 0)]⟩
theorem tiok103 : TIOk Tryd.prog 103 ti103 := tiok_mk (z := .int .u64 0) (by kernel_rfl) rfl ⟨.v _ rfl, trivial⟩ rfl Tryd.underlying103 rfl
def ti104 : TI := ⟨.struct [(3, 0, 1), (30, 1, 1)], 2, 16, [.v (.int .i64 0), .v (.int .i64 0)]⟩
theorem tiok104 : TIOk Tryd.prog 104 ti104 := tiok_mk (z := .agg #[.int .i64 0, .int .i64 0]) (by kernel_rfl) rfl ⟨.v _ rfl, .v _ rfl, trivial⟩ rfl Tryd.underlying104 ⟨_, rfl, rfl, all_cons ⟨by decide, by kernel_rfl⟩ (all_cons ⟨by decide, by kernel_rfl⟩ (all_nil))⟩
def ti105 : TI := ⟨.struct [(3, 0, 1), (30, 1, 1)], 2, 16, [.v (.int .i64 0), .v (.int .i64 0)]⟩
theorem tiok105 : TIOk Tryd.prog 105 ti105 := tiok_mk (z := .agg #[.int .i64 0, .int .i64 0]) (by kernel_rfl) rfl ⟨.v _ rfl, .v _ rfl, trivial⟩ rfl Tryd.underlying105 ⟨_, rfl, rfl, all_cons ⟨by decide, by kernel_rfl⟩ (all_cons ⟨by decide, by kernel_rfl⟩ (all_nil))⟩
def ti107 : TI := ⟨.ptr 109, 1, 8, [.v (.pointer none)]⟩
theorem tiok107 : TIOk Tryd.prog 107 ti107 := tiok_mk (z := .pointer none) (by kernel_rfl) rfl ⟨.v _ rfl, trivial⟩ rfl Tryd.underlying107 rfl
def ti108 : TI := ⟨.struct [(9, 0, 1), (3, 1, 1), (3, 2, 1)], 3, 32, [.v (.string ⟨#[]⟩), .v (.int .i64 0), .v (.int .i64 0)]⟩
theorem tiok108 : TIOk Tryd.prog 108 ti108 := tiok_mk (z := .agg #[.string ⟨#[]⟩, .int .i64 0, .int .i64 0]) (by kernel_rfl) rfl ⟨.v _ rfl, .v _ rfl, .v _ rfl, trivial⟩ rfl Tryd.underlying108 ⟨_, rfl, rfl, all_cons ⟨by decide, by kernel_rfl⟩ (all_cons ⟨by decide, by kernel_rfl⟩ (all_cons ⟨by decide, by kernel_rfl⟩ (all_nil)))⟩
def ti109 : TI := ⟨.struct [(9, 0, 1), (3, 1, 1), (3, 2, 1)], 3, 32, [.v (.string ⟨#[]⟩), .v (.int .i64 0), .v (.int .i64 0)]⟩
theorem tiok109 : TIOk Tryd.prog 109 ti109 := tiok_mk (z := .agg #[.string ⟨#[]⟩, .int .i64 0, .int .i64 0]) (by kernel_rfl) rfl ⟨.v _ rfl, .v _ rfl, .v _ rfl, trivial⟩ rfl Tryd.underlying109 ⟨_, rfl, rfl, all_cons ⟨by decide, by kernel_rfl⟩ (all_cons ⟨by decide, by kernel_rfl⟩ (all_cons ⟨by decide, by kernel_rfl⟩ (all_nil)))⟩
def ti110 : TI := ⟨.other, 1, 8, [.v .nilFunc]⟩
theorem tiok110 : TIOk Tryd.prog 110 ti110 := tiok_mk (z := .nilFunc) (by kernel_rfl) rfl ⟨.v _ rfl, trivial⟩ rfl Tryd.underlying110 trivial
def ti111 : TI := ⟨.other, 1, 8, [.v .nilFunc]⟩
theorem tiok111 : TIOk Tryd.prog 111 ti111 := tiok_mk (z := .nilFunc) (by kernel_rfl) rfl ⟨.v _ rfl, trivial⟩ rfl Tryd.underlying111 trivial
def ti113 : TI := ⟨.other, 1, 8, [.v .nilFunc]⟩
theorem tiok113 : TIOk Tryd.prog 113 ti113 := tiok_mk (z := .nilFunc) (by kernel_rfl) rfl ⟨.v _ rfl, trivial⟩ rfl Tryd.underlying113 trivial
def ti114 : TI := ⟨.other, 1, 8, [.v (.pointer none)]⟩
theorem tiok114 : TIOk Tryd.prog 114 ti114 := tiok_mk (z := .pointer none) (by kernel_rfl) rfl ⟨.v _ rfl, trivial⟩ rfl Tryd.underlying114 trivial
def ti115 : TI := ⟨.other, 1, 8, [.v .nilFunc]⟩
theorem tiok115 : TIOk Tryd.prog 115 ti115 := tiok_mk (z := .nilFunc) (by kernel_rfl) rfl ⟨.v _ rfl, trivial⟩ rfl Tryd.underlying115 trivial
def ti116 : TI := ⟨.other, 1, 8, [.v .nilFunc]⟩
theorem tiok116 : TIOk Tryd.prog 116 ti116 := tiok_mk (z := .nilFunc) (by kernel_rfl) rfl ⟨.v _ rfl, trivial⟩ rfl Tryd.underlying116 trivial
def ti118 : TI := ⟨.other, 1, 8, [.v .nilFunc]⟩
theorem tiok118 : TIOk Tryd.prog 118 ti118 := tiok_mk (z := .nilFunc) (by kernel_rfl) rfl ⟨.v _ rfl, trivial⟩ rfl Tryd.underlying118 trivial
def ti119 : TI := ⟨.other, 1, 8, [.v .nilFunc]⟩
theorem tiok119 : TIOk Tryd.prog 119 ti119 := tiok_mk (z := .nilFunc) (by kernel_rfl) rfl ⟨.v _ rfl, trivial⟩ rfl Tryd.underlying119 trivial
def ti120 : TI := ⟨.other, 1, 8, [.v .nilFunc]⟩
theorem tiok120 : TIOk Tryd.prog 120 ti120 := tiok_mk (z := .nilFunc) (by kernel_rfl) rfl ⟨.v _ rfl, trivial⟩ rfl Tryd.underlying120 trivial
def ti121 : TI := ⟨.other, 1, 8, [.v .nilFunc]⟩
theorem tiok121 : TIOk Tryd.prog 121 ti121 := tiok_mk (z := .nilFunc) (by kernel_rfl) rfl ⟨.v _ rfl, trivial⟩ rfl Tryd.underlying121 trivial
def ti122 : TI := ⟨.other, 1, 8, [.v .nilFunc]⟩
theorem tiok122 : TIOk Tryd.prog 122 ti122 := tiok_mk (z := .nilFunc) (by kernel_rfl) rfl ⟨.v _ rfl, trivial⟩ rfl Tryd.underlying122 trivial
def ti124 : TI := ⟨.other, 1, 8, [.v .nilFunc]⟩
theorem tiok124 : TIOk Tryd.prog 124 ti124 := tiok_mk (z := .nilFunc) (by kernel_rfl) rfl ⟨.v _ rfl, trivial⟩ rfl Tryd.underlying124 trivial
def ti125 : TI := ⟨.other, 1, 8, [.v .nilFunc]⟩
theorem tiok125 : TIOk Tryd.prog 125 ti125 := tiok_mk (z := .nilFunc) (by kernel_rfl) rfl ⟨.v _ rfl, trivial⟩ rfl Tryd.underlying125 trivial
def ti127 : TI := ⟨.other, 1, 8, [.v .nilFunc]⟩
theorem tiok127 : TIOk Tryd.prog 127 ti127 := tiok_mk (z := .nilFunc) (by kernel_rfl) rfl ⟨.v _ rfl, trivial⟩ rfl Tryd.underlying127 trivial
def ti128 : TI := ⟨.other, 1, 8, [.v .nilFunc]⟩
theorem tiok128 : TIOk Tryd.prog 128 ti128 := tiok_mk (z := .nilFunc) (by kernel_rfl) rfl ⟨.v _ rfl, trivial⟩ rfl Tryd.underlying128 trivial
def ti130 : TI := ⟨.other, 1, 8, [.v .nilFunc]⟩
theorem tiok130 : TIOk Tryd.prog 130 ti130 := tiok_mk (z := .nilFunc) (by kernel_rfl) rfl ⟨.v _ rfl, trivial⟩ rfl Tryd.underlying130 trivial
def ti131 : TI := ⟨.other, 1, 8, [.v .nilFunc]⟩
theorem tiok131 : TIOk Tryd.prog 131 ti131 := tiok_mk (z := .nilFunc) (by kernel_rfl) rfl ⟨.v _ rfl, trivial⟩ rfl Tryd.underlying131 trivial
def ti132 : TI := ⟨.struct [(17, 0, 1), (17, 1, 1), (17, 2, 1), (9, 3, 1)], 4, 40, [.v (.pointer none), .v (.pointer none), .v (.pointer none), .v (.string ⟨#[]⟩)]⟩
theorem tiok132 : TIOk Tryd.prog 132 ti132 := tiok_mk (z := .agg #[.pointer none, .pointer none, .pointer none, .string ⟨#[]⟩]) (by kernel_rfl) rfl ⟨.v _ rfl, .v _ rfl, .v _ rfl, .v _ rfl, trivial⟩ rfl Tryd.underlying132 ⟨_, rfl, rfl, all_cons ⟨by decide, by kernel_rfl⟩ (all_cons ⟨by decide, by kernel_rfl⟩ (all_cons ⟨by decide, by kernel_rfl⟩ (all_cons ⟨by decide, by kernel_rfl⟩ (all_nil))))⟩
def ti133 : TI := ⟨.struct [(17, 0, 1), (17, 1, 1), (17, 2, 1), (9, 3, 1)], 4, 40, [.v (.pointer none), .v (.pointer none), .v (.pointer none), .v (.string ⟨#[]⟩)]⟩
theorem tiok133 : TIOk Tryd.prog 133 ti133 := tiok_mk (z := .agg #[.pointer none, .pointer none, .pointer none, .string ⟨#[]⟩]) (by kernel_rfl) rfl ⟨.v _ rfl, .v _ rfl, .v _ rfl, .v _ rfl, trivial⟩ rfl Tryd.underlying133 ⟨_, rfl, rfl, all_cons ⟨by decide, by kernel_rfl⟩ (all_cons ⟨by decide, by kernel_rfl⟩ (all_cons ⟨by decide, by kernel_rfl⟩ (all_cons ⟨by decide, by kernel_rfl⟩ (all_nil))))⟩
def ti137 : TI := ⟨.other, 1, 8, [.v .nilFunc]⟩
theorem tiok137 : TIOk Tryd.prog 137 ti137 := tiok_mk (z := .nilFunc) (by kernel_rfl) rfl ⟨.v _ rfl, trivial⟩ rfl Tryd.underlying137 trivial
def ti138 : TI := ⟨.int .u32, 1, 4, [.v (.int .u32 0)]⟩
theorem tiok138 : TIOk Tryd.prog 138 ti138 := tiok_mk (z := .int .u32 0) (by kernel_rfl) rfl ⟨.v _ rfl, trivial⟩ rfl Tryd.underlying138 rfl
def ti139 : TI := ⟨.int .u8, 1, 1, [.v (.int .u8 0)]⟩
theorem tiok139 : TIOk Tryd.prog 139 ti139 := tiok_mk (z := .int .u8 0) (by kernel_rfl) rfl ⟨.v _ rfl, trivial⟩ rfl Tryd.underlying139 rfl
def ti140 : TI := ⟨.int .u8, 1, 1, [.v (.int .u8 0)]⟩
theorem tiok140 : TIOk Tryd.prog 140 ti140 := tiok_mk (z := .int .u8 0) (by kernel_rfl) rfl ⟨.v _ rfl, trivial⟩ rfl Tryd.underlying140 rfl
def ti141 : TI := ⟨.other, 1, 8, [.v .nilFunc]⟩
theorem tiok141 : TIOk Tryd.prog 141 ti141 := tiok_mk (z := .nilFunc) (by kernel_rfl) rfl ⟨.v _ rfl, trivial⟩ rfl Tryd.underlying141 trivial
def ti142 : TI := ⟨.int .i32, 1, 4, [.v (.int .i32 0)]⟩
theorem tiok142 : TIOk Tryd.prog 142 ti142 := tiok_mk (z := .int .i32 0) (by kernel_rfl) rfl ⟨.v _ rfl, trivial⟩ rfl Tryd.underlying142 rfl
def ti143 : TI := ⟨.int .i32, 1, 4, [.v (.int .i32 0)]⟩
theorem tiok143 : TIOk Tryd.prog 143 ti143 := tiok_mk (z := .int .i32 0) (by kernel_rfl) rfl ⟨.v _ rfl, trivial⟩ rfl Tryd.underlying143 rfl
def ti144 : TI := ⟨.struct [(12, 0, 1), (12, 1, 1), (138, 2, 1), (139, 3, 1), (5, 4, 1), (5, 5, 1), (140, 6, 1), (141, 7, 1), (93, 8, 1), (142, 9, 1), (143, 10, 1)], 11, 48, [.v (.int .u64 0), .v (.int .u64 0), .v (.int .u32 0), .v (.int .u8 0), .v (.int .u8 0), .v (.int .u8 0), .v (.int .u8 0), .v .nilFunc, .v (.pointer none), .v (.int .i32 0), .v (.int .i32 0)]⟩
theorem tiok144 : TIOk Tryd.prog 144 ti144 := tiok_mk (z := .agg #[.int .u64 0, .int .u64 0, .int .u32 0, .int .u8 0, .int .u8 0, .int .u8 0, .int .u8 0, .nilFunc, .pointer none, .int .i32 0, .int .i32 0]) (by kernel_rfl) rfl ⟨.v _ rfl, .v _ rfl, .v _ rfl, .v _ rfl, .v _ rfl, .v _ rfl, .v _ rfl, .v _ rfl, .v _ rfl, .v _ rfl, .v _ rfl, trivial⟩ rfl Tryd.underlying144 ⟨_, rfl, rfl, all_cons ⟨by decide, by kernel_rfl⟩ (all_cons ⟨by decide, by kernel_rfl⟩ (all_cons ⟨by decide, by kernel_rfl⟩ (all_cons ⟨by decide, by kernel_rfl⟩ (all_cons ⟨by decide, by kernel_rfl⟩ (all_cons ⟨by decide, by kernel_rfl⟩ (all_cons ⟨by decide, by kernel_rfl⟩ (all_cons ⟨by decide, by kernel_rfl⟩ (all_cons ⟨by decide, by kernel_rfl⟩ (all_cons ⟨by decide, by kernel_rfl⟩ (all_cons ⟨by decide, by kernel_rfl⟩ (all_nil)))))))))))⟩
def ti145 : TI := ⟨.struct [(12, 0, 1), (12, 1, 1), (138, 2, 1), (139, 3, 1), (5, 4, 1), (5, 5, 1), (140, 6, 1), (141, 7, 1), (93, 8, 1), (142, 9, 1), (143, 10, 1)], 11, 48, [.v (.int .u64 0), .v (.int .u64 0), .v (.int .u32 0), .v (.int .u8 0), .v (.int .u8 0), .v (.int .u8 0), .v (.int .u8 0), .v .nilFunc, .v (.pointer none), .v (.int .i32 0), .v (.int .i32 0)]⟩
theorem tiok145 : TIOk Tryd.prog 145 ti145 := tiok_mk (z := .agg #[.int .u64 0, .int .u64 0, .int .u32 0, .int .u8 0, .int .u8 0, .int .u8 0, .int .u8 0, .nilFunc, .pointer none, .int .i32 0, .int .i32 0]) (by kernel_rfl) rfl ⟨.v _ rfl, .v _ rfl, .v _ rfl, .v _ rfl, .v _ rfl, .v _ rfl, .v _ rfl, .v _ rfl, .v _ rfl, .v _ rfl, .v _ rfl, trivial⟩ rfl Tryd.underlying145 ⟨_, rfl, rfl, all_cons ⟨by decide, by kernel_rfl⟩ (all_cons ⟨by decide, by kernel_rfl⟩ (all_cons ⟨by decide, by kernel_rfl⟩ (all_cons ⟨by decide, by kernel_rfl⟩ (all_cons ⟨by decide, by kernel_rfl⟩ (all_cons ⟨by decide, by kernel_rfl⟩ (all_cons ⟨by decide, by kernel_rfl⟩ (all_cons ⟨by decide, by kernel_rfl⟩ (all_cons ⟨by decide, by kernel_rfl⟩ (all_cons ⟨by decide, by kernel_rfl⟩ (all_cons ⟨by decide, by kernel_rfl⟩ (all_nil)))))))))))⟩
def tyTab : List (Nat × TI) := [(1, ti1), (2, ti2), (3, ti3), (4, ti4), (5, ti5), (6, ti6), (7, ti7), (8, ti8), (9, ti9), (10, ti10), (11, ti11), (12, ti12), (13, ti13), (14, ti14), (15, ti15), (16, ti16), (17, ti17), (18, ti18), (19, ti19), (20, ti20), (21, ti21), (22, ti22), (23, ti23), (24, ti24), (25, ti25), (26, ti26), (27, ti27), (28, ti28), (29, ti29), (30, ti30), (32, ti32), (33, ti33), (34, ti34), (35, ti35), (36, ti36), (37, ti37), (38, ti38), (39, ti39), (40, ti40), (41, ti41), (42, ti42), (43, ti43), (44, ti44), (46, ti46), (47, ti47), (48, ti48), (49, ti49), (50, ti50), (51, ti51), (52, ti52), (53, ti53), (54, ti54), (56, ti56), (57, ti57), (58, ti58), (59, ti59), (60, ti60), (61, ti61), (62, ti62), (63, ti63), (64, ti64), (65, ti65), (66, ti66), (67, ti67), (69, ti69), (70, ti70), (71, ti71), (72, ti72), (73, ti73), (74, ti74), (75, ti75), (76, ti76), (77, ti77), (78, ti78), (80, ti80), (81, ti81), (82, ti82), (83, ti83), (84, ti84), (85, ti85), (86, ti86), (87, ti87), (88, ti88), (89, ti89), (91, ti91), (92, ti92), (93, ti93), (94, ti94), (95, ti95), (96, ti96), (97, ti97), (98, ti98), (99, ti99), (100, ti100), (101, ti101), (102, ti102), (103, ti103), (104, ti104), (105, ti105), (107, ti107), (108, ti108), (109, ti109), (110, ti110), (111, ti111), (113, ti113), (114, ti114), (115, ti115), (116, ti116), (118, ti118), (119, ti119), (120, ti120), (121, ti121), (122, ti122), (124, ti124), (125, ti125), (127, ti127), (128, ti128), (130, ti130), (131, ti131), (132, ti132), (133, ti133), (137, ti137), (138, ti138), (139, ti139), (140, ti140), (141, ti141), (142, ti142), (143, ti143), (144, ti144), (145, ti145)]
def tyGet : List (Nat × TI) → Nat → Option TI
  | [], _ => none
  | (k, v) :: r, t => match Nat.beq k t with
    | true => some v
    | false => tyGet r t
def ty (t : Nat) : Option TI := tyGet tyTab t
theorem tyGet_ok {P : Program} : ∀ {l : List (Nat × TI)}, (∀ x ∈ l, TIOk P x.1 x.2) → ∀ t i, tyGet l t = some i → TIOk P t i
  | [], _, t, i, h => by simp [tyGet] at h
  | (k, v) :: r, hl, t, i, h => by
    simp only [tyGet] at h
    split at h
    · rename_i hb
      have : k = t := Nat.eq_of_beq_eq_true hb
      subst this
      cases h
      exact hl (k, v) List.mem_cons_self
    · exact tyGet_ok (fun x hx => hl x (List.mem_cons_of_mem _ hx)) t i h
theorem tab_cons {P : Program} {k : Nat} {v : TI} {l : List (Nat × TI)} (h : TIOk P k v) (hl : ∀ x ∈ l, TIOk P x.1 x.2) : ∀ x ∈ (k, v) :: l, TIOk P x.1 x.2 := fun x hx => by
  cases hx with
  | head => exact h
  | tail _ hx => exact hl x hx
theorem ty_ok : ∀ t i, ty t = some i → TIOk Tryd.prog t i := tyGet_ok (tab_cons tiok1 (tab_cons tiok2 (tab_cons tiok3 (tab_cons tiok4 (tab_cons tiok5 (tab_cons tiok6 (tab_cons tiok7 (tab_cons tiok8 (tab_cons tiok9 (tab_cons tiok10 (tab_cons tiok11 (tab_cons tiok12 (tab_cons tiok13 (tab_cons tiok14 (tab_cons tiok15 (tab_cons tiok16 (tab_cons tiok17 (tab_cons tiok18 (tab_cons tiok19 (tab_cons tiok20 (tab_cons tiok21 (tab_cons tiok22 (tab_cons tiok23 (tab_cons tiok24 (tab_cons tiok25 (tab_cons tiok26 (tab_cons tiok27 (tab_cons tiok28 (tab_cons tiok29 (tab_cons tiok30 (tab_cons tiok32 (tab_cons tiok33 (tab_cons tiok34 (tab_cons tiok35 (tab_cons tiok36 (tab_cons tiok37 (tab_cons tiok38 (tab_cons tiok39 (tab_cons tiok40 (tab_cons tiok41 (tab_cons tiok42 (tab_cons tiok43 (tab_cons tiok44 (tab_cons tiok46 (tab_cons tiok47 (tab_cons tiok48 (tab_cons tiok49 (tab_cons tiok50 (tab_cons tiok51 (tab_cons tiok52 (tab_cons tiok53 (tab_cons tiok54 (tab_cons tiok56 (tab_cons tiok57 (tab_cons tiok58 (tab_cons tiok59 (tab_cons tiok60 (tab_cons tiok61 (tab_cons tiok62 (tab_cons tiok63 (tab_cons tiok64 (tab_cons tiok65 (tab_cons tiok66 (tab_cons tiok67 (tab_cons tiok69 (tab_cons tiok70 (tab_cons tiok71 (tab_cons tiok72 (tab_cons tiok73 (tab_cons tiok74 (tab_cons tiok75 (tab_cons tiok76 (tab_cons tiok77 (tab_cons tiok78 (tab_cons tiok80 (tab_cons tiok81 (tab_cons tiok82 (tab_cons tiok83 (tab_cons tiok84 (tab_cons tiok85 (tab_cons tiok86 (tab_cons tiok87 (tab_cons tiok88 (tab_cons tiok89 (tab_cons tiok91 (tab_cons tiok92 (tab_cons tiok93 (tab_cons tiok94 (tab_cons tiok95 (tab_cons tiok96 (tab_cons tiok97 (tab_cons tiok98 (tab_cons tiok99 (tab_cons tiok100 (tab_cons tiok101 (tab_cons tiok102 (tab_cons tiok103 (tab_cons tiok104 (tab_cons tiok105 (tab_cons tiok107 (tab_cons tiok108 (tab_cons tiok109 (tab_cons tiok110 (tab_cons tiok111 (tab_cons tiok113 (tab_cons tiok114 (tab_cons tiok115 (tab_cons tiok116 (tab_cons tiok118 (tab_cons tiok119 (tab_cons tiok120 (tab_cons tiok121 (tab_cons tiok122 (tab_cons tiok124 (tab_cons tiok125 (tab_cons tiok127 (tab_cons tiok128 (tab_cons tiok130 (tab_cons tiok131 (tab_cons tiok132 (tab_cons tiok133 (tab_cons tiok137 (tab_cons tiok138 (tab_cons tiok139 (tab_cons tiok140 (tab_cons tiok141 (tab_cons tiok142 (tab_cons tiok143 (tab_cons tiok144 (tab_cons tiok145 (fun _ h => by cases h)))))))))))))))))))))))))))))))))))))))))))))))))))))))))))))))))))))))))))))))))))))))))))))))))))))))))))))))))))))))))))))))))))
end Go.Proofs.YtdgjpncflkpjfaaDoor
