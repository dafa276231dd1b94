/- The seat's types, as the abstract machine wants them (written by a program of this session's out of the translation). -/
import Derived.Test.YtgdgfomoeohdeaaAw8
import Derived.Test.YtgdgfomoeohdeaaProg
set_option linter.unusedVariables false
set_option linter.unusedSimpArgs false
namespace Go.Proofs.Ytgdgfomoeohdeaa
open Aw
theorem tiok_mk {P : Program} {t : Nat} {td : TD} {sz bys : Nat} {zero : List AC} {z : Value} {d : TypeDesc} (h1 : (P.info? t).map (fun i => (i.size, i.bytes, i.zero)) = some (sz, bys, some z))
    (h2 : match (generalizing := false) z with | .agg _ => TI.agg ⟨td, sz, bys, zero⟩ = true | .tuple _ => False | _ => TI.agg ⟨td, sz, bys, zero⟩ = false) (h3 : All2 (Rel (fun _ _ => none)) zero z.cells.toList) (h4 : zero.length = sz) (h5 : P.underlying t = some d) (h6 : td.ok P d) : TIOk P t ⟨td, sz, bys, zero⟩ := by
  cases hi : P.info? t with
  | none => rw [hi] at h1; cases h1
  | some info =>
    rw [hi] at h1
    simp only [Option.map_some, Option.some.injEq, Prod.mk.injEq] at h1
    exact ⟨⟨info, z, hi, h1.1, h1.2.1, h1.2.2, h2, h3⟩, h4, ⟨d, h5, h6⟩⟩
theorem all_cons {p : Nat × Nat × Nat → Prop} {x : Nat × Nat × Nat} {l : List (Nat × Nat × Nat)} (h : p x) (k : ∀ y ∈ l, p y) : ∀ y ∈ x :: l, p y := fun y hy => by
  cases hy with
  | head => exact h
  | tail _ hy => exact k y hy
theorem all_nil {p : Nat × Nat × Nat → Prop} : ∀ y ∈ ([] : List (Nat × Nat × Nat)), p y := fun _ h => by cases h
def ti1 : TI := ⟨.other, 1, 8, [.v .nilFunc]⟩
theorem tiok1 : TIOk Try.prog 1 ti1 := tiok_mk (z := .nilFunc) (by kernel_rfl) rfl ⟨.v _ rfl, trivial⟩ rfl Try.underlying1 trivial
def ti2 : TI := ⟨.int .i64, 1, 8, [.v (.int .i64 0)]⟩
theorem tiok2 : TIOk Try.prog 2 ti2 := tiok_mk (z := .int .i64 0) (by kernel_rfl) rfl ⟨.v _ rfl, trivial⟩ rfl Try.underlying2 rfl
def ti3 : TI := ⟨.int .i64, 1, 8, [.v (.int .i64 0)]⟩
theorem tiok3 : TIOk Try.prog 3 ti3 := tiok_mk (z := .int .i64 0) (by kernel_rfl) rfl ⟨.v _ rfl, trivial⟩ rfl Try.underlying3 rfl
def ti4 : TI := ⟨.bool, 1, 1, [.ff]⟩
theorem tiok4 : TIOk Try.prog 4 ti4 := tiok_mk (z := .bool false) (by kernel_rfl) rfl ⟨.ff, trivial⟩ rfl Try.underlying4 rfl
def ti5 : TI := ⟨.int .u8, 1, 1, [.v (.int .u8 0)]⟩
theorem tiok5 : TIOk Try.prog 5 ti5 := tiok_mk (z := .int .u8 0) (by kernel_rfl) rfl ⟨.v _ rfl, trivial⟩ rfl Try.underlying5 rfl
def ti6 : TI := ⟨.int .u8, 1, 1, [.v (.int .u8 0)]⟩
theorem tiok6 : TIOk Try.prog 6 ti6 := tiok_mk (z := .int .u8 0) (by kernel_rfl) rfl ⟨.v _ rfl, trivial⟩ rfl Try.underlying6 rfl
def ti7 : TI := ⟨.struct [(2, 0, 1), (3, 1, 1), (4, 2, 1), (6, 3, 1)], 4, 24, [.v (.int .i64 0), .v (.int .i64 0), .ff, .v (.int .u8 0)]⟩
theorem tiok7 : TIOk Try.prog 7 ti7 := tiok_mk (z := .agg #[.int .i64 0, .int .i64 0, .bool false, .int .u8 0]) (by kernel_rfl) rfl ⟨.v _ rfl, .v _ rfl, .ff, .v _ rfl, trivial⟩ rfl Try.underlying7 ⟨_, rfl, rfl, all_cons ⟨by decide, by kernel_rfl⟩ (all_cons ⟨by decide, by kernel_rfl⟩ (all_cons ⟨by decide, by kernel_rfl⟩ (all_cons ⟨by decide, by kernel_rfl⟩ (all_nil))))⟩
def ti8 : TI := ⟨.struct [(2, 0, 1), (3, 1, 1), (4, 2, 1), (6, 3, 1)], 4, 24, [.v (.int .i64 0), .v (.int .i64 0), .ff, .v (.int .u8 0)]⟩
theorem tiok8 : TIOk Try.prog 8 ti8 := tiok_mk (z := .agg #[.int .i64 0, .int .i64 0, .bool false, .int .u8 0]) (by kernel_rfl) rfl ⟨.v _ rfl, .v _ rfl, .ff, .v _ rfl, trivial⟩ rfl Try.underlying8 ⟨_, rfl, rfl, all_cons ⟨by decide, by kernel_rfl⟩ (all_cons ⟨by decide, by kernel_rfl⟩ (all_cons ⟨by decide, by kernel_rfl⟩ (all_cons ⟨by decide, by kernel_rfl⟩ (all_nil))))⟩
def ti9 : TI := ⟨.str, 1, 16, [.v (.string ⟨#[]⟩)]⟩
theorem tiok9 : TIOk Try.prog 9 ti9 := tiok_mk (z := .string ⟨#[]⟩) (by kernel_rfl) rfl ⟨.v _ rfl, trivial⟩ rfl Try.underlying9 rfl
def ti10 : TI := ⟨.str, 1, 16, [.v (.string ⟨#[]⟩)]⟩
theorem tiok10 : TIOk Try.prog 10 ti10 := tiok_mk (z := .string ⟨#[]⟩) (by kernel_rfl) rfl ⟨.v _ rfl, trivial⟩ rfl Try.underlying10 rfl
def ti11 : TI := ⟨.str, 1, 16, [.v (.string ⟨#[]⟩)]⟩
theorem tiok11 : TIOk Try.prog 11 ti11 := tiok_mk (z := .string ⟨#[]⟩) (by kernel_rfl) rfl ⟨.v _ rfl, trivial⟩ rfl Try.underlying11 rfl
def ti12 : TI := ⟨.int .u64, 1, 8, [.v (.int .u64 0)]⟩
theorem tiok12 : TIOk Try.prog 12 ti12 := tiok_mk (z := .int .u64 0) (by kernel_rfl) rfl ⟨.v _ rfl, trivial⟩ rfl Try.underlying12 rfl
def ti13 : TI := ⟨.struct [(9, 0, 1), (12, 1, 1)], 2, 24, [.v (.string ⟨#[]⟩), .v (.int .u64 0)]⟩
theorem tiok13 : TIOk Try.prog 13 ti13 := tiok_mk (z := .agg #[.string ⟨#[]⟩, .int .u64 0]) (by kernel_rfl) rfl ⟨.v _ rfl, .v _ rfl, trivial⟩ rfl Try.underlying13 ⟨_, rfl, rfl, all_cons ⟨by decide, by kernel_rfl⟩ (all_cons ⟨by decide, by kernel_rfl⟩ (all_nil))⟩
def ti14 : TI := ⟨.struct [(9, 0, 1), (12, 1, 1)], 2, 24, [.v (.string ⟨#[]⟩), .v (.int .u64 0)]⟩
theorem tiok14 : TIOk Try.prog 14 ti14 := tiok_mk (z := .agg #[.string ⟨#[]⟩, .int .u64 0]) (by kernel_rfl) rfl ⟨.v _ rfl, .v _ rfl, trivial⟩ rfl Try.underlying14 ⟨_, rfl, rfl, all_cons ⟨by decide, by kernel_rfl⟩ (all_cons ⟨by decide, by kernel_rfl⟩ (all_nil))⟩
def ti15 : TI := ⟨.ptr 112, 1, 8, [.v (.pointer none)]⟩
theorem tiok15 : TIOk Try.prog 15 ti15 := tiok_mk (z := .pointer none) (by kernel_rfl) rfl ⟨.v _ rfl, trivial⟩ rfl Try.underlying15 rfl
def ti16 : TI := ⟨.ptr 115, 1, 8, [.v (.pointer none)]⟩
theorem tiok16 : TIOk Try.prog 16 ti16 := tiok_mk (z := .pointer none) (by kernel_rfl) rfl ⟨.v _ rfl, trivial⟩ rfl Try.underlying16 rfl
def ti17 : TI := ⟨.ptr 124, 1, 8, [.v (.pointer none)]⟩
theorem tiok17 : TIOk Try.prog 17 ti17 := tiok_mk (z := .pointer none) (by kernel_rfl) rfl ⟨.v _ rfl, trivial⟩ rfl Try.underlying17 rfl
def ti18 : TI := ⟨.struct [(17, 0, 1)], 1, 8, [.v (.pointer none)]⟩
theorem tiok18 : TIOk Try.prog 18 ti18 := tiok_mk (z := .agg #[.pointer none]) (by kernel_rfl) rfl ⟨.v _ rfl, trivial⟩ rfl Try.underlying18 ⟨_, rfl, rfl, all_cons ⟨by decide, by kernel_rfl⟩ (all_nil)⟩
def ti19 : TI := ⟨.struct [(17, 0, 1)], 1, 8, [.v (.pointer none)]⟩
theorem tiok19 : TIOk Try.prog 19 ti19 := tiok_mk (z := .agg #[.pointer none]) (by kernel_rfl) rfl ⟨.v _ rfl, trivial⟩ rfl Try.underlying19 ⟨_, rfl, rfl, all_cons ⟨by decide, by kernel_rfl⟩ (all_nil)⟩
def ti20 : TI := ⟨.iface, 1, 16, [.v .nilIface]⟩
theorem tiok20 : TIOk Try.prog 20 ti20 := tiok_mk (z := .nilIface) (by kernel_rfl) rfl ⟨.v _ rfl, trivial⟩ rfl Try.underlying20 ⟨_, rfl⟩
def ti21 : TI := ⟨.int .i32, 1, 4, [.v (.int .i32 0)]⟩
theorem tiok21 : TIOk Try.prog 21 ti21 := tiok_mk (z := .int .i32 0) (by kernel_rfl) rfl ⟨.v _ rfl, trivial⟩ rfl Try.underlying21 rfl
def ti22 : TI := ⟨.other, 1, 8, [.v .nilFunc]⟩
theorem tiok22 : TIOk Try.prog 22 ti22 := tiok_mk (z := .nilFunc) (by kernel_rfl) rfl ⟨.v _ rfl, trivial⟩ rfl Try.underlying22 trivial
def ti23 : TI := ⟨.slice 25, 1, 24, [.nil]⟩
theorem tiok23 : TIOk Try.prog 23 ti23 := tiok_mk (z := .slice none 0 0) (by kernel_rfl) rfl ⟨.nil, trivial⟩ rfl Try.underlying23 rfl
def ti24 : TI := ⟨.struct [(3, 0, 1), (2, 1, 1), (9, 2, 1), (23, 3, 1)], 4, 56, [.v (.int .i64 0), .v (.int .i64 0), .v (.string ⟨#[]⟩), .nil]⟩
theorem tiok24 : TIOk Try.prog 24 ti24 := tiok_mk (z := .agg #[.int .i64 0, .int .i64 0, .string ⟨#[]⟩, .slice none 0 0]) (by kernel_rfl) rfl ⟨.v _ rfl, .v _ rfl, .v _ rfl, .nil, trivial⟩ rfl Try.underlying24 ⟨_, rfl, rfl, all_cons ⟨by decide, by kernel_rfl⟩ (all_cons ⟨by decide, by kernel_rfl⟩ (all_cons ⟨by decide, by kernel_rfl⟩ (all_cons ⟨by decide, by kernel_rfl⟩ (all_nil))))⟩
def ti25 : TI := ⟨.struct [(3, 0, 1), (2, 1, 1), (9, 2, 1), (23, 3, 1)], 4, 56, [.v (.int .i64 0), .v (.int .i64 0), .v (.string ⟨#[]⟩), .nil]⟩
theorem tiok25 : TIOk Try.prog 25 ti25 := tiok_mk (z := .agg #[.int .i64 0, .int .i64 0, .string ⟨#[]⟩, .slice none 0 0]) (by kernel_rfl) rfl ⟨.v _ rfl, .v _ rfl, .v _ rfl, .nil, trivial⟩ rfl Try.underlying25 ⟨_, rfl, rfl, all_cons ⟨by decide, by kernel_rfl⟩ (all_cons ⟨by decide, by kernel_rfl⟩ (all_cons ⟨by decide, by kernel_rfl⟩ (all_cons ⟨by decide, by kernel_rfl⟩ (all_nil))))⟩
def ti26 : TI := ⟨.int .i64, 1, 8, [.v (.int .i64 0)]⟩
theorem tiok26 : TIOk Try.prog 26 ti26 := tiok_mk (z := .int .i64 0) (by kernel_rfl) rfl ⟨.v _ rfl, trivial⟩ rfl Try.underlying26 rfl
def ti28 : TI := ⟨.other, 1, 8, [.v .nilFunc]⟩
theorem tiok28 : TIOk Try.prog 28 ti28 := tiok_mk (z := .nilFunc) (by kernel_rfl) rfl ⟨.v _ rfl, trivial⟩ rfl Try.underlying28 trivial
def ti30 : TI := ⟨.other, 1, 8, [.v .nilFunc]⟩
theorem tiok30 : TIOk Try.prog 30 ti30 := tiok_mk (z := .nilFunc) (by kernel_rfl) rfl ⟨.v _ rfl, trivial⟩ rfl Try.underlying30 trivial
def ti31 : TI := ⟨.other, 1, 8, [.v .nilFunc]⟩
theorem tiok31 : TIOk Try.prog 31 ti31 := tiok_mk (z := .nilFunc) (by kernel_rfl) rfl ⟨.v _ rfl, trivial⟩ rfl Try.underlying31 trivial
def ti32 : TI := ⟨.other, 1, 8, [.v .nilFunc]⟩
theorem tiok32 : TIOk Try.prog 32 ti32 := tiok_mk (z := .nilFunc) (by kernel_rfl) rfl ⟨.v _ rfl, trivial⟩ rfl Try.underlying32 trivial
def ti33 : TI := ⟨.other, 1, 8, [.v .nilFunc]⟩
theorem tiok33 : TIOk Try.prog 33 ti33 := tiok_mk (z := .nilFunc) (by kernel_rfl) rfl ⟨.v _ rfl, trivial⟩ rfl Try.underlying33 trivial
def ti34 : TI := ⟨.other, 1, 8, [.v .nilFunc]⟩
theorem tiok34 : TIOk Try.prog 34 ti34 := tiok_mk (z := .nilFunc) (by kernel_rfl) rfl ⟨.v _ rfl, trivial⟩ rfl Try.underlying34 trivial
def ti35 : TI := ⟨.other, 1, 8, [.v .nilFunc]⟩
theorem tiok35 : TIOk Try.prog 35 ti35 := tiok_mk (z := .nilFunc) (by kernel_rfl) rfl ⟨.v _ rfl, trivial⟩ rfl Try.underlying35 trivial
def ti36 : TI := ⟨.other, 1, 8, [.v .nilFunc]⟩
theorem tiok36 : TIOk Try.prog 36 ti36 := tiok_mk (z := .nilFunc) (by kernel_rfl) rfl ⟨.v _ rfl, trivial⟩ rfl Try.underlying36 trivial
def ti37 : TI := ⟨.other, 1, 8, [.v .nilFunc]⟩
theorem tiok37 : TIOk Try.prog 37 ti37 := tiok_mk (z := .nilFunc) (by kernel_rfl) rfl ⟨.v _ rfl, trivial⟩ rfl Try.underlying37 trivial
def ti38 : TI := ⟨.other, 1, 8, [.v .nilFunc]⟩
theorem tiok38 : TIOk Try.prog 38 ti38 := tiok_mk (z := .nilFunc) (by kernel_rfl) rfl ⟨.v _ rfl, trivial⟩ rfl Try.underlying38 trivial
def ti39 : TI := ⟨.struct [(3, 0, 1), (26, 1, 1)], 2, 16, [.v (.int .i64 0), .v (.int .i64 0)]⟩
theorem tiok39 : TIOk Try.prog 39 ti39 := tiok_mk (z := .agg #[.int .i64 0, .int .i64 0]) (by kernel_rfl) rfl ⟨.v _ rfl, .v _ rfl, trivial⟩ rfl Try.underlying39 ⟨_, rfl, rfl, all_cons ⟨by decide, by kernel_rfl⟩ (all_cons ⟨by decide, by kernel_rfl⟩ (all_nil))⟩
def ti40 : TI := ⟨.struct [(3, 0, 1), (26, 1, 1)], 2, 16, [.v (.int .i64 0), .v (.int .i64 0)]⟩
theorem tiok40 : TIOk Try.prog 40 ti40 := tiok_mk (z := .agg #[.int .i64 0, .int .i64 0]) (by kernel_rfl) rfl ⟨.v _ rfl, .v _ rfl, trivial⟩ rfl Try.underlying40 ⟨_, rfl, rfl, all_cons ⟨by decide, by kernel_rfl⟩ (all_cons ⟨by decide, by kernel_rfl⟩ (all_nil))⟩
def ti42 : TI := ⟨.ptr 44, 1, 8, [.v (.pointer none)]⟩
theorem tiok42 : TIOk Try.prog 42 ti42 := tiok_mk (z := .pointer none) (by kernel_rfl) rfl ⟨.v _ rfl, trivial⟩ rfl Try.underlying42 rfl
def ti43 : TI := ⟨.struct [(9, 0, 1), (3, 1, 1), (3, 2, 1)], 3, 32, [.v (.string ⟨#[]⟩), .v (.int .i64 0), .v (.int .i64 0)]⟩
theorem tiok43 : TIOk Try.prog 43 ti43 := tiok_mk (z := .agg #[.string ⟨#[]⟩, .int .i64 0, .int .i64 0]) (by kernel_rfl) rfl ⟨.v _ rfl, .v _ rfl, .v _ rfl, trivial⟩ rfl Try.underlying43 ⟨_, rfl, rfl, all_cons ⟨by decide, by kernel_rfl⟩ (all_cons ⟨by decide, by kernel_rfl⟩ (all_cons ⟨by decide, by kernel_rfl⟩ (all_nil)))⟩
def ti44 : TI := ⟨.struct [(9, 0, 1), (3, 1, 1), (3, 2, 1)], 3, 32, [.v (.string ⟨#[]⟩), .v (.int .i64 0), .v (.int .i64 0)]⟩
theorem tiok44 : TIOk Try.prog 44 ti44 := tiok_mk (z := .agg #[.string ⟨#[]⟩, .int .i64 0, .int .i64 0]) (by kernel_rfl) rfl ⟨.v _ rfl, .v _ rfl, .v _ rfl, trivial⟩ rfl Try.underlying44 ⟨_, rfl, rfl, all_cons ⟨by decide, by kernel_rfl⟩ (all_cons ⟨by decide, by kernel_rfl⟩ (all_cons ⟨by decide, by kernel_rfl⟩ (all_nil)))⟩
def ti45 : TI := ⟨.other, 1, 8, [.v .nilFunc]⟩
theorem tiok45 : TIOk Try.prog 45 ti45 := tiok_mk (z := .nilFunc) (by kernel_rfl) rfl ⟨.v _ rfl, trivial⟩ rfl Try.underlying45 trivial
def ti46 : TI := ⟨.other, 1, 8, [.v .nilFunc]⟩
theorem tiok46 : TIOk Try.prog 46 ti46 := tiok_mk (z := .nilFunc) (by kernel_rfl) rfl ⟨.v _ rfl, trivial⟩ rfl Try.underlying46 trivial
def ti47 : TI := ⟨.other, 1, 8, [.v .nilFunc]⟩
theorem tiok47 : TIOk Try.prog 47 ti47 := tiok_mk (z := .nilFunc) (by kernel_rfl) rfl ⟨.v _ rfl, trivial⟩ rfl Try.underlying47 trivial
def ti48 : TI := ⟨.other, 1, 8, [.v .nilFunc]⟩
theorem tiok48 : TIOk Try.prog 48 ti48 := tiok_mk (z := .nilFunc) (by kernel_rfl) rfl ⟨.v _ rfl, trivial⟩ rfl Try.underlying48 trivial
def ti49 : TI := ⟨.other, 1, 8, [.v .nilFunc]⟩
theorem tiok49 : TIOk Try.prog 49 ti49 := tiok_mk (z := .nilFunc) (by kernel_rfl) rfl ⟨.v _ rfl, trivial⟩ rfl Try.underlying49 trivial
def ti50 : TI := ⟨.other, 1, 8, [.v .nilFunc]⟩
theorem tiok50 : TIOk Try.prog 50 ti50 := tiok_mk (z := .nilFunc) (by kernel_rfl) rfl ⟨.v _ rfl, trivial⟩ rfl Try.underlying50 trivial
def ti51 : TI := ⟨.other, 1, 8, [.v .nilFunc]⟩
theorem tiok51 : TIOk Try.prog 51 ti51 := tiok_mk (z := .nilFunc) (by kernel_rfl) rfl ⟨.v _ rfl, trivial⟩ rfl Try.underlying51 trivial
def ti52 : TI := ⟨.other, 1, 8, [.v .nilFunc]⟩
theorem tiok52 : TIOk Try.prog 52 ti52 := tiok_mk (z := .nilFunc) (by kernel_rfl) rfl ⟨.v _ rfl, trivial⟩ rfl Try.underlying52 trivial
def ti53 : TI := ⟨.slice 9, 1, 24, [.nil]⟩
theorem tiok53 : TIOk Try.prog 53 ti53 := tiok_mk (z := .slice none 0 0) (by kernel_rfl) rfl ⟨.nil, trivial⟩ rfl Try.underlying53 rfl
def ti54 : TI := ⟨.other, 1, 8, [.v .nilFunc]⟩
theorem tiok54 : TIOk Try.prog 54 ti54 := tiok_mk (z := .nilFunc) (by kernel_rfl) rfl ⟨.v _ rfl, trivial⟩ rfl Try.underlying54 trivial
def ti55 : TI := ⟨.other, 1, 8, [.v .nilFunc]⟩
theorem tiok55 : TIOk Try.prog 55 ti55 := tiok_mk (z := .nilFunc) (by kernel_rfl) rfl ⟨.v _ rfl, trivial⟩ rfl Try.underlying55 trivial
def ti56 : TI := ⟨.other, 1, 8, [.v .nilFunc]⟩
theorem tiok56 : TIOk Try.prog 56 ti56 := tiok_mk (z := .nilFunc) (by kernel_rfl) rfl ⟨.v _ rfl, trivial⟩ rfl Try.underlying56 trivial
def ti58 : TI := ⟨.other, 1, 8, [.v .nilFunc]⟩
theorem tiok58 : TIOk Try.prog 58 ti58 := tiok_mk (z := .nilFunc) (by kernel_rfl) rfl ⟨.v _ rfl, trivial⟩ rfl Try.underlying58 trivial
def ti59 : TI := ⟨.other, 1, 8, [.v .nilFunc]⟩
theorem tiok59 : TIOk Try.prog 59 ti59 := tiok_mk (z := .nilFunc) (by kernel_rfl) rfl ⟨.v _ rfl, trivial⟩ rfl Try.underlying59 trivial
def ti60 : TI := ⟨.int .u64, 1, 8, [.v (.int .u64 0)]⟩
theorem tiok60 : TIOk Try.prog 60 ti60 := tiok_mk (z := .int .u64 0) (by kernel_rfl) rfl ⟨.v _ rfl, trivial⟩ rfl Try.underlying60 rfl
def ti61 : TI := ⟨.slice 5, 1, 24, [.nil]⟩
theorem tiok61 : TIOk Try.prog 61 ti61 := tiok_mk (z := .slice none 0 0) (by kernel_rfl) rfl ⟨.nil, trivial⟩ rfl Try.underlying61 rfl
def ti62 : TI := ⟨.other, 1, 8, [.v .nilFunc]⟩
theorem tiok62 : TIOk Try.prog 62 ti62 := tiok_mk (z := .nilFunc) (by kernel_rfl) rfl ⟨.v _ rfl, trivial⟩ rfl Try.underlying62 trivial
def ti63 : TI := ⟨.other, 1, 8, [.v .nilFunc]⟩
theorem tiok63 : TIOk Try.prog 63 ti63 := tiok_mk (z := .nilFunc) (by kernel_rfl) rfl ⟨.v _ rfl, trivial⟩ rfl Try.underlying63 trivial
def ti64 : TI := ⟨.other, 1, 8, [.v .nilFunc]⟩
theorem tiok64 : TIOk Try.prog 64 ti64 := tiok_mk (z := .nilFunc) (by kernel_rfl) rfl ⟨.v _ rfl, trivial⟩ rfl Try.underlying64 trivial
def ti65 : TI := ⟨.other, 1, 8, [.v .nilFunc]⟩
theorem tiok65 : TIOk Try.prog 65 ti65 := tiok_mk (z := .nilFunc) (by kernel_rfl) rfl ⟨.v _ rfl, trivial⟩ rfl Try.underlying65 trivial
def ti66 : TI := ⟨.ptr 68, 1, 8, [.v (.pointer none)]⟩
theorem tiok66 : TIOk Try.prog 66 ti66 := tiok_mk (z := .pointer none) (by kernel_rfl) rfl ⟨.v _ rfl, trivial⟩ rfl Try.underlying66 rfl
def ti67 : TI := ⟨.struct [(66, 0, 1), (61, 1, 1)], 2, 32, [.v (.pointer none), .nil]⟩
theorem tiok67 : TIOk Try.prog 67 ti67 := tiok_mk (z := .agg #[.pointer none, .slice none 0 0]) (by kernel_rfl) rfl ⟨.v _ rfl, .nil, trivial⟩ rfl Try.underlying67 ⟨_, rfl, rfl, all_cons ⟨by decide, by kernel_rfl⟩ (all_cons ⟨by decide, by kernel_rfl⟩ (all_nil))⟩
def ti68 : TI := ⟨.struct [(66, 0, 1), (61, 1, 1)], 2, 32, [.v (.pointer none), .nil]⟩
theorem tiok68 : TIOk Try.prog 68 ti68 := tiok_mk (z := .agg #[.pointer none, .slice none 0 0]) (by kernel_rfl) rfl ⟨.v _ rfl, .nil, trivial⟩ rfl Try.underlying68 ⟨_, rfl, rfl, all_cons ⟨by decide, by kernel_rfl⟩ (all_cons ⟨by decide, by kernel_rfl⟩ (all_nil))⟩
def ti69 : TI := ⟨.iface, 1, 16, [.v .nilIface]⟩
theorem tiok69 : TIOk Try.prog 69 ti69 := tiok_mk (z := .nilIface) (by kernel_rfl) rfl ⟨.v _ rfl, trivial⟩ rfl Try.underlying69 ⟨_, rfl⟩
def ti70 : TI := ⟨.iface, 1, 16, [.v .nilIface]⟩
theorem tiok70 : TIOk Try.prog 70 ti70 := tiok_mk (z := .nilIface) (by kernel_rfl) rfl ⟨.v _ rfl, trivial⟩ rfl Try.underlying70 ⟨_, rfl⟩
def ti71 : TI := ⟨.other, 1, 8, [.v .nilFunc]⟩
theorem tiok71 : TIOk Try.prog 71 ti71 := tiok_mk (z := .nilFunc) (by kernel_rfl) rfl ⟨.v _ rfl, trivial⟩ rfl Try.underlying71 trivial
def ti72 : TI := ⟨.other, 1, 8, [.v .nilFunc]⟩
theorem tiok72 : TIOk Try.prog 72 ti72 := tiok_mk (z := .nilFunc) (by kernel_rfl) rfl ⟨.v _ rfl, trivial⟩ rfl Try.underlying72 trivial
def ti73 : TI := ⟨.other, 1, 8, [.v .nilFunc]⟩
theorem tiok73 : TIOk Try.prog 73 ti73 := tiok_mk (z := .nilFunc) (by kernel_rfl) rfl ⟨.v _ rfl, trivial⟩ rfl Try.underlying73 trivial
def ti75 : TI := ⟨.other, 1, 8, [.v .nilFunc]⟩
theorem tiok75 : TIOk Try.prog 75 ti75 := tiok_mk (z := .nilFunc) (by kernel_rfl) rfl ⟨.v _ rfl, trivial⟩ rfl Try.underlying75 trivial
def ti76 : TI := ⟨.other, 1, 8, [.v .nilFunc]⟩
theorem tiok76 : TIOk Try.prog 76 ti76 := tiok_mk (z := .nilFunc) (by kernel_rfl) rfl ⟨.v _ rfl, trivial⟩ rfl Try.underlying76 trivial
def ti77 : TI := ⟨.other, 1, 8, [.v .nilFunc]⟩
theorem tiok77 : TIOk Try.prog 77 ti77 := tiok_mk (z := .nilFunc) (by kernel_rfl) rfl ⟨.v _ rfl, trivial⟩ rfl Try.underlying77 trivial
def ti78 : TI := ⟨.other, 1, 8, [.v .nilFunc]⟩
theorem tiok78 : TIOk Try.prog 78 ti78 := tiok_mk (z := .nilFunc) (by kernel_rfl) rfl ⟨.v _ rfl, trivial⟩ rfl Try.underlying78 trivial
def ti79 : TI := ⟨.other, 1, 8, [.v .nilFunc]⟩
theorem tiok79 : TIOk Try.prog 79 ti79 := tiok_mk (z := .nilFunc) (by kernel_rfl) rfl ⟨.v _ rfl, trivial⟩ rfl Try.underlying79 trivial
def ti80 : TI := ⟨.other, 1, 8, [.v .nilFunc]⟩
theorem tiok80 : TIOk Try.prog 80 ti80 := tiok_mk (z := .nilFunc) (by kernel_rfl) rfl ⟨.v _ rfl, trivial⟩ rfl Try.underlying80 trivial
def ti81 : TI := ⟨.other, 1, 8, [.v .nilFunc]⟩
theorem tiok81 : TIOk Try.prog 81 ti81 := tiok_mk (z := .nilFunc) (by kernel_rfl) rfl ⟨.v _ rfl, trivial⟩ rfl Try.underlying81 trivial
def ti82 : TI := ⟨.other, 1, 8, [.v .nilFunc]⟩
theorem tiok82 : TIOk Try.prog 82 ti82 := tiok_mk (z := .nilFunc) (by kernel_rfl) rfl ⟨.v _ rfl, trivial⟩ rfl Try.underlying82 trivial
def ti83 : TI := ⟨.other, 1, 8, [.v .nilFunc]⟩
theorem tiok83 : TIOk Try.prog 83 ti83 := tiok_mk (z := .nilFunc) (by kernel_rfl) rfl ⟨.v _ rfl, trivial⟩ rfl Try.underlying83 trivial
def ti85 : TI := ⟨.other, 1, 8, [.v .nilFunc]⟩
theorem tiok85 : TIOk Try.prog 85 ti85 := tiok_mk (z := .nilFunc) (by kernel_rfl) rfl ⟨.v _ rfl, trivial⟩ rfl Try.underlying85 trivial
def ti87 : TI := ⟨.other, 1, 8, [.v .nilFunc]⟩
theorem tiok87 : TIOk Try.prog 87 ti87 := tiok_mk (z := .nilFunc) (by kernel_rfl) rfl ⟨.v _ rfl, trivial⟩ rfl Try.underlying87 trivial
def ti88 : TI := ⟨.ptr 5, 1, 8, [.v (.pointer none)]⟩
theorem tiok88 : TIOk Try.prog 88 ti88 := tiok_mk (z := .pointer none) (by kernel_rfl) rfl ⟨.v _ rfl, trivial⟩ rfl Try.underlying88 rfl
def ti89 : TI := ⟨.slice 3, 1, 24, [.nil]⟩
theorem tiok89 : TIOk Try.prog 89 ti89 := tiok_mk (z := .slice none 0 0) (by kernel_rfl) rfl ⟨.nil, trivial⟩ rfl Try.underlying89 rfl
def ti90 : TI := ⟨.other, 1, 8, [.v .nilFunc]⟩
theorem tiok90 : TIOk Try.prog 90 ti90 := tiok_mk (z := .nilFunc) (by kernel_rfl) rfl ⟨.v _ rfl, trivial⟩ rfl Try.underlying90 trivial
def ti91 : TI := ⟨.other, 1, 8, [.v .nilFunc]⟩
theorem tiok91 : TIOk Try.prog 91 ti91 := tiok_mk (z := .nilFunc) (by kernel_rfl) rfl ⟨.v _ rfl, trivial⟩ rfl Try.underlying91 trivial
def ti93 : TI := ⟨.other, 1, 8, [.v .nilFunc]⟩
theorem tiok93 : TIOk Try.prog 93 ti93 := tiok_mk (z := .nilFunc) (by kernel_rfl) rfl ⟨.v _ rfl, trivial⟩ rfl Try.underlying93 trivial
def ti95 : TI := ⟨.other, 1, 8, [.v .nilFunc]⟩
theorem tiok95 : TIOk Try.prog 95 ti95 := tiok_mk (z := .nilFunc) (by kernel_rfl) rfl ⟨.v _ rfl, trivial⟩ rfl Try.underlying95 trivial
def ti96 : TI := ⟨.other, 1, 8, [.v .nilFunc]⟩
theorem tiok96 : TIOk Try.prog 96 ti96 := tiok_mk (z := .nilFunc) (by kernel_rfl) rfl ⟨.v _ rfl, trivial⟩ rfl Try.underlying96 trivial
def ti97 : TI := ⟨.other, 1, 8, [.v (.pointer none)]⟩
theorem tiok97 : TIOk Try.prog 97 ti97 := tiok_mk (z := .pointer none) (by kernel_rfl) rfl ⟨.v _ rfl, trivial⟩ rfl Try.underlying97 trivial
def ti98 : TI := ⟨.other, 1, 8, [.v .nilFunc]⟩
theorem tiok98 : TIOk Try.prog 98 ti98 := tiok_mk (z := .nilFunc) (by kernel_rfl) rfl ⟨.v _ rfl, trivial⟩ rfl Try.underlying98 trivial
def ti99 : TI := ⟨.other, 1, 8, [.v .nilFunc]⟩
theorem tiok99 : TIOk Try.prog 99 ti99 := tiok_mk (z := .nilFunc) (by kernel_rfl) rfl ⟨.v _ rfl, trivial⟩ rfl Try.underlying99 trivial
def ti101 : TI := ⟨.other, 1, 8, [.v .nilFunc]⟩
theorem tiok101 : TIOk Try.prog 101 ti101 := tiok_mk (z := .nilFunc) (by kernel_rfl) rfl ⟨.v _ rfl, trivial⟩ rfl Try.underlying101 trivial
def ti102 : TI := ⟨.other, 1, 8, [.v .nilFunc]⟩
theorem tiok102 : TIOk Try.prog 102 ti102 := tiok_mk (z := .nilFunc) (by kernel_rfl) rfl ⟨.v _ rfl, trivial⟩ rfl Try.underlying102 trivial
def ti103 : TI := ⟨.other, 1, 8, [.v .nilFunc]⟩
theorem tiok103 : TIOk Try.prog 103 ti103 := tiok_mk (z := .nilFunc) (by kernel_rfl) rfl ⟨.v _ rfl, trivial⟩ rfl Try.underlying103 trivial
def ti104 : TI := ⟨.other, 1, 8, [.v .nilFunc]⟩
theorem tiok104 : TIOk Try.prog 104 ti104 := tiok_mk (z := .nilFunc) (by kernel_rfl) rfl ⟨.v _ rfl, trivial⟩ rfl Try.underlying104 trivial
def ti105 : TI := ⟨.other, 1, 8, [.v .nilFunc]⟩
theorem tiok105 : TIOk Try.prog 105 ti105 := tiok_mk (z := .nilFunc) (by kernel_rfl) rfl ⟨.v _ rfl, trivial⟩ rfl Try.underlying105 trivial
def ti106 : TI := ⟨.other, 1, 8, [.v .nilFunc]⟩
theorem tiok106 : TIOk Try.prog 106 ti106 := tiok_mk (z := .nilFunc) (by kernel_rfl) rfl ⟨.v _ rfl, trivial⟩ rfl Try.underlying106 trivial
def ti108 : TI := ⟨.other, 1, 8, [.v .nilFunc]⟩
theorem tiok108 : TIOk Try.prog 108 ti108 := tiok_mk (z := .nilFunc) (by kernel_rfl) rfl ⟨.v _ rfl, trivial⟩ rfl Try.underlying108 trivial
def ti109 : TI := ⟨.int .u64, 1, 8, [.v (.int .u64 0)]⟩
theorem tiok109 : TIOk Try.prog 109 ti109 := tiok_mk (z := .int .u64 0) (by kernel_rfl) rfl ⟨.v _ rfl, trivial⟩ rfl Try.underlying109 rfl
def ti110 : TI := ⟨.other, 1, 8, [.v .nilFunc]⟩
theorem tiok110 : TIOk Try.prog 110 ti110 := tiok_mk (z := .nilFunc) (by kernel_rfl) rfl ⟨.v _ rfl, trivial⟩ rfl Try.underlying110 trivial
def ti111 : TI := ⟨.struct [(17, 0, 1), (17, 1, 1), (17, 2, 1), (9, 3, 1)], 4, 40, [.v (.pointer none), .v (.pointer none), .v (.pointer none), .v (.string ⟨#[]⟩)]⟩
theorem tiok111 : TIOk Try.prog 111 ti111 := tiok_mk (z := .agg #[.pointer none, .pointer none, .pointer none, .string ⟨#[]⟩]) (by kernel_rfl) rfl ⟨.v _ rfl, .v _ rfl, .v _ rfl, .v _ rfl, trivial⟩ rfl Try.underlying111 ⟨_, rfl, rfl, all_cons ⟨by decide, by kernel_rfl⟩ (all_cons ⟨by decide, by kernel_rfl⟩ (all_cons ⟨by decide, by kernel_rfl⟩ (all_cons ⟨by decide, by kernel_rfl⟩ (all_nil))))⟩
def ti112 : TI := ⟨.struct [(17, 0, 1), (17, 1, 1), (17, 2, 1), (9, 3, 1)], 4, 40, [.v (.pointer none), .v (.pointer none), .v (.pointer none), .v (.string ⟨#[]⟩)]⟩
theorem tiok112 : TIOk Try.prog 112 ti112 := tiok_mk (z := .agg #[.pointer none, .pointer none, .pointer none, .string ⟨#[]⟩]) (by kernel_rfl) rfl ⟨.v _ rfl, .v _ rfl, .v _ rfl, .v _ rfl, trivial⟩ rfl Try.underlying112 ⟨_, rfl, rfl, all_cons ⟨by decide, by kernel_rfl⟩ (all_cons ⟨by decide, by kernel_rfl⟩ (all_cons ⟨by decide, by kernel_rfl⟩ (all_cons ⟨by decide, by kernel_rfl⟩ (all_nil))))⟩
def ti116 : TI := ⟨.other, 1, 8, [.v .nilFunc]⟩
theorem tiok116 : TIOk Try.prog 116 ti116 := tiok_mk (z := .nilFunc) (by kernel_rfl) rfl ⟨.v _ rfl, trivial⟩ rfl Try.underlying116 trivial
def ti117 : TI := ⟨.int .u32, 1, 4, [.v (.int .u32 0)]⟩
theorem tiok117 : TIOk Try.prog 117 ti117 := tiok_mk (z := .int .u32 0) (by kernel_rfl) rfl ⟨.v _ rfl, trivial⟩ rfl Try.underlying117 rfl
def ti118 : TI := ⟨.int .u8, 1, 1, [.v (.int .u8 0)]⟩
theorem tiok118 : TIOk Try.prog 118 ti118 := tiok_mk (z := .int .u8 0) (by kernel_rfl) rfl ⟨.v _ rfl, trivial⟩ rfl Try.underlying118 rfl
def ti119 : TI := ⟨.int .u8, 1, 1, [.v (.int .u8 0)]⟩
theorem tiok119 : TIOk Try.prog 119 ti119 := tiok_mk (z := .int .u8 0) (by kernel_rfl) rfl ⟨.v _ rfl, trivial⟩ rfl Try.underlying119 rfl
def ti120 : TI := ⟨.other, 1, 8, [.v .nilFunc]⟩
theorem tiok120 : TIOk Try.prog 120 ti120 := tiok_mk (z := .nilFunc) (by kernel_rfl) rfl ⟨.v _ rfl, trivial⟩ rfl Try.underlying120 trivial
def ti121 : TI := ⟨.int .i32, 1, 4, [.v (.int .i32 0)]⟩
theorem tiok121 : TIOk Try.prog 121 ti121 := tiok_mk (z := .int .i32 0) (by kernel_rfl) rfl ⟨.v _ rfl, trivial⟩ rfl Try.underlying121 rfl
def ti122 : TI := ⟨.int .i32, 1, 4, [.v (.int .i32 0)]⟩
theorem tiok122 : TIOk Try.prog 122 ti122 := tiok_mk (z := .int .i32 0) (by kernel_rfl) rfl ⟨.v _ rfl, trivial⟩ rfl Try.underlying122 rfl
def ti123 : TI := ⟨.struct [(12, 0, 1), (12, 1, 1), (117, 2, 1), (118, 3, 1), (5, 4, 1), (5, 5, 1), (119, 6, 1), (120, 7, 1), (88, 8, 1), (121, 9, 1), (122, 10, 1)], 11, 48, [.v (.int .u64 0), .v (.int .u64 0), .v (.int .u32 0), .v (.int .u8 0), .v (.int .u8 0), .v (.int .u8 0), .v (.int .u8 0), .v .nilFunc, .v (.pointer none), .v (.int .i32 0), .v (.int .i32 0)]⟩
theorem tiok123 : TIOk Try.prog 123 ti123 := tiok_mk (z := .agg #[.int .u64 0, .int .u64 0, .int .u32 0, .int .u8 0, .int .u8 0, .int .u8 0, .int .u8 0, .nilFunc, .pointer none, .int .i32 0, .int .i32 0]) (by kernel_rfl) rfl ⟨.v _ rfl, .v _ rfl, .v _ rfl, .v _ rfl, .v _ rfl, .v _ rfl, .v _ rfl, .v _ rfl, .v _ rfl, .v _ rfl, .v _ rfl, trivial⟩ rfl Try.underlying123 ⟨_, rfl, rfl, all_cons ⟨by decide, by kernel_rfl⟩ (all_cons ⟨by decide, by kernel_rfl⟩ (all_cons ⟨by decide, by kernel_rfl⟩ (all_cons ⟨by decide, by kernel_rfl⟩ (all_cons ⟨by decide, by kernel_rfl⟩ (all_cons ⟨by decide, by kernel_rfl⟩ (all_cons ⟨by decide, by kernel_rfl⟩ (all_cons ⟨by decide, by kernel_rfl⟩ (all_cons ⟨by decide, by kernel_rfl⟩ (all_cons ⟨by decide, by kernel_rfl⟩ (all_cons ⟨by decide, by kernel_rfl⟩ (all_nil)))))))))))⟩
def ti124 : TI := ⟨.struct [(12, 0, 1), (12, 1, 1), (117, 2, 1), (118, 3, 1), (5, 4, 1), (5, 5, 1), (119, 6, 1), (120, 7, 1), (88, 8, 1), (121, 9, 1), (122, 10, 1)], 11, 48, [.v (.int .u64 0), .v (.int .u64 0), .v (.int .u32 0), .v (.int .u8 0), .v (.int .u8 0), .v (.int .u8 0), .v (.int .u8 0), .v .nilFunc, .v (.pointer none), .v (.int .i32 0), .v (.int .i32 0)]⟩
theorem tiok124 : TIOk Try.prog 124 ti124 := tiok_mk (z := .agg #[.int .u64 0, .int .u64 0, .int .u32 0, .int .u8 0, .int .u8 0, .int .u8 0, .int .u8 0, .nilFunc, .pointer none, .int .i32 0, .int .i32 0]) (by kernel_rfl) rfl ⟨.v _ rfl, .v _ rfl, .v _ rfl, .v _ rfl, .v _ rfl, .v _ rfl, .v _ rfl, .v _ rfl, .v _ rfl, .v _ rfl, .v _ rfl, trivial⟩ rfl Try.underlying124 ⟨_, rfl, rfl, all_cons ⟨by decide, by kernel_rfl⟩ (all_cons ⟨by decide, by kernel_rfl⟩ (all_cons ⟨by decide, by kernel_rfl⟩ (all_cons ⟨by decide, by kernel_rfl⟩ (all_cons ⟨by decide, by kernel_rfl⟩ (all_cons ⟨by decide, by kernel_rfl⟩ (all_cons ⟨by decide, by kernel_rfl⟩ (all_cons ⟨by decide, by kernel_rfl⟩ (all_cons ⟨by decide, by kernel_rfl⟩ (all_cons ⟨by decide, by kernel_rfl⟩ (all_cons ⟨by decide, by kernel_rfl⟩ (all_nil)))))))))))⟩
def tyTab : List (Nat × TI) := [(1, ti1), (2, ti2), (3, ti3), (4, ti4), (5, ti5), (6, ti6), (7, ti7), (8, ti8), (9, ti9), (10, ti10), (11, ti11), (12, ti12), (13, ti13), (14, ti14), (15, ti15), (16, ti16), (17, ti17), (18, ti18), (19, ti19), (20, ti20), (21, ti21), (22, ti22), (23, ti23), (24, ti24), (25, ti25), (26, ti26), (28, ti28), (30, ti30), (31, ti31), (32, ti32), (33, ti33), (34, ti34), (35, ti35), (36, ti36), (37, ti37), (38, ti38), (39, ti39), (40, ti40), (42, ti42), (43, ti43), (44, ti44), (45, ti45), (46, ti46), (47, ti47), (48, ti48), (49, ti49), (50, ti50), (51, ti51), (52, ti52), (53, ti53), (54, ti54), (55, ti55), (56, ti56), (58, ti58), (59, ti59), (60, ti60), (61, ti61), (62, ti62), (63, ti63), (64, ti64), (65, ti65), (66, ti66), (67, ti67), (68, ti68), (69, ti69), (70, ti70), (71, ti71), (72, ti72), (73, ti73), (75, ti75), (76, ti76), (77, ti77), (78, ti78), (79, ti79), (80, ti80), (81, ti81), (82, ti82), (83, ti83), (85, ti85), (87, ti87), (88, ti88), (89, ti89), (90, ti90), (91, ti91), (93, ti93), (95, ti95), (96, ti96), (97, ti97), (98, ti98), (99, ti99), (101, ti101), (102, ti102), (103, ti103), (104, ti104), (105, ti105), (106, ti106), (108, ti108), (109, ti109), (110, ti110), (111, ti111), (112, ti112), (116, ti116), (117, ti117), (118, ti118), (119, ti119), (120, ti120), (121, ti121), (122, ti122), (123, ti123), (124, ti124)]
def tyGet : List (Nat × TI) → Nat → Option TI
  | [], _ => none
  | (k, v) :: r, t => match Nat.beq k t with
    | true => some v
    | false => tyGet r t
def ty (t : Nat) : Option TI := tyGet tyTab t
theorem tyGet_ok {P : Program} : ∀ {l : List (Nat × TI)}, (∀ x ∈ l, TIOk P x.1 x.2) → ∀ t i, tyGet l t = some i → TIOk P t i
  | [], _, t, i, h => by simp [tyGet] at h
  | (k, v) :: r, hl, t, i, h => by
    simp only [tyGet] at h
    split at h
    · rename_i hb
      have : k = t := Nat.eq_of_beq_eq_true hb
      subst this
      cases h
      exact hl (k, v) List.mem_cons_self
    · exact tyGet_ok (fun x hx => hl x (List.mem_cons_of_mem _ hx)) t i h
theorem tab_cons {P : Program} {k : Nat} {v : TI} {l : List (Nat × TI)} (h : TIOk P k v) (hl : ∀ x ∈ l, TIOk P x.1 x.2) : ∀ x ∈ (k, v) :: l, TIOk P x.1 x.2 := fun x hx => by
  cases hx with
  | head => exact h
  | tail _ hx => exact hl x hx
theorem ty_ok : ∀ t i, ty t = some i → TIOk Try.prog t i := tyGet_ok (tab_cons tiok1 (tab_cons tiok2 (tab_cons tiok3 (tab_cons tiok4 (tab_cons tiok5 (tab_cons tiok6 (tab_cons tiok7 (tab_cons tiok8 (tab_cons tiok9 (tab_cons tiok10 (tab_cons tiok11 (tab_cons tiok12 (tab_cons tiok13 (tab_cons tiok14 (tab_cons tiok15 (tab_cons tiok16 (tab_cons tiok17 (tab_cons tiok18 (tab_cons tiok19 (tab_cons tiok20 (tab_cons tiok21 (tab_cons tiok22 (tab_cons tiok23 (tab_cons tiok24 (tab_cons tiok25 (tab_cons tiok26 (tab_cons tiok28 (tab_cons tiok30 (tab_cons tiok31 (tab_cons tiok32 (tab_cons tiok33 (tab_cons tiok34 (tab_cons tiok35 (tab_cons tiok36 (tab_cons tiok37 (tab_cons tiok38 (tab_cons tiok39 (tab_cons tiok40 (tab_cons tiok42 (tab_cons tiok43 (tab_cons tiok44 (tab_cons tiok45 (tab_cons tiok46 (tab_cons tiok47 (tab_cons tiok48 (tab_cons tiok49 (tab_cons tiok50 (tab_cons tiok51 (tab_cons tiok52 (tab_cons tiok53 (tab_cons tiok54 (tab_cons tiok55 (tab_cons tiok56 (tab_cons tiok58 (tab_cons tiok59 (tab_cons tiok60 (tab_cons tiok61 (tab_cons tiok62 (tab_cons tiok63 (tab_cons tiok64 (tab_cons tiok65 (tab_cons tiok66 (tab_cons tiok67 (tab_cons tiok68 (tab_cons tiok69 (tab_cons tiok70 (tab_cons tiok71 (tab_cons tiok72 (tab_cons tiok73 (tab_cons tiok75 (tab_cons tiok76 (tab_cons tiok77 (tab_cons tiok78 (tab_cons tiok79 (tab_cons tiok80 (tab_cons tiok81 (tab_cons tiok82 (tab_cons tiok83 (tab_cons tiok85 (tab_cons tiok87 (tab_cons tiok88 (tab_cons tiok89 (tab_cons tiok90 (tab_cons tiok91 (tab_cons tiok93 (tab_cons tiok95 (tab_cons tiok96 (tab_cons tiok97 (tab_cons tiok98 (tab_cons tiok99 (tab_cons tiok101 (tab_cons tiok102 (tab_cons tiok103 (tab_cons tiok104 (tab_cons tiok105 (tab_cons tiok106 (tab_cons tiok108 (tab_cons tiok109 (tab_cons tiok110 (tab_cons tiok111 (tab_cons tiok112 (tab_cons tiok116 (tab_cons tiok117 (tab_cons tiok118 (tab_cons tiok119 (tab_cons tiok120 (tab_cons tiok121 (tab_cons tiok122 (tab_cons tiok123 (tab_cons tiok124 (fun _ h => by cases h)))))))))))))))))))))))))))))))))))))))))))))))))))))))))))))))))))))))))))))))))))))))))))))))))))))))))))))))
end Go.Proofs.Ytgdgfomoeohdeaa
