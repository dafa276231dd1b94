/- VtextScans and VtextParses answer true. -/
import Derived.Test.YtgdgfomoeohdeaaV29
import Derived.Test.YtgdgfomoeohdeaaV14
import Derived.Test.YtgdgfomoeohdeaaV19
set_option linter.unusedVariables false
set_option linter.unusedSimpArgs false
namespace Go.Proofs.Ytgdgfomoeohdeaa
open Aw

theorem p3 : scanO u8B ⟨#[97, 34, 98, 34, 99]⟩ 1 = (⟨4, 0, ⟨#[98]⟩, []⟩, 4, 0) := by kernel_rfl
theorem p2 : parseO u8B ⟨#[91, 49, 32, 32, 50, 93]⟩ = (zeroV, 3, 2) := by kernel_rfl
theorem p1 : parseO u8B ⟨#[91, 49, 32, 39, 97, 93]⟩ = (⟨5, 0, ⟨#[]⟩, [⟨2, 1, ⟨#[]⟩, []⟩, ⟨3, 0, ⟨#[97]⟩, []⟩]⟩, 6, 0) := by kernel_rfl
theorem q1 : PureA Try.prog 12 [.c (.v (.string ⟨#[91, 49, 32, 39, 97, 93]⟩))] (.tup [.agg [.v (.int .i64 5), .v (.int .i64 0), .v (.string ⟨#[]⟩), .sl 4 [[.v (.int .i64 2), .v (.int .i64 1), .v (.string ⟨#[]⟩), .sl 4 []], [.v (.int .i64 3), .v (.int .i64 0), .v (.string ⟨#[97]⟩), .sl 4 []]]], .c (.v (.int .i64 6)), .c (.v (.int .i64 0))]) := by
  have h := parsex_pure ⟨#[91, 49, 32, 39, 97, 93]⟩ (by decide)
  rw [p1] at h; exact h
theorem q2 : PureA Try.prog 12 [.c (.v (.string ⟨#[91, 49, 32, 32, 50, 93]⟩))] (.tup [.agg [.v (.int .i64 0), .v (.int .i64 0), .v (.string ⟨#[]⟩), .sl 4 []], .c (.v (.int .i64 3)), .c (.v (.int .i64 2))]) := by
  have h := parsex_pure ⟨#[91, 49, 32, 32, 50, 93]⟩ (by decide)
  rw [p2] at h; exact h
theorem q3 : PureA Try.prog 9 [.c (.v (.string ⟨#[97, 34, 98, 34, 99]⟩)), .c (.v (.int .i64 1))] (.tup [.agg [.v (.int .i64 4), .v (.int .i64 0), .v (.string ⟨#[98]⟩), .sl 4 []], .c (.v (.int .i64 4)), .c (.v (.int .i64 0))]) := by
  have h := scanx_pure ⟨#[97, 34, 98, 34, 99]⟩ (by decide) 1
  rw [p3] at h; exact h

set_option maxRecDepth 4000 in
theorem alive_pure : PureA Try.prog 8 [] (.c (.v (.bool true))) := by
  intro h
  refine callsA_of (D := D1 66 [] [] [27, 31, 37, 45, 49, 53, 57, 61]) ty_ok mixed Try.func8 rfl (by kernel_rfl) (by kernel_rfl) (by simp [D1]) ?_
  intro g vs hr
  clear hr
  refine ⟨_, q1, _, q2, _, q3, ?_⟩
  repeat' first
    | refine Br.mk (fun _ => ?_) (fun h => by simp at h)
    | (refine ⟨_, ⟨by decide, rfl⟩, ?_⟩)
  exact ⟨ret_b (by simp), rfl⟩

theorem scanO_ok {s : ByteArray} (hs : s.size < 1000000000) (p : Int) : (scanO u8B s p).1.ok := by
  have hz : zeroV.ok := ⟨by decide, trivial⟩
  unfold scanO
  split
  · exact hz
  · split
    · exact hz
    · rename_i v n hg
      split
      · exact getS_ok hs 4 p.toNat (by omega) v n hg
      · exact hz
theorem parseO_ok {s : ByteArray} (hs : s.size < 1000000000) : (parseO u8B s).1.ok := by
  unfold parseO
  split
  · exact ⟨by decide, trivial⟩
  · exact scanO_ok hs 0

set_option maxRecDepth 4000 in
theorem scansLaw (s : ByteArray) (hs : s.size ≤ 140737488351232) (p : Int) : PureA Try.prog 3 [.c (.v (.string s)), .c (.v (.int .i64 p))] (.c (.v (.bool true))) := by
  intro h
  refine callsA_of (D := D1 43 [] [] [33, 38]) ty_ok mixed Try.func3 rfl (by kernel_rfl) (by kernel_rfl) (by simp [D1]) ?_
  intro g vs hr
  clear hr
  refine ⟨_, alive_pure, Br.mk (fun h => by cases h) (fun _ => ?_)⟩
  refine Br.mk (fun h1 => ?_) (fun h1 => ?_)
  · exact ⟨rfl, rfl⟩
  have hsz : s.size ≤ 500 := by have := of_decide_eq_false h1; omega
  have hx := scanx_pure s (by omega) p
  have hy := rvscan_pure rvalid_ok s (by omega) p
  have hok := scanO_ok (s := s) (by omega) p
  generalize scanO u8B s p = O at hx hy hok
  obtain ⟨v, x, e⟩ := O
  have hz := same_refl v hok
  rw [Val.ac_eq] at hz
  simp only [outAV] at hx hy
  refine ⟨_, hx, _, hy, ?_⟩
  refine ⟨_, hz, ?_⟩
  refine Br.mk (fun _ => ?_) (fun h => by cases h)
  refine Br.mk (fun _ => ?_) (fun h => by simp at h)
  exact ⟨ret_b (by simp), rfl⟩

set_option maxRecDepth 4000 in
theorem parsesLaw (s : ByteArray) (hs : s.size ≤ 140737488351232) : PureA Try.prog 4 [.c (.v (.string s))] (.c (.v (.bool true))) := by
  intro h
  refine callsA_of (D := D1 39 [] [] [29, 34]) ty_ok mixed Try.func4 rfl (by kernel_rfl) (by kernel_rfl) (by simp [D1]) ?_
  intro g vs hr
  clear hr
  refine ⟨_, alive_pure, Br.mk (fun h => by cases h) (fun _ => ?_)⟩
  refine Br.mk (fun h1 => ?_) (fun h1 => ?_)
  · exact ⟨rfl, rfl⟩
  have hsz : s.size ≤ 500 := by have := of_decide_eq_false h1; omega
  have hx := parsex_pure s (by omega)
  have hy := rvparse_pure rvalid_ok s (by omega)
  have hok := parseO_ok (s := s) (by omega)
  generalize parseO u8B s = O at hx hy hok
  obtain ⟨v, x, e⟩ := O
  have hz := same_refl v hok
  rw [Val.ac_eq] at hz
  simp only [outAV] at hx hy
  refine ⟨_, hx, _, hy, ?_⟩
  refine ⟨_, hz, ?_⟩
  refine Br.mk (fun _ => ?_) (fun h => by cases h)
  refine Br.mk (fun _ => ?_) (fun h => by simp at h)
  exact ⟨ret_b (by simp), rfl⟩

/-- What is told of abstract values alone, told of memory. -/
theorem pure_walk {P : Program} {f : Nat} {args : List AV} {vs : List Value} (hp : PureA P f args (.c (.v (.bool true)))) (w : World) (hr : ∀ g : G, RelVs g [] args vs) : Calls P f vs.toArray w fun e w' => e = .returned (.bool true) ∧ RowKit.Below w.heap.size w w' := by
  let g : G := { I := fun _ _ => none, role := fun _ => .imm, bl := [], tk := [], fr := ⟨0, none, 0, []⟩ }
  have hs : Sim g w ⟨[], [], fun _ => none⟩ := by
    constructor
    · intro b k x h; cases h
    · intro b k x h; cases h
    · intro b h; rfl
    · intro n b h; simp [g] at h
    · rfl
    · intro n b T cs h; simp [g] at h
    · rfl
    · intro n v e sz len h; simp [g] at h
    · intro b ho h; cases h
  refine ((hp fun _ => none).run g w vs ⟨rfl, rfl, fun b => .inl rfl⟩ hs (hr g)).mono ?_
  rintro e w' ⟨g', r, h', h1, h2, h3, h4, rfl, _⟩
  cases e with
  | returned v =>
    have h4 : Rel g'.I _ _ := h4
    refine ⟨by cases h4; rfl, ⟨h2.os, h2.tape, h2.output, h2.size, fun k hk => (h2.imm k hk rfl).1⟩⟩
  | _ => exact h4.elim
end Go.Proofs.Ytgdgfomoeohdeaa
