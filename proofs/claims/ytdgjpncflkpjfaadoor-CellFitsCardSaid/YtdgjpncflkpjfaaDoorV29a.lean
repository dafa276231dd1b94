/- The deferred literal of vtext.Scan. -/
import Derived.Test.YtdgjpncflkpjfaaDoorV0
import Derived.Test.YtdgjpncflkpjfaaDoorAw10
set_option linter.unusedVariables false
set_option linter.unusedSimpArgs false
namespace Go.Proofs.YtdgjpncflkpjfaaDoor
open Aw

noncomputable def D5 (nt : Nat) (gd ll gs : List Nat) : Cfg2 := { gst := gs, P := Tryd.prog, ty := ty, nt := nt, pure := fun _ => true, esc := fun _ => false, lload := fun t => ll.any (Nat.beq t), gd := fun t => gd.any (Nat.beq t), nor := true }
def pV (b : Nat) : Value := .pointer (some ⟨b, 0, none⟩)
def wrongV' (a e : Int) : Value := .iface 105 (.agg #[.int .i64 a, .int .i64 e])
def zeroC : List AC := [.v (.int .i64 0), .v (.int .i64 0), .v (.string ⟨#[]⟩), .nil]

theorem scan1_ret (p4 p5 p6 : Nat) (h : Heap) : DefA Tryd.prog 76 ([pV p4, pV p5, pV p6].map fun v => .c (.v v)) .returning h fun u' h' => u' = .returning ∧ h' = h := by
  refine defA_recover (D := D5 22 [] [] []) Tryd.func76 rfl rfl rfl rfl ⟨rfl, rfl, rfl⟩ ⟨rfl, rfl, rfl⟩ (by kernel_rfl) (by kernel_rfl) (by simp [D5]) (by simp [D5]) (by simp [D5]) rfl rfl rfl rfl ?_
  intro g vs hr
  clear hr
  refine Awp.of ty_ok mixed ?_
  exact Br.mk (fun h => by cases h) (fun _ => ⟨rfl, rfl⟩)

set_option maxRecDepth 4000 in
theorem scan1_pan (p4 p5 p6 : Nat) (h : Heap) (a e : Int) {c4 c5 c6 : List AC} (h4 : h p4 = some (.cells 24 c4)) (l4 : c4.length = 4) (h5 : h p5 = some (.cells 3 c5)) (l5 : c5.length = 1) (h6 : h p6 = some (.cells 30 c6)) (l6 : c6.length = 1) (n45 : p5 ≠ p4) (n46 : p6 ≠ p4) (n56 : p6 ≠ p5) :
    DefA Tryd.prog 76 ([pV p4, pV p5, pV p6].map fun v => .c (.v v)) (.panicking [{ v := wrongV' a e, recovered := false }]) h fun u' h' => u' = .panicking [{ v := wrongV' a e, recovered := true }] ∧
      h' = upd (upd (upd h p4 (.cells 24 zeroC)) p5 (.cells 3 [.v (.int .i64 a)])) p6 (.cells 30 [.v (.int .i64 e)]) := by
  refine defA_recover (D := D5 22 [] [19, 21] [0, 1, 2]) Tryd.func76 rfl rfl rfl rfl ⟨rfl, rfl, rfl⟩ ⟨rfl, rfl, rfl⟩ (by kernel_rfl) (by kernel_rfl) (by simp [D5]) (by simp [D5]) (by simp [D5]) rfl rfl rfl rfl ?_
  intro g vs hr
  clear hr
  match c4, l4, c5, l5, c6, l6 with
  | [x1, x2, x3, x4], _, [y], _, [z], _ =>
  refine Awp.of ty_ok mixed ?_
  refine Br.mk (fun _ => ?_) (fun h => by cases h)
  refine Pre.mk (by kernel_rfl) ?_
  refine ⟨_, _, h4, by show 4 ≤ 4; decide, ?_⟩
  refine ⟨_, _, (upd_ne _ _ n45).trans h5, by show 1 ≤ 1; decide, ?_⟩
  refine ⟨_, _, (upd_ne _ _ n56).trans ((upd_ne _ _ n46).trans h6), by show 1 ≤ 1; decide, ?_⟩
  exact ⟨rfl, rfl⟩
end Go.Proofs.YtdgjpncflkpjfaaDoor
