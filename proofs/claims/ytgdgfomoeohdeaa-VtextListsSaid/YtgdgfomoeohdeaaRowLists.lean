/- The statement VtextLists: whatever the input, the law's function answers true and leaves its input as it was; no condition. -/
import Derived.Test.YtgdgfomoeohdeaaRows
import Derived.Test.YtgdgfomoeohdeaaV46
import Derived.WalkKit
import Derived.ProofKit
import Derived.OpenShut
import Derived.ShutString
import Derived.ChangeOld
import Derived.Below
import Derived.SizedLaws
import Derived.Carry
namespace Go.Proofs.Ytgdgfomoeohdeaa.vtextLists
open Go.ChangeShapes Go.WideShapes Go.ChangeAt Go.RowKit
open Go.ChangeMaps (open_string shut_string)
set_option linter.unusedVariables false
theorem own : ownKnob Try.prog.godebug = none := by kernel_rfl
theorem laid : laidOutB Try.prog = true := by kernel_rfl
theorem walk (W : World) (v0 : Value) (u0 : Val) (z0 : Aw.All2 (Aw.Rel (imW W)) u0.ac v0.cells.toList) (n0 : u0.rng) (v1 : Value) (u1 : Val) (z1 : Aw.All2 (Aw.Rel (imW W)) u1.ac v1.cells.toList) (n1 : u1.rng) : Calls Try.prog 7 #[v0, v1] W fun e W' => e = .returned (.bool true) ∧ Below W.heap.size W W' :=
  pure_walkV (vs := [v0, v1]) (listsLaw u0 n0 u1 n1) W fun g hg => ⟨rel_val z0 g hg, rel_val z1 g hg, trivial⟩
set_option maxRecDepth 100000 in
theorem lifted (os : Os) (started : os.Started) (H : Type) (enc : TypeId × Value → H) :
    ReturnsInHanded {} Try.checked os 7 .any (Rows.vtextListsSpec.pre6 enc Try.prog Try.f7 Rows.vtextListsRow.domain false) (Rows.vtextListsSpec.post enc Try.prog Try.f7 false true false false) := by
  refine returnsInHanded_of_change_sized (C := Try.checked) own started (by kernel_rfl) Try.func7
    (ChangeSpec.witness6 (enc := enc) (C := Try.checked) false ⟨#[], #[.agg #[.int .i64 0, .int .i64 0, .string ByteArray.empty, .slice none 0 0], .agg #[.int .i64 0, .int .i64 0, .string ByteArray.empty, .slice none 0 0]], []⟩ 8 (by kernel_rfl) (by kernel_rfl) (by kernel_rfl) (by kernel_rfl)) ?_
  intro W base args ds gs before hval0 hW hcnd hsz0 _
  have hsz : (DataW.weightsEach Try.prog (Try.f7.params.toList ++ Rows.vtextListsSpec.plain.varTypes Try.prog) (ds ++ gs)).all (· ≤ reachBytes) = true := hsz0
  have hval : ∀ (j : Nat) t v, Try.f7.params[j]? = some t → args[j]? = some v → Value.okWide Try.prog W .any base t v := hval0
  have hW' := hW
  obtain ⟨p, q, hA0, hV, rfl, hfz, hnd⟩ := hW
  have hA : DataW.TrodAll enc Try.prog W 0 (fun _ => true) true Try.f7.params.toList args.toList ds p := hA0
  rw [Try.params7] at hA hval hsz
  obtain ⟨v0, vs0, d0, ds0, p0, q0, hargs, rfl, rfl, h0, r0⟩ := trodAll_cons hA
  obtain ⟨v1, vs1, d1, ds1, p1, q1, rfl, rfl, rfl, h1, r1⟩ := trodAll_cons r0
  obtain ⟨rfl, rfl, rfl⟩ := trodAll_nil r1
  obtain rfl : args = #[v0, v1] := by cases args; simp_all
  obtain ⟨rfl, rfl⟩ := trodVars_none hV
  have hk0 := h0
  obtain ⟨fu0, hf0⟩ := h0
  obtain ⟨u0, z0, n0⟩ := open_val fu0 fu0 (Nat.le_refl _) _ _ hf0 fun q hq => of_decide_eq_true (List.all_eq_true.1 hsz q (DataW.weights_mem_each (j := 0) (t := 25) rfl rfl q hq))
  have hk1 := h1
  obtain ⟨fu1, hf1⟩ := h1
  obtain ⟨u1, z1, n1⟩ := open_val fu1 fu1 (Nat.le_refl _) _ _ hf1 fun q hq => of_decide_eq_true (List.all_eq_true.1 hsz q (DataW.weights_mem_each (j := 1) (t := 25) rfl rfl q hq))
  clear hA0 hval0 hsz0 hsz
  refine (walk W v0 u0 z0 n0 v1 u1 z1 n1).mono fun e W' ⟨he, bel⟩ => ?_
  subst he
  exact ⟨_, rfl, _, _, _, [], _, [], hW', trodAll_mk1 (shut_bool Try.underlying4 _), (trodAll_cons_mk (Below.trod laid (by kernel_rfl) (of_decide_eq_true (by kernel_rfl)) hk0 bel fun x hx => hW'.lt x (by simp [hx])) (trodAll_cons_mk (Below.trod laid (by kernel_rfl) (of_decide_eq_true (by kernel_rfl)) hk1 bel fun x hx => hW'.lt x (by simp [hx])) trodAll_mk0)), rfl, bel.frame _, fun h => by cases h⟩
theorem over : Rows.vtextListsRow.holds Try.pinned (OpenSpec.ofChange Rows.vtextListsSpec) :=
  OpenClaim.holds_of_wide 7 Try.f7 rfl rfl rfl rfl rfl rfl rfl ⟨rfl, rfl, rfl, rfl, rfl⟩ rfl rfl rfl rfl rfl (by kernel_rfl) Try.func7 (by kernel_rfl)
    (of_decide_eq_true (by kernel_rfl)) (by unfold Func.isWrapper; first | (rw [if_pos (by decide +kernel)]; kernel_rfl) | (rw [if_neg (by decide +kernel)]; exact ⟨rfl, rfl⟩))
    (fun os started H enc _ => lifted os started H enc)
end Go.Proofs.Ytgdgfomoeohdeaa.vtextLists
namespace Go.Proofs.Ytgdgfomoeohdeaa
theorem vtextLists_holds : Rows.VtextListsSaid := vtextLists.over
#print axioms vtextLists_holds
end Go.Proofs.Ytgdgfomoeohdeaa
