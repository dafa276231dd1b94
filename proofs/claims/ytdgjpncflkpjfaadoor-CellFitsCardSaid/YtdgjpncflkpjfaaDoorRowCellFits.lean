/- The statement CellFits, as its card says it (the one listed variable tied to the program's text): whatever the input, the law's function answers true and leaves its input as it was; no condition but that the variable begins as the program's text lays it. -/
import Derived.Test.YtdgjpncflkpjfaaDoorRows
import Derived.Test.YtdgjpncflkpjfaaDoorTie
import Derived.Test.YtdgjpncflkpjfaaDoorCards
import Derived.Test.YtdgjpncflkpjfaaDoorV64
import Derived.WalkKit
import Derived.ProofKit
import Derived.OpenShut
import Derived.ShutString
import Derived.ChangeOld
import Derived.Below
import Derived.SizedLaws
import Derived.Carry
import Derived.LaidMore
import Derived.SevenTiedAt
namespace Go.Proofs.YtdgjpncflkpjfaaDoor.cellFits
open Go.ChangeShapes Go.WideShapes Go.ChangeAt Go.RowKit
open Go.ChangeMaps (open_string shut_string)
set_option linter.unusedVariables false
theorem own : ownKnob Tryd.prog.godebug = none := by kernel_rfl
theorem laid : laidOutB Tryd.prog = true := by kernel_rfl
theorem walk (W : World) (T : Nat) (hpl : Plain W T) (v0 : Value) (m0 : ByteArray) (t0 : Int) (q0 : Bool) (u0 : Val) (z0 : Aw.All2 (Aw.Rel (imZ W)) (slotC m0 t0 q0 u0) v0.cells.toList) (n0 : -9223372036854775808 ≤ t0 ∧ t0 < 9223372036854775808) (v1 : Value) (u1 : Val) (z1 : Aw.All2 (Aw.Rel (imZ W)) u1.ac v1.cells.toList) (n1 : u1.rng) (a2 : ByteArray) : Calls Tryd.prog 3 #[v0, v1, .string a2] W fun e W' => e = .returned (.bool true) ∧ Below W.heap.size W W' :=
  glob_walk (vs := [v0, v1, .string a2]) (fun h h0 => fitsLaw m0 t0 q0 u0 u1 a2 n0 n1  h T h0) W hpl fun g hg => ⟨relZ_slot z0 g hg, relZ_val z1 g hg, (Aw.Rel.v _ rfl : Aw.Rel g.I _ _), trivial⟩
set_option maxRecDepth 100000 in
theorem lifted (os : Os) (started : os.Started) (H : Type) (enc : TypeId × Value → H) :
    ReturnsInHanded {} Tryd.checked os 3 .any (fun w args => (Rows.cellFitsSpec.pre enc Tryd.prog Tryd.f3 [] false w args ∧ laidMetH Tryd.prog laidL w) ∧ sizedMet enc Tryd.prog Tryd.f3 (OpenSpec.ofChange Rows.cellFitsSpec) false w args) (Rows.cellFitsSpec.post enc Tryd.prog Tryd.f3 false true false false) := by
  refine returnsInHanded_of_change_and (C := Tryd.checked) (X := fun w _ => laidMetH Tryd.prog laidL w) (fun _ _ _ hh h => h.of_heap hh) own started (by kernel_rfl) Tryd.func3
    (ChangeSpec.witness_shaped (enc := enc) (C := Tryd.checked) (os := os) (X := fun w _ => laidMetH Tryd.prog laidL w) false (World.doorLaid Tryd.prog 400 os) #[.agg #[.string ByteArray.empty, .int .i64 0, .bool false, .int .i64 0, .int .i64 0, .string ByteArray.empty, .slice none 0 0], .agg #[.int .i64 0, .int .i64 0, .string ByteArray.empty, .slice none 0 0], .string ByteArray.empty] 8 rfl (World.shaped_of_RefB (by kernel_rfl) (by kernel_rfl)) (by kernel_rfl) (by kernel_rfl) (by kernel_rfl) (door_met os _)) ?_
  intro W base args ds gs before hval0 hW _ hsz0 hL _
  have hsz : (DataW.weightsEach Tryd.prog (Tryd.f3.params.toList ++ Rows.cellFitsSpec.plain.varTypes Tryd.prog) (ds ++ gs)).all (· ≤ reachBytes) = true := hsz0
  have hval : ∀ (j : Nat) t v, Tryd.f3.params[j]? = some t → args[j]? = some v → Value.okWide Tryd.prog W .any base t v := hval0
  have hW' := hW
  obtain ⟨p, q, hA0, hV, rfl, hfz, hnd⟩ := hW
  have hA : DataW.TrodAll enc Tryd.prog W 0 (fun _ => true) true Tryd.f3.params.toList args.toList ds p := hA0
  rw [Tryd.params3] at hA hval hsz
  obtain ⟨v0, vs0, d0, ds0, p0, q0, hargs, rfl, rfl, h0, r0⟩ := trodAll_cons hA
  obtain ⟨v1, vs1, d1, ds1, p1, q1, rfl, rfl, rfl, h1, r1⟩ := trodAll_cons r0
  obtain ⟨v2, vs2, d2, ds2, p2, q2, rfl, rfl, rfl, h2, r2⟩ := trodAll_cons r1
  obtain ⟨rfl, rfl, rfl⟩ := trodAll_nil r2
  obtain rfl : args = #[v0, v1, v2] := by cases args; simp_all
  obtain ⟨rfl, rfl⟩ := trodVars_none hV
  obtain ⟨T, hpl⟩ := of_laid hL
  have hk0 := h0
  obtain ⟨fu0, hf0⟩ := h0
  obtain ⟨m0, t0, q0, u0, z0, n0⟩ := open_slot fu0 _ _ hf0 fun q hq => of_decide_eq_true (List.all_eq_true.1 hsz q (DataW.weights_mem_each (j := 0) (t := 26) rfl rfl q hq))
  have hk1 := h1
  obtain ⟨fu1, hf1⟩ := h1
  obtain ⟨u1, z1, n1⟩ := open_val fu1 fu1 (Nat.le_refl _) _ _ hf1 fun q hq => of_decide_eq_true (List.all_eq_true.1 hsz q (DataW.weights_mem_each (j := 1) (t := 24) rfl rfl q hq))
  obtain ⟨a2, rfl, rfl, rfl, y2⟩ := open_string Tryd.underlying9 (hval 2 9 v2 rfl rfl) h2
  clear hA0 hval0 hsz0 hsz
  refine (walk W T hpl v0 m0 t0 q0 u0 (slot_away hpl.bools z0) n0 v1 u1 (val_away hpl.bools z1) n1 a2).mono fun e W' ⟨he, bel⟩ => ?_
  subst he
  exact ⟨_, rfl, _, _, _, [], _, [], hW', trodAll_mk1 (shut_bool Tryd.underlying4 _), (trodAll_cons_mk (Below.trod laid (by kernel_rfl) (of_decide_eq_true (by kernel_rfl)) hk0 bel fun x hx => hW'.lt x (by simp [hx])) (trodAll_cons_mk (Below.trod laid (by kernel_rfl) (of_decide_eq_true (by kernel_rfl)) hk1 bel fun x hx => hW'.lt x (by simp [hx])) (trodAll_cons_mk (shut_string Tryd.underlying9 y2) trodAll_mk0))), rfl, bel.frame _, fun h => by cases h⟩
theorem over : Rows.cellFitsRow.holds Tryd.pinned (OpenSpec.ofChange Rows.cellFitsSpec) :=
  OpenClaim.holds_of_wide 3 Tryd.f3 rfl rfl rfl rfl rfl rfl rfl ⟨rfl, rfl, rfl, rfl, rfl⟩ rfl rfl rfl rfl rfl (by kernel_rfl) Tryd.func3 (by kernel_rfl)
    (of_decide_eq_true (by kernel_rfl)) (by unfold Func.isWrapper; first | (rw [if_pos (by decide +kernel)]; kernel_rfl) | (rw [if_neg (by decide +kernel)]; exact ⟨rfl, rfl⟩))
    (fun os started H enc _ => lifted os started H enc)
end Go.Proofs.YtdgjpncflkpjfaaDoor.cellFits
namespace Go.Proofs.YtdgjpncflkpjfaaDoor
theorem cellFits_holds : Rows.CellFitsCardSaid :=
  Claim7.holds_tied_plain_at .later [] [.data] true (true, "c02bbe62cfac7476864142541a80429ae63076cf43f6b8abeda224ed5cd004f1") true
    cellFits.over (fun _ h => by cases h) (by kernel_rfl) (fun _ h => by cases h) cellFits_row_tie rfl ⟨rfl, rfl⟩ (by kernel_rfl) rfl
    (fun f fn hf hfn => by
      obtain rfl : f = 3 := Option.some.inj ((show Tryd.prog.funcNamed "douane/douanelaw15.CellFits" = some 3 by kernel_rfl).symm.trans hf) |>.symm
      obtain rfl : fn = Tryd.f3 := (Option.some.inj (Tryd.func3.symm.trans hfn)).symm
      exact ⟨by kernel_rfl, fun j t ht => by
        rw [Tryd.params3] at ht
        have hm : t ∈ [26, 24, 9] := by simpa using Array.mem_of_getElem? ht
        have hall : ([26, 24, 9].all fun u => !Tryd.prog.wantsStandIn u) = true := by kernel_rfl
        exact (show Tryd.prog.wantsStandIn t = false by simpa using List.all_eq_true.1 hall t hm)⟩)
    (by kernel_rfl)
#print axioms cellFits_holds
end Go.Proofs.YtdgjpncflkpjfaaDoor
