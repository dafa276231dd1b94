/- The contracts of package utf: one code. -/
import Derived.Test.YtgdgfomoeohdeaaV9
set_option linter.unusedVariables false
set_option linter.unusedSimpArgs false
namespace Go.Proofs.Ytgdgfomoeohdeaa
open Aw

def codeB (c : Int) : Bool := decide (0 ≤ c ∧ c ≤ 1114111 ∧ (c < 55296 ∨ 57343 < c))
def longN (c : Int) : Nat := if c < 128 then 1 else if c < 2048 then 2 else if c < 65536 then 3 else 4
def longH (c : Int) : Int := if c < 128 then 0 else if c < 2048 then 192 else if c < 65536 then 224 else 240
def firstS (x : Int) : Nat × Int :=
  if x < 128 then (1, x) else if 192 ≤ x ∧ x < 224 then (2, x - 192) else if 224 ≤ x ∧ x < 240 then (3, x - 224) else if 240 ≤ x ∧ x < 248 then (4, x - 240) else (0, 0)
theorem code_pure (c : Int) : PureA Try.prog 91 [.c (.v (.int .i64 c))] (.c (.v (.bool (codeB c)))) := by
  intro h
  refine callsA_of (D := D1 17 [] [] [5, 9, 12]) ty_ok mixed Try.func91 rfl (by kernel_rfl) (by kernel_rfl) (by simp [D1]) ?_
  intro g vs hr
  clear hr
  repeat' refine Br.mk (fun _ => ?_) (fun _ => ?_)
  all_goals
    refine ⟨ret_b ?_, rfl⟩
    unfold codeB
    simp only [decide_eq_true_eq, decide_eq_false_iff_not] at *
    try simp only [decide_eq_decide]
    first | (rw [eq_comm, decide_eq_true_eq]; omega) | (rw [eq_comm, decide_eq_false_iff_not]; omega) | omega
theorem long_pure (c : Int) : PureA Try.prog 90 [.c (.v (.int .i64 c))] (.tup [.c (.v (.int .i64 (longN c))), .c (.v (.int .i64 (longH c)))]) := by
  intro h
  refine callsA_of (D := D1 13 [] [] []) ty_ok mixed Try.func90 rfl (by kernel_rfl) (by kernel_rfl) (by simp [D1]) ?_
  intro g vs hr
  clear hr
  unfold longN longH
  refine Br.mk (fun h1 => ?_) (fun h1 => ?_)
  · have h1 := of_decide_eq_true h1
    exact ⟨ret2 (by rw [if_pos h1, if_pos h1]; rfl), rfl⟩
  have h1 := of_decide_eq_false h1
  rw [if_neg h1, if_neg h1]
  refine Br.mk (fun h2 => ?_) (fun h2 => ?_)
  · have h2 := of_decide_eq_true h2
    exact ⟨ret2 (by rw [if_pos h2, if_pos h2]; rfl), rfl⟩
  have h2 := of_decide_eq_false h2
  rw [if_neg h2, if_neg h2]
  refine Br.mk (fun h3 => ?_) (fun h3 => ?_)
  · have h3 := of_decide_eq_true h3
    exact ⟨ret2 (by rw [if_pos h3, if_pos h3]; rfl), rfl⟩
  have h3 := of_decide_eq_false h3
  rw [if_neg h3, if_neg h3]
  exact ⟨ret2 rfl, rfl⟩
def andU (x m : Int) : Int := IntKind.i64.wrap (IntKind.u8.wrap (BitVec.ofInt IntKind.u8.bits x &&& BitVec.ofInt IntKind.u8.bits m).toNat)
theorem and31 : ∀ n : Fin 256, 192 ≤ n.val → n.val < 224 → andU n.val 31 = (n.val : Int) - 192 := by decide +kernel
theorem and15 : ∀ n : Fin 256, 224 ≤ n.val → n.val < 240 → andU n.val 15 = (n.val : Int) - 224 := by decide +kernel
theorem and7 : ∀ n : Fin 256, 240 ≤ n.val → n.val < 248 → andU n.val 7 = (n.val : Int) - 240 := by decide +kernel
theorem and63 : ∀ n : Fin 256, 128 ≤ n.val → n.val < 192 → andU n.val 63 = (n.val : Int) - 128 := by decide +kernel
theorem not63 : ∀ n : Fin 256, (IntKind.u8.wrap (BitVec.ofInt IntKind.u8.bits (n.val : Int) &&& ~~~(BitVec.ofInt IntKind.u8.bits 63)).toNat != 128) = !(decide (128 ≤ n.val) && decide (n.val < 192)) := by decide +kernel
theorem first_pure {x : Int} (h0 : 0 ≤ x) (hx : x < 256) : PureA Try.prog 89 [.c (.v (.int .u8 x))] (.tup [.c (.v (.int .i64 (firstS x).1)), .c (.v (.int .i64 (firstS x).2))]) := by
  obtain ⟨n, rfl⟩ : ∃ n : Nat, x = n := ⟨x.toNat, by omega⟩
  have hn : n < 256 := by omega
  intro h
  refine callsA_of (D := D1 39 [] [] [4, 9, 12, 19, 22, 29, 32]) ty_ok mixed Try.func89 rfl (by kernel_rfl) (by kernel_rfl) (by simp [D1]) ?_
  intro g vs hr
  clear hr
  have w : IntKind.i64.wrap (n : Int) = n := by rw [wrap64] <;> omega
  repeat' refine Br.mk (fun _ => ?_) (fun _ => ?_)
  all_goals
    refine ⟨ret2 ?_, rfl⟩
    simp only [decide_eq_true_eq, decide_eq_false_iff_not] at *
    unfold firstS
    rcases (by omega : (n : Int) < 128 ∨ (192 ≤ (n : Int) ∧ (n : Int) < 224) ∨ (224 ≤ (n : Int) ∧ (n : Int) < 240) ∨ (240 ≤ (n : Int) ∧ (n : Int) < 248) ∨ (128 ≤ (n : Int) ∧ (n : Int) < 192 ∨ 248 ≤ (n : Int))) with e | e | e | e | e
    · first | (exfalso; omega) | (rw [if_pos e, w]; rfl)
    · first | (exfalso; omega) | (have h1 : ¬ (n : Int) < 128 := by omega
                                  rw [if_neg h1, if_pos e]; exact congrArg (Prod.mk (2 : Int)) (and31 ⟨n, hn⟩ (by show 192 ≤ n; omega) (by show n < 224; omega)))
    · first | (exfalso; omega) | (have h1 : ¬ (n : Int) < 128 := by omega
                                  have h2 : ¬ (192 ≤ (n : Int) ∧ (n : Int) < 224) := by omega
                                  rw [if_neg h1, if_neg h2, if_pos e]; exact congrArg (Prod.mk (3 : Int)) (and15 ⟨n, hn⟩ (by show 224 ≤ n; omega) (by show n < 240; omega)))
    · first | (exfalso; omega) | (have h1 : ¬ (n : Int) < 128 := by omega
                                  have h2 : ¬ (192 ≤ (n : Int) ∧ (n : Int) < 224) := by omega
                                  have h3 : ¬ (224 ≤ (n : Int) ∧ (n : Int) < 240) := by omega
                                  rw [if_neg h1, if_neg h2, if_neg h3, if_pos e]; exact congrArg (Prod.mk (4 : Int)) (and7 ⟨n, hn⟩ (by show 240 ≤ n; omega) (by show n < 248; omega)))
    · first | (exfalso; omega) | (have h1 : ¬ (n : Int) < 128 := by omega
                                  have h2 : ¬ (192 ≤ (n : Int) ∧ (n : Int) < 224) := by omega
                                  have h3 : ¬ (224 ≤ (n : Int) ∧ (n : Int) < 240) := by omega
                                  have h4 : ¬ (240 ≤ (n : Int) ∧ (n : Int) < 248) := by omega
                                  rw [if_neg h1, if_neg h2, if_neg h3, if_neg h4]; rfl)
end Go.Proofs.Ytgdgfomoeohdeaa
