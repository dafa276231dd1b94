/- douaneref01: Code, Put, Bytes. -/
import Derived.Test.YtgdgfomoeohdeaaV17
set_option linter.unusedVariables false
set_option linter.unusedSimpArgs false
namespace Go.Proofs.Ytgdgfomoeohdeaa
open Aw

theorem rcode_pure (c : Int) : PureA Try.prog 86 [.c (.v (.int .i64 c))] (.c (.v (.bool (codeB c)))) := by
  intro h
  refine callsA_of (D := D1 17 [] [] [5, 9, 12]) ty_ok mixed Try.func86 rfl (by kernel_rfl) (by kernel_rfl) (by simp [D1]) ?_
  intro g vs hr
  clear hr
  repeat' refine Br.mk (fun _ => ?_) (fun _ => ?_)
  all_goals
    refine ⟨ret_b ?_, rfl⟩
    unfold codeB
    simp only [decide_eq_true_eq, decide_eq_false_iff_not] at *
    try simp only [decide_eq_decide]
    first | (rw [eq_comm, decide_eq_true_eq]; omega) | (rw [eq_comm, decide_eq_false_iff_not]; omega) | omega

def rowsN (l : List Int) : List (List AC) := l.map fun b => [AC.v (.int .u8 b)]
theorem rowsN_len (l : List Int) : (rowsN l).length = l.length := by simp [rowsN]
theorem rowsN_get {l : List Int} {i : Nat} (h : i < l.length) : (rowsN l)[i]? = some [AC.v (.int .u8 l[i])] := by
  unfold rowsN; rw [List.getElem?_map, List.getElem?_eq_getElem h]; rfl
theorem bytes_pure (a b : List Int) (ha : a.length < 1000000) : PureA Try.prog 83 [.c (.sl 1 (rowsN a)), .c (.sl 1 (rowsN b))] (.c (.v (.bool (decide (a = b))))) := by
  intro h
  refine callsA_of (D := D1 26 [] [] []) ty_ok mixed Try.func83 rfl (by kernel_rfl) (by kernel_rfl) (by simp [D1]) ?_
  intro g vs hr
  clear hr
  refine Br.mk (fun h1 => ?_) (fun h1 => ?_)
  · rw [rowsN_len, rowsN_len] at h1
    have : ¬ a = b := fun e => by rw [e] at h1; simp at h1
    exact ⟨ret_b (decide_eq_false this).symm, rfl⟩
  rw [rowsN_len, rowsN_len] at h1
  have hl : a.length = b.length := by have := bne_eq_false_iff_eq.1 h1; omega
  refine LoopA.mk ⟨⟨[0, 1, 4, 5], 0, 0⟩, fun n st => ∃ (i : Nat) (j : Int), st = ⟨[(0, .c (.sl 1 (rowsN a))), (1, .c (.sl 1 (rowsN b))), (4, .c .ff), (5, .c (.v (.int .i64 j)))], ⟨[], [], h⟩⟩ ∧ i ≤ a.length ∧ n = a.length - i ∧ j = i ∧ a.take i = b.take i, ⟨rfl, a.length, _, .refl _ _, 0, _, rfl, Nat.zero_le _, rfl, rfl, rfl⟩, ?_⟩
  rintro n _ ⟨i, j, rfl, hi, rfl, rfl, heq⟩
  refine Br.mk (fun hb => ?_) (fun hb => ?_)
  · rw [rowsN_len] at hb
    have hlt : i < a.length := by have := of_decide_eq_true hb; omega
    have hlt' : i < b.length := by omega
    refine Pre.mk (by kernel_rfl) ?_
    refine ⟨_, ⟨by omega, rowsN_get hlt⟩, _, ⟨by omega, rowsN_get hlt'⟩, ?_⟩
    refine Br.mk (fun h2 => ?_) (fun h2 => ?_)
    · have h2 : a[i] ≠ b[i] := by simpa using h2
      have : ¬ a = b := fun e => h2 (by subst e; rfl)
      exact ⟨ret_b (decide_eq_false this).symm, rfl⟩
    · have h2 : a[i] = b[i] := by simpa using h2
      refine ⟨rfl, a.length - (i + 1), by omega, _, .refl _ _, i + 1, _, rfl, by omega, rfl, by rw [wrap64] <;> omega, ?_⟩
      rw [List.take_succ_eq_append_getElem hlt, List.take_succ_eq_append_getElem hlt', heq, h2]
  · rw [rowsN_len] at hb
    have he : i = a.length := by have := of_decide_eq_false hb; omega
    have : a = b := by
      have h1 := List.take_of_length_le (Nat.le_of_eq he.symm)
      have h2 := List.take_of_length_le (l := b) (i := i) (by omega)
      rw [← h1, heq, h2]
    exact ⟨ret_b (decide_eq_true this).symm, rfl⟩
end Go.Proofs.Ytgdgfomoeohdeaa
