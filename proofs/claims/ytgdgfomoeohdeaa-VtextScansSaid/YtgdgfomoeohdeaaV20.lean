/- douaneref01: Put. -/
import Derived.Test.YtgdgfomoeohdeaaV19
set_option linter.unusedVariables false
set_option linter.unusedSimpArgs false
namespace Go.Proofs.Ytgdgfomoeohdeaa
open Aw

def putS (c : Int) : List Int :=
  if codeB c then
    if c < 128 then [c]
    else if c < 2048 then [192 + c / 64, 128 + c % 64]
    else if c < 65536 then [224 + c / 4096, 128 + c / 64 % 64, 128 + c % 64]
    else [240 + c / 262144, 128 + c / 4096 % 64, 128 + c / 64 % 64, 128 + c % 64]
  else []
theorem lePut {l m : List Int} (h : l = m) : VLe (.c (.sl 1 (rowsN l))) (.c (.sl 1 (rowsN m))) := by rw [h]; exact VLe.refl _
set_option maxRecDepth 4000 in
theorem put_pure (c : Int) : PureA Try.prog 84 [.c (.v (.int .i64 c))] (.c (.sl 1 (rowsN (putS c)))) := by
  refine PureA.le fun h => ?_
  refine callsA_of (D := D1 57 [] [] []) ty_ok mixed Try.func84 rfl (by kernel_rfl) (by kernel_rfl) (by simp [D1]) ?_
  intro g vs hr
  clear hr
  refine ⟨_, rcode_pure c, Br.mk (fun h1 => ?_) (fun h1 => ?_)⟩
  · have : putS c = [] := by unfold putS; rw [if_neg (by rw [not_t h1]; exact Bool.false_ne_true)]
    rw [this]
    exact ⟨⟨_, rfl, VLe.c (CLe.nil (by decide))⟩, rfl⟩
  have hc := not_f h1
  have hb := of_decide_eq_true (show decide (0 ≤ c ∧ c ≤ 1114111 ∧ (c < 55296 ∨ 57343 < c)) = true from hc)
  obtain ⟨L, hL⟩ : ∃ L, L = putS c := ⟨_, rfl⟩
  rw [← hL]
  unfold putS at hL
  rw [if_pos hc] at hL
  have dv : ∀ m : Int, 0 < m → IntKind.i64.wrap (c.tdiv m) = c / m := fun m hm => by
    rw [Int.tdiv_eq_ediv_of_nonneg hb.1]
    have h1 : 0 ≤ c / m := Int.ediv_nonneg hb.1 (by omega)
    have h2 : c / m ≤ c := Int.ediv_le_self _ hb.1
    rw [wrap64] <;> omega
  have d64 := dv 64 (by decide)
  have d4096 := dv 4096 (by decide)
  have d262 := dv 262144 (by decide)
  have m0 : c.tmod 64 = c % 64 := Int.tmod_eq_emod_of_nonneg hb.1
  have m1 : (c / 64).tmod 64 = c / 64 % 64 := Int.tmod_eq_emod_of_nonneg (by omega)
  have m2 : (c / 4096).tmod 64 = c / 4096 % 64 := Int.tmod_eq_emod_of_nonneg (by omega)
  have ww : ∀ x : Int, 0 ≤ x → x < 256 → IntKind.u8.wrap (IntKind.i64.wrap x) = x := fun x h0 h1 => by rw [wrap64 (by omega) (by omega), wrapu8 h0 h1]
  refine Br.mk (fun h2 => ?_) (fun h2 => ?_)
  · have h2 := of_decide_eq_true h2
    rw [if_pos h2] at hL
    exact ⟨⟨_, rfl, lePut (l := [IntKind.u8.wrap c]) (by rw [hL, wrapu8 hb.1 (by omega)])⟩, rfl⟩
  have h2 := of_decide_eq_false h2
  rw [if_neg h2] at hL
  refine Br.mk (fun h3 => ?_) (fun h3 => ?_)
  · have h3 := of_decide_eq_true h3
    rw [if_pos h3] at hL
    refine Pre.mk (by decide) (Pre.mk (by decide) ?_)
    exact ⟨⟨_, rfl, lePut (l := [IntKind.u8.wrap (IntKind.i64.wrap (192 + IntKind.i64.wrap (c.tdiv 64))), IntKind.u8.wrap (IntKind.i64.wrap (128 + c.tmod 64))]) (by rw [hL, d64, m0, ww _ (by omega) (by omega), ww _ (by omega) (by omega)])⟩, rfl⟩
  have h3 := of_decide_eq_false h3
  rw [if_neg h3] at hL
  refine Br.mk (fun h4 => ?_) (fun h4 => ?_)
  · have h4 := of_decide_eq_true h4
    rw [if_pos h4] at hL
    refine Pre.mk (by decide) (Pre.mk (by decide) (Pre.mk (by decide) (Pre.mk (by decide) ?_)))
    exact ⟨⟨_, rfl, lePut (l := [IntKind.u8.wrap (IntKind.i64.wrap (224 + IntKind.i64.wrap (c.tdiv 4096))), IntKind.u8.wrap (IntKind.i64.wrap (128 + (IntKind.i64.wrap (c.tdiv 64)).tmod 64)), IntKind.u8.wrap (IntKind.i64.wrap (128 + c.tmod 64))]) (by rw [hL, d4096, d64, m0, m1, ww _ (by omega) (by omega), ww _ (by omega) (by omega), ww _ (by omega) (by omega)])⟩, rfl⟩
  have h4 := of_decide_eq_false h4
  rw [if_neg h4] at hL
  refine Pre.mk (by decide) (Pre.mk (by decide) (Pre.mk (by decide) (Pre.mk (by decide) (Pre.mk (by decide) (Pre.mk (by decide) ?_)))))
  exact ⟨⟨_, rfl, lePut (l := [IntKind.u8.wrap (IntKind.i64.wrap (240 + IntKind.i64.wrap (c.tdiv 262144))), IntKind.u8.wrap (IntKind.i64.wrap (128 + (IntKind.i64.wrap (c.tdiv 4096)).tmod 64)), IntKind.u8.wrap (IntKind.i64.wrap (128 + (IntKind.i64.wrap (c.tdiv 64)).tmod 64)), IntKind.u8.wrap (IntKind.i64.wrap (128 + c.tmod 64))]) (by rw [hL, d262, d4096, d64, m0, m1, m2, ww _ (by omega) (by omega), ww _ (by omega) (by omega), ww _ (by omega) (by omega), ww _ (by omega) (by omega)])⟩, rfl⟩
end Go.Proofs.Ytgdgfomoeohdeaa
