/- The contract of douaneref03.Great, at any value. -/
import Derived.Test.YtdgjpncflkpjfaaDoorV6
set_option linter.unusedVariables false
set_option linter.unusedSimpArgs false
namespace Go.Proofs.YtdgjpncflkpjfaaDoor
open Aw

mutual
def countO : Val → Int → Int → Int
  | ⟨_, _, _, l⟩, n, d => if n - 1 < 0 ∨ d < 0 then -1 else countL l (n - 1) (d - 1)
def countL : List Val → Int → Int → Int
  | [], n, _ => n
  | x :: xs, n, d => if countO x n d < 0 then -1 else countL xs (countO x n d) d
end
theorem countO_def (v : Val) (n d : Int) : countO v n d = if n - 1 < 0 ∨ d < 0 then -1 else countL v.l (n - 1) (d - 1) := by cases v; rfl
theorem countL_le {l : List Val} (hl : ∀ x ∈ l, ∀ n d, 0 ≤ n → countO x n d ≤ n) : ∀ (n d : Int), 0 ≤ n → countL l n d ≤ n := by
  induction l with
  | nil => intro n d h; exact Int.le_refl _
  | cons x l ih =>
    intro n d h
    simp only [countL]
    have h1 := hl x (by simp) n d h
    split
    · omega
    · have := ih (fun y hy => hl y (by simp [hy])) (countO x n d) d (by omega); omega
theorem countO_le (v : Val) (n d : Int) (h : 0 ≤ n) : countO v n d ≤ n := by
  rw [countO_def]
  split
  · omega
  · have := countL_le (l := v.l) (fun x hx n d h => countO_le x n d h) (n - 1) (d - 1) (by omega); omega
termination_by v
decreasing_by exact Val.size_mem hx
theorem countL_spec {l : List Val} (hl : ∀ x ∈ l, ∀ n d, 0 ≤ countO x n d → countO x n d = n - x.nodes ∧ x.deep ≤ d + 1) : ∀ (n d : Int), 0 ≤ countL l n d → countL l n d = n - Val.nodess l ∧ ∀ x ∈ l, x.deep ≤ d + 1 := by
  induction l with
  | nil => intro n d h; simp [countL, Val.nodess]
  | cons x l ih =>
    intro n d h
    simp only [countL] at h ⊢
    by_cases hx : countO x n d < 0
    · rw [if_pos hx] at h; omega
    · rw [if_neg hx] at h ⊢
      obtain ⟨h1, h2⟩ := hl x (by simp) n d (by omega)
      obtain ⟨h3, h4⟩ := ih (fun y hy => hl y (by simp [hy])) _ d h
      refine ⟨by rw [h3, h1]; simp only [Val.nodess]; omega, fun y hy => ?_⟩
      rcases List.mem_cons.1 hy with rfl | hy
      · exact h2
      · exact h4 y hy
theorem countO_spec (v : Val) (n d : Int) (h : 0 ≤ countO v n d) : countO v n d = n - v.nodes ∧ v.deep ≤ d + 1 := by
  rw [countO_def] at h ⊢
  by_cases hn : n - 1 < 0 ∨ d < 0
  · rw [if_pos hn] at h; omega
  · rw [if_neg hn] at h ⊢
    obtain ⟨h1, h2⟩ := countL_spec (l := v.l) (fun x hx n d h => countO_spec x n d h) _ _ h
    refine ⟨by rw [h1, nodes_def]; omega, ?_⟩
    rw [deep_def]
    have : Val.deeps 0 v.l ≤ d := by
      have : ∀ (l : List Val) (m : Int), m ≤ d → (∀ x ∈ l, x.deep ≤ d) → Val.deeps m l ≤ d := by
        intro l
        induction l with
        | nil => intro m h _; exact h
        | cons x l ih =>
          intro m h hl
          simp only [Val.deeps]
          exact ih _ (by have := hl x (by simp); omega) fun y hy => hl y (by simp [hy])
      exact this v.l 0 (by omega) fun x hx => by have := h2 x hx; omega
    split <;> omega
termination_by v
decreasing_by exact Val.size_mem hx

theorem count_any (v : Val) (n d : Int) (h0 : 0 ≤ n) (h1 : n < 1000000) (h2 : -1 ≤ d) (h3 : d < 1000000) : PureA Tryd.prog 20 [.agg v.ac, .c (.v (.int .i64 n)), .c (.v (.int .i64 d))] (.c (.v (.int .i64 (countO v n d)))) := by
  intro h
  refine callsA_of (D := D1 35 [] [] [12]) ty_ok mixed Tryd.func20 rfl (by kernel_rfl) (by kernel_rfl) (by simp [D1]) ?_
  intro g vs hr
  rw [Val.ac_eq] at hr ⊢
  have hlen : v.l.length ≤ lenMax := by have := sl_len hr; rwa [Val.acs_len] at this
  clear hr
  have hw : IntKind.i64.wrap (n - 1) = n - 1 := by rw [wrap64] <;> omega
  obtain ⟨R, hR⟩ : ∃ R, R = countO v n d := ⟨_, rfl⟩
  rw [← hR]
  rw [countO_def] at hR
  refine Br.mk (fun hb => ?_) (fun hb => ?_)
  · rw [hw] at hb
    rw [if_pos (.inl (of_decide_eq_true hb))] at hR
    exact ⟨ret_i hR.symm, rfl⟩
  rw [hw] at hb
  have hb := of_decide_eq_false hb
  refine Br.mk (fun hb2 => ?_) (fun hb2 => ?_)
  · rw [if_pos (.inr (of_decide_eq_true hb2))] at hR
    exact ⟨ret_i hR.symm, rfl⟩
  have hb2 := of_decide_eq_false hb2
  rw [if_neg (by omega)] at hR
  refine LoopA.mk ⟨⟨[1, 2, 3, 6, 7], 1, 0⟩, fun k st => ∃ (i : Nat) (m j : Int), st = ⟨[(1, .c (.v (.int .i64 m))), (2, .c (.v (.int .i64 d))), (3, .c (.loc 0 0)), (6, .c (.v (.int .i64 0))), (7, .c (.v (.int .i64 j)))], ⟨[(24, [.v (.int .i64 v.kind), .v (.int .i64 v.n), .v (.string v.s), .sl 4 (Val.acs v.l)])], [], h⟩⟩ ∧ i ≤ v.l.length ∧ k = v.l.length - i ∧ 0 ≤ m ∧ m < 1000000 ∧ R = countL (v.l.drop i) m (d - 1) ∧ j = i, ⟨rfl, v.l.length, _, .refl _ _, 0, _, _, rfl, by simp, by simp, by rw [hw]; omega, by rw [hw]; omega, by rw [hw]; exact hR, rfl⟩, ?_⟩
  rintro k _ ⟨i, m, j, rfl, hi, rfl, hm0, hm1, hm, rfl⟩
  refine Br.mk (fun hb => ?_) (fun hb => ?_)
  · have hlt : i < v.l.length := by simpa [Val.acs_len] using hb
    have hx : v.l[i]? = some v.l[i] := List.getElem?_eq_getElem hlt
    refine ⟨_, ⟨by omega, Val.acs_get hx⟩, ?_⟩
    have hmem : v.l[i] ∈ v.l := List.getElem_mem hlt
    have hI := count_any v.l[i] m (d - 1) hm0 hm1 (by omega) (by omega)
    rw [Val.ac_eq] at hI
    have hwd : IntKind.i64.wrap (d - 1) = d - 1 := by rw [wrap64] <;> omega
    rw [List.drop_eq_getElem_cons hlt] at hm
    simp only [countL] at hm
    have hle := countO_le v.l[i] m (d - 1) hm0
    refine ⟨_, by rw [← hwd] at hI; exact hI, ?_⟩
    rw [hwd]
    refine Br.mk (fun hg => ?_) (fun hg => ?_)
    · rw [if_pos (of_decide_eq_true hg)] at hm
      exact ⟨ret_i hm.symm, rfl⟩
    · have hg := of_decide_eq_false hg
      rw [if_neg hg] at hm
      refine ⟨rfl, v.l.length - (i + 1), by omega, _, .refl _ _, i + 1, _, _, rfl, by omega, rfl, by omega, by omega, hm, ?_⟩
      rw [wrap64] <;> have := lt64 hlen <;> omega
  · have he : i = v.l.length := by have : ¬ i < v.l.length := by simpa [Val.acs_len] using hb
                                   omega
    subst he
    rw [List.drop_length] at hm
    exact ⟨ret_i hm.symm, rfl⟩
termination_by v
decreasing_by all_goals exact Val.size_mem hmem

def greatB (v : Val) : Bool := decide (countO v 1000 10 < 0) || decide (v.deep > 10)
theorem greatB_false {v : Val} (h : greatB v = false) : v.nodes ≤ 1000 ∧ v.deep ≤ 10 := by
  unfold greatB at h
  rw [Bool.or_eq_false_iff] at h
  have h1 := of_decide_eq_false h.1
  have h2 := of_decide_eq_false h.2
  obtain ⟨h3, _⟩ := countO_spec v 1000 10 (by omega)
  omega
theorem great_pure (v : Val) : PureA Tryd.prog 6 [.agg v.ac] (.c (.v (.bool (greatB v)))) := by
  intro h
  refine callsA_of (D := D1 11 [] [] [6]) ty_ok mixed Tryd.func6 rfl (by kernel_rfl) (by kernel_rfl) (by simp [D1]) ?_
  intro g vs hr
  clear hr
  have hc := count_any v 1000 10 (by omega) (by omega) (by omega) (by omega)
  have hd := rdeep_pure v
  rw [Val.ac_eq] at hc hd ⊢
  refine ⟨_, hc, Br.mk (fun h1 => ?_) (fun h1 => ?_)⟩
  · exact ⟨ret_b (by simp [greatB, of_decide_eq_true h1]), rfl⟩
  · have h1 := of_decide_eq_false h1
    obtain ⟨_, h4⟩ := countO_spec v 1000 10 (by omega)
    refine ⟨_, hd (by omega), ?_⟩
    exact ⟨ret_b (by simp only [greatB, decide_eq_false h1, Bool.false_or]), rfl⟩
end Go.Proofs.YtdgjpncflkpjfaaDoor
