/- The contracts of douaneref03: the document's right values. -/
import Derived.Test.YtdgjpncflkpjfaaDoorV2
set_option linter.unusedVariables false
set_option linter.unusedSimpArgs false
namespace Go.Proofs.YtdgjpncflkpjfaaDoor
open Aw

theorem nameB_false' {s : ByteArray} {i : Nat} (hi : i < s.size) (h : symC (bt s i) = false ∨ i = 0 ∧ letterB (bt s i) = false) : nameB s = false := by
  rcases h with h | ⟨h1, h2⟩
  · exact nameB_false hi h
  · subst h1; unfold nameB; have : letterB (bt s 0) = false := h2; rw [this]; simp
theorem nameB_true {s : ByteArray} (h0 : 0 < s.size) (h1 : s.size ≤ 40) (hl : letterB (bt s 0) = true) (h : ∀ k : Nat, k < s.size → symC (bt s k) = true) : nameB s = true := by
  unfold nameB
  rw [hl, decide_eq_true ⟨h0, h1⟩, List.all_eq_true.2 (fun k hk => h k (by simpa using hk))]; rfl

set_option maxRecDepth 8000 in
set_option maxHeartbeats 1000000 in
theorem risName_pure (s : ByteArray) : PureA Tryd.prog 67 [.c (.v (.string s))] (.c (.v (.bool (nameB s)))) := by
  intro h
  refine callsA_of (D := D1 60 [] [] [9, 25, 29, 32, 39, 42, 45, 49, 53]) ty_ok mixed Tryd.func67 rfl (by kernel_rfl) (by kernel_rfl) (by simp [D1]) ?_
  intro g vs hr
  clear hr
  refine Br.mk (fun hb => ?_) (fun hb => ?_)
  · refine ⟨ret_b ?_, rfl⟩
    have := of_decide_eq_true hb
    unfold nameB; rw [decide_eq_false (by omega)]; rfl
  refine Br.mk (fun hb2 => ?_) (fun hb2 => ?_)
  · refine ⟨ret_b ?_, rfl⟩
    have := of_decide_eq_true hb2
    unfold nameB; rw [decide_eq_false (by omega)]; rfl
  have hb := of_decide_eq_false hb
  have hb2 := of_decide_eq_false hb2
  refine LoopA.mk ⟨⟨[0, 2, 3], 0, 0⟩, fun n st => ∃ (i : Nat) (j : Int), st = ⟨[(0, .c (.v (.string s))), (2, .c .ff), (3, .c (.v (.int .i64 j)))], ⟨[], [], h⟩⟩ ∧ i ≤ s.size ∧ n = s.size - i ∧ j = i ∧ (∀ k : Nat, k < i → symC (bt s k) = true) ∧ (0 < i → letterB (bt s 0) = true), ⟨rfl, s.size, _, .refl _ _, 0, _, rfl, Nat.zero_le _, rfl, rfl, by simp, by simp⟩, ?_⟩
  rintro n _ ⟨i, j, rfl, hi, rfl, rfl, hall, h0⟩
  refine Br.mk (fun hl => ?_) (fun hl => ?_)
  · have hlt : i < s.size := by have := of_decide_eq_true hl; omega
    refine ⟨⟨by omega, by simpa using hlt⟩, ?_⟩
    have next : symC (bt s i) = true → ∀ k : Nat, k < i + 1 → symC (bt s k) = true := fun hs k hk => by
      by_cases e : k = i
      · rw [e]; exact hs
      · exact hall k (by omega)
    have next0 : (i = 0 → letterB (bt s i) = true) → 0 < i + 1 → letterB (bt s 0) = true := fun hs _ => by
      by_cases e : i = 0
      · subst e; exact hs rfl
      · exact h0 (by omega)
    clear h0 hall
    repeat' refine Br.mk (fun _ => ?_) (fun _ => ?_)
    all_goals first
      | refine ⟨ret_b (nameB_false' hlt ?_).symm, rfl⟩; clear next next0; simp [symC, letterB] at *; omega
      | exact ⟨rfl, s.size - (i + 1), by omega, _, .refl _ _, i + 1, _, rfl, by omega, rfl, by rw [wrap64] <;> omega, next (by clear next next0; simp [symC, letterB] at *; omega), next0 (by clear next next0; simp [symC, letterB] at *; omega)⟩
  · have he : i = s.size := by have := of_decide_eq_false hl; omega
    subst he
    exact ⟨ret_b (nameB_true (by omega) (by omega) (h0 (by omega)) hall).symm, rfl⟩

theorem rdeep_pure (v : Val) (hd : v.deep < 1000000) : PureA Tryd.prog 21 [.agg v.ac] (.c (.v (.int .i64 v.deep))) := by
  intro h
  refine callsA_of (D := D1 28 [] [] []) ty_ok mixed Tryd.func21 rfl (by kernel_rfl) (by kernel_rfl) (by simp [D1]) ?_
  intro g vs hr
  rw [Val.ac_eq] at hr ⊢
  have hlen : v.l.length ≤ lenMax := by have := sl_len hr; rwa [Val.acs_len] at this
  clear hr
  have hdd := deep_def v
  have hD : Val.deeps 0 v.l < 1000000 := by split at hdd <;> omega
  refine Br.mk (fun hk => ?_) (fun hk => ?_)
  · have hk : v.kind = 5 := eq_of_beq hk
    have start : ∀ (i : Nat), (0 : Int) = Val.deeps 0 (v.l.take 0) := fun _ => by simp [Val.deeps]
    refine LoopA.mk ⟨⟨[1, 2, 3, 4], 1, 0⟩, fun n st => ∃ (i : Nat) (m j : Int), st = ⟨[(1, .c (.loc 0 0)), (2, .c (.v (.int .i64 0))), (3, .c (.v (.int .i64 m))), (4, .c (.v (.int .i64 j)))], ⟨[(24, [.v (.int .i64 v.kind), .v (.int .i64 v.n), .v (.string v.s), .sl 4 (Val.acs v.l)])], [], h⟩⟩ ∧ i ≤ v.l.length ∧ n = v.l.length - i ∧ m = Val.deeps 0 (v.l.take i) ∧ j = i, ⟨rfl, v.l.length, _, .refl _ _, 0, _, _, rfl, by simp, by simp, by simp [Val.deeps], rfl⟩, ?_⟩
    rintro n _ ⟨i, m, j, rfl, hi, rfl, hm, rfl⟩
    refine Br.mk (fun hb => ?_) (fun hb => ?_)
    · have hlt : i < v.l.length := by simpa [Val.acs_len] using hb
      have hx : v.l[i]? = some v.l[i] := List.getElem?_eq_getElem hlt
      refine ⟨_, ⟨by omega, Val.acs_get hx⟩, ?_⟩
      have hmem : v.l[i] ∈ v.l := List.getElem_mem hlt
      have := deeps_mem v.l 0 _ hmem
      have hI := rdeep_pure v.l[i] (by omega)
      rw [Val.ac_eq] at hI
      refine ⟨_, hI, ?_⟩
      refine Br.mk (fun hg => ?_) (fun hg => ?_) <;> refine ⟨rfl, v.l.length - (i + 1), by omega, _, .refl _ _, i + 1, _, _, rfl, by omega, rfl, ?_, ?_⟩
      · have := of_decide_eq_true hg; rw [deeps_take _ _ _ hlt]; omega
      · rw [wrap64] <;> have := lt64 hlen <;> omega
      · have := of_decide_eq_false hg; rw [deeps_take _ _ _ hlt]; omega
      · rw [wrap64] <;> have := lt64 hlen <;> omega
    · have he : i = v.l.length := by have : ¬ i < v.l.length := by simpa [Val.acs_len] using hb
                                     omega
      subst he
      rw [List.take_length] at hm
      have hnn := deeps_ge v.l 0
      exact ⟨ret_i (by rw [wrap64 (by omega) (by omega), hm, hdd, if_pos (.inl hk)]), rfl⟩
  · have hk : ¬ v.kind = 5 := ne_of_beq_false hk
    refine LoopA.mk ⟨⟨[1, 2, 3, 4], 1, 0⟩, fun n st => ∃ (i : Nat) (m j : Int), st = ⟨[(1, .c (.loc 0 0)), (2, .c (.v (.int .i64 0))), (3, .c (.v (.int .i64 m))), (4, .c (.v (.int .i64 j)))], ⟨[(24, [.v (.int .i64 v.kind), .v (.int .i64 v.n), .v (.string v.s), .sl 4 (Val.acs v.l)])], [], h⟩⟩ ∧ i ≤ v.l.length ∧ n = v.l.length - i ∧ m = (if i = 0 then -1 else Val.deeps 0 (v.l.take i)) ∧ j = i, ⟨rfl, v.l.length, _, .refl _ _, 0, _, _, rfl, by simp, by simp, rfl, rfl⟩, ?_⟩
    rintro n _ ⟨i, m, j, rfl, hi, rfl, hm, rfl⟩
    refine Br.mk (fun hb => ?_) (fun hb => ?_)
    · have hlt : i < v.l.length := by simpa [Val.acs_len] using hb
      have hx : v.l[i]? = some v.l[i] := List.getElem?_eq_getElem hlt
      refine ⟨_, ⟨by omega, Val.acs_get hx⟩, ?_⟩
      have hmem : v.l[i] ∈ v.l := List.getElem_mem hlt
      have := deeps_mem v.l 0 _ hmem
      have hI := rdeep_pure v.l[i] (by omega)
      have hnn := Val.deep_nn v.l[i]
      have h0 : Val.deeps 0 (v.l.take 0) = 0 := by simp [Val.deeps]
      rw [Val.ac_eq] at hI
      refine ⟨_, hI, ?_⟩
      have hstep := deeps_take v.l i 0 hlt
      refine Br.mk (fun hg => ?_) (fun hg => ?_) <;> refine ⟨rfl, v.l.length - (i + 1), by omega, _, .refl _ _, i + 1, _, _, rfl, by omega, rfl, ?_, ?_⟩
      · have := of_decide_eq_true hg; rw [if_neg (by omega)]; by_cases e : i = 0
        · subst e; rw [h0] at hstep; omega
        · rw [if_neg e] at hm; omega
      · rw [wrap64] <;> have := lt64 hlen <;> omega
      · have := of_decide_eq_false hg; rw [if_neg (by omega)]; by_cases e : i = 0
        · subst e; rw [if_pos rfl] at hm; omega
        · rw [if_neg e] at hm; omega
      · rw [wrap64] <;> have := lt64 hlen <;> omega
    · have he : i = v.l.length := by have : ¬ i < v.l.length := by simpa [Val.acs_len] using hb
                                     omega
      subst he
      rw [List.take_length] at hm
      have hnn := deeps_ge v.l 0
      refine ⟨ret_i ?_, rfl⟩
      by_cases e : v.l = []
      · have e' : v.l.length = 0 := by rw [e]; rfl
        rw [if_pos e'] at hm
        rw [wrap64 (by omega) (by omega), hm, hdd, if_neg (by simp [hk, e]), e]; rfl
      · have e' : ¬ v.l.length = 0 := fun h => e (List.length_eq_zero_iff.1 h)
        rw [if_neg e'] at hm
        rw [wrap64 (by omega) (by omega), hm, hdd, if_pos (.inr e)]
termination_by v
decreasing_by all_goals exact Val.size_mem hmem

theorem count_pure (v : Val) (n d : Int) (h1 : v.nodes ≤ n) (h2 : v.deep ≤ d) (h3 : n < 1000000) (h4 : d < 1000000) : PureA Tryd.prog 20 [.agg v.ac, .c (.v (.int .i64 n)), .c (.v (.int .i64 d))] (.c (.v (.int .i64 (n - v.nodes)))) := by
  intro h
  refine callsA_of (D := D1 35 [] [] [12]) ty_ok mixed Tryd.func20 rfl (by kernel_rfl) (by kernel_rfl) (by simp [D1]) ?_
  intro g vs hr
  rw [Val.ac_eq] at hr ⊢
  have hlen : v.l.length ≤ lenMax := by have := sl_len hr; rwa [Val.acs_len] at this
  clear hr
  have hdd := deep_def v
  have hnn := deeps_ge v.l 0
  have hnd := nodes_def v
  have hns := Val.nodess_nn v.l
  have hD : v.l ≠ [] → Val.deeps 0 v.l + 1 ≤ d := fun hl => by rw [hdd, if_pos (.inr hl)] at h2; exact h2
  have hd0 : 0 ≤ d := by have := Val.deep_nn v; omega
  have hw : IntKind.i64.wrap (n - 1) = n - 1 := by rw [wrap64] <;> omega
  refine Br.mk (fun hb => by rw [hw] at hb; have := of_decide_eq_true hb; omega) (fun hb => ?_)
  refine Br.mk (fun hb2 => by have := of_decide_eq_true hb2; omega) (fun hb2 => ?_)
  refine LoopA.mk ⟨⟨[1, 2, 3, 6, 7], 1, 0⟩, fun k st => ∃ (i : Nat) (m j : Int), st = ⟨[(1, .c (.v (.int .i64 m))), (2, .c (.v (.int .i64 d))), (3, .c (.loc 0 0)), (6, .c (.v (.int .i64 0))), (7, .c (.v (.int .i64 j)))], ⟨[(24, [.v (.int .i64 v.kind), .v (.int .i64 v.n), .v (.string v.s), .sl 4 (Val.acs v.l)])], [], h⟩⟩ ∧ i ≤ v.l.length ∧ k = v.l.length - i ∧ m = n - 1 - Val.nodess (v.l.take i) ∧ j = i, ⟨rfl, v.l.length, _, .refl _ _, 0, _, _, rfl, by simp, by simp, by rw [hw]; simp [Val.nodess], rfl⟩, ?_⟩
  rintro k _ ⟨i, m, j, rfl, hi, rfl, hm, rfl⟩
  refine Br.mk (fun hb => ?_) (fun hb => ?_)
  · have hlt : i < v.l.length := by simpa [Val.acs_len] using hb
    have hx : v.l[i]? = some v.l[i] := List.getElem?_eq_getElem hlt
    refine ⟨_, ⟨by omega, Val.acs_get hx⟩, ?_⟩
    have hmem : v.l[i] ∈ v.l := List.getElem_mem hlt
    have hne : v.l ≠ [] := by intro e; rw [e] at hlt; simp at hlt
    have e1 := deeps_mem v.l 0 _ hmem
    have e2 := nodess_take v.l i hlt
    have e3 := nodess_mono v.l (i + 1)
    have e4 := Val.nodess_nn (v.l.take i)
    have e5 := Val.nodes_pos v.l[i]
    have e6 := hD hne
    have hI := count_pure v.l[i] m (d - 1) (by omega) (by omega) (by omega) (by omega)
    rw [Val.ac_eq] at hI
    have hwd : IntKind.i64.wrap (d - 1) = d - 1 := by rw [wrap64] <;> omega
    refine ⟨_, by rw [← hwd] at hI; exact hI, ?_⟩
    refine Br.mk (fun hg => by have := of_decide_eq_true hg; omega) (fun hg => ?_)
    refine ⟨rfl, v.l.length - (i + 1), by omega, _, .refl _ _, i + 1, _, _, rfl, by omega, rfl, by omega, ?_⟩
    rw [wrap64] <;> have := lt64 hlen <;> omega
  · have he : i = v.l.length := by have : ¬ i < v.l.length := by simpa [Val.acs_len] using hb
                                   omega
    subst he
    rw [List.take_length] at hm
    exact ⟨ret_i (by omega), rfl⟩
termination_by v
decreasing_by all_goals exact Val.size_mem hmem

theorem rnodes_pure (v : Val) (h1 : v.nodes ≤ 1001) (h2 : v.deep ≤ 1000) : PureA Tryd.prog 49 [.agg v.ac] (.c (.v (.int .i64 v.nodes))) := by
  intro h
  refine callsA_of (D := D1 6 [] [] []) ty_ok mixed Tryd.func49 rfl (by kernel_rfl) (by kernel_rfl) (by simp [D1]) ?_
  intro g vs hr
  clear hr
  have hc := count_pure v 1001 1000 h1 h2 (by omega) (by omega)
  have hp := Val.nodes_pos v
  rw [Val.ac_eq] at hc ⊢
  refine ⟨_, hc, ?_⟩
  exact ⟨ret_i (by rw [wrap64] <;> omega), rfl⟩
theorem symbol_pure (s : ByteArray) : PureA Tryd.prog 17 [.c (.v (.string s))] (.agg [.v (.int .i64 3), .v (.int .i64 0), .v (.string s), .nil]) := by
  intro h
  refine callsA_of (D := D1 5 [] [] []) ty_ok mixed Tryd.func17 rfl (by kernel_rfl) (by kernel_rfl) (by simp [D1]) ?_
  intro g vs hr
  exact ⟨rfl, rfl⟩
theorem int_pure (n : Int) : PureA Tryd.prog 19 [.c (.v (.int .i64 n))] (.agg [.v (.int .i64 2), .v (.int .i64 n), .v (.string ⟨#[]⟩), .nil]) := by
  intro h
  refine callsA_of (D := D1 5 [] [] []) ty_ok mixed Tryd.func19 rfl (by kernel_rfl) (by kernel_rfl) (by simp [D1]) ?_
  intro g vs hr
  exact ⟨rfl, rfl⟩
end Go.Proofs.YtdgjpncflkpjfaaDoor
