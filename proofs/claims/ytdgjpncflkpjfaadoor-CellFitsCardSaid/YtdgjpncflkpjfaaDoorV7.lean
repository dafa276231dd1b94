/- The contracts of douaneref03: each, Right. -/
import Derived.Test.YtdgjpncflkpjfaaDoorV6
set_option linter.unusedVariables false
set_option linter.unusedSimpArgs false
namespace Go.Proofs.YtdgjpncflkpjfaaDoor
open Aw

def RValidOk (u8B : ByteArray → Bool) : Prop := ∀ s : ByteArray, s.size ≤ 200 → PureA Tryd.prog 68 [.c (.v (.string s))] (.c (.v (.bool (u8B s))))

structure PartsP (u8B : ByteArray → Bool) (v : Val) : Prop where
  k0 : 0 ≤ v.kind
  k5 : v.kind ≤ 5
  l : v.kind ≠ 5 → v.l.length = 0
  s : v.kind ≠ 3 → v.kind ≠ 4 → v.s.size = 0
  n : v.kind ≠ 2 → v.n ≠ 0 → v.kind = 1 ∧ v.n = 1
  sym : v.kind = 3 → nameB v.s = true
  str : v.kind = 4 → v.s.size ≤ 200 ∧ u8B v.s = true
  len : v.l.length ≤ 20

theorem single_iff (u8B : ByteArray → Bool) (v : Val) : (singleB u8B v.kind v.n v.s v.l.length && (decide (v.kind = 5) || decide (v.l.length = 0))) = true ↔ PartsP u8B v := by
  have hk : v.kind = 0 ∨ v.kind = 1 ∨ v.kind = 2 ∨ v.kind = 3 ∨ v.kind = 4 ∨ v.kind = 5 ∨ (v.kind < 0 ∨ 5 < v.kind) := by omega
  unfold singleB
  rcases hk with e | e | e | e | e | e | e
  · simp only [e]; simp; constructor
    · rintro ⟨⟨h1, h2⟩, h3⟩; constructor <;> simp_all
    · intro h; have := h.l; have := h.s; have := h.n; simp_all
  · simp only [e]; simp; constructor
    · rintro ⟨⟨h1, h2⟩, h3⟩; constructor <;> simp_all <;> omega
    · intro h; have := h.l; have := h.s; have := h.n; simp_all; omega
  · simp only [e]; simp; constructor
    · rintro ⟨h2, h3⟩; constructor <;> simp_all
    · intro h; have := h.l; have := h.s; simp_all
  · simp only [e]; simp; constructor
    · rintro ⟨⟨h1, h2⟩, h3⟩; constructor <;> simp_all
    · intro h; have := h.l; have := h.sym; have := h.n; simp_all
  · simp only [e]; simp; constructor
    · rintro ⟨⟨⟨h1, h2⟩, h4⟩, h3⟩; constructor <;> simp_all
    · intro h; have := h.l; have := h.str; have := h.n; simp_all
  · simp only [e]; simp; constructor
    · rintro ⟨⟨h1, h2⟩, h4⟩; constructor <;> simp_all
    · intro h; have := h.len; have := h.s; have := h.n; simp_all
  · rw [if_neg (by omega), if_neg (by omega), if_neg (by omega), if_neg (by omega), if_neg (by omega), if_neg (by omega)]
    simp; intro h; have := h.k0; have := h.k5; omega
theorem parts_iff (u8B : ByteArray → Bool) (v : Val) : v.parts u8B = true ↔ PartsP u8B v ∧ ∀ x ∈ v.l, x.parts u8B = true := by
  rw [parts_def, Bool.and_eq_true, single_iff, partss_all, List.all_eq_true]
theorem parts_no {u8B : ByteArray → Bool} {v : Val} (h : PartsP u8B v → False) : v.parts u8B = false :=
  Bool.eq_false_iff.2 fun hp => h ((parts_iff u8B v).1 hp).1

set_option maxRecDepth 8000 in
set_option maxHeartbeats 1000000 in
theorem each_pure {u8B : ByteArray → Bool} (hu : RValidOk u8B) (v : Val) : PureA Tryd.prog 48 [.agg v.ac] (.c (.v (.bool (v.parts u8B)))) := by
  intro h
  refine callsA_ofS (D := D1 103 [] [] [7, 12, 16, 23, 27, 32, 41, 46, 50, 60, 66, 70, 75, 83]) ty_ok mixed Tryd.func48 rfl (by kernel_rfl) (by kernel_rfl) (by simp [D1]) ?_
  intro g vs hr
  have hu : ∀ s : ByteArray, decide ((s.size : Int) > 200) = false → PureA Tryd.prog 68 [.c (.v (.string s))] (.c (.v (.bool (u8B s)))) := fun s hs => hu s (by have := of_decide_eq_false hs; omega)
  rw [Val.ac_eq] at hr ⊢
  have hlen : v.l.length ≤ lenMax := by have := sl_len hr; rwa [Val.acs_len] at this
  clear hr
  refine Awp.seq (awp1 ?_)
  refine (Awp.cut ⟨[1, 2], 1, 0⟩ (fun st => st = ⟨[(1, .c (.loc 0 0)), (2, .c .ff)], ⟨[(24, [.v (.int .i64 v.kind), .v (.int .i64 v.n), .v (.string v.s), .sl 4 (Val.acs v.l)])], [], h⟩⟩ ∧ 0 ≤ v.kind ∧ v.kind ≤ 5 ∧ (v.kind ≠ 5 → v.l.length = 0) ∧ (v.kind ≠ 3 → v.kind ≠ 4 → v.s.size = 0)) (awp1 ?_) ?_ : Awp _ _ _ _)
  · repeat' refine Br.mk (fun _ => ?_) (fun _ => ?_)
    all_goals first
      | refine ⟨ret_b (parts_no fun hp => ?_).symm, rfl⟩; have h1 := hp.k0; have h2 := hp.k5; have h3 := hp.l; have h4 := hp.s; clear hu hp
        try simp only [Val.acs_len, toList_empty] at *
        generalize v.l.length = L at *
        generalize v.s.size = S at *
        simp at *; omega
      | refine ⟨rfl, _, .refl _ _, rfl, ?_⟩; clear hu
        try simp only [Val.acs_len, toList_empty] at *
        generalize v.l.length = L at *
        generalize v.s.size = S at *
        refine ⟨?_, ?_, ?_, ?_⟩ <;> simp at * <;> omega
  rintro _ ⟨rfl, p1, p2, p3, p4⟩
  refine (Awp.cut ⟨[1, 2], 1, 0⟩ (fun st => st = ⟨[(1, .c (.loc 0 0)), (2, .c .ff)], ⟨[(24, [.v (.int .i64 v.kind), .v (.int .i64 v.n), .v (.string v.s), .sl 4 (Val.acs v.l)])], [], h⟩⟩ ∧ (v.kind ≠ 2 → v.n ≠ 0 → v.kind = 1 ∧ v.n = 1)) (awp1 ?_) ?_ : Awp _ _ _ _)
  · repeat' refine Br.mk (fun _ => ?_) (fun _ => ?_)
    all_goals first
      | refine ⟨ret_b (parts_no fun hp => ?_).symm, rfl⟩; have h1 := hp.n; clear hu hp; simp at *; omega
      | refine ⟨rfl, _, .refl _ _, rfl, ?_⟩ <;> clear hu <;> simp at * <;> omega
  rintro _ ⟨rfl, p5⟩
  refine (Awp.cut ⟨[1, 2], 1, 0⟩ (fun st => st = ⟨[(1, .c (.loc 0 0)), (2, .c .ff)], ⟨[(24, [.v (.int .i64 v.kind), .v (.int .i64 v.n), .v (.string v.s), .sl 4 (Val.acs v.l)])], [], h⟩⟩ ∧ PartsP u8B v) (awp1 ?_) ?_ : Awp _ _ _ _)
  · repeat' first
      | refine Br.mk (fun _ => ?_) (fun _ => ?_)
      | refine ⟨_, risName_pure _, ?_⟩
      | refine ⟨_, hu _ (by assumption), ?_⟩
    all_goals first
      | refine ⟨ret_b (parts_no fun hp => ?_).symm, rfl⟩; have h1 := hp.sym; have h2 := hp.str; have h3 := hp.len; clear hu hp p3 p4 p5
        try simp only [Val.acs_len, toList_empty] at *
        generalize v.l.length = L at *
        generalize v.s.size = S at *
        simp at *; first | omega | (simp_all; done) | (simp_all; omega)
      | refine ⟨rfl, _, .refl _ _, rfl, ?_⟩; refine ⟨p1, p2, p3, p4, p5, ?_, ?_, ?_⟩ <;> clear hu p3 p4 p5
        all_goals
          try simp only [Val.acs_len, toList_empty] at *
          generalize v.l.length = L at *
          generalize v.s.size = S at *
          simp at * <;> first | omega | (simp_all; done) | (simp_all; omega)
  rintro _ ⟨rfl, pp⟩
  refine awp1 ?_
  refine LoopA.mk ⟨⟨[1, 2, 3], 1, 0⟩, fun n st => ∃ (i : Nat) (j : Int), st = ⟨[(1, .c (.loc 0 0)), (2, .c .ff), (3, .c (.v (.int .i64 j)))], ⟨[(24, [.v (.int .i64 v.kind), .v (.int .i64 v.n), .v (.string v.s), .sl 4 (Val.acs v.l)])], [], h⟩⟩ ∧ i ≤ v.l.length ∧ n = v.l.length - i ∧ j = i ∧ ∀ (k : Nat) x, k < i → v.l[k]? = some x → x.parts u8B = true, ⟨rfl, v.l.length, _, .refl _ _, 0, _, rfl, by simp, by simp, rfl, by simp⟩, ?_⟩
  rintro n _ ⟨i, j, rfl, hi, rfl, rfl, hprev⟩
  refine Br.mk (fun hb => ?_) (fun hb => ?_)
  · have hlt : i < v.l.length := by simpa [Val.acs_len] using hb
    have hx : v.l[i]? = some v.l[i] := List.getElem?_eq_getElem hlt
    refine ⟨_, ⟨by omega, Val.acs_get hx⟩, ?_⟩
    have hmem : v.l[i] ∈ v.l := List.getElem_mem hlt
    have hI := each_pure (fun s hs => hu s (by rw [decide_eq_false]; omega)) v.l[i]
    rw [Val.ac_eq] at hI
    refine ⟨_, hI, ?_⟩
    refine Br.mk (fun hp => ?_) (fun hp => ?_)
    · have hp : v.l[i].parts u8B = false := by simpa using hp
      refine ⟨ret_b (Bool.eq_false_iff.2 fun hh => ?_).symm, rfl⟩
      have := ((parts_iff u8B v).1 hh).2 _ hmem
      rw [hp] at this; cases this
    · have hp : v.l[i].parts u8B = true := by simpa using hp
      refine ⟨rfl, v.l.length - (i + 1), by omega, _, .refl _ _, i + 1, _, rfl, by omega, rfl, ?_, ?_⟩
      · rw [wrap64] <;> have := lt64 hlen <;> omega
      · intro k x hk hx'
        by_cases e : k = i
        · subst e; rw [hx] at hx'; cases hx'; exact hp
        · exact hprev k x (by omega) hx'
  · have he : i = v.l.length := by have : ¬ i < v.l.length := by simpa [Val.acs_len] using hb
                                   omega
    refine ⟨ret_b ?_, rfl⟩
    exact ((parts_iff u8B v).2 ⟨pp, fun x hx => by
      obtain ⟨k, hk, rfl⟩ := List.getElem_of_mem hx
      exact hprev k _ (by omega) (List.getElem?_eq_getElem hk)⟩).symm
termination_by v
decreasing_by all_goals exact Val.size_mem hmem

theorem rright_pure {u8B : ByteArray → Bool} (hu : RValidOk u8B) (v : Val) (hd : v.deep < 1000000) (hn : v.nodes ≤ 1001) : PureA Tryd.prog 24 [.agg v.ac] (.c (.v (.bool (rightB u8B v)))) := by
  intro h
  refine callsA_of (D := D0 15 []) ty_ok mixed Tryd.func24 rfl (by kernel_rfl) (by kernel_rfl) (by simp [D0]) ?_
  intro g vs hr
  clear hr
  have h1 := rdeep_pure v hd
  have h2 := fun h => rnodes_pure v hn (Int.le_trans h (by decide : (4 : Int) ≤ 1000))
  have h3 := each_pure hu v
  rw [Val.ac_eq] at h1 h2 h3 ⊢
  refine ⟨_, h3, Br.mk (fun h4 => ⟨_, h1, Br.mk (fun h5 => ⟨_, h2 (of_decide_eq_true h5), Br.mk (fun h6 => ?_) (fun h6 => ?_)⟩) (fun h5 => ?_)⟩) (fun h4 => ?_)⟩ <;> refine ⟨ret_b ?_, rfl⟩ <;> clear h1 h2 h3 hu <;> simp_all [rightB] <;> intros <;> omega
end Go.Proofs.YtdgjpncflkpjfaaDoor
