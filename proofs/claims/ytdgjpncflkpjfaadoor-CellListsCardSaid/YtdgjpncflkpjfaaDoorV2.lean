/- The contracts of package value, second part: right values. -/
import Derived.Test.YtdgjpncflkpjfaaDoorV1
set_option linter.unusedVariables false
set_option linter.unusedSimpArgs false
namespace Go.Proofs.YtdgjpncflkpjfaaDoor
open Aw

def singleB (u8B : ByteArray → Bool) (k n : Int) (s : ByteArray) (len : Nat) : Bool :=
  if k = 0 then decide (n = 0) && decide (s.size = 0)
  else if k = 1 then (decide (n = 0) || decide (n = 1)) && decide (s.size = 0)
  else if k = 2 then decide (s.size = 0)
  else if k = 3 then decide (n = 0) && nameB s
  else if k = 4 then decide (n = 0) && decide (s.size ≤ 200) && u8B s
  else if k = 5 then decide (n = 0) && decide (s.size = 0) && decide (len ≤ 20)
  else false
mutual
def Val.parts (u8B : ByteArray → Bool) : Val → Bool
  | ⟨k, n, s, l⟩ => singleB u8B k n s l.length && (decide (k = 5) || decide (l.length = 0)) && Val.partss u8B l
def Val.partss (u8B : ByteArray → Bool) : List Val → Bool
  | [] => true
  | x :: xs => x.parts u8B && Val.partss u8B xs
end
theorem parts_def (u8B : ByteArray → Bool) (v : Val) : v.parts u8B = (singleB u8B v.kind v.n v.s v.l.length && (decide (v.kind = 5) || decide (v.l.length = 0)) && Val.partss u8B v.l) := by cases v; rfl
theorem partss_all (u8B : ByteArray → Bool) : ∀ l : List Val, Val.partss u8B l = l.all (Val.parts u8B)
  | [] => rfl
  | x :: xs => by simp [Val.partss, partss_all u8B xs]

def ValidOk (u8B : ByteArray → Bool) : Prop := ∀ s : ByteArray, s.size ≤ 200 → PureA Tryd.prog 51 [.c (.v (.string s))] (.c (.v (.bool (u8B s))))

set_option maxRecDepth 4000 in
theorem single_pure {u8B : ByteArray → Bool} (hu : ValidOk u8B) (v : Val) : PureA Tryd.prog 50 [.agg v.ac] (.c (.v (.bool (singleB u8B v.kind v.n v.s v.l.length)))) := by
  intro h
  refine callsA_of (D := D0 77 []) ty_ok mixed Tryd.func50 rfl (by kernel_rfl) (by kernel_rfl) (by simp [D0]) ?_
  intro g vs hr
  clear hr
  rw [Val.ac_eq]
  have hu : ∀ s : ByteArray, decide ((s.size : Int) ≤ 200) = true → PureA Tryd.prog 51 [.c (.v (.string s))] (.c (.v (.bool (u8B s)))) := fun s hs => hu s (by simpa using (Int.ofNat_le.1 (of_decide_eq_true hs)))
  repeat' first
    | refine Br.mk (fun _ => ?_) (fun _ => ?_)
    | refine ⟨_, isName_pure _, ?_⟩
    | refine ⟨_, hu _ (by assumption), ?_⟩
  all_goals
    refine ⟨ret_b ?_, rfl⟩
    try simp only [toList_empty, Val.acs_len] at *
    unfold singleB
    have hint : ∀ a b : Int, (a == b) = decide (a = b) := fun a b => rfl
    simp_all [Int.ofNat_le]
    try omega

theorem parts_pure {u8B : ByteArray → Bool} (hu : ValidOk u8B) (v : Val) : PureA Tryd.prog 28 [.agg v.ac] (.c (.v (.bool (v.parts u8B)))) := by
  intro h
  refine callsA_of (D := D0 30 []) ty_ok mixed Tryd.func28 rfl (by kernel_rfl) (by kernel_rfl) (by simp [D0]) ?_
  intro g vs hr
  have hs := single_pure hu v
  rw [Val.ac_eq] at hr hs ⊢
  have hlen : v.l.length ≤ lenMax := by have := sl_len hr; rwa [Val.acs_len] at this
  refine ⟨_, hs, ?_⟩
  have hdef := parts_def u8B v
  have hall := partss_all u8B v.l
  refine Br.mk (fun h1 => ?_) (fun h1 => ?_)
  · refine Br.mk (fun h2 => Br.mk (fun h3 => ?_) (fun h3 => ?_)) (fun h2 => ?_)
    · refine ⟨ret_b ?_, rfl⟩
      have h2 : ¬ v.kind = 5 := by simpa using h2
      have h3 : ¬ v.l.length = 0 := by have : (0 : Int) < (Val.acs v.l).length := by simpa using h3
                                       rw [Val.acs_len] at this; omega
      rw [hdef, h1, decide_eq_false h2, decide_eq_false h3]; rfl
    · have hk : (decide (v.kind = 5) || decide (v.l.length = 0)) = true := by
        have h3 : ¬ (0 : Int) < (Val.acs v.l).length := by simpa using h3
        rw [Val.acs_len] at h3
        have : v.l.length = 0 := by omega
        rw [decide_eq_true this, Bool.or_true]
      refine LoopA.mk ⟨⟨[2, 20, 21, 22], 1, 0⟩, fun n st => ∃ (i : Nat) (j : Int), st = ⟨[(2, .c .ff), (20, .c (.sl 4 (Val.acs v.l))), (21, .c (.v (.int .i64 (Val.acs v.l).length))), (22, .c (.v (.int .i64 j)))], ⟨[(24, [.v (.int .i64 v.kind), .v (.int .i64 v.n), .v (.string v.s), .sl 4 (Val.acs v.l)])], [], h⟩⟩ ∧ i ≤ v.l.length ∧ n = v.l.length - i ∧ j = i ∧ ∀ (k : Nat) x, k < i → v.l[k]? = some x → x.parts u8B = true, ⟨rfl, v.l.length, _, .refl _ _, 0, _, rfl, by simp, by simp, rfl, by simp⟩, ?_⟩
      rintro n _ ⟨i, j, rfl, hi, rfl, rfl, hprev⟩
      refine Br.mk (fun hb => ?_) (fun hb => ?_)
      · have hlt : i < v.l.length := by simpa [Val.acs_len] using hb
        have hx : v.l[i]? = some v.l[i] := List.getElem?_eq_getElem hlt
        refine ⟨_, ⟨by omega, Val.acs_get hx⟩, ?_⟩
        have hmem : v.l[i] ∈ v.l := List.getElem_mem hlt
        have hI := parts_pure hu v.l[i]
        rw [Val.ac_eq] at hI
        refine ⟨_, hI, ?_⟩
        refine Br.mk (fun hp => ?_) (fun hp => ?_)
        · refine ⟨rfl, v.l.length - (i + 1), by omega, _, .refl _ _, i + 1, _, rfl, by omega, rfl, ?_, ?_⟩
          · rw [wrap64] <;> have := lt64 hlen <;> omega
          · intro k x hk hx'
            by_cases e : k = i
            · subst e; rw [hx] at hx'; cases hx'; exact hp
            · exact hprev k x (by omega) hx'
        · refine ⟨ret_b ?_, rfl⟩
          rw [hdef, hall]
          refine (Bool.and_eq_false_iff.2 ?_).symm
          exact .inr (List.all_eq_false.2 ⟨_, hmem, by simp [hp]⟩)
      · have he : i = v.l.length := by have : ¬ i < v.l.length := by simpa [Val.acs_len] using hb
                                       omega
        refine ⟨ret_b ?_, rfl⟩
        rw [hdef, h1, hk, hall]
        have : v.l.all (Val.parts u8B) = true := List.all_eq_true.2 fun x hx => by
          obtain ⟨k, hk, rfl⟩ := List.getElem_of_mem hx
          exact hprev k _ (by omega) (List.getElem?_eq_getElem hk)
        rw [this]; rfl
    · have hk : (decide (v.kind = 5) || decide (v.l.length = 0)) = true := by
        have h2 : v.kind = 5 := by simpa using h2
        rw [decide_eq_true h2, Bool.true_or]
      refine LoopA.mk ⟨⟨[2, 20, 21, 22], 1, 0⟩, fun n st => ∃ (i : Nat) (j : Int), st = ⟨[(2, .c .ff), (20, .c (.sl 4 (Val.acs v.l))), (21, .c (.v (.int .i64 (Val.acs v.l).length))), (22, .c (.v (.int .i64 j)))], ⟨[(24, [.v (.int .i64 v.kind), .v (.int .i64 v.n), .v (.string v.s), .sl 4 (Val.acs v.l)])], [], h⟩⟩ ∧ i ≤ v.l.length ∧ n = v.l.length - i ∧ j = i ∧ ∀ (k : Nat) x, k < i → v.l[k]? = some x → x.parts u8B = true, ⟨rfl, v.l.length, _, .refl _ _, 0, _, rfl, by simp, by simp, rfl, by simp⟩, ?_⟩
      rintro n _ ⟨i, j, rfl, hi, rfl, rfl, hprev⟩
      refine Br.mk (fun hb => ?_) (fun hb => ?_)
      · have hlt : i < v.l.length := by simpa [Val.acs_len] using hb
        have hx : v.l[i]? = some v.l[i] := List.getElem?_eq_getElem hlt
        refine ⟨_, ⟨by omega, Val.acs_get hx⟩, ?_⟩
        have hmem : v.l[i] ∈ v.l := List.getElem_mem hlt
        have hI := parts_pure hu v.l[i]
        rw [Val.ac_eq] at hI
        refine ⟨_, hI, ?_⟩
        refine Br.mk (fun hp => ?_) (fun hp => ?_)
        · refine ⟨rfl, v.l.length - (i + 1), by omega, _, .refl _ _, i + 1, _, rfl, by omega, rfl, ?_, ?_⟩
          · rw [wrap64] <;> have := lt64 hlen <;> omega
          · intro k x hk hx'
            by_cases e : k = i
            · subst e; rw [hx] at hx'; cases hx'; exact hp
            · exact hprev k x (by omega) hx'
        · refine ⟨ret_b ?_, rfl⟩
          rw [hdef, hall]
          refine (Bool.and_eq_false_iff.2 ?_).symm
          exact .inr (List.all_eq_false.2 ⟨_, hmem, by simp [hp]⟩)
      · have he : i = v.l.length := by have : ¬ i < v.l.length := by simpa [Val.acs_len] using hb
                                       omega
        refine ⟨ret_b ?_, rfl⟩
        rw [hdef, h1, hk, hall]
        have : v.l.all (Val.parts u8B) = true := List.all_eq_true.2 fun x hx => by
          obtain ⟨k, hk, rfl⟩ := List.getElem_of_mem hx
          exact hprev k _ (by omega) (List.getElem?_eq_getElem hk)
        rw [this]; rfl
  · refine ⟨ret_b ?_, rfl⟩
    rw [hdef, h1]; rfl
termination_by v
decreasing_by all_goals exact Val.size_mem hmem

def rightB (u8B : ByteArray → Bool) (v : Val) : Bool := decide (v.deep ≤ 4) && decide (v.nodes ≤ 100) && v.parts u8B
theorem right_pure {u8B : ByteArray → Bool} (hu : ValidOk u8B) (v : Val) (hd : v.deep < 1000000) (hn : v.nodes < 1000000) : PureA Tryd.prog 12 [.agg v.ac] (.c (.v (.bool (rightB u8B v)))) := by
  intro h
  refine callsA_of (D := D0 15 []) ty_ok mixed Tryd.func12 rfl (by kernel_rfl) (by kernel_rfl) (by simp [D0]) ?_
  intro g vs hr
  clear hr
  have h1 := deep_pure v hd
  have h2 := nodes_pure v hn
  have h3 := parts_pure hu v
  rw [Val.ac_eq] at h1 h2 h3 ⊢
  refine ⟨_, h1, Br.mk (fun h4 => ⟨_, h2, Br.mk (fun h5 => ⟨_, h3, Br.mk (fun h6 => ?_) (fun h6 => ?_)⟩) (fun h5 => ?_)⟩) (fun h4 => ?_)⟩ <;> refine ⟨ret_b ?_, rfl⟩ <;> simp_all [rightB] <;> intros <;> omega
end Go.Proofs.YtdgjpncflkpjfaaDoor
