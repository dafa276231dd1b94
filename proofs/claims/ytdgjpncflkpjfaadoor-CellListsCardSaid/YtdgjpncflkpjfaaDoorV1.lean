/- The contracts of package value, first part. -/
import Derived.Test.YtdgjpncflkpjfaaDoorV0
set_option linter.unusedVariables false
set_option linter.unusedSimpArgs false
namespace Go.Proofs.YtdgjpncflkpjfaaDoor
open Aw

mutual
def Val.deep : Val → Int
  | ⟨k, n, s, l⟩ => Val.deeps 0 l + if k = 5 ∨ l ≠ [] then 1 else 0
def Val.deeps : Int → List Val → Int
  | m, [] => m
  | m, x :: xs => Val.deeps (max m x.deep) xs
end
mutual
def Val.nodes : Val → Int
  | ⟨k, n, s, l⟩ => 1 + Val.nodess l
def Val.nodess : List Val → Int
  | [] => 0
  | x :: xs => x.nodes + Val.nodess xs
end
theorem deeps_ge : ∀ (l : List Val) (m : Int), m ≤ Val.deeps m l
  | [], m => Int.le_refl _
  | x :: l, m => by simp only [Val.deeps]; have := deeps_ge l (max m x.deep); omega
theorem deeps_mem : ∀ (l : List Val) (m : Int), ∀ x ∈ l, x.deep ≤ Val.deeps m l
  | x :: l, m, y, h => by
    simp only [Val.deeps]
    rcases List.mem_cons.1 h with e | h
    · subst e; have := deeps_ge l (max m y.deep); omega
    · exact deeps_mem l _ y h
theorem deeps_take (l : List Val) (i : Nat) (m : Int) (h : i < l.length) : Val.deeps m (l.take (i + 1)) = max (Val.deeps m (l.take i)) l[i].deep := by
  induction l generalizing i m with
  | nil => simp at h
  | cons x l ih =>
    cases i with
    | zero => simp [Val.deeps]
    | succ i => simpa [Val.deeps] using ih i (max m x.deep) (by simpa using h)
theorem deeps_mono (l : List Val) (i : Nat) (m : Int) : Val.deeps m (l.take i) ≤ Val.deeps m l := by
  induction l generalizing i m with
  | nil => simp
  | cons x l ih =>
    cases i with
    | zero => simp [Val.deeps]; have := deeps_ge l (max m x.deep); omega
    | succ i => simpa [Val.deeps] using ih i (max m x.deep)
mutual
theorem Val.deep_nn : ∀ v : Val, 0 ≤ v.deep
  | ⟨k, n, s, l⟩ => by have := deeps_ge l 0; simp only [Val.deep]; split <;> omega
end
theorem nodess_take (l : List Val) (i : Nat) (h : i < l.length) : Val.nodess (l.take (i + 1)) = Val.nodess (l.take i) + l[i].nodes := by
  induction l generalizing i with
  | nil => simp at h
  | cons x l ih =>
    cases i with
    | zero => simp [Val.nodess]
    | succ i => have := ih i (by simpa using h); simp [Val.nodess, this]; omega
mutual
theorem Val.nodes_pos : ∀ v : Val, 1 ≤ v.nodes
  | ⟨k, n, s, l⟩ => by have := Val.nodess_nn l; simp only [Val.nodes]; omega
theorem Val.nodess_nn : ∀ l : List Val, 0 ≤ Val.nodess l
  | [] => by simp [Val.nodess]
  | x :: l => by have := Val.nodes_pos x; have := Val.nodess_nn l; simp only [Val.nodess]; omega
end
theorem nodess_mem : ∀ (l : List Val), ∀ x ∈ l, x.nodes ≤ Val.nodess l
  | x :: l, y, h => by
    simp only [Val.nodess]
    rcases List.mem_cons.1 h with e | h
    · subst e; have := Val.nodess_nn l; omega
    · have := nodess_mem l y h; have := Val.nodes_pos x; omega
theorem nodess_mono (l : List Val) (i : Nat) : Val.nodess (l.take i) ≤ Val.nodess l := by
  induction l generalizing i with
  | nil => simp
  | cons x l ih =>
    cases i with
    | zero => simp [Val.nodess]; have := Val.nodess_nn l; have := Val.nodes_pos x; omega
    | succ i => simpa [Val.nodess] using ih i
theorem deep_def (v : Val) : v.deep = Val.deeps 0 v.l + if v.kind = 5 ∨ v.l ≠ [] then 1 else 0 := by cases v; rfl
theorem nodes_def (v : Val) : v.nodes = 1 + Val.nodess v.l := by cases v; rfl

theorem deep_pure (v : Val) (hd : v.deep < 1000000) : PureA Tryd.prog 26 [.agg v.ac] (.c (.v (.int .i64 v.deep))) := by
  intro h
  refine callsA_of (D := D0 30 []) ty_ok mixed Tryd.func26 rfl (by kernel_rfl) (by kernel_rfl) (by simp [D0]) ?_
  intro g vs hr
  rw [Val.ac_eq] at hr ⊢
  have hlen : v.l.length ≤ lenMax := by have := sl_len hr; rwa [Val.acs_len] at this
  have hdd := deep_def v
  have hD : Val.deeps 0 v.l < 1000000 := by split at hdd <;> omega
  refine LoopA.mk ⟨⟨[1, 2, 3, 7, 8, 9], 1, 0⟩, fun n st => ∃ (i : Nat) (m j : Int), st = ⟨[(1, .c (.loc 0 0)), (2, .c (.v (.int .i64 0))), (3, .c (.v (.int .i64 m))), (7, .c (.sl 4 (Val.acs v.l))), (8, .c (.v (.int .i64 (Val.acs v.l).length))), (9, .c (.v (.int .i64 j)))], ⟨[(24, [.v (.int .i64 v.kind), .v (.int .i64 v.n), .v (.string v.s), .sl 4 (Val.acs v.l)])], [], h⟩⟩ ∧ i ≤ v.l.length ∧ n = v.l.length - i ∧ m = Val.deeps 0 (v.l.take i) ∧ j = i, ⟨rfl, v.l.length, _, .refl _ _, 0, _, _, rfl, by simp, by simp, by simp [Val.deeps], rfl⟩, ?_⟩
  rintro n _ ⟨i, m, j, rfl, hi, rfl, hm, rfl⟩
  refine Br.mk (fun hb => ?_) (fun hb => ?_)
  · have hlt : i < v.l.length := by simpa [Val.acs_len] using hb
    have hx : v.l[i]? = some v.l[i] := List.getElem?_eq_getElem hlt
    refine ⟨_, ⟨by omega, Val.acs_get hx⟩, ?_⟩
    have hmem : v.l[i] ∈ v.l := List.getElem_mem hlt
    have := deeps_mem v.l 0 _ hmem
    have hI := deep_pure v.l[i] (by omega)
    rw [Val.ac_eq] at hI
    refine ⟨_, hI, rfl, v.l.length - (i + 1), by omega, _, .refl _ _, i + 1, _, _, rfl, by omega, rfl, ?_, ?_⟩
    · rw [deeps_take _ _ _ hlt, hm]; split <;> omega
    · rw [wrap64] <;> have := lt64 hlen <;> omega
  · have he : i = v.l.length := by have : ¬ i < v.l.length := by simpa [Val.acs_len] using hb
                                   omega
    subst he
    rw [List.take_length] at hm
    have hnn := deeps_ge v.l 0
    refine Br.mk (fun hk => ?_) (fun hk => ?_)
    · refine ⟨ret_i ?_, rfl⟩
      have : v.kind = 5 := by simpa using hk
      rw [wrap64 (by omega) (by omega), hm, hdd, if_pos (.inl this)]
    · refine Br.mk (fun hk2 => ?_) (fun hk2 => ?_)
      · refine ⟨ret_i ?_, rfl⟩
        have : v.l ≠ [] := by intro e; rw [e] at hk2; simp [Val.acs] at hk2
        rw [wrap64 (by omega) (by omega), hm, hdd, if_pos (.inr this)]
      · refine ⟨ret_i ?_, rfl⟩
        have h1 : ¬ v.kind = 5 := by simpa using hk
        have h2 : v.l = [] := by
          have : ¬ (0 : Int) < (Val.acs v.l).length := by simpa using hk2
          rw [Val.acs_len] at this
          exact List.length_eq_zero_iff.1 (by omega)
        rw [hm, hdd, if_neg (by simp [h1, h2])]; omega
termination_by v
decreasing_by exact Val.size_mem hmem

theorem nodes_pure (v : Val) (hd : v.nodes < 1000000) : PureA Tryd.prog 27 [.agg v.ac] (.c (.v (.int .i64 v.nodes))) := by
  intro h
  refine callsA_of (D := D0 19 []) ty_ok mixed Tryd.func27 rfl (by kernel_rfl) (by kernel_rfl) (by simp [D0]) ?_
  intro g vs hr
  rw [Val.ac_eq] at hr ⊢
  have hlen : v.l.length ≤ lenMax := by have := sl_len hr; rwa [Val.acs_len] at this
  have hdd := nodes_def v
  refine LoopA.mk ⟨⟨[1, 2, 3, 7, 8, 9], 1, 0⟩, fun n st => ∃ (i : Nat) (m j : Int), st = ⟨[(1, .c (.loc 0 0)), (2, .c (.v (.int .i64 0))), (3, .c (.v (.int .i64 m))), (7, .c (.sl 4 (Val.acs v.l))), (8, .c (.v (.int .i64 (Val.acs v.l).length))), (9, .c (.v (.int .i64 j)))], ⟨[(24, [.v (.int .i64 v.kind), .v (.int .i64 v.n), .v (.string v.s), .sl 4 (Val.acs v.l)])], [], h⟩⟩ ∧ i ≤ v.l.length ∧ n = v.l.length - i ∧ m = 1 + Val.nodess (v.l.take i) ∧ j = i, ⟨rfl, v.l.length, _, .refl _ _, 0, _, _, rfl, by simp, by simp, by simp [Val.nodess], rfl⟩, ?_⟩
  rintro n _ ⟨i, m, j, rfl, hi, rfl, hm, rfl⟩
  refine Br.mk (fun hb => ?_) (fun hb => ?_)
  · have hlt : i < v.l.length := by simpa [Val.acs_len] using hb
    have hx : v.l[i]? = some v.l[i] := List.getElem?_eq_getElem hlt
    refine ⟨_, ⟨by omega, Val.acs_get hx⟩, ?_⟩
    have hmem : v.l[i] ∈ v.l := List.getElem_mem hlt
    have := nodess_mem v.l _ hmem
    have hI := nodes_pure v.l[i] (by omega)
    rw [Val.ac_eq] at hI
    refine ⟨_, hI, rfl, v.l.length - (i + 1), by omega, _, .refl _ _, i + 1, _, _, rfl, by omega, rfl, ?_, ?_⟩
    · have h1 := nodess_take v.l i hlt
      have h2 := nodess_mono v.l (i + 1)
      have h3 := Val.nodess_nn (v.l.take i)
      have h4 := Val.nodes_pos v.l[i]
      rw [wrap64] <;> omega
    · rw [wrap64] <;> have := lt64 hlen <;> omega
  · have he : i = v.l.length := by have : ¬ i < v.l.length := by simpa [Val.acs_len] using hb
                                   omega
    subst he
    rw [List.take_length] at hm
    exact ⟨ret_i (by omega), rfl⟩
termination_by v
decreasing_by exact Val.size_mem hmem

/-! ### Letters and names -/
def letterB (c : Int) : Bool := decide (65 ≤ c ∧ c ≤ 90 ∨ 97 ≤ c ∧ c ≤ 122)
theorem letter_law : ∀ n : Fin 256, letterB (n.val : Int) = (decide (IntKind.u8.wrap (BitVec.ofInt IntKind.u8.bits (n.val : Int) ||| BitVec.ofInt IntKind.u8.bits 32).toNat ≥ 97) && decide (IntKind.u8.wrap (BitVec.ofInt IntKind.u8.bits (n.val : Int) ||| BitVec.ofInt IntKind.u8.bits 32).toNat ≤ 122)) := by
  decide +kernel
theorem letter_law' {c : Int} (h0 : 0 ≤ c) (h1 : c < 256) : letterB c = (decide (IntKind.u8.wrap (BitVec.ofInt IntKind.u8.bits c ||| BitVec.ofInt IntKind.u8.bits 32).toNat ≥ 97) && decide (IntKind.u8.wrap (BitVec.ofInt IntKind.u8.bits c ||| BitVec.ofInt IntKind.u8.bits 32).toNat ≤ 122)) := by
  have := letter_law ⟨c.toNat, by omega⟩
  simp only [Int.toNat_of_nonneg h0] at this
  exact this
theorem letter_pure {c : Int} (h0 : 0 ≤ c) (h1 : c < 256) : PureA Tryd.prog 72 [.c (.v (.int .u8 c))] (.c (.v (.bool (letterB c)))) := by
  intro h
  refine callsA_of (D := D0 11 []) ty_ok mixed Tryd.func72 rfl (by kernel_rfl) (by kernel_rfl) (by simp [D0]) ?_
  intro g vs hr
  have := letter_law' h0 h1
  refine Br.mk (fun hb => ?_) (fun hb => ?_)
  · refine Br.mk (fun hb2 => ?_) (fun hb2 => ?_)
    · exact ⟨ret_b (by rw [this, hb, hb2]; rfl), rfl⟩
    · exact ⟨ret_b (by rw [this, hb, hb2]; rfl), rfl⟩
  · exact ⟨ret_b (by rw [this, hb]; rfl), rfl⟩
theorem vletter_pure {c : Int} (h0 : 0 ≤ c) (h1 : c < 256) : PureA Tryd.prog 91 [.c (.v (.int .u8 c))] (.c (.v (.bool (letterB c)))) := by
  intro h
  refine callsA_of (D := D0 11 []) ty_ok mixed Tryd.func91 rfl (by kernel_rfl) (by kernel_rfl) (by simp [D0]) ?_
  intro g vs hr
  have := letter_law' h0 h1
  refine Br.mk (fun hb => ?_) (fun hb => ?_)
  · refine Br.mk (fun hb2 => ?_) (fun hb2 => ?_)
    · exact ⟨ret_b (by rw [this, hb, hb2]; rfl), rfl⟩
    · exact ⟨ret_b (by rw [this, hb, hb2]; rfl), rfl⟩
  · exact ⟨ret_b (by rw [this, hb]; rfl), rfl⟩
theorem bt_nn (s : ByteArray) (i : Int) : 0 ≤ bt s i := by unfold bt; omega
theorem bt_lt (s : ByteArray) (i : Int) : bt s i < 256 := by
  unfold bt
  have := (s.data.toList.getD i.toNat 0).toNat_lt
  omega
def symC (c : Int) : Bool := letterB c || decide (48 ≤ c ∧ c ≤ 57) || c == 95 || c == 45
def nameB (s : ByteArray) : Bool := decide (0 < s.size ∧ s.size ≤ 40) && letterB (bt s 0) && (List.range s.size).all fun i => symC (bt s i)

theorem toList_empty {s : ByteArray} : (s.toList == ByteArray.toList ⟨#[]⟩) = decide (s.size = 0) := by
  rw [ByteArray.toList_eq, ByteArray.toList_eq]
  obtain ⟨⟨l⟩⟩ := s
  show (l == []) = decide (l.length = 0)
  cases l <;> rfl
theorem toList_ne {s : ByteArray} : (!(s.toList == ByteArray.toList ⟨#[]⟩)) = decide (s.size ≠ 0) := by
  rw [toList_empty]; by_cases h : s.size = 0 <;> simp [h]

theorem nameB_false {s : ByteArray} {i : Nat} (hi : i < s.size) (h : symC (bt s i) = false) : nameB s = false := by
  unfold nameB
  rw [Bool.and_eq_false_iff]
  right
  rw [List.all_eq_false]
  exact ⟨i, by simpa using hi, by simp [h]⟩

set_option maxRecDepth 4000 in
theorem isName_pure (s : ByteArray) : PureA Tryd.prog 56 [.c (.v (.string s))] (.c (.v (.bool (nameB s)))) := by
  intro h
  refine callsA_of (D := D0 46 []) ty_ok mixed Tryd.func56 rfl (by kernel_rfl) (by kernel_rfl) (by simp [D0]) ?_
  intro g vs hr
  refine Br.mk (fun hb => ?_) (fun hb => ?_)
  · refine ⟨ret_b ?_, rfl⟩
    rw [toList_empty] at hb
    have : s.size = 0 := by simpa using hb
    simp [nameB, this]
  rw [toList_empty] at hb
  have hb : s.size ≠ 0 := by simpa using hb
  refine Br.mk (fun hb2 => ?_) (fun hb2 => ?_)
  · refine ⟨ret_b ?_, rfl⟩
    have : (s.size : Int) > 40 := by simpa using hb2
    have : ¬ s.size ≤ 40 := by omega
    simp [nameB, this]
  have hb2 : ¬ (s.size : Int) > 40 := by simpa using hb2
  refine ⟨⟨by omega, by simp; omega⟩, ?_⟩
  refine ⟨_, letter_pure (bt_nn _ _) (bt_lt _ _), ?_⟩
  refine Br.mk (fun hb3 => ?_) (fun hb3 => ?_)
  · refine LoopA.mk ⟨⟨[0, 2, 19, 20], 0, 0⟩, fun n st => ∃ (i : Nat) (j : Int), st = ⟨[(0, .c (.v (.string s))), (2, .c .ff), (19, .c (.v (.int .i64 s.size))), (20, .c (.v (.int .i64 j)))], ⟨[], [], h⟩⟩ ∧ i ≤ s.size ∧ n = s.size - i ∧ j = i ∧ ∀ k, k < i → symC (bt s k) = true, ⟨rfl, s.size, _, .refl _ _, 0, _, rfl, by simp, by simp, rfl, by simp⟩, ?_⟩
    rintro n _ ⟨i, j, rfl, hi, rfl, rfl, hall⟩
    refine Br.mk (fun hl => ?_) (fun hl => ?_)
    · have hlt : i < s.size := by simpa using hl
      refine ⟨⟨by omega, by simp; omega⟩, ?_⟩
      refine ⟨_, letter_pure (bt_nn _ _) (bt_lt _ _), ?_⟩
      have next : symC (bt s i) = true → ∀ k : Nat, k < i + 1 → symC (bt s k) = true := fun hs k hk => by
        by_cases e : k = i
        · rw [e]; exact hs
        · exact hall k (by omega)
      clear hr
      repeat' refine Br.mk (fun _ => ?_) (fun _ => ?_)
      all_goals first
        | exact ⟨ret_b (nameB_false hlt (by simp_all [symC]; try omega)).symm, rfl⟩
        | exact ⟨rfl, s.size - (i + 1), by omega, _, .refl _ _, i + 1, _, rfl, by omega, rfl, by rw [wrap64] <;> omega, next (by simp_all [symC])⟩
    · have : ¬ i < s.size := by simpa using hl
      have he : i = s.size := by omega
      refine ⟨ret_b ?_, rfl⟩
      unfold nameB
      have h1 : letterB (bt s 0) = true := hb3
      have h2 : (List.range s.size).all (fun i => symC (bt s i)) = true := by
        rw [List.all_eq_true]; intro k hk; exact hall k (by have : k < s.size := by simpa using hk
                                                            omega)
      rw [h1, h2]
      simp; omega
  · refine ⟨ret_b ?_, rfl⟩
    have h1 : letterB (bt s 0) = false := hb3
    unfold nameB
    rw [h1]; simp
end Go.Proofs.YtdgjpncflkpjfaaDoor
