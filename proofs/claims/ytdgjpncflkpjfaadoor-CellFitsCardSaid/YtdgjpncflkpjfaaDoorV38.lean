/- The contracts of value.Compare and Same. The contracts of value.lists, Compare and Same. -/
import Derived.Test.YtdgjpncflkpjfaaDoorV35
import Derived.Test.YtdgjpncflkpjfaaDoorV14
/-! The contracts of value.Compare and Same. -/
set_option linter.unusedVariables false
set_option linter.unusedSimpArgs false
namespace Go.Proofs.YtdgjpncflkpjfaaDoor
open Aw

def cmpI (a b : Int) : Int := if a < b then -1 else if b < a then 1 else 0
theorem cmpI_zero {a b : Int} : cmpI a b = 0 ↔ a = b := by unfold cmpI; split <;> (try split) <;> omega
def listsO {α : Type} (c : α → α → Int) : List α → List α → Int
  | [], [] => 0
  | [], _ :: _ => -1
  | _ :: _, [] => 1
  | x :: xs, y :: ys => if c x y = 0 then listsO c xs ys else c x y
theorem listsO_zero {α : Type} {c : α → α → Int} : ∀ {xs ys : List α}, (∀ x ∈ xs, ∀ y, c x y = 0 ↔ x = y) → (listsO c xs ys = 0 ↔ xs = ys)
  | [], [], _ => by simp [listsO]
  | [], _ :: _, _ => by simp [listsO]
  | _ :: _, [], _ => by simp [listsO]
  | x :: xs, y :: ys, h => by
    simp only [listsO]
    have hx := h x (by simp) y
    have ih := listsO_zero (xs := xs) (ys := ys) fun z hz => h z (by simp [hz])
    by_cases e : c x y = 0
    · rw [if_pos e, ih, hx.1 e]; simp
    · rw [if_neg e]
      have : x ≠ y := fun h => e (hx.2 h)
      simp [this, e]
theorem listsO_lt {α : Type} {c : α → α → Int} {a b : List α} {i : Nat} {x y : α} (hx : a[i]? = some x) (hy : b[i]? = some y) : listsO c (a.drop i) (b.drop i) = if c x y = 0 then listsO c (a.drop (i + 1)) (b.drop (i + 1)) else c x y := by
  obtain ⟨h1, h2⟩ := List.getElem?_eq_some_iff.1 hx
  obtain ⟨h3, h4⟩ := List.getElem?_eq_some_iff.1 hy
  rw [List.drop_eq_getElem_cons h1, List.drop_eq_getElem_cons h3, h2, h4]; rfl
theorem listsO_end {α : Type} {c : α → α → Int} {a b : List α} {i : Nat} (hi : i = min a.length b.length) : listsO c (a.drop i) (b.drop i) = cmpI a.length b.length := by
  have l1 : (a.drop i).length = a.length - i := List.length_drop
  have l2 : (b.drop i).length = b.length - i := List.length_drop
  unfold cmpI
  cases ha : a.drop i with
  | nil =>
    rw [ha] at l1
    simp at l1
    cases hb : b.drop i with
    | nil => rw [hb] at l2; simp at l2; rw [if_neg (by omega), if_neg (by omega)]; rfl
    | cons y t => rw [hb] at l2; simp at l2; rw [if_pos (by omega)]; rfl
  | cons x t =>
    rw [ha] at l1
    simp at l1
    cases hb : b.drop i with
    | nil => rw [hb] at l2; simp at l2; rw [if_neg (by omega), if_pos (by omega)]; rfl
    | cons y u => rw [hb] at l2; simp at l2; omega

theorem isNaNI_pure (x : Int) : PureA Tryd.prog 65 [.c (.v (.int .i64 x))] (.c (.v (.bool false))) := by
  intro h
  refine callsA_of (D := D1 6 [] [] []) ty_ok mixed Tryd.func65 rfl (by kernel_rfl) (by kernel_rfl) (by simp [D1]) ?_
  intro g vs hr
  exact ⟨ret_b (by simp), rfl⟩
theorem isNaNL_pure (x : Int) : PureA Tryd.prog 66 [.c (.v (.int .i64 x))] (.c (.v (.bool false))) := by
  intro h
  refine callsA_of (D := D1 6 [] [] []) ty_ok mixed Tryd.func66 rfl (by kernel_rfl) (by kernel_rfl) (by simp [D1]) ?_
  intro g vs hr
  exact ⟨ret_b (by simp), rfl⟩
theorem isNaNB_pure (x : Int) : PureA Tryd.prog 64 [.c (.v (.int .u8 x))] (.c (.v (.bool false))) := by
  intro h
  refine callsA_of (D := D1 6 [] [] []) ty_ok mixed Tryd.func64 rfl (by kernel_rfl) (by kernel_rfl) (by simp [D1]) ?_
  intro g vs hr
  exact ⟨ret_b (by simp), rfl⟩
theorem cmpI_lt {a b : Int} (h : a < b) : cmpI a b = -1 := if_pos h
theorem cmpI_gt {a b : Int} (h : ¬ a < b) (h2 : b < a) : cmpI a b = 1 := by unfold cmpI; rw [if_neg h, if_pos h2]
theorem cmpI_eq {a b : Int} (h : ¬ a < b) (h2 : ¬ b < a) : cmpI a b = 0 := by unfold cmpI; rw [if_neg h, if_neg h2]
theorem cmpInt_pure (a b : Int) : PureA Tryd.prog 44 [.c (.v (.int .i64 a)), .c (.v (.int .i64 b))] (.c (.v (.int .i64 (cmpI a b)))) := by
  intro h
  refine callsA_of (D := D1 20 [] [] []) ty_ok mixed Tryd.func44 rfl (by kernel_rfl) (by kernel_rfl) (by simp [D1]) ?_
  intro g vs hr
  clear hr
  refine ⟨_, isNaNI_pure a, _, isNaNI_pure b, Br.mk (fun h => by cases h) fun _ => Br.mk (fun h => by cases h) fun _ => ?_⟩
  refine Br.mk (fun h1 => ?_) (fun h1 => ?_)
  · exact ⟨ret_i (cmpI_lt (of_decide_eq_true h1)).symm, rfl⟩
  · refine Br.mk (fun h2 => ?_) (fun h2 => ?_)
    · exact ⟨ret_i (cmpI_gt (of_decide_eq_false h1) (of_decide_eq_true h2)).symm, rfl⟩
    · exact ⟨ret_i (cmpI_eq (of_decide_eq_false h1) (of_decide_eq_false h2)).symm, rfl⟩
theorem cmpI64_pure (a b : Int) : PureA Tryd.prog 45 [.c (.v (.int .i64 a)), .c (.v (.int .i64 b))] (.c (.v (.int .i64 (cmpI a b)))) := by
  intro h
  refine callsA_of (D := D1 20 [] [] []) ty_ok mixed Tryd.func45 rfl (by kernel_rfl) (by kernel_rfl) (by simp [D1]) ?_
  intro g vs hr
  clear hr
  refine ⟨_, isNaNL_pure a, _, isNaNL_pure b, Br.mk (fun h => by cases h) fun _ => Br.mk (fun h => by cases h) fun _ => ?_⟩
  refine Br.mk (fun h1 => ?_) (fun h1 => ?_)
  · exact ⟨ret_i (cmpI_lt (of_decide_eq_true h1)).symm, rfl⟩
  · refine Br.mk (fun h2 => ?_) (fun h2 => ?_)
    · exact ⟨ret_i (cmpI_gt (of_decide_eq_false h1) (of_decide_eq_true h2)).symm, rfl⟩
    · exact ⟨ret_i (cmpI_eq (of_decide_eq_false h1) (of_decide_eq_false h2)).symm, rfl⟩
theorem cmpByte_pure (a b : Int) : PureA Tryd.prog 42 [.c (.v (.int .u8 a)), .c (.v (.int .u8 b))] (.c (.v (.int .i64 (cmpI a b)))) := by
  intro h
  refine callsA_of (D := D1 20 [] [] []) ty_ok mixed Tryd.func42 rfl (by kernel_rfl) (by kernel_rfl) (by simp [D1]) ?_
  intro g vs hr
  clear hr
  refine ⟨_, isNaNB_pure a, _, isNaNB_pure b, Br.mk (fun h => by cases h) fun _ => Br.mk (fun h => by cases h) fun _ => ?_⟩
  refine Br.mk (fun h1 => ?_) (fun h1 => ?_)
  · exact ⟨ret_i (cmpI_lt (of_decide_eq_true h1)).symm, rfl⟩
  · refine Br.mk (fun h2 => ?_) (fun h2 => ?_)
    · exact ⟨ret_i (cmpI_gt (of_decide_eq_false h1) (of_decide_eq_true h2)).symm, rfl⟩
    · exact ⟨ret_i (cmpI_eq (of_decide_eq_false h1) (of_decide_eq_false h2)).symm, rfl⟩
theorem cmp1_pure (a b : Int) : PureA Tryd.prog 41 [.c (.v (.int .u8 a)), .c (.v (.int .u8 b))] (.c (.v (.int .i64 (cmpI a b)))) := by
  intro h
  refine callsA_of (D := D1 8 [] [] []) ty_ok mixed Tryd.func41 rfl (by kernel_rfl) (by kernel_rfl) (by simp [D1]) ?_
  intro g vs hr
  clear hr
  exact ⟨_, cmpByte_pure a b, rfl, rfl⟩

def orI (a b c d : Int) : Int := if a ≠ 0 then a else if b ≠ 0 then b else if c ≠ 0 then c else d
theorem orI_zero {a b c d : Int} : orI a b c d = 0 ↔ a = 0 ∧ b = 0 ∧ c = 0 ∧ d = 0 := by unfold orI; split <;> (try split) <;> (try split) <;> omega
set_option maxRecDepth 4000 in
theorem or_pure (a b c d : Int) : PureA Tryd.prog 43 [.c (.sl 1 [[.v (.int .i64 a)], [.v (.int .i64 b)], [.v (.int .i64 c)], [.v (.int .i64 d)]])] (.c (.v (.int .i64 (orI a b c d)))) := by
  intro h
  refine callsA_of (D := D1 18 [] [] []) ty_ok mixed Tryd.func43 rfl (by kernel_rfl) (by kernel_rfl) (by simp [D1]) ?_
  intro g vs hr
  clear hr
  obtain ⟨L, hL⟩ : ∃ L : List Int, L = [a, b, c, d] := ⟨_, rfl⟩
  have hlast : ∀ i, i ≤ 4 → (∀ k, k < i → L[k]? = some 0) → i = 4 → orI a b c d = 0 := fun i _ h e => by
    subst hL e
    have h0 := h 0 (by omega); have h1 := h 1 (by omega); have h2 := h 2 (by omega); have h3 := h 3 (by omega)
    simp at h0 h1 h2 h3
    rw [orI_zero]; exact ⟨h0, h1, h2, h3⟩
  have hrow : ∀ i, i < 4 → ∃ x, L[i]? = some x ∧ [[AC.v (.int .i64 a)], [.v (.int .i64 b)], [.v (.int .i64 c)], [.v (.int .i64 d)]][i]? = some [AC.v (.int .i64 x)] ∧ ((∀ k, k < i → L[k]? = some 0) → x ≠ 0 → orI a b c d = x) := fun i hi => by
    subst hL
    match i, hi with
    | 0, _ => exact ⟨a, rfl, rfl, fun _ hx => by unfold orI; rw [if_pos hx]⟩
    | 1, _ => exact ⟨b, rfl, rfl, fun h hx => by
        have h0 := h 0 (by omega); simp at h0
        unfold orI; rw [if_neg (by omega), if_pos hx]⟩
    | 2, _ => exact ⟨c, rfl, rfl, fun h hx => by
        have h0 := h 0 (by omega); have h1 := h 1 (by omega); simp at h0 h1
        unfold orI; rw [if_neg (by omega), if_neg (by omega), if_pos hx]⟩
    | 3, _ => exact ⟨d, rfl, rfl, fun h hx => by
        have h0 := h 0 (by omega); have h1 := h 1 (by omega); have h2 := h 2 (by omega); simp at h0 h1 h2
        unfold orI; rw [if_neg (by omega), if_neg (by omega), if_neg (by omega)]⟩
  obtain ⟨rows, hrows⟩ : ∃ rows, rows = [[AC.v (.int .i64 a)], [.v (.int .i64 b)], [.v (.int .i64 c)], [.v (.int .i64 d)]] := ⟨_, rfl⟩
  refine LoopA.mk ⟨⟨[2, 3, 6, 7, 8], 0, 0⟩, fun n st => ∃ (i : Nat) (j : Int), st = ⟨[(2, .c (.v (.int .i64 0))), (3, .c (.v (.int .i64 0))), (6, .c (.sl 1 rows)), (7, .c (.v (.int .i64 4))), (8, .c (.v (.int .i64 j)))], ⟨[], [], h⟩⟩ ∧ i ≤ 4 ∧ n = 4 - i ∧ j = i ∧ ∀ k, k < i → L[k]? = some 0,
    ⟨rfl, 4, _, .refl _ _, 0, _, by rw [hrows]; rfl, by omega, rfl, rfl, fun k h => by omega⟩, ?_⟩
  rintro n _ ⟨i, j, rfl, hi, rfl, rfl, hz⟩
  refine Br.mk (fun h1 => ?_) (fun h1 => ?_)
  · have hlt : i < 4 := by have := of_decide_eq_true h1; omega
    obtain ⟨x, hx1, hx2, hx3⟩ := hrow i hlt
    refine ⟨_, ⟨by omega, by rw [hrows]; exact hx2⟩, ?_⟩
    refine Br.mk (fun h2 => ?_) (fun h2 => ?_)
    · exact ⟨ret_i (hx3 hz (by simpa using h2)).symm, rfl⟩
    · refine ⟨rfl, 4 - (i + 1), by omega, _, .refl _ _, i + 1, _, rfl, by omega, rfl, by rw [wrap64] <;> omega, fun k hk => ?_⟩
      by_cases e : k = i
      · subst e
        have : x = 0 := by simpa using h2
        rw [hx1, this]
      · exact hz k (by omega)
  · have he : i = 4 := by have := of_decide_eq_false h1; omega
    exact ⟨ret_i (hlast i hi hz he).symm, rfl⟩
end Go.Proofs.YtdgjpncflkpjfaaDoor

/-! The contracts of value.lists, Compare and Same. -/
set_option linter.unusedVariables false
set_option linter.unusedSimpArgs false
namespace Go.Proofs.YtdgjpncflkpjfaaDoor
open Aw

def cmpB (s t : ByteArray) : Int := listsO (fun x y : UInt8 => cmpI x.toNat y.toNat) s.data.toList t.data.toList
theorem cmpB_zero {s t : ByteArray} : cmpB s t = 0 ↔ s = t := by
  unfold cmpB
  rw [listsO_zero (fun x _ y => by
    rw [cmpI_zero]
    exact ⟨fun h => UInt8.toNat_inj.1 (by omega), fun h => by rw [h]⟩)]
  exact ⟨fun h => ByteArray.ext (Array.ext' h), fun h => by rw [h]⟩
theorem min_nat (a b : Nat) : (if ((b : Int) < (a : Int)) then (b : Int) else (a : Int)) = ((min a b : Nat) : Int) := by
  split <;> omega

set_option maxRecDepth 4000 in
theorem listsB_pure (s t : ByteArray) (hs : s.size < 1000000000) (ht : t.size < 1000000000) : PureA Tryd.prog 46 [.c (.sl 1 (rowsB s)), .c (.sl 1 (rowsB t)), .c (.v (.func (.func 41) #[] #[]))] (.c (.v (.int .i64 (cmpB s t)))) := by
  intro h
  refine callsA_of (D := D1 36 [] [] []) ty_ok mixed Tryd.func46 rfl (by kernel_rfl) (by kernel_rfl) (by simp [D1]) ?_
  intro g vs hr
  clear hr
  obtain ⟨R, hR⟩ : ∃ R, R = cmpB s t := ⟨_, rfl⟩
  rw [← hR]
  unfold cmpB at hR
  have hls : s.data.toList.length = s.size := by rw [Array.length_toList]; rfl
  have hlt : t.data.toList.length = t.size := by rw [Array.length_toList]; rfl
  refine LoopA.mk ⟨⟨[0, 1, 2, 6, 13, 14], 0, 0⟩, fun n st => ∃ (i : Nat) (m j : Int), st = ⟨[(0, .c (.sl 1 (rowsB s))), (1, .c (.sl 1 (rowsB t))), (2, .c (.v (.func (.func 41) #[] #[]))), (6, .c (.v (.int .i64 0))), (13, .c (.v (.int .i64 m))), (14, .c (.v (.int .i64 j)))], ⟨[], [], h⟩⟩ ∧ m = (min s.size t.size : Nat) ∧ i ≤ min s.size t.size ∧ n = min s.size t.size - i ∧ j = i ∧ R = listsO (fun x y : UInt8 => cmpI x.toNat y.toNat) (s.data.toList.drop i) (t.data.toList.drop i),
    ⟨rfl, min s.size t.size, _, .refl _ _, 0, _, _, rfl, by rw [rowsB_len, rowsB_len]; exact min_nat _ _, Nat.zero_le _, rfl, rfl, hR⟩, ?_⟩
  rintro n _ ⟨i, m, j, rfl, rfl, hi, rfl, rfl, hRi⟩
  refine Br.mk (fun h1 => ?_) (fun h1 => ?_)
  · have hlt' : i < min s.size t.size := by have := of_decide_eq_true h1; omega
    have his : i < s.size := by omega
    have hit : i < t.size := by omega
    obtain ⟨x, x1, x2, _⟩ := byte_at his
    obtain ⟨y, y1, y2, _⟩ := byte_at hit
    rw [listsO_lt x1 y1] at hRi
    have hc := cmp1_pure (bt s i) (bt t i)
    refine Pre.mk (by kernel_rfl) ?_
    refine ⟨_, ⟨by omega, rowsB_get his⟩, ?_⟩
    refine ⟨_, ⟨by omega, rowsB_get hit⟩, ?_⟩
    refine ⟨_, hc, ?_⟩
    rw [x2, y2]
    refine Br.mk (fun h2 => ?_) (fun h2 => ?_)
    · have h2 : cmpI x.toNat y.toNat ≠ 0 := by simpa using h2
      rw [if_neg h2] at hRi
      exact ⟨ret_i hRi.symm, rfl⟩
    · have h2 : cmpI x.toNat y.toNat = 0 := by simpa using h2
      rw [if_pos h2] at hRi
      exact ⟨rfl, min s.size t.size - (i + 1), by omega, _, .refl _ _, i + 1, _, _, rfl, rfl, by omega, rfl, by rw [wrap64] <;> omega, hRi⟩
  · have he : i = min s.size t.size := by have := of_decide_eq_false h1; omega
    rw [listsO_end (by rw [hls, hlt]; exact he), hls, hlt] at hRi
    refine ⟨_, cmpInt_pure _ _, ?_⟩
    exact ⟨ret_i (by rw [hRi, rowsB_len, rowsB_len]), rfl⟩

mutual
def cmpV : Val → Val → Int
  | ⟨k, n, s, l⟩, w => orI (cmpI k w.kind) (cmpI n w.n) (cmpB s w.s) (cmpLs l w.l)
def cmpLs : List Val → List Val → Int
  | [], [] => 0
  | [], _ :: _ => -1
  | _ :: _, [] => 1
  | x :: xs, y :: ys => if cmpV x y = 0 then cmpLs xs ys else cmpV x y
end
theorem cmpV_def (v w : Val) : cmpV v w = orI (cmpI v.kind w.kind) (cmpI v.n w.n) (cmpB v.s w.s) (cmpLs v.l w.l) := by cases v; rfl
theorem cmpLs_eq : ∀ (a b : List Val), cmpLs a b = listsO cmpV a b
  | [], [] => rfl
  | [], _ :: _ => rfl
  | _ :: _, [] => rfl
  | x :: xs, y :: ys => by simp only [cmpLs, listsO, cmpLs_eq xs ys]
theorem cmpV_zero (v w : Val) : cmpV v w = 0 ↔ v = w := by
  rw [cmpV_def, orI_zero, cmpI_zero, cmpI_zero, cmpB_zero, cmpLs_eq, listsO_zero fun x hx y => cmpV_zero x y]
  cases v; cases w; simp
termination_by v
decreasing_by exact Val.size_mem hx


set_option maxRecDepth 4000 in
theorem listsV_pure (a b : List Val) (h1 : a.length ≤ lenMax) (h2 : b.length ≤ lenMax) (hc : ∀ x ∈ a, ∀ y ∈ b, PureA Tryd.prog 23 [.agg x.ac, .agg y.ac] (.c (.v (.int .i64 (cmpV x y))))) :
    PureA Tryd.prog 47 [.c (.sl 4 (Val.acs a)), .c (.sl 4 (Val.acs b)), .c (.v (.func (.func 23) #[] #[]))] (.c (.v (.int .i64 (cmpLs a b)))) := by
  intro h
  refine callsA_of (D := D1 36 [] [] []) ty_ok mixed Tryd.func47 rfl (by kernel_rfl) (by kernel_rfl) (by simp [D1]) ?_
  intro g vs hr
  clear hr
  obtain ⟨R, hR⟩ : ∃ R, R = cmpLs a b := ⟨_, rfl⟩
  rw [← hR]
  rw [cmpLs_eq] at hR
  have hm : min a.length b.length ≤ lenMax := by omega
  have hlm := lenMax_lt
  refine LoopA.mk ⟨⟨[0, 1, 2, 6, 13, 14], 0, 0⟩, fun n st => ∃ (i : Nat) (m j : Int), st = ⟨[(0, .c (.sl 4 (Val.acs a))), (1, .c (.sl 4 (Val.acs b))), (2, .c (.v (.func (.func 23) #[] #[]))), (6, .c (.v (.int .i64 0))), (13, .c (.v (.int .i64 m))), (14, .c (.v (.int .i64 j)))], ⟨[], [], h⟩⟩ ∧ m = (min a.length b.length : Nat) ∧ i ≤ min a.length b.length ∧ n = min a.length b.length - i ∧ j = i ∧ R = listsO cmpV (a.drop i) (b.drop i),
    ⟨rfl, min a.length b.length, _, .refl _ _, 0, _, _, rfl, by rw [Val.acs_len, Val.acs_len]; exact min_nat _ _, Nat.zero_le _, rfl, rfl, hR⟩, ?_⟩
  rintro n _ ⟨i, m, j, rfl, rfl, hi, rfl, rfl, hRi⟩
  refine Br.mk (fun h1 => ?_) (fun h1 => ?_)
  · have hlt' : i < min a.length b.length := by have := of_decide_eq_true h1; omega
    have hia : i < a.length := by omega
    have hib : i < b.length := by omega
    have x1 : a[i]? = some a[i] := List.getElem?_eq_getElem hia
    have y1 : b[i]? = some b[i] := List.getElem?_eq_getElem hib
    rw [listsO_lt x1 y1] at hRi
    have hcc := hc a[i] (List.getElem_mem hia) b[i] (List.getElem_mem hib)
    rw [Val.ac_eq, Val.ac_eq] at hcc
    refine Pre.mk (by kernel_rfl) ?_
    refine ⟨_, ⟨by omega, Val.acs_get x1⟩, ?_⟩
    refine ⟨_, ⟨by omega, Val.acs_get y1⟩, ?_⟩
    refine ⟨_, hcc, ?_⟩
    refine Br.mk (fun h2 => ?_) (fun h2 => ?_)
    · have h2 : cmpV a[i] b[i] ≠ 0 := by simpa using h2
      rw [if_neg h2] at hRi
      exact ⟨ret_i hRi.symm, rfl⟩
    · have h2 : cmpV a[i] b[i] = 0 := by simpa using h2
      rw [if_pos h2] at hRi
      exact ⟨rfl, min a.length b.length - (i + 1), by omega, _, .refl _ _, i + 1, _, _, rfl, rfl, by omega, rfl, by rw [wrap64] <;> omega, hRi⟩
  · have he : i = min a.length b.length := by have := of_decide_eq_false h1; omega
    rw [listsO_end he] at hRi
    refine ⟨_, cmpInt_pure _ _, ?_⟩
    exact ⟨ret_i (by rw [hRi, Val.acs_len, Val.acs_len]), rfl⟩

theorem sl_len2 {g : G} {n : Nat} {x : AV} {a b c : AC} {rows : List (List AC)} {r : List AV} {vs : List Value} (h : RelVs g [] (x :: .agg [a, b, c, .sl n rows] :: r) vs) : rows.length ≤ lenMax := by
  cases vs with
  | nil => exact h.elim
  | cons y vs => exact sl_len h.2

set_option maxRecDepth 8000 in
theorem compare_pure (v w : Val) (hv : v.ok) (hw : w.ok) : PureA Tryd.prog 23 [.agg v.ac, .agg w.ac] (.c (.v (.int .i64 (cmpV v w)))) := by
  intro h
  refine callsA_of (D := D1 31 [] [] []) ty_ok mixed Tryd.func23 rfl (by kernel_rfl) (by kernel_rfl) (by simp [D1]) ?_
  intro g vs hr
  rw [Val.ac_eq, Val.ac_eq w] at hr ⊢
  have hl1 := sl_len hr
  have hl2 := sl_len2 hr
  rw [Val.acs_len] at hl1 hl2
  clear hr
  rw [ok_def] at hv hw
  have hL := listsV_pure v.l w.l hl1 hl2 fun x hx y hy => compare_pure x y (oks_mem v.l hv.2 x hx) (oks_mem w.l hw.2 y hy)
  have hB := listsB_pure v.s w.s hv.1 hw.1
  have c1 : v.s.size ≤ lenMax := by unfold lenMax; omega
  have c2 : w.s.size ≤ lenMax := by unfold lenMax; omega
  refine Pre.mk (by kernel_rfl) ?_
  refine ⟨_, cmpInt_pure _ _, _, cmpI64_pure _ _, Pre.mk c1 (Pre.mk c2 ?_)⟩
  refine ⟨_, hB, _, hL, _, or_pure _ _ _ _, ?_⟩
  exact ⟨ret_i (cmpV_def v w).symm, rfl⟩
termination_by v
decreasing_by exact Val.size_mem hx

theorem vsame_pure (v w : Val) (hv : v.ok) (hw : w.ok) : PureA Tryd.prog 10 [.agg v.ac, .agg w.ac] (.c (.v (.bool (decide (cmpV v w = 0))))) := by
  intro h
  refine callsA_of (D := D1 9 [] [] []) ty_ok mixed Tryd.func10 rfl (by kernel_rfl) (by kernel_rfl) (by simp [D1]) ?_
  intro g vs hr
  clear hr
  have hc := compare_pure v w hv hw
  rw [Val.ac_eq, Val.ac_eq w] at hc ⊢
  refine ⟨_, hc, ?_⟩
  exact ⟨ret_b rfl, rfl⟩
end Go.Proofs.YtdgjpncflkpjfaaDoor
