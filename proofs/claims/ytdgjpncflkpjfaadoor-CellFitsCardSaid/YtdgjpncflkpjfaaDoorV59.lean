/- The contract of json.Right. The value of a thing: the contracts of json.Find, cell.symbol, OfJson. The value of a thing: the contract of cell.OfJson. -/
import Derived.Test.YtdgjpncflkpjfaaDoorV56
set_option linter.unusedVariables false
set_option linter.unusedSimpArgs false
namespace Go.Proofs.YtdgjpncflkpjfaaDoor
open Aw

theorem Aw.StLe.env {D : Cfg2} {t t' : Env} {s : S} (h : ∀ k v, look t' k = some v → ∃ u, look t k = some u ∧ ∀ g o y, RelV g o u y → RelV g o v y) : StLe D ⟨t, s⟩ ⟨t', s⟩ := fun g w a his =>
  ⟨g, .refl _ _, { his with env := fun k v hv => by obtain ⟨u, h1, h2⟩ := h k v hv; exact h2 _ _ _ (his.env k u h1) }⟩
/-- A boolean that is known, as one that isn't. -/
def IsB (u : AC) (x : Bool) : Prop := u = .v (.bool x) ∨ (u = .tt ∧ x = true) ∨ (u = .ff ∧ x = false)
theorem IsB.rel {u : AC} {x : Bool} (h : IsB u x) (g : G) (o : List (Nat × Nat × Nat)) (y : Value) (hr : RelV g o (.c u) y) : RelV g o (.c (.v (.bool x))) y := by
  rcases h with rfl | ⟨rfl, rfl⟩ | ⟨rfl, rfl⟩
  · exact hr
  · have hr : Rel g.I .tt y := hr
    cases hr; exact (Rel.v (.bool true) rfl : Rel g.I _ _)
  · have hr : Rel g.I .ff y := hr
    cases hr; exact (Rel.v (.bool false) rfl : Rel g.I _ _)
theorem Aw.StLe.bool3 {D : Cfg2} {k1 k2 k3 : Nat} {a b : AV} {u : AC} {x : Bool} {s : S} (h : IsB u x) : StLe D ⟨[(k1, a), (k2, b), (k3, .c u)], s⟩ ⟨[(k1, a), (k2, b), (k3, .c (.v (.bool x)))], s⟩ := by
  refine StLe.env fun k v hv => ?_
  simp only [look] at hv ⊢
  cases e1 : Nat.beq k1 k with
  | true => rw [e1] at hv; exact ⟨v, hv, fun _ _ _ h => h⟩
  | false =>
    rw [e1] at hv
    dsimp only at hv ⊢
    cases e2 : Nat.beq k2 k with
    | true => rw [e2] at hv; exact ⟨v, hv, fun _ _ _ h => h⟩
    | false =>
      rw [e2] at hv
      dsimp only at hv ⊢
      cases e3 : Nat.beq k3 k with
      | true => rw [e3] at hv; cases hv; exact ⟨.c u, rfl, fun g o y hr => h.rel g o y hr⟩
      | false => rw [e3] at hv; cases hv

set_option maxRecDepth 8000 in
set_option maxHeartbeats 4000000 in
theorem jright_pure (x : Jsn) (hok : x.ok) : PureA Tryd.prog 30 [jAV x] (.c (.v (.bool x.right))) := by
  intro h
  refine callsA_ofS (D := D1 97 [] [] [7, 12, 20, 25, 29, 39, 44, 53, 59, 63, 68, 78, 86]) ty_ok mixed Tryd.func30 rfl (by kernel_rfl) (by kernel_rfl) (by simp [D1]) ?_
  intro g vs hr
  clear hr
  rw [jok_def] at hok
  have hv := uvalidx_pure x.s hok.1
  have hnm := names_pure x.names hok.2.1
  have hc := contains_pure x.l fun y hmem => jright_pure y (joks_mem hok.2.2 y hmem)
  have hns : (strR x.names).length = x.names.length := strR_len _
  have hls : (Jsn.acs x.l).length = x.l.length := Jsn.acs_len _
  rw [jAV]
  refine Awp.seq (awp1 ?_)
  refine (Awp.cut ⟨[1, 2], 1, 0⟩ (fun st => st = ⟨[(1, .c (.loc 0 0)), (2, .c .ff)], ⟨[(39, [.v (.int .i64 x.kind), .v (.int .i64 x.n), .v (.string x.s), .sl 1 (strR x.names), .sl 5 (Jsn.acs x.l)])], [], h⟩⟩ ∧ x.right = Jsn.rights x.l) (Awp.block ?_) ?_ : Awp _ _ _ _)
  rotate_left
  · rintro _ ⟨rfl, hb⟩
    rw [hb]
    refine awp1 ?_
    refine ⟨_, hc, ?_⟩
    exact ⟨ret_b (by simp), rfl⟩
  refine (Awp.cut ⟨[1, 2, 3], 1, 0⟩ (fun st => ∃ b, st = ⟨[(1, .c (.loc 0 0)), (2, .c .ff), (3, .c (.v (.bool b)))], ⟨[(39, [.v (.int .i64 x.kind), .v (.int .i64 x.n), .v (.string x.s), .sl 1 (strR x.names), .sl 5 (Jsn.acs x.l)])], [], h⟩⟩ ∧ x.right = (!b && Jsn.rights x.l)) ?_ ?_ : Awp _ _ _ _)
  rotate_left
  · rintro _ ⟨b, rfl, hb⟩
    refine Awp.ifs rfl (fun h1 => ?_) (fun h1 => Awp.skip ?_)
    · subst h1
      rw [hb]
      exact awp1 ⟨rfl, rfl⟩
    · subst h1
      exact ⟨rfl, _, .refl _ _, rfl, by rw [hb]; simp⟩
  have hJ := jright_def x
  refine (Awp.cut ⟨[1, 2, 3], 1, 0⟩ (fun st => ∃ b, st = ⟨[(1, .c (.loc 0 0)), (2, .c .ff), (3, .c (.v (.bool b)))], ⟨[(39, [.v (.int .i64 x.kind), .v (.int .i64 x.n), .v (.string x.s), .sl 1 (strR x.names), .sl 5 (Jsn.acs x.l)])], [], h⟩⟩ ∧ (!b) = decide (0 ≤ x.kind ∧ x.kind ≤ 6 ∧ x.kind ≠ 3)) (awp1 ?_) ?_ : Awp _ _ _ _)
  · refine Br.mk (fun h1 => ?_) (fun h1 => ?_)
    · have h1 := of_decide_eq_true h1
      exact ⟨rfl, _, StLe.bool3 (.inr (.inl ⟨rfl, rfl⟩)), _, rfl, (decide_eq_false (by omega)).symm⟩
    · have h1 := of_decide_eq_false h1
      refine Br.mk (fun h2 => ?_) (fun h2 => ?_)
      · have h2 := of_decide_eq_true h2
        exact ⟨rfl, _, StLe.bool3 (.inr (.inl ⟨rfl, rfl⟩)), _, rfl, (decide_eq_false (by omega)).symm⟩
      · have h2 := of_decide_eq_false h2
        refine ⟨rfl, _, StLe.bool3 (.inl rfl), _, rfl, ?_⟩
        cases h3 : (x.kind == 3) with
        | true => have := eq_of_beq h3; exact (decide_eq_false (by omega)).symm
        | false => have := ne_of_beq_false h3; exact (decide_eq_true (by omega)).symm
  rintro _ ⟨b, rfl, hb⟩
  refine Awp.ifs rfl (fun h1 => Awp.skip ?_) (fun h1 => ?_)
  · subst h1
    rw [← hb] at hJ
    exact ⟨rfl, _, .refl _ _, _, rfl, by rw [hJ]; simp⟩
  subst h1
  rw [← hb, Bool.not_false, Bool.true_and] at hJ
  have g1 := of_decide_eq_true hb.symm
  refine (Awp.cut ⟨[1, 2, 3], 1, 0⟩ (fun st => ∃ b, st = ⟨[(1, .c (.loc 0 0)), (2, .c .ff), (3, .c (.v (.bool b)))], ⟨[(39, [.v (.int .i64 x.kind), .v (.int .i64 x.n), .v (.string x.s), .sl 1 (strR x.names), .sl 5 (Jsn.acs x.l)])], [], h⟩⟩ ∧ (!b) = decide (x.kind = 2 ∨ x.n = 0 ∨ x.kind = 1 ∧ x.n = 1)) (awp1 ?_) ?_ : Awp _ _ _ _)
  · refine Br.mk (fun h1 => ?_) (fun h1 => ?_)
    · have h1 : x.kind ≠ 2 := by simpa using h1
      refine Br.mk (fun h2 => ?_) (fun h2 => ?_)
      · have h2 : x.n ≠ 0 := by simpa using h2
        refine Br.mk (fun h3 => ?_) (fun h3 => ?_)
        · have h3 := eq_of_beq h3
          refine ⟨rfl, _, StLe.bool3 (.inl rfl), _, rfl, ?_⟩
          cases h4 : (x.n == 1) with
          | true => have := eq_of_beq h4; exact (decide_eq_true (by omega)).symm
          | false => have := ne_of_beq_false h4; exact (decide_eq_false (by omega)).symm
        · have h3 := ne_of_beq_false h3
          exact ⟨rfl, _, StLe.bool3 (.inr (.inl ⟨rfl, rfl⟩)), _, rfl, (decide_eq_false (by omega)).symm⟩
      · have h2 : x.n = 0 := by simpa using h2
        exact ⟨rfl, _, StLe.bool3 (.inr (.inr ⟨rfl, rfl⟩)), _, rfl, (decide_eq_true (by omega)).symm⟩
    · have h1 : x.kind = 2 := by simpa using h1
      exact ⟨rfl, _, StLe.bool3 (.inr (.inr ⟨rfl, rfl⟩)), _, rfl, (decide_eq_true (by omega)).symm⟩
  rintro _ ⟨b, rfl, hb⟩
  refine Awp.ifs rfl (fun h1 => Awp.skip ?_) (fun h1 => ?_)
  · subst h1
    rw [← hb] at hJ
    exact ⟨rfl, _, .refl _ _, _, rfl, by rw [hJ]; simp⟩
  subst h1
  rw [← hb, Bool.not_false, Bool.true_and] at hJ
  refine (Awp.cut ⟨[1, 2, 3], 1, 0⟩ (fun st => ∃ b, st = ⟨[(1, .c (.loc 0 0)), (2, .c .ff), (3, .c (.v (.bool b)))], ⟨[(39, [.v (.int .i64 x.kind), .v (.int .i64 x.n), .v (.string x.s), .sl 1 (strR x.names), .sl 5 (Jsn.acs x.l)])], [], h⟩⟩ ∧ (!b) = (decide (x.kind = 4 ∨ x.s.size = 0) && u8B x.s)) (awp1 ?_) ?_ : Awp _ _ _ _)
  · refine Br.mk (fun h1 => ?_) (fun h1 => ?_)
    · have h1 : x.kind ≠ 4 := by simpa using h1
      refine Br.mk (fun h2 => ?_) (fun h2 => ?_)
      · have h2 : x.s.size ≠ 0 := of_decide_eq_true (by rw [← toList_ne]; exact h2)
        exact ⟨rfl, _, StLe.bool3 (.inr (.inl ⟨rfl, rfl⟩)), _, rfl, by rw [decide_eq_false (by omega)]; rfl⟩
      · have h2 : x.s.size = 0 := by
          have : decide (x.s.size ≠ 0) = false := by rw [← toList_ne]; exact h2
          have := of_decide_eq_false this; omega
        refine ⟨_, hv, ?_⟩
        refine ⟨rfl, _, StLe.bool3 (.inl rfl), _, rfl, ?_⟩
        rw [decide_eq_true (by omega)]; simp
    · have h1 : x.kind = 4 := by simpa using h1
      refine ⟨_, hv, ?_⟩
      refine ⟨rfl, _, StLe.bool3 (.inl rfl), _, rfl, ?_⟩
      rw [decide_eq_true (by omega)]; simp
  rintro _ ⟨b, rfl, hb⟩
  refine Awp.ifs rfl (fun h1 => Awp.skip ?_) (fun h1 => ?_)
  · subst h1
    rw [← hb] at hJ
    exact ⟨rfl, _, .refl _ _, _, rfl, by rw [hJ]; simp⟩
  subst h1
  rw [← hb, Bool.not_false, Bool.true_and] at hJ
  refine (Awp.cut ⟨[1, 2, 3], 1, 0⟩ (fun st => ∃ b, st = ⟨[(1, .c (.loc 0 0)), (2, .c .ff), (3, .c (.v (.bool b)))], ⟨[(39, [.v (.int .i64 x.kind), .v (.int .i64 x.n), .v (.string x.s), .sl 1 (strR x.names), .sl 5 (Jsn.acs x.l)])], [], h⟩⟩ ∧ (!b) = decide ((x.kind = 6 ∨ x.names.length = 0) ∧ (x.kind = 6 ∨ x.kind = 5 ∨ x.l.length = 0))) (awp1 ?_) ?_ : Awp _ _ _ _)
  · refine Br.mk (fun h1 => ?_) (fun h1 => ?_)
    · have h1 : x.kind ≠ 6 := by simpa using h1
      refine Br.mk (fun h2 => ?_) (fun h2 => ?_)
      · have h2 := of_decide_eq_true h2
        rw [hns] at h2
        exact ⟨rfl, _, StLe.bool3 (.inr (.inl ⟨rfl, rfl⟩)), _, rfl, (decide_eq_false (by omega)).symm⟩
      · have h2 := of_decide_eq_false h2
        rw [hns] at h2
        refine Br.mk (fun h3 => ?_) (fun h3 => ?_)
        · refine Br.mk (fun h4 => ?_) (fun h4 => ?_)
          · have h4 : x.kind ≠ 5 := by simpa using h4
            refine ⟨rfl, _, StLe.bool3 (.inl rfl), _, rfl, ?_⟩
            rw [hls]
            cases h5 : decide ((x.l.length : Int) > 0) with
            | true => have := of_decide_eq_true h5; exact (decide_eq_false (by omega)).symm
            | false => have := of_decide_eq_false h5; exact (decide_eq_true (by omega)).symm
          · have h4 : x.kind = 5 := by simpa using h4
            exact ⟨rfl, _, StLe.bool3 (.inr (.inr ⟨rfl, rfl⟩)), _, rfl, (decide_eq_true (by omega)).symm⟩
        · have h3 : x.kind = 6 := by simpa using h3
          exact absurd h3 h1
    · have h1 : x.kind = 6 := by simpa using h1
      refine Br.mk (fun h3 => ?_) (fun h3 => ?_)
      · have h3 : x.kind ≠ 6 := by simpa using h3
        exact absurd h1 h3
      · exact ⟨rfl, _, StLe.bool3 (.inr (.inr ⟨rfl, rfl⟩)), _, rfl, (decide_eq_true (by omega)).symm⟩
  rintro _ ⟨b, rfl, hb⟩
  refine Awp.ifs rfl (fun h1 => Awp.skip ?_) (fun h1 => ?_)
  · subst h1
    rw [← hb] at hJ
    exact ⟨rfl, _, .refl _ _, _, rfl, by rw [hJ]; simp⟩
  subst h1
  rw [← hb, Bool.not_false, Bool.true_and] at hJ
  refine awp1 ?_
  refine Br.mk (fun h1 => ?_) (fun h1 => ?_)
  · have h1 : x.kind = 6 := eq_of_beq h1
    rw [decide_eq_false (show ¬ x.kind ≠ 6 from fun e => e h1), Bool.false_or] at hJ
    refine Br.mk (fun h2 => ?_) (fun h2 => ?_)
    · have h2 : x.names.length ≠ x.l.length := by
        have h2 := h2
        rw [hns, hls] at h2
        simp at h2; omega
      rw [decide_eq_false h2] at hJ
      exact ⟨rfl, _, StLe.bool3 (.inr (.inl ⟨rfl, rfl⟩)), _, rfl, by rw [hJ]; simp⟩
    · have h2 : x.names.length = x.l.length := by
        have h2 := h2
        rw [hns, hls] at h2
        simp at h2; omega
      rw [decide_eq_true h2, Bool.true_and] at hJ
      refine ⟨_, hnm, ?_⟩
      exact ⟨rfl, _, StLe.bool3 (.inl rfl), _, rfl, by rw [hJ]; simp⟩
  · have h1 : x.kind ≠ 6 := ne_of_beq_false h1
    rw [decide_eq_true h1, Bool.true_or, Bool.true_and] at hJ
    exact ⟨rfl, _, StLe.bool3 (.inr (.inr ⟨rfl, rfl⟩)), _, rfl, by rw [hJ]; simp⟩
termination_by x
decreasing_by all_goals exact Jsn.size_mem hmem
end Go.Proofs.YtdgjpncflkpjfaaDoor

/-! The value of a thing: the contracts of json.Find, cell.symbol, OfJson. -/
set_option linter.unusedVariables false
set_option linter.unusedSimpArgs false
namespace Go.Proofs.YtdgjpncflkpjfaaDoor
open Aw

theorem rel_len {g : G} {o : List (Nat × Nat × Nat)} {n : Nat} {rows : List (List AC)} {y : Value} (h : RelT g o (.sl n rows) y) : rows.length ≤ lenMax := by
  have h4 : Rel g.I (.sl n rows) y := h
  cases h4 <;> first | assumption | simp_all
theorem jsn_lens {g : G} {x : Jsn} {r : List AV} {vs : List Value} (h : RelVs g [] (jAV x :: r) vs) : x.names.length ≤ lenMax ∧ x.l.length ≤ lenMax := by
  match vs, h with
  | y :: _, h =>
    obtain ⟨ys, _, h⟩ := h.1
    match ys, h with
    | [_, _, _, _, _], h =>
      have h1 := rel_len h.2.2.2.1
      have h2 := rel_len h.2.2.2.2.1
      rw [strR_len] at h1
      rw [Jsn.acs_len] at h2
      exact ⟨h1, h2⟩
theorem idxS_range (x : ByteArray) : ∀ (l : List ByteArray) (i : Nat), idxS x i l = -1 ∨ (i : Int) ≤ idxS x i l ∧ idxS x i l < (i + l.length : Nat)
  | [], i => .inl rfl
  | y :: l, i => by
    unfold idxS
    split
    · exact .inr ⟨Int.le_refl _, by simp only [List.length_cons]; omega⟩
    · rcases idxS_range x l (i + 1) with h | ⟨h1, h2⟩
      · exact .inl h
      · exact .inr ⟨by omega, by simp only [List.length_cons]; omega⟩

/-- The thing of a name. -/
def findO (x : Jsn) (name : ByteArray) : Jsn × Bool :=
  if x.kind ≠ 6 ∨ idxS name 0 x.names < 0 then (zeroJ, false) else match x.l[(idxS name 0 x.names).toNat]? with
    | some y => (y, true)
    | none => (zeroJ, false)
def jpairAV (o : Jsn × Bool) : AV := .tup [.agg [.v (.int .i64 o.1.kind), .v (.int .i64 o.1.n), .v (.string o.1.s), .sl 1 (strR o.1.names), .sl 5 (Jsn.acs o.1.l)], .c (.v (.bool o.2))]
theorem leFind0 {o : Jsn × Bool} (h : o = (zeroJ, false)) : VLe (.tup [.agg [.v (.int .i64 0), .v (.int .i64 0), .v (.string ⟨#[]⟩), .nil, .nil], .c (.v (.bool false))]) (jpairAV o) := by
  subst h
  refine VLe.tup2 (VLe.agg (xs := [_, _, _, .nil, .nil]) (ys := [_, _, _, .sl 1 [], .sl 5 []]) ⟨CLe.refl _, CLe.refl _, CLe.refl _, CLe.nil (by decide), CLe.nil (by decide), trivial⟩) (VLe.refl _)
theorem leFind1 {o : Jsn × Bool} {y : Jsn} (h : o = (y, true)) : VLe (.tup [.agg [.v (.int .i64 y.kind), .v (.int .i64 y.n), .v (.string y.s), .sl 1 (strR y.names), .sl 5 (Jsn.acs y.l)], .c (.v (.bool true))]) (jpairAV o) := by
  subst h
  refine VLe.tup2 (VLe.refl _) (VLe.refl _)

set_option maxRecDepth 8000 in
theorem find_pure (x : Jsn) (name : ByteArray) : PureA Tryd.prog 55 [jAV x, .c (.v (.string name))] (jpairAV (findO x name)) := by
  refine PureA.le fun h => ?_
  refine callsA_of (D := D1 31 [] [] [14, 18]) ty_ok mixed Tryd.func55 rfl (by kernel_rfl) (by kernel_rfl) (by simp [D1]) ?_
  intro g vs hr
  obtain ⟨l1, l2⟩ := jsn_lens hr
  clear hr
  have hidx := index_pure x.names name l1
  have hrange := idxS_range name x.names 0
  obtain ⟨R, hR⟩ : ∃ R, R = findO x name := ⟨_, rfl⟩
  rw [← hR]
  unfold findO at hR
  have hls : (Jsn.acs x.l).length = x.l.length := Jsn.acs_len _
  generalize idxS name 0 x.names = i at *
  rw [jAV]
  refine ⟨_, hidx, ?_⟩
  refine Br.mk (fun h1 => ?_) (fun h1 => ?_)
  · rw [if_pos (.inl (by simpa using h1))] at hR
    exact ⟨⟨_, rfl, leFind0 hR⟩, rfl⟩
  have h1 : x.kind = 6 := by simpa using h1
  refine Br.mk (fun h2 => ?_) (fun h2 => ?_)
  · rw [if_pos (.inr (of_decide_eq_true h2))] at hR
    exact ⟨⟨_, rfl, leFind0 hR⟩, rfl⟩
  have h2 := of_decide_eq_false h2
  rw [if_neg (fun e => e.elim (fun e => e h1) h2)] at hR
  refine Br.mk (fun h3 => ?_) (fun h3 => ?_)
  · have h3 := of_decide_eq_true h3
    rw [hls] at h3
    rw [List.getElem?_eq_none (by omega)] at hR
    exact ⟨⟨_, rfl, leFind0 hR⟩, rfl⟩
  · have h3 := of_decide_eq_false h3
    rw [hls] at h3
    have hlt : i.toNat < x.l.length := by omega
    have hy : x.l[i.toNat]? = some x.l[i.toNat] := List.getElem?_eq_getElem hlt
    rw [hy] at hR
    refine ⟨_, ⟨by omega, Jsn.acs_get hy⟩, ?_⟩
    exact ⟨⟨_, rfl, leFind1 hR⟩, rfl⟩

def symN : ByteArray := ⟨#[115, 121, 109]⟩
/-- The symbol that a thing tells. -/
def symO (x : Jsn) : Val × Bool :=
  if (findO x symN).2 = true ∧ x.l.length = 1 ∧ (findO x symN).1.kind = 4 ∧ nameB (findO x symN).1.s = true then (⟨3, 0, (findO x symN).1.s, []⟩, true) else (zeroV, false)
def bpairAV (o : Val × Bool) : AV := .tup [.agg [.v (.int .i64 o.1.kind), .v (.int .i64 o.1.n), .v (.string o.1.s), .sl 4 (Val.acs o.1.l)], .c (.v (.bool o.2))]
theorem leSym0 {o : Val × Bool} (h : o = (zeroV, false)) : VLe (.tup [.agg [.v (.int .i64 0), .v (.int .i64 0), .v (.string ⟨#[]⟩), .nil], .c (.v (.bool false))]) (bpairAV o) := by
  subst h
  refine VLe.tup2 (VLe.agg (xs := [_, _, _, .nil]) (ys := [_, _, _, .sl 4 []]) ⟨CLe.refl _, CLe.refl _, CLe.refl _, CLe.nil (by decide), trivial⟩) (VLe.refl _)
theorem leSym1 {o : Val × Bool} {s : ByteArray} (h : o = (⟨3, 0, s, []⟩, true)) : VLe (.tup [.agg [.v (.int .i64 3), .v (.int .i64 0), .v (.string s), .nil], .c (.v (.bool true))]) (bpairAV o) := by
  subst h
  refine VLe.tup2 (VLe.agg (xs := [_, _, _, .nil]) (ys := [_, _, _, .sl 4 []]) ⟨CLe.refl _, CLe.refl _, CLe.refl _, CLe.nil (by decide), trivial⟩) (VLe.refl _)
set_option maxRecDepth 8000 in
theorem csymbol_pure (x : Jsn) : PureA Tryd.prog 32 [jAV x] (bpairAV (symO x)) := by
  refine PureA.le fun h => ?_
  refine callsA_of (D := D1 34 [] [] [13, 19, 24]) ty_ok mixed Tryd.func32 rfl (by kernel_rfl) (by kernel_rfl) (by simp [D1]) ?_
  intro g vs hr
  clear hr
  have hfind := find_pure x symN
  obtain ⟨R, hR⟩ : ∃ R, R = symO x := ⟨_, rfl⟩
  rw [← hR]
  unfold symO at hR
  have hls : (Jsn.acs x.l).length = x.l.length := Jsn.acs_len _
  generalize findO x symN = F at *
  obtain ⟨y, ok⟩ := F
  dsimp only at hR
  have hname := isName_pure y.s
  simp only [jpairAV, symN] at hfind
  rw [jAV] at hfind ⊢
  refine ⟨_, hfind, ?_⟩
  refine Br.mk (fun h1 => ?_) (fun h1 => ?_)
  · rw [if_neg (fun e => by rw [e.1] at h1; cases h1)] at hR
    exact ⟨⟨_, rfl, leSym0 hR⟩, rfl⟩
  refine Br.mk (fun h2 => ?_) (fun h2 => ?_)
  · have h2 : x.l.length ≠ 1 := by have h2 := h2; rw [hls] at h2; simp at h2; omega
    rw [if_neg (fun e => h2 e.2.1)] at hR
    exact ⟨⟨_, rfl, leSym0 hR⟩, rfl⟩
  have h2 : x.l.length = 1 := by have h2 := h2; rw [hls] at h2; simp at h2; omega
  refine Br.mk (fun h3 => ?_) (fun h3 => ?_)
  · have h3 : y.kind ≠ 4 := by simpa using h3
    rw [if_neg (fun e => h3 e.2.2.1)] at hR
    exact ⟨⟨_, rfl, leSym0 hR⟩, rfl⟩
  have h3 : y.kind = 4 := by simpa using h3
  refine ⟨_, hname, Br.mk (fun h4 => ?_) (fun h4 => ?_)⟩
  · rw [if_neg (fun e => by rw [e.2.2.2] at h4; cases h4)] at hR
    exact ⟨⟨_, rfl, leSym0 hR⟩, rfl⟩
  · rw [if_pos ⟨not_f h1, h2, h3, not_f h4⟩] at hR
    exact ⟨⟨_, rfl, leSym1 hR⟩, rfl⟩
end Go.Proofs.YtdgjpncflkpjfaaDoor

/-! The value of a thing: the contract of cell.OfJson. -/
set_option linter.unusedVariables false
set_option linter.unusedSimpArgs false
namespace Go.Proofs.YtdgjpncflkpjfaaDoor
open Aw

/-- The kinds that a value and its thing have in common, as the package-level variable has them. -/
def plainC : List AC := [.v (.bool true), .v (.bool true), .v (.bool true), .v (.bool false), .v (.bool true), .v (.bool true), .v (.bool false)]
def plainB (k : Int) : Bool := decide (k ≠ 3 ∧ k ≠ 6)
theorem plain_get {k : Int} (h0 : 0 ≤ k) (h1 : k ≤ 6) : plainC[0 + k.toNat * 1]? = some (.v (.bool (plainB k))) := by
  have : k = 0 ∨ k = 1 ∨ k = 2 ∨ k = 3 ∨ k = 4 ∨ k = 5 ∨ k = 6 := by omega
  rcases this with rfl | rfl | rfl | rfl | rfl | rfl | rfl <;> rfl
/-- The variable's block. -/
def plainH (T : Nat) : HO := .cells T plainC
noncomputable def D8 (nt : Nat) (im esc gd ll : List Nat) : Cfg2 := { P := Tryd.prog, ty := ty, nt := nt, pure := fun f => !im.any (Nat.beq f), esc := fun t => esc.any (Nat.beq t), lload := fun t => ll.any (Nat.beq t), gd := fun t => gd.any (Nat.beq t) }

mutual
/-- The value that a right thing tells; is it one that can? -/
def ofJ : Jsn → Val
  | ⟨k, n, s, ns, l⟩ => if plainB k then ⟨k, n, s, ofJs l⟩ else (symO ⟨k, n, s, ns, l⟩).1
def ofJs : List Jsn → List Val
  | [] => []
  | x :: xs => ofJ x :: ofJs xs
end
mutual
def goodJ : Jsn → Bool
  | ⟨k, n, s, ns, l⟩ => if plainB k then goodJs l else (symO ⟨k, n, s, ns, l⟩).2
def goodJs : List Jsn → Bool
  | [] => true
  | x :: xs => goodJ x && goodJs xs
end
mutual
def Jsn.nodes : Jsn → Int
  | ⟨k, n, s, ns, l⟩ => 1 + Jsn.nodess l
def Jsn.nodess : List Jsn → Int
  | [] => 0
  | x :: xs => x.nodes + Jsn.nodess xs
end
theorem ofJ_def (x : Jsn) : ofJ x = if plainB x.kind then ⟨x.kind, x.n, x.s, ofJs x.l⟩ else (symO x).1 := by cases x; rfl
theorem goodJ_def (x : Jsn) : goodJ x = if plainB x.kind then goodJs x.l else (symO x).2 := by cases x; rfl
theorem jnodes_def (x : Jsn) : x.nodes = 1 + Jsn.nodess x.l := by cases x; rfl
theorem ofJs_map : ∀ l : List Jsn, ofJs l = l.map ofJ
  | [] => rfl
  | x :: xs => by simp [ofJs, ofJs_map xs]
theorem goodJs_all : ∀ l : List Jsn, goodJs l = l.all goodJ
  | [] => rfl
  | x :: xs => by simp [goodJs, goodJs_all xs]
mutual
theorem jnodes_pos : ∀ x : Jsn, 1 ≤ x.nodes
  | ⟨k, n, s, ns, l⟩ => by have := jnodess_len l; show 1 ≤ 1 + Jsn.nodess l; omega
theorem jnodess_len : ∀ l : List Jsn, (l.length : Int) ≤ Jsn.nodess l
  | [] => Int.le_refl 0
  | x :: xs => by have := jnodes_pos x; have := jnodess_len xs; show _ ≤ x.nodes + Jsn.nodess xs; simp only [List.length_cons]; omega
end
theorem jnodes_mem : ∀ {l : List Jsn}, ∀ x ∈ l, x.nodes ≤ Jsn.nodess l
  | y :: l, _, .head _ => by have := jnodess_len l; show y.nodes ≤ y.nodes + Jsn.nodess l; omega
  | y :: l, x, .tail _ h => by have := jnodes_mem x h; have := jnodes_pos y; show x.nodes ≤ y.nodes + Jsn.nodess l; omega

def jfnV (bg bf : Nat) : Value := .func (.func 31) #[] #[.pointer (some ⟨bg, 0, none⟩), .pointer (some ⟨bf, 0, none⟩)]
def pB (b : Nat) : AV := .c (.v (.pointer (some ⟨b, 0, none⟩)))
def vAV (v : Val) : AV := .agg [.v (.int .i64 v.kind), .v (.int .i64 v.n), .v (.string v.s), .sl 4 (Val.acs v.l)]
/-- What a call on a thing leaves. -/
structure OfK (v : Val) (ok : Bool) (bg : Nat) (good : Bool) (h : Heap) (e : AEnd) (h' : Heap) : Prop where
  r : ∃ r0, e = .ret r0 ∧ VLe r0 (vAV v)
  g : h' bg = some (.cells 4 [.v (.bool (good && ok))])
  k : ∀ q y, q ≠ bg → h q = some y → h' q = some y
theorem leV {x : Val} {k n : Int} {s : ByteArray} {l : List Val} (h : x = ⟨k, n, s, l⟩) : VLe (.agg [.v (.int .i64 k), .v (.int .i64 n), .v (.string s), .sl 4 (Val.acs l)]) (vAV x) := by
  subst h; exact VLe.refl _
theorem leVn {x : Val} {k n : Int} {s : ByteArray} (h : x = ⟨k, n, s, []⟩) : VLe (.agg [.v (.int .i64 k), .v (.int .i64 n), .v (.string s), .nil]) (vAV x) := by
  subst h
  exact VLe.agg (xs := [_, _, _, .nil]) (ys := [_, _, _, .sl 4 []]) ⟨CLe.refl _, CLe.refl _, CLe.refl _, CLe.nil (by decide), trivial⟩
theorem acs_snoc' (a : List Val) (x : Val) : Val.acs a ++ [[AC.v (.int .i64 x.kind), .v (.int .i64 x.n), .v (.string x.s), .sl 4 (Val.acs x.l)]] = Val.acs (a ++ [x]) := by
  rw [← Val.ac_eq x, Val.acs_eq, Val.acs_eq, List.map_append]; rfl

/-- Less is known of what is answered, and of what is shared. -/
theorem Aw.CallsA.exact {P : Program} {f : Nat} {args : List AV} {h : Heap} {K : AEnd → Heap → Prop} {r : AV} (c : CallsA P f args h K) (hk : ∀ e h', K e h' → (∃ r0, e = .ret r0 ∧ VLe r0 r)) : CallsA P f args h fun e h' => e = .ret r ∧ ∃ e0, K e0 h' :=
  c.le fun e h' hK => by
    obtain ⟨r0, rfl, hle⟩ := hk e h' hK
    exact ⟨.ret r, hle, rfl, _, hK⟩

set_option maxRecDepth 8000 in
set_option maxHeartbeats 1000000 in
theorem ofJ_calls (x : Jsn) (hn : x.nodes < 1000000) (hx : x.right = true) (bg bf : Nat) (h0g : bg ≠ 0) (hgf : bg ≠ bf) (good : Bool) (h : Heap) (T : Nat) (h0 : h 0 = some (plainH T))
    (hg : h bg = some (.cells 4 [.v (.bool good)])) (hf : h bf = some (.cells 53 [.v (jfnV bg bf)])) :
    CallsA Tryd.prog 31 [jAV x, pB bg, pB bf] h (fun e h' => OfK (ofJ x) (goodJ x) bg good h e h') := by
  refine callsA_of (D := D8 49 [31] [] [21] [40]) ty_ok mixed Tryd.func31 rfl (by kernel_rfl) (by kernel_rfl) (by simp [D8]) ?_
  intro g vs hr
  clear hr
  have hdef := jright_def x
  rw [hx] at hdef
  have hkind : 0 ≤ x.kind ∧ x.kind ≤ 6 ∧ x.kind ≠ 3 := by
    refine of_decide_eq_true ?_
    cases e : decide (0 ≤ x.kind ∧ x.kind ≤ 6 ∧ x.kind ≠ 3) with
    | true => rfl
    | false => rw [e] at hdef; simp at hdef
  have hrs : Jsn.rights x.l = true := by
    cases e : Jsn.rights x.l with
    | true => rfl
    | false => rw [e] at hdef; simp at hdef
  have hrx : ∀ y ∈ x.l, y.right = true := by rw [jrights_all] at hrs; exact List.all_eq_true.1 hrs
  have hsym := csymbol_pure x
  obtain ⟨R, hR⟩ : ∃ R, R = ofJ x := ⟨_, rfl⟩
  obtain ⟨B, hB⟩ : ∃ B, B = goodJ x := ⟨_, rfl⟩
  rw [← hR, ← hB]
  rw [ofJ_def] at hR
  rw [goodJ_def] at hB
  have hlen : (x.l.length : Int) < 1000000 := by have := jnodess_len x.l; have := jnodes_def x; omega
  have hls : (Jsn.acs x.l).length = x.l.length := Jsn.acs_len _
  rw [jAV] at hsym ⊢
  refine Pre.mk ⟨hkind.1, by omega⟩ ?_
  refine ⟨_, _, h0, ?_⟩
  refine loadOf_at rfl (plain_get hkind.1 hkind.2.1) ?_
  refine Br.mk (fun h1 => ?_) (fun h1 => ?_)
  · have h1 := not_t h1
    rw [if_neg (by rw [h1]; simp)] at hR hB
    generalize symO x = O at hsym hR hB
    obtain ⟨v, ok⟩ := O
    dsimp only at hR hB
    simp only [bpairAV] at hsym
    refine ⟨_, hsym, ?_⟩
    refine ⟨_, _, hg, ?_⟩
    refine Br.mk (fun h2 => ?_) (fun h2 => ?_)
    · refine ⟨_, _, hg, by show 1 ≤ 1; decide, ?_⟩
      refine ⟨⟨_, rfl, by rw [hR]; exact VLe.refl _⟩, (upd_same _ _ _).trans ?_, fun q y hq hh => (upd_ne _ _ hq).trans hh⟩
      rw [hB, h2]; rfl
    · refine ⟨_, _, hg, by show 1 ≤ 1; decide, ?_⟩
      refine ⟨⟨_, rfl, by rw [hR]; exact VLe.refl _⟩, (upd_same _ _ _).trans ?_, fun q y hq hh => (upd_ne _ _ hq).trans hh⟩
      rw [h2]; rfl
  have h1 := not_f h1
  rw [if_pos h1] at hR hB
  rw [ofJs_map] at hR
  rw [goodJs_all] at hB
  have hpre : ∀ n : Nat, n ≤ 1000001 → n * 56 ≤ lenMax ∧ n ≤ lenMax := fun n hn => by unfold lenMax; omega
  refine LoopA.mk ⟨⟨[2, 4, 7, 33, 34, 35], 3, 1⟩, fun n st => ∃ (i : Nat) (j : Int) (H : Heap), i ≤ x.l.length ∧ n = x.l.length - i ∧ j = i ∧ H bg = some (.cells 4 [.v (.bool (good && (x.l.take i).all goodJ))]) ∧ (∀ q y, q ≠ bg → h q = some y → H q = some y) ∧
      ((i = 0 ∧ st = ⟨[(2, pB bf), (4, .c (.loc 1 0)), (7, .c (.loc 2 0)), (33, .c (.sl 5 (Jsn.acs x.l))), (34, .c (.v (.int .i64 (Jsn.acs x.l).length))), (35, .c (.v (.int .i64 j)))], ⟨[(39, [.v (.int .i64 x.kind), .v (.int .i64 x.n), .v (.string x.s), .sl 1 (strR x.names), .sl 5 (Jsn.acs x.l)]), (24, [.v (.int .i64 0), .v (.int .i64 0), .v (.string ⟨#[]⟩), .nil]), (24, [.v (.int .i64 x.kind), .v (.int .i64 x.n), .v (.string x.s), .nil])], [], H⟩⟩) ∨
       (∃ rows len, 0 < i ∧ rows = Val.acs ((x.l.take i).map ofJ) ∧ len = i ∧ st = ⟨[(2, pB bf), (4, .c (.loc 1 0)), (7, .c (.loc 2 0)), (33, .c (.sl 5 (Jsn.acs x.l))), (34, .c (.v (.int .i64 (Jsn.acs x.l).length))), (35, .c (.v (.int .i64 j)))], ⟨[(39, [.v (.int .i64 x.kind), .v (.int .i64 x.n), .v (.string x.s), .sl 1 (strR x.names), .sl 5 (Jsn.acs x.l)]), (24, [.v (.int .i64 0), .v (.int .i64 0), .v (.string ⟨#[]⟩), .nil]), (24, [.v (.int .i64 x.kind), .v (.int .i64 x.n), .v (.string x.s), .own 0 4 rows])], [(24, 4, len)], H⟩⟩)),
    ⟨rfl, x.l.length, _, .refl _ _, 0, _, _, Nat.zero_le _, rfl, rfl, by rw [hg]; simp, fun q y _ hh => hh, .inl ⟨rfl, rfl⟩⟩, ?_⟩
  rintro n st ⟨i, j, H, hi, rfl, rfl, hHg, hHk, hst⟩
  have hts : ∀ (hlt : i < x.l.length), Val.acs ((x.l.take (i + 1)).map ofJ) = Val.acs ((x.l.take i).map ofJ) ++ [[AC.v (.int .i64 (ofJ x.l[i]).kind), .v (.int .i64 (ofJ x.l[i]).n), .v (.string (ofJ x.l[i]).s), .sl 4 (Val.acs (ofJ x.l[i]).l)]] := fun hlt => by
    rw [acs_snoc', List.take_succ_eq_append_getElem hlt, List.map_append]; rfl
  have hga : ∀ (hlt : i < x.l.length), (x.l.take (i + 1)).all goodJ = ((x.l.take i).all goodJ && goodJ x.l[i]) := fun hlt => by
    rw [List.take_succ_eq_append_getElem hlt, List.all_append]; simp
  have hI : ∀ (hlt : i < x.l.length), CallsA Tryd.prog 31 [jAV x.l[i], pB bg, pB bf] H (fun e h' => e = .ret (vAV (ofJ x.l[i])) ∧ ∃ e0, OfK (ofJ x.l[i]) (goodJ x.l[i]) bg (good && (x.l.take i).all goodJ) H e0 h') := fun hlt => by
    have hmem : x.l[i] ∈ x.l := List.getElem_mem hlt
    exact (ofJ_calls x.l[i] (by have := jnodes_mem _ hmem; have := jnodes_def x; omega) (hrx _ hmem) bg bf h0g hgf _ H T (hHk _ _ (Ne.symm h0g) h0) hHg (hHk _ _ (Ne.symm hgf) hf)).exact fun e h' hK => hK.r
  rcases hst with ⟨rfl, rfl⟩ | ⟨rows, len, hpos, rfl, rfl, rfl⟩
  · refine Br.mk (fun hb => ?_) (fun hb => ?_)
    · have hlt : 0 < x.l.length := by have := of_decide_eq_true hb; rw [hls] at this; omega
      have hy : x.l[0]? = some x.l[0] := List.getElem?_eq_getElem hlt
      refine ⟨_, ⟨by omega, Jsn.acs_get hy⟩, ?_⟩
      refine Pre.mk (by kernel_rfl) ?_
      refine ⟨_, _, hHk _ _ (Ne.symm hgf) hf, ?_⟩
      refine (hI hlt).mono ?_
      rintro e H2 ⟨rfl, e0, hK⟩
      have hp0 : 0 < 4 ∧ 1 * 56 ≤ lenMax ∧ 1 ≤ lenMax := ⟨by omega, hpre 1 (by omega)⟩
      refine Pre.mk hp0 ?_
      exact ⟨rfl, x.l.length - 1, by omega, _, .refl _ _, 1, _, _, by omega, rfl, by rw [wrap64] <;> omega, by rw [hK.g, hga hlt, Bool.and_assoc], fun q y hq hh => hK.k q y hq (hHk q y hq hh), .inr ⟨_, _, by omega, by rw [hts hlt]; rfl, rfl, rfl⟩⟩
    · have he : x.l = [] := by
        have : ¬ 0 < x.l.length := by have := of_decide_eq_false hb; rw [hls] at this; omega
        exact List.eq_nil_of_length_eq_zero (by omega)
      rw [he] at hR hB
      refine ⟨⟨_, rfl, leVn hR⟩, ?_, hHk⟩
      refine hHg.trans ?_
      rw [hB]; simp
  · refine Br.mk (fun hb => ?_) (fun hb => ?_)
    · have hlt : len < x.l.length := by have := of_decide_eq_true hb; rw [hls] at this; omega
      have hy : x.l[len]? = some x.l[len] := List.getElem?_eq_getElem hlt
      refine ⟨_, ⟨by omega, Jsn.acs_get hy⟩, ?_⟩
      refine Pre.mk (by kernel_rfl) ?_
      refine ⟨_, _, hHk _ _ (Ne.symm hgf) hf, ?_⟩
      refine (hI hlt).mono ?_
      rintro e H2 ⟨rfl, e0, hK⟩
      have hp1 : 24 = 24 ∧ 4 = 4 ∧ 4 = 4 ∧ (Val.acs ((x.l.take len).map ofJ)).length = len ∧ (len + 1) * 56 ≤ lenMax ∧ len + 1 ≤ lenMax := ⟨rfl, rfl, rfl, by rw [Val.acs_len, List.length_map, List.length_take]; omega, hpre _ (by omega)⟩
      refine Pre.mk hp1 ?_
      exact ⟨rfl, x.l.length - (len + 1), by omega, _, .refl _ _, len + 1, _, _, by omega, rfl, by rw [wrap64] <;> omega, by rw [hK.g, hga hlt, Bool.and_assoc], fun q y hq hh => hK.k q y hq (hHk q y hq hh), .inr ⟨_, _, by omega, (hts hlt).symm, rfl, rfl⟩⟩
    · have he : len = x.l.length := by have := of_decide_eq_false hb; rw [hls] at this; omega
      subst he
      rw [List.take_length] at *
      refine ⟨⟨_, rfl, leV hR⟩, ?_, hHk⟩
      refine hHg.trans ?_
      rw [hB]
termination_by x
decreasing_by all_goals exact Jsn.size_mem hmem

/-! ### OfJson -/
theorem deeps_nodes : ∀ (l : List Val) (m : Int), (∀ x ∈ l, x.deep ≤ x.nodes) → 0 ≤ m → Val.deeps m l ≤ max m (Val.nodess l)
  | [], m, _, h0 => by show m ≤ max m 0; omega
  | x :: l, m, h, h0 => by
    have h1 := h x (by simp)
    have h2 := deeps_nodes l (max m x.deep) (fun y hy => h y (by simp [hy])) (by omega)
    have h3 : Val.nodess (x :: l) = x.nodes + Val.nodess l := rfl
    have h4 : Val.deeps m (x :: l) = Val.deeps (max m x.deep) l := rfl
    have h5 := Val.nodess_nn l
    have h6 := x.nodes_pos
    omega
theorem deep_nodes (v : Val) : v.deep ≤ v.nodes := by
  have h1 := deeps_nodes v.l 0 (fun x hx => deep_nodes x) (by omega)
  have h2 := deep_def v
  have h3 := nodes_def v
  have h4 := Val.nodess_nn v.l
  split at h2 <;> omega
termination_by v
decreasing_by exact Val.size_mem hx
theorem ofJ_nodes (x : Jsn) : (ofJ x).nodes ≤ x.nodes := by
  rw [ofJ_def, jnodes_def]
  split
  · rw [nodes_def]
    show 1 + Val.nodess (ofJs x.l) ≤ _
    rw [ofJs_map]
    have : ∀ l : List Jsn, (∀ y ∈ l, (ofJ y).nodes ≤ y.nodes) → Val.nodess (l.map ofJ) ≤ Jsn.nodess l := by
      intro l
      induction l with
      | nil => intro _; exact Int.le_refl 0
      | cons y l ih =>
        intro h
        have h1 := h y (by simp)
        have h2 := ih fun z hz => h z (by simp [hz])
        show (ofJ y).nodes + Val.nodess (l.map ofJ) ≤ y.nodes + Jsn.nodess l
        omega
    have := this x.l fun y hy => ofJ_nodes y
    omega
  · have h1 : 0 ≤ Jsn.nodess x.l := by have := jnodess_len x.l; omega
    have h2 : ∀ (k n : Int) (s : ByteArray), (Val.mk k n s []).nodes = 1 := fun k n s => by rw [nodes_def]; rfl
    unfold symO
    split
    · rw [h2]; omega
    · unfold zeroV; rw [h2]; omega
termination_by x
decreasing_by exact Jsn.size_mem hy

def ofJO (x : Jsn) : Val × Int :=
  if x.right = false then (zeroV, 8) else if goodJ x = false then (zeroV, 8) else if (ofJ x).deep > 4 then (zeroV, 3) else if rightB u8B (ofJ x) = false then (zeroV, 4) else (ofJ x, 0)
theorem upd_keep {h H : Heap} {b : Nat} {x : HO} (hb : h b = none) (hk : ∀ q y, h q = some y → H q = some y) : ∀ q y, h q = some y → upd H b x q = some y := fun q y hq => by
  rw [upd_ne _ _ (fun e => by rw [e, hb] at hq; cases hq)]; exact hk q y hq

set_option maxRecDepth 8000 in
set_option maxHeartbeats 1000000 in
theorem ofJson_calls (x : Jsn) (hok : x.ok) (hn : x.nodes < 1000000) (h : Heap) (T : Nat) (h0 : h 0 = some (plainH T)) :
    CallsA Tryd.prog 14 [jAV x] h fun e h' => e = .ret (pairAV (ofJO x)) ∧ ∀ q y, h q = some y → h' q = some y := by
  refine CallsA.le (K := fun e h' => (∃ r0, e = .ret r0 ∧ VLe r0 (pairAV (ofJO x))) ∧ ∀ q y, h q = some y → h' q = some y) ?_ fun e h' ⟨⟨r0, h1, h2⟩, h3⟩ => ⟨.ret (pairAV (ofJO x)), by rw [h1]; exact h2, rfl, h3⟩
  refine callsA_of (D := D8 30 [31] [4, 5] [] []) ty_ok mixed Tryd.func14 rfl (by kernel_rfl) (by kernel_rfl) (by simp [D8]) ?_
  intro g vs hr
  clear hr
  have hright := jright_pure x hok
  obtain ⟨R, hR⟩ : ∃ R, R = ofJO x := ⟨_, rfl⟩
  rw [← hR]
  unfold ofJO at hR
  have hnv := ofJ_nodes x
  have hdv := deep_nodes (ofJ x)
  have hdeep := deep_pure (ofJ x) (by omega)
  have hvr := right_pure uvalid_ok (ofJ x) (by omega) (by omega)
  have hcall := ofJ_calls x hn
  rw [Val.ac_eq] at hdeep hvr
  simp only [jAV, vAV] at hright hcall ⊢
  refine ⟨_, hright, Br.mk (fun h1 => ?_) (fun h1 => ?_)⟩
  · rw [if_pos (not_t h1)] at hR
    exact ⟨⟨_, rfl, leLeaf hR⟩, fun q y hq => hq⟩
  have h1 := not_f h1
  rw [if_neg (by rw [h1]; simp)] at hR
  intro bg hbg
  have hbg : h bg = none := hbg
  refine ⟨_, _, upd_same _ _ _, by show 1 ≤ 1; decide, ?_⟩
  intro bf hbf
  have hbf : upd (upd h bg (.cells 4 [.ff])) bg (.cells 4 [.v (.bool true)]) bf = none := hbf
  have hne : bf ≠ bg := fun e => by rw [e, upd_same] at hbf; cases hbf
  rw [upd_ne _ _ hne, upd_ne _ _ hne] at hbf
  refine ⟨_, _, upd_same _ _ _, by show 1 ≤ 1; decide, ?_⟩
  refine ⟨_, _, upd_same _ _ _, ?_⟩
  have k1 : ∀ q y, h q = some y → upd (upd (upd (upd h bg (.cells 4 [.ff])) bg (.cells 4 [.v (.bool true)])) bf (.cells 53 [.v .nilFunc])) bf (.cells 53 [.v (jfnV bg bf)]) q = some y :=
    upd_keep hbf (upd_keep hbf (upd_keep hbg (upd_keep hbg fun q y hq => hq)))
  have hg0 : bg ≠ 0 := fun e => by rw [e, h0] at hbg; cases hbg
  refine ((hcall h1 bg bf hg0 (Ne.symm hne) true _ T (k1 _ _ h0) (by rw [upd_ne _ _ (Ne.symm hne), upd_ne _ _ (Ne.symm hne), upd_same]) (upd_same _ _ _)).exact fun e h' hK => hK.r).mono ?_
  rintro e h2 ⟨rfl, e0, hK⟩
  have k2 : ∀ q y, h q = some y → h2 q = some y := fun q y hq => hK.k q y (fun e => by rw [e, hbg] at hq; cases hq) (k1 q y hq)
  refine ⟨_, _, hK.g, ?_⟩
  refine Br.mk (fun h3 => ?_) (fun h3 => ?_)
  · have h3 : goodJ x = false := by simpa using h3
    rw [if_pos h3] at hR
    exact ⟨⟨_, rfl, leLeaf hR⟩, k2⟩
  have h3 : goodJ x = true := by simpa using h3
  rw [if_neg (by rw [h3]; simp)] at hR
  refine ⟨_, hdeep, Br.mk (fun h4 => ?_) (fun h4 => ?_)⟩
  · rw [if_pos (of_decide_eq_true h4)] at hR
    exact ⟨⟨_, rfl, leLeaf hR⟩, k2⟩
  rw [if_neg (of_decide_eq_false h4)] at hR
  refine ⟨_, hvr, Br.mk (fun h5 => ?_) (fun h5 => ?_)⟩
  · rw [if_pos (not_t h5)] at hR
    exact ⟨⟨_, rfl, leLeaf hR⟩, k2⟩
  · rw [if_neg (by rw [not_f h5]; simp)] at hR
    exact ⟨⟨_, rfl, lePair hR⟩, k2⟩
theorem ofJson_same (x : Jsn) (hok : x.ok) (hn : x.nodes < 1000000) (h : Heap) (T : Nat) (h0 : h 0 = some (plainH T)) : CallsA Tryd.prog 14 [jAV x] h fun e h' => e = .ret (pairAV (ofJO x)) ∧ h' = h :=
  have c := ofJson_calls x hok hn h T h0
  ⟨c.fn, fun g w vs hb hs hr => (c.run g w vs hb hs hr).mono fun e w' ⟨g', r', h', a1, a2, a3, a4, a5, a6⟩ => ⟨g', r', h, a1, a2, Sim.less a6 a3, a4, a5, rfl⟩⟩
end Go.Proofs.YtdgjpncflkpjfaaDoor
