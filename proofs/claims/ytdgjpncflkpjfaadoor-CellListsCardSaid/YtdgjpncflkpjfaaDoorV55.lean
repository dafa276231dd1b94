/- Things of values, and when two things are the same: the contracts of cell.thing, ToJson, json.Same. -/
import Derived.Test.YtdgjpncflkpjfaaDoorV53
set_option linter.unusedVariables false
set_option linter.unusedSimpArgs false
namespace Go.Proofs.YtdgjpncflkpjfaaDoor
open Aw

/-- Rows of which less is told. -/
def RLe (a b : AC) : Prop := ∀ (I : Im) (y : Value), Rel I a y → Rel I b y
theorem RLe.refl (a : AC) : RLe a a := fun _ _ h => h
theorem RLe.nil {n : Nat} (hn : 0 < n) : RLe .nil (.sl n []) := fun I y h => by
  cases h
  exact Rel.sl n [] none 0 (fun _ _ => undef) hn (Nat.le_refl _) (by simp) (by simp) (by simp) (by simp)
theorem RLe.sl {n : Nat} {rows rows' : List (List AC)} (h : All2 (All2 RLe) rows rows') : RLe (.sl n rows) (.sl n rows') := by
  intro I y hy
  have hl := h.length
  have back : ∀ (i k : Nat) (r' : List AC) (x' : AC), rows'[i]? = some r' → r'[k]? = some x' → ∃ r x, rows[i]? = some r ∧ r[k]? = some x ∧ RLe x x' := by
    intro i k r' x' h1 h2
    obtain ⟨hi, _⟩ := List.getElem?_eq_some_iff.1 h1
    have hr : rows[i]? = some rows[i] := List.getElem?_eq_getElem (by omega)
    obtain ⟨b, hb, hrr⟩ := h.get i _ hr
    rw [h1] at hb; cases hb
    obtain ⟨hk, _⟩ := List.getElem?_eq_some_iff.1 h2
    have hk2 : k < rows[i].length := by rw [hrr.length]; exact hk
    have hx : rows[i][k]? = some rows[i][k] := List.getElem?_eq_getElem hk2
    obtain ⟨b, hb, hxx⟩ := hrr.get k _ hx
    rw [h2] at hb; cases hb
    exact ⟨_, _, hr, hx, hxx⟩
  have hlen : ∀ r' ∈ rows', ∃ r ∈ rows, r.length = r'.length := by
    intro r' hr'
    obtain ⟨i, hi, rfl⟩ := List.mem_iff_getElem.1 hr'
    have hr : rows[i]? = some rows[i] := List.getElem?_eq_getElem (by omega)
    obtain ⟨b, hb, hrr⟩ := h.get i _ hr
    rw [List.getElem?_eq_getElem hi] at hb; cases hb
    exact ⟨_, List.getElem_mem _, hrr.length⟩
  cases hy with
  | sl sz rows A c f h0 h1 h2 h3 h4 h5 =>
    rw [hl]
    refine .sl n rows' A c f h0 (by omega) (by omega) (fun r' hr' => by obtain ⟨r, hr, e⟩ := hlen r' hr'; rw [← e]; exact h3 r hr) (fun i r' k x' e1 e2 => ?_) (fun i r' k x' e1 e2 => ?_)
    · obtain ⟨r, x, g1, g2, g3⟩ := back i k r' x' e1 e2
      exact h4 i r k x g1 g2
    · obtain ⟨r, x, g1, g2, g3⟩ := back i k r' x' e1 e2
      exact g3 _ _ (h5 i r k x g1 g2)
theorem RLe.cle {n : Nat} {rows : List (List AC)} {b : AC} (h : RLe (.sl n rows) b) (hb : match b with | .loc _ _ | .own _ _ _ => False | _ => True) : CLe (.sl n rows) b := fun g y hy => by
  have := h g.I y hy
  cases b <;> first | exact this | exact hb.elim

theorem thing_def (v : Val) : thingJ v = if v.kind = 3 then ⟨6, 0, ⟨#[]⟩, [⟨#[115, 121, 109]⟩], [⟨4, 0, v.s, [], []⟩]⟩ else ⟨v.kind, v.n, v.s, [], thingJ.thingsJ v.l⟩ := by cases v; rfl
theorem things_map : ∀ l : List Val, thingJ.thingsJ l = l.map thingJ
  | [] => rfl
  | x :: xs => by simp [thingJ.thingsJ, things_map xs]
def jAV (x : Jsn) : AV := .agg [.v (.int .i64 x.kind), .v (.int .i64 x.n), .v (.string x.s), .sl 1 (strR x.names), .sl 5 (Jsn.acs x.l)]
theorem jAV_eq (x : Jsn) : .agg x.ac = jAV x := by rw [Jsn.ac_eq]; rfl
theorem leThing {x : Jsn} {k n : Int} {s : ByteArray} (h : x = ⟨k, n, s, [], []⟩) : VLe (.agg [.v (.int .i64 k), .v (.int .i64 n), .v (.string s), .nil, .nil]) (jAV x) := by
  subst h
  exact VLe.agg (xs := [_, _, _, .nil, .nil]) (ys := [_, _, _, .sl 1 [], .sl 5 []]) ⟨CLe.refl _, CLe.refl _, CLe.refl _, CLe.nil (by decide), CLe.nil (by decide), trivial⟩
theorem leThings {x : Jsn} {k n : Int} {s : ByteArray} {l : List Jsn} (h : x = ⟨k, n, s, [], l⟩) : VLe (.agg [.v (.int .i64 k), .v (.int .i64 n), .v (.string s), .nil, .sl 5 (Jsn.acs l)]) (jAV x) := by
  subst h
  exact VLe.agg (xs := [_, _, _, .nil, .sl 5 (Jsn.acs l)]) (ys := [_, _, _, .sl 1 [], .sl 5 (Jsn.acs l)]) ⟨CLe.refl _, CLe.refl _, CLe.refl _, CLe.nil (by decide), CLe.refl _, trivial⟩
theorem leSym {x : Jsn} {s : ByteArray} (h : x = ⟨6, 0, ⟨#[]⟩, [⟨#[115, 121, 109]⟩], [⟨4, 0, s, [], []⟩]⟩) :
    VLe (.agg [.v (.int .i64 6), .v (.int .i64 0), .v (.string ⟨#[]⟩), .sl 1 [[.v (.string ⟨#[115, 121, 109]⟩)]], .sl 5 [[.v (.int .i64 4), .v (.int .i64 0), .v (.string s), .nil, .nil]]]) (jAV x) := by
  subst h
  refine VLe.agg (xs := [_, _, _, _, .sl 5 _]) (ys := [_, _, _, _, .sl 5 [[.v (.int .i64 4), .v (.int .i64 0), .v (.string s), .sl 1 [], .sl 5 []]]]) ⟨CLe.refl _, CLe.refl _, CLe.refl _, CLe.refl _, RLe.cle (RLe.sl ?_) trivial, trivial⟩
  exact ⟨⟨RLe.refl _, RLe.refl _, RLe.refl _, RLe.nil (by decide), RLe.nil (by decide), trivial⟩, trivial⟩
theorem jacs_one (x : Jsn) : [[AC.v (.int .i64 x.kind), .v (.int .i64 x.n), .v (.string x.s), .sl 1 (strR x.names), .sl 5 (Jsn.acs x.l)]] = Jsn.acs [x] := by show _ = [x.ac]; rw [Jsn.ac_eq]
theorem jacs_snoc (a : List Jsn) (x : Jsn) : Jsn.acs a ++ [[AC.v (.int .i64 x.kind), .v (.int .i64 x.n), .v (.string x.s), .sl 1 (strR x.names), .sl 5 (Jsn.acs x.l)]] = Jsn.acs (a ++ [x]) := by rw [jacs_one, Jsn.acs_eq, Jsn.acs_eq, Jsn.acs_eq, List.map_append]

set_option maxRecDepth 8000 in
theorem thing_pure (v : Val) (hn : v.nodes < 1000000) : PureA Tryd.prog 29 [.agg v.ac] (jAV (thingJ v)) := by
  refine PureA.le fun h => ?_
  refine callsA_of (D := D1 38 [] [] []) ty_ok mixed Tryd.func29 rfl (by kernel_rfl) (by kernel_rfl) (by simp [D1]) ?_
  intro g vs hr
  clear hr
  obtain ⟨R, hR⟩ : ∃ R, R = thingJ v := ⟨_, rfl⟩
  rw [← hR]
  rw [thing_def] at hR
  rw [Val.ac_eq]
  refine Br.mk (fun h1 => ?_) (fun h1 => ?_)
  · rw [if_pos (eq_of_beq h1)] at hR
    exact ⟨⟨_, rfl, leSym hR⟩, rfl⟩
  rw [if_neg (ne_of_beq_false h1), things_map] at hR
  have hlen : v.l.length < 1000000 := by
    have h1 := nodes_def v
    have h2 : ∀ l : List Val, (l.length : Int) ≤ Val.nodess l := by
      intro l
      induction l with
      | nil => show (0 : Int) ≤ Val.nodess []; exact Int.le_refl 0
      | cons x l ih =>
        have h3 : Val.nodess (x :: l) = x.nodes + Val.nodess l := rfl
        have := x.nodes_pos
        simp only [List.length_cons]; omega
    have := h2 v.l
    omega
  have hpre : ∀ n : Nat, n ≤ 1000001 → n * 80 ≤ lenMax ∧ n ≤ lenMax := fun n hn => by unfold lenMax; omega
  refine LoopA.mk ⟨⟨[2, 3, 23, 24, 25], 3, 1⟩, fun n st => ∃ (i : Nat) (j : Int), i ≤ v.l.length ∧ n = v.l.length - i ∧ j = i ∧
      ((i = 0 ∧ st = ⟨[(2, .c (.loc 1 0)), (3, .c (.loc 2 0)), (23, .c (.sl 4 (Val.acs v.l))), (24, .c (.v (.int .i64 (Val.acs v.l).length))), (25, .c (.v (.int .i64 j)))], ⟨[(24, [.v (.int .i64 v.kind), .v (.int .i64 v.n), .v (.string v.s), .sl 4 (Val.acs v.l)]), (39, [.v (.int .i64 0), .v (.int .i64 0), .v (.string ⟨#[]⟩), .nil, .nil]), (39, [.v (.int .i64 v.kind), .v (.int .i64 v.n), .v (.string v.s), .nil, .nil])], [], h⟩⟩) ∨
       (∃ rows len, 0 < i ∧ rows = Jsn.acs ((v.l.take i).map thingJ) ∧ len = i ∧ st = ⟨[(2, .c (.loc 1 0)), (3, .c (.loc 2 0)), (23, .c (.sl 4 (Val.acs v.l))), (24, .c (.v (.int .i64 (Val.acs v.l).length))), (25, .c (.v (.int .i64 j)))], ⟨[(24, [.v (.int .i64 v.kind), .v (.int .i64 v.n), .v (.string v.s), .sl 4 (Val.acs v.l)]), (39, [.v (.int .i64 0), .v (.int .i64 0), .v (.string ⟨#[]⟩), .nil, .nil]), (39, [.v (.int .i64 v.kind), .v (.int .i64 v.n), .v (.string v.s), .nil, .own 0 5 rows])], [(39, 5, len)], h⟩⟩)),
    ⟨rfl, v.l.length, _, .refl _ _, 0, _, Nat.zero_le _, rfl, rfl, .inl ⟨rfl, rfl⟩⟩, ?_⟩
  rintro n st ⟨i, j, hi, rfl, rfl, hst⟩
  have hts : ∀ (hlt : i < v.l.length), Jsn.acs ((v.l.take (i + 1)).map thingJ) = Jsn.acs ((v.l.take i).map thingJ) ++ [[AC.v (.int .i64 (thingJ v.l[i]).kind), .v (.int .i64 (thingJ v.l[i]).n), .v (.string (thingJ v.l[i]).s), .sl 1 (strR (thingJ v.l[i]).names), .sl 5 (Jsn.acs (thingJ v.l[i]).l)]] := fun hlt => by
    rw [jacs_snoc, List.take_succ_eq_append_getElem hlt, List.map_append]; rfl
  rcases hst with ⟨rfl, rfl⟩ | ⟨rows, len, hpos, rfl, rfl, rfl⟩
  · refine Br.mk (fun hb => ?_) (fun hb => ?_)
    · have hlt : 0 < v.l.length := by simpa [Val.acs_len] using hb
      have hx : v.l[0]? = some v.l[0] := List.getElem?_eq_getElem hlt
      have hmem : v.l[0] ∈ v.l := List.getElem_mem hlt
      have hI := thing_pure v.l[0] (by have := nodess_mem _ _ hmem; have := nodes_def v; omega)
      rw [Val.ac_eq, jAV] at hI
      refine ⟨_, ⟨by omega, Val.acs_get hx⟩, ?_⟩
      refine Pre.mk (by kernel_rfl) ?_
      refine ⟨_, hI, ?_⟩
      have hp0 : 0 < 5 ∧ 1 * 80 ≤ lenMax ∧ 1 ≤ lenMax := ⟨by omega, hpre 1 (by omega)⟩
      refine Pre.mk hp0 ?_
      exact ⟨rfl, v.l.length - 1, by omega, _, .refl _ _, 1, _, by omega, rfl, by rw [wrap64] <;> omega, .inr ⟨_, _, by omega, by rw [hts hlt]; rfl, rfl, rfl⟩⟩
    · have he : v.l = [] := by
        have : ¬ 0 < v.l.length := by simpa [Val.acs_len] using hb
        exact List.eq_nil_of_length_eq_zero (by omega)
      rw [he] at hR
      exact ⟨⟨_, rfl, leThing hR⟩, rfl⟩
  · refine Br.mk (fun hb => ?_) (fun hb => ?_)
    · have hlt : len < v.l.length := by simpa [Val.acs_len] using hb
      have hx : v.l[len]? = some v.l[len] := List.getElem?_eq_getElem hlt
      have hmem : v.l[len] ∈ v.l := List.getElem_mem hlt
      have hI := thing_pure v.l[len] (by have := nodess_mem _ _ hmem; have := nodes_def v; omega)
      rw [Val.ac_eq, jAV] at hI
      refine ⟨_, ⟨by omega, Val.acs_get hx⟩, ?_⟩
      refine Pre.mk (by kernel_rfl) ?_
      refine ⟨_, hI, ?_⟩
      have hp1 : 39 = 39 ∧ 5 = 5 ∧ 5 = 5 ∧ (Jsn.acs ((v.l.take len).map thingJ)).length = len ∧ (len + 1) * 80 ≤ lenMax ∧ len + 1 ≤ lenMax := ⟨rfl, rfl, rfl, by rw [Jsn.acs_len, List.length_map, List.length_take]; omega, hpre _ (by omega)⟩
      refine Pre.mk hp1 ?_
      exact ⟨rfl, v.l.length - (len + 1), by omega, _, .refl _ _, len + 1, _, by omega, rfl, by rw [wrap64] <;> omega, .inr ⟨_, _, by omega, (hts hlt).symm, rfl, rfl⟩⟩
    · have he : len = v.l.length := by
        have : ¬ len < v.l.length := by simpa [Val.acs_len] using hb
        omega
      subst he
      rw [List.take_length] at *
      exact ⟨⟨_, rfl, leThings hR⟩, rfl⟩
termination_by v
decreasing_by all_goals exact Val.size_mem hmem

def zeroJ : Jsn := ⟨0, 0, ⟨#[]⟩, [], []⟩
def toJ (v : Val) : Jsn := if rightB u8B v then thingJ v else zeroJ
theorem toJson_pure (v : Val) (hd : v.deep < 1000000) (hn : v.nodes < 1000000) : PureA Tryd.prog 13 [.agg v.ac] (jAV (toJ v)) := by
  refine PureA.le fun h => ?_
  refine callsA_of (D := D1 9 [] [] []) ty_ok mixed Tryd.func13 rfl (by kernel_rfl) (by kernel_rfl) (by simp [D1]) ?_
  intro g vs hr
  clear hr
  obtain ⟨R, hR⟩ : ∃ R, R = toJ v := ⟨_, rfl⟩
  rw [← hR]
  unfold toJ at hR
  have hright := right_pure uvalid_ok v hd hn
  have hthing := thing_pure v hn
  rw [Val.ac_eq] at hright hthing ⊢
  refine ⟨_, hright, Br.mk (fun h1 => ?_) (fun h1 => ?_)⟩
  · rw [if_neg (by rw [not_t h1]; simp)] at hR
    exact ⟨⟨_, rfl, leThing hR⟩, rfl⟩
  · rw [if_pos (not_f h1)] at hR
    rw [← hR, jAV] at hthing
    refine ⟨_, hthing, ?_⟩
    exact ⟨⟨_, rfl, VLe.refl _⟩, rfl⟩

/-! ### Are two things the same? -/
theorem strEqual_pure (a b : List ByteArray) : PureA Tryd.prog 33 [.c (.sl 1 (strR a)), .c (.sl 1 (strR b))] (.c (.v (.bool (decide (a = b))))) := by
  intro h
  refine callsA_of (D := D1 26 [] [] []) ty_ok mixed Tryd.func33 rfl (by kernel_rfl) (by kernel_rfl) (by simp [D1]) ?_
  intro g vs hr
  have hla : (strR a).length ≤ lenMax := by
    match vs, hr with
    | y :: _, hr =>
      have h4 : Rel g.I (.sl 1 (strR a)) y := hr.1
      cases h4 <;> first | assumption | simp_all
  rw [strR_len] at hla
  have hlm := lenMax_lt
  clear hr
  obtain ⟨R, hR⟩ : ∃ R, R = decide (a = b) := ⟨_, rfl⟩
  rw [← hR]
  refine Br.mk (fun h1 => ?_) (fun h1 => ?_)
  · have hne : a.length ≠ b.length := by have h1 := h1; simp [strR_len] at h1; omega
    rw [decide_eq_false (fun e => hne (by rw [e]))] at hR
    exact ⟨ret_b hR.symm, rfl⟩
  have hl : a.length = b.length := by have h1 := h1; simp [strR_len] at h1; omega
  refine LoopA.mk ⟨⟨[0, 1, 4, 12, 13], 0, 0⟩, fun n st => ∃ (i : Nat) (j : Int), st = ⟨[(0, .c (.sl 1 (strR a))), (1, .c (.sl 1 (strR b))), (4, .c .ff), (12, .c (.v (.int .i64 (strR a).length))), (13, .c (.v (.int .i64 j)))], ⟨[], [], h⟩⟩ ∧ i ≤ a.length ∧ n = a.length - i ∧ j = i ∧ R = decide (a.drop i = b.drop i),
    ⟨rfl, a.length, _, .refl _ _, 0, _, rfl, Nat.zero_le _, rfl, rfl, hR⟩, ?_⟩
  rintro n _ ⟨i, j, rfl, hi, rfl, rfl, hRi⟩
  refine Br.mk (fun h1 => ?_) (fun h1 => ?_)
  · have hlt : i < a.length := by have := of_decide_eq_true h1; rw [strR_len] at this; omega
    have hltb : i < b.length := by omega
    have hx : a[i]? = some a[i] := List.getElem?_eq_getElem hlt
    have hy : b[i]? = some b[i] := List.getElem?_eq_getElem hltb
    rw [List.drop_eq_getElem_cons hlt, List.drop_eq_getElem_cons hltb] at hRi
    refine Pre.mk (by kernel_rfl) ?_
    refine ⟨_, ⟨by omega, strR_get hx⟩, _, ⟨by omega, strR_get hy⟩, ?_⟩
    refine Br.mk (fun h2 => ?_) (fun h2 => ?_)
    · rw [decide_eq_false (fun e => by
        have e1 := (List.cons.inj e).1
        have := not_t h2
        rw [str_beq.2 e1] at this; cases this)] at hRi
      exact ⟨ret_b hRi.symm, rfl⟩
    · have e1 := str_beq.1 (not_f h2)
      refine ⟨rfl, a.length - (i + 1), by omega, _, .refl _ _, i + 1, _, rfl, by omega, rfl, by rw [wrap64] <;> omega, ?_⟩
      rw [hRi, e1]
      exact decide_eq_decide.2 ⟨fun e => (List.cons.inj e).2, fun e => by rw [e]⟩
  · have he : i = a.length := by have := of_decide_eq_false h1; rw [strR_len] at this; omega
    rw [he, List.drop_length, hl, List.drop_length] at hRi
    exact ⟨ret_b (by rw [hRi]; rfl), rfl⟩

mutual
def Jsn.same : Jsn → Jsn → Bool
  | ⟨k, n, s, ns, l⟩, ⟨k', n', s', ns', l'⟩ => (k == k') && (n == n') && (s.toList == s'.toList) && decide (ns = ns') && Jsn.sames l l'
def Jsn.sames : List Jsn → List Jsn → Bool
  | [], [] => true
  | x :: xs, y :: ys => x.same y && Jsn.sames xs ys
  | _, _ => false
end
theorem jsame_def (a b : Jsn) : a.same b = ((a.kind == b.kind) && (a.n == b.n) && (a.s.toList == b.s.toList) && decide (a.names = b.names) && Jsn.sames a.l b.l) := by cases a; cases b; rfl
theorem sames_len : ∀ {a b : List Jsn}, a.length ≠ b.length → Jsn.sames a b = false
  | [], [], h => absurd rfl h
  | [], _ :: _, _ => rfl
  | _ :: _, [], _ => rfl
  | x :: xs, y :: ys, h => by
    have := sames_len (a := xs) (b := ys) (by simpa using h)
    simp only [Jsn.sames, this, Bool.and_false]
mutual
theorem jsame_self : ∀ a : Jsn, a.same a = true
  | ⟨k, n, s, ns, l⟩ => by simp [Jsn.same, jsames_self l]
theorem jsames_self : ∀ a : List Jsn, Jsn.sames a a = true
  | [] => rfl
  | x :: xs => by simp [Jsn.sames, jsame_self x, jsames_self xs]
end

theorem jsl_len {g : G} {n : Nat} {rows : List (List AC)} {r : List AV} {vs : List Value} (h : RelVs g [] (.c (.sl n rows) :: r) vs) : rows.length ≤ lenMax := by
  match vs, h with
  | y :: _, hr =>
    have h4 : Rel g.I (.sl n rows) y := hr.1
    cases h4 <;> first | assumption | simp_all

theorem equalFunc_pure (a b : List Jsn) (IH : ∀ x ∈ a, ∀ y, PureA Tryd.prog 15 [.agg x.ac, .agg y.ac] (.c (.v (.bool (x.same y))))) :
    PureA Tryd.prog 34 [.c (.sl 5 (Jsn.acs a)), .c (.sl 5 (Jsn.acs b)), .c (.v (.func (.func 15) #[] #[]))] (.c (.v (.bool (Jsn.sames a b)))) := by
  intro h
  refine callsA_of (D := D1 32 [] [] []) ty_ok mixed Tryd.func34 rfl (by kernel_rfl) (by kernel_rfl) (by simp [D1]) ?_
  intro g vs hr
  have hla := jsl_len hr
  rw [Jsn.acs_len] at hla
  have hlm := lenMax_lt
  clear hr
  obtain ⟨R, hR⟩ : ∃ R, R = Jsn.sames a b := ⟨_, rfl⟩
  rw [← hR]
  refine Br.mk (fun h1 => ?_) (fun h1 => ?_)
  · have hne : a.length ≠ b.length := by have h1 := h1; simp [Jsn.acs_len] at h1; omega
    rw [sames_len hne] at hR
    exact ⟨ret_b hR.symm, rfl⟩
  have hl : a.length = b.length := by have h1 := h1; simp [Jsn.acs_len] at h1; omega
  refine LoopA.mk ⟨⟨[1, 2, 6, 15, 16, 17], 0, 0⟩, fun n st => ∃ (i : Nat) (j : Int), st = ⟨[(1, .c (.sl 5 (Jsn.acs b))), (2, .c (.v (.func (.func 15) #[] #[]))), (6, .c .ff), (15, .c (.sl 5 (Jsn.acs a))), (16, .c (.v (.int .i64 (Jsn.acs a).length))), (17, .c (.v (.int .i64 j)))], ⟨[], [], h⟩⟩ ∧ i ≤ a.length ∧ n = a.length - i ∧ j = i ∧ R = Jsn.sames (a.drop i) (b.drop i),
    ⟨rfl, a.length, _, .refl _ _, 0, _, rfl, Nat.zero_le _, rfl, rfl, hR⟩, ?_⟩
  rintro n _ ⟨i, j, rfl, hi, rfl, rfl, hRi⟩
  refine Br.mk (fun h1 => ?_) (fun h1 => ?_)
  · have hlt : i < a.length := by have := of_decide_eq_true h1; rw [Jsn.acs_len] at this; omega
    have hltb : i < b.length := by omega
    have hx : a[i]? = some a[i] := List.getElem?_eq_getElem hlt
    have hy : b[i]? = some b[i] := List.getElem?_eq_getElem hltb
    rw [List.drop_eq_getElem_cons hlt, List.drop_eq_getElem_cons hltb] at hRi
    simp only [Jsn.sames] at hRi
    have hI := IH a[i] (List.getElem_mem hlt) b[i]
    rw [Jsn.ac_eq, Jsn.ac_eq] at hI
    refine ⟨_, ⟨by omega, Jsn.acs_get hx⟩, _, ⟨by omega, Jsn.acs_get hy⟩, ?_⟩
    refine ⟨_, hI, ?_⟩
    refine Br.mk (fun h2 => ?_) (fun h2 => ?_)
    · rw [not_t h2, Bool.false_and] at hRi
      exact ⟨ret_b hRi.symm, rfl⟩
    · rw [not_f h2, Bool.true_and] at hRi
      exact ⟨rfl, a.length - (i + 1), by omega, _, .refl _ _, i + 1, _, rfl, by omega, rfl, by rw [wrap64] <;> omega, hRi⟩
  · have he : i = a.length := by have := of_decide_eq_false h1; rw [Jsn.acs_len] at this; omega
    rw [he, List.drop_length, hl, List.drop_length] at hRi
    exact ⟨ret_b (by rw [hRi]; rfl), rfl⟩

set_option maxRecDepth 8000 in
theorem jsame_pure (a b : Jsn) : PureA Tryd.prog 15 [.agg a.ac, .agg b.ac] (.c (.v (.bool (a.same b)))) := by
  intro h
  refine callsA_of (D := D1 38 [] [] [10, 17, 24, 31]) ty_ok mixed Tryd.func15 rfl (by kernel_rfl) (by kernel_rfl) (by simp [D1]) ?_
  intro g vs hr
  clear hr
  obtain ⟨R, hR⟩ : ∃ R, R = a.same b := ⟨_, rfl⟩
  rw [← hR]
  rw [jsame_def] at hR
  have hs := strEqual_pure a.names b.names
  have hq := equalFunc_pure a.l b.l fun x hmem y => jsame_pure x y
  rw [Jsn.ac_eq, Jsn.ac_eq]
  refine Br.mk (fun h1 => ?_) (fun h1 => ?_)
  · rw [h1, Bool.true_and] at hR
    refine Br.mk (fun h2 => ?_) (fun h2 => ?_)
    · rw [h2, Bool.true_and] at hR
      refine Br.mk (fun h3 => ?_) (fun h3 => ?_)
      · rw [h3, Bool.true_and] at hR
        refine ⟨_, hs, Br.mk (fun h4 => ?_) (fun h4 => ?_)⟩
        · rw [h4, Bool.true_and] at hR
          refine ⟨_, hq, ?_⟩
          exact ⟨ret_b hR.symm, rfl⟩
        · rw [h4, Bool.false_and] at hR
          exact ⟨ret_b hR.symm, rfl⟩
      · rw [h3] at hR
        exact ⟨ret_b (by rw [hR]; simp), rfl⟩
    · rw [h2] at hR
      exact ⟨ret_b (by rw [hR]; simp), rfl⟩
  · rw [h1] at hR
    exact ⟨ret_b (by rw [hR]; simp), rfl⟩
termination_by a
decreasing_by all_goals exact Jsn.size_mem hmem
end Go.Proofs.YtdgjpncflkpjfaaDoor
