/- Laws for the contract of douaneref14.get. -/
import Derived.Test.YtdgjpncflkpjfaaDoorV8
set_option linter.unusedVariables false
set_option linter.unusedSimpArgs false
namespace Go.Proofs.YtdgjpncflkpjfaaDoor
open Aw

def resAV : Res → AV
  | .ok v next => .tup [.agg v.ac, .c (.v (.int .i64 next)), .c (.v (.int .i64 0))]
  | .no a e => .tup [.agg [.v (.int .i64 0), .v (.int .i64 0), .v (.string ⟨#[]⟩), .sl 4 []], .c (.v (.int .i64 a)), .c (.v (.int .i64 e))]
theorem aggNil (k n : Int) (s : ByteArray) : VLe (.agg [.v (.int .i64 k), .v (.int .i64 n), .v (.string s), .nil]) (.agg [.v (.int .i64 k), .v (.int .i64 n), .v (.string s), .sl 4 []]) :=
  VLe.agg ⟨CLe.refl _, CLe.refl _, CLe.refl _, CLe.nil (by decide), trivial⟩
theorem leNo {R : Res} {a : Nat} {e x y : Int} (h : R = .no a e) (hx : x = (a : Int)) (hy : y = e) : VLe (.tup [.agg [.v (.int .i64 0), .v (.int .i64 0), .v (.string ⟨#[]⟩), .nil], .c (.v (.int .i64 x)), .c (.v (.int .i64 y))]) (resAV R) := by
  subst h hx hy; exact VLe.tup3 (aggNil _ _ _) (VLe.refl _) (VLe.refl _)
theorem leOk {R : Res} {k n : Int} {s : ByteArray} {next : Nat} {x : Int} (h : R = .ok ⟨k, n, s, []⟩ next) (hx : x = (next : Int)) : VLe (.tup [.agg [.v (.int .i64 k), .v (.int .i64 n), .v (.string s), .nil], .c (.v (.int .i64 x)), .c (.v (.int .i64 0))]) (resAV R) := by
  subst h hx; exact VLe.tup3 (aggNil _ _ _) (VLe.refl _) (VLe.refl _)

theorem kindS_nl {s : ByteArray} {p : Nat} {list : Nat → Res} (h0 : p ≠ s.size) (h : bt s p ≠ 91 ∨ bt s p = 39 ∨ bt s p = 34) (list' : Nat → Res) : kindS s p list = kindS s p list' := by
  unfold kindS; rw [if_neg h0, if_neg h0]
  repeat' split
  all_goals first | rfl | omega
theorem one_row {s : ByteArray} {e : Nat} (h : e < s.size) : (decide ((0 + rowN letterB (s.extract e (e + 1)) 0 : Nat) = 1)) = letterB (bt s e) := by
  have hb : bt (s.extract e (e + 1)) 0 = bt s e := bt_extract (k := 0) (by omega) (by omega)
  have hsz : (s.extract e (e + 1)).size = 1 := by simp; omega
  cases hl : letterB (bt s e) with
  | true =>
    rw [rowN_eq (n := 1) (fun k hk => ⟨by omega, by have : k = 0 := by omega
                                                    subst this; show letterB (bt (s.extract e (e + 1)) 0) = true; rw [hb, hl]⟩) (by omega)]; rfl
  | false =>
    rw [rowN_eq (n := 0) (by simp) (by intro hh; have := hh.2; rw [show ((0 + 0 : Nat) : Int) = 0 from rfl, hb, hl] at this; cases this)]; rfl
theorem pureS2 {f : Nat} {x y : ByteArray} {a r : AV} (h : x = y) (hp : PureA Tryd.prog f [.c (.v (.string y)), a] r) : PureA Tryd.prog f [.c (.v (.string x)), a] r := h ▸ hp

-- LEMMAS-BEGIN LEMMAS-END
theorem acs_one (x : Val) : Val.acs [x] = [[.v (.int .i64 x.kind), .v (.int .i64 x.n), .v (.string x.s), .sl 4 (Val.acs x.l)]] := by
  rw [Val.acs_eq]; simp only [List.map_cons, List.map_nil, Val.ac_eq]
theorem acs_snoc (acc : List Val) (x : Val) : Val.acs (acc ++ [x]) = Val.acs acc ++ [[.v (.int .i64 x.kind), .v (.int .i64 x.n), .v (.string x.s), .sl 4 (Val.acs x.l)]] := by
  rw [Val.acs_eq, List.map_append, ← Val.acs_eq]; simp only [List.map_cons, List.map_nil, Val.ac_eq]
theorem pure3 {f : Nat} {a r : AV} {k k' : IntKind} {x y x' y' : Int} (hx : x = x') (hy : y = y') (hp : PureA Tryd.prog f [a, .c (.v (.int k x')), .c (.v (.int k' y'))] r) : PureA Tryd.prog f [a, .c (.v (.int k x)), .c (.v (.int k' y))] r := by subst hx hy; exact hp
theorem scanS_e {s : ByteArray} {p : Nat} (hp : p ≤ s.size) (h : (scanS s p).2.2 = 0) (hd : bt s p = 45 ∨ 48 ≤ bt s p ∧ bt s p ≤ 57) (hlt : p < s.size) : p < (scanS s p).2.1 ∧ (scanS s p).2.1 ≤ s.size := by
  unfold scanS at h ⊢
  by_cases hz : (parseS (s.extract p (scanE s p))).2 = 0
  · rw [if_pos hz]
    have := scanE_le hp
    refine ⟨?_, this.2⟩
    show p < scanE s p
    rcases hd with hd | hd
    · have : scanQ s p = p + 1 := by unfold scanQ; rw [if_pos ⟨hlt, hd⟩]
      unfold scanE; omega
    · have hq : scanQ s p = p := by unfold scanQ; rw [if_neg (by omega)]
      unfold scanE; rw [hq]
      have h1 : 0 < runs s p := by
        rcases Nat.eq_zero_or_pos (runs s p) with e | e
        · have := (runs_spec s p).2
          rw [e] at this
          exact absurd ⟨hlt, by rw [Nat.add_zero]; unfold digB; rw [decide_eq_true hd.1, decide_eq_true hd.2]; rfl⟩ this
        · exact e
      omega
  · rw [if_neg hz] at h; exact absurd h hz
theorem strF_next {s : ByteArray} : ∀ (n i : Nat) (out : ByteArray), (∀ v next, strF s n i out = .ok v next → i < next ∧ next ≤ s.size) ∧ (∀ a e, strF s n i out = .no a e → e ≠ 0)
  | 0, i, out => by simp [strF]
  | n + 1, i, out => by
    have h1 := strF_next (s := s) n (i + 2) (out ++ s.extract (i + 1) (i + 2))
    have h2 := strF_next (s := s) n (i + 1) (out ++ s.extract i (i + 1))
    simp only [strF]
    refine ⟨fun v next h => ?_, fun a e h => ?_⟩
    · split at h
      · split at h
        · cases h; omega
        · split at h
          · split at h
            · cases h
            · have := h1.1 v next h; omega
          · have := h2.1 v next h; omega
      · cases h
    · split at h
      · split at h
        · cases h
        · split at h
          · split at h
            · cases h; decide
            · exact h1.2 a e h
          · exact h2.2 a e h
      · cases h; decide
theorem itemsF_next {s : ByteArray} {g : Nat → Res} (hg : ∀ q, q ≤ s.size → (∀ v next, g q = .ok v next → q < next ∧ next ≤ s.size) ∧ ∀ a e, g q = .no a e → e ≠ 0) : ∀ (n i : Nat) (acc : List Val), i ≤ s.size → (∀ v next, itemsF s g n i acc = .ok v next → i < next ∧ next ≤ s.size) ∧ (∀ a e, itemsF s g n i acc = .no a e → e ≠ 0)
  | 0, i, acc, hi => by simp [itemsF]
  | n + 1, i, acc, hi => by
    simp only [itemsF]
    by_cases h1 : i < s.size ∧ bt s i = 93
    · rw [if_pos h1]
      refine ⟨fun v next h => (by cases h; omega), fun a e h => by cases h⟩
    · rw [if_neg h1]
      by_cases h2 : acc ≠ [] ∧ ¬ (i < s.size ∧ bt s i = 32)
      · rw [if_pos h2]
        refine ⟨fun v next h => (by cases h), fun a e h => by cases h; decide⟩
      · rw [if_neg h2]
        have hq : (if acc = [] then i else i + 1) ≤ s.size ∧ i ≤ (if acc = [] then i else i + 1) := by
          split
          · omega
          · rename_i hne
            have : i < s.size ∧ bt s i = 32 := Classical.byContradiction fun hh => h2 ⟨hne, hh⟩
            omega
        have hgq := hg _ hq.1
        cases hr : g (if acc = [] then i else i + 1) with
        | no a e => refine ⟨fun v next h => (by cases h), fun a' e' h => by cases h; exact hgq.2 _ _ hr⟩
        | ok x nx =>
          have h3 := hgq.1 _ _ hr
          have h4 := itemsF_next hg n nx (acc ++ [x]) h3.2
          exact ⟨fun v next h => (by have := h4.1 v next h; omega), h4.2⟩
theorem kindS_next {s : ByteArray} {list : Nat → Res} {p : Nat} (hp : p ≤ s.size) (hl : p < s.size → (∀ v next, list p = .ok v next → p < next ∧ next ≤ s.size) ∧ ∀ a e, list p = .no a e → e ≠ 0) : (∀ v next, kindS s p list = .ok v next → p < next ∧ next ≤ s.size) ∧ (∀ a e, kindS s p list = .no a e → e ≠ 0) := by
  unfold kindS
  by_cases h0 : p = s.size
  · rw [if_pos h0]; exact ⟨fun v next h => (by cases h), fun a e h => by cases h; decide⟩
  have hlt : p < s.size := by omega
  rw [if_neg h0]
  by_cases h1 : bt s p = 39
  · rw [if_pos h1]
    have := rowN_le (f := symC) (s := s) (p := p + 1) (by omega)
    unfold symS
    dsimp only
    split
    · exact ⟨fun v next h => (by cases h; omega), fun a e h => by cases h⟩
    · exact ⟨fun v next h => (by cases h), fun a e h => by cases h; decide⟩
  rw [if_neg h1]
  by_cases h2 : bt s p = 45 ∨ 48 ≤ bt s p ∧ bt s p ≤ 57
  · rw [if_pos h2]
    unfold numS
    split
    · rename_i hz
      have := scanS_e hp hz h2 hlt
      exact ⟨fun v next h => (by cases h; exact this), fun a e h => by cases h⟩
    · rename_i hz
      exact ⟨fun v next h => (by cases h), fun a e h => by cases h; exact hz⟩
  rw [if_neg h2]
  by_cases h3 : bt s p = 34
  · rw [if_pos h3]
    have := strF_next (s := s) (s.size - p) (p + 1) ⟨#[]⟩
    exact ⟨fun v next h => (by have := this.1 v next h; omega), this.2⟩
  rw [if_neg h3]
  by_cases h4 : bt s p = 91
  · rw [if_pos h4]; exact hl hlt
  rw [if_neg h4]
  unfold wordS
  dsimp only
  have hw := rowN_le (f := letterB) (s := s) hp
  have hsz : ∀ n : Nat, (s.extract p (p + rowN letterB s p)).size = n + 1 → p < p + rowN letterB s p := by
    intro n hn
    simp at hn
    omega
  have hbeq : ∀ (w : ByteArray) (l : List UInt8), (w.toList == ByteArray.toList ⟨l.toArray⟩) = true → w.size = l.length := by
    intro w l h
    rw [ByteArray.toList_eq, ByteArray.toList_eq] at h
    have := eq_of_beq h
    have := congrArg List.length this
    simpa using this
  refine ⟨fun v next h => ?_, fun a e h => ?_⟩
  · split at h
    · rename_i hh; cases h; have := hsz 3 (hbeq _ [110, 117, 108, 108] hh); omega
    · split at h
      · rename_i hh; cases h; have := hsz 3 (hbeq _ [116, 114, 117, 101] hh); omega
      · split at h
        · rename_i hh; cases h; have := hsz 4 (hbeq _ [102, 97, 108, 115, 101] hh); omega
        · cases h
  · split at h
    · cases h
    · split at h
      · cases h
      · split at h
        · cases h
        · cases h; decide
theorem getS_next {s : ByteArray} : ∀ (d p : Nat), p ≤ s.size → (∀ v next, getS s d p = .ok v next → p < next ∧ next ≤ s.size) ∧ (∀ a e, getS s d p = .no a e → e ≠ 0)
  | 0, p, hp => kindS_next hp fun _ => ⟨fun v next h => (by cases h), fun a e h => by cases h; decide⟩
  | d + 1, p, hp => kindS_next hp fun hlt => by
    have := itemsF_next (s := s) (g := getS s d) (fun q hq => getS_next d q hq) (s.size + 1 - p) (p + 1) [] (by omega)
    exact ⟨fun v next h => (by have := this.1 v next h; omega), this.2⟩

end Go.Proofs.YtdgjpncflkpjfaaDoor
