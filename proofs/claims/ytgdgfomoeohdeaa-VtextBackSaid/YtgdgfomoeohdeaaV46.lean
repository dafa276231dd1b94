/- VtextBack answers true. VtextBehind and VtextLists answer true. -/
import Derived.Test.YtgdgfomoeohdeaaV45
import Derived.Test.YtgdgfomoeohdeaaV30
import Derived.Test.YtgdgfomoeohdeaaV40
/-! VtextBack answers true. -/
set_option linter.unusedVariables false
set_option linter.unusedSimpArgs false
namespace Go.Proofs.Ytgdgfomoeohdeaa
open Aw

theorem vsame_self {v : Val} (h : v.ok) : PureA Try.prog 17 [.agg v.ac, .agg v.ac] (.c (.v (.bool true))) := by
  have := vsame_pure v v h h
  rwa [decide_eq_true ((cmpV_zero v v).2 rfl)] at this
theorem str_eq (s : ByteArray) : (s.toList == s.toList) = true := beq_self_eq_true _

set_option maxRecDepth 8000 in
set_option maxHeartbeats 1000000 in
theorem backLaw (v : Val) (hr : v.rng) (s : ByteArray) : PureA Try.prog 5 [.agg v.ac, .c (.v (.string s))] (.c (.v (.bool true))) := by
  intro h
  refine callsA_of (D := D1 63 [] [] [16, 33, 39, 53, 56]) ty_ok mixed Try.func5 rfl (by kernel_rfl) (by kernel_rfl) (by simp [D1]) ?_
  intro g vs hrv
  clear hrv
  have hgreat := great_pure v
  have hright := right_pure uvalid_ok v
  -- the second half
  have hy := fun (hs : s.size ≤ 500) => parsex_pure s (by omega)
  have hyo : ∀ (x : Val) (a e : Int), parseO u8B s = (x, a, e) → e = 0 → rightB u8B x = true ∧ x.text = s ∧ x.rng := fun x a e h1 h2 => by
    rw [h2] at h1; exact parse_spec h1
  obtain ⟨O, hO⟩ : ∃ O, O = parseO u8B s := ⟨_, rfl⟩
  rw [← hO] at hy hyo
  obtain ⟨x, a, e⟩ := O
  have hyo := hyo x a e rfl
  simp only [outAV] at hy
  have hxr := fun (hd : x.deep < 1000000) (hn : x.nodes < 1000000) => right_pure uvalid_ok x hd hn
  have hxt := text_pure x
  -- the first half
  have hself := vsame_self (v := v)
  have htext := text_pure v hr
  have hpx := fun (hrt : rightB u8B v = true) => parsex_pure v.text (by have := right_size hrt; omega)
  rw [Val.ac_eq] at hgreat hright hself htext hxr hxt ⊢
  refine ⟨_, alive_pure, Br.mk (fun h => by cases h) (fun _ => ?_)⟩
  refine ⟨_, hgreat, Br.mk (fun h1 => ?_) (fun h1 => ?_)⟩
  · exact ⟨rfl, rfl⟩
  obtain ⟨hn, hd⟩ := greatB_false h1
  refine Br.mk (fun h2 => ?_) (fun h2 => ?_)
  · exact ⟨rfl, rfl⟩
  have hs500 : s.size ≤ 500 := by have := of_decide_eq_false h2; omega
  refine ⟨_, hright (by omega) (by omega), Br.mk (fun h3 => ?_) (fun h3 => ?_)⟩
  · have hsz := right_size h3
    have hp := hpx h3
    rw [parse_text h3 hr] at hp
    simp only [outAV] at hp
    refine ⟨_, htext (by omega), _, hp, ?_⟩
    refine Br.mk (fun h => by cases h) (fun _ => ?_)
    refine Br.mk (fun h => by simp at h) (fun _ => ?_)
    refine ⟨_, hself (right_ok h3), ?_⟩
    refine Br.mk (fun h => by cases h) (fun _ => ?_)
    refine ⟨_, hy hs500, ?_⟩
    refine Br.mk (fun h4 => ?_) (fun h4 => ?_)
    · exact ⟨rfl, rfl⟩
    · have he : e = 0 := by simpa using h4
      obtain ⟨r1, r2, r3⟩ := hyo he
      obtain ⟨q1, q2, q3⟩ := right_spec r1
      refine ⟨_, hxr (by omega) (by omega), Br.mk (fun h5 => ?_) (fun h5 => ?_)⟩
      · refine ⟨_, hxt r3 (by rw [r2]; omega), ?_⟩
        exact ⟨ret_b (by rw [r2]; exact str_eq s), rfl⟩
      · rw [r1] at h5; cases h5
  · refine ⟨_, hy hs500, ?_⟩
    refine Br.mk (fun h4 => ?_) (fun h4 => ?_)
    · exact ⟨rfl, rfl⟩
    · have he : e = 0 := by simpa using h4
      obtain ⟨r1, r2, r3⟩ := hyo he
      obtain ⟨q1, q2, q3⟩ := right_spec r1
      refine ⟨_, hxr (by omega) (by omega), Br.mk (fun h5 => ?_) (fun h5 => ?_)⟩
      · refine ⟨_, hxt r3 (by rw [r2]; omega), ?_⟩
        exact ⟨ret_b (by rw [r2]; exact str_eq s), rfl⟩
      · rw [r1] at h5; cases h5
end Go.Proofs.Ytgdgfomoeohdeaa

/-! VtextBehind and VtextLists answer true. -/
set_option linter.unusedVariables false
set_option linter.unusedSimpArgs false
namespace Go.Proofs.Ytgdgfomoeohdeaa
open Aw

theorem leMax {n : Nat} (h : n ≤ 1000000) : ((n : Nat) : Int) ≤ IntKind.i64.max := by rw [i64max]; omega

set_option maxRecDepth 8000 in
set_option maxHeartbeats 1000000 in
theorem behindLaw (v : Val) (hr : v.rng) (s : ByteArray) : PureA Try.prog 6 [.agg v.ac, .c (.v (.string s))] (.c (.v (.bool true))) := by
  intro h
  refine callsA_of (D := D1 76 [] [] [16, 21, 26, 31, 55, 61, 66, 70]) ty_ok mixed Try.func6 rfl (by kernel_rfl) (by kernel_rfl) (by simp [D1]) ?_
  intro g vs hrv
  clear hrv
  have hgreat := great_pure v
  have hright := right_pure uvalid_ok v
  have hself := vsame_self (v := v)
  have htext := text_pure v hr
  rw [Val.ac_eq] at hgreat hright hself htext ⊢
  refine ⟨_, alive_pure, Br.mk (fun h => by cases h) (fun _ => ?_)⟩
  refine ⟨_, hgreat, Br.mk (fun h1 => ⟨rfl, rfl⟩) (fun h1 => ?_)⟩
  obtain ⟨hn, hd⟩ := greatB_false h1
  refine Br.mk (fun h2 => ⟨rfl, rfl⟩) (fun h2 => ?_)
  have hs300 : s.size ≤ 300 := by have := of_decide_eq_false h2; omega
  refine ⟨_, hright (by omega) (by omega), Br.mk (fun h3 => ⟨rfl, rfl⟩) (fun h3 => ?_)⟩
  have h3 := not_f h3
  refine Br.mk (fun h4 => ⟨rfl, rfl⟩) (fun h4 => ?_)
  have h4 := of_decide_eq_false h4
  refine Br.mk (fun h5 => ⟨rfl, rfl⟩) (fun h5 => ?_)
  have hs0 : s.size ≠ 0 := fun e => by
    have h5' : (s.toList == ByteArray.toList ⟨#[]⟩) = false := h5
    rw [toList_empty, decide_eq_true e] at h5'; cases h5'
  have hsz := right_size h3
  have hcat : (v.text ++ s).size = v.text.size + s.size := ByteArray.size_append
  have hat : At (v.text ++ s) 0 (TL v) := At.of (r := s.data.toList) (append_list _ _)
  have hsc := scan_text h3 hr hat (fun hk => absurd hk h4)
  have hscan := scanx_pure (v.text ++ s) (by omega) 0
  have hparse := parsex_pure (v.text ++ s) (by omega)
  have hpo : parseO u8B (v.text ++ s) = (zeroV, ((TL v).length : Int), 2) := by
    unfold parseO
    rw [hsc, if_pos ⟨rfl, by show (((TL v).length : Nat) : Int) < _; rw [hcat, ← text_size]; omega⟩]
  rw [hsc] at hscan
  rw [hpo] at hparse
  rw [← text_size] at hscan hparse
  simp only [outAV, zeroV, Val.acs] at hscan hparse
  have hle : ((v.text.size + s.size : Nat) : Int) ≤ IntKind.i64.max := leMax (by omega)
  refine ⟨_, htext (by omega), Pre.mk hle ⟨_, hscan, Pre.mk hle ⟨_, hparse, ?_⟩⟩⟩
  refine Br.mk (fun _ => ?_) (fun h => by cases h)
  refine Br.mk (fun _ => ?_) (fun h => by simp at h)
  refine ⟨_, hself (right_ok h3), ?_⟩
  refine Br.mk (fun _ => ?_) (fun h => by cases h)
  refine Br.mk (fun _ => ?_) (fun h => by cases h)
  exact ⟨ret_b (by simp), rfl⟩

/-- A value that is right but for its depth, or its nodes: its text, parsed. -/
theorem parse_deep {u8B : ByteArray → Bool} {x : Val} (hp : x.parts u8B = true) (hr : x.rng) (h : rightB u8B x = false) : ∃ a e, parseO u8B x.text = (zeroV, a, e) ∧ (e = 3 ∨ e = 4) := by
  have hat : At x.text 0 (TL x) := At.of (l := TL x) (r := []) (by rw [List.append_nil]; rfl)
  have hrd := text_read x hp hr x.text 4 0 hat (fun _ hh => by have := hh.1; rw [text_size] at this; omega)
  have hsc : ∃ a e, scanO u8B x.text 0 = (zeroV, a, e) ∧ (e = 3 ∨ e = 4) := by
    unfold scanO
    rw [if_neg (by omega), show (0 : Int).toNat = 0 from rfl]
    by_cases hd : x.deep ≤ (4 : Nat)
    · rw [hrd.1 hd]
      dsimp only
      rw [if_neg (by rw [h]; simp)]
      exact ⟨_, _, rfl, .inr rfl⟩
    · obtain ⟨a, ha⟩ := hrd.2 hd
      rw [ha]
      exact ⟨_, _, rfl, .inl rfl⟩
  obtain ⟨a, e, h1, h2⟩ := hsc
  refine ⟨a, e, ?_, h2⟩
  unfold parseO
  rw [h1, if_neg (fun hh => by have := hh.1; dsimp only at this; omega)]

set_option maxRecDepth 8000 in
set_option maxHeartbeats 1000000 in
theorem listsLaw (a : Val) (ha : a.rng) (b : Val) (hb : b.rng) : PureA Try.prog 7 [.agg a.ac, .agg b.ac] (.c (.v (.bool true))) := by
  intro h
  refine callsA_of (D := D1 74 [] [] [14, 18, 23, 51, 57, 63, 68]) ty_ok mixed Try.func7 rfl (by kernel_rfl) (by kernel_rfl) (by simp [D1]) ?_
  intro g vs hrv
  clear hrv
  have hgreatA := great_pure a
  have hgreatB := great_pure b
  have hrightA := right_pure uvalid_ok a
  have hrightB := right_pure uvalid_ok b
  have htextA := text_pure a ha
  have htextB := text_pure b hb
  -- the list of both
  obtain ⟨x, hx⟩ : ∃ x : Val, x = ⟨5, 0, ⟨#[]⟩, [a, b]⟩ := ⟨_, rfl⟩
  have hxac : x.ac = [.v (.int .i64 5), .v (.int .i64 0), .v (.string ⟨#[]⟩), .sl 4 [[.v (.int .i64 a.kind), .v (.int .i64 a.n), .v (.string a.s), .sl 4 (Val.acs a.l)], [.v (.int .i64 b.kind), .v (.int .i64 b.n), .v (.string b.s), .sl 4 (Val.acs b.l)]]] := by
    rw [hx]
    show [AC.v (.int .i64 5), .v (.int .i64 0), .v (.string ⟨#[]⟩), .sl 4 [a.ac, b.ac]] = _
    rw [Val.ac_eq a, Val.ac_eq b]
  have hxr : x.rng := by rw [hx]; exact ⟨⟨by decide, by decide⟩, ha, hb, trivial⟩
  have hxn : x.nodes = 1 + (a.nodes + (b.nodes + 0)) := by rw [hx]; rfl
  have hxd : x.deep = max (max 0 a.deep) b.deep + 1 := by rw [hx, deep_def]; rfl
  have hxt : ((((⟨#[91]⟩ : ByteArray) ++ a.text) ++ (⟨#[32]⟩ : ByteArray)) ++ b.text) ++ (⟨#[93]⟩ : ByteArray) = x.text := by
    apply data_inj
    show _ = TL x
    rw [hx, TL_list, append_list, append_list, append_list, append_list]
    show 91 :: (TL a) ++ [32] ++ TL b ++ [93] = 91 :: (TL a ++ moreT [b]) ++ [93]
    rw [moreT_cons]; simp [moreT]
  have hrightX := right_pure uvalid_ok x
  have hselfX := vsame_self (v := x)
  have htextX := text_pure x hxr
  have hparse := parsex_pure x.text
  rw [hxac] at hrightX hselfX htextX
  rw [Val.ac_eq a] at hgreatA hrightA htextA ⊢
  rw [Val.ac_eq b] at hgreatB hrightB htextB ⊢
  refine ⟨_, alive_pure, Br.mk (fun h => by cases h) (fun _ => ?_)⟩
  refine ⟨_, hgreatA, Br.mk (fun h1 => ⟨rfl, rfl⟩) (fun h1 => ?_)⟩
  refine ⟨_, hgreatB, Br.mk (fun h2 => ⟨rfl, rfl⟩) (fun h2 => ?_)⟩
  obtain ⟨an, ad⟩ := greatB_false h1
  obtain ⟨bn, bd⟩ := greatB_false h2
  refine ⟨_, hrightA (by omega) (by omega), Br.mk (fun h3 => ⟨rfl, rfl⟩) (fun h3 => ?_)⟩
  refine ⟨_, hrightB (by omega) (by omega), Br.mk (fun h4 => ⟨rfl, rfl⟩) (fun h4 => ?_)⟩
  have h3 := not_f h3
  have h4 := not_f h4
  have sa := right_size h3
  have sb := right_size h4
  have hxp : x.parts u8B = true := by
    rw [hx, parts_def]
    show (singleB u8B 5 0 ⟨#[]⟩ 2 && (decide ((5 : Int) = 5) || decide (2 = 0)) && (a.parts u8B && (b.parts u8B && true))) = true
    rw [(right_spec h3).2.2, (right_spec h4).2.2]; rfl
  have p1 : ((ByteArray.size ⟨#[91]⟩ + a.text.size : Nat) : Int) ≤ IntKind.i64.max := leMax (by show 1 + _ ≤ _; omega)
  have z1 : ((⟨#[91]⟩ : ByteArray) ++ a.text).size = 1 + a.text.size := ByteArray.size_append
  have p2 : (((⟨#[91]⟩ ++ a.text : ByteArray).size + ByteArray.size ⟨#[32]⟩ : Nat) : Int) ≤ IntKind.i64.max := leMax (by rw [z1]; show _ + 1 ≤ _; omega)
  have z2 : (((⟨#[91]⟩ : ByteArray) ++ a.text) ++ (⟨#[32]⟩ : ByteArray)).size = 1 + a.text.size + 1 := by rw [ByteArray.size_append, z1]; rfl
  have p3 : ((((⟨#[91]⟩ : ByteArray) ++ a.text ++ (⟨#[32]⟩ : ByteArray)).size + b.text.size : Nat) : Int) ≤ IntKind.i64.max := leMax (by rw [z2]; omega)
  have z3 : ((((⟨#[91]⟩ : ByteArray) ++ a.text) ++ (⟨#[32]⟩ : ByteArray)) ++ b.text).size = 1 + a.text.size + 1 + b.text.size := by rw [ByteArray.size_append, z2]
  have p4 : (((((⟨#[91]⟩ : ByteArray) ++ a.text) ++ (⟨#[32]⟩ : ByteArray) ++ b.text).size + ByteArray.size ⟨#[93]⟩ : Nat) : Int) ≤ IntKind.i64.max := leMax (by rw [z3]; show _ + 1 ≤ _; omega)
  have zx : x.text.size ≤ 100000 := by
    rw [← hxt, ByteArray.size_append, z3]; show _ + 1 ≤ _; omega
  have hparse := hparse (by omega)
  refine Pre.mk (by kernel_rfl) ?_
  refine ⟨_, htextA (by omega), Pre.mk p1 (Pre.mk p2 ⟨_, htextB (by omega), Pre.mk p3 (Pre.mk p4 ?_)⟩)⟩
  cases hrx : rightB u8B x with
  | false =>
    obtain ⟨at', e, q1, q2⟩ := parse_deep hxp hxr hrx
    rw [q1] at hparse
    simp only [outAV, zeroV, Val.acs] at hparse
    rw [← hxt] at hparse
    refine ⟨_, hparse, _, hrightX (by omega) (by omega), ?_⟩
    refine Br.mk (fun _ => ?_) (fun h => by rw [hrx] at h; cases h)
    refine Br.mk (fun _ => ⟨rfl, rfl⟩) (fun h5 => ?_)
    have : e ≠ 3 := by simpa using h5
    have e4 : e = 4 := by omega
    exact ⟨ret_b (by rw [e4]; rfl), rfl⟩
  | true =>
    rw [parse_text hrx hxr] at hparse
    have hparse : PureA Try.prog 12 [.c (.v (.string x.text))] (.tup [.agg x.ac, .c (.v (.int .i64 x.text.size)), .c (.v (.int .i64 0))]) := by
      rw [Val.ac_eq]; exact hparse
    rw [hxac, ← hxt] at hparse
    refine ⟨_, hparse, _, hrightX (by omega) (by omega), ?_⟩
    refine Br.mk (fun h => by rw [hrx] at h; cases h) (fun _ => ?_)
    refine Br.mk (fun _ => ?_) (fun h => by cases h)
    refine Br.mk (fun _ => ?_) (fun h => by simp at h)
    refine ⟨_, hselfX (right_ok hrx), ?_⟩
    refine Br.mk (fun _ => ?_) (fun h => by cases h)
    refine ⟨_, htextX (by omega), ?_⟩
    exact ⟨ret_b (by rw [← hxt]; exact str_eq _), rfl⟩
end Go.Proofs.Ytgdgfomoeohdeaa
