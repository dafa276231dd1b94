/- The reader of package vtext: must, here, run, the test of a symbol's bytes. The reader of package vtext: word, symbol, number. -/
import Derived.Test.YtdgjpncflkpjfaaDoorV9a
import Derived.Test.YtdgjpncflkpjfaaDoorV2
import Derived.Test.YtdgjpncflkpjfaaDoorV7
/-! The reader of package vtext: must, here, run, the test of a symbol's bytes. -/
set_option linter.unusedVariables false
set_option linter.unusedSimpArgs false
namespace Go.Proofs.YtdgjpncflkpjfaaDoor
open Aw

/-- The functions that are not pure: they write the reader, or give up. -/
def imp : List Nat := [77, 78, 83, 84, 85, 86, 87, 90, 94]
noncomputable def D2 (nt : Nat) (esc gd ll : List Nat) : Cfg2 := { P := Tryd.prog, ty := ty, nt := nt, pure := fun f => !imp.any (Nat.beq f), esc := fun t => esc.any (Nat.beq t), lload := fun t => ll.any (Nat.beq t), gd := fun t => gd.any (Nat.beq t) }
theorem awp2 {nt : Nat} {es gd ll : List Nat} {c : Code} {st : St} {Q : AX → St → Prop} (h : awp (D2 nt es gd ll) c st Q) : Awp (D2 nt es gd ll) c st Q := .of ty_ok mixed h

def rdC (s : ByteArray) (a d : Int) : HO := .cells 109 [.v (.string s), .v (.int .i64 a), .v (.int .i64 d)]
def wrongV (a e : Int) : Value := .iface 105 (.agg #[.int .i64 a, .int .i64 e])

theorem must_calls (b : Bool) (a e : Int) (h : Heap) : CallsA Tryd.prog 78 [.c (.v (.bool b)), .c (.v (.int .i64 a)), .c (.v (.int .i64 e))] h fun x h' => h' = h ∧ (match b with | true => x = .ret (.tup []) | false => x = .pan (wrongV a e)) := by
  refine callsA_of (D := D2 12 [] [] []) ty_ok mixed Tryd.func78 rfl (by kernel_rfl) (by kernel_rfl) (by simp [D2]) ?_
  intro g vs hr
  refine Br.mk (fun hb => ?_) (fun hb => ?_)
  · have := not_t hb; subst this
    exact ⟨rfl, rfl⟩
  · have := not_f hb; subst this
    exact ⟨rfl, rfl⟩

theorem symc_pure {c : Int} (h0 : 0 ≤ c) (h1 : c < 256) : PureA Tryd.prog 92 [.c (.v (.int .u8 c))] (.c (.v (.bool (symC c)))) := by
  intro h
  refine callsA_of (D := D2 21 [] [5, 8, 13, 17] []) ty_ok mixed Tryd.func92 rfl (by kernel_rfl) (by kernel_rfl) (by simp [D2]) ?_
  intro g vs hr
  clear hr
  refine ⟨_, vletter_pure h0 h1, ?_⟩
  repeat' refine Br.mk (fun _ => ?_) (fun _ => ?_)
  all_goals
    refine ⟨ret_b ?_, rfl⟩
    simp_all [symC]
    try omega

set_option maxRecDepth 4000 in
theorem here_calls (b : Nat) (s : ByteArray) (p : Nat) (d c : Int) (h : Heap) (hb : h b = some (rdC s p d)) (hs : s.size < 1000000000) (hp : p ≤ s.size) :
    CallsA Tryd.prog 94 [.c (.v (.pointer (some ⟨b, 0, none⟩))), .c (.v (.int .u8 c))] h fun x h' =>
      (p < s.size ∧ bt s p = c ∧ x = .ret (.c (.v (.bool true))) ∧ h' = upd h b (rdC s (p + 1 : Nat) d)) ∨ (¬ (p < s.size ∧ bt s p = c) ∧ x = .ret (.c (.v (.bool false))) ∧ h' = h) := by
  refine callsA_of (D := D2 35 [] [15] []) ty_ok mixed Tryd.func94 rfl (by kernel_rfl) (by kernel_rfl) (by simp [D2]) ?_
  intro g vs hr
  clear hr
  refine Pre.mk (by kernel_rfl) ?_
  refine ⟨_, _, hb, _, _, hb, ?_⟩
  refine Br.mk (fun h1 => ?_) (fun h1 => ?_)
  · have h1 := eq_of_beq h1
    exact .inr ⟨by omega, rfl, rfl⟩
  have h1 := ne_of_beq_false h1
  refine ⟨_, _, hb, _, _, hb, Pre.mk ⟨by omega, by omega⟩ ?_⟩
  refine Br.mk (fun h2 => ?_) (fun h2 => ?_)
  · have h2 : bt s p ≠ c := by simpa using h2
    exact .inr ⟨fun hh => h2 hh.2, rfl, rfl⟩
  · have h2 : bt s p = c := by simpa using h2
    have hw : IntKind.i64.wrap ((p : Int) + 1) = (p + 1 : Nat) := by rw [wrap64] <;> omega
    refine ⟨_, _, hb, _, _, hb, by show 2 ≤ 3; decide, .inl ⟨by omega, h2, rfl, ?_⟩⟩
    show upd h b (rdC s (IntKind.i64.wrap ((p : Int) + 1)) d) = _
    rw [hw]

theorem upd_get (h : Heap) (b : Nat) (x : HO) : upd h b x b = some x := by simp [upd]
theorem upd_same' {h : Heap} {b : Nat} {x : HO} (hb : h b = some x) : upd h b x = h := by
  funext q; by_cases e : q = b
  · subst e; rw [upd_get, hb]
  · rw [upd_ne h x e]
theorem upd_upd (h : Heap) (b : Nat) (x y : HO) : upd (upd h b x) b y = upd h b y := by
  funext q; by_cases e : q = b
  · subst e; rw [upd_get, upd_get]
  · rw [upd_ne _ y e, upd_ne _ x e, upd_ne _ y e]

set_option maxRecDepth 4000 in
theorem run_letter (b : Nat) (s : ByteArray) (p : Nat) (d : Int) (h : Heap) (hb : h b = some (rdC s p d)) (hs : s.size < 1000000000) (hp : p ≤ s.size) :
    CallsA Tryd.prog 90 [.c (.v (.pointer (some ⟨b, 0, none⟩))), .c (.v (.func (.func 91) #[] #[]))] h fun x h' =>
      x = .ret (.c (.v (.string (s.extract p (p + rowN letterB s p))))) ∧ h' = upd h b (rdC s (p + rowN letterB s p : Nat) d) := by
  refine callsA_of (D := D2 50 [] [20, 31] []) ty_ok mixed Tryd.func90 rfl (by kernel_rfl) (by kernel_rfl) (by simp [D2]) ?_
  intro g vs hr
  clear hr
  refine ⟨_, _, hb, ?_⟩
  refine LoopA.mk ⟨⟨[0, 1, 4, 5], 0, 0⟩, fun n st => ∃ (i : Nat) (hh : Heap), st = ⟨[(0, .c (.v (.pointer (some ⟨b, 0, none⟩)))), (1, .c (.v (.func (.func 91) #[] #[]))), (4, .c (.v (.string ⟨#[]⟩))), (5, .c (.v (.int .i64 p)))], ⟨[], [], hh⟩⟩ ∧ p + i ≤ s.size ∧ n = s.size - (p + i) ∧ hh = upd h b (rdC s (p + i : Nat) d) ∧ (∀ k : Nat, k < i → p + k < s.size ∧ letterB (bt s (p + k : Nat)) = true), ⟨rfl, s.size - p, _, .refl _ _, 0, _, rfl, hp, rfl, (upd_same' hb).symm, by simp⟩, ?_⟩
  rintro n _ ⟨i, hh, rfl, hi, rfl, hhe, hall⟩
  have hg : hh b = some (rdC s (p + i : Nat) d) := by rw [hhe, upd_get]
  have next : p + i < s.size → letterB (bt s (p + i : Nat)) = true → ∀ k : Nat, k < i + 1 → p + k < s.size ∧ letterB (bt s (p + k : Nat)) = true := fun hl hs k hk => by
    by_cases e : k = i
    · rw [e]; exact ⟨hl, hs⟩
    · exact hall k (by omega)
  have ends : ¬ (p + i < s.size ∧ letterB (bt s (p + i : Nat)) = true) → rowN letterB s p = i := fun hn => rowN_eq hall hn
  refine Pre.mk (by kernel_rfl) ?_
  refine ⟨_, _, hg, _, _, hg, ?_⟩
  refine Br.mk (fun h1 => ?_) (fun h1 => ?_)
  · have h1 : p + i < s.size := by have := of_decide_eq_true h1; omega
    refine ⟨_, _, hg, _, _, hg, Pre.mk ⟨by omega, by omega⟩ ?_⟩
    refine ⟨_, vletter_pure (bt_nn _ _) (bt_lt _ _), ?_⟩
    refine Br.mk (fun h2 => ?_) (fun h2 => ?_)
    · have hw : IntKind.i64.wrap (((p + i : Nat) : Int) + 1) = (p + (i + 1) : Nat) := by rw [wrap64] <;> omega
      refine ⟨_, _, hg, _, _, hg, by show 2 ≤ 3; decide, ?_⟩
      refine ⟨rfl, s.size - (p + (i + 1)), by omega, _, .refl _ _, i + 1, _, rfl, by omega, rfl, ?_, next h1 h2⟩
      show upd hh b (rdC s (IntKind.i64.wrap (((p + i : Nat) : Int) + 1)) d) = _
      rw [hw, hhe, upd_upd]
    · have he := ends (fun hh => by rw [hh.2] at h2; cases h2)
      refine Pre.mk (by kernel_rfl) ?_
      refine ⟨_, _, hg, _, _, hg, Pre.mk (by omega) ⟨?_, ?_⟩⟩
      · rw [he]; rfl
      · rw [he]; exact hhe
  · have he := ends (fun hh => by have := of_decide_eq_false h1; omega)
    refine Pre.mk (by kernel_rfl) ?_
    refine ⟨_, _, hg, _, _, hg, Pre.mk (by omega) ⟨?_, ?_⟩⟩
    · rw [he]; rfl
    · rw [he]; exact hhe

set_option maxRecDepth 4000 in
theorem run_sym (b : Nat) (s : ByteArray) (p : Nat) (d : Int) (h : Heap) (hb : h b = some (rdC s p d)) (hs : s.size < 1000000000) (hp : p ≤ s.size) :
    CallsA Tryd.prog 90 [.c (.v (.pointer (some ⟨b, 0, none⟩))), .c (.v (.func (.func 92) #[] #[]))] h fun x h' =>
      x = .ret (.c (.v (.string (s.extract p (p + rowN symC s p))))) ∧ h' = upd h b (rdC s (p + rowN symC s p : Nat) d) := by
  refine callsA_of (D := D2 50 [] [20, 31] []) ty_ok mixed Tryd.func90 rfl (by kernel_rfl) (by kernel_rfl) (by simp [D2]) ?_
  intro g vs hr
  clear hr
  refine ⟨_, _, hb, ?_⟩
  refine LoopA.mk ⟨⟨[0, 1, 4, 5], 0, 0⟩, fun n st => ∃ (i : Nat) (hh : Heap), st = ⟨[(0, .c (.v (.pointer (some ⟨b, 0, none⟩)))), (1, .c (.v (.func (.func 92) #[] #[]))), (4, .c (.v (.string ⟨#[]⟩))), (5, .c (.v (.int .i64 p)))], ⟨[], [], hh⟩⟩ ∧ p + i ≤ s.size ∧ n = s.size - (p + i) ∧ hh = upd h b (rdC s (p + i : Nat) d) ∧ (∀ k : Nat, k < i → p + k < s.size ∧ symC (bt s (p + k : Nat)) = true), ⟨rfl, s.size - p, _, .refl _ _, 0, _, rfl, hp, rfl, (upd_same' hb).symm, by simp⟩, ?_⟩
  rintro n _ ⟨i, hh, rfl, hi, rfl, hhe, hall⟩
  have hg : hh b = some (rdC s (p + i : Nat) d) := by rw [hhe, upd_get]
  have next : p + i < s.size → symC (bt s (p + i : Nat)) = true → ∀ k : Nat, k < i + 1 → p + k < s.size ∧ symC (bt s (p + k : Nat)) = true := fun hl hs k hk => by
    by_cases e : k = i
    · rw [e]; exact ⟨hl, hs⟩
    · exact hall k (by omega)
  have ends : ¬ (p + i < s.size ∧ symC (bt s (p + i : Nat)) = true) → rowN symC s p = i := fun hn => rowN_eq hall hn
  refine Pre.mk (by kernel_rfl) ?_
  refine ⟨_, _, hg, _, _, hg, ?_⟩
  refine Br.mk (fun h1 => ?_) (fun h1 => ?_)
  · have h1 : p + i < s.size := by have := of_decide_eq_true h1; omega
    refine ⟨_, _, hg, _, _, hg, Pre.mk ⟨by omega, by omega⟩ ?_⟩
    refine ⟨_, symc_pure (bt_nn _ _) (bt_lt _ _), ?_⟩
    refine Br.mk (fun h2 => ?_) (fun h2 => ?_)
    · have hw : IntKind.i64.wrap (((p + i : Nat) : Int) + 1) = (p + (i + 1) : Nat) := by rw [wrap64] <;> omega
      refine ⟨_, _, hg, _, _, hg, by show 2 ≤ 3; decide, ?_⟩
      refine ⟨rfl, s.size - (p + (i + 1)), by omega, _, .refl _ _, i + 1, _, rfl, by omega, rfl, ?_, next h1 h2⟩
      show upd hh b (rdC s (IntKind.i64.wrap (((p + i : Nat) : Int) + 1)) d) = _
      rw [hw, hhe, upd_upd]
    · have he := ends (fun hh => by rw [hh.2] at h2; cases h2)
      refine Pre.mk (by kernel_rfl) ?_
      refine ⟨_, _, hg, _, _, hg, Pre.mk (by omega) ⟨?_, ?_⟩⟩
      · rw [he]; rfl
      · rw [he]; exact hhe
  · have he := ends (fun hh => by have := of_decide_eq_false h1; omega)
    refine Pre.mk (by kernel_rfl) ?_
    refine ⟨_, _, hg, _, _, hg, Pre.mk (by omega) ⟨?_, ?_⟩⟩
    · rw [he]; rfl
    · rw [he]; exact hhe
end Go.Proofs.YtdgjpncflkpjfaaDoor

/-! The reader of package vtext: word, symbol, number. -/
set_option linter.unusedVariables false
set_option linter.unusedSimpArgs false
namespace Go.Proofs.YtdgjpncflkpjfaaDoor
open Aw

/-- All but the reader's block stays. -/
def Kp (b : Nat) (h h' : Heap) : Prop := ∀ q y, q ≠ b → h q = some y → h' q = some y
theorem Kp.refl (b : Nat) (h : Heap) : Kp b h h := fun _ _ _ h => h
theorem Kp.upd {b : Nat} {h h' : Heap} (k : Kp b h h') (x : HO) : Kp b h (upd h' b x) := fun q y hq hy => by rw [upd_ne _ x hq]; exact k q y hq hy
theorem Kp.trans {b : Nat} {h h' h'' : Heap} (k : Kp b h h') (k' : Kp b h' h'') : Kp b h h'' := fun q y hq hy => k' q y hq (k q y hq hy)
/-- How a reading ends. -/
def RdK (R : Res) (b : Nat) (s : ByteArray) (d : Int) (h : Heap) (x : AEnd) (h' : Heap) : Prop := match R with
  | .ok v n => x = .ret (.agg v.ac) ∧ h' b = some (rdC s n d) ∧ Kp b h h'
  | .no a e => x = .pan (wrongV a e) ∧ Kp b h h'
def RdK0 (R : Res) (b : Nat) (s : ByteArray) (d : Int) (h : Heap) (x : AEnd) (h' : Heap) : Prop := match R with
  | .ok v n => (∃ r0, x = .ret r0 ∧ VLe r0 (.agg v.ac)) ∧ h' b = some (rdC s n d) ∧ Kp b h h'
  | .no a e => x = .pan (wrongV a e) ∧ Kp b h h'
theorem RdK.of0 {f : Nat} {args : List AV} {R : Res} {b : Nat} {s : ByteArray} {d : Int} {h : Heap} (c : CallsA Tryd.prog f args h (RdK0 R b s d h)) : CallsA Tryd.prog f args h (RdK R b s d h) := by
  refine c.le fun e h' hk => ?_
  cases R with
  | ok v n =>
    obtain ⟨⟨r0, rfl, hl⟩, h2, h3⟩ := hk
    exact ⟨.ret (.agg v.ac), hl, rfl, h2, h3⟩
  | no a x =>
    obtain ⟨rfl, h3⟩ := hk
    exact ⟨.pan _, rfl, rfl, h3⟩
theorem RdK0.ok {R : Res} {b : Nat} {s : ByteArray} {d : Int} {h h' : Heap} {k n : Int} {str : ByteArray} {next : Nat} (hR : R = .ok ⟨k, n, str, []⟩ next) (h2 : h' b = some (rdC s next d)) (h3 : Kp b h h') :
    RdK0 R b s d h (.ret (.agg [.v (.int .i64 k), .v (.int .i64 n), .v (.string str), .nil])) h' := by
  subst hR; exact ⟨⟨_, rfl, aggNil _ _ _⟩, h2, h3⟩
theorem RdK0.no {R : Res} {b : Nat} {s : ByteArray} {d : Int} {h h' : Heap} {a : Nat} {e x y : Int} (hR : R = .no a e) (hx : x = (a : Int)) (hy : y = e) (h3 : Kp b h h') : RdK0 R b s d h (.pan (wrongV x y)) h' := by
  subst hR hx hy; exact ⟨rfl, h3⟩

theorem word_calls (b : Nat) (s : ByteArray) (p : Nat) (d : Int) (h : Heap) (hb : h b = some (rdC s p d)) (hs : s.size < 1000000000) (hp : p ≤ s.size) :
    CallsA Tryd.prog 83 [.c (.v (.pointer (some ⟨b, 0, none⟩)))] h (RdK (wordS s p) b s d h) := by
  refine RdK.of0 ?_
  refine callsA_of (D := D2 22 [] [] []) ty_ok mixed Tryd.func83 rfl (by kernel_rfl) (by kernel_rfl) (by simp [D2]) ?_
  intro g vs hr
  clear hr
  obtain ⟨R, hw⟩ : ∃ R, R = wordS s p := ⟨_, rfl⟩
  rw [← hw]
  unfold wordS at hw
  dsimp only at hw
  refine ⟨_, _, hb, ?_⟩
  refine (run_letter b s p d h hb hs hp).mono ?_
  rintro x h' ⟨rfl, rfl⟩
  have hk : Kp b h (upd h b (rdC s (p + rowN letterB s p : Nat) d)) := (Kp.refl b h).upd _
  refine Br.mk (fun h1 => ?_) (fun h1 => ?_)
  · rw [if_pos h1] at hw
    exact RdK0.ok hw (upd_get _ _ _) hk
  rw [if_neg (by rw [h1]; exact Bool.false_ne_true)] at hw
  refine Br.mk (fun h2 => ?_) (fun h2 => ?_)
  · rw [if_pos h2] at hw
    exact RdK0.ok hw (upd_get _ _ _) hk
  rw [if_neg (by rw [h2]; exact Bool.false_ne_true)] at hw
  refine Br.mk (fun h3 => ?_) (fun h3 => ?_)
  · rw [if_pos h3] at hw
    exact RdK0.ok hw (upd_get _ _ _) hk
  rw [if_neg (by rw [h3]; exact Bool.false_ne_true)] at hw
  exact RdK0.no hw rfl rfl hk

theorem symbol_calls (b : Nat) (s : ByteArray) (p : Nat) (d : Int) (h : Heap) (hb : h b = some (rdC s p d)) (hs : s.size < 1000000000) (hp : p < s.size) :
    CallsA Tryd.prog 84 [.c (.v (.pointer (some ⟨b, 0, none⟩)))] h (RdK (symS s p) b s d h) := by
  refine RdK.of0 ?_
  refine callsA_of (D := D2 24 [] [] []) ty_ok mixed Tryd.func84 rfl (by kernel_rfl) (by kernel_rfl) (by simp [D2]) ?_
  intro g vs hr
  clear hr
  obtain ⟨R, hR⟩ : ∃ R, R = symS s p := ⟨_, rfl⟩
  rw [← hR]
  have hw : IntKind.i64.wrap ((p : Int) + 1) = (p + 1 : Nat) := by rw [wrap64] <;> omega
  obtain ⟨h1, hh1⟩ : ∃ h1, h1 = upd h b (rdC s (IntKind.i64.wrap ((p : Int) + 1)) d) := ⟨_, rfl⟩
  have hg1 : upd h b (rdC s (IntKind.i64.wrap ((p : Int) + 1)) d) b = some (rdC s (p + 1 : Nat) d) := by rw [upd_get, hw]
  refine ⟨_, _, hb, _, _, hb, by show 2 ≤ 3; decide, ?_⟩
  refine ⟨_, _, hg1, ?_⟩
  refine (run_sym b s (p + 1) d _ hg1 hs hp).mono ?_
  rintro x h' ⟨rfl, rfl⟩
  refine ⟨_, isName_pure _, ?_⟩
  refine (must_calls _ _ _ _).mono ?_
  rintro x h' ⟨rfl, hk⟩
  have hkp : Kp b h (upd (upd h b (rdC s (IntKind.i64.wrap ((p : Int) + 1)) d)) b (rdC s (p + 1 + rowN symC s (p + 1) : Nat) d)) := ((Kp.refl b h).upd _).upd _
  cases hn : nameB (s.extract (p + 1) (p + 1 + rowN symC s (p + 1))) with
  | true =>
    rw [hn] at hk
    have hk : x = .ret (.tup []) := hk
    subst hk
    exact RdK0.ok (by rw [hR]; unfold symS; dsimp only; rw [if_pos hn]) (upd_get _ _ _) hkp
  | false =>
    rw [hn] at hk
    have hk : x = .pan _ := hk
    subst hk
    exact RdK0.no (a := p + 1) (by rw [hR]; unfold symS; dsimp only; rw [if_neg (by rw [hn]; exact Bool.false_ne_true)]) rfl rfl hkp

theorem number_calls (b : Nat) (s : ByteArray) (p : Nat) (d : Int) (h : Heap) (hb : h b = some (rdC s p d)) (hs : s.size < 1000000000) (hp : p ≤ s.size) :
    CallsA Tryd.prog 85 [.c (.v (.pointer (some ⟨b, 0, none⟩)))] h (RdK (numS s p) b s d h) := by
  refine RdK.of0 ?_
  refine callsA_of (D := D2 33 [] [] []) ty_ok mixed Tryd.func85 rfl (by kernel_rfl) (by kernel_rfl) (by simp [D2]) ?_
  intro g vs hr
  clear hr
  obtain ⟨R, hR⟩ : ∃ R, R = numS s p := ⟨_, rfl⟩
  rw [← hR]
  refine Pre.mk (by kernel_rfl) ?_
  refine ⟨_, _, hb, _, _, hb, ?_⟩
  refine ⟨_, scan_pure s p hs hp, ?_⟩
  refine ⟨_, _, hb, ?_⟩
  refine (must_calls _ _ _ _).mono ?_
  rintro x h' ⟨rfl, hk⟩
  cases hn : ((scanS s p).2.2 == 0) with
  | true =>
    rw [hn] at hk
    have hk : x = .ret (.tup []) := hk
    subst hk
    have he := eq_of_beq hn
    refine ⟨_, _, hb, by show 2 ≤ 3; decide, ?_⟩
    exact RdK0.ok (by rw [hR]; unfold numS; rw [if_pos he]) (upd_get _ _ _) ((Kp.refl b _).upd _)
  | false =>
    rw [hn] at hk
    have hk : x = .pan _ := hk
    subst hk
    have he := ne_of_beq_false hn
    exact RdK0.no (a := p) (by rw [hR]; unfold numS; rw [if_neg he]) rfl rfl (Kp.refl b _)
end Go.Proofs.YtdgjpncflkpjfaaDoor
