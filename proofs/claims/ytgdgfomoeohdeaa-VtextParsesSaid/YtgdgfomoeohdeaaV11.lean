/- The reader of package vtext: word, symbol, number. -/
import Derived.Test.YtgdgfomoeohdeaaV10
set_option linter.unusedVariables false
set_option linter.unusedSimpArgs false
namespace Go.Proofs.Ytgdgfomoeohdeaa
open Aw

/-- All but the reader's block stays. -/
def Kp (b : Nat) (h h' : Heap) : Prop := ∀ q y, q ≠ b → h q = some y → h' q = some y
theorem Kp.refl (b : Nat) (h : Heap) : Kp b h h := fun _ _ _ h => h
theorem Kp.upd {b : Nat} {h h' : Heap} (k : Kp b h h') (x : HO) : Kp b h (upd h' b x) := fun q y hq hy => by rw [upd_ne _ x hq]; exact k q y hq hy
theorem Kp.trans {b : Nat} {h h' h'' : Heap} (k : Kp b h h') (k' : Kp b h' h'') : Kp b h h'' := fun q y hq hy => k' q y hq (k q y hq hy)
/-- How a reading ends. -/
def RdK (R : Res) (b : Nat) (s : ByteArray) (d : Int) (h : Heap) (x : AEnd) (h' : Heap) : Prop := match R with
  | .ok v n => x = .ret (.agg v.ac) ∧ h' b = some (rdC s n d) ∧ Kp b h h'
  | .no a e => x = .pan (wrongV a e) ∧ Kp b h h'
def RdK0 (R : Res) (b : Nat) (s : ByteArray) (d : Int) (h : Heap) (x : AEnd) (h' : Heap) : Prop := match R with
  | .ok v n => (∃ r0, x = .ret r0 ∧ VLe r0 (.agg v.ac)) ∧ h' b = some (rdC s n d) ∧ Kp b h h'
  | .no a e => x = .pan (wrongV a e) ∧ Kp b h h'
theorem RdK.of0 {f : Nat} {args : List AV} {R : Res} {b : Nat} {s : ByteArray} {d : Int} {h : Heap} (c : CallsA Try.prog f args h (RdK0 R b s d h)) : CallsA Try.prog f args h (RdK R b s d h) := by
  refine c.le fun e h' hk => ?_
  cases R with
  | ok v n =>
    obtain ⟨⟨r0, rfl, hl⟩, h2, h3⟩ := hk
    exact ⟨.ret (.agg v.ac), hl, rfl, h2, h3⟩
  | no a x =>
    obtain ⟨rfl, h3⟩ := hk
    exact ⟨.pan _, rfl, rfl, h3⟩
theorem RdK0.ok {R : Res} {b : Nat} {s : ByteArray} {d : Int} {h h' : Heap} {k n : Int} {str : ByteArray} {next : Nat} (hR : R = .ok ⟨k, n, str, []⟩ next) (h2 : h' b = some (rdC s next d)) (h3 : Kp b h h') :
    RdK0 R b s d h (.ret (.agg [.v (.int .i64 k), .v (.int .i64 n), .v (.string str), .nil])) h' := by
  subst hR; exact ⟨⟨_, rfl, aggNil _ _ _⟩, h2, h3⟩
theorem RdK0.no {R : Res} {b : Nat} {s : ByteArray} {d : Int} {h h' : Heap} {a : Nat} {e x y : Int} (hR : R = .no a e) (hx : x = (a : Int)) (hy : y = e) (h3 : Kp b h h') : RdK0 R b s d h (.pan (wrongV x y)) h' := by
  subst hR hx hy; exact ⟨rfl, h3⟩

theorem word_calls (b : Nat) (s : ByteArray) (p : Nat) (d : Int) (h : Heap) (hb : h b = some (rdC s p d)) (hs : s.size < 1000000000) (hp : p ≤ s.size) :
    CallsA Try.prog 33 [.c (.v (.pointer (some ⟨b, 0, none⟩)))] h (RdK (wordS s p) b s d h) := by
  refine RdK.of0 ?_
  refine callsA_of (D := D2 22 [] [] []) ty_ok mixed Try.func33 rfl (by kernel_rfl) (by kernel_rfl) (by simp [D2]) ?_
  intro g vs hr
  clear hr
  obtain ⟨R, hw⟩ : ∃ R, R = wordS s p := ⟨_, rfl⟩
  rw [← hw]
  unfold wordS at hw
  dsimp only at hw
  refine ⟨_, _, hb, ?_⟩
  refine (run_letter b s p d h hb hs hp).mono ?_
  rintro x h' ⟨rfl, rfl⟩
  have hk : Kp b h (upd h b (rdC s (p + rowN letterB s p : Nat) d)) := (Kp.refl b h).upd _
  refine Br.mk (fun h1 => ?_) (fun h1 => ?_)
  · rw [if_pos h1] at hw
    exact RdK0.ok hw (upd_get _ _ _) hk
  rw [if_neg (by rw [h1]; exact Bool.false_ne_true)] at hw
  refine Br.mk (fun h2 => ?_) (fun h2 => ?_)
  · rw [if_pos h2] at hw
    exact RdK0.ok hw (upd_get _ _ _) hk
  rw [if_neg (by rw [h2]; exact Bool.false_ne_true)] at hw
  refine Br.mk (fun h3 => ?_) (fun h3 => ?_)
  · rw [if_pos h3] at hw
    exact RdK0.ok hw (upd_get _ _ _) hk
  rw [if_neg (by rw [h3]; exact Bool.false_ne_true)] at hw
  exact RdK0.no hw rfl rfl hk

theorem symbol_calls (b : Nat) (s : ByteArray) (p : Nat) (d : Int) (h : Heap) (hb : h b = some (rdC s p d)) (hs : s.size < 1000000000) (hp : p < s.size) :
    CallsA Try.prog 34 [.c (.v (.pointer (some ⟨b, 0, none⟩)))] h (RdK (symS s p) b s d h) := by
  refine RdK.of0 ?_
  refine callsA_of (D := D2 24 [] [] []) ty_ok mixed Try.func34 rfl (by kernel_rfl) (by kernel_rfl) (by simp [D2]) ?_
  intro g vs hr
  clear hr
  obtain ⟨R, hR⟩ : ∃ R, R = symS s p := ⟨_, rfl⟩
  rw [← hR]
  have hw : IntKind.i64.wrap ((p : Int) + 1) = (p + 1 : Nat) := by rw [wrap64] <;> omega
  obtain ⟨h1, hh1⟩ : ∃ h1, h1 = upd h b (rdC s (IntKind.i64.wrap ((p : Int) + 1)) d) := ⟨_, rfl⟩
  have hg1 : upd h b (rdC s (IntKind.i64.wrap ((p : Int) + 1)) d) b = some (rdC s (p + 1 : Nat) d) := by rw [upd_get, hw]
  refine ⟨_, _, hb, _, _, hb, by show 2 ≤ 3; decide, ?_⟩
  refine ⟨_, _, hg1, ?_⟩
  refine (run_sym b s (p + 1) d _ hg1 hs hp).mono ?_
  rintro x h' ⟨rfl, rfl⟩
  refine ⟨_, isName_pure _, ?_⟩
  refine (must_calls _ _ _ _).mono ?_
  rintro x h' ⟨rfl, hk⟩
  have hkp : Kp b h (upd (upd h b (rdC s (IntKind.i64.wrap ((p : Int) + 1)) d)) b (rdC s (p + 1 + rowN symC s (p + 1) : Nat) d)) := ((Kp.refl b h).upd _).upd _
  cases hn : nameB (s.extract (p + 1) (p + 1 + rowN symC s (p + 1))) with
  | true =>
    rw [hn] at hk
    have hk : x = .ret (.tup []) := hk
    subst hk
    exact RdK0.ok (by rw [hR]; unfold symS; dsimp only; rw [if_pos hn]) (upd_get _ _ _) hkp
  | false =>
    rw [hn] at hk
    have hk : x = .pan _ := hk
    subst hk
    exact RdK0.no (a := p + 1) (by rw [hR]; unfold symS; dsimp only; rw [if_neg (by rw [hn]; exact Bool.false_ne_true)]) rfl rfl hkp

theorem number_calls (b : Nat) (s : ByteArray) (p : Nat) (d : Int) (h : Heap) (hb : h b = some (rdC s p d)) (hs : s.size < 1000000000) (hp : p ≤ s.size) :
    CallsA Try.prog 35 [.c (.v (.pointer (some ⟨b, 0, none⟩)))] h (RdK (numS s p) b s d h) := by
  refine RdK.of0 ?_
  refine callsA_of (D := D2 33 [] [] []) ty_ok mixed Try.func35 rfl (by kernel_rfl) (by kernel_rfl) (by simp [D2]) ?_
  intro g vs hr
  clear hr
  obtain ⟨R, hR⟩ : ∃ R, R = numS s p := ⟨_, rfl⟩
  rw [← hR]
  refine Pre.mk (by kernel_rfl) ?_
  refine ⟨_, _, hb, _, _, hb, ?_⟩
  refine ⟨_, scan_pure s p hs hp, ?_⟩
  refine ⟨_, _, hb, ?_⟩
  refine (must_calls _ _ _ _).mono ?_
  rintro x h' ⟨rfl, hk⟩
  cases hn : ((scanS s p).2.2 == 0) with
  | true =>
    rw [hn] at hk
    have hk : x = .ret (.tup []) := hk
    subst hk
    have he := eq_of_beq hn
    refine ⟨_, _, hb, by show 2 ≤ 3; decide, ?_⟩
    exact RdK0.ok (by rw [hR]; unfold numS; rw [if_pos he]) (upd_get _ _ _) ((Kp.refl b _).upd _)
  | false =>
    rw [hn] at hk
    have hk : x = .pan _ := hk
    subst hk
    have he := ne_of_beq_false hn
    exact RdK0.no (a := p) (by rw [hR]; unfold numS; rw [if_neg he]) rfl rfl (Kp.refl b _)
end Go.Proofs.Ytgdgfomoeohdeaa
