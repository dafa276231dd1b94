/- The contract of douaneref14.get. -/
import Derived.Test.YtgdgfomoeohdeaaV9a
set_option linter.unusedVariables false
set_option linter.unusedSimpArgs false
namespace Go.Proofs.Ytgdgfomoeohdeaa
open Aw
set_option maxRecDepth 8000 in
set_option maxHeartbeats 4000000 in
theorem get_pure (s : ByteArray) (hs : s.size < 1000000000) : ∀ (d p : Nat), p ≤ s.size → d < 1000 → PureA Try.prog 21 [.c (.v (.string s)), .c (.v (.int .i64 p)), .c (.v (.int .i64 d))] (resAV (getS s d p)) := by
  intro d
  induction d using Nat.strongRecOn with
  | _ d IH =>
  intro p hp hd
  refine PureA.le fun h => ?_
  refine callsA_ofS (D := D1 266 [] [] [39, 47, 52, 59, 65, 91, 96, 101, 153, 159, 164, 197, 201, 211, 215]) ty_ok mixed Try.func21 rfl (by kernel_rfl) (by kernel_rfl) (by simp [D1]) ?_
  intro g vs hr
  clear hr
  obtain ⟨R, hR⟩ : ∃ R, R = getS s d p := ⟨_, rfl⟩
  have hK : ∃ list, R = kindS s p list := by rw [hR]; cases d <;> exact ⟨_, rfl⟩
  rw [← hR]
  refine Awp.seq (awp1 ?_)
  refine Awp.seq (awp1 ?_)
  refine Awp.seq (awp1 ?_)
  refine Br.mk (fun h1 => ?_) (fun h1 => ?_)
  · obtain ⟨list, hK⟩ := hK
    have h1 := eq_of_beq h1
    exact ⟨⟨_, rfl, leNo (a := p) (e := 2) (by rw [hK]; unfold kindS; rw [if_pos (by omega)]) rfl rfl⟩, rfl⟩
  have hne : p ≠ s.size := by have := ne_of_beq_false h1; omega
  have hlt : p < s.size := by omega
  have hix : 0 ≤ (p : Int) ∧ (p : Int).toNat < s.size := ⟨by omega, by omega⟩
  have hp1 : IntKind.i64.wrap ((p : Int) + 1) = (p + 1 : Nat) := by rw [wrap64] <;> omega
  refine (Awp.cut ⟨[0, 1, 2, 6, 7, 8, 9], 2, 0⟩ (fun st => st = ⟨[(0, .c (.v (.string s))), (1, .c (.v (.int .i64 p))), (2, .c (.v (.int .i64 d))), (6, .c (.loc 0 0)), (7, .c (.v (.int .i64 0))), (8, .c (.v (.int .i64 0))), (9, .c (.loc 1 0))], ⟨[(25, [.v (.int .i64 0), .v (.int .i64 0), .v (.string ⟨#[]⟩), .nil]), (25, [.v (.int .i64 0), .v (.int .i64 0), .v (.string ⟨#[]⟩), .nil])], [], h⟩⟩ ∧ R = wordS s p) (.block ?_) ?_ : Awp _ _ _ _)
  · refine Awp.seq (awp1 (Pre.mk hix ?_))
    refine Awp.ifs rfl (fun h39 => ?_) (fun h39 => ?_)
    · -- a symbol
      have h39 : bt s p = 39 := eq_of_beq h39
      have hsym : R = symS s p := by obtain ⟨list, hK⟩ := hK; rw [hK]; unfold kindS; rw [if_neg hne, if_pos h39]
      clear hK hR
      refine awp1 ?_
      refine LoopA.mk ⟨⟨[0, 1, 2, 6, 7, 8, 9, 10], 2, 0⟩, fun n st => ∃ (i : Nat) (j : Int), st = ⟨[(0, .c (.v (.string s))), (1, .c (.v (.int .i64 p))), (2, .c (.v (.int .i64 d))), (6, .c (.loc 0 0)), (7, .c (.v (.int .i64 0))), (8, .c (.v (.int .i64 0))), (9, .c (.loc 1 0)), (10, .c (.v (.int .i64 j)))], ⟨[(25, [.v (.int .i64 0), .v (.int .i64 0), .v (.string ⟨#[]⟩), .nil]), (25, [.v (.int .i64 0), .v (.int .i64 0), .v (.string ⟨#[]⟩), .nil])], [], h⟩⟩ ∧ p + 1 + i ≤ s.size ∧ n = s.size - (p + 1 + i) ∧ j = (p + 1 + i : Nat) ∧ (∀ k : Nat, k < i → p + 1 + k < s.size ∧ symC (bt s (p + 1 + k : Nat)) = true), ⟨rfl, s.size - (p + 1), _, .refl _ _, 0, _, rfl, by omega, rfl, hp1, by simp⟩, ?_⟩
      rintro n _ ⟨i, j, rfl, hi, rfl, rfl, hall⟩
      have next : p + 1 + i < s.size → symC (bt s (p + 1 + i : Nat)) = true → ∀ k : Nat, k < i + 1 → p + 1 + k < s.size ∧ symC (bt s (p + 1 + k : Nat)) = true := fun hl hs k hk => by
        by_cases e : k = i
        · rw [e]; exact ⟨hl, hs⟩
        · exact hall k (by omega)
      have ends : ¬ (p + 1 + i < s.size ∧ symC (bt s (p + 1 + i : Nat)) = true) → i = rowN symC s (p + 1) := fun hn => (rowN_eq hall hn).symm
      have hj1 : p + 1 + i < s.size → IntKind.i64.wrap (((p + 1 + i : Nat) : Int) + 1) = (p + 1 + i + 1 : Nat) := fun h => by rw [wrap64] <;> omega
      have hixj : p + 1 + i < s.size → 0 ≤ ((p + 1 + i : Nat) : Int) ∧ ((p + 1 + i : Nat) : Int).toNat < s.size := fun h => ⟨by omega, by omega⟩
      have hslice : 0 ≤ IntKind.i64.wrap ((p : Int) + 1) ∧ IntKind.i64.wrap ((p : Int) + 1) ≤ ((p + 1 + i : Nat) : Int) ∧ ((p + 1 + i : Nat) : Int) ≤ (s.size : Int) := by rw [hp1]; omega
      have hX : s.extract (IntKind.i64.wrap ((p : Int) + 1)).toNat ((p + 1 + i : Nat) : Int).toNat = s.extract (p + 1) (p + 1 + i) := by rw [hp1]; rfl
      clear hall
      refine Br.mk (fun hl => ?_) (fun hl => ?_)
      · have hl : p + 1 + i < s.size := by have := of_decide_eq_true hl; omega
        refine Pre.mk (by rw [hj1 hl]; omega) ?_
        refine ⟨_, pureS2 (y := s.extract (p + 1 + i) (p + 1 + i + 1)) (by rw [hj1 hl]; rfl) (letters_pure (s.extract (p + 1 + i) (p + 1 + i + 1)) 0 (by simp; omega) (Nat.zero_le _)), ?_⟩
        have hone := one_row hl
        refine Br.mk (fun hb => ?_) (fun hb => ?_)
        · have hb : letterB (bt s (p + 1 + i : Nat)) = true := by rw [← hone]; have := eq_of_beq hb; exact decide_eq_true (by omega)
          have hc : symC (bt s (p + 1 + i : Nat)) = true := by unfold symC; rw [hb]; rfl
          exact ⟨rfl, s.size - (p + 1 + (i + 1)), by omega, _, .refl _ _, i + 1, _, rfl, by omega, rfl, hj1 hl, next hl hc⟩
        have hb : letterB (bt s (p + 1 + i : Nat)) = false := by rw [← hone]; have := ne_of_beq_false hb; exact decide_eq_false (by omega)
        clear hone
        repeat' first
          | refine Br.mk (fun _ => ?_) (fun _ => ?_)
          | refine Pre.mk (hixj hl) ?_
          | fail
        all_goals first
          | (refine ⟨rfl, s.size - (p + 1 + (i + 1)), ?_, _, .refl _ _, i + 1, _, rfl, ?_, rfl, hj1 hl, next hl ?_⟩
             · omega
             · omega
             · clear next ends hslice hX hj1 hixj; simp only [symC, Bool.or_eq_true, decide_eq_true_eq, decide_eq_false_iff_not, beq_iff_eq, beq_eq_false_iff_ne, hb, Bool.false_eq_true, false_or] at *; omega)
          | (have he := ends (fun hh => by have hh := hh.2; clear next ends hslice hX hj1 hixj; simp only [symC, Bool.or_eq_true, decide_eq_true_eq, decide_eq_false_iff_not, beq_iff_eq, beq_eq_false_iff_ne, hb, Bool.false_eq_true, false_or] at *; omega)
             refine Pre.mk hslice ⟨_, pureS hX (risName_pure _), Br.mk (fun hn => ?_) (fun hn => ?_)⟩
             · exact ⟨⟨_, rfl, leNo (a := p + 1) (e := 2) (by rw [hsym]; unfold symS; dsimp only; rw [← he, if_neg (by rw [not_t hn]; exact Bool.false_ne_true)]) hp1 rfl⟩, rfl⟩
             · exact Pre.mk hslice ⟨_, pureS hX (symbol_pure _), ⟨⟨_, rfl, leOk (by rw [hsym]; unfold symS; dsimp only; rw [← he, if_pos (not_f hn)]) rfl⟩, rfl⟩⟩)
      · have he := ends (fun hh => by have := of_decide_eq_false hl; omega)
        refine Pre.mk hslice ⟨_, pureS hX (risName_pure _), Br.mk (fun hn => ?_) (fun hn => ?_)⟩
        · exact ⟨⟨_, rfl, leNo (a := p + 1) (e := 2) (by rw [hsym]; unfold symS; dsimp only; rw [← he, if_neg (by rw [not_t hn]; exact Bool.false_ne_true)]) hp1 rfl⟩, rfl⟩
        · exact Pre.mk hslice ⟨_, pureS hX (symbol_pure _), ⟨⟨_, rfl, leOk (by rw [hsym]; unfold symS; dsimp only; rw [← he, if_pos (not_f hn)]) rfl⟩, rfl⟩⟩
    have h39 : bt s p ≠ 39 := ne_of_beq_false h39
    refine (Awp.cut ⟨[0, 1, 2, 6, 7, 8, 9, 91], 2, 0⟩ (fun st => (st = ⟨[(0, .c (.v (.string s))), (1, .c (.v (.int .i64 p))), (2, .c (.v (.int .i64 d))), (6, .c (.loc 0 0)), (7, .c (.v (.int .i64 0))), (8, .c (.v (.int .i64 0))), (9, .c (.loc 1 0)), (91, .c .tt)], ⟨[(25, [.v (.int .i64 0), .v (.int .i64 0), .v (.string ⟨#[]⟩), .nil]), (25, [.v (.int .i64 0), .v (.int .i64 0), .v (.string ⟨#[]⟩), .nil])], [], h⟩⟩ ∧ (bt s p = 45 ∨ 48 ≤ bt s p ∧ bt s p ≤ 57)) ∨ (st = ⟨[(0, .c (.v (.string s))), (1, .c (.v (.int .i64 p))), (2, .c (.v (.int .i64 d))), (6, .c (.loc 0 0)), (7, .c (.v (.int .i64 0))), (8, .c (.v (.int .i64 0))), (9, .c (.loc 1 0)), (91, .c .ff)], ⟨[(25, [.v (.int .i64 0), .v (.int .i64 0), .v (.string ⟨#[]⟩), .nil]), (25, [.v (.int .i64 0), .v (.int .i64 0), .v (.string ⟨#[]⟩), .nil])], [], h⟩⟩ ∧ ¬ (bt s p = 45 ∨ 48 ≤ bt s p ∧ bt s p ≤ 57))) (awp1 ?_) ?_ : Awp _ _ _ _)
    · repeat' first
        | refine Br.mk (fun _ => ?_) (fun _ => ?_)
        | refine Pre.mk hix ?_
        | fail
      all_goals first
        | exact ⟨rfl, _, .refl _ _, .inl ⟨rfl, by simp only [decide_eq_true_eq, decide_eq_false_iff_not, beq_iff_eq, beq_eq_false_iff_ne] at *; omega⟩⟩
        | exact ⟨rfl, _, .refl _ _, .inr ⟨rfl, by simp only [decide_eq_true_eq, decide_eq_false_iff_not, beq_iff_eq, beq_eq_false_iff_ne] at *; omega⟩⟩
    rintro _ (⟨rfl, hn⟩ | ⟨rfl, hn⟩)
    · -- a number
      have hnum : R = numS s p := by obtain ⟨list, hK⟩ := hK; rw [hK]; unfold kindS; rw [if_neg hne, if_neg h39, if_pos hn]
      clear hK hR
      refine Awp.tt rfl (awp1 ?_)
      refine ⟨_, rscan_pure s p hs hp, ?_⟩
      refine Br.mk (fun he => ?_) (fun he => ?_)
      · have he : ¬ (scanS s p).2.2 = 0 := by simpa using he
        exact ⟨⟨_, rfl, leNo (a := p) (e := (scanS s p).2.2) (by rw [hnum]; unfold numS; rw [if_neg he]) rfl rfl⟩, rfl⟩
      · have he : (scanS s p).2.2 = 0 := by simpa using he
        exact ⟨_, int_pure _, ⟨⟨_, rfl, leOk (by rw [hnum]; unfold numS; rw [if_pos he]) rfl⟩, rfl⟩⟩
    refine Awp.ff rfl (awp1 ?_)
    refine Pre.mk hix (Br.mk (fun h34 => ?_) (fun h34 => ?_))
    · -- a text
      have h34 : bt s p = 34 := eq_of_beq h34
      have hstr : R = strS s p := by obtain ⟨list, hK⟩ := hK; rw [hK]; unfold kindS; rw [if_neg hne, if_neg h39, if_neg hn, if_pos h34]
      clear hK hR
      refine LoopA.mk ⟨⟨[0, 1, 2, 6, 7, 8, 9, 14, 15], 2, 0⟩, fun n st => ∃ (i m : Nat) (j : Int) (out : ByteArray), st = ⟨[(0, .c (.v (.string s))), (1, .c (.v (.int .i64 p))), (2, .c (.v (.int .i64 d))), (6, .c (.loc 0 0)), (7, .c (.v (.int .i64 0))), (8, .c (.v (.int .i64 0))), (9, .c (.loc 1 0)), (14, .c (.v (.string out))), (15, .c (.v (.int .i64 j)))], ⟨[(25, [.v (.int .i64 0), .v (.int .i64 0), .v (.string ⟨#[]⟩), .nil]), (25, [.v (.int .i64 0), .v (.int .i64 0), .v (.string ⟨#[]⟩), .nil])], [], h⟩⟩ ∧ i ≤ s.size ∧ n = s.size - i ∧ j = i ∧ R = strF s m i out ∧ s.size - i ≤ m ∧ out.size ≤ i, ⟨rfl, s.size - (p + 1), _, .refl _ _, p + 1, s.size - p, _, _, rfl, by omega, rfl, hp1, hstr, by omega, Nat.zero_le _⟩, ?_⟩
      rintro n _ ⟨i, m, j, out, rfl, hi, rfl, rfl, hRF, hm, hout⟩
      refine Br.mk (fun hl => ?_) (fun hl => ?_)
      · have hl : i < s.size := by have := of_decide_eq_true hl; omega
        obtain ⟨m, rfl⟩ : ∃ m', m = m' + 1 := ⟨m - 1, by omega⟩
        simp only [strF] at hRF
        rw [if_pos hl] at hRF
        have hixi : 0 ≤ (i : Int) ∧ (i : Int).toNat < s.size := ⟨by omega, by omega⟩
        have hi1 : IntKind.i64.wrap ((i : Int) + 1) = (i + 1 : Nat) := by rw [wrap64] <;> omega
        refine Pre.mk hixi (Br.mk (fun h1 => ?_) (fun h1 => ?_))
        · have h1 : bt s i = 34 := eq_of_beq h1
          rw [if_pos h1] at hRF
          exact ⟨⟨_, rfl, leOk hRF hi1⟩, rfl⟩
        have h1 : ¬ bt s i = 34 := ne_of_beq_false h1
        rw [if_neg h1] at hRF
        refine Pre.mk hixi (Br.mk (fun h2 => ?_) (fun h2 => ?_))
        · have h2 : bt s i = 92 := eq_of_beq h2
          rw [if_pos h2] at hRF
          refine Br.mk (fun h3 => ?_) (fun h3 => ?_)
          · rw [hi1] at h3
            have h3 := eq_of_beq h3
            rw [if_pos (.inl (by omega))] at hRF
            exact ⟨⟨_, rfl, leNo hRF rfl rfl⟩, rfl⟩
          rw [hi1] at h3
          have h3 := ne_of_beq_false h3
          have hi2 : IntKind.i64.wrap (((i + 1 : Nat) : Int) + 1) = (i + 2 : Nat) := by rw [wrap64] <;> omega
          have hixi1 : 0 ≤ IntKind.i64.wrap ((i : Int) + 1) ∧ (IntKind.i64.wrap ((i : Int) + 1)).toNat < s.size := by rw [hi1]; omega
          have hex : s.extract (IntKind.i64.wrap ((i : Int) + 1)).toNat (IntKind.i64.wrap (IntKind.i64.wrap ((i : Int) + 1) + 1)).toNat = s.extract (i + 1) (i + 2) := by rw [hi1, hi2]; rfl
          have hsl : 0 ≤ IntKind.i64.wrap ((i : Int) + 1) ∧ IntKind.i64.wrap ((i : Int) + 1) ≤ IntKind.i64.wrap (IntKind.i64.wrap ((i : Int) + 1) + 1) ∧ IntKind.i64.wrap (IntKind.i64.wrap ((i : Int) + 1) + 1) ≤ (s.size : Int) := by rw [hi1, hi2]; omega
          have hadd : ((out.size + (s.extract (IntKind.i64.wrap ((i : Int) + 1)).toNat (IntKind.i64.wrap (IntKind.i64.wrap ((i : Int) + 1) + 1)).toNat).size : Nat) : Int) ≤ IntKind.i64.max := by
            rw [hex]; simp
            have := i64max
            omega
          have go : ¬ (i + 1 = s.size ∨ bt s (i + 1 : Nat) ≠ 34 ∧ bt s (i + 1 : Nat) ≠ 92) → R = strF s m (i + 2) (out ++ s.extract (i + 1) (i + 2)) := fun hn => by rw [if_neg hn] at hRF; exact hRF
          have hsz2 : (out ++ s.extract (i + 1) (i + 2)).size ≤ i + 2 := by simp; omega
          refine Pre.mk hixi1 (Br.mk (fun h4 => ?_) (fun h4 => ?_))
          · rw [hi1] at h4
            have h4 : bt s (i + 1 : Nat) ≠ 34 := by simpa using h4
            refine Pre.mk hixi1 (Br.mk (fun h5 => ?_) (fun h5 => ?_))
            · rw [hi1] at h5
              have h5 : bt s (i + 1 : Nat) ≠ 92 := by simpa using h5
              rw [if_pos (.inr ⟨h4, h5⟩)] at hRF
              exact ⟨⟨_, rfl, leNo hRF rfl rfl⟩, rfl⟩
            · rw [hi1] at h5
              have h5 : bt s (i + 1 : Nat) = 92 := by simpa using h5
              refine Pre.mk hsl (Pre.mk hadd ?_)
              exact ⟨rfl, s.size - (i + 2), by omega, _, .refl _ _, i + 2, m, _, _, rfl, by omega, rfl, by rw [hi1, hi2], by rw [hex]; exact go (by omega), by omega, by rw [hex]; exact hsz2⟩
          · rw [hi1] at h4
            have h4 : bt s (i + 1 : Nat) = 34 := by simpa using h4
            refine Pre.mk hsl (Pre.mk hadd ?_)
            exact ⟨rfl, s.size - (i + 2), by omega, _, .refl _ _, i + 2, m, _, _, rfl, by omega, rfl, by rw [hi1, hi2], by rw [hex]; exact go (by omega), by omega, by rw [hex]; exact hsz2⟩
        · have h2 : ¬ bt s i = 92 := ne_of_beq_false h2
          rw [if_neg h2] at hRF
          have hex : s.extract (i : Int).toNat (IntKind.i64.wrap ((i : Int) + 1)).toNat = s.extract i (i + 1) := by rw [hi1]; rfl
          refine Pre.mk (by rw [hi1]; omega) (Pre.mk ?_ ?_)
          · rw [hex]; simp
            have := i64max
            omega
          · exact ⟨rfl, s.size - (i + 1), by omega, _, .refl _ _, i + 1, m, _, _, rfl, by omega, rfl, hi1, by rw [hex]; exact hRF, by omega, by rw [hex]; simp; omega⟩
      · have hl := of_decide_eq_false hl
        have : R = .no s.size 2 := by
          rw [hRF]; cases m with
          | zero => rfl
          | succ m => simp only [strF]; rw [if_neg (by omega)]
        exact ⟨⟨_, rfl, leNo this rfl rfl⟩, rfl⟩
    have h34 : bt s p ≠ 34 := ne_of_beq_false h34
    refine Pre.mk hix (Br.mk (fun h91 => ?_) (fun h91 => ?_))
    · -- a list
      have h91 : bt s p = 91 := eq_of_beq h91
      clear hK
      refine Br.mk (fun hd0 => ?_) (fun hd0 => ?_)
      · have hd0 := eq_of_beq hd0
        have : d = 0 := by omega
        subst this
        have : R = .no p 3 := by rw [hR]; simp only [getS]; unfold kindS; rw [if_neg hne, if_neg h39, if_neg hn, if_neg h34, if_pos h91]
        exact ⟨⟨_, rfl, leNo this rfl rfl⟩, rfl⟩
      have hd0 := ne_of_beq_false hd0
      obtain ⟨d', rfl⟩ : ∃ d', d = d' + 1 := ⟨d - 1, by omega⟩
      have hlist : R = itemsF s (getS s d') (s.size + 1 - p) (p + 1) [] := by rw [hR]; simp only [getS]; rw [show kindS s p (fun p => itemsF s (getS s d') (s.size + 1 - p) (p + 1) []) = itemsF s (getS s d') (s.size + 1 - p) (p + 1) [] by unfold kindS; rw [if_neg hne, if_neg h39, if_neg hn, if_neg h34, if_pos h91]]
      clear hR
      have IHd := IH d' (by omega)
      clear IH
      have hwd : IntKind.i64.wrap (((d' + 1 : Nat) : Int) - 1) = (d' : Nat) := by rw [wrap64] <;> omega
      refine LoopA.mk ⟨⟨[0, 1, 2, 6, 7, 8, 9, 16, 17], 3, 1⟩, fun n st => ∃ (i m : Nat) (j : Int) (acc : List Val), i ≤ s.size ∧ n = s.size + 1 - i ∧ j = i ∧ R = itemsF s (getS s d') m i acc ∧ s.size + 1 - i ≤ m ∧ acc.length ≤ i ∧
          ((acc = [] ∧ st = ⟨[(0, .c (.v (.string s))), (1, .c (.v (.int .i64 p))), (2, .c (.v (.int .i64 (d' + 1 : Nat)))), (6, .c (.loc 0 0)), (7, .c (.v (.int .i64 0))), (8, .c (.v (.int .i64 0))), (9, .c (.loc 1 0)), (16, .c (.loc 2 0)), (17, .c (.v (.int .i64 j)))], ⟨[(25, [.v (.int .i64 0), .v (.int .i64 0), .v (.string ⟨#[]⟩), .nil]), (25, [.v (.int .i64 0), .v (.int .i64 0), .v (.string ⟨#[]⟩), .nil]), (25, [.v (.int .i64 5), .v (.int .i64 0), .v (.string ⟨#[]⟩), .nil])], [], h⟩⟩) ∨
           (acc ≠ [] ∧ ∃ rows len, rows = Val.acs acc ∧ len = acc.length ∧ st = ⟨[(0, .c (.v (.string s))), (1, .c (.v (.int .i64 p))), (2, .c (.v (.int .i64 (d' + 1 : Nat)))), (6, .c (.loc 0 0)), (7, .c (.v (.int .i64 0))), (8, .c (.v (.int .i64 0))), (9, .c (.loc 1 0)), (16, .c (.loc 2 0)), (17, .c (.v (.int .i64 j)))], ⟨[(25, [.v (.int .i64 0), .v (.int .i64 0), .v (.string ⟨#[]⟩), .nil]), (25, [.v (.int .i64 0), .v (.int .i64 0), .v (.string ⟨#[]⟩), .nil]), (25, [.v (.int .i64 5), .v (.int .i64 0), .v (.string ⟨#[]⟩), .own 0 4 rows])], [(25, 4, len)], h⟩⟩)), ⟨rfl, s.size + 1 - (p + 1), _, .refl _ _, p + 1, s.size + 1 - p, _, [], by omega, rfl, hp1, hlist, by omega, by simp, .inl ⟨rfl, rfl⟩⟩, ?_⟩
      rintro n _ ⟨i, m, j, acc, hi, rfl, rfl, hRF, hm, hacc, hst⟩
      obtain ⟨m, rfl⟩ : ∃ m', m = m' + 1 := ⟨m - 1, by omega⟩
      simp only [itemsF] at hRF
      have hixi : i < s.size → 0 ≤ (i : Int) ∧ (i : Int).toNat < s.size := fun h => ⟨by omega, by omega⟩
      have hi1 : IntKind.i64.wrap ((i : Int) + 1) = (i + 1 : Nat) := by rw [wrap64] <;> omega
      rcases hst with ⟨rfl, rfl⟩ | ⟨hane, rows, len, rfl, rfl, rfl⟩
      · -- nothing yet
        have hin : ¬ (i < s.size ∧ bt s i = 93) → R = (match getS s d' i with
            | .no a e => .no a e
            | .ok x next => itemsF s (getS s d') m next ([] ++ [x])) := fun hn => by
          rw [if_neg hn, if_neg (by simp), if_pos rfl] at hRF; exact hRF
        have hout : i < s.size ∧ bt s i = 93 → R = .ok ⟨5, 0, ⟨#[]⟩, []⟩ (i + 1) := fun hn => by rw [if_pos hn] at hRF; exact hRF
        have hnext := getS_next (s := s) d' i hi
        refine Br.mk (fun h1 => ?_) (fun h1 => ?_)
        · have h1 := eq_of_beq h1
          have hr := hin (by omega)
          refine Br.mk (fun h3 => by cases h3) (fun _ => ?_)
          have hg := IHd i hi (by omega)
          cases hgr : getS s d' i with
          | no a e =>
            rw [hgr] at hg hr
            have he := hnext.2 a e hgr
            refine ⟨_, pure3 rfl hwd hg, Br.mk (fun h6 => ?_) (fun h6 => absurd (by simpa using h6) he)⟩
            exact ⟨⟨_, rfl, leNo hr rfl rfl⟩, rfl⟩
          | ok x next =>
            rw [hgr] at hg hr
            have hn := hnext.1 x next hgr
            simp only [resAV, Val.ac_eq] at hg
            have hpre : 0 < 4 ∧ 1 * 56 ≤ lenMax ∧ 1 ≤ lenMax := by unfold lenMax; omega
            refine ⟨_, pure3 rfl hwd hg, ?_⟩
            refine Br.mk (fun h6 => by cases h6) (fun h6 => ?_)
            refine Pre.mk hpre ?_
            refine ⟨rfl, s.size + 1 - next, by omega, _, .refl _ _, next, m, _, [x], hn.2, rfl, rfl, hr, by omega, by simp; omega, .inr ⟨by simp, _, _, ?_, ?_, rfl⟩⟩
            · exact (acs_one x).symm
            · rfl
        · have h1 := ne_of_beq_false h1
          have hl : i < s.size := by omega
          refine Pre.mk (hixi hl) ?_
          refine Br.mk (fun h2 => ?_) (fun h2 => ?_)
          · have hr := hin (fun hh => by rw [hh.2] at h2; cases h2)
            refine Br.mk (fun h3 => by cases h3) (fun _ => ?_)
            have hg := IHd i hi (by omega)
            cases hgr : getS s d' i with
            | no a e =>
              rw [hgr] at hg hr
              have he := hnext.2 a e hgr
              refine ⟨_, pure3 rfl hwd hg, Br.mk (fun h6 => ?_) (fun h6 => absurd (by simpa using h6) he)⟩
              exact ⟨⟨_, rfl, leNo hr rfl rfl⟩, rfl⟩
            | ok x next =>
              rw [hgr] at hg hr
              have hn := hnext.1 x next hgr
              simp only [resAV, Val.ac_eq] at hg
              have hpre : 0 < 4 ∧ 1 * 56 ≤ lenMax ∧ 1 ≤ lenMax := by unfold lenMax; omega
              refine ⟨_, pure3 rfl hwd hg, ?_⟩
              refine Br.mk (fun h6 => by cases h6) (fun h6 => ?_)
              refine Pre.mk hpre ?_
              refine ⟨rfl, s.size + 1 - next, by omega, _, .refl _ _, next, m, _, [x], hn.2, rfl, rfl, hr, by omega, by simp; omega, .inr ⟨by simp, _, _, ?_, ?_, rfl⟩⟩
              · exact (acs_one x).symm
              · rfl
          · have h2 : bt s i = 93 := by simpa using h2
            exact ⟨⟨_, rfl, leOk (hout ⟨hl, h2⟩) hi1⟩, rfl⟩
      · -- behind another
        have hpos : 0 < acc.length := List.length_pos_iff.2 hane
        have hno : ¬ (i < s.size ∧ bt s i = 93) → ¬ (i < s.size ∧ bt s i = 32) → R = .no i 2 := fun hn h' => by
          rw [if_neg hn, if_pos ⟨hane, h'⟩] at hRF; exact hRF
        have hin : ¬ (i < s.size ∧ bt s i = 93) → (i < s.size ∧ bt s i = 32) → R = (match getS s d' (i + 1) with
            | .no a e => .no a e
            | .ok x next => itemsF s (getS s d') m next (acc ++ [x])) := fun hn h' => by
          rw [if_neg hn, if_neg (fun hh => hh.2 h'), if_neg hane] at hRF; exact hRF
        have hout : i < s.size ∧ bt s i = 93 → R = .ok ⟨5, 0, ⟨#[]⟩, acc⟩ (i + 1) := fun hn => by rw [if_pos hn] at hRF; exact hRF
        refine Br.mk (fun h1 => ?_) (fun h1 => ?_)
        · have h1' := eq_of_beq h1
          refine Br.mk (fun h3 => ?_) (fun h3 => by rw [Val.acs_len] at h3; have := of_decide_eq_false h3; omega)
          refine Br.mk (fun h4 => ?_) (fun h4 => by rw [h1] at h4; cases h4)
          exact ⟨⟨_, rfl, leNo (hno (by omega) (by omega)) rfl rfl⟩, rfl⟩
        · have h1' := ne_of_beq_false h1
          have hl : i < s.size := by omega
          refine Pre.mk (hixi hl) ?_
          refine Br.mk (fun h2 => ?_) (fun h2 => ?_)
          · have h2 : bt s i ≠ 93 := by simpa using h2
            refine Br.mk (fun h3 => ?_) (fun h3 => by rw [Val.acs_len] at h3; have := of_decide_eq_false h3; omega)
            refine Br.mk (fun h4 => by rw [h1] at h4; cases h4) (fun h4 => ?_)
            refine Pre.mk (hixi hl) ?_
            refine Br.mk (fun h5 => ?_) (fun h5 => ?_)
            · have h5 : bt s i ≠ 32 := by simpa using h5
              exact ⟨⟨_, rfl, leNo (hno (by omega) (by omega)) rfl rfl⟩, rfl⟩
            · have h5 : bt s i = 32 := by simpa using h5
              have hr := hin (by omega) ⟨hl, h5⟩
              have hnext := getS_next (s := s) d' (i + 1) (by omega)
              have hg := IHd (i + 1) (by omega) (by omega)
              cases hgr : getS s d' (i + 1) with
              | no a e =>
                rw [hgr] at hg hr
                have he := hnext.2 a e hgr
                refine ⟨_, pure3 hi1 hwd hg, ?_⟩
                refine Br.mk (fun h6 => ?_) (fun h6 => absurd (by simpa using h6) he)
                exact ⟨⟨_, rfl, leNo hr rfl rfl⟩, rfl⟩
              | ok x next =>
                rw [hgr] at hg hr
                have hn := hnext.1 x next hgr
                simp only [resAV, Val.ac_eq] at hg
                have hpre : 25 = 25 ∧ 4 = 4 ∧ 4 = 4 ∧ (Val.acs acc).length = acc.length ∧ (acc.length + 1) * 56 ≤ lenMax ∧ acc.length + 1 ≤ lenMax := ⟨rfl, rfl, rfl, Val.acs_len acc, by unfold lenMax; omega, by unfold lenMax; omega⟩
                refine ⟨_, pure3 hi1 hwd hg, ?_⟩
                refine Br.mk (fun h6 => by cases h6) (fun h6 => ?_)
                refine Pre.mk hpre ?_
                refine ⟨rfl, s.size + 1 - next, by omega, _, .refl _ _, next, m, _, acc ++ [x], hn.2, rfl, rfl, hr, by omega, by simp; omega, .inr ⟨by simp, _, _, ?_, ?_, rfl⟩⟩
                · exact (acs_snoc acc x).symm
                · simp
          · have h2 : bt s i = 93 := by simpa using h2
            exact ⟨⟨_, rfl, by rw [hout ⟨hl, h2⟩, hi1]; exact VLe.refl _⟩, rfl⟩
    · have h91 : bt s p ≠ 91 := ne_of_beq_false h91
      refine ⟨rfl, _, .refl _ _, rfl, ?_⟩
      obtain ⟨list, hK⟩ := hK
      rw [hK]; unfold kindS; rw [if_neg hne, if_neg h39, if_neg hn, if_neg h34, if_neg h91]
  rintro _ ⟨rfl, hw⟩
  clear hK hR IH
  refine awp1 ?_
  have hle := rowN_le (f := letterB) hp
  refine ⟨_, letters_pure s p hs hp, ?_⟩
  refine Pre.mk (by omega) ?_
  have hX : s.extract ((p : Int)).toNat ((p + rowN letterB s p : Nat) : Int).toNat = s.extract p (p + rowN letterB s p) := rfl
  unfold wordS at hw
  dsimp only at hw
  refine Br.mk (fun h1 => ?_) (fun h1 => ?_)
  · rw [hX] at h1; rw [if_pos h1] at hw
    exact ⟨⟨_, rfl, leOk hw rfl⟩, rfl⟩
  rw [hX] at h1; rw [if_neg (by rw [h1]; exact Bool.false_ne_true)] at hw
  refine Br.mk (fun h2 => ?_) (fun h2 => ?_)
  · rw [hX] at h2; rw [if_pos h2] at hw
    exact ⟨⟨_, rfl, leOk hw rfl⟩, rfl⟩
  rw [hX] at h2; rw [if_neg (by rw [h2]; exact Bool.false_ne_true)] at hw
  refine Br.mk (fun h3 => ?_) (fun h3 => ?_)
  · rw [hX] at h3; rw [if_pos h3] at hw
    exact ⟨⟨_, rfl, leOk hw rfl⟩, rfl⟩
  rw [hX] at h3; rw [if_neg (by rw [h3]; exact Bool.false_ne_true)] at hw
  exact ⟨⟨_, rfl, leNo hw rfl rfl⟩, rfl⟩
end Go.Proofs.Ytgdgfomoeohdeaa
