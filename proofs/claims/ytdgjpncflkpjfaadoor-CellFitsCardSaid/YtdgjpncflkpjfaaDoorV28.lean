/- The reader of package vtext: text. -/
import Derived.Test.YtdgjpncflkpjfaaDoorV12
import Derived.Test.YtdgjpncflkpjfaaDoorV27
set_option linter.unusedVariables false
set_option linter.unusedSimpArgs false
namespace Go.Proofs.YtdgjpncflkpjfaaDoor
open Aw

def imp4 : List Nat := imp ++ [59, 39]
noncomputable def D4 (nt : Nat) (esc gd ll : List Nat) : Cfg2 := { P := Tryd.prog, ty := ty, nt := nt, pure := fun f => !imp4.any (Nat.beq f), esc := fun t => esc.any (Nat.beq t), lload := fun t => ll.any (Nat.beq t), gd := fun t => gd.any (Nat.beq t) }

theorem ext_one (s : ByteArray) (l : List UInt8) {i : Nat} (hi : i < s.size) : (⟨l.toArray⟩ : ByteArray) ++ s.extract i (i + 1) = ⟨(l ++ [UInt8.ofNat (bt s i).toNat]).toArray⟩ := by
  have h1 : (s.extract i (i + 1)).data.toList = [UInt8.ofNat (bt s i).toNat] := by
    rw [ByteArray.data_extract, Array.toList_extract]
    have hlt : i < s.data.toList.length := by simpa using hi
    rw [List.extract_eq_take_drop, show i + 1 - i = 1 by omega, List.drop_eq_getElem_cons hlt]
    have e : bt s i = (s.data.toList[i].toNat : Int) := by
      unfold bt
      rw [List.getD_eq_getElem?_getD, Int.toNat_natCast, List.getElem?_eq_getElem hlt]; rfl
    rw [e]
    simp
  apply ByteArray.ext
  apply Array.ext'
  rw [ByteArray.data_append, Array.toList_append, h1]

theorem BldIs.next {h : Heap} {b : Nat} {l : List UInt8} (x : UInt8) : BldIs (upd h b (.bld 65 5 (l ++ [x]))) b (l ++ [x]) := .inl ⟨by simp, upd_same _ _ _⟩
theorem BldIs.other {h : Heap} {b c : Nat} {l : List UInt8} (x : HO) (hb : BldIs h b l) (hne : b ≠ c) : BldIs (upd h c x) b l := by
  rcases hb with ⟨h1, h2⟩ | ⟨h1, h2⟩
  · exact .inl ⟨h1, by rw [upd_ne _ _ hne]; exact h2⟩
  · exact .inr ⟨h1, by rw [upd_ne _ _ hne]; exact h2⟩

set_option maxRecDepth 4000 in
set_option maxHeartbeats 1000000 in
theorem text_ok : TextOk := by
  intro b s p d h hb hs hp
  refine RdK.of0 ?_
  refine callsA_of (D := D4 92 [3] [47, 58] []) ty_ok mixed Tryd.func86 rfl (by kernel_rfl) (by kernel_rfl) (by simp [D4]) ?_
  intro g vs hr
  clear hr
  obtain ⟨R, hR⟩ : ∃ R, R = strS s p := ⟨_, rfl⟩
  rw [← hR]
  unfold strS at hR
  have hw : IntKind.i64.wrap ((p : Int) + 1) = (p + 1 : Nat) := by rw [wrap64] <;> omega
  refine ⟨_, _, hb, _, _, hb, by show 2 ≤ 3; decide, ?_⟩
  intro bb hbb
  have hbbb : bb ≠ b := fun e => by
    subst e
    have : upd h bb (rdC s (IntKind.i64.wrap ((p : Int) + 1)) d) bb = none := hbb
    rw [upd_same] at this
    cases this
  have hbb0 : h bb = none := by
    have : upd h b (rdC s (IntKind.i64.wrap ((p : Int) + 1)) d) bb = none := hbb
    rwa [upd_ne _ _ hbbb] at this
  have kpd : ∀ {hh : Heap}, Kp b h hh → Kp b h (drop hh bb) := fun k q y hq hy => by
    have hne : q ≠ bb := fun e => by subst e; rw [hbb0] at hy; cases hy
    show (if q = bb then none else _) = _
    rw [if_neg hne]; exact k q y hq hy
  have kpu : ∀ {hh : Heap} (x : HO), Kp b h hh → Kp b h (upd hh bb x) := fun x k q y hq hy => by
    have hne : q ≠ bb := fun e => by subst e; rw [hbb0] at hy; cases hy
    rw [upd_ne _ _ hne]; exact k q y hq hy
  have hat : ∀ {hh : Heap} (x : HO), upd hh bb x b = hh b := fun x => upd_ne _ _ (Ne.symm hbbb)
  refine LoopA.mk ⟨⟨[0, 2, 3], 1, 0⟩, fun n st => ∃ (i m : Nat) (hh : Heap) (l : List UInt8), st = ⟨[(0, .c (.v (.pointer (some ⟨b, 0, none⟩)))), (2, .c (.loc 0 0)), (3, .c (.v (.pointer (some ⟨bb, 0, none⟩))))], ⟨[(24, [.v (.int .i64 0), .v (.int .i64 0), .v (.string ⟨#[]⟩), .nil])], [], hh⟩⟩ ∧ i ≤ s.size ∧ n = s.size + 1 - i ∧ hh b = some (rdC s i d) ∧ BldIs hh bb l ∧ Kp b h hh ∧ R = strF s m i ⟨l.toArray⟩ ∧ s.size + 1 - i ≤ m ∧ l.length ≤ i,
    ⟨rfl, s.size + 1 - (p + 1), _, .refl _ _, p + 1, s.size - p, _, [], rfl, by omega, rfl, by show upd (upd h b (rdC s (IntKind.i64.wrap ((p : Int) + 1)) d)) bb _ b = _; rw [hat, upd_same, hw], .inr ⟨rfl, upd_same _ _ _⟩, kpu _ ((Kp.refl b h).upd _), hR, by omega, by simp⟩, ?_⟩
  rintro n _ ⟨i, m, hh, l, rfl, hi, rfl, hg, hbl, hkp, hRF, hm, hll⟩
  obtain ⟨m, rfl⟩ : ∃ m', m = m' + 1 := ⟨m - 1, by omega⟩
  simp only [strF] at hRF
  refine (here_calls b s i d 34 hh hg hs hi).mono ?_
  rintro x h2 (⟨j1, j2, rfl, rfl⟩ | ⟨j1, rfl, rfl⟩)
  · -- the text's end
    rw [if_pos j1, if_pos j2] at hRF
    refine Br.mk (fun h3 => by cases h3) (fun _ => ?_)
    refine (string_calls (hbl.other (c := b) (rdC s (i + 1 : Nat) d) hbbb)).mono ?_
    rintro x h3 ⟨rfl, rfl⟩
    exact RdK0.ok hRF (by show (if b = bb then none else upd hh b _ b) = _; rw [if_neg (Ne.symm hbbb), upd_same]) (kpd (hkp.upd _))
  refine Br.mk (fun _ => ?_) (fun h3 => by cases h3)
  refine Pre.mk (by kernel_rfl) ?_
  refine ⟨_, _, hg, _, _, hg, _, _, hg, ?_⟩
  refine (must_calls _ _ _ _).mono ?_
  rintro x h3 ⟨rfl, hk⟩
  by_cases hlt : i < s.size
  case neg =>
    rw [decide_eq_false (by omega)] at hk
    have hk : x = .pan _ := hk
    subst hk
    rw [if_neg hlt] at hRF
    exact RdK0.no hRF rfl rfl hkp
  rw [decide_eq_true (by omega)] at hk
  have hk : x = .ret (.tup []) := hk
  subst hk
  rw [if_pos hlt, if_neg (fun e => j1 ⟨hlt, e⟩)] at hRF
  refine ⟨_, _, hg, ?_⟩
  refine (here_calls b s i d 92 h3 hg hs hi).mono ?_
  rintro x h4 (⟨q1, q2, rfl, rfl⟩ | ⟨q1, rfl, rfl⟩)
  · -- an escape
    rw [if_pos q2] at hRF
    refine Br.mk (fun _ => ?_) (fun h5 => by cases h5)
    have hg2 := upd_same h3 b (rdC s (i + 1 : Nat) d)
    have hw2 : i + 1 < s.size → IntKind.i64.wrap (((i + 1 : Nat) : Int) + 1) = (i + 2 : Nat) := fun h => by rw [wrap64] <;> omega
    have hbl2 : BldIs (upd h3 b (rdC s (i + 1 : Nat) d)) bb l := hbl.other (c := b) _ hbbb
    have hg5 : upd (upd h3 b (rdC s (i + 1 : Nat) d)) bb (.bld 65 5 (l ++ [UInt8.ofNat (bt s (i + 1 : Nat)).toNat])) b = some (rdC s (i + 1 : Nat) d) := by rw [hat]; exact hg2
    refine Pre.mk (by kernel_rfl) ?_
    refine ⟨_, _, hg2, _, _, hg2, ?_⟩
    refine Br.mk (fun h6 => ?_) (fun h6 => ?_)
    · have hlt2 : i + 1 < s.size := by have := of_decide_eq_true h6; omega
      have hw2 := hw2 hlt2
      refine ⟨_, _, hg2, _, _, hg2, Pre.mk ⟨by omega, by omega⟩ ?_⟩
      refine Br.mk (fun h7 => ?_) (fun h7 => ?_)
      · have h7 : bt s (i + 1 : Nat) = 34 := eq_of_beq h7
        rw [if_neg (by omega)] at hRF
        refine (must_calls _ _ _ _).mono ?_
        rintro x h8 ⟨rfl, hk⟩
        have hk : x = .ret (.tup []) := hk
        subst hk
        refine Pre.mk (by kernel_rfl) ?_
        refine ⟨_, _, hg2, _, _, hg2, Pre.mk ⟨by omega, by omega⟩ ?_⟩
        refine (writeByte_calls hbl2 (by omega) (bt_nn s (i + 1 : Nat)) (bt_lt s (i + 1 : Nat))).mono ?_
        rintro x h5 ⟨rfl, rfl⟩
        refine ⟨_, _, hg5, _, _, hg5, by show 2 ≤ 3; decide, ?_⟩
        refine ⟨rfl, s.size + 1 - (i + 2), by omega, _, .refl _ _, i + 2, m, _, l ++ [UInt8.ofNat (bt s (i + 1 : Nat)).toNat], rfl, by omega, rfl, ?_, ?_, (kpu _ (hkp.upd _)).upd _, by rw [hRF, ext_one s l hlt2], by omega, by simp; omega⟩
        · show upd _ b (rdC s (IntKind.i64.wrap (((i + 1 : Nat) : Int) + 1)) d) b = _
          rw [upd_same, hw2]
        · exact (BldIs.next _).other _ hbbb
      · have h7 : ¬ bt s (i + 1 : Nat) = 34 := ne_of_beq_false h7
        refine ⟨_, _, hg2, _, _, hg2, Pre.mk ⟨by omega, by omega⟩ ?_⟩
        refine (must_calls _ _ _ _).mono ?_
        rintro x h8 ⟨rfl, hk⟩
        cases h9 : (bt s (i + 1 : Nat) == 92) with
        | true =>
          rw [h9] at hk
          have h9 : bt s (i + 1 : Nat) = 92 := eq_of_beq h9
          rw [if_neg (by omega)] at hRF
          have hk : x = .ret (.tup []) := hk
          subst hk
          refine Pre.mk (by kernel_rfl) ?_
          refine ⟨_, _, hg2, _, _, hg2, Pre.mk ⟨by omega, by omega⟩ ?_⟩
          refine (writeByte_calls hbl2 (by omega) (bt_nn s (i + 1 : Nat)) (bt_lt s (i + 1 : Nat))).mono ?_
          rintro x h5 ⟨rfl, rfl⟩
          refine ⟨_, _, hg5, _, _, hg5, by show 2 ≤ 3; decide, ?_⟩
          refine ⟨rfl, s.size + 1 - (i + 2), by omega, _, .refl _ _, i + 2, m, _, l ++ [UInt8.ofNat (bt s (i + 1 : Nat)).toNat], rfl, by omega, rfl, ?_, ?_, (kpu _ (hkp.upd _)).upd _, by rw [hRF, ext_one s l hlt2], by omega, by simp; omega⟩
          · show upd _ b (rdC s (IntKind.i64.wrap (((i + 1 : Nat) : Int) + 1)) d) b = _
            rw [upd_same, hw2]
          · exact (BldIs.next _).other _ hbbb
        | false =>
          rw [h9] at hk
          have h9 : ¬ bt s (i + 1 : Nat) = 92 := ne_of_beq_false h9
          rw [if_pos (.inr ⟨h7, h9⟩)] at hRF
          have hk : x = .pan _ := hk
          subst hk
          exact RdK0.no hRF rfl rfl (hkp.upd _)
    · have hge : i + 1 = s.size := by have := of_decide_eq_false h6; omega
      rw [if_pos (.inl hge)] at hRF
      refine (must_calls _ _ _ _).mono ?_
      rintro x h8 ⟨rfl, hk⟩
      have hk : x = .pan _ := hk
      subst hk
      exact RdK0.no hRF rfl rfl (hkp.upd _)
  · rw [if_neg (fun e => q1 ⟨hlt, e⟩)] at hRF
    refine Br.mk (fun h5 => by cases h5) (fun _ => ?_)
    refine Pre.mk (by kernel_rfl) ?_
    refine ⟨_, _, hg, _, _, hg, Pre.mk ⟨by omega, by omega⟩ ?_⟩
    refine (writeByte_calls hbl (by omega) (bt_nn s i) (bt_lt s i)).mono ?_
    rintro x h5 ⟨rfl, rfl⟩
    have hg5 : upd h4 bb (.bld 65 5 (l ++ [UInt8.ofNat (bt s i).toNat])) b = some (rdC s i d) := by rw [hat]; exact hg
    refine ⟨_, _, hg5, _, _, hg5, by show 2 ≤ 3; decide, ?_⟩
    have hw2 : IntKind.i64.wrap ((i : Int) + 1) = (i + 1 : Nat) := by rw [wrap64] <;> omega
    refine ⟨rfl, s.size + 1 - (i + 1), by omega, _, .refl _ _, i + 1, m, _, l ++ [UInt8.ofNat (bt s i).toNat], rfl, by omega, rfl, ?_, ?_, (kpu _ hkp).upd _, by rw [hRF, ext_one s l hlt], by omega, by simp; omega⟩
    · show upd _ b (rdC s (IntKind.i64.wrap ((i : Int) + 1)) d) b = _
      rw [upd_same, hw2]
    · exact (BldIs.next _).other _ hbbb
end Go.Proofs.YtdgjpncflkpjfaaDoor
