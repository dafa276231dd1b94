/- The reader of package vtext: list, value (text's contract is asked for). -/
import Derived.Test.YtdgjpncflkpjfaaDoorV10
set_option linter.unusedVariables false
set_option linter.unusedSimpArgs false
namespace Go.Proofs.YtdgjpncflkpjfaaDoor
open Aw

def TextOk : Prop := ∀ (b : Nat) (s : ByteArray) (p : Nat) (d : Int) (h : Heap), h b = some (rdC s p d) → s.size < 1000000000 → p < s.size →
  CallsA Tryd.prog 86 [.c (.v (.pointer (some ⟨b, 0, none⟩)))] h (RdK (strS s p) b s d h)
def listS (s : ByteArray) : Nat → Nat → Res
  | 0, p => .no p 3
  | k + 1, p => itemsF s (getS s k) (s.size + 1 - p) (p + 1) []
theorem getS_eq (s : ByteArray) (k p : Nat) : getS s k p = kindS s p (listS s k) := by cases k <;> rfl
theorem RdK0.list {R : Res} {b : Nat} {s : ByteArray} {d : Int} {h h' : Heap} {acc : List Val} {next : Nat} (hR : R = .ok ⟨5, 0, ⟨#[]⟩, acc⟩ next) (h2 : h' b = some (rdC s next d)) (h3 : Kp b h h') :
    RdK0 R b s d h (.ret (.agg [.v (.int .i64 5), .v (.int .i64 0), .v (.string ⟨#[]⟩), .sl 4 (Val.acs acc)])) h' := by
  subst hR; exact ⟨⟨_, rfl, VLe.refl _⟩, h2, h3⟩

set_option maxRecDepth 4000 in
set_option maxHeartbeats 1000000 in
theorem list_calls (s : ByteArray) (hs : s.size < 1000000000) (k : Nat) (hk4 : k ≤ 4)
    (IHv : ∀ k', k = k' + 1 → ∀ (b p : Nat) (h : Heap), h b = some (rdC s p (4 - (k' : Int))) → p ≤ s.size → CallsA Tryd.prog 77 [.c (.v (.pointer (some ⟨b, 0, none⟩)))] h (RdK (getS s k' p) b s (4 - (k' : Int)) h))
    (b p : Nat) (h : Heap) (hb : h b = some (rdC s p (4 - (k : Int)))) (hp : p < s.size) :
    CallsA Tryd.prog 87 [.c (.v (.pointer (some ⟨b, 0, none⟩)))] h (RdK (listS s k p) b s (4 - (k : Int)) h) := by
  refine RdK.of0 ?_
  refine callsA_of (D := D2 60 [] [35] [46]) ty_ok mixed Tryd.func87 rfl (by kernel_rfl) (by kernel_rfl) (by simp [D2]) ?_
  intro g vs hr
  clear hr
  obtain ⟨R, hR⟩ : ∃ R, R = listS s k p := ⟨_, rfl⟩
  rw [← hR]
  refine Pre.mk (by kernel_rfl) ?_
  refine ⟨_, _, hb, _, _, hb, ?_⟩
  refine (must_calls _ _ _ _).mono ?_
  rintro x h' ⟨rfl, hk⟩
  cases k with
  | zero =>
    have hk : x = .pan _ := hk
    subst hk
    exact RdK0.no (a := p) (e := 3) (by rw [hR]; rfl) rfl rfl (Kp.refl b _)
  | succ k =>
  have IHv := IHv k rfl
  rw [decide_eq_true (by omega)] at hk
  have hk : x = .ret (.tup []) := hk
  subst hk
  have hw1 : IntKind.i64.wrap ((4 : Int) - ((k + 1 : Nat) : Int) + 1) = 4 - (k : Int) := by rw [wrap64] <;> omega
  have hw2 : IntKind.i64.wrap ((p : Int) + 1) = (p + 1 : Nat) := by rw [wrap64] <;> omega
  refine ⟨_, _, hb, _, _, hb, by show 3 ≤ 3; decide, ?_⟩
  have hg1 : upd h' b (rdC s p (IntKind.i64.wrap ((4 : Int) - ((k + 1 : Nat) : Int) + 1))) b = some (rdC s p (IntKind.i64.wrap ((4 : Int) - ((k + 1 : Nat) : Int) + 1))) := upd_get _ _ _
  refine ⟨_, _, hg1, _, _, hg1, by show 2 ≤ 3; decide, ?_⟩
  have hkp0 : ∀ h2 : Heap, Kp b (upd (upd h' b (rdC s p (IntKind.i64.wrap ((4 : Int) - ((k + 1 : Nat) : Int) + 1)))) b (rdC s (IntKind.i64.wrap ((p : Int) + 1)) (IntKind.i64.wrap ((4 : Int) - ((k + 1 : Nat) : Int) + 1)))) h2 → Kp b h' h2 := fun h2 k2 => (((Kp.refl b h').upd _).upd _).trans k2
  have hR : R = itemsF s (getS s k) (s.size + 1 - p) (p + 1) [] := hR
  refine LoopA.mk ⟨⟨[0, 2, 3, 4], 2, 1⟩, fun n st => ∃ (i m : Nat) (hh : Heap) (acc : List Val), i ≤ s.size ∧ n = s.size + 1 - i ∧ hh b = some (rdC s i (4 - (k : Int))) ∧ Kp b h' hh ∧ R = itemsF s (getS s k) m i acc ∧ s.size + 1 - i ≤ m ∧ acc.length ≤ i ∧
      ((acc = [] ∧ st = ⟨[(0, .c (.v (.pointer (some ⟨b, 0, none⟩)))), (2, .c (.loc 0 0)), (3, .c (.loc 1 0)), (4, .c .tt)], ⟨[(24, [.v (.int .i64 0), .v (.int .i64 0), .v (.string ⟨#[]⟩), .nil]), (24, [.v (.int .i64 5), .v (.int .i64 0), .v (.string ⟨#[]⟩), .nil])], [], hh⟩⟩) ∨
       (acc ≠ [] ∧ ∃ rows len, rows = Val.acs acc ∧ len = acc.length ∧ st = ⟨[(0, .c (.v (.pointer (some ⟨b, 0, none⟩)))), (2, .c (.loc 0 0)), (3, .c (.loc 1 0)), (4, .c .ff)], ⟨[(24, [.v (.int .i64 0), .v (.int .i64 0), .v (.string ⟨#[]⟩), .nil]), (24, [.v (.int .i64 5), .v (.int .i64 0), .v (.string ⟨#[]⟩), .own 0 4 rows])], [(24, 4, len)], hh⟩⟩)), ⟨rfl, s.size + 1 - (p + 1), _, .refl _ _, p + 1, s.size + 1 - p, _, [], by omega, rfl, by rw [upd_get, hw1, hw2], hkp0 _ (Kp.refl b _), hR, by omega, by simp, .inl ⟨rfl, rfl⟩⟩, ?_⟩
  rintro n _ ⟨i, m, hh, acc, hi, rfl, hg, hkp, hRF, hm, hacc, hst⟩
  obtain ⟨m, rfl⟩ : ∃ m', m = m' + 1 := ⟨m - 1, by omega⟩
  simp only [itemsF] at hRF
  have hw3 : IntKind.i64.wrap ((4 : Int) - (k : Int) - 1) = 4 - ((k + 1 : Nat) : Int) := by rw [wrap64] <;> omega
  rcases hst with ⟨rfl, rfl⟩ | ⟨hane, rows, len, rfl, rfl, rfl⟩
  · refine (here_calls b s i _ 93 hh hg hs hi).mono ?_
    rintro x h2 (⟨j1, j2, rfl, rfl⟩ | ⟨j1, rfl, rfl⟩)
    · rw [if_pos ⟨j1, j2⟩] at hRF
      refine Br.mk (fun h3 => by cases h3) (fun _ => ?_)
      have hg2 := upd_get hh b (rdC s (i + 1 : Nat) (4 - (k : Int)))
      refine ⟨_, _, hg2, _, _, hg2, by show 3 ≤ 3; decide, ?_⟩
      have hfin : upd (upd hh b (rdC s (i + 1 : Nat) (4 - (k : Int)))) b (rdC s (i + 1 : Nat) (IntKind.i64.wrap ((4 : Int) - (k : Int) - 1))) b = some (rdC s (i + 1 : Nat) (4 - ((k + 1 : Nat) : Int))) := by rw [upd_get, hw3]
      exact RdK0.ok hRF hfin ((hkp.upd _).upd _)
    · rw [if_neg j1, if_neg (by simp), if_pos rfl] at hRF
      refine Br.mk (fun _ => ?_) (fun h3 => by cases h3)
      refine ⟨_, _, hg, ?_⟩
      refine (must_calls _ _ _ _).mono ?_
      rintro x h3 ⟨rfl, hk⟩
      have hk : x = .ret (.tup []) := hk
      subst hk
      refine Pre.mk (by kernel_rfl) ?_
      refine (IHv b i _ hg hi).mono ?_
      intro x h4 hk
      cases hgr : getS s k i with
      | no a e =>
        rw [hgr] at hk hRF
        obtain ⟨rfl, k4⟩ := hk
        exact RdK0.no hRF rfl rfl (hkp.trans k4)
      | ok v next =>
        rw [hgr] at hk hRF
        obtain ⟨rfl, g4, k4⟩ := hk
        have hn := (getS_next (s := s) k i hi).1 v next hgr
        have hpre : 0 < 4 ∧ 1 * 56 ≤ lenMax ∧ 1 ≤ lenMax := by unfold lenMax; omega
        rw [Val.ac_eq]
        refine Pre.mk hpre ?_
        exact ⟨rfl, s.size + 1 - next, by omega, _, .refl _ _, next, m, _, [v], hn.2, rfl, g4, hkp.trans k4, hRF, by omega, by simp; omega, .inr ⟨by simp, _, _, (acs_one v).symm, rfl, rfl⟩⟩
  · refine (here_calls b s i _ 93 hh hg hs hi).mono ?_
    rintro x h2 (⟨j1, j2, rfl, rfl⟩ | ⟨j1, rfl, rfl⟩)
    · rw [if_pos ⟨j1, j2⟩] at hRF
      refine Br.mk (fun h3 => by cases h3) (fun _ => ?_)
      have hg2 := upd_get hh b (rdC s (i + 1 : Nat) (4 - (k : Int)))
      refine ⟨_, _, hg2, _, _, hg2, by show 3 ≤ 3; decide, ?_⟩
      have hfin : upd (upd hh b (rdC s (i + 1 : Nat) (4 - (k : Int)))) b (rdC s (i + 1 : Nat) (IntKind.i64.wrap ((4 : Int) - (k : Int) - 1))) b = some (rdC s (i + 1 : Nat) (4 - ((k + 1 : Nat) : Int))) := by rw [upd_get, hw3]
      exact RdK0.list hRF hfin ((hkp.upd _).upd _)
    · rw [if_neg j1] at hRF
      refine Br.mk (fun _ => ?_) (fun h3 => by cases h3)
      refine (here_calls b s i _ 32 h2 hg hs hi).mono ?_
      rintro x h3 (⟨q1, q2, rfl, rfl⟩ | ⟨q1, rfl, rfl⟩)
      · rw [if_neg (fun hh => hh.2 ⟨q1, q2⟩), if_neg hane] at hRF
        have hg2 := upd_get h2 b (rdC s (i + 1 : Nat) (4 - (k : Int)))
        refine ⟨_, _, hg2, ?_⟩
        refine (must_calls _ _ _ _).mono ?_
        rintro x h4 ⟨rfl, hk⟩
        have hk : x = .ret (.tup []) := hk
        subst hk
        refine Pre.mk (by kernel_rfl) ?_
        refine (IHv b (i + 1) _ hg2 (by omega)).mono ?_
        intro x h5 hk
        have hkp2 := hkp.upd (rdC s (i + 1 : Nat) (4 - (k : Int)))
        cases hgr : getS s k (i + 1) with
        | no a e =>
          rw [hgr] at hk hRF
          obtain ⟨rfl, k4⟩ := hk
          exact RdK0.no hRF rfl rfl (hkp2.trans k4)
        | ok v next =>
          rw [hgr] at hk hRF
          obtain ⟨rfl, g4, k4⟩ := hk
          have hn := (getS_next (s := s) k (i + 1) (by omega)).1 v next hgr
          have hpre : 24 = 24 ∧ 4 = 4 ∧ 4 = 4 ∧ (Val.acs acc).length = acc.length ∧ (acc.length + 1) * 56 ≤ lenMax ∧ acc.length + 1 ≤ lenMax := ⟨rfl, rfl, rfl, Val.acs_len acc, by unfold lenMax; omega, by unfold lenMax; omega⟩
          rw [Val.ac_eq]
          refine Pre.mk hpre ?_
          exact ⟨rfl, s.size + 1 - next, by omega, _, .refl _ _, next, m, _, acc ++ [v], hn.2, rfl, g4, hkp2.trans k4, hRF, by omega, by simp; omega, .inr ⟨by simp, _, _, (acs_snoc acc v).symm, by simp, rfl⟩⟩
      · rw [if_pos ⟨hane, q1⟩] at hRF
        refine ⟨_, _, hg, ?_⟩
        refine (must_calls _ _ _ _).mono ?_
        rintro x h4 ⟨rfl, hk⟩
        have hk : x = .pan _ := hk
        subst hk
        exact RdK0.no hRF rfl rfl hkp

set_option maxRecDepth 4000 in
set_option maxHeartbeats 1000000 in
theorem value_calls (ht : TextOk) (s : ByteArray) (hs : s.size < 1000000000) : ∀ (k : Nat), k ≤ 4 → ∀ (b p : Nat) (h : Heap), h b = some (rdC s p (4 - (k : Int))) → p ≤ s.size →
    CallsA Tryd.prog 77 [.c (.v (.pointer (some ⟨b, 0, none⟩)))] h (RdK (getS s k p) b s (4 - (k : Int)) h) := by
  intro k
  induction k using Nat.strongRecOn with
  | _ k IH =>
  intro hk4 b p h hb hp
  have hlist := fun hp => list_calls s hs k hk4 (fun k' hk' b p h hb hp => IH k' (by omega) (by omega) b p h hb hp) b p h hb hp
  clear IH
  refine RdK.of0 ?_
  refine callsA_of (D := D2 61 [] [39, 42, 31, 36, 49, 54] []) ty_ok mixed Tryd.func77 rfl (by kernel_rfl) (by kernel_rfl) (by simp [D2]) ?_
  intro g vs hr
  clear hr
  obtain ⟨R, hR⟩ : ∃ R, R = getS s k p := ⟨_, rfl⟩
  rw [← hR]
  rw [getS_eq] at hR
  unfold kindS at hR
  refine Pre.mk (by kernel_rfl) ?_
  refine ⟨_, _, hb, _, _, hb, _, _, hb, ?_⟩
  refine (must_calls _ _ _ _).mono ?_
  rintro x h' ⟨rfl, hk⟩
  by_cases hps : p = s.size
  · rw [decide_eq_false (by omega)] at hk
    have hk : x = .pan _ := hk
    subst hk
    rw [if_pos hps] at hR
    exact RdK0.no hR rfl rfl (Kp.refl b _)
  have hlt : p < s.size := by omega
  rw [decide_eq_true (by omega)] at hk
  have hk : x = .ret (.tup []) := hk
  subst hk
  rw [if_neg hps] at hR
  have hlist := hlist hlt
  refine Pre.mk (by kernel_rfl) ?_
  refine ⟨_, _, hb, _, _, hb, Pre.mk ⟨by omega, by omega⟩ ?_⟩
  have fin : ∀ {x : AEnd} {h2 : Heap}, RdK R b s (4 - (k : Int)) h' x h2 → (∃ v n, R = .ok v n ∧ x = .ret (.agg [.v (.int .i64 v.kind), .v (.int .i64 v.n), .v (.string v.s), .sl 4 (Val.acs v.l)]) ∧ RdK0 R b s (4 - (k : Int)) h' (.ret (.agg [.v (.int .i64 v.kind), .v (.int .i64 v.n), .v (.string v.s), .sl 4 (Val.acs v.l)])) h2) ∨ (∃ w, x = .pan w ∧ RdK0 R b s (4 - (k : Int)) h' (.pan w) h2) := by
    intro x h2 hh
    cases R with
    | ok v n =>
      obtain ⟨rfl, a1, a2⟩ := hh
      rw [Val.ac_eq]
      refine .inl ⟨v, n, rfl, rfl, ?_⟩
      rw [← Val.ac_eq]
      exact ⟨⟨_, rfl, VLe.refl _⟩, a1, a2⟩
    | no a e =>
      obtain ⟨rfl, a2⟩ := hh
      exact .inr ⟨_, rfl, rfl, a2⟩
  refine Br.mk (fun h39 => ?_) (fun h39 => ?_)
  · have h39 : bt s p = 39 := eq_of_beq h39
    have hRb : R = symS s p := by rw [hR, if_pos h39]
    refine (symbol_calls b s p _ h' hb hs hlt).mono ?_
    intro x h2 hk
    rw [← hRb] at hk
    rcases fin hk with ⟨v, n, _, rfl, hq⟩ | ⟨w, rfl, hq⟩
    · exact hq
    · exact hq
  have h39 : ¬ bt s p = 39 := ne_of_beq_false h39
  refine Br.mk (fun h1 => ?_) (fun h1 => ?_)
  · have hn : bt s p = 45 ∨ 48 ≤ bt s p ∧ bt s p ≤ 57 := .inl (eq_of_beq h1)
    have hRb : R = numS s p := by rw [hR, if_neg h39, if_pos hn]
    refine (number_calls b s p _ h' hb hs hp).mono ?_
    intro x h2 hk
    rw [← hRb] at hk
    rcases fin hk with ⟨v, n, _, rfl, hq⟩ | ⟨w, rfl, hq⟩
    · exact hq
    · exact hq
  have h1 := ne_of_beq_false h1
  refine Br.mk (fun h2 => ?_) (fun h2 => ?_)
  · have h2 := of_decide_eq_true h2
    refine Br.mk (fun h3 => ?_) (fun h3 => ?_)
    · have hn : bt s p = 45 ∨ 48 ≤ bt s p ∧ bt s p ≤ 57 := .inr ⟨h2, of_decide_eq_true h3⟩
      have hRb : R = numS s p := by rw [hR, if_neg h39, if_pos hn]
      refine (number_calls b s p _ h' hb hs hp).mono ?_
      intro x h2 hk
      rw [← hRb] at hk
      rcases fin hk with ⟨v, n, _, rfl, hq⟩ | ⟨w, rfl, hq⟩
      · exact hq
      · exact hq
    · have hn : ¬ (bt s p = 45 ∨ 48 ≤ bt s p ∧ bt s p ≤ 57) := by have := of_decide_eq_false h3; omega
      rw [if_neg h39, if_neg hn] at hR
      refine Br.mk (fun h34 => ?_) (fun h34 => ?_)
      · have h34 : bt s p = 34 := eq_of_beq h34
        have hRb : R = strS s p := by rw [hR, if_pos h34]
        refine (ht b s p _ h' hb hs hlt).mono ?_
        intro x h2 hk
        rw [← hRb] at hk
        rcases fin hk with ⟨v, n, _, rfl, hq⟩ | ⟨w, rfl, hq⟩
        · exact hq
        · exact hq
      · have h34 : ¬ bt s p = 34 := ne_of_beq_false h34
        rw [if_neg h34] at hR
        refine Br.mk (fun h91 => ?_) (fun h91 => ?_)
        · have h91 : bt s p = 91 := eq_of_beq h91
          have hRb : R = listS s k p := by rw [hR, if_pos h91]
          refine hlist.mono ?_
          intro x h2 hk
          rw [← hRb] at hk
          rcases fin hk with ⟨v, n, _, rfl, hq⟩ | ⟨w, rfl, hq⟩
          · exact hq
          · exact hq
        · have h91 : ¬ bt s p = 91 := ne_of_beq_false h91
          have hRb : R = wordS s p := by rw [hR, if_neg h91]
          refine (word_calls b s p _ h' hb hs hp).mono ?_
          intro x h2 hk
          rw [← hRb] at hk
          rcases fin hk with ⟨v, n, _, rfl, hq⟩ | ⟨w, rfl, hq⟩
          · exact hq
          · exact hq
  · have hn : ¬ (bt s p = 45 ∨ 48 ≤ bt s p ∧ bt s p ≤ 57) := by have := of_decide_eq_false h2; omega
    rw [if_neg h39, if_neg hn] at hR
    refine Br.mk (fun h34 => ?_) (fun h34 => ?_)
    · have h34 : bt s p = 34 := eq_of_beq h34
      have hRb : R = strS s p := by rw [hR, if_pos h34]
      refine (ht b s p _ h' hb hs hlt).mono ?_
      intro x h2 hk
      rw [← hRb] at hk
      rcases fin hk with ⟨v, n, _, rfl, hq⟩ | ⟨w, rfl, hq⟩
      · exact hq
      · exact hq
    · have h34 : ¬ bt s p = 34 := ne_of_beq_false h34
      rw [if_neg h34] at hR
      refine Br.mk (fun h91 => ?_) (fun h91 => ?_)
      · have h91 : bt s p = 91 := eq_of_beq h91
        have hRb : R = listS s k p := by rw [hR, if_pos h91]
        refine hlist.mono ?_
        intro x h2 hk
        rw [← hRb] at hk
        rcases fin hk with ⟨v, n, _, rfl, hq⟩ | ⟨w, rfl, hq⟩
        · exact hq
        · exact hq
      · have h91 : ¬ bt s p = 91 := ne_of_beq_false h91
        have hRb : R = wordS s p := by rw [hR, if_neg h91]
        refine (word_calls b s p _ h' hb hs hp).mono ?_
        intro x h2 hk
        rw [← hRb] at hk
        rcases fin hk with ⟨v, n, _, rfl, hq⟩ | ⟨w, rfl, hq⟩
        · exact hq
        · exact hq
end Go.Proofs.YtdgjpncflkpjfaaDoor
