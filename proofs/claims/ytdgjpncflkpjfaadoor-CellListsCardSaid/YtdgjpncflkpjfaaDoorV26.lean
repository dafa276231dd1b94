/- The contract of utf.Codes (a loop over a function), and so of utf.Valid. -/
import Derived.Test.YtdgjpncflkpjfaaDoorV24
set_option linter.unusedVariables false
set_option linter.unusedSimpArgs false
namespace Go.Proofs.YtdgjpncflkpjfaaDoor
open Aw

set_option maxRecDepth 4000 in
theorem ucodes_pure : UCodesOk := by
  intro s hs
  refine PureA.le fun h => ?_
  refine callsA_of (D := D3 19 [] [] 2) ty_ok mixed Tryd.func80 rfl (by kernel_rfl) (by kernel_rfl) (by simp [D3]) ?_
  intro g vs hr
  clear hr
  obtain ⟨R, hR⟩ : ∃ R, R = codesU s s.size 0 := ⟨_, rfl⟩
  rw [← hR]
  obtain ⟨items, hit⟩ : ∃ items, items = pairsU s s.size 0 := ⟨_, rfl⟩
  have hseq := uall1_seq s hs
  rw [← hit] at hseq
  have hlen : ∀ avs ∈ items, avs.length = 2 := by
    have : ∀ (n p : Nat), ∀ avs ∈ pairsU s n p, avs.length = 2 := by
      intro n
      induction n with
      | zero => intro p avs h; cases h
      | succ n ih =>
        intro p avs h
        simp only [pairsU] at h
        split at h
        · split at h
          · cases h
          · rcases List.mem_cons.1 h with rfl | h
            · rfl
            · exact ih _ _ h
        · cases h
    rw [hit]; exact this _ _
  have leNil : ∀ {e : Nat} {x : Int}, R = ([], e) → x = (e : Int) → VLe (.tup [.c .nil, .c (.v (.int .i64 x))]) (codesAV R) := by
    intro e x h1 h2; subst h1 h2; exact VLe.tup2 (VLe.c (CLe.nil (by decide))) (VLe.refl _)
  have leOwn : ∀ {e : Nat} {x : Int} {acc : List Int}, R = (acc, e) → x = (e : Int) → VLe (.tup [.c (.sl 1 (rowsI acc)), .c (.v (.int .i64 x))]) (codesAV R) := by
    intro e x acc h1 h2; subst h1 h2; exact VLe.refl _
  refine ⟨_, uall_pure s, ?_⟩
  refine RangeA.mk ⟨97, [.ro [.v (.string s)]], items, fun _ => none, ⟨[4, 5], 2, 1⟩, fun k st => ∃ (p m : Nat) (j : Int) (acc : List Int) (pre : List (List AV)), p ≤ s.size ∧ j = p ∧ s.size - p ≤ m ∧ items = pre ++ pairsU s m p ∧ pre.length = k ∧ R = (acc ++ (codesU s m p).1, (codesU s m p).2) ∧ acc.length ≤ p ∧
      ((acc = [] ∧ st = ⟨[(96, [.nil]), (3, [.v (.int .i64 j)])], [], h⟩) ∨
       (∃ rows len, rows = rowsI acc ∧ len = acc.length ∧ st = ⟨[(96, [.own 0 1 rows]), (3, [.v (.int .i64 j)])], [(3, 1, len)], h⟩)),
    ⟨rfl, hseq, (fun _ _ h => by cases h), hlen, rfl⟩, ⟨rfl, rfl, 0, s.size, _, [], [], Nat.zero_le _, rfl, Nat.le_refl _, hit, rfl, by rw [hR]; rfl, Nat.le_refl _, .inl ⟨rfl, rfl⟩⟩, ?_, ?_⟩
  · rintro k st avs hk ⟨p, m, j, acc, pre, hp, rfl, hm, hpre, hpl, hRF, hacc, hst⟩ hat
    have hat' : (pairsU s m p)[0]? = some avs := by
      rw [hpre, ← hpl, List.getElem?_append_right (Nat.le_refl _), Nat.sub_self] at hat; exact hat
    obtain ⟨m, rfl⟩ : ∃ m', m = m' + 1 := by
      cases m with
      | zero => simp [pairsU] at hat'
      | succ m => exact ⟨m, rfl⟩
    have hl : p < s.size := Classical.byContradiction fun hn => by simp only [pairsU] at hat'; rw [if_neg hn] at hat'; simp at hat'
    cases hg : getU s p with
    | none => simp only [pairsU] at hat'; rw [if_pos hl, hg] at hat'; simp at hat'
    | some ck =>
      obtain ⟨c, q⟩ := ck
      have hq := getU_some hg
      have hpu : pairsU s (m + 1) p = pairU (p + q : Nat) c :: pairsU s m (p + q) := by simp only [pairsU]; rw [if_pos hl, hg]
      have hcu : codesU s (m + 1) p = (c :: (codesU s m (p + q)).1, (codesU s m (p + q)).2) := by simp only [codesU]; rw [if_pos hl, hg]
      rw [hpu] at hat' hpre
      rw [hcu] at hRF
      have : avs = pairU (p + q : Nat) c := by simpa using hat'.symm
      subst this
      have hpre0 : 0 < 1 ∧ 1 * 8 ≤ lenMax ∧ 1 ≤ lenMax := by unfold lenMax; omega
      rcases hst with ⟨rfl, rfl⟩ | ⟨rows, len, rfl, rfl, rfl⟩
      · refine ⟨rfl, Pre.mk hpre0 ?_⟩
        exact ⟨rfl, p + q, m, _, [c], pre ++ [pairU (p + q : Nat) c], by omega, rfl, by omega, by rw [hpre]; simp, by simp [hpl], by rw [hRF]; rfl, by simp; omega, .inr ⟨_, _, rfl, rfl, rfl⟩⟩
      · have hpre1 : 3 = 3 ∧ 1 = 1 ∧ 1 = 1 ∧ (rowsI acc).length = acc.length ∧ (acc.length + 1) * 8 ≤ lenMax ∧ acc.length + 1 ≤ lenMax := ⟨rfl, rfl, rfl, by simp [rowsI], by unfold lenMax; omega, by unfold lenMax; omega⟩
        refine ⟨rfl, Pre.mk hpre1 ?_⟩
        exact ⟨rfl, p + q, m, _, acc ++ [c], pre ++ [pairU (p + q : Nat) c], by omega, rfl, by omega, by rw [hpre]; simp, by simp [hpl], by rw [hRF]; simp, by simp; omega, .inr ⟨_, _, (rowsI_snoc acc c).symm, by simp, rfl⟩⟩
  · rintro st ⟨p, m, j, acc, pre, hp, rfl, hm, hpre, hpl, hRF, hacc, hst⟩
    have hnil : pairsU s m p = [] := by
      have : items.length = pre.length + (pairsU s m p).length := by rw [hpre]; simp
      exact List.eq_nil_of_length_eq_zero (by omega)
    have hend : R = (acc, p) := by
      rw [hRF]
      cases m with
      | zero => simp [codesU]
      | succ m =>
        simp only [pairsU] at hnil
        simp only [codesU]
        by_cases hl : p < s.size
        · rw [if_pos hl] at hnil ⊢
          cases hg : getU s p with
          | none => simp
          | some ck => rw [hg] at hnil; simp at hnil
        · rw [if_neg hl]; simp
    rcases hst with ⟨rfl, rfl⟩ | ⟨rows, len, rfl, rfl, rfl⟩
    · refine Pre.mk (by kernel_rfl) ?_
      exact ⟨⟨_, rfl, leNil hend rfl⟩, rfl⟩
    · refine Pre.mk (by kernel_rfl) ?_
      exact ⟨⟨_, rfl, leOwn hend rfl⟩, rfl⟩
theorem uvalid_ok : ValidOk u8B := valid_pure ucodes_pure
end Go.Proofs.YtdgjpncflkpjfaaDoor
