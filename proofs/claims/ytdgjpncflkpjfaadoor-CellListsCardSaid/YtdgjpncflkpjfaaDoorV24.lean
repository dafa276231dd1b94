/- The contract of utf.Codes (a loop over a function), and so of utf.Count and utf.Valid. -/
import Derived.Test.YtdgjpncflkpjfaaDoorV15
set_option linter.unusedVariables false
set_option linter.unusedSimpArgs false
namespace Go.Proofs.YtdgjpncflkpjfaaDoor
open Aw

/-- The same, with boxes that never change (rob) and boxes that are never dropped (floor). -/
noncomputable def D3 (nt : Nat) (gd rob : List Nat) (floor : Nat) : Cfg2 := { P := Tryd.prog, ty := ty, nt := nt, pure := fun _ => true, esc := fun _ => false, lload := fun _ => false, rob := fun t => rob.any (Nat.beq t), gd := fun t => gd.any (Nat.beq t), floor := floor }

theorem uall_pure (s : ByteArray) : PureA Tryd.prog 89 [.c (.v (.string s))] (.c (.fn (.func 97) [] [.ro [.v (.string s)]])) := by
  intro h
  refine callsA_of (D := D3 4 [] [1] 0) ty_ok mixed Tryd.func89 rfl (by kernel_rfl) (by kernel_rfl) (by simp [D3]) ?_
  intro g vs hr
  clear hr
  exact ⟨rfl, rfl⟩

def pairU (x y : Int) : List AV := [.c (.v (.int .i64 x)), .c (.v (.int .i64 y))]
def pairsU (s : ByteArray) : Nat → Nat → List (List AV)
  | 0, _ => []
  | n + 1, p => if p < s.size then match getU s p with
    | none => []
    | some (c, k) => pairU (p + k : Nat) c :: pairsU s n (p + k)
    else []

set_option maxRecDepth 4000 in
theorem uall1_seq (s : ByteArray) (hs : s.size < 1000000000) : SeqA Tryd.prog 97 [.c (.ro [.v (.string s)])] (pairsU s s.size 0) (fun _ => none) := by
  refine seqA_ofS (D := D3 33 [26] [] 0) Tryd.func97 rfl (by kernel_rfl) (by kernel_rfl) (by simp [D3]) rfl ?_
  intro g vs cb hr hP hI h hh _ _
  clear hr
  refine Awp.of ty_ok mixed ?_
  obtain ⟨items, hit⟩ : ∃ items, items = pairsU s s.size 0 := ⟨_, rfl⟩
  rw [← hit] at hI ⊢
  have hconv : s.size ≤ lenMax := by unfold lenMax; omega
  refine Pre.mk hconv ?_
  refine LoopA.mk ⟨⟨[0, 3, 4], 0, 0⟩, fun n st => ∃ (p m k : Nat) (j : Int) (h' : Heap) (pre : List (List AV)), st = ⟨[(0, .c (.v (.func (.yield cb.l) #[] #[]))), (3, .c (.sl 1 (rowsB s))), (4, .c (.v (.int .i64 j)))], ⟨[], [], h'⟩⟩ ∧ p ≤ s.size ∧ n = s.size - p ∧ j = p ∧ s.size - p ≤ m ∧ h' cb.l = some (.seq cb true k) ∧ items = pre ++ pairsU s m p ∧ pre.length = k,
    ⟨rfl, s.size, _, .refl _ _, 0, s.size, 0, _, _, [], rfl, Nat.zero_le _, rfl, rfl, Nat.le_refl _, hh, hit, rfl⟩, ?_⟩
  rintro n _ ⟨p, m, k, j, h', pre, rfl, hp, rfl, rfl, hm, hk, hpre, hlen⟩
  have hend : ∀ k', k' ≤ items.length → ∀ h'' : Heap, h'' cb.l = some (.seq cb false k') → ∃ x k, h'' cb.l = some (.seq cb x k) ∧ k ≤ items.length ∧ (x = true → k = items.length) := fun k' h1 h'' h2 => ⟨false, k', h2, h1, fun h => by cases h⟩
  have hfin : pairsU s m p = [] → ∃ x k, h' cb.l = some (.seq cb x k) ∧ k ≤ items.length ∧ (x = true → k = items.length) := fun e => by
    rw [e, List.append_nil] at hpre
    exact ⟨true, k, hk, by rw [hpre, hlen]; exact Nat.le_refl _, fun _ => by rw [hpre, hlen]⟩
  have hget := uget_pure s hs p hp
  refine Br.mk (fun h1 => ?_) (fun h1 => ?_)
  · have hl : p < s.size := by have := of_decide_eq_true h1; rw [rowsB_len] at this; omega
    obtain ⟨m, rfl⟩ : ∃ m', m = m' + 1 := ⟨m - 1, by omega⟩
    cases hg : getU s p with
    | none =>
      rw [hg] at hget
      refine ⟨_, hget, ?_⟩
      refine Br.mk (fun _ => ?_) (fun h2 => by cases h2)
      exact hfin (by simp only [pairsU]; rw [if_pos hl, hg])
    | some ck =>
      obtain ⟨c, q⟩ := ck
      rw [hg] at hget
      have hq := getU_some hg
      have hpu : pairsU s (m + 1) p = pairU (p + q : Nat) c :: pairsU s m (p + q) := by simp only [pairsU]; rw [if_pos hl, hg]
      rw [hpu] at hpre
      have hat : cb.items[k]? = some (pairU (p + q : Nat) c) := by
        rw [hI, hpre, ← hlen]; simp
      have hklt : k + 1 ≤ items.length := by rw [hpre, ← hlen]; simp
      refine ⟨_, hget, ?_⟩
      refine Br.mk (fun h2 => by cases h2) (fun _ => ?_)
      have hw : IntKind.i64.wrap ((p : Int) + (q : Nat)) = (p + q : Nat) := by rw [wrap64] <;> omega
      refine ⟨cb, k, _, ⟨hk, hP, hat, fun g ys hy => by rw [← hw]; exact hy⟩, ?_, ?_⟩
      · exact ⟨rfl, s.size - (p + q), by omega, _, .refl _ _, p + q, m, k + 1, _, _, pre ++ [pairU (p + q : Nat) c], rfl, by omega, rfl, hw, by omega, upd_same _ _ _, by rw [hpre]; simp, by simp [hlen]⟩
      · exact hend (k + 1) hklt _ (upd_same _ _ _)
  · have hl : ¬ p < s.size := by have := of_decide_eq_false h1; rw [rowsB_len] at this; omega
    exact hfin (by cases m with | zero => rfl | succ m => simp only [pairsU]; rw [if_neg hl])
end Go.Proofs.YtdgjpncflkpjfaaDoor
