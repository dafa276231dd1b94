/- The contract of num.Scan. -/
import Derived.Test.YtdgjpncflkpjfaaDoorV3
set_option linter.unusedVariables false
set_option linter.unusedSimpArgs false
namespace Go.Proofs.YtdgjpncflkpjfaaDoor
open Aw

def scanQ (s : ByteArray) (p : Nat) : Nat := if p < s.size ∧ bt s p = 45 then p + 1 else p
def scanE (s : ByteArray) (p : Nat) : Nat := scanQ s p + runs s (scanQ s p)
def scanS (s : ByteArray) (p : Nat) : Int × Nat × Int :=
  if (parseS (s.extract p (scanE s p))).2 = 0 then ((parseS (s.extract p (scanE s p))).1, scanE s p, 0) else (0, p, (parseS (s.extract p (scanE s p))).2)
theorem scanQ_le {s : ByteArray} {p : Nat} (hp : p ≤ s.size) : p ≤ scanQ s p ∧ scanQ s p ≤ s.size := by
  unfold scanQ; split <;> omega
theorem scanE_le {s : ByteArray} {p : Nat} (hp : p ≤ s.size) : p ≤ scanE s p ∧ scanE s p ≤ s.size := by
  have h1 := scanQ_le hp
  have h2 := runs_le h1.2
  unfold scanE; omega
theorem ret3 {k k' k'' : IntKind} {x x' x'' y y' y'' : Int} (h : (x, x', x'') = (y, y', y'')) : AEnd.ret (.tup [.c (.v (.int k x)), .c (.v (.int k' x')), .c (.v (.int k'' x''))]) = .ret (.tup [.c (.v (.int k y)), .c (.v (.int k' y')), .c (.v (.int k'' y''))]) := by cases h; rfl

theorem pureX {f : Nat} {a : AV} {k : IntKind} {x y : Int} {r : AV} (h : x = y) (hp : PureA Tryd.prog f [a, .c (.v (.int k y))] r) : PureA Tryd.prog f [a, .c (.v (.int k x))] r := h ▸ hp
theorem pureS {f : Nat} {x y : ByteArray} {r : AV} (h : x = y) (hp : PureA Tryd.prog f [.c (.v (.string y))] r) : PureA Tryd.prog f [.c (.v (.string x))] r := h ▸ hp
set_option maxRecDepth 8000 in
theorem scan_pure (s : ByteArray) (p : Nat) (hs : s.size < 1000000000) (hp : p ≤ s.size) : PureA Tryd.prog 93 [.c (.v (.string s)), .c (.v (.int .i64 p))] (.tup [.c (.v (.int .i64 (scanS s p).1)), .c (.v (.int .i64 (scanS s p).2.1)), .c (.v (.int .i64 (scanS s p).2.2))]) := by
  intro h
  refine callsA_of (D := D1 54 [] [] [12, 24]) ty_ok mixed Tryd.func93 rfl (by kernel_rfl) (by kernel_rfl) (by simp [D1]) ?_
  intro g vs hr
  clear hr
  have hq := scanQ_le hp
  have he := scanE_le hp
  refine Br.mk (fun h1 => by have := of_decide_eq_true h1; omega) (fun h1 => ?_)
  refine Br.mk (fun h2 => by have := of_decide_eq_true h2; omega) (fun h2 => ?_)
  have hsz : (s.extract p (scanE s p)).size < 1000000000 := by simp; omega
  have hE : IntKind.i64.wrap ((scanQ s p : Int) + runs s (scanQ s p)) = (scanE s p : Nat) := by
    have : (scanE s p : Int) = scanQ s p + runs s (scanQ s p) := by unfold scanE; omega
    rw [wrap64] <;> omega
  refine Br.mk (fun h3 => ?_) (fun h3 => ?_)
  · have h3 := of_decide_eq_true h3
    refine ⟨⟨by omega, by simp; omega⟩, ?_⟩
    refine Br.mk (fun h4 => ?_) (fun h4 => ?_)
    · have hQ : scanQ s p = p + 1 := by unfold scanQ; rw [if_pos ⟨by omega, by simpa using h4⟩]
      have hx : IntKind.i64.wrap ((p : Int) + 1) = (scanQ s p : Nat) := by rw [hQ, wrap64] <;> omega
      refine ⟨_, pureX hx (run_pure s (scanQ s p) hs hq.2), ?_⟩
      refine ⟨by rw [hx, hE]; omega, ?_⟩
      refine ⟨_, pureS (by first | (rw [hx, hE]; rfl) | (rw [hx, hE, hQ]; rfl) | (rw [hx, hE, ← hx]; rfl) | (rw [hx, hE]; simp [hQ])) (parse_pure (s.extract p (scanE s p)) hsz), ?_⟩
      refine Br.mk (fun h5 => ?_) (fun h5 => ?_)
      · have h5 : ¬ (parseS (s.extract p (scanE s p))).2 = 0 := by simpa using h5
        exact ⟨ret3 (by unfold scanS; rw [if_neg h5]), rfl⟩
      · have h5 : (parseS (s.extract p (scanE s p))).2 = 0 := by simpa using h5
        refine ⟨_, pureX hx (run_pure s (scanQ s p) hs hq.2), ?_⟩
        exact ⟨ret3 (by rw [hx, hE]; unfold scanS; rw [if_pos h5]), rfl⟩
    · have hQ : scanQ s p = p := by unfold scanQ; rw [if_neg (by intro hh; rw [hh.2] at h4; cases h4)]
      have hx : (p : Int) = (scanQ s p : Nat) := by rw [hQ]
      refine ⟨_, pureX hx (run_pure s (scanQ s p) hs hq.2), ?_⟩
      refine ⟨by rw [hx, hE]; omega, ?_⟩
      refine ⟨_, pureS (by first | (rw [hx, hE]; rfl) | (rw [hx, hE, hQ]; rfl) | (rw [hx, hE, ← hx]; rfl) | (rw [hx, hE]; simp [hQ])) (parse_pure (s.extract p (scanE s p)) hsz), ?_⟩
      refine Br.mk (fun h5 => ?_) (fun h5 => ?_)
      · have h5 : ¬ (parseS (s.extract p (scanE s p))).2 = 0 := by simpa using h5
        exact ⟨ret3 (by unfold scanS; rw [if_neg h5]), rfl⟩
      · have h5 : (parseS (s.extract p (scanE s p))).2 = 0 := by simpa using h5
        refine ⟨_, pureX hx (run_pure s (scanQ s p) hs hq.2), ?_⟩
        exact ⟨ret3 (by rw [hx, hE]; unfold scanS; rw [if_pos h5]), rfl⟩
  · have hQ : scanQ s p = p := by unfold scanQ; rw [if_neg (by intro hh; have := of_decide_eq_false h3; omega)]
    have hx : (p : Int) = (scanQ s p : Nat) := by rw [hQ]
    refine ⟨_, pureX hx (run_pure s (scanQ s p) hs hq.2), ?_⟩
    refine ⟨by rw [hx, hE]; omega, ?_⟩
    refine ⟨_, pureS (by first | (rw [hx, hE]; rfl) | (rw [hx, hE, hQ]; rfl) | (rw [hx, hE, ← hx]; rfl) | (rw [hx, hE]; simp [hQ])) (parse_pure (s.extract p (scanE s p)) hsz), ?_⟩
    refine Br.mk (fun h5 => ?_) (fun h5 => ?_)
    · have h5 : ¬ (parseS (s.extract p (scanE s p))).2 = 0 := by simpa using h5
      exact ⟨ret3 (by unfold scanS; rw [if_neg h5]), rfl⟩
    · have h5 : (parseS (s.extract p (scanE s p))).2 = 0 := by simpa using h5
      refine ⟨_, pureX hx (run_pure s (scanQ s p) hs hq.2), ?_⟩
      exact ⟨ret3 (by rw [hx, hE]; unfold scanS; rw [if_pos h5]), rfl⟩
theorem bt_extract {s : ByteArray} {a b k : Nat} (hb : b ≤ s.size) (hk : a + k < b) : bt (s.extract a b) k = bt s (a + k : Nat) := by
  unfold bt
  have h : (s.extract a b).data.toList = (s.data.toList.drop a).take (b - a) := by
    simp [ByteArray.data_extract, List.take_drop, List.extract_eq_take_drop]
  rw [Int.toNat_natCast, Int.toNat_natCast, h]
  have : ((s.data.toList.drop a).take (b - a))[k]? = s.data.toList[a + k]? := by
    rw [List.getElem?_take, if_pos (by omega), List.getElem?_drop]
  simp only [List.getD_eq_getElem?_getD, this]
end Go.Proofs.YtdgjpncflkpjfaaDoor
