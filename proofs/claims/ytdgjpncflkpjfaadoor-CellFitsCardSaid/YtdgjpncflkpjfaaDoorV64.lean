/- Plain laws: a value's thing tells the value; a value's field tells the value. The laws CellFits, CellLists: what their functions answer. An api.Slot argument; a walk where a package-level variable is read. -/
import Derived.Test.YtdgjpncflkpjfaaDoorV61
import Derived.Test.YtdgjpncflkpjfaaDoorV45
import Derived.Test.YtdgjpncflkpjfaaDoorV19
import Derived.Test.YtdgjpncflkpjfaaDoorV38
import Derived.Test.YtdgjpncflkpjfaaDoorV31
import Derived.Test.YtdgjpncflkpjfaaDoorV40
import Derived.LaidMore
import Derived.OpenShut
set_option linter.unusedVariables false
set_option linter.unusedSimpArgs false
namespace Go.Proofs.YtdgjpncflkpjfaaDoor
open Aw

theorem getU_ascii {s : ByteArray} {p : Nat} (hp : p < s.size) (h : bt s (p : Nat) < 128) : getU s p = some (bt s (p : Nat), 1) := by
  have h0 := bt_nn s (p : Nat)
  have hf : firstS (bt s (p : Nat)) = (1, bt s (p : Nat)) := if_pos h
  rw [getU_iff, hf]
  exact ⟨hp, rfl, by decide, by omega, fun i hi => absurd hi (by omega), rfl, decide_eq_true (by omega), if_pos h⟩
theorem codesU_ascii {s : ByteArray} (h : ∀ i : Nat, i < s.size → bt s (i : Nat) < 128) : ∀ (n p : Nat), p ≤ s.size → s.size - p ≤ n → (codesU s n p).2 = s.size
  | 0, p, h1, h2 => by show p = s.size; omega
  | n + 1, p, h1, h2 => by
    unfold codesU
    by_cases hp : p < s.size
    · rw [if_pos hp, getU_ascii hp (h p hp)]
      exact codesU_ascii h n (p + 1) (by omega) (by omega)
    · rw [if_neg hp]; show p = s.size; omega
theorem ascii_u8 {s : ByteArray} (h : ∀ i : Nat, i < s.size → bt s (i : Nat) < 128) : u8B s = true := decide_eq_true (codesU_ascii h _ _ (Nat.zero_le _) (by omega))
theorem symC_ascii {c : Int} (h : symC c = true) : c < 128 := by
  unfold symC letterB at h
  simp only [Bool.or_eq_true, decide_eq_true_eq, beq_iff_eq] at h
  omega
theorem name_parts {s : ByteArray} (h : nameB s = true) : s.size ≤ 40 ∧ ∀ i : Nat, i < s.size → symC (bt s (i : Nat)) = true := by
  unfold nameB at h
  simp only [Bool.and_eq_true, decide_eq_true_eq, List.all_eq_true, List.mem_range] at h
  exact ⟨h.1.1.2, h.2⟩
theorem name_u8 {s : ByteArray} (h : nameB s = true) : u8B s = true := ascii_u8 fun i hi => symC_ascii ((name_parts h).2 i hi)
theorem u8_nil : u8B ⟨#[]⟩ = true := by kernel_rfl
theorem u8_sym : u8B ⟨#[115, 121, 109]⟩ = true := by kernel_rfl

/-- The thing of a value that is right but for its depth, or its nodes. -/
structure ThingP (v : Val) : Prop where
  r : (thingJ v).right = true
  g : goodJ (thingJ v) = true
  o : ofJ (thingJ v) = v
  k : (thingJ v).ok
  n : (thingJ v).nodes ≤ 2 * v.nodes
  m : v.rng → (thingJ v).rng
def symJ (s : ByteArray) : Jsn := ⟨6, 0, ⟨#[]⟩, [⟨#[115, 121, 109]⟩], [⟨4, 0, s, [], []⟩]⟩
theorem sym_thing (s : ByteArray) (hs : nameB s = true) : symO (symJ s) = (⟨3, 0, s, []⟩, true) := by
  have hf : findO (symJ s) symN = (⟨4, 0, s, [], []⟩, true) := by
    have hi : idxS symN 0 [⟨#[115, 121, 109]⟩] = 0 := by unfold idxS; exact if_pos rfl
    unfold findO symJ
    dsimp only
    rw [hi, if_neg (by decide)]
    rfl
  unfold symO
  rw [hf, if_pos ⟨rfl, rfl, rfl, hs⟩]
theorem leaf_right {k n : Int} {s : ByteArray} (h1 : 0 ≤ k ∧ k ≤ 6 ∧ k ≠ 3) (h2 : k = 2 ∨ n = 0 ∨ k = 1 ∧ n = 1) (h3 : k = 4 ∨ s.size = 0) (h4 : u8B s = true) (h5 : k ≠ 6) : (Jsn.mk k n s [] []).right = true := by
  rw [jright_def]
  dsimp only
  rw [decide_eq_true h1, decide_eq_true h2, decide_eq_true h3, h4, decide_eq_true h5]
  simp [Jsn.rights]
theorem joks_of : ∀ {l : List Jsn}, (∀ x ∈ l, x.ok) → Jsn.oks l
  | [], _ => trivial
  | x :: l, h => ⟨h x (by simp), joks_of fun y hy => h y (by simp [hy])⟩
theorem jrngs_of : ∀ {l : List Jsn}, (∀ x ∈ l, x.rng) → Jsn.rngs l
  | [], _ => trivial
  | x :: l, h => ⟨h x (by simp), jrngs_of fun y hy => h y (by simp [hy])⟩
theorem leaf_ok {k n : Int} {s : ByteArray} (h : s.size < 1000000000) : (Jsn.mk k n s [] []).ok := ⟨h, by simp, trivial⟩
theorem leaf_n1 (k n : Int) (s : ByteArray) : (Jsn.mk k n s [] []).nodes ≤ 2 * (Val.mk k n s []).nodes := by
  rw [jnodes_def, nodes_def]; show (1 + 0 : Int) ≤ 2 * (1 + 0); omega
theorem thing_allM (m : Nat) : ∀ (v : Val), SizeOf.sizeOf v ≤ m → v.parts u8B = true → ThingP v := by
  induction m with
  | zero => intro v hm; cases v; simp at hm
  | succ m ih =>
    intro v hm h
    have hc := parts_cases v h
    cases hc with
    | nul => exact ⟨leaf_right (by decide) (by decide) (by decide) u8_nil (by decide), rfl, rfl, leaf_ok (by decide), leaf_n1 _ _ _, fun _ => ⟨by decide, trivial⟩⟩
    | fls => exact ⟨leaf_right (by decide) (by decide) (by decide) u8_nil (by decide), rfl, rfl, leaf_ok (by decide), leaf_n1 _ _ _, fun _ => ⟨by decide, trivial⟩⟩
    | tru => exact ⟨leaf_right (by decide) (by decide) (by decide) u8_nil (by decide), rfl, rfl, leaf_ok (by decide), leaf_n1 _ _ _, fun _ => ⟨by decide, trivial⟩⟩
    | int n => exact ⟨leaf_right (by decide) (.inl rfl) (.inr rfl) u8_nil (by decide), rfl, rfl, leaf_ok (by decide), leaf_n1 _ _ _, fun h => ⟨h.1, trivial⟩⟩
    | sym s hs =>
      have e : thingJ ⟨3, 0, s, []⟩ = symJ s := rfl
      have hsz := (name_parts hs).1
      refine ⟨?_, ?_, ?_, ?_, ?_, fun _ => ?_⟩
      · rw [e, jright_def]
        have hl : (Jsn.mk 4 0 s [] []).right = true := leaf_right (by decide) (by decide) (.inl rfl) (name_u8 hs) (by decide)
        unfold symJ
        simp only [Jsn.rights, hl, u8_nil, namesF, u8_sym]
        rfl
      · rw [e, goodJ_def, if_neg (show ¬ plainB (symJ s).kind = true from fun e => by have e : plainB 6 = true := e; revert e; decide), sym_thing s hs]
      · rw [e, ofJ_def, if_neg (show ¬ plainB (symJ s).kind = true from fun e => by have e : plainB 6 = true := e; revert e; decide), sym_thing s hs]
      · rw [e]; exact ⟨by decide, fun y hy => by simp at hy; subst hy; decide, leaf_ok (by omega), trivial⟩
      · rw [e, nodes_def]; show (1 + (1 + 0 + 0) : Int) ≤ 2 * (1 + 0); omega
      · rw [e]; exact ⟨by decide, ⟨by decide, trivial⟩, trivial⟩
    | str s h1 h2 => exact ⟨leaf_right (by decide) (.inr (.inl rfl)) (.inl rfl) h2 (by decide), rfl, rfl, leaf_ok (by omega), leaf_n1 _ _ _, fun _ => ⟨by decide, trivial⟩⟩
    | lst l h1 h2 =>
      have e : thingJ ⟨5, 0, ⟨#[]⟩, l⟩ = ⟨5, 0, ⟨#[]⟩, [], l.map thingJ⟩ := by rw [thing_def, if_neg (show ¬ (5 : Int) = 3 by decide), things_map]
      have hI : ∀ x ∈ l, ThingP x := fun x hx => ih x (by have := Val.size_mem (v := ⟨5, 0, ⟨#[]⟩, l⟩) hx; omega) (h2 x hx)
      refine ⟨?_, ?_, ?_, ?_, ?_, fun hr => ?_⟩
      · rw [e, jright_def]
        dsimp only
        have hl : Jsn.rights (l.map thingJ) = true := by
          rw [jrights_all, List.all_eq_true]
          intro y hy
          obtain ⟨x, hx, rfl⟩ := List.mem_map.1 hy
          exact (hI x hx).r
        rw [hl, u8_nil]; rfl
      · rw [e, goodJ_def, if_pos (show plainB 5 = true from rfl), goodJs_all, List.all_eq_true]
        intro y hy
        obtain ⟨x, hx, rfl⟩ := List.mem_map.1 hy
        exact (hI x hx).g
      · rw [e, ofJ_def, if_pos (show plainB 5 = true from rfl), ofJs_map]
        dsimp only
        rw [List.map_map]
        congr 1
        conv => rhs; rw [← List.map_id l]
        exact List.map_congr_left fun x hx => (hI x hx).o
      · rw [e]
        refine ⟨by decide, by simp, joks_of fun y hy => ?_⟩
        obtain ⟨x, hx, rfl⟩ := List.mem_map.1 hy
        exact (hI x hx).k
      · rw [e, jnodes_def, nodes_def]
        dsimp only
        have : ∀ l : List Val, (∀ x ∈ l, ThingP x) → Jsn.nodess (l.map thingJ) ≤ 2 * Val.nodess l := by
          intro l
          induction l with
          | nil => intro _; exact Int.le_refl 0
          | cons x l ih2 =>
            intro hh
            have g1 := (hh x (by simp)).n
            have g2 := ih2 fun y hy => hh y (by simp [hy])
            show (thingJ x).nodes + Jsn.nodess (l.map thingJ) ≤ 2 * (x.nodes + Val.nodess l)
            omega
        have := this l hI
        omega
      · rw [e]
        refine ⟨by decide, jrngs_of fun y hy => ?_⟩
        obtain ⟨x, hx, rfl⟩ := List.mem_map.1 hy
        exact (hI x hx).m (rngs_mem hr.2 x hx)
theorem thing_all (v : Val) (h : v.parts u8B = true) : ThingP v := thing_allM _ v (Nat.le_refl _) h

/-! ### Fields -/
theorem has16 {k : Int} (h0 : 0 ≤ k ∧ k ≤ 5) (h : hasB 16 k = true) : k = 4 := by
  have : k = 0 ∨ k = 1 ∨ k = 2 ∨ k = 3 ∨ k = 4 ∨ k = 5 := by omega
  rcases this with rfl | rfl | rfl | rfl | rfl | rfl <;> first | rfl | (revert h; decide)
theorem has8 {k : Int} (h0 : 0 ≤ k ∧ k ≤ 5) (h : hasB 8 k = true) : k = 3 := by
  have : k = 0 ∨ k = 1 ∨ k = 2 ∨ k = 3 ∨ k = 4 ∨ k = 5 := by omega
  rcases this with rfl | rfl | rfl | rfl | rfl | rfl <;> first | rfl | (revert h; decide)
theorem has63 {k : Int} (h0 : 0 ≤ k ∧ k ≤ 5) : hasB 63 k = true := by
  have : k = 0 ∨ k = 1 ∨ k = 2 ∨ k = 3 ∨ k = 4 ∨ k = 5 := by omega
  rcases this with rfl | rfl | rfl | rfl | rfl | rfl <;> decide
theorem toF_fits {ty : Int} {v : Val} (h : rightB u8B v = true) (hb : hasB ty v.kind = true) : toF ty v = if ty = 16 ∨ ty = 8 then v.s else v.text := by
  unfold toF; rw [h, hb]; exact if_pos rfl
theorem right_kind4 {v : Val} (h : rightB u8B v = true) (hk : v.kind = 4) : v = ⟨4, 0, v.s, []⟩ ∧ v.s.size ≤ 200 := by
  have hc := parts_cases v (right_spec h).2.2
  cases hc <;> first | exact ⟨rfl, by assumption⟩ | (exfalso; revert hk; dsimp only; decide)
theorem right_kind3 {v : Val} (h : rightB u8B v = true) (hk : v.kind = 3) : v = ⟨3, 0, v.s, []⟩ ∧ v.s.size ≤ 200 := by
  have hc := parts_cases v (right_spec h).2.2
  cases hc <;> first | (exfalso; revert hk; dsimp only; decide) | (rename_i s hs; exact ⟨rfl, by have := (name_parts hs).1; show s.size ≤ 200; omega⟩)
theorem field_back {ty : Int} {v : Val} (h : rightB u8B v = true) (hb : hasB ty v.kind = true) (hr : v.rng) : ofO ty (toF ty v) = (v, 0) ∧ (toF ty v).size ≤ 500000 := by
  have hk := parts_kind (right_spec h).2.2
  have hread : readO ty (toF ty v) = (v, 0) ∧ (toF ty v).size ≤ 500000 := by
    rw [toF_fits h hb]
    by_cases h16 : ty = 16
    · subst h16
      rw [if_pos (.inl rfl)]
      obtain ⟨e, e2⟩ := right_kind4 h (has16 hk hb)
      refine ⟨?_, by omega⟩
      unfold readO
      rw [if_pos rfl, ← e, h]; rfl
    · by_cases h8 : ty = 8
      · subst h8
        rw [if_pos (.inr rfl)]
        obtain ⟨e, e2⟩ := right_kind3 h (has8 hk hb)
        refine ⟨?_, by omega⟩
        unfold readO
        rw [if_neg (by decide), if_pos rfl, ← e, h]; rfl
      · rw [if_neg (fun e => e.elim h16 h8)]
        have := right_size h
        refine ⟨?_, by omega⟩
        unfold readO
        rw [if_neg h16, if_neg h8, parse_text h hr]
  refine ⟨?_, hread.2⟩
  unfold ofO
  rw [hread.1, if_neg (by simp), if_pos (by dsimp only; rw [h, hb]; rfl)]
theorem field_tell {ty : Int} {s : ByteArray} {y : Val} (h : ofO ty s = (y, 0)) : rightB u8B y = true ∧ hasB ty y.kind = true ∧ toF ty y = s ∧ y.rng := by
  unfold ofO at h
  by_cases h1 : (readO ty s).2 ≠ 0
  · rw [if_pos h1] at h
    exact absurd (Prod.mk.inj h).2 h1
  rw [if_neg h1] at h
  by_cases h2 : (rightB u8B (readO ty s).1 && hasB ty (readO ty s).1.kind) = true
  · rw [if_pos h2] at h
    have hy := (Prod.mk.inj h).1
    rw [hy] at h2
    simp only [Bool.and_eq_true] at h2
    obtain ⟨h2, h3⟩ := h2
    have h0 : (readO ty s).2 = 0 := by simpa using h1
    refine ⟨h2, h3, ?_⟩
    rw [toF_fits h2 h3]
    unfold readO at hy h0
    by_cases h16 : ty = 16
    · rw [if_pos h16] at hy h0
      rw [if_pos (.inl h16), ← hy]
      exact ⟨rfl, ⟨by decide, by decide⟩, trivial⟩
    · by_cases h8 : ty = 8
      · rw [if_neg h16, if_pos h8] at hy h0
        rw [if_pos (.inr h8), ← hy]
        exact ⟨rfl, ⟨by decide, by decide⟩, trivial⟩
      · rw [if_neg h16, if_neg h8] at hy h0
        rw [if_neg (fun e => e.elim h16 h8)]
        have := parse_spec (s := s) (v := y) (a := (parseO u8B s).2.1) (by rw [← hy, ← h0])
        exact this.2
  · rw [if_neg h2] at h
    have := (Prod.mk.inj h).2
    cases this
end Go.Proofs.YtdgjpncflkpjfaaDoor

/-! The laws CellFits, CellLists: what their functions answer. -/
set_option linter.unusedVariables false
set_option linter.unusedSimpArgs false
namespace Go.Proofs.YtdgjpncflkpjfaaDoor
open Aw

theorem vsame_refl {v : Val} (h : v.ok) : PureA Tryd.prog 10 [.agg v.ac, .agg v.ac] (.c (.v (.bool true))) := by
  have := vsame_pure v v h h
  rwa [decide_eq_true ((cmpV_zero v v).2 rfl)] at this
theorem str_refl (s : ByteArray) : (s.toList == s.toList) = true := beq_self_eq_true _
theorem slot_nil {a b c d e f : AC} {n : Nat} (hn : 0 < n) {r : List AV} (g : G) (vs : List Value) (h : RelVs g [] (.agg [a, b, c, d, e, f, .nil] :: r) vs) : RelVs g [] (.agg [a, b, c, d, e, f, .sl n []] :: r) vs := by
  match vs, h with
  | y :: ys, h => exact ⟨VLe.agg (xs := [a, b, c, d, e, f, .nil]) (ys := [a, b, c, d, e, f, .sl n []]) ⟨CLe.refl _, CLe.refl _, CLe.refl _, CLe.refl _, CLe.refl _, CLe.refl _, CLe.nil hn, trivial⟩ g y h.1, h.2⟩
theorem slot_nil2 {a b c d e f x y z : AC} {n m : Nat} (hn : 0 < n) (hm : 0 < m) {r : List AV} (g : G) (vs : List Value) (h : RelVs g [] (.agg [a, b, c, d, e, f, .nil] :: .agg [x, y, z, .nil] :: r) vs) : RelVs g [] (.agg [a, b, c, d, e, f, .sl n []] :: .agg [x, y, z, .sl m []] :: r) vs := by
  match vs, h with
  | u :: w :: ys, h => exact ⟨VLe.agg (xs := [a, b, c, d, e, f, .nil]) (ys := [a, b, c, d, e, f, .sl n []]) ⟨CLe.refl _, CLe.refl _, CLe.refl _, CLe.refl _, CLe.refl _, CLe.refl _, CLe.nil hn, trivial⟩ g u h.1, VLe.agg (xs := [x, y, z, .nil]) (ys := [x, y, z, .sl m []]) ⟨CLe.refl _, CLe.refl _, CLe.refl _, CLe.nil hm, trivial⟩ g w h.2.1, h.2.2⟩

/-! ### The document's examples -/
def symA : Val := ⟨3, 0, ⟨#[97]⟩, []⟩
theorem a1 : toJ symA = ⟨6, 0, ⟨#[]⟩, [⟨#[115, 121, 109]⟩], [⟨4, 0, ⟨#[97]⟩, [], []⟩]⟩ := by kernel_rfl
theorem a2 : jprintO ⟨6, 0, ⟨#[]⟩, [⟨#[115, 121, 109]⟩], [⟨4, 0, ⟨#[97]⟩, [], []⟩]⟩ = (⟨#[123, 34, 115, 121, 109, 34, 58, 34, 97, 34, 125]⟩, 0) := by kernel_rfl
theorem a3 : ofJO ⟨6, 0, ⟨#[]⟩, [⟨#[115, 121, 109]⟩], [⟨4, 0, ⟨#[97]⟩, [], []⟩]⟩ = (symA, 0) := by kernel_rfl
theorem a4 : ofO 16 ⟨#[110, 117, 108, 108]⟩ = (⟨4, 0, ⟨#[110, 117, 108, 108]⟩, []⟩, 0) := by kernel_rfl
theorem a5 : ofO 17 ⟨#[110, 117, 108, 108]⟩ = (⟨0, 0, ⟨#[]⟩, []⟩, 0) := by kernel_rfl
theorem a6 : toF 4 ⟨2, 5, ⟨#[]⟩, []⟩ = ⟨#[53]⟩ := by kernel_rfl
def symAJ : Jsn := ⟨6, 0, ⟨#[]⟩, [⟨#[115, 121, 109]⟩], [⟨4, 0, ⟨#[97]⟩, [], []⟩]⟩
theorem symAJ_ok : symAJ.ok := ⟨by decide, fun y hy => by simp at hy; subst hy; decide, leaf_ok (by decide), trivial⟩
theorem symAJ_rng : symAJ.rng := ⟨by decide, ⟨by decide, trivial⟩, trivial⟩
def im10 : List Nat := [5, 14]

set_option maxRecDepth 8000 in
set_option maxHeartbeats 2000000 in
theorem calive_calls (h : Heap) (T : Nat) (h0 : h 0 = some (plainH T)) : CallsA Tryd.prog 5 [] h fun e h' => e = .ret (.c (.v (.bool true))) ∧ h' = h := by
  refine callsA_of (D := D8 71 im10 [] [34, 38, 42, 46, 50, 55, 60, 65] []) ty_ok mixed Tryd.func5 rfl (by kernel_rfl) (by kernel_rfl) (by simp [D8]) ?_
  intro g vs hr
  clear hr
  have c1 := (toJson_pure symA (leaf_small (by decide)).1 (leaf_small (by decide)).2).args (nil_args (by decide))
  have c2 := jprint_pure symAJ symAJ_ok symAJ_rng (fun _ => by decide +kernel)
  have c3 := ofJson_same symAJ symAJ_ok (by decide +kernel) h T h0
  have c4 := (ofField_pure ⟨#[]⟩ 16 false zeroV ⟨#[110, 117, 108, 108]⟩ (by decide)).args (slot_nil (by decide))
  have c5 := (ofField_pure ⟨#[]⟩ 17 false zeroV ⟨#[110, 117, 108, 108]⟩ (by decide)).args (slot_nil (by decide))
  have c6 := (toField_pure ⟨#[]⟩ 4 false zeroV ⟨2, 5, ⟨#[]⟩, []⟩ (leaf_small (by decide)).1 (leaf_small (by decide)).2 ⟨by decide, trivial⟩).args (slot_nil2 (by decide) (by decide))
  rw [a1] at c1
  rw [show symAJ = ⟨6, 0, ⟨#[]⟩, [⟨#[115, 121, 109]⟩], [⟨4, 0, ⟨#[97]⟩, [], []⟩]⟩ from rfl, a2] at c2
  rw [show symAJ = ⟨6, 0, ⟨#[]⟩, [⟨#[115, 121, 109]⟩], [⟨4, 0, ⟨#[97]⟩, [], []⟩]⟩ from rfl, a3] at c3
  rw [a4] at c4
  rw [a5] at c5
  rw [a6] at c6
  simp only [jAV, pairAV, symA] at c1 c2 c3 c4 c5
  refine ⟨_, symbol_pure _, _, c1, ?_⟩
  refine ⟨_, c2, ?_⟩
  refine c3.mono ?_
  rintro e h' ⟨rfl, rfl⟩
  refine ⟨_, c4, ?_⟩
  refine ⟨_, c5, ?_⟩
  refine Br.mk (fun _ => ?_) (fun h => by simp at h)
  refine Br.mk (fun _ => ?_) (fun h => by simp at h)
  refine Br.mk (fun _ => ?_) (fun h => by simp at h)
  refine Br.mk (fun _ => ?_) (fun h => by simp at h)
  refine Br.mk (fun _ => ?_) (fun h => by simp at h)
  refine Br.mk (fun _ => ?_) (fun h => by simp at h)
  refine Br.mk (fun _ => ?_) (fun h => by simp at h)
  refine Br.mk (fun _ => ?_) (fun h => by simp at h)
  refine ⟨_, int_pure _, _, c6, ?_⟩
  exact ⟨ret_b (by simp), rfl⟩

/-! ### CellFits -/
set_option maxRecDepth 8000 in
set_option maxHeartbeats 2000000 in
theorem fitsLaw (nm : ByteArray) (ty : Int) (rq : Bool) (d v : Val) (s : ByteArray) (ht : -9223372036854775808 ≤ ty ∧ ty < 9223372036854775808) (hr : v.rng) (h : Heap) (T : Nat) (h0 : h 0 = some (plainH T)) :
    CallsA Tryd.prog 3 [.agg (slotC nm ty rq d), .agg v.ac, .c (.v (.string s))] h fun e h' => e = .ret (.c (.v (.bool true))) ∧ h' = h := by
  refine callsA_of (D := D8 68 im10 [] [15, 20, 38, 56, 60] []) ty_ok mixed Tryd.func3 rfl (by kernel_rfl) (by kernel_rfl) (by simp [D8]) ?_
  intro g vs hrv
  clear hrv
  have hgreat := great_pure v
  have hfits := fits_pure nm ty rq d v
  have htof := fun hd hn => toField_pure nm ty rq d v hd hn hr
  have hself := vsame_refl (v := v)
  have hoff := fun (h1 : rightB u8B v = true) (h2 : hasB ty v.kind = true) => ofField_pure nm ty rq d (toF ty v) (field_back h1 h2 hr).2
  have hof := fun (hs : s.size ≤ 500) => ofField_pure nm ty rq d s (by omega)
  have hto : ∀ (x : Val) (e : Int), ofO ty s = (x, e) → e = 0 → rightB u8B x = true ∧ hasB ty x.kind = true ∧ toF ty x = s ∧ x.rng := fun x e h1 h2 => by rw [h2] at h1; exact field_tell h1
  obtain ⟨O, hO⟩ : ∃ O, O = ofO ty s := ⟨_, rfl⟩
  rw [← hO] at hof hto
  obtain ⟨y, e⟩ := O
  have hto := hto y e rfl
  simp only [pairAV] at hof hoff
  have hrf := fun (h0 : 0 ≤ ty) hd hn => rfits_pure nm ty rq d y h0 ht.2 hd hn
  have htoy := fun hd hn hr => toField_pure nm ty rq d y hd hn hr
  rw [Val.ac_eq] at hgreat hfits htof hself ⊢
  rw [Val.ac_eq] at hrf htoy
  unfold slotC at hfits htof hoff hof hrf htoy ⊢
  refine (calive_calls h T h0).mono ?_
  rintro e1 h1 ⟨rfl, rfl⟩
  refine Br.mk (fun h => by cases h) (fun _ => ?_)
  refine ⟨_, hgreat, Br.mk (fun h1 => ⟨rfl, rfl⟩) (fun h1 => ?_)⟩
  obtain ⟨hn, hd⟩ := greatB_false h1
  refine Br.mk (fun h2 => ⟨rfl, rfl⟩) (fun h2 => ?_)
  have h2 := of_decide_eq_false h2
  refine Br.mk (fun h3 => ⟨rfl, rfl⟩) (fun h3 => ?_)
  have hs500 : s.size ≤ 500 := by have := of_decide_eq_false h3; omega
  refine ⟨_, hfits (by omega) (by omega), Br.mk (fun h4 => ?_) (fun h4 => ?_)⟩
  · have h4' := h4
    simp only [Bool.and_eq_true] at h4'
    have hoff := hoff h4'.1 h4'.2
    rw [(field_back h4'.1 h4'.2 hr).1] at hoff
    refine Pre.mk (by kernel_rfl) ?_
    refine ⟨_, htof (by omega) (by omega), _, hoff, ?_⟩
    refine Br.mk (fun h => by cases h) (fun _ => ?_)
    refine ⟨_, hself (right_ok h4'.1), ?_⟩
    refine Br.mk (fun h => by cases h) (fun _ => ?_)
    refine ⟨_, hof hs500, ?_⟩
    refine Br.mk (fun h5 => ⟨rfl, rfl⟩) (fun h5 => ?_)
    have he : e = 0 := by simpa using h5
    obtain ⟨r1, r2, r3, r4⟩ := hto he
    obtain ⟨q1, q2, q3⟩ := right_spec r1
    refine ⟨_, hrf (by omega) (by omega) (by omega), Br.mk (fun h6 => ?_) (fun h6 => ?_)⟩
    · refine ⟨_, htoy (by omega) (by omega) r4, ?_⟩
      exact ⟨ret_b (by rw [r3]; exact str_refl s), rfl⟩
    · rw [r1, r2] at h6; cases h6
  · have hz : toF ty v = ⟨#[]⟩ := by unfold toF; rw [if_neg (by rw [h4]; simp)]
    refine ⟨_, htof (by omega) (by omega), ?_⟩
    rw [hz]
    refine Br.mk (fun h => by simp at h) (fun _ => ?_)
    refine ⟨_, hof hs500, ?_⟩
    refine Br.mk (fun h5 => ⟨rfl, rfl⟩) (fun h5 => ?_)
    have he : e = 0 := by simpa using h5
    obtain ⟨r1, r2, r3, r4⟩ := hto he
    obtain ⟨q1, q2, q3⟩ := right_spec r1
    refine ⟨_, hrf (by omega) (by omega) (by omega), Br.mk (fun h6 => ?_) (fun h6 => ?_)⟩
    · refine ⟨_, htoy (by omega) (by omega) r4, ?_⟩
      exact ⟨ret_b (by rw [r3]; exact str_refl s), rfl⟩
    · rw [r1, r2] at h6; cases h6

/-! ### CellLists -/
theorem Aw.CallsA.args {P : Program} {f : Nat} {args args' : List AV} {h : Heap} {K : AEnd → Heap → Prop} (c : CallsA P f args h K) (hle : ∀ (g : G) vs, RelVs g [] args' vs → RelVs g [] args vs) : CallsA P f args' h K :=
  ⟨c.fn, fun g w vs hb hs hr => c.run g w vs hb hs (hle g vs hr)⟩
theorem jsn_nil {a b c d : AC} {r : List AV} (g : G) (vs : List Value) (h : RelVs g [] (.agg [a, b, c, .nil, d] :: r) vs) : RelVs g [] (.agg [a, b, c, .sl 1 (strR []), d] :: r) vs := by
  match vs, h with
  | y :: ys, h => exact ⟨VLe.agg (xs := [a, b, c, .nil, d]) (ys := [a, b, c, .sl 1 (strR []), d]) ⟨CLe.refl _, CLe.refl _, CLe.refl _, CLe.nil (by decide), CLe.refl _, trivial⟩ g y h.1, h.2⟩
theorem jsn_nil2 {x : AV} {a b c d : AC} {r : List AV} (g : G) (vs : List Value) (h : RelVs g [] (x :: .agg [a, b, c, .nil, d] :: r) vs) : RelVs g [] (x :: .agg [a, b, c, .sl 1 (strR []), d] :: r) vs := by
  match vs, h with
  | y :: ys, h => exact ⟨h.1, jsn_nil g ys h.2⟩

set_option maxRecDepth 8000 in
set_option maxHeartbeats 2000000 in
theorem clistsLaw (a : Val) (ha : a.rng) (b : Val) (hb : b.rng) (h : Heap) (T : Nat) (h0 : h 0 = some (plainH T)) :
    CallsA Tryd.prog 4 [.agg a.ac, .agg b.ac] h fun e h' => e = .ret (.c (.v (.bool true))) ∧ h' = h := by
  refine callsA_of (D := D8 70 im10 [] [13, 17, 22, 47, 50, 55] []) ty_ok mixed Tryd.func4 rfl (by kernel_rfl) (by kernel_rfl) (by simp [D8]) ?_
  intro g vs hrv
  clear hrv
  have hgreatA := great_pure a
  have hgreatB := great_pure b
  have hrightA := right_pure uvalid_ok a
  have hrightB := right_pure uvalid_ok b
  have hjA := toJson_pure a
  have hjB := toJson_pure b
  have htextA := text_pure a ha
  have hto63 := fun hd hn => (toField_pure ⟨#[]⟩ 63 false zeroV a hd hn ha).args (slot_nil (by decide))
  obtain ⟨x, hx⟩ : ∃ x : Val, x = ⟨5, 0, ⟨#[]⟩, [a, b]⟩ := ⟨_, rfl⟩
  have hxac : x.ac = [.v (.int .i64 5), .v (.int .i64 0), .v (.string ⟨#[]⟩), .sl 4 [[.v (.int .i64 a.kind), .v (.int .i64 a.n), .v (.string a.s), .sl 4 (Val.acs a.l)], [.v (.int .i64 b.kind), .v (.int .i64 b.n), .v (.string b.s), .sl 4 (Val.acs b.l)]]] := by
    rw [hx]
    show [AC.v (.int .i64 5), .v (.int .i64 0), .v (.string ⟨#[]⟩), .sl 4 [a.ac, b.ac]] = _
    rw [Val.ac_eq a, Val.ac_eq b]
  have hxn : x.nodes = 1 + (a.nodes + (b.nodes + 0)) := by rw [hx]; rfl
  have hxd : x.deep = max (max 0 a.deep) b.deep + 1 := by rw [hx, deep_def]; rfl
  have hrightX := right_pure uvalid_ok x
  have hselfX := vsame_refl (v := x)
  have hjX := toJson_pure x
  obtain ⟨y, hy⟩ : ∃ y : Jsn, y = ⟨5, 0, ⟨#[]⟩, [], [toJ a, toJ b]⟩ := ⟨_, rfl⟩
  have hyac : jAV y = .agg [.v (.int .i64 5), .v (.int .i64 0), .v (.string ⟨#[]⟩), .sl 1 (strR []), .sl 5 [[.v (.int .i64 (toJ a).kind), .v (.int .i64 (toJ a).n), .v (.string (toJ a).s), .sl 1 (strR (toJ a).names), .sl 5 (Jsn.acs (toJ a).l)], [.v (.int .i64 (toJ b).kind), .v (.int .i64 (toJ b).n), .v (.string (toJ b).s), .sl 1 (strR (toJ b).names), .sl 5 (Jsn.acs (toJ b).l)]]] := by
    rw [hy]
    show AV.agg [AC.v (.int .i64 5), .v (.int .i64 0), .v (.string ⟨#[]⟩), .sl 1 (strR []), .sl 5 [(toJ a).ac, (toJ b).ac]] = _
    rw [Jsn.ac_eq (toJ a), Jsn.ac_eq (toJ b)]
  have hofY := ofJson_same y
  have hsameY := jsame_pure y y
  rw [jsame_self, jAV_eq] at hsameY
  rw [hxac] at hrightX hselfX hjX
  rw [hyac] at hofY hsameY
  simp only [jAV] at hjA hjB
  rw [Val.ac_eq a] at hgreatA hrightA hjA htextA hto63 ⊢
  rw [Val.ac_eq b] at hgreatB hrightB hjB ⊢
  refine (calive_calls h T h0).mono ?_
  rintro e1 hh ⟨rfl, rfl⟩
  refine Br.mk (fun h => by cases h) (fun _ => ?_)
  refine ⟨_, hgreatA, Br.mk (fun h1 => ⟨rfl, rfl⟩) (fun h1 => ?_)⟩
  refine ⟨_, hgreatB, Br.mk (fun h2 => ⟨rfl, rfl⟩) (fun h2 => ?_)⟩
  obtain ⟨an, ad⟩ := greatB_false h1
  obtain ⟨bn, bd⟩ := greatB_false h2
  refine ⟨_, hrightA (by omega) (by omega), Br.mk (fun h3 => ⟨rfl, rfl⟩) (fun h3 => ?_)⟩
  refine ⟨_, hrightB (by omega) (by omega), Br.mk (fun h4 => ⟨rfl, rfl⟩) (fun h4 => ?_)⟩
  have h3 := not_f h3
  have h4 := not_f h4
  obtain ⟨sa1, sa2, sa3⟩ := right_spec h3
  obtain ⟨sb1, sb2, sb3⟩ := right_spec h4
  have hxp : x.parts u8B = true := by
    rw [hx, parts_def, partss_all]
    simp only [List.all_cons, List.all_nil, sa3, sb3]
    rfl
  have hP := thing_all x hxp
  have hyx : thingJ x = y := by
    rw [hx, thing_def, if_neg (show ¬ (5 : Int) = 3 by decide), things_map, hy]
    unfold toJ
    rw [h3, h4]; rfl
  have pr := hP.r
  have pg := hP.g
  have po := hP.o
  have pk := hP.k
  have pn := hP.n
  rw [hyx] at pr pg po pk pn
  have hyn : y.nodes < 1000000 := by omega
  have hofY := hofY pk hyn hh T h0
  have hO : ofJO y = if rightB u8B x = true then (x, 0) else (zeroV, if x.deep > 4 then 3 else 4) := by
    unfold ofJO
    rw [if_neg (by rw [pr]; simp), if_neg (by rw [pg]; simp), po]
    by_cases hd : x.deep > 4
    · rw [if_pos hd, if_neg (fun e => by have := (right_spec e).1; omega), if_pos hd]
    · rw [if_neg hd, if_neg hd]
      cases hrx : rightB u8B x with
      | true => rfl
      | false => rfl
  have hjX := hjX (by omega) (by omega)
  refine Pre.mk (by kernel_rfl) ?_
  refine ⟨_, hjA (by omega) (by omega), _, hjB (by omega) (by omega), ?_⟩
  have tail : rightB u8B a && hasB 63 a.kind = true := by rw [h3, has63 (parts_kind sa3)]; rfl
  have ht63 : toF 63 a = a.text := by rw [toF_fits h3 (has63 (parts_kind sa3)), if_neg (by decide)]
  have hto63 := hto63 (by omega) (by omega)
  rw [ht63] at hto63
  have hsz := right_size h3
  cases hrx : rightB u8B x with
  | true =>
    rw [hrx, if_pos rfl] at hO
    rw [hO] at hofY
    have htj : toJ x = y := by unfold toJ; rw [hrx, if_pos rfl, hyx]
    rw [htj, hyac] at hjX
    simp only [pairAV] at hofY
    have hxe : [AC.v (.int .i64 x.kind), .v (.int .i64 x.n), .v (.string x.s), .sl 4 (Val.acs x.l)] = [.v (.int .i64 5), .v (.int .i64 0), .v (.string ⟨#[]⟩), .sl 4 [[.v (.int .i64 a.kind), .v (.int .i64 a.n), .v (.string a.s), .sl 4 (Val.acs a.l)], [.v (.int .i64 b.kind), .v (.int .i64 b.n), .v (.string b.s), .sl 4 (Val.acs b.l)]]] := by rw [← hxac, Val.ac_eq]
    rw [hxe] at hofY
    refine (hofY.args jsn_nil).mono ?_
    rintro e1 h5 ⟨rfl, rfl⟩
    refine Pre.mk (by kernel_rfl) ?_
    refine ⟨_, hrightX (by omega) (by omega), ?_⟩
    rw [hrx]
    refine Br.mk (fun h => by cases h) (fun _ => ?_)
    refine Br.mk (fun _ => ?_) (fun h => by cases h)
    refine ⟨_, hselfX (right_ok hrx), ?_⟩
    refine Br.mk (fun h => by cases h) (fun _ => ?_)
    refine ⟨_, hjX, _, hsameY.args jsn_nil2, ?_⟩
    refine Br.mk (fun h => by cases h) (fun _ => ?_)
    refine Pre.mk (by kernel_rfl) ?_
    refine ⟨_, hto63, _, htextA (by omega), ?_⟩
    exact ⟨ret_b (str_refl _), rfl⟩
  | false =>
    rw [hrx, if_neg (by simp)] at hO
    obtain ⟨e, he, hne⟩ : ∃ e : Int, e = (if x.deep > 4 then 3 else 4) ∧ e ≠ 0 := ⟨_, rfl, by split <;> decide⟩
    rw [← he] at hO
    rw [hO] at hofY
    simp only [pairAV, zeroV] at hofY
    have hbe : (e == 0) = false := by simpa using hne
    refine (hofY.args jsn_nil).mono ?_
    rintro e1 h5 ⟨rfl, rfl⟩
    refine Pre.mk (by kernel_rfl) ?_
    refine ⟨_, hrightX (by omega) (by omega), ?_⟩
    rw [hrx]
    refine Br.mk (fun h => by rw [hbe] at h; cases h) (fun _ => ?_)
    refine Br.mk (fun h => by rw [hbe] at h; cases h) (fun _ => ?_)
    refine Pre.mk (by kernel_rfl) ?_
    refine ⟨_, hto63, _, htextA (by omega), ?_⟩
    exact ⟨ret_b (str_refl _), rfl⟩
end Go.Proofs.YtdgjpncflkpjfaaDoor

/-! An api.Slot argument; a walk where a package-level variable is read. -/
set_option linter.unusedVariables false
set_option linter.unusedSimpArgs false
namespace Go.Proofs.YtdgjpncflkpjfaaDoor
open Aw

set_option maxRecDepth 4000 in
theorem open_slot {H : Type} {enc : TypeId × Value → H} {w : World} (fuel : Nat) (cs : List Value) (x : DataW H × List MemPlace) (h : DataW.trod enc Tryd.prog w 0 (fun _ => true) true fuel 26 cs = some x) (hw : ∀ n ∈ x.1.weights Tryd.prog 26, n ≤ reachBytes) :
    ∃ (nm : ByteArray) (ty : Int) (rq : Bool) (d : Val), All2 (Rel (imW w)) (slotC nm ty rq d) cs ∧ -9223372036854775808 ≤ ty ∧ ty < 9223372036854775808 := by
  obtain ⟨xs, n, rfl, rfl, hcl, hxl, hf⟩ := DataW.trod_struct Tryd.underlying26 h
  have c26 : Tryd.prog.cellsOf 26 = 7 := by kernel_rfl
  have c25 : Tryd.prog.cellsOf 24 = 4 := by kernel_rfl
  have c3 : Tryd.prog.cellsOf 3 = 1 := by kernel_rfl
  have c4 : Tryd.prog.cellsOf 4 = 1 := by kernel_rfl
  have c9 : Tryd.prog.cellsOf 9 = 1 := by kernel_rfl
  rw [c26] at hcl
  match cs, hcl with
  | [y0, y1, y2, y3, y4, y5, y6], _ =>
  have hxl : xs.length = 4 := hxl
  match xs, hxl with
  | [x0, x1, x2, x3], _ =>
  have f0 : DataW.trod enc Tryd.prog w 0 (fun _ => true) true n 9 (([y0, y1, y2, y3, y4, y5, y6].drop 0).take (Tryd.prog.cellsOf 9)) = some x0 := hf 0 _ rfl
  have f1 : DataW.trod enc Tryd.prog w 0 (fun _ => true) true n 3 (([y0, y1, y2, y3, y4, y5, y6].drop 1).take (Tryd.prog.cellsOf 3)) = some x1 := hf 1 _ rfl
  have f2 : DataW.trod enc Tryd.prog w 0 (fun _ => true) true n 4 (([y0, y1, y2, y3, y4, y5, y6].drop 2).take (Tryd.prog.cellsOf 4)) = some x2 := hf 2 _ rfl
  have f3 : DataW.trod enc Tryd.prog w 0 (fun _ => true) true n 24 (([y0, y1, y2, y3, y4, y5, y6].drop 3).take (Tryd.prog.cellsOf 24)) = some x3 := hf 3 _ rfl
  rw [c9] at f0; rw [c3] at f1; rw [c4] at f2; rw [c25] at f3
  obtain ⟨s, hs, e0, w0⟩ := DataW.trod_string Tryd.underlying9 f0
  obtain ⟨k, hk, e1, w1⟩ := DataW.trod_int Tryd.underlying3 f1
  obtain ⟨b, hb, e2⟩ := DataW.trod_bool Tryd.underlying4 f2
  have hs2 : y0 = .string s := by simpa using hs
  have hk2 : y1 = .int .i64 k := by simpa using hk
  have hb2 : y2 = .bool b := by simpa using hb
  clear hk hs hb
  subst hs2 hk2 hb2
  have hwe : ∀ q ∈ DataW.weightsEach Tryd.prog [9, 3, 4, 24] [x0.1, x1.1, x2.1, x3.1], q ≤ reachBytes := fun q hq => hw q (by
    show q ∈ DataW.weights Tryd.prog 26 (.agg [x0.1, x1.1, x2.1, x3.1])
    unfold DataW.weights
    rw [Tryd.underlying26]
    exact hq)
  obtain ⟨d, hd, _⟩ := open_val n n (Nat.le_refl _) _ _ f3 fun q hq => hwe q (DataW.weights_mem_each (j := 3) rfl rfl q hq)
  rw [Val.ac_eq] at hd
  exact ⟨s, k, b, d, ⟨.v _ rfl, .v _ rfl, .v _ rfl, hd⟩, wf_rng w1⟩

/-! ### The variable's block -/
/-- All of memory but block 0 is known. -/
def imZ (w : World) : Im := fun b k => if b = 0 then none else w.cell? ⟨b, k, none⟩
def Bools (w : World) : Prop := ∀ k x, w.cell? ⟨0, k, none⟩ = some x → ∃ t, x = .bool t
theorem acs_away {w : World} (hb : Bools w) (m : Nat) : ∀ (v : Val), SizeOf.sizeOf v ≤ m → ∀ cs, All2 (Rel (imW w)) v.ac cs → All2 (Rel (imZ w)) v.ac cs := by
  induction m with
  | zero => intro v hm; cases v; simp at hm
  | succ m ih =>
    intro v hm cs h
    rw [Val.ac_eq] at h ⊢
    match cs, h with
    | [y0, y1, y2, y3], ⟨h0, h1, h2, h3, _⟩ =>
      refine ⟨by cases h0; exact .v _ rfl, by cases h1; exact .v _ rfl, by cases h2; exact .v _ rfl, ?_, trivial⟩
      have hrow : ∀ (i : Nat) (r : List AC), (Val.acs v.l)[i]? = some r → ∃ x : Val, v.l[i]? = some x ∧ r = x.ac := fun i r hr => by
        rw [Val.acs_eq, List.getElem?_map] at hr
        cases hx : v.l[i]? with
        | none => rw [hx] at hr; cases hr
        | some x => rw [hx] at hr; exact ⟨x, rfl, (Option.some.inj hr).symm⟩
      cases h3 with
      | sl sz rows A c f g0 g1 g2 g3 g4 g5 =>
        have all : ∀ (i : Nat) (r : List AC) (x : Val), (Val.acs v.l)[i]? = some r → v.l[i]? = some x → r = x.ac → All2 (Rel (imZ w)) x.ac [f i 0, f i 1, f i 2, f i 3] := fun i r x hr hx e => by
          have hmem : x ∈ v.l := List.mem_of_getElem? hx
          refine ih x (by have := Val.size_mem hmem; omega) _ ?_
          have e2 := Val.ac_eq x
          rw [← e] at e2
          have q : ∀ k y, r[k]? = some y → Rel (imW w) y (f i k) := fun k y hy => g5 i r k y hr hy
          rw [e2] at q
          rw [Val.ac_eq]
          exact ⟨q 0 _ rfl, q 1 _ rfl, q 2 _ rfl, q 3 _ rfl, trivial⟩
        refine .sl 4 (Val.acs v.l) A c f g0 g1 g2 g3 (fun i r k y hr hy => ?_) (fun i r k y hr hy => ?_)
        · obtain ⟨x, hx, e⟩ := hrow i r hr
          obtain ⟨b, off, e1, e2⟩ := g4 i r k y hr hy
          refine ⟨b, off, e1, ?_⟩
          have hrel := g5 i r k y hr hy
          by_cases e0 : b = 0
          · subst e0
            obtain ⟨t, ht⟩ := hb _ _ e2
            rw [ht] at hrel
            rw [e, Val.ac_eq] at hy
            match k, hy with
            | 0, hy => cases hy; cases hrel
            | 1, hy => cases hy; cases hrel
            | 2, hy => cases hy; cases hrel
            | 3, hy => cases hy; cases hrel
          · show (if b = 0 then none else w.cell? _) = _
            rw [if_neg e0]; exact e2
        · obtain ⟨x, hx, e⟩ := hrow i r hr
          have h4 := all i r x hr hx e
          rw [e] at hy
          rw [Val.ac_eq] at hy h4
          match k, hy with
          | 0, hy => cases hy; exact h4.1
          | 1, hy => cases hy; exact h4.2.1
          | 2, hy => cases hy; exact h4.2.2.1
          | 3, hy => cases hy; exact h4.2.2.2.1
theorem val_away {w : World} (hb : Bools w) {v : Val} {cs : List Value} (h : All2 (Rel (imW w)) v.ac cs) : All2 (Rel (imZ w)) v.ac cs := acs_away hb _ v (Nat.le_refl _) cs h
theorem slot_away {w : World} (hb : Bools w) {nm : ByteArray} {ty : Int} {rq : Bool} {d : Val} {cs : List Value} (h : All2 (Rel (imW w)) (slotC nm ty rq d) cs) : All2 (Rel (imZ w)) (slotC nm ty rq d) cs := by
  match cs, h with
  | [y0, y1, y2, y3, y4, y5, y6], ⟨h0, h1, h2, hd⟩ =>
    have hd' : All2 (Rel (imW w)) d.ac [y3, y4, y5, y6] := by rw [Val.ac_eq]; exact hd
    have := val_away hb hd'
    rw [Val.ac_eq] at this
    exact ⟨by cases h0; exact .v _ rfl, by cases h1; exact .v _ rfl, by cases h2; exact .v _ rfl, this⟩
theorem relZ_val {w : World} {v : Val} {y : Value} (h : All2 (Rel (imZ w)) v.ac y.cells.toList) (g : G) (hg : g.I = imZ w) : RelV g [] (.agg v.ac) y := by
  have hl := h.length
  rw [Val.ac_eq] at hl
  cases y with
  | agg xs => exact ⟨xs.toList, by simp, (by rw [← hg] at h; exact h : All2 (Rel g.I) v.ac xs.toList).toT⟩
  | _ => simp [Value.cells] at hl
theorem relZ_slot {w : World} {nm : ByteArray} {ty : Int} {rq : Bool} {d : Val} {y : Value} (h : All2 (Rel (imZ w)) (slotC nm ty rq d) y.cells.toList) (g : G) (hg : g.I = imZ w) : RelV g [] (.agg (slotC nm ty rq d)) y := by
  have hl := h.length
  unfold slotC at hl
  cases y with
  | agg xs => exact ⟨xs.toList, by simp, (by rw [← hg] at h; exact h : All2 (Rel g.I) (slotC nm ty rq d) xs.toList).toT⟩
  | _ => simp [Value.cells] at hl

/-- The variable's block as it lies. -/
def Plain (w : World) (T : Nat) : Prop := w.heap[0]? = some (.cells #[.bool true, .bool true, .bool true, .bool false, .bool true, .bool true, .bool false] T (0, 0))
theorem Plain.bools {w : World} {T : Nat} (h : Plain w T) : Bools w := fun k x hx => by
  unfold World.cell? at hx
  rw [show w.heap[(⟨0, k, none⟩ : Addr).block]? = _ from h] at hx
  have hx : (#[Value.bool true, .bool true, .bool true, .bool false, .bool true, .bool true, .bool false] : Array Value)[k]? = some x := by simpa using hx
  match k, hx with
  | 0, hx => exact ⟨_, (Option.some.inj hx).symm⟩
  | 1, hx => exact ⟨_, (Option.some.inj hx).symm⟩
  | 2, hx => exact ⟨_, (Option.some.inj hx).symm⟩
  | 3, hx => exact ⟨_, (Option.some.inj hx).symm⟩
  | 4, hx => exact ⟨_, (Option.some.inj hx).symm⟩
  | 5, hx => exact ⟨_, (Option.some.inj hx).symm⟩
  | 6, hx => exact ⟨_, (Option.some.inj hx).symm⟩
  | k + 7, hx => simp at hx
theorem plain_ys {I : Im} : ∀ {ys : List Value}, All2 (Rel I) plainC ys → ys = [.bool true, .bool true, .bool true, .bool false, .bool true, .bool true, .bool false]
  | [_, _, _, _, _, _, _], ⟨h0, h1, h2, h3, h4, h5, h6, _⟩ => by cases h0; cases h1; cases h2; cases h3; cases h4; cases h5; cases h6; rfl
theorem glob_walk {f : Nat} {args : List AV} {vs : List Value} {T : Nat} (hp : ∀ h : Heap, h 0 = some (plainH T) → CallsA Tryd.prog f args h fun e h' => e = .ret (.c (.v (.bool true))) ∧ h' = h) (w : World) (hpl : Plain w T) (hr : ∀ g : G, g.I = imZ w → RelVs g [] args vs) :
    Calls Tryd.prog f vs.toArray w fun e w' => e = .returned (.bool true) ∧ RowKit.Below w.heap.size w w' := by
  let g : G := { I := imZ w, role := fun b => if b = 0 then .glob 0 else .imm, bl := [], tk := [], fr := ⟨0, none, 0, []⟩ }
  have hlt : 0 < w.heap.size := (Array.getElem?_eq_some_iff.1 hpl).1
  have hI : ∀ b k x, g.I b k = some x → b ≠ 0 ∧ w.cell? ⟨b, k, none⟩ = some x := fun b k x h => by
    have h : (if b = 0 then none else w.cell? ⟨b, k, none⟩) = some x := h
    split at h
    · cases h
    · rename_i e; exact ⟨e, h⟩
  have hs : Sim g w ⟨[], [], oneH 0 (plainH T)⟩ := by
    constructor
    · intro b k x h; exact (hI b k x h).2
    · intro b k x h; exact .inl (if_neg (hI b k x h).1)
    · intro b h; exact if_neg (by omega)
    · intro n b h; simp [g] at h
    · rfl
    · intro n b T cs h; simp [g] at h
    · rfl
    · intro n v e sz len h; simp [g] at h
    · intro b ho h
      have h : (if b = 0 then some (plainH T) else none) = some ho := h
      split at h
      · rename_i e
        subst e
        cases h
        exact ⟨hlt, (show (if (0 : Nat) = 0 then Role.glob 0 else Role.imm) = Role.glob 0 from if_pos rfl), _, hpl, .v _ rfl, .v _ rfl, .v _ rfl, .v _ rfl, .v _ rfl, .v _ rfl, .v _ rfl, trivial⟩
      · cases h
  refine ((hp (oneH 0 (plainH T)) (if_pos rfl)).run g w vs ⟨rfl, rfl, fun b => by
    show (if b = 0 then Role.glob 0 else .imm).plain
    split
    · exact .inr (.inl ⟨_, rfl⟩)
    · exact .inl rfl⟩ hs (hr g rfl)).mono ?_
  rintro e w' ⟨g', r, h', h1, h2, h3, h4, rfl, rfl⟩
  cases e with
  | returned v =>
    have h4 : Rel g'.I _ _ := h4
    refine ⟨by cases h4; rfl, ⟨h2.os, h2.tape, h2.output, h2.size, fun k hk => ?_⟩⟩
    by_cases e : k = 0
    · subst e
      obtain ⟨_, _, ys, k1, k2⟩ := h3.glob 0 (plainH T) (show (if (0 : Nat) = 0 then some (plainH T) else none) = some (plainH T) from if_pos rfl)
      rw [k1, plain_ys k2]
      exact hpl.symm
    · exact (h2.imm k hk (if_neg e)).1
  | _ => exact h4.elim

/-! ### What the row lists -/
def laidL : List (String × DataW Unit) := [("douane/cell.plain", .agg [.lit (.bool true), .lit (.bool true), .lit (.bool true), .lit (.bool false), .lit (.bool true), .lit (.bool true), .lit (.bool false)])]
theorem gPlain : Tryd.prog.globalNamed "douane/cell.plain" = some 0 := by kernel_rfl
theorem tPlain : (Tryd.prog.globals[0]?).map (·.type) = some 54 := by kernel_rfl
theorem of_laid {W : World} (h : laidMetH Tryd.prog laidL W) : ∃ T, Plain W T := by
  have h : laidMet Tryd.prog laidL W := h
  obtain ⟨ps, ⟨g0, t0, cs0, f0, p0, q0, hg0, ht0, hv0, hd0, _, hps⟩, _, hin⟩ := h
  obtain rfl := Option.some.inj (gPlain.symm.trans hg0)
  obtain rfl := Option.some.inj (tPlain.symm.trans ht0)
  obtain ⟨xs, m1, rfl, hx1, hlen, hn3, hel⟩ := DataW.trod_array Tryd.underlying54 hd0
  have c4 : Tryd.prog.cellsOf 4 = 1 := by kernel_rfl
  have c54 : Tryd.prog.cellsOf 54 = 7 := by kernel_rfl
  rw [c54] at hlen
  have hin0 : MemPlace.cell 0 0 ∈ ps := by
    rw [hps, List.append_assoc]
    refine List.mem_append_left _ ?_
    have : cs0.size = 7 := by rw [← hlen]; simp
    rw [this]
    decide
  obtain ⟨⟨c, t, hblk⟩, _⟩ := hin 0 0 hin0
  refine ⟨t, ?_⟩
  have hc : cs0 = c := by
    simp only [World.var?, gPlain, Option.bind_some, hblk] at hv0
    exact (Option.some.inj hv0).symm
  subst hc
  simp only [Prod.mk.injEq, DataW.agg.injEq] at hx1
  have hcell : ∀ i (hi : i < 7) (t : Bool), (xs[i]?).map (fun x => x.1) = some (.lit (.bool t)) → cs0.toList[i]? = some (.bool t) := fun i hi t ht => by
    have h0 := hel i hi
    cases hx : xs[i]? with
    | none => rw [hx] at ht; cases ht
    | some x =>
      rw [hx] at ht h0
      rw [c4] at h0
      obtain ⟨b, e1, e2⟩ := DataW.trod_bool Tryd.underlying4 h0
      have hb : b = t := by
        have ht : x.1 = .lit (.bool t) := Option.some.inj ht
        have e3 : (DataW.lit (Lit.bool b) : DataW Unit) = .lit (.bool t) := by rw [← ht, e2]
        exact Lit.bool.inj (DataW.lit.inj e3)
      subst hb
      rw [Nat.mul_one] at e1
      have e4 : ((cs0.toList.drop i).take 1)[0]? = cs0.toList[i]? := by rw [List.getElem?_take_of_lt (by decide), List.getElem?_drop, Nat.add_zero]
      rw [← e4, e1]; rfl
  have hm : ∀ i : Nat, (xs[i]?).map (fun x => x.1) = (xs.map (fun x => x.1))[i]? := fun i => by rw [List.getElem?_map]
  have q := fun i hi t e => hcell i hi t (by rw [hm, ← hx1.1]; exact e)
  have hl : cs0.toList = [.bool true, .bool true, .bool true, .bool false, .bool true, .bool true, .bool false] := by
    match hcl : cs0.toList, hlen with
    | [a0, a1, a2, a3, a4, a5, a6], _ =>
      have r0 := q 0 (by decide) true rfl
      have r1 := q 1 (by decide) true rfl
      have r2 := q 2 (by decide) true rfl
      have r3 := q 3 (by decide) false rfl
      have r4 := q 4 (by decide) true rfl
      have r5 := q 5 (by decide) true rfl
      have r6 := q 6 (by decide) false rfl
      rw [hcl] at r0 r1 r2 r3 r4 r5 r6
      simp only [List.getElem?_cons_zero, List.getElem?_cons_succ, Option.some.injEq] at r0 r1 r2 r3 r4 r5 r6
      subst r0 r1 r2 r3 r4 r5 r6
      rfl
  have hc : cs0 = #[.bool true, .bool true, .bool true, .bool false, .bool true, .bool true, .bool false] := Array.ext' hl
  unfold Plain
  rw [hblk, hc]
theorem door_met (os : Os) (args : Array Value) : laidMetH Tryd.prog laidL ((World.doorLaid Tryd.prog 400 os).forCall (fun _ _ => 0) ⟨#[], args, []⟩).memory :=
  laidMetH_of_parts3 (fuel := 8) (laidMet_of_run' 8 (by kernel_rfl) (by kernel_rfl)) (by kernel_rfl) (by kernel_rfl)
end Go.Proofs.YtdgjpncflkpjfaaDoor
