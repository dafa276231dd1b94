/- num.digits and what it hands on; slices.Reverse at bytes. The contract of slices.Reverse at bytes that are shared. The contract of num.Print. -/
import Derived.Test.YtdgjpncflkpjfaaDoorV29
/-! num.digits and what it hands on; slices.Reverse at bytes. -/
set_option linter.unusedVariables false
set_option linter.unusedSimpArgs false
namespace Go.Proofs.YtdgjpncflkpjfaaDoor
open Aw

/-- With functions that are not pure, boxes that are shared, raw slices, boxes that are never dropped. -/
noncomputable def D7 (nt : Nat) (im esc gd raw : List Nat) (floor : Nat) : Cfg2 := { P := Tryd.prog, ty := ty, nt := nt, pure := fun f => !im.any (Nat.beq f), esc := fun t => esc.any (Nat.beq t), lload := fun _ => false, gd := fun t => gd.any (Nat.beq t), raw := raw, floor := floor }

def digs : Nat → Nat → List Nat
  | 0, n => [48 + n % 10]
  | f + 1, n => (48 + n % 10) :: (if n < 10 then [] else digs f (n / 10))
def digAV (c : Nat) : List AV := [.c (.v (.int .u8 (c : Nat)))]
def fnV (f b : Nat) : Value := .func (.func f) #[] #[.pointer (some ⟨b, 0, none⟩)]
def u64C (n : Nat) : HO := .cells 81 [.v (.int .u64 (n : Nat))]
def oneH (b : Nat) (x : HO) : Heap := fun q => if q = b then some x else none

theorem digits_calls (n : Nat) (h : Heap) : CallsA Tryd.prog 57 [.c (.v (.int .u64 (n : Nat)))] h fun e h' => ∃ b, h b = none ∧ e = .ret (.c (.v (fnV 73 b))) ∧ h' = upd h b (u64C n) := by
  refine callsA_of (D := D7 4 [] [1] [] [] 0) ty_ok mixed Tryd.func57 rfl (by kernel_rfl) (by kernel_rfl) (by simp [D7]) ?_
  intro g vs hr
  clear hr
  intro b hb
  exact ⟨b, hb, rfl, rfl⟩

theorem digs_ne (f n : Nat) : ∃ d l, digs f n = d :: l ∧ d = 48 + n % 10 := by cases f <;> exact ⟨_, _, rfl, rfl⟩

theorem digits1_seq (b n f : Nat) (hn : n < 18446744073709551616) (hf : n < 10 ^ (f + 1)) : SeqA Tryd.prog 73 [.c (.v (.pointer (some ⟨b, 0, none⟩)))] ((digs f n).map digAV) (oneH b (u64C n)) := by
  refine seqA_ofS (D := D7 16 [] [] [10] [] 0) Tryd.func73 rfl (by kernel_rfl) (by kernel_rfl) (by simp [D7]) rfl ?_
  intro g vs cb hr hP hI h hh hoth hln
  clear hr
  have hbl : b ≠ cb.l := fun e => by subst e; simp [oneH] at hln
  have hb0 : h b = some (u64C n) := by rw [hoth b hbl]; simp [oneH]
  obtain ⟨items, hit⟩ : ∃ items, items = (digs f n).map digAV := ⟨_, rfl⟩
  rw [← hit] at hI ⊢
  refine Awp.of ty_ok mixed ?_
  refine LoopA.mk ⟨⟨[0, 1], 0, 0⟩, fun r st => ∃ (f m k : Nat) (h' : Heap) (pre : List (List AV)), st = ⟨[(0, .c (.v (.func (.yield cb.l) #[] #[]))), (1, .c (.v (.pointer (some ⟨b, 0, none⟩))))], ⟨[], [], h'⟩⟩ ∧ r = f ∧ m < 18446744073709551616 ∧ m < 10 ^ (f + 1) ∧ h' cb.l = some (.seq cb true k) ∧ h' b = some (u64C m) ∧ items = pre ++ (digs f m).map digAV ∧ pre.length = k,
    ⟨rfl, f, _, .refl _ _, f, n, 0, _, [], rfl, rfl, hn, hf, hh, hb0, hit, rfl⟩, ?_⟩
  rintro r _ ⟨f, m, k, h', pre, rfl, rfl, hm, hmf, hk, hb, hpre, hlen⟩
  have hend : ∀ k', k' ≤ items.length → ∀ h'' : Heap, h'' cb.l = some (.seq cb false k') → ∃ x k, h'' cb.l = some (.seq cb x k) ∧ k ≤ items.length ∧ (x = true → k = items.length) := fun k' h1 h'' h2 => ⟨false, k', h2, h1, fun h => by cases h⟩
  obtain ⟨d, l, hd, hdv⟩ := digs_ne r m
  have hat : cb.items[k]? = some (digAV d) := by rw [hI, hpre, ← hlen, hd]; simp
  have hklt : k + 1 ≤ items.length := by rw [hpre, ← hlen, hd]; simp
  have hlast : m < 10 → items.length = k + 1 := fun h => by
    rw [hpre, ← hlen]
    cases r with
    | zero => simp [digs]
    | succ r => simp [digs, h]
  have hval : IntKind.u8.wrap (IntKind.u64.wrap (48 + ((m : Nat) : Int).tmod 10)) = (d : Int) := by
    have : ((m : Nat) : Int).tmod 10 = ((m % 10 : Nat) : Int) := by rw [Int.tmod_eq_emod_of_nonneg (by omega)]; omega
    rw [this, wrapu64 (by omega) (by omega), wrapu8 (by omega) (by omega)]; omega
  have hb2 : ∀ y, upd (noseq h') cb.l y b = some (u64C m) := fun y => by rw [upd_ne _ _ hbl]; unfold noseq; rw [hb]; rfl
  refine ⟨_, _, hb, ?_⟩
  refine Pre.mk (by decide) ?_
  refine ⟨cb, k, _, ⟨hk, hP, hat, fun g ys hy => by show RelVs g.pub [] [.c (.v (.int .u8 (d : Int)))] ys; rw [← hval]; exact hy⟩, ?_, ?_⟩
  · refine ⟨_, _, hb2 _, ?_⟩
    refine Br.mk (fun h2 => ?_) (fun h2 => ?_)
    · have h2 := of_decide_eq_true h2
      exact ⟨true, k + 1, upd_same _ _ _, hklt, fun _ => (hlast (by omega)).symm⟩
    · have h2 := of_decide_eq_false h2
      have h10 : ¬ m < 10 := by omega
      have hw : IntKind.u64.wrap (((m : Nat) : Int).tdiv 10) = ((m / 10 : Nat) : Int) := by
        have : ((m : Nat) : Int).tdiv 10 = ((m / 10 : Nat) : Int) := by rw [Int.tdiv_eq_ediv_of_nonneg (by omega)]; omega
        rw [this, wrapu64 (by omega) (by omega)]
      obtain ⟨f, rfl⟩ : ∃ f', r = f' + 1 := by
        cases r with
        | zero => simp at hmf; omega
        | succ f => exact ⟨f, rfl⟩
      have hdl : digs (f + 1) m = d :: digs f (m / 10) := by
        have : digs (f + 1) m = (48 + m % 10) :: (if m < 10 then [] else digs f (m / 10)) := rfl
        rw [this, if_neg h10, hdv]
      rw [hdl] at hpre
      refine ⟨_, _, hb2 _, ?_⟩
      refine Pre.mk (by decide) ?_
      refine ⟨_, _, hb2 _, by show 1 ≤ 1; decide, ?_⟩
      refine ⟨rfl, f, by omega, _, .refl _ _, f, m / 10, k + 1, _, pre ++ [digAV d], rfl, rfl, by omega, ?_, ?_, ?_, by rw [hpre]; simp, by simp [hlen]⟩
      · have : 10 ^ (f + 1 + 1) = 10 ^ (f + 1) * 10 := rfl
        omega
      · exact (upd_ne _ _ (Ne.symm hbl)).trans (upd_same _ _ _)
      · exact (upd_same _ _ _).trans (congrArg (fun z => some (HO.cells 81 [AC.v (Value.int .u64 z)])) hw)
  · exact hend (k + 1) hklt _ (upd_same _ _ _)
end Go.Proofs.YtdgjpncflkpjfaaDoor

/-! The contract of slices.Reverse at bytes that are shared. -/
set_option linter.unusedVariables false
set_option linter.unusedSimpArgs false
namespace Go.Proofs.YtdgjpncflkpjfaaDoor
open Aw

theorem forceL_mk {α : Type} {xs : List α} {k : List α → Prop} (h : k xs) : forceL xs k := by rw [forceL_eq]; exact h
theorem loadOf_at {i : TI} {cs : List AC} {off : Nat} {x : AC} {k : AV → Prop} (hi : i.agg = false) (hx : cs[off]? = some x) (hk : k (.c x)) : loadOf i (cs.drop off) k := by
  unfold loadOf
  rw [if_neg (by rw [hi]; simp)]
  obtain ⟨h1, h2⟩ := List.getElem?_eq_some_iff.1 hx
  rw [List.drop_eq_getElem_cons h1, h2]
  exact hk
theorem setR_one : ∀ (cs : List AC) (off : Nat) (x : AC), setR cs off [x] = cs.set off x
  | [], off, x => by cases off <;> rfl
  | c :: cs, 0, x => by simp only [setR, List.set_cons_zero]
  | c :: cs, n + 1, x => by simp only [setR, List.set_cons_succ, setR_one cs n x]
def byteC (c : Int) : AC := .v (.int .u8 c)
theorem byteC_get {L : List Int} {pad : List AC} {i : Nat} {x : Int} (h : L[i]? = some x) : (L.map byteC ++ pad)[i]? = some (byteC x) := by
  have hl := (List.getElem?_eq_some_iff.1 h).1
  rw [List.getElem?_append_left (by simpa using hl), List.getElem?_map, h]; rfl
theorem byteC_set {L : List Int} {pad : List AC} {i : Nat} {x : Int} (h : i < L.length) : setR (L.map byteC ++ pad) i [byteC x] = (L.set i x).map byteC ++ pad := by
  rw [setR_one, List.set_append_left _ _ (by simpa using h), List.map_set]

theorem byteC_at {L : List Int} {pad : List AC} {off i : Nat} {x : Int} (e : off = i) (h : L[i]? = some x) : (L.map byteC ++ pad)[off]? = some (byteC x) := by rw [e]; exact byteC_get h
theorem byteC_setAt {L : List Int} {pad : List AC} {off i : Nat} {x : Int} (e : off = i) (h : i < L.length) : setR (L.map byteC ++ pad) off [byteC x] = (L.set i x).map byteC ++ pad := by rw [e]; exact byteC_set h

set_option maxRecDepth 4000 in
theorem reverse_calls (q n cap T : Nat) (L : List Int) (pad : List AC) (h : Heap) (hh : h q = some (.cells T (L.map byteC ++ pad))) (hn : L.length = n) (h64 : n < 1000000000) :
    CallsA Tryd.prog 58 [.c (.v (.slice (some ⟨q, 0, none⟩) n cap))] h fun e h' => e = .ret (.tup []) ∧ h' q = some (.cells T (L.reverse.map byteC ++ pad)) ∧ ∀ b, b ≠ q → h' b = h b := by
  refine callsA_of (D := D1 28 [] [] []) ty_ok mixed Tryd.func58 rfl (by kernel_rfl) (by kernel_rfl) (by simp [D1]) ?_
  intro g vs hr
  clear hr
  refine LoopA.mk ⟨⟨[0, 2, 3], 0, 0⟩, fun r st => ∃ (i : Nat) (x j : Int) (L' : List Int) (h' : Heap), st = ⟨[(0, .c (.v (.slice (some ⟨q, 0, none⟩) n cap))), (2, .c (.v (.int .i64 x))), (3, .c (.v (.int .i64 j)))], ⟨[], [], h'⟩⟩ ∧ r = n - i ∧ x = i ∧ j = (n : Int) - 1 - i ∧ 2 * i ≤ n ∧ L'.length = n ∧
    (∀ k, k < n → L'[k]? = if k < i ∨ n - 1 - i < k then L[n - 1 - k]? else L[k]?) ∧ h' q = some (.cells T (L'.map byteC ++ pad)) ∧ ∀ b, b ≠ q → h' b = h b,
    ⟨rfl, n, _, .refl _ _, 0, _, _, L, h, rfl, rfl, rfl, by rw [wrap64] <;> omega, by omega, hn, fun k hk => by rw [if_neg (by omega)], hh, fun _ _ => rfl⟩, ?_⟩
  rintro r _ ⟨i, x, j, L', h', rfl, rfl, rfl, rfl, hi, hl, hL, hq, hb⟩
  refine Br.mk (fun hlt => ?_) (fun hge => ?_)
  · have hlt := of_decide_eq_true hlt
    obtain ⟨u, hu⟩ : ∃ u, L'[n - 1 - i]? = some u := ⟨_, List.getElem?_eq_getElem (by omega)⟩
    obtain ⟨v, hv⟩ : ∃ v, L'[i]? = some v := ⟨_, List.getElem?_eq_getElem (by omega)⟩
    have pj : 0 ≤ (n : Int) - 1 - i ∧ (n : Int) - 1 - i < (n : Int) := by omega
    have pi : 0 ≤ (i : Int) ∧ (i : Int) < (n : Int) := by omega
    have ej : 0 + ((n : Int) - 1 - i).toNat * 1 = n - 1 - i := by omega
    have ei : 0 + ((i : Nat) : Int).toNat * 1 = i := by omega
    have eL : (L'.map byteC ++ pad).length = n + pad.length := by simp [hl]
    refine Pre.mk (by kernel_rfl) ?_
    refine Pre.mk pj ?_
    refine ⟨_, _, hq, loadOf_at rfl (byteC_at ej hu) ?_⟩
    refine Pre.mk pi ?_
    refine ⟨_, _, hq, loadOf_at rfl (byteC_at ei hv) ?_⟩
    refine Pre.mk pi ?_
    refine ⟨_, _, hq, by show 0 + ((i : Nat) : Int).toNat * 1 + 1 ≤ _; rw [ei, eL]; omega, forceL_mk ?_⟩
    refine Pre.mk pj ?_
    refine ⟨_, _, upd_same _ _ _, ?_, forceL_mk ?_⟩
    · have := byteC_setAt (pad := pad) (x := u) ei (show i < L'.length by omega)
      show 0 + ((n : Int) - 1 - i).toNat * 1 + 1 ≤ (setR (L'.map byteC ++ pad) (0 + ((i : Nat) : Int).toNat * 1) [byteC u]).length
      rw [this, ej]; simp [hl]; omega
    · have e1 := byteC_setAt (pad := pad) (x := u) ei (show i < L'.length by omega)
      have e2 := byteC_setAt (L := L'.set i u) (pad := pad) (x := v) ej (by simp; omega)
      refine ⟨rfl, n - (i + 1), by omega, _, .refl _ _, i + 1, _, _, (L'.set i u).set (n - 1 - i) v, _, rfl, rfl, by rw [wrap64] <;> omega, by rw [wrap64] <;> omega, by omega, by simp [hl], fun k hk => ?_, ?_, fun b hne => ?_⟩
      · have hLi := hL i (by omega)
        have hLj := hL (n - 1 - i) (by omega)
        have hLk := hL k hk
        rw [if_neg (by omega)] at hLi hLj
        rw [hu] at hLj
        rw [hv] at hLi
        rw [List.getElem?_set, List.getElem?_set]
        by_cases k1 : n - 1 - i = k
        · rw [if_pos k1, if_pos (by simp; omega), if_pos (by omega), hLi, show n - 1 - k = i by omega]
        · rw [if_neg k1]
          by_cases k2 : i = k
          · rw [if_pos k2, if_pos (by omega), if_pos (by omega), ← k2, ← hLj]
          · rw [if_neg k2, hLk]
            by_cases k3 : k < i ∨ n - 1 - i < k
            · rw [if_pos k3, if_pos (by omega)]
            · rw [if_neg k3, if_neg (by omega)]
      · refine (upd_same _ _ _).trans ?_
        show some (HO.cells T (setR (setR (L'.map byteC ++ pad) (0 + ((i : Nat) : Int).toNat * 1) [byteC u]) (0 + ((n : Int) - 1 - i).toNat * 1) [byteC v])) = _
        rw [e1, e2]
      · exact (upd_ne _ _ hne).trans ((upd_ne _ _ hne).trans (hb b hne))
  · have hge := of_decide_eq_false hge
    have e : L' = L.reverse := by
      apply List.ext_getElem?
      intro k
      by_cases hk : k < n
      · rw [hL k hk, List.getElem?_reverse (by omega), hn]
        by_cases k3 : k < i ∨ n - 1 - i < k
        · rw [if_pos k3]
        · rw [if_neg k3, show n - 1 - k = k by omega]
      · rw [List.getElem?_eq_none (by omega), List.getElem?_eq_none (by simp; omega)]
    exact ⟨rfl, by rw [← e]; exact hq, hb⟩
end Go.Proofs.YtdgjpncflkpjfaaDoor

/-! The contract of num.Print. -/
set_option linter.unusedVariables false
set_option linter.unusedSimpArgs false
namespace Go.Proofs.YtdgjpncflkpjfaaDoor
open Aw

def printL (n : Int) : List Nat := (digs 19 n.natAbs) ++ (if n < 0 then [45] else [])
def printS (n : Int) : ByteArray := ⟨((printL n).reverse.map UInt8.ofNat).toArray⟩

theorem digs_len : ∀ (f n : Nat), 1 ≤ (digs f n).length ∧ (digs f n).length ≤ f + 1
  | 0, n => by simp [digs]
  | f + 1, n => by
    simp only [digs]
    have := digs_len f (n / 10)
    split <;> simp <;> omega
theorem digs_dig : ∀ (f n : Nat), ∀ d ∈ digs f n, 48 ≤ d ∧ d < 58
  | 0, n, d, h => by simp [digs] at h; omega
  | f + 1, n, d, h => by
    simp only [digs, List.mem_cons] at h
    rcases h with rfl | h
    · omega
    · split at h
      · cases h
      · exact digs_dig f (n / 10) d h
theorem take_snoc {l : List Nat} {k : Nat} {x : Nat} (h : l[k]? = some x) : l.take (k + 1) = l.take k ++ [x] := by
  obtain ⟨h1, h2⟩ := List.getElem?_eq_some_iff.1 h
  rw [List.take_succ_eq_append_getElem h1, h2]
def natC (l : List Nat) : List AC := (l.map fun d : Nat => (d : Int)).map byteC
theorem natC_len (l : List Nat) : (natC l).length = l.length := by simp [natC]
theorem natC_append (l m : List Nat) : natC (l ++ m) = natC l ++ natC m := by simp [natC]
theorem natC_bytes {l : List Nat} (h : ∀ d ∈ l, d < 256) : natC l = (l.map UInt8.ofNat).map fun y => AC.v (.int .u8 y.toNat) := by
  unfold natC
  rw [List.map_map, List.map_map]
  refine List.map_congr_left fun d hd => ?_
  show AC.v (.int .u8 (d : Int)) = AC.v (.int .u8 ((UInt8.ofNat d).toNat : Nat))
  have := h d hd
  rw [show (UInt8.ofNat d).toNat = d by simp; omega]
/-- Where the bytes lie that are gathered. -/
structure Gath (h h' : Heap) (l : List Nat) (q len cap : Nat) : Prop where
  at' : ∃ pad, h' q = some (.cells 5 (natC l ++ pad)) ∧ pad.length = (cap - len) * 1
  new : h q = none
  ln : len = l.length
  le : len ≤ cap
theorem Gath.room {h h' : Heap} {l : List Nat} {q len cap : Nat} (g : Gath h h' l q len cap) (x : Nat) {cs : List AC} (hc : h' q = some (.cells 5 cs)) (hr : len + 1 ≤ cap) : Gath h (upd h' q (.cells 5 (cs.take (len * 1) ++ [byteC (x : Nat)] ++ cs.drop ((len + 1) * 1)))) (l ++ [x]) q (len + 1) cap := by
  obtain ⟨pad, h1, h2⟩ := g.at'
  rw [hc] at h1
  have hcs : cs = natC l ++ pad := by injection h1 with e; injection e
  have hl : (natC l).length = len * 1 := by rw [natC_len, g.ln, Nat.mul_one]
  refine ⟨⟨pad.drop 1, ?_, by rw [List.length_drop, h2]; omega⟩, g.new, by rw [List.length_append, g.ln]; rfl, hr⟩
  rw [upd_same, hcs, natC_append]
  have e1 : (natC l ++ pad).take (len * 1) = natC l := by rw [← hl]; exact List.take_left
  have e2 : (natC l ++ pad).drop ((len + 1) * 1) = pad.drop 1 := by
    rw [show (len + 1) * 1 = (natC l).length + 1 by rw [hl]; omega, ← List.drop_drop, List.drop_left]
  rw [e1, e2]; rfl
theorem Gath.grow {h h' : Heap} {l : List Nat} {q len cap : Nat} (g : Gath h h' l q len cap) (x : Nat) {cs : List AC} (hc : h' q = some (.cells 5 cs)) {q' cap' : Nat} {pad : List AC} (hn : h q' = none) (hp : pad.length = (cap' - (len + 1)) * 1) (hr : len + 1 ≤ cap') : Gath h (upd h' q' (.cells 5 (cs.take (len * 1) ++ [byteC (x : Nat)] ++ pad))) (l ++ [x]) q' (len + 1) cap' := by
  obtain ⟨pad0, h1, h2⟩ := g.at'
  rw [hc] at h1
  have hcs : cs = natC l ++ pad0 := by injection h1 with e; injection e
  have hl : (natC l).length = len * 1 := by rw [natC_len, g.ln, Nat.mul_one]
  refine ⟨⟨pad, ?_, hp⟩, hn, by rw [List.length_append, g.ln]; rfl, hr⟩
  rw [upd_same, hcs, natC_append]
  have e1 : (natC l ++ pad0).take (len * 1) = natC l := by rw [← hl]; exact List.take_left
  rw [e1]; rfl
theorem Gath.first {h h' : Heap} (x : Nat) {q cap : Nat} {pad : List AC} (hn : h q = none) (hp : pad.length = (cap - 1) * 1) (hr : 1 ≤ cap) : Gath h (upd h' q (.cells 5 ([byteC (x : Nat)] ++ pad))) [x] q 1 cap :=
  ⟨⟨pad, upd_same _ _ _, hp⟩, hn, rfl, hr⟩
theorem Gath.rev {h h1 h2 : Heap} {l : List Nat} {q len cap : Nat} (g : Gath h h1 l q len cap) (hd : ∀ d ∈ l, d < 256) {pad : List AC} (hq : h2 q = some (.cells 5 (((l.map fun d : Nat => (d : Int)).reverse).map byteC ++ pad))) :
    h2 q = some (.cells 5 (((l.map fun d : Nat => (d : Int)).reverse).map byteC ++ pad)) ∧ (l.reverse.map UInt8.ofNat).length = len ∧ ((((l.map fun d : Nat => (d : Int)).reverse).map byteC ++ pad).drop 0).take len = (l.reverse.map UInt8.ofNat).map (fun y => AC.v (.int .u8 y.toNat)) := by
  have e : ((l.map fun d : Nat => (d : Int)).reverse).map byteC = natC l.reverse := by unfold natC; rw [List.map_reverse (f := fun d : Nat => (d : Int))]
  refine ⟨hq, by simp [g.ln], ?_⟩
  rw [List.drop_zero, e, ← natC_bytes (l := l.reverse) (fun d h => hd d (by simpa using h))]
  have : len = (natC l.reverse).length := by rw [natC_len, List.length_reverse, g.ln]
  rw [this]; exact List.take_left
theorem kept_upd {h h' : Heap} (hk : ∀ b y, h b = some y → h' b = some y) {q : Nat} {x : HO} (hq : h q = none) : ∀ b y, h b = some y → upd h' q x b = some y := fun b y hb => by
  rw [upd_ne _ _ (fun e => by rw [e, hq] at hb; cases hb)]; exact hk b y hb
theorem none_kept {h h' : Heap} (hk : ∀ b y, h b = some y → h' b = some y) {q : Nat} (hq : h' q = none) : h q = none := by
  cases e : h q with
  | none => rfl
  | some y => rw [hk q y e] at hq; cases hq

set_option maxRecDepth 8000 in
theorem print_pure (n : Int) (h1 : -9223372036854775808 ≤ n) (h2 : n < 9223372036854775808) : PureA Tryd.prog 35 [.c (.v (.int .i64 n))] (.c (.v (.string (printS n)))) := by
  refine PureA.of_kept fun h => ?_
  refine callsA_of (D := D7 28 [57, 58] [] [] [18, 23, 27] 1) ty_ok mixed Tryd.func35 rfl (by kernel_rfl) (by kernel_rfl) (by simp [D7]) ?_
  intro g vs hr
  clear hr
  obtain ⟨m, hm⟩ : ∃ m, m = n.natAbs := ⟨_, rfl⟩
  have hm64 : m < 18446744073709551616 := by omega
  have hseq := fun b => digits1_seq b m 19 hm64 (by omega)
  obtain ⟨ds, hds⟩ : ∃ ds, ds = digs 19 m := ⟨_, rfl⟩
  have hdl := digs_len 19 m
  have hdd := digs_dig 19 m
  rw [← hds] at hseq hdl hdd
  have hlen : ∀ avs ∈ ds.map digAV, avs.length = 1 := fun avs ha => by
    obtain ⟨d, _, rfl⟩ := List.mem_map.1 ha; rfl
  have hpre0 : 0 < 1 ∧ 1 * 1 ≤ lenMax ∧ 1 ≤ lenMax := by unfold lenMax; omega
  have hpre1 : ∀ l : Nat, l ≤ 100 → (l + 1) * 1 ≤ lenMax ∧ l + 1 ≤ lenMax := fun l hl => by unfold lenMax; omega
  have hP : (printL n) = ds ++ (if n < 0 then [45] else []) := by unfold printL; rw [← hm, ← hds]
  have hput : ∀ {h1 : Heap} {q len cap : Nat} {l : List Nat}, Gath h h1 l q len cap → l.length ≤ 100 → ∃ cs, (h1 q = some (.cells 5 cs) ∧ len ≤ cap ∧ cs.length = cap * 1 ∧ 0 < 1 ∧ (len + 1) * 1 ≤ lenMax ∧ len + 1 ≤ lenMax) := fun g hl => by
    obtain ⟨pad, e1, e2⟩ := g.at'
    have := g.ln
    have := g.le
    refine ⟨_, e1, g.le, ?_, by omega, (hpre1 _ (by omega)).1, (hpre1 _ (by omega)).2⟩
    rw [List.length_append, natC_len, e2, ← g.ln]; omega
  have hall : ∀ d ∈ printL n, d < 256 := fun d hd => by
    rw [hP] at hd
    rcases List.mem_append.1 hd with hd | hd
    · have := hdd d hd; omega
    · split at hd
      · simp at hd; omega
      · cases hd
  refine Br.mk (fun hneg => ?_) (fun hneg => ?_)
  · have hneg := of_decide_eq_true hneg
    have hc : CallsA Tryd.prog 57 [.c (.v (.int .u64 (IntKind.u64.wrap (0 - IntKind.u64.wrap n))))] h fun e h' => ∃ b, h b = none ∧ e = .ret (.c (.v (fnV 73 b))) ∧ h' = upd h b (u64C m) := by
      have : IntKind.u64.wrap (0 - IntKind.u64.wrap n) = (m : Nat) := by show (0 - n % 18446744073709551616) % 18446744073709551616 = _; omega
      rw [this]; exact digits_calls m h
    refine hc.mono ?_
    rintro _ _ ⟨b0, hb0, rfl, rfl⟩
    refine RangeA.mk ⟨73, [.v (.pointer (some ⟨b0, 0, none⟩))], ds.map digAV, oneH b0 (u64C m), ⟨[0, 4], 1, 0⟩, fun k s => ∃ h' : Heap, (∀ b y, h b = some y → h' b = some y) ∧
        ((k = 0 ∧ s = ⟨[(63, [.nil])], [], h'⟩) ∨ ∃ q len cap, Gath h h' (ds.take k) q len cap ∧ s = ⟨[(63, [.v (.slice (some ⟨q, 0, none⟩) len cap)])], [], h'⟩),
      ⟨rfl, hseq b0, ?_, hlen, rfl⟩, ⟨rfl, rfl, ?_⟩, ?_, ?_⟩
    · intro b x hx
      unfold oneH at hx
      split at hx
      · rename_i e; cases hx; subst e; exact ⟨upd_same _ _ _, _, _, rfl⟩
      · cases hx
    · refine ⟨_, ?_, .inl ⟨rfl, rfl⟩⟩
      intro b y hb
      have hbn : b ≠ b0 := fun e => by rw [e, hb0] at hb; cases hb
      show (match oneH b0 (u64C m) b with | some _ => none | none => upd h b0 (u64C m) b) = some y
      rw [show oneH b0 (u64C m) b = none by simp [oneH, hbn], upd_ne _ _ hbn]; exact hb
    · rintro k s avs hk ⟨h', hkeep, hs⟩ hat
      rw [List.length_map] at hk
      rw [List.getElem?_map, Option.map_eq_some_iff] at hat
      obtain ⟨d, hd, rfl⟩ := hat
      have htk := take_snoc hd
      rcases hs with ⟨rfl, rfl⟩ | ⟨q, len, cap, hg, rfl⟩
      · refine ⟨rfl, Pre.mk hpre0 ?_⟩
        intro q cap pad hq hcap hpad
        refine ⟨rfl, _, kept_upd hkeep (none_kept hkeep hq), .inr ⟨q, 1, cap, ?_, rfl⟩⟩
        rw [htk]
        exact Gath.first d (none_kept hkeep hq) hpad hcap
      · obtain ⟨cs, hcs⟩ := hput hg (by rw [List.length_take]; omega)
        refine ⟨rfl, cs, hcs, fun hr => ?_, fun hr q' cap' pad hq hcap hpad => ?_⟩
        · refine ⟨rfl, _, kept_upd hkeep hg.new, .inr ⟨q, len + 1, cap, ?_, rfl⟩⟩
          rw [htk]
          exact hg.room d hcs.1 hr
        · refine ⟨rfl, _, kept_upd hkeep (none_kept hkeep hq), .inr ⟨q', len + 1, cap', ?_, rfl⟩⟩
          rw [htk]
          exact hg.grow d hcs.1 (none_kept hkeep hq) hpad hcap
    · rintro s ⟨h', hkeep, hs⟩
      rw [List.length_map] at hs
      rcases hs with ⟨e, rfl⟩ | ⟨q, len, cap, hg, rfl⟩
      · omega
      · rw [List.take_length] at hg
        refine Br.mk (fun _ => ?_) (fun hh => by have := of_decide_eq_false hh; omega)
        obtain ⟨cs, hcs⟩ := hput hg (by omega)
        rw [if_pos hneg] at hP
        refine ⟨cs, hcs, fun hr => ?_, fun hr q' cap' pad hq hcap hpad => ?_⟩
        · have hg2 := hg.room 45 hcs.1 hr
          have hk2 : ∀ b y, h b = some y → upd h' q (.cells 5 (cs.take (len * 1) ++ [byteC ((45 : Nat) : Int)] ++ cs.drop ((len + 1) * 1))) b = some y := kept_upd hkeep hg.new
          rw [← hP] at hg2
          obtain ⟨pad, e1, e2⟩ := hg2.at'
          have hl2 := hg2.ln
          refine (reverse_calls q (len + 1) cap 5 ((printL n).map fun d : Nat => (d : Int)) pad _ e1 (by simp [hl2]) (by rw [hg.ln]; omega)).mono ?_
          rintro _ h2 ⟨rfl, hq2, hoth⟩
          exact ⟨5, _, _, hg2.rev hall hq2, ⟨_, rfl, VLe.refl _⟩, fun b y hb => (hoth b fun e => by rw [e, hg2.new] at hb; cases hb).trans (hk2 b y hb)⟩
        · have hg2 := hg.grow 45 hcs.1 (none_kept hkeep hq) hpad hcap
          have hk2 : ∀ b y, h b = some y → upd h' q' (.cells 5 (cs.take (len * 1) ++ [byteC ((45 : Nat) : Int)] ++ pad)) b = some y := kept_upd hkeep hg2.new
          rw [← hP] at hg2
          obtain ⟨pad', e1, e2⟩ := hg2.at'
          have hl2 := hg2.ln
          refine (reverse_calls q' (len + 1) cap' 5 ((printL n).map fun d : Nat => (d : Int)) pad' _ e1 (by simp [hl2]) (by rw [hg.ln]; omega)).mono ?_
          rintro _ h2 ⟨rfl, hq2, hoth⟩
          exact ⟨5, _, _, hg2.rev hall hq2, ⟨_, rfl, VLe.refl _⟩, fun b y hb => (hoth b fun e => by rw [e, hg2.new] at hb; cases hb).trans (hk2 b y hb)⟩
  · have hneg := of_decide_eq_false hneg
    have hc : CallsA Tryd.prog 57 [.c (.v (.int .u64 (IntKind.u64.wrap n)))] h fun e h' => ∃ b, h b = none ∧ e = .ret (.c (.v (fnV 73 b))) ∧ h' = upd h b (u64C m) := by
      have : IntKind.u64.wrap n = (m : Nat) := by show n % 18446744073709551616 = _; omega
      rw [this]; exact digits_calls m h
    refine hc.mono ?_
    rintro _ _ ⟨b0, hb0, rfl, rfl⟩
    refine RangeA.mk ⟨73, [.v (.pointer (some ⟨b0, 0, none⟩))], ds.map digAV, oneH b0 (u64C m), ⟨[0, 4], 1, 0⟩, fun k s => ∃ h' : Heap, (∀ b y, h b = some y → h' b = some y) ∧
        ((k = 0 ∧ s = ⟨[(63, [.nil])], [], h'⟩) ∨ ∃ q len cap, Gath h h' (ds.take k) q len cap ∧ s = ⟨[(63, [.v (.slice (some ⟨q, 0, none⟩) len cap)])], [], h'⟩),
      ⟨rfl, hseq b0, ?_, hlen, rfl⟩, ⟨rfl, rfl, ?_⟩, ?_, ?_⟩
    · intro b x hx
      unfold oneH at hx
      split at hx
      · rename_i e; cases hx; subst e; exact ⟨upd_same _ _ _, _, _, rfl⟩
      · cases hx
    · refine ⟨_, ?_, .inl ⟨rfl, rfl⟩⟩
      intro b y hb
      have hbn : b ≠ b0 := fun e => by rw [e, hb0] at hb; cases hb
      show (match oneH b0 (u64C m) b with | some _ => none | none => upd h b0 (u64C m) b) = some y
      rw [show oneH b0 (u64C m) b = none by simp [oneH, hbn], upd_ne _ _ hbn]; exact hb
    · rintro k s avs hk ⟨h', hkeep, hs⟩ hat
      rw [List.length_map] at hk
      rw [List.getElem?_map, Option.map_eq_some_iff] at hat
      obtain ⟨d, hd, rfl⟩ := hat
      have htk := take_snoc hd
      rcases hs with ⟨rfl, rfl⟩ | ⟨q, len, cap, hg, rfl⟩
      · refine ⟨rfl, Pre.mk hpre0 ?_⟩
        intro q cap pad hq hcap hpad
        refine ⟨rfl, _, kept_upd hkeep (none_kept hkeep hq), .inr ⟨q, 1, cap, ?_, rfl⟩⟩
        rw [htk]
        exact Gath.first d (none_kept hkeep hq) hpad hcap
      · obtain ⟨cs, hcs⟩ := hput hg (by rw [List.length_take]; omega)
        refine ⟨rfl, cs, hcs, fun hr => ?_, fun hr q' cap' pad hq hcap hpad => ?_⟩
        · refine ⟨rfl, _, kept_upd hkeep hg.new, .inr ⟨q, len + 1, cap, ?_, rfl⟩⟩
          rw [htk]
          exact hg.room d hcs.1 hr
        · refine ⟨rfl, _, kept_upd hkeep (none_kept hkeep hq), .inr ⟨q', len + 1, cap', ?_, rfl⟩⟩
          rw [htk]
          exact hg.grow d hcs.1 (none_kept hkeep hq) hpad hcap
    · rintro s ⟨h', hkeep, hs⟩
      rw [List.length_map] at hs
      rcases hs with ⟨e, rfl⟩ | ⟨q, len, cap, hg, rfl⟩
      · omega
      · rw [List.take_length] at hg
        refine Br.mk (fun hh => by have := of_decide_eq_true hh; omega) (fun _ => ?_)
        rw [if_neg hneg, List.append_nil] at hP
        rw [← hP] at hg
        obtain ⟨pad, e1, e2⟩ := hg.at'
        have hl2 := hg.ln
        rw [hP] at hl2
        refine (reverse_calls q len cap 5 ((printL n).map fun d : Nat => (d : Int)) pad _ e1 (by simp [hg.ln]) (by omega)).mono ?_
        rintro _ h2 ⟨rfl, hq2, hoth⟩
        exact ⟨5, _, _, hg.rev hall hq2, ⟨_, rfl, VLe.refl _⟩, fun b y hb => (hoth b fun e => by rw [e, hg.new] at hb; cases hb).trans (hkeep b y hb)⟩
end Go.Proofs.YtdgjpncflkpjfaaDoor
