/- Plain laws: pieces of a text; numbers, printed and read. Plain law: what is read of a text has that text. Plain law: a right value's text is read as it. Plain law: a right value's text is read as it; how long it is. -/
import Derived.Test.YtdgjpncflkpjfaaDoorV35
import Derived.Test.YtdgjpncflkpjfaaDoorV9a
import Derived.Test.YtdgjpncflkpjfaaDoorV13
import Derived.Test.YtdgjpncflkpjfaaDoorV14
/-! Plain laws: pieces of a text; numbers, printed and read. -/
set_option linter.unusedVariables false
set_option linter.unusedSimpArgs false
namespace Go.Proofs.YtdgjpncflkpjfaaDoor
open Aw

/-! ### Pieces of a text -/
def seg (s : ByteArray) (p q : Nat) : List UInt8 := (s.data.toList.drop p).take (q - p)
theorem size_toList (s : ByteArray) : s.data.toList.length = s.size := by rw [Array.length_toList]; rfl
theorem seg_ext (s : ByteArray) (p q : Nat) : (s.extract p q).data.toList = seg s p q := by
  rw [ByteArray.data_extract, Array.toList_extract, List.extract_eq_take_drop]; rfl
theorem seg_append {s : ByteArray} {p q r : Nat} (h1 : p ≤ q) (h2 : q ≤ r) : seg s p q ++ seg s q r = seg s p r := by
  unfold seg
  rw [show r - p = (q - p) + (r - q) by omega, List.take_add, List.drop_drop, show p + (q - p) = q by omega]
theorem seg_len {s : ByteArray} {p q : Nat} (h : q ≤ s.size) : (seg s p q).length = q - p := by
  unfold seg
  rw [List.length_take, List.length_drop, size_toList]; omega
theorem bt_of {s : ByteArray} {i : Nat} {y : UInt8} (h : s.data.toList[i]? = some y) : bt s (i : Nat) = (y.toNat : Int) ∧ i < s.size := by
  have hl := (List.getElem?_eq_some_iff.1 h).1
  rw [size_toList] at hl
  obtain ⟨z, h1, h2, _⟩ := byte_at hl
  rw [h] at h1; cases h1
  exact ⟨h2, hl⟩
theorem seg_get {s : ByteArray} {p q k : Nat} (h : k < q - p) : (seg s p q)[k]? = s.data.toList[p + k]? := by
  unfold seg
  rw [List.getElem?_take, if_pos h, List.getElem?_drop]
theorem seg_one {s : ByteArray} {p : Nat} {y : UInt8} (h : s.data.toList[p]? = some y) : seg s p (p + 1) = [y] := by
  obtain ⟨h1, h2⟩ := List.getElem?_eq_some_iff.1 h
  unfold seg
  rw [List.drop_eq_getElem_cons h1, h2, show p + 1 - p = 1 by omega]; rfl
theorem seg_self (s : ByteArray) (p : Nat) : seg s p p = [] := by unfold seg; rw [Nat.sub_self]; rfl
theorem seg_all (s : ByteArray) : seg s 0 s.size = s.data.toList := by unfold seg; rw [List.drop_zero, Nat.sub_zero, List.take_of_length_le (by rw [size_toList]; exact Nat.le_refl _)]
theorem data_inj {s t : ByteArray} (h : s.data.toList = t.data.toList) : s = t := ByteArray.ext (Array.ext' h)
/-- A list stands at a place. -/
def At (s : ByteArray) (p : Nat) (l : List UInt8) : Prop := p + l.length ≤ s.size ∧ seg s p (p + l.length) = l
theorem At.get {s : ByteArray} {p : Nat} {l : List UInt8} (h : At s p l) {k : Nat} {y : UInt8} (hk : l[k]? = some y) : s.data.toList[p + k]? = some y := by
  have hl := (List.getElem?_eq_some_iff.1 hk).1
  rw [← h.2, seg_get (by omega)] at hk; exact hk
theorem At.left {s : ByteArray} {p : Nat} {l m : List UInt8} (h : At s p (l ++ m)) : At s p l := by
  obtain ⟨h1, h2⟩ := h
  rw [List.length_append] at h1 h2
  refine ⟨by omega, ?_⟩
  have e := seg_append (s := s) (p := p) (q := p + l.length) (r := p + (l.length + m.length)) (by omega) (by omega)
  rw [h2] at e
  have hl : (seg s p (p + l.length)).length = l.length := by rw [seg_len (by omega)]; omega
  exact (List.append_inj e hl).1
theorem At.right {s : ByteArray} {p : Nat} {l m : List UInt8} (h : At s p (l ++ m)) : At s (p + l.length) m := by
  obtain ⟨h1, h2⟩ := h
  rw [List.length_append] at h1 h2
  refine ⟨by omega, ?_⟩
  have e := seg_append (s := s) (p := p) (q := p + l.length) (r := p + (l.length + m.length)) (by omega) (by omega)
  rw [h2] at e
  have hl : (seg s p (p + l.length)).length = l.length := by rw [seg_len (by omega)]; omega
  rw [show p + l.length + m.length = p + (l.length + m.length) by omega]
  exact (List.append_inj e hl).2
theorem At.head {s : ByteArray} {p : Nat} {y : UInt8} {l : List UInt8} (h : At s p (y :: l)) : p < s.size ∧ bt s (p : Nat) = (y.toNat : Int) ∧ At s (p + 1) l := by
  have h0 := h.get (k := 0) (y := y) rfl
  exact ⟨(bt_of h0).2, (bt_of h0).1, At.right (l := [y]) h⟩
theorem At.ext {s : ByteArray} {p : Nat} {l : List UInt8} (h : At s p l) : s.extract p (p + l.length) = ⟨l.toArray⟩ := by
  apply data_inj
  rw [seg_ext, h.2]
theorem At.of {s : ByteArray} {l r : List UInt8} (h : s.data.toList = l ++ r) : At s 0 l := by
  have hs := congrArg List.length h
  rw [size_toList, List.length_append] at hs
  refine ⟨by omega, ?_⟩
  unfold seg
  rw [h, List.drop_zero]; simp

/-! ### Numbers -/
def mapU (l : List Nat) : List UInt8 := l.map UInt8.ofNat
theorem mapU_append (l m : List Nat) : mapU (l ++ m) = mapU l ++ mapU m := by simp [mapU]
theorem digs_rev (d : ByteArray) (hd : ∀ k, k < d.size → 48 ≤ bt d (k : Nat) ∧ bt d (k : Nat) ≤ 57) : ∀ (k f : Nat), k + 1 ≤ d.size → (k = 0 ∨ bt d 0 ≠ 48) → valN d (k + 1) < 10 ^ (f + 1) → mapU (digs f (valN d (k + 1))).reverse = seg d 0 (k + 1)
  | 0, f, hk, h0, hf => by
    obtain ⟨y, y1, y2, y3⟩ := byte_at (s := d) (i := 0) (by omega)
    have hb := hd 0 (by omega)
    have hv : valN d 1 = (bt d (0 : Nat) - 48).toNat := by show 0 * 10 + _ = _; simp
    have hv9 : valN d 1 < 10 := by omega
    have : digs f (valN d 1) = [48 + valN d 1] := by
      cases f with
      | zero => simp [digs]; try omega
      | succ f => simp [digs, hv9]; try omega
    rw [this, seg_one y1, ← y3]
    show [UInt8.ofNat (48 + valN d 1)] = _
    rw [hv]
    have : 48 + (bt d (0 : Nat) - 48).toNat = (bt d (0 : Nat)).toNat := by omega
    rw [this]
  | k + 1, f, hk, h0, hf => by
    have hne : bt d 0 ≠ 48 := by rcases h0 with h | h; omega; exact h
    obtain ⟨y, y1, y2, y3⟩ := byte_at (s := d) (i := k + 1) (by omega)
    have hb := hd (k + 1) (by omega)
    have hb0 := hd 0 (by omega)
    have hv1 : 1 ≤ valN d 1 := by
      have : valN d 1 = (bt d (0 : Nat) - 48).toNat := by show 0 * 10 + _ = _; simp
      have hne' : bt d (0 : Nat) ≠ 48 := hne
      omega
    have hmono := valN_mono d 1 k
    rw [show 1 + k = k + 1 by omega] at hmono
    have hv : valN d (k + 1 + 1) = valN d (k + 1) * 10 + (bt d (k + 1 : Nat) - 48).toNat := rfl
    obtain ⟨f, rfl⟩ : ∃ f', f = f' + 1 := by
      cases f with
      | zero => simp at hf; omega
      | succ f => exact ⟨f, rfl⟩
    have hf' : valN d (k + 1) < 10 ^ (f + 1) := by
      have : 10 ^ (f + 1 + 1) = 10 ^ (f + 1) * 10 := rfl
      omega
    have ih := digs_rev d hd k f (by omega) (.inr hne) hf'
    have hdg : digs (f + 1) (valN d (k + 1 + 1)) = (48 + (bt d (k + 1 : Nat) - 48).toNat) :: digs f (valN d (k + 1)) := by
      simp only [digs]
      rw [if_neg (by omega)]
      congr 1
      · omega
      · congr 1; omega
    rw [hdg, List.reverse_cons, mapU_append, ih, ← seg_append (p := 0) (q := k + 1) (r := k + 1 + 1) (by omega) (by omega), seg_one y1]
    congr 1
    show [UInt8.ofNat _] = _
    rw [← y3]
    have : 48 + (bt d (k + 1 : Nat) - 48).toNat = (bt d (k + 1 : Nat)).toNat := by omega
    rw [this]
theorem digB_iff {c : Int} : digB c = true ↔ 48 ≤ c ∧ c ≤ 57 := by simp [digB]
theorem runs_all {d : ByteArray} (h : runs d 0 = d.size) : ∀ k, k < d.size → 48 ≤ bt d (k : Nat) ∧ bt d (k : Nat) ≤ 57 := fun k hk => by
  have := ((runs_spec d 0).1 k (by omega)).2
  rw [digB_iff] at this
  simpa using this
theorem toNatAbs_neg (m : Nat) : (-(m : Int)).natAbs = m := by omega

/-- What is read as a number is printed as it was. -/
theorem print_parse {b : ByteArray} {n : Int} (h : parseS b = (n, 0)) : printS n = b := by
  obtain ⟨d, hd⟩ : ∃ d, d = bodyB b := ⟨_, rfl⟩
  obtain ⟨neg, hneg⟩ : ∃ neg, neg = negB b := ⟨_, rfl⟩
  unfold parseS at h
  rw [← hd, ← hneg] at h
  by_cases hbad : badB d neg = true
  · rw [if_pos hbad] at h; cases h
  rw [if_neg hbad] at h
  by_cases hbig : mostN neg < valN d d.size
  · rw [if_pos hbig] at h; cases h
  rw [if_neg hbig] at h
  have hbad : badB d neg = false := by simpa using hbad
  unfold badB at hbad
  simp only [Bool.or_eq_false_iff, Bool.and_eq_false_iff, decide_eq_false_iff_not, Decidable.not_not] at hbad
  obtain ⟨⟨hd0, hruns⟩, hlead⟩ := hbad
  have hdig := runs_all hruns
  obtain ⟨k, hk⟩ : ∃ k, d.size = k + 1 := ⟨d.size - 1, by omega⟩
  have hmost := mostN_le neg
  have hlead' : k = 0 ∨ bt d 0 ≠ 48 := by
    rcases hlead with h | h
    · exact .inr h
    · exact .inl (by have := h.1; omega)
  have hnz : neg = true → 1 ≤ valN d d.size := fun hn => by
    rcases hlead with h | h
    · have hv1 : 1 ≤ valN d 1 := by
        have e : valN d 1 = (bt d (0 : Nat) - 48).toNat := by show 0 * 10 + _ = _; simp
        have h' : bt d (0 : Nat) ≠ 48 := h
        have := hdig 0 (by omega)
        omega
      have := valN_mono d 1 k
      rw [show 1 + k = d.size by omega] at this
      omega
    · rw [hn] at h; cases h.2
  have hp := digs_rev d hdig k 19 (by omega) hlead' (by rw [← hk]; omega)
  rw [← hk, seg_all] at hp
  have hn : n = (if neg = true then -(valN d d.size : Int) else (valN d d.size : Int)) := by
    have := congrArg Prod.fst h; exact this.symm
  have hab : n.natAbs = valN d d.size := by rw [hn]; split <;> omega
  apply data_inj
  show mapU (printL n).reverse = _
  unfold printL
  rw [List.reverse_append, mapU_append, hab, hp]
  cases neg with
  | true =>
    rw [if_pos (by rw [hn]; have := hnz rfl; rw [if_pos rfl]; omega)]
    have hN := hneg.symm
    unfold negB at hN
    simp only [Bool.and_eq_true, decide_eq_true_eq, beq_iff_eq] at hN
    have hd' : d = b.extract 1 b.size := by rw [hd]; unfold bodyB; rw [← hneg, if_pos rfl]
    obtain ⟨y, y1, y2, y3⟩ := byte_at (s := b) (i := 0) (by omega)
    rw [hd', seg_ext, ← seg_all b, ← seg_append (p := 0) (q := 1) (r := b.size) (by omega) (by omega), seg_one y1, ← y3]
    have : bt b (0 : Nat) = 45 := hN.2
    rw [this]; rfl
  | false =>
    rw [if_neg (by rw [hn, if_neg (by simp)]; omega)]
    have hd' : d = b := by rw [hd]; unfold bodyB; rw [← hneg, if_neg (by simp)]
    rw [hd']; rfl

/-! ### The other way -/
def valL (l : List Nat) : Nat := l.foldl (fun a c => a * 10 + (c - 48)) 0
theorem valL_snoc (l : List Nat) (c : Nat) : valL (l ++ [c]) = valL l * 10 + (c - 48) := by simp [valL]
theorem digs_val : ∀ (f n : Nat), n < 10 ^ (f + 1) → valL (digs f n).reverse = n
  | 0, n, h => by simp at h; simp [digs, valL]; omega
  | f + 1, n, h => by
    simp only [digs]
    rw [List.reverse_cons, valL_snoc]
    by_cases h10 : n < 10
    · rw [if_pos h10]
      show 0 * 10 + _ = _
      omega
    · rw [if_neg h10, digs_val f (n / 10) (by have : 10 ^ (f + 1 + 1) = 10 ^ (f + 1) * 10 := rfl; omega)]
      omega
theorem digs_head : ∀ (f n : Nat), n < 10 ^ (f + 1) → ∃ x t, (digs f n).reverse = x :: t ∧ (x = 48 → n = 0 ∧ t = [])
  | 0, n, h => ⟨48 + n % 10, [], rfl, fun e => ⟨by simp at h; omega, rfl⟩⟩
  | f + 1, n, h => by
    simp only [digs]
    rw [List.reverse_cons]
    by_cases h10 : n < 10
    · rw [if_pos h10]
      exact ⟨48 + n % 10, [], rfl, fun e => ⟨by omega, rfl⟩⟩
    · rw [if_neg h10]
      obtain ⟨x, t, h1, h2⟩ := digs_head f (n / 10) (by have : 10 ^ (f + 1 + 1) = 10 ^ (f + 1) * 10 := rfl; omega)
      exact ⟨x, t ++ [48 + n % 10], by rw [h1]; rfl, fun e => by have := h2 e; omega⟩
/-- The digits of a magnitude as a text. -/
theorem dig_bytes {l : List Nat} (hl : ∀ x ∈ l, 48 ≤ x ∧ x < 58) {s : ByteArray} {p : Nat} (hs : At s p (mapU l)) : ∀ (k x : Nat), l[k]? = some x → p + k < s.size ∧ bt s (p + k : Nat) = (x : Int) := fun k x hk => by
  have hx := hl x (List.mem_of_getElem? hk)
  have h1 : (mapU l)[k]? = some (UInt8.ofNat x) := by unfold mapU; rw [List.getElem?_map, hk]; rfl
  have h2 := bt_of (hs.get h1)
  refine ⟨h2.2, ?_⟩
  rw [h2.1, show (UInt8.ofNat x).toNat = x by simp; omega]
theorem mapU_len (l : List Nat) : (mapU l).length = l.length := by simp [mapU]
theorem valN_list {l : List Nat} (hl : ∀ x ∈ l, 48 ≤ x ∧ x < 58) {d : ByteArray} (hd : d.data.toList = mapU l) : ∀ k, k ≤ l.length → valN d k = valL (l.take k)
  | 0, _ => rfl
  | k + 1, hk => by
    have hx : l[k]? = some l[k] := List.getElem?_eq_getElem (by omega)
    have hb := dig_bytes hl (At.of (s := d) (l := mapU l) (r := []) (by simpa using hd)) k _ hx
    rw [Nat.zero_add] at hb
    rw [List.take_succ_eq_append_getElem (by omega), valL_snoc, ← valN_list hl hd k (by omega)]
    show valN d k * 10 + (bt d (k : Nat) - 48).toNat = _
    rw [hb.2]; omega
theorem digL (n : Int) : (printL n).reverse = (if n < 0 then [45] else []) ++ (digs 19 n.natAbs).reverse := by
  unfold printL
  rw [List.reverse_append]; congr 1
  split <;> rfl
theorem printS_list (n : Int) : (printS n).data.toList = mapU (printL n).reverse := rfl

/-- What is printed is read as the number. -/
theorem parse_print {n : Int} (h1 : -9223372036854775808 ≤ n) (h2 : n < 9223372036854775808) : parseS (printS n) = (n, 0) := by
  obtain ⟨m, hm⟩ : ∃ m, m = n.natAbs := ⟨_, rfl⟩
  have hm20 : m < 10 ^ (19 + 1) := by omega
  have hL := digs_val 19 m hm20
  obtain ⟨x, t, hx1, hx2⟩ := digs_head 19 m hm20
  obtain ⟨D, hD⟩ : ∃ D, D = (digs 19 m).reverse := ⟨_, rfl⟩
  have hdig : ∀ y ∈ D, 48 ≤ y ∧ y < 58 := fun y hy => digs_dig 19 m y (by rw [hD] at hy; simpa using hy)
  rw [← hD] at hL hx1
  have hlist := printS_list n
  rw [digL, ← hm, ← hD, mapU_append] at hlist
  have hx0 : 48 ≤ x ∧ x < 58 := hdig x (by rw [hx1]; simp)
  have main : ∀ (d : ByteArray) (neg : Bool), d.data.toList = mapU D → negB (printS n) = neg → bodyB (printS n) = d → (neg = true → 1 ≤ m) → (if neg = true then -(m : Int) else (m : Int)) = n → m ≤ mostN neg → parseS (printS n) = (n, 0) := by
    intro d neg hd hN hB hpos hn hmost
    have hsz : d.size = D.length := by rw [← size_toList, hd, mapU_len]
    have hbytes := dig_bytes hdig (At.of (s := d) (l := mapU D) (r := []) (by simpa using hd))
    have hv : valN d d.size = m := by rw [hsz, valN_list hdig hd _ (Nat.le_refl _), List.take_length, hL]
    have hb0 : bt d 0 = (x : Int) := by
      have := (hbytes 0 x (by rw [hx1]; rfl)).2
      exact this
    have hruns : runs d 0 = d.size := runs_eq (fun k hk => by
      have h := hbytes k D[k] (List.getElem?_eq_getElem (by omega))
      have := hdig D[k] (List.getElem_mem _)
      rw [Nat.zero_add] at h ⊢
      exact ⟨h.1, by rw [h.2, digB_iff]; omega⟩) (fun h => by omega)
    have hbad : badB d neg = false := by
      unfold badB
      rw [Bool.or_eq_false_iff, Bool.or_eq_false_iff]
      refine ⟨⟨decide_eq_false (by rw [hsz, hx1]; simp), decide_eq_false (by simp [hruns])⟩, ?_⟩
      rw [Bool.and_eq_false_iff]
      by_cases hx48 : x = 48
      · obtain ⟨e1, e2⟩ := hx2 hx48
        right
        rw [Bool.or_eq_false_iff]
        refine ⟨decide_eq_false (by rw [hsz, hx1, e2]; simp), ?_⟩
        cases neg with
        | false => rfl
        | true => have := hpos rfl; omega
      · left
        rw [hb0]
        exact decide_eq_false (by omega)
    rw [parseS_ok hN hB hbad (by rw [hv]; exact hmost), hv]
    have : (if neg = true then -(m : Int) else (m : Int)) = n := hn
    rw [this]
  by_cases hneg : n < 0
  · rw [if_pos hneg] at hlist
    have hl45 : (printS n).data.toList = 45 :: mapU D := hlist
    have h0 := (At.of (s := printS n) (l := 45 :: mapU D) (r := []) (by simpa using hl45)).head
    have hN : negB (printS n) = true := by
      unfold negB
      rw [Bool.and_eq_true]
      refine ⟨decide_eq_true (by omega), ?_⟩
      have : bt (printS n) (0 : Nat) = 45 := h0.2.1
      have : bt (printS n) 0 = 45 := this
      rw [this]; rfl
    have hB : bodyB (printS n) = (printS n).extract 1 (printS n).size := by unfold bodyB; rw [hN, if_pos rfl]
    refine main _ true ?_ hN rfl (fun _ => by omega) (by rw [if_pos rfl]; omega) (by show m ≤ 9223372036854775808; omega)
    rw [hB, seg_ext]
    have hsz : (printS n).size = (mapU D).length + 1 := by rw [← size_toList, hl45]; rfl
    have := h0.2.2.2
    rw [show 0 + 1 + (mapU D).length = (printS n).size by omega] at this
    exact this
  · rw [if_neg hneg] at hlist
    have hlD : (printS n).data.toList = mapU D := hlist
    have hb := dig_bytes hdig (At.of (s := printS n) (l := mapU D) (r := []) (by simpa using hlD)) 0 x (by rw [hx1]; rfl)
    have hN : negB (printS n) = false := by
      unfold negB
      rw [Bool.and_eq_false_iff]
      right
      have : bt (printS n) 0 = (x : Int) := hb.2
      rw [this]
      exact beq_false_of_ne (by omega)
    exact main _ false hlD hN (by unfold bodyB; rw [hN, if_neg (by simp)]) (fun h => by cases h) (by rw [if_neg (by simp)]; omega) (by show m ≤ 9223372036854775807; omega)
end Go.Proofs.YtdgjpncflkpjfaaDoor

/-! Plain law: what is read of a text has that text. -/
set_option linter.unusedVariables false
set_option linter.unusedSimpArgs false
namespace Go.Proofs.YtdgjpncflkpjfaaDoor
open Aw

def TL (v : Val) : List UInt8 := v.text.data.toList
/-- The texts of further items. -/
def moreT (l : List Val) : List UInt8 := (l.map fun x => 32 :: TL x).flatten
def itemsT : List Val → List UInt8
  | [] => []
  | x :: l => TL x ++ moreT l
theorem moreT_cons (x : Val) (l : List Val) : moreT (x :: l) = 32 :: TL x ++ moreT l := by simp [moreT]
theorem joinS_list (l : List Val) : (joinS (Val.texts l) ⟨#[32]⟩).data.toList = itemsT l := by
  show Lib.join ((Val.texts l).map (·.data.toList)) [32] = _
  cases l with
  | nil => rfl
  | cons x l =>
    show Lib.join (x.text.data.toList :: (Val.texts l).map (·.data.toList)) [32] = _
    rw [Lib.join_cons, texts_eq]
    show _ ++ Lib.joinTail _ _ = TL x ++ moreT l
    congr 1
    unfold Lib.joinTail moreT
    rw [List.map_map, List.map_map]; rfl
theorem append_list (a b : ByteArray) : (a ++ b).data.toList = a.data.toList ++ b.data.toList := by
  rw [ByteArray.data_append, Array.toList_append]
theorem TL_list (n : Int) (s : ByteArray) (l : List Val) : TL ⟨5, n, s, l⟩ = 91 :: itemsT l ++ [93] := by
  unfold TL
  rw [text_def]
  show ((((⟨#[91]⟩ : ByteArray) ++ joinS (Val.texts l) ⟨#[32]⟩) ++ ⟨#[93]⟩).data.toList) = _
  rw [append_list, append_list, joinS_list]; rfl
theorem TL_sym (n : Int) (s : ByteArray) (l : List Val) : TL ⟨3, n, s, l⟩ = 39 :: s.data.toList := by
  unfold TL
  rw [text_def]
  show ((⟨#[39]⟩ : ByteArray) ++ s).data.toList = _
  rw [append_list]; rfl
theorem TL_str (n : Int) (s : ByteArray) (l : List Val) : TL ⟨4, n, s, l⟩ = 34 :: s.data.toList.flatMap escB ++ [34] := by
  unfold TL
  rw [text_def]; rfl
theorem TL_int (n : Int) (s : ByteArray) (l : List Val) : TL ⟨2, n, s, l⟩ = (printS n).data.toList := by
  unfold TL
  rw [text_def]; rfl
theorem byte_eq {s : ByteArray} {i : Nat} {c : UInt8} (hi : i < s.size) (h : bt s (i : Nat) = (c.toNat : Int)) : s.data.toList[i]? = some c := by
  obtain ⟨y, y1, y2, _⟩ := byte_at hi
  have : y = c := UInt8.toNat_inj.1 (by omega)
  rw [y1, this]

theorem strF_text {s : ByteArray} : ∀ (n i : Nat) (out : ByteArray) (v : Val) (q : Nat), strF s n i out = .ok v q → ∃ o, v = ⟨4, 0, o, []⟩ ∧ i < q ∧ q ≤ s.size ∧ ∃ l : List UInt8, o.data.toList = out.data.toList ++ l ∧ l.flatMap escB ++ [34] = seg s i q
  | 0, i, out, v, q, h => by simp [strF] at h
  | n + 1, i, out, v, q, h => by
    simp only [strF] at h
    by_cases hi : i < s.size
    · rw [if_pos hi] at h
      obtain ⟨y, y1, y2, y3⟩ := byte_at hi
      by_cases h34 : bt s i = 34
      · rw [if_pos h34] at h
        cases h
        have e := byte_eq hi (c := 34) h34
        exact ⟨out, rfl, by omega, by omega, [], by simp, by rw [seg_one e]; rfl⟩
      · rw [if_neg h34] at h
        by_cases h92 : bt s i = 92
        · rw [if_pos h92] at h
          by_cases hb : i + 1 = s.size ∨ bt s (i + 1 : Nat) ≠ 34 ∧ bt s (i + 1 : Nat) ≠ 92
          · rw [if_pos hb] at h; cases h
          · rw [if_neg hb] at h
            have hi1 : i + 1 < s.size := by omega
            obtain ⟨z, z1, z2, _⟩ := byte_at hi1
            obtain ⟨o, rfl, q1, q2, l, q3, q4⟩ := strF_text n (i + 2) _ v q h
            have e := byte_eq hi (c := 92) h92
            have hz : z = 34 ∨ z = 92 := by
              by_cases hz34 : bt s (i + 1 : Nat) = 34
              · exact .inl (UInt8.toNat_inj.1 (by show z.toNat = 34; omega))
              · have hz92 : bt s (i + 1 : Nat) = 92 := by
                  by_cases hh : bt s (i + 1 : Nat) = 92
                  · exact hh
                  · exact absurd (.inr ⟨hz34, hh⟩) hb
                exact .inr (UInt8.toNat_inj.1 (by show z.toNat = 92; omega))
            refine ⟨o, rfl, by omega, q2, z :: l, ?_, ?_⟩
            · rw [q3, append_list, seg_ext, show i + 2 = (i + 1) + 1 by omega, seg_one z1]; simp
            · rw [List.flatMap_cons, ← seg_append (p := i) (q := i + 1) (r := q) (by omega) (by omega), ← seg_append (p := i + 1) (q := i + 1 + 1) (r := q) (by omega) (by omega), seg_one e, seg_one z1, show i + 1 + 1 = i + 2 by omega, ← q4]
              unfold escB
              rw [if_pos hz]; simp
        · rw [if_neg h92] at h
          obtain ⟨o, rfl, q1, q2, l, q3, q4⟩ := strF_text n (i + 1) _ v q h
          refine ⟨o, rfl, by omega, q2, y :: l, ?_, ?_⟩
          · rw [q3, append_list, seg_ext, seg_one y1]; simp
          · have hn : ¬ (y = 34 ∨ y = 92) := by
              rintro (e | e)
              · rw [e] at y2; exact h34 y2
              · rw [e] at y2; exact h92 y2
            have he : escB y = [y] := by unfold escB; rw [if_neg hn]
            rw [List.flatMap_cons, he, ← seg_append (p := i) (q := i + 1) (r := q) (by omega) (by omega), seg_one y1, ← q4]; simp
    · rw [if_neg hi] at h; cases h

theorem itemsF_text {s : ByteArray} {g : Nat → Res} (hg : ∀ q v nx, q ≤ s.size → g q = .ok v nx → q < nx ∧ nx ≤ s.size ∧ TL v = seg s q nx) : ∀ (n i : Nat) (acc : List Val) (v : Val) (q : Nat), i ≤ s.size → itemsF s g n i acc = .ok v q →
    ∃ more, v = ⟨5, 0, ⟨#[]⟩, acc ++ more⟩ ∧ i < q ∧ q ≤ s.size ∧ (if acc = [] then itemsT more else moreT more) ++ [93] = seg s i q
  | 0, i, acc, v, q, hi, h => by simp [itemsF] at h
  | n + 1, i, acc, v, q, hi, h => by
    simp only [itemsF] at h
    by_cases h1 : i < s.size ∧ bt s i = 93
    · rw [if_pos h1] at h
      cases h
      have e := byte_eq h1.1 (c := 93) h1.2
      refine ⟨[], by simp, by omega, by omega, ?_⟩
      rw [seg_one e]
      split <;> rfl
    · rw [if_neg h1] at h
      by_cases h2 : acc ≠ [] ∧ ¬ (i < s.size ∧ bt s i = 32)
      · rw [if_pos h2] at h; cases h
      · rw [if_neg h2] at h
        have step : ∀ j, j ≤ s.size → (match g j with | .no a e => Res.no a e | .ok x next => itemsF s g n next (acc ++ [x])) = .ok v q → ∃ x nx more, v = ⟨5, 0, ⟨#[]⟩, acc ++ (x :: more)⟩ ∧ j < nx ∧ nx < q ∧ q ≤ s.size ∧ TL x = seg s j nx ∧ moreT more ++ [93] = seg s nx q := by
          intro j hj h
          cases hgj : g j with
          | no a e => rw [hgj] at h; cases h
          | ok x nx =>
            rw [hgj] at h
            obtain ⟨g1, g2, g3⟩ := hg j x nx hj hgj
            obtain ⟨more, m1, m2, m3, m4⟩ := itemsF_text hg n nx (acc ++ [x]) v q g2 h
            rw [if_neg (by simp)] at m4
            exact ⟨x, nx, more, by rw [m1]; simp, g1, m2, m3, g3, m4⟩
        by_cases ha : acc = []
        · rw [if_pos ha] at h
          obtain ⟨x, nx, more, m1, m2, m3, m4, m5, m6⟩ := step i hi h
          refine ⟨x :: more, m1, by omega, m4, ?_⟩
          rw [if_pos ha]
          show (TL x ++ moreT more) ++ [93] = _
          rw [List.append_assoc, m5, m6, seg_append (by omega) (by omega)]
        · rw [if_neg ha] at h
          have h32 : i < s.size ∧ bt s i = 32 := Classical.byContradiction fun hh => h2 ⟨ha, hh⟩
          obtain ⟨x, nx, more, m1, m2, m3, m4, m5, m6⟩ := step (i + 1) (by omega) h
          have e := byte_eq h32.1 (c := 32) h32.2
          refine ⟨x :: more, m1, by omega, m4, ?_⟩
          rw [if_neg ha, moreT_cons, List.append_assoc, m6]
          show 32 :: TL x ++ seg s nx q = _
          rw [m5]
          show [32] ++ seg s (i + 1) nx ++ seg s nx q = _
          rw [← seg_one e, seg_append (by omega) (by omega), seg_append (by omega) (by omega)]

theorem word_eq {w x : ByteArray} (h : (w.toList == x.toList) = true) : w = x := by
  have := eq_of_beq h
  rw [ByteArray.toList_eq, ByteArray.toList_eq] at this
  exact data_inj this

theorem kindS_text {s : ByteArray} {list : Nat → Res} {p : Nat} (hp : p ≤ s.size) (hl : p < s.size → bt s p = 91 → ∀ v q, list p = .ok v q → TL v = seg s p q) : ∀ v q, kindS s p list = .ok v q → TL v = seg s p q := by
  intro v q h
  unfold kindS at h
  by_cases h0 : p = s.size
  · rw [if_pos h0] at h; cases h
  rw [if_neg h0] at h
  have hlt : p < s.size := by omega
  by_cases h1 : bt s p = 39
  · rw [if_pos h1] at h
    unfold symS at h
    dsimp only at h
    split at h
    · cases h
      have hr := rowN_le (f := symC) (s := s) (p := p + 1) (by omega)
      have e := byte_eq hlt (c := 39) h1
      rw [TL_sym, seg_ext, ← seg_append (p := p) (q := p + 1) (r := p + 1 + rowN symC s (p + 1)) (by omega) (by omega), seg_one e]; rfl
    · cases h
  rw [if_neg h1] at h
  by_cases h2 : bt s p = 45 ∨ 48 ≤ bt s p ∧ bt s p ≤ 57
  · rw [if_pos h2] at h
    unfold numS at h
    split at h
    · rename_i he
      cases h
      unfold scanS at he ⊢
      split at he
      · rename_i hz
        rw [if_pos hz]
        have hpp : parseS (s.extract p (scanE s p)) = ((parseS (s.extract p (scanE s p))).1, 0) := Prod.ext rfl hz
        rw [TL_int, print_parse hpp, seg_ext]
      · rename_i hz; exact absurd he hz
    · cases h
  rw [if_neg h2] at h
  by_cases h3 : bt s p = 34
  · rw [if_pos h3] at h
    unfold strS at h
    obtain ⟨o, rfl, q1, q2, l, q3, q4⟩ := strF_text _ _ _ _ _ h
    have e := byte_eq hlt (c := 34) h3
    have hol : o.data.toList = l := by rw [q3]; rfl
    rw [TL_str, hol, ← seg_append (p := p) (q := p + 1) (r := q) (by omega) (by omega), seg_one e, ← q4]; rfl
  rw [if_neg h3] at h
  by_cases h4 : bt s p = 91
  · rw [if_pos h4] at h
    exact hl hlt h4 v q h
  rw [if_neg h4] at h
  unfold wordS at h
  dsimp only at h
  have fin : ∀ {x : ByteArray} {u : Val}, ((s.extract p (p + rowN letterB s p)).toList == x.toList) = true → u.text = x → TL u = seg s p (p + rowN letterB s p) := fun h1 h2 => by
    unfold TL
    rw [h2, ← word_eq h1, seg_ext]
  split at h
  · rename_i hw; cases h; exact fin hw rfl
  · split at h
    · rename_i hw; cases h; exact fin hw rfl
    · split at h
      · rename_i hw; cases h; exact fin hw rfl
      · cases h

/-- What is read of a text has that text. -/
theorem read_text {s : ByteArray} : ∀ (d p : Nat), p ≤ s.size → ∀ v q, getS s d p = .ok v q → TL v = seg s p q
  | 0, p, hp => kindS_text hp fun _ _ v q h => by cases h
  | d + 1, p, hp => kindS_text hp fun hlt h91 v q h => by
    obtain ⟨more, rfl, m2, m3, m4⟩ := itemsF_text (g := getS s d) (fun q v nx hq hg => by
      have h1 := (getS_next (s := s) d q hq).1 v nx hg
      exact ⟨h1.1, h1.2, read_text d q hq v nx hg⟩) _ (p + 1) [] v q (by omega) h
    rw [if_pos rfl] at m4
    have e := byte_eq hlt (c := 91) h91
    rw [List.nil_append, TL_list, ← seg_append (p := p) (q := p + 1) (r := q) (by omega) (by omega), seg_one e, ← m4]; rfl
end Go.Proofs.YtdgjpncflkpjfaaDoor

/-! Plain law: a right value's text is read as it. -/
set_option linter.unusedVariables false
set_option linter.unusedSimpArgs false
namespace Go.Proofs.YtdgjpncflkpjfaaDoor
open Aw

theorem size0 {s : ByteArray} (h : s.size = 0) : s = ⟨#[]⟩ := data_inj (by
  have := size_toList s
  rw [h] at this
  exact List.eq_nil_of_length_eq_zero this)
inductive PCase (u8B : ByteArray → Bool) : Val → Prop where
  | nul : PCase u8B ⟨0, 0, ⟨#[]⟩, []⟩
  | fls : PCase u8B ⟨1, 0, ⟨#[]⟩, []⟩
  | tru : PCase u8B ⟨1, 1, ⟨#[]⟩, []⟩
  | int (n : Int) : PCase u8B ⟨2, n, ⟨#[]⟩, []⟩
  | sym (s : ByteArray) : nameB s = true → PCase u8B ⟨3, 0, s, []⟩
  | str (s : ByteArray) : s.size ≤ 200 → u8B s = true → PCase u8B ⟨4, 0, s, []⟩
  | lst (l : List Val) : l.length ≤ 20 → (∀ x ∈ l, x.parts u8B = true) → PCase u8B ⟨5, 0, ⟨#[]⟩, l⟩
theorem parts_cases {u8B : ByteArray → Bool} : ∀ (v : Val), v.parts u8B = true → PCase u8B v := by
  rintro ⟨k, n, s, l⟩ h
  rw [parts_def, partss_all] at h
  simp only [Bool.and_eq_true, Bool.or_eq_true, decide_eq_true_eq, List.all_eq_true] at h
  obtain ⟨⟨h1, h2⟩, h3⟩ := h
  unfold singleB at h1
  have nl : k ≠ 5 → l = [] := fun hk => by
    rcases h2 with h | h
    · exact absurd h hk
    · exact List.eq_nil_of_length_eq_zero h
  by_cases k0 : k = 0
  · rw [if_pos k0] at h1
    simp only [Bool.and_eq_true, decide_eq_true_eq] at h1
    rw [nl (by omega), size0 h1.2, h1.1, k0]; exact .nul
  rw [if_neg k0] at h1
  by_cases k1 : k = 1
  · rw [if_pos k1] at h1
    simp only [Bool.and_eq_true, Bool.or_eq_true, decide_eq_true_eq] at h1
    rw [nl (by omega), size0 h1.2, k1]
    rcases h1.1 with e | e
    · rw [e]; exact .fls
    · rw [e]; exact .tru
  rw [if_neg k1] at h1
  by_cases k2 : k = 2
  · rw [if_pos k2] at h1
    simp only [decide_eq_true_eq] at h1
    rw [nl (by omega), size0 h1, k2]; exact .int n
  rw [if_neg k2] at h1
  by_cases k3 : k = 3
  · rw [if_pos k3] at h1
    simp only [Bool.and_eq_true, decide_eq_true_eq] at h1
    rw [nl (by omega), h1.1, k3]; exact .sym s h1.2
  rw [if_neg k3] at h1
  by_cases k4 : k = 4
  · rw [if_pos k4] at h1
    simp only [Bool.and_eq_true, decide_eq_true_eq] at h1
    rw [nl (by omega), h1.1.1, k4]; exact .str s h1.1.2 h1.2
  rw [if_neg k4] at h1
  by_cases k5 : k = 5
  · rw [if_pos k5] at h1
    simp only [Bool.and_eq_true, decide_eq_true_eq] at h1
    rw [size0 h1.1.2, h1.1.1, k5]; exact .lst l h1.2 h3
  rw [if_neg k5] at h1; cases h1

theorem symC_letter {c : Int} (h : letterB c = true) : symC c = true := by simp [symC, h]
theorem symC_dig {c : Int} (h : digB c = true) : symC c = true := by
  rw [digB_iff] at h
  simp [symC, h]
theorem symC_32 : symC 32 = false := by decide
theorem symC_93 : symC 93 = false := by decide

/-- Where a value's text ends. -/
def Stops (t : ByteArray) (q : Nat) : Prop := ¬ (q < t.size ∧ symC (bt t (q : Nat)) = true)

theorem wordS_at {t : ByteArray} {p : Nat} {L : List UInt8} (h : At t p L) (hl : ∀ y ∈ L, letterB (y.toNat : Int) = true) (hs : Stops t (p + L.length)) : rowN letterB t p = L.length ∧ t.extract p (p + L.length) = ⟨L.toArray⟩ := by
  refine ⟨rowN_eq (fun k hk => ?_) (fun hh => hs ⟨hh.1, symC_letter hh.2⟩), h.ext⟩
  have hk' : L[k]? = some L[k] := List.getElem?_eq_getElem hk
  have := bt_of (h.get hk')
  exact ⟨this.2, by rw [this.1]; exact hl _ (List.getElem_mem hk)⟩
theorem ne_words {a b : List UInt8} (h : (a == b) = false) : ((⟨a.toArray⟩ : ByteArray).toList == ByteArray.toList ⟨b.toArray⟩) = false := by
  rw [ByteArray.toList_eq, ByteArray.toList_eq]; exact h
theorem eq_words (a : ByteArray) : (a.toList == a.toList) = true := beq_self_eq_true _
theorem word_null {t : ByteArray} {p : Nat} (h : At t p [110, 117, 108, 108]) (hs : Stops t (p + 4)) : wordS t p = .ok ⟨0, 0, ⟨#[]⟩, []⟩ (p + 4) := by
  obtain ⟨h1, h2⟩ := wordS_at h (by decide) hs
  unfold wordS
  dsimp only
  rw [h1]
  show (if (t.extract p (p + [110, 117, 108, 108].length)).toList == _ then _ else _) = _
  rw [h2, if_pos (eq_words _)]; rfl
theorem word_true {t : ByteArray} {p : Nat} (h : At t p [116, 114, 117, 101]) (hs : Stops t (p + 4)) : wordS t p = .ok ⟨1, 1, ⟨#[]⟩, []⟩ (p + 4) := by
  obtain ⟨h1, h2⟩ := wordS_at h (by decide) hs
  unfold wordS
  dsimp only
  rw [h1]
  show (if (t.extract p (p + [116, 114, 117, 101].length)).toList == _ then _ else _) = _
  rw [h2, if_neg (by rw [show (ByteArray.mk #[110, 117, 108, 108]) = ⟨[110, 117, 108, 108].toArray⟩ from rfl, ne_words (by decide)]; simp), if_pos (eq_words _)]; rfl
theorem word_false {t : ByteArray} {p : Nat} (h : At t p [102, 97, 108, 115, 101]) (hs : Stops t (p + 5)) : wordS t p = .ok ⟨1, 0, ⟨#[]⟩, []⟩ (p + 5) := by
  obtain ⟨h1, h2⟩ := wordS_at h (by decide) hs
  unfold wordS
  dsimp only
  rw [h1]
  show (if (t.extract p (p + [102, 97, 108, 115, 101].length)).toList == _ then _ else _) = _
  rw [h2, if_neg (by rw [show (ByteArray.mk #[110, 117, 108, 108]) = ⟨[110, 117, 108, 108].toArray⟩ from rfl, ne_words (by decide)]; simp), if_neg (by rw [show (ByteArray.mk #[116, 114, 117, 101]) = ⟨[116, 114, 117, 101].toArray⟩ from rfl, ne_words (by decide)]; simp), if_pos (eq_words _)]; rfl

theorem num_first (n : Int) : ∃ y r, (printS n).data.toList = y :: r ∧ ((y.toNat : Int) = 45 ∨ 48 ≤ (y.toNat : Int) ∧ (y.toNat : Int) ≤ 57) := by
  rw [printS_list, digL]
  split
  · exact ⟨45, _, rfl, .inl rfl⟩
  · obtain ⟨h1, _⟩ := digs_len 19 n.natAbs
    cases e : (digs 19 n.natAbs).reverse with
    | nil => have := congrArg List.length e; rw [List.length_reverse] at this; simp only [List.length_nil] at this; omega
    | cons x t =>
      have hx := digs_dig 19 n.natAbs x (by
        have : x ∈ (digs 19 n.natAbs).reverse := by rw [e]; simp
        simpa using this)
      refine ⟨UInt8.ofNat x, mapU t, rfl, .inr ?_⟩
      rw [show (UInt8.ofNat x).toNat = x by simp; omega]; omega
theorem num_read {t : ByteArray} {p : Nat} {n : Int} (h1 : -9223372036854775808 ≤ n) (h2 : n < 9223372036854775808) (h : At t p (printS n).data.toList) (hs : Stops t (p + (printS n).data.toList.length)) : numS t p = .ok ⟨2, n, ⟨#[]⟩, []⟩ (p + (printS n).data.toList.length) := by
  have hext : t.extract p (p + (printS n).data.toList.length) = printS n := by
    rw [h.ext]
  have hdg : ∀ y ∈ (digs 19 n.natAbs).reverse, 48 ≤ y ∧ y < 58 := fun y hy => digs_dig 19 n.natAbs y (by simpa using hy)
  have hE : scanE t p = p + (printS n).data.toList.length := by
    have hL := printS_list n
    rw [digL, mapU_append] at hL
    unfold scanE scanQ
    have key : ∀ q, At t q (mapU (digs 19 n.natAbs).reverse) → p + (printS n).data.toList.length = q + (digs 19 n.natAbs).reverse.length → q + runs t q = p + (printS n).data.toList.length := fun q hq hqe => by
      have : runs t q = (digs 19 n.natAbs).reverse.length := runs_eq (fun k hk => by
        obtain ⟨a, b⟩ := dig_bytes hdg hq k _ (List.getElem?_eq_getElem hk)
        have := hdg _ (List.getElem_mem hk)
        exact ⟨a, by rw [b, digB_iff]; omega⟩) (fun hh => hs (by rw [hqe]; exact ⟨hh.1, symC_dig hh.2⟩))
      omega
    by_cases hneg : n < 0
    · rw [if_pos hneg] at hL
      have hL' : (printS n).data.toList = 45 :: mapU (digs 19 n.natAbs).reverse := hL
      rw [hL'] at h
      obtain ⟨a1, a2, a3⟩ := h.head
      rw [if_pos ⟨a1, a2⟩]
      exact key (p + 1) a3 (by rw [hL']; simp [mapU]; omega)
    · rw [if_neg hneg] at hL
      have hL' : (printS n).data.toList = mapU (digs 19 n.natAbs).reverse := hL
      obtain ⟨y, r, e1, e2⟩ := num_first n
      have h' := h
      rw [e1] at h'
      obtain ⟨a1, a2, _⟩ := h'.head
      have hx : (y.toNat : Int) ≠ 45 := by
        obtain ⟨hl, _⟩ := digs_len 19 n.natAbs
        cases e : (digs 19 n.natAbs).reverse with
        | nil => have := congrArg List.length e; rw [List.length_reverse] at this; simp only [List.length_nil] at this; omega
        | cons x tl =>
          have hx := hdg x (by rw [e]; simp)
          rw [hL', e] at e1
          have : UInt8.ofNat x = y := by have := congrArg List.head? e1; simpa [mapU] using this
          rw [← this, show (UInt8.ofNat x).toNat = x by simp; omega]; omega
      rw [if_neg (fun hh => hx (by rw [← a2]; exact hh.2))]
      rw [hL'] at h
      exact key p h (by rw [hL']; simp [mapU])
  have hsc : scanS t p = (n, p + (printS n).data.toList.length, 0) := by
    unfold scanS
    rw [hE, hext, parse_print h1 h2, if_pos rfl]
  unfold numS
  rw [hsc, if_pos rfl]

theorem sym_read {t s : ByteArray} {p : Nat} (hn : nameB s = true) (h : At t p (39 :: s.data.toList)) (hs : Stops t (p + (s.data.toList.length + 1))) : symS t p = .ok ⟨3, 0, s, []⟩ (p + (s.data.toList.length + 1)) := by
  have h1 := h.head.2.2
  have hr : rowN symC t (p + 1) = s.data.toList.length := rowN_eq (fun k hk => by
    have hk' : s.data.toList[k]? = some s.data.toList[k] := List.getElem?_eq_getElem hk
    have := bt_of (h1.get hk')
    refine ⟨this.2, ?_⟩
    rw [this.1, ← (bt_of hk').1]
    unfold nameB at hn
    simp only [Bool.and_eq_true, List.all_eq_true] at hn
    exact hn.2 k (by rw [List.mem_range, ← size_toList]; exact hk)) (fun hh => hs (by rw [show p + (s.data.toList.length + 1) = p + 1 + s.data.toList.length by omega]; exact hh))
  unfold symS
  dsimp only
  rw [hr, h1.ext, show (ByteArray.mk s.data.toList.toArray) = s from rfl, if_pos hn, show p + 1 + s.data.toList.length = p + (s.data.toList.length + 1) by omega]

theorem strF_read {t : ByteArray} : ∀ (l : List UInt8) (n i : Nat) (out : ByteArray), l.length + 1 ≤ n → At t i (l.flatMap escB ++ [34]) → strF t n i out = .ok ⟨4, 0, ⟨(out.data.toList ++ l).toArray⟩, []⟩ (i + ((l.flatMap escB).length + 1))
  | [], n, i, out, hn, h => by
    obtain ⟨n, rfl⟩ : ∃ n', n = n' + 1 := ⟨n - 1, by omega⟩
    obtain ⟨a1, a2, _⟩ := At.head (y := 34) (l := []) h
    have a2 : bt t (i : Nat) = 34 := a2
    simp only [strF]
    rw [if_pos a1, if_pos a2]
    congr 2
    apply data_inj; simp
  | y :: l, n, i, out, hn, h => by
    obtain ⟨n, rfl⟩ : ∃ n', n = n' + 1 := ⟨n - 1, by omega⟩
    rw [List.length_cons] at hn
    rw [List.flatMap_cons, List.append_assoc] at h
    simp only [strF]
    have out2 : ∀ (j : Nat), t.data.toList[j]? = some y → ((out ++ t.extract j (j + 1)).data.toList ++ l).toArray = (out.data.toList ++ y :: l).toArray := fun j hj => by
      rw [append_list, seg_ext, seg_one hj]; simp
    by_cases hy : y = 34 ∨ y = 92
    · have he : escB y = [92, y] := by unfold escB; rw [if_pos hy]
      rw [he] at h
      obtain ⟨a1, a2, a3⟩ := At.head (y := 92) (l := y :: (l.flatMap escB ++ [34])) h
      obtain ⟨b1, b2, b3⟩ := a3.head
      have a2 : bt t (i : Nat) = 92 := a2
      rw [if_pos a1, if_neg (by rw [a2]; decide), if_pos a2]
      rw [if_neg (by
        rintro (e | ⟨e1, e2⟩)
        · omega
        · rcases hy with e | e
          · rw [e] at b2; exact e1 b2
          · rw [e] at b2; exact e2 b2)]
      rw [strF_read l n (i + 2) _ (by omega) b3, show i + 2 = i + 1 + 1 by omega, out2 (i + 1) (byte_eq b1 b2), List.flatMap_cons, he]
      congr 1
      simp; omega
    · have he : escB y = [y] := by unfold escB; rw [if_neg hy]
      rw [he] at h
      obtain ⟨a1, a2, a3⟩ := At.head (y := y) (l := l.flatMap escB ++ [34]) h
      rw [if_pos a1, if_neg (fun e => hy (.inl (UInt8.toNat_inj.1 (by show y.toNat = 34; omega)))), if_neg (fun e => hy (.inr (UInt8.toNat_inj.1 (by show y.toNat = 92; omega))))]
      rw [strF_read l n (i + 1) _ (by omega) a3, out2 i (byte_eq a1 a2), List.flatMap_cons, he]
      congr 1
      simp; omega

/-- How a value's text begins. -/
theorem text_first {u8B : ByteArray → Bool} {v : Val} (h : v.parts u8B = true) : ∃ y r, TL v = y :: r ∧ (y.toNat : Int) ≠ 93 ∧ (y.toNat : Int) ≠ 32 := by
  have hc := parts_cases v h
  cases hc with
  | nul => exact ⟨110, [117, 108, 108], rfl, by decide, by decide⟩
  | fls => exact ⟨102, [97, 108, 115, 101], rfl, by decide, by decide⟩
  | tru => exact ⟨116, [114, 117, 101], rfl, by decide, by decide⟩
  | int n =>
    obtain ⟨y, r, h1, h2⟩ := num_first n
    exact ⟨y, r, by rw [TL_int, h1], by omega, by omega⟩
  | sym s hs => exact ⟨39, s.data.toList, by rw [TL_sym], by decide, by decide⟩
  | str s hs hu => exact ⟨34, _, by rw [TL_str]; rfl, by decide, by decide⟩
  | lst l hl hx => exact ⟨91, _, by rw [TL_list]; rfl, by decide, by decide⟩
theorem moreT_len : ∀ (l : List Val), l.length ≤ (moreT l).length
  | [] => Nat.zero_le _
  | x :: l => by
    rw [moreT_cons]
    have := moreT_len l
    simp only [List.length_cons, List.length_append]; omega
theorem itemsT_len {l : List Val} (h : ∀ x ∈ l, TL x ≠ []) : l.length ≤ (itemsT l).length := by
  cases l with
  | nil => exact Nat.zero_le _
  | cons x l =>
    have h1 : 0 < (TL x).length := List.length_pos_iff.2 (h x (by simp))
    have h2 := moreT_len l
    show _ ≤ (TL x ++ moreT l).length
    simp only [List.length_cons, List.length_append]; omega
end Go.Proofs.YtdgjpncflkpjfaaDoor

/-! Plain law: a right value's text is read as it; how long it is. -/
set_option linter.unusedVariables false
set_option linter.unusedSimpArgs false
namespace Go.Proofs.YtdgjpncflkpjfaaDoor
open Aw

/-- A value's text at a place is read as it, or it is too deep. -/
def ReadsAt (t : ByteArray) (d p : Nat) (x : Val) : Prop := (x.deep ≤ d → getS t d p = .ok x (p + (TL x).length)) ∧ (¬ x.deep ≤ d → ∃ a, getS t d p = .no a 3)

theorem itemsF_read {u8B : ByteArray → Bool} {t : ByteArray} {d : Nat} : ∀ (l : List Val) (n i : Nat) (acc : List Val), (∀ x ∈ l, x.parts u8B = true ∧ ∀ p, At t p (TL x) → Stops t (p + (TL x).length) → ReadsAt t d p x) → l.length + 1 ≤ n →
    At t i ((if acc = [] then itemsT l else moreT l) ++ [93]) →
    ((∀ x ∈ l, x.deep ≤ d) → itemsF t (getS t d) n i acc = .ok ⟨5, 0, ⟨#[]⟩, acc ++ l⟩ (i + ((if acc = [] then itemsT l else moreT l).length + 1))) ∧ ((∃ x ∈ l, ¬ x.deep ≤ d) → ∃ a, itemsF t (getS t d) n i acc = .no a 3)
  | [], n, i, acc, hx, hn, h => by
    obtain ⟨n, rfl⟩ : ∃ n', n = n' + 1 := ⟨n - 1, by omega⟩
    have e : (if acc = [] then itemsT [] else moreT []) = [] := by split <;> rfl
    rw [e] at h ⊢
    obtain ⟨a1, a2, _⟩ := At.head (y := 93) (l := []) h
    refine ⟨fun _ => ?_, fun ⟨x, hx, _⟩ => by cases hx⟩
    simp only [itemsF]
    rw [if_pos ⟨a1, a2⟩, List.append_nil]; rfl
  | x :: l, n, i, acc, hx, hn, h => by
    obtain ⟨n, rfl⟩ : ∃ n', n = n' + 1 := ⟨n - 1, by omega⟩
    rw [List.length_cons] at hn
    obtain ⟨hp, hr⟩ := hx x (by simp)
    obtain ⟨y, r, f1, f2, f3⟩ := text_first hp
    -- where the item stands
    obtain ⟨j, hj, hjat, hhead, hlen⟩ : ∃ j, j = (if acc = [] then i else i + 1) ∧ At t j (TL x ++ (moreT l ++ [93])) ∧ (i < t.size ∧ (acc = [] → bt t (i : Nat) = (y.toNat : Int)) ∧ (acc ≠ [] → bt t (i : Nat) = 32)) ∧ i + ((if acc = [] then itemsT (x :: l) else moreT (x :: l)).length + 1) = j + (TL x).length + ((moreT l).length + 1) := by
      by_cases ha : acc = []
      · rw [if_pos ha] at h
        have h : At t i (TL x ++ (moreT l ++ [93])) := by rw [← List.append_assoc]; exact h
        have h' := h
        rw [f1] at h'
        obtain ⟨b1, b2, _⟩ := h'.head
        refine ⟨i, by rw [if_pos ha], h, ⟨b1, fun _ => b2, fun hh => absurd ha hh⟩, ?_⟩
        rw [if_pos ha]
        show i + ((TL x ++ moreT l).length + 1) = _
        rw [List.length_append]; omega
      · rw [if_neg ha, moreT_cons] at h
        have h : At t i (32 :: (TL x ++ (moreT l ++ [93]))) := by
          have : 32 :: TL x ++ moreT l ++ [93] = 32 :: (TL x ++ (moreT l ++ [93])) := by simp
          rw [← this]; exact h
        obtain ⟨b1, b2, b3⟩ := h.head
        refine ⟨i + 1, by rw [if_neg ha], b3, ⟨b1, fun hh => absurd hh ha, fun _ => b2⟩, ?_⟩
        rw [if_neg ha, moreT_cons]
        simp only [List.length_append, List.length_cons]; omega
    have hat := hjat.left
    have hrest := hjat.right
    have hstop : Stops t (j + (TL x).length) := by
      cases l with
      | nil =>
        obtain ⟨b1, b2, _⟩ := At.head (y := 93) (l := []) hrest
        have b2 : bt t (j + (TL x).length : Nat) = 93 := b2
        rintro ⟨_, h⟩
        rw [b2, symC_93] at h; cases h
      | cons z l =>
        rw [moreT_cons] at hrest
        obtain ⟨b1, b2, _⟩ := At.head (y := 32) (l := TL z ++ moreT l ++ [93]) hrest
        have b2 : bt t (j + (TL x).length : Nat) = 32 := b2
        rintro ⟨_, h⟩
        rw [b2, symC_32] at h; cases h
    obtain ⟨r1, r2⟩ := hr j hat hstop
    have hstep : itemsF t (getS t d) (n + 1) i acc = (match getS t d j with | .no a e => .no a e | .ok x next => itemsF t (getS t d) n next (acc ++ [x])) := by
      have c1 : ¬ (i < t.size ∧ bt t i = 93) := by
        rintro ⟨_, e⟩
        by_cases ha : acc = []
        · rw [hhead.2.1 ha] at e; exact f2 e
        · rw [hhead.2.2 ha] at e; cases e
      have c2 : ¬ (acc ≠ [] ∧ ¬ (i < t.size ∧ bt t i = 32)) := by
        rintro ⟨ha, hh⟩
        exact hh ⟨hhead.1, hhead.2.2 ha⟩
      conv => lhs; rw [itemsF]
      rw [if_neg c1, if_neg c2, ← hj]
      cases getS t d j <;> rfl
    rw [hstep, hlen]
    have ih := itemsF_read l n (j + (TL x).length) (acc ++ [x]) (fun z hz => hx z (by simp [hz])) (by omega) (by rw [if_neg (by simp)]; exact hrest)
    rw [if_neg (by simp)] at ih
    refine ⟨fun hd => ?_, fun hd => ?_⟩
    · rw [r1 (hd x (by simp))]
      dsimp only
      rw [ih.1 fun z hz => hd z (by simp [hz])]
      simp
    · by_cases hdx : x.deep ≤ d
      · rw [r1 hdx]
        dsimp only
        obtain ⟨z, hz, hzd⟩ := hd
        rcases List.mem_cons.1 hz with rfl | hz
        · exact absurd hdx hzd
        · exact ih.2 ⟨z, hz, hzd⟩
      · obtain ⟨a, ha⟩ := r2 hdx
        rw [ha]
        exact ⟨a, rfl⟩

theorem leaf_deep (k n : Int) (s : ByteArray) (hk : k ≠ 5) : (Val.mk k n s []).deep = 0 := by
  rw [deep_def, if_neg (by simp [hk])]; rfl
theorem getS_kind (t : ByteArray) (d p : Nat) : ∃ list, getS t d p = kindS t p list ∧ (d = 0 → list p = .no p 3) ∧ (∀ d', d = d' + 1 → list p = itemsF t (getS t d') (t.size + 1 - p) (p + 1) []) := by
  cases d with
  | zero => exact ⟨_, rfl, (fun _ => rfl), (fun d' h => by cases h)⟩
  | succ d => exact ⟨_, rfl, (fun h => by cases h), (fun d' h => by cases h; rfl)⟩

theorem reads_leaf {t : ByteArray} {d p : Nat} {k n : Int} {s : ByteArray} (hk : k ≠ 5) (h : ∀ list, kindS t p list = .ok ⟨k, n, s, []⟩ (p + (TL ⟨k, n, s, []⟩).length)) : ReadsAt t d p ⟨k, n, s, []⟩ := by
  refine ⟨fun _ => ?_, fun hd => ?_⟩
  · obtain ⟨list, h1, _⟩ := getS_kind t d p
    rw [h1]; exact h list
  · rw [leaf_deep k n s hk] at hd; omega
theorem kind_word {t : ByteArray} {p : Nat} {y : UInt8} {r : List UInt8} (h : At t p (y :: r)) (hl : letterB (y.toNat : Int) = true) (list : Nat → Res) : kindS t p list = wordS t p := by
  obtain ⟨a1, a2, _⟩ := h.head
  have hl' : 65 ≤ (y.toNat : Int) ∧ (y.toNat : Int) ≤ 90 ∨ 97 ≤ (y.toNat : Int) ∧ (y.toNat : Int) ≤ 122 := by simpa [letterB] using hl
  unfold kindS
  rw [if_neg (by omega), if_neg (by rw [a2]; omega), if_neg (by rw [a2]; omega), if_neg (by rw [a2]; omega), if_neg (by rw [a2]; omega)]

theorem text_readM {u8B : ByteArray → Bool} (m : Nat) : ∀ (v : Val), SizeOf.sizeOf v ≤ m → v.parts u8B = true → v.rng → ∀ (t : ByteArray) (d p : Nat), At t p (TL v) → (v.kind < 4 → Stops t (p + (TL v).length)) → ReadsAt t d p v := by
  induction m with
  | zero => intro v hm; cases v; simp at hm
  | succ m text_read =>
  intro v hm hv hr t d p h hs
  have hc := parts_cases v hv
  cases hc with
  | nul => exact reads_leaf (by decide) fun list => (kind_word (y := 110) (r := [117, 108, 108]) h (by decide) list).trans (word_null h (hs (show (0 : Int) < 4 by decide)))
  | fls => exact reads_leaf (by decide) fun list => (kind_word (y := 102) (r := [97, 108, 115, 101]) h (by decide) list).trans (word_false h (hs (show (1 : Int) < 4 by decide)))
  | tru => exact reads_leaf (by decide) fun list => (kind_word (y := 116) (r := [114, 117, 101]) h (by decide) list).trans (word_true h (hs (show (1 : Int) < 4 by decide)))
  | int n =>
    have hs := hs (show (2 : Int) < 4 by decide)
    rw [rng_def] at hr
    refine reads_leaf (by decide) fun list => ?_
    rw [TL_int] at h hs ⊢
    obtain ⟨y, r, e1, e2⟩ := num_first n
    have h' := h
    rw [e1] at h'
    obtain ⟨a1, a2, _⟩ := h'.head
    unfold kindS
    rw [if_neg (by omega), if_neg (by rw [a2]; omega), if_pos (by rw [a2]; exact e2)]
    exact num_read hr.1.1 hr.1.2 h hs
  | sym s hn =>
    have hs := hs (show (3 : Int) < 4 by decide)
    refine reads_leaf (by decide) fun list => ?_
    rw [TL_sym] at h hs ⊢
    obtain ⟨a1, a2, _⟩ := h.head
    have a2 : bt t (p : Nat) = 39 := a2
    unfold kindS
    rw [if_neg (by omega), if_pos a2]
    exact sym_read hn h hs
  | str s hl hu =>
    refine reads_leaf (by decide) fun list => ?_
    rw [TL_str] at h ⊢
    have h : At t p (34 :: (s.data.toList.flatMap escB ++ [34])) := h
    obtain ⟨a1, a2, a3⟩ := h.head
    have a2 : bt t (p : Nat) = 34 := a2
    unfold kindS
    rw [if_neg (by omega), if_neg (by rw [a2]; decide), if_neg (by rw [a2]; decide), if_pos a2]
    unfold strS
    have hle : s.data.toList.length ≤ (s.data.toList.flatMap escB).length := by
      have : ∀ l : List UInt8, l.length ≤ (l.flatMap escB).length := by
        intro l
        induction l with
        | nil => simp
        | cons x l ih =>
          simp only [List.flatMap_cons, List.length_append, List.length_cons]
          have : 1 ≤ (escB x).length := by unfold escB; split <;> simp
          omega
      exact this _
    have hsz := a3.1
    rw [List.length_append, List.length_cons, List.length_nil] at hsz
    rw [strF_read s.data.toList (t.size - p) (p + 1) ⟨#[]⟩ (by omega) a3]
    congr 1
    simp; omega
  | lst l hl hx =>
    rw [rng_def] at hr
    have hd0 : (Val.mk 5 0 ⟨#[]⟩ l).deep = Val.deeps 0 l + 1 := by rw [deep_def]; rfl
    have hnn := deeps_ge l 0
    rw [TL_list] at h
    have h : At t p (91 :: (itemsT l ++ [93])) := h
    obtain ⟨a1, a2, a3⟩ := h.head
    have a2 : bt t (p : Nat) = 91 := a2
    have hk : ∀ list, kindS t p list = list p := fun list => by
      unfold kindS
      rw [if_neg (by omega), if_neg (by rw [a2]; decide), if_neg (by rw [a2]; decide), if_neg (by rw [a2]; decide), if_pos a2]
    obtain ⟨list, h1, h2, h3⟩ := getS_kind t d p
    unfold ReadsAt
    rw [h1, hk, TL_list]
    cases d with
    | zero =>
      rw [h2 rfl, hd0]
      exact ⟨fun hh => by omega, fun _ => ⟨p, rfl⟩⟩
    | succ d =>
      rw [h3 d rfl, hd0]
      have hne : ∀ x ∈ l, TL x ≠ [] := fun x hxl => by
        obtain ⟨y, r, e, _⟩ := text_first (hx x hxl)
        rw [e]; simp
      have hil := itemsT_len hne
      have hsz := a3.1
      rw [List.length_append, List.length_cons, List.length_nil] at hsz
      have hi := itemsF_read (u8B := u8B) (t := t) (d := d) l (t.size + 1 - p) (p + 1) [] (fun x hxl => ⟨hx x hxl, fun q hq hst => text_read x (by have := Val.size_mem (v := ⟨5, 0, ⟨#[]⟩, l⟩) hxl; omega) (hx x hxl) (rngs_mem hr.2 x hxl) t d q hq fun _ => hst⟩) (by omega) (by rw [if_pos rfl]; exact a3)
      rw [if_pos rfl] at hi
      refine ⟨fun hh => ?_, fun hh => ?_⟩
      · rw [hi.1 fun x hxl => by have := deeps_mem l 0 x hxl; omega]
        congr 1
        simp; omega
      · refine hi.2 (Classical.byContradiction fun hn => hh ?_)
        have := deeps_le l 0 d (by omega) fun x hxl => Classical.byContradiction fun hd => hn ⟨x, hxl, hd⟩
        omega
theorem text_read {u8B : ByteArray → Bool} (v : Val) (hv : v.parts u8B = true) (hr : v.rng) (t : ByteArray) (d p : Nat) (h : At t p (TL v)) (hs : v.kind < 4 → Stops t (p + (TL v).length)) : ReadsAt t d p v :=
  text_readM _ v (Nat.le_refl _) hv hr t d p h hs

/-! ### How long a right value's text is; how small its strings are -/
theorem parts_smallM {u8B : ByteArray → Bool} (m : Nat) : ∀ (v : Val), SizeOf.sizeOf v ≤ m → v.parts u8B = true → ((TL v).length : Int) + 1 ≤ 405 * v.nodes ∧ v.ok := by
  induction m with
  | zero => intro v hm; cases v; simp at hm
  | succ m parts_small =>
  intro v hm h
  have hc := parts_cases v h
  have one : ∀ (k n : Int) (s : ByteArray), (Val.mk k n s []).nodes = 1 := fun k n s => rfl
  cases hc with
  | nul => rw [one]; exact ⟨by show ((4 : Nat) : Int) + 1 ≤ _; omega, by rw [ok_def]; exact ⟨by decide, trivial⟩⟩
  | fls => rw [one]; exact ⟨by show ((5 : Nat) : Int) + 1 ≤ _; omega, by rw [ok_def]; exact ⟨by decide, trivial⟩⟩
  | tru => rw [one]; exact ⟨by show ((4 : Nat) : Int) + 1 ≤ _; omega, by rw [ok_def]; exact ⟨by decide, trivial⟩⟩
  | int n =>
    refine ⟨?_, by rw [ok_def]; exact ⟨by show (⟨#[]⟩ : ByteArray).size < _; decide, trivial⟩⟩
    rw [one, TL_int, printS_list, digL, mapU_len, List.length_append, List.length_reverse]
    have := (digs_len 19 n.natAbs).2
    have : (if n < 0 then [45] else [] : List Nat).length ≤ 1 := by split <;> simp
    omega
  | sym s hn =>
    have hz : s.size ≤ 40 := by
      unfold nameB at hn
      simp only [Bool.and_eq_true, decide_eq_true_eq] at hn
      exact hn.1.1.2
    refine ⟨?_, by rw [ok_def]; exact ⟨by show s.size < _; omega, trivial⟩⟩
    rw [one, TL_sym, List.length_cons, size_toList]; omega
  | str s hl hu =>
    refine ⟨?_, by rw [ok_def]; exact ⟨by show s.size < _; omega, trivial⟩⟩
    rw [one, TL_str]
    have := escs_len s.data.toList
    rw [size_toList] at this
    simp only [List.length_append, List.length_cons, List.length_nil]; omega
  | lst l hl hx =>
    have hm : ∀ (l' : List Val), (∀ x ∈ l', ((TL x).length : Int) + 1 ≤ 405 * x.nodes ∧ x.ok) → ((moreT l').length : Int) ≤ 405 * Val.nodess l' ∧ Val.oks l' := by
      intro l'
      induction l' with
      | nil => intro _; exact ⟨by simp [moreT, Val.nodess], trivial⟩
      | cons x l' ih =>
        intro h
        obtain ⟨h1, h2⟩ := h x (by simp)
        obtain ⟨h3, h4⟩ := ih fun y hy => h y (by simp [hy])
        refine ⟨?_, h2, h4⟩
        rw [moreT_cons]
        simp only [List.length_append, List.length_cons, Val.nodess]; omega
    obtain ⟨h1, h2⟩ := hm l fun x hxl => parts_small x (by have := Val.size_mem (v := ⟨5, 0, ⟨#[]⟩, l⟩) hxl; omega) (hx x hxl)
    refine ⟨?_, by rw [ok_def]; exact ⟨by show (⟨#[]⟩ : ByteArray).size < _; decide, h2⟩⟩
    have hi : (itemsT l).length ≤ (moreT l).length := by
      cases l with
      | nil => exact Nat.le_refl _
      | cons x l =>
        rw [moreT_cons]
        show (TL x ++ moreT l).length ≤ _
        simp only [List.length_append, List.length_cons]; omega
    have e : (Val.mk 5 0 ⟨#[]⟩ l).nodes = 1 + Val.nodess l := rfl
    rw [e, TL_list]
    simp only [List.length_append, List.length_cons, List.length_nil]; omega
theorem parts_small {u8B : ByteArray → Bool} (v : Val) (h : v.parts u8B = true) : ((TL v).length : Int) + 1 ≤ 405 * v.nodes ∧ v.ok := parts_smallM _ v (Nat.le_refl _) h
end Go.Proofs.YtdgjpncflkpjfaaDoor
