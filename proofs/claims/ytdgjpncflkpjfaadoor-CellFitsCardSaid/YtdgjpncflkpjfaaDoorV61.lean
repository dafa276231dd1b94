/- The contract of token.Quote. The contracts of json.put, json.Print. -/
import Derived.Test.YtdgjpncflkpjfaaDoorV59
import Derived.Test.YtdgjpncflkpjfaaDoorV54
import Derived.Test.YtdgjpncflkpjfaaDoorV28
set_option linter.unusedVariables false
set_option linter.unusedSimpArgs false
namespace Go.Proofs.YtdgjpncflkpjfaaDoor
open Aw

def imp8 : List Nat := [59, 61, 39, 38]
noncomputable def D9 (nt : Nat) (esc gd ll : List Nat) : Cfg2 := { P := Tryd.prog, ty := ty, nt := nt, pure := fun f => !imp8.any (Nat.beq f), esc := fun t => esc.any (Nat.beq t), lload := fun t => ll.any (Nat.beq t), gd := fun t => gd.any (Nat.beq t) }

def hexS : ByteArray := ⟨#[48, 49, 50, 51, 52, 53, 54, 55, 56, 57, 97, 98, 99, 100, 101, 102]⟩
/-- How a byte of a text is told in JSON. -/
def escJ (y : UInt8) : List UInt8 :=
  if y = 34 ∨ y = 92 then [92, y] else if y.toNat < 32 then [92, 117, 48, 48, UInt8.ofNat (bt hexS (y.toNat / 16 : Nat)).toNat, UInt8.ofNat (bt hexS (y.toNat % 16 : Nat)).toNat] else [y]
def quoteJ (s : ByteArray) : ByteArray := if u8B s then ⟨(34 :: s.data.toList.flatMap escJ ++ [34]).toArray⟩ else ⟨#[]⟩
theorem and_f : ∀ n : Fin 256, IntKind.u8.wrap (BitVec.ofInt IntKind.u8.bits (n.val : Int) &&& BitVec.ofInt IntKind.u8.bits 15).toNat = ((n.val % 16 : Nat) : Int) := by decide +kernel
theorem shr_4 : ∀ n : Fin 256, ((n.val : Int).fdiv (2 ^ (min (4 : Int).toNat IntKind.u8.bits))) = ((n.val / 16 : Nat) : Int) := by decide +kernel
theorem flat_takeJ {l : List UInt8} {i : Nat} {y : UInt8} (h : l[i]? = some y) : (l.take (i + 1)).flatMap escJ = (l.take i).flatMap escJ ++ escJ y := by
  obtain ⟨h1, h2⟩ := List.getElem?_eq_some_iff.1 h
  rw [List.take_succ_eq_append_getElem h1, h2]; simp
theorem escJ_len (y : UInt8) : 1 ≤ (escJ y).length ∧ (escJ y).length ≤ 6 := by unfold escJ; split <;> (try split) <;> simp
theorem escsJ_len (l : List UInt8) : (l.flatMap escJ).length ≤ 6 * l.length := by
  induction l with
  | nil => simp
  | cons x l ih =>
    simp only [List.flatMap_cons, List.length_append, List.length_cons]
    have := escJ_len x
    omega
theorem BldIs.nextS {h : Heap} {b : Nat} {l r : List UInt8} (hr : r ≠ []) : BldIs (upd h b (.bld 65 5 (l ++ r))) b (l ++ r) := .inl ⟨by simp [hr], upd_same _ _ _⟩
def u00 : ByteArray := ⟨#[92, 117, 48, 48]⟩

set_option maxRecDepth 8000 in
set_option maxHeartbeats 2000000 in
theorem jquote_pure (s : ByteArray) (hs : s.size < 1000000000) : PureA Tryd.prog 62 [.c (.v (.string s))] (.c (.v (.string (quoteJ s)))) := by
  refine PureA.of_kept fun h => ?_
  refine callsA_of (D := D9 45 [3] [23] []) ty_ok mixed Tryd.func62 rfl (by kernel_rfl) (by kernel_rfl) (by simp [D9]) ?_
  intro g vs hr
  clear hr
  have hv := uvalidx_pure s hs
  obtain ⟨R, hR⟩ : ∃ R, R = quoteJ s := ⟨_, rfl⟩
  rw [← hR]
  unfold quoteJ at hR
  refine ⟨_, hv, Br.mk (fun h1 => ?_) (fun h1 => ?_)⟩
  · rw [if_neg (by rw [not_t h1]; simp)] at hR
    exact ⟨⟨_, rfl, by rw [hR]; exact VLe.refl _⟩, fun q y hq => hq⟩
  rw [if_pos (not_f h1)] at hR
  intro bb hbb
  have hbb0 : h bb = none := hbb
  have kpu : ∀ {hh : Heap} (x : HO), (∀ q y, h q = some y → hh q = some y) → ∀ q y, h q = some y → upd hh bb x q = some y := fun x k => upd_keep hbb0 k
  have b34 : UInt8.ofNat (34 : Int).toNat = 34 := rfl
  have hfl := escsJ_len s.data.toList
  have hsz : s.data.toList.length = s.size := by rw [Array.length_toList]; rfl
  refine (writeByte_calls (l := []) (.inr ⟨rfl, upd_same _ _ _⟩) (by simp) (c := 34) (by omega) (by omega)).mono ?_
  rintro x h1 ⟨rfl, rfl⟩
  refine LoopA.mk ⟨⟨[0, 2, 3, 11, 12], 0, 0⟩, fun n st => ∃ (i : Nat) (j : Int) (hh : Heap) (l : List UInt8), st = ⟨[(0, .c (.v (.string s))), (2, .c (.v (.string ⟨#[]⟩))), (3, .c (.v (.pointer (some ⟨bb, 0, none⟩)))), (11, .c (.v (.int .i64 s.size))), (12, .c (.v (.int .i64 j)))], ⟨[], [], hh⟩⟩ ∧ i ≤ s.size ∧ n = s.size - i ∧ j = i ∧ BldIs hh bb l ∧ l = 34 :: (s.data.toList.take i).flatMap escJ ∧ ∀ q y, h q = some y → hh q = some y,
    ⟨rfl, s.size, _, .refl _ _, 0, _, _, _, rfl, Nat.zero_le _, rfl, rfl, BldIs.next _, rfl, kpu _ (kpu _ fun _ _ h => h)⟩, ?_⟩
  rintro n _ ⟨i, j, hh, l, rfl, hi, rfl, rfl, hbl, hl, hkp⟩
  have hll : l.length ≤ 6 * s.size + 1 := by
    rw [hl]
    have := escsJ_len (s.data.toList.take i)
    simp only [List.length_cons, List.length_take] at this ⊢
    omega
  refine Br.mk (fun h1 => ?_) (fun h1 => ?_)
  · have hlt : i < s.size := by have := of_decide_eq_true h1; omega
    obtain ⟨y, y1, y2, y3⟩ := byte_at hlt
    have hft := flat_takeJ y1
    have nx : ∀ (l' : List UInt8), l' = l ++ escJ y → ∀ hh', BldIs hh' bb l' → (∀ q y, h q = some y → hh' q = some y) → ∃ (i' : Nat) (j : Int) (hh : Heap) (l : List UInt8), (⟨[(0, .c (.v (.string s))), (2, .c (.v (.string ⟨#[]⟩))), (3, .c (.v (.pointer (some ⟨bb, 0, none⟩)))), (11, .c (.v (.int .i64 s.size))), (12, .c (.v (.int .i64 (IntKind.i64.wrap ((i : Int) + 1)))))], ⟨[], [], hh'⟩⟩ : St) = ⟨[(0, .c (.v (.string s))), (2, .c (.v (.string ⟨#[]⟩))), (3, .c (.v (.pointer (some ⟨bb, 0, none⟩)))), (11, .c (.v (.int .i64 s.size))), (12, .c (.v (.int .i64 j)))], ⟨[], [], hh⟩⟩ ∧ i' ≤ s.size ∧ s.size - (i + 1) = s.size - i' ∧ j = i' ∧ BldIs hh bb l ∧ l = 34 :: (s.data.toList.take i').flatMap escJ ∧ ∀ q y, h q = some y → hh q = some y := fun l' e hh' hb hk =>
      ⟨i + 1, _, hh', l', rfl, hlt, rfl, by rw [wrap64] <;> omega, hb, by rw [e, hl, hft]; simp, hk⟩
    have hix : 0 ≤ ((i : Nat) : Int) ∧ ((i : Nat) : Int).toNat < s.size := ⟨by omega, by omega⟩
    have hb0 := bt_nn s (i : Nat)
    have hb1 := bt_lt s (i : Nat)
    refine Pre.mk hix ?_
    have fin : ∀ (hy : y = 34 ∨ y = 92), ((CallsA Tryd.prog 59 [.c (.v (.pointer (some ⟨bb, 0, none⟩))), .c (.v (.int .u8 92))] hh fun x h' => x = .ret (.c (.v .nilIface)) ∧ h' = upd hh bb (.bld 65 5 (l ++ [UInt8.ofNat (92 : Int).toNat]))) ∧
        (CallsA Tryd.prog 59 [.c (.v (.pointer (some ⟨bb, 0, none⟩))), .c (.v (.int .u8 (bt s (i : Nat))))] (upd hh bb (.bld 65 5 (l ++ [UInt8.ofNat (92 : Int).toNat]))) fun x h' => x = .ret (.c (.v .nilIface)) ∧ h' = upd (upd hh bb (.bld 65 5 (l ++ [UInt8.ofNat (92 : Int).toNat]))) bb (.bld 65 5 (l ++ [UInt8.ofNat (92 : Int).toNat] ++ [UInt8.ofNat (bt s (i : Nat)).toNat])))) := fun hy =>
      ⟨writeByte_calls hbl (by omega) (by omega) (by omega), writeByte_calls (BldIs.next _) (by simp; omega) hb0 hb1⟩
    refine Br.mk (fun h2 => ?_) (fun h2 => ?_)
    · have e : y = 34 := by
        have h2 : bt s i = 34 := eq_of_beq h2
        rw [y2] at h2
        exact UInt8.toNat_inj.1 (by show y.toNat = 34; omega)
      refine (fin (.inl e)).1.mono ?_
      rintro x h3 ⟨rfl, rfl⟩
      refine (fin (.inl e)).2.mono ?_
      rintro x h3 ⟨rfl, rfl⟩
      exact ⟨rfl, s.size - (i + 1), by omega, _, .refl _ _, nx _ (by unfold escJ; rw [if_pos (.inl e), y3]; simp) _ (BldIs.next _) (kpu _ (kpu _ hkp))⟩
    · have h2 : ¬ bt s i = 34 := ne_of_beq_false h2
      refine Br.mk (fun h4 => ?_) (fun h4 => ?_)
      · have e : y = 92 := by
          have h4 : bt s i = 92 := eq_of_beq h4
          rw [y2] at h4
          exact UInt8.toNat_inj.1 (by show y.toNat = 92; omega)
        refine (fin (.inr e)).1.mono ?_
        rintro x h3 ⟨rfl, rfl⟩
        refine (fin (.inr e)).2.mono ?_
        rintro x h3 ⟨rfl, rfl⟩
        exact ⟨rfl, s.size - (i + 1), by omega, _, .refl _ _, nx _ (by unfold escJ; rw [if_pos (.inr e), y3]; simp) _ (BldIs.next _) (kpu _ (kpu _ hkp))⟩
      · have h4 : ¬ bt s i = 92 := ne_of_beq_false h4
        have e : ¬ (y = 34 ∨ y = 92) := by
          rintro (e | e)
          · rw [e] at y2; exact h2 y2
          · rw [e] at y2; exact h4 y2
        refine Br.mk (fun h5 => ?_) (fun h5 => ?_)
        · have h5 : y.toNat < 32 := by have := of_decide_eq_true h5; rw [y2] at this; omega
          refine (writeString_calls hbl u00 (by show l.length + 4 ≤ _; omega) (by decide)).mono ?_
          rintro x h6 ⟨rfl, rfl⟩
          refine Pre.mk (by decide) ?_
          have hA := shr_4 ⟨y.toNat, y.toNat_lt⟩
          have hB := and_f ⟨y.toNat, y.toNat_lt⟩
          dsimp only at hA hB
          have hx1 : 0 ≤ (bt s (i : Nat)).fdiv (2 ^ (min (4 : Int).toNat IntKind.u8.bits)) ∧ ((bt s (i : Nat)).fdiv (2 ^ (min (4 : Int).toNat IntKind.u8.bits))).toNat < 16 := by rw [y2, hA]; omega
          refine Pre.mk hx1 ?_
          refine (writeByte_calls (BldIs.nextS (by decide)) (by simp only [List.length_append]; show l.length + 4 + 1 ≤ _; omega) (bt_nn hexS _) (bt_lt hexS _)).mono ?_
          rintro x h7 ⟨rfl, rfl⟩
          have hx2 : 0 ≤ IntKind.u8.wrap (BitVec.ofInt IntKind.u8.bits (bt s (i : Nat)) &&& BitVec.ofInt IntKind.u8.bits 15).toNat ∧ (IntKind.u8.wrap (BitVec.ofInt IntKind.u8.bits (bt s (i : Nat)) &&& BitVec.ofInt IntKind.u8.bits 15).toNat).toNat < 16 := by rw [y2, hB]; omega
          refine Pre.mk hx2 ?_
          refine (writeByte_calls (BldIs.next _) (by simp only [List.length_append]; show l.length + 4 + 1 + 1 ≤ _; omega) (bt_nn hexS _) (bt_lt hexS _)).mono ?_
          rintro x h8 ⟨rfl, rfl⟩
          refine ⟨rfl, s.size - (i + 1), by omega, _, .refl _ _, nx _ ?_ _ (BldIs.next _) (kpu _ (kpu _ (kpu _ hkp)))⟩
          unfold escJ
          rw [if_neg e, if_pos h5, y2, hA, hB]
          simp only [List.append_assoc]
          rfl
        · have h5 : ¬ y.toNat < 32 := by have := of_decide_eq_false h5; rw [y2] at this; omega
          refine (writeByte_calls hbl (by omega) hb0 hb1).mono ?_
          rintro x h3 ⟨rfl, rfl⟩
          exact ⟨rfl, s.size - (i + 1), by omega, _, .refl _ _, nx _ (by unfold escJ; rw [if_neg e, if_neg h5, y3]) _ (BldIs.next _) (kpu _ hkp)⟩
  · have he : i = s.size := by have := of_decide_eq_false h1; omega
    refine (writeByte_calls hbl (by omega) (c := 34) (by omega) (by omega)).mono ?_
    rintro x h3 ⟨rfl, rfl⟩
    refine (string_calls (BldIs.next _)).mono ?_
    rintro x h3 ⟨rfl, rfl⟩
    refine ⟨⟨_, rfl, ?_⟩, fun q y hq => ?_⟩
    · rw [b34, hl, he, hR, ← hsz, List.take_length]; exact VLe.refl _
    · show (if q = bb then none else _) = _
      rw [if_neg (fun e => by rw [e, hbb0] at hq; cases hq)]
      exact kpu _ hkp q y hq
end Go.Proofs.YtdgjpncflkpjfaaDoor

/-! The contracts of json.put, json.Print. -/
set_option linter.unusedVariables false
set_option linter.unusedSimpArgs false
namespace Go.Proofs.YtdgjpncflkpjfaaDoor
open Aw

mutual
/-- A thing's text. -/
def Jsn.text : Jsn → List UInt8
  | ⟨k, n, s, ns, l⟩ => if k = 0 then [110, 117, 108, 108] else if k = 1 then (if n = 0 then [102, 97, 108, 115, 101] else [116, 114, 117, 101]) else if k = 2 then (printS n).data.toList else if k = 4 then (quoteJ s).data.toList
    else (if k = 5 then 91 else 123) :: Jsn.texts true (decide (k = 6)) ns l ++ [if k = 5 then 93 else 125]
def Jsn.texts : Bool → Bool → List ByteArray → List Jsn → List UInt8
  | _, _, _, [] => []
  | first, obj, ns, x :: xs => (if first then [] else [44]) ++ (if obj then (quoteJ (ns.headD ⟨#[]⟩)).data.toList ++ [58] else []) ++ x.text ++ Jsn.texts false obj ns.tail xs
end
mutual
def Jsn.rng : Jsn → Prop
  | ⟨k, n, s, ns, l⟩ => (-9223372036854775808 ≤ n ∧ n < 9223372036854775808) ∧ Jsn.rngs l
def Jsn.rngs : List Jsn → Prop
  | [] => True
  | x :: xs => x.rng ∧ Jsn.rngs xs
end
theorem jtext_def (x : Jsn) : x.text = if x.kind = 0 then [110, 117, 108, 108] else if x.kind = 1 then (if x.n = 0 then [102, 97, 108, 115, 101] else [116, 114, 117, 101]) else if x.kind = 2 then (printS x.n).data.toList else if x.kind = 4 then (quoteJ x.s).data.toList
    else (if x.kind = 5 then 91 else 123) :: Jsn.texts true (decide (x.kind = 6)) x.names x.l ++ [if x.kind = 5 then 93 else 125] := by cases x; rfl
theorem jrng_def (x : Jsn) : x.rng = ((-9223372036854775808 ≤ x.n ∧ x.n < 9223372036854775808) ∧ Jsn.rngs x.l) := by cases x; rfl
theorem jrngs_mem : ∀ {l : List Jsn}, Jsn.rngs l → ∀ x ∈ l, x.rng
  | _ :: _, h, _, .head _ => h.1
  | _ :: _, h, _, .tail _ hx => jrngs_mem h.2 _ hx
theorem namesF_mem : ∀ {l had : List ByteArray}, namesF had l = true → ∀ x ∈ l, u8B x = true
  | y :: l, had, h, x, hx => by
    simp only [namesF, Bool.and_eq_true] at h
    cases hx with
    | head => exact h.1.2
    | tail _ hx => exact namesF_mem h.2 x hx
/-- What a right thing is made of. -/
structure RightP (x : Jsn) : Prop where
  k : 0 ≤ x.kind ∧ x.kind ≤ 6 ∧ x.kind ≠ 3
  n : x.kind = 2 ∨ x.n = 0 ∨ x.kind = 1 ∧ x.n = 1
  s : (x.kind = 4 ∨ x.s.size = 0) ∧ u8B x.s = true
  z : (x.kind = 6 ∨ x.names.length = 0) ∧ (x.kind = 6 ∨ x.kind = 5 ∨ x.l.length = 0)
  o : x.kind = 6 → x.names.length = x.l.length ∧ namesF [] x.names = true
  l : ∀ y ∈ x.l, y.right = true
theorem right_parts {x : Jsn} (h : x.right = true) : RightP x := by
  rw [jright_def] at h
  simp only [Bool.and_eq_true, Bool.or_eq_true, decide_eq_true_eq] at h
  obtain ⟨⟨⟨⟨⟨h1, h2⟩, h3⟩, h4⟩, h5⟩, h6⟩ := h
  exact ⟨h1, h2, h3, h4, fun e => h5.elim (fun f => absurd e f) id, by rw [jrights_all] at h6; exact List.all_eq_true.1 h6⟩
theorem quoteJ_ne {s : ByteArray} (h : u8B s = true) : (quoteJ s).size ≠ 0 := by
  unfold quoteJ
  rw [if_pos h]
  show (List.toArray _).size ≠ 0
  simp
theorem printS_ne (n : Int) : (printS n).size ≠ 0 := by
  obtain ⟨y, r, h, _⟩ := num_first n
  intro e
  have := size_toList (printS n)
  rw [h, e] at this
  simp at this

structure PutK (b : Nat) (l : List UInt8) (h : Heap) (e : AEnd) (h' : Heap) : Prop where
  r : e = .ret (.tup [])
  bl : BldIs h' b l
  kp : ∀ q y, q ≠ b → h q = some y → h' q = some y
theorem PutK.of {b : Nat} {l m : List UInt8} {h h' : Heap} (e : l = m) (hb : BldIs h' b l) (hk : ∀ q y, q ≠ b → h q = some y → h' q = some y) : PutK b m h (.ret (.tup [])) h' := e ▸ ⟨rfl, hb, hk⟩

set_option maxRecDepth 8000 in
set_option maxHeartbeats 2000000 in
theorem put_calls (x : Jsn) (hok : x.ok) (hx : x.right = true) (hr : x.rng) (b : Nat) (l : List UInt8) (h : Heap) (hb : BldIs h b l) (hlen : l.length + x.text.length ≤ 1000000000) :
    CallsA Tryd.prog 38 [pB b, jAV x] h (PutK b (l ++ x.text) h) := by
  refine callsA_of (D := D9 74 [] [] []) ty_ok mixed Tryd.func38 rfl (by kernel_rfl) (by kernel_rfl) (by simp [D9]) ?_
  intro g vs hrv
  obtain ⟨l1, l2⟩ := (fun (h : RelVs g [] [pB b, jAV x] vs) => (match vs, h with
    | _ :: _, h => jsn_lens h.2 : x.names.length ≤ lenMax ∧ x.l.length ≤ lenMax)) hrv
  clear hrv
  have hlm := lenMax_lt
  have hp := right_parts hx
  rw [jok_def] at hok
  rw [jrng_def] at hr
  obtain ⟨T, hT⟩ : ∃ T, T = l ++ x.text := ⟨_, rfl⟩
  have hTl : T.length ≤ 1000000000 := by rw [hT, List.length_append]; exact hlen
  rw [← hT]
  rw [jtext_def] at hT
  have kp : ∀ {hh : Heap} (y : HO), (∀ q y, q ≠ b → h q = some y → hh q = some y) → ∀ q z, q ≠ b → h q = some z → upd hh b y q = some z := fun y k q z e hq => (upd_ne _ _ e).trans (k q z e hq)
  have k0 : ∀ q y, q ≠ b → h q = some y → h q = some y := fun _ _ _ h => h
  have hls : (Jsn.acs x.l).length = x.l.length := Jsn.acs_len _
  rw [jAV]
  refine Br.mk (fun h0 => ?_) (fun h0 => ?_)
  · rw [if_pos (eq_of_beq h0)] at hT
    have hsz : l.length + 4 ≤ 1000000000 := by rw [hT] at hTl; simp at hTl; omega
    refine (writeString_calls hb ⟨#[110, 117, 108, 108]⟩ (by show l.length + 4 ≤ _; omega) (by decide)).mono ?_
    rintro e h1 ⟨rfl, rfl⟩
    exact PutK.of hT.symm (BldIs.nextS (by decide)) (kp _ k0)
  rw [if_neg (ne_of_beq_false h0)] at hT
  refine Br.mk (fun h1 => ?_) (fun h1 => ?_)
  · have h1 := eq_of_beq h1
    rw [if_pos h1] at hT
    have hn : x.n = 0 ∨ x.n = 1 := by rcases hp.n with e | e | e <;> omega
    obtain ⟨w, hw1, hw2⟩ : ∃ w : ByteArray, w = (if x.n = 0 then ⟨#[102, 97, 108, 115, 101]⟩ else ⟨#[116, 114, 117, 101]⟩) ∧ T = l ++ w.data.toList := ⟨_, rfl, by rw [hT]; rcases hn with e | e <;> rw [e] <;> rfl⟩
    have hw3 : w.size ≠ 0 ∧ w.data.toList ≠ [] := by rw [hw1]; rcases hn with e | e <;> rw [e] <;> decide
    have hsz : l.length + w.size ≤ 1000000000 := by rw [hw2, List.length_append, size_toList] at hTl; exact hTl
    have hpre : 0 ≤ x.n ∧ x.n < (2 : Nat) := by omega
    refine Pre.mk hpre ?_
    refine loadOf_at (x := .v (.string w)) rfl (by rw [hw1]; rcases hn with e | e <;> rw [e] <;> rfl) ?_
    refine (writeString_calls hb w (by omega) hw3.1).mono ?_
    rintro e h1 ⟨rfl, rfl⟩
    exact PutK.of hw2.symm (BldIs.nextS hw3.2) (kp _ k0)
  rw [if_neg (ne_of_beq_false h1)] at hT
  refine Br.mk (fun h2 => ?_) (fun h2 => ?_)
  · rw [if_pos (eq_of_beq h2)] at hT
    have hsz : l.length + (printS x.n).size ≤ 1000000000 := by rw [hT, List.length_append, size_toList] at hTl; exact hTl
    refine ⟨_, print_pure x.n hr.1.1 hr.1.2, ?_⟩
    refine (writeString_calls hb (printS x.n) (by omega) (printS_ne _)).mono ?_
    rintro e h1 ⟨rfl, rfl⟩
    refine PutK.of hT.symm (BldIs.nextS fun e => ?_) (kp _ k0)
    have := size_toList (printS x.n)
    rw [e] at this
    exact printS_ne x.n this.symm
  rw [if_neg (ne_of_beq_false h2)] at hT
  refine Br.mk (fun h3 => ?_) (fun h3 => ?_)
  · rw [if_pos (eq_of_beq h3)] at hT
    have hsz : l.length + (quoteJ x.s).size ≤ 1000000000 := by rw [hT, List.length_append, size_toList] at hTl; exact hTl
    refine ⟨_, jquote_pure x.s hok.1, ?_⟩
    refine (writeString_calls hb (quoteJ x.s) (by omega) (quoteJ_ne hp.s.2)).mono ?_
    rintro e h1 ⟨rfl, rfl⟩
    refine PutK.of hT.symm (BldIs.nextS fun e => ?_) (kp _ k0)
    have := size_toList (quoteJ x.s)
    rw [e] at this
    exact quoteJ_ne hp.s.2 this.symm
  rw [if_neg (ne_of_beq_false h3)] at hT
  have hk : x.kind = 5 ∨ x.kind = 6 := by
    have := ne_of_beq_false h0; have := ne_of_beq_false h1; have := ne_of_beq_false h2; have := ne_of_beq_false h3; have := hp.k; omega
  have hw : 0 ≤ IntKind.i64.wrap (x.kind - 5) ∧ (IntKind.i64.wrap (x.kind - 5)).toNat < 2 := by rw [wrap64] <;> omega
  have ho : UInt8.ofNat (bt ⟨#[91, 123]⟩ (IntKind.i64.wrap (x.kind - 5))).toNat = if x.kind = 5 then 91 else 123 := by rcases hk with e | e <;> rw [e] <;> decide
  have hc : UInt8.ofNat (bt ⟨#[93, 125]⟩ (IntKind.i64.wrap (x.kind - 5))).toNat = if x.kind = 5 then 93 else 125 := by rcases hk with e | e <;> rw [e] <;> decide
  refine Pre.mk hw ?_
  refine (writeByte_calls hb (by rw [hT] at hTl; simp at hTl; omega) (bt_nn _ _) (bt_lt _ _)).mono ?_
  rintro e h4 ⟨rfl, rfl⟩
  rw [ho]
  refine LoopA.mk ⟨⟨[0, 3, 15, 16, 17], 1, 0⟩, fun n st => ∃ (i : Nat) (j : Int) (H : Heap) (L : List UInt8), st = ⟨[(0, pB b), (3, .c (.loc 0 0)), (15, .c (.sl 5 (Jsn.acs x.l))), (16, .c (.v (.int .i64 (Jsn.acs x.l).length))), (17, .c (.v (.int .i64 j)))], ⟨[(39, [.v (.int .i64 x.kind), .v (.int .i64 x.n), .v (.string x.s), .sl 1 (strR x.names), .sl 5 (Jsn.acs x.l)])], [], H⟩⟩ ∧ i ≤ x.l.length ∧ n = x.l.length - i ∧ j = i ∧ BldIs H b L ∧ (∀ q y, q ≠ b → h q = some y → H q = some y) ∧
      L ++ Jsn.texts (decide (i = 0)) (decide (x.kind = 6)) (x.names.drop i) (x.l.drop i) ++ [if x.kind = 5 then 93 else 125] = T,
    ⟨rfl, x.l.length, _, .refl _ _, 0, _, _, _, rfl, Nat.zero_le _, rfl, rfl, BldIs.next _, kp _ k0, by rw [hT]; simp⟩, ?_⟩
  rintro n _ ⟨i, j, H, L, rfl, hi, rfl, rfl, hL, hHk, hTL⟩
  refine Br.mk (fun h5 => ?_) (fun h5 => ?_)
  · have hlt : i < x.l.length := by have := of_decide_eq_true h5; rw [hls] at this; omega
    have hy : x.l[i]? = some x.l[i] := List.getElem?_eq_getElem hlt
    have hmem : x.l[i] ∈ x.l := List.getElem_mem hlt
    rw [List.drop_eq_getElem_cons hlt] at hTL
    simp only [Jsn.texts] at hTL
    have hput := put_calls x.l[i] (joks_mem hok.2.2 _ hmem) (hp.l _ hmem) (jrngs_mem hr.2 _ hmem) b
    rw [jAV] at hput
    have hns : ∀ e : x.kind = 6, ∃ nm : ByteArray, x.names[i]? = some nm ∧ u8B nm = true ∧ nm.size < 1000000000 ∧ (x.names.drop i).headD ⟨#[]⟩ = nm := fun e => by
      obtain ⟨e1, e2⟩ := hp.o e
      have hlt2 : i < x.names.length := by omega
      exact ⟨x.names[i], List.getElem?_eq_getElem hlt2, namesF_mem e2 _ (List.getElem_mem hlt2), hok.2.1 _ (List.getElem_mem hlt2), by rw [List.drop_eq_getElem_cons hlt2]; rfl⟩
    have htl : (x.names.drop i).tail = x.names.drop (i + 1) := by rw [List.tail_drop]
    rw [htl] at hTL
    have hdi : decide (i + 1 = 0) = false := by simp
    rw [← hdi] at hTL
    refine ⟨_, ⟨by omega, Jsn.acs_get hy⟩, ?_⟩
    refine Br.mk (fun h6 => ?_) (fun h6 => ?_)
    · have h6 : ¬ i = 0 := by have := of_decide_eq_true h6; omega
      rw [decide_eq_false h6, if_neg (by simp)] at hTL
      refine (writeByte_calls hL (c := 44) (by rw [← hTL] at hTl; simp only [List.length_append, List.length_cons] at hTl; omega) (by omega) (by omega)).mono ?_
      rintro e h7 ⟨rfl, rfl⟩
      refine Br.mk (fun h8 => ?_) (fun h8 => ?_)
      · have h8 := eq_of_beq h8
        obtain ⟨nm, e1, e2, e3, e4⟩ := hns h8
        rw [decide_eq_true h8, if_pos rfl, e4] at hTL
        have hq := jquote_pure nm e3
        have hsz : L.length + 1 + ((quoteJ nm).size + 1) + (x.l[i].text).length ≤ 1000000000 := by
          rw [← hTL] at hTl
          simp only [List.length_append, List.length_cons, List.length_nil, size_toList] at hTl
          omega
        refine ⟨_, ⟨by omega, strR_get e1⟩, ?_⟩
        refine ⟨_, hq, ?_⟩
        refine Pre.mk (by rw [i64max]; show (((quoteJ nm).size + 1 : Nat) : Int) ≤ _; omega) ?_
        have hcs : (quoteJ nm ++ ⟨#[58]⟩).size = (quoteJ nm).size + 1 := by rw [ByteArray.size_append]; rfl
        refine (writeString_calls (l := L ++ [UInt8.ofNat (44 : Int).toNat]) (BldIs.next _) (quoteJ nm ++ ⟨#[58]⟩) (by rw [hcs]; simp only [List.length_append, List.length_cons, List.length_nil]; omega) (by rw [hcs]; omega)).mono ?_
        rintro e h9 ⟨rfl, rfl⟩
        have hne : (quoteJ nm ++ ⟨#[58]⟩ : ByteArray).data.toList ≠ [] := by rw [append_list]; simp
        refine (hput _ _ (BldIs.nextS hne) (by simp only [List.length_append, List.length_cons, List.length_nil, size_toList, hcs]; omega)).mono ?_
        rintro e h10 ⟨rfl, g2, g3⟩
        refine ⟨rfl, x.l.length - (i + 1), by omega, _, .refl _ _, i + 1, _, _, _, rfl, by omega, rfl, by rw [wrap64] <;> omega, g2, fun q z e hq => g3 q z e (kp _ (kp _ hHk) q z e hq), ?_⟩
        rw [← hTL, append_list]
        simp [List.append_assoc, h8]
      · have h8 := ne_of_beq_false h8
        rw [decide_eq_false h8, if_neg (by simp)] at hTL
        have hsz : L.length + 1 + (x.l[i].text).length ≤ 1000000000 := by
          rw [← hTL] at hTl
          simp only [List.length_append, List.length_cons, List.length_nil] at hTl
          omega
        refine (hput _ _ (BldIs.next _) (by simp only [List.length_append, List.length_cons, List.length_nil]; omega)).mono ?_
        rintro e h10 ⟨rfl, g2, g3⟩
        refine ⟨rfl, x.l.length - (i + 1), by omega, _, .refl _ _, i + 1, _, _, _, rfl, by omega, rfl, by rw [wrap64] <;> omega, g2, fun q z e hq => g3 q z e (kp _ hHk q z e hq), ?_⟩
        rw [← hTL]
        simp [List.append_assoc, h8]
    · have h6 : i = 0 := by have := of_decide_eq_false h6; omega
      rw [decide_eq_true h6, if_pos rfl] at hTL
      refine Br.mk (fun h8 => ?_) (fun h8 => ?_)
      · have h8 := eq_of_beq h8
        obtain ⟨nm, e1, e2, e3, e4⟩ := hns h8
        rw [decide_eq_true h8, if_pos rfl, e4] at hTL
        have hq := jquote_pure nm e3
        have hsz : L.length + ((quoteJ nm).size + 1) + (x.l[i].text).length ≤ 1000000000 := by
          rw [← hTL] at hTl
          simp only [List.length_append, List.length_cons, List.length_nil, size_toList] at hTl
          omega
        refine ⟨_, ⟨by omega, strR_get e1⟩, ?_⟩
        refine ⟨_, hq, ?_⟩
        refine Pre.mk (by rw [i64max]; show (((quoteJ nm).size + 1 : Nat) : Int) ≤ _; omega) ?_
        have hcs : (quoteJ nm ++ ⟨#[58]⟩).size = (quoteJ nm).size + 1 := by rw [ByteArray.size_append]; rfl
        refine (writeString_calls hL (quoteJ nm ++ ⟨#[58]⟩) (by rw [hcs]; omega) (by rw [hcs]; omega)).mono ?_
        rintro e h9 ⟨rfl, rfl⟩
        have hne : (quoteJ nm ++ ⟨#[58]⟩ : ByteArray).data.toList ≠ [] := by rw [append_list]; simp
        refine (hput _ _ (BldIs.nextS hne) (by simp only [List.length_append, List.length_cons, List.length_nil, size_toList, hcs]; omega)).mono ?_
        rintro e h10 ⟨rfl, g2, g3⟩
        refine ⟨rfl, x.l.length - (i + 1), by omega, _, .refl _ _, i + 1, _, _, _, rfl, by omega, rfl, by rw [wrap64] <;> omega, g2, fun q z e hq => g3 q z e (kp _ hHk q z e hq), ?_⟩
        rw [← hTL, append_list]
        simp [List.append_assoc, h8]
      · have h8 := ne_of_beq_false h8
        rw [decide_eq_false h8, if_neg (by simp)] at hTL
        have hsz : L.length + (x.l[i].text).length ≤ 1000000000 := by
          rw [← hTL] at hTl
          simp only [List.length_append, List.length_cons, List.length_nil] at hTl
          omega
        refine (hput _ _ hL (by omega)).mono ?_
        rintro e h10 ⟨rfl, g2, g3⟩
        refine ⟨rfl, x.l.length - (i + 1), by omega, _, .refl _ _, i + 1, _, _, _, rfl, by omega, rfl, by rw [wrap64] <;> omega, g2, fun q z e hq => g3 q z e (hHk q z e hq), ?_⟩
        rw [← hTL]
        simp [List.append_assoc, h8]
  · have he : i = x.l.length := by have := of_decide_eq_false h5; rw [hls] at this; omega
    rw [he, List.drop_length] at hTL
    refine Pre.mk hw ?_
    refine (writeByte_calls hL (by rw [← hTL] at hTl; simp only [List.length_append, List.length_cons] at hTl; omega) (bt_nn _ _) (bt_lt _ _)).mono ?_
    rintro e h7 ⟨rfl, rfl⟩
    rw [hc]
    refine PutK.of ?_ (BldIs.next _) (kp _ hHk)
    rw [← hTL]; simp [Jsn.texts]
termination_by x
decreasing_by all_goals exact Jsn.size_mem hmem

def jprintO (x : Jsn) : ByteArray × Int := if x.right then (⟨x.text.toArray⟩, 0) else (⟨#[]⟩, 1)
theorem jprint_pure (x : Jsn) (hok : x.ok) (hr : x.rng) (hlen : x.right = true → x.text.length ≤ 1000000000) : PureA Tryd.prog 18 [jAV x] (.tup [.c (.v (.string (jprintO x).1)), .c (.v (.int .i64 (jprintO x).2))]) := by
  refine PureA.of_kept fun h => ?_
  refine callsA_of (D := D9 11 [4] [] []) ty_ok mixed Tryd.func18 rfl (by kernel_rfl) (by kernel_rfl) (by simp [D9]) ?_
  intro g vs hrv
  clear hrv
  have hright := jright_pure x hok
  have hput := put_calls x hok
  obtain ⟨R, hR⟩ : ∃ R, R = jprintO x := ⟨_, rfl⟩
  rw [← hR]
  unfold jprintO at hR
  simp only [jAV] at hright hput ⊢
  refine ⟨_, hright, Br.mk (fun h1 => ?_) (fun h1 => ?_)⟩
  · rw [if_neg (by rw [not_t h1]; simp)] at hR
    exact ⟨⟨_, rfl, by rw [hR]; exact VLe.refl _⟩, fun q y hq => hq⟩
  have h1 := not_f h1
  rw [if_pos h1] at hR
  intro bb hbb
  have hbb : h bb = none := hbb
  refine (hput h1 hr bb [] _ (.inr ⟨rfl, upd_same _ _ _⟩) (by simpa using hlen h1)).mono ?_
  rintro e h2 ⟨rfl, g2, g3⟩
  refine (string_calls g2).mono ?_
  rintro e h3 ⟨rfl, rfl⟩
  refine ⟨⟨_, rfl, by rw [hR]; exact VLe.refl _⟩, fun q y hq => ?_⟩
  have hne : q ≠ bb := fun e => by rw [e, hbb] at hq; cases hq
  show (if q = bb then none else _) = _
  rw [if_neg hne]
  exact g3 q y hne ((upd_ne _ _ hne).trans hq)
end Go.Proofs.YtdgjpncflkpjfaaDoor
