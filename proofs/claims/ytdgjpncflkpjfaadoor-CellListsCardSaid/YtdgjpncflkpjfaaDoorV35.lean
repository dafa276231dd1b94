/- The contract of strings.Join (the shelf's, laid for this program by the kit's tools, told of abstract values). The contracts of value.quoted and Text. The contract of value.Text. -/
import Derived.Shelf.Strings.OnBuilder
import Derived.Test.YtdgjpncflkpjfaaDoorV32
/-! The contract of strings.Join (the shelf's, laid for this program by the kit's tools, told of abstract values). -/
set_option linter.unusedVariables false
set_option linter.unusedSimpArgs false
namespace Go.Proofs.YtdgjpncflkpjfaaDoor
open Go.Shelf
def lays156_ren : Go.Shelf.Ren := ⟨fun | 156 => 37 | 165 => 60 | 166 => 61 | 169 => 39 | 240 => 74 | 241 => 75 | 276 => 81 | 277 => 82 | n => n, fun | 31 => 36 | 9 => 9 | 3 => 3 | 4 => 4 | 0 => 0 | 20 => 20 | 72 => 65 | 76 => 90 | 70 => 62 | 37 => 63 | 75 => 87 | 127 => 93 | 164 => 114 | 5 => 5 | 80 => 67 | n => n, fun | n => n⟩
theorem lays156 : Go.Proofs.Lays.n156 Tryd.prog lays156_ren := {
  mixed := by kernel_rfl
  f156 := Tryd.func37.trans (congrArg some (by kernel_rfl))
  f165 := Tryd.func60.trans (congrArg some (by kernel_rfl))
  f166 := Tryd.func61.trans (congrArg some (by kernel_rfl))
  f169 := Tryd.func39.trans (congrArg some (by kernel_rfl))
  f240 := Tryd.func74.trans (congrArg some (by kernel_rfl))
  f241 := Tryd.func75.trans (congrArg some (by kernel_rfl))
  f276 := Tryd.func81.trans (congrArg some (by kernel_rfl))
  f277 := Tryd.func82.trans (congrArg some (by kernel_rfl))
  t0 := Tryd.underlying0
  a0 := Tryd.isAgg0
  z0 := Tryd.sizeOf0
  v0 := Tryd.zeroValue0
  t3 := Tryd.underlying3
  a3 := Tryd.isAgg3
  z3 := Tryd.sizeOf3
  v3 := Tryd.zeroValue3
  t4 := Tryd.underlying4
  a4 := Tryd.isAgg4
  z4 := Tryd.sizeOf4
  v4 := Tryd.zeroValue4
  t9 := Tryd.underlying9
  a9 := Tryd.isAgg9
  z9 := Tryd.sizeOf9
  v9 := Tryd.zeroValue9
  t20 := Tryd.underlying20
  a20 := Tryd.isAgg20
  z20 := Tryd.sizeOf20
  v20 := Tryd.zeroValue20
  t31 := Tryd.underlying36
  a31 := Tryd.isAgg36
  z31 := Tryd.sizeOf36
  v31 := Tryd.zeroValue36
  t37 := Tryd.underlying63
  a37 := Tryd.isAgg63
  z37 := Tryd.sizeOf63
  v37 := Tryd.zeroValue63
  t70 := Tryd.underlying62
  a70 := Tryd.isAgg62
  z70 := Tryd.sizeOf62
  v70 := Tryd.zeroValue62
  t72 := Tryd.underlying65
  a72 := Tryd.isAgg65
  z72 := Tryd.sizeOf65
  v72 := Tryd.zeroValue65
  t75 := Tryd.underlying87
  a75 := Tryd.isAgg87
  z75 := Tryd.sizeOf87
  v75 := Tryd.zeroValue87
  t76 := Tryd.underlying90
  a76 := Tryd.isAgg90
  z76 := Tryd.sizeOf90
  v76 := Tryd.zeroValue90
  t127 := Tryd.underlying93
  a127 := Tryd.isAgg93
  z127 := Tryd.sizeOf93
  v127 := Tryd.zeroValue93
  t164 := Tryd.underlying114
  a164 := Tryd.isAgg114
  z164 := Tryd.sizeOf114
  v164 := Tryd.zeroValue114 }
theorem builder_extra_156 : Builder.Extra Tryd.prog lays156_ren := {
  sizeBuilder := by kernel_rfl
  liesBuilder := by kernel_rfl
  t5 := Tryd.underlying5
  a5 := Tryd.isAgg5
  z5 := Tryd.sizeOf5
  v5 := Tryd.zeroValue5
  infoByte := by kernel_rfl
  cellsByte := by kernel_rfl
  sizeByte := by kernel_rfl
  neB5 := by decide }
open Aw

/-- A call that leaves all old blocks as they were, told of abstract values. -/
theorem pureA_below {f : Nat} {args : List AV} {r : AV} {rv : Value} (fn : ∃ fn, Tryd.prog.funcs[f]? = some fn ∧ fn.body.isSome = true ∧ (fn.name == "runtime.NumGoroutine") = false) (hr : ∀ g : G, RelV g [] r rv)
    (hc : ∀ (g : G) (w : World) (vs : List Value), (∀ b k x, g.I b k = some x → w.cell? ⟨b, k, none⟩ = some x) → RelVs g [] args vs → Calls Tryd.prog f vs.toArray w fun e w' => e = .returned rv ∧ RowKit.Below w.heap.size w w') : PureA Tryd.prog f args r := by
  intro h
  refine ⟨fn, fun g w vs hbare hs hv => (hc g w vs hs.im hv).mono ?_⟩
  rintro e w' ⟨rfl, hb⟩
  exact ⟨g, .ret r, h, hbare, ⟨hb.os, hb.tape, hb.output, hb.size, Im.le_refl _, fun b hlt hi => ⟨hb.block b hlt, hi, rfl⟩, fun _ _ _ h => h, fun _ _ h => h, rfl, fun _ _ _ h => h⟩, hs.grow hb.block hb.size, hr g, rfl, rfl⟩

def joinS (xs : List ByteArray) (sep : ByteArray) : ByteArray := ⟨(Lib.join (xs.map (·.data.toList)) sep.data.toList).toArray⟩
theorem join_pure (xs : List ByteArray) (sep : ByteArray) (hlen : (joinS xs sep).size ≤ 140737488355328) : PureA Tryd.prog 37 [.c (.sl 1 (xs.map fun x => [.v (.string x)])), .c (.v (.string sep))] (.c (.v (.string (joinS xs sep)))) := by
  refine pureA_below ⟨_, Tryd.func37, rfl, by kernel_rfl⟩ (fun g => (Rel.v _ rfl : Rel g.I _ _)) fun g w vs him hv => ?_
  match vs, hv with
  | [y1, y2], hv =>
    have e2 : y2 = .string sep := by have := hv.2.1; have this : Rel g.I _ _ := this; cases this; rfl
    subst e2
    have h1 : Rel g.I (.sl 1 (xs.map fun x => [.v (.string x)])) y1 := hv.1
    cases h1 with
    | sl _ _ A c f a0 a1 a2 a3 a4 a5 =>
      rw [List.length_map] at a1 a2 ⊢
      by_cases hx : xs = []
      · subst hx
        exact (Any.strings_Join_none lays156 builder_extra_156 A c sep w).mono fun e w' ⟨he, hw⟩ => ⟨he, hw ▸ RowKit.Below.refl _ _⟩
      · have hrow : ∀ (j : Nat) x, xs[j]? = some x → (xs.map fun x => [AC.v (.string x)])[j]? = some [AC.v (.string x)] := fun j x hj => by rw [List.getElem?_map, hj]; rfl
        obtain ⟨x0, hx0⟩ : ∃ x0, xs[0]? = some x0 := by
          cases xs with
          | nil => exact absurd rfl hx
          | cons a t => exact ⟨a, rfl⟩
        obtain ⟨b, off, hA, hI0⟩ := a4 0 _ 0 _ (hrow 0 x0 hx0) rfl
        subst hA
        have hcell : ∀ (j : Nat) x, xs[j]? = some x → w.cell? ⟨b, off + j, none⟩ = some (.string x) := fun j x hj => by
          obtain ⟨b', off', hA', hI⟩ := a4 j _ 0 _ (hrow j x hj) rfl
          cases hA'
          have h5 := a5 j _ 0 _ (hrow j x hj) rfl
          have hc := him _ _ _ hI
          simp only [Nat.mul_one, Nat.add_zero] at hc
          rw [hc]
          generalize f j 0 = fv at h5
          cases h5; rfl
        have hblt : b < w.heap.size := by
          have := hcell 0 x0 hx0
          rcases Nat.lt_or_ge b w.heap.size with h | h
          · exact h
          · simp [World.cell?, Array.getElem?_eq_none h] at this
        exact Any.strings_Join lays156 builder_extra_156 b off c xs sep w hcell hblt (by unfold lenMax at a2; omega) a1 (by simpa [joinS, ByteArray.size] using hlen)
end Go.Proofs.YtdgjpncflkpjfaaDoor

/-! The contracts of value.quoted and Text. -/
set_option linter.unusedVariables false
set_option linter.unusedSimpArgs false
namespace Go.Proofs.YtdgjpncflkpjfaaDoor
open Aw

def escB (y : UInt8) : List UInt8 := if y = 34 ∨ y = 92 then [92, y] else [y]
def quoteS (s : ByteArray) : ByteArray := ⟨(34 :: s.data.toList.flatMap escB ++ [34]).toArray⟩
theorem byte_at {s : ByteArray} {i : Nat} (hi : i < s.size) : ∃ y : UInt8, s.data.toList[i]? = some y ∧ bt s (i : Nat) = (y.toNat : Int) ∧ UInt8.ofNat (bt s (i : Nat)).toNat = y := by
  have hlt : i < s.data.toList.length := by simpa using hi
  have hb : bt s (i : Nat) = (s.data.toList[i].toNat : Int) := by
    unfold bt
    rw [List.getD_eq_getElem?_getD, Int.toNat_natCast, List.getElem?_eq_getElem hlt]; rfl
  exact ⟨_, List.getElem?_eq_getElem hlt, hb, by rw [hb]; simp⟩
theorem flat_take {l : List UInt8} {i : Nat} {y : UInt8} (h : l[i]? = some y) : (l.take (i + 1)).flatMap escB = (l.take i).flatMap escB ++ escB y := by
  obtain ⟨h1, h2⟩ := List.getElem?_eq_some_iff.1 h
  rw [List.take_succ_eq_append_getElem h1, h2]; simp
theorem escs_len (l : List UInt8) : (l.flatMap escB).length ≤ 2 * l.length := by
  induction l with
  | nil => simp
  | cons x l ih =>
    simp only [List.flatMap_cons, List.length_append, List.length_cons]
    have : (escB x).length ≤ 2 := by unfold escB; split <;> simp
    omega

set_option maxRecDepth 4000 in
set_option maxHeartbeats 1000000 in
theorem quoted_pure (s : ByteArray) (hs : s.size < 1000000000) : PureA Tryd.prog 36 [.c (.v (.string s))] (.c (.v (.string (quoteS s)))) := by
  refine PureA.of_kept fun h => ?_
  refine callsA_of (D := D4 29 [3] [15] []) ty_ok mixed Tryd.func36 rfl (by kernel_rfl) (by kernel_rfl) (by simp [D4]) ?_
  intro g vs hr
  clear hr
  intro bb hbb
  have hbb0 : h bb = none := hbb
  have kpu : ∀ {hh : Heap} (x : HO), (∀ q y, h q = some y → hh q = some y) → ∀ q y, h q = some y → upd hh bb x q = some y := fun x k q y hq => by
    rw [upd_ne _ _ (fun e => by rw [e, hbb0] at hq; cases hq)]; exact k q y hq
  have b34 : UInt8.ofNat (34 : Int).toNat = 34 := rfl
  have hfl := escs_len s.data.toList
  have hsz : s.data.toList.length = s.size := by rw [Array.length_toList]; rfl
  refine (writeByte_calls (l := []) (.inr ⟨rfl, upd_same _ _ _⟩) (by simp) (c := 34) (by omega) (by omega)).mono ?_
  rintro x h1 ⟨rfl, rfl⟩
  refine LoopA.mk ⟨⟨[0, 3, 7, 8], 0, 0⟩, fun n st => ∃ (i : Nat) (j : Int) (hh : Heap) (l : List UInt8), st = ⟨[(0, .c (.v (.string s))), (3, .c (.v (.pointer (some ⟨bb, 0, none⟩)))), (7, .c (.v (.int .i64 s.size))), (8, .c (.v (.int .i64 j)))], ⟨[], [], hh⟩⟩ ∧ i ≤ s.size ∧ n = s.size - i ∧ j = i ∧ BldIs hh bb l ∧ l = 34 :: (s.data.toList.take i).flatMap escB ∧ ∀ q y, h q = some y → hh q = some y,
    ⟨rfl, s.size, _, .refl _ _, 0, _, _, _, rfl, Nat.zero_le _, rfl, rfl, BldIs.next _, rfl, kpu _ (kpu _ fun _ _ h => h)⟩, ?_⟩
  rintro n _ ⟨i, j, hh, l, rfl, hi, rfl, rfl, hbl, hl, hkp⟩
  have hll : l.length ≤ 2 * s.size + 1 := by
    rw [hl]
    have := escs_len (s.data.toList.take i)
    simp only [List.length_cons, List.length_take] at this ⊢
    omega
  refine Br.mk (fun h1 => ?_) (fun h1 => ?_)
  · have hlt : i < s.size := by have := of_decide_eq_true h1; omega
    obtain ⟨y, y1, y2, y3⟩ := byte_at hlt
    have hft := flat_take y1
    have nx : ∀ (l' : List UInt8), l' = l ++ escB y → ∀ hh', BldIs hh' bb l' → (∀ q y, h q = some y → hh' q = some y) → ∃ (i' : Nat) (j : Int) (hh : Heap) (l : List UInt8), (⟨[(0, .c (.v (.string s))), (3, .c (.v (.pointer (some ⟨bb, 0, none⟩)))), (7, .c (.v (.int .i64 s.size))), (8, .c (.v (.int .i64 (IntKind.i64.wrap ((i : Int) + 1)))))], ⟨[], [], hh'⟩⟩ : St) = ⟨[(0, .c (.v (.string s))), (3, .c (.v (.pointer (some ⟨bb, 0, none⟩)))), (7, .c (.v (.int .i64 s.size))), (8, .c (.v (.int .i64 j)))], ⟨[], [], hh⟩⟩ ∧ i' ≤ s.size ∧ s.size - (i + 1) = s.size - i' ∧ j = i' ∧ BldIs hh bb l ∧ l = 34 :: (s.data.toList.take i').flatMap escB ∧ ∀ q y, h q = some y → hh q = some y := fun l' e hh' hb hk =>
      ⟨i + 1, _, hh', l', rfl, hlt, rfl, by rw [wrap64] <;> omega, hb, by rw [e, hl, hft]; simp, hk⟩
    have hix : 0 ≤ ((i : Nat) : Int) ∧ ((i : Nat) : Int).toNat < s.size := ⟨by omega, by omega⟩
    refine Pre.mk hix ?_
    refine Br.mk (fun h2 => ?_) (fun h2 => ?_)
    · have e : y = 34 := by
        have h2 : bt s i = 34 := eq_of_beq h2
        rw [y2] at h2
        exact UInt8.toNat_inj.1 (by show y.toNat = 34; omega)
      refine (writeByte_calls hbl (by omega) (c := 92) (by omega) (by omega)).mono ?_
      rintro x h3 ⟨rfl, rfl⟩
      refine Pre.mk hix ?_
      refine (writeByte_calls (BldIs.next _) (by simp; omega) (bt_nn s (i : Nat)) (bt_lt s (i : Nat))).mono ?_
      rintro x h3 ⟨rfl, rfl⟩
      exact ⟨rfl, s.size - (i + 1), by omega, _, .refl _ _, nx _ (by unfold escB; rw [if_pos (.inl e), y3]; simp) _ (BldIs.next _) (kpu _ (kpu _ hkp))⟩
    · have h2 : ¬ bt s i = 34 := ne_of_beq_false h2
      refine Pre.mk hix ?_
      refine Br.mk (fun h4 => ?_) (fun h4 => ?_)
      · have e : y = 92 := by
          have h4 : bt s i = 92 := eq_of_beq h4
          rw [y2] at h4
          exact UInt8.toNat_inj.1 (by show y.toNat = 92; omega)
        refine (writeByte_calls hbl (by omega) (c := 92) (by omega) (by omega)).mono ?_
        rintro x h3 ⟨rfl, rfl⟩
        refine Pre.mk hix ?_
        refine (writeByte_calls (BldIs.next _) (by simp; omega) (bt_nn s (i : Nat)) (bt_lt s (i : Nat))).mono ?_
        rintro x h3 ⟨rfl, rfl⟩
        exact ⟨rfl, s.size - (i + 1), by omega, _, .refl _ _, nx _ (by unfold escB; rw [if_pos (.inr e), y3]; simp) _ (BldIs.next _) (kpu _ (kpu _ hkp))⟩
      · have h4 : ¬ bt s i = 92 := ne_of_beq_false h4
        have e : ¬ (y = 34 ∨ y = 92) := by
          rintro (e | e)
          · rw [e] at y2; exact h2 y2
          · rw [e] at y2; exact h4 y2
        refine Pre.mk hix ?_
        refine (writeByte_calls hbl (by omega) (bt_nn s (i : Nat)) (bt_lt s (i : Nat))).mono ?_
        rintro x h3 ⟨rfl, rfl⟩
        exact ⟨rfl, s.size - (i + 1), by omega, _, .refl _ _, nx _ (by unfold escB; rw [if_neg e, y3]) _ (BldIs.next _) (kpu _ hkp)⟩
  · have he : i = s.size := by have := of_decide_eq_false h1; omega
    refine (writeByte_calls hbl (by omega) (c := 34) (by omega) (by omega)).mono ?_
    rintro x h3 ⟨rfl, rfl⟩
    refine (string_calls (BldIs.next _)).mono ?_
    rintro x h3 ⟨rfl, rfl⟩
    refine ⟨⟨_, rfl, ?_⟩, fun q y hq => ?_⟩
    · rw [b34, hl, he, ← hsz, List.take_length]; exact VLe.refl _
    · show (if q = bb then none else _) = _
      rw [if_neg (fun e => by rw [e, hbb0] at hq; cases hq)]
      exact kpu _ hkp q y hq
end Go.Proofs.YtdgjpncflkpjfaaDoor

/-! The contract of value.Text. -/
set_option linter.unusedVariables false
set_option linter.unusedSimpArgs false
namespace Go.Proofs.YtdgjpncflkpjfaaDoor
open Aw

mutual
def Val.text : Val → ByteArray
  | ⟨k, n, s, l⟩ =>
    if k = 0 then ⟨#[110, 117, 108, 108]⟩
    else if k = 1 then (if n = 0 then ⟨#[102, 97, 108, 115, 101]⟩ else ⟨#[116, 114, 117, 101]⟩)
    else if k = 2 then printS n
    else if k = 3 then (⟨#[39]⟩ : ByteArray) ++ s
    else if k = 4 then quoteS s
    else if k = 5 then ((⟨#[91]⟩ : ByteArray) ++ joinS (Val.texts l) ⟨#[32]⟩) ++ ⟨#[93]⟩
    else ⟨#[]⟩
def Val.texts : List Val → List ByteArray
  | [] => []
  | x :: xs => x.text :: Val.texts xs
end
theorem texts_eq : ∀ l : List Val, Val.texts l = l.map Val.text
  | [] => rfl
  | x :: xs => by simp [Val.texts, texts_eq xs]
theorem text_def (v : Val) : v.text = if v.kind = 0 then ⟨#[110, 117, 108, 108]⟩
    else if v.kind = 1 then (if v.n = 0 then ⟨#[102, 97, 108, 115, 101]⟩ else ⟨#[116, 114, 117, 101]⟩)
    else if v.kind = 2 then printS v.n
    else if v.kind = 3 then (⟨#[39]⟩ : ByteArray) ++ v.s
    else if v.kind = 4 then quoteS v.s
    else if v.kind = 5 then ((⟨#[91]⟩ : ByteArray) ++ joinS (Val.texts v.l) ⟨#[32]⟩) ++ ⟨#[93]⟩
    else ⟨#[]⟩ := by cases v; rfl
mutual
def Val.rng : Val → Prop
  | ⟨_, n, _, l⟩ => (-9223372036854775808 ≤ n ∧ n < 9223372036854775808) ∧ Val.rngs l
def Val.rngs : List Val → Prop
  | [] => True
  | x :: xs => x.rng ∧ Val.rngs xs
end
theorem rng_def (v : Val) : v.rng = ((-9223372036854775808 ≤ v.n ∧ v.n < 9223372036854775808) ∧ Val.rngs v.l) := by cases v; rfl
theorem rngs_mem : ∀ {l : List Val}, Val.rngs l → ∀ x ∈ l, x.rng
  | y :: l, h, x, hx => by
    rcases List.mem_cons.1 hx with rfl | hx
    · exact h.1
    · exact rngs_mem h.2 x hx
theorem join_ge (sep : List UInt8) : ∀ (l : List (List UInt8)), (∀ x ∈ l, x.length ≤ (Lib.join l sep).length) ∧ sep.length * (l.length - 1) ≤ (Lib.join l sep).length
  | [] => by simp
  | x :: l => by
    have h := Lib.join_length x l sep
    have hl : ∀ (m : List (List UInt8)), ∀ y ∈ m, y.length ≤ Lib.lens m := by
      intro m
      induction m with
      | nil => intro y hy; cases hy
      | cons z m ih =>
        intro y hy
        have e : Lib.lens (z :: m) = z.length + Lib.lens m := by simp [Lib.lens]
        rcases List.mem_cons.1 hy with rfl | hy
        · omega
        · have := ih y hy; omega
    exact ⟨fun y hy => by have := hl _ y hy; omega, by simp; omega⟩
theorem join_nil_pure (sep : ByteArray) : PureA Tryd.prog 37 [.c .nil, .c (.v (.string sep))] (.c (.v (.string ⟨#[]⟩))) := by
  refine pureA_below ⟨_, Tryd.func37, rfl, by kernel_rfl⟩ (fun g => (Rel.v _ rfl : Rel g.I _ _)) fun g w vs him hv => ?_
  match vs, hv with
  | [y1, y2], hv =>
    have e2 : y2 = .string sep := by have := hv.2.1; have this : Rel g.I _ _ := this; cases this; rfl
    have e1 : y1 = .slice none 0 0 := by have := hv.1; have this : Rel g.I _ _ := this; cases this; rfl
    subst e1 e2
    exact (Any.strings_Join_none lays156 builder_extra_156 none 0 sep w).mono fun e w' ⟨he, hw⟩ => ⟨he, hw ▸ RowKit.Below.refl _ _⟩

def strR (l : List ByteArray) : List (List AC) := l.map fun x => [AC.v (.string x)]
theorem strR_len (l : List ByteArray) : (strR l).length = l.length := by simp [strR]

set_option maxRecDepth 8000 in
theorem text_pure (v : Val) (hrng : v.rng) (hsz : v.text.size < 1000000000) : PureA Tryd.prog 16 [.agg v.ac] (.c (.v (.string v.text))) := by
  intro h
  refine callsA_of (D := D1 49 [] [] []) ty_ok mixed Tryd.func16 rfl (by kernel_rfl) (by kernel_rfl) (by simp [D1]) ?_
  intro g vs hr
  rw [Val.ac_eq]
  clear hr
  obtain ⟨T, hT⟩ : ∃ T, T = v.text := ⟨_, rfl⟩
  rw [← hT] at hsz ⊢
  rw [text_def] at hT
  rw [rng_def] at hrng
  obtain ⟨hn, hl⟩ := hrng
  refine Br.mk (fun h0 => ?_) (fun h0 => ?_)
  · rw [if_pos (eq_of_beq h0)] at hT
    exact ⟨by rw [hT]; rfl, rfl⟩
  rw [if_neg (ne_of_beq_false h0)] at hT
  refine Br.mk (fun h1 => ?_) (fun h1 => ?_)
  · rw [if_pos (eq_of_beq h1)] at hT
    refine Br.mk (fun h2 => ?_) (fun h2 => ?_)
    · rw [if_pos (eq_of_beq h2)] at hT
      exact ⟨by rw [hT]; rfl, rfl⟩
    · rw [if_neg (ne_of_beq_false h2)] at hT
      exact ⟨by rw [hT]; rfl, rfl⟩
  rw [if_neg (ne_of_beq_false h1)] at hT
  refine Br.mk (fun h2 => ?_) (fun h2 => ?_)
  · rw [if_pos (eq_of_beq h2)] at hT
    refine ⟨_, print_pure v.n hn.1 hn.2, ?_⟩
    exact ⟨by rw [hT]; rfl, rfl⟩
  rw [if_neg (ne_of_beq_false h2)] at hT
  refine Br.mk (fun h3 => ?_) (fun h3 => ?_)
  · rw [if_pos (eq_of_beq h3)] at hT
    refine Pre.mk ?_ ?_
    · rw [hT, ByteArray.size_append] at hsz
      rw [i64max]; omega
    · exact ⟨by rw [hT]; rfl, rfl⟩
  rw [if_neg (ne_of_beq_false h3)] at hT
  refine Br.mk (fun h4 => ?_) (fun h4 => ?_)
  · rw [if_pos (eq_of_beq h4)] at hT
    have hq : v.s.size ≤ (quoteS v.s).size := by
      have : ∀ l : List UInt8, l.length ≤ (l.flatMap escB).length := by
        intro l
        induction l with
        | nil => simp
        | cons x l ih =>
          simp only [List.flatMap_cons, List.length_append, List.length_cons]
          have : 1 ≤ (escB x).length := by unfold escB; split <;> simp
          omega
      have h := this v.s.data.toList
      rw [Array.length_toList] at h
      have e : v.s.size = v.s.data.size := rfl
      show _ ≤ (quoteS v.s).data.size
      unfold quoteS
      simp only [List.size_toArray, List.length_append, List.length_cons]
      omega
    refine ⟨_, quoted_pure v.s (by rw [hT] at hsz; omega), ?_⟩
    exact ⟨by rw [hT]; rfl, rfl⟩
  rw [if_neg (ne_of_beq_false h4)] at hT
  refine Br.mk (fun h5 => ?_) (fun h5 => ?_)
  rotate_left
  · rw [if_neg (ne_of_beq_false h5)] at hT
    exact ⟨by rw [hT]; rfl, rfl⟩
  rw [if_pos (eq_of_beq h5)] at hT
  have hT2 : T.size = (joinS (Val.texts v.l) ⟨#[32]⟩).size + 2 := by
    rw [hT, ByteArray.size_append, ByteArray.size_append]
    show 1 + _ + 1 = _
    omega
  have hjl : (joinS (Val.texts v.l) ⟨#[32]⟩).size = (Lib.join ((Val.texts v.l).map (·.data.toList)) [32]).length := by
    show (joinS (Val.texts v.l) ⟨#[32]⟩).data.size = _
    unfold joinS
    rw [List.size_toArray]
  obtain ⟨hj1, hj2⟩ := join_ge [32] ((Val.texts v.l).map (·.data.toList))
  rw [← hjl] at hj1 hj2
  have hlen : v.l.length < 1000000001 := by
    have e : ((Val.texts v.l).map (·.data.toList)).length = v.l.length := by rw [List.length_map, texts_eq, List.length_map]
    rw [e] at hj2
    simp only [List.length_cons, List.length_nil] at hj2
    omega
  have hsub : ∀ x ∈ v.l, x.text.size < 1000000000 := fun x hx => by
    have := hj1 x.text.data.toList (List.mem_map.2 ⟨x.text, by rw [texts_eq]; exact List.mem_map.2 ⟨x, hx, rfl⟩, rfl⟩)
    rw [Array.length_toList] at this
    have e : x.text.size = x.text.data.size := rfl
    omega
  have hpre : ∀ n : Nat, n ≤ 1000000001 → n * 16 ≤ lenMax ∧ n ≤ lenMax := fun n hn => by unfold lenMax; omega
  have fin : ∀ J, J = joinS (Val.texts v.l) ⟨#[32]⟩ → (((ByteArray.size ⟨#[91]⟩ + J.size : Nat) : Int) ≤ IntKind.i64.max) ∧ (((ByteArray.size (⟨#[91]⟩ ++ J) + ByteArray.size ⟨#[93]⟩ : Nat) : Int) ≤ IntKind.i64.max) := fun J hJ => by
    subst hJ
    rw [i64max, ByteArray.size_append]
    show ((1 + _ : Nat) : Int) ≤ _ ∧ ((1 + _ + 1 : Nat) : Int) ≤ _
    omega
  refine LoopA.mk ⟨⟨[2, 3, 33, 34, 35], 1, 1⟩, fun n st => ∃ (i : Nat) (j : Int), i ≤ v.l.length ∧ n = v.l.length - i ∧ j = i ∧
      ((i = 0 ∧ st = ⟨[(2, .c (.v (.string ⟨#[]⟩))), (3, .c .nil), (33, .c (.sl 4 (Val.acs v.l))), (34, .c (.v (.int .i64 (Val.acs v.l).length))), (35, .c (.v (.int .i64 j)))], ⟨[(24, [.v (.int .i64 v.kind), .v (.int .i64 v.n), .v (.string v.s), .sl 4 (Val.acs v.l)])], [], h⟩⟩) ∨
       (∃ rows len, 0 < i ∧ rows = strR (Val.texts (v.l.take i)) ∧ len = i ∧ st = ⟨[(2, .c (.v (.string ⟨#[]⟩))), (3, .c (.own 0 1 rows)), (33, .c (.sl 4 (Val.acs v.l))), (34, .c (.v (.int .i64 (Val.acs v.l).length))), (35, .c (.v (.int .i64 j)))], ⟨[(24, [.v (.int .i64 v.kind), .v (.int .i64 v.n), .v (.string v.s), .sl 4 (Val.acs v.l)])], [(9, 1, len)], h⟩⟩)),
    ⟨rfl, v.l.length, _, .refl _ _, 0, _, Nat.zero_le _, rfl, rfl, .inl ⟨rfl, rfl⟩⟩, ?_⟩
  rintro n st ⟨i, j, hi, rfl, rfl, hst⟩
  have hts : ∀ (hlt : i < v.l.length), strR (Val.texts (v.l.take (i + 1))) = strR (Val.texts (v.l.take i)) ++ [[AC.v (.string v.l[i].text)]] := fun hlt => by
    rw [List.take_succ_eq_append_getElem hlt, texts_eq, texts_eq, List.map_append]; simp only [strR, List.map_append, List.map_cons, List.map_nil]
  rcases hst with ⟨rfl, rfl⟩ | ⟨rows, len, hpos, rfl, rfl, rfl⟩
  · refine Br.mk (fun hb => ?_) (fun hb => ?_)
    · have hlt : 0 < v.l.length := by simpa [Val.acs_len] using hb
      have hx : v.l[0]? = some v.l[0] := List.getElem?_eq_getElem hlt
      have hmem : v.l[0] ∈ v.l := List.getElem_mem hlt
      have hI := text_pure v.l[0] (rngs_mem hl _ hmem) (hsub _ hmem)
      rw [Val.ac_eq] at hI
      refine ⟨_, ⟨by omega, Val.acs_get hx⟩, ?_⟩
      refine ⟨_, hI, ?_⟩
      have hp0 : 0 < 1 ∧ 1 * 16 ≤ lenMax ∧ 1 ≤ lenMax := ⟨by omega, hpre 1 (by omega)⟩
      refine Pre.mk hp0 ?_
      exact ⟨rfl, v.l.length - 1, by omega, _, .refl _ _, 1, _, by omega, rfl, by rw [wrap64] <;> omega, .inr ⟨_, _, by omega, by rw [hts hlt]; rfl, rfl, rfl⟩⟩
    · have he : v.l = [] := by
        have : ¬ 0 < v.l.length := by simpa [Val.acs_len] using hb
        exact List.eq_nil_of_length_eq_zero (by omega)
      refine ⟨_, join_nil_pure ⟨#[32]⟩, ?_⟩
      have hJ : (⟨#[]⟩ : ByteArray) = joinS (Val.texts v.l) ⟨#[32]⟩ := by rw [he]; rfl
      obtain ⟨f1, f2⟩ := fin _ hJ
      refine Pre.mk f1 (Pre.mk f2 ?_)
      exact ⟨by rw [hT, ← hJ]; rfl, rfl⟩
  · refine Br.mk (fun hb => ?_) (fun hb => ?_)
    · have hlt : len < v.l.length := by simpa [Val.acs_len] using hb
      have hx : v.l[len]? = some v.l[len] := List.getElem?_eq_getElem hlt
      have hmem : v.l[len] ∈ v.l := List.getElem_mem hlt
      have hI := text_pure v.l[len] (rngs_mem hl _ hmem) (hsub _ hmem)
      rw [Val.ac_eq] at hI
      refine ⟨_, ⟨by omega, Val.acs_get hx⟩, ?_⟩
      refine ⟨_, hI, ?_⟩
      have hp1 : 9 = 9 ∧ 1 = 1 ∧ 1 = 1 ∧ (strR (Val.texts (v.l.take len))).length = len ∧ (len + 1) * 16 ≤ lenMax ∧ len + 1 ≤ lenMax := ⟨rfl, rfl, rfl, by rw [strR_len, texts_eq, List.length_map, List.length_take]; omega, hpre _ (by omega)⟩
      refine Pre.mk hp1 ?_
      exact ⟨rfl, v.l.length - (len + 1), by omega, _, .refl _ _, len + 1, _, by omega, rfl, by rw [wrap64] <;> omega, .inr ⟨_, _, by omega, (hts hlt).symm, rfl, rfl⟩⟩
    · have he : len = v.l.length := by
        have : ¬ len < v.l.length := by simpa [Val.acs_len] using hb
        omega
      subst he
      rw [List.take_length] at *
      have hJ := join_pure (Val.texts v.l) ⟨#[32]⟩ (by omega)
      refine ⟨_, hJ, ?_⟩
      obtain ⟨f1, f2⟩ := fin _ rfl
      refine Pre.mk f1 (Pre.mk f2 ?_)
      exact ⟨by rw [hT]; rfl, rfl⟩
termination_by v
decreasing_by all_goals exact Val.size_mem hmem
end Go.Proofs.YtdgjpncflkpjfaaDoor
