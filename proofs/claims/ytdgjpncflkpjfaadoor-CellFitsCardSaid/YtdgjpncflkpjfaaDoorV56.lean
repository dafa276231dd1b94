/- Is a thing of JSON right? The contracts of json.names, json.Right. -/
import Derived.Test.YtdgjpncflkpjfaaDoorV55
set_option linter.unusedVariables false
set_option linter.unusedSimpArgs false
namespace Go.Proofs.YtdgjpncflkpjfaaDoor
open Aw

theorem uvalidx_pure (s : ByteArray) (hs : s.size < 1000000000) : PureA Tryd.prog 51 [.c (.v (.string s))] (.c (.v (.bool (u8B s)))) := by
  intro h
  refine callsA_of (D := D1 6 [] [] []) ty_ok mixed Tryd.func51 rfl (by kernel_rfl) (by kernel_rfl) (by simp [D1]) ?_
  intro g vs hr
  clear hr
  have hc := ucount_pure ucodes_pure s hs
  refine ⟨_, hc, ret_b ?_, rfl⟩
  cases u8B s with
  | true => exact decide_eq_true (by simp)
  | false => rfl

/-- Are names right, behind some that there are already? -/
def namesF : List ByteArray → List ByteArray → Bool
  | _, [] => true
  | had, s :: r => !(had.any (s == ·)) && u8B s && namesF (had ++ [s]) r
theorem slook_had (x : ByteArray) : ∀ had : List ByteArray, slook (had.map fun y => (y, true)) x = had.any (x == ·) ∧ snew (had.map fun y => (y, true)) x = !(had.any (x == ·))
  | [] => ⟨rfl, rfl⟩
  | y :: l => by
    obtain ⟨h1, h2⟩ := slook_had x l
    cases e : (x == y) with
    | true => simp only [List.map_cons, slook, snew, List.any_cons, e, if_true, Bool.true_or]; first | exact ⟨rfl, rfl⟩ | exact ⟨trivial, rfl⟩
    | false => simp only [List.map_cons, slook, snew, List.any_cons, e, h1, h2, Bool.false_or]; first | exact ⟨rfl, rfl⟩ | exact ⟨trivial, trivial⟩

set_option maxRecDepth 8000 in
theorem names_pure (l : List ByteArray) (hs : ∀ x ∈ l, x.size < 1000000000) : PureA Tryd.prog 52 [.c (.sl 1 (strR l))] (.c (.v (.bool (namesF [] l)))) := by
  refine PureA.of_kept fun h => ?_
  refine callsA_of (D := D1 24 [] [] [16]) ty_ok mixed Tryd.func52 rfl (by kernel_rfl) (by kernel_rfl) (by simp [D1]) ?_
  intro g vs hr
  have hla := jsl_len hr
  rw [strR_len] at hla
  have hlm := lenMax_lt
  clear hr
  obtain ⟨R, hR⟩ : ∃ R, R = namesF [] l := ⟨_, rfl⟩
  rw [← hR]
  intro b hb
  have hb : h b = none := hb
  have fin : ∀ (H : Heap) (x : Bool), R = x → (∀ q y, h q = some y → H q = some y) → (∃ r0, AEnd.ret (.c (.v (.bool x))) = .ret r0 ∧ VLe r0 (.c (.v (.bool R)))) ∧ ∀ q y, h q = some y → H q = some y := fun H x e k => ⟨⟨_, rfl, by rw [e]; exact VLe.refl _⟩, k⟩
  refine LoopA.mk ⟨⟨[2, 3, 7, 8, 9], 0, 0⟩, fun n st => ∃ (i : Nat) (j : Int) (H : Heap), st = ⟨[(2, .c .ff), (3, .c (.v (.map (some b)))), (7, .c (.sl 1 (strR l))), (8, .c (.v (.int .i64 (strR l).length))), (9, .c (.v (.int .i64 j)))], ⟨[], [], H⟩⟩ ∧ i ≤ l.length ∧ n = l.length - i ∧ j = i ∧ H b = some (.smap ((l.take i).map fun y => (y, true))) ∧ (∀ q y, h q = some y → H q = some y) ∧ R = namesF (l.take i) (l.drop i),
    ⟨rfl, l.length, _, .refl _ _, 0, _, _, rfl, Nat.zero_le _, rfl, rfl, upd_same _ _ _, fun q y hq => by
      show upd h b _ q = _
      rw [upd_ne _ _ (fun e => by rw [e, hb] at hq; cases hq)]; exact hq, hR⟩, ?_⟩
  rintro n _ ⟨i, j, H, rfl, hi, rfl, rfl, hH, hk, hRi⟩
  refine Br.mk (fun h1 => ?_) (fun h1 => ?_)
  · have hlt : i < l.length := by have := of_decide_eq_true h1; rw [strR_len] at this; omega
    have hx : l[i]? = some l[i] := List.getElem?_eq_getElem hlt
    rw [List.drop_eq_getElem_cons hlt] at hRi
    simp only [namesF] at hRi
    have hv := uvalidx_pure l[i] (hs _ (List.getElem_mem hlt))
    obtain ⟨hl1, hl2⟩ := slook_had l[i] (l.take i)
    refine ⟨_, ⟨by omega, strR_get hx⟩, ?_⟩
    refine ⟨_, hH, ?_⟩
    refine Br.mk (fun h2 => ?_) (fun h2 => ?_)
    · rw [← hl1, h2] at hRi
      exact ⟨⟨_, rfl, by rw [hRi]; exact VLe.refl _⟩, hk⟩
    · rw [← hl1, h2] at hRi
      refine ⟨_, hv, Br.mk (fun h3 => ?_) (fun h3 => ?_)⟩
      · rw [not_t h3] at hRi
        exact ⟨⟨_, rfl, by rw [hRi]; exact VLe.refl _⟩, hk⟩
      · rw [not_f h3] at hRi
        refine ⟨_, ⟨hH, by rw [hl2, ← hl1, h2]; rfl⟩, ?_⟩
        refine ⟨rfl, l.length - (i + 1), by omega, _, .refl _ _, i + 1, _, _, rfl, by omega, rfl, by rw [wrap64] <;> omega, ?_, fun q y hq => ?_, ?_⟩
        · refine (upd_same _ _ _).trans ?_
          rw [List.take_succ_eq_append_getElem hlt, List.map_append]; rfl
        · show upd H b _ q = _
          rw [upd_ne _ _ (fun e => by rw [e, hb] at hq; cases hq)]; exact hk q y hq
        · rw [hRi, List.take_succ_eq_append_getElem hlt]; rfl
  · have he : i = l.length := by have := of_decide_eq_false h1; rw [strR_len] at this; omega
    rw [he, List.drop_length] at hRi
    exact ⟨⟨_, rfl, by rw [hRi]; exact VLe.refl _⟩, hk⟩

mutual
def Jsn.right : Jsn → Bool
  | ⟨k, n, s, ns, l⟩ => decide (0 ≤ k ∧ k ≤ 6 ∧ k ≠ 3) && decide (k = 2 ∨ n = 0 ∨ k = 1 ∧ n = 1) && (decide (k = 4 ∨ s.size = 0) && u8B s) && decide ((k = 6 ∨ ns.length = 0) ∧ (k = 6 ∨ k = 5 ∨ l.length = 0)) && (decide (k ≠ 6) || (decide (ns.length = l.length) && namesF [] ns)) && Jsn.rights l
def Jsn.rights : List Jsn → Bool
  | [] => true
  | x :: xs => x.right && Jsn.rights xs
end
theorem jright_def (x : Jsn) : x.right = (decide (0 ≤ x.kind ∧ x.kind ≤ 6 ∧ x.kind ≠ 3) && decide (x.kind = 2 ∨ x.n = 0 ∨ x.kind = 1 ∧ x.n = 1) && (decide (x.kind = 4 ∨ x.s.size = 0) && u8B x.s) && decide ((x.kind = 6 ∨ x.names.length = 0) ∧ (x.kind = 6 ∨ x.kind = 5 ∨ x.l.length = 0)) && (decide (x.kind ≠ 6) || (decide (x.names.length = x.l.length) && namesF [] x.names)) && Jsn.rights x.l) := by cases x; rfl
theorem jrights_all : ∀ l : List Jsn, Jsn.rights l = l.all Jsn.right
  | [] => rfl
  | x :: xs => by simp [Jsn.rights, jrights_all xs]
-- No string is longer than Go's memory lets it be told of here.
mutual
def Jsn.ok : Jsn → Prop
  | ⟨k, n, s, ns, l⟩ => s.size < 1000000000 ∧ (∀ x ∈ ns, x.size < 1000000000) ∧ Jsn.oks l
def Jsn.oks : List Jsn → Prop
  | [] => True
  | x :: xs => x.ok ∧ Jsn.oks xs
end
theorem jok_def (x : Jsn) : x.ok = (x.s.size < 1000000000 ∧ (∀ y ∈ x.names, y.size < 1000000000) ∧ Jsn.oks x.l) := by cases x; rfl
theorem joks_mem : ∀ {l : List Jsn}, Jsn.oks l → ∀ x ∈ l, x.ok
  | _ :: _, h, _, .head _ => h.1
  | _ :: _, h, _, .tail _ hx => joks_mem h.2 _ hx

theorem contains_pure (l : List Jsn) (IH : ∀ x ∈ l, PureA Tryd.prog 30 [jAV x] (.c (.v (.bool x.right)))) :
    PureA Tryd.prog 53 [.c (.sl 5 (Jsn.acs l)), .c (.v (.func (.func 54) #[] #[]))] (.c (.v (.bool (!Jsn.rights l)))) := by
  have one : ∀ x ∈ l, PureA Tryd.prog 54 [jAV x] (.c (.v (.bool (!x.right)))) := fun x hx h => by
    refine callsA_of (D := D1 6 [] [] []) ty_ok mixed Tryd.func54 rfl (by kernel_rfl) (by kernel_rfl) (by simp [D1]) ?_
    intro g vs hr
    clear hr
    have hI := IH x hx
    rw [jAV] at hI ⊢
    exact ⟨_, hI, rfl, rfl⟩
  have idx : PureA Tryd.prog 70 [.c (.sl 5 (Jsn.acs l)), .c (.v (.func (.func 54) #[] #[]))] (.c (.v (.int .i64 (if Jsn.rights l then -1 else (l.takeWhile Jsn.right).length)))) := by
    intro h
    refine callsA_of (D := D1 19 [] [] []) ty_ok mixed Tryd.func70 rfl (by kernel_rfl) (by kernel_rfl) (by simp [D1]) ?_
    intro g vs hr
    have hla := jsl_len hr
    rw [Jsn.acs_len] at hla
    have hlm := lenMax_lt
    clear hr
    obtain ⟨R, hR⟩ : ∃ R : Int, R = if Jsn.rights l then -1 else ((l.takeWhile Jsn.right).length : Int) := ⟨_, rfl⟩
    rw [← hR]
    refine LoopA.mk ⟨⟨[0, 1, 4, 7, 8], 0, 0⟩, fun n st => ∃ (i : Nat) (j : Int), st = ⟨[(0, .c (.sl 5 (Jsn.acs l))), (1, .c (.v (.func (.func 54) #[] #[]))), (4, .c (.v (.int .i64 0))), (7, .c (.v (.int .i64 (Jsn.acs l).length))), (8, .c (.v (.int .i64 j)))], ⟨[], [], h⟩⟩ ∧ i ≤ l.length ∧ n = l.length - i ∧ j = i ∧ R = if Jsn.rights (l.drop i) then -1 else ((i + ((l.drop i).takeWhile Jsn.right).length : Nat) : Int),
      ⟨rfl, l.length, _, .refl _ _, 0, _, rfl, Nat.zero_le _, rfl, rfl, by rw [hR]; simp⟩, ?_⟩
    rintro n _ ⟨i, j, rfl, hi, rfl, rfl, hRi⟩
    refine Br.mk (fun h1 => ?_) (fun h1 => ?_)
    · have hlt : i < l.length := by have := of_decide_eq_true h1; rw [Jsn.acs_len] at this; omega
      have hx : l[i]? = some l[i] := List.getElem?_eq_getElem hlt
      have hI := one l[i] (List.getElem_mem hlt)
      rw [jAV] at hI
      rw [List.drop_eq_getElem_cons hlt] at hRi
      simp only [Jsn.rights, List.takeWhile_cons] at hRi
      refine ⟨_, ⟨by omega, Jsn.acs_get hx⟩, ?_⟩
      refine ⟨_, hI, Br.mk (fun h2 => ?_) (fun h2 => ?_)⟩
      · rw [not_t h2] at hRi
        exact ⟨ret_i (by rw [hRi]; simp), rfl⟩
      · rw [not_f h2] at hRi
        refine ⟨rfl, l.length - (i + 1), by omega, _, .refl _ _, i + 1, _, rfl, by omega, rfl, by rw [wrap64] <;> omega, ?_⟩
        rw [hRi, Bool.true_and]
        simp only [if_true, List.length_cons]
        split
        · rfl
        · omega
    · have he : i = l.length := by have := of_decide_eq_false h1; rw [Jsn.acs_len] at this; omega
      rw [he, List.drop_length] at hRi
      exact ⟨ret_i (by rw [hRi]; rfl), rfl⟩
  intro h
  refine callsA_of (D := D1 9 [] [] []) ty_ok mixed Tryd.func53 rfl (by kernel_rfl) (by kernel_rfl) (by simp [D1]) ?_
  intro g vs hr
  clear hr
  refine ⟨_, idx, ret_b ?_, rfl⟩
  cases Jsn.rights l with
  | true => rfl
  | false => exact decide_eq_true (by simp)
end Go.Proofs.YtdgjpncflkpjfaaDoor
