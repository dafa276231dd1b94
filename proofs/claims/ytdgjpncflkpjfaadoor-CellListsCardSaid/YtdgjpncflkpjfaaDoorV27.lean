/- strings.Builder: the contracts of WriteByte and String, told of abstract values. -/
import Derived.Test.YtdgjpncflkpjfaaDoorV25
import Derived.Test.YtdgjpncflkpjfaaDoorAw9
set_option linter.unusedVariables false
set_option linter.unusedSimpArgs false
namespace Go.Proofs.YtdgjpncflkpjfaaDoor
open Aw

/-- A builder's bytes; before the first write it is a variable as any other. -/
def BldIs (h : Heap) (b : Nat) (l : List UInt8) : Prop := (l ≠ [] ∧ h b = some (.bld 65 5 l)) ∨ (l = [] ∧ h b = some (.cells 65 [.v (.pointer none), .nil]))

theorem byteV_eq (l : List UInt8) : byteV l = Lib.byteCells l := rfl
theorem BldIs.low {h : Heap} {b : Nat} {l : List UInt8} (hb : BldIs h b l) {g : G} {w : World} (hs : Sim g w ⟨[], [], h⟩) :
    b < w.heap.size ∧ g.role b = .glob b ∧ ∃ p v, (p = .pointer none ∨ p = .pointer (some ⟨b, 0, none⟩)) ∧ w.heap[b]? = some (.cells #[p, v] 65 (0, 0)) ∧ w.ownsRow 0 5 1 v l.length (byteV l) ∧ (∀ q, v.ownBlock = some q → q ≠ b ∧ g.role q = .glob b) ∧ (l = [] → v = .slice none 0 0) := by
  rcases hb with ⟨hne, hb⟩ | ⟨rfl, hb⟩
  · obtain ⟨h1, h2, p, v, h3, h4, h5, h6⟩ := hs.glob b _ hb
    exact ⟨h1, h2, p, v, h3, h4, h5, h6, fun e => absurd e hne⟩
  · obtain ⟨h1, h2, ys, h3, h4⟩ := hs.glob b _ hb
    match ys, h4 with
    | [y1, y2], h4 =>
      have e1 : y1 = .pointer none := by have := h4.1; cases this; rfl
      have e2 : y2 = .slice none 0 0 := by have := h4.2.1; cases this; rfl
      subst e1 e2
      exact ⟨h1, h2, _, _, .inl rfl, h3, World.ownsRow_nil w 0 _ 1, fun q hq => (by cases hq), fun _ => rfl⟩

/-- A builder has been worked on; all else is as it was. -/
theorem bld_step {g : G} {w w' : World} {h : Heap} {b : Nat} {v : Value} (hbare : Bare g) (hs : Sim g w ⟨[], [], h⟩) (hrb : g.role b = .glob b) (hblt : b < w.heap.size) (hv : ∀ q, v.ownBlock = some q → q ≠ b ∧ g.role q = .glob b)
    (hos : w'.os = w.os) (htape : w'.tape = w.tape) (hout : w'.output = w.output) (hsz : w.heap.size ≤ w'.heap.size) (hsame : ∀ k, k < w.heap.size → k ≠ b → v.ownBlock ≠ some k → w'.heap[k]? = w.heap[k]?) (nr : Option Nat) (hnr : ∀ q, nr = some q → q < w'.heap.size)
    (ho : Option HO) (hho : ∀ (g' : G) (x : HO), g'.role = (fun q => if w.heap.size ≤ q ∧ nr = some q then .glob b else g.role q) → ho = some x → g'.role b = x.role b ∧ HRel g' w' b x) :
    ∃ g', Bare g' ∧ Fra g w g' w' ∧ Sim g' w' ⟨[], [], fun q => if q = b then ho else h q⟩ ∧ g'.I = g.I := by
  let g' : G := { g with role := fun q => if w.heap.size ≤ q ∧ nr = some q then .glob b else g.role q }
  have hrole : ∀ q, q < w.heap.size → g'.role q = g.role q := fun q hq => by
    show (if w.heap.size ≤ q ∧ nr = some q then _ else g.role q) = _
    rw [if_neg (by omega)]
  have same : ∀ q, q < w.heap.size → g.role q ≠ .glob b → w'.heap[q]? = w.heap[q]? := fun q hq hr => by
    refine hsame q hq (fun e => hr (by rw [e]; exact hrb)) (fun e => hr (hv q e).2)
  have him : ∀ q k x, g.I q k = some x → w'.cell? ⟨q, k, none⟩ = some x := fun q k x hx => by
    rw [World.cell?_of_block (w := w) (a := ⟨q, k, none⟩) (same q (hs.im_lt hx) fun e => ?_)]
    · exact hs.im q k x hx
    · rcases hs.imr q k x hx with h1 | ⟨n, h1⟩ | h1 <;> rw [h1] at e <;> cases e
  have hJ : FraJ g w g' w' := ⟨Im.le_refl _, him, hsz, fun q hq hr => ⟨by rw [hrole q hq]; exact hr, same q hq (by rw [hr]; exact fun e => by cases e), rfl⟩⟩
  refine ⟨g', ⟨hbare.bl, hbare.tk, fun q => ?_⟩, ⟨hos, htape, hout, hsz, Im.le_refl _, fun q hq hr => ⟨same q hq (by rw [hr]; exact fun e => by cases e), by rw [hrole q hq]; exact hr, rfl⟩, fun q x hq hr => by rw [hrole q hq]; exact hr, fun q hq hr => by rw [hrole q hq]; exact hr, rfl, fun _ _ _ h => h⟩, ?_, rfl⟩
  · show (if w.heap.size ≤ q ∧ nr = some q then Role.glob b else g.role q).plain
    split
    · exact .inr (.inl ⟨_, rfl⟩)
    · exact hbare.role q
  · constructor
    · exact him
    · intro q k x hx
      rw [hrole q (hs.im_lt hx)]
      exact hs.imr q k x hx
    · intro q hq
      show (if w.heap.size ≤ q ∧ nr = some q then _ else g.role q) = _
      rw [if_neg (fun e => by have := hnr q e.2; omega)]
      exact hs.fresh q (by omega)
    · intro n q h1; have : g.bl[n]? = some q := h1; rw [hbare.bl] at this; simp at this
    · exact hs.blen
    · intro n q T cs h1; have : g.bl[n]? = some q := h1; rw [hbare.bl] at this; simp at this
    · exact hs.tlen
    · intro n v e sz len h1; have : g.tk[n]? = some v := h1; rw [hbare.tk] at this; simp at this
    · intro q x hx
      by_cases e : q = b
      · subst e
        have hx' : ho = some x := by simpa using hx
        obtain ⟨h1, h2⟩ := hho g' x rfl hx'
        exact ⟨by omega, h1, h2⟩
      · have hx' : h q = some x := by simpa [e] using hx
        exact hs.globKeep hJ hx' fun k hk hr => ⟨same k hk (by rw [hr]; intro e'; cases e'; exact e rfl), by rw [hrole k hk]; exact hr⟩

theorem upd_eq (h : Heap) (b : Nat) (x : HO) : (fun q => if q = b then some x else h q) = upd h b x := rfl
def drop (h : Heap) (b : Nat) : Heap := fun q => if q = b then none else h q

theorem writeByte_calls {h : Heap} {b : Nat} {l : List UInt8} (hb : BldIs h b l) (hl : l.length + 1 ≤ 140737488355328) {c : Int} (h0 : 0 ≤ c) (h1 : c < 256) :
    CallsA Tryd.prog 59 [.c (.v (.pointer (some ⟨b, 0, none⟩))), .c (.v (.int .u8 c))] h fun x h' => x = .ret (.c (.v .nilIface)) ∧ h' = upd h b (.bld 65 5 (l ++ [UInt8.ofNat c.toNat])) := by
  refine ⟨⟨_, Tryd.func59, rfl, by kernel_rfl⟩, fun g w vs hbare hs hr => ?_⟩
  match vs, hr with
  | [y1, y2], hr =>
    have e1 : y1 = .pointer (some ⟨b, 0, none⟩) := by have := hr.1; have this : Rel g.I _ _ := this; cases this; rfl
    have e2 : y2 = .int .u8 c := by have := hr.2.1; have this : Rel g.I _ _ := this; cases this; rfl
    subst e1 e2
    obtain ⟨q1, q2, p, v, q3, q4, q5, q6, _⟩ := hb.low hs
    have hlen : (byteV l).length = l.length := by simp [byteV]
    refine (bld_writeByte b p v (byteV l) c w q3 q4 (by rw [hlen]; exact q5) (fun e => (q6 b e).1 rfl) (by rw [hlen]; exact hl)).mono ?_
    rintro e w' ⟨rfl, hf, v', k1, k2, k3⟩
    have hlt' : ∀ q, v'.ownBlock = some q → q < w'.heap.size := fun q hq => by
      rcases k2.2 with ⟨h, _⟩ | ⟨g, cap, cur, a1, a2, a3, a4⟩
      · rw [h] at hq; cases hq
      · rw [a1] at hq; cases hq; exact (Array.getElem?_eq_some_iff.1 a3).1
    obtain ⟨g', a1, a2, a3, a4⟩ := bld_step (w' := w') hbare hs q2 q1 q6 hf.os hf.tape hf.output hf.size hf.same v'.ownBlock hlt' (some (.bld 65 5 (l ++ [UInt8.ofNat c.toNat]))) (fun g' x hg' hx => by
      cases hx
      refine ⟨by rw [hg']; show (if w.heap.size ≤ b ∧ _ then _ else g.role b) = _; rw [if_neg (by omega)]; exact q2, _, v', .inr rfl, k1, ?_, fun q hq => ⟨(k3 q hq).1, ?_⟩⟩
      · have hc : ((UInt8.ofNat c.toNat).toNat : Int) = c := by simp; omega
        have : byteV (l ++ [UInt8.ofNat c.toNat]) = byteV l ++ [.int .u8 c] := by
          unfold byteV
          rw [List.map_append]
          simp only [List.map_cons, List.map_nil]
          rw [hc]
        rw [this, List.length_append]
        rw [hlen] at k2
        exact k2
      · rw [hg']
        rcases (k3 q hq).2 with h | h
        · show (if w.heap.size ≤ q ∧ _ then _ else g.role q) = _
          split
          · rfl
          · exact (q6 q h).2
        · exact if_pos ⟨h, hq⟩)
    exact ⟨g', .ret (.c (.v .nilIface)), _, a1, a2, a3, (Rel.v _ rfl : Rel g'.I _ _), rfl, rfl⟩

theorem string_calls {h : Heap} {b : Nat} {l : List UInt8} (hb : BldIs h b l) :
    CallsA Tryd.prog 39 [.c (.v (.pointer (some ⟨b, 0, none⟩)))] h fun x h' => x = .ret (.c (.v (.string ⟨l.toArray⟩))) ∧ h' = drop h b := by
  refine ⟨⟨_, Tryd.func39, rfl, by kernel_rfl⟩, fun g w vs hbare hs hr => ?_⟩
  match vs, hr with
  | [y1], hr =>
    have e1 : y1 = .pointer (some ⟨b, 0, none⟩) := by have := hr.1; have this : Rel g.I _ _ := this; cases this; rfl
    subst e1
    obtain ⟨q1, q2, p, v, q3, q4, q5, q6, q7⟩ := hb.low hs
    have fin : ∀ (w' : World), w'.os = w.os → w'.tape = w.tape → w'.output = w.output → w.heap.size ≤ w'.heap.size → (∀ k, v.ownBlock ≠ some k → w'.heap[k]? = w.heap[k]?) → ∃ g' r h', Bare g' ∧ Fra g w g' w' ∧ Sim g' w' ⟨[], [], h'⟩ ∧ EndRel g' r (.returned (.string ⟨l.toArray⟩)) ∧ r = .ret (.c (.v (.string ⟨l.toArray⟩))) ∧ h' = drop h b := by
      intro w' h1 h2 h3 h4 h5
      obtain ⟨g', a1, a2, a3, a4⟩ := bld_step (w' := w') hbare hs q2 q1 q6 h1 h2 h3 h4 (fun k _ _ hk => h5 k hk) none (fun q h => by cases h) none (fun g' x _ hx => by cases hx)
      exact ⟨g', .ret (.c (.v (.string ⟨l.toArray⟩))), _, a1, a2, a3, (Rel.v _ rfl : Rel g'.I _ _), rfl, rfl⟩
    by_cases hl : l = []
    · have hv := q7 hl
      subst hl hv
      refine (bld_string_nil b p w q4).mono ?_
      rintro e w' ⟨rfl, h1, h2, h3, h4, h5⟩
      exact fin w' h1 h2 h3 h4 (fun k _ => h5 k)
    · refine (bld_string b p v l w q4 q5 hl).mono ?_
      rintro e w' ⟨rfl, h1, h2, h3, h4, h5⟩
      exact fin w' h1 h2 h3 h4 h5
end Go.Proofs.YtdgjpncflkpjfaaDoor
