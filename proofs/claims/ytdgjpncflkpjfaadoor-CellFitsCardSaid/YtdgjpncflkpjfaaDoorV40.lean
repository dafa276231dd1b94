/- A value that comes in as an argument, as a tree. -/
import Derived.Test.YtdgjpncflkpjfaaDoorV35
import Derived.SizedLaws
import Derived.ChangeArms
import Derived.DataElems
set_option linter.unusedVariables false
set_option linter.unusedSimpArgs false
namespace Go.Proofs.YtdgjpncflkpjfaaDoor
open Aw

/-- All of memory is known. -/
def imW (w : World) : Im := fun b k => w.cell? ⟨b, k, none⟩

theorem wf_rng {n : Int} (h : (Lit.int .i64 n).wf = true) : -9223372036854775808 ≤ n ∧ n < 9223372036854775808 := by
  have e1 : IntKind.i64.min = -9223372036854775808 := by kernel_rfl
  simp only [Lit.wf, Bool.and_eq_true, decide_eq_true_eq, e1, i64max] at h
  omega
theorem cells_at {w : World} {a : Addr} {n : Nat} {cs : List Value} (h : w.cells? 0 a n = some cs) : cs.length = n ∧ ∀ k x, cs[k]? = some x → w.cell? (a.add k) = some x := by
  unfold World.cells? at h
  rw [if_pos (Nat.zero_le _)] at h
  refine ⟨by simpa using mapM_some_length h, fun k x hk => ?_⟩
  have hlt : k < n := by
    have := mapM_some_length h
    have := (List.getElem?_eq_some_iff.1 hk).1
    simp at *; omega
  have := mapM_some_get h k k (by simp [hlt])
  rw [this]; exact hk
theorem spot_none {w : World} {a : Addr} {x : Value} (h : w.cell? a = some x) : a.spot = none := by
  unfold World.cell? at h
  split at h
  · split at h
    · cases h
    · rename_i hs; cases e : a.spot with
      | none => rfl
      | some s => rw [e] at hs; simp at hs
  · cases h
theorem weightsAll_mem {H : Type} {P : Program} {e : TypeId} : ∀ {ds : List (DataW H)} {d : DataW H}, d ∈ ds → ∀ n ∈ d.weights P e, n ∈ DataW.weightsAll P e ds
  | d0 :: ds, d, h, n, hn => by
    simp only [DataW.weightsAll, List.mem_append]
    rcases List.mem_cons.1 h with rfl | h
    · exact .inl hn
    · exact .inr (weightsAll_mem h n hn)
theorem add_at' (b o : Nat) (j : Nat) : (⟨b, o, none⟩ : Addr).add j = ⟨b, o + j, none⟩ := add_at b o j

theorem vals_of {I : Im} {len : Nat} {q : Nat → List Value → Prop} (h : ∀ i, i < len → ∃ v : Val, ∃ cs, q i cs ∧ All2 (Rel I) v.ac cs ∧ v.rng) : ∃ l : List Val, l.length = len ∧ ∀ i v, l[i]? = some v → ∃ cs, q i cs ∧ All2 (Rel I) v.ac cs ∧ v.rng := by
  induction len with
  | zero => exact ⟨[], rfl, fun i v h => by simp at h⟩
  | succ n ih =>
    obtain ⟨l, h1, h2⟩ := ih fun i hi => h i (by omega)
    obtain ⟨v, hv⟩ := h n (by omega)
    refine ⟨l ++ [v], by simp [h1], fun i u hu => ?_⟩
    rcases Nat.lt_or_ge i n with hi | hi
    · rw [List.getElem?_append_left (by omega)] at hu; exact h2 i u hu
    · have : i = n := by have := (List.getElem?_eq_some_iff.1 hu).1; simp at this; omega
      subst this
      rw [List.getElem?_append_right (by omega), h1] at hu
      simp at hu; subst hu; exact hv

set_option maxRecDepth 4000 in
theorem open_val {H : Type} {enc : TypeId × Value → H} {w : World} : ∀ (m fuel : Nat), fuel ≤ m → ∀ (cs : List Value) (x : DataW H × List MemPlace), DataW.trod enc Tryd.prog w 0 (fun _ => true) true fuel 24 cs = some x → (∀ n ∈ x.1.weights Tryd.prog 24, n ≤ reachBytes) →
    ∃ v : Val, All2 (Rel (imW w)) v.ac cs ∧ v.rng
  | 0, fuel, hm, cs, x, h, hw => by
    have : fuel = 0 := by omega
    subst this; simp [DataW.trod] at h
  | m + 1, fuel, hm, cs, x, h, hw => by
    obtain ⟨xs, n, rfl, rfl, hcl, hxl, hf⟩ := DataW.trod_struct Tryd.underlying24 h
    have c25 : Tryd.prog.cellsOf 24 = 4 := by kernel_rfl
    have c3 : Tryd.prog.cellsOf 3 = 1 := by kernel_rfl
    have c2 : Tryd.prog.cellsOf 2 = 1 := by kernel_rfl
    have c9 : Tryd.prog.cellsOf 9 = 1 := by kernel_rfl
    have c23 : Tryd.prog.cellsOf 22 = 1 := by kernel_rfl
    rw [c25] at hcl
    match cs, hcl with
    | [y0, y1, y2, y3], _ =>
    have hxl : xs.length = 4 := hxl
    match xs, hxl with
    | [x0, x1, x2, x3], _ =>
    have f0 : DataW.trod enc Tryd.prog w 0 (fun _ => true) true n 3 (([y0, y1, y2, y3].drop 0).take (Tryd.prog.cellsOf 3)) = some x0 := hf 0 _ rfl
    have f1 : DataW.trod enc Tryd.prog w 0 (fun _ => true) true n 2 (([y0, y1, y2, y3].drop 1).take (Tryd.prog.cellsOf 2)) = some x1 := hf 1 _ rfl
    have f2 : DataW.trod enc Tryd.prog w 0 (fun _ => true) true n 9 (([y0, y1, y2, y3].drop 2).take (Tryd.prog.cellsOf 9)) = some x2 := hf 2 _ rfl
    have f3 : DataW.trod enc Tryd.prog w 0 (fun _ => true) true n 22 (([y0, y1, y2, y3].drop 3).take (Tryd.prog.cellsOf 22)) = some x3 := hf 3 _ rfl
    rw [c3] at f0; rw [c2] at f1; rw [c9] at f2; rw [c23] at f3
    obtain ⟨k, hk, e0, w0⟩ := DataW.trod_int Tryd.underlying3 f0
    obtain ⟨z, hz, e1, w1⟩ := DataW.trod_int Tryd.underlying2 f1
    obtain ⟨s, hs, e2, w2⟩ := DataW.trod_string Tryd.underlying9 f2
    have hk2 : y0 = .int .i64 k := by simpa using hk
    have hz2 : y1 = .int .i64 z := by simpa using hz
    have hs2 : y2 = .string s := by simpa using hs
    clear hk hz hs
    subst hk2 hz2 hs2
    have fin : ∀ (l : List Val), Rel (imW w) (.sl 4 (Val.acs l)) y3 → Val.rngs l → ∃ v : Val, All2 (Rel (imW w)) v.ac [.int .i64 k, .int .i64 z, .string s, y3] ∧ v.rng := fun l hr hl =>
      ⟨⟨k, z, s, l⟩, ⟨.v _ rfl, .v _ rfl, .v _ rfl, hr, trivial⟩, wf_rng w1, hl⟩
    rcases DataW.trod_slice Tryd.underlying22 f3 with ⟨h3, _⟩ | ⟨a, len, cap, elems, rest, n', rfl, h3, e3, _, hlc, hcm, hel, hget, _, _⟩
    · have h3 : y3 = .slice none 0 0 := by simpa using h3
      subst h3
      exact fin [] (Rel.sl 4 [] none 0 (fun _ _ => undef) (by omega) (Nat.le_refl _) (Nat.zero_le _) (fun _ h => by cases h) (fun i r k x h _ => by simp at h) (fun i r k x h _ => by simp at h)) trivial
    · have h3 : y3 = .slice (some a) len cap := by simpa using h3
      subst h3
      -- how heavy it is
      have e3' : x3.1 = .slice (elems.map (·.1)) (rest.map (·.1)) := by rw [e3]
      have hwe : ∀ q ∈ DataW.weightsEach Tryd.prog [3, 2, 9, 22] [x0.1, x1.1, x2.1, x3.1], q ≤ reachBytes := fun q hq => hw q (by
        show q ∈ DataW.weights Tryd.prog 24 (.agg [x0.1, x1.1, x2.1, x3.1])
        unfold DataW.weights
        rw [Tryd.underlying24]
        exact hq)
      have hw3 : ∀ q ∈ x3.1.weights Tryd.prog 22, q ≤ reachBytes := fun q hq => hwe q (DataW.weights_mem_each (j := 3) rfl rfl q hq)
      rw [e3'] at hw3
      have hw3' : ∀ q ∈ ((elems.map (·.1)).length + (rest.map (·.1)).length) * Tryd.prog.bytesOf 24 :: (DataW.weightsAll Tryd.prog 24 (elems.map (·.1)) ++ DataW.weightsAll Tryd.prog 24 (rest.map (·.1))), q ≤ reachBytes := fun q hq => hw3 q (by
        unfold DataW.weights
        rw [Tryd.underlying22]
        exact hq)
      have hlen : len ≤ lenMax := by
        have h1 := hw3' _ List.mem_cons_self
        have hb : Tryd.prog.bytesOf 24 = 56 := by kernel_rfl
        have hr : reachBytes = 140737488351232 := rfl
        rw [hb, List.length_map, hel, hr] at h1
        unfold lenMax
        omega
      have hq : ∀ i, i < len → ∃ v : Val, ∃ cs, w.cells? 0 (a.add (i * 4)) 4 = some cs ∧ All2 (Rel (imW w)) v.ac cs ∧ v.rng := fun i hi => by
        have hg := hget i hi
        rw [c25] at hg
        have hx : elems[i]? = some elems[i] := List.getElem?_eq_getElem (by omega)
        rw [hx, Option.bind_eq_some_iff] at hg
        obtain ⟨ci, hci, ht⟩ := hg
        obtain ⟨v, v1, v2⟩ := open_val m n' (by omega) ci _ ht fun q hq => hw3' q (List.mem_cons_of_mem _ (List.mem_append_left _ (weightsAll_mem (List.mem_map.2 ⟨_, List.getElem_mem (by omega), rfl⟩) q hq)))
        exact ⟨v, ci, hci, v1, v2⟩
      obtain ⟨l, hll, hl⟩ := vals_of hq
      have hrng : Val.rngs l := by
        have : ∀ (l' : List Val), (∀ v ∈ l', v.rng) → Val.rngs l' := by
          intro l'
          induction l' with
          | nil => intro _; trivial
          | cons v l' ih => intro h; exact ⟨h v (by simp), ih fun u hu => h u (by simp [hu])⟩
        refine this l fun v hv => ?_
        obtain ⟨i, hi⟩ := List.getElem?_of_mem hv
        obtain ⟨_, _, _, h⟩ := hl i v hi
        exact h
      refine fin l ?_ hrng
      have hac : ∀ (i : Nat) r, (Val.acs l)[i]? = some r → ∃ v, l[i]? = some v ∧ r = v.ac := fun i r hr => by
        rw [Val.acs_eq, List.getElem?_map, Option.map_eq_some_iff] at hr
        obtain ⟨v, h1, h2⟩ := hr
        exact ⟨v, h1, h2.symm⟩
      have hspot : 0 < l.length → a.spot = none := fun h0 => by
        obtain ⟨ci, q1, q2, _⟩ := hl 0 l[0] (List.getElem?_eq_getElem h0)
        obtain ⟨u, u1, _⟩ := q2.get 0 _ (by rw [Val.ac_eq]; rfl)
        have hc := (cells_at q1).2 0 u u1
        have e : (a.add (0 * 4)).add 0 = a := by simp [Addr.add]
        rw [e] at hc
        exact spot_none hc
      have hcell : ∀ (i : Nat) r (k : Nat) y, (Val.acs l)[i]? = some r → r[k]? = some y → ∃ u, w.cell? (a.add (i * 4 + k)) = some u ∧ a.spot = none ∧ Rel (imW w) y u := fun i r k y hr hy => by
        obtain ⟨v, h1, rfl⟩ := hac i r hr
        obtain ⟨ci, q1, q2, _⟩ := hl i v h1
        obtain ⟨u, u1, u2⟩ := q2.get k y hy
        have hc := (cells_at q1).2 k u u1
        rw [Addr.add_add] at hc
        have := (List.getElem?_eq_some_iff.1 h1).1
        exact ⟨u, hc, hspot (by omega), u2⟩
      have e := Rel.sl (I := imW w) 4 (Val.acs l) (some a) cap (fun i k => (w.cell? (a.add (i * 4 + k))).getD undef) (by omega) (by rw [Val.acs_len, hll]; exact hlc) (by rw [Val.acs_len, hll]; exact hlen) (fun r hr => by
          obtain ⟨i, hi⟩ := List.getElem?_of_mem hr
          obtain ⟨v, _, rfl⟩ := hac i r hi
          rw [Val.ac_eq]; rfl) (fun i r k y hr hy => by
          obtain ⟨u, u1, u2, _⟩ := hcell i r k y hr hy
          obtain ⟨b, o, sp⟩ := a
          have u2 : sp = none := u2
          subst u2
          refine ⟨b, o, rfl, ?_⟩
          rw [add_at] at u1 ⊢
          show w.cell? ⟨b, o + (i * 4 + k), none⟩ = _
          rw [u1]; rfl) (fun i r k y hr hy => by
          obtain ⟨u, u1, _, u3⟩ := hcell i r k y hr hy
          show Rel (imW w) y ((w.cell? (a.add (i * 4 + k))).getD undef)
          rw [u1]; exact u3)
      rw [Val.acs_len, hll] at e
      exact e

/-- What is told of abstract values alone, told of memory: arguments that lie in memory. -/
theorem pure_walkV {f : Nat} {args : List AV} {vs : List Value} (hp : PureA Tryd.prog f args (.c (.v (.bool true)))) (w : World) (hr : ∀ g : G, g.I = imW w → RelVs g [] args vs) : Calls Tryd.prog f vs.toArray w fun e w' => e = .returned (.bool true) ∧ RowKit.Below w.heap.size w w' := by
  let g : G := { I := imW w, role := fun _ => .imm, bl := [], tk := [], fr := ⟨0, none, 0, []⟩ }
  have hs : Sim g w ⟨[], [], fun _ => none⟩ := by
    constructor
    · intro b k x h; exact h
    · intro b k x h; exact .inl rfl
    · intro b h; rfl
    · intro n b h; simp [g] at h
    · rfl
    · intro n b T cs h; simp [g] at h
    · rfl
    · intro n v e sz len h; simp [g] at h
    · intro b ho h; cases h
  refine ((hp fun _ => none).run g w vs ⟨rfl, rfl, fun b => .inl rfl⟩ hs (hr g rfl)).mono ?_
  rintro e w' ⟨g', r, h', h1, h2, h3, h4, rfl, _⟩
  cases e with
  | returned v =>
    have h4 : Rel g'.I _ _ := h4
    refine ⟨by cases h4; rfl, ⟨h2.os, h2.tape, h2.output, h2.size, fun k hk => (h2.imm k hk rfl).1⟩⟩
  | _ => exact h4.elim
theorem rel_val {w : World} {v : Val} {y : Value} (h : All2 (Rel (imW w)) v.ac y.cells.toList) (g : G) (hg : g.I = imW w) : RelV g [] (.agg v.ac) y := by
  have hl := h.length
  rw [Val.ac_eq] at hl
  cases y with
  | agg xs => exact ⟨xs.toList, by simp, (by rw [← hg] at h; exact h : All2 (Rel g.I) v.ac xs.toList).toT⟩
  | _ => simp [Value.cells] at hl
end Go.Proofs.YtdgjpncflkpjfaaDoor
