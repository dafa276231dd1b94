/- strings.Builder: what WriteString does, of memory and of abstract values. -/
import Derived.Test.YtdgjpncflkpjfaaDoorV27
set_option linter.unusedVariables false
set_option linter.unusedSimpArgs false
namespace Go.Proofs
open Go.Shelf Go.RowKit

/-- append of a string, with where the rows lie behind it. -/
theorem YtdgjpncflkpjfaaDoor.run_append_str_where {P : Program} (w : World) (t u ty e : TypeId) (i : TypeInfo) (ht : P.underlying t = some (.slice e)) (hu : P.underlying u = some .string) (hi : P.info? e = some i) (hz : i.zero = some (.int .u8 0))
    (hsize : i.size = 1) (hby : i.bytes = 1) (v : Value) (n : Nat) (xs : List Value) (hown : w.ownsRow 0 e 1 v n xs) (s : ByteArray) (h63 : n + s.size ≤ maxLen) (hbytes : n + s.size ≤ 140737488355328) :
    ∃ v' w', (Builtin.append_ #[t, u] ty #[v, .string s]).run P w = .ok v' w' ∧ w'.ownsRow 0 e 1 v' (n + s.size) (xs ++ Lib.strCells s) ∧ w.grownBy w' v.ownBlock ∧ (∀ q, v'.ownBlock = some q → v.ownBlock = some q ∨ w.heap.size ≤ q) := by
  obtain ⟨v', w', hrun, k1, k2, _⟩ := Lib.run_append_own_string (P := P) w 0 t u ty e i ht hu hi hz hsize hby v n xs hown s h63 hbytes (Nat.zero_le _)
  refine ⟨v', w', hrun, k1, k2, ?_⟩
  rcases hown.2 with ⟨rfl, rfl⟩ | ⟨g, cap, cur, rfl, _, b1, b2, b3, b4, b5⟩
  · obtain ⟨v'', w'', hrun', c1, _, _⟩ := Lib.run_append_own_string (P := P) w w.heap.size t u ty e i ht hu hi hz hsize hby (.slice none 0 0) 0 [] (World.ownsRow_nil _ _ _ _) s h63 hbytes (Nat.le_refl _)
    rw [hrun] at hrun'
    injection hrun' with e1 e2
    subst e1 e2
    intro q hq
    rcases c1.2 with ⟨h, _⟩ | ⟨g, cap, cur, h, hg, _⟩
    · rw [h] at hq; cases hq
    · rw [h] at hq; cases hq; exact .inr hg
  · by_cases hroom : n + s.size ≤ cap
    · have hr := Lib.run_append_room_string (P := P) w t u ty e i ht hu hi hsize g n cap cur b1 s hroom (by omega)
      rw [hrun] at hr
      injection hr with e1 e2
      subst e1
      intro q hq; exact .inl hq
    · have holds : ∀ j u, xs[j]? = some u → w.cell? ((⟨g, 0, none⟩ : Addr).add j) = some u := hown.cells (g := g) rfl
      have hxl : xs.length = n := by simpa using hown.1
      have hr := Lib.run_append_grow_string (P := P) w t u ty e i (.int .u8 0) ht hu hi hz ⟨g, 0, none⟩ n cap xs (by rw [hsize]; omega) holds s (by omega) (by unfold maxLen at h63; omega) (by rw [hby]; exact growslice_fits (by omega) (by omega))
      rw [hrun] at hr
      injection hr with e1 e2
      subst e1
      intro q hq; cases hq; exact .inr (Nat.le_refl _)

theorem YtdgjpncflkpjfaaDoor.wpList_append_str_where {P : Program} (w : World) {ops : Array Oper} {rest : List Oper} {o : Oper} {a : Act} {Q : Exit → Act → World → Prop} (hgd : o.guard = none) (sl x : Operand) (t u : TypeId)
    (ho : o.op = .call { callee := .builtin .append, args := #[sl, x], argTypes := #[t, u] })
    (e : TypeId) (i : TypeInfo) (ht : P.underlying t = some (.slice e)) (hu : P.underlying u = some .string) (hi : P.info? e = some i) (hz : i.zero = some (.int .u8 0)) (hsize : i.size = 1) (hby : i.bytes = 1)
    (v : Value) (n : Nat) (xs : List Value) (hs : a.eval sl = v) (hown : w.ownsRow 0 e 1 v n xs) (s : ByteArray) (hx : a.eval x = .string s) (h63 : n + s.size ≤ maxLen) (hbytes : n + s.size ≤ 140737488355328)
    (h : ∀ v' w', w'.ownsRow 0 e 1 v' (n + s.size) (xs ++ Lib.strCells s) → w.grownBy w' v.ownBlock → (∀ q, v'.ownBlock = some q → v.ownBlock = some q ∨ w.heap.size ≤ q) → wpList P ops Q rest (a.put o.dst v') w') : wpList P ops Q (o :: rest) a w := by
  refine wpList_plain hgd fun K hK => ?_
  obtain ⟨v', w', hr, h2, h3, h4⟩ := YtdgjpncflkpjfaaDoor.run_append_str_where (P := P) w t u o.type e i ht hu hi hz hsize hby v n xs hown s h63 hbytes
  unfold Oper.wp execOp
  simp only [ho, resolve, invoke, builtin, Sem.run_bind, Sem.run_pure, Result.andThen_ok, List.map_toArray, List.map_cons, List.map_nil, hs, hx, hr]
  exact hK _ _ (h v' w' h2 h3 h4)

set_option maxHeartbeats 2000000 in
set_option maxRecDepth 100000 in
theorem YtdgjpncflkpjfaaDoor.bld_writeString (b : Nat) (p v : Value) (bs : List Value) (s : ByteArray) (w : World) (hp : p = .pointer none ∨ p = .pointer (some ⟨b, 0, none⟩)) (hb : w.heap[b]? = some (.cells #[p, v] 65 (0, 0))) (hown : w.ownsRow 0 5 1 v bs.length bs) (hne : v.ownBlock ≠ some b) (hlen : bs.length + s.size ≤ 140737488355328) (h0 : s.size ≠ 0) :
    Calls Tryd.prog 61 #[.pointer (some ⟨b, 0, none⟩), .string s] w fun e w' => e = .returned (.tuple #[.int .i64 s.size, .nilIface]) ∧ YtdgjpncflkpjfaaDoor.BldFra b v w w' ∧
      ∃ v', w'.heap[b]? = some (.cells #[.pointer (some ⟨b, 0, none⟩), v'] 65 (0, 0)) ∧ w'.ownsRow 0 5 1 v' (bs.length + s.size) (bs ++ Lib.strCells s) ∧ ∀ q, v'.ownBlock = some q → q ≠ b ∧ (v.ownBlock = some q ∨ w.heap.size ≤ q) := by
  have infoB : (Tryd.prog.info? 5).map (fun i => (i.zero, i.size, i.bytes)) = some (some (.int .u8 0), 1, 1) := by kernel_rfl
  have hu61 : Tryd.prog.underlying 63 = some (.slice 5) := by kernel_rfl
  have hu9 : Tryd.prog.underlying 9 = some .string := by kernel_rfl
  obtain ⟨i0, hi, hz0, hz1, hz2⟩ := info_parts infoB
  have hblt : b < w.heap.size := (Array.getElem?_eq_some_iff.1 hb).1
  go_enter Tryd.func61, Tryd.ntmps61
  go_wp2_with (go_at_call 74; refine (YtdgjpncflkpjfaaDoor.bld_check b p v w hp hb).mono ?_)
  rintro e w1 ⟨rfl, hf1, hs1, hsame1, hbk⟩
  have hrow : ∀ n xs, w.ownsRow 0 5 1 v n xs → w1.ownsRow 0 5 1 v n xs := fun n xs h => by
    refine ⟨h.1, ?_⟩
    rcases h.2 with h | ⟨g, cap, cur, a1, a2, a3, a4⟩
    · exact .inl h
    · exact .inr ⟨g, cap, cur, a1, a2, (hsame1 g fun e => hne (by rw [a1, e]; rfl)).trans a3, a4⟩
  have hown1 : w1.ownsRow 0 5 1 v bs.length bs := hrow _ _ hown
  have c0 : w1.cell? ⟨b, 0, none⟩ = some (.pointer (some ⟨b, 0, none⟩)) := by rw [Lib.cell_of_heap hbk]; rfl
  have c1 : w1.cell? ⟨b, 1, none⟩ = some v := by rw [Lib.cell_of_heap hbk]; rfl
  go_wp2_with (at_builtin; refine YtdgjpncflkpjfaaDoor.wpList_append_str_where _ rfl _ _ 63 9 rfl 5 i0 hu61 hu9 hi hz0 hz1 hz2 _ _ _ rfl hown1 s rfl ?c3 ?c4 ?_)
  case c3 => unfold maxLen; omega
  case c4 => omega
  intro v' w2 hown' hgrow hwhere
  have hs1' := hf1.size
  have hlt : b < w1.heap.size := by omega
  have hb2 : w2.heap[b]? = some (.cells #[.pointer (some ⟨b, 0, none⟩), v] 65 (0, 0)) := by
    rw [hgrow.block b hlt (fun e => hne e.symm)]
    exact hbk
  have d0 : w2.cell? ⟨b, 0, none⟩ = some (.pointer (some ⟨b, 0, none⟩)) := by rw [Lib.cell_of_heap hb2]; rfl
  have d1 : w2.cell? ⟨b, 1, none⟩ = some v := by rw [Lib.cell_of_heap hb2]; rfl
  have f1 : w2.frozen? ⟨b, 1, none⟩ = false := Lib.frozen_of_heap hb2 1
  obtain ⟨g, cap, cur, rfl, hg1, hg2, hg3⟩ : ∃ g cap cur, v' = .slice (some ⟨g, 0, none⟩) (bs.length + s.size) cap ∧ True ∧ w2.heap[g]? = some (.cells cur 5 (0, 0)) ∧ True := by
    rcases hown'.2 with ⟨_, h0⟩ | ⟨g, cap, cur, hv, _, hh, _⟩
    · omega
    · exact ⟨g, cap, cur, hv, trivial, hh, trivial⟩
  go_wp2
  go_ret2
  have hgb : g ≠ b := fun e => by subst e; rw [hb2] at hg2; cases hg2
  have hsz2 : w.heap.size ≤ w2.heap.size := by have := hgrow.size; omega
  refine ⟨rfl, ⟨?_, ?_, ?_, by simp; exact hsz2, fun k hk hkb hkv => ?_⟩, .slice (some ⟨g, 0, none⟩) (bs.length + s.size) cap, ?_, ?_, fun q hq => ?_⟩
  · exact hgrow.os.trans hf1.os
  · exact hgrow.tape.trans hf1.tape
  · exact hgrow.output.trans hf1.output
  · rw [RowKit.Below.heap_setCell _ _ _ _ hkb, hgrow.block k (by omega) (fun e => hkv e.symm)]
    exact hsame1 k hkb
  · simp [World.setCell, Array.getElem?_modify, hb2]
  · refine ⟨hown'.1, ?_⟩
    rcases hown'.2 with h | ⟨g', cap', cur', a1, a2, a3, a4⟩
    · exact .inl h
    · cases a1
      exact .inr ⟨g, cap, cur', rfl, a2, (RowKit.Below.heap_setCell _ _ _ _ hgb).trans a3, a4⟩
  · cases hq
    refine ⟨hgb, ?_⟩
    rcases hwhere g rfl with h | h
    · exact .inl h
    · exact .inr (show w.heap.size ≤ g by omega)
end Go.Proofs
namespace Go.Proofs.YtdgjpncflkpjfaaDoor
open Aw

theorem writeString_calls {h : Heap} {b : Nat} {l : List UInt8} (hb : BldIs h b l) (s : ByteArray) (hl : l.length + s.size ≤ 140737488355328) (h0 : s.size ≠ 0) :
    CallsA Tryd.prog 61 [.c (.v (.pointer (some ⟨b, 0, none⟩))), .c (.v (.string s))] h fun x h' => x = .ret (.tup [.c (.v (.int .i64 s.size)), .c (.v .nilIface)]) ∧ h' = upd h b (.bld 65 5 (l ++ s.data.toList)) := by
  refine ⟨⟨_, Tryd.func61, rfl, by kernel_rfl⟩, fun g w vs hbare hs hr => ?_⟩
  match vs, hr with
  | [y1, y2], hr =>
    have e1 : y1 = .pointer (some ⟨b, 0, none⟩) := by have := hr.1; have this : Rel g.I _ _ := this; cases this; rfl
    have e2 : y2 = .string s := by have := hr.2.1; have this : Rel g.I _ _ := this; cases this; rfl
    subst e1 e2
    obtain ⟨q1, q2, p, v, q3, q4, q5, q6, _⟩ := hb.low hs
    have hlen : (byteV l).length = l.length := by simp [byteV]
    refine (bld_writeString b p v (byteV l) s w q3 q4 (by rw [hlen]; exact q5) (fun e => (q6 b e).1 rfl) (by rw [hlen]; exact hl) h0).mono ?_
    rintro e w' ⟨rfl, hf, v', k1, k2, k3⟩
    have hlt' : ∀ q, v'.ownBlock = some q → q < w'.heap.size := fun q hq => by
      rcases k2.2 with ⟨h, _⟩ | ⟨g, cap, cur, a1, a2, a3, a4⟩
      · rw [h] at hq; cases hq
      · rw [a1] at hq; cases hq; exact (Array.getElem?_eq_some_iff.1 a3).1
    obtain ⟨g', a1, a2, a3, a4⟩ := bld_step (w' := w') hbare hs q2 q1 q6 hf.os hf.tape hf.output hf.size hf.same v'.ownBlock hlt' (some (.bld 65 5 (l ++ s.data.toList))) (fun g' x hg' hx => by
      cases hx
      refine ⟨by rw [hg']; show (if w.heap.size ≤ b ∧ _ then _ else g.role b) = _; rw [if_neg (by omega)]; exact q2, _, v', .inr rfl, k1, ?_, fun q hq => ⟨(k3 q hq).1, ?_⟩⟩
      · have : byteV (l ++ s.data.toList) = byteV l ++ Lib.strCells s := by unfold byteV Lib.strCells; rw [List.map_append]
        have hsz : s.data.toList.length = s.size := by rw [Array.length_toList]; rfl
        rw [this, List.length_append, hsz]
        rw [hlen] at k2
        exact k2
      · rw [hg']
        rcases (k3 q hq).2 with h | h
        · show (if w.heap.size ≤ q ∧ _ then _ else g.role q) = _
          split
          · rfl
          · exact (q6 q h).2
        · exact if_pos ⟨h, hq⟩)
    exact ⟨g', .ret (.tup [.c (.v (.int .i64 s.size)), .c (.v .nilIface)]), _, a1, a2, a3, ⟨_, rfl, (Rel.v _ rfl : Rel g'.I _ _), (Rel.v _ rfl : Rel g'.I _ _), trivial⟩, rfl, rfl⟩
end Go.Proofs.YtdgjpncflkpjfaaDoor
