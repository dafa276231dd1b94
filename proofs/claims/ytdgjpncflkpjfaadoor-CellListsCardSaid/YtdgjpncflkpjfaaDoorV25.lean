/- strings.Builder: what copyCheck, WriteByte and String do, told of memory. -/
import Derived.Test.YtdgjpncflkpjfaaDoorV0
import Derived.Shelf.Strings.Builder1
set_option linter.unusedVariables false
set_option linter.unusedSimpArgs false
namespace Go.Proofs
open Go.Shelf Go.RowKit

/-- append, with where the rows lie behind it. -/
theorem YtdgjpncflkpjfaaDoor.run_append_where {P : Program} (w : World) (t ty e : TypeId) (i : TypeInfo) (z : Value) (size bytes : Nat) (ht : P.underlying t = some (.slice e)) (hi : P.info? e = some i) (hz : i.zero = some z)
    (hsize : i.size = size) (hby : i.bytes = bytes) (hzs : z.cells.size = size) (hsz : 0 < size)
    (v : Value) (n : Nat) (xs : List Value) (hown : w.ownsRow 0 e size v n xs)
    (a : Addr) (m c : Nat) (news : List Value) (hl : news.length = m * size) (hnews : ∀ j u, news[j]? = some u → w.cell? (a.add j) = some u) (h1 : ∀ u ∈ news, u.oneCell' = true)
    (h63 : n + m ≤ maxLen) (hbytes : (n + m) * bytes ≤ 140737488355328) :
    ∃ v' w', (Builtin.append_ #[t, t] ty #[v, .slice (some a) m c]).run P w = .ok v' w' ∧ w'.ownsRow 0 e size v' (n + m) (xs ++ news) ∧ w.grownBy w' v.ownBlock ∧ (∀ q, v'.ownBlock = some q → v.ownBlock = some q ∨ w.heap.size ≤ q) := by
  obtain ⟨v', w', hrun, k1, k2, _⟩ := run_append_own (P := P) w 0 t ty e i z size bytes ht hi hz hsize hby hzs hsz v n xs hown a m c news hl hnews h1 h63 hbytes (Nat.zero_le _)
  refine ⟨v', w', hrun, k1, k2, ?_⟩
  rcases hown.2 with ⟨rfl, rfl⟩ | ⟨g, cap, cur, rfl, _, b1, b2, b3, b4, b5⟩
  · obtain ⟨v'', w'', hrun', c1, _, _⟩ := run_append_own (P := P) w w.heap.size t ty e i z size bytes ht hi hz hsize hby hzs hsz (.slice none 0 0) 0 [] (World.ownsRow_nil _ _ _ _) a m c news hl hnews h1 h63 hbytes (Nat.le_refl _)
    rw [hrun] at hrun'
    injection hrun' with e1 e2
    subst e1 e2
    intro q hq
    rcases c1.2 with ⟨h, _⟩ | ⟨g, cap, cur, h, hg, _⟩
    · rw [h] at hq; cases hq
    · rw [h] at hq; cases hq; exact .inr hg
  · subst hsize hby
    by_cases hroom : n + m ≤ cap
    · have hfit : n * i.size + news.length ≤ cur.size := by rw [hl, b4, ← Nat.add_mul]; exact Nat.mul_le_mul_right _ hroom
      have hr := run_append_room (P := P) w t ty e i ht hi g n cap cur b1 a m c news hl hnews h1 hroom hfit
      rw [hrun] at hr
      injection hr with e1 e2
      subst e1
      intro q hq; exact .inl hq
    · have holds : ∀ j u, xs[j]? = some u → w.cell? ((⟨g, 0, none⟩ : Addr).add j) = some u := hown.cells (g := g) rfl
      have hr := run_append_grow (P := P) w t ty e i z ht hi hz ⟨g, 0, none⟩ n cap xs hown.1 holds a m c news hl hnews (by omega) (by unfold maxLen at h63; omega) (growslice_fits (by omega) hbytes)
      rw [hrun] at hr
      injection hr with e1 e2
      subst e1
      intro q hq; cases hq; exact .inr (Nat.le_refl _)

theorem YtdgjpncflkpjfaaDoor.wpList_append_where {P : Program} (w : World) {ops : Array Oper} {rest : List Oper} {o : Oper} {a : Act} {Q : Exit → Act → World → Prop} (hgd : o.guard = none) (s x : Operand) (t : TypeId)
    (ho : o.op = .call { callee := .builtin .append, args := #[s, x], argTypes := #[t, t] })
    (e : TypeId) (i : TypeInfo) (z : Value) (size bytes : Nat) (ht : P.underlying t = some (.slice e)) (hi : P.info? e = some i) (hz : i.zero = some z)
    (hsize : i.size = size) (hby : i.bytes = bytes) (hzs : z.cells.size = size) (hsz : 0 < size)
    (v : Value) (n : Nat) (xs : List Value) (hs : a.eval s = v) (hown : w.ownsRow 0 e size v n xs)
    (ad : Addr) (m c : Nat) (news : List Value) (hx : a.eval x = .slice (some ad) m c) (hl : news.length = m * size) (hnews : ∀ j u, news[j]? = some u → w.cell? (ad.add j) = some u) (h1 : ∀ u ∈ news, u.oneCell' = true)
    (h63 : n + m ≤ maxLen) (hbytes : (n + m) * bytes ≤ 140737488355328)
    (h : ∀ v' w', w'.ownsRow 0 e size v' (n + m) (xs ++ news) → w.grownBy w' v.ownBlock → (∀ q, v'.ownBlock = some q → v.ownBlock = some q ∨ w.heap.size ≤ q) → wpList P ops Q rest (a.put o.dst v') w') : wpList P ops Q (o :: rest) a w := by
  refine wpList_plain hgd fun K hK => ?_
  obtain ⟨v', w', hr, h2, h3, h4⟩ := YtdgjpncflkpjfaaDoor.run_append_where (P := P) w t o.type e i z size bytes ht hi hz hsize hby hzs hsz v n xs hown ad m c news hl hnews h1 h63 hbytes
  unfold Oper.wp execOp
  simp only [ho, resolve, invoke, builtin, Sem.run_bind, Sem.run_pure, Result.andThen_ok, List.map_toArray, List.map_cons, List.map_nil, hs, hx, hr]
  exact hK _ _ (h v' w' h2 h3 h4)

set_option maxHeartbeats 1000000 in
set_option maxRecDepth 100000 in
theorem YtdgjpncflkpjfaaDoor.bld_check_used (b : Nat) (w : World) (h0 : w.cell? ⟨b, 0, none⟩ = some (.pointer (some ⟨b, 0, none⟩))) :
    Calls Tryd.prog 74 #[.pointer (some ⟨b, 0, none⟩)] w fun e w' => e = .returned (.tuple #[]) ∧ w' = w := by
  have hu : Tryd.prog.underlying 62 = some (.pointer 65) := by kernel_rfl
  have hj : (Tryd.prog.info? 65).map (·.size) = some 2 := by kernel_rfl
  obtain ⟨j, hj, _⟩ := Option.map_eq_some_iff.1 hj
  go_enter Tryd.func74, Tryd.ntmps74
  go_wp2
  rw [Lib.run_neq_ptr_same w _ hu hj]
  go_wp2
  go_end0
  exact ⟨rfl, rfl⟩

set_option maxHeartbeats 1000000 in
set_option maxRecDepth 100000 in
theorem YtdgjpncflkpjfaaDoor.bld_check_fresh (b : Nat) (w : World) (h0 : w.cell? ⟨b, 0, none⟩ = some (.pointer none)) (hsh : w.shape? b = some (65, 2)) (hfz : w.frozen? ⟨b, 0, none⟩ = false) :
    Calls Tryd.prog 74 #[.pointer (some ⟨b, 0, none⟩)] w fun e w' => e = .returned (.tuple #[]) ∧ w' = w.setCell ⟨b, 0, none⟩ (.pointer (some ⟨b, 0, none⟩)) := by
  have hu : Tryd.prog.underlying 62 = some (.pointer 65) := by kernel_rfl
  have hv : Tryd.prog.underlying 114 = some .unsafePointer := by kernel_rfl
  have hj : (Tryd.prog.info? 65).map (·.size) = some 2 := by kernel_rfl
  have hlies : liesAt Tryd.prog Tryd.prog.depth 65 (2 / Tryd.prog.cellsOf 65) 0 65 1 = true := by kernel_rfl
  obtain ⟨j, hj, hjs⟩ := Option.map_eq_some_iff.1 hj
  go_enter Tryd.func74, Tryd.ntmps74
  go_wp2
  rw [Lib.run_to_unsafe w ⟨b, 0, none⟩ hu hv hj (by rw [hjs]; decide) hsh (Nat.zero_lt_succ 1)]
  simp only [Result.andThen]
  rw [Oper.upon_value]
  go_wp2
  rw [run_callFunc_extern Tryd.func81 (by kernel_rfl) (by kernel_rfl) (by kernel_rfl) (e := Extern.AbiNoEscape.same) (by kernel_rfl)]
  rw [Lib.run_noEscape]
  simp only [Result.andThen]
  rw [Oper.upon_value]
  go_wp2
  rw [Lib.run_from_unsafe w ⟨b, 0, none⟩ hv hu hj hsh hlies]
  simp only [Result.andThen]
  rw [Oper.upon_value]
  go_wp2
  go_end0
  exact ⟨rfl, rfl⟩

/-- What a write to a builder leaves of memory: all but the builder and its bytes. -/
structure YtdgjpncflkpjfaaDoor.BldFra (b : Nat) (v : Value) (w w' : World) : Prop where
  os : w'.os = w.os
  tape : w'.tape = w.tape
  output : w'.output = w.output
  size : w.heap.size ≤ w'.heap.size
  same : ∀ k, k < w.heap.size → k ≠ b → v.ownBlock ≠ some k → w'.heap[k]? = w.heap[k]?

theorem YtdgjpncflkpjfaaDoor.bld_check (b : Nat) (p v : Value) (w : World) (hp : p = .pointer none ∨ p = .pointer (some ⟨b, 0, none⟩)) (hb : w.heap[b]? = some (.cells #[p, v] 65 (0, 0))) :
    Calls Tryd.prog 74 #[.pointer (some ⟨b, 0, none⟩)] w fun e w' => e = .returned (.tuple #[]) ∧ YtdgjpncflkpjfaaDoor.BldFra b v w w' ∧ w'.heap.size ≤ w.heap.size ∧ (∀ k, k ≠ b → w'.heap[k]? = w.heap[k]?) ∧ w'.heap[b]? = some (.cells #[.pointer (some ⟨b, 0, none⟩), v] 65 (0, 0)) := by
  rcases hp with rfl | rfl
  · have hlt : b < w.heap.size := (Array.getElem?_eq_some_iff.1 hb).1
    refine (YtdgjpncflkpjfaaDoor.bld_check_fresh b w (by rw [Lib.cell_of_heap hb]; rfl) (by simp [World.shape?, hb]) (Lib.frozen_of_heap hb 0)).mono ?_
    rintro e w' ⟨rfl, rfl⟩
    refine ⟨rfl, ⟨rfl, rfl, rfl, by simp, fun k hk hkb _ => RowKit.Below.heap_setCell _ _ _ _ hkb⟩, Nat.le_of_eq (by simp), fun k hkb => RowKit.Below.heap_setCell _ _ _ _ hkb, ?_⟩
    simp [World.setCell, Array.getElem?_modify, hb]
  · refine (YtdgjpncflkpjfaaDoor.bld_check_used b w (by rw [Lib.cell_of_heap hb]; rfl)).mono ?_
    rintro e w' ⟨rfl, rfl⟩
    exact ⟨rfl, ⟨rfl, rfl, rfl, Nat.le_refl _, fun _ _ _ _ => rfl⟩, Nat.le_refl _, fun _ _ => rfl, hb⟩

set_option maxHeartbeats 2000000 in
set_option maxRecDepth 100000 in
theorem YtdgjpncflkpjfaaDoor.bld_writeByte (b : Nat) (p v : Value) (bs : List Value) (c : Int) (w : World) (hp : p = .pointer none ∨ p = .pointer (some ⟨b, 0, none⟩)) (hb : w.heap[b]? = some (.cells #[p, v] 65 (0, 0))) (hown : w.ownsRow 0 5 1 v bs.length bs) (hne : v.ownBlock ≠ some b) (hlen : bs.length + 1 ≤ 140737488355328) :
    Calls Tryd.prog 59 #[.pointer (some ⟨b, 0, none⟩), .int .u8 c] w fun e w' => e = .returned .nilIface ∧ YtdgjpncflkpjfaaDoor.BldFra b v w w' ∧
      ∃ v', w'.heap[b]? = some (.cells #[.pointer (some ⟨b, 0, none⟩), v'] 65 (0, 0)) ∧ w'.ownsRow 0 5 1 v' (bs.length + 1) (bs ++ [.int .u8 c]) ∧ ∀ q, v'.ownBlock = some q → q ≠ b ∧ (v.ownBlock = some q ∨ w.heap.size ≤ q) := by
  have infoB : (Tryd.prog.info? 5).map (fun i => (i.zero, i.size, i.bytes)) = some (some (.int .u8 0), 1, 1) := by kernel_rfl
  have hu61 : Tryd.prog.underlying 63 = some (.slice 5) := by kernel_rfl
  obtain ⟨i0, hi, hz0, hz1, hz2⟩ := info_parts infoB
  have hblt : b < w.heap.size := (Array.getElem?_eq_some_iff.1 hb).1
  go_enter Tryd.func59, Tryd.ntmps59
  go_wp2_with (go_at_call 74; refine (YtdgjpncflkpjfaaDoor.bld_check b p v w hp hb).mono ?_)
  rintro e w1 ⟨rfl, hf1, hs1, hsame1, hbk⟩
  have hrow : ∀ n xs, w.ownsRow 0 5 1 v n xs → w1.ownsRow 0 5 1 v n xs := fun n xs h => by
    refine ⟨h.1, ?_⟩
    rcases h.2 with h | ⟨g, cap, cur, a1, a2, a3, a4⟩
    · exact .inl h
    · exact .inr ⟨g, cap, cur, a1, a2, (hsame1 g fun e => hne (by rw [a1, e]; rfl)).trans a3, a4⟩
  have hown1 : w1.ownsRow 0 5 1 v bs.length bs := hrow _ _ hown
  have c0 : w1.cell? ⟨b, 0, none⟩ = some (.pointer (some ⟨b, 0, none⟩)) := by rw [Lib.cell_of_heap hbk]; rfl
  have c1 : w1.cell? ⟨b, 1, none⟩ = some v := by rw [Lib.cell_of_heap hbk]; rfl
  go_wp2_with (at_builtin; refine YtdgjpncflkpjfaaDoor.wpList_append_where _ rfl _ _ 63 rfl 5 i0 (.int .u8 0) 1 1 hu61 hi hz0 hz1 hz2 rfl (by decide) _ _ _ rfl (hown1.alloc _) ⟨w1.heap.size, 0, none⟩ 1 1 [.int .u8 c] rfl rfl ?c1 ?c2 ?c3 ?c4 ?_)
  case c1 =>
    intro j u hj
    match j, hj with
    | 0, hj => simp at hj; subst hj; simp [Addr.add]
  case c2 => intro u hu; simp at hu; subst hu; rfl
  case c3 => unfold maxLen; omega
  case c4 => omega
  intro v' w2 hown' hgrow hwhere
  have hs1' := hf1.size
  have hlt : b < w1.heap.size := by omega
  have hb2 : w2.heap[b]? = some (.cells #[.pointer (some ⟨b, 0, none⟩), v] 65 (0, 0)) := by
    rw [hgrow.block b (by simp; omega) (fun e => hne e.symm), Lib.alloc_old w1 _ b hlt]
    exact hbk
  have d0 : w2.cell? ⟨b, 0, none⟩ = some (.pointer (some ⟨b, 0, none⟩)) := by rw [Lib.cell_of_heap hb2]; rfl
  have d1 : w2.cell? ⟨b, 1, none⟩ = some v := by rw [Lib.cell_of_heap hb2]; rfl
  have f1 : w2.frozen? ⟨b, 1, none⟩ = false := Lib.frozen_of_heap hb2 1
  obtain ⟨g, cap, cur, rfl, hg1, hg2, hg3⟩ : ∃ g cap cur, v' = .slice (some ⟨g, 0, none⟩) (bs.length + 1) cap ∧ True ∧ w2.heap[g]? = some (.cells cur 5 (0, 0)) ∧ True := by
    rcases hown'.2 with ⟨_, h0⟩ | ⟨g, cap, cur, hv, _, hh, _⟩
    · omega
    · exact ⟨g, cap, cur, hv, trivial, hh, trivial⟩
  go_wp2
  go_ret
  have hgb : g ≠ b := fun e => by subst e; rw [hb2] at hg2; cases hg2
  have hsz2 : w.heap.size ≤ w2.heap.size := by have := hgrow.size; simp at this; omega
  refine ⟨rfl, ⟨?_, ?_, ?_, by simp; exact hsz2, fun k hk hkb hkv => ?_⟩, .slice (some ⟨g, 0, none⟩) (bs.length + 1) cap, ?_, ?_, fun q hq => ?_⟩
  · exact hgrow.os.trans hf1.os
  · exact hgrow.tape.trans hf1.tape
  · exact hgrow.output.trans hf1.output
  · rw [RowKit.Below.heap_setCell _ _ _ _ hkb, hgrow.block k (by simp; omega) (fun e => hkv e.symm), Lib.alloc_old w1 _ k (by omega)]
    exact hsame1 k hkb
  · simp [World.setCell, Array.getElem?_modify, hb2]
  · refine ⟨hown'.1, ?_⟩
    rcases hown'.2 with h | ⟨g', cap', cur', a1, a2, a3, a4⟩
    · exact .inl h
    · cases a1
      exact .inr ⟨g, cap, cur', rfl, a2, (RowKit.Below.heap_setCell _ _ _ _ hgb).trans a3, a4⟩
  · cases hq
    refine ⟨hgb, ?_⟩
    rcases hwhere g rfl with h | h
    · exact .inl h
    · have e : (w1.alloc (Obj.cells #[Value.int .u8 c] 5)).heap.size = w1.heap.size + 1 := by simp
      have h' : w1.heap.size + 1 ≤ g := h
      exact .inr (show w.heap.size ≤ g by omega)

theorem YtdgjpncflkpjfaaDoor.freeze_fra (W : World) (g n : Nat) : (W.freeze ⟨g, 0, none⟩ n).os = W.os ∧ (W.freeze ⟨g, 0, none⟩ n).tape = W.tape ∧ (W.freeze ⟨g, 0, none⟩ n).output = W.output ∧ (W.freeze ⟨g, 0, none⟩ n).heap.size = W.heap.size ∧ ∀ k, k ≠ g → (W.freeze ⟨g, 0, none⟩ n).heap[k]? = W.heap[k]? := by
  unfold World.freeze
  split
  · exact ⟨rfl, rfl, rfl, rfl, fun _ _ => rfl⟩
  · exact ⟨rfl, rfl, rfl, by simp, fun k hk => by simp [Array.getElem?_modify, Ne.symm hk]⟩

set_option maxHeartbeats 1000000 in
set_option maxRecDepth 100000 in
theorem YtdgjpncflkpjfaaDoor.bld_string (b : Nat) (p v : Value) (l : List UInt8) (w : World) (hb : w.heap[b]? = some (.cells #[p, v] 65 (0, 0))) (hown : w.ownsRow 0 5 1 v l.length (Lib.byteCells l)) (h0 : l ≠ []) :
    Calls Tryd.prog 39 #[.pointer (some ⟨b, 0, none⟩)] w fun e w' => e = .returned (.string ⟨l.toArray⟩) ∧ w'.os = w.os ∧ w'.tape = w.tape ∧ w'.output = w.output ∧ w.heap.size ≤ w'.heap.size ∧ ∀ k, v.ownBlock ≠ some k → w'.heap[k]? = w.heap[k]? := by
  have hl0 : l.length ≠ 0 := by simpa using h0
  obtain ⟨g, cap, cur, rfl, hg, hnc, hcm, hcs, htake⟩ : ∃ g cap cur, v = .slice (some ⟨g, 0, none⟩) l.length cap ∧ w.heap[g]? = some (.cells cur 5 (0, 0)) ∧ l.length ≤ cap ∧ cap ≤ maxLen ∧ cur.size = cap * 1 ∧ cur.toList.take (l.length * 1) = Lib.byteCells l := by
    rcases hown.2 with ⟨_, hz⟩ | ⟨g, cap, cur, hv, _, r⟩
    · exact absurd hz hl0
    · exact ⟨g, cap, cur, hv, r⟩
  have hu127 : Tryd.prog.underlying 93 = some (.pointer 5) := by kernel_rfl
  have hc5 : Tryd.prog.cellsOf 5 = 1 := by kernel_rfl
  have c1 : w.drew.cell? ⟨b, 1, none⟩ = some (.slice (some ⟨g, 0, none⟩) l.length cap) := by
    have : w.drew.heap[b]? = some (.cells #[p, .slice (some ⟨g, 0, none⟩) l.length cap] 65 (0, 0)) := hb
    rw [Lib.cell_of_heap this]; rfl
  have hSD : (Builtin.unsafeSliceData_ #[63] 93 #[.slice (some ⟨g, 0, none⟩) l.length cap]).run Tryd.prog w.drew = .ok (.pointer (some ⟨g, 0, none⟩)) w.drew :=
    Lib.run_unsafeSliceData_row _ _ _ _ _ _ (by omega)
  have hUS : (Builtin.unsafeString_ #[93, 3] 9 #[.pointer (some ⟨g, 0, none⟩), .int .i64 l.length]).run Tryd.prog w.drew = .ok (.string ⟨l.toArray⟩) (w.drew.freeze ⟨g, 0, none⟩ l.length) := by
    refine Lib.run_unsafeString_row w.drew 93 3 9 5 hu127 hc5 g cur.size (by have hg' : w.drew.heap[g]? = some (.cells cur 5 (0, 0)) := hg; simp [World.shape?, hg']) l h0 (by omega) (by unfold maxLen at hcm; omega) ?_
    intro j x hx
    have := hown.cells (g := g) rfl j (.int .u8 x.toNat) (by simp [Lib.byteCells, hx])
    exact this
  go_enter Tryd.func39, Tryd.ntmps39
  go_wp2
  go_region
  all_goals (go_wp2; go_ret; exact ⟨rfl, (YtdgjpncflkpjfaaDoor.freeze_fra w.drew g l.length).1, (YtdgjpncflkpjfaaDoor.freeze_fra w.drew g l.length).2.1, (YtdgjpncflkpjfaaDoor.freeze_fra w.drew g l.length).2.2.1, Nat.le_of_eq (YtdgjpncflkpjfaaDoor.freeze_fra w.drew g l.length).2.2.2.1.symm, fun k hk => (YtdgjpncflkpjfaaDoor.freeze_fra w.drew g l.length).2.2.2.2 k fun e => hk (by rw [e]; rfl)⟩)

set_option maxHeartbeats 1000000 in
set_option maxRecDepth 100000 in
theorem YtdgjpncflkpjfaaDoor.bld_string_nil (b : Nat) (p : Value) (w : World) (hb : w.heap[b]? = some (.cells #[p, .slice none 0 0] 65 (0, 0))) :
    Calls Tryd.prog 39 #[.pointer (some ⟨b, 0, none⟩)] w fun e w' => e = .returned (.string ⟨#[]⟩) ∧ w'.os = w.os ∧ w'.tape = w.tape ∧ w'.output = w.output ∧ w.heap.size ≤ w'.heap.size ∧ ∀ k : Nat, w'.heap[k]? = w.heap[k]? := by
  have hUS : ∀ (W : World) (q : Option Addr), (Builtin.unsafeString_ #[93, 3] 9 #[.pointer q, .int .i64 0]).run Tryd.prog W = .ok (.string .empty) W := fun W q => Lib.run_unsafeString_none W _ _ _ q
  have c1 : w.drew.cell? ⟨b, 1, none⟩ = some (.slice none 0 0) := by
    have : w.drew.heap[b]? = some (.cells #[p, .slice none 0 0] 65 (0, 0)) := hb
    rw [Lib.cell_of_heap this]; rfl
  have hSD : (Builtin.unsafeSliceData_ #[63] 93 #[.slice none 0 0]).run Tryd.prog w.drew = .ok (.pointer none) w.drew := rfl
  go_enter Tryd.func39, Tryd.ntmps39
  go_wp2
  go_region
  all_goals (go_wp2; go_ret; exact ⟨rfl, rfl, rfl, rfl, Nat.le_refl _, fun _ => rfl⟩)
end Go.Proofs
