/- The abstract machine, sixth part: slices that are made and appended to; calls; all operations together. -/
import Derived.Test.YtdgjpncflkpjfaaDoorAw5
set_option linter.unusedVariables false
set_option linter.unusedSimpArgs false
namespace Go.Proofs.YtdgjpncflkpjfaaDoor.Aw

theorem flat_get {α : Type} (sz : Nat) : ∀ (rows : List (List α)) (i k : Nat) (r : List α) (x : α), (∀ r ∈ rows, r.length = sz) → rows[i]? = some r → r[k]? = some x → rows.flatten[i * sz + k]? = some x
  | [], i, k, r, x, _, h, _ => by simp at h
  | y :: rows, 0, k, r, x, hl, h, hk => by
    simp at h
    subst h
    have hlt := (List.getElem?_eq_some_iff.1 hk).1
    rw [List.flatten_cons, Nat.zero_mul, Nat.zero_add, List.getElem?_append_left hlt]
    exact hk
  | y :: rows, i + 1, k, r, x, hl, h, hk => by
    have hy : y.length = sz := hl y (by simp)
    rw [List.flatten_cons, List.getElem?_append_right (by rw [hy, Nat.add_mul]; omega)]
    have := flat_get sz rows i k r x (fun r hr => hl r (by simp [hr])) (by simpa using h) hk
    rw [show (i + 1) * sz + k - y.length = i * sz + k by rw [hy, Nat.add_mul]; omega]
    exact this

theorem flat_len {α : Type} (sz : Nat) : ∀ (rows : List (List α)), (∀ r ∈ rows, r.length = sz) → rows.flatten.length = rows.length * sz
  | [], _ => by simp
  | y :: rows, h => by
    rw [List.flatten_cons, List.length_append, flat_len sz rows (fun r hr => h r (by simp [hr])), h y (by simp), List.length_cons, Nat.add_mul]
    omega

/-- Rows of abstract cells and rows of values. -/
def RowsRel (I : Im) (sz : Nat) (rows : List (List AC)) (vals : List (List Value)) : Prop :=
  All2 (fun r v => r.length = sz ∧ All2 (Rel I) r v) rows vals

theorem RowsRel.get {I : Im} {sz : Nat} {rows : List (List AC)} {vals : List (List Value)} (h : RowsRel I sz rows vals) {i : Nat} {r : List AC} (hr : rows[i]? = some r) :
    ∃ v, vals[i]? = some v ∧ r.length = sz ∧ All2 (Rel I) r v := by
  obtain ⟨v, h1, h2⟩ := All2.get h i r hr
  exact ⟨v, h1, h2⟩
theorem RowsRel.lens {I : Im} {sz : Nat} : ∀ {rows : List (List AC)} {vals : List (List Value)}, RowsRel I sz rows vals → (∀ r ∈ rows, r.length = sz) ∧ (∀ v ∈ vals, v.length = sz)
  | [], [], _ => ⟨(fun _ h => by cases h), (fun _ h => by cases h)⟩
  | r :: rows, v :: vals, h => by
    obtain ⟨h1, h2⟩ := RowsRel.lens (show RowsRel I sz rows vals from h.2)
    refine ⟨fun x hx => ?_, fun x hx => ?_⟩
    · cases hx with
      | head => exact h.1.1
      | tail _ hx => exact h1 x hx
    · cases hx with
      | head => rw [← h.1.2.length]; exact h.1.1
      | tail _ hx => exact h2 x hx
  | [], _ :: _, h => h.elim
  | _ :: _, [], h => h.elim

/-- A slice whose rows lie, one behind the other, at the head of a block. -/
theorem rel_sl_of {I : Im} {sz : Nat} {rows : List (List AC)} {vals : List (List Value)} (h0 : 0 < sz) (h : RowsRel I sz rows vals) {J : Im} (hle : I.le J) {b c : Nat} (hJ : ∀ k x, vals.flatten[k]? = some x → J b k = some x)
    (hc : rows.length ≤ c) (hm : rows.length ≤ lenMax) : Rel J (.sl sz rows) (.slice (some ⟨b, 0, none⟩) rows.length c) := by
  obtain ⟨l1, l2⟩ := h.lens
  refine Rel.sl sz rows _ c (fun i k => (vals.getD i []).getD k undef) h0 hc hm l1 ?_ ?_
  · intro i r k x hr hx
    obtain ⟨v, hv, _, ha⟩ := h.get hr
    obtain ⟨y, hy, hrel⟩ := ha.get k x hx
    refine ⟨b, 0, rfl, ?_⟩
    have := flat_get sz vals i k v y l2 hv hy
    rw [Nat.zero_add, hJ _ _ this]
    simp [List.getD_eq_getElem?_getD, hv, hy]
  · intro i r k x hr hx
    obtain ⟨v, hv, _, ha⟩ := h.get hr
    obtain ⟨y, hy, hrel⟩ := ha.get k x hx
    simpa [List.getD_eq_getElem?_getD, hv, hy] using hrel.mono hle

/-- The other way round: what a slice's rows are in memory. -/
theorem rows_of_rel {I : Im} {sz : Nat} {rows : List (List AC)} {y : Value} (h : Rel I (.sl sz rows) y) : ∃ A c vals, y = .slice A rows.length c ∧ 0 < sz ∧ rows.length ≤ c ∧ rows.length ≤ lenMax ∧ RowsRel I sz rows vals ∧
    (∀ k x, vals.flatten[k]? = some x → ∃ b off, A = some ⟨b, off, none⟩ ∧ I b (off + k) = some x) ∧ (rows ≠ [] → ∃ b off, A = some ⟨b, off, none⟩) := by
  cases h with
  | sl _ _ A c f a0 a1 a2 a3 a4 a5 =>
    have key : ∀ (n : Nat), n ≤ rows.length → ∃ vals : List (List Value), RowsRel I sz (rows.take n) vals ∧ ∀ (i : Nat) (v : List Value), vals[i]? = some v → ∀ (k : Nat) (x : Value), v[k]? = some x → x = f i k := by
      intro n
      induction n with
      | zero => intro _; exact ⟨[], by simp [RowsRel, All2], fun i v h => by simp at h⟩
      | succ n ih =>
        intro hn
        obtain ⟨vals, h1, h2⟩ := ih (by omega)
        have hlen : vals.length = n := by have := All2.length h1; simp at this; omega
        have hrow : rows[n]? = some rows[n] := by simp
        refine ⟨vals ++ [(List.range sz).map (f n)], ?_, ?_⟩
        · rw [List.take_succ_eq_append_getElem (by omega)]
          refine All2.append h1 ⟨⟨a3 _ (by simp), ?_⟩, trivial⟩
          refine All2.of_get (by rw [a3 _ (by simp)]; simp) fun k p q hp hq => ?_
          have hk := (List.getElem?_eq_some_iff.1 hp).1
          rw [a3 _ (by simp)] at hk
          rw [List.getElem?_map, List.getElem?_range hk] at hq
          simp at hq
          subst hq
          exact a5 n _ k p hrow hp
        · intro i v hv k x hx
          rcases Nat.lt_or_ge i n with hi | hi
          · rw [List.getElem?_append_left (by omega)] at hv
            exact h2 i v hv k x hx
          · have hin : i = n := by
              have := (List.getElem?_eq_some_iff.1 hv).1
              simp at this
              omega
            subst hin
            rw [List.getElem?_append_right (by omega), hlen] at hv
            simp at hv
            subst hv
            have hk : k < sz := by have := (List.getElem?_eq_some_iff.1 hx).1; simpa using this
            rw [List.getElem?_map, List.getElem?_range hk] at hx
            simp at hx
            exact hx.symm
    obtain ⟨vals, h1, h2⟩ := key rows.length (Nat.le_refl _)
    rw [List.take_length] at h1
    obtain ⟨l1, l2⟩ := RowsRel.lens h1
    refine ⟨A, c, vals, rfl, a0, a1, a2, h1, ?_, ?_⟩
    · intro k x hk
      have hlt := (List.getElem?_eq_some_iff.1 hk).1
      rw [flat_len sz vals l2, ← All2.length h1] at hlt
      have hi : k / sz < rows.length := (Nat.div_lt_iff_lt_mul a0).2 hlt
      have hr : rows[k / sz]? = some rows[k / sz] := by simp [hi]
      obtain ⟨v, hv, hl, ha⟩ := RowsRel.get h1 hr
      have hk2 : k % sz < rows[k / sz].length := by rw [hl]; exact Nat.mod_lt _ a0
      obtain ⟨y, hy, _⟩ := ha.get (k % sz) _ (List.getElem?_eq_getElem hk2)
      have hx : x = y := by
        have := flat_get sz vals (k / sz) (k % sz) v y l2 hv hy
        rw [Nat.div_add_mod' k sz, hk] at this
        cases this; rfl
      obtain ⟨b, off, hA, hI⟩ := a4 _ _ _ _ hr (List.getElem?_eq_getElem hk2)
      refine ⟨b, off, hA, ?_⟩
      rw [Nat.div_add_mod' k sz] at hI
      rw [hI, hx, h2 _ v hv _ y hy]
    · intro hne
      cases hrows : rows with
      | nil => exact absurd hrows hne
      | cons r rest =>
        have hr : rows[0]? = some r := by rw [hrows]; rfl
        have hl := a3 r (List.mem_of_getElem? hr)
        obtain ⟨b, off, hA, _⟩ := a4 0 r 0 r[0] hr (by simp)
        exact ⟨b, off, hA⟩

section
variable {rr : Option Nat} {nn : Nat} {C : Cfg} {o : Oper} {ρ : Operand → Option AV} {ρc : Operand → Value} {s : S} {φ : K1} {π : Value → S → Prop} {g : G} {w : World} {a : Act} {next : Act → World → Prop} {Q : Exit → Act → World → Prop}

theorem rows_fill {sz : Nat} (h0 : 0 < sz) : ∀ (l : List (Nat × AV)) (lc : List (Nat × Value)) (i : Nat) (rows : List (List AC)) (ys : List Value), l.map (·.1) = lc.map (·.1) → RelVs g s.o (l.map (·.2)) (lc.map (·.2)) →
    nocell (l.map (·.2)) = true → rowsA sz i l = some rows → (i + l.length) * sz ≤ ys.length →
    ∃ vals, RowsRel g.I sz rows vals ∧ vals.length = l.length ∧ Instr.fill (fun i => some (i * sz, sz)) ys.toArray lc = some (ys.take (i * sz) ++ vals.flatten ++ ys.drop ((i + l.length) * sz)).toArray
  | [], [], i, rows, ys, _, _, _, h, _ => by
    simp [rowsA] at h; subst h
    exact ⟨[], trivial, rfl, by simp [Instr.fill]⟩
  | (j, v) :: l, (j', y) :: lc, i, rows, ys, hi, hr, hn, h, hl => by
    simp only [List.map_cons, List.cons.injEq] at hi
    obtain ⟨hij, hi⟩ := hi
    subst hij
    simp only [rowsA] at h
    split at h
    · rename_i hfit
      obtain ⟨rfl, hsz⟩ := hfit
      rw [Option.map_eq_some_iff] at h
      obtain ⟨rows', h, rfl⟩ := h
      have hvc : All2 (RelT g s.o) v.cells y.cells.toList := RelV.cells' hr.1 hsz h0
      have hlen : v.cells.length = y.cells.toList.length := hvc.length
      have hl' : j * sz + sz + l.length * sz ≤ ys.length := by
        have : (j + ((j, v) :: l).length) * sz = j * sz + sz + l.length * sz := by
          rw [List.length_cons, Nat.add_mul, Nat.add_mul]; omega
        omega
      simp only [List.map_cons, nocell, List.all_cons, Bool.and_eq_true] at hn
      have hset : (ys.take (j * sz) ++ y.cells.toList ++ ys.drop (j * sz + y.cells.toList.length)).length = ys.length := by
        simp only [List.length_append, List.length_take, List.length_drop]; omega
      obtain ⟨vals, k1, k2, k3⟩ := rows_fill h0 l lc (j + 1) rows' (ys.take (j * sz) ++ y.cells.toList ++ ys.drop (j * sz + y.cells.toList.length)) hi hr.2 (by simpa [nocell] using hn.2) h (by
        rw [hset, Nat.add_mul, Nat.add_mul]; omega)
      refine ⟨y.cells.toList :: vals, ⟨⟨by simpa using hsz, All2.share (all_noloc hn.1) hvc⟩, k1⟩, by simp [k2], ?_⟩
      rw [fill_step (fun i => some (i * sz, sz)) ys.toArray j (j * sz) sz y lc rfl (by simp at hlen; omega) (by simp; omega)]
      rw [List.toList_toArray, k3]
      congr 2
      have e1 : (j + 1) * sz = j * sz + sz := by rw [Nat.add_mul]; omega
      have e2 : (j + ((j, v) :: l).length) * sz = (j + 1 + l.length) * sz := by congr 1; simp; omega
      have hy : y.cells.toList.length = sz := by omega
      have hA : (ys.take (j * sz)).length = j * sz := by rw [List.length_take]; omega
      have hAB : (ys.take (j * sz) ++ y.cells.toList).length = (j + 1) * sz := by rw [List.length_append, hA, hy, e1]
      have t1 : (ys.take (j * sz) ++ y.cells.toList ++ ys.drop (j * sz + y.cells.toList.length)).take ((j + 1) * sz) = ys.take (j * sz) ++ y.cells.toList := by
        rw [← hAB]; exact List.take_left
      have t2 : (ys.take (j * sz) ++ y.cells.toList ++ ys.drop (j * sz + y.cells.toList.length)).drop ((j + 1 + l.length) * sz) = ys.drop ((j + 1 + l.length) * sz) := by
        rw [show (j + 1 + l.length) * sz = (ys.take (j * sz) ++ y.cells.toList).length + l.length * sz by rw [hAB, ← Nat.add_mul]]
        rw [List.drop_append, List.drop_drop, hAB, hy, e1, List.drop_eq_nil_of_le (by rw [hAB, e1]; omega), List.nil_append]
        congr 1
        omega
      rw [t1, t2, e2]
      simp
    · cases h
  | [], _ :: _, _, _, _, hi, _, _, _, _ => by simp at hi
  | _ :: _, [], _, _, _, hi, _, _, _, _ => by simp at hi

theorem Sim.newRows (hs : Sim g w s) {w1 : World} (hos : w1.os = w.os) (htape : w1.tape = w.tape) (hout : w1.output = w.output) (hheap : w1.heap = w.heap) (e : Nat) (ys : List Value) :
    ∃ g', Ext g w s.o g' (w1.alloc (.cells ys.toArray e)) s.o ∧ Sim g' (w1.alloc (.cells ys.toArray e)) s ∧ (∀ k x, ys[k]? = some x → g'.I w.heap.size k = some x) := by
  obtain ⟨g', h1, h2, h3, _, _⟩ := hs.addIm (w' := w1.alloc (.cells ys.toArray e)) hos htape hout (by simp [hheap]) (fun b hb => by
    rw [← hheap] at hb
    rw [alloc_old w1 _ b hb, hheap]) w.heap.size (Nat.le_refl _) (fun k => ys[k]?) (fun k x hk => by
    have := alloc_new w1 (.cells ys.toArray e)
    rw [hheap] at this
    simp [World.cell?, this, hk])
  exact ⟨g', h1, h2, fun k x hk => by rw [h3]; exact hk⟩

theorem ok_buildSlice {T len : Nat} {parts : Array (Nat × Operand)} (ho : o.op = .buildSlice T len parts) (H : Here C o ρ ρc s φ π g w a next Q) (h : sem C o ρ s φ π) : o.uponIn (FR rr) nn C.P a next Q ((execOp ρc o).run C.P w) := by
  simp only [sem, ho] at h
  split at h
  · rename_i e sz0 by0 z0 hT
    split at h
    · rename_i ie hie
      obtain ⟨vs, h, e1, e2⟩ := partsA_spec H.rho _ _ h
      split at h
      · rename_i hnc
        split at h
        · rename_i rows hrows
          split at h
          · rename_i hc
            obtain ⟨hl, h0, hm⟩ := hc
            rw [forceL_eq] at h
            obtain ⟨info, z, q1, q2, q3, q4, q5, q6⟩ := (H.ty e ie hie).info
            obtain ⟨d, hd, hdok⟩ := (H.ty T _ hT).desc
            have hdok : d = .slice e := hdok
            subst hdok
            let zero : Array Value := if len * ie.size = 0 then #[] else z.cells
            obtain ⟨vals, k1, k2, k3⟩ := rows_fill (g := g) (s := s) h0 vs (parts.map fun (i, x) => (i, ρc x)).toList 0 rows ((List.range (len * ie.size)).map fun i => zero[i % zero.size]!)
              (by simpa [List.map_map, Function.comp_def] using e1) (by simpa [List.map_map, Function.comp_def] using e2) hnc hrows (by simp [hl])
            have hlen : rows.length = len := by have := All2.length k1; omega
            have hfill : Instr.fill (fun i => some (i * info.size, info.size)) ((Array.range (len * info.size)).map (zero[· % zero.size]!)) (parts.map fun (i, x) => (i, ρc x)).toList = some vals.flatten.toArray := by
              rw [q2]
              have : ((Array.range (len * ie.size)).map (zero[· % zero.size]!)) = ((List.range (len * ie.size)).map fun i => zero[i % zero.size]!).toArray := by
                apply Array.ext'; simp
              rw [this, k3]
              simp [hl]
            have hrun : (execOp ρc o).run C.P w = .ok (.value (.slice (some ⟨w.heap.size, 0, none⟩) len len)) (w.alloc (.cells vals.flatten.toArray e)) := by
              have hle : ¬ 2 ^ 24 < len * info.size := by rw [q2]; omega
              by_cases hz0 : len * info.size = 0
              · have hzero : zero = #[] := by simp only [zero]; rw [if_pos (by rw [← q2]; exact hz0)]
                rw [hzero] at hfill
                simp only [execOp, ho, Instr.buildSlice, Sem.run_bind, run_underlying hd, Result.andThen_ok, sizeOf, typeInfo, run_program, q1, Sem.run_pure, Sem.run_ite, gt_iff_lt, if_neg hle, if_pos hz0, hfill, newRow, run_newObj]
                rfl
              · have hzero : zero = z.cells := by simp only [zero]; rw [if_neg (by rw [← q2]; exact hz0)]
                rw [hzero] at hfill
                simp only [execOp, ho, Instr.buildSlice, Sem.run_bind, run_underlying hd, Result.andThen_ok, sizeOf, typeInfo, run_program, q1, Sem.run_pure, Sem.run_ite, gt_iff_lt, if_neg hle, if_neg hz0, zeroValue, q4, hfill, newRow, run_newObj]
                rfl
            obtain ⟨g', hx', hs', hI⟩ := H.sim.newRows (w1 := w) rfl rfl rfl rfl e vals.flatten
            refine upon_ok hrun (H.next _ _ _ _ _ h hx' hs' ?_)
            have := rel_sl_of (b := w.heap.size) (c := len) h0 k1 hx'.keep.im hI (by omega) (by unfold lenMax; have : len ≤ len * ie.size := Nat.le_mul_of_pos_right _ h0; omega)
            rw [hlen] at this
            exact (this.toT : RelT g' s.o _ _)
          · exact h.elim
        · exact h.elim
      · exact h.elim
    · exact h.elim
  · exact h.elim

theorem run_append_zero {T e ty : Nat} (hu : C.P.underlying T = some (.slice e)) {info : TypeInfo} (hi : C.P.info? e = some info) (base A : Option Addr) (len cap c : Nat) (hle : len ≤ cap) :
    (Builtin.append_ #[T, T] ty #[.slice base len cap, .slice A 0 c]).run C.P w = .ok (.slice base len cap) w := by
  cases A <;> cases base <;> simp [Builtin.append_, run_underlying hu, sizeOf, typeInfo, hi, Builtin.lenOf, Builtin.firstCells, loadCells, loadCellsFrom, hle, storeCells]

/-- A slice that may be appended to, of nothing yet. -/
theorem Sim.addTok (hs : Sim g w s) (e sz : Nat) (h0 : 0 < sz) : ∃ g', Ext g w s.o g' w (s.o ++ [(e, sz, 0)]) ∧ Sim g' w { s with o := s.o ++ [(e, sz, 0)] } ∧ g'.tk[s.o.length]? = some (.slice none 0 0) := by
  let g' : Aw.G := { g with tk := g.tk ++ [.slice none 0 0] }
  have hk : Keep g s.o g' (s.o ++ [(e, sz, 0)]) := ⟨Im.le_refl _, fun _ _ h => h, fun n e' sz' len h => .inl ⟨by
    rw [List.getElem?_append_left (List.getElem?_eq_some_iff.1 h).1]; exact h, by
    show (g.tk ++ [_])[n]? = g.tk[n]?
    rw [List.getElem?_append_left (by rw [hs.tlen]; exact (List.getElem?_eq_some_iff.1 h).1)]⟩⟩
  refine ⟨g', ⟨⟨rfl, rfl, rfl, Nat.le_refl _, Im.le_refl _, fun _ _ h => ⟨rfl, h, rfl⟩, fun _ _ _ h => h, fun _ _ h => h, rfl, fun _ _ _ h => h⟩, hk⟩, ?_, ?_⟩
  · constructor
    · exact hs.im
    · exact hs.imr
    · exact hs.fresh
    · exact hs.loc
    · exact hs.blen
    · intro n b T cs h1 h2
      obtain ⟨ys, a1, a2⟩ := hs.box n b T cs h1 h2
      exact ⟨ys, a1, a2.mono fun _ _ h => h.keep hk⟩
    · show (g.tk ++ [_]).length = (s.o ++ [_]).length
      simp [hs.tlen]
    · intro n v e' sz' len h1 h2
      have h1' : (g.tk ++ [Value.slice none 0 0])[n]? = some v := h1
      have h2' : (s.o ++ [(e, sz, 0)])[n]? = some (e', sz', len) := h2
      rcases Nat.lt_or_ge n g.tk.length with hn | hn
      · rw [List.getElem?_append_left hn] at h1'
        rw [List.getElem?_append_left (by rw [← hs.tlen]; exact hn)] at h2'
        exact hs.tok n v e' sz' len h1' h2'
      · have hn0 : n - g.tk.length = 0 := by
          rcases Nat.eq_zero_or_pos (n - g.tk.length) with h0 | h0
          · exact h0
          · rw [List.getElem?_append_right hn, List.getElem?_eq_none (by simp; omega)] at h1'; cases h1'
        rw [List.getElem?_append_right hn, hn0] at h1'
        rw [List.getElem?_append_right (by rw [← hs.tlen]; exact hn), ← hs.tlen, hn0] at h2'
        simp at h1' h2'
        obtain ⟨rfl, rfl, rfl⟩ := h2'
        subst h1'
        exact ⟨h0, ⟨[], World.ownsRow_nil w 0 e sz⟩, fun k hk => by simp [Value.ownBlock] at hk⟩
    · intro b ho h
      exact hs.globKeep (G' := g') ⟨Im.le_refl _, hs.im, Nat.le_refl _, fun _ _ h => ⟨h, rfl, rfl⟩⟩ h fun q h1 h2 => ⟨rfl, h2⟩
  · show (g.tk ++ [_])[s.o.length]? = _
    rw [← hs.tlen, List.getElem?_append_right (Nat.le_refl _)]
    simp

/-- The rows of a slice that may be appended to are more now, in the old block or in a new one. -/
theorem Sim.tokWrite (hs : Sim g w s) {w' : World} {n e sz len L g1 cap : Nat} {x : Value} {cur : Array Value} {ys : List Value} (ht : g.tk[n]? = some x) (ho : s.o[n]? = some (e, sz, len))
    (hos : w'.os = w.os) (htape : w'.tape = w.tape) (hout : w'.output = w.output) (hsz : w.heap.size ≤ w'.heap.size) (hsame : ∀ b, b < w.heap.size → b ≠ g1 → w'.heap[b]? = w.heap[b]?)
    (hwhere : w.heap.size ≤ g1 ∨ x.ownBlock = some g1) (hb : w'.heap[g1]? = some (.cells cur e (0, 0))) (hL : L ≤ cap) (hcm : cap ≤ maxLen) (hcs : cur.size = cap * sz) (hys : cur.toList.take (L * sz) = ys) (hyl : ys.length = L * sz) (hlt : len < L)
    (hold : ∀ k v, g.I g1 k = some v → ys[k]? = some v) :
    ∃ g', Ext g w s.o g' w' (s.o.set n (e, sz, L)) ∧ Sim g' w' { s with o := s.o.set n (e, sz, L) } ∧ (∀ k v, ys[k]? = some v → g'.I g1 k = some v) ∧ g'.tk[n]? = some (.slice (some ⟨g1, 0, none⟩) L cap) := by
  obtain ⟨h0, hown, hblk⟩ := hs.tok n x e sz len ht ho
  have hnlt : n < g.tk.length := (List.getElem?_eq_some_iff.1 ht).1
  have hnlo : n < s.o.length := (List.getElem?_eq_some_iff.1 ho).1
  have hg1lt : g1 < w'.heap.size := (Array.getElem?_eq_some_iff.1 hb).1
  let x' : Value := .slice (some ⟨g1, 0, none⟩) L cap
  let g' : Aw.G := { I := fun b => if b = g1 then (fun k => ys[k]?) else g.I b, role := fun b => if b = g1 then .tok n else if some b = x.ownBlock then .imm else g.role b, bl := g.bl, tk := g.tk.set n x', fr := g.fr }
  have hI : ∀ b, b ≠ g1 → g'.I b = g.I b := fun b h => if_neg h
  have hle : g.I.le g'.I := fun b k v h => by
    by_cases hbg : b = g1
    · subst hbg
      show (if b = b then (fun k => ys[k]?) else g.I b) k = some v
      rw [if_pos rfl]; exact hold k v h
    · rw [hI b hbg]; exact h
  -- a block with another owner
  have hother : ∀ b, b < w.heap.size → g.role b ≠ .tok n → b ≠ g1 ∧ some b ≠ x.ownBlock := by
    intro b hlt' hr
    have h2 : some b ≠ x.ownBlock := fun e => hr (hblk b e.symm).1
    refine ⟨fun e => ?_, h2⟩
    subst e
    rcases hwhere with h | h
    · omega
    · exact h2 h.symm
  have hrole : ∀ b, b < w.heap.size → g.role b ≠ .tok n → g'.role b = g.role b := by
    intro b hlt' hr
    obtain ⟨h1, h2⟩ := hother b hlt' hr
    show (if b = g1 then _ else if some b = x.ownBlock then _ else g.role b) = _
    rw [if_neg h1, if_neg h2]
  have hk : Keep g s.o g' (s.o.set n (e, sz, L)) := ⟨hle, fun _ _ h => h, fun m e' sz' len' h => by
    by_cases hm : m = n
    · subst hm
      rw [ho] at h; cases h
      exact .inr ⟨L, hlt, by rw [List.getElem?_set_self hnlo]⟩
    · exact .inl ⟨by rw [List.getElem?_set_ne (Ne.symm hm)]; exact h, by
        show (g.tk.set n x')[m]? = _
        rw [List.getElem?_set_ne (Ne.symm hm)]⟩⟩
  have imm : ∀ b, b < w.heap.size → g.role b = .imm → b ≠ g1 ∧ g'.role b = .imm := fun b hlt' h => by
    have hne : g.role b ≠ .tok n := by rw [h]; exact fun e => by cases e
    exact ⟨(hother b hlt' hne).1, by rw [hrole b hlt' hne]; exact h⟩
  refine ⟨g', ⟨⟨hos, htape, hout, hsz, hle, fun b hlt' h => ⟨hsame b hlt' (imm b hlt' h).1, (imm b hlt' h).2, hI b (imm b hlt' h).1⟩, fun b y hlt' h => by
    rw [hrole b hlt' (by rw [h]; exact fun e => by cases e)]; exact h, fun b hlt' h => by
    rw [hrole b hlt' (by rw [h]; exact fun e => by cases e)]; exact h, rfl, fun _ _ _ h => h⟩, hk⟩, ?_, ?_, ?_⟩
  · have him : ∀ b k v, g'.I b k = some v → w'.cell? ⟨b, k, none⟩ = some v := by
      intro b k v h
      by_cases hbg : b = g1
      · subst hbg
        have h' : ys[k]? = some v := by simpa [g'] using h
        rw [← hys, List.getElem?_take] at h'
        split at h'
        · simp [World.cell?, hb]; simpa using h'
        · cases h'
      · rw [hI b hbg] at h
        rw [World.cell?_of_block (w := w) (a := ⟨b, k, none⟩) (hsame b (hs.im_lt h) hbg)]
        exact hs.im b k v h
    constructor
    · exact him
    · intro b k v h
      by_cases hbg : b = g1
      · subst hbg; exact .inr (.inl ⟨n, if_pos rfl⟩)
      · rw [hI b hbg] at h
        show (if b = g1 then _ else if some b = x.ownBlock then _ else g.role b) = _ ∨ (∃ m, (if b = g1 then _ else if some b = x.ownBlock then _ else g.role b) = _) ∨ (if b = g1 then _ else if some b = x.ownBlock then _ else g.role b) = _
        rw [if_neg hbg]
        by_cases hx : some b = x.ownBlock
        · rw [if_pos hx]; exact .inl rfl
        · rw [if_neg hx]; exact hs.imr b k v h
    · intro b h
      show (if b = g1 then _ else if some b = x.ownBlock then _ else g.role b) = _
      rw [if_neg (by omega)]
      split
      · rfl
      · exact hs.fresh b (by omega)
    · intro m b h
      have h1 := hs.loc m b h
      rw [hrole b (hs.loc_lt h) (by rw [h1]; exact fun e => by cases e)]; exact h1
    · exact hs.blen
    · intro m b T cs h1 h2
      obtain ⟨zs, a1, a2⟩ := hs.box m b T cs h1 h2
      have h3 := hs.loc m b h1
      exact ⟨zs, (hsame b (hs.loc_lt h1) (hother b (hs.loc_lt h1) (by rw [h3]; exact fun e => by cases e)).1).trans a1, a2.mono fun _ _ h => h.keep hk⟩
    · show (g.tk.set n x').length = (s.o.set n (e, sz, L)).length
      simp [hs.tlen]
    · intro m v e' sz' len' h1 h2
      have h1' : (g.tk.set n x')[m]? = some v := h1
      have h2' : (s.o.set n (e, sz, L))[m]? = some (e', sz', len') := h2
      by_cases hm : m = n
      · subst hm
        rw [List.getElem?_set_self hnlt] at h1'
        rw [List.getElem?_set_self hnlo] at h2'
        cases h1'; cases h2'
        refine ⟨h0, ⟨ys, hyl, .inr ⟨g1, cap, cur, rfl, Nat.zero_le _, hb, hL, hcm, hcs, hys⟩⟩, fun k hkb => ?_⟩
        have : g1 = k := by simpa [x', Value.ownBlock] using hkb
        subst this
        refine ⟨if_pos rfl, fun k hkl => ?_⟩
        show (if g1 = g1 then (fun k => ys[k]?) else g.I g1) k = none
        rw [if_pos rfl]
        exact List.getElem?_eq_none (by omega)
      · rw [List.getElem?_set_ne (Ne.symm hm)] at h1' h2'
        obtain ⟨b1, ⟨zs, b2⟩, b3⟩ := hs.tok m v e' sz' len' h1' h2'
        have hblkm : ∀ k, v.ownBlock = some k → k < w.heap.size ∧ k ≠ g1 ∧ some k ≠ x.ownBlock := by
          intro k hkv
          have hr := (b3 k hkv).1
          have hlt' : k < w.heap.size := by
            rcases Nat.lt_or_ge k w.heap.size with h' | h'
            · exact h'
            · have := hs.fresh k h'; rw [hr] at this; cases this
          have := hother k hlt' (by rw [hr]; intro e; cases e; exact hm rfl)
          exact ⟨hlt', this⟩
        refine ⟨b1, ⟨zs, b2.1, ?_⟩, fun k hkv => ?_⟩
        · rcases b2.2 with h | ⟨q, cap', cur', c1, c2, c3, c4⟩
          · exact .inl h
          · obtain ⟨d1, d2, d3⟩ := hblkm q (by rw [c1]; rfl)
            exact .inr ⟨q, cap', cur', c1, c2, (hsame q d1 d2).trans c3, c4⟩
        · obtain ⟨d1, d2, d3⟩ := hblkm k hkv
          obtain ⟨f1, f2⟩ := b3 k hkv
          refine ⟨?_, fun j hj => by rw [hI k d2]; exact f2 j hj⟩
          rw [hrole k d1 (by rw [f1]; intro e; cases e; exact hm rfl)]; exact f1
    · intro b ho' h
      refine hs.globKeep (G' := g') ⟨hle, him, hsz, fun b hlt' h => ?_⟩ h fun q h1 h2 => ?_
      · have hne : g.role b ≠ .tok n := by rw [h]; exact fun e => by cases e
        exact ⟨by rw [hrole b hlt' hne]; exact h, hsame b hlt' (hother b hlt' hne).1, hI b (hother b hlt' hne).1⟩
      · have hne : g.role q ≠ .tok n := by rw [h2]; exact fun e => by cases e
        exact ⟨hsame q h1 (hother q h1 hne).1, by rw [hrole q h1 hne]; exact h2⟩
  · intro k v h
    show (if g1 = g1 then (fun k => ys[k]?) else g.I g1) k = some v
    rw [if_pos rfl]; exact h
  · show (g.tk.set n x')[n]? = _
    rw [List.getElem?_set_self hnlt]

/-- Rows are put behind those that a slice has. -/
theorem append_own (hs : Sim g w s) {T e ty n sz len : Nat} {ie : TI} (hie : TIOk C.P e ie) (hu : C.P.underlying T = some (.slice e)) (hsz : ie.size = sz) (ho : s.o[n]? = some (e, sz, len)) {rows news : List (List AC)} {x y : Value}
    (hx : RelT g s.o (.own n sz rows) x) (hl : rows.length = len) (hy : Rel g.I (.sl sz news) y) (hb : (len + news.length) * ie.bytes ≤ lenMax) (hm : len + news.length ≤ lenMax) :
    ∃ x' g' w', (Builtin.append_ #[T, T] ty #[x, y]).run C.P w = .ok x' w' ∧ Ext g w s.o g' w' (s.o.set n (e, sz, len + news.length)) ∧ Sim g' w' { s with o := s.o.set n (e, sz, len + news.length) } ∧
      RelT g' (s.o.set n (e, sz, len + news.length)) (.own n sz (rows ++ news)) x' := by
  obtain ⟨info, z, q1, q2, q3, q4, q5, q6⟩ := hie.info
  obtain ⟨hr, e', len', ho', hle', htk⟩ := hx
  rw [ho] at ho'
  cases ho'
  have htk := htk hl
  obtain ⟨h0, ⟨xs, hown⟩, hblk⟩ := hs.tok n x e sz len htk ho
  obtain ⟨A, c, nv, rfl, _, hnc, hnm, hrel, hcells, hne⟩ := rows_of_rel hy
  obtain ⟨nl1, nl2⟩ := hrel.lens
  have hzs : z.cells.size = sz := by have h1 := q6.length; have h2 := hie.len; simp at h1; omega
  by_cases hn0 : news = []
  · -- nothing is put there
    subst hn0
    have hset : s.o.set n (e, sz, len + ([] : List (List AC)).length) = s.o := by
      apply List.ext_getElem?
      intro k
      rw [List.getElem?_set]
      split
      · rename_i hk; subst hk
        rw [if_pos (List.getElem?_eq_some_iff.1 ho).1, ho]; rfl
      · rfl
    rw [hset]
    obtain ⟨bs, cap, hxs, hlc⟩ : ∃ bs cap, x = .slice bs len cap ∧ len ≤ cap := by
      rcases hown.2 with ⟨rfl, rfl⟩ | ⟨g1, cap, cur, rfl, _, _, h, _⟩
      · exact ⟨none, 0, rfl, Nat.le_refl _⟩
      · exact ⟨_, cap, rfl, h⟩
    subst hxs
    refine ⟨_, g, w, run_append_zero (C := C) hu q1 bs A len cap c hlc, .refl _ _ _, hs, ?_⟩
    rw [List.append_nil]
    exact ⟨hr, e, len, ho, by omega, fun _ => htk⟩
  · obtain ⟨b, off, rfl⟩ := hne hn0
    have hm0 : 0 < news.length := List.length_pos_iff.2 hn0
    have hnlen : nv.flatten.length = news.length * info.size := by rw [flat_len sz nv nl2, ← All2.length hrel, q2, hsz]
    have hnews : ∀ (W : World), W.heap = w.heap → ∀ j u, nv.flatten[j]? = some u → W.cell? ((⟨b, off, none⟩ : Addr).add j) = some u := fun W hW j u hj => by
      obtain ⟨b', off', hA, hI⟩ := hcells j u hj
      cases hA
      rw [add_at]
      have := hs.im _ _ _ hI
      simpa [World.cell?, hW] using this
    have hone : ∀ u ∈ nv.flatten, u.oneCell' = true := fun u hu' => by
      obtain ⟨v, hv, hu'⟩ := List.mem_flatten.1 hu'
      obtain ⟨i, hi⟩ := List.getElem?_of_mem hv
      have hlt : i < news.length := by have := (List.getElem?_eq_some_iff.1 hi).1; rw [← All2.length hrel] at this; exact this
      obtain ⟨v', hv', _, ha⟩ := RowsRel.get hrel (List.getElem?_eq_getElem hlt)
      rw [hi] at hv'; cases hv'
      exact All2.one (o := s.o) (All2.toT ha) u hu'
    have h63 : len + news.length ≤ maxLen := by unfold maxLen; unfold lenMax at hm; omega
    have hbytes : (len + news.length) * info.bytes ≤ 140737488355328 := by rw [q3]; exact hb
    have hxl : xs.length = len * sz := hown.1
    have hylen : (xs ++ nv.flatten).length = (len + news.length) * sz := by rw [List.length_append, hxl, hnlen, q2, hsz, Nat.add_mul]
    -- what follows from the cells, wherever they lie
    have fin : ∀ (g1 cap : Nat) (w' : World) (cur : Array Value), (Builtin.append_ #[T, T] ty #[x, .slice (some ⟨b, off, none⟩) news.length c]).run C.P w = .ok (.slice (some ⟨g1, 0, none⟩) (len + news.length) cap) w' →
        w'.os = w.os → w'.tape = w.tape → w'.output = w.output → w.heap.size ≤ w'.heap.size → (∀ b, b < w.heap.size → b ≠ g1 → w'.heap[b]? = w.heap[b]?) → (w.heap.size ≤ g1 ∨ x.ownBlock = some g1) →
        w'.heap[g1]? = some (.cells cur e (0, 0)) → len + news.length ≤ cap → cap ≤ maxLen → cur.size = cap * sz → cur.toList.take ((len + news.length) * sz) = xs ++ nv.flatten →
        ∃ x' g' w', (Builtin.append_ #[T, T] ty #[x, .slice (some ⟨b, off, none⟩) news.length c]).run C.P w = .ok x' w' ∧ Ext g w s.o g' w' (s.o.set n (e, sz, len + news.length)) ∧ Sim g' w' { s with o := s.o.set n (e, sz, len + news.length) } ∧
          RelT g' (s.o.set n (e, sz, len + news.length)) (.own n sz (rows ++ news)) x' := by
      intro g1 cap w' cur hrun r1 r2 r3 r4 r5 r6 r7 r8 r9 r10 r11
      obtain ⟨g', k1, k2, k3, k4⟩ := hs.tokWrite (L := len + news.length) htk ho r1 r2 r3 r4 r5 r6 r7 r8 r9 r10 r11 hylen (by omega) (by
        intro k v hI
        rcases r6 with h | h
        · rw [hs.I_new h k] at hI; cases hI
        · obtain ⟨_, h2⟩ := hblk g1 h
          have hk : k < len * sz := by
            rcases Nat.lt_or_ge k (len * sz) with h' | h'
            · exact h'
            · rw [h2 k h'] at hI; cases hI
          have hkx : k < xs.length := by omega
          have := hown.cells h k _ (List.getElem?_eq_getElem hkx)
          rw [add_at, Nat.zero_add, hs.im _ _ _ hI] at this
          rw [List.getElem?_append_left hkx, List.getElem?_eq_getElem hkx]
          exact this.symm)
      refine ⟨_, g', w', hrun, k1, k2, ?_, e, len + news.length, by rw [List.getElem?_set_self (List.getElem?_eq_some_iff.1 ho).1], by simp [hl], fun _ => k4⟩
      -- the rows, old and new
      obtain ⟨A0, c0, ov, hx0, _, _, _, orel, ocells, _⟩ := rows_of_rel hr
      have hov : ov.flatten = xs := by
        obtain ⟨ol1, ol2⟩ := orel.lens
        have hol : ov.flatten.length = xs.length := by rw [flat_len sz ov ol2, ← All2.length orel, hl, hxl]
        apply List.ext_getElem?
        intro k
        rcases Nat.lt_or_ge k xs.length with hk | hk
        · obtain ⟨b', off', hA, hI⟩ := ocells k _ (List.getElem?_eq_getElem (by omega))
          subst hA
          have hob : x.ownBlock = some b' := by rw [hx0]; rfl
          have hc := hown.cells hob k _ (List.getElem?_eq_getElem hk)
          have h0' : off' = 0 := by
            rcases hown.2 with ⟨rfl, _⟩ | ⟨q, cap', cur', rfl, _⟩
            · cases hx0
            · injection hx0 with e1; injection e1 with e1; injection e1 with e1 e2; exact e2.symm
          subst h0'
          rw [add_at, hs.im _ _ _ hI] at hc
          rw [List.getElem?_eq_getElem hk, List.getElem?_eq_getElem (by omega)]
          exact hc
        · rw [List.getElem?_eq_none hk, List.getElem?_eq_none (by omega)]
      have hall : RowsRel g.I sz (rows ++ news) (ov ++ nv) := All2.append orel hrel
      have := rel_sl_of (b := g1) (c := cap) h0 hall k1.keep.im (fun k v hk => k3 k v (by rw [List.flatten_append, hov] at hk; exact hk)) (by simp [hl]; exact r8) (by simp [hl]; exact hm)
      have hl2 : (rows ++ news).length = len + news.length := by simp [hl]
      rw [hl2] at this
      exact this
    rcases hown.2 with ⟨rfl, rfl⟩ | ⟨g1, cap, cur, rfl, _, hg1, hlc, hcm, hcs, htake⟩
    · have hx0 : xs = [] := List.eq_nil_of_length_eq_zero (by simpa using hxl)
      subst hx0
      have hrun := run_append_nil (P := C.P) w T ty e info z hu q1 q4 ⟨b, off, none⟩ news.length c nv.flatten hnlen (hnews w rfl) hm0 (by unfold lenMax at hm; omega) (by simp only [Nat.zero_add] at hbytes; omega)
      have hge := grownCap_ge w news.length 0 e
      refine fin w.heap.size (grownCap w news.length 0 e) (w.drew.alloc (.cells (nv.flatten.toArray ++ Builtin.zeroCells z.cells (grownCap w news.length 0 e - news.length)) e)) (nv.flatten.toArray ++ Builtin.zeroCells z.cells (grownCap w news.length 0 e - news.length)) (by simpa using hrun) rfl rfl rfl (by simp) (fun k hk _ => RowKit.Below.heap_alloc w.drew _ k hk) (.inl (Nat.le_refl _)) (heap_alloc_new w.drew _) (by simpa using hge) (grownCap_le_maxLen w _ 0 e (by simpa using h63)) ?_ ?_
      · simp only [Array.size_append, List.size_toArray, size_zeroCells, hzs, hnlen, q2, hsz, ← Nat.add_mul]
        congr 1; omega
      · simp only [Array.toList_append, List.nil_append, Nat.zero_add]
        have : news.length * sz = nv.flatten.length := by rw [hnlen, q2, hsz]
        rw [this]
        exact List.take_left
    · by_cases hroom : len + news.length ≤ cap
      · have hfit : len * info.size + nv.flatten.length ≤ cur.size := by rw [hnlen, hcs, q2, hsz, ← Nat.add_mul]; exact Nat.mul_le_mul_right _ hroom
        have hrun := run_append_room (P := C.P) w T ty e info hu q1 g1 len cap cur hg1 ⟨b, off, none⟩ news.length c nv.flatten hnlen (hnews w rfl) hone hroom hfit
        rw [q2, hsz] at hrun hfit
        refine fin g1 cap _ _ hrun rfl rfl rfl (by simp [World.setRow]) (fun k _ hk => setRow_other w g1 k _ hk) (.inr rfl) (setRow_heap w g1 cur _ e _ hg1) hroom hcm ?_ ?_
        · simp only [List.size_toArray, List.length_append, List.length_take, List.length_drop, Array.length_toList]
          omega
        · rw [List.toList_toArray, htake]
          have : (len + news.length) * sz = (xs ++ nv.flatten).length := hylen.symm
          rw [this]
          exact List.take_left
      · have hold : ∀ j u, xs[j]? = some u → w.cell? ((⟨g1, 0, none⟩ : Addr).add j) = some u := hown.cells rfl
        have hrun := run_append_grow (P := C.P) w T ty e info z hu q1 q4 ⟨g1, 0, none⟩ len cap xs (by rw [hxl, q2, hsz]) hold ⟨b, off, none⟩ news.length c nv.flatten hnlen (hnews w rfl) (by omega) (by unfold lenMax at hm; omega) (growslice_fits (by omega) hbytes)
        have hge := grownCap_ge w (len + news.length) cap e
        refine fin w.heap.size (grownCap w (len + news.length) cap e) _ _ hrun rfl rfl rfl (by simp) (fun k hk _ => RowKit.Below.heap_alloc w.drew _ k hk) (.inl (Nat.le_refl _)) (heap_alloc_new w.drew _) hge (grownCap_le_maxLen w _ cap e h63) ?_ ?_
        · simp only [Array.size_append, List.size_toArray, size_zeroCells, hzs, hxl, hnlen, q2, hsz, ← Nat.add_mul]
          congr 1; omega
        · simp only [Array.toList_append]
          rw [← hylen]
          exact List.take_left

theorem newsA_ok {v : AV} {y : Value} {sz : Nat} {news : List (List AC)} (hr : RelV g s.o v y) (h : newsA v = some (sz, news)) : Rel g.I (.sl sz news) y := by
  unfold newsA at h
  split at h <;> cases h
  · exact hr
  · rename_i n
    have hrt : RelT g s.o (.own n sz news) y := hr
    exact hrt.1

theorem RowsRel.flat {I : Im} {sz : Nat} : ∀ {rows : List (List AC)} {vals : List (List Value)}, RowsRel I sz rows vals → All2 (Rel I) rows.flatten vals.flatten
  | [], [], _ => trivial
  | r :: rows, v :: vals, h => by
    rw [List.flatten_cons, List.flatten_cons]
    exact All2.append h.1.2 (RowsRel.flat (show RowsRel I sz rows vals from h.2))
  | [], _ :: _, h => h.elim
  | _ :: _, [], h => h.elim

/-- A slice whose cells are shared is appended to. -/
theorem ok_appendR {T : Nat} {x y : AV} {xv yv : Value} (H : Here C o ρ ρc s φ π g w a next Q) (hx : RelV g s.o x xv) (hy : RelV g s.o y yv)
    (hrun : ∀ (v : Value) (w' : World), (Builtin.append_ #[T, T] o.type #[xv, yv]).run C.P w = .ok v w' → (execOp ρc o).run C.P w = .ok (.value v) w') (h : appendR C T x y s φ) :
    o.uponIn (FR rr) nn C.P a next Q ((execOp ρc o).run C.P w) := by
  unfold appendR at h
  split at h
  · rename_i e sz0 by0 z0 hT
    obtain ⟨d, hd, hdok⟩ := (H.ty T _ hT).desc
    have hu : d = .slice e := hdok
    subst hu
    split at h
    · rename_i ie sz news hie hnews
      have hrn := newsA_ok hy hnews
      obtain ⟨info, z, q1, q2, q3, q4, q5, q6⟩ := (H.ty e ie hie).info
      obtain ⟨A, c, nv, rfl, h0, hnc, hnm, hrel, hcells, hne⟩ := rows_of_rel hrn
      obtain ⟨nl1, nl2⟩ := hrel.lens
      have hlen := (H.ty e ie hie).len
      have hzs : z.cells.size = ie.size := by have h1 := q6.length; simp at h1; omega
      have hpad : ∀ n, ∃ pad : List AC, pad.length = n * ie.size ∧ ∀ I, All2 (Rel I) pad (Builtin.zeroCells z.cells n).toList := fun n => by
        refine ⟨(Builtin.zeroCells z.cells n).toList.map AC.v, by rw [List.length_map, Array.length_toList, size_zeroCells, hzs], fun I => ?_⟩
        refine All2.of_get (by simp) fun k p q h1 h2 => ?_
        rw [List.getElem?_map, h2] at h1
        cases h1
        refine .v _ ?_
        have hq := List.mem_of_getElem? h2
        unfold Builtin.zeroCells at hq
        rw [Array.toList_map, List.mem_map] at hq
        obtain ⟨i, hi, rfl⟩ := hq
        have hi : i < n * z.cells.size := by simpa using hi
        have hpos : 0 < z.cells.size := by
          rcases Nat.eq_zero_or_pos z.cells.size with h | h
          · rw [h] at hi; simp at hi
          · exact h
        have hlt := Nat.mod_lt i hpos
        rw [getElem!_pos z.cells _ hlt]
        have hm : z.cells[i % z.cells.size] ∈ z.cells.toList := by simp
        exact All2.one (G := ⟨fun _ _ => none, fun _ => .imm, [], [], ⟨0, none, 0, []⟩⟩) (o := []) (All2.toT q6) _ hm
      split at h
      · rename_i hsz
        subst hsz
        have hnlen : nv.flatten.length = news.length * info.size := by rw [flat_len _ nv nl2, ← All2.length hrel, q2]
        have hnews' : ∀ (b off : Nat), A = some ⟨b, off, none⟩ → ∀ (W : World), W.heap = w.heap → ∀ j u, nv.flatten[j]? = some u → W.cell? ((⟨b, off, none⟩ : Addr).add j) = some u := fun b off hA W hW j u hj => by
          obtain ⟨b', off', hA', hI⟩ := hcells j u hj
          rw [hA] at hA'
          cases hA'
          rw [add_at]
          have := H.sim.im _ _ _ hI
          simpa [World.cell?, hW] using this
        have hone : ∀ u ∈ nv.flatten, u.oneCell' = true := fun u hu' => All2.one (o := s.o) (All2.toT hrel.flat) u hu'
        split at h
        · obtain ⟨⟨hm0, hb, hm⟩, h⟩ := h
          obtain ⟨b, off, rfl⟩ := hne (by intro e; rw [e] at hm0; simp at hm0)
          have hv : xv = .slice none 0 0 := by
            have hr : Rel g.I _ _ := hx
            generalize xv = v at hr; cases hr; rfl
          subst hv
          have hbytes : news.length * info.bytes ≤ 281474976710656 := by rw [q3]; unfold lenMax at hb; omega
          have hr := run_append_nil (P := C.P) w T o.type e info z hd q1 q4 ⟨b, off, none⟩ news.length c nv.flatten hnlen (hnews' b off rfl w rfl) hm0 (by unfold lenMax at hm; omega) hbytes
          obtain ⟨pad, p1, p2⟩ := hpad (grownCap w news.length 0 e - news.length)
          obtain ⟨hn, g', k1, k2⟩ := (H.sim.drewN).addGlob e (news.flatten ++ pad) (nv.flatten.toArray ++ Builtin.zeroCells z.cells (grownCap w news.length 0 e - news.length)).toList (by
            rw [Array.toList_append, List.toList_toArray]
            exact All2.append hrel.flat (p2 _))
          rw [Array.toArray_toList] at k1 k2
          exact upon_ok (hrun _ _ hr) (H.next _ _ _ _ _ (h _ _ pad hn (grownCap_ge w _ 0 e) p1) ((Ext.drew g w s.o).trans k1) k2 (Rel.v _ rfl))
        · rename_i b1 len cap
          obtain ⟨cs, ⟨hh, hlc, hcl, hm0, hb, hm⟩, hroom, hgrow⟩ := h
          obtain ⟨b, off, rfl⟩ := hne (by intro e; rw [e] at hm0; simp at hm0)
          have hv : xv = .slice (some ⟨b1, 0, none⟩) len cap := by
            have hr : Rel g.I _ _ := hx
            generalize xv = v at hr; cases hr; rfl
          subst hv
          obtain ⟨_, _, ys, e1, e2⟩ := H.sim.glob b1 _ hh
          have hyl : ys.length = cap * ie.size := by rw [← e2.length]; exact hcl
          have h63 : len + news.length ≤ maxLen := by unfold maxLen; unfold lenMax at hm; omega
          have hbytes : (len + news.length) * info.bytes ≤ 140737488355328 := by rw [q3]; exact hb
          by_cases hr : len + news.length ≤ cap
          · have hfit : len * info.size + nv.flatten.length ≤ ys.toArray.size := by rw [hnlen, q2, ← Nat.add_mul]; simp only [List.size_toArray, hyl]; exact Nat.mul_le_mul_right _ hr
            have hrun' := run_append_room (P := C.P) w T o.type e info hd q1 b1 len cap ys.toArray e1 ⟨b, off, none⟩ news.length c nv.flatten hnlen (hnews' b off rfl w rfl) hone hr hfit
            rw [q2] at hrun' hfit
            have hdl : len * ie.size + nv.flatten.length = (len + news.length) * ie.size := by rw [hnlen, q2, Nat.add_mul]
            obtain ⟨k1, k2⟩ := H.sim.setGlob (w' := w.setRow b1 (ys.toArray.toList.take (len * ie.size) ++ nv.flatten ++ ys.toArray.toList.drop (len * ie.size + nv.flatten.length)).toArray) (cs := cs.take (len * ie.size) ++ news.flatten ++ cs.drop ((len + news.length) * ie.size)) (ys := ys.take (len * ie.size) ++ nv.flatten ++ ys.drop ((len + news.length) * ie.size)) hh rfl rfl rfl (by simp [World.setRow])
              (fun k hk => setRow_other w b1 k _ hk) (by rw [hdl, List.toList_toArray]; exact setRow_heap w b1 ys.toArray _ e _ e1) (All2.append (All2.append (e2.take _) hrel.flat) (e2.drop _))
            exact upon_ok (hrun _ _ hrun') (H.next _ _ _ _ _ (hroom hr) k1 k2 (Rel.v _ rfl))
          · have hold : ∀ j u, (ys.take (len * ie.size))[j]? = some u → w.cell? ((⟨b1, 0, none⟩ : Addr).add j) = some u := fun j u hj => by
              rw [List.getElem?_take] at hj
              split at hj
              · rw [add_at, Nat.zero_add]; simp [World.cell?, e1, hj]
              · cases hj
            have htl : (ys.take (len * ie.size)).length = len * info.size := by rw [List.length_take, hyl, q2]; have := Nat.mul_le_mul_right ie.size hlc; omega
            have hrun' := run_append_grow (P := C.P) w T o.type e info z hd q1 q4 ⟨b1, 0, none⟩ len cap (ys.take (len * ie.size)) htl hold ⟨b, off, none⟩ news.length c nv.flatten hnlen (hnews' b off rfl w rfl) (by omega) (by unfold lenMax at hm; omega) (growslice_fits (by omega) hbytes)
            obtain ⟨pad, p1, p2⟩ := hpad (grownCap w (len + news.length) cap e - (len + news.length))
            obtain ⟨hn, g', k1, k2⟩ := (H.sim.drewN).addGlob e (cs.take (len * ie.size) ++ news.flatten ++ pad) ((ys.take (len * ie.size)).toArray ++ nv.flatten.toArray ++ Builtin.zeroCells z.cells (grownCap w (len + news.length) cap e - (len + news.length))).toList (by
              rw [Array.toList_append, Array.toList_append, List.toList_toArray, List.toList_toArray]
              exact All2.append (All2.append (e2.take _) hrel.flat) (p2 _))
            rw [Array.toArray_toList] at k1 k2
            exact upon_ok (hrun _ _ hrun') (H.next _ _ _ _ _ (hgrow hr _ _ pad hn (grownCap_ge w _ cap e) p1) ((Ext.drew g w s.o).trans k1) k2 (Rel.v _ rfl))
        · exact h.elim
      · exact h.elim
    · exact h.elim
  · exact h.elim

theorem ok_append {args : Array Operand} {tys : Array TypeId} (ho : o.op = .call { callee := .builtin .append, args := args, argTypes := tys }) (H : Here C o ρ ρc s φ π g w a next Q) (h : sem C o ρ s φ π) : o.uponIn (FR rr) nn C.P a next Q ((execOp ρc o).run C.P w) := by
  simp only [sem, ho] at h
  split at h
  · rename_i x y T T' hargs htys
    split at h
    · rename_i hTT
      subst hTT
      have e1 : args = #[x, y] := by rw [← Array.toArray_toList (xs := args), hargs]
      have e2 : tys = #[T, T] := by rw [← Array.toArray_toList (xs := tys), htys]
      subst e1 e2
      split at h
      · rename_i va vb hx hy
        have hrx := H.rho x va hx
        have hry := H.rho y vb hy
        have hrun : ∀ (v : Value) (w' : World), (Builtin.append_ #[T, T] o.type #[ρc x, ρc y]).run C.P w = .ok v w' → (execOp ρc o).run C.P w = .ok (.value v) w' := by
          intro v w' hr
          simp [execOp, ho, resolve, invoke, Go.builtin, hr]
        by_cases hraw : C.isRaw o.dst = true
        · rw [if_pos hraw] at h
          exact ok_appendR H hrx hry hrun h
        rw [if_neg hraw] at h
        unfold appendA at h
        split at h
        · rename_i e sz0 by0 z0 hT
          obtain ⟨d, hd, hdok⟩ := (H.ty T _ hT).desc
          have hdok : d = .slice e := hdok
          subst hdok
          split at h
          · rename_i ie sz news hie hnews
            have hrn := newsA_ok hry hnews
            split at h
            · rename_i hsz
              subst hsz
              split at h
              · -- a nil slice
                obtain ⟨⟨h0, hb, hm⟩, h⟩ := h
                rw [forceLen_eq, forceL_eq, Nat.zero_add] at h
                obtain ⟨g1, k1, k2, k3⟩ := H.sim.addTok e ie.size h0
                have hv : ρc x = .slice none 0 0 := by
                  have hr : Rel g.I _ _ := hrx
                  generalize ρc x = v at hr; cases hr; rfl
                have hnl : s.o.length < (s.o ++ [(e, ie.size, 0)]).length := by simp
                have hget : (s.o ++ [(e, ie.size, 0)])[s.o.length]? = some (e, ie.size, 0) := by
                  rw [List.getElem?_append_right (Nat.le_refl _)]; simp
                have hset : (s.o ++ [(e, ie.size, 0)]).set s.o.length (e, ie.size, 0 + news.length) = s.o ++ [(e, ie.size, news.length)] := by
                  rw [List.set_append_right _ _ (Nat.le_refl _)]; simp
                have hrel0 : RelT g1 (s.o ++ [(e, ie.size, 0)]) (.own s.o.length ie.size []) (ρc x) := by
                  rw [hv]
                  exact ⟨Rel.sl ie.size [] none 0 (fun _ _ => undef) h0 (Nat.le_refl _) (Nat.zero_le _) (fun _ h => by cases h) (fun i r k x h _ => by simp at h) (fun i r k x h _ => by simp at h), e, 0, hget, Nat.le_refl _, fun _ => k3⟩
                obtain ⟨x', g', w', r1, r2, r3, r4⟩ := append_own (C := C) (ty := o.type) k2 (H.ty e ie hie) hd rfl hget hrel0 rfl (hrn.mono k1.keep.im) (by rw [Nat.zero_add]; exact hb) (by rw [Nat.zero_add]; exact hm)
                dsimp only at r2 r3
                rw [hset] at r2 r3 r4
                exact upon_ok (hrun _ _ r1) (H.next _ _ _ _ _ h (k1.trans r2) r3 r4)
              · rename_i n sz' rows
                split at h
                · rename_i e' sz'' len hon
                  obtain ⟨⟨rfl, rfl, rfl, hl, hb, hm⟩, h⟩ := h
                  rw [forceL_eq] at h
                  obtain ⟨x', g', w', r1, r2, r3, r4⟩ := append_own (C := C) (ty := o.type) H.sim (H.ty e' ie hie) hd rfl hon hrx hl hrn hb hm
                  exact upon_ok (hrun _ _ r1) (H.next _ _ _ _ _ h r2 r3 r4)
                · exact h.elim
              · exact h.elim
            · exact h.elim
          · exact h.elim
        · exact h.elim
      · exact h.elim
    · exact h.elim
  · exact h.elim

/-! ### Calls -/
def bareRole : Role → Role
  | .glob x => .glob x
  | .ext => .ext
  | _ => .imm
def bareOf (g : G) : G := { I := g.I, role := fun b => bareRole (g.role b), bl := [], tk := [], fr := g.fr }

theorem bareOf_bare (g : G) : Bare (bareOf g) := ⟨rfl, rfl, fun b => by
  show (bareRole (g.role b)).plain
  cases g.role b <;> first | exact .inr (.inl ⟨_, rfl⟩) | exact .inl rfl | exact .inr (.inr rfl)⟩

theorem Sim.bare (hs : Sim g w s) : Sim (bareOf g) w ⟨[], [], s.h⟩ where
  im := hs.im
  imr := fun b k x h => by
    show bareRole (g.role b) = .imm ∨ (∃ n, bareRole (g.role b) = .tok n) ∨ bareRole (g.role b) = .ext
    rcases hs.imr b k x h with h1 | ⟨n, h1⟩ | h1 <;> rw [h1]
    · exact .inl rfl
    · exact .inl rfl
    · exact .inr (.inr rfl)
  fresh := fun b h => by
    show bareRole (g.role b) = .imm
    rw [hs.fresh b h]; rfl
  loc := fun n b h => by simp [bareOf] at h
  blen := rfl
  box := fun n b T cs h => by simp [bareOf] at h
  tlen := rfl
  tok := fun n v e sz len h => by simp [bareOf] at h
  glob := fun b ho h => hs.globKeep (G' := bareOf g) ⟨Im.le_refl _, hs.im, Nat.le_refl _, fun b _ h => ⟨by show bareRole (g.role b) = _; rw [h]; rfl, rfl, rfl⟩⟩ h fun q h1 h2 => ⟨rfl, by show bareRole (g.role q) = _; rw [h2]; rfl⟩

/-- Back from a call: the caller's own boxes and owners are there as they were. -/
theorem Sim.back (hs : Sim g w s) {g1 : G} {w1 : World} {h1 : Heap} (hf : Fra (bareOf g) w g1 w1) (hb : Bare g1) (hs1 : Sim g1 w1 ⟨[], [], h1⟩) :
    ∃ g', Ext g w s.o g' w1 s.o ∧ Sim g' w1 { s with h := h1 } ∧ g1.I.le g'.I := by
  let g' : Aw.G := { I := g1.I, role := fun b => if b < w.heap.size then g.role b else g1.role b, bl := g.bl, tk := g.tk, fr := g.fr }
  have hk : Keep g s.o g' s.o := ⟨hf.im, fun _ _ h => h, fun _ _ _ _ h => .inl ⟨h, rfl⟩⟩
  have hrole : ∀ b, b < w.heap.size → g'.role b = g.role b := fun b h => if_pos h
  -- what isn't shared stays
  have himm : ∀ b, b < w.heap.size → (∀ x, g.role b ≠ .glob x) → g.role b ≠ .ext → w1.heap[b]? = w.heap[b]? ∧ g1.I b = g.I b ∧ g1.role b = .imm := fun b hlt hr hr2 => by
    have : (bareOf g).role b = .imm := by
      show bareRole (g.role b) = .imm
      cases h : g.role b with
      | glob x => exact absurd h (hr x)
      | ext => exact absurd h hr2
      | _ => rfl
    obtain ⟨h1, h2, h3⟩ := hf.imm b hlt this
    exact ⟨h1, h3, h2⟩
  have hglob : ∀ b x, b < w.heap.size → g.role b = .glob x → g1.role b = .glob x := fun b x hlt h => hf.glob b x hlt (by show bareRole (g.role b) = _; rw [h]; rfl)
  have hext : ∀ b, b < w.heap.size → g.role b = .ext → g1.role b = .ext := fun b hlt h => hf.ext b hlt (by show bareRole (g.role b) = _; rw [h]; rfl)
  -- the roles that g1 tells are g''s
  have hsame : ∀ b, (g1.role b = .ext ∨ ∃ x, g1.role b = .glob x) → g'.role b = g1.role b := fun b h => by
    by_cases hlt : b < w.heap.size
    · rw [hrole b hlt]
      cases hr : g.role b with
      | glob y => rw [hglob b y hlt hr]
      | ext => rw [hext b hlt hr]
      | _ =>
        have := (himm b hlt (fun x e => by rw [hr] at e; cases e) (fun e => by rw [hr] at e; cases e)).2.2
        rw [this] at h
        rcases h with h | ⟨x, h⟩ <;> cases h
    · exact if_neg hlt
  refine ⟨g', ⟨⟨hf.os, hf.tape, hf.output, hf.size, hf.im, fun b hlt h => ?_, fun b x hlt h => ?_, fun b hlt h => ?_, rfl, fun _ _ _ h => h⟩, hk⟩, ?_, Im.le_refl _⟩
  · obtain ⟨e1, e2, _⟩ := himm b hlt (fun x e => by rw [h] at e; cases e) (fun e => by rw [h] at e; cases e)
    exact ⟨e1, by rw [hrole b hlt]; exact h, e2⟩
  · rw [hrole b hlt]; exact h
  · rw [hrole b hlt]; exact h
  · constructor
    · exact hs1.im
    · intro b k x h
      have h' : g1.I b k = some x := h
      by_cases hlt : b < w.heap.size
      · rw [hrole b hlt]
        cases hr : g.role b with
        | imm => exact .inl rfl
        | tok n => exact .inr (.inl ⟨n, rfl⟩)
        | ext => exact .inr (.inr rfl)
        | loc n =>
          obtain ⟨_, e2, _⟩ := himm b hlt (fun x e => by rw [hr] at e; cases e) (fun e => by rw [hr] at e; cases e)
          rw [e2] at h'
          have := hs.imr b k x h'
          rwa [hr] at this
        | glob y =>
          have h1 := hglob b y hlt hr
          have := hs1.imr b k x h
          rw [h1] at this
          rcases this with h | ⟨n, h⟩ | h <;> cases h
      · show (if b < w.heap.size then g.role b else g1.role b) = _ ∨ (∃ n, (if b < w.heap.size then g.role b else g1.role b) = _) ∨ (if b < w.heap.size then g.role b else g1.role b) = _
        rw [if_neg hlt]; exact hs1.imr b k x h
    · intro b h
      show (if b < w.heap.size then g.role b else g1.role b) = _
      rw [if_neg (by have := hf.size; omega)]
      exact hs1.fresh b h
    · intro n b h
      rw [hrole b (hs.loc_lt h)]; exact hs.loc n b h
    · exact hs.blen
    · intro n b T cs h1 h2
      obtain ⟨ys, a1, a2⟩ := hs.box n b T cs h1 h2
      have hr := hs.loc n b h1
      exact ⟨ys, (himm b (hs.loc_lt h1) (fun x e => by rw [hr] at e; cases e) (fun e => by rw [hr] at e; cases e)).1.trans a1, a2.mono fun _ _ h => h.keep hk⟩
    · exact hs.tlen
    · intro n v e sz len h1 h2
      obtain ⟨b1, ⟨zs, b2⟩, b3⟩ := hs.tok n v e sz len h1 h2
      have hlt : ∀ q, v.ownBlock = some q → q < w.heap.size := fun q hq => by
        rcases Nat.lt_or_ge q w.heap.size with h' | h'
        · exact h'
        · have := hs.fresh q h'; rw [(b3 q hq).1] at this; cases this
      have hall : ∀ q, v.ownBlock = some q → w1.heap[q]? = w.heap[q]? ∧ g1.I q = g.I q ∧ g1.role q = .imm := fun q hq => himm q (hlt q hq) (fun x e => by rw [(b3 q hq).1] at e; cases e) (fun e => by rw [(b3 q hq).1] at e; cases e)
      refine ⟨b1, ⟨zs, ownsRow_same (fun q hq => (hall q hq).1) b2⟩, fun q hq => ?_⟩
      obtain ⟨f1, f2⟩ := b3 q hq
      refine ⟨by rw [hrole q (hlt q hq)]; exact f1, fun k hk => ?_⟩
      show g1.I q k = none
      rw [(hall q hq).2.1]
      exact f2 k hk
    · intro b ho h
      exact hs1.globKeep (G' := g') ⟨Im.le_refl _, hs1.im, Nat.le_refl _, fun b _ h => ⟨by rw [hsame b (.inl h)]; exact h, rfl, rfl⟩⟩ h fun q h1 h2 => ⟨rfl, by rw [hsame q (.inr ⟨_, h2⟩)]; exact h2⟩

theorem RelV.imle {g g' : G} (hI : g.I.le g'.I) (hb : g.bl = []) {o' : List (Nat × Nat × Nat)} : ∀ {v : AV} {y : Value}, RelV g [] v y → RelV g' o' v y := by
  have cell : ∀ {x : AC} {y : Value}, RelT g [] x y → RelT g' o' x y := by
    intro x y h
    cases x with
    | loc n off => obtain ⟨b, hb', _⟩ := h; rw [hb] at hb'; simp at hb'
    | own n sz rows => obtain ⟨_, e, len, ho, _⟩ := h; simp at ho
    | _ => exact Rel.mono hI h
  intro v
  induction v using AV.rec (motive_2 := fun xs => ∀ ys, RelVs g [] xs ys → RelVs g' o' xs ys) with
  | c x => intro y h; exact cell h
  | agg xs => intro y h; obtain ⟨ys, rfl, h⟩ := h; exact ⟨ys, rfl, h.mono fun _ _ h => cell h⟩
  | tup xs ih => intro y h; obtain ⟨ys, rfl, h⟩ := h; exact ⟨ys, rfl, ih ys h⟩
  | nil => rename_i ys h; cases ys <;> simp_all [RelVs]
  | cons x xs ihx ih =>
    rename_i ys h
    cases ys with
    | nil => simp [RelVs] at h
    | cons y ys => exact ⟨ihx h.1, ih ys h.2⟩

theorem RelVs.append {o' : List (Nat × Nat × Nat)} : ∀ {xs xs' : List AV} {ys ys' : List Value}, RelVs g o' xs ys → RelVs g o' xs' ys' → RelVs g o' (xs ++ xs') (ys ++ ys')
  | [], _, [], _, _, h => h
  | _ :: _, _, _ :: _, _, h, k => ⟨h.1, RelVs.append h.2 k⟩
  | [], _, _ :: _, _, h, _ => h.elim
  | _ :: _, _, [], _, h, _ => h.elim

theorem fnA_ok {v : AV} {y : Value} {f : Nat} {first cap : List AC} (hr : RelV g s.o v y) (h : fnA v = some (f, first, cap)) :
    ∃ (p q : List Value), y = .func (.func f) p.toArray q.toArray ∧ RelVs g s.o (first.map AV.c) p ∧ RelVs g s.o (cap.map AV.c) q := by
  have gen : ∀ (l : List AC) (k : Nat → Value), (∀ j x, l[j]? = some x → Rel g.I x (k j)) → RelVs g s.o (l.map AV.c) ((List.range l.length).map k) := by
    intro l
    induction l with
    | nil => intro k _; exact trivial
    | cons x l ih =>
      intro k hk
      rw [List.length_cons, List.range_succ_eq_map, List.map_cons, List.map_cons, List.map_map]
      exact ⟨(hk 0 x rfl).toT, ih (fun j => k (j + 1)) (fun j y hy => hk (j + 1) y (by simpa using hy))⟩
  unfold fnA at h
  split at h
  · rename_i f' p q
    have gen2 : ∀ (l : List Value), l.all Value.oneCell' = true → RelVs g s.o ((l.map AC.v).map AV.c) l := by
      intro l
      induction l with
      | nil => intro _; exact trivial
      | cons x l ih =>
        intro hl
        rw [List.all_cons, Bool.and_eq_true] at hl
        exact ⟨((Rel.v x hl.1 : Rel g.I _ _).toT : RelT g s.o _ _), ih hl.2⟩
    split at h
    · rename_i hall
      rw [Bool.and_eq_true] at hall
      cases h
      have hr' : Rel g.I _ _ := hr
      have hy : y = .func (.func f) p q := by cases hr'; rfl
      exact ⟨p.toList, q.toList, by simp [hy], gen2 _ hall.1, gen2 _ hall.2⟩
    · cases h
  · rename_i f' p q
    cases h
    have hr' : Rel g.I _ _ := hr
    cases hr' with
    | fn _ _ _ k1 k2 h1 h2 => exact ⟨_, _, rfl, gen _ _ h1, gen _ _ h2⟩
  · cases h

theorem calls_FR {rr : Option Nat} {n : Nat} {P : Program} {f : Nat} {args : Array Value} {w : World} {R : Ending → World → Prop} (h : Calls P f args w R) : CallsIn (FR rr) n P f args w R :=
  (callsIn_wide (n := n)).2 h
theorem calls_FR' {rr : Option Nat} {n : Nat} {P : Program} {f : Nat} {args : Array Value} {w : World} {R : Ending → World → Prop} (h : CallsIn (FR rr) n P f args w R) : Calls P f args w R :=
  (callsIn_wide (n := n)).1 h

/-- Behind a call of yield. -/
theorem Sim.yielded (hs : Sim g w s) {g' : G} {w' : World} (hf : FraY g w g' w') {l : Nat} {cb : CB} {k : Nat} (hl : s.h l = some (.seq cb true k)) {x : Bool} (hJ : cb.J x (k + 1) g' w') :
    Ext g w s.o g' w' s.o ∧ Sim g' w' (s.setH (upd (noseq s.h) l (.seq cb x (k + 1)))) := by
  have hk : Keep g s.o g' s.o := ⟨hf.le, fun n b h => by rw [hf.bl]; exact h, fun n e sz len h => .inl ⟨h, by rw [hf.tk]⟩⟩
  have hn : ∀ b, b < w.heap.size → g.role b ≠ .ext → w'.heap[b]? = w.heap[b]? := fun b h1 h2 => (hf.keep b h1 h2).1
  have tl : ∀ (n : Nat) (v : Value) (e sz len : Nat), g.tk[n]? = some v → s.o[n]? = some (e, sz, len) → ∀ q, v.ownBlock = some q → q < w.heap.size ∧ g.role q = .tok n := fun n v e sz len h1 h2 q hq => by
    have h3 := ((hs.tok n v e sz len h1 h2).2.2 q hq).1
    refine ⟨?_, h3⟩
    rcases Nat.lt_or_ge q w.heap.size with h' | h'
    · exact h'
    · have := hs.fresh q h'; rw [h3] at this; cases this
  refine ⟨⟨⟨hf.os, hf.tape, hf.output, hf.size, hf.le, fun b h1 h2 => ?_, fun b x h1 h2 => by rw [hf.role b h1]; exact h2, fun b h1 h2 => by rw [hf.role b h1]; exact h2, hf.fr, fun n b _ h => by rw [hf.bl]; exact h⟩, hk⟩, ?_⟩
  · have hne : g.role b ≠ .ext := by rw [h2]; exact fun e => by cases e
    exact ⟨hn b h1 hne, by rw [hf.role b h1]; exact h2, (hf.keep b h1 hne).2⟩
  · obtain ⟨sl, so, sh⟩ := s
    constructor
    · exact hf.im
    · intro b k x h
      rcases Nat.lt_or_ge b w.heap.size with hlt | hge
      · rw [hf.role b hlt]
        by_cases he : g.role b = .ext
        · exact .inr (.inr he)
        · rw [(hf.keep b hlt he).2] at h
          exact hs.imr b k x h
      · rcases hf.imr b k x hge h with h | h
        · exact .inl h
        · exact .inr (.inr h)
    · exact hf.fresh
    · intro n b h
      rw [hf.bl] at h
      rw [hf.role b (hs.loc_lt h)]; exact hs.loc n b h
    · show g'.bl.length = _
      rw [hf.bl]; exact hs.blen
    · intro n b T cs h1 h2
      rw [hf.bl] at h1
      obtain ⟨ys, a1, a2⟩ := hs.box n b T cs h1 h2
      exact ⟨ys, (hn b (hs.loc_lt h1) (by rw [hs.loc n b h1]; exact fun e => by cases e)).trans a1, a2.mono fun _ _ h => h.keep hk⟩
    · show g'.tk.length = _
      rw [hf.tk]; exact hs.tlen
    · intro n v e sz len h1 h2
      rw [hf.tk] at h1
      obtain ⟨a1, ⟨xs, a2⟩, a3⟩ := hs.tok n v e sz len h1 h2
      refine ⟨a1, ⟨xs, ownsRow_same (fun q hq => hn q (tl n v e sz len h1 h2 q hq).1 (by rw [(tl n v e sz len h1 h2 q hq).2]; exact fun e => by cases e)) a2⟩, fun q hq => ?_⟩
      obtain ⟨t1, t2⟩ := tl n v e sz len h1 h2 q hq
      refine ⟨by rw [hf.role q t1]; exact t2, fun k hk => ?_⟩
      rw [(hf.keep q t1 (by rw [t2]; exact fun e => by cases e)).2]
      exact (a3 q hq).2 k hk
    · intro b ho h
      by_cases hb : b = l
      · subst hb
        have h' : upd (noseq sh) b (.seq cb x (k + 1)) b = some ho := h
        rw [upd_same] at h'
        cases h'
        obtain ⟨q1, q2, q3⟩ := hs.glob b _ hl
        exact ⟨Nat.lt_of_lt_of_le q1 hf.size, by rw [hf.role b q1]; exact q2, q3.1, hJ⟩
      · have h' : upd (noseq sh) l (.seq cb x (k + 1)) b = some ho := h
        rw [upd_ne _ _ hb] at h'
        obtain ⟨h', hno⟩ := noseq_some h'
        obtain ⟨q1, q2, q3⟩ := hs.glob b ho h'
        have same : ∀ q, q < w.heap.size → g.role q = .glob b → w'.heap[q]? = w.heap[q]? ∧ g'.role q = .glob b := fun q t1 t2 => ⟨hn q t1 (by rw [t2]; exact fun e => by cases e), by rw [hf.role q t1]; exact t2⟩
        refine ⟨Nat.lt_of_lt_of_le q1 hf.size, by rw [hf.role b q1]; exact q2, ?_⟩
        cases ho with
        | seq cb go k => exact absurd rfl (hno cb go k)
        | cells T cs => obtain ⟨ys, h1, h2⟩ := q3; exact ⟨ys, (same b q1 q2).1.trans h1, h2.mono fun _ _ h => h.mono hf.le⟩
        | smap es => obtain ⟨arr, clock, h1, h2⟩ := q3; exact ⟨arr, clock, (same b q1 q2).1.trans h1, h2⟩
        | bld T e bytes =>
          obtain ⟨p, v, h1, h2, h3, h4⟩ := q3
          have hlt : ∀ q, v.ownBlock = some q → q < w.heap.size := fun q hq => by
            rcases h3.2 with h | ⟨g, cap, cur, a1, a2, a3, a4⟩
            · obtain ⟨h, _⟩ := h; rw [h] at hq; cases hq
            · rw [a1] at hq; cases hq; exact (Array.getElem?_eq_some_iff.1 a3).1
          exact ⟨p, v, h1, (same b q1 q2).1.trans h2, ownsRow_same (fun q hq => (same q (hlt q hq) (h4 q hq).2).1) h3, fun q hq => ⟨(h4 q hq).1, (same q (hlt q hq) (h4 q hq).2).2⟩⟩

theorem ok_yieldA {l : Nat} {args : List AV} {vs : List Value} (hr : RelVs g s.o args vs) (H : Here C o ρ ρc s φ π g w a next Q) (h : yieldA C l args s φ) (hx : (execOp ρc o).run C.P w = (invoke (.fn (.yield l) #[]) vs.toArray).run C.P w) : o.uponIn (FR rr) nn C.P a next Q ((execOp ρc o).run C.P w) := by
  unfold yieldA at h
  split at h
  · rename_i hn
    obtain ⟨cb, k, avs, ⟨h1, h2, h3, h4⟩, h5, h6⟩ := h
    obtain ⟨q1, q2, q3, q4⟩ := H.sim.glob l _ h1
    subst q3
    have hargs := h4 g vs (RelVs.noloc hn hr [] g.pub (Im.le_refl _))
    obtain ⟨fn, tmps, assign, body, y1, y2⟩ := cb.ok k g w avs vs (nn - 1) q4 H.sim.im H.sim.imr H.sim.fresh h3 hargs
    rw [hx]
    have : (invoke (.fn (.yield cb.l) #[]) vs.toArray).run C.P w = .ok (.round cb.l fn tmps assign body) w := by
      rw [← h2]; simpa [invoke] using y1
    rw [this]
    refine ⟨fun h => by simp [FR, Fence.wide] at h, ?_⟩
    rw [← h2]
    refine RoundIn.mono y2 ?_
    rintro e w' ⟨g', x, hf, rfl, hJ⟩
    obtain ⟨k1, k2⟩ := H.sim.yielded hf h1 hJ
    cases x with
    | true => exact H.next _ _ _ _ _ h5 k1 k2 (Rel.tt : Rel g'.I _ _)
    | false => exact H.next _ _ _ _ _ h6 k1 k2 (Rel.ff : Rel g'.I _ _)
  · exact h.elim

theorem ok_callA {f : Nat} {args : List AV} {vs : List Value} (hr : RelVs g s.o args vs) (H : Here C o ρ ρc s φ π g w a next Q) (h : callA C f args s φ π) (hx : (execOp ρc o).run C.P w = (callFunc f vs.toArray).run C.P w) : o.uponIn (FR rr) nn C.P a next Q ((execOp ρc o).run C.P w) := by
  unfold callA at h
  split at h
  · rename_i hn
    have hargs := RelVs.noloc hn hr [] (bareOf g) (Im.le_refl _)
    have fin : ∀ {K : AEnd → Heap → Prop}, CallsA C.P f (args.map AV.share) s.h K → (∀ e h', K e h' → match e with | .ret r => φ r (s.setH h') | .pan v => π v (s.setH h')) → o.uponIn (FR rr) nn C.P a next Q ((execOp ρc o).run C.P w) := by
      intro K hc hK
      obtain ⟨fn, q1, q2, q3⟩ := hc.fn
      have hrun : (execOp ρc o).run C.P w = .ok (.enter f vs.toArray) w := by
        rw [hx]
        have hnb : fn.body.isNone = false := by cases hb : fn.body <;> simp [hb] at q2 ⊢
        simp only [callFunc, Sem.run_bind, run_program, Result.andThen_ok, q1, q3, hnb]
        rfl
      rw [hrun]
      refine ⟨fun h => by simp [FR, Fence.wide] at h, calls_FR ((hc.run (bareOf g) w vs (bareOf_bare g) H.sim.bare hargs).mono fun e w' he => ?_)⟩
      obtain ⟨g1, r, h', b1, b2, b3, b4, b5⟩ := he
      obtain ⟨g', k1, k2, k3⟩ := H.sim.back b2 b1 b3
      have hK' := hK r h' b5
      cases r with
      | ret av =>
        cases e with
        | returned v => exact H.next _ _ _ _ _ hK' k1 k2 (RelV.imle k3 b1.bl b4)
        | _ => exact b4.elim
      | pan v =>
        cases e with
        | panicked ch =>
          have hch : ch = _ := b4
          subst hch
          exact H.quit _ _ _ _ hK' k1 k2
        | _ => exact b4.elim
    split at h
    · obtain ⟨r, hp, h⟩ := h
      exact fin (hp s.h) (fun e h' he => by obtain ⟨rfl, rfl⟩ := he; exact h)
    · exact fin h (fun e h' he => he)
  · exact h.elim

theorem fnY_inr {x : AV} {y : Nat × List AC × List AC} (h : fnY x = some (.inr y)) : fnA x = some y := by
  unfold fnY at h
  split at h
  · cases h
  · split at h
    · rename_i hf; cases h; exact hf
    · cases h
theorem fnY_inl {x : AV} {l : Nat} {v : Value} {g : G} {o : List (Nat × Nat × Nat)} (hr : RelV g o x v) (h : fnY x = some (.inl l)) : v = .func (.yield l) #[] #[] := by
  unfold fnY at h
  split at h
  · rename_i l' hy
    cases h
    unfold yieldOf at hy
    split at hy
    · rename_i l' first cap
      split at hy
      · rename_i e1 e2
        cases hy
        have hr' : Rel g.I _ _ := hr
        cases hr'
        have e1' : first = #[] := Array.toList_eq_nil_iff.1 e1
        have e2' : cap = #[] := Array.toList_eq_nil_iff.1 e2
        rw [e1', e2']
      · cases hy
    · cases hy
  · split at h <;> cases h

theorem ok_call {f : Operand} {args : Array Operand} {tys : Array TypeId} (ho : o.op = .call { callee := .value f, args := args, argTypes := tys }) (H : Here C o ρ ρc s φ π g w a next Q) (h : sem C o ρ s φ π) : o.uponIn (FR rr) nn C.P a next Q ((execOp ρc o).run C.P w) := by
  simp only [sem, ho] at h
  split at h
  · rename_i l hf
    rw [Option.bind_eq_some_iff] at hf
    obtain ⟨fv, hf1, hf2⟩ := hf
    have hv := fnY_inl (H.rho f fv hf1) hf2
    obtain ⟨vs, h, r3⟩ := argsA_spec H.rho _ _ h
    refine ok_yieldA (vs := args.toList.map ρc) r3 H h ?_
    have : args.map ρc = (args.toList.map ρc).toArray := by apply Array.ext'; simp
    simp [execOp, ho, resolve, hv, Deferred.ofValue, this]
  · rename_i k first cap hf
    rw [Option.bind_eq_some_iff] at hf
    obtain ⟨fv, hf1, hf2⟩ := hf
    obtain ⟨p, q, hv, r1, r2⟩ := fnA_ok (H.rho f fv hf1) (fnY_inr hf2)
    obtain ⟨vs, h, r3⟩ := argsA_spec H.rho _ _ h
    refine ok_callA (vs := p ++ args.toList.map ρc ++ q) (RelVs.append (RelVs.append r1 r3) r2) H h ?_
    have : (p.toArray ++ args.map ρc) ++ q.toArray = (p ++ args.toList.map ρc ++ q).toArray := by
      apply Array.ext'; simp
    simp [execOp, ho, resolve, hv, Deferred.ofValue, invoke, this]
  · exact h.elim

/-! ### All operations -/
theorem sem_ok (H : Here C o ρ ρc s φ π g w a next Q) (h : sem C o ρ s φ π) : o.uponIn (FR rr) nn C.P a next Q ((execOp ρc o).run C.P w) := by
  cases hop : o.op with
  | move x => simp only [sem, hop] at h; exact ok_move (.inl hop) H h
  | assign x => simp only [sem, hop] at h; exact ok_move (.inr hop) H h
  | pick c x y => exact ok_pick hop H h
  | alloc T => exact ok_alloc hop H h
  | box T x => exact ok_box hop H h
  | build T p => exact ok_build hop H h
  | buildSlice T n p => exact ok_buildSlice hop H h
  | load T x => exact ok_load hop H h
  | store T x y => exact ok_store hop H h
  | nilCheck x => exact ok_nilCheck hop H h
  | binOp op T x y T' => exact ok_binOp hop H h
  | unOp op T x => exact ok_unOp hop H h
  | convert s d x => exact ok_convert hop H h
  | makeInterface T x => exact ok_makeInterface hop H h
  | makeFunc f p q => exact ok_makeFunc hop H h
  | slice T x l h' m => exact ok_slice hop H h
  | fieldAddr T x f => exact ok_fieldAddr hop H h
  | field T x f => exact ok_field hop H h
  | indexAddr T x i => exact ok_indexAddr hop H h
  | index T x i => exact ok_index hop H h
  | extract x i => exact ok_extract hop H h
  | typeAssert x s d k => exact ok_typeAssert hop H h
  | panic x => exact ok_panic hop H h
  | makeMap T r => exact ok_makeMap hop H h
  | lookup T m k ok => exact ok_lookup hop H h
  | mapUpdate T m k x => exact ok_mapUpdate hop H h
  | call c =>
    obtain ⟨cal, args, tys⟩ := c
    cases cal with
    | value f => exact ok_call hop H h
    | invoke r m => simp [sem, hop] at h
    | builtin b =>
      cases b with
      | len => exact ok_len hop H h
      | append => exact ok_append hop H h
      | max => exact ok_maxmin true hop H (by simpa only [sem, hop] using h)
      | min => exact ok_maxmin false hop H (by simpa only [sem, hop] using h)
      | _ => simp [sem, hop] at h
  | _ => simp [sem, hop] at h
end
end Go.Proofs.YtdgjpncflkpjfaaDoor.Aw
