/- The abstract machine, third part: how the relation to memory is kept when a block is added, or a cell is written. -/
import Derived.Test.YtdgjpncflkpjfaaDoorAw2
set_option linter.unusedVariables false
set_option linter.unusedSimpArgs false
namespace Go.Proofs.YtdgjpncflkpjfaaDoor.Aw

theorem none_of_ge {w : World} {b : Nat} (h : w.heap.size ≤ b) : w.heap[b]? = none := Array.getElem?_eq_none h

theorem Sim.im_lt {G : G} {w : World} {s : S} (hs : Sim G w s) {b k : Nat} {x : Value} (h : G.I b k = some x) : b < w.heap.size :=
  World.block_lt_of_cell? w ⟨b, k, none⟩ (hs.im b k x h)
theorem Sim.I_new {G : G} {w : World} {s : S} (hs : Sim G w s) {b : Nat} (h : w.heap.size ≤ b) : ∀ k, G.I b k = none := fun k => by
  cases e : G.I b k with
  | none => rfl
  | some x => have := hs.im_lt e; omega
theorem Sim.loc_lt {G : G} {w : World} {s : S} (hs : Sim G w s) {n b : Nat} (h : G.bl[n]? = some b) : b < w.heap.size := by
  rcases Nat.lt_or_ge b w.heap.size with h' | h'
  · exact h'
  · have := hs.fresh b h'; rw [hs.loc n b h] at this; cases this

theorem ownsRow_same {w w' : World} {e sz len : Nat} {v : Value} {xs : List Value} (hw : ∀ q, v.ownBlock = some q → w'.heap[q]? = w.heap[q]?) (h : w.ownsRow 0 e sz v len xs) : w'.ownsRow 0 e sz v len xs := by
  refine ⟨h.1, ?_⟩
  rcases h.2 with h | ⟨g, cap, cur, a1, a2, a3, a4⟩
  · exact .inl h
  · exact .inr ⟨g, cap, cur, a1, a2, (hw g (by rw [a1]; rfl)).trans a3, a4⟩
/-- What stands behind a shared pointer stays, if its blocks do. -/
theorem HRel.mono {g g' : G} {w w' : World} {b : Nat} {ho : HO} (hJ : FraJ g w g' w') (hb : b < w.heap.size) (hr : g.role b = ho.role b) (hw : ∀ q, q < w.heap.size → g.role q = .glob b → w'.heap[q]? = w.heap[q]? ∧ g'.role q = .glob b) (h : HRel g w b ho) : HRel g' w' b ho := by
  cases ho with
  | cells T cs => obtain ⟨ys, h1, h2⟩ := h; exact ⟨ys, (hw b hb hr).1.trans h1, h2.mono fun _ _ h => h.mono hJ.le⟩
  | bld T e bytes =>
    obtain ⟨p, v, h1, h2, h3, h4⟩ := h
    have hlt : ∀ q, v.ownBlock = some q → q < w.heap.size := fun q hq => by
      rcases h3.2 with h | ⟨g, cap, cur, a1, a2, a3, a4⟩
      · obtain ⟨h, _⟩ := h; rw [h] at hq; cases hq
      · rw [a1] at hq; cases hq; exact (Array.getElem?_eq_some_iff.1 a3).1
    exact ⟨p, v, h1, (hw b hb hr).1.trans h2, ownsRow_same (fun q hq => (hw q (hlt q hq) (h4 q hq).2).1) h3, fun q hq => ⟨(h4 q hq).1, (hw q (hlt q hq) (h4 q hq).2).2⟩⟩
  | smap es => obtain ⟨arr, clock, h1, h2⟩ := h; exact ⟨arr, clock, (hw b hb hr).1.trans h1, h2⟩
  | seq cb go k => exact ⟨h.1, cb.closed _ _ _ _ _ _ hJ h.2⟩
theorem Sim.globKeep {G G' : Aw.G} {w w' : World} {s : S} (hs : Sim G w s) (hJ : FraJ G w G' w') {b : Nat} {ho : HO} (h : s.h b = some ho) (hw : ∀ q, q < w.heap.size → G.role q = .glob b → w'.heap[q]? = w.heap[q]? ∧ G'.role q = .glob b) :
    b < w'.heap.size ∧ G'.role b = ho.role b ∧ HRel G' w' b ho := by
  obtain ⟨h1, h2, h3⟩ := hs.glob b ho h
  refine ⟨Nat.lt_of_lt_of_le h1 hJ.size, ?_, h3.mono hJ h1 h2 hw⟩
  cases ho with
  | seq cb go k => exact (hJ.ext b h1 h2).1
  | _ => exact (hw b h1 h2).2
theorem FraJ.refl {g : G} {w : World} {s : S} (hs : Sim g w s) : FraJ g w g w := ⟨Im.le_refl _, hs.im, Nat.le_refl _, fun _ _ h => ⟨h, rfl, rfl⟩⟩

/-- Blocks are added that belong to nobody. -/
theorem Sim.grow {G : G} {w w' : World} {s : S} (hs : Sim G w s) (hb : ∀ b, b < w.heap.size → w'.heap[b]? = w.heap[b]?) (hsz : w.heap.size ≤ w'.heap.size) : Sim G w' s where
  im := fun b k x h => (World.cell?_of_block (a := ⟨b, k, none⟩) (hb b (hs.im_lt h))).trans (hs.im b k x h)
  imr := hs.imr
  fresh := fun b h => hs.fresh b (Nat.le_trans hsz h)
  loc := hs.loc
  blen := hs.blen
  box := fun n b T cs h1 h2 => by
    obtain ⟨ys, h3, h4⟩ := hs.box n b T cs h1 h2
    exact ⟨ys, (hb b (hs.loc_lt h1)).trans h3, h4⟩
  tlen := hs.tlen
  tok := fun n v e sz len h1 h2 => by
    obtain ⟨h3, ⟨xs, h4⟩, h5⟩ := hs.tok n v e sz len h1 h2
    refine ⟨h3, ⟨xs, h4.1, ?_⟩, h5⟩
    rcases h4.2 with h | ⟨g, cap, cur, a1, a2, a3, a4⟩
    · exact .inl h
    · exact .inr ⟨g, cap, cur, a1, a2, (hb g (Array.getElem?_eq_some_iff.1 a3).1).trans a3, a4⟩
  glob := fun b ho h => hs.globKeep ⟨Im.le_refl _, fun b k x h => (World.cell?_of_block (a := ⟨b, k, none⟩) (hb b (hs.im_lt h))).trans (hs.im b k x h), hsz, fun b h1 h2 => ⟨h2, hb b h1, rfl⟩⟩ h fun q h1 h2 => ⟨hb q h1, h2⟩

theorem alloc_old (w : World) (o : Obj) (b : Nat) (h : b < w.heap.size) : (w.alloc o).heap[b]? = w.heap[b]? := RowKit.Below.heap_alloc w o b h
theorem alloc_new (w : World) (o : Obj) : (w.alloc o).heap[w.heap.size]? = some o := World.alloc_heap_new w o

/-- The ghost is another one above the old memory alone. -/
theorem fra_above {g g' : G} {w w' : World} {s : S} (hs : Sim g w s) (hos : w'.os = w.os) (htape : w'.tape = w.tape) (hout : w'.output = w.output) (hsz : w.heap.size ≤ w'.heap.size)
    (hb : ∀ b, b < w.heap.size → w'.heap[b]? = w.heap[b]?) (hI : ∀ b, b < w.heap.size → g'.I b = g.I b) (hr : ∀ b, b < w.heap.size → g'.role b = g.role b) (hfr : g'.fr = g.fr := by rfl) (hbl : ∀ (n b : Nat), g.bl[n]? = some b → g'.bl[n]? = some b := by exact fun _ _ h => h) : Fra g w g' w' :=
  ⟨hos, htape, hout, hsz, fun b k x h => by rw [hI b (hs.im_lt h)]; exact h, fun b hlt h => ⟨hb b hlt, by rw [hr b hlt]; exact h, hI b hlt⟩, fun b x hlt h => by rw [hr b hlt]; exact h, fun b hlt h => by rw [hr b hlt]; exact h, hfr, fun n b _ h => hbl n b h⟩
/-- New blocks, old ones as they were. -/
theorem fraJ_above {g g' : G} {w w' : World} {s : S} (hs : Sim g w s) (hsz : w.heap.size ≤ w'.heap.size) (him : ∀ b k x, g'.I b k = some x → w'.cell? ⟨b, k, none⟩ = some x)
    (hb : ∀ b, b < w.heap.size → w'.heap[b]? = w.heap[b]?) (hI : ∀ b, b < w.heap.size → g'.I b = g.I b) (hr : ∀ b, b < w.heap.size → g'.role b = g.role b) : FraJ g w g' w' :=
  ⟨fun b k x h => by rw [hI b (hs.im_lt h)]; exact h, him, hsz, fun b hlt h => ⟨by rw [hr b hlt]; exact h, hb b hlt, hI b hlt⟩⟩

section
variable {G : G} {w : World} {s : S}

/-- A new box. -/
theorem Sim.addLoc (hs : Sim G w s) (T : Nat) (cs : List AC) (ys : List Value) (hr : All2 (RelT G s.o) cs ys) :
    ∃ G', Ext G w s.o G' (w.alloc (.cells ys.toArray T)) s.o ∧ Sim G' (w.alloc (.cells ys.toArray T)) { s with l := s.l ++ [(T, cs)] } ∧
      G'.bl[s.l.length]? = some w.heap.size := by
  let w' := w.alloc (.cells ys.toArray T)
  let G' : Aw.G := { G with role := fun b => if b = w.heap.size then .loc s.l.length else G.role b, bl := G.bl ++ [w.heap.size] }
  have hk : Keep G s.o G' s.o := ⟨Im.le_refl _, fun n b h => by
    show (G.bl ++ [w.heap.size])[n]? = some b
    rw [List.getElem?_append_left (by exact (List.getElem?_eq_some_iff.1 h).1)]; exact h, fun n e sz len h => .inl ⟨h, rfl⟩⟩
  have hg := hs.grow (w' := w') (fun b h => alloc_old w _ b h) (by simp [w'])
  have hne : ∀ b, b < w.heap.size → G'.role b = G.role b := fun b h => if_neg (Nat.ne_of_lt h)
  refine ⟨G', ⟨fra_above hs rfl rfl rfl (by simp) (fun b h => alloc_old w _ b h) (fun _ _ => rfl) hne rfl hk.bl, hk⟩, ?_, ?_⟩
  · constructor
    · exact hg.im
    · intro b k x h
      have := hs.im_lt h
      rw [hne b this]
      exact hs.imr b k x h
    · intro b h
      have h' : w.heap.size + 1 ≤ b := by simpa using h
      show (if b = w.heap.size then _ else G.role b) = _
      rw [if_neg (by omega)]
      exact hs.fresh b (by omega)
    · intro n b h
      rcases Nat.lt_or_ge n G.bl.length with hn | hn
      · have h' : G.bl[n]? = some b := by
          have : (G.bl ++ [w.heap.size])[n]? = some b := h
          rwa [List.getElem?_append_left hn] at this
        rw [hne b (hs.loc_lt h')]
        exact hs.loc n b h'
      · have : (G.bl ++ [w.heap.size])[n]? = some b := h
        rw [List.getElem?_append_right hn] at this
        have hn0 : n - G.bl.length = 0 := by
          rcases Nat.eq_zero_or_pos (n - G.bl.length) with h0 | h0
          · exact h0
          · rw [List.getElem?_eq_none (by simp; omega)] at this; cases this
        rw [hn0] at this
        have hb : w.heap.size = b := by simpa using this
        subst hb
        have hn' : n = s.l.length := by have := hs.blen; omega
        subst hn'
        show (if w.heap.size = w.heap.size then _ else _) = _
        rw [if_pos rfl]
    · show (G.bl ++ [w.heap.size]).length = (s.l ++ [(T, cs)]).length
      simp [hs.blen]
    · intro n b T' cs' h1 h2
      have h1' : (G.bl ++ [w.heap.size])[n]? = some b := h1
      have h2' : (s.l ++ [(T, cs)])[n]? = some (T', cs') := h2
      rcases Nat.lt_or_ge n G.bl.length with hn | hn
      · rw [List.getElem?_append_left hn] at h1'
        rw [List.getElem?_append_left (by rw [← hs.blen]; exact hn)] at h2'
        obtain ⟨zs, a1, a2⟩ := hg.box n b T' cs' h1' h2'
        exact ⟨zs, a1, a2.mono fun _ _ h => h.keep hk⟩
      · rw [List.getElem?_append_right hn] at h1'
        rw [List.getElem?_append_right (by rw [← hs.blen]; exact hn)] at h2'
        have hn0 : n - G.bl.length = 0 := by
          rcases Nat.eq_zero_or_pos (n - G.bl.length) with h0 | h0
          · exact h0
          · rw [List.getElem?_eq_none (by simp; omega)] at h1'; cases h1'
        rw [hn0] at h1'
        rw [show n - s.l.length = 0 by rw [← hs.blen]; exact hn0] at h2'
        simp at h1' h2'
        obtain ⟨rfl, rfl⟩ := h2'
        subst h1'
        exact ⟨ys, alloc_new w _, hr.mono fun _ _ h => h.keep hk⟩
    · exact hs.tlen
    · intro n v e sz len h1 h2
      obtain ⟨a1, a2, a3⟩ := hg.tok n v e sz len h1 h2
      refine ⟨a1, a2, fun g hgv => ?_⟩
      obtain ⟨b1, b2⟩ := a3 g hgv
      have hlt : g < w.heap.size := by
        rcases Nat.lt_or_ge g w.heap.size with h' | h'
        · exact h'
        · have := hs.fresh g h'; rw [b1] at this; cases this
      exact ⟨by rw [hne g hlt]; exact b1, b2⟩
    · intro b ho h
      exact hs.globKeep (G' := G') (w' := w') (fraJ_above hs (by simp [w']) hg.im (fun b h => alloc_old w _ b h) (fun _ _ => rfl) hne) h fun q h1 h2 => ⟨alloc_old w _ q h1, by rw [hne q h1]; exact h2⟩
  · show (G.bl ++ [w.heap.size])[s.l.length]? = some w.heap.size
    rw [← hs.blen, List.getElem?_append_right (Nat.le_refl _)]
    simp

/-- A new block that is shared. -/
theorem Sim.addGlob (hs : Sim G w s) (T : Nat) (cs : List AC) (ys : List Value) (hr : All2 (Rel G.I) cs ys) :
    s.h w.heap.size = none ∧ ∃ G', Ext G w s.o G' (w.alloc (.cells ys.toArray T)) s.o ∧ Sim G' (w.alloc (.cells ys.toArray T)) { s with h := upd s.h w.heap.size (.cells T cs) } := by
  have hnone : s.h w.heap.size = none := by
    cases e : s.h w.heap.size with
    | none => rfl
    | some ho => have := (hs.glob _ _ e).1; omega
  refine ⟨hnone, ?_⟩
  let w' := w.alloc (.cells ys.toArray T)
  let G' : Aw.G := { G with role := fun b => if b = w.heap.size then .glob w.heap.size else G.role b }
  have hk : Keep G s.o G' s.o := ⟨Im.le_refl _, fun n b h => h, fun n e sz len h => .inl ⟨h, rfl⟩⟩
  have hg := hs.grow (w' := w') (fun b h => alloc_old w _ b h) (by simp [w'])
  have hne : ∀ b, b < w.heap.size → G'.role b = G.role b := fun b h => if_neg (Nat.ne_of_lt h)
  refine ⟨G', ⟨fra_above hs rfl rfl rfl (by simp) (fun b h => alloc_old w _ b h) (fun _ _ => rfl) hne, hk⟩, ?_⟩
  constructor
  · exact hg.im
  · intro b k x h
    rw [hne b (hs.im_lt h)]
    exact hs.imr b k x h
  · intro b h
    have h' : w.heap.size + 1 ≤ b := by simpa using h
    show (if b = w.heap.size then _ else G.role b) = _
    rw [if_neg (by omega)]
    exact hs.fresh b (by omega)
  · intro n b h
    rw [hne b (hs.loc_lt h)]
    exact hs.loc n b h
  · exact hs.blen
  · intro n b T' cs' h1 h2
    obtain ⟨zs, a1, a2⟩ := hg.box n b T' cs' h1 h2
    exact ⟨zs, a1, a2.mono fun _ _ h => h.keep hk⟩
  · exact hs.tlen
  · intro n v e sz len h1 h2
    obtain ⟨a1, a2, a3⟩ := hg.tok n v e sz len h1 h2
    refine ⟨a1, a2, fun g hgv => ?_⟩
    obtain ⟨b1, b2⟩ := a3 g hgv
    have hlt : g < w.heap.size := by
      rcases Nat.lt_or_ge g w.heap.size with h' | h'
      · exact h'
      · have := hs.fresh g h'; rw [b1] at this; cases this
    exact ⟨by rw [hne g hlt]; exact b1, b2⟩
  · intro b ho h
    by_cases hb : b = w.heap.size
    · subst hb
      dsimp only at h
      rw [upd_same] at h
      cases h
      exact ⟨by simp, if_pos rfl, ys, alloc_new w _, hr⟩
    · dsimp only at h
      rw [upd_ne _ _ hb] at h
      exact hs.globKeep (G' := G') (w' := w') (fraJ_above hs (by simp [w']) hg.im (fun b h => alloc_old w _ b h) (fun _ _ => rfl) hne) h fun q h1 h2 => ⟨alloc_old w _ q h1, by rw [hne q h1]; exact h2⟩

/-- A new map that is shared. -/
theorem Sim.addMap (hs : Sim G w s) :
    s.h w.heap.size = none ∧ ∃ G', Ext G w s.o G' (w.alloc (.map #[] 0)) s.o ∧ Sim G' (w.alloc (.map #[] 0)) { s with h := upd s.h w.heap.size (.smap []) } := by
  have hnone : s.h w.heap.size = none := by
    cases e : s.h w.heap.size with
    | none => rfl
    | some ho => have := (hs.glob _ _ e).1; omega
  refine ⟨hnone, ?_⟩
  let w' := w.alloc (.map #[] 0)
  let G' : Aw.G := { G with role := fun b => if b = w.heap.size then .glob w.heap.size else G.role b }
  have hk : Keep G s.o G' s.o := ⟨Im.le_refl _, fun n b h => h, fun n e sz len h => .inl ⟨h, rfl⟩⟩
  have hg := hs.grow (w' := w') (fun b h => alloc_old w _ b h) (by simp [w'])
  have hne : ∀ b, b < w.heap.size → G'.role b = G.role b := fun b h => if_neg (Nat.ne_of_lt h)
  refine ⟨G', ⟨fra_above hs rfl rfl rfl (by simp) (fun b h => alloc_old w _ b h) (fun _ _ => rfl) hne, hk⟩, ?_⟩
  constructor
  · exact hg.im
  · intro b k x h
    rw [hne b (hs.im_lt h)]
    exact hs.imr b k x h
  · intro b h
    have h' : w.heap.size + 1 ≤ b := by simpa using h
    show (if b = w.heap.size then _ else G.role b) = _
    rw [if_neg (by omega)]
    exact hs.fresh b (by omega)
  · intro n b h
    rw [hne b (hs.loc_lt h)]
    exact hs.loc n b h
  · exact hs.blen
  · intro n b T' cs' h1 h2
    obtain ⟨zs, a1, a2⟩ := hg.box n b T' cs' h1 h2
    exact ⟨zs, a1, a2.mono fun _ _ h => h.keep hk⟩
  · exact hs.tlen
  · intro n v e sz len h1 h2
    obtain ⟨a1, a2, a3⟩ := hg.tok n v e sz len h1 h2
    refine ⟨a1, a2, fun g hgv => ?_⟩
    obtain ⟨b1, b2⟩ := a3 g hgv
    have hlt : g < w.heap.size := by
      rcases Nat.lt_or_ge g w.heap.size with h' | h'
      · exact h'
      · have := hs.fresh g h'; rw [b1] at this; cases this
    exact ⟨by rw [hne g hlt]; exact b1, b2⟩
  · intro b ho h
    by_cases hb : b = w.heap.size
    · subst hb
      dsimp only at h
      rw [upd_same] at h
      cases h
      exact ⟨by simp, if_pos rfl, #[], 0, alloc_new w _, rfl⟩
    · dsimp only at h
      rw [upd_ne _ _ hb] at h
      exact hs.globKeep (G' := G') (w' := w') (fraJ_above hs (by simp [w']) hg.im (fun b h => alloc_old w _ b h) (fun _ _ => rfl) hne) h fun q h1 h2 => ⟨alloc_old w _ q h1, by rw [hne q h1]; exact h2⟩

/-- New blocks; the cells of one of them never change from here on. -/
theorem Sim.addIm (hs : Sim G w s) {w' : World} (hos : w'.os = w.os) (htape : w'.tape = w.tape) (hout : w'.output = w.output) (hsz : w.heap.size ≤ w'.heap.size)
    (hb : ∀ b, b < w.heap.size → w'.heap[b]? = w.heap[b]?) (b0 : Nat) (h0 : w.heap.size ≤ b0) (f : Nat → Option Value) (hf : ∀ k x, f k = some x → w'.cell? ⟨b0, k, none⟩ = some x) :
    ∃ G', Ext G w s.o G' w' s.o ∧ Sim G' w' s ∧ G'.I b0 = f ∧ G'.bl = G.bl ∧ G'.tk = G.tk := by
  let G' : Aw.G := { G with I := fun b => if b = b0 then f else G.I b }
  have hIb : ∀ b, b < w.heap.size → G'.I b = G.I b := fun b h => if_neg (by omega)
  have hle : G.I.le G'.I := fun b k x h => by rw [hIb b (hs.im_lt h)]; exact h
  have hk : Keep G s.o G' s.o := ⟨hle, fun n b h => h, fun n e sz len h => .inl ⟨h, rfl⟩⟩
  have hg := hs.grow hb hsz
  have him : ∀ b k x, G'.I b k = some x → w'.cell? ⟨b, k, none⟩ = some x := by
    intro b k x h
    by_cases e : b = b0
    · subst e
      have h' : f k = some x := by simpa [G'] using h
      exact hf k x h'
    · have h' : G.I b k = some x := by simpa [G', e] using h
      exact hg.im b k x h'
  refine ⟨G', ⟨fra_above hs hos htape hout hsz hb hIb (fun _ _ => rfl), hk⟩, ?_, if_pos rfl, rfl, rfl⟩
  constructor
  · exact him
  · intro b k x h
    by_cases e : b = b0
    · subst e; exact .inl (hs.fresh b h0)
    · have h' : G.I b k = some x := by simpa [G', e] using h
      exact hs.imr b k x h'
  · exact hg.fresh
  · exact hs.loc
  · exact hs.blen
  · intro n b T' cs' h1 h2
    obtain ⟨zs, a1, a2⟩ := hg.box n b T' cs' h1 h2
    exact ⟨zs, a1, a2.mono fun _ _ h => h.keep hk⟩
  · exact hs.tlen
  · intro n v e sz len h1 h2
    obtain ⟨a1, a2, a3⟩ := hg.tok n v e sz len h1 h2
    refine ⟨a1, a2, fun g hgv => ?_⟩
    obtain ⟨b1, b2⟩ := a3 g hgv
    have hlt : g < w.heap.size := by
      rcases Nat.lt_or_ge g w.heap.size with h' | h'
      · exact h'
      · have := hs.fresh g h'; rw [b1] at this; cases this
    exact ⟨b1, fun k hk => by rw [hIb g hlt]; exact b2 k hk⟩
  · intro b ho h
    exact hs.globKeep (fraJ_above hs hsz him hb hIb (fun _ _ => rfl)) h fun q h1 h2 => ⟨hb q h1, h2⟩

/-- A box is written. -/
theorem Sim.setLoc (hs : Sim G w s) {w' : World} {n b T : Nat} {cs0 cs : List AC} {ys : List Value} (hb : G.bl[n]? = some b) (hl : s.l[n]? = some (T, cs0))
    (hos : w'.os = w.os) (htape : w'.tape = w.tape) (hout : w'.output = w.output) (hsz : w'.heap.size = w.heap.size)
    (hsame : ∀ k, k ≠ b → w'.heap[k]? = w.heap[k]?) (hnew : w'.heap[b]? = some (.cells ys.toArray T (0, 0))) (hr : All2 (RelT G s.o) cs ys) :
    Ext G w s.o G w' s.o ∧ Sim G w' { s with l := s.l.set n (T, cs) } := by
  have hrole := hs.loc n b hb
  have hnb : ∀ k, (∀ m, G.role k ≠ .loc m) → k ≠ b := fun k hk e => by subst e; exact hk n hrole
  refine ⟨⟨⟨hos, htape, hout, by omega, Im.le_refl _, fun k hk h => ⟨hsame k (hnb k fun m e => by rw [h] at e; cases e), h, rfl⟩, fun _ _ _ h => h, fun _ _ h => h, rfl, fun _ _ _ h => h⟩, .refl _ _⟩, ?_⟩
  have him : ∀ k j x, G.I k j = some x → w'.cell? ⟨k, j, none⟩ = some x := by
    intro k j x h
    rw [World.cell?_of_block (w := w) (a := ⟨k, j, none⟩) (hsame k (hnb k fun m e => by
      rcases hs.imr k j x h with h1 | ⟨t, h1⟩ | h1 <;> rw [h1] at e <;> cases e))]
    exact hs.im k j x h
  constructor
  · exact him
  · exact hs.imr
  · intro k h; exact hs.fresh k (by omega)
  · exact hs.loc
  · simpa using hs.blen
  · intro m c T' cs' h1 h2
    by_cases hm : m = n
    · subst hm
      rw [hb] at h1; cases h1
      have h2' : (s.l.set m (T, cs))[m]? = some (T', cs') := h2
      rw [List.getElem?_set_self (List.getElem?_eq_some_iff.1 hl).1] at h2'
      cases h2'
      exact ⟨ys, hnew, hr⟩
    · have h2' : (s.l.set n (T, cs))[m]? = some (T', cs') := h2
      rw [List.getElem?_set_ne (Ne.symm hm)] at h2'
      obtain ⟨zs, a1, a2⟩ := hs.box m c T' cs' h1 h2'
      refine ⟨zs, (hsame c ?_).trans a1, a2⟩
      intro e
      subst e
      have := hs.loc m c h1
      rw [hrole] at this
      cases this
      exact hm rfl
  · exact hs.tlen
  · intro m v e sz len h1 h2
    obtain ⟨a1, ⟨xs, a2⟩, a3⟩ := hs.tok m v e sz len h1 h2
    refine ⟨a1, ⟨xs, a2.1, ?_⟩, a3⟩
    rcases a2.2 with h | ⟨g, cap, cur, c1, c2, c3, c4⟩
    · exact .inl h
    · refine .inr ⟨g, cap, cur, c1, c2, (hsame g ?_).trans c3, c4⟩
      refine hnb g fun m e => ?_
      have := (a3 g (by rw [c1]; rfl)).1
      rw [this] at e; cases e
  · intro c ho h
    exact hs.globKeep ⟨Im.le_refl _, him, by omega, fun k _ h => ⟨h, hsame k (hnb k fun m e => by rw [h] at e; cases e), rfl⟩⟩ h fun q h1 h2 => ⟨hsame q (hnb q fun m e => by rw [h2] at e; cases e), h2⟩

/-- A shared block is written. -/
theorem Sim.setGlob (hs : Sim G w s) {w' : World} {b T : Nat} {cs0 cs : List AC} {ys : List Value} (hb : s.h b = some (.cells T cs0))
    (hos : w'.os = w.os) (htape : w'.tape = w.tape) (hout : w'.output = w.output) (hsz : w'.heap.size = w.heap.size)
    (hsame : ∀ k, k ≠ b → w'.heap[k]? = w.heap[k]?) (hnew : w'.heap[b]? = some (.cells ys.toArray T (0, 0))) (hr : All2 (Rel G.I) cs ys) :
    Ext G w s.o G w' s.o ∧ Sim G w' { s with h := upd s.h b (.cells T cs) } := by
  have hrole : G.role b = .glob b := (hs.glob b _ hb).2.1
  have hnb : ∀ k, G.role k ≠ .glob b → k ≠ b := fun k hk e => by subst e; exact hk hrole
  refine ⟨⟨⟨hos, htape, hout, by omega, Im.le_refl _, fun k hk h => ⟨hsame k (hnb k fun e => by rw [h] at e; cases e), h, rfl⟩, fun _ _ _ h => h, fun _ _ h => h, rfl, fun _ _ _ h => h⟩, .refl _ _⟩, ?_⟩
  have him : ∀ k j x, G.I k j = some x → w'.cell? ⟨k, j, none⟩ = some x := by
    intro k j x h
    rw [World.cell?_of_block (w := w) (a := ⟨k, j, none⟩) (hsame k (hnb k fun e => by
      rcases hs.imr k j x h with h1 | ⟨t, h1⟩ | h1 <;> rw [h1] at e <;> cases e))]
    exact hs.im k j x h
  constructor
  · exact him
  · exact hs.imr
  · intro k h; exact hs.fresh k (by omega)
  · exact hs.loc
  · exact hs.blen
  · intro m c T' cs' h1 h2
    obtain ⟨zs, a1, a2⟩ := hs.box m c T' cs' h1 h2
    refine ⟨zs, (hsame c (hnb c fun e => ?_)).trans a1, a2⟩
    rw [hs.loc m c h1] at e; cases e
  · exact hs.tlen
  · intro m v e sz len h1 h2
    obtain ⟨a1, ⟨xs, a2⟩, a3⟩ := hs.tok m v e sz len h1 h2
    refine ⟨a1, ⟨xs, a2.1, ?_⟩, a3⟩
    rcases a2.2 with h | ⟨g, cap, cur, c1, c2, c3, c4⟩
    · exact .inl h
    · refine .inr ⟨g, cap, cur, c1, c2, (hsame g ?_).trans c3, c4⟩
      refine hnb g fun e => ?_
      have := (a3 g (by rw [c1]; rfl)).1
      rw [this] at e; cases e
  · intro c ho h
    by_cases hc : c = b
    · subst hc
      dsimp only at h
      rw [upd_same] at h
      cases h
      exact ⟨by have := (hs.glob c _ hb).1; omega, hrole, ys, hnew, hr⟩
    · dsimp only at h
      rw [upd_ne _ _ hc] at h
      exact hs.globKeep ⟨Im.le_refl _, him, by omega, fun k _ h => ⟨h, hsame k (hnb k fun e => by rw [h] at e; cases e), rfl⟩⟩ h fun q h1 h2 => ⟨hsame q (fun e => by subst e; rw [hrole] at h2; cases h2; exact hc rfl), h2⟩

/-- A shared map is written. -/
theorem Sim.setMap (hs : Sim G w s) {w' : World} {b : Nat} {es0 es : List (ByteArray × Bool)} {arr : Array MapEntry} {clock : Nat} (hb : s.h b = some (.smap es0))
    (hos : w'.os = w.os) (htape : w'.tape = w.tape) (hout : w'.output = w.output) (hsz : w'.heap.size = w.heap.size)
    (hsame : ∀ k, k ≠ b → w'.heap[k]? = w.heap[k]?) (hnew : w'.heap[b]? = some (.map arr clock)) (hr : arr.toList.map (fun e => (e.key, e.val)) = es.map fun x => (Value.string x.1, Value.bool x.2)) :
    Ext G w s.o G w' s.o ∧ Sim G w' { s with h := upd s.h b (.smap es) } := by
  have hrole : G.role b = .glob b := (hs.glob b _ hb).2.1
  have hnb : ∀ k, G.role k ≠ .glob b → k ≠ b := fun k hk e => by subst e; exact hk hrole
  refine ⟨⟨⟨hos, htape, hout, by omega, Im.le_refl _, fun k hk h => ⟨hsame k (hnb k fun e => by rw [h] at e; cases e), h, rfl⟩, fun _ _ _ h => h, fun _ _ h => h, rfl, fun _ _ _ h => h⟩, .refl _ _⟩, ?_⟩
  have him : ∀ k j x, G.I k j = some x → w'.cell? ⟨k, j, none⟩ = some x := by
    intro k j x h
    rw [World.cell?_of_block (w := w) (a := ⟨k, j, none⟩) (hsame k (hnb k fun e => by
      rcases hs.imr k j x h with h1 | ⟨t, h1⟩ | h1 <;> rw [h1] at e <;> cases e))]
    exact hs.im k j x h
  constructor
  · exact him
  · exact hs.imr
  · intro k h; exact hs.fresh k (by omega)
  · exact hs.loc
  · exact hs.blen
  · intro m c T' cs' h1 h2
    obtain ⟨zs, a1, a2⟩ := hs.box m c T' cs' h1 h2
    refine ⟨zs, (hsame c (hnb c fun e => ?_)).trans a1, a2⟩
    rw [hs.loc m c h1] at e; cases e
  · exact hs.tlen
  · intro m v e sz len h1 h2
    obtain ⟨a1, ⟨xs, a2⟩, a3⟩ := hs.tok m v e sz len h1 h2
    refine ⟨a1, ⟨xs, a2.1, ?_⟩, a3⟩
    rcases a2.2 with h | ⟨g, cap, cur, c1, c2, c3, c4⟩
    · exact .inl h
    · refine .inr ⟨g, cap, cur, c1, c2, (hsame g ?_).trans c3, c4⟩
      refine hnb g fun e => ?_
      have := (a3 g (by rw [c1]; rfl)).1
      rw [this] at e; cases e
  · intro c ho h
    by_cases hc : c = b
    · subst hc
      dsimp only at h
      rw [upd_same] at h
      cases h
      exact ⟨by have := (hs.glob c _ hb).1; omega, hrole, arr, clock, hnew, hr⟩
    · dsimp only at h
      rw [upd_ne _ _ hc] at h
      exact hs.globKeep ⟨Im.le_refl _, him, by omega, fun k _ h => ⟨h, hsame k (hnb k fun e => by rw [h] at e; cases e), rfl⟩⟩ h fun q h1 h2 => ⟨hsame q (fun e => by subst e; rw [hrole] at h2; cases h2; exact hc rfl), h2⟩

theorem Sim.drewN (hs : Sim G w s) : Sim G w.drew s := hs.grow (fun _ _ => rfl) (Nat.le_refl _)
theorem Ext.drew (G : Aw.G) (w : World) (o : List (Nat × Nat × Nat)) : Ext G w o G w.drew o :=
  ⟨⟨rfl, rfl, rfl, Nat.le_refl _, Im.le_refl _, fun _ _ h => ⟨rfl, h, rfl⟩, fun _ _ _ h => h, fun _ _ h => h, rfl, fun _ _ _ h => h⟩, .refl _ _⟩
end

end Go.Proofs.YtdgjpncflkpjfaaDoor.Aw
