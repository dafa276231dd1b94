/- The abstract machine, fourth part: each operation does what the abstract one says. -/
import Derived.Test.YtdgjpncflkpjfaaDoorAw3
import Derived.MapKept
import Derived.Deep.MidRow
import Derived.Laws.Panics
set_option linter.unusedVariables false
set_option linter.unusedSimpArgs false
namespace Go.Proofs.YtdgjpncflkpjfaaDoor.Aw

theorem add_at (b o j : Nat) : (⟨b, o, none⟩ : Addr).add j = ⟨b, o + j, none⟩ := by unfold Addr.add; split <;> simp_all

theorem All2.setR {R : AC → Value → Prop} : ∀ {cs : List AC} {ys : List Value} (o : Nat) {cs' : List AC} {ys' : List Value}, All2 R cs ys → All2 R cs' ys' → o + cs'.length ≤ cs.length →
    All2 R (setR cs o cs') (ys.take o ++ ys' ++ ys.drop (o + ys'.length))
  | [], [], o, cs', ys', h, h', hl => by
    have : cs' = [] := List.eq_nil_of_length_eq_zero (by simp only [List.length_nil] at hl; omega)
    subst this
    cases ys' with
    | nil => simp [Aw.setR]; cases o <;> simp [Aw.setR, All2]
    | cons _ _ => exact h'.elim
  | c :: cs, y :: ys, 0, [], [], h, h', hl => by simpa [Aw.setR] using h
  | c :: cs, y :: ys, 0, a :: cs', b :: ys', h, h', hl => by
    have := All2.setR (cs := cs) (ys := ys) 0 h.2 h'.2 (by simp at hl ⊢; omega)
    simp only [Aw.setR]
    refine ⟨h'.1, ?_⟩
    simpa [Nat.add_comm 1] using this
  | c :: cs, y :: ys, o + 1, cs', ys', h, h', hl => by
    have := All2.setR (cs := cs) (ys := ys) o h.2 h' (by simp at hl ⊢; omega)
    simp only [Aw.setR]
    refine ⟨h.1, ?_⟩
    have e : o + 1 + ys'.length = (o + ys'.length) + 1 := by omega
    simpa [e] using this
  | [], _ :: _, _, _, _, h, _, _ => h.elim
  | _ :: _, [], _, _, _, h, _, _ => h.elim
  | _ :: _, _ :: _, 0, [], _ :: _, _, h', _ => h'.elim
  | _ :: _, _ :: _, 0, _ :: _, [], _, h', _ => h'.elim

theorem setR_length : ∀ (cs : List AC) (o : Nat) (cs' : List AC), o + cs'.length ≤ cs.length → (setR cs o cs').length = cs.length
  | [], 0, [], _ => rfl
  | [], _ + 1, _, _ => rfl
  | [], 0, _ :: _, _ => by simp [setR]
  | c :: cs, 0, [], _ => rfl
  | c :: cs, 0, a :: cs', h => by simp only [setR, List.length_cons]; rw [setR_length cs 0 cs' (by simp at h ⊢; omega)]
  | c :: cs, o + 1, cs', h => by simp only [setR, List.length_cons]; rw [setR_length cs o cs' (by simp at h ⊢; omega)]

theorem RelT.share {G : G} {o : List (Nat × Nat × Nat)} {x : AC} {y : Value} (hx : x.noloc = true) (h : RelT G o x y) : Rel G.I x.share y := by
  cases x with
  | tt => have h' : Rel G.I .tt y := h; cases h'; exact .v _ rfl
  | ff => have h' : Rel G.I .ff y := h; cases h'; exact .v _ rfl
  | loc n off => simp [AC.noloc] at hx
  | own n sz rows => exact h.1
  | _ => exact h

theorem All2.share {G : G} {o : List (Nat × Nat × Nat)} : ∀ {xs : List AC} {ys : List Value}, xs.all AC.noloc = true → All2 (RelT G o) xs ys → All2 (Rel G.I) (xs.map AC.share) ys
  | [], [], _, _ => trivial
  | x :: xs, y :: ys, h, k => by simp at h; exact ⟨k.1.share h.1, All2.share (by simpa using h.2) k.2⟩
  | [], _ :: _, _, k => k.elim
  | _ :: _, [], _, k => k.elim

theorem Rel.toT {G : G} {o : List (Nat × Nat × Nat)} {x : AC} {y : Value} (h : Rel G.I x y) : RelT G o x y := by
  cases h <;> first | exact .tt | exact .ff | exact .nil | (constructor <;> assumption)

theorem All2.toT {G : G} {o : List (Nat × Nat × Nat)} {xs : List AC} {ys : List Value} (h : All2 (Rel G.I) xs ys) : All2 (RelT G o) xs ys := h.mono fun _ _ h => h.toT

theorem All2.one {G : G} {o : List (Nat × Nat × Nat)} : ∀ {xs : List AC} {ys : List Value}, All2 (RelT G o) xs ys → ∀ y ∈ ys, y.oneCell' = true
  | [], [], _, y, hy => by cases hy
  | x :: xs, y :: ys, h, z, hz => by
    cases hz with
    | head => exact h.1.one
    | tail _ hz => exact All2.one h.2 z hz
  | [], _ :: _, h, _, _ => h.elim
  | _ :: _, [], h, _, _ => h.elim

theorem RelV.cells {G : G} {o : List (Nat × Nat × Nat)} {v : AV} {y : Value} (h : RelV G o v y) (hv : ∀ xs, v ≠ .tup xs) : All2 (RelT G o) v.cells y.cells.toList := by
  cases v with
  | c x =>
    have := RelT.one h
    cases y <;> first | exact ⟨h, trivial⟩ | cases this
  | agg xs => obtain ⟨ys, rfl, h⟩ := h; simpa [AV.cells, Value.cells] using h
  | tup xs => exact absurd rfl (hv xs)

theorem RelV.cells' {G : G} {o : List (Nat × Nat × Nat)} {v : AV} {y : Value} {n : Nat} (h : RelV G o v y) (hl : v.cells.length = n) (hn : 0 < n) : All2 (RelT G o) v.cells y.cells.toList :=
  h.cells fun xs e => by subst e; simp [AV.cells] at hl; omega

theorem RelV.noloc {G : G} {o : List (Nat × Nat × Nat)} {v : AV} {y : Value} (hn : v.noloc = true) (h : RelV G o v y) (o' : List (Nat × Nat × Nat)) (G' : Aw.G) (hI : G.I.le G'.I) : RelV G' o' v.share y := by
  cases v with
  | c x => exact ((RelT.share hn h).mono hI).toT
  | agg xs =>
    obtain ⟨ys, rfl, h⟩ := h
    exact ⟨ys, rfl, ((All2.share hn h).mono fun _ _ h => h.mono hI).toT⟩
  | tup xs => simp [AV.noloc] at hn

theorem RelVs.noloc {G : G} {o : List (Nat × Nat × Nat)} : ∀ {vs : List AV} {ys : List Value}, nocell vs = true → RelVs G o vs ys → ∀ (o' : List (Nat × Nat × Nat)) (G' : Aw.G), G.I.le G'.I → RelVs G' o' (vs.map AV.share) ys
  | [], [], _, _, _, _, _ => trivial
  | v :: vs, y :: ys, hn, h, o', G', hI => by
    simp [nocell] at hn
    exact ⟨RelV.noloc hn.1 h.1 o' G' hI, RelVs.noloc (by simpa [nocell] using hn.2) h.2 o' G' hI⟩
  | [], _ :: _, _, h, _, _, _ => h.elim
  | _ :: _, [], _, h, _, _, _ => h.elim

theorem atom_of {G : G} {o : List (Nat × Nat × Nat)} {x : AC} {y z : Value} (h : RelT G o x y) (ha : x.atom = some z) : y = z := by
  cases x <;> simp [AC.atom] at ha <;> subst ha <;> cases h <;> rfl

theorem atoms_of {G : G} {o : List (Nat × Nat × Nat)} : ∀ {xs : List AC} {ys zs : List Value}, All2 (RelT G o) xs ys → atoms xs = some zs → ys = zs
  | [], [], zs, _, h => by simpa [atoms] using h
  | x :: xs, y :: ys, zs, h, ha => by
    simp only [atoms] at ha
    split at ha
    · rename_i u us h1 h2
      cases ha
      rw [atom_of h.1 h1, atoms_of h.2 h2]
    · cases ha
  | [], _ :: _, _, h, _ => h.elim
  | _ :: _, [], _, h, _ => h.elim

theorem atomV_of {G : G} {o : List (Nat × Nat × Nat)} {v : AV} {y z : Value} (h : RelV G o v y) (ha : v.atom = some z) : y = z := by
  cases v with
  | c x => exact atom_of h ha
  | agg xs =>
    obtain ⟨ys, rfl, h⟩ := h
    simp only [AV.atom, Option.map_eq_some_iff] at ha
    obtain ⟨zs, h1, rfl⟩ := ha
    rw [atoms_of h h1]
  | tup xs => simp [AV.atom] at ha

section
variable {rr : Option Nat} {nn : Nat} {C : Cfg} {o : Oper} {ρ : Operand → Option AV} {ρc : Operand → Value} {s : S} {φ : K1} {π : Value → S → Prop} {g : G} {w : World} {a : Act} {next : Act → World → Prop} {Q : Exit → Act → World → Prop}

/-- What is known where an operation runs. -/
structure Here (C : Cfg) (o : Oper) (ρ : Operand → Option AV) (ρc : Operand → Value) (s : S) (φ : K1) (π : Value → S → Prop) (g : G) (w : World) (a : Act) (next : Act → World → Prop) (Q : Exit → Act → World → Prop) : Prop where
  ty : ∀ t i, C.ty t = some i → TIOk C.P t i
  rho : ∀ x v, ρ x = some v → RelV g s.o v (ρc x)
  sim : Sim g w s
  next : ∀ v av s' g' w', φ av s' → Ext g w s.o g' w' s'.o → Sim g' w' s' → RelV g' s'.o av v → next (a.put o.dst v) w'
  quit : ∀ v s' g' w', π v s' → Ext g w s.o g' w' s'.o → Sim g' w' s' → Q (.panic [{ v := v, recovered := false }]) a w'

theorem Here.same (H : Here C o ρ ρc s φ π g w a next Q) {v : Value} {av : AV} (h : φ av s) (hr : RelV g s.o av v) : next (a.put o.dst v) w :=
  H.next v av s g w h (.refl _ _ _) H.sim hr

/-- The operation has a value in the very world. -/
theorem upon_ok {P : Program} {v : Value} {w' : World} (hrun : (execOp ρc o).run P w = .ok (.value v) w') (h : next (a.put o.dst v) w') : o.uponIn (FR rr) nn P a next Q ((execOp ρc o).run P w) := by
  rw [hrun]; exact h
theorem upon_skip' {P : Program} {w' : World} (hrun : (execOp ρc o).run P w = .ok .skip w') (h : next (a.put o.dst undef) w') : o.uponIn (FR rr) nn P a next Q ((execOp ρc o).run P w) := by
  rw [hrun]; exact h

theorem ok_move {x : Operand} (ho : o.op = .move x ∨ o.op = .assign x) (H : Here C o ρ ρc s φ π g w a next Q) (h : match ρ x with | some v => φ v s | none => False) :
    o.uponIn (FR rr) nn C.P a next Q ((execOp ρc o).run C.P w) := by
  cases hx : ρ x with
  | none => rw [hx] at h; exact h.elim
  | some v =>
    rw [hx] at h
    refine upon_ok (v := ρc x) (w' := w) ?_ (H.same h (H.rho x v hx))
    rcases ho with ho | ho <;> simp [execOp, ho]

theorem ok_pick {c x y : Operand} (ho : o.op = .pick c x y) (H : Here C o ρ ρc s φ π g w a next Q) (h : sem C o ρ s φ π) : o.uponIn (FR rr) nn C.P a next Q ((execOp ρc o).run C.P w) := by
  simp only [sem, ho] at h
  have fin : ∀ (t : Bool) (z : Operand), ρc c = .bool t → (if t then x else y) = z → (match ρ z with | some v => φ v s | none => False) → o.uponIn (FR rr) nn C.P a next Q ((execOp ρc o).run C.P w) := by
    intro t z hc hz h
    cases hx : ρ z with
    | none => rw [hx] at h; exact h.elim
    | some v =>
      rw [hx] at h
      refine upon_ok (v := ρc z) (w' := w) ?_ (H.same h (H.rho z v hx))
      cases t <;> simp at hz <;> simp [execOp, ho, hc, asBool, hz]
  split at h
  · rename_i hc
    have hr : Rel g.I _ _ := H.rho c _ hc
    have e : ρc c = .bool true := by generalize ρc c = v at hr; cases hr; rfl
    exact fin true x e rfl h
  · rename_i hc
    have hr : Rel g.I _ _ := H.rho c _ hc
    have e : ρc c = .bool false := by generalize ρc c = v at hr; cases hr; rfl
    exact fin false y e rfl h
  · rename_i t hc
    have hr : Rel g.I _ _ := H.rho c _ hc
    have e : ρc c = .bool t := by generalize ρc c = v at hr; cases hr; rfl
    cases t
    · exact fin false y e rfl (h.f rfl)
    · exact fin true x e rfl (h.t rfl)
  · exact h.elim

theorem tiok_zero {P : Program} {t : Nat} {i : TI} (h : TIOk P t i) (w : World) : ∃ z, (zeroValue t).run P w = .ok z w ∧ ∀ g o, All2 (RelT g o) i.zero z.cells.toList := by
  obtain ⟨info, z, h1, h2, h3, h4, h5, h6⟩ := h.info
  exact ⟨z, by simp [zeroValue, typeInfo, h1, h4], fun g o => (All2.mono (fun _ _ h => Rel.mono (fun _ _ _ h => by cases h) h) h6 : All2 (Rel g.I) _ _).toT⟩

theorem ok_alloc {T : Nat} (ho : o.op = .alloc T) (H : Here C o ρ ρc s φ π g w a next Q) (h : sem C o ρ s φ π) : o.uponIn (FR rr) nn C.P a next Q ((execOp ρc o).run C.P w) := by
  simp only [sem, ho] at h
  cases hT : C.ty T with
  | none => rw [hT] at h; exact h.elim
  | some i =>
    rw [hT] at h
    obtain ⟨z, hz, hr⟩ := tiok_zero (H.ty T i hT) w
    have hrun : (execOp ρc o).run C.P w = .ok (.value (.pointer (some ⟨w.heap.size, 0, none⟩))) (w.alloc (.cells z.cells.toList.toArray T)) := by
      simp [execOp, ho, Instr.alloc, hz, newVar, newRow]
    by_cases he : C.esc (o.dst.getD 0) = true
    · simp only [he, if_true] at h
      obtain ⟨hn, g', hx, hs'⟩ := H.sim.addGlob T i.zero z.cells.toList (All2.mono (fun _ _ h => h) (by
        have := hr { I := g.I, role := g.role, bl := [], tk := [], fr := g.fr } []
        refine All2.of_get this.length fun k x y h1 h2 => ?_
        obtain ⟨y', h3, h4⟩ := this.get k x h1
        rw [h2] at h3; cases h3
        obtain ⟨info, z', q1, q2, q3, q4, q5, q6⟩ := (H.ty T i hT).info
        obtain ⟨y'', h5, h6⟩ := q6.get k x h1
        have : z' = z := by
          simp [zeroValue, typeInfo, q1, q4] at hz
          exact hz
        subst this
        rw [h2] at h5; cases h5
        exact h6.mono fun _ _ _ h => by cases h))
      exact upon_ok hrun (H.next _ _ _ _ _ (h _ hn) hx hs' (.v _ rfl))
    · simp only [he, if_false, Bool.false_eq_true, forceL_eq, forceLen_eq, Nat.zero_add] at h
      obtain ⟨g', hx, hs', hb⟩ := H.sim.addLoc T i.zero z.cells.toList (hr _ _)
      exact upon_ok hrun (H.next _ _ _ _ _ h hx hs' ⟨_, hb, rfl⟩)

theorem fits_spec {v : AV} {n : Nat} (h : fits v n = true) : v.cells.length = n ∧ 0 < n := by
  simp [fits] at h
  exact ⟨h.1, h.2⟩

theorem all_noloc {v : AV} (hn : v.noloc = true) : v.cells.all AC.noloc = true := by
  cases v with
  | c y => simpa [AV.cells, AV.noloc] using hn
  | agg ys => simpa [AV.cells, AV.noloc] using hn
  | tup ys => simp [AV.noloc] at hn

theorem ok_box {T : Nat} {x : Operand} (ho : o.op = .box T x) (H : Here C o ρ ρc s φ π g w a next Q) (h : sem C o ρ s φ π) : o.uponIn (FR rr) nn C.P a next Q ((execOp ρc o).run C.P w) := by
  simp only [sem, ho] at h
  split at h
  · rename_i i v hT hx
    split at h
    · rename_i hf
      obtain ⟨hl, hp⟩ := fits_spec hf
      have hc := (H.rho x v hx).cells' hl hp
      have hrun : (execOp ρc o).run C.P w = .ok (.value (.pointer (some ⟨w.heap.size, 0, none⟩))) (w.alloc (.cells (ρc x).cells.toList.toArray T)) := by
        simp [execOp, ho, Instr.box, newVar, newRow]
      by_cases hro : C.rob (o.dst.getD 0) = true
      · simp only [hro, if_true] at h
        split at h
        · rename_i hn
          have hcs := All2.share (all_noloc hn) hc
          obtain ⟨ys, hys⟩ : ∃ ys, ys = (ρc x).cells.toList := ⟨_, rfl⟩
          rw [← hys] at hcs hrun
          have hcell : ∀ k y, ys[k]? = some y → (w.alloc (.cells ys.toArray T)).cell? ⟨w.heap.size, k, none⟩ = some y := fun k y hk => by
            have := alloc_new w (.cells ys.toArray T)
            simp only [World.cell?, this]
            simpa using hk
          obtain ⟨g', hx', hs', hI, hbl, htk⟩ := H.sim.addIm (w' := w.alloc (.cells ys.toArray T)) rfl rfl rfl (by simp) (fun b h => alloc_old w _ b h) w.heap.size (Nat.le_refl _) (fun k => ys[k]?) hcell
          refine upon_ok hrun (H.next _ _ _ _ _ h hx' hs' ?_)
          refine (Rel.ro _ w.heap.size 0 (fun k => ys.getD k undef) (fun k y hk => ?_) (fun k y hk => ?_) : Rel g'.I _ _)
          · obtain ⟨z, h1, h2⟩ := hcs.get k y hk
            rw [hI, Nat.zero_add]
            show ys[k]? = some (ys.getD k undef)
            rw [List.getD_eq_getElem?_getD, h1]; rfl
          · obtain ⟨z, h1, h2⟩ := hcs.get k y hk
            rw [List.getD_eq_getElem?_getD, h1]
            exact h2.mono hx'.keep.im
        · exact h.elim
      simp only [hro, if_false, Bool.false_eq_true] at h
      by_cases he : C.esc (o.dst.getD 0) = true
      · simp only [he, if_true] at h
        split at h
        · rename_i hn
          obtain ⟨hnn, g', hx', hs'⟩ := H.sim.addGlob T _ _ (All2.share (all_noloc hn) hc)
          exact upon_ok hrun (H.next _ _ _ _ _ (h _ hnn) hx' hs' (.v _ rfl))
        · exact h.elim
      · simp only [he, if_false, Bool.false_eq_true, forceL_eq, forceLen_eq, Nat.zero_add] at h
        obtain ⟨g', hx', hs', hb⟩ := H.sim.addLoc T _ _ hc
        exact upon_ok hrun (H.next _ _ _ _ _ h hx' hs' ⟨_, hb, rfl⟩)
    · exact h.elim
  · exact h.elim

/-- Cells that lie together in memory. -/
def Lies (G : Aw.G) (w : World) (o : List (Nat × Nat × Nat)) (b off : Nat) (cs : List AC) : Prop := ∀ k x, cs[k]? = some x → ∃ y, w.cell? ⟨b, off + k, none⟩ = some y ∧ RelT G o x y

theorem Lies.drop {G : Aw.G} {w : World} {o : List (Nat × Nat × Nat)} {b off : Nat} {cs : List AC} (n : Nat) (h : Lies G w o b off cs) : Lies G w o b (off + n) (cs.drop n) := fun k x hx => by
  rw [List.getElem?_drop] at hx
  obtain ⟨y, h1, h2⟩ := h (n + k) x hx
  exact ⟨y, by rw [show off + n + k = off + (n + k) by omega]; exact h1, h2⟩

theorem lies_cells {G : Aw.G} {w : World} {o : List (Nat × Nat × Nat)} {b T : Nat} {cs : List AC} {ys : List Value} {fr : Nat × Nat} (hw : w.heap[b]? = some (.cells ys.toArray T fr)) (h : All2 (RelT G o) cs ys) : Lies G w o b 0 cs := fun k x hx => by
  obtain ⟨y, h1, h2⟩ := h.get k x hx
  exact ⟨y, by simp [World.cell?, hw, h1], h2⟩

/-- A variable is read. -/
theorem run_loadOf {T : Nat} {i : TI} (ht : TIOk C.P T i) {b off : Nat} {cs : List AC} (hl : Lies g w s.o b off cs) {k : AV → Prop} (h : loadOf i cs k) :
    ∃ v y, k v ∧ (loadVar T ⟨b, off, none⟩).run C.P w = .ok y w ∧ RelV g s.o v y := by
  obtain ⟨info, z, h1, h2, h3, h4, h5, h6⟩ := ht.info
  obtain ⟨d, hd, hdok⟩ := ht.desc
  unfold loadOf at h
  by_cases ha : i.agg = true
  · rw [if_pos ha] at h
    split at h
    · rename_i hle
      have hle : i.size ≤ cs.length := Nat.le_of_ble_eq_true hle
      rw [forceL_eq] at h
      have hex : ∃ ys : List Value, ys.length = i.size ∧ (∀ (j : Nat) (y : Value), ys[j]? = some y → w.cell? ⟨b, off + j, none⟩ = some y) ∧ All2 (RelT g s.o) (cs.take i.size) ys := by
        have : ∀ n, n ≤ cs.length → ∃ ys : List Value, ys.length = n ∧ (∀ (j : Nat) (y : Value), ys[j]? = some y → w.cell? ⟨b, off + j, none⟩ = some y) ∧ All2 (RelT g s.o) (cs.take n) ys := by
          intro n
          induction n with
          | zero => intro _; exact ⟨[], rfl, fun j y h => by simp at h, by simp [All2]⟩
          | succ n ih =>
            intro hn
            obtain ⟨ys, e1, e2, e3⟩ := ih (by omega)
            obtain ⟨y, e4, e5⟩ := hl n cs[n] (by simp)
            refine ⟨ys ++ [y], by simp [e1], fun j y' hj => ?_, ?_⟩
            · rcases Nat.lt_or_ge j n with hjn | hjn
              · rw [List.getElem?_append_left (by omega)] at hj; exact e2 j y' hj
              · rw [List.getElem?_append_right (by omega)] at hj
                have hj0 : j = n := by
                  rcases Nat.eq_zero_or_pos (j - ys.length) with h0 | h0
                  · omega
                  · rw [List.getElem?_eq_none (by simp; omega)] at hj; cases hj
                subst hj0
                simp [e1] at hj
                rw [← hj]; exact e4
            · rw [List.take_succ_eq_append_getElem (by omega)]
              exact e3.append ⟨e5, trivial⟩
        exact this i.size hle
      obtain ⟨ys, e1, e2, e3⟩ := hex
      refine ⟨_, .agg ys.toArray, h, ?_, ⟨ys, rfl, e3⟩⟩
      refine run_loadVar_mid w b off T ys d (fun j y hj => e2 j y hj) hd ?_ (by simp [h1, h2, e1])
      cases hi : i.d with
      | struct fs => rw [hi] at hdok; obtain ⟨fields, rfl, _⟩ := hdok; rfl
      | arr n e => rw [hi] at hdok; cases hdok; rfl
      | _ => simp [TI.agg, hi] at ha
    · exact h.elim
  · rw [if_neg ha] at h
    cases cs with
    | nil => exact h.elim
    | cons x cs =>
      obtain ⟨y, e1, e2⟩ := hl 0 x rfl
      refine ⟨_, y, h, ?_, e2⟩
      have hagg : (isAgg T).run C.P w = .ok false w := by
        unfold isAgg
        rw [Sem.run_bind, run_underlying hd w]
        cases hi : i.d with
        | struct fs => simp [TI.agg, hi] at ha
        | arr n e => simp [TI.agg, hi] at ha
        | other => rw [hi] at hdok; cases d <;> first | rfl | exact hdok.elim
        | iface => rw [hi] at hdok; obtain ⟨ms, rfl⟩ := hdok; rfl
        | _ => rw [hi] at hdok; cases hdok; rfl
      simp only [Nat.add_zero] at e1
      simp [loadVar, Sem.run_bind, hagg, e1]

theorem ok_load {T : Nat} {x : Operand} (ho : o.op = .load T x) (H : Here C o ρ ρc s φ π g w a next Q) (h : sem C o ρ s φ π) : o.uponIn (FR rr) nn C.P a next Q ((execOp ρc o).run C.P w) := by
  simp only [sem, ho] at h
  have fin : ∀ {i : TI} {b off : Nat} {cs : List AC}, C.ty T = some i → ρc x = .pointer (some ⟨b, off, none⟩) → Lies g w s.o b off cs → loadOf i cs (fun v => φ v s) → o.uponIn (FR rr) nn C.P a next Q ((execOp ρc o).run C.P w) := by
    intro i b off cs hT hx hl h
    obtain ⟨v, y, h1, h2, h3⟩ := run_loadOf (C := C) (H.ty T i hT) hl h
    exact upon_ok (by simp [execOp, ho, Instr.loadAt, hx, Instr.sureAddr, h2]) (H.same h1 h3)
  split at h
  · rename_i i hT
    split at h
    · rename_i n off hx
      split at h
      · rename_i T' cs hl
        have hrt : RelT g s.o (.loc n off) (ρc x) := H.rho x _ hx
        obtain ⟨b, hb, hp⟩ := hrt
        obtain ⟨ys, h1, h2⟩ := H.sim.box n b T' cs hb hl
        have := (lies_cells h1 h2).drop off
        rw [Nat.zero_add] at this
        exact fin hT hp this h
      · exact h.elim
    · rename_i cs hx
      have hr : Rel g.I _ _ := H.rho x _ hx
      generalize hv : ρc x = v at hr
      cases hr with
      | ro cells b off f h1 h2 =>
        exact fin hT hv (fun k x hx => ⟨f k, H.sim.im b (off + k) (f k) (h1 k x hx), (h2 k x hx).toT⟩) h
    · rename_i b off hx
      by_cases hll : C.lload (o.dst.getD 0) = true
      · simp [hll] at h
      · simp only [hll, if_false, Bool.false_eq_true] at h
        have h : ∃ T' cs, s.h b = some (.cells T' cs) ∧ loadOf i (cs.drop off) fun v => φ v s := by
          split at h
          · obtain ⟨T', cs, ⟨hh, _⟩, h⟩ := h; exact ⟨T', cs, hh, h⟩
          · exact h
        obtain ⟨T', cs, hh, h⟩ := h
        have hr : Rel g.I _ _ := H.rho x _ hx
        have hv : ρc x = .pointer (some ⟨b, off, none⟩) := by generalize ρc x = v at hr; cases hr; rfl
        obtain ⟨_, _, ys, h1, h2⟩ := H.sim.glob b _ hh
        have := (lies_cells (G := g) (o := s.o) h1 h2.toT).drop off
        rw [Nat.zero_add] at this
        exact fin hT hv this h
    · exact h.elim
  · exact h.elim

theorem run_storeAt_row {T b off Tb : Nat} {i : TI} (ht : TIOk C.P T i) {ys : List Value} (hb : w.heap[b]? = some (.cells ys.toArray Tb (0, 0))) {v : Value} (hl : v.cells.size = i.size) (h1 : ∀ y ∈ v.cells.toList, y.oneCell' = true)
    (hfit : off + i.size ≤ ys.length) : ∃ w', (Instr.storeAt T (.pointer (some ⟨b, off, none⟩)) v).run C.P w = .ok () w' ∧ w'.os = w.os ∧ w'.tape = w.tape ∧ w'.output = w.output ∧ w'.heap.size = w.heap.size ∧
      (∀ k, k ≠ b → w'.heap[k]? = w.heap[k]?) ∧ w'.heap[b]? = some (.cells (ys.take off ++ v.cells.toList ++ ys.drop (off + v.cells.toList.length)).toArray Tb (0, 0)) := by
  obtain ⟨info, z, e1, e2, e3, e4, e5, e6⟩ := ht.info
  have hrun := run_storeCells_at C.P b off Tb v.cells.toList 0 ys.toArray w hb (by simp; omega) h1
  simp only [Nat.add_zero] at hrun
  refine ⟨w.setRow b (ys.take off ++ v.cells.toList ++ ys.drop (off + v.cells.toList.length)).toArray, ?_, rfl, rfl, rfl, ?_, fun k hk => setRow_other w b k _ hk, setRow_heap w b _ _ Tb (0, 0) hb⟩
  · rw [Instr.storeAt]
    simp only [Instr.sureAddr, Sem.run_bind, Sem.run_pure, Result.andThen_ok]
    have hne : ¬ (v.cells.size ≠ info.size) := by omega
    simp only [storeVar, sizeOf, typeInfo, Sem.run_bind, run_program, Result.andThen_ok, e1, Sem.run_pure, if_neg hne]
    exact hrun
  · simp [World.setRow]

theorem ok_store {T : Nat} {x y : Operand} (ho : o.op = .store T x y) (H : Here C o ρ ρc s φ π g w a next Q) (h : sem C o ρ s φ π) : o.uponIn (FR rr) nn C.P a next Q ((execOp ρc o).run C.P w) := by
  simp only [sem, ho] at h
  split at h
  · rename_i i v hT hy
    split at h
    · rename_i hf
      obtain ⟨hl, hp⟩ := fits_spec hf
      have hc := (H.rho y v hy).cells' hl hp
      have hsz : (ρc y).cells.size = i.size := by have := hc.length; simp at this; omega
      split at h
      · rename_i n off hx
        split at h
        · exact h.elim
        split at h
        · rename_i T' cs hln
          split at h
          · rename_i hle
            have hle : off + i.size ≤ cs.length := Nat.le_of_ble_eq_true hle
            simp only [forceL_eq] at h
            have hrt : RelT g s.o (.loc n off) (ρc x) := H.rho x _ hx
            obtain ⟨b, hb, hpx⟩ := hrt
            obtain ⟨ys, h1, h2⟩ := H.sim.box n b T' cs hb hln
            obtain ⟨w', r1, r2, r3, r4, r5, r6, r7⟩ := run_storeAt_row (C := C) (off := off) (H.ty T i hT) h1 hsz hc.one (by rw [← h2.length]; exact hle)
            obtain ⟨hx', hs'⟩ := H.sim.setLoc hb hln r2 r3 r4 r5 r6 r7 (All2.setR off h2 hc (by omega))
            exact upon_skip' (by simp [execOp, ho, hpx, r1]) (H.next _ _ _ _ _ h hx' hs' ⟨[], rfl, trivial⟩)
          · exact h.elim
        · exact h.elim
      · rename_i b off hx
        split at h
        · rename_i hn
          have h : ∃ T' cs, s.h b = some (.cells T' cs) ∧ off + i.size ≤ cs.length ∧ forceL (setR cs off (v.cells.map AC.share)) fun cs' => φ (.tup []) (s.setH (upd s.h b (.cells T' cs'))) := by
            split at h
            · obtain ⟨T', cs, ⟨hh, _⟩, hle, h⟩ := h; exact ⟨T', cs, hh, hle, h⟩
            · exact h
          obtain ⟨T', cs, hh, hle, h⟩ := h
          simp only [forceL_eq] at h
          have hr : Rel g.I _ _ := H.rho x _ hx
          have hv : ρc x = .pointer (some ⟨b, off, none⟩) := by generalize ρc x = v at hr; cases hr; rfl
          obtain ⟨_, _, ys, h1, h2⟩ := H.sim.glob b _ hh
          obtain ⟨w', r1, r2, r3, r4, r5, r6, r7⟩ := run_storeAt_row (C := C) (off := off) (H.ty T i hT) h1 hsz hc.one (by rw [← h2.length]; exact hle)
          obtain ⟨hx', hs'⟩ := H.sim.setGlob hh r2 r3 r4 r5 r6 r7 (All2.setR off h2 (All2.share (all_noloc hn) hc) (by simp; omega))
          exact upon_skip' (by simp [execOp, ho, hv, r1]) (H.next _ _ _ _ _ h hx' hs' ⟨[], rfl, trivial⟩)
        · exact h.elim
      · exact h.elim
    · exact h.elim
  · exact h.elim

theorem ok_nilCheck {x : Operand} (ho : o.op = .nilCheck x) (H : Here C o ρ ρc s φ π g w a next Q) (h : sem C o ρ s φ π) : o.uponIn (FR rr) nn C.P a next Q ((execOp ρc o).run C.P w) := by
  simp only [sem, ho] at h
  split at h
  · rename_i n off hx
    have hrt : RelT g s.o (.loc n off) (ρc x) := H.rho x _ hx
    obtain ⟨b, hb, hp⟩ := hrt
    exact upon_ok (by simp [execOp, ho, hp]) (H.same h ⟨b, hb, rfl⟩)
  · rename_i cs hx
    have hr : Rel g.I _ _ := H.rho x _ hx
    refine upon_ok (v := ρc x) (w' := w) ?_ (H.same h (H.rho x _ hx))
    simp only [execOp, ho]
    generalize ρc x = v at hr
    cases hr
    simp
  · rename_i ad hx
    have hr : Rel g.I _ _ := H.rho x _ hx
    refine upon_ok (v := ρc x) (w' := w) ?_ (H.same h (H.rho x _ hx))
    simp only [execOp, ho]
    generalize ρc x = v at hr
    cases hr
    simp
  · rename_i f p q hx
    have hr : Rel g.I _ _ := H.rho x _ hx
    refine upon_ok (v := ρc x) (w' := w) ?_ (H.same h (H.rho x _ hx))
    simp only [execOp, ho]
    generalize ρc x = v at hr
    cases hr
    simp
  · rename_i f p q hx
    have hr : Rel g.I _ _ := H.rho x _ hx
    refine upon_ok (v := ρc x) (w' := w) ?_ (H.same h (H.rho x _ hx))
    simp only [execOp, ho]
    generalize ρc x = v at hr
    cases hr
    simp
  · exact h.elim

theorem struct_field {T : Nat} {fs : List (Nat × Nat × Nat)} {sz by' : Nat} {z : List AC} (ht : TIOk C.P T ⟨.struct fs, sz, by', z⟩) {f ft off fsz : Nat} (hf : fs[f]? = some (ft, off, fsz)) :
    ∃ fields fd, C.P.underlying T = some (.struct fields) ∧ fields[f]? = some fd ∧ fd.type = ft ∧ fd.offset = off ∧ 0 < fsz ∧ ∃ info, C.P.info? ft = some info ∧ info.size = fsz := by
  obtain ⟨d, hd, fields, rfl, h1, h2⟩ := ht.desc
  have h3 : (fields.toList.map (fun f => (f.type, f.offset)))[f]? = some (ft, off) := by rw [h1]; simp [hf]
  rw [List.getElem?_map, Option.map_eq_some_iff] at h3
  obtain ⟨fd, h4, h5⟩ := h3
  simp only [Prod.mk.injEq] at h5
  obtain ⟨h6, h7⟩ := h2 _ (List.mem_of_getElem? hf)
  simp only [Option.map_eq_some_iff] at h7
  exact ⟨fields, fd, hd, by simpa using h4, h5.1, h5.2, h6, h7⟩

theorem run_fieldAt {T f off fsz : Nat} {fields : Array Field} {fd : Field} (hu : C.P.underlying T = some (.struct fields)) (hf : fields[f]? = some fd) (ho : fd.offset = off) (hp : 0 < fsz)
    {info : TypeInfo} (hi : C.P.info? fd.type = some info) (hs : info.size = fsz) (b k : Nat) :
    (Instr.fieldAt T (.pointer (some ⟨b, k, none⟩)) f).run C.P w = .ok (.pointer (some ⟨b, k + off, none⟩)) w := by
  have h0 : ¬ info.size = 0 := by omega
  simp [Instr.fieldAt, run_underlying hu, hf, Instr.sureAddr, fieldPlace, sizeOf, typeInfo, hi, h0, add_at, ho]

theorem ok_fieldAddr {T f : Nat} {x : Operand} (ho : o.op = .fieldAddr T x f) (H : Here C o ρ ρc s φ π g w a next Q) (h : sem C o ρ s φ π) : o.uponIn (FR rr) nn C.P a next Q ((execOp ρc o).run C.P w) := by
  simp only [sem, ho] at h
  split at h
  · rename_i fs sz by' z hT
    split at h
    · rename_i ft off fsz hf
      obtain ⟨fields, fd, e1, e2, e3, e4, e5, info, e6, e7⟩ := struct_field (H.ty T _ hT) hf
      have hrun : ∀ b k, ρc x = .pointer (some ⟨b, k, none⟩) → (execOp ρc o).run C.P w = .ok (.value (.pointer (some ⟨b, k + off, none⟩))) w := by
        intro b k hv
        simp [execOp, ho, hv, run_fieldAt (C := C) (w := w) e1 e2 e4 e5 (e3 ▸ e6) e7 b k]
      split at h
      · rename_i n k hx
        have hrt : RelT g s.o (.loc n k) (ρc x) := H.rho x _ hx
        obtain ⟨b, hb, hp⟩ := hrt
        exact upon_ok (hrun b k hp) (H.same h ⟨b, hb, rfl⟩)
      · rename_i cs hx
        split at h
        · have hr : Rel g.I _ _ := H.rho x _ hx
          generalize hv : ρc x = v at hr
          cases hr with
          | ro cells b k f h1 h2 =>
            refine upon_ok (hrun b k hv) (H.same h ?_)
            exact Rel.ro _ b (k + off) (fun j => f (off + j)) (fun j y hj => by
              rw [List.getElem?_drop] at hj
              rw [show k + off + j = k + (off + j) by omega]; exact h1 _ _ hj) (fun j y hj => by
              rw [List.getElem?_drop] at hj; exact h2 _ _ hj)
        · exact h.elim
      · rename_i b k hx
        have hr : Rel g.I _ _ := H.rho x _ hx
        have hv : ρc x = .pointer (some ⟨b, k, none⟩) := by generalize ρc x = v at hr; cases hr; rfl
        exact upon_ok (hrun b k hv) (H.same h (Rel.v _ rfl))
      · exact h.elim
    · exact h.elim
  · exact h.elim

theorem ok_indexAddr {T : Nat} {x ix : Operand} (ho : o.op = .indexAddr T x ix) (H : Here C o ρ ρc s φ π g w a next Q) (h : sem C o ρ s φ π) : o.uponIn (FR rr) nn C.P a next Q ((execOp ρc o).run C.P w) := by
  simp only [sem, ho] at h
  split at h
  · rename_i e sz0 by0 z0 k n hT hi
    have hri : Rel g.I _ _ := H.rho ix _ hi
    have hvi : ρc ix = .int k n := by generalize ρc ix = v at hri; cases hri; rfl
    obtain ⟨d, hd, hdok⟩ := (H.ty T _ hT).desc
    have hdok : d = .slice e := hdok
    subst hdok
    have fin : ∀ {ie : TI} {sz : Nat} {rows : List (List AC)}, C.ty e = some ie → Rel g.I (.sl sz rows) (ρc x) → sz = ie.size → (∃ r, (0 ≤ n ∧ rows[n.toNat]? = some r) ∧ φ (.c (.ro r)) s) → o.uponIn (FR rr) nn C.P a next Q ((execOp ρc o).run C.P w) := by
      intro ie sz rows hie hr hsz h
      obtain ⟨r, ⟨hn, hrow⟩, h⟩ := h
      obtain ⟨info, z, q1, q2, q3, q4, q5, q6⟩ := (H.ty e ie hie).info
      generalize hv : ρc x = v at hr
      cases hr with
      | sl sz rows A c f a0 a1 a2 a3 a4 a5 =>
        have hlt : n.toNat < rows.length := (List.getElem?_eq_some_iff.1 hrow).1
        have hrl : r.length = sz := a3 r (List.mem_of_getElem? hrow)
        obtain ⟨b, off, hA, _⟩ := a4 n.toNat r 0 r[0] hrow (by simp)
        subst hA
        refine upon_ok (v := .pointer (some ⟨b, off + n.toNat * sz, none⟩)) (w' := w) ?_ (H.same h ?_)
        · have hc : 0 ≤ n ∧ n < (rows.length : Int) := ⟨hn, by omega⟩
          simp [execOp, ho, hvi, hv, Instr.indexAt, asIntOf, run_underlying hd, sizeOf, typeInfo, q1, q2, ← hsz, add_at, hc]
        · exact Rel.ro _ b _ (fun j => f n.toNat j) (fun j y hj => by
            obtain ⟨b', off', hA, hI⟩ := a4 n.toNat r j y hrow hj
            cases hA
            rw [show off + n.toNat * sz + j = off + (n.toNat * sz + j) by omega]; exact hI) (fun j y hj => a5 _ _ _ _ hrow hj)
    split at h
    · rename_i ie sz rows hie hx
      split at h
      · rename_i hsz; exact fin hie (H.rho x _ hx) hsz h
      · exact h.elim
    · rename_i ie m sz rows hie hx
      split at h
      · rename_i hsz
        have hrt : RelT g s.o (.own m sz rows) (ρc x) := H.rho x _ hx
        exact fin hie hrt.1 hsz h
      · exact h.elim
    · rename_i ie b off len cap hie hx
      obtain ⟨info, z, q1, q2, q3, q4, q5, q6⟩ := (H.ty e ie hie).info
      obtain ⟨hc, h⟩ := h
      have hr : Rel g.I _ _ := H.rho x _ hx
      have hv : ρc x = .slice (some ⟨b, off, none⟩) len cap := by generalize ρc x = v at hr; cases hr; rfl
      refine upon_ok (v := .pointer (some ⟨b, off + n.toNat * ie.size, none⟩)) (w' := w) ?_ (H.same h (Rel.v _ rfl))
      simp [execOp, ho, hvi, hv, Instr.indexAt, asIntOf, run_underlying hd, sizeOf, typeInfo, q1, q2, add_at, hc]
    · exact h.elim
  · rename_i len e sz0 by0 z0 k n hT hi
    have hri : Rel g.I _ _ := H.rho ix _ hi
    have hvi : ρc ix = .int k n := by generalize ρc ix = v at hri; cases hri; rfl
    obtain ⟨d, hd, hdok⟩ := (H.ty T _ hT).desc
    have hdok : d = .array len e := hdok
    subst hdok
    split at h
    · rename_i ie b off hie hx
      obtain ⟨info, z, q1, q2, q3, q4, q5, q6⟩ := (H.ty e ie hie).info
      obtain ⟨hc, h⟩ := h
      have hr : Rel g.I _ _ := H.rho x _ hx
      have hv : ρc x = .pointer (some ⟨b, off, none⟩) := by generalize ρc x = v at hr; cases hr; rfl
      refine upon_ok (v := .pointer (some ⟨b, off + n.toNat * ie.size, none⟩)) (w' := w) ?_ (H.same h (Rel.v _ rfl))
      simp [execOp, ho, hvi, hv, Instr.indexAt, asIntOf, Go.Instr.sureAddr, run_underlying hd, sizeOf, typeInfo, q1, q2, add_at, hc]
    · exact h.elim
  · exact h.elim

theorem bt_get (b : ByteArray) (n : Int) (h0 : 0 ≤ n) (h1 : n.toNat < b.size) : ∃ y, b[n.toNat]? = some y ∧ (y.toNat : Int) = bt b n := by
  refine ⟨b[n.toNat], by simp [h1], ?_⟩
  unfold bt
  have : b.data.toList.getD n.toNat 0 = b[n.toNat] := by
    have h2 : n.toNat < b.data.toList.length := by simpa using h1
    rw [List.getD_eq_getElem?_getD, List.getElem?_eq_getElem h2]
    rfl
  rw [this]

theorem run_equal10 {T : Nat} {p q : Value} {r : Bool} (h : ∀ d : Nat, (Op.equalIn (d + 1) T p q).run C.P w = .ok r w) : (Op.equal T p q).run C.P w = .ok r w := h 9999
theorem run_cmpE {T : Nat} {i : TI} (ht : TIOk C.P T i) {p q : Value} {c r : Bool} (h : cmpA c i.d p q = some r) : (Op.equal T p q).run C.P w = .ok r w ∧ (p = .nilIface → q = .nilIface → c = true) ∧ (∀ xs ys, p = .agg xs → q = .agg ys → False) ∧ (nilish p = true ∨ nilish q = true) := by
  obtain ⟨d, hd, hok⟩ := ht.desc
  obtain ⟨id, sz, by', z⟩ := i
  dsimp only at h hok
  cases id with
  | iface =>
    obtain ⟨ms, rfl⟩ := hok
    cases p with
    | nilIface =>
      cases q with
      | nilIface =>
        cases c with
        | false => simp [cmpA] at h
        | true => simp [cmpA] at h; subst h; exact ⟨run_equal10 fun k => by simp [Op.equalIn, run_underlying hd], fun _ _ => rfl, fun _ _ e => (by cases e), .inl rfl⟩
      | iface T1 v1 => simp [cmpA] at h; subst h; exact ⟨run_equal10 fun k => by simp [Op.equalIn, run_underlying hd], fun _ e => (by cases e), fun _ _ e => (by cases e), .inl rfl⟩
      | _ => simp [cmpA] at h
    | iface T1 v1 =>
      cases q with
      | nilIface => simp [cmpA] at h; subst h; exact ⟨run_equal10 fun k => by simp [Op.equalIn, run_underlying hd], fun e => (by cases e), fun _ _ e => (by cases e), .inr rfl⟩
      | _ => simp [cmpA] at h
    | _ => simp [cmpA] at h
  | ptr e =>
    have hok : d = _ := hok
    subst hok
    cases p with
    | pointer a =>
      cases q with
      | pointer b =>
        cases a with
        | none => cases b with
          | none => simp [cmpA] at h; subst h; exact ⟨run_equal10 fun k => by simp [Op.equalIn, run_underlying hd], fun e => (by cases e), fun _ _ e => (by cases e), .inl rfl⟩
          | some b => simp [cmpA] at h; subst h; exact ⟨run_equal10 fun k => by simp [Op.equalIn, run_underlying hd], fun e => (by cases e), fun _ _ e => (by cases e), .inl rfl⟩
        | some a => cases b with
          | none => simp [cmpA] at h; subst h; exact ⟨run_equal10 fun k => by simp [Op.equalIn, run_underlying hd], fun e => (by cases e), fun _ _ e => (by cases e), .inr rfl⟩
          | some b => simp [cmpA] at h
      | _ => cases a <;> simp [cmpA] at h
    | _ => simp [cmpA] at h
  | bool =>
    have hok : d = _ := hok
    subst hok
    cases p with
    | bool a =>
      cases q with
      | bool b => simp only [cmpA, Option.some.injEq] at h; subst h; exact ⟨run_equal10 fun k => by simp [Op.equalIn, run_underlying hd], fun e => (by cases e), fun _ _ e => (by cases e), .inl rfl⟩
      | _ => simp [cmpA] at h
    | _ => simp [cmpA] at h
  | _ => simp [cmpA] at h

theorem run_guardC {op : BinOp} {T : Nat} {x y : Operand} (hc : (isCst x || isCst y) = true) : (eqGuard op T x y .nilIface .nilIface).run C.P w = .ok () w := by
  cases x <;> cases y <;> simp [isCst] at hc <;> simp [eqGuard]
theorem run_cmpA {op : BinOp} {T T' : Nat} {x y : Operand} {i : TI} (ht : TIOk C.P T i) (ho : o.op = .binOp op T x y T') {p q : Value} (hx : ρc x = p) (hy : ρc y = q) (hop : op = .eql ∨ op = .neq) {r : Bool} (h : cmpA (isCst x || isCst y) i.d p q = some r) :
    (op = .eql → (execOp ρc o).run C.P w = .ok (.value (.bool r)) w) ∧ (op = .neq → (execOp ρc o).run C.P w = .ok (.value (.bool !r)) w) := by
  obtain ⟨he, h1, h2, hnn⟩ := run_cmpE (w := w) ht h
  have hg : (eqGuard op T x y p q).run C.P w = .ok () w := by
    by_cases hpq : p = .nilIface ∧ q = .nilIface
    · obtain ⟨rfl, rfl⟩ := hpq
      exact run_guardC (h1 rfl rfl)
    · rcases hop with rfl | rfl <;> (
        unfold eqGuard
        simp only [Bool.not_true, Bool.false_eq_true, if_false]
        split
        · exact absurd ⟨rfl, rfl⟩ hpq
        · exact (h2 _ _ rfl rfl).elim
        · simp)
  have hb : ∀ k : BinOp, (k = .eql → (Go.binOp k T p q).run C.P w = .ok (.bool r) w) ∧ (k = .neq → (Go.binOp k T p q).run C.P w = .ok (.bool !r) w) := fun k => by
    refine ⟨fun e => ?_, fun e => ?_⟩ <;> subst e <;> (
      unfold Go.binOp
      rcases hnn with hn | hn
      · cases p <;> simp_all [nilish]
      · cases q <;> cases p <;> simp_all [nilish])
  refine ⟨fun e => ?_, fun e => ?_⟩
  · simp [execOp, ho, hx, hy, hg, (hb op).1 e]
  · simp [execOp, ho, hx, hy, hg, (hb op).2 e]

theorem cellV_ok {I : Im} {x : Value} {y : AC} (h : cellV x = some y) : Rel I y x := by
  unfold cellV at h
  split at h <;> cases h <;> exact .v _ rfl
theorem cellVs_ok {I : Im} : ∀ {xs : List Value} {ys : List AC}, cellVs xs = some ys → All2 (Rel I) ys xs
  | [], ys, h => by simp [cellVs] at h; subst h; trivial
  | x :: xs, ys, h => by
    simp only [cellVs] at h
    split at h
    · rename_i y zs h1 h2
      cases h
      exact ⟨cellV_ok h1, cellVs_ok h2⟩
    · cases h
theorem heldA_ok {x : Value} {v : AV} (h : heldA x = some v) : RelV g s.o v x := by
  unfold heldA at h
  split at h
  · rename_i cs
    rw [Option.map_eq_some_iff] at h
    obtain ⟨ys, h1, rfl⟩ := h
    exact ⟨cs.toList, by simp, (cellVs_ok h1).toT⟩
  · rw [Option.map_eq_some_iff] at h
    obtain ⟨y, h1, rfl⟩ := h
    exact ((cellV_ok h1 : Rel g.I y x).toT : RelT g s.o y x)

theorem ok_typeAssert {x : Operand} {src dst : Nat} {ok : Bool} (ho : o.op = .typeAssert x src dst ok) (H : Here C o ρ ρc s φ π g w a next Q) (h : sem C o ρ s φ π) : o.uponIn (FR rr) nn C.P a next Q ((execOp ρc o).run C.P w) := by
  simp only [sem, ho] at h
  split at h
  · rename_i T v hx
    have hrx : Rel g.I _ _ := H.rho x _ hx
    have hvx : ρc x = .iface T v := by generalize ρc x = v at hrx; cases hrx; rfl
    unfold asrtA at h
    split at h
    · rename_i i hT
      obtain ⟨d, hd, hok⟩ := (H.ty dst i hT).desc
      split at h
      · exact h.elim
      · rename_i hni
        split at h
        · rename_i hTd
          subst hTd
          split at h
          · rename_i av hav
            have hnot : ∀ ms, d ≠ .interface ms := fun ms e => by
              subst e
              cases hid : i.d with
              | iface => exact hni hid
              | _ => rw [hid] at hok; simp [TD.ok] at hok
            have hrun : (Instr.typeAssert (.iface T v) src T ok).run C.P w = .ok (if ok then .tuple #[v, .bool true] else v) w := by
              simp only [Instr.typeAssert, Sem.run_bind, run_underlying hd, Result.andThen_ok]
              cases d <;> first | exact absurd rfl (hnot _) | simp
            have hex : (execOp ρc o).run C.P w = .ok (.value (if ok then .tuple #[v, .bool true] else v)) w := by
              simp [execOp, ho, hvx, hrun]
            cases ok with
            | true => exact upon_ok hex (H.same h ⟨[v, .bool true], rfl, heldA_ok hav, (Rel.tt : Rel g.I _ _), trivial⟩)
            | false => exact upon_ok hex (H.same h (heldA_ok hav))
          · exact h.elim
        · exact h.elim
    · exact h.elim
  · exact h.elim

theorem ok_binOp {op : BinOp} {T T' : Nat} {x y : Operand} (ho : o.op = .binOp op T x y T') (H : Here C o ρ ρc s φ π g w a next Q) (h : sem C o ρ s φ π) : o.uponIn (FR rr) nn C.P a next Q ((execOp ρc o).run C.P w) := by
  simp only [sem, ho] at h
  split at h
  · rename_i p q hx hy
    have hrx : Rel g.I _ _ := H.rho x _ hx
    have hvx : ρc x = p := by generalize ρc x = v at hrx; cases hrx; rfl
    have hry : Rel g.I _ _ := H.rho y _ hy
    have hvy : ρc y = q := by generalize ρc y = v at hry; cases hry; rfl
    have fin : ∀ r : Value, r.oneCell' = true → φ (.c (.v r)) s → (execOp ρc o).run C.P w = .ok (.value r) w → o.uponIn (FR rr) nn C.P a next Q ((execOp ρc o).run C.P w) :=
      fun r h1 h2 h3 => upon_ok h3 (H.same h2 (Rel.v r h1))
    split at h
    · have h' := h
      unfold cmpOp at h'
      split at h'
      · rename_i i hT
        split at h'
        · rename_i hc; exact fin _ rfl h' ((run_cmpA (w := w) (H.ty T i hT) ho hvx hvy (.inl rfl) hc).1 rfl)
        · rename_i hc; exact fin _ rfl h' ((run_cmpA (w := w) (H.ty T i hT) ho hvx hvy (.inr rfl) hc).2 rfl)
        · exact h'.elim
      · exact h'.elim
    rename_i hnil
    clear hnil
    have hg : ∀ (op : BinOp) (k k' : IntKind) (m n : Int), (eqGuard op T x y (.int k m) (.int k' n)).run C.P w = .ok () w := by
      intro op k k' m n; cases op <;> simp [eqGuard]
    have hgs : ∀ (op : BinOp) (m n : ByteArray), (eqGuard op T x y (.string m) (.string n)).run C.P w = .ok () w := by
      intro op m n; cases op <;> simp [eqGuard]
    unfold binA at h
    split at h
    · rename_i k m k2 n
      obtain ⟨h0, h⟩ := h
      refine fin _ rfl h ?_
      simp [execOp, ho, hvx, hvy, hg, Go.binOp, Op.shift, show ¬ n < 0 by omega]
    · rename_i k m k2 n
      obtain ⟨h0, h⟩ := h
      refine fin _ rfl h ?_
      simp [execOp, ho, hvx, hvy, hg, Go.binOp, Op.shift, show ¬ n < 0 by omega]
    · rename_i k m k' n hn1 hn2
      split at h
      · rename_i hk
        subst hk
        unfold intOp at h
        split at h
        case h_4 => obtain ⟨h0, h⟩ := h; exact fin _ rfl h (by simp [execOp, ho, hvx, hvy, hg, Go.binOp, Op.intDiv, h0])
        case h_5 => obtain ⟨h0, h⟩ := h; exact fin _ rfl h (by simp [execOp, ho, hvx, hvy, hg, Go.binOp, Op.intDiv, h0])
        all_goals first
          | exact h.elim
          | (refine fin _ rfl h ?_
             simp only [execOp, ho, hvx, hvy, Sem.run_bind, hg, Result.andThen_ok, Go.binOp, ne_eq, not_true_eq_false, if_false]
             rfl)
      · exact h.elim
    · rename_i m n
      unfold strOp at h
      split at h
      case h_1 =>
        obtain ⟨h0, h⟩ := h
        refine fin _ rfl h ?_
        have h0' : ¬ ((m.size + n.size : Nat) : Int) > IntKind.i64.max := by omega
        simp only [execOp, ho, hvx, hvy, Sem.run_bind, hgs, Result.andThen_ok, Go.binOp, Op.stringOp, if_neg h0']
        rfl
      all_goals first
        | exact h.elim
        | (refine fin _ rfl h ?_
           simp only [execOp, ho, hvx, hvy, Sem.run_bind, hgs, Result.andThen_ok, Go.binOp, Op.stringOp]
           rfl)
    · exact h.elim
  · exact h.elim

theorem ok_unOp {op : UnOp} {T : Nat} {x : Operand} (ho : o.op = .unOp op T x) (H : Here C o ρ ρc s φ π g w a next Q) (h : sem C o ρ s φ π) : o.uponIn (FR rr) nn C.P a next Q ((execOp ρc o).run C.P w) := by
  simp only [sem, ho] at h
  split at h
  · rename_i p hx
    have fin : ∀ (r : Value) (c : AC), Rel g.I c r → φ (.c c) s → (execOp ρc o).run C.P w = .ok (.value r) w → o.uponIn (FR rr) nn C.P a next Q ((execOp ρc o).run C.P w) :=
      fun r c h1 h2 h3 => upon_ok h3 (H.same h2 h1.toT)
    have hrx := H.rho x _ hx
    unfold unA at h
    split at h
    · have hr : Rel g.I _ _ := hrx
      have hv : ρc x = .bool true := by generalize ρc x = v at hr; cases hr; rfl
      exact fin (.bool false) _ .ff h (by simp [execOp, ho, hv, Op.unary])
    · have hr : Rel g.I _ _ := hrx
      have hv : ρc x = .bool false := by generalize ρc x = v at hr; cases hr; rfl
      exact fin (.bool true) _ .tt h (by simp [execOp, ho, hv, Op.unary])
    · rename_i b
      have hr : Rel g.I _ _ := hrx
      have hv : ρc x = .bool b := by generalize ρc x = v at hr; cases hr; rfl
      exact fin _ _ (.v _ rfl) h (by simp [execOp, ho, hv, Op.unary])
    · rename_i k n
      have hr : Rel g.I _ _ := hrx
      have hv : ρc x = .int k n := by generalize ρc x = v at hr; cases hr; rfl
      exact fin _ _ (.v _ rfl) h (by simp [execOp, ho, hv, Op.unary, Op.intArith])
    · rename_i k n
      have hr : Rel g.I _ _ := hrx
      have hv : ρc x = .int k n := by generalize ρc x = v at hr; cases hr; rfl
      exact fin _ _ (.v _ rfl) h (by simp [execOp, ho, hv, Op.unary, Op.intBits])
    · exact h.elim
  · exact h.elim

theorem ok_extract {x : Operand} {i : Nat} (ho : o.op = .extract x i) (H : Here C o ρ ρc s φ π g w a next Q) (h : sem C o ρ s φ π) : o.uponIn (FR rr) nn C.P a next Q ((execOp ρc o).run C.P w) := by
  simp only [sem, ho] at h
  split at h
  · rename_i xs hx
    split at h
    · rename_i v hi
      have hr : RelV g s.o (.tup xs) (ρc x) := H.rho x _ hx
      obtain ⟨ys, hv, hrs⟩ := hr
      have hget : ∀ (xs : List AV) (ys : List Value) (i : Nat) (v : AV), RelVs g s.o xs ys → xs[i]? = some v → ∃ y, ys[i]? = some y ∧ RelV g s.o v y := by
        intro xs
        induction xs with
        | nil => intro ys i v _ h; simp at h
        | cons x xs ih =>
          intro ys i v hr h
          cases ys with
          | nil => exact hr.elim
          | cons y ys =>
            cases i with
            | zero => simp at h; subst h; exact ⟨y, rfl, hr.1⟩
            | succ i => simpa using ih ys i v hr.2 (by simpa using h)
      obtain ⟨y, hy, hry⟩ := hget xs ys i v hrs hi
      exact upon_ok (by simp [execOp, ho, hv, Instr.extract, hy]) (H.same h hry)
    · exact h.elim
  · exact h.elim

theorem ok_panic {x : Operand} (ho : o.op = .panic x) (H : Here C o ρ ρc s φ π g w a next Q) (h : sem C o ρ s φ π) : o.uponIn (FR rr) nn C.P a next Q ((execOp ρc o).run C.P w) := by
  simp only [sem, ho] at h
  split at h
  · rename_i T v hx
    have hr : Rel g.I _ _ := H.rho x _ hx
    have hv : ρc x = .iface T v := by generalize ρc x = v at hr; cases hr; rfl
    have hrun : (execOp ρc o).run C.P w = .halt (.panic (.iface T v)) w := by simp [execOp, ho, hv, Instr.panic]
    rw [hrun]
    exact H.quit _ _ _ _ h (.refl _ _ _) H.sim
  · exact h.elim

theorem ok_makeInterface {T : Nat} {x : Operand} (ho : o.op = .makeInterface T x) (H : Here C o ρ ρc s φ π g w a next Q) (h : sem C o ρ s φ π) : o.uponIn (FR rr) nn C.P a next Q ((execOp ρc o).run C.P w) := by
  simp only [sem, ho] at h
  split at h
  · rename_i i v hT hx
    split at h
    · exact h.elim
    · rename_i hni
      split at h
      · rename_i y hy
        have hv := atomV_of (H.rho x v hx) hy
        obtain ⟨d, hd, hdok⟩ := (H.ty T _ hT).desc
        refine upon_ok (v := .iface T y) (w' := w) ?_ (H.same h (Rel.v _ rfl))
        have hni' : ∀ ms, d ≠ .interface ms := by
          intro ms e
          subst e
          cases hi : i.d with
          | iface => exact hni hi
          | struct fs => rw [hi] at hdok; obtain ⟨_, e, _⟩ := hdok; cases e
          | other => rw [hi] at hdok; exact hdok.elim
          | _ => rw [hi] at hdok; cases hdok
        simp only [execOp, ho, hv, Instr.makeInterface, Sem.run_bind, run_underlying hd, Result.andThen_ok]
        cases d <;> first | rfl | exact absurd rfl (hni' _)
      · exact h.elim
  · exact h.elim

theorem argsA_spec {ρ : Operand → Option AV} {ρc : Operand → Value} (hρ : ∀ x v, ρ x = some v → RelV g s.o v (ρc x)) : ∀ (l : List Operand) (k : List AV → Prop), argsA ρ l k →
    ∃ vs, k vs ∧ RelVs g s.o vs (l.map ρc)
  | [], k, h => ⟨[], h, trivial⟩
  | x :: r, k, h => by
    simp only [argsA] at h
    cases hx : ρ x with
    | none => rw [hx] at h; exact h.elim
    | some v =>
      rw [hx] at h
      obtain ⟨vs, h1, h2⟩ := argsA_spec hρ r _ h
      exact ⟨v :: vs, h1, hρ x v hx, h2⟩

theorem atomsV_of : ∀ {vs : List AV} {ys zs : List Value}, RelVs g s.o vs ys → sem.atomsV vs = some zs → ys = zs
  | [], [], zs, _, h => by simpa [sem.atomsV] using h
  | v :: vs, y :: ys, zs, h, ha => by
    cases v with
    | c x =>
      simp only [sem.atomsV] at ha
      split at ha
      · rename_i u us h1 h2
        cases ha
        rw [atom_of (o := s.o) (G := g) h.1 h1, atomsV_of h.2 h2]
      · cases ha
    | _ => simp [sem.atomsV] at ha
  | [], _ :: _, _, h, _ => h.elim
  | _ :: _, [], _, h, _ => h.elim

theorem cellsV_of : ∀ {vs : List AV} {ys : List Value} {cs : List AC}, RelVs g s.o vs ys → sem.cellsV vs = some cs → All2 (Rel g.I) cs ys
  | [], [], cs, _, h => by simp [sem.cellsV] at h; subst h; trivial
  | .c x :: vs, y :: ys, cs, hr, h => by
    simp only [sem.cellsV] at h
    split at h
    · rename_i zs h1 h2
      cases h
      exact ⟨RelT.share h1 hr.1, cellsV_of hr.2 h2⟩
    · cases h
  | .agg _ :: _, _ :: _, _, _, h => by simp [sem.cellsV] at h
  | .tup _ :: _, _ :: _, _, _, h => by simp [sem.cellsV] at h
  | [], _ :: _, _, hr, _ => hr.elim
  | _ :: _, [], _, hr, _ => hr.elim
theorem range_getD (l : List Value) : (List.range l.length).map (fun k => l.getD k undef) = l := by
  apply List.ext_getElem
  · simp
  · intro i h1 h2
    simp [List.getD_eq_getElem?_getD, List.getElem?_eq_getElem h2]
theorem rel_fn {I : Im} {fn : Fn} {p q : List Value} {x y : List AC} (hp : All2 (Rel I) x p) (hq : All2 (Rel I) y q) : Rel I (.fn fn x y) (.func fn p.toArray q.toArray) := by
  have h1 := Rel.fn (I := I) fn x y (fun k => p.getD k undef) (fun k => q.getD k undef) (fun k a hk => by
    obtain ⟨b, e, r⟩ := hp.get k a hk
    rw [List.getD_eq_getElem?_getD, e]; exact r) (fun k a hk => by
    obtain ⟨b, e, r⟩ := hq.get k a hk
    rw [List.getD_eq_getElem?_getD, e]; exact r)
  rwa [hp.length, hq.length, range_getD, range_getD] at h1
theorem ok_makeFunc {fn : Fn} {first cap : Array Operand} (ho : o.op = .makeFunc fn first cap) (H : Here C o ρ ρc s φ π g w a next Q) (h : sem C o ρ s φ π) : o.uponIn (FR rr) nn C.P a next Q ((execOp ρc o).run C.P w) := by
  simp only [sem, ho] at h
  obtain ⟨u, h, hu⟩ := argsA_spec H.rho _ _ h
  obtain ⟨v, h, hv⟩ := argsA_spec H.rho _ _ h
  split at h
  · rename_i x y hx hy
    have e1 := atomsV_of hu hx
    have e2 := atomsV_of hv hy
    refine upon_ok (v := .func fn x.toArray y.toArray) (w' := w) ?_ (H.same h (Rel.v _ rfl))
    have e1' : first.map ρc = x.toArray := by apply Array.ext'; rw [← e1]; exact Array.toList_map
    have e2' : cap.map ρc = y.toArray := by apply Array.ext'; rw [← e2]; exact Array.toList_map
    simp [execOp, ho, Instr.makeFunc, e1', e2']
  · split at h
    · rename_i x y hx hy
      have e1 := cellsV_of hu hx
      have e2 := cellsV_of hv hy
      refine upon_ok (v := .func fn (first.toList.map ρc).toArray (cap.toList.map ρc).toArray) (w' := w) ?_ (H.same h ((rel_fn e1 e2 : Rel g.I _ _).toT : RelT g s.o _ _))
      have e1' : first.map ρc = (first.toList.map ρc).toArray := by apply Array.ext'; exact Array.toList_map
      have e2' : cap.map ρc = (cap.toList.map ρc).toArray := by apply Array.ext'; exact Array.toList_map
      simp only [execOp, ho, Instr.makeFunc, e1', e2']; rfl
    · exact h.elim

theorem run_lenA {T : Nat} {i : TI} (ht : TIOk C.P T i) {v : AV} {y : Value} (hr : RelV g s.o v y) {ty : Nat} {k : AV → Prop} (h : lenA i.d v k) :
    ∃ n : Int, k (.c (.v (.int .i64 n))) ∧ (Builtin.len_ #[T] ty #[y]).run C.P w = .ok (.int .i64 n) w := by
  obtain ⟨d, hd, hdok⟩ := ht.desc
  generalize i.d = td at h hdok
  unfold lenA at h
  split at h
  · rename_i k str
    have hdok : d = .string := hdok
    subst hdok
    have hr' : Rel g.I _ _ := hr
    cases hr'
    exact ⟨str.size, h, by simp [Builtin.len_, run_underlying hd, goInt]⟩
  · rename_i k e sz rows
    have hdok : d = .slice e := hdok
    subst hdok
    have hr' : Rel g.I _ _ := hr
    cases hr' with
    | sl _ _ A c f a0 a1 a2 a3 a4 a5 => exact ⟨rows.length, h, by simp [Builtin.len_, run_underlying hd, goInt]⟩
  · rename_i k e n sz rows
    have hdok : d = .slice e := hdok
    subst hdok
    have hr' : RelT g s.o (.own n sz rows) y := hr
    have hr'' := hr'.1
    cases hr'' with
    | sl _ _ A c f a0 a1 a2 a3 a4 a5 => exact ⟨rows.length, h, by simp [Builtin.len_, run_underlying hd, goInt]⟩
  · rename_i k e
    have hdok : d = .slice e := hdok
    subst hdok
    have hr' : Rel g.I _ _ := hr
    cases hr'
    exact ⟨0, h, by simp [Builtin.len_, run_underlying hd, goInt]⟩
  · rename_i k e b off len cap
    have hdok : d = .slice e := hdok
    subst hdok
    have hr' : Rel g.I _ _ := hr
    cases hr'
    exact ⟨len, h, by simp [Builtin.len_, run_underlying hd, goInt]⟩
  · exact h.elim

theorem ok_len {args : Array Operand} {tys : Array TypeId} (ho : o.op = .call { callee := .builtin .len, args := args, argTypes := tys }) (H : Here C o ρ ρc s φ π g w a next Q) (h : sem C o ρ s φ π) : o.uponIn (FR rr) nn C.P a next Q ((execOp ρc o).run C.P w) := by
  simp only [sem, ho] at h
  split at h
  · rename_i x T hargs htys
    split at h
    · rename_i v i hx hT
      have e1 : args = #[x] := by rw [← Array.toArray_toList (xs := args), hargs]
      have e2 : tys = #[T] := by rw [← Array.toArray_toList (xs := tys), htys]
      subst e1 e2
      obtain ⟨n, h1, h3⟩ := run_lenA (C := C) (w := w) (ty := o.type) (H.ty T i hT) (H.rho x v hx) h
      refine upon_ok (v := .int .i64 n) (w' := w) ?_ (H.same h1 (Rel.v _ rfl))
      simp [execOp, ho, resolve, invoke, Go.builtin, h3]
    · exact h.elim
  · exact h.elim

theorem ok_maxmin {args : Array Operand} {tys : Array TypeId} (big : Bool) (ho : o.op = .call { callee := .builtin (if big then .max else .min), args := args, argTypes := tys }) (H : Here C o ρ ρc s φ π g w a next Q) (h : argsA ρ args.toList fun l => maxA big l fun r => φ r s) : o.uponIn (FR rr) nn C.P a next Q ((execOp ρc o).run C.P w) := by
  obtain ⟨vs, h, hr⟩ := argsA_spec H.rho _ _ h
  unfold maxA at h
  split at h
  · rename_i k x k' y
    have h2 : args.toList.map ρc = [.int k x, .int k' y] := by
      generalize args.toList.map ρc = l at hr
      match l, hr with
      | [p, q], hr =>
        have r1 : Rel g.I _ _ := hr.1
        have r2 : Rel g.I _ _ := hr.2.1
        cases r1; cases r2; rfl
      | [], hr => exact hr.elim
      | [_], hr => exact hr.2.elim
      | _ :: _ :: _ :: _, hr => exact hr.2.2.elim
    have h3 : args.map ρc = #[.int k x, .int k' y] := by
      apply Array.ext'; simpa using h2
    cases big
    · exact upon_ok (v := .int k (if y < x then y else x)) (w' := w) (by simp [execOp, ho, resolve, invoke, Go.builtin, h3, Builtin.min_, Builtin.min2]) (H.same h (Rel.v _ rfl))
    · exact upon_ok (v := .int k (if y > x then y else x)) (w' := w) (by simp [execOp, ho, resolve, invoke, Go.builtin, h3, Builtin.max_, Builtin.max2]) (H.same h (Rel.v _ rfl))
  · exact h.elim
/-! ### Maps of booleans by strings -/
theorem find_s (key : ByteArray) : ∀ (es : List (ByteArray × Bool)) (l : List MapEntry) (i : Nat), l.map (fun e => (e.key, e.val)) = es.map (fun x => (Value.string x.1, Value.bool x.2)) →
    (snew es key = true ∧ slook es key = false ∧ Instr.findNow .string (.string key) l i = some none) ∨ (snew es key = false ∧ ∃ j, Instr.findNow .string (.string key) l i = some (some (j, .bool (slook es key))))
  | [], [], i, _ => .inl ⟨rfl, rfl, rfl⟩
  | [], _ :: _, i, h => by simp at h
  | _ :: _, [], i, h => by simp at h
  | (k, v) :: es, e :: l, i, h => by
    simp only [List.map_cons, List.cons.injEq, Prod.mk.injEq] at h
    obtain ⟨⟨hk, hv⟩, h⟩ := h
    by_cases hkk : (key == k) = true
    · exact .inr ⟨by simp only [snew, hkk, if_true], i, by simp only [Instr.findNow, Instr.sameNow, hk, hkk, hv, slook, if_true]⟩
    · have hkk : (key == k) = false := by simpa using hkk
      rcases find_s key es l (i + 1) h with ⟨h1, h2, h3⟩ | ⟨h1, j, h3⟩
      · exact .inl ⟨by simp only [snew, hkk, h1]; rfl, by simp only [slook, hkk, h2]; rfl, by simp only [Instr.findNow, Instr.sameNow, hk, hkk]; exact h3⟩
      · exact .inr ⟨by simp only [snew, hkk, h1]; rfl, j, by simp only [Instr.findNow, Instr.sameNow, hk, hkk, slook]; exact h3⟩

theorem ok_makeMap {T : Nat} {r : Option Operand} (ho : o.op = .makeMap T r) (H : Here C o ρ ρc s φ π g w a next Q) (h : sem C o ρ s φ π) : o.uponIn (FR rr) nn C.P a next Q ((execOp ρc o).run C.P w) := by
  cases r with
  | some x => simp [sem, ho] at h
  | none =>
    simp only [sem, ho] at h
    obtain ⟨hn, g', hx, hs'⟩ := H.sim.addMap
    refine upon_ok (v := .map (some w.heap.size)) (w' := w.alloc (.map #[] 0)) ?_ (H.next _ _ _ _ _ (h _ hn) hx hs' (.v _ rfl))
    simp [execOp, ho, Instr.makeMap]

theorem ok_lookup {T : Nat} {m k : Operand} {ok : Bool} (ho : o.op = .lookup T m k ok) (H : Here C o ρ ρc s φ π g w a next Q) (h : sem C o ρ s φ π) : o.uponIn (FR rr) nn C.P a next Q ((execOp ρc o).run C.P w) := by
  cases ok with
  | true => simp [sem, ho] at h
  | false =>
    simp only [sem, ho] at h
    split at h
    · rename_i kt et _ _ _ b key hT hm hk
      split at h
      · rename_i hkt het
        obtain ⟨es, hb, h⟩ := h
        obtain ⟨d, hu, hd⟩ := (H.ty T _ hT).desc
        have hd : d = .map kt et := hd
        subst hd
        obtain ⟨dk, huk, hdk⟩ := (H.ty kt _ hkt).desc
        have hdk : dk = .string := hdk
        subst hdk
        obtain ⟨_, _, arr, clock, h1, h2⟩ := H.sim.glob b _ hb
        have hrm : Rel g.I _ _ := H.rho m _ hm
        have hrk : Rel g.I _ _ := H.rho k _ hk
        have hvm : ρc m = .map (some b) := by generalize ρc m = v at hrm; cases hrm; rfl
        have hvk : ρc k = .string key := by generalize ρc k = v at hrk; cases hrk; rfl
        obtain ⟨info, z, e1, e2, e3, e4, e5, e6⟩ := (H.ty et _ het).info
        have hz : z = .bool false := by
          cases z with
          | agg cs => simp [TI.agg] at e5
          | tuple cs => exact e5.elim
          | _ => 
            have e7 : Rel (fun _ _ => none) AC.ff _ := e6.1
            first | (cases e7; done) | (cases e7; rfl)
        have hz0 : (zeroValue et).run C.P w = .ok (.bool false) w := by simp [zeroValue, typeInfo, e1, e4, hz]
        have hrun : (Instr.lookup T (.map (some b)) (.string key) false).run C.P w = .ok (.bool (slook es key)) w := by
          rcases find_s key es arr.toList 0 h2 with ⟨_, g2, g3⟩ | ⟨_, j, g3⟩
          · simp [Instr.lookup, run_underlying hu, MapKept.run_getObj_map h1, MapKept.run_checkKey huk (show MapKept.IsKey .string (.string key) from trivial), MapKept.run_findKey huk g3, hz0, g2]
          · simp [Instr.lookup, run_underlying hu, MapKept.run_getObj_map h1, MapKept.run_checkKey huk (show MapKept.IsKey .string (.string key) from trivial), MapKept.run_findKey huk g3]
        refine upon_ok (v := .bool (slook es key)) (w' := w) ?_ (H.same h (Rel.v _ rfl))
        simp [execOp, ho, hvm, hvk, hrun]
      · exact h.elim
    · exact h.elim

theorem ok_mapUpdate {T : Nat} {m k x : Operand} (ho : o.op = .mapUpdate T m k x) (H : Here C o ρ ρc s φ π g w a next Q) (h : sem C o ρ s φ π) : o.uponIn (FR rr) nn C.P a next Q ((execOp ρc o).run C.P w) := by
  simp only [sem, ho] at h
  split at h
  · rename_i kt et _ _ _ b key x' hT hm hk hx
    split at h
    · rename_i t hkt hxt
      obtain ⟨es, ⟨hb, hn⟩, h⟩ := h
      obtain ⟨d, hu, hd⟩ := (H.ty T _ hT).desc
      have hd : d = .map kt et := hd
      subst hd
      obtain ⟨dk, huk, hdk⟩ := (H.ty kt _ hkt).desc
      have hdk : dk = .string := hdk
      subst hdk
      obtain ⟨hlt, _, arr, clock, h1, h2⟩ := H.sim.glob b _ hb
      have hrm : Rel g.I _ _ := H.rho m _ hm
      have hrk : Rel g.I _ _ := H.rho k _ hk
      have hvm : ρc m = .map (some b) := by generalize ρc m = v at hrm; cases hrm; rfl
      have hvk : ρc k = .string key := by generalize ρc k = v at hrk; cases hrk; rfl
      have hvx : ρc x = .bool t := atom_of (H.rho x _ hx) hxt
      let w' : World := { w with heap := w.heap.setIfInBounds b (.map (arr.push { key := .string key, val := .bool t, born := clock }) (clock + 1)) }
      have hrun : (Instr.mapUpdate T (.map (some b)) (.string key) (.bool t)).run C.P w = .ok () w' := by
        rcases find_s key es arr.toList 0 h2 with ⟨_, g2, g3⟩ | ⟨g1, j, g3⟩
        · simp [Instr.mapUpdate, run_underlying hu, MapKept.run_getObj_map h1, MapKept.run_checkKey huk (show MapKept.IsKey .string (.string key) from trivial), MapKept.run_findKey huk g3, MapKept.run_setObj_map _ h1, w']
        · rw [hn] at g1; cases g1
      obtain ⟨hx', hs'⟩ := H.sim.setMap (w' := w') (es := es ++ [(key, t)]) (arr := arr.push { key := .string key, val := .bool t, born := clock }) (clock := clock + 1) hb rfl rfl rfl (by simp [w']) (fun q hq => by simp [w', Array.getElem?_setIfInBounds, Ne.symm hq]) (by simp [w', Array.getElem?_setIfInBounds, hlt]) (by simp [h2])
      exact upon_skip' (by simp [execOp, ho, hvm, hvk, hvx, hrun]) (H.next _ _ _ _ _ h hx' hs' ⟨[], rfl, trivial⟩)
    · exact h.elim
  · exact h.elim
end
end Go.Proofs.YtdgjpncflkpjfaaDoor.Aw
