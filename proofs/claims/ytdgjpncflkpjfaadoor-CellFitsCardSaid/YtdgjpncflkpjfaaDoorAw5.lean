/- The abstract machine, fifth part: the rest of the operations, and all of them together. -/
import Derived.Test.YtdgjpncflkpjfaaDoorAw4
import Derived.Laws.Tables
import Derived.Laws.BytesArg
import Derived.Laws.BytesString
import Derived.Laws.Strings
import Derived.Lib.ConvBytes
set_option linter.unusedVariables false
set_option linter.unusedSimpArgs false
namespace Go.Proofs.YtdgjpncflkpjfaaDoor.Aw

section
variable {rr : Option Nat} {nn : Nat} {C : Cfg} {o : Oper} {ρ : Operand → Option AV} {ρc : Operand → Value} {s : S} {φ : K1} {π : Value → S → Prop} {g : G} {w : World} {a : Act} {next : Act → World → Prop} {Q : Exit → Act → World → Prop}

theorem fold_set (off : Nat) : ∀ (vs : List Value) (k : Nat) (cells : Array Value), off + k + vs.length ≤ cells.size →
    ((vs.zipIdx k).foldl (fun (cs : Array Value) (x : Value × Nat) => cs.setIfInBounds (off + x.2) x.1) cells).toList = cells.toList.take (off + k) ++ vs ++ cells.toList.drop (off + k + vs.length)
  | [], k, cells, h => by simp
  | v :: vs, k, cells, h => by
    simp only [List.zipIdx_cons, List.foldl_cons]
    rw [fold_set off vs (k + 1) _ (by simp at h ⊢; omega)]
    have := list_seg_step cells.toList (off + k) v vs (by simp at h ⊢; omega)
    simpa [Array.toList_setIfInBounds, Nat.add_assoc] using this

theorem fill_step (place : Nat → Option (Nat × Nat)) (cells : Array Value) (i off sz : Nat) (v : Value) (rest : List (Nat × Value)) (hp : place i = some (off, sz)) (hv : v.cells.size = sz) (hl : off + sz ≤ cells.size) :
    Instr.fill place cells ((i, v) :: rest) = Instr.fill place (cells.toList.take off ++ v.cells.toList ++ cells.toList.drop (off + v.cells.toList.length)).toArray rest := by
  simp only [Instr.fill, hp]
  rw [if_neg (by simp; omega)]
  congr 1
  apply Array.ext'
  rw [← Array.foldl_toList, Array.toList_zipIdx]
  have := fold_set off v.cells.toList 0 cells (by simp; omega)
  simpa using this

theorem fillA_ok {fs : List (Nat × Nat × Nat)} {place : Nat → Option (Nat × Nat)} (hp : ∀ i x, fs[i]? = some x → place i = some (x.2.1, x.2.2)) (hpos : ∀ x ∈ fs, 0 < x.2.2) :
    ∀ (l : List (Nat × AV)) (lc : List (Nat × Value)) (cs cs' : List AC) (ys : List Value), l.map (·.1) = lc.map (·.1) → RelVs g s.o (l.map (·.2)) (lc.map (·.2)) → All2 (RelT g s.o) cs ys → fillA fs cs l = some cs' →
    ∃ ys', Instr.fill place ys.toArray lc = some ys'.toArray ∧ All2 (RelT g s.o) cs' ys'
  | [], [], cs, cs', ys, _, _, hc, h => by simp [fillA] at h; subst h; exact ⟨ys, rfl, hc⟩
  | (i, v) :: l, (j, y) :: lc, cs, cs', ys, hi, hr, hc, h => by
    simp only [List.map_cons, List.cons.injEq] at hi
    obtain ⟨hij, hi⟩ := hi
    subst hij
    simp only [fillA] at h
    split at h
    · rename_i ft off sz hf
      split at h
      · rename_i hfit
        have hsz : 0 < sz := hpos _ (List.mem_of_getElem? hf)
        have hvc : All2 (RelT g s.o) v.cells y.cells.toList := RelV.cells' hr.1 hfit.1 hsz
        have hlen := hvc.length
        have hcl := hc.length
        obtain ⟨ys', h1, h2⟩ := fillA_ok hp hpos l lc _ cs' _ hi hr.2 (All2.setR off hc hvc (by omega)) h
        refine ⟨ys', ?_, h2⟩
        rw [fill_step place ys.toArray i off sz y lc (hp _ _ hf) (by simp at hlen; omega) (by simp; omega)]
        exact h1
      · cases h
    · cases h
  | [], _ :: _, _, _, _, hi, _, _, _ => by simp at hi
  | _ :: _, [], _, _, _, hi, _, _, _ => by simp at hi

theorem partsA_spec {ρ : Operand → Option AV} {ρc : Operand → Value} (hρ : ∀ x v, ρ x = some v → RelV g s.o v (ρc x)) : ∀ (l : List (Nat × Operand)) (k : List (Nat × AV) → Prop), partsA ρ l k →
    ∃ vs, k vs ∧ vs.map (·.1) = l.map (·.1) ∧ RelVs g s.o (vs.map (·.2)) (l.map fun x => ρc x.2)
  | [], k, h => ⟨[], h, rfl, trivial⟩
  | (i, x) :: r, k, h => by
    simp only [partsA] at h
    cases hx : ρ x with
    | none => rw [hx] at h; exact h.elim
    | some v =>
      rw [hx] at h
      obtain ⟨vs, h1, h2, h3⟩ := partsA_spec hρ r _ h
      exact ⟨(i, v) :: vs, h1, by simp [h2], hρ x v hx, h3⟩

theorem ok_build {T : Nat} {parts : Array (Nat × Operand)} (ho : o.op = .build T parts) (H : Here C o ρ ρc s φ π g w a next Q) (h : sem C o ρ s φ π) : o.uponIn (FR rr) nn C.P a next Q ((execOp ρc o).run C.P w) := by
  simp only [sem, ho] at h
  split at h
  · rename_i fs sz0 by0 z0 hT
    obtain ⟨vs, h, e1, e2⟩ := partsA_spec H.rho _ _ h
    split at h
    · rename_i cs hf
      rw [forceL_eq] at h
      obtain ⟨info, z, q1, q2, q3, q4, q5, q6⟩ := (H.ty T _ hT).info
      obtain ⟨d, hd, fields, hdf, hm, hin⟩ := (H.ty T _ hT).desc
      subst hdf
      have hz0 : All2 (RelT g s.o) z0 z.cells.toList := (All2.mono (fun _ _ h => Rel.mono (fun _ _ _ h => by cases h) h) q6 : All2 (Rel g.I) _ _).toT
      have hplaces : fields.toList.mapM (fun f => (C.P.info? f.type).map fun i => (f.offset, i.size)) = some (fs.map fun x => (x.2.1, x.2.2)) := by
        have : ∀ (l : List Field) (fs : List (Nat × Nat × Nat)), l.map (fun f => (f.type, f.offset)) = fs.map (fun x => (x.1, x.2.1)) → (∀ x ∈ fs, 0 < x.2.2 ∧ (C.P.info? x.1).map (·.size) = some x.2.2) →
            l.mapM (fun f => (C.P.info? f.type).map fun i => (f.offset, i.size)) = some (fs.map fun x => (x.2.1, x.2.2)) := by
          intro l
          induction l with
          | nil => intro fs h1 h2; cases fs with
            | nil => rfl
            | cons _ _ => simp at h1
          | cons f l ih =>
            intro fs h1 h2
            cases fs with
            | nil => simp at h1
            | cons x fs =>
              simp only [List.map_cons, List.cons.injEq, Prod.mk.injEq] at h1
              have h3 := (h2 x (by simp)).2
              rw [← h1.1.1, Option.map_eq_some_iff] at h3
              obtain ⟨i, h4, h5⟩ := h3
              rw [List.mapM_cons, ih fs h1.2 (fun y hy => h2 y (by simp [hy]))]
              simp [h4, h5, h1.1.2]
        exact this _ _ hm hin
      obtain ⟨ys', k1, k2⟩ := fillA_ok (g := g) (s := s) (fs := fs) (place := ((fs.map fun x => (x.2.1, x.2.2)).toArray[·]?)) (by intro i x hx; simp [hx]) (fun x hx => (hin x hx).1) vs (parts.map fun (i, x) => (i, ρc x)).toList z0 cs z.cells.toList
        (by simpa [List.map_map, Function.comp_def] using e1) (by simpa [List.map_map, Function.comp_def] using e2) hz0 hf
      have hb : C.P.built T (parts.map fun (i, x) => (i, ρc x)).toList = some ys'.toArray := by
        simp only [Program.built, q1, hd, q4, hplaces]
        simpa using k1
      refine upon_ok (v := .agg ys'.toArray) (w' := w) ?_ (H.same h ⟨ys', rfl, k2⟩)
      have := run_build (P := C.P) w T (parts.map fun (i, x) => (i, ρc x)) ys'.toArray hb
      simp [execOp, ho, this]
    · exact h.elim
  · rename_i n e sz0 by0 z0 hT
    split at h
    · rename_i ie hie
      split at h
      · rename_i hpos
        have hpos : 0 < ie.size := Nat.le_of_ble_eq_true hpos
        obtain ⟨vs, h, e1, e2⟩ := partsA_spec H.rho _ _ h
        split at h
        · rename_i cs hf
          rw [forceL_eq] at h
          obtain ⟨info, z, q1, q2, q3, q4, q5, q6⟩ := (H.ty T _ hT).info
          obtain ⟨infe, ze, p1, p2, p3, p4, p5, p6⟩ := (H.ty e _ hie).info
          obtain ⟨d, hd, hdf⟩ := (H.ty T _ hT).desc
          have hdf : d = .array n e := hdf
          subst hdf
          have hz0 : All2 (RelT g s.o) z0 z.cells.toList := (All2.mono (fun _ _ h => Rel.mono (fun _ _ _ h => by cases h) h) q6 : All2 (Rel g.I) _ _).toT
          obtain ⟨ys', k1, k2⟩ := fillA_ok (g := g) (s := s) (fs := arrFs e ie.size n 0) (place := fun i => some (i * ie.size, ie.size)) (by intro i x hx; rw [arrFs_get e ie.size n 0 i x hx]; simp) (fun x hx => by
              obtain ⟨k, hk, rfl⟩ := List.mem_iff_getElem.1 hx
              rw [arrFs_get e ie.size n 0 k _ (List.getElem?_eq_getElem hk)]; exact hpos) vs (parts.map fun (i, x) => (i, ρc x)).toList z0 cs z.cells.toList
            (by simpa [List.map_map, Function.comp_def] using e1) (by simpa [List.map_map, Function.comp_def] using e2) hz0 hf
          have hb : C.P.built T (parts.map fun (i, x) => (i, ρc x)).toList = some ys'.toArray := by
            simp only [Program.built, q1, hd, q4, p1, p2]
            simpa using k1
          refine upon_ok (v := .agg ys'.toArray) (w' := w) ?_ (H.same h ⟨ys', rfl, k2⟩)
          have := run_build (P := C.P) w T (parts.map fun (i, x) => (i, ρc x)) ys'.toArray hb
          simp [execOp, ho, this]
        · exact h.elim
      · exact h.elim
    · exact h.elim
  · exact h.elim

theorem run_partOf {T : Nat} {i : TI} (ht : TIOk C.P T i) {off : Nat} {cs : List AC} {ys : List Value} (hl : All2 (RelT g s.o) cs ys) {k : AV → Prop} (h : loadOf i (cs.drop off) k) :
    ∃ v y, k v ∧ (part T ys.toArray off).run C.P w = .ok y w ∧ RelV g s.o v y := by
  obtain ⟨info, z, h1, h2, h3, h4, h5, h6⟩ := ht.info
  obtain ⟨d, hd, hdok⟩ := ht.desc
  have hag : (isAgg T).run C.P w = .ok i.agg w := by
    unfold isAgg
    rw [Sem.run_bind, run_underlying hd w]
    cases hi : i.d with
    | struct fs => rw [hi] at hdok; obtain ⟨fields, rfl, _⟩ := hdok; simp [TI.agg, hi]
    | arr n e => rw [hi] at hdok; cases hdok; simp [TI.agg, hi]
    | other => rw [hi] at hdok; cases d <;> first | exact hdok.elim | simp [TI.agg, hi]
    | iface => rw [hi] at hdok; obtain ⟨ms, rfl⟩ := hdok; simp [TI.agg, hi]
    | _ => rw [hi] at hdok; cases hdok; simp [TI.agg, hi]
  unfold loadOf at h
  by_cases ha : i.agg = true
  · rw [if_pos ha] at h
    split at h
    · rename_i hle
      have hle : i.size ≤ (cs.drop off).length := Nat.le_of_ble_eq_true hle
      rw [forceL_eq] at h
      have hr := (hl.drop off).take i.size
      refine ⟨_, .agg ((ys.drop off).take i.size).toArray, h, ?_, ⟨_, rfl, hr⟩⟩
      rw [ha] at hag
      simp [part, Sem.run_bind, hag, sizeOf, typeInfo, h1, h2]
    · exact h.elim
  · rw [if_neg ha] at h
    split at h
    · rename_i x rest hcs
      have hx : (cs.drop off)[0]? = some x := by rw [hcs]; rfl
      rw [List.getElem?_drop] at hx
      obtain ⟨y, e1, e2⟩ := hl.get off x (by simpa using hx)
      refine ⟨_, y, h, ?_, e2⟩
      have ha' : i.agg = false := by simpa using ha
      rw [ha'] at hag
      simp [part, Sem.run_bind, hag, e1]
    · exact h.elim

theorem ok_index {T : Nat} {x ix : Operand} (ho : o.op = .index T x ix) (H : Here C o ρ ρc s φ π g w a next Q) (h : sem C o ρ s φ π) : o.uponIn (FR rr) nn C.P a next Q ((execOp ρc o).run C.P w) := by
  simp only [sem, ho] at h
  split at h
  · rename_i sz0 by0 z0 b k n hT hx hi
    obtain ⟨⟨h0, h1⟩, h⟩ := h
    have hri : Rel g.I _ _ := H.rho ix _ hi
    have hvi : ρc ix = .int k n := by generalize ρc ix = v at hri; cases hri; rfl
    have hrx : Rel g.I _ _ := H.rho x _ hx
    have hvx : ρc x = .string b := by generalize ρc x = v at hrx; cases hrx; rfl
    obtain ⟨d, hd, hdok⟩ := (H.ty T _ hT).desc
    have hdok : d = .string := hdok
    subst hdok
    obtain ⟨y, hy, hyb⟩ := bt_get b n h0 h1
    refine upon_ok (v := .int .u8 (bt b n)) (w' := w) ?_ (H.same h (Rel.v _ rfl))
    simp [execOp, ho, hvi, hvx, Instr.index, asIntOf, run_underlying hd, h0, hy, hyb]
  · rename_i len e sz0 by0 z0 cs k n hT hx hi
    split at h
    · rename_i ie hie
      obtain ⟨hc, h⟩ := h
      obtain ⟨info, z, q1, q2, q3, q4, q5, q6⟩ := (H.ty e ie hie).info
      have hri : Rel g.I _ _ := H.rho ix _ hi
      have hvi : ρc ix = .int k n := by generalize ρc ix = v at hri; cases hri; rfl
      have hr : RelV g s.o (.agg cs) (ρc x) := H.rho x _ hx
      obtain ⟨ys, hv, hys⟩ := hr
      obtain ⟨d, hd, hdok⟩ := (H.ty T _ hT).desc
      have hdok : d = .array len e := hdok
      subst hdok
      obtain ⟨v, y, h1, h2, h3⟩ := run_partOf (C := C) (w := w) (H.ty e ie hie) hys h
      refine upon_ok (v := y) (w' := w) ?_ (H.same h1 h3)
      simp [execOp, ho, hvi, hv, Instr.index, asIntOf, run_underlying hd, sizeOf, typeInfo, q1, q2, hc, h2]
    · exact h.elim
  · exact h.elim

theorem ok_field {T f : Nat} {x : Operand} (ho : o.op = .field T x f) (H : Here C o ρ ρc s φ π g w a next Q) (h : sem C o ρ s φ π) : o.uponIn (FR rr) nn C.P a next Q ((execOp ρc o).run C.P w) := by
  simp only [sem, ho] at h
  split at h
  · rename_i fs sz by' z hT
    split at h
    · rename_i ft off fsz hf
      obtain ⟨fields, fd, e1, e2, e3, e4, e5, info, e6, e7⟩ := struct_field (H.ty T _ hT) hf
      split at h
      · rename_i cs i hx hft
        have hr : RelV g s.o (.agg cs) (ρc x) := H.rho x _ hx
        obtain ⟨ys, hv, hys⟩ := hr
        obtain ⟨v, y, h1, h2, h3⟩ := run_partOf (C := C) (w := w) (H.ty ft i hft) hys h
        refine upon_ok (v := y) (w' := w) ?_ (H.same h1 h3)
        subst e3 e4
        simp [execOp, ho, hv, Instr.field, run_underlying e1, e2, asAgg, h2]
      · exact h.elim
    · exact h.elim
  · exact h.elim

theorem ok_slice {T : Nat} {x : Operand} {lo hi mx : Option Operand} (ho : o.op = .slice T x lo hi mx) (H : Here C o ρ ρc s φ π g w a next Q) (h : sem C o ρ s φ π) : o.uponIn (FR rr) nn C.P a next Q ((execOp ρc o).run C.P w) := by
  cases mx with
  | some m => simp [sem, ho] at h
  | none =>
    simp only [sem, ho] at h
    -- the lower bound
    have low : ∀ (k : IntKind) (l : Int) (y : Nat) (code : BoundsCode), (match lo with | none => some (AV.c (.v (.int .i64 0))) | some y => ρ y) = some (.c (.v (.int k l))) → 0 ≤ l → l ≤ y →
        (match lo.map ρc with | some v => Instr.sliceBound v y code | none => pure 0).run C.P w = .ok l.toNat w := by
      intro k l y code hlo h0 h1
      cases lo with
      | none => simp at hlo; obtain ⟨_, rfl⟩ := hlo; simp
      | some u =>
        have hr : Rel g.I _ _ := H.rho u _ hlo
        have hv : ρc u = .int k l := by generalize ρc u = v at hr; cases hr; rfl
        simp [hv, Instr.sliceBound, asIntOf, h0, h1]
    split at h
    · rename_i e by0 z0 b kl l hT hx hlo
      obtain ⟨d, hd, hdok⟩ := (H.ty T _ hT).desc
      have hdok : d = .string := hdok
      subst hdok
      have hrx : Rel g.I _ _ := H.rho x _ hx
      have hvx : ρc x = .string b := by generalize ρc x = v at hrx; cases hrx; rfl
      have fin : ∀ (hn : Nat), (match hi.map ρc with | some v => Instr.sliceBound v b.size (if false then .sliceAcap else .sliceAlen) | none => pure b.size).run C.P w = .ok hn w → 0 ≤ l → l ≤ hn → φ (.c (.v (.string (b.extract l.toNat hn)))) s → o.uponIn (FR rr) nn C.P a next Q ((execOp ρc o).run C.P w) := by
        intro hn hh h0 h1 h
        refine upon_ok (v := .string (b.extract l.toNat hn)) (w' := w) ?_ (H.same h (Rel.v _ rfl))
        have hl := low kl l hn .sliceB hlo h0 h1
        simp only [execOp, ho, hvx, Instr.sliceAt, Sem.run_bind, run_underlying hd, Result.andThen_ok, Instr.slice, Instr.sliceBounds, Option.map_none]
        cases hi <;> cases lo <;> simp_all
      split at h
      · obtain ⟨⟨h0, h1⟩, h⟩ := h
        exact fin b.size (by simp) h0 h1 h
      · rename_i u
        split at h
        · rename_i ku hu hρu
          obtain ⟨⟨h0, h1, h2⟩, h⟩ := h
          have hr : Rel g.I _ _ := H.rho u _ hρu
          have hv : ρc u = .int ku hu := by generalize ρc u = v at hr; cases hr; rfl
          refine fin hu.toNat ?_ h0 (by omega) h
          have : 0 ≤ hu := by omega
          simp [hv, Instr.sliceBound, asIntOf, this, h2]
        · exact h.elim
    · rename_i e sz0 by0 z0 x' kl l hT hx hlo
      split at h
      · rename_i sz rows ie hsh hie
        split at h
        · rename_i hsz
          obtain ⟨d, hd, hdok⟩ := (H.ty T _ hT).desc
          have hdok : d = .slice e := hdok
          subst hdok
          obtain ⟨info, z, q1, q2, q3, q4, q5, q6⟩ := (H.ty e ie hie).info
          have hr : Rel g.I (.sl sz rows) (ρc x) := by
            have hrt : RelT g s.o x' (ρc x) := H.rho x _ hx
            have : x'.noloc = true := by cases x' <;> first | rfl | simp [AC.share] at hsh
            have := hrt.share this
            rwa [hsh] at this
          generalize hv : ρc x = v at hr
          cases hr with
          | sl _ _ A c f a0 a1 a2 a3 a4 a5 =>
            have fin : ∀ (hn : Nat), hn ≤ rows.length → (match hi.map ρc with | some v => Instr.sliceBound v c (if true then .sliceAcap else .sliceAlen) | none => pure rows.length).run C.P w = .ok hn w → 0 ≤ l → l ≤ hn → φ (.c (.sl sz ((rows.take hn).drop l.toNat))) s → o.uponIn (FR rr) nn C.P a next Q ((execOp ρc o).run C.P w) := by
              intro hn hnl hh h0 h1 h
              have hl := low kl l hn .sliceB hlo h0 h1
              refine upon_ok (v := .slice (if c = l.toNat then A else A.map (·.add (l.toNat * info.size))) (hn - l.toNat) (c - l.toNat)) (w' := w) ?_ (H.same h ?_)
              · simp only [execOp, ho, hv, Instr.sliceAt, Sem.run_bind, run_underlying hd, Result.andThen_ok, Instr.slice, Instr.sliceBounds, Option.map_none, sizeOf, typeInfo]
                cases hi <;> cases lo <;> simp_all
              · have hlen : ((rows.take hn).drop l.toNat).length = hn - l.toNat := by simp; omega
                rw [← hlen]
                refine Rel.sl sz _ _ _ (fun i k => f (l.toNat + i) k) a0 (by rw [hlen]; omega) (by rw [hlen]; omega) (fun r hr => a3 r (List.mem_of_mem_take (List.mem_of_mem_drop hr))) ?_ ?_
                · intro i r k y hri hk
                  rw [List.getElem?_drop, List.getElem?_take] at hri
                  split at hri
                  · rename_i hlt
                    obtain ⟨b, off, hA, hI⟩ := a4 (l.toNat + i) r k y hri hk
                    have hc : ¬ c = l.toNat := by have := (List.getElem?_eq_some_iff.1 hri).1; omega
                    refine ⟨b, off + l.toNat * sz, by simp [hc, hA, add_at, q2, hsz], ?_⟩
                    rw [← hI]
                    congr 1
                    rw [Nat.add_mul]; omega
                  · cases hri
                · intro i r k y hri hk
                  rw [List.getElem?_drop, List.getElem?_take] at hri
                  split at hri
                  · exact a5 _ _ _ _ hri hk
                  · cases hri
            split at h
            · obtain ⟨⟨h0, h1⟩, h⟩ := h
              exact fin rows.length (Nat.le_refl _) (by simp) h0 h1 (by simpa using h)
            · rename_i u
              split at h
              · rename_i ku hu hρu
                obtain ⟨⟨h0, h1, h2⟩, h⟩ := h
                have hr : Rel g.I _ _ := H.rho u _ hρu
                have hvu : ρc u = .int ku hu := by generalize ρc u = v at hr; cases hr; rfl
                refine fin hu.toNat (by omega) ?_ h0 (by omega) h
                have h3 : 0 ≤ hu := by omega
                have h4 : hu ≤ (c : Int) := by omega
                simp [hvu, Instr.sliceBound, asIntOf, h3, h4]
              · exact h.elim
        · exact h.elim
      · exact h.elim
    · exact h.elim

theorem ok_convert {src dst : Nat} {x : Operand} (ho : o.op = .convert src dst x) (H : Here C o ρ ρc s φ π g w a next Q) (h : sem C o ρ s φ π) : o.uponIn (FR rr) nn C.P a next Q ((execOp ρc o).run C.P w) := by
  simp only [sem, ho] at h
  split at h
  · rename_i p hx
    have hrx := H.rho x _ hx
    by_cases hraw : C.isRaw o.dst = true
    · rw [if_pos hraw] at h
      unfold convR at h
      split at h
      · rename_i e s1 b1 z1 s2 b2 z2 b off len cap h1 h2
        split at h
        · rename_i s3 b3 z3 h3
          obtain ⟨T, cs, l, ⟨hh, hl, hcs⟩, h⟩ := h
          have hr : Rel g.I _ _ := hrx
          have hv : ρc x = .slice (some ⟨b, off, none⟩) len cap := by generalize ρc x = v at hr; cases hr; rfl
          obtain ⟨u1, hu1, hok1⟩ := (H.ty src _ h1).desc
          obtain ⟨u2, hu2, hok⟩ := (H.ty dst _ h2).desc
          obtain ⟨u3, hu3, hok3⟩ := (H.ty e _ h3).desc
          have hok1 : u1 = .slice e := hok1
          have hok : u2 = .string := hok
          have hok3 : u3 = .int .u8 := hok3
          subst hok hok1 hok3
          have hbytes : strOfNums (l.map fun b => ((b.toNat : Nat) : Int)) = ⟨l.toArray⟩ := by
            simp [strOfNums, List.map_map, Function.comp_def]
          obtain ⟨_, _, ys, e1, e2⟩ := H.sim.glob b _ hh
          have hrun := run_convert_bytes_arg (P := C.P) w src e hu1 hu3 b off len cap (l.map fun b => ((b.toNat : Nat) : Int)) (by simp [hl]) (fun i hi => by
            have hy : l[i]? = some l[i] := List.getElem?_eq_getElem (by omega)
            have hc : cs[off + i]? = some (AC.v (.int .u8 l[i].toNat)) := by
              have := congrArg (fun q => q[i]?) hcs
              simp only [List.getElem?_take, List.getElem?_drop, List.getElem?_map, hy, if_pos hi, Option.map_some] at this
              exact this
            obtain ⟨y, hy1, hy2⟩ := e2.get _ _ hc
            have hyv : y = .int .u8 l[i].toNat := by cases hy2; rfl
            have : w.cell? ⟨b, off + i, none⟩ = some y := by
              simp [World.cell?, e1, hy1]
            rw [this, hyv, List.getD_eq_getElem?_getD, List.getElem?_map, hy]
            rfl) dst hu2
          rw [hbytes] at hrun
          exact upon_ok (v := .string ⟨l.toArray⟩) (w' := w) (by simp only [execOp, ho, hv, Sem.run_bind, hrun, Result.andThen_ok]; rfl) (H.same h (Rel.v _ rfl))
        · exact h.elim
      · exact h.elim
    rw [if_neg hraw] at h
    have fin : ∀ {e s1 b1 s2 b2 s3 b3 : Nat} {z1 z2 z3 : List AC} {sz : Nat} {rows : List (List AC)}, C.ty src = some ⟨.slice e, s1, b1, z1⟩ → C.ty dst = some ⟨.str, s2, b2, z2⟩ → C.ty e = some ⟨.int .u8, s3, b3, z3⟩ → Rel g.I (.sl sz rows) (ρc x) →
        (∃ l : List UInt8, rows = l.map (fun b => [AC.v (.int .u8 b.toNat)]) ∧ φ (.c (.v (.string ⟨l.toArray⟩))) s) → o.uponIn (FR rr) nn C.P a next Q ((execOp ρc o).run C.P w) := by
      intro e s1 b1 s2 b2 s3 b3 z1 z2 z3 sz rows h1 h2 h3 hr h
      obtain ⟨l, rfl, h⟩ := h
      obtain ⟨u1, hu1, hok1⟩ := (H.ty src _ h1).desc
      obtain ⟨u2, hu2, hok⟩ := (H.ty dst _ h2).desc
      obtain ⟨u3, hu3, hok3⟩ := (H.ty e _ h3).desc
      have hok1 : u1 = .slice e := hok1
      have hok : u2 = .string := hok
      have hok3 : u3 = .int .u8 := hok3
      subst hok hok1 hok3
      generalize hv : ρc x = v at hr
      have hbytes : strOfNums (l.map fun b => ((b.toNat : Nat) : Int)) = ⟨l.toArray⟩ := by
        simp [strOfNums, List.map_map, Function.comp_def]
      cases hr with
      | sl _ _ A c f a0 a1 a2 a3 a4 a5 =>
        have hrun : (Go.convert src dst (.slice A (l.map (fun b => [AC.v (.int .u8 b.toNat)])).length c)).run C.P w = .ok (.string ⟨l.toArray⟩) w := by
          by_cases hl0 : l = []
          · subst hl0
            cases A with
            | none => exact run_convert_bytes_nil (P := C.P) w src e hu1 hu3 _ _ dst hu2
            | some ad =>
              rw [run_convert_bytes_string w src dst e _ _ c hu1 hu3 hu2, run_bytesToString w ad _ c [] (by simp [loadCells, loadCellsFrom])]
              rfl
          · obtain ⟨x0, hx0⟩ : ∃ x0, l[0]? = some x0 := by
              cases l with
              | nil => exact absurd rfl hl0
              | cons y _ => exact ⟨y, rfl⟩
            have hmap : ∀ (i : Nat) (y : UInt8), l[i]? = some y → (l.map (fun b => [AC.v (.int .u8 b.toNat)]))[i]? = some [AC.v (.int .u8 y.toNat)] := fun i y hy => by rw [List.getElem?_map, hy]; rfl
            obtain ⟨b, off, hA, _⟩ := a4 0 _ 0 _ (hmap 0 x0 hx0) rfl
            subst hA
            have := run_convert_bytes_arg (P := C.P) w src e hu1 hu3 b off l.length c (l.map fun b => ((b.toNat : Nat) : Int)) (by simp) (fun i hi => by
              have hy : l[i]? = some l[i] := List.getElem?_eq_getElem hi
              have hrow := hmap i _ hy
              obtain ⟨b', off', hA', hI⟩ := a4 i _ 0 _ hrow rfl
              cases hA'
              have hsz : sz = 1 := by have := a3 _ (List.mem_of_getElem? hrow); simpa using this.symm
              subst hsz
              have hrel := a5 i _ 0 _ hrow rfl
              have hcell := H.sim.im _ _ _ hI
              simp only [Nat.mul_one, Nat.add_zero] at hcell
              rw [hcell]
              generalize f i 0 = fv at hrel
              cases hrel
              rw [List.getD_eq_getElem?_getD, List.getElem?_map, hy]
              rfl) dst hu2
            rw [hbytes] at this
            simpa using this
        exact upon_ok (v := .string ⟨l.toArray⟩) (w' := w) (by simp only [execOp, ho, hv, Sem.run_bind, hrun, Result.andThen_ok]; rfl) (H.same h (Rel.v _ rfl))
    unfold convA at h
    split at h
    · rename_i d1 s1 b1 z1 k s2 b2 z2 k' n h1 h2
      have hr : Rel g.I _ _ := hrx
      have hv : ρc x = .int k' n := by generalize ρc x = v at hr; cases hr; rfl
      obtain ⟨u1, hu1, _⟩ := (H.ty src _ h1).desc
      obtain ⟨u2, hu2, hok⟩ := (H.ty dst _ h2).desc
      have hok : u2 = .int k := hok
      subst hok
      exact upon_ok (v := .int k (k.wrap n)) (w' := w) (by simp [execOp, ho, hv, Go.convert, run_underlying hu1, run_underlying hu2, Conv.intToInt]) (H.same h (Rel.v _ rfl))
    · rename_i d1 s1 b1 z1 s2 b2 z2 str h1 h2
      have hr : Rel g.I _ _ := hrx
      have hv : ρc x = .string str := by generalize ρc x = v at hr; cases hr; rfl
      obtain ⟨u1, hu1, _⟩ := (H.ty src _ h1).desc
      obtain ⟨u2, hu2, hok⟩ := (H.ty dst _ h2).desc
      have hok : u2 = .string := hok
      subst hok
      refine upon_ok (v := .string str) (w' := w) ?_ (H.same h (Rel.v _ rfl))
      simp only [execOp, ho, hv, Go.convert, Sem.run_bind, run_underlying hu1, run_underlying hu2, Result.andThen_ok]
      cases u1 <;> rfl
    · rename_i s1 b1 z1 e s2 b2 z2 str h1 h2
      split at h
      · rename_i s3 b3 z3 h3
        obtain ⟨hle, h⟩ := h
        have hr : Rel g.I _ _ := hrx
        have hv : ρc x = .string str := by generalize ρc x = v at hr; cases hr; rfl
        obtain ⟨u1, hu1, hok1⟩ := (H.ty src _ h1).desc
        obtain ⟨u2, hu2, hok⟩ := (H.ty dst _ h2).desc
        obtain ⟨u3, hu3, hok3⟩ := (H.ty e _ h3).desc
        have hok1 : u1 = .string := hok1
        have hok : u2 = .slice e := hok
        have hok3 : u3 = .int .u8 := hok3
        subst hok hok1 hok3
        have hrun := Lib.run_convert_string_bytes (P := C.P) w src dst e str hu1 hu2 hu3
        obtain ⟨g', hx', hs', hI, hbl, htk⟩ := H.sim.addIm (w' := Lib.bytesWorld w e str) rfl rfl rfl (by rw [Lib.bytesWorld_size]; omega) (fun b hb => Lib.bytesWorld_at_old w e str b hb) w.heap.size (Nat.le_refl _)
          (fun k => if k < str.size then some (.int .u8 (str.data.toList.getD k 0).toNat) else none) (fun k y hy => by
            split at hy
            · rename_i hk; cases hy; exact Lib.bytesWorld_cell w e str k hk
            · cases hy)
        refine upon_ok (by simp only [execOp, ho, hv, Sem.run_bind, hrun, Result.andThen_ok]; rfl) (H.next _ _ _ _ _ h hx' hs' ?_)
        have hlen : (str.data.toList.map fun b => [AC.v (.int .u8 b.toNat)]).length = str.size := by rw [List.length_map, Array.length_toList]; rfl
        rw [← hlen]
        have hget : ∀ (i : Nat) (r : List AC), (str.data.toList.map fun b => [AC.v (.int .u8 b.toNat)])[i]? = some r → i < str.size ∧ r = [AC.v (.int .u8 (str.data.toList.getD i 0).toNat)] := by
          intro i r hi
          rw [List.getElem?_map, Option.map_eq_some_iff] at hi
          obtain ⟨c, hc, rfl⟩ := hi
          refine ⟨by have := (List.getElem?_eq_some_iff.1 hc).1; rw [Array.length_toList] at this; exact this, ?_⟩
          rw [List.getD_eq_getElem?_getD, hc]
          rfl
        refine Rel.sl 1 _ _ _ (fun i _ => .int .u8 (str.data.toList.getD i 0).toNat) (by omega) ?_ (by rw [hlen]; exact hle) (fun r hr => by rw [List.mem_map] at hr; obtain ⟨c, _, rfl⟩ := hr; rfl) ?_ ?_
        · rw [hlen]; exact grownCap_ge w str.size 0 e
        · intro i r k y hi hk
          obtain ⟨hlt, rfl⟩ := hget i r hi
          have hk0 : k = 0 := by
            rcases Nat.eq_zero_or_pos k with h0 | h0
            · exact h0
            · rw [List.getElem?_eq_none (by simp; omega)] at hk; cases hk
          subst hk0
          refine ⟨w.heap.size, 0, rfl, ?_⟩
          rw [hI]
          simp [hlt]
        · intro i r k y hi hk
          obtain ⟨hlt, rfl⟩ := hget i r hi
          have hk0 : k = 0 := by
            rcases Nat.eq_zero_or_pos k with h0 | h0
            · exact h0
            · rw [List.getElem?_eq_none (by simp; omega)] at hk; cases hk
          subst hk0
          have hk' : AC.v (.int .u8 (str.data.toList.getD i 0).toNat) = y := by simpa only [List.getElem?_cons_zero, Option.some.injEq] using hk
          rw [← hk']
          exact .v _ rfl
      · exact h.elim
    · rename_i e s1 b1 z1 s2 b2 z2 h1 h2
      split at h
      · rename_i s3 b3 z3 h3
        have hr : Rel g.I _ _ := hrx
        have hv : ρc x = .slice none 0 0 := by generalize ρc x = v at hr; cases hr; rfl
        obtain ⟨u1, hu1, hok1⟩ := (H.ty src _ h1).desc
        obtain ⟨u2, hu2, hok⟩ := (H.ty dst _ h2).desc
        obtain ⟨u3, hu3, hok3⟩ := (H.ty e _ h3).desc
        have hok1 : u1 = .slice e := hok1
        have hok : u2 = .string := hok
        have hok3 : u3 = .int .u8 := hok3
        subst hok hok1 hok3
        exact upon_ok (v := .string ByteArray.empty) (w' := w) (by simp [execOp, ho, hv, run_convert_bytes_nil (P := C.P) w src e hu1 hu3 0 0 dst hu2]) (H.same h (Rel.v _ rfl))
      · exact h.elim
    · rename_i e s1 b1 z1 s2 b2 z2 sz rows h1 h2
      split at h
      · rename_i s3 b3 z3 h3
        exact fin h1 h2 h3 hrx h
      · exact h.elim
    · rename_i e s1 b1 z1 s2 b2 z2 n sz rows h1 h2
      split at h
      · rename_i s3 b3 z3 h3
        have hrt : RelT g s.o (.own n sz rows) (ρc x) := hrx
        exact fin h1 h2 h3 hrt.1 h
      · exact h.elim
    · exact h.elim
  · exact h.elim
end
end Go.Proofs.YtdgjpncflkpjfaaDoor.Aw
