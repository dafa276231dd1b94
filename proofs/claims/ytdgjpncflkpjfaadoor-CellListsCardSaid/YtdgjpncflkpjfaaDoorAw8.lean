/- The abstract machine, eighth part: code, and functions. -/
import Derived.Test.YtdgjpncflkpjfaaDoorAw7c
set_option linter.unusedVariables false
set_option linter.unusedSimpArgs false
namespace Go.Proofs.YtdgjpncflkpjfaaDoor.Aw

/-- What is kept of a state: the temporaries named, the first boxes, the first owners. -/
structure Cut where
  ks : List Nat
  nl : Nat
  no : Nat
def St.cut (c : Cut) (st : St) : St := ⟨keepT c.ks st.t, { l := st.s.l.take c.nl, o := st.s.o.take c.no, h := st.s.h }⟩
def AC.inside (nl no : Nat) : AC → Bool
  | .loc n _ => Nat.blt n nl
  | .own n _ _ => Nat.blt n no
  | _ => true
def AV.inside (nl no : Nat) : AV → Bool
  | .c x => x.inside nl no
  | .agg xs => xs.all (AC.inside nl no)
  | .tup _ => false
def St.insideB (fl : Nat) (c : Cut) (st : St) : Bool := (keepT c.ks st.t).all (fun x => x.2.inside c.nl c.no) && (st.s.l.take c.nl).all (fun x => x.2.all (AC.inside c.nl c.no)) && Nat.ble fl c.nl && true

/-- Less is said of the same memory. -/
def StLe (D : Cfg2) (st st1 : St) : Prop := ∀ g w a, Is D g w st a → ∃ g', Fra g w g' w ∧ Is D g' w st1 a
theorem StLe.refl (D : Cfg2) (st : St) : StLe D st st := fun g w a h => ⟨g, .refl _ _, h⟩
theorem StLe.trans {D : Cfg2} {s1 s2 s3 : St} (h : StLe D s1 s2) (k : StLe D s2 s3) : StLe D s1 s3 := fun g w a his => by
  obtain ⟨g1, f1, i1⟩ := h g w a his
  obtain ⟨g2, f2, i2⟩ := k g1 w a i1
  exact ⟨g2, f1.trans f2, i2⟩

/-- A loop: what holds ahead of each round, with a number that falls. -/
structure LoopA (D : Cfg2) (body : St → (AX → St → Prop) → Prop) (st : St) (Q : AX → St → Prop) : Prop where
  inv : ∃ (c : Cut) (I : Nat → St → Prop), (st.insideB D.floor c = true ∧ ∃ n st1, StLe D (st.cut c) st1 ∧ I n st1) ∧
    ∀ n st, I n st → body st fun x st' => match x with
      | .normal => st'.insideB D.floor c = true ∧ ∃ m, m < n ∧ ∃ st1, StLe D (st'.cut c) st1 ∧ I m st1
      | x => Q x st'

/-- What a function that is ranged over does: it hands on the items, one behind the other, till it is told to stop. -/
structure SeqA (P : Program) (f : Nat) (caps : List AV) (items : List (List AV)) (hL : Heap) : Prop where
  fn : ∃ fn, P.funcs[f]? = some fn ∧ fn.body.isSome = true ∧ (fn.name == "runtime.NumGoroutine") = false
  run : ∀ (cb : CB) (g : G) (w : World) (vs : List Value) (n : Nat), cb.P = P → cb.items = items → hL cb.l = none → Bare g → Sim g w ⟨[], [], upd hL cb.l (.seq cb true 0)⟩ → RelVs g [] caps vs →
    CallsIn (FR none) n P f (#[.func (.yield cb.l) #[] #[]] ++ vs.toArray) w fun e w' => ∃ g', Fra g w g' w' ∧ (∀ b k x, g'.I b k = some x → w'.cell? ⟨b, k, none⟩ = some x) ∧ (∀ b k x, g'.I b k = some x → ∀ y, g'.role b ≠ .glob y) ∧ (∃ v, e = .returned v) ∧ (cb.J true items.length g' w' ∨ ∃ k, k ≤ items.length ∧ cb.J false k g' w')

def putPs : List Nat → List AV → Env → Env
  | p :: ps, v :: vs, t => putPs ps vs (put p v t)
  | _, _, t => t
def AC.floorB (fl : Nat) : AC → Bool
  | .loc n _ => Nat.blt n fl
  | .own _ _ _ => false
  | _ => true
def AV.floorB (fl : Nat) : AV → Bool
  | .c x => x.floorB fl
  | .agg xs => xs.all (AC.floorB fl)
  | .tup _ => false
/-- What is lent is not seen. -/
def S.lend (hL : Heap) : S → S
  | ⟨l, o, h⟩ => ⟨l, o, fun b => match hL b with
    | some _ => none
    | none => h b⟩
/-- A loop over a function: what holds when k items have come. hL: cells of mine that the function ranged over may write (I lose them). -/
structure RangeA (D : Cfg2) (gop : Operand) (ps : Array Tmp) (assign body : St → (AX → St → Prop) → Prop) (st : St) (Q : AX → St → Prop) : Prop where
  inv : ∃ (f : Nat) (caps : List AC) (items : List (List AV)) (hL : Heap) (c : Cut) (I : Nat → S → Prop),
    ((rho st.t gop).bind fnA = some (f, [], caps) ∧ SeqA D.P f (caps.map AV.c) items hL ∧ (∀ b x, hL b = some x → st.s.h b = some x ∧ ∃ T cs, x = .cells T cs) ∧ (∀ avs ∈ items, avs.length = ps.size) ∧ (ps.toList.all (fun p => Nat.blt p D.nt) && !D.nor) = true) ∧
    (st.insideB D.floor c = true ∧ (keepT c.ks st.t).all (fun x => x.2.floorB D.floor) = true ∧ I 0 ((st.cut c).s.lend hL)) ∧
    (∀ k s avs, k < items.length → I k s → items[k]? = some avs → assign ⟨putPs ps.toList avs (keepT c.ks st.t), s⟩ fun x st2 => x = .normal ∧ body st2 fun x st' => st'.insideB D.floor c = true ∧ match x with
      | .normal => I (k + 1) (st'.cut c).s
      | .exit id => Q (.exit id) ⟨keepT c.ks st.t, (st'.cut c).s⟩
      | .ret => Q .ret ⟨keepT c.ks st.t, (st'.cut c).s⟩
      | .panic _ => False) ∧
    (∀ s, I items.length s → Q .normal ⟨keepT c.ks st.t, s⟩)

/-- A place where the reckoning stops, so that a law can be used. -/
structure Stop (p : Prop) : Prop where
  out : p


def awp (D : Cfg2) : Code → St → (AX → St → Prop) → Prop
  | .skip, st, Q => Q .normal st
  | .region _ ops draw, st, Q => match draw with
    | false => opsA D ops Q (List.range ops.size) st
    | true => Pre (drawOk D ops = true) (opsA D ops Q (List.range ops.size) st)
  | .seq a b, st, Q => awp D a st fun x st' => match x with
    | .normal => awp D b st' Q
    | x => Q x st'
  | .cond c a b, st, Q => match rho st.t c with
    | some (.c .tt) => awp D a st Q
    | some (.c .ff) => awp D b st Q
    | some (.c (.v (.bool t))) => Br t (awp D a st Q) (awp D b st Q)
    | _ => False
  | .block id c, st, Q => awp D c st fun x st' => match x with
    | .exit i => (match Nat.beq i id with
      | true => Q .normal st'
      | false => Q (.exit i) st')
    | x => Q x st'
  | .loop c, st, Q => LoopA D (awp D c) st Q
  | .exit id, st, Q => Q (.exit id) st
  | .ret, st, Q => Q .ret st
  | .rangeFunc gop ps assign body, st, Q => RangeA D gop ps (awp D assign) (awp D body) st Q
  | _, _, _ => False

/-- The ghost behind a cut: what is dropped belongs to nobody. -/
def cutG (c : Cut) (g : G) : G :=
  { I := g.I, role := fun b => match g.role b with | .loc n => if n < c.nl then .loc n else .imm | .tok n => if n < c.no then .tok n else .imm | r => r, bl := g.bl.take c.nl, tk := g.tk.take c.no, fr := g.fr }

theorem RelT.cut {g : G} {o : List (Nat × Nat × Nat)} {c : Cut} {x : AC} {y : Value} (hin : x.inside c.nl c.no = true) (h : RelT g o x y) : RelT (cutG c g) (o.take c.no) x y := by
  cases x with
  | loc n off =>
    obtain ⟨b, hb, rfl⟩ := h
    have hn : n < c.nl := Nat.blt_eq.mp hin
    exact ⟨b, by show (g.bl.take c.nl)[n]? = _; rw [List.getElem?_take, if_pos hn]; exact hb, rfl⟩
  | own n sz rows =>
    obtain ⟨hr, e, len, ho, hle, ht⟩ := h
    have hn : n < c.no := Nat.blt_eq.mp hin
    exact ⟨hr, e, len, by rw [List.getElem?_take, if_pos hn]; exact ho, hle, fun hl => by show (g.tk.take c.no)[n]? = _; rw [List.getElem?_take, if_pos hn]; exact ht hl⟩
  | _ => exact h

theorem RelV.cut {g : G} {o : List (Nat × Nat × Nat)} {c : Cut} {v : AV} {y : Value} (hin : v.inside c.nl c.no = true) (h : RelV g o v y) : RelV (cutG c g) (o.take c.no) v y := by
  have cells : ∀ (xs : List AC) (ys : List Value), xs.all (AC.inside c.nl c.no) = true → All2 (RelT g o) xs ys → All2 (RelT (cutG c g) (o.take c.no)) xs ys := by
    intro xs
    induction xs with
    | nil => intro ys _ h; cases ys <;> simp_all [All2]
    | cons x xs ih =>
      intro ys hin h
      rw [List.all_cons, Bool.and_eq_true] at hin
      cases ys with
      | nil => exact h.elim
      | cons y ys => exact ⟨RelT.cut hin.1 h.1, ih ys hin.2 h.2⟩
  cases v with
  | c x => exact RelT.cut hin h
  | agg xs => obtain ⟨ys, rfl, h⟩ := h; exact ⟨ys, rfl, cells xs ys hin h⟩
  | tup xs => simp [AV.inside] at hin

theorem Is.cut {D : Cfg2} {g : G} {w : World} {st : St} {a : Act} {c : Cut} (hin : st.insideB D.floor c = true) (h : Is D g w st a) : Fra g w (cutG c g) w ∧ Is D (cutG c g) w (st.cut c) a := by
  unfold St.insideB at hin
  simp only [Bool.and_eq_true] at hin
  obtain ⟨⟨⟨h1, h2⟩, h3⟩, h4⟩ := hin
  have hrole : ∀ b, (g.role b = .imm → (cutG c g).role b = .imm) ∧ (∀ x, g.role b = .glob x → (cutG c g).role b = .glob x) ∧ (g.role b = .ext → (cutG c g).role b = .ext) := fun b => by
    refine ⟨fun e => ?_, fun x e => ?_, fun e => ?_⟩
    · show (match g.role b with | .loc n => if n < c.nl then Role.loc n else .imm | .tok n => if n < c.no then .tok n else .imm | r => r) = _; rw [e]
    · show (match g.role b with | .loc n => if n < c.nl then Role.loc n else .imm | .tok n => if n < c.no then .tok n else .imm | r => r) = _; rw [e]
    · show (match g.role b with | .loc n => if n < c.nl then Role.loc n else .imm | .tok n => if n < c.no then .tok n else .imm | r => r) = _; rw [e]
  refine ⟨⟨rfl, rfl, rfl, Nat.le_refl _, Im.le_refl _, fun b _ e => ⟨rfl, (hrole b).1 e, rfl⟩, fun b x _ e => (hrole b).2.1 x e, fun b _ e => (hrole b).2.2 e, rfl, fun n b hn hb => ?_⟩, ⟨?_, h.size, ?_, ?_, ?_, h.fl, h.base, h.nor⟩⟩
  · have hfl : D.floor ≤ c.nl := Nat.le_of_ble_eq_true h3
    show (g.bl.take c.nl)[n]? = some b
    rw [List.getElem?_take, if_pos (by have := h.fl; omega)]; exact hb
  · have hs := h.sim
    constructor
    · exact hs.im
    · intro b k x hI
      rcases hs.imr b k x hI with e | ⟨n, e⟩ | e
      · exact .inl ((hrole b).1 e)
      · show (match g.role b with | .loc n => if n < c.nl then Role.loc n else .imm | .tok n => if n < c.no then .tok n else .imm | r => r) = _ ∨ (∃ n, (match g.role b with | .loc n => if n < c.nl then Role.loc n else .imm | .tok n => if n < c.no then .tok n else .imm | r => r) = _) ∨ (match g.role b with | .loc n => if n < c.nl then Role.loc n else .imm | .tok n => if n < c.no then .tok n else .imm | r => r) = _
        rw [e]
        dsimp only
        split
        · exact .inr (.inl ⟨n, rfl⟩)
        · exact .inl rfl
      · exact .inr (.inr ((hrole b).2.2 e))
    · intro b hb; exact (hrole b).1 (hs.fresh b hb)
    · intro n b hb
      have hb' : (g.bl.take c.nl)[n]? = some b := hb
      rw [List.getElem?_take] at hb'
      split at hb'
      · rename_i hn
        show (match g.role b with | .loc n => if n < c.nl then Role.loc n else .imm | .tok n => if n < c.no then .tok n else .imm | r => r) = _
        rw [hs.loc n b hb']
        simp [hn]
      · cases hb'
    · show (g.bl.take c.nl).length = (st.s.l.take c.nl).length
      simp [hs.blen]
    · intro n b T cs hb hl
      have hb' : (g.bl.take c.nl)[n]? = some b := hb
      have hl' : (st.s.l.take c.nl)[n]? = some (T, cs) := hl
      rw [List.getElem?_take] at hb' hl'
      split at hb'
      · rename_i hn
        rw [if_pos hn] at hl'
        obtain ⟨ys, a1, a2⟩ := hs.box n b T cs hb' hl'
        refine ⟨ys, a1, ?_⟩
        have hall := (List.all_eq_true.1 h2) (T, cs) (List.mem_of_getElem? (by rw [List.getElem?_take, if_pos hn]; exact hl'))
        have := RelV.cut (c := c) (g := g) (o := st.s.o) (v := .agg cs) (y := .agg ys.toArray) hall ⟨ys, rfl, a2⟩
        obtain ⟨ys', e, hall2⟩ := this
        have e' : ys = ys' := by simpa using e
        rw [e']
        exact hall2
      · cases hb'
    · show (g.tk.take c.no).length = (st.s.o.take c.no).length
      simp [hs.tlen]
    · intro n v e sz len ht ho
      have ht' : (g.tk.take c.no)[n]? = some v := ht
      have ho' : (st.s.o.take c.no)[n]? = some (e, sz, len) := ho
      rw [List.getElem?_take] at ht' ho'
      split at ht'
      · rename_i hn
        rw [if_pos hn] at ho'
        obtain ⟨b1, b2, b3⟩ := hs.tok n v e sz len ht' ho'
        refine ⟨b1, b2, fun q hq => ?_⟩
        obtain ⟨f1, f2⟩ := b3 q hq
        refine ⟨?_, f2⟩
        show (match g.role q with | .loc n => if n < c.nl then Role.loc n else .imm | .tok n => if n < c.no then .tok n else .imm | r => r) = _
        rw [f1]; simp [hn]
      · cases ht'
    · intro b ho hb
      exact hs.globKeep (G' := cutG c g) ⟨Im.le_refl _, hs.im, Nat.le_refl _, fun b _ e => ⟨(hrole b).2.2 e, rfl, rfl⟩⟩ hb fun q _ e => ⟨rfl, (hrole q).2.1 _ e⟩
  · intro t v hv
    obtain ⟨u, hu, rfl⟩ := keepT_look c.ks t v st.t hv
    refine RelV.cut ?_ (h.env t u hu)
    have : ∀ e : Env, look e t = some u → ∃ x ∈ e, x.2 = u := by
      intro e
      induction e with
      | nil => intro h; simp [look] at h
      | cons p e ih =>
        intro h
        obtain ⟨q, z⟩ := p
        simp only [look] at h
        split at h
        · cases h; exact ⟨_, List.mem_cons_self, rfl⟩
        · obtain ⟨x, hx, e⟩ := ih h; exact ⟨x, List.mem_cons_of_mem _ hx, e⟩
    obtain ⟨x, hx, rfl⟩ := this _ hv
    exact (List.all_eq_true.1 h1) x hx
  · obtain ⟨ms, f1, f2, f3⟩ := h.defers
    exact ⟨ms, f1, f2, fun d hd => by
      obtain ⟨E, e1, e2, e3, e4⟩ := f3 d hd
      exact ⟨E, e1, e2, e3, (hrole E).1 e4⟩⟩
  · intro l hl
    obtain ⟨r, e1, e2⟩ := h.rnd l hl
    exact ⟨r, e1, (hrole l).1 e2⟩

/-- A loop under a number that falls. -/
theorem wp_loopN {F : Fence} {n' : Nat} {P : Program} {c : Code} {Q : Exit → Act → World → Prop} (I : Nat → Act → World → Prop) (round : ∀ n a w, I n a w → c.wpIn F n' P (Exit.then (fun a' w' => ∃ m, m < n ∧ I m a' w') Q) a w) :
    ∀ n a w, I n a w → (Code.loop c).wpIn F n' P Q a w := by
  intro n a w h₀ b k cs hro hb hr
  have key : ∀ n a w, I n a w → ∃ e a' w', Q e a' w' ∧ ArrivesIn (Machine.fenced P F) P (lone (b.atR a (.code c :: .inLoop c :: k)) cs w) b k cs e a' w' := by
    intro n
    induction n using Nat.strongRecOn with
    | _ n ih =>
      intro a w hI
      obtain ⟨e, a₁, w₁, hq, harr⟩ := round n a w hI b (.inLoop c :: k) cs hro hb hr
      cases e with
      | normal =>
        obtain ⟨m, hlt, hI₁⟩ := hq
        obtain ⟨e₂, a₂, w₂, hq₂, harr₂⟩ := ih m hlt a₁ w₁ hI₁
        exact ⟨e₂, a₂, w₂, hq₂, .of_steps (StepsIn.trans harr (.one (fenced_calm hb hr rfl) stepR_inLoop)) harr₂⟩
      | exit id => exact ⟨_, a₁, w₁, hq, .pass (x := .inLoop c) rfl (fun _ _ => .inl (by simp)) harr⟩
      | goto l => exact ⟨_, a₁, w₁, hq, .pass (x := .inLoop c) rfl (fun _ _ => .inl (by simp)) harr⟩
      | ret => exact ⟨_, a₁, w₁, hq, .pass (x := .inLoop c) rfl (fun _ _ => .inl (by simp)) harr⟩
      | panic ch => exact ⟨_, a₁, w₁, hq, .pass (x := .inLoop c) rfl (fun _ _ => .inl (by simp)) harr⟩
      | outgrown => exact ⟨_, a₁, w₁, hq, .pass (x := .inLoop c) rfl (fun _ _ => .inl (by simp)) harr⟩
  obtain ⟨e, a', w', hq, harr⟩ := key n a w h₀
  exact ⟨e, a', w', hq, .of_steps (.one (fenced_calm hb hr rfl) stepR_loop) harr⟩

/-! ### A loop over a function -/
/-- A block that holds no cells is written; nobody says anything of it. -/
theorem Sim.bump {g : G} {w : World} {s : S} (hs : Sim g w s) {l : Nat} {o : Obj} (o' : Obj) (hl : w.heap[l]? = some o) (hc : o.isCells = false) (hi : g.role l = .imm) : Sim g (w.putObj l o') s ∧ (∀ b, b ≠ l → (w.putObj l o').heap[b]? = w.heap[b]?) ∧ (w.putObj l o').heap[l]? = some o' ∧ (w.putObj l o').heap.size = w.heap.size := by
  have hlt : l < w.heap.size := (Array.getElem?_eq_some_iff.1 hl).1
  have hsz : (w.putObj l o').heap.size = w.heap.size := by simp [World.putObj]
  have hne : ∀ b, b ≠ l → (w.putObj l o').heap[b]? = w.heap[b]? := fun b h => World.putObj_heap_other h
  have him : ∀ b k x, g.I b k = some x → (w.putObj l o').cell? ⟨b, k, none⟩ = some x := fun b k x h => by
    have h1 := hs.im b k x h
    rw [World.cell?_of_block (w := w) (a := ⟨b, k, none⟩) (hne b fun e => ?_)]
    · exact h1
    · subst e
      simp only [World.cell?, hl] at h1
      cases o <;> simp_all [Obj.isCells]
  have nr : ∀ b, g.role b ≠ .imm → b ≠ l := fun b h e => h (by rw [e]; exact hi)
  refine ⟨⟨him, hs.imr, fun b h => hs.fresh b (by omega), hs.loc, hs.blen, ?_, hs.tlen, ?_, ?_⟩, hne, World.putObj_heap_same hlt, hsz⟩
  · intro n b T cs h1 h2
    obtain ⟨ys, a1, a2⟩ := hs.box n b T cs h1 h2
    exact ⟨ys, (hne b (nr b (by rw [hs.loc n b h1]; exact fun e => by cases e))).trans a1, a2⟩
  · intro n v e sz len h1 h2
    obtain ⟨a1, ⟨xs, a2⟩, a3⟩ := hs.tok n v e sz len h1 h2
    exact ⟨a1, ⟨xs, ownsRow_same (fun q hq => hne q (nr q (by rw [(a3 q hq).1]; exact fun e => by cases e))) a2⟩, a3⟩
  · intro b ho h
    exact hs.globKeep ⟨Im.le_refl _, him, by omega, fun b _ h => ⟨h, hne b (nr b (by rw [h]; exact fun e => by cases e)), rfl⟩⟩ h fun q _ h => ⟨hne q (nr q (by rw [h]; exact fun e => by cases e)), h⟩

theorem Sim.setFr {g : G} {w : World} {s : S} (hs : Sim g w s) (x : FI) : Sim { g with fr := x } w s :=
  ⟨hs.im, hs.imr, hs.fresh, hs.loc, hs.blen, hs.box, hs.tlen, hs.tok, fun b ho h => hs.globKeep (G' := { g with fr := x }) ⟨Im.le_refl _, hs.im, Nat.le_refl _, fun _ _ h => ⟨h, rfl, rfl⟩⟩ h fun _ _ h => ⟨rfl, h⟩⟩

/-- What is none of mine, seen by its owner. -/
theorem Sim.foreign {gc gi gi' : G} {W W' : World} {s : S} (hs : Sim gc W s) (hJ : FraJ gi W gi' W') (hI : gc.I = gi.I) (hr : ∀ b, gc.role b ≠ .imm → gi.role b = .ext) : Sim { gc with I := gi'.I } W' s := by
  have hle : gc.I.le gi'.I := by rw [hI]; exact hJ.le
  have hlt : ∀ b, gc.role b ≠ .imm → b < W.heap.size := fun b h => by
    rcases Nat.lt_or_ge b W.heap.size with h' | h'
    · exact h'
    · exact absurd (hs.fresh b h') h
  have same : ∀ b, gc.role b ≠ .imm → W'.heap[b]? = W.heap[b]? ∧ gi'.I b = gc.I b := fun b h => by
    obtain ⟨_, h2, h3⟩ := hJ.ext b (hlt b h) (hr b h)
    exact ⟨h2, by rw [h3, hI]⟩
  have hk : Keep gc s.o { gc with I := gi'.I } s.o := ⟨hle, fun _ _ h => h, fun _ _ _ _ h => .inl ⟨h, rfl⟩⟩
  constructor
  · exact hJ.im
  · intro b k x h
    cases e : gc.role b with
    | imm => exact .inl rfl
    | tok n => exact .inr (.inl ⟨n, rfl⟩)
    | ext => exact .inr (.inr rfl)
    | loc n =>
      have h' : gi'.I b k = some x := h
      rw [(same b (by rw [e]; exact fun e => by cases e)).2] at h'
      have := hs.imr b k x h'
      rwa [e] at this
    | glob n =>
      have h' : gi'.I b k = some x := h
      rw [(same b (by rw [e]; exact fun e => by cases e)).2] at h'
      have := hs.imr b k x h'
      rwa [e] at this
  · intro b h; exact hs.fresh b (Nat.le_trans hJ.size h)
  · exact hs.loc
  · exact hs.blen
  · intro n b T cs h1 h2
    obtain ⟨ys, a1, a2⟩ := hs.box n b T cs h1 h2
    exact ⟨ys, (same b (by rw [hs.loc n b h1]; exact fun e => by cases e)).1.trans a1, a2.mono fun _ _ h => h.keep hk⟩
  · exact hs.tlen
  · intro n v e sz len h1 h2
    obtain ⟨a1, ⟨xs, a2⟩, a3⟩ := hs.tok n v e sz len h1 h2
    have hne : ∀ q, v.ownBlock = some q → gc.role q ≠ .imm := fun q hq => by rw [(a3 q hq).1]; exact fun e => by cases e
    refine ⟨a1, ⟨xs, ownsRow_same (fun q hq => (same q (hne q hq)).1) a2⟩, fun q hq => ⟨(a3 q hq).1, fun k hk => ?_⟩⟩
    show gi'.I q k = none
    rw [(same q (hne q hq)).2]; exact (a3 q hq).2 k hk
  · intro b ho h
    refine hs.globKeep (G' := { gc with I := gi'.I }) ⟨hle, hJ.im, hJ.size, fun b h1 h2 => ?_⟩ h fun q h1 h2 => ?_
    · obtain ⟨e1, e2⟩ := same b (by rw [h2]; exact fun e => by cases e)
      exact ⟨h2, e1, e2⟩
    · exact ⟨(same q (by rw [h2]; exact fun e => by cases e)).1, h2⟩

/-- What a loop's owner keeps of himself. -/
structure FraR (g : G) (w : World) (g' : G) : Prop where
  le : g.I.le g'.I
  fr : g'.fr = g.fr
  role : ∀ b, b < w.heap.size → (g.role b = .imm → g'.role b = .imm) ∧ (∀ x, g.role b = .glob x → g'.role b = .glob x) ∧ (g.role b = .ext → g'.role b = .ext)
  bl : ∀ n b, n < g.fr.fl → g.bl[n]? = some b → g'.bl[n]? = some b

structure RJ (rec : LoopState → Option Code → Loop) (l : Nat) (mk : List Nat) (g0 : G) (w0 : World) (I : Nat → S → Prop) (Jm : Code → S → Prop) (x : Bool) (k : Nat) (gi : G) (W : World) : Prop where
  ex : ∃ gc s, gc.I = gi.I ∧ FraR g0 w0 gc ∧ (∀ b, gc.role b ≠ .imm → gi.role b = .ext) ∧ Sim gc W s ∧ (gi.role l = .ext ∧ gc.role l = .imm) ∧
    (∀ m ∈ mk, gi.role m = .ext ∧ gc.role m = .imm ∧ W.heap[m]? = some (.deferred (some []))) ∧
    (x = true → I k s ∧ W.heap[l]? = some (.loop (rec .ready none))) ∧ (x = false → ∃ c, Jm c s ∧ W.heap[l]? = some (.loop (rec .done (some c))))

theorem RJ.closed {rec : LoopState → Option Code → Loop} {l : Nat} {mk : List Nat} {g0 : G} {w0 : World} {I : Nat → S → Prop} {Jm : Code → S → Prop} {x : Bool} {k : Nat} {gi gi' : G} {W W' : World} (hJ : FraJ gi W gi' W') (h : RJ rec l mk g0 w0 I Jm x k gi W) :
    RJ rec l mk g0 w0 I Jm x k gi' W' := by
  obtain ⟨gc, s, h1, h2, h3, h4, h5, h6, h7, h8⟩ := h.ex
  have hex : ∀ b o, W.heap[b]? = some o → gi.role b = .ext → gi'.role b = .ext ∧ W'.heap[b]? = some o := fun b o hb hr => by
    obtain ⟨e1, e2, _⟩ := hJ.ext b (Array.getElem?_eq_some_iff.1 hb).1 hr
    exact ⟨e1, e2.trans hb⟩
  have hl : ∃ o, W.heap[l]? = some o := by
    cases x with
    | true => exact ⟨_, (h7 rfl).2⟩
    | false => obtain ⟨c, _, h⟩ := h8 rfl; exact ⟨_, h⟩
  refine ⟨{ gc with I := gi'.I }, s, rfl, ⟨fun b k v h => hJ.le b k v (by rw [← h1]; exact h2.le b k v h), h2.fr, h2.role, h2.bl⟩, fun b h => ?_, h4.foreign hJ h1 h3, ⟨?_, h5.2⟩, fun m hm => ?_, fun e => ⟨(h7 e).1, (hex l _ (h7 e).2 h5.1).2⟩, fun e => ?_⟩
  · have hlt : b < W.heap.size := by
      rcases Nat.lt_or_ge b W.heap.size with h' | h'
      · exact h'
      · exact absurd (h4.fresh b h') h
    exact (hJ.ext b hlt (h3 b h)).1
  · obtain ⟨o, ho⟩ := hl; exact (hex l o ho h5.1).1
  · obtain ⟨e1, e2, e3⟩ := h6 m hm
    exact ⟨(hex m _ e3 e1).1, e2, (hex m _ e3 e1).2⟩
  · obtain ⟨c, e1, e2⟩ := h8 e
    exact ⟨c, e1, (hex l _ e2 h5.1).2⟩

theorem look_putPs (nt : Nat) : ∀ (ps : List Nat) (avs : List AV) (vs : List Value) (t : Env) (tmps : Array Value) (R : AV → Value → Prop), tmps.size = nt → (ps.all fun p => Nat.blt p nt) = true → All2 R avs vs → (∀ k v, look t k = some v → R v (tmps.getD k undef)) →
    ∀ k v, look (putPs ps avs t) k = some v → R v (((ps.zip vs).foldl (fun (t : Array Value) (p : Nat × Value) => t.setIfInBounds p.1 p.2) tmps).getD k undef)
  | [], _, _, t, tmps, R, _, _, _, h, k, v, hk => by simpa [putPs] using h k v (by simpa [putPs] using hk)
  | p :: ps, [], [], t, tmps, R, _, _, _, h, k, v, hk => by simpa [putPs] using h k v (by simpa [putPs] using hk)
  | p :: ps, a :: avs, x :: vs, t, tmps, R, hsz, hps, hr, h, k, v, hk => by
    rw [List.all_cons, Bool.and_eq_true] at hps
    refine look_putPs nt ps avs vs (put p a t) (tmps.setIfInBounds p x) R (by simp [hsz]) hps.2 hr.2 (fun k v hk => ?_) k v hk
    rw [look_put] at hk
    have hlt := Nat.blt_eq.mp hps.1
    by_cases e : p = k
    · subst e
      rw [if_pos rfl] at hk
      cases hk
      have : (tmps.setIfInBounds p x).getD p undef = x := by simp [Array.getD_eq_getD_getElem?, hsz, hlt]
      rw [this]; exact hr.1
    · rw [if_neg e] at hk
      have : (tmps.setIfInBounds p x).getD k undef = tmps.getD k undef := by simp [Array.getD_eq_getD_getElem?, Array.getElem?_setIfInBounds_ne e]
      rw [this]; exact h k v hk
  | _ :: _, [], _ :: _, _, _, _, _, _, hr, _, _, _, _ => hr.elim
  | _ :: _, _ :: _, [], _, _, _, _, _, hr, _, _, _, _ => hr.elim

theorem RelVs.all2 {g : G} {o : List (Nat × Nat × Nat)} : ∀ {xs : List AV} {ys : List Value}, RelVs g o xs ys → All2 (RelV g o) xs ys
  | [], [], _ => trivial
  | _ :: _, _ :: _, h => ⟨h.1, RelVs.all2 h.2⟩
  | [], _ :: _, h => h.elim
  | _ :: _, [], h => h.elim

/-- What doesn't hang on tokens stays told. -/
theorem RelV.floor {g g' : G} {o o' : List (Nat × Nat × Nat)} {fl : Nat} (hI : g.I.le g'.I) (hbl : ∀ n b, n < fl → g.bl[n]? = some b → g'.bl[n]? = some b) {v : AV} {y : Value} (hv : v.floorB fl = true) (h : RelV g o v y) : RelV g' o' v y := by
  have cell : ∀ (x : AC) (y : Value), x.floorB fl = true → RelT g o x y → RelT g' o' x y := by
    intro x y hx h
    cases x with
    | loc n off =>
      obtain ⟨b, hb, rfl⟩ := h
      exact ⟨b, hbl n b (Nat.blt_eq.mp hx) hb, rfl⟩
    | own n sz rows => cases hx
    | _ => exact Rel.mono hI h
  cases v with
  | c x => exact cell x y hv h
  | agg xs =>
    obtain ⟨ys, rfl, h⟩ := h
    refine ⟨ys, rfl, ?_⟩
    have hv' : xs.all (AC.floorB fl) = true := hv
    clear hv
    induction xs generalizing ys with
    | nil => cases ys with
      | nil => trivial
      | cons => exact h.elim
    | cons x xs ih => cases ys with
      | nil => exact h.elim
      | cons y ys =>
        rw [List.all_cons, Bool.and_eq_true] at hv'
        exact ⟨cell x y hv'.1 h.1, ih ys h.2 hv'.2⟩
  | tup xs => cases hv

theorem look_mem : ∀ {t : Env} {k : Nat} {v : AV}, look t k = some v → ∃ x ∈ t, x.2 = v
  | (q, z) :: t, k, v, h => by
    simp only [look] at h
    split at h
    · cases h; exact ⟨_, List.mem_cons_self, rfl⟩
    · obtain ⟨x, hx, e⟩ := look_mem h
      exact ⟨x, List.mem_cons_of_mem _ hx, e⟩

theorem RelVs.of_pub {g gc : G} {o : List (Nat × Nat × Nat)} (hI : gc.I = g.I) {avs : List AV} {vs : List Value} (h : RelVs g.pub [] avs vs) : All2 (RelV gc o) avs vs := by
  have : ∀ {xs : List AV} {ys : List Value}, RelVs g.pub [] xs ys → RelVs gc o xs ys := by
    intro xs
    induction xs with
    | nil => intro ys h; cases ys <;> simp_all [RelVs]
    | cons x xs ih =>
      intro ys h
      cases ys with
      | nil => exact h.elim
      | cons y ys => exact ⟨RelV.imle (g := g.pub) (by rw [hI]; exact Im.le_refl _) rfl h.1, ih h.2⟩
  exact (this h).all2

theorem FraR.fra {g g1 g2 : G} {w w1 w2 : World} (h : FraR g w g1) (k : Fra g1 w1 g2 w2) (hsz : w.heap.size ≤ w1.heap.size) : FraR g w g2 where
  le := Im.le_trans h.le k.im
  fr := k.fr.trans h.fr
  role := fun b hb => by
    obtain ⟨h1, h2, h3⟩ := h.role b hb
    exact ⟨fun e => (k.imm b (by omega) (h1 e)).2.1, fun x e => k.glob b x (by omega) (h2 x e), fun e => k.ext b (by omega) (h3 e)⟩
  bl := fun n b hn hb => k.bl n b (by rw [h.fr]; exact hn) (h.bl n b hn hb)

theorem fnA_rel {g g' : G} {o o' : List (Nat × Nat × Nat)} {v : AV} {y : Value} {x : Nat × List AC × List AC} (h : fnA v = some x) (hI : g.I.le g'.I) (hr : RelV g o v y) : RelV g' o' v y := by
  unfold fnA at h
  split at h
  · exact Rel.mono hI hr
  · exact Rel.mono hI hr
  · cases h

/-- Who lends: what is lent belongs to nobody. -/
def lendG (hL : Heap) (g : G) : G :=
  { I := g.I, role := fun b => match hL b with | some _ => .imm | none => g.role b, bl := g.bl, tk := g.tk, fr := g.fr }
/-- Behind the loop its place is kept. -/
def backG (hL : Heap) (g : G) : G :=
  { I := g.I, role := fun b => match hL b with | some _ => .glob b | none => g.role b, bl := g.bl, tk := g.tk, fr := g.fr }
theorem lendG_none {hL : Heap} {g : G} {b : Nat} (h : hL b = none) : (lendG hL g).role b = g.role b := by
  show (match hL b with | some _ => Role.imm | none => g.role b) = _; rw [h]
theorem lendG_some {hL : Heap} {g : G} {b : Nat} {x : HO} (h : hL b = some x) : (lendG hL g).role b = .imm := by
  show (match hL b with | some _ => Role.imm | none => g.role b) = _; rw [h]
theorem backG_none {hL : Heap} {g : G} {b : Nat} (h : hL b = none) : (backG hL g).role b = g.role b := by
  show (match hL b with | some _ => Role.glob b | none => g.role b) = _; rw [h]

theorem Is.lend {D : Cfg2} {g : G} {w : World} {st : St} {a : Act} {hL : Heap} (h : Is D g w st a) (hl : ∀ b x, hL b = some x → st.s.h b = some x ∧ g.role b = .glob b) : Is D (lendG hL g) w ⟨st.t, st.s.lend hL⟩ a := by
  have hs := h.sim
  have none_of : ∀ b, (∀ y, g.role b ≠ .glob y) → hL b = none := fun b h => by
    cases e : hL b with
    | none => rfl
    | some x => exact absurd (hl b x e).2 (h b)
  have hk : Keep g st.s.o (lendG hL g) st.s.o := ⟨Im.le_refl _, fun _ _ h => h, fun _ _ _ _ h => .inl ⟨h, rfl⟩⟩
  have imm : ∀ b, g.role b = .imm → (lendG hL g).role b = .imm := fun b e => by rw [lendG_none (none_of b fun y => by rw [e]; exact fun e => by cases e)]; exact e
  refine ⟨?_, h.size, fun t v hv => RelV.keep hk (h.env t v hv), ?_, fun l hl => ?_, h.fl, h.base, h.nor⟩
  · constructor
    · exact hs.im
    · intro b k x hI
      rcases hs.imr b k x hI with e | ⟨n, e⟩ | e
      · exact .inl (imm b e)
      · rw [lendG_none (none_of b fun y => by rw [e]; exact fun e => by cases e)]; exact .inr (.inl ⟨n, e⟩)
      · rw [lendG_none (none_of b fun y => by rw [e]; exact fun e => by cases e)]; exact .inr (.inr e)
    · intro b hb; exact imm b (hs.fresh b hb)
    · intro n b hb
      have e := hs.loc n b hb
      rw [lendG_none (none_of b fun y => by rw [e]; exact fun e => by cases e)]; exact e
    · exact hs.blen
    · intro n b T cs h1 h2
      obtain ⟨ys, a1, a2⟩ := hs.box n b T cs h1 h2
      exact ⟨ys, a1, a2.mono fun _ _ h => h.keep hk⟩
    · exact hs.tlen
    · intro n v e sz len h1 h2
      obtain ⟨a1, a2, a3⟩ := hs.tok n v e sz len h1 h2
      refine ⟨a1, a2, fun q hq => ⟨?_, (a3 q hq).2⟩⟩
      have e := (a3 q hq).1
      rw [lendG_none (none_of q fun y => by rw [e]; exact fun e => by cases e)]; exact e
    · intro b ho hb
      have hb' : (match hL b with | some _ => none | none => st.s.h b) = some ho := hb
      cases e : hL b with
      | some x => rw [e] at hb'; cases hb'
      | none =>
        rw [e] at hb'
        refine hs.globKeep (G' := lendG hL g) ⟨Im.le_refl _, hs.im, Nat.le_refl _, fun b _ e => ⟨by rw [lendG_none (none_of b fun y => by rw [e]; exact fun e => by cases e)]; exact e, rfl, rfl⟩⟩ hb' fun q _ e' => ⟨rfl, ?_⟩
        cases eq : hL q with
        | none => rw [lendG_none eq]; exact e'
        | some x =>
          have := (hl q x eq).2
          rw [e'] at this
          have : b = q := by injection this
          subst this
          rw [e] at eq; cases eq
  · obtain ⟨ms, f1, f2, f3⟩ := h.defers
    exact ⟨ms, f1, f2, fun d hd => by
      obtain ⟨E, e1, e2, e3, e4⟩ := f3 d hd
      exact ⟨E, e1, e2, e3, imm E e4⟩⟩
  · obtain ⟨r, e1, e2⟩ := h.rnd l hl
    exact ⟨r, e1, imm l e2⟩

theorem Sim.regive {g : G} {w : World} {s : S} {hL : Heap} (hs : Sim g w s) (hb : ∀ b x, hL b = some x → b < w.heap.size ∧ g.role b = .imm ∧ ∀ k, g.I b k = none) : Sim (backG hL g) w s := by
  have none_of : ∀ b, g.role b ≠ .imm → hL b = none := fun b h => by
    cases e : hL b with
    | none => rfl
    | some x => exact absurd (hb b x e).2.1 h
  have hk : Keep g s.o (backG hL g) s.o := ⟨Im.le_refl _, fun _ _ h => h, fun _ _ _ _ h => .inl ⟨h, rfl⟩⟩
  constructor
  · exact hs.im
  · intro b k x hI
    have e : hL b = none := by
      cases e : hL b with
      | none => rfl
      | some y => have := (hb b y e).2.2 k; rw [show (backG hL g).I b k = g.I b k from rfl, this] at hI; cases hI
    rw [backG_none e]; exact hs.imr b k x hI
  · intro b h
    have e : hL b = none := by
      cases e : hL b with
      | none => rfl
      | some y => have := (hb b y e).1; omega
    rw [backG_none e]; exact hs.fresh b h
  · intro n b h
    have e := hs.loc n b h
    rw [backG_none (none_of b (by rw [e]; exact fun e => by cases e))]; exact e
  · exact hs.blen
  · intro n b T cs h1 h2
    obtain ⟨ys, a1, a2⟩ := hs.box n b T cs h1 h2
    exact ⟨ys, a1, a2.mono fun _ _ h => h.keep hk⟩
  · exact hs.tlen
  · intro n v e sz len h1 h2
    obtain ⟨a1, a2, a3⟩ := hs.tok n v e sz len h1 h2
    refine ⟨a1, a2, fun q hq => ⟨?_, (a3 q hq).2⟩⟩
    have e := (a3 q hq).1
    rw [backG_none (none_of q (by rw [e]; exact fun e => by cases e))]; exact e
  · intro b ho h
    refine hs.globKeep (G' := backG hL g) ⟨Im.le_refl _, hs.im, Nat.le_refl _, fun b _ e => ⟨?_, rfl, rfl⟩⟩ h fun q _ e => ⟨rfl, ?_⟩
    · rw [backG_none (none_of b (by rw [e]; exact fun e => by cases e))]; exact e
    · rw [backG_none (none_of q (by rw [e]; exact fun e => by cases e))]; exact e

open Classical in
set_option maxHeartbeats 1000000 in
theorem range_ok {D : Cfg2} {gop : Operand} {ps : Array Tmp} {assign body : Code}
    (iha : ∀ (n : Nat) (g0 : G) (w0 : World) (g : G) (w : World) (st : St) (a : Act) (Q : AX → St → Prop), Fra g0 w0 g w → Is D g w st a → awp D assign st Q → assign.wpIn (FR g0.fr.rnd) n D.P (PostQ D g0 w0 Q) a w)
    (ihb : ∀ (n : Nat) (g0 : G) (w0 : World) (g : G) (w : World) (st : St) (a : Act) (Q : AX → St → Prop), Fra g0 w0 g w → Is D g w st a → awp D body st Q → body.wpIn (FR g0.fr.rnd) n D.P (PostQ D g0 w0 Q) a w)
    (n : Nat) (g0 : G) (w0 : World) (g : G) (w : World) (st : St) (a : Act) (Q : AX → St → Prop) (hf : Fra g0 w0 g w) (his : Is D g w st a) (h : RangeA D gop ps (awp D assign) (awp D body) st Q) :
    (Code.rangeFunc gop ps assign body).wpIn (FR g0.fr.rnd) n D.P (PostQ D g0 w0 Q) a w := by
  obtain ⟨f, caps, items, hL, c, I, ⟨hgop, hseq, hlnd, hlen, hpsb0⟩, ⟨hin, hfl, hI0⟩, hround, hdone⟩ := h.inv
  obtain ⟨hfc, hic0⟩ := his.cut hin
  rw [Bool.and_eq_true] at hpsb0
  obtain ⟨hpsb, hnor0⟩ := hpsb0
  have hnor : ∀ {p : Prop}, D.nor = true → p := fun e => by rw [e] at hnor0; cases hnor0
  rw [Option.bind_eq_some_iff] at hgop
  obtain ⟨fv, hg1, hg2⟩ := hgop
  obtain ⟨t0, ht0⟩ : ∃ t0, t0 = keepT c.ks st.t := ⟨_, rfl⟩
  rw [← ht0] at hround hdone hfl
  -- the function that is ranged over
  obtain ⟨gC, hgC⟩ : ∃ gC, gC = cutG c g := ⟨_, rfl⟩
  rw [← hgC] at hfc hic0
  -- what is lent
  have lent : ∀ b x, hL b = some x → gC.role b = .glob b ∧ b < w.heap.size ∧ (∀ k, gC.I b k = none) ∧ HRel gC w b x := fun b x hx => by
    obtain ⟨e1, T, cs, rfl⟩ := hlnd b x hx
    obtain ⟨k1, k2, k3⟩ := hic0.sim.glob b _ e1
    refine ⟨k2, k1, fun k => ?_, k3⟩
    cases e : gC.I b k with
    | none => rfl
    | some y => rcases hic0.sim.imr b k y e with h | ⟨_, h⟩ | h <;> rw [k2] at h <;> cases h
  obtain ⟨gc0, hgc0⟩ : ∃ gc0, gc0 = lendG hL gC := ⟨_, rfl⟩
  have hic : Is D gc0 w ⟨(st.cut c).t, (st.cut c).s.lend hL⟩ a := by rw [hgc0]; exact hic0.lend fun b x hx => ⟨(hlnd b x hx).1, (lent b x hx).1⟩
  have roleL : ∀ b, hL b = none → gc0.role b = gC.role b := fun b e => by rw [hgc0]; show (match hL b with | some _ => Role.imm | none => gC.role b) = _; rw [e]
  have roleL' : ∀ b x, hL b = some x → gc0.role b = .imm := fun b x e => by rw [hgc0]; show (match hL b with | some _ => Role.imm | none => gC.role b) = _; rw [e]
  obtain ⟨fn', q1, q2, q3⟩ := hseq.fn
  rw [← hf.fr]
  refine wpIn_rangeFunc ?_
  intro fn _
  -- the record
  obtain ⟨D0, hD0⟩ : ∃ D0 : Nat, D0 = (match g.fr.rnd with | none => w.heap.size | some l₀ => match w.heap[l₀]? with | some (.loop r) => r.defers | _ => 0) := ⟨_, rfl⟩
  obtain ⟨rec, hrec⟩ : ∃ rec : LoopState → Option Code → Loop, rec = fun st pe => { state := st, pending := pe, fn, tmps := a.tmps, params := ps, assign, body, defers := D0 } := ⟨_, rfl⟩
  have hlay : ∃ (l : Nat) (mk : List Nat) (w1 : World), (Instr.enterLoop fn a.tmps ps assign body g.fr.rnd).run D.P w = .ok (l, mk.map fun m => { target := .collected m, args := #[] }) w1 ∧ w.heap.size ≤ w1.heap.size ∧ (∀ b, b < w.heap.size → w1.heap[b]? = w.heap[b]?) ∧
      w1.os = w.os ∧ w1.tape = w.tape ∧ w1.output = w.output ∧ w.heap.size ≤ l ∧ w1.heap[l]? = some (.loop (rec .ready none)) ∧ (∀ m ∈ mk, w.heap.size ≤ m ∧ w1.heap[m]? = some (.deferred (some []))) ∧ mk.Nodup := by
    cases hr : g.fr.rnd with
    | none =>
      rw [hr] at hD0
      refine ⟨w.heap.size + 1, [w.heap.size], (w.alloc (.deferred (some []))).alloc (.loop (rec .ready none)), ?_, by simp; omega, fun b hb => ?_, rfl, rfl, rfl, by omega, ?_, ?_, by simp⟩
      · rw [hrec, hD0]; exact run_enterLoop_outer _ _ _ _ _
      · rw [RowKit.Below.heap_alloc _ _ b (by simp; omega), RowKit.Below.heap_alloc _ _ b hb]
      · have := World.alloc_heap_new (w.alloc (.deferred (some []))) (.loop (rec .ready none)); rwa [World.size_alloc] at this
      · intro m hm
        simp at hm; subst hm
        exact ⟨Nat.le_refl _, (RowKit.Below.heap_alloc _ _ _ (by simp)).trans (World.alloc_heap_new w _)⟩
    | some l₀ =>
      obtain ⟨r, e1, e2⟩ := his.rnd l₀ hr
      have hD1 : D0 = r.defers := by rw [hD0, hr]; simp [e1]
      refine ⟨w.heap.size, [], w.alloc (.loop (rec .ready none)), ?_, by simp, fun b hb => RowKit.Below.heap_alloc _ _ b hb, rfl, rfl, rfl, Nat.le_refl _, World.alloc_heap_new w _, fun m hm => (by cases hm), List.nodup_nil⟩
      rw [hrec, hD1]; exact run_enterLoop_inner e1 _ _ _ _ _
  obtain ⟨l, mk, w1, hent, hsz1, hold1, hos1, htape1, hout1, hl1, hlrec, hmk, hmkn⟩ := hlay
  have hs1 : Sim gc0 w1 ((st.cut c).s.lend hL) := hic.sim.grow hold1 hsz1
  have imm1 : ∀ b, w.heap.size ≤ b → gc0.role b = .imm := hic.sim.fresh
  -- the caller's own, as the iterator sees it
  obtain ⟨gi0, hgi0⟩ : ∃ gi0 : G, gi0 = { I := gc0.I, role := fun b => match hL b with | some _ => .glob b | none => if gc0.role b = .imm ∧ b ≠ l ∧ b ∉ mk then .imm else .ext, bl := [], tk := [], fr := gc0.fr } := ⟨_, rfl⟩
  have lentlt : ∀ b x, hL b = some x → b ≠ l ∧ b ∉ mk := fun b x hx => by
    have := (lent b x hx).2.1
    exact ⟨by omega, fun hm => by have := (hmk b hm).1; omega⟩
  have role0 : ∀ b, hL b = none → gi0.role b = if gc0.role b = .imm ∧ b ≠ l ∧ b ∉ mk then .imm else .ext := fun b e => by
    rw [hgi0]; show (match hL b with | some _ => Role.glob b | none => _) = _; rw [e]
  have role0' : ∀ b x, hL b = some x → gi0.role b = .glob b := fun b x e => by
    rw [hgi0]; show (match hL b with | some _ => Role.glob b | none => _) = _; rw [e]
  have ext0 : ∀ b, ¬ (gc0.role b = .imm ∧ b ≠ l ∧ b ∉ mk) → gi0.role b = .ext := fun b h => by
    cases e : hL b with
    | none => rw [role0 b e, if_neg h]
    | some x => exact absurd ⟨roleL' b x e, lentlt b x e⟩ h
  obtain ⟨Jm, hJm⟩ : ∃ Jm : Code → S → Prop, Jm = fun cd s => (cd = .ret ∧ Q .ret ⟨t0, s⟩) ∨ ∃ id, cd = .exit id ∧ Q (.exit id) ⟨t0, s⟩ := ⟨_, rfl⟩
  -- one round
  have hok : ∀ k gi W avs vs n, RJ rec l mk gc0 w I Jm true k gi W → (∀ b k x, gi.I b k = some x → W.cell? ⟨b, k, none⟩ = some x) → (∀ b k x, gi.I b k = some x → gi.role b = .imm ∨ (∃ n, gi.role b = .tok n) ∨ gi.role b = .ext) → (∀ b, W.heap.size ≤ b → gi.role b = .imm) →
      items[k]? = some avs → RelVs gi.pub [] avs vs → YieldAt (FR none) n D.P l vs.toArray W fun e W' => ∃ g' x, FraY gi W g' W' ∧ e = .returned (.bool x) ∧ RJ rec l mk gc0 w I Jm x (k + 1) g' W' := by
    intro k gi W avs vs n hJ him himr hfresh hit hrv
    obtain ⟨gc, s, h1, h2, h3, h4, h5, h6, h7, _⟩ := hJ.ex
    obtain ⟨hI, hlr⟩ := h7 rfl
    have hlW : l < W.heap.size := (Array.getElem?_eq_some_iff.1 hlr).1
    have hwW : w.heap.size ≤ W.heap.size := by omega
    have hvl : vs.length = ps.size := by
      have := hlen avs (List.mem_of_getElem? hit)
      have := (RelVs.of_pub (gc := gc) (o := s.o) h1 hrv).length
      omega
    have hy := run_yield (P := D.P) (args := vs.toArray) hlr (by rw [hrec]; simpa using hvl)
    refine ⟨_, _, _, _, hy, roundIn_of_wpIn trivial ?_⟩
    have hra : (rec .ready none).assign = assign := by rw [hrec]
    have hrb : (rec .ready none).body = body := by rw [hrec]
    rw [hra, hrb]
    -- the frame of the round
    let gA : G := { gc with fr := { gc.fr with rnd := some l, dfr := [] } }
    have hzip : ((rec .ready none).params.zip vs.toArray).foldl (fun tmps (t, a) => tmps.setIfInBounds t a) (rec .ready none).tmps = (ps.toList.zip vs).foldl (fun (t : Array Value) (p : Nat × Value) => t.setIfInBounds p.1 p.2) a.tmps := by
      rw [hrec, ← Array.foldl_toList]; simp [Array.toList_zip]
    have hisA : Is D gA W ⟨putPs ps.toList avs t0, s⟩ { tmps := ((rec .ready none).params.zip vs.toArray).foldl (fun tmps (t, a) => tmps.setIfInBounds t a) (rec .ready none).tmps, defers := [] } := by
      rw [hzip]
      refine ⟨h4.setFr _, ?_, ?_, Marks.nil _ _ rfl, ?_, ?_, ?_, fun _ => rfl⟩
      · have : ∀ (l : List (Nat × Value)) (t : Array Value), (l.foldl (fun (t : Array Value) (p : Nat × Value) => t.setIfInBounds p.1 p.2) t).size = t.size := by
          intro l
          induction l with
          | nil => intro t; rfl
          | cons x l ih => intro t; rw [List.foldl_cons, ih]; simp
        show ((ps.toList.zip vs).foldl _ a.tmps).size = _
        rw [this]; exact his.size
      · intro t v hv
        refine look_putPs D.nt ps.toList avs vs t0 a.tmps (RelV gA s.o) his.size hpsb (RelVs.of_pub (gc := gA) h1 hrv) (fun k v hk => ?_) t v hv
        have hk' : look (st.cut c).t k = some v := by rw [show (st.cut c).t = t0 from ht0.symm]; exact hk
        have hre := hic.env k v hk'
        obtain ⟨x, hx, rfl⟩ := look_mem hk
        exact RelV.floor (g' := gA) (fl := D.floor) h2.le (fun n b hn hb => h2.bl n b (by rw [hic.fl]; exact hn) hb) (List.all_eq_true.1 hfl x hx) hre
      · intro l' hl'
        cases hl'
        exact ⟨_, hlr, h5.2⟩
      · show gc.fr.fl = D.floor
        rw [h2.fr]; exact hic.fl
      · show gc.fr.base ≤ W.heap.size
        rw [h2.fr]; exact Nat.le_trans hic.base hwW
    refine wpIn_mono (iha n gA W gA W _ _ _ (.refl _ _) hisA (hround k s avs (List.getElem?_eq_some_iff.1 hit).1 hI hit)) ?_
    intro e a2 W2 hp
    obtain ⟨ax, st2, g2, x1, ⟨hax, x2⟩, x3, x4⟩ := hp
    subst hax
    cases e with
    | normal =>
      have hl2 : W2.heap[l]? = some (.loop (rec .ready none)) := (x3.imm l hlW h5.2).1.trans hlr
      have hi2 : g2.role l = .imm := (x3.imm l hlW h5.2).2.1
      refine ⟨_, run_beginRound hl2 (by rw [hrec]), ?_⟩
      obtain ⟨b1, b2, b3, b4⟩ := x4.sim.bump (.loop { rec .ready none with state := .busy }) hl2 rfl hi2
      obtain ⟨W3, hW3⟩ : ∃ W3, W3 = W2.putObj l (.loop { rec .ready none with state := .busy }) := ⟨_, rfl⟩
      have hos3 : W3.os = W2.os ∧ W3.tape = W2.tape ∧ W3.output = W2.output := by rw [hW3]; exact ⟨rfl, rfl, rfl⟩
      rw [← hW3] at b1 b2 b3 b4 ⊢
      have his3 : Is D g2 W3 st2 a2 := by
        obtain ⟨ms, f1, f2, f3⟩ := x4.defers
        refine ⟨b1, x4.size, x4.env, ⟨ms, f1, f2, fun d hd => ?_⟩, fun l' hl' => ?_, x4.fl, by rw [b4]; exact x4.base, x4.nor⟩
        · obtain ⟨E, e1, e2, e3, e4⟩ := f3 d hd
          refine ⟨E, e1, e2, (b2 E fun e => ?_).trans e3, e4⟩
          subst e; rw [hl2] at e3; cases e3
        · have : g2.fr.rnd = some l := by rw [x3.fr]
          rw [this] at hl'
          cases hl'
          exact ⟨_, b3, hi2⟩
      have hbod := ihb n g2 W3 g2 W3 st2 a2 _ (.refl _ _) his3 x2
      rw [show FR g2.fr.rnd = (FR none).inRound l by rw [x3.fr]; rfl] at hbod
      refine wpIn_mono hbod ?_
      intro e a4 W4 hp4
      obtain ⟨ay, st4, g4, y1, ⟨hin4, y2⟩, y3, y4⟩ := hp4
      obtain ⟨z1, z2⟩ := y4.cut hin4
      have hl3' : l < W3.heap.size := by rw [b4]; exact (Array.getElem?_eq_some_iff.1 hl2).1
      have hl4 : W4.heap[l]? = some (.loop { rec .ready none with state := .busy }) := (y3.imm l hl3' hi2).1.trans b3
      have hi4 : (cutG c g4).role l = .imm := by
        have := (y3.imm l hl3' hi2).2.1
        exact (z1.imm l (Array.getElem?_eq_some_iff.1 hl4).1 this).2.1
      have hall : FraR gA W (cutG c g4) := by
        have h0 : FraR gA W gA := ⟨Im.le_refl _, rfl, fun b _ => ⟨id, fun _ => id, id⟩, fun _ _ _ h => h⟩
        exact ((h0.fra x3 (Nat.le_refl _)).fra y3 (by rw [b4]; exact x3.size)).fra z1 (by have := y3.size; rw [b4] at this; exact Nat.le_trans x3.size this)
      -- what isn't the caller's stays
      have hst4 : ∀ b, b < W.heap.size → gc.role b = .imm → b ≠ l → W4.heap[b]? = W.heap[b]? ∧ (cutG c g4).I b = gc.I b ∧ (cutG c g4).role b = .imm := fun b hb hr hbl => by
        obtain ⟨u1, u2, u3⟩ := x3.imm b hb hr
        have hb2 : b < W2.heap.size := Nat.lt_of_lt_of_le hb x3.size
        obtain ⟨v1, v2, v3⟩ := y3.imm b (by rw [b4]; exact hb2) u2
        obtain ⟨w1, w2, w3⟩ := z1.imm b (Nat.lt_of_lt_of_le hb2 (by have := y3.size; rw [b4] at this; exact this)) v2
        exact ⟨v1.trans ((b2 b hbl).trans u1), w3.trans (v3.trans u3), w2⟩
      have hszW4 : W.heap.size ≤ W4.heap.size := by have := y3.size; rw [b4] at this; exact Nat.le_trans x3.size this
      -- the round's end
      have fin : ∀ (jump : Option Code), (jump = none → I (k + 1) (st4.cut c).s) → (∀ cd, jump = some cd → Jm cd (st4.cut c).s) → ∃ v w', (Instr.endRound l jump).run D.P W4 = .ok v w' ∧ ∃ g' x, FraY gi W g' w' ∧ Ending.returned v = .returned (.bool x) ∧ RJ rec l mk gc0 w I Jm x (k + 1) g' w' := by
        intro jump hj1 hj2
        have hend := run_endRound (P := D.P) jump hl4
        obtain ⟨c1, c2, c3, c4⟩ := z2.sim.bump (.loop { { rec .ready none with state := .busy } with state := if jump.isNone then .ready else .done, pending := jump }) hl4 rfl hi4
        refine ⟨_, _, hend, ?_⟩
        obtain ⟨W5, hW5⟩ : ∃ W5, W5 = W4.putObj l (.loop { { rec .ready none with state := .busy } with state := if jump.isNone then .ready else .done, pending := jump }) := ⟨_, rfl⟩
        have hos5 : W5.os = W4.os ∧ W5.tape = W4.tape ∧ W5.output = W4.output := by rw [hW5]; exact ⟨rfl, rfl, rfl⟩
        rw [← hW5] at c1 c2 c3 c4 ⊢
        obtain ⟨gJ, hgJ⟩ : ∃ gJ : G, gJ = { cutG c g4 with fr := gc.fr } := ⟨_, rfl⟩
        have sJ : Sim gJ W5 (st4.cut c).s := by rw [hgJ]; exact c1.setFr _
        have rJ : gJ.role = (cutG c g4).role := by rw [hgJ]
        have iJ : gJ.I = (cutG c g4).I := by rw [hgJ]
        refine ⟨{ gi with I := gJ.I, role := fun b => if b < W.heap.size then gi.role b else if gJ.role b = .imm then .imm else .ext }, jump.isNone, ?_, rfl, ?_⟩
        · refine ⟨by rw [hos5.1, y3.os, hos3.1, x3.os], by rw [hos5.2.1, y3.tape, hos3.2.1, x3.tape], by rw [hos5.2.2, y3.output, hos3.2.2, x3.output], by rw [c4]; exact hszW4, ?_, fun b hb hr => ?_, fun b hb => if_pos hb, sJ.im, fun b kk x hb hx => ?_, fun b hb => ?_, rfl, rfl, rfl⟩
          · show gi.I.le gJ.I
            rw [← h1, iJ]; exact hall.le
          · have hgcr : gc.role b = .imm := by
              cases e : gc.role b with
              | imm => rfl
              | _ => exact absurd (h3 b (by rw [e]; exact fun e => by cases e)) hr
            have hbl : b ≠ l := fun e => by subst e; exact hr h5.1
            obtain ⟨u1, u2, _⟩ := hst4 b hb hgcr hbl
            exact ⟨(c2 b hbl).trans u1, by show gJ.I b = _; rw [iJ, u2, h1]⟩
          · show (if b < W.heap.size then gi.role b else if gJ.role b = .imm then Role.imm else .ext) = _ ∨ (if b < W.heap.size then gi.role b else if gJ.role b = .imm then Role.imm else .ext) = _
            rw [if_neg (by omega)]
            by_cases e : gJ.role b = .imm
            · rw [if_pos e]; exact .inl rfl
            · rw [if_neg e]; exact .inr rfl
          · show (if b < W.heap.size then gi.role b else if gJ.role b = .imm then Role.imm else .ext) = .imm
            rw [if_neg (by rw [c4] at hb; omega), if_pos (sJ.fresh b hb)]
        · refine ⟨gJ, (st4.cut c).s, rfl, ?_, fun b hb => ?_, sJ, ⟨?_, by rw [rJ]; exact hi4⟩, fun m hm => ?_, fun hx => ?_, fun hx => ?_⟩
          · refine ⟨Im.le_trans h2.le (by rw [iJ]; exact hall.le), by rw [hgJ]; exact h2.fr, fun b hb => ?_, fun n b hn hb => ?_⟩
            · obtain ⟨a1, a2, a3⟩ := h2.role b hb
              obtain ⟨a1', a2', a3'⟩ := hall.role b (by omega)
              rw [rJ]
              exact ⟨fun e => a1' (a1 e), fun x e => a2' x (a2 x e), fun e => a3' (a3 e)⟩
            · have := hall.bl n b (by show n < gc.fr.fl; rw [h2.fr]; exact hn) (h2.bl n b hn hb)
              rw [hgJ]; exact this
          · show (if b < W.heap.size then gi.role b else if gJ.role b = .imm then Role.imm else .ext) = .ext
            by_cases hlt : b < W.heap.size
            · rw [if_pos hlt]
              by_cases e : gi.role b = .ext
              · exact e
              · exfalso
                have hgcr : gc.role b = .imm := by
                  cases e' : gc.role b with
                  | imm => rfl
                  | _ => exact absurd (h3 b (by rw [e']; exact fun e => by cases e)) e
                exact hb (by rw [rJ]; exact (hst4 b hlt hgcr (fun e' => by subst e'; exact e h5.1)).2.2)
            · rw [if_neg hlt, if_neg hb]
          · show (if l < W.heap.size then gi.role l else _) = _
            rw [if_pos hlW]; exact h5.1
          · obtain ⟨m1, m2, m3⟩ := h6 m hm
            have hmlt := (Array.getElem?_eq_some_iff.1 m3).1
            have hml : m ≠ l := fun e => by subst e; rw [hlr] at m3; cases m3
            obtain ⟨u1, _, u3⟩ := hst4 m hmlt m2 hml
            exact ⟨by show (if m < W.heap.size then gi.role m else _) = _; rw [if_pos hmlt]; exact m1, by rw [rJ]; exact u3, (c2 m hml).trans (u1.trans m3)⟩
          · cases jump with
            | none => exact ⟨hj1 rfl, by rw [c3, hrec]; rfl⟩
            | some cd => cases hx
          · cases jump with
            | none => cases hx
            | some cd => exact ⟨cd, hj2 cd rfl, by rw [c3, hrec]; rfl⟩
      cases e with
      | normal =>
        cases ay with
        | normal => exact fin none (fun _ => y2) (fun _ h => by cases h)
        | _ => exact y1.elim
      | ret =>
        cases ay with
        | ret => exact fin (some .ret) (fun h => by cases h) (fun cd h => by cases h; rw [hJm]; exact .inl ⟨rfl, y2⟩)
        | _ => exact y1.elim
      | exit id =>
        cases ay with
        | exit id' =>
          have : id' = id := y1
          subst this
          exact fin (some (.exit id')) (fun h => by cases h) (fun cd h => by cases h; rw [hJm]; exact .inr ⟨_, rfl, y2⟩)
        | _ => exact y1.elim
      | goto t => cases ay <;> exact y1.elim
      | panic ch =>
        cases ay with
        | panic v => exact y2.elim
        | _ => exact y1.elim
      | outgrown => cases ay <;> exact y1.elim
    | _ => exact x1.elim
  let cb : CB := { P := D.P, l := l, items := items, J := RJ rec l mk gc0 w I Jm, closed := fun x k g w g' w' hJ h => RJ.closed hJ h, ok := hok }
  -- the iterator's own view where it begins
  have hJ0 : RJ rec l mk gc0 w I Jm true 0 gi0 w1 := by
    refine ⟨gc0, (st.cut c).s.lend hL, by rw [hgi0], ⟨Im.le_refl _, rfl, fun b _ => ⟨id, fun _ => id, id⟩, fun _ _ _ h => h⟩, fun b hb => ext0 b fun h => hb h.1, hs1, ⟨ext0 l fun h => h.2.1 rfl, imm1 l hl1⟩, fun m hm => ⟨ext0 m fun h => h.2.2 hm, imm1 m (hmk m hm).1, (hmk m hm).2⟩, fun _ => ⟨hI0, hlrec⟩, fun h => by cases h⟩
  have hlw1 : l < w1.heap.size := (Array.getElem?_eq_some_iff.1 hlrec).1
  have Igi : gi0.I = gC.I := by rw [hgi0, hgc0]; rfl
  have hsi0 : Sim gi0 w1 ⟨[], [], upd hL cb.l (.seq cb true 0)⟩ := by
    constructor
    · intro b k x h; rw [hgi0] at h; exact hs1.im b k x h
    · intro b k x h
      cases e : hL b with
      | some y => rw [Igi, (lent b y e).2.2.1 k] at h; cases h
      | none =>
        rw [role0 b e]
        split
        · exact .inl rfl
        · exact .inr (.inr rfl)
    · intro b hb
      cases e : hL b with
      | some y => have := (lent b y e).2.1; omega
      | none => rw [role0 b e, if_pos ⟨hs1.fresh b hb, by omega, fun hm => by have := (Array.getElem?_eq_some_iff.1 (hmk b hm).2).1; omega⟩]
    · intro n b h; rw [hgi0] at h; simp at h
    · rw [hgi0]; rfl
    · intro n b T cs h; rw [hgi0] at h; simp at h
    · rw [hgi0]; rfl
    · intro n v e sz len h; rw [hgi0] at h; simp at h
    · intro b ho h
      by_cases hb : b = l
      · subst hb
        have h' : upd hL b (.seq cb true 0) b = some ho := h
        rw [upd_same] at h'
        cases h'
        exact ⟨hlw1, ext0 b fun h => h.2.1 rfl, rfl, hJ0⟩
      · have h' : upd hL l (.seq cb true 0) b = some ho := h
        rw [upd_ne _ _ hb] at h'
        obtain ⟨k1, k2, _, k4⟩ := lent b ho h'
        obtain ⟨_, T, cs, rfl⟩ := hlnd b ho h'
        obtain ⟨ys, a1, a2⟩ := k4
        exact ⟨by omega, role0' b _ h', ys, (hold1 b k2).trans a1, by rw [Igi]; exact a2⟩
  have hbare : Bare gi0 := ⟨by rw [hgi0], by rw [hgi0], fun b => by
    cases e : hL b with
    | some y => rw [role0' b y e]; exact .inr (.inl ⟨b, rfl⟩)
    | none =>
      rw [role0 b e]
      split
      · exact .inl rfl
      · exact .inr (.inr rfl)⟩
  have hrg : RelV gi0 [] fv (a.eval gop) := fnA_rel hg2 (by rw [Igi, hgC]; exact Im.le_refl _) (his.rho gop fv hg1)
  obtain ⟨p, q, hv, r1, hcaps⟩ := fnA_ok (s := ⟨[], [], fun _ => none⟩) hrg hg2
  have hp : p = [] := by cases p with | nil => rfl | cons => exact r1.elim
  subst hp
  have hLl : hL l = none := by
    cases e : hL l with
    | none => rfl
    | some x => exact absurd rfl (lentlt l x e).1
  have hcall := hseq.run cb gi0 w1 q (n - 1) rfl rfl hLl hbare hsi0 hcaps
  obtain ⟨a', ha'⟩ : ∃ a' : Act, a' = { a with defers := (mk.map fun m => { target := .collected m, args := #[] }) ++ a.defers } := ⟨_, rfl⟩
  -- behind the loop
  have behind : ∀ (x : Bool) (k : Nat) (g' : G) (w3 : World) (o : Obj), Fra gi0 w1 g' w3 → (∀ b k x, g'.I b k = some x → ∀ y, g'.role b ≠ .glob y) → RJ rec l mk gc0 w I Jm x k g' w3 → ∃ gc s, (x = true → I k s) ∧ (x = false → ∃ cd, Jm cd s ∧ w3.heap[l]? = some (.loop (rec .done (some cd)))) ∧ (x = true → w3.heap[l]? = some (.loop (rec .ready none))) ∧
      Fra g w gc (w3.putObj l o) ∧ Is D gc (w3.putObj l o) ⟨t0, s⟩ a' := by
    intro x k g' w3 o hF hng hJ
    obtain ⟨gc, s, h1, h2, h3, h4, h5, h6, h7, h8⟩ := hJ.ex
    have hsz3 := hF.size
    -- what was lent is nobody's; its place is kept
    have back : ∀ b x, hL b = some x → b < w3.heap.size ∧ gc.role b = .imm ∧ ∀ k, gc.I b k = none := fun b x hx => by
      have hb := (lent b x hx).2.1
      refine ⟨by omega, (h2.role b hb).1 (roleL' b x hx), fun k => ?_⟩
      cases e : gc.I b k with
      | none => rfl
      | some y => rw [h1] at e; exact absurd (hF.glob b b (by omega) (role0' b x hx)) (hng b k y e b)
    obtain ⟨o1, ho1, ho2⟩ : ∃ o1, w3.heap[l]? = some o1 ∧ o1.isCells = false := by
      cases x with
      | true => exact ⟨_, (h7 rfl).2, rfl⟩
      | false => obtain ⟨cd, _, h⟩ := h8 rfl; exact ⟨_, h, rfl⟩
    obtain ⟨b1', b2, b3, b4⟩ := h4.bump o ho1 ho2 h5.2
    obtain ⟨gE, hgE⟩ : ∃ gE, gE = backG hL gc := ⟨_, rfl⟩
    have b1 : Sim gE (w3.putObj l o) s := by rw [hgE]; exact b1'.regive fun b x hx => by rw [b4]; exact back b x hx
    have roleE : ∀ b, hL b = none → gE.role b = gc.role b := fun b e => by rw [hgE]; show (match hL b with | some _ => Role.glob b | none => gc.role b) = _; rw [e]
    have roleE' : ∀ b x, hL b = some x → gE.role b = .glob b := fun b x e => by rw [hgE]; show (match hL b with | some _ => Role.glob b | none => gc.role b) = _; rw [e]
    have none_of : ∀ b, (∀ y, gC.role b ≠ .glob y) → hL b = none := fun b h => by
      cases e : hL b with
      | none => rfl
      | some x => exact absurd (lent b x e).1 (h b)
    have IE : gE.I = gc.I := by rw [hgE]; rfl
    have IC : gc0.I = gC.I := by rw [hgc0]; rfl
    have blE : gE.bl = gc.bl := by rw [hgE]; rfl
    have blC : gc0.bl = gC.bl := by rw [hgc0]; rfl
    have frE : gE.fr = gC.fr := by rw [hgE]; show gc.fr = _; rw [h2.fr, hgc0]; rfl
    have hfra : Fra g w gE (w3.putObj l o) := by
      refine hfc.trans ⟨?_, ?_, ?_, by rw [b4]; omega, by rw [IE, ← IC]; exact h2.le, fun b hb hr => ?_, fun b x hb hr => ?_, fun b hb hr => ?_, frE, fun n b hn hb => ?_⟩
      · show w3.os = w.os; rw [hF.os, hos1]
      · show w3.tape = w.tape; rw [hF.tape, htape1]
      · show w3.output = w.output; rw [hF.output, hout1]
      · have e := none_of b (fun y => by rw [hr]; exact fun e => by cases e)
        rw [← roleL b e] at hr
        have hri : gi0.role b = .imm := by
          rw [role0 b e, if_pos ⟨hr, by omega, fun hm => by have := (hmk b hm).1; omega⟩]
        obtain ⟨u1, u2, u3⟩ := hF.imm b (by omega) hri
        refine ⟨(b2 b (by omega)).trans (u1.trans (hold1 b hb)), by rw [roleE b e]; exact (h2.role b hb).1 hr, ?_⟩
        rw [IE, h1, u3, Igi]
      · cases e : hL b with
        | some y => rw [(lent b y e).1] at hr; rw [roleE' b y e]; exact hr
        | none => rw [roleE b e]; exact (h2.role b hb).2.1 x (by rw [roleL b e]; exact hr)
      · have e := none_of b (fun y => by rw [hr]; exact fun e => by cases e)
        rw [roleE b e]; exact (h2.role b hb).2.2 (by rw [roleL b e]; exact hr)
      · rw [blE]; exact h2.bl n b (by rw [hgc0]; exact hn) (by rw [blC]; exact hb)
    refine ⟨gE, s, fun e => (h7 e).1, h8, fun e => (h7 e).2, hfra, ⟨b1, by rw [ha']; exact his.size, fun t v hv => ?_, ?_, rnd_fra hfra his.rnd, by rw [frE]; exact hic0.fl, by rw [frE, b4]; exact Nat.le_trans hic0.base (by omega), fun e => hnor e⟩⟩
    · have hk' : look (st.cut c).t t = some v := by rw [show (st.cut c).t = t0 from ht0.symm]; exact hv
      have hre := hic.env t v hk'
      obtain ⟨x, hx, rfl⟩ := look_mem hv
      rw [ha']
      exact RelV.floor (fl := D.floor) (by rw [IE]; exact h2.le) (fun n b hn hb => by rw [blE]; exact h2.bl n b (by rw [hic.fl]; exact hn) hb) (List.all_eq_true.1 hfl x hx) hre
    · rw [ha']
      obtain ⟨ms, o1, o2, o3⟩ := his.defers.fra hfra
      obtain ⟨ms', p1, p2, p3⟩ := his.defers
      have hms : ms' = ms := by
        rw [o1, hfra.fr] at p1
        exact List.append_cancel_right p1.symm
      subst hms
      refine ⟨(mk.map fun m => { target := .collected m, args := #[] }) ++ ms', ?_, ?_, fun d hd => ?_⟩
      · show _ ++ a.defers = _
        rw [o1, List.append_assoc]
      · refine List.nodup_append.2 ⟨?_, o2, ?_⟩
        · exact List.Pairwise.map _ (fun x y hxy e => hxy (by simpa using e)) hmkn
        · intro d hd d' hd' e
          subst e
          obtain ⟨m, hm, rfl⟩ := List.mem_map.1 hd
          obtain ⟨E, e1, e2, e3, e4⟩ := p3 _ hd'
          have : m = E := by simpa using e1
          subst this
          have := (Array.getElem?_eq_some_iff.1 e3).1
          have := (hmk m hm).1
          omega
      · rcases List.mem_append.1 hd with hd | hd
        · obtain ⟨m, hm, rfl⟩ := List.mem_map.1 hd
          obtain ⟨m1, m2, m3⟩ := h6 m hm
          have hml : m ≠ l := fun e => by
            subst e
            rw [ho1] at m3; cases m3
            cases x with
            | true => have := (h7 rfl).2; rw [ho1] at this; cases this
            | false => obtain ⟨cd, _, h⟩ := h8 rfl; rw [ho1] at h; cases h
          have hmn : hL m = none := by
            cases e : hL m with
            | none => rfl
            | some x => exact absurd hm (lentlt m x e).2
          refine ⟨m, rfl, ?_, (b2 m hml).trans m3, by rw [roleE m hmn]; exact m2⟩
          rw [frE]
          have := hic0.base
          have := (hmk m hm).1
          omega
        · exact o3 d hd
  refine ⟨l, _, w1, { target := .fn (.func f) q.toArray, args := #[.func (.yield l) #[] #[]] }, w1, f, #[.func (.yield l) #[] #[]] ++ q.toArray, w1, hent, ?_, fun _ _ => trivial, ?_, fun h => by simp [FR, Fence.wide] at h, ?_⟩
  · simp only [resolve, hv]
    simp [go_sem]
  · have hnb : fn'.body.isNone = false := by cases hb : fn'.body <;> simp [hb] at q2 ⊢
    have hcf : ∀ args, (callFunc f args).run D.P w1 = .ok (.enter f args) w1 := fun args => by
      simp only [callFunc, Sem.run_bind, run_program, Result.andThen_ok, q1, q3, hnb]
      rfl
    exact hcf _
  · refine calls_FR ((calls_FR' hcall).mono ?_)
    rintro e w3 ⟨g', hF, him, hng, ⟨v, rfl⟩, hJ⟩
    rw [← ha']
    rcases hJ with hJ | ⟨k, hk, hJ⟩
    · obtain ⟨gc, s, k1, _, k3, k4, k5⟩ := behind true _ g' w3 (.loop { rec .ready none with state := .exhausted }) hF hng hJ
      have hend := run_endLoop (P := D.P) (k3 rfl) (by rw [hrec]; simp)
      have hpn : (rec .ready none).pending = none := by rw [hrec]
      refine ⟨none, _, hend.trans (congrArg (fun p => Result.ok p _) hpn), ?_⟩
      rw [hf.fr]
      exact ⟨.normal, ⟨t0, s⟩, gc, trivial, hdone s (k1 rfl), hf.trans k4, k5⟩
    · obtain ⟨_, _, _, _, _, _, _, _, _, hx8⟩ := hJ.ex
      obtain ⟨cd, _, j2⟩ := hx8 rfl
      obtain ⟨gc, s, _, k2, _, k4, k5⟩ := behind false _ g' w3 (.loop { rec .done (some cd) with state := .exhausted }) hF hng hJ
      obtain ⟨cd', j1, j2'⟩ := k2 rfl
      have hcd : cd = cd' := by
        rw [j2] at j2'
        rw [hrec] at j2'
        simpa using j2'
      subst hcd
      have hend := run_endLoop (P := D.P) j2 (by rw [hrec]; simp)
      have hpn : (rec .done (some cd)).pending = some cd := by rw [hrec]
      refine ⟨some cd, _, hend.trans (congrArg (fun p => Result.ok p _) hpn), ?_⟩
      dsimp only
      rw [hf.fr]
      rw [hJm] at j1
      rcases j1 with ⟨rfl, hQ⟩ | ⟨id, rfl, hQ⟩
      · exact wpIn_ret ⟨.ret, ⟨t0, s⟩, gc, trivial, hQ, hf.trans k4, k5⟩
      · exact wpIn_exit ⟨.exit id, ⟨t0, s⟩, gc, rfl, hQ, hf.trans k4, k5⟩

theorem awp_ok {D : Cfg2} (hty : ∀ t i, D.ty t = some i → TIOk D.P t i) (hmix : D.P.follows .mixedOrders = true) : ∀ (c : Code) (n : Nat) (g0 : G) (w0 : World) (g : G) (w : World) (st : St) (a : Act) (Q : AX → St → Prop), Fra g0 w0 g w → Is D g w st a → awp D c st Q →
    c.wpIn (FR g0.fr.rnd) n D.P (PostQ D g0 w0 Q) a w := by
  intro c
  induction c with
  | skip => intro n g0 w0 g w st a Q hf his h; rw [← hf.fr]; exact wpIn_skip ⟨.normal, st, g, trivial, h, hf, his⟩
  | region id ops draw =>
    intro n g0 w0 g w st a Q hf his h; rw [← hf.fr]
    cases draw with
    | false => exact wpIn_region (by rw [hf.fr]; exact opsA_ok hty _ g w st a hf his h)
    | true => rw [hf.fr]; exact region_draw_ok hty hmix h.l hf his h.r
  | seq x y ihx ihy =>
    intro n g0 w0 g w st a Q hf his h; rw [← hf.fr]
    refine wpIn_seq (wpIn_mono (ihx n g w g w st a _ (.refl _ _) his h) ?_)
    intro e a' w' hp
    obtain ⟨ax, st', g', h1, h2, h3, h4⟩ := hp
    cases e with
    | normal =>
      cases ax with
      | normal => rw [hf.fr]; exact ihy n g0 w0 g' w' st' a' Q (hf.trans h3) h4 h2
      | _ => exact h1.elim
    | _ => cases ax <;> first | exact h1.elim | exact ⟨_, st', g', h1, h2, hf.trans h3, h4⟩
  | cond c x y ihx ihy =>
    intro n g0 w0 g w st a Q hf his h; rw [← hf.fr]
    simp only [awp] at h
    split at h
    · rename_i hc
      have hr : Rel g.I _ _ := his.rho c _ hc
      have hv : a.eval c = .bool true := by generalize a.eval c = v at hr; cases hr; rfl
      exact wpIn_cond_true hv (by rw [hf.fr]; exact ihx n g0 w0 g w st a Q hf his h)
    · rename_i hc
      have hr : Rel g.I _ _ := his.rho c _ hc
      have hv : a.eval c = .bool false := by generalize a.eval c = v at hr; cases hr; rfl
      exact wpIn_cond_false hv (by rw [hf.fr]; exact ihy n g0 w0 g w st a Q hf his h)
    · rename_i t hc
      have hr : Rel g.I _ _ := his.rho c _ hc
      have hv : a.eval c = .bool t := by generalize a.eval c = v at hr; cases hr; rfl
      exact wpIn_cond_split hv (fun ht => by rw [hf.fr]; exact ihx n g0 w0 g w st a Q hf his (h.t ht)) (fun ht => by rw [hf.fr]; exact ihy n g0 w0 g w st a Q hf his (h.f ht))
    · exact h.elim
  | block id c ih =>
    intro n g0 w0 g w st a Q hf his h; rw [← hf.fr]
    refine wpIn_block (wpIn_mono (ih n g w g w st a _ (.refl _ _) his h) ?_)
    intro e a' w' hp
    obtain ⟨ax, st', g', h1, h2, h3, h4⟩ := hp
    cases e with
    | exit i =>
      cases ax with
      | exit i' =>
        have h1 : i' = i := h1
        subst h1
        by_cases hi : i' = id
        · subst hi
          simp only [Exit.inBlock, if_true]
          simp only [Nat.beq_refl] at h2
          exact ⟨.normal, st', g', trivial, h2, hf.trans h3, h4⟩
        · simp only [Exit.inBlock, if_neg hi]
          have hb : Nat.beq i' id = false := by rw [beqd]; simpa using hi
          dsimp only at h2
          rw [hb] at h2
          exact ⟨.exit i', st', g', rfl, h2, hf.trans h3, h4⟩
      | _ => exact h1.elim
    | _ => cases ax <;> first | exact h1.elim | exact ⟨_, st', g', h1, h2, hf.trans h3, h4⟩
  | loop c ih =>
    intro n g0 w0 g w st a Q hf his h; rw [← hf.fr]
    obtain ⟨ct, I, ⟨hin, m, st1, hle, hI⟩, round⟩ := h.inv
    obtain ⟨hfc, hic⟩ := his.cut hin
    obtain ⟨g1, hf1, hi1⟩ := hle _ _ _ hic
    rw [hf.fr]
    refine wp_loopN (fun n a w => ∃ st g, I n st ∧ Fra g0 w0 g w ∧ Is D g w st a) ?_ m a w ⟨_, _, hI, (hf.trans hfc).trans hf1, hi1⟩
    clear hf his hfc hic hf1 hi1
    intro m a w hst
    obtain ⟨st, g, hI, hf, his⟩ := hst
    rw [← hf.fr]
    refine wpIn_mono (ih n g w g w st a _ (.refl _ _) his (round m st hI)) ?_
    intro e a' w' hp
    obtain ⟨ax, st', g', h1, h2, h3, h4⟩ := hp
    cases e with
    | normal =>
      cases ax with
      | normal =>
        obtain ⟨hin', m', hm, st2, hle', hI'⟩ := h2
        obtain ⟨hfc', hic'⟩ := h4.cut hin'
        obtain ⟨g2, hf2, hi2⟩ := hle' _ _ _ hic'
        exact ⟨m', hm, _, _, hI', ((hf.trans h3).trans hfc').trans hf2, hi2⟩
      | _ => exact h1.elim
    | _ => cases ax <;> first | exact h1.elim | exact ⟨_, st', g', h1, h2, hf.trans h3, h4⟩
  | exit id => intro n g0 w0 g w st a Q hf his h; rw [← hf.fr]; exact wpIn_exit ⟨.exit id, st, g, rfl, h, hf, his⟩
  | ret => intro n g0 w0 g w st a Q hf his h; rw [← hf.fr]; exact wpIn_ret ⟨.ret, st, g, trivial, h, hf, his⟩
  | rangeFunc gop ps assign body iha ihb => exact fun n g0 w0 g w st a Q hf his h => range_ok iha ihb n g0 w0 g w st a Q hf his h
  | _ => intro n g0 w0 g w st a Q hf his h; exact h.elim

/-! ### Cutting a body into pieces -/
/-- The reckoning's meaning. -/
def Awp (D : Cfg2) (c : Code) (st : St) (Q : AX → St → Prop) : Prop :=
  ∀ (g0 : G) (w0 : World) (g : G) (w : World) (a : Act), Fra g0 w0 g w → Is D g w st a → ∀ n, c.wpIn (FR g0.fr.rnd) n D.P (PostQ D g0 w0 Q) a w
theorem Awp.of {D : Cfg2} (hty : ∀ t i, D.ty t = some i → TIOk D.P t i) (hmix : D.P.follows .mixedOrders = true) {c : Code} {st : St} {Q : AX → St → Prop} (h : awp D c st Q) : Awp D c st Q :=
  fun g0 w0 g w a hf his n => awp_ok hty hmix c n g0 w0 g w st a Q hf his h
theorem Awp.seq {D : Cfg2} {x y : Code} {st : St} {Q : AX → St → Prop} (h : Awp D x st fun e st' => match e with
    | .normal => Awp D y st' Q
    | e => Q e st') : Awp D (.seq x y) st Q := by
  intro g0 w0 g w a hf his n
  rw [← hf.fr]
  refine wpIn_seq (wpIn_mono (h g w g w a (.refl _ _) his n) ?_)
  intro e a' w' hp
  obtain ⟨ax, st', g', h1, h2, h3, h4⟩ := hp
  cases e with
  | normal =>
    cases ax with
    | normal => rw [hf.fr]; exact h2 g0 w0 g' w' a' (hf.trans h3) h4 n
    | _ => exact h1.elim
  | _ => cases ax <;> first | exact h1.elim | exact ⟨_, st', g', h1, h2, hf.trans h3, h4⟩
/-- Behind the first piece only what the cut keeps is known, and that the state is one of some. -/
theorem Awp.cut {D : Cfg2} {x y : Code} {st : St} {Q : AX → St → Prop} (c : Cut) (I : St → Prop) (h1 : Awp D x st fun e st' => match e with
    | .normal => st'.insideB D.floor c = true ∧ ∃ st1, StLe D (st'.cut c) st1 ∧ I st1
    | e => Q e st') (h2 : ∀ st1, I st1 → Awp D y st1 Q) : Awp D (.seq x y) st Q := by
  intro g0 w0 g w a hf his n
  rw [← hf.fr]
  refine wpIn_seq (wpIn_mono (h1 g w g w a (.refl _ _) his n) ?_)
  intro e a' w' hp
  obtain ⟨ax, st', g', k1, k2, k3, k4⟩ := hp
  cases e with
  | normal =>
    cases ax with
    | normal =>
      obtain ⟨hin, st1, hle, hI⟩ := k2
      obtain ⟨hfc, hic⟩ := k4.cut hin
      obtain ⟨g1, hf1, hi1⟩ := hle _ _ _ hic
      rw [hf.fr]
      exact h2 st1 hI g0 w0 g1 w' a' (((hf.trans k3).trans hfc).trans hf1) hi1 n
    | _ => exact k1.elim
  | _ => cases ax <;> first | exact k1.elim | exact ⟨_, st', g', k1, k2, hf.trans k3, k4⟩

/-! ### Functions -/
def resA (D : Cfg2) (st : St) : List ResultVar → (List AV → Prop) → Prop
  | [], k => k []
  | .tmp t :: r, k => match look st.t t with
    | some v => (match v.noloc with
      | true => resA D st r fun l => k (v.share :: l)
      | false => False)
    | none => False
  | .cell t T :: r, k => match D.ty T with
    | some i => (match look st.t t with
      | some (.c (.loc n off)) => (match st.s.l[n]? with
        | some (_, cs) => loadOf i (cs.drop off) fun v => (match v.noloc with
          | true => resA D st r fun l => k (v.share :: l)
          | false => False)
        | none => False)
      | some (.c (.v (.pointer (some ⟨b, off, none⟩)))) => ∃ T' cs, st.s.h b = some (.cells T' cs) ∧ loadOf i (cs.drop off) fun v => (match v.noloc with
          | true => resA D st r fun l => k (v.share :: l)
          | false => False)
      | _ => False)
    | none => False

def oneOf : List AV → AV
  | [x] => x
  | l => .tup l

def funQ (D : Cfg2) (res : List ResultVar) (K : AEnd → Heap → Prop) : AX → St → Prop
  | .normal, st => resA D st res fun l => K (.ret (oneOf l)) st.s.h
  | .ret, st => resA D st res fun l => K (.ret (oneOf l)) st.s.h
  | .panic v, st => K (.pan v) st.s.h
  | _, _ => False

theorem loadOf_and {i : TI} {cs : List AC} {k : AV → Prop} (h : loadOf i cs k) : ∃ v, k v ∧ ∀ k' : AV → Prop, k' v → loadOf i cs k' := by
  unfold loadOf at h ⊢
  by_cases ha : i.agg = true
  · simp only [ha, if_true] at h ⊢
    split at h
    · rename_i hb
      rw [forceL_eq] at h
      exact ⟨_, h, fun k' hk => by rw [forceL_eq]; exact hk⟩
    · exact h.elim
  · simp only [ha, if_false, Bool.false_eq_true] at h ⊢
    split at h
    · exact ⟨_, h, fun k' hk => hk⟩
    · exact h.elim

def resOne (a : Act) : ResultVar → Sem Value
  | .tmp t => pure (a.tmps.getD t undef)
  | .cell p t => do loadVar t (← asAddr (a.tmps.getD p undef))

theorem resA_ok {D : Cfg2} (hty : ∀ t i, D.ty t = some i → TIOk D.P t i) {g : G} {w : World} {st : St} {a : Act} (his : Is D g w st a) : ∀ (res : List ResultVar) (k : List AV → Prop), resA D st res k →
    ∃ l ys, k l ∧ RelVs (bareOf g) [] l ys ∧ (res.mapM (resOne a)).run D.P w = .ok ys w
  | [], k, h => ⟨[], [], h, trivial, by simp⟩
  | .tmp t :: r, k, h => by
    simp only [resA] at h
    split at h
    · rename_i v hl
      split at h
      · rename_i hn
        obtain ⟨l, ys, h1, h2, h3⟩ := resA_ok hty his r _ h
        refine ⟨v.share :: l, a.tmps.getD t undef :: ys, h1, ⟨RelV.noloc hn (his.env t v hl) [] (bareOf g) (Im.le_refl _), h2⟩, ?_⟩
        rw [List.mapM_cons]
        simp only [resOne, Sem.run_bind, Sem.run_pure, Result.andThen_ok, h3]
      · exact h.elim
    · exact h.elim
  | .cell t T :: r, k, h => by
    simp only [resA] at h
    have fin : ∀ {i : TI} {b off : Nat} {cs : List AC}, D.ty T = some i → a.tmps.getD t undef = .pointer (some ⟨b, off, none⟩) → Lies g w st.s.o b off cs → loadOf i cs (fun v => (match v.noloc with
          | true => resA D st r fun l => k (v.share :: l)
          | false => False)) → ∃ l ys, k l ∧ RelVs (bareOf g) [] l ys ∧ ((ResultVar.cell t T :: r).mapM (resOne a)).run D.P w = .ok ys w := by
      intro i b off cs hT hp hl h
      obtain ⟨v, y, h1, h2, h3⟩ := run_loadOf (C := D.toCfg) (hty T i hT) hl h
      split at h1
      · rename_i hn
        obtain ⟨l, ys, k1, k2, k3⟩ := resA_ok hty his r _ h1
        refine ⟨v.share :: l, y :: ys, k1, ⟨RelV.noloc hn h3 [] (bareOf g) (Im.le_refl _), k2⟩, ?_⟩
        have he : (resOne a (.cell t T)).run D.P w = .ok y w := by
          simp only [resOne, Sem.run_bind, hp, asAddr, Sem.run_pure, Result.andThen_ok, h2]
        rw [List.mapM_cons]
        simp only [Sem.run_bind, he, Sem.run_pure, Result.andThen_ok, k3]
      · exact h1.elim
    split at h
    · rename_i i hT
      split at h
      · rename_i n off hx
        split at h
        · rename_i T' cs hl
          have hrt : RelT g st.s.o (.loc n off) (a.tmps.getD t undef) := his.env t _ hx
          obtain ⟨b, hb, hp⟩ := hrt
          obtain ⟨ys, h1, h2⟩ := his.sim.box n b T' cs hb hl
          have := (lies_cells h1 h2).drop off
          rw [Nat.zero_add] at this
          exact fin hT hp this h
        · exact h.elim
      · rename_i b off hx
        obtain ⟨T', cs, hh, h⟩ := h
        have hr : Rel g.I _ _ := his.env t _ hx
        have hv : a.tmps.getD t undef = .pointer (some ⟨b, off, none⟩) := by generalize a.tmps.getD t undef = v at hr; cases hr; rfl
        obtain ⟨_, _, ys, h1, h2⟩ := his.sim.glob b _ hh
        have := (lies_cells (G := g) (o := st.s.o) h1 h2.toT).drop off
        rw [Nat.zero_add] at this
        exact fin hT hv this h
      · exact h.elim
    · exact h.elim

theorem one_ok {g : G} : ∀ {l : List AV} {ys : List Value}, RelVs g [] l ys → RelV g [] (oneOf l) (if h : ys.toArray.size = 1 then ys.toArray[0] else .tuple ys.toArray)
  | [], [], h => ⟨[], rfl, trivial⟩
  | [x], [y], h => h.1
  | x :: x' :: l, y :: y' :: ys, h => ⟨y :: y' :: ys, by simp, h⟩
  | [], _ :: _, h => h.elim
  | _ :: _, [], h => h.elim
  | [_], _ :: _ :: _, h => h.2.elim
  | _ :: _ :: _, [_], h => h.2.elim

def envFrom : Nat → List AV → Env
  | _, [] => []
  | n, v :: r => (n, v) :: envFrom (n + 1) r

theorem env_start {g : G} : ∀ (args : List AV) (vs : List Value) (n : Nat), RelVs g [] args vs → ∀ t v, look (envFrom n args) t = some v → n ≤ t ∧ ∃ y, vs[t - n]? = some y ∧ RelV g [] v y
  | [], vs, n, _, t, v, h => by simp [envFrom, look] at h
  | x :: args, [], n, hr, t, v, h => hr.elim
  | x :: args, y :: vs, n, hr, t, v, h => by
    simp only [envFrom, look] at h
    split at h
    · rename_i hb
      have : n = t := Nat.eq_of_beq_eq_true hb
      subst this
      cases h
      exact ⟨Nat.le_refl _, y, by simp, hr.1⟩
    · obtain ⟨h1, z, h2, h3⟩ := env_start args vs (n + 1) hr.2 t v h
      refine ⟨by omega, z, ?_, h3⟩
      rw [show t - n = (t - (n + 1)) + 1 by omega, List.getElem?_cons_succ]
      exact h2

theorem fra_bare {g g' : G} {w w' : World} (hg : g.bl = []) (h : Fra g w g' w') : Fra g w (bareOf g') w' where
  os := h.os
  tape := h.tape
  output := h.output
  size := h.size
  im := h.im
  imm := fun b hb hr => by
    obtain ⟨h1, h2, h3⟩ := h.imm b hb hr
    exact ⟨h1, by show bareRole (g'.role b) = .imm; rw [h2]; rfl, h3⟩
  glob := fun b x hb hr => by
    show bareRole (g'.role b) = _
    rw [h.glob b x hb hr]; rfl
  ext := fun b hb hr => by
    show bareRole (g'.role b) = _
    rw [h.ext b hb hr]; rfl
  fr := h.fr
  bl := fun n b _ hb => by rw [hg] at hb; simp at hb

theorem RelVs.imle {g g' : G} (hI : g.I.le g'.I) (hb : g.bl = []) {o' : List (Nat × Nat × Nat)} : ∀ {xs : List AV} {ys : List Value}, RelVs g [] xs ys → RelVs g' o' xs ys
  | [], [], _ => trivial
  | _ :: _, _ :: _, h => ⟨RelV.imle hI hb h.1, RelVs.imle hI hb h.2⟩
  | [], _ :: _, h => h.elim
  | _ :: _, [], h => h.elim

theorem RelVs.len {g : G} : ∀ {l : List AV} {ys : List Value}, RelVs g [] l ys → l.length = ys.length
  | [], [], _ => rfl
  | _ :: _, _ :: _, h => by simp [RelVs.len h.2]
  | [], _ :: _, h => h.elim
  | _ :: _, [], h => h.elim

/-- On the way out the marks are taken up: nothing was deferred by them. -/
theorem leaves_marks {F : Fence} {n : Nat} {D : Cfg2} {fn : Func} {R : Ending → World → Prop} {u : FrameMode} (hu : u ≠ .run) {g0 : G} {w0 : World} {st : St} {tm : Array Value} : ∀ (ms : List Deferred) (g : G) (w : World), Fra g0 w0 g w → w0.heap.size ≤ g.fr.base → Is D g w st { tmps := tm, defers := ms ++ g.fr.dfr } →
    (∀ w', Fra g0 w0 g w' → Is D g w' st { tmps := tm, defers := g.fr.dfr } → LeavesInM F n D.P fn tm R g.fr.dfr u w') → LeavesInM F n D.P fn tm R (ms ++ g.fr.dfr) u w
  | [], g, w, hf, hb, his, h => h w hf (by simpa using his)
  | d :: ds, g, w, hf, hb, his, h => by
    obtain ⟨ms, q1, q2, q3⟩ := his.defers
    have q1 : d :: ds ++ g.fr.dfr = ms ++ g.fr.dfr := q1
    have hms : d :: ds = ms := List.append_cancel_right q1
    subst hms
    obtain ⟨E, rfl, e2, e3, e4⟩ := q3 d List.mem_cons_self
    obtain ⟨b1, b2, b3, b4⟩ := his.sim.bump (.deferred none) e3 rfl e4
    have hnd := List.nodup_cons.1 q2
    refine ⟨hu, .inl ⟨E, _, rfl, run_takeDeferred e3, leaves_marks hu ds g _ ?_ hb ?_ h⟩⟩
    · exact ⟨hf.os, hf.tape, hf.output, by rw [b4]; exact hf.size, hf.im, fun b hlt hr => by
        obtain ⟨h1, h2, h3⟩ := hf.imm b hlt hr
        exact ⟨(b2 b (by omega)).trans h1, h2, h3⟩, hf.glob, hf.ext, hf.fr, hf.bl⟩
    · refine ⟨b1, his.size, his.env, ⟨ds, rfl, hnd.2, fun d hd => ?_⟩, fun l hl => ?_, his.fl, by rw [b4]; exact his.base, fun e => by
        have h1 := congrArg List.length (his.nor e)
        simp only [List.length_append, List.length_cons] at h1
        omega⟩
      · obtain ⟨E', f1, f2, f3, f4⟩ := q3 d (List.mem_cons_of_mem _ hd)
        refine ⟨E', f1, f2, (b2 E' fun e => ?_).trans f3, f4⟩
        subst e
        subst f1
        exact hnd.1 hd
      · obtain ⟨r, f1, f2⟩ := his.rnd l hl
        refine ⟨r, (b2 l fun e => ?_).trans f1, f2⟩
        subst e; rw [e3] at f1; cases f1

/-- THE FUNCTION RULE. -/
theorem callsA_ofS {D : Cfg2} (hty : ∀ t i, D.ty t = some i → TIOk D.P t i) (hmix : D.P.follows .mixedOrders = true) {f : Nat} {fn : Func} {c : Code} {args : List AV} {h : Heap} {K : AEnd → Heap → Prop} (hf : D.P.funcs[f]? = some fn) (hb : fn.body = some c)
    (hname : (fn.name == "runtime.NumGoroutine") = false) (hnt : fn.ntmps = D.nt) (hlen : args.length ≤ D.nt)
    (hw : ∀ (g : G) (vs : List Value), RelVs g [] args vs → Awp D c ⟨envFrom 0 args, ⟨[], [], h⟩⟩ (funQ D fn.results.toList K)) : CallsA D.P f args h K := by
  refine ⟨⟨fn, hf, by simp [hb], hname⟩, fun g w vs hbare hs hr => ?_⟩
  have hl := RelVs.len hr
  let ge : G := { g with fr := ⟨w.heap.size, none, D.floor, []⟩ }
  have his : Is D ge w ⟨envFrom 0 args, ⟨[], [], h⟩⟩ { tmps := vs.toArray ++ Array.replicate (fn.ntmps - vs.toArray.size) undef, defers := [] } := by
    refine ⟨hs.setFr _, by simp; omega, fun t v ht => ?_, Marks.nil _ _ rfl, fun l hl => (by cases hl), rfl, Nat.le_refl _, fun _ => rfl⟩
    obtain ⟨_, y, h1, h2⟩ := env_start args vs 0 hr t v ht
    rw [Nat.sub_zero] at h1
    have hlt := (List.getElem?_eq_some_iff.1 h1).1
    have : (vs.toArray ++ Array.replicate (fn.ntmps - vs.toArray.size) undef).getD t undef = y := by
      rw [Array.getD_eq_getD_getElem?, Array.getElem?_append_left (by simpa using hlt)]
      simp [h1]
    show RelV ge [] v ((vs.toArray ++ Array.replicate (fn.ntmps - vs.toArray.size) undef).getD t undef)
    rw [this]
    exact RelV.imle (g := g) (g' := ge) (Im.le_refl _) hbare.bl h2
  have hwp := hw g vs hr ge w ge w _ (.refl _ _) his 0
  refine calls_FR' (rr := none) (n := 0) (callsIn_of_wp_marks hf hb trivial (wpIn_mono hwp ?_) rfl)
  intro e a' w' hp
  obtain ⟨ax, st', g', h1, h2, h3, h4⟩ := hp
  have out : ∀ (u : FrameMode) (R : Ending → World → Prop), u ≠ .run → (∀ w'', Fra g w (bareOf { g' with fr := g.fr }) w'' → Is D g' w'' st' { tmps := a'.tmps, defers := [] } → LeavesIn (FR none) 0 D.P fn a'.tmps R [] u w'') → LeavesInM (FR none) 0 D.P fn a'.tmps R a'.defers u w' := by
    intro u R hu hk
    have hdf : g'.fr.dfr = [] := by rw [h3.fr]
    obtain ⟨ms, q1, _⟩ := h4.defers
    rw [q1]
    refine leaves_marks (D := D) hu ms g' w' h3 (by rw [h3.fr]; exact Nat.le_refl _) (by rw [← q1]; exact h4) fun w'' hf' his' => ?_
    rw [hdf] at his' ⊢
    refine hk w'' ?_ his'
    exact fra_bare hbare.bl ⟨hf'.os, hf'.tape, hf'.output, hf'.size, hf'.im, hf'.imm, hf'.glob, hf'.ext, rfl, fun n b _ h => by rw [hbare.bl] at h; simp at h⟩
  have fin : resA D st' fn.results.toList (fun l => K (.ret (oneOf l)) st'.s.h) → LeavesInM (FR none) 0 D.P fn a'.tmps (fun e w' => ∃ g' r h', Bare g' ∧ Fra g w g' w' ∧ Sim g' w' ⟨[], [], h'⟩ ∧ EndRel g' r e ∧ K r h') a'.defers .returning w' := by
    intro hq
    refine out _ _ (by simp) fun w'' hfr his' => ?_
    obtain ⟨l, ys, k1, k2, k3⟩ := resA_ok hty his' _ _ hq
    refine ⟨(if h : ys.toArray.size = 1 then ys.toArray[0] else .tuple ys.toArray), ?_, bareOf { g' with fr := g.fr }, .ret (oneOf l), st'.s.h, bareOf_bare _, hfr, (his'.sim.setFr _).bare, one_ok (RelVs.imle (g := bareOf g') (g' := bareOf { g' with fr := g.fr }) (Im.le_refl _) rfl k2), k1⟩
    have hres : results fn a'.tmps = (do let vs ← fn.results.mapM (resOne { tmps := a'.tmps, defers := [] }); pure (if h : vs.size = 1 then vs[0] else .tuple vs)) := by
      unfold results
      congr 1
    rw [hres, Sem.run_bind, Array.mapM_eq_mapM_toList, Sem.run_map, k3]
    rfl
  cases e with
  | normal => cases ax <;> first | exact h1.elim | exact fin h2
  | ret => cases ax <;> first | exact h1.elim | exact fin h2
  | panic ch =>
    cases ax with
    | panic v =>
      have hch : ch = _ := h1
      subst hch
      exact out _ _ (by simp) fun w'' hfr his' => ⟨bareOf { g' with fr := g.fr }, .pan v, st'.s.h, bareOf_bare _, hfr, (his'.sim.setFr _).bare, rfl, h2⟩
    | _ => exact h1.elim
  | exit id => cases ax <;> first | exact h1.elim | exact h2.elim
  | goto l => cases ax <;> exact h1.elim
  | outgrown => cases ax <;> exact h1.elim

/-- THE RULE FOR A FUNCTION THAT IS RANGED OVER. -/
def seqQ (cb : CB) (N : Nat) : AX → St → Prop
  | .normal, st => ∃ x k, st.s.h cb.l = some (.seq cb x k) ∧ k ≤ N ∧ (x = true → k = N)
  | .ret, st => ∃ x k, st.s.h cb.l = some (.seq cb x k) ∧ k ≤ N ∧ (x = true → k = N)
  | _, _ => False
theorem seqA_ofS {D : Cfg2} {f : Nat} {fn : Func} {c : Code} {caps : List AV} {items : List (List AV)} {hL : Heap} (hf : D.P.funcs[f]? = some fn) (hb : fn.body = some c)
    (hname : (fn.name == "runtime.NumGoroutine") = false) (hnt : fn.ntmps = D.nt) (hlen : caps.length + 1 ≤ D.nt) (hres : fn.results = #[])
    (hw : ∀ (g : G) (vs : List Value) (cb : CB), RelVs g [] caps vs → cb.P = D.P → cb.items = items → ∀ h : Heap, h cb.l = some (.seq cb true 0) → (∀ b, b ≠ cb.l → h b = hL b) → hL cb.l = none → Awp D c ⟨envFrom 0 (.c (.v (.func (.yield cb.l) #[] #[])) :: caps), ⟨[], [], h⟩⟩ (seqQ cb items.length)) : SeqA D.P f caps items hL := by
  refine ⟨⟨fn, hf, by simp [hb], hname⟩, fun cb g w vs n hP hI hLn hbare hs hr => ?_⟩
  have hl := RelVs.len hr
  let ge : G := { g with fr := ⟨w.heap.size, none, D.floor, []⟩ }
  have hr2 : RelVs g [] (.c (.v (.func (.yield cb.l) #[] #[])) :: caps) (.func (.yield cb.l) #[] #[] :: vs) := ⟨(Rel.v _ rfl : Rel g.I _ _), hr⟩
  have hargs : #[Value.func (.yield cb.l) #[] #[]] ++ vs.toArray = (Value.func (.yield cb.l) #[] #[] :: vs).toArray := by simp
  rw [hargs]
  have his : Is D ge w ⟨envFrom 0 (.c (.v (.func (.yield cb.l) #[] #[])) :: caps), ⟨[], [], upd hL cb.l (.seq cb true 0)⟩⟩ { tmps := (Value.func (.yield cb.l) #[] #[] :: vs).toArray ++ Array.replicate (fn.ntmps - (Value.func (.yield cb.l) #[] #[] :: vs).toArray.size) undef, defers := [] } := by
    refine ⟨hs.setFr _, by simp; omega, fun t v ht => ?_, Marks.nil _ _ rfl, fun l hl => (by cases hl), rfl, Nat.le_refl _, fun _ => rfl⟩
    obtain ⟨_, y, h1, h2⟩ := env_start _ _ 0 hr2 t v ht
    rw [Nat.sub_zero] at h1
    have hlt := (List.getElem?_eq_some_iff.1 h1).1
    have : ((Value.func (.yield cb.l) #[] #[] :: vs).toArray ++ Array.replicate (fn.ntmps - (Value.func (.yield cb.l) #[] #[] :: vs).toArray.size) undef).getD t undef = y := by
      rw [Array.getD_eq_getD_getElem?, Array.getElem?_append_left (by simpa using hlt)]
      simp [h1]
    show RelV ge [] v (((Value.func (.yield cb.l) #[] #[] :: vs).toArray ++ Array.replicate (fn.ntmps - (Value.func (.yield cb.l) #[] #[] :: vs).toArray.size) undef).getD t undef)
    rw [this]
    exact RelV.imle (g := g) (g' := ge) (Im.le_refl _) hbare.bl h2
  have hwp := hw g vs cb hr hP hI _ (upd_same _ _ _) (fun b hb => upd_ne _ _ hb) hLn ge w ge w _ (.refl _ _) his n
  refine (callsIn_of_wp_marks hf hb trivial (wpIn_mono hwp ?_) rfl)
  intro e a' w' hp
  obtain ⟨ax, st', g', h1, h2, h3, h4⟩ := hp
  have fin : (∃ x k, st'.s.h cb.l = some (.seq cb x k) ∧ k ≤ items.length ∧ (x = true → k = items.length)) → LeavesInM (FR none) n D.P fn a'.tmps (fun e w' => ∃ g', Fra g w g' w' ∧ (∀ b k x, g'.I b k = some x → w'.cell? ⟨b, k, none⟩ = some x) ∧ (∀ b k x, g'.I b k = some x → ∀ y, g'.role b ≠ .glob y) ∧ (∃ v, e = .returned v) ∧ (cb.J true items.length g' w' ∨ ∃ k, k ≤ items.length ∧ cb.J false k g' w')) a'.defers .returning w' := by
    rintro ⟨x, k, q1, q2, q3⟩
    have hdf : g'.fr.dfr = [] := by rw [h3.fr]
    obtain ⟨ms, m1, _⟩ := h4.defers
    rw [m1]
    refine leaves_marks (D := D) (by simp) ms g' w' h3 (by rw [h3.fr]; exact Nat.le_refl _) (by rw [← m1]; exact h4) fun w'' hf' his' => ?_
    rw [hdf] at his' ⊢
    refine ⟨.tuple #[], by simp [results, hres], { g' with fr := g.fr }, ⟨hf'.os, hf'.tape, hf'.output, hf'.size, hf'.im, hf'.imm, hf'.glob, hf'.ext, rfl, fun n b _ h => by rw [hbare.bl] at h; simp at h⟩, his'.sim.im, (fun b k x hI y e => by
      have e : g'.role b = .glob y := e
      rcases his'.sim.imr b k x hI with h | ⟨_, h⟩ | h <;> (rw [e] at h; cases h)), ⟨_, rfl⟩, ?_⟩
    obtain ⟨p1, p2, p3⟩ := (his'.sim.setFr g.fr).glob _ _ q1
    cases x with
    | true => rw [q3 rfl] at p3; exact .inl p3.2
    | false => exact .inr ⟨k, q2, p3.2⟩
  cases e with
  | normal => cases ax <;> first | exact h1.elim | exact fin h2
  | ret => cases ax <;> first | exact h1.elim | exact fin h2
  | panic ch => cases ax <;> first | exact h1.elim | exact h2.elim
  | exit id => cases ax <;> first | exact h1.elim | exact h2.elim
  | goto l => cases ax <;> exact h1.elim
  | outgrown => cases ax <;> exact h1.elim

theorem callsA_of {D : Cfg2} (hty : ∀ t i, D.ty t = some i → TIOk D.P t i) (hmix : D.P.follows .mixedOrders = true) {f : Nat} {fn : Func} {c : Code} {args : List AV} {h : Heap} {K : AEnd → Heap → Prop} (hf : D.P.funcs[f]? = some fn) (hb : fn.body = some c)
    (hname : (fn.name == "runtime.NumGoroutine") = false) (hnt : fn.ntmps = D.nt) (hlen : args.length ≤ D.nt)
    (hw : ∀ (g : G) (vs : List Value), RelVs g [] args vs → awp D c ⟨envFrom 0 args, ⟨[], [], h⟩⟩ (funQ D fn.results.toList K)) : CallsA D.P f args h K :=
  callsA_ofS hty hmix hf hb hname hnt hlen fun g vs hr => .of hty hmix (hw g vs hr)
end Go.Proofs.YtdgjpncflkpjfaaDoor.Aw
