/- The abstract machine, seventh part: operations one behind the other. -/
import Derived.Test.YtdgjpncflkpjfaaDoorAw6
import Derived.OrdersIn
set_option linter.unusedVariables false
set_option linter.unusedSimpArgs false
namespace Go.Proofs.YtdgjpncflkpjfaaDoor.Aw

abbrev Env := List (Nat × AV)
def look : Env → Nat → Option AV
  | [], _ => none
  | (k, v) :: r, t => match Nat.beq k t with
    | true => some v
    | false => look r t
def put (d : Nat) (v : AV) : Env → Env
  | [] => [(d, v)]
  | (k, u) :: r => match Nat.beq k d with
    | true => (d, v) :: r
    | false => match Nat.blt d k with
      | true => (d, v) :: (k, u) :: r
      | false => (k, u) :: put d v r
def putO (d : Option Nat) (v : AV) (t : Env) : Env := match d with
  | some d => put d v t
  | none => t

theorem beqd (x y : Nat) : Nat.beq x y = decide (x = y) := by
  cases h : Nat.beq x y with
  | true => simp [Nat.eq_of_beq_eq_true h]
  | false => simp [Nat.ne_of_beq_eq_false h]
theorem bltd (x y : Nat) : Nat.blt x y = decide (x < y) := by
  cases h : Nat.blt x y with
  | true => simp [Nat.blt_eq.mp h]
  | false =>
    have : ¬ x < y := fun hl => by rw [Nat.blt_eq.mpr hl] at h; cases h
    simp [this]

theorem look_put (d : Nat) (v : AV) (t : Nat) : ∀ e : Env, look (put d v e) t = if d = t then some v else look e t
  | [] => by
    simp only [put, look, beqd]
    by_cases h : d = t <;> simp [h]
  | (k, u) :: r => by
    have ih := look_put d v t r
    simp only [put, beqd, bltd]
    by_cases hk : k = d
    · subst hk
      simp only [decide_true, look, beqd]
      by_cases h : k = t <;> simp [h]
    · simp only [hk, decide_false]
      by_cases hl : d < k
      · simp only [hl, decide_true, look, beqd]
        by_cases h : d = t <;> simp [h]
      · simp only [hl, decide_false, look, beqd, ih]
        by_cases h : k = t
        · subst h
          simp [Ne.symm hk]
        · simp [h]

theorem put_comm {d e : Nat} (h : d ≠ e) (v u : AV) : ∀ t : Env, put d v (put e u t) = put e u (put d v t)
  | [] => by
    simp only [put, beqd, bltd]
    rcases Nat.lt_or_gt_of_ne h with h1 | h1
    · simp [h, Ne.symm h, h1, Nat.not_lt_of_lt h1]
    · simp [h, Ne.symm h, h1, Nat.not_lt_of_lt h1]
  | (k, w) :: r => by
    have ih := put_comm h v u r
    by_cases a1 : k = d
    · subst a1
      rcases Nat.lt_or_gt_of_ne h with h1 | h1 <;> simp [put, beqd, bltd, h, Ne.symm h, h1, Nat.not_lt_of_lt h1]
    · by_cases a2 : k = e
      · subst a2
        rcases Nat.lt_or_gt_of_ne h with h1 | h1 <;> simp [put, beqd, bltd, h, Ne.symm h, h1, Nat.not_lt_of_lt h1]
      · rcases Nat.lt_or_gt_of_ne a1 with b1 | b1 <;> rcases Nat.lt_or_gt_of_ne a2 with b2 | b2 <;> rcases Nat.lt_or_gt_of_ne h with h1 | h1 <;>
          first
            | omega
            | simp [put, beqd, bltd, h, Ne.symm h, h1, Nat.not_lt_of_lt h1, a1, a2, b1, b2, Nat.not_lt_of_lt b1, Nat.not_lt_of_lt b2, ih]

def keepT (ks : List Nat) : Env → Env
  | [] => []
  | (k, v) :: r => match ks.any (Nat.beq k) with
    | true => (k, v) :: keepT ks r
    | false => keepT ks r
theorem keepT_put {ks : List Nat} {d : Nat} (h : ks.any (Nat.beq d) = false) (v : AV) : ∀ t : Env, keepT ks (put d v t) = keepT ks t := by
  have hs : ∀ e, ks.any (Nat.beq e) = true → e ≠ d := fun e he hd => by subst hd; rw [h] at he; cases he
  intro t
  induction t with
  | nil => simp [put, keepT, h]
  | cons p t ih =>
    obtain ⟨k, u⟩ := p
    simp only [put, beqd, bltd]
    by_cases hk : k = d
    · subst hk
      simp [keepT, h]
    · simp only [hk, decide_false]
      by_cases hl : d < k
      · simp only [hl, decide_true]
        simp [keepT, h]
      · simp only [hl, decide_false]
        simp only [keepT, ih]
theorem keepT_look (ks : List Nat) (t : Nat) (v : AV) : ∀ e : Env, look (keepT ks e) t = some v → ∃ u, look e t = some u ∧ u = v
  | [], h => by simp [keepT, look] at h
  | (k, u) :: r, h => by
    simp only [keepT] at h
    simp only [look]
    split at h
    · simp only [look] at h
      split at h
      · cases h; exact ⟨_, rfl, rfl⟩
      · obtain ⟨u', h1, h2⟩ := keepT_look ks t v r h
        exact ⟨u', h1, h2⟩
    · rename_i hk
      have ih := keepT_look ks t v r h
      split
      · rename_i hkt
        have : k = t := Nat.eq_of_beq_eq_true hkt
        subst this
        exfalso
        -- k isn't kept
        have : ∀ e : Env, look (keepT ks e) k = none := by
          intro e
          induction e with
          | nil => rfl
          | cons p e ih2 =>
            obtain ⟨q, z⟩ := p
            simp only [keepT]
            split
            · rename_i hq
              simp only [look]
              split
              · rename_i hqk
                have : q = k := Nat.eq_of_beq_eq_true hqk
                subst this
                rw [hk] at hq; cases hq
              · exact ih2
            · exact ih2
        rw [this r] at h; cases h
      · exact ih

/-! ### The operands' values -/
def constC : Value → Option AC
  | .bool true => some .tt
  | .bool false => some .ff
  | .slice none 0 0 => some .nil
  | .slice _ _ _ => none
  | .agg _ => none
  | .tuple _ => none
  | x => some (.v x)
def constCs : List Value → Option (List AC)
  | [] => some []
  | x :: r => match constC x, constCs r with
    | some y, some ys => some (y :: ys)
    | _, _ => none
def constA : Value → Option AV
  | .agg cs => (constCs cs.toList).map .agg
  | x => (constC x).map .c
def rho (t : Env) : Operand → Option AV
  | .tmp k => look t k
  | .const v => constA v
  | .func f => some (.c (.v (.func (.func f) #[] #[])))
  | .global g => some (.c (.v (.pointer (some ⟨g, 0, none⟩))))

theorem constC_ok {G : G} {x : Value} {y : AC} (h : constC x = some y) : Rel G.I y x := by
  unfold constC at h
  split at h <;> cases h
  · exact .tt
  · exact .ff
  · exact .nil
  · refine .v _ ?_
    cases x <;> first | rfl | (rename_i h1 h2 h3 h4 h5 h6; first | exact (h5 _ rfl).elim | exact (h6 _ rfl).elim | exact (h4 _ rfl).elim)

theorem constCs_ok {G : G} {o : List (Nat × Nat × Nat)} : ∀ {xs : List Value} {ys : List AC}, constCs xs = some ys → All2 (RelT G o) ys xs
  | [], ys, h => by simp [constCs] at h; subst h; trivial
  | x :: xs, ys, h => by
    simp only [constCs] at h
    split at h
    · rename_i y zs h1 h2
      cases h
      exact ⟨(constC_ok h1).toT, constCs_ok h2⟩
    · cases h

theorem constA_ok {G : G} {o : List (Nat × Nat × Nat)} {x : Value} {v : AV} (h : constA x = some v) : RelV G o v x := by
  unfold constA at h
  split at h
  · rename_i cs
    rw [Option.map_eq_some_iff] at h
    obtain ⟨ys, h1, rfl⟩ := h
    exact ⟨cs.toList, by simp, constCs_ok h1⟩
  · rw [Option.map_eq_some_iff] at h
    obtain ⟨y, h1, rfl⟩ := h
    exact ((constC_ok h1 : Rel G.I y x).toT : RelT G o y x)

/-! ### One operation, with its guard -/
/-- More that the reckoning is told: how many temporaries there are is in C.nt; which temporaries guard others. -/
structure Cfg2 extends Cfg where
  gd : Nat → Bool
  floor : Nat := 0
  nor : Bool := false
  pk : List Nat := []

def spl (b : Bool) (v : AV) (k : AV → Prop) : Prop := match b with
  | false => k v
  | true => match v with
    | .c (.v (.bool t)) => Br t (k (.c .tt)) (k (.c .ff))
    | v => k v

def eff (D : Cfg2) (ops : Array Oper) (o : Oper) (t : Env) (s : S) (φ : K1) (π : Value → S → Prop) : Prop :=
  match o.guard with
  | none => sem D.toCfg o (rho t) s (fun v s' => spl (D.gd (o.dst.getD 0)) v fun v' => φ v' s') π
  | some (j, want) => match ((ops[j]?).bind (·.dst)).bind (look t) with
    | some (.c .tt) => (match want with
      | true => sem D.toCfg o (rho t) s (fun v s' => spl (D.gd (o.dst.getD 0)) v fun v' => φ v' s') π
      | false => φ (.tup []) s)
    | some (.c .ff) => (match want with
      | true => φ (.tup []) s
      | false => sem D.toCfg o (rho t) s (fun v s' => spl (D.gd (o.dst.getD 0)) v fun v' => φ v' s') π)
    | some (.tup []) => φ (.tup []) s
    | _ => False

structure St where
  t : Env
  s : S

inductive AX where
  | normal | exit (id : Nat) | ret | panic (v : Value)

def dstOk (D : Cfg2) (o : Oper) : Bool := match o.dst with
  | some d => Nat.blt d D.nt
  | none => true

def opsA (D : Cfg2) (ops : Array Oper) (Q : AX → St → Prop) : List Nat → St → Prop
  | [], st => Q .normal st
  | i :: rest, ⟨t, ⟨l, ow, h⟩⟩ => match ops[i]? with
    | none => False
    | some o => match dstOk D o with
      | true => eff D ops o t ⟨l, ow, h⟩ (fun v s' => forceL (putO o.dst v t) fun t' => opsA D ops Q rest ⟨t', s'⟩) (fun v s' => Q (.panic v) ⟨keepT D.pk t, s'⟩)
      | false => False

/-! ### What is related to a frame -/
/-- The marks that loops over functions have left among the deferred calls: nothing is deferred by them. -/
def Marks (g : G) (w : World) (ds : List Deferred) : Prop := ∃ ms : List Deferred, ds = ms ++ g.fr.dfr ∧ ms.Nodup ∧ ∀ d ∈ ms, ∃ D, d = { target := .collected D, args := #[] } ∧ g.fr.base ≤ D ∧ w.heap[D]? = some (.deferred (some [])) ∧ g.role D = .imm
theorem Marks.nil (g : G) (w : World) (h : g.fr.dfr = []) : Marks g w [] := ⟨[], by rw [h]; rfl, List.nodup_nil, fun _ h => by cases h⟩
theorem Marks.fra {g g' : G} {w w' : World} {ds : List Deferred} (hf : Fra g w g' w') (h : Marks g w ds) : Marks g' w' ds := by
  obtain ⟨ms, e, hn, h⟩ := h
  refine ⟨ms, by rw [hf.fr]; exact e, hn, fun d hd => ?_⟩
  obtain ⟨D, h1, h2, h3, h4⟩ := h d hd
  obtain ⟨k1, k2, _⟩ := hf.imm D (Array.getElem?_eq_some_iff.1 h3).1 h4
  exact ⟨D, h1, by rw [hf.fr]; exact h2, k1.trans h3, k2⟩
theorem rnd_fra {g g' : G} {w w' : World} (hf : Fra g w g' w') (h : ∀ l, g.fr.rnd = some l → ∃ r, w.heap[l]? = some (.loop r) ∧ g.role l = .imm) : ∀ l, g'.fr.rnd = some l → ∃ r, w'.heap[l]? = some (.loop r) ∧ g'.role l = .imm := fun l hl => by
  rw [hf.fr] at hl
  obtain ⟨r, h1, h2⟩ := h l hl
  obtain ⟨k1, k2, _⟩ := hf.imm l (Array.getElem?_eq_some_iff.1 h1).1 h2
  exact ⟨r, k1.trans h1, k2⟩
structure Is (D : Cfg2) (g : G) (w : World) (st : St) (a : Act) : Prop where
  sim : Sim g w st.s
  size : a.tmps.size = D.nt
  env : ∀ t v, look st.t t = some v → RelV g st.s.o v (a.tmps.getD t undef)
  defers : Marks g w a.defers
  rnd : ∀ l, g.fr.rnd = some l → ∃ r, w.heap[l]? = some (.loop r) ∧ g.role l = .imm
  fl : g.fr.fl = D.floor
  base : g.fr.base ≤ w.heap.size
  nor : D.nor = true → a.defers = g.fr.dfr

def XRel : AX → Exit → Prop
  | .normal, .normal => True
  | .exit i, .exit j => i = j
  | .ret, .ret => True
  | .panic v, .panic ch => ch = [{ v := v, recovered := false }]
  | _, _ => False

/-- What holds behind a piece of code. -/
def PostQ (D : Cfg2) (g0 : G) (w0 : World) (Q : AX → St → Prop) (e : Exit) (a : Act) (w : World) : Prop :=
  ∃ x st g, XRel x e ∧ Q x st ∧ Fra g0 w0 g w ∧ Is D g w st a

theorem PostQ.mono {D : Cfg2} {g0 g1 : G} {w0 w1 : World} {Q Q' : AX → St → Prop} (hf : Fra g0 w0 g1 w1) (hq : ∀ x st, Q x st → Q' x st) {e : Exit} {a : Act} {w : World} (h : PostQ D g1 w1 Q e a w) : PostQ D g0 w0 Q' e a w := by
  obtain ⟨x, st, g, h1, h2, h3, h4⟩ := h
  exact ⟨x, st, g, h1, hq _ _ h2, hf.trans h3, h4⟩

theorem Is.rho {D : Cfg2} {g : G} {w : World} {st : St} {a : Act} (h : Is D g w st a) : ∀ x v, Aw.rho st.t x = some v → RelV g st.s.o v (a.eval x) := by
  intro x v hx
  cases x with
  | tmp k => exact h.env k v hx
  | const c => exact constA_ok hx
  | func f => simp [Aw.rho] at hx; subst hx; exact Rel.v _ rfl
  | global k => simp [Aw.rho] at hx; subst hx; exact Rel.v _ rfl

theorem Is.put {D : Cfg2} {g g' : G} {w w' : World} {st : St} {s' : S} {a : Act} {d : Option Nat} {v : AV} {y : Value} (h : Is D g w st a) (hx : Ext g w st.s.o g' w' s'.o) (hs : Sim g' w' s') (hr : RelV g' s'.o v y)
    (hd : ∀ k, d = some k → k < D.nt) : Is D g' w' ⟨putO d v st.t, s'⟩ (a.put d y) := by
  refine ⟨hs, ?_, ?_, ?_, rnd_fra hx.fra h.rnd, by rw [hx.fra.fr]; exact h.fl, by rw [hx.fra.fr]; exact Nat.le_trans h.base hx.fra.size, fun e => by rw [hx.fra.fr]; cases d <;> exact h.nor e⟩
  · cases d <;> simp [Act.put, h.size]
  · intro t u hu
    cases d with
    | none => exact RelV.keep hx.keep (h.env t u hu)
    | some d =>
      have hu' : (if d = t then some v else look st.t t) = some u := by rw [← look_put]; exact hu
      have hlt := hd d rfl
      by_cases hdt : d = t
      · subst hdt
        rw [if_pos rfl] at hu'
        cases hu'
        show RelV g' s'.o v ((a.tmps.setIfInBounds d y).getD d undef)
        have : (a.tmps.setIfInBounds d y).getD d undef = y := by
          simp [Array.getD_eq_getD_getElem?, h.size, hlt]
        rw [this]; exact hr
      · rw [if_neg hdt] at hu'
        show RelV g' s'.o u ((a.tmps.setIfInBounds d y).getD t undef)
        have : (a.tmps.setIfInBounds d y).getD t undef = a.tmps.getD t undef := by
          simp [Array.getD_eq_getD_getElem?, Array.getElem?_setIfInBounds_ne hdt]
        rw [this]; exact RelV.keep hx.keep (h.env t u hu')
  · cases d <;> exact h.defers.fra hx.fra

theorem spl_ok {g : G} {o : List (Nat × Nat × Nat)} {b : Bool} {v : AV} {y : Value} {k : AV → Prop} (hr : RelV g o v y) (h : spl b v k) : ∃ v', k v' ∧ RelV g o v' y := by
  unfold spl at h
  split at h
  · exact ⟨v, h, hr⟩
  · split at h
    · rename_i t
      have hr' : Rel g.I _ _ := hr
      have hy : y = .bool t := by cases hr'; rfl
      subst hy
      cases t
      · exact ⟨_, h.f rfl, Rel.ff⟩
      · exact ⟨_, h.t rfl, Rel.tt⟩
    · exact ⟨v, h, hr⟩

/-- One step. -/
theorem eff_ok {D : Cfg2} (hty : ∀ t i, D.ty t = some i → TIOk D.P t i) {ops : Array Oper} {i : Nat} {o : Oper} (hi : ops[i]? = some o) {n : Nat} {g : G} {w : World} {st : St} {a : Act} {φ : K1} {π : Value → S → Prop} (his : Is D g w st a) (h : eff D ops o st.t st.s φ π)
    {K : Act → World → Prop} {Q : Exit → Act → World → Prop}
    (hn : ∀ v av s' g' w', φ av s' → Ext g w st.s.o g' w' s'.o → Sim g' w' s' → RelV g' s'.o av v → K (a.put o.dst v) w')
    (hq : ∀ v s' g' w', π v s' → Ext g w st.s.o g' w' s'.o → Sim g' w' s' → Q (.panic [{ v := v, recovered := false }]) a w') : wpOpIn (FR g.fr.rnd) n D.P ops Q i K a w := by
  have run : sem D.toCfg o (rho st.t) st.s (fun v s' => spl (D.gd (o.dst.getD 0)) v fun v' => φ v' s') π → o.wpIn (FR g.fr.rnd) n D.P a w K Q := by
    intro h
    refine ⟨fun _ _ => trivial, ?_⟩
    rw [Oper.semAt_eq _ _ _ (fun c hc => by simp [sem, hc] at h)]
    refine sem_ok (ρ := rho st.t) (ρc := a.eval) (g := g) ⟨hty, his.rho, his.sim, ?_, hq⟩ h
    intro v av s' g' w' hφ hx hs hr
    obtain ⟨v', h1, h2⟩ := spl_ok hr hφ
    exact hn _ _ _ _ _ h1 hx hs h2
  have skip : φ (.tup []) st.s → K (a.put o.dst undef) w := fun h => hn _ _ _ _ _ h (.refl _ _ _) his.sim ⟨[], rfl, trivial⟩
  unfold wpOpIn
  rw [hi]
  dsimp only
  unfold eff at h
  cases hg : o.guard with
  | none =>
    rw [hg] at h
    have hw : Region.wanted o (yielded ops a.tmps) = true := by simp [Region.wanted, hg]
    rw [if_pos hw]
    exact run h
  | some p =>
    obtain ⟨j, want⟩ := p
    rw [hg] at h
    dsimp only at h
    have key : ∀ b : Option Bool, yielded ops a.tmps j = b → ((b = some want → sem D.toCfg o (rho st.t) st.s (fun v s' => spl (D.gd (o.dst.getD 0)) v fun v' => φ v' s') π) ∧ (b ≠ some want → φ (.tup []) st.s)) →
        (if Region.wanted o (yielded ops a.tmps) then o.wpIn (FR g.fr.rnd) n D.P a w K Q else (∀ f, o.about D.P w a.eval = some f → (FR g.fr.rnd).fn f) ∧ K (a.put o.dst undef) w) := by
      intro b hb hk
      have hw : Region.wanted o (yielded ops a.tmps) = (b == some want) := by simp [Region.wanted, hg, hb]
      rw [hw]
      by_cases hbw : b = some want
      · rw [if_pos (by simp [hbw])]
        exact run (hk.1 hbw)
      · rw [if_neg (by simpa using hbw)]
        exact ⟨fun _ _ => trivial, skip (hk.2 hbw)⟩
    have tmp : ∀ (u : AV), ((ops[j]?).bind (·.dst)).bind (look st.t) = some u → ∃ d, (ops[j]?).bind (·.dst) = some d ∧ RelV g st.s.o u (a.tmps.getD d undef) := by
      intro u hu
      rw [Option.bind_eq_some_iff] at hu
      obtain ⟨d, h1, h2⟩ := hu
      exact ⟨d, h1, his.env d u h2⟩
    have getd : ∀ (d : Nat) (y : Value), a.tmps.getD d undef = y → yielded ops a.tmps j = (match ((ops[j]?).bind (·.dst)).bind (a.tmps[·]?) with | some (.bool b) => some b | _ => none) := fun _ _ _ => rfl
    split at h
    · rename_i hl
      obtain ⟨d, h1, h2⟩ := tmp _ hl
      have hr : Rel g.I _ _ := h2
      have hv : a.tmps.getD d undef = .bool true := by generalize a.tmps.getD d undef = y at hr; cases hr; rfl
      have hy : yielded ops a.tmps j = some true := by
        unfold yielded
        rw [h1]
        rw [Array.getD_eq_getD_getElem?] at hv
        cases he : a.tmps[d]? with
        | none => rw [he] at hv; cases hv
        | some y => rw [he] at hv; cases hv; simp [he]
      refine key _ hy ⟨fun hb => ?_, fun hb => ?_⟩
      · cases want <;> first | exact h | cases hb
      · cases want <;> first | exact h | exact absurd rfl hb
    · rename_i hl
      obtain ⟨d, h1, h2⟩ := tmp _ hl
      have hr : Rel g.I _ _ := h2
      have hv : a.tmps.getD d undef = .bool false := by generalize a.tmps.getD d undef = y at hr; cases hr; rfl
      have hy : yielded ops a.tmps j = some false := by
        unfold yielded
        rw [h1]
        rw [Array.getD_eq_getD_getElem?] at hv
        cases he : a.tmps[d]? with
        | none => rw [he] at hv; cases hv
        | some y => rw [he] at hv; cases hv; simp [he]
      refine key _ hy ⟨fun hb => ?_, fun hb => ?_⟩
      · cases want <;> first | exact h | cases hb
      · cases want <;> first | exact h | exact absurd rfl hb
    · rename_i hl
      obtain ⟨d, h1, h2⟩ := tmp _ hl
      obtain ⟨ys, hv, _⟩ := h2
      have hy : yielded ops a.tmps j = none := by
        unfold yielded
        rw [h1]
        rw [Array.getD_eq_getD_getElem?] at hv
        cases he : a.tmps[d]? with
        | none => simp [he]
        | some y => rw [he] at hv; simp at hv; subst hv; simp [he]
      exact key _ hy ⟨(fun hb => by cases hb), (fun _ => h)⟩
    · exact h.elim

theorem opsA_ok {D : Cfg2} (hty : ∀ t i, D.ty t = some i → TIOk D.P t i) {ops : Array Oper} {Q : AX → St → Prop} {n : Nat} {g0 : G} {w0 : World} : ∀ (l : List Nat) (g : G) (w : World) (st : St) (a : Act), Fra g0 w0 g w → Is D g w st a → opsA D ops Q l st →
    wpOpsIn (FR g0.fr.rnd) n D.P ops (PostQ D g0 w0 Q) l a w
  | [], g, w, st, a, hf, his, h => ⟨.normal, st, g, trivial, h, hf, his⟩
  | i :: rest, g, w, st, a, hf, his, h => by
    rw [wpOpsIn_cons, ← hf.fr]
    simp only [opsA] at h
    split at h
    · exact h.elim
    · rename_i o hi
      split at h
      · rename_i hd
        refine eff_ok hty hi his h ?_ ?_
        · intro v av s' g' w' hφ hx hs hr
          rw [forceL_eq] at hφ
          rw [hf.fr]
          exact opsA_ok hty rest g' w' _ _ (hf.trans hx.fra) (his.put hx hs hr (fun k hk => by
            unfold dstOk at hd; rw [hk] at hd; exact Nat.blt_eq.mp hd)) hφ
        · intro v s' g' w' hπ hx hs
          exact ⟨.panic v, _, g', rfl, hπ, hf.trans hx.fra, ⟨hs, his.size, fun t u hu => by
            obtain ⟨u', h1, rfl⟩ := keepT_look _ t u _ hu
            exact RelV.keep hx.keep (his.env t _ h1), his.defers.fra hx.fra, rnd_fra hx.fra his.rnd, by rw [hx.fra.fr]; exact his.fl, by rw [hx.fra.fr]; exact Nat.le_trans his.base hx.fra.size, fun e => by rw [hx.fra.fr]; exact his.nor e⟩⟩
      · exact h.elim
end Go.Proofs.YtdgjpncflkpjfaaDoor.Aw
