/- The abstract machine, ninth part: what is known may be told weaker. -/
import Derived.Test.YtdgjpncflkpjfaaDoorAw8
set_option linter.unusedVariables false
set_option linter.unusedSimpArgs false
namespace Go.Proofs.YtdgjpncflkpjfaaDoor.Aw

def CLe (a b : AC) : Prop := ∀ (g : G) (y : Value), RelT g [] a y → RelT g [] b y
def VLe (a b : AV) : Prop := ∀ (g : G) (y : Value), RelV g [] a y → RelV g [] b y
theorem CLe.refl (a : AC) : CLe a a := fun _ _ h => h
theorem VLe.refl (a : AV) : VLe a a := fun _ _ h => h
theorem CLe.nil {n : Nat} (hn : 0 < n) : CLe .nil (.sl n []) := by
  intro g y h
  have h' : Rel g.I .nil y := h
  cases h'
  exact (Rel.sl n [] none 0 (fun _ _ => undef) hn (Nat.le_refl _) (by simp) (by simp) (by simp) (by simp) : Rel g.I (.sl n []) _)
theorem VLe.c {a b : AC} (h : CLe a b) : VLe (.c a) (.c b) := h
theorem VLe.agg {xs ys : List AC} (h : All2 CLe xs ys) : VLe (.agg xs) (.agg ys) := by
  rintro g y ⟨vs, rfl, hv⟩
  refine ⟨vs, rfl, ?_⟩
  induction xs generalizing ys vs with
  | nil => cases ys with
    | nil => exact hv
    | cons => exact h.elim
  | cons x xs ih => cases ys with
    | nil => exact h.elim
    | cons z ys => cases vs with
      | nil => exact hv.elim
      | cons v vs => exact ⟨h.1 _ _ hv.1, ih h.2 _ hv.2⟩
theorem VLe.tup3 {a b c a' b' c' : AV} (h1 : VLe a a') (h2 : VLe b b') (h3 : VLe c c') : VLe (.tup [a, b, c]) (.tup [a', b', c']) := by
  rintro g y ⟨ys, rfl, h⟩
  refine ⟨ys, rfl, ?_⟩
  match ys, h with
  | [_, _, _], h => exact ⟨h1 _ _ h.1, h2 _ _ h.2.1, h3 _ _ h.2.2.1, trivial⟩

def ELe : AEnd → AEnd → Prop
  | .ret a, .ret b => VLe a b
  | .pan v, .pan v' => v = v'
  | _, _ => False
theorem CallsA.le {P : Program} {f : Nat} {args : List AV} {h : Heap} {K K' : AEnd → Heap → Prop} (c : CallsA P f args h K) (hk : ∀ e h', K e h' → ∃ e', ELe e e' ∧ K' e' h') : CallsA P f args h K' :=
  ⟨c.fn, fun g w vs hb hs hr => (c.run g w vs hb hs hr).mono fun e w' ⟨g', r, h', a1, a2, a3, a4, a5⟩ => by
    obtain ⟨e', l, k⟩ := hk _ _ a5
    refine ⟨g', e', h', a1, a2, a3, ?_, k⟩
    cases r <;> cases e' <;> cases e <;> first | exact l.elim | exact a4.elim | exact l _ _ a4 | (have l : _ = _ := l; subst l; exact a4)⟩
theorem PureA.le {P : Program} {f : Nat} {args : List AV} {r : AV} (c : ∀ h, CallsA P f args h fun e h' => (∃ r0, e = .ret r0 ∧ VLe r0 r) ∧ h' = h) : PureA P f args r := fun h =>
  (c h).le fun e h' ⟨⟨r0, h1, h2⟩, h3⟩ => ⟨.ret r, by rw [h1]; exact h2, rfl, h3⟩

theorem Awp.block {D : Cfg2} {id : Nat} {c : Code} {st : St} {Q : AX → St → Prop} (h : Awp D c st fun x st' => match x with
    | .exit i => (match Nat.beq i id with
      | true => Q .normal st'
      | false => Q (.exit i) st')
    | x => Q x st') : Awp D (.block id c) st Q := by
  intro g0 w0 g w a hf his n
  rw [← hf.fr]
  refine wpIn_block (wpIn_mono (h g w g w a (.refl _ _) his n) ?_)
  intro e a' w' hp
  obtain ⟨ax, st', g', h1, h2, h3, h4⟩ := hp
  cases e with
  | exit i =>
    cases ax with
    | exit i' =>
      have h1 : i' = i := h1
      subst h1
      by_cases hi : i' = id
      · subst hi
        simp only [Exit.inBlock, if_true]
        simp only [Nat.beq_refl] at h2
        exact ⟨.normal, st', g', trivial, h2, hf.trans h3, h4⟩
      · simp only [Exit.inBlock, if_neg hi]
        have hb : Nat.beq i' id = false := by rw [beqd]; simpa using hi
        dsimp only at h2
        rw [hb] at h2
        exact ⟨.exit i', st', g', rfl, h2, hf.trans h3, h4⟩
    | _ => exact h1.elim
  | _ => cases ax <;> first | exact h1.elim | exact ⟨_, st', g', h1, h2, hf.trans h3, h4⟩
theorem Awp.tt {D : Cfg2} {x : Operand} {c d : Code} {st : St} {Q : AX → St → Prop} (hx : rho st.t x = some (.c .tt)) (h : Awp D c st Q) : Awp D (.cond x c d) st Q := by
  intro g0 w0 g w a hf his n
  rw [← hf.fr]
  have hr : Rel g.I _ _ := his.rho x _ hx
  have hv : a.eval x = .bool true := by generalize a.eval x = v at hr; cases hr; rfl
  exact wpIn_cond_true hv (by rw [hf.fr]; exact h g0 w0 g w a hf his n)
theorem Awp.ff {D : Cfg2} {x : Operand} {c d : Code} {st : St} {Q : AX → St → Prop} (hx : rho st.t x = some (.c .ff)) (h : Awp D d st Q) : Awp D (.cond x c d) st Q := by
  intro g0 w0 g w a hf his n
  rw [← hf.fr]
  have hr : Rel g.I _ _ := his.rho x _ hx
  have hv : a.eval x = .bool false := by generalize a.eval x = v at hr; cases hr; rfl
  exact wpIn_cond_false hv (by rw [hf.fr]; exact h g0 w0 g w a hf his n)
theorem Awp.skip {D : Cfg2} {st : St} {Q : AX → St → Prop} (h : Q .normal st) : Awp D .skip st Q :=
  fun g0 w0 g w a hf his n => wpIn_skip ⟨.normal, st, g, trivial, h, hf, his⟩
theorem Awp.ifs {D : Cfg2} {x : Operand} {c d : Code} {st : St} {Q : AX → St → Prop} {b : Bool} (hx : rho st.t x = some (.c (.v (.bool b)))) (h : b = true → Awp D c st Q) (k : b = false → Awp D d st Q) : Awp D (.cond x c d) st Q := by
  intro g0 w0 g w a hf his n
  rw [← hf.fr]
  have hr : Rel g.I _ _ := his.rho x _ hx
  have hv : a.eval x = .bool b := by generalize a.eval x = v at hr; cases hr; rfl
  exact wpIn_cond_split hv (fun ht => by rw [hf.fr]; exact h ht g0 w0 g w a hf his n) (fun ht => by rw [hf.fr]; exact k ht g0 w0 g w a hf his n)
end Go.Proofs.YtdgjpncflkpjfaaDoor.Aw
