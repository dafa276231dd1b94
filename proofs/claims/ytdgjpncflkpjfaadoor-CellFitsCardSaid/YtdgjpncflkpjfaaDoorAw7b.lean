/- The abstract machine, part 7b: regions whose order is drawn. -/
import Derived.Test.YtdgjpncflkpjfaaDoorAw7
set_option linter.unusedVariables false
set_option linter.unusedSimpArgs false
namespace Go.Proofs.YtdgjpncflkpjfaaDoor.Aw

inductive Kc where
  | pur | rl | rb | lh | lo | al | any | rt (ws : List Nat) | st (ws : List Nat)
def Kc.rd : Kc → Bool
  | .pur | .rl | .rb | .rt _ => true
  | _ => false

def kcls (D : Cfg2) (o : Oper) : Kc := match o.op with
  | .move _ | .assign _ | .pick .. | .nilCheck _ | .fieldAddr .. | .field .. | .indexAddr .. | .index .. | .slice .. | .binOp .. | .unOp .. | .build .. | .buildSlice .. | .extract .. | .makeFunc .. | .makeInterface .. | .typeAssert .. => .pur
  | .load .. => if D.lload (o.dst.getD 0) then .rl else if D.isR o.dst then .rt D.wrT else .rb
  | .call { callee := .builtin .len, .. } | .call { callee := .builtin .max, .. } | .call { callee := .builtin .min, .. } => .pur
  | .call { callee := .builtin .append, .. } => if D.isRaw o.dst then .any else .lo
  | .convert .. => if D.isRaw o.dst then .any else .pur
  | .call { callee := .value (.func f), .. } => if D.pure f then .pur else .lh
  | .call { callee := .value _, .. } => .lh
  | .store _ a _ => if D.isS a then .st D.wrT else if D.isG a then .lh else .any
  | .alloc _ => if D.esc (o.dst.getD 0) then .any else .al
  | _ => .any

def agr : Kc → S → S → Prop
  | .pur, _, _ => True
  | .rl, s, s' => ∃ x, s'.l = s.l ++ x
  | .rb, s, s' => (∃ x, s'.l = s.l ++ x) ∧ s'.h = s.h
  | .rt ws, s, s' => (∃ x, s'.l = s.l ++ x) ∧ ∀ b T cs, ws.any (Nat.beq T) = false → s.h b = some (.cells T cs) → s'.h b = some (.cells T cs)
  | _, _, _ => False

def ang (k : Kc) (F : S → K1 → (Value → S → Prop) → Prop) (s : S) : Prop :=
  ∀ φ π, F s φ π → ∃ v, φ v s ∧ ∀ s' φ' π', agr k s s' → φ' v s' → F s' φ' π'

theorem argsA_ang {ρ : Operand → Option AV} : ∀ (l : List Operand) (k : List AV → Prop), argsA ρ l k → ∃ vs, k vs ∧ ∀ k', k' vs → argsA ρ l k'
  | [], k, h => ⟨[], h, fun k' h => h⟩
  | x :: r, k, h => by
    simp only [argsA] at h ⊢
    cases hx : ρ x with
    | none => rw [hx] at h; exact h.elim
    | some v =>
      rw [hx] at h
      obtain ⟨vs, h1, h2⟩ := argsA_ang r _ h
      exact ⟨v :: vs, h1, fun k' hk => h2 _ hk⟩
theorem partsA_ang {ρ : Operand → Option AV} : ∀ (l : List (Nat × Operand)) (k : List (Nat × AV) → Prop), partsA ρ l k → ∃ vs, k vs ∧ ∀ k', k' vs → partsA ρ l k'
  | [], k, h => ⟨[], h, fun k' h => h⟩
  | (i, x) :: r, k, h => by
    simp only [partsA] at h ⊢
    cases hx : ρ x with
    | none => rw [hx] at h; exact h.elim
    | some v =>
      rw [hx] at h
      obtain ⟨vs, h1, h2⟩ := partsA_ang r _ h
      exact ⟨(i, v) :: vs, h1, fun k' hk => h2 _ hk⟩
theorem loadOf_ang {i : TI} {cs : List AC} (k : AV → Prop) (h : loadOf i cs k) : ∃ v, k v ∧ ∀ k', k' v → loadOf i cs k' := by
  unfold loadOf at h ⊢
  by_cases ha : i.agg = true
  · simp only [ha, if_true] at h ⊢
    split at h
    · rename_i hb
      rw [forceL_eq] at h
      exact ⟨_, h, fun k' hk => by rw [forceL_eq]; exact hk⟩
    · exact h.elim
  · simp only [ha, if_false, Bool.false_eq_true] at h ⊢
    split at h
    · exact ⟨_, h, fun k' hk => hk⟩
    · exact h.elim
theorem intOp_ang {op : BinOp} {k : IntKind} {a b : Int} (φ : AV → Prop) (h : intOp op k a b φ) : ∃ v, φ v ∧ ∀ k', k' v → intOp op k a b k' := by
  cases op <;> simp only [intOp] at h ⊢ <;> first
    | exact h.elim
    | exact ⟨_, h, fun _ h => h⟩
    | exact ⟨_, h.r, fun _ k => ⟨h.l, k⟩⟩
theorem strOp_ang {op : BinOp} {a b : ByteArray} (φ : AV → Prop) (h : strOp op a b φ) : ∃ v, φ v ∧ ∀ k', k' v → strOp op a b k' := by
  cases op <;> simp only [strOp] at h ⊢ <;> first
    | exact h.elim
    | exact ⟨_, h, fun _ h => h⟩
    | exact ⟨_, h.r, fun _ k => ⟨h.l, k⟩⟩
theorem binA_ang {op : BinOp} {x y : Value} (φ : AV → Prop) (h : binA op x y φ) : ∃ v, φ v ∧ ∀ k', k' v → binA op x y k' := by
  unfold binA at h
  split at h
  · exact ⟨_, h.r, fun _ k => ⟨h.l, k⟩⟩
  · exact ⟨_, h.r, fun _ k => ⟨h.l, k⟩⟩
  · rename_i k m k' n h1 h2
    split at h
    · rename_i hk
      subst hk
      obtain ⟨v, h3, h4⟩ := intOp_ang _ h
      refine ⟨v, h3, fun q hq => ?_⟩
      have := h4 q hq
      unfold binA
      cases op <;> simp_all
    · exact h.elim
  · rename_i m n
    obtain ⟨v, h3, h4⟩ := strOp_ang _ h
    exact ⟨v, h3, fun q hq => by
      have := h4 q hq
      unfold binA
      cases op <;> simp_all⟩
  · exact h.elim
theorem cmpOp_ang {C : Cfg} {op : BinOp} {T : Nat} {c : Bool} {a b : Value} (φ : AV → Prop) (h : cmpOp C op T c a b φ) : ∃ v, φ v ∧ ∀ k', k' v → cmpOp C op T c a b k' := by
  unfold cmpOp at h
  split at h
  · rename_i i hT
    split at h
    · rename_i hc; exact ⟨_, h, fun k' hk => by unfold cmpOp; rw [hT]; dsimp only; rw [hc]; exact hk⟩
    · rename_i hc; exact ⟨_, h, fun k' hk => by unfold cmpOp; rw [hT]; dsimp only; rw [hc]; exact hk⟩
    · exact h.elim
  · exact h.elim
theorem asrtA_ang {C : Cfg} {T d : Nat} {ok : Bool} {v : Value} (φ : AV → Prop) (h : asrtA C T d ok v φ) : ∃ v', φ v' ∧ ∀ k', k' v' → asrtA C T d ok v k' := by
  unfold asrtA at h
  split at h
  · rename_i i hT
    split at h
    · exact h.elim
    · rename_i hd
      split at h
      · rename_i hTd
        split at h
        · rename_i av hav
          have back : ∀ k' : AV → Prop, (ok = true → k' (.tup [av, .c .tt])) → (ok = false → k' av) → asrtA C T d ok v k' := fun k' h1 h2 => by
            unfold asrtA
            rw [hT]
            dsimp only
            split
            · rename_i e; exact (hd e).elim
            · rw [if_pos hTd, hav]
              cases ok with
              | true => exact h1 rfl
              | false => exact h2 rfl
          cases ok with
          | true => exact ⟨_, h, fun k' hk => back k' (fun _ => hk) (fun e => by cases e)⟩
          | false => exact ⟨_, h, fun k' hk => back k' (fun e => by cases e) (fun _ => hk)⟩
        · exact h.elim
      · exact h.elim
  · exact h.elim
theorem unA_ang {op : UnOp} {x : AC} (φ : AV → Prop) (h : unA op x φ) : ∃ v, φ v ∧ ∀ k', k' v → unA op x k' := by
  unfold unA at h
  split at h <;> first
    | exact h.elim
    | exact ⟨_, h, fun _ h => h⟩
theorem convA_ang {C : Cfg} {a b : Nat} {x : AC} (φ : AV → Prop) (h : convA C a b x φ) : ∃ v, φ v ∧ ∀ k', k' v → convA C a b x k' := by
  unfold convA at h ⊢
  split at h
  · rename_i h1 h2
    exact ⟨_, h, fun _ k => by first | exact k | (simp only [h1, h2]; exact k)⟩
  · rename_i h1 h2
    exact ⟨_, h, fun _ k => by first | exact k | (simp only [h1, h2]; exact k)⟩
  · rename_i h1 h2
    split at h
    · rename_i h3; exact ⟨_, h.r, fun _ k => by first | exact ⟨h.l, k⟩ | (simp only [h1, h2, h3]; exact ⟨h.l, k⟩)⟩
    · exact h.elim
  · rename_i h1 h2
    split at h
    · rename_i h3; exact ⟨_, h, fun _ k => by first | exact k | (simp only [h1, h2, h3]; exact k)⟩
    · exact h.elim
  · rename_i h1 h2
    split at h
    · rename_i h3
      obtain ⟨l, h4, h⟩ := h
      exact ⟨_, h, fun _ k => by first | exact ⟨l, h4, k⟩ | (simp only [h1, h2, h3]; exact ⟨l, h4, k⟩)⟩
    · exact h.elim
  · rename_i h1 h2
    split at h
    · rename_i h3
      obtain ⟨l, h4, h⟩ := h
      exact ⟨_, h, fun _ k => by first | exact ⟨l, h4, k⟩ | (simp only [h1, h2, h3]; exact ⟨l, h4, k⟩)⟩
    · exact h.elim
  · exact h.elim
theorem lenA_ang {t : TD} {x : AV} (φ : AV → Prop) (h : lenA t x φ) : ∃ v, φ v ∧ ∀ k', k' v → lenA t x k' := by
  unfold lenA at h
  split at h <;> first
    | exact h.elim
    | exact ⟨_, h, fun _ h => h⟩
theorem maxA_ang {b : Bool} {x : List AV} (φ : AV → Prop) (h : maxA b x φ) : ∃ v, φ v ∧ ∀ k', k' v → maxA b x k' := by
  unfold maxA at h
  split at h
  · cases b
    · exact ⟨_, h, fun _ h => h⟩
    · exact ⟨_, h, fun _ h => h⟩
  · exact h.elim

theorem sem_ang (D : Cfg2) (o : Oper) (ρ : Operand → Option AV) (hρ : ∀ f, ρ (.func f) = some (.c (.v (.func (.func f) #[] #[])))) (s : S) (hk : (kcls D o).rd = true) : ang (kcls D o) (sem D.toCfg o ρ) s := by
  intro φ π h
  cases ho : o.op with
  | move x | assign x =>
    simp only [sem, ho] at h ⊢
    split at h
    · rename_i hx; exact ⟨_, h, fun s' φ' π' _ k => by first | exact k | (simp only [hx]; exact k)⟩
    · exact h.elim
  | pick c x y =>
    simp only [sem, ho] at h ⊢
    split at h
    · rename_i hc
      split at h
      · rename_i hx; exact ⟨_, h, fun s' φ' π' _ k => by first | exact k | (simp only [hc, hx]; exact k)⟩
      · exact h.elim
    · rename_i hc
      split at h
      · rename_i hx; exact ⟨_, h, fun s' φ' π' _ k => by first | exact k | (simp only [hc, hx]; exact k)⟩
      · exact h.elim
    · rename_i t hc
      cases t
      · have h := h.f rfl
        split at h
        · rename_i hx; exact ⟨_, h, fun s' φ' π' _ k => by first | exact ⟨(fun e => by cases e), (fun _ => k)⟩ | (simp only [hc, hx]; exact ⟨(fun e => by cases e), (fun _ => k)⟩)⟩
        · exact h.elim
      · have h := h.t rfl
        split at h
        · rename_i hx; exact ⟨_, h, fun s' φ' π' _ k => by first | exact ⟨(fun _ => k), (fun e => by cases e)⟩ | (simp only [hc, hx]; exact ⟨(fun _ => k), (fun e => by cases e)⟩)⟩
        · exact h.elim
    · exact h.elim
  | nilCheck x =>
    simp only [sem, ho] at h ⊢
    split at h <;> first
      | exact h.elim
      | (rename_i hx; exact ⟨_, h, fun s' φ' π' _ k => by first | exact k | (simp only [hx]; exact k)⟩)
  | fieldAddr T x f =>
    simp only [sem, ho] at h ⊢
    split at h
    · rename_i hT
      split at h
      · rename_i hf
        split at h
        · rename_i hx; exact ⟨_, h, fun s' φ' π' _ k => by first | exact k | (simp only [hT, hf, hx]; exact k)⟩
        · rename_i hx
          split at h
          · rename_i hb; exact ⟨_, h, fun s' φ' π' _ k => by first | exact k | (simp only [hT, hf, hx, hb]; exact k)⟩
          · exact h.elim
        · rename_i hx; exact ⟨_, h, fun s' φ' π' _ k => by first | exact k | (simp only [hT, hf, hx]; exact k)⟩
        · exact h.elim
      · exact h.elim
    · exact h.elim
  | field T x f =>
    simp only [sem, ho] at h ⊢
    split at h
    · rename_i hT
      split at h
      · rename_i hf
        split at h
        · rename_i hx ht
          obtain ⟨v, h1, h2⟩ := loadOf_ang _ h
          exact ⟨v, h1, fun s' φ' π' _ k => by first | exact h2 _ k | (simp only [hT, hf, hx, ht]; exact h2 _ k)⟩
        · exact h.elim
      · exact h.elim
    · exact h.elim
  | indexAddr T x i =>
    simp only [sem, ho] at h ⊢
    split at h
    · rename_i hT hi
      split at h
      · rename_i he hx
        split at h
        · rename_i hs
          obtain ⟨r, h1, h⟩ := h
          exact ⟨_, h, fun s' φ' π' _ k => by first | exact ⟨r, h1, k⟩ | (simp only [hT, hi, he, hx, if_pos hs]; exact ⟨r, h1, k⟩)⟩
        · exact h.elim
      · rename_i he hx
        split at h
        · rename_i hs
          obtain ⟨r, h1, h⟩ := h
          exact ⟨_, h, fun s' φ' π' _ k => by first | exact ⟨r, h1, k⟩ | (simp only [hT, hi, he, hx, if_pos hs]; exact ⟨r, h1, k⟩)⟩
        · exact h.elim
      · rename_i he hx
        exact ⟨_, h.r, fun s' φ' π' _ k => by first | exact ⟨h.l, k⟩ | (simp only [hT, hi, he, hx]; exact ⟨h.l, k⟩)⟩
      · exact h.elim
    · rename_i hT hi
      split at h
      · rename_i he hx
        exact ⟨_, h.r, fun s' φ' π' _ k => by first | exact ⟨h.l, k⟩ | (simp only [hT, hi, he, hx]; exact ⟨h.l, k⟩)⟩
      · exact h.elim
    · exact h.elim
  | index T x i =>
    simp only [sem, ho] at h ⊢
    split at h
    · rename_i hT hx hi; exact ⟨_, h.r, fun s' φ' π' _ k => by first | exact ⟨h.l, k⟩ | (simp only [hT, hx, hi]; exact ⟨h.l, k⟩)⟩
    · rename_i hT hx hi
      split at h
      · rename_i he
        obtain ⟨v, h1, h2⟩ := loadOf_ang _ h.r
        exact ⟨v, h1, fun s' φ' π' _ k => by first | exact ⟨h.l, h2 _ k⟩ | (simp only [hT, hx, hi, he]; exact ⟨h.l, h2 _ k⟩)⟩
      · exact h.elim
    · exact h.elim
  | slice T x lo hi mx =>
    cases mx with
    | some m => simp [sem, ho] at h
    | none =>
      simp only [sem, ho] at h ⊢
      split at h
      · rename_i hT hx hlo
        split at h
        · exact ⟨_, h.r, fun s' φ' π' _ k => by first | exact ⟨h.l, k⟩ | (simp only [hT, hx, hlo]; exact ⟨h.l, k⟩)⟩
        · split at h
          · rename_i hy; exact ⟨_, h.r, fun s' φ' π' _ k => by first | exact ⟨h.l, k⟩ | (simp only [hT, hx, hlo, hy]; exact ⟨h.l, k⟩)⟩
          · exact h.elim
      · rename_i hT hx hlo
        split at h
        · rename_i hsh hie
          split at h
          · rename_i hs
            split at h
            · exact ⟨_, h.r, fun s' φ' π' _ k => by first | exact ⟨h.l, k⟩ | (simp only [hT, hx, hlo, hsh, hie, if_pos hs]; exact ⟨h.l, k⟩)⟩
            · split at h
              · rename_i hy; exact ⟨_, h.r, fun s' φ' π' _ k => by first | exact ⟨h.l, k⟩ | (simp only [hT, hx, hlo, hsh, hie, if_pos hs, hy]; exact ⟨h.l, k⟩)⟩
              · exact h.elim
          · exact h.elim
        · exact h.elim
      · exact h.elim
  | binOp op T x y T' =>
    simp only [sem, ho] at h ⊢
    split at h
    · rename_i hx hy
      split at h
      · rename_i hn
        obtain ⟨v, h1, h2⟩ := cmpOp_ang _ h
        exact ⟨v, h1, fun s' φ' π' _ k => by first | exact h2 _ k | (simp only [hx, hy, hn]; exact h2 _ k)⟩
      · rename_i hn
        obtain ⟨v, h1, h2⟩ := binA_ang _ h
        exact ⟨v, h1, fun s' φ' π' _ k => by first | exact h2 _ k | (simp only [hx, hy, hn]; exact h2 _ k)⟩
    · exact h.elim
  | typeAssert x sr T ok =>
    simp only [sem, ho] at h ⊢
    split at h
    · rename_i hx
      obtain ⟨v, h1, h2⟩ := asrtA_ang _ h
      exact ⟨v, h1, fun s' φ' π' _ k => by first | exact h2 _ k | (simp only [hx]; exact h2 _ k)⟩
    · exact h.elim
  | unOp op T x =>
    simp only [sem, ho] at h ⊢
    split at h
    · rename_i hx
      obtain ⟨v, h1, h2⟩ := unA_ang _ h
      exact ⟨v, h1, fun s' φ' π' _ k => by first | exact h2 _ k | (simp only [hx]; exact h2 _ k)⟩
    · exact h.elim
  | convert a b x =>
    have hraw : D.isRaw o.dst = false := by
      cases e : D.isRaw o.dst with
      | false => rfl
      | true => simp [kcls, ho, e, Kc.rd] at hk
    simp only [sem, ho, hraw, if_false, Bool.false_eq_true] at h ⊢
    split at h
    · rename_i hx
      obtain ⟨v, h1, h2⟩ := convA_ang _ h
      exact ⟨v, h1, fun s' φ' π' _ k => by first | exact h2 _ k | (simp only [hx]; exact h2 _ k)⟩
    · exact h.elim
  | build T p =>
    simp only [sem, ho] at h ⊢
    split at h
    · rename_i hT
      obtain ⟨vs, h, h2⟩ := partsA_ang _ _ h
      split at h
      · rename_i hf
        rw [forceL_eq] at h
        exact ⟨_, h, fun s' φ' π' _ k => by first | exact h2 _ (by simp only [hf, forceL_eq]; exact k) | (simp only [hT]; exact h2 _ (by simp only [hf, forceL_eq]; exact k))⟩
      · exact h.elim
    · rename_i hT
      split at h
      · rename_i hie
        split at h
        · rename_i hpos
          obtain ⟨vs, h, h2⟩ := partsA_ang _ _ h
          split at h
          · rename_i hf
            rw [forceL_eq] at h
            exact ⟨_, h, fun s' φ' π' _ k => by first | exact h2 _ (by simp only [hf, forceL_eq]; exact k) | (simp only [hT, hie, hpos]; exact h2 _ (by simp only [hf, forceL_eq]; exact k))⟩
          · exact h.elim
        · exact h.elim
      · exact h.elim
    · exact h.elim
  | buildSlice T n p =>
    simp only [sem, ho] at h ⊢
    split at h
    · rename_i hT
      split at h
      · rename_i he
        obtain ⟨vs, h, h2⟩ := partsA_ang _ _ h
        split at h
        · rename_i hn
          split at h
          · rename_i hr
            split at h
            · rename_i hc
              rw [forceL_eq] at h
              exact ⟨_, h, fun s' φ' π' _ k => by first | exact h2 _ (by simp only [hn, hr, if_pos hc, forceL_eq]; exact k) | (simp only [hT, he]; exact h2 _ (by simp only [hn, hr, if_pos hc, forceL_eq]; exact k))⟩
            · exact h.elim
          · exact h.elim
        · exact h.elim
      · exact h.elim
    · exact h.elim
  | extract x i =>
    simp only [sem, ho] at h ⊢
    split at h
    · rename_i hx
      split at h
      · rename_i hi; exact ⟨_, h, fun s' φ' π' _ k => by first | exact k | (simp only [hx, hi]; exact k)⟩
      · exact h.elim
    · exact h.elim
  | makeFunc f p q =>
    simp only [sem, ho] at h ⊢
    obtain ⟨u, h, h2⟩ := argsA_ang _ _ h
    obtain ⟨v, h, h3⟩ := argsA_ang _ _ h
    split at h
    · rename_i hu hv
      exact ⟨_, h, fun s' φ' π' _ k => h2 _ (h3 _ (by first | exact k | (simp only [hu, hv]; exact k)))⟩
    · rename_i hno
      split at h
      · rename_i hu hv
        refine ⟨_, h, fun s' φ' π' _ k => h2 _ (h3 _ ?_)⟩
        split
        · rename_i e1 e2; exact (hno _ _ e1 e2).elim
        · simp only [hu, hv]; exact k
      · exact h.elim
  | makeInterface T x =>
    simp only [sem, ho] at h ⊢
    split at h
    · rename_i hT hx
      split at h
      · exact h.elim
      · rename_i hni
        split at h
        · rename_i hy
          refine ⟨_, h, fun s' φ' π' _ k => ?_⟩
          exact k
        · exact h.elim
    · exact h.elim
  | load T x =>
    have hc : kcls D o = if D.lload (o.dst.getD 0) then .rl else if D.isR o.dst then .rt D.wrT else .rb := by simp [kcls, ho]
    simp only [sem, ho] at h ⊢
    split at h
    · rename_i hT
      split at h
      · rename_i hx
        split at h
        · rename_i hl
          obtain ⟨v, h1, h2⟩ := loadOf_ang _ h
          refine ⟨v, h1, fun s' φ' π' ha k => ?_⟩
          obtain ⟨y, hy⟩ : ∃ y, s'.l = s.l ++ y := by
            rw [hc] at ha
            split at ha
            · exact ha
            · split at ha <;> exact ha.1
          have hsl := hl
          rw [← List.getElem?_append_left (l₂ := y) (List.getElem?_eq_some_iff.1 hl).1, ← hy] at hsl
          first | exact h2 _ k | (simp only [hT, hx, hsl]; exact h2 _ k)
        · exact h.elim
      · rename_i hx
        obtain ⟨v, h1, h2⟩ := loadOf_ang _ h
        exact ⟨v, h1, fun s' φ' π' _ k => by first | exact h2 _ k | (simp only [hT, hx]; exact h2 _ k)⟩
      · rename_i hx
        by_cases hll : D.lload (o.dst.getD 0) = true
        · simp [hll] at h
        · simp only [hll, if_false, Bool.false_eq_true] at h
          by_cases hir : D.isR o.dst = true
          · simp only [hir, if_true] at h
            obtain ⟨T', cs, ⟨hh, hw⟩, h⟩ := h
            obtain ⟨v, h1, h2⟩ := loadOf_ang _ h
            refine ⟨v, h1, fun s' φ' π' ha k => ?_⟩
            have hsh := ha
            rw [hc] at hsh
            simp only [hll, if_false, Bool.false_eq_true, hir, if_true] at hsh
            simp only [hll, if_false, Bool.false_eq_true, hir, if_true]
            exact ⟨T', cs, ⟨hsh.2 _ T' cs hw hh, hw⟩, h2 _ k⟩
          simp only [hir, if_false, Bool.false_eq_true] at h
          obtain ⟨T', cs, hh, h⟩ := h
          obtain ⟨v, h1, h2⟩ := loadOf_ang _ h
          refine ⟨v, h1, fun s' φ' π' ha k => ?_⟩
          have hsh : s'.h = s.h := by
            rw [hc] at ha
            simp only [hll, hir, if_false, Bool.false_eq_true] at ha
            exact ha.2
          simp only [hll, hir, if_false, Bool.false_eq_true, hsh]
          exact ⟨T', cs, hh, h2 _ k⟩
      · exact h.elim
    · exact h.elim
  | call c =>
    obtain ⟨cal, args, tys⟩ := c
    cases cal with
    | invoke r m => simp [kcls, ho, Kc.rd] at hk
    | builtin b =>
      cases b <;> first
        | (simp [kcls, ho, Kc.rd] at hk; done)
        | (exfalso; cases e : D.isRaw o.dst <;> simp [kcls, ho, e, Kc.rd] at hk; done)
        | (simp only [sem, ho] at h ⊢
           split at h
           · rename_i x T ha ht
             split at h
             · rename_i v i hx hT
               obtain ⟨v, h1, h2⟩ := lenA_ang _ h
               exact ⟨v, h1, fun s' φ' π' _ k => by first | exact h2 _ k | (simp only [ha, ht, hx, hT]; exact h2 _ k)⟩
             · exact h.elim
           · exact h.elim)
        | (simp only [sem, ho] at h ⊢
           obtain ⟨u, h, h2⟩ := argsA_ang _ _ h
           obtain ⟨v, h1, h3⟩ := maxA_ang _ h
           exact ⟨v, h1, fun s' φ' π' _ k => h2 _ (h3 _ k)⟩)
    | value f =>
      cases f with
      | func f =>
        have hp : D.pure f = true := by
          cases e : D.pure f with
          | true => rfl
          | false => simp [kcls, ho, e, Kc.rd] at hk
        have hfn : (ρ (.func f)).bind fnY = some (.inr (f, [], [])) := by simp [hρ, fnY, yieldOf, fnA]
        simp only [sem, ho, hfn] at h ⊢
        obtain ⟨u, h, h2⟩ := argsA_ang _ _ h
        unfold callA at h
        split at h
        · rename_i hn
          rw [if_pos hp] at h
          obtain ⟨r, h3, h⟩ := h
          refine ⟨r, h, fun s' φ' π' _ k => h2 _ ?_⟩
          unfold callA
          rw [hn]
          simp only [if_pos hp]
          exact ⟨r, h3, k⟩
        · exact h.elim
      | _ => simp [kcls, ho, Kc.rd] at hk
  | store T a x =>
    simp only [kcls, ho] at hk
    split at hk
    · simp [Kc.rd] at hk
    · split at hk <;> simp [Kc.rd] at hk
  | alloc T =>
    exfalso
    simp only [kcls, ho] at hk
    split at hk <;> simp [Kc.rd] at hk
  | _ => simp [kcls, ho, Kc.rd] at hk

/-- What an operation leaves alone. -/
def frm : Kc → S → S → Prop
  | .lh, s, s' => s'.l = s.l
  | .lo, s, s' => s'.l = s.l ∧ s'.h = s.h
  | .al, s, s' => (∃ x, s'.l = s.l ++ x) ∧ s'.h = s.h
  | .any, _, _ => True
  | .st ws, s, s' => s'.l = s.l ∧ ∀ b T cs, ws.any (Nat.beq T) = false → s.h b = some (.cells T cs) → s'.h b = some (.cells T cs)
  | _, s, s' => s' = s

theorem frm_st {ws : List Nat} {s : S} {b T' : Nat} {cs : List AC} (h1 : s.h b = some (.cells T' cs)) (hw : ws.any (Nat.beq T') = true) (x : HO) : frm (.st ws) s (s.setH (upd s.h b x)) := by
  cases s
  refine ⟨rfl, fun q T cs' hws hq => ?_⟩
  show upd _ _ _ q = _
  by_cases e : q = b
  · subst e
    rw [h1] at hq
    cases hq
    rw [hw] at hws; cases hws
  · rw [upd_ne _ _ e]; exact hq

theorem sem_mf (D : Cfg2) (o : Oper) (ρ : Operand → Option AV) (hρ : ∀ f, ρ (.func f) = some (.c (.v (.func (.func f) #[] #[])))) (s : S) {φ φ' : K1} {π : Value → S → Prop} (h : sem D.toCfg o ρ s φ π) (hm : ∀ v s', φ v s' → frm (kcls D o) s s' → φ' v s') :
    sem D.toCfg o ρ s φ' π := by
  by_cases hk : (kcls D o).rd = true
  · obtain ⟨v, h1, h2⟩ := sem_ang D o ρ hρ s hk φ π h
    refine h2 s φ' π ?_ (hm v s h1 ?_)
    · generalize kcls D o = k at hk
      cases k <;> first | (simp [Kc.rd] at hk; done) | (simp [agr]; done) | (refine ⟨⟨[], by simp⟩, ?_⟩; simp)
    · generalize kcls D o = k at hk
      cases k <;> first | (simp [Kc.rd] at hk; done) | rfl
  · have hcall : ∀ (f : Nat) (l : List AV), (kcls D o = .lh ∨ kcls D o = .any) → callA D.toCfg f l s φ π → callA D.toCfg f l s φ' π := by
      intro f l hkc h
      have hf : ∀ s', s'.l = s.l → frm (kcls D o) s s' := fun s' e => by
        rcases hkc with h | h <;> rw [h]
        · exact e
        · trivial
      unfold callA at h ⊢
      split at h
      · rename_i hn
        by_cases hp : D.pure f = true
        · simp only [if_pos hp] at h ⊢
          obtain ⟨r, h3, h⟩ := h
          exact ⟨r, h3, hm _ _ h (hf s rfl)⟩
        · simp only [if_neg hp] at h ⊢
          refine h.mono fun e h' he => ?_
          cases e with
          | ret r => exact hm _ _ he (hf _ (by cases s; rfl))
          | pan v => exact he
      · exact h.elim
    cases ho : o.op with
    | move x => simp [kcls, ho, Kc.rd] at hk
    | assign x => simp [kcls, ho, Kc.rd] at hk
    | pick c x y => simp [kcls, ho, Kc.rd] at hk
    | nilCheck x => simp [kcls, ho, Kc.rd] at hk
    | fieldAddr T x f => simp [kcls, ho, Kc.rd] at hk
    | field T x f => simp [kcls, ho, Kc.rd] at hk
    | indexAddr T x i => simp [kcls, ho, Kc.rd] at hk
    | index T x i => simp [kcls, ho, Kc.rd] at hk
    | slice T x l h' m => simp [kcls, ho, Kc.rd] at hk
    | binOp a T x y b => simp [kcls, ho, Kc.rd] at hk
    | typeAssert x a b c => simp [kcls, ho, Kc.rd] at hk
    | unOp a T x => simp [kcls, ho, Kc.rd] at hk
    | convert a b x =>
      have hraw : D.isRaw o.dst = true := by
        cases e : D.isRaw o.dst with
        | true => rfl
        | false => exact absurd (by simp [kcls, ho, e, Kc.rd]) hk
      have hany : ∀ s', frm (kcls D o) s s' := fun s' => by simp [kcls, ho, hraw, frm]
      simp only [sem, ho, hraw, if_true] at h ⊢
      split at h
      · unfold convR at h ⊢
        split at h
        · split at h
          · obtain ⟨T, cs, l, h1, h⟩ := h; exact ⟨T, cs, l, h1, hm _ _ h (hany _)⟩
          · exact h.elim
        · exact h.elim
      · exact h.elim
    | build T p => simp [kcls, ho, Kc.rd] at hk
    | buildSlice T n p => simp [kcls, ho, Kc.rd] at hk
    | extract x i => simp [kcls, ho, Kc.rd] at hk
    | makeFunc f p q => simp [kcls, ho, Kc.rd] at hk
    | makeInterface T x => simp [kcls, ho, Kc.rd] at hk
    | load T x =>
      exfalso
      apply hk
      simp only [kcls, ho]
      split
      · rfl
      · split <;> rfl
    | alloc T =>
      simp only [sem, ho] at h ⊢
      split at h
      · by_cases he : D.esc (o.dst.getD 0) = true
        · have hany : ∀ s', frm (kcls D o) s s' := fun s' => by simp [kcls, ho, he, frm]
          simp only [he, if_true] at h ⊢
          exact fun b hb => hm _ _ (h b hb) (hany _)
        · have hal : ∀ x, frm (kcls D o) s (s.setL (s.l ++ x)) := fun x => by
            simp only [kcls, ho, he, if_false, Bool.false_eq_true, frm]
            cases s
            exact ⟨⟨x, rfl⟩, rfl⟩
          simp only [he, if_false, Bool.false_eq_true] at h ⊢
          rw [forceLen_eq, forceL_eq] at h ⊢; exact hm _ _ h (hal _)
      · exact h.elim
    | box T x =>
      have hany : ∀ s', frm (kcls D o) s s' := fun s' => by simp [kcls, ho, frm]
      simp only [sem, ho] at h ⊢
      split at h
      · split at h
        · by_cases hro : D.rob (o.dst.getD 0) = true
          · simp only [hro, if_true] at h ⊢
            split at h
            · exact hm _ _ h (hany _)
            · exact h.elim
          simp only [hro, if_false, Bool.false_eq_true] at h ⊢
          by_cases he : D.esc (o.dst.getD 0) = true
          · simp only [he, if_true] at h ⊢
            split at h
            · exact fun b hb => hm _ _ (h b hb) (hany _)
            · exact h.elim
          · simp only [he, if_false, Bool.false_eq_true] at h ⊢
            rw [forceLen_eq, forceL_eq] at h ⊢; exact hm _ _ h (hany _)
        · exact h.elim
      · exact h.elim
    | store T x y =>
      have hany : D.isG x = false → D.isS x = false → ∀ s', frm (kcls D o) s s' := fun e1 e2 s' => by simp [kcls, ho, e1, e2, frm]
      simp only [sem, ho] at h ⊢
      split at h
      · split at h
        · split at h
          · split at h
            · exact h.elim
            · rename_i hg
              rw [Bool.or_eq_false_iff] at hg
              split at h
              · split at h
                · simp only [forceL_eq] at h ⊢; exact hm _ _ h (hany hg.1 hg.2 _)
                · exact h.elim
              · exact h.elim
          · split at h
            · by_cases his : D.isS x = true
              · simp only [his, if_true] at h ⊢
                obtain ⟨T', cs, ⟨h1, hw⟩, h2, h⟩ := h
                rw [forceL_eq] at h
                have hc : kcls D o = .st D.wrT := by simp only [kcls, ho, his, if_true]
                exact ⟨T', cs, ⟨h1, hw⟩, h2, by rw [forceL_eq]; exact hm _ _ h (by rw [hc]; exact frm_st h1 hw _)⟩
              · simp only [his, if_false, Bool.false_eq_true] at h ⊢
                obtain ⟨T', cs, h1, h2, h⟩ := h
                rw [forceL_eq] at h
                have hf : ∀ h', frm (kcls D o) s (s.setH h') := fun h' => by
                  simp only [kcls, ho, his, if_false, Bool.false_eq_true]
                  split
                  · cases s; exact rfl
                  · exact trivial
                exact ⟨T', cs, h1, h2, by rw [forceL_eq]; exact hm _ _ h (hf _)⟩
            · exact h.elim
          · exact h.elim
        · exact h.elim
      · exact h.elim
    | panic x =>
      simp only [sem, ho] at h ⊢
      exact h
    | makeMap T r =>
      have hany : ∀ s', frm (kcls D o) s s' := fun s' => by simp [kcls, ho, frm]
      cases r with
      | some x => simp [sem, ho] at h
      | none =>
        simp only [sem, ho] at h ⊢
        exact fun b hb => hm _ _ (h b hb) (hany _)
    | lookup T m k ok =>
      have hany : ∀ s', frm (kcls D o) s s' := fun s' => by simp [kcls, ho, frm]
      cases ok with
      | true => simp [sem, ho] at h
      | false =>
        simp only [sem, ho] at h ⊢
        split at h
        · split at h
          · obtain ⟨es, h1, h⟩ := h; exact ⟨es, h1, hm _ _ h (hany _)⟩
          · exact h.elim
        · exact h.elim
    | mapUpdate T m k x =>
      have hany : ∀ s', frm (kcls D o) s s' := fun s' => by simp [kcls, ho, frm]
      simp only [sem, ho] at h ⊢
      split at h
      · split at h
        · obtain ⟨es, h1, h⟩ := h; exact ⟨es, h1, hm _ _ h (hany _)⟩
        · exact h.elim
      · exact h.elim
    | call c =>
      obtain ⟨cal, args, tys⟩ := c
      cases cal with
      | invoke r m => simp [sem, ho] at h
      | value f =>
        have hkc : kcls D o = .lh := by
          cases f with
          | func f =>
            by_cases hp : D.pure f = true
            · exact absurd (by simp [kcls, ho, hp, Kc.rd]) hk
            · simp [kcls, ho, hp]
          | _ => simp [kcls, ho]
        simp only [sem, ho] at h ⊢
        split at h
        · obtain ⟨u, h, h2⟩ := argsA_ang _ _ h
          refine h2 _ ?_
          unfold yieldA at h ⊢
          split at h
          · obtain ⟨cb, k, avs, h3, h4, h5⟩ := h
            have hf : ∀ h', frm (kcls D o) s (s.setH h') := fun h' => by rw [hkc]; cases s; exact rfl
            exact ⟨cb, k, avs, h3, hm _ _ h4 (hf _), hm _ _ h5 (hf _)⟩
          · exact h.elim
        · obtain ⟨u, h, h2⟩ := argsA_ang _ _ h
          exact h2 _ (hcall _ _ (.inl hkc) h)
        · exact h.elim
      | builtin b =>
        cases b <;> first
          | (simp [sem, ho] at h; done)
          | (simp [kcls, ho, Kc.rd] at hk; done)
          | (have hlo : D.isRaw o.dst = false → ∀ o', frm (kcls D o) s (s.setO o') := fun e o' => by
               simp only [kcls, ho, e, if_false, Bool.false_eq_true, frm]; cases s; exact ⟨rfl, rfl⟩
             have hany : D.isRaw o.dst = true → ∀ s', frm (kcls D o) s s' := fun e s' => by simp [kcls, ho, e, frm]
             simp only [sem, ho] at h ⊢
             split at h
             · rename_i x y T T' ha ht
               by_cases hT : T = T'
               · simp only [hT, if_true] at h ⊢
                 split at h
                 · by_cases hraw : D.isRaw o.dst = true
                   · simp only [hraw, if_true] at h ⊢
                     have hany := hany hraw
                     unfold appendR at h ⊢
                     split at h
                     · split at h
                       · rename_i ie sz news h1 h2
                         by_cases hs : sz = ie.size
                         · simp only [hs, if_true] at h ⊢
                           split at h
                           · exact ⟨h.l, fun b cap pad e1 e2 e3 => hm _ _ (h.r b cap pad e1 e2 e3) (hany _)⟩
                           · obtain ⟨cs, e1, e2, e3⟩ := h
                             exact ⟨cs, e1, fun u => hm _ _ (e2 u) (hany _), fun u b cap pad u1 u2 u3 => hm _ _ (e3 u b cap pad u1 u2 u3) (hany _)⟩
                           · exact h.elim
                         · simp only [hs, if_false] at h
                       · exact h.elim
                     · exact h.elim
                   have hraw : D.isRaw o.dst = false := by simpa using hraw
                   have hlo := hlo hraw
                   simp only [hraw, if_false, Bool.false_eq_true] at h ⊢
                   unfold appendA at h ⊢
                   split at h
                   · split at h
                     · rename_i ie sz news h1 h2
                       by_cases hs : sz = ie.size
                       · simp only [hs, if_true] at h ⊢
                         split at h
                         · exact ⟨h.l, by have := h.r; rw [forceLen_eq, forceL_eq] at this ⊢; exact hm _ _ this (hlo _)⟩
                         · split at h
                           · exact ⟨h.l, by have := h.r; rw [forceL_eq] at this ⊢; exact hm _ _ this (hlo _)⟩
                           · exact h.elim
                         · exact h.elim
                       · simp only [hs, if_false] at h
                     · exact h.elim
                   · exact h.elim
                 · exact h.elim
               · simp only [hT, if_false] at h
             · exact h.elim)
    | _ => simp [sem, ho] at h

/-! ### What an operation looks at -/
theorem argsA_loc {ρ ρ' : Operand → Option AV} : ∀ (l : List Operand) (k : List AV → Prop), (∀ x ∈ l, ρ x = ρ' x) → argsA ρ l k = argsA ρ' l k
  | [], k, h => rfl
  | x :: r, k, h => by
    simp only [argsA, h x (by simp)]
    cases ρ' x with
    | none => rfl
    | some v => exact argsA_loc r _ fun y hy => h y (by simp [hy])
theorem partsA_loc {ρ ρ' : Operand → Option AV} : ∀ (l : List (Nat × Operand)) (k : List (Nat × AV) → Prop), (∀ x ∈ l, ρ x.2 = ρ' x.2) → partsA ρ l k = partsA ρ' l k
  | [], k, h => rfl
  | (i, x) :: r, k, h => by
    simp only [partsA, h (i, x) (by simp)]
    cases ρ' x with
    | none => rfl
    | some v => exact partsA_loc r _ fun y hy => h y (by simp [hy])

theorem sem_loc (C : Cfg) (o : Oper) {ρ ρ' : Operand → Option AV} (s : S) (φ : K1) (π : Value → S → Prop) (h : ∀ x ∈ o.op.operands.toList, ρ x = ρ' x) : sem C o ρ s φ π = sem C o ρ' s φ π := by
  cases ho : o.op with
  | build T p =>
    rw [ho] at h
    simp only [sem, ho]
    have hp : ∀ x ∈ p.toList, ρ x.2 = ρ' x.2 := fun x hx => h x.2 (by simp only [Op.operands]; exact List.mem_map.2 ⟨x, hx, rfl⟩)
    split
    · exact partsA_loc _ _ hp
    · split
      · split
        · exact partsA_loc _ _ hp
        · rfl
      · rfl
    · rfl
  | buildSlice T n p =>
    rw [ho] at h
    simp only [sem, ho]
    have hp : ∀ x ∈ p.toList, ρ x.2 = ρ' x.2 := fun x hx => h x.2 (by simp only [Op.operands]; exact List.mem_map.2 ⟨x, hx, rfl⟩)
    split
    · split
      · exact partsA_loc _ _ hp
      · rfl
    · rfl
  | makeFunc f p q =>
    rw [ho] at h
    simp only [sem, ho]
    have hp : ∀ x ∈ p.toList, ρ x = ρ' x := fun x hx => h x (by simp only [Op.operands, Array.toList_append]; exact List.mem_append_left _ hx)
    have hq : ∀ x ∈ q.toList, ρ x = ρ' x := fun x hx => h x (by simp only [Op.operands, Array.toList_append]; exact List.mem_append_right _ hx)
    rw [argsA_loc _ _ hp]
    congr 1
    funext a
    rw [argsA_loc _ _ hq]
  | slice T x lo hi mx =>
    rw [ho] at h
    cases mx with
    | some m => simp only [sem, ho]
    | none =>
      have hx : ρ x = ρ' x := h x (by simp [Op.operands])
      have hl : ∀ y, lo = some y → ρ y = ρ' y := fun y e => h y (by subst e; simp [Op.operands])
      have hh : ∀ y, hi = some y → ρ y = ρ' y := fun y e => h y (by subst e; simp [Op.operands])
      simp only [sem, ho, hx]
      cases lo with
      | none => cases hi with
        | none => rfl
        | some y => simp only [hh y rfl]
      | some z =>
        simp only [hl z rfl]
        cases hi with
        | none => rfl
        | some y => simp only [hh y rfl]
  | call c =>
    obtain ⟨cal, args, tys⟩ := c
    rw [ho] at h
    have ha : ∀ x ∈ args.toList, ρ x = ρ' x := fun x hx => h x (by simp only [Op.operands, Call.operands, Array.toList_append]; exact List.mem_append_right _ hx)
    cases cal with
    | invoke r m => simp only [sem, ho]
    | value f =>
      have hf : ρ f = ρ' f := h f (by simp [Op.operands, Call.operands])
      simp only [sem, ho, hf]
      split
      · exact argsA_loc _ _ ha
      · exact argsA_loc _ _ ha
      · rfl
    | builtin b =>
      cases b <;> first
        | (simp only [sem, ho]; done)
        | (simp only [sem, ho]; exact argsA_loc _ _ ha)
        | (simp only [sem, ho]
           cases hargs : args.toList with
           | nil => rfl
           | cons x r =>
             have h1 := ha x (by rw [hargs]; simp)
             cases r with
             | nil => first | rfl | simp only [h1] | (split <;> first | rfl | simp only [h1] | simp_all)
             | cons y r =>
               have h2 := ha y (by rw [hargs]; simp)
               first | rfl | simp only [h1, h2] | (split <;> first | rfl | simp only [h1, h2] | simp_all))
  | select a b => simp only [sem, ho]
  | makeMap a b => cases b <;> simp only [sem, ho]
  | lookup T m k ok =>
    rw [ho] at h
    simp [Op.operands] at h
    cases ok <;> simp only [sem, ho, h.1, h.2]
  | mapUpdate T m k x =>
    rw [ho] at h
    simp [Op.operands] at h
    simp only [sem, ho, h.1, h.2.1, h.2.2]
  | _ => 
    rw [ho] at h
    first
      | (simp only [sem, ho]; done)
      | (simp [Op.operands] at h
         first | simp only [sem, ho, h] | simp only [sem, ho, h.1, h.2] | simp only [sem, ho, h.1, h.2.1, h.2.2])
end Go.Proofs.YtdgjpncflkpjfaaDoor.Aw
