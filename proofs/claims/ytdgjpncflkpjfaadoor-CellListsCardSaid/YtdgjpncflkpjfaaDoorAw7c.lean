/- The abstract machine, part 7c: one order serves every order. -/
import Derived.Test.YtdgjpncflkpjfaaDoorAw7b
import Derived.Orders
set_option linter.unusedVariables false
set_option linter.unusedSimpArgs false
namespace Go.Proofs.YtdgjpncflkpjfaaDoor.Aw

theorem spl_ang {b : Bool} {v : AV} {k : AV → Prop} (h : spl b v k) : ∃ v', k v' ∧ ∀ k' : AV → Prop, k' v' → spl b v k' := by
  cases b with
  | false => exact ⟨v, h, fun k' hk => hk⟩
  | true =>
    unfold spl at h
    dsimp only at h
    split at h
    · rename_i t
      cases t with
      | false => exact ⟨_, h.f rfl, fun k' hk => ⟨(fun e => by cases e), (fun _ => hk)⟩⟩
      | true => exact ⟨_, h.t rfl, fun k' hk => ⟨(fun _ => hk), (fun e => by cases e)⟩⟩
    · rename_i hn
      refine ⟨v, h, fun k' hk => ?_⟩
      unfold spl
      dsimp only
      split
      · exact (hn _ rfl).elim
      · exact hk

theorem spl_mono {b : Bool} {v : AV} {k k' : AV → Prop} (h : spl b v k) (hk : ∀ v, k v → k' v) : spl b v k' := by
  obtain ⟨v', h1, h2⟩ := spl_ang h
  exact h2 _ (hk _ h1)

def Same (ops : Array Oper) (o : Oper) (t t' : Env) : Prop := ∀ d ∈ o.looksAt ops, look t' d = look t d
theorem Same.rho {ops : Array Oper} {o : Oper} {t t' : Env} (h : Same ops o t t') : ∀ x ∈ o.op.operands.toList, rho t x = rho t' x := by
  intro x hx
  cases x with
  | tmp d => exact (h d (List.mem_append_left _ (List.mem_filterMap.2 ⟨.tmp d, hx, rfl⟩))).symm
  | _ => rfl
theorem Same.guard {ops : Array Oper} {o : Oper} {t t' : Env} (h : Same ops o t t') {j : Nat} {w : Bool} (hg : o.guard = some (j, w)) : ((ops[j]?).bind (·.dst)).bind (look t) = ((ops[j]?).bind (·.dst)).bind (look t') := by
  cases hd : (ops[j]?).bind (·.dst) with
  | none => rfl
  | some d => exact (h d (List.mem_append_right _ (by simp [hg, hd]))).symm
theorem Same.put {ops : Array Oper} {o : Oper} {t : Env} {y : Option Nat} (v : AV) (h : ∀ d, y = some d → d ∉ o.looksAt ops) : Same ops o t (putO y v t) := by
  intro d hd
  cases y with
  | none => rfl
  | some e =>
    have hne : e ≠ d := fun he => h e rfl (he ▸ hd)
    simp [putO, look_put, hne]
theorem Same.symm {ops : Array Oper} {o : Oper} {t t' : Env} (h : Same ops o t t') : Same ops o t' t := fun d hd => (h d hd).symm

theorem eff_loc {D : Cfg2} {ops : Array Oper} {o : Oper} {t t' : Env} {s : S} {φ : K1} {π : Value → S → Prop} (hs : Same ops o t t') (h : eff D ops o t s φ π) : eff D ops o t' s φ π := by
  have hsem : ∀ φ π, sem D.toCfg o (rho t) s φ π = sem D.toCfg o (rho t') s φ π := fun φ π => sem_loc _ _ _ _ _ hs.rho
  unfold eff at h ⊢
  cases hg : o.guard with
  | none => rw [hg] at h; dsimp only at h ⊢; rw [hsem] at h; exact h
  | some p =>
    obtain ⟨j, w⟩ := p
    rw [hg] at h
    dsimp only at h ⊢
    rw [← hs.guard hg]
    simp only [hsem] at h
    exact h

theorem frm_refl (k : Kc) (s : S) : frm k s s := by cases k <;> simp [frm]

theorem eff_ang {D : Cfg2} {ops : Array Oper} {o : Oper} {t : Env} {s : S} {φ : K1} {π : Value → S → Prop} (hk : (kcls D o).rd = true) (h : eff D ops o t s φ π) :
    ∃ v, φ v s ∧ ∀ (s' : S) (φ' : K1) (π' : Value → S → Prop), agr (kcls D o) s s' → φ' v s' → eff D ops o t s' φ' π' := by
  have one : sem D.toCfg o (rho t) s (fun v s' => spl (D.gd (o.dst.getD 0)) v fun v' => φ v' s') π → ∃ v, φ v s ∧ ∀ (s' : S) (φ' : K1) (π' : Value → S → Prop), agr (kcls D o) s s' → φ' v s' → sem D.toCfg o (rho t) s' (fun v s' => spl (D.gd (o.dst.getD 0)) v fun v' => φ' v' s') π' := by
    intro h
    obtain ⟨v, h1, h2⟩ := sem_ang D o (rho t) (fun _ => rfl) s hk _ _ h
    obtain ⟨u, h3, h4⟩ := spl_ang h1
    exact ⟨u, h3, fun s' φ' π' ha hp => h2 s' _ π' ha (h4 (fun v' => φ' v' s') hp)⟩
  unfold eff at h
  cases hg : o.guard with
  | none =>
    rw [hg] at h
    obtain ⟨v, h1, h2⟩ := one h
    exact ⟨v, h1, fun s' φ' π' ha hp => by unfold eff; rw [hg]; exact h2 s' φ' π' ha hp⟩
  | some p =>
    obtain ⟨j, w⟩ := p
    rw [hg] at h
    dsimp only at h
    split at h
    · rename_i hl
      cases w with
      | true =>
        obtain ⟨v, h1, h2⟩ := one h
        exact ⟨v, h1, fun s' φ' π' ha hp => by unfold eff; rw [hg]; dsimp only; rw [hl]; exact h2 s' φ' π' ha hp⟩
      | false => exact ⟨_, h, fun s' φ' π' ha hp => by unfold eff; rw [hg]; dsimp only; rw [hl]; exact hp⟩
    · rename_i hl
      cases w with
      | false =>
        obtain ⟨v, h1, h2⟩ := one h
        exact ⟨v, h1, fun s' φ' π' ha hp => by unfold eff; rw [hg]; dsimp only; rw [hl]; exact h2 s' φ' π' ha hp⟩
      | true => exact ⟨_, h, fun s' φ' π' ha hp => by unfold eff; rw [hg]; dsimp only; rw [hl]; exact hp⟩
    · rename_i hl
      exact ⟨_, h, fun s' φ' π' ha hp => by unfold eff; rw [hg]; dsimp only; rw [hl]; exact hp⟩
    · exact h.elim

theorem eff_mf {D : Cfg2} {ops : Array Oper} {o : Oper} {t : Env} {s : S} {φ φ' : K1} {π : Value → S → Prop} (h : eff D ops o t s φ π) (hm : ∀ v s', φ v s' → frm (kcls D o) s s' → φ' v s') : eff D ops o t s φ' π := by
  have one : sem D.toCfg o (rho t) s (fun v s' => spl (D.gd (o.dst.getD 0)) v fun v' => φ v' s') π → sem D.toCfg o (rho t) s (fun v s' => spl (D.gd (o.dst.getD 0)) v fun v' => φ' v' s') π :=
    fun h => sem_mf D o (rho t) (fun _ => rfl) s h fun v s' hv hf => spl_mono hv fun v' hv' => hm _ _ hv' hf
  unfold eff at h ⊢
  cases hg : o.guard with
  | none => rw [hg] at h; exact one h
  | some p =>
    obtain ⟨j, w⟩ := p
    rw [hg] at h
    dsimp only at h ⊢
    split at h
    · cases w with
      | true => exact one h
      | false => exact hm _ _ h (frm_refl _ _)
    · cases w with
      | false => exact one h
      | true => exact hm _ _ h (frm_refl _ _)
    · exact hm _ _ h (frm_refl _ _)
    · exact h.elim

theorem opsA_cons {D : Cfg2} {ops : Array Oper} {Q : AX → St → Prop} {i : Nat} {rest : List Nat} {st : St} : opsA D ops Q (i :: rest) st ↔ ∃ o, ops[i]? = some o ∧ dstOk D o = true ∧
    eff D ops o st.t st.s (fun v s' => opsA D ops Q rest ⟨putO o.dst v st.t, s'⟩) (fun v s' => Q (.panic v) ⟨keepT D.pk st.t, s'⟩) := by
  obtain ⟨t, ⟨l, ow, h⟩⟩ := st
  simp only [opsA, forceL_eq]
  cases hi : ops[i]? with
  | none => simp
  | some o =>
    cases hd : dstOk D o with
    | true => simp [hd]
    | false => simp [hd]

theorem opsA_mono {D : Cfg2} {ops : Array Oper} {Q : AX → St → Prop} {i : Nat} {l l' : List Nat} {st : St} (hm : ∀ st, opsA D ops Q l st → opsA D ops Q l' st) (h : opsA D ops Q (i :: l) st) : opsA D ops Q (i :: l') st := by
  rw [opsA_cons] at h ⊢
  obtain ⟨o, h1, h2, h3⟩ := h
  exact ⟨o, h1, h2, eff_mf h3 fun v s' hv _ => hm _ hv⟩

def okK : Kc → Kc → Bool
  | .pur, _ => true
  | .rl, .pur | .rl, .rl | .rl, .rb | .rl, .lh | .rl, .lo | .rl, .rt _ | .rl, .st _ | .rl, .al => true
  | .rb, .pur | .rb, .rl | .rb, .rb | .rb, .lo | .rb, .rt _ | .rb, .al => true
  | .rt _, .pur | .rt _, .rl | .rt _, .rb | .rt _, .lo | .rt _, .rt _ | .rt _, .al => true
  | .rt ws, .st ws' => ws == ws'
  | _, _ => false

theorem okK_ang {k k' : Kc} (h : okK k k' = true) : k.rd = true := by
  cases k <;> first | rfl | (cases k' <;> simp [okK] at h)
theorem grown_eq {s s' : S} (h : s'.l = s.l) : ∃ x, s'.l = s.l ++ x := ⟨[], by rw [h, List.append_nil]⟩
theorem okK_agr {k k' : Kc} (h : okK k k' = true) {s s' : S} (hf : frm k' s s') : agr k s s' := by
  cases k with
  | rt ws =>
    cases k' with
    | st ws' =>
      have : ws = ws' := by simpa [okK] using h
      subst this
      exact ⟨grown_eq hf.1, hf.2⟩
    | pur => have : s' = s := hf; subst this; exact ⟨grown_eq rfl, fun _ _ _ _ h => h⟩
    | rl => have : s' = s := hf; subst this; exact ⟨grown_eq rfl, fun _ _ _ _ h => h⟩
    | rb => have : s' = s := hf; subst this; exact ⟨grown_eq rfl, fun _ _ _ _ h => h⟩
    | rt w => have : s' = s := hf; subst this; exact ⟨grown_eq rfl, fun _ _ _ _ h => h⟩
    | lo => have hf : s'.l = s.l ∧ s'.h = s.h := hf; exact ⟨grown_eq hf.1, fun _ _ _ _ h => by rw [hf.2]; exact h⟩
    | al => have hf : (∃ x, s'.l = s.l ++ x) ∧ s'.h = s.h := hf; exact ⟨hf.1, fun _ _ _ _ h => by rw [hf.2]; exact h⟩
    | _ => simp [okK] at h
  | _ => cases k' <;> simp [okK] at h <;> simp only [agr, frm] at hf ⊢ <;> first | trivial | (subst hf; exact grown_eq rfl) | (subst hf; exact ⟨grown_eq rfl, rfl⟩) | exact hf | exact hf.1 | exact grown_eq hf | exact grown_eq hf.1 | exact ⟨grown_eq hf.1, hf.2⟩

theorem putO_comm {x y : Option Nat} (v u : AV) (h : ∀ d, x = some d → y ≠ some d) (t : Env) : putO x v (putO y u t) = putO y u (putO x v t) := by
  cases x with
  | none => rfl
  | some d =>
    cases y with
    | none => rfl
    | some e => exact put_comm (fun he => h d rfl (by rw [he])) v u t

def dstOut (pk : List Nat) (o : Oper) : Bool := match o.dst with
  | some d => !pk.any (Nat.beq d)
  | none => true
theorem keepT_putO {pk : List Nat} {o : Oper} (h : dstOut pk o = true) (v : AV) (t : Env) : keepT pk (putO o.dst v t) = keepT pk t := by
  unfold dstOut at h
  cases hd : o.dst with
  | none => rfl
  | some d =>
    rw [hd] at h
    exact keepT_put (by simpa using h) v t
/-- The first of two may come second. -/
def swapOk (D : Cfg2) (ops : Array Oper) (j i : Nat) : Bool := match ops[j]?, ops[i]? with
  | some oj, some oi => oj.apart ops oi && (okK (kcls D oj) (kcls D oi) && dstOut D.pk oj)
  | _, _ => false

theorem opsA_swap {D : Cfg2} {ops : Array Oper} {Q : AX → St → Prop} {i j : Nat} {rest : List Nat} {st : St} (hs : swapOk D ops j i = true) (h : opsA D ops Q (j :: i :: rest) st) : opsA D ops Q (i :: j :: rest) st := by
  rw [opsA_cons] at h
  obtain ⟨oj, hj, dj, h⟩ := h
  unfold swapOk at hs
  rw [hj] at hs
  cases hi : ops[i]? with
  | none => rw [hi] at hs; cases hs
  | some oi =>
    rw [hi] at hs
    dsimp only at hs
    rw [Bool.and_eq_true, Bool.and_eq_true] at hs
    obtain ⟨ha, hk, hpk⟩ := hs
    obtain ⟨a1, a2, a3⟩ := Oper.apart_spec ha
    obtain ⟨v, h1, h2⟩ := eff_ang (okK_ang hk) h
    rw [opsA_cons] at h1
    obtain ⟨oi', hi', di, h1⟩ := h1
    rw [hi] at hi'
    cases hi'
    rw [opsA_cons]
    refine ⟨oi, hi, di, ?_⟩
    have h1 := eff_loc (Same.put v a1).symm h1
    rw [show keepT D.pk (St.t ⟨putO oj.dst v st.t, st.s⟩) = keepT D.pk st.t from keepT_putO hpk v st.t] at h1
    refine eff_mf h1 fun u s' hu hf => ?_
    rw [opsA_cons]
    refine ⟨oj, hj, dj, ?_⟩
    refine eff_loc (Same.put u a3) (h2 s' _ _ (okK_agr hk hf) ?_)
    show opsA D ops Q rest ⟨putO oj.dst v (putO oi.dst u st.t), s'⟩
    rw [putO_comm v u a2]
    exact hu

theorem opsA_front {D : Cfg2} {ops : Array Oper} {Q : AX → St → Prop} {i : Nat} {post : List Nat} : ∀ (pre : List Nat) (st : St), (∀ j ∈ pre, swapOk D ops j i = true) → opsA D ops Q (pre ++ i :: post) st → opsA D ops Q (i :: (pre ++ post)) st
  | [], st, hp, h => h
  | j :: pre, st, hp, h => opsA_swap (hp j (by simp)) (opsA_mono (fun st h => opsA_front pre st (fun k hk => hp k (by simp [hk])) h) h)

/-! ### The check of a drawn region -/
def prd (ops : Array Oper) (i : Nat) : List Nat := match ops[i]? with
  | some o => (o.after.toList.filter (Region.binds .any)).map (·.on)
  | none => []
def anc (ops : Array Oper) : Nat → Nat → Nat → Bool
  | 0, _, _ => false
  | f + 1, j, i => (prd ops i).any (Nat.beq j) || (prd ops i).any fun p => Nat.blt j p && anc ops f j p
def drawOk (D : Cfg2) (ops : Array Oper) : Bool :=
  (List.range ops.size).all fun i => (prd ops i).all (fun p => Nat.blt p i) && (List.range i).all fun j => anc ops ops.size j i || swapOk D ops j i

def Shut (ops : Array Oper) (listed : Array Bool) : Prop := ∀ i, listed.getD i true = true → ∀ p ∈ prd ops i, listed.getD p false = true

theorem getD_le {listed : Array Bool} {i : Nat} (h : listed.getD i false = true) : listed.getD i true = true := by
  simp only [Array.getD_eq_getD_getElem?] at h ⊢
  cases he : listed[i]? with
  | none => rfl
  | some b => rw [he] at h; exact h

theorem anc_ok {ops : Array Oper} {listed : Array Bool} (hs : Shut ops listed) : ∀ (f j i : Nat), (∀ p ∈ prd ops i, listed.getD p false = true) → anc ops f j i = true → listed.getD j true = true
  | 0, j, i, hp, h => by simp [anc] at h
  | f + 1, j, i, hp, h => by
    simp only [anc, Bool.or_eq_true, List.any_eq_true, Bool.and_eq_true] at h
    rcases h with ⟨p, h1, h2⟩ | ⟨p, h1, _, h2⟩
    · rw [Nat.eq_of_beq_eq_true h2]; exact getD_le (hp p h1)
    · exact anc_ok hs f j p (hs p (getD_le (hp p h1))) h2

theorem ready_prd {ops : Array Oper} {listed : Array Bool} {i : Nat} (h : i ∈ Region.ready .any ops listed) : i < ops.size ∧ listed.getD i true = false ∧ ∀ p ∈ prd ops i, listed.getD p false = true := by
  simp only [Region.ready, List.mem_filter, List.mem_range, Bool.and_eq_true, Bool.not_eq_true'] at h
  obtain ⟨h1, h2, h3⟩ := h
  refine ⟨h1, h2, fun p hp => ?_⟩
  unfold prd at hp
  cases ho : ops[i]? with
  | none => rw [ho] at hp; cases hp
  | some o =>
    rw [ho] at hp h3
    simp only [Option.map_some, Option.getD_some, Array.all_eq_true', Bool.or_eq_true, Bool.not_eq_true'] at h3
    simp only [List.mem_map, List.mem_filter] at hp
    obtain ⟨e, ⟨h4, h5⟩, rfl⟩ := hp
    rcases h3 e (by simpa using h4) with h6 | h6
    · rw [h5] at h6; cases h6
    · exact h6

theorem prd_ready {ops : Array Oper} {listed : Array Bool} {i : Nat} (h1 : i < ops.size) (h2 : listed.getD i true = false) (h3 : ∀ p ∈ prd ops i, listed.getD p false = true) : i ∈ Region.ready .any ops listed := by
  simp only [Region.ready, List.mem_filter, List.mem_range, Bool.and_eq_true, Bool.not_eq_true']
  refine ⟨h1, h2, ?_⟩
  have ho : ops[i]? = some ops[i] := by simp [h1]
  rw [ho]
  simp only [Option.map_some, Option.getD_some, Array.all_eq_true', Bool.or_eq_true, Bool.not_eq_true']
  intro e he
  cases hb : Region.binds .any e with
  | false => exact .inl rfl
  | true =>
    refine .inr (h3 e.on ?_)
    unfold prd
    rw [ho]
    exact List.mem_map.2 ⟨e, List.mem_filter.2 ⟨by simpa using he, hb⟩, rfl⟩

def leftL (n : Nat) (listed : Array Bool) : List Nat := (List.range n).filter fun i => !listed.getD i true

theorem mem_leftL {n : Nat} {listed : Array Bool} {i : Nat} : i ∈ leftL n listed ↔ i < n ∧ listed.getD i true = false := by
  simp only [leftL, List.mem_filter, List.mem_range, Bool.not_eq_true']

theorem leftL_split {n : Nat} {listed : Array Bool} {i : Nat} (hn : listed.size = n) (hi : i < n) (h : listed.getD i true = false) :
    ∃ A B, leftL n listed = A ++ i :: B ∧ leftL n (listed.setIfInBounds i true) = A ++ B ∧ ∀ j ∈ A, j < i ∧ listed.getD j true = false := by
  have hm : i ∈ leftL n listed := mem_leftL.2 ⟨hi, h⟩
  obtain ⟨A, B, hAB⟩ := List.append_of_mem hm
  have hp : (leftL n listed).Pairwise (· < ·) := List.Pairwise.filter _ List.pairwise_lt_range
  rw [hAB] at hp
  rw [List.pairwise_append] at hp
  obtain ⟨_, pB, pAB⟩ := hp
  rw [List.pairwise_cons] at pB
  have hset : leftL n (listed.setIfInBounds i true) = (leftL n listed).filter fun k => !decide (k = i) := by
    unfold leftL
    rw [List.filter_filter]
    apply List.filter_congr
    intro k hk
    have hk' : k < n := by simpa using hk
    by_cases e : k = i
    · subst e; simp [hn, hk']
    · have : (listed.setIfInBounds i true).getD k true = listed.getD k true := by
        simp [Array.getD_eq_getD_getElem?, Array.getElem?_setIfInBounds_ne (Ne.symm e)]
      simp [this, e]
  refine ⟨A, B, hAB, ?_, fun j hj => ⟨pAB j hj i (by simp), ?_⟩⟩
  · rw [hset, hAB, List.filter_append, List.filter_cons]
    have e1 : A.filter (fun k => !decide (k = i)) = A := List.filter_eq_self.2 fun k hk => by
      have := pAB k hk i (by simp)
      simp; omega
    have e2 : B.filter (fun k => !decide (k = i)) = B := List.filter_eq_self.2 fun k hk => by
      have := pB.1 k hk
      simp; omega
    simp [e1, e2]
  · have : j ∈ leftL n listed := by rw [hAB]; simp [hj]
    exact (mem_leftL.1 this).2

theorem wpAny_ok {D : Cfg2} (hty : ∀ t i, D.ty t = some i → TIOk D.P t i) {ops : Array Oper} {Q : AX → St → Prop} {n : Nat} {g0 : G} {w0 : World} (hd : drawOk D ops = true) : ∀ (fuel : Nat) (listed : Array Bool) (g : G) (w : World) (st : St) (a : Act),
    listed.size = ops.size → Shut ops listed → (leftL ops.size listed).length = fuel → Fra g0 w0 g w → Is D g w st a → opsA D ops Q (leftL ops.size listed) st → wpAnyIn (FR g0.fr.rnd) n D.P .any ops (PostQ D g0 w0 Q) fuel listed a w := by
  have hchk : ∀ i, i < ops.size → (∀ p ∈ prd ops i, p < i) ∧ ∀ j, j < i → anc ops ops.size j i = true ∨ swapOk D ops j i = true := by
    intro i hi
    have := List.all_eq_true.1 hd i (by simpa using hi)
    rw [Bool.and_eq_true] at this
    obtain ⟨h1, h2⟩ := this
    refine ⟨fun p hp => Nat.blt_eq.mp (List.all_eq_true.1 h1 p hp), fun j hj => ?_⟩
    have := List.all_eq_true.1 h2 j (by simpa using hj)
    rwa [Bool.or_eq_true] at this
  intro fuel
  induction fuel with
  | zero =>
    intro listed g w st a hsz hsh hlen hf his h
    have hnil : leftL ops.size listed = [] := List.length_eq_zero_iff.1 hlen
    rw [hnil] at h
    refine ⟨?_, .normal, st, g, trivial, h, hf, his⟩
    rw [List.eq_nil_iff_forall_not_mem]
    intro i hi
    obtain ⟨h1, h2, _⟩ := ready_prd hi
    have : i ∈ leftL ops.size listed := mem_leftL.2 ⟨h1, h2⟩
    rw [hnil] at this
    cases this
  | succ fuel ih =>
    intro listed g w st a hsz hsh hlen hf his h
    constructor
    · intro hr
      exfalso
      cases hl : leftL ops.size listed with
      | nil => rw [hl] at hlen; cases hlen
      | cons i r =>
        have hm : i ∈ leftL ops.size listed := by rw [hl]; simp
        have hm' : i < ops.size ∧ listed.getD i true = false := mem_leftL.1 hm
        obtain ⟨A, B, e1, _, e3⟩ := leftL_split hsz hm'.1 hm'.2
        have hA : ∀ p, p < i → listed.getD p false = true := by
          intro p hp
          have hps : p < listed.size := by omega
          cases hv : listed[p] with
          | true => simp [hps, hv]
          | false =>
            exfalso
            have hmp : p ∈ leftL ops.size listed := mem_leftL.2 ⟨by omega, by simp [hps, hv]⟩
            have hpw : (leftL ops.size listed).Pairwise (· < ·) := List.Pairwise.filter _ List.pairwise_lt_range
            rw [hl] at hmp hpw
            rcases List.mem_cons.1 hmp with e | hmp
            · omega
            · have := (List.pairwise_cons.1 hpw).1 p hmp
              omega
        have := prd_ready hm'.1 hm'.2 fun p hp => hA p ((hchk i hm'.1).1 p hp)
        rw [hr] at this
        cases this
    · intro i hi
      obtain ⟨h1, h2, h3⟩ := ready_prd hi
      obtain ⟨A, B, e1, e2, e3⟩ := leftL_split hsz h1 h2
      have hsw : ∀ j ∈ A, swapOk D ops j i = true := by
        intro j hj
        obtain ⟨j1, j2⟩ := e3 j hj
        rcases (hchk i h1).2 j j1 with ha | hs
        · have := anc_ok hsh _ _ _ h3 ha
          rw [j2] at this
          cases this
        · exact hs
      rw [e1] at h
      have h := opsA_front A st hsw h
      rw [opsA_cons] at h
      obtain ⟨o, ho, hdst, h⟩ := h
      have hsh' : Shut ops (listed.setIfInBounds i true) := by
        have up : ∀ p, listed.getD p false = true → (listed.setIfInBounds i true).getD p false = true := by
          intro p hp
          by_cases e : p = i
          · subst e; simp [hsz, h1]
          · have : (listed.setIfInBounds i true).getD p false = listed.getD p false := by
              simp [Array.getD_eq_getD_getElem?, Array.getElem?_setIfInBounds_ne (Ne.symm e)]
            rw [this]; exact hp
        intro k hk p hp
        by_cases e : k = i
        · subst e; exact up p (h3 p hp)
        · have : (listed.setIfInBounds i true).getD k true = listed.getD k true := by
            simp [Array.getD_eq_getD_getElem?, Array.getElem?_setIfInBounds_ne (Ne.symm e)]
          rw [this] at hk
          exact up p (hsh k hk p hp)
      have hlen' : (leftL ops.size (listed.setIfInBounds i true)).length = fuel := by
        rw [e1] at hlen
        rw [e2]
        simp at hlen ⊢
        omega
      rw [← hf.fr]
      refine eff_ok hty ho his h ?_ ?_
      · intro v av s' g' w' hφ hx hs hr
        rw [hf.fr]
        refine ih _ g' w' ⟨putO o.dst av st.t, s'⟩ _ (by simpa using hsz) hsh' hlen' (hf.trans hx.fra) (his.put hx hs hr (fun k hk => by
            unfold dstOk at hdst; rw [hk] at hdst; exact Nat.blt_eq.mp hdst)) ?_
        rw [e2]
        exact hφ
      · intro v s' g' w' hπ hx hs
        exact ⟨.panic v, _, g', rfl, hπ, hf.trans hx.fra, ⟨hs, his.size, fun t u hu => by
            obtain ⟨u', h1, rfl⟩ := keepT_look _ t u _ hu
            exact RelV.keep hx.keep (his.env t _ h1), his.defers.fra hx.fra, rnd_fra hx.fra his.rnd, by rw [hx.fra.fr]; exact his.fl, by rw [hx.fra.fr]; exact Nat.le_trans his.base hx.fra.size, fun e => by rw [hx.fra.fr]; exact his.nor e⟩⟩

theorem region_draw_ok {D : Cfg2} (hty : ∀ t i, D.ty t = some i → TIOk D.P t i) (hm : D.P.follows .mixedOrders = true) {id : Nat} {ops : Array Oper} {Q : AX → St → Prop} {n : Nat} {g0 : G} {w0 : World} (hd : drawOk D ops = true)
    {g : G} {w : World} {st : St} {a : Act} (hf : Fra g0 w0 g w) (his : Is D g w st a) (h : opsA D ops Q (List.range ops.size) st) : (Code.region id ops true).wpIn (FR g0.fr.rnd) n D.P (PostQ D g0 w0 Q) a w := by
  refine wpIn_region_any hm ?_
  have hl : leftL ops.size (Array.replicate ops.size false) = List.range ops.size := by
    refine List.filter_eq_self.2 fun i hi => ?_
    have : i < ops.size := by simpa using hi
    simp [this]
  have hs := his.sim
  refine wpAny_ok hty hd _ _ g _ st a (by simp) ?_ (by rw [hl]; simp) ⟨hf.os, hf.tape, hf.output, hf.size, hf.im, hf.imm, hf.glob, hf.ext, hf.fr, hf.bl⟩
    ⟨⟨hs.im, hs.imr, hs.fresh, hs.loc, hs.blen, hs.box, hs.tlen, hs.tok, ?_⟩, his.size, his.env, his.defers, his.rnd, his.fl, his.base, his.nor⟩ (by rw [hl]; exact h)
  · intro i hi p hp
    by_cases h1 : i < ops.size
    · simp [h1] at hi
    · unfold prd at hp
      have : ops[i]? = none := by simp; omega
      rw [this] at hp
      cases hp
  · intro b ho hb
    exact hs.globKeep (w' := w.drew) ⟨Im.le_refl _, hs.im, Nat.le_refl _, fun _ _ h => ⟨h, rfl, rfl⟩⟩ hb fun q h1 h2 => ⟨rfl, h2⟩
end Go.Proofs.YtdgjpncflkpjfaaDoor.Aw
