/- The abstract machine, tenth part: functions that defer a call of a function literal. -/
import Derived.Test.YtdgjpncflkpjfaaDoorAw9
import Derived.RecoverIn
set_option linter.unusedVariables false
set_option linter.unusedSimpArgs false
namespace Go.Proofs.YtdgjpncflkpjfaaDoor.Aw

/-- What a deferred call does, told of abstract values: u is how its caller leaves; it returns. -/
structure DefA (P : Program) (f : Nat) (args : List AV) (u : FrameMode) (h : Heap) (K : FrameMode → Heap → Prop) : Prop where
  fn : ∃ fn, P.funcs[f]? = some fn ∧ fn.body.isSome = true ∧ (fn.name == "runtime.NumGoroutine") = false
  run : ∀ (g : G) (w : World) (vs : List Value) (n : Nat), Bare g → Sim g w ⟨[], [], h⟩ → RelVs g [] args vs →
    CallsDIn (FR none) n P f vs.toArray u w fun e u' w' => ∃ g' h', Bare g' ∧ Fra g w g' w' ∧ Sim g' w' ⟨[], [], h'⟩ ∧ (∃ v, e = .returned v) ∧ K u' h'

def DQ (D : Cfg2) (res : List ResultVar) (fd : Nat) (cv : List Value) (K : AEnd → Heap → Prop) : AX → St → Prop
  | .normal, st | .ret, st => DefA D.P fd (cv.map fun v => .c (.v v)) .returning st.s.h fun u' h' => settle u' = .returning ∧ resA D ⟨st.t, st.s.setH h'⟩ res fun l => K (.ret (oneOf l)) h'
  | .panic v, st => DefA D.P fd (cv.map fun v => .c (.v v)) (.panicking [{ v := v, recovered := false }]) st.s.h fun u' h' =>
      (settle u' = .returning ∧ resA D ⟨st.t, st.s.setH h'⟩ res fun l => K (.ret (oneOf l)) h') ∨ (∃ v', settle u' = .panicking [{ v := v', recovered := false }] ∧ K (.pan v') h')
  | _, _ => False

theorem Fra.reFr {g g' : G} {x : FI} {w w' : World} (hx : x.fl = g.fr.fl) (h : Fra { g with fr := x } w g' w') : Fra g w { g' with fr := g.fr } w' :=
  ⟨h.os, h.tape, h.output, h.size, h.im, h.imm, h.glob, h.ext, rfl, fun n b hn hb => h.bl n b (by show n < x.fl; omega) hb⟩

theorem RelV.setFr {g : G} {o : List (Nat × Nat × Nat)} (x : FI) {v : AV} {y : Value} (h : RelV g o v y) : RelV { g with fr := x } o v y := RelV.keep (g := g) (g' := { g with fr := x }) ⟨Im.le_refl _, fun _ _ h => h, fun _ _ _ _ h => .inl ⟨h, rfl⟩⟩ h
theorem RelVs.atoms {g : G} : ∀ {cv : List Value}, cv.all Value.oneCell' = true → RelVs g [] (cv.map fun v => .c (.v v)) cv
  | [], _ => trivial
  | x :: cv, h => by
    rw [List.all_cons, Bool.and_eq_true] at h
    exact ⟨(Rel.v x h.1 : Rel g.I _ _), RelVs.atoms h.2⟩

/-- What stands ahead of a place in the code. -/
def PreA (D : Cfg2) (c R : Code) (st : St) (QA : AX → St → Prop) : Prop :=
  ∀ (g0 : G) (w0 : World) (g : G) (w : World) (a : Act) (Q : Exit → Act → World → Prop), Fra g0 w0 g w → Is D g w st a →
    (∀ e a' w', PostQ D g0 w0 QA e a' w' → Exit.then (R.wpIn (FR g0.fr.rnd) 0 D.P Q) Q e a' w') → c.wpIn (FR g0.fr.rnd) 0 D.P Q a w
theorem PreA.base {D : Cfg2} {A R : Code} {st : St} {QA : AX → St → Prop} (h : Awp D A st QA) : PreA D (.seq A R) R st QA :=
  fun g0 w0 g w a Q hf his hk => wpIn_seq (wpIn_mono (h g0 w0 g w a hf his 0) hk)
theorem PreA.cons {D : Cfg2} {A c R : Code} {st : St} {QA : AX → St → Prop} (h : Awp D A st fun x st => match x with
    | .normal => PreA D c R st QA
    | x => QA x st) : PreA D (.seq A c) R st QA := by
  intro g0 w0 g w a Q hf his hk
  refine wpIn_seq (wpIn_mono (h g0 w0 g w a hf his 0) ?_)
  intro e a' w' hp
  obtain ⟨ax, st', g', h1, h2, h3, h4⟩ := hp
  cases e with
  | normal =>
    cases ax with
    | normal => exact h2 g0 w0 g' w' a' Q h3 h4 hk
    | _ => exact h1.elim
  | _ => cases ax <;> first | exact h1.elim | exact hk _ _ _ ⟨_, st', g', h1, h2, h3, h4⟩

/-- THE RULE FOR A FUNCTION WITH ONE DEFERRED LITERAL: A is what stands ahead of it, B what stands behind. -/
theorem callsA_defer {D : Cfg2} (hty : ∀ t i, D.ty t = some i → TIOk D.P t i) {f : Nat} {fn : Func} {c B : Code} {id : Nat} {ops : Array Oper} {mk df : Oper} {t fd : Nat} {tys : Array TypeId} {args : List AV} {h : Heap} {K : AEnd → Heap → Prop} (hf : D.P.funcs[f]? = some fn)
    (hb : fn.body = some c) (hops : ops.size = 2) (h0 : ops[0]? = some mk) (h1 : ops[1]? = some df) (hmk : mk.dst = some t ∧ mk.guard = none) (hlt : t < D.nt) (hdf : df.op = .defer { callee := .value (.tmp t), args := #[], argTypes := tys } ∧ df.dst = none ∧ df.guard = none)
    (hname : (fn.name == "runtime.NumGoroutine") = false) (hnt : fn.ntmps = D.nt) (hlen : args.length ≤ D.nt)
    (hw : ∀ (g : G) (vs : List Value), RelVs g [] args vs → PreA D c (.seq (.region id ops false) B) ⟨envFrom 0 args, ⟨[], [], h⟩⟩ fun x st => match x with
      | .normal => ∃ cv : List Value, cv.all Value.oneCell' = true ∧ eff D ops mk st.t st.s (fun v s' => v = .c (.v (.func (.func fd) #[] cv.toArray)) ∧ Awp D B ⟨putO (some t) v st.t, s'⟩ (DQ D fn.results.toList fd cv K)) (fun _ _ => False)
      | .ret => resA D st fn.results.toList fun l => K (.ret (oneOf l)) st.s.h
      | .panic v => K (.pan v) st.s.h
      | _ => False) : CallsA D.P f args h K := by
  refine ⟨⟨fn, hf, by simp [hb], hname⟩, fun g w vs hbare hs hr => ?_⟩
  have hl := RelVs.len hr
  let ge : G := { g with fr := ⟨w.heap.size, none, D.floor, []⟩ }
  have his : Is D ge w ⟨envFrom 0 args, ⟨[], [], h⟩⟩ { tmps := vs.toArray ++ Array.replicate (fn.ntmps - vs.toArray.size) undef, defers := [] } := by
    refine ⟨hs.setFr _, by simp; omega, fun t v ht => ?_, Marks.nil _ _ rfl, fun l hl => (by cases hl), rfl, Nat.le_refl _, fun _ => rfl⟩
    obtain ⟨_, y, h1, h2⟩ := env_start args vs 0 hr t v ht
    rw [Nat.sub_zero] at h1
    have hlt := (List.getElem?_eq_some_iff.1 h1).1
    have : (vs.toArray ++ Array.replicate (fn.ntmps - vs.toArray.size) undef).getD t undef = y := by
      rw [Array.getD_eq_getD_getElem?, Array.getElem?_append_left (by simpa using hlt)]
      simp [h1]
    show RelV ge [] v ((vs.toArray ++ Array.replicate (fn.ntmps - vs.toArray.size) undef).getD t undef)
    rw [this]
    exact RelV.imle (g := g) (g' := ge) (Im.le_refl _) hbare.bl h2
  let R : Ending → World → Prop := fun e w' => ∃ g' r h', Bare g' ∧ Fra g w g' w' ∧ Sim g' w' ⟨[], [], h'⟩ ∧ EndRel g' r e ∧ K r h'
  -- the end, when all that was deferred is over
  have last : ∀ (ms : List Deferred) (u : FrameMode) (g' : G) (w' : World) (st : St) (tm : Array Value), u ≠ .run → Fra ge w g' w' → Is D g' w' st { tmps := tm, defers := ms } →
      ((u = .returning ∧ resA D st fn.results.toList fun l => K (.ret (oneOf l)) st.s.h) ∨ (∃ v, u = .panicking [{ v := v, recovered := false }] ∧ K (.pan v) st.s.h)) → LeavesInM (FR none) 0 D.P fn tm R ms u w' := by
    intro ms u g' w' st tm hu hfr hi hk
    have hdf : g'.fr.dfr = [] := by rw [hfr.fr]
    obtain ⟨ms', q1, _⟩ := hi.defers
    have q1 : ms = ms' ++ g'.fr.dfr := q1
    rw [q1] at hi ⊢
    refine leaves_marks (D := D) hu ms' g' w' hfr (by rw [hfr.fr]; exact Nat.le_refl _) hi fun w'' hf' his' => ?_
    rw [hdf] at his' ⊢
    have hbar : Fra g w (bareOf { g' with fr := g.fr }) w'' := fra_bare hbare.bl ⟨hf'.os, hf'.tape, hf'.output, hf'.size, hf'.im, hf'.imm, hf'.glob, hf'.ext, rfl, fun n b _ h => by rw [hbare.bl] at h; simp at h⟩
    rcases hk with ⟨rfl, hq⟩ | ⟨v, rfl, hq⟩
    · obtain ⟨l, ys, k1, k2, k3⟩ := resA_ok hty his' _ _ hq
      refine ⟨(if h : ys.toArray.size = 1 then ys.toArray[0] else .tuple ys.toArray), ?_, bareOf { g' with fr := g.fr }, .ret (oneOf l), st.s.h, bareOf_bare _, hbar, (his'.sim.setFr _).bare, one_ok (RelVs.imle (g := bareOf g') (g' := bareOf { g' with fr := g.fr }) (Im.le_refl _) rfl k2), k1⟩
      have hres : results fn tm = (do let vs ← fn.results.mapM (resOne { tmps := tm, defers := [] }); pure (if h : vs.size = 1 then vs[0] else .tuple vs)) := by
        unfold results
        congr 1
      rw [hres, Sem.run_bind, Array.mapM_eq_mapM_toList, Sem.run_map, k3]
      rfl
    · exact ⟨bareOf { g' with fr := g.fr }, .pan v, st.s.h, bareOf_bare _, hbar, (his'.sim.setFr _).bare, rfl, hq⟩
  refine calls_FR' (rr := none) (n := 0) (callsIn_of_wp_marks hf hb trivial (hw g vs hr ge w ge w _ _ (.refl _ _) his ?_) rfl)
  intro e aA wA hp
  obtain ⟨ax, stA, gA, k1, k2, k3, k4⟩ := hp
  cases e with
  | ret =>
    cases ax with
    | ret => exact last aA.defers .returning gA wA stA aA.tmps (by simp) k3 k4 (.inl ⟨rfl, k2⟩)
    | _ => exact k1.elim
  | panic ch =>
    cases ax with
    | panic v =>
      have hch : ch = _ := k1
      subst hch
      exact last aA.defers _ gA wA stA aA.tmps (by simp) k3 k4 (.inr ⟨v, rfl, k2⟩)
    | _ => exact k1.elim
  | exit id => cases ax <;> first | exact k1.elim | exact k2.elim
  | goto l => cases ax <;> exact k1.elim
  | outgrown => cases ax <;> exact k1.elim
  | normal =>
    cases ax with
    | normal =>
      obtain ⟨cv, hcv, heff⟩ := k2
      refine wpIn_seq (wpIn_region ?_)
      have hrange : List.range ops.size = [0, 1] := by rw [hops]; rfl
      rw [hrange, wpOpsIn_cons]
      have hfrn : FR gA.fr.rnd = FR none := by rw [k3.fr]
      have hstep := eff_ok (n := 0) hty h0 k4 heff (K := wpOpsIn (FR none) 0 D.P ops (Exit.then (Code.wpIn (FR none) 0 D.P B (bodyPostM (FR none) 0 D.P fn R)) (bodyPostM (FR none) 0 D.P fn R)) [1]) (Q := Exit.then (Code.wpIn (FR none) 0 D.P B (bodyPostM (FR none) 0 D.P fn R)) (bodyPostM (FR none) 0 D.P fn R)) ?_ (fun _ _ _ _ h => h.elim)
      · rw [hfrn] at hstep; exact hstep
      · rintro v av s' g1 w1 ⟨rfl, hB⟩ hx hs1 hr1
        have hv : v = .func (.func fd) #[] cv.toArray := by have hr1 : Rel g1.I _ _ := hr1; cases hr1; rfl
        subst hv
        have hi1 := k4.put (d := some t) hx hs1 hr1 (fun k hk => by cases hk; exact hlt)
        rw [hmk.1]
        rw [wpOpsIn_cons]
        unfold wpOpIn
        rw [h1]
        dsimp only
        have hwant : Region.wanted df (yielded ops (aA.put (some t) (.func (.func fd) #[] cv.toArray)).tmps) = true := by simp [Region.wanted, hdf.2.2]
        rw [if_pos hwant]
        refine ⟨fun _ _ => trivial, ?_⟩
        have hev : (aA.put (some t) (.func (.func fd) #[] cv.toArray)).eval (.tmp t) = .func (.func fd) #[] cv.toArray := by
          have hsz : t < aA.tmps.size := by rw [k4.size]; exact hlt
          simp [Act.eval, Act.put, hsz]
        have hexec : (df.semAt (FR none).round (aA.put (some t) (.func (.func fd) #[] cv.toArray)).eval).run D.P w1 = .ok (.defer { target := .fn (.func fd) cv.toArray, args := #[] }) w1 := by
          show (execOp _ df).run D.P w1 = _
          simp [execOp, hdf.1, resolve, hev, Deferred.ofValue]
        rw [hexec]
        show Code.wpIn (FR none) 0 D.P B (bodyPostM (FR none) 0 D.P fn R) _ w1
        rw [hdf.2.1]
        -- the tail, under the deferred call
        obtain ⟨ms, m1, m2, m3⟩ := hi1.defers
        have hge1 : Fra ge w g1 w1 := k3.trans hx.fra
        have hd1 : g1.fr.dfr = [] := by rw [hge1.fr]
        rw [hd1, List.append_nil] at m1
        obtain ⟨d, hd⟩ : ∃ d : Deferred, d = { target := .fn (.func fd) cv.toArray, args := #[] } := ⟨_, rfl⟩
        let gd : G := { g1 with fr := ⟨w1.heap.size, none, D.floor, d :: ms⟩ }
        have hid : Is D gd w1 ⟨putO (some t) (.c (.v (.func (.func fd) #[] cv.toArray))) stA.t, s'⟩ ({ (aA.put (some t) (.func (.func fd) #[] cv.toArray)) with defers := d :: (aA.put (some t) (.func (.func fd) #[] cv.toArray)).defers }) := by
          refine ⟨hi1.sim.setFr _, hi1.size, fun k v hk => (hi1.env k v hk).setFr _, ⟨[], ?_, List.nodup_nil, fun _ h => by cases h⟩, fun l hl => (by cases hl), rfl, Nat.le_refl _, fun e => by
            show d :: _ = d :: ms
            rw [m1]⟩
          show d :: _ = [] ++ (d :: ms)
          rw [m1]; rfl
        have hBw := hB gd w1 gd w1 _ (.refl _ _) hid 0
        rw [hd] at hBw
        refine wpIn_mono hBw ?_
        intro e aB wB hp
        obtain ⟨bx, stB, gB, b1, b2, b3, b4⟩ := hp
        -- the deferred call, and what is behind it
        have tail : ∀ (u : FrameMode) (Kd : FrameMode → Heap → Prop), u ≠ .run → DefA D.P fd (cv.map fun v => .c (.v v)) u stB.s.h Kd →
            (∀ u' h', Kd u' h' → (settle u' = .returning ∧ resA D ⟨stB.t, stB.s.setH h'⟩ fn.results.toList fun l => K (.ret (oneOf l)) h') ∨ (∃ v', settle u' = .panicking [{ v := v', recovered := false }] ∧ K (.pan v') h')) →
            LeavesInM (FR none) 0 D.P fn aB.tmps R aB.defers u wB := by
          intro u Kd hu hdef hk
          obtain ⟨msB, n1, n2, n3⟩ := b4.defers
          have hfrB : gB.fr.dfr = d :: ms := by rw [b3.fr]
          rw [n1]
          refine leaves_marks (D := D) hu msB gB wB b3 (by rw [b3.fr]; exact Nat.le_refl _) (by rw [← n1]; exact b4) fun w2 hf2 hi2 => ?_
          rw [hfrB] at hi2 ⊢
          obtain ⟨fn', q1, q2, q3⟩ := hdef.fn
          have hinv : (invoke d.target d.args).run D.P w2 = .ok (.enter fd cv.toArray) w2 := by
            have hnb : fn'.body.isNone = false := by cases hb : fn'.body <;> simp [hb] at q2 ⊢
            rw [hd]
            have : (callFunc fd cv.toArray).run D.P w2 = .ok (.enter fd cv.toArray) w2 := by
              simp only [callFunc, Sem.run_bind, run_program, Result.andThen_ok, q1, q3, hnb]
              rfl
            simpa [invoke] using this
          refine ⟨hu, .inr ⟨fun h => by simp [FR, Fence.wide] at h, .func fd, cv.toArray, fd, cv.toArray, by rw [hd], hinv, fun _ _ => trivial, ?_⟩⟩
          refine CallsDIn.mono (hdef.run (bareOf gB) w2 cv (0 - 1) (bareOf_bare gB) hi2.sim.bare (RelVs.atoms hcv)) ?_
          rintro e u' w3 ⟨g3, h3, c1, c2, c3, ⟨v, rfl⟩, c4⟩
          show LeavesInM (FR none) 0 D.P fn aB.tmps R ms (settle u') w3
          obtain ⟨g4, f1, f2, _⟩ := hi2.sim.back c2 c1 c3
          have hF4 : Fra gd w1 g4 w3 := hf2.trans f1.fra
          have hF5 : Fra ge w { g4 with fr := g1.fr } w3 := hge1.trans (Fra.reFr (x := ⟨w1.heap.size, none, D.floor, d :: ms⟩) (by rw [hge1.fr]) hF4)
          have hi4 : Is D { g4 with fr := g1.fr } w3 ⟨stB.t, stB.s.setH h3⟩ { tmps := aB.tmps, defers := ms } := by
            refine ⟨by cases hsB : stB.s; rw [hsB] at f2; exact f2.setFr _, hi2.size, fun k v hv => ?_, ⟨ms, ?_, m2, fun x hx => ?_⟩, fun l hl => ?_, by show g1.fr.fl = _; rw [hge1.fr], ?_, ?_⟩
            · have := hi2.env k v hv
              have := RelV.keep f1.keep this
              cases hsB : stB.s
              rw [hsB] at this
              exact this.setFr g1.fr
            · show ms = ms ++ g1.fr.dfr; rw [hd1, List.append_nil]
            · obtain ⟨E, e1, e2, e3, e4⟩ := m3 x hx
              obtain ⟨i1, i2, _⟩ := hF4.imm E (Array.getElem?_eq_some_iff.1 e3).1 e4
              exact ⟨E, e1, e2, i1.trans e3, i2⟩
            · have : g1.fr.rnd = some l := hl
              rw [hge1.fr] at this; cases this
            · show g1.fr.base ≤ w3.heap.size
              exact Nat.le_trans hi1.base hF4.size
            · intro e
              show ms = g1.fr.dfr
              rw [← m1]; exact hi1.nor e
          have hne : settle u' ≠ .run := by
            rcases hk u' h3 c4 with ⟨h, _⟩ | ⟨v', h, _⟩ <;> rw [h] <;> simp
          refine last ms (settle u') _ w3 _ aB.tmps hne hF5 hi4 ?_
          rcases hk u' h3 c4 with ⟨h, h'⟩ | ⟨v', h, h'⟩
          · refine .inl ⟨h, ?_⟩
            cases hsB : stB.s
            rw [hsB] at h'
            exact h'
          · refine .inr ⟨v', h, ?_⟩
            cases hsB : stB.s
            exact h'
        cases e with
        | normal =>
          cases bx with
          | normal => exact tail .returning _ (by simp) b2 fun u' h' hk => .inl hk
          | _ => exact b1.elim
        | ret =>
          cases bx with
          | ret => exact tail .returning _ (by simp) b2 fun u' h' hk => .inl hk
          | _ => exact b1.elim
        | panic ch =>
          cases bx with
          | panic v =>
            have hch : ch = _ := b1
            subst hch
            exact tail _ _ (by simp) b2 fun u' h' hk => hk
          | _ => exact b1.elim
        | exit id => cases bx <;> first | exact b1.elim | exact b2.elim
        | goto l => cases bx <;> exact b1.elim
        | outgrown => cases bx <;> exact b1.elim
    | _ => exact k1.elim

/-- THE RULE FOR A DEFERRED LITERAL that begins with 'g := recover()'. u: how its caller leaves; rv: what recover hands back; u': how the caller leaves from there on. -/
def recA : FrameMode → Option (Value × FrameMode)
  | .returning => some (.nilIface, .returning)
  | .panicking [{ v := v, recovered := false, goexit := false }] => some (v, .panicking [{ v := v, recovered := true }])
  | _ => none
theorem defA_recover {D : Cfg2} {f : Nat} {fn : Func} {C : Code} {id : Nat} {ops : Array Oper} {o0 o1 : Oper} {ta tb : Nat} {tys : Array TypeId} {args : List AV} {h : Heap} {u u' : FrameMode} {rv : Value} {K : FrameMode → Heap → Prop} (hf : D.P.funcs[f]? = some fn)
    (hb : fn.body = some (.seq (.region id ops false) C)) (hops : ops.size = 2) (h0 : ops[0]? = some o0) (h1 : ops[1]? = some o1) (ho0 : o0.op = .call { callee := .builtin .recover, args := #[], argTypes := tys } ∧ o0.dst = some ta ∧ o0.guard = none) (ho1 : o1.op = .assign (.tmp ta) ∧ o1.dst = some tb ∧ o1.guard = none)
    (hname : (fn.name == "runtime.NumGoroutine") = false) (hnt : fn.ntmps = D.nt) (hlen : args.length ≤ D.nt) (hta : ta < D.nt) (htb : tb < D.nt) (hres : fn.results = #[]) (hnor : D.nor = true) (hu : recA u = some (rv, u')) (hrv : rv.oneCell' = true)
    (hw : ∀ (g : G) (vs : List Value), RelVs g [] args vs → Awp D C ⟨put tb (.c (.v rv)) (put ta (.c (.v rv)) (envFrom 0 args)), ⟨[], [], h⟩⟩ fun x st => match x with
      | .normal => K u' st.s.h
      | .ret => K u' st.s.h
      | _ => False) : DefA D.P f args u h K := by
  refine ⟨⟨fn, hf, by simp [hb], hname⟩, fun g w vs n hbare hs hr => ?_⟩
  have hl := RelVs.len hr
  let ge : G := { g with fr := ⟨w.heap.size, none, D.floor, []⟩ }
  let a0 : Act := { tmps := vs.toArray ++ Array.replicate (fn.ntmps - vs.toArray.size) undef, defers := [] }
  have his : Is D ge w ⟨envFrom 0 args, ⟨[], [], h⟩⟩ a0 := by
    refine ⟨hs.setFr _, by simp [a0]; omega, fun t v ht => ?_, Marks.nil _ _ rfl, fun l hl => (by cases hl), rfl, Nat.le_refl _, fun _ => rfl⟩
    obtain ⟨_, y, h1, h2⟩ := env_start args vs 0 hr t v ht
    rw [Nat.sub_zero] at h1
    have hlt := (List.getElem?_eq_some_iff.1 h1).1
    have : (vs.toArray ++ Array.replicate (fn.ntmps - vs.toArray.size) undef).getD t undef = y := by
      rw [Array.getD_eq_getD_getElem?, Array.getElem?_append_left (by simpa using hlt)]
      simp [h1]
    show RelV ge [] v ((vs.toArray ++ Array.replicate (fn.ntmps - vs.toArray.size) undef).getD t undef)
    rw [this]
    exact RelV.imle (g := g) (g' := ge) (Im.le_refl _) hbare.bl h2
  have hi1 := his.put (d := some ta) (v := .c (.v rv)) (y := rv) (.refl _ _ _) his.sim (Rel.v rv hrv : Rel ge.I _ _) (fun k hk => by cases hk; exact hta)
  have hi2 := hi1.put (d := some tb) (v := .c (.v rv)) (y := rv) (.refl _ _ _) his.sim (Rel.v rv hrv : Rel ge.I _ _) (fun k hk => by cases hk; exact htb)
  have hwp := hw g vs hr ge w ge w _ (.refl _ _) hi2 n
  refine callsDIn_of_wpSIn hf hb trivial fun c₀ cs hc => ?_
  refine wpSIn_seq (wpSIn_region ?_)
  have hrange : List.range ops.size = [0, 1] := by rw [hops]; rfl
  rw [hrange]
  have hrec : ∃ cs', cs' = { c₀ with mode := u' } :: cs ∧ ((recoverD (c₀ :: cs) = some (rv, cs')) ∨ (recoverD (c₀ :: cs) = none ∧ rv = .nilIface ∧ cs' = c₀ :: cs)) := by
    unfold recA at hu
    split at hu
    · cases hu
      refine ⟨_, rfl, .inr ⟨by simp [recoverD, hc], rfl, ?_⟩⟩
      rw [← hc]
    · cases hu
      exact ⟨_, rfl, .inl (by simp [recoverD, hc])⟩
    · cases hu
  obtain ⟨cs', hcs, hrec⟩ := hrec
  have hw0 : Region.wanted o0 (yielded ops a0.tmps) = true := by simp [Region.wanted, ho0.2.2]
  have hw1 : Region.wanted o1 (yielded ops (a0.put (some ta) rv).tmps) = true := by simp [Region.wanted, ho1.2.2]
  have hx0 : (execOp a0.eval o0).run D.P w = .ok .recover w := by
    simp [execOp, ho0.1, resolve, invoke, builtin]
  have hev : (a0.put (some ta) rv).eval (.tmp ta) = rv := by
    have hsz : ta < a0.tmps.size := by rw [his.size]; exact hta
    simp [Act.eval, Act.put, hsz]
  have hx1 : (execOp (a0.put (some ta) rv).eval o1).run D.P w = .ok (.value rv) w := by
    simp [execOp, ho1.1, hev]
  have rest : wpOpsSIn (FR none) n D.P ops (Exit.thenS (C.wpSIn (FR none) n D.P (bodyPostS D.P fn c₀ cs fun e u' w' => ∃ g' h', Bare g' ∧ Fra g w g' w' ∧ Sim g' w' ⟨[], [], h'⟩ ∧ (∃ v, e = .returned v) ∧ K u' h')) (bodyPostS D.P fn c₀ cs fun e u' w' => ∃ g' h', Bare g' ∧ Fra g w g' w' ∧ Sim g' w' ⟨[], [], h'⟩ ∧ (∃ v, e = .returned v) ∧ K u' h')) [1] (a0.put (some ta) rv) cs' w := by
    simp only [wpOpsSIn, h1]
    refine ⟨fun _ _ => trivial, ?_⟩
    rw [if_pos hw1, hx1]
    dsimp only
    rw [ho1.2.1]
    show C.wpSIn (FR none) n D.P _ _ cs' w
    refine wpSIn_of_wpIn rfl (wpIn_mono hwp ?_)
    intro e a' w' hp
    obtain ⟨ax, st', g', k1, k2, k3, k4⟩ := hp
    have hdf : a'.defers = [] := by rw [k4.nor hnor, k3.fr]
    have fin : K u' st'.s.h → a'.defers = [] ∧ ∃ u'', cs' = { c₀ with mode := u'' } :: cs ∧ ∃ v, (results fn a'.tmps).run D.P w' = .ok v w' ∧ ∃ g' h', Bare g' ∧ Fra g w g' w' ∧ Sim g' w' ⟨[], [], h'⟩ ∧ (∃ v', Ending.returned v = .returned v') ∧ K u'' h' := by
      intro hk
      refine ⟨hdf, u', hcs, .tuple #[], by simp [results, hres], bareOf { g' with fr := g.fr }, st'.s.h, bareOf_bare _, ?_, (k4.sim.setFr _).bare, ⟨_, rfl⟩, hk⟩
      exact fra_bare hbare.bl ⟨k3.os, k3.tape, k3.output, k3.size, k3.im, k3.imm, k3.glob, k3.ext, rfl, fun n b _ h => by rw [hbare.bl] at h; simp at h⟩
    cases e with
    | normal => cases ax <;> first | exact k1.elim | exact fin k2
    | ret => cases ax <;> first | exact k1.elim | exact fin k2
    | panic ch => cases ax <;> first | exact k1.elim | exact k2.elim
    | exit id => cases ax <;> first | exact k1.elim | exact k2.elim
    | goto l => cases ax <;> exact k1.elim
    | outgrown => cases ax <;> exact k1.elim
  rw [wpOpsSIn, h0]
  refine ⟨fun _ _ => trivial, ?_⟩
  rw [if_pos hw0, hx0]
  dsimp only
  rcases hrec with hrec | ⟨hrec, rfl, hcs'⟩
  · rw [hrec]
    dsimp only
    rw [ho0.2.1]; exact rest
  · rw [hrec]
    dsimp only
    rw [ho0.2.1, ← hcs']; exact rest
end Go.Proofs.YtdgjpncflkpjfaaDoor.Aw
