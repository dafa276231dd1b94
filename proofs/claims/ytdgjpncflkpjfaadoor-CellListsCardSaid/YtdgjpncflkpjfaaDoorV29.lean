/- The contracts of vtext.Scan and Parse. -/
import Derived.Test.YtdgjpncflkpjfaaDoorV28
import Derived.Test.YtdgjpncflkpjfaaDoorV26
import Derived.Test.YtdgjpncflkpjfaaDoorV13
import Derived.Test.YtdgjpncflkpjfaaDoorV29a
set_option linter.unusedVariables false
set_option linter.unusedSimpArgs false
namespace Go.Proofs.YtdgjpncflkpjfaaDoor
open Aw

theorem Aw.DefA.mono {P : Program} {f : Nat} {args : List AV} {u : FrameMode} {h : Heap} {K K' : FrameMode → Heap → Prop} (c : DefA P f args u h K) (hk : ∀ u' h', K u' h' → K' u' h') : DefA P f args u h K' :=
  ⟨c.fn, fun g w vs n hb hs hr => CallsDIn.mono (c.run g w vs n hb hs hr) fun e u' w' ⟨g', h', a1, a2, a3, a4, a5⟩ => ⟨g', h', a1, a2, a3, a4, hk _ _ a5⟩⟩

/-- Less is known of what is shared. -/
theorem Aw.Sim.less {g : G} {w : World} {l : List (Nat × List AC)} {o : List (Nat × Nat × Nat)} {h h' : Heap} (hle : ∀ q y, h q = some y → h' q = some y) (hs : Sim g w ⟨l, o, h'⟩) : Sim g w ⟨l, o, h⟩ :=
  ⟨hs.im, hs.imr, hs.fresh, hs.loc, hs.blen, hs.box, hs.tlen, hs.tok, fun b ho hb => hs.glob b ho (hle b ho hb)⟩
theorem Aw.PureA.of_kept {P : Program} {f : Nat} {args : List AV} {r : AV} (c : ∀ h, CallsA P f args h fun e h' => (∃ r0, e = .ret r0 ∧ VLe r0 r) ∧ ∀ q y, h q = some y → h' q = some y) : PureA P f args r :=
  PureA.le fun h => ⟨(c h).fn, fun g w vs hb hs hr => ((c h).run g w vs hb hs hr).mono fun e w' ⟨g', r', h', a1, a2, a3, a4, a5, a6⟩ => ⟨g', r', h, a1, a2, Sim.less a6 a3, a4, a5, rfl⟩⟩

def seqR : Code → Code
  | .seq _ y => y
  | c => c
def regOps : Code → Array Oper
  | .region _ o _ => o
  | .seq x _ => regOps x
  | _ => #[]
/-- The same, with what is kept where a panic starts. -/
noncomputable def D6 (nt : Nat) (esc gd ll pk rd ws : List Nat) : Cfg2 := { P := Tryd.prog, ty := ty, nt := nt, pure := fun f => !imp4.any (Nat.beq f), esc := fun t => esc.any (Nat.beq t), lload := fun t => ll.any (Nat.beq t), gd := fun t => gd.any (Nat.beq t), pk := pk, rdt := rd, stt := pk, wrT := ws }

set_option maxRecDepth 8000 in
set_option maxHeartbeats 2000000 in
theorem scanx_pure (s : ByteArray) (hs : s.size ≤ 500000) (p : Int) : PureA Tryd.prog 63 [.c (.v (.string s)), .c (.v (.int .i64 p))] (outAV (scanO u8B s p)) := by
  refine PureA.of_kept fun h => ?_
  refine callsA_defer (D := D6 34 [4, 5, 6, 22] [10] [] [4, 5, 6] [33] [24, 3, 30]) (t := 18) (fd := 76) (id := 3) (B := seqR (seqR (seqR (Tryd.f63.body.getD .skip)))) (ops := regOps (seqR (seqR (Tryd.f63.body.getD .skip)))) ty_ok Tryd.func63 rfl rfl rfl rfl ⟨rfl, rfl⟩ (by simp [D6]) ⟨rfl, rfl, rfl⟩ (by kernel_rfl) (by kernel_rfl) (by simp [D6]) ?_
  intro g vs hr
  clear hr
  obtain ⟨O, hO⟩ : ∃ O, O = scanO u8B s p := ⟨_, rfl⟩
  rw [← hO]
  unfold scanO at hO
  refine PreA.cons (Awp.of ty_ok mixed ?_)
  intro b4 hb4 b5 hb5' b6 hb6'
  have hb4 : h b4 = none := hb4
  have hb5' : upd h b4 (.cells 24 zeroC) b5 = none := hb5'
  have n54 : b5 ≠ b4 := fun e => by subst e; rw [upd_same] at hb5'; cases hb5'
  have hb5 : h b5 = none := by rwa [upd_ne _ _ n54] at hb5'
  have hb6' : upd (upd h b4 (.cells 24 zeroC)) b5 (.cells 3 [.v (.int .i64 0)]) b6 = none := hb6'
  have n65 : b6 ≠ b5 := fun e => by subst e; rw [upd_same] at hb6'; cases hb6'
  rw [upd_ne _ _ n65] at hb6'
  have n64 : b6 ≠ b4 := fun e => by subst e; rw [upd_same] at hb6'; cases hb6'
  have hb6 : h b6 = none := by rwa [upd_ne _ _ n64] at hb6'
  -- what was shared ahead of the call stays
  have keep : ∀ {h1 : Heap}, (∀ q y, q ≠ b4 → q ≠ b5 → q ≠ b6 → h q = some y → h1 q = some y) → ∀ q y, h q = some y → h1 q = some y := fun hk q y hq =>
    hk q y (fun e => by rw [e, hb4] at hq; cases hq) (fun e => by rw [e, hb5] at hq; cases hq) (fun e => by rw [e, hb6] at hq; cases hq) hq
  obtain ⟨H0, hH0⟩ : ∃ H0, H0 = upd (upd (upd h b4 (.cells 24 zeroC)) b5 (.cells 3 [.v (.int .i64 0)])) b6 (.cells 30 [.v (.int .i64 0)]) := ⟨_, rfl⟩
  have g4 : upd (upd (upd h b4 (.cells 24 zeroC)) b5 (.cells 3 [.v (.int .i64 0)])) b6 (.cells 30 [.v (.int .i64 0)]) b4 = some (.cells 24 zeroC) := by rw [upd_ne _ _ (Ne.symm n64), upd_ne _ _ (Ne.symm n54), upd_same]
  have g5 : upd (upd (upd h b4 (.cells 24 zeroC)) b5 (.cells 3 [.v (.int .i64 0)])) b6 (.cells 30 [.v (.int .i64 0)]) b5 = some (.cells 3 [.v (.int .i64 0)]) := by rw [upd_ne _ _ (Ne.symm n65), upd_same]
  have g6 : upd (upd (upd h b4 (.cells 24 zeroC)) b5 (.cells 3 [.v (.int .i64 0)])) b6 (.cells 30 [.v (.int .i64 0)]) b6 = some (.cells 30 [.v (.int .i64 0)]) := upd_same _ _ _
  have g0 : ∀ q y, q ≠ b4 → q ≠ b5 → q ≠ b6 → h q = some y → upd (upd (upd h b4 (.cells 24 zeroC)) b5 (.cells 3 [.v (.int .i64 0)])) b6 (.cells 30 [.v (.int .i64 0)]) q = some y := fun q y e4 e5 e6 hq => by
    rw [upd_ne _ _ e6, upd_ne _ _ e5, upd_ne _ _ e4]; exact hq
  -- what is known when the three results are written
  have w3 : ∀ {h1 : Heap} (c4 c5 c6 : List AC), (∀ q y, q ≠ b4 → q ≠ b5 → q ≠ b6 → h q = some y → h1 q = some y) →
      upd (upd (upd h1 b4 (.cells 24 c4)) b5 (.cells 3 c5)) b6 (.cells 30 c6) b4 = some (.cells 24 c4) ∧ upd (upd (upd h1 b4 (.cells 24 c4)) b5 (.cells 3 c5)) b6 (.cells 30 c6) b5 = some (.cells 3 c5) ∧ upd (upd (upd h1 b4 (.cells 24 c4)) b5 (.cells 3 c5)) b6 (.cells 30 c6) b6 = some (.cells 30 c6) ∧
      ∀ q y, h q = some y → upd (upd (upd h1 b4 (.cells 24 c4)) b5 (.cells 3 c5)) b6 (.cells 30 c6) q = some y := fun c4 c5 c6 hk =>
    ⟨by rw [upd_ne _ _ (Ne.symm n64), upd_ne _ _ (Ne.symm n54), upd_same], by rw [upd_ne _ _ (Ne.symm n65), upd_same], upd_same _ _ _, keep fun q y e4 e5 e6 hq => by rw [upd_ne _ _ e6, upd_ne _ _ e5, upd_ne _ _ e4]; exact hk q y e4 e5 e6 hq⟩
  have i5 : ∀ {h1 : Heap} (x : HO), upd h1 b4 x b5 = h1 b5 := fun x => upd_ne _ _ n54
  have i6 : ∀ {h1 : Heap} (x y : HO), upd (upd h1 b4 x) b5 y b6 = h1 b6 := fun x y => by rw [upd_ne _ _ n65, upd_ne _ _ n64]
  have early : ∀ {h1 : Heap}, h1 b4 = some (.cells 24 zeroC) → True := fun _ => trivial
  clear early
  refine PreA.base (Awp.of ty_ok mixed ?_)
  refine Br.mk (fun h1 => ?_) (fun h1 => ?_)
  · have h1 := of_decide_eq_true h1
    rw [if_pos (.inl h1)] at hO
    refine ⟨_, _, ⟨g4, rfl⟩, by show 4 ≤ 4; decide, ?_⟩
    refine ⟨_, _, ⟨(i5 _).trans g5, rfl⟩, by show 1 ≤ 1; decide, ?_⟩
    refine ⟨_, _, ⟨(i6 _ _).trans g6, rfl⟩, by show 1 ≤ 1; decide, ?_⟩
    obtain ⟨k4, k5, k6, k0⟩ := w3 (h1 := upd (upd (upd h b4 (.cells 24 zeroC)) b5 (.cells 3 [.v (.int .i64 0)])) b6 (.cells 30 [.v (.int .i64 0)])) zeroC [.v (.int .i64 p)] [.v (.int .i64 1)] g0
    exact ⟨_, _, k4, _, _, k5, _, _, k6, ⟨_, rfl, leZero hO⟩, k0⟩
  have h1 := of_decide_eq_false h1
  refine Br.mk (fun h2 => ?_) (fun h2 => ?_)
  · have h2 := of_decide_eq_true h2
    rw [if_pos (.inr h2)] at hO
    refine ⟨_, _, ⟨g4, rfl⟩, by show 4 ≤ 4; decide, ?_⟩
    refine ⟨_, _, ⟨(i5 _).trans g5, rfl⟩, by show 1 ≤ 1; decide, ?_⟩
    refine ⟨_, _, ⟨(i6 _ _).trans g6, rfl⟩, by show 1 ≤ 1; decide, ?_⟩
    obtain ⟨k4, k5, k6, k0⟩ := w3 (h1 := upd (upd (upd h b4 (.cells 24 zeroC)) b5 (.cells 3 [.v (.int .i64 0)])) b6 (.cells 30 [.v (.int .i64 0)])) zeroC [.v (.int .i64 p)] [.v (.int .i64 1)] g0
    exact ⟨_, _, k4, _, _, k5, _, _, k6, ⟨_, rfl, leZero hO⟩, k0⟩
  have h2 := of_decide_eq_false h2
  rw [if_neg (by omega)] at hO
  obtain ⟨n, rfl⟩ : ∃ n : Nat, p = n := ⟨p.toNat, by omega⟩
  have hn : n ≤ s.size := by omega
  rw [Int.toNat_natCast] at hO
  refine ⟨[pV b4, pV b5, pV b6], rfl, rfl, Awp.of ty_ok mixed ?_⟩
  intro bR hbR
  have hbR : upd (upd (upd h b4 (.cells 24 zeroC)) b5 (.cells 3 [.v (.int .i64 0)])) b6 (.cells 30 [.v (.int .i64 0)]) bR = none := hbR
  have nR4 : bR ≠ b4 := fun e => by rw [e, g4] at hbR; cases hbR
  have nR5 : bR ≠ b5 := fun e => by rw [e, g5] at hbR; cases hbR
  have nR6 : bR ≠ b6 := fun e => by rw [e, g6] at hbR; cases hbR
  have hR0 : h bR = none := by rw [upd_ne _ _ nR6, upd_ne _ _ nR5, upd_ne _ _ nR4] at hbR; exact hbR
  obtain ⟨H1, hH1⟩ : ∃ H1, H1 = upd (upd (upd (upd h b4 (.cells 24 zeroC)) b5 (.cells 3 [.v (.int .i64 0)])) b6 (.cells 30 [.v (.int .i64 0)])) bR (.cells 109 [.v (.string s), .v (.int .i64 n), .v (.int .i64 0)]) := ⟨_, rfl⟩
  have hgR : upd (upd (upd (upd h b4 (.cells 24 zeroC)) b5 (.cells 3 [.v (.int .i64 0)])) b6 (.cells 30 [.v (.int .i64 0)])) bR (.cells 109 [.v (.string s), .v (.int .i64 n), .v (.int .i64 0)]) bR = some (rdC s n (4 - ((4 : Nat) : Int))) := upd_same _ _ _
  refine (value_calls text_ok s (by omega) 4 (Nat.le_refl _) bR n _ hgR hn).mono ?_
  intro x h2 hk
  -- the three results and what was there ahead are there still
  have still : Kp bR (upd (upd (upd (upd h b4 (.cells 24 zeroC)) b5 (.cells 3 [.v (.int .i64 0)])) b6 (.cells 30 [.v (.int .i64 0)])) bR (.cells 109 [.v (.string s), .v (.int .i64 n), .v (.int .i64 0)])) h2 →
      h2 b4 = some (.cells 24 zeroC) ∧ h2 b5 = some (.cells 3 [.v (.int .i64 0)]) ∧ h2 b6 = some (.cells 30 [.v (.int .i64 0)]) ∧ ∀ q y, q ≠ b4 → q ≠ b5 → q ≠ b6 → h q = some y → h2 q = some y := fun kp =>
    ⟨kp _ _ (Ne.symm nR4) (by rw [upd_ne _ _ (Ne.symm nR4)]; exact g4), kp _ _ (Ne.symm nR5) (by rw [upd_ne _ _ (Ne.symm nR5)]; exact g5), kp _ _ (Ne.symm nR6) (by rw [upd_ne _ _ (Ne.symm nR6)]; exact g6), fun q y e4 e5 e6 hq => by
      have hqR : q ≠ bR := fun e => by rw [e, hR0] at hq; cases hq
      exact kp _ _ hqR (by rw [upd_ne _ _ hqR]; exact g0 q y e4 e5 e6 hq)⟩
  cases hgr : getS s 4 n with
  | no a e =>
    rw [hgr] at hk hO
    obtain ⟨rfl, kp⟩ := hk
    obtain ⟨s4, s5, s6, s0⟩ := still kp
    refine (scan1_pan b4 b5 b6 h2 a e s4 rfl s5 rfl s6 rfl n54 n64 n65).mono ?_
    rintro u' h' ⟨rfl, rfl⟩
    obtain ⟨k4, k5, k6, k0⟩ := w3 (h1 := h2) zeroC [.v (.int .i64 a)] [.v (.int .i64 e)] s0
    exact .inl ⟨rfl, _, _, k4, _, _, k5, _, _, k6, ⟨_, rfl, leZero hO⟩, k0⟩
  | ok v nx =>
    rw [hgr] at hk hO
    dsimp only at hO
    obtain ⟨rfl, hr2, kp⟩ := hk
    obtain ⟨s4, s5, s6, s0⟩ := still kp
    have hz := getS_size 4 n hn v nx hgr
    have hnx := (getS_next (s := s) 4 n hn).1 v nx hgr
    have hright := right_pure uvalid_ok v (by omega) (by omega)
    rw [Val.ac_eq] at hright ⊢
    refine ⟨_, _, ⟨s4, rfl⟩, by show 4 ≤ 4; decide, ?_⟩
    have t4 : upd h2 b4 (.cells 24 [.v (.int .i64 v.kind), .v (.int .i64 v.n), .v (.string v.s), .sl 4 (Val.acs v.l)]) b4 = some (.cells 24 [.v (.int .i64 v.kind), .v (.int .i64 v.n), .v (.string v.s), .sl 4 (Val.acs v.l)]) := upd_same _ _ _
    refine ⟨_, _, t4, ?_⟩
    refine ⟨_, hright, ?_⟩
    refine (must_calls _ _ _ _).mono ?_
    rintro x h3 ⟨rfl, hk⟩
    have t0 : ∀ q y, q ≠ b4 → q ≠ b5 → q ≠ b6 → h q = some y → upd h2 b4 (.cells 24 [.v (.int .i64 v.kind), .v (.int .i64 v.n), .v (.string v.s), .sl 4 (Val.acs v.l)]) q = some y := fun q y e4 e5 e6 hq => by rw [upd_ne _ _ e4]; exact s0 q y e4 e5 e6 hq
    cases hrb : rightB u8B v with
    | false =>
      rw [hrb] at hk hO
      have hk : x = .pan _ := hk
      subst hk
      rw [if_neg (by simp)] at hO
      refine (scan1_pan b4 b5 b6 _ n 4 t4 rfl ((i5 _).trans s5) rfl ((upd_ne _ _ n64).trans s6) rfl n54 n64 n65).mono ?_
      rintro u' h' ⟨rfl, rfl⟩
      obtain ⟨k4, k5, k6, k0⟩ := w3 (h1 := upd h2 b4 (.cells 24 [.v (.int .i64 v.kind), .v (.int .i64 v.n), .v (.string v.s), .sl 4 (Val.acs v.l)])) zeroC [.v (.int .i64 n)] [.v (.int .i64 4)] t0
      exact .inl ⟨rfl, _, _, k4, _, _, k5, _, _, k6, ⟨_, rfl, leZero hO⟩, k0⟩
    | true =>
      rw [hrb] at hk hO
      have hk : x = .ret (.tup []) := hk
      subst hk
      rw [if_pos rfl] at hO
      refine Pre.mk (by kernel_rfl) ?_
      refine ⟨_, _, t4, ?_⟩
      refine ⟨_, _, ⟨(upd_ne _ _ nR4).trans hr2, rfl⟩, ?_⟩
      refine ⟨_, _, ⟨t4, rfl⟩, by show 4 ≤ 4; decide, ?_⟩
      refine ⟨_, _, ⟨(i5 _).trans ((i5 _).trans s5), rfl⟩, by show 1 ≤ 1; decide, ?_⟩
      refine ⟨_, _, ⟨(i6 _ _).trans ((upd_ne _ _ n64).trans s6), rfl⟩, by show 1 ≤ 1; decide, ?_⟩
      refine (scan1_ret b4 b5 b6 _).mono ?_
      rintro u' h' ⟨rfl, rfl⟩
      obtain ⟨k4, k5, k6, k0⟩ := w3 (h1 := upd h2 b4 (.cells 24 [.v (.int .i64 v.kind), .v (.int .i64 v.n), .v (.string v.s), .sl 4 (Val.acs v.l)])) [.v (.int .i64 v.kind), .v (.int .i64 v.n), .v (.string v.s), .sl 4 (Val.acs v.l)] [.v (.int .i64 nx)] [.v (.int .i64 0)] t0
      exact ⟨rfl, _, _, k4, _, _, k5, _, _, k6, ⟨_, rfl, by rw [hO]; exact VLe.refl _⟩, k0⟩

theorem parsex_pure (s : ByteArray) (hs : s.size ≤ 500000) : PureA Tryd.prog 40 [.c (.v (.string s))] (outAV (parseO u8B s)) := by
  refine PureA.le fun h => ?_
  refine callsA_of (D := D1 27 [] [] [16]) ty_ok mixed Tryd.func40 rfl (by kernel_rfl) (by kernel_rfl) (by simp [D1]) ?_
  intro g vs hr
  clear hr
  have hscan := scanx_pure s hs 0
  obtain ⟨O, hO⟩ : ∃ O, O = parseO u8B s := ⟨_, rfl⟩
  rw [← hO]
  unfold parseO at hO
  obtain ⟨S, hS⟩ : ∃ S, S = scanO u8B s 0 := ⟨_, rfl⟩
  rw [← hS] at hO hscan
  obtain ⟨v, a, e⟩ := S
  simp only [outAV] at hscan
  refine ⟨_, hscan, Br.mk (fun h1 => ?_) (fun h1 => ?_)⟩
  · have h1 : e = 0 := eq_of_beq h1
    refine Br.mk (fun h2 => ?_) (fun h2 => ?_)
    · rw [if_pos ⟨h1, of_decide_eq_true h2⟩] at hO
      exact ⟨⟨_, rfl, leZero hO⟩, rfl⟩
    · rw [if_neg (fun hh => of_decide_eq_false h2 hh.2)] at hO
      exact ⟨⟨_, rfl, by rw [hO]; exact VLe.refl _⟩, rfl⟩
  · rw [if_neg (fun hh => ne_of_beq_false h1 hh.1)] at hO
    exact ⟨⟨_, rfl, by rw [hO]; exact VLe.refl _⟩, rfl⟩
end Go.Proofs.YtdgjpncflkpjfaaDoor
