/- The abstract machine, first part: abstract values, what they say of memory, and how memory may change. -/
import Derived.Calls
import Derived.Orders
import Derived.Laws.Sem
import Derived.Laws.World
import Derived.Laws.AppendOwn
import Derived.Maps.AppendAt
import Derived.Laws.Rows
import Derived.Laws.CopyRow
import Derived.Laws.IdiomCopy
import Derived.KernelRfl
import Derived.RangeFuncNested
import Derived.RangeFuncLeaves
set_option linter.unusedVariables false
set_option linter.unusedSimpArgs false
namespace Go.Proofs.YtdgjpncflkpjfaaDoor.Aw

/-- One cell. v: a value that means nothing in memory; sl: a slice whose rows never change; ro: a pointer to cells that never change; fn: a function value; loc: a pointer into a box of this call; own: a slice that may be appended to. -/
inductive AC where
  | tt | ff
  | v (x : Value)
  | nil
  | sl (sz : Nat) (rows : List (List AC))
  | ro (cells : List AC)
  | fn (f : Fn) (first captured : List AC)
  | loc (n off : Nat)
  | own (n sz : Nat) (rows : List (List AC))
  deriving Inhabited

inductive AV where
  | c (x : AC)
  | agg (xs : List AC)
  | tup (xs : List AV)
  deriving Inhabited

abbrev Im := Nat → Nat → Option Value

def lenMax : Nat := 140737488355328

inductive Rel (I : Im) : AC → Value → Prop where
  | tt : Rel I .tt (.bool true)
  | ff : Rel I .ff (.bool false)
  | v (x : Value) : x.oneCell' = true → Rel I (.v x) x
  | nil : Rel I .nil (.slice none 0 0)
  | sl (sz : Nat) (rows : List (List AC)) (A : Option Addr) (c : Nat) (f : Nat → Nat → Value) :
      0 < sz → rows.length ≤ c → rows.length ≤ lenMax → (∀ r ∈ rows, r.length = sz) →
      (∀ i r k x, rows[i]? = some r → r[k]? = some x → ∃ b off, A = some ⟨b, off, none⟩ ∧ I b (off + (i * sz + k)) = some (f i k)) →
      (∀ i r k x, rows[i]? = some r → r[k]? = some x → Rel I x (f i k)) → Rel I (.sl sz rows) (.slice A rows.length c)
  | ro (cells : List AC) (b off : Nat) (f : Nat → Value) :
      (∀ k x, cells[k]? = some x → I b (off + k) = some (f k)) → (∀ k x, cells[k]? = some x → Rel I x (f k)) →
      Rel I (.ro cells) (.pointer (some ⟨b, off, none⟩))
  | fn (fn : Fn) (first captured : List AC) (f g : Nat → Value) :
      (∀ k x, first[k]? = some x → Rel I x (f k)) → (∀ k x, captured[k]? = some x → Rel I x (g k)) →
      Rel I (.fn fn first captured) (.func fn ((List.range first.length).map f).toArray ((List.range captured.length).map g).toArray)

def Im.le (I J : Im) : Prop := ∀ b k x, I b k = some x → J b k = some x
theorem Im.le_refl (I : Im) : I.le I := fun _ _ _ h => h
theorem Im.le_trans {I J K : Im} (h : I.le J) (k : J.le K) : I.le K := fun b o x e => k b o x (h b o x e)

theorem Rel.mono {I J : Im} (hle : I.le J) {x : AC} {y : Value} (h : Rel I x y) : Rel J x y := by
  induction h with
  | tt => exact .tt
  | ff => exact .ff
  | v x h => exact .v x h
  | nil => exact .nil
  | sl sz rows A c f h0 h1 h2 h3 h4 h5 ih =>
    refine .sl sz rows A c f h0 h1 h2 h3 (fun i r k x hr hx => ?_) ih
    obtain ⟨b, off, e, hi⟩ := h4 i r k x hr hx
    exact ⟨b, off, e, hle _ _ _ hi⟩
  | ro cells b off f h1 h2 ih => exact .ro cells b off f (fun k x hx => hle _ _ _ (h1 k x hx)) ih
  | fn fn first captured f g h1 h2 ih1 ih2 => exact .fn fn first captured f g ih1 ih2

theorem Rel.one {I : Im} {x : AC} {y : Value} (h : Rel I x y) : y.oneCell' = true := by
  cases h <;> first | rfl | assumption

def All2 {α β : Type} (R : α → β → Prop) : List α → List β → Prop
  | [], [] => True
  | a :: x, b :: y => R a b ∧ All2 R x y
  | _, _ => False

theorem All2.length {α β : Type} {R : α → β → Prop} : ∀ {x : List α} {y : List β}, All2 R x y → x.length = y.length
  | [], [], _ => rfl
  | _ :: _, _ :: _, h => by simp [All2.length h.2]
  | [], _ :: _, h => h.elim
  | _ :: _, [], h => h.elim

theorem All2.mono {α β : Type} {R S : α → β → Prop} (hRS : ∀ a b, R a b → S a b) : ∀ {x : List α} {y : List β}, All2 R x y → All2 S x y
  | [], [], _ => trivial
  | _ :: _, _ :: _, h => ⟨hRS _ _ h.1, h.2.mono hRS⟩
  | [], _ :: _, h => h.elim
  | _ :: _, [], h => h.elim

theorem All2.get {α β : Type} {R : α → β → Prop} : ∀ {x : List α} {y : List β}, All2 R x y → ∀ (k : Nat) (a : α), x[k]? = some a → ∃ b, y[k]? = some b ∧ R a b
  | a :: x, b :: y, h, 0, a', e => by simp at e; exact ⟨b, rfl, e ▸ h.1⟩
  | a :: x, b :: y, h, k + 1, a', e => by simpa using h.2.get k a' (by simpa using e)
  | [], [], _, k, _, e => by simp at e
  | [], _ :: _, h, _, _, _ => h.elim
  | _ :: _, [], h, _, _, _ => h.elim

theorem All2.of_get {α β : Type} {R : α → β → Prop} : ∀ {x : List α} {y : List β}, x.length = y.length → (∀ (k : Nat) (a : α) (b : β), x[k]? = some a → y[k]? = some b → R a b) → All2 R x y
  | [], [], _, _ => trivial
  | a :: x, b :: y, h, g => ⟨g 0 a b rfl rfl, All2.of_get (by simpa using h) (fun k a b ha hb => g (k + 1) a b (by simpa using ha) (by simpa using hb))⟩
  | [], _ :: _, h, _ => by simp at h
  | _ :: _, [], h, _ => by simp at h

theorem All2.append {α β : Type} {R : α → β → Prop} : ∀ {x x' : List α} {y y' : List β}, All2 R x y → All2 R x' y' → All2 R (x ++ x') (y ++ y')
  | [], _, [], _, _, h => h
  | _ :: _, _, _ :: _, _, h, k => ⟨h.1, h.2.append k⟩
  | [], _, _ :: _, _, h, _ => h.elim
  | _ :: _, _, [], _, h, _ => h.elim

theorem All2.take {α β : Type} {R : α → β → Prop} : ∀ (n : Nat) {x : List α} {y : List β}, All2 R x y → All2 R (x.take n) (y.take n)
  | 0, _, _, _ => by simp [All2]
  | n + 1, [], [], _ => trivial
  | n + 1, _ :: _, _ :: _, h => ⟨h.1, h.2.take n⟩
  | _ + 1, [], _ :: _, h => h.elim
  | _ + 1, _ :: _, [], h => h.elim

theorem All2.drop {α β : Type} {R : α → β → Prop} : ∀ (n : Nat) {x : List α} {y : List β}, All2 R x y → All2 R (x.drop n) (y.drop n)
  | 0, _, _, h => h
  | n + 1, [], [], _ => trivial
  | n + 1, _ :: _, _ :: _, h => h.2.drop n
  | _ + 1, [], _ :: _, h => h.elim
  | _ + 1, _ :: _, [], h => h.elim

/-- What a block is for. -/
inductive Role where
  | imm | loc (n : Nat) | tok (n : Nat) | glob (owner : Nat) | ext

/-- A frame: how large memory was when it began; the round that it is of; how many of its boxes are never dropped. -/
structure FI where
  base : Nat
  rnd : Option Nat
  fl : Nat
  dfr : List Deferred

structure G where
  I : Im
  role : Nat → Role
  bl : List Nat
  tk : List Value
  fr : FI

def RelT (G : G) (o : List (Nat × Nat × Nat)) : AC → Value → Prop
  | .loc n off, y => ∃ b, G.bl[n]? = some b ∧ y = .pointer (some ⟨b, off, none⟩)
  | .own n sz rows, y => Rel G.I (.sl sz rows) y ∧ ∃ e len, o[n]? = some (e, sz, len) ∧ rows.length ≤ len ∧ (rows.length = len → G.tk[n]? = some y)
  | x, y => Rel G.I x y

theorem RelT.one {G : G} {o : List (Nat × Nat × Nat)} {x : AC} {y : Value} (h : RelT G o x y) : y.oneCell' = true := by
  cases x <;> first | exact Rel.one h | (obtain ⟨b, _, rfl⟩ := h; rfl) | exact h.1.one

mutual
def RelV (G : G) (o : List (Nat × Nat × Nat)) : AV → Value → Prop
  | .c x, y => RelT G o x y
  | .agg xs, y => ∃ ys : List Value, y = .agg ys.toArray ∧ All2 (RelT G o) xs ys
  | .tup xs, y => ∃ ys : List Value, y = .tuple ys.toArray ∧ RelVs G o xs ys
def RelVs (G : G) (o : List (Nat × Nat × Nat)) : List AV → List Value → Prop
  | [], [] => True
  | x :: xs, y :: ys => RelV G o x y ∧ RelVs G o xs ys
  | _, _ => False
end

/-- The fence of a frame: of a round, or of none. -/
def FR (r : Option Nat) : Fence := { Fence.wide with round := r }

/-- What is none of mine stays as it is; what is known of it is known on. -/
structure FraJ (g : G) (w : World) (g' : G) (w' : World) : Prop where
  le : g.I.le g'.I
  im : ∀ b k x, g'.I b k = some x → w'.cell? ⟨b, k, none⟩ = some x
  size : w.heap.size ≤ w'.heap.size
  ext : ∀ b, b < w.heap.size → g.role b = .ext → g'.role b = .ext ∧ w'.heap[b]? = w.heap[b]? ∧ g'.I b = g.I b

/-- How memory may change where yield is called. -/
structure FraY (g : G) (w : World) (g' : G) (w' : World) : Prop where
  os : w'.os = w.os
  tape : w'.tape = w.tape
  output : w'.output = w.output
  size : w.heap.size ≤ w'.heap.size
  le : g.I.le g'.I
  keep : ∀ b, b < w.heap.size → g.role b ≠ .ext → w'.heap[b]? = w.heap[b]? ∧ g'.I b = g.I b
  role : ∀ b, b < w.heap.size → g'.role b = g.role b
  im : ∀ b k x, g'.I b k = some x → w'.cell? ⟨b, k, none⟩ = some x
  imr : ∀ b k x, w.heap.size ≤ b → g'.I b k = some x → g'.role b = .imm ∨ g'.role b = .ext
  fresh : ∀ b, w'.heap.size ≤ b → g'.role b = .imm
  bl : g'.bl = g.bl
  tk : g'.tk = g.tk
  fr : g'.fr = g.fr

def G.pub (g : G) : G := { g with bl := [], tk := [] }

/-- Who is called back by yield: what he says of memory when k of the items have come (J), and when he has stopped (Jx). -/
structure CB where
  P : Program
  l : Nat
  items : List (List AV)
  J : Bool → Nat → G → World → Prop
  closed : ∀ x k g w g' w', FraJ g w g' w' → J x k g w → J x k g' w'
  ok : ∀ k g w avs vs n, J true k g w → (∀ b k x, g.I b k = some x → w.cell? ⟨b, k, none⟩ = some x) → (∀ b k x, g.I b k = some x → g.role b = .imm ∨ (∃ n, g.role b = .tok n) ∨ g.role b = .ext) → (∀ b, w.heap.size ≤ b → g.role b = .imm) →
    items[k]? = some avs → RelVs g.pub [] avs vs → YieldAt (FR none) n P l vs.toArray w fun e w' => ∃ g' x, FraY g w g' w' ∧ e = .returned (.bool x) ∧ J x (k + 1) g' w'

/-- What stands behind a global pointer: cells; a strings.Builder's bytes (its own type, its bytes' type); a map of booleans by strings; whoever is called back by yield. -/
inductive HO where
  | cells (T : Nat) (cs : List AC)
  | bld (T e : Nat) (bytes : List UInt8)
  | smap (es : List (ByteArray × Bool))
  | seq (cb : CB) (go : Bool) (k : Nat)

def HO.role (b : Nat) : HO → Role
  | .seq _ _ _ => .ext
  | _ => .glob b

abbrev Heap := Nat → Option HO

/-- The abstract memory: this call's boxes, its slices that may be appended to (element type, cells of an element, how many elements), and what is shared. -/
structure S where
  l : List (Nat × List AC)
  o : List (Nat × Nat × Nat)
  h : Heap

def S.setL : S → List (Nat × List AC) → S
  | ⟨_, o, h⟩, l => ⟨l, o, h⟩
def S.setO : S → List (Nat × Nat × Nat) → S
  | ⟨l, _, h⟩, o => ⟨l, o, h⟩
def S.setH : S → Heap → S
  | ⟨l, o, _⟩, h => ⟨l, o, h⟩

def byteV (l : List UInt8) : List Value := l.map fun b => .int .u8 b.toNat

/-- The cells of an abstract value. -/
def AV.cells : AV → List AC
  | .c x => [x]
  | .agg xs => xs
  | .tup _ => []

/-- Where strings.Builder's object and what it holds lie. -/
def HRel (G : G) (w : World) (b : Nat) : HO → Prop
  | .cells T cs => ∃ ys : List Value, w.heap[b]? = some (.cells ys.toArray T (0, 0)) ∧ All2 (Rel G.I) cs ys
  | .bld T e bytes => ∃ p v, (p = .pointer none ∨ p = .pointer (some ⟨b, 0, none⟩)) ∧ w.heap[b]? = some (.cells #[p, v] T (0, 0)) ∧ w.ownsRow 0 e 1 v bytes.length (byteV bytes) ∧ ∀ q, v.ownBlock = some q → q ≠ b ∧ G.role q = .glob b
  | .smap es => ∃ (arr : Array MapEntry) (clock : Nat), w.heap[b]? = some (.map arr clock) ∧ arr.toList.map (fun e => (e.key, e.val)) = es.map fun x => (Value.string x.1, Value.bool x.2)
  | .seq cb go k => b = cb.l ∧ cb.J go k G w

structure Sim (G : G) (w : World) (s : S) : Prop where
  im : ∀ b k x, G.I b k = some x → w.cell? ⟨b, k, none⟩ = some x
  imr : ∀ b k x, G.I b k = some x → G.role b = .imm ∨ (∃ n, G.role b = .tok n) ∨ G.role b = .ext
  fresh : ∀ b, w.heap.size ≤ b → G.role b = .imm
  loc : ∀ n b, G.bl[n]? = some b → G.role b = .loc n
  blen : G.bl.length = s.l.length
  box : ∀ (n b T : Nat) (cs : List AC), G.bl[n]? = some b → s.l[n]? = some (T, cs) → ∃ ys : List Value, w.heap[b]? = some (.cells ys.toArray T (0, 0)) ∧ All2 (RelT G s.o) cs ys
  tlen : G.tk.length = s.o.length
  tok : ∀ (n : Nat) (v : Value) (e sz len : Nat), G.tk[n]? = some v → s.o[n]? = some (e, sz, len) →
    0 < sz ∧ (∃ xs, w.ownsRow 0 e sz v len xs) ∧ ∀ g, v.ownBlock = some g → G.role g = .tok n ∧ ∀ k, len * sz ≤ k → G.I g k = none
  glob : ∀ b ho, s.h b = some ho → b < w.heap.size ∧ G.role b = ho.role b ∧ HRel G w b ho

/-- How memory may change: what has no owner stays. -/
structure Fra (g : G) (w : World) (g' : G) (w' : World) : Prop where
  os : w'.os = w.os
  tape : w'.tape = w.tape
  output : w'.output = w.output
  size : w.heap.size ≤ w'.heap.size
  im : g.I.le g'.I
  imm : ∀ b, b < w.heap.size → g.role b = .imm → w'.heap[b]? = w.heap[b]? ∧ g'.role b = .imm ∧ g'.I b = g.I b
  glob : ∀ b x, b < w.heap.size → g.role b = .glob x → g'.role b = .glob x
  ext : ∀ b, b < w.heap.size → g.role b = .ext → g'.role b = .ext
  fr : g'.fr = g.fr
  bl : ∀ n b, n < g.fr.fl → g.bl[n]? = some b → g'.bl[n]? = some b

theorem Fra.refl (g : G) (w : World) : Fra g w g w := ⟨rfl, rfl, rfl, Nat.le_refl _, Im.le_refl _, fun _ _ h => ⟨rfl, h, rfl⟩, fun _ _ _ h => h, fun _ _ h => h, rfl, fun _ _ _ h => h⟩
theorem Fra.trans {g1 g2 g3 : G} {w1 w2 w3 : World} (h : Fra g1 w1 g2 w2) (k : Fra g2 w2 g3 w3) : Fra g1 w1 g3 w3 where
  os := k.os.trans h.os
  tape := k.tape.trans h.tape
  output := k.output.trans h.output
  size := Nat.le_trans h.size k.size
  im := Im.le_trans h.im k.im
  imm := fun b hb hr => by
    obtain ⟨e1, r1, i1⟩ := h.imm b hb hr
    obtain ⟨e2, r2, i2⟩ := k.imm b (Nat.lt_of_lt_of_le hb h.size) r1
    exact ⟨e2.trans e1, r2, i2.trans i1⟩
  glob := fun b x hb hr => k.glob b x (Nat.lt_of_lt_of_le hb h.size) (h.glob b x hb hr)
  ext := fun b hb hr => k.ext b (Nat.lt_of_lt_of_le hb h.size) (h.ext b hb hr)
  fr := k.fr.trans h.fr
  bl := fun n b hn hb => k.bl n b (by rw [h.fr]; exact hn) (h.bl n b hn hb)

/-- Boxes and owners stay, as far as abstract values look at them. -/
structure Keep (g : G) (o : List (Nat × Nat × Nat)) (g' : G) (o' : List (Nat × Nat × Nat)) : Prop where
  im : g.I.le g'.I
  bl : ∀ (n b : Nat), g.bl[n]? = some b → g'.bl[n]? = some b
  tk : ∀ (n e sz len : Nat), o[n]? = some (e, sz, len) → (o'[n]? = some (e, sz, len) ∧ g'.tk[n]? = g.tk[n]?) ∨ ∃ len', len < len' ∧ o'[n]? = some (e, sz, len')

theorem Keep.refl (g : G) (o : List (Nat × Nat × Nat)) : Keep g o g o := ⟨Im.le_refl _, fun _ _ h => h, fun _ _ _ _ h => .inl ⟨h, rfl⟩⟩
theorem Keep.trans {g1 g2 g3 : G} {o1 o2 o3 : List (Nat × Nat × Nat)} (h : Keep g1 o1 g2 o2) (k : Keep g2 o2 g3 o3) : Keep g1 o1 g3 o3 where
  im := Im.le_trans h.im k.im
  bl := fun n b hb => k.bl n b (h.bl n b hb)
  tk := fun n e sz len ho => by
    rcases h.tk n e sz len ho with ⟨h1, h2⟩ | ⟨l2, hl, h1⟩
    · rcases k.tk n e sz len h1 with ⟨k1, k2⟩ | ⟨l3, hl3, k1⟩
      · exact .inl ⟨k1, k2.trans h2⟩
      · exact .inr ⟨l3, hl3, k1⟩
    · rcases k.tk n e sz l2 h1 with ⟨k1, k2⟩ | ⟨l3, hl3, k1⟩
      · exact .inr ⟨l2, hl, k1⟩
      · exact .inr ⟨l3, by omega, k1⟩

theorem RelT.keep {g g' : G} {o o' : List (Nat × Nat × Nat)} (hk : Keep g o g' o') {x : AC} {y : Value} (h : RelT g o x y) : RelT g' o' x y := by
  cases x with
  | loc n off => obtain ⟨b, hb, rfl⟩ := h; exact ⟨b, hk.bl n b hb, rfl⟩
  | own n sz rows =>
    obtain ⟨hr, e, len, ho, hle, ht⟩ := h
    refine ⟨hr.mono hk.im, ?_⟩
    rcases hk.tk n e sz len ho with ⟨h1, h2⟩ | ⟨l2, hl, h1⟩
    · exact ⟨e, len, h1, hle, fun hl => h2.trans (ht hl)⟩
    · exact ⟨e, l2, h1, by omega, fun hl => by omega⟩
  | _ => exact Rel.mono hk.im h

theorem RelV.keep {g g' : G} {o o' : List (Nat × Nat × Nat)} (hk : Keep g o g' o') : ∀ {x : AV} {y : Value}, RelV g o x y → RelV g' o' x y := by
  intro x
  induction x using AV.rec (motive_2 := fun xs => ∀ ys, RelVs g o xs ys → RelVs g' o' xs ys) with
  | c x => intro y h; exact RelT.keep hk h
  | agg xs => intro y h; obtain ⟨ys, rfl, h⟩ := h; exact ⟨ys, rfl, h.mono fun _ _ h => RelT.keep hk h⟩
  | tup xs ih => intro y h; obtain ⟨ys, rfl, h⟩ := h; exact ⟨ys, rfl, ih ys h⟩
  | nil => rename_i ys h; cases ys <;> simp_all [RelVs]
  | cons x xs ihx ih =>
    rename_i ys h
    cases ys with
    | nil => simp [RelVs] at h
    | cons y ys => exact ⟨ihx h.1, ih ys h.2⟩

theorem RelVs.keep {g g' : G} {o o' : List (Nat × Nat × Nat)} (hk : Keep g o g' o') : ∀ {xs : List AV} {ys : List Value}, RelVs g o xs ys → RelVs g' o' xs ys
  | [], [], _ => trivial
  | _ :: _, _ :: _, h => ⟨RelV.keep hk h.1, RelVs.keep hk h.2⟩
  | [], _ :: _, h => h.elim
  | _ :: _, [], h => h.elim

/-- One step, or more. -/
structure Ext (g : G) (w : World) (o : List (Nat × Nat × Nat)) (g' : G) (w' : World) (o' : List (Nat × Nat × Nat)) : Prop where
  fra : Fra g w g' w'
  keep : Keep g o g' o'

theorem Ext.refl (g : G) (w : World) (o : List (Nat × Nat × Nat)) : Ext g w o g w o := ⟨.refl _ _, .refl _ _⟩
theorem Ext.trans {g1 g2 g3 : G} {w1 w2 w3 : World} {o1 o2 o3 : List (Nat × Nat × Nat)} (h : Ext g1 w1 o1 g2 w2 o2) (k : Ext g2 w2 o2 g3 w3 o3) : Ext g1 w1 o1 g3 w3 o3 :=
  ⟨h.fra.trans k.fra, h.keep.trans k.keep⟩

end Go.Proofs.YtdgjpncflkpjfaaDoor.Aw
