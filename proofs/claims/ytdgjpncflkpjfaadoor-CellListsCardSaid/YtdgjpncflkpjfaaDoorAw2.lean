/- The abstract machine, second part: what an operation asks for and leaves. -/
import Derived.Test.YtdgjpncflkpjfaaDoorAw1
set_option linter.unusedVariables false
set_option linter.unusedSimpArgs false
namespace Go.Proofs.YtdgjpncflkpjfaaDoor.Aw

/-! ### Types -/
inductive TD where
  | int (k : IntKind) | bool | str | slice (e : Nat) | struct (fs : List (Nat × Nat × Nat)) | arr (n e : Nat) | ptr (e : Nat) | iface | map (k e : Nat) | other

structure TI where
  d : TD
  size : Nat
  bytes : Nat
  zero : List AC

def TI.agg (t : TI) : Bool := match t.d with | .struct _ | .arr _ _ => true | _ => false

def TD.ok (P : Program) : TD → TypeDesc → Prop
  | .int k, d => d = .int k
  | .bool, d => d = .bool
  | .str, d => d = .string
  | .slice e, d => d = .slice e
  | .struct fs, d => ∃ fields, d = .struct fields ∧ fields.toList.map (fun f => (f.type, f.offset)) = fs.map (fun x => (x.1, x.2.1)) ∧
      ∀ x ∈ fs, 0 < x.2.2 ∧ (P.info? x.1).map (·.size) = some x.2.2
  | .arr n e, d => d = .array n e
  | .ptr e, d => d = .pointer e
  | .iface, d => ∃ ms, d = .interface ms
  | .map k e, d => d = .map k e
  | .other, d => (match d with | .struct _ | .array _ _ | .interface _ => False | _ => True)

structure TIOk (P : Program) (t : Nat) (i : TI) : Prop where
  info : ∃ info z, P.info? t = some info ∧ info.size = i.size ∧ info.bytes = i.bytes ∧ info.zero = some z ∧
    (match z with | .agg _ => i.agg = true | .tuple _ => False | _ => i.agg = false) ∧ All2 (Rel (fun _ _ => none)) i.zero z.cells.toList
  len : i.zero.length = i.size
  desc : ∃ d, P.underlying t = some d ∧ i.d.ok P d

structure Cfg where
  P : Program
  ty : Nat → Option TI
  nt : Nat
  pure : Nat → Bool
  esc : Nat → Bool
  lload : Nat → Bool
  rob : Nat → Bool := fun _ => false
  gst : List Nat := []
  rdt : List Nat := []
  stt : List Nat := []
  wrT : List Nat := []
  raw : List Nat := []

/-- An operation that makes, or reads, a slice whose cells are shared. -/
def Cfg.isRaw (C : Cfg) (d : Option Nat) : Bool := C.raw.any (Nat.beq (d.getD 0))

/-- A store that is told to go to what is shared. -/
def Cfg.isS (C : Cfg) : Operand → Bool
  | .tmp k => C.stt.any (Nat.beq k)
  | _ => false
def Cfg.isR (C : Cfg) (d : Option Nat) : Bool := C.rdt.any (Nat.beq (d.getD 0))
def Cfg.isG (C : Cfg) : Operand → Bool
  | .tmp k => C.gst.any (Nat.beq k)
  | _ => false

/-! ### Ends of calls -/
inductive AEnd where
  | ret (v : AV)
  | pan (v : Value)

def EndRel (g : G) : AEnd → Ending → Prop
  | .ret av, .returned v => RelV g [] av v
  | .pan v, .panicked ch => ch = [{ v := v, recovered := false }]
  | _, _ => False

def Role.plain (r : Role) : Prop := r = .imm ∨ (∃ x, r = .glob x) ∨ r = .ext

structure Bare (g : G) : Prop where
  bl : g.bl = []
  tk : g.tk = []
  role : ∀ b, (g.role b).plain

/-- What a call of function f does, told of abstract values alone. -/
structure CallsA (P : Program) (f : Nat) (args : List AV) (h : Heap) (K : AEnd → Heap → Prop) : Prop where
  fn : ∃ fn, P.funcs[f]? = some fn ∧ fn.body.isSome = true ∧ (fn.name == "runtime.NumGoroutine") = false
  run : ∀ (g : G) (w : World) (vs : List Value), Bare g → Sim g w ⟨[], [], h⟩ → RelVs g [] args vs →
    Calls P f vs.toArray w fun e w' => ∃ g' r h', Bare g' ∧ Fra g w g' w' ∧ Sim g' w' ⟨[], [], h'⟩ ∧ EndRel g' r e ∧ K r h'

theorem CallsA.mono {P : Program} {f : Nat} {args : List AV} {h : Heap} {K K' : AEnd → Heap → Prop} (c : CallsA P f args h K) (hk : ∀ e h', K e h' → K' e h') : CallsA P f args h K' :=
  ⟨c.fn, fun g w vs hb hs hr => (c.run g w vs hb hs hr).mono fun e w' ⟨g', r, h', a1, a2, a3, a4, a5⟩ => ⟨g', r, h', a1, a2, a3, a4, hk _ _ a5⟩⟩

/-- The function answers r, whatever is shared, and leaves that. -/
def PureA (P : Program) (f : Nat) (args : List AV) (r : AV) : Prop := ∀ h, CallsA P f args h fun e h' => e = .ret r ∧ h' = h

/-! ### Stops of the reckoning -/
structure Pre (p q : Prop) : Prop where
  l : p
  r : q
structure Br (b : Bool) (p q : Prop) : Prop where
  t : b = true → p
  f : b = false → q

/-! ### Helpers -/
def AC.share : AC → AC
  | .tt => .v (.bool true)
  | .ff => .v (.bool false)
  | .own _ sz rows => .sl sz rows
  | x => x
def AC.pub : AC → Bool
  | .loc _ _ | .own _ _ _ => false
  | _ => true
def AV.share : AV → AV
  | .c x => .c x.share
  | .agg xs => .agg (xs.map AC.share)
  | .tup xs => .tup xs
def AC.noloc : AC → Bool
  | .loc _ _ => false
  | _ => true
def AV.noloc : AV → Bool
  | .c x => x.noloc
  | .agg xs => xs.all AC.noloc
  | .tup _ => false
def AC.atom : AC → Option Value
  | .tt => some (.bool true)
  | .ff => some (.bool false)
  | .v x => some x
  | _ => none
def atoms : List AC → Option (List Value)
  | [] => some []
  | x :: xs => match x.atom, atoms xs with
    | some y, some ys => some (y :: ys)
    | _, _ => none
def AV.atom : AV → Option Value
  | .c x => x.atom
  | .agg xs => (atoms xs).map fun ys => .agg ys.toArray
  | .tup _ => none

def forceL {α : Type} : List α → (List α → Prop) → Prop
  | [], k => k []
  | x :: xs, k => forceL xs fun ys => k (x :: ys)
def forceLen {α : Type} : List α → Nat → (Nat → Prop) → Prop
  | [], n, k => k n
  | _ :: xs, n, k => forceLen xs (n + 1) k
theorem forceLen_eq {α : Type} : ∀ (xs : List α) (n : Nat) (k : Nat → Prop), forceLen xs n k = k (n + xs.length)
  | [], _, _ => rfl
  | x :: xs, n, k => by rw [forceLen, forceLen_eq xs (n + 1) k, List.length_cons]; congr 1; omega
theorem forceL_eq {α : Type} : ∀ (xs : List α) (k : List α → Prop), forceL xs k = k xs
  | [], _ => rfl
  | x :: xs, k => forceL_eq xs _

def setR : List AC → Nat → List AC → List AC
  | cs, 0, [] => cs
  | _ :: cs, 0, y :: ys => y :: setR cs 0 ys
  | c :: cs, n + 1, ys => c :: setR cs n ys
  | [], _, _ => []

def upd (h : Heap) (b : Nat) (x : HO) : Heap := fun k => if k = b then some x else h k
def noseq (h : Heap) : Heap := fun b => match h b with
  | some (.seq _ _ _) => none
  | x => x
theorem noseq_some {h : Heap} {b : Nat} {x : HO} (e : noseq h b = some x) : h b = some x ∧ ∀ cb go k, x ≠ .seq cb go k := by
  unfold noseq at e
  split at e
  · cases e
  · rename_i hn
    exact ⟨e, fun cb go k hx => hn cb go k (by rw [e, hx])⟩
theorem upd_same (h : Heap) (b : Nat) (x : HO) : upd h b x b = some x := by simp [upd]
theorem upd_ne (h : Heap) {b k : Nat} (x : HO) (hk : k ≠ b) : upd h b x k = h k := by simp [upd, hk]
theorem upd_upd (h : Heap) (b : Nat) (x y : HO) : upd (upd h b x) b y = upd h b y := by funext k; by_cases hk : k = b <;> simp [upd, hk]

def loadOf (i : TI) (cs : List AC) (k : AV → Prop) : Prop :=
  if i.agg then (match Nat.ble i.size cs.length with | true => forceL (cs.take i.size) fun xs => k (.agg xs) | false => False)
  else match cs with
    | x :: _ => k (.c x)
    | [] => False

abbrev K1 := AV → S → Prop

def bt (s : ByteArray) (i : Int) : Int := ((s.data.toList.getD i.toNat 0).toNat : Int)

def intOp (op : BinOp) (k : IntKind) (a b : Int) (φ : AV → Prop) : Prop :=
  match op with
  | .add => φ (.c (.v (.int k (k.wrap (a + b)))))
  | .sub => φ (.c (.v (.int k (k.wrap (a - b)))))
  | .mul => φ (.c (.v (.int k (k.wrap (a * b)))))
  | .quo => Pre (b ≠ 0) (φ (.c (.v (.int k (k.wrap (a.tdiv b))))))
  | .rem => Pre (b ≠ 0) (φ (.c (.v (.int k (a.tmod b)))))
  | .and => φ (.c (.v (.int k (k.wrap (BitVec.ofInt k.bits a &&& BitVec.ofInt k.bits b).toNat))))
  | .or => φ (.c (.v (.int k (k.wrap (BitVec.ofInt k.bits a ||| BitVec.ofInt k.bits b).toNat))))
  | .xor => φ (.c (.v (.int k (k.wrap (BitVec.ofInt k.bits a ^^^ BitVec.ofInt k.bits b).toNat))))
  | .andNot => φ (.c (.v (.int k (k.wrap (BitVec.ofInt k.bits a &&& ~~~(BitVec.ofInt k.bits b)).toNat))))
  | .eql => φ (.c (.v (.bool (a == b))))
  | .neq => φ (.c (.v (.bool (a != b))))
  | .lss => φ (.c (.v (.bool (decide (a < b)))))
  | .leq => φ (.c (.v (.bool (decide (a ≤ b)))))
  | .gtr => φ (.c (.v (.bool (decide (a > b)))))
  | .geq => φ (.c (.v (.bool (decide (a ≥ b)))))
  | _ => False

def strOp (op : BinOp) (a b : ByteArray) (φ : AV → Prop) : Prop :=
  match op with
  | .add => Pre (((a.size + b.size : Nat) : Int) ≤ IntKind.i64.max) (φ (.c (.v (.string (a ++ b)))))
  | .eql => φ (.c (.v (.bool (a.toList == b.toList))))
  | .neq => φ (.c (.v (.bool !(a.toList == b.toList))))
  | .lss => φ (.c (.v (.bool (Op.bytesLess a.toList b.toList))))
  | _ => False

def binA (op : BinOp) (x y : Value) (φ : AV → Prop) : Prop :=
  match op, x, y with
  | .shl, .int k a, .int _ b => Pre (0 ≤ b) (φ (.c (.v (.int k (k.wrap (a * 2 ^ (min b.toNat k.bits)))))))
  | .shr, .int k a, .int _ b => Pre (0 ≤ b) (φ (.c (.v (.int k (a.fdiv (2 ^ (min b.toNat k.bits)))))))
  | op, .int k a, .int k' b => if k = k' then intOp op k a b φ else False
  | op, .string a, .string b => strOp op a b φ
  | _, _, _ => False

def nilish : Value → Bool
  | .nilIface => true
  | .pointer none => true
  | .bool _ => true
  | _ => false
def isCst : Operand → Bool
  | .const _ => true
  | _ => false
/-- Whether two values are equal of which one is nil, or two booleans. -/
def cmpA (cst : Bool) : TD → Value → Value → Option Bool
  | .iface, .nilIface, .nilIface => if cst then some true else none
  | .iface, .nilIface, .iface _ _ => some false
  | .iface, .iface _ _, .nilIface => some false
  | .ptr _, .pointer none, .pointer none => some true
  | .ptr _, .pointer none, .pointer (some _) => some false
  | .ptr _, .pointer (some _), .pointer none => some false
  | .bool, .bool a, .bool b => some (a == b)
  | _, _, _ => none
def cmpOp (C : Cfg) (op : BinOp) (T : Nat) (cst : Bool) (a b : Value) (φ : AV → Prop) : Prop :=
  match C.ty T with
  | some i => (match op, cmpA cst i.d a b with
    | .eql, some r => φ (.c (.v (.bool r)))
    | .neq, some r => φ (.c (.v (.bool !r)))
    | _, _ => False)
  | none => False
def cellV : Value → Option AC
  | .bool b => some (.v (.bool b))
  | .int k n => some (.v (.int k n))
  | .string s => some (.v (.string s))
  | _ => none
def cellVs : List Value → Option (List AC)
  | [] => some []
  | x :: r => match cellV x, cellVs r with
    | some y, some ys => some (y :: ys)
    | _, _ => none
/-- What an interface holds, told apart. -/
def heldA : Value → Option AV
  | .agg xs => (cellVs xs.toList).map .agg
  | x => (cellV x).map .c
def asrtA (C : Cfg) (T dst : Nat) (ok : Bool) (v : Value) (φ : AV → Prop) : Prop :=
  match C.ty dst with
  | some i => (match i.d with
    | .iface => False
    | _ => if T = dst then (match heldA v with
      | some av => (match ok with | true => φ (.tup [av, .c .tt]) | false => φ av)
      | none => False) else False)
  | none => False

def unA (op : UnOp) (x : AC) (φ : AV → Prop) : Prop :=
  match op, x with
  | .not, .tt => φ (.c .ff)
  | .not, .ff => φ (.c .tt)
  | .not, .v (.bool b) => φ (.c (.v (.bool !b)))
  | .neg, .v (.int k n) => φ (.c (.v (.int k (k.wrap (0 - n)))))
  | .xor, .v (.int k n) => φ (.c (.v (.int k (k.wrap (BitVec.ofInt k.bits (if k.signed then -1 else k.max) ^^^ BitVec.ofInt k.bits n).toNat))))
  | _, _ => False

def bytesOf : List (List AC) → Option (List Int)
  | [] => some []
  | [.v (.int .u8 n)] :: r => (bytesOf r).map (n :: ·)
  | _ => none

def convA (C : Cfg) (src dst : Nat) (x : AC) (φ : AV → Prop) : Prop :=
  match C.ty src, C.ty dst, x with
  | some ⟨_, _, _, _⟩, some ⟨.int k, _, _, _⟩, .v (.int _ n) => φ (.c (.v (.int k (k.wrap n))))
  | some ⟨_, _, _, _⟩, some ⟨.str, _, _, _⟩, .v (.string s) => φ (.c (.v (.string s)))
  | some ⟨.str, _, _, _⟩, some ⟨.slice e, _, _, _⟩, .v (.string s) =>
    match C.ty e with
    | some ⟨.int .u8, _, _, _⟩ => Pre (s.size ≤ lenMax) (φ (.c (.sl 1 (s.data.toList.map fun b => [.v (.int .u8 b.toNat)]))))
    | _ => False
  | some ⟨.slice e, _, _, _⟩, some ⟨.str, _, _, _⟩, .nil =>
    match C.ty e with
    | some ⟨.int .u8, _, _, _⟩ => φ (.c (.v (.string ByteArray.empty)))
    | _ => False
  | some ⟨.slice e, _, _, _⟩, some ⟨.str, _, _, _⟩, .sl sz rows =>
    match C.ty e with
    | some ⟨.int .u8, _, _, _⟩ => ∃ l : List UInt8, rows = l.map (fun b => [AC.v (.int .u8 b.toNat)]) ∧ φ (.c (.v (.string ⟨l.toArray⟩)))
    | _ => False
  | some ⟨.slice e, _, _, _⟩, some ⟨.str, _, _, _⟩, .own _ sz rows =>
    match C.ty e with
    | some ⟨.int .u8, _, _, _⟩ => ∃ l : List UInt8, rows = l.map (fun b => [AC.v (.int .u8 b.toNat)]) ∧ φ (.c (.v (.string ⟨l.toArray⟩)))
    | _ => False
  | _, _, _ => False

/-- Parts into cells: a struct's. -/
def fillA (fs : List (Nat × Nat × Nat)) : List AC → List (Nat × AV) → Option (List AC)
  | cs, [] => some cs
  | cs, (i, v) :: rest => match fs[i]? with
    | some (_, off, sz) => if v.cells.length = sz ∧ off + sz ≤ cs.length then fillA fs (setR cs off v.cells) rest else none
    | none => none

def partsA (ρ : Operand → Option AV) : List (Nat × Operand) → (List (Nat × AV) → Prop) → Prop
  | [], k => k []
  | (i, x) :: r, k => match ρ x with
    | some v => partsA ρ r fun l => k ((i, v) :: l)
    | none => False

def argsA (ρ : Operand → Option AV) : List Operand → (List AV → Prop) → Prop
  | [], k => k []
  | x :: r, k => match ρ x with
    | some v => argsA ρ r fun l => k (v :: l)
    | none => False

/-- The rows of a slice's literal: all parts in order. -/
def rowsA (sz : Nat) : Nat → List (Nat × AV) → Option (List (List AC))
  | _, [] => some []
  | i, (j, v) :: r => if j = i ∧ v.cells.length = sz then (rowsA sz (i + 1) r).map (v.cells.map AC.share :: ·) else none

def nocell (vs : List AV) : Bool := vs.all AV.noloc
def fits (v : AV) (n : Nat) : Bool := Nat.beq v.cells.length n && Nat.ble 1 n

def callA (C : Cfg) (f : Nat) (args : List AV) (s : S) (φ : K1) (π : Value → S → Prop) : Prop :=
  match nocell args with
  | true =>
    if C.pure f then ∃ r, PureA C.P f (args.map AV.share) r ∧ φ r s
    else CallsA C.P f (args.map AV.share) s.h fun e h' => match e with
      | .ret r => φ r (s.setH h')
      | .pan v => π v (s.setH h')
  | false => False

/-- yield is called: what is handed on is the item whose turn it is; the answer may be either. -/
def yieldA (C : Cfg) (l : Nat) (args : List AV) (s : S) (φ : K1) : Prop :=
  match nocell args with
  | true => ∃ cb k avs, (s.h l = some (.seq cb true k) ∧ cb.P = C.P ∧ cb.items[k]? = some avs ∧ ∀ (g : G) ys, RelVs g.pub [] (args.map AV.share) ys → RelVs g.pub [] avs ys) ∧
      (φ (.c .tt) (s.setH (upd (noseq s.h) l (.seq cb true (k + 1)))) ∧ φ (.c .ff) (s.setH (upd (noseq s.h) l (.seq cb false (k + 1)))))
  | false => False

def maxA (big : Bool) : List AV → (AV → Prop) → Prop
  | [.c (.v (.int k x)), .c (.v (.int _ y))], φ => if big then φ (.c (.v (.int k (if y > x then y else x)))) else φ (.c (.v (.int k (if y < x then y else x))))
  | _, _ => False

def lenA : TD → AV → (AV → Prop) → Prop
  | .str, .c (.v (.string s)), φ => φ (.c (.v (.int .i64 s.size)))
  | .slice _, .c (.sl _ rows), φ => φ (.c (.v (.int .i64 rows.length)))
  | .slice _, .c (.own _ _ rows), φ => φ (.c (.v (.int .i64 rows.length)))
  | .slice _, .c .nil, φ => φ (.c (.v (.int .i64 0)))
  | .slice _, .c (.v (.slice (some ⟨b, off, none⟩) len cap)), φ => φ (.c (.v (.int .i64 len)))
  | _, _, _ => False

/-- What is appended: another slice's rows, or a string's bytes. -/
def newsA : AV → Option (Nat × List (List AC))
  | .c (.sl sz rows) => some (sz, rows)
  | .c (.own _ sz rows) => some (sz, rows)
  | .c .nil => none
  | _ => none

def appendA (C : Cfg) (T : Nat) (x y : AV) (s : S) (φ : K1) : Prop :=
  match C.ty T with
  | some ⟨.slice e, _, _, _⟩ =>
    match C.ty e, newsA y with
    | some ie, some (sz, news) =>
      if sz = ie.size then
        match x with
        | .c .nil => Pre (0 < ie.size ∧ news.length * ie.bytes ≤ lenMax ∧ news.length ≤ lenMax)
            (forceLen s.o 0 fun n => forceL (s.o ++ [(e, ie.size, news.length)]) fun o' => φ (.c (.own n ie.size news)) (s.setO o'))
        | .c (.own n sz' rows) => match s.o[n]? with
          | some (e', sz'', len) => Pre (e' = e ∧ sz'' = ie.size ∧ sz' = ie.size ∧ rows.length = len ∧ (len + news.length) * ie.bytes ≤ lenMax ∧ len + news.length ≤ lenMax)
              (forceL (s.o.set n (e, ie.size, len + news.length)) fun o' => φ (.c (.own n ie.size (rows ++ news))) (s.setO o'))
          | none => False
        | _ => False
      else False
    | _, _ => False
  | _ => False

/-- The same, where the cells are shared: what is appended to is nil, or lies in a shared block. -/
def appendR (C : Cfg) (T : Nat) (x y : AV) (s : S) (φ : K1) : Prop :=
  match C.ty T with
  | some ⟨.slice e, _, _, _⟩ =>
    match C.ty e, newsA y with
    | some ie, some (sz, news) =>
      if sz = ie.size then
        match x with
        | .c .nil => Pre (0 < news.length ∧ news.length * ie.bytes ≤ lenMax ∧ news.length ≤ lenMax)
            (∀ b cap pad, s.h b = none → news.length ≤ cap → pad.length = (cap - news.length) * ie.size → φ (.c (.v (.slice (some ⟨b, 0, none⟩) news.length cap))) (s.setH (upd s.h b (.cells e (news.flatten ++ pad)))))
        | .c (.v (.slice (some ⟨b, 0, none⟩) len cap)) => ∃ cs, (s.h b = some (.cells e cs) ∧ len ≤ cap ∧ cs.length = cap * ie.size ∧ 0 < news.length ∧ (len + news.length) * ie.bytes ≤ lenMax ∧ len + news.length ≤ lenMax) ∧
            (len + news.length ≤ cap → φ (.c (.v (.slice (some ⟨b, 0, none⟩) (len + news.length) cap))) (s.setH (upd s.h b (.cells e (cs.take (len * ie.size) ++ news.flatten ++ cs.drop ((len + news.length) * ie.size)))))) ∧
            (¬ len + news.length ≤ cap → ∀ b' cap' pad, s.h b' = none → len + news.length ≤ cap' → pad.length = (cap' - (len + news.length)) * ie.size →
              φ (.c (.v (.slice (some ⟨b', 0, none⟩) (len + news.length) cap'))) (s.setH (upd s.h b' (.cells e (cs.take (len * ie.size) ++ news.flatten ++ pad)))))
        | _ => False
      else False
    | _, _ => False
  | _ => False
/-- Bytes that are shared, as a string. -/
def convR (C : Cfg) (src dst : Nat) (x : AC) (s : S) (φ : K1) : Prop :=
  match C.ty src, C.ty dst, x with
  | some ⟨.slice e, _, _, _⟩, some ⟨.str, _, _, _⟩, .v (.slice (some ⟨b, off, none⟩) len cap) =>
    match C.ty e with
    | some ⟨.int .u8, _, _, _⟩ => ∃ T cs, ∃ l : List UInt8, (s.h b = some (.cells T cs) ∧ l.length = len ∧ (cs.drop off).take len = l.map (fun y => AC.v (.int .u8 y.toNat))) ∧ φ (.c (.v (.string ⟨l.toArray⟩))) s
    | _ => False
  | _, _, _ => False

def fnA (x : AV) : Option (Nat × List AC × List AC) :=
  match x with
  | .c (.v (.func (.func f) first cap)) => (match first.toList.all Value.oneCell' && cap.toList.all Value.oneCell' with
    | true => some (f, first.toList.map AC.v, cap.toList.map AC.v)
    | false => none)
  | .c (.fn (.func f) first cap) => some (f, first, cap)
  | _ => none

def yieldOf (x : AV) : Option Nat :=
  match x with
  | .c (.v (.func (.yield l) first cap)) => (match first.toList, cap.toList with
    | [], [] => some l
    | _, _ => none)
  | _ => none
def fnY (x : AV) : Option (Sum Nat (Nat × List AC × List AC)) :=
  match yieldOf x with
  | some l => some (.inl l)
  | none => (match fnA x with
    | some y => some (.inr y)
    | none => none)

/-- The places of an array's elements. -/
def arrFs (e sz : Nat) : Nat → Nat → List (Nat × Nat × Nat)
  | 0, _ => []
  | n + 1, i => (e, i * sz, sz) :: arrFs e sz n (i + 1)
theorem arrFs_get (e sz : Nat) : ∀ (n i k : Nat) (x : Nat × Nat × Nat), (arrFs e sz n i)[k]? = some x → x = (e, (i + k) * sz, sz)
  | 0, i, k, x, h => by simp [arrFs] at h
  | n + 1, i, 0, x, h => by simp [arrFs] at h; rw [← h]; rfl
  | n + 1, i, k + 1, x, h => by
    simp only [arrFs, List.getElem?_cons_succ] at h
    rw [arrFs_get e sz n (i + 1) k x h, show i + 1 + k = i + (k + 1) by omega]
/-- What a map of booleans by strings has at a key; whether it has none there. -/
def slook : List (ByteArray × Bool) → ByteArray → Bool
  | [], _ => false
  | (k, v) :: r, x => if x == k then v else slook r x
def snew : List (ByteArray × Bool) → ByteArray → Bool
  | [], _ => true
  | (k, _) :: r, x => if x == k then false else snew r x

/-- An operation: from the operands' values and the abstract memory to what it gives (φ), or the panic that it starts (π). -/
def sem (C : Cfg) (o : Oper) (ρ : Operand → Option AV) (s : S) (φ : K1) (π : Value → S → Prop) : Prop :=
  match o.op with
  | .move x | .assign x => match ρ x with
    | some v => φ v s
    | none => False
  | .pick c a b => match ρ c with
    | some (.c .tt) => (match ρ a with | some v => φ v s | none => False)
    | some (.c .ff) => (match ρ b with | some v => φ v s | none => False)
    | some (.c (.v (.bool t))) => Br t (match ρ a with | some v => φ v s | none => False) (match ρ b with | some v => φ v s | none => False)
    | _ => False
  | .alloc T => match C.ty T with
    | some i => if C.esc (o.dst.getD 0) then ∀ b, s.h b = none → φ (.c (.v (.pointer (some ⟨b, 0, none⟩)))) (s.setH (upd s.h b (.cells T i.zero)))
      else forceLen s.l 0 fun n => forceL (s.l ++ [(T, i.zero)]) fun l' => φ (.c (.loc n 0)) (s.setL l')
    | none => False
  | .box T x => match C.ty T, ρ x with
    | some i, some v => (match fits v i.size with
      | true =>
        (if C.rob (o.dst.getD 0) then (match v.noloc with | true => φ (.c (.ro (v.cells.map AC.share))) s | false => False)
        else if C.esc (o.dst.getD 0) then (match v.noloc with | true => ∀ b, s.h b = none → φ (.c (.v (.pointer (some ⟨b, 0, none⟩)))) (s.setH (upd s.h b (.cells T (v.cells.map AC.share)))) | false => False)
        else forceLen s.l 0 fun n => forceL (s.l ++ [(T, v.cells)]) fun l' => φ (.c (.loc n 0)) (s.setL l'))
      | false => False)
    | _, _ => False
  | .load T a => match C.ty T with
    | some i => (match ρ a with
      | some (.c (.loc n off)) => (match s.l[n]? with | some (_, cs) => loadOf i (cs.drop off) fun v => φ v s | none => False)
      | some (.c (.ro cs)) => loadOf i cs fun v => φ v s
      | some (.c (.v (.pointer (some ⟨b, off, none⟩)))) => if C.lload (o.dst.getD 0) then False else if C.isR o.dst then (∃ T' cs, (s.h b = some (.cells T' cs) ∧ C.wrT.any (Nat.beq T') = false) ∧ loadOf i (cs.drop off) fun v => φ v s) else ∃ T' cs, s.h b = some (.cells T' cs) ∧ loadOf i (cs.drop off) fun v => φ v s
      | _ => False)
    | none => False
  | .store T a x => match C.ty T, ρ x with
    | some i, some v => (match fits v i.size with
      | true => (match ρ a with
      | some (.c (.loc n off)) => (match C.isG a || C.isS a with
        | true => False
        | false => (match s.l[n]? with
          | some (T', cs) => (match Nat.ble (off + i.size) cs.length with
            | true => forceL (setR cs off v.cells) fun cs' => forceL (s.l.set n (T', cs')) fun l' => φ (.tup []) (s.setL l')
            | false => False)
          | none => False))
      | some (.c (.v (.pointer (some ⟨b, off, none⟩)))) => (match v.noloc with
        | true => if C.isS a then (∃ T' cs, (s.h b = some (.cells T' cs) ∧ C.wrT.any (Nat.beq T') = true) ∧ off + i.size ≤ cs.length ∧ forceL (setR cs off (v.cells.map AC.share)) fun cs' => φ (.tup []) (s.setH (upd s.h b (.cells T' cs')))) else ∃ T' cs, s.h b = some (.cells T' cs) ∧ off + i.size ≤ cs.length ∧ forceL (setR cs off (v.cells.map AC.share)) fun cs' => φ (.tup []) (s.setH (upd s.h b (.cells T' cs')))
        | false => False)
      | _ => False)
      | false => False)
    | _, _ => False
  | .nilCheck x => match ρ x with
    | some (.c (.loc n off)) => φ (.c (.loc n off)) s
    | some (.c (.ro cs)) => φ (.c (.ro cs)) s
    | some (.c (.v (.pointer (some a)))) => φ (.c (.v (.pointer (some a)))) s
    | some (.c (.v (.func (.func f) x y))) => φ (.c (.v (.func (.func f) x y))) s
    | some (.c (.fn (.func f) x y)) => φ (.c (.fn (.func f) x y)) s
    | _ => False
  | .fieldAddr T x f => match C.ty T with
    | some ⟨.struct fs, _, _, _⟩ => (match fs[f]? with
      | some (_, off, _) => (match ρ x with
        | some (.c (.loc n k)) => φ (.c (.loc n (k + off))) s
        | some (.c (.ro cs)) => (match Nat.ble off cs.length with | true => φ (.c (.ro (cs.drop off))) s | false => False)
        | some (.c (.v (.pointer (some ⟨b, k, none⟩)))) => φ (.c (.v (.pointer (some ⟨b, k + off, none⟩)))) s
        | _ => False)
      | none => False)
    | _ => False
  | .field T x f => match C.ty T with
    | some ⟨.struct fs, _, _, _⟩ => (match fs[f]? with
      | some (ft, off, _) => (match ρ x, C.ty ft with
        | some (.agg cs), some i => loadOf i (cs.drop off) fun v => φ v s
        | _, _ => False)
      | none => False)
    | _ => False
  | .indexAddr T x ix => match C.ty T, ρ ix with
    | some ⟨.slice e, _, _, _⟩, some (.c (.v (.int k n))) => (match C.ty e, ρ x with
      | some ie, some (.c (.sl sz rows)) => if sz = ie.size then ∃ r, (0 ≤ n ∧ rows[n.toNat]? = some r) ∧ φ (.c (.ro r)) s else False
      | some ie, some (.c (.own _ sz rows)) => if sz = ie.size then ∃ r, (0 ≤ n ∧ rows[n.toNat]? = some r) ∧ φ (.c (.ro r)) s else False
      | some ie, some (.c (.v (.slice (some ⟨b, off, none⟩) len cap))) => Pre (0 ≤ n ∧ n < (len : Int)) (φ (.c (.v (.pointer (some ⟨b, off + n.toNat * ie.size, none⟩)))) s)
      | _, _ => False)
    | some ⟨.arr len e, _, _, _⟩, some (.c (.v (.int k n))) => (match C.ty e, ρ x with
      | some ie, some (.c (.v (.pointer (some ⟨b, off, none⟩)))) => Pre (0 ≤ n ∧ n < (len : Int)) (φ (.c (.v (.pointer (some ⟨b, off + n.toNat * ie.size, none⟩)))) s)
      | _, _ => False)
    | _, _ => False
  | .index T x ix => match C.ty T, ρ x, ρ ix with
    | some ⟨.str, _, _, _⟩, some (.c (.v (.string b))), some (.c (.v (.int k n))) => Pre (0 ≤ n ∧ n.toNat < b.size) (φ (.c (.v (.int .u8 (bt b n)))) s)
    | some ⟨.arr len e, _, _, _⟩, some (.agg cs), some (.c (.v (.int k n))) => (match C.ty e with
      | some ie => Pre (0 ≤ n ∧ n < (len : Int)) (loadOf ie (cs.drop (n.toNat * ie.size)) fun v => φ v s)
      | none => False)
    | _, _, _ => False
  | .slice T x lo hi none => match C.ty T, ρ x, (match lo with | none => some (AV.c (.v (.int .i64 0))) | some y => ρ y) with
    | some ⟨.str, _, _, _⟩, some (.c (.v (.string b))), some (.c (.v (.int _ l))) => (match hi with
      | none => Pre (0 ≤ l ∧ l ≤ (b.size : Int)) (φ (.c (.v (.string (b.extract l.toNat b.size)))) s)
      | some y => (match ρ y with
        | some (.c (.v (.int _ h))) => Pre (0 ≤ l ∧ l ≤ h ∧ h ≤ (b.size : Int)) (φ (.c (.v (.string (b.extract l.toNat h.toNat)))) s)
        | _ => False))
    | some ⟨.slice e, _, _, _⟩, some (.c x), some (.c (.v (.int _ l))) => (match x.share, C.ty e with
      | .sl sz rows, some ie => if sz = ie.size then (match hi with
        | none => Pre (0 ≤ l ∧ l ≤ (rows.length : Int)) (φ (.c (.sl sz (rows.drop l.toNat))) s)
        | some y => (match ρ y with
          | some (.c (.v (.int _ h))) => Pre (0 ≤ l ∧ l ≤ h ∧ h ≤ (rows.length : Int)) (φ (.c (.sl sz ((rows.take h.toNat).drop l.toNat))) s)
          | _ => False)) else False
      | _, _ => False)
    | _, _, _ => False
  | .binOp op T x y _ => match ρ x, ρ y with
    | some (.c (.v a)), some (.c (.v b)) => (match nilish a || nilish b with
      | true => cmpOp C op T (isCst x || isCst y) a b fun v => φ v s
      | false => binA op a b fun v => φ v s)
    | _, _ => False
  | .typeAssert x _ dst ok => match ρ x with
    | some (.c (.v (.iface T v))) => asrtA C T dst ok v fun v => φ v s
    | _ => False
  | .unOp op _ x => match ρ x with
    | some (.c a) => unA op a fun v => φ v s
    | _ => False
  | .convert src dst x => match ρ x with
    | some (.c a) => if C.isRaw o.dst then convR C src dst a s φ else convA C src dst a fun v => φ v s
    | _ => False
  | .build T parts => match C.ty T with
    | some ⟨.struct fs, _, _, z⟩ => partsA ρ parts.toList fun l => (match fillA fs z l with
      | some cs => forceL cs fun cs' => φ (.agg cs') s
      | none => False)
    | some ⟨.arr n e, _, _, z⟩ => (match C.ty e with
      | some ie => (match Nat.blt 0 ie.size with
        | true => partsA ρ parts.toList fun l => (match fillA (arrFs e ie.size n 0) z l with
          | some cs => forceL cs fun cs' => φ (.agg cs') s
          | none => False)
        | false => False)
      | none => False)
    | _ => False
  | .buildSlice T len parts => match C.ty T with
    | some ⟨.slice e, _, _, _⟩ => (match C.ty e with
      | some ie => partsA ρ parts.toList fun l => (match nocell (l.map (·.2)) with
        | true => (match rowsA ie.size 0 l with
          | some rows => if l.length = len ∧ 0 < ie.size ∧ len * ie.size ≤ 16777216 then forceL rows fun rows' => φ (.c (.sl ie.size rows')) s else False
          | none => False)
        | false => False)
      | none => False)
    | _ => False
  | .extract t i => match ρ t with
    | some (.tup xs) => (match xs[i]? with | some v => φ v s | none => False)
    | _ => False
  | .makeFunc fn first cap => argsA ρ first.toList fun a => argsA ρ cap.toList fun b => (match atomsV a, atomsV b with
    | some x, some y => φ (.c (.v (.func fn x.toArray y.toArray))) s
    | _, _ => (match cellsV a, cellsV b with
      | some x, some y => φ (.c (.fn fn x y)) s
      | _, _ => False))
  | .makeInterface T x => match C.ty T, ρ x with
    | some i, some v => (match i.d with
      | .iface => False
      | _ => (match v.atom with | some y => φ (.c (.v (.iface T y))) s | none => False))
    | _, _ => False
  | .panic x => match ρ x with
    | some (.c (.v (.iface T v))) => π (.iface T v) s
    | _ => False
  | .makeMap _ none => ∀ b, s.h b = none → φ (.c (.v (.map (some b)))) (s.setH (upd s.h b (.smap [])))
  | .lookup T m k false => match C.ty T, ρ m, ρ k with
    | some ⟨.map kt et, _, _, _⟩, some (.c (.v (.map (some b)))), some (.c (.v (.string key))) => (match C.ty kt, C.ty et with
      | some ⟨.str, _, _, _⟩, some ⟨.bool, _, _, [.ff]⟩ => ∃ es, s.h b = some (.smap es) ∧ φ (.c (.v (.bool (slook es key)))) s
      | _, _ => False)
    | _, _, _ => False
  | .mapUpdate T m k x => match C.ty T, ρ m, ρ k, ρ x with
    | some ⟨.map kt _, _, _, _⟩, some (.c (.v (.map (some b)))), some (.c (.v (.string key))), some (.c x) => (match C.ty kt, x.atom with
      | some ⟨.str, _, _, _⟩, some (.bool t) => ∃ es, (s.h b = some (.smap es) ∧ snew es key = true) ∧ φ (.tup []) (s.setH (upd s.h b (.smap (es ++ [(key, t)]))))
      | _, _ => False)
    | _, _, _, _ => False
  | .call { callee := .builtin .len, args, argTypes } => match args.toList, argTypes.toList with
    | [x], [T] => (match ρ x, C.ty T with
      | some v, some i => lenA i.d v fun r => φ r s
      | _, _ => False)
    | _, _ => False
  | .call { callee := .builtin .max, args, .. } => argsA ρ args.toList fun l => maxA true l fun r => φ r s
  | .call { callee := .builtin .min, args, .. } => argsA ρ args.toList fun l => maxA false l fun r => φ r s
  | .call { callee := .builtin .append, args, argTypes } => match args.toList, argTypes.toList with
    | [x, y], [T, T'] => if T = T' then (match ρ x, ρ y with
      | some a, some b => if C.isRaw o.dst then appendR C T a b s φ else appendA C T a b s φ
      | _, _ => False) else False
    | _, _ => False
  | .call { callee := .value f, args, .. } => match (ρ f).bind fnY with
    | some (.inl l) => argsA ρ args.toList fun vs => yieldA C l vs s φ
    | some (.inr (g, first, cap)) => argsA ρ args.toList fun l => callA C g (first.map AV.c ++ l ++ cap.map AV.c) s φ π
    | none => False
  | _ => False
where
  cellsV : List AV → Option (List AC)
    | [] => some []
    | .c x :: xs => match x.noloc, cellsV xs with
      | true, some ys => some (x.share :: ys)
      | _, _ => none
    | _ :: _ => none
  atomsV : List AV → Option (List Value)
    | [] => some []
    | .c x :: xs => match x.atom, atomsV xs with
      | some y, some ys => some (y :: ys)
      | _, _ => none
    | _ :: _ => none

end Go.Proofs.YtdgjpncflkpjfaaDoor.Aw
