/-
  The evaluator, part 3: what a function's text does to a store, as one proposition ('exec'); contracts ('Spec').
  Conditions: none (definitions).
-/
import Derived.Test.YtohkplmfihhhnaaDoorEv2
namespace Go.Ev
open Go

/-- THE CONTRACT: called where the store holds, the function returns; K of its value and of a store that holds then; nothing else has turned. -/
def Spec (P : Program) (f : FuncId) (args : List Value) (σ : Store) (K : Value → Store → Prop) : Prop :=
  ∀ w, Holds σ w → Calls P f args.toArray w fun e w' => ∃ v σ', e = .returned v ∧ K v σ' ∧ Holds σ' w' ∧ Ext σ σ' w w'

/-! ### Types -/
def zeroOf (P : Program) (t : TypeId) : Option Value := match P.info? t with | some i => i.zero | none => none
def sizeT (P : Program) (t : TypeId) : Nat := match P.info? t with | some i => i.size | none => 0
def bytesT (P : Program) (t : TypeId) : Nat := match P.info? t with | some i => i.bytes | none => 0
def isAggT (P : Program) (t : TypeId) : Option Bool := match P.underlying t with | some (.struct _) | some (.array _ _) => some true | some _ => some false | none => none

/-- There is a value of the make of 'z'. -/
def exCell (z : Value) (K : Value → Prop) : Prop :=
  match z with
  | .int k _ => ∃ n : Int, K (.int k n)
  | .bool _ => ∃ b : Bool, K (.bool b)
  | .string _ => ∃ s : ByteArray, K (.string s)
  | .pointer _ => ∃ p : Option Addr, K (.pointer p)
  | .slice _ _ _ => ∃ (a : Option Addr) (n c : Nat), K (.slice a n c)
  | _ => ∃ v : Value, K v

def exCells : List Value → (List Value → Prop) → Prop
  | [], K => K []
  | z :: r, K => exCell z fun v => exCells r fun l => K (v :: l)

def exAgg (zs : List Value) (K : List Value → Prop) : Prop :=
  match Nat.ble zs.length 16 with
  | true => exCells zs K
  | false => ∃ l : List Value, K l

def exT (P : Program) (t : TypeId) (K : Value → Prop) : Prop :=
  match zeroOf P t with
  | some (.agg cs) => exAgg cs.toList fun l => K (.agg l.toArray)
  | some z => exCell z K
  | none => False

def exTs (P : Program) : List TypeId → (List Value → Prop) → Prop
  | [], K => K []
  | t :: r, K => exT P t fun v => exTs P r fun l => K (v :: l)

/-- A call's value, by its function's types. -/
def resT (P : Program) (f : FuncId) (v : Value) (K : Value → Prop) : Prop :=
  match P.funcs[f]? with
  | some fn => match fn.resultTypes.toList with
    | [t] => exT P t fun x => v = x ∧ K x
    | ts => exTs P ts fun l => v = .tuple l.toArray ∧ K (.tuple l.toArray)
  | none => False

/-! ### What a place may be -/
inductive AV where
  | u
  | p (k off : Nat)
  | s (k n : Nat)
  | v (x : Value)

structure Env where
  t : List (Nat × AV)
  b : List (Nat × TypeId × List Value)

def lookT : List (Nat × AV) → Nat → AV
  | [], _ => .u
  | (k, v) :: r, i => match Nat.beq k i with | true => v | false => lookT r i

def lookB : List (Nat × TypeId × List Value) → Nat → Option (TypeId × List Value)
  | [], _ => none
  | (k, v) :: r, i => match Nat.beq k i with | true => some v | false => lookB r i

def Env.get (e : Env) (i : Nat) : AV := lookT e.t i
def Env.box (e : Env) (k : Nat) : Option (TypeId × List Value) := lookB e.b k
def Env.put (e : Env) (d : Nat) (v : AV) : Env := ⟨(d, v) :: e.t, e.b⟩
def Env.putO (e : Env) (d : Option Nat) (v : AV) : Env := match d with | some d => e.put d v | none => e

/-- A test has come out so. -/
def Env.learn (e : Env) (c : Operand) (t : Bool) : Env := match c with | .tmp i => e.put i (.v (.bool t)) | _ => e

/-- Slots that lead to box k are forgotten. -/
def purge (k : Nat) : List (Nat × AV) → List (Nat × AV)
  | [] => []
  | (i, v) :: r => (match v with
      | .p j _ => (match Nat.beq j k with | true => (i, .u) | false => (i, v))
      | .s j _ => (match Nat.beq j k with | true => (i, .u) | false => (i, v))
      | _ => (i, v)) :: purge k r

def Env.alloc (e : Env) (k : Nat) (ty : TypeId) (cs : List Value) : Env := ⟨purge k e.t, (k, ty, cs) :: e.b⟩
def Env.setBox (e : Env) (k : Nat) (ty : TypeId) (cs : List Value) : Env := ⟨e.t, (k, ty, cs) :: e.b⟩

def Env.ev (e : Env) : Operand → AV
  | .tmp t => e.get t
  | .const v => .v v
  | .global g => .v (.pointer (some ⟨g, 0, none⟩))
  | .func f => .v (.func (.func f) #[] #[])

def AV.val : AV → Value | .v x => x | _ => undef
def AV.isV : AV → Bool | .v _ => true | _ => false
def Env.evV (e : Env) (x : Operand) : Value := (e.ev x).val

def allV (e : Env) : List Operand → Bool
  | [] => true
  | x :: r => match (e.ev x).isV with | true => allV e r | false => false

/-! ### Reading -/
inductive Fact where
  | m (b off : Nat) (vs : List Value)
  | q (k : Nat) (ty : TypeId) (cs : List Value)
  | w (b : Nat) (k : Blk)

def cellAt (σ : Store) (b off : Nat) : Option Value := match σ b with | some k => k.cells[off]? | none => none
def cellsAt (σ : Store) (b off n : Nat) : Option (List Value) :=
  match σ b with
  | some k => if off + n ≤ k.cells.length then some ((k.cells.drop off).take n) else none
  | none => none

def Req (c : Bool) (K : Prop) : Prop := match c with | true => K | false => False

def PtrNN (p : Option Addr) (K : Nat → Nat → Prop) : Prop := match p with | some ⟨b, o, none⟩ => K b o | _ => False

def loadT (P : Program) (t : TypeId) (b off : Nat) (σ : Store) (K : Value → List Fact → Prop) : Prop :=
  match isAggT P t with
  | some true => (match zeroOf P t with
    | some (.agg cs) => exAgg cs.toList fun l => cellsAt σ b off (sizeT P t) = some l ∧ K (.agg l.toArray) [.m b off l]
    | _ => False)
  | some false => (match zeroOf P t with
    | some z => exCell z fun v => cellAt σ b off = some v ∧ K v [.m b off [v]]
    | none => False)
  | none => False

/-- Of the model's operations those that ask nothing of the world. -/
def pureRun (P : Program) : Sem Next → Option Value
  | .pure (.value v) => some v
  | .program k => pureRun P (k P)
  | _ => none

def generic (P : Program) (o : Oper) (e : Env) (K : AV → List Fact → Prop) : Prop :=
  match allV e o.op.operands.toList with
  | true => (match pureRun P (execOp e.evV o) with
    | some v => K (.v v) []
    | none => False)
  | false => False

def fieldOff (P : Program) (s : TypeId) (f : Nat) : Option Nat :=
  match P.underlying s with
  | some (.struct fs) => (match fs[f]? with
    | some x => (match sizeT P x.type with | 0 => none | _ => some x.offset)
    | none => none)
  | _ => none

def pickAV (t : Bool) (x y : AV) : AV :=
  match x, y with
  | .v (.bool p), .v (.bool q) => .v (.bool (cond t p q))
  | x, y => cond t x y

def shlI (k : IntKind) (x y : Int) : Int := k.wrap (x * 2 ^ min y.toNat k.bits)
def shrI (k : IntKind) (x y : Int) : Int := x.fdiv (2 ^ min y.toNat k.bits)
def quoI (k : IntKind) (x y : Int) : Int := k.wrap (x.tdiv y)

def andI (k : IntKind) (x y : Int) : Int := k.wrap (BitVec.ofInt k.bits x &&& BitVec.ofInt k.bits y).toNat
def orI (k : IntKind) (x y : Int) : Int := k.wrap (BitVec.ofInt k.bits x ||| BitVec.ofInt k.bits y).toNat
def xorI (k : IntKind) (x y : Int) : Int := k.wrap (BitVec.ofInt k.bits x ^^^ BitVec.ofInt k.bits y).toNat
def andNotI (k : IntKind) (x y : Int) : Int := k.wrap (BitVec.ofInt k.bits x &&& ~~~BitVec.ofInt k.bits y).toNat
def notI (k : IntKind) (x : Int) : Int := k.wrap (BitVec.ofInt k.bits (if k.signed then -1 else k.max) ^^^ BitVec.ofInt k.bits x).toNat

def IfaceNil (v : Value) (K : Bool → Prop) : Prop := match v with | .nilIface => K true | .iface _ _ => K false | _ => False

def slAddr (a : Option Addr) (l m esz : Nat) : Option Addr := if m = l then a else a.map (·.add (l * esz))

def okIdx (i : Int) (n : Nat) : Bool := decide (0 ≤ i) && decide (i ≤ (n : Int))

/-- The bounds of a slice expression. -/
def SliceK (n c : Nat) (lo hi mx : Option Int) (K : Nat → Nat → Nat → Prop) : Prop :=
  match mx, hi, lo with
  | none, none, none => K 0 n c
  | none, none, some l => Req (okIdx l n) (K l.toNat n c)
  | none, some h, none => Req (okIdx h c) (K 0 h.toNat c)
  | none, some h, some l => Req (okIdx h c) (Req (okIdx l h.toNat) (K l.toNat h.toNat c))
  | some m, some h, none => Req (okIdx m c) (Req (okIdx h m.toNat) (K 0 h.toNat m.toNat))
  | some m, some h, some l => Req (okIdx m c) (Req (okIdx h m.toNat) (Req (okIdx l h.toNat) (K l.toNat h.toNat m.toNat)))
  | some _, none, _ => False

/-- An operand that is a whole number, or nothing. -/
def ointK (e : Env) (x : Option Operand) (K : Option Int → Prop) : Prop :=
  match x with
  | none => K none
  | some x => (match e.ev x with | .v (.int _ n) => K (some n) | _ => False)

/-- A value that stands whole. -/
def avV (a : AV) (K : Value → Prop) : Prop := match a with | .v v => K v | _ => False

/-- Two pointers that are not nil: the blocks are known, and plain. -/
def PtrEqK (P : Program) (el : TypeId) (σ : Store) (a b : Addr) (K : Bool → List Fact → Prop) : Prop :=
  match Nat.beq (sizeT P el) 0 with
  | true => False
  | false => ∃ ka kb : Blk, σ a.block = some ka ∧ σ b.block = some kb ∧ ka.fz = (0, 0) ∧ kb.fz = (0, 0) ∧ K (decide (a = b)) [.w a.block ka, .w b.block kb]

/-- Two interface values that hold pointers of one type. -/
def IfEqK (P : Program) (σ : Store) (v u : Value) (K : Bool → List Fact → Prop) : Prop :=
  match v, u with
  | .iface t (.pointer (some a)), .iface t' (.pointer (some b)) => (match Nat.beq t t', P.underlying t, P.info? t with
    | true, some (.pointer el), some i => (match i.comparable with | true => PtrEqK P el σ a b K | false => False)
    | _, _, _ => False)
  | _, _ => False

/-- A binary operation, by its operands' values. -/
def binT (P : Program) (o : Oper) (e : Env) (σ : Store) (op : BinOp) (t : TypeId) (x y : Operand) (K : AV → List Fact → Prop) : Prop :=
  match op, e.ev x, e.ev y with
  | .quo, .v (.int k a), .v (.int k' b) => (match decide (k = k') with
      | true => Req (!decide (b = 0)) (K (.v (.int k (quoI k a b))) [])
      | false => False)
  | .rem, .v (.int k a), .v (.int k' b) => (match decide (k = k') with
      | true => Req (!decide (b = 0)) (K (.v (.int k (a.tmod b))) [])
      | false => False)
  | .shl, .v (.int k a), .v (.int _ b) => Req (decide (0 ≤ b)) (K (.v (.int k (shlI k a b))) [])
  | .shr, .v (.int k a), .v (.int _ b) => Req (decide (0 ≤ b)) (K (.v (.int k (shrI k a b))) [])
  | .eql, .v (.pointer p), .v (.pointer q) => (match P.underlying t with
      | some (.pointer el) => (match q with
        | none => K (.v (.bool p.isNone)) []
        | some b => (match p with
          | some a => PtrEqK P el σ a b fun r => K (.v (.bool r))
          | none => False))
      | _ => False)
  | .neq, .v (.pointer p), .v (.pointer q) => (match P.underlying t with
      | some (.pointer el) => (match q with
        | none => K (.v (.bool (!p.isNone))) []
        | some b => (match p with
          | some a => PtrEqK P el σ a b fun r => K (.v (.bool (!r)))
          | none => False))
      | _ => False)
  | .eql, .v (.slice a _ _), .v (.slice none _ _) => (match P.underlying t with
      | some (.slice _) => K (.v (.bool a.isNone)) []
      | _ => False)
  | .neq, .v (.slice a _ _), .v (.slice none _ _) => (match P.underlying t with
      | some (.slice _) => K (.v (.bool (!a.isNone))) []
      | _ => False)
  | .eql, .v v, .v .nilIface => (match P.underlying t, y with
      | some (.interface _), .const _ => IfaceNil v fun r => K (.v (.bool r)) []
      | _, _ => False)
  | .neq, .v v, .v .nilIface => (match P.underlying t, y with
      | some (.interface _), .const _ => IfaceNil v fun r => K (.v (.bool (!r))) []
      | _, _ => False)
  | _, _, _ => generic P o e K

/-- A binary operation on interface values. -/
def binI (P : Program) (o : Oper) (e : Env) (σ : Store) (op : BinOp) (x y : Operand) (K : AV → List Fact → Prop) : Prop :=
  match op, y with
  | .eql, .const .nilIface => avV (e.ev x) fun v => IfaceNil v fun r => K (.v (.bool r)) []
  | .neq, .const .nilIface => avV (e.ev x) fun v => IfaceNil v fun r => K (.v (.bool (!r))) []
  | .eql, _ => avV (e.ev x) fun v => avV (e.ev y) fun u => IfEqK P σ v u fun r => K (.v (.bool r))
  | .neq, _ => avV (e.ev x) fun v => avV (e.ev y) fun u => IfEqK P σ v u fun r => K (.v (.bool (!r)))
  | _, _ => generic P o e K

/-- A string's byte. -/
def byteAt (s : ByteArray) (i : Nat) : Int := match s[i]? with | some b => (b.toNat : Int) | none => 0

/-- Operations that leave the world as it is. -/
def nrK (P : Program) (o : Oper) (e : Env) (σ : Store) (K : AV → List Fact → Prop) : Prop :=
  match o.op with
  | .move x => K (e.ev x) []
  | .assign x => K (e.ev x) []
  | .load t x => (match e.ev x with
    | .p k off => (match e.box k with
      | some (ty, cs) => (match isAggT P t with
        | some true => (match Nat.ble (off + sizeT P t) cs.length with
          | true => K (.v (.agg ((cs.drop off).take (sizeT P t)).toArray)) [.q k ty cs]
          | false => False)
        | some false => (match cs[off]? with
          | some v => K (.v v) [.q k ty cs]
          | none => False)
        | none => False)
      | none => False)
    | .v (.pointer p) => PtrNN p fun b off => loadT P t b off σ fun v fs => K (.v v) fs
    | _ => False)
  | .nilCheck x => (match e.ev x with
    | .p k off => K (.p k off) []
    | .v (.pointer p) => PtrNN p fun b off => K (.v (.pointer (some ⟨b, off, none⟩))) []
    | _ => generic P o e K)
  | .fieldAddr s x f => (match e.ev x with
    | .p k off => (match fieldOff P s f with
      | some d => K (.p k (off + d)) []
      | none => False)
    | .v (.pointer p) => (match fieldOff P s f with
      | some d => PtrNN p fun b off => K (.v (.pointer (some ⟨b, off + d, none⟩))) []
      | none => False)
    | _ => False)
  | .indexAddr t x i => (match e.ev i with
    | .v (.int _ i) => (match P.underlying t, e.ev x with
      | some (.slice el), .v (.slice a n _) => Req (Nat.blt 0 (sizeT P el)) (Req (decide (0 ≤ i) && decide (i < (n : Int))) (PtrNN a fun b off => K (.v (.pointer (some ⟨b, off + i.toNat * sizeT P el, none⟩))) []))
      | some (.slice el), .s k n => Req (Nat.blt 0 (sizeT P el)) (Req (decide (0 ≤ i) && decide (i < (n : Int))) (K (.p k (i.toNat * sizeT P el)) []))
      | some (.array n el), .v (.pointer p) => Req (Nat.blt 0 (sizeT P el)) (Req (decide (0 ≤ i) && decide (i < (n : Int))) (PtrNN p fun b off => K (.v (.pointer (some ⟨b, off + i.toNat * sizeT P el, none⟩))) []))
      | some (.array n el), .p k off => Req (Nat.blt 0 (sizeT P el)) (Req (decide (0 ≤ i) && decide (i < (n : Int))) (K (.p k (off + i.toNat * sizeT P el)) []))
      | _, _ => False)
    | _ => False)
  | .pick c a b => (match e.ev c with
    | .v (.bool t) => K (pickAV t (e.ev a) (e.ev b)) []
    | _ => False)
  | .binOp op t x y _ => (match P.underlying t with
    | some (.interface _) => binI P o e σ op x y K
    | _ => binT P o e σ op t x y K)
  | .slice t x lo hi mx => ointK e lo fun lo => ointK e hi fun hi => ointK e mx fun mx =>
    (match P.underlying t, e.ev x with
      | some (.slice el), .v (.slice a n c) => Req (Nat.blt 0 (sizeT P el)) (SliceK n c lo hi mx fun l h m => K (.v (.slice (slAddr a l m (sizeT P el)) (h - l) (m - l))) [])
      | some (.array n el), .v (.pointer p) => Req (Nat.blt 0 (sizeT P el)) (PtrNN p fun b off => SliceK n n lo hi mx fun l h m => K (.v (.slice (slAddr (some ⟨b, off, none⟩) l m (sizeT P el)) (h - l) (m - l))) [])
      | _, _ => False)
  | .call c => (match c.callee with
    | .builtin .len => (match c.args.toList, c.argTypes.toList with
      | [x], [t] => (match e.ev x with
        | .s _ n => (match P.underlying t with
          | some (.slice _) => K (.v (.int .i64 (n : Int))) []
          | _ => False)
        | _ => generic P o e K)
      | _, _ => False)
    | .builtin .cap => generic P o e K
    | .builtin .min => generic P o e K
    | .builtin .max => generic P o e K
    | _ => False)
  | .unOp _ _ _ => generic P o e K
  | .convert _ _ _ => generic P o e K
  | .field _ _ _ => generic P o e K
  | .index t x i => (match P.underlying t with
    | some .string => (match e.ev x, e.ev i with
      | .v (.string s), .v (.int _ n) => Req (decide (0 ≤ n) && decide (n < ((s.size : Nat) : Int))) (K (.v (.int .u8 (byteAt s n.toNat))) [])
      | _, _ => False)
    | _ => generic P o e K)
  | .extract _ _ => generic P o e K
  | .build _ _ => generic P o e K
  | .makeInterface _ _ => generic P o e K
  | .makeFunc _ _ _ => generic P o e K
  | .typeAssert _ _ _ _ => generic P o e K
  | _ => False

/-- Is it one of those? -/
def isNR (o : Oper) : Bool :=
  match o.op with
  | .move _ | .assign _ | .load _ _ | .nilCheck _ | .fieldAddr _ _ _ | .indexAddr _ _ _ | .pick _ _ _ | .binOp _ _ _ _ _ | .slice _ _ _ _ _ | .unOp _ _ _ | .convert _ _ _ | .field _ _ _
  | .index _ _ _ | .extract _ _ | .build _ _ | .makeInterface _ _ | .makeFunc _ _ _ | .typeAssert _ _ _ _ => true
  | .call c => (match c.callee with
    | .builtin .len => true
    | .builtin .cap => true
    | .builtin .min => true
    | .builtin .max => true
    | _ => false)
  | _ => false

/-! ### Writing -/
def spliceL : List Value → Nat → List Value → List Value
  | cs, _, [] => cs
  | cs, i, v :: r => spliceL (cs.set i v) (i + 1) r

/-- 'n' cells are written at a place of a known block. -/
def StoreK (σ : Store) (b off n : Nat) (vs : List Value) (K : Store → Prop) : Prop :=
  vs.length = n ∧ vs.all one = true ∧ ∃ k, σ b = some k ∧ off + n ≤ k.cells.length ∧ k.fz = (0, 0) ∧ K (σ.set b ⟨k.ty, spliceL k.cells off vs, (0, 0)⟩)

/-- A new block. -/
def New (σ : Store) (k : Blk) (K : Nat → Store → Prop) : Prop := ∀ b, σ b = none → K b (σ.set b k)

def srcCells (σ : Store) (a : Option Addr) (n : Nat) : Option (List Value) :=
  if n = 0 then some [] else match a with | some ⟨b, o, none⟩ => cellsAt σ b o n | _ => none

def zeroN (zs : List Value) (n : Nat) : List Value := (List.replicate n zs).flatten

/-- append: 'm' elements, whose cells are 'ys', behind '.slice a n c'. -/
def AppK (ty : TypeId) (esz eb : Nat) (zs : List Value) (σ : Store) (a : Option Addr) (n c : Nat) (ys : List Value) (m : Nat) (K : Option Addr → Nat → Nat → Store → Prop) : Prop :=
  (m = 0 → n ≤ c ∧ K a n c σ) ∧
  (m ≠ 0 → n + m ≤ c → ∃ b off k, a = some ⟨b, off, none⟩ ∧ σ b = some k ∧ off + (n + m) * esz ≤ k.cells.length ∧ k.fz = (0, 0) ∧ ys.length = m * esz ∧ ys.all one = true ∧
      K a (n + m) c (σ.set b ⟨k.ty, spliceL k.cells (off + n * esz) ys, (0, 0)⟩)) ∧
  (m ≠ 0 → c < n + m → (2 * (n + m) + 768) * eb ≤ 281474976710656 ∧ n + m ≤ 4611686018427387904 ∧ ∃ old, srcCells σ a (n * esz) = some old ∧
      ∀ c' b, n + m ≤ c' → σ b = none → K (some ⟨b, 0, none⟩) (n + m) c' (σ.set b ⟨ty, old ++ ys ++ zeroN zs (c' - (n + m)), (0, 0)⟩))

/-- append of so many zeros. -/
def AppN (ty : TypeId) (esz eb : Nat) (zs : List Value) (σ : Store) (a : Option Addr) (n c : Nat) (l : Int) (K : Option Addr → Nat → Nat → Store → Prop) : Prop :=
  0 ≤ l ∧ l ≤ 281474976710656 ∧ l * (eb : Int) ≤ 281474976710656 ∧ AppK ty esz eb zs σ a n c (zeroN zs l.toNat) l.toNat K

def MakeK (ty : TypeId) (eb : Nat) (zs : List Value) (σ : Store) (l c : Int) (K : Nat → Nat → Nat → Store → Prop) : Prop :=
  0 ≤ l ∧ l ≤ c ∧ c ≤ 281474976710656 ∧ (eb : Int) * c ≤ 281474976710656 ∧ ∀ b, σ b = none → K b l.toNat c.toNat (σ.set b ⟨ty, zeroN zs c.toNat, (0, 0)⟩)

/-- A place is written, when there is something to write. -/
def PutK (σ : Store) (a : Option Addr) (n : Nat) (vs : List Value) (K : Store → Prop) : Prop :=
  (n = 0 → K σ) ∧ (n ≠ 0 → PtrNN a fun b off => StoreK σ b off n vs K)

def CopyK (esz : Nat) (σ : Store) (a : Option Addr) (n : Nat) (a2 : Option Addr) (n2 : Nat) (K : Nat → Store → Prop) : Prop :=
  ∃ ys, srcCells σ a2 (min n2 n * esz) = some ys ∧ PutK σ a (min n2 n * esz) ys (K (min n2 n))

structure Hints where
  opq : List Nat := []
  esc : List Nat := []
  cuts : List (Nat × List Nat × List (Nat × TypeId)) := []

def memN : List Nat → Nat → Bool
  | [], _ => false
  | k :: r, i => match Nat.beq k i with | true => true | false => memN r i

/-- The cells of '[]T{..}'. -/
def bsCells (P : Program) (t : TypeId) (len : Nat) (parts : List (Nat × Value)) : Option (TypeId × List Value) :=
  match P.underlying t with
  | some (.slice el) => (match zeroOf P el with
    | some z => (match Nat.ble (len * sizeT P el) 16777216, Instr.fill (fun i => some (i * sizeT P el, sizeT P el)) ((Array.range (len * sizeT P el)).map (z.cells[· % z.cells.size]!)) parts with
      | true, some cs => some (el, cs.toList)
      | _, _ => none)
    | none => none)
  | _ => none

/-- Parts that come one after the other, each whole: their cells. -/
def wholeParts (ag : Bool) : Nat → List (Nat × Value) → Option (List Value)
  | _, [] => some []
  | i, (j, v) :: r => (match Nat.beq i j, wholeParts ag (i + 1) r with
    | true, some l => some ((match ag with | true => v.cells.toList | false => [v]) ++ l)
    | _, _ => none)

def wholeReq (ag : Bool) (sz : Nat) : List (Nat × Value) → Bool
  | [] => true
  | (_, v) :: r => (match ag with | true => Nat.beq v.cells.toList.length sz | false => one v) && wholeReq ag sz r

/-- The cells of '[]T{..}' whose parts stand whole, one after the other; what has to hold of them. -/
def bsWhole (P : Program) (t : TypeId) (len : Nat) (parts : List (Nat × Value)) : Option (TypeId × List Value × Bool) :=
  match P.underlying t with
  | some (.slice el) => (match zeroOf P el, isAggT P el with
    | some _, some ag => (match Nat.ble (len * sizeT P el) 16777216, Nat.beq parts.length len, (match ag with | true => true | false => Nat.beq (sizeT P el) 1), wholeParts ag 0 parts with
      | true, true, true, some cs => some (el, cs, wholeReq ag (sizeT P el) parts)
      | _, _, _, _ => none)
    | _, _ => none)
  | _ => none

def vals (e : Env) : List Operand → List Value
  | [] => []
  | x :: r => e.evV x :: vals e r

/-- May it be called: a function with a body of its own? -/
def callable (P : Program) (f : FuncId) : Bool :=
  match P.funcs[f]? with
  | some fn => fn.body.isSome && !(fn.name == "runtime.NumGoroutine")
  | none => false

def callK (P : Program) (f : FuncId) (q : Bool) (args : List Value) (σ : Store) (K : Value → Store → Prop) : Prop :=
  match callable P f with
  | true => (match q with
    | true => Spec P f args σ fun v σ' => ∃ l : List Value, v = .agg l.toArray ∧ K (.agg l.toArray) σ'
    | false => Spec P f args σ fun v σ' => resT P f v fun x => K x σ')
  | false => False

def memO (l : List Nat) (d : Option Nat) : Bool := match d with | some d => memN l d | none => false

/-- Operations that write, make memory, or call. -/
def waK (P : Program) (H : Hints) (o : Oper) (e : Env) (σ : Store) (K : Env → Store → Prop) : Prop :=
  match o.op with
  | .box t x => (match o.dst, e.ev x with
    | some d, .v v => (match memN H.esc d with
      | true => New σ ⟨t, v.cells.toList, (0, 0)⟩ fun b σ' => K (e.put d (.v (.pointer (some ⟨b, 0, none⟩)))) σ'
      | false => K ((e.alloc d t v.cells.toList).put d (.p d 0)) σ)
    | _, _ => False)
  | .alloc t => (match o.dst, zeroOf P t with
    | some d, some z => (match memN H.esc d with
      | true => New σ ⟨t, z.cells.toList, (0, 0)⟩ fun b σ' => K (e.put d (.v (.pointer (some ⟨b, 0, none⟩)))) σ'
      | false => K ((e.alloc d t z.cells.toList).put d (.p d 0)) σ)
    | _, _ => False)
  | .buildSlice t len ps => (match memO H.opq o.dst with
    | true => (match o.dst, allV e (ps.toList.map (·.2)), bsWhole P t len (ps.toList.map fun x => (x.1, e.evV x.2)) with
      | some d, true, some (el, cs, ok) => Req ok (match memN H.esc d with
        | true => New σ ⟨el, cs, (0, 0)⟩ fun b σ' => K (e.put d (.v (.slice (some ⟨b, 0, none⟩) len len))) σ'
        | false => K ((e.alloc d el cs).put d (.s d len)) σ)
      | _, _, _ => False)
    | false => (match o.dst, allV e (ps.toList.map (·.2)), bsCells P t len (ps.toList.map fun x => (x.1, e.evV x.2)) with
      | some d, true, some (el, cs) => (match memN H.esc d with
        | true => New σ ⟨el, cs, (0, 0)⟩ fun b σ' => K (e.put d (.v (.slice (some ⟨b, 0, none⟩) len len))) σ'
        | false => K ((e.alloc d el cs).put d (.s d len)) σ)
      | _, _, _ => False))
  | .makeSlice t l c => (match P.underlying t, e.ev l, e.ev c with
    | some (.slice el), .v (.int _ l), .v (.int _ c) => (match zeroOf P el with
      | some z => Req (Nat.beq z.cells.size (sizeT P el)) (MakeK el (bytesT P el) z.cells.toList σ l c fun b n m σ' => K (e.putO o.dst (.v (.slice (some ⟨b, 0, none⟩) n m))) σ')
      | none => False)
    | _, _, _ => False)
  | .store t x y => Req (Nat.blt 0 (sizeT P t)) (match e.ev x, e.ev y with
    | .p k off, .v v => (match e.box k with
      | some (ty, cs) => (match Nat.beq v.cells.toList.length (sizeT P t), Nat.ble (off + sizeT P t) cs.length, v.cells.toList.all one with
        | true, true, true => K ((e.setBox k ty (spliceL cs off v.cells.toList)).putO o.dst .u) σ
        | _, _, _ => False)
      | none => False)
    | .v (.pointer p), .v v => PtrNN p fun b off => StoreK σ b off (sizeT P t) v.cells.toList fun σ' => K (e.putO o.dst .u) σ'
    | _, _ => False)
  | .call c => (match c.callee with
    | .value f => (match e.ev f, allV e c.args.toList with
      | .v (.func (.func f) first captured), true => callK P f (memO H.opq o.dst) (first.toList ++ vals e c.args.toList ++ captured.toList) σ fun v σ' => K (e.putO o.dst (.v v)) σ'
      | _, _ => False)
    | .builtin .append => (match c.argTypes.toList, c.args.toList with
      | [t1, t2], [x, y] => (match P.underlying t1, P.underlying t2 with
       | some (.slice el), some (.slice _) => (match zeroOf P el, e.ev x, e.ev y with
        | some z, .v (.slice a n cp), .v (.slice a2 m _) => ∃ ys : List Value, srcCells σ a2 (m * sizeT P el) = some ys ∧
            AppK el (sizeT P el) (bytesT P el) z.cells.toList σ a n cp ys m fun a' n' c' σ' => K (e.putO o.dst (.v (.slice a' n' c'))) σ'
        | some z, .v (.slice a n cp), .s k m => (match e.box k with
          | some (_, ys) => (match Nat.beq ys.length (m * sizeT P el) with
            | true => AppK el (sizeT P el) (bytesT P el) z.cells.toList σ a n cp ys m fun a' n' c' σ' => K (e.putO o.dst (.v (.slice a' n' c'))) σ'
            | false => False)
          | none => False)
        | _, _, _ => False)
       | some (.slice el), some (.int _) => (match zeroOf P el, e.ev x, e.ev y with
        | some z, .v (.slice a n cp), .v (.int _ l) => Req (Nat.beq z.cells.toList.length (sizeT P el))
            (AppN el (sizeT P el) (bytesT P el) z.cells.toList σ a n cp l fun a' n' c' σ' => K (e.putO o.dst (.v (.slice a' n' c'))) σ')
        | _, _, _ => False)
       | _, _ => False)
      | _, _ => False)
    | .builtin .copy => (match c.argTypes.toList, c.args.toList with
      | [t1, _], [x, y] => (match P.underlying t1 with
       | some (.slice el) => (match e.ev x, e.ev y with
        | .v (.slice a n _), .v (.slice a2 n2 _) => Req (Nat.blt 0 (sizeT P el)) (CopyK (sizeT P el) σ a n a2 n2 fun m σ' => K (e.putO o.dst (.v (.int .i64 (m : Int)))) σ')
        | _, _ => False)
       | _ => False)
      | _, _ => False)
    | .builtin .clear => (match c.argTypes.toList, c.args.toList with
      | [t1], [x] => (match P.underlying t1 with
       | some (.slice el) => (match zeroOf P el, e.ev x with
        | some z, .v (.slice a n _) => PutK σ a (n * z.cells.size) (zeroN z.cells.toList n) fun σ' => K (e.putO o.dst (.v (.tuple #[]))) σ'
        | _, _ => False)
       | _ => False)
      | _, _ => False)
    | _ => False)
  | _ => False

/-! ### Regions -/
/-- The slot of a guard's operation. -/
def guardSlot (ops : Array Oper) (j : Nat) : Option Nat := match ops[j]? with | some o => o.dst | none => none

def bbeq (a b : Bool) : Bool := match a, b with | true, true => true | false, false => true | _, _ => false

/-- With a guard: both ways. -/
def guardK (ops : Array Oper) (o : Oper) (e : Env) (run skip : Env → Prop) : Prop :=
  match o.guard with
  | none => run e
  | some (j, want) => (match guardSlot ops j with
    | none => False
    | some g => (match e.get g with
      | .v (.bool c) => cond c (match want with | true => run (e.put g (.v (.bool true))) | false => skip (e.put g (.v (.bool true))))
          (match want with | true => skip (e.put g (.v (.bool false))) | false => run (e.put g (.v (.bool false))))
      | .v (.tuple _) => skip e
      | _ => False))

def inN (N : Nat) (d : Option Nat) : Bool := match d with | some d => Nat.blt d N | none => true

def regS (P : Program) (H : Hints) (N : Nat) (ops : Array Oper) (K : Env → Store → Prop) : List Oper → Env → Store → Prop
  | [], e, σ => K e σ
  | o :: r, e, σ => Req (inN N o.dst) (guardK ops o e
      (fun e => match isNR o with
        | true => nrK P o e σ fun v _ => regS P H N ops K r (e.putO o.dst v) σ
        | false => waK P H o e σ fun e' σ' => regS P H N ops K r e' σ')
      (fun e => regS P H N ops K r (e.putO o.dst (.v undef)) σ))

abbrev GF := List (Nat × List Fact)

def GF.behind (ops : Array Oper) (j : Nat) (G : GF) : GF := G.filter fun g => !waits .any ops j g.1
def gfOf (ops : Array Oper) (k : Nat) : GF → List Fact
  | [] => []
  | g :: r => match waits .any ops k g.1 with | true => g.2 ++ gfOf ops k r | false => gfOf ops k r
def GF.taken (ops : Array Oper) (k : Nat) (fs : List Fact) (G : GF) : GF := (k, fs ++ gfOf ops k G) :: G.behind ops k

def keeps1 (σ : Store) : List Fact → Prop → Prop
  | [], K => K
  | .m b off vs :: r, K => cellsAt σ b off vs.length = some vs ∧ keeps1 σ r K
  | .q _ _ _ :: r, K => keeps1 σ r K
  | .w b k :: r, K => σ b = some k ∧ keeps1 σ r K

def keepsG (σ : Store) : GF → Prop → Prop
  | [], K => K
  | g :: r, K => keeps1 σ g.2 (keepsG σ r K)

def boxFree1 (k : Nat) : List Fact → Bool
  | [] => true
  | .m _ _ _ :: r => boxFree1 k r
  | .w _ _ :: r => boxFree1 k r
  | .q j _ _ :: r => match Nat.beq j k with | true => false | false => boxFree1 k r
def boxFree (k : Nat) : GF → Bool
  | [] => true
  | g :: r => match boxFree1 k g.2 with | true => boxFree k r | false => false

/-- The box that an operation makes or writes. -/
def boxOf (H : Hints) (e : Env) (o : Oper) : Option Nat :=
  match o.op with
  | .box _ _ | .alloc _ | .buildSlice _ _ _ => (match o.dst with | some d => (match memN H.esc d with | true => none | false => some d) | none => none)
  | .store _ x _ => (match e.ev x with | .p k _ => some k | _ => none)
  | _ => none

/-- Where many may come up: each. -/
def eachK (F : Nat → Prop) : List Nat → Prop
  | [] => True
  | [i] => F i
  | i :: r => F i ∧ eachK F r

def pickNR (ops : Array Oper) : List Nat → Option Nat
  | [] => none
  | i :: r => match ops[i]? with
    | some o => (match isNR o with | true => some i | false => pickNR ops r)
    | none => none

def regD (P : Program) (H : Hints) (N : Nat) (ops : Array Oper) (K : Env → Store → Prop) : Nat → Array Bool → GF → Env → Store → Prop
  | 0, listed, _, e, σ => (match Region.ready .any ops listed with | [] => K e σ | _ => False)
  | n + 1, listed, G, e, σ =>
    (match Region.ready .any ops listed with
    | [] => K e σ
    | i0 :: r0 => (match pickNR ops (i0 :: r0) with
      | some i => (match ops[i]? with
        | some o => Req (inN N o.dst && Region.free .any ops listed i) (guardK ops o e
            (fun e => nrK P o e σ fun v fs => regD P H N ops K n (listed.setIfInBounds i true) (G.taken ops i fs) (e.putO o.dst v) σ)
            (fun e => regD P H N ops K n (listed.setIfInBounds i true) (G.taken ops i []) (e.putO o.dst (.v undef)) σ))
        | none => False)
      | none => eachK (fun i => match ops[i]? with
        | some o => Req (inN N o.dst) (guardK ops o e
            (fun e => Req (match boxOf H e o with | some k => boxFree k (G.behind ops i) | none => true)
              (waK P H o e σ fun e' σ' => keepsG σ' (G.behind ops i) (regD P H N ops K n (listed.setIfInBounds i true) (G.behind ops i) e' σ')))
            (fun e => regD P H N ops K n (listed.setIfInBounds i true) (G.behind ops i) (e.putO o.dst (.v undef)) σ))
        | none => False) (i0 :: r0)))

/-! ### Code -/
/-- The number of the first region. -/
def firstR : Code → Option Nat
  | .region id _ _ => some id
  | .seq a b => (match firstR a with | some i => some i | none => firstR b)
  | .cond _ a b => (match firstR a with | some i => some i | none => firstR b)
  | .block _ a => firstR a
  | .loop a => (match firstR a with | some i => some (i + 100000) | none => none)
  | .scope a => firstR a
  | _ => none

def lookC : List (Nat × List Nat × List (Nat × TypeId)) → Nat → Option (List Nat × List (Nat × TypeId))
  | [], _ => none
  | (k, v) :: r, i => match Nat.beq k i with | true => some v | false => lookC r i

/-- Where a piece of a function's text stands, and what is left to do behind it. -/
def stackAt : Code → List Nat → List Item → List Item
  | c, [], k => .code c :: k
  | .seq a b, i :: p, k => (match i with | 0 => stackAt a p (.code b :: k) | _ => stackAt b p k)
  | .cond _ a b, i :: p, k => (match i with | 0 => stackAt a p k | _ => stackAt b p k)
  | .block id c, _ :: p, k => stackAt c p (.inBlock id :: k)
  | .loop c, _ :: p, k => stackAt c p (.inLoop c :: k)
  | _, _, _ => []

def bodyOf (P : Program) (f : FuncId) : Code :=
  match P.funcs[f]? with
  | some fn => (match fn.body with | some c => c | none => .skip)
  | none => .skip

def lookP : List (Nat × List Nat) → Nat → List Nat
  | [], _ => []
  | (k, v) :: r, i => match Nat.beq k i with | true => v | false => lookP r i

/-- The cuts' places in a function. -/
def stk (P : Program) (f : FuncId) (paths : List (Nat × List Nat)) (j : Nat) : List Item := stackAt (bodyOf P f) (lookP paths j) []

/-- From here on by another piece. -/
def Hop (s s' : List Item) (X : Prop) : Prop := s = s' ∧ X

abbrev Hand := Nat → List AV → List (List Value) → Store → Prop

/-- The contents of private boxes, each led to by the slot of its own number. -/
def boxCells (e : Env) : List (Nat × TypeId) → Option (List (List Value))
  | [] => some []
  | (k, ty) :: r => (match e.box k, boxCells e r, e.get k with
    | some (ty', cs), some l, .p k' 0 => (match Nat.beq ty' ty, Nat.beq k' k with | true, true => some (cs :: l) | _, _ => none)
    | _, _, _ => none)

/-- A piece is left for another one: what it hands on. -/
def hop (H : Hints) (T : Nat → List Item) (hand : Hand) (i : Nat) (s : List Item) (e : Env) (σ : Store) : Prop :=
  match lookC H.cuts i with
  | some (l, ks) => (match boxCells e ks with
    | some bs => Hop s (T i) (hand i (l.map e.get) bs σ)
    | none => False)
  | none => False

/-- Is there a cut at this piece of code? -/
def cutAt (H : Hints) (c : Code) : Option Nat :=
  match firstR c with
  | some i => (match lookC H.cuts i with | some _ => some i | none => none)
  | none => none

def goOn (H : Hints) (T : Nat → List Item) (hand : Hand) (r : List Item → Env → Store → Prop) (s : List Item) (e : Env) (σ : Store) : Prop :=
  match s with
  | .code c :: k => (match cutAt H c with
    | some i => hop H T hand i (.code c :: k) e σ
    | none => r (.code c :: k) e σ)
  | k => r k e σ

def run (P : Program) (H : Hints) (N : Nat) (T : Nat → List Item) (hand : Hand) (K : Env → Store → Prop) : Nat → List Item → Env → Store → Prop
  | 0, _, _, _ => False
  | _ + 1, [], e, σ => K e σ
  | n + 1, .inBlock _ :: k, e, σ => goOn H T hand (run P H N T hand K n) k e σ
  | _ + 1, .inLoop c :: k, e, σ => (match firstR c with | some i => hop H T hand i (.code c :: .inLoop c :: k) e σ | none => False)
  | n + 1, .code c :: k, e, σ => (match c with
    | .skip => goOn H T hand (run P H N T hand K n) k e σ
    | .region _ ops draw => (match draw with
      | false => regS P H N ops (fun e σ => goOn H T hand (run P H N T hand K n) k e σ) ops.toList e σ
      | true => Req (Region.noSelect ops) (regD P H N ops (fun e σ => goOn H T hand (run P H N T hand K n) k e σ) ops.size (Array.replicate ops.size false) [] e σ))
    | .seq a b => run P H N T hand K n (.code a :: .code b :: k) e σ
    | .cond x a b => (match e.ev x with
      | .v (.bool t) => cond t (run P H N T hand K n (.code a :: k) (e.learn x true) σ) (run P H N T hand K n (.code b :: k) (e.learn x false) σ)
      | _ => False)
    | .block id a => run P H N T hand K n (.code a :: .inBlock id :: k) e σ
    | .loop a => (match firstR a with | some i => hop H T hand i (.code a :: .inLoop a :: k) e σ | none => False)
    | .exit id => (match exitTo id k with | some k' => goOn H T hand (run P H N T hand K n) k' e σ | none => False)
    | .ret => K e σ
    | _ => False)
  | _ + 1, _, _, _ => False

/-! ### Functions -/
def argsT : Nat → List Value → List (Nat × AV)
  | _, [] => []
  | i, v :: r => (i, .v v) :: argsT (i + 1) r

/-- The results' values. -/
def resK (P : Program) (rs : List ResultVar) (e : Env) (σ : Store) (K : List Value → Prop) : Prop :=
  match rs with
  | [] => K []
  | .tmp t :: r => (match e.get t with
    | .v x => resK P r e σ fun l => K (x :: l)
    | _ => False)
  | .cell a t :: r => (match e.get a with
    | .p k off => (match e.box k, isAggT P t with
      | some (_, cs), some true => (match Nat.ble (off + sizeT P t) cs.length with
        | true => resK P r e σ fun l => K (.agg ((cs.drop off).take (sizeT P t)).toArray :: l)
        | false => False)
      | some (_, cs), some false => (match cs[off]? with
        | some v => resK P r e σ fun l => K (v :: l)
        | none => False)
      | _, _ => False)
    | .v (.pointer p) => PtrNN p fun b off => loadT P t b off σ fun v _ => resK P r e σ fun l => K (v :: l)
    | _ => False)

def resV (l : List Value) : Value := match l with | [x] => x | l => .tuple l.toArray

/-- The post of a function's text. -/
def retK (P : Program) (f : FuncId) (K : Value → Store → Prop) (e : Env) (σ : Store) : Prop :=
  match P.funcs[f]? with
  | some fn => resK P fn.results.toList e σ fun l => K (resV l) σ
  | none => False

def ntmpsOf (P : Program) (f : FuncId) : Nat := match P.funcs[f]? with | some fn => fn.ntmps | none => 0

/-- One piece of a function, from where it stands to the next cuts or to the function's end. -/
def seg (P : Program) (H : Hints) (f : FuncId) (T : Nat → List Item) (hand : Hand) (K : Value → Store → Prop) (s : List Item) (e : Env) (σ : Store) : Prop :=
  run P H (ntmpsOf P f) T hand (retK P f K) 1000 s e σ

/-- A function from its beginning. -/
def segF (P : Program) (H : Hints) (f : FuncId) (T : Nat → List Item) (hand : Hand) (K : Value → Store → Prop) (args : List Value) (σ : Store) : Prop :=
  match callable P f with
  | true => Req (Nat.ble args.length (ntmpsOf P f)) (seg P H f T hand K [.code (bodyOf P f)] ⟨argsT 0 args, []⟩ σ)
  | false => False

/-- The environment of a cut. -/
def zipT : List Nat → List AV → List (Nat × AV)
  | i :: l, v :: vs => (i, v) :: zipT l vs
  | _, _ => []
def zipB : List (Nat × TypeId) → List (List Value) → List (Nat × TypeId × List Value)
  | (k, ty) :: l, cs :: r => (k, ty, cs) :: zipB l r
  | _, _ => []
def boxT : List (Nat × TypeId) → List (Nat × AV)
  | [] => []
  | (k, _) :: r => (k, .p k 0) :: boxT r
def addT : List (Nat × AV) → List (Nat × AV) → List (Nat × AV)
  | [], r => r
  | x :: l, r => x :: addT l r
def cutE (H : Hints) (i : Nat) (vs : List AV) (bs : List (List Value)) : Env :=
  match lookC H.cuts i with
  | some (l, ks) => ⟨addT (zipT l vs) (boxT ks), zipB ks bs⟩
  | none => ⟨[], []⟩

/-- Which piece goes on. -/
def hsel : List (Nat × (List AV → List (List Value) → Store → Prop)) → Hand
  | [], _, _, _, _ => False
  | (j, h) :: r, i, vs, bs, σ => match Nat.beq j i with | true => h vs bs σ | false => hsel r i vs bs σ

end Go.Ev
