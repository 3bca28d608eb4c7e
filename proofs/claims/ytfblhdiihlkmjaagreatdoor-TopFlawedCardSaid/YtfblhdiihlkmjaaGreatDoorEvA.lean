/- An evaluator of translated Go code over logical memory, and its soundness (EvA). -/
import Derived.CallsIn
import Derived.OrdersIn
/- An evaluator of translated Go code over logical memory: blocks have logical numbers, grown slices have unknown room. Definitions only. -/
namespace Go.Ev
noncomputable section

/-! ### tries over natural numbers -/
inductive Tr (α : Type) where
  | leaf
  | node (v : Option α) (l r : Tr α)

/-- A number's way through a trie. -/
inductive Pos where
  | h
  | o (p : Pos)
  | i (p : Pos)

noncomputable def posF (f : Nat) : Nat → Pos :=
  Nat.rec (motive := fun _ => Nat → Pos) (fun _ => .h)
    (fun _ ih n => Bool.rec (Bool.rec (.o (ih (Nat.sub (Nat.div n 2) 1))) (.i (ih (Nat.div n 2))) (Nat.beq (Nat.mod n 2) 1)) .h (Nat.beq n 0)) f
def pos (n : Nat) : Pos := posF n n

namespace Tr
variable {α : Type}
noncomputable def getP (p : Pos) : Tr α → Option α :=
  Pos.rec (motive := fun _ => Tr α → Option α)
    (fun t => Tr.rec (motive := fun _ => Option α) none (fun v _ _ _ _ => v) t)
    (fun _ ih t => Tr.rec (motive := fun _ => Option α) none (fun _ _ r _ _ => ih r) t)
    (fun _ ih t => Tr.rec (motive := fun _ => Option α) none (fun _ l _ _ _ => ih l) t) p
noncomputable def setP (x : α) (p : Pos) : Tr α → Tr α :=
  Pos.rec (motive := fun _ => Tr α → Tr α)
    (fun t => Tr.rec (motive := fun _ => Tr α) (node (some x) leaf leaf) (fun _ l r _ _ => node (some x) l r) t)
    (fun _ ih t => Tr.rec (motive := fun _ => Tr α) (node none leaf (ih leaf)) (fun v l r _ _ => node v l (ih r)) t)
    (fun _ ih t => Tr.rec (motive := fun _ => Tr α) (node none (ih leaf) leaf) (fun v l r _ _ => node v (ih l) r) t) p
/-- `setP`, its path forced, handed on. -/
noncomputable def setPK {β : Type} (x : α) (p : Pos) : Tr α → (Tr α → β) → β :=
  Pos.rec (motive := fun _ => Tr α → (Tr α → β) → β)
    (fun t k => Tr.rec (motive := fun _ => β) (k (node (some x) leaf leaf)) (fun _ l r _ _ => k (node (some x) l r)) t)
    (fun _ ih t k => Tr.rec (motive := fun _ => β) (ih leaf fun r' => k (node none leaf r')) (fun v l r _ _ => ih r fun r' => k (node v l r')) t)
    (fun _ ih t k => Tr.rec (motive := fun _ => β) (ih leaf fun l' => k (node none l' leaf)) (fun v l r _ _ => ih l fun l' => k (node v l' r)) t) p
def get (t : Tr α) (n : Nat) : Option α := getP (pos n) t
def set (x : α) (t : Tr α) (n : Nat) : Tr α := setP x (pos n) t
def setK {β : Type} (x : α) (t : Tr α) (n : Nat) (k : Tr α → β) : β := setPK x (pos n) t k
end Tr

/-- A number forced to a numeral, handed on. -/
noncomputable def natK {β : Type} (n : Nat) (k : Nat → β) : β := Nat.rec (motive := fun _ => β) (k 0) (fun m _ => k (Nat.succ m)) n

/-! ### logical values -/
/-- Row r of stride st, and c cells on, in block b. -/
structure LA where
  b : Nat
  r : Nat
  st : Nat
  c : Nat

def LA.off (a : LA) : Nat := Nat.add (Nat.mul a.r a.st) a.c

/-- Room of a slice: known, or the block's own less so many elements; back: an empty end of a slice lies so many cells ahead, if there is no room behind it. -/
inductive Cp where
  | kn (n : Nat)
  | un (sh back : Nat)

inductive LV where
  | bool (b : Bool)
  | int (k : IntKind) (n : Int)
  | str (s : List UInt8)
  | ptr (a : Option LA)
  | slice (a : Option LA) (len : Nat) (cap : Cp)
  | map (r : Option Nat)
  | fn (f : Fn) (first caps : List LV)
  | nilFn
  | iface (t : TypeId) (v : LV)
  | nilIface
  | agg (cs : List LV)
  | tup (vs : List LV)
  | raw (v : Value)

def undefL : LV := .tup []

def LV.cells : LV → List LV
  | .agg cs => cs
  | .raw v => v.cells.toList.map .raw
  | v => [v]

/-- A value without addresses, as a logical one. -/
def ofV : Value → LV
  | .bool b => .bool b
  | .int k n => .int k n
  | .string s => .str s.data.toList
  | .pointer none => .ptr none
  | .slice none l c => .slice none l (.kn c)
  | .map none => .map none
  | .nilFunc => .nilFn
  | .nilIface => .nilIface
  | v => .raw v

/-! ### logical memory -/
inductive LO where
  /-- The first n cells of a row; gr: so many cells an element, if the row's length is its room; st: bytes of a conversion. -/
  | cells (vs : List LV) (n : Nat) (t : TypeId) (gr : Option Nat) (st : Bool)
  | map (es : List (LV × LV × Nat)) (clock : Nat)
  | iter (s : List UInt8) (pos : Nat)
  | loop (state : LoopState) (pending : Option Code) (fn : FuncId) (tm : Tr LV) (n : Nat) (params : Array Tmp) (assign body : Code) (defers : Nat)
  | defd (taken : Bool)
  | dead

structure LH where
  bs : Tr LO
  nx : Nat
  ro : Nat

/-! ### lists of cells -/
noncomputable def dropL {α : Type} (n : Nat) : List α → List α :=
  Nat.rec (motive := fun _ => List α → List α) (fun l => l) (fun _ ih l => List.rec (motive := fun _ => List α) [] (fun _ t _ => ih t) l) n
noncomputable def takeL {α : Type} (n : Nat) : List α → Option (List α) :=
  Nat.rec (motive := fun _ => List α → Option (List α)) (fun _ => some [])
    (fun _ ih l => List.rec (motive := fun _ => Option (List α)) none (fun x t _ => Option.rec (motive := fun _ => Option (List α)) none (fun r => some (x :: r)) (ih t)) l) n
/-- x :: l.. at the beginning, in place of as many. -/
noncomputable def overL {α : Type} (xs : List α) : List α → Option (List α) :=
  List.rec (motive := fun _ => List α → Option (List α)) (fun l => some l)
    (fun x _ ih l => List.rec (motive := fun _ => Option (List α)) none (fun _ t _ => Option.rec (motive := fun _ => Option (List α)) none (fun r => some (x :: r)) (ih t)) l) xs
noncomputable def putL {α : Type} (n : Nat) (xs : List α) : List α → Option (List α) :=
  Nat.rec (motive := fun _ => List α → Option (List α)) (fun l => overL xs l)
    (fun _ ih l => List.rec (motive := fun _ => Option (List α)) (List.rec (motive := fun _ => Option (List α)) (some []) (fun _ _ _ => none) xs)
      (fun y t _ => Option.rec (motive := fun _ => Option (List α)) none (fun r => some (y :: r)) (ih t)) l) n
def rdL {α : Type} (vs : List α) (off n : Nat) : Option (List α) := takeL n (dropL off vs)
/-- The first n of m. -/
def prefL {α : Type} (vs : List α) (m n : Nat) : Option (List α) :=
  match Nat.beq m n with
  | true => some vs
  | false => takeL n vs
noncomputable def appL {α : Type} (xs ys : List α) : List α := List.rec (motive := fun _ => List α) ys (fun x _ ih => x :: ih) xs
/-- Is a list so long? -/
noncomputable def lenT {α : Type} (n : Nat) : List α → Bool :=
  Nat.rec (motive := fun _ => List α → Bool) (fun l => List.rec (motive := fun _ => Bool) true (fun _ _ _ => false) l)
    (fun _ ih l => List.rec (motive := fun _ => Bool) false (fun _ t _ => ih t) l) n

/-! ### what an operation comes to -/
/-- A word on what will be: the next open choice; or what number an operation of a function comes to. -/
inductive Hint where
  | b (d : Bool)
  | n (f : FuncId) (t : Tmp) (i : Int)
  /-- the next value of that operation is left as it is. -/
  | k (f : FuncId) (t : Tmp)

/-- Words to come, and whether those that were taken are true. -/
structure Path where
  hs : List Hint
  as : Bool

inductive OR where
  | bad
  | val (v : LV) (h : LH) (pa : Path) (ok : Bool)
  | call (f : FuncId) (args : List LV) (ok : Bool)
  | round (l : Nat) (args : List LV) (ok : Bool)

def LH.put {β : Type} (h : LH) (id : Nat) (o : LO) (k : LH → β) : β :=
  match h with
  | ⟨bs, nx, ro⟩ => bs.setK o id fun bs => k ⟨bs, nx, ro⟩
def LH.push {β : Type} (h : LH) (o : LO) (k : Nat → LH → β) : β :=
  match h with
  | ⟨bs, nx, ro⟩ => natK nx fun n => bs.setK o n fun bs => k n ⟨bs, Nat.succ n, ro⟩

def boolNot : Bool → Bool
  | true => false
  | false => true
def boolAnd : Bool → Bool → Bool
  | true, b => b
  | false, _ => false

/-- A choice: by the path, if there is one; else by what is. -/
def br {β : Type} (c : Bool) (pa : Path) (k : Bool → Path → β) : β :=
  match pa.hs with
  | .b d :: ps => k d ⟨ps, boolAnd pa.as (c == d)⟩
  | _ => match c with
    | true => k true pa
    | false => k false pa

def kIdx : IntKind → Nat
  | .i8 => 0 | .i16 => 1 | .i32 => 2 | .i64 => 3 | .u8 => 4 | .u16 => 5 | .u32 => 6 | .u64 => 7
def kEq (a b : IntKind) : Bool := Nat.beq (kIdx a) (kIdx b)

structure Env where
  P : Program
  /-- struct and array types that may be compared part by part -/
  eqOk : TypeId → Bool
  /-- functions without a body that only reckon -/
  ext : FuncId → Option (List LV → Option LV)
  /-- proved summaries -/
  sum : FuncId → Option (List LV → LH → Path → OR)

section
variable (E : Env)

/-- A type's cells of zero. -/
def zeroL (t : TypeId) : Option (List LV) :=
  match E.P.info? t with
  | some i => match i.zero with
    | some (.agg cs) => some (cs.toList.map ofV)
    | some v => some [ofV v]
    | none => none
  | none => none

/-- A type's zero value. -/
def zeroV (t : TypeId) : Option LV :=
  match E.P.info? t with
  | some i => match i.zero with
    | some (.agg cs) => some (.agg (cs.toList.map ofV))
    | some v => some (ofV v)
    | none => none
  | none => none

def sizeL (t : TypeId) : Option Nat :=
  match E.P.info? t with
  | some i => some i.size
  | none => none

def isAggL (t : TypeId) : Option Bool :=
  match E.P.underlying t with
  | some (.struct _) => some true
  | some (.array _ _) => some true
  | some _ => some false
  | none => none

/-- A part of cells, as a value of its type. -/
def partL (t : TypeId) (cs : List LV) (off : Nat) : Option LV :=
  match isAggL E t with
  | some true => match sizeL E t with
    | some n => match rdL cs off n with
      | some l => some (.agg l)
      | none => none
    | none => none
  | some false => match dropL off cs with
    | v :: _ => some v
    | [] => none
  | none => none

def loadL (t : TypeId) (a : LA) (h : LH) : Option LV :=
  match h.bs.get a.b with
  | some (.cells vs _ _ _ _) => partL E t vs a.off
  | _ => none

/-- Is a value that of one cell? -/
def oneL : LV → Bool
  | .agg _ => false
  | .tup _ => false
  | .raw (.agg _) => false
  | .raw (.tuple _) => false
  | _ => true

def allOne : List LV → Bool
  | [] => true
  | v :: l => match oneL v with
    | true => allOne l
    | false => false

def storeL {β : Type} (bad : β) (a : LA) (xs : List LV) (h : LH) (k : LH → β) : β :=
  match boolAnd (Nat.ble h.ro a.b) (allOne xs) with
  | true => match h.bs.get a.b with
    | some (.cells vs n t gr st) => match putL a.off xs vs with
      | some vs' => h.put a.b (.cells vs' n t gr st) k
      | none => bad
    | _ => bad
  | false => bad

/-- An element's address: the row is counted on, if the stride is the element's size. -/
def LA.at (a : LA) (sz i : Nat) : LA :=
  match Nat.beq a.st sz with
  | true => ⟨a.b, Nat.add a.r i, a.st, a.c⟩
  | false => ⟨a.b, i, sz, a.off⟩

def Cp.less : Cp → Nat → Cp
  | .kn n, i => .kn (Nat.sub n i)
  | .un s b, i => .un (Nat.add s i) b

/-- Equality field by field, by that of values. -/
def eqFields (eq : TypeId → LV → LV → Option Bool) : List Field → List LV → List LV → Option Bool
  | [], _, _ => some true
  | f :: fs, xs, ys =>
    match f.name == "_" with
    | true => none
    | false => match partL E f.type xs f.offset, partL E f.type ys f.offset with
      | some a, some b => match eq f.type a b with
        | some e => match eqFields eq fs xs ys with
          | some r => some (boolAnd e r)
          | none => none
        | none => none
      | _, _ => none

/-- Equality of values of a type, by that of their parts. -/
def eqStep (h : LH) (eq : TypeId → LV → LV → Option Bool) (t : TypeId) (x y : LV) : Option Bool :=
    match E.P.underlying t, x, y with
    | some .bool, .bool a, .bool b => some (a == b)
    | some (.int _), .int k a, .int k' b => match kEq k k' with
      | true => some (a == b)
      | false => none
    | some .string, .str a, .str b => some (a == b)
    | some (.pointer _), .ptr none, .ptr none => some true
    | some (.pointer _), .ptr none, .ptr (some _) => some false
    | some (.pointer _), .ptr (some _), .ptr none => some false
    | some (.pointer e), .ptr (some a), .ptr (some b) =>
      match sizeL E e with
      | some (_ + 1) => match h.bs.get a.b, h.bs.get b.b with
        | some (.cells _ _ _ _ false), some (.cells _ _ _ _ false) => match Nat.beq a.b b.b with
          | true => some (Nat.beq a.off b.off)
          | false => some false
        | _, _ => none
      | _ => none
    | some (.slice _), .slice none _ _, .slice b _ _ => some b.isNone
    | some (.slice _), .slice _ _ _, .slice none _ _ => some false
    | some (.map _ _), .map none, .map b => some b.isNone
    | some (.map _ _), .map _, .map none => some false
    | some (.func _ _ _), .nilFn, .nilFn => some true
    | some (.func _ _ _), .nilFn, .fn _ _ _ => some false
    | some (.func _ _ _), .fn _ _ _, .nilFn => some false
    | some (.struct fields), .agg xs, .agg ys =>
      match E.eqOk t with
      | true => eqFields E eq fields.toList xs ys
      | false => none
    | _, _, _ => none

def eqL (h : LH) : Nat → TypeId → LV → LV → Option Bool
  | 0 => fun _ _ _ => none
  | d + 1 => eqStep E h (eqL h d)

/-- Whole numbers, the plain way first. -/
def eqInt : Int → Int → Bool
  | .ofNat a, .ofNat b => Nat.beq a b
  | .negSucc a, .negSucc b => Nat.beq a b
  | _, _ => false
def ltInt (a b : Int) : Bool :=
  match a, b with
  | .ofNat m, .ofNat n => Nat.blt m n
  | a, b => decide (a < b)
def leInt (a b : Int) : Bool :=
  match a, b with
  | .ofNat m, .ofNat n => Nat.ble m n
  | a, b => decide (a ≤ b)
def addInt (a b : Int) : Int :=
  match a, b with
  | .ofNat m, .ofNat n => .ofNat (Nat.add m n)
  | a, b => a + b
def subInt (a b : Int) : Int :=
  match a, b with
  | .ofNat m, .ofNat n => match Nat.ble n m with
    | true => .ofNat (Nat.sub m n)
    | false => a - b
  | a, b => a - b
def mulInt (a b : Int) : Int :=
  match a, b with
  | .ofNat m, .ofNat n => .ofNat (Nat.mul m n)
  | a, b => a * b
/-- So much every kind's number may be. -/
def mostOf : IntKind → Nat
  | .i8 => 127 | .i16 => 32767 | .i32 => 2147483647 | .i64 => 9223372036854775807 | .u8 => 255 | .u16 => 65535 | .u32 => 4294967295 | .u64 => 18446744073709551615
def wrapInt (k : IntKind) (n : Int) : Int :=
  match n with
  | .ofNat m => match Nat.ble m (mostOf k) with
    | true => .ofNat m
    | false => k.wrap (.ofNat m)
  | n => k.wrap n

def bShl (k : IntKind) (a b : Int) : Option (LV × Bool) := some (.int k (k.wrap (a * 2 ^ (min b.toNat k.bits))), decide (0 ≤ b))
def bShr (k : IntKind) (a b : Int) : Option (LV × Bool) := some (.int k (a.fdiv (2 ^ (min b.toNat k.bits))), decide (0 ≤ b))
def bAdd (k : IntKind) (a b : Int) : Option (LV × Bool) := some (.int k (wrapInt k (addInt a b)), true)
def bSub (k : IntKind) (a b : Int) : Option (LV × Bool) := some (.int k (wrapInt k (subInt a b)), true)
def bMul (k : IntKind) (a b : Int) : Option (LV × Bool) := some (.int k (wrapInt k (mulInt a b)), true)
def bQuo (k : IntKind) (a b : Int) : Option (LV × Bool) := some (.int k (k.wrap (a.tdiv b)), boolNot (b == 0))
def bRem (k : IntKind) (a b : Int) : Option (LV × Bool) := some (.int k (a.tmod b), boolNot (b == 0))
def bAnd (k : IntKind) (a b : Int) : Option (LV × Bool) := some (.int k (k.wrap (BitVec.ofInt k.bits a &&& BitVec.ofInt k.bits b).toNat), true)
def bOr (k : IntKind) (a b : Int) : Option (LV × Bool) := some (.int k (k.wrap (BitVec.ofInt k.bits a ||| BitVec.ofInt k.bits b).toNat), true)
def bXor (k : IntKind) (a b : Int) : Option (LV × Bool) := some (.int k (k.wrap (BitVec.ofInt k.bits a ^^^ BitVec.ofInt k.bits b).toNat), true)
def bAndNot (k : IntKind) (a b : Int) : Option (LV × Bool) := some (.int k (k.wrap (BitVec.ofInt k.bits a &&& ~~~BitVec.ofInt k.bits b).toNat), true)
def tb (b : Bool) : Option (LV × Bool) := some (.bool b, true)

/-- Two numbers of one kind by an operator; the second: it does not panic. -/
def binK (op : BinOp) (k : IntKind) (a b : Int) : Option (LV × Bool) :=
  match op with
  | .add => bAdd k a b
  | .sub => bSub k a b
  | .mul => bMul k a b
  | .quo => bQuo k a b
  | .rem => bRem k a b
  | .and => bAnd k a b
  | .or => bOr k a b
  | .xor => bXor k a b
  | .andNot => bAndNot k a b
  | .eql => tb (eqInt a b)
  | .neq => tb (boolNot (eqInt a b))
  | .lss => tb (ltInt a b)
  | .leq => tb (leInt a b)
  | .gtr => tb (ltInt b a)
  | .geq => tb (leInt b a)
  | .shl => bShl k a b
  | .shr => bShr k a b

def isShift : BinOp → Bool
  | .shl => true
  | .shr => true
  | _ => false

def binI (op : BinOp) (k k' : IntKind) (a b : Int) : Option (LV × Bool) :=
  match kEq k k' with
  | true => binK op k a b
  | false => match isShift op with
    | true => binK op k a b
    | false => none

def binS (op : BinOp) (a b : List UInt8) : Option (LV × Bool) :=
  match op with
  | .add => some (.str (a ++ b), Nat.ble (a.length + b.length) 9223372036854775807)
  | .eql => tb (a == b)
  | .neq => tb (boolNot (a == b))
  | _ => none

/-- Numbers, texts by an operator; the second: it does not panic. -/
def binL (op : BinOp) (x y : LV) : Option (LV × Bool) :=
  match x with
  | .int k a => match y with
    | .int k' b => binI op k k' a b
    | _ => none
  | .str a => match y with
    | .str b => binS op a b
    | _ => none
  | _ => none

def unL (op : UnOp) (x : LV) : Option LV :=
  match op, x with
  | .neg, .int k n => some (.int k (k.wrap (0 - n)))
  | .xor, .int k n => some (.int k (k.wrap (BitVec.ofInt k.bits (if k.signed then -1 else k.max) ^^^ BitVec.ofInt k.bits n).toNat))
  | .not, .bool b => some (.bool (boolNot b))
  | _, _ => none

/-- Does a slice's first element lie where it is told to? -/
def capOk : Cp → Bool
  | .kn _ => true
  | .un _ b => Nat.beq b 0

/-- The cells of a slice's, or a text's, first elements. -/
def firstL (sz n : Nat) (x : LV) (h : LH) : Option (List LV) :=
  match x with
  | .slice none _ _ => match n with
    | 0 => some []
    | _ + 1 => none
  | .slice (some a) _ c => match n with
    | 0 => some []
    | m + 1 => match capOk c, h.bs.get a.b with
      | true, some (.cells vs _ _ _ _) => rdL vs a.off (Nat.mul (m + 1) sz)
      | _, _ => none
  | .str s => match Nat.beq sz 1, takeL n s with
    | true, some l => some (l.map fun b => .int .u8 b.toNat)
    | _, _ => none
  | _ => none

def lenL : LV → Option Nat
  | .slice _ n _ => some n
  | .str s => some s.length
  | _ => none

/-- What an integer's or text's key compares as. -/
def sameL : LV → LV → Option Bool
  | .int k a, .int k' b => match kEq k k' with
    | true => some (a == b)
    | false => none
  | .str a, .str b => some (a == b)
  | .bool a, .bool b => some (a == b)
  | _, _ => none

/-- Where a key's entry is; the path decides where it is told to. -/
def findL {β : Type} (bad : β) (x : LV) : List (LV × LV × Nat) → Nat → Path → (Option (Nat × LV) → Path → β) → β
  | [], _, pa, k => k none pa
  | (y, v, _) :: es, i, pa, k =>
    match sameL x y with
    | none => bad
    | some c => br c pa fun d pa' => match d with
      | true => k (some (i, v)) pa'
      | false => findL bad x es (Nat.succ i) pa' k

/-- Is a key of a kind that is held against another at once? -/
def keyOk (t : TypeId) (x : LV) : Bool :=
  match x with
  | .int _ _ => match E.P.underlying t with
    | some (.int _) => true
    | _ => false
  | .str _ => match E.P.underlying t with
    | some .string => true
    | _ => false
  | .bool _ => match E.P.underlying t with
    | some .bool => true
    | _ => false
  | _ => false

def modL (v : LV) : Nat → List (LV × LV × Nat) → List (LV × LV × Nat)
  | _, [] => []
  | 0, (k, _, b) :: es => (k, v, b) :: es
  | n + 1, e :: es => e :: modL v n es

def eraseL : Nat → List (LV × LV × Nat) → List (LV × LV × Nat)
  | _, [] => []
  | 0, _ :: es => es
  | n + 1, e :: es => e :: eraseL n es

/-- A bound of a slice expression. -/
def boundL (v : LV) (y : Nat) : Option (Nat × Bool) :=
  match v with
  | .int _ i => some (i.toNat, boolAnd (decide (0 ≤ i)) (decide (i ≤ (y : Int))))
  | _ => none

/-- Bounds: low, high; the third: they fit. -/
def boundsL (len cap : Nat) (lo hi : Option LV) : Option (Nat × Nat × Bool) :=
  match hi with
  | none => match lo with
    | none => some (0, len, true)
    | some l => match boundL l len with
      | some (l, ok) => some (l, len, ok)
      | none => none
  | some hv => match boundL hv cap with
    | none => none
    | some (hn, ok) => match lo with
      | none => some (0, hn, ok)
      | some l => match boundL l hn with
        | some (l, ok') => some (l, hn, boolAnd ok ok')
        | none => none

def optMap (f : Operand → LV) : Option Operand → Option LV
  | none => none
  | some x => some (f x)

/-- Does a grown slice lie within its row? -/
def unOk (a : LA) (sh len : Nat) (h : LH) : Bool :=
  match h.bs.get a.b with
  | some (.cells _ n _ (some (g + 1)) _) => Nat.ble (Nat.mul (Nat.add sh len) (g + 1)) n
  | _ => false

def cutStr (s : List UInt8) : Option (Nat × Nat × Bool) → Option (LV × Bool)
  | some (l, hn, ok) => some (.str ((s.take hn).drop l), ok)
  | none => none

def cutKn (a : Option LA) (sz cap : Nat) : Option (Nat × Nat × Bool) → Option (LV × Bool)
  | some (l, hn, ok) => some (.slice (match Nat.beq cap l with
      | true => a
      | false => match a with
        | some a => some (a.at sz l)
        | none => none) (Nat.sub hn l) (.kn (Nat.sub cap l)), ok)
  | none => none

/-- Where the whole room is cut off, the address stays. -/
def cutUn (a : LA) (sz len sh : Nat) : Option (Nat × Nat × Bool) → Option (LV × Bool)
  | some (l, hn, ok) => some (.slice (some (a.at sz l)) (Nat.sub hn l) (.un (Nat.add sh l) (match Nat.blt l len with
      | true => 0
      | false => Nat.mul l sz)), ok)
  | none => none

def cutUn0 (a : LA) (sh back : Nat) : Option (Nat × Nat × Bool) → Option (LV × Bool)
  | some (_, hn, ok) => some (.slice (some a) hn (.un sh back), ok)
  | none => none

def cutArr (a : LA) (sz n : Nat) : Option (Nat × Nat × Bool) → Option (LV × Bool)
  | some (l, hn, ok) => some (.slice (some (match Nat.beq n l with
      | true => a
      | false => a.at sz l)) (Nat.sub hn l) (.kn (Nat.sub n l)), ok)
  | none => none

/-- s[lo:hi] of a slice -/
def sliceS (sz : Nat) (x : LV) (lo hi : Option LV) (h : LH) : Option (LV × Bool) :=
  match x with
  | .slice a len (.kn cap) => cutKn a sz cap (boundsL len cap lo hi)
  | .slice (some a) len (.un sh back) => match unOk a sh len h with
    | false => none
    | true => match lo with
      | none => cutUn0 a sh back (boundsL len len none hi)
      | some lo => match back with
        | 0 => cutUn a sz len sh (boundsL len len (some lo) hi)
        | _ + 1 => none
  | _ => none

/-- s[lo:hi] -/
def sliceL (t : TypeId) (x : LV) (lo hi : Option LV) (h : LH) : Option (LV × Bool) :=
  match E.P.underlying t with
  | some .string => match x with
    | .str s => cutStr s (boundsL s.length s.length lo hi)
    | _ => none
  | some (.slice e) => match sizeL E e with
    | none => none
    | some sz => sliceS sz x lo hi h
  | some (.array n e) => match sizeL E e with
    | none => none
    | some sz => match x with
      | .ptr (some a) => cutArr a sz n (boundsL n n lo hi)
      | _ => none
  | _ => none

/-- Cells of parts laid into cells. -/
def fillL (place : Nat → Option (Nat × Nat)) (cells : List LV) : List (Nat × LV) → Option (List LV)
  | [] => some cells
  | (i, v) :: rest =>
    match place i with
    | none => none
    | some (off, size) => match size with
      | 0 => none
      | m + 1 => match lenT (m + 1) v.cells with
        | false => none
        | true => match putL off v.cells cells with
          | some cells' => fillL place cells' rest
          | none => none

noncomputable def repL {α : Type} (x : List α) (n : Nat) : List α := Nat.rec (motive := fun _ => List α) [] (fun _ ih => appL x ih) n

def roomL (n bytes : Nat) : Bool := boolAnd (Nat.ble n 1099511627776) (Nat.ble (Nat.mul n bytes) 1099511627776)

/-- A grown row. -/
def growL (old new : List LV) (need sz bytes : Nat) (e : TypeId) (h : LH) (pa : Path) : OR :=
  h.push (.cells (appL old new) (Nat.mul need sz) e (some sz) false) fun id h => .val (.slice (some ⟨id, 0, sz, 0⟩) need (.un 0 0)) h pa (roomL need bytes)

/-- Elements put behind a slice's last one: in place. -/
def placeL (a : LA) (sz len n : Nat) (c : Cp) (new : List LV) (h : LH) (pa : Path) : OR :=
  storeL .bad (a.at sz len) new h fun h => .val (.slice (some a) (Nat.add len n) c) h pa true

def appNil (sz bytes n : Nat) (e : TypeId) (new : List LV) (h : LH) (pa : Path) : OR :=
  br (Nat.beq n 0) pa fun d pa => match d with
    | true => .val (.slice none 0 (.kn 0)) h pa true
    | false => growL [] new n sz bytes e h pa

def appKn (a : LA) (sz bytes len cap n : Nat) (e : TypeId) (new : List LV) (h : LH) (pa : Path) : OR :=
  br (Nat.ble (Nat.add len n) cap) pa fun d pa => match d with
    | true => placeL a sz len n (.kn cap) new h pa
    | false => match firstL sz len (.slice (some a) len (.kn cap)) h with
      | none => .bad
      | some old => growL old new (Nat.add len n) sz bytes e h pa

/-- Where it is open whether a row is moved, it is another one from now on. -/
def appUn (a : LA) (sz bytes len sh n : Nat) (e : TypeId) (new : List LV) (h : LH) (pa : Path) : OR :=
  match h.bs.get a.b with
  | some (.cells vs vn t (some (g + 1)) false) =>
    match boolAnd (Nat.beq (g + 1) sz) (boolAnd (Nat.beq t e) (boolAnd (Nat.ble h.ro a.b) (Nat.beq a.off (Nat.mul sh (g + 1))))) with
    | false => .bad
    | true => br (Nat.ble (Nat.mul (Nat.add sh (Nat.add len n)) (g + 1)) vn) pa fun d pa => match d with
      | true => placeL a sz len n (.un sh 0) new h pa
      | false => match sh with
        | _ + 1 => .bad
        | 0 => match prefL vs vn (Nat.mul len (g + 1)), allOne new with
          | some old, true => h.put a.b .dead fun h => growL old new (Nat.add len n) sz bytes e h pa
          | _, _ => .bad
  | _ => .bad

/-- A slice's last element's place behind which elements are put: in place; moved; grown. -/
def appendL (sT : TypeId) (s x : LV) (h : LH) (pa : Path) : OR :=
  match E.P.underlying sT with
  | some (.slice e) => match E.P.info? e, zeroL E e with
    | some i, some z => match lenT i.size z with
      | false => .bad
      | true => match lenL x with
        | none => .bad
        | some n => match firstL i.size n x h with
          | none => .bad
          | some new => match s with
            | .slice none 0 (.kn 0) => appNil i.size i.bytes n e new h pa
            | .slice (some a) len (.kn cap) => appKn a i.size i.bytes len cap n e new h pa
            | .slice (some a) len (.un sh 0) => appUn a i.size i.bytes len sh n e new h pa
            | _ => .bad
    | _, _ => .bad
  | _ => .bad

def okv (h : LH) (pa : Path) : Option LV → OR
  | some v => .val v h pa true
  | none => .bad
def okv2 (h : LH) (pa : Path) : Option (LV × Bool) → OR
  | some (v, ok) => .val v h pa ok
  | none => .bad

def minL (lt : Bool) : LV → LV → Option LV
  | .int k a, .int k' b => match kEq k k' with
    | true => some (.int k (match lt with
      | true => if b < a then b else a
      | false => if b > a then b else a))
    | false => none
  | _, _ => none

def builtinL (b : Builtin) (argTypes : Array TypeId) (args : List LV) (h : LH) (pa : Path) : OR :=
  match b, argTypes.toList, args with
  | .len, [t], [x] => match E.P.underlying t, x with
    | some .string, .str s => .val (.int .i64 s.length) h pa true
    | some (.array n _), _ => .val (.int .i64 n) h pa true
    | some (.slice _), .slice _ n _ => .val (.int .i64 n) h pa true
    | some (.map _ _), .map none => .val (.int .i64 0) h pa true
    | some (.map _ _), .map (some r) => match h.bs.get r with
      | some (.map es _) => .val (.int .i64 es.length) h pa true
      | _ => .bad
    | _, _ => .bad
  | .cap, [t], [x] => match E.P.underlying t, x with
    | some (.slice _), .slice _ _ (.kn n) => .val (.int .i64 n) h pa true
    | _, _ => .bad
  | .min, _, [x, y] => okv h pa (minL true x y)
  | .max, _, [x, y] => okv h pa (minL false x y)
  | .append, [sT, xT], [s, x] => match E.P.underlying xT with
    | some (.int _) => .bad
    | some _ => appendL E sT s x h pa
    | none => .bad
  | .copy, dT :: _, [d, s] => match E.P.underlying dT, d with
    | some (.slice e), .slice base dLen cp => match sizeL E e, lenL s with
      | some sz, some sLen => match firstL sz (Nat.min sLen dLen) s h with
        | none => .bad
        | some cs => match base with
          | none => .val (.int .i64 (Nat.min sLen dLen : Nat)) h pa true
          | some a => match capOk cp with
            | true => storeL .bad a cs h fun h => .val (.int .i64 (Nat.min sLen dLen : Nat)) h pa true
            | false => .bad
      | _, _ => .bad
    | _, _ => .bad
  | .clear, [t], [x] => match E.P.underlying t, x with
    | some (.map _ _), .map none => .val undefL h pa true
    | some (.map _ _), .map (some r) => match h.bs.get r, Nat.ble h.ro r with
      | some (.map _ clock), true => h.put r (.map [] clock) fun h => .val undefL h pa true
      | _, _ => .bad
    | some (.slice _), .slice none _ _ => .val undefL h pa true
    | some (.slice e), .slice (some a) (n + 1) cp => match zeroL E e, capOk cp with
      | some z, true => storeL .bad a (repL z (n + 1)) h fun h => .val undefL h pa true
      | _, _ => .bad
    | some (.slice _), .slice _ 0 _ => .val undefL h pa true
    | _, _ => .bad
  | .delete, t :: _, [m, x] => match E.P.underlying t, m with
    | some (.map kt _), .map (some r) => match keyOk E kt x, h.bs.get r, Nat.ble h.ro r with
      | true, some (.map es clock), true => findL .bad x es 0 pa fun at? pa => match at? with
        | some (i, _) => h.put r (.map (eraseL i es) clock) fun h => .val undefL h pa true
        | none => .val undefL h pa true
      | _, _, _ => .bad
    | _, _ => .bad
  | _, _, _ => .bad

def bytesL : List LV → Option (List UInt8)
  | [] => some []
  | .int .u8 n :: l => match bytesL l with
    | some r => some (UInt8.ofNat n.toNat :: r)
    | none => none
  | _ => none

def andOk (ok b : Bool) (v : LV) : LV :=
  match ok with
  | true => .tup [v, .bool b]
  | false => v

def lookTell (ok : Bool) (z : LV) (at? : Option (Nat × LV)) (h : LH) (pa : Path) : OR :=
  match at? with
  | some (_, v) => .val (andOk ok true v) h pa true
  | none => .val (andOk ok false z) h pa true

/-- May two values be asked part by part? -/
def eqAsk (t : TypeId) (x y : LV) : Bool :=
  match x with
  | .int _ _ => false
  | .str _ => false
  | .raw _ => false
  | .nilIface => false
  | .agg _ => match y with
    | .agg _ => E.eqOk t
    | _ => false
  | _ => match y with
    | .raw _ => false
    | _ => true

def oPick (c a b : LV) (h : LH) (pa : Path) : OR :=
  match c with
  | .bool c => br c pa fun d pa => match d with
    | true => .val a h pa true
    | false => .val b h pa true
  | _ => .bad

def oPtr (cs : List LV) (t : TypeId) (h : LH) (pa : Path) : OR :=
  h.push (.cells cs cs.length t none false) fun id h => .val (.ptr (some ⟨id, 0, 0, 0⟩)) h pa true

def oAlloc (t : TypeId) (h : LH) (pa : Path) : OR :=
  match zeroL E t with
  | some z => oPtr z t h pa
  | none => .bad

def fieldAt (fields : Array Field) (i : Nat) : Option (Nat × Nat) :=
  match fields[i]? with
  | some f => match sizeL E f.type with
    | some s => some (f.offset, s)
    | none => none
  | none => none

def okAgg (h : LH) (pa : Path) : Option (List LV) → OR
  | some cs => .val (.agg cs) h pa true
  | none => .bad

def oBuild (t : TypeId) (parts : List (Nat × LV)) (h : LH) (pa : Path) : OR :=
  match zeroL E t with
  | none => .bad
  | some z => match E.P.underlying t with
    | some (.struct fields) => match fields.all (fun f => (sizeL E f.type).isSome) with
      | true => okAgg h pa (fillL (fieldAt E fields) z parts)
      | false => .bad
    | some (.array _ e) => match sizeL E e with
      | none => .bad
      | some s => okAgg h pa (fillL (fun i => some (Nat.mul i s, s)) z parts)
    | _ => .bad

def oSliceOf (cs : List LV) (e : TypeId) (sz len : Nat) (h : LH) (pa : Path) (ok : Bool) : OR :=
  h.push (.cells cs (Nat.mul len sz) e none false) fun id h => .val (.slice (some ⟨id, 0, sz, 0⟩) len (.kn len)) h pa ok

def oBuildSlice (t : TypeId) (len : Nat) (parts : List (Nat × LV)) (h : LH) (pa : Path) : OR :=
  match E.P.underlying t with
  | some (.slice e) => match sizeL E e with
    | none => .bad
    | some sz => match zeroL E e, Nat.ble (Nat.mul len sz) 16777216 with
      | some z, true => match lenT sz z, fillL (fun i => some (Nat.mul i sz, sz)) (repL z len) parts with
        | true, some cs => oSliceOf cs e sz len h pa true
        | _, _ => .bad
      | _, _ => .bad
  | _ => .bad

def oLoad (t : TypeId) (a : LV) (h : LH) (pa : Path) : OR :=
  match a with
  | .ptr (some a) => okv h pa (loadL E t a h)
  | _ => .bad

def oStore (t : TypeId) (a : LV) (cs : List LV) (h : LH) (pa : Path) : OR :=
  match a with
  | .ptr (some a) => match sizeL E t with
    | some n => match lenT n cs with
      | true => storeL .bad a cs h fun h => .val undefL h pa true
      | false => .bad
    | none => .bad
  | _ => .bad

def oNilCheck (x : LV) (h : LH) (pa : Path) : OR :=
  match x with
  | .ptr (some a) => .val (.ptr (some a)) h pa true
  | _ => .bad

def oEq (no : Bool) (t : TypeId) (x y : LV) (h : LH) (pa : Path) : OR :=
  match eqL E h 9 t x y with
  | some b => match eqAsk E t x y with
    | true => .val (.bool (match no with
      | true => boolNot b
      | false => b)) h pa true
    | false => .bad
  | none => .bad

def oBin (op : BinOp) (t : TypeId) (x y : LV) (h : LH) (pa : Path) : OR :=
  match binL op x y with
  | some (v, ok) => .val v h pa ok
  | none => match op with
    | .eql => oEq E false t x y h pa
    | .neq => oEq E true t x y h pa
    | _ => .bad

def oBytes (e : TypeId) (s : List UInt8) (h : LH) (pa : Path) : OR :=
  match E.P.underlying e with
  | some (.int .u8) => h.push (.cells (s.map fun b => .int .u8 b.toNat) s.length e (some 1) true) fun id h => .val (.slice (some ⟨id, 0, 1, 0⟩) s.length (.un 0 0)) h pa true
  | _ => .bad

def oText (e : TypeId) (x : LV) (h : LH) (pa : Path) : OR :=
  match E.P.underlying e, x with
  | some (.int .u8), .slice none _ _ => .val (.str []) h pa true
  | some (.int .u8), .slice (some a) len c => match firstL 1 len (.slice (some a) len c) h with
    | some cs => match bytesL cs with
      | some s => .val (.str s) h pa true
      | none => .bad
    | none => .bad
  | _, _ => .bad

def oConvert (src dst : TypeId) (x : LV) (h : LH) (pa : Path) : OR :=
  match E.P.underlying dst with
  | some (.int k) => match E.P.underlying src, x with
    | some (.int _), .int _ n => .val (.int k (k.wrap n)) h pa true
    | _, _ => .bad
  | some .string => match E.P.underlying src with
    | some .string => match x with
      | .str s => .val (.str s) h pa true
      | _ => .bad
    | some (.slice e) => oText E e x h pa
    | _ => .bad
  | some (.slice e) => match E.P.underlying src, x with
    | some .string, .str s => oBytes E e s h pa
    | _, _ => .bad
  | _ => .bad

def oIface (t : TypeId) (x : LV) (h : LH) (pa : Path) : OR :=
  match E.P.underlying t with
  | some (.interface _) => .bad
  | some _ => .val (.iface t x) h pa true
  | none => .bad

def oFunc (fn : Fn) (first caps : List LV) (h : LH) (pa : Path) : OR :=
  match fn with
  | .yield _ => .bad
  | fn => .val (.fn fn first caps) h pa true

def oMakeMap (r : Option Operand) (h : LH) (pa : Path) : OR :=
  match r with
  | none => h.push (.map [] 0) fun id h => .val (.map (some id)) h pa true
  | some _ => .bad

def oMakeSlice (t : TypeId) (len cap : LV) (h : LH) (pa : Path) : OR :=
  match E.P.underlying t, len, cap with
  | some (.slice e), .int _ l, .int _ c => match zeroL E e, E.P.info? e with
    | some z, some i => match lenT i.size z with
      | true => h.push (.cells (repL z c.toNat) (Nat.mul c.toNat i.size) e none false) fun id h =>
          .val (.slice (some ⟨id, 0, i.size, 0⟩) l.toNat (.kn c.toNat)) h pa (boolAnd (decide (0 ≤ l)) (boolAnd (decide (l ≤ c)) (decide (c * (i.bytes : Int) ≤ 1099511627776 ∧ c ≤ 1099511627776))))
      | false => .bad
    | _, _ => .bad
  | _, _, _ => .bad

def oSlice (t : TypeId) (x : LV) (lo hi : Option LV) (mx : Option Operand) (h : LH) (pa : Path) : OR :=
  match mx with
  | none => okv2 h pa (sliceL E t x lo hi h)
  | some _ => .bad

def oFieldAddr (s : TypeId) (x : LV) (f : Nat) (h : LH) (pa : Path) : OR :=
  match E.P.underlying s, x with
  | some (.struct fields), .ptr (some a) => match fieldAt E fields f with
    | some (off, _ + 1) => .val (.ptr (some ⟨a.b, a.r, a.st, Nat.add a.c off⟩)) h pa true
    | _ => .bad
  | _, _ => .bad

def oField (t : TypeId) (x : LV) (f : Nat) (h : LH) (pa : Path) : OR :=
  match E.P.underlying t, x with
  | some (.struct fields), .agg cs => match fields[f]? with
    | some fd => okv h pa (partL E fd.type cs fd.offset)
    | none => .bad
  | _, _ => .bad

def inBounds (i : Int) (len : Nat) : Bool :=
  match i with
  | .ofNat m => Nat.blt m len
  | _ => false

def oAt (e : TypeId) (a : LA) (i : Int) (ok : Bool) (h : LH) (pa : Path) : OR :=
  match sizeL E e with
  | some sz => .val (.ptr (some (a.at sz i.toNat))) h pa ok
  | none => .bad

def oIndexAddr (t : TypeId) (x ix : LV) (h : LH) (pa : Path) : OR :=
  match ix with
  | .int _ i => match x with
    | .ptr (some a) => match E.P.underlying t with
      | some (.array len e) => oAt E e a i (inBounds i len) h pa
      | _ => .bad
    | .slice (some a) len c => match E.P.underlying t with
      | some (.slice e) => oAt E e a i (boolAnd (inBounds i len) (capOk c)) h pa
      | _ => .bad
    | _ => .bad
  | _ => .bad

def oIndex (t : TypeId) (x ix : LV) (h : LH) (pa : Path) : OR :=
  match ix with
  | .int _ i => match x with
    | .agg cs => match E.P.underlying t with
      | some (.array len e) => match sizeL E e with
        | some sz => match partL E e cs (Nat.mul i.toNat sz) with
          | some v => .val v h pa (inBounds i len)
          | none => .bad
        | none => .bad
      | _ => .bad
    | .str s => match E.P.underlying t with
      | some .string => .val (.int .u8 ((s.getD i.toNat 0).toNat)) h pa (inBounds i s.length)
      | _ => .bad
    | _ => .bad
  | _ => .bad

def oLookup (t : TypeId) (m x : LV) (ok : Bool) (h : LH) (pa : Path) : OR :=
  match E.P.underlying t with
  | some (.map kt et) => match keyOk E kt x, zeroV E et with
    | true, some z => match m with
      | .map none => lookTell ok z none h pa
      | .map (some r) => match h.bs.get r with
        | some (.map es _) => findL .bad x es 0 pa fun at? pa => lookTell ok z at? h pa
        | _ => .bad
      | _ => .bad
    | _, _ => .bad
  | _ => .bad

def oMapSet (t : TypeId) (m x v : LV) (h : LH) (pa : Path) : OR :=
  match E.P.underlying t, m with
  | some (.map kt _), .map (some r) => match keyOk E kt x, h.bs.get r, Nat.ble h.ro r with
    | true, some (.map es clock), true => findL .bad x es 0 pa fun at? pa => match at? with
      | some (i, _) => h.put r (.map (modL v i es) clock) fun h => .val undefL h pa true
      | none => h.put r (.map (es ++ [(x, v, clock)]) (Nat.succ clock)) fun h => .val undefL h pa true
    | _, _, _ => .bad
  | _, _ => .bad

def oRange (t : TypeId) (x : LV) (h : LH) (pa : Path) : OR :=
  match E.P.underlying t, x with
  | some .string, .str s => h.push (.iter s 0) fun id h => .val (.ptr (some ⟨id, 0, 0, 0⟩)) h pa true
  | _, _ => .bad

def oNext (it : LV) (isString : Bool) (h : LH) (pa : Path) : OR :=
  match isString, it with
  | true, .ptr (some a) => match Nat.beq a.off 0, h.bs.get a.b, Nat.ble h.ro a.b with
    | true, some (.iter s pos), true => br (Nat.blt pos s.length) pa fun d pa => match d with
      | true => match Utf8.decode ⟨s.toArray⟩ pos with
        | (c, width) => h.put a.b (.iter s (Nat.add pos width)) fun h => .val (.tup [.bool true, .int .i64 pos, .int .i32 c]) h pa true
      | false => .val (.tup [.bool false]) h pa true
    | _, _, _ => .bad
  | _, _ => .bad

def assertNo (asserted : TypeId) (ok : Bool) (h : LH) (pa : Path) : OR :=
  match ok, zeroV E asserted with
  | true, some z => .val (.tup [z, .bool false]) h pa true
  | _, _ => .bad

def oAssert (x : LV) (asserted : TypeId) (ok : Bool) (h : LH) (pa : Path) : OR :=
  match E.P.underlying asserted with
  | none => .bad
  | some (.interface _) => .bad
  | some _ => match x with
    | .iface t v => match Nat.beq t asserted with
      | true => .val (andOk ok true v) h pa true
      | false => assertNo E asserted ok h pa
    | .nilIface => assertNo E asserted ok h pa
    | _ => .bad

def oExtract (t : LV) (ix : Nat) (h : LH) (pa : Path) : OR :=
  match t with
  | .tup vs => match dropL ix vs with
    | v :: _ => .val v h pa true
    | [] => .bad
  | _ => .bad

def oCallV (f : LV) (args : List LV) (h : LH) (pa : Path) : OR :=
  match f with
  | .fn (.func g) first caps => match E.ext g with
    | none => .call g ((first ++ args) ++ caps) true
    | some e => okv h pa (e ((first ++ args) ++ caps))
  | .fn (.yield l) first _ => .round l (first ++ args) true
  | _ => .bad

def oCall (ρ : Operand → LV) (c : Call) (h : LH) (pa : Path) : OR :=
  match c.callee with
  | .builtin b => builtinL E b c.argTypes (c.args.toList.map ρ) h pa
  | .value f => oCallV E (ρ f) (c.args.toList.map ρ) h pa
  | .invoke _ _ => .bad

/-- What an operation comes to. -/
def evO (ρ : Operand → LV) (o : Oper) (h : LH) (pa : Path) : OR :=
  match o.op with
  | .move x => .val (ρ x) h pa true
  | .assign x => .val (ρ x) h pa true
  | .pick c a b => oPick (ρ c) (ρ a) (ρ b) h pa
  | .alloc t => oAlloc E t h pa
  | .box t x => oPtr (ρ x).cells t h pa
  | .build t parts => oBuild E t (parts.toList.map fun p => (p.1, ρ p.2)) h pa
  | .buildSlice t len parts => oBuildSlice E t len (parts.toList.map fun p => (p.1, ρ p.2)) h pa
  | .load t a => oLoad E t (ρ a) h pa
  | .store t a x => oStore E t (ρ a) (ρ x).cells h pa
  | .nilCheck x => oNilCheck (ρ x) h pa
  | .binOp op t x y _ => oBin E op t (ρ x) (ρ y) h pa
  | .unOp op _ x => okv h pa (unL op (ρ x))
  | .convert src dst x => oConvert E src dst (ρ x) h pa
  | .makeInterface t x => oIface E t (ρ x) h pa
  | .makeFunc fn first captured => oFunc fn (first.toList.map ρ) (captured.toList.map ρ) h pa
  | .makeMap _ r => oMakeMap r h pa
  | .makeSlice t len cap => oMakeSlice E t (ρ len) (ρ cap) h pa
  | .slice t x lo hi mx => oSlice E t (ρ x) (optMap ρ lo) (optMap ρ hi) mx h pa
  | .fieldAddr s x f => oFieldAddr E s (ρ x) f h pa
  | .field t x f => oField E t (ρ x) f h pa
  | .indexAddr t x ix => oIndexAddr E t (ρ x) (ρ ix) h pa
  | .index t x ix => oIndex E t (ρ x) (ρ ix) h pa
  | .lookup t m x ok => oLookup E t (ρ m) (ρ x) ok h pa
  | .mapUpdate t m x v => oMapSet E t (ρ m) (ρ x) (ρ v) h pa
  | .insert t m x v => oMapSet E t (ρ m) (ρ x) (ρ v) h pa
  | .range t x => oRange E t (ρ x) h pa
  | .next it isString => oNext (ρ it) isString h pa
  | .typeAssert x _ asserted ok => oAssert E (ρ x) asserted ok h pa
  | .extract t ix => oExtract (ρ t) ix h pa
  | .call c => oCall E ρ c h pa
  | _ => .bad

/-- Must an operation's value be forced? -/
def needF : Op → Bool
  | .binOp .. => true
  | .unOp .. => true
  | .convert .. => true
  | .slice .. => true
  | .fieldAddr .. => true
  | .indexAddr .. => true
  | .index .. => true
  | .next .. => true
  | .call c => match c.callee with
    | .builtin _ => true
    | _ => false
  | _ => false

/-- An operation at hand: to be forced?; what it comes to. -/
inductive OF where
  | mk (fc : Bool) (f : (Operand → LV) → LH → Path → OR)

def callOF (c : Call) : OF :=
  match c.callee with
  | .builtin b => .mk true fun ρ h pa => builtinL E b c.argTypes (c.args.toList.map ρ) h pa
  | .value f => .mk false fun ρ h pa => oCallV E (ρ f) (c.args.toList.map ρ) h pa
  | .invoke _ _ => .mk false fun _ _ _ => .bad

def opF (o : Op) : OF :=
  match o with
  | .move x => .mk false fun ρ h pa => .val (ρ x) h pa true
  | .assign x => .mk false fun ρ h pa => .val (ρ x) h pa true
  | .pick c a b => .mk false fun ρ h pa => oPick (ρ c) (ρ a) (ρ b) h pa
  | .alloc t => .mk false fun _ h pa => oAlloc E t h pa
  | .box t x => .mk false fun ρ h pa => oPtr (ρ x).cells t h pa
  | .build t parts => .mk false fun ρ h pa => oBuild E t (parts.toList.map fun p => (p.1, ρ p.2)) h pa
  | .buildSlice t len parts => .mk false fun ρ h pa => oBuildSlice E t len (parts.toList.map fun p => (p.1, ρ p.2)) h pa
  | .load t a => .mk false fun ρ h pa => oLoad E t (ρ a) h pa
  | .store t a x => .mk false fun ρ h pa => oStore E t (ρ a) (ρ x).cells h pa
  | .nilCheck x => .mk false fun ρ h pa => oNilCheck (ρ x) h pa
  | .binOp op t x y _ => .mk true fun ρ h pa => oBin E op t (ρ x) (ρ y) h pa
  | .unOp op _ x => .mk true fun ρ h pa => okv h pa (unL op (ρ x))
  | .convert src dst x => .mk true fun ρ h pa => oConvert E src dst (ρ x) h pa
  | .makeInterface t x => .mk false fun ρ h pa => oIface E t (ρ x) h pa
  | .makeFunc fn first captured => .mk false fun ρ h pa => oFunc fn (first.toList.map ρ) (captured.toList.map ρ) h pa
  | .makeMap _ r => .mk false fun _ h pa => oMakeMap r h pa
  | .makeSlice t len cap => .mk false fun ρ h pa => oMakeSlice E t (ρ len) (ρ cap) h pa
  | .slice t x lo hi mx => .mk true fun ρ h pa => oSlice E t (ρ x) (optMap ρ lo) (optMap ρ hi) mx h pa
  | .fieldAddr s x f => .mk true fun ρ h pa => oFieldAddr E s (ρ x) f h pa
  | .field t x f => .mk false fun ρ h pa => oField E t (ρ x) f h pa
  | .indexAddr t x ix => .mk true fun ρ h pa => oIndexAddr E t (ρ x) (ρ ix) h pa
  | .index t x ix => .mk true fun ρ h pa => oIndex E t (ρ x) (ρ ix) h pa
  | .lookup t m x ok => .mk false fun ρ h pa => oLookup E t (ρ m) (ρ x) ok h pa
  | .mapUpdate t m x v => .mk false fun ρ h pa => oMapSet E t (ρ m) (ρ x) (ρ v) h pa
  | .insert t m x v => .mk false fun ρ h pa => oMapSet E t (ρ m) (ρ x) (ρ v) h pa
  | .range t x => .mk false fun ρ h pa => oRange E t (ρ x) h pa
  | .next it isString => .mk true fun ρ h pa => oNext (ρ it) isString h pa
  | .typeAssert x _ asserted ok => .mk false fun ρ h pa => oAssert E (ρ x) asserted ok h pa
  | .extract t ix => .mk false fun ρ h pa => oExtract (ρ t) ix h pa
  | .call c => callOF E c
  | _ => .mk false fun _ _ _ => .bad

def OF.fc : OF → Bool
  | .mk b _ => b
def OF.ap : OF → (Operand → LV) → LH → Path → OR
  | .mk _ f => f

/-- `evO`, by what is at hand: quick in the kernel, where a closed operation's own is reckoned once. -/
def evQ (ρ : Operand → LV) (o : Oper) (h : LH) (pa : Path) : OR := (opF E o.op).ap ρ h pa
def fcQ (o : Oper) : Bool := (opF E o.op).fc

/-! ### code -/
inductive Ex where
  | normal
  | exit (id : Nat)
  | ret

/-- What code comes to. -/
inductive Res where
  | bad
  | mk (ex : Ex) (tm : Tr LV) (h : LH) (mk : List Nat) (pa : Path)

/-- What a call comes to. -/
inductive CR where
  | bad
  | ret (v : LV) (h : LH) (pa : Path)

def tget (tm : Tr LV) (t : Nat) : LV :=
  match tm.get t with
  | some v => v
  | none => undefL

def rho (tm : Tr LV) : Operand → LV
  | .tmp t => tget tm t
  | .const v => ofV v
  | .global g => match Nat.blt g 64 with
    | true => .ptr (some ⟨g, 0, 0, 0⟩)
    | false => .raw (.pointer (some ⟨g, 0, none⟩))
  | .func f => .fn (.func f) [] []

/-- In the closed mode a check is made on the spot; else it is kept. -/
def chk {β : Type} (md : Bool) (bad : β) (c : Bool) (pa : Path) (k : Path → β) : β :=
  match md with
  | true => match c with
    | true => k pa
    | false => bad
  | false => k ⟨pa.hs, boolAnd pa.as c⟩

/-- A value forced, in the closed mode. -/
def frc {β : Type} (md : Bool) (v : LV) (k : LV → β) : β :=
  match md with
  | false => k v
  | true => match v with
    | .int kd n => match n with
      | .ofNat m => natK m fun m => k (.int kd (.ofNat m))
      | .negSucc m => natK m fun m => k (.int kd (.negSucc m))
    | .bool b => match b with
      | true => k (.bool true)
      | false => k (.bool false)
    | .ptr (some ⟨b, r, st, c⟩) => natK b fun b => natK r fun r => natK st fun st => natK c fun c => k (.ptr (some ⟨b, r, st, c⟩))
    | .slice (some ⟨b, r, st, c⟩) len cap => natK b fun b => natK r fun r => natK st fun st => natK c fun c => natK len fun len => match cap with
      | .kn n => natK n fun n => k (.slice (some ⟨b, r, st, c⟩) len (.kn n))
      | .un n m => natK n fun n => natK m fun m => k (.slice (some ⟨b, r, st, c⟩) len (.un n m))
    | v => k v

/-- An activation's own: its function, how many temporaries; the loop whose round it is. -/
structure Fr where
  fn : FuncId
  n : Nat
  ro : Option Nat

/-- A word on a number is taken, if it is of this operation; the flag: the value is to be forced. -/
def hintV {β : Type} (fr : Fr) (dst : Option Tmp) (v : LV) (pa : Path) (k : Bool → LV → Path → β) : β :=
  match pa.hs with
  | [] => k true v pa
  | .n f t i :: ps => match Nat.beq f fr.fn, dst with
    | true, some d => match Nat.beq t d, v with
      | true, .int kd m => k false (.int kd i) ⟨ps, boolAnd pa.as (m == i)⟩
      | _, _ => k true v pa
    | _, _ => k true v pa
  | .k f t :: ps => match Nat.beq f fr.fn, dst with
    | true, some d => match Nat.beq t d with
      | true => k false v ⟨ps, pa.as⟩
      | false => k true v pa
    | _, _ => k true v pa
  | _ => k true v pa

/-- fc: the value may have to be forced. -/
def tput {β : Type} (md : Bool) (bad : β) (fr : Fr) (fc : Bool) (tm : Tr LV) (dst : Option Tmp) (v : LV) (pa : Path) (k : Tr LV → Path → β) : β :=
  match dst with
  | none => k tm pa
  | some d => match Nat.blt d fr.n with
    | true => hintV fr dst v pa fun b v pa => match boolAnd fc b with
      | true => frc md v fun v => tm.setK v d fun tm => k tm pa
      | false => tm.setK v d fun tm => k tm pa
    | false => bad

/-- Is a guarded operation wanted? -/
def wants {β : Type} (bad : β) (ops : Array Oper) (o : Oper) (tm : Tr LV) (pa : Path) (k : Bool → Path → β) : β :=
  match o.guard with
  | none => k true pa
  | some (j, want) => match ops[j]? with
    | some oj => match oj.dst with
      | some d => match tget tm d with
        | .bool b => br (b == want) pa k
        | .tup [] => k false pa
        | _ => bad
      | none => bad
    | none => bad

section
variable (md : Bool) (callF : FuncId → List LV → LH → Path → CR) (roundF : Nat → List LV → LH → Path → CR)

/-- One operation: its value, the memory, handed on. -/
def opStep {β : Type} (bad : β) (tm : Tr LV) (o : Oper) (h : LH) (pa : Path) (k : LV → LH → Path → β) : β :=
  match evQ E (rho tm) o h pa with
  | .bad => bad
  | .val v h pa c => chk md bad c pa fun pa => k v h pa
  | .call f args c => chk md bad c pa fun pa => match callF f args h pa with
    | .bad => bad
    | .ret v h pa => k v h pa
  | .round l args c => chk md bad c pa fun pa => match roundF l args h pa with
    | .bad => bad
    | .ret v h pa => k v h pa

/-- Operations in their text's order. -/
noncomputable def evOps {β : Type} (bad : β) (fr : Fr) (all : Array Oper) (l : List Oper) : Tr LV → LH → Path → (Tr LV → LH → Path → β) → β :=
  List.rec (motive := fun _ => Tr LV → LH → Path → (Tr LV → LH → Path → β) → β) (fun tm h pa k => k tm h pa)
    (fun o _ ih tm h pa k => wants bad all o tm pa fun d pa => Bool.rec
      (tput md bad fr false tm o.dst undefL pa fun tm pa => ih tm h pa k)
      (opStep E md callF roundF bad tm o h pa fun v h pa => tput md bad fr (fcQ E o) tm o.dst v pa fun tm pa => ih tm h pa k) d) l
end

/-! ### operations whose order is open -/
inductive Cls where
  | pur | lod | alc | eff

/-- Of what kind an operation is: it reads no memory; it only reads; it lays a block; all else. -/
def clsOf (o : Op) : Cls :=
  match o with
  | .move _ | .assign _ | .pick .. | .build .. | .nilCheck _ | .unOp .. | .makeInterface .. | .makeFunc .. | .fieldAddr .. | .field .. | .indexAddr .. | .index .. | .typeAssert .. | .extract .. => .pur
  | .binOp op t _ _ _ => match op with
    | .eql | .neq => match E.P.underlying t with
      | some .bool | some (.int _) | some .string => .pur
      | _ => .lod
    | _ => .pur
  | .convert src dst _ => match E.P.underlying src, E.P.underlying dst with
    | some (.int _), some (.int _) => .pur
    | _, _ => .eff
  | .load .. | .lookup .. => .lod
  | .slice t _ _ _ _ => match E.P.underlying t with
    | some (.slice _) => .lod
    | _ => .pur
  | .alloc _ | .box .. | .buildSlice .. | .makeMap .. | .makeSlice .. => .alc
  | .call { callee := .builtin .len, argTypes, .. } => match argTypes.toList with
    | [t] => match E.P.underlying t with
      | some (.map _ _) => .lod
      | _ => .pur
    | _ => .eff
  | .call { callee := .builtin .min, .. } | .call { callee := .builtin .max, .. } => .pur
  | _ => .eff

/-- What an operation stands behind, as bits. -/
def maskOf (ms : List Nat) (o : Oper) : Nat :=
  o.after.toList.foldl (fun s e => match Region.binds .any e with
    | true => s ||| (2 ^ e.on) ||| (ms.getD e.on 0)
    | false => s) 0

def masks : List Oper → List Nat → List Nat
  | [], ms => ms
  | o :: l, ms => masks l (ms ++ [maskOf ms o])

/-- What is static of an operation whose order is open: its kind, what it stands behind, behind how many effects it stands at least and at most. -/
structure OI where
  cls : Cls
  mask : Nat
  lo : Nat
  hi : Nat

def isEff : Cls → Bool
  | .eff => true
  | _ => false

def zip3 : Nat → List Oper → List Nat → List (Nat × Oper × Nat)
  | i, o :: l, m :: ms => (i, o, m) :: zip3 (i + 1) l ms
  | _, _, _ => []

def infoOf (l : List (Nat × Oper × Nat)) : List (Oper × OI) :=
  l.map fun (i, o, m) =>
    let effs := l.filter fun (_, p, _) => isEff (clsOf E p.op)
    (o, ⟨clsOf E o.op, m, (effs.filter fun (j, _, _) => m.testBit j).length, (effs.filter fun (_, _, mj) => boolNot (mj.testBit i)).length⟩)

/-- The temporaries that an operation names. -/
def namesOf (ops : Array Oper) (o : Oper) : List Tmp := o.dst.toList ++ Oper.looksAt ops o

def meets (a b : List Tmp) : Bool := a.any fun t => b.contains t

/-- Effects stand one behind the other; whoever names what another one writes stands behind it, or ahead; edges lead back. -/
def drawOk (ops : Array Oper) : Bool :=
  let l := zip3 0 ops.toList (masks ops.toList [])
  (l.all fun (j, o, m) => o.after.toList.all (fun e => boolNot (Region.binds .any e) || Nat.blt e.on j) &&
    (match o.op with
      | .select .. => false
      | _ => true) &&
    l.all fun (i, p, _) => boolNot (Nat.blt i j) || m.testBit i ||
      (boolNot (isEff (clsOf E o.op) && isEff (clsOf E p.op)) &&
       boolNot (meets p.dst.toList (namesOf ops o)) && boolNot (meets o.dst.toList (namesOf ops p)))) &&
  (l.all fun (j, o, m) => match o.guard with
    | none => true
    | some (g, _) => m.testBit g && Nat.blt g j)

def drawInfo (ops : Array Oper) : List (Oper × OI) := infoOf E (zip3 0 ops.toList (masks ops.toList []))

mutual
def LV.beq : LV → LV → Bool
  | .bool a, .bool b => a == b
  | .int k a, .int k' b => kEq k k' && (a == b)
  | .str a, .str b => a == b
  | .ptr none, .ptr none => true
  | .ptr (some a), .ptr (some b) => Nat.beq a.b b.b && Nat.beq a.r b.r && Nat.beq a.st b.st && Nat.beq a.c b.c
  | .slice none l (.kn c), .slice none l' (.kn c') => Nat.beq l l' && Nat.beq c c'
  | .slice (some a) l c, .slice (some b) l' c' => Nat.beq a.b b.b && Nat.beq a.r b.r && Nat.beq a.st b.st && Nat.beq a.c b.c && Nat.beq l l' &&
    (match c, c' with
      | .kn c, .kn c' => Nat.beq c c'
      | .un c d, .un c' d' => Nat.beq c c' && Nat.beq d d'
      | _, _ => false)
  | .map none, .map none => true
  | .map (some a), .map (some b) => Nat.beq a b
  | .nilFn, .nilFn => true
  | .nilIface, .nilIface => true
  | .agg a, .agg b => LVs.beq a b
  | .tup a, .tup b => LVs.beq a b
  | _, _ => false
def LVs.beq : List LV → List LV → Bool
  | [], [] => true
  | a :: l, b :: m => LV.beq a b && LVs.beq l m
  | _, _ => false
end

/-- A block that is laid beside the chain of effects: whose operation, its number, what it holds. -/
abbrev Float := Nat × Nat × LO

def insAll {β : Type} (h : LH) : List Float → (LH → β) → β
  | [], k => k h
  | (_, id, o) :: fl, k => h.put id o fun h => insAll h fl k

def splitFl (m : Nat) (fl : List Float) : List Float × List Float := (fl.filter fun f => m.testBit f.1, fl.filter fun f => boolNot (m.testBit f.1))

/-- A reading to be made again. -/
structure Again where
  o : Oper
  tm : Tr LV
  v : LV
  lo : Nat
  hi : Nat

/-- Does a reading come to the same in all these memories? -/
def stable (a : Again) : List LH → Bool
  | [] => true
  | h :: hs => (match evQ E (rho a.tm) a.o h ⟨[], true⟩ with
    | .val v _ pa true => boolAnd pa.as (LV.beq a.v v)
    | _ => false) && stable a hs

def agains (hs : List LH) : List Again → Bool
  | [] => true
  | a :: l => stable E a ((hs.drop a.lo).take (a.hi + 1 - a.lo)) && agains hs l

section
variable (md : Bool) (callF : FuncId → List LV → LH → Path → CR) (roundF : Nat → List LV → LH → Path → CR)

/-- Operations in an open order: in their text's order, effects one behind the other; what may come earlier or later is seen to come to the same. hs: the memories behind 0, 1, .. effects, the last one first. -/
def evDraw {β : Type} (bad : β) (fr : Fr) (all : Array Oper) (l : List (Oper × OI)) (i : Nat) (tm : Tr LV) (h : LH) (fl : List Float) (hs : List LH) (ag : List Again) (pa : Path)
    (k : Tr LV → LH → Path → β) : β :=
  match l with
  | [] => match agains E hs.reverse ag with
    | true => insAll h fl fun h => k tm h pa
    | false => bad
  | (o, oi) :: rest => wants bad all o tm pa fun d pa => match d with
    | false => tput md bad fr false tm o.dst undefL pa fun tm pa => evDraw bad fr all rest (i + 1) tm h fl (match oi.cls with
      | .eff => h :: hs
      | _ => hs) ag pa k
    | true => match oi.cls with
      | .eff => match splitFl oi.mask fl with
        | (now, later) => insAll h now fun h => opStep E md callF roundF bad tm o h pa fun v h pa =>
            tput md bad fr (fcQ E o) tm o.dst v pa fun tm pa => evDraw bad fr all rest (i + 1) tm h later (h :: hs) ag pa k
      | .alc => match evQ E (rho tm) o ⟨.leaf, h.nx, h.ro⟩ pa with
        | .val v h' pa c => chk md bad c pa fun pa => match h'.bs.get h.nx, Nat.beq h'.nx (Nat.succ h.nx) with
          | some ob, true => tput md bad fr (fcQ E o) tm o.dst v pa fun tm pa => evDraw bad fr all rest (i + 1) tm ⟨h.bs, h'.nx, h.ro⟩ ((i, h.nx, ob) :: fl) hs ag pa k
          | _, _ => bad
        | _ => bad
      | .lod => match evQ E (rho tm) o h pa with
        | .val v _ pa c => chk md bad c pa fun pa => tput md bad fr (fcQ E o) tm o.dst v pa fun tm' pa => evDraw bad fr all rest (i + 1) tm' h fl hs (match Nat.blt oi.lo oi.hi with
          | true => ⟨o, tm, v, oi.lo, oi.hi⟩ :: ag
          | false => ag) pa k
        | _ => bad
      | .pur => match evQ E (rho tm) o ⟨.leaf, h.nx, h.ro⟩ pa with
        | .val v _ pa c => chk md bad c pa fun pa => tput md bad fr (fcQ E o) tm o.dst v pa fun tm pa => evDraw bad fr all rest (i + 1) tm h fl hs ag pa k
        | _ => bad
end

/-! ### code, calls, rounds -/
def resL (h : LH) (tm : Tr LV) : List ResultVar → Option (List LV)
  | [] => some []
  | .tmp t :: l => match resL h tm l with
    | some r => some (tget tm t :: r)
    | none => none
  | .cell a t :: l => match tget tm a with
    | .ptr (some la) => match loadL E t la h, resL h tm l with
      | some v, some r => some (v :: r)
      | _, _ => none
    | _ => none

def oneOrTup : List LV → LV
  | [v] => v
  | vs => .tup vs

def unmark {β : Type} (bad : β) : List Nat → LH → (LH → β) → β
  | [], h, k => k h
  | r :: rs, h, k => match h.bs.get r, Nat.ble h.ro r with
    | some (.defd false), true => h.put r (.defd true) fun h => unmark bad rs h k
    | _, _ => bad

def initTm : Nat → List LV → Tr LV → Tr LV
  | _, [], tm => tm
  | i, v :: vs, tm => tm.setK v i fun tm => initTm (Nat.succ i) vs tm

def parsOk (n : Nat) : List Tmp → Bool
  | [] => true
  | t :: ts => match Nat.blt t n with
    | true => parsOk n ts
    | false => false

def setParams : List Tmp → List LV → Tr LV → Tr LV
  | t :: ts, v :: vs, tm => tm.setK v t fun tm => setParams ts vs tm
  | _, _, tm => tm

abbrev Rec := Fr → Code → Tr LV → LH → List Nat → Path → Res

section
variable (md : Bool) (ih : Rec)

def callB (f : FuncId) (args : List LV) (h : LH) (pa : Path) : CR :=
  match E.sum f with
  | some s => match s args h pa with
    | .val v h pa c => chk md .bad c pa fun pa => .ret v h pa
    | _ => .bad
  | none => match E.P.funcs[f]? with
    | none => .bad
    | some fn => match fn.body with
      | none => .bad
      | some c => match ih ⟨f, args.length + (fn.ntmps - args.length), none⟩ c (initTm 0 args .leaf) h [] pa with
        | .bad => .bad
        | .mk ex tm h mks pa => match ex with
          | .exit _ => .bad
          | _ => unmark .bad mks h fun h => match resL E h tm fn.results.toList with
            | some vs => .ret (oneOrTup vs) h pa
            | none => .bad

def jumpOf : Ex → Option Code
  | .normal => none
  | .ret => some .ret
  | .exit id => some (.exit id)

def stOf : Ex → LoopState
  | .normal => .ready
  | _ => .done

def isNormal : Ex → Bool
  | .normal => true
  | _ => false

def roundB (l : Nat) (args : List LV) (h : LH) (pa : Path) : CR :=
  match h.bs.get l, Nat.ble h.ro l with
  | some (.loop .ready _ fn tm n params assign body _), true => match boolAnd (Nat.beq args.length params.size) (parsOk n params.toList) with
    | false => .bad
    | true => match ih ⟨fn, n, some l⟩ assign (setParams params.toList args tm) h [] pa with
      | .mk .normal tm h [] pa => match h.bs.get l with
        | some (.loop .ready pend fn' tm' n' ps' as' bo' df) => h.put l (.loop .busy pend fn' tm' n' ps' as' bo' df) fun h =>
          match ih ⟨fn, n, some l⟩ body tm h [] pa with
          | .mk ex _ h [] pa => match h.bs.get l with
            | some (.loop _ _ fn' tm' n' ps' as' bo' df) => h.put l (.loop (stOf ex) (jumpOf ex) fn' tm' n' ps' as' bo' df) fun h => .ret (.bool (isNormal ex)) h pa
            | _ => .bad
          | _ => .bad
        | _ => .bad
      | _ => .bad
  | _, _ => .bad

def rangeEnd (pend : Option Code) (tm : Tr LV) (h : LH) (mks : List Nat) (pa : Path) : Res :=
  match pend with
  | none => .mk .normal tm h mks pa
  | some .ret => .mk .ret tm h mks pa
  | some (.exit id) => .mk (.exit id) tm h mks pa
  | _ => .bad

def rangeB (fr : Fr) (f : Operand) (params : Array Tmp) (assign body : Code) (tm : Tr LV) (h : LH) (mks : List Nat) (pa : Path) : Res :=
  match fr.ro, rho tm f with
  | none, .fn (.func g) first caps => h.push (.defd false) fun r h => h.push (.loop .ready none fr.fn tm fr.n params assign body r) fun l h =>
    match callB E md ih g ((first ++ [.fn (.yield l) [] []]) ++ caps) h pa with
    | .bad => .bad
    | .ret _ h pa => match h.bs.get l, Nat.ble h.ro l with
      | some (.loop state pend fn' tm' n' ps' as' bo' df), true => match state with
        | .busy => .bad
        | _ => h.put l (.loop .exhausted pend fn' tm' n' ps' as' bo' df) fun h => rangeEnd pend tm h (r :: mks) pa
      | _, _ => .bad
  | _, _ => .bad

def cSeq (fr : Fr) (b : Code) : Res → Res
  | .bad => .bad
  | .mk ex tm h mks pa => match ex with
    | .normal => ih fr b tm h mks pa
    | ex => .mk ex tm h mks pa

def cCond (fr : Fr) (a b : Code) (t : LV) (tm : Tr LV) (h : LH) (mks : List Nat) (pa : Path) : Res :=
  match t with
  | .bool t => br t pa fun d pa => match d with
    | true => ih fr a tm h mks pa
    | false => ih fr b tm h mks pa
  | _ => .bad

def cBlock (id : Nat) : Res → Res
  | .bad => .bad
  | .mk ex tm h mks pa => match ex with
    | .exit j => match Nat.beq j id with
      | true => .mk .normal tm h mks pa
      | false => .mk (.exit j) tm h mks pa
    | ex => .mk ex tm h mks pa

def cRegion (fr : Fr) (ops : Array Oper) (draw : Bool) (tm : Tr LV) (h : LH) (mks : List Nat) (pa : Path) : Res :=
  match draw with
  | false => evOps E md (callB E md ih) (roundB ih) .bad fr ops ops.toList tm h pa fun tm h pa => .mk .normal tm h mks pa
  | true => match drawOk E ops with
    | true => evDraw E md (callB E md ih) (roundB ih) .bad fr ops (drawInfo E ops) 0 tm h [] [h] [] pa fun tm h pa => .mk .normal tm h mks pa
    | false => .bad

/-- Code, by what its parts come to. -/
def stepC (fr : Fr) (c : Code) (tm : Tr LV) (h : LH) (mks : List Nat) (pa : Path) : Res :=
  match c with
  | .skip => .mk .normal tm h mks pa
  | .region _ ops draw => cRegion E md ih fr ops draw tm h mks pa
  | .seq a b => cSeq ih fr b (ih fr a tm h mks pa)
  | .cond c a b => cCond ih fr a b (rho tm c) tm h mks pa
  | .block id c => cBlock id (ih fr c tm h mks pa)
  | .loop c => cSeq ih fr (.loop c) (ih fr c tm h mks pa)
  | .rangeFunc f params assign body => rangeB E md ih fr f params assign body tm h mks pa
  | .exit id => .mk (.exit id) tm h mks pa
  | .ret => .mk .ret tm h mks pa
  | _ => .bad
end

/-- Code at hand. -/
inductive CF where
  | mk (f : Rec → Fr → Tr LV → LH → List Nat → Path → Res)
def CF.ap : CF → Rec → Fr → Tr LV → LH → List Nat → Path → Res
  | .mk f => f
def codeF (md : Bool) (c : Code) : CF :=
  match c with
  | .skip => .mk fun _ _ tm h mks pa => .mk .normal tm h mks pa
  | .region _ ops draw => .mk fun ih fr tm h mks pa => cRegion E md ih fr ops draw tm h mks pa
  | .seq a b => .mk fun ih fr tm h mks pa => cSeq ih fr b (ih fr a tm h mks pa)
  | .cond c a b => .mk fun ih fr tm h mks pa => cCond ih fr a b (rho tm c) tm h mks pa
  | .block id c => .mk fun ih fr tm h mks pa => cBlock id (ih fr c tm h mks pa)
  | .loop c => .mk fun ih fr tm h mks pa => cSeq ih fr (.loop c) (ih fr c tm h mks pa)
  | .rangeFunc f params assign body => .mk fun ih fr tm h mks pa => rangeB E md ih fr f params assign body tm h mks pa
  | .exit id => .mk fun _ _ tm h mks pa => .mk (.exit id) tm h mks pa
  | .ret => .mk fun _ _ tm h mks pa => .mk .ret tm h mks pa
  | _ => .mk fun _ _ _ _ _ _ => .bad
/-- `stepC`, by what is at hand. -/
def stepQ (md : Bool) (ih : Rec) : Rec := fun fr c tm h mks pa => (codeF E md c).ap ih fr tm h mks pa

noncomputable def evC (md : Bool) (n : Nat) : Rec :=
  Nat.rec (motive := fun _ => Rec) (fun _ _ _ _ _ _ => .bad) (fun _ ih => stepQ E md ih) n

/-- A function's call. -/
def evF (md : Bool) (n : Nat) (f : FuncId) (args : List LV) (h : LH) (pa : Path) : CR := callB E md (evC E md n) f args h pa

end
end
end Go.Ev
