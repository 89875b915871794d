/- An abstract machine for the program's code: values, blocks, states, and what each operation makes of them. -/
import Derived.Calls
import Derived.OrdersHeld
import Derived.KernelRfl
namespace Go.Proofs.Ytaghkmaelbgljaa.VX

/-- The kinds of the cells of an element. -/
inductive CK where
  | int (k : IntKind) | bool | str | sl (t : TypeId)

inductive XD where
  | int (k : IntKind) | bool | str | ptr (e : TypeId) | slice (e : TypeId) | arr (n : Nat) (e : TypeId)
  | struct (fs : List (TypeId × Nat × Nat × Bool)) | other

inductive AV where
  | int (k : IntKind) (n : Int) | bool (b : Bool) | kb (b : Bool) | str (s : ByteArray)
  | nilp | ptr (id off : Nat) | elt (id i off : Nat) | rel (t : TypeId) (l : List (List AV)) (i off : Nat)
  | nils | sl (isnil : Bool) (t : TypeId) (l : List (List AV)) | own (id : Nat)
  | agg (l : List AV) | tup (l : List AV)
  | nili | iface (t : TypeId) (v : AV) | nilf | fn (f : FuncId) (first cap : List AV)
  | vw (id lo n : Nat) | em (isnil : Bool)
  | opt (ch : List (Nat × Bool)) (v : AV)
  | undef | dead
  deriving Inhabited

structure XI where
  desc : XD
  size : Nat
  bytes : Nat
  zero : List AV
  ck : Option (List CK)
  eq : Bool

abbrev Tab := List (TypeId × XI)

def Tab.get : Tab → TypeId → Option XI
  | [], _ => none
  | (s, x) :: r, t => bif Nat.beq s t then some x else Tab.get r t

inductive AB where
  | box (t : TypeId) (cells : List AV)
  | arr (wr : Bool) (t : TypeId) (isnil : Bool) (l : List (List AV))
  | gone

abbrev Hp := List (Nat × AB)
def getB : Hp → Nat → AB
  | [], _ => .gone
  | (s, v) :: r, t => bif Nat.beq s t then v else getB r t

structure St where
  env : List (Nat × AV)
  heap : Hp
  nx : Nat
  gs : List (Nat × Bool)
  kn : List (Nat × Bool)

def getE : List (Nat × AV) → Nat → AV
  | [], _ => .dead
  | (s, v) :: r, t => bif Nat.beq s t then v else getE r t

def nth {α : Type} : List α → Nat → Option α
  | [], _ => none
  | x :: _, 0 => some x
  | _ :: r, n + 1 => nth r n

def setN {α : Type} : List α → Nat → α → List α
  | [], _, _ => []
  | _ :: r, 0, y => y :: r
  | x :: r, n + 1, y => x :: setN r n y

def len {α : Type} : List α → Nat
  | [] => 0
  | _ :: r => len r + 1

def takeN {α : Type} : Nat → List α → List α
  | 0, _ => []
  | _, [] => []
  | n + 1, x :: r => x :: takeN n r

def dropN {α : Type} : Nat → List α → List α
  | 0, l => l
  | _, [] => []
  | n + 1, _ :: r => dropN n r

/-- 'new' laid over 'old' from place n on. -/
def splice {α : Type} : List α → Nat → List α → List α
  | old, _, [] => old
  | [], _, _ => []
  | x :: r, n + 1, new => x :: splice r n new
  | _ :: r, 0, y :: new => y :: splice r 0 new

/-- The same in the strict form: the list is built before it is handed on. -/
def spliceK {α : Type} : List α → Nat → List α → (List α → Prop) → Prop
  | old, _, [], k => k old
  | [], _, _, k => k []
  | x :: r, n + 1, new, k => spliceK r n new fun l => k (x :: l)
  | _ :: r, 0, y :: new, k => spliceK r 0 new fun l => k (y :: l)
def takeK {α : Type} : Nat → List α → (List α → Prop) → Prop
  | 0, _, k => k []
  | _, [], k => k []
  | n + 1, x :: r, k => takeK n r fun l => k (x :: l)
def dropK {α : Type} : Nat → List α → (List α → Prop) → Prop
  | 0, l, k => k l
  | _, [], k => k []
  | n + 1, _ :: r, k => dropK n r k
def subK {α : Type} (off n : Nat) (l : List α) (k : List α → Prop) : Prop := dropK off l fun r => takeK n r k
def appK {α : Type} : List α → List α → (List α → Prop) → Prop
  | [], b, k => k b
  | x :: r, b, k => appK r b fun l => k (x :: l)

def AV.toInt : AV → Int | .int _ n => n | _ => 0
def AV.toBool : AV → Bool | .bool b => b | .kb b => b | _ => false
def AV.toStr : AV → ByteArray | .str s => s | _ => .empty
def AV.toNil : AV → Bool | .sl b _ _ => b | _ => true
def AV.toRows : AV → List (List AV) | .sl _ _ l => l | _ => []
def mkc (c : CK) (x : AV) : AV :=
  match c with
  | .int k => .int k x.toInt
  | .bool => .bool x.toBool
  | .str => .str x.toStr
  | .sl t => .sl x.toNil t x.toRows
def cellOf (l : List (List AV)) (i j : Nat) : AV := (l.getD i []).getD j .dead
/-- The cells off, off + 1, .. of element i, as values of their kinds. -/
def mkCells (l : List (List AV)) (i : Nat) : Nat → List CK → List AV
  | _, [] => []
  | j, c :: r => mkc c (cellOf l i j) :: mkCells l i (j + 1) r

def mkCellsK (l : List (List AV)) (i : Nat) : Nat → List CK → (List AV → Prop) → Prop
  | _, [], k => k []
  | j, c :: r, k => mkCellsK l i (j + 1) r fun xs => k (mkc c (cellOf l i j) :: xs)

/-- A constant. -/
def ofC : Value → AV
  | .int k n => .int k n
  | .bool b => .kb b
  | .string s => .str s
  | .pointer none => .nilp
  | .slice none 0 0 => .nils
  | .nilIface => .nili
  | .nilFunc => .nilf
  | _ => .dead
def ofV : Value → AV
  | .agg cs => .agg (cs.toList.map ofC)
  | v => ofC v

def inCh : List (Nat × Bool) → Nat → Bool → Bool
  | [], _, _ => false
  | (i, v) :: r, j, w => (Nat.beq i j && (bif v then w else !w)) || inCh r j w
def subCh (ch : List (Nat × Bool)) : List (Nat × Bool) → Bool
  | [] => true
  | (j, w) :: r => inCh ch j w && subCh ch r
def strip (ch : List (Nat × Bool)) (v : AV) : AV :=
  match v with
  | .opt ch' w => bif subCh ch ch' then w else .dead
  | v => v

def gsGet : List (Nat × Bool) → Nat → Option Bool
  | [], _ => none
  | (i, b) :: r, j => bif Nat.beq i j then some b else gsGet r j
/-- The guards of a chain hold. -/
def chProp (gs : List (Nat × Bool)) : List (Nat × Bool) → Prop
  | [] => True
  | (j, w) :: r => (match gsGet gs j with | some b => b = w | none => False) ∧ chProp gs r

def opd (env : List (Nat × AV)) (ch : List (Nat × Bool)) : Operand → AV
  | .tmp t => strip ch (getE env t)
  | .const v => ofV v
  | .global _ => .dead
  | .func f => .fn f [] []





























structure XNeed (c : Prop) (X : Prop) : Prop where
  c : c
  x : X
structure XSplit (b : Bool) (X Y : Prop) : Prop where
  t : b = true → X
  f : b = false → Y

def eqCell : CK → AV → AV → Option Bool
  | .int k, .int k1 a, .int k2 b => if k1 = k then if k2 = k then some (a == b) else none else none
  | .bool, .bool a, .bool b => some (a == b)
  | .bool, .kb a, .bool b => some (a == b)
  | .bool, .bool a, .kb b => some (a == b)
  | .bool, .kb a, .kb b => some (a == b)
  | .str, .str a, .str b => some (a.toList == b.toList)
  | _, _, _ => none
def eqCells : List CK → List AV → List AV → Option Bool
  | [], [], [] => some true
  | c :: cs, x :: xs, y :: ys => match eqCell c x y with
    | some a => match cs with
      | [] => match xs, ys with | [], [] => some a | _, _ => none
      | cs => match eqCells cs xs ys with
        | some b => some (a && b)
        | none => none
    | none => none
  | _, _, _ => none
def isNilV (h : Hp) (x : AV) : Option Bool :=
  match x with
  | .nils => some true
  | .em b => some b
  | .sl b _ _ => some b
  | .own id => match getB h id with | .arr _ _ b _ => some b | _ => none
  | _ => none
/-- The nilness of a pointer. -/
def isNilP (x : AV) : Option Bool :=
  match x with
  | .nilp => some true
  | .ptr _ _ => some false
  | _ => none
def eqV (T : Tab) (h : Hp) (t : TypeId) (x y : AV) : Option Bool :=
  match T.get t with
  | none => none
  | some xi => match xi.desc with
    | .bool => eqCell .bool x y
    | .str => eqCell .str x y
    | .struct _ => bif xi.eq then match xi.ck, x, y with | some ck, .agg xs, .agg ys => eqCells ck xs ys | _, _, _ => none else none
    | .slice _ => match x, y with
      | .nils, y => isNilV h y
      | x, .nils => isNilV h x
      | _, _ => none
    | .ptr _ => match x, y with
      | .nilp, y => isNilP y
      | x, .nilp => isNilP x
      | _, _ => none
    | _ => none

def ibits (op : BinOp) (k : IntKind) (x y : Int) : Int :=
  match op with
  | .and => k.wrap (BitVec.ofInt k.bits x &&& BitVec.ofInt k.bits y).toNat
  | .or => k.wrap (BitVec.ofInt k.bits x ||| BitVec.ofInt k.bits y).toNat
  | .xor => k.wrap (BitVec.ofInt k.bits x ^^^ BitVec.ofInt k.bits y).toNat
  | _ => k.wrap (BitVec.ofInt k.bits x &&& ~~~(BitVec.ofInt k.bits y)).toNat

/-- The same value, known by its head. -/
def forceK (v : AV) (K : AV → Prop) : Prop :=
  match v with
  | .int k n => K (.int k n)
  | .bool b => K (.bool b)
  | .kb b => K (.kb b)
  | .str s => K (.str s)
  | .nilp => K .nilp
  | .ptr a b => K (.ptr a b)
  | .elt a b c => K (.elt a b c)
  | .rel a b c d => K (.rel a b c d)
  | .nils => K .nils
  | .sl a b c => K (.sl a b c)
  | .own a => K (.own a)
  | .agg l => K (.agg l)
  | .tup l => K (.tup l)
  | .nili => K .nili
  | .iface a b => K (.iface a b)
  | .nilf => K .nilf
  | .fn a b c => K (.fn a b c)
  | .vw a b c => K (.vw a b c)
  | .em a => K (.em a)
  | .opt a b => K (.opt a b)
  | .undef => K .undef
  | .dead => K .dead
/-- nd: how a condition is asked. -/
abbrev Nd := Prop → Prop → Prop

def xint (nd : Nd) (op : BinOp) (k : IntKind) (a b : Int) (K : AV → Prop) : Prop :=
  match op with
  | .add => K (.int k (k.wrap (a + b)))
  | .sub => K (.int k (k.wrap (a - b)))
  | .mul => K (.int k (k.wrap (a * b)))
  | .quo => nd (b ≠ 0) (K (.int k (k.wrap (a.tdiv b))))
  | .rem => nd (b ≠ 0) (K (.int k (a.tmod b)))
  | .eql => K (.bool (a == b))
  | .neq => K (.bool (a != b))
  | .lss => K (.bool (decide (a < b)))
  | .leq => K (.bool (decide (a ≤ b)))
  | .gtr => K (.bool (decide (b < a)))
  | .geq => K (.bool (decide (b ≤ a)))
  | .and => K (.int k (ibits .and k a b))
  | .or => K (.int k (ibits .or k a b))
  | .xor => K (.int k (ibits .xor k a b))
  | .andNot => K (.int k (ibits .andNot k a b))
  | _ => False

def xbin (T : Tab) (nd : Nd) (h : Hp) (op : BinOp) (t : TypeId) (x y : AV) (K : AV → Prop) : Prop :=
  match x, y with
  | .int k a, .int k' b =>
    match op with
    | .shl => nd (0 ≤ b) (K (.int k (k.wrap (a * 2 ^ (min b.toNat k.bits)))))
    | .shr => nd (0 ≤ b) (K (.int k (a.fdiv (2 ^ (min b.toNat k.bits)))))
    | op => if k = k' then xint nd op k a b K else False
  | x, y =>
    match op with
    | .eql => match eqV T h t x y with | some b => K (.bool b) | none => False
    | .neq => match eqV T h t x y with | some b => K (.bool (!b)) | none => False
    | _ => False

def okV : AV → Bool
  | .opt _ _ => false
  | .undef => false
  | .dead => false
  | _ => true
def okA : AV → Bool
  | .opt _ _ => false
  | .undef => false
  | .dead => false
  | .tup _ => false
  | .iface _ _ => false
  | _ => true
def isArr : AB → Bool
  | .arr _ _ _ _ => true
  | _ => false
def storable (h : Hp) : AV → Bool
  | .opt _ _ => false
  | .undef => false
  | .dead => false
  | .tup _ => false
  | .agg _ => false
  | .iface _ _ => false
  | .own id => isArr (getB h id)
  | .vw id _ _ => isArr (getB h id)
  | .elt id _ _ => isArr (getB h id)
  | _ => true
def okCells (h : Hp) : List AV → Bool
  | [] => true
  | x :: r => storable h x && okCells h r

def xpickB (b : Bool) (x y : AV) (K : AV → Prop) : Prop :=
  match x, y with
  | .kb true, .bool y => K (.bool (b || y))
  | .kb true, .kb false => K (.bool b)
  | .bool x, .kb false => K (.bool (b && x))
  | .kb false, .bool y => K (.bool (!b && y))
  | .bool x, .kb true => K (.bool (!b || x))
  | .bool x, .bool y => K (.bool (bif b then x else y))
  | .kb true, .kb true => K (.kb true)
  | .kb false, .kb false => K (.kb false)
  | .kb false, .kb true => K (.bool (!b))
  | .int k n, .int k' m => if k = k' then K (.int k (bif b then n else m)) else False
  | _, _ => False
def xpick (j : Nat) (ch : List (Nat × Bool)) (c x y : AV) (K : AV → Prop) : Prop :=
  match c with
  | .kb true => forceK (strip ch x) fun v => bif okV v then K v else False
  | .kb false => forceK (strip ch y) fun v => bif okV v then K v else False
  | .bool b => xpickB b (strip ((j, true) :: ch) x) (strip ((j, false) :: ch) y) K
  | _ => False

def AV.cells : AV → List AV
  | .agg l => l
  | v => [v]
def XD.isAgg : XD → Bool
  | .struct _ => true
  | .arr _ _ => true
  | _ => false
def ckOf (T : Tab) (t : TypeId) : Option (List CK) := match T.get t with | some xi => xi.ck | none => none
def elemOf (T : Tab) (t : TypeId) : Option TypeId := match T.get t with | some xi => (match xi.desc with | .slice e => some e | _ => none) | none => none
def bytesOf (T : Tab) (t : TypeId) : Nat := match T.get t with | some xi => xi.bytes | none => 0
def sizeOf' (T : Tab) (t : TypeId) : Nat := match T.get t with | some xi => xi.size | none => 0

/-- A part of cells, as a value of a type. -/
def xpart (xi : XI) (cs : List AV) (off : Nat) (K : AV → Prop) : Prop :=
  bif xi.desc.isAgg then
    bif Nat.ble (off + xi.size) (len cs) then subK off xi.size cs fun l => K (.agg l) else False
  else match nth cs off with | some v => forceK v K | none => False
def xpartRow (xi : XI) (ck : List CK) (l : List (List AV)) (i off : Nat) (K : AV → Prop) : Prop :=
  bif xi.desc.isAgg then
    bif Nat.ble (off + xi.size) (len ck) then subK off xi.size ck fun c => mkCellsK l i off c fun cs => K (.agg cs) else False
  else match nth ck off with | some c => forceK (mkc c (cellOf l i off)) K | none => False

def xload (T : Tab) (h : Hp) (t : TypeId) (a : AV) (K : AV → Prop) : Prop :=
  match T.get t with
  | none => False
  | some xi =>
    match a with
    | .ptr id off =>
      match getB h id with
      | .box _ cs => xpart xi cs off K
      | _ => False
    | .elt id i off =>
      match getB h id with
      | .arr _ e _ l => match ckOf T e with
        | some ck => xpartRow xi ck l i off K
        | none => False
      | _ => False
    | .rel e l i off => match ckOf T e with
      | some ck => xpartRow xi ck l i off K
      | none => False
    | _ => False

def xfieldAddr (T : Tab) (h : Hp) (s : TypeId) (a : AV) (f : Nat) (K : AV → Prop) : Prop :=
  match T.get s with
  | some xi => match xi.desc with
    | .struct fs => match nth fs f with
      | some (_, off, size, _) =>
        bif Nat.beq size 0 then False else
        match a with
        | .ptr id o => K (.ptr id (o + off))
        | .elt id i o => match getB h id with | .arr _ _ _ _ => K (.elt id i (o + off)) | _ => False
        | .rel e l i o => K (.rel e l i (o + off))
        | _ => False
      | none => False
    | _ => False
  | none => False

def xfield (T : Tab) (s : TypeId) (x : AV) (f : Nat) (K : AV → Prop) : Prop :=
  match T.get s with
  | some xi => match x with
    | .agg cs => match xi.desc with
      | .struct fs => match nth fs f with
        | some (t, off, _, _) => match T.get t with
          | some ti => xpart ti cs off K
          | none => False
        | none => False
      | _ => False
    | _ => False
  | none => False

/-- A slice as a list: its nilness, its element's type, its elements. -/
def rowsOf (h : Hp) (x : AV) : Option (Bool × TypeId × List (List AV)) :=
  match x with
  | .own id => match getB h id with | .arr _ t b l => some (b, t, l) | _ => none
  | .vw id lo n => match getB h id with | .arr _ t b l => some (b, t, (l.drop lo).take n) | _ => none
  | .sl b t l => some (b, t, l)
  | _ => none

/-- Is it a slice of these elements? -/
def isSl (T : Tab) (t e : TypeId) : Bool :=
  match elemOf T t, ckOf T e with | some e', some _ => Nat.beq e e' | _, _ => false
def xindexAddr (T : Tab) (nd : Nd) (h : Hp) (t : TypeId) (x i : AV) (K : AV → Prop) : Prop :=
  match i with
  | .int _ n =>
    match x with
    | .own id => match getB h id with
      | .arr _ e _ l => bif isSl T t e then nd (0 ≤ n ∧ n < l.length) (K (.elt id n.toNat 0)) else False
      | _ => False
    | .vw id lo m => match getB h id with
      | .arr _ e _ _ => bif isSl T t e then nd (0 ≤ n ∧ n < m) (K (.elt id (lo + n.toNat) 0)) else False
      | _ => False
    | .sl _ e l => bif isSl T t e then nd (0 ≤ n ∧ n < l.length) (K (.rel e l n.toNat 0)) else False
    | .ptr id off => match T.get t with
      | some xi => match xi.desc with
        | .arr m e => match T.get e with
          | some ei => nd (0 ≤ n ∧ n < m) (K (.ptr id (off + n.toNat * ei.size)))
          | none => False
        | _ => False
      | none => False
    | _ => False
  | _ => False

def byteAt (s : ByteArray) (i : Nat) : Int := ((s.data.toList.getD i 0).toNat : Int)
def xindex (T : Tab) (nd : Nd) (t : TypeId) (x i : AV) (K : AV → Prop) : Prop :=
  match T.get t with
  | some xi => match i with
    | .int _ n => match xi.desc with
      | .str => match x with
        | .str s => nd (0 ≤ n ∧ n < s.size) (K (.int .u8 (byteAt s n.toNat)))
        | _ => False
      | .arr m e => match x with
        | .agg cs => match T.get e with
          | some ei => nd (0 ≤ n ∧ n < m) (xpart ei cs (n.toNat * ei.size) K)
          | none => False
        | _ => False
      | _ => False
    | _ => False
  | none => False

def lenOf' (h : Hp) (x : AV) : Option Int :=
  match x with
  | .own id => match getB h id with | .arr _ _ _ l => some l.length | _ => none
  | .vw id _ n => match getB h id with | .arr _ _ _ _ => some n | _ => none
  | .sl _ _ l => some l.length
  | .nils => some 0
  | .em _ => some 0
  | .str s => some s.size
  | _ => none
def isSlice (T : Tab) (t : TypeId) : Bool :=
  match elemOf T t with | some e => (match ckOf T e with | some _ => true | none => false) | none => false
def isStr (T : Tab) (t : TypeId) : Bool :=
  match T.get t with | some xi => (match xi.desc with | .str => true | _ => false) | none => false
/-- Has the value the type's form? -/
def fitsT (T : Tab) (t : TypeId) (x : AV) : Bool :=
  match x with
  | .str _ => isStr T t
  | _ => isSlice T t
def xcut (T : Tab) (nd : Nd) (h : Hp) (t : TypeId) (x : AV) (a b : Int) (K : AV → Prop) : Prop :=
  match x with
  | .own id => match getB h id with
    | .arr _ e _ l => bif isSl T t e then nd (0 ≤ a ∧ a ≤ b ∧ b ≤ l.length) (K (.vw id a.toNat (b - a).toNat)) else False
    | _ => False
  | .vw id l0 n => match getB h id with
    | .arr _ e _ _ => bif isSl T t e then nd (0 ≤ a ∧ a ≤ b ∧ b ≤ n) (K (.vw id (l0 + a.toNat) (b - a).toNat)) else False
    | _ => False
  | .sl nb e l => bif isSl T t e then nd (0 ≤ a ∧ a ≤ b ∧ b ≤ l.length) (K (.sl nb e ((l.drop a.toNat).take (b - a).toNat))) else False
  | .str s => bif isStr T t then nd (0 ≤ a ∧ a ≤ b ∧ b ≤ s.size) (K (.str (s.extract a.toNat b.toNat))) else False
  | _ => False
def isZero : AV → Bool
  | .int _ (.ofNat 0) => true
  | _ => false
def xslice (T : Tab) (nd : Nd) (h : Hp) (t : TypeId) (x : AV) (lo hi mx : Option AV) (K : AV → Prop) : Prop :=
  match mx with
  | some m => match lo, hi with
    | none, some z => bif isZero m && isZero z && isSlice T t then match isNilV h x with
      | some b => K (.em b)
      | none => False
      else False
    | _, _ => False
  | none => match lo, hi with
    | none, none => match lenOf' h x with | some b => xcut T nd h t x 0 b K | none => False
    | none, some (.int _ b) => xcut T nd h t x 0 b K
    | some (.int _ a), none => match lenOf' h x with | some b => xcut T nd h t x a b K | none => False
    | some (.int _ a), some (.int _ b) => xcut T nd h t x a b K
    | _, _ => False

def imin (isMax : Bool) (a b : Int) : Int := bif isMax then (if b > a then b else a) else (if b < a then b else a)
def xminA (isMax : Bool) (k : IntKind) (a : Int) : List AV → (AV → Prop) → Prop
  | [], K => K (.int k a)
  | .int k' b :: r, K => if k = k' then xminA isMax k (imin isMax a b) r K else False
  | _, _ => False
def xmin (isMax : Bool) (l : List AV) (K : AV → Prop) : Prop :=
  match l with
  | .int k a :: r => xminA isMax k a r K
  | _ => False

def xfill (h : Hp) (place : Nat → Option (Nat × Nat)) (cells : List AV) : List (Nat × AV) → (List AV → Prop) → Prop
  | [], K => K cells
  | (i, v) :: r, K => match place i with
    | none => False
    | some (off, size) => bif okV v && okCells h v.cells && Nat.beq (len v.cells) size && Nat.ble (off + size) (len cells) then spliceK cells off v.cells fun cs => xfill h place cs r K else False

def mapK {α : Type} (f : α → AV) : List α → (List AV → Prop) → Prop
  | [], K => K []
  | x :: r, K => forceK (f x) fun y => mapK f r fun l => K (y :: l)
def mapK2 (f : Operand → AV) : List (Nat × Operand) → (List (Nat × AV) → Prop) → Prop
  | [], K => K []
  | (i, x) :: r, K => forceK (f x) fun y => mapK2 f r fun l => K ((i, y) :: l)

def xbuild (T : Tab) (h : Hp) (t : TypeId) (parts : List (Nat × AV)) (K : AV → Prop) : Prop :=
  match T.get t with
  | some xi => match xi.desc with
    | .struct fs => xfill h (fun i => match nth fs i with | some (_, off, size, _) => some (off, size) | none => none) xi.zero parts fun cs => K (.agg cs)
    | .arr _ e => match T.get e with | some ei => xfill h (fun i => some (i * ei.size, ei.size)) xi.zero parts fun cs => K (.agg cs) | none => False
    | _ => False
  | none => False

def xconv (T : Tab) (src dst : TypeId) (x : AV) (K : AV → Prop) : Prop :=
  match T.get src, T.get dst with
  | some _, some xi => match xi.desc, x with
    | .int k, .int _ n => K (.int k (k.wrap n))
    | .str, .str s => K (.str s)
    | _, _ => False
  | _, _ => False

def xun (op : UnOp) (x : AV) (K : AV → Prop) : Prop :=
  match op, x with
  | .neg, .int k n => K (.int k (k.wrap (0 - n)))
  | .not, .bool b => K (.bool (!b))
  | .not, .kb b => K (.kb (!b))
  | .xor, .int k n => K (.int k (ibits .xor k (if k.signed then -1 else k.max) n))
  | _, _ => False

/-- The operations that only compute and read. -/
def xquiet (T : Tab) (nd : Nd) (whose : Nat → Nat) (h : Hp) (ch : List (Nat × Bool)) (ρ ρraw : Operand → AV) (op : Op) (K : AV → Prop) : Prop :=
  match op with
  | .move x => forceK (ρ x) fun v => bif okV v then K v else False
  | .assign x => forceK (ρ x) fun v => bif okV v then K v else False
  | .pick c a b => match c with
    | .tmp t => xpick (whose t) ch (ρ c) (ρraw a) (ρraw b) K
    | _ => False
  | .load t a => xload T h t (ρ a) K
  | .nilCheck x => match ρ x with
    | .ptr a b => K (.ptr a b)
    | .elt a b c => match getB h a with | .arr _ _ _ _ => K (.elt a b c) | _ => False
    | .rel a b c d => K (.rel a b c d)
    | .fn a b c => K (.fn a b c)
    | _ => False
  | .binOp op t x y _ => xbin T nd h op t (ρ x) (ρ y) K
  | .unOp op _ x => xun op (ρ x) K
  | .convert src dst x => xconv T src dst (ρ x) K
  | .fieldAddr s x f => xfieldAddr T h s (ρ x) f K
  | .field s x f => xfield T s (ρ x) f K
  | .indexAddr t x i => xindexAddr T nd h t (ρ x) (ρ i) K
  | .index t x i => xindex T nd t (ρ x) (ρ i) K
  | .slice t x lo hi mx => xslice T nd h t (ρ x) (match lo with | some o => some (ρ o) | none => none) (match hi with | some o => some (ρ o) | none => none) (match mx with | some o => some (ρ o) | none => none) K
  | .build t parts => mapK2 ρ parts.toList fun ps => xbuild T h t ps K
  | .extract x i => match ρ x with | .tup l => (match nth l i with | some v => forceK v K | none => False) | _ => False
  | .makeInterface t x => match T.get t with
    | some xi => match xi.desc with
      | .other => False
      | _ => forceK (ρ x) fun v => bif okA v then K (.iface t v) else False
    | none => False
  | .call c => match c.callee with
    | .builtin .len => match c.args.toList, c.argTypes.toList with
      | [x], t :: _ => bif fitsT T t (ρ x) then (match lenOf' h (ρ x) with | some n => K (.int .i64 n) | none => False) else False
      | _, _ => False
    | .builtin .min => mapK ρ c.args.toList fun l => xmin false l K
    | .builtin .max => mapK ρ c.args.toList fun l => xmin true l K
    | _ => False
  | _ => False

/-- Is it one of those? (A conversion of a string into bytes is not.) -/
def isQuiet (T : Tab) : Op → Bool
  | .move _ | .assign _ | .pick .. | .load .. | .nilCheck _ | .binOp .. | .unOp .. | .fieldAddr .. | .field .. | .indexAddr .. | .index .. | .slice .. | .build .. | .extract .. | .makeInterface .. => true
  | .convert _ dst _ => match T.get dst with | some xi => (match xi.desc with | .slice _ => false | _ => true) | none => false
  | .call c => match c.callee with | .builtin .len => true | .builtin .min => true | .builtin .max => true | _ => false
  | _ => false

/-! ### Effects -/
def lendC : AV → List Nat
  | .own id => [id]
  | .vw id _ _ => [id]
  | .elt id _ _ => [id]
  | _ => []
def lendL : List AV → List Nat
  | [] => []
  | x :: r => lendC x ++ lendL r
def lend : AV → List Nat
  | .agg l => lendL l
  | v => lendC v
def lendAll : List AV → List Nat
  | [] => []
  | x :: r => lend x ++ lendAll r
/-- From here on nobody writes to these. -/
def freeze (h : Hp) : List Nat → Hp
  | [] => h
  | id :: r => match getB h id with
    | .arr _ t b l => freeze ((id, .arr false t b l) :: h) r
    | _ => freeze h r

def freezeK (h : Hp) : List Nat → (Hp → Prop) → Prop
  | [], K => K h
  | id :: r, K => match getB h id with
    | .arr _ t b l => freezeK ((id, .arr false t b l) :: h) r K
    | _ => freezeK h r K

/-- A value as the cell of an element, by its kind. -/
def fitC (h : Hp) (c : CK) (v : AV) : Option AV :=
  match c, v with
  | .int k, .int k' n => if k = k' then some (.int k n) else none
  | .bool, .bool b => some (.bool b)
  | .bool, .kb b => some (.bool b)
  | .str, .str s => some (.str s)
  | .sl t, .nils => some (.sl true t [])
  | .sl t, .em b => some (.sl b t [])
  | .sl t, v => match rowsOf h v with
    | some (b, t', l) => bif Nat.beq t t' then some (.sl b t l) else none
    | none => none
  | _, _ => none
def fitCs (h : Hp) : List CK → List AV → (List AV → Prop) → Prop
  | [], [], K => K []
  | c :: cs, v :: vs, K => match fitC h c v with
    | some x => fitCs h cs vs fun l => K (x :: l)
    | none => False
  | _, _, _ => False

def zeroCk : CK → AV
  | .int k => .int k 0
  | .bool => .bool false
  | .str => .str .empty
  | .sl t => .sl true t []
def rep {α : Type} : Nat → α → List α
  | 0, _ => []
  | n + 1, x => x :: rep n x
def cellsK (v : AV) (K : AV → List AV → Prop) : Prop :=
  forceK v fun v => match v with
    | .agg l => K (.agg l) l
    | v => K v [v]
/-- Elements of a literal, at their places. -/
def placeRows (h : Hp) (ck : List CK) (n : Nat) (rows : List (List AV)) : List (Nat × AV) → (List (List AV) → Prop) → Prop
  | [], K => K rows
  | (i, v) :: r, K => cellsK v fun _ vcs => bif okCells h vcs && Nat.blt i n then fitCs h ck vcs fun cs => spliceK rows i [cs] fun rows' => placeRows h ck n rows' r K else False
def avsOf : List (Nat × AV) → List AV
  | [] => []
  | (_, v) :: r => v :: avsOf r

def xstore (T : Tab) (t : TypeId) (a v : AV) (env : List (Nat × AV)) (h : Hp) (nx : Nat) (k : AV → List (Nat × AV) → Hp → Nat → Prop) : Prop :=
  match T.get t with
  | none => False
  | some xi =>
  cellsK v fun v vcs => bif okV v && okCells h vcs && Nat.beq (len vcs) xi.size then
    match a with
    | .ptr id off => match getB h id with
      | .box bt cs => bif Nat.ble (off + xi.size) (len cs) then spliceK cs off vcs fun cs' => k .undef env ((id, .box bt cs') :: h) nx else False
      | _ => False
    | .elt id i off => freezeK h (lend v) fun h1 => match getB h1 id with
      | .arr true e b l => match ckOf T e with
        | some ck => bif Nat.ble (off + xi.size) (len ck) then
            subK off xi.size ck fun ck' => fitCs h1 ck' vcs fun cs =>
            (bif Nat.beq off 0 && Nat.beq xi.size (len ck) then k .undef env ((id, .arr true e b (l.set i cs)) :: h1) nx
              else mkCellsK l i 0 ck fun old => spliceK old off cs fun cs' => k .undef env ((id, .arr true e b (l.set i cs')) :: h1) nx)
          else False
        | none => False
      | _ => False
    | _ => False
  else False

/-- What an append appends. -/
def newRows (T : Tab) (e : TypeId) (h : Hp) (x : AV) : Option (List (List AV)) :=
  match x with
  | .nils => some []
  | .em _ => some []
  | .str s => match ckOf T e with
    | some [.int .u8] => some (s.data.toList.map fun b => [.int .u8 b.toNat])
    | _ => none
  | x => match rowsOf h x with
    | some (_, t, l) => bif Nat.beq t e then some l else none
    | none => none

def xappend (T : Tab) (st' tx : TypeId) (s x : AV) (env : List (Nat × AV)) (h : Hp) (nx : Nat) (k : AV → List (Nat × AV) → Hp → Nat → Prop) : Prop :=
  bif fitsT T tx x then
  match elemOf T st' with
  | some e => match newRows T e h x with
    | some news =>
      match ckOf T e with
      | none => False
      | some _ =>
        match s with
        | .nils => XNeed (news.length * bytesOf T e ≤ 70368744177664) (k (.own nx) env ((nx, .arr true e news.isEmpty news) :: h) (nx + 1))
        | .em b => XNeed (news.length * bytesOf T e ≤ 70368744177664) (k (.own nx) env ((nx, .arr true e (b && news.isEmpty) news) :: h) (nx + 1))
        | .own id => match getB h id with
          | .arr true e' b l => bif Nat.beq e e' then
              XNeed ((l.length + news.length) * bytesOf T e ≤ 70368744177664) (k (.own nx) env ((nx, .arr true e (b && news.isEmpty) (l ++ news)) :: (id, .gone) :: h) (nx + 1))
            else False
          | _ => False
        | .vw id 0 n => match getB h id with
          | .arr true e' b l => bif Nat.beq e e' then
              XNeed ((n + news.length) * bytesOf T e ≤ 70368744177664) (k (.own nx) env ((nx, .arr true e (b && news.isEmpty) (l.take n ++ news)) :: (id, .gone) :: h) (nx + 1))
            else False
          | _ => False
        | _ => False
    | none => False
  | none => False
  else False

/-! calls: pointers to boxes are handed on with their boxes, slices by what they hold -/
def argC (h : Hp) (v : AV) : AV :=
  match v with
  | .own _ => match rowsOf h v with | some (b, t, l) => .sl b t l | none => .dead
  | .vw _ _ _ => match rowsOf h v with | some (b, t, l) => .sl b t l | none => .dead
  | .opt _ _ => .dead
  | .undef => .dead
  | .elt _ _ _ => .dead
  | v => v
/-- The same, where nothing but data is handed on. -/
def argC1 (h : Hp) (v : AV) : AV :=
  match v with
  | .ptr _ _ => .dead
  | .fn f [] [] => .fn f [] []
  | .fn _ _ _ => .dead
  | v => argC h v
def argV1 (h : Hp) (v : AV) (K : AV → Prop) : Prop :=
  match v with
  | .agg l => mapK (argC1 h) l fun l' => K (.agg l')
  | .tup _ => K .dead
  | .iface _ _ => K .dead
  | v => forceK (argC1 h v) K
def argVs1 (h : Hp) : List AV → (List AV → Prop) → Prop
  | [], K => K []
  | v :: r, K => argV1 h v fun x => argVs1 h r fun l => K (x :: l)
def argV (h : Hp) (σ : AV → AV) (v : AV) (K : AV → Prop) : Prop :=
  match v with
  | .agg l => mapK (fun x => σ (argC h x)) l fun l' => K (.agg l')
  | v => forceK (σ (argC h v)) K
def argVs (h : Hp) (σ : AV → AV) : List AV → (List AV → Prop) → Prop
  | [], K => K []
  | v :: r, K => argV h σ v fun x => argVs h σ r fun l => K (x :: l)
def hasSlC : AV → Bool
  | .sl _ _ _ => true
  | .rel _ _ _ _ => true
  | .iface _ _ => true
  | .fn _ _ _ => true
  | _ => false
def hasSlL : List AV → Bool
  | [] => false
  | x :: r => hasSlC x || hasSlL r
def hasSlA : AV → Bool
  | .agg l => hasSlL l
  | v => hasSlC v
def hasSlAL : List AV → Bool
  | [] => false
  | x :: r => hasSlA x || hasSlAL r
def hasSl : AV → Bool
  | .tup l => hasSlAL l
  | v => hasSlA v

def mem (l : List Nat) (n : Nat) : Bool := match l with | [] => false | x :: r => Nat.beq x n || mem r n
/-- The boxes (and what these own) that a list of cells reaches. -/
def reach (h : Hp) : Nat → List AV → List Nat → List Nat
  | 0, _, acc => acc
  | _ + 1, [], acc => acc
  | f + 1, v :: r, acc => match v with
    | .ptr id _ => bif mem acc id then reach h f r acc else match getB h id with
      | .box _ cs => reach h f (cs ++ r) (acc ++ [id])
      | _ => reach h f r (acc ++ [id])
    | .own id => bif mem acc id then reach h f r acc else reach h f r (acc ++ [id])
    | .fn _ a b => reach h f (a ++ b ++ r) acc
    | _ => reach h f r acc
def ptrsC : AV → List AV
  | .ptr a b => [.ptr a b]
  | .fn f a b => [.fn f a b]
  | _ => []
def ptrsL : List AV → List AV
  | [] => []
  | x :: r => ptrsC x ++ ptrsL r
def ptrs : List AV → List AV
  | [] => []
  | .agg l :: r => ptrsL l ++ ptrs r
  | v :: r => ptrsC v ++ ptrs r
def idx (l : List Nat) (n : Nat) : Nat := match l with | [] => 0 | x :: r => bif Nat.beq x n then 0 else idx r n + 1
def renF (σ : Nat → Nat) : AV → AV
  | .ptr a b => .ptr (σ a) b
  | .own a => .own (σ a)
  | v => v
def renC (σ : Nat → Nat) : AV → AV
  | .ptr a b => .ptr (σ a) b
  | .own a => .own (σ a)
  | .vw a b c => .vw (σ a) b c
  | .elt a b c => .elt (σ a) b c
  | .fn f a b => .fn f (a.map (renF σ)) (b.map (renF σ))
  | v => v
def renA (σ : Nat → Nat) (v : AV) (K : AV → Prop) : Prop :=
  match v with
  | .agg l => mapK (renC σ) l fun l' => K (.agg l')
  | v => forceK (renC σ v) K
def renAL (σ : Nat → Nat) : List AV → (List AV → Prop) → Prop
  | [], K => K []
  | v :: r, K => renA σ v fun x => renAL σ r fun l => K (x :: l)
def renV (σ : Nat → Nat) (v : AV) (K : AV → Prop) : Prop :=
  match v with
  | .tup l => renAL σ l fun l' => K (.tup l')
  | v => renA σ v K
def renB (σ : Nat → Nat) (b : AB) (K : AB → Prop) : Prop :=
  match b with
  | .box t cs => mapK (renC σ) cs fun l => K (.box t l)
  | b => K b
def subHeap (h : Hp) (σ : Nat → Nat) : List Nat → (List AB → Prop) → Prop
  | [], K => K []
  | id :: r, K => renB σ (getB h id) fun b => subHeap h σ r fun l => K (b :: l)
/-- The callee's blocks laid back: the first at the ids handed on, the others as new ones. -/
def layBack (σ : Nat → Nat) : List Nat → List AB → Hp → Nat → (Hp → Nat → Prop) → Prop
  | id :: ids, b :: bs, h, nx, K => renB σ b fun b' => layBack σ ids bs ((id, b') :: h) nx K
  | [], b :: bs, h, nx, K => renB σ b fun b' => layBack σ [] bs ((nx, b') :: h) (nx + 1) K
  | _, [], h, nx, K => K h nx

def ckSl : List CK → Bool
  | [] => false
  | .sl _ :: _ => true
  | _ :: r => ckSl r
def hasSlB (T : Tab) : AB → Bool
  | .box _ cs => hasSlL cs
  | .arr wr t _ _ => !wr || (match ckOf T t with | some ck => ckSl ck | none => true)
  | .gone => false
def hasSlBs (T : Tab) : List AB → Bool
  | [] => false
  | b :: r => hasSlB T b || hasSlBs T r
abbrev CallR := FuncId → List AV → List AB → (AV → List AB → Prop) → Prop

def okVs : List AV → Bool
  | [] => true
  | x :: r => okV x && okVs r
def xcall (T : Tab) (call : CallR) (f : FuncId) (args : List AV) (env : List (Nat × AV)) (h : Hp) (nx : Nat) (k : AV → List (Nat × AV) → Hp → Nat → Prop) : Prop :=
  bif okVs args then
    match reach h 64 (ptrs args) [] with
    | [] => argVs1 h args fun args' => call f args' [] fun r h' =>
        match hasSl r || hasSlBs T h' with
        | true => freezeK h (lendAll args) fun h1 => layBack (fun n => nx + n) [] h' h1 nx fun hp nx' => renV (fun n => nx + n) r fun r' => k r' env hp nx'
        | false => layBack (fun n => nx + n) [] h' h nx fun hp nx' => renV (fun n => nx + n) r fun r' => k r' env hp nx'
    | _ => False
  else False

def xeff (T : Tab) (call : CallR) (ρ : Operand → AV) (op : Op) (env : List (Nat × AV)) (h : Hp) (nx : Nat) (k : AV → List (Nat × AV) → Hp → Nat → Prop) : Prop :=
  match op with
  | .alloc t => match T.get t with
    | some xi => k (.ptr nx 0) env ((nx, .box t xi.zero) :: h) (nx + 1)
    | none => False
  | .box t x => match T.get t with
    | some xi => cellsK (ρ x) fun v cs => bif okV v && okCells h cs && Nat.beq (len cs) xi.size then k (.ptr nx 0) env ((nx, .box t cs) :: h) (nx + 1) else False
    | none => False
  | .buildSlice t n parts => match elemOf T t with
    | some e => match ckOf T e with
      | some ck => bif Nat.ble (n * len ck) 65536 then
        mapK2 ρ parts.toList fun ps => freezeK h (lendAll (avsOf ps)) fun h1 => placeRows h1 ck n (rep n (ck.map zeroCk)) ps fun rows =>
          k (.own nx) env ((nx, .arr true e false rows) :: h1) (nx + 1)
        else False
      | none => False
    | none => False
  | .store t a x => xstore T t (ρ a) (ρ x) env h nx k
  | .makeSlice t n c => match elemOf T t with
    | some e => match ρ n, ρ c with
      | .int _ n, .int _ c => match ckOf T e with
        | some ck => XNeed (0 ≤ n ∧ n ≤ c ∧ c * bytesOf T e ≤ 140737488355328 ∧ c ≤ 9223372036854775807) (k (.own nx) env ((nx, .arr true e false (List.replicate n.toNat (ck.map zeroCk))) :: h) (nx + 1))
        | none => False
      | _, _ => False
    | none => False
  | .call c => match c.callee with
    | .builtin .append => match c.args.toList, c.argTypes.toList with
      | [s, x], [t, tx] => forceK (ρ x) fun vx => xappend T t tx (ρ s) vx env h nx k
      | _, _ => False
    | .value g => match ρ g with
      | .fn f first cap => mapK ρ c.args.toList fun as => appK as cap fun l => appK first l fun l' => xcall T call f l' env h nx k
      | _ => False
    | _ => False
  | _ => False

/-! ### Regions and code -/
def dstOf (all : List Oper) (j : Nat) : Option Nat := match nth all j with | some o => o.dst | none => none

def stripKn (kn : List (Nat × Bool)) (v : AV) : AV :=
  match v with
  | .opt ch w => bif subCh kn ch then w else .opt ch w
  | v => v
inductive GV where
  | run (ch : List (Nat × Bool)) (gs : List (Nat × Bool))
  | skip | bad
/-- No operation of the list writes the temporary. -/
def noDst : List Oper → Nat → Bool
  | [], _ => true
  | o :: r, t => (match o.dst with | some d => !(Nat.beq d t) | none => true) && noDst r t
def guardOf (all l : List Oper) (o : Oper) (env : List (Nat × AV)) (gs kn : List (Nat × Bool)) : GV :=
  match o.guard with
  | none => .run [] gs
  | some (j, w) => match dstOf all j with
    | none => .bad
    | some d => match stripKn kn (getE env d) with
      | .kb b => bif (bif b then w else !w) then .run [] gs else .skip
      | .undef => .skip
      | .bool b => bif noDst l d then .run [(j, w)] ((j, b) :: gs) else .bad
      | .opt ch (.bool b) => bif noDst l d then .run ((j, w) :: ch) ((j, b) :: gs) else .bad
      | .opt ch (.kb b) => bif (bif b then w else !w) then .run ch gs else .skip
      | _ => .bad
def whoseIn : List Oper → Nat → Nat → Nat
  | [], n, _ => n
  | o :: r, n, t => match o.dst with
    | some d => bif Nat.beq d t then n else whoseIn r (n + 1) t
    | none => whoseIn r (n + 1) t

/-- The temporaries of the guards of a chain become undefined. -/
def undefs (all : List Oper) (j : Nat) (w : Bool) : List (Nat × Bool) → List (Nat × AV) → (List (Nat × AV) → Prop) → Prop
  | [], env, K => K env
  | (i, _) :: r, env, K => match dstOf all i with
    | some d => match getE env d with
      | .opt ch _ => bif inCh ch j w then undefs all j w r ((d, .undef) :: env) K else False
      | _ => False
    | none => False
/-- Decide the guards of a chain, the outermost first. -/
def xsplit (all : List Oper) (run skip : List (Nat × AV) → List (Nat × Bool) → Prop) : List (Nat × Bool) → List (Nat × AV) → List (Nat × Bool) → Prop
  | [], env, kn => run env kn
  | (j, w) :: r, env, kn => match dstOf all j with
    | some d => match stripKn kn (getE env d) with
      | .bool b =>
        bif w then XSplit b (xsplit all run skip r ((d, .kb true) :: env) ((j, true) :: kn)) (undefs all j true r env fun env' => skip ((d, .kb false) :: env') kn)
        else XSplit b (undefs all j false r env fun env' => skip ((d, .kb true) :: env') kn) (xsplit all run skip r ((d, .kb false) :: env) ((j, false) :: kn))
      | _ => False
    | none => False

/-- An operand as it stands. -/
def opr (env : List (Nat × AV)) : Operand → AV
  | .tmp t => getE env t
  | .const v => ofV v
  | .global _ => .dead
  | .func f => .fn f [] []
def putE (env : List (Nat × AV)) (d : Option Nat) (v : AV) : List (Nat × AV) :=
  match d with
  | some d => (d, v) :: env
  | none => env
def putK (env : List (Nat × AV)) (d : Option Nat) (v : AV) (K : List (Nat × AV) → Prop) : Prop :=
  match d with
  | some d => K ((d, v) :: env)
  | none => K env

def ndOf (gs ch : List (Nat × Bool)) : Nd :=
  match ch with
  | [] => XNeed
  | ch => fun c X => XNeed (chProp gs ch → c) X
def optOf (ch : List (Nat × Bool)) (v : AV) : AV :=
  match ch with
  | [] => v
  | ch => .opt ch v

def xops (T : Tab) (call : CallR) (all : List Oper) : List Oper → List (Nat × AV) → Hp → Nat → List (Nat × Bool) → List (Nat × Bool) → (St → Prop) → Prop
  | [], env, h, nx, gs, kn, k => k ⟨env, h, nx, gs, kn⟩
  | o :: r, env, h, nx, gs, kn, k => match guardOf all (o :: r) o env gs kn with
    | .bad => False
    | .skip => putK env o.dst .undef fun env' => xops T call all r env' h nx gs kn k
    | .run ch gs' =>
      match isQuiet T o.op, ch with
      | true, [] => xquiet T XNeed (whoseIn all 0) h kn (opd env kn) (opr env) o.op fun v => putK env o.dst v fun env' => xops T call all r env' h nx gs' kn k
      | true, ch => xquiet T (ndOf gs' ch) (whoseIn all 0) h (ch ++ kn) (opd env (ch ++ kn)) (opr env) o.op fun v => putK env o.dst (.opt ch v) fun env' => xops T call all r env' h nx gs' kn k
      | false, [] => xeff T call (opd env kn) o.op env h nx fun v env1 h' nx' => putK env1 o.dst v fun env' => xops T call all r env' h' nx' gs' kn k
      | false, ch => xsplit all (fun env kn => xeff T call (opd env kn) o.op env h nx fun v env1 h' nx' => putK env1 o.dst v fun env' => xops T call all r env' h' nx' gs' kn k)
          (fun env kn => putK env o.dst .undef fun env' => xops T call all r env' h nx gs' kn k) ch.reverse env kn

def pickAll (ops : List Oper) : List Nat → (List Oper → Prop) → Prop
  | [], K => K []
  | i :: r, K => match nth ops i with | some o => pickAll ops r fun l => K (o :: l) | none => False

def isOpt : AV → Bool
  | .opt _ _ => true
  | _ => false
def clrK : List (Nat × AV) → (List (Nat × AV) → Prop) → Prop
  | [], K => K []
  | (t, v) :: r, K => match isOpt v with
    | true => clrK r fun l => K ((t, .dead) :: l)
    | false => clrK r fun l => K ((t, v) :: l)
/-- The order serves for all: each operation may come up where it is taken, is quiet, and those that could come before it are apart from it. -/
def drawChk (T : Tab) (ops : Array Oper) : List Nat → Array Bool → Bool
  | [], listed => match Region.ready .any ops listed with | [] => true | _ => false
  | i :: r, listed => (Region.ready .any ops listed).contains i && Region.free .any ops listed i && (match nth ops.toList i with | some o => isQuiet T o.op | none => false) && drawChk T ops r (listed.setIfInBounds i true)
def drawOK (T : Tab) (ops : Array Oper) (order : List Nat) : Bool :=
  Region.noSelect ops && Nat.beq order.length ops.size && drawChk T ops order (Array.replicate ops.size false)
/-- The same with operations that have effects: each of them alone where it is taken. -/
def drawChkD (T : Tab) (ops : Array Oper) : List Nat → Array Bool → Bool
  | [], listed => match Region.ready .any ops listed with | [] => true | _ => false
  | i :: r, listed => (match nth ops.toList i with
      | some o => bif isQuiet T o.op then (Region.ready .any ops listed).contains i && Region.free .any ops listed i else (match Region.ready .any ops listed with | [j] => Nat.beq i j | _ => false)
      | none => false) && drawChkD T ops r (listed.setIfInBounds i true)
def drawOKD (T : Tab) (ops : Array Oper) (order : List Nat) : Bool :=
  Region.noSelect ops && Nat.beq order.length ops.size && drawChkD T ops order (Array.replicate ops.size false)
def memN : List Nat → Nat → Bool
  | [], _ => false
  | i :: r, j => Nat.beq i j || memN r j
/-- The blocks without those that are written. -/
def era (Wr : List Nat) : Hp → (Hp → Prop) → Prop
  | [], K => K []
  | (id, b) :: r, K => match memN Wr id with
    | true => era Wr r K
    | false => era Wr r fun h => K ((id, b) :: h)
/-- The written ones are boxes. -/
def boxes (h : Hp) : List Nat → Bool
  | [] => true
  | i :: r => (match getB h i with | .box _ _ => true | _ => false) && boxes h r
def xeffD (T : Tab) (call : CallR) (Wr : List Nat) (ρ : Operand → AV) (op : Op) (env : List (Nat × AV)) (h : Hp) (nx : Nat) (k : AV → List (Nat × AV) → Hp → Nat → Prop) : Prop :=
  match op with
  | .store t p v => match ρ p with
    | .ptr id _ => bif memN Wr id then xeff T call ρ (.store t p v) env h nx k else False
    | _ => False
  | .call c => match c.callee with
    | .value _ => xeff T call ρ (.call c) env h nx k
    | _ => False
  | _ => False
def xopsD (T : Tab) (call : CallR) (Wr : List Nat) (all : List Oper) : List Oper → List (Nat × AV) → Hp → Nat → List (Nat × Bool) → List (Nat × Bool) → (St → Prop) → Prop
  | [], env, h, nx, gs, kn, k => k ⟨env, h, nx, gs, kn⟩
  | o :: r, env, h, nx, gs, kn, k => bif boxes h Wr then match guardOf all (o :: r) o env gs kn with
    | .bad => False
    | .skip => putK env o.dst .undef fun env' => xopsD T call Wr all r env' h nx gs kn k
    | .run ch gs' =>
      match isQuiet T o.op, ch with
      | true, [] => era Wr h fun hq => xquiet T XNeed (whoseIn all 0) hq kn (opd env kn) (opr env) o.op fun v => putK env o.dst v fun env' => xopsD T call Wr all r env' h nx gs' kn k
      | true, ch => era Wr h fun hq => xquiet T (ndOf gs' ch) (whoseIn all 0) hq (ch ++ kn) (opd env (ch ++ kn)) (opr env) o.op fun v => putK env o.dst (.opt ch v) fun env' => xopsD T call Wr all r env' h nx gs' kn k
      | false, [] => xeffD T call Wr (opd env kn) o.op env h nx fun v env1 h' nx' => putK env1 o.dst v fun env' => xopsD T call Wr all r env' h' nx' gs' kn k
      | false, ch => xsplit all (fun env kn => xeffD T call Wr (opd env kn) o.op env h nx fun v env1 h' nx' => putK env1 o.dst v fun env' => xopsD T call Wr all r env' h' nx' gs' kn k)
          (fun env kn => putK env o.dst .undef fun env' => xopsD T call Wr all r env' h nx gs' kn k) ch.reverse env kn
    else False
/-- A region that draws its order, taken in an order that serves for all. -/
structure XDraw (T : Tab) (ops : Array Oper) (next nextD : List Nat → Prop) : Prop where
  ex : (∃ order : List Nat, drawOK T ops order = true ∧ next order) ∨ (∃ order : List Nat, drawOKD T ops order = true ∧ nextD order)
theorem XDraw.q {T : Tab} {ops : Array Oper} {next nextD : List Nat → Prop} (order : List Nat) (h : drawOK T ops order = true) (h' : next order) : XDraw T ops next nextD := ⟨.inl ⟨order, h, h'⟩⟩
theorem XDraw.d {T : Tab} {ops : Array Oper} {next nextD : List Nat → Prop} (order : List Nat) (h : drawOKD T ops order = true) (h' : nextD order) : XDraw T ops next nextD := ⟨.inr ⟨order, h, h'⟩⟩
/-- The blocks that a region's stores write, as far as they can be seen at its start. -/
def wrK (env : List (Nat × AV)) : List Oper → (List Nat → Prop) → Prop
  | [], K => K []
  | o :: r, K => match o.op with
    | .store _ (.tmp t) _ => match getE env t with
      | .ptr id _ => wrK env r fun l => match memN l id with
        | true => K l
        | false => K (id :: l)
      | _ => wrK env r K
    | _ => wrK env r K
theorem wrK_eq {env : List (Nat × AV)} : ∀ {l : List Oper} {K : List Nat → Prop}, wrK env l K → ∃ Wr, K Wr
  | [], _, h => ⟨_, h⟩
  | o :: r, K, h => by
    unfold wrK at h
    split at h
    · split at h
      · obtain ⟨l, h⟩ := wrK_eq h
        split at h <;> exact ⟨_, h⟩
      · exact wrK_eq h
    · exact wrK_eq h

abbrev LoopR := Code → St → (Exit → St → Prop) → Prop

def xregion (T : Tab) (call : CallR) (ops : Array Oper) (draw : Bool) (env : List (Nat × AV)) (h : Hp) (nx : Nat) (k : St → Prop) : Prop :=
  match draw with
  | true => XDraw T ops (fun order => pickAll ops.toList order fun l => xops T call ops.toList l env h nx [] [] k) (fun order => wrK env ops.toList fun Wr => pickAll ops.toList order fun l => xopsD T call Wr ops.toList l env h nx [] [] k)
  | false => xops T call ops.toList ops.toList env h nx [] [] k

/-- The end of a region: what was guarded is forgotten. -/
def endR (st : St) (k : St → Prop) : Prop :=
  match st with
  | ⟨env, h, nx, [], []⟩ => k ⟨env, h, nx, [], []⟩
  | ⟨env, h, nx, _, _⟩ => clrK env fun env' => k ⟨env', h, nx, [], []⟩
/-- kn: where the code ends; ke: where it is left. -/
def xcode (T : Tab) (call : CallR) (loop : LoopR) : Code → St → (St → Prop) → (Exit → St → Prop) → Prop
  | .skip, st, kn, _ => kn st
  | .region _ ops draw, ⟨env, h, nx, _, _⟩, kn, _ => xregion T call ops draw env h nx fun st => endR st kn
  | .seq a b, st, kn, ke => xcode T call loop a st (fun st' => xcode T call loop b st' kn ke) ke
  | .cond c a b, ⟨env, h, nx, gs, kn'⟩, kn, ke => match opd env [] c with
    | .kb true => xcode T call loop a ⟨env, h, nx, gs, kn'⟩ kn ke
    | .kb false => xcode T call loop b ⟨env, h, nx, gs, kn'⟩ kn ke
    | .bool x => XSplit x (xcode T call loop a ⟨env, h, nx, gs, kn'⟩ kn ke) (xcode T call loop b ⟨env, h, nx, gs, kn'⟩ kn ke)
    | _ => False
  | .block id b, st, kn, ke => xcode T call loop b st kn fun e st' => match e with
    | .exit i => bif Nat.beq i id then kn st' else ke (.exit i) st'
    | e => ke e st'
  | .loop b, st, _, ke => loop b st ke
  | .exit id, st, _, ke => ke (.exit id) st
  | .label _, st, kn, _ => kn st
  | .ret, st, _, ke => ke .ret st
  | _, _, _, _ => False

/-- The results at the end of a body. -/
def xres (T : Tab) (env : List (Nat × AV)) (h : Hp) : List ResultVar → (List AV → Prop) → Prop
  | [], K => K []
  | .tmp t :: rs, K => forceK (getE env t) fun v => bif okV v then xres T env h rs fun l => K (v :: l) else False
  | .cell a t :: rs, K => xload T h t (getE env a) fun v => xres T env h rs fun l => K (v :: l)
def xret (T : Tab) (rs : List ResultVar) (st : St) (R : AV → St → Prop) : Prop :=
  match st with
  | ⟨env, h, nx, gs, kn⟩ => xres T env h rs fun l => match l with
    | [v] => R v ⟨env, h, nx, gs, kn⟩
    | l => R (.tup l) ⟨env, h, nx, gs, kn⟩
end Go.Proofs.Ytaghkmaelbgljaa.VX
