/-
  An abstract machine for the model's programs: values with abstract blocks in the place of addresses, a heap in which nothing hangs on the tape.
  Here: its definitions alone. No condition; nothing is proved here.
-/
import Derived.Calls
import GoSem.Extern.BytealgCompare
import Derived.Recover
import Derived.Laws.Externs
namespace Go.Am

/-- What is known of a slice's capacity: the number itself; so many as the block has room for (elements of `esz` cells); nothing. -/
inductive Cap where
  | exact (c : Nat)
  | room (esz : Nat)
  | unk
  deriving DecidableEq

/-- An abstract value. -/
inductive AV where
  | top
  | atom (v : Value)
  | ptr (b off : Nat)
  | slice (b off len : Nat) (cap : Cap)
  | mapr (b : Nat)
  | fn (f : Fn) (first captured : List AV)
  | iface (t : TypeId) (v : AV)
  | agg (l : List AV)
  | tuple (l : List AV)

instance : Inhabited AV := ⟨.top⟩

def AV.bool (b : Bool) : AV := .atom (.bool b)
def AV.int (k : IntKind) (n : Int) : AV := .atom (.int k n)
def AV.str (s : ByteArray) : AV := .atom (.string s)

/-- A value of the model's without addresses that matter, as an abstract one. -/
def lift : Value → AV
  | .agg cs => .agg (cs.toList.map .atom)
  | .tuple vs => .tuple (vs.toList.map .atom)
  | v => .atom v

def AV.cells : AV → List AV
  | .agg l => l
  | v => [v]

def isOne : Value → Bool
  | .agg _ | .tuple _ => false
  | _ => true

/-- Is it known how many cells the value takes? -/
def AV.plain : AV → Bool
  | .top => false
  | .atom v => isOne v
  | _ => true

/-- May the value lie in one cell? -/
def AV.one : AV → Bool
  | .top | .agg _ | .tuple _ => false
  | .atom v => isOne v
  | _ => true

def sameVal : Value → Value → Bool
  | .bool a, .bool b => a == b
  | .int k a, .int k' b => k == k' && a == b
  | .string a, .string b => decide (a = b)
  | .slice none a b, .slice none c d => a == c && b == d
  | .pointer none, .pointer none => true
  | .nilIface, .nilIface => true
  | .nilFunc, .nilFunc => true
  | .map none, .map none => true
  | _, _ => false

mutual
def AV.beq : AV → AV → Bool
  | .atom v, .atom w => sameVal v w
  | .ptr b o, .ptr b' o' => b == b' && o == o'
  | .slice b o l c, .slice b' o' l' c' => b == b' && o == o' && l == l' && decide (c = c')
  | .iface t v, .iface t' v' => t == t' && AV.beq v v'
  | .agg l, .agg l' => AV.beqs l l'
  | .tuple l, .tuple l' => AV.beqs l l'
  | .fn f a b, .fn f' a' b' => decide (f = f') && AV.beqs a a' && AV.beqs b b'
  | _, _ => false
def AV.beqs : List AV → List AV → Bool
  | [], [] => true
  | a :: l, b :: m => AV.beq a b && AV.beqs l m
  | _, _ => false
end

/-- A block: its cells, its elements' type; may it be written; does a string share its cells; does it lie at its row's head? -/
structure Blk where
  cells : List AV
  elem : TypeId
  own : Bool
  fz : Bool := false
  head : Bool := false

/-- A tree of what is kept under numbers. -/
inductive Tr (α : Type) where
  | leaf
  | node (v : Option α) (l r : Tr α)

noncomputable def Tr.get {α : Type} (t : Tr α) : Nat → Option α :=
  Tr.rec (motive := fun _ => Nat → Option α) (fun _ => none)
    (fun v _ _ il ir k => cond (Nat.beq k 0) v (cond (Nat.beq (Nat.mod k 2) 1) (il (Nat.div k 2)) (ir (Nat.pred (Nat.div k 2))))) t
theorem Tr.get_leaf {α : Type} (k : Nat) : (Tr.leaf : Tr α).get k = none := rfl
theorem Tr.get_node {α : Type} (v : Option α) (l r : Tr α) (k : Nat) :
    (Tr.node v l r).get k = cond (Nat.beq k 0) v (cond (Nat.beq (Nat.mod k 2) 1) (l.get (Nat.div k 2)) (r.get (Nat.pred (Nat.div k 2)))) := rfl

/-- one step of a change -/
def Tr.step {α : Type} (ih : Tr α → Nat → Tr α) (x : Option α) (k : Nat) (v : Option α) (l r : Tr α) : Tr α :=
  cond (Nat.beq k 0) (.node x l r) (cond (Nat.beq (Nat.mod k 2) 1) (.node v (ih l (Nat.div k 2)) r) (.node v l (ih r (Nat.pred (Nat.div k 2)))))

/-- 'd': so many levels at the most. -/
noncomputable def Tr.put {α : Type} (d : Nat) (t : Tr α) (k : Nat) (x : Option α) : Tr α :=
  Nat.rec (motive := fun _ => Tr α → Nat → Tr α) (fun t _ => t)
    (fun _ ih t k => Tr.rec (motive := fun _ => Tr α) (Tr.step ih x k none .leaf .leaf) (fun v l r _ _ => Tr.step ih x k v l r) t) d t k
theorem Tr.put_zero {α : Type} (t : Tr α) (k : Nat) (x : Option α) : Tr.put 0 t k x = t := rfl
theorem Tr.put_leaf {α : Type} (d k : Nat) (x : Option α) : Tr.put (d + 1) .leaf k x = Tr.step (fun t k => Tr.put d t k x) x k none .leaf .leaf := rfl
theorem Tr.put_node {α : Type} (d k : Nat) (x v : Option α) (l r : Tr α) : Tr.put (d + 1) (.node v l r) k x = Tr.step (fun t k => Tr.put d t k x) x k v l r := rfl

/-- The heap: the next block's number, the blocks. -/
structure AH where
  next : Nat
  m : Tr Blk

noncomputable def AH.get (H : AH) (b : Nat) : Option Blk := H.m.get b
noncomputable def AH.put (H : AH) (b : Nat) (x : Option Blk) : AH := { H with m := H.m.put (b + 1) b x }
noncomputable def AH.push (H : AH) (x : Blk) : AH := { next := H.next + 1, m := H.m.put (H.next + 1) H.next (some x) }

def consO (a : AV) : Option (List AV) → Option (List AV)
  | some l => some (a :: l)
  | none => none

/-- the i-th -/
noncomputable def nthA (l : List AV) : Nat → Option AV :=
  List.rec (motive := fun _ => Nat → Option AV) (fun _ => none) (fun a _ ih i => cond (Nat.beq i 0) (some a) (ih (Nat.pred i))) l
/-- the first n; fewer: none -/
noncomputable def takeA (l : List AV) : Nat → Option (List AV) :=
  List.rec (motive := fun _ => Nat → Option (List AV)) (fun n => cond (Nat.beq n 0) (some []) none) (fun a _ ih n => cond (Nat.beq n 0) (some []) (consO a (ih (Nat.pred n)))) l
/-- n from off on; fewer: none -/
noncomputable def cutA (l : List AV) : Nat → Nat → Option (List AV) :=
  List.rec (motive := fun _ => Nat → Nat → Option (List AV)) (fun off n => cond (Nat.beq off 0) (cond (Nat.beq n 0) (some []) none) none)
    (fun a t ih off n => cond (Nat.beq off 0) (takeA (a :: t) n) (ih (Nat.pred off) n)) l
/-- written over from the head on -/
noncomputable def overA (vs : List AV) : List AV → Option (List AV) :=
  List.rec (motive := fun _ => List AV → Option (List AV)) (fun l => some l)
    (fun v _ ih l => List.rec (motive := fun _ => Option (List AV)) none (fun _ t _ => consO v (ih t)) l) vs
/-- written over from off on -/
noncomputable def layA (vs l : List AV) : Nat → Option (List AV) :=
  List.rec (motive := fun _ => Nat → Option (List AV)) (fun off => cond (Nat.beq off 0) (overA vs []) none)
    (fun a t ih off => cond (Nat.beq off 0) (overA vs (a :: t)) (consO a (ih (Nat.pred off)))) l

/-- Cells of a block. -/
noncomputable def AH.read (H : AH) (b off n : Nat) : Option (List AV) :=
  match H.get b with
  | some B => cutA B.cells off n
  | none => none
noncomputable def AH.readOne (H : AH) (b off : Nat) : Option AV :=
  match H.get b with
  | some B => nthA B.cells off
  | none => none

def overlay (l : List AV) (off : Nat) (vs : List AV) : List AV := l.take off ++ vs ++ l.drop (off + vs.length)

noncomputable def AH.wrote (H : AH) (b : Nat) (B : Blk) : Option (List AV) → Option AH
  | some l => some (H.put b (some { cells := l, elem := B.elem, own := B.own, fz := B.fz, head := B.head }))
  | none => none

/-- Cells written. -/
noncomputable def AH.write (H : AH) (b off : Nat) (vs : List AV) : Option AH :=
  match H.get b with
  | some B => cond (B.own && (!B.fz && vs.all AV.one)) (H.wrote b B (layA vs B.cells off)) none
  | none => none

/-- A frame: its slots (so many); is it a round's; calls put off. -/
structure Frm where
  n : Nat
  rd : Bool
  tmps : Tr AV
  defers : List (FuncId × List AV)

noncomputable def Frm.slot (f : Frm) (t : Nat) : AV :=
  match f.tmps.get t with
  | some v => v
  | none => .atom undef

noncomputable def Frm.eval (f : Frm) (P : Program) : Operand → AV
  | .tmp t => f.slot t
  | .const v => lift v
  | .global g => cond (Nat.blt g P.globals.size) (.ptr g 0) .top
  | .func g => .fn (.func g) [] []

noncomputable def Frm.put (f : Frm) (dst : Option Tmp) (v : AV) : Frm :=
  match dst with
  | some d => cond (Nat.blt d f.n) { f with tmps := f.tmps.put (d + 1) d (some v) } f
  | none => f

/-- What an operation comes to. -/
inductive ONext where
  | value (v : AV) (H : AH)
  | skip (H : AH)
  | enter (f : FuncId) (args : List AV) (H : AH)
  | yield (k : Nat) (args : List AV) (H : AH)
  | defer (f : FuncId) (args : List AV) (H : AH)
  | panic (v : AV) (H : AH)

def isAggT (P : Program) (t : TypeId) : Option Bool :=
  match P.underlying t with
  | some (.struct _) | some (.array _ _) => some true
  | some _ => some false
  | none => none
def szOf (P : Program) (t : TypeId) : Option Nat := (P.info? t).map (·.size)
def bytesOf (P : Program) (t : TypeId) : Option Nat := (P.info? t).map (·.bytes)
def zeroOf (P : Program) (t : TypeId) : Option Value := (P.info? t).bind (·.zero)
/-- the zero's cells, as they are laid -/
def zeroCellsA (P : Program) (t : TypeId) : Option (List AV) := (zeroOf P t).map fun v => v.cells.toList.map .atom

/-- Load: a variable of the type. -/
noncomputable def loadA (P : Program) (H : AH) (t : TypeId) : AV → Option AV
  | .ptr b off =>
    match isAggT P t with
    | some true => match szOf P t with
      | some n => (H.read b off n).map .agg
      | none => none
    | some false => H.readOne b off
    | none => none
  | _ => none

noncomputable def storeA (P : Program) (H : AH) (t : TypeId) (a v : AV) : Option AH :=
  match a with
  | .ptr b off =>
    if v.plain && decide (some v.cells.length = szOf P t) then H.write b off v.cells else none
  | _ => none

/-- A part of an aggregate's cells. -/
def partA (P : Program) (t : TypeId) (cs : List AV) (off : Nat) : Option AV :=
  match isAggT P t, szOf P t with
  | some true, some n => if off + n ≤ cs.length then some (.agg ((cs.drop off).take n)) else none
  | some false, _ => cs[off]?
  | _, _ => none

/-- Fields laid into cells. -/
def fillA (place : Nat → Option (Nat × Nat)) (cells : List AV) : List (Nat × AV) → Option (List AV)
  | [] => some cells
  | (i, v) :: rest =>
    match place i with
    | none => none
    | some (off, size) =>
      if !v.plain || v.cells.length ≠ size || off + v.cells.length > cells.length then none else fillA place (overlay cells off v.cells) rest

def fieldsPlace (P : Program) (fs : Array Field) (i : Nat) : Option (Nat × Nat) :=
  match fs[i]? with
  | some f => (szOf P f.type).map fun n => (f.offset, n)
  | none => none

def repeatCells (z : List AV) : Nat → List AV
  | 0 => []
  | n + 1 => z ++ repeatCells z n

/-- The elements of a slice (or a string's bytes) as cells. -/
noncomputable def elemsA (H : AH) (size n : Nat) : AV → Option (List AV)
  | .atom (.slice none _ _) => if n = 0 then some [] else none
  | .atom (.string s) => if n ≤ s.size then some ((s.data.toList.take n).map fun b => .int .u8 b.toNat) else none
  | .slice b off _ _ => if n * size = 0 then some [] else H.read b off (n * size)
  | _ => none

def lenA : AV → Option Nat
  | .atom (.slice none n _) => some n
  | .atom (.string s) => some s.size
  | .slice _ _ n _ => some n
  | _ => none

/-- No slice, string or map of ours is as long as this. -/
def lidA : Nat := 1099511627776

/-- the element type's cells and bytes, where a slice of it may grow -/
def growsA (P : Program) (elem : TypeId) : Option (Nat × Nat) :=
  match szOf P elem, bytesOf P elem, zeroCellsA P elem with
  | some size, some bytes, some z => cond (Nat.beq z.length size && (Nat.blt 0 size && Nat.ble bytes 4096)) (some (size, bytes)) none
  | _, _, _ => none

/-- a new block with what was there and what comes -/
noncomputable def appNew (H : AH) (elem : TypeId) (size len n : Nat) (old new : List AV) : Option (AV × AH) :=
  some (.slice H.next 0 (len + n) (.room size), H.push { cells := old ++ new, elem := elem, own := true })

noncomputable def appRoom (H : AH) (elem : TypeId) (size b off len n : Nat) (new : List AV) (B : Blk) : Option (AV × AH) :=
  cond (Nat.ble (off + (len + n) * size) B.cells.length)
    (match H.write b (off + len * size) new with
    | some H' => some (.slice b off (len + n) (.room size), H')
    | none => none)
    (cond (B.own && (Nat.beq B.elem elem && (Nat.ble (off + len * size) B.cells.length && ((!B.fz || Nat.beq (off + len * size) B.cells.length) && new.all AV.one))))
      (some (.slice H.next 0 (len + n) (.room size), (H.put b none).push { cells := (B.cells.drop off).take (len * size) ++ new, elem := B.elem, own := true, fz := B.fz })) none)

noncomputable def appTo (H : AH) (elem : TypeId) (size n : Nat) (new : List AV) : AV → Option (AV × AH)
  | .atom (.slice none 0 0) => appNew H elem size 0 n [] new
  | .slice b off len (.exact c) =>
    cond (Nat.ble (len + n) c)
      (match H.write b (off + len * size) new with
      | some H' => some (.slice b off (len + n) (.exact c), H')
      | none => none)
      (match elemsA H size len (.slice b off len (.exact c)) with
      | some old => appNew H elem size len n old new
      | none => none)
  | .slice b off len (.room esz) =>
    match H.get b with
    | some B => cond (Nat.beq esz size) (appRoom H elem size b off len n new B) none
    | none => none
  | _ => none

def isSliceA : AV → Bool
  | .atom (.slice none 0 0) => true
  | .slice _ _ _ _ => true
  | _ => false

noncomputable def appendA (P : Program) (H : AH) (elem : TypeId) (s x : AV) : Option (AV × AH) :=
  match growsA P elem, lenA x, lenA s with
  | some (size, bytes), some n, some len =>
    match elemsA H size n x with
    | some new =>
      cond (isSliceA s) (cond (Nat.beq n 0) (some (s, H))
        (cond (Nat.ble ((len + n) * (bytes + size)) lidA && Nat.beq new.length (n * size)) (appTo H elem size n new s) none)) none
    | none => none
  | _, _, _ => none

noncomputable def copyTo (H : AH) (n : Nat) (cs : List AV) : AV → Option (AV × AH)
  | .slice b off _ _ => match H.write b off cs with
    | some H' => some (.int .i64 n, H')
    | none => none
  | _ => none

noncomputable def copyA (P : Program) (H : AH) (elem : TypeId) (d s : AV) : Option (AV × AH) :=
  match szOf P elem, lenA d, lenA s with
  | some size, some dl, some sl =>
    match elemsA H size (Nat.min sl dl) s with
    | some cs => cond (isSliceA d) (cond cs.isEmpty (some (.int .i64 (Nat.min sl dl), H)) (copyTo H (Nat.min sl dl) cs d)) none
    | none => none
  | _, _, _ => none

def asNatLe (v : AV) (top : Nat) : Option Nat :=
  match v with
  | .atom (.int _ (.ofNat i)) => cond (Nat.ble i top) (some i) none
  | _ => none

/-- the bounds of a slice expression: low, high, max; of a capacity that isn't known the least is given -/
def boundsA (len cap : Nat) (lo hi mx : Option AV) : Option (Nat × Nat × Nat) :=
  match (match mx with | some v => asNatLe v cap | none => some cap) with
  | none => none
  | some m =>
    match (match hi, mx with | some v, _ => asNatLe v m | none, none => some len | none, some _ => none) with
    | none => none
    | some h =>
      match (match lo with | some v => asNatLe v h | none => some 0) with
      | none => none
      | some l => some (l, h, m)

def slStr (s : ByteArray) (mx : Option AV) : Option (Nat × Nat × Nat) → Option AV
  | some (l, h, _) => match mx with
    | none => some (.str (s.extract l h))
    | some _ => none
  | none => none
def slNil : Option (Nat × Nat × Nat) → Option AV
  | some _ => some (.atom (.slice none 0 0))
  | none => none
def slExact (b off size : Nat) : Option (Nat × Nat × Nat) → Option AV
  | some (l, h, m) => some (.slice b (cond (Nat.beq m l) off (off + l * size)) (h - l) (.exact (m - l)))
  | none => none
def slLoose (b off len size : Nat) (cap : Cap) : Option (Nat × Nat × Nat) → Option AV
  | some (l, h, _) => cond (Nat.beq l 0) (some (.slice b off h cap)) (cond (Nat.blt l len) (some (.slice b (off + l * size) (h - l) cap)) (some .top))
  | none => none

noncomputable def slSlice (H : AH) (size b off len : Nat) (cap : Cap) (lo hi mx : Option AV) : Option AV :=
  match cap with
  | .exact c => slExact b off size (boundsA len c lo hi mx)
  | .room esz => match H.get b, mx with
    | some B, none => cond (Nat.beq esz size) (slLoose b off len size (.room esz) (boundsA len (max len ((B.cells.length - off) / size)) lo hi none)) none
    | _, _ => none
  | .unk => match mx with
    | none => slLoose b off len size .unk (boundsA len len lo hi none)
    | some _ => none

noncomputable def sliceA (P : Program) (H : AH) (t : TypeId) (x : AV) (lo hi mx : Option AV) : Option AV :=
  match P.underlying t, x with
  | some .string, .atom (.string s) => slStr s mx (boundsA s.size s.size lo hi none)
  | some (.slice e), .atom (.slice none 0 0) => match szOf P e with
    | some _ => slNil (boundsA 0 0 lo hi mx)
    | none => none
  | some (.slice e), .slice b off len cap => match szOf P e with
    | some size => slSlice H size b off len cap lo hi mx
    | none => none
  | some (.array n e), .ptr b off => match szOf P e with
    | some size => slExact b off size (boundsA n n lo hi mx)
    | none => none
  | _, _ => none

def lim : IntKind → Nat
  | .i8 => 128
  | .i16 => 32768
  | .i32 => 2147483648
  | .i64 => 9223372036854775808
  | .u8 => 256
  | .u16 => 65536
  | .u32 => 4294967296
  | .u64 => 18446744073709551616
def wrapN : IntKind → Nat → Int
  | .u8, m => .ofNat (Nat.mod m 256)
  | .u16, m => .ofNat (Nat.mod m 65536)
  | .u32, m => .ofNat (Nat.mod m 4294967296)
  | .u64, m => .ofNat (Nat.mod m 18446744073709551616)
  | k, m => k.wrap (.ofNat m)
/-- 'wrap', soon told where nothing is wrapped -/
def wrapF (k : IntKind) : Int → Int
  | .ofNat m => cond (Nat.blt m (lim k)) (.ofNat m) (wrapN k m)
  | .negSucc m => match k with
    | .i64 => cond (Nat.blt m (lim .i64)) (.negSucc m) (IntKind.i64.wrap (.negSucc m))
    | k => k.wrap (.negSucc m)
def addF : Int → Int → Int
  | .ofNat a, .ofNat b => .ofNat (Nat.add a b)
  | a, b => a + b
def subF : Int → Int → Int
  | .ofNat a, .ofNat b => cond (Nat.ble b a) (.ofNat (Nat.sub a b)) (.negSucc (Nat.pred (Nat.sub b a)))
  | a, b => a - b
def mulF : Int → Int → Int
  | .ofNat a, .ofNat b => .ofNat (Nat.mul a b)
  | a, b => a * b
def eqF : Int → Int → Bool
  | .ofNat a, .ofNat b => Nat.beq a b
  | .negSucc a, .negSucc b => Nat.beq a b
  | _, _ => false
def leF : Int → Int → Bool
  | .ofNat a, .ofNat b => Nat.ble a b
  | .negSucc a, .negSucc b => Nat.ble b a
  | .negSucc _, .ofNat _ => true
  | .ofNat _, .negSucc _ => false
def quoF (k : IntKind) : Int → Int → Option AV
  | .ofNat a, .ofNat b => cond (Nat.beq b 0) none (some (.int k (wrapF k (.ofNat (Nat.div a b)))))
  | a, b => if b = 0 then none else some (.int k (k.wrap (a.tdiv b)))
def remF (k : IntKind) : Int → Int → Option AV
  | .ofNat a, .ofNat b => cond (Nat.beq b 0) none (some (.int k (.ofNat (Nat.mod a b))))
  | a, b => if b = 0 then none else some (.int k (a.tmod b))
def andS (k : IntKind) (a b : Int) : Int := k.wrap (BitVec.ofInt k.bits a &&& BitVec.ofInt k.bits b).toNat
def orS (k : IntKind) (a b : Int) : Int := k.wrap (BitVec.ofInt k.bits a ||| BitVec.ofInt k.bits b).toNat
def xorS (k : IntKind) (a b : Int) : Int := k.wrap (BitVec.ofInt k.bits a ^^^ BitVec.ofInt k.bits b).toNat
def clrS (k : IntKind) (a b : Int) : Int := k.wrap (BitVec.ofInt k.bits a &&& ~~~ BitVec.ofInt k.bits b).toNat
/-- both below 2^64, of kind uint64: at once -/
def bitF (f : Nat → Nat → Nat) (g : Int → Int → Int) (k : IntKind) : Int → Int → Int
  | .ofNat a, .ofNat b => match k with
    | .u64 => cond (Nat.blt a 18446744073709551616 && Nat.blt b 18446744073709551616) (.ofNat (f a b)) (g (.ofNat a) (.ofNat b))
    | _ => g (.ofNat a) (.ofNat b)
  | a, b => g a b

def intBin (op : BinOp) (k : IntKind) (a b : Int) : Option AV :=
  match op with
  | .add => some (.int k (wrapF k (addF a b)))
  | .sub => some (.int k (wrapF k (subF a b)))
  | .mul => some (.int k (wrapF k (mulF a b)))
  | .quo => quoF k a b
  | .rem => remF k a b
  | .and => some (.int k (bitF Nat.land (andS k) k a b))
  | .or => some (.int k (bitF Nat.lor (orS k) k a b))
  | .xor => some (.int k (bitF Nat.xor (xorS k) k a b))
  | .andNot => some (.int k (clrS k a b))
  | .eql => some (.bool (eqF a b))
  | .neq => some (.bool (!eqF a b))
  | .lss => some (.bool (!leF b a))
  | .leq => some (.bool (leF a b))
  | .gtr => some (.bool (!leF a b))
  | .geq => some (.bool (leF b a))
  | _ => none

def shlF (k : IntKind) : Int → Int → Option AV
  | .ofNat a, .ofNat b => some (.int k (wrapF k (.ofNat (Nat.mul a (Nat.pow 2 (cond (Nat.ble b k.bits) b k.bits))))))
  | a, .ofNat b => some (.int k (k.wrap (a * 2 ^ (min b k.bits))))
  | _, .negSucc _ => none
def shrF (k : IntKind) : Int → Int → Option AV
  | .ofNat a, .ofNat b => some (.int k (.ofNat (Nat.div a (Nat.pow 2 (cond (Nat.ble b k.bits) b k.bits)))))
  | a, .ofNat b => some (.int k (a.fdiv (2 ^ (min b k.bits))))
  | _, .negSucc _ => none

def sameKind : IntKind → IntKind → Bool
  | .i8, .i8 | .i16, .i16 | .i32, .i32 | .i64, .i64 | .u8, .u8 | .u16, .u16 | .u32, .u32 | .u64, .u64 => true
  | _, _ => false

def strBin (op : BinOp) (x y : ByteArray) : Option AV :=
  match op with
  | .add => if x.size + y.size ≤ lidA then some (.str (x ++ y)) else none
  | .eql => some (.bool (x.toList == y.toList))
  | .neq => some (.bool (!(x.toList == y.toList)))
  | .lss => some (.bool (Op.bytesLess x.toList y.toList))
  | .leq => some (.bool (Op.bytesLess x.toList y.toList || x.toList == y.toList))
  | .gtr => some (.bool (!(Op.bytesLess x.toList y.toList || x.toList == y.toList)))
  | .geq => some (.bool (!Op.bytesLess x.toList y.toList))
  | _ => none

def eqBool : AV → AV → Option Bool
  | .atom (.bool a), .atom (.bool b) => some (a == b)
  | _, _ => none
def eqPtr (P : Program) (e : TypeId) : AV → AV → Option Bool
  | .atom (.pointer none), .atom (.pointer none) => some true
  | .atom (.pointer none), .ptr _ _ => some false
  | .ptr _ _, .atom (.pointer none) => some false
  | .ptr b o, .ptr b' o' => match szOf P e with
    | some (_ + 1) => cond (Nat.beq b b') (some (Nat.beq o o')) none
    | _ => none
  | _, _ => none
def eqIfc : AV → AV → Option Bool
  | .atom .nilIface, .iface _ _ => some false
  | .iface _ _, .atom .nilIface => some false
  | _, _ => none
def eqSl : AV → AV → Option Bool
  | .atom (.slice none _ _), .atom (.slice none _ _) => some true
  | .atom (.slice none _ _), .slice _ _ _ _ => some false
  | .slice _ _ _ _, .atom (.slice none _ _) => some false
  | _, _ => none

/-- Are the two alike, where that is known at once? -/
def eqA (P : Program) (t : TypeId) (x y : AV) : Option Bool :=
  match P.underlying t with
  | some .bool => eqBool x y
  | some (.pointer e) => eqPtr P e x y
  | some (.interface _) => eqIfc x y
  | some (.slice _) => eqSl x y
  | _ => none

def intOp (op : BinOp) (k : IntKind) (a : Int) (k' : IntKind) (b : Int) : Option AV :=
  match op with
  | .shl => shlF k a b
  | .shr => shrF k a b
  | op => cond (sameKind k k') (intBin op k a b) none

def eqOp (op : BinOp) (r : Option Bool) : Option AV :=
  match op, r with
  | .eql, some b => some (.bool b)
  | .neq, some b => some (.bool !b)
  | _, _ => none

def binA (P : Program) (op : BinOp) (t : TypeId) (x y : AV) : Option AV :=
  match x, y with
  | .atom (.int k a), .atom (.int k' b) => intOp op k a k' b
  | .atom (.string a), .atom (.string b) => strBin op a b
  | x, y => eqOp op (eqA P t x y)

def unA (op : UnOp) (x : AV) : Option AV :=
  match op, x with
  | .neg, .atom (.int k n) => some (.int k (wrapF k (subF 0 n)))
  | .xor, .atom (.int k n) => some (.int k (k.wrap (BitVec.ofInt k.bits (if k.signed then -1 else k.max) ^^^ BitVec.ofInt k.bits n).toNat))
  | .not, .atom (.bool b) => some (.bool !b)
  | _, _ => none

def bytesOfCells : List AV → Option (List UInt8)
  | [] => some []
  | .atom (.int .u8 n) :: r => (bytesOfCells r).map (UInt8.ofNat n.toNat :: ·)
  | _ => none

noncomputable def convBytes (P : Program) (H : AH) (e : TypeId) (s : ByteArray) : Option (AV × AH) :=
  match P.underlying e with
  | some (.int .u8) => cond (Nat.ble s.size lidA)
      (some (.slice H.next 0 s.size .unk, H.push { cells := s.data.toList.map fun b => .int .u8 b.toNat, elem := e, own := false })) none
  | _ => none
noncomputable def convStr (P : Program) (H : AH) (e : TypeId) (x : AV) : Option (AV × AH) :=
  match P.underlying e, x with
  | some (.int .u8), .atom (.slice none _ _) => some (.str .empty, H)
  | some (.int .u8), .slice b off len _ => match H.read b off len with
    | some cs => match bytesOfCells cs with
      | some l => some (.str ⟨l.toArray⟩, H)
      | none => none
    | none => none
  | _, _ => none
noncomputable def toUnsafe (P : Program) (H : AH) (t : TypeId) (b off : Nat) : Option (AV × AH) :=
  match szOf P t, H.get b with
  | some (_ + 1), some B => cond (Nat.blt off B.cells.length) (some (.ptr b off, H)) none
  | _, _ => none
noncomputable def ofUnsafe (P : Program) (H : AH) (u : TypeId) (b off : Nat) : Option (AV × AH) :=
  match szOf P u, H.get b with
  | some (n + 1), some B => cond (B.head && (Nat.beq (P.underlyingId u) (P.underlyingId B.elem)) && (Nat.beq off 0 && (Nat.beq B.cells.length (n + 1) && Nat.beq (P.cellsOf B.elem) (n + 1)))) (some (.ptr b off, H)) none
  | _, _ => none

noncomputable def convA (P : Program) (H : AH) (src dst : TypeId) (x : AV) : Option (AV × AH) :=
  match P.underlying src, P.underlying dst, x with
  | some _, some (.int k), .atom (.int _ n) => some (.int k (wrapF k n), H)
  | some _, some .string, .atom (.string s) => some (.str s, H)
  | some _, some (.slice e), .atom (.string s) => convBytes P H e s
  | some (.slice e), some .string, x => convStr P H e x
  | some (.pointer t), some .unsafePointer, .ptr b off => toUnsafe P H t b off
  | some .unsafePointer, some (.pointer u), .ptr b off => ofUnsafe P H u b off
  | _, _, _ => none

def maxA : List AV → Option AV
  | [] => none
  | .atom (.int k n) :: r => go k n r
  | _ => none
where go (k : IntKind) (n : Int) : List AV → Option AV
  | [] => some (.int k n)
  | .atom (.int _ y) :: r => go k (if y > n then y else n) r
  | _ => none
def minA : List AV → Option AV
  | [] => none
  | .atom (.int k n) :: r => go k n r
  | _ => none
where go (k : IntKind) (n : Int) : List AV → Option AV
  | [] => some (.int k n)
  | .atom (.int _ y) :: r => go k (if y < n then y else n) r
  | _ => none

def carry3 : List AV → Option (Nat × Nat × Nat)
  | [.atom (.int _ x), .atom (.int _ y), .atom (.int _ c)] => if c.toNat ≤ 1 then some (x.toNat, y.toNat, c.toNat) else none
  | _ => none

def add64A (x : Nat × Nat × Nat) : AV := .tuple [.int .u64 (Int.ofNat ((x.1 + x.2.1 + x.2.2) % 2 ^ 64)), .int .u64 (Int.ofNat ((x.1 + x.2.1 + x.2.2) / 2 ^ 64))]
def sub64A (x : Nat × Nat × Nat) : AV := .tuple [.int .u64 (Int.ofNat ((x.1 + 2 ^ 64 - x.2.1 - x.2.2) % 2 ^ 64)), .int .u64 (Int.ofNat (if x.1 < x.2.1 + x.2.2 then 1 else 0))]
def cmpA : List AV → Option AV
  | [.atom (.string a), .atom (.string b)] => some (.int .i64 (Extern.BytealgCompare.cmp a b))
  | _ => none
def indexByteA : List AV → Option AV
  | [.atom (.string a), .atom (.int .u8 c)] => some (.int .i64 (firstIdx a c.toNat.toUInt8))
  | _ => none
noncomputable def makeNoZeroA (P : Program) (rs : List TypeId) (H : AH) : List AV → Option (AV × AH)
  | [.atom (.int .i64 (.ofNat n))] => match rs with
    | [t] => match P.underlying t with
      | some (.slice e) => cond (Nat.ble n lidA) (some (.slice H.next 0 n (.room 1), H.push { cells := List.replicate n .top, elem := e, own := true })) none
      | _ => none
    | _ => none
  | _ => none
def sameA : List AV → Option AV
  | [x] => some x
  | _ => none
def withH (H : AH) (x : Option AV) : Option (AV × AH) := x.map fun v => (v, H)

/-- Functions of the library without a body. -/
noncomputable def externIn (P : Program) (name : String) (rs : List TypeId) (args : List AV) (H : AH) : Option (AV × AH) :=
  if name = "math/bits.Add64" then withH H ((carry3 args).map add64A)
  else if name = "math/bits.Sub64" then withH H ((carry3 args).map sub64A)
  else if name = "internal/bytealg.abigen_runtime_cmpstring" then withH H (cmpA args)
  else if name = "internal/bytealg.IndexByteString" then withH H (indexByteA args)
  else if name = "internal/bytealg.MakeNoZero" then makeNoZeroA P rs H args
  else if name = "internal/abi.NoEscape" then withH H (sameA args)
  else none
noncomputable def externA (P : Program) (fn : Func) (args : List AV) (H : AH) : Option (AV × AH) :=
  cond (Extern.findNext fn).isNone (externIn P fn.name fn.resultTypes.toList args H) none

noncomputable def builtinA (P : Program) (b : Builtin) (argTypes : Array TypeId) (args : List AV) (H : AH) : Option (AV × AH) :=
  match b with
  | .len => match argTypes[0]?, args with
    | some t, [x] => match P.underlying t, x with
      | some .string, .atom (.string s) => some (.int .i64 s.size, H)
      | some (.array n _), _ => some (.int .i64 n, H)
      | some (.slice _), .atom (.slice none n _) => some (.int .i64 n, H)
      | some (.slice _), .slice _ _ n _ => some (.int .i64 n, H)
      | _, _ => none
    | _, _ => none
  | .cap => match argTypes[0]?, args with
    | some t, [x] => match P.underlying t, x with
      | some (.slice _), .atom (.slice none _ n) => some (.int .i64 n, H)
      | some (.slice _), .slice _ _ _ (.exact n) => some (.int .i64 n, H)
      | _, _ => none
    | _, _ => none
  | .append => match argTypes[0]?, argTypes[1]?, args with
    | some t, some u, [s, x] => match P.underlying t, P.underlying u with
      | some (.slice e), some (.slice _) | some (.slice e), some .string => appendA P H e s x
      | _, _ => none
    | _, _, _ => none
  | .copy => match argTypes[0]?, args with
    | some t, [s, x] => match P.underlying t with
      | some (.slice e) => copyA P H e s x
      | _ => none
    | _, _ => none
  | .unsafeSliceData => match args with
    | [.atom (.slice none _ _)] => some (.atom (.pointer none), H)
    | [.slice b off (_n + 1) _] => match H.get b with
      | some _ => some (.ptr b off, H)
      | none => none
    | _ => none
  | .unsafeString => match args, argTypes[0]? with
    | [.atom (.pointer none), .atom (.int _ n)], some _ => if n = 0 then some (.str .empty, H) else none
    | [.ptr b off, .atom (.int _ n)], some pt => match P.underlying pt, H.get b with
      | some (.pointer u), some B =>
        if B.own && 0 < n && n ≤ lidA && P.underlyingId u == P.underlyingId B.elem && szOf P B.elem == some 1 then
          match H.read b off n.toNat with
          | some cs => match bytesOfCells cs with
            | some l => some (.str ⟨l.toArray⟩, H.put b (some { B with fz := true }))
            | none => none
          | none => none
        else none
      | _, _ => none
    | _, _ => none
  | .max => (maxA args).map (·, H)
  | .min => (minA args).map (·, H)
  | _ => none

noncomputable def callFn (P : Program) (f : FuncId) (args : List AV) (H : AH) : Option ONext :=
  match P.funcs[f]? with
  | none => none
  | some fn => if fn.name == "runtime.NumGoroutine" then none else
    if fn.body.isNone then (externA P fn args H).map fun (v, H) => .value v H
    else some (.enter f args H)

def opVal (x : Option AV) (H : AH) : Option ONext := x.map fun x => .value x H
def opValH (x : Option (AV × AH)) : Option ONext := x.map fun x => .value x.1 x.2

def opPick (c a b : AV) (H : AH) : Option ONext :=
  match c with
  | .atom (.bool t) => some (.value (cond t a b) H)
  | _ => none

noncomputable def opAlloc (P : Program) (e : TypeId) (H : AH) : Option ONext :=
  match zeroCellsA P e with
  | some cs => some (.value (.ptr H.next 0) (H.push { cells := cs, elem := e, own := true, head := true }))
  | none => none

noncomputable def opBox (e : TypeId) (x : AV) (H : AH) : Option ONext :=
  cond x.plain (some (.value (.ptr H.next 0) (H.push { cells := x.cells, elem := e, own := true }))) none

def partsA (ρ : Operand → AV) (parts : Array (Nat × Operand)) : List (Nat × AV) := parts.toList.map fun x => (x.1, ρ x.2)

def opBuild (P : Program) (t : TypeId) (parts : List (Nat × AV)) (H : AH) : Option ONext :=
  match P.underlying t, zeroCellsA P t with
  | some (.struct fs), some z => cond (fs.toList.all fun f => (szOf P f.type).isSome) (opVal ((fillA (fieldsPlace P fs) z parts).map .agg) H) none
  | some (.array _ e), some z => match szOf P e with
    | some size => opVal ((fillA (fun i => some (i * size, size)) z parts).map .agg) H
    | none => none
  | _, _ => none

noncomputable def opBuildSlice (P : Program) (t : TypeId) (len : Nat) (parts : List (Nat × AV)) (H : AH) : Option ONext :=
  match P.underlying t with
  | some (.slice e) => match szOf P e, zeroCellsA P e with
    | some size, some z => cond (Nat.ble (len * size) (2 ^ 24) && Nat.beq z.length size)
        (match fillA (fun i => some (i * size, size)) (repeatCells z len) parts with
        | some cs => some (.value (.slice H.next 0 len (.exact len)) (H.push { cells := cs, elem := e, own := true }))
        | none => none) none
    | _, _ => none
  | _ => none

def opNilCheck (x : AV) (H : AH) : Option ONext :=
  match x with
  | .ptr b o => some (.value (.ptr b o) H)
  | .fn (.func f) a b => some (.value (.fn (.func f) a b) H)
  | _ => none

def isConstO : Operand → Bool
  | .const _ => true
  | _ => false

def nilNil (P : Program) (op : BinOp) (t : TypeId) (k : Bool) : Option AV :=
  match P.underlying t, k, op with
  | some (.interface _), true, .eql => some (.bool true)
  | some (.interface _), true, .neq => some (.bool false)
  | _, _, _ => none

def opBin (P : Program) (op : BinOp) (t : TypeId) (x y : AV) (k : Bool) (H : AH) : Option ONext :=
  match x, y with
  | .atom .nilIface, .atom .nilIface => opVal (nilNil P op t k) H
  | a, b => opVal (binA P op t a b) H

def opIface (P : Program) (t : TypeId) (x : AV) (H : AH) : Option ONext :=
  match P.underlying t with
  | some (.interface _) | none => none
  | some _ => some (.value (.iface t x) H)

def opFunc (fn : Fn) (first captured : List AV) (H : AH) : Option ONext :=
  match fn with
  | .func g => some (.value (.fn (.func g) first captured) H)
  | _ => none

def natOf : AV → Option Nat
  | .atom (.int _ (.ofNat n)) => some n
  | _ => none

noncomputable def opMakeSlice (P : Program) (t : TypeId) (l c : AV) (H : AH) : Option ONext :=
  match P.underlying t, natOf l, natOf c with
  | some (.slice e), some l, some c => match szOf P e, bytesOf P e, zeroCellsA P e with
    | some size, some bytes, some z =>
      cond (Nat.ble l c && (Nat.ble c lidA && (Nat.ble (c * (bytes + size)) lidA && Nat.beq z.length size)))
        (some (.value (.slice H.next 0 l (.exact c)) (H.push { cells := repeatCells z c, elem := e, own := true }))) none
    | _, _, _ => none
  | _, _, _ => none

def opFieldAddr (P : Program) (s : TypeId) (x : AV) (f : Nat) (H : AH) : Option ONext :=
  match P.underlying s, x with
  | some (.struct fs), .ptr b off => match fs[f]? with
    | some fd => match szOf P fd.type with
      | some (_ + 1) => some (.value (.ptr b (off + fd.offset)) H)
      | _ => none
    | none => none
  | _, _ => none

def opField (P : Program) (s : TypeId) (x : AV) (f : Nat) (H : AH) : Option ONext :=
  match P.underlying s, x with
  | some (.struct fs), .agg cs => match fs[f]? with
    | some fd => opVal (partA P fd.type cs fd.offset) H
    | none => none
  | _, _ => none

def inRangeA (i : Int) (n : Nat) : Option Nat :=
  match i with
  | .ofNat k => cond (Nat.blt k n) (some k) none
  | .negSucc _ => none

def opIndexAddr (P : Program) (t : TypeId) (x i : AV) (H : AH) : Option ONext :=
  match P.underlying t, x, i with
  | some (.slice e), .slice b off len _, .atom (.int _ i) => match szOf P e, inRangeA i len with
    | some size, some k => some (.value (.ptr b (off + k * size)) H)
    | _, _ => none
  | some (.array len e), .ptr b off, .atom (.int _ i) => match szOf P e, inRangeA i len with
    | some size, some k => some (.value (.ptr b (off + k * size)) H)
    | _, _ => none
  | _, _, _ => none

def opIndex (P : Program) (t : TypeId) (x i : AV) (H : AH) : Option ONext :=
  match P.underlying t, x, i with
  | some .string, .atom (.string s), .atom (.int _ i) => match inRangeA i s.size with
    | some k => match s[k]? with
      | some b => some (.value (.int .u8 b.toNat) H)
      | none => none
    | none => none
  | some (.array len e), .agg cs, .atom (.int _ i) => match szOf P e, inRangeA i len with
    | some size, some k => opVal (partA P e cs (k * size)) H
    | _, _ => none
  | _, _, _ => none

def opAssert (P : Program) (x : AV) (t : TypeId) (ok : Bool) (H : AH) : Option ONext :=
  match P.underlying t, x with
  | some (.interface _), _ => none
  | some _, .iface u y => cond (Nat.beq u t) (some (.value (cond ok (.tuple [y, .bool true]) y) H)) none
  | _, _ => none

def opExtract (x : AV) (i : Nat) (H : AH) : Option ONext :=
  match x with
  | .tuple l => opVal l[i]? H
  | _ => none

noncomputable def opCallValue (P : Program) (f : AV) (args : List AV) (H : AH) : Option ONext :=
  match f with
  | .fn (.func g) first captured => callFn P g (first ++ args ++ captured) H
  | .fn (.yield k) [] [] => some (.yield k args H)
  | _ => none

noncomputable def opCall (P : Program) (ρ : Operand → AV) (c : Call) (H : AH) : Option ONext :=
  match c.callee with
  | .builtin b => opValH (builtinA P b c.argTypes (c.args.toList.map ρ) H)
  | .value f => opCallValue P (ρ f) (c.args.toList.map ρ) H
  | .invoke .. => none

noncomputable def opDefer (P : Program) (ρ : Operand → AV) (c : Call) (H : AH) : Option ONext :=
  match c.callee with
  | .value f => match ρ f with
    | .fn (.func g) first captured => match P.funcs[g]? with
      | some fn => if fn.body.isSome && fn.name != "runtime.NumGoroutine" then some (.defer g (first ++ c.args.toList.map ρ ++ captured) H) else none
      | none => none
    | _ => none
  | _ => none

def opPanic (x : AV) (H : AH) : Option ONext :=
  match x with
  | .iface t y => some (.panic (.iface t y) H)
  | _ => none

noncomputable def opStore (P : Program) (t : TypeId) (a x : AV) (H : AH) : Option ONext :=
  match storeA P H t a x with
  | some H' => some (.skip H')
  | none => none

/-- One operation. -/
noncomputable def opA (P : Program) (ρ : Operand → AV) (o : Oper) (H : AH) : Option ONext :=
  match o.op with
  | .move x | .assign x => some (.value (ρ x) H)
  | .pick c a b => opPick (ρ c) (ρ a) (ρ b) H
  | .alloc e => opAlloc P e H
  | .box e x => opBox e (ρ x) H
  | .build t parts => opBuild P t (partsA ρ parts) H
  | .buildSlice t len parts => opBuildSlice P t len (partsA ρ parts) H
  | .load t a => opVal (loadA P H t (ρ a)) H
  | .store t a x => opStore P t (ρ a) (ρ x) H
  | .nilCheck x => opNilCheck (ρ x) H
  | .binOp op t x y _ => opBin P op t (ρ x) (ρ y) (isConstO x || isConstO y) H
  | .unOp op _ x => opVal (unA op (ρ x)) H
  | .convert src dst x => opValH (convA P H src dst (ρ x))
  | .makeInterface t x => opIface P t (ρ x) H
  | .makeFunc fn first captured => opFunc fn (first.toList.map ρ) (captured.toList.map ρ) H
  | .makeSlice t l c => opMakeSlice P t (ρ l) (ρ c) H
  | .slice t x lo hi mx => opVal (sliceA P H t (ρ x) (lo.map ρ) (hi.map ρ) (mx.map ρ)) H
  | .fieldAddr s x f => opFieldAddr P s (ρ x) f H
  | .field s x f => opField P s (ρ x) f H
  | .indexAddr t x i => opIndexAddr P t (ρ x) (ρ i) H
  | .index t x i => opIndex P t (ρ x) (ρ i) H
  | .typeAssert x _ t ok => opAssert P (ρ x) t ok H
  | .extract x i => opExtract (ρ x) i H
  | .call c => opCall P ρ c H
  | .defer c => opDefer P ρ c H
  | .panic x => opPanic (ρ x) H
  | _ => none

/-- What a call comes to. -/
inductive CRes where
  | ret (v : AV) (H : AH)
  | pan (v : AV) (H : AH)

/-- How a piece of code is left. -/
inductive AX where
  | normal
  | exit (id : Nat)
  | ret
  | pan (v : AV)

/-- What a round of a range over a function does: the heap behind it, where it ends as a round should. -/
abbrev Yld := List AV → AH → Option AH

abbrev ACall := FuncId → List AV → Option (Nat × Yld) → AH → Option CRes

def yieldOf : AV → Option (Option Bool)
  | .atom (.bool b) => some (some b)
  | .top => none
  | _ => some none

noncomputable def yieldedA (ops : Array Oper) (f : Frm) (j : Nat) : Option (Option Bool) :=
  match (ops[j]?).bind (·.dst) with
  | none => some none
  | some t => yieldOf (f.slot t)

noncomputable def wantedA (ops : Array Oper) (o : Oper) (f : Frm) : Option Bool :=
  match o.guard with
  | none => some true
  | some (j, want) => match yieldedA ops f j with
    | none => none
    | some y => some (y == some want)

/-- What one operation of a region comes to, calls carried out. -/
inductive Ran where
  | value (v : AV) (H : AH)
  | defer (f : FuncId) (args : List AV) (H : AH)
  | pan (v : AV) (H : AH)

noncomputable def runOp (P : Program) (call : ACall) (y : Option (Nat × Yld)) (ρ : Operand → AV) (o : Oper) (H : AH) : Option Ran :=
  match opA P ρ o H with
  | none => none
  | some (.value v H) => some (.value v H)
  | some (.skip H) => some (.value (.atom undef) H)
  | some (.defer f args H) => some (.defer f args H)
  | some (.panic v H) => some (.pan v H)
  | some (.yield k args H) => match y with
    | some (k', h) => if k = k' then (h args H).map (.value (.bool true)) else none
    | none => none
  | some (.enter f args H) => match call f args none H with
    | some (.ret v H) => some (.value v H)
    | some (.pan v H) => some (.pan v H)
    | none => none

abbrev Out := Option (AX × Frm × AH)

/-- Behind one operation. -/
noncomputable def regStep (o : Oper) (f : Frm) (k : Frm → AH → Out) : Option Ran → Out
  | none => none
  | some (.value v H) => k (f.put o.dst v) H
  | some (.defer g args H) => cond f.rd none (k ({ f with defers := (g, args) :: f.defers }.put o.dst (.atom undef)) H)
  | some (.pan v H) => some (.pan v, f, H)

noncomputable def regOne (P : Program) (call : ACall) (y : Option (Nat × Yld)) (ops : Array Oper) (o : Oper) (k : Frm → AH → Out) (f : Frm) (H : AH) : Out :=
  match wantedA ops o f with
  | none => none
  | some false => k (f.put o.dst (.atom undef)) H
  | some true => regStep o f k (runOp P call y (f.eval P) o H)

/-- A region in the order of its text. -/
noncomputable def regA (P : Program) (call : ACall) (y : Option (Nat × Yld)) (ops : Array Oper) (l : List Oper) : Frm → AH → Out :=
  List.rec (motive := fun _ => Frm → AH → Out) (fun f H => some (.normal, f, H)) (fun o _ ih f H => regOne P call y ops o ih f H) l
theorem regA_nil (P : Program) (call : ACall) (y : Option (Nat × Yld)) (ops : Array Oper) (f : Frm) (H : AH) : regA P call y ops [] f H = some (.normal, f, H) := rfl
theorem regA_cons (P : Program) (call : ACall) (y : Option (Nat × Yld)) (ops : Array Oper) (o : Oper) (rest : List Oper) (f : Frm) (H : AH) :
    regA P call y ops (o :: rest) f H = regOne P call y ops o (regA P call y ops rest) f H := rfl

/-- A region that draws its order: which operations lie ahead of which (the edges that bind, and what follows from them). -/
def Oper.quiet (P : Program) (o : Oper) : Bool :=
  match o.op with
  | .convert _ d _ => match P.underlying d with
    | some (.slice _) | none => false
    | some _ => true
  | .move _ | .assign _ | .pick .. | .build .. | .load .. | .nilCheck _ | .binOp .. | .unOp .. | .makeInterface .. | .makeFunc .. | .slice .. | .fieldAddr .. | .field .. | .indexAddr .. | .index .. | .typeAssert .. | .extract .. => true
  | .call { callee := .builtin .len, .. } | .call { callee := .builtin .cap, .. } | .call { callee := .builtin .max, .. } | .call { callee := .builtin .min, .. } => true
  | _ => false

/-- Does the operation make memory of what is at hand, and nothing else? -/
def Oper.floats (o : Oper) : Bool :=
  match o.op with
  | .alloc _ | .buildSlice .. | .box .. => true
  | _ => false

/-- Does a quiet operation's value hang on the heap? -/
def Oper.reading (o : Oper) : Bool :=
  match o.op with
  | .load .. | .slice .. | .convert .. => true
  | _ => false

def uses (ops : Array Oper) (o : Oper) : List Tmp :=
  (o.op.operands.toList.filterMap fun x => match x with | .tmp t => some t | _ => none) ++
  (match o.guard with
  | some (j, _) => ((ops[j]?).bind (·.dst)).toList
  | none => [])

/-- row i: the operations ahead of operation i -/
def aheadRows (ops : List Oper) : List (List Nat) :=
  go ops []
where go : List Oper → List (List Nat) → List (List Nat)
  | [], acc => acc
  | o :: rest, acc =>
    let direct := (o.after.toList.filter (Region.binds .any)).map (·.on)
    go rest (acc ++ [(direct ++ direct.flatMap fun j => acc.getD j []).eraseDups])

/-- What is known beforehand of a drawn region's operation: how many of the acting ones lie ahead of it; how many may. -/
structure Plan where
  lo : Nat
  hi : Nat
  deriving Inhabited

def acting (P : Program) (o : Oper) : Bool := !Oper.quiet P o && !Oper.floats o

def planOf (P : Program) (ops : List Oper) : Option (List Plan) :=
  let rows := aheadRows ops
  let n := ops.length
  let isAhead (i j : Nat) : Bool := (rows.getD j []).contains i
  let idx := List.range n
  let act := idx.filter fun i => (ops[i]?).any (acting P)
  let opAt (i : Nat) : Oper := ops.getD i default
  -- edges point back; acting operations are one behind the other; slots are written once; who reads a slot that another writes is ahead of it or behind it
  if !(idx.all fun i => (rows.getD i []).all (· < i)) then none else
  if !(act.all fun i => act.all fun j => j ≤ i || isAhead i j) then none else
  if !(idx.all fun i => idx.all fun j => i == j || match (opAt i).dst with
      | none => true
      | some d => (opAt j).dst != some d && (!(uses ops.toArray (opAt j)).contains d || (if i < j then isAhead i j else isAhead j i))) then none else
  if !(idx.all fun i => match (opAt i).dst with | none => true | some d => !(uses ops.toArray (opAt i)).contains d || Oper.quiet P (opAt i)) then none else
  if !(idx.all fun i => !Oper.floats (opAt i) || act.all fun j => j ≤ i || isAhead i j) then none else
  some (idx.map fun j => { lo := (act.filter fun i => isAhead i j).length, hi := (act.filter fun i => !isAhead j i && i != j).length })

/-- Is the value the operation's at each of the heaps? -/
noncomputable def sameAt (P : Program) (ρ : Operand → AV) (o : Oper) (v : AV) : List AH → Bool
  | [] => true
  | H :: rest => (match opA P ρ o H with
    | some (.value v' _) => AV.beq v v'
    | _ => false) && sameAt P ρ o v rest

/-- what a drawn region has still to hold: the operand's values, the operation, its value, at which heaps -/
structure Later where
  ρ : Operand → AV
  o : Oper
  v : AV
  p : Plan

abbrev DK := Frm → List AH → List Later → Out

noncomputable def drawEnd (P : Program) (f : Frm) (past : List AH) (later : List Later) : Out :=
  match past with
  | [] => none
  | H :: _ => cond (later.all fun x => sameAt P x.ρ x.o x.v ((past.reverse.drop x.p.lo).take (x.p.hi + 1 - x.p.lo))) (some (.normal, f, H)) none

noncomputable def drawFloat (o : Oper) (k : DK) (f : Frm) (past : List AH) (later : List Later) : Option ONext → Out
  | some (.value v H') => k (f.put o.dst v) (H' :: past.tail) later
  | _ => none

noncomputable def drawQuiet (P : Program) (o : Oper) (p : Plan) (k : DK) (f : Frm) (past : List AH) (later : List Later) : Option ONext → Out
  | some (.value v _) => k (f.put o.dst v) past (cond (Oper.reading o) ({ ρ := f.eval P, o, v, p } :: later) later)
  | _ => none

noncomputable def drawActs (o : Oper) (k : DK) (f : Frm) (past : List AH) (later : List Later) : Option Ran → Out
  | some (.value v H') => k (f.put o.dst v) (H' :: past) later
  | _ => none

noncomputable def drawOne (P : Program) (call : ACall) (y : Option (Nat × Yld)) (ops : Array Oper) (o : Oper) (p : Plan) (k : DK) (f : Frm) (past : List AH) (later : List Later) : Out :=
  match past with
  | [] => none
  | H :: _ =>
    match wantedA ops o f with
    | none => none
    | some false => k (f.put o.dst (.atom undef)) (cond (acting P o) (H :: past) past) later
    | some true =>
      cond (Oper.floats o) (drawFloat o k f past later (opA P (f.eval P) o H))
        (cond (Oper.quiet P o) (drawQuiet P o p k f past later (opA P (f.eval P) o H)) (drawActs o k f past later (runOp P call y (f.eval P) o H)))

/-- The region's operations in the order of the text; 'past': the heaps so far, the newest first; 'later': quiet operations which another order may ask at other heaps: held at the region's end. -/
noncomputable def drawA (P : Program) (call : ACall) (y : Option (Nat × Yld)) (ops : Array Oper) (l : List (Oper × Plan)) : DK :=
  List.rec (motive := fun _ => DK) (fun f past later => drawEnd P f past later) (fun x _ ih => drawOne P call y ops x.1 x.2 ih) l
theorem drawA_nil (P : Program) (call : ACall) (y : Option (Nat × Yld)) (ops : Array Oper) (f : Frm) (past : List AH) (later : List Later) :
    drawA P call y ops [] f past later = drawEnd P f past later := rfl
theorem drawA_cons (P : Program) (call : ACall) (y : Option (Nat × Yld)) (ops : Array Oper) (x : Oper × Plan) (rest : List (Oper × Plan)) :
    drawA P call y ops (x :: rest) = drawOne P call y ops x.1 x.2 (drawA P call y ops rest) := rfl

noncomputable def loopNext (ih : Frm → AH → Out) : Out → Out
  | some (.normal, f', H') => ih f' H'
  | r => r
noncomputable def loopA (step : Frm → AH → Out) (n : Nat) : Frm → AH → Out :=
  Nat.rec (motive := fun _ => Frm → AH → Out) (fun _ _ => none) (fun _ ih f H => loopNext ih (step f H)) n
theorem loopA_zero (step : Frm → AH → Out) (f : Frm) (H : AH) : loopA step 0 f H = none := rfl
theorem loopA_succ (step : Frm → AH → Out) (n : Nat) (f : Frm) (H : AH) : loopA step (n + 1) f H = loopNext (loopA step n) (step f H) := rfl

noncomputable def condA (c : AV) (x y : Frm → AH → Out) (f : Frm) (H : AH) : Out :=
  match c with
  | .atom (.bool b) => cond b (x f H) (y f H)
  | _ => none

def blockA (id : Nat) : Out → Out
  | some (.exit id', f', H') => cond (Nat.beq id' id) (some (.normal, f', H')) (some (.exit id', f', H'))
  | r => r

noncomputable def putAll (f : Frm) (ps : List Nat) (args : List AV) : Frm := (ps.zip args).foldl (fun f x => f.put (some x.1) x.2) f

/-- One round of a range over a function. -/
noncomputable def roundBody (body : Frm → AH → Out) : Out → Option AH
  | some (.normal, f', H') => match body f' H' with
    | some (.normal, f'', H'') => cond f''.defers.isEmpty (some H'') none
    | _ => none
  | _ => none
noncomputable def roundA (ps : List Nat) (assign body : Frm → AH → Out) (f : Frm) (args : List AV) (H : AH) : Option AH :=
  cond (Nat.beq args.length ps.length) (roundBody body (assign (putAll { f with defers := [], rd := true } ps args) H)) none

noncomputable def rangeEnd (f : Frm) : Option CRes → Out
  | some (.ret _ H') => some (.normal, f, H')
  | _ => none
noncomputable def rangeA (P : Program) (call : ACall) (g : AV) (ps : List Nat) (assign body : Frm → AH → Out) (f : Frm) (H : AH) : Out :=
  match g with
  | .fn (.func h) [] cap =>
    match callFn P h (.fn (.yield H.next) [] [] :: cap) { H with next := H.next + 1 } with
    | some (.enter h' args H1) => rangeEnd f (call h' args (some (H.next, roundA ps assign body f)) H1)
    | _ => none
  | _ => none

noncomputable def regionA (P : Program) (call : ACall) (y : Option (Nat × Yld)) (ops : Array Oper) (draw : Bool) (f : Frm) (H : AH) : Out :=
  match draw with
  | false => regA P call y ops ops.toList f H
  | true =>
    match planOf P ops.toList with
    | none => none
    | some plan => drawA P call y ops (ops.toList.zip plan) f [H] []

/-- A piece of code. 'L': the most rounds of a loop. 'yn': may it be a round's code. -/
noncomputable def codeA (P : Program) (call : ACall) (L : Nat) (c : Code) : Option (Nat × Yld) → Frm → AH → Out :=
  Code.rec (motive := fun _ => Option (Nat × Yld) → Frm → AH → Out)
    (fun _ f H => some (.normal, f, H))
    (fun _ ops draw y f H => regionA P call y ops draw f H)
    (fun _ _ a b y f H => loopNext (b y) (a y f H))
    (fun c _ _ a b y f H => condA (f.eval P c) (a y) (b y) f H)
    (fun id _ a y f H => blockA id (a y f H))
    (fun _ a y f H => loopA (a y) L f H)
    (fun g ps _ _ a b _ f H => rangeA P call (f.eval P g) ps.toList (a none) (b none) f H)
    (fun id _ f H => some (.exit id, f, H))
    (fun _ a y f H => a y f H)
    (fun _ _ f H => some (.normal, f, H))
    (fun _ _ _ _ => none)
    (fun _ f H => some (.ret, f, H))
    (fun _ _ _ _ => none) c

/-- What a frame returns. -/
noncomputable def resultA (P : Program) (H : AH) (f : Frm) : List ResultVar → Option (List AV)
  | [] => some []
  | .tmp t :: rest => (resultA P H f rest).map (f.slot t :: ·)
  | .cell a t :: rest => match loadA P H t (f.slot a), resultA P H f rest with
    | some v, some l => some (v :: l)
    | _, _ => none

noncomputable def resultsA (P : Program) (H : AH) (f : Frm) (rs : List ResultVar) : Option AV :=
  match resultA P H f rs with
  | some [v] => some v
  | some l => some (.tuple l)
  | none => none

abbrev OutD := Option (AX × Frm × AH × Option AV)

/-- A deferred function's code: 'pan' is what the caller is panicking with, if it is; what is recovered is struck. -/
noncomputable def regD (P : Program) (call : ACall) (ops : Array Oper) : List Oper → Frm → AH → Option AV → OutD
  | [], f, H, pan => some (.normal, f, H, pan)
  | o :: rest, f, H, pan =>
    match wantedA ops o f with
    | none => none
    | some false => regD P call ops rest (f.put o.dst (.atom undef)) H pan
    | some true =>
      match o.op with
      | .call { callee := .builtin .recover, .. } => regD P call ops rest (f.put o.dst (pan.getD (.atom .nilIface))) H none
      | _ =>
        match opA P (f.eval P) o H with
        | some (.value v H) => regD P call ops rest (f.put o.dst v) H pan
        | some (.skip H) => regD P call ops rest (f.put o.dst (.atom undef)) H pan
        | some (.panic v H) => some (.pan v, f, H, pan)
        | _ => none

def withPan (pan : Option AV) : Out → OutD
  | some (x, f', H') => some (x, f', H', pan)
  | none => none
noncomputable def seqD (k : Frm → AH → Option AV → OutD) : OutD → OutD
  | some (.normal, f', H', pan') => k f' H' pan'
  | r => r
noncomputable def codeD (P : Program) (call : ACall) : Code → Frm → AH → Option AV → OutD
  | .skip, f, H, pan => some (.normal, f, H, pan)
  | .ret, f, H, pan => some (.ret, f, H, pan)
  | .region _ ops false, f, H, pan => regD P call ops ops.toList f H pan
  | .region _ ops true, f, H, pan => withPan pan (regionA P call none ops true f H)
  | .seq a b, f, H, pan => seqD (codeD P call b) (codeD P call a f H pan)
  | .cond c a b, f, H, pan =>
    match f.eval P c with
    | .atom (.bool true) => codeD P call a f H pan
    | .atom (.bool false) => codeD P call b f H pan
    | _ => none
  | _, _, _, _ => none

noncomputable def fillT (l : List AV) : Nat → Tr AV → Tr AV :=
  List.rec (motive := fun _ => Nat → Tr AV → Tr AV) (fun _ t => t) (fun a _ ih i t => ih (i + 1) (t.put (i + 1) i (some a))) l
noncomputable def enterA (fn : Func) (args : List AV) : Frm := { n := max args.length fn.ntmps, rd := false, tmps := fillT args 0 .leaf, defers := [] }

def ended (f : Frm) (H : AH) (pan : Option AV) (ok : Bool) : Option (Option AV × AH) := cond (f.defers.isEmpty && ok) (some (pan, H)) none

def leftD (rs : List ResultVar) : OutD → Option (Option AV × AH)
  | some (.normal, f', H', pan') | some (.ret, f', H', pan') => ended f' H' pan' rs.isEmpty
  | some (.pan v, f', H', none) => ended f' H' (some v) true
  | _ => none
/-- One call that was put off. -/
noncomputable def leaveOne (P : Program) (call : ACall) (g : FuncId) (args : List AV) (pan : Option AV) (H : AH) : Option (Option AV × AH) :=
  match P.funcs[g]? with
  | none => none
  | some fn => match fn.body with
    | none => none
    | some c => leftD fn.results.toList (codeD P call c (enterA fn args) H pan)

/-- The calls that were put off: the newest first. 'pan': what the frame is panicking with. -/
noncomputable def leaveA (P : Program) (call : ACall) : List (FuncId × List AV) → Option AV → AH → Option (Option AV × AH)
  | [], pan, H => some (pan, H)
  | (g, args) :: rest, pan, H =>
    match leaveOne P call g args pan H with
    | some (pan', H') => leaveA P call rest pan' H'
    | none => none

noncomputable def giveA (P : Program) (f : Frm) (rs : List ResultVar) : Option (Option AV × AH) → Option CRes
  | some (none, H) => match resultsA P H f rs with
    | some v => some (.ret v H)
    | none => none
  | some (some v, H) => some (.pan v H)
  | none => none

noncomputable def endA (P : Program) (call : ACall) (rs : List ResultVar) : Out → Option CRes
  | some (.normal, f, H') | some (.ret, f, H') => giveA P f rs (leaveA P call f.defers none H')
  | some (.pan v, f, H') => giveA P f rs (leaveA P call f.defers (some v) H')
  | _ => none

noncomputable def bodyA (P : Program) (call : ACall) (L : Nat) (fn : Func) (args : List AV) (y : Option (Nat × Yld)) (H : AH) : Option CRes :=
  match fn.body with
  | none => none
  | some c => endA P call fn.results.toList (codeA P call L c y (enterA fn args) H)

noncomputable def callStep (P : Program) (L : Nat) (ih : ACall) : ACall := fun g args y H =>
  match P.funcs[g]? with
  | none => none
  | some fn => bodyA P ih L fn args y H

def primOr : Option CRes → Option CRes → Option CRes
  | some r, _ => some r
  | none, x => x

/-- A call, at most so deep; 'prim': what is known otherwise of calls. -/
noncomputable def callA (P : Program) (prim : ACall) (L n : Nat) : ACall :=
  Nat.rec (motive := fun _ => ACall) (fun _ _ _ _ => none)
    (fun _ ih g args y H => primOr (prim g args y H) (callStep P L ih g args y H)) n

end Go.Am
