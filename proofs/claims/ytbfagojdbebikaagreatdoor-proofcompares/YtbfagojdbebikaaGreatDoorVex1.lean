/- VEX, part 1: an evaluator of the model's code over values whose blocks are labels, not addresses. Definitions alone; generic in the program. -/
import GoSem.Step
import Derived.Orders
namespace Go.Vex
open Go

/-- A value whose blocks are labels. A string is the list of its bytes, as numbers. A slice's capacity: known, or not (it came out of an append that grew): then the cells of an element. -/
inductive Cap where
  | k (c : Nat)
  | u (es : Nat)
  deriving DecidableEq, Inhabited
inductive V where
  | int (k : IntKind) (n : Int)
  | bool (b : Bool)
  | str (s : List Nat)
  | ptr (l off : Nat)
  | nptr
  | slice (l off len : Nat) (cap : Cap)
  | nslice
  | map (l : Nat)
  | nmap
  | func (f : FuncId) (first captured : List V)
  | yield (l : Nat)
  | nfunc
  | iface (t : TypeId) (v : V)
  | niface
  | agg (cs : List V)
  | tup (vs : List V)
  deriving Inhabited

/-- A map from numbers, as a binary trie. -/
inductive T (α : Type) where
  | leaf
  | node (l : T α) (v : Option α) (r : T α)

namespace T
variable {α : Type}
def get : T α → Nat → Option α
  | .leaf, _ => none
  | .node l v r, k =>
    match Nat.beq k 0 with
    | true => v
    | false => match Nat.beq (k % 2) 1 with
      | true => l.get (k / 2)
      | false => r.get (k / 2 - 1)
def single : Nat → Nat → Option α → T α
  | 0, _, _ => .leaf
  | f + 1, k, x =>
    match Nat.beq k 0 with
    | true => .node .leaf x .leaf
    | false => match Nat.beq (k % 2) 1 with
      | true => .node (single f (k / 2) x) none .leaf
      | false => .node .leaf none (single f (k / 2 - 1) x)
def put : T α → Nat → Option α → T α
  | .leaf, k, x => single (k + 1) k x
  | .node l v r, k, x =>
    match Nat.beq k 0 with
    | true => .node l x r
    | false => match Nat.beq (k % 2) 1 with
      | true => .node (l.put (k / 2) x) v r
      | false => .node l v (r.put (k / 2 - 1) x)
end T

/-- What is known of a block of cells: all of it; its first cells; or some of its cells, never to be written. -/
inductive Kd where
  | exact | grown | ro
  deriving DecidableEq, Inhabited

inductive HObj where
  | cells (cs : List V) (t : TypeId) (kd : Kd)
  | map (es : List (V × V × Nat)) (clock : Nat)
  | loop (s : LoopState) (pend : Option Code) (ts : T V) (N : Nat) (params : List Tmp) (assign body : Code) (dl : Nat)
  | deferred (live : Bool)

structure St where
  h : T HObj
  n : Nat

/-- A frame: its temporaries and how many there are, the marks of its range-over-func loops, the round that it is of. -/
structure Fr where
  ts : T V
  N : Nat
  dm : List Nat
  ro : Option Nat

def St.new (st : St) (o : HObj) : Nat × St := (st.n, ⟨st.h.put st.n (some o), st.n + 1⟩)
def St.set (st : St) (l : Nat) (o : HObj) : St := ⟨st.h.put l (some o), st.n⟩

def undefV : V := .tup []

/-- The value of a literal of the text. -/
def ofConst : Nat → Value → Option V
  | _, .bool b => some (.bool b)
  | _, .int k n => some (.int k n)
  | _, .string s => some (.str (s.data.toList.map UInt8.toNat))
  | _, .pointer none => some .nptr
  | _, .slice none 0 0 => some .nslice
  | _, .map none => some .nmap
  | _, .nilFunc => some .nfunc
  | _, .nilIface => some .niface
  | d + 1, .agg cs => (cs.toList.mapM (ofConst d)).map .agg
  | d + 1, .tuple cs => (cs.toList.mapM (ofConst d)).map .tup
  | _, _ => none

def ev (G : Nat) (ts : T V) : Operand → Option V
  | .tmp t => some ((ts.get t).getD undefV)
  | .const v => ofConst 4 v
  | .global g => match Nat.blt g G with
    | true => some (.ptr g 0)
    | false => none
  | .func f => some (.func f [] [])

def evs (G : Nat) (ts : T V) : List Operand → Option (List V)
  | [] => some []
  | x :: xs => (ev G ts x).bind fun v => (evs G ts xs).map (v :: ·)

def putD (ts : T V) (N : Nat) (d : Option Tmp) (v : V) : T V :=
  match d with
  | some t => match Nat.ble N t with
    | true => ts
    | false => ts.put t (some v)
  | none => ts

def yieldedV (ops : Array Oper) (ts : T V) (N : Nat) (j : Nat) : Option Bool :=
  match (ops[j]?).bind (·.dst) with
  | some t => match Nat.ble N t with
    | true => none
    | false => match (ts.get t).getD undefV with
      | .bool b => some b
      | _ => none
  | none => none

def wantedV (ops : Array Oper) (ts : T V) (N : Nat) (o : Oper) : Bool :=
  match o.guard with
  | none => true
  | some (j, want) => match yieldedV ops ts N j with
    | some b => b == want
    | none => false

section
variable (P : Program)

def sizeV (t : TypeId) : Option Nat := (P.info? t).map (·.size)
def zeroV (t : TypeId) : Option V := ((P.info? t).bind (·.zero)).bind (ofConst 4)

def isAggV (t : TypeId) : Option Bool :=
  match P.underlying t with
  | some (.struct _) => some true
  | some (.array _ _) => some true
  | some _ => some false
  | none => none

def V.cells : V → List V
  | .agg cs => cs
  | v => [v]

/-- A value that fits one cell. -/
def V.isCell : V → Bool
  | .agg _ => false
  | .tup _ => false
  | _ => true

/-- Exactly n elements from off on. -/
def cut (cs : List V) : Nat → Nat → Option (List V)
  | 0, n => take cs n
  | off + 1, n => match cs with
    | [] => none
    | _ :: r => cut r off n
where
  take : List V → Nat → Option (List V)
    | _, 0 => some []
    | [], _ + 1 => none
    | v :: r, n + 1 => (take r n).map (v :: ·)

/-- The list with vs written over it from off on; none where it does not reach so far. -/
def over (cs : List V) : Nat → List V → Option (List V)
  | 0, vs => lay cs vs
  | off + 1, vs => match cs with
    | [] => match vs with
      | [] => some []
      | _ :: _ => none
    | c :: r => (over r off vs).map (c :: ·)
where
  lay : List V → List V → Option (List V)
    | cs, [] => some cs
    | [], _ :: _ => none
    | _ :: r, v :: vs => (lay r vs).map (v :: ·)

def partV (t : TypeId) (cs : List V) (off : Nat) : Option V :=
  match isAggV P t with
  | some true => (sizeV P t).bind fun n => (cut cs off n).map .agg
  | some false => cs[off]?
  | none => none

def loadV (t : TypeId) (l off : Nat) (st : St) : Option V :=
  match st.h.get l with
  | some (.cells cs _ _) => partV P t cs off
  | _ => none

def storeCellsV (l off : Nat) (vs : List V) (st : St) : Option St :=
  match vs with
  | [] => some st
  | _ :: _ => match st.h.get l with
    | some (.cells cs t kd) => match kd with
      | .ro => none
      | kd => match vs.all V.isCell with
        | true => (over cs off vs).map fun cs' => st.set l (.cells cs' t kd)
        | false => none
    | _ => none

def storeV (t : TypeId) (l off : Nat) (v : V) (st : St) : Option St :=
  (sizeV P t).bind fun n => match Nat.beq v.cells.length n with
    | true => storeCellsV l off v.cells st
    | false => none

def fillV (place : Nat → Option (Nat × Nat)) (cells : List V) : List (Nat × V) → Option (List V)
  | [] => some cells
  | (i, v) :: rest => (place i).bind fun p => match Nat.beq v.cells.length p.2 && Nat.ble (p.1 + v.cells.length) cells.length with
    | true => (over cells p.1 v.cells).bind fun cs => fillV place cs rest
    | false => none

def partsV (G : Nat) (ts : T V) : List (Nat × Operand) → Option (List (Nat × V))
  | [] => some []
  | (i, x) :: xs => (ev G ts x).bind fun v => (partsV G ts xs).map ((i, v) :: ·)

def fieldsV (fs : List Field) : Option (List (Nat × Nat)) :=
  match fs with
  | [] => some []
  | f :: r => (sizeV P f.type).bind fun n => (fieldsV r).map ((f.offset, n) :: ·)

def buildV (t : TypeId) (parts : List (Nat × V)) : Option V :=
  (zeroV P t).bind fun z => match P.underlying t with
    | some (.struct fs) => (fieldsV P fs.toList).bind fun places => (fillV (places[·]?) z.cells parts).map .agg
    | some (.array _ e) => (sizeV P e).bind fun n => (fillV (fun i => some (i * n, n)) z.cells parts).map .agg
    | _ => none

/-- n copies of a list, one behind the other. -/
def copies (z : List V) : Nat → List V
  | 0 => []
  | n + 1 => z ++ copies z n

def zerosV (e : TypeId) (n : Nat) : Option (List V) :=
  match n with
  | 0 => some []
  | n + 1 => (zeroV P e).bind fun z => (sizeV P e).bind fun s => match Nat.beq z.cells.length s, s with
    | true, _ + 1 => some (copies z.cells (n + 1))
    | _, _ => none

/-- '==' of two values of a plain kind. -/
def eqPrim (d : TypeDesc) (a b : V) : Option Bool :=
  match d, a, b with
  | .bool, .bool a, .bool b => some (a == b)
  | .int _, .int k a, .int k' b => if k = k' then some (a == b) else none
  | .string, .str a, .str b => some (a == b)
  | _, _, _ => none

/-- '==' of two structs whose fields are all of plain kinds. -/
def eqFields (xs ys : List V) : List Field → Option Bool
  | [] => some true
  | f :: fs => if f.name = "_" then none else
    match P.underlying f.type, xs[f.offset]?, ys[f.offset]? with
    | some d, some (a : V), some (b : V) => (eqPrim d a b).bind fun r => match r with
      | true => eqFields xs ys fs
      | false => (eqFields xs ys fs).map fun _ => false
    | _, _, _ => none

def binV (op : BinOp) (t : TypeId) (cx cy : Bool) (x y : V) : Option V :=
  match x, y with
  | .int k a, .int j b =>
    match op with
    | .shl => if b < 0 then none else some (.int k (k.wrap (a * 2 ^ (min b.toNat k.bits))))
    | .shr => if b < 0 then none else some (.int k (a.fdiv (2 ^ (min b.toNat k.bits))))
    | _ =>
    if k = j then
    match op with
    | .add => some (.int k (k.wrap (a + b)))
    | .sub => some (.int k (k.wrap (a - b)))
    | .mul => some (.int k (k.wrap (a * b)))
    | .quo => if b = 0 then none else some (.int k (k.wrap (a.tdiv b)))
    | .rem => if b = 0 then none else some (.int k (a.tmod b))
    | .eql => some (.bool (a == b))
    | .neq => some (.bool (a != b))
    | .lss => some (.bool (decide (a < b)))
    | .leq => some (.bool (decide (a ≤ b)))
    | .gtr => some (.bool (decide (b < a)))
    | .geq => some (.bool (decide (b ≤ a)))
    | .and => some (.int k (k.wrap ((BitVec.ofInt k.bits a &&& BitVec.ofInt k.bits b).toNat)))
    | .or => some (.int k (k.wrap ((BitVec.ofInt k.bits a ||| BitVec.ofInt k.bits b).toNat)))
    | .xor => some (.int k (k.wrap ((BitVec.ofInt k.bits a ^^^ BitVec.ofInt k.bits b).toNat)))
    | _ => none
    else none
  | .str a, .str b =>
    match op with
    | .add => match Nat.ble (a.length + b.length) 9223372036854775807 with
      | true => some (.str (a ++ b))
      | false => none
    | .eql => some (.bool (a == b))
    | .neq => some (.bool (!(a == b)))
    | .lss => some (.bool (lessL a b))
    | .leq => some (.bool (lessL a b || a == b))
    | .gtr => some (.bool (!(lessL a b || a == b)))
    | .geq => some (.bool (!(lessL a b)))
    | _ => none
  | x, y =>
    match op with
    | .eql => (eqV t cx cy x y).map .bool
    | .neq => (eqV t cx cy x y).map fun b => .bool (!b)
    | _ => none
where
  lessL : List Nat → List Nat → Bool
    | _, [] => false
    | [], _ :: _ => true
    | a :: x, b :: y => Nat.blt a b || (Nat.beq a b && lessL x y)
  eqV (t : TypeId) (cx cy : Bool) (x y : V) : Option Bool :=
    match P.underlying t, x, y with
    | some .bool, .bool a, .bool b => some (a == b)
    | some (.pointer _), .nptr, .nptr => some true
    | some (.pointer _), .nptr, .ptr _ _ => some false
    | some (.pointer _), .ptr _ _, .nptr => some false
    | some (.pointer e), .ptr l a, .ptr m b => match Nat.beq l m, sizeV P e with
      | true, some (_ + 1) => some (Nat.beq a b)
      | _, _ => none
    | some (.interface _), .niface, .niface => match cx || cy with
      | true => some true
      | false => none
    | some (.interface _), .niface, .iface _ _ => some false
    | some (.interface _), .iface _ _, .niface => some false
    | some (.slice _), .nslice, .nslice => some true
    | some (.slice _), .nslice, .slice .. => some false
    | some (.slice _), .slice .., .nslice => some false
    | some (.map _ _), .nmap, .nmap => some true
    | some (.map _ _), .nmap, .map _ => some false
    | some (.map _ _), .map _, .nmap => some false
    | some (.func _ _ _), .nfunc, .nfunc => some true
    | some (.func _ _ _), .nfunc, .func .. => some false
    | some (.func _ _ _), .func .., .nfunc => some false
    | some (.struct fs), .agg xs, .agg ys => match P.stoodInHeld t, P.eqGuardType P.depth t with
      | false, false => eqFields P xs ys fs.toList
      | _, _ => none
    | _, _, _ => none

def unV (op : UnOp) (x : V) : Option V :=
  match op, x with
  | .neg, .int k n => some (.int k (k.wrap (0 - n)))
  | .not, .bool b => some (.bool (!b))
  | _, _ => none

def convV (src dst : TypeId) (x : V) (st : St) : Option V :=
  match P.underlying src, P.underlying dst, x with
  | some _, some (.int k), .int _ n => some (.int k (k.wrap n))
  | some _, some .string, .str s => some (.str s)
  | some (.pointer t), some .unsafePointer, .ptr l off => match st.h.get l, sizeV P t with
    | some (.cells cs _ .exact), some (_ + 1) => match Nat.blt off cs.length with
      | true => some (.ptr l off)
      | false => none
    | _, _ => none
  | some .unsafePointer, some (.pointer u), .ptr l off => match st.h.get l, sizeV P u with
    | some (.cells cs e .exact), some _ => match liesAt P P.depth e (cs.length / P.cellsOf e) off u 1 with
      | true => some (.ptr l off)
      | false => none
    | _, _ => none
  | _, _, _ => none

/-- A bound of a slice expression. -/
def boundV (x : V) (y : Nat) : Option Nat :=
  match x with
  | .int _ i => if 0 ≤ i ∧ i ≤ (y : Int) then some i.toNat else none
  | _ => none

def loB (k : Nat) : Option V → Option Nat
  | some v => boundV v k
  | none => some 0
def mxB (cap : Nat) : Option V → Option Nat
  | some v => boundV v cap
  | none => some cap
def hiB (len cap m : Nat) : Option V → Option V → Option Nat
  | some v, some _ => boundV v m
  | some v, none => boundV v cap
  | none, none => some len
  | none, some _ => none
def mxN (len : Nat) : Option V → Option (Option Nat)
  | some v => (boundV v len).map some
  | none => some none
def hiN (len : Nat) : Option V → Option Nat → Option Nat
  | some v, some m => boundV v m
  | some v, none => boundV v len
  | none, none => some len
  | none, some _ => none

/-- The three numbers of a slice expression over what has a length and a capacity. -/
def boundsV (len cap : Nat) (lo hi mx : Option V) : Option (Nat × Nat × Nat) :=
  (mxB cap mx).bind fun m => (hiB len cap m hi mx).bind fun h => (loB h lo).bind fun l => some (l, h, m)

/-- The same where the capacity is not known. -/
def boundsN (len : Nat) (lo hi mx : Option V) : Option (Nat × Nat × Option Nat) :=
  (mxN len mx).bind fun m => (hiN len hi m).bind fun h => (loB h lo).bind fun l => some (l, h, m)

def moveOff (off size l m : Nat) : Nat :=
  match Nat.beq m l with
  | true => off
  | false => off + l * size

def sliceV (t : TypeId) (x : V) (lo hi mx : Option V) : Option V :=
  match P.underlying t, x with
  | some .string, .str s => match mx with
    | some _ => none
    | none => (boundsV s.length s.length lo hi none).map fun r => .str ((s.drop r.1).take (r.2.1 - r.1))
  | some (.slice e), .nslice => (sizeV P e).bind fun _ => (boundsV 0 0 lo hi mx).map fun _ => .nslice
  | some (.slice e), .slice l off len (.k cap) => (sizeV P e).bind fun size => (boundsV len cap lo hi mx).map fun r =>
      .slice l (moveOff off size r.1 r.2.2) (r.2.1 - r.1) (.k (r.2.2 - r.1))
  | some (.slice e), .slice l off len (.u es) => (sizeV P e).bind fun size => match Nat.beq size es with
    | true => (boundsN len lo hi mx).bind fun r => match r.2.2 with
      | some m => match Nat.blt 0 len with
        | true => some (.slice l (moveOff off size r.1 m) (r.2.1 - r.1) (.k (m - r.1)))
        | false => none
      | none => some (.slice l (off + r.1 * size) (r.2.1 - r.1) (.u es))
    | false => none
  | some (.array n e), .ptr l off => (sizeV P e).bind fun size => (boundsV n n lo hi mx).map fun r =>
      .slice l (moveOff off size r.1 r.2.2) (r.2.1 - r.1) (.k (r.2.2 - r.1))
  | _, _ => none

def evO (G : Nat) (ts : T V) : Option Operand → Option (Option V)
  | none => some none
  | some x => (ev G ts x).map some

def sameKey (d : TypeDesc) (a b : V) : Option Bool :=
  match d, a, b with
  | .int _, .int k a, .int k' b => if k = k' then some (a == b) else none
  | .string, .str a, .str b => some (a == b)
  | .bool, .bool a, .bool b => some (a == b)
  | _, _, _ => none

def findV (d : TypeDesc) (k : V) : List (V × V × Nat) → Nat → Option (Option (Nat × V))
  | [], _ => some none
  | e :: es, i => match sameKey d k e.1 with
    | some true => some (some (i, e.2.1))
    | some false => findV d k es (i + 1)
    | none => none

/-- What a map holds at a key. -/
def lookV (d : TypeDesc) (k m : V) (st : St) : Option (Option (Nat × V)) :=
  match m with
  | .nmap => some none
  | .map l => match st.h.get l with
    | some (.map es _) => findV d k es 0
    | _ => none
  | _ => none
def lookR (et : TypeId) (ok : Bool) : Option (Nat × V) → Option V
  | some (_, v) => some (if ok then .tup [v, .bool true] else v)
  | none => (zeroV P et).map fun z => if ok then .tup [z, .bool false] else z

def setVal : List (V × V × Nat) → Nat → V → V → List (V × V × Nat)
  | [], _, _, _ => []
  | e :: es, 0, k, v => (k, v, e.2.2) :: es
  | e :: es, i + 1, k, v => e :: setVal es i k v
def updV (st : St) (l : Nat) (es : List (V × V × Nat)) (clock : Nat) (k v : V) : Option (Nat × V) → St
  | some (i, _) => st.set l (.map (setVal es i k v) clock)
  | none => st.set l (.map (es ++ [(k, v, clock)]) (clock + 1))

/-- A key of a plain kind. -/
def plainKey (d : TypeDesc) (k : V) : Bool :=
  match d, k with
  | .int _, .int _ _ => true
  | .string, .str _ => true
  | .bool, .bool _ => true
  | _, _ => false

def isConstB : Operand → Bool
  | .const _ => true
  | _ => false

/-- The operations that make one block, which hangs on no memory: the block, and the value by its label. -/
def allocV (G : Nat) (ts : T V) (o : Op) : Option (HObj × (Nat → V)) :=
  match o with
  | .alloc t => (zeroV P t).map fun z => (.cells z.cells t .exact, fun l => .ptr l 0)
  | .box t x => (ev G ts x).map fun v => (.cells v.cells t .exact, fun l => .ptr l 0)
  | .buildSlice t len ps => match P.underlying t with
    | some (.slice e) => (sizeV P e).bind fun size => match Nat.ble (len * size) 16777216 with
      | true => (zerosV P e len).bind fun z => (partsV G ts ps.toList).bind fun ps =>
          (fillV (fun i => some (i * size, size)) z ps).map fun cs => (.cells cs e .exact, fun l => .slice l 0 len (.k len))
      | false => none
    | _ => none
  | .makeMap _ none => some (.map [] 0, fun l => .map l)
  | .makeSlice t l c => match P.underlying t with
    | some (.slice e) => (ev G ts l).bind fun l => (ev G ts c).bind fun c => match l, c with
      | .int _ l, .int _ c => match (P.info? e).map (·.bytes) with
        | some bytes => if 0 ≤ l ∧ l ≤ c ∧ c ≤ 1048576 ∧ bytes ≤ 1048576 then
            (zerosV P e c.toNat).map fun z => (.cells z e .exact, fun lb => .slice lb 0 l.toNat (.k c.toNat))
          else none
        | none => none
      | _, _ => none
    | _ => none
  | _ => none

/-- The operations that call nothing. -/
def opV (G : Nat) (ts : T V) (st : St) (o : Op) : Option (V × St) :=
  match o with
  | .move x | .assign x => (ev G ts x).map (·, st)
  | .pick c a b => (ev G ts c).bind fun c => match c with
    | .bool true => (ev G ts a).map (·, st)
    | .bool false => (ev G ts b).map (·, st)
    | _ => none
  | .alloc _ | .box _ _ | .buildSlice _ _ _ | .makeMap _ _ | .makeSlice _ _ _ => (allocV P G ts o).map fun r => (r.2 st.n, (st.new r.1).2)
  | .build t ps => (partsV G ts ps.toList).bind fun ps => (buildV P t ps).map (·, st)
  | .load t a => (ev G ts a).bind fun a => match a with
    | .ptr l off => (loadV P t l off st).map (·, st)
    | _ => none
  | .store t a x => (ev G ts a).bind fun a => (ev G ts x).bind fun v => match a with
    | .ptr l off => (storeV P t l off v st).map (undefV, ·)
    | _ => none
  | .nilCheck x => (ev G ts x).bind fun v => match v with
    | .ptr _ _ => some (v, st)
    | .func _ _ _ => some (v, st)
    | .yield _ => some (v, st)
    | .iface _ _ => some (v, st)
    | .agg _ => some (v, st)
    | _ => none
  | .binOp op t x y _ => (ev G ts x).bind fun a => (ev G ts y).bind fun b => (binV P op t (isConstB x) (isConstB y) a b).map (·, st)
  | .unOp op _ x => (ev G ts x).bind fun a => (unV op a).map (·, st)
  | .convert s d x => (ev G ts x).bind fun a => match P.underlying s, P.underlying d, a with
    | some _, some (.slice e), .str bs => match P.underlying e with
      | some (.int .u8) => match Nat.ble bs.length 1048576, sizeV P e with
        | true, some 1 => match st.new (.cells (bs.map fun (b : Nat) => V.int .u8 (b : Int)) e .grown) with
          | (l, st') => some (.slice l 0 bs.length (.u 1), st')
        | _, _ => none
      | _ => none
    | _, _, _ => (convV P s d a st).map (·, st)
  | .makeInterface t x => (ev G ts x).bind fun a => match P.underlying t with
    | some (.interface _) => none
    | some _ => some (.iface t a, st)
    | none => none
  | .makeFunc (.func f) first captured => (evs G ts first.toList).bind fun a => (evs G ts captured.toList).map fun b => (.func f a b, st)
  | .slice t x lo hi mx => (ev G ts x).bind fun x => (evO G ts lo).bind fun lo => (evO G ts hi).bind fun hi => (evO G ts mx).bind fun mx =>
      (sliceV P t x lo hi mx).map (·, st)
  | .fieldAddr s x f => (ev G ts x).bind fun x => match P.underlying s, x with
    | some (.struct fs), .ptr l off => match fs[f]? with
      | some f => match sizeV P f.type with
        | some (_ + 1) => some (.ptr l (off + f.offset), st)
        | _ => none
      | none => none
    | _, _ => none
  | .field t x f => (ev G ts x).bind fun x => match P.underlying t, x with
    | some (.struct fs), .agg cs => match fs[f]? with
      | some f => (partV P f.type cs f.offset).map (·, st)
      | none => none
    | _, _ => none
  | .indexAddr t x i => (ev G ts x).bind fun x => (ev G ts i).bind fun i => match P.underlying t, x, i with
    | some (.array n e), .ptr l off, .int _ i => if 0 ≤ i ∧ i < (n : Int) then (sizeV P e).map fun s => (.ptr l (off + i.toNat * s), st) else none
    | some (.slice e), .slice l off len _, .int _ i => if 0 ≤ i ∧ i < (len : Int) then (sizeV P e).map fun s => (.ptr l (off + i.toNat * s), st) else none
    | _, _, _ => none
  | .index t x i => (ev G ts x).bind fun x => (ev G ts i).bind fun i => match P.underlying t, x, i with
    | some (.array n e), .agg cs, .int _ i => if 0 ≤ i ∧ i < (n : Int) then (sizeV P e).bind fun s => (partV P e cs (i.toNat * s)).map (·, st) else none
    | some .string, .str s, .int _ i => if 0 ≤ i then (s[i.toNat]?).map fun (b : Nat) => (V.int .u8 (b : Int), st) else none
    | _, _, _ => none
  | .lookup t m k ok => (ev G ts m).bind fun m => (ev G ts k).bind fun k => match P.underlying t with
    | some (.map kt et) => match P.underlying kt with
      | some d => match plainKey d k with
        | true => (lookV d k m st).bind fun r => (lookR P et ok r).map (·, st)
        | false => none
      | none => none
    | _ => none
  | .mapUpdate t m k x | .insert t m k x => (ev G ts m).bind fun m => (ev G ts k).bind fun k => (ev G ts x).bind fun v => match P.underlying t with
    | some (.map kt _) => match P.underlying kt, m with
      | some d, .map l => match plainKey d k, st.h.get l with
        | true, some (.map es clock) => (findV d k es 0).map fun r => (undefV, updV st l es clock k v r)
        | _, _ => none
      | _, _ => none
    | _ => none
  | .extract x i => (ev G ts x).bind fun x => match x with
    | .tup vs => (vs[i]?).map (·, st)
    | _ => none
  | _ => none

/-- How many elements, and the cells, of what is appended or copied. -/
def srcV (size : Nat) (x : V) (st : St) : Option (Nat × List V) :=
  match x with
  | .nslice => some (0, [])
  | .slice l off len _ => match st.h.get l with
    | some (.cells cs _ _) => (cut cs off (len * size)).map (len, ·)
    | _ => none
  | .str s => match size with
    | 1 => some (s.length, s.map fun (b : Nat) => V.int .u8 (b : Int))
    | _ => none
  | _ => none

/-- Whether what is appended is a number of zeros ('make' in the second place), by its type. -/
def zerosB : List TypeId → Option Bool
  | [] => some false
  | u :: _ => match P.underlying u with
    | some (.int _) => some true
    | some _ => some false
    | none => none

/-- What is appended. -/
def newV (tx : List TypeId) (e : TypeId) (size : Nat) (x : V) (st : St) : Option (Nat × List V) :=
  match zerosB P tx, x with
  | some true, .int _ n => if 0 ≤ n ∧ n ≤ 1048576 then (zerosV P e n.toNat).map (n.toNat, ·) else none
  | some false, x => srcV size x st
  | _, _ => none

def appendV (at_ : List TypeId) (s x : V) (st : St) : Option (V × St) :=
  match at_ with
  | t :: tx => match P.underlying t with
    | some (.slice e) => (sizeV P e).bind fun size => match size, (P.info? e).map (·.bytes) with
      | sz + 1, some bytes => match Nat.ble bytes 1048576 with
        | true => (newV P tx e (sz + 1) x st).bind fun new => match Nat.ble new.1 1048576 with
          | true => (zeroV P e).bind fun z => match Nat.beq z.cells.length (sz + 1) with
            | true => appendTo e (sz + 1) s new st
            | false => none
          | false => none
        | false => none
      | _, _ => none
    | _ => none
  | [] => none
where
  appendTo (e : TypeId) (size : Nat) (s : V) (new : Nat × List V) (st : St) : Option (V × St) :=
    match s with
    | .nslice => match Nat.beq new.1 0 with
      | true => some (.nslice, st)
      | false => match st.new (.cells new.2 e .grown) with
        | (l, st') => some (.slice l 0 new.1 (.u size), st')
    | .slice l off len (.k cap) => match Nat.ble (len + new.1) cap with
      | true => (storeCellsV l (off + len * size) new.2 st).map (.slice l off (len + new.1) (.k cap), ·)
      | false => match Nat.ble cap 1048576, st.h.get l with
        | true, some (.cells cs _ _) => (cut cs off (len * size)).map fun old => match st.new (.cells (old ++ new.2) e .grown) with
          | (l', st') => (.slice l' 0 (len + new.1) (.u size), st')
        | _, _ => none
    | .slice l off len (.u es) => match Nat.beq new.1 0 with
      | true => some (.slice l off len (.u es), st)
      | false => match Nat.ble len 1048576 && Nat.beq es size, st.h.get l with
        | true, some (.cells cs t' .grown) => match Nat.beq t' e with
          | false => none
          | true => match Nat.ble (off + (len + new.1) * size) cs.length with
            | true => (storeCellsV l (off + len * size) new.2 st).map (.slice l off (len + new.1) (.u es), ·)
            | false => match new.2.all V.isCell with
              | true => (cut cs off (len * size)).map fun old => match St.new ⟨st.h.put l none, st.n⟩ (.cells (old ++ new.2) e .grown) with
                | (l', st') => (.slice l' 0 (len + new.1) (.u size), st')
              | false => none
        | _, _ => none
    | _ => none

def lenV (t : TypeId) (x : V) (st : St) : Option Nat :=
  match P.underlying t, x with
  | some .string, .str s => some s.length
  | some (.array n _), _ => some n
  | some (.pointer a), _ => match P.underlying a with
    | some (.array n _) => some n
    | _ => none
  | some (.slice _), .slice _ _ n _ => some n
  | some (.slice _), .nslice => some 0
  | some (.map _ _), .nmap => some 0
  | some (.map _ _), .map l => match st.h.get l with
    | some (.map es _) => some es.length
    | _ => none
  | _, _ => none

def capV (t : TypeId) (x : V) : Option Nat :=
  match P.underlying t, x with
  | some (.array n _), _ => some n
  | some (.slice _), .slice _ _ _ (.k c) => some c
  | some (.slice _), .nslice => some 0
  | _, _ => none

def minV (x y : V) : Option V :=
  match x, y with
  | .int k a, .int _ b => some (.int k (if b < a then b else a))
  | _, _ => none
def maxV (x y : V) : Option V :=
  match x, y with
  | .int k a, .int _ b => some (.int k (if a < b then b else a))
  | _, _ => none
def foldV (f : V → V → Option V) : V → List V → Option V
  | x, [] => some x
  | x, y :: ys => (f x y).bind fun z => foldV f z ys

def bytesL : List V → Option (List Nat)
  | [] => some []
  | .int .u8 b :: r => if 0 ≤ b ∧ b < 256 then (bytesL r).map (b.toNat :: ·) else none
  | _ :: _ => none

def copyV (size : Nat) (d s : V) (st : St) : Option (V × St) :=
  match d with
  | .nslice => (srcV size s st).map fun _ => (V.int .i64 0, st)
  | .slice l off len _ => (srcV size s st).bind fun new =>
      (storeCellsV l off (new.2.take (min new.1 len * size)) st).map fun st' => (V.int .i64 (min new.1 len : Nat), st')
  | _ => none

def builtinV (b : Builtin) (at_ : List TypeId) (args : List V) (st : St) : Option (V × St) :=
  match b, at_, args with
  | .append, at_, [s, x] => appendV P at_ s x st
  | .len, t :: _, [x] => (lenV P t x st).map fun (n : Nat) => (V.int .i64 (n : Int), st)
  | .cap, t :: _, [x] => (capV P t x).map fun (n : Nat) => (V.int .i64 (n : Int), st)
  | .min, _, x :: xs => (foldV minV x xs).map (·, st)
  | .max, _, x :: xs => (foldV maxV x xs).map (·, st)
  | .copy, t :: _, [d, s] => match P.underlying t with
    | some (.slice e) => (sizeV P e).bind fun size => copyV size d s st
    | _ => none
  | .clear, t :: _, [.map l] => match P.underlying t, st.h.get l with
    | some (.map _ _), some (.map _ clock) => some (.tup [], st.set l (.map [] clock))
    | _, _ => none
  | .unsafeSliceData, _, [.nslice] => some (.nptr, st)
  | .unsafeSliceData, _, [.slice l off (_ + 1) _] => some (.ptr l off, st)
  | .unsafeString, _ :: _, [.nptr, .int _ 0] => some (.str [], st)
  | .unsafeString, t :: _, [.ptr l off, .int _ n] => match P.underlying t with
    | some (.pointer u) => if n ≤ 0 ∨ 1048576 < n then none else match st.h.get l, sizeV P u with
      | some (.cells cs e kd), some 1 => match Nat.beq e u && !(decide (kd = .ro)) with
        | true => (cut cs off n.toNat).bind fun bs => (bytesL bs).map fun bs => (.str bs, st.set l (.cells cs e .ro))
        | false => none
      | _, _ => none
    | _ => none
  | _, _, _ => none

/-- The functions without a body that are carried out. -/
inductive Ext where
  | same | indexByte | count | makeNoZero | index
  /- A function of the program's, of which it is known already what it answers (and that it turns nothing that was there). -/
  | known (b : Bool)
  deriving DecidableEq

def findByte (b : Nat) : List Nat → Nat → Option Nat
  | [], _ => none
  | x :: r, i => match Nat.beq x b with
    | true => some i
    | false => findByte b r (i + 1)
def countByte (b : Nat) : List Nat → Nat
  | [] => 0
  | x :: r => match Nat.beq x b with
    | true => countByte b r + 1
    | false => countByte b r

def extV (x : Ext) (args : List V) (st : St) : Option (V × St) :=
  match x, args with
  | .same, [v] => some (v, st)
  | .indexByte, [.str s, .int .u8 b] => if 0 ≤ b ∧ b < 256 then
      some (.int .i64 (match findByte b.toNat s 0 with | some i => (i : Int) | none => -1), st) else none
  | .count, [.str s, .int .u8 b] => if 0 ≤ b ∧ b < 256 then some (.int .i64 (countByte b.toNat s : Nat), st) else none
  | .known b, [] => some (.bool b, st)
  | _, _ => none

inductive Job where
  | code (c : Code) (fr : Fr)
  | call (f : FuncId) (args : List V)
  | yield (l : Nat) (args : List V)

inductive Ex where
  | normal | ret
  | exit (id : Nat)
  deriving DecidableEq

inductive Out where
  | code (e : Ex) (fr : Fr) (st : St)
  | val (v : V) (st : St)

variable (X : FuncId → Option Ext) (G : Nat)

def callV (self : Job → St → Option Out) (f : V) (args : List V) (st : St) : Option (V × St) :=
  match f with
  | .func f first captured => match X f with
    | some x => extV x (first ++ args ++ captured) st
    | none => match self (.call f (first ++ args ++ captured)) st with
      | some (.val v st') => some (v, st')
      | _ => none
  | .yield l => match self (.yield l args) st with
    | some (.val v st') => some (v, st')
    | _ => none
  | _ => none

def stepV (self : Job → St → Option Out) (ts : T V) (st : St) (o : Oper) : Option (V × St) :=
  match o.op with
  | .call c => (evs G ts c.args.toList).bind fun args => match c.callee with
    | .builtin b => builtinV P b c.argTypes.toList args st
    | .value f => (ev G ts f).bind fun f => callV X self f args st
    | .invoke _ _ => none
  | op => opV P G ts st op

def opsV (self : Job → St → Option Out) (all : Array Oper) (N : Nat) : List Oper → T V → St → Option (T V × St)
  | [], ts, st => some (ts, st)
  | o :: os, ts, st => match wantedV all ts N o with
    | false => opsV self all N os (putD ts N o.dst undefV) st
    | true => match stepV P X G self ts st o with
      | some (v, st') => opsV self all N os (putD ts N o.dst v) st'
      | none => none

/-! ### A region that draws its order -/
/-- What an operation does to the memory: reads it at most; makes one block; anything. -/
inductive Dk where
  | quiet | alloc | chain
  deriving DecidableEq

def dkind (o : Op) : Dk :=
  match o with
  | .alloc _ | .box _ _ | .buildSlice _ _ _ | .makeMap _ _ | .makeSlice _ _ _ => .alloc
  | .move _ | .assign _ | .pick _ _ _ | .build _ _ | .load _ _ | .nilCheck _ | .binOp _ _ _ _ _ | .unOp _ _ _ | .makeInterface _ _ | .makeFunc _ _ _ | .slice _ _ _ _ _ | .fieldAddr _ _ _ | .field _ _ _
  | .indexAddr _ _ _ | .index _ _ _ | .lookup _ _ _ _ | .extract _ _ => .quiet
  | .convert _ d _ => match P.underlying d with
    | some (.slice _) => .chain
    | _ => .quiet
  | .call c => match c.callee with
    | .builtin b => match b with
      | .len | .cap | .min | .max => .quiet
      | _ => .chain
    | _ => .chain
  | _ => .chain

mutual
def V.same : V → V → Bool
  | .int k n, .int k' n' => decide (k = k') && n == n'
  | .bool a, .bool b => a == b
  | .str s, .str s' => s == s'
  | .ptr l o, .ptr l' o' => Nat.beq l l' && Nat.beq o o'
  | .nptr, .nptr => true
  | .slice l o n c, .slice l' o' n' c' => Nat.beq l l' && Nat.beq o o' && Nat.beq n n' && decide (c = c')
  | .nslice, .nslice => true
  | .map l, .map l' => Nat.beq l l'
  | .nmap, .nmap => true
  | .func f p q, .func f' p' q' => Nat.beq f f' && sames p p' && sames q q'
  | .yield l, .yield l' => Nat.beq l l'
  | .nfunc, .nfunc => true
  | .iface t v, .iface t' v' => Nat.beq t t' && V.same v v'
  | .niface, .niface => true
  | .agg cs, .agg cs' => sames cs cs'
  | .tup cs, .tup cs' => sames cs cs'
  | _, _ => false
def sames : List V → List V → Bool
  | [], [] => true
  | v :: vs, w :: ws => V.same v w && sames vs ws
  | _, _ => false
end

/-- The operations that an operation waits for, as a number's bits. -/
def ancOf (ms : T Nat) (j : Nat) : List Edge → Option Nat
  | [] => some 0
  | e :: es => match Region.binds .any e with
    | false => ancOf ms j es
    | true => match Nat.blt e.on j, ms.get e.on with
      | true, some m => (ancOf ms j es).map fun r => Nat.lor (Nat.lor (Nat.shiftLeft 1 e.on) m) r
      | _, _ => none

structure DRec where
  i : Nat
  looks : List Tmp
  dst : Option Tmp
  hard : Bool

def memN (t : Nat) : List Nat → Bool
  | [] => false
  | u :: us => Nat.beq t u || memN t us

/-- Whether the order of two operations, the first of the text before the second, is of weight. -/
def meets (p : DRec) (looks : List Tmp) (dst : Option Tmp) (ch : Bool) : Bool :=
  (ch && p.hard) || (match p.dst with
    | some t => memN t looks || (match dst with | some u => Nat.beq t u | none => false)
    | none => false) || (match dst with | some u => memN u p.looks | none => false)

def clearV (anc : Nat) (looks : List Tmp) (dst : Option Tmp) (ch : Bool) : List DRec → Bool
  | [] => true
  | p :: ps => (match meets p looks dst ch with | true => Nat.testBit anc p.i | false => true) && clearV anc looks dst ch ps

def dstat (all : Array Oper) : Nat → List Oper → T Nat → List DRec → Option (T Nat)
  | _, [], ms, _ => some ms
  | j, o :: os, ms, ps => (ancOf ms j o.after.toList).bind fun anc =>
      match clearV anc (o.looksAt all) o.dst (decide (dkind P o.op = .chain)) ps with
      | true => dstat all (j + 1) os (ms.put j (some anc)) (⟨j, o.looksAt all, o.dst, !(decide (dkind P o.op = .quiet))⟩ :: ps)
      | false => none

/-- Where the walk through a drawn region in the text's order stands: the temporaries, the blocks, and the blocks made since the last operation that may turn the memory. -/
structure DS where
  ts : T V
  st : St
  pend : List (Nat × HObj)

def layAll (st : St) : List (Nat × HObj) → St
  | [] => st
  | p :: ps => layAll (st.set p.1 p.2) ps

def dstepV (self : Job → St → Option Out) (all : Array Oper) (N n0 i : Nat) (o : Oper) (d : DS) : Option (DS × V) :=
  match wantedV all d.ts N o, dkind P o.op with
  | false, .chain => some (⟨putD d.ts N o.dst undefV, layAll d.st d.pend, []⟩, undefV)
  | false, _ => some (⟨putD d.ts N o.dst undefV, d.st, d.pend⟩, undefV)
  | true, .quiet => (stepV P X G self d.ts d.st o).map fun r => (⟨putD d.ts N o.dst r.1, d.st, d.pend⟩, r.1)
  | true, .alloc => (allocV P G d.ts o.op).map fun r => (⟨putD d.ts N o.dst (r.2 (n0 + i)), d.st, d.pend ++ [(n0 + i, r.1)]⟩, r.2 (n0 + i))
  | true, .chain => (stepV P X G self d.ts (layAll d.st d.pend) o).map fun r => (⟨putD d.ts N o.dst r.1, r.2, []⟩, r.1)

def drunV (self : Job → St → Option Out) (all : Array Oper) (N n0 : Nat) : Nat → List Oper → DS → Option (List (DS × V) × DS)
  | _, [], d => some ([], d)
  | i, o :: os, d => (dstepV P X G self all N n0 i o d).bind fun r => (drunV self all N n0 (i + 1) os r.1).map fun q => ((d, r.2) :: q.1, q.2)

/-- The blocks as they are when the operations of weight before p have run, and no other. -/
def stagesV : Nat → List Oper → List (DS × V) → DS → List (Nat × St)
  | i, o :: os, r :: rs, f => match dkind P o.op with
    | .chain => (i, r.1.st) :: stagesV (i + 1) os rs f
    | _ => stagesV (i + 1) os rs f
  | i, _, _, f => [(i, f.st)]

def waits (ms : T Nat) (i j : Nat) : Bool :=
  match ms.get j with
  | some m => Nat.testBit m i
  | none => false

/-- Whether an operation that reads yields the same at every stage at which it may run. -/
def dynV (self : Job → St → Option Out) (ms : T Nat) (i : Nat) (o : Oper) (d : DS) (v : V) : Bool → List (Nat × St) → Bool
  | _, [] => true
  | own, (p, st) :: ps => match Nat.blt p i with
    | true => (match waits ms p i with | true => true | false => test st) && dynV self ms i o d v own ps
    | false => (match own with | true => test st | false => true) && (match waits ms i p with | true => true | false => dynV self ms i o d v true ps)
where
  test (st : St) : Bool := match stepV P X G self d.ts st o with
    | some (v', _) => V.same v v'
    | none => false

def dynAll (self : Job → St → Option Out) (all : Array Oper) (N : Nat) (ms : T Nat) (sts : List (Nat × St)) : Nat → List Oper → List (DS × V) → Bool
  | i, o :: os, (d, v) :: rs => (match dkind P o.op, wantedV all d.ts N o with
    | .quiet, true => dynV P X G self ms i o d v false sts
    | _, _ => true) && dynAll self all N ms sts (i + 1) os rs
  | _, _, _ => true

def drawV (self : Job → St → Option Out) (all : Array Oper) (N : Nat) (l : List Oper) (ts : T V) (st : St) : Option (T V × St) :=
  (dstat P all 0 l .leaf []).bind fun ms =>
  (drunV P X G self all N st.n 0 l ⟨ts, ⟨st.h, st.n + l.length⟩, []⟩).bind fun r =>
  match dynAll P X G self all N ms (stagesV P 0 l r.1 r.2) 0 l r.1 with
  | true => some (r.2.ts, layAll r.2.st r.2.pend)
  | false => none

def putAll (N : Nat) : T V → List Tmp → List V → T V
  | ts, t :: r, v :: vs => putAll N (putD ts N (some t) v) r vs
  | ts, _, _ => ts

def argsT : T V → Nat → List V → T V
  | ts, _, [] => ts
  | ts, i, v :: vs => argsT (ts.put i (some v)) (i + 1) vs

def takeMarks (st : St) : List Nat → Option St
  | [] => some st
  | d :: ds => match st.h.get d with
    | some (.deferred true) => takeMarks (st.set d (.deferred false)) ds
    | _ => none

def resultsV (ts : T V) (N : Nat) (st : St) : List ResultVar → Option (List V)
  | [] => some []
  | .tmp t :: r => (resultsV ts N st r).map (((ts.get t).getD undefV) :: ·)
  | .cell a t :: r => match (ts.get a).getD undefV with
    | .ptr l off => (loadV P t l off st).bind fun v => (resultsV ts N st r).map (v :: ·)
    | _ => none

def body (self : Job → St → Option Out) : Job → St → Option Out
  | .code c fr, st =>
    match c with
    | .skip => some (.code .normal fr st)
    | .label _ => some (.code .normal fr st)
    | .seq a b => match self (.code a fr) st with
      | some (.code .normal fr' st') => self (.code b fr') st'
      | r => r
    | .cond c a b => match ev G fr.ts c with
      | some (.bool true) => self (.code a fr) st
      | some (.bool false) => self (.code b fr) st
      | _ => none
    | .block id b => match self (.code b fr) st with
      | some (.code (.exit i) fr' st') => match Nat.beq i id with
        | true => some (.code .normal fr' st')
        | false => some (.code (.exit i) fr' st')
      | r => r
    | .loop b => match self (.code b fr) st with
      | some (.code .normal fr' st') => self (.code (.loop b) fr') st'
      | r => r
    | .exit id => some (.code (.exit id) fr st)
    | .ret => some (.code .ret fr st)
    | .region _ ops draw => match (match draw with | false => opsV P X G self ops fr.N ops.toList fr.ts st | true => drawV P X G self ops fr.N ops.toList fr.ts st) with
      | some (ts, st') => some (.code .normal { fr with ts } st')
      | none => none
    | .rangeFunc f params assign b => (ev G fr.ts f).bind fun f => match f with
      | .func f first captured =>
        (match fr.ro with
          | none => match st.new (.deferred true) with
            | (d, st) => some (d, d :: fr.dm, st)
          | some r => match st.h.get r with
            | some (.loop _ _ _ _ _ _ _ dl) => some (dl, fr.dm, st)
            | _ => none).bind fun (dl, dm, st) =>
        match st.new (.loop .ready none fr.ts fr.N params.toList assign b dl) with
        | (l, st) => match X f with
          | some _ => none
          | none => match self (.call f (first ++ [V.yield l] ++ captured)) st with
            | some (.val _ st) => match st.h.get l with
              | some (.loop s pend ts N ps as_ b_ d_) => match s with
                | .busy => none
                | _ => match pend with
                  | none => some (.code .normal { fr with dm } (st.set l (.loop .exhausted none ts N ps as_ b_ d_)))
                  | some c => self (.code c { fr with dm }) (st.set l (.loop .exhausted (some c) ts N ps as_ b_ d_))
              | _ => none
            | _ => none
      | _ => none
    | _ => none
  | .call f args, st => match P.funcs[f]? with
    | some fn => match fn.body with
      | some c => match self (.code c { ts := argsT .leaf 0 args, N := args.length + (fn.ntmps - args.length), dm := [], ro := none }) st with
        | some (.code e fr st') => match e with
          | .exit _ => none
          | _ => (takeMarks st' fr.dm).bind fun st'' => (resultsV P fr.ts fr.N st'' fn.results.toList).bind fun vs =>
            match vs with
            | [v] => some (.val v st'')
            | vs => some (.val (.tup vs) st'')
        | _ => none
      | none => none
    | none => none
  | .yield l args, st => match st.h.get l with
    | some (.loop .ready _ ts N params assign b _) => match Nat.beq args.length params.length with
      | true => match self (.code assign { ts := putAll N ts params args, N, dm := [], ro := some l }) st with
        | some (.code .normal fr st) => match fr.dm, st.h.get l with
          | [], some (.loop .ready pd ts' N' ps as_ b_ d_) =>
            match self (.code b fr) (st.set l (.loop .busy pd ts' N' ps as_ b_ d_)) with
            | some (.code e fr' st) => match fr'.dm, st.h.get l with
              | [], some (.loop _ _ ts' N' ps as_ b_ d_) => match e with
                | .normal => some (.val (.bool true) (st.set l (.loop .ready none ts' N' ps as_ b_ d_)))
                | .ret => some (.val (.bool false) (st.set l (.loop .done (some .ret) ts' N' ps as_ b_ d_)))
                | .exit id => some (.val (.bool false) (st.set l (.loop .done (some (.exit id)) ts' N' ps as_ b_ d_)))
              | _, _ => none
            | _ => none
          | _, _ => none
        | _ => none
      | false => none
    | _ => none

def run : Nat → Job → St → Option Out
  | 0 => fun _ _ => none
  | n + 1 => body P X G (run n)

end
end Go.Vex
