/- The E machine: abstract values, abstract heap, resolved code, and its evaluator. Plain definitions. -/
import Derived.Orders
import Derived.Below
import Derived.KernelRfl
set_option linter.unusedVariables false
namespace Go.Lim

inductive Tok where
  | nil | any | full | own (t : Nat)
  deriving DecidableEq, Inhabited

inductive AV where
  | bool (b : Bool)
  | int (k : IntKind) (n : Int)
  | flt (k : FloatKind) (bits : Option Nat)
  | cpx (k : FloatKind) (re im : Option Nat)
  | str (s : List UInt8)
  | ptr (id off : Nat)
  | nilp
  | rop (cells : List AV) (off : Nat)
  | slc (tok : Tok) (elems : List AV)
  | arr (id off len sz : Nat) (ag : Bool)
  | map (id : Nat)
  | nilm
  | fn (f : FuncId) (caps : List AV)
  | nilf
  | ifc (t : TypeId) (v : AV)
  | nili
  | agg (cells : List AV)
  | tup (vs : List AV)
  deriving Inhabited

namespace AV
def cells : AV → List AV
  | .agg cs => cs
  | v => [v]
def one : AV → Bool
  | .agg _ | .tup _ => false
  | _ => true
def flat : List AV → List AV
  | [] => []
  | e :: r => e.cells ++ flat r

mutual
/-- All references are below n. -/
def lt (n : Nat) : AV → Bool
  | .ptr id _ => decide (id < n)
  | .arr id _ _ _ _ => decide (id < n)
  | .map id => decide (id < n)
  | .rop cs _ => ltL n cs
  | .slc tk es => (match tk with | .own t => decide (t < n) | _ => true) && ltL n es
  | .fn _ cs => ltL n cs
  | .ifc _ v => lt n v
  | .agg cs => ltL n cs
  | .tup cs => ltL n cs
  | _ => true
def ltL (n : Nat) : List AV → Bool
  | [] => true
  | v :: r => lt n v && ltL n r
end

mutual
def beq : AV → AV → Bool
  | .bool a, .bool b => a == b
  | .int k a, .int l b => decide (k = l) && decide (a = b)
  | .flt k a, .flt l b => decide (k = l) && decide (a = b) && a.isSome
  | .cpx k a c, .cpx l b d => decide (k = l) && decide (a = b) && decide (c = d) && a.isSome && c.isSome
  | .str a, .str b => decide (a = b)
  | .ptr a b, .ptr c d => decide (a = c) && decide (b = d)
  | .nilp, .nilp => true
  | .rop a b, .rop c d => beqL a c && decide (b = d)
  | .slc a b, .slc c d => decide (a = c) && beqL b d
  | .arr a b c s g, .arr a' b' c' s' g' => decide (a = a') && decide (b = b') && decide (c = c') && decide (s = s') && (g == g')
  | .map a, .map b => decide (a = b)
  | .nilm, .nilm => true
  | .fn f a, .fn g b => decide (f = g) && beqL a b
  | .nilf, .nilf => true
  | .ifc t v, .ifc u w => decide (t = u) && beq v w
  | .nili, .nili => true
  | .agg a, .agg b => beqL a b
  | .tup a, .tup b => beqL a b
  | _, _ => false
def beqL : List AV → List AV → Bool
  | [], [] => true
  | a :: r, b :: s => beq a b && beqL r s
  | _, _ => false
end
end AV

inductive Obj where
  | box (cells : List AV)
  | tok (front sz : Nat)
  | mp (ents : List (AV × AV))
  | dead
  deriving Inhabited

abbrev Heap := List Obj
abbrev Env := List (Nat × AV)

def Env.get : Env → Nat → Option AV
  | [], _ => none
  | (s, v) :: r, t => if s = t then some v else Env.get r t

/-- The cells at a place. -/
def rdc (cells : List AV) (off n : Nat) : Option (List AV) :=
  if off + n ≤ cells.length then some ((cells.drop off).take n) else none
def wrc (cells : List AV) (off : Nat) (vs : List AV) : Option (List AV) :=
  if off + vs.length ≤ cells.length then some (cells.take off ++ (vs ++ cells.drop (off + vs.length))) else none

/-- flattened cells as elements -/
def regroup (sz : Nat) (ag : Bool) : (n : Nat) → List AV → List AV
  | 0, _ => []
  | n + 1, cs => (if ag then AV.agg (cs.take sz) else cs.headD .nilp) :: regroup sz ag n (cs.drop sz)

mutual
/-- Tokens and arrays from n on become plain contents. -/
def strip (n : Nat) (H : Heap) : AV → AV
  | .slc (.own t) es => if t < n then .slc (.own t) (stripL n H es) else .slc .any (stripL n H es)
  | .slc tk es => .slc tk (stripL n H es)
  | .arr id off len sz ag => if id < n then .arr id off len sz ag else
      match H[id]? with
      | some (.box cs) => if off + len * sz ≤ cs.length && cs.all AV.one && decide (0 < sz) && (ag || decide (sz = 1)) then .slc .any (regroup sz ag len ((cs.drop off).take (len * sz))) else .arr id off len sz ag
      | _ => .arr id off len sz ag
  | .agg cs => .agg (stripL n H cs)
  | .tup cs => .tup (stripL n H cs)
  | .ifc t v => .ifc t (strip n H v)
  | v => v
def stripL (n : Nat) (H : Heap) : List AV → List AV
  | [] => []
  | v :: r => strip n H v :: stripL n H r
end

inductive EX where
  | t (n : Nat)
  | c (v : AV)
  | g (n : Nat)
  deriving Inhabited

/-- Kinds of scalars; of nils; of what has a length. -/
inductive SK where | int | bool | str
  deriving DecidableEq, Inhabited
inductive NK where | p | s | m | f | i
  deriving DecidableEq, Inhabited
inductive LK where | s | l | m
  deriving DecidableEq, Inhabited

/-- A map's key: a scalar, or a struct of scalars. -/
inductive KK where | one (k : SK) | st (ks : List SK)
  deriving DecidableEq, Inhabited

inductive EOp where
  | mv (x : EX)
  | pick (c a b : EX)
  | build (zero : List AV) (parts : List (Nat × Nat × EX))
  | bslice (zero : AV) (sz len : Nat) (parts : List (Nat × EX))
  | load (ag : Bool) (n : Nat) (x : EX)
  | nilck (x : EX)
  | bin (op : BinOp) (x y : EX)
  | eqb (neg : Bool) (x y : EX)
  | eqnil (k : NK) (neg : Bool) (x : EX)
  | eqs (ks : List SK) (neg : Bool) (x y : EX)
  | un (op : UnOp) (x : EX)
  | i2i (k : IntKind) (x : EX)
  | s2b (x : EX)
  | b2s (x : EX)
  | idc (x : EX)
  | mkfn (f : FuncId) (caps : List EX)
  | slstr (x : EX) (lo hi : Option EX)
  | slslc (sz : Nat) (x : EX) (lo hi : Option EX)
  | faddr (off : Nat) (x : EX)
  | field (off n : Nat) (ag : Bool) (x : EX)
  | iaddr (sz : Nat) (x i : EX)
  | iaddra (len sz : Nat) (x i : EX)
  | idxa (len sz : Nat) (ag : Bool) (x i : EX)
  | idxs (x i : EX)
  | lookup (kk : KK) (zero : AV) (ok : Bool) (m k : EX)
  | extract (n : Nat) (x : EX)
  | len (k : LK) (x : EX)
  | mx (mn : Bool) (xs : List EX)
  | cpxmk (re im : EX)
  | cpxre (im : Bool) (x : EX)
  | mkifc (t : TypeId) (x : EX)
  -- these turn the heap
  | alloc (zero : List AV)
  | box (x : EX)
  | store (n : Nat) (x v : EX)
  | mkslice (zero : AV) (sz bytes : Nat) (len cap : EX)
  | mkmap
  | mapupd (kk : KK) (m k v : EX)
  | mapent (kk : KK) (zero : AV) (m k : EX)
  | entst (m st v : EX)
  | append (sz bytes : Nat) (x y : EX)
  | appstr (bytes : Nat) (x y : EX)
  | call (f : EX) (args : List EX)
  deriving Inhabited

structure EOper where
  dst : Option Nat
  guard : Option (Nat × Bool)
  op : EOp
  deriving Inhabited

/-- An operation of a region that draws its order: its place in the region; for what reads the heap: the stages at which it may run. -/
structure DOper where
  i : Nat
  o : EOper
  eff : Bool
  lo : Nat
  hi : Nat
  deriving Inhabited

inductive ECode where
  | skip
  | reg (ops : List EOper)
  | dreg (ops : List DOper)
  | seq (a b : ECode)
  | cond (c : EX) (a b : ECode)
  | block (id : Nat) (a : ECode)
  | loop (live : List Nat) (a : ECode)
  | keep (live : List Nat) (a : ECode)
  | scope (l : Nat) (live : List Nat) (a b : ECode)
  | exit (id : Nat)
  | goto (l : Nat)
  | ret
  deriving Inhabited

inductive EExit where
  | normal | exit (id : Nat) | goto (l : Nat) | ret
  deriving DecidableEq, Inhabited

inductive ERes where
  | tmp (t : Nat)
  | cell (t : Nat) (n : Nat) (ag : Bool)
  deriving Inhabited

abbrev Esc := Option Nat
def Esc.mrg : Esc → Esc → Esc
  | none, b => b
  | a, none => a
  | some a, some b => some (min a b)
def Esc.ge (s : Esc) (n : Nat) : Bool :=
  match s with
  | none => true
  | some i => decide (n ≤ i)

structure Cx where
  call : FuncId → List AV → Heap → Option (AV × Heap × Esc)
  gl : Nat → Option (List AV)

def undf : AV := .tup []

def ev (cx : Cx) (e : Env) : EX → Option AV
  | .t n => e.get n
  | .c v => some v
  | .g n => (cx.gl n).map fun cs => .rop cs 0
def evs (cx : Cx) (e : Env) : List EX → Option (List AV)
  | [] => some []
  | x :: r => (ev cx e x).bind fun v => (evs cx e r).bind fun vs => some (v :: vs)
def evo (cx : Cx) (e : Env) : Option EX → Option (Option AV)
  | none => some none
  | some x => (ev cx e x).bind fun v => some (some v)

def fillE (cells : List AV) : List (Nat × AV) → Option (List AV)
  | [] => some cells
  | (off, v) :: rest => (wrc cells off v.cells).bind fun cs => fillE cs rest
def evparts (cx : Cx) (e : Env) : List (Nat × Nat × EX) → Option (List (Nat × AV))
  | [] => some []
  | (off, sz, x) :: r => (ev cx e x).bind fun v => if v.cells.length = sz then (evparts cx e r).bind fun vs => some ((off, v) :: vs) else none
def evelems (cx : Cx) (e : Env) : List (Nat × EX) → Option (List (Nat × AV))
  | [] => some []
  | (i, x) :: r => (ev cx e x).bind fun v => (evelems cx e r).bind fun vs => some ((i, v) :: vs)
def setAll (es : List AV) : List (Nat × AV) → Option (List AV)
  | [] => some es
  | (i, v) :: r => if i < es.length then setAll (es.set i v) r else none

def unE (op : UnOp) : AV → Option AV
  | .int k n => match op with
    | .neg => some (.int k (k.wrap (0 - n)))
    | .xor => some (.int k (k.wrap ((BitVec.ofInt k.bits (if k.signed then -1 else k.max) ^^^ BitVec.ofInt k.bits n).toNat)))
    | _ => none
  | .bool b => match op with
    | .not => some (.bool !b)
    | _ => none
  | _ => none

def intE (op : BinOp) (k : IntKind) (a b : Int) : Option AV :=
  match op with
  | .add => some (.int k (k.wrap (a + b)))
  | .sub => some (.int k (k.wrap (a - b)))
  | .mul => some (.int k (k.wrap (a * b)))
  | .quo => if b = 0 then none else some (.int k (k.wrap (a.tdiv b)))
  | .rem => if b = 0 then none else some (.int k (a.tmod b))
  | .and => some (.int k (k.wrap (BitVec.ofInt k.bits a &&& BitVec.ofInt k.bits b).toNat))
  | .or => some (.int k (k.wrap (BitVec.ofInt k.bits a ||| BitVec.ofInt k.bits b).toNat))
  | .xor => some (.int k (k.wrap (BitVec.ofInt k.bits a ^^^ BitVec.ofInt k.bits b).toNat))
  | .andNot => some (.int k (k.wrap (BitVec.ofInt k.bits a &&& ~~~ BitVec.ofInt k.bits b).toNat))
  | .eql => some (.bool (a == b))
  | .neq => some (.bool (a != b))
  | .lss => some (.bool (decide (a < b)))
  | .leq => some (.bool (decide (a ≤ b)))
  | .gtr => some (.bool (decide (a > b)))
  | .geq => some (.bool (decide (a ≥ b)))
  | _ => none

def strE (op : BinOp) (a b : List UInt8) : Option AV :=
  match op with
  | .add => if ((a.length + b.length : Nat) : Int) > 9223372036854775807 then none else some (.str (a ++ b))
  | .eql => some (.bool (a == b))
  | .neq => some (.bool !(a == b))
  | .lss => some (.bool (Op.bytesLess a b))
  | .leq => some (.bool (Op.bytesLess a b || a == b))
  | .gtr => some (.bool !(Op.bytesLess a b || a == b))
  | .geq => some (.bool !(Op.bytesLess a b))
  | _ => none

def fltE (op : BinOp) (k : FloatKind) (a b : Option Nat) : Option AV :=
  match k, a, b with
  | .f64, some x, some y => match op with
    | .add => some (.flt .f64 (FloatKind.f64.format.add x y))
    | .sub => some (.flt .f64 (FloatKind.f64.format.sub x y))
    | .lss => some (.bool (FloatKind.f64.format.order x y == some .lt))
    | .gtr => some (.bool (FloatKind.f64.format.order x y == some .gt))
    | _ => none
  | _, _, _ => none

def binE (op : BinOp) : AV → AV → Option AV
  | .int k a, .int l b => match op with
    | .shl => if b < 0 then none else some (.int k (k.wrap (a * 2 ^ (min b.toNat k.bits))))
    | .shr => if b < 0 then none else some (.int k (a.fdiv (2 ^ (min b.toNat k.bits))))
    | _ => if k = l then intE op k a b else none
  | .str a, .str b => strE op a b
  | .flt k a, .flt l b => if k = l then fltE op k a b else none
  | .cpx k a b, .cpx l c d => if k = l then
      match op with
      | .add => match fltE .add k a c, fltE .add k b d with | some (.flt _ x), some (.flt _ y) => some (.cpx k x y) | _, _ => none
      | .sub => match fltE .sub k a c, fltE .sub k b d with | some (.flt _ x), some (.flt _ y) => some (.cpx k x y) | _, _ => none
      | _ => none
    else none
  | _, _ => none

def isNilE : NK → AV → Option Bool
  | .p, .nilp => some true
  | .p, .ptr _ _ => some false
  | .p, .rop _ _ => some false
  | .s, .slc .nil [] => some true
  | .s, .slc .any [] => none
  | .s, .slc _ _ => some false
  | .s, .arr .. => some false
  | .m, .map _ => some false
  | .m, .nilm => some true
  | .f, .fn _ _ => some false
  | .f, .nilf => some true
  | .i, .ifc _ _ => some false
  | .i, .nili => some true
  | _, _ => none

/-- '==' of cells: whole numbers, bools, strings. -/
def eqOne : SK → AV → AV → Option Bool
  | .int, .int k a, .int l b => if k = l then some (decide (a = b)) else none
  | .bool, .bool a, .bool b => some (decide (a = b))
  | .str, .str a, .str b => some (decide (a = b))
  | _, _, _ => none
def eqCells : List SK → List AV → List AV → Option Bool
  | [], [], [] => some true
  | k :: ks, a :: r, b :: s => (eqOne k a b).bind fun e => (eqCells ks r s).bind fun f => some (e && f)
  | _, _, _ => none

def bytesV (s : List UInt8) : List AV := s.map fun b => .int .u8 b.toNat
def unbytes : List AV → Option (List UInt8)
  | [] => some []
  | .int .u8 n :: r => (unbytes r).map fun s => UInt8.ofNat n.toNat :: s
  | _ => none

def idxOf (i : Int) (n : Nat) : Option Nat := if 0 ≤ i ∧ i < n then some i.toNat else none
def bnd (x : Option AV) (dflt most : Nat) : Option Nat :=
  match x with
  | none => some dflt
  | some (.int _ i) => if 0 ≤ i ∧ i ≤ most then some i.toNat else none
  | some _ => none

def keyEq : KK → AV → AV → Option Bool
  | .one k, a, b => eqOne k a b
  | .st ks, .agg a, .agg b => eqCells ks a b
  | _, _, _ => none
def keyOK : KK → AV → Bool
  | .one _, a => a.one
  | .st ks, .agg a => decide (a.length = ks.length) && a.all AV.one
  | _, _ => false
def mapFind (kk : KK) (k : AV) : List (AV × AV) → Option (Option Nat)
  | [] => some none
  | (a, _) :: r => (keyEq kk k a).bind fun b => if b then some (some 0) else (mapFind kk k r).map (Option.map (· + 1))
def mapGet (kk : KK) (k : AV) (es : List (AV × AV)) : Option (Option AV) :=
  (mapFind kk k es).bind fun | none => some none | some j => (es[j]?).map fun x => some x.2
def mapSet (kk : KK) (k v : AV) (es : List (AV × AV)) : Option (List (AV × AV)) :=
  (mapFind kk k es).map fun | none => es ++ [(k, v)] | some j => es.set j (k, v)

def mx2 (mn : Bool) : AV → AV → Option AV
  | .int k a, .int l b => if k = l then some (.int k (if mn then (if b < a then b else a) else (if b > a then b else a))) else none
  | _, _ => none
def mxE (mn : Bool) : AV → List AV → Option AV
  | a, [] => some a
  | a, b :: r => (mx2 mn a b).bind fun c => mxE mn c r

def asg (ag : Bool) (cs : List AV) : Option AV :=
  if ag then some (.agg cs) else match cs with | [v] => some v | _ => none

/-! Values of operations, from their operands' values. -/
def loadE (H : Heap) (ag : Bool) (n : Nat) : AV → Option AV
  | .ptr id off => match H[id]? with
    | some (.box cs) => (rdc cs off n).bind (asg ag)
    | _ => none
  | .rop cs off => (rdc cs off n).bind (asg ag)
  | _ => none
def nilckE : AV → Option AV
  | .ptr a b => some (.ptr a b)
  | .rop a b => some (.rop a b)
  | .fn f a => some (.fn f a)
  | _ => none
def eqbE (neg : Bool) : AV → AV → Option AV
  | .bool a, .bool b => some (.bool (if neg then a != b else a == b))
  | _, _ => none
def eqsE (ks : List SK) (neg : Bool) : AV → AV → Option AV
  | .agg a, .agg b => (eqCells ks a b).map fun r => .bool (if neg then !r else r)
  | _, _ => none
def i2iE (k : IntKind) : AV → Option AV
  | .int _ n => some (.int k (k.wrap n))
  | _ => none
def s2bE : AV → Option AV
  | .str s => some (.slc .any (bytesV s))
  | _ => none
def b2sE : AV → Option AV
  | .slc _ es => (unbytes es).map .str
  | _ => none
def idcE : AV → Option AV
  | .str s => some (.str s)
  | _ => none
def slstrE (lo hi : Option AV) : AV → Option AV
  | .str s => (bnd hi s.length s.length).bind fun h => (bnd lo 0 h).bind fun l => some (.str ((s.drop l).take (h - l)))
  | _ => none
def slslcE (sz : Nat) (lo hi : Option AV) : AV → Option AV
  | .slc _ es => (bnd hi es.length es.length).bind fun h => (bnd lo 0 h).bind fun l =>
      if es.all (fun v => decide (v.cells.length = sz)) then some (.slc .any ((es.drop l).take (h - l))) else none
  | .arr id off len sz' ag => (bnd hi len len).bind fun h => (bnd lo 0 h).bind fun l => if sz' = sz then some (.arr id (off + l * sz) (h - l) sz ag) else none
  | _ => none
def faddrE (off : Nat) : AV → Option AV
  | .ptr id o => some (.ptr id (o + off))
  | .rop cs o => some (.rop cs (o + off))
  | _ => none
def fieldE (off n : Nat) (ag : Bool) : AV → Option AV
  | .agg cs => (rdc cs off n).bind (asg ag)
  | _ => none
def iaddrE (sz : Nat) : AV → AV → Option AV
  | .slc _ es, .int _ n => (idxOf n es.length).bind fun j => (es[j]?).bind fun v => if v.cells.length = sz then some (.rop v.cells 0) else none
  | .arr id off len sz' _, .int _ n => (idxOf n len).bind fun j => if sz' = sz then some (.ptr id (off + j * sz)) else none
  | _, _ => none
def iaddraE (len sz : Nat) : AV → AV → Option AV
  | .ptr id off, .int _ n => (idxOf n len).bind fun j => some (.ptr id (off + j * sz))
  | .rop cs off, .int _ n => (idxOf n len).bind fun j => some (.rop cs (off + j * sz))
  | _, _ => none
def idxaE (len sz : Nat) (ag : Bool) : AV → AV → Option AV
  | .agg cs, .int _ n => (idxOf n len).bind fun j => (rdc cs (j * sz) sz).bind (asg ag)
  | _, _ => none
def idxsE : AV → AV → Option AV
  | .str s, .int _ n => (idxOf n s.length).bind fun j => (s[j]?).map fun b => .int .u8 b.toNat
  | _, _ => none
def okV (zero : AV) (ok : Bool) (r : Option AV) : AV := if ok then .tup [r.getD zero, .bool r.isSome] else r.getD zero
def lookupE (H : Heap) (kk : KK) (zero : AV) (ok : Bool) : AV → AV → Option AV
  | .map id, k => match H[id]? with
    | some (.mp es) => if keyOK kk k then (mapGet kk k es).map (okV zero ok) else none
    | _ => none
  | .nilm, k => if keyOK kk k then some (okV zero ok none) else none
  | _, _ => none
def extractE (n : Nat) : AV → Option AV
  | .tup vs => vs[n]?
  | _ => none
def lenE (H : Heap) : LK → AV → Option AV
  | .s, .str s => some (.int .i64 s.length)
  | .l, .slc _ es => some (.int .i64 es.length)
  | .l, .arr _ _ n _ _ => some (.int .i64 n)
  | .m, .map id => match H[id]? with
    | some (.mp es) => some (.int .i64 es.length)
    | _ => none
  | .m, .nilm => some (.int .i64 0)
  | _, _ => none
def mxsE (mn : Bool) : List AV → Option AV
  | [] => none
  | a :: r => mxE mn a r
def cpxmkE : AV → AV → Option AV
  | .flt k a, .flt l b => if k = l then some (.cpx k a b) else none
  | _, _ => none
def cpxreE (im : Bool) : AV → Option AV
  | .cpx k a b => some (.flt k (if im then b else a))
  | _ => none
def pickE (a b : Option AV) : AV → Option AV
  | .bool t => if t then a else b
  | _ => none

/-- The value of an operation that leaves the heap alone. -/
def pop (cx : Cx) (e : Env) (H : Heap) : EOp → Option AV
  | .mv x => ev cx e x
  | .pick c a b => (ev cx e c).bind (pickE (ev cx e a) (ev cx e b))
  | .build zero parts => (evparts cx e parts).bind fun ps => (fillE zero ps).bind fun cs => if cs.all AV.one then some (.agg cs) else none
  | .bslice zero sz len parts => (evelems cx e parts).bind fun ps => 
      if ps.all (fun p => decide (p.2.cells.length = sz)) then (setAll (List.replicate len zero) ps).bind fun es => some (.slc .full es) else none
  | .load ag n x => (ev cx e x).bind (loadE H ag n)
  | .nilck x => (ev cx e x).bind nilckE
  | .bin op x y => (ev cx e x).bind fun a => (ev cx e y).bind (binE op a)
  | .eqb neg x y => (ev cx e x).bind fun a => (ev cx e y).bind (eqbE neg a)
  | .eqnil k neg x => (ev cx e x).bind fun a => (isNilE k a).map fun b => .bool (if neg then !b else b)
  | .eqs ks neg x y => (ev cx e x).bind fun a => (ev cx e y).bind (eqsE ks neg a)
  | .un op x => (ev cx e x).bind (unE op)
  | .i2i k x => (ev cx e x).bind (i2iE k)
  | .s2b x => (ev cx e x).bind s2bE
  | .b2s x => (ev cx e x).bind b2sE
  | .idc x => (ev cx e x).bind idcE
  | .mkfn f caps => (evs cx e caps).bind fun vs => some (.fn f vs)
  | .slstr x lo hi => (ev cx e x).bind fun a => (evo cx e lo).bind fun l => (evo cx e hi).bind fun h => slstrE l h a
  | .slslc sz x lo hi => (ev cx e x).bind fun a => (evo cx e lo).bind fun l => (evo cx e hi).bind fun h => slslcE sz l h a
  | .faddr off x => (ev cx e x).bind (faddrE off)
  | .field off n ag x => (ev cx e x).bind (fieldE off n ag)
  | .iaddr sz x i => (ev cx e x).bind fun a => (ev cx e i).bind (iaddrE sz a)
  | .iaddra len sz x i => (ev cx e x).bind fun a => (ev cx e i).bind (iaddraE len sz a)
  | .idxa len sz ag x i => (ev cx e x).bind fun a => (ev cx e i).bind (idxaE len sz ag a)
  | .idxs x i => (ev cx e x).bind fun a => (ev cx e i).bind (idxsE a)
  | .lookup kk zero ok m k => (ev cx e m).bind fun a => (ev cx e k).bind (lookupE H kk zero ok a)
  | .extract n x => (ev cx e x).bind (extractE n)
  | .len k x => (ev cx e x).bind (lenE H k)
  | .mx mn xs => (evs cx e xs).bind (mxsE mn)
  | .cpxmk re im => (ev cx e re).bind fun a => (ev cx e im).bind (cpxmkE a)
  | .cpxre im x => (ev cx e x).bind (cpxreE im)
  | .mkifc t x => (ev cx e x).bind fun v => some (.ifc t v)
  | _ => none

/-- Into which object newer references were put. -/
def escOf (id : Nat) (vs : List AV) : Esc := if AV.ltL (id + 1) vs then none else some id

abbrev HR := Option (AV × Heap × Esc)
def storeE (H : Heap) (n : Nat) : AV → AV → HR
  | .ptr id off, w => match H[id]? with
    | some (.box cs) => if w.cells.length = n ∧ w.cells.all AV.one then
        (wrc cs off w.cells).bind fun cs' => some (undf, H.set id (.box cs'), escOf id w.cells) else none
    | _ => none
  | _, _ => none
def isAggE : AV → Bool
  | .agg _ => true
  | _ => false
def mksliceE (H : Heap) (zero : AV) (sz bytes : Nat) : AV → AV → HR
  | .int .i64 l, .int .i64 c => if 0 ≤ l ∧ l ≤ c ∧ c * bytes ≤ 140737488355328 ∧ c ≤ 9223372036854775807 ∧ zero.cells.length = sz ∧ zero.cells.all AV.one then
      (if l = c then some (.arr H.length 0 l.toNat sz (isAggE zero), H ++ [.box (AV.flat (List.replicate l.toNat zero))], none)
       else if l = 0 then some (.slc (.own H.length) [], H ++ [.tok 0 sz], none) else none) else none
  | _, _ => none
def mapupdE (H : Heap) (kk : KK) : AV → AV → AV → HR
  | .map id, kv, w => match H[id]? with
    | some (.mp es) => if keyOK kk kv = true ∧ w.cells.all AV.one then (mapSet kk kv w es).bind fun es' => some (undf, H.set id (.mp es'), escOf id (kv.cells ++ w.cells)) else none
    | _ => none
  | _, _, _ => none
def mapentE (H : Heap) (kk : KK) (zero : AV) : AV → AV → HR
  | .map id, kv => match H[id]? with
    | some (.mp es) => if keyOK kk kv = true ∧ zero.cells.all AV.one then (mapFind kk kv es).bind fun
        | none => some (.tup [zero, .int .i64 es.length], H.set id (.mp (es ++ [(kv, zero)])), escOf id (kv.cells ++ zero.cells))
        | some j => (es[j]?).bind fun x => some (.tup [x.2, .int .i64 j], H.set id (.mp (es.set j (kv, x.2))), escOf id kv.cells)
      else none
    | _ => none
  | _, _ => none
def entstE (H : Heap) : AV → AV → AV → HR
  | .map id, .int .i64 n, w => match H[id]? with
    | some (.mp es) => if 0 ≤ n ∧ w.cells.all AV.one then (es[n.toNat]?).bind fun x => some (undf, H.set id (.mp (es.set n.toNat (x.1, w))), escOf id w.cells) else none
    | _ => none
  | _, _, _ => none
def appTok (H : Heap) (sz n m : Nat) (xs zs : List AV) : Tok → HR
  | .own t => match H[t]? with
    | some (.tok front sz') => if sz' = sz ∧ front = n * sz then some (.slc (.own t) zs, H.set t (.tok ((n + m) * sz) sz), none) else none
    | _ => none
  | .any => none
  | .nil => if xs = [] then some (.slc (.own H.length) zs, H ++ [.tok ((n + m) * sz) sz], none) else none
  | .full => some (.slc (.own H.length) zs, H ++ [.tok ((n + m) * sz) sz], none)
def appendE (H : Heap) (sz bytes : Nat) : AV → AV → HR
  | .slc tk xs, .slc _ ys =>
    match ys with
    | [] => some (.slc tk xs, H, none)
    | y :: ys' =>
      if (xs.length + (y :: ys').length) * bytes ≤ 140737488355328 ∧ ((y :: ys').all fun v => decide (v.cells.length = sz) && v.cells.all AV.one) ∧ (xs.all fun v => decide (v.cells.length = sz)) then
        appTok H sz xs.length (y :: ys').length xs (xs ++ y :: ys') tk else none
  | _, _ => none
def appstrE (H : Heap) (bytes : Nat) (a : AV) : AV → HR
  | .str x => appendE H 1 bytes a (.slc .any (bytesV x))
  | _ => none
def callE (cx : Cx) (H : Heap) (vs : List AV) : AV → HR
  | .fn k caps => cx.call k (vs ++ caps) H
  | _ => none

/-- The value of an operation that turns the heap. -/
def hop (cx : Cx) (e : Env) (H : Heap) : EOp → HR
  | .alloc zero => if zero.all AV.one then some (.ptr H.length 0, H ++ [.box zero], none) else none
  | .box x => (ev cx e x).bind fun v => if v.cells.all AV.one then some (.ptr H.length 0, H ++ [.box v.cells], none) else none
  | .store n x v => (ev cx e x).bind fun a => (ev cx e v).bind (storeE H n a)
  | .mkslice zero sz bytes len cap => (ev cx e len).bind fun a => (ev cx e cap).bind (mksliceE H zero sz bytes a)
  | .mkmap => some (.map H.length, H ++ [.mp []], none)
  | .mapupd kk m k v => (ev cx e m).bind fun a => (ev cx e k).bind fun b => (ev cx e v).bind (mapupdE H kk a b)
  | .mapent kk zero m k => (ev cx e m).bind fun a => (ev cx e k).bind (mapentE H kk zero a)
  | .entst m st v => (ev cx e m).bind fun a => (ev cx e st).bind fun b => (ev cx e v).bind (entstE H a b)
  | .append sz bytes x y => (ev cx e x).bind fun a => (ev cx e y).bind (appendE H sz bytes a)
  | .appstr bytes x y => (ev cx e x).bind fun a => (ev cx e y).bind (appstrE H bytes a)
  | .call f args => (evs cx e args).bind fun vs => (ev cx e f).bind (callE cx H vs)
  | _ => none

def EOp.isH : EOp → Bool
  | .alloc _ | .box _ | .store .. | .mkslice .. | .mkmap | .mapupd .. | .mapent .. | .entst .. | .append .. | .appstr .. | .call .. => true
  | _ => false

def put (e : Env) (d : Option Nat) (v : AV) : Env :=
  match d with
  | some t => (t, v) :: e
  | none => e

def wantE (e : Env) : Option (Nat × Bool) → Option Bool
  | none => some true
  | some (t, w) => (e.get t).bind fun | .bool b => some (b == w) | .tup [] => some false | _ => none

/-- One operation. -/
def evop (cx : Cx) (o : EOper) (e : Env) (H : Heap) : Option (Env × Heap × Esc) :=
  (wantE e o.guard).bind fun w =>
    if w then
      if o.op.isH then (hop cx e H o.op).bind fun (v, H', s) => some (put e o.dst v, H', s)
      else (pop cx e H o.op).bind fun v => some (put e o.dst v, H, none)
    else some (put e o.dst undf, H, none)

def evops (cx : Cx) : List EOper → Env → Heap → Esc → Option (Env × Heap × Esc)
  | [], e, H, s => some (e, H, s)
  | o :: r, e, H, s => (evop cx o e H).bind fun (e', H', s') => evops cx r e' H' (s.mrg s')

/-- Does a reading operation answer the same at a heap? -/
def sameAt (cx : Cx) (e : Env) (v : AV) (op : EOp) (H : Heap) : Bool :=
  match pop cx e H op with
  | some u => AV.beq u v
  | none => false

def EOp.reads : EOp → Bool
  | .load .. | .lookup .. | .len .. => true
  | _ => false
/-- The operations of a region that draws its order, in an order that its edges allow: the heaps ahead of each operation with an effect, and what was read. -/
def evdops (cx : Cx) : Nat → List DOper → Env → Heap → Esc → List (Nat × Heap) → List (DOper × Env × AV) → Option (Env × Heap × Esc × List (Nat × Heap) × List (DOper × Env × AV))
  | j, [], e, H, s, hs, rs => some (e, H, s, (j, H) :: hs, rs)
  | j, d :: r, e, H, s, hs, rs => (evop cx d.o e H).bind fun (e', H', s') =>
      evdops cx (j + 1) r e' H' (s.mrg s') (if d.eff then (j, H) :: hs else hs)
        (if d.o.op.reads then (match wantE e d.o.guard, pop cx e H d.o.op with | some true, some v => (d, e, v) :: rs | _, _ => rs) else rs)

def readsOK (cx : Cx) (hs : List (Nat × Heap)) : List (DOper × Env × AV) → Bool
  | [] => true
  | (d, e, v) :: rs => hs.all (fun x => if d.lo ≤ x.1 ∧ x.1 ≤ d.hi then sameAt cx e v d.o.op x.2 else true) && readsOK cx hs rs

def restr (e : Env) : List Nat → Env
  | [] => []
  | t :: r => match e.get t with
    | some v => (t, v) :: restr e r
    | none => restr e r

abbrev Out := Option (EExit × Env × Heap × Esc)

def loopN (f : Env → Heap → Esc → Out) (live : List Nat) : Nat → Env → Heap → Esc → Out
  | 0, _, _, _ => none
  | n + 1, e, H, s => (f (restr e live) H s).bind fun (x, e', H', s') =>
      match x with
      | .normal => loopN f live n e' H' s'
      | x => some (x, e', H', s')

def gotoN (f : Env → Heap → Esc → Out) (l : Nat) (live : List Nat) : Nat → Env → Heap → Esc → Out
  | 0, _, _, _ => none
  | n + 1, e, H, s => (f (restr e live) H s).bind fun (x, e', H', s') =>
      match x with
      | .goto i => if i = l then gotoN f l live n e' H' s' else none
      | x => some (x, e', H', s')

def evc (cx : Cx) (n : Nat) : ECode → Env → Heap → Esc → Out
  | .skip, e, H, s => some (.normal, e, H, s)
  | .reg ops, e, H, s => (evops cx ops e H s).bind fun (e', H', s') => some (.normal, e', H', s')
  | .dreg ops, e, H, s => (evdops cx 0 ops e H s [] []).bind fun (e', H', s', hs, rs) =>
      if readsOK cx hs rs then some (.normal, e', H', s') else none
  | .seq a b, e, H, s => (evc cx n a e H s).bind fun (x, e', H', s') =>
      match x with
      | .normal => evc cx n b e' H' s'
      | x => some (x, e', H', s')
  | .cond c a b, e, H, s => (ev cx e c).bind fun
      | .bool t => if t then evc cx n a e H s else evc cx n b e H s
      | _ => none
  | .block id a, e, H, s => (evc cx n a e H s).bind fun (x, e', H', s') =>
      match x with
      | .exit i => if i = id then some (.normal, e', H', s') else some (.exit i, e', H', s')
      | x => some (x, e', H', s')
  | .loop live a, e, H, s => loopN (evc cx n a) live n e H s
  | .keep live a, e, H, s => evc cx n a (restr e live) H s
  | .scope l live a b, e, H, s => (evc cx n a e H s).bind fun (x, e', H', s') =>
      match x with
      | .goto i => if i = l then gotoN (evc cx n b) l live n e' H' s' else none
      | x => some (x, e', H', s')
  | .exit id, e, H, s => some (.exit id, e, H, s)
  | .goto l, e, H, s => some (.goto l, e, H, s)
  | .ret, e, H, s => some (.ret, e, H, s)

structure FE where
  np : Nat
  code : ECode
  res : List ERes
  raw : Bool := false

inductive Fun where
  | code (f : FE)
  | prim (p : List AV → Heap → Option (AV × Heap × Esc))

def evres (e : Env) (H : Heap) : List ERes → Option (List AV)
  | [] => some []
  | .tmp t :: r => (e.get t).bind fun v => (evres e H r).bind fun vs => some (v :: vs)
  | .cell t n ag :: r => (e.get t).bind fun
      | .ptr id off => (match H[id]? with
        | some (.box cs) => (rdc cs off n).bind (asg ag)
        | _ => none).bind fun v => (evres e H r).bind fun vs => some (v :: vs)
      | _ => none

def fin (n : Nat) (r : AV) (H : Heap) (s : Esc) : AV × Heap × Esc :=
  if (strip n H r).lt n && s.ge n then (strip n H r, H.take n, none) else (r, H, s)

def initEnv : Nat → List AV → Env
  | _, [] => []
  | i, v :: r => (i, v) :: initEnv (i + 1) r

def tupOf : List AV → AV
  | [v] => v
  | vs => .tup vs

def runF (cx : Cx) (n : Nat) (fe : FE) (args : List AV) (H : Heap) : Option (AV × Heap × Esc) :=
  if args.length = fe.np then
    (evc cx n fe.code (initEnv 0 args) H none).bind fun (x, e, H', s) =>
      match x with
      | .exit _ => none
      | .goto _ => none
      | _ => (evres e H' fe.res).bind fun vs => some (if fe.raw then (tupOf vs, H', s) else fin H.length (tupOf vs) H' s)
  else none

def callN (T : FuncId → Option Fun) (gl : Nat → Option (List AV)) : Nat → FuncId → List AV → Heap → Option (AV × Heap × Esc)
  | 0, _, _, _ => none
  | n + 1, f, args, H => match T f with
    | none => none
    | some (.prim p) => p args H
    | some (.code fe) => runF ⟨callN T gl n, gl⟩ n fe args H

end Go.Lim
