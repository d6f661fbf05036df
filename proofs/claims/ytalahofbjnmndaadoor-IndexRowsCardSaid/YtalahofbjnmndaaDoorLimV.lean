/- The E machine: a writer of resolved code. Nothing is claimed of it: what it writes is checked. -/
import Derived.Test.YtalahofbjnmndaaDoorLimU
set_option linter.unusedVariables false
namespace Go.Lim

abbrev G := Except String

def toAV : Nat → Value → G AV
  | 0, _ => .error "deep"
  | n + 1, v => match v with
    | .bool b => .ok (.bool b)
    | .int k i => .ok (.int k i)
    | .float k b => .ok (.flt k (some b))
    | .complex k a b => .ok (.cpx k (some a) (some b))
    | .string s => .ok (.str s.data.toList)
    | .pointer none => .ok .nilp
    | .slice none _ _ => .ok (.slc .nil [])
    | .map none => .ok .nilm
    | .func (.func f) _ _ => .ok (.fn f [])
    | .nilFunc => .ok .nilf
    | .iface t v => do return .ifc t (← toAV n v)
    | .nilIface => .ok .nili
    | .agg cs => do return .agg (← cs.toList.mapM (toAV n))
    | .tuple cs => do return .tup (← cs.toList.mapM (toAV n))
    | _ => .error "value"

def gX : Operand → G EX
  | .tmp t => .ok (.t t)
  | .const v => do return .c (← toAV 20 v)
  | .global g => .ok (.g g)
  | .func f => .ok (.c (.fn f []))
def gXs (xs : Array Operand) : G (List EX) := xs.toList.mapM gX
def gXo : Option Operand → G (Option EX)
  | none => .ok none
  | some x => do return some (← gX x)

def gInfo (P : Program) (t : TypeId) : G TypeInfo := match P.info? t with | some i => .ok i | none => .error "info"
def gU (P : Program) (t : TypeId) : G TypeDesc := match P.underlying t with | some i => .ok i | none => .error "under"
def gZero (P : Program) (t : TypeId) : G AV := do
  match (← gInfo P t).zero with | some z => toAV 20 z | none => .error "zero"
def gAgg (P : Program) (t : TypeId) : G Bool := match isAggT P t with | some b => .ok b | none => .error "agg"
def gSK (P : Program) (t : TypeId) : G SK := do
  match ← gU P t with
  | .int _ => .ok .int
  | .bool => .ok .bool
  | .string => .ok .str
  | _ => .error "key"
def gKK (P : Program) (t : TypeId) : G KK := do
  match ← gU P t with
  | .struct fs => return .st (← fs.toList.mapM fun f => gSK P f.type)
  | _ => return .one (← gSK P t)
def gEl (P : Program) (t : TypeId) : G TypeId := do
  match ← gU P t with
  | .slice e => .ok e
  | _ => .error "no slice"
def gNK (P : Program) (t : TypeId) : G NK := do
  match ← gU P t with
  | .pointer _ => .ok .p
  | .slice _ => .ok .s
  | .map _ _ => .ok .m
  | .func _ _ _ => .ok .f
  | .interface _ => .ok .i
  | _ => .error "nil of?"
def isNilV : Operand → Bool
  | .const (.pointer none) | .const (.slice none _ _) | .const (.map none) | .const .nilFunc | .const .nilIface => true
  | _ => false

def gOp (P : Program) : Op → G EOp
  | .move x => do return .mv (← gX x)
  | .assign x => do return .mv (← gX x)
  | .pick c a b => do return .pick (← gX c) (← gX a) (← gX b)
  | .alloc t => do return .alloc (← gZero P t).cells
  | .box _ a => do return .box (← gX a)
  | .build t ps => do
    let z ← gZero P t
    let qs ← ps.toList.mapM fun (i, x) => do
      match placeT P t i with
      | some (a, b) => return (a, b, ← gX x)
      | none => .error "place"
    return .build z.cells qs
  | .buildSlice t n ps => do
    let e ← gEl P t
    let z ← gZero P e
    return .bslice z (← gInfo P e).size n (← ps.toList.mapM fun (i, x) => do return (i, ← gX x))
  | .insert t m k v => do
    match ← gU P t with
    | .map kt _ => return .mapupd (← gKK P kt) (← gX m) (← gX k) (← gX v)
    | _ => .error "insert"
  | .load t a => do return .load (← gAgg P t) (← gInfo P t).size (← gX a)
  | .store t a v => do return .store (← gInfo P t).size (← gX a) (← gX v)
  | .nilCheck x => do return .nilck (← gX x)
  | .binOp op t a b _ => do
    let cmp := op == .eql || op == .neq
    let neg := op == .neq
    if cmp then
      match ← gU P t with
      | .bool => return .eqb neg (← gX a) (← gX b)
      | .struct _ => match ← gKK P t with
        | .st ks => return .eqs ks neg (← gX a) (← gX b)
        | _ => .error "eqs"
      | .int _ | .string => return .bin op (← gX a) (← gX b)
      | .pointer _ | .slice _ | .map _ _ | .func _ _ _ | .interface _ =>
        if isNilV b then return .eqnil (← gNK P t) neg (← gX a) else .error "eq of refs"
      | .float _ => .error "eq of floats"
      | _ => .error "eq"
    else return .bin op (← gX a) (← gX b)
  | .unOp op _ a => do return .un op (← gX a)
  | .convert s d a => do
    match ← gU P s, ← gU P d with
    | .int _, .int k => return .i2i k (← gX a)
    | .string, .string => return .idc (← gX a)
    | .string, .slice _ => return .s2b (← gX a)
    | .slice _, .string => return .b2s (← gX a)
    | .int _, .float _ => .error "convert int float"
    | .float _, .int _ => .error "convert float int"
    | .slice _, .slice _ => .error "convert slice"
    | _, _ => .error "convert"
  | .sliceToArrayPointer _ _ => .error "sliceToArrayPointer"
  | .makeInterface t x => do return .mkifc t (← gX x)
  | .makeFunc (.func f) _ caps => do return .mkfn f (← gXs caps)
  | .makeFunc _ _ _ => .error "makeFunc"
  | .makeMap _ none => .ok .mkmap
  | .makeMap _ _ => .error "makeMap n"
  | .makeChan _ _ => .error "chan"
  | .makeSlice t l c => do
    let e ← gEl P t
    let i ← gInfo P e
    return .mkslice (← gZero P e) i.size i.bytes (← gX l) (← gX c)
  | .slice t a lo hi none => do
    match ← gU P t with
    | .string => return .slstr (← gX a) (← gXo lo) (← gXo hi)
    | .slice e => return .slslc (← gInfo P e).size (← gX a) (← gXo lo) (← gXo hi)
    | _ => .error "slice of array"
  | .slice _ _ _ _ _ => .error "slice3"
  | .fieldAddr t a f => do
    match ← gU P t with
    | .struct fs => match fs[f]? with
      | some q => return .faddr q.offset (← gX a)
      | none => .error "field"
    | _ => .error "fieldAddr"
  | .field t a f => do
    match ← gU P t with
    | .struct fs => match fs[f]? with
      | some q => return .field q.offset (← gInfo P q.type).size (← gAgg P q.type) (← gX a)
      | none => .error "field"
    | _ => .error "field"
  | .indexAddr t a i => do
    match ← gU P t with
    | .slice e => return .iaddr (← gInfo P e).size (← gX a) (← gX i)
    | .array n e => return .iaddra n (← gInfo P e).size (← gX a) (← gX i)
    | _ => .error "indexAddr"
  | .index t a i => do
    match ← gU P t with
    | .string => return .idxs (← gX a) (← gX i)
    | .array n e => return .idxa n (← gInfo P e).size (← gAgg P e) (← gX a) (← gX i)
    | _ => .error "index"
  | .lookup t a k ok => do
    match ← gU P t with
    | .map kt et => return .lookup (← gKK P kt) (← gZero P et) ok (← gX a) (← gX k)
    | _ => .error "lookup"
  | .mapUpdate t m k v => do
    match ← gU P t with
    | .map kt _ => return .mapupd (← gKK P kt) (← gX m) (← gX k) (← gX v)
    | _ => .error "mapUpdate"
  | .mapEntry t m k => do
    match ← gU P t with
    | .map kt et => return .mapent (← gKK P kt) (← gZero P et) (← gX m) (← gX k)
    | _ => .error "mapEntry"
  | .entryStore _ m s v => do return .entst (← gX m) (← gX s) (← gX v)
  | .range _ _ => .error "range"
  | .next _ _ => .error "next"
  | .entry _ => .error "entry"
  | .typeAssert _ _ _ _ => .error "typeAssert"
  | .extract a n => do return .extract n (← gX a)
  | .call { callee := .builtin b, args := as, argTypes := ts } => do
    match b, as.toList, ts.toList with
    | .len, [a], [t] =>
      match ← gU P t with
      | .string => return .len .s (← gX a)
      | .slice _ => return .len .l (← gX a)
      | .map _ _ => return .len .m (← gX a)
      | _ => .error "len"
    | .max, _, _ => return .mx false (← gXs as)
    | .min, _, _ => return .mx true (← gXs as)
    | .complex, [a, b], _ => return .cpxmk (← gX a) (← gX b)
    | .real, [a], _ => return .cpxre false (← gX a)
    | .imag, [a], _ => return .cpxre true (← gX a)
    | .append, [a, b], [t, t'] =>
      let e ← gEl P t
      let i ← gInfo P e
      match ← gU P t' with
      | .string => return .appstr i.bytes (← gX a) (← gX b)
      | _ => return .append i.size i.bytes (← gX a) (← gX b)
    | .copy, _, _ => .error "copy"
    | .delete, _, _ => .error "delete"
    | .panic, _, _ => .error "panic"
    | .cap, _, _ => .error "cap"
    | .clear, _, _ => .error "clear"
    | .append, _, _ => .error "append"
    | _, _, _ => .error "builtin"
  | .call { callee := .value f, args := as, argTypes := _ } => do return .call (← gX f) (← gXs as)
  | .call _ => .error "invoke"
  | .panic _ => .error "panic"
  | .defer _ => .error "defer"
  | _ => .error "op"

def gOper (P : Program) (ops : Array Oper) (o : Oper) : G EOper := do
  let g ← match o.guard with
    | none => pure none
    | some (j, w) => match (ops[j]?).bind (·.dst) with
      | some t => pure (some (t, w))
      | none => .error "guard"
  return { dst := o.dst, guard := g, op := ← gOp P o.op }

def isEff (o : EOper) : Bool := o.op.isH && !o.op.isAl

/-- The next operation: one that turns nothing, if one is ready; the first of those that turn. -/
def topo (ops : List (Nat × List Nat × EOper)) : Nat → List Nat → List Nat
  | 0, done => done.reverse
  | n + 1, done =>
    let ready := ops.filter fun (i, h, _) => !done.contains i && h.all done.contains
    match ready.find? fun (_, _, o) => !isEff o with
    | some (i, _) => topo ops n (i :: done)
    | none => match ready with
      | (i, _) :: _ => topo ops n (i :: done)
      | [] => done.reverse

def gDraw (ops : Array Oper) (es : List EOper) : List DOper :=
  let B := befs ops.toList
  let tab := (ops.toList.zip es).zipIdx.map fun ((o, e), i) => (i, hard o, e)
  let ord := topo tab ops.size []
  let π := ord.filterMap fun i => (es[i]?).map fun e => (i, e)
  let L := π.length
  let effs := π.zipIdx.filter fun ((_, e), _) => isEff e
  π.map fun (i, e) =>
    let bi := B.getD i []
    let lo := match effs.find? fun ((j, _), _) => !bi.contains j with | some (_, p) => p | none => L
    let hi := match effs.find? fun ((j, _), _) => (B.getD j []).contains i with | some (_, p) => p | none => L
    if e.op.reads then { i := i, o := e, eff := false, lo := lo, hi := hi } else { i := i, o := e, eff := isEff e, lo := 0, hi := 0 }

/-- Code behind which the environment needs no tidying. -/
def ECode.plain : ECode → Bool
  | .reg ops => ops.length ≤ 3 && ops.all fun o => o.guard.isNone
  | .skip => true
  | _ => false
def labelOf : Code → Option Nat
  | .seq a b => (labelOf a).orElse fun _ => labelOf b
  | .label l => some l
  | _ => none
def unkeep : ECode → ECode
  | .keep _ a => a
  | a => a
def gFind : Code → ECode → Nat → Option ECode
  | .seq a b, .seq x y, l =>
    match gFind a x l with
    | some r => some (.seq r y)
    | none => gFind b (unkeep y) l
  | .label l', _, l => if l' == l then some .skip else none
  | _, _, _ => none
def gCode (P : Program) : Code → G ECode
  | .skip => .ok .skip
  | .ret => .ok .ret
  | .exit i => .ok (.exit i)
  | .region _ ops false => do return .reg (← ops.toList.mapM (gOper P ops))
  | .region _ ops true => do return .dreg (gDraw ops (← ops.toList.mapM (gOper P ops)))
  | .seq a b => do
    let a' ← gCode P a
    let b' ← gCode P b
    return .seq a' (if a'.plain then b' else .keep [] b')
  | .cond c a b => do return .cond (← gX c) (← gCode P a) (← gCode P b)
  | .block i a => do return .block i (← gCode P a)
  | .loop a => do return .loop [] (← gCode P a)
  | .rangeFunc _ _ _ _ => .error "rangeFunc"
  | .scope c => do
    match labelOf c with
    | some l =>
      let a ← gCode P c
      match gFind c a l with
      | some r => return .scope l [] a r
      | none => .error "label"
    | none => .error "scope"
  | .label _ => .ok .skip
  | .goto l => .ok (.goto l)
  | .refuse _ => .error "refuse"

/-! What is live. -/
def ins (t : Nat) : List Nat → List Nat
  | [] => [t]
  | u :: r => if t < u then t :: u :: r else if t = u then u :: r else u :: ins t r
def uni (a b : List Nat) : List Nat := a.foldl (fun s t => ins t s) b
def lvOp (o : EOper) (out : List Nat) : List Nat :=
  uni o.uses (match o.dst with | some t => out.filter (· != t) | none => out)
def lvX : EX → List Nat → List Nat
  | .t t, s => ins t s
  | _, s => s
def live (retl : List Nat) : ECode → List Nat → List (Nat × List Nat) → List Nat × ECode
  | .skip, out, _ => (out, .skip)
  | .ret, _, _ => (retl, .ret)
  | .exit i, _, ex => (((ex.find? fun x => x.1 == i).map (·.2)).getD [], .exit i)
  | .reg ops, out, _ => (ops.foldr lvOp out, .reg ops)
  | .dreg ops, out, _ => (ops.foldr (fun d s => lvOp d.o s) out, .dreg ops)
  | .seq a b, out, ex =>
    let (lb, b') := live retl b out ex
    let (la, a') := live retl a lb ex
    (la, .seq a' b')
  | .cond c a b, out, ex =>
    let (lb, b') := live retl b out ex
    let (la, a') := live retl a out ex
    (lvX c (uni la lb), .cond c a' b')
  | .block i a, out, ex =>
    let (la, a') := live retl a out ((i, out) :: ex)
    (la, .block i a')
  | .loop _ a, out, ex =>
    let l := (live retl a [] ex).1
    let (l', a') := live retl a l ex
    (l', .loop l' a')
  | .goto l, _, ex => (((ex.find? fun x => x.1 == 1000000 + l).map (·.2)).getD [], .goto l)
  | .scope l _ a b, out, ex =>
    let l0 := (live retl b out ((1000000 + l, []) :: ex)).1
    let (l1, b') := live retl b out ((1000000 + l, l0) :: ex)
    let (la, a') := live retl a out ((1000000 + l, l1) :: ex)
    (la, .scope l l1 a' b')
  | .keep _ a, out, ex =>
    let (la, a') := live retl a out ex
    (la, .keep la a')

def gRes (P : Program) : ResultVar → G ERes
  | .tmp t => .ok (.tmp t)
  | .cell a t => do return .cell a (← gInfo P t).size (← gAgg P t)

def gFn (P : Program) (f : Func) : G FE := do
  match f.body with
  | none => .error "nobody"
  | some c =>
    let e ← gCode P c
    let rs ← f.results.toList.mapM (gRes P)
    let rl := rs.foldl (fun s r => match r with | .tmp t => ins t s | .cell t _ _ => ins t s) []
    return { np := f.params.size + f.nfree, code := (live rl e rl []).2, res := rs }

/-- A table. -/
inductive FTab where
  | l
  | n (k : Nat) (F : Fun) (a b : FTab)
def FTab.get : FTab → Nat → Option Fun
  | .l, _ => none
  | .n k F a b, i => if i = k then some F else if i < k then a.get i else b.get i
def FTab.All (p : Nat → Fun → Prop) : FTab → Prop
  | .l => True
  | .n k F a b => p k F ∧ a.All p ∧ b.All p
theorem FTab.get_all {p : Nat → Fun → Prop} : ∀ {t : FTab}, t.All p → ∀ i F, t.get i = some F → p i F
  | .l, _, i, F, h => by simp [FTab.get] at h
  | .n k G a b, ⟨h1, h2, h3⟩, i, F, h => by
    simp only [FTab.get] at h
    split at h
    · rename_i hik; subst hik; simp at h; subst h; exact h1
    · split at h
      · exact FTab.get_all h2 i F h
      · exact FTab.get_all h3 i F h

end Go.Lim
