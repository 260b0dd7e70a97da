/- From the model's code to the evaluator's: which code it takes, with what the program's table of types tells laid into it. -/
import Derived.Test.YtmcnmcpbdmjbfaaDoorEvDefs
namespace Go.Proofs.YtmcnmcpbdmjbfaaDoor.Ev
set_option linter.unusedSimpArgs false
set_option linter.unusedVariables false
set_option linter.unusedSectionVars false
set_option linter.unnecessarySimpa false
open Go

def ofScalar : Value → Option AV
  | .bool b => some (.bool b)
  | .int k n => some (.int k n)
  | .string s => some (.str s)
  | .pointer none => some .nilptr
  | .slice none 0 0 => some .nilslice
  | .map none => some .nilmap
  | .nilFunc => some .nilfunc
  | .nilIface => some .niliface
  | _ => none

def ofScalars : List Value → Option (List AV)
  | [] => some []
  | v :: vs => match ofScalar v, ofScalars vs with
    | some x, some xs => some (x :: xs)
    | _, _ => none

def ofValue : Value → Option AV
  | .agg cs => (ofScalars cs.toList).map .agg
  | .tuple cs => (ofScalars cs.toList).map .tuple
  | v => ofScalar v

/-- G: so many package-level variables are known. -/
def compOpd (G : Nat) : Operand → Option AOpd
  | .tmp t => some (.tmp t)
  | .const v => (ofValue v).map .const
  | .global g => if g < G then some (.glob g) else none
  | .func f => some (.func f)

def compOpds (G : Nat) : List Operand → Option (List AOpd)
  | [] => some []
  | x :: xs => match compOpd G x, compOpds G xs with
    | some y, some ys => some (y :: ys)
    | _, _ => none

def compOpt (G : Nat) : Option Operand → Option (Option AOpd)
  | none => some none
  | some x => (compOpd G x).map some

def sizeT (P : Program) (t : TypeId) : Option Nat := (P.info? t).map (·.size)
def bytesT (P : Program) (t : TypeId) : Option Nat := (P.info? t).map (·.bytes)
def zeroV (P : Program) (t : TypeId) : Option Value := (P.info? t).bind (·.zero)
def zeroT (P : Program) (t : TypeId) : Option (List AV) := (zeroV P t).bind fun v => (ofValue v).map (·.cells)

def aggT (P : Program) (t : TypeId) : Option Bool :=
  match P.underlying t with
  | some (.struct _) | some (.array _ _) => some true
  | some _ => some false
  | none => none

/-- Where a part of a struct or of an array lies: its offset and its size. -/
def placeT (P : Program) (t : TypeId) (i : Nat) : Option (Nat × Nat) :=
  match P.underlying t with
  | some (.struct fs) => match fs[i]? with
    | some f => (sizeT P f.type).map fun s => (f.offset, s)
    | none => none
  | some (.array _ e) => (sizeT P e).map fun s => (i * s, s)
  | _ => none

def compParts (P : Program) (G : Nat) (t : TypeId) : List (Nat × Operand) → Option (List ((Nat × Nat) × AOpd))
  | [] => some []
  | (i, x) :: r => match placeT P t i, compOpd G x, compParts P G t r with
    | some p, some y, some ys => some ((p, y) :: ys)
    | _, _, _ => none

def compSlots (s : Nat) (G : Nat) : List (Nat × Operand) → Option (List ((Nat × Nat) × AOpd))
  | [] => some []
  | (i, x) :: r => match compOpd G x, compSlots s G r with
    | some y, some ys => some (((i * s, s), y) :: ys)
    | _, _ => none

/-- The fields of a struct that is compared: each of one cell that is an integer, a bool or a string, and has a name. -/
def eqOffs (P : Program) : List Field → Option (List (Nat × Nat))
  | [] => some []
  | f :: r =>
    match (if f.name ≠ "_" then P.underlying f.type else none), eqOffs P r with
    | some (.int _), some l => some ((f.offset, 0) :: l)
    | some .bool, some l => some ((f.offset, 1) :: l)
    | some .string, some l => some ((f.offset, 2) :: l)
    | _, _ => none

def isCmp : BinOp → Option Bool
  | .eql => some false
  | .neq => some true
  | _ => none

def compBin (P : Program) (op : BinOp) (t : TypeId) (x y : AOpd) : Option AOp :=
  match P.underlying t with
  | some (.int _) | some .string => some (.bin op x y)
  | some .bool => (isCmp op).map fun n => .eqBool n x y
  | some (.pointer _) => (isCmp op).map fun n => .cmpNil n 0 x y
  | some (.slice _) => (isCmp op).map fun n => .cmpNil n 1 x y
  | some (.map _ _) => (isCmp op).map fun n => .cmpNil n 2 x y
  | some (.func _ _ _) => (isCmp op).map fun n => .cmpNil n 3 x y
  | some (.struct fs) => if !(P.stoodInHeld t) && !(P.eqGuardType P.depth t) then match isCmp op, eqOffs P fs.toList with | some n, some l => some (.eqStruct n l x y) | _, _ => none else none
  | _ => none

def compCall (P : Program) (G : Nat) (c : Call) (_type : TypeId) : Option AOp :=
  match c.callee, compOpds G c.args.toList with
  | .value (.func f), some args => some (.call f args)
  | .value (.tmp t), some args => some (.callv (.tmp t) args)
  | .builtin .len, some [x] =>
    match c.argTypes.toList with
    | [t] => match P.underlying t with
      | some (.slice _) => some (.lenS x)
      | some .string => some (.lenStr x)
      | some (.map _ _) => some (.lenM x)
      | some (.array n _) => some (.lenC n)
      | _ => none
    | _ => none
  | .builtin .append, some [s, x] =>
    match c.argTypes.toList with
    | [t, u] => match P.underlying t, P.underlying u with
      | some (.slice e), some (.slice _) => match sizeT P e, bytesT P e, zeroT P e with
        | some sz, some by_, some z => if z.length = sz then some (.append sz by_ z s x) else none
        | _, _, _ => none
      | _, _ => none
    | _ => none
  | .builtin .copy, some [d, s] =>
    match c.argTypes.toList with
    | [t, _] => match P.underlying t with
      | some (.slice e) => (sizeT P e).map fun sz => .copy sz d s
      | _ => none
    | _ => none
  | .builtin .clear, some [x] =>
    match c.argTypes.toList with
    | [t] => match P.underlying t with
      | some (.slice e) => match sizeT P e, zeroT P e with
        | some sz, some z => if z.length = sz then some (.clearS sz z x) else none
        | _, _ => none
      | _ => none
    | _ => none
  | .builtin .delete, some [m, k] =>
    match c.argTypes.toList with
    | [t, _] => match P.underlying t with
      | some (.map kt _) => match P.underlying kt with
        | some (.int _) => some (.delete m k)
        | _ => none
      | _ => none
    | _ => none
  | .builtin .max, some [x, y] => some (.max2 x y)
  | .builtin .max, some [x, y, z] => some (.max3 x y z)
  | .builtin .min, some [x, y] => some (.min2 x y)
  | .builtin .min, some [x, y, z] => some (.min3 x y z)
  | _, _ => none

def compOp (P : Program) (G : Nat) (o : Oper) : Option AOp :=
  match o.op with
  | .move x | .assign x => (compOpd G x).map .mv
  | .pick c a b => match compOpd G c, compOpd G a, compOpd G b with
    | some c, some a, some b => some (.pick c a b)
    | _, _, _ => none
  | .alloc e => (zeroT P e).map .alloc
  | .box _ x => (compOpd G x).map .box
  | .build t ps => match P.underlying t, zeroT P t, compParts P G t ps.toList with
    | some (.struct fs), some z, some l => if fs.toList.all (fun f => (sizeT P f.type).isSome) then some (.build z l) else none
    | some (.array _ e), some z, some l => if (sizeT P e).isSome then some (.build z l) else none
    | _, _, _ => none
  | .buildSlice t len ps => match P.underlying t with
    | some (.slice e) => match sizeT P e, zeroT P e with
      | some s, some z => if len * s ≤ 16777216 ∧ z.length = s then (compSlots s G ps.toList).map fun l => .buildSlice (rep len z) len l else none
      | _, _ => none
    | _ => none
  | .load t a => match aggT P t, sizeT P t, compOpd G a with
    | some true, some n, some a => some (.loadN n a)
    | some false, some _, some a => some (.load1 a)
    | _, _, _ => none
  | .store t a x => match sizeT P t, compOpd G a, compOpd G x with
    | some n, some a, some x => some (.store n a x)
    | _, _, _ => none
  | .nilCheck x => (compOpd G x).map .nilCheck
  | .binOp op t x y _ => match compOpd G x, compOpd G y with
    | some x, some y => compBin P op t x y
    | _, _ => none
  | .unOp op _ x => (compOpd G x).map (.un op)
  | .convert s d x => match P.underlying s, P.underlying d, compOpd G x with
    | some _, some (.int k), some x => some (.toInt k x)
    | _, _, _ => none
  | .makeFunc (.func f) a b => match compOpds G a.toList, compOpds G b.toList with
    | some a, some b => some (.mkfunc f a b)
    | _, _ => none
  | .makeMap _ none => some .mkmap
  | .makeSlice t l c => match P.underlying t with
    | some (.slice e) => match sizeT P e, bytesT P e, zeroT P e, compOpd G l, compOpd G c with
      | some s, some b, some z, some l, some c => if 0 < s then some (.mkslice s b z l c) else none
      | _, _, _, _, _ => none
    | _ => none
  | .slice t x lo hi mx => match compOpd G x, compOpt G lo, compOpt G hi, compOpt G mx with
    | some x, some lo, some hi, some mx =>
      if mx.isSome = true → hi.isSome = true then
        match P.underlying t with
        | some (.slice e) => (sizeT P e).map fun s => .slc s none x lo hi mx
        | some (.array n e) => (sizeT P e).map fun s => .slc s (some n) x lo hi mx
        | _ => none
      else none
    | _, _, _, _ => none
  | .fieldAddr s x f => match placeT P s f, P.underlying s, compOpd G x with
    | some (off, n), some (.struct _), some x => if n ≠ 0 then some (.fieldAddr off x) else none
    | _, _, _ => none
  | .field t x f => match P.underlying t, placeT P t f, compOpd G x with
    | some (.struct fs), some (off, n), some x => match fs[f]? with
      | some g => match aggT P g.type with
        | some true => some (.fieldN off n x)
        | some false => some (.field1 off x)
        | none => none
      | none => none
    | _, _, _ => none
  | .indexAddr t x i => match compOpd G x, compOpd G i with
    | some x, some i => match P.underlying t with
      | some (.slice e) => (sizeT P e).map fun s => .idxAddr s none x i
      | some (.array n e) => (sizeT P e).map fun s => .idxAddr s (some n) x i
      | _ => none
    | _, _ => none
  | .index t x i => match P.underlying t, compOpd G x, compOpd G i with
    | some (.array n e), some x, some i => match aggT P e, sizeT P e with
      | some false, some 1 => some (.idx1 n x i)
      | _, _ => none
    | _, _, _ => none
  | .extract x k => (compOpd G x).map (.extract k)
  | .lookup t x i ok => match P.underlying t, compOpd G x, compOpd G i with
    | some (.map kt e), some x, some i => match P.underlying kt, (zeroV P e).bind ofValue with
      | some (.int _), some z => some (.lookup z ok x i)
      | _, _ => none
    | _, _, _ => none
  | .mapUpdate t m k x => match P.underlying t, compOpd G m, compOpd G k, compOpd G x with
    | some (.map kt _), some m, some k, some x => match P.underlying kt with
      | some (.int _) => some (.mapUpdate m k x)
      | _ => none
    | _, _, _, _ => none
  | .mapEntry t m k => match P.underlying t, compOpd G m, compOpd G k with
    | some (.map kt e), some m, some k => match P.underlying kt, (zeroV P e).bind ofValue with
      | some (.int _), some z => some (.mapEntry z m k)
      | _, _ => none
    | _, _, _ => none
  | .entryStore _ m s x => match compOpd G m, compOpd G s, compOpd G x with
    | some m, some s, some x => some (.entryStore m s x)
    | _, _, _ => none
  | .call c => compCall P G c o.type
  | _ => none

/-- The slot that a guard looks at. -/
def compGuard (ops : Array Oper) : Option (Nat × Bool) → Option (Option (Nat × Bool))
  | none => some none
  | some (j, want) => match (ops[j]?).bind (·.dst) with
    | some d => some (some (d, want))
    | none => none

def compOper (P : Program) (G : Nat) (ops : Array Oper) (o : Oper) : Option AOper :=
  match compOp P G o, compGuard ops o.guard with
  | some a, some g => some ⟨o.dst, a, g⟩
  | _, _ => none

def compOpers (P : Program) (G : Nat) (ops : Array Oper) : List Oper → Option (List AOper)
  | [] => some []
  | o :: r => match compOper P G ops o, compOpers P G ops r with
    | some a, some l => some (a :: l)
    | _, _ => none

/-- The slots that an operation reads. -/
def AOpd.reads : AOpd → List Nat
  | .tmp t => [t]
  | _ => []

def optReads : Option AOpd → List Nat
  | some x => x.reads
  | none => []

def AOp.reads : AOp → List Nat
  | .mv x | .box x | .load1 x | .loadN _ x | .nilCheck x | .un _ x | .toInt _ x | .fieldAddr _ x | .field1 _ x | .fieldN _ _ x | .extract _ x | .lenS x | .lenStr x | .lenM x | .clearS _ _ x => x.reads
  | .alloc _ | .mkmap | .lenC _ => []
  | .pick a b c | .max3 a b c | .min3 a b c | .mapUpdate a b c | .entryStore a b c => a.reads ++ b.reads ++ c.reads
  | .build _ ps | .buildSlice _ _ ps | .litSlice _ ps => ps.flatMap fun p => p.2.reads
  | .zeroSlice => []
  | .store _ a b | .bin _ a b | .cmpNil _ _ a b | .eqBool _ a b | .eqStruct _ _ a b | .mkslice _ _ _ a b | .idxAddr _ _ a b | .idx1 _ a b | .append _ _ _ a b | .copy _ a b | .max2 a b | .min2 a b | .lookup _ _ a b | .delete a b | .mapEntry _ a b | .filterRows _ _ _ a b => a.reads ++ b.reads
  | .mkfunc _ a b => a.flatMap AOpd.reads ++ b.flatMap AOpd.reads
  | .slc _ _ x lo hi mx => x.reads ++ optReads lo ++ optReads hi ++ optReads mx
  | .call _ args => args.flatMap AOpd.reads
  | .callv x args => x.reads ++ args.flatMap AOpd.reads

def AOper.looks (o : AOper) : List Nat := o.op.reads ++ (match o.guard with | some (s, _) => [s] | none => [])

/-- An operation whose value does not hang on the heap, and that leaves it as it is. -/
def AOp.isStill : AOp → Bool
  | .mv _ | .pick .. | .build .. | .litSlice .. | .nilCheck _ | .bin .. | .cmpNil .. | .eqBool .. | .eqStruct .. | .un .. | .toInt .. | .mkfunc .. | .fieldAddr .. | .field1 .. | .fieldN .. | .idxAddr .. | .idx1 .. | .extract .. | .lenS _ | .lenStr _ | .lenC _ | .max2 .. | .max3 .. | .min2 .. | .min3 .. => true
  | _ => false

/-- One whose value hangs on the heap, and that leaves it as it is. -/
def AOp.isRead : AOp → Bool
  | .load1 _ | .loadN .. | .lenM _ | .lookup .. | .slc .. | .zeroSlice => true
  | _ => false

/-- A new slice of known cells that is only read, as a value of its own. -/
def litOp : AOp → AOp
  | .buildSlice z len ps => if len = 0 ∧ z.isEmpty = true ∧ ps.isEmpty = true then .zeroSlice else if z.length = len then .litSlice z ps else .buildSlice z len ps
  | o => o
def litOper (o : AOper) : AOper := { o with op := litOp o.op }

def addAll : List Nat → List Nat → List Nat
  | [], l => l
  | x :: r, l => if l.contains x then addAll r l else addAll r (x :: l)

/-- For each operation those that stand before it by the edges, itself not among them (a list of numbers). -/
def befores : List Oper → List (List Nat) → List (List Nat)
  | [], acc => acc
  | o :: r, acc => befores r (acc ++ [(o.after.toList.filter (Region.binds .any)).foldr (fun e l => addAll (e.on :: acc.getD e.on []) l) []])

def stanceOf (ops : List AOper) (bs : List (List Nat)) (loud : List Nat) (i : Nat) (a : AOp) : Stance :=
  if a.isStill then .still
  else if a.isRead then .reads (loud.filter fun j => (bs.getD i []).contains j).length (loud.length - (loud.filter fun j => (bs.getD j []).contains i).length)
  else .loud

/-- Those that write. -/
def louds : List AOper → Nat → List Nat
  | [], _ => []
  | o :: r, i => if o.op.isStill || o.op.isRead then louds r (i + 1) else i :: louds r (i + 1)

def stances (all : List AOper) (bs : List (List Nat)) (loud : List Nat) : List AOper → Nat → List (AOper × Stance)
  | [], _ => []
  | o :: r, i => (o, stanceOf all bs loud i o.op) :: stances all bs loud r (i + 1)

/-- Two operations that no edge orders do not touch each other's slots. -/
def apartOps (x y : AOper) : Bool :=
  (match x.dst with | some d => !(y.looks.contains d) && y.dst != some d | none => true) &&
  (match y.dst with | some d => !(x.looks.contains d) | none => true)

/-- The operations that an operation waits for by an edge. -/
def edgesOf (o : Oper) : List Nat := (o.after.toList.filter (Region.binds .any)).map (·.on)

/-- A region whose order is drawn is taken where those that write stand in a row by the edges, and no two that are in no order touch each other's slots. -/
def drawOk (ops : List AOper) (es bs : List (List Nat)) (loud : List Nat) : Bool :=
  ((List.range ops.length).all fun i => ((es.getD i []).all fun j => decide (j < i) && (bs.getD i []).contains j) && ((bs.getD i []).all fun j => decide (j < i) && (es.getD i []).any fun e => e == j || (bs.getD e []).contains j)) &&
  (loud.all fun i => loud.all fun j => decide (j ≤ i) || (bs.getD j []).contains i) &&
  ((List.range ops.length).all fun j => (List.range j).all fun i => (bs.getD j []).contains i || (match ops[i]?, ops[j]? with | some x, some y => apartOps x y | _, _ => false))

def compRegion (P : Program) (G : Nat) (ops : Array Oper) (draw : Bool) : Option ACode :=
  match compOpers P G ops ops.toList with
  | none => none
  | some l =>
    if draw then
      let bs := befores ops.toList []
      let loud := louds l 0
      if drawOk l (ops.toList.map edgesOf) bs loud && P.follows .mixedOrders then some (.draw (stances l bs loud l 0)) else
        let l2 := l.map litOper
        let loud2 := louds l2 0
        if drawOk l2 (ops.toList.map edgesOf) bs loud2 && P.follows .mixedOrders then some (.draw (stances l2 bs loud2 l2 0)) else none
    else some (.region l)

def compCode (P : Program) (G : Nat) : Code → Option ACode
  | .skip => some .skip
  | .region _ ops draw => compRegion P G ops draw
  | .seq a b => match compCode P G a, compCode P G b with
    | some x, some y => some (.seq x y)
    | _, _ => none
  | .cond c a b => match compOpd G c, compCode P G a, compCode P G b with
    | some c, some x, some y => some (.cond c x y)
    | _, _, _ => none
  | .block id a => (compCode P G a).map (.block id)
  | .loop a => (compCode P G a).map .loop
  | .exit id => some (.exit id)
  | .ret => some .ret
  | _ => none

def compRes (P : Program) : List ResultVar → Option (List ARes)
  | [] => some []
  | .tmp t :: r => (compRes P r).map (.tmp t :: ·)
  | .cell t ty :: r => match aggT P ty, sizeT P ty, compRes P r with
    | some true, some n, some l => some (.cellN t n :: l)
    | some false, some _, some l => some (.cell1 t :: l)
    | _, _, _ => none

def compFunc (P : Program) (G : Nat) (fn : Func) : Option AFunc :=
  match fn.body with
  | none => none
  | some c => match compCode P G c, compRes P fn.results.toList with
    | some b, some r => if fn.name == "runtime.NumGoroutine" then none else some { ntmps := fn.ntmps, results := r, body := b }
    | _, _ => none

/-- The table is the program's. -/
def TableOk (P : Program) (G : Nat) (T : ATable) : Prop := ∀ f F, T f = some F → ∃ fn, P.funcs[f]? = some fn ∧ compFunc P G fn = some F

end Go.Proofs.YtmcnmcpbdmjbfaaDoor.Ev
