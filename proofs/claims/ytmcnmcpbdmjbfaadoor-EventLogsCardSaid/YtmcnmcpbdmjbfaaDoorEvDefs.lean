/- A small deterministic evaluator for the part of the translated language that this program uses: values whose pointers are numbers of objects of a heap of its own, operations, code, calls. What it says of the model is proved in the texts behind it. -/
import Derived.Calls
import Derived.LoopN
import Derived.Orders
namespace Go.Proofs.YtmcnmcpbdmjbfaaDoor.Ev
set_option linter.unusedSimpArgs false
set_option linter.unusedVariables false
set_option linter.unusedSectionVars false
set_option linter.unnecessarySimpa false
open Go

/-- A capacity: known, or what an append's draw left, less so many. -/
inductive Cap where
  | exact (c : Nat)
  | loose (k d : Nat)
  deriving DecidableEq, Inhabited

/-- A value. A pointer names an object and a place in it. -/
inductive AV where
  | bool (b : Bool)
  | int (k : IntKind) (n : Int)
  | str (s : ByteArray)
  | nilptr
  | ptr (i o : Nat)
  | nilslice
  | slice (i o n : Nat) (c : Cap)
  | lit (cs : List AV)
  | nilmap
  | map (i : Nat)
  | func (f : Nat) (first cap : List AV)
  | nilfunc
  | niliface
  | agg (cs : List AV)
  | tuple (vs : List AV)
  deriving Inhabited

mutual
def AV.beq : AV → AV → Bool
  | .bool a, .bool b => a == b
  | .int j a, .int k b => decide (j = k) && decide (a = b)
  | .str a, .str b => decide (a = b)
  | .nilptr, .nilptr => true
  | .ptr i o, .ptr j p => decide (i = j) && decide (o = p)
  | .nilslice, .nilslice => true
  | .slice i o n c, .slice j p m d => decide (i = j) && decide (o = p) && decide (n = m) && decide (c = d)
  | .nilmap, .nilmap => true
  | .map i, .map j => decide (i = j)
  | .func f a b, .func g c d => decide (f = g) && AV.beqs a c && AV.beqs b d
  | .nilfunc, .nilfunc => true
  | .niliface, .niliface => true
  | .lit a, .lit b => AV.beqs a b
  | .agg a, .agg b => AV.beqs a b
  | .tuple a, .tuple b => AV.beqs a b
  | _, _ => false
def AV.beqs : List AV → List AV → Bool
  | [], [] => true
  | a :: as, b :: bs => AV.beq a b && AV.beqs as bs
  | _, _ => false
end

mutual
theorem AV.beq_iff : ∀ a b : AV, AV.beq a b = true ↔ a = b
  | a, b => by
    cases a <;> cases b <;> simp [AV.beq, AV.beqs_iff, and_assoc]
theorem AV.beqs_iff : ∀ a b : List AV, AV.beqs a b = true ↔ a = b
  | [], b => by cases b <;> simp [AV.beqs]
  | x :: xs, b => by
    cases b with
    | nil => simp [AV.beqs]
    | cons y ys => simp [AV.beqs, AV.beq_iff x y, AV.beqs_iff xs ys]
end

instance : DecidableEq AV := fun a b => decidable_of_iff _ (AV.beq_iff a b)

def AV.cells : AV → List AV
  | .agg cs => cs
  | v => [v]

def undefA : AV := .tuple []

/-- One cell's value: no aggregate, no tuple. -/
def AV.one : AV → Bool
  | .agg _ | .tuple _ => false
  | _ => true

/-- An object: dead, a row of cells (ro: it is never written; room: the capacity drawn for it, and an element's size), a map (its entries, when each was born, the clock). -/
inductive AObj where
  | dead
  | cells (ro : Bool) (cs : List AV) (room : Option (Nat × Nat))
  | map (es : List (AV × AV)) (bs : List Nat) (ck : Nat)
  deriving Inhabited

/-- The heap: objects by number; for each capacity that was drawn, what it is at least. -/
structure AHeap where
  objs : List AObj
  caps : List Nat
  deriving Inhabited

def AHeap.push (h : AHeap) (o : AObj) : AHeap := ⟨h.objs ++ [o], h.caps⟩
def AHeap.put (h : AHeap) (i : Nat) (o : AObj) : AHeap := ⟨h.objs.set i o, h.caps⟩

/-- The cells of an object. -/
def AHeap.row (h : AHeap) (i : Nat) : Option (List AV) :=
  match h.objs[i]? with
  | some (.cells _ cs _) => some cs
  | _ => none

def AHeap.cell (h : AHeap) (i o : Nat) : Option AV := (h.row i).bind fun cs => cs[o]?

/-- So many cells from a place on. -/
def AHeap.cellsAt (h : AHeap) (i o n : Nat) : Option (List AV) :=
  (h.row i).bind fun cs => if o + n ≤ cs.length then some ((cs.drop o).take n) else none

/-- A list with others in it from a place on. -/
def splice (cs : List AV) (o : Nat) (vs : List AV) : List AV := cs.take o ++ (vs ++ cs.drop (o + vs.length))

def AHeap.write (h : AHeap) (i o : Nat) (vs : List AV) : Option AHeap :=
  match h.objs[i]? with
  | some (.cells false cs room) => if o + vs.length ≤ cs.length ∧ vs.all AV.one then some (h.put i (.cells false (splice cs o vs) room)) else none
  | _ => none

inductive AOpd where
  | tmp (t : Nat)
  | const (v : AV)
  | glob (g : Nat)
  | func (f : Nat)
  deriving Inhabited

abbrev AFrame := List AV

def AFrame.eval (fr : AFrame) : AOpd → AV
  | .tmp t => fr.getD t undefA
  | .const v => v
  | .glob g => .ptr g 0
  | .func f => .func f [] []

def AFrame.putD (fr : AFrame) : Option Nat → AV → AFrame
  | some d, v => fr.set d v
  | none, _ => fr

inductive AOp where
  | mv (x : AOpd)
  | pick (c a b : AOpd)
  | alloc (z : List AV)
  | box (x : AOpd)
  | build (z : List AV) (ps : List ((Nat × Nat) × AOpd))
  | buildSlice (z : List AV) (len : Nat) (ps : List ((Nat × Nat) × AOpd))
  | litSlice (z : List AV) (ps : List ((Nat × Nat) × AOpd))
  | zeroSlice
  | load1 (a : AOpd)
  | loadN (n : Nat) (a : AOpd)
  | store (n : Nat) (a x : AOpd)
  | nilCheck (x : AOpd)
  | bin (op : BinOp) (x y : AOpd)
  | cmpNil (neg : Bool) (k : Nat) (x y : AOpd)
  | eqBool (neg : Bool) (x y : AOpd)
  | eqStruct (neg : Bool) (offs : List (Nat × Nat)) (x y : AOpd)
  | un (op : UnOp) (x : AOpd)
  | toInt (k : IntKind) (x : AOpd)
  | mkfunc (f : Nat) (first cap : List AOpd)
  | mkmap
  | mkslice (size bytes : Nat) (z : List AV) (l c : AOpd)
  | slc (size : Nat) (arr : Option Nat) (x : AOpd) (lo hi mx : Option AOpd)
  | fieldAddr (off : Nat) (x : AOpd)
  | field1 (off : Nat) (x : AOpd)
  | fieldN (off n : Nat) (x : AOpd)
  | idxAddr (size : Nat) (arr : Option Nat) (x i : AOpd)
  | idx1 (len : Nat) (x i : AOpd)
  | extract (k : Nat) (x : AOpd)
  | lenS (x : AOpd)
  | lenStr (x : AOpd)
  | lenC (n : Nat)
  | lenM (x : AOpd)
  | append (size bytes : Nat) (z : List AV) (s x : AOpd)
  | copy (size : Nat) (d s : AOpd)
  | clearS (size : Nat) (z : List AV) (x : AOpd)
  | max2 (x y : AOpd) | max3 (x y z : AOpd)
  | min2 (x y : AOpd) | min3 (x y z : AOpd)
  | lookup (z : AV) (ok : Bool) (x i : AOpd)
  | mapUpdate (m k x : AOpd)
  | delete (m k : AOpd)
  | mapEntry (z : AV) (m k : AOpd)
  | entryStore (m s x : AOpd)
  | filterRows (size bytes col : Nat) (s x : AOpd)
  | call (f : Nat) (args : List AOpd)
  | callv (x : AOpd) (args : List AOpd)
  deriving Inhabited

/-- What a binary operation of two integers, two strings comes to. -/
def binV (op : BinOp) (x y : AV) : Option AV :=
  match op, x, y with
  | .shl, .int k a, .int _ b => if 0 ≤ b then some (.int k (k.wrap (a * 2 ^ (min b.toNat k.bits)))) else none
  | .shr, .int k a, .int _ b => if 0 ≤ b then some (.int k (a.fdiv (2 ^ (min b.toNat k.bits)))) else none
  | .add, .int k a, .int k' b => if k = k' then some (.int k (k.wrap (a + b))) else none
  | .sub, .int k a, .int k' b => if k = k' then some (.int k (k.wrap (a - b))) else none
  | .mul, .int k a, .int k' b => if k = k' then some (.int k (k.wrap (a * b))) else none
  | .quo, .int k a, .int k' b => if k = k' ∧ b ≠ 0 then some (.int k (k.wrap (a.tdiv b))) else none
  | .rem, .int k a, .int k' b => if k = k' ∧ b ≠ 0 then some (.int k (a.tmod b)) else none
  | .and, .int k a, .int k' b => if k = k' then some (.int k (k.wrap ((BitVec.ofInt k.bits a &&& BitVec.ofInt k.bits b).toNat))) else none
  | .or, .int k a, .int k' b => if k = k' then some (.int k (k.wrap ((BitVec.ofInt k.bits a ||| BitVec.ofInt k.bits b).toNat))) else none
  | .xor, .int k a, .int k' b => if k = k' then some (.int k (k.wrap ((BitVec.ofInt k.bits a ^^^ BitVec.ofInt k.bits b).toNat))) else none
  | .andNot, .int k a, .int k' b => if k = k' then some (.int k (k.wrap ((BitVec.ofInt k.bits a &&& ~~~ BitVec.ofInt k.bits b).toNat))) else none
  | .eql, .int k a, .int k' b => if k = k' then some (.bool (a == b)) else none
  | .neq, .int k a, .int k' b => if k = k' then some (.bool (a != b)) else none
  | .lss, .int k a, .int k' b => if k = k' then some (.bool (decide (a < b))) else none
  | .leq, .int k a, .int k' b => if k = k' then some (.bool (decide (a ≤ b))) else none
  | .gtr, .int k a, .int k' b => if k = k' then some (.bool (decide (a > b))) else none
  | .geq, .int k a, .int k' b => if k = k' then some (.bool (decide (a ≥ b))) else none
  | .eql, .str a, .str b => some (.bool (a.toList == b.toList))
  | .neq, .str a, .str b => some (.bool (!(a.toList == b.toList)))
  | _, _, _ => none

/-- Is it nil? Pointers (0), slices (1), maps (2), functions (3). -/
def AV.isNil : Nat → AV → Option Bool
  | 0, .nilptr | 1, .nilslice | 2, .nilmap | 3, .nilfunc => some true
  | 0, .ptr .. | 1, .slice .. | 2, .map .. | 3, .func .. => some false
  | _, _ => none

/-- Two single cells of a struct that is compared: integers (0), bools (1), strings (2). -/
def eqCell : Nat → AV → AV → Option Bool
  | 0, .int j a, .int k b => if j = k then some (a == b) else none
  | 1, .bool a, .bool b => some (a == b)
  | 2, .str a, .str b => some (a.toList == b.toList)
  | _, _, _ => none

def eqAt (xs ys : List AV) : List (Nat × Nat) → Option Bool
  | [] => some true
  | (o, k) :: r =>
    match xs[o]?, ys[o]? with
    | some x, some y =>
      match eqCell k x y with
      | some true => eqAt xs ys r
      | some false => some false
      | none => none
    | _, _ => none

def unV (op : UnOp) (x : AV) : Option AV :=
  match op, x with
  | .neg, .int k n => some (.int k (k.wrap (0 - n)))
  | .not, .bool b => some (.bool !b)
  | .xor, .int k n => some (.int k (k.wrap ((BitVec.ofInt k.bits (if k.signed then -1 else k.max) ^^^ BitVec.ofInt k.bits n).toNat)))
  | _, _ => none

/-- Parts laid into cells. -/
def fillA (fr : AFrame) : List AV → List ((Nat × Nat) × AOpd) → Option (List AV)
  | cs, [] => some cs
  | cs, ((off, size), x) :: r =>
    let vs := (fr.eval x).cells
    if vs.length = size ∧ off + size ≤ cs.length then fillA fr (splice cs off vs) r else none

def AV.nat : AV → Option Nat
  | .int _ n => if 0 ≤ n then some n.toNat else none
  | _ => none

/-- Is so much surely within a capacity? -/
def AHeap.within (h : AHeap) (n : Nat) : Cap → Bool
  | .exact c => n ≤ c
  | .loose k d => match h.caps[k]? with | some lb => n + d ≤ lb | none => false

def Cap.less (l : Nat) : Cap → Cap
  | .exact c => .exact (c - l)
  | .loose k d => .loose k (d + l)

/-- An end that is given, or what stands for it. -/
def endV (d : Nat) : Option AV → Option Nat
  | some v => v.nat
  | none => some d

/-- A cut of a slice, or of an array behind a pointer. -/
def slcV (h : AHeap) (size : Nat) (arr : Option Nat) (x : AV) (lo hi mx : Option AV) : Option AV :=
  match endV 0 lo with
  | none => none
  | some l =>
    match arr, x with
    | none, .nilslice =>
      match endV 0 hi with
      | some hh => if l = 0 ∧ hh = 0 ∧ endV 0 mx = some 0 then some .nilslice else none
      | none => none
    | none, .slice i o n c =>
      match endV n hi with
      | none => none
      | some hh =>
        match mx with
        | none =>
          if l ≤ hh ∧ h.within hh c then
            (match c with
            | .exact m => some (.slice i (if m = l then o else o + l * size) (hh - l) (.exact (m - l)))
            | .loose .. => some (.slice i (o + l * size) (hh - l) (c.less l)))
          else none
        | some v =>
          match v.nat with
          | some m => if l ≤ hh ∧ hh ≤ m ∧ h.within m c then some (.slice i (if m = l then o else o + l * size) (hh - l) (.exact (m - l))) else none
          | none => none
    | some n, .ptr i o =>
      match endV n hi with
      | some hh => if l ≤ hh ∧ hh ≤ n ∧ mx.isNone then some (.slice i (if n = l then o else o + l * size) (hh - l) (.exact (n - l))) else none
      | none => none
    | _, _ => none

def idxAddrV (size : Nat) (arr : Option Nat) (x i : AV) : Option AV :=
  match arr, x, i with
  | none, .slice b o n _, .int _ j => if 0 ≤ j ∧ j < n then some (.ptr b (o + j.toNat * size)) else none
  | some n, .ptr b o, .int _ j => if 0 ≤ j ∧ j < n then some (.ptr b (o + j.toNat * size)) else none
  | _, _, _ => none

/-- The first cells of a slice. -/
def firstCellsA (h : AHeap) (size n : Nat) : AV → Option (List AV)
  | .nilslice => if n = 0 then some [] else none
  | .slice i o m _ => if n = 0 then some [] else if n ≤ m then h.cellsAt i o (n * size) else none
  | .lit cs => if size = 1 ∧ n = cs.length then some cs else none
  | _ => none

def AV.lenA : AV → Option Nat
  | .nilslice => some 0
  | .slice _ _ n _ => some n
  | .lit cs => some cs.length
  | _ => none

def bigA : Nat := 70368744177664

/-- append. Where it is open whether there is room, the elder object is dead behind it. -/
def appendV (h : AHeap) (size bytes : Nat) (s x : AV) : Option (AV × AHeap) :=
  match s.lenA, x.lenA with
  | some n, some m =>
    match firstCellsA h size m x with
    | none => none
    | some news =>
      if (n + m) * bytes ≤ bigA ∧ n + m ≤ bigA ∧ news.all AV.one then
        match s with
        | .nilslice => if m = 0 then some (.nilslice, h) else some (.slice h.objs.length 0 m (.loose h.caps.length 0), ⟨h.objs ++ [.cells false news (some (h.caps.length, size))], h.caps ++ [m]⟩)
        | .slice i o _ c =>
          if h.within (n + m) c then
            (if m = 0 then some (.slice i o n c, h) else (h.write i (o + n * size) news).map fun h' => (.slice i o (n + m) c, h'))
          else
            match c with
            | .exact c =>
              if c < n + m then (firstCellsA h size n s).map fun olds => (.slice h.objs.length 0 (n + m) (.loose h.caps.length 0), ⟨h.objs ++ [.cells false (olds ++ news) (some (h.caps.length, size))], h.caps ++ [n + m]⟩) else none
            | .loose k d =>
              match h.objs[i]? with
              | some (.cells false cs (some (k', s'))) =>
                if k' = k ∧ s' = size ∧ o = d * size ∧ o + n * size ≤ cs.length then
                  some (.slice h.objs.length 0 (n + m) (.loose h.caps.length 0), ⟨h.objs.set i .dead ++ [.cells false ((cs.drop o).take (n * size) ++ news) (some (h.caps.length, size))], h.caps ++ [n + m]⟩)
                else none
              | _ => none
        | _ => none
      else none
  | _, _ => none

def copyV (h : AHeap) (size : Nat) (d s : AV) : Option (AV × AHeap) :=
  match d.lenA, s.lenA with
  | some n, some m =>
    match firstCellsA h size (min m n) s with
    | none => none
    | some cells =>
      match d with
      | .nilslice => some (.int .i64 (min m n : Nat), h)
      | .slice i o _ _ => if cells = [] then some (.int .i64 (min m n : Nat), h) else (h.write i o cells).map fun h' => (.int .i64 (min m n : Nat), h')
      | _ => none
  | _, _ => none

def rep (n : Nat) (z : List AV) : List AV :=
  match n with
  | 0 => []
  | n + 1 => z ++ rep n z

def clearV (h : AHeap) (size : Nat) (z : List AV) : AV → Option (AV × AHeap)
  | .nilslice => some (.tuple [], h)
  | .slice i o n _ => if n = 0 then some (.tuple [], h) else if z.length = size then (h.write i o (rep n z)).map fun h' => (.tuple [], h') else none
  | _ => none

def keyEq : AV → AV → Option Bool
  | .int j a, .int k b => if j = k then some (a == b) else none
  | .str a, .str b => some (a == b)
  | _, _ => none

def findA (k : AV) : List (AV × AV) → Option (Option AV)
  | [] => some none
  | e :: r =>
    match keyEq k e.1 with
    | some true => some (some e.2)
    | some false => findA k r
    | none => none

def updA (k v : AV) : List (AV × AV) → Option (List (AV × AV))
  | [] => some [(k, v)]
  | e :: r =>
    match keyEq k e.1 with
    | some true => some ((e.1, v) :: r)
    | some false => (updA k v r).map (e :: ·)
    | none => none

/-- How many entries stand ahead of a key's. -/
def posA (k : AV) : List (AV × AV) → Nat
  | [] => 0
  | e :: r => if keyEq k e.1 = some true then 0 else posA k r + 1

def maxInt (x y : AV) : Option AV :=
  match x, y with
  | .int k a, .int k' b => if k = k' then some (.int k (if b > a then b else a)) else none
  | _, _ => none

def minInt (x y : AV) : Option AV :=
  match x, y with
  | .int k a, .int k' b => if k = k' then some (.int k (if b < a then b else a)) else none
  | _, _ => none

/-- A key set to a value. -/
def updateA (h : AHeap) (j : Nat) (k v : AV) (es : List (AV × AV)) (bs : List Nat) (ck : Nat) : Option (AV × AHeap) :=
  match findA k es, updA k v es with
  | some (some _), some es' => some (undefA, h.put j (.map es' bs ck))
  | some none, some es' => some (undefA, h.put j (.map es' (bs ++ [ck]) (ck + 1)))
  | _, _ => none

def deleteA (h : AHeap) (j : Nat) (k : AV) (es : List (AV × AV)) (bs : List Nat) (ck : Nat) : Option (AV × AHeap) :=
  match findA k es with
  | some (some _) => some (.tuple [], h.put j (.map (es.eraseIdx (posA k es)) (bs.eraseIdx (posA k es)) ck))
  | some none => some (.tuple [], h.put j (.map es bs ck))
  | none => none

/-- An entry, there or new: what it holds, when it was born. -/
def entryA (h : AHeap) (j : Nat) (z k : AV) (es : List (AV × AV)) (bs : List Nat) (ck : Nat) : Option (AV × AHeap) :=
  match findA k es with
  | some (some v) => match bs[posA k es]? with
    | some b => some (.tuple [v, .int .i64 b], h.put j (.map es bs ck))
    | none => none
  | some none => some (.tuple [z, .int .i64 ck], h.put j (.map (es ++ [(k, z)]) (bs ++ [ck]) (ck + 1)))
  | none => none

/-- The entry that was born then, set to a value. -/
def storeA (h : AHeap) (j : Nat) (n : Int) (x : AV) (es : List (AV × AV)) (bs : List Nat) (ck : Nat) : Option (AV × AHeap) :=
  (bs.findIdx? fun b : Nat => (b : Int) == n).map fun i => (undefA, h.put j (.map (es.modify i fun e => (e.1, x)) bs ck))

def AV.isI64 : AV → Bool
  | .int .i64 _ => true
  | _ => false

/-- The rows of so many cells of which one cell is that number. -/
def hitsA (size col : Nat) (m : Int) : Nat → List AV → List AV
  | 0, _ => []
  | n + 1, cs => (if cs[col]? = some (.int .i64 m) then cs.take size else []) ++ hitsA size col m n (cs.drop size)

/-- A new slice of the rows of which one cell is that number: nil, if there is none. No code of the program's is taken as this operation: it is for functions that are shown by hand. -/
def filterA (h : AHeap) (size bytes col : Nat) (s x : AV) : Option (AV × AHeap) :=
  match s, x with
  | .nilslice, .int .i64 _ => some (.nilslice, h)
  | .slice i o n _, .int .i64 m => if n = 0 then some (.nilslice, h) else match h.objs[i]? with
    | some (.cells false cs _) =>
      if o + n * size ≤ cs.length ∧ n * bytes ≤ bigA ∧ n ≤ bigA ∧ ((cs.drop o).take (n * size)).all AV.isI64 = true then
        if hitsA size col m n ((cs.drop o).take (n * size)) = [] then some (.nilslice, h) else
          some (.slice h.objs.length 0 ((hitsA size col m n ((cs.drop o).take (n * size))).length / size) (.loose h.caps.length 0),
            ⟨h.objs ++ [.cells false (hitsA size col m n ((cs.drop o).take (n * size))) (some (h.caps.length, size))], h.caps ++ [(hitsA size col m n ((cs.drop o).take (n * size))).length / size]⟩)
      else none
    | _ => none
  | _, _ => none

/-- An operation that calls nothing: its value, the heap behind it. -/
def evOp (o : AOp) (fr : AFrame) (h : AHeap) : Option (AV × AHeap) :=
  match o with
  | .mv x => some (fr.eval x, h)
  | .pick c a b => match fr.eval c with | .bool t => some (if t then fr.eval a else fr.eval b, h) | _ => none
  | .alloc z => some (.ptr h.objs.length 0, h.push (.cells false z none))
  | .box x => some (.ptr h.objs.length 0, h.push (.cells false (fr.eval x).cells none))
  | .build z ps => (fillA fr z ps).map fun cs => (.agg cs, h)
  | .buildSlice z len ps => (fillA fr z ps).map fun cs => (.slice h.objs.length 0 len (.exact len), h.push (.cells false cs none))
  | .litSlice z ps => (fillA fr z ps).map fun cs => (.lit cs, h)
  | .zeroSlice => if 0 < h.objs.length then some (.slice 0 0 0 (.exact 0), h) else none
  | .load1 a => match fr.eval a with | .ptr i o => (h.cell i o).map fun v => (v, h) | _ => none
  | .loadN n a => match fr.eval a with | .ptr i o => (h.cellsAt i o n).map fun cs => (.agg cs, h) | _ => none
  | .store n a x => match fr.eval a with
    | .ptr i o => if (fr.eval x).cells.length = n then (h.write i o (fr.eval x).cells).map fun h' => (undefA, h') else none
    | _ => none
  | .nilCheck x => match fr.eval x with | .ptr i o => some (.ptr i o, h) | .func f a b => some (.func f a b, h) | _ => none
  | .bin op x y => (binV op (fr.eval x) (fr.eval y)).map fun v => (v, h)
  | .cmpNil neg k x y => match (fr.eval x).isNil k, (fr.eval y).isNil k with
    | some a, some true => some (.bool (if neg then !a else a), h)
    | some true, some b => some (.bool (if neg then !b else b), h)
    | _, _ => none
  | .eqBool neg x y => match fr.eval x, fr.eval y with | .bool a, .bool b => some (.bool (if neg then !(a == b) else a == b), h) | _, _ => none
  | .eqStruct neg offs x y => match fr.eval x, fr.eval y with
    | .agg xs, .agg ys => (eqAt xs ys offs).map fun b => (.bool (if neg then !b else b), h)
    | _, _ => none
  | .un op x => (unV op (fr.eval x)).map fun v => (v, h)
  | .toInt k x => match fr.eval x with | .int _ n => some (.int k (k.wrap n), h) | _ => none
  | .mkfunc f a b => some (.func f (a.map fr.eval) (b.map fr.eval), h)
  | .mkmap => some (.map h.objs.length, h.push (.map [] [] 0))
  | .mkslice size bytes z l c => match fr.eval l, fr.eval c with
    | .int _ n, .int _ m => if 0 ≤ n ∧ n = m ∧ n * bytes ≤ bigA ∧ n ≤ bigA ∧ z.length = size then some (.slice h.objs.length 0 n.toNat (.exact n.toNat), h.push (.cells false (rep n.toNat z) none)) else none
    | _, _ => none
  | .slc size arr x lo hi mx => (slcV h size arr (fr.eval x) (lo.map fr.eval) (hi.map fr.eval) (mx.map fr.eval)).map fun v => (v, h)
  | .fieldAddr off x => match fr.eval x with | .ptr i o => some (.ptr i (o + off), h) | _ => none
  | .field1 off x => match fr.eval x with | .agg cs => (cs[off]?).map fun v => (v, h) | _ => none
  | .fieldN off n x => match fr.eval x with | .agg cs => if off + n ≤ cs.length then some (.agg ((cs.drop off).take n), h) else none | _ => none
  | .idxAddr size arr x i => (idxAddrV size arr (fr.eval x) (fr.eval i)).map fun v => (v, h)
  | .idx1 len x i => match fr.eval x, fr.eval i with | .agg cs, .int _ j => if 0 ≤ j ∧ j < len then (cs[j.toNat]?).map fun v => (v, h) else none | _, _ => none
  | .extract k x => match fr.eval x with | .tuple vs => (vs[k]?).map fun v => (v, h) | _ => none
  | .lenS x => match (fr.eval x).lenA with | some n => some (.int .i64 (n : Nat), h) | none => none
  | .lenStr x => match fr.eval x with | .str s => some (.int .i64 s.size, h) | _ => none
  | .lenC n => some (.int .i64 n, h)
  | .lenM x => match fr.eval x with
    | .nilmap => some (.int .i64 0, h)
    | .map i => match h.objs[i]? with | some (.map es _ _) => some (.int .i64 es.length, h) | _ => none
    | _ => none
  | .append size bytes _ s x => appendV h size bytes (fr.eval s) (fr.eval x)
  | .copy size d s => copyV h size (fr.eval d) (fr.eval s)
  | .clearS size z x => clearV h size z (fr.eval x)
  | .max2 x y => (maxInt (fr.eval x) (fr.eval y)).map fun v => (v, h)
  | .max3 x y z => ((maxInt (fr.eval x) (fr.eval y)).bind (maxInt · (fr.eval z))).map fun v => (v, h)
  | .min2 x y => (minInt (fr.eval x) (fr.eval y)).map fun v => (v, h)
  | .min3 x y z => ((minInt (fr.eval x) (fr.eval y)).bind (minInt · (fr.eval z))).map fun v => (v, h)
  | .lookup z ok x i => match fr.eval i with
    | .int kj kn => match fr.eval x with
      | .nilmap => some (if ok then .tuple [z, .bool false] else z, h)
      | .map j => match h.objs[j]? with
        | some (.map es _ _) => match findA (.int kj kn) es with
          | some (some v) => some (if ok then .tuple [v, .bool true] else v, h)
          | some none => some (if ok then .tuple [z, .bool false] else z, h)
          | none => none
        | _ => none
      | _ => none
    | _ => none
  | .mapUpdate m k x => match fr.eval k with
    | .int kj kn => match fr.eval m with
      | .map j => match h.objs[j]? with
        | some (.map es bs ck) => updateA h j (.int kj kn) (fr.eval x) es bs ck
        | _ => none
      | _ => none
    | _ => none
  | .delete m k => match fr.eval k with
    | .int kj kn => match fr.eval m with
      | .map j => match h.objs[j]? with
        | some (.map es bs ck) => deleteA h j (.int kj kn) es bs ck
        | _ => none
      | _ => none
    | _ => none
  | .mapEntry z m k => match fr.eval k with
    | .int kj kn => match fr.eval m with
      | .map j => match h.objs[j]? with
        | some (.map es bs ck) => entryA h j z (.int kj kn) es bs ck
        | _ => none
      | _ => none
    | _ => none
  | .entryStore m s x => match fr.eval s with
    | .int _ n => match fr.eval m with
      | .map j => match h.objs[j]? with
        | some (.map es bs ck) => storeA h j n (fr.eval x) es bs ck
        | _ => none
      | _ => none
    | _ => none
  | .filterRows size bytes col s x => filterA h size bytes col (fr.eval s) (fr.eval x)
  | .call .. | .callv .. => none

/-- An operation with its place and its guard (the slot that is looked at, what it must hold). -/
structure AOper where
  dst : Option Nat
  op : AOp
  guard : Option (Nat × Bool)
  deriving Inhabited

abbrev ACall := Nat → List AV → AHeap → Option (AV × AHeap)

/-- Any operation. -/
def evAny (call : ACall) (o : AOp) (fr : AFrame) (h : AHeap) : Option (AV × AHeap) :=
  match o with
  | .call f args => call f (args.map fr.eval) h
  | .callv x args => match fr.eval x with
    | .func f first cap => call f (first ++ args.map fr.eval ++ cap) h
    | _ => none
  | o => evOp o fr h

def wantedA (g : Option (Nat × Bool)) (fr : AFrame) : Bool :=
  match g with
  | none => true
  | some (s, want) => match fr[s]? with | some (.bool b) => b == want | _ => false

def evOper (call : ACall) (o : AOper) (fr : AFrame) (h : AHeap) : Option (AFrame × AHeap) :=
  match wantedA o.guard fr with
  | true => match evAny call o.op fr h with
    | some (v, h') => some (fr.putD o.dst v, h')
    | none => none
  | false => some (fr.putD o.dst undefA, h)

def evOps (call : ACall) : List AOper → AFrame → AHeap → Option (AFrame × AHeap)
  | [], fr, h => some (fr, h)
  | o :: r, fr, h => match evOper call o fr h with
    | some (fr', h') => evOps call r fr' h'
    | none => none

inductive AExit where
  | normal
  | exit (id : Nat)
  | ret
  deriving DecidableEq, Inhabited

/-- How an operation of a region whose order is drawn is met: it writes (or calls); it reads, from so many writes on, up to so many; it does neither. -/
inductive Stance where
  | loud
  | reads (lo hi : Nat)
  | still
  deriving DecidableEq, Inhabited

/-- In the heap behind each write from lo to hi the operation has the value that it had. -/
def stable (snaps : List AHeap) (o : AOper) (fr : AFrame) (v : AV) (lo hi : Nat) : Bool :=
  ((snaps.drop lo).take (hi + 1 - lo)).all fun h => match evOp o.op fr h with | some (u, _) => decide (u = v) | none => false

/-- Behind a region in the text's order: was every reading steady? fs: the frames ahead of each operation. -/
def steady (final : AFrame) (snaps : List AHeap) : List (AOper × Stance) → List (AFrame × AV) → Bool
  | [], [] => true
  | (o, st) :: r, (fr, v) :: q =>
    (match st with
     | .reads lo hi => !(wantedA o.guard fr) || stable snaps o fr v lo hi
     | _ => true) && steady final snaps r q
  | _, _ => false

/-- A region whose order is drawn, in the text's order: the frame, the heap, the heaps behind each write (the first one ahead of all), and what each operation met. -/
def evDraw (call : ACall) : List (AOper × Stance) → AFrame → AHeap → List AHeap → List (AFrame × AV) → Option (AFrame × AHeap × List AHeap × List (AFrame × AV))
  | [], fr, h, sn, ms => some (fr, h, sn.reverse, ms.reverse)
  | (o, st) :: r, fr, h, sn, ms =>
    match wantedA o.guard fr with
    | true => match (match st with | .loud => evAny call o.op fr h | _ => evOp o.op fr h) with
      | some (v, h') => match st with
        | .loud => evDraw call r (fr.putD o.dst v) h' (h' :: sn) ((fr, v) :: ms)
        | _ => evDraw call r (fr.putD o.dst v) h sn ((fr, v) :: ms)
      | none => none
    | false => match st with
      | .loud => evDraw call r (fr.putD o.dst undefA) h (h :: sn) ((fr, undefA) :: ms)
      | _ => evDraw call r (fr.putD o.dst undefA) h sn ((fr, undefA) :: ms)

inductive ACode where
  | skip
  | region (ops : List AOper)
  | draw (ops : List (AOper × Stance))
  | seq (a b : ACode)
  | cond (c : AOpd) (a b : ACode)
  | block (id : Nat) (a : ACode)
  | loop (a : ACode)
  | exit (id : Nat)
  | ret
  deriving Inhabited

abbrev AOut := Option (AExit × AFrame × AHeap)

def iter (step : AFrame → AHeap → AOut) : Nat → AFrame → AHeap → AOut
  | 0, _, _ => none
  | n + 1, fr, h => match step fr h with
    | some (.normal, fr', h') => iter step n fr' h'
    | r => r

/-- So many rounds, at most. -/
def rounds : Nat := 1099511627776

def evCode (call : ACall) : ACode → AFrame → AHeap → AOut
  | .skip, fr, h => some (.normal, fr, h)
  | .region ops, fr, h => match evOps call ops fr h with
    | some (fr', h') => some (.normal, fr', h')
    | none => none
  | .draw ops, fr, h => match evDraw call ops fr h [h] [] with
    | some (fr', h', sn, ms) => if steady fr' sn ops ms then some (.normal, fr', h') else none
    | none => none
  | .seq a b, fr, h => match evCode call a fr h with
    | some (.normal, fr', h') => evCode call b fr' h'
    | r => r
  | .cond c a b, fr, h => match fr.eval c with
    | .bool true => evCode call a fr h
    | .bool false => evCode call b fr h
    | _ => none
  | .block id a, fr, h => match evCode call a fr h with
    | some (.exit j, fr', h') => if j = id then some (.normal, fr', h') else some (.exit j, fr', h')
    | r => r
  | .loop a, fr, h => iter (evCode call a) rounds fr h
  | .exit id, fr, h => some (.exit id, fr, h)
  | .ret, fr, h => some (.ret, fr, h)

inductive ARes where
  | tmp (t : Nat)
  | cell1 (t : Nat)
  | cellN (t n : Nat)
  deriving Inhabited

def resV (fr : AFrame) (h : AHeap) : ARes → Option AV
  | .tmp t => some (fr.getD t undefA)
  | .cell1 t => match fr.getD t undefA with | .ptr i o => h.cell i o | _ => none
  | .cellN t n => match fr.getD t undefA with | .ptr i o => (h.cellsAt i o n).map .agg | _ => none

def resVs (fr : AFrame) (h : AHeap) : List ARes → Option (List AV)
  | [] => some []
  | r :: rs => match resV fr h r, resVs fr h rs with
    | some v, some vs => some (v :: vs)
    | _, _ => none

def resOf (fr : AFrame) (h : AHeap) (rs : List ARes) : Option AV :=
  match resVs fr h rs with
  | some [v] => some v
  | some vs => some (.tuple vs)
  | none => none

structure AFunc where
  ntmps : Nat
  results : List ARes
  body : ACode
  arity : Option Nat := none
  deriving Inhabited

/-- A function that is shown by hand is called with so many arguments. -/
def AFunc.fits (f : AFunc) (args : List AV) : Bool :=
  match f.arity with
  | none => true
  | some n => args.length == n

/-- A table of functions: by the numbers of the program. -/
abbrev ATable := Nat → Option AFunc

def enterA (f : AFunc) (args : List AV) : AFrame := args ++ List.replicate (f.ntmps - args.length) undefA

def evBody (call : ACall) (f : AFunc) (args : List AV) (h : AHeap) : Option (AV × AHeap) :=
  match evCode call f.body (enterA f args) h with
  | some (.normal, fr, h') => (resOf fr h' f.results).map fun v => (v, h')
  | some (.ret, fr, h') => (resOf fr h' f.results).map fun v => (v, h')
  | _ => none

/-- A call, by so many calls one in another at most. -/
def evCall (T : ATable) : Nat → ACall
  | 0, _, _, _ => none
  | n + 1, f, args, h => match T f with
    | some F => if F.fits args = true then evBody (evCall T n) F args h else none
    | none => none

end Go.Proofs.YtmcnmcpbdmjbfaaDoor.Ev
