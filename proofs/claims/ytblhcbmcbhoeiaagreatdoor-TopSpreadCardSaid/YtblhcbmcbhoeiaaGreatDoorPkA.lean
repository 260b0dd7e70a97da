/- Texts of the proof of one statement, part 1: each as it stood by itself. -/
import Derived.Calls
import Derived.LoopN
import Derived.Orders
import Derived.Laws.Sem
import Derived.Laws.World
import Derived.Laws.Cells
import Derived.Laws.NewBlocks
import Derived.Laws.Rows
import Derived.Laws.Append
import Derived.Laws.Slices
import Derived.Laws.AppendOwn
import Derived.Laws.CopyRow
import Derived.Laws.MakeOwn
import Derived.Laws.StructEq
import Derived.Laws.Small
import Derived.Laws.Cover1
import Derived.Conc.MuLone

section
/- A small deterministic evaluator for the part of the translated language that this program uses: values whose pointers are numbers of objects of a heap of its own, operations, code, calls. What it says of the model is proved in the texts behind it. -/
namespace Go.Proofs.YtblhcbmcbhoeiaaGreatDoor.Ev
set_option linter.unusedSimpArgs false
set_option linter.unusedVariables false
set_option linter.unusedSectionVars false
set_option linter.unnecessarySimpa false
open Go

/-- A capacity: known, or what an append's draw left, less so many. -/
inductive Cap where
  | exact (c : Nat)
  | loose (k d : Nat)
  deriving DecidableEq, Inhabited

/-- A value. A pointer names an object and a place in it. -/
inductive AV where
  | bool (b : Bool)
  | int (k : IntKind) (n : Int)
  | str (s : ByteArray)
  | nilptr
  | ptr (i o : Nat)
  | nilslice
  | slice (i o n : Nat) (c : Cap)
  | lit (cs : List AV)
  | nilmap
  | map (i : Nat)
  | func (f : Nat) (first cap : List AV)
  | nilfunc
  | niliface
  | agg (cs : List AV)
  | tuple (vs : List AV)
  deriving Inhabited

mutual
def AV.beq : AV → AV → Bool
  | .bool a, .bool b => a == b
  | .int j a, .int k b => decide (j = k) && decide (a = b)
  | .str a, .str b => decide (a = b)
  | .nilptr, .nilptr => true
  | .ptr i o, .ptr j p => decide (i = j) && decide (o = p)
  | .nilslice, .nilslice => true
  | .slice i o n c, .slice j p m d => decide (i = j) && decide (o = p) && decide (n = m) && decide (c = d)
  | .nilmap, .nilmap => true
  | .map i, .map j => decide (i = j)
  | .func f a b, .func g c d => decide (f = g) && AV.beqs a c && AV.beqs b d
  | .nilfunc, .nilfunc => true
  | .niliface, .niliface => true
  | .lit a, .lit b => AV.beqs a b
  | .agg a, .agg b => AV.beqs a b
  | .tuple a, .tuple b => AV.beqs a b
  | _, _ => false
def AV.beqs : List AV → List AV → Bool
  | [], [] => true
  | a :: as, b :: bs => AV.beq a b && AV.beqs as bs
  | _, _ => false
end

mutual
theorem AV.beq_iff : ∀ a b : AV, AV.beq a b = true ↔ a = b
  | a, b => by
    cases a <;> cases b <;> simp [AV.beq, AV.beqs_iff, and_assoc]
theorem AV.beqs_iff : ∀ a b : List AV, AV.beqs a b = true ↔ a = b
  | [], b => by cases b <;> simp [AV.beqs]
  | x :: xs, b => by
    cases b with
    | nil => simp [AV.beqs]
    | cons y ys => simp [AV.beqs, AV.beq_iff x y, AV.beqs_iff xs ys]
end

instance : DecidableEq AV := fun a b => decidable_of_iff _ (AV.beq_iff a b)

def AV.cells : AV → List AV
  | .agg cs => cs
  | v => [v]

def undefA : AV := .tuple []

/-- One cell's value: no aggregate, no tuple. -/
def AV.one : AV → Bool
  | .agg _ | .tuple _ => false
  | _ => true

/-- An object: dead, a row of cells (ro: it is never written; room: the capacity drawn for it, and an element's size), a map (its entries, when each was born, the clock). -/
inductive AObj where
  | dead
  | cells (ro : Bool) (cs : List AV) (room : Option (Nat × Nat))
  | map (es : List (AV × AV)) (bs : List Nat) (ck : Nat)
  deriving Inhabited

/-- The heap: objects by number; for each capacity that was drawn, what it is at least. -/
structure AHeap where
  objs : List AObj
  caps : List Nat
  deriving Inhabited

def AHeap.push (h : AHeap) (o : AObj) : AHeap := ⟨h.objs ++ [o], h.caps⟩
def AHeap.put (h : AHeap) (i : Nat) (o : AObj) : AHeap := ⟨h.objs.set i o, h.caps⟩

/-- The cells of an object. -/
def AHeap.row (h : AHeap) (i : Nat) : Option (List AV) :=
  match h.objs[i]? with
  | some (.cells _ cs _) => some cs
  | _ => none

def AHeap.cell (h : AHeap) (i o : Nat) : Option AV := (h.row i).bind fun cs => cs[o]?

/-- So many cells from a place on. -/
def AHeap.cellsAt (h : AHeap) (i o n : Nat) : Option (List AV) :=
  (h.row i).bind fun cs => if o + n ≤ cs.length then some ((cs.drop o).take n) else none

/-- A list with others in it from a place on. -/
def splice (cs : List AV) (o : Nat) (vs : List AV) : List AV := cs.take o ++ (vs ++ cs.drop (o + vs.length))

def AHeap.write (h : AHeap) (i o : Nat) (vs : List AV) : Option AHeap :=
  match h.objs[i]? with
  | some (.cells false cs room) => if o + vs.length ≤ cs.length ∧ vs.all AV.one then some (h.put i (.cells false (splice cs o vs) room)) else none
  | _ => none

inductive AOpd where
  | tmp (t : Nat)
  | const (v : AV)
  | glob (g : Nat)
  | func (f : Nat)
  deriving Inhabited

abbrev AFrame := List AV

def AFrame.eval (fr : AFrame) : AOpd → AV
  | .tmp t => fr.getD t undefA
  | .const v => v
  | .glob g => .ptr g 0
  | .func f => .func f [] []

def AFrame.putD (fr : AFrame) : Option Nat → AV → AFrame
  | some d, v => fr.set d v
  | none, _ => fr

inductive AOp where
  | mv (x : AOpd)
  | pick (c a b : AOpd)
  | alloc (z : List AV)
  | box (x : AOpd)
  | build (z : List AV) (ps : List ((Nat × Nat) × AOpd))
  | buildSlice (z : List AV) (len : Nat) (ps : List ((Nat × Nat) × AOpd))
  | litSlice (z : List AV) (ps : List ((Nat × Nat) × AOpd))
  | zeroSlice
  | load1 (a : AOpd)
  | loadN (n : Nat) (a : AOpd)
  | store (n : Nat) (a x : AOpd)
  | nilCheck (x : AOpd)
  | bin (op : BinOp) (x y : AOpd)
  | cmpNil (neg : Bool) (k : Nat) (x y : AOpd)
  | eqBool (neg : Bool) (x y : AOpd)
  | eqStruct (neg : Bool) (offs : List (Nat × Nat)) (x y : AOpd)
  | un (op : UnOp) (x : AOpd)
  | toInt (k : IntKind) (x : AOpd)
  | mkfunc (f : Nat) (first cap : List AOpd)
  | mkmap
  | mkslice (size bytes : Nat) (z : List AV) (l c : AOpd)
  | slc (size : Nat) (arr : Option Nat) (x : AOpd) (lo hi mx : Option AOpd)
  | fieldAddr (off : Nat) (x : AOpd)
  | field1 (off : Nat) (x : AOpd)
  | fieldN (off n : Nat) (x : AOpd)
  | idxAddr (size : Nat) (arr : Option Nat) (x i : AOpd)
  | idx1 (len : Nat) (x i : AOpd)
  | extract (k : Nat) (x : AOpd)
  | lenS (x : AOpd)
  | lenStr (x : AOpd)
  | lenC (n : Nat)
  | lenM (x : AOpd)
  | append (size bytes : Nat) (z : List AV) (s x : AOpd)
  | copy (size : Nat) (d s : AOpd)
  | clearS (size : Nat) (z : List AV) (x : AOpd)
  | max2 (x y : AOpd) | max3 (x y z : AOpd)
  | min2 (x y : AOpd) | min3 (x y z : AOpd)
  | lookup (z : AV) (ok : Bool) (x i : AOpd)
  | mapUpdate (m k x : AOpd)
  | delete (m k : AOpd)
  | mapEntry (z : AV) (m k : AOpd)
  | entryStore (m s x : AOpd)
  | filterRows (size bytes col : Nat) (s x : AOpd)
  | call (f : Nat) (args : List AOpd)
  | callv (x : AOpd) (args : List AOpd)
  deriving Inhabited

/-- What a binary operation of two integers, two strings comes to. -/
def binV (op : BinOp) (x y : AV) : Option AV :=
  match op, x, y with
  | .shl, .int k a, .int _ b => if 0 ≤ b then some (.int k (k.wrap (a * 2 ^ (min b.toNat k.bits)))) else none
  | .shr, .int k a, .int _ b => if 0 ≤ b then some (.int k (a.fdiv (2 ^ (min b.toNat k.bits)))) else none
  | .add, .int k a, .int k' b => if k = k' then some (.int k (k.wrap (a + b))) else none
  | .sub, .int k a, .int k' b => if k = k' then some (.int k (k.wrap (a - b))) else none
  | .mul, .int k a, .int k' b => if k = k' then some (.int k (k.wrap (a * b))) else none
  | .quo, .int k a, .int k' b => if k = k' ∧ b ≠ 0 then some (.int k (k.wrap (a.tdiv b))) else none
  | .rem, .int k a, .int k' b => if k = k' ∧ b ≠ 0 then some (.int k (a.tmod b)) else none
  | .and, .int k a, .int k' b => if k = k' then some (.int k (k.wrap ((BitVec.ofInt k.bits a &&& BitVec.ofInt k.bits b).toNat))) else none
  | .or, .int k a, .int k' b => if k = k' then some (.int k (k.wrap ((BitVec.ofInt k.bits a ||| BitVec.ofInt k.bits b).toNat))) else none
  | .xor, .int k a, .int k' b => if k = k' then some (.int k (k.wrap ((BitVec.ofInt k.bits a ^^^ BitVec.ofInt k.bits b).toNat))) else none
  | .andNot, .int k a, .int k' b => if k = k' then some (.int k (k.wrap ((BitVec.ofInt k.bits a &&& ~~~ BitVec.ofInt k.bits b).toNat))) else none
  | .eql, .int k a, .int k' b => if k = k' then some (.bool (a == b)) else none
  | .neq, .int k a, .int k' b => if k = k' then some (.bool (a != b)) else none
  | .lss, .int k a, .int k' b => if k = k' then some (.bool (decide (a < b))) else none
  | .leq, .int k a, .int k' b => if k = k' then some (.bool (decide (a ≤ b))) else none
  | .gtr, .int k a, .int k' b => if k = k' then some (.bool (decide (a > b))) else none
  | .geq, .int k a, .int k' b => if k = k' then some (.bool (decide (a ≥ b))) else none
  | .eql, .str a, .str b => some (.bool (a.toList == b.toList))
  | .neq, .str a, .str b => some (.bool (!(a.toList == b.toList)))
  | _, _, _ => none

/-- Is it nil? Pointers (0), slices (1), maps (2), functions (3). -/
def AV.isNil : Nat → AV → Option Bool
  | 0, .nilptr | 1, .nilslice | 2, .nilmap | 3, .nilfunc => some true
  | 0, .ptr .. | 1, .slice .. | 2, .map .. | 3, .func .. => some false
  | _, _ => none

/-- Two single cells of a struct that is compared: integers (0), bools (1), strings (2). -/
def eqCell : Nat → AV → AV → Option Bool
  | 0, .int j a, .int k b => if j = k then some (a == b) else none
  | 1, .bool a, .bool b => some (a == b)
  | 2, .str a, .str b => some (a.toList == b.toList)
  | _, _, _ => none

def eqAt (xs ys : List AV) : List (Nat × Nat) → Option Bool
  | [] => some true
  | (o, k) :: r =>
    match xs[o]?, ys[o]? with
    | some x, some y =>
      match eqCell k x y with
      | some true => eqAt xs ys r
      | some false => some false
      | none => none
    | _, _ => none

def unV (op : UnOp) (x : AV) : Option AV :=
  match op, x with
  | .neg, .int k n => some (.int k (k.wrap (0 - n)))
  | .not, .bool b => some (.bool !b)
  | .xor, .int k n => some (.int k (k.wrap ((BitVec.ofInt k.bits (if k.signed then -1 else k.max) ^^^ BitVec.ofInt k.bits n).toNat)))
  | _, _ => none

/-- Parts laid into cells. -/
def fillA (fr : AFrame) : List AV → List ((Nat × Nat) × AOpd) → Option (List AV)
  | cs, [] => some cs
  | cs, ((off, size), x) :: r =>
    let vs := (fr.eval x).cells
    if vs.length = size ∧ off + size ≤ cs.length then fillA fr (splice cs off vs) r else none

def AV.nat : AV → Option Nat
  | .int _ n => if 0 ≤ n then some n.toNat else none
  | _ => none

/-- Is so much surely within a capacity? -/
def AHeap.within (h : AHeap) (n : Nat) : Cap → Bool
  | .exact c => n ≤ c
  | .loose k d => match h.caps[k]? with | some lb => n + d ≤ lb | none => false

def Cap.less (l : Nat) : Cap → Cap
  | .exact c => .exact (c - l)
  | .loose k d => .loose k (d + l)

/-- An end that is given, or what stands for it. -/
def endV (d : Nat) : Option AV → Option Nat
  | some v => v.nat
  | none => some d

/-- A cut of a slice, or of an array behind a pointer. -/
def slcV (h : AHeap) (size : Nat) (arr : Option Nat) (x : AV) (lo hi mx : Option AV) : Option AV :=
  match endV 0 lo with
  | none => none
  | some l =>
    match arr, x with
    | none, .nilslice =>
      match endV 0 hi with
      | some hh => if l = 0 ∧ hh = 0 ∧ endV 0 mx = some 0 then some .nilslice else none
      | none => none
    | none, .slice i o n c =>
      match endV n hi with
      | none => none
      | some hh =>
        match mx with
        | none =>
          if l ≤ hh ∧ h.within hh c then
            (match c with
            | .exact m => some (.slice i (if m = l then o else o + l * size) (hh - l) (.exact (m - l)))
            | .loose .. => some (.slice i (o + l * size) (hh - l) (c.less l)))
          else none
        | some v =>
          match v.nat with
          | some m => if l ≤ hh ∧ hh ≤ m ∧ h.within m c then some (.slice i (if m = l then o else o + l * size) (hh - l) (.exact (m - l))) else none
          | none => none
    | some n, .ptr i o =>
      match endV n hi with
      | some hh => if l ≤ hh ∧ hh ≤ n ∧ mx.isNone then some (.slice i (if n = l then o else o + l * size) (hh - l) (.exact (n - l))) else none
      | none => none
    | _, _ => none

def idxAddrV (size : Nat) (arr : Option Nat) (x i : AV) : Option AV :=
  match arr, x, i with
  | none, .slice b o n _, .int _ j => if 0 ≤ j ∧ j < n then some (.ptr b (o + j.toNat * size)) else none
  | some n, .ptr b o, .int _ j => if 0 ≤ j ∧ j < n then some (.ptr b (o + j.toNat * size)) else none
  | _, _, _ => none

/-- The first cells of a slice. -/
def firstCellsA (h : AHeap) (size n : Nat) : AV → Option (List AV)
  | .nilslice => if n = 0 then some [] else none
  | .slice i o m _ => if n = 0 then some [] else if n ≤ m then h.cellsAt i o (n * size) else none
  | .lit cs => if size = 1 ∧ n = cs.length then some cs else none
  | _ => none

def AV.lenA : AV → Option Nat
  | .nilslice => some 0
  | .slice _ _ n _ => some n
  | .lit cs => some cs.length
  | _ => none

def bigA : Nat := 70368744177664

/-- append. Where it is open whether there is room, the elder object is dead behind it. -/
def appendV (h : AHeap) (size bytes : Nat) (s x : AV) : Option (AV × AHeap) :=
  match s.lenA, x.lenA with
  | some n, some m =>
    match firstCellsA h size m x with
    | none => none
    | some news =>
      if (n + m) * bytes ≤ bigA ∧ n + m ≤ bigA ∧ news.all AV.one then
        match s with
        | .nilslice => if m = 0 then some (.nilslice, h) else some (.slice h.objs.length 0 m (.loose h.caps.length 0), ⟨h.objs ++ [.cells false news (some (h.caps.length, size))], h.caps ++ [m]⟩)
        | .slice i o _ c =>
          if h.within (n + m) c then
            (if m = 0 then some (.slice i o n c, h) else (h.write i (o + n * size) news).map fun h' => (.slice i o (n + m) c, h'))
          else
            match c with
            | .exact c =>
              if c < n + m then (firstCellsA h size n s).map fun olds => (.slice h.objs.length 0 (n + m) (.loose h.caps.length 0), ⟨h.objs ++ [.cells false (olds ++ news) (some (h.caps.length, size))], h.caps ++ [n + m]⟩) else none
            | .loose k d =>
              match h.objs[i]? with
              | some (.cells false cs (some (k', s'))) =>
                if k' = k ∧ s' = size ∧ o = d * size ∧ o + n * size ≤ cs.length then
                  some (.slice h.objs.length 0 (n + m) (.loose h.caps.length 0), ⟨h.objs.set i .dead ++ [.cells false ((cs.drop o).take (n * size) ++ news) (some (h.caps.length, size))], h.caps ++ [n + m]⟩)
                else none
              | _ => none
        | _ => none
      else none
  | _, _ => none

def copyV (h : AHeap) (size : Nat) (d s : AV) : Option (AV × AHeap) :=
  match d.lenA, s.lenA with
  | some n, some m =>
    match firstCellsA h size (min m n) s with
    | none => none
    | some cells =>
      match d with
      | .nilslice => some (.int .i64 (min m n : Nat), h)
      | .slice i o _ _ => if cells = [] then some (.int .i64 (min m n : Nat), h) else (h.write i o cells).map fun h' => (.int .i64 (min m n : Nat), h')
      | _ => none
  | _, _ => none

def rep (n : Nat) (z : List AV) : List AV :=
  match n with
  | 0 => []
  | n + 1 => z ++ rep n z

def clearV (h : AHeap) (size : Nat) (z : List AV) : AV → Option (AV × AHeap)
  | .nilslice => some (.tuple [], h)
  | .slice i o n _ => if n = 0 then some (.tuple [], h) else if z.length = size then (h.write i o (rep n z)).map fun h' => (.tuple [], h') else none
  | _ => none

def keyEq : AV → AV → Option Bool
  | .int j a, .int k b => if j = k then some (a == b) else none
  | .str a, .str b => some (a == b)
  | _, _ => none

def findA (k : AV) : List (AV × AV) → Option (Option AV)
  | [] => some none
  | e :: r =>
    match keyEq k e.1 with
    | some true => some (some e.2)
    | some false => findA k r
    | none => none

def updA (k v : AV) : List (AV × AV) → Option (List (AV × AV))
  | [] => some [(k, v)]
  | e :: r =>
    match keyEq k e.1 with
    | some true => some ((e.1, v) :: r)
    | some false => (updA k v r).map (e :: ·)
    | none => none

/-- How many entries stand ahead of a key's. -/
def posA (k : AV) : List (AV × AV) → Nat
  | [] => 0
  | e :: r => if keyEq k e.1 = some true then 0 else posA k r + 1

def maxInt (x y : AV) : Option AV :=
  match x, y with
  | .int k a, .int k' b => if k = k' then some (.int k (if b > a then b else a)) else none
  | _, _ => none

def minInt (x y : AV) : Option AV :=
  match x, y with
  | .int k a, .int k' b => if k = k' then some (.int k (if b < a then b else a)) else none
  | _, _ => none

/-- A key set to a value. -/
def updateA (h : AHeap) (j : Nat) (k v : AV) (es : List (AV × AV)) (bs : List Nat) (ck : Nat) : Option (AV × AHeap) :=
  match findA k es, updA k v es with
  | some (some _), some es' => some (undefA, h.put j (.map es' bs ck))
  | some none, some es' => some (undefA, h.put j (.map es' (bs ++ [ck]) (ck + 1)))
  | _, _ => none

def deleteA (h : AHeap) (j : Nat) (k : AV) (es : List (AV × AV)) (bs : List Nat) (ck : Nat) : Option (AV × AHeap) :=
  match findA k es with
  | some (some _) => some (.tuple [], h.put j (.map (es.eraseIdx (posA k es)) (bs.eraseIdx (posA k es)) ck))
  | some none => some (.tuple [], h.put j (.map es bs ck))
  | none => none

/-- An entry, there or new: what it holds, when it was born. -/
def entryA (h : AHeap) (j : Nat) (z k : AV) (es : List (AV × AV)) (bs : List Nat) (ck : Nat) : Option (AV × AHeap) :=
  match findA k es with
  | some (some v) => match bs[posA k es]? with
    | some b => some (.tuple [v, .int .i64 b], h.put j (.map es bs ck))
    | none => none
  | some none => some (.tuple [z, .int .i64 ck], h.put j (.map (es ++ [(k, z)]) (bs ++ [ck]) (ck + 1)))
  | none => none

/-- The entry that was born then, set to a value. -/
def storeA (h : AHeap) (j : Nat) (n : Int) (x : AV) (es : List (AV × AV)) (bs : List Nat) (ck : Nat) : Option (AV × AHeap) :=
  (bs.findIdx? fun b : Nat => (b : Int) == n).map fun i => (undefA, h.put j (.map (es.modify i fun e => (e.1, x)) bs ck))

def AV.isI64 : AV → Bool
  | .int .i64 _ => true
  | _ => false

/-- The rows of so many cells of which one cell is that number. -/
def hitsA (size col : Nat) (m : Int) : Nat → List AV → List AV
  | 0, _ => []
  | n + 1, cs => (if cs[col]? = some (.int .i64 m) then cs.take size else []) ++ hitsA size col m n (cs.drop size)

/-- A new slice of the rows of which one cell is that number: nil, if there is none. No code of the program's is taken as this operation: it is for functions that are shown by hand. -/
def filterA (h : AHeap) (size bytes col : Nat) (s x : AV) : Option (AV × AHeap) :=
  match s, x with
  | .nilslice, .int .i64 _ => some (.nilslice, h)
  | .slice i o n _, .int .i64 m => if n = 0 then some (.nilslice, h) else match h.objs[i]? with
    | some (.cells false cs _) =>
      if o + n * size ≤ cs.length ∧ n * bytes ≤ bigA ∧ n ≤ bigA ∧ ((cs.drop o).take (n * size)).all AV.isI64 = true then
        if hitsA size col m n ((cs.drop o).take (n * size)) = [] then some (.nilslice, h) else
          some (.slice h.objs.length 0 ((hitsA size col m n ((cs.drop o).take (n * size))).length / size) (.loose h.caps.length 0),
            ⟨h.objs ++ [.cells false (hitsA size col m n ((cs.drop o).take (n * size))) (some (h.caps.length, size))], h.caps ++ [(hitsA size col m n ((cs.drop o).take (n * size))).length / size]⟩)
      else none
    | _ => none
  | _, _ => none

/-- An operation that calls nothing: its value, the heap behind it. -/
def evOp (o : AOp) (fr : AFrame) (h : AHeap) : Option (AV × AHeap) :=
  match o with
  | .mv x => some (fr.eval x, h)
  | .pick c a b => match fr.eval c with | .bool t => some (if t then fr.eval a else fr.eval b, h) | _ => none
  | .alloc z => some (.ptr h.objs.length 0, h.push (.cells false z none))
  | .box x => some (.ptr h.objs.length 0, h.push (.cells false (fr.eval x).cells none))
  | .build z ps => (fillA fr z ps).map fun cs => (.agg cs, h)
  | .buildSlice z len ps => (fillA fr z ps).map fun cs => (.slice h.objs.length 0 len (.exact len), h.push (.cells false cs none))
  | .litSlice z ps => (fillA fr z ps).map fun cs => (.lit cs, h)
  | .zeroSlice => if 0 < h.objs.length then some (.slice 0 0 0 (.exact 0), h) else none
  | .load1 a => match fr.eval a with | .ptr i o => (h.cell i o).map fun v => (v, h) | _ => none
  | .loadN n a => match fr.eval a with | .ptr i o => (h.cellsAt i o n).map fun cs => (.agg cs, h) | _ => none
  | .store n a x => match fr.eval a with
    | .ptr i o => if (fr.eval x).cells.length = n then (h.write i o (fr.eval x).cells).map fun h' => (undefA, h') else none
    | _ => none
  | .nilCheck x => match fr.eval x with | .ptr i o => some (.ptr i o, h) | .func f a b => some (.func f a b, h) | _ => none
  | .bin op x y => (binV op (fr.eval x) (fr.eval y)).map fun v => (v, h)
  | .cmpNil neg k x y => match (fr.eval x).isNil k, (fr.eval y).isNil k with
    | some a, some true => some (.bool (if neg then !a else a), h)
    | some true, some b => some (.bool (if neg then !b else b), h)
    | _, _ => none
  | .eqBool neg x y => match fr.eval x, fr.eval y with | .bool a, .bool b => some (.bool (if neg then !(a == b) else a == b), h) | _, _ => none
  | .eqStruct neg offs x y => match fr.eval x, fr.eval y with
    | .agg xs, .agg ys => (eqAt xs ys offs).map fun b => (.bool (if neg then !b else b), h)
    | _, _ => none
  | .un op x => (unV op (fr.eval x)).map fun v => (v, h)
  | .toInt k x => match fr.eval x with | .int _ n => some (.int k (k.wrap n), h) | _ => none
  | .mkfunc f a b => some (.func f (a.map fr.eval) (b.map fr.eval), h)
  | .mkmap => some (.map h.objs.length, h.push (.map [] [] 0))
  | .mkslice size bytes z l c => match fr.eval l, fr.eval c with
    | .int _ n, .int _ m => if 0 ≤ n ∧ n ≤ m ∧ m * bytes ≤ bigA ∧ m ≤ bigA ∧ z.length = size then some (.slice h.objs.length 0 n.toNat (.exact m.toNat), h.push (.cells false (rep m.toNat z) none)) else none
    | _, _ => none
  | .slc size arr x lo hi mx => (slcV h size arr (fr.eval x) (lo.map fr.eval) (hi.map fr.eval) (mx.map fr.eval)).map fun v => (v, h)
  | .fieldAddr off x => match fr.eval x with | .ptr i o => some (.ptr i (o + off), h) | _ => none
  | .field1 off x => match fr.eval x with | .agg cs => (cs[off]?).map fun v => (v, h) | _ => none
  | .fieldN off n x => match fr.eval x with | .agg cs => if off + n ≤ cs.length then some (.agg ((cs.drop off).take n), h) else none | _ => none
  | .idxAddr size arr x i => (idxAddrV size arr (fr.eval x) (fr.eval i)).map fun v => (v, h)
  | .idx1 len x i => match fr.eval x, fr.eval i with | .agg cs, .int _ j => if 0 ≤ j ∧ j < len then (cs[j.toNat]?).map fun v => (v, h) else none | _, _ => none
  | .extract k x => match fr.eval x with | .tuple vs => (vs[k]?).map fun v => (v, h) | _ => none
  | .lenS x => match (fr.eval x).lenA with | some n => some (.int .i64 (n : Nat), h) | none => none
  | .lenStr x => match fr.eval x with | .str s => some (.int .i64 s.size, h) | _ => none
  | .lenC n => some (.int .i64 n, h)
  | .lenM x => match fr.eval x with
    | .nilmap => some (.int .i64 0, h)
    | .map i => match h.objs[i]? with | some (.map es _ _) => some (.int .i64 es.length, h) | _ => none
    | _ => none
  | .append size bytes _ s x => appendV h size bytes (fr.eval s) (fr.eval x)
  | .copy size d s => copyV h size (fr.eval d) (fr.eval s)
  | .clearS size z x => clearV h size z (fr.eval x)
  | .max2 x y => (maxInt (fr.eval x) (fr.eval y)).map fun v => (v, h)
  | .max3 x y z => ((maxInt (fr.eval x) (fr.eval y)).bind (maxInt · (fr.eval z))).map fun v => (v, h)
  | .min2 x y => (minInt (fr.eval x) (fr.eval y)).map fun v => (v, h)
  | .min3 x y z => ((minInt (fr.eval x) (fr.eval y)).bind (minInt · (fr.eval z))).map fun v => (v, h)
  | .lookup z ok x i => match fr.eval i with
    | .int kj kn => match fr.eval x with
      | .nilmap => some (if ok then .tuple [z, .bool false] else z, h)
      | .map j => match h.objs[j]? with
        | some (.map es _ _) => match findA (.int kj kn) es with
          | some (some v) => some (if ok then .tuple [v, .bool true] else v, h)
          | some none => some (if ok then .tuple [z, .bool false] else z, h)
          | none => none
        | _ => none
      | _ => none
    | _ => none
  | .mapUpdate m k x => match fr.eval k with
    | .int kj kn => match fr.eval m with
      | .map j => match h.objs[j]? with
        | some (.map es bs ck) => updateA h j (.int kj kn) (fr.eval x) es bs ck
        | _ => none
      | _ => none
    | _ => none
  | .delete m k => match fr.eval k with
    | .int kj kn => match fr.eval m with
      | .map j => match h.objs[j]? with
        | some (.map es bs ck) => deleteA h j (.int kj kn) es bs ck
        | _ => none
      | _ => none
    | _ => none
  | .mapEntry z m k => match fr.eval k with
    | .int kj kn => match fr.eval m with
      | .map j => match h.objs[j]? with
        | some (.map es bs ck) => entryA h j z (.int kj kn) es bs ck
        | _ => none
      | _ => none
    | _ => none
  | .entryStore m s x => match fr.eval s with
    | .int _ n => match fr.eval m with
      | .map j => match h.objs[j]? with
        | some (.map es bs ck) => storeA h j n (fr.eval x) es bs ck
        | _ => none
      | _ => none
    | _ => none
  | .filterRows size bytes col s x => filterA h size bytes col (fr.eval s) (fr.eval x)
  | .call .. | .callv .. => none

/-- An operation with its place and its guard (the slot that is looked at, what it must hold). -/
structure AOper where
  dst : Option Nat
  op : AOp
  guard : Option (Nat × Bool)
  deriving Inhabited

abbrev ACall := Nat → List AV → AHeap → Option (AV × AHeap)

/-- Any operation. -/
def evAny (call : ACall) (o : AOp) (fr : AFrame) (h : AHeap) : Option (AV × AHeap) :=
  match o with
  | .call f args => call f (args.map fr.eval) h
  | .callv x args => match fr.eval x with
    | .func f first cap => call f (first ++ args.map fr.eval ++ cap) h
    | _ => none
  | o => evOp o fr h

def wantedA (g : Option (Nat × Bool)) (fr : AFrame) : Bool :=
  match g with
  | none => true
  | some (s, want) => match fr[s]? with | some (.bool b) => b == want | _ => false

def evOper (call : ACall) (o : AOper) (fr : AFrame) (h : AHeap) : Option (AFrame × AHeap) :=
  match wantedA o.guard fr with
  | true => match evAny call o.op fr h with
    | some (v, h') => some (fr.putD o.dst v, h')
    | none => none
  | false => some (fr.putD o.dst undefA, h)

def evOps (call : ACall) : List AOper → AFrame → AHeap → Option (AFrame × AHeap)
  | [], fr, h => some (fr, h)
  | o :: r, fr, h => match evOper call o fr h with
    | some (fr', h') => evOps call r fr' h'
    | none => none

inductive AExit where
  | normal
  | exit (id : Nat)
  | ret
  deriving DecidableEq, Inhabited

/-- How an operation of a region whose order is drawn is met: it writes (or calls); it reads, from so many writes on, up to so many; it does neither. -/
inductive Stance where
  | loud
  | reads (lo hi : Nat)
  | still
  deriving DecidableEq, Inhabited

/-- In the heap behind each write from lo to hi the operation has the value that it had. -/
def stable (snaps : List AHeap) (o : AOper) (fr : AFrame) (v : AV) (lo hi : Nat) : Bool :=
  ((snaps.drop lo).take (hi + 1 - lo)).all fun h => match evOp o.op fr h with | some (u, _) => decide (u = v) | none => false

/-- Behind a region in the text's order: was every reading steady? fs: the frames ahead of each operation. -/
def steady (final : AFrame) (snaps : List AHeap) : List (AOper × Stance) → List (AFrame × AV) → Bool
  | [], [] => true
  | (o, st) :: r, (fr, v) :: q =>
    (match st with
     | .reads lo hi => !(wantedA o.guard fr) || stable snaps o fr v lo hi
     | _ => true) && steady final snaps r q
  | _, _ => false

/-- A region whose order is drawn, in the text's order: the frame, the heap, the heaps behind each write (the first one ahead of all), and what each operation met. -/
def evDraw (call : ACall) : List (AOper × Stance) → AFrame → AHeap → List AHeap → List (AFrame × AV) → Option (AFrame × AHeap × List AHeap × List (AFrame × AV))
  | [], fr, h, sn, ms => some (fr, h, sn.reverse, ms.reverse)
  | (o, st) :: r, fr, h, sn, ms =>
    match wantedA o.guard fr with
    | true => match (match st with | .loud => evAny call o.op fr h | _ => evOp o.op fr h) with
      | some (v, h') => match st with
        | .loud => evDraw call r (fr.putD o.dst v) h' (h' :: sn) ((fr, v) :: ms)
        | _ => evDraw call r (fr.putD o.dst v) h sn ((fr, v) :: ms)
      | none => none
    | false => match st with
      | .loud => evDraw call r (fr.putD o.dst undefA) h (h :: sn) ((fr, undefA) :: ms)
      | _ => evDraw call r (fr.putD o.dst undefA) h sn ((fr, undefA) :: ms)

inductive ACode where
  | skip
  | region (ops : List AOper)
  | draw (ops : List (AOper × Stance))
  | seq (a b : ACode)
  | cond (c : AOpd) (a b : ACode)
  | block (id : Nat) (a : ACode)
  | loop (a : ACode)
  | exit (id : Nat)
  | ret
  deriving Inhabited

abbrev AOut := Option (AExit × AFrame × AHeap)

def iter (step : AFrame → AHeap → AOut) : Nat → AFrame → AHeap → AOut
  | 0, _, _ => none
  | n + 1, fr, h => match step fr h with
    | some (.normal, fr', h') => iter step n fr' h'
    | r => r

/-- So many rounds, at most. -/
def rounds : Nat := 1099511627776

def evCode (call : ACall) : ACode → AFrame → AHeap → AOut
  | .skip, fr, h => some (.normal, fr, h)
  | .region ops, fr, h => match evOps call ops fr h with
    | some (fr', h') => some (.normal, fr', h')
    | none => none
  | .draw ops, fr, h => match evDraw call ops fr h [h] [] with
    | some (fr', h', sn, ms) => if steady fr' sn ops ms then some (.normal, fr', h') else none
    | none => none
  | .seq a b, fr, h => match evCode call a fr h with
    | some (.normal, fr', h') => evCode call b fr' h'
    | r => r
  | .cond c a b, fr, h => match fr.eval c with
    | .bool true => evCode call a fr h
    | .bool false => evCode call b fr h
    | _ => none
  | .block id a, fr, h => match evCode call a fr h with
    | some (.exit j, fr', h') => if j = id then some (.normal, fr', h') else some (.exit j, fr', h')
    | r => r
  | .loop a, fr, h => iter (evCode call a) rounds fr h
  | .exit id, fr, h => some (.exit id, fr, h)
  | .ret, fr, h => some (.ret, fr, h)

inductive ARes where
  | tmp (t : Nat)
  | cell1 (t : Nat)
  | cellN (t n : Nat)
  deriving Inhabited

def resV (fr : AFrame) (h : AHeap) : ARes → Option AV
  | .tmp t => some (fr.getD t undefA)
  | .cell1 t => match fr.getD t undefA with | .ptr i o => h.cell i o | _ => none
  | .cellN t n => match fr.getD t undefA with | .ptr i o => (h.cellsAt i o n).map .agg | _ => none

def resVs (fr : AFrame) (h : AHeap) : List ARes → Option (List AV)
  | [] => some []
  | r :: rs => match resV fr h r, resVs fr h rs with
    | some v, some vs => some (v :: vs)
    | _, _ => none

def resOf (fr : AFrame) (h : AHeap) (rs : List ARes) : Option AV :=
  match resVs fr h rs with
  | some [v] => some v
  | some vs => some (.tuple vs)
  | none => none

structure AFunc where
  ntmps : Nat
  results : List ARes
  body : ACode
  arity : Option Nat := none
  deriving Inhabited

/-- A function that is shown by hand is called with so many arguments. -/
def AFunc.fits (f : AFunc) (args : List AV) : Bool :=
  match f.arity with
  | none => true
  | some n => args.length == n

/-- A table of functions: by the numbers of the program. -/
abbrev ATable := Nat → Option AFunc

def enterA (f : AFunc) (args : List AV) : AFrame := args ++ List.replicate (f.ntmps - args.length) undefA

def evBody (call : ACall) (f : AFunc) (args : List AV) (h : AHeap) : Option (AV × AHeap) :=
  match evCode call f.body (enterA f args) h with
  | some (.normal, fr, h') => (resOf fr h' f.results).map fun v => (v, h')
  | some (.ret, fr, h') => (resOf fr h' f.results).map fun v => (v, h')
  | _ => none

/-- A call, by so many calls one in another at most. -/
def evCall (T : ATable) : Nat → ACall
  | 0, _, _, _ => none
  | n + 1, f, args, h => match T f with
    | some F => if F.fits args = true then evBody (evCall T n) F args h else none
    | none => none

end Go.Proofs.YtblhcbmcbhoeiaaGreatDoor.Ev
end

section
/- How the evaluator's heap stands to the model's: an address for each object, a number for each drawn capacity; what a step may change. -/
namespace Go.Proofs.YtblhcbmcbhoeiaaGreatDoor.Ev
set_option linter.unusedSimpArgs false
set_option linter.unusedVariables false
set_option linter.unusedSectionVars false
set_option linter.unnecessarySimpa false
open Go

structure Env where
  addr : List Addr
  cap : List Nat
  lit : List (Nat × List Value)

def Env.nil : Env := ⟨[], [], []⟩

structure Env.le (ρ ρ' : Env) : Prop where
  a : ∃ s, ρ'.addr = ρ.addr ++ s
  c : ∃ s, ρ'.cap = ρ.cap ++ s
  l : ∃ s, ρ'.lit = ρ.lit ++ s

theorem Env.le_refl (ρ : Env) : ρ.le ρ := ⟨⟨[], by simp⟩, ⟨[], by simp⟩, ⟨[], by simp⟩⟩
theorem Env.le.le_trans {a b c : Env} (h : a.le b) (k : b.le c) : a.le c := by
  obtain ⟨⟨s, hs⟩, ⟨t, ht⟩, ⟨u, hu⟩⟩ := h
  obtain ⟨⟨s', hs'⟩, ⟨t', ht'⟩, ⟨u', hu'⟩⟩ := k
  exact ⟨⟨s ++ s', by rw [hs', hs, List.append_assoc]⟩, ⟨t ++ t', by rw [ht', ht, List.append_assoc]⟩, ⟨u ++ u', by rw [hu', hu, List.append_assoc]⟩⟩
theorem Env.le.le_addr {ρ ρ' : Env} (h : ρ.le ρ') {i : Nat} {a : Addr} (ha : ρ.addr[i]? = some a) : ρ'.addr[i]? = some a := by
  obtain ⟨⟨s, hs⟩, _⟩ := h
  rw [hs, List.getElem?_append_left (List.getElem?_eq_some_iff.1 ha).1]; exact ha
theorem Env.le.le_cap {ρ ρ' : Env} (h : ρ.le ρ') {i : Nat} {a : Nat} (ha : ρ.cap[i]? = some a) : ρ'.cap[i]? = some a := by
  obtain ⟨_, ⟨s, hs⟩, _⟩ := h
  rw [hs, List.getElem?_append_left (List.getElem?_eq_some_iff.1 ha).1]; exact ha

theorem Env.le.le_lit {ρ ρ' : Env} (h : ρ.le ρ') {x : Nat × List Value} (hx : x ∈ ρ.lit) : x ∈ ρ'.lit := by
  obtain ⟨_, _, ⟨s, hs⟩⟩ := h
  rw [hs]; exact List.mem_append_left _ hx

def Cap.is (ρ : Env) : Cap → Nat → Prop
  | .exact c, n => n = c
  | .loose k d, n => ∃ c, ρ.cap[k]? = some c ∧ n = c - d

theorem Cap.is_mono {ρ ρ' : Env} (h : ρ.le ρ') {c : Cap} {n : Nat} (hc : c.is ρ n) : c.is ρ' n := by
  cases c with
  | exact c => exact hc
  | loose k d => obtain ⟨c, h1, h2⟩ := hc; exact ⟨c, h.le_cap h1, h2⟩

theorem Cap.is_fun {ρ : Env} {c : Cap} {n m : Nat} (h : c.is ρ n) (k : c.is ρ m) : n = m := by
  cases c with
  | exact c => exact h.trans k.symm
  | loose i d =>
    obtain ⟨c, h1, h2⟩ := h
    obtain ⟨c', k1, k2⟩ := k
    have := h1.symm.trans k1
    simp at this
    omega

mutual
/-- A value of the evaluator's, and the model's. -/
def AV.rel (ρ : Env) : AV → Value → Prop
  | .bool b, v => v = .bool b
  | .int k n, v => v = .int k n
  | .str s, v => v = .string s
  | .nilptr, v => v = .pointer none
  | .ptr i o, v => ∃ a, ρ.addr[i]? = some a ∧ v = .pointer (some (a.add o))
  | .nilslice, v => v = .slice none 0 0
  | .slice i o n c, v => ∃ a m, ρ.addr[i]? = some a ∧ c.is ρ m ∧ (v = .slice (some (a.add o)) n m ∨ (n = 0 ∧ m = 0 ∧ ∃ b, v = .slice (some b) 0 0))
  | .lit cs, v => ∃ b l, (b, l) ∈ ρ.lit ∧ AV.rels ρ cs l ∧ v = .slice (some ⟨b, 0, none⟩) cs.length cs.length
  | .nilmap, v => v = .map none
  | .map i, v => ∃ a, ρ.addr[i]? = some a ∧ v = .map (some a.block)
  | .func f x y, v => ∃ x' y', AV.rels ρ x x' ∧ AV.rels ρ y y' ∧ v = .func (.func f) x'.toArray y'.toArray
  | .nilfunc, v => v = .nilFunc
  | .niliface, v => v = .nilIface
  | .agg cs, v => ∃ l, AV.rels ρ cs l ∧ v = .agg l.toArray
  | .tuple vs, v => ∃ l, AV.rels ρ vs l ∧ v = .tuple l.toArray
def AV.rels (ρ : Env) : List AV → List Value → Prop
  | [], l => l = []
  | x :: xs, l => ∃ y ys, l = y :: ys ∧ AV.rel ρ x y ∧ AV.rels ρ xs ys
end

mutual
theorem AV.rel_mono {ρ ρ' : Env} (h : ρ.le ρ') : ∀ (v : AV) (x : Value), v.rel ρ x → v.rel ρ' x
  | .bool _, _, hv | .int _ _, _, hv | .str _, _, hv | .nilptr, _, hv | .nilslice, _, hv | .nilmap, _, hv | .nilfunc, _, hv | .niliface, _, hv => by simpa [AV.rel] using hv
  | .ptr i o, x, hv => by
    simp only [AV.rel] at *
    obtain ⟨a, h1, h2⟩ := hv; exact ⟨a, h.le_addr h1, h2⟩
  | .slice i o n c, x, hv => by
    simp only [AV.rel] at *
    obtain ⟨a, m, h1, h2, h3⟩ := hv; exact ⟨a, m, h.le_addr h1, Cap.is_mono h h2, h3⟩
  | .lit cs, x, hv => by
    simp only [AV.rel] at *
    obtain ⟨b, l, h1, h2, h3⟩ := hv; exact ⟨b, l, h.le_lit h1, AV.rels_mono h cs l h2, h3⟩
  | .map i, x, hv => by
    simp only [AV.rel] at *
    obtain ⟨a, h1, h2⟩ := hv; exact ⟨a, h.le_addr h1, h2⟩
  | .func f a b, x, hv => by
    simp only [AV.rel] at *
    obtain ⟨x', y', h1, h2, h3⟩ := hv; exact ⟨x', y', AV.rels_mono h a x' h1, AV.rels_mono h b y' h2, h3⟩
  | .agg cs, x, hv => by
    simp only [AV.rel] at *
    obtain ⟨l, h1, h2⟩ := hv; exact ⟨l, AV.rels_mono h cs l h1, h2⟩
  | .tuple cs, x, hv => by
    simp only [AV.rel] at *
    obtain ⟨l, h1, h2⟩ := hv; exact ⟨l, AV.rels_mono h cs l h1, h2⟩
theorem AV.rels_mono {ρ ρ' : Env} (h : ρ.le ρ') : ∀ (vs : List AV) (xs : List Value), AV.rels ρ vs xs → AV.rels ρ' vs xs
  | [], _, hv => by simpa [AV.rels] using hv
  | v :: vs, xs, hv => by
    simp only [AV.rels] at *
    obtain ⟨y, ys, h1, h2, h3⟩ := hv; exact ⟨y, ys, h1, AV.rel_mono h v y h2, AV.rels_mono h vs ys h3⟩
end

theorem rels_length {ρ : Env} : ∀ {vs : List AV} {xs : List Value}, AV.rels ρ vs xs → xs.length = vs.length
  | [], _, h => by simp only [AV.rels] at h; simp [h]
  | v :: vs, _, h => by
    simp only [AV.rels] at h
    obtain ⟨y, ys, rfl, _, h3⟩ := h
    simp [rels_length h3]

theorem rels_get {ρ : Env} : ∀ {vs : List AV} {xs : List Value}, AV.rels ρ vs xs → ∀ {i : Nat} {v : AV}, vs[i]? = some v → ∃ x, xs[i]? = some x ∧ v.rel ρ x
  | [], _, _, i, v, hv => by simp at hv
  | u :: vs, _, h, i, v, hv => by
    simp only [AV.rels] at h
    obtain ⟨y, ys, rfl, h2, h3⟩ := h
    cases i with
    | zero => simp at hv; subst hv; exact ⟨y, by simp, h2⟩
    | succ i => simp at hv; simpa using rels_get h3 hv

theorem rels_of {ρ : Env} : ∀ {vs : List AV} {xs : List Value}, xs.length = vs.length → (∀ (i : Nat) v, vs[i]? = some v → ∃ x, xs[i]? = some x ∧ v.rel ρ x) → AV.rels ρ vs xs
  | [], xs, hl, _ => by simp only [AV.rels]; exact List.eq_nil_of_length_eq_zero hl
  | v :: vs, xs, hl, h => by
    cases xs with
    | nil => simp at hl
    | cons x xs =>
      simp only [AV.rels]
      obtain ⟨x', h1, h2⟩ := h 0 v rfl
      simp at h1; subst h1
      exact ⟨x, xs, rfl, h2, rels_of (by simpa using hl) fun i u hu => by simpa using h (i + 1) u (by simpa using hu)⟩

theorem rels_append {ρ : Env} {a b : List AV} {x y : List Value} (h : AV.rels ρ a x) (k : AV.rels ρ b y) : AV.rels ρ (a ++ b) (x ++ y) := by
  induction a generalizing x with
  | nil => simp only [AV.rels] at h; subst h; simpa using k
  | cons v a ih =>
    simp only [AV.rels, List.cons_append] at *
    obtain ⟨u, us, rfl, h2, h3⟩ := h
    exact ⟨u, us ++ y, rfl, h2, ih h3⟩

theorem rels_take {ρ : Env} {a : List AV} {x : List Value} (n : Nat) (h : AV.rels ρ a x) : AV.rels ρ (a.take n) (x.take n) := by
  induction a generalizing x n with
  | nil => simp only [AV.rels] at h; subst h; simp [AV.rels]
  | cons v a ih =>
    simp only [AV.rels] at h
    obtain ⟨u, us, rfl, h2, h3⟩ := h
    cases n with
    | zero => simp [AV.rels]
    | succ n => simp only [List.take_succ_cons, AV.rels]; exact ⟨u, us.take n, rfl, h2, ih n h3⟩

theorem rels_drop {ρ : Env} {a : List AV} {x : List Value} (n : Nat) (h : AV.rels ρ a x) : AV.rels ρ (a.drop n) (x.drop n) := by
  induction a generalizing x n with
  | nil => simp only [AV.rels] at h; subst h; simp [AV.rels]
  | cons v a ih =>
    have h' := h
    simp only [AV.rels] at h
    obtain ⟨u, us, rfl, h2, h3⟩ := h
    cases n with
    | zero => simpa using h'
    | succ n => simpa using ih n h3

theorem rels_cells {ρ : Env} {v : AV} {x : Value} (h : v.rel ρ x) : AV.rels ρ v.cells x.cells.toList := by
  cases v <;> simp only [AV.cells]
  case agg cs =>
    simp only [AV.rel] at h
    obtain ⟨l, h1, rfl⟩ := h
    simpa [Value.cells] using h1
  all_goals
    have h' := h
    simp only [AV.rel] at h
    simp only [AV.rels]
    refine ⟨x, [], ?_, h', rfl⟩
  case bool | int | str | nilptr | nilslice | nilmap | nilfunc | niliface => subst h; rfl
  case ptr | map => obtain ⟨a, _, rfl⟩ := h; rfl
  case slice => obtain ⟨a, m, _, _, rfl | ⟨_, _, b, rfl⟩⟩ := h <;> rfl
  case lit => obtain ⟨_, _, _, _, rfl⟩ := h; rfl
  case func => obtain ⟨_, _, _, _, rfl⟩ := h; rfl
  case tuple => obtain ⟨_, _, rfl⟩ := h; rfl

theorem rel_one {ρ : Env} {v : AV} {x : Value} (h : v.rel ρ x) (h1 : v.one = true) : x.oneCell' = true := by
  cases v <;> simp [AV.one] at h1 <;> simp only [AV.rel] at h
  case bool | int | str | nilptr | nilslice | nilmap | nilfunc | niliface => subst h; rfl
  case ptr | map => obtain ⟨a, _, rfl⟩ := h; rfl
  case slice => obtain ⟨a, m, _, _, rfl | ⟨_, _, b, rfl⟩⟩ := h <;> rfl
  case lit => obtain ⟨_, _, _, _, rfl⟩ := h; rfl
  case func => obtain ⟨_, _, _, _, rfl⟩ := h; rfl

theorem add_add (a : Addr) (m n : Nat) : (a.add m).add n = a.add (m + n) := by
  unfold Addr.add
  by_cases hm : m = 0 <;> by_cases hn : n = 0 <;> simp_all
  omega

theorem add_block (a : Addr) (m : Nat) : (a.add m).block = a.block := by unfold Addr.add; split <;> rfl
theorem add_spot {a : Addr} (h : a.spot = none) (m : Nat) : a.add m = ⟨a.block, a.off + m, none⟩ := by
  obtain ⟨b, o, s⟩ := a
  simp at h; subst h
  unfold Addr.add
  split <;> simp_all

def AObj.writable : AObj → Bool
  | .cells false _ _ | .map .. => true
  | _ => false
def AObj.live : AObj → Bool
  | .dead => false
  | _ => true

theorem AObj.live_of_writable {o : AObj} (h : o.writable = true) : o.live = true := by cases o <;> simp_all [AObj.writable, AObj.live]

def relMap (ρ : Env) : List (AV × AV) → List MapEntry → Prop
  | [], l => l = []
  | e :: r, l => ∃ y ys, l = y :: ys ∧ e.1.rel ρ y.key ∧ e.2.rel ρ y.val ∧ relMap ρ r ys

theorem relMap_mono {ρ ρ' : Env} (h : ρ.le ρ') : ∀ (es : List (AV × AV)) (l : List MapEntry), relMap ρ es l → relMap ρ' es l
  | [], _, hv => hv
  | e :: es, l, hv => by
    obtain ⟨y, ys, h1, h2, h3, h4⟩ := hv
    exact ⟨y, ys, h1, AV.rel_mono h _ _ h2, AV.rel_mono h _ _ h3, relMap_mono h es ys h4⟩

/-- What an object's block holds. -/
def AObj.holds (ρ : Env) (w : World) (a : Addr) : AObj → Prop
  | .dead => True
  | .cells true cs _ => a.block < w.heap.size ∧ ∀ (j : Nat) v, cs[j]? = some v → ∃ x, w.cell? (a.add j) = some x ∧ v.rel ρ x
  | .cells false cs room => a.spot = none ∧ ∃ c e, w.heap[a.block]? = some (.cells c e (0, 0)) ∧ (∀ (j : Nat) v, cs[j]? = some v → ∃ x, c[a.off + j]? = some x ∧ v.rel ρ x) ∧
      (∀ k s, room = some (k, s) → ∃ m, ρ.cap[k]? = some m ∧ a.off + m * s ≤ c.size)
  | .map es bs ck => ∃ l, w.heap[a.block]? = some (.map l ck) ∧ relMap ρ es l.toList ∧ l.toList.map (·.born) = bs

theorem AObj.holds_mono {ρ ρ' : Env} (h : ρ.le ρ') {w : World} {a : Addr} {o : AObj} (ho : o.holds ρ w a) : o.holds ρ' w a := by
  cases o with
  | dead => trivial
  | cells ro cs room =>
    cases ro with
    | true => exact ⟨ho.1, fun j v hj => let ⟨x, h1, h2⟩ := ho.2 j v hj; ⟨x, h1, AV.rel_mono h _ _ h2⟩⟩
    | false =>
      obtain ⟨hs, c, e, h1, h2, h3⟩ := ho
      exact ⟨hs, c, e, h1, fun j v hj => let ⟨x, h4, h5⟩ := h2 j v hj; ⟨x, h4, AV.rel_mono h _ _ h5⟩, fun k s hk => let ⟨m, h4, h5⟩ := h3 k s hk; ⟨m, h.le_cap h4, h5⟩⟩
  | map es bs ck => obtain ⟨l, h1, h2, h3⟩ := ho; exact ⟨l, h1, relMap_mono h _ _ h2, h3⟩

theorem AObj.holds_lt {ρ : Env} {w : World} {a : Addr} {o : AObj} (ho : o.holds ρ w a) (hl : o.live = true) : a.block < w.heap.size := by
  cases o with
  | dead => simp [AObj.live] at hl
  | cells ro cs room =>
    cases ro with
    | true => exact ho.1
    | false => obtain ⟨hs, c, e, h1, _⟩ := ho; exact (Array.getElem?_eq_some_iff.1 h1).1
  | map es bs ck => obtain ⟨l, h1, _⟩ := ho; exact (Array.getElem?_eq_some_iff.1 h1).1

theorem AObj.holds_congr {ρ : Env} {w w' : World} {a : Addr} {o : AObj} (hs : w.heap.size ≤ w'.heap.size) (hb : w'.heap[a.block]? = w.heap[a.block]?) (ho : o.holds ρ w a) : o.holds ρ w' a := by
  cases o with
  | dead => trivial
  | cells ro cs room =>
    cases ro with
    | true =>
      refine ⟨Nat.lt_of_lt_of_le ho.1 hs, fun j v hj => ?_⟩
      obtain ⟨x, h1, h2⟩ := ho.2 j v hj
      refine ⟨x, ?_, h2⟩
      rw [World.cell?_of_block (w := w) (by rw [add_block]; exact hb)]; exact h1
    | false => obtain ⟨h0, c, e, h1, h2⟩ := ho; exact ⟨h0, c, e, by rw [hb]; exact h1, h2⟩
  | map es bs ck => obtain ⟨l, h1, h2⟩ := ho; exact ⟨l, by rw [hb]; exact h1, h2⟩

/-- A block that an object may write. -/
def own (ρ : Env) (h : AHeap) (b : Nat) : Prop := ∃ (i : Nat) (o : AObj) (a : Addr), h.objs[i]? = some o ∧ ρ.addr[i]? = some a ∧ o.writable = true ∧ a.block = b

/-- A block at which an object lives. -/
def liveAt (ρ : Env) (h : AHeap) (b : Nat) : Prop := ∃ (i : Nat) (o : AObj) (a : Addr), h.objs[i]? = some o ∧ ρ.addr[i]? = some a ∧ o.live = true ∧ a.block = b
theorem liveAt_of_own {ρ : Env} {h : AHeap} {b : Nat} : own ρ h b → liveAt ρ h b := fun ⟨i, o, a, h1, h2, h3, h4⟩ => ⟨i, o, a, h1, h2, AObj.live_of_writable h3, h4⟩

/-- The evaluator's heap is the model's. G: so many objects are the package-level variables. -/
structure Rel (G : Nat) (ρ : Env) (h : AHeap) (w : World) : Prop where
  nobj : ρ.addr.length = h.objs.length
  ncap : ρ.cap.length = h.caps.length
  glob : ∀ g, g < G → ρ.addr[g]? = some ⟨g, 0, none⟩
  obj : ∀ (i : Nat) o a, h.objs[i]? = some o → ρ.addr[i]? = some a → o.holds ρ w a
  apart : ∀ (i j : Nat) o p a b, h.objs[i]? = some o → h.objs[j]? = some p → ρ.addr[i]? = some a → ρ.addr[j]? = some b → i ≠ j → o.writable = true → p.live = true → a.block ≠ b.block
  caps : ∀ (k : Nat) lb, h.caps[k]? = some lb → ∃ c, ρ.cap[k]? = some c ∧ lb ≤ c
  lits : ∀ x ∈ ρ.lit, (∃ e, w.heap[x.1]? = some (.cells x.2.toArray e (0, 0))) ∧ ¬ own ρ h x.1

theorem Rel.addr {G : Nat} {ρ : Env} {h : AHeap} {w : World} (r : Rel G ρ h w) {i : Nat} {o : AObj} (ho : h.objs[i]? = some o) : ∃ a, ρ.addr[i]? = some a := by
  have := (List.getElem?_eq_some_iff.1 ho).1
  rw [← r.nobj] at this
  exact ⟨_, List.getElem?_eq_getElem this⟩

structure Post (G : Nat) (ρ : Env) (h : AHeap) (w : World) (ρ' : Env) (h' : AHeap) (w' : World) : Prop where
  le : ρ.le ρ'
  rel : Rel G ρ' h' w'
  os : w'.os = w.os
  tape : w'.tape = w.tape
  output : w'.output = w.output
  size : w.heap.size ≤ w'.heap.size
  keep : ∀ b, b < w.heap.size → ¬ own ρ h b → w'.heap[b]? = w.heap[b]?
  owns : ∀ b, own ρ' h' b → own ρ h b ∨ w.heap.size ≤ b
  lives : ∀ b, liveAt ρ' h' b → liveAt ρ h b ∨ w.heap.size ≤ b
  newlits : ∀ x ∈ ρ'.lit, x ∈ ρ.lit ∨ w.heap.size ≤ x.1

theorem Post.refl {G : Nat} {ρ : Env} {h : AHeap} {w : World} (r : Rel G ρ h w) : Post G ρ h w ρ h w :=
  ⟨Env.le_refl ρ, r, rfl, rfl, rfl, Nat.le_refl _, fun _ _ _ => rfl, fun _ h => .inl h, fun _ h => .inl h, fun _ h => .inl h⟩

theorem Post.trans {G : Nat} {ρ ρ' ρ'' : Env} {h h' h'' : AHeap} {w w' w'' : World} (p : Post G ρ h w ρ' h' w') (q : Post G ρ' h' w' ρ'' h'' w'') : Post G ρ h w ρ'' h'' w'' where
  le := p.le.le_trans q.le
  rel := q.rel
  os := q.os.trans p.os
  tape := q.tape.trans p.tape
  output := q.output.trans p.output
  size := Nat.le_trans p.size q.size
  keep := fun b hb hn => (q.keep b (Nat.lt_of_lt_of_le hb p.size) fun ho => (p.owns b ho).elim hn fun hs => absurd hb (by omega)).trans (p.keep b hb hn)
  owns := fun b ho => (q.owns b ho).elim (p.owns b) fun hs => .inr (Nat.le_trans p.size hs)
  lives := fun b ho => (q.lives b ho).elim (p.lives b) fun hs => .inr (Nat.le_trans p.size hs)
  newlits := fun x hx => (q.newlits x hx).elim (p.newlits x) fun hs => .inr (Nat.le_trans p.size hs)

/-- A draw changes nothing that is looked at. -/
theorem Rel.drew {G : Nat} {ρ : Env} {h : AHeap} {w : World} (r : Rel G ρ h w) : Rel G ρ h { w with drawn := w.drawn + 1 } :=
  ⟨r.nobj, r.ncap, r.glob, fun i o a h1 h2 => AObj.holds_congr (w := w) (Nat.le_refl _) rfl (r.obj i o a h1 h2), r.apart, r.caps, r.lits⟩
theorem Post.drew {G : Nat} {ρ : Env} {h : AHeap} {w : World} (r : Rel G ρ h w) : Post G ρ h w ρ h { w with drawn := w.drawn + 1 } :=
  ⟨Env.le_refl ρ, r.drew, rfl, rfl, rfl, Nat.le_refl _, fun _ _ _ => rfl, fun _ h => .inl h, fun _ h => .inl h, fun _ h => .inl h⟩

theorem getElem?_append_some {α : Type} {l s : List α} {i : Nat} {x : α} (h : l[i]? = some x) : (l ++ s)[i]? = some x := by
  rw [List.getElem?_append_left (List.getElem?_eq_some_iff.1 h).1]; exact h

theorem append_one_cases {α : Type} {l : List α} {i : Nat} {x y : α} (h : (l ++ [y])[i]? = some x) : l[i]? = some x ∨ (i = l.length ∧ x = y) := by
  rcases Nat.lt_or_ge i l.length with hl | hl
  · left; rwa [List.getElem?_append_left hl] at h
  · right
    rw [List.getElem?_append_right hl] at h
    have : i - l.length = 0 := by
      rcases Nat.eq_zero_or_pos (i - l.length) with h0 | h0
      · exact h0
      · rw [List.getElem?_eq_none (by simp; omega)] at h; simp at h
    rw [this] at h
    simp at h
    exact ⟨by omega, h.symm⟩

/-- An object of its own is changed. -/
theorem Post.put {G : Nat} {ρ : Env} {h : AHeap} {w w' : World} (r : Rel G ρ h w) {i : Nat} {o o' : AObj} {a : Addr} (ho : h.objs[i]? = some o) (ha : ρ.addr[i]? = some a) (hw : o.writable = true) (hw' : o'.writable = true)
    (hos : w'.os = w.os) (htape : w'.tape = w.tape) (hout : w'.output = w.output) (hsize : w'.heap.size = w.heap.size)
    (hb : ∀ b, b ≠ a.block → w'.heap[b]? = w.heap[b]?) (hh : o'.holds ρ w' a) : Post G ρ h w ρ (h.put i o') w' := by
  have hlt := (List.getElem?_eq_some_iff.1 ho).1
  have obj' : ∀ (j : Nat) p, (h.put i o').objs[j]? = some p → (j = i ∧ p = o') ∨ (j ≠ i ∧ h.objs[j]? = some p) := by
    intro j p hp
    by_cases hji : j = i
    · subst hji
      simp only [AHeap.put, List.getElem?_set_self hlt] at hp
      exact .inl ⟨rfl, by simpa using hp.symm⟩
    · exact .inr ⟨hji, by simpa [AHeap.put, List.getElem?_set_ne (Ne.symm hji)] using hp⟩
  refine ⟨Env.le_refl ρ, ⟨by simp [AHeap.put, r.nobj], by simp [AHeap.put, r.ncap], r.glob, ?_, ?_, by simpa [AHeap.put] using r.caps, ?_⟩, hos, htape, hout, Nat.le_of_eq hsize.symm, ?_, ?_, ?_, fun _ h => .inl h⟩
  · intro j p b hp hb'
    rcases obj' j p hp with ⟨rfl, rfl⟩ | ⟨hji, hp⟩
    · obtain rfl := Option.some.inj (ha.symm.trans hb'); exact hh
    · cases hl : p.live with
      | false => cases p <;> simp_all [AObj.live, AObj.holds]
      | true => exact AObj.holds_congr (Nat.le_of_eq hsize.symm) (hb _ (r.apart i j o p a b ho hp ha hb' (Ne.symm hji) hw hl).symm) (r.obj j p b hp hb')
  · intro j k p q b c hp hq hb' hc' hjk hpw hql
    rcases obj' j p hp with ⟨rfl, rfl⟩ | ⟨hji, hp2⟩
    · rcases obj' k q hq with ⟨rfl, rfl⟩ | ⟨hki, hq2⟩
      · exact absurd rfl hjk
      · exact r.apart j k o q b c ho hq2 hb' hc' hjk hw hql
    · rcases obj' k q hq with ⟨rfl, rfl⟩ | ⟨hki, hq2⟩
      · exact r.apart j k p o b c hp2 ho hb' hc' hjk hpw (AObj.live_of_writable hw)
      · exact r.apart j k p q b c hp2 hq2 hb' hc' hjk hpw hql
  · intro x hx
    obtain ⟨⟨e, h1⟩, h2⟩ := r.lits x hx
    refine ⟨⟨e, by rw [hb x.1 fun e' => h2 ⟨i, o, a, ho, ha, hw, e'.symm⟩]; exact h1⟩, ?_⟩
    rintro ⟨j, p, c, hp, hc, hpw, hcb⟩
    rcases obj' j p hp with ⟨rfl, rfl⟩ | ⟨_, hp⟩
    · exact h2 ⟨j, o, c, ho, hc, hw, hcb⟩
    · exact h2 ⟨j, p, c, hp, hc, hpw, hcb⟩
  · intro b _ hn
    exact hb b fun e => hn ⟨i, o, a, ho, ha, hw, e.symm⟩
  · rintro b ⟨j, p, c, hp, hc, hpw, rfl⟩
    rcases obj' j p hp with ⟨rfl, rfl⟩ | ⟨_, hp⟩
    · exact .inl ⟨j, o, c, ho, hc, hw, rfl⟩
    · exact .inl ⟨j, p, c, hp, hc, hpw, rfl⟩
  · rintro b ⟨j, p, c, hp, hc, hpw, rfl⟩
    rcases obj' j p hp with ⟨rfl, rfl⟩ | ⟨_, hp⟩
    · exact .inl ⟨j, o, c, ho, hc, AObj.live_of_writable hw, rfl⟩
    · exact .inl ⟨j, p, c, hp, hc, hpw, rfl⟩

/-- A new block that nobody writes. -/
theorem Post.lit {G : Nat} {ρ : Env} {h : AHeap} {w w' : World} (r : Rel G ρ h w) (vs : List Value) {e : TypeId} (hos : w'.os = w.os) (htape : w'.tape = w.tape) (hout : w'.output = w.output) (hheap : w'.heap = w.heap.push (.cells vs.toArray e (0, 0))) :
    Post G ρ h w ⟨ρ.addr, ρ.cap, ρ.lit ++ [(w.heap.size, vs)]⟩ h w' := by
  have hle : ρ.le ⟨ρ.addr, ρ.cap, ρ.lit ++ [(w.heap.size, vs)]⟩ := ⟨⟨[], by simp⟩, ⟨[], by simp⟩, ⟨_, rfl⟩⟩
  have hsz : w'.heap.size = w.heap.size + 1 := by simp [hheap]
  have hold : ∀ b, b < w.heap.size → w'.heap[b]? = w.heap[b]? := fun b hb => by rw [hheap, Array.getElem?_push, if_neg (by omega)]
  refine ⟨hle, ⟨r.nobj, r.ncap, r.glob, fun i o a h1 h2 => ?_, r.apart, r.caps, fun x hx => ?_⟩, hos, htape, hout, by omega, fun b hb _ => hold b hb, fun b hb => .inl hb, fun b hb => .inl hb, fun x hx => by
    rcases List.mem_append.1 hx with hx | hx
    · exact .inl hx
    · simp at hx; subst hx; exact .inr (Nat.le_refl _)⟩
  · have ho := r.obj i o a h1 h2
    cases hl : o.live with
    | false => cases o <;> simp_all [AObj.live, AObj.holds]
    | true => exact AObj.holds_mono hle (AObj.holds_congr (by omega) (hold _ (AObj.holds_lt ho hl)) ho)
  · rcases List.mem_append.1 hx with hx | hx
    · obtain ⟨⟨e', h1⟩, h2⟩ := r.lits x hx
      exact ⟨⟨e', by rw [hold _ (Array.getElem?_eq_some_iff.1 h1).1]; exact h1⟩, h2⟩
    · simp at hx
      subst hx
      refine ⟨⟨e, by rw [hheap]; simp⟩, ?_⟩
      rintro ⟨i, o, a, h1, h2, h3, h4⟩
      have := AObj.holds_lt (r.obj i o a h1 h2) (AObj.live_of_writable h3)
      simp at h4
      omega

/-- A new object in a new block. -/
theorem Post.push {G : Nat} {ρ : Env} {h : AHeap} {w w' : World} (r : Rel G ρ h w) {o' : AObj} (X : Obj) (cs : List Nat) (lbs : List Nat) (hcl : cs.length = lbs.length)
    (hlb : ∀ (k : Nat) lb, lbs[k]? = some lb → ∃ c, cs[k]? = some c ∧ lb ≤ c)
    (hos : w'.os = w.os) (htape : w'.tape = w.tape) (hout : w'.output = w.output) (hheap : w'.heap = w.heap.push X)
    (hh : o'.holds ⟨ρ.addr ++ [⟨w.heap.size, 0, none⟩], ρ.cap ++ cs, ρ.lit⟩ w' ⟨w.heap.size, 0, none⟩) :
    Post G ρ h w ⟨ρ.addr ++ [⟨w.heap.size, 0, none⟩], ρ.cap ++ cs, ρ.lit⟩ ⟨h.objs ++ [o'], h.caps ++ lbs⟩ w' := by
  have hle : ρ.le ⟨ρ.addr ++ [⟨w.heap.size, 0, none⟩], ρ.cap ++ cs, ρ.lit⟩ := ⟨⟨_, rfl⟩, ⟨_, rfl⟩, ⟨[], by simp⟩⟩
  have hsz : w'.heap.size = w.heap.size + 1 := by simp [hheap]
  have hold : ∀ b, b < w.heap.size → w'.heap[b]? = w.heap[b]? := fun b hb => by rw [hheap, Array.getElem?_push, if_neg (by omega)]
  have addr' : ∀ (j : Nat) p b, (h.objs ++ [o'])[j]? = some p → (ρ.addr ++ [⟨w.heap.size, 0, none⟩])[j]? = some b →
      (h.objs[j]? = some p ∧ ρ.addr[j]? = some b) ∨ (j = h.objs.length ∧ p = o' ∧ b = ⟨w.heap.size, 0, none⟩) := by
    intro j p b hp hb
    rcases append_one_cases hp with hp | ⟨hj, rfl⟩
    · have hlt := (List.getElem?_eq_some_iff.1 hp).1
      rw [← r.nobj] at hlt
      rw [List.getElem?_append_left hlt] at hb
      exact .inl ⟨hp, hb⟩
    · rcases append_one_cases hb with hb | ⟨_, rfl⟩
      · have hlt := (List.getElem?_eq_some_iff.1 hb).1
        rw [r.nobj] at hlt; omega
      · exact .inr ⟨hj, rfl, rfl⟩
  refine ⟨hle, ⟨by simp [r.nobj], by simp [r.ncap, hcl], fun g hg => getElem?_append_some (r.glob g hg), ?_, ?_, ?_, ?_⟩, hos, htape, hout, by omega, fun b hb _ => hold b hb, ?_, ?_, fun _ h => .inl h⟩
  · intro j p b hp hb
    rcases addr' j p b hp hb with ⟨hp, hb⟩ | ⟨_, rfl, rfl⟩
    · have ho := r.obj j p b hp hb
      cases hl : p.live with
      | false => cases p <;> simp_all [AObj.live, AObj.holds]
      | true => exact AObj.holds_mono hle (AObj.holds_congr (by omega) (hold _ (AObj.holds_lt ho hl)) ho)
    · exact hh
  · intro j k p q b c hp hq hb hc hjk hpw hql
    rcases addr' j p b hp hb with ⟨hp2, hb2⟩ | ⟨hj, rfl, rfl⟩
    · rcases addr' k q c hq hc with ⟨hq2, hc2⟩ | ⟨hk, rfl, rfl⟩
      · exact r.apart j k p q b c hp2 hq2 hb2 hc2 hjk hpw hql
      · have := AObj.holds_lt (r.obj j p b hp2 hb2) (AObj.live_of_writable hpw)
        simp; omega
    · rcases addr' k q c hq hc with ⟨hq2, hc2⟩ | ⟨hk, rfl, rfl⟩
      · have := AObj.holds_lt (r.obj k q c hq2 hc2) hql
        simp; omega
      · omega
  · intro k lb hk
    rcases Nat.lt_or_ge k h.caps.length with hl | hl
    · rw [List.getElem?_append_left hl] at hk
      obtain ⟨c, h1, h2⟩ := r.caps k lb hk
      exact ⟨c, getElem?_append_some h1, h2⟩
    · rw [List.getElem?_append_right hl] at hk
      obtain ⟨c, h1, h2⟩ := hlb _ lb hk
      exact ⟨c, by rw [List.getElem?_append_right (by rw [r.ncap]; exact hl), r.ncap]; exact h1, h2⟩
  · intro x hx
    obtain ⟨⟨e, h1⟩, h2⟩ := r.lits x hx
    have hlt := (Array.getElem?_eq_some_iff.1 h1).1
    refine ⟨⟨e, by rw [hold _ hlt]; exact h1⟩, ?_⟩
    rintro ⟨j, p, c, hp, hc, hpw, hcb⟩
    rcases addr' j p c hp hc with ⟨hp, hc⟩ | ⟨_, rfl, rfl⟩
    · exact h2 ⟨j, p, c, hp, hc, hpw, hcb⟩
    · simp at hcb; omega
  · rintro b ⟨j, p, c, hp, hc, hpw, rfl⟩
    rcases addr' j p c hp hc with ⟨hp, hc⟩ | ⟨_, rfl, rfl⟩
    · exact .inl ⟨j, p, c, hp, hc, hpw, rfl⟩
    · exact .inr (Nat.le_refl _)
  · rintro b ⟨j, p, c, hp, hc, hpw, rfl⟩
    rcases addr' j p c hp hc with ⟨hp, hc⟩ | ⟨_, rfl, rfl⟩
    · exact .inl ⟨j, p, c, hp, hc, hpw, rfl⟩
    · exact .inr (Nat.le_refl _)

end Go.Proofs.YtblhcbmcbhoeiaaGreatDoor.Ev
end

section
/- From the model's code to the evaluator's: which code it takes, with what the program's table of types tells laid into it. -/
namespace Go.Proofs.YtblhcbmcbhoeiaaGreatDoor.Ev
set_option linter.unusedSimpArgs false
set_option linter.unusedVariables false
set_option linter.unusedSectionVars false
set_option linter.unnecessarySimpa false
open Go

def ofScalar : Value → Option AV
  | .bool b => some (.bool b)
  | .int k n => some (.int k n)
  | .string s => some (.str s)
  | .pointer none => some .nilptr
  | .slice none 0 0 => some .nilslice
  | .map none => some .nilmap
  | .nilFunc => some .nilfunc
  | .nilIface => some .niliface
  | _ => none

def ofScalars : List Value → Option (List AV)
  | [] => some []
  | v :: vs => match ofScalar v, ofScalars vs with
    | some x, some xs => some (x :: xs)
    | _, _ => none

def ofValue : Value → Option AV
  | .agg cs => (ofScalars cs.toList).map .agg
  | .tuple cs => (ofScalars cs.toList).map .tuple
  | v => ofScalar v

/-- G: so many package-level variables are known. -/
def compOpd (G : Nat) : Operand → Option AOpd
  | .tmp t => some (.tmp t)
  | .const v => (ofValue v).map .const
  | .global g => if g < G then some (.glob g) else none
  | .func f => some (.func f)

def compOpds (G : Nat) : List Operand → Option (List AOpd)
  | [] => some []
  | x :: xs => match compOpd G x, compOpds G xs with
    | some y, some ys => some (y :: ys)
    | _, _ => none

def compOpt (G : Nat) : Option Operand → Option (Option AOpd)
  | none => some none
  | some x => (compOpd G x).map some

def sizeT (P : Program) (t : TypeId) : Option Nat := (P.info? t).map (·.size)
def bytesT (P : Program) (t : TypeId) : Option Nat := (P.info? t).map (·.bytes)
def zeroV (P : Program) (t : TypeId) : Option Value := (P.info? t).bind (·.zero)
def zeroT (P : Program) (t : TypeId) : Option (List AV) := (zeroV P t).bind fun v => (ofValue v).map (·.cells)

def aggT (P : Program) (t : TypeId) : Option Bool :=
  match P.underlying t with
  | some (.struct _) | some (.array _ _) => some true
  | some _ => some false
  | none => none

/-- Where a part of a struct or of an array lies: its offset and its size. -/
def placeT (P : Program) (t : TypeId) (i : Nat) : Option (Nat × Nat) :=
  match P.underlying t with
  | some (.struct fs) => match fs[i]? with
    | some f => (sizeT P f.type).map fun s => (f.offset, s)
    | none => none
  | some (.array _ e) => (sizeT P e).map fun s => (i * s, s)
  | _ => none

def compParts (P : Program) (G : Nat) (t : TypeId) : List (Nat × Operand) → Option (List ((Nat × Nat) × AOpd))
  | [] => some []
  | (i, x) :: r => match placeT P t i, compOpd G x, compParts P G t r with
    | some p, some y, some ys => some ((p, y) :: ys)
    | _, _, _ => none

def compSlots (s : Nat) (G : Nat) : List (Nat × Operand) → Option (List ((Nat × Nat) × AOpd))
  | [] => some []
  | (i, x) :: r => match compOpd G x, compSlots s G r with
    | some y, some ys => some (((i * s, s), y) :: ys)
    | _, _ => none

/-- The fields of a struct that is compared: each of one cell that is an integer, a bool or a string, and has a name. -/
def eqOffs (P : Program) : List Field → Option (List (Nat × Nat))
  | [] => some []
  | f :: r =>
    match (if f.name ≠ "_" then P.underlying f.type else none), eqOffs P r with
    | some (.int _), some l => some ((f.offset, 0) :: l)
    | some .bool, some l => some ((f.offset, 1) :: l)
    | some .string, some l => some ((f.offset, 2) :: l)
    | _, _ => none

def isCmp : BinOp → Option Bool
  | .eql => some false
  | .neq => some true
  | _ => none

def compBin (P : Program) (op : BinOp) (t : TypeId) (x y : AOpd) : Option AOp :=
  match P.underlying t with
  | some (.int _) | some .string => some (.bin op x y)
  | some .bool => (isCmp op).map fun n => .eqBool n x y
  | some (.pointer _) => (isCmp op).map fun n => .cmpNil n 0 x y
  | some (.slice _) => (isCmp op).map fun n => .cmpNil n 1 x y
  | some (.map _ _) => (isCmp op).map fun n => .cmpNil n 2 x y
  | some (.func _ _ _) => (isCmp op).map fun n => .cmpNil n 3 x y
  | some (.struct fs) => if !(P.stoodInHeld t) && !(P.eqGuardType P.depth t) then match isCmp op, eqOffs P fs.toList with | some n, some l => some (.eqStruct n l x y) | _, _ => none else none
  | _ => none

def compCall (P : Program) (G : Nat) (c : Call) (_type : TypeId) : Option AOp :=
  match c.callee, compOpds G c.args.toList with
  | .value (.func f), some args => some (.call f args)
  | .value (.tmp t), some args => some (.callv (.tmp t) args)
  | .builtin .len, some [x] =>
    match c.argTypes.toList with
    | [t] => match P.underlying t with
      | some (.slice _) => some (.lenS x)
      | some .string => some (.lenStr x)
      | some (.map _ _) => some (.lenM x)
      | some (.array n _) => some (.lenC n)
      | _ => none
    | _ => none
  | .builtin .append, some [s, x] =>
    match c.argTypes.toList with
    | [t, u] => match P.underlying t, P.underlying u with
      | some (.slice e), some (.slice _) => match sizeT P e, bytesT P e, zeroT P e with
        | some sz, some by_, some z => if z.length = sz then some (.append sz by_ z s x) else none
        | _, _, _ => none
      | _, _ => none
    | _ => none
  | .builtin .copy, some [d, s] =>
    match c.argTypes.toList with
    | [t, _] => match P.underlying t with
      | some (.slice e) => (sizeT P e).map fun sz => .copy sz d s
      | _ => none
    | _ => none
  | .builtin .clear, some [x] =>
    match c.argTypes.toList with
    | [t] => match P.underlying t with
      | some (.slice e) => match sizeT P e, zeroT P e with
        | some sz, some z => if z.length = sz then some (.clearS sz z x) else none
        | _, _ => none
      | _ => none
    | _ => none
  | .builtin .delete, some [m, k] =>
    match c.argTypes.toList with
    | [t, _] => match P.underlying t with
      | some (.map kt _) => match P.underlying kt with
        | some (.int _) => some (.delete m k)
        | _ => none
      | _ => none
    | _ => none
  | .builtin .max, some [x, y] => some (.max2 x y)
  | .builtin .max, some [x, y, z] => some (.max3 x y z)
  | .builtin .min, some [x, y] => some (.min2 x y)
  | .builtin .min, some [x, y, z] => some (.min3 x y z)
  | _, _ => none

def compOp (P : Program) (G : Nat) (o : Oper) : Option AOp :=
  match o.op with
  | .move x | .assign x => (compOpd G x).map .mv
  | .pick c a b => match compOpd G c, compOpd G a, compOpd G b with
    | some c, some a, some b => some (.pick c a b)
    | _, _, _ => none
  | .alloc e => (zeroT P e).map .alloc
  | .box _ x => (compOpd G x).map .box
  | .build t ps => match P.underlying t, zeroT P t, compParts P G t ps.toList with
    | some (.struct fs), some z, some l => if fs.toList.all (fun f => (sizeT P f.type).isSome) then some (.build z l) else none
    | some (.array _ e), some z, some l => if (sizeT P e).isSome then some (.build z l) else none
    | _, _, _ => none
  | .buildSlice t len ps => match P.underlying t with
    | some (.slice e) => match sizeT P e, zeroT P e with
      | some s, some z => if len * s ≤ 16777216 ∧ z.length = s then (compSlots s G ps.toList).map fun l => .buildSlice (rep len z) len l else none
      | _, _ => none
    | _ => none
  | .load t a => match aggT P t, sizeT P t, compOpd G a with
    | some true, some n, some a => some (.loadN n a)
    | some false, some _, some a => some (.load1 a)
    | _, _, _ => none
  | .store t a x => match sizeT P t, compOpd G a, compOpd G x with
    | some n, some a, some x => some (.store n a x)
    | _, _, _ => none
  | .nilCheck x => (compOpd G x).map .nilCheck
  | .binOp op t x y _ => match compOpd G x, compOpd G y with
    | some x, some y => compBin P op t x y
    | _, _ => none
  | .unOp op _ x => (compOpd G x).map (.un op)
  | .convert s d x => match P.underlying s, P.underlying d, compOpd G x with
    | some _, some (.int k), some x => some (.toInt k x)
    | _, _, _ => none
  | .makeFunc (.func f) a b => match compOpds G a.toList, compOpds G b.toList with
    | some a, some b => some (.mkfunc f a b)
    | _, _ => none
  | .makeMap _ none => some .mkmap
  | .makeSlice t l c => match P.underlying t with
    | some (.slice e) => match sizeT P e, bytesT P e, zeroT P e, compOpd G l, compOpd G c with
      | some s, some b, some z, some l, some c => if 0 < s then some (.mkslice s b z l c) else none
      | _, _, _, _, _ => none
    | _ => none
  | .slice t x lo hi mx => match compOpd G x, compOpt G lo, compOpt G hi, compOpt G mx with
    | some x, some lo, some hi, some mx =>
      if mx.isSome = true → hi.isSome = true then
        match P.underlying t with
        | some (.slice e) => (sizeT P e).map fun s => .slc s none x lo hi mx
        | some (.array n e) => (sizeT P e).map fun s => .slc s (some n) x lo hi mx
        | _ => none
      else none
    | _, _, _, _ => none
  | .fieldAddr s x f => match placeT P s f, P.underlying s, compOpd G x with
    | some (off, n), some (.struct _), some x => if n ≠ 0 then some (.fieldAddr off x) else none
    | _, _, _ => none
  | .field t x f => match P.underlying t, placeT P t f, compOpd G x with
    | some (.struct fs), some (off, n), some x => match fs[f]? with
      | some g => match aggT P g.type with
        | some true => some (.fieldN off n x)
        | some false => some (.field1 off x)
        | none => none
      | none => none
    | _, _, _ => none
  | .indexAddr t x i => match compOpd G x, compOpd G i with
    | some x, some i => match P.underlying t with
      | some (.slice e) => (sizeT P e).map fun s => .idxAddr s none x i
      | some (.array n e) => (sizeT P e).map fun s => .idxAddr s (some n) x i
      | _ => none
    | _, _ => none
  | .index t x i => match P.underlying t, compOpd G x, compOpd G i with
    | some (.array n e), some x, some i => match aggT P e, sizeT P e with
      | some false, some 1 => some (.idx1 n x i)
      | _, _ => none
    | _, _, _ => none
  | .extract x k => (compOpd G x).map (.extract k)
  | .lookup t x i ok => match P.underlying t, compOpd G x, compOpd G i with
    | some (.map kt e), some x, some i => match P.underlying kt, (zeroV P e).bind ofValue with
      | some (.int _), some z => some (.lookup z ok x i)
      | _, _ => none
    | _, _, _ => none
  | .mapUpdate t m k x => match P.underlying t, compOpd G m, compOpd G k, compOpd G x with
    | some (.map kt _), some m, some k, some x => match P.underlying kt with
      | some (.int _) => some (.mapUpdate m k x)
      | _ => none
    | _, _, _, _ => none
  | .mapEntry t m k => match P.underlying t, compOpd G m, compOpd G k with
    | some (.map kt e), some m, some k => match P.underlying kt, (zeroV P e).bind ofValue with
      | some (.int _), some z => some (.mapEntry z m k)
      | _, _ => none
    | _, _, _ => none
  | .entryStore _ m s x => match compOpd G m, compOpd G s, compOpd G x with
    | some m, some s, some x => some (.entryStore m s x)
    | _, _, _ => none
  | .call c => compCall P G c o.type
  | _ => none

/-- The slot that a guard looks at. -/
def compGuard (ops : Array Oper) : Option (Nat × Bool) → Option (Option (Nat × Bool))
  | none => some none
  | some (j, want) => match (ops[j]?).bind (·.dst) with
    | some d => some (some (d, want))
    | none => none

def compOper (P : Program) (G : Nat) (ops : Array Oper) (o : Oper) : Option AOper :=
  match compOp P G o, compGuard ops o.guard with
  | some a, some g => some ⟨o.dst, a, g⟩
  | _, _ => none

def compOpers (P : Program) (G : Nat) (ops : Array Oper) : List Oper → Option (List AOper)
  | [] => some []
  | o :: r => match compOper P G ops o, compOpers P G ops r with
    | some a, some l => some (a :: l)
    | _, _ => none

/-- The slots that an operation reads. -/
def AOpd.reads : AOpd → List Nat
  | .tmp t => [t]
  | _ => []

def optReads : Option AOpd → List Nat
  | some x => x.reads
  | none => []

def AOp.reads : AOp → List Nat
  | .mv x | .box x | .load1 x | .loadN _ x | .nilCheck x | .un _ x | .toInt _ x | .fieldAddr _ x | .field1 _ x | .fieldN _ _ x | .extract _ x | .lenS x | .lenStr x | .lenM x | .clearS _ _ x => x.reads
  | .alloc _ | .mkmap | .lenC _ => []
  | .pick a b c | .max3 a b c | .min3 a b c | .mapUpdate a b c | .entryStore a b c => a.reads ++ b.reads ++ c.reads
  | .build _ ps | .buildSlice _ _ ps | .litSlice _ ps => ps.flatMap fun p => p.2.reads
  | .zeroSlice => []
  | .store _ a b | .bin _ a b | .cmpNil _ _ a b | .eqBool _ a b | .eqStruct _ _ a b | .mkslice _ _ _ a b | .idxAddr _ _ a b | .idx1 _ a b | .append _ _ _ a b | .copy _ a b | .max2 a b | .min2 a b | .lookup _ _ a b | .delete a b | .mapEntry _ a b | .filterRows _ _ _ a b => a.reads ++ b.reads
  | .mkfunc _ a b => a.flatMap AOpd.reads ++ b.flatMap AOpd.reads
  | .slc _ _ x lo hi mx => x.reads ++ optReads lo ++ optReads hi ++ optReads mx
  | .call _ args => args.flatMap AOpd.reads
  | .callv x args => x.reads ++ args.flatMap AOpd.reads

def AOper.looks (o : AOper) : List Nat := o.op.reads ++ (match o.guard with | some (s, _) => [s] | none => [])

/-- An operation whose value does not hang on the heap, and that leaves it as it is. -/
def AOp.isStill : AOp → Bool
  | .mv _ | .pick .. | .build .. | .litSlice .. | .nilCheck _ | .bin .. | .cmpNil .. | .eqBool .. | .eqStruct .. | .un .. | .toInt .. | .mkfunc .. | .fieldAddr .. | .field1 .. | .fieldN .. | .idxAddr .. | .idx1 .. | .extract .. | .lenS _ | .lenStr _ | .lenC _ | .max2 .. | .max3 .. | .min2 .. | .min3 .. => true
  | _ => false

/-- One whose value hangs on the heap, and that leaves it as it is. -/
def AOp.isRead : AOp → Bool
  | .load1 _ | .loadN .. | .lenM _ | .lookup .. | .slc .. | .zeroSlice => true
  | _ => false

/-- A new slice of known cells that is only read, as a value of its own. -/
def litOp : AOp → AOp
  | .buildSlice z len ps => if len = 0 ∧ z.isEmpty = true ∧ ps.isEmpty = true then .zeroSlice else if z.length = len then .litSlice z ps else .buildSlice z len ps
  | o => o
def litOper (o : AOper) : AOper := { o with op := litOp o.op }

def addAll : List Nat → List Nat → List Nat
  | [], l => l
  | x :: r, l => if l.contains x then addAll r l else addAll r (x :: l)

/-- For each operation those that stand before it by the edges, itself not among them (a list of numbers). -/
def befores : List Oper → List (List Nat) → List (List Nat)
  | [], acc => acc
  | o :: r, acc => befores r (acc ++ [(o.after.toList.filter (Region.binds .any)).foldr (fun e l => addAll (e.on :: acc.getD e.on []) l) []])

def stanceOf (ops : List AOper) (bs : List (List Nat)) (loud : List Nat) (i : Nat) (a : AOp) : Stance :=
  if a.isStill then .still
  else if a.isRead then .reads (loud.filter fun j => (bs.getD i []).contains j).length (loud.length - (loud.filter fun j => (bs.getD j []).contains i).length)
  else .loud

/-- Those that write. -/
def louds : List AOper → Nat → List Nat
  | [], _ => []
  | o :: r, i => if o.op.isStill || o.op.isRead then louds r (i + 1) else i :: louds r (i + 1)

def stances (all : List AOper) (bs : List (List Nat)) (loud : List Nat) : List AOper → Nat → List (AOper × Stance)
  | [], _ => []
  | o :: r, i => (o, stanceOf all bs loud i o.op) :: stances all bs loud r (i + 1)

/-- Two operations that no edge orders do not touch each other's slots. -/
def apartOps (x y : AOper) : Bool :=
  (match x.dst with | some d => !(y.looks.contains d) && y.dst != some d | none => true) &&
  (match y.dst with | some d => !(x.looks.contains d) | none => true)

/-- The operations that an operation waits for by an edge. -/
def edgesOf (o : Oper) : List Nat := (o.after.toList.filter (Region.binds .any)).map (·.on)

/-- A region whose order is drawn is taken where those that write stand in a row by the edges, and no two that are in no order touch each other's slots. -/
def drawOk (ops : List AOper) (es bs : List (List Nat)) (loud : List Nat) : Bool :=
  ((List.range ops.length).all fun i => ((es.getD i []).all fun j => decide (j < i) && (bs.getD i []).contains j) && ((bs.getD i []).all fun j => decide (j < i) && (es.getD i []).any fun e => e == j || (bs.getD e []).contains j)) &&
  (loud.all fun i => loud.all fun j => decide (j ≤ i) || (bs.getD j []).contains i) &&
  ((List.range ops.length).all fun j => (List.range j).all fun i => (bs.getD j []).contains i || (match ops[i]?, ops[j]? with | some x, some y => apartOps x y | _, _ => false))

/-- A slice that is made: its operation, the one that tells its length, its slot, the length's; types; cells. -/
structure Flt where
  i : Nat
  p : Nat
  d : Nat
  s : Nat
  t : TypeId
  e : TypeId
  z : List AV
  sz : Nat
  by_ : Nat
  deriving Inhabited

def isTmp (d : Nat) : Operand → Bool
  | .tmp t => t == d
  | _ => false
def tmpOf : Operand → Option Nat
  | .tmp t => some t
  | _ => none

/-- An operation that makes a slice of so many zero elements, the number in a slot. -/
def fltAt (P : Program) (ops : Array Oper) (l : List AOper) (i : Nat) : Option Flt :=
  match l[i]?, ops[i]? with
  | some ⟨some d, .mkslice sz by_ z (.tmp s) (.tmp s'), none⟩, some o =>
    match o.op with
    | .makeSlice t a b => match P.underlying t, tmpOf a, tmpOf b with
      | some (.slice e), some a, some b => if a = s ∧ b = s ∧ s' = s then (l.findIdx? fun x => x.dst == some s).map fun p => ⟨i, p, d, s, t, e, z, sz, by_⟩ else none
      | _, _, _ => none
    | _ => none
  | _, _ => none

def isMk : AOp → Bool
  | .mkslice .. => true
  | _ => false

/-- The operations of a region in which two slices are made, as they are met first: those two and what comes behind them do nothing. -/
def floatOps (l : List AOper) (Y : Nat → Bool) (f1 f2 : Flt) : List AOper :=
  l.mapIdx fun i a => if i == f1.i then ⟨some f1.d, .mv (.const undefA), none⟩ else if i == f2.i then ⟨some f2.d, .mv (.const undefA), none⟩ else if Y i then ⟨none, .mv (.const undefA), none⟩ else a

def fltOk (P : Program) (al : List AOper) (bs : List (List Nat)) (f : Flt) : Bool :=
  sizeT P f.e == some f.sz && bytesT P f.e == some f.by_ && (match zeroT P f.e with | some z => AV.beqs z f.z | none => false) && f.z.length == f.sz && (bs.getD f.i []).contains f.p &&
  ((List.range al.length).all fun j => match al[j]? with | some o => !(o.dst == some f.s) || j == f.p | none => true)

def floatOk (P : Program) (ops : Array Oper) (l al : List AOper) (bs : List (List Nat)) (Y : Nat → Bool) (f1 f2 : Flt) : Bool :=
  fltOk P al bs f1 && fltOk P al bs f2 && f1.d != f2.d && f1.i != f2.i && f1.s != f1.d && f1.s != f2.d && f2.s != f1.d && f2.s != f2.d && !(Y f1.i) && !(Y f2.i) &&
  ((List.range ops.size).all fun i => match ops[i]?, l[i]? with
    | some o, some a => o.guard.isNone && a.guard.isNone && a.dst == o.dst && (i == f1.i || i == f2.i || Y i || (o.op.operands.toList.all (fun x => !(isTmp f1.d x) && !(isTmp f2.d x)) && o.dst != some f1.d && o.dst != some f2.d))
    | _, _ => false) &&
  ((List.range ops.size).all fun y => !(Y y) || (List.range ops.size).all fun i => (Y i && decide (y ≤ i)) || (bs.getD y []).contains i) && ((List.range ops.size).all fun i => Y i || (bs.getD i []).all fun k => !(Y k)) &&
  drawOk al (ops.toList.map edgesOf) bs (louds al 0) && P.follows .mixedOrders

/-- A region whose order is drawn in which two slices are made that stand in no order: as if they were made behind all others but for those that wait for them. -/
def compFloat (P : Program) (ops : Array Oper) (l : List AOper) : Option ACode :=
  let bs := befores ops.toList []
  match (List.range l.length).filter (fun i => match l[i]? with | some a => isMk a.op | none => false) with
  | [i1, i2] => match fltAt P ops l i1, fltAt P ops l i2 with
    | some f1, some f2 =>
      let Y := fun y => (bs.getD y []).contains i1
      let al := floatOps l Y f1 f2
      if floatOk P ops l al bs Y f1 f2 then
        some (.seq (.region [⟨some f1.d, .mv (.const undefA), none⟩, ⟨some f2.d, .mv (.const undefA), none⟩]) (.seq (.draw (stances al bs (louds al 0) al 0)) (.region ((⟨some f1.d, .mkslice f1.sz f1.by_ f1.z (.tmp f1.s) (.tmp f1.s), none⟩ : AOper) :: ⟨some f2.d, .mkslice f2.sz f2.by_ f2.z (.tmp f2.s) (.tmp f2.s), none⟩ :: ⟨none, .lenS (.tmp f1.d), none⟩ :: ⟨none, .lenS (.tmp f2.d), none⟩ :: ((List.range l.length).filter Y).filterMap fun i => l[i]?))))
      else none
    | _, _ => none
  | _ => none

def compRegion (P : Program) (G : Nat) (ops : Array Oper) (draw : Bool) : Option ACode :=
  match compOpers P G ops ops.toList with
  | none => none
  | some l =>
    if draw then
      let bs := befores ops.toList []
      let loud := louds l 0
      if drawOk l (ops.toList.map edgesOf) bs loud && P.follows .mixedOrders then some (.draw (stances l bs loud l 0)) else
        let l2 := l.map litOper
        let loud2 := louds l2 0
        if drawOk l2 (ops.toList.map edgesOf) bs loud2 && P.follows .mixedOrders then some (.draw (stances l2 bs loud2 l2 0)) else compFloat P ops l
    else some (.region l)

def compCode (P : Program) (G : Nat) : Code → Option ACode
  | .skip => some .skip
  | .region _ ops draw => compRegion P G ops draw
  | .seq a b => match compCode P G a, compCode P G b with
    | some x, some y => some (.seq x y)
    | _, _ => none
  | .cond c a b => match compOpd G c, compCode P G a, compCode P G b with
    | some c, some x, some y => some (.cond c x y)
    | _, _, _ => none
  | .block id a => (compCode P G a).map (.block id)
  | .loop a => (compCode P G a).map .loop
  | .exit id => some (.exit id)
  | .ret => some .ret
  | _ => none

def compRes (P : Program) : List ResultVar → Option (List ARes)
  | [] => some []
  | .tmp t :: r => (compRes P r).map (.tmp t :: ·)
  | .cell t ty :: r => match aggT P ty, sizeT P ty, compRes P r with
    | some true, some n, some l => some (.cellN t n :: l)
    | some false, some _, some l => some (.cell1 t :: l)
    | _, _, _ => none

def compFunc (P : Program) (G : Nat) (fn : Func) : Option AFunc :=
  match fn.body with
  | none => none
  | some c => match compCode P G c, compRes P fn.results.toList with
    | some b, some r => if fn.name == "runtime.NumGoroutine" then none else some { ntmps := fn.ntmps, results := r, body := b }
    | _, _ => none

/-- The table is the program's. -/
def TableOk (P : Program) (G : Nat) (T : ATable) : Prop := ∀ f F, T f = some F → ∃ fn, P.funcs[f]? = some fn ∧ compFunc P G fn = some F

end Go.Proofs.YtblhcbmcbhoeiaaGreatDoor.Ev
end

section
/- The evaluator's operations are the model's: what reads and writes rows of cells. -/
namespace Go.Proofs.YtblhcbmcbhoeiaaGreatDoor.Ev
set_option linter.unusedSimpArgs false
set_option linter.unusedVariables false
set_option linter.unusedSectionVars false
set_option linter.unnecessarySimpa false
open Go

theorem ofScalar_rel {ρ : Env} {v : Value} {x : AV} (h : ofScalar v = some x) : x.rel ρ v := by
  unfold ofScalar at h
  split at h <;> first | (cases h; simp [AV.rel]; done) | cases h

theorem ofScalars_rel {ρ : Env} : ∀ {vs : List Value} {xs : List AV}, ofScalars vs = some xs → AV.rels ρ xs vs
  | [], xs, h => by cases h; simp [AV.rels]
  | v :: vs, xs, h => by
    simp only [ofScalars] at h
    split at h
    · rename_i x l h1 h2
      cases h
      simp only [AV.rels]
      exact ⟨v, vs, rfl, ofScalar_rel h1, ofScalars_rel h2⟩
    · cases h

theorem ofValue_rel {ρ : Env} {v : Value} {x : AV} (h : ofValue v = some x) : x.rel ρ v := by
  unfold ofValue at h
  split at h
  · rename_i cs
    simp only [Option.map_eq_some_iff] at h
    obtain ⟨l, h1, rfl⟩ := h
    simp only [AV.rel]
    exact ⟨cs.toList, ofScalars_rel h1, by simp⟩
  · rename_i cs
    simp only [Option.map_eq_some_iff] at h
    obtain ⟨l, h1, rfl⟩ := h
    simp only [AV.rel]
    exact ⟨cs.toList, ofScalars_rel h1, by simp⟩
  · exact ofScalar_rel h

theorem undef_rel (ρ : Env) : undefA.rel ρ undef := by simp [undefA, undef, AV.rel, AV.rels]

section
variable {P : Program} {G : Nat} {ρ : Env} {h h' : AHeap} {w : World} {fr : AFrame} {a : Act}

theorem eval_rel (hf : AV.rels ρ fr a.tmps.toList) (hg : ∀ g, g < G → ρ.addr[g]? = some ⟨g, 0, none⟩) {x : Operand} {y : AOpd} (hc : compOpd G x = some y) : (fr.eval y).rel ρ (a.eval x) := by
  cases x with
  | tmp t =>
    simp only [compOpd, Option.some.injEq] at hc
    subst hc
    simp only [AFrame.eval, Act.eval]
    have hl := rels_length hf
    simp at hl
    by_cases ht : t < fr.length
    · obtain ⟨x, h1, h2⟩ := rels_get hf (List.getElem?_eq_getElem ht)
      have h1' : a.tmps[t]? = some x := by simpa using h1
      simp [List.getD, List.getElem?_eq_getElem ht, h1', h2]
    · have h1 : fr[t]? = none := List.getElem?_eq_none (Nat.le_of_not_lt ht)
      have h2 : a.tmps[t]? = none := Array.getElem?_eq_none (by rw [hl]; exact Nat.le_of_not_lt ht)
      simp only [List.getD, h1, Array.getD_eq_getD_getElem?, h2, Option.getD_none]
      exact undef_rel ρ
  | const v =>
    simp only [compOpd, Option.map_eq_some_iff] at hc
    obtain ⟨x, h1, rfl⟩ := hc
    exact ofValue_rel h1
  | global g =>
    simp only [compOpd] at hc
    split at hc
    · cases hc
      rename_i hlt
      simp only [AFrame.eval, Act.eval, AV.rel]
      exact ⟨_, hg g hlt, by simp [Addr.add]⟩
    · cases hc
  | func f =>
    simp only [compOpd, Option.some.injEq] at hc
    subst hc
    simp [AFrame.eval, Act.eval, AV.rel, AV.rels]

theorem evals_rel (hf : AV.rels ρ fr a.tmps.toList) (hg : ∀ g, g < G → ρ.addr[g]? = some ⟨g, 0, none⟩) : ∀ {xs : List Operand} {ys : List AOpd}, compOpds G xs = some ys → AV.rels ρ (ys.map fr.eval) (xs.map a.eval)
  | [], ys, hc => by cases hc; simp [AV.rels]
  | x :: xs, ys, hc => by
    simp only [compOpds] at hc
    split at hc
    · rename_i y l h1 h2
      cases hc
      simp only [List.map_cons, AV.rels]
      exact ⟨_, _, rfl, eval_rel hf hg h1, evals_rel hf hg h2⟩
    · cases hc

/-- What an operation of the model's comes to. -/
def Runs (P : Program) (G : Nat) (ρ : Env) (h : AHeap) (w : World) (s : Sem Next) (v : AV) (h' : AHeap) : Prop :=
  ∃ n w' ρ' x, s.run P w = .ok n w' ∧ (n = .value x ∨ (n = .skip ∧ x = undef)) ∧ v.rel ρ' x ∧ Post G ρ h w ρ' h' w'

theorem Runs.val (r : Rel G ρ h w) {s : Sem Next} {v : AV} {x : Value} (hs : s.run P w = .ok (.value x) w) (hv : v.rel ρ x) : Runs P G ρ h w s v h :=
  ⟨_, w, ρ, x, hs, .inl rfl, hv, Post.refl r⟩

/-! ### Reading -/

theorem cell_sound (r : Rel G ρ h w) {i o : Nat} {v : AV} {b : Addr} (hc : h.cell i o = some v) (hb : ρ.addr[i]? = some b) : ∃ x, w.cell? (b.add o) = some x ∧ v.rel ρ x := by
  unfold AHeap.cell AHeap.row at hc
  split at hc
  · rename_i ro cs room ho
    simp only [Option.bind_some] at hc
    have hh := r.obj i _ b ho hb
    cases ro with
    | true => exact hh.2 o v hc
    | false =>
      obtain ⟨hs, c, e, h1, h2, _⟩ := hh
      obtain ⟨x, h3, h4⟩ := h2 o v hc
      refine ⟨x, ?_, h4⟩
      rw [add_spot hs, cell_of_row w _ _ c e _ h1]
      exact h3
  · simp at hc

theorem choose_cells {w : World} {ρ : Env} : ∀ (cs : List AV) (b : Addr), (∀ (j : Nat) v, cs[j]? = some v → ∃ x, w.cell? (b.add j) = some x ∧ v.rel ρ x) →
    ∃ xs, AV.rels ρ cs xs ∧ ∀ (j : Nat) x, xs[j]? = some x → w.cell? (b.add j) = some x
  | [], b, _ => ⟨[], by simp [AV.rels], by simp⟩
  | v :: cs, b, hh => by
    obtain ⟨x, h1, h2⟩ := hh 0 v rfl
    obtain ⟨xs, h3, h4⟩ := choose_cells cs (b.add 1) fun j u hu => by
      obtain ⟨y, h5, h6⟩ := hh (j + 1) u (by simpa using hu)
      exact ⟨y, by rw [add_add, Nat.add_comm 1 j]; exact h5, h6⟩
    refine ⟨x :: xs, by simp only [AV.rels]; exact ⟨x, xs, rfl, h2, h3⟩, fun j y hy => ?_⟩
    cases j with
    | zero => simp at hy; subst hy; exact h1
    | succ j => have := h4 j y (by simpa using hy); rwa [add_add, Nat.add_comm 1 j] at this

theorem cellsAt_cell {i o n : Nat} {cs : List AV} (hc : h.cellsAt i o n = some cs) : cs.length = n ∧ ∀ (j : Nat) v, cs[j]? = some v → h.cell i (o + j) = some v := by
  unfold AHeap.cellsAt at hc
  cases hr : h.row i with
  | none => simp [hr] at hc
  | some l =>
    simp only [hr, Option.bind_some] at hc
    split at hc
    · rename_i hle
      cases hc
      refine ⟨by simp; omega, fun j v hj => ?_⟩
      simp only [List.getElem?_take, List.getElem?_drop] at hj
      split at hj
      · simp [AHeap.cell, hr, hj]
      · cases hj
    · cases hc

theorem cellsAt_sound (r : Rel G ρ h w) {i o n : Nat} {cs : List AV} {b : Addr} (hc : h.cellsAt i o n = some cs) (hb : ρ.addr[i]? = some b) :
    ∃ xs, AV.rels ρ cs xs ∧ xs.length = n ∧ ∀ (j : Nat) x, xs[j]? = some x → w.cell? ((b.add o).add j) = some x := by
  obtain ⟨hl, hget⟩ := cellsAt_cell hc
  obtain ⟨xs, h1, h2⟩ := choose_cells (w := w) (ρ := ρ) cs (b.add o) fun j v hj => by
    rw [add_add]; exact cell_sound r (hget j v hj) hb
  exact ⟨xs, h1, by rw [rels_length h1, hl], h2⟩

theorem run_sizeT {t : TypeId} {n : Nat} (hs : sizeT P t = some n) (w : World) : (sizeOf t).run P w = .ok n w := by
  unfold sizeT at hs
  cases hi : P.info? t with
  | none => simp [hi] at hs
  | some i => simp [hi] at hs; simp [sizeOf, typeInfo, hi, hs]

theorem run_zeroV {t : TypeId} {z : Value} (hs : zeroV P t = some z) (w : World) : (zeroValue t).run P w = .ok z w := by
  unfold zeroV at hs
  cases hi : P.info? t with
  | none => simp [hi] at hs
  | some i => simp [hi] at hs; simp [zeroValue, typeInfo, hi, hs]

theorem run_aggT {t : TypeId} {b : Bool} (hs : aggT P t = some b) (w : World) : (isAgg t).run P w = .ok b w := by
  unfold aggT at hs
  split at hs
  · rename_i fs hu; cases hs; simp [isAgg, run_underlying hu]
  · rename_i n e hu; cases hs; simp [isAgg, run_underlying hu]
  · rename_i d hn1 hn2 hu
    cases hs
    simp only [isAgg, Sem.run_bind, run_underlying hu, Result.andThen_ok]
    first | rfl | (split <;> simp_all)
  · cases hs

theorem run_loadVar1 (r : Rel G ρ h w) {t : TypeId} {i o : Nat} {v : AV} {b : Addr} (ht : aggT P t = some false) (hc : h.cell i o = some v) (hb : ρ.addr[i]? = some b) :
    ∃ x, (loadVar t (b.add o)).run P w = .ok x w ∧ v.rel ρ x := by
  obtain ⟨x, h1, h2⟩ := cell_sound r hc hb
  exact ⟨x, by simp [loadVar, run_aggT ht, h1], h2⟩

theorem run_loadVarN (r : Rel G ρ h w) {t : TypeId} {i o n : Nat} {cs : List AV} {b : Addr} (ht : aggT P t = some true) (hs : sizeT P t = some n) (hc : h.cellsAt i o n = some cs) (hb : ρ.addr[i]? = some b) :
    ∃ x, (loadVar t (b.add o)).run P w = .ok x w ∧ (AV.agg cs).rel ρ x := by
  obtain ⟨xs, h1, h2, h3⟩ := cellsAt_sound r hc hb
  refine ⟨.agg xs.toArray, ?_, by simp only [AV.rel]; exact ⟨xs, h1, rfl⟩⟩
  have := run_loadCells_list (P := P) w (b.add o) xs h3
  rw [h2] at this
  simp [loadVar, run_aggT ht, run_sizeT hs, this]

/-! ### Writing -/

theorem splice_get (cs : List AV) (o : Nat) (vs : List AV) (hl : o + vs.length ≤ cs.length) (j : Nat) :
    (splice cs o vs)[j]? = if j < o then cs[j]? else if j < o + vs.length then vs[j - o]? else cs[j]? := by
  unfold splice
  have hm : min o cs.length = o := by omega
  rw [List.getElem?_append, List.length_take, hm]
  split
  · rename_i h1; simp [List.getElem?_take, h1]
  · rename_i h1
    rw [List.getElem?_append]
    split
    · rename_i h2
      rw [if_pos (by omega)]
    · rename_i h2
      rw [if_neg (by omega), List.getElem?_drop]
      congr 1; omega

theorem splice_length (cs : List AV) (o : Nat) (vs : List AV) (hl : o + vs.length ≤ cs.length) : (splice cs o vs).length = cs.length := by
  simp [splice]; omega

theorem room_le {cs : List AV} {c : Array Value} {b : Nat} (hc : ∀ (j : Nat) v, cs[j]? = some v → ∃ x, c[b + j]? = some x ∧ v.rel ρ x) (h0 : cs ≠ []) : b + cs.length ≤ c.size := by
  have hp : 0 < cs.length := List.length_pos_iff.2 h0
  obtain ⟨x, h1, _⟩ := hc (cs.length - 1) cs[cs.length - 1] (List.getElem?_eq_getElem (by omega))
  have := (Array.getElem?_eq_some_iff.1 h1).1
  omega

theorem Addr.eta {b : Addr} (hs : b.spot = none) (o : Nat) : b.add o = ⟨b.block, b.off + o, none⟩ := add_spot hs o

theorem write_sound (r : Rel G ρ h w) {i o : Nat} {vs : List AV} {xs : List Value} {b : Addr} (hw : h.write i o vs = some h') (hb : ρ.addr[i]? = some b) (hx : AV.rels ρ vs xs) :
    ∃ w', (storeCells (b.add o) xs).run P w = .ok () w' ∧ Post G ρ h w ρ h' w' := by
  unfold AHeap.write at hw
  split at hw
  case h_2 => cases hw
  rename_i cs room ho
  split at hw
  case isFalse => cases hw
  rename_i hle
  cases hw
  have hlen := rels_length hx
  have hh := r.obj i _ b ho hb
  have hh' := hh
  obtain ⟨hs, c, e, h1, h2, h3⟩ := hh'
  cases hv : vs with
  | nil =>
    subst hv
    simp only [AV.rels] at hx
    subst hx
    have hsp : splice cs o [] = cs := by simp [splice]
    refine ⟨w, rfl, ?_⟩
    rw [hsp]
    exact Post.put r ho hb rfl rfl rfl rfl rfl rfl (fun _ _ => rfl) hh
  | cons v0 vr =>
    have hne : cs ≠ [] := by intro e; subst e; rw [hv] at hle; simp at hle
    have hroom := room_le h2 hne
    have hone : ∀ x ∈ xs, x.oneCell' = true := by
      intro x hxm
      obtain ⟨j, hj, rfl⟩ := List.getElem_of_mem hxm
      have hjv : j < vs.length := by omega
      obtain ⟨y, h4, h5⟩ := rels_get hx (List.getElem?_eq_getElem hjv)
      rw [List.getElem?_eq_getElem hj] at h4
      obtain rfl := Option.some.inj h4
      exact rel_one h5 (List.all_eq_true.1 hle.2 _ (List.getElem_mem hjv))
    have hst := run_storeCells_at P b.block (b.off + o) e xs 0 c w h1 (by omega) hone
    simp only [Nat.add_zero] at hst
    refine ⟨_, by rw [add_spot hs]; exact hst, ?_⟩
    rw [← hv]
    refine Post.put r ho hb rfl rfl rfl rfl rfl (by simp) (fun k hk => setRow_other w _ _ _ hk) ⟨hs, _, e, setRow_heap w _ c _ e _ h1, ?_, ?_⟩
    · intro j u hj
      rw [splice_get cs o vs hle.1] at hj
      have hcl : min (b.off + o) c.size = b.off + o := by omega
      have key : (c.toList.take (b.off + o) ++ xs ++ c.toList.drop (b.off + o + xs.length))[b.off + j]? =
          if b.off + j < b.off + o then c[b.off + j]? else if b.off + j < b.off + o + xs.length then xs[b.off + j - (b.off + o)]? else c[b.off + j]? := by
        rw [List.append_assoc, List.getElem?_append]
        simp only [List.length_take, Array.length_toList, hcl]
        split
        · rename_i hlt; simp [List.getElem?_take, hlt]
        · rename_i hlt
          rw [List.getElem?_append]
          split
          · rename_i h6
            rw [if_pos (by omega)]
          · rename_i h6
            rw [if_neg (by omega), List.getElem?_drop]
            simp only [Array.getElem?_toList]
            congr 1; omega
      simp only [List.getElem?_toArray, key]
      by_cases hjo : j < o
      · rw [if_pos hjo] at hj
        rw [if_pos (by omega)]
        exact h2 j u hj
      · rw [if_neg hjo] at hj
        rw [if_neg (by omega)]
        by_cases hjv : j < o + vs.length
        · rw [if_pos hjv] at hj
          rw [if_pos (by omega), show b.off + j - (b.off + o) = j - o by omega]
          exact rels_get hx hj
        · rw [if_neg hjv] at hj
          rw [if_neg (by omega)]
          exact h2 j u hj
    · intro k s hk
      obtain ⟨m, h4, h5⟩ := h3 k s hk
      refine ⟨m, h4, ?_⟩
      simp
      omega

theorem run_storeVar (r : Rel G ρ h w) {t : TypeId} {i o n : Nat} {v : AV} {x : Value} {b : Addr} (hs : sizeT P t = some n) (hn : v.cells.length = n) (hw : h.write i o v.cells = some h') (hb : ρ.addr[i]? = some b) (hx : v.rel ρ x) :
    ∃ w', (storeVar t (b.add o) x).run P w = .ok () w' ∧ Post G ρ h w ρ h' w' := by
  have hc := rels_cells hx
  obtain ⟨w', h1, h2⟩ := write_sound (P := P) r hw hb hc
  have hl := rels_length hc
  simp at hl
  exact ⟨w', by simp [storeVar, run_sizeT hs, hl, hn, h1], h2⟩

/-! ### New rows -/

theorem new_holds {w' : World} {cs : List AV} {c : Array Value} {e : TypeId} {b : Nat} {ρ' : Env} {room : Option (Nat × Nat)} (hw : w'.heap[b]? = some (.cells c e (0, 0)))
    (hc : ∀ (j : Nat) v, cs[j]? = some v → ∃ x, c[j]? = some x ∧ v.rel ρ' x) (hr : ∀ k s, room = some (k, s) → ∃ m, ρ'.cap[k]? = some m ∧ m * s ≤ c.size) : (AObj.cells false cs room).holds ρ' w' ⟨b, 0, none⟩ :=
  ⟨rfl, c, e, hw, fun j v hj => by simpa using hc j v hj, fun k s hk => by simpa using hr k s hk⟩

theorem push_row (r : Rel G ρ h w) {cs : List AV} {xs : List Value} (e : TypeId) (hx : AV.rels ρ cs xs) :
    Post G ρ h w ⟨ρ.addr ++ [⟨w.heap.size, 0, none⟩], ρ.cap ++ [], ρ.lit⟩ (h.push (.cells false cs none)) (w.alloc (.cells xs.toArray e)) := by
  have hp := Post.push r (o' := .cells false cs none) (w' := w.alloc (.cells xs.toArray e)) (.cells xs.toArray e) [] [] rfl (by simp) rfl rfl rfl rfl
    (new_holds (e := e) (c := xs.toArray) (heap_alloc_new w _) (fun j v hj => by
      obtain ⟨x, h1, h2⟩ := rels_get hx hj
      exact ⟨x, by simpa using h1, AV.rel_mono ⟨⟨_, rfl⟩, ⟨_, rfl⟩, ⟨[], by simp⟩⟩ _ _ h2⟩) (by intro k s hk; cases hk))
  simpa [AHeap.push] using hp

theorem new_addr (r : Rel G ρ h w) {l : List Nat} : (⟨ρ.addr ++ [⟨w.heap.size, 0, none⟩], ρ.cap ++ l, ρ.lit⟩ : Env).addr[h.objs.length]? = some ⟨w.heap.size, 0, none⟩ := by
  simp [← r.nobj]

theorem new_ptr (r : Rel G ρ h w) {l : List Nat} : (AV.ptr h.objs.length 0).rel ⟨ρ.addr ++ [⟨w.heap.size, 0, none⟩], ρ.cap ++ l, ρ.lit⟩ (.pointer (some ⟨w.heap.size, 0, none⟩)) := by
  simp only [AV.rel]
  exact ⟨_, new_addr (l := l) r, by simp [Addr.add]⟩

theorem new_slice (r : Rel G ρ h w) {l : List Nat} {n m : Nat} {c : Cap} (hc : c.is ⟨ρ.addr ++ [⟨w.heap.size, 0, none⟩], ρ.cap ++ l, ρ.lit⟩ m) : (AV.slice h.objs.length 0 n c).rel ⟨ρ.addr ++ [⟨w.heap.size, 0, none⟩], ρ.cap ++ l, ρ.lit⟩ (.slice (some ⟨w.heap.size, 0, none⟩) n m) := by
  simp only [AV.rel]
  exact ⟨_, m, new_addr (l := l) r, hc, .inl (by simp [Addr.add])⟩

end

theorem zeroT_spec {P : Program} {t : TypeId} {zs : List AV} (h : zeroT P t = some zs) : ∃ z v, zeroV P t = some z ∧ ofValue z = some v ∧ zs = v.cells := by
  unfold zeroT at h
  cases hz : zeroV P t with
  | none => simp [hz] at h
  | some z =>
    simp only [hz, Option.bind_some, Option.map_eq_some_iff] at h
    obtain ⟨v, h1, rfl⟩ := h
    exact ⟨z, v, rfl, h1, rfl⟩

theorem zeroT_cells {P : Program} {t : TypeId} {zs : List AV} (h : zeroT P t = some zs) (ρ : Env) : ∃ z, zeroV P t = some z ∧ AV.rels ρ zs z.cells.toList := by
  obtain ⟨z, v, h1, h2, rfl⟩ := zeroT_spec h
  exact ⟨z, h1, rels_cells (ofValue_rel h2)⟩

end Go.Proofs.YtblhcbmcbhoeiaaGreatDoor.Ev
end

section
/- The evaluator's operations are the model's: values, addresses, new objects. -/
namespace Go.Proofs.YtblhcbmcbhoeiaaGreatDoor.Ev
set_option linter.unusedSimpArgs false
set_option linter.unusedVariables false
set_option linter.unusedSectionVars false
set_option linter.unnecessarySimpa false
open Go

section
variable {P : Program} {G : Nat} {ρ : Env} {h h' : AHeap} {w : World} {fr : AFrame} {a : Act}

/-! ### What a value that is known must be -/

theorem rel_int {k : IntKind} {n : Int} {x : Value} (hx : (AV.int k n).rel ρ x) : x = .int k n := by simpa only [AV.rel] using hx
theorem rel_bool {b : Bool} {x : Value} (hx : (AV.bool b).rel ρ x) : x = .bool b := by simpa only [AV.rel] using hx
theorem rel_str {b : ByteArray} {x : Value} (hx : (AV.str b).rel ρ x) : x = .string b := by simpa only [AV.rel] using hx
theorem rel_ptr {i o : Nat} {x : Value} (hx : (AV.ptr i o).rel ρ x) : ∃ b, ρ.addr[i]? = some b ∧ x = .pointer (some (b.add o)) := by simpa only [AV.rel] using hx
theorem rel_agg {cs : List AV} {x : Value} (hx : (AV.agg cs).rel ρ x) : ∃ l, AV.rels ρ cs l ∧ x = .agg l.toArray := by simpa only [AV.rel] using hx
theorem rel_tuple {cs : List AV} {x : Value} (hx : (AV.tuple cs).rel ρ x) : ∃ l, AV.rels ρ cs l ∧ x = .tuple l.toArray := by simpa only [AV.rel] using hx

theorem sem_new (e : TypeId) (v : Value) : (newVar e v).run P w = .ok ⟨w.heap.size, 0, none⟩ (w.alloc (.cells v.cells e)) := by
  simp [newVar, newRow]

theorem alloc_sound (r : Rel G ρ h w) {e : TypeId} {zs : List AV} (hz : zeroT P e = some zs) :
    Runs P G ρ h w (do pure (.value (← Instr.alloc e true (.tuple #[])))) (.ptr h.objs.length 0) (h.push (.cells false zs none)) := by
  obtain ⟨z, h1, h2⟩ := zeroT_cells hz ρ
  refine ⟨_, _, _, _, ?_, .inl rfl, new_ptr (l := []) r, push_row r e h2⟩
  simp [Instr.alloc, run_zeroV h1, sem_new]

theorem box_sound (r : Rel G ρ h w) {e : TypeId} {v : AV} {x : Value} (hv : v.rel ρ x) :
    Runs P G ρ h w (do pure (.value (← Instr.box e x))) (.ptr h.objs.length 0) (h.push (.cells false v.cells none)) := by
  refine ⟨_, _, _, _, ?_, .inl rfl, new_ptr (l := []) r, push_row r e (rels_cells hv)⟩
  simp [Instr.box, sem_new]

theorem load1_sound (r : Rel G ρ h w) {t : TypeId} {i o : Nat} {v : AV} {x : Value} (hx : (AV.ptr i o).rel ρ x) (ht : aggT P t = some false) (hc : h.cell i o = some v) :
    Runs P G ρ h w (do pure (.value (← Instr.loadAt t x))) v h := by
  obtain ⟨b, hb, rfl⟩ := rel_ptr hx
  obtain ⟨y, h1, h2⟩ := run_loadVar1 (P := P) r ht hc hb
  exact Runs.val r (by simp [Instr.loadAt, Instr.sureAddr, h1]) h2

theorem loadN_sound (r : Rel G ρ h w) {t : TypeId} {i o n : Nat} {cs : List AV} {x : Value} (hx : (AV.ptr i o).rel ρ x) (ht : aggT P t = some true) (hs : sizeT P t = some n) (hc : h.cellsAt i o n = some cs) :
    Runs P G ρ h w (do pure (.value (← Instr.loadAt t x))) (.agg cs) h := by
  obtain ⟨b, hb, rfl⟩ := rel_ptr hx
  obtain ⟨y, h1, h2⟩ := run_loadVarN (P := P) r ht hs hc hb
  exact Runs.val r (by simp [Instr.loadAt, Instr.sureAddr, h1]) h2

theorem store_sound (r : Rel G ρ h w) {t : TypeId} {i o n : Nat} {v : AV} {x y : Value} (hx : (AV.ptr i o).rel ρ x) (hy : v.rel ρ y) (hs : sizeT P t = some n) (hn : v.cells.length = n) (hw : h.write i o v.cells = some h') :
    Runs P G ρ h w (do Instr.storeAt t x y; pure .skip) undefA h' := by
  obtain ⟨b, hb, rfl⟩ := rel_ptr hx
  obtain ⟨w', h1, h2⟩ := run_storeVar (P := P) r hs hn hw hb hy
  exact ⟨.skip, w', ρ, undef, by simp [Instr.storeAt, Instr.sureAddr, h1], .inr ⟨rfl, rfl⟩, undef_rel ρ, h2⟩

/-! ### Parts laid into cells -/

theorem fold_set : ∀ (vs : List Value) (k off : Nat) (cs : Array Value), off + k + vs.length ≤ cs.size →
    ((vs.zipIdx k).foldl (fun cs (c, j) => cs.setIfInBounds (off + j) c) cs).size = cs.size ∧
    ∀ j, ((vs.zipIdx k).foldl (fun cs (c, j) => cs.setIfInBounds (off + j) c) cs)[j]? = if j < off + k then cs[j]? else if j < off + k + vs.length then vs[j - (off + k)]? else cs[j]?
  | [], k, off, cs, _ => by
    refine ⟨rfl, fun j => ?_⟩
    simp only [List.zipIdx_nil, List.foldl_nil, List.length_nil, Nat.add_zero]
    split <;> rfl
  | v :: vs, k, off, cs, hl => by
    simp only [List.length_cons] at hl
    obtain ⟨h1, h2⟩ := fold_set vs (k + 1) off (cs.setIfInBounds (off + k) v) (by simp; omega)
    simp only [List.zipIdx_cons, List.foldl_cons]
    refine ⟨by rw [h1]; simp, fun j => ?_⟩
    rw [h2]
    simp only [List.length_cons]
    by_cases e : j = off + k
    · subst e
      rw [if_pos (by omega), if_neg (by omega), if_pos (by omega), Array.getElem?_setIfInBounds_self_of_lt (by omega)]
      simp
    · have hne : (cs.setIfInBounds (off + k) v)[j]? = cs[j]? := by rw [Array.getElem?_setIfInBounds_ne (fun h => e h.symm)]
      simp only [hne]
      by_cases h3 : j < off + k
      · rw [if_pos (by omega), if_pos h3]
      · rw [if_neg (by omega), if_neg h3]
        by_cases h4 : j < off + k + (vs.length + 1)
        · rw [if_pos (by omega), if_pos h4]
          obtain ⟨m, hm⟩ : ∃ m, j - (off + k) = m + 1 := ⟨j - (off + k) - 1, by omega⟩
          rw [hm, List.getElem?_cons_succ]
          congr 1; omega
        · rw [if_neg (by omega), if_neg h4]

theorem fill_part {cs : List AV} {xs : Array Value} {vs : List AV} {y : Value} {off : Nat} (hx : AV.rels ρ cs xs.toList) (hy : AV.rels ρ vs y.cells.toList) (hl : off + vs.length ≤ cs.length) :
    AV.rels ρ (splice cs off vs) (y.cells.zipIdx.foldl (fun cs (c, j) => cs.setIfInBounds (off + j) c) xs).toList := by
  have e1 := rels_length hx
  have e2 := rels_length hy
  simp at e1 e2
  have hf := fold_set y.cells.toList 0 off xs (by simp; omega)
  have hz : (y.cells.zipIdx.foldl (fun cs (c, j) => cs.setIfInBounds (off + j) c) xs) = ((y.cells.toList.zipIdx 0).foldl (fun cs (c, j) => cs.setIfInBounds (off + j) c) xs) := by
    rw [← Array.foldl_toList, Array.toList_zipIdx]
  rw [hz]
  refine rels_of (by simp [hf.1, splice_length cs off vs hl, e1]) fun j v hj => ?_
  rw [splice_get cs off vs hl] at hj
  have hj' := hf.2 j
  simp only [Nat.add_zero, Array.length_toList] at hj'
  simp only [Array.getElem?_toList, hj']
  by_cases h3 : j < off
  · rw [if_pos h3] at hj ⊢
    simpa using rels_get hx hj
  · rw [if_neg h3] at hj ⊢
    by_cases h4 : j < off + vs.length
    · rw [if_pos h4] at hj
      rw [if_pos (by omega)]
      simpa using rels_get hy hj
    · rw [if_neg h4] at hj
      rw [if_neg (by omega)]
      simpa using rels_get hx hj

theorem fill_sound (hf : AV.rels ρ fr a.tmps.toList) (hg : ∀ g, g < G → ρ.addr[g]? = some ⟨g, 0, none⟩) {place : Nat → Option (Nat × Nat)} :
    ∀ (ps : List (Nat × Operand)) (l : List ((Nat × Nat) × AOpd)) (cs cs' : List AV) (xs : Array Value),
      (l.length = ps.length ∧ ∀ (j : Nat) p q, ps[j]? = some p → l[j]? = some q → place p.1 = some q.1 ∧ compOpd G p.2 = some q.2) →
      fillA fr cs l = some cs' → AV.rels ρ cs xs.toList → ∃ ys : Array Value, Instr.fill place xs (ps.map fun p => (p.1, a.eval p.2)) = some ys ∧ AV.rels ρ cs' ys.toList
  | [], l, cs, cs', xs, hl, hfill, hx => by
    have : l = [] := List.eq_nil_of_length_eq_zero (by simpa using hl.1)
    subst this
    cases hfill
    exact ⟨xs, rfl, hx⟩
  | (i, x) :: ps, l, cs, cs', xs, hl, hfill, hx => by
    cases l with
    | nil => simp at hl
    | cons q l =>
      obtain ⟨⟨off, size⟩, y⟩ := q
      obtain ⟨hp, hc⟩ := hl.2 0 _ _ rfl rfl
      simp only at hp hc
      simp only [fillA] at hfill
      split at hfill
      case isFalse => cases hfill
      rename_i hle
      have hv := eval_rel hf hg hc
      have hcells := rels_cells hv
      have e1 := rels_length hx
      have e2 := rels_length hcells
      simp at e1 e2
      obtain ⟨ys, h1, h2⟩ := fill_sound hf hg ps l _ cs' _ ⟨by simpa using hl.1, fun j p q hp hq => hl.2 (j + 1) p q (by simpa using hp) (by simpa using hq)⟩ hfill (fill_part hx hcells (by rw [hle.1]; exact hle.2))
      refine ⟨ys, ?_, h2⟩
      simp only [List.map_cons, Instr.fill, hp]
      obtain ⟨q1, q2⟩ := hle
      rw [if_neg (by simp; omega)]
      exact h1

theorem compParts_spec {t : TypeId} : ∀ (ps : List (Nat × Operand)) (l : List ((Nat × Nat) × AOpd)), compParts P G t ps = some l →
    l.length = ps.length ∧ ∀ (j : Nat) p q, ps[j]? = some p → l[j]? = some q → placeT P t p.1 = some q.1 ∧ compOpd G p.2 = some q.2
  | [], l, hc => by cases hc; simp
  | (i, x) :: ps, l, hc => by
    simp only [compParts] at hc
    split at hc
    · rename_i p y ys h1 h2 h3
      cases hc
      obtain ⟨h4, h5⟩ := compParts_spec ps ys h3
      refine ⟨by simp [h4], fun j p q hp hq => ?_⟩
      cases j with
      | zero => simp at hp hq; subst hp; subst hq; exact ⟨h1, h2⟩
      | succ j => exact h5 j p q (by simpa using hp) (by simpa using hq)
    · cases hc

theorem compSlots_spec {s : Nat} : ∀ (ps : List (Nat × Operand)) (l : List ((Nat × Nat) × AOpd)), compSlots s G ps = some l →
    l.length = ps.length ∧ ∀ (j : Nat) p q, ps[j]? = some p → l[j]? = some q → (fun i => some (i * s, s)) p.1 = some q.1 ∧ compOpd G p.2 = some q.2
  | [], l, hc => by cases hc; simp
  | (i, x) :: ps, l, hc => by
    simp only [compSlots] at hc
    split at hc
    · rename_i y ys h2 h3
      cases hc
      obtain ⟨h4, h5⟩ := compSlots_spec ps ys h3
      refine ⟨by simp [h4], fun j p q hp hq => ?_⟩
      cases j with
      | zero => simp at hp hq; subst hp; subst hq; exact ⟨rfl, h2⟩
      | succ j => exact h5 j p q (by simpa using hp) (by simpa using hq)
    · cases hc

theorem mapM_run {α β : Type} (P : Program) (w : World) (f : α → Sem β) (g : α → β) : ∀ (l : List α), (∀ x ∈ l, (f x).run P w = .ok (g x) w) → (l.mapM f).run P w = .ok (l.map g) w
  | [], _ => by simp
  | x :: l, hl => by
    have h1 := hl x (by simp)
    have h2 := mapM_run P w f g l fun y hy => hl y (by simp [hy])
    simp [List.mapM_cons, h1, h2]

theorem amapM_run {α β : Type} (P : Program) (w : World) (f : α → Sem β) (g : α → β) (l : Array α) (hl : ∀ x ∈ l.toList, (f x).run P w = .ok (g x) w) : (l.mapM f).run P w = .ok (l.map g) w := by
  rw [Array.mapM_eq_mapM_toList]
  simp only [Sem.run_map, mapM_run P w f g l.toList hl, Result.andThen_ok]
  congr 1
  apply Array.ext'
  simp

theorem build_struct (r : Rel G ρ h w) (hf : AV.rels ρ fr a.tmps.toList) {t : TypeId} {fs : Array Field} {ps : Array (Nat × Operand)} {z cs : List AV} {l : List ((Nat × Nat) × AOpd)} (hz : zeroT P t = some z)
    (hu : P.underlying t = some (.struct fs)) (hsz : (fs.toList.all fun f => (sizeT P f.type).isSome) = true)
    (hc : compParts P G t ps.toList = some l) (he : fillA fr z l = some cs) :
    Runs P G ρ h w (do pure (.value (← Instr.build t (ps.map fun (i, x) => (i, a.eval x))))) (.agg cs) h := by
  obtain ⟨zv, h1, h2⟩ := zeroT_cells hz ρ
  obtain ⟨hl, hsp⟩ := compParts_spec ps.toList l hc
  have hm := amapM_run P w (fun f : Field => do pure (f.offset, ← sizeOf f.type)) (fun f => (f.offset, (sizeT P f.type).getD 0)) fs (fun f hfm => by
    have := List.all_eq_true.1 hsz f hfm
    obtain ⟨n, hn⟩ := Option.isSome_iff_exists.1 this
    simp [run_sizeT hn, hn])
  obtain ⟨ys, h3, h4⟩ := fill_sound hf r.glob (place := fun i => (fs.map fun f => (f.offset, (sizeT P f.type).getD 0))[i]?) ps.toList l z cs zv.cells ⟨hl, fun j p q hp hq => by
    obtain ⟨h5, h6⟩ := hsp j p q hp hq
    refine ⟨?_, h6⟩
    simp only [placeT, hu] at h5
    split at h5
    · rename_i f hfi
      simp only [Option.map_eq_some_iff] at h5
      obtain ⟨n, hn, hq1⟩ := h5
      simp [hfi, hn, hq1]
    · cases h5⟩ he h2
  refine Runs.val r (x := .agg ys) ?_ (by simp only [AV.rel]; exact ⟨ys.toList, h4, by simp⟩)
  have hmap : (ps.map fun (i, x) => (i, a.eval x)).toList = ps.toList.map fun p => (p.1, a.eval p.2) := by simp
  simp only [Instr.build, Sem.run_bind, run_zeroV h1, Result.andThen_ok, run_underlying hu, hm, hmap, h3, Sem.run_pure]

theorem build_array (r : Rel G ρ h w) (hf : AV.rels ρ fr a.tmps.toList) {t : TypeId} {n e : Nat} {ps : Array (Nat × Operand)} {z cs : List AV} {l : List ((Nat × Nat) × AOpd)} (hz : zeroT P t = some z)
    (hu : P.underlying t = some (.array n e)) (hc : compParts P G t ps.toList = some l) (he : fillA fr z l = some cs) (hsz : (sizeT P e).isSome = true) :
    Runs P G ρ h w (do pure (.value (← Instr.build t (ps.map fun (i, x) => (i, a.eval x))))) (.agg cs) h := by
  obtain ⟨zv, h1, h2⟩ := zeroT_cells hz ρ
  obtain ⟨hl, hsp⟩ := compParts_spec ps.toList l hc
  obtain ⟨s, hs⟩ := Option.isSome_iff_exists.1 hsz
  obtain ⟨ys, h3, h4⟩ := fill_sound hf r.glob (place := fun i => some (i * s, s)) ps.toList l z cs zv.cells ⟨hl, fun j p q hp hq => by
    obtain ⟨h5, h6⟩ := hsp j p q hp hq
    refine ⟨?_, h6⟩
    simp only [placeT, hu, hs, Option.map_some] at h5
    exact h5⟩ he h2
  refine Runs.val r (x := .agg ys) ?_ (by simp only [AV.rel]; exact ⟨ys.toList, h4, by simp⟩)
  have hmap : (ps.map fun (i, x) => (i, a.eval x)).toList = ps.toList.map fun p => (p.1, a.eval p.2) := by simp
  simp only [Instr.build, Sem.run_bind, run_zeroV h1, Result.andThen_ok, run_underlying hu, run_sizeT hs, hmap, h3, Sem.run_pure]

theorem rep_length (n : Nat) (z : List AV) : (rep n z).length = n * z.length := by
  induction n with
  | zero => simp [rep]
  | succ n ih => simp [rep, ih, Nat.succ_mul, Nat.add_comm]

theorem rep_get (z : List AV) : ∀ (n j : Nat), j < n * z.length → (rep n z)[j]? = z[j % z.length]?
  | 0, j, hj => by simp at hj
  | n + 1, j, hj => by
    simp only [rep]
    rw [List.getElem?_append]
    split
    · rename_i h1; rw [Nat.mod_eq_of_lt h1]
    · rename_i h1
      have hp : 0 < z.length := by
        rcases Nat.eq_zero_or_pos z.length with h0 | h0
        · rw [h0] at hj; simp at hj
        · exact h0
      have e1 := Nat.succ_mul n z.length
      have e2 : j % z.length = (j - z.length) % z.length := Nat.mod_eq_sub_mod (by omega)
      rw [rep_get z n (j - z.length) (by rw [Nat.succ_eq_add_one] at e1; omega), e2]

theorem rep_rel {z : List AV} {zv : Array Value} (hz : AV.rels ρ z zv.toList) (n : Nat) : AV.rels ρ (rep n z) ((Array.range (n * z.length)).map (zv[· % zv.size]!)).toList := by
  have hl := rels_length hz
  simp at hl
  refine rels_of (by simp [rep_length]) fun j v hj => ?_
  have hlt := (List.getElem?_eq_some_iff.1 hj).1
  rw [rep_length] at hlt
  rw [rep_get z n j hlt] at hj
  obtain ⟨x, h1, h2⟩ := rels_get hz hj
  refine ⟨x, ?_, h2⟩
  simp only [Array.getElem?_toList] at h1
  have hm := (Array.getElem?_eq_some_iff.1 h1)
  obtain ⟨hm1, hm2⟩ := hm
  have h3 : zv[j % zv.size]! = x := by rw [hl, getElem!_pos zv _ hm1]; exact hm2
  simp [hlt, h3]

/-- What a new slice of known cells is made of. -/
theorem buildSlice_run (r : Rel G ρ h w) (hf : AV.rels ρ fr a.tmps.toList) {t e : TypeId} {s len : Nat} {ps : Array (Nat × Operand)} {z cs : List AV} {l : List ((Nat × Nat) × AOpd)} (hu : P.underlying t = some (.slice e))
    (hs : sizeT P e = some s) (hz : zeroT P e = some z) (hlen : len * s ≤ 16777216) (hzs : z.length = s) (hc : compSlots s G ps.toList = some l) (he : fillA fr (rep len z) l = some cs) :
    ∃ ys : List Value, AV.rels ρ cs ys ∧ (Instr.buildSlice t len (ps.map fun (i, x) => (i, a.eval x))).run P w = .ok (.slice (some ⟨w.heap.size, 0, none⟩) len len) (w.alloc (.cells ys.toArray e)) := by
  obtain ⟨zv, h1, h2⟩ := zeroT_cells hz ρ
  have hrep := rep_rel h2 len
  rw [hzs] at hrep
  obtain ⟨ys, h3, h4⟩ := fill_sound hf r.glob (place := fun i => some (i * s, s)) ps.toList l _ cs _ (compSlots_spec ps.toList l hc) he hrep
  refine ⟨ys.toList, h4, ?_⟩
  have hmap : (ps.map fun (i, x) => (i, a.eval x)).toList = ps.toList.map fun p => (p.1, a.eval p.2) := by simp
  have h24 : ¬ (len * s > 16777216) := by omega
  by_cases h0 : len * s = 0
  · have e0 : ∀ f : Nat → Value, (Array.range (len * s)).map f = #[] := fun f => by rw [h0]; simp
    rw [e0] at h3
    simp [Instr.buildSlice, run_underlying hu, run_sizeT hs, newRow, run_zeroV h1, e0, h24, h3, h0]
    rw [show (Array.map (fun _ => (default : Value)) (Array.range 0)) = #[] by simp]
    simp [h3]
  · simp [Instr.buildSlice, run_underlying hu, run_sizeT hs, h0, newRow, run_zeroV h1, h24, h3]

theorem buildSlice_sound (r : Rel G ρ h w) (hf : AV.rels ρ fr a.tmps.toList) {t e : TypeId} {s len : Nat} {ps : Array (Nat × Operand)} {z cs : List AV} {l : List ((Nat × Nat) × AOpd)} (hu : P.underlying t = some (.slice e))
    (hs : sizeT P e = some s) (hz : zeroT P e = some z) (hlen : len * s ≤ 16777216) (hzs : z.length = s) (hc : compSlots s G ps.toList = some l) (he : fillA fr (rep len z) l = some cs) :
    Runs P G ρ h w (do pure (.value (← Instr.buildSlice t len (ps.map fun (i, x) => (i, a.eval x))))) (.slice h.objs.length 0 len (.exact len)) (h.push (.cells false cs none)) := by
  obtain ⟨zv, h1, h2⟩ := zeroT_cells hz ρ
  have hrep := rep_rel h2 len
  rw [hzs] at hrep
  obtain ⟨ys, h3, h4⟩ := fill_sound hf r.glob (place := fun i => some (i * s, s)) ps.toList l _ cs _ (compSlots_spec ps.toList l hc) he hrep
  refine ⟨_, _, _, _, ?_, .inl rfl, new_slice (l := []) r (c := .exact len) (m := len) rfl, push_row r e h4⟩
  have hmap : (ps.map fun (i, x) => (i, a.eval x)).toList = ps.toList.map fun p => (p.1, a.eval p.2) := by simp
  have h24 : ¬ (len * s > 16777216) := by omega
  by_cases h0 : len * s = 0
  · have e0 : ∀ f : Nat → Value, (Array.range (len * s)).map f = #[] := fun f => by rw [h0]; simp
    rw [e0] at h3
    simp [Instr.buildSlice, run_underlying hu, run_sizeT hs, newRow, run_zeroV h1, e0, h24, h3, h0]
    rw [show (Array.map (fun _ => (default : Value)) (Array.range 0)) = #[] by simp]
    simp [h3]
  · simp [Instr.buildSlice, run_underlying hu, run_sizeT hs, h0, newRow, run_zeroV h1, h24, h3]

end

end Go.Proofs.YtblhcbmcbhoeiaaGreatDoor.Ev
end
