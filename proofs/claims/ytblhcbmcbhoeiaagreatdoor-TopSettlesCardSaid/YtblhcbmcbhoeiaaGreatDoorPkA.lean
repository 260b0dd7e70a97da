/- Part 1 of the proof. -/
import Derived.Calls
import Derived.LoopN
import Derived.Orders
import Derived.Laws.Sem
import Derived.Laws.World
import Derived.Laws.Cells
import Derived.Laws.NewBlocks
import Derived.Laws.Rows
import Derived.Laws.Append
import Derived.Laws.Slices
import Derived.Laws.AppendOwn
import Derived.Laws.CopyRow
import Derived.Laws.MakeOwn
import Derived.Laws.StructEq
import Derived.Laws.Small
import Derived.Laws.Cover1
import Derived.Conc.MuLone
import Derived.Laws.Strings
import Derived.MapKept
set_option linter.all false
set_option maxRecDepth 100000
namespace Go.Proofs.YtblhcbmcbhoeiaaGreatDoor
open Go
def aa:=@List.getElem?_eq_some_iff
def ad:=@List.getElem?_cons_zero
def ae:=@Option.map_eq_some_iff
def ah:=@List.getElem?_eq_getElem
def ai:=@Option.some.injEq
def aj:=@List.getElem?_set_ne
def an:=@Prod.mk.injEq
def aq:=@Nat.le_refl
def au:=@Array.getElem?_eq_some_iff
def av:=@List.getElem?_cons_succ
def aw:=@Option.some.inj
def ax:=@List.getElem?_set_self
def ay:=@List.getElem?_append_left
def aA:=@Bool.and_eq_true
def aB:=@List.getElem?_append_right
def aC:=@Int.toNat_natCast
def aD:=@List.mem_cons
def aE:=@Array.getD_eq_getD_getElem?
def aF:=@Bool.false_eq_true
def aG:=@List.eq_nil_of_length_eq_zero
def aH:=@Int.toNat_of_nonneg
def aI:=@List.getElem?_take_of_lt
def aM:=@List.length_append
def aN:=@List.getElem?_drop
def aO:=@List.getD_eq_getElem?_getD
def aP:=@Array.getElem?_setIfInBounds_ne
def aQ:=@List.all_eq_true
def aR:=@List.map_cons
def aV:=@List.getElem?_eq_none
def aW:=@List.take_of_length_le
def aY:=@Ne.symm
def bc:=@List.count_pos_iff
def bd:=@List.mem_append
def bn:=@List.length_cons
def bp:=@List.mem_append_left
def bq:=@List.count_append
def bt:=@Array.getElem?_toList
def bw:=@List.length_nil
def bH:=@Nat.lt_or_ge
def bL:=@Nat.mod_eq_of_lt
def bQ:=@List.mem_map_of_mem
def bR:=@List.count_cons
def bS:=@List.getElem?_replicate
def bU:=@Array.getElem?_eq_getElem
def bV:=@List.length_set
def bX:=@Int.tmod_eq_emod_of_nonneg
def bZ:=@List.filter_cons
def cf:=@List.mem_append_right
def cq:=@Nat.lt_of_lt_of_le
def cv:=@List.getElem?_take
def cw:=@Bool.or_eq_true
def cx:=@Nat.shiftRight_eq_div_pow
def cH:=@List.mem_cons_of_mem
def cI:=@BitVec.ofInt_natCast
def cJ:=@List.nil_append
def cS:=@Nat.add_mul
def cU:=@Classical.byContradiction
def cW:=@List.mem_of_getElem?
def cX:=@List.append_assoc
def dc:=@Or.inl
def dd:=@Nat.eq_zero_or_pos
def de:=@BitVec.toNat_ofNat
def dh:=@Nat.testBit_two_pow_mul_add
def dk:=@Nat.le_trans
def dp:=@Option.bind_eq_some_iff
def dq:=@List.mem_range
def dt:=@List.ext_getElem?
def dx:=@Or.inr
def dy:=@Nat.succ_mul
def dC:=@Bool.or_false
def dD:=@Array.length_toList
def dI:=@Option.getD_some
def dJ:=@Nat.add_zero
def dN:=@List.drop_zero
def dS:=@List.length_map
def dZ:=@List.length_take
def eg:=@List.length_drop
def ej:=@List.getElem?_append
def eT:=@List.map_nil
def eU:=@List.getElem?_set
def eV:=@Int.emod_eq_of_lt
def eX:=@List.length_pos_iff
def eY:=@List.getElem_of_mem
def fj:=@Option.map_some
def ft:=@List.length_singleton
def fu:=@List.contains_iff_mem
def fz:=@List.any_eq_true
def fI:=@Nat.add_assoc
def fJ:=@Nat.mul_le_mul_right
def fL:=@Bool.not_false
def fP:=@List.size_toArray
def fQ:=@Bool.not_eq_true'
def gb:=@List.take_succ_cons
def gh:=@Nat.zero_add
def gk:=@List.mem_map
def gy:=@Nat.and_le_right
def gB:=@List.take_length
def gE:=@List.count_eq_zero
def gF:=@Int.tdiv_eq_ediv_of_nonneg
def gI:=@List.getElem?_toArray
def gY:=@List.nodup_append
def gZ:=@List.getElem?_map
def hH:=@Bool.or_eq_false_iff
def ik:=@List.all_cons
def im:=@Bool.not_true
def iU:=@List.pairwise_cons
def iV:=@List.mem_singleton
def iW:=@List.filter_append
def iX:=@Iff.rfl
def jh:=@List.nodup_cons
def ji:=@Array.getElem?_setIfInBounds
def jt:=@List.any_eq_false
def jI:=@Nat.le_of_mul_le_mul_right
def jJ:=@Nat.eq_of_testBit_eq
def jZ:=@Nat.le_of_not_lt
def j5:=@Nat.add_comm
def j6:=@List.getElem_mem
def kv:=@List.getElem?_range
def kB:=@Array.toList_modify
def kQ:=@Nat.min_eq_left
def kR:=@List.mem_filter
def lh:=@Nat.xor_lt_two_pow
def lp:=@Nat.lt_of_le_of_lt
def lq:=@List.find?_eq_none
def lG:=@Nat.zero_le
def lH:=@Nat.mul_one
def mq:=@List.take_succ_eq_append_getElem
def mr:=@List.flatten_cons
def mu:=@List.drop_drop
def mw:=@Int.ofNat_tdiv
def mX:=@List.mem_iff_getElem?
def mY:=@List.countP_eq_length
def nO:=@Nat.le_max_right
def nP:=@List.cons_append
def nR:=@Array.ext'
def oE:=@List.count_singleton
def oO:=@Nat.le_max_left
def oP:=@List.map_append
def oQ:=@List.countP_eq_length_filter
def oR:=@Int.emod_nonneg
def oS:=@List.countP_eq_zero
def oT:=@Array.getElem?_push
def pM:=@Nat.sub_zero
def qp:=@Nat.mul_le_mul
def qq:=@Nat.mul_div_cancel
def qs:=@Int.ofNat_zero
def qt:=@Int.emod_lt_of_pos
def qu:=@Array.ext_getElem?
def rD:=@Nat.lt_trichotomy
def sZ:=@Option.isSome_iff_exists
def tc:=@Nat.lt_succ_iff_lt_or_eq
def td:=@Array.getElem?_replicate
def uq:=@Option.bind_some
def ur:=@Nat.le_add_right
def uv:=@List.eraseP_cons
def uw:=@List.countP_cons
def vH:=@Nat.mul_succ
def vI:=@List.map_set
def vJ:=@List.drop_of_length_le
def vK:=@Bool.or_true
def wB:=@Nat.two_pow_pos
def wC:=@List.filter_nil
def yK:=@List.length_filter_le
def Ac:=@Nat.pow_lt_pow_right
def Ad:=@Nat.pow_le_pow_right
def Ae:=@List.take_eq_nil_iff
def Af:=@List.range_eq_range'
def Ag:=@List.length_eraseIdx
def Ah:=@Bool.and_false
def Ai:=@Array.replicate_zero
def Aj:=@Array.replicate_succ
def Dj:=@Nat.mul_le_mul_left
def Dk:=@Nat.and_mod_two_pow
def Dl:=@List.replicate_succ
def Dm:=@List.mergeSort_perm
def Dn:=@List.map_eq_nil_iff
def Dp:=@List.drop_succ_cons
def Dq:=@List.append_toArray
def Dt:=@Bool.false_or
def Du:=@Bool.and_true
def HI:=@Nat.zero_mul
def HJ:=@Nat.sub_self
def HK:=@Nat.le_of_eq
def HL:=@List.take_add_one
def HM:=@List.reverse_cons
def HN:=@List.push_toArray
def HO:=@List.length_range
end Go.Proofs.YtblhcbmcbhoeiaaGreatDoor
namespace Go.Proofs.YtblhcbmcbhoeiaaGreatDoor.Ev
open Go
section
inductive Cap where
 | exact (c:Nat)
 | loose (k d:Nat)
 deriving DecidableEq,Inhabited
inductive AV where
 | bool (b:Bool)
 | int (k:IntKind) (n:Int)
 | str (s:ByteArray)
 | nilptr
 | ptr (i o:Nat)
 | nilslice
 | slice (i o n:Nat) (c:Cap)
 | lit (cs:List AV)
 | nilmap
 | map (i:Nat)
 | func (f:Nat) (first cap:List AV)
 | nilfunc
 | niliface
 | agg (cs:List AV)
 | tuple (vs:List AV)
 deriving Inhabited
mutual
def AV.beq:AV->AV->Bool
 | .bool a,.bool b=>a == b
 | .int j a,.int k b=>decide (j=k) && decide (a=b)
 | .str a,.str b=>decide (a=b)
 | .nilptr,.nilptr=>true
 | .ptr i o,.ptr j p=>decide (i=j) && decide (o=p)
 | .nilslice,.nilslice=>true
 | .slice i o n c,.slice j p m d=>decide (i=j) && decide (o=p) && decide (n=m) && decide (c=d)
 | .nilmap,.nilmap=>true
 | .map i,.map j=>decide (i=j)
 | .func f a b,.func g c d=>decide (f=g) && AV.beqs a c && AV.beqs b d
 | .nilfunc,.nilfunc=>true
 | .niliface,.niliface=>true
 | .lit a,.lit b=>AV.beqs a b
 | .agg a,.agg b=>AV.beqs a b
 | .tuple a,.tuple b=>AV.beqs a b
 | _,_=>false
def AV.beqs:List AV->List AV->Bool
 | [],[]=>true
 | a::as,b::bs=>AV.beq a b && AV.beqs as bs
 | _,_=>false
end
mutual
theorem AV.beq_iff:∀ a b:AV,AV.beq a b=true↔a=b
 | a,b=>by cases a<;>cases b<;>simp [AV.beq,AV.tj,and_assoc]
theorem AV.tj:∀ a b:List AV,AV.beqs a b=true↔a=b
 | [],b=>by cases b<;>simp [AV.beqs]
 | x::xs,b=>by
  cases b with
  | nil=>simp [AV.beqs]
  | cons y ys=>simp [AV.beqs,AV.beq_iff x y,AV.tj xs ys]
end
instance:DecidableEq AV:=fun a b=>decidable_of_iff _ (AV.beq_iff a b)
def AV.cells:AV->List AV
 | .agg cs=>cs
 | v=>[v]
def undefA:AV:=.tuple []
def AV.one:AV->Bool
 | .agg _ | .tuple _=>false
 | _=>true
inductive AObj where
 | dead
 | cells (ro:Bool) (cs:List AV) (room:Option (Nat×Nat))
 | map (es:List (AV×AV)) (bs:List Nat) (ck:Nat)
 deriving Inhabited
structure AHeap where
 objs:List AObj
 caps:List Nat
 deriving Inhabited
def AHeap.push (h:AHeap) (o:AObj):AHeap:=⟨h.objs++[o],h.caps⟩
def AHeap.put (h:AHeap) (i:Nat) (o:AObj):AHeap:=⟨h.objs.set i o,h.caps⟩
def AHeap.row (h:AHeap) (i:Nat):Option (List AV):=
 match h.objs[i]? with
 | some (.cells _ cs _)=>some cs
 | _=>none
def AHeap.cell (h:AHeap) (i o:Nat):Option AV:=(h.row i).bind fun cs=>cs[o]?
def AHeap.jc (h:AHeap) (i o n:Nat):Option (List AV):=
 (h.row i).bind fun cs=>if o+n<=cs.length then some ((cs.drop o).take n) else none
def splice (cs:List AV) (o:Nat) (vs:List AV):List AV:=cs.take o++(vs++cs.drop (o+vs.length))
def AHeap.write (h:AHeap) (i o:Nat) (vs:List AV):Option AHeap:=
 match h.objs[i]? with
 | some (.cells false cs room)=>if o+vs.length<=cs.length/\vs.all AV.one then some (h.put i (.cells false (splice cs o vs) room)) else none
 | _=>none
inductive AOpd where
 | tmp (t:Nat)
 | const (v:AV)
 | glob (g:Nat)
 | func (f:Nat)
 deriving Inhabited
abbrev AFrame:=List AV
def AFrame.eval (fr:AFrame):AOpd->AV
 | .tmp t=>fr.getD t undefA
 | .const v=>v
 | .glob g=>.ptr g 0
 | .func f=>.func f [] []
def AFrame.putD (fr:AFrame):Option Nat->AV->AFrame
 | some d,v=>fr.set d v
 | none,_=>fr
inductive AOp where
 | mv (x:AOpd)
 | pick (c a b:AOpd)
 | alloc (z:List AV)
 | box (x:AOpd)
 | build (z:List AV) (ps:List ((Nat×Nat)×AOpd))
 | buildSlice (z:List AV) (len:Nat) (ps:List ((Nat×Nat)×AOpd))
 | load1 (a:AOpd)
 | loadN (n:Nat) (a:AOpd)
 | store (n:Nat) (a x:AOpd)
 | nilCheck (x:AOpd)
 | bin (op:BinOp) (x y:AOpd)
 | cmpNil (neg:Bool) (k:Nat) (x y:AOpd)
 | eqBool (neg:Bool) (x y:AOpd)
 | un (op:UnOp) (x:AOpd)
 | toInt (k:IntKind) (x:AOpd)
 | mkfunc (f:Nat) (first cap:List AOpd)
 | mkmap
 | mkslice (size bytes:Nat) (z:List AV) (l c:AOpd)
 | slc (size:Nat) (arr:Option Nat) (x:AOpd) (lo hi mx:Option AOpd)
 | fieldAddr (off:Nat) (x:AOpd)
 | field1 (off:Nat) (x:AOpd)
 | idxAddr (size:Nat) (arr:Option Nat) (x i:AOpd)
 | extract (k:Nat) (x:AOpd)
 | lenS (x:AOpd)
 | lenM (x:AOpd)
 | append (size bytes:Nat) (z:List AV) (s x:AOpd)
 | clearS (size:Nat) (z:List AV) (x:AOpd)
 | max2 (x y:AOpd)
 | min2 (x y:AOpd) | min3 (x y z:AOpd)
 | lookup (z:AV) (ok:Bool) (x i:AOpd)
 | mapUpdate (m k x:AOpd)
 | delete (m k:AOpd)
 | nat (k:Nat) (x y:AOpd)
 | call (f:Nat) (args:List AOpd)
 | callv (x:AOpd) (args:List AOpd)
 deriving Inhabited
def di (op:BinOp) (x y:AV):Option AV:=
 match op,x,y with
 | .shl,.int k a,.int _ b=>if 0<=b then some (.int k (k.wrap (a*2 ^ (min b.toNat k.bits)))) else none
 | .shr,.int k a,.int _ b=>if 0<=b then some (.int k (a.fdiv (2 ^ (min b.toNat k.bits)))) else none
 | .add,.int k a,.int k' b=>if k=k' then some (.int k (k.wrap (a+b))) else none
 | .sub,.int k a,.int k' b=>if k=k' then some (.int k (k.wrap (a-b))) else none
 | .mul,.int k a,.int k' b=>if k=k' then some (.int k (k.wrap (a*b))) else none
 | .quo,.int k a,.int k' b=>if k=k'/\b≠0 then some (.int k (k.wrap (a.tdiv b))) else none
 | .rem,.int k a,.int k' b=>if k=k'/\b≠0 then some (.int k (a.tmod b)) else none
 | .and,.int k a,.int k' b=>if k=k' then some (.int k (k.wrap ((BitVec.ofInt k.bits a &&& BitVec.ofInt k.bits b).toNat))) else none
 | .or,.int k a,.int k' b=>if k=k' then some (.int k (k.wrap ((BitVec.ofInt k.bits a ||| BitVec.ofInt k.bits b).toNat))) else none
 | .xor,.int k a,.int k' b=>if k=k' then some (.int k (k.wrap ((BitVec.ofInt k.bits a ^^^ BitVec.ofInt k.bits b).toNat))) else none
 | .andNot,.int k a,.int k' b=>if k=k' then some (.int k (k.wrap ((BitVec.ofInt k.bits a &&& ~~~ BitVec.ofInt k.bits b).toNat))) else none
 | .eql,.int k a,.int k' b=>if k=k' then some (.bool (a == b)) else none
 | .neq,.int k a,.int k' b=>if k=k' then some (.bool (a != b)) else none
 | .lss,.int k a,.int k' b=>if k=k' then some (.bool (decide (a<b))) else none
 | .leq,.int k a,.int k' b=>if k=k' then some (.bool (decide (a<=b))) else none
 | .gtr,.int k a,.int k' b=>if k=k' then some (.bool (decide (a>b))) else none
 | .geq,.int k a,.int k' b=>if k=k' then some (.bool (decide (a>=b))) else none
 | .eql,.str a,.str b=>some (.bool (a.toList == b.toList))
 | .neq,.str a,.str b=>some (.bool (!(a.toList == b.toList)))
 | _,_,_=>none
def AV.isNil:Nat->AV->Option Bool
 | 0,.nilptr | 1,.nilslice | 2,.nilmap | 3,.nilfunc=>some true
 | 0,.ptr .. | 1,.slice .. | 2,.map .. | 3,.func ..=>some false
 | _,_=>none
def He:Nat->AV->AV->Option Bool
 | 0,.int j a,.int k b=>if j=k then some (a == b) else none
 | 1,.bool a,.bool b=>some (a == b)
 | 2,.str a,.str b=>some (a.toList == b.toList)
 | _,_,_=>none
def eqAt (xs ys:List AV):List (Nat×Nat)->Option Bool
 | []=>some true
 | (o,k)::r=>
  match xs[o]?,ys[o]? with
  | some x,some y=>
   match He k x y with
   | some true=>eqAt xs ys r
   | some false=>some false
   | none=>none
  | _,_=>none
def Ue (op:UnOp) (x:AV):Option AV:=
 match op,x with
 | .neg,.int k n=>some (.int k (k.wrap (0-n)))
 | .not,.bool b=>some (.bool !b)
 | .xor,.int k n=>some (.int k (k.wrap ((BitVec.ofInt k.bits (if k.signed then -1 else k.max) ^^^ BitVec.ofInt k.bits n).toNat)))
 | _,_=>none
def kr (ev:AOpd->AV):List AV->List ((Nat×Nat)×AOpd)->Option (List AV)
 | cs,[]=>some cs
 | cs,((off,size),x)::r=>let vs:=(ev x).cells;if vs.length=size/\off+size<=cs.length then kr ev (splice cs off vs) r else none
def AV.nat:AV->Option Nat
 | .int _ n=>if 0<=n then some n.toNat else none
 | _=>none
def AHeap.within (h:AHeap) (n:Nat):Cap->Bool
 | .exact c=>n<=c
 | .loose k d=>match h.caps[k]? with | some lb=>n+d<=lb | none=>false
def Cap.less (l:Nat):Cap->Cap
 | .exact c=>.exact (c-l)
 | .loose k d=>.loose k (d+l)
def endV (d:Nat):Option AV->Option Nat
 | some v=>v.nat
 | none=>some d
def slcV (h:AHeap) (size:Nat) (arr:Option Nat) (x:AV) (lo hi mx:Option AV):Option AV:=
 match endV 0 lo with
 | none=>none
 | some l=>
  match arr,x with
  | none,.nilslice=>
   match endV 0 hi with
   | some hh=>if l=0/\hh=0/\endV 0 mx=some 0 then some .nilslice else none
   | none=>none
  | none,.slice i o n c=>
   match endV n hi with
   | none=>none
   | some hh=>
    match mx with
    | none=>
     if l<=hh/\h.within hh c then
      (match c with
      | .exact m=>some (.slice i (if m=l then o else o+l*size) (hh-l) (.exact (m-l)))
      | .loose ..=>some (.slice i (o+l*size) (hh-l) (c.less l)))
     else none
    | some v=>
     match v.nat with
     | some m=>if l<=hh/\hh<=m/\h.within m c then some (.slice i (if m=l then o else o+l*size) (hh-l) (.exact (m-l))) else none
     | none=>none
  | some n,.ptr i o=>
   match endV n hi with
   | some hh=>if l<=hh/\hh<=n/\mx.isNone then some (.slice i (if n=l then o else o+l*size) (hh-l) (.exact (n-l))) else none
   | none=>none
  | _,_=>none
def idxAddrV (size:Nat) (arr:Option Nat) (x i:AV):Option AV:=
 match arr,x,i with
 | none,.slice b o n _,.int _ j=>if 0<=j/\j<n then some (.ptr b (o+j.toNat*size)) else none
 | some n,.ptr b o,.int _ j=>if 0<=j/\j<n then some (.ptr b (o+j.toNat*size)) else none
 | _,_,_=>none
def firstCellsA (h:AHeap) (size n:Nat):AV->Option (List AV)
 | .nilslice=>if n=0 then some [] else none
 | .slice i o m _=>if n=0 then some [] else if n<=m then h.jc i o (n*size) else none
 | .lit cs=>if size=1/\n=cs.length then some cs else none
 | _=>none
def AV.gP:AV->Option Nat
 | .nilslice=>some 0
 | .slice _ _ n _=>some n
 | .lit cs=>some cs.length
 | _=>none
def bigA:Nat:=70368744177664
def dT (h:AHeap) (size bytes:Nat) (s x:AV):Option (AV×AHeap):=
 match s.gP,x.gP with
 | some n,some m=>
  match firstCellsA h size m x with
  | none=>none
  | some news=>
   if (n+m)*bytes<=bigA/\n+m<=bigA/\news.all AV.one then
    match s with
    | .nilslice=>if m=0 then some (.nilslice,h) else some (.slice h.objs.length 0 m (.loose h.caps.length 0),⟨h.objs++[.cells false news (some (h.caps.length,size))],h.caps++[m]⟩)
    | .slice i o _ c=>
     if h.within (n+m) c then
      (if m=0 then some (.slice i o n c,h) else (h.write i (o+n*size) news).map fun h'=>(.slice i o (n+m) c,h'))
     else
      match c with
      | .exact c=>if c<n+m then (firstCellsA h size n s).map fun olds=>(.slice h.objs.length 0 (n+m) (.loose h.caps.length 0),⟨h.objs++[.cells false (olds++news) (some (h.caps.length,size))],h.caps++[n+m]⟩) else none
      | .loose k d=>
       match h.objs[i]? with
       | some (.cells false cs (some (k',s')))=>
        if k'=k/\s'=size/\o=d*size/\o+n*size<=cs.length then
         some (.slice h.objs.length 0 (n+m) (.loose h.caps.length 0),⟨h.objs.set i .dead++[.cells false ((cs.drop o).take (n*size)++news) (some (h.caps.length,size))],h.caps++[n+m]⟩)
        else none
       | _=>none
    | _=>none
   else none
 | _,_=>none
def rep (n:Nat) (z:List AV):List AV:=
 match n with
 | 0=>[]
 | n+1=>z++rep n z
def clearV (h:AHeap) (size:Nat) (z:List AV):AV->Option (AV×AHeap)
 | .nilslice=>some (.tuple [],h)
 | .slice i o n _=>if n=0 then some (.tuple [],h) else if z.length=size then (h.write i o (rep n z)).map fun h'=>(.tuple [],h') else none
 | _=>none
def hU:AV->AV->Option Bool
 | .int j a,.int k b=>if j=k then some (a == b) else none
 | .str a,.str b=>some (a == b)
 | _,_=>none
def findA (k:AV):List (AV×AV)->Option (Option AV)
 | []=>some none
 | e::r=>
  match hU k e.1 with
  | some true=>some (some e.2)
  | some false=>findA k r
  | none=>none
def updA (k v:AV):List (AV×AV)->Option (List (AV×AV))
 | []=>some [(k,v)]
 | e::r=>
  match hU k e.1 with
  | some true=>some ((e.1,v)::r)
  | some false=>(updA k v r).map (e::·)
  | none=>none
def posA (k:AV):List (AV×AV)->Nat
 | []=>0
 | e::r=>if hU k e.1=some true then 0 else posA k r+1
def pt (x y:AV):Option AV:=
 match x,y with
 | .int k a,.int k' b=>if k=k' then some (.int k (if b>a then b else a)) else none
 | _,_=>none
def kM (x y:AV):Option AV:=
 match x,y with
 | .int k a,.int k' b=>if k=k' then some (.int k (if b<a then b else a)) else none
 | _,_=>none
def updateA (h:AHeap) (j:Nat) (k v:AV) (es:List (AV×AV)) (bs:List Nat) (ck:Nat):Option (AV×AHeap):=
 match findA k es,updA k v es with
 | some (some _),some es'=>some (undefA,h.put j (.map es' bs ck))
 | some none,some es'=>some (undefA,h.put j (.map es' (bs++[ck]) (ck+1)))
 | _,_=>none
def deleteA (h:AHeap) (j:Nat) (k:AV) (es:List (AV×AV)) (bs:List Nat) (ck:Nat):Option (AV×AHeap):=
 match findA k es with
 | some (some _)=>some (.tuple [],h.put j (.map (es.eraseIdx (posA k es)) (bs.eraseIdx (posA k es)) ck))
 | some none=>some (.tuple [],h.put j (.map es bs ck))
 | none=>none
def AV.isI64:AV->Bool
 | .int .i64 _=>true
 | _=>false
def anyReadyA:List (AV×AV)->Option Bool
 | []=>some false
 | e::l=>match e.2,anyReadyA l with
  | .agg [.int .i64 _,.bool a,.bool b],some r=>some ((a && b) || r)
  | _,_=>none
def fh (bs:List Nat) (ck:Nat):Bool:=decide bs.Nodup && bs.all (fun b=>decide (b<ck))
def keys16A:List (AV×AV)->Option (List Int)
 | []=>some []
 | e::l=>match e.1,keys16A l with
  | .int .u16 n,some r=>some (n::r)
  | _,_=>none
def eW (es:List (AV×AV)):Bool:=es.all fun e=>match e.1 with | .int .i64 _=>true | _=>false
def natA (h:AHeap) (k:Nat) (x y:AV):Option (AV×AHeap):=
 match k,x with
 | 0,.map j=>match h.objs[j]? with
  | some (.map es bs ck)=>if fh bs ck=true then (anyReadyA es).map fun b=>(.bool b,h) else none
  | _=>none
 | 1,.map j=>match h.objs[j]? with
  | some (.map es bs ck)=>some (.map h.objs.length,h.push (.map es bs ck))
  | _=>none
 | 2,.map j=>match y with
  | .map i=>match h.objs[i]?,h.objs[j]? with
   | some (.map es bs ck),some (.map es2 _ _)=>if fh bs ck=true/\i≠j/\eW es=true/\eW es2=true then some (undefA,h.put j .dead) else none
   | _,_=>none
  | _=>none
 | 3,.func f [] [.ptr c o]=>match h.cell c o,y with
  | some (.map j),.int _ n=>match h.objs[j]? with
   | some (.map [] _ _)=>if n=(f:Int) then some (.nilslice,h) else none
   | _=>none
  | _,_=>none
 | 4,.func f [] [.ptr c o]=>match h.cell c o,y with
  | some (.map j),.int _ n=>match h.objs[j]? with
   | some (.map es bs ck)=>if n=(f:Int)/\fh bs ck=true/\es.length<=1000000 then match keys16A es with
    | some []=>some (.nilslice,h)
    | some l=>some (.slice h.objs.length 0 l.length (.loose h.caps.length 0),⟨h.objs++[.cells false ((l.mergeSort (fun a b=>decide (a<=b))).map (.int .u16 ·)) (some (h.caps.length,1))],h.caps++[l.length]⟩)
    | none=>none
    else none
   | _=>none
  | _,_=>none
 | 6,.str s=>match y with
  | .int _ n=>if 0<=n then (s.data[n.toNat]?).map fun b=>(.int .u8 (b.toNat:Int),h) else none
  | _=>none
 | 5,x=>match y with
  | .agg z=>if x.cells.length=z.length/\x.cells.all AV.one=true then some (.ptr h.objs.length 0,h.push (.cells false x.cells none)) else none
  | _=>none
 | _,_=>none
def evOpE (ev:AOpd->AV) (o:AOp) (h:AHeap):Option (AV×AHeap):=
 match o with
 | .mv x=>some (ev x,h)
 | .pick c a b=>match ev c with | .bool t=>some (if t then ev a else ev b,h) | _=>none
 | .alloc z=>some (.ptr h.objs.length 0,h.push (.cells false z none))
 | .box x=>some (.ptr h.objs.length 0,h.push (.cells false (ev x).cells none))
 | .build z ps=>(kr ev z ps).map fun cs=>(.agg cs,h)
 | .buildSlice z len ps=>(kr ev z ps).map fun cs=>(.slice h.objs.length 0 len (.exact len),h.push (.cells false cs none))
 | .load1 a=>match ev a with | .ptr i o=>(h.cell i o).map fun v=>(v,h) | _=>none
 | .loadN n a=>match ev a with | .ptr i o=>(h.jc i o n).map fun cs=>(.agg cs,h) | _=>none
 | .store n a x=>match ev a with
  | .ptr i o=>if (ev x).cells.length=n then (h.write i o (ev x).cells).map fun h'=>(undefA,h') else none
  | _=>none
 | .nilCheck x=>match ev x with | .ptr i o=>some (.ptr i o,h) | .func f a b=>some (.func f a b,h) | _=>none
 | .bin op x y=>(di op (ev x) (ev y)).map fun v=>(v,h)
 | .cmpNil neg k x y=>match (ev x).isNil k,(ev y).isNil k with
  | some a,some true=>some (.bool (if neg then !a else a),h)
  | some true,some b=>some (.bool (if neg then !b else b),h)
  | _,_=>none
 | .eqBool neg x y=>match ev x,ev y with | .bool a,.bool b=>some (.bool (if neg then !(a == b) else a == b),h) | _,_=>none
 | .un op x=>(Ue op (ev x)).map fun v=>(v,h)
 | .toInt k x=>match ev x with | .int _ n=>some (.int k (k.wrap n),h) | _=>none
 | .mkfunc f a b=>some (.func f (a.map ev) (b.map ev),h)
 | .mkmap=>some (.map h.objs.length,h.push (.map [] [] 0))
 | .mkslice size bytes z l c=>match ev l,ev c with
  | .int _ n,.int _ m=>if 0<=n/\n<=m/\m*bytes<=bigA/\m<=bigA/\z.length=size then some (.slice h.objs.length 0 n.toNat (.exact m.toNat),h.push (.cells false (rep m.toNat z) none)) else none
  | _,_=>none
 | .slc size arr x lo hi mx=>(slcV h size arr (ev x) (lo.map ev) (hi.map ev) (mx.map ev)).map fun v=>(v,h)
 | .fieldAddr off x=>match ev x with | .ptr i o=>some (.ptr i (o+off),h) | _=>none
 | .field1 off x=>match ev x with | .agg cs=>(cs[off]?).map fun v=>(v,h) | _=>none
 | .idxAddr size arr x i=>(idxAddrV size arr (ev x) (ev i)).map fun v=>(v,h)
 | .extract k x=>match ev x with | .tuple vs=>(vs[k]?).map fun v=>(v,h) | _=>none
 | .lenS x=>match (ev x).gP with | some n=>some (.int .i64 (n:Nat),h) | none=>none
 | .lenM x=>match ev x with
  | .nilmap=>some (.int .i64 0,h)
  | .map i=>match h.objs[i]? with | some (.map es _ _)=>some (.int .i64 es.length,h) | _=>none
  | _=>none
 | .append size bytes _ s x=>dT h size bytes (ev s) (ev x)
 | .clearS size z x=>clearV h size z (ev x)
 | .max2 x y=>(pt (ev x) (ev y)).map fun v=>(v,h)
 | .min2 x y=>(kM (ev x) (ev y)).map fun v=>(v,h)
 | .min3 x y z=>((kM (ev x) (ev y)).bind (kM · (ev z))).map fun v=>(v,h)
 | .lookup z ok x i=>match ev i with
  | .int kj kn=>match ev x with
   | .nilmap=>some (if ok then .tuple [z,.bool false] else z,h)
   | .map j=>match h.objs[j]? with
    | some (.map es _ _)=>match findA (.int kj kn) es with
     | some (some v)=>some (if ok then .tuple [v,.bool true] else v,h)
     | some none=>some (if ok then .tuple [z,.bool false] else z,h)
     | none=>none
    | _=>none
   | _=>none
  | _=>none
 | .mapUpdate m k x=>match ev k with
  | .int kj kn=>match ev m with
   | .map j=>match h.objs[j]? with
    | some (.map es bs ck)=>updateA h j (.int kj kn) (ev x) es bs ck
    | _=>none
   | _=>none
  | _=>none
 | .delete m k=>match ev k with
  | .int kj kn=>match ev m with
   | .map j=>match h.objs[j]? with
    | some (.map es bs ck)=>deleteA h j (.int kj kn) es bs ck
    | _=>none
   | _=>none
  | _=>none
 | .nat k x y=>natA h k (ev x) (ev y)
 | .call .. | .callv ..=>none
abbrev evOp (o:AOp) (fr:AFrame) (h:AHeap):Option (AV×AHeap):=evOpE fr.eval o h
structure aK where
 dst:Option Nat
 op:AOp
 guard:Option (Nat×Bool)
 deriving Inhabited
abbrev cT:=Nat->List AV->AHeap->Option (AV×AHeap)
def evAny (call:cT) (o:AOp) (fr:AFrame) (h:AHeap):Option (AV×AHeap):=
 match o with
 | .call f args=>call f (args.map fr.eval) h
 | .callv x args=>match fr.eval x with
  | .func f first cap=>call f (first++args.map fr.eval++cap) h
  | _=>none
 | o=>evOp o fr h
def wantedA (g:Option (Nat×Bool)) (fr:AFrame):Bool:=
 match g with
 | none=>true
 | some (s,want)=>match fr[s]? with | some (.bool b)=>b == want | _=>false
def evOper (call:cT) (o:aK) (fr:AFrame) (h:AHeap):Option (AFrame×AHeap):=
 match wantedA o.guard fr with
 | true=>match evAny call o.op fr h with
  | some (v,h')=>some (fr.putD o.dst v,h')
  | none=>none
 | false=>some (fr.putD o.dst undefA,h)
def evOps (call:cT):List aK->AFrame->AHeap->Option (AFrame×AHeap)
 | [],fr,h=>some (fr,h)
 | o::r,fr,h=>match evOper call o fr h with
  | some (fr',h')=>evOps call r fr' h'
  | none=>none
inductive iD where
 | normal
 | exit (id:Nat)
 | ret
 deriving DecidableEq,Inhabited
inductive dB where
 | loud
 | reads (lo hi:Nat)
 | still
 deriving DecidableEq,Inhabited
def stable (snaps:List AHeap) (o:aK) (fr:AFrame) (v:AV) (lo hi:Nat):Bool:=
 ((snaps.drop lo).take (hi+1-lo)).all fun h=>match evOp o.op fr h with | some (u,_)=>decide (u=v) | none=>false
def steady (final:AFrame) (snaps:List AHeap):List (aK×dB)->List (AFrame×AV)->Bool
 | [],[]=>true
 | (o,st)::r,(fr,v)::q=>
  (match st with
   | .reads lo hi=>!(wantedA o.guard fr) || stable snaps o fr v lo hi
   | _=>true) && steady final snaps r q
 | _,_=>false
def evDraw (call:cT):List (aK×dB)->AFrame->AHeap->List AHeap->List (AFrame×AV)->Option (AFrame×AHeap×List AHeap×List (AFrame×AV))
 | [],fr,h,sn,ms=>some (fr,h,sn.reverse,ms.reverse)
 | (o,st)::r,fr,h,sn,ms=>
  match wantedA o.guard fr with
  | true=>match (match st with | .loud=>evAny call o.op fr h | _=>evOp o.op fr h) with
   | some (v,h')=>match st with
    | .loud=>evDraw call r (fr.putD o.dst v) h' (h'::sn) ((fr,v)::ms)
    | _=>evDraw call r (fr.putD o.dst v) h sn ((fr,v)::ms)
   | none=>none
  | false=>match st with
   | .loud=>evDraw call r (fr.putD o.dst undefA) h (h::sn) ((fr,undefA)::ms)
   | _=>evDraw call r (fr.putD o.dst undefA) h sn ((fr,undefA)::ms)
inductive ACode where
 | skip
 | region (ops:List aK)
 | draw (ops:List (aK×dB))
 | seq (a b:ACode)
 | cond (c:AOpd) (a b:ACode)
 | block (id:Nat) (a:ACode)
 | loop (a:ACode)
 | exit (id:Nat)
 | ret
 deriving Inhabited
abbrev HH:=Option (iD×AFrame×AHeap)
def iter (step:AFrame->AHeap->HH):Nat->AFrame->AHeap->HH
 | 0,_,_=>none
 | n+1,fr,h=>match step fr h with
  | some (.normal,fr',h')=>iter step n fr' h'
  | r=>r
def rounds:Nat:=1099511627776
def evCode (call:cT):ACode->AFrame->AHeap->HH
 | .skip,fr,h=>some (.normal,fr,h)
 | .region ops,fr,h=>match evOps call ops fr h with
  | some (fr',h')=>some (.normal,fr',h')
  | none=>none
 | .draw ops,fr,h=>match evDraw call ops fr h [h] [] with
  | some (fr',h',sn,ms)=>if steady fr' sn ops ms then some (.normal,fr',h') else none
  | none=>none
 | .seq a b,fr,h=>match evCode call a fr h with
  | some (.normal,fr',h')=>evCode call b fr' h'
  | r=>r
 | .cond c a b,fr,h=>match fr.eval c with
  | .bool true=>evCode call a fr h
  | .bool false=>evCode call b fr h
  | _=>none
 | .block id a,fr,h=>match evCode call a fr h with
  | some (.exit j,fr',h')=>if j=id then some (.normal,fr',h') else some (.exit j,fr',h')
  | r=>r
 | .loop a,fr,h=>iter (evCode call a) rounds fr h
 | .exit id,fr,h=>some (.exit id,fr,h)
 | .ret,fr,h=>some (.ret,fr,h)
inductive rz where
 | tmp (t:Nat)
 | cell1 (t:Nat)
 | cellN (t n:Nat)
 deriving Inhabited
def resV (fr:AFrame) (h:AHeap):rz->Option AV
 | .tmp t=>some (fr.getD t undefA)
 | .cell1 t=>match fr.getD t undefA with | .ptr i o=>h.cell i o | _=>none
 | .cellN t n=>match fr.getD t undefA with | .ptr i o=>(h.jc i o n).map .agg | _=>none
def resVs (fr:AFrame) (h:AHeap):List rz->Option (List AV)
 | []=>some []
 | r::rs=>match resV fr h r,resVs fr h rs with
  | some v,some vs=>some (v::vs)
  | _,_=>none
def resOf (fr:AFrame) (h:AHeap) (rs:List rz):Option AV:=
 match resVs fr h rs with
 | some [v]=>some v
 | some vs=>some (.tuple vs)
 | none=>none
structure dA where
 ntmps:Nat
 results:List rz
 body:ACode
 arity:Option Nat:=none
 deriving Inhabited
def dA.fits (f:dA) (args:List AV):Bool:=
 match f.arity with
 | none=>true
 | some n=>args.length == n
abbrev gO:=Nat->Option dA
def enterA (f:dA) (args:List AV):AFrame:=args++List.replicate (f.ntmps-args.length) undefA
def evBody (call:cT) (f:dA) (args:List AV) (h:AHeap):Option (AV×AHeap):=
 match evCode call f.body (enterA f args) h with
 | some (.normal,fr,h')=>(resOf fr h' f.results).map fun v=>(v,h')
 | some (.ret,fr,h')=>(resOf fr h' f.results).map fun v=>(v,h')
 | _=>none
def evCall (T:gO):Nat->cT
 | 0,_,_,_=>none
 | n+1,f,args,h=>match T f with
  | some F=>if F.fits args=true then evBody (evCall T n) F args h else none
  | none=>none
abbrev iQ (n:Int):AV:=.int .i64 n
abbrev uQ (n:Int):AV:=.int .u64 n
abbrev Qc:=AObj.cells false
abbrev wQ:=IntKind.wrap .i64
universe u
theorem nQ {α:Sort u} {c:Prop} [Decidable c] {a b:α} (h:¬c:=by omega):ite c a b=b:=if_neg h
theorem pQ {α:Sort u} {c:Prop} [Decidable c] {a b:α} (h:c:=by omega):ite c a b=a:=if_pos h
theorem rQ {x:Int} (h1:-9223372036854775808<=x:=by omega) (h2:x<=9223372036854775807:=by omega):IntKind.wrap .i64 x=x:=by simp [IntKind.wrap,IntKind.signed,IntKind.bits];omega
theorem zQ {x y:Int} (h1:-9223372036854775808<=x:=by omega) (h2:x<=9223372036854775807:=by omega) (h:x=y:=by omega):IntKind.wrap .i64 x=y:=by rw [rQ h1 h2];exact h
theorem lQ {n:Nat} (h:n<=100000000:=by omega):n<rounds:=by have:rounds=1099511627776:=rfl;omega
end
section
variable {h:AHeap} {o' o:AObj} {a:Addr} {i G:Nat} {α:Type} {w':World} {x:List Value} {l:List α}
structure eM where
 addr:List Addr
 cap:List Nat
 lit:List (Nat×List Value)
variable {ρ ρ':eM}
def eM.nil:eM:=⟨[],[],[]⟩
structure eM.le (ρ ρ':eM):Prop where
 a:∃ s,ρ'.addr=ρ.addr++s
 c:∃ s,ρ'.cap=ρ.cap++s
 l:∃ s,ρ'.lit=ρ.lit++s
theorem eM.le_refl (ρ:eM):ρ.le ρ:=⟨⟨[],by simp⟩,⟨[],by simp⟩,⟨[],by simp⟩⟩
theorem eM.le.le_trans {a b c:eM} (h:a.le b) (k:b.le c):a.le c:=by have ⟨⟨s,hs⟩,⟨t,ht⟩,⟨u,hu⟩⟩:=h;have ⟨⟨s',hs'⟩,⟨t',ht'⟩,⟨u',hu'⟩⟩:=k;exact ⟨⟨s++s',by rw [hs',hs,cX]⟩,⟨t++t',by rw [ht',ht,cX]⟩,⟨u++u',by rw [hu',hu,cX]⟩⟩
theorem eM.le.oF (h:ρ.le ρ') (ha:ρ.addr[i]?=some a):ρ'.addr[i]?=some a:=by obtain ⟨⟨s,hs⟩,_⟩:=h;rw [hs,ay (aa.1 ha).1];exact ha
theorem eM.le.HQ (h:ρ.le ρ') {a:Nat} (ha:ρ.cap[i]?=some a):ρ'.cap[i]?=some a:=by have ⟨_,⟨s,hs⟩,_⟩:=h;rw [hs,ay (aa.1 ha).1];exact ha
theorem eM.le.T9 (h:ρ.le ρ') {x:Nat×List Value} (hx:x∈ρ.lit):x∈ρ'.lit:=by have ⟨_,_,⟨s,hs⟩⟩:=h;rw [hs];exact bp _ hx
def Cap.is (ρ:eM):Cap->Nat->Prop
 | .exact c,n=>n=c
 | .loose k d,n=>∃ c,ρ.cap[k]?=some c/\n=c-d
theorem Cap.QE (h:ρ.le ρ') {c:Cap} {n:Nat} (hc:c.is ρ n):c.is ρ' n:=by
 cases c with
 | exact c=>exact hc
 | loose k d=>have ⟨c,h1,h2⟩:=hc;exact ⟨c,h.HQ h1,h2⟩
mutual
def AV.rel (ρ:eM):AV->Value->Prop
 | .bool b,v=>v=.bool b
 | .int k n,v=>v=.int k n
 | .str s,v=>v=.string s
 | .nilptr,v=>v=.pointer none
 | .ptr i o,v=>∃ a,ρ.addr[i]?=some a/\v=.pointer (some (a.add o))
 | .nilslice,v=>v=.slice none 0 0
 | .slice i o n c,v=>∃ a m,ρ.addr[i]?=some a/\c.is ρ m/\(v=.slice (some (a.add o)) n m\/(n=0/\m=0/\∃ b,v=.slice (some b) 0 0))
 | .lit cs,v=>∃ b l,(b,l)∈ρ.lit/\AV.rels ρ cs l/\v=.slice (some ⟨b,0,none⟩) cs.length cs.length
 | .nilmap,v=>v=.map none
 | .map i,v=>∃ a,ρ.addr[i]?=some a/\v=.map (some a.block)
 | .func f x y,v=>∃ x' y',AV.rels ρ x x'/\AV.rels ρ y y'/\v=.func (.func f) x'.toArray y'.toArray
 | .nilfunc,v=>v=.nilFunc
 | .niliface,v=>v=.nilIface
 | .agg cs,v=>∃ l,AV.rels ρ cs l/\v=.agg l.toArray
 | .tuple vs,v=>∃ l,AV.rels ρ vs l/\v=.tuple l.toArray
def AV.rels (ρ:eM):List AV->List Value->Prop
 | [],l=>l=[]
 | x::xs,l=>∃ y ys,l=y::ys/\AV.rel ρ x y/\AV.rels ρ xs ys
end
mutual
theorem AV.gT {ρ ρ':eM} (h:ρ.le ρ'):∀ (v:AV) (x:Value),v.rel ρ x->v.rel ρ' x
 | .bool _,_,hv | .int _ _,_,hv | .str _,_,hv | .nilptr,_,hv | .nilslice,_,hv | .nilmap,_,hv | .nilfunc,_,hv | .niliface,_,hv=>by simpa [AV.rel] using hv
 | .ptr i o,x,hv=>by simp only [AV.rel] at *;obtain ⟨a,h1,h2⟩:=hv;exact ⟨a,h.oF h1,h2⟩
 | .slice i o n c,x,hv=>by simp only [AV.rel] at *;obtain ⟨a,m,h1,h2,h3⟩:=hv;exact ⟨a,m,h.oF h1,Cap.QE h h2,h3⟩
 | .lit cs,x,hv=>by simp only [AV.rel] at *;obtain ⟨b,l,h1,h2,h3⟩:=hv;exact ⟨b,l,h.T9 h1,AV.iJ h cs l h2,h3⟩
 | .map i,x,hv=>by simp only [AV.rel] at *;obtain ⟨a,h1,h2⟩:=hv;exact ⟨a,h.oF h1,h2⟩
 | .func f a b,x,hv=>by simp only [AV.rel] at *;obtain ⟨x',y',h1,h2,h3⟩:=hv;exact ⟨x',y',AV.iJ h a x' h1,AV.iJ h b y' h2,h3⟩
 | .agg cs,x,hv=>by simp only [AV.rel] at *;obtain ⟨l,h1,h2⟩:=hv;exact ⟨l,AV.iJ h cs l h1,h2⟩
 | .tuple cs,x,hv=>by simp only [AV.rel] at *;obtain ⟨l,h1,h2⟩:=hv;exact ⟨l,AV.iJ h cs l h1,h2⟩
theorem AV.iJ {ρ ρ':eM} (h:ρ.le ρ'):∀ (vs:List AV) (xs:List Value),AV.rels ρ vs xs->AV.rels ρ' vs xs
 | [],_,hv=>by simpa [AV.rels] using hv
 | v::vs,xs,hv=>by simp only [AV.rels] at *;obtain ⟨y,ys,h1,h2,h3⟩:=hv;exact ⟨y,ys,h1,AV.gT h v y h2,AV.iJ h vs ys h3⟩
end
theorem br :∀ {vs:List AV} {xs:List Value},AV.rels ρ vs xs->xs.length=vs.length
 | [],_,h=>by simp [AV.rels] at h;simp [h]
 | v::vs,_,h=>by simp [AV.rels] at h;obtain ⟨y,ys,rfl,_,h3⟩:=h;simp [br h3]
theorem da :∀ {vs:List AV} {xs:List Value},AV.rels ρ vs xs->∀ {i:Nat} {v:AV},vs[i]?=some v->∃ x,xs[i]?=some x/\v.rel ρ x
 | [],_,_,i,v,hv=>by simp at hv
 | u::vs,_,h,i,v,hv=>by
  simp [AV.rels] at h;obtain ⟨y,ys,rfl,h2,h3⟩:=h;cases i with
  | zero=>simp at hv;subst hv;exact ⟨y,by simp,h2⟩
  | succ i=>simp at hv;simpa using da h3 hv
theorem pV :∀ {vs:List AV} {xs:List Value},xs.length=vs.length->(∀ (i:Nat) v,vs[i]?=some v->∃ x,xs[i]?=some x/\v.rel ρ x)->AV.rels ρ vs xs
 | [],xs,hl,_=>by simp [AV.rels];exact aG hl
 | v::vs,xs,hl,h=>by
  cases xs with
  | nil=>simp at hl
  | cons x xs=>simp only [AV.rels];have ⟨x',h1,h2⟩:=h 0 v rfl;simp at h1;subst h1;exact ⟨x,xs,rfl,h2,pV (by simpa using hl) fun i u hu=>by simpa using h (i+1) u (by simpa using hu)⟩
theorem fR {a b:List AV} {y:List Value} (h:AV.rels ρ a x) (k:AV.rels ρ b y):AV.rels ρ (a++b) (x++y):=by
 induction a generalizing x with
 | nil=>simp [AV.rels] at h;subst h;simpa using k
 | cons v a ih=>simp [AV.rels,nP] at *;obtain ⟨u,us,rfl,h2,h3⟩:=h;exact ⟨u,us++y,rfl,h2,ih h3⟩
theorem nW {v:AV} {x:Value} (h:v.rel ρ x):AV.rels ρ v.cells x.cells.toList:=by
 cases v<;>simp [AV.cells]
 case agg cs=>simp [AV.rel] at h;obtain ⟨l,h1,rfl⟩:=h;simpa [Value.cells] using h1
 all_goals
  have h':=h;simp [AV.rel] at h;simp only [AV.rels];refine ⟨x,[],?_,h',rfl⟩
 case bool | int | str | nilptr | nilslice | nilmap | nilfunc | niliface=>subst h;rfl
 case ptr | map=>obtain ⟨a,_,rfl⟩:=h;rfl
 case slice=>obtain ⟨a,m,_,_,rfl | ⟨_,_,b,rfl⟩⟩:=h<;>rfl
 case lit=>obtain ⟨_,_,_,_,rfl⟩:=h;rfl
 case func=>obtain ⟨_,_,_,_,rfl⟩:=h;rfl
 case tuple=>obtain ⟨_,_,rfl⟩:=h;rfl
theorem Ie {v:AV} {x:Value} (h:v.rel ρ x) (h1:v.one=true):x.oneCell'=true:=by
 cases v<;>simp [AV.one] at h1<;>simp [AV.rel] at h;case bool | int | str | nilptr | nilslice | nilmap | nilfunc | niliface=>subst h;rfl
 case ptr | map=>obtain ⟨a,_,rfl⟩:=h;rfl
 case slice=>obtain ⟨a,m,_,_,rfl | ⟨_,_,b,rfl⟩⟩:=h<;>rfl
 case lit=>obtain ⟨_,_,_,_,rfl⟩:=h;rfl
 case func=>obtain ⟨_,_,_,_,rfl⟩:=h;rfl
theorem gN (a:Addr) (m n:Nat):(a.add m).add n=a.add (m+n):=by unfold Addr.add;by_cases hm:m=0<;>by_cases hn:n=0<;>simp_all;omega
theorem add_block (a:Addr) (m:Nat):(a.add m).block=a.block:=by unfold Addr.add;split<;>rfl
theorem me (h:a.spot=none) (m:Nat):a.add m=⟨a.block,a.off+m,none⟩:=by have ⟨b,o,s⟩:=a;simp at h;subst h;unfold Addr.add;split<;>simp_all
def AObj.writable:AObj->Bool
 | .cells false _ _ | .map ..=>true
 | _=>false
def AObj.live:AObj->Bool
 | .dead=>false
 | _=>true
theorem AObj.cV (h:o.writable=true):o.live=true:=by cases o<;>simp_all [AObj.writable,AObj.live]
def dw (ρ:eM):List (AV×AV)->List MapEntry->Prop
 | [],l=>l=[]
 | e::r,l=>∃ y ys,l=y::ys/\e.1.rel ρ y.key/\e.2.rel ρ y.val/\dw ρ r ys
theorem pf (h:ρ.le ρ'):∀ (es:List (AV×AV)) (l:List MapEntry),dw ρ es l->dw ρ' es l
 | [],_,hv=>hv
 | e::es,l,hv=>by have ⟨y,ys,h1,h2,h3,h4⟩:=hv;exact ⟨y,ys,h1,AV.gT h _ _ h2,AV.gT h _ _ h3,pf h es ys h4⟩
def AObj.holds (ρ:eM) (w:World) (a:Addr):AObj->Prop
 | .dead=>True
 | .cells true cs _=>a.block<w.heap.size/\∀ (j:Nat) v,cs[j]?=some v->∃ x,w.cell? (a.add j)=some x/\v.rel ρ x
 | .cells false cs room=>a.spot=none/\∃ c e,w.heap[a.block]?=some (.cells c e (0,0))/\(∀ (j:Nat) v,cs[j]?=some v->∃ x,c[a.off+j]?=some x/\v.rel ρ x)/\
  (∀ k s,room=some (k,s)->∃ m,ρ.cap[k]?=some m/\a.off+m*s<=c.size)
 | .map es bs ck=>∃ l,w.heap[a.block]?=some (.map l ck)/\dw ρ es l.toList/\l.toList.map (·.born)=bs
theorem AObj.dE (h:ρ.le ρ') {w:World} (ho:o.holds ρ w a):o.holds ρ' w a:=by
 cases o with
 | dead=>trivial
 | cells ro cs room=>
  cases ro with
  | true=>exact ⟨ho.1,fun j v hj=>let ⟨x,h1,h2⟩:=ho.2 j v hj;⟨x,h1,AV.gT h _ _ h2⟩⟩
  | false=>have ⟨hs,c,e,h1,h2,h3⟩:=ho;exact ⟨hs,c,e,h1,fun j v hj=>let ⟨x,h4,h5⟩:=h2 j v hj;⟨x,h4,AV.gT h _ _ h5⟩,fun k s hk=>let ⟨m,h4,h5⟩:=h3 k s hk;⟨m,h.HQ h4,h5⟩⟩
 | map es bs ck=>have ⟨l,h1,h2,h3⟩:=ho;exact ⟨l,h1,pf h _ _ h2,h3⟩
theorem AObj.gU {w:World} (ho:o.holds ρ w a) (hl:o.live=true):a.block<w.heap.size:=by
 cases o with
 | dead=>simp [AObj.live] at hl
 | cells ro cs room=>
  cases ro with
  | true=>exact ho.1
  | false=>have ⟨hs,c,e,h1,_⟩:=ho;exact (au.1 h1).1
 | map es bs ck=>have ⟨l,h1,_⟩:=ho;exact (au.1 h1).1
theorem AObj.fV {w:World} (hs:w.heap.size<=w'.heap.size) (hb:w'.heap[a.block]?=w.heap[a.block]?) (ho:o.holds ρ w a):o.holds ρ w' a:=by
 cases o with
 | dead=>trivial
 | cells ro cs room=>
  cases ro with
  | true=>refine ⟨cq ho.1 hs,fun j v hj=>?_⟩;have ⟨x,h1,h2⟩:=ho.2 j v hj;refine ⟨x,?_,h2⟩;rw [World.cell?_of_block (w:=w) (by rw [add_block];exact hb)];exact h1
  | false=>have ⟨h0,c,e,h1,h2⟩:=ho;exact ⟨h0,c,e,by rw [hb];exact h1,h2⟩
 | map es bs ck=>have ⟨l,h1,h2⟩:=ho;exact ⟨l,by rw [hb];exact h1,h2⟩
def own (ρ:eM) (h:AHeap) (b:Nat):Prop:=∃ (i:Nat) (o:AObj) (a:Addr),h.objs[i]?=some o/\ρ.addr[i]?=some a/\o.writable=true/\a.block=b
def px (ρ:eM) (h:AHeap) (b:Nat):Prop:=∃ (i:Nat) (o:AObj) (a:Addr),h.objs[i]?=some o/\ρ.addr[i]?=some a/\o.live=true/\a.block=b
theorem mO {b:Nat}:own ρ h b->px ρ h b:=fun ⟨i,o,a,h1,h2,h3,h4⟩=>⟨i,o,a,h1,h2,AObj.cV h3,h4⟩
structure fw (G:Nat) (ρ:eM) (h:AHeap) (w:World):Prop where
 jK:ρ.addr.length=h.objs.length
 mh:ρ.cap.length=h.caps.length
 glob:∀ g,g<G->ρ.addr[g]?=some ⟨g,0,none⟩
 obj:∀ (i:Nat) o a,h.objs[i]?=some o->ρ.addr[i]?=some a->o.holds ρ w a
 apart:∀ (i j:Nat) o p a b,h.objs[i]?=some o->h.objs[j]?=some p->ρ.addr[i]?=some a->ρ.addr[j]?=some b->i≠j->o.writable=true->p.live=true->a.block≠b.block
 caps:∀ (k:Nat) lb,h.caps[k]?=some lb->∃ c,ρ.cap[k]?=some c/\lb<=c
 lits:∀ x∈ρ.lit,(∃ e,w.heap[x.1]?=some (.cells x.2.toArray e (0,0)))/\¬ own ρ h x.1
structure Post (G:Nat) (ρ:eM) (h:AHeap) (w:World) (ρ':eM) (h':AHeap) (w':World):Prop where
 le:ρ.le ρ'
 rel:fw G ρ' h' w'
 os:w'.os=w.os
 tape:w'.tape=w.tape
 output:w'.output=w.output
 size:w.heap.size<=w'.heap.size
 keep:∀ b,b<w.heap.size->¬ own ρ h b->w'.heap[b]?=w.heap[b]?
 owns:∀ b,own ρ' h' b->own ρ h b\/w.heap.size<=b
 te:∀ b,px ρ' h' b->px ρ h b\/w.heap.size<=b
 lu:∀ x∈ρ'.lit,x∈ρ.lit\/w.heap.size<=x.1
theorem Post.refl {w:World} (r:fw G ρ h w):Post G ρ h w ρ h w:=
 ⟨eM.le_refl ρ,r,rfl,rfl,rfl,aq _,fun _ _ _=>rfl,fun _ h=>.inl h,fun _ h=>.inl h,fun _ h=>.inl h⟩
theorem Post.trans {ρ'':eM} {h' h'':AHeap} {w w'':World} (p:Post G ρ h w ρ' h' w') (q:Post G ρ' h' w' ρ'' h'' w''):Post G ρ h w ρ'' h'' w'' where
 le:=p.le.le_trans q.le;rel:=q.rel;os:=q.os.trans p.os;tape:=q.tape.trans p.tape;output:=q.output.trans p.output;size:=dk p.size q.size;keep:=fun b hb hn=>(q.keep b (cq hb p.size) fun ho=>(p.owns b ho).elim hn fun hs=>absurd hb (by omega)).trans (p.keep b hb hn)
 owns:=fun b ho=>(q.owns b ho).elim (p.owns b) fun hs=>.inr (dk p.size hs)
 te:=fun b ho=>(q.te b ho).elim (p.te b) fun hs=>.inr (dk p.size hs)
 lu:=fun x hx=>(q.lu x hx).elim (p.lu x) fun hs=>.inr (dk p.size hs)
theorem fw.drew {w:World} (r:fw G ρ h w):fw G ρ h {w with drawn:=w.drawn+1}:=
 ⟨r.jK,r.mh,r.glob,fun i o a h1 h2=>AObj.fV (w:=w) (aq _) rfl (r.obj i o a h1 h2),r.apart,r.caps,r.lits⟩
theorem Post.drew {w:World} (r:fw G ρ h w):Post G ρ h w ρ h {w with drawn:=w.drawn+1}:=
 ⟨eM.le_refl ρ,r.drew,rfl,rfl,rfl,aq _,fun _ _ _=>rfl,fun _ h=>.inl h,fun _ h=>.inl h,fun _ h=>.inl h⟩
theorem cN {s:List α} {x:α} (h:l[i]?=some x):(l++s)[i]?=some x:=by rw [ay (aa.1 h).1];exact h
theorem dm {x y:α} (h:(l++[y])[i]?=some x):l[i]?=some x\/(i=l.length/\x=y):=by
 rcases bH i l.length with hl | hl
 . left;rwa [ay hl] at h
 . right;rw [aB hl] at h;have:i-l.length=0:=by
    rcases dd (i-l.length) with h0 | h0
    . exact h0
    . rw [aV (by simp;omega)] at h;simp at h
   rw [this] at h;simp at h;exact ⟨by omega,h.symm⟩
theorem Post.put {w:World} (r:fw G ρ h w) (ho:h.objs[i]?=some o) (ha:ρ.addr[i]?=some a) (hw:o.writable=true) (hw':o'.writable=true)
 (hos:w'.os=w.os) (htape:w'.tape=w.tape) (hout:w'.output=w.output) (hsize:w'.heap.size=w.heap.size)
 (hb:∀ b,b≠a.block->w'.heap[b]?=w.heap[b]?) (hh:o'.holds ρ w' a):Post G ρ h w ρ (h.put i o') w':=by
 have hlt:=(aa.1 ho).1;have obj':∀ (j:Nat) p,(h.put i o').objs[j]?=some p->(j=i/\p=o')\/(j≠i/\h.objs[j]?=some p):=by
  intro j p hp;by_cases hji:j=i
  . subst hji;simp [AHeap.put,ax hlt] at hp;exact .inl ⟨rfl,by simpa using hp.symm⟩
  . exact .inr ⟨hji,by simpa [AHeap.put,aj (aY hji)] using hp⟩
 refine ⟨eM.le_refl ρ,⟨by simp [AHeap.put,r.jK],by simp [AHeap.put,r.mh],r.glob,?_,?_,by simpa [AHeap.put] using r.caps,?_⟩,hos,htape,hout,HK hsize.symm,?_,?_,?_,fun _ h=>.inl h⟩
 . intro j p b hp hb';rcases obj' j p hp with ⟨rfl,rfl⟩ | ⟨hji,hp⟩
   . obtain rfl:=aw (ha.symm.trans hb');exact hh
   . cases hl:p.live with
     | false=>cases p<;>simp_all [AObj.live,AObj.holds]
     | true=>exact AObj.fV (HK hsize.symm) (hb _ (r.apart i j o p a b ho hp ha hb' (aY hji) hw hl).symm) (r.obj j p b hp hb')
 . intro j k p q b c hp hq hb' hc' hjk hpw hql;rcases obj' j p hp with ⟨rfl,rfl⟩ | ⟨hji,hp2⟩
   . rcases obj' k q hq with ⟨rfl,rfl⟩ | ⟨hki,hq2⟩
     . exact absurd rfl hjk
     . exact r.apart j k o q b c ho hq2 hb' hc' hjk hw hql
   . rcases obj' k q hq with ⟨rfl,rfl⟩ | ⟨hki,hq2⟩
     . exact r.apart j k p o b c hp2 ho hb' hc' hjk hpw (AObj.cV hw)
     . exact r.apart j k p q b c hp2 hq2 hb' hc' hjk hpw hql
 . intro x hx;have ⟨⟨e,h1⟩,h2⟩:=r.lits x hx;refine ⟨⟨e,by rw [hb x.1 fun e'=>h2 ⟨i,o,a,ho,ha,hw,e'.symm⟩];exact h1⟩,?_⟩;rintro ⟨j,p,c,hp,hc,hpw,hcb⟩;rcases obj' j p hp with ⟨rfl,rfl⟩ | ⟨_,hp⟩
   . exact h2 ⟨j,o,c,ho,hc,hw,hcb⟩
   . exact h2 ⟨j,p,c,hp,hc,hpw,hcb⟩
 . intro b _ hn;exact hb b fun e=>hn ⟨i,o,a,ho,ha,hw,e.symm⟩
 . rintro b ⟨j,p,c,hp,hc,hpw,rfl⟩;rcases obj' j p hp with ⟨rfl,rfl⟩ | ⟨_,hp⟩
   . exact .inl ⟨j,o,c,ho,hc,hw,rfl⟩
   . exact .inl ⟨j,p,c,hp,hc,hpw,rfl⟩
 . rintro b ⟨j,p,c,hp,hc,hpw,rfl⟩;rcases obj' j p hp with ⟨rfl,rfl⟩ | ⟨_,hp⟩
   . exact .inl ⟨j,o,c,ho,hc,AObj.cV hw,rfl⟩
   . exact .inl ⟨j,p,c,hp,hc,hpw,rfl⟩
theorem Post.push {w:World} (r:fw G ρ h w) (X:Obj) (cs:List Nat) (lbs:List Nat) (hcl:cs.length=lbs.length)
 (hlb:∀ (k:Nat) lb,lbs[k]?=some lb->∃ c,cs[k]?=some c/\lb<=c)
 (hos:w'.os=w.os) (htape:w'.tape=w.tape) (hout:w'.output=w.output) (hheap:w'.heap=w.heap.push X)
 (hh:o'.holds ⟨ρ.addr++[⟨w.heap.size,0,none⟩],ρ.cap++cs,ρ.lit⟩ w' ⟨w.heap.size,0,none⟩) :
 Post G ρ h w ⟨ρ.addr++[⟨w.heap.size,0,none⟩],ρ.cap++cs,ρ.lit⟩ ⟨h.objs++[o'],h.caps++lbs⟩ w':=by
 have hle:ρ.le ⟨ρ.addr++[⟨w.heap.size,0,none⟩],ρ.cap++cs,ρ.lit⟩:=⟨⟨_,rfl⟩,⟨_,rfl⟩,⟨[],by simp⟩⟩
 have hsz:w'.heap.size=w.heap.size+1:=by simp [hheap]
 have hold:∀ b,b<w.heap.size->w'.heap[b]?=w.heap[b]?:=fun b hb=>by rw [hheap,oT,nQ]
 have addr':∀ (j:Nat) p b,(h.objs++[o'])[j]?=some p->(ρ.addr++[⟨w.heap.size,0,none⟩])[j]?=some b->
  (h.objs[j]?=some p/\ρ.addr[j]?=some b)\/(j=h.objs.length/\p=o'/\b=⟨w.heap.size,0,none⟩):=by
  intro j p b hp hb
  rcases dm hp with hp | ⟨hj,rfl⟩
  . have hlt:=(aa.1 hp).1
    rw [<- r.jK] at hlt
    rw [ay hlt] at hb
    exact .inl ⟨hp,hb⟩
  . rcases dm hb with hb | ⟨_,rfl⟩
    . have hlt:=(aa.1 hb).1
      rw [r.jK] at hlt;omega
    . exact .inr ⟨hj,rfl,rfl⟩
 refine ⟨hle,⟨by simp [r.jK],by simp [r.mh,hcl],fun g hg=>cN (r.glob g hg),?_,?_,?_,?_⟩,hos,htape,hout,by omega,fun b hb _=>hold b hb,?_,?_,fun _ h=>.inl h⟩
 . intro j p b hp hb
   rcases addr' j p b hp hb with ⟨hp,hb⟩ | ⟨_,rfl,rfl⟩
   . have ho:=r.obj j p b hp hb
     cases hl:p.live with
     | false=>cases p<;>simp_all [AObj.live,AObj.holds]
     | true=>exact AObj.dE hle (AObj.fV (by omega) (hold _ (AObj.gU ho hl)) ho)
   . exact hh
 . intro j k p q b c hp hq hb hc hjk hpw hql
   rcases addr' j p b hp hb with ⟨hp2,hb2⟩ | ⟨hj,rfl,rfl⟩
   . rcases addr' k q c hq hc with ⟨hq2,hc2⟩ | ⟨hk,rfl,rfl⟩
     . exact r.apart j k p q b c hp2 hq2 hb2 hc2 hjk hpw hql
     . have:=AObj.gU (r.obj j p b hp2 hb2) (AObj.cV hpw)
       simp;omega
   . rcases addr' k q c hq hc with ⟨hq2,hc2⟩ | ⟨hk,rfl,rfl⟩
     . have:=AObj.gU (r.obj k q c hq2 hc2) hql
       simp;omega
     . omega
 . intro k lb hk
   rcases bH k h.caps.length with hl | hl
   . rw [ay hl] at hk
     have ⟨c,h1,h2⟩:=r.caps k lb hk
     exact ⟨c,cN h1,h2⟩
   . rw [aB hl] at hk
     have ⟨c,h1,h2⟩:=hlb _ lb hk
     exact ⟨c,by rw [aB (by rw [r.mh];exact hl),r.mh];exact h1,h2⟩
 . intro x hx
   have ⟨⟨e,h1⟩,h2⟩:=r.lits x hx
   have hlt:=(au.1 h1).1
   refine ⟨⟨e,by rw [hold _ hlt];exact h1⟩,?_⟩
   rintro ⟨j,p,c,hp,hc,hpw,hcb⟩
   rcases addr' j p c hp hc with ⟨hp,hc⟩ | ⟨_,rfl,rfl⟩
   . exact h2 ⟨j,p,c,hp,hc,hpw,hcb⟩
   . simp at hcb;omega
 . rintro b ⟨j,p,c,hp,hc,hpw,rfl⟩
   rcases addr' j p c hp hc with ⟨hp,hc⟩ | ⟨_,rfl,rfl⟩
   . exact .inl ⟨j,p,c,hp,hc,hpw,rfl⟩
   . exact .inr (aq _)
 . rintro b ⟨j,p,c,hp,hc,hpw,rfl⟩
   rcases addr' j p c hp hc with ⟨hp,hc⟩ | ⟨_,rfl,rfl⟩
   . exact .inl ⟨j,p,c,hp,hc,hpw,rfl⟩
   . exact .inr (aq _)
end
def rZ:Value->Option AV
 | .bool b=>some (.bool b)
 | .int k n=>some (.int k n)
 | .string s=>some (.str s)
 | .pointer none=>some .nilptr
 | .slice none 0 0=>some .nilslice
 | .map none=>some .nilmap
 | .nilFunc=>some .nilfunc
 | .nilIface=>some .niliface
 | _=>none
def ng:List Value->Option (List AV)
 | []=>some []
 | v::vs=>match rZ v,ng vs with
  | some x,some xs=>some (x::xs)
  | _,_=>none
def ofValue:Value->Option AV
 | .agg cs=>(ng cs.toList).map .agg
 | .tuple cs=>(ng cs.toList).map .tuple
 | v=>rZ v
def compOpd (G:Nat):Operand->Option AOpd
 | .tmp t=>some (.tmp t)
 | .const v=>(ofValue v).map .const
 | .global g=>if g<G then some (.glob g) else none
 | .func f=>some (.func f)
def compOpds (G:Nat):List Operand->Option (List AOpd)
 | []=>some []
 | x::xs=>match compOpd G x,compOpds G xs with
  | some y,some ys=>some (y::ys)
  | _,_=>none
def sM (G:Nat):Option Operand->Option (Option AOpd)
 | none=>some none
 | some x=>(compOpd G x).map some
def sizeT (P:Program) (t:TypeId):Option Nat:=(P.info? t).map (·.size)
def bytesT (P:Program) (t:TypeId):Option Nat:=(P.info? t).map (·.bytes)
def zeroV (P:Program) (t:TypeId):Option Value:=(P.info? t).bind (·.zero)
def zeroT (P:Program) (t:TypeId):Option (List AV):=(zeroV P t).bind fun v=>(ofValue v).map (·.cells)
def aggT (P:Program) (t:TypeId):Option Bool:=
 match P.underlying t with
 | some (.struct _) | some (.array _ _)=>some true
 | some _=>some false
 | none=>none
def mM (P:Program) (t:TypeId) (i:Nat):Option (Nat×Nat):=
 match P.underlying t with
 | some (.struct fs)=>match fs[i]? with
  | some f=>(sizeT P f.type).map fun s=>(f.offset,s)
  | none=>none
 | some (.array _ e)=>(sizeT P e).map fun s=>(i*s,s)
 | _=>none
def lD (P:Program) (G:Nat) (t:TypeId):List (Nat×Operand)->Option (List ((Nat×Nat)×AOpd))
 | []=>some []
 | (i,x)::r=>match mM P t i,compOpd G x,lD P G t r with
  | some p,some y,some ys=>some ((p,y)::ys)
  | _,_,_=>none
def lC (s:Nat) (G:Nat):List (Nat×Operand)->Option (List ((Nat×Nat)×AOpd))
 | []=>some []
 | (i,x)::r=>match compOpd G x,lC s G r with
  | some y,some ys=>some (((i*s,s),y)::ys)
  | _,_=>none
def nw:BinOp->Option Bool
 | .eql=>some false
 | .neq=>some true
 | _=>none
def compBin (P:Program) (op:BinOp) (t:TypeId) (x y:AOpd):Option AOp:=
 match P.underlying t with
 | some (.int _) | some .string=>some (.bin op x y)
 | some .bool=>(nw op).map fun n=>.eqBool n x y
 | some (.pointer _)=>(nw op).map fun n=>.cmpNil n 0 x y
 | some (.slice _)=>(nw op).map fun n=>.cmpNil n 1 x y
 | some (.map _ _)=>(nw op).map fun n=>.cmpNil n 2 x y
 | some (.func _ _ _)=>(nw op).map fun n=>.cmpNil n 3 x y
 | _=>none
def lY (P:Program) (G:Nat) (c:Call) (_type:TypeId):Option AOp:=
 match c.callee,compOpds G c.args.toList with
 | .value (.func f),some args=>some (.call f args)
 | .value (.tmp t),some args=>some (.callv (.tmp t) args)
 | .builtin .len,some [x]=>
  match c.argTypes.toList with
  | [t]=>match P.underlying t with
   | some (.slice _)=>some (.lenS x)
   | some (.map _ _)=>some (.lenM x)
   | _=>none
  | _=>none
 | .builtin .append,some [s,x]=>
  match c.argTypes.toList with
  | [t,u]=>match P.underlying t,P.underlying u with
   | some (.slice e),some (.slice _)=>match sizeT P e,bytesT P e,zeroT P e with
    | some sz,some by_,some z=>if z.length=sz then some (.append sz by_ z s x) else none
    | _,_,_=>none
   | _,_=>none
  | _=>none
 | .builtin .clear,some [x]=>
  match c.argTypes.toList with
  | [t]=>match P.underlying t with
   | some (.slice e)=>match sizeT P e,zeroT P e with
    | some sz,some z=>if z.length=sz then some (.clearS sz z x) else none
    | _,_=>none
   | _=>none
  | _=>none
 | .builtin .delete,some [m,k]=>
  match c.argTypes.toList with
  | [t,_]=>match P.underlying t with
   | some (.map kt _)=>match P.underlying kt with
    | some (.int _)=>some (.delete m k)
    | _=>none
   | _=>none
  | _=>none
 | .builtin .max,some [x,y]=>some (.max2 x y)
 | .builtin .min,some [x,y]=>some (.min2 x y)
 | .builtin .min,some [x,y,z]=>some (.min3 x y z)
 | _,_=>none
def jD (P:Program) (G:Nat) (o:Oper):Option AOp:=
 match o.op with
 | .move x | .assign x=>(compOpd G x).map .mv
 | .pick c a b=>match compOpd G c,compOpd G a,compOpd G b with
  | some c,some a,some b=>some (.pick c a b)
  | _,_,_=>none
 | .alloc e=>(zeroT P e).map .alloc
 | .box _ x=>(compOpd G x).map .box
 | .build t ps=>match P.underlying t,zeroT P t,lD P G t ps.toList with
  | some (.struct fs),some z,some l=>if fs.toList.all (fun f=>(sizeT P f.type).isSome) then some (.build z l) else none
  | some (.array _ e),some z,some l=>if (sizeT P e).isSome then some (.build z l) else none
  | _,_,_=>none
 | .buildSlice t len ps=>match P.underlying t with
  | some (.slice e)=>match sizeT P e,zeroT P e with
   | some s,some z=>if len*s<=16777216/\z.length=s then (lC s G ps.toList).map fun l=>.buildSlice (rep len z) len l else none
   | _,_=>none
  | _=>none
 | .load t a=>match aggT P t,sizeT P t,compOpd G a with
  | some true,some n,some a=>some (.loadN n a)
  | some false,some _,some a=>some (.load1 a)
  | _,_,_=>none
 | .store t a x=>match sizeT P t,compOpd G a,compOpd G x with
  | some n,some a,some x=>some (.store n a x)
  | _,_,_=>none
 | .nilCheck x=>(compOpd G x).map .nilCheck
 | .binOp op t x y _=>match compOpd G x,compOpd G y with
  | some x,some y=>compBin P op t x y
  | _,_=>none
 | .unOp op _ x=>(compOpd G x).map (.un op)
 | .convert s d x=>match P.underlying s,P.underlying d,compOpd G x with
  | some _,some (.int k),some x=>some (.toInt k x)
  | _,_,_=>none
 | .makeFunc (.func f) a b=>match compOpds G a.toList,compOpds G b.toList with
  | some a,some b=>some (.mkfunc f a b)
  | _,_=>none
 | .makeMap _ none=>some .mkmap
 | .makeSlice t l c=>match P.underlying t with
  | some (.slice e)=>match sizeT P e,bytesT P e,zeroT P e,compOpd G l,compOpd G c with
   | some s,some b,some z,some l,some c=>if 0<s then some (.mkslice s b z l c) else none
   | _,_,_,_,_=>none
  | _=>none
 | .slice t x lo hi mx=>match compOpd G x,sM G lo,sM G hi,sM G mx with
  | some x,some lo,some hi,some mx=>
   if mx.isSome=true->hi.isSome=true then
    match P.underlying t with
    | some (.slice e)=>(sizeT P e).map fun s=>.slc s none x lo hi mx
    | some (.array n e)=>(sizeT P e).map fun s=>.slc s (some n) x lo hi mx
    | _=>none
   else none
  | _,_,_,_=>none
 | .fieldAddr s x f=>match mM P s f,P.underlying s,compOpd G x with
  | some (off,n),some (.struct _),some x=>if n≠0 then some (.fieldAddr off x) else none
  | _,_,_=>none
 | .field t x f=>match P.underlying t,mM P t f,compOpd G x with
  | some (.struct fs),some (off,n),some x=>match fs[f]? with
   | some g=>match aggT P g.type with
    | some false=>some (.field1 off x)
    | _=>none
   | none=>none
  | _,_,_=>none
 | .indexAddr t x i=>match compOpd G x,compOpd G i with
  | some x,some i=>match P.underlying t with
   | some (.slice e)=>(sizeT P e).map fun s=>.idxAddr s none x i
   | some (.array n e)=>(sizeT P e).map fun s=>.idxAddr s (some n) x i
   | _=>none
  | _,_=>none
 | .index t x i=>match P.underlying t,compOpd G x,compOpd G i with
  | some .string,some x,some i=>some (.nat 6 x i)
  | _,_,_=>none
 | .extract x k=>(compOpd G x).map (.extract k)
 | .lookup t x i ok=>match P.underlying t,compOpd G x,compOpd G i with
  | some (.map kt e),some x,some i=>match P.underlying kt,(zeroV P e).bind ofValue with
   | some (.int _),some z=>some (.lookup z ok x i)
   | _,_=>none
  | _,_,_=>none
 | .mapUpdate t m k x=>match P.underlying t,compOpd G m,compOpd G k,compOpd G x with
  | some (.map kt _),some m,some k,some x=>match P.underlying kt with
   | some (.int _)=>some (.mapUpdate m k x)
   | _=>none
  | _,_,_,_=>none
 | .call c=>lY P G c o.type
 | _=>none
def nJ (ops:Array Oper):Option (Nat×Bool)->Option (Option (Nat×Bool))
 | none=>some none
 | some (j,want)=>match (ops[j]?).bind (·.dst) with
  | some d=>some (some (d,want))
  | none=>none
def fF (P:Program) (G:Nat) (ops:Array Oper) (o:Oper):Option aK:=
 match jD P G o,nJ ops o.guard with
 | some a,some g=>some ⟨o.dst,a,g⟩
 | _,_=>none
def fO (P:Program) (G:Nat) (ops:Array Oper):List Oper->Option (List aK)
 | []=>some []
 | o::r=>match fF P G ops o,fO P G ops r with
  | some a,some l=>some (a::l)
  | _,_=>none
def AOpd.reads:AOpd->List Nat
 | .tmp t=>[t]
 | _=>[]
def optReads:Option AOpd->List Nat
 | some x=>x.reads
 | none=>[]
def AOp.reads:AOp->List Nat
 | .mv x | .box x | .load1 x | .loadN _ x | .nilCheck x | .un _ x | .toInt _ x | .fieldAddr _ x | .field1 _ x | .extract _ x | .lenS x | .lenM x | .clearS _ _ x=>x.reads
 | .alloc _ | .mkmap=>[]
 | .pick a b c | .min3 a b c | .mapUpdate a b c=>a.reads++b.reads++c.reads
 | .build _ ps | .buildSlice _ _ ps=>ps.flatMap fun p=>p.2.reads
 | .store _ a b | .bin _ a b | .cmpNil _ _ a b | .eqBool _ a b | .mkslice _ _ _ a b | .idxAddr _ _ a b | .append _ _ _ a b | .max2 a b | .min2 a b | .lookup _ _ a b | .delete a b | .nat _ a b=>a.reads++b.reads
 | .mkfunc _ a b=>a.flatMap AOpd.reads++b.flatMap AOpd.reads
 | .slc _ _ x lo hi mx=>x.reads++optReads lo++optReads hi++optReads mx
 | .call _ args=>args.flatMap AOpd.reads
 | .callv x args=>x.reads++args.flatMap AOpd.reads
def aK.looks (o:aK):List Nat:=o.op.reads++(match o.guard with | some (s,_)=>[s] | none=>[])
def AOp.isStill:AOp->Bool
 | .mv _ | .pick .. | .build .. | .nilCheck _ | .bin .. | .cmpNil .. | .eqBool .. | .un .. | .toInt .. | .mkfunc .. | .fieldAddr .. | .field1 .. | .idxAddr .. | .extract .. | .lenS _ | .max2 .. | .min2 .. | .min3 ..=>true
 | _=>false
def AOp.isRead:AOp->Bool
 | .load1 _ | .loadN .. | .lenM _ | .lookup .. | .slc ..=>true
 | _=>false
def uF (o:AOp):AOp:=o
def j8 (o:aK):aK:={o with op:=uF o.op}
def Hy:List Nat->List Nat->List Nat
 | [],l=>l
 | x::r,l=>if l.contains x then Hy r l else Hy r (x::l)
def befores:List Oper->List (List Nat)->List (List Nat)
 | [],acc=>acc
 | o::r,acc=>befores r (acc++[(o.after.toList.filter (Region.binds .any)).foldr (fun e l=>Hy (e.on::acc.getD e.on []) l) []])
def iO (ops:List aK) (bs:List (List Nat)) (loud:List Nat) (i:Nat) (a:AOp):dB:=
 if a.isStill then .still
 else if a.isRead then .reads (loud.filter fun j=>(bs.getD i []).contains j).length (loud.length-(loud.filter fun j=>(bs.getD j []).contains i).length)
 else .loud
def louds:List aK->Nat->List Nat
 | [],_=>[]
 | o::r,i=>if o.op.isStill || o.op.isRead then louds r (i+1) else i::louds r (i+1)
def stances (all:List aK) (bs:List (List Nat)) (loud:List Nat):List aK->Nat->List (aK×dB)
 | [],_=>[]
 | o::r,i=>(o,iO all bs loud i o.op)::stances all bs loud r (i+1)
def apartOps (x y:aK):Bool:=
 (match x.dst with | some d=>!(y.looks.contains d) && y.dst != some d | none=>true) &&
 (match y.dst with | some d=>!(x.looks.contains d) | none=>true)
def ja (o:Oper):List Nat:=(o.after.toList.filter (Region.binds .any)).map (·.on)
def ot (ops:List aK) (es bs:List (List Nat)) (loud:List Nat):Bool:=
 ((List.range ops.length).all fun i=>((es.getD i []).all fun j=>decide (j<i) && (bs.getD i []).contains j) && ((bs.getD i []).all fun j=>decide (j<i) && (es.getD i []).any fun e=>e == j || (bs.getD e []).contains j)) &&
 (loud.all fun i=>loud.all fun j=>decide (j<=i) || (bs.getD j []).contains i) &&
 ((List.range ops.length).all fun j=>(List.range j).all fun i=>(bs.getD j []).contains i || (match ops[i]?,ops[j]? with | some x,some y=>apartOps x y | _,_=>false))
structure I0 where
 i:Nat
 p:Nat
 d:Nat
 s:Nat
 t:TypeId
 e:TypeId
 z:List AV
 sz:Nat
 by_:Nat
 deriving Inhabited
def isTmp (d:Nat):Operand->Bool
 | .tmp t=>t == d
 | _=>false
def tmpOf:Operand->Option Nat
 | .tmp t=>some t
 | _=>none
def IF (P:Program) (ops:Array Oper) (l:List aK) (i:Nat):Option I0:=
 match l[i]?,ops[i]? with
 | some ⟨some d,.mkslice sz by_ z (.tmp s) (.tmp s'),none⟩,some o=>
  match o.op with
  | .makeSlice t a b=>match P.underlying t,tmpOf a,tmpOf b with
   | some (.slice e),some a,some b=>if a=s/\b=s/\s'=s then (l.findIdx? fun x=>x.dst == some s).map fun p=>⟨i,p,d,s,t,e,z,sz,by_⟩ else none
   | _,_,_=>none
  | _=>none
 | _,_=>none
def isMk:AOp->Bool
 | .mkslice ..=>true
 | _=>false
def pA (l:List aK) (Y:Nat->Bool) (f1 f2:I0):List aK:=
 l.mapIdx fun i a=>if i == f1.i then ⟨some f1.d,.mv (.const undefA),none⟩ else if i == f2.i then ⟨some f2.d,.mv (.const undefA),none⟩ else if Y i then ⟨none,.mv (.const undefA),none⟩ else a
def IE (P:Program) (al:List aK) (bs:List (List Nat)) (f:I0):Bool:=
 sizeT P f.e == some f.sz && bytesT P f.e == some f.by_ && (match zeroT P f.e with | some z=>AV.beqs z f.z | none=>false) && f.z.length == f.sz && (bs.getD f.i []).contains f.p &&
 ((List.range al.length).all fun j=>match al[j]? with | some o=>!(o.dst == some f.s) || j == f.p | none=>true)
def IG (P:Program) (ops:Array Oper) (l al:List aK) (bs:List (List Nat)) (Y:Nat->Bool) (f1 f2:I0):Bool:=
 IE P al bs f1 && IE P al bs f2 && f1.d != f2.d && f1.i != f2.i && f1.s != f1.d && f1.s != f2.d && f2.s != f1.d && f2.s != f2.d && !(Y f1.i) && !(Y f2.i) &&
 ((List.range ops.size).all fun i=>match ops[i]?,l[i]? with
  | some o,some a=>o.guard.isNone && a.guard.isNone && a.dst == o.dst && (i == f1.i || i == f2.i || Y i || (o.op.operands.toList.all (fun x=>!(isTmp f1.d x) && !(isTmp f2.d x)) && o.dst != some f1.d && o.dst != some f2.d))
  | _,_=>false) &&
 ((List.range ops.size).all fun y=>!(Y y) || (List.range ops.size).all fun i=>(Y i && decide (y<=i)) || (bs.getD y []).contains i) && ((List.range ops.size).all fun i=>Y i || (bs.getD i []).all fun k=>!(Y k)) &&
 ot al (ops.toList.map ja) bs (louds al 0) && P.follows .mixedOrders
def ui (P:Program) (ops:Array Oper) (l:List aK):Option ACode:=
 let bs:=befores ops.toList []
 match (List.range l.length).filter (fun i=>match l[i]? with | some a=>isMk a.op | none=>false) with
 | [i1,i2]=>match IF P ops l i1,IF P ops l i2 with
  | some f1,some f2=>
   let Y:=fun y=>(bs.getD y []).contains i1;let al:=pA l Y f1 f2
   if IG P ops l al bs Y f1 f2 then
    some (.seq (.region [⟨some f1.d,.mv (.const undefA),none⟩,⟨some f2.d,.mv (.const undefA),none⟩]) (.seq (.draw (stances al bs (louds al 0) al 0)) (.region ((⟨some f1.d,.mkslice f1.sz f1.by_ f1.z (.tmp f1.s) (.tmp f1.s),none⟩:aK)::⟨some f2.d,.mkslice f2.sz f2.by_ f2.z (.tmp f2.s) (.tmp f2.s),none⟩::⟨none,.lenS (.tmp f1.d),none⟩::⟨none,.lenS (.tmp f2.d),none⟩::((List.range l.length).filter Y).filterMap fun i=>l[i]?))))
   else none
  | _,_=>none
 | _=>none
structure XI where
 i1:Nat
 i2:Nat
 d:Nat
 t:TypeId
 n:Nat
 z:List AV
 x:AOpd
 deriving Inhabited
def Y5:AOp->Bool
 | .alloc _=>true
 | _=>false
def MV (d:Nat):AOp->Bool
 | .store _ (.tmp t) _=>t == d
 | _=>false
def M9 (ops:Array Oper) (l:List aK):Option XI:=
 match l.findIdx? fun a=>Y5 a.op with
 | none=>none
 | some i1=>match l[i1]?,ops[i1]? with
  | some ⟨some d,.alloc z,none⟩,some o=>match o.op with
   | .alloc t=>match l.findIdx? fun a=>MV d a.op with
    | none=>none
    | some i2=>match l[i2]? with
     | some ⟨none,.store n (.tmp _) x,none⟩=>some ⟨i1,i2,d,t,n,z,x⟩
     | _=>none
   | _=>none
  | _,_=>none
def fl1Ops (l:List aK) (f:XI):List aK:=
 l.mapIdx fun i a=>if i == f.i1 then ⟨some f.d,.mv (.const undefA),none⟩ else if i == f.i2 then ⟨some f.d,.nat 5 f.x (.const (.agg f.z)),none⟩ else a
def opdIs (d:Nat):AOpd->Bool
 | .tmp t=>t == d
 | _=>false
def fl1Ok (P:Program) (ops:Array Oper) (l al:List aK) (bs:List (List Nat)) (f:XI):Bool:=
 f.i1 != f.i2 && (bs.getD f.i2 []).contains f.i1 && f.n == f.z.length && !(opdIs f.d f.x) && (match zeroT P f.t with | some z=>AV.beqs z f.z | none=>false) &&
 ((List.range ops.size).all fun i=>match ops[i]?,l[i]? with
  | some o,some a=>o.guard.isNone && a.guard.isNone && a.dst == o.dst && (i == f.i1 || i == f.i2 || (o.op.operands.toList.all (fun x=>!(isTmp f.d x)) && o.dst != some f.d))
  | _,_=>false) &&
 ot al (ops.toList.map ja) bs (louds al 0) && P.follows .mixedOrders
def CY (P:Program) (ops:Array Oper) (l:List aK):Option ACode:=
 match M9 ops l with
 | some f=>let bs:=befores ops.toList [];let al:=fl1Ops l f;if fl1Ok P ops l al bs f then some (.seq (.region [⟨some f.d,.mv (.const undefA),none⟩]) (.seq (.draw (stances al bs (louds al 0) al 0)) (.region [⟨none,.nilCheck (.tmp f.d),none⟩]))) else none
 | none=>none
def ow (P:Program) (G:Nat) (ops:Array Oper) (draw:Bool):Option ACode:=
 match fO P G ops ops.toList with
 | none=>none
 | some l=>
  if draw then
   let bs:=befores ops.toList []
   let loud:=louds l 0
   if ot l (ops.toList.map ja) bs loud && P.follows .mixedOrders then some (.draw (stances l bs loud l 0)) else
    let l2:=l.map j8
    let loud2:=louds l2 0
    if ot l2 (ops.toList.map ja) bs loud2 && P.follows .mixedOrders then some (.draw (stances l2 bs loud2 l2 0)) else match ui P ops l with
     | some c=>some c
     | none=>CY P ops l
  else some (.region l)
def fm (P:Program) (G:Nat):Code->Option ACode
 | .skip=>some .skip
 | .region _ ops draw=>ow P G ops draw
 | .seq a b=>match fm P G a,fm P G b with
  | some x,some y=>some (.seq x y)
  | _,_=>none
 | .cond c a b=>match compOpd G c,fm P G a,fm P G b with
  | some c,some x,some y=>some (.cond c x y)
  | _,_,_=>none
 | .block id a=>(fm P G a).map (.block id)
 | .loop a=>(fm P G a).map .loop
 | .scope a=>fm P G a
 | .label _=>some .skip
 | .exit id=>some (.exit id)
 | .ret=>some .ret
 | _=>none
def kX (P:Program):List ResultVar->Option (List rz)
 | []=>some []
 | .tmp t::r=>(kX P r).map (.tmp t::·)
 | .cell t ty::r=>match aggT P ty,sizeT P ty,kX P r with
  | some true,some n,some l=>some (.cellN t n::l)
  | some false,some _,some l=>some (.cell1 t::l)
  | _,_,_=>none
def jE (P:Program) (G:Nat) (fn:Func):Option dA:=
 match fn.body with
 | none=>none
 | some c=>match fm P G c,kX P fn.results.toList with
  | some b,some r=>if fn.name == "runtime.NumGoroutine" then none else some {ntmps:=fn.ntmps,results:=r,body:=b}
  | _,_=>none
def wh (P:Program) (G:Nat) (T:gO):Prop:=∀ f F,T f=some F->∃ fn,P.funcs[f]?=some fn/\jE P G fn=some F
section
variable {x:AV} {b:Addr} {i n o:Nat} {c:Array Value} {cs zs:List AV} {l:List Nat} {xs:List Value}
theorem rY {ρ:eM} {v:Value} (h:rZ v=some x):x.rel ρ v:=by unfold rZ at h;split at h<;>first | (cases h;simp [AV.rel];done) | cases h
theorem mN {ρ:eM}:∀ {vs:List Value} {xs:List AV},ng vs=some xs->AV.rels ρ xs vs
 | [],xs,h=>by cases h;simp [AV.rels]
 | v::vs,xs,h=>by
  simp [ng] at h;split at h
  . rename_i x l h1 h2;cases h;simp only [AV.rels];exact ⟨v,vs,rfl,rY h1,mN h2⟩
  . cases h
theorem mE {ρ:eM} {v:Value} (h:ofValue v=some x):x.rel ρ v:=by
 unfold ofValue at h;split at h
 . rename_i cs;simp [ae] at h;obtain ⟨l,h1,rfl⟩:=h;simp [AV.rel];exact ⟨cs.toList,mN h1,by simp⟩
 . rename_i cs;simp [ae] at h;obtain ⟨l,h1,rfl⟩:=h;simp [AV.rel];exact ⟨cs.toList,mN h1,by simp⟩
 . exact rY h
theorem fM (ρ:eM):undefA.rel ρ undef:=by simp [undefA,undef,AV.rel,AV.rels]
section
variable {P:Program} {G:Nat} {ρ:eM} {h h':AHeap} {w:World} {fr:AFrame} {a:Act}
theorem aX (hf:AV.rels ρ fr a.tmps.toList) (hg:∀ g,g<G->ρ.addr[g]?=some ⟨g,0,none⟩) {x:Operand} {y:AOpd} (hc:compOpd G x=some y):(fr.eval y).rel ρ (a.eval x):=by
 cases x with
 | tmp t=>
  simp [compOpd,ai] at hc;subst hc;simp [AFrame.eval,Act.eval];have hl:=br hf;simp at hl;by_cases ht:t<fr.length
  . have ⟨x,h1,h2⟩:=da hf (ah ht);have h1':a.tmps[t]?=some x:=by simpa using h1
    simp [List.getD,ah ht,h1',h2]
  . have h1:fr[t]?=none:=aV (jZ ht);have h2:a.tmps[t]?=none:=Array.getElem?_eq_none (by rw [hl];exact jZ ht);simp [List.getD,h1,aE,h2,Option.getD_none];exact fM ρ
 | const v=>simp [compOpd,ae] at hc;obtain ⟨x,h1,rfl⟩:=hc;exact mE h1
 | global g=>
  simp only [compOpd] at hc;split at hc
  . cases hc;rename_i hlt;simp [AFrame.eval,Act.eval,AV.rel];exact ⟨_,hg g hlt,by simp [Addr.add]⟩
  . cases hc
 | func f=>simp [compOpd,ai] at hc;subst hc;simp [AFrame.eval,Act.eval,AV.rel,AV.rels]
theorem nD (hf:AV.rels ρ fr a.tmps.toList) (hg:∀ g,g<G->ρ.addr[g]?=some ⟨g,0,none⟩):∀ {xs:List Operand} {ys:List AOpd},compOpds G xs=some ys->AV.rels ρ (ys.map fr.eval) (xs.map a.eval)
 | [],ys,hc=>by cases hc;simp [AV.rels]
 | x::xs,ys,hc=>by
  simp [compOpds] at hc;split at hc
  . rename_i y l h1 h2;cases hc;simp only [aR,AV.rels];exact ⟨_,_,rfl,aX hf hg h1,nD hf hg h2⟩
  . cases hc
def Runs (P:Program) (G:Nat) (ρ:eM) (h:AHeap) (w:World) (s:Sem Next) (v:AV) (h':AHeap):Prop:=
 ∃ n w' ρ' x,s.run P w=.ok n w'/\(n=.value x\/(n=.skip/\x=undef))/\v.rel ρ' x/\Post G ρ h w ρ' h' w'
theorem Runs.val (r:fw G ρ h w) {s:Sem Next} {v:AV} {x:Value} (hs:s.run P w=.ok (.value x) w) (hv:v.rel ρ x):Runs P G ρ h w s v h:=
 ⟨_,w,ρ,x,hs,.inl rfl,hv,Post.refl r⟩
theorem jW (r:fw G ρ h w) {v:AV} (hc:h.cell i o=some v) (hb:ρ.addr[i]?=some b):∃ x,w.cell? (b.add o)=some x/\v.rel ρ x:=by
 unfold AHeap.cell AHeap.row at hc;split at hc
 . rename_i ro cs room ho;simp [uq] at hc;have hh:=r.obj i _ b ho hb;cases ro with
   | true=>exact hh.2 o v hc
   | false=>have ⟨hs,c,e,h1,h2,_⟩:=hh;have ⟨x,h3,h4⟩:=h2 o v hc;refine ⟨x,?_,h4⟩;rw [me hs,cell_of_row w _ _ c e _ h1];exact h3
 . simp at hc
theorem sQ {w:World} {ρ:eM}:∀ (cs:List AV) (b:Addr),(∀ (j:Nat) v,cs[j]?=some v->∃ x,w.cell? (b.add j)=some x/\v.rel ρ x)->
 ∃ xs,AV.rels ρ cs xs/\∀ (j:Nat) x,xs[j]?=some x->w.cell? (b.add j)=some x
 | [],b,_=>⟨[],by simp [AV.rels],by simp⟩
 | v::cs,b,hh=>by
  have ⟨x,h1,h2⟩:=hh 0 v rfl;obtain ⟨xs,h3,h4⟩:=sQ cs (b.add 1) fun j u hu=>by have ⟨y,h5,h6⟩:=hh (j+1) u (by simpa using hu);exact ⟨y,by rw [gN,j5 1 j];exact h5,h6⟩
  refine ⟨x::xs,by simp only [AV.rels];exact ⟨x,xs,rfl,h2,h3⟩,fun j y hy=>?_⟩;cases j with
  | zero=>simp at hy;subst hy;exact h1
  | succ j=>have:=h4 j y (by simpa using hy);rwa [gN,j5 1 j] at this
theorem oB (hc:h.jc i o n=some cs):cs.length=n/\∀ (j:Nat) v,cs[j]?=some v->h.cell i (o+j)=some v:=by
 unfold AHeap.jc at hc;cases hr:h.row i with
 | none=>simp [hr] at hc
 | some l=>
  simp only [hr,uq] at hc;split at hc
  . rename_i hle;cases hc;refine ⟨by simp;omega,fun j v hj=>?_⟩;simp only [cv,aN] at hj;split at hj
    . simp [AHeap.cell,hr,hj]
    . cases hj
  . cases hc
theorem qE (r:fw G ρ h w) (hc:h.jc i o n=some cs) (hb:ρ.addr[i]?=some b) :
 ∃ xs,AV.rels ρ cs xs/\xs.length=n/\∀ (j:Nat) x,xs[j]?=some x->w.cell? ((b.add o).add j)=some x:=by
 have ⟨hl,hget⟩:=oB hc;have ⟨xs,h1,h2⟩:=sQ (w:=w) (ρ:=ρ) cs (b.add o) fun j v hj=>by rw [gN];exact jW r (hget j v hj) hb
 exact ⟨xs,h1,by rw [br h1,hl],h2⟩
theorem dg {t:TypeId} (hs:sizeT P t=some n) (w:World):(sizeOf t).run P w=.ok n w:=by
 unfold sizeT at hs;cases hi:P.info? t with
 | none=>simp [hi] at hs
 | some i=>simp [hi] at hs;simp [sizeOf,typeInfo,hi,hs]
theorem fN {t:TypeId} {z:Value} (hs:zeroV P t=some z) (w:World):(zeroValue t).run P w=.ok z w:=by
 unfold zeroV at hs;cases hi:P.info? t with
 | none=>simp [hi] at hs
 | some i=>simp [hi] at hs;simp [zeroValue,typeInfo,hi,hs]
theorem m9 {t:TypeId} {b:Bool} (hs:aggT P t=some b) (w:World):(isAgg t).run P w=.ok b w:=by
 unfold aggT at hs;split at hs
 . rename_i fs hu;cases hs;simp [isAgg,run_underlying hu]
 . rename_i n e hu;cases hs;simp [isAgg,run_underlying hu]
 . rename_i d hn1 hn2 hu;cases hs;simp only [isAgg,Sem.run_bind,run_underlying hu,Result.andThen_ok];first | rfl | (split<;>simp_all)
 . cases hs
theorem rP (r:fw G ρ h w) {t:TypeId} {v:AV} (ht:aggT P t=some false) (hc:h.cell i o=some v) (hb:ρ.addr[i]?=some b) :
 ∃ x,(loadVar t (b.add o)).run P w=.ok x w/\v.rel ρ x:=by
 have ⟨x,h1,h2⟩:=jW r hc hb;exact ⟨x,by simp [loadVar,m9 ht,h1],h2⟩
theorem rO (r:fw G ρ h w) {t:TypeId} (ht:aggT P t=some true) (hs:sizeT P t=some n) (hc:h.jc i o n=some cs) (hb:ρ.addr[i]?=some b) :
 ∃ x,(loadVar t (b.add o)).run P w=.ok x w/\(AV.agg cs).rel ρ x:=by
 have ⟨xs,h1,h2,h3⟩:=qE r hc hb;refine ⟨.agg xs.toArray,?_,by simp only [AV.rel];exact ⟨xs,h1,rfl⟩⟩;have:=run_loadCells_list (P:=P) w (b.add o) xs h3;rw [h2] at this;simp [loadVar,m9 ht,dg hs,this]
theorem wY (cs:List AV) (o:Nat) (vs:List AV) (hl:o+vs.length<=cs.length) (j:Nat) :
 (splice cs o vs)[j]?=if j<o then cs[j]? else if j<o+vs.length then vs[j-o]? else cs[j]?:=by
 unfold splice;have hm:min o cs.length=o:=by omega
 rw [ej,dZ,hm];split
 . rename_i h1;simp [h1]
 . rename_i h1;rw [ej];split
   . rename_i h2;rw [pQ]
   . rename_i h2;rw [nQ,aN];congr 1;omega
theorem yQ (cs:List AV) (o:Nat) (vs:List AV) (hl:o+vs.length<=cs.length):(splice cs o vs).length=cs.length:=by simp [splice];omega
theorem H9 {b:Nat} (hc:∀ (j:Nat) v,cs[j]?=some v->∃ x,c[b+j]?=some x/\v.rel ρ x) (h0:cs≠[]):b+cs.length<=c.size:=by have hp:0<cs.length:=eX.2 h0;have ⟨x,h1,_⟩:=hc (cs.length-1) cs[cs.length-1] (ah (by omega));have:=(au.1 h1).1;omega
theorem mA (r:fw G ρ h w) {vs:List AV} (hw:h.write i o vs=some h') (hb:ρ.addr[i]?=some b) (hx:AV.rels ρ vs xs) :
 ∃ w',(storeCells (b.add o) xs).run P w=.ok () w'/\Post G ρ h w ρ h' w':=by
 unfold AHeap.write at hw
 split at hw
 case h_2=>cases hw
 rename_i cs room ho
 split at hw
 case isFalse=>cases hw
 rename_i hle
 cases hw
 have hlen:=br hx
 have hh:=r.obj i _ b ho hb
 have hh':=hh
 have ⟨hs,c,e,h1,h2,h3⟩:=hh'
 cases hv:vs with
 | nil=>
  subst hv;simp [AV.rels] at hx;subst hx;have hsp:splice cs o []=cs:=by simp [splice]
  refine ⟨w,rfl,?_⟩;rw [hsp];exact Post.put r ho hb rfl rfl rfl rfl rfl rfl (fun _ _=>rfl) hh
 | cons v0 vr=>
  have hne:cs≠[]:=by intro e;subst e;rw [hv] at hle;simp at hle
  have hroom:=H9 h2 hne;have hone:∀ x∈xs,x.oneCell'=true:=by
   intro x hxm;obtain ⟨j,hj,rfl⟩:=eY hxm;have hjv:j<vs.length:=by omega
   have ⟨y,h4,h5⟩:=da hx (ah hjv);rw [ah hj] at h4;obtain rfl:=aw h4;exact Ie h5 (aQ.1 hle.2 _ (j6 hjv))
  have hst:=run_storeCells_at P b.block (b.off+o) e xs 0 c w h1 (by omega) hone;simp only [dJ] at hst;refine ⟨_,by rw [me hs];exact hst,?_⟩;rw [<- hv];refine Post.put r ho hb rfl rfl rfl rfl rfl (by simp) (fun k hk=>setRow_other w _ _ _ hk) ⟨hs,_,e,setRow_heap w _ c _ e _ h1,?_,?_⟩
  . intro j u hj;rw [wY cs o vs hle.1] at hj;have hcl:min (b.off+o) c.size=b.off+o:=by omega
    have key:(c.toList.take (b.off+o)++xs++c.toList.drop (b.off+o+xs.length))[b.off+j]? =
     if b.off+j<b.off+o then c[b.off+j]? else if b.off+j<b.off+o+xs.length then xs[b.off+j-(b.off+o)]? else c[b.off+j]?:=by
     rw [cX,ej]
     simp [dZ,dD,hcl]
     split
     . rename_i hlt;simp [hlt]
     . rename_i hlt
       rw [ej]
       split
       . rename_i h6
         rw [pQ]
       . rename_i h6
         rw [nQ,aN]
         simp only [bt]
         congr 1;omega
    simp only [gI,key];by_cases hjo:j<o
    . rw [if_pos hjo] at hj;rw [if_pos (by omega)];exact h2 j u hj
    . rw [if_neg hjo] at hj;rw [if_neg (by omega)];by_cases hjv:j<o+vs.length
      . rw [if_pos hjv] at hj;rw [if_pos (by omega),show b.off+j-(b.off+o)=j-o by omega];exact da hx hj
      . rw [if_neg hjv] at hj;rw [if_neg (by omega)];exact h2 j u hj
  . intro k s hk;obtain ⟨m,h4,h5⟩:=h3 k s hk;refine ⟨m,h4,?_⟩;simp;omega
theorem B0 (r:fw G ρ h w) {t:TypeId} {v:AV} {x:Value} (hs:sizeT P t=some n) (hn:v.cells.length=n) (hw:h.write i o v.cells=some h') (hb:ρ.addr[i]?=some b) (hx:v.rel ρ x) :
 ∃ w',(storeVar t (b.add o) x).run P w=.ok () w'/\Post G ρ h w ρ h' w':=by
 have hc:=nW hx;have ⟨w',h1,h2⟩:=mA (P:=P) r hw hb hc;have hl:=br hc;simp at hl;exact ⟨w',by simp [storeVar,dg hs,hl,hn,h1],h2⟩
theorem new_holds {w':World} {e:TypeId} {b:Nat} {ρ':eM} {room:Option (Nat×Nat)} (hw:w'.heap[b]?=some (.cells c e (0,0)))
 (hc:∀ (j:Nat) v,cs[j]?=some v->∃ x,c[j]?=some x/\v.rel ρ' x) (hr:∀ k s,room=some (k,s)->∃ m,ρ'.cap[k]?=some m/\m*s<=c.size):(AObj.cells false cs room).holds ρ' w' ⟨b,0,none⟩:=
 ⟨rfl,c,e,hw,fun j v hj=>by simpa using hc j v hj,fun k s hk=>by simpa using hr k s hk⟩
theorem rW (r:fw G ρ h w) (e:TypeId) (hx:AV.rels ρ cs xs) :
 Post G ρ h w ⟨ρ.addr++[⟨w.heap.size,0,none⟩],ρ.cap++[],ρ.lit⟩ (h.push (Qc cs none)) (w.alloc (.cells xs.toArray e)):=by
 have hp:=Post.push r (o':=.cells false cs none) (w':=w.alloc (.cells xs.toArray e)) (.cells xs.toArray e) [] [] rfl (by simp) rfl rfl rfl rfl
  (new_holds (e:=e) (c:=xs.toArray) (heap_alloc_new w _) (fun j v hj=>by
   have ⟨x,h1,h2⟩:=da hx hj;exact ⟨x,by simpa using h1,AV.gT ⟨⟨_,rfl⟩,⟨_,rfl⟩,⟨[],by simp⟩⟩ _ _ h2⟩) (by intro k s hk;cases hk))
 simpa [AHeap.push] using hp
theorem xq (r:fw G ρ h w) :(⟨ρ.addr++[⟨w.heap.size,0,none⟩],ρ.cap++l,ρ.lit⟩:eM).addr[h.objs.length]?=some ⟨w.heap.size,0,none⟩:=by simp [<- r.jK]
theorem Ip (r:fw G ρ h w) :(AV.ptr h.objs.length 0).rel ⟨ρ.addr++[⟨w.heap.size,0,none⟩],ρ.cap++l,ρ.lit⟩ (.pointer (some ⟨w.heap.size,0,none⟩)):=by simp [AV.rel];exact ⟨_,xq (l:=l) r,by simp [Addr.add]⟩
theorem tQ (r:fw G ρ h w) {m:Nat} {c:Cap} (hc:c.is ⟨ρ.addr++[⟨w.heap.size,0,none⟩],ρ.cap++l,ρ.lit⟩ m):(AV.slice h.objs.length 0 n c).rel ⟨ρ.addr++[⟨w.heap.size,0,none⟩],ρ.cap++l,ρ.lit⟩ (.slice (some ⟨w.heap.size,0,none⟩) n m):=by simp only [AV.rel];exact ⟨_,m,xq (l:=l) r,hc,.inl (by simp [Addr.add])⟩
end
theorem FC {P:Program} {t:TypeId} (h:zeroT P t=some zs):∃ z v,zeroV P t=some z/\ofValue z=some v/\zs=v.cells:=by
 unfold zeroT at h;cases hz:zeroV P t with
 | none=>simp [hz] at h
 | some z=>simp [hz,uq,ae] at h;obtain ⟨v,h1,rfl⟩:=h;exact ⟨z,v,rfl,h1,rfl⟩
theorem dO {P:Program} {t:TypeId} (h:zeroT P t=some zs) (ρ:eM):∃ z,zeroV P t=some z/\AV.rels ρ zs z.cells.toList:=by obtain ⟨z,v,h1,h2,rfl⟩:=FC h;exact ⟨z,h1,nW (mE h2)⟩
end
section
variable {P:Program} {G:Nat} {ρ:eM} {h h':AHeap} {w:World} {fr:AFrame} {a:Act}
theorem rel_int {k:IntKind} {n:Int} {x:Value} (hx:(AV.int k n).rel ρ x):x=.int k n:=by simpa only [AV.rel] using hx
theorem iR {b:Bool} {x:Value} (hx:(AV.bool b).rel ρ x):x=.bool b:=by simpa only [AV.rel] using hx
theorem nY {b:ByteArray} {x:Value} (hx:(AV.str b).rel ρ x):x=.string b:=by simpa only [AV.rel] using hx
theorem kU {i o:Nat} {x:Value} (hx:(AV.ptr i o).rel ρ x):∃ b,ρ.addr[i]?=some b/\x=.pointer (some (b.add o)):=by simpa only [AV.rel] using hx
theorem rT {cs:List AV} {x:Value} (hx:(AV.agg cs).rel ρ x):∃ l,AV.rels ρ cs l/\x=.agg l.toArray:=by simpa only [AV.rel] using hx
theorem JX {cs:List AV} {x:Value} (hx:(AV.tuple cs).rel ρ x):∃ l,AV.rels ρ cs l/\x=.tuple l.toArray:=by simpa only [AV.rel] using hx
theorem BZ (e:TypeId) (v:Value):(newVar e v).run P w=.ok ⟨w.heap.size,0,none⟩ (w.alloc (.cells v.cells e)):=by simp [newVar,newRow]
theorem Fl (r:fw G ρ h w) {e:TypeId} {zs:List AV} (hz:zeroT P e=some zs) :
 Runs P G ρ h w (do pure (.value (<- Instr.alloc e true (.tuple #[])))) (.ptr h.objs.length 0) (h.push (Qc zs none)):=by
 have ⟨z,h1,h2⟩:=dO hz ρ;refine ⟨_,_,_,_,?_,.inl rfl,Ip (l:=[]) r,rW r e h2⟩;simp [Instr.alloc,fN h1,BZ]
theorem KZ (r:fw G ρ h w) {e:TypeId} {v:AV} {x:Value} (hv:v.rel ρ x) :
 Runs P G ρ h w (do pure (.value (<- Instr.box e x))) (.ptr h.objs.length 0) (h.push (Qc v.cells none)):=by
 refine ⟨_,_,_,_,?_,.inl rfl,Ip (l:=[]) r,rW r e (nW hv)⟩;simp [Instr.box,BZ]
theorem Ej (r:fw G ρ h w) {t:TypeId} {i o:Nat} {v:AV} {x:Value} (hx:(AV.ptr i o).rel ρ x) (ht:aggT P t=some false) (hc:h.cell i o=some v) :
 Runs P G ρ h w (do pure (.value (<- Instr.loadAt t x))) v h:=by
 obtain ⟨b,hb,rfl⟩:=kU hx;have ⟨y,h1,h2⟩:=rP (P:=P) r ht hc hb;exact Runs.val r (by simp [Instr.loadAt,Instr.sureAddr,h1]) h2
theorem Ei (r:fw G ρ h w) {t:TypeId} {i o n:Nat} {cs:List AV} {x:Value} (hx:(AV.ptr i o).rel ρ x) (ht:aggT P t=some true) (hs:sizeT P t=some n) (hc:h.jc i o n=some cs) :
 Runs P G ρ h w (do pure (.value (<- Instr.loadAt t x))) (.agg cs) h:=by
 obtain ⟨b,hb,rfl⟩:=kU hx;have ⟨y,h1,h2⟩:=rO (P:=P) r ht hs hc hb;exact Runs.val r (by simp [Instr.loadAt,Instr.sureAddr,h1]) h2
theorem DJ (r:fw G ρ h w) {t:TypeId} {i o n:Nat} {v:AV} {x y:Value} (hx:(AV.ptr i o).rel ρ x) (hy:v.rel ρ y) (hs:sizeT P t=some n) (hn:v.cells.length=n) (hw:h.write i o v.cells=some h') :
 Runs P G ρ h w (do Instr.storeAt t x y;pure .skip) undefA h':=by
 obtain ⟨b,hb,rfl⟩:=kU hx;have ⟨w',h1,h2⟩:=B0 (P:=P) r hs hn hw hb hy;exact ⟨.skip,w',ρ,undef,by simp [Instr.storeAt,Instr.sureAddr,h1],.inr ⟨rfl,rfl⟩,fM ρ,h2⟩
theorem EO:∀ (vs:List Value) (k off:Nat) (cs:Array Value),off+k+vs.length<=cs.size->
 ((vs.zipIdx k).foldl (fun cs (c,j)=>cs.setIfInBounds (off+j) c) cs).size=cs.size/\
 ∀ j,((vs.zipIdx k).foldl (fun cs (c,j)=>cs.setIfInBounds (off+j) c) cs)[j]?=if j<off+k then cs[j]? else if j<off+k+vs.length then vs[j-(off+k)]? else cs[j]?
 | [],k,off,cs,_=>by refine ⟨rfl,fun j=>?_⟩;simp only [List.zipIdx_nil,List.foldl_nil,bw,dJ];split<;>rfl
 | v::vs,k,off,cs,hl=>by
  simp [bn] at hl;have ⟨h1,h2⟩:=EO vs (k+1) off (cs.setIfInBounds (off+k) v) (by simp;omega);simp only [List.zipIdx_cons,List.foldl_cons];refine ⟨by rw [h1];simp,fun j=>?_⟩;rw [h2];simp [bn];by_cases e:j=off+k
  . subst e;rw [pQ,if_neg (by omega),if_pos (by omega),Array.getElem?_setIfInBounds_self_of_lt (by omega)];simp
  . have hne:(cs.setIfInBounds (off+k) v)[j]?=cs[j]?:=by rw [aP (fun h=>e h.symm)]
    simp only [hne];by_cases h3:j<off+k
    . rw [if_pos (by omega),if_pos h3]
    . rw [if_neg (by omega),if_neg h3];by_cases h4:j<off+k+(vs.length+1)
      . rw [if_pos (by omega),if_pos h4]
        obtain ⟨m,hm⟩:∃ m,j-(off+k)=m+1:=⟨j-(off+k)-1,by omega⟩
        rw [hm,av];congr 1;omega
      . rw [if_neg (by omega),if_neg h4]
theorem KG {cs:List AV} {xs:Array Value} {vs:List AV} {y:Value} {off:Nat} (hx:AV.rels ρ cs xs.toList) (hy:AV.rels ρ vs y.cells.toList) (hl:off+vs.length<=cs.length) :
 AV.rels ρ (splice cs off vs) (y.cells.zipIdx.foldl (fun cs (c,j)=>cs.setIfInBounds (off+j) c) xs).toList:=by
 have e1:=br hx;have e2:=br hy;simp at e1 e2;have hf:=EO y.cells.toList 0 off xs (by simp;omega);have hz:(y.cells.zipIdx.foldl (fun cs (c,j)=>cs.setIfInBounds (off+j) c) xs)=((y.cells.toList.zipIdx 0).foldl (fun cs (c,j)=>cs.setIfInBounds (off+j) c) xs):=by rw [<- Array.foldl_toList,Array.toList_zipIdx]
 rw [hz];refine pV (by simp [hf.1,yQ cs off vs hl,e1]) fun j v hj=>?_;rw [wY cs off vs hl] at hj;have hj':=hf.2 j;simp [dJ,dD] at hj';simp [bt,hj'];by_cases h3:j<off
 . rw [if_pos h3] at hj ⊢;simpa using da hx hj
 . rw [if_neg h3] at hj ⊢;by_cases h4:j<off+vs.length
   . rw [if_pos h4] at hj;rw [pQ];simpa using da hy hj
   . rw [if_neg h4] at hj;rw [nQ];simpa using da hx hj
theorem lU (hf:AV.rels ρ fr a.tmps.toList) (hg:∀ g,g<G->ρ.addr[g]?=some ⟨g,0,none⟩) {place:Nat->Option (Nat×Nat)} :
 ∀ (ps:List (Nat×Operand)) (l:List ((Nat×Nat)×AOpd)) (cs cs':List AV) (xs:Array Value),
  (l.length=ps.length/\∀ (j:Nat) p q,ps[j]?=some p->l[j]?=some q->place p.1=some q.1/\compOpd G p.2=some q.2)->
  kr fr.eval cs l=some cs'->AV.rels ρ cs xs.toList->∃ ys:Array Value,Instr.fill place xs (ps.map fun p=>(p.1,a.eval p.2))=some ys/\AV.rels ρ cs' ys.toList
 | [],l,cs,cs',xs,hl,hfill,hx=>by have:l=[]:=aG (by simpa using hl.1);subst this;cases hfill;exact ⟨xs,rfl,hx⟩
 | (i,x)::ps,l,cs,cs',xs,hl,hfill,hx=>by
  cases l with
  | nil=>simp at hl
  | cons q l=>
   have ⟨⟨off,size⟩,y⟩:=q;have ⟨hp,hc⟩:=hl.2 0 _ _ rfl rfl;simp only at hp hc;simp only [kr] at hfill;split at hfill;case isFalse=>cases hfill
   rename_i hle;have hv:=aX hf hg hc;have hcells:=nW hv;have e1:=br hx;have e2:=br hcells;simp at e1 e2;have ⟨ys,h1,h2⟩:=lU hf hg ps l _ cs' _ ⟨by simpa using hl.1,fun j p q hp hq=>hl.2 (j+1) p q (by simpa using hp) (by simpa using hq)⟩ hfill (KG hx hcells (by rw [hle.1];exact hle.2));refine ⟨ys,?_,h2⟩;simp only [aR,Instr.fill,hp];obtain ⟨q1,q2⟩:=hle;rw [if_neg (by simp;omega)];exact h1
theorem lX {t:TypeId}:∀ (ps:List (Nat×Operand)) (l:List ((Nat×Nat)×AOpd)),lD P G t ps=some l->
 l.length=ps.length/\∀ (j:Nat) p q,ps[j]?=some p->l[j]?=some q->mM P t p.1=some q.1/\compOpd G p.2=some q.2
 | [],l,hc=>by cases hc;simp
 | (i,x)::ps,l,hc=>by
  simp [lD] at hc;split at hc
  . rename_i p y ys h1 h2 h3;cases hc;have ⟨h4,h5⟩:=lX ps ys h3;refine ⟨by simp [h4],fun j p q hp hq=>?_⟩;cases j with
    | zero=>simp at hp hq;subst hp hq;exact ⟨h1,h2⟩
    | succ j=>exact h5 j p q (by simpa using hp) (by simpa using hq)
  . cases hc
theorem lV {s:Nat}:∀ (ps:List (Nat×Operand)) (l:List ((Nat×Nat)×AOpd)),lC s G ps=some l->
 l.length=ps.length/\∀ (j:Nat) p q,ps[j]?=some p->l[j]?=some q->(fun i=>some (i*s,s)) p.1=some q.1/\compOpd G p.2=some q.2
 | [],l,hc=>by cases hc;simp
 | (i,x)::ps,l,hc=>by
  simp [lC] at hc;split at hc
  . rename_i y ys h2 h3;cases hc;have ⟨h4,h5⟩:=lV ps ys h3;refine ⟨by simp [h4],fun j p q hp hq=>?_⟩;cases j with
    | zero=>simp at hp hq;subst hp hq;exact ⟨rfl,h2⟩
    | succ j=>exact h5 j p q (by simpa using hp) (by simpa using hq)
  . cases hc
theorem Ef {α β:Type} (P:Program) (w:World) (f:α->Sem β) (g:α->β):∀ (l:List α),(∀ x∈l,(f x).run P w=.ok (g x) w)->(l.mapM f).run P w=.ok (l.map g) w
 | [],_=>by simp
 | x::l,hl=>by have h1:=hl x (by simp);have h2:=Ef P w f g l fun y hy=>hl y (by simp [hy]);simp [List.mapM_cons,h1,h2]
theorem Lb {α β:Type} (P:Program) (w:World) (f:α->Sem β) (g:α->β) (l:Array α) (hl:∀ x∈l.toList,(f x).run P w=.ok (g x) w):(l.mapM f).run P w=.ok (l.map g) w:=by rw [Array.mapM_eq_mapM_toList];simp only [Sem.run_map,Ef P w f g l.toList hl,Result.andThen_ok];congr 1;apply nR;simp
theorem C9 (r:fw G ρ h w) (hf:AV.rels ρ fr a.tmps.toList) {t:TypeId} {fs:Array Field} {ps:Array (Nat×Operand)} {z cs:List AV} {l:List ((Nat×Nat)×AOpd)} (hz:zeroT P t=some z)
 (hu:P.underlying t=some (.struct fs)) (hsz:(fs.toList.all fun f=>(sizeT P f.type).isSome)=true)
 (hc:lD P G t ps.toList=some l) (he:kr fr.eval z l=some cs) :
 Runs P G ρ h w (do pure (.value (<- Instr.build t (ps.map fun (i,x)=>(i,a.eval x))))) (.agg cs) h:=by
 have ⟨zv,h1,h2⟩:=dO hz ρ
 have ⟨hl,hsp⟩:=lX ps.toList l hc
 have hm:=Lb P w (fun f:Field=>do pure (f.offset,<- sizeOf f.type)) (fun f=>(f.offset,(sizeT P f.type).getD 0)) fs (fun f hfm=>by
  have:=aQ.1 hsz f hfm;have ⟨n,hn⟩:=sZ.1 this
  simp [dg hn,hn])
 have ⟨ys,h3,h4⟩:=lU hf r.glob (place:=fun i=>(fs.map fun f=>(f.offset,(sizeT P f.type).getD 0))[i]?) ps.toList l z cs zv.cells ⟨hl,fun j p q hp hq=>by
  have ⟨h5,h6⟩:=hsp j p q hp hq;refine ⟨?_,h6⟩;simp [mM,hu] at h5;split at h5
  . rename_i f hfi;simp [ae] at h5;have ⟨n,hn,hq1⟩:=h5;simp [hfi,hn,hq1]
  . cases h5⟩ he h2
 refine Runs.val r (x:=.agg ys) ?_ (by simp [AV.rel];exact ⟨ys.toList,h4,by simp⟩)
 have hmap:(ps.map fun (i,x)=>(i,a.eval x)).toList=ps.toList.map fun p=>(p.1,a.eval p.2):=by simp
 simp only [Instr.build,Sem.run_bind,fN h1,Result.andThen_ok,run_underlying hu,hm,hmap,h3,Sem.run_pure]
theorem E8 (r:fw G ρ h w) (hf:AV.rels ρ fr a.tmps.toList) {t:TypeId} {n e:Nat} {ps:Array (Nat×Operand)} {z cs:List AV} {l:List ((Nat×Nat)×AOpd)} (hz:zeroT P t=some z)
 (hu:P.underlying t=some (.array n e)) (hc:lD P G t ps.toList=some l) (he:kr fr.eval z l=some cs) (hsz:(sizeT P e).isSome=true) :
 Runs P G ρ h w (do pure (.value (<- Instr.build t (ps.map fun (i,x)=>(i,a.eval x))))) (.agg cs) h:=by
 have ⟨zv,h1,h2⟩:=dO hz ρ;have ⟨hl,hsp⟩:=lX ps.toList l hc;have ⟨s,hs⟩:=sZ.1 hsz;have ⟨ys,h3,h4⟩:=lU hf r.glob (place:=fun i=>some (i*s,s)) ps.toList l z cs zv.cells ⟨hl,fun j p q hp hq=>by
  have ⟨h5,h6⟩:=hsp j p q hp hq;refine ⟨?_,h6⟩;simp only [mM,hu,hs,fj] at h5;exact h5⟩ he h2
 refine Runs.val r (x:=.agg ys) ?_ (by simp [AV.rel];exact ⟨ys.toList,h4,by simp⟩);have hmap:(ps.map fun (i,x)=>(i,a.eval x)).toList=ps.toList.map fun p=>(p.1,a.eval p.2):=by simp
 simp [Instr.build,Sem.run_bind,fN h1,Result.andThen_ok,run_underlying hu,dg hs,hmap,h3,Sem.run_pure]
theorem xi (n:Nat) (z:List AV):(rep n z).length=n*z.length:=by
 induction n with
 | zero=>simp [rep]
 | succ n ih=>simp [rep,ih,dy,j5]
theorem Ic (z:List AV):∀ (n j:Nat),j<n*z.length->(rep n z)[j]?=z[j % z.length]?
 | 0,j,hj=>by simp at hj
 | n+1,j,hj=>by
  simp [rep];rw [ej];split
  . rename_i h1;rw [bL h1]
  . rename_i h1;have hp:0<z.length:=by
     rcases dd z.length with h0 | h0
     . rw [h0] at hj;simp at hj
     . exact h0
    have e1:=dy n z.length;have e2:j % z.length=(j-z.length) % z.length:=Nat.mod_eq_sub_mod (by omega);rw [Ic z n (j-z.length) (by rw [Nat.succ_eq_add_one] at e1;omega),e2]
theorem rS {z:List AV} {zv:Array Value} (hz:AV.rels ρ z zv.toList) (n:Nat):AV.rels ρ (rep n z) ((Array.range (n*z.length)).map (zv[· % zv.size]!)).toList:=by
 have hl:=br hz;simp at hl;refine pV (by simp [xi]) fun j v hj=>?_;have hlt:=(aa.1 hj).1;rw [xi] at hlt;rw [Ic z n j hlt] at hj;have ⟨x,h1,h2⟩:=da hz hj;refine ⟨x,?_,h2⟩;simp [bt] at h1;have hm:=(au.1 h1)
 have ⟨hm1,hm2⟩:=hm;have h3:zv[j % zv.size]! = x:=by rw [hl,getElem!_pos zv _ hm1];exact hm2
 simp [hlt,h3]
theorem NI (r:fw G ρ h w) (hf:AV.rels ρ fr a.tmps.toList) {t e:TypeId} {s len:Nat} {ps:Array (Nat×Operand)} {z cs:List AV} {l:List ((Nat×Nat)×AOpd)} (hu:P.underlying t=some (.slice e))
 (hs:sizeT P e=some s) (hz:zeroT P e=some z) (hlen:len*s<=16777216) (hzs:z.length=s) (hc:lC s G ps.toList=some l) (he:kr fr.eval (rep len z) l=some cs) :
 ∃ ys:List Value,AV.rels ρ cs ys/\(Instr.buildSlice t len (ps.map fun (i,x)=>(i,a.eval x))).run P w=.ok (.slice (some ⟨w.heap.size,0,none⟩) len len) (w.alloc (.cells ys.toArray e)):=by
 have ⟨zv,h1,h2⟩:=dO hz ρ;have hrep:=rS h2 len;rw [hzs] at hrep;have ⟨ys,h3,h4⟩:=lU hf r.glob (place:=fun i=>some (i*s,s)) ps.toList l _ cs _ (lV ps.toList l hc) he hrep;refine ⟨ys.toList,h4,?_⟩;have hmap:(ps.map fun (i,x)=>(i,a.eval x)).toList=ps.toList.map fun p=>(p.1,a.eval p.2):=by simp
 have h24:¬ (len*s>16777216):=by omega
 by_cases h0:len*s=0
 . have e0:∀ f:Nat->Value,(Array.range (len*s)).map f=#[]:=fun f=>by rw [h0];simp
   rw [e0] at h3;simp [Instr.buildSlice,run_underlying hu,dg hs,newRow,fN h1,h0];rw [show (Array.map (fun _=>(default:Value)) (Array.range 0))=#[] by simp];simp [h3]
 . simp [Instr.buildSlice,run_underlying hu,dg hs,h0,newRow,fN h1,h24,h3]
theorem uk (r:fw G ρ h w) (hf:AV.rels ρ fr a.tmps.toList) {t e:TypeId} {s len:Nat} {ps:Array (Nat×Operand)} {z cs:List AV} {l:List ((Nat×Nat)×AOpd)} (hu:P.underlying t=some (.slice e))
 (hs:sizeT P e=some s) (hz:zeroT P e=some z) (hlen:len*s<=16777216) (hzs:z.length=s) (hc:lC s G ps.toList=some l) (he:kr fr.eval (rep len z) l=some cs) :
 Runs P G ρ h w (do pure (.value (<- Instr.buildSlice t len (ps.map fun (i,x)=>(i,a.eval x))))) (.slice h.objs.length 0 len (.exact len)) (h.push (Qc cs none)):=by
 have ⟨zv,h1,h2⟩:=dO hz ρ;have hrep:=rS h2 len;rw [hzs] at hrep;have ⟨ys,h3,h4⟩:=lU hf r.glob (place:=fun i=>some (i*s,s)) ps.toList l _ cs _ (lV ps.toList l hc) he hrep;refine ⟨_,_,_,_,?_,.inl rfl,tQ (l:=[]) r (c:=.exact len) (m:=len) rfl,rW r e h4⟩;have hmap:(ps.map fun (i,x)=>(i,a.eval x)).toList=ps.toList.map fun p=>(p.1,a.eval p.2):=by simp
 have h24:¬ (len*s>16777216):=by omega
 by_cases h0:len*s=0
 . have e0:∀ f:Nat->Value,(Array.range (len*s)).map f=#[]:=fun f=>by rw [h0];simp
   rw [e0] at h3;simp [Instr.buildSlice,run_underlying hu,dg hs,newRow,fN h1,h0];rw [show (Array.map (fun _=>(default:Value)) (Array.range 0))=#[] by simp];simp [h3]
 . simp [Instr.buildSlice,run_underlying hu,dg hs,h0,newRow,fN h1,h24,h3]
end
section
variable {P:Program} {G:Nat} {ρ:eM} {h h':AHeap} {w:World} {fr:AFrame} {a:Act}
theorem gQ (op:BinOp) (t:TypeId) (x y:Operand) (k k':IntKind) (m n:Int):(eqGuard op t x y (.int k m) (.int k' n)).run P w=.ok () w:=by cases op<;>simp [eqGuard]
theorem oJ (op:BinOp) (t:TypeId) (x y:Operand) (m n:ByteArray):(eqGuard op t x y (.string m) (.string n)).run P w=.ok () w:=by cases op<;>simp [eqGuard]
theorem m8 (op:BinOp) (t:TypeId) (x y:Operand) (m n:Bool):(eqGuard op t x y (.bool m) (.bool n)).run P w=.ok () w:=by cases op<;>simp [eqGuard]
theorem Bj (r:fw G ρ h w) {op:BinOp} {t:TypeId} {ox oy:Operand} {u v z:AV} {x y:Value} (hx:u.rel ρ x) (hy:v.rel ρ y) (hb:di op u v=some z) :
 Runs P G ρ h w (do pure (.value (<- (do eqGuard op t ox oy x y;binOp op t x y)))) z h:=by
 unfold di at hb;split at hb;all_goals first
  | cases hb;done
  | skip
 case h_1 k m k' n=>
  split at hb
  . cases hb;rename_i hn;obtain rfl:=rel_int hx;obtain rfl:=rel_int hy;have hn':¬ n<0:=by omega
    exact Runs.val r (by simp [gQ,binOp,Op.shift,hn'];rfl) (by simp [AV.rel])
  . cases hb
 case h_2 k m k' n=>
  split at hb
  . cases hb;rename_i hn;obtain rfl:=rel_int hx;obtain rfl:=rel_int hy;have hn':¬ n<0:=by omega
    exact Runs.val r (by simp [gQ,binOp,Op.shift,hn'];rfl) (by simp [AV.rel])
  . cases hb
 case h_6 k m k' n=>
  split at hb
  . cases hb;rename_i hk;obtain ⟨rfl,hn⟩:=hk;obtain rfl:=rel_int hx;obtain rfl:=rel_int hy;exact Runs.val r (by simp [gQ,binOp,Op.intDiv,hn];rfl) (by simp [AV.rel])
  . cases hb
 case h_7 k m k' n=>
  split at hb
  . cases hb;rename_i hk;obtain ⟨rfl,hn⟩:=hk;obtain rfl:=rel_int hx;obtain rfl:=rel_int hy;exact Runs.val r (by simp [gQ,binOp,Op.intDiv,hn];rfl) (by simp [AV.rel])
  . cases hb
 case h_18=>cases hb;obtain rfl:=nY hx;obtain rfl:=nY hy;exact Runs.val r (by simp [oJ,binOp,Op.stringOp];rfl) (by simp [AV.rel])
 case h_19=>cases hb;obtain rfl:=nY hx;obtain rfl:=nY hy;exact Runs.val r (by simp [oJ,binOp,Op.stringOp];rfl) (by simp [AV.rel])
 all_goals
  split at hb
  case isFalse=>cases hb
  cases hb;rename_i hk;subst hk;obtain rfl:=rel_int hx;obtain rfl:=rel_int hy;refine Runs.val r (by simp [gQ,binOp,Op.intArith,Op.intBits,Op.intCmp];rfl) (by simp [AV.rel])
theorem Ly (r:fw G ρ h w) {op:UnOp} {u z:AV} {x:Value} (hx:u.rel ρ x) (hb:Ue op u=some z) :
 Runs P G ρ h w (do pure (.value (<- Op.unary op x))) z h:=by
 unfold Ue at hb;split at hb
 case h_4=>cases hb
 case h_1=>cases hb;obtain rfl:=rel_int hx;exact Runs.val r (by simp [Op.unary,Op.intArith];rfl) (by simp [AV.rel])
 case h_2=>cases hb;obtain rfl:=iR hx;exact Runs.val r (by simp [Op.unary];rfl) (by simp [AV.rel])
 case h_3=>cases hb;obtain rfl:=rel_int hx;exact Runs.val r (by simp [Op.unary,Op.intBits];rfl) (by simp [AV.rel])
theorem DF (r:fw G ρ h w) {s d:TypeId} {ds:TypeDesc} {k j:IntKind} {n:Int} {x:Value} (hs:P.underlying s=some ds) (hd:P.underlying d=some (.int k)) (hx:(AV.int j n).rel ρ x) :
 Runs P G ρ h w (do pure (.value (<- convert s d x))) (.int k (k.wrap n)) h:=by
 obtain rfl:=rel_int hx;exact Runs.val r (by simp [convert,run_underlying hs,run_underlying hd,Conv.intToInt];rfl) (by simp [AV.rel])
theorem tC (d:Nat) {t:TypeId} (ht:P.underlying t=some .bool) (b c:Bool):(Op.equalIn (d+1) t (.bool b) (.bool c)).run P w=.ok (b == c) w:=by simp [Op.equalIn,run_underlying ht]
theorem CQ (r:fw G ρ h w) {op:BinOp} {neg:Bool} {t:TypeId} {ox oy:Operand} {b c:Bool} {x y:Value} (ht:P.underlying t=some .bool) (hop:nw op=some neg) (hx:(AV.bool b).rel ρ x) (hy:(AV.bool c).rel ρ y) :
 Runs P G ρ h w (do pure (.value (<- (do eqGuard op t ox oy x y;binOp op t x y)))) (.bool (if neg then !(b == c) else b == c)) h:=by
 obtain rfl:=iR hx;obtain rfl:=iR hy;have he:(Op.equal t (.bool b) (.bool c)).run P w=.ok (b == c) w:=tC 9999 ht b c;unfold nw at hop;split at hop<;>first | cases hop | skip
 . exact Runs.val r (x:=.bool (b == c)) (by simp [m8,binOp,Sem.run_bind,Result.andThen_ok,he,Sem.run_pure]) (by simp [AV.rel])
 . exact Runs.val r (x:=.bool (!(b == c))) (by simp [m8,binOp,Sem.run_bind,Result.andThen_ok,he,Sem.run_pure]) (by simp [AV.rel])
theorem uU (op:BinOp) (t:TypeId) (ox oy:Operand) {x y:Value} (hx:x≠.nilIface) (ha:∀ c,x≠.agg c):(eqGuard op t ox oy x y).run P w=.ok () w:=by
 cases op<;>simp [eqGuard]<;>first | rfl | skip
 all_goals
  cases x<;>first | (simp at hx;done) | (exact absurd rfl (ha _)) | (cases y<;>rfl)
def Cg (P:Program) (t:TypeId):Nat->Prop
 | 0=>∃ e,P.underlying t=some (.pointer e)
 | 1=>∃ e,P.underlying t=some (.slice e)
 | 2=>∃ k e,P.underlying t=some (.map k e)
 | 3=>∃ p q s,P.underlying t=some (.func p q s)
 | _=>False
theorem tP {k:Nat} {v:AV} {b:Bool} {x:Value} (hv:v.rel ρ x) (hn:v.isNil k=some b) :
 (b=true/\((k=0/\x=.pointer none)\/(k=1/\x=.slice none 0 0)\/(k=2/\x=.map none)\/(k=3/\x=.nilFunc)))\/
 (b=false/\((k=0/\∃ p,x=.pointer (some p))\/(k=1/\∃ p n c,x=.slice (some p) n c)\/(k=2/\∃ p,x=.map (some p))\/(k=3/\∃ f p q,x=.func (.func f) p q))):=by
 unfold AV.isNil at hn;split at hn<;>first | (simp at hn;done) | skip
 all_goals
  simp [ai] at hn;subst hn;simp [AV.rel] at hv
 . subst hv;simp
 . subst hv;simp
 . subst hv;simp
 . subst hv;simp
 . obtain ⟨_,_,rfl⟩:=hv;simp
 . obtain ⟨_,_,_,_,rfl | ⟨_,_,_,rfl⟩⟩:=hv<;>simp
 . obtain ⟨_,_,rfl⟩:=hv;simp
 . obtain ⟨_,_,_,_,rfl⟩:=hv;simp
theorem CZ (d:Nat) {t:TypeId} {k:Nat} {u v:AV} {b c:Bool} {x y:Value} (ht:Cg P t k) (hx:u.rel ρ x) (hy:v.rel ρ y) (hu:u.isNil k=some b) (hv:v.isNil k=some c) (hbc:b=true\/c=true) :
 (Op.equalIn (d+1) t x y).run P w=.ok (b && c) w:=by
 rcases tP hx hu with ⟨rfl,⟨rfl,rfl⟩ | ⟨rfl,rfl⟩ | ⟨rfl,rfl⟩ | ⟨rfl,rfl⟩⟩ | ⟨rfl,⟨rfl,p,rfl⟩ | ⟨rfl,p,n,c',rfl⟩ | ⟨rfl,p,rfl⟩ | ⟨rfl,f,p,q,rfl⟩⟩<;>
 rcases tP hy hv with ⟨rfl,⟨e,rfl⟩ | ⟨e,rfl⟩ | ⟨e,rfl⟩ | ⟨e,rfl⟩⟩ | ⟨rfl,⟨e,p',rfl⟩ | ⟨e,p',n',c'',rfl⟩ | ⟨e,p',rfl⟩ | ⟨e,f',p',q',rfl⟩⟩<;>
 first
  | (exact absurd e (by decide))
  | (simp at hbc;done)
  | (have ⟨e,ht⟩:=ht;simp [Op.equalIn,run_underlying ht];done)
  | (have ⟨k,e,ht⟩:=ht;simp [Op.equalIn,run_underlying ht];done)
  | (have ⟨k,e,s,ht⟩:=ht;simp [Op.equalIn,run_underlying ht];done)
theorem sO (r:fw G ρ h w) {op:BinOp} {neg:Bool} {t:TypeId} {k:Nat} {ox oy:Operand} {u v:AV} {b c:Bool} {x y:Value} (ht:Cg P t k) (hop:nw op=some neg)
 (hx:u.rel ρ x) (hy:v.rel ρ y) (hu:u.isNil k=some b) (hv:v.isNil k=some c) (hbc:b=true\/c=true) :
 Runs P G ρ h w (do pure (.value (<- (do eqGuard op t ox oy x y;binOp op t x y)))) (.bool (if neg then !(b && c) else (b && c))) h:=by
 have hfit:(Op.equal t x y).run P w=.ok (b && c) w:=CZ 9999 ht hx hy hu hv hbc;have hxx:=tP hx hu;have hg:(eqGuard op t ox oy x y).run P w=.ok () w:=by refine uU op t ox oy ?_ ?_<;>(rcases hxx with ⟨_,⟨_,rfl⟩ | ⟨_,rfl⟩ | ⟨_,rfl⟩ | ⟨_,rfl⟩⟩ | ⟨_,⟨_,_,rfl⟩ | ⟨_,_,_,_,rfl⟩ | ⟨_,_,rfl⟩ | ⟨_,_,_,_,rfl⟩⟩<;>simp)
 have hbin:∀ o,nw o=some neg->(binOp o t x y).run P w=.ok (.bool (if neg then !(b && c) else (b && c))) w:=by
  intro o ho;unfold nw at ho;split at ho<;>first | cases ho | skip
  . have:binOp .eql t x y=(do pure (.bool (<- Op.equal t x y))):=by rcases hxx with ⟨_,⟨_,rfl⟩ | ⟨_,rfl⟩ | ⟨_,rfl⟩ | ⟨_,rfl⟩⟩ | ⟨_,⟨_,_,rfl⟩ | ⟨_,_,_,_,rfl⟩ | ⟨_,_,rfl⟩ | ⟨_,_,_,_,rfl⟩⟩<;>rfl
    simp [this,hfit]
  . have:binOp .neq t x y=(do pure (.bool (!(<- Op.equal t x y)))):=by rcases hxx with ⟨_,⟨_,rfl⟩ | ⟨_,rfl⟩ | ⟨_,rfl⟩ | ⟨_,rfl⟩⟩ | ⟨_,⟨_,_,rfl⟩ | ⟨_,_,_,_,rfl⟩ | ⟨_,_,rfl⟩ | ⟨_,_,_,_,rfl⟩⟩<;>rfl
    simp [this,hfit]
 exact Runs.val r (x:=.bool (if neg then !(b && c) else (b && c))) (by simp [Sem.run_bind,hg,Result.andThen_ok,hbin op hop,Sem.run_pure]) (by simp [AV.rel])
theorem vD (r:fw G ρ h w) {s:TypeId} {fs:Array Field} {f off n i o:Nat} {x:Value} (hu:P.underlying s=some (.struct fs)) (hp:mM P s f=some (off,n)) (hn:n≠0) (hx:(AV.ptr i o).rel ρ x) :
 Runs P G ρ h w (do pure (.value (<- Instr.fieldAt s x f))) (.ptr i (o+off)) h:=by
 obtain ⟨b,hb,rfl⟩:=kU hx;simp [mM,hu] at hp;split at hp
 case h_2=>cases hp
 rename_i g hg;simp only [ae,an] at hp;obtain ⟨m,hm,rfl,rfl⟩:=hp;refine Runs.val r (x:=.pointer (some ((b.add o).add g.offset))) ?_ (by simp [AV.rel];exact ⟨b,hb,by rw [gN]⟩);simp [Instr.fieldAt,run_underlying hu,hg,Instr.sureAddr,fieldPlace,dg hm,hn]
theorem yf (r:fw G ρ h w) {t e:TypeId} {s i o n:Nat} {c:Cap} {k:IntKind} {j:Int} {x y:Value} (hu:P.underlying t=some (.slice e)) (hs:sizeT P e=some s)
 (hx:(AV.slice i o n c).rel ρ x) (hy:(AV.int k j).rel ρ y) (h0:0<=j) (hj:j<n) :
 Runs P G ρ h w (do pure (.value (<- Instr.indexAt t x y))) (.ptr i (o+j.toNat*s)) h:=by
 obtain rfl:=rel_int hy;simp only [AV.rel] at hx;obtain ⟨b,m,hb,_,rfl | ⟨rfl,_,_,rfl⟩⟩:=hx
 . refine Runs.val r (x:=.pointer (some ((b.add o).add (j.toNat*s)))) ?_ (by simp [AV.rel];exact ⟨b,hb,by rw [gN]⟩);simp [Instr.indexAt,asIntOf,run_underlying hu,dg hs,h0,hj]
 . omega
theorem CJ (r:fw G ρ h w) {t e:TypeId} {s i o n:Nat} {k:IntKind} {j:Int} {x y:Value} (hu:P.underlying t=some (.array n e)) (hs:sizeT P e=some s)
 (hx:(AV.ptr i o).rel ρ x) (hy:(AV.int k j).rel ρ y) (h0:0<=j) (hj:j<n) :
 Runs P G ρ h w (do pure (.value (<- Instr.indexAt t x y))) (.ptr i (o+j.toNat*s)) h:=by
 obtain rfl:=rel_int hy;obtain ⟨b,hb,rfl⟩:=kU hx;refine Runs.val r (x:=.pointer (some ((b.add o).add (j.toNat*s)))) ?_ (by simp [AV.rel];exact ⟨b,hb,by rw [gN]⟩);simp [Instr.indexAt,asIntOf,run_underlying hu,dg hs,h0,hj,Instr.sureAddr]
theorem CP (r:fw G ρ h w) {t:TypeId} {fs:Array Field} {g:Field} {f:Nat} {cs:List AV} {v:AV} {x:Value} (hu:P.underlying t=some (.struct fs)) (hg:fs[f]?=some g) (ha:aggT P g.type=some false)
 (hx:(AV.agg cs).rel ρ x) (hv:cs[g.offset]?=some v):Runs P G ρ h w (do pure (.value (<- Instr.field t x f))) v h:=by
 obtain ⟨l,hl,rfl⟩:=rT hx;have ⟨y,h1,h2⟩:=da hl hv;exact Runs.val r (x:=y) (by simp [Instr.field,run_underlying hu,hg,asAgg,part,m9 ha,h1]) h2
theorem CI (r:fw G ρ h w) {t:TypeId} {k:IntKind} {n:Int} {s:ByteArray} {b:UInt8} {x y:Value} (hu:P.underlying t=some .string) (hx:(AV.str s).rel ρ x) (hy:(AV.int k n).rel ρ y) (h0:0<=n) (hb:s.data[n.toNat]?=some b) :
 Runs P G ρ h w (do pure (.value (<- Instr.index t x y))) (.int .u8 (b.toNat:Int)) h:=by
 obtain rfl:=rel_int hy;simp [AV.rel] at hx;subst hx;have ⟨hlt,hb'⟩:=au.1 hb;have hi:0<=n/\n<s.size:=⟨h0,by have:s.size=s.data.size:=rfl;omega⟩
 refine Runs.val r (x:=.int .u8 (b.toNat:Int)) ?_ (by simp [AV.rel]);have e:=run_index_string (P:=P) (w:=w) t s k n hu;rw [dif_pos hi] at e;have hb2:s[n.toNat]'(by omega)=b:=hb';rw [hb2] at e;simp [e]
theorem zW (r:fw G ρ h w) {k:Nat} {vs:List AV} {v:AV} {x:Value} (hx:(AV.tuple vs).rel ρ x) (hv:vs[k]?=some v):Runs P G ρ h w (do pure (.value (<- Instr.extract x k))) v h:=by obtain ⟨l,hl,rfl⟩:=JX hx;have ⟨z,h1,h2⟩:=da hl hv;exact Runs.val r (x:=z) (by simp [Instr.extract,h1]) h2
theorem yX (r:fw G ρ h w) {t e:TypeId} {s by_:Nat} {z:List AV} {k k':IntKind} {n m:Int} {x y:Value} (hu:P.underlying t=some (.slice e)) (hs:sizeT P e=some s) (hb:bytesT P e=some by_) (hz:zeroT P e=some z)
 (hx:(AV.int k n).rel ρ x) (hy:(AV.int k' m).rel ρ y) (h0:0<=n) (hnm:n<=m) (hby:m*by_<=bigA) (hbig:m<=bigA) (hzs:z.length=s) :
 Runs P G ρ h w (do pure (.value (<- Instr.makeSlice t x y))) (.slice h.objs.length 0 n.toNat (.exact m.toNat)) (h.push (Qc (rep m.toNat z) none)):=by
 obtain rfl:=rel_int hx;obtain rfl:=rel_int hy;have ⟨zv,h1,h2⟩:=dO hz ρ;unfold sizeT at hs;unfold bytesT at hb;unfold zeroV at h1;cases hi:P.info? e with
 | none=>simp [hi] at hs
 | some i=>simp [hi] at hs hb h1;have hr:=run_make (P:=P) w t e i zv hu hi h1 k k' n m h0 hnm (by rw [hb,Int.mul_comm];unfold bigA at hby;omega) (by unfold bigA at hbig;omega);have hrep:=rS h2 m.toNat;rw [hzs] at hrep;refine ⟨_,_,_,_,?_,.inl rfl,tQ (l:=[]) r (c:=.exact m.toNat) (m:=m.toNat) rfl,rW r e hrep⟩;simp only [Sem.run_bind,hr,Result.andThen_ok,Sem.run_pure,hs,madeCells]
theorem Ee (r:fw G ρ h w) {t:TypeId}:Runs P G ρ h w (do pure (.value (<- Instr.makeMap t none))) (.map h.objs.length) (h.push (.map [] [] 0)):=by
 have hp:=Post.push r (o':=.map [] [] 0) (w':=w.alloc (.map #[] 0)) (.map #[] 0) [] [] rfl (by simp) rfl rfl rfl rfl ⟨#[],heap_alloc_new w _,by simp [dw],rfl⟩;refine ⟨_,_,_,.map (some w.heap.size),?_,.inl rfl,?_,by simpa [AHeap.push] using hp⟩
 . simp [Instr.makeMap]
 . simp [AV.rel];exact ⟨_,xq (l:=[]) r,rfl⟩
end
section
variable {P:Program} {G:Nat} {ρ:eM} {h h':AHeap} {w:World} {fr:AFrame} {a:Act}
theorem r8 {v:AV} {n:Nat} {x:Value} (hn:v.nat=some n) (hx:v.rel ρ x):∃ k,x=.int k (n:Int):=by
 cases v<;>simp only [AV.nat] at hn<;>first | cases hn | skip
 split at hn
 . rename_i k m hm;cases hn;exact ⟨k,by rw [rel_int hx,aH hm]⟩
 . cases hn
theorem nU (r:fw G ρ h w) {n m:Nat} {c:Cap} (hw:h.within n c=true) (hc:c.is ρ m):n<=m:=by
 cases c with
 | exact c=>simp [Cap.is] at hc;subst hc;simpa [AHeap.within] using hw
 | loose k d=>
  simp [AHeap.within] at hw;split at hw
  . rename_i lb hlb;have ⟨c,h1,h2⟩:=r.caps k lb hlb;have ⟨c',h3,h4⟩:=hc;have:=h1.symm.trans h3;simp at this hw;omega
  . cases hw
theorem jR (isSlice : Bool) (len cap l hh m : Nat) {lo hi mx : Option Value}
    (hm : (mx = none ∧ m = cap) ∨ (∃ k, mx = some (.int k (m : Int)) ∧ m ≤ cap ∧ hi.isSome = true))
    (hh' : (hi = none ∧ hh = len) ∨ (∃ k, hi = some (.int k (hh : Int)) ∧ hh ≤ m))
    (hl : (lo = none ∧ l = 0) ∨ (∃ k, lo = some (.int k (l : Int)) ∧ l ≤ hh)) :
    (Instr.sliceBounds isSlice len cap lo hi mx).run P w = .ok (l, hh, m) w := by
  rcases hm with ⟨rfl, rfl⟩ | ⟨k1, rfl, h1, h2⟩ <;> rcases hh' with ⟨rfl, rfl⟩ | ⟨k2, rfl, h3⟩ <;> rcases hl with ⟨rfl, rfl⟩ | ⟨k3, rfl, h4⟩ <;> try (simp at h2; done)
  all_goals simp [Instr.sliceBounds, Instr.sliceBound, asIntOf, *]
theorem Cf {o:Option AOpd} {v:Option Operand} (hf:AV.rels ρ fr a.tmps.toList) (hg:∀ g,g<G->ρ.addr[g]?=some ⟨g,0,none⟩) (hc:sM G v=some o) :
 (o.map fr.eval=none/\v.map a.eval=none)\/(∃ u x,o.map fr.eval=some u/\v.map a.eval=some x/\u.rel ρ x):=by
 cases v with
 | none=>cases hc;exact .inl ⟨rfl,rfl⟩
 | some x=>simp [sM,ae] at hc;obtain ⟨y,h1,rfl⟩:=hc;exact .inr ⟨_,_,rfl,rfl,aX hf hg h1⟩
theorem add_moved (b:Addr) (o l m s:Nat):(if m=l then b.add o else (b.add o).add (l*s))=b.add (if m=l then o else o+l*s):=by
 split
 . rfl
 . rw [gN]
theorem Jz (r:fw G ρ h w) {t:TypeId} {size:Nat} {arr:Option Nat} {u z:AV} {x:Value} {lo hi mx:Option AV} {xlo xhi xmx:Option Value}
 (ht:match arr with | none=>∃ e,P.underlying t=some (.slice e)/\sizeT P e=some size | some n=>∃ e,P.underlying t=some (.array n e)/\sizeT P e=some size)
 (hx:u.rel ρ x) (hlo:(lo=none/\xlo=none)\/∃ v y,lo=some v/\xlo=some y/\v.rel ρ y) (hhi:(hi=none/\xhi=none)\/∃ v y,hi=some v/\xhi=some y/\v.rel ρ y)
 (hmx:(mx=none/\xmx=none)\/∃ v y,mx=some v/\xmx=some y/\v.rel ρ y) (hz:slcV h size arr u lo hi mx=some z) (hmh:mx.isSome=true->hi.isSome=true) :
 Runs P G ρ h w (do pure (.value (<- Instr.sliceAt t x xlo xhi xmx))) z h:=by
 unfold slcV at hz
 have bl:∀ l hh:Nat,endV 0 lo=some l->l<=hh->(xlo=none/\l=0)\/(∃ k,xlo=some (.int k (l:Int))/\l<=hh):=by
  intro l hh hl hle
  rcases hlo with ⟨rfl,rfl⟩ | ⟨v,y,rfl,rfl,hv⟩
  . simp [endV] at hl;exact .inl ⟨rfl,hl.symm⟩
  . obtain ⟨k,rfl⟩:=r8 hl hv;exact .inr ⟨k,rfl,hle⟩
 have bh:∀ hh len m:Nat,endV len hi=some hh->hh<=m->(xhi=none/\hh=len)\/(∃ k,xhi=some (.int k (hh:Int))/\hh<=m):=by
  intro hh len m hm hle
  rcases hhi with ⟨rfl,rfl⟩ | ⟨v,y,rfl,rfl,hv⟩
  . simp [endV] at hm;exact .inl ⟨rfl,hm.symm⟩
  . obtain ⟨k,rfl⟩:=r8 hm hv;exact .inr ⟨k,rfl,hle⟩
 split at hz
 case h_1=>cases hz
 rename_i l hl
 split at hz
 ·
  simp [AV.rel] at hx
  subst hx
  have ⟨e,hu,hs⟩:=ht
  split at hz
  case h_2=>cases hz
  rename_i hh h1
  split at hz
  case isFalse=>cases hz
  rename_i hc
  cases hz
  obtain ⟨rfl,rfl,hno⟩:=hc
  have hmc:(xmx=none/\0=0)\/(∃ k,xmx=some (.int k ((0:Nat):Int))/\0<=0/\xhi.isSome=true):=by
   rcases hmx with ⟨_,rfl⟩ | ⟨v,y,rfl,rfl,hv⟩
   . exact .inl ⟨rfl,rfl⟩
   . obtain ⟨k,rfl⟩:=r8 hno hv;refine .inr ⟨k,rfl,aq _,?_⟩
     rcases hhi with ⟨rfl,_⟩ | ⟨_,_,_,rfl,_⟩
     . simp at hmh
     . rfl
  have hb:=jR (P:=P) (w:=w) true 0 0 0 0 0 hmc (bh 0 0 0 h1 (aq _)) (bl 0 0 hl (aq _))
  exact Runs.val r (x:=.slice none 0 0) (by simp [Instr.sliceAt,run_underlying hu,Instr.slice,hb,dg hs]) (by simp [AV.rel])
 ·
  rename_i i o n c
  have ⟨e,hu,hs⟩:=ht
  simp only [AV.rel] at hx
  obtain ⟨b,m0,hb0,hcap,hxx⟩:=hx
  split at hz
  case h_1=>cases hz
  rename_i hh h1
  split at hz
  ·
   have hx':xmx=none:=by
    rcases hmx with ⟨_,rfl⟩ | ⟨v,y,hv,_,_⟩
    . rfl
    . cases hv
   split at hz
   case isFalse=>cases hz
   rename_i hc
   obtain ⟨hlh,hwi⟩:=hc
   have hm0:=nU r hwi hcap
   rcases hxx with rfl | ⟨rfl,rfl,b',rfl⟩
   . have hb:=jR (P:=P) (w:=w) true n m0 l hh m0 (.inl ⟨hx',rfl⟩) (bh hh n m0 h1 hm0) (bl l hh hl hlh)
     refine Runs.val r (x:=.slice (some (if m0=l then b.add o else (b.add o).add (l*size))) (hh-l) (m0-l)) ?_ ?_
     . simp [Instr.sliceAt,run_underlying hu,Instr.slice,hb,dg hs]
       split<;>rfl
     . cases c with
       | exact m=>simp only [Cap.is] at hcap;subst hcap;cases hz;simp only [AV.rel];exact ⟨b,m0-l,hb0,rfl,.inl (by rw [add_moved])⟩
       | loose k d=>
        cases hz;simp only [AV.rel];obtain ⟨cc,hc1,hc2⟩:=hcap;refine ⟨b,m0-l,hb0,⟨cc,hc1,by omega⟩,?_⟩;by_cases hml:m0=l
        . right;exact ⟨by omega,by omega,b.add o,by rw [if_pos hml];congr 1<;>omega⟩
        . left;rw [if_neg hml,gN]
   . have e1:hh=0:=by omega
     have e2:l=0:=by omega
     subst e1;subst e2
     have hb:=jR (P:=P) (w:=w) true 0 0 0 0 0 (.inl ⟨hx',rfl⟩) (bh 0 0 0 h1 (aq _)) (bl 0 0 hl (aq _))
     refine Runs.val r (x:=.slice (some b') 0 0) (by simp [Instr.sliceAt,run_underlying hu,Instr.slice,hb,dg hs]) ?_
     cases c with
     | exact m=>simp only [Cap.is] at hcap;subst hcap;cases hz;simp only [AV.rel];exact ⟨b,0,hb0,rfl,.inr (by simp)⟩
     | loose k d=>cases hz;simp only [AV.rel];obtain ⟨cc,hc1,hc2⟩:=hcap;exact ⟨b,0,hb0,⟨cc,hc1,by omega⟩,.inr (by simp)⟩
  ·
   rename_i v
   split at hz
   case h_2=>cases hz
   rename_i m hm
   split at hz
   case isFalse=>cases hz
   rename_i hc
   cases hz
   obtain ⟨hlh,hhm,hwi⟩:=hc
   have hm0:=nU r hwi hcap
   obtain ⟨y,hy,hyv⟩:∃ y,xmx=some y/\v.rel ρ y:=by
    rcases hmx with ⟨hv,_⟩ | ⟨v',y,hv,hy,hr⟩
    . cases hv
    . cases hv;exact ⟨y,hy,hr⟩
   obtain ⟨k,rfl⟩:=r8 hm hyv
   have hhs:xhi.isSome=true:=by
    rcases hhi with ⟨rfl,_⟩ | ⟨_,_,_,rfl,_⟩
    . simp at hmh
    . rfl
   rcases hxx with rfl | ⟨rfl,rfl,b',rfl⟩
   . have hb:=jR (P:=P) (w:=w) true n m0 l hh m (.inr ⟨k,hy,hm0,hhs⟩) (bh hh n m h1 hhm) (bl l hh hl hlh)
     refine Runs.val r (x:=.slice (some (if m=l then b.add o else (b.add o).add (l*size))) (hh-l) (m-l)) ?_ ?_
     . simp [Instr.sliceAt,run_underlying hu,Instr.slice,hb,dg hs]
       split<;>rfl
     . simp only [AV.rel]
       exact ⟨b,m-l,hb0,rfl,.inl (by rw [add_moved])⟩
   . have e0:m=0:=by omega
     have e1:hh=0:=by omega
     have e2:l=0:=by omega
     subst e0;subst e1;subst e2
     have hb:=jR (P:=P) (w:=w) true 0 0 0 0 0 (.inr ⟨k,hy,aq _,hhs⟩) (bh 0 0 0 h1 (aq _)) (bl 0 0 hl (aq _))
     refine Runs.val r (x:=.slice (some b') 0 0) (by simp [Instr.sliceAt,run_underlying hu,Instr.slice,hb,dg hs]) ?_
     simp only [AV.rel]
     exact ⟨b,0,hb0,rfl,.inr (by simp)⟩
 ·
  rename_i n i o
  obtain ⟨e,hu,hs⟩:=ht
  obtain ⟨b,hb0,rfl⟩:=kU hx
  split at hz
  case h_2=>cases hz
  rename_i hh h1
  split at hz
  case isFalse=>cases hz
  rename_i hc
  cases hz
  obtain ⟨hlh,hhn,hno⟩:=hc
  have hx':xmx=none:=by
   rcases hmx with ⟨_,rfl⟩ | ⟨v,y,rfl,_,_⟩
   . rfl
   . simp at hno
  have hb:=jR (P:=P) (w:=w) false n n l hh n (.inl ⟨hx',rfl⟩) (bh hh n n h1 hhn) (bl l hh hl hlh)
  refine Runs.val r (x:=.slice (some (if n=l then b.add o else (b.add o).add (l*size))) (hh-l) (n-l)) ?_ ?_
  . simp [Instr.sliceAt,run_underlying hu,Instr.sureAddr,hb,dg hs]
  . simp only [AV.rel]
    exact ⟨b,n-l,hb0,rfl,.inl (by rw [add_moved])⟩
 . cases hz
end
section
variable {P:Program} {G:Nat} {ρ:eM} {h h':AHeap} {w:World} {fr:AFrame} {a:Act}
theorem mD {u:AV} {n:Nat} {x:Value} (hu:u.gP=some n) (hx:u.rel ρ x) :
 (u=.nilslice/\n=0/\x=.slice none 0 0)\/
 (∃ i o c b m,u=.slice i o n c/\ρ.addr[i]?=some b/\c.is ρ m/\(x=.slice (some (b.add o)) n m\/(n=0/\m=0/\∃ b',x=.slice (some b') 0 0)))\/
 (∃ cs b,u=.lit cs/\x=.slice (some ⟨b,0,none⟩) n n):=by
 cases u with
 | nilslice=>simp [AV.gP,ai] at hu;subst hu;simp [AV.rel] at hx;exact .inl ⟨rfl,rfl,hx⟩
 | slice i o k c=>simp [AV.gP,ai] at hu;subst hu;simp only [AV.rel] at hx;have ⟨b,m,h1,h2,h3⟩:=hx;exact .inr (.inl ⟨_,_,_,b,m,rfl,h1,h2,h3⟩)
 | lit cs=>simp [AV.gP,ai] at hu;subst hu;simp [AV.rel] at hx;obtain ⟨b,l,_,_,rfl⟩:=hx;exact .inr (.inr ⟨_,b,rfl,rfl⟩)
 | _=>simp [AV.gP] at hu
theorem uG {u:AV} {n:Nat} {x:Value} (hu:u.gP=some n) (hx:u.rel ρ x):(Builtin.lenOf x).run P w=.ok n w:=by rcases mD hu hx with ⟨_,rfl,rfl⟩ | ⟨i,o,c,b,m,_,_,_,rfl | ⟨rfl,_,b',rfl⟩⟩ | ⟨cs,b,_,rfl⟩<;>simp [Builtin.lenOf]
theorem gv (r:fw G ρ h w) {size n:Nat} {u:AV} {x:Value} {cs:List AV} (hc:firstCellsA h size n u=some cs) (hx:u.rel ρ x) :
 ∃ xs:List Value,AV.rels ρ cs xs/\(Builtin.firstCells size n x).run P w=.ok xs.toArray w:=by
 unfold firstCellsA at hc;split at hc
 . split at hc
   . cases hc;simp [AV.rel] at hx;subst hx;exact ⟨[],by simp [AV.rels],by simp [Builtin.firstCells]⟩
   . cases hc
 . rename_i i o m c;simp only [AV.rel] at hx;split at hc
   . rename_i h0;cases hc;subst h0;obtain ⟨b,m',h1,h2,rfl | ⟨rfl,rfl,b',rfl⟩⟩:=hx<;>exact ⟨[],by simp [AV.rels],by simp [Builtin.firstCells,loadCells,loadCellsFrom]⟩
   split at hc
   case isFalse=>cases hc
   rename_i hle;obtain ⟨b,m',h1,h2,rfl | ⟨rfl,rfl,b',rfl⟩⟩:=hx
   . have ⟨xs,h3,h4,h5⟩:=qE r hc h1;refine ⟨xs,h3,?_⟩;have:=run_loadCells_list (P:=P) w (b.add o) xs h5;rw [h4] at this;simpa [Builtin.firstCells] using this
   . have e:n=0:=by omega
     subst e;have ⟨hl,_⟩:=oB hc;have:cs=[]:=aG (by simpa using hl);subst this;exact ⟨[],by simp [AV.rels],by simp [Builtin.firstCells,loadCells,loadCellsFrom]⟩
 . rename_i ds;split at hc
   case isFalse=>cases hc
   rename_i hcd;cases hc;simp [AV.rel] at hx;obtain ⟨b,l,h1,h2,rfl⟩:=hx;have ⟨⟨e,h3⟩,_⟩:=r.lits _ h1;have hll:=br h2;refine ⟨l,h2,?_⟩;have:=run_loadCells_list (P:=P) w ⟨b,0,none⟩ l (fun j x hj=>by
    simp only at h3;rw [me (a:=⟨b,0,none⟩) rfl];simp [World.cell?,h3,hj])
   obtain ⟨rfl,rfl⟩:=hcd;rw [hll] at this;simpa [Builtin.firstCells] using this
 . cases hc
theorem re {size n:Nat} {u:AV} {cs:List AV} (hc:firstCellsA h size n u=some cs):cs.length=n*size\/(cs=[]/\n=0):=by
 unfold firstCellsA at hc;split at hc
 . split at hc
   . rename_i hn;cases hc;exact .inr ⟨rfl,hn⟩
   . cases hc
 . split at hc
   . rename_i hn;cases hc;exact .inr ⟨rfl,hn⟩
   split at hc
   . exact .inl (oB hc).1
   . cases hc
 . split at hc
   . rename_i hcd;cases hc;exact .inl (by rw [hcd.1,hcd.2];simp)
   . cases hc
 . cases hc
theorem iZ {size n:Nat} {u:AV} {cs:List AV} (hc:firstCellsA h size n u=some cs):cs.length=n*size:=by
 rcases re hc with e | ⟨rfl,rfl⟩
 . exact e
 . simp
theorem Post.kill (r:fw G ρ h w) {i:Nat}:Post G ρ h w ρ (h.put i .dead) w:=by
 have obj':∀ (j:Nat) p,(h.put i .dead).objs[j]?=some p->p=.dead\/h.objs[j]?=some p:=by
  intro j p hp;by_cases hji:j=i
  . subst hji;have hlt:=(aa.1 hp).1;simp [AHeap.put,bV] at hlt;simp [AHeap.put,ax hlt,ai] at hp;exact .inl hp.symm
  . exact .inr (by simpa [AHeap.put,aj (aY hji)] using hp)
 refine ⟨eM.le_refl ρ,⟨by simp [AHeap.put,r.jK],by simp [AHeap.put,r.mh],r.glob,?_,?_,by simpa [AHeap.put] using r.caps,?_⟩,rfl,rfl,rfl,aq _,fun _ _ _=>rfl,?_,?_,fun _ h=>.inl h⟩
 . intro j p b hp hb;rcases obj' j p hp with rfl | hp2
   . trivial
   . exact r.obj j p b hp2 hb
 . intro j k p q b c hp hq hb hc hjk hpw hql;rcases obj' j p hp with rfl | hp2
   . cases hpw
   . rcases obj' k q hq with rfl | hq2
     . cases hql
     . exact r.apart j k p q b c hp2 hq2 hb hc hjk hpw hql
 . intro x hx;have ⟨h1,h2⟩:=r.lits x hx;refine ⟨h1,?_⟩;rintro ⟨j,p,c,hp,hc,hpw,hcb⟩;rcases obj' j p hp with rfl | hp2
   . cases hpw
   . exact h2 ⟨j,p,c,hp2,hc,hpw,hcb⟩
 . rintro b ⟨j,p,c,hp,hc,hpw,rfl⟩;rcases obj' j p hp with rfl | hp2
   . cases hpw
   . exact .inl ⟨j,p,c,hp2,hc,hpw,rfl⟩
 . rintro b ⟨j,p,c,hp,hc,hpw,rfl⟩;rcases obj' j p hp with rfl | hp2
   . cases hpw
   . exact .inl ⟨j,p,c,hp2,hc,hpw,rfl⟩
theorem Post.move (r:fw G ρ h w) {i:Nat} {o o':AObj} {b b':Addr} (ho:h.objs[i]?=some o) (hb:ρ.addr[i]?=some b) (hw:o.writable=true) (hbb:b'.block=b.block) {w':World}
 (cap lb:Nat) (hlb:lb<=cap) (hos:w'.os=w.os) (htape:w'.tape=w.tape) (hout:w'.output=w.output) (hsize:w'.heap.size=w.heap.size) (hothers:∀ k,k≠b.block->w'.heap[k]?=w.heap[k]?)
 (hh:o'.holds ⟨ρ.addr++[b'],ρ.cap++[cap],ρ.lit⟩ w' b') (hlive:o'.live=true) :
 Post G ρ h w ⟨ρ.addr++[b'],ρ.cap++[cap],ρ.lit⟩ ⟨h.objs.set i .dead++[o'],h.caps++[lb]⟩ w':=by
 have hle:ρ.le ⟨ρ.addr++[b'],ρ.cap++[cap],ρ.lit⟩:=⟨⟨_,rfl⟩,⟨_,rfl⟩,⟨[],by simp⟩⟩
 have hilt:=(aa.1 ho).1;have addr':∀ (j:Nat) p c,(h.objs.set i .dead++[o'])[j]?=some p->(ρ.addr++[b'])[j]?=some c->
  (p=.dead)\/(j≠i/\h.objs[j]?=some p/\ρ.addr[j]?=some c)\/(j=h.objs.length/\p=o'/\c=b'):=by
  intro j p c hp hc;rcases dm hp with hp | ⟨hj,rfl⟩
  . have hlt:=(aa.1 hp).1;simp [bV] at hlt;by_cases hji:j=i
    . subst hji
      rw [ax hilt] at hp
      exact .inl (by simpa using hp.symm)
    . rw [aj (aY hji)] at hp
      rw [ay (by rw [r.jK];exact hlt)] at hc
      exact .inr (.inl ⟨hji,hp,hc⟩)
  . simp [bV] at hj
    rcases dm hc with hc | ⟨_,rfl⟩
    . have hlt:=(aa.1 hc).1
      rw [r.jK] at hlt;omega
    . exact .inr (.inr ⟨hj,rfl,rfl⟩)
 refine ⟨hle,⟨by simp [r.jK],by simp [r.mh],fun g hg=>cN (r.glob g hg),?_,?_,?_,?_⟩,hos,htape,hout,by omega,?_,?_,?_,fun _ h=>.inl h⟩
 . intro j p c hp hc
   rcases addr' j p c hp hc with rfl | ⟨hji,hp2,hc2⟩ | ⟨_,rfl,rfl⟩
   . trivial
   . have hold:=r.obj j p c hp2 hc2
     cases hl:p.live with
     | false=>cases p<;>simp_all [AObj.live,AObj.holds]
     | true=>exact AObj.dE hle (AObj.fV (by omega) (hothers _ (r.apart i j o p b c ho hp2 hb hc2 (aY hji) hw hl).symm) hold)
   . exact hh
 . intro j k p q c d hp hq hc hd hjk hpw hql
   rcases addr' j p c hp hc with rfl | ⟨hji,hp2,hc2⟩ | ⟨hj,rfl,rfl⟩
   . cases hpw
   . rcases addr' k q d hq hd with rfl | ⟨hki,hq2,hd2⟩ | ⟨hk,rfl,rfl⟩
     . cases hql
     . exact r.apart j k p q c d hp2 hq2 hc2 hd2 hjk hpw hql
     . rw [hbb];exact r.apart j i p o c b hp2 ho hc2 hb hji hpw (AObj.cV hw)
   . rcases addr' k q d hq hd with rfl | ⟨hki,hq2,hd2⟩ | ⟨hk,rfl,rfl⟩
     . cases hql
     . rw [hbb];exact r.apart i k o q b d ho hq2 hb hd2 (aY hki) hw hql
     . omega
 . intro k lb' hk
   rcases dm hk with hk2 | ⟨hk2,rfl⟩
   . have ⟨c,h1,h2⟩:=r.caps k lb' hk2
     exact ⟨c,cN h1,h2⟩
   . exact ⟨cap,by rw [hk2,<- r.mh];simp,hlb⟩
 . intro x hx
   have ⟨⟨e,h1⟩,h2⟩:=r.lits x hx
   refine ⟨⟨e,by rw [hothers x.1 fun e'=>h2 ⟨i,o,b,ho,hb,hw,e'.symm⟩];exact h1⟩,?_⟩
   rintro ⟨j,p,c,hp,hc,hpw,hcb⟩
   rcases addr' j p c hp hc with rfl | ⟨hji,hp2,hc2⟩ | ⟨hj,rfl,rfl⟩
   . cases hpw
   . exact h2 ⟨j,p,c,hp2,hc2,hpw,hcb⟩
   . exact h2 ⟨i,o,b,ho,hb,hw,hbb.symm.trans hcb⟩
 . intro k hk hn
   exact hothers k fun e=>hn ⟨i,o,b,ho,hb,hw,e.symm⟩
 . rintro k ⟨j,p,c,hp,hc,hpw,rfl⟩
   rcases addr' j p c hp hc with rfl | ⟨hji,hp2,hc2⟩ | ⟨hj,rfl,rfl⟩
   . cases hpw
   . exact .inl ⟨j,p,c,hp2,hc2,hpw,rfl⟩
   . exact .inl ⟨i,o,b,ho,hb,hw,hbb.symm⟩
 . rintro k ⟨j,p,c,hp,hc,hpw,rfl⟩
   rcases addr' j p c hp hc with rfl | ⟨hji,hp2,hc2⟩ | ⟨hj,rfl,rfl⟩
   . cases hpw
   . exact .inl ⟨j,p,c,hp2,hc2,hpw,rfl⟩
   . exact .inl ⟨i,o,b,ho,hb,AObj.cV hw,hbb.symm⟩
theorem jS {t u ty e:TypeId} {size by_:Nat} {zv:Value} (ht:P.underlying t=some (.slice e)) (hu:∃ e',P.underlying u=some (.slice e')) (hs:sizeT P e=some size) (hb:bytesT P e=some by_) (hz:zeroV P e=some zv)
 {s x:Value} {base:Option Addr} {n m sCap:Nat} {olds news:List Value} (hsv:s=.slice base n sCap) (hlen:(Builtin.lenOf x).run P w=.ok m w) (hg:sCap<n+m) (hbig:n+m<=bigA) (hby:(n+m)*by_<=bigA)
 (hold:(Builtin.firstCells size n s).run P w.drew=.ok olds.toArray w.drew) (hnew:(Builtin.firstCells size m x).run P w.drew=.ok news.toArray w.drew) :
 (Builtin.append_ #[t,u] ty #[s,x]).run P w=.ok (.slice (some ⟨w.heap.size,0,none⟩) (n+m) (grownCap w (n+m) sCap e))
  (w.drew.alloc (.cells (olds++news++(Builtin.zeroCells zv.cells (grownCap w (n+m) sCap e-(n+m))).toList).toArray e)):=by
 subst hsv;have ⟨e',hu⟩:=hu;obtain ⟨i,hi,rfl,rfl,hz'⟩:∃ i,P.info? e=some i/\i.size=size/\i.bytes=by_/\i.zero=some zv:=by
  unfold sizeT at hs;unfold bytesT at hb;unfold zeroV at hz;cases hi:P.info? e with
  | none=>simp [hi] at hs
  | some i=>simp [hi] at hs hb hz;exact ⟨i,rfl,hs,hb,hz⟩
 have hn:¬ (n+m<=sCap):=by omega
 unfold bigA at hbig hby;have h63':¬ (9223372036854775807<((n:Int)+(m:Int))):=by omega
 have h48':¬ (281474976710656<Builtin.nextslicecap (n+m) sCap*i.bytes):=by have:=growslice_fits (need:=n+m) (old:=sCap) (bytes:=i.bytes) hg (by omega);omega
 simp [Builtin.append_,run_underlying ht,run_underlying hu,sizeOf,typeInfo,zeroValue,hi,hz',hlen,hn,h63',h48',Question.forced,hold,hnew,newRow,grownCap];congr 2;apply nR;simp
theorem G7 {zv:Value} {size cap need:Nat} {olds news:List Value} (hz:zv.cells.size=size) (hl:(olds++news).length=need*size) (hc:need<=cap) :
 cap*size<=(olds++news++(Builtin.zeroCells zv.cells (cap-need)).toList).toArray.size:=by
 have h2:((Builtin.zeroCells zv.cells (cap-need)).toList).length=(cap-need)*size:=by simp [size_zeroCells,hz]
 have h3:(olds++news++(Builtin.zeroCells zv.cells (cap-need)).toList).toArray.size=need*size+(cap-need)*size:=by rw [fP,aM,hl,h2]
 rw [h3,<- cS];exact fJ _ (by omega)
theorem qQ (r:fw G ρ h w) {cs:List AV} {olds news:List Value} {zv:Value} {e:TypeId} {size need cap:Nat} (hx:AV.rels ρ cs (olds++news)) (hz:zv.cells.size=size) (hl:cs.length=need*size) (hc:need<=cap) :
 Post G ρ h w ⟨ρ.addr++[⟨w.heap.size,0,none⟩],ρ.cap++[cap],ρ.lit⟩ ⟨h.objs++[.cells false cs (some (h.caps.length,size))],h.caps++[need]⟩
  (w.drew.alloc (.cells (olds++news++(Builtin.zeroCells zv.cells (cap-need)).toList).toArray e)):=by
 have hlen:=br hx;refine Post.push r (.cells (olds++news++(Builtin.zeroCells zv.cells (cap-need)).toList).toArray e) [cap] [need] rfl (fun k lb hk=>?_) rfl rfl rfl rfl (new_holds (e:=e) (heap_alloc_new w.drew _) (fun j v hj=>?_) (fun k s hk=>?_))
 . cases k with
   | zero=>simp at hk;subst hk;exact ⟨cap,rfl,hc⟩
   | succ k=>simp at hk
 . have ⟨x,h1,h2⟩:=da hx hj;exact ⟨x,by rw [gI];exact cN h1,AV.gT ⟨⟨_,rfl⟩,⟨_,rfl⟩,⟨[],by simp⟩⟩ _ _ h2⟩
 . cases hk;exact ⟨cap,by rw [<- r.mh];simp,G7 hz (by rw [hlen,hl]) hc⟩
theorem tR (r:fw G ρ h w) {cap n:Nat}:(AV.slice h.objs.length 0 n (.loose h.caps.length 0)).rel ⟨ρ.addr++[⟨w.heap.size,0,none⟩],ρ.cap++[cap],ρ.lit⟩ (.slice (some ⟨w.heap.size,0,none⟩) n cap):=
 tQ r ⟨cap,by rw [<- r.mh];simp,by simp⟩
theorem iP {t u ty e:TypeId} {size:Nat} (ht:P.underlying t=some (.slice e)) (hu:∃ e',P.underlying u=some (.slice e')) (hs:sizeT P e=some size)
 {x:Value} {b:Addr} {n m sCap:Nat} {news:List Value} {w':World} (hlen:(Builtin.lenOf x).run P w=.ok m w) (hroom:n+m<=sCap)
 (hnew:(Builtin.firstCells size m x).run P w=.ok news.toArray w) (hst:(storeCells (b.add (n*size)) news).run P w=.ok () w') :
 (Builtin.append_ #[t,u] ty #[.slice (some b) n sCap,x]).run P w=.ok (.slice (some b) (n+m) sCap) w':=by
 have ⟨e',hu⟩:=hu;obtain ⟨i,hi,rfl⟩:∃ i,P.info? e=some i/\i.size=size:=by
  unfold sizeT at hs;cases hi:P.info? e with
  | none=>simp [hi] at hs
  | some i=>simp [hi] at hs;exact ⟨i,rfl,hs⟩
 simp [Builtin.append_,run_underlying ht,run_underlying hu,sizeOf,typeInfo,hi,hlen,hroom,hnew,hst]
theorem uV {t u ty e:TypeId} {size:Nat} (ht:P.underlying t=some (.slice e)) (hu:∃ e',P.underlying u=some (.slice e')) (hs:sizeT P e=some size)
 {x:Value} {news:List Value} (hlen:(Builtin.lenOf x).run P w=.ok 0 w) (hnew:(Builtin.firstCells size 0 x).run P w=.ok news.toArray w) :
 (Builtin.append_ #[t,u] ty #[.slice none 0 0,x]).run P w=.ok (.slice none 0 0) w:=by
 have ⟨e',hu⟩:=hu;obtain ⟨i,hi,rfl⟩:∃ i,P.info? e=some i/\i.size=size:=by
  unfold sizeT at hs;cases hi:P.info? e with
  | none=>simp [hi] at hs
  | some i=>simp [hi] at hs;exact ⟨i,rfl,hs⟩
 simp [Builtin.append_,run_underlying ht,run_underlying hu,sizeOf,typeInfo,hi,hlen,hnew]
theorem P8 {ρ:eM} {vs:List AV} {xs:List Value} (hx:AV.rels ρ vs xs) (h1:vs.all AV.one=true):∀ x∈xs,x.oneCell'=true:=by
 intro x hxm;obtain ⟨j,hj,rfl⟩:=eY hxm;have hjv:j<vs.length:=by rw [<- br hx];exact hj
 have ⟨y,h4,h5⟩:=da hx (ah hjv);rw [ah hj] at h4;obtain rfl:=aw h4;exact Ie h5 (aQ.1 h1 _ (j6 hjv))
theorem Db (r:fw G ρ h w) {t u ty e:TypeId} {size by_:Nat} {z:List AV} {s x v:AV} {xs xx:Value} (ht:P.underlying t=some (.slice e)) (hu:∃ e',P.underlying u=some (.slice e'))
 (hs:sizeT P e=some size) (hb:bytesT P e=some by_) (hz:zeroT P e=some z) (hzl:z.length=size) (hx:s.rel ρ xs) (hy:x.rel ρ xx) (ha:dT h size by_ s x=some (v,h')) :
 Runs P G ρ h w (do pure (.value (<- Builtin.append_ #[t,u] ty #[xs,xx]))) v h':=by
 obtain ⟨zv,hz1,hz2⟩:=dO hz ρ
 have hzs:zv.cells.size=size:=by have:=br hz2;simp at this;omega
 unfold dT at ha
 split at ha
 case h_2=>cases ha
 rename_i n m hn hm
 split at ha
 case h_1=>cases ha
 rename_i news hnews
 split at ha
 case isFalse=>cases ha
 rename_i hcond
 have ⟨hby,hbig,hone⟩:=hcond
 have hlen:=uG (P:=P) (w:=w) hm hy
 have hnl:=iZ hnews
 have ⟨ns,hn1,hn2⟩:=gv (P:=P) r hnews hy
 have ⟨nsd,hd1,hd2⟩:=gv (P:=P) r.drew hnews hy
 rcases mD hn hx with ⟨rfl,rfl,rfl⟩ | ⟨i,o,c,b,mc,rfl,hb0,hcap,hxx⟩ | ⟨_,_,rfl,_⟩
 rotate_right
 . simp at ha
 ·
  simp only at ha
  split at ha
  . rename_i hm0
    subst hm0
    cases ha
    exact Runs.val r (x:=.slice none 0 0) (by simp [uV ht hu hs hlen hn2]) (by simp [AV.rel])
  . rename_i hm0
    cases ha
    have hrun:=jS (P:=P) (w:=w) (ty:=ty) (base:=none) (n:=0) (sCap:=0) (olds:=[]) ht hu hs hb hz1 rfl hlen (by omega) hbig hby (by simp [Builtin.firstCells]) hd2
    have hge:=grownCap_ge w (0+m) 0 e
    simp only [gh] at hrun hge
    exact ⟨_,_,_,_,by simp only [Sem.run_bind,hrun,Result.andThen_ok,Sem.run_pure];rfl,.inl rfl,tR r,qQ r (olds:=[]) (by simpa using hd1) hzs hnl hge⟩
 . simp only at ha
   split at ha
   ·
    rename_i hwi
    have hroom:=nU r hwi hcap
    split at ha
    . rename_i hm0
      subst hm0
      cases ha
      have:ns=[]:=by have h1:=br hn1;exact aG (by rw [h1,hnl];simp)
      subst this
      rcases hxx with rfl | ⟨rfl,rfl,b',rfl⟩
      . have hrun:=iP (P:=P) (w:=w) (ty:=ty) (n:=n) (sCap:=mc) (b:=b.add o) ht hu hs hlen hroom hn2 (w':=w) rfl
        exact Runs.val r (x:=.slice (some (b.add o)) n mc) (by simp [hrun]) (by simp only [AV.rel];exact ⟨b,mc,hb0,hcap,.inl rfl⟩)
      . have hrun:=iP (P:=P) (w:=w) (ty:=ty) (n:=0) (sCap:=0) (b:=b') ht hu hs hlen hroom hn2 (w':=w) rfl
        exact Runs.val r (x:=.slice (some b') 0 0) (by simp [hrun]) (by simp only [AV.rel];exact ⟨b,0,hb0,hcap,.inr (by simp)⟩)
    . rename_i hm0
      simp only [ae,an] at ha
      obtain ⟨h'',hwr,rfl,rfl⟩:=ha
      rcases hxx with rfl | ⟨rfl,rfl,b',rfl⟩
      . obtain ⟨w',hst,hpost⟩:=mA (P:=P) r hwr hb0 hn1
        rw [<- gN] at hst
        have hrun:=iP (P:=P) (w:=w) (ty:=ty) (n:=n) (sCap:=mc) (b:=b.add o) ht hu hs hlen hroom hn2 hst
        exact ⟨_,w',ρ,.slice (some (b.add o)) (n+m) mc,by simp [hrun],.inl rfl,by simp only [AV.rel];exact ⟨b,mc,hb0,hcap,.inl rfl⟩,hpost⟩
      . omega
   ·
    rename_i hwi
    split at ha
    . rename_i c0
      split at ha
      case isFalse=>cases ha
      rename_i hlt
      simp only [ae,an] at ha
      obtain ⟨olds,hol,rfl,rfl⟩:=ha
      simp only [Cap.is] at hcap
      subst hcap
      obtain ⟨os,ho1,ho2⟩:=gv (P:=P) r.drew hol hx
      obtain ⟨base,hbase⟩:∃ base,xs=.slice base n mc:=by
       rcases hxx with rfl | ⟨rfl,rfl,b',rfl⟩
       . exact ⟨_,rfl⟩
       . exact ⟨_,rfl⟩
      have hrun:=jS (P:=P) (w:=w) (ty:=ty) (n:=n) (sCap:=mc) (olds:=os) ht hu hs hb hz1 hbase hlen hlt hbig hby ho2 hd2
      have hge:=grownCap_ge w (n+m) mc e
      exact ⟨_,_,_,_,by simp only [Sem.run_bind,hrun,Result.andThen_ok,Sem.run_pure];rfl,.inl rfl,tR r,qQ r (fR ho1 hd1) hzs (by simp [iZ hol,hnl,cS]) hge⟩
    . rename_i k d
      split at ha
      case h_2=>cases ha
      rename_i cs k' s' hobj
      split at ha
      case isFalse=>cases ha
      rename_i hc
      obtain ⟨rfl,rfl,rfl,hcl⟩:=hc
      cases ha
      have hol:firstCellsA h s' n (.slice i (d*s') n (.loose k' d))=some ((cs.drop (d*s')).take (n*s')):=by
       by_cases hn0:n=0
       . subst hn0;simp [firstCellsA]
       . simp [firstCellsA,AHeap.jc,AHeap.row,hobj,hcl,hn0]
      obtain ⟨cc,hc1,hc2⟩:=hcap
      have hh:=r.obj i _ b hobj hb0
      obtain ⟨hsp,c,et,hblk,hcont,hrm⟩:=hh
      obtain ⟨cc',hc3,hc4⟩:=hrm _ _ rfl
      obtain rfl:cc=cc':=by have:=hc1.symm.trans hc3;simpa using this
      by_cases hroom:n+m<=mc
      ·
       have hsize:b.off+d*s'+mc*s'<=c.size:=by
        rcases bH cc d with hlt | hge
        . have e0:mc=0:=by omega
          have en:n=0:=by omega
          subst e0;subst en;simp only [HI,dJ] at hcl ⊢
          by_cases hcs:cs=[]
          . subst hcs;have h0:d*s'<=0:=by simpa using hcl
            omega
          . have:=H9 hcont hcs;omega
        . have e1:d*s'+mc*s'=cc*s':=by rw [<- cS];congr 1;omega
          omega
       have hmul:n*s'+m*s'<=mc*s':=by rw [<- cS];exact fJ _ hroom
       have hnsl:ns.length=m*s':=by rw [br hn1,hnl]
       have hst:=run_storeCells_at P b.block (b.off+d*s'+n*s') et ns 0 c w hblk (by omega) (P8 hn1 hone)
       simp only [dJ] at hst
       generalize hw':w.setRow b.block (c.toList.take (b.off+d*s'+n*s')++ns++c.toList.drop (b.off+d*s'+n*s'+ns.length)).toArray=w' at hst
       have hblk':w'.heap[b.block]?=some (.cells (c.toList.take (b.off+d*s'+n*s')++ns++c.toList.drop (b.off+d*s'+n*s'+ns.length)).toArray et (0,0)):=by rw [<- hw'];exact setRow_heap w _ c _ et _ hblk
       have hmin:min (b.off+d*s'+n*s') c.size=b.off+d*s'+n*s':=by omega
       have hadd:b.add (d*s')=⟨b.block,b.off+d*s',none⟩:=me hsp _
       have hpost:Post G ρ h w ⟨ρ.addr++[b.add (d*s')],ρ.cap++[mc],ρ.lit⟩ ⟨h.objs.set i .dead++[.cells false ((cs.drop (d*s')).take (n*s')++news) (some (h.caps.length,s'))],h.caps++[n+m]⟩ w':=by
        refine Post.move r hobj hb0 rfl (add_block _ _) mc (n+m) hroom (by rw [<- hw'];rfl) (by rw [<- hw'];rfl) (by rw [<- hw'];rfl) (by rw [<- hw'];simp) (fun k hk=>by rw [<- hw'];exact setRow_other w _ _ _ hk) ?_ rfl;have hoff:(b.add (d*s')).off=b.off+d*s':=by rw [hadd]
        refine ⟨by rw [hadd],_,et,by rw [add_block];exact hblk',fun j v hj=>?_,fun k s hk=>?_⟩
        . have hle:ρ.le ⟨ρ.addr++[b.add (d*s')],ρ.cap++[mc],ρ.lit⟩:=⟨⟨_,rfl⟩,⟨_,rfl⟩,⟨[],by simp⟩⟩
          rw [hoff];have hlen1:((cs.drop (d*s')).take (n*s')).length=n*s':=by simp;omega
          rw [ej,hlen1] at hj;simp only [gI];rw [cX,ej];simp only [dZ,dD,hmin];split at hj
          . rename_i hjn;rw [if_pos (by omega)];simp only [cv,aN,hjn,if_true] at hj;obtain ⟨x,h1,h2⟩:=hcont _ v hj;refine ⟨x,?_,AV.gT hle _ _ h2⟩;rw [cv,if_pos (by omega),bt,<- h1];congr 1;omega
          . rename_i hjn;rw [if_neg (by omega),ej];obtain ⟨x,h1,h2⟩:=da hn1 hj;have hlt:=(aa.1 h1).1;rw [if_pos (by omega)];refine ⟨x,?_,AV.gT hle _ _ h2⟩;rw [<- h1];congr 1;omega
        . cases hk;refine ⟨mc,by rw [<- r.mh];simp,?_⟩;rw [hoff];simp only [fP,aM,dZ,eg,dD,hmin];omega
       have hval:∀ q,(q=Value.slice (some (b.add (d*s'))) (n+m) mc\/(n+m=0/\mc=0/\∃ b',q=.slice (some b') 0 0))->(AV.slice h.objs.length 0 (n+m) (.loose h.caps.length 0)).rel ⟨ρ.addr++[b.add (d*s')],ρ.cap++[mc],ρ.lit⟩ q:=by intro q hq;simp only [AV.rel];refine ⟨b.add (d*s'),mc,by simp [<- r.jK],⟨mc,by rw [<- r.mh];simp,by simp⟩,?_⟩;rw [gN,dJ];exact hq
       rcases hxx with rfl | ⟨rfl,rfl,b',rfl⟩
       . have hst':(storeCells ((b.add (d*s')).add (n*s')) ns).run P w=.ok () w':=by rw [gN,me hsp,<- fI];exact hst
         have hrun:=iP (P:=P) (w:=w) (ty:=ty) (n:=n) (sCap:=mc) (b:=b.add (d*s')) ht hu hs hlen hroom hn2 hst'
         exact ⟨_,w',_,.slice (some (b.add (d*s'))) (n+m) mc,by simp only [Sem.run_bind,hrun,Result.andThen_ok,Sem.run_pure],.inl rfl,hval _ (.inl rfl),hpost⟩
       . have hm0:m=0:=by omega
         subst hm0
         have:ns=[]:=aG (by simpa using hnsl)
         subst this
         have hww:w'=w:=by have:=hst;simp only [storeCells,Sem.run_pure,Result.ok.injEq,true_and] at this;exact this.symm
         have hrun:=iP (P:=P) (w:=w) (ty:=ty) (n:=0) (sCap:=0) (b:=b') ht hu hs hlen hroom hn2 (w':=w) rfl
         rw [hww] at hpost
         exact ⟨_,w,_,.slice (some b') 0 0,by simp only [Sem.run_bind,hrun,Result.andThen_ok,Sem.run_pure],.inl rfl,hval _ (.inr ⟨rfl,rfl,b',rfl⟩),hpost⟩
      . obtain ⟨os,ho1,ho2⟩:=gv (P:=P) r.drew hol (x:=xs) (by simp only [AV.rel];exact ⟨b,mc,hb0,⟨cc,hc1,hc2⟩,hxx⟩)
        obtain ⟨base,hbase⟩:∃ base,xs=.slice base n mc:=by
         rcases hxx with rfl | ⟨rfl,rfl,b',rfl⟩
         . exact ⟨_,rfl⟩
         . exact ⟨_,rfl⟩
        have hrun:=jS (P:=P) (w:=w) (ty:=ty) (n:=n) (sCap:=mc) (olds:=os) ht hu hs hb hz1 hbase hlen (by omega) hbig hby ho2 hd2
        have hge:=grownCap_ge w (n+m) mc e
        have rk:=Post.kill r (i:=i)
        have hp:=qQ (e:=e) rk.rel (fR ho1 hd1) hzs (by simp [iZ hol,hnl,cS]) hge
        have hv:=tR rk.rel (cap:=grownCap w (n+m) mc e) (n:=n+m)
        simp only [AHeap.put,bV] at hp hv
        exact ⟨_,_,_,_,by simp only [Sem.run_bind,hrun,Result.andThen_ok,Sem.run_pure],.inl rfl,hv,rk.trans hp⟩
theorem E1 (r:fw G ρ h w) {t ty e:TypeId} {size:Nat} {z:List AV} {u v:AV} {x:Value} (ht:P.underlying t=some (.slice e)) (hz:zeroT P e=some z) (hzl:z.length=size)
 (hxr:u.rel ρ x) (ha:clearV h size z u=some (v,h')) :
 Runs P G ρ h w (do pure (.value (<- Builtin.clear_ #[t] ty #[x]))) v h':=by
 have ⟨zv,hz1,hz2⟩:=dO hz ρ
 cases u with
 | nilslice=>simp [clearV,ai,an] at ha;obtain ⟨rfl,rfl⟩:=ha;simp [AV.rel] at hxr;subst hxr;exact Runs.val r (x:=.tuple #[]) (by simp [Builtin.clear_,run_underlying ht]) (by simp [AV.rel,AV.rels])
 | slice i o n c=>
  simp [clearV,hzl,if_true] at ha;simp only [AV.rel] at hxr;have ⟨b,m,hb0,hcap,hxx⟩:=hxr;split at ha
  . rename_i hn0;subst hn0;cases ha;rcases hxx with rfl | ⟨_,rfl,b',rfl⟩<;>exact Runs.val r (x:=.tuple #[]) (by simp [Builtin.clear_,run_underlying ht]) (by simp [AV.rel,AV.rels])
  . rename_i hn0;simp only [ae,an] at ha;obtain ⟨h'',hwr,rfl,rfl⟩:=ha;have hrep:=rS hz2 n;obtain ⟨w',hst,hpost⟩:=mA (P:=P) r hwr hb0 hrep
    rcases hxx with rfl | ⟨e0,_⟩
    . obtain ⟨n,rfl⟩:∃ k,n=k+1:=⟨n-1,by omega⟩
      have hzc:(Builtin.zeroCells zv.cells (n+1)).toList=((Array.range ((n+1)*z.length)).map (zv.cells[· % zv.cells.size]!)).toList:=by have:=br hz2;simp at this;simp [Builtin.zeroCells,this]
      rw [<- hzc] at hst;exact ⟨_,w',ρ,.tuple #[],by simp [Builtin.clear_,run_underlying ht,fN hz1,hst],.inl rfl,by simp [AV.rel,AV.rels],hpost⟩
    . exact absurd e0 hn0
 | _=>simp [clearV] at ha
end
section
open Go.MapKept
section
variable {P:Program} {G:Nat} {ρ:eM} {h h':AHeap} {w:World} {fr:AFrame} {a:Act}
theorem GK (r:fw G ρ h w) {t ty e:TypeId} {u:AV} {n:Nat} {x:Value} (ht:P.underlying t=some (.slice e)) (hu:u.gP=some n) (hx:u.rel ρ x) :
 Runs P G ρ h w (do pure (.value (<- Builtin.len_ #[t] ty #[x]))) (iQ n) h:=by
 rcases mD hu hx with ⟨_,rfl,rfl⟩ | ⟨i,o,c,b,m,_,_,_,rfl | ⟨rfl,_,b',rfl⟩⟩ | ⟨cs,b,_,rfl⟩<;>
  exact Runs.val r (x:=.int .i64 _) (by simp [Builtin.len_,run_underlying ht,goInt];rfl) (by simp [AV.rel])
theorem qB {ρ:eM}:∀ {es:List (AV×AV)} {l:List MapEntry},dw ρ es l->l.length=es.length
 | [],_,hr=>by simp [dw] at hr;simp [hr]
 | _::_,_,hr=>by obtain ⟨y,ys,rfl,_,_,h4⟩:=hr;simp [qB h4]
theorem gr (r:fw G ρ h w) {i:Nat} {es:List (AV×AV)} {bs:List Nat} {ck:Nat} {b:Addr} (ho:h.objs[i]?=some (.map es bs ck)) (hb:ρ.addr[i]?=some b) :
 ∃ l,w.heap[b.block]?=some (.map l ck)/\dw ρ es l.toList/\l.toList.map (·.born)=bs:=r.obj i _ b ho hb
theorem dG {w:World} {b:Nat} {l:Array MapEntry} {clock:Nat} (hb:w.heap[b]?=some (.map l clock)):(getObj b).run P w=.ok (.map l clock) w:=by simp [getObj,Sem.run,hb]
theorem jz {i:Nat} {x:Value} (hx:(AV.map i).rel ρ x):∃ b,ρ.addr[i]?=some b/\x=.map (some b.block):=by simpa only [AV.rel] using hx
theorem xK (r:fw G ρ h w) {t ty k e:TypeId} {u:AV} {x:Value} {n:Nat} (ht:P.underlying t=some (.map k e)) (hx:u.rel ρ x)
 (hu:(u=.nilmap/\n=0)\/∃ i es bs ck,u=.map i/\h.objs[i]?=some (.map es bs ck)/\n=es.length) :
 Runs P G ρ h w (do pure (.value (<- Builtin.len_ #[t] ty #[x]))) (iQ n) h:=by
 rcases hu with ⟨rfl,rfl⟩ | ⟨i,es,bs,ck,rfl,ho,rfl⟩
 . simp [AV.rel] at hx;subst hx;exact Runs.val r (x:=.int .i64 0) (by simp [Builtin.len_,run_underlying ht,goInt]) (by simp [AV.rel])
 . obtain ⟨b,hb,rfl⟩:=jz hx;have ⟨l,h1,h2,_⟩:=gr r ho hb;have hl:=qB h2;simp at hl;exact Runs.val r (x:=.int .i64 es.length) (by simp [Builtin.len_,run_underlying ht,dG h1,goInt,hl]) (by simp [AV.rel])
theorem Runs.int (r:fw G ρ h w) {s:Sem Next} {k:IntKind} {n:Int} (hs:s.run P w=.ok (.value (.int k n)) w):Runs P G ρ h w s (.int k n) h:=
 Runs.val r hs (by simp [AV.rel])
theorem pq {u v z:AV} (hz:pt u v=some z):∃ k a b,u=.int k a/\v=.int k b/\z=.int k (if b>a then b else a):=by
 unfold pt at hz;split at hz
 . split at hz
   . rename_i hk;cases hz;subst hk;exact ⟨_,_,_,rfl,rfl,rfl⟩
   . cases hz
 . cases hz
theorem pn {u v z:AV} (hz:kM u v=some z):∃ k a b,u=.int k a/\v=.int k b/\z=.int k (if b<a then b else a):=by
 unfold kM at hz;split at hz
 . split at hz
   . rename_i hk;cases hz;subst hk;exact ⟨_,_,_,rfl,rfl,rfl⟩
   . cases hz
 . cases hz
theorem GB (r:fw G ρ h w) {ts:Array TypeId} {ty:TypeId} {u v z:AV} {x y:Value} (hx:u.rel ρ x) (hy:v.rel ρ y) (hz:pt u v=some z) :
 Runs P G ρ h w (do pure (.value (<- Builtin.max_ ts ty #[x,y]))) z h:=by
 obtain ⟨k,a,b,rfl,rfl,rfl⟩:=pq hz;obtain rfl:=rel_int hx;obtain rfl:=rel_int hy;exact Runs.int r (by simp [Sem.run_bind,run_max_int2,Result.andThen_ok,Sem.run_pure])
theorem GA (r:fw G ρ h w) {ts:Array TypeId} {ty:TypeId} {u v z:AV} {x y:Value} (hx:u.rel ρ x) (hy:v.rel ρ y) (hz:kM u v=some z) :
 Runs P G ρ h w (do pure (.value (<- Builtin.min_ ts ty #[x,y]))) z h:=by
 obtain ⟨k,a,b,rfl,rfl,rfl⟩:=pn hz;obtain rfl:=rel_int hx;obtain rfl:=rel_int hy;exact Runs.int r (by simp [Sem.run_bind,run_min_int2,Result.andThen_ok,Sem.run_pure])
theorem R4 (r:fw G ρ h w) {ts:Array TypeId} {ty:TypeId} {u v t z:AV} {x y q:Value} (hx:u.rel ρ x) (hy:v.rel ρ y) (hq:t.rel ρ q) (hz:(pt u v).bind (pt · t)=some z) :
 Runs P G ρ h w (do pure (.value (<- Builtin.max_ ts ty #[x,y,q]))) z h:=by
 simp [dp] at hz;have ⟨m,h1,h2⟩:=hz;obtain ⟨k,a,b,rfl,rfl,rfl⟩:=pq h1;obtain ⟨k',a',b',e1,rfl,rfl⟩:=pq h2;obtain ⟨rfl,rfl⟩:=AV.int.inj e1;obtain rfl:=rel_int hx;obtain rfl:=rel_int hy;obtain rfl:=rel_int hq;exact Runs.int r (by simp [Sem.run_bind,run_max_int3,Result.andThen_ok,Sem.run_pure])
theorem Gz (r:fw G ρ h w) {ts:Array TypeId} {ty:TypeId} {u v t z:AV} {x y q:Value} (hx:u.rel ρ x) (hy:v.rel ρ y) (hq:t.rel ρ q) (hz:(kM u v).bind (kM · t)=some z) :
 Runs P G ρ h w (do pure (.value (<- Builtin.min_ ts ty #[x,y,q]))) z h:=by
 simp [dp] at hz;have ⟨m,h1,h2⟩:=hz;obtain ⟨k,a,b,rfl,rfl,rfl⟩:=pn h1;obtain ⟨k',a',b',e1,rfl,rfl⟩:=pn h2;obtain ⟨rfl,rfl⟩:=AV.int.inj e1;obtain rfl:=rel_int hx;obtain rfl:=rel_int hy;obtain rfl:=rel_int hq;exact Runs.int r (by simp [Sem.run_bind,run_min_int3,Result.andThen_ok,Sem.run_pure])
theorem xh (d:Nat) {kt:TypeId} {k:IntKind} (hk:P.underlying kt=some (.int k)) (e:Bool) (j:IntKind) (n:Int):(Instr.checkKey e (d+1) kt (.int j n)).run P w=.ok () w:=by simp [Instr.checkKey,run_underlying hk]
theorem fq {kt:TypeId} {k:IntKind} (hk:P.underlying kt=some (.int k)) (e:Bool) (j:IntKind) (n:Int):(Instr.checkKey e 10000 kt (.int j n)).run P w=.ok () w:=xh 9999 hk e j n
theorem jr {kk:IntKind} {j:IntKind} {n:Int}:∀ (es:List (AV×AV)) (l:List MapEntry) (i:Nat) (r:Option AV),dw ρ es l->findA (.int j n) es=some r->
 (r=none/\Instr.findNow (.int kk) (.int j n) l i=some none)\/
 (∃ v o x e,r=some v/\Instr.findNow (.int kk) (.int j n) l i=some (some (i+o,x))/\l[o]?=some e/\e.key=.int j n/\e.val=x/\v.rel ρ x/\o=posA (.int j n) es)
 | [],l,i,r,hr,hf=>by simp [dw] at hr;subst hr;cases hf;exact .inl ⟨rfl,rfl⟩
 | (k0,v0)::es,l,i,r,hr,hf=>by
  obtain ⟨y,ys,rfl,h1,h2,h3⟩:=hr;simp [findA] at hf;split at hf
  . rename_i hk;cases hf;have hpos:posA (.int j n) ((k0,v0)::es)=0:=by simp [posA,hk]
    cases k0<;>simp [hU] at hk;obtain ⟨rfl,rfl⟩:=hk;have hkey:=rel_int h1;exact .inr ⟨_,0,y.val,y,rfl,by simp [Instr.findNow,Instr.sameNow,hkey],rfl,hkey,rfl,h2,hpos.symm⟩
  . rename_i hk;have hpos:posA (.int j n) ((k0,v0)::es)=posA (.int j n) es+1:=by simp [posA,hk]
    cases k0<;>simp [hU] at hk;rename_i j' m;obtain ⟨rfl,hne⟩:=hk;have hkey:=rel_int h1;have hsn:Instr.sameNow (.int kk) (.int j n) y.key=some false:=by rw [hkey];simp [Instr.sameNow,hne]
    rcases jr (kk:=kk) es ys (i+1) r h3 hf with ⟨rfl,h4⟩ | ⟨v,o,x,e,rfl,h4,h5,h6,h7,h8,h9⟩
    . exact .inl ⟨rfl,by simp [Instr.findNow,hsn,h4]⟩
    . refine .inr ⟨v,o+1,x,e,rfl,?_,by simpa using h5,h6,h7,h8,by rw [hpos,h9]⟩;have:i+(o+1)=i+1+o:=by omega
      simp [Instr.findNow,hsn,h4,this]
  . cases hf
theorem od (r:fw G ρ h w) {t kt e:TypeId} {kk:IntKind} {z:AV} {ok:Bool} {u k v:AV} {x y:Value} (ht:P.underlying t=some (.map kt e)) (hk:P.underlying kt=some (.int kk)) (hz:(zeroV P e).bind ofValue=some z)
 (hx:u.rel ρ x) (hy:k.rel ρ y)
 (he:(u=.nilmap/\(∃ j n,k=.int j n)/\v=if ok then .tuple [z,.bool false] else z)\/∃ j es bs ck r,u=.map j/\h.objs[j]?=some (.map es bs ck)/\(∃ j n,k=.int j n)/\findA k es=some r/\
  v=match r with | some q=>if ok then .tuple [q,.bool true] else q | none=>if ok then .tuple [z,.bool false] else z) :
 Runs P G ρ h w (do pure (.value (<- Instr.lookup t x y ok))) v h:=by
 obtain ⟨zv,hz1,hz2⟩:∃ zv,zeroV P e=some zv/\z.rel ρ zv:=by simp [dp] at hz;have ⟨zv,h1,h2⟩:=hz;exact ⟨zv,h1,mE h2⟩
 have two:∀ (q:AV) (p:Value) (b:Bool),q.rel ρ p->(if ok then AV.tuple [q,.bool b] else q).rel ρ (if ok then .tuple #[p,.bool b] else p):=by
  intro q p b hq;cases ok
  . simpa using hq
  . simp only [if_true,AV.rel,AV.rels];exact ⟨[p,.bool b],⟨p,_,rfl,hq,_,_,rfl,rfl,rfl⟩,by simp⟩
 rcases he with ⟨rfl,⟨j,n,rfl⟩,rfl⟩ | ⟨i,es,bs,ck,r',rfl,ho,⟨j,n,rfl⟩,hf,rfl⟩
 . simp [AV.rel] at hx
   subst hx
   obtain rfl:=rel_int hy
   have hfk:(Instr.findKey kt (.int j n) []).run P w=.ok none w:=run_findKey hk rfl
   refine Runs.val r (x:=if ok then .tuple #[zv,.bool false] else zv) ?_ (two z zv false hz2)
   simp [Instr.lookup,run_underlying ht,fq hk,hfk,fN hz1]
 . obtain ⟨b,hb,rfl⟩:=jz hx
   obtain rfl:=rel_int hy
   have ⟨l,h1,h2,_⟩:=gr r ho hb
   rcases jr (kk:=kk) es l.toList 0 r' h2 hf with ⟨rfl,h4⟩ | ⟨q,o,p,en,rfl,h4,h5,h6,h7,h8,_⟩
   . have hfk:=run_findKey (P:=P) (w:=w) hk h4
     refine Runs.val r (x:=if ok then .tuple #[zv,.bool false] else zv) ?_ (two z zv false hz2)
     simp [Instr.lookup,run_underlying ht,fq hk,hfk,fN hz1,dG h1]
   . have hfk:=run_findKey (P:=P) (w:=w) hk h4
     refine Runs.val r (x:=if ok then .tuple #[p,.bool true] else p) ?_ (two q p true h8)
     simp [Instr.lookup,run_underlying ht,fq hk,hfk,dG h1]
theorem iA (r:fw G ρ h w) {i:Nat} {es es':List (AV×AV)} {bs bs':List Nat} {ck ck':Nat} {b:Addr} {l l':Array MapEntry} (ho:h.objs[i]?=some (.map es bs ck)) (hb:ρ.addr[i]?=some b) (hl:w.heap[b.block]?=some (.map l ck))
 (hr:dw ρ es' l'.toList) (hbs:l'.toList.map (·.born)=bs') :
 (setObj b.block (.map l' ck')).run P w=.ok () {w with heap:=w.heap.setIfInBounds b.block (.map l' ck')}/\Post G ρ h w ρ (h.put i (.map es' bs' ck')) {w with heap:=w.heap.setIfInBounds b.block (.map l' ck')}:=by
 have ⟨h1,h2⟩:=heap_set (w:=w) (o':=.map l' ck') hl;exact ⟨run_setObj_map _ hl,Post.put r ho hb rfl rfl rfl rfl rfl (by simp) h2 ⟨l',h1,hr,hbs⟩⟩
theorem kZ (f:MapEntry->MapEntry) (hf:∀ e,(f e).born=e.born):∀ (l:List MapEntry) (o:Nat),(l.modify o f).map (·.born)=l.map (·.born)
 | [],o=>by cases o<;>rfl
 | e::l,0=>by simp [hf]
 | e::l,o+1=>by simp [kZ f hf l o]
theorem qA {ρ:eM} {v:AV} {x:Value} (hv:v.rel ρ x):∀ (es:List (AV×AV)) (l:List MapEntry) (o:Nat),dw ρ es l->dw ρ (es.modify o fun e=>(e.1,v)) (l.modify o fun e=>{e with val:=x})
 | [],l,o,hr=>by simp [dw] at hr;subst hr;cases o<;>rfl
 | e::es,l,o,hr=>by
  obtain ⟨y,ys,rfl,h1,h2,h3⟩:=hr;cases o with
  | zero=>exact ⟨_,_,rfl,h1,hv,h3⟩
  | succ o=>exact ⟨_,_,rfl,h1,h2,qA hv es ys o h3⟩
theorem rV {ρ:eM}:∀ (es:List (AV×AV)) (l:List MapEntry) (o:Nat),dw ρ es l->dw ρ (es.eraseIdx o) (l.eraseIdx o)
 | [],l,o,hr=>by simp [dw] at hr;subst hr;rfl
 | a::es,l,o,hr=>by
  obtain ⟨y,ys,rfl,h1,h2,h3⟩:=hr;cases o with
  | zero=>exact h3
  | succ o=>exact ⟨_,_,rfl,h1,h2,rV es ys o h3⟩
theorem uO:∀ (l:List MapEntry) (o:Nat),(l.eraseIdx o).map (·.born)=(l.map (·.born)).eraseIdx o
 | [],o=>rfl
 | e::l,0=>rfl
 | e::l,o+1=>by simp [uO l o]
theorem wP {j:IntKind} {n:Int} {v:AV} {y:Value} (hy:v.rel ρ y) (clock:Nat):∀ (es:List (AV×AV)) (l:List MapEntry) (es':List (AV×AV)),dw ρ es l->updA (.int j n) v es=some es'->
 (findA (.int j n) es=some none/\dw ρ es' (l++[{key:=.int j n,val:=y,born:=clock}]))\/
 (∃ q,findA (.int j n) es=some (some q)/\∀ o e,l[o]?=some e->e.key=.int j n->(∀ i<o,∀ e,l[i]?=some e->e.key≠.int j n)->dw ρ es' (l.modify o fun e=>{e with key:=.int j n,val:=y}))
 | [],l,es',hr,hu=>by simp [dw] at hr;subst hr;cases hu;refine .inl ⟨rfl,_,_,rfl,by simp [AV.rel],hy,rfl⟩
 | (k0,v0)::es,l,es',hr,hu=>by
  obtain ⟨e0,ys,rfl,h1,h2,h3⟩:=hr;simp [updA] at hu;split at hu
  . rename_i hk;cases hu;have hk':=hk;cases k0<;>simp [hU] at hk';obtain ⟨rfl,rfl⟩:=hk';refine .inr ⟨v0,by simp [findA,hk],fun o e ho he hmin=>?_⟩;cases o with
    | zero=>exact ⟨_,_,rfl,by simp [AV.rel],hy,h3⟩
    | succ o=>exact absurd (rel_int h1) (hmin 0 (by omega) e0 rfl)
  . rename_i hk;simp [ae] at hu;obtain ⟨r',hr',rfl⟩:=hu;have hk':=hk;cases k0<;>simp [hU] at hk';obtain ⟨rfl,hne⟩:=hk';rcases wP hy clock es ys r' h3 hr' with ⟨h4,h5⟩ | ⟨q,h4,h5⟩
    . exact .inl ⟨by simp [findA,hk,h4],_,_,rfl,h1,h2,h5⟩
    . refine .inr ⟨q,by simp [findA,hk,h4],fun o e ho he hmin=>?_⟩;cases o with
      | zero=>simp at ho;subst ho;have:=rel_int h1;rw [this] at he;simp at he;exact absurd he.symm hne
      | succ o=>refine ⟨e0,_,rfl,h1,h2,h5 o e (by simpa using ho) he fun i hi e' he'=>hmin (i+1) (by omega) e' (by simpa using he')⟩
  . cases hu
theorem yn {kk:IntKind} {j:IntKind} {n:Int}:∀ (es:List (AV×AV)) (l:List MapEntry) (i:Nat) (r:Option AV),dw ρ es l->findA (.int j n) es=some r->
 ∀ o x,Instr.findNow (.int kk) (.int j n) l i=some (some (i+o,x))->∀ m<o,∀ e,l[m]?=some e->e.key≠.int j n
 | [],l,i,r,hr,hf,o,x,hn,m,hm,e,he=>by simp [dw] at hr;subst hr;simp at he
 | (k0,v0)::es,l,i,r,hr,hf,o,x,hn,m,hm,e,he=>by
  obtain ⟨y,ys,rfl,h1,h2,h3⟩:=hr;simp [findA] at hf;split at hf
  . rename_i hk;cases k0<;>simp [hU] at hk;obtain ⟨rfl,rfl⟩:=hk;have hkey:=rel_int h1;simp [Instr.findNow,Instr.sameNow,hkey] at hn;omega
  . rename_i hk;cases k0<;>simp [hU] at hk;rename_i j' m';obtain ⟨rfl,hne⟩:=hk;have hkey:=rel_int h1;have hsn:Instr.sameNow (.int kk) (.int j n) y.key=some false:=by rw [hkey];simp [Instr.sameNow,hne]
    simp [Instr.findNow,hsn] at hn;cases m with
    | zero=>simp at he;subst he;rw [hkey];simpa using fun h=>hne h.symm
    | succ m=>
     have:i+o=i+1+(o-1):=by omega
     rw [this] at hn;exact yn es ys (i+1) r h3 hf (o-1) x hn m (by omega) e (by simpa using he)
  . cases hf
theorem oL (r:fw G ρ h w) {t kt e:TypeId} {kk:IntKind} {i:Nat} {es:List (AV×AV)} {bs:List Nat} {ck:Nat} {j:IntKind} {n:Int} {v z:AV} {x y q:Value} (ht:P.underlying t=some (.map kt e)) (hk:P.underlying kt=some (.int kk))
 (hx:(AV.map i).rel ρ x) (hy:(AV.int j n).rel ρ y) (hq:v.rel ρ q) (ho:h.objs[i]?=some (.map es bs ck)) (hu:updateA h i (.int j n) v es bs ck=some (z,h')) :
 Runs P G ρ h w (do Instr.mapUpdate t x y q;pure .skip) z h':=by
 obtain ⟨b,hb,rfl⟩:=jz hx
 obtain rfl:=rel_int hy
 obtain ⟨l,h1,h2,h3⟩:=gr r ho hb
 unfold updateA at hu
 split at hu
 . rename_i p es' hf hu'
   cases hu
   rcases wP hq ck es l.toList es' h2 hu' with ⟨hf',_⟩ | ⟨_,_,hr⟩
   . rw [hf] at hf';simp at hf'
   . rcases jr (kk:=kk) es l.toList 0 _ h2 hf with ⟨e1,_⟩ | ⟨q',o,p',en,e1,h4,h5,h6,h7,h8,_⟩
     . cases e1
     . have hfk:=run_findKey (P:=P) (w:=w) hk h4
       have hfst:=yn (kk:=kk) es l.toList 0 _ h2 hf o p' h4
       obtain ⟨hs,hp⟩:=iA (P:=P) r (ck':=ck) (bs':=bs) (l':=l.modify o fun e=>{e with key:=.int j n,val:=q}) ho hb h1 (by simpa using hr o en h5 h6 hfst) (by rw [kB];refine (kZ _ ?_ _ _).trans h3;intro e;rfl)
       have hstay:(Instr.keyThatStays (.int j n) (.int j n)).run P w=.ok (.int j n) w:=by simp [Instr.keyThatStays,Instr.sameBits]
       have h5':l[o]?=some en:=by simpa using h5
       refine ⟨.skip,_,ρ,undef,?_,.inr ⟨rfl,rfl⟩,fM ρ,hp⟩
       simp [Instr.mapUpdate,run_underlying ht,fq hk,hfk,dG h1,h5',h6,hstay,hs]
 . rename_i es' hf hu'
   cases hu
   rcases wP hq ck es l.toList es' h2 hu' with ⟨_,hr⟩ | ⟨_,hf',_⟩
   . rcases jr (kk:=kk) es l.toList 0 _ h2 hf with ⟨_,h4⟩ | ⟨_,_,_,_,e1,_⟩
     . have hfk:=run_findKey (P:=P) (w:=w) hk h4
       obtain ⟨hs,hp⟩:=iA (P:=P) r (ck':=ck+1) (bs':=bs++[ck]) (l':=l.push {key:=.int j n,val:=q,born:=ck}) ho hb h1 (by simpa using hr) (by simp [h3])
       exact ⟨.skip,_,ρ,undef,by simp [Instr.mapUpdate,run_underlying ht,fq hk,hfk,dG h1,hs],.inr ⟨rfl,rfl⟩,fM ρ,hp⟩
     . cases e1
   . rw [hf] at hf';simp at hf'
 . cases hu
theorem CU (r:fw G ρ h w) {t t' ty kt e:TypeId} {kk:IntKind} {i:Nat} {es:List (AV×AV)} {bs:List Nat} {ck:Nat} {j:IntKind} {n:Int} {u:AV} {x y:Value} (ht:P.underlying t=some (.map kt e)) (hk:P.underlying kt=some (.int kk))
 (hx:(AV.map i).rel ρ x) (hy:(AV.int j n).rel ρ y) (ho:h.objs[i]?=some (.map es bs ck)) (hu:deleteA h i (.int j n) es bs ck=some (u,h')) :
 Runs P G ρ h w (do pure (.value (<- Builtin.delete_ #[t,t'] ty #[x,y]))) u h':=by
 obtain ⟨b,hb,rfl⟩:=jz hx;obtain rfl:=rel_int hy;have ⟨l,h1,h2,h3⟩:=gr r ho hb;have two:(AV.tuple []).rel ρ (.tuple #[]):=by simp only [AV.rel,AV.rels];exact ⟨[],rfl,by simp⟩
 unfold deleteA at hu;split at hu
 . rename_i v hf;cases hu;rcases jr (kk:=kk) es l.toList 0 _ h2 hf with ⟨e1,_⟩ | ⟨q',o,p',en,e1,h4,h5,h6,h7,h8,h9⟩
   . cases e1
   . have hfk:=run_findKey (P:=P) (w:=w) hk h4;have hl:(l.eraseIdxIfInBounds o).toList=l.toList.eraseIdx o:=by simp
     have ⟨hs,hp⟩:=iA (P:=P) r (ck':=ck) (bs':=bs.eraseIdx o) (es':=es.eraseIdx o) (l':=l.eraseIdxIfInBounds o) ho hb h1 (by rw [hl];exact rV es l.toList o h2) (by rw [hl,uO,h3]);rw [h9] at hp;refine ⟨_,_,ρ,_,?_,.inl rfl,two,hp⟩;simp [Builtin.delete_,run_underlying ht,fq hk,hfk,dG h1,hs,<- h9]
 . rename_i hf;cases hu;rcases jr (kk:=kk) es l.toList 0 _ h2 hf with ⟨_,h4⟩ | ⟨_,_,_,_,e1,_⟩
   . have hfk:=run_findKey (P:=P) (w:=w) hk h4;have ⟨hs,hp⟩:=iA (P:=P) r (ck':=ck) (bs':=bs) (es':=es) (l':=l) ho hb h1 h2 h3;refine ⟨_,_,ρ,_,?_,.inl rfl,two,hp⟩;simp [Builtin.delete_,run_underlying ht,fq hk,hfk,dG h1,hs]
   . cases e1
 . cases hu
end
end
section
variable {P:Program} {G:Nat} {ρ:eM} {h h':AHeap} {w:World} {fr:AFrame} {a:Act}
theorem yU {t:TypeId} {fs:Array Field} {f off n:Nat} (hu:P.underlying t=some (.struct fs)) (hp:mM P t f=some (off,n)):∃ g,fs[f]?=some g/\g.offset=off/\sizeT P g.type=some n:=by
 simp [mM,hu] at hp;split at hp
 . rename_i g hg;simp only [ae,an] at hp;have ⟨m,hm,h1,h2⟩:=hp;exact ⟨g,hg,h1,by rw [hm,h2]⟩
 . cases hp
theorem Runs.mono {s:Sem Next} {s':Sem Next} {v:AV} (he:s.run P w=s'.run P w) (hr:Runs P G ρ h w s' v h'):Runs P G ρ h w s v h':=by have ⟨n,w',ρ',x,h1,h2⟩:=hr;exact ⟨n,w',ρ',x,by rw [he];exact h1,h2⟩
theorem zZ (hf:AV.rels ρ fr a.tmps.toList) (r:fw G ρ h w) {op:BinOp} {t:TypeId} {x y:Operand} {u v:AOpd} {ao:AOp} {z:AV} (hx:compOpd G x=some u) (hy:compOpd G y=some v)
 (hc:compBin P op t u v=some ao) (he:evOp ao fr h=some (z,h')):Runs P G ρ h w (do pure (.value (<- (do eqGuard op t x y (a.eval x) (a.eval y);binOp op t (a.eval x) (a.eval y))))) z h':=by
 have rx:=aX hf r.glob hx
 have ry:=aX hf r.glob hy
 have nil:∀ k neg,Cg P t k->nw op=some neg->evOp (.cmpNil neg k u v) fr h=some (z,h')->Runs P G ρ h w (do pure (.value (<- (do eqGuard op t x y (a.eval x) (a.eval y);binOp op t (a.eval x) (a.eval y))))) z h':=by
  intro k neg hk hop he;simp [evOp,evOpE] at he;split at he
  . rename_i b h1 h2;simp [ai,an] at he;obtain ⟨rfl,rfl⟩:=he;simpa using sO r hk hop rx ry h1 h2 (.inr rfl)
  . rename_i b _ h1 h2;simp [ai,an] at he;obtain ⟨rfl,rfl⟩:=he;simpa using sO r hk hop rx ry h1 h2 (.inl rfl)
  . cases he
 unfold compBin at hc
 split at hc
 . cases hc
   simp [evOp,evOpE,ae,an] at he
   obtain ⟨q,hq,rfl,rfl⟩:=he
   exact Bj r rx ry hq
 . cases hc
   simp [evOp,evOpE,ae,an] at he
   obtain ⟨q,hq,rfl,rfl⟩:=he
   exact Bj r rx ry hq
 . rename_i ht
   simp only [ae] at hc
   obtain ⟨neg,hop,rfl⟩:=hc
   simp only [evOp,evOpE] at he
   split at he
   . rename_i b c h1 h2
     simp only [ai,an] at he
     obtain ⟨rfl,rfl⟩:=he
     rw [h1] at rx;rw [h2] at ry
     exact CQ r ht hop rx ry
   . cases he
 . rename_i e ht
   simp only [ae] at hc
   obtain ⟨neg,hop,rfl⟩:=hc
   exact nil 0 neg ⟨e,ht⟩ hop he
 . rename_i e ht
   simp only [ae] at hc
   obtain ⟨neg,hop,rfl⟩:=hc
   exact nil 1 neg ⟨e,ht⟩ hop he
 . rename_i k e ht
   simp only [ae] at hc
   obtain ⟨neg,hop,rfl⟩:=hc
   exact nil 2 neg ⟨k,e,ht⟩ hop he
 . rename_i p q s ht
   simp only [ae] at hc
   obtain ⟨neg,hop,rfl⟩:=hc
   exact nil 3 neg ⟨p,q,s,ht⟩ hop he
 . cases hc
theorem xp {xs:List Operand} {y:AOpd} (hc:compOpds G xs=some [y]):∃ x,xs=[x]/\compOpd G x=some y:=by
 cases xs with
 | nil=>simp [compOpds] at hc
 | cons x xs=>
  simp [compOpds] at hc;split at hc
  . rename_i h1 h2;simp [ai,List.cons.injEq] at hc;obtain ⟨rfl,rfl⟩:=hc;cases xs with
    | nil=>exact ⟨x,rfl,h1⟩
    | cons x' xs=>simp [compOpds] at h2;split at h2<;>simp at h2
  . cases hc
theorem lz {xs:List Operand} {y:AOpd} {ys:List AOpd} (hc:compOpds G xs=some (y::ys)):∃ x xs',xs=x::xs'/\compOpd G x=some y/\compOpds G xs'=some ys:=by
 cases xs with
 | nil=>simp [compOpds] at hc
 | cons x xs=>
  simp [compOpds] at hc;split at hc
  . rename_i h1 h2;simp [ai,List.cons.injEq] at hc;obtain ⟨rfl,rfl⟩:=hc;exact ⟨x,xs,rfl,h1,h2⟩
  . cases hc
end
section
variable {P:Program} {G:Nat} {ρ:eM} {h h':AHeap} {w:World} {fr:AFrame} {a:Act}
theorem eZ {c:Call} {l:List Operand} (hl:c.args.toList=l):c.args.map a.eval=(l.map a.eval).toArray:=by subst hl;apply nR;simp
theorem rH {c:Call} {l:List TypeId} (hl:c.argTypes.toList=l):c.argTypes=l.toArray:=by subst hl;apply nR;simp
theorem gL {c:Call} {b:Builtin} {ty:TypeId} (hb:c.callee=.builtin b):((do let d <- resolve a.eval c ty;invoke d.target d.args):Sem Next).run P w =
 (builtin b c.argTypes ty (c.args.map fun | .const _=>true | _=>false) (c.args.map a.eval)).run P w:=by
 have ⟨cl,args,tys⟩:=c;simp only at hb;subst hb;simp [resolve,invoke,Sem.run_bind,Sem.run_pure,Result.andThen_ok];rfl
theorem Hp (hf:AV.rels ρ fr a.tmps.toList) (r:fw G ρ h w) {c:Call} {ty:TypeId} {ao:AOp} {v:AV} (hc:lY P G c ty=some ao) (he:evOp ao fr h=some (v,h')) :
 Runs P G ρ h w (do let d <- resolve a.eval c ty;invoke d.target d.args) v h':=by
 unfold lY at hc
 split at hc
 . cases hc;simp [evOp,evOpE] at he
 . cases hc;simp [evOp,evOpE] at he
 ·
  rename_i x hcal hargs
  have ⟨ox,hox,hcx⟩:=xp hargs
  have rx:=aX hf r.glob hcx
  split at hc
  case h_2=>cases hc
  rename_i t htys
  refine Runs.mono (gL hcal) ?_
  rw [eZ hox,rH htys]
  simp [builtin,aR,eT]
  split at hc
  . rename_i e ht
    cases hc
    simp [evOp,evOpE] at he
    split at he
    . rename_i n hn
      simp [ai,an] at he
      obtain ⟨rfl,rfl⟩:=he
      exact GK r ht hn rx
    . cases he
  . rename_i k e ht
    cases hc
    simp [evOp,evOpE] at he
    split at he
    . rename_i hs
      cases he
      exact xK r ht rx (.inl ⟨hs,rfl⟩)
    . rename_i i hs
      split at he
      . rename_i es bs ck hes
        cases he
        exact xK r ht rx (.inr ⟨i,es,_,_,hs,hes,rfl⟩)
      . cases he
    . cases he
  . cases hc
 ·
  rename_i s x hcal hargs
  have ⟨os,_,hos,hcs,hargs'⟩:=lz hargs
  obtain ⟨ox,rfl,hcx⟩:=xp hargs'
  have rs:=aX hf r.glob hcs
  have rx:=aX hf r.glob hcx
  split at hc
  case h_2=>cases hc
  rename_i t u htys
  split at hc
  case h_2=>cases hc
  rename_i e e' ht hu
  split at hc
  case h_2=>cases hc
  rename_i sz by_ z hsz hby hz
  split at hc
  case isFalse=>cases hc
  rename_i hzl
  cases hc
  refine Runs.mono (gL hcal) ?_
  rw [eZ hos,rH htys]
  simp [builtin,aR,eT]
  exact Db r ht ⟨e',hu⟩ hsz hby hz hzl rs rx he
 ·
  rename_i x hcal hargs
  have ⟨ox,hox,hcx⟩:=xp hargs
  have rx:=aX hf r.glob hcx
  split at hc
  case h_2=>cases hc
  rename_i t htys
  split at hc
  case h_2=>cases hc
  rename_i e ht
  split at hc
  case h_2=>cases hc
  rename_i sz z hsz hz
  split at hc
  case isFalse=>cases hc
  rename_i hzl
  cases hc
  refine Runs.mono (gL hcal) ?_
  rw [eZ hox,rH htys]
  simp [builtin,aR,eT]
  simp [evOp,evOpE] at he
  exact E1 r ht hz hzl rx he
 ·
  rename_i x y hcal hargs
  have ⟨ox,_,hos,hcx,hargs'⟩:=lz hargs
  obtain ⟨oy,rfl,hcy⟩:=xp hargs'
  have rm:=aX hf r.glob hcx
  have rk:=aX hf r.glob hcy
  split at hc
  case h_2=>cases hc
  rename_i t u htys
  split at hc
  case h_2=>cases hc
  rename_i kt e ht
  split at hc
  case h_2=>cases hc
  rename_i kk hk
  cases hc
  refine Runs.mono (gL hcal) ?_
  rw [eZ hos,rH htys]
  simp [builtin,aR,eT]
  simp [evOp,evOpE] at he
  split at he
  case h_2=>cases he
  rename_i j n hjn
  split at he
  case h_2=>cases he
  rename_i q hq
  split at he
  case h_2=>cases he
  rename_i es bs ck hes
  rw [hq] at rm
  rw [hjn] at rk
  exact CU r ht hk rm rk hes he
 . rename_i x y hcal hargs
   have ⟨ox,_,hos,hcx,hargs'⟩:=lz hargs
   obtain ⟨oy,rfl,hcy⟩:=xp hargs'
   cases hc
   simp [evOp,evOpE,ae,an] at he
   obtain ⟨q,hq,rfl,rfl⟩:=he
   refine Runs.mono (gL hcal) ?_
   rw [eZ hos]
   simp [builtin,aR,eT]
   exact GB r (aX hf r.glob hcx) (aX hf r.glob hcy) hq
 . rename_i x y hcal hargs
   have ⟨ox,_,hos,hcx,hargs'⟩:=lz hargs
   obtain ⟨oy,rfl,hcy⟩:=xp hargs'
   cases hc
   simp [evOp,evOpE,ae,an] at he
   obtain ⟨q,hq,rfl,rfl⟩:=he
   refine Runs.mono (gL hcal) ?_
   rw [eZ hos]
   simp [builtin,aR,eT]
   exact GA r (aX hf r.glob hcx) (aX hf r.glob hcy) hq
 . rename_i x y z hcal hargs
   have ⟨ox,_,hos,hcx,hargs'⟩:=lz hargs
   obtain ⟨oy,_,rfl,hcy,hargs''⟩:=lz hargs'
   obtain ⟨oz,rfl,hcz⟩:=xp hargs''
   cases hc
   simp only [evOp,evOpE,ae,an] at he
   obtain ⟨q,hq,rfl,rfl⟩:=he
   refine Runs.mono (gL hcal) ?_
   rw [eZ hos]
   simp only [builtin,aR,eT]
   exact Gz r (aX hf r.glob hcx) (aX hf r.glob hcy) (aX hf r.glob hcz) hq
 . cases hc
theorem MA (hf:AV.rels ρ fr a.tmps.toList) (r:fw G ρ h w) {o:Oper} {ao:AOp} {v:AV} (hc:jD P G o=some ao) (he:evOp ao fr h=some (v,h')) :
 Runs P G ρ h w (execOp a.eval o) v h':=by
 unfold jD at hc
 unfold execOp
 split at hc
 ·
  rename_i x ho
  simp [ho]
  simp [ae] at hc
  obtain ⟨y,hy,rfl⟩:=hc
  simp [evOp,evOpE,ai,an] at he
  obtain ⟨rfl,rfl⟩:=he
  exact Runs.val r rfl (aX hf r.glob hy)
 . rename_i x ho
   simp [ho]
   simp [ae] at hc
   obtain ⟨y,hy,rfl⟩:=hc
   simp [evOp,evOpE,ai,an] at he
   obtain ⟨rfl,rfl⟩:=he
   exact Runs.val r rfl (aX hf r.glob hy)
 ·
  rename_i c x y ho
  simp [ho]
  split at hc
  case h_2=>cases hc
  rename_i c' x' y' hc1 hc2 hc3
  cases hc
  simp [evOp,evOpE] at he
  split at he
  case h_2=>cases he
  rename_i t ht
  simp [ai,an] at he
  obtain ⟨rfl,rfl⟩:=he
  have rc:=aX hf r.glob hc1
  rw [ht] at rc
  have rx:=aX hf r.glob hc2
  have ry:=aX hf r.glob hc3
  cases t
  . exact Runs.val r (x:=a.eval y) (by simp [iR rc,asBool]) (by simpa using ry)
  . exact Runs.val r (x:=a.eval x) (by simp [iR rc,asBool]) (by simpa using rx)
 ·
  rename_i e ho
  simp [ho]
  simp [ae] at hc
  obtain ⟨z,hz,rfl⟩:=hc
  simp [evOp,evOpE,ai,an] at he
  obtain ⟨rfl,rfl⟩:=he
  exact Fl r hz
 ·
  rename_i e x ho
  simp [ho]
  simp [ae] at hc
  obtain ⟨y,hy,rfl⟩:=hc
  simp [evOp,evOpE,ai,an] at he
  obtain ⟨rfl,rfl⟩:=he
  exact KZ r (aX hf r.glob hy)
 ·
  rename_i t ps ho
  simp [ho]
  split at hc
  . rename_i fs z l hu hz hl
    split at hc
    case isFalse=>cases hc
    rename_i hall
    cases hc
    simp [evOp,evOpE,ae,an] at he
    obtain ⟨cs,hcs,rfl,rfl⟩:=he
    exact C9 r hf hz hu hall hl hcs
  . rename_i n e z l hu hz hl
    split at hc
    case isFalse=>cases hc
    rename_i hse
    cases hc
    simp [evOp,evOpE,ae,an] at he
    obtain ⟨cs,hcs,rfl,rfl⟩:=he
    exact E8 r hf hz hu hl hcs hse
  . cases hc
 ·
  rename_i t len ps ho
  simp [ho]
  split at hc
  case h_2=>cases hc
  rename_i e hu
  split at hc
  case h_2=>cases hc
  rename_i s z hs hz
  split at hc
  case isFalse=>cases hc
  rename_i hcond
  simp [ae] at hc
  obtain ⟨l,hl,rfl⟩:=hc
  simp [evOp,evOpE,ae,an] at he
  obtain ⟨cs,hcs,rfl,rfl⟩:=he
  exact uk r hf hu hs hz hcond.1 hcond.2 hl hcs
 ·
  rename_i t x ho
  simp [ho]
  split at hc
  . rename_i n y h1 h2 h3
    cases hc
    have rx:=aX hf r.glob h3
    simp [evOp,evOpE] at he
    split at he
    . rename_i i o hp
      simp [ae,an] at he
      obtain ⟨cs,hcs,rfl,rfl⟩:=he
      rw [hp] at rx
      exact Ei r rx h1 h2 hcs
    . cases he
  . rename_i n y h1 h2 h3
    cases hc
    have rx:=aX hf r.glob h3
    simp [evOp,evOpE] at he
    split at he
    . rename_i i o hp
      simp [ae,an] at he
      obtain ⟨cs,hcs,rfl,rfl⟩:=he
      rw [hp] at rx
      exact Ej r rx h1 hcs
    . cases he
  . cases hc
 ·
  rename_i t x y ho
  simp [ho]
  split at hc
  case h_2=>cases hc
  rename_i n x' y' h1 h2 h3
  cases hc
  have rx:=aX hf r.glob h2
  have ry:=aX hf r.glob h3
  simp [evOp,evOpE] at he
  split at he
  case h_2=>cases he
  rename_i i o hp
  split at he
  case isFalse=>cases he
  rename_i hlen
  simp only [ae,an] at he
  obtain ⟨h'',hw,rfl,rfl⟩:=he
  rw [hp] at rx
  exact DJ r rx ry h1 hlen hw
 ·
  rename_i x ho
  simp only [ho]
  simp only [ae] at hc
  obtain ⟨y,hy,rfl⟩:=hc
  have rx:=aX hf r.glob hy
  simp only [evOp,evOpE] at he
  split at he
  . rename_i i o hp
    simp only [ai,an] at he
    obtain ⟨rfl,rfl⟩:=he
    rw [hp] at rx
    obtain ⟨b,hb,hx⟩:=kU rx
    exact Runs.val r (x:=a.eval x) (by rw [hx];rfl) rx
  . rename_i f p q hp
    simp only [ai,an] at he
    obtain ⟨rfl,rfl⟩:=he
    rw [hp] at rx
    have rx':=rx
    simp only [AV.rel] at rx'
    obtain ⟨_,_,_,_,hx⟩:=rx'
    exact Runs.val r (x:=a.eval x) (by rw [hx];rfl) rx
  . cases he
 ·
  rename_i op t x y t' ho
  simp only [ho]
  split at hc
  case h_2=>cases hc
  rename_i x' y' h1 h2
  exact zZ hf r h1 h2 hc he
 ·
  rename_i op t x ho
  simp only [ho]
  simp only [ae] at hc
  obtain ⟨y,hy,rfl⟩:=hc
  simp only [evOp,evOpE,ae,an] at he
  obtain ⟨q,hq,rfl,rfl⟩:=he
  exact Ly r (aX hf r.glob hy) hq
 ·
  rename_i s d x ho
  simp only [ho]
  split at hc
  case h_2=>cases hc
  rename_i ds k y h1 h2 h3
  cases hc
  have rx:=aX hf r.glob h3
  simp only [evOp,evOpE] at he
  split at he
  case h_2=>cases he
  rename_i j n hn
  simp only [ai,an] at he
  obtain ⟨rfl,rfl⟩:=he
  rw [hn] at rx
  exact DF r h1 h2 rx
 ·
  rename_i f p q ho
  simp only [ho]
  split at hc
  case h_2=>cases hc
  rename_i p' q' h1 h2
  cases hc
  simp only [evOp,evOpE,ai,an] at he
  obtain ⟨rfl,rfl⟩:=he
  refine Runs.val r (x:=.func (.func f) (p.map a.eval) (q.map a.eval)) rfl ?_
  simp only [AV.rel]
  exact ⟨p.toList.map a.eval,q.toList.map a.eval,nD hf r.glob h1,nD hf r.glob h2,by congr 1<;>(apply nR;simp)⟩
 ·
  rename_i t ho
  simp only [ho]
  cases hc
  simp only [evOp,evOpE,ai,an] at he
  obtain ⟨rfl,rfl⟩:=he
  exact Ee r
 ·
  rename_i t l c ho
  simp only [ho]
  split at hc
  case h_2=>cases hc
  rename_i e hu
  split at hc
  case h_2=>cases hc
  rename_i s b z l' c' h1 h2 h3 h4 h5
  split at hc
  case isFalse=>cases hc
  cases hc
  have rl:=aX hf r.glob h4
  have rc:=aX hf r.glob h5
  simp only [evOp,evOpE] at he
  split at he
  case h_2=>cases he
  rename_i k n k' m hn hm
  split at he
  case isFalse=>cases he
  rename_i hcond
  obtain ⟨c0,c1,c2,c3,c4⟩:=hcond
  simp only [ai,an] at he
  obtain ⟨rfl,rfl⟩:=he
  rw [hn] at rl;rw [hm] at rc
  exact yX r hu h1 h2 h3 rl rc c0 c1 c2 c3 c4
 ·
  rename_i t x lo hi mx ho
  simp only [ho]
  split at hc
  case h_2=>cases hc
  rename_i x' lo' hi' mx' h1 h2 h3 h4
  have rx:=aX hf r.glob h1
  have key:∀ (size:Nat) (arr:Option Nat),(match arr with | none=>∃ e,P.underlying t=some (.slice e)/\sizeT P e=some size | some n=>∃ e,P.underlying t=some (.array n e)/\sizeT P e=some size)->
   (mx'.isSome=true->hi'.isSome=true)->evOp (.slc size arr x' lo' hi' mx') fr h=some (v,h')->Runs P G ρ h w (do pure (.value (<- Instr.sliceAt t (a.eval x) (lo.map a.eval) (hi.map a.eval) (mx.map a.eval)))) v h':=by
   intro size arr ht hmh he
   simp only [evOp,evOpE,ae,an] at he
   obtain ⟨q,hq,rfl,rfl⟩:=he
   exact Jz r ht rx (Cf hf r.glob h2) (Cf hf r.glob h3) (Cf hf r.glob h4) hq (by simpa using hmh)
  split at hc
  case isFalse=>cases hc
  rename_i hmh
  split at hc
  . rename_i e ht
    simp only [ae] at hc
    obtain ⟨s,hs,rfl⟩:=hc
    exact key s none ⟨e,ht,hs⟩ hmh he
  . rename_i n e ht
    simp only [ae] at hc
    obtain ⟨s,hs,rfl⟩:=hc
    exact key s (some n) ⟨e,ht,hs⟩ hmh he
  . cases hc
 ·
  rename_i s x f ho
  simp only [ho]
  split at hc
  case h_2=>cases hc
  rename_i off n fs x' h1 h2 h3
  split at hc
  case isFalse=>cases hc
  rename_i hn
  cases hc
  have rx:=aX hf r.glob h3
  simp only [evOp,evOpE] at he
  split at he
  case h_2=>cases he
  rename_i i o hp
  simp only [ai,an] at he
  obtain ⟨rfl,rfl⟩:=he
  rw [hp] at rx
  exact vD r h2 h1 hn rx
 ·
  rename_i t x f ho
  simp only [ho]
  split at hc
  case h_2=>cases hc
  rename_i fs off n x' h1 h2 h3
  obtain ⟨g,hg,hoff,hgs⟩:=yU h1 h2
  subst hoff
  have rx:=aX hf r.glob h3
  rw [hg] at hc
  simp only at hc
  split at hc
  . rename_i hag
    cases hc
    simp only [evOp,evOpE] at he
    split at he
    case h_2=>cases he
    rename_i cs hcs
    simp only [ae,an] at he
    obtain ⟨q,hq,rfl,rfl⟩:=he
    rw [hcs] at rx
    exact CP r h1 hg hag rx hq
  . cases hc
 ·
  rename_i t x i ho
  simp only [ho]
  split at hc
  case h_2=>cases hc
  rename_i x' i' h1 h2
  have rx:=aX hf r.glob h1
  have ri:=aX hf r.glob h2
  split at hc
  . rename_i e ht
    simp only [ae] at hc
    obtain ⟨s,hs,rfl⟩:=hc
    simp only [evOp,evOpE,ae,an] at he
    obtain ⟨q,hq,rfl,rfl⟩:=he
    unfold idxAddrV at hq
    split at hq
    . rename_i b o n c k j e1 e2 e3
      split at hq
      case isFalse=>cases hq
      rename_i hj
      cases hq
      rw [e2] at rx;rw [e3] at ri
      exact yf r ht hs rx ri hj.1 hj.2
    . rename_i e1 _ _;cases e1
    . cases hq
  . rename_i n e ht
    simp only [ae] at hc
    obtain ⟨s,hs,rfl⟩:=hc
    simp only [evOp,evOpE,ae,an] at he
    obtain ⟨q,hq,rfl,rfl⟩:=he
    unfold idxAddrV at hq
    split at hq
    . rename_i e1 _ _;cases e1
    . rename_i n' b o k j e1 e2 e3
      cases e1
      split at hq
      case isFalse=>cases hq
      rename_i hj
      cases hq
      rw [e2] at rx;rw [e3] at ri
      exact CJ r ht hs rx ri hj.1 hj.2
    . cases hq
  . cases hc
 ·
  rename_i t x i ho
  simp only [ho]
  split at hc
  case h_2=>cases hc
  rename_i x' i' ht h1 h2;have rx:=aX hf r.glob h1;have ri:=aX hf r.glob h2;cases hc;simp only [evOp,evOpE] at he;generalize hX:AFrame.eval _ x'=X at he rx;generalize hY:AFrame.eval _ i'=Y at he ri
  cases X with
  | str s=>
   cases Y with
   | int k n=>
    simp only [natA] at he;split at he;case isFalse=>cases he
    rename_i h0;simp only [ae,an] at he;obtain ⟨b,hb,rfl,rfl⟩:=he;exact CI r ht rx ri h0 hb
   | _=>simp [natA] at he
  | _=>simp [natA] at he
 ·
  rename_i x k ho
  simp only [ho]
  simp only [ae] at hc
  obtain ⟨y,hy,rfl⟩:=hc
  have rx:=aX hf r.glob hy
  simp only [evOp,evOpE] at he
  split at he
  case h_2=>cases he
  rename_i vs hvs
  simp only [ae,an] at he
  obtain ⟨q,hq,rfl,rfl⟩:=he
  rw [hvs] at rx
  exact zW r rx hq
 ·
  rename_i t x i ok ho
  simp only [ho]
  split at hc
  case h_2=>cases hc
  rename_i kt e x' i' ht h1 h2
  have rx:=aX hf r.glob h1
  have ri:=aX hf r.glob h2
  split at hc
  case h_2=>cases hc
  rename_i kk z hk hz
  cases hc
  simp only [evOp,evOpE] at he
  split at he
  case h_2=>cases he
  rename_i j n hjn
  split at he
  . rename_i hx0
    simp only [ai,an] at he
    obtain ⟨rfl,rfl⟩:=he
    exact od r ht hk hz rx ri (.inl ⟨hx0,⟨j,n,hjn⟩,rfl⟩)
  . rename_i q hx0
    split at he
    case h_2=>cases he
    rename_i es bs ck hes
    split at he
    . rename_i p hp
      simp only [ai,an] at he
      obtain ⟨rfl,rfl⟩:=he
      exact od r ht hk hz rx ri (.inr ⟨q,es,_,_,some p,hx0,hes,⟨j,n,hjn⟩,by rw [hjn];exact hp,rfl⟩)
    . rename_i hp
      simp only [ai,an] at he
      obtain ⟨rfl,rfl⟩:=he
      exact od r ht hk hz rx ri (.inr ⟨q,es,_,_,none,hx0,hes,⟨j,n,hjn⟩,by rw [hjn];exact hp,rfl⟩)
    . cases he
  . cases he
 ·
  rename_i t m k x ho
  simp only [ho]
  split at hc
  case h_2=>cases hc
  rename_i kt e m' k' x' ht h1 h2 h3
  have rm:=aX hf r.glob h1
  have rk:=aX hf r.glob h2
  have rx:=aX hf r.glob h3
  split at hc
  case h_2=>cases hc
  rename_i kk hk
  cases hc
  simp only [evOp,evOpE] at he
  split at he
  case h_2=>cases he
  rename_i j n hjn
  split at he
  case h_2=>cases he
  rename_i q hq
  split at he
  case h_2=>cases he
  rename_i es bs ck hes
  rw [hq] at rm
  rw [hjn] at rk
  exact oL r ht hk rm rk rx hes he
 ·
  rename_i c ho
  simp only [ho]
  exact Hp hf r hc he
 . cases hc
end
section
variable {ao:AOp} {o:Oper} {K:Act->World->Prop}
def gx (P:Program) (G:Nat) (call:cT):Prop:=
 ∀ f args h v h',call f args h=some (v,h')->
  (∀ xs w,(callFunc f xs).run P w=.ok (.enter f xs) w)/\
  ∀ ρ w xs,fw G ρ h w->AV.rels ρ args xs->Calls P f xs.toArray w fun e w'=>∃ ρ' x,e=.returned x/\v.rel ρ' x/\Post G ρ h w ρ' h' w'
section
variable {P:Program} {G:Nat} {ρ:eM} {h h':AHeap} {w:World} {fr fr':AFrame} {a:Act} {call:cT} {ops:Array Oper} {Q:Exit->Act->World->Prop}
theorem B9 {v:AV} {b:Bool} (hv:v.rel ρ (.bool b)):v=.bool b:=by
 cases v<;>simp only [AV.rel] at hv;case bool c=>cases hv;rfl
 case int | str | nilptr | nilslice | nilmap | nilfunc | niliface=>cases hv
 case ptr | map=>have ⟨_,_,e⟩:=hv;cases e
 case slice=>obtain ⟨_,_,_,_,e | ⟨_,_,_,e⟩⟩:=hv<;>cases e
 case lit=>have ⟨_,_,_,_,e⟩:=hv;cases e
 case func=>have ⟨_,_,_,_,e⟩:=hv;cases e
 case agg | tuple=>have ⟨_,_,e⟩:=hv;cases e
theorem JV (hf:AV.rels ρ fr a.tmps.toList) (d:Nat):(fr[d]?=none/\a.tmps[d]?=none)\/∃ v x,fr[d]?=some v/\a.tmps[d]?=some x/\v.rel ρ x:=by
 have hl:=br hf;simp at hl;by_cases hd:d<fr.length
 . have ⟨x,h1,h2⟩:=da hf (ah hd);exact .inr ⟨_,x,ah hd,by simpa using h1,h2⟩
 . exact .inl ⟨aV (jZ hd),Array.getElem?_eq_none (by rw [hl];exact jZ hd)⟩
theorem Ji (hf:AV.rels ρ fr a.tmps.toList) {g:Option (Nat×Bool)} (hg:nJ ops o.guard=some g):Region.wanted o (yielded ops a.tmps)=wantedA g fr:=by
 unfold Region.wanted;cases hog:o.guard with
 | none=>rw [hog] at hg;cases hg;rfl
 | some p=>
  have ⟨j,want⟩:=p;rw [hog] at hg;simp [nJ] at hg;split at hg;case h_2=>cases hg
  rename_i d hd;cases hg;simp [wantedA,yielded,hd,uq];rcases JV hf d with ⟨h1,h2⟩ | ⟨v,x,h1,h2,h3⟩
  . simp [h1,h2]
  . simp [h1,h2];by_cases hb:∃ b,v=.bool b
    . obtain ⟨b,rfl⟩:=hb;rw [iR h3];cases b<;>cases want<;>rfl
    . have hx:¬ ∃ b,x=.bool b:=fun ⟨b,e⟩=>hb ⟨b,B9 (e▸h3)⟩;cases v<;>first
       | (exact absurd ⟨_,rfl⟩ hb)
       | (cases x<;>first | (exact absurd ⟨_,rfl⟩ hx) | (cases want<;>rfl))
theorem put_rel (hf:AV.rels ρ fr a.tmps.toList) (d:Option Nat) {v:AV} {x:Value} (hv:v.rel ρ x):AV.rels ρ (fr.putD d v) (a.put d x).tmps.toList:=by
 cases d with
 | none=>exact hf
 | some d=>
  simp [AFrame.putD,Act.put,Array.toList_setIfInBounds];have hl:=br hf;refine pV (by simp [hl]) fun i u hu=>?_;by_cases hid:d=i
  . subst hid;have hlt:d<fr.length:=by simpa using (aa.1 hu).1
    rw [ax hlt] at hu;cases hu;exact ⟨x,by rw [ax (by omega)],hv⟩
  . rw [aj hid] at hu;have ⟨y,h1,h2⟩:=da hf hu;exact ⟨y,by rw [aj hid];exact h1,h2⟩
theorem uB (a:Act) (d:Option Nat) (x:Value):(a.put d x).defers=a.defers:=by cases d<;>rfl
theorem frame_mono {ρ':eM} (hle:ρ.le ρ') (hf:AV.rels ρ fr a.tmps.toList):AV.rels ρ' fr a.tmps.toList:=AV.iJ hle _ _ hf
theorem Hw (hcall:gx P G call) (hf:AV.rels ρ fr a.tmps.toList) (r:fw G ρ h w) {v:AV} (hc:jD P G o=some ao) (he:evAny call ao fr h=some (v,h'))
 (hK:∀ ρ' x w',v.rel ρ' x->Post G ρ h w ρ' h' w'->K (a.put o.dst x) w'):o.wp P a w K Q:=by
 have plain:evOp ao fr h=some (v,h')->o.wp P a w K Q:=by
  intro he;have ⟨n,w',ρ',x,hrun,hn,hv,hp⟩:=MA hf r hc he;unfold Oper.wp;rw [hrun]
  rcases hn with rfl | ⟨rfl,rfl⟩
  . exact hK ρ' x w' hv hp
  . exact hK ρ' undef w' hv hp
 have called:∀ f args xs,call f args h=some (v,h')->AV.rels ρ args xs->(execOp a.eval o).run P w=(callFunc f xs.toArray).run P w->o.wp P a w K Q:=by intro f args xs hcl hx hrun;have ⟨h1,h2⟩:=hcall f args h v h' hcl;unfold Oper.wp;rw [hrun,h1,Oper.upon_enter];refine (h2 ρ w xs r hx).mono fun e w' he=>?_;obtain ⟨ρ',x,rfl,hv,hp⟩:=he;exact hK ρ' x w' hv hp
 cases ao with
 | call f args=>
  simp [evAny] at he
  obtain ⟨c,ho,hcc⟩:∃ c,o.op=.call c/\lY P G c o.type=some (.call f args):=by
   unfold jD at hc;split at hc
   all_goals first
    | (rename_i c ho;exact ⟨c,ho,hc⟩)
    | skip
   all_goals (repeat' split at hc)<;>first | cases hc | (simp only [ae] at hc;obtain ⟨_,_,hc⟩:=hc;cases hc) | skip
   all_goals (unfold compBin at hc;(repeat' split at hc)<;>first | cases hc | (simp only [ae] at hc;obtain ⟨_,_,hc⟩:=hc;cases hc))
  obtain ⟨hcal,hargs⟩:c.callee=.value (.func f)/\compOpds G c.args.toList=some args:=by
   unfold lY at hcc;split at hcc
   . rename_i h1 h2;cases hcc;exact ⟨h1,h2⟩
   all_goals ((repeat' split at hcc)<;>first | cases hcc | (simp only [ae] at hcc;obtain ⟨_,_,hcc⟩:=hcc;cases hcc))
  refine called f _ (c.args.toList.map a.eval) he (nD hf r.glob hargs) ?_;obtain ⟨cl,cargs,tys⟩:=c;simp only at hcal;subst hcal;simp only [execOp,ho,resolve,Deferred.ofValue,Act.eval,Sem.run_bind,Sem.run_pure,Result.andThen_ok,invoke];congr 1;congr 1;apply nR;simp
 | callv y args=>
  simp only [evAny] at he;split at he;case h_2=>cases he
  rename_i f first cap hfv
  obtain ⟨c,ho,hcc⟩:∃ c,o.op=.call c/\lY P G c o.type=some (.callv y args):=by
   unfold jD at hc;split at hc
   all_goals first
    | (rename_i c ho;exact ⟨c,ho,hc⟩)
    | skip
   all_goals (repeat' split at hc)<;>first | cases hc | (simp only [ae] at hc;obtain ⟨_,_,hc⟩:=hc;cases hc) | skip
   all_goals (unfold compBin at hc;(repeat' split at hc)<;>first | cases hc | (simp only [ae] at hc;obtain ⟨_,_,hc⟩:=hc;cases hc))
  obtain ⟨t,hcal,rfl,hargs⟩:∃ t,c.callee=.value (.tmp t)/\y=.tmp t/\compOpds G c.args.toList=some args:=by
   unfold lY at hcc;split at hcc
   . cases hcc
   . rename_i t _ h1 h2;cases hcc;exact ⟨t,h1,rfl,h2⟩
   all_goals ((repeat' split at hcc)<;>first | cases hcc | (simp only [ae] at hcc;obtain ⟨_,_,hcc⟩:=hcc;cases hcc))
  have rv:=aX (a:=a) hf r.glob (x:=.tmp t) (y:=.tmp t) rfl;rw [hfv] at rv;simp only [AV.rel] at rv;obtain ⟨x',y',h1,h2,h3⟩:=rv;refine called f _ (x'++c.args.toList.map a.eval++y') he (fR (fR h1 (nD hf r.glob hargs)) h2) ?_;obtain ⟨cl,cargs,tys⟩:=c;simp only at hcal;subst hcal;simp only [execOp,ho,resolve,h3,Deferred.ofValue,Sem.run_bind,Sem.run_pure,Result.andThen_ok,invoke];congr 1;congr 1;apply nR;simp
 | _=>exact plain (by simpa only [evAny] using he)
theorem any_sound (hcall:gx P G call) (hf:AV.rels ρ fr a.tmps.toList) (r:fw G ρ h w) {v:AV} (hc:∃ a0,jD P G o=some a0/\(ao=a0\/ao=uF a0)) (he:evAny call ao fr h=some (v,h'))
 (hK:∀ ρ' x w',v.rel ρ' x->Post G ρ h w ρ' h' w'->K (a.put o.dst x) w'):o.wp P a w K Q:=by
 obtain ⟨a0,hc,rfl | rfl⟩:=hc<;>exact Hw hcall hf r hc he hK
theorem qR (hcall:gx P G call) (hf:AV.rels ρ fr a.tmps.toList) (r:fw G ρ h w) {i:Nat} {ao:aK} (hi:ops[i]?=some o) (hc:∃ a0,fF P G ops o=some a0/\(ao=a0\/ao=j8 a0)) (he:evOper call ao fr h=some (fr',h'))
 (hK:∀ ρ' a' w',AV.rels ρ' fr' a'.tmps.toList->a'.defers=a.defers->Post G ρ h w ρ' h' w'->K a' w'):wpOp P ops Q i K a w:=by
 have ⟨a0,hc,hao⟩:=hc;simp [fF] at hc;split at hc
 case h_2=>cases hc
 rename_i op g hop hg;cases hc;have hao2:ao.dst=o.dst/\ao.guard=g/\(ao.op=op\/ao.op=uF op):=by
  rcases hao with rfl | rfl
  . exact ⟨rfl,rfl,.inl rfl⟩
  . exact ⟨rfl,rfl,.inr rfl⟩
 have ⟨e1,e2,e3⟩:=hao2;have hop:∃ a0,jD P G o=some a0/\(ao.op=a0\/ao.op=uF a0):=⟨op,hop,e3⟩
 rw [<- e2] at hg;unfold wpOp;simp [hi];rw [Ji hf hg];unfold evOper at he;rw [e1] at he;split at he
 . rename_i hw;split at he
   case h_2=>cases he
   rename_i v h1 hv;cases he;simp [hw,if_true];exact .inl (any_sound hcall hf r hop hv fun ρ' x w' hx hp=>hK ρ' _ w' (put_rel (frame_mono hp.le hf) _ hx) (uB _ _ _) hp)
 . rename_i hw;cases he;simp [hw,aF,if_false];exact hK ρ _ w (put_rel hf _ (fM ρ)) (uB _ _ _) (Post.refl r)
theorem AL (hcall:gx P G call):∀ (l:List Oper) (al:List aK) (k:Nat),fO P G ops l=some al->(∀ j,j<l.length->ops[k+j]?=l[j]?)->
 ∀ {ρ:eM} {h:AHeap} {w:World} {fr:AFrame} {a:Act},AV.rels ρ fr a.tmps.toList->fw G ρ h w->evOps call al fr h=some (fr',h')->
  (∀ ρ' a' w',AV.rels ρ' fr' a'.tmps.toList->a'.defers=a.defers->Post G ρ h w ρ' h' w'->Q .normal a' w')->wpOps P ops Q (List.range' k l.length) a w
 | [],al,k,hc,_,ρ,h,w,fr,a,hf,r,he,hQ=>by cases hc;cases he;simp [bw,List.range'_zero,wpOps];exact hQ ρ a w hf rfl (Post.refl r)
 | o::l,al,k,hc,hops,ρ,h,w,fr,a,hf,r,he,hQ=>by
  simp [fO] at hc;split at hc;case h_2=>cases hc
  rename_i ao al' h1 h2;cases hc;simp [evOps] at he;split at he;case h_2=>cases he
  rename_i fr1 h1' hv;simp [bn,List.range'_succ];rw [wpOps_cons];refine qR hcall hf r (by simpa using hops 0 (by simp)) ⟨_,h1,.inl rfl⟩ hv fun ρ' a' w' hf' hd' hp=>?_;refine AL hcall l al' (k+1) h2 (fun j hj=>?_) hf' hp.rel he fun ρ'' a'' w'' hf'' hd'' hp''=>hQ ρ'' a'' w'' hf'' (hd''.trans hd') (hp.trans hp'');have:=hops (j+1) (by simpa using hj);rw [show k+1+j=k+(j+1) by omega];simpa using this
end
end
section
variable {call:cT} {L:Nat->Bool}
def aS (L:Nat->Bool):List aK->List AV->Nat->AFrame->AFrame
 | o::r,v::vs,i,fr=>aS L r vs (i+1) (if L i then fr.putD o.dst v else fr)
 | _,_,_,fr=>fr
def isLoud (o:aK):Bool:=!(o.op.isStill || o.op.isRead)
def Ft (call:cT):List (aK×dB)->AFrame->AHeap->List (AFrame×AV)->List AHeap->AFrame->AHeap->Prop
 | [],fr,h,ms,sn,fr',h'=>ms=[]/\sn=[]/\fr'=fr/\h'=h
 | (o,st)::r,fr,h,ms,sn,fr',h'=>∃ v h1 ms1 sn1,ms=(fr,v)::ms1/\
  (st=.loud->sn=h1::sn1/\((wantedA o.guard fr=true/\evAny call o.op fr h=some (v,h1))\/(wantedA o.guard fr=false/\v=undefA/\h1=h)))/\
  (st≠.loud->sn=sn1/\h1=h/\((wantedA o.guard fr=true/\∃ h2,evOp o.op fr h=some (v,h2))\/(wantedA o.guard fr=false/\v=undefA)))/\
  Ft call r (fr.putD o.dst v) h1 ms1 sn1 fr' h'
theorem jC (call:cT):∀ (sts:List (aK×dB)) (fr:AFrame) (h:AHeap) (sn0:List AHeap) (ms0:List (AFrame×AV)) (fr':AFrame) (h':AHeap) (sns:List AHeap) (mss:List (AFrame×AV)),
 evDraw call sts fr h sn0 ms0=some (fr',h',sns,mss)->∃ ms sn,Ft call sts fr h ms sn fr' h'/\sns=sn0.reverse++sn/\mss=ms0.reverse++ms
 | [],fr,h,sn0,ms0,fr',h',sns,mss,he=>by cases he;exact ⟨[],[],⟨rfl,rfl,rfl,rfl⟩,by simp,by simp⟩
 | (o,st)::r,fr,h,sn0,ms0,fr',h',sns,mss,he=>by
  simp [evDraw] at he;split at he
  . rename_i hw;split at he;case h_2=>cases he
    rename_i v h1 hv;split at he
    . have ⟨ms,sn,ht,e1,e2⟩:=jC call r _ _ _ _ _ _ _ _ he;refine ⟨(fr,v)::ms,h1::sn,⟨v,h1,ms,sn,rfl,fun _=>⟨rfl,.inl ⟨hw,hv⟩⟩,fun hn=>absurd rfl hn,ht⟩,by simp [e1],by simp [e2]⟩
    . rename_i hst;have hst':st≠.loud:=hst;have ⟨ms,sn,ht,e1,e2⟩:=jC call r _ _ _ _ _ _ _ _ he;refine ⟨(fr,v)::ms,sn,⟨v,h,ms,sn,rfl,fun hn=>absurd hn hst',fun _=>⟨rfl,rfl,.inl ⟨hw,h1,?_⟩⟩,ht⟩,e1,by simp [e2]⟩;cases st<;>first | exact hv | exact absurd rfl hst'
  . rename_i hw;split at he
    . have ⟨ms,sn,ht,e1,e2⟩:=jC call r _ _ _ _ _ _ _ _ he;exact ⟨(fr,undefA)::ms,h::sn,⟨undefA,h,ms,sn,rfl,fun _=>⟨rfl,.inr ⟨hw,rfl,rfl⟩⟩,fun hn=>absurd rfl hn,ht⟩,by simp [e1],by simp [e2]⟩
    . rename_i hst;have hst':st≠.loud:=hst;have ⟨ms,sn,ht,e1,e2⟩:=jC call r _ _ _ _ _ _ _ _ he;exact ⟨(fr,undefA)::ms,sn,⟨undefA,h,ms,sn,rfl,fun hn=>absurd hn hst',fun _=>⟨rfl,rfl,.inr ⟨hw,rfl⟩⟩,ht⟩,e1,by simp [e2]⟩
theorem iH :∀ (l:List aK) (vs:List AV) (k:Nat) (fr:AFrame),(∀ i,k<=i->L i=false)->aS L l vs k fr=fr
 | [],_,_,_,_=>by simp [aS]
 | _::_,[],_,_,_=>by simp [aS]
 | o::r,v::vs,k,fr,hL=>by simp [aS,hL k (aq _),aF,if_false];exact iH r vs (k+1) fr fun i hi=>hL i (by omega)
theorem mP (L:Nat->Bool):∀ (l:List aK) (vs:List AV) (k:Nat) (fr:AFrame),aS L l vs (k+1) fr=aS (fun j=>L (j+1)) l vs k fr
 | [],_,_,_=>by simp [aS]
 | _::_,[],_,_=>by simp [aS]
 | o::r,v::vs,k,fr=>by simp [aS];exact mP L r vs (k+1) _
theorem dF (fr:AFrame) (d:Option Nat) (v:AV):(fr.putD d v).length=fr.length:=by cases d<;>simp [AFrame.putD]
theorem vS (fr:AFrame) {d:Option Nat} (v:AV) {t:Nat} (h:d≠some t):(fr.putD d v)[t]?=fr[t]?:=by
 cases d with
 | none=>rfl
 | some d=>simp [AFrame.putD];rw [aj (fun e=>h (by rw [e]))]
theorem gu (L:Nat->Bool):∀ (l:List aK) (vs:List AV) (k:Nat) (fr:AFrame),(aS L l vs k fr).length=fr.length
 | [],_,_,_=>by simp [aS]
 | _::_,[],_,_=>by simp [aS]
 | o::r,v::vs,k,fr=>by
  simp [aS];rw [gu L r vs];split
  . exact dF _ _ _
  . rfl
theorem fT {M:Nat->Bool} {t:Nat}:∀ (l:List aK) (vs:List AV) (k:Nat) (fr fr2:AFrame),fr.length=fr2.length->fr[t]?=fr2[t]?->
 (∀ i o,l[i]?=some o->o.dst=some t->L (k+i)=M (k+i))->(aS L l vs k fr)[t]?=(aS M l vs k fr2)[t]?
 | [],_,_,_,_,_,he,_=>by simpa [aS] using he
 | _::_,[],_,_,_,_,he,_=>by simpa [aS] using he
 | o::r,v::vs,k,fr,fr2,hl,he,hh=>by
  simp [aS];refine fT r vs (k+1) _ _ ?_ ?_ fun i o' hi hd=>?_
  . have h1:(if L k=true then fr.putD o.dst v else fr).length=fr.length:=by split<;>simp [dF]
    have h2:(if M k=true then fr2.putD o.dst v else fr2).length=fr2.length:=by split<;>simp [dF]
    rw [h1,h2,hl]
  . by_cases hd:o.dst=some t
    . have:=hh 0 o rfl hd;simp [dJ] at this;rw [this];split
      . rw [hd];simp [AFrame.putD,eU,hl]
      . exact he
    . have e1:(if L k=true then fr.putD o.dst v else fr)[t]?=fr[t]?:=by split<;>simp [vS _ _ hd]
      have e2:(if M k=true then fr2.putD o.dst v else fr2)[t]?=fr2[t]?:=by split<;>simp [vS _ _ hd]
      rw [e1,e2,he]
  . have:=hh (i+1) o' (by simpa using hi) hd;rwa [show k+1+i=k+(i+1) by omega]
theorem sB {t:Nat}:∀ (l:List aK) (vs:List AV) (k:Nat) (fr:AFrame) (i:Nat) (o:aK) (v:AV),l[i]?=some o->vs[i]?=some v->o.dst=some t->t<fr.length->L (k+i)=true->
 (∀ j o',i<j->l[j]?=some o'->o'.dst=some t->L (k+j)=false)->(aS L l vs k fr)[t]?=some v
 | [],_,_,_,i,_,_,ho,_,_,_,_,_=>by simp at ho
 | _::_,[],_,_,i,_,_,_,hv,_,_,_,_=>by simp at hv
 | o0::r,v0::vs,k,fr,i,o,v,ho,hv,hd,ht,hL,hlast=>by
  simp [aS];cases i with
  | zero=>
   simp [ad,ai] at ho hv;subst ho hv;simp [dJ] at hL;simp [hL,if_true];have h1:=fT (L:=L) (M:=fun _=>false) (t:=t) r vs (k+1) (fr.putD o0.dst v0) (fr.putD o0.dst v0) rfl rfl fun j o' hj hd'=>by have:=hlast (j+1) o' (by omega) (by simpa using hj) hd';rw [show k+1+j=k+(j+1) by omega];exact this
   rw [h1,iH r vs (k+1) _ fun _ _=>rfl,hd];simp [AFrame.putD,ht]
  | succ i=>
   refine sB r vs (k+1) _ i o v (by simpa using ho) (by simpa using hv) hd ?_ (by rw [show k+1+i=k+(i+1) by omega];exact hL) fun j o' hij hj hd'=>?_
   . split<;>simp [dF,ht]
   . have:=hlast (j+1) o' (by omega) (by simpa using hj) hd';rw [show k+1+j=k+(j+1) by omega];exact this
theorem rI :∀ {sts:List (aK×dB)} {fr:AFrame} {h:AHeap} {ms:List (AFrame×AV)} {sn:List AHeap} {fr':AFrame} {h':AHeap},Ft call sts fr h ms sn fr' h'->ms.length=sts.length
 | [],_,_,_,_,_,_,⟨h1,_⟩=>by simp [h1]
 | _::_,_,_,_,_,_,_,⟨_,_,_,_,h1,_,_,h2⟩=>by simp [h1,rI h2]
def lP (x:aK×dB):Bool:=decide (x.2=.loud)
theorem wT :∀ {sts:List (aK×dB)} {fr:AFrame} {h:AHeap} {ms:List (AFrame×AV)} {sn:List AHeap} {fr':AFrame} {h':AHeap},Ft call sts fr h ms sn fr' h'->
 ∀ (i:Nat) o st,sts[i]?=some (o,st)->∃ v,ms[i]?=some (aS (fun j=>decide (j<i)) (sts.map (·.1)) (ms.map (·.2)) 0 fr,v)/\
  (st=.loud->∃ h1 h2,(h::sn)[((sts.take i).filter lP).length]?=some h1/\(h::sn)[((sts.take i).filter lP).length+1]?=some h2/\
   ((wantedA o.guard (aS (fun j=>decide (j<i)) (sts.map (·.1)) (ms.map (·.2)) 0 fr)=true/\evAny call o.op (aS (fun j=>decide (j<i)) (sts.map (·.1)) (ms.map (·.2)) 0 fr) h1=some (v,h2))\/
    (wantedA o.guard (aS (fun j=>decide (j<i)) (sts.map (·.1)) (ms.map (·.2)) 0 fr)=false/\v=undefA/\h2=h1)))/\
  (st≠.loud->((wantedA o.guard (aS (fun j=>decide (j<i)) (sts.map (·.1)) (ms.map (·.2)) 0 fr)=true/\∃ h1 h2,evOp o.op (aS (fun j=>decide (j<i)) (sts.map (·.1)) (ms.map (·.2)) 0 fr) h1=some (v,h2))\/
   (wantedA o.guard (aS (fun j=>decide (j<i)) (sts.map (·.1)) (ms.map (·.2)) 0 fr)=false/\v=undefA)))
 | [],_,_,_,_,_,_,_,i,_,_,hi=>by simp at hi
 | (o0,st0)::r,fr,h,ms,sn,fr',h',⟨v0,h1,ms1,sn1,hms,hl,hq,ht⟩,i,o,st,hi=>by
  subst hms;cases i with
  | zero=>
   simp [ad,ai,an] at hi;obtain ⟨rfl,rfl⟩:=hi;have hf:aS (fun j=>decide (j<0)) (((o0,st0)::r).map (·.1)) (((fr,v0)::ms1).map (·.2)) 0 fr=fr:=iH _ _ _ _ fun i _=>by simp
   rw [hf];refine ⟨v0,rfl,fun hst=>?_,fun hst=>?_⟩
   . obtain ⟨rfl,h2⟩:=hl hst;exact ⟨h,h1,rfl,rfl,h2⟩
   . have ⟨_,_,h2⟩:=hq hst;exact h2.imp (fun ⟨a,b,c⟩=>⟨a,h,b,c⟩) id
  | succ i=>
   have ⟨v,h2,h3,h4⟩:=wT ht i o st (by simpa using hi);have hf:aS (fun j=>decide (j<i+1)) (((o0,st0)::r).map (·.1)) (((fr,v0)::ms1).map (·.2)) 0 fr=aS (fun j=>decide (j<i)) (r.map (·.1)) (ms1.map (·.2)) 0 (fr.putD o0.dst v0):=by simp [aR,aS];rw [mP];simp
   rw [hf];refine ⟨v,by simpa using h2,fun hst=>?_,h4⟩;have ⟨a,b,h5,h6,h7⟩:=h3 hst;refine ⟨a,b,?_,?_,h7⟩;all_goals
    by_cases hs0:st0=.loud
    . obtain ⟨rfl,_⟩:=hl hs0;simp [gb,bZ,lP,hs0,decide_true,if_true,bn,av];first | exact h5 | exact h6
    . obtain ⟨rfl,rfl,_⟩:=hq hs0;simp [gb,bZ,lP,hs0,decide_false,aF,if_false];first | exact h5 | exact h6
theorem Aq :∀ {sts:List (aK×dB)} {fr:AFrame} {h:AHeap} {ms:List (AFrame×AV)} {sn:List AHeap} {fr':AFrame} {h':AHeap},Ft call sts fr h ms sn fr' h'->
 fr'=aS (fun _=>true) (sts.map (·.1)) (ms.map (·.2)) 0 fr/\(h::sn)[(sts.filter lP).length]?=some h'
 | [],_,_,_,_,_,_,⟨h1,h2,h3,h4⟩=>by subst h1 h2;subst h3 h4;simp [aS]
 | (o0,st0)::r,fr,h,ms,sn,fr',h',⟨v0,h1,ms1,sn1,hms,hl,hq,ht⟩=>by
  subst hms;have ⟨h2,h3⟩:=Aq ht;refine ⟨?_,?_⟩
  . simp [aR,aS,if_true];rw [mP];exact h2
  . by_cases hs0:st0=.loud
    . obtain ⟨rfl,_⟩:=hl hs0;simpa [bZ,lP,hs0] using h3
    . obtain ⟨rfl,rfl,_⟩:=hq hs0;simpa [bZ,lP,hs0] using h3
end
section
variable {call:cT} {f g:AFrame} {h2 h:AHeap} {o:AOp}
theorem eval_congr {x:AOpd} (h:∀ t∈x.reads,f[t]?=g[t]?):f.eval x=g.eval x:=by
 cases x with
 | tmp t=>simp [AFrame.eval,aO];rw [h t (by simp [AOpd.reads])]
 | _=>rfl
theorem ku :∀ {xs:List AOpd},(∀ t∈xs.flatMap AOpd.reads,f[t]?=g[t]?)->xs.map f.eval=xs.map g.eval
 | [],_=>rfl
 | x::xs,h=>by simp only [aR];rw [eval_congr fun t ht=>h t (by simp [ht]),ku fun t ht=>h t (by simp only [List.flatMap_cons,bd];exact .inr ht)]
theorem tN {x:Option AOpd} (h:∀ t∈optReads x,f[t]?=g[t]?):x.map f.eval=x.map g.eval:=by
 cases x with
 | none=>rfl
 | some x=>simp [fj];rw [eval_congr h]
theorem yo :∀ {ps:List ((Nat×Nat)×AOpd)} {cs:List AV},(∀ t∈ps.flatMap fun p=>p.2.reads,f[t]?=g[t]?)->kr f.eval cs ps=kr g.eval cs ps
 | [],_,_=>rfl
 | ((off,size),x)::ps,cs,h=>by
  simp [kr];rw [eval_congr (x:=x) fun t ht=>h t (by simp [ht])];split
  . exact yo fun t ht=>h t (by simp only [List.flatMap_cons,bd];exact .inr ht)
  . rfl
theorem La (hr:∀ t∈o.reads,f[t]?=g[t]?):evAny call o f h=evAny call o g h:=by
 cases o<;>simp only [AOp.reads,bd] at hr<;>simp only [evAny,evOp,evOpE];case mv x | box x | load1 x | loadN n x | nilCheck x | un op x | toInt k x | fieldAddr off x | field1 off x | extract k x | lenS x | lenM x | clearS s z x=>rw [eval_congr hr]
 case pick a b c | min3 a b c | mapUpdate a b c=>rw [eval_congr (x:=a) fun t ht=>hr t (.inl (.inl ht)),eval_congr (x:=b) fun t ht=>hr t (.inl (.inr ht)),eval_congr (x:=c) fun t ht=>hr t (.inr ht)]
 case build z ps | buildSlice z l ps=>rw [yo hr]
 case store n a b | bin op a b | cmpNil m k a b | eqBool m a b | mkslice s b z x y | idxAddr s r a b | append s b z x y | max2 a b | min2 a b | lookup z ok a b | delete a b | nat k x y=>
  first
   | rw [eval_congr (x:=a) fun t ht=>hr t (.inl ht),eval_congr (x:=b) fun t ht=>hr t (.inr ht)]
   | rw [eval_congr (x:=x) fun t ht=>hr t (.inl ht),eval_congr (x:=y) fun t ht=>hr t (.inr ht)]
 case mkfunc f' a b=>rw [ku (xs:=a) fun t ht=>hr t (.inl ht),ku (xs:=b) fun t ht=>hr t (.inr ht)]
 case slc s r x lo hi mx=>rw [eval_congr (x:=x) fun t ht=>hr t (.inl (.inl (.inl ht))),tN (x:=lo) fun t ht=>hr t (.inl (.inl (.inr ht))),tN (x:=hi) fun t ht=>hr t (.inl (.inr ht)),tN (x:=mx) fun t ht=>hr t (.inr ht)]
 case call f' args=>rw [ku hr]
 case callv x args=>rw [eval_congr (x:=x) fun t ht=>hr t (.inl ht),ku (xs:=args) fun t ht=>hr t (.inr ht)]
theorem Bx {g:Option (Nat×Bool)} {f1 f2:AFrame} (h:∀ p,g=some p->f1[p.1]?=f2[p.1]?):wantedA g f1=wantedA g f2:=by
 cases g with
 | none=>rfl
 | some p=>simp [wantedA];rw [h p rfl]
theorem xo {o:aK} (hr:∀ t∈o.looks,f[t]?=g[t]?):evAny call o.op f h=evAny call o.op g h/\wantedA o.guard f=wantedA o.guard g:=by refine ⟨La fun t ht=>hr t (by simp [aK.looks,ht]),Bx fun p hp=>hr p.1 (by simp [aK.looks,hp])⟩
theorem still_any {h1:AHeap} {v:AV} (hs:o.isStill=true) (he:evOp o f h1=some (v,h2)) (h:AHeap):evOp o f h=some (v,h):=by
 cases o<;>simp [AOp.isStill] at hs<;>simp only [evOp,evOpE] at he ⊢
 all_goals first
  | (simp [ai,an] at he;obtain ⟨rfl,rfl⟩:=he;rfl)
  | (simp [ae,an] at he;obtain ⟨q,hq,rfl,rfl⟩:=he;rw [hq];rfl)
  | ((repeat' split at he)<;>first
   | (cases he;done)
   | (simp [ai,an] at he;obtain ⟨rfl,rfl⟩:=he;simp_all)
   | (simp only [ae,an] at he;obtain ⟨q,hq,rfl,rfl⟩:=he;simp_all))
theorem JY {v:AV} (hs:o.isRead=true) (he:evOp o f h=some (v,h2)):h2=h:=by
 cases o<;>simp [AOp.isRead] at hs<;>simp only [evOp,evOpE] at he;all_goals
  (repeat' split at he)<;>first
   | (cases he;done)
   | (simp [ai,an] at he;exact he.2.symm)
   | (simp [ae,an] at he;obtain ⟨q,hq,_,rfl⟩:=he;rfl)
end
section
variable {P:Program} {G:Nat}
theorem kc {ops:Array Oper}:∀ {l:List Oper} {al:List aK},fO P G ops l=some al->al.length=l.length/\∀ (i:Nat) o,l[i]?=some o->∃ ao,al[i]?=some ao/\fF P G ops o=some ao
 | [],al,hc=>by cases hc;simp
 | o::l,al,hc=>by
  simp [fO] at hc;split at hc;case h_2=>cases hc
  rename_i ao al' h1 h2;cases hc;have ⟨h3,h4⟩:=kc h2;refine ⟨by simp [h3],fun i o' hi=>?_⟩;cases i with
  | zero=>simp at hi;subst hi;exact ⟨ao,rfl,h1⟩
  | succ i=>simpa using h4 i o' (by simpa using hi)
theorem oZ (all:List aK) (bs:List (List Nat)) (loud:List Nat):∀ (l:List aK) (k i:Nat),(stances all bs loud l k)[i]?=(l[i]?).map fun o=>(o,iO all bs loud (k+i) o.op)
 | [],k,i=>by simp [stances]
 | o::l,k,i=>by
  cases i with
  | zero=>simp [stances]
  | succ i=>simp [stances,av];rw [oZ all bs loud l (k+1) i,show k+1+i=k+(i+1) by omega]
theorem ki (all:List aK) (bs:List (List Nat)) (loud:List Nat):∀ (l:List aK) (k:Nat),(stances all bs loud l k).map (·.1)=l
 | [],_=>rfl
 | o::l,k=>by simp [stances,ki all bs loud l (k+1)]
theorem mL {all:List aK} {bs:List (List Nat)} {loud:List Nat} {i:Nat} {o:aK}:iO all bs loud i o.op=.loud↔isLoud o=true:=by unfold iO isLoud;cases h1:o.op.isStill<;>cases h2:o.op.isRead<;>simp
theorem qw (all:List aK) (bs:List (List Nat)) (loud:List Nat):∀ (l:List aK) (k i:Nat),(((stances all bs loud l k).take i).filter lP).length=((l.take i).filter isLoud).length
 | [],k,i=>by simp [stances]
 | o::l,k,i=>by
  cases i with
  | zero=>simp
  | succ i=>
   simp [stances,gb,bZ];have ih:=qw all bs loud l (k+1) i;have e:lP (o,iO all bs loud k o.op)=isLoud o:=by unfold lP;rw [Bool.eq_iff_iff,decide_eq_true_iff];exact mL (all:=all)
   rw [e];split<;>simp [ih]
theorem jq:∀ (l:List aK) (k j:Nat),j∈louds l k↔k<=j/\∃ o,l[j-k]?=some o/\isLoud o=true
 | [],k,j=>by simp [louds]
 | o::l,k,j=>by
  have ih:=jq l (k+1) j;simp [louds];by_cases hj:j=k
  . subst hj;have hno:j∉louds l (j+1):=fun hm=>by have:=(ih.1 hm).1;omega
    split
    . rename_i hs;simp only [hno,aq,HJ,ad,ai,true_and,false_iff];rintro ⟨o',rfl,hl⟩;simp [isLoud] at hl hs;rcases hs with hs | hs<;>simp [hs] at hl
    . rename_i hs;simp only [aD,true_or,aq,HJ,ad,ai,true_and,true_iff];exact ⟨o,rfl,by simpa [isLoud] using hs⟩
  . have e:k+1<=j↔k<=j:=by omega
    have e2:k+1<=j->j-k=(j-(k+1))+1:=by omega
    have key:j∈louds l (k+1)↔k<=j/\∃ o',(o::l)[j-k]?=some o'/\isLoud o'=true:=by
     rw [ih,e];constructor
     . rintro ⟨h1,o',h2,h3⟩;exact ⟨h1,o',by rw [e2 (by omega)];simpa using h2,h3⟩
     . rintro ⟨h1,o',h2,h3⟩;rw [e2 (by omega)] at h2;exact ⟨h1,o',by simpa using h2,h3⟩
    split
    . exact key
    . simp [aD,hj,false_or];exact key
theorem mF:∀ (l:List aK) (k i:Nat),(louds l k).countP (fun j=>decide (j<k+i))=((l.take i).filter isLoud).length
 | [],k,i=>by simp [louds]
 | o::l,k,i=>by
  cases i with
  | zero=>
   have:(louds (o::l) k).countP (fun j=>decide (j<k+0))=0:=by rw [oS];intro j hj;have:=((jq _ _ _).1 hj).1;simp;omega
   simpa using this
  | succ i=>
   have ih:=mF l (k+1) i;simp [louds,gb,bZ];rw [show k+1+i=k+(i+1) by omega] at ih;split
   . rename_i hs;have:isLoud o=false:=by simp [isLoud] at hs ⊢;rcases hs with hs | hs<;>simp [hs]
     simp [this,ih]
   . rename_i hs;have:isLoud o=true:=by simpa [isLoud] using hs
     simp [this,ih]
theorem wX {final:AFrame} {snaps:List AHeap}:∀ {sts:List (aK×dB)} {ms:List (AFrame×AV)},steady final snaps sts ms=true->
 ∀ (i:Nat) o lo hi f v,sts[i]?=some (o,.reads lo hi)->ms[i]?=some (f,v)->wantedA o.guard f=true->stable snaps o f v lo hi=true
 | [],_,_,i,_,_,_,_,_,hi,_,_=>by simp at hi
 | (o0,st0)::r,[],hs,i,_,_,_,_,_,_,hm,_=>by simp at hm
 | (o0,st0)::r,(f0,v0)::q,hs,i,o,lo,hi,f,v,hst,hm,hw=>by
  simp [steady,aA] at hs;cases i with
  | zero=>simp [ad,ai,an] at hst hm;obtain ⟨rfl,rfl⟩:=hst;obtain ⟨rfl,rfl⟩:=hm;have:=hs.1;simp [hw,im,Dt] at this;exact this
  | succ i=>exact wX hs.2 i o lo hi f v (by simpa using hst) (by simpa using hm) hw
theorem FX {snaps:List AHeap} {o:aK} {f:AFrame} {v:AV} {lo hi m:Nat} {hm:AHeap} (hs:stable snaps o f v lo hi=true) (h1:lo<=m) (h2:m<=hi) (h3:snaps[m]?=some hm):∃ h2,evOp o.op f hm=some (v,h2):=by
 unfold stable at hs;have hmem:hm∈((snaps.drop lo).take (hi+1-lo)):=by rw [mX];refine ⟨m-lo,?_⟩;rw [cv,pQ,aN,show lo+(m-lo)=m by omega];exact h3
 have:=aQ.1 hs hm hmem;split at this
 . rename_i u h2' hu;simp [decide_eq_true_eq] at this;subst this;exact ⟨_,hu⟩
 . cases this
theorem CW {l:List Nat} {p q:Nat->Bool} (h:∀ x∈l,p x=true->q x=true):l.countP p<=l.countP q:=by
 induction l with
 | nil=>simp
 | cons x l ih=>have ih':=ih fun y hy=>h y (by simp [hy]);have hx:=h x (by simp);simp [uw];cases hp:p x<;>cases hq:q x<;>simp_all<;>omega
theorem vE {l:List Nat} {p q:Nat->Bool} (h:∀ x∈l,p x=true->q x=true->False):l.countP p+l.countP q<=l.length:=by
 induction l with
 | nil=>simp
 | cons x l ih=>have ih':=ih fun y hy=>h y (by simp [hy]);have hx:=h x (by simp);simp [uw,bn];cases hp:p x<;>cases hq:q x<;>simp_all<;>omega
end
section
variable {P:Program} {G:Nat} {call:cT} {ops:Array Oper} {Q:Exit->Act->World->Prop}
structure jY (fl:Nat->Bool) (P:Program) (G:Nat) (call:cT) (ops:Array Oper) (al:List aK) (bs:List (List Nat)) (fr fr':AFrame) (h h':AHeap) (vs:List AV) (sn:List AHeap):Prop where
 len:al.length=ops.size
 comp:∀ (i:Nat) o,ops[i]?=some o->∃ ao,al[i]?=some ao/\(fl i=false->∃ a0,fF P G ops o=some a0/\(ao=a0\/ao=j8 a0))
 QB:∀ i o,ops[i]?=some o->∀ e∈o.after,Region.binds .any e=true->e.on<i/\e.on∈bs.getD i []
 from_:∀ i o,ops[i]?=some o->∀ j∈bs.getD i [],j<i/\∃ e∈o.after,Region.binds .any e=true/\(e.on=j\/j∈bs.getD e.on [])
 chain:∀ i j,i∈louds al 0->j∈louds al 0->i<j->i∈bs.getD j []
 free:∀ i j x y,i<j->al[i]?=some x->al[j]?=some y->i∉bs.getD j []->apartOps x y=true
 abO:vs.length=al.length
 loud:∀ i o,al[i]?=some o->isLoud o=true->∃ v h1 h2,vs[i]?=some v/\(h::sn)[(louds al 0).countP (fun j=>decide (j<i))]?=some h1/\(h::sn)[(louds al 0).countP (fun j=>decide (j<i))+1]?=some h2/\
  ((wantedA o.guard (aS (fun j=>decide (j<i)) al vs 0 fr)=true/\evAny call o.op (aS (fun j=>decide (j<i)) al vs 0 fr) h1=some (v,h2))\/(wantedA o.guard (aS (fun j=>decide (j<i)) al vs 0 fr)=false/\v=undefA/\h2=h1))
 quiet:∀ i o,al[i]?=some o->isLoud o=false->∃ v,vs[i]?=some v/\
  ((wantedA o.guard (aS (fun j=>decide (j<i)) al vs 0 fr)=true/\∀ m hm,(h::sn)[m]?=some hm->((louds al 0).filter fun j=>(bs.getD i []).contains j).length<=m->m<=(louds al 0).length-((louds al 0).filter fun j=>(bs.getD j []).contains i).length->
   evOp o.op (aS (fun j=>decide (j<i)) al vs 0 fr) hm=some (v,hm))\/
   (wantedA o.guard (aS (fun j=>decide (j<i)) al vs 0 fr)=false/\v=undefA))
 Lh:fr'=aS (fun _=>true) al vs 0 fr
 T3:(h::sn)[(louds al 0).length]?=some h'
abbrev Rs:=jY fun _=>false
theorem ug {fl:Nat->Bool} {al:List aK} {bs:List (List Nat)} {fr fr':AFrame} {h h':AHeap} {sns:List AHeap} {ms:List (AFrame×AV)} (hlen:al.length=ops.size) (hcomp:∀ (i:Nat) o,ops[i]?=some o->∃ ao,al[i]?=some ao/\(fl i=false->∃ a0,fF P G ops o=some a0/\(ao=a0\/ao=j8 a0)))
 (hok:ot al (ops.toList.map ja) bs (louds al 0)=true) (he:evDraw call (stances al bs (louds al 0) al 0) fr h [h] []=some (fr',h',sns,ms)) (hs:steady fr' sns (stances al bs (louds al 0) al 0) ms=true) :
 ∃ sn,jY fl P G call ops al bs fr fr' h h' (ms.map (·.2)) sn:=by
 have ⟨ms',sn,ht,e1,e2⟩:=jC call _ _ _ _ _ _ _ _ _ he
 simp [List.reverse_nil,cJ] at e2
 subst e2
 simp [HM,List.reverse_nil,cJ,List.singleton_append] at e1
 subst e1
 have hstl:(stances al bs (louds al 0) al 0).length=al.length:=by have:=congrArg List.length (ki al bs (louds al 0) al 0);simpa using this
 have hml:=rI ht
 have hend:=Aq ht
 rw [ki] at hend
 have hcnt:∀ i,(((stances al bs (louds al 0) al 0).take i).filter lP).length=(louds al 0).countP (fun j=>decide (j<i)):=by intro i;rw [qw];have:=mF al 0 i;simp [gh] at this;exact this.symm
 simp only [ot,aA,aQ,dq,decide_eq_true_eq,fu,cw] at hok
 have ⟨⟨hc1,hc2⟩,hc3⟩:=hok
 have hes:∀ i o,ops[i]?=some o->(ops.toList.map ja).getD i []=ja o:=by
  intro i o ho;have:ops.toList[i]?=some o:=by simpa using ho
  simp [List.getD,this]
 refine ⟨sn,⟨hlen,hcomp,?_,?_,?_,?_,by simp [hml,hstl],?_,?_,hend.1,?_⟩⟩
 . intro i o ho e hem hb
   have hi:i<al.length:=by rw [hlen];exact (au.1 ho).1
   have:=(hc1 i hi).1 e.on (by rw [hes i o ho];simp [ja,gk,kR];exact ⟨e,⟨by simpa using hem,hb⟩,rfl⟩)
   exact this
 . intro i o ho j hj
   have hi:i<al.length:=by rw [hlen];exact (au.1 ho).1
   obtain ⟨h1,h2⟩:=(hc1 i hi).2 j hj
   refine ⟨h1,?_⟩
   rw [hes i o ho] at h2
   obtain ⟨x,hx1,hx2⟩:=fz.1 h2
   simp only [ja,gk,kR] at hx1
   obtain ⟨e,⟨he1,he2⟩,rfl⟩:=hx1
   refine ⟨e,by simpa using he1,he2,?_⟩
   simpa [fu] using hx2
 . intro i j hi hj hij
   rcases hc2 i hi j hj with h1 | h1
   . omega
   . exact h1
 . intro i j x y hij hx hy hno
   have hj:j<al.length:=(aa.1 hy).1
   rcases hc3 j hj i hij with h1 | h1
   . exact absurd h1 hno
   . rw [hx,hy] at h1;exact h1
 . intro i o ho hl
   have hst:(stances al bs (louds al 0) al 0)[i]?=some (o,iO al bs (louds al 0) i o.op):=by rw [oZ,ho];simp
   obtain ⟨v,h1,h2,_⟩:=wT ht i o _ hst
   rw [ki] at h1 h2
   obtain ⟨a,b,h3,h4,h5⟩:=h2 ((mL (all:=al)).2 hl)
   rw [hcnt] at h3 h4
   exact ⟨v,a,b,by simp [h1],h3,h4,h5⟩
 . intro i o ho hl
   have hst:(stances al bs (louds al 0) al 0)[i]?=some (o,iO al bs (louds al 0) i o.op):=by rw [oZ,ho];simp
   obtain ⟨v,h1,_,h2⟩:=wT ht i o _ hst
   rw [ki] at h1 h2
   refine ⟨v,by simp [h1],?_⟩
   have hne:iO al bs (louds al 0) i o.op≠.loud:=fun e=>by rw [(mL (all:=al)).1 e] at hl;cases hl
   rcases h2 hne with ⟨hw,x1,x2,h3⟩ | h3
   . refine .inl ⟨hw,fun m hm hmm hlo hhi=>?_⟩
     cases hst1:o.op.isStill with
     | true=>exact still_any hst1 h3 hm
     | false=>
      have hrd:o.op.isRead=true:=by simp [isLoud,hst1] at hl;exact hl
      have e:iO al bs (louds al 0) i o.op=.reads ((louds al 0).filter fun j=>(bs.getD i []).contains j).length ((louds al 0).length-((louds al 0).filter fun j=>(bs.getD j []).contains i).length):=by simp [iO,hst1,hrd]
      rw [e] at hst;have hsb:=wX hs i o _ _ _ v hst h1 hw;obtain ⟨h2',h4⟩:=FX hsb hlo hhi hmm;rw [JY hrd h4] at h4;exact h4
   . exact .inr h3
 . have h1:(louds al 0).countP (fun j=>decide (j<al.length))=(louds al 0).length:=by rw [mY];intro j hj;obtain ⟨_,o,ho,_⟩:=(jq al 0 j).1 hj;simpa using (aa.1 ho).1
   have h2:=hend.2
   have h3:=hcnt al.length
   rw [<- hstl,gB,hstl,h1] at h3
   rw [h3] at h2
   exact h2
theorem Ni {al:List aK} {bs:List (List Nat)} {fr fr':AFrame} {h h':AHeap} {sns:List AHeap} {ms:List (AFrame×AV)} (hc:∃ l,fO P G ops ops.toList=some l/\(al=l\/al=l.map j8))
 (hok:ot al (ops.toList.map ja) bs (louds al 0)=true) (he:evDraw call (stances al bs (louds al 0) al 0) fr h [h] []=some (fr',h',sns,ms)) (hs:steady fr' sns (stances al bs (louds al 0) al 0) ms=true) :
 ∃ sn,Rs P G call ops al bs fr fr' h h' (ms.map (·.2)) sn:=by
 have hcg:al.length=ops.toList.length/\∀ (i:Nat) o,ops.toList[i]?=some o->∃ ao,al[i]?=some ao/\∃ a0,fF P G ops o=some a0/\(ao=a0\/ao=j8 a0):=by
  have ⟨l,hc,hl⟩:=hc;have ⟨h1,h2⟩:=kc hc;rcases hl with rfl | rfl
  . exact ⟨h1,fun i o ho=>by have ⟨ao,h3,h4⟩:=h2 i o ho;exact ⟨ao,h3,ao,h4,.inl rfl⟩⟩
  . exact ⟨by simpa using h1,fun i o ho=>by have ⟨ao,h3,h4⟩:=h2 i o ho;exact ⟨j8 ao,by simp [h3],ao,h4,.inr rfl⟩⟩
 have ⟨hlen,hget⟩:=hcg;simp [dD] at hlen;exact ug hlen (fun i o ho=>by have ⟨ao,h1,h2⟩:=hget i o (by simpa using ho);exact ⟨ao,h1,fun _=>h2⟩) hok he hs
end
section
variable {P:Program} {G:Nat} {call:cT} {ops:Array Oper} {Q:Exit->Act->World->Prop}
variable {al:List aK} {bs:List (List Nat)} {fr fr':AFrame} {h h':AHeap} {vs:List AV} {sn:List AHeap}
structure jH (al:List aK) (bs:List (List Nat)) (L:Nat->Bool):Prop where
 lt:∀ i,L i=true->i<al.length
 down:∀ i,L i=true->∀ j∈bs.getD i [],L j=true
theorem jY.ready {fl:Nat->Bool} (D:jY fl P G call ops al bs fr fr' h h' vs sn) {L:Nat->Bool} (hL:jH al bs L) {i:Nat} {o:Oper} (ho:ops[i]?=some o) (he:∀ e∈o.after,Region.binds .any e=true->L e.on=true):∀ j∈bs.getD i [],L j=true:=by
 intro j hj;have ⟨_,e,h1,h2,h3⟩:=D.from_ i o ho j hj;rcases h3 with rfl | h3
 . exact he e h1 h2
 . exact hL.down e.on (he e h1 h2) j h3
theorem yC {x y:aK} (ha:apartOps x y=true) {t:Nat} (hd:x.dst=some t):t∉y.looks/\y.dst≠some t:=by unfold apartOps at ha;simp [hd,aA,fQ,bne_iff_ne,ne_eq] at ha;refine ⟨fun hm=>?_,ha.1.2⟩;have:=ha.1.1;simp [hm] at this
theorem Fi {x y:aK} (ha:apartOps x y=true) {t:Nat} (hd:y.dst=some t):t∉x.looks:=by unfold apartOps at ha;simp [hd,aA,fQ] at ha;intro hm;have:=ha.2;simp [hm] at this
theorem jY.reads {fl:Nat->Bool} (D:jY fl P G call ops al bs fr fr' h h' vs sn) {L:Nat->Bool} (hL:jH al bs L) {i:Nat} {o:aK} (ho:al[i]?=some o) (hni:L i=false) (hb:∀ j∈bs.getD i [],L j=true) :
 ∀ t∈o.looks,(aS L al vs 0 fr)[t]?=(aS (fun j=>decide (j<i)) al vs 0 fr)[t]?:=by
 intro t ht;refine fT al vs 0 fr fr rfl rfl fun j x hx hd=>?_;simp [gh];rcases rD j i with hj | hj | hj
 . simp [hj,decide_true];cases hLj:L j with
   | true=>rfl
   | false=>
    have hno:j∉bs.getD i []:=fun hm=>by rw [hb j hm] at hLj;cases hLj
    exact absurd ht (yC (D.free j i x o hj hx ho hno) hd).1
 . subst hj;simp [hni]
 . have e:decide (j<i)=false:=by simp;omega
   rw [e];cases hLj:L j with
   | false=>rfl
   | true=>
    have hno:i∉bs.getD j []:=fun hm=>by rw [hL.down j hLj i hm] at hni;cases hni
    exact absurd ht (Fi (D.free i j o x hj ho hx hno) hd)
theorem jY.frame {fl:Nat->Bool} (D:jY fl P G call ops al bs fr fr' h h' vs sn) {L M:Nat->Bool} (hL:jH al bs L) {i:Nat} {o:aK} {v:AV} (ho:al[i]?=some o) (hv:vs[i]?=some v) (hni:L i=false) (hM:∀ j,M j=(L j || j == i)) :
 aS M al vs 0 fr=(aS L al vs 0 fr).putD o.dst v:=by
 apply dt;intro t;by_cases hd:o.dst=some t
 . by_cases hlt:t<fr.length
   . have h1:=sB (L:=M) al vs 0 fr i o v ho hv hd hlt (by simp [hM]) fun j x hij hx hdx=>by
      simp only [gh,hM];have hji:(j == i)=false:=by simp;omega
      rw [hji,dC];cases hLj:L j with
      | false=>rfl
      | true=>
       have hno:i∉bs.getD j []:=fun hm=>by rw [hL.down j hLj i hm] at hni;cases hni
       exact absurd hdx (yC (D.free i j o x hij ho hx hno) hd).2
     rw [h1,hd];have:=gu L al vs 0 fr;simp [AFrame.putD,this,hlt]
   . have h1:(aS M al vs 0 fr)[t]?=none:=aV (by rw [gu];omega);have h2:((aS L al vs 0 fr).putD o.dst v)[t]?=none:=aV (by rw [dF,gu];omega);rw [h1,h2]
 . rw [vS _ _ hd];refine fT al vs 0 fr fr rfl rfl fun j x hx hdx=>?_;simp only [gh,hM];have hji:(j == i)=false:=by simp [beq_eq_false_iff_ne,ne_eq];rintro rfl;rw [ho] at hx;obtain rfl:=aw hx;exact hd hdx
   rw [hji,dC]
theorem ov {l:List Nat} {p q:Nat->Bool} (h:∀ x∈l,p x=q x):l.countP p=l.countP q:=by
 induction l with
 | nil=>rfl
 | cons x l ih=>simp [uw,h x (by simp),ih fun y hy=>h y (by simp [hy])]
theorem jY.step {fl:Nat->Bool} (D:jY fl P G call ops al bs fr fr' h h' vs sn) {L M:Nat->Bool} (hL:jH al bs L) {i:Nat} {o:aK} (ho:al[i]?=some o) (hni:L i=false) (hb:∀ j∈bs.getD i [],L j=true) (hM:∀ j,M j=(L j || j == i))
 {hm:AHeap} (hcur:(h::sn)[(louds al 0).countP L]?=some hm):∃ hm',evOper call o (aS L al vs 0 fr) hm=some (aS M al vs 0 fr,hm')/\(h::sn)[(louds al 0).countP M]?=some hm':=by
 have hr:=D.reads hL ho hni hb;cases hl:isLoud o with
 | true=>
  have hil:i∈louds al 0:=(jq al 0 i).2 ⟨lG _,o,by simpa using ho,hl⟩;have cL:(louds al 0).countP L=(louds al 0).countP (fun j=>decide (j<i)):=by
   refine ov fun j hj=>?_;rcases rD j i with hji | hji | hji
   . rw [hb j (D.chain j i hj hil hji)];simp [hji]
   . subst hji;simp [hni]
   . have e:decide (j<i)=false:=by simp;omega
     rw [e];cases hLj:L j with
     | false=>rfl
     | true=>rw [hL.down j hLj i (D.chain i j hil hj hji)] at hni;cases hni
  have cM:(louds al 0).countP M=(louds al 0).countP (fun j=>decide (j<i))+1:=by
   have e1:(louds al 0).countP M=(louds al 0).countP (fun j=>decide (j<i+1)):=by
    refine ov fun j hj=>?_;rw [hM];rcases rD j i with hji | hji | hji
    . rw [hb j (D.chain j i hj hil hji)];have:j<i+1:=by omega
      simp [this]
    . subst hji;simp
    . have e:decide (j<i+1)=false:=by simp;omega
      have e2:(j == i)=false:=by simp;omega
      rw [e,e2,dC];cases hLj:L j with
      | false=>rfl
      | true=>rw [hL.down j hLj i (D.chain i j hil hj hji)] at hni;cases hni
   have c1:=mF al 0 (i+1);have c0:=mF al 0 i;simp [gh] at c1 c0;rw [e1,c1,c0,HL,ho];simp [hl]
  have ⟨v,h1,h2,hv,hs1,hs2,hcase⟩:=D.loud i o ho hl;rw [cL,hs1] at hcur;obtain rfl:=aw hcur;have hfr:=D.frame hL ho hv hni hM;have ⟨c1,c2⟩:=xo (call:=call) (h:=h1) hr;refine ⟨h2,?_,by rw [cM];exact hs2⟩;unfold evOper;rcases hcase with ⟨hw,hev⟩ | ⟨hw,rfl,rfl⟩
  . rw [c2,hw,c1,hev,hfr]
  . rw [c2,hw,hfr]
 | false=>
  have hnl:i∉louds al 0:=fun hm=>by have ⟨_,o',ho',hl'⟩:=(jq al 0 i).1 hm;simp [pM] at ho';rw [ho] at ho';obtain rfl:=aw ho';rw [hl] at hl';cases hl'
  have cM:(louds al 0).countP M=(louds al 0).countP L:=by
   refine ov fun j hj=>?_;rw [hM];have:(j == i)=false:=by simp [beq_eq_false_iff_ne,ne_eq];rintro rfl;exact hnl hj
   rw [this,dC]
  have ⟨v,hv,hcase⟩:=D.quiet i o ho hl;have hfr:=D.frame hL ho hv hni hM;have ⟨c1,c2⟩:=xo (call:=call) (h:=hm) hr;refine ⟨hm,?_,by rw [cM];exact hcur⟩;unfold evOper;rcases hcase with ⟨hw,hev⟩ | ⟨hw,rfl⟩
  . have hlo:((louds al 0).filter fun j=>(bs.getD i []).contains j).length<=(louds al 0).countP L:=by rw [<- oQ];exact CW fun j _ hj=>hb j (by simpa [fu] using hj)
    have hhi:(louds al 0).countP L<=(louds al 0).length-((louds al 0).filter fun j=>(bs.getD j []).contains i).length:=by
     have:=vE (l:=louds al 0) (p:=L) (q:=fun j=>(bs.getD j []).contains i) fun j _ hj hq=>by have:=hL.down j hj i (by simpa [fu] using hq);rw [hni] at this;cases this
     rw [oQ (p:=fun j=>(bs.getD j []).contains i)] at this;omega
    have hop:=hev _ hm hcur hlo hhi;have hany:evAny call o.op (aS (fun j=>decide (j<i)) al vs 0 fr) hm=some (v,hm):=by
     cases hop':o.op with
     | call f args=>simp [isLoud,hop',AOp.isStill,AOp.isRead] at hl
     | callv x args=>simp [isLoud,hop',AOp.isStill,AOp.isRead] at hl
     | _=>rw [hop'] at hop;simpa only [evAny] using hop
    rw [c2,hw,c1,hany,hfr]
  . rw [c2,hw,hfr]
theorem jY.sound (D:Rs P G call ops al bs fr fr' h h' vs sn) (hcall:gx P G call) {ρ0:eM} {w0:World} {ds:List Deferred}
 (hQ:∀ ρ' a' w',AV.rels ρ' fr' a'.tmps.toList->a'.defers=ds->Post G ρ0 h w0 ρ' h' w'->Q .normal a' w') :
 ∀ (fuel:Nat) (listed:Array Bool) (a:Act) (w:World) (ρ:eM) (hm:AHeap),listed.size=ops.size->jH al bs (fun i=>listed.getD i false)->
  ((List.range al.length).filter fun i=>!(listed.getD i false)).length<=fuel->
  AV.rels ρ (aS (fun i=>listed.getD i false) al vs 0 fr) a.tmps.toList->a.defers=ds->(h::sn)[(louds al 0).countP fun i=>listed.getD i false]?=some hm->Post G ρ0 h w0 ρ hm w->
  wpAny P .any ops Q fuel listed a w:=by
 have finish:∀ (listed:Array Bool) (a:Act) (w:World) (ρ:eM) (hm:AHeap),listed.size=ops.size->jH al bs (fun i=>listed.getD i false)->
  AV.rels ρ (aS (fun i=>listed.getD i false) al vs 0 fr) a.tmps.toList->a.defers=ds->(h::sn)[(louds al 0).countP fun i=>listed.getD i false]?=some hm->Post G ρ0 h w0 ρ hm w->
  Region.ready .any ops listed=[]->(∀ i,i<al.length->listed.getD i false=true)/\Q .normal a w:=by
  intro listed a w ρ hm hsz hL hf hd hcur hp hno
  have hall:∀ i,i<al.length->listed.getD i false=true:=by
   intro i
   induction i using Nat.strongRecOn with
   | _ i ih=>
    intro hi
    cases hli:listed.getD i false with
    | true=>rfl
    | false=>
     exfalso;have hio:i<ops.size:=by rw [<- D.len];exact hi
     have hmem:i∈Region.ready .any ops listed:=by
      rw [mem_ready];refine ⟨?_,ops[i],by simp [hio],fun e he hb=>?_⟩
      . have:i<listed.size:=by omega
        simp [aE,bU this,dI] at hli ⊢;exact hli
      . have:=(D.QB i ops[i] (by simp [hio]) e he hb).1;exact ih e.on this (by omega)
     rw [hno] at hmem;cases hmem
  refine ⟨hall,hQ ρ a w ?_ hd ?_⟩
  . have e:aS (fun i=>listed.getD i false) al vs 0 fr=fr':=by rw [D.Lh];apply dt;intro t;refine fT al vs 0 fr fr rfl rfl fun j x hx _=>?_;simpa using hall j (aa.1 hx).1
    rw [<- e];exact hf
  . have e:(louds al 0).countP (fun i=>listed.getD i false)=(louds al 0).length:=by rw [mY];intro j hj;have ⟨_,x,hx,_⟩:=(jq al 0 j).1 hj;exact hall j (by simpa using (aa.1 hx).1)
    rw [e,D.T3] at hcur
    obtain rfl:=aw hcur
    exact hp
 intro fuel
 induction fuel with
 | zero=>
  intro listed a w ρ hm hsz hL hcount hf hd hcur hp;have hnone:Region.ready .any ops listed=[]:=by
   cases hrd:Region.ready .any ops listed with
   | nil=>rfl
   | cons i r=>
    exfalso;have hmem:i∈Region.ready .any ops listed:=by rw [hrd];simp
    have ⟨h1,o,ho,_⟩:=mem_ready.1 hmem;have hi:i<al.length:=by rw [D.len];exact (au.1 ho).1
    have:i∈(List.range al.length).filter fun i=>!(listed.getD i false):=by
     simp [kR,dq,hi,true_and];have hlt:i<listed.size:=by rw [hsz,<- D.len];exact hi
     simp [aE,bU hlt,dI] at h1 ⊢;simp [h1]
    rw [aG (Nat.le_zero.1 hcount)] at this;cases this
  exact ⟨hnone,(finish listed a w ρ hm hsz hL hf hd hcur hp hnone).2⟩
 | succ fuel ih=>
  intro listed a w ρ hm hsz hL hcount hf hd hcur hp;refine ⟨fun hno=>(finish listed a w ρ hm hsz hL hf hd hcur hp hno).2,fun i hi=>?_⟩;have ⟨h1,o,ho,hedge⟩:=mem_ready.1 hi;have hil:i<al.length:=by rw [D.len];exact (au.1 ho).1
  have hlt:i<listed.size:=by rw [hsz,<- D.len];exact hil
  have hni:listed.getD i false=false:=by simp [aE,bU hlt,dI] at h1 ⊢;exact h1
  have hb:=D.ready hL ho hedge;have ⟨ao,hao,hcomp⟩:=D.comp i o ho;have hcomp:=hcomp rfl;have hM:∀ j,(listed.setIfInBounds i true).getD j false=(listed.getD j false || j == i):=by
   intro j;by_cases hji:i=j
   . subst hji;simp [hlt]
   . have e:(j == i)=false:=by simp;omega
     rw [e,dC];simp [aE,aP hji]
  have ⟨hm',hev,hcur'⟩:=D.step (L:=fun i=>listed.getD i false) (M:=fun j=>(listed.setIfInBounds i true).getD j false) hL hao hni hb hM hcur;refine qR hcall hf hp.rel ho hcomp hev fun ρ' a' w' hf' hd' hp'=>?_;refine ih _ a' w' ρ' hm' (by simp [hsz]) ⟨fun j hj=>?_,fun j hj k hk=>?_⟩ ?_ hf' (hd'.trans hd) hcur' (hp.trans hp')
  . rw [hM,cw] at hj;rcases hj with hj | hj
    . exact hL.lt j hj
    . have:j=i:=by simpa using hj
      omega
  . rw [hM,cw] at hj ⊢;left;rcases hj with hj | hj
    . exact hL.down j hj k hk
    . have:j=i:=by simpa using hj
      subst this;exact hb k hk
  . have key:∀ n,((List.range n).filter fun j=>!((listed.setIfInBounds i true).getD j false)).length+(if i<n then 1 else 0)=((List.range n).filter fun j=>!(listed.getD j false)).length:=by
     intro n
     induction n with
     | zero=>simp
     | succ n ihn=>
      rw [List.range_succ,iW,iW,aM,aM];have e:(!((listed.setIfInBounds i true).getD n false))=(!(listed.getD n false) && !(n == i)):=by rw [hM];cases listed.getD n false<;>cases (n == i)<;>rfl
      simp only [bZ,wC,e];by_cases hin:n=i
      . subst hin;rw [if_neg (Nat.lt_irrefl n)] at ihn;simp only [hni,beq_self_eq_true,im,Ah,aF,if_false,fL,if_true,bw,ft];rw [if_pos (by omega)];omega
      . have hb':(n == i)=false:=by simpa using hin
        simp only [hb',fL,Du];have e1:(if i<n+1 then 1 else 0)=(if i<n then 1 else 0):=by
         by_cases hlt':i<n
         . rw [if_pos hlt',if_pos (by omega)]
         . rw [if_neg hlt',if_neg (by omega)]
        rw [e1];cases hln:listed.getD n false<;>simp only [im,fL,aF,if_true,if_false,bw,ft]<;>omega
    have:=key al.length
    rw [if_pos hil] at this
    omega
theorem Hh (hcall:gx P G call) {ms:List (AFrame×AV)} {sns:List AHeap} {ρ:eM} {w:World} {a:Act} {id:Nat} (hc:∃ l,fO P G ops ops.toList=some l/\(al=l\/al=l.map j8))
 (hok:ot al (ops.toList.map ja) bs (louds al 0)=true) (hmix:P.follows .mixedOrders=true) (he:evDraw call (stances al bs (louds al 0) al 0) fr h [h] []=some (fr',h',sns,ms)) (hs:steady fr' sns (stances al bs (louds al 0) al 0) ms=true)
 (hf:AV.rels ρ fr a.tmps.toList) (r:fw G ρ h w) (hQ:∀ ρ' a' w',AV.rels ρ' fr' a'.tmps.toList->a'.defers=a.defers->Post G ρ h w ρ' h' w'->Q .normal a' w'):(Code.region id ops true).wp P Q a w:=by
 have ⟨sn,D⟩:=Ni hc hok he hs;refine wp_region_any hmix ?_;have hnone:∀ i,(Array.replicate ops.size false).getD i false=false:=by intro i;simp [aE,td];split<;>rfl
 have hL:jH al bs (fun i=>(Array.replicate ops.size false).getD i false):=⟨fun i hi=>absurd ((hnone i).symm.trans hi) (by simp),fun i hi=>absurd ((hnone i).symm.trans hi) (by simp)⟩
 refine D.sound hcall hQ ops.size _ a _ ρ h (by simp) hL ?_ ?_ rfl ?_ (Post.drew r)
 . refine dk (yK _ _) ?_;simp [D.len]
 . rw [iH al _ 0 fr fun i _=>hnone i];exact hf
 . have:(louds al 0).countP (fun i=>(Array.replicate ops.size false).getD i false)=0:=by rw [oS];intro j _;rw [hnone];simp
   rw [this];rfl
end
section
variable {fr':AFrame} {h':AHeap} {a:Act} {ρ0 ρ:eM} {f:I0} {n:Int} {i d b:Nat} {w0:World} {tmps:Array Value} {l:List aK} {xs:List Value}
def clr (d1 d2:Nat) (t:Array Value):Array Value:=(t.setIfInBounds d1 undef).setIfInBounds d2 undef
def clrA (d1 d2:Nat) (a:Act):Act:={a with tmps:=clr d1 d2 a.tmps}
section
variable {d1 d2:Nat}
theorem clr_get {j:Nat} (h1:j≠d1) (h2:j≠d2) (t:Array Value):(clr d1 d2 t)[j]?=t[j]?:=by simp [clr,aP (aY h2),aP (aY h1)]
theorem IM (h1:d≠d1) (h2:d≠d2) (v:Value) (t:Array Value):clr d1 d2 (t.setIfInBounds d v)=(clr d1 d2 t).setIfInBounds d v:=by
 apply qu;intro j;simp [clr,ji];by_cases e2:d2=j
 . subst e2;simp [h2]
 . by_cases e1:d1=j
   . subst e1;simp [h1,e2]
   . simp [e1,e2]
theorem E0 (v:Value) (t:Array Value):clr d1 d2 (t.setIfInBounds d1 v)=clr d1 d2 t:=by simp [clr]
theorem Np (v:Value) (t:Array Value):clr d1 d2 (t.setIfInBounds d2 v)=clr d1 d2 t:=by
 apply qu;intro j;simp [clr,ji];by_cases e2:d2=j
 . subst e2;simp
 . by_cases e1:d1=j
   . subst e1;simp [e2]
   . simp [e1,e2]
end
section
variable {P:Program} {G:Nat} {call:cT} {ops:Array Oper} {Q:Exit->Act->World->Prop}
theorem Al {d1 d2:Nat} {o:Oper} {W:World} {K:Act->World->Prop} (he:execOp a.eval o=execOp (clrA d1 d2 a).eval o)
 (h:o.wp P (clrA d1 d2 a) W (fun a'' W'=>(∃ v,a''=(clrA d1 d2 a).put o.dst v)/\∀ v,a''=(clrA d1 d2 a).put o.dst v->K (a.put o.dst v) W') (fun _ _ _=>False)):o.wp P a W K Q:=by
 unfold Oper.wp at *;rw [he];generalize (execOp (clrA d1 d2 a).eval o).run P W=res at *;cases res with
 | ok n w'=>
  cases n with
  | value v=>exact h.2 v rfl
  | skip=>exact h.2 undef rfl
  | defer d=>have ⟨v,e⟩:=h.1;have:=congrArg Act.defers e;unfold Act.put clrA at this;split at this<;>simp at this
  | enter f args=>
   refine Calls.mono h fun e w'' he=>?_;cases e with
   | returned v=>exact he.2 v rfl
   | panicked c=>exact he.elim
   | outgrown=>have ⟨_,_,hf⟩:=he;exact hf.elim
  | row r args=>exact Rows.mono h fun v w'' he=>he.2 v rfl
  | _=>exact h.elim
 | halt t w'=>cases t<;>exact h.elim
structure Bs (P:Program) (ops:Array Oper) (al:List aK) (bs:List (List Nat)) (f:I0):Prop where
 op:∃ o,ops[f.i]?=some o/\o.op=.makeSlice f.t (.tmp f.s) (.tmp f.s)/\o.dst=some f.d/\o.guard=none
 und:P.underlying f.t=some (.slice f.e)
 hs:sizeT P f.e=some f.sz
 hb:bytesT P f.e=some f.by_
 hz:zeroT P f.e=some f.z
 hzl:f.z.length=f.sz
 al_:al[f.i]?=some ⟨some f.d,.mv (.const undefA),none⟩
 src:f.p∈bs.getD f.i []
 uniq:∀ j o',al[j]?=some o'->o'.dst=some f.s->j=f.p
theorem ID {al:List aK} {bs:List (List Nat)} (hf:Bs P ops al bs f) (h0:0<=n) (hby:n*f.by_<=bigA) (hbig:n<=bigA) :
 ∃ xs:List Value,(∀ ρ,AV.rels ρ (rep n.toNat f.z) xs)/\∀ (k:IntKind) (W:World),(Instr.makeSlice f.t (.int k n) (.int k n)).run P W=.ok (.slice (some ⟨W.heap.size,0,none⟩) n.toNat n.toNat) (W.alloc (.cells xs.toArray f.e)):=by
 have ⟨zv,h1,_⟩:=dO hf.hz eM.nil;have hs:=hf.hs;have hb:=hf.hb;unfold sizeT at hs;unfold bytesT at hb;have h1':=h1;unfold zeroV at h1';cases hi:P.info? f.e with
 | none=>simp [hi] at hs
 | some i=>
  simp [hi] at hs hb h1';refine ⟨(madeCells zv.cells (n.toNat*i.size)).toList,fun ρ=>?_,fun k W=>?_⟩
  . have ⟨zv',h2,h3⟩:=dO hf.hz ρ;obtain rfl:zv'=zv:=aw (h2.symm.trans h1);have hrep:=rS h3 n.toNat;rw [hf.hzl,<- hs] at hrep;exact hrep
  . have:=run_make (P:=P) W f.t f.e i zv hf.und hi h1' k k n n h0 (Int.le_refl _) (by rw [hb,Int.mul_comm];unfold bigA at hby;omega) (by unfold bigA at hbig;omega);simpa using this
structure qo (f:I0) (xs:List Value) (n:Int) (w0:World) (ρ:eM) (hm:AHeap) (tmps:Array Value) (W:World) (b:Nat):Prop where
 slot:tmps[f.d]?=some (.slice (some ⟨b,0,none⟩) n.toNat n.toNat)
 cells:W.heap[b]?=some (.cells xs.toArray f.e (0,0))
 new:w0.heap.size<=b
 free:¬ px ρ hm b
 nolit:∀ x∈ρ.lit,x.1≠b
theorem qo.lt {hm:AHeap} {W:World} (x:qo f xs n w0 ρ hm tmps W b):b<W.heap.size:=(au.1 x.cells).1
theorem qo.post {ρ':eM} {hm hm':AHeap} {tmps':Array Value} {W W':World} (x:qo f xs n w0 ρ hm tmps W b) (hp:Post G ρ hm W ρ' hm' W') (hd:tmps'[f.d]?=tmps[f.d]?):qo f xs n w0 ρ' hm' tmps' W' b:=by
 have hlt:=x.lt;refine ⟨hd.trans x.slot,(hp.keep b hlt fun ho=>x.free (mO ho)).trans x.cells,x.new,fun hl=>?_,fun y hy e=>?_⟩
 . rcases hp.te b hl with h1 | h1
   . exact x.free h1
   . omega
 . rcases hp.lu y hy with h1 | h1
   . exact x.nolit y h1 e
   . omega
theorem Post.wE {h:AHeap} {w:World} (r:fw G ρ h w) (o:Obj):Post G ρ h w ρ h (w.alloc o):=by
 have hold:∀ b,b<w.heap.size->(w.alloc o).heap[b]?=w.heap[b]?:=fun b hb=>by show (w.heap.push o)[b]?=_;rw [oT,nQ]
 have hsz:w.heap.size<=(w.alloc o).heap.size:=by simp
 refine ⟨eM.le_refl ρ,⟨r.jK,r.mh,r.glob,fun i o' a h1 h2=>?_,r.apart,r.caps,fun x hx=>?_⟩,rfl,rfl,rfl,hsz,fun b hb _=>hold b hb,fun _ h=>.inl h,fun _ h=>.inl h,fun _ h=>.inl h⟩
 . have ho:=r.obj i o' a h1 h2;cases hl:o'.live with
   | false=>cases o'<;>simp_all [AObj.live,AObj.holds]
   | true=>exact AObj.fV hsz (hold _ (AObj.gU ho hl)) ho
 . have ⟨⟨e',h1⟩,h2⟩:=r.lits x hx;exact ⟨⟨e',by rw [hold _ (au.1 h1).1];exact h1⟩,h2⟩
theorem Post.FB {h hm:AHeap} {W:World} (hp:Post G ρ0 h w0 ρ hm W) (x:qo f xs n w0 ρ hm tmps W b) {cs:List AV} (hc:AV.rels ρ cs xs) :
 Post G ρ0 h w0 ⟨ρ.addr++[⟨b,0,none⟩],ρ.cap,ρ.lit⟩ (hm.push (Qc cs none)) W:=by
 have r:=hp.rel;have hle:ρ.le ⟨ρ.addr++[⟨b,0,none⟩],ρ.cap,ρ.lit⟩:=⟨⟨_,rfl⟩,⟨[],by simp⟩,⟨[],by simp⟩⟩
 have addr':∀ (j:Nat) p c,(hm.objs++[.cells false cs none])[j]?=some p->(ρ.addr++[⟨b,0,none⟩])[j]?=some c->
  (hm.objs[j]?=some p/\ρ.addr[j]?=some c)\/(j=hm.objs.length/\p=.cells false cs none/\c=⟨b,0,none⟩):=by
  intro j p c hp hc;rcases dm hp with hp | ⟨hj,rfl⟩
  . have hlt:=(aa.1 hp).1;rw [<- r.jK] at hlt;rw [ay hlt] at hc;exact .inl ⟨hp,hc⟩
  . rcases dm hc with hc | ⟨_,rfl⟩
    . have hlt:=(aa.1 hc).1;rw [r.jK] at hlt;omega
    . exact .inr ⟨hj,rfl,rfl⟩
 have hcr:=AV.iJ hle _ _ hc;refine ⟨hp.le.le_trans hle,⟨by simp [AHeap.push,r.jK],by simp [AHeap.push,r.mh],fun g hg=>cN (r.glob g hg),?_,?_,by simpa [AHeap.push] using r.caps,?_⟩,hp.os,hp.tape,hp.output,hp.size,hp.keep,?_,?_,hp.lu⟩
 . intro j p c hp1 hc1;rcases addr' j p c hp1 hc1 with ⟨hp2,hc2⟩ | ⟨_,rfl,rfl⟩
   . exact AObj.dE hle (r.obj j p c hp2 hc2)
   . refine ⟨rfl,xs.toArray,f.e,x.cells,fun k v hk=>?_,by intro k s hk;cases hk⟩;have ⟨y,h1,h2⟩:=da hcr hk;exact ⟨y,by simpa using h1,h2⟩
 . intro i j p q c d hp1 hq1 hc1 hd1 hij hpw hql;rcases addr' i p c hp1 hc1 with ⟨hp2,hc2⟩ | ⟨hi,hp2,hc2⟩
   . rcases addr' j q d hq1 hd1 with ⟨hq2,hd2⟩ | ⟨_,hq2,hd2⟩
     . exact r.apart i j p q c d hp2 hq2 hc2 hd2 hij hpw hql
     . rw [hd2];exact fun e=>x.free ⟨i,p,c,hp2,hc2,AObj.cV hpw,e⟩
   . rcases addr' j q d hq1 hd1 with ⟨hq2,hd2⟩ | ⟨hj,hq2,hd2⟩
     . rw [hc2];exact fun e=>x.free ⟨j,q,d,hq2,hd2,hql,e.symm⟩
     . omega
 . intro y hy;have ⟨h1,h2⟩:=r.lits y hy;refine ⟨h1,?_⟩;rintro ⟨j,p,c,hp1,hc1,hpw,hcb⟩;rcases addr' j p c hp1 hc1 with ⟨hp2,hc2⟩ | ⟨_,_,hc2⟩
   . exact h2 ⟨j,p,c,hp2,hc2,hpw,hcb⟩
   . rw [hc2] at hcb;exact x.nolit y hy hcb.symm
 . rintro k ⟨j,p,c,hp1,hc1,hpw,rfl⟩;rcases addr' j p c hp1 hc1 with ⟨hp2,hc2⟩ | ⟨_,_,hc2⟩
   . exact hp.owns _ ⟨j,p,c,hp2,hc2,hpw,rfl⟩
   . rw [hc2];exact .inr x.new
 . rintro k ⟨j,p,c,hp1,hc1,hpl,rfl⟩;rcases addr' j p c hp1 hc1 with ⟨hp2,hc2⟩ | ⟨_,_,hc2⟩
   . exact hp.te _ ⟨j,p,c,hp2,hc2,hpl,rfl⟩
   . rw [hc2];exact .inr x.new
section
variable {fl Y:Nat->Bool} {al:List aK} {bs:List (List Nat)} {fr fr1:AFrame} {h h1:AHeap} {vs:List AV} {sn:List AHeap}
theorem D8 (a:Act) (o:Option Nat) (v:Value):(a.put o v).defers=a.defers:=by cases o<;>rfl
theorem ER (D:jY fl P G call ops al bs fr fr1 h h1 vs sn) (hcall:gx P G call) (f1 f2:I0) (k1:Bs P ops al bs f1) (k2:Bs P ops al bs f2) (hd:f1.d≠f2.d) (hii:f1.i≠f2.i)
 (hsd:f1.s≠f1.d/\f1.s≠f2.d/\f2.s≠f1.d/\f2.s≠f2.d)
 (hfl:∀ i,i<al.length->fl i=true->i=f1.i\/i=f2.i\/Y i=true) (hf1:fl f1.i=true) (hf2:fl f2.i=true) (hYf:Y f1.i=false/\Y f2.i=false)
 (hYl:∀ (y:Nat) (o:aK),al[y]?=some o->Y y=true->o.dst=none/\isLoud o=false)
 (hY:∀ y,Y y=true->y<al.length->∀ i,i<al.length->Y i=false->i∈bs.getD y [])
 (hg:∀ (i:Nat) (o:Oper),ops[i]?=some o->o.guard=none)
 (hdst:∀ (i:Nat) (o:Oper),ops[i]?=some o->fl i=false->o.dst≠some f1.d/\o.dst≠some f2.d)
 (hcl:∀ (i:Nat) (o:Oper),ops[i]?=some o->fl i=false->∀ a:Act,execOp a.eval o=execOp (clrA f1.d f2.d a).eval o)
 {n1 n2:Int} {kk1 kk2:IntKind} {xs1 xs2:List Value} (hn1:fr1[f1.s]?=some (.int kk1 n1)) (hn2:fr1[f2.s]?=some (.int kk2 n2))
 (hx1:∀ (k:IntKind) (W:World),(Instr.makeSlice f1.t (.int k n1) (.int k n1)).run P W=.ok (.slice (some ⟨W.heap.size,0,none⟩) n1.toNat n1.toNat) (W.alloc (.cells xs1.toArray f1.e)))
 (hx2:∀ (k:IntKind) (W:World),(Instr.makeSlice f2.t (.int k n2) (.int k n2)).run P W=.ok (.slice (some ⟨W.heap.size,0,none⟩) n2.toNat n2.toNat) (W.alloc (.cells xs2.toArray f2.e)))
 {ds:List Deferred} {m:Nat}
 (hend:∀ fuel listed a W ρ b1 b2,listed.size=ops.size->(∀ i,i<ops.size->listed.getD i false=!Y i)->AV.rels ρ fr1 (clr f1.d f2.d a.tmps).toList->a.defers=ds->Post G ρ0 h w0 ρ h1 W->
  qo f1 xs1 n1 w0 ρ h1 a.tmps W b1->qo f2 xs2 n2 w0 ρ h1 a.tmps W b2->b1≠b2->f1.d<a.tmps.size->f2.d<a.tmps.size->wpAny P .any ops Q (fuel+m) listed a W) :
 ∀ (fuel:Nat) (listed:Array Bool) (a:Act) (W:World) (ρ:eM) (hm:AHeap) (b1 b2:Nat),listed.size=ops.size->jH al bs (fun i=>listed.getD i false)->(∀ y,Y y=true->listed.getD y false=false)->
  ((List.range al.length).filter fun i=>!(listed.getD i false) && !(Y i)).length<=fuel->
  AV.rels ρ (aS (fun i=>listed.getD i false) al vs 0 fr) (clr f1.d f2.d a.tmps).toList->a.defers=ds->(h::sn)[(louds al 0).countP fun i=>listed.getD i false]?=some hm->Post G ρ0 h w0 ρ hm W->
  (listed.getD f1.i false=true->qo f1 xs1 n1 w0 ρ hm a.tmps W b1)->(listed.getD f2.i false=true->qo f2 xs2 n2 w0 ρ hm a.tmps W b2)->(listed.getD f1.i false=true->listed.getD f2.i false=true->b1≠b2)->
  f1.d<a.tmps.size->f2.d<a.tmps.size->wpAny P .any ops Q (fuel+m) listed a W:=by
 have hio:∀ i,i<al.length->i<ops.size:=fun i hi=>by rw [<- D.len];exact hi
 have lf1:f1.i<al.length:=by have ⟨o,ho,_⟩:=k1.op;rw [D.len];exact (au.1 ho).1
 have lf2:f2.i<al.length:=by have ⟨o,ho,_⟩:=k2.op;rw [D.len];exact (au.1 ho).1
 have finish:∀ (fuel:Nat) (listed:Array Bool) (a:Act) (W:World) (ρ:eM) (hm:AHeap) (b1 b2:Nat),listed.size=ops.size->(∀ y,Y y=true->listed.getD y false=false)->
  AV.rels ρ (aS (fun i=>listed.getD i false) al vs 0 fr) (clr f1.d f2.d a.tmps).toList->a.defers=ds->(h::sn)[(louds al 0).countP fun i=>listed.getD i false]?=some hm->Post G ρ0 h w0 ρ hm W->
  (listed.getD f1.i false=true->qo f1 xs1 n1 w0 ρ hm a.tmps W b1)->(listed.getD f2.i false=true->qo f2 xs2 n2 w0 ρ hm a.tmps W b2)->(listed.getD f1.i false=true->listed.getD f2.i false=true->b1≠b2)->
  (∀ i,i<al.length->Y i=false->listed.getD i false=true)->f1.d<a.tmps.size->f2.d<a.tmps.size->wpAny P .any ops Q (fuel+m) listed a W:=by
  intro fuel listed a W ρ hm b1 b2 hsz hLY hf hds hcur hp hi1 hi2 hi12 hall hb1 hb2
  have e:aS (fun i=>listed.getD i false) al vs 0 fr=fr1:=by
   rw [D.Lh];apply dt;intro t;refine fT al vs 0 fr fr rfl rfl fun j x hx hdx=>?_;have hj:=(aa.1 hx).1
   cases hYj:Y j with
   | true=>rw [(hYl j x hx hYj).1] at hdx;cases hdx
   | false=>simpa using hall j hj hYj
  have e2:hm=h1:=by
   have:(louds al 0).countP (fun i=>listed.getD i false)=(louds al 0).length:=by
    rw [mY];intro j hj;have ⟨_,x,hx,hl⟩:=(jq al 0 j).1 hj;simp [pM] at hx
    cases hYj:Y j with
    | true=>rw [(hYl j x hx hYj).2] at hl;cases hl
    | false=>exact hall j (aa.1 hx).1 hYj
   rw [this,D.T3] at hcur;exact (aw hcur).symm
  subst e2
  rw [e] at hf
  have h1':=hall f1.i lf1 hYf.1
  have h2':=hall f2.i lf2 hYf.2
  refine hend fuel listed a W ρ b1 b2 hsz (fun i hi=>?_) hf hds hp (hi1 h1') (hi2 h2') (hi12 h1' h2') hb1 hb2
  cases hYi:Y i with
  | true=>rw [hLY i hYi];rfl
  | false=>rw [hall i (by rw [D.len];exact hi) hYi];rfl
 have some_ready:∀ (listed:Array Bool),listed.size=ops.size->(∃ i,i<al.length/\Y i=false/\listed.getD i false=false)->Region.ready .any ops listed≠[]:=by
  intro listed hsz ⟨i,hi,hYi,hni⟩ hno;have hall:∀ i,i<al.length->listed.getD i false=true:=by
   intro i
   induction i using Nat.strongRecOn with
   | _ i ih=>
    intro hi
    cases hli:listed.getD i false with
    | true=>rfl
    | false=>
     exfalso;have hmem:i∈Region.ready .any ops listed:=by
      rw [mem_ready];refine ⟨?_,ops[i]'(hio i hi),by simp [hio i hi],fun e he hb=>?_⟩
      . have:i<listed.size:=by rw [hsz];exact hio i hi
        simp [aE,bU this,dI] at hli ⊢;exact hli
      . have:=(D.QB i _ (by simp [hio i hi]) e he hb).1;exact ih e.on this (by omega)
     rw [hno] at hmem;cases hmem
  rw [hall i hi] at hni;cases hni
 intro fuel
 induction fuel with
 | zero=>
  intro listed a W ρ hm b1 b2 hsz hL hLY hcount hf hds hcur hp hi1 hi2 hi12 hb1 hb2;refine finish 0 listed a W ρ hm b1 b2 hsz hLY hf hds hcur hp hi1 hi2 hi12 (fun i hi hYi=>?_) hb1 hb2
  cases hli:listed.getD i false with
  | true=>rfl
  | false=>
   have:i∈(List.range al.length).filter fun i=>!(listed.getD i false) && !(Y i):=by rw [kR];exact ⟨dq.2 hi,by rw [hli,hYi];rfl⟩
   rw [aG (Nat.le_zero.1 hcount)] at this;cases this
 | succ fuel ih=>
  intro listed a W ρ hm b1 b2 hsz hL hLY hcount hf hds hcur hp hi1 hi2 hi12 hb1 hb2;by_cases hall:∀ i,i<al.length->Y i=false->listed.getD i false=true
  . exact finish (fuel+1) listed a W ρ hm b1 b2 hsz hLY hf hds hcur hp hi1 hi2 hi12 hall hb1 hb2
  have hall':∃ i,i<al.length/\Y i=false/\listed.getD i false=false:=by
   apply cU;intro hno;refine hall fun i hi hYi=>?_
   cases hli:listed.getD i false with
   | true=>rfl
   | false=>exact absurd ⟨i,hi,hYi,hli⟩ hno
  rw [Nat.add_right_comm];refine ⟨fun hno=>absurd hno (some_ready listed hsz hall'),fun i hi=>?_⟩;have ⟨g1,o,ho,hedge⟩:=mem_ready.1 hi;have hil:i<al.length:=by rw [D.len];exact (au.1 ho).1
  have hlt:i<listed.size:=by rw [hsz,<- D.len];exact hil
  have hni:listed.getD i false=false:=by simp [aE,bU hlt,dI] at g1 ⊢;exact g1
  have hb:=D.ready hL ho hedge;have hYi:Y i=false:=by
   cases hYi:Y i with
   | false=>rfl
   | true=>have ⟨j,hj,hYj,hnj⟩:=hall';rw [hb j (hY i hYi hil j hj hYj)] at hnj;cases hnj
  have ⟨ao,hao,hcomp⟩:=D.comp i o ho;have hM:∀ j,(listed.setIfInBounds i true).getD j false=(listed.getD j false || j == i):=by
   intro j;by_cases hji:i=j
   . subst hji;simp [hlt]
   . have e:(j == i)=false:=by simp;omega
     rw [e,dC];simp [aE,aP hji]
  have ⟨hm',hev,hcur'⟩:=D.step (L:=fun i=>listed.getD i false) (M:=fun j=>(listed.setIfInBounds i true).getD j false) hL hao hni hb hM hcur;have hL':jH al bs (fun j=>(listed.setIfInBounds i true).getD j false):=by
   refine ⟨fun j hj=>?_,fun j hj k hk=>?_⟩
   . rw [hM,cw] at hj;rcases hj with hj | hj
     . exact hL.lt j hj
     . have:j=i:=by simpa using hj
       omega
   . rw [hM,cw] at hj ⊢;left;rcases hj with hj | hj
     . exact hL.down j hj k hk
     . have:j=i:=by simpa using hj
       subst this;exact hb k hk
  have hLY':∀ y,Y y=true->(listed.setIfInBounds i true).getD y false=false:=by
   intro y hy;rw [hM,hLY y hy];have:(y == i)=false:=by simp [beq_eq_false_iff_ne,ne_eq];rintro rfl;rw [hYi] at hy;cases hy
   rw [this];rfl
  have hcount':((List.range al.length).filter fun j=>!((listed.setIfInBounds i true).getD j false) && !(Y j)).length<=fuel:=by
   have key:∀ n,((List.range n).filter fun j=>!((listed.setIfInBounds i true).getD j false) && !(Y j)).length+(if i<n then 1 else 0)=((List.range n).filter fun j=>!(listed.getD j false) && !(Y j)).length:=by
    intro n
    induction n with
    | zero=>simp
    | succ n ihn=>
     rw [List.range_succ,iW,iW,aM,aM];have e:(!((listed.setIfInBounds i true).getD n false) && !(Y n))=((!(listed.getD n false) && !(Y n)) && !(n == i)):=by rw [hM];cases listed.getD n false<;>cases (n == i)<;>cases Y n<;>rfl
     simp only [bZ,wC,e];by_cases hin:n=i
     . subst hin;rw [if_neg (Nat.lt_irrefl n)] at ihn;simp only [hni,hYi,beq_self_eq_true,im,Ah,aF,if_false,fL,Du,if_true,bw,ft];rw [if_pos (by omega)];omega
     . have hb':(n == i)=false:=by simpa using hin
       simp only [hb',fL,Du];have e1:(if i<n+1 then 1 else 0)=(if i<n then 1 else 0):=by
        by_cases hlt':i<n
        . rw [if_pos hlt',if_pos (by omega)]
        . rw [if_neg hlt',if_neg (by omega)]
       rw [e1];cases (!(listed.getD n false) && !(Y n))<;>simp only [aF,if_true,if_false,bw,ft]<;>omega
   have:=key al.length;rw [if_pos hil] at this;omega
  have hM1:i≠f1.i->(listed.setIfInBounds i true).getD f1.i false=listed.getD f1.i false:=fun hne=>by
   rw [hM];have:(f1.i == i)=false:=by simp;exact fun e=>hne e.symm
   rw [this,dC]
  have hM2:i≠f2.i->(listed.setIfInBounds i true).getD f2.i false=listed.getD f2.i false:=fun hne=>by
   rw [hM];have:(f2.i == i)=false:=by simp;exact fun e=>hne e.symm
   rw [this,dC]
  have hwant:Region.wanted o (yielded ops a.tmps)=true:=by simp [Region.wanted,hg i o ho]
  unfold wpOp;simp only [ho,hwant,if_true];left;have len_at:∀ (f:I0) (kk:IntKind) (n:Int),Bs P ops al bs f->f.s≠f1.d->f.s≠f2.d->fr1[f.s]?=some (.int kk n)->i=f.i->a.tmps[f.s]?=some (.int kk n):=by
   intro f kk n kf s1 s2 hn hif;have hp1:listed.getD f.p false=true:=hb f.p (by rw [hif];exact kf.src);have e:(aS (fun i=>listed.getD i false) al vs 0 fr)[f.s]?=fr1[f.s]?:=by rw [D.Lh];refine fT al vs 0 fr fr rfl rfl fun j x hx hdx=>?_;have:=kf.uniq j x hx hdx;subst this;simpa using hp1
   rw [hn] at e;obtain ⟨x,hx1,hx2⟩:=da hf e;simp only [AV.rel] at hx2;subst hx2;rw [bt,clr_get s1 s2] at hx1;exact hx1
  have made:∀ (f:I0) (kk:IntKind) (n:Int) (xs:List Value),Bs P ops al bs f->a.tmps[f.s]?=some (.int kk n)->i=f.i->f.d<a.tmps.size->
   (∀ (k:IntKind) (W:World),(Instr.makeSlice f.t (.int k n) (.int k n)).run P W=.ok (.slice (some ⟨W.heap.size,0,none⟩) n.toNat n.toNat) (W.alloc (.cells xs.toArray f.e)))->
   o.dst=some f.d/\(execOp a.eval o).run P W=.ok (.value (.slice (some ⟨W.heap.size,0,none⟩) n.toNat n.toNat)) (W.alloc (.cells xs.toArray f.e))/\ao=⟨some f.d,.mv (.const undefA),none⟩/\
    qo f xs n w0 ρ hm (a.tmps.setIfInBounds f.d (.slice (some ⟨W.heap.size,0,none⟩) n.toNat n.toNat)) (W.alloc (.cells xs.toArray f.e)) W.heap.size:=by
   intro f kk n xs kf hs hif hdl hx
   obtain ⟨o',ho',hop,hdo,hgo⟩:=kf.op
   rw [<- hif,ho] at ho'
   obtain rfl:=aw ho'
   have hal:=kf.al_
   rw [<- hif,hao] at hal
   have hev1:a.eval (.tmp f.s)=.int kk n:=by simp [Act.eval,aE,hs]
   refine ⟨hdo,?_,aw hal,?_,?_,hp.size,?_,?_⟩
   . unfold execOp
     rw [hop]
     simp only [hev1,Sem.run_bind,hx,Result.andThen_ok,Sem.run_pure]
   . simp [hdl]
   . exact heap_alloc_new W _
   . rintro ⟨j,p,c,e1,e2,e3,e4⟩
     have:=AObj.gU (hp.rel.obj j p c e1 e2) e3
     omega
   . intro x hx' e4
     obtain ⟨⟨ty,h2⟩,_⟩:=hp.rel.lits x hx'
     have:=(au.1 h2).1
     omega
  have fr_made:∀ (f:I0),ao=⟨some f.d,.mv (.const undefA),none⟩->(f.d=f1.d\/f.d=f2.d)->∀ v:Value,AV.rels ρ (aS (fun j=>(listed.setIfInBounds i true).getD j false) al vs 0 fr) (clr f1.d f2.d (a.tmps.setIfInBounds f.d v)).toList/\hm'=hm:=by
   intro f hao' hfd v;subst hao';simp only [evOper,wantedA,evAny,evOp,evOpE,AFrame.eval,ai,an] at hev;obtain ⟨e1,e2⟩:=hev;refine ⟨?_,e2.symm⟩;rw [<- e1];have e3:clr f1.d f2.d (a.tmps.setIfInBounds f.d v)=clr f1.d f2.d a.tmps:=by
    rcases hfd with e | e
    . rw [e,E0]
    . rw [e,Np]
   rw [e3];have:=put_rel (a:=clrA f1.d f2.d a) (ρ:=ρ) hf (some f.d) (fM ρ);have e4:((clrA f1.d f2.d a).put (some f.d) undef).tmps=clr f1.d f2.d a.tmps:=by
    show (clr f1.d f2.d a.tmps).setIfInBounds f.d undef=_;apply qu;intro j;simp only [clr,ji,Array.size_setIfInBounds];rcases hfd with e | e<;>rw [e]
    . by_cases e2:f2.d=j
      . subst e2;simp [hd]
      . by_cases e1:f1.d=j
        . subst e1;simp [e2]
        . simp [e1,e2]
    . by_cases e2:f2.d=j
      . subst e2;simp
      . simp [e2]
   rw [e4] at this;exact this
  cases hfi:fl i with
  | true=>
   rcases hfl i hil hfi with hi1' | hi2' | hi3
   ·
    obtain ⟨e1,e2,e3,e4⟩:=made f1 kk1 n1 xs1 k1 (len_at f1 kk1 n1 k1 hsd.1 hsd.2.1 hn1 hi1') hi1' hb1 hx1
    obtain ⟨e5,rfl⟩:=fr_made f1 e3 (.inl rfl) (.slice (some ⟨W.heap.size,0,none⟩) n1.toNat n1.toNat)
    unfold Oper.wp
    rw [e2,Oper.upon_value,e1]
    have hpg:=Post.wE hp.rel (.cells xs1.toArray f1.e)
    refine ih _ _ _ ρ hm' W.heap.size b2 (by simp [hsz]) hL' hLY' hcount' e5 hds hcur' (hp.trans hpg) (fun _=>e4) (fun hl2=>?_) (fun _ hl2=>?_) (by simpa [Act.put] using hb1) (by simpa [Act.put] using hb2)
    . rw [hM2 (by omega)] at hl2
      refine (hi2 hl2).post hpg ?_
      simp only [Act.put,aP hd]
    . rw [hM2 (by omega)] at hl2
      have:=(hi2 hl2).lt
      omega
   . obtain ⟨e1,e2,e3,e4⟩:=made f2 kk2 n2 xs2 k2 (len_at f2 kk2 n2 k2 hsd.2.2.1 hsd.2.2.2 hn2 hi2') hi2' hb2 hx2;obtain ⟨e5,rfl⟩:=fr_made f2 e3 (.inr rfl) (.slice (some ⟨W.heap.size,0,none⟩) n2.toNat n2.toNat);unfold Oper.wp;rw [e2,Oper.upon_value,e1];have hpg:=Post.wE hp.rel (.cells xs2.toArray f2.e);refine ih _ _ _ ρ hm' b1 W.heap.size (by simp [hsz]) hL' hLY' hcount' e5 hds hcur' (hp.trans hpg) (fun hl1=>?_) (fun _=>e4) (fun hl1 _=>?_) (by simpa [Act.put] using hb1) (by simpa [Act.put] using hb2)
     . rw [hM1 (by omega)] at hl1;refine (hi1 hl1).post hpg ?_;simp only [Act.put,aP (aY hd)]
     . rw [hM1 (by omega)] at hl1;have:=(hi1 hl1).lt;omega
   . rw [hYi] at hi3;cases hi3
  | false=>
   obtain ⟨a0,hc0,hao0⟩:=hcomp hfi;obtain ⟨dn1,dn2⟩:=hdst i o ho hfi;simp only [fF] at hc0;split at hc0;case h_2=>cases hc0
   rename_i op g hop hgg;cases hc0;have hao2:ao.dst=o.dst/\ao.guard=g/\(ao.op=op\/ao.op=uF op):=by
    rcases hao0 with rfl | rfl
    . exact ⟨rfl,rfl,.inl rfl⟩
    . exact ⟨rfl,rfl,.inr rfl⟩
   obtain ⟨e1,e2,e3⟩:=hao2
   have hop':∃ a0,jD P G o=some a0/\(ao.op=a0\/ao.op=uF a0):=⟨op,hop,e3⟩
   rw [hg i o ho] at hgg;simp only [nJ,ai] at hgg;rw [<- hgg] at e2;unfold evOper at hev;rw [e1,e2] at hev;simp only [wantedA] at hev;split at hev;case h_2=>cases hev
   rename_i v g2 hv;simp only [ai,an] at hev;obtain ⟨e4,rfl⟩:=hev;refine Al (hcl i o ho hfi a) (any_sound (a:=clrA f1.d f2.d a) hcall hf hp.rel hop' hv fun ρ' x W' hx hp'=>⟨⟨x,rfl⟩,fun v' hv'=>?_⟩);have hfr':=put_rel (a:=clrA f1.d f2.d a) (frame_mono hp'.le hf) o.dst hx;rw [e4,hv'] at hfr';have hclr:((clrA f1.d f2.d a).put o.dst v').tmps=clr f1.d f2.d (a.put o.dst v').tmps:=by
    cases hdo:o.dst with
    | none=>rfl
    | some d=>rw [hdo] at dn1 dn2;show (clr f1.d f2.d a.tmps).setIfInBounds d v'=clr f1.d f2.d (a.tmps.setIfInBounds d v');rw [IM (fun e=>dn1 (by rw [e])) (fun e=>dn2 (by rw [e]))]
   rw [hclr] at hfr';have keep1:(a.put o.dst v').tmps[f1.d]?=a.tmps[f1.d]?:=by
    cases hdo:o.dst with
    | none=>rfl
    | some d=>rw [hdo] at dn1;exact aP (fun e=>dn1 (by rw [e]))
   have keep2:(a.put o.dst v').tmps[f2.d]?=a.tmps[f2.d]?:=by
    cases hdo:o.dst with
    | none=>rfl
    | some d=>rw [hdo] at dn2;exact aP (fun e=>dn2 (by rw [e]))
   have hne1:i≠f1.i:=fun e=>by rw [e,hf1] at hfi;cases hfi
   have hne2:i≠f2.i:=fun e=>by rw [e,hf2] at hfi;cases hfi
   have hsz':(a.put o.dst v').tmps.size=a.tmps.size:=by cases o.dst<;>simp [Act.put]
   refine ih _ _ _ ρ' g2 b1 b2 (by simp [hsz]) hL' hLY' hcount' hfr' ((D8 _ _ _).trans hds) hcur' (hp.trans hp') (fun hl=>?_) (fun hl=>?_) (fun hl1 hl2=>?_) (by rw [hsz'];exact hb1) (by rw [hsz'];exact hb2)
   . rw [hM1 hne1] at hl;exact (hi1 hl).post hp' keep1
   . rw [hM2 hne2] at hl;exact (hi2 hl).post hp' keep2
   . rw [hM1 hne1] at hl1;rw [hM2 hne2] at hl2;exact hi12 hl1 hl2
end
end
section
variable {P:Program} {G:Nat} {call:cT} {ops:Array Oper} {Q:Exit->Act->World->Prop}
theorem GL (hcall:gx P G call) {Y:Nat->Bool} {bs:List (List Nat)} (hlen:l.length=ops.size)
 (hcomp:∀ (i:Nat) o,ops[i]?=some o->∃ ao,l[i]?=some ao/\∃ a0,fF P G ops o=some a0/\(ao=a0\/ao=j8 a0))
 (hedge:∀ (i:Nat) (o:Oper),ops[i]?=some o->∀ e∈o.after,Region.binds .any e=true->e.on<i/\e.on∈bs.getD i [])
 (hfrom:∀ (i:Nat) (o:Oper),ops[i]?=some o->∀ j∈bs.getD i [],j<i/\∃ e∈o.after,Region.binds .any e=true/\(e.on=j\/j∈bs.getD e.on []))
 (hY:∀ y i,Y y=true->y<ops.size->i<ops.size->(Y i=true/\y<=i)\/i∈bs.getD y []) (hnoY:∀ i k,i<ops.size->Y i=false->Y k=true->k∈bs.getD i []->False) :
 ∀ (m k:Nat) (listed:Array Bool),ops.size-k<=m->(∀ i,i<ops.size->listed.getD i false=(!Y i || decide (i<k)))->listed.size=ops.size->
  ∀ {ρ ρ0:eM} {h0 h h':AHeap} {w0 w:World} {fr fr':AFrame} {a:Act} {ds:List Deferred},AV.rels ρ fr a.tmps.toList->a.defers=ds->Post G ρ0 h0 w0 ρ h w->
   evOps call (((List.range' k (ops.size-k)).filter Y).filterMap fun i=>l[i]?) fr h=some (fr',h')->
   (∀ ρ' a' w',AV.rels ρ' fr' a'.tmps.toList->a'.defers=ds->Post G ρ0 h0 w0 ρ' h' w'->Q .normal a' w')->∀ fuel,((List.range' k (ops.size-k)).filter Y).length<=fuel->wpAny P .any ops Q fuel listed a w:=by
 intro m
 induction m with
 | zero=>
  intro k listed hk hli hsz ρ ρ0 h0 h h' w0 w fr fr' a ds hf hds hp he hQ fuel hfuel;have:ops.size-k=0:=by omega
  rw [this] at he;simp [List.range'_zero,wC,List.filterMap_nil,evOps,ai,an] at he;obtain ⟨rfl,rfl⟩:=he;have hno:Region.ready .any ops listed=[]:=by
   cases hrd:Region.ready .any ops listed with
   | nil=>rfl
   | cons i r=>
    exfalso;have hmem:i∈Region.ready .any ops listed:=by rw [hrd];simp
    have ⟨h1,o,ho,_⟩:=mem_ready.1 hmem;have hi:=(au.1 ho).1;have h2:=hli i hi;have:i<k:=by omega
    simp [this,decide_true,vK] at h2;have hlt:i<listed.size:=by omega
    simp [aE,bU hlt,dI] at h1 h2;rw [h1] at h2;cases h2
  have hq:=hQ ρ a w hf hds hp
  cases fuel with
  | zero=>exact ⟨hno,hq⟩
  | succ fuel=>exact ⟨fun _=>hq,fun i hi=>by rw [hno] at hi;cases hi⟩
 | succ m ih=>
  intro k listed hk hli hsz ρ ρ0 h0 h h' w0 w fr fr' a ds hf hds hp he hQ fuel hfuel;by_cases hks:ops.size<=k
  . exact ih k listed (by omega) hli hsz hf hds hp he hQ fuel hfuel
  have hk1:ops.size-k=(ops.size-(k+1))+1:=by omega
  rw [hk1,List.range'_succ] at he hfuel
  cases hYk:Y k with
  | false=>
   simp [bZ,hYk,aF,if_false] at he hfuel;refine ih (k+1) listed (by omega) (fun i hi=>?_) hsz hf hds hp he hQ fuel hfuel;rw [hli i hi];by_cases hik:i=k
   . subst hik;rw [hYk];rfl
   . have:decide (i<k)=decide (i<k+1):=by rw [decide_eq_decide];omega
     rw [this]
  | true=>
   simp [bZ,hYk,if_true,List.filterMap_cons,bn] at he hfuel
   obtain ⟨o,ho⟩:∃ o,ops[k]?=some o:=⟨ops[k]'(by omega),by simp [show k<ops.size by omega]⟩
   have ⟨ao,hao,hc⟩:=hcomp k o ho;rw [hao] at he;simp [evOps] at he;split at he;case h_2=>cases he
   rename_i fr2 h2 hev
   cases fuel with
   | zero=>omega
   | succ fuel=>
    have hlk:listed.getD k false=false:=by rw [hli k (by omega),hYk];simp
    have hkl:k<listed.size:=by omega
    have hready:k∈Region.ready .any ops listed:=by
     rw [mem_ready];refine ⟨?_,o,ho,fun e he' hb=>?_⟩
     . simp [aE,bU hkl,dI] at hlk ⊢;exact hlk
     . have h1:=(hedge k o ho e he' hb).1;have:=hli e.on (by omega);rw [this,decide_eq_true h1,vK]
    refine ⟨fun hno=>(by rw [hno] at hready;cases hready),fun i hi=>?_⟩;have hik:i=k:=by
     have ⟨h1,o',ho',hed⟩:=mem_ready.1 hi;have hil:=(au.1 ho').1;have hlt:i<listed.size:=by omega
     have hni:listed.getD i false=false:=by simp [aE,bU hlt,dI] at h1 ⊢;exact h1
     have h2:=hli i hil;rw [hni] at h2;have h3:Y i=true/\¬ i<k:=by cases hYi:Y i<;>simp [hYi] at h2 ⊢;exact h2
     rcases bH k i with hlt2 | hge
     . exfalso;have hmem:k∈bs.getD i []:=by
        rcases hY i k h3.1 hil (by omega) with ⟨_,h4⟩ | h4
        . omega
        . exact h4
       have key:∀ n j oj,ops[j]?=some oj->j<=n->k∈bs.getD j []->(∀ e∈oj.after,Region.binds .any e=true->listed.getD e.on false=true)->False:=by
        intro n
        induction n with
        | zero=>intro j oj hoj hjn hk' hed';have:=(hfrom j oj hoj k hk').1;omega
        | succ n ihn=>
         intro j oj hoj hjn hk' hed';have ⟨hkj,e,he1,he2,he3⟩:=hfrom j oj hoj k hk';have hle:=hed' e he1 he2;rcases he3 with rfl | he3
         . rw [hlk] at hle;cases hle
         . have hej:=(hedge j oj hoj e he1 he2).1;have hes:e.on<ops.size:=by have:=(au.1 hoj).1;omega
           have:=hli e.on hes;rw [hle] at this;have hke:k<e.on:=(hfrom e.on (ops[e.on]'hes) (by simp [hes]) k he3).1;have hYe:Y e.on=false:=by
            have hd:decide (e.on<k)=false:=by simp;omega
            rw [hd,dC] at this;simpa using this.symm
           exact hnoY e.on k hes hYe hYk he3
       exact key i i o' ho' (aq _) hmem hed
     . omega
    subst hik;refine qR hcall hf hp.rel ho hc hev fun ρ' a' w' hf' hd' hp'=>?_;refine ih (i+1) _ (by omega) (fun j hj=>?_) (by simp [hsz]) hf' (hd'.trans hds) (hp.trans hp') he hQ fuel (by omega);by_cases hij:i=j
    . subst hij;have e0:(listed.setIfInBounds i true).getD i false=true:=by simp [hkl]
      rw [e0,decide_eq_true (Nat.lt_succ_self i),vK]
    . have e1:(listed.setIfInBounds i true).getD j false=listed.getD j false:=by simp [aE,aP hij]
      have e2:decide (j<i+1)=decide (j<i):=by rw [decide_eq_decide];omega
      rw [e1,hli j hj,e2]
theorem qo.QF {hm:AHeap} {W:World} {b1:Nat} (x:qo f xs n w0 ρ hm tmps W b) (hl:ρ.addr.length=hm.objs.length) (hne:b≠b1) (o:AObj) :
 qo f xs n w0 ⟨ρ.addr++[⟨b1,0,none⟩],ρ.cap,ρ.lit⟩ (hm.push o) tmps W b:=by
 refine ⟨x.slot,x.cells,x.new,?_,x.nolit⟩;rintro ⟨j,p,c,h1,h2,h3,h4⟩;rcases dm h1 with h1 | ⟨hj,_⟩
 . have hlt:=(aa.1 h1).1;rw [ay (by omega)] at h2;exact x.free ⟨j,p,c,h1,h2,h3,h4⟩
 . rw [aB (by omega)] at h2;have:j-ρ.addr.length=0:=by omega
   rw [this] at h2;simp at h2;subst h2;exact hne h4.symm
theorem yj (h:IF P ops l i=some f):f.i=i/\l[i]?=some ⟨some f.d,.mkslice f.sz f.by_ f.z (.tmp f.s) (.tmp f.s),none⟩/\(∃ o,ops[i]?=some o/\o.op=.makeSlice f.t (.tmp f.s) (.tmp f.s))/\P.underlying f.t=some (.slice f.e):=by
 unfold IF at h;split at h;case h_2=>cases h
 rename_i d sz by_ z s s' o h1 h2;split at h;case h_2=>cases h
 rename_i t a b ho;split at h;case h_2=>cases h
 rename_i e a' b' hu ha hb;split at h;case isFalse=>cases h
 rename_i hss;obtain ⟨rfl,rfl,rfl⟩:=hss;simp [ae] at h;obtain ⟨p,hp,rfl⟩:=h;have ta:∀ (x:Operand) (k:Nat),tmpOf x=some k->x=.tmp k:=by intro x k hx;cases x<;>simp [tmpOf] at hx;subst hx;rfl
 rw [ta a _ ha,ta b _ hb] at ho;exact ⟨rfl,h1,⟨o,h2,ho⟩,hu⟩
theorem fY {call:cT} {o:aK} {fr:AFrame} {h:AHeap} (e:evOps call (o::l) fr h=some (fr',h')):∃ fr1 h1,evOper call o fr h=some (fr1,h1)/\evOps call l fr1 h1=some (fr',h'):=by
 simp [evOps] at e;split at e
 . exact ⟨_,_,by assumption,e⟩
 . cases e
theorem II {call:cT} {s sz by_:Nat} {z:List AV} {fr:AFrame} {h:AHeap} (e:evOper call ⟨some d,.mkslice sz by_ z (.tmp s) (.tmp s),none⟩ fr h=some (fr',h')) :
 ∃ k n,fr[s]?=some (.int k n)/\0<=n/\n*by_<=bigA/\n<=bigA/\fr'=fr.set d (.slice h.objs.length 0 n.toNat (.exact n.toNat))/\h'=h.push (Qc (rep n.toNat z) none):=by
 simp [evOper,wantedA,evAny,evOp,evOpE] at e;cases hv:AFrame.eval fr (.tmp s) with
 | int k n=>
  rw [hv] at e;simp only at e;split at e
  . rename_i hc;split at hc;case isFalse=>cases hc
    rename_i hcond;cases hc;simp [ai,an] at e;refine ⟨k,n,?_,hcond.1,hcond.2.2.1,hcond.2.2.2.1,e.1.symm,e.2.symm⟩;simp [AFrame.eval,aO] at hv;cases hs:fr[s]? with
    | none=>rw [hs] at hv;cases hv
    | some v=>rw [hs] at hv;simpa using hv
  . cases e
 | _=>rw [hv] at e;simp at e
theorem Nf {call:cT} {fr:AFrame} {h:AHeap} (e:evOper call ⟨none,.lenS (.tmp d),none⟩ fr h=some (fr',h')):fr'=fr/\h'=h/\d<fr.length:=by
 simp [evOper,wantedA,evAny,evOp,evOpE] at e;cases hv:(AFrame.eval fr (.tmp d)).gP with
 | none=>rw [hv] at e;simp at e
 | some n=>rw [hv] at e;simp [ai,an,AFrame.putD] at e;refine ⟨e.1.symm,e.2.symm,?_⟩;apply cU;intro hn;simp [AFrame.eval,aO] at hv;rw [aV (by omega)] at hv;simp [undefA,AV.gP] at hv
theorem kW {Y:Nat->Bool} {f1 f2:I0} {a:aK} (h:l[i]?=some a) :
 (pA l Y f1 f2)[i]?=some (if i == f1.i then ⟨some f1.d,.mv (.const undefA),none⟩ else if i == f2.i then ⟨some f2.d,.mv (.const undefA),none⟩ else if Y i then ⟨none,.mv (.const undefA),none⟩ else a):=by
 simp [pA,h]
theorem xJ (p:Nat->Bool):∀ l:List Nat,(l.filter p).length+(l.filter fun x=>!p x).length=l.length
 | []=>rfl
 | x::l=>by have:=xJ p l;simp [bZ];cases p x<;>simp<;>omega
theorem vF (hcall:gx P G call) {id:Nat} {c:ACode} {x:iD} {fr:AFrame} {h:AHeap} {w:World} (hl:fO P G ops ops.toList=some l) (hc:ui P ops l=some c)
 (he:evCode call c fr h=some (x,fr',h')) (hf:AV.rels ρ fr a.tmps.toList) (r:fw G ρ h w) :
 x=.normal/\((∀ ρ' a' w',AV.rels ρ' fr' a'.tmps.toList->a'.defers=a.defers->Post G ρ h w ρ' h' w'->Q .normal a' w')->(Code.region id ops true).wp P Q a w):=by
 unfold ui at hc
 simp only at hc
 split at hc
 case h_2=>cases hc
 rename_i i1 i2 hidx
 split at hc
 case h_2=>cases hc
 rename_i f1 f2 hfa1 hfa2
 split at hc
 case isFalse=>cases hc
 rename_i hok
 generalize hY:(fun y=>((befores ops.toList []).getD y []).contains i1)=Y at *
 generalize hbs:befores ops.toList []=bs at *
 generalize hal:pA l Y f1 f2=al at *
 cases hc
 rw [evCode] at he
 have hpre:evCode call (.region [⟨some f1.d,.mv (.const undefA),none⟩,⟨some f2.d,.mv (.const undefA),none⟩]) fr h=some (.normal,(fr.set f1.d undefA).set f2.d undefA,h):=rfl
 rw [hpre] at he
 obtain ⟨fr0,hfr0⟩:∃ fr0,fr0=(fr.set f1.d undefA).set f2.d undefA:=⟨_,rfl⟩
 simp only [<- hfr0] at he
 simp only [evCode] at he
 split at he
 case h_2=>
  rename_i hno
  cases x with
  | normal=>exact (hno _ _ he).elim
  | _=>
   split at he
   . split at he<;>cases he
   . cases he
 rename_i fr1' h1' hdr
 split at hdr
 case h_2=>cases hdr
 rename_i fr1 h1 sns ms hev
 split at hdr
 case isFalse=>cases hdr
 rename_i hst
 simp only [ai,an,true_and] at hdr
 obtain ⟨rfl,rfl⟩:=hdr
 split at he
 case h_2=>cases he
 rename_i fr2 h2 hev2
 simp only [ai,an] at he
 obtain ⟨rfl,rfl,rfl⟩:=he
 refine ⟨rfl,fun hQ=>?_⟩
 obtain ⟨fa,ha,e1,hev2⟩:=fY hev2
 obtain ⟨fb,hb,e2,hev2⟩:=fY hev2
 obtain ⟨fc,hc',e3,hev2⟩:=fY hev2
 obtain ⟨fd,hd',e4,hev2⟩:=fY hev2
 obtain ⟨kk1,n1,hn1,p1,p2,p3,rfl,rfl⟩:=II e1
 obtain ⟨kk2,n2,hn2,q1,q2,q3,rfl,rfl⟩:=II e2
 obtain ⟨rfl,rfl,hd1⟩:=Nf e3
 obtain ⟨rfl,rfl,hd2⟩:=Nf e4
 simp only [bV] at hd1 hd2
 simp only [IG,aA,bne_iff_ne,ne_eq,fQ] at hok
 obtain ⟨⟨⟨⟨⟨⟨⟨⟨⟨⟨⟨⟨⟨⟨c1,c2⟩,c3⟩,c4⟩,c5⟩,c6⟩,c7⟩,c8⟩,c9⟩,c10⟩,c11⟩,c12⟩,c13⟩,c14⟩,c15⟩:=hok
 obtain ⟨s1,s2,⟨o1,s3,s4⟩,s5⟩:=yj hfa1
 obtain ⟨t1,t2,⟨o2,t3,t4⟩,t5⟩:=yj hfa2
 obtain ⟨hlen,hget⟩:=kc hl
 simp only [dD] at hlen
 have hall:al.length=ops.size:=by rw [<- hal];simp [pA,hlen]
 have chk:∀ (i:Nat) (o:Oper) (a:aK),ops[i]?=some o->l[i]?=some a->o.guard=none/\a.guard=none/\a.dst=o.dst/\(i=f1.i\/i=f2.i\/Y i=true\/((∀ x∈o.op.operands.toList,isTmp f1.d x=false/\isTmp f2.d x=false)/\o.dst≠some f1.d/\o.dst≠some f2.d)):=by
  intro i o a ho ha;have:=aQ.1 c11 i (dq.2 (au.1 ho).1);rw [ho,ha] at this;simp only [aA,Option.isNone_iff_eq_none,cw,beq_iff_eq,bne_iff_ne,ne_eq,aQ,fQ] at this;obtain ⟨⟨⟨g1,g2⟩,g3⟩,g4⟩:=this;refine ⟨g1,g2,g3,?_⟩;rcases g4 with ((g4 | g4) | g4) | g4
  . exact .inl g4
  . exact .inr (.inl g4)
  . exact .inr (.inr (.inl g4))
  . exact .inr (.inr (.inr ⟨fun x hx=>g4.1.1 x hx,g4.1.2,g4.2⟩))
 have getl:∀ (i:Nat) (o:Oper),ops[i]?=some o->∃ ao,l[i]?=some ao/\fF P G ops o=some ao:=fun i o ho=>hget i o (by simpa using ho)
 have mkF:∀ (f:I0) (o:Oper),l[f.i]?=some ⟨some f.d,.mkslice f.sz f.by_ f.z (.tmp f.s) (.tmp f.s),none⟩->ops[f.i]?=some o->o.op=.makeSlice f.t (.tmp f.s) (.tmp f.s)->P.underlying f.t=some (.slice f.e)->IE P al bs f=true->al[f.i]?=some ⟨some f.d,.mv (.const undefA),none⟩->Bs P ops al bs f:=by
  intro f o hl' ho hop hu hk hal';obtain ⟨g1,_,g3,_⟩:=chk f.i o _ ho hl';simp only [IE,aA,beq_iff_eq,fu,aQ,dq] at hk;obtain ⟨⟨⟨⟨⟨k1,k2⟩,k3⟩,k4⟩,k5⟩,k6⟩:=hk;refine ⟨⟨o,ho,hop,g3.symm,g1⟩,hu,k1,k2,?_,k4,hal',k5,fun j o' hj hd=>?_⟩
  . split at k3
    . rename_i z hz;rw [hz,(AV.tj _ _).1 k3]
    . cases k3
  . have:=k6 j (aa.1 hj).1;rw [hj] at this;simpa [hd] using this
 have al1:al[f1.i]?=some ⟨some f1.d,.mv (.const undefA),none⟩:=by rw [<- hal,s1,kW s2];simp [s1]
 have al2:al[f2.i]?=some ⟨some f2.d,.mv (.const undefA),none⟩:=by
  rw [<- hal,t1,kW t2];have:(i2 == f1.i)=false:=by simp;rw [<- t1];exact fun e=>c4 e.symm
  simp [t1,this]
 have K1:=mkF f1 o1 (by rw [s1];exact s2) (by rw [s1];exact s3) s4 s5 c1 al1
 have K2:=mkF f2 o2 (by rw [t1];exact t2) (by rw [t1];exact t3) t4 t5 c2 al2
 obtain ⟨fl,hfl⟩:∃ fl:Nat->Bool,fl=fun i=>i == f1.i || i == f2.i || Y i:=⟨_,rfl⟩
 have fl_no:∀ i,fl i=false->i≠f1.i/\i≠f2.i/\Y i=false:=by intro i h;rw [hfl] at h;simp only [hH,beq_eq_false_iff_ne,ne_eq] at h;exact ⟨h.1.1,h.1.2,h.2⟩
 obtain ⟨sn,D⟩:=ug (G:=G) (fl:=fl) (P:=P) (ops:=ops) (al:=al) (bs:=bs) hall (fun i o ho=>by
  obtain ⟨ao,g1,g2⟩:=getl i o ho;have:=kW (Y:=Y) (f1:=f1) (f2:=f2) g1;rw [hal] at this;refine ⟨_,this,fun hfi=>⟨ao,g2,.inl ?_⟩⟩;obtain ⟨x1,x2,x3⟩:=fl_no i hfi
  simp [x1,x2,x3]) c14 hev hst
 have hYl:∀ (y:Nat) (o:aK),al[y]?=some o->Y y=true->o.dst=none/\isLoud o=false:=by
  intro y o ho hy;have hyl:y<l.length:=by rw [hlen,<- hall];exact (aa.1 ho).1
  have:=kW (Y:=Y) (f1:=f1) (f2:=f2) (ah hyl);rw [hal,ho] at this;have n1':(y == f1.i)=false:=by simp;rintro rfl;rw [hy] at c9;cases c9
  have n2':(y == f2.i)=false:=by simp;rintro rfl;rw [hy] at c10;cases c10
  simp only [n1',n2',hy,if_true,aF,if_false,ai] at this;subst this;exact ⟨rfl,rfl⟩
 have hYb:∀ y i,Y y=true->y<ops.size->i<ops.size->(Y i=true/\y<=i)\/i∈bs.getD y []:=by intro y i hy hyl hil;have:=aQ.1 c12 y (dq.2 hyl);simp only [hy,im,Dt,aQ,dq,cw,aA,decide_eq_true_eq,fu] at this;exact this i hil
 have hnoY:∀ i k,i<ops.size->Y i=false->Y k=true->k∈bs.getD i []->False:=by intro i k hil hi hk hm;have:=aQ.1 c13 i (dq.2 hil);simp only [hi,Dt,aQ,fQ] at this;rw [this k hm] at hk;cases hk
 obtain ⟨xs1,x1,y1⟩:=ID K1 p1 p2 p3
 obtain ⟨xs2,x2,y2⟩:=ID K2 q1 q2 q3
 have hn2':fr1[f2.s]?=some (.int kk2 n2):=by rw [aj (aY c7)] at hn2;exact hn2
 have hfl1:fr1.length=fr.length:=by rw [D.Lh,gu,hfr0];simp
 have htl:a.tmps.size=fr.length:=by simpa using br hf
 obtain ⟨m,hm⟩:∃ m,m=((List.range' 0 (ops.size-0)).filter Y).length:=⟨_,rfl⟩
 refine wp_region_any c15 ?_
 have hnone:∀ i,(Array.replicate ops.size false).getD i false=false:=by intro i;simp only [aE,td];split<;>rfl
 have hL:jH al bs (fun i=>(Array.replicate ops.size false).getD i false):=⟨fun i hi=>absurd ((hnone i).symm.trans hi) (by simp),fun i hi=>absurd ((hnone i).symm.trans hi) (by simp)⟩
 have hcnt:((List.range al.length).filter fun i=>!((Array.replicate ops.size false).getD i false) && !(Y i)).length+m=ops.size:=by
  have e:((List.range al.length).filter fun i=>!((Array.replicate ops.size false).getD i false) && !(Y i))=(List.range ops.size).filter fun i=>!(Y i):=by rw [hall];apply List.filter_congr;intro i _;rw [hnone];rfl
  rw [e,hm,pM,<- Af,j5];have:=xJ Y (List.range ops.size);rw [HO] at this;omega
 have main:=ER (Q:=Q) D hcall f1 f2 K1 K2 c3 c4 ⟨c5,c6,c7,c8⟩ (Y:=Y) (fun i hi h=>by rw [hfl] at h;simp only [cw,beq_iff_eq] at h;rcases h with (h | h) | h;exact .inl h;exact .inr (.inl h);exact .inr (.inr h))
  (by rw [hfl];simp) (by rw [hfl];simp) ⟨c9,c10⟩ hYl (fun y hy hyl i hil hi=>by
   rcases hYb y i hy (by omega) (by omega) with ⟨h1,_⟩ | h1
   . rw [hi] at h1;cases h1
   . exact h1)
  (fun i o ho=>by obtain ⟨ao,g1,_⟩:=getl i o ho;exact (chk i o ao ho g1).1)
  (fun i o ho hfi=>by
   obtain ⟨ao,g1,_⟩:=getl i o ho;obtain ⟨z1,z2,z3⟩:=fl_no i hfi;rcases (chk i o ao ho g1).2.2.2 with h | h | h | h
   . exact absurd h z1
   . exact absurd h z2
   . rw [z3] at h;cases h
   . exact ⟨h.2.1,h.2.2⟩)
  (fun i o ho hfi b=>by
   obtain ⟨ao,g1,g2⟩:=getl i o ho;obtain ⟨z1,z2,z3⟩:=fl_no i hfi;have hop:∀ x∈o.op.operands.toList,isTmp f1.d x=false/\isTmp f2.d x=false:=by
    rcases (chk i o ao ho g1).2.2.2 with h | h | h | h
    . exact absurd h z1
    . exact absurd h z2
    . rw [z3] at h;cases h
    . exact h.1
   refine execOp_congr o (fun cs bl hs=>?_) fun x hx=>?_
   . simp [fF,jD,hs] at g2
   . obtain ⟨u1,u2⟩:=hop x (by simpa using hx)
     cases x with
     | tmp t=>simp only [isTmp,beq_eq_false_iff_ne,ne_eq] at u1 u2;simp only [Act.eval,clrA,aE,clr_get u1 u2]
     | _=>rfl)
  hn1 hn2' y1 y2 (ρ0:=ρ) (w0:=w) (ds:=a.defers) (m:=m) ?hend
 case hend=>
  intro fuel listed a' W ρ1 b1 b2 hsz hli hfr hds hp F1 F2 hb12 hs1 hs2;have r1:=hp.rel;have hfl2:fr1.length=a'.tmps.size:=by have:=br hfr;simp [clr] at this;omega
  have A1:=Post.FB hp F1 (x1 ρ1);have F2':=F2.QF r1.jK (aY hb12) (.cells false (rep n1.toNat f1.z) none);have A2:=Post.FB A1 F2' (x2 _);refine GL (l:=l) (Y:=Y) (bs:=bs) hcall hlen (fun i o ho=>by obtain ⟨ao,g1,g2⟩:=getl i o ho;exact ⟨ao,g1,ao,g2,.inl rfl⟩) D.QB D.from_ hYb hnoY ops.size 0 listed (by omega) (fun i hi=>by rw [hli i hi];simp) hsz (ds:=a.defers) ?_ hds A2 (by rw [pM,<- Af,<- hlen];exact hev2) (fun ρ' a'' w' g1 g2 g3=>hQ ρ' a'' w' g1 g2 g3) (fuel+m) (by rw [<- hm];omega)
  have hle:ρ1.le ⟨(ρ1.addr++[⟨b1,0,none⟩])++[⟨b2,0,none⟩],ρ1.cap,ρ1.lit⟩:=⟨⟨[⟨b1,0,none⟩,⟨b2,0,none⟩],by simp⟩,⟨[],by simp⟩,⟨[],by simp⟩⟩
  refine pV (by simp;omega) fun j v hv=>?_;have hjl:j<fr1.length:=by have:=(aa.1 hv).1;simpa using this
  by_cases hj2:f2.d=j
  . subst hj2;rw [ax (by simp;omega)] at hv;obtain rfl:=aw hv;refine ⟨_,by rw [bt];exact F2.slot,?_⟩;simp only [AV.rel];refine ⟨⟨b2,0,none⟩,n2.toNat,?_,rfl,.inl rfl⟩;have:(h1.push (.cells false (rep n1.toNat f1.z) none)).objs.length=(ρ1.addr++[(⟨b1,0,none⟩:Addr)]).length:=by simp [AHeap.push,r1.jK]
    rw [this,aB (aq _)];simp
  . rw [aj hj2] at hv;by_cases hj1:f1.d=j
    . subst hj1;rw [ax (by omega)] at hv;obtain rfl:=aw hv;refine ⟨_,by rw [bt];exact F1.slot,?_⟩;simp only [AV.rel];refine ⟨⟨b1,0,none⟩,n1.toNat,?_,rfl,.inl rfl⟩;rw [<- r1.jK];simp
    . rw [aj hj1] at hv;obtain ⟨y,z1,z2⟩:=da hfr hv;rw [bt,clr_get (aY hj1) (aY hj2)] at z1;exact ⟨y,by rw [bt];exact z1,AV.gT hle _ _ z2⟩
 have:=main (ops.size-m) (Array.replicate ops.size false) a {w with drawn:=w.drawn+1} ρ h 0 0 (by simp) hL (fun y _=>hnone y) (by omega) ?_ rfl ?_ ?_ (fun hh=>by rw [hnone] at hh;cases hh) (fun hh=>by rw [hnone] at hh;cases hh) (fun hh=>by rw [hnone] at hh;cases hh) (by omega) (by omega)
 . rw [Nat.sub_add_cancel (by omega)] at this
   exact this
 . rw [iH al _ 0 fr0 fun i _=>hnone i,hfr0]
   have g1:=put_rel (a:=a) hf (some f1.d) (fM ρ)
   exact put_rel (a:=a.put (some f1.d) undef) g1 (some f2.d) (fM ρ)
 . have:(louds al 0).countP (fun i=>(Array.replicate ops.size false).getD i false)=0:=by rw [oS];intro j _;rw [hnone];simp
   rw [this];rfl
 . exact Post.drew r
end
end
end Go.Proofs.YtblhcbmcbhoeiaaGreatDoor.Ev
