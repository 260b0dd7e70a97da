/- Part 2 of the proof. -/
import Derived.Test.YtblhcbmcbhoeiaaGreatDoorPkA
import Derived.Scope
import Derived.Below
import Derived.Deep.Slices
import Derived.ChangeArms
import Derived.OpenShut
import Derived.LaidMore
import Derived.LaidByTextLater
import Derived.Test.YtblhcbmcbhoeiaaGreatDoorChecked
import Derived.KernelRfl
import Derived.Laws.Externs
import Derived.MapKept
import Derived.WalkKit
import Derived.Maps.RangeRun
import Derived.Maps.RangeWalk
import Derived.Laws.IdiomRangeMap
import Derived.OwnWalkIn
import Derived.TacticsInMore
import Derived.LoopN
import Derived.Sort.MapsRangeIn
import Derived.RangeFuncNested
import Derived.RangeFuncBound
import Derived.RangeFuncCalls
import Derived.RangeFuncLeaves
import Derived.RangeFuncBox
import Derived.Maps.AppendAt
import Derived.LoopNIn
import Derived.LoopIn
import Derived.Maps.Own
import Derived.Sort.AssemblyPlain
import Derived.Sort.LotD5
set_option linter.all false
set_option maxRecDepth 100000
namespace Go.Proofs.YtblhcbmcbhoeiaaGreatDoor.Ev
open Go
section
variable {fr fr':AFrame} {h':AHeap} {f:XI} {l:List aK}
structure Bt (d:Nat) (t:TypeId) (xs:List Value) (w0:World) (ρ:eM) (hm:AHeap) (tmps:Array Value) (W:World) (b:Nat):Prop where
 slot:tmps[d]?=some (.pointer (some ⟨b,0,none⟩))
 cells:W.heap[b]?=some (.cells xs.toArray t (0,0))
 new:w0.heap.size<=b
 free:¬ px ρ hm b
 nolit:∀ x∈ρ.lit,x.1≠b
section
variable {P:Program} {G:Nat} {call:cT} {ops:Array Oper} {Q:Exit->Act->World->Prop}
variable {d:Nat} {t:TypeId} {xs:List Value} {w0 W W':World} {ρ ρ' ρ0:eM} {h hm hm':AHeap} {tmps tmps':Array Value} {b:Nat}
theorem Bt.post (x:Bt d t xs w0 ρ hm tmps W b) (hp:Post G ρ hm W ρ' hm' W') (hd:tmps'[d]?=tmps[d]?):Bt d t xs w0 ρ' hm' tmps' W' b:=by
 have hlt:=(au.1 x.cells).1;refine ⟨hd.trans x.slot,(hp.keep b hlt fun ho=>x.free (mO ho)).trans x.cells,x.new,fun hl=>?_,fun y hy e=>?_⟩
 . rcases hp.te b hl with h1 | h1
   . exact x.free h1
   . omega
 . rcases hp.lu y hy with h1 | h1
   . exact x.nolit y h1 e
   . omega
theorem Bt.FB (hp:Post G ρ0 h w0 ρ hm W) (x:Bt d t xs w0 ρ hm tmps W b) {cs:List AV} (hc:AV.rels ρ cs xs):Post G ρ0 h w0 ⟨ρ.addr++[⟨b,0,none⟩],ρ.cap,ρ.lit⟩ (hm.push (Qc cs none)) W:=
 Post.FB hp (f:={(default:I0) with d:=d+tmps.size,e:=t}) (n:=0) (tmps:=Array.replicate (d+tmps.size+1) (.slice (some ⟨b,0,none⟩) 0 0)) (xs:=xs) ⟨by simp,x.cells,x.new,x.free,x.nolit⟩ hc
theorem J4 {o o':AObj}:(h.push o).put h.objs.length o'=h.push o':=by simp [AHeap.push,AHeap.put]
theorem KD {fl:Nat->Bool} {al:List aK} {bs:List (List Nat)} {fr1:AFrame} {h h1:AHeap} {vs:List AV} {sn:List AHeap} (D:jY fl P G call ops al bs fr fr1 h h1 vs sn) (hcall:gx P G call) (f:XI)
 (hfl:∀ i,fl i=true->i=f.i1\/i=f.i2) (hf1:fl f.i1=true) (hf2:fl f.i2=true) (hne:f.i1≠f.i2)
 (l2:f.i2<al.length) (h12:f.i1∈bs.getD f.i2 [])
 (o1:∃ o,ops[f.i1]?=some o/\o.op=.alloc f.t/\o.dst=some f.d)
 (o2:∃ o,ops[f.i2]?=some o/\o.dst=none/\jD P G o=some (.store f.n (.tmp f.d) f.x))
 (hn:f.n=f.z.length) (hx:opdIs f.d f.x=false) (hz:zeroT P f.t=some f.z)
 (a1:al[f.i1]?=some ⟨some f.d,.mv (.const undefA),none⟩) (a2:al[f.i2]?=some ⟨some f.d,.nat 5 f.x (.const (.agg f.z)),none⟩)
 (hg:∀ (i:Nat) (o:Oper),ops[i]?=some o->o.guard=none)
 (hdst:∀ (i:Nat) (o:Oper),ops[i]?=some o->fl i=false->o.dst≠some f.d)
 (hcl:∀ (i:Nat) (o:Oper),ops[i]?=some o->fl i=false->∀ a:Act,execOp a.eval o=execOp (clrA f.d f.d a).eval o)
 {ρ0:eM} {w0:World} {ds:List Deferred}
 (hQ:∀ ρ' a' w',AV.rels ρ' fr1 a'.tmps.toList->a'.defers=ds->Post G ρ0 h w0 ρ' h1 w'->Q .normal a' w') :
 ∀ (fuel:Nat) (listed:Array Bool) (a:Act) (W:World) (ρ:eM) (hm:AHeap) (b:Nat),listed.size=ops.size->jH al bs (fun i=>listed.getD i false)->
  ((List.range al.length).filter fun i=>!(listed.getD i false)).length<=fuel->
  AV.rels ρ (aS (fun i=>listed.getD i false) al vs 0 fr) (if listed.getD f.i2 false=true then a.tmps else clr f.d f.d a.tmps).toList->a.defers=ds->(h::sn)[(louds al 0).countP fun i=>listed.getD i false]?=some hm->Post G ρ0 h w0 ρ hm W->
  (listed.getD f.i1 false=true->listed.getD f.i2 false=false->∃ zv:Value,zeroV P f.t=some zv/\Bt f.d f.t zv.cells.toList w0 ρ hm a.tmps W b)->f.d<a.tmps.size->wpAny P .any ops Q fuel listed a W:=by
 have finish:∀ (listed:Array Bool) (a:Act) (w:World) (ρ:eM) (hm:AHeap),listed.size=ops.size->jH al bs (fun i=>listed.getD i false)->
  AV.rels ρ (aS (fun i=>listed.getD i false) al vs 0 fr) (if listed.getD f.i2 false=true then a.tmps else clr f.d f.d a.tmps).toList->a.defers=ds->(h::sn)[(louds al 0).countP fun i=>listed.getD i false]?=some hm->Post G ρ0 h w0 ρ hm w->
  Region.ready .any ops listed=[]->Q .normal a w:=by
  intro listed a w ρ hm hsz hL hf hd hcur hp hno
  have hall:∀ i,i<al.length->listed.getD i false=true:=by
   intro i
   induction i using Nat.strongRecOn with
   | _ i ih=>
    intro hi
    cases hli:listed.getD i false with
    | true=>rfl
    | false=>
     exfalso;have hio:i<ops.size:=by rw [<- D.len];exact hi
     have hmem:i∈Region.ready .any ops listed:=by
      rw [mem_ready];refine ⟨?_,ops[i],by simp [hio],fun e he hb=>?_⟩
      . have:i<listed.size:=by omega
        simp [aE,bU this,dI] at hli ⊢;exact hli
      . have:=(D.QB i ops[i] (by simp [hio]) e he hb).1;exact ih e.on this (by omega)
     rw [hno] at hmem;cases hmem
  rw [if_pos (hall f.i2 l2)] at hf
  refine hQ ρ a w ?_ hd ?_
  . have e:aS (fun i=>listed.getD i false) al vs 0 fr=fr1:=by rw [D.Lh];apply dt;intro t;refine fT al vs 0 fr fr rfl rfl fun j x hx _=>?_;simpa using hall j (aa.1 hx).1
    rw [<- e];exact hf
  . have e:(louds al 0).countP (fun i=>listed.getD i false)=(louds al 0).length:=by rw [mY];intro j hj;have ⟨_,x,hx,_⟩:=(jq al 0 j).1 hj;exact hall j (by simpa using (aa.1 hx).1)
    rw [e,D.T3] at hcur
    obtain rfl:=aw hcur
    exact hp
 intro fuel
 induction fuel with
 | zero=>
  intro listed a w ρ hm b hsz hL hcount hf hd hcur hp _ _;have hnone:Region.ready .any ops listed=[]:=by
   cases hrd:Region.ready .any ops listed with
   | nil=>rfl
   | cons i r=>
    exfalso;have hmem:i∈Region.ready .any ops listed:=by rw [hrd];simp
    have ⟨h1,o,ho,_⟩:=mem_ready.1 hmem;have hi:i<al.length:=by rw [D.len];exact (au.1 ho).1
    have:i∈(List.range al.length).filter fun i=>!(listed.getD i false):=by
     simp [kR,dq,hi,true_and];have hlt:i<listed.size:=by rw [hsz,<- D.len];exact hi
     simp [aE,bU hlt,dI] at h1 ⊢;simp [h1]
    rw [aG (Nat.le_zero.1 hcount)] at this;cases this
  exact ⟨hnone,finish listed a w ρ hm hsz hL hf hd hcur hp hnone⟩
 | succ fuel ih=>
  intro listed a w ρ hm b hsz hL hcount hf hd hcur hp hinv hdl;refine ⟨fun hno=>finish listed a w ρ hm hsz hL hf hd hcur hp hno,fun i hi=>?_⟩;have ⟨g1,o,ho,hedge⟩:=mem_ready.1 hi;have hil:i<al.length:=by rw [D.len];exact (au.1 ho).1
  have hlt:i<listed.size:=by rw [hsz,<- D.len];exact hil
  have hni:listed.getD i false=false:=by simp [aE,bU hlt,dI] at g1 ⊢;exact g1
  have hb:=D.ready hL ho hedge;have ⟨ao,hao,hcomp⟩:=D.comp i o ho;have hM:∀ j,(listed.setIfInBounds i true).getD j false=(listed.getD j false || j == i):=by
   intro j;by_cases hji:i=j
   . subst hji;simp [hlt]
   . have e:(j == i)=false:=by simp;omega
     rw [e,dC];simp [aE,aP hji]
  obtain ⟨hm',hev,hcur'⟩:=D.step (L:=fun i=>listed.getD i false) (M:=fun j=>(listed.setIfInBounds i true).getD j false) hL hao hni hb hM hcur;have hL':jH al bs (fun j=>(listed.setIfInBounds i true).getD j false):=by
   refine ⟨fun j hj=>?_,fun j hj k hk=>?_⟩
   . rw [hM,cw] at hj;rcases hj with hj | hj
     . exact hL.lt j hj
     . have:j=i:=by simpa using hj
       omega
   . rw [hM,cw] at hj ⊢;left;rcases hj with hj | hj
     . exact hL.down j hj k hk
     . have:j=i:=by simpa using hj
       subst this;exact hb k hk
  have hcount':((List.range al.length).filter fun j=>!((listed.setIfInBounds i true).getD j false)).length<=fuel:=by
   have key:∀ n,((List.range n).filter fun j=>!((listed.setIfInBounds i true).getD j false)).length+(if i<n then 1 else 0)=((List.range n).filter fun j=>!(listed.getD j false)).length:=by
    intro n
    induction n with
    | zero=>simp
    | succ n ihn=>
     rw [List.range_succ,iW,iW,aM,aM];have e:(!((listed.setIfInBounds i true).getD n false))=(!(listed.getD n false) && !(n == i)):=by rw [hM];cases listed.getD n false<;>cases (n == i)<;>rfl
     simp only [bZ,wC,e];by_cases hin:n=i
     . subst hin;rw [if_neg (Nat.lt_irrefl n)] at ihn;simp only [hni,beq_self_eq_true,im,Ah,aF,if_false,fL,if_true,bw,ft];rw [if_pos (by omega)];omega
     . have hb':(n == i)=false:=by simpa using hin
       simp only [hb',fL,Du];have e1:(if i<n+1 then 1 else 0)=(if i<n then 1 else 0):=by
        by_cases hlt':i<n
        . rw [if_pos hlt',if_pos (by omega)]
        . rw [if_neg hlt',if_neg (by omega)]
       rw [e1];cases hln:listed.getD n false<;>simp only [im,fL,aF,if_true,if_false,bw,ft]<;>omega
   have:=key al.length;rw [if_pos hil] at this;omega
  have hM2:i≠f.i2->(listed.setIfInBounds i true).getD f.i2 false=listed.getD f.i2 false:=fun hne=>by
   rw [hM];have:(f.i2 == i)=false:=by simp;exact fun e=>hne e.symm
   rw [this,dC]
  have hM1:i≠f.i1->(listed.setIfInBounds i true).getD f.i1 false=listed.getD f.i1 false:=fun hne=>by
   rw [hM];have:(f.i1 == i)=false:=by simp;exact fun e=>hne e.symm
   rw [this,dC]
  have hwant:Region.wanted o (yielded ops a.tmps)=true:=by simp [Region.wanted,hg i o ho]
  unfold wpOp;simp only [ho,hwant,if_true];left;by_cases hi1:i=f.i1
  ·
   subst hi1
   obtain ⟨o',ho',hop,hdo⟩:=o1
   rw [ho] at ho'
   obtain rfl:=aw ho'
   rw [a1] at hao
   obtain rfl:=aw hao
   simp only [evOper,wantedA,evAny,evOp,evOpE,AFrame.eval,ai,an] at hev
   obtain ⟨e1,rfl⟩:=hev
   have n2:listed.getD f.i2 false=false:=by
    cases h:listed.getD f.i2 false with
    | false=>rfl
    | true=>have:=hL.down f.i2 h f.i1 h12;rw [hni] at this;cases this
   rw [if_neg (by rw [n2];simp)] at hf
   obtain ⟨zv,hz1,hz2⟩:=dO hz ρ
   have hrun:(execOp a.eval o).run P w=.ok (.value (.pointer (some ⟨w.heap.size,0,none⟩))) (w.alloc (.cells zv.cells f.t)):=by unfold execOp;rw [hop];simp [Instr.alloc,fN hz1,BZ]
   unfold Oper.wp
   rw [hrun,Oper.upon_value,hdo]
   have hpg:=Post.wE (G:=G) hp.rel (.cells zv.cells f.t)
   refine ih _ _ _ ρ hm w.heap.size (by simp [hsz]) hL' hcount' ?_ hd hcur' (hp.trans hpg) (fun _ _=>⟨zv,hz1,?_⟩) (by simpa [Act.put] using hdl)
   . rw [hM2 hne,n2,if_neg (by simp),<- e1]
     show AV.rels ρ _ (clr f.d f.d (a.tmps.setIfInBounds f.d _)).toList
     rw [E0]
     have:=put_rel (a:=clrA f.d f.d a) (ρ:=ρ) hf (some f.d) (fM ρ)
     have e4:((clrA f.d f.d a).put (some f.d) undef).tmps=clr f.d f.d a.tmps:=by
      show (clr f.d f.d a.tmps).setIfInBounds f.d undef=_;apply qu;intro j;simp only [clr,ji,Array.size_setIfInBounds];by_cases e:f.d=j
      . subst e;simp
      . simp [e]
     rw [e4] at this
     exact this
   . refine ⟨by simp [Act.put,hdl],by simpa using heap_alloc_new w (.cells zv.cells f.t),hp.size,?_,?_⟩
     . rintro ⟨j,p,c,e1,e2,e3,e4⟩
       have:=AObj.gU (hp.rel.obj j p c e1 e2) e3
       omega
     . intro x hx' e4
       obtain ⟨⟨ty,h2⟩,_⟩:=hp.rel.lits x hx'
       have:=(au.1 h2).1
       omega
  by_cases hi2:i=f.i2
  ·
   subst hi2
   have l1:listed.getD f.i1 false=true:=hb f.i1 h12
   obtain ⟨zv,hz1,F⟩:=hinv l1 hni
   obtain ⟨o',ho',hdo,hcomp'⟩:=o2
   rw [ho] at ho'
   obtain rfl:=aw ho'
   rw [a2] at hao
   obtain rfl:=aw hao
   rw [if_neg (by rw [hni];simp)] at hf
   generalize hfrL:aS (fun i=>listed.getD i false) al vs 0 fr=frL at *
   obtain ⟨zv',hz1',hz2⟩:=dO hz ρ
   obtain rfl:zv'=zv:=aw (hz1'.symm.trans hz1)
   have A:=F.FB hp hz2
   simp only [evOper,wantedA,evAny,evOp,evOpE,natA] at hev
   have hey:AFrame.eval frL (.const (.agg f.z))=.agg f.z:=rfl
   rw [hey] at hev
   simp only at hev
   by_cases hcnd:(AFrame.eval frL f.x).cells.length=f.z.length/\(AFrame.eval frL f.x).cells.all AV.one=true
   case neg=>rw [if_neg hcnd] at hev;cases hev
   rw [if_pos hcnd] at hev
   simp only [ai,an] at hev
   obtain ⟨e1,rfl⟩:=hev
   have hfl2:frL.length=a.tmps.size:=by have:=br hf;simp [clr] at this;omega
   have hex:AFrame.eval (frL.set f.d (.ptr hm.objs.length 0)) f.x=AFrame.eval frL f.x:=by
    cases hxx:f.x with
    | tmp k=>rw [hxx] at hx;simp only [opdIs,beq_eq_false_iff_ne,ne_eq] at hx;simp [AFrame.eval,aj (aY hx)]
    | _=>rfl
   have hed:AFrame.eval (frL.set f.d (.ptr hm.objs.length 0)) (.tmp f.d)=.ptr hm.objs.length 0:=by simp [AFrame.eval,show f.d<frL.length by omega]
   have hev2:evAny call (.store f.n (.tmp f.d) f.x) (frL.set f.d (.ptr hm.objs.length 0)) (hm.push (.cells false f.z none))=some (undefA,hm.push (.cells false (AFrame.eval frL f.x).cells none)):=by
    simp only [evAny,evOp,evOpE,hed,hex];rw [if_pos (by rw [hn];exact hcnd.1)];have hg':(hm.push (.cells false f.z none)).objs[hm.objs.length]?=some (.cells false f.z none):=by simp [AHeap.push]
    unfold AHeap.write;rw [hg'];simp only;rw [if_pos ⟨by omega,hcnd.2⟩,J4];have:splice f.z 0 (AFrame.eval frL f.x).cells=(AFrame.eval frL f.x).cells:=by simp [splice,hcnd.1]
    rw [this];rfl
   have hle:ρ.le ⟨ρ.addr++[⟨b,0,none⟩],ρ.cap,ρ.lit⟩:=⟨⟨_,rfl⟩,⟨[],by simp⟩,⟨[],by simp⟩⟩
   have hfr1:AV.rels ⟨ρ.addr++[⟨b,0,none⟩],ρ.cap,ρ.lit⟩ (frL.set f.d (.ptr hm.objs.length 0)) a.tmps.toList:=by
    refine pV (by simp;omega) fun j v hv=>?_;by_cases hj:f.d=j
    . subst hj;rw [ax (by omega)] at hv;obtain rfl:=aw hv;refine ⟨_,by rw [bt];exact F.slot,?_⟩;simp only [AV.rel];refine ⟨⟨b,0,none⟩,?_,rfl⟩;rw [<- hp.rel.jK];simp
    . rw [aj hj] at hv;obtain ⟨y,z1,z2⟩:=da hf hv;rw [bt,clr_get (aY hj) (aY hj)] at z1;exact ⟨y,by rw [bt];exact z1,AV.gT hle _ _ z2⟩
   refine any_sound hcall hfr1 A.rel ⟨_,hcomp',.inl rfl⟩ hev2 fun ρ' x W' hx hp'=>?_
   rw [hdo]
   refine ih _ _ _ ρ' _ 0 (by simp [hsz]) hL' hcount' ?_ hd hcur' (A.trans hp') (fun _ h2=>?_) (by simpa [Act.put] using hdl)
   . have:(listed.setIfInBounds f.i2 true).getD f.i2 false=true:=by rw [hM];simp
     rw [if_pos this]
     simp only [AFrame.putD] at e1
     rw [<- e1]
     exact AV.iJ hp'.le _ _ hfr1
   . rw [hM] at h2;simp at h2
  have hfi:fl i=false:=by
   cases h:fl i with
   | false=>rfl
   | true=>rcases hfl i h with e | e;exact absurd e hi1;exact absurd e hi2
  obtain ⟨a0,hc0,hao0⟩:=hcomp hfi;have dn:=hdst i o ho hfi;simp only [fF] at hc0;split at hc0;case h_2=>cases hc0
  rename_i op g hop hgg;cases hc0;have hao2:ao.dst=o.dst/\ao.guard=g/\(ao.op=op\/ao.op=uF op):=by
   rcases hao0 with rfl | rfl
   . exact ⟨rfl,rfl,.inl rfl⟩
   . exact ⟨rfl,rfl,.inr rfl⟩
  obtain ⟨e1,e2,e3⟩:=hao2
  have hop':∃ a0,jD P G o=some a0/\(ao.op=a0\/ao.op=uF a0):=⟨op,hop,e3⟩
  rw [hg i o ho] at hgg;simp only [nJ,ai] at hgg;rw [<- hgg] at e2;unfold evOper at hev;rw [e1,e2] at hev;simp only [wantedA] at hev;split at hev;case h_2=>cases hev
  rename_i v g2 hv;simp only [ai,an] at hev;obtain ⟨e4,rfl⟩:=hev;have keep1:∀ v',(a.put o.dst v').tmps[f.d]?=a.tmps[f.d]?:=by
   intro v'
   cases hdo:o.dst with
   | none=>rfl
   | some d=>rw [hdo] at dn;exact aP (fun e=>dn (by rw [e]))
  have hsz':∀ v',(a.put o.dst v').tmps.size=a.tmps.size:=by intro v';cases o.dst<;>simp [Act.put]
  have fin:∀ ρ' x W',AV.rels ρ' (aS (fun j=>(listed.setIfInBounds i true).getD j false) al vs 0 fr) (if listed.getD f.i2 false=true then (a.put o.dst x).tmps else clr f.d f.d (a.put o.dst x).tmps).toList->Post G ρ hm w ρ' g2 W'->wpAny P .any ops Q fuel (listed.setIfInBounds i true) (a.put o.dst x) W':=by intro ρ' x W' hf' hp';refine ih _ _ _ ρ' g2 b (by simp [hsz]) hL' hcount' (by rw [hM2 hi2];exact hf') ((D8 _ _ _).trans hd) hcur' (hp.trans hp') (fun k1 k2=>?_) (by rw [hsz'];exact hdl);rw [hM1 hi1] at k1;rw [hM2 hi2] at k2;obtain ⟨zv,hz1,F⟩:=hinv k1 k2;exact ⟨zv,hz1,F.post hp' (keep1 x)⟩
  cases hl2:listed.getD f.i2 false with
  | true=>rw [hl2,if_pos rfl] at hf;refine any_sound hcall hf hp.rel hop' hv fun ρ' x W' hx hp'=>fin ρ' x W' ?_ hp';rw [hl2,if_pos rfl,<- e4];exact put_rel (frame_mono hp'.le hf) o.dst hx
  | false=>
   rw [hl2,if_neg (by simp)] at hf;refine Al (hcl i o ho hfi a) (any_sound (a:=clrA f.d f.d a) hcall hf hp.rel hop' hv fun ρ' x W' hx hp'=>⟨⟨x,rfl⟩,fun v' hv'=>fin ρ' v' W' ?_ hp'⟩);rw [hl2,if_neg (by simp),<- e4];have hfr':=put_rel (a:=clrA f.d f.d a) (frame_mono hp'.le hf) o.dst hx;rw [hv'] at hfr';have hclr:((clrA f.d f.d a).put o.dst v').tmps=clr f.d f.d (a.put o.dst v').tmps:=by
    cases hdo:o.dst with
    | none=>rfl
    | some d=>rw [hdo] at dn;show (clr f.d f.d a.tmps).setIfInBounds d v'=clr f.d f.d (a.tmps.setIfInBounds d v');rw [IM (fun e=>dn (by rw [e])) (fun e=>dn (by rw [e]))]
   rw [hclr] at hfr';exact hfr'
theorem rb {i:Nat} {a:aK} (h:l[i]?=some a) :
 (fl1Ops l f)[i]?=some (if i == f.i1 then ⟨some f.d,.mv (.const undefA),none⟩ else if i == f.i2 then ⟨some f.d,.nat 5 f.x (.const (.agg f.z)),none⟩ else a):=by
 simp [fl1Ops,h]
theorem Ha (h:M9 ops l=some f):l[f.i1]?=some ⟨some f.d,.alloc f.z,none⟩/\(∃ o,ops[f.i1]?=some o/\o.op=.alloc f.t)/\l[f.i2]?=some ⟨none,.store f.n (.tmp f.d) f.x,none⟩:=by
 unfold M9 at h;split at h;case h_1=>cases h
 rename_i i1 _;split at h;case h_2=>cases h
 rename_i d z o h1 h2;split at h;case h_2=>cases h
 rename_i t ho;split at h;case h_1=>cases h
 rename_i i2 hi2;split at h;case h_2=>cases h
 rename_i n d' x h3;cases h;have h4:=(List.findIdx?_eq_some_iff_getElem.1 hi2)
 have ⟨hlt,h5,_⟩:=h4;rw [ah hlt] at h3;rw [aw h3] at h5;simp [MV,beq_iff_eq] at h5;subst h5;exact ⟨h1,⟨o,h2,ho⟩,by rw [ah hlt];exact h3⟩
theorem PB {call:cT} {d:Nat} {h:AHeap} (e:evOper call ⟨none,.nilCheck (.tmp d),none⟩ fr h=some (fr',h')):fr'=fr/\h'=h/\d<fr.length:=by
 simp [evOper,wantedA,evAny,evOp,evOpE] at e;have hd:d<fr.length:=by
  apply cU;intro hn;have:AFrame.eval fr (.tmp d)=undefA:=by simp [AFrame.eval,aO];rw [aV (by omega)];rfl
  rw [this] at e;simp [undefA] at e
 split at e
 . rename_i v g hv;simp [ai,an,AFrame.putD] at e;split at hv<;>simp [ai,an,reduceCtorEq] at hv
   . exact ⟨e.1.symm,by rw [<- e.2,hv.2],hd⟩
   . exact ⟨e.1.symm,by rw [<- e.2,hv.2],hd⟩
 . cases e
theorem zY (hcall:gx P G call) {id:Nat} {c:ACode} {x:iD} {h:AHeap} {ρ:eM} {w:World} {a:Act} (hl:fO P G ops ops.toList=some l) (hc:CY P ops l=some c)
 (he:evCode call c fr h=some (x,fr',h')) (hf:AV.rels ρ fr a.tmps.toList) (r:fw G ρ h w) :
 x=.normal/\((∀ ρ' a' w',AV.rels ρ' fr' a'.tmps.toList->a'.defers=a.defers->Post G ρ h w ρ' h' w'->Q .normal a' w')->(Code.region id ops true).wp P Q a w):=by
 unfold CY at hc
 split at hc
 case h_2=>cases hc
 rename_i f hfa
 simp only at hc
 split at hc
 case isFalse=>cases hc
 rename_i hok
 generalize hbs:befores ops.toList []=bs at *
 generalize hal:fl1Ops l f=al at *
 cases hc
 rw [evCode] at he
 have hpre:evCode call (.region [⟨some f.d,.mv (.const undefA),none⟩]) fr h=some (.normal,fr.set f.d undefA,h):=rfl
 rw [hpre] at he
 obtain ⟨fr0,hfr0⟩:∃ fr0,fr0=fr.set f.d undefA:=⟨_,rfl⟩
 simp [<- hfr0] at he
 simp [evCode] at he
 split at he
 case h_2=>
  rename_i hno
  cases x with
  | normal=>exact (hno _ _ he).elim
  | _=>
   split at he
   . split at he<;>cases he
   . cases he
 rename_i fr1' h1' hdr
 split at hdr
 case h_2=>cases hdr
 rename_i fr1 h1 sns ms hev
 split at hdr
 case isFalse=>cases hdr
 rename_i hst
 simp [ai,an,true_and] at hdr
 obtain ⟨rfl,rfl⟩:=hdr
 split at he
 case h_2=>cases he
 rename_i fr2 h2 hev2
 simp [ai,an] at he
 obtain ⟨rfl,rfl,rfl⟩:=he
 refine ⟨rfl,fun hQ=>?_⟩
 have ⟨fa,ha,e1,hev2⟩:=fY hev2
 obtain ⟨e2,e3⟩:fa=fr2/\ha=h2:=by simpa [evOps] using hev2
 have ⟨q1,q2,hd1⟩:=PB e1
 obtain rfl:fr1=fr2:=by rw [<- e2,q1]
 obtain rfl:h1=h2:=by rw [<- e3,q2]
 simp only [fl1Ok,aA,bne_iff_ne,ne_eq,fQ,beq_iff_eq,fu] at hok
 obtain ⟨⟨⟨⟨⟨⟨⟨c1,c2⟩,c3⟩,c4⟩,c5⟩,c6⟩,c7⟩,c8⟩:=hok
 obtain ⟨s1,⟨oo,s2,s3⟩,s4⟩:=Ha hfa
 obtain ⟨hlen,hget⟩:=kc hl
 simp only [dD] at hlen
 have hall:al.length=ops.size:=by rw [<- hal];simp [fl1Ops,hlen]
 have getl:∀ (i:Nat) (o:Oper),ops[i]?=some o->∃ ao,l[i]?=some ao/\fF P G ops o=some ao:=fun i o ho=>hget i o (by simpa using ho)
 have chk:∀ (i:Nat) (o:Oper) (a:aK),ops[i]?=some o->l[i]?=some a->o.guard=none/\a.guard=none/\a.dst=o.dst/\(i=f.i1\/i=f.i2\/((∀ x∈o.op.operands.toList,isTmp f.d x=false)/\o.dst≠some f.d)):=by
  intro i o a ho ha;have:=aQ.1 c6 i (dq.2 (au.1 ho).1);rw [ho,ha] at this;simp only [aA,Option.isNone_iff_eq_none,cw,beq_iff_eq,bne_iff_ne,ne_eq,aQ,fQ] at this;obtain ⟨⟨⟨g1,g2⟩,g3⟩,g4⟩:=this;refine ⟨g1,g2,g3,?_⟩;rcases g4 with (g4 | g4) | g4
  . exact .inl g4
  . exact .inr (.inl g4)
  . exact .inr (.inr ⟨fun x hx=>g4.1 x hx,g4.2⟩)
 have hzt:zeroT P f.t=some f.z:=by
  split at c5
  . rename_i z hz;rw [hz,(AV.tj _ _).1 c5]
  . cases c5
 obtain ⟨fl,hfl⟩:∃ fl:Nat->Bool,fl=fun i=>i == f.i1 || i == f.i2:=⟨_,rfl⟩
 have fl_no:∀ i,fl i=false->i≠f.i1/\i≠f.i2:=by intro i h;rw [hfl] at h;simp only [hH,beq_eq_false_iff_ne,ne_eq] at h;exact h
 have al1:al[f.i1]?=some ⟨some f.d,.mv (.const undefA),none⟩:=by rw [<- hal,rb s1];simp
 have al2:al[f.i2]?=some ⟨some f.d,.nat 5 f.x (.const (.agg f.z)),none⟩:=by
  rw [<- hal,rb s4];have:(f.i2 == f.i1)=false:=by simp;exact fun e=>c1 e.symm
  simp [this]
 obtain ⟨sn,D⟩:=ug (G:=G) (fl:=fl) (P:=P) (ops:=ops) (al:=al) (bs:=bs) hall (fun i o ho=>by
  obtain ⟨ao,g1,g2⟩:=getl i o ho;have:=rb (f:=f) g1;rw [hal] at this;refine ⟨_,this,fun hfi=>⟨ao,g2,.inl ?_⟩⟩;obtain ⟨x1,x2⟩:=fl_no i hfi
  simp [x1,x2]) c7 hev hst
 have l2:f.i2<al.length:=(aa.1 al2).1
 have i2o:∃ o,ops[f.i2]?=some o:=⟨ops[f.i2]'(by omega),by simp [show f.i2<ops.size by omega]⟩
 obtain ⟨o2,ho2⟩:=i2o
 have o2c:o2.dst=none/\jD P G o2=some (.store f.n (.tmp f.d) f.x):=by
  obtain ⟨ao,g1,g2⟩:=getl f.i2 o2 ho2;rw [s4] at g1;obtain rfl:=aw g1;refine ⟨(chk f.i2 o2 _ ho2 s4).2.2.1.symm,?_⟩;simp only [fF] at g2;split at g2
  . rename_i op g hop hgg;simp only [ai,aK.mk.injEq] at g2;rw [hop,g2.2.1]
  . cases g2
 have o1c:oo.dst=some f.d:=(chk f.i1 oo _ s2 s1).2.2.1.symm
 refine wp_region_any c8 ?_
 have hnone:∀ i,(Array.replicate ops.size false).getD i false=false:=by intro i;simp only [aE,td];split<;>rfl
 have hL:jH al bs (fun i=>(Array.replicate ops.size false).getD i false):=⟨fun i hi=>absurd ((hnone i).symm.trans hi) (by simp),fun i hi=>absurd ((hnone i).symm.trans hi) (by simp)⟩
 have htl:a.tmps.size=fr.length:=by simpa using br hf
 have hdl:f.d<a.tmps.size:=by
  have:fr1.length=fr.length:=by rw [D.Lh,gu,hfr0];simp
  omega
 refine KD (Q:=Q) D hcall f (fun i h=>by rw [hfl] at h;simpa using h) (by rw [hfl];simp) (by rw [hfl];simp) c1 l2 c2 ⟨oo,s2,s3,o1c⟩ ⟨o2,ho2,o2c.1,o2c.2⟩ c3 c4 hzt al1 al2
  (fun i o ho=>by obtain ⟨ao,g1,_⟩:=getl i o ho;exact (chk i o ao ho g1).1)
  (fun i o ho hfi=>by
   obtain ⟨ao,g1,_⟩:=getl i o ho;obtain ⟨z1,z2⟩:=fl_no i hfi;rcases (chk i o ao ho g1).2.2.2 with h | h | h
   . exact absurd h z1
   . exact absurd h z2
   . exact h.2)
  (fun i o ho hfi b=>by
   obtain ⟨ao,g1,g2⟩:=getl i o ho;obtain ⟨z1,z2⟩:=fl_no i hfi;have hop:∀ x∈o.op.operands.toList,isTmp f.d x=false:=by
    rcases (chk i o ao ho g1).2.2.2 with h | h | h
    . exact absurd h z1
    . exact absurd h z2
    . exact h.1
   refine execOp_congr o (fun cs bl hs=>?_) fun x hx=>?_
   . simp [fF,jD,hs] at g2
   . have u1:=hop x (by simpa using hx)
     cases x with
     | tmp t=>simp only [isTmp,beq_eq_false_iff_ne,ne_eq] at u1;simp only [Act.eval,clrA,aE,clr_get u1 u1]
     | _=>rfl)
  (ρ0:=ρ) (w0:=w) (ds:=a.defers) hQ ops.size (Array.replicate ops.size false) a {w with drawn:=w.drawn+1} ρ h 0 (by simp) hL ?_ ?_ rfl ?_ (Post.drew r) (fun hh=>by rw [hnone] at hh;cases hh) hdl
 . refine dk (yK _ _) ?_
   simp [D.len]
 . rw [hnone,if_neg (by simp),iH al _ 0 _ fun i _=>hnone i]
   have g1:=put_rel (a:=a) hf (some f.d) (fM ρ)
   have e:(a.put (some f.d) undef).tmps=clr f.d f.d a.tmps:=by show a.tmps.setIfInBounds f.d undef=_;simp [clr]
   rw [e] at g1
   rw [hfr0]
   exact g1
 . have:(louds al 0).countP (fun i=>(Array.replicate ops.size false).getD i false)=0:=by rw [oS];intro j _;rw [hnone];simp
   rw [this];rfl
end
end
section
variable {x:iD} {fr' fr:AFrame} {h' h:AHeap} {T:gO} {ρ:eM} {fn:Func} {tmps:Array Value}
def iD.toExit:iD->Exit
 | .normal=>.normal
 | .exit id=>.exit id
 | .ret=>.ret
section
variable {P:Program} {G:Nat} {call:cT}
def vG (G:Nat) (ρ:eM) (h:AHeap) (w:World) (ds:List Deferred) (x:iD) (fr':AFrame) (h':AHeap):Exit->Act->World->Prop:=
 fun e a' w'=>∃ ρ',e=x.toExit/\AV.rels ρ' fr' a'.tmps.toList/\a'.defers=ds/\Post G ρ h w ρ' h' w'
theorem Ca (hcall:gx P G call) {id:Nat} {ops:Array Oper} {draw:Bool} {c:ACode} {w:World} {a:Act} (hc:ow P G ops draw=some c)
 (he:evCode call c fr h=some (x,fr',h')) (hf:AV.rels ρ fr a.tmps.toList) (r:fw G ρ h w):(Code.region id ops draw).wp P (vG G ρ h w a.defers x fr' h') a w:=by
 unfold ow at hc
 split at hc
 case h_1=>cases hc
 rename_i l hl
 cases draw with
 | false=>
  simp [aF,if_false,ai] at hc;subst hc;simp [evCode] at he;split at he;case h_2=>cases he
  rename_i fr1 h1 hev;simp [ai,an] at he;obtain ⟨rfl,rfl,rfl⟩:=he;refine wp_region ?_
  have:=AL (Q:=vG G ρ h w a.defers .normal fr1 h1) hcall ops.toList l 0 hl (fun j hj=>by simp) hf r hev fun ρ' a' w' hf' hd' hp'=>⟨ρ',rfl,hf',hd',hp'⟩
  rw [Af];simpa using this
 | true=>
  simp only [if_true] at hc
  have fin:∀ {al:List aK} {bs:List (List Nat)},(∃ l,fO P G ops ops.toList=some l/\(al=l\/al=l.map j8))->ot al (ops.toList.map ja) bs (louds al 0)=true->P.follows .mixedOrders=true->
   evCode call (.draw (stances al bs (louds al 0) al 0)) fr h=some (x,fr',h')->(Code.region id ops true).wp P (vG G ρ h w a.defers x fr' h') a w:=by
   intro al bs hl hok hmix he
   simp [evCode] at he
   split at he
   case h_2=>cases he
   rename_i fr1 h1 sn ms hev
   split at he
   case isFalse=>cases he
   rename_i hst
   simp only [ai,an] at he
   obtain ⟨rfl,rfl,rfl⟩:=he
   exact Hh hcall hl hok hmix hev hst hf r fun ρ' a' w' hf' hd' hp'=>⟨ρ',rfl,hf',hd',hp'⟩
  split at hc
  . rename_i hok;simp only [aA] at hok;cases hc;exact fin ⟨l,hl,.inl rfl⟩ hok.1 hok.2 he
  . split at hc
    case isFalse=>
     split at hc
     case h_2=>
      obtain ⟨hx,hs⟩:=zY (Q:=vG G ρ h w a.defers .normal fr' h') (id:=id) hcall hl hc he hf r;subst hx
      exact hs fun ρ' a' w' hf' hd' hp'=>⟨ρ',rfl,hf',hd',hp'⟩
     rename_i hcf;cases hc;have hc:=hcf;obtain ⟨hx,hs⟩:=vF (Q:=vG G ρ h w a.defers .normal fr' h') (id:=id) hcall hl hc he hf r;subst hx
     exact hs fun ρ' a' w' hf' hd' hp'=>⟨ρ',rfl,hf',hd',hp'⟩
    rename_i hok;simp only [aA] at hok;cases hc;exact fin ⟨l,hl,.inr rfl⟩ hok.1 hok.2 he
theorem vG.trans {ρ1:eM} {h1:AHeap} {w w1:World} {ds:List Deferred} {e:Exit} {a':Act} {w':World} (hp:Post G ρ h w ρ1 h1 w1) (he:vG G ρ1 h1 w1 ds x fr' h' e a' w'):vG G ρ h w ds x fr' h' e a' w':=by have ⟨ρ',h2,h3,h4,h5⟩:=he;exact ⟨ρ',h2,h3,h4,hp.trans h5⟩
theorem oA (hcall:gx P G call):∀ (c:Code) (ac:ACode),fm P G c=some ac->
 ∀ {ρ:eM} {h h':AHeap} {w:World} {fr fr':AFrame} {a:Act} {x:iD},evCode call ac fr h=some (x,fr',h')->AV.rels ρ fr a.tmps.toList->fw G ρ h w->c.wp P (vG G ρ h w a.defers x fr' h') a w:=by
 intro c;induction c with
 | skip=>intro ac hc ρ h h' w fr fr' a x he hf r;cases hc;simp [evCode,ai,an] at he;obtain ⟨rfl,rfl,rfl⟩:=he;exact wp_skip ⟨ρ,rfl,hf,rfl,Post.refl r⟩
 | region id ops draw=>intro ac hc ρ h h' w fr fr' a x he hf r;exact Ca hcall hc he hf r
 | seq c1 c2 ih1 ih2=>
  intro ac hc ρ h h' w fr fr' a x he hf r;simp [fm] at hc;split at hc;case h_2=>cases hc
  rename_i x1 x2 h1 h2;cases hc;simp [evCode] at he;split at he
  . rename_i fr1 h1' hev;refine wp_seq (wp_mono (ih1 x1 h1 hev hf r) fun e a' w' hE=>?_);obtain ⟨ρ',rfl,hf',hd',hp'⟩:=hE;have:=ih2 x2 h2 (a:=a') he hf' hp'.rel;rw [hd'] at this;exact wp_mono this fun e a'' w'' hE=>vG.trans hp' hE
  . rename_i hno;refine wp_seq (wp_mono (ih1 x1 h1 he hf r) fun e a' w' hE=>?_);have hx:x≠.normal:=by rintro rfl;exact hno _ _ he
    have hE':=hE;obtain ⟨ρ',rfl,hf',hd',hp'⟩:=hE';cases x<;>first | exact absurd rfl hx | exact hE
 | cond o c1 c2 ih1 ih2=>
  intro ac hc ρ h h' w fr fr' a x he hf r;simp [fm] at hc;split at hc;case h_2=>cases hc
  rename_i o' x1 x2 h0 h1 h2;cases hc;have ro:=aX hf r.glob h0;simp [evCode] at he;split at he
  . rename_i ht;rw [ht] at ro;exact wp_cond_true (iR ro) (ih1 x1 h1 he hf r)
  . rename_i ht;rw [ht] at ro;exact wp_cond_false (iR ro) (ih2 x2 h2 he hf r)
  . cases he
 | block id c ih=>
  intro ac hc ρ h h' w fr fr' a x he hf r;simp [fm,ae] at hc;obtain ⟨x1,h1,rfl⟩:=hc;simp [evCode] at he;split at he
  . rename_i j fr1 h1' hev;refine wp_block (wp_mono (ih x1 h1 hev hf r) fun e a' w' hE=>?_);obtain ⟨ρ',rfl,hf',hd',hp'⟩:=hE;split at he
    . rename_i hj;simp [ai,an] at he;obtain ⟨rfl,rfl,rfl⟩:=he;simp [iD.toExit,Exit.inBlock,hj,if_true];exact ⟨ρ',rfl,hf',hd',hp'⟩
    . rename_i hj;simp [ai,an] at he;obtain ⟨rfl,rfl,rfl⟩:=he;simp [iD.toExit,Exit.inBlock,hj,if_false];exact ⟨ρ',rfl,hf',hd',hp'⟩
  . rename_i hno;refine wp_block (wp_mono (ih x1 h1 he hf r) fun e a' w' hE=>?_);have hE':=hE;obtain ⟨ρ',rfl,hf',hd',hp'⟩:=hE';cases x with
    | exit j=>exact absurd he (hno j _ _)
    | normal=>exact hE
    | ret=>exact hE
 | loop c ih=>
  intro ac hc ρ h h' w fr fr' a x he hf r;simp [fm,ae] at hc;obtain ⟨x1,h1,rfl⟩:=hc;simp [evCode] at he;refine wp_loop_rounds rounds ?_;generalize rounds=n at he;have key:∀ n {ρ1:eM} {h1':AHeap} {w1:World} {fr1:AFrame} {a1:Act},iter (evCode call x1) n fr1 h1'=some (x,fr',h')->AV.rels ρ1 fr1 a1.tmps.toList->a1.defers=a.defers->Post G ρ h w ρ1 h1' w1->Code.rounds P c (vG G ρ h w a.defers x fr' h') n a1 w1:=by
   intro n;induction n with
   | zero=>intro ρ1 h1' w1 fr1 a1 he;cases he
   | succ n ihn=>
    intro ρ1 h1' w1 fr1 a1 he hf1 hd1 hp1;simp [iter] at he;rw [rounds_succ];split at he
    . rename_i fr2 h2' hev;refine wp_mono (ih x1 h1 hev hf1 hp1.rel) fun e a' w' hE=>?_;obtain ⟨ρ',rfl,hf',hd',hp'⟩:=hE;exact ihn he hf' (hd'.trans hd1) (hp1.trans hp')
    . rename_i hno;refine wp_mono (ih x1 h1 he hf1 hp1.rel) fun e a' w' hE=>?_;rw [hd1] at hE;have hE2:=vG.trans hp1 hE;obtain ⟨ρ',rfl,hf',hd',hp'⟩:=hE
      cases x with
      | normal=>exact absurd he (hno _ _)
      | exit j=>exact hE2
      | ret=>exact hE2
  exact key n he hf rfl (Post.refl r)
 | exit id=>intro ac hc ρ h h' w fr fr' a x he hf r;cases hc;simp [evCode,ai,an] at he;obtain ⟨rfl,rfl,rfl⟩:=he;exact wp_exit ⟨ρ,rfl,hf,rfl,Post.refl r⟩
 | ret=>intro ac hc ρ h h' w fr fr' a x he hf r;cases hc;simp [evCode,ai,an] at he;obtain ⟨rfl,rfl,rfl⟩:=he;exact wp_ret ⟨ρ,rfl,hf,rfl,Post.refl r⟩
 | label l=>intro ac hc ρ h h' w fr fr' a x he hf r;cases hc;simp [evCode,ai,an] at he;obtain ⟨rfl,rfl,rfl⟩:=he;exact wp_label ⟨ρ,rfl,hf,rfl,Post.refl r⟩
 | scope c ih=>intro ac hc ρ h h' w fr fr' a x he hf r;refine wp_scope_straight (wp_mono (ih ac hc he hf r) fun e a' w' hE=>?_);have hE':=hE;obtain ⟨ρ',rfl,_⟩:=hE';cases x<;>exact hE
 | _=>intro ac hc;simp [fm] at hc
def resM (tmps:Array Value):ResultVar->Sem Value
 | .tmp t=>pure (tmps.getD t undef)
 | .cell a t=>do loadVar t (<- asAddr (tmps.getD a undef))
theorem Gl (fn:Func) (tmps:Array Value):results fn tmps=(do
 let vs <- fn.results.mapM (resM tmps);pure (if h:vs.size=1 then vs[0] else .tuple vs)):=by
 unfold results;congr 1
theorem AE {w:World} (hf:AV.rels ρ fr tmps.toList) (r:fw G ρ h w):∀ (rs:List ResultVar) (ars:List rz) (vs:List AV),kX P rs=some ars->resVs fr h ars=some vs->
 ∃ xs,AV.rels ρ vs xs/\(rs.mapM (resM tmps):Sem (List Value)).run P w=.ok xs w
 | [],ars,vs,hc,he=>by cases hc;cases he;exact ⟨[],by simp [AV.rels],by simp⟩
 | v::rs,ars,vs,hc,he=>by
  have get:∀ t,(fr.getD t undefA).rel ρ (tmps.getD t undef):=fun t=>aX (G:=0) (a:={tmps,defers:=[]}) hf (fun g hg=>absurd hg (Nat.not_lt_zero g)) (x:=.tmp t) (y:=.tmp t) rfl
  have step:∀ (ar:rz) (ars':List rz),kX P rs=some ars'->ars=ar::ars'->
   (∀ y,resV fr h ar=some y->∃ x,y.rel ρ x/\(resM tmps v).run P w=.ok x w)->
   ∃ xs,AV.rels ρ vs xs/\((v::rs).mapM (resM tmps):Sem (List Value)).run P w=.ok xs w:=by
   intro ar ars' h1 h2 h3
   subst h2
   simp [resVs] at he
   split at he
   case h_2=>cases he
   rename_i y ys hy hys
   cases he
   have ⟨x,hx1,hx2⟩:=h3 y hy
   have ⟨xs,hxs1,hxs2⟩:=AE hf r rs ars' ys h1 hys
   refine ⟨x::xs,by simp only [AV.rels];exact ⟨x,xs,rfl,hx1,hxs1⟩,?_⟩
   simp [List.mapM_cons,Sem.run_bind,hx2,Result.andThen_ok,hxs2,Sem.run_pure]
  cases v with
  | tmp t=>
   simp [kX,ae] at hc;obtain ⟨ars',h1,rfl⟩:=hc;exact step _ ars' h1 rfl fun y hy=>by simp [resV,ai] at hy;subst hy;exact ⟨_,get t,rfl⟩
  | cell t ty=>
   simp only [kX] at hc;split at hc
   . rename_i n l h1 h2 h3;cases hc;refine step _ l h3 rfl fun y hy=>?_;simp only [resV] at hy;split at hy;case h_2=>cases hy
     rename_i i o hp;simp only [ae] at hy;obtain ⟨cs,hcs,rfl⟩:=hy;have hg:=get t;rw [hp] at hg;obtain ⟨b,hb,hx⟩:=kU hg;obtain ⟨x,hx1,hx2⟩:=rO (P:=P) r h1 h2 hcs hb;exact ⟨x,hx2,by simp [resM,hx,asAddr,hx1]⟩
   . rename_i n l h1 h2 h3;cases hc;refine step _ l h3 rfl fun y hy=>?_;simp only [resV] at hy;split at hy;case h_2=>cases hy
     rename_i i o hp;have hg:=get t;rw [hp] at hg;obtain ⟨b,hb,hx⟩:=kU hg;obtain ⟨x,hx1,hx2⟩:=rP (P:=P) r h1 hy hb;exact ⟨x,hx2,by simp [resM,hx,asAddr,hx1]⟩
   . cases hc
theorem qz {w:World} {ars:List rz} {v:AV} (hf:AV.rels ρ fr tmps.toList) (r:fw G ρ h w) (hc:kX P fn.results.toList=some ars) (he:resOf fr h ars=some v) :
 ∃ x,v.rel ρ x/\(results fn tmps).run P w=.ok x w:=by
 unfold resOf at he
 have go:∀ vs,resVs fr h ars=some vs->∃ xs:List Value,AV.rels ρ vs xs/\(results fn tmps).run P w=.ok (if h:xs.toArray.size=1 then xs.toArray[0] else .tuple xs.toArray) w:=by intro vs hvs;have ⟨xs,h1,h2⟩:=AE (P:=P) hf r fn.results.toList ars vs hc hvs;refine ⟨xs,h1,?_⟩;rw [Gl,Array.mapM_eq_mapM_toList];simp [Sem.run_bind,Sem.run_map,h2,Result.andThen_ok,Sem.run_pure]
 split at he
 . rename_i v1 hvs
   cases he
   have ⟨xs,h1,h2⟩:=go _ hvs
   simp only [AV.rels] at h1
   obtain ⟨y,ys,rfl,hy,rfl⟩:=h1
   exact ⟨y,hy,by simpa using h2⟩
 . rename_i vs hne hvs
   cases he
   have ⟨xs,h1,h2⟩:=go _ hvs
   have hlen:=br h1
   refine ⟨.tuple xs.toArray,by simp only [AV.rel];exact ⟨xs,h1,rfl⟩,?_⟩
   rw [h2]
   have:¬ xs.toArray.size=1:=by intro e;simp only [fP] at e;rw [hlen] at e;obtain ⟨y,rfl⟩:=List.length_eq_one_iff.1 e;first | exact hne y rfl | exact hne _ hvs
   rw [dif_neg this]
 . cases he
theorem jy (ρ:eM) (n:Nat):AV.rels ρ (List.replicate n undefA) (List.replicate n undef):=by
 induction n with
 | zero=>simp [AV.rels]
 | succ n ih=>simp only [Dl,AV.rels];exact ⟨_,_,rfl,fM ρ,ih⟩
theorem jn {f:FuncId} {c:Code} (hf:P.funcs[f]?=some fn) (hname:(fn.name == "runtime.NumGoroutine")=false) (hb:fn.body=some c) (args:Array Value) (w:World) :
 (callFunc f args).run P w=.ok (.enter f args) w:=by
 have h1:fn.name≠"runtime.NumGoroutine":=by simpa using hname
 simp [callFunc,hf,h1,hb]
def pL (P:Program) (G:Nat) (f:Nat) (F:dA):Prop:=∀ call,gx P G call->∀ args h v h',F.fits args=true->evBody call F args h=some (v,h')->
 (∀ xs w,(callFunc f xs).run P w=.ok (.enter f xs) w)/\
 ∀ ρ w xs,fw G ρ h w->AV.rels ρ args xs->Calls P f xs.toArray w fun e w'=>∃ ρ' x,e=.returned x/\v.rel ρ' x/\Post G ρ h w ρ' h' w'
def wu (P:Program) (G:Nat) (T:gO) (f:Nat) (F:dA):Prop:=∀ n,(∀ m,m<=n->gx P G (evCall T m))->∀ args h v h',F.fits args=true->evBody (evCall T n) F args h=some (v,h')->
 (∀ xs w,(callFunc f xs).run P w=.ok (.enter f xs) w)/\
 ∀ ρ w xs,fw G ρ h w->AV.rels ρ args xs->Calls P f xs.toArray w fun e w'=>∃ ρ' x,e=.returned x/\v.rel ρ' x/\Post G ρ h w ρ' h' w'
theorem pL.t {f:Nat} {F:dA} (h:pL P G f F):wu P G T f F:=fun n hc=>h _ (hc n (aq n))
def sU (P:Program) (G:Nat) (T:gO):Prop:=∀ f F,T f=some F->(∃ fn,P.funcs[f]?=some fn/\jE P G fn=some F)\/wu P G T f F
theorem wh.native (hT:wh P G T):sU P G T:=fun f F h=>.inl (hT f F h)
theorem E6 (hT:sU P G T) (n:Nat):gx P G (evCall T n):=by
 induction n using Nat.strongRecOn with
 | _ n ih=>
 cases n with
 | zero=>exact fun f args h v h' he=>by cases he
 | succ n=>
  have call_n:gx P G (evCall T n):=ih n (Nat.lt_succ_self n);intro f args h v h' he;simp [evCall] at he;split at he;case h_2=>cases he
  rename_i F hF;split at he;case isFalse=>cases he
  rename_i hfit;rcases hT f F hF with hcp | hnat;rotate_right
  . exact hnat n (fun m hm=>ih m (Nat.lt_succ_of_le hm)) args h v h' hfit he
  have ⟨fn,hfn,hcf⟩:=hcp;unfold jE at hcf;split at hcf;case h_1=>cases hcf
  rename_i c hbody;split at hcf;case h_2=>cases hcf
  rename_i b rs hb hrs;split at hcf;case isTrue=>cases hcf
  rename_i hname;cases hcf;refine ⟨fun xs w=>jn hfn (by simpa using hname) hbody xs w,fun ρ w xs r hx=>?_⟩;have hlen:=br hx;have hf0:AV.rels ρ (enterA ⟨fn.ntmps,rs,b,none⟩ args) ({tmps:=xs.toArray++Array.replicate (fn.ntmps-xs.toArray.size) undef,defers:=[]}:Act).tmps.toList:=by simp [enterA,Array.toList_append,Array.toList_replicate,fP,hlen];exact fR hx (jy ρ _)
  have fin:∀ x fr1 h1,evCode (evCall T n) b (enterA ⟨fn.ntmps,rs,b,none⟩ args) h=some (x,fr1,h1)->(x=.normal\/x=.ret)->resOf fr1 h1 rs=some v->h1=h'->
   Calls P f xs.toArray w fun e w'=>∃ ρ' x,e=.returned x/\v.rel ρ' x/\Post G ρ h w ρ' h' w':=by
   intro x fr1 h1 hev hx1 hres hh;subst hh;refine calls_of_wp hfn hbody (wp_mono (oA call_n c b hb hev hf0 r) fun e a' w' hE=>?_);obtain ⟨ρ',rfl,hf',hd',hp'⟩:=hE;have ⟨y,hy1,hy2⟩:=qz (P:=P) (fn:=fn) hf' hp'.rel hrs hres;rcases hx1 with rfl | rfl
   . exact ⟨hd',y,hy2,ρ',y,rfl,hy1,hp'⟩
   . exact ⟨hd',y,hy2,ρ',y,rfl,hy1,hp'⟩
  unfold evBody at he;split at he
  . rename_i fr1 h1 hev;simp [ae,an] at he;obtain ⟨q,hq,rfl,rfl⟩:=he;exact fin _ _ _ hev (.inl rfl) hq rfl
  . rename_i fr1 h1 hev;simp [ae,an] at he;obtain ⟨q,hq,rfl,rfl⟩:=he;exact fin _ _ _ hev (.inr rfl) hq rfl
  . cases he
theorem PW (hT:wh P G T) (n:Nat):gx P G (evCall T n):=E6 hT.native n
end
end
section
open Go.RowKit
theorem pI {P:Program} {G:Nat} {T:gO} (hT:sU P G T) {n f:Nat} {args:List AV} {h h':AHeap} {b:Bool} (he:evCall T n f args h=some (.bool b,h')) {ρ:eM} {w:World} {xs:Array Value} (r:fw G ρ h w)
 (hro:∀ (i:Nat) o,h.objs[i]?=some o->o.writable=false) (hx:AV.rels ρ args xs.toList):Calls P f xs w fun e w'=>e=.returned (.bool b)/\Below w.heap.size w w':=by
 have:=(E6 hT n f args h _ h' he).2 ρ w xs.toList r hx;refine this.mono fun e w' ⟨ρ',x,h1,h2,h3⟩=>?_;simp [AV.rel] at h2;subst h2;refine ⟨h1,h3.os,h3.tape,h3.output,h3.size,fun k hk=>h3.keep k hk ?_⟩;rintro ⟨i,o,a,h4,_,h5,_⟩;rw [hro i o h4] at h5;cases h5
end
section
open Go.RowKit Go.ChangeShapes Go.WideShapes
variable {s n:Nat}
inductive SK where
 | int (k:IntKind)
 | bool
 deriving DecidableEq
def SK.fits:SK->AV->Prop
 | .int k,v=>∃ n,v=.int k n/\(Lit.int k n).wf=true
 | .bool,v=>∃ b,v=.bool b
def fits:List SK->List AV->Prop
 | [],l=>l=[]
 | k::ks,l=>∃ v vs,l=v::vs/\k.fits v/\fits ks vs
theorem mH:∀ {ks:List SK} {vs:List AV},fits ks vs->vs.length=ks.length
 | [],_,h=>by simp [fits] at h;simp [h]
 | k::ks,_,h=>by simp [fits] at h;obtain ⟨v,vs,rfl,_,h⟩:=h;simp [mH h]
theorem uL:∀ {ks ls:List SK} {vs us:List AV},fits ks vs->fits ls us->fits (ks++ls) (vs++us)
 | [],_,_,_,h,g=>by simp [fits] at h;subst h;simpa using g
 | k::ks,_,_,_,h,g=>by simp [fits] at h;obtain ⟨v,vs,rfl,h1,h2⟩:=h;exact ⟨v,_,rfl,h1,uL h2 g⟩
def yl (P:Program) (g:TypeId->Option (List SK)):List Field->Nat->Option (List SK)
 | [],_=>some []
 | f::fs,o=>match g f.type,yl P g fs (o+P.cellsOf f.type) with
  | some a,some b=>if f.offset=o/\P.cellsOf f.type=a.length then some (a++b) else none
  | _,_=>none
def yk (P:Program):Nat->TypeId->Option (List SK)
 | 0,_=>none
 | n+1,t=>match P.underlying t with
  | some (.int k)=>some [.int k]
  | some .bool=>some [.bool]
  | some (.struct fs)=>yl P (yk P n) fs.toList 0
  | _=>none
section
variable {H:Type} {enc:TypeId×Value->H} {P:Program} {w:World} {base:Nat} {spare:Nat->Bool} {held:Bool}
theorem uK (ih:∀ fuel t cs x ks,yk P n t=some ks->P.cellsOf t=ks.length->cs.length=ks.length->DataW.trod enc P w base spare held fuel t cs=some x->∃ vs,(∀ ρ,AV.rels ρ vs cs)/\fits ks vs) {fuel:Nat} :
 ∀ (fs:List Field) (o:Nat) (ks:List SK) (cs:List Value) (xs:List (DataW H×List MemPlace)),yl P (yk P n) fs o=some ks->o+ks.length<=cs.length->xs.length=fs.length->
  (∀ (i:Nat) f,fs[i]?=some f->DataW.trod enc P w base spare held fuel f.type ((cs.drop f.offset).take (P.cellsOf f.type))=xs[i]?)->∃ vs,(∀ ρ,AV.rels ρ vs ((cs.drop o).take ks.length))/\fits ks vs
 | [],o,ks,cs,xs,h,_,_,_=>by simp [yl,ai] at h;subst h;exact ⟨[],fun ρ=>by simp [AV.rels],rfl⟩
 | f::fs,o,ks,cs,xs,h,hl,hx,hf=>by
  simp [yl] at h;split at h;case h_2=>cases h
  rename_i a b ha hb;split at h;case isFalse=>cases h
  rename_i hc;cases h;rw [aM] at hl;have e0:=hf 0 f rfl;cases xs with
  | nil=>simp at hx
  | cons x xs=>simp [ad] at e0;rw [hc.1,hc.2] at e0;have ⟨vs,h1,h2⟩:=ih fuel f.type _ x a ha hc.2 (by simp;omega) e0;have ⟨us,h3,h4⟩:=uK ih fs (o+P.cellsOf f.type) b cs xs hb (by rw [hc.2];omega) (by simpa using hx) (fun i g hg=>by simpa using hf (i+1) g (by simpa using hg));refine ⟨vs++us,fun ρ=>?_,uL h2 h4⟩;have:=fR (h1 ρ) (h3 ρ);rw [hc.2] at this;rw [aM,List.take_add,mu];exact this
theorem AZ:∀ (n fuel:Nat) (t:TypeId) (cs:List Value) (x:DataW H×List MemPlace) (ks:List SK),yk P n t=some ks->P.cellsOf t=ks.length->cs.length=ks.length->
 DataW.trod enc P w base spare held fuel t cs=some x->∃ vs,(∀ ρ,AV.rels ρ vs cs)/\fits ks vs
 | 0,_,_,_,_,_,hk,_,_,_=>by simp [yk] at hk
 | n+1,fuel,t,cs,x,ks,hk,hc,hl,h=>by
  simp [yk] at hk;split at hk
  . rename_i k hu;cases hk;have ⟨n',hcs,_,hwf⟩:=DataW.trod_int hu h;exact ⟨[.int k n'],fun ρ=>by simp [AV.rels,AV.rel,hcs],⟨_,_,rfl,⟨n',rfl,hwf⟩,rfl⟩⟩
  . rename_i hu;cases hk;have ⟨b,hcs,_⟩:=DataW.trod_bool hu h;exact ⟨[.bool b],fun ρ=>by simp [AV.rels,AV.rel,hcs],⟨_,_,rfl,⟨b,rfl⟩,rfl⟩⟩
  . rename_i fs hu;have ⟨xs,k,hk1,_,_,hxl,hf⟩:=DataW.trod_struct hu h;have ⟨vs,h1,h2⟩:=uK (AZ n) fs.toList 0 ks cs xs hk (by omega) (by simpa using hxl) (fun i f hfi=>hf i f (by simpa using hfi));refine ⟨vs,fun ρ=>?_,h2⟩;have:=h1 ρ;rwa [dN,<- hl,gB] at this
  . cases hk
def Ug (c:Option Nat) (i n:Nat):AV:=match c with
 | none=>.nilslice
 | some c=>.slice i 0 n (.exact c)
def oM (cs:List AV):AObj:=match cs with
 | []=>.dead
 | v::vs=>.cells true (v::vs) none
theorem rowA_ro (cs:List AV):(oM cs).writable=false:=by cases cs<;>rfl
theorem uJ (hs:0<s):∀ (l:List (List AV)),(∀ r∈l,r.length=s)->∀ j,l.flatten[j]?=(l[j / s]?).bind (·[j % s]?)
 | [],_,j=>by simp
 | r::l,hl,j=>by
  have hr:=hl r (by simp);rw [mr];by_cases hj:j<s
  . rw [ay (by omega),Nat.div_eq_of_lt hj,bL hj];simp
  . have e:j=(j-s)+s:=by omega
    rw [aB (by omega),hr,uJ hs l (fun q hq=>hl q (by simp [hq])),e,Nat.add_div_right _ hs,Nat.add_mod_right];simp
theorem uI :∀ {l:List (List AV)},(∀ r∈l,r.length=s)->l.flatten.length=l.length*s
 | [],_=>by simp
 | r::l,hl=>by rw [mr,aM,hl r (by simp),uI (fun q hq=>hl q (by simp [hq])),bn,dy,j5]
def SlOk (c:Option Nat) (n:Nat):Prop:=match c with
 | none=>n=0
 | some c=>n<=c/\c<=maxLen
theorem rh {a:Addr} {cs:List Value} (h:w.cells? base a n=some cs):cs.length=n/\∀ j,j<n->w.cell? (a.add j)=cs[j]?:=by have ⟨_,h1,h2⟩:=World.cells?_some h;exact ⟨h1,h2⟩
theorem AM {t e:TypeId} {v:Value} {d:DataW H} {ps:List MemPlace} {ks:List SK} (ht:P.underlying t=some (.slice e)) (hk:yk P 4 e=some ks) (hc:P.cellsOf e=ks.length) (hpos:0<ks.length)
 (hv:v.cells.toList=[v]) (h:DataW.Trod enc P w 0 (fun _=>true) held t v d ps) (hlt:∀ x∈ps,x.block<w.heap.size) :
 ∃ (c:Option Nat) (l:List (List AV)) (a:Addr),SlOk c l.length/\(∀ r∈l,fits ks r)/\(oM l.flatten).holds eM.nil w a/\∀ (ρ:eM) i,ρ.addr[i]?=some a->(Ug c i l.length).rel ρ v:=by
 have ⟨fuel,h⟩:=h
 rw [hv] at h
 rcases Go.Deep.open_slice ht h with ⟨hcs,_⟩ | ⟨a,len,cap,m,n,D,Pl,hcs,_,hl,hm,hmm,hx,hel⟩
 . obtain rfl:v=.slice none 0 0:=by simpa using hcs
   exact ⟨none,[],⟨0,0,none⟩,rfl,by simp,trivial,fun ρ i _=>by simp [Ug,AV.rel]⟩
 . obtain rfl:v=.slice (some a) len cap:=by simpa using hcs
   have hmc:m=cap:=by simpa using hmm
   subst hmc
   have each:∀ i,i<len->∃ q:List Value×List AV,w.cells? 0 (a.add (i*ks.length)) ks.length=some q.1/\(∀ ρ,AV.rels ρ q.2 q.1)/\fits ks q.2:=by intro i hi;have ⟨cs',h1,h2⟩:=hel i (by omega);rw [hc] at h1;have ⟨vs,h3,h4⟩:=AZ 4 n e cs' _ ks hk hc (rh h1).1 h2;exact ⟨(cs',vs),h1,h3,h4⟩
   have ⟨q,hq⟩:=Go.Deep.choose_lt each
   refine ⟨some m,(List.range len).map fun i=>(q i).2,a,⟨by simpa using hl,hm⟩,?_,?_,?_⟩
   . intro r hr
     obtain ⟨i,hi,rfl⟩:=gk.1 hr
     exact (hq i (dq.1 hi)).2.2
   . have hrl:∀ r∈(List.range len).map (fun i=>(q i).2),r.length=ks.length:=fun r hr=>by obtain ⟨i,hi,rfl⟩:=gk.1 hr;exact mH (hq i (dq.1 hi)).2.2
     have get:∀ (j:Nat) v,((List.range len).map fun i=>(q i).2).flatten[j]?=some v->∃ x,w.cell? (a.add j)=some x/\v.rel eM.nil x:=by
      intro j v hj;rw [uJ hpos _ hrl] at hj;have ⟨r,hr1,hr2⟩:=dp.1 hj;rw [gZ,ae] at hr1;obtain ⟨i,hi,rfl⟩:=hr1;have hil:j / ks.length<len:=by simpa using (aa.1 hi).1
      obtain rfl:j / ks.length=i:=by rw [kv hil] at hi;exact aw hi
      have ⟨h1,h2,h3⟩:=hq _ hil;have ⟨x,hx1,hx2⟩:=da (h2 eM.nil) hr2;have ⟨h4,h5⟩:=rh h1;have h6:=h5 (j % ks.length) (Nat.mod_lt _ hpos);rw [gN,hx1] at h6;have e:j / ks.length*ks.length+j % ks.length=j:=by rw [Nat.mul_comm];exact Nat.div_add_mod j ks.length
      rw [e] at h6;exact ⟨x,h6,hx2⟩
     cases hfl:((List.range len).map fun i=>(q i).2).flatten with
     | nil=>trivial
     | cons u us=>rw [hfl] at get;have ⟨x,hx1,_⟩:=get 0 u rfl;exact ⟨by simpa [add_block] using World.block_lt_of_cell? w _ hx1,get⟩
   . intro ρ i hi
     simp only [Ug,AV.rel,dS,HO]
     exact ⟨a,m,hi,rfl,.inl (by simp [Addr.add])⟩
theorem ros_ro {os:List AObj} (h:∀ o∈os,o.writable=false):∀ (i:Nat) o,(AHeap.mk os []).objs[i]?=some o->o.writable=false:=fun i o hi=>h o (cW hi)
end
end
section
variable {call:cT} {f:dA} {h h':AHeap} {args:List AV}
structure FF where
 get:Nat->AV
variable {ff':FF}
def FF.set (fr:FF) (d:Nat) (v:AV):FF:=⟨fun k=>if k=d then v else fr.get k⟩
def FF.eval (fr:FF):AOpd->AV
 | .tmp t=>fr.get t
 | .const v=>v
 | .glob g=>.ptr g 0
 | .func f=>.func f [] []
def FF.putD (fr:FF):Option Nat->AV->FF
 | some d,v=>fr.set d v
 | none,_=>fr
abbrev evOpF (o:AOp) (fr:FF) (h:AHeap):Option (AV×AHeap):=evOpE fr.eval o h
def evAnyF (call:cT) (o:AOp) (fr:FF) (h:AHeap):Option (AV×AHeap):=
 match o with
 | .call f args=>call f (args.map fr.eval) h
 | .callv x args=>match fr.eval x with
  | .func f first cap=>call f (first++args.map fr.eval++cap) h
  | _=>none
 | o=>evOpF o fr h
def wantedF (g:Option (Nat×Bool)) (fr:FF):Bool:=
 match g with
 | none=>true
 | some (s,want)=>match fr.get s with | .bool b=>b == want | _=>false
def j9 (call:cT) (o:aK) (fr:FF) (h:AHeap):Option (FF×AHeap):=
 match wantedF o.guard fr with
 | true=>match evAnyF call o.op fr h with
  | some (v,h')=>some (fr.putD o.dst v,h')
  | none=>none
 | false=>some (fr.putD o.dst undefA,h)
def evOpsF (call:cT):List aK->FF->AHeap->Option (FF×AHeap)
 | [],fr,h=>some (fr,h)
 | o::r,fr,h=>match j9 call o fr h with
  | some (fr',h')=>evOpsF call r fr' h'
  | none=>none
def stableF (snaps:List AHeap) (o:aK) (fr:FF) (v:AV) (lo hi:Nat):Bool:=
 ((snaps.drop lo).take (hi+1-lo)).all fun h=>match evOpF o.op fr h with | some (u,_)=>decide (u=v) | none=>false
def steadyF (final:FF) (snaps:List AHeap):List (aK×dB)->List (FF×AV)->Bool
 | [],[]=>true
 | (o,st)::r,(fr,v)::q=>
  (match st with
   | .reads lo hi=>!(wantedF o.guard fr) || stableF snaps o fr v lo hi
   | _=>true) && steadyF final snaps r q
 | _,_=>false
def evDrawF (call:cT):List (aK×dB)->FF->AHeap->List AHeap->List (FF×AV)->Option (FF×AHeap×List AHeap×List (FF×AV))
 | [],fr,h,sn,ms=>some (fr,h,sn.reverse,ms.reverse)
 | (o,st)::r,fr,h,sn,ms=>
  match wantedF o.guard fr with
  | true=>match (match st with | .loud=>evAnyF call o.op fr h | _=>evOpF o.op fr h) with
   | some (v,h')=>match st with
    | .loud=>evDrawF call r (fr.putD o.dst v) h' (h'::sn) ((fr,v)::ms)
    | _=>evDrawF call r (fr.putD o.dst v) h sn ((fr,v)::ms)
   | none=>none
  | false=>match st with
   | .loud=>evDrawF call r (fr.putD o.dst undefA) h (h::sn) ((fr,undefA)::ms)
   | _=>evDrawF call r (fr.putD o.dst undefA) h sn ((fr,undefA)::ms)
abbrev HC:=Option (iD×FF×AHeap)
def iterF (step:FF->AHeap->HC):Nat->FF->AHeap->HC
 | 0,_,_=>none
 | n+1,fr,h=>match step fr h with
  | some (.normal,fr',h')=>iterF step n fr' h'
  | r=>r
def evCodeF (call:cT):ACode->FF->AHeap->HC
 | .skip,fr,h=>some (.normal,fr,h)
 | .region ops,fr,h=>match evOpsF call ops fr h with
  | some (fr',h')=>some (.normal,fr',h')
  | none=>none
 | .draw ops,fr,h=>match evDrawF call ops fr h [h] [] with
  | some (fr',h',sn,ms)=>if steadyF fr' sn ops ms then some (.normal,fr',h') else none
  | none=>none
 | .seq a b,fr,h=>match evCodeF call a fr h with
  | some (.normal,fr',h')=>evCodeF call b fr' h'
  | r=>r
 | .cond c a b,fr,h=>match fr.eval c with
  | .bool true=>evCodeF call a fr h
  | .bool false=>evCodeF call b fr h
  | _=>none
 | .block id a,fr,h=>match evCodeF call a fr h with
  | some (.exit j,fr',h')=>if j=id then some (.normal,fr',h') else some (.exit j,fr',h')
  | r=>r
 | .loop a,fr,h=>iterF (evCodeF call a) rounds fr h
 | .exit id,fr,h=>some (.exit id,fr,h)
 | .ret,fr,h=>some (.ret,fr,h)
def OZ (fr:FF) (h:AHeap):rz->Option AV
 | .tmp t=>some (fr.get t)
 | .cell1 t=>match fr.get t with | .ptr i o=>h.cell i o | _=>none
 | .cellN t n=>match fr.get t with | .ptr i o=>(h.jc i o n).map .agg | _=>none
def D3 (fr:FF) (h:AHeap):List rz->Option (List AV)
 | []=>some []
 | r::rs=>match OZ fr h r,D3 fr h rs with
  | some v,some vs=>some (v::vs)
  | _,_=>none
def resOfF (fr:FF) (h:AHeap) (rs:List rz):Option AV:=
 match D3 fr h rs with
 | some [v]=>some v
 | some vs=>some (.tuple vs)
 | none=>none
def iN (args:List AV):FF:=⟨fun k=>args.getD k undefA⟩
def uM (n:Nat):Option Nat->Bool
 | some d=>decide (d<n)
 | none=>true
def ACode.within (n:Nat):ACode->Bool
 | .region ops=>ops.all fun o=>uM n o.dst
 | .draw ops=>ops.all fun o=>uM n o.1.dst
 | .seq a b=>a.within n && b.within n
 | .cond _ a b=>a.within n && b.within n
 | .block _ a=>a.within n
 | .loop a=>a.within n
 | _=>true
structure gH (n:Nat) (fr:AFrame) (ff:FF):Prop where
 len:fr.length=n
 get:∀ t,fr.getD t undefA=ff.get t
section
variable {n:Nat} {fr:AFrame} {ff:FF} (ag:gH n fr ff)
include ag
theorem gH.eval:ff.eval=fr.eval:=by funext x;cases x<;>simp [FF.eval,AFrame.eval];exact (ag.get _).symm
theorem gH.set {d:Nat} (hd:d<n) (v:AV):gH n (fr.set d v) (ff.set d v):=by
 refine ⟨by rw [bV];exact ag.len,fun t=>?_⟩;simp only [FF.set];rw [aO,eU];have hl:=ag.len;by_cases ht:d=t
 . subst ht;rw [if_pos rfl,pQ,if_pos rfl];rfl
 . rw [if_neg ht,if_neg (aY ht),<- aO];exact ag.get t
theorem gH.putD {d:Option Nat} (hd:uM n d=true) (v:AV):gH n (fr.putD d v) (ff.putD d v):=by
 cases d with
 | none=>exact ag
 | some d=>exact ag.set (of_decide_eq_true hd) v
theorem gH.op (o:AOp) (h:AHeap):evOpF o ff h=evOp o fr h:=by rw [evOpF,ag.eval]
theorem gH.any (call:cT) (o:AOp) (h:AHeap):evAnyF call o ff h=evAny call o fr h:=by cases o<;>simp [evAnyF,evAny,ag.eval,ag.op];all_goals rfl
theorem gH.wanted (g:Option (Nat×Bool)):wantedF g ff=wantedA g fr:=by
 rcases g with _ | ⟨s,w⟩
 . rfl
 . simp [wantedF,wantedA,<- ag.get s,aO];cases fr[s]? with
   | none=>rfl
   | some v=>cases v<;>rfl
theorem gH.oper {o:aK} (ho:uM n o.dst=true) (e:j9 call o ff h=some (ff',h')):∃ fr',evOper call o fr h=some (fr',h')/\gH n fr' ff':=by
 simp [j9,ag.wanted,ag.any] at e;simp [evOper];cases hw:wantedA o.guard fr with
 | false=>rw [hw] at e;simp [ai,an] at e;obtain ⟨rfl,rfl⟩:=e;exact ⟨_,rfl,ag.putD ho _⟩
 | true=>
  rw [hw] at e;simp only at e;cases hv:evAny call o.op fr h with
  | none=>rw [hv] at e;cases e
  | some p=>rw [hv] at e;simp [ai,an] at e;obtain ⟨rfl,rfl⟩:=e;exact ⟨_,rfl,ag.putD ho _⟩
end
theorem Bp {n:Nat} :∀ (l:List aK) (_:(l.all fun o=>uM n o.dst)=true) {fr:AFrame} {ff ff':FF} {h h':AHeap} (_:gH n fr ff),evOpsF call l ff h=some (ff',h')->∃ fr',evOps call l fr h=some (fr',h')/\gH n fr' ff'
 | [],_,fr,ff,ff',h,h',ag,e=>by simp [evOpsF,ai,an] at e;obtain ⟨rfl,rfl⟩:=e;exact ⟨_,rfl,ag⟩
 | o::l,hl,fr,ff,ff',h,h',ag,e=>by
  rw [ik,aA] at hl;simp [evOpsF] at e;split at e
  . rename_i ff1 h1 e1;have ⟨fr1,e2,ag1⟩:=ag.oper hl.1 e1;have ⟨fr2,e3,ag2⟩:=Bp l hl.2 ag1 e;exact ⟨fr2,by simp [evOps,e2,e3],ag2⟩
  . cases e
def wv (n:Nat):List (AFrame×AV)->List (FF×AV)->Prop
 | [],[]=>True
 | (fr,v)::r,(ff,u)::q=>gH n fr ff/\v=u/\wv n r q
 | _,_=>False
theorem wv.mk {n:Nat} {fr:AFrame} {ff:FF} {v u:AV} {r:List (AFrame×AV)} {q:List (FF×AV)} (a:gH n fr ff) (b:v=u) (c:wv n r q):wv n ((fr,v)::r) ((ff,u)::q):=⟨a,b,c⟩
theorem wv.none {n:Nat}:wv n [] []:=trivial
theorem wv.append {n:Nat}:∀ {a:List (AFrame×AV)} {b:List (FF×AV)} {c:List (AFrame×AV)} {d:List (FF×AV)},wv n a b->wv n c d->wv n (a++c) (b++d)
 | [],[],_,_,_,k=>k
 | (fr,v)::r,(ff,u)::q,_,_,m,k=>⟨m.1,m.2.1,wv.append m.2.2 k⟩
 | [],_::_,_,_,m,_=>m.elim
 | _::_,[],_,_,m,_=>m.elim
theorem wv.reverse {n:Nat}:∀ {a:List (AFrame×AV)} {b:List (FF×AV)},wv n a b->wv n a.reverse b.reverse
 | [],[],_=>trivial
 | (fr,v)::r,(ff,u)::q,m=>by rw [HM,HM];exact wv.append (wv.reverse m.2.2) ⟨m.1,m.2.1,trivial⟩
 | [],_::_,m=>m.elim
 | _::_,[],m=>m.elim
theorem ma {n:Nat} :∀ (l:List (aK×dB)) (_:(l.all fun o=>uM n o.1.dst)=true) {fr:AFrame} {ff ff':FF} {h h':AHeap} {sn sn':List AHeap} {ms:List (AFrame×AV)} {mf mf':List (FF×AV)} (_:gH n fr ff) (_:wv n ms mf),
 evDrawF call l ff h sn mf=some (ff',h',sn',mf')->∃ fr' ms',evDraw call l fr h sn ms=some (fr',h',sn',ms')/\gH n fr' ff'/\wv n ms' mf'
 | [],_,fr,ff,ff',h,h',sn,sn',ms,mf,mf',ag,mt,e=>by simp [evDrawF,ai,an] at e;obtain ⟨rfl,rfl,rfl,rfl⟩:=e;exact ⟨_,_,rfl,ag,mt.reverse⟩
 | (o,st)::l,hl,fr,ff,ff',h,h',sn,sn',ms,mf,mf',ag,mt,e=>by
  rw [ik,aA] at hl;simp [evDrawF,ag.wanted,ag.any,ag.op] at e;simp [evDraw];cases hw:wantedA o.guard fr with
  | true=>
   rw [hw] at e;cases st with
   | loud=>
    simp only at e ⊢;cases hv:evAny call o.op fr h with
    | none=>rw [hv] at e;cases e
    | some p=>rw [hv] at e;exact ma l hl.2 (ag.putD hl.1 _) (wv.mk ag rfl mt) e
   | reads lo hi=>
    simp only at e ⊢;cases hv:evOp o.op fr h with
    | none=>rw [hv] at e;cases e
    | some p=>rw [hv] at e;exact ma l hl.2 (ag.putD hl.1 _) (wv.mk ag rfl mt) e
   | still=>
    simp only at e ⊢;cases hv:evOp o.op fr h with
    | none=>rw [hv] at e;cases e
    | some p=>rw [hv] at e;exact ma l hl.2 (ag.putD hl.1 _) (wv.mk ag rfl mt) e
  | false=>rw [hw] at e;simp only at e ⊢;cases st<;>simp only at e ⊢;all_goals exact ma l hl.2 (ag.putD hl.1 _) (wv.mk ag rfl mt) e
theorem sT {n:Nat} {fr:AFrame} {ff:FF} {sn:List AHeap}:∀ (l:List (aK×dB)) {ms:List (AFrame×AV)} {mf:List (FF×AV)} (_:wv n ms mf),steadyF ff sn l mf=steady fr sn l ms
 | [],[],[],_=>rfl
 | (o,st)::l,(fr1,v)::ms,(ff1,u)::mf,mt=>by obtain ⟨ag,rfl,mt⟩:=mt;have ih:=sT (fr:=fr) (ff:=ff) (sn:=sn) l mt;simp [steadyF,steady,ag.wanted,stableF,stable,ag.op,ih];rfl
 | _,_::_,[],m=>m.elim
 | _,[],_::_,m=>m.elim
 | [],_::_,_::_,_=>rfl
 | _::_,[],[],_=>rfl
theorem yE {n:Nat} {f:FF->AHeap->HC} {g:AFrame->AHeap->HH} (ih:∀ fr ff x ff' h h',gH n fr ff->f ff h=some (x,ff',h')->∃ fr',g fr h=some (x,fr',h')/\gH n fr' ff') :
 ∀ (k:Nat) {fr ff x ff' h h'},gH n fr ff->iterF f k ff h=some (x,ff',h')->∃ fr',iter g k fr h=some (x,fr',h')/\gH n fr' ff'
 | 0,_,_,_,_,_,_,_,e=>by cases e
 | k+1,fr,ff,x,ff',h,h',ag,e=>by
  simp [iterF] at e;split at e
  . rename_i ff1 h1 e1;have ⟨fr1,e2,ag1⟩:=ih _ _ _ _ _ _ ag e1;have ⟨fr2,e3,ag2⟩:=yE ih k ag1 e;exact ⟨fr2,by simp [iter,e2,e3],ag2⟩
  . rename_i hno;have ⟨fr1,e2,ag1⟩:=ih _ _ _ _ _ _ ag e;refine ⟨fr1,?_,ag1⟩;simp [iter,e2];cases x<;>first | exact absurd e (hno _ _) | rfl
theorem gM {n:Nat} :∀ (c:ACode) (_:c.within n=true) {fr:AFrame} {ff ff':FF} {x:iD} {h h':AHeap} (_:gH n fr ff),evCodeF call c ff h=some (x,ff',h')->∃ fr',evCode call c fr h=some (x,fr',h')/\gH n fr' ff'
 | .skip,_,fr,ff,ff',x,h,h',ag,e=>by cases e;exact ⟨_,rfl,ag⟩
 | .exit _,_,fr,ff,ff',x,h,h',ag,e=>by cases e;exact ⟨_,rfl,ag⟩
 | .ret,_,fr,ff,ff',x,h,h',ag,e=>by cases e;exact ⟨_,rfl,ag⟩
 | .region l,hw,fr,ff,ff',x,h,h',ag,e=>by
  simp [evCodeF] at e;split at e
  . rename_i e1;cases e;have ⟨fr1,e2,ag1⟩:=Bp l hw ag e1;exact ⟨fr1,by simp [evCode,e2],ag1⟩
  . cases e
 | .draw l,hw,fr,ff,ff',x,h,h',ag,e=>by
  simp [evCodeF] at e;split at e
  . rename_i ff1 h1 sn ms e1;split at e
    . rename_i hst;cases e;have ⟨fr1,ms1,e2,ag1,mt⟩:=ma (ms:=[]) l hw ag wv.none e1;rw [sT (fr:=fr1) l mt] at hst;exact ⟨fr1,by simp [evCode,e2,hst,if_true],ag1⟩
    . cases e
  . cases e
 | .seq a b,hw,fr,ff,ff',x,h,h',ag,e=>by
  simp [ACode.within,aA] at hw;simp [evCodeF] at e;split at e
  . rename_i ff1 h1 e1;have ⟨fr1,e2,ag1⟩:=gM a hw.1 ag e1;have ⟨fr2,e3,ag2⟩:=gM b hw.2 ag1 e;exact ⟨fr2,by simp [evCode,e2,e3],ag2⟩
  . rename_i hno;have ⟨fr1,e2,ag1⟩:=gM a hw.1 ag e;refine ⟨fr1,?_,ag1⟩;simp [evCode,e2];cases x<;>first | exact absurd e (hno _ _) | rfl
 | .cond c a b,hw,fr,ff,ff',x,h,h',ag,e=>by
  simp [ACode.within,aA] at hw;simp [evCodeF,ag.eval] at e;split at e
  . rename_i hc;have ⟨fr1,e2,ag1⟩:=gM a hw.1 ag e;exact ⟨fr1,by simp [evCode,hc,e2],ag1⟩
  . rename_i hc;have ⟨fr1,e2,ag1⟩:=gM b hw.2 ag e;exact ⟨fr1,by simp [evCode,hc,e2],ag1⟩
  . cases e
 | .block id a,hw,fr,ff,ff',x,h,h',ag,e=>by
  simp [ACode.within] at hw;simp [evCodeF] at e;split at e
  . rename_i j ff1 h1 e1;have ⟨fr1,e2,ag1⟩:=gM a hw ag e1;split at e
    . rename_i hj;cases e;exact ⟨fr1,by simp [evCode,e2,hj,if_true],ag1⟩
    . rename_i hj;cases e;exact ⟨fr1,by simp [evCode,e2,hj,if_false],ag1⟩
  . rename_i hno;have ⟨fr1,e2,ag1⟩:=gM a hw ag e;refine ⟨fr1,?_,ag1⟩;simp [evCode,e2];cases x<;>first | exact absurd e (hno _ _ _) | rfl
 | .loop a,hw,fr,ff,ff',x,h,h',ag,e=>by simp [ACode.within] at hw;simp [evCodeF] at e;have ⟨fr1,e2,ag1⟩:=yE (n:=n) (f:=evCodeF call a) (g:=evCode call a) (fun fr ff x ff' h h' ag1 e1=>gM a hw ag1 e1) rounds ag e;exact ⟨fr1,by simp [evCode,e2],ag1⟩
theorem Fo :gH (enterA f args).length (enterA f args) (iN args):=by
 refine ⟨rfl,fun t=>?_⟩;simp [enterA,iN,aO];rcases bH t args.length with ht | ht
 . rw [ay ht]
 . rw [aB ht,aV ht,bS];split<;>rfl
theorem Bo {n:Nat} {fr:AFrame} {ff:FF} (ag:gH n fr ff) (h:AHeap):∀ rs,D3 ff h rs=resVs fr h rs
 | []=>rfl
 | r::rs=>by
  have h1:OZ ff h r=resV fr h r:=by cases r<;>simp only [OZ,resV,ag.get];all_goals (cases ff.get _<;>rfl)
  simp [D3,resVs,h1,Bo ag h rs];rfl
theorem DA {n m:Nat} (hnm:n<=m):∀ {c:ACode},c.within n=true->c.within m=true:=by
 have hd:∀ d,uM n d=true->uM m d=true:=fun d=>by
  cases d with
  | none=>exact id
  | some d=>intro e;exact decide_eq_true (cq (of_decide_eq_true e) hnm)
 intro c;induction c with
 | region l=>intro h;simp [ACode.within,aQ] at h ⊢;exact fun x hx=>hd _ (h x hx)
 | draw l=>intro h;simp only [ACode.within,aQ] at h ⊢;exact fun x hx=>hd _ (h x hx)
 | seq a b iha ihb=>intro h;simp [ACode.within,aA] at h ⊢;exact ⟨iha h.1,ihb h.2⟩
 | cond c a b iha ihb=>intro h;simp [ACode.within,aA] at h ⊢;exact ⟨iha h.1,ihb h.2⟩
 | block id a ih=>exact ih
 | loop a ih=>exact ih
 | _=>exact fun h=>h
theorem yF (hw:f.body.within f.ntmps=true) {x:iD} {v:AV} (e:evCodeF call f.body (iN args) h=some (x,ff',h')) (hx:x=.normal\/x=.ret) (hr:resOfF ff' h' f.results=some v) :
 evBody call f args h=some (v,h'):=by
 have ⟨fr',e2,ag⟩:=gM f.body (DA (by simp [enterA];omega) hw) (Fo (f:=f) (args:=args)) e;have hr2:resOf fr' h' f.results=some v:=by rw [<- hr];simp [resOf,resOfF,Bo ag];rfl
 simp [evBody,e2];rcases hx with rfl | rfl<;>simp [hr2]<;>rfl
end
section
variable {F:dA} {h:AHeap} {o:AOp} {T:gO} {fr:FF} {f:Nat} {r:AV×AHeap} {args:List AV} {g:FF->AHeap->HC}
def Le (a b:cT):Prop:=∀ f xs h r,a f xs h=some r->b f xs h=some r
section
variable {a b:cT} (le:Le a b)
include le
theorem xu (e:evAnyF a o fr h=some r):evAnyF b o fr h=some r:=by
 cases o with
 | call f xs=>exact le _ _ _ _ e
 | callv x xs=>
  simp [evAnyF] at e ⊢;split at e
  . exact le _ _ _ _ e
  . cases e
 | _=>exact e
theorem AP {o:aK} {r:FF×AHeap} (e:j9 a o fr h=some r):j9 b o fr h=some r:=by
 simp [j9] at e ⊢;split at e
 . split at e
   . rename_i v h' e1;rw [xu le e1];exact e
   . cases e
 . exact e
theorem xt:∀ {l:List aK} {fr:FF} {h:AHeap} {r:FF×AHeap},evOpsF a l fr h=some r->evOpsF b l fr h=some r
 | [],_,_,_,e=>e
 | o::l,fr,h,r,e=>by
  simp [evOpsF] at e ⊢;split at e
  . rename_i e1;rw [AP le e1];exact xt e
  . cases e
theorem mono_draw:∀ {l:List (aK×dB)} {fr:FF} {h:AHeap} {sn:List AHeap} {ms:List (FF×AV)} {r:FF×AHeap×List AHeap×List (FF×AV)},evDrawF a l fr h sn ms=some r->evDrawF b l fr h sn ms=some r
 | [],_,_,_,_,_,e=>e
 | (o,st)::l,fr,h,sn,ms,r,e=>by
  simp [evDrawF] at e ⊢;cases hw:wantedF o.guard fr with
  | false=>rw [hw] at e;cases st<;>exact mono_draw e
  | true=>
   rw [hw] at e;cases st with
   | loud=>
    simp only at e ⊢;cases e1:evAnyF a o.op fr h with
    | none=>rw [e1] at e;cases e
    | some p=>rw [e1] at e;rw [xu le e1];exact mono_draw e
   | reads lo hi=>
    simp only at e ⊢;cases e1:evOpF o.op fr h with
    | none=>rw [e1] at e;cases e
    | some p=>rw [e1] at e;exact mono_draw e
   | still=>
    simp only at e ⊢;cases e1:evOpF o.op fr h with
    | none=>rw [e1] at e;cases e
    | some p=>rw [e1] at e;exact mono_draw e
theorem tS {f:FF->AHeap->HC} (ih:∀ {fr h r},f fr h=some r->g fr h=some r):∀ (k:Nat) {fr h r},iterF f k fr h=some r->iterF g k fr h=some r
 | 0,_,_,_,e=>by cases e
 | k+1,fr,h,r,e=>by
  simp [iterF] at e ⊢;split at e
  . rename_i e1;rw [ih e1];exact tS ih k e
  . rename_i hno;rw [ih e];split
    . rename_i e2;rw [<- e] at e2;exact absurd e2 (hno _ _)
    . rfl
theorem fy:∀ {c:ACode} {fr:FF} {h:AHeap} {r:iD×FF×AHeap},evCodeF a c fr h=some r->evCodeF b c fr h=some r
 | .skip,_,_,_,e=>e
 | .exit _,_,_,_,e=>e
 | .ret,_,_,_,e=>e
 | .region l,fr,h,r,e=>by
  simp [evCodeF] at e ⊢;split at e
  . rename_i e1;rw [xt le e1];exact e
  . cases e
 | .draw l,fr,h,r,e=>by
  simp [evCodeF] at e ⊢;split at e
  . rename_i e1;rw [mono_draw le e1];exact e
  . cases e
 | .seq x y,fr,h,r,e=>by
  simp [evCodeF] at e ⊢;split at e
  . rename_i e1;rw [fy e1];exact fy e
  . rename_i hno;rw [fy e];split
    . rename_i e2;rw [<- e] at e2;exact absurd e2 (hno _ _)
    . rfl
 | .cond c x y,fr,h,r,e=>by
  simp [evCodeF] at e ⊢;split at e
  . exact fy e
  . exact fy e
  . cases e
 | .block id x,fr,h,r,e=>by
  simp [evCodeF] at e ⊢;split at e
  . rename_i e1;rw [fy e1];exact e
  . rename_i hno;rw [fy e];split
    . rename_i e2;rw [<- e] at e2;exact absurd e2 (hno _ _ _)
    . rfl
 | .loop x,fr,h,r,e=>by simp [evCodeF] at e ⊢;exact tS le (fun e1=>fy e1) rounds e
end
structure XA (s:Nat->cT) (c:cT):Prop where
 mono:∀ n m,n<=m->Le (s n) (s m)
 some:∀ f xs h r,c f xs h=some r->∃ n,s n f xs h=some r
section
variable {s:Nat->cT} {c:cT} (rs:XA s c)
include rs
theorem D2 (e:evAnyF c o fr h=some r):∃ n,evAnyF (s n) o fr h=some r:=by
 cases o with
 | call f xs=>exact rs.some _ _ _ _ e
 | callv x xs=>
  simp [evAnyF] at e ⊢;split at e
  . exact rs.some _ _ _ _ e
  . cases e
 | _=>exact ⟨0,e⟩
theorem JO {o:aK} {r:FF×AHeap} (e:j9 c o fr h=some r):∃ n,j9 (s n) o fr h=some r:=by
 simp [j9] at e ⊢;split at e
 . split at e
   . rename_i v h' e1;have ⟨n,e2⟩:=D2 rs e1;exact ⟨n,by rw [e2];exact e⟩
   . cases e
 . exact ⟨0,e⟩
theorem D1:∀ {l:List aK} {fr:FF} {h:AHeap} {r:FF×AHeap},evOpsF c l fr h=some r->∃ n,evOpsF (s n) l fr h=some r
 | [],_,_,_,e=>⟨0,e⟩
 | o::l,fr,h,r,e=>by
  simp [evOpsF] at e ⊢;split at e
  . rename_i e1;have ⟨n,e2⟩:=JO rs e1;have ⟨m,e3⟩:=D1 e;refine ⟨max n m,?_⟩;rw [AP (rs.mono n _ (oO n m)) e2];exact xt (rs.mono m _ (nO n m)) e3
  . cases e
theorem rise_draw:∀ {l:List (aK×dB)} {fr:FF} {h:AHeap} {sn:List AHeap} {ms:List (FF×AV)} {r:FF×AHeap×List AHeap×List (FF×AV)},evDrawF c l fr h sn ms=some r->∃ n,evDrawF (s n) l fr h sn ms=some r
 | [],_,_,_,_,_,e=>⟨0,e⟩
 | (o,st)::l,fr,h,sn,ms,r,e=>by
  simp [evDrawF] at e ⊢;cases hw:wantedF o.guard fr with
  | false=>rw [hw] at e;cases st<;>exact rise_draw e
  | true=>
   rw [hw] at e;cases st with
   | loud=>
    simp only at e ⊢;cases e1:evAnyF c o.op fr h with
    | none=>rw [e1] at e;cases e
    | some p=>rw [e1] at e;have ⟨n,e2⟩:=D2 rs e1;have ⟨m,e3⟩:=rise_draw e;refine ⟨max n m,?_⟩;rw [xu (rs.mono n _ (oO n m)) e2];exact mono_draw (rs.mono m _ (nO n m)) e3
   | reads lo hi=>
    simp only at e ⊢;cases e1:evOpF o.op fr h with
    | none=>rw [e1] at e;cases e
    | some p=>rw [e1] at e;exact rise_draw e
   | still=>
    simp only at e ⊢;cases e1:evOpF o.op fr h with
    | none=>rw [e1] at e;cases e
    | some p=>rw [e1] at e;exact rise_draw e
theorem AB {f:Nat->FF->AHeap->HC} (mono:∀ n m,n<=m->∀ {fr h r},f n fr h=some r->f m fr h=some r) (ih:∀ {fr h r},g fr h=some r->∃ n,f n fr h=some r):∀ (k:Nat) {fr h r},iterF g k fr h=some r->∃ n,iterF (f n) k fr h=some r
 | 0,_,_,_,e=>by cases e
 | k+1,fr,h,r,e=>by
  simp [iterF] at e ⊢;split at e
  . rename_i e1;have ⟨n,e2⟩:=ih e1;have ⟨m,e3⟩:=AB mono ih k e;refine ⟨max n m,?_⟩;rw [mono n _ (oO n m) e2];exact tS (a:=c) (b:=c) (fun _ _ _ _ x=>x) (fun x=>mono m _ (nO n m) x) k e3
  . rename_i hno;have ⟨n,e2⟩:=ih e;refine ⟨n,?_⟩;rw [e2];split
    . rename_i e3;rw [<- e] at e3;exact absurd e3 (hno _ _)
    . rfl
theorem gV:∀ {x:ACode} {fr:FF} {h:AHeap} {r:iD×FF×AHeap},evCodeF c x fr h=some r->∃ n,evCodeF (s n) x fr h=some r
 | .skip,_,_,_,e=>⟨0,e⟩
 | .exit _,_,_,_,e=>⟨0,e⟩
 | .ret,_,_,_,e=>⟨0,e⟩
 | .region l,fr,h,r,e=>by
  simp [evCodeF] at e ⊢;split at e
  . rename_i e1;have ⟨n,e2⟩:=D1 rs e1;exact ⟨n,by rw [e2];exact e⟩
  . cases e
 | .draw l,fr,h,r,e=>by
  simp [evCodeF] at e ⊢;split at e
  . rename_i e1;have ⟨n,e2⟩:=rise_draw rs e1;exact ⟨n,by rw [e2];exact e⟩
  . cases e
 | .seq x y,fr,h,r,e=>by
  simp [evCodeF] at e ⊢;split at e
  . rename_i e1;have ⟨n,e2⟩:=gV e1;have ⟨m,e3⟩:=gV e;refine ⟨max n m,?_⟩;rw [fy (rs.mono n _ (oO n m)) e2];exact fy (rs.mono m _ (nO n m)) e3
  . rename_i hno;have ⟨n,e2⟩:=gV e;refine ⟨n,?_⟩;rw [e2];split
    . rename_i e3;rw [<- e] at e3;exact absurd e3 (hno _ _)
    . rfl
 | .cond b x y,fr,h,r,e=>by
  simp [evCodeF] at e ⊢;split at e
  . exact gV e
  . exact gV e
  . cases e
 | .block id x,fr,h,r,e=>by
  simp [evCodeF] at e ⊢;split at e
  . rename_i e1;have ⟨n,e2⟩:=gV e1;exact ⟨n,by rw [e2];exact e⟩
  . rename_i hno;have ⟨n,e2⟩:=gV e;refine ⟨n,?_⟩;rw [e2];split
    . rename_i e3;rw [<- e] at e3;exact absurd e3 (hno _ _ _)
    . rfl
 | .loop x,fr,h,r,e=>by simp [evCodeF] at e ⊢;exact AB rs (g:=evCodeF c x) (f:=fun n=>evCodeF (s n) x) (fun n m hnm _ _ _ e1=>fy (rs.mono n m hnm) e1) (fun e1=>gV e1) rounds e
end
def evBodyF (call:cT) (f:dA) (args:List AV) (h:AHeap):Option (AV×AHeap):=
 match evCodeF call f.body (iN args) h with
 | some (.normal,fr,h')=>(resOfF fr h' f.results).map fun v=>(v,h')
 | some (.ret,fr,h')=>(resOfF fr h' f.results).map fun v=>(v,h')
 | _=>none
def evCallF (T:gO):Nat->cT
 | 0,_,_,_=>none
 | n+1,f,args,h=>match T f with
  | some F=>if F.fits args=true then evBodyF (evCallF T n) F args h else none
  | none=>none
theorem AR {a b:cT} (le:Le a b) (e:evBodyF a F args h=some r):evBodyF b F args h=some r:=by
 simp [evBodyF] at e ⊢;split at e
 . rename_i e1;rw [fy le e1];exact e
 . rename_i e1;rw [fy le e1];exact e
 . cases e
theorem AQ (T:gO):∀ n,Le (evCallF T n) (evCallF T (n+1))
 | 0,_,_,_,_,e=>by cases e
 | n+1,f,xs,h,r,e=>by
  simp [evCallF] at e;rw [evCallF];split at e
  . rename_i F hF;split at e
    . rename_i hfit;rw [if_pos hfit];exact AR (AQ T n) e
    . cases e
  . cases e
theorem qS (T:gO) (n m:Nat) (hnm:n<=m):Le (evCallF T n) (evCallF T m):=by
 induction m with
 | zero=>
  obtain rfl:n=0:=by omega
  exact fun _ _ _ _ e=>e
 | succ m ih=>
  rcases bH m n with h | h
  . obtain rfl:n=m+1:=by omega
    exact fun _ _ _ _ e=>e
  . exact fun f xs hh r e=>AQ T m f xs hh r (ih h f xs hh r e)
open Classical in
noncomputable def run (T:gO):cT:=fun f args h=>if hx:∃ r n,evCallF T n f args h=some r then some hx.choose else none
theorem vQ :run T f args h=some r↔∃ n,evCallF T n f args h=some r:=by
 unfold run;constructor
 . intro e;split at e
   . rename_i hx;cases e;exact hx.choose_spec
   . cases e
 . rintro ⟨n,e⟩;have hx:∃ r n,evCallF T n f args h=some r:=⟨r,n,e⟩
   rw [dif_pos hx];have ⟨m,e2⟩:=hx.choose_spec;have e3:=qS T n (max n m) (oO n m) _ _ _ _ e;have e4:=qS T m (max n m) (nO n m) _ _ _ _ e2;rw [e3] at e4;exact e4.symm
theorem DV (T:gO):XA (evCallF T) (run T):=⟨qS T,fun f xs h r e=>vQ.1 e⟩
theorem uy (hT:T f=some F) (hfit:F.fits args=true) (e:evBodyF (run T) F args h=some r):run T f args h=some r:=by
 have:∃ n,evBodyF (evCallF T n) F args h=some r:=by
  simp [evBodyF] at e ⊢;split at e
  . rename_i e1;have ⟨n,e2⟩:=gV (DV T) e1;exact ⟨n,by rw [e2];exact e⟩
  . rename_i e1;have ⟨n,e2⟩:=gV (DV T) e1;exact ⟨n,by rw [e2];exact e⟩
  . cases e
 have ⟨n,e1⟩:=this;exact vQ.2 ⟨n+1,by rw [evCallF,hT];simp [hfit,if_true];exact e1⟩
def wo (T:gO):Prop:=∀ f F,T f=some F->F.body.within F.ntmps=true
theorem rq (hT:wo T):∀ n f args h r,evCallF T n f args h=some r->evCall T n f args h=some r
 | 0,_,_,_,_,e=>by cases e
 | n+1,f,args,h,r,e=>by
  simp [evCallF] at e;split at e
  . rename_i F hF;split at e;case isFalse=>cases e
    rename_i hfit;have e:=AR (b:=evCall T n) (fun f xs h r=>rq hT n f xs h r) e;simp [evCall,hF,hfit,if_true];simp [evBodyF] at e;split at e
    . rename_i e1;simp [ae] at e;obtain ⟨v,hv,rfl⟩:=e;exact yF (hT f F hF) e1 (dc rfl) hv
    . rename_i e1;simp [ae] at e;obtain ⟨v,hv,rfl⟩:=e;exact yF (hT f F hF) e1 (dx rfl) hv
    . cases e
  . cases e
theorem mQ (hT:wo T) (e:run T f args h=some r):∃ n,evCall T n f args h=some r:=by have ⟨n,e1⟩:=vQ.1 e;exact ⟨n,rq hT n f args h r e1⟩
end
section
variable {F:dA} {T:gO} {id g j:Nat} {args:List AV} {I:Nat->FF->AHeap->Prop}
@[simp] theorem FF.YT {fr:FF} {d k:Nat} {v:AV}:(fr.set d v).get k=if k=d then v else fr.get k:=rfl
@[simp] theorem FF.UF {fr:FF} {d:Nat} {v:AV}:fr.putD (some d) v=fr.set d v:=rfl
@[simp] theorem FF.UG {fr:FF} {v:AV}:fr.putD none v=fr:=rfl
@[simp] theorem FF.XZ {fr:FF} {t:Nat}:fr.eval (.tmp t)=fr.get t:=rfl
@[simp] theorem FF.eval_const {fr:FF} {v:AV}:fr.eval (.const v)=v:=rfl
@[simp] theorem FF.UH {fr:FF} :fr.eval (.glob g)=.ptr g 0:=rfl
@[simp] theorem FF.eval_func {fr:FF} :fr.eval (.func g)=.func g [] []:=rfl
section
variable {a0 a1 a2 a3 a4 a5 a6 a7:AV} {l:List AV}
@[simp] theorem Yw:(iN (a0::l)).get 0=a0:=rfl
@[simp] theorem Yv:(iN (a0::a1::l)).get 1=a1:=rfl
@[simp] theorem Yu:(iN (a0::a1::a2::l)).get 2=a2:=rfl
@[simp] theorem Yt:(iN (a0::a1::a2::a3::l)).get 3=a3:=rfl
@[simp] theorem Ys:(iN (a0::a1::a2::a3::a4::l)).get 4=a4:=rfl
@[simp] theorem Yr:(iN (a0::a1::a2::a3::a4::a5::l)).get 5=a5:=rfl
@[simp] theorem Yq:(iN (a0::a1::a2::a3::a4::a5::a6::l)).get 6=a6:=rfl
@[simp] theorem Yp:(iN (a0::a1::a2::a3::a4::a5::a6::a7::l)).get 7=a7:=rfl
end
abbrev kP:=iD->FF->AHeap->Prop
def Wp (call:cT) (c:ACode) (fr:FF) (h:AHeap) (Q:kP):Prop:=∃ x fr' h',evCodeF call c fr h=some (x,fr',h')/\Q x fr' h'
def H3 (call:cT) (b:ACode) (Q:kP):kP:=fun x fr h=>match x with
 | .normal=>Wp call b fr h Q
 | x=>Q x fr h
def Da (id:Nat) (Q:kP):kP:=fun x fr h=>match x with
 | .exit j=>if j=id then Q .normal fr h else Q (.exit j) fr h
 | x=>Q x fr h
section
variable {call:cT} {fr:FF} {h:AHeap} {Q R:kP} {a b:ACode}
@[simp] theorem OJ:H3 call b Q .normal fr h=Wp call b fr h Q:=rfl
@[simp] theorem RJ :H3 call b Q (.exit j) fr h=Q (.exit j) fr h:=rfl
@[simp] theorem Uf:H3 call b Q .ret fr h=Q .ret fr h:=rfl
@[simp] theorem On :Da id Q .normal fr h=Q .normal fr h:=rfl
@[simp] theorem Fb :Da id Q (.exit j) fr h=if j=id then Q .normal fr h else Q (.exit j) fr h:=rfl
@[simp] theorem Sr :Da id Q .ret fr h=Q .ret fr h:=rfl
theorem Wp.mono (w:Wp call a fr h Q) (hq:∀ x fr' h',Q x fr' h'->R x fr' h'):Wp call a fr h R:=by have ⟨x,fr',h',e,q⟩:=w;exact ⟨x,fr',h',e,hq _ _ _ q⟩
@[simp] theorem Wp.skip:Wp call .skip fr h Q↔Q .normal fr h:=⟨fun ⟨_,_,_,e,q⟩=>by cases e;exact q,fun q=>⟨_,_,_,rfl,q⟩⟩
@[simp] theorem Wp.exit :Wp call (.exit j) fr h Q↔Q (.exit j) fr h:=⟨fun ⟨_,_,_,e,q⟩=>by cases e;exact q,fun q=>⟨_,_,_,rfl,q⟩⟩
@[simp] theorem Wp.ret:Wp call .ret fr h Q↔Q .ret fr h:=⟨fun ⟨_,_,_,e,q⟩=>by cases e;exact q,fun q=>⟨_,_,_,rfl,q⟩⟩
@[simp] theorem Wp.seq:Wp call (.seq a b) fr h Q↔Wp call a fr h (H3 call b Q):=by
 simp [Wp,evCodeF];constructor
 . rintro ⟨x,fr',h',e,q⟩;split at e
   . rename_i fr1 h1 e1;exact ⟨_,_,_,e1,x,fr',h',e,q⟩
   . rename_i hno;refine ⟨_,_,_,e,?_⟩;cases x<;>first | exact absurd e (hno _ _) | exact q
 . rintro ⟨x,fr',h',e,q⟩;cases x with
   | normal=>have ⟨x2,fr2,h2,e2,q2⟩:=q;exact ⟨x2,fr2,h2,by rw [e];exact e2,q2⟩
   | exit j=>exact ⟨_,_,_,by rw [e],q⟩
   | ret=>exact ⟨_,_,_,by rw [e],q⟩
@[simp] theorem Wp.block :Wp call (.block id a) fr h Q↔Wp call a fr h (Da id Q):=by
 simp [Wp,evCodeF];constructor
 . rintro ⟨x,fr',h',e,q⟩;split at e
   . rename_i j fr1 h1 e1;refine ⟨_,_,_,e1,?_⟩;split at e
     . rename_i hj;cases e;simpa [hj] using q
     . rename_i hj;cases e;simpa [hj] using q
   . rename_i hno;refine ⟨_,_,_,e,?_⟩;cases x<;>first | exact absurd e (hno _ _ _) | exact q
 . rintro ⟨x,fr',h',e,q⟩;cases x with
   | exit j=>
    simp [Fb] at q;by_cases hj:j=id
    . rw [if_pos hj] at q;exact ⟨_,_,_,by rw [e];simp [hj,if_true],q⟩
    . rw [if_neg hj] at q;exact ⟨_,_,_,by rw [e];simp [hj,if_false],q⟩
   | normal=>exact ⟨_,_,_,by rw [e],q⟩
   | ret=>exact ⟨_,_,_,by rw [e],q⟩
def jL (call:cT) (l:List aK) (fr:FF) (h:AHeap) (Q:kP):Prop:=∃ fr' h',evOpsF call l fr h=some (fr',h')/\Q .normal fr' h'
@[simp] theorem Wp.ops {l:List aK}:Wp call (.region l) fr h Q↔jL call l fr h Q:=by
 simp [Wp,jL,evCodeF];constructor
 . rintro ⟨x,fr',h',e,q⟩;split at e
   . cases e;exact ⟨_,_,by assumption,q⟩
   . cases e
 . rintro ⟨fr',h',e,q⟩;exact ⟨_,_,_,by rw [e],q⟩
@[simp] theorem jL.nil:jL call [] fr h Q↔Q .normal fr h:=⟨fun ⟨_,_,e,q⟩=>by cases e;exact q,fun q=>⟨_,_,rfl,q⟩⟩
def valQ (call:cT) (d:Option Nat) (l:List aK) (fr:FF) (Q:kP):Option (AV×AHeap)->Prop
 | some (v,h')=>jL call l (fr.putD d v) h' Q
 | none=>False
@[simp] theorem Uc {d:Option Nat} {l:List aK} {v:AV} {h':AHeap}:valQ call d l fr Q (some (v,h'))=jL call l (fr.putD d v) h' Q:=rfl
theorem jL.cons {o:aK} {l:List aK}:jL call (o::l) fr h Q↔match wantedF o.guard fr with
 | true=>valQ call o.dst l fr Q (evAnyF call o.op fr h)
 | false=>jL call l (fr.putD o.dst undefA) h Q:=by
 simp [jL,evOpsF,j9];cases wantedF o.guard fr with
 | false=>simp
 | true=>
  cases evAnyF call o.op fr h with
  | none=>simp [valQ]
  | some p=>simp [valQ,jL]
@[simp] theorem jL.plain {d:Option Nat} {o:AOp} {l:List aK}:jL call (⟨d,o,none⟩::l) fr h Q↔valQ call d l fr Q (evAnyF call o fr h):=by rw [jL.cons];exact iX
@[simp] theorem jL.guarded {d:Option Nat} {o:AOp} {s:Nat} {w:Bool} {l:List aK}:jL call (⟨d,o,some (s,w)⟩::l) fr h Q↔if wantedF (some (s,w)) fr=true then valQ call d l fr Q (evAnyF call o fr h) else jL call l (fr.putD d undefA) h Q:=by rw [jL.cons];simp only;cases wantedF (some (s,w)) fr<;>simp
def Nj (l:List (aK×dB)) (Q:kP):Option (FF×AHeap×List AHeap×List (FF×AV))->Prop
 | some (fr',h',sn,ms)=>steadyF fr' sn l ms=true/\Q .normal fr' h'
 | none=>False
@[simp] theorem Sk {l:List (aK×dB)} {fr':FF} {h':AHeap} {sn:List AHeap} {ms:List (FF×AV)}:Nj l Q (some (fr',h',sn,ms))=(steadyF fr' sn l ms=true/\Q .normal fr' h'):=rfl
theorem Wp.X0 {l:List (aK×dB)}:Wp call (.draw l) fr h Q↔Nj l Q (evDrawF call l fr h [h] []):=by
 simp [Wp,evCodeF];constructor
 . rintro ⟨x,fr',h',e,q⟩;split at e
   . rename_i e1;split at e
     . cases e;rw [e1];exact ⟨by assumption,q⟩
     . cases e
   . cases e
 . intro d;cases e:evDrawF call l fr h [h] [] with
   | none=>rw [e] at d;exact d.elim
   | some p=>have ⟨fr',h',sn,ms⟩:=p;rw [e] at d;exact ⟨_,_,_,by simp [d.1,if_true],d.2⟩
def dR (call:cT) (all:List (aK×dB)) (r:List (aK×dB)) (fr:FF) (h:AHeap) (sn:List AHeap) (ms:List (FF×AV)) (Q:kP):Prop:=Nj all Q (evDrawF call r fr h sn ms)
@[simp] theorem Wp.draw {l:List (aK×dB)}:Wp call (.draw l) fr h Q↔dR call l l fr h [h] [] Q:=Wp.X0
def MM (call:cT) (all:List (aK×dB)) (d:Option Nat) (r:List (aK×dB)) (fr:FF) (sn:List AHeap) (ms:List (FF×AV)) (Q:kP):Option (AV×AHeap)->Prop
 | some (v,h')=>dR call all r (fr.putD d v) h' (h'::sn) ((fr,v)::ms) Q
 | none=>False
def DN (call:cT) (all:List (aK×dB)) (d:Option Nat) (r:List (aK×dB)) (fr:FF) (h:AHeap) (sn:List AHeap) (ms:List (FF×AV)) (Q:kP):Option (AV×AHeap)->Prop
 | some (v,_)=>dR call all r (fr.putD d v) h sn ((fr,v)::ms) Q
 | none=>False
section
variable {all r:List (aK×dB)} {sn:List AHeap} {ms:List (FF×AV)} {d:Option Nat} {o:AOp} {s lo hi:Nat} {w:Bool} {v:AV} {h':AHeap}
@[simp] theorem R6:MM call all d r fr sn ms Q (some (v,h'))=dR call all r (fr.putD d v) h' (h'::sn) ((fr,v)::ms) Q:=rfl
@[simp] theorem RO:DN call all d r fr h sn ms Q (some (v,h'))=dR call all r (fr.putD d v) h sn ((fr,v)::ms) Q:=rfl
@[simp] theorem dR.nil:dR call all [] fr h sn ms Q↔steadyF fr sn.reverse all ms.reverse=true/\Q .normal fr h:=iX
@[simp] theorem dR.loud:dR call all ((⟨d,o,none⟩,.loud)::r) fr h sn ms Q↔MM call all d r fr sn ms Q (evAnyF call o fr h):=by
 simp [dR,evDrawF,wantedF];cases evAnyF call o fr h with
 | none=>exact iX
 | some p=>exact iX
@[simp] theorem dR.reads:dR call all ((⟨d,o,none⟩,.reads lo hi)::r) fr h sn ms Q↔DN call all d r fr h sn ms Q (evOpF o fr h):=by
 simp [dR,evDrawF,wantedF];cases evOpF o fr h with
 | none=>exact iX
 | some p=>exact iX
@[simp] theorem dR.still:dR call all ((⟨d,o,none⟩,.still)::r) fr h sn ms Q↔DN call all d r fr h sn ms Q (evOpF o fr h):=by
 simp [dR,evDrawF,wantedF];cases evOpF o fr h with
 | none=>exact iX
 | some p=>exact iX
@[simp] theorem dR.abE:dR call all ((⟨d,o,some (s,w)⟩,.loud)::r) fr h sn ms Q↔if wantedF (some (s,w)) fr=true then MM call all d r fr sn ms Q (evAnyF call o fr h) else dR call all r (fr.putD d undefA) h (h::sn) ((fr,undefA)::ms) Q:=by
 simp [dR,evDrawF];cases wantedF (some (s,w)) fr with
 | false=>exact iX
 | true=>
  cases evAnyF call o fr h with
  | none=>exact iX
  | some p=>exact iX
@[simp] theorem dR.aby:dR call all ((⟨d,o,some (s,w)⟩,.reads lo hi)::r) fr h sn ms Q↔if wantedF (some (s,w)) fr=true then DN call all d r fr h sn ms Q (evOpF o fr h) else dR call all r (fr.putD d undefA) h sn ((fr,undefA)::ms) Q:=by
 simp [dR,evDrawF];cases wantedF (some (s,w)) fr with
 | false=>exact iX
 | true=>
  cases evOpF o fr h with
  | none=>exact iX
  | some p=>exact iX
@[simp] theorem dR.abx:dR call all ((⟨d,o,some (s,w)⟩,.still)::r) fr h sn ms Q↔if wantedF (some (s,w)) fr=true then DN call all d r fr h sn ms Q (evOpF o fr h) else dR call all r (fr.putD d undefA) h sn ((fr,undefA)::ms) Q:=by
 simp [dR,evDrawF];cases wantedF (some (s,w)) fr with
 | false=>exact iX
 | true=>
  cases evOpF o fr h with
  | none=>exact iX
  | some p=>exact iX
end
@[simp] theorem Wp.cond {c:AOpd}:Wp call (.cond c a b) fr h Q↔(∃ t,fr.eval c=.bool t)/\if fr.eval c=.bool true then Wp call a fr h Q else Wp call b fr h Q:=by
 simp only [Wp,evCodeF];split
 . rename_i e;simp [e]
 . rename_i e;simp [e]
 . rename_i h1 h2;constructor
   . rintro ⟨_,_,_,e,_⟩;cases e
   . rintro ⟨⟨t,e⟩,_⟩;cases t
     . exact absurd e h2
     . exact absurd e h1
def Inv (I:Nat->FF->AHeap->Prop) (n:Nat) (fr:FF) (h:AHeap):Prop:=∃ m,m<n/\I m fr h
def Ir (I:Nat->FF->AHeap->Prop) (n:Nat) (Q:kP):kP:=fun x fr h=>match x with
 | .normal=>Inv I n fr h
 | x=>Q x fr h
@[simp] theorem Pp {n:Nat}:Ir I n Q .normal fr h=Inv I n fr h:=rfl
@[simp] theorem R7 {n:Nat}:Ir I n Q (.exit j) fr h=Q (.exit j) fr h:=rfl
@[simp] theorem Ul {n:Nat}:Ir I n Q .ret fr h=Q .ret fr h:=rfl
theorem Wp.loop (I:Nat->FF->AHeap->Prop) (n:Nat) (hn:n<rounds) (hI:I n fr h) (step:∀ n fr h,I n fr h->Wp call a fr h (Ir I n Q)):Wp call (.loop a) fr h Q:=by
 have key:∀ (k n:Nat) fr h,n<k->I n fr h->∃ x fr' h',iterF (evCodeF call a) k fr h=some (x,fr',h')/\Q x fr' h':=by
  intro k;induction k with
  | zero=>intro n fr h hk;omega
  | succ k ih=>
   intro n fr h hk hI;have ⟨x,fr',h',e,q⟩:=step n fr h hI;simp [iterF,e];cases x with
   | normal=>have ⟨m,hm,hI'⟩:=q;exact ih m fr' h' (by omega) hI'
   | exit j=>exact ⟨_,_,_,rfl,q⟩
   | ret=>exact ⟨_,_,_,rfl,q⟩
 have ⟨x,fr',h',e,q⟩:=key rounds n fr h hn hI;exact ⟨x,fr',h',by simpa [evCodeF] using e,q⟩
end
def Bi (rs:List rz) (R:AV->AHeap->Prop):kP:=fun x fr h=>match x with
 | .exit _=>False
 | _=>∃ v,resOfF fr h rs=some v/\R v h
@[simp] theorem PX {rs:List rz} {R:AV->AHeap->Prop} {fr:FF} {h:AHeap}:Bi rs R .normal fr h=∃ v,resOfF fr h rs=some v/\R v h:=rfl
@[simp] theorem UC {rs:List rz} {R:AV->AHeap->Prop} {fr:FF} {h:AHeap}:Bi rs R .ret fr h=∃ v,resOfF fr h rs=some v/\R v h:=rfl
theorem dQ {f:Nat} {h:AHeap} {R:AV->AHeap->Prop} (hT:T f=some F) (w:Wp (run T) F.body (iN args) h (Bi F.results R)) (hfit:F.fits args=true:=by rfl):∃ v h',run T f args h=some (v,h')/\R v h':=by
 have ⟨x,fr',h',e,q⟩:=w;cases x with
 | exit j=>exact q.elim
 | normal=>have ⟨v,hv,hr⟩:=q;exact ⟨v,h',uy hT hfit (by simp only [evBodyF,e,hv];rfl),hr⟩
 | ret=>have ⟨v,hv,hr⟩:=q;exact ⟨v,h',uy hT hfit (by simp only [evBodyF,e,hv];rfl),hr⟩
theorem run_eq {f:Nat} {h h':AHeap} {v:AV} (hT:T f=some F) (w:Wp (run T) F.body (iN args) h (Bi F.results fun u g=>u=v/\g=h')) (hfit:F.fits args=true:=by rfl):run T f args h=some (v,h'):=by obtain ⟨_,_,e,rfl,rfl⟩:=dQ hT w hfit;exact e
theorem run_val {f:Nat} {h:AHeap} {v:AV} {R:AHeap->Prop} (hT:T f=some F) (w:Wp (run T) F.body (iN args) h (Bi F.results fun u g=>u=v/\R g)) (hfit:F.fits args=true:=by rfl):∃ h',run T f args h=some (v,h')/\R h':=by obtain ⟨_,h',e,rfl,r⟩:=dQ hT w hfit;exact ⟨h',e,r⟩
attribute [simp] evAnyF evOpF evOpE resOfF D3 OZ List.replicate stableF wantedF kr
section
variable {k:IntKind} {x y:Int} {b:Bool} {s:ByteArray} {i o n f:Nat} {c:Cap} {u v:List AV}
@[simp] theorem MR:AV.gP .nilslice=some 0:=rfl
@[simp] theorem lS:AV.gP (.slice i o n c)=some n:=rfl
@[simp] theorem X8:AV.nat (.int k x)=if 0<=x then some x.toNat else none:=rfl
@[simp] theorem Pt:AV.isNil 0 .nilptr=some true:=rfl
@[simp] theorem MW:AV.isNil 1 .nilslice=some true:=rfl
@[simp] theorem Pu:AV.isNil 2 .nilmap=some true:=rfl
@[simp] theorem Ol:AV.isNil 3 .nilfunc=some true:=rfl
@[simp] theorem Um:AV.isNil 0 (.ptr i o)=some false:=rfl
@[simp] theorem QS:AV.isNil 1 (.slice i o n c)=some false:=rfl
@[simp] theorem Un:AV.isNil 2 (.map i)=some false:=rfl
@[simp] theorem R9:AV.isNil 3 (.func f u v)=some false:=rfl
@[simp] theorem Sp:AV.cells (.bool b)=[.bool b]:=rfl
@[simp] theorem UA:AV.cells (.int k x)=[.int k x]:=rfl
@[simp] theorem Ux:AV.cells (.str s)=[.str s]:=rfl
@[simp] theorem PS:AV.cells .nilptr=[.nilptr]:=rfl
@[simp] theorem Uy:AV.cells (.ptr i o)=[.ptr i o]:=rfl
@[simp] theorem Nt:AV.cells .nilslice=[.nilslice]:=rfl
@[simp] theorem QW:AV.cells (.slice i o n c)=[.slice i o n c]:=rfl
@[simp] theorem PT:AV.cells .nilmap=[.nilmap]:=rfl
@[simp] theorem Uz:AV.cells (.map i)=[.map i]:=rfl
@[simp] theorem Om:AV.cells .nilfunc=[.nilfunc]:=rfl
@[simp] theorem So:AV.cells (.func f u v)=[.func f u v]:=rfl
@[simp] theorem UB:AV.cells (.agg u)=u:=rfl
@[simp] theorem U0:AV.one (.bool b)=true:=rfl
@[simp] theorem X7:AV.one (.int k x)=true:=rfl
@[simp] theorem X4:AV.one (.str s)=true:=rfl
@[simp] theorem RZ:AV.one .nilptr=true:=rfl
@[simp] theorem X5:AV.one (.ptr i o)=true:=rfl
@[simp] theorem Pc:AV.one .nilslice=true:=rfl
@[simp] theorem Uj:AV.one (.slice i o n c)=true:=rfl
@[simp] theorem R0:AV.one .nilmap=true:=rfl
@[simp] theorem X6:AV.one (.map i)=true:=rfl
@[simp] theorem QN:AV.one .nilfunc=true:=rfl
@[simp] theorem UZ:AV.one (.func f u v)=true:=rfl
@[simp] theorem R3:pt (.int k x) (.int k y)=some (.int k (max x y)):=by simp only [pt,if_true,Int.max_def];congr 2;split<;>split<;>omega
@[simp] theorem R2:kM (.int k x) (.int k y)=some (.int k (min x y)):=by simp only [kM,if_true,Int.min_def];congr 2;split<;>split<;>omega
end
@[simp] theorem Uw {d:Nat}:endV d none=some d:=rfl
@[simp] theorem Uv {d:Nat} {v:AV}:endV d (some v)=v.nat:=rfl
section
variable {k:IntKind} {a b:Int}
@[simp] theorem NN:di .add (.int k a) (.int k b)=some (.int k (k.wrap (a+b))):=by simp [di]
@[simp] theorem VA:di .sub (.int k a) (.int k b)=some (.int k (k.wrap (a-b))):=by simp [di]
@[simp] theorem Fc:di .mul (.int k a) (.int k b)=some (.int k (k.wrap (a*b))):=by simp [di]
@[simp] theorem VE:di .lss (.int k a) (.int k b)=some (.bool (decide (a<b))):=by simp [di]
@[simp] theorem VF:di .leq (.int k a) (.int k b)=some (.bool (decide (a<=b))):=by simp [di]
@[simp] theorem VG:di .gtr (.int k a) (.int k b)=some (.bool (decide (b<a))):=by simp [di]
@[simp] theorem VH:di .geq (.int k a) (.int k b)=some (.bool (decide (b<=a))):=by simp [di]
@[simp] theorem VI:di .eql (.int k a) (.int k b)=some (.bool (decide (a=b))):=by simp [di];rfl
@[simp] theorem VD:di .neq (.int k a) (.int k b)=some (.bool (!decide (a=b))):=by simp [di];rfl
@[simp] theorem X2 {b:Bool}:Ue .not (.bool b)=some (.bool !b):=rfl
@[simp] theorem HV:Ue .neg (.int k a)=some (.int k (k.wrap (0-a))):=rfl
@[simp] theorem VB [NeZero b]:di .rem (.int k a) (.int k b)=some (.int k (a.tmod b)):=by simp [di,NeZero.ne b]
@[simp] theorem VC [NeZero b]:di .quo (.int k a) (.int k b)=some (.int k (k.wrap (a.tdiv b))):=by simp [di,NeZero.ne b]
theorem K0 (hb:b≠0):di .quo (.int k a) (.int k b)=some (.int k (k.wrap (a.tdiv b))):=by simp [di,hb]
end
section
variable {fr f:FF} {v:AV} {sn:List AHeap} {r:List (aK×dB)} {q:List (FF×AV)} {o:aK} {lo hi:Nat}
@[simp] theorem RL:steadyF fr sn [] []=true:=rfl
@[simp] theorem QJ:steadyF fr sn ((o,.loud)::r) ((f,v)::q)=steadyF fr sn r q:=rfl
@[simp] theorem OP:steadyF fr sn ((o,.still)::r) ((f,v)::q)=steadyF fr sn r q:=rfl
@[simp] theorem OQ:(steadyF fr sn ((o,.reads lo hi)::r) ((f,v)::q)=true)↔(if wantedF o.guard f=true then stableF sn o f v lo hi=true else True)/\steadyF fr sn r q=true:=by simp only [steadyF,aA];cases wantedF o.guard f<;>simp
end
theorem iq {x:Int} (h1:-9223372036854775808<=x) (h2:x<=9223372036854775807):IntKind.wrap .i64 x=x:=by simp [IntKind.wrap,IntKind.signed,IntKind.bits];omega
theorem wrap_nat {c:Nat} (h:c<9223372036854775807):IntKind.wrap .i64 ((c:Int)+1)=(c:Int)+1:=rQ
theorem nr {n:Nat} (h:n<=100000000):n<rounds:=by have:rounds=1099511627776:=rfl;omega
theorem eP {x:Int}:IntKind.wrap .u64 x=x % 18446744073709551616:=by simp [IntKind.wrap,IntKind.signed,IntKind.bits]
theorem Jf {x:Int}:IntKind.wrap .i64 x=(x+9223372036854775808) % 18446744073709551616-9223372036854775808:=by simp [IntKind.wrap,IntKind.signed,IntKind.bits];omega
end
section
variable {c:Cap} {b bytes a:Nat} {body:List AV} {xs:List Int} {hi:Option AV}
def AHeap.size (h:AHeap):Nat:=h.objs.length
def AHeap.get (h:AHeap) (i:Nat):Option AObj:=h.objs[i]?
def AHeap.lb (h:AHeap) (k:Nat):Option Nat:=h.caps[k]?
def AHeap.grow (h:AHeap) (o:AObj) (n:Nat):AHeap:=⟨h.objs++[o],h.caps++[n]⟩
def gw:Option AObj->Nat->Option AV
 | some (.cells _ cs _),o=>cs[o]?
 | _,_=>none
def cellsOf:Option AObj->Nat->Nat->Option (List AV)
 | some (.cells _ cs _),o,n=>if o+n<=cs.length then some ((cs.drop o).take n) else none
 | _,_,_=>none
def writeOf (h:AHeap) (i:Nat):Option AObj->Nat->List AV->Option AHeap
 | some (.cells false cs room),o,vs=>if o+vs.length<=cs.length/\vs.all AV.one then some (h.put i (.cells false (splice cs o vs) room)) else none
 | _,_,_=>none
section
variable {h:AHeap} {i j k o n m:Nat} {x y:AObj} {ro:Bool} {cs vs:List AV} {room:Option (Nat×Nat)} {v u:AV}
theorem AY:h.objs.length=h.size:=rfl
theorem EP:h.objs[i]?=h.get i:=rfl
theorem IC:h.caps[k]?=h.lb k:=rfl
@[simp] theorem dH:(h.push x).size=h.size+1:=by simp [AHeap.push,AHeap.size]
@[simp] theorem LV:(h.put i x).size=h.size:=by simp [AHeap.put,AHeap.size]
@[simp] theorem Uh:(h.grow x n).size=h.size+1:=by simp [AHeap.grow,AHeap.size]
@[simp] theorem X9:(h.push x).lb k=h.lb k:=rfl
@[simp] theorem Y3:(h.put i x).lb k=h.lb k:=rfl
theorem nz:(h.push x).get i=if i=h.size then some x else h.get i:=by
 by_cases hi:i=h.size
 . rw [if_pos hi,hi];show (h.objs++[x])[h.objs.length]?=some x;simp
 . rw [if_neg hi];show (h.objs++[x])[i]?=h.objs[i]?;rcases bH i h.objs.length with hl | hl
   . rw [ay hl]
   . have:i≠h.objs.length:=hi;rw [aB hl,aV (by omega:h.objs.length<=i),aV (by simp;omega)]
theorem EN:(h.grow x n).get i=if i=h.size then some x else h.get i:=nz (h:=h)
@[simp] theorem ak:(h.push x).get h.size=some x:=by rw [nz,if_pos rfl]
@[simp] theorem oh:(h.grow x n).get h.size=some x:=ak
theorem IB:(h.put i x).get j=if j=i then (h.get i).map fun _=>x else h.get j:=by
 simp [AHeap.put,AHeap.get];split
 . subst j;rw [List.getElem?_set_self'];cases h.objs[i]?<;>rfl
 . rename_i hne;rw [aj (aY hne)]
@[simp] theorem get_put_same:(h.put i x).get i=(h.get i).map fun _=>x:=by rw [IB,if_pos rfl]
theorem get_put_ne (hne:j≠i):(h.put i x).get j=h.get j:=by rw [IB,if_neg hne]
@[simp] theorem O3:(h.put i x).put i y=h.put i y:=by simp [AHeap.put]
theorem get_lt (hi:h.get i=some x):i<h.size:=(aa.1 hi).1
theorem aJ (hi:h.get i=some x):(h.push y).get i=some x:=by rw [nz,if_neg (Nat.ne_of_lt (get_lt hi)),hi]
@[simp] theorem Yx:h.cell i o=gw (h.get i) o:=by
 simp [AHeap.cell,AHeap.row,gw,AHeap.get];cases h.objs[i]? with
 | none=>rfl
 | some x=>cases x<;>rfl
@[simp] theorem Nu:h.jc i o n=cellsOf (h.get i) o n:=by
 simp [AHeap.jc,AHeap.row,cellsOf,AHeap.get];cases h.objs[i]? with
 | none=>rfl
 | some x=>cases x<;>rfl
@[simp] theorem write_eq:h.write i o vs=writeOf h i (h.get i) o vs:=by
 simp [AHeap.write,writeOf,AHeap.get];cases h.objs[i]? with
 | none=>rfl
 | some x=>cases x<;>first | rfl | (rename_i r _ _;cases r<;>rfl)
@[simp] theorem uN:gw (some (.cells ro cs room)) o=cs[o]?:=rfl
@[simp] theorem gK:cellsOf (some (.cells ro cs room)) o n=if o+n<=cs.length then some ((cs.drop o).take n) else none:=rfl
@[simp] theorem writeOf_some:writeOf h i (some (Qc cs room)) o vs=if o+vs.length<=cs.length/\vs.all AV.one then some (h.put i (Qc (splice cs o vs) room)) else none:=rfl
@[simp] theorem RM:splice cs 0 []=cs:=by simp [splice]
@[simp] theorem QL:splice (v::cs) 0 (u::vs)=u::splice cs 0 vs:=by simp [splice]
@[simp] theorem QK:splice (v::cs) (o+1) vs=v::splice cs o vs:=by simp [splice,Nat.add_right_comm]
theorem lK (ho:o<cs.length):splice cs o [v]=cs.set o v:=by simp [splice,List.set_eq_take_append_cons_drop,ho]
@[simp] theorem Mk:(h.push x).put h.size y=h.push y:=by simp [AHeap.push,AHeap.put,AHeap.size]
@[simp] theorem push_write (hl:vs.length=cs.length) (ho:vs.all AV.one=true):writeOf (h.push (Qc cs room)) h.size (some (Qc cs room)) 0 vs=some (h.push (Qc vs room)):=by rw [writeOf_some,if_pos ⟨by omega,ho⟩];simp [splice,AHeap.put,AHeap.push,hl,AHeap.size]
end
attribute [simp] AY EP IC
structure Keep (F:List Nat) (h h':AHeap):Prop where
 size:h.size<=h'.size
 caps:∀ k lb,h.lb k=some lb->h'.lb k=some lb
 get:∀ t,t<h.size->t∉F->h'.get t=h.get t
section
variable {F G:List Nat} {h h' h'':AHeap} {i n:Nat} {x:AObj}
theorem Keep.refl:Keep F h h:=⟨aq _,fun _ _ e=>e,fun _ _ _=>rfl⟩
theorem Keep.trans (a:Keep F h h') (b:Keep G h' h'') (hg:∀ t∈G,t∈F\/h.size<=t):Keep F h h'':=
 ⟨dk a.size b.size,fun k lb e=>b.caps k lb (a.caps k lb e),fun t ht hf=>by rw [b.get t (cq ht a.size) (fun hm=>by rcases hg t hm with h1 | h1;exact hf h1;omega),a.get t ht hf]⟩
theorem Keep.trans' (a:Keep F h h') (b:Keep F h' h''):Keep F h h'':=a.trans b fun _=>dc
theorem Keep.mono (a:Keep F h h') (hs:∀ t∈F,t∈G):Keep G h h':=⟨a.size,a.caps,fun t ht hg=>a.get t ht fun hm=>hg (hs t hm)⟩
theorem Keep.obj (a:Keep F h h') (hi:h.get i=some x) (hf:i∉F):h'.get i=some x:=by rw [a.get i (get_lt hi) hf,hi]
theorem Keep.push:Keep F h (h.push x):=⟨by simp,fun k lb e=>e,fun t ht _=>by rw [nz,if_neg (Nat.ne_of_lt ht)]⟩
theorem Keep.grow:Keep F h (h.grow x n):=⟨by simp,fun k lb e=>by
 have:(h.caps++[n])[k]?=some lb:=by rw [ay (aa.1 e).1];exact e
 exact this,fun t ht _=>by rw [EN,if_neg (Nat.ne_of_lt ht)]⟩
theorem Keep.put (hi:i∈F):Keep F h (h.put i x):=⟨by simp,fun k lb e=>e,fun t ht hf=>get_put_ne fun e=>hf (e▸hi)⟩
theorem v8:(h.grow x n).lb h.caps.length=some n:=by show (h.caps++[n])[h.caps.length]?=some n;simp
end
inductive dz (h:AHeap) (size:Nat) (cs:List AV):List Nat->AV->Prop where
 | nil (e:cs=[]):dz h size cs [] .nilslice
 | zero {j o:Nat} {c:Cap} (e:cs=[]) (wi:h.within 0 c=true):dz h size cs [] (.slice j o 0 c)
 | mk {j o n:Nat} {c:Cap} {ro:Bool} {body:List AV} {room:Option (Nat×Nat)} (get:h.get j=some (.cells ro body room)) (le:o+n*size<=body.length) (at_:cs=(body.drop o).take (n*size)) (wi:h.within n c=true):dz h size cs [j] (.slice j o n c)
def I2 (h:AHeap) (body:List AV) (room:Option (Nat×Nat)) (size o n:Nat):Cap->Prop
 | .exact m=>n<=m/\o+m*size<=body.length
 | .loose k d=>room=some (k,size)/\o=d*size/\∃ lb,h.lb k=some lb/\lb*size=body.length/\n+d<=lb
inductive Vec (h:AHeap) (size:Nat) (cs:List AV):List Nat->AV->Prop where
 | nil (e:cs=[]):Vec h size cs [] .nilslice
 | mk {j o n:Nat} {c:Cap} {body:List AV} {room:Option (Nat×Nat)} (get:h.get j=some (.cells false body room)) (le:o+n*size<=body.length) (at_:cs=(body.drop o).take (n*size)) (cap:I2 h body room size o n c):Vec h size cs [j] (.slice j o n c)
section
variable {h h':AHeap} {size n:Nat} {cs ds:List AV} {F G:List Nat} {s x:AV}
theorem I2.within {room:Option (Nat×Nat)} {o n:Nat} (k:I2 h body room size o n c):h.within n c=true:=by
 cases c with
 | exact c=>exact decide_eq_true k.1
 | loose q d=>have ⟨h1,h2,lb,h3,h4,h5⟩:=k;simp only [AHeap.within];rw [show h.caps[q]?=some lb from h3];simpa using h5
theorem jM {n m:Nat} (hw:h.within n c=true) (hm:m<=n):h.within m c=true:=by
 cases c with
 | exact c=>simp [AHeap.within,decide_eq_true_eq] at *;omega
 | loose q d=>
  simp [AHeap.within] at *;split at hw
  . simp [decide_eq_true_eq] at *;omega
  . cases hw
theorem fv {n:Nat} (hw:h.within n c=true) (k:Keep G h h'):h'.within n c=true:=by
 cases c with
 | exact c=>exact hw
 | loose q d=>
  simp only [AHeap.within] at *;split at hw
  . rename_i lb hl;rw [show h'.caps[q]?=some lb from k.caps q lb hl];exact hw
  . cases hw
theorem Vec.view (v:Vec h size cs F s):dz h size cs F s:=by
 cases v with
 | nil e=>exact .nil e
 | mk get le at_ cap=>exact .mk get le at_ cap.within
theorem dz.lt (v:dz h size cs F s):∀ t∈F,t<h.size:=by
 cases v with
 | nil e=>simp
 | zero e wi=>simp
 | mk get le at_ wi=>intro t ht;simp [iV] at ht;subst ht;exact get_lt get
theorem Vec.lt (v:Vec h size cs F s):∀ t∈F,t<h.size:=v.view.lt
theorem dz.keep (v:dz h size cs F s) (k:Keep G h h') (hd:∀ t∈F,t∉G):dz h' size cs F s:=by
 cases v with
 | nil e=>exact .nil e
 | zero e wi=>exact .zero e (fv wi k)
 | mk get le at_ wi=>exact .mk (k.obj get (hd _ (by simp))) le at_ (fv wi k)
theorem Vec.keep (v:Vec h size cs F s) (k:Keep G h h') (hd:∀ t∈F,t∉G):Vec h' size cs F s:=by
 cases v with
 | nil e=>exact .nil e
 | mk get le at_ cap=>
  refine .mk (k.obj get (hd _ (by simp))) le at_ ?_;unfold I2 at *;split at cap
  . exact cap
  . have ⟨h1,h2,lb,h3,h4⟩:=cap;exact ⟨h1,h2,lb,k.caps _ _ h3,h4⟩
theorem dz.len (v:dz h size cs F s) (hs:0<size):s.gP=some (cs.length / size):=by
 cases v with
 | nil e=>subst e;simp
 | zero e wi=>subst e;simp
 | mk get le at_ wi=>subst at_;rw [dZ,eg,kQ (by omega),qq _ hs];rfl
theorem dz.my (v:dz h 1 cs F s):s.gP=some cs.length:=by rw [v.len (by omega),Nat.div_one]
theorem dz.idx (v:dz h size cs F s) (hs:0<size) {k:Nat} (hk:(k+1)*size<=cs.length):∃ j o,idxAddrV size none s (iQ k)=some (.ptr j o)/\F=[j]/\∀ t<size,gw (h.get j) (o+t)=cs[k*size+t]?:=by
 cases v with
 | nil e=>subst e;rw [dy] at hk;simp at hk;omega
 | zero e wi=>subst e;rw [dy] at hk;simp at hk;omega
 | @mk j o n c ro body room get le at_ wi=>
  subst at_;rw [dZ,eg,kQ (by omega)] at hk;have hkn:k+1<=n:=jI hk hs;refine ⟨j,o+k*size,?_,rfl,fun t ht=>?_⟩
  . simp only [idxAddrV];rw [pQ];simp
  . have h1:k*size+t<n*size:=by have:(k+1)*size<=n*size:=hk;rw [dy] at this;omega
    simp [get,uN];rw [aI h1,aN,fI]
theorem dz.vM (v:dz h 1 cs F s) {k:Nat} {x:AV} (hk:cs[k]?=some x):∃ j o,idxAddrV 1 none s (iQ k)=some (.ptr j o)/\F=[j]/\gw (h.get j) o=some x:=by have hl:=(aa.1 hk).1;have ⟨j,o,h1,h2,h3⟩:=v.idx (by omega) (k:=k) (by omega);refine ⟨j,o,h1,h2,?_⟩;have:=h3 0 (by omega);simpa [hk] using this
theorem dz.row (v:dz h size cs F s) (hs:0<size) {k:Nat} (hk:(k+1)*size<=cs.length):∃ j o,idxAddrV size none s (iQ k)=some (.ptr j o)/\F=[j]/\cellsOf (h.get j) o size=some ((cs.drop (k*size)).take size):=by
 cases v with
 | nil e=>subst e;rw [dy] at hk;simp at hk;omega
 | zero e wi=>subst e;rw [dy] at hk;simp at hk;omega
 | @mk j o n c ro body room get le at_ wi=>
  subst at_;rw [dZ,eg,kQ (by omega)] at hk;have hkn:k+1<=n:=jI hk hs;have h1:k*size+size<=n*size:=by rw [<- dy];exact hk
  refine ⟨j,o+k*size,?_,rfl,?_⟩
  . simp only [idxAddrV];rw [pQ];simp
  . simp only [get,gK];rw [if_pos (by omega)];congr 1;apply dt;intro t;by_cases ht:t<size
    . rw [aI ht,aI ht,aN,aN,aI (by omega),aN,fI]
    . rw [cv,if_neg ht,cv,if_neg ht]
theorem dz.first (v:dz h size cs F s) (hn:n*size<=cs.length) (hs:0<size):firstCellsA h size n s=some (cs.take (n*size)):=by
 cases v with
 | nil e=>
  subst e;have:n=0:=by
   rcases dd n with h0 | h0
   . exact h0
   . have:=Nat.mul_pos h0 hs;simp at hn;omega
  subst this;simp [firstCellsA]
 | zero e wi=>
  subst e;have:n=0:=by
   rcases dd n with h0 | h0
   . exact h0
   . have:=Nat.mul_pos h0 hs;simp at hn;omega
  subst this;simp [firstCellsA]
 | @mk j o m c ro body room get le at_ wi=>
  subst at_;rw [dZ,eg,kQ (by omega)] at hn;have hnm:n<=m:=jI hn hs;simp [firstCellsA];rcases dd n with h0 | h0
  . subst h0;simp
  . rw [nQ,if_pos hnm];simp only [Nu,get,gK];rw [pQ,List.take_take,kQ hn]
theorem oV {α:Type} (l:List α) (o m a b:Nat) (h:a+b<=m):((((l.drop o).take m).drop a).take b)=(l.drop (o+a)).take b:=by
 apply dt;intro t;rcases bH t b with ht | ht
 . rw [aI ht,aI ht,aN,aI (by omega),aN,aN];congr 1;omega
 . rw [cv,nQ,cv,nQ]
theorem dz.slice (v:dz h size cs F s) (hs:0<size) {n:Nat} (hn:cs.length=n*size) {lo:Option AV} (ha:endV 0 lo=some a) (hb:endV n hi=some b) (hab:a<=b) (hbn:b<=n) :
 ∃ s',slcV h size none s lo hi none=some s'/\dz h size ((cs.drop (a*size)).take ((b-a)*size)) F s':=by
 have hlen:s.gP=some n:=by rw [v.len hs,hn,qq _ hs]
 have hm1:a*size+(b-a)*size=b*size:=by rw [<- cS];congr 1;omega
 have hm2:b*size<=n*size:=fJ _ hbn
 cases v with
 | nil e=>
  simp at hlen;subst hlen;have h1:b=0:=by omega
  have h2:a=0:=by omega
  subst h1 h2 e;exact ⟨_,by simp [slcV,ha,hb],.nil (by simp)⟩
 | @zero j o c e wi=>
  simp at hlen;subst hlen;have h1:b=0:=by omega
  have h2:a=0:=by omega
  subst h1 h2 e
  cases c with
  | exact m=>exact ⟨.slice j (if m=0 then o else o+0*size) 0 (.exact (m-0)),by simp only [slcV,ha,hb];rw [if_pos ⟨aq _,wi⟩],.zero (by simp) (by simp [AHeap.within])⟩
  | loose k d=>exact ⟨.slice j (o+0*size) 0 (Cap.less 0 (.loose k d)),by simp only [slcV,ha,hb];rw [if_pos ⟨aq _,wi⟩],.zero (by simp) wi⟩
 | @mk j o n' c ro body room get le at_ wi=>
  simp at hlen;subst hlen;have hcut:(cs.drop (a*size)).take ((b-a)*size)=(body.drop (o+a*size)).take ((b-a)*size):=by subst at_;exact oV _ _ _ _ _ (by omega)
  rw [hcut]
  cases c with
  | exact m=>
   have hw2:=jM wi hbn;simp [AHeap.within,decide_eq_true_eq] at hw2;refine ⟨_,by simp only [slcV,ha,hb];rw [if_pos ⟨hab,jM wi hbn⟩],?_⟩;by_cases hma:m=a
   . rw [if_pos hma];have:b-a=0:=by omega
     rw [this];exact dz.mk (n:=0) (c:=.exact (m-a)) get (by omega) (by simp) (by simp [AHeap.within])
   . rw [if_neg hma];exact dz.mk (n:=b-a) (c:=.exact (m-a)) get (by omega) rfl (by simp [AHeap.within];omega)
  | loose k d=>
   refine ⟨_,by simp only [slcV,ha,hb];rw [if_pos ⟨hab,jM wi hbn⟩];rfl,dz.mk (n:=b-a) (c:=.loose k (d+a)) get (by omega) rfl ?_⟩;simp only [AHeap.within] at wi ⊢;split at wi
   . simp only [decide_eq_true_eq] at *;omega
   . cases wi
theorem Vec.slice (v:Vec h size cs F s) (hs:0<size) {n:Nat} (hn:cs.length=n*size) {lo:Option AV} (ha:endV 0 lo=some a) (hb:endV n hi=some b) (hab:a<=b) (hbn:b<=n) :
 ∃ s',slcV h size none s lo hi none=some s'/\Vec h size ((cs.drop (a*size)).take ((b-a)*size)) F s':=by
 have hlen:s.gP=some n:=by rw [v.view.len hs,hn,qq _ hs]
 have hm1:a*size+(b-a)*size=b*size:=by rw [<- cS];congr 1;omega
 have hm2:b*size<=n*size:=fJ _ hbn;cases v with
 | nil e=>
  simp at hlen;subst hlen;have h1:b=0:=by omega
  have h2:a=0:=by omega
  subst h1 h2 e;exact ⟨_,by simp [slcV,ha,hb],.nil (by simp)⟩
 | @mk j o n' c body room get le at_ cap=>
  simp at hlen;subst hlen;have hcut:(cs.drop (a*size)).take ((b-a)*size)=(body.drop (o+a*size)).take ((b-a)*size):=by subst at_;exact oV _ _ _ _ _ (by omega)
  rw [hcut];have wi:=cap.within;cases c with
  | exact m=>
   have ⟨c1,c2⟩:=cap;refine ⟨_,by simp only [slcV,ha,hb];rw [if_pos ⟨hab,jM wi hbn⟩],?_⟩;by_cases hma:m=a
   . rw [if_pos hma];have:b-a=0:=by omega
     rw [this];exact Vec.mk (n:=0) (c:=.exact (m-a)) get (by omega) (by simp) ⟨by omega,by rw [hma];simp;omega⟩
   . rw [if_neg hma];have hmm:a*size+(m-a)*size=m*size:=by rw [<- cS];congr 1;omega
     exact Vec.mk (n:=b-a) (c:=.exact (m-a)) get (by omega) rfl ⟨by omega,by omega⟩
  | loose k d=>have ⟨h1,h2,lb,h3,h4,h5⟩:=cap;exact ⟨_,by simp only [slcV,ha,hb];rw [if_pos ⟨hab,jM wi hbn⟩];rfl,Vec.mk (n:=b-a) (c:=.loose k (d+a)) get (by omega) rfl ⟨h1,by rw [h2,cS],lb,h3,h4,by omega⟩⟩
theorem Vec.new {room:Option (Nat×Nat)} {j m:Nat} (get:h.get j=some (Qc body room)) (hb:body.length=m*size):Vec h size body [j] (.slice j 0 m (.exact m)):=
 .mk get (by omega) (by simp [<- hb]) ⟨aq _,by omega⟩
theorem Vec.append (v:Vec h size cs F s) (hs:0<size) {n m:Nat} (hn:cs.length=n*size) (hm:x.gP=some m) (hf:firstCellsA h size m x=some ds) (ho:ds.all AV.one=true) (hd:ds.length=m*size) (hb:(n+m)*bytes<=bigA) (hb2:n+m<=bigA) :
 ∃ s' h' F',dT h size bytes s x=some (s',h')/\Vec h' size (cs++ds) F' s'/\Keep F h h'/\(∀ t∈F',t∈F\/h.size<=t):=by
 have hlen:s.gP=some n:=by rw [v.view.len hs,hn,qq _ hs]
 cases v with
 | nil e=>
  subst e;have hn0:n=0:=by
   rcases dd n with h0 | h0
   . exact h0
   . have:=Nat.mul_pos h0 hs;simp at hn;omega
  subst hn0;have happ:dT h size bytes .nilslice x=if m=0 then some (.nilslice,h) else some (.slice h.size 0 m (.loose h.caps.length 0),h.grow (Qc ds (some (h.caps.length,size))) m):=by simp only [dT,MR,hm,hf];rw [if_pos ⟨hb,hb2,ho⟩];rfl
  rw [happ];by_cases hm0:m=0
  . subst hm0;have:ds=[]:=aG (by simpa using hd);subst this;exact ⟨_,_,[],by simp,.nil rfl,Keep.refl,by simp⟩
  . refine ⟨.slice h.size 0 m (.loose h.caps.length 0),h.grow (Qc ds (some (h.caps.length,size))) m,[h.size],by rw [if_neg hm0],?_,Keep.grow,by simp⟩;refine .mk oh (by omega) (by simp [<- hd]) ⟨rfl,by omega,m,v8,by omega,by omega⟩
 | @mk j o k c body room get le at_ cap=>
  have hkn:k=n:=by simpa using hlen
  subst hkn;have happ1:h.within (k+m) c=true->dT h size bytes (.slice j o k c) x=if m=0 then some (.slice j o k c,h) else (h.write j (o+k*size) ds).map fun h'=>(.slice j o (k+m) c,h'):=fun hw=>by simp only [dT,lS,hm,hf];rw [if_pos ⟨hb,hb2,ho⟩,if_pos hw]
  by_cases hw:h.within (k+m) c=true
  . rw [happ1 hw];by_cases hm0:m=0
    . subst hm0;have:ds=[]:=aG (by simpa using hd);subst this;exact ⟨.slice j o k c,h,[j],by simp,by rw [List.append_nil];exact Vec.mk get le at_ cap,Keep.refl,fun t ht=>dc ht⟩
    . have hle:o+k*size+ds.length<=body.length/\True:=by
       refine ⟨?_,trivial⟩;rw [hd]
       cases c with
       | exact c=>simp only [AHeap.within,decide_eq_true_eq] at hw;have h2:=cap.2;have:(k+m)*size<=c*size:=fJ _ hw;rw [cS] at this;omega
       | loose q d=>
        obtain ⟨h1,h2,lb,h3,h4,h5⟩:=cap;have hw':k+m+d<=lb:=by simp only [AHeap.within] at hw;rw [show h.caps[q]?=some lb from h3] at hw;simpa using hw
        have:(k+m+d)*size<=lb*size:=fJ _ hw';rw [cS,cS] at this;omega
      have hl2:(splice body (o+k*size) ds).length=body.length:=by have:=hle.1;simp [splice];omega
      refine ⟨_,_,[j],by rw [if_neg hm0];simp only [write_eq,get,writeOf_some];rw [if_pos ⟨hle.1,ho⟩];rfl,?_,Keep.put (by simp),fun t ht=>dc ht⟩
      refine .mk (body:=splice body (o+k*size) ds) (room:=room) (by rw [get_put_same,get];rfl) (by rw [hl2,cS];omega) ?_ ?_
      . subst at_
        apply dt
        intro t
        have hlt:(List.take (k*size) (List.drop o body)).length=k*size:=by simp;omega
        rcases bH t (k*size) with ht | ht
        . rw [ay (by omega),aI (by omega),aI (by rw [cS];omega),aN,aN]
          simp only [splice]
          rw [ay (by simp;omega),aI (by omega)]
        . rw [aB (by omega),hlt]
          rcases bH t ((k+m)*size) with ht2 | ht2
          . rw [aI ht2,aN]
            simp only [splice]
            rw [cS] at ht2
            rw [aB (by simp;omega),ay (by simp;omega)]
            congr 1
            simp
            omega
          . rw [cv,if_neg (by omega),aV]
            rw [cS] at ht2
            omega
      . cases c with
        | exact c=>simp only [AHeap.within,decide_eq_true_eq] at hw;exact ⟨hw,by rw [hl2];exact cap.2⟩
        | loose q d=>
         obtain ⟨h1,h2,lb,h3,h4,h5⟩:=cap;have hw':k+m+d<=lb:=by simp only [AHeap.within] at hw;rw [show h.caps[q]?=some lb from h3] at hw;simpa using hw
         exact ⟨h1,h2,lb,h3,by rw [hl2];exact h4,hw'⟩
  . have hlt:(List.take (k*size) (List.drop o body)).length=k*size:=by simp;omega
    cases c with
    | exact c=>
     have happ2:dT h size bytes (.slice j o k (.exact c)) x=if c<k+m then (firstCellsA h size k (.slice j o k (.exact c))).map fun olds=>(.slice h.size 0 (k+m) (.loose h.caps.length 0),h.grow (.cells false (olds++ds) (some (h.caps.length,size))) (k+m)) else none:=by simp only [dT,lS,hm,hf];rw [if_pos ⟨hb,hb2,ho⟩,if_neg hw];rfl
     rw [happ2];have hc:c<k+m:=by simp only [AHeap.within,decide_eq_true_eq] at hw;omega
     have hfo:=(dz.mk (h:=h) (size:=size) (c:=.exact c) get le at_ cap.within).first (n:=k) (by omega) hs
     simp only [hc,if_true,hfo,fj];refine ⟨_,_,[h.size],rfl,?_,Keep.grow,by simp⟩;rw [aW (by omega)];refine .mk oh (by simp [hn,hd,cS]) ?_ ⟨rfl,by omega,k+m,v8,by simp [hn,hd,cS],by omega⟩;rw [dN,aW (by simp [hn,hd,cS])]
    | loose q d=>
     obtain ⟨h1,h2,lb,h3,h4,h5⟩:=cap;subst h1 h2;have happ2:dT h size bytes (.slice j (d*size) k (.loose q d)) x=some (.slice h.size 0 (k+m) (.loose h.caps.length 0),(h.put j .dead).grow (.cells false ((body.drop (d*size)).take (k*size)++ds) (some (h.caps.length,size))) (k+m)):=by simp only [dT,lS,hm,hf];rw [if_pos ⟨hb,hb2,ho⟩,if_neg hw];simp only [show h.objs[j]?=some (.cells false body (some (q,size))) from get];rw [if_pos (by simpa using le)];simp only [AHeap.grow,AHeap.put,AHeap.size]
     rw [happ2];refine ⟨_,_,[h.size],rfl,?_,(Keep.put (by simp)).trans' Keep.grow,by simp⟩;rw [<- at_];refine .mk (by rw [EN,if_pos (by simp)]) (by simp [hn,hd,cS]) ?_ ⟨rfl,by omega,k+m,v8,by simp [hn,hd,cS],by omega⟩;rw [dN,aW (by simp [hn,hd,cS])]
theorem Vec.wG (v:Vec h 1 cs F s) {G:List Nat} (hx:dz h 1 ds G x) (ho:ds.all AV.one=true) (hb:(cs.length+ds.length)*bytes<=bigA) (hb2:cs.length+ds.length<=bigA) :
 ∃ s' h' F',dT h 1 bytes s x=some (s',h')/\Vec h' 1 (cs++ds) F' s'/\Keep F h h'/\(∀ t∈F',t∈F\/h.size<=t):=
 v.append (by omega) (n:=cs.length) (m:=ds.length) (by omega) hx.my (by rw [hx.first (n:=ds.length) (by omega) (by omega)];simp) ho (by omega) hb hb2
end
theorem jw (v:AV):∀ n,rep n [v]=List.replicate n v
 | 0=>rfl
 | n+1=>by simp [rep,jw v n,Dl,List.singleton_append]
def intsA (xs:List Int):List AV:=xs.map (.int .i64 ·)
@[simp] theorem qb :(intsA xs).length=xs.length:=by simp [intsA]
@[simp] theorem ue :(intsA xs).all AV.one=true:=by simp [intsA]
@[simp] theorem oe {ys:List Int}:intsA (xs++ys)=intsA xs++intsA ys:=by simp [intsA]
theorem AW {k:Nat} (hk:k<xs.length):(intsA xs)[k]?=some (iQ xs[k]):=by simp [intsA,hk]
@[simp] theorem Uo:intsA []=[]:=rfl
@[simp] theorem G1 {n:Nat}:(intsA xs).drop n=intsA (xs.drop n):=by simp [intsA]
@[simp] theorem G0 {n:Nat}:(intsA xs).take n=intsA (xs.take n):=by simp [intsA]
section
variable {h:AHeap}
def sW (h:AHeap) (F:List Nat):Prop:=∀ t∈F,h.size<=t
theorem vU {x:AV}:dz (h.push (Qc [x] none)) 1 [x] [h.size] (.slice h.size 0 1 (.exact 1)):=(Vec.new (m:=1) ak (by simp)).view
theorem sS {o x:AV} {cs:List AV} {G:List Nat} (v:Vec h 1 cs G o) (hx:x.one=true) (hb:cs.length<=1000000):∃ s' h' G',dT (h.push (Qc [x] none)) 1 8 o (.slice h.size 0 1 (.exact 1))=some (s',h')/\Vec h' 1 (cs++[x]) G' s'/\Keep G h h'/\∀ t∈G',t∈G\/h.size<=t:=by
 have ⟨s',h',G',e,v',k',f'⟩:=(v.keep (Keep.push (F:=[])) (by simp)).wG (bytes:=8) (vU (x:=x)) (by simp [hx]) (by simp [bigA];omega) (by simp [bigA];omega);refine ⟨s',h',G',e,v',(Keep.push (F:=G)).trans' k',fun t ht=>?_⟩;rcases f' t ht with h1 | h1
 . exact dc h1
 . simp at h1;exact dx (by omega)
end
end
section
open Go.RowKit Go.ChangeShapes Go.WideShapes
def xH (P:Program) (g:TypeId->DataW Unit->Option (List AV)) (e:TypeId):List (DataW Unit)->Option (List AV)
 | []=>some []
 | d::ds=>match g e d,xH P g e ds with
  | some a,some b=>if a.length=P.cellsOf e then some (a++b) else none
  | _,_=>none
def nv (P:Program) (g:TypeId->DataW Unit->Option (List AV)):List Field->Nat->List (DataW Unit)->Option (List AV)
 | [],_,[]=>some []
 | f::fs,o,d::ds=>match g f.type d,nv P g fs (o+P.cellsOf f.type) ds with
  | some a,some b=>if f.offset=o/\a.length=P.cellsOf f.type then some (a++b) else none
  | _,_=>none
 | _,_,_=>none
def zf (P:Program):Nat->TypeId->DataW Unit->Option (List AV)
 | 0,_,_=>none
 | n+1,t,d=>match P.underlying t,d with
  | some (.int k),.lit (.int j v)=>if j=k then some [.int k v] else none
  | some .bool,.lit (.bool b)=>some [.bool b]
  | some .string,.lit (.string s)=>some [.str ⟨s.toArray⟩]
  | some (.array m e),.agg l=>if l.length=m/\m*P.cellsOf e=P.cellsOf t then xH P (zf P n) e l else none
  | some (.struct fs),.agg l=>(nv P (zf P n) fs.toList 0 l).bind fun a=>if a.length=P.cellsOf t then some a else none
  | _,_=>none
section
variable {enc:TypeId×Value->Unit} {P:Program} {w:World} {base:Nat} {spare:Nat->Bool} {held:Bool}
theorem D4 {ρ:eM} {a b:List AV} {cs:List Value} {o n m:Nat} (h:AV.rels ρ a ((cs.drop o).take n)) (k:AV.rels ρ b ((cs.drop (o+n)).take m)):AV.rels ρ (a++b) ((cs.drop o).take (n+m)):=by have:=fR h k;rwa [<- mu,<- List.take_add] at this
theorem Iv {n m:Nat} {e:TypeId} {cs:List Value} (ih:∀ c x as,zf P n e x.1=some as->DataW.trod enc P w base spare held m e c=some x->∀ ρ,AV.rels ρ as c) :
 ∀ (xs:List (DataW Unit×List MemPlace)) (o:Nat) (as:List AV),xH P (zf P n) e (xs.map (·.1))=some as->o+xs.length*P.cellsOf e<=cs.length->
  (∀ i<xs.length,DataW.trod enc P w base spare held m e ((cs.drop (o+i*P.cellsOf e)).take (P.cellsOf e))=xs[i]?)->∀ ρ,AV.rels ρ as ((cs.drop o).take (xs.length*P.cellsOf e))
 | [],o,as,h,_,_,ρ=>by simp [eT,xH,ai] at h;subst h;simp [AV.rels]
 | x::xs,o,as,h,hl,hx,ρ=>by
  simp [aR,xH] at h;split at h;case h_2=>cases h
  rename_i a b ha hb;split at h;case isFalse=>cases h
  rename_i hal;cases h;rw [bn,dy] at hl;have h0:=hx 0 (by simp);simp [HI,dJ,ad] at h0;have r1:=ih _ x a ha h0 ρ;have r2:=Iv (cs:=cs) ih xs (o+P.cellsOf e) b hb (by omega) (fun i hi=>by
   have:=hx (i+1) (by simpa using hi);rw [av,dy] at this;rw [show o+P.cellsOf e+i*P.cellsOf e=o+(i*P.cellsOf e+P.cellsOf e) by omega];exact this) ρ
  have:=D4 r1 r2;rwa [show (x::xs).length*P.cellsOf e=P.cellsOf e+xs.length*P.cellsOf e by rw [bn,dy,j5]]
theorem xG {n m:Nat} {cs:List Value} (ih:∀ t c x as,zf P n t x.1=some as->DataW.trod enc P w base spare held m t c=some x->∀ ρ,AV.rels ρ as c) :
 ∀ (fs:List Field) (xs:List (DataW Unit×List MemPlace)) (o:Nat) (as:List AV),nv P (zf P n) fs o (xs.map (·.1))=some as->o+as.length<=cs.length->xs.length=fs.length->
  (∀ (i:Nat) f,fs[i]?=some f->DataW.trod enc P w base spare held m f.type ((cs.drop f.offset).take (P.cellsOf f.type))=xs[i]?)->∀ ρ,AV.rels ρ as ((cs.drop o).take as.length)
 | [],[],o,as,h,_,_,_,ρ=>by simp [eT,nv,ai] at h;subst h;simp [AV.rels]
 | [],_::_,_,_,_,_,hl,_,_=>by simp at hl
 | _::_,[],_,_,_,_,hl,_,_=>by simp at hl
 | f::fs,x::xs,o,as,h,hle,hl,hx,ρ=>by
  simp [aR,nv] at h;split at h;case h_2=>cases h
  rename_i a b ha hb;split at h;case isFalse=>cases h
  rename_i hal;cases h;rw [aM] at hle;have h0:=hx 0 f rfl;simp [ad] at h0;rw [hal.1] at h0;have r1:=ih f.type _ x a ha h0 ρ;have r2:=xG (cs:=cs) ih fs xs (o+P.cellsOf f.type) b hb (by omega) (by simpa using hl) (fun i g hg=>by simpa using hx (i+1) g (by simpa using hg)) ρ;have:=D4 r1 r2;rwa [aM,hal.2]
theorem xF:∀ (n fuel:Nat) (t:TypeId) (c:List Value) (x:DataW Unit×List MemPlace) (as:List AV),zf P n t x.1=some as->DataW.trod enc P w base spare held fuel t c=some x->∀ ρ,AV.rels ρ as c
 | 0,_,_,_,_,_,h,_,_=>by simp [zf] at h
 | n+1,fuel,t,c,x,as,h,hx,ρ=>by
  simp [zf] at h;split at h
  . rename_i k j v hu hd;have ⟨v',hcs,hx2,_⟩:=DataW.trod_int hu hx;rw [hx2] at hd;cases hd;rw [if_pos rfl] at h;cases h;simp [AV.rels,AV.rel,hcs]
  . rename_i b hu hd;have ⟨b',hcs,hx2⟩:=DataW.trod_bool hu hx;rw [hx2] at hd;cases hd;cases h;simp [AV.rels,AV.rel,hcs]
  . rename_i s hu hd;have ⟨s',hcs,hx2,_⟩:=DataW.trod_string hu hx;rw [hx2] at hd;cases hd;cases h;simp [AV.rels,AV.rel,hcs]
  . rename_i m e l hu hd;have ⟨xs,m',_,hx2,hcl,hxl,hel⟩:=DataW.trod_array hu hx;rw [hx2] at hd;cases hd;split at h;case isFalse=>cases h
    rename_i hm;have:=Iv (cs:=c) (fun c x as a b=>xF n m' e c x as a b) xs 0 as h (by rw [hxl,hm.2,hcl];omega) (fun i hi=>by rw [gh];exact hel i (by omega)) ρ;rwa [dN,hxl,hm.2,<- hcl,gB] at this
  . rename_i fs l hu hd;have ⟨xs,m',_,hx2,hcl,hxl,hf⟩:=DataW.trod_struct hu hx;rw [hx2] at hd;cases hd;rw [dp] at h;have ⟨a,ha,h⟩:=h;split at h;case isFalse=>cases h
    rename_i hal;cases h;have:=xG (cs:=c) (fun t c x as a b=>xF n m' t c x as a b) fs.toList xs 0 as ha (by rw [hal,hcl];omega) (by simpa using hxl) (fun i f hfi=>hf i f (by simpa using hfi)) ρ;rwa [dN,hal,<- hcl,gB] at this
  . cases h
end
theorem glob_holds {P:Program} {w:World} {name:String} {enc:TypeId×Value->Unit} {g fuel n:Nat} {t:TypeId} {cs:Array Value} {x:DataW Unit×List MemPlace} {as:List AV} {base:Nat} {spare:Nat->Bool} {held:Bool}
 (hg:P.globalNamed name=some g) (hv:w.var? P name=some cs) (hx:DataW.trod enc P w base spare held fuel t cs.toList=some x) (hl:zf P n t x.1=some as) (hpos:as≠[]):(AObj.cells true as none).holds eM.nil w ⟨g,0,none⟩:=by
 have hr:=xF n fuel t _ x as hl hx eM.nil;have cell:∀ (j:Nat) v,as[j]?=some v->∃ y,w.cell? ((⟨g,0,none⟩:Addr).add j)=some y/\v.rel eM.nil y:=fun j v hj=>by have ⟨y,h1,h2⟩:=da hr hj;refine ⟨y,?_,h2⟩;rw [me rfl];have:=World.var?_cell hg hv j;simp [gh];rw [this,<- h1,bt]
 refine ⟨?_,cell⟩;cases as with
 | nil=>exact absurd rfl hpos
 | cons u us=>have ⟨y,h1,_⟩:=cell 0 u rfl;exact World.block_lt_of_cell? w _ (by simpa [add_block,Addr.add] using h1)
end
section
open Go.RowKit Go.ChangeShapes Go.WideShapes
variable {k:IntKind} {fuel:Nat} {e:TypeId} {vs:List Int} {rows:List (List Int)} {x:DataW Unit×List MemPlace}
def uz (b:Nat):List (List Int)->List AV
 | []=>[]
 | vs::r=>.slice b 0 vs.length (.exact vs.length)::uz (b+1) r
def dv (k:IntKind) (vs:List Int):AObj:=match vs with
 | []=>.dead
 | v::vs=>.cells true ((v::vs).map (.int k ·)) none
theorem Ay:∀ (b:Nat) (rows:List (List Int)) (i:Nat) (v:AV),(uz b rows)[i]?=some v->∃ vs,rows[i]?=some vs/\v=.slice (b+i) 0 vs.length (.exact vs.length)
 | _,[],i,v,h=>by simp [uz] at h
 | b,vs::r,0,v,h=>by simp [uz,ad,ai] at h;exact ⟨vs,rfl,h.symm⟩
 | b,vs::r,i+1,v,h=>by simp [uz,av] at h;have ⟨us,h1,h2⟩:=Ay (b+1) r i v h;exact ⟨us,by simpa using h1,by rw [h2];congr 1;omega⟩
section
variable {enc:TypeId×Value->Unit} {P:Program} {w:World} {held:Bool}
theorem F5 {t:TypeId} {c:List Value} (hu:P.underlying t=some (.slice e)) (he:P.underlying e=some (.int k)) (hc:P.cellsOf e=1) (h:DataW.trod enc P w 0 (fun _=>true) held fuel t c=some x) (hx:x.1=.slice (vs.map fun v=>.lit (.int k v)) []) :
 ∃ a,c=[.slice (some a) vs.length vs.length]/\∀ (j:Nat) v,vs[j]?=some v->w.cell? (a.add j)=some (.int k v):=by
 rcases DataW.trod_slice hu h with ⟨_,hx2⟩ | ⟨a,len,cap,elems,rest,n,_,hcs,hx2,_,hle,_,hel,hget,hsp,_⟩
 . rw [hx2] at hx;cases hx
 . rw [hx2] at hx;simp [DataW.slice.injEq,Dn] at hx;have ⟨hx3,hx4⟩:=hx;have hrl:=(hsp rfl).1;rw [hx4] at hrl;simp at hrl;have hlen:vs.length=len:=by have:=congrArg List.length hx3;simp at this;omega
   have hcap:cap=len:=by omega
   refine ⟨a,by rw [hcs,hlen,hcap],fun j v hj=>?_⟩;have hjl:j<len:=by rw [<- hlen];exact (aa.1 hj).1
   have h1:=hget j hjl;rw [hc] at h1;have h2:(elems.map (·.1))[j]?=some (.lit (.int k v)):=by rw [hx3];simp [hj]
   rw [gZ,ae] at h2;have ⟨y,hy1,hy2⟩:=h2;rw [hy1] at h1;have ⟨q,hq1,hq2⟩:=dp.1 h1;have ⟨v',hv1,hv2,_⟩:=DataW.trod_int he hq2;rw [hv2] at hy2;cases hy2;have ⟨hql,hqg⟩:=rh hq1;have:=hqg 0 (by omega);rw [hv1,gN] at this;simpa using this
theorem tD {t e':TypeId} {cs:List Value} {m:Nat} (ht:P.underlying t=some (.array m e)) (hu:P.underlying e=some (.slice e')) (he:P.underlying e'=some (.int k)) (hc:P.cellsOf e=1) (hc':P.cellsOf e'=1)
 (h:DataW.trod enc P w 0 (fun _=>true) held fuel t cs=some x) (hx:x.1=.agg (rows.map fun vs=>.slice (vs.map fun v=>.lit (.int k v)) [])) :
 ∃ f:Nat->Addr,∀ (i:Nat) vs,rows[i]?=some vs->cs[i]?=some (.slice (some (f i)) vs.length vs.length)/\∀ (j:Nat) v,vs[j]?=some v->w.cell? ((f i).add j)=some (.int k v):=by
 have ⟨xs,m',_,hx2,hcl,hxl,hel⟩:=DataW.trod_array ht h;rw [hx2] at hx;simp [DataW.agg.injEq] at hx;have hlen:rows.length=m:=by have:=congrArg List.length hx;simp at this;omega
 have each:∀ i,i<m->∃ a:Addr,∀ vs,rows[i]?=some vs->cs[i]?=some (.slice (some a) vs.length vs.length)/\∀ (j:Nat) v,vs[j]?=some v->w.cell? (a.add j)=some (.int k v):=by
  intro i hi;have h1:=hel i hi;rw [hc,lH] at h1;obtain ⟨y,hy⟩:∃ y,xs[i]?=some y:=⟨_,ah (by omega)⟩
  obtain ⟨vs,hvs⟩:∃ vs,rows[i]?=some vs:=⟨_,ah (by omega)⟩
  have h2:y.1=.slice (vs.map fun v=>.lit (.int k v)) []:=by have:=congrArg (·[i]?) hx;simp [hy,hvs] at this;exact this
  rw [hy] at h1;have ⟨a,ha1,ha2⟩:=F5 hu he hc' h1 h2;refine ⟨a,fun us hus=>?_⟩;rw [hvs] at hus;cases hus;refine ⟨?_,ha2⟩;have:=congrArg (·[0]?) ha1;simpa using this
 have ⟨f,hf⟩:=Go.Deep.choose_lt each;exact ⟨f,fun i vs hi=>hf i (by rw [<- hlen];exact (aa.1 hi).1) vs hi⟩
end
theorem rowO_holds {w:World} {a:Addr} {ρ:eM} (h:∀ (j:Nat) v,vs[j]?=some v->w.cell? (a.add j)=some (.int k v)):(dv k vs).holds ρ w a:=by
 cases vs with
 | nil=>trivial
 | cons v vs=>refine ⟨by simpa [add_block] using World.block_lt_of_cell? w _ (h 0 v rfl),fun j u hj=>?_⟩;rw [gZ,ae] at hj;obtain ⟨x,hx,rfl⟩:=hj;exact ⟨_,h j x hx,rfl⟩
theorem B8 {w:World} {G:Nat} (as:List Addr) (os:List AObj) (hl:as.length=os.length) (hG:∀ g<G,as[g]?=some ⟨g,0,none⟩) (ho:∀ p∈as.zip os,p.2.holds ⟨as,[],[]⟩ w p.1/\p.2.writable=false):fw G ⟨as,[],[]⟩ ⟨os,[]⟩ w:=by
 have hro:∀ (i:Nat) o a,os[i]?=some o->as[i]?=some a->o.holds ⟨as,[],[]⟩ w a/\o.writable=false:=fun i o a h1 h2=>by
  have:(as.zip os)[i]?=some (a,o):=by simp [List.getElem?_zip_eq_some,h1,h2]
  exact ho _ (cW this)
 refine ⟨hl,rfl,fun g hg=>hG g hg,fun i o a h1 h2=>(hro i o a h1 h2).1,fun i j o p a b h1 _ h3 _ _ hw _=>?_,fun k lb h=>by simp at h,fun x hx=>by simp at hx⟩;rw [(hro i o a h1 h3).2] at hw;cases hw
theorem rowsG_holds {P:Program} {w:World} {name:String} {g b:Nat} {cs:Array Value} {f:Nat->Addr} {as:List Addr} (hg:P.globalNamed name=some g) (hv:w.var? P name=some cs) (hf:∀ (i:Nat) vs,rows[i]?=some vs->cs.toList[i]?=some (.slice (some (f i)) vs.length vs.length)/\∀ (j:Nat) v,vs[j]?=some v->w.cell? ((f i).add j)=some (.int k v))
 (ha:∀ i<rows.length,as[b+i]?=some (f i)) (hpos:rows≠[]):(AObj.cells true (uz b rows) none).holds ⟨as,[],[]⟩ w ⟨g,0,none⟩:=by
 have cell:∀ (j:Nat) v,(uz b rows)[j]?=some v->∃ y,w.cell? ((⟨g,0,none⟩:Addr).add j)=some y/\v.rel ⟨as,[],[]⟩ y:=fun j v hj=>by
  obtain ⟨vs,h1,rfl⟩:=Ay b rows j v hj;have ⟨h2,_⟩:=hf j vs h1;refine ⟨.slice (some (f j)) vs.length vs.length,?_,?_⟩
  . rw [me rfl];have:=World.var?_cell hg hv j;simp [gh];rw [this,<- bt,h2]
  . simp only [AV.rel];exact ⟨f j,vs.length,ha j (aa.1 h1).1,rfl,dc (by simp [Addr.add])⟩
 refine ⟨?_,cell⟩;cases rows with
 | nil=>exact absurd rfl hpos
 | cons vs r=>have ⟨y,h1,_⟩:=cell 0 _ rfl;exact World.block_lt_of_cell? w _ (by simpa [add_block,Addr.add] using h1)
end
def nextRows:List (List Int):=[[1],[2],[1,3,4,5,6],[1],[1],[1],[]]
def str (l:List UInt8):AV:=.str ⟨l.toArray⟩
def iL:List AV:=[str [101,120,101,99],.int .i64 0,str [115,99,104,101,100],.int .i64 0,str [111,110,101],.int .i64 1,str [108,111,99,97,108],.int .i64 2,str [103,108,111,98,97,108],.int .i64 1,str [115,112,105,110,117,112],.int .i64 0,str [115,116,101,97,108],.int .i64 3,str [114,101,108,101,97,115,101],.int .i64 1,str [100,114,111,112],.int .i64 0,str [108,111,111,107],.int .i64 4,str [108,111,111,107,103,108,111,98,97,108],.int .i64 1,str [114,101,116,97,107,101],.int .i64 1,str [115,112,105,110,98,97,99,107],.int .i64 0,str [115,116,111,112],.int .i64 1,str [99,104,101,99,107],.int .i64 5,str [117,110,112,111,108,108],.int .i64 1,str [115,108,101,101,112],.int .i64 0,str [112,117,116,114,101,115,116],.int .i64 2,str [112,117,116,111,118,101,114],.int .i64 1,str [117,110,115,112,105,110],.int .i64 0,str [100,105,115,112,97,116,99,104],.int .i64 0,str [108,111,97,100],.int .i64 0,str [99,108,97,105,109],.int .i64 0,str [102,105,110,100],.int .i64 1,str [119,97,107,101],.int .i64 0,str [100,101,108,105,118,101,114],.int .i64 5,str [109,97,114,107],.int .i64 0,str [112,117,116,111,110,101],.int .i64 1,str [112,117,116,110,101,120,116],.int .i64 2,str [112,97,114,107],.int .i64 5,str [97,119,97,105,116],.int .i64 5]
def glob2:List AV:=[str [115,112,97,119,110],.int .u64 0,.int .u64 1,str [114,101,97,100,121],.int .u64 0,.int .u64 1,str [100,105,115,112,97,116,99,104],.int .u64 1,.int .u64 2,str [121,105,101,108,100],.int .u64 2,.int .u64 1,str [98,108,111,99,107],.int .u64 2,.int .u64 3,str [115,108,101,101,112],.int .u64 2,.int .u64 4,str [119,97,105,116],.int .u64 2,.int .u64 5,str [101,120,105,116],.int .u64 2,.int .u64 6]
def mG:List AV:=[0,1,56,2,57,49,28,3,61,58,42,50,38,29,17,4,62,47,59,36,45,43,51,22,53,39,33,30,24,18,12,5,63,55,48,27,60,41,37,16,46,35,44,21,52,32,23,11,54,26,40,15,34,20,31,10,25,14,19,9,13,8,7,6].map (.int .u8 ·)
abbrev og:=mG
def globN:AObj:=.cells true (uz 4 nextRows) none
abbrev uH (x0 x1 x2:AObj) (args:List AObj):AHeap:=⟨x0::x1::x2::.cells true mG none::dv .u64 [1]::dv .u64 [2]::dv .u64 [1,3,4,5,6]::dv .u64 [1]::dv .u64 [1]::dv .u64 [1]::dv .u64 []::args,[]⟩
def uE (b:Bool) (P : Program) (G : Nat) : Code → Option ACode
  | .skip => some .skip
  | .region _ ops draw => if b then ow P G ops draw else (fO P G ops ops.toList).map fun l => if draw then .draw (stances l (befores ops.toList []) (louds l 0) l 0) else .region l
  | .seq x y => match uE b P G x, uE b P G y with
    | some x, some y => some (.seq x y)
    | _, _ => none
  | .cond c x y => match compOpd G c, uE b P G x, uE b P G y with
    | some c, some x, some y => some (.cond c x y)
    | _, _, _ => none
  | .block id a => (uE b P G a).map (.block id)
  | .loop a => (uE b P G a).map .loop
  | .scope a => uE b P G a
  | .label _ => some .skip
  | .exit id => some (.exit id)
  | .ret => some .ret
  | _ => none
noncomputable def U3 (b:Bool) (fn : Func) : Option dA := match fn.body with
  | none => none
  | some c => match uE b Tryz.prog 4 c, kX Tryz.prog fn.results.toList with
    | some b, some r => some ⟨fn.ntmps, r, b, none⟩
    | _, _ => none
@[simp] abbrev cB (b:Bool) (fn : Func) {F : dA} (_:U3 b fn=some F:=by conv=>lhs;cbv):dA:=F
@[simp] abbrev cF (fn : Func) {F : dA} (_:U3 false fn=some F:=by conv=>lhs;cbv):dA:=F
def look (L:List (Nat×Func×dA)) : gO := fun f=>(L.find? fun p=>Nat.beq p.1 f).map (·.2.2)
def SI (L:List (Nat×Func×dA)) : Prop := L.map (fun p=>(Tryz.prog.funcs[p.1]?,jE Tryz.prog 4 p.2.1,p.2.2.body.within p.2.2.ntmps))=L.map fun p=>(some p.2.1,some p.2.2,true)
theorem SI.ok {L : List (Nat×Func×dA)} {f : Nat} {F : dA} (h:SI L) (e:look L f=some F) : (∃ fn,Tryz.prog.funcs[f]?=some fn∧jE Tryz.prog 4 fn=some F)∧F.body.within F.ntmps=true := by
  unfold look at e
  obtain ⟨p,hp,rfl⟩:=ae.1 e
  have h1:p.1=f:=by have:=List.find?_some hp;exact Nat.eq_of_beq_eq_true this
  unfold SI at h
  have h2:=List.map_inj_left.1 h p (List.mem_of_find?_eq_some hp)
  simp only [an] at h2
  rw [← h1]
  exact ⟨⟨_,h2.1,h2.2.1⟩,h2.2.2⟩
section
open Tryz
set_option maxHeartbeats 4000000
noncomputable section
def F3:=cF f3
def F8:=cF f8
def F12:=cF f12
def F16:=cF f16
def F20:dA:=(⟨_,by conv=>lhs;cbv⟩:{F:dA//(let t:=AOpd.tmp;let oo:=fun (d:Nat) (x:AOp)=>(⟨some d,x,none⟩:aK);let mm:=fun (d s:Nat)=>oo d (.mv (t s));let nn:=fun (x:AOp)=>(⟨none,x,none⟩:aK);let ss:=fun (d:Nat) (x:AOp)=>((oo d x,.still):aK×dB);let ll:=fun (x:AOp)=>((nn x,.loud):aK×dB);let gg:=fun (d:Nat) (x:AOp) (s:Nat) (b:Bool)=>(⟨some d,x,some (s,b)⟩:aK);⟨148,[.tmp 2,.tmp 3],.seq (.region [ oo 1 (.box (t 0)),oo 2 (.mv (.const .nilptr)),oo 3 (.mv (.const (.int .i64 0)))]) (.seq (.seq (.region [ oo 7 (.loadN 3 (t 1)),oo 8 (.call 45 [(t 7)]),oo 9 (.un .not (t 8))]) (.cond (t 9) (.seq (.region [ oo 2 (.mv (.const .nilptr)),oo 3 (.mv (.const (.int .i64 1)))]) (.ret)) (.skip))) (.seq (.seq (.region [ oo 17 (.mv (.const (.tuple []))),oo 20 (.mv (.const (.tuple [])))]) (.seq (.draw [ (oo 10 (.loadN 3 (t 1)),.reads 0 3),ss 11 (.fieldAddr 0 (t 1)),(oo 12 (.load1 (t 11)),.reads 0 3),ss 13 (.bin .add (t 12) (.const (.int .i64 2))),ss 14 (.bin .mul (.const (.int .i64 2)) (t 13)),ss 15 (.fieldAddr 0 (t 1)),(oo 16 (.load1 (t 15)),.reads 0 3),ss 17 (.mv (.const (.tuple []))),ss 18 (.fieldAddr 1 (t 1)),(oo 19 (.load1 (t 18)),.reads 0 3),ss 20 (.mv (.const (.tuple []))),ss 21 (.fieldAddr 0 (t 1)),(oo 22 (.load1 (t 21)),.reads 0 0),(oo 23 (.call 46 [(t 22)]),.loud),ss 24 (.fieldAddr 0 (t 1)),(oo 25 (.load1 (t 24)),.reads 0 1),(oo 26 (.call 47 [(t 25)]),.loud),ss 27 (.fieldAddr 0 (t 1)),(oo 28 (.load1 (t 27)),.reads 0 2),ss 29 (.fieldAddr 1 (t 1)),(oo 30 (.load1 (t 29)),.reads 0 2),(oo 31 (.call 48 [(t 28),(t 30)]),.loud),(nn (.mv (.const (.tuple []))),.still),(nn (.mv (.const (.tuple []))),.still),(nn (.mv (.const (.tuple []))),.still)]) (.region [ oo 17 (.mkslice 1 8 [(.int .i64 0)] (t 16) (t 16)),oo 20 (.mkslice 1 1 [(.bool false)] (t 19) (t 19)),nn (.lenS (t 17)),nn (.lenS (t 20)),oo 32 (.build [(.int .i64 0),(.int .i64 0),(.int .i64 0),.nilptr,(.int .i64 0),(.int .i64 0),(.int .i64 0),(.int .i64 0),.nilslice,.nilslice,.nilptr,.nilptr,.nilptr,.nilslice,.nilslice,.nilslice] [((0,3),(t 10)),((4,1),(t 14)),((9,1),(t 17)),((14,1),(t 20)),((10,1),(t 23)),((11,1),(t 26)),((12,1),(t 31))]),oo 33 (.box (t 32)),mm 4 33]))) (.seq (.region [ mm 34 4,mm 35 4,oo 36 (.nilCheck (t 35)),oo 37 (.fieldAddr 4 (t 36)),oo 38 (.load1 (t 37)),oo 39 (.bin .add (t 38) (.const (.int .i64 1))),oo 40 (.nilCheck (t 34)),oo 41 (.fieldAddr 5 (t 40)),nn (.store 1 (t 41) (t 39))]) (.seq (.draw [ (mm 42 4,.still),(mm 43 4,.still),ss 44 (.nilCheck (t 43)),ss 45 (.fieldAddr 5 (t 44)),(oo 46 (.load1 (t 45)),.reads 0 0),ss 47 (.fieldAddr 1 (t 1)),(oo 48 (.load1 (t 47)),.reads 0 0),ss 49 (.bin .add (t 46) (t 48)),ss 50 (.fieldAddr 2 (t 1)),(oo 51 (.load1 (t 50)),.reads 0 0),ss 52 (.build [(.int .i64 0),(.int .i64 0)] [((0,1),(t 49)),((1,1),(t 51))]),ss 53 (.nilCheck (t 42)),ss 54 (.fieldAddr 6 (t 53)),ll (.store 2 (t 54) (t 52))]) (.seq (.draw [ (mm 55 4,.still),(mm 56 4,.still),ss 57 (.nilCheck (t 56)),ss 58 (.fieldAddr 6 (t 57)),ss 59 (.fieldAddr 0 (t 58)),(oo 60 (.load1 (t 59)),.reads 0 0),ss 61 (.fieldAddr 2 (t 1)),(oo 62 (.load1 (t 61)),.reads 0 0),ss 63 (.bin .add (t 60) (t 62)),(oo 64 (.call 49 [(t 63)]),.loud),ss 65 (.nilCheck (t 55)),ss 66 (.fieldAddr 3 (t 65)),ll (.store 1 (t 66) (t 64))]) (.seq (.seq (.region [ oo 67 (.fieldAddr 0 (t 1)),oo 68 (.load1 (t 67)),oo 69 (.mv (.const (.int .i64 0)))]) (.block 0 (.loop (.seq (.region [ oo 70 (.bin .lss (t 69) (t 68))]) (.seq (.cond (t 70) (.skip) (.exit 0)) (.seq (.block 1 (.seq (.region [ mm 71 69,mm 5 71]) (.seq (.draw [ (mm 72 4,.still),(mm 73 4,.still),ss 74 (.nilCheck (t 73)),ss 75 (.fieldAddr 8 (t 74)),(oo 76 (.load1 (t 75)),.reads 0 2),(oo 77 (.call 50 []),.loud),(oo 78 (.buildSlice [.nilptr] 1 [((0,1),(t 77))]),.loud),(oo 79 (.append 1 8 [.nilptr] (t 76) (t 78)),.loud),ss 80 (.nilCheck (t 72)),ss 81 (.fieldAddr 8 (t 80)),ll (.store 1 (t 81) (t 79))]) (.seq (.region [ mm 82 5,oo 83 (.bin .gtr (t 82) (.const (.int .i64 0)))]) (.cond (t 83) (.region [ mm 84 4,oo 85 (.nilCheck (t 84)),oo 86 (.fieldAddr 12 (t 85)),oo 87 (.load1 (t 86)),mm 88 5,oo 89 (.call 51 [(t 87),(t 88)])]) (.skip)))))) (.region [ oo 90 (.bin .add (t 69) (.const (.int .i64 1))),mm 69 90]))))))) (.seq (.seq (.region [ oo 91 (.fieldAddr 1 (t 1)),oo 92 (.load1 (t 91)),oo 93 (.mv (.const (.int .i64 0)))]) (.block 2 (.loop (.seq (.region [ oo 94 (.bin .lss (t 93) (t 92))]) (.seq (.cond (t 94) (.skip) (.exit 2)) (.seq (.block 3 (.seq (.region [ mm 95 93,mm 6 95]) (.seq (.draw [ (mm 96 4,.still),(mm 97 4,.still),ss 98 (.nilCheck (t 97)),ss 99 (.fieldAddr 13 (t 98)),(oo 100 (.load1 (t 99)),.reads 0 2),(oo 101 (.call 52 []),.loud),(oo 102 (.buildSlice [(.int .i64 0),(.int .i64 0),(.int .i64 0),(.int .i64 0),(.int .i64 0),(.int .i64 0),(.int .i64 0),(.bool false),(.bool false),.nilslice,(.int .i64 0),(.int .i64 0),(.int .i64 0),(.int .i64 0),(.int .i64 0),(.int .i64 0),(.int .u64 0),(.int .i64 0)] 1 [((0,18),(t 101))]),.loud),(oo 103 (.append 18 152 [(.int .i64 0),(.int .i64 0),(.int .i64 0),(.int .i64 0),(.int .i64 0),(.int .i64 0),(.int .i64 0),(.bool false),(.bool false),.nilslice,(.int .i64 0),(.int .i64 0),(.int .i64 0),(.int .i64 0),(.int .i64 0),(.int .i64 0),(.int .u64 0),(.int .i64 0)] (t 100) (t 102)),.loud),ss 104 (.nilCheck (t 96)),ss 105 (.fieldAddr 13 (t 104)),ll (.store 1 (t 105) (t 103))]) (.seq (.region [ mm 106 6,oo 107 (.bin .gtr (t 106) (.const (.int .i64 0)))]) (.cond (t 107) (.region [ mm 108 4,oo 109 (.nilCheck (t 108)),oo 110 (.fieldAddr 12 (t 109)),oo 111 (.load1 (t 110)),mm 112 6,oo 113 (.call 53 [(t 111),(t 112)])]) (.skip)))))) (.region [ oo 114 (.bin .add (t 93) (.const (.int .i64 1))),mm 93 114]))))))) (.seq (.draw [ (mm 115 4,.still),ss 116 (.nilCheck (t 115)),ss 117 (.fieldAddr 13 (t 116)),(oo 118 (.load1 (t 117)),.reads 0 0),(mm 119 4,.still),ss 120 (.nilCheck (t 119)),ss 121 (.fieldAddr 13 (t 120)),(oo 122 (.load1 (t 121)),.reads 0 0),ss 123 (.idxAddr 18 none (t 118) (.const (.int .i64 0))),ss 124 (.fieldAddr 0 (t 123)),ll (.store 1 (t 124) (.const (.int .i64 1))),ss 125 (.idxAddr 18 none (t 122) (.const (.int .i64 0))),ss 126 (.fieldAddr 1 (t 125)),ll (.store 1 (t 126) (.const (.int .i64 0)))]) (.seq (.draw [ (mm 127 4,.still),ss 128 (.nilCheck (t 127)),ss 129 (.fieldAddr 6 (t 128)),(oo 130 (.loadN 2 (t 129)),.reads 0 0),(mm 131 4,.still),ss 132 (.nilCheck (t 131)),ss 133 (.fieldAddr 3 (t 132)),(oo 134 (.load1 (t 133)),.reads 0 0),(oo 135 (.call 54 [(t 130),(t 134),(.const (.int .i64 0)),(.const (.int .u64 0)),(.const (.int .u64 1))]),.loud)]) (.seq (.region [ mm 136 4,oo 137 (.nilCheck (t 136)),oo 138 (.fieldAddr 15 (t 137)),oo 139 (.build [(.int .i64 0),(.int .i64 0),(.int .i64 0),(.int .i64 0),(.int .i64 0)] [((0,1),(.const (.int .i64 0))),((2,1),(.const (.int .i64 (-1)))),((3,1),(.const (.int .i64 (-1))))]),oo 140 (.call 55 [(t 138),(t 139)])]) (.seq (.region [ mm 141 4,oo 142 (.nilCheck (t 141)),oo 143 (.fieldAddr 10 (t 142)),oo 144 (.load1 (t 143)),oo 145 (.buildSlice [(.int .i64 0)] 1 [((0,1),(.const (.int .i64 0)))]),oo 146 (.call 56 [(t 144),(t 145)])]) (.seq (.region [ mm 147 4,mm 2 147,oo 3 (.mv (.const (.int .i64 0)))]) (.ret))))))))))))),none⟩)=F}).1
def F24:=cF f24
def XP:=cF f28
def F32:=cF f32
def YL:=cF f36
def F40:=cF f40
def F45:=cF f45
def F49:=cF f49
def YH:=cF f53
def YG:=cF f57
def F61:=cF f61
def F65:=cF f65
def F69:=cF f69
def F73:=cF f73
def F77:=cF f77
def UD:=cF f81
def F85:=cF f85
def XK:=cF f90
def F94:=cF f94
def Oo:=cF f98
def F102:=cF f102
def Qz:=cF f106
def TV:=cF f110
def F114:=cF f114
def TS:=cF f118
def Qx:=cF f122
def TN:=cF f128
def TM:=cF f133
def TJ:=cF f137
def HD:=cF f141
def Qt:=cF f145
def Qr:=cF f149
def F153:=cF f153
def TD:=cF f157
def TB:=cF f162
def Tz:=cF f166
def Tw:=cF f170
def F174:=cF f174
def Qn:=cF f178
def Qk:=cF f182
def N3:=cF f186
def Tl:=cF f190
def Dg:=cF f195
def Th:=cF f199
def Tc:=cF f206
end
end
section
open Tryz
set_option maxHeartbeats 4000000
noncomputable section
def F4:=cF f4
def F9:=cF f9
def F13:=cF f13
def F17:=cF f17
def YO:=cF f21
def F25:=cF f25
def F29:=cF f29
def F33:=cF f33
def XO:=cF f37
def F41:=cF f41
def F46:=cF f46
def F50:=cF f50
def XN:=cF f54
def YF:=cF f58
def YD:=cF f62
def F66:=cF f66
def F70:=cF f70
def F74:=cF f74
def YC:=cF f78
def F82:=cF f82
def F86:=cF f86
def YA:=cF f91
def XJ:=cF f95
def F99:=cF f99
def TY:=cF f103
def TX:=cF f107
def F111:=cF f111
def TT:=cF f115
def TR:=cF f119
def TP:=cF f123
def F129:=cF f129
def F134:=cF f134
def TI:=cF f138
def F142:=cF f142
def TF:=cF f146
def TE:=cF f150
def F154:=cF f154
def N5:=cF f158
def Qp:=cF f163
def F167:=cF f167
def Tv:=cF f171
def Qo:=cF f175
def Qm:=cF f179
def Tp:=cF f183
def N2:=cF f187
def Qj:=cF f192
def F196:=cF f196
def Tg:=cF f200
def Tb:=cF f207
end
end
section
open Tryz
set_option maxHeartbeats 4000000
noncomputable section
def F6:=cF f6
def Ob:=cF f10
def F14:=cF f14
def F18:=cF f18
def F22:=cF f22
def F26:=cF f26
def F30:=cF f30
def YN:=cF f34
def F38:=cF f38
def F42:=cF f42
def YI:=cF f47
def F51:=cF f51
def F55:=cF f55
def YE:=cF f59
def F63:=cF f63
def F67:=cF f67
def F71:=cF f71
def XM:=cF f75
def XL:=cF f79
def F83:=cF f83
def F87:=cF f87
def F92:=cF f92
def Yz:=cF f96
def QA:=cF f100
def F104:=cF f104
def TW:=cF f108
def TU:=cF f112
def Qy:=cF f116
def TQ:=cF f120
def TO:=cF f126
def HF:=cF f130
def TL:=cF f135
def TH:=cF f139
def TG:=cF f143
def Qs:=cF f147
def Qq:=cF f151
def F155:=cF f155
def F159:=cF f159
def Lf:=cF f164
def Ty:=cF f168
def Tu:=cF f172
def Ts:=cF f176
def Ql:=cF f180
def N4:=cF f184
def N1:=cF f188
def Tk:=cF f193
def Tj:=cF f197
def Tf:=cF f201
def S8:=cF f211
end
end
section
open Tryz
set_option maxHeartbeats 4000000
noncomputable section
def F7:=cF f7
def F11:=cF f11
def F15:=cF f15
def F19:=cF f19
def F23:=cF f23
def F27:=cF f27
def Lj:=cF f31
def YM:=cF f35
def F39:=cF f39
def YK:=cF f43
def F48:=cF f48
def F52:=cF f52
def F56:=cF f56
def F60:=cF f60
def F64:=cF f64
def F68:=cF f68
def Oq:=cF f72
def F76:=cF f76
def F80:=cF f80
def F84:=cF f84
def F89:=cF f89
def F93:=cF f93
def Yy:=cF f97
def TZ:=cF f101
def F105:=cF f105
def Oa:=cF f109
def F113:=cF f113
def F117:=cF f117
def N9:=cF f121
def Lg:=cF f127
def Qu:=cF f131
def TK:=cF f136
def F140:=cF f140
def N8:=cF f144
def F148:=cF f148
def N7:=cB true f152
def N6:=cF f156
def TC:=cF f161
def TA:=cF f165
def Tx:=cF f169
def Tt:=cF f173
def Tr:=cF f177
def Tq:=cF f181
def To:=cF f185
def Tn:=cF f189
def Qi:=cF f194
def Ti:=cF f198
def Te:=cF f202
end
end
section
open Go.RowKit Go.Proofs
theorem Post.more {G:Nat} {ρ:eM} {h:AHeap} {w w':World} (r:fw G ρ h w) (hb:Below w.heap.size w w'):Post G ρ h w ρ h w':=by
 have hold:∀ b,b<w.heap.size->w'.heap[b]?=w.heap[b]?:=fun b hb'=>hb.block b hb';refine ⟨eM.le_refl ρ,⟨r.jK,r.mh,r.glob,fun i o a h1 h2=>?_,r.apart,r.caps,fun x hx=>?_⟩,hb.os,hb.tape,hb.output,hb.size,fun b hb' _=>hold b hb',fun b hb'=>.inl hb',fun b hb'=>.inl hb',fun _ h=>.inl h⟩
 . have ho:=r.obj i o a h1 h2;cases hl:o.live with
   | false=>cases o<;>simp_all [AObj.live,AObj.holds]
   | true=>exact AObj.fV hb.size (hold _ (AObj.gU ho hl)) ho
 . have ⟨⟨e',h1⟩,h2⟩:=r.lits x hx;exact ⟨⟨e',by rw [hold _ (au.1 h1).1];exact h1⟩,h2⟩
section
variable {P:Program} (w:World)
theorem qn (d:Nat) (t k e:TypeId) (p:Option Nat) (h:P.underlying t=some (.map k e)) :
 (Op.equalIn (d+1) t (.map p) (.map none)).run P w=.ok p.isNone w:=by
 cases p<;>simp [Op.equalIn,run_underlying h]
theorem oI (t k e:TypeId) (p:Option Nat) (h:P.underlying t=some (.map k e)) :
 (binOp .eql t (.map p) (.map none)).run P w=.ok (.bool p.isNone) w:=by
 simp [binOp];simp [show Op.equal t (.map p) (.map none)=Op.equalIn (9999+1) t (.map p) (.map none) from rfl,qn w 9999 t k e p h]
theorem lM (t xT k e:TypeId) (v:Value) (h:P.underlying t=some (.map k e)):(Instr.typeAssert (.iface t v) xT t false).run P w=.ok v w:=by simp [Instr.typeAssert,run_underlying h,go_sem,Result.andThen]
theorem pc {r:Nat} {es:Array MapEntry} {clock:Nat} (t:TypeId) (hb:w.heap[r]?=some (.map es clock)) :
 (Extern.MapsClone.clone #[.iface t (.map (some r))]).run P w=.ok (.iface t (.map (some w.heap.size))) (w.alloc (.map es clock)):=by
 have e:Extern.MapsClone.clone #[.iface t (.map (some r))]=(getObj r >>= fun o=>match o with
  | .map entries clock=>(newObj (.map entries clock) >>= fun n=>pure (.iface t (.map (some n))))
  | _=>stuck "maps.clone: a map expected"):=rfl
 rw [e];simp [MapKept.run_getObj_map hb,Result.andThen,go_sem]
end
theorem By:Tryz.prog.underlying 155=some (.map 85 160):=by kernel_rfl
set_option maxHeartbeats 2000000 in
theorem Nr (b:Nat) (es:Array MapEntry) (clock:Nat) (w:World) (hb:w.heap[b]?=some (.map es clock)) :
 Calls Tryz.prog 124 #[.map (some b)] w fun e w'=>e=.returned (.map (some w.heap.size))/\w'=w.alloc (.map es clock):=by
 have hq:=fun w=>oI (P:=Tryz.prog) w 155 _ _ (some b) By;go_enter Tryz.func124,Tryz.ntmps124;go_wp2;rw [run_callFunc_extern Tryz.func160 (by kernel_rfl) (by kernel_rfl) (by kernel_rfl) (e:=Extern.MapsClone.clone) (by kernel_rfl),pc w 155 hb];simp [Result.andThen];rw [Oper.upon_value];go_wp2;rw [lM _ 155 20 _ _ _ By];simp [Result.andThen];rw [Oper.upon_value];go_wp2;go_ret;exact ⟨rfl,rfl⟩
theorem Lx:Tryz.prog.underlying 156=some (.map 3 85):=by kernel_rfl
set_option maxHeartbeats 2000000 in
theorem Nq (b:Nat) (es:Array MapEntry) (clock:Nat) (w:World) (hb:w.heap[b]?=some (.map es clock)) :
 Calls Tryz.prog 125 #[.map (some b)] w fun e w'=>e=.returned (.map (some w.heap.size))/\w'=w.alloc (.map es clock):=by
 have hq:=fun w=>oI (P:=Tryz.prog) w 156 _ _ (some b) Lx;go_enter Tryz.func125,Tryz.ntmps125;go_wp2;rw [run_callFunc_extern Tryz.func160 (by kernel_rfl) (by kernel_rfl) (by kernel_rfl) (e:=Extern.MapsClone.clone) (by kernel_rfl),pc w 156 hb];simp [Result.andThen];rw [Oper.upon_value];go_wp2;rw [lM _ 156 20 _ _ _ Lx];simp [Result.andThen];rw [Oper.upon_value];go_wp2;go_ret;exact ⟨rfl,rfl⟩
def FClone:dA:={ntmps:=3,arity:=some 1,results:=[.tmp 2],body:=.seq (.region [⟨some 2,.nat 1 (.tmp 0) (.tmp 0),none⟩]) .ret}
theorem sP {f:Nat} {fn:Func} (hfn:Tryz.prog.funcs[f]?=some fn) (hb:fn.body.isSome=true) (hn:(fn.name == "runtime.NumGoroutine")=false)
 (hc:∀ (b:Nat) (es:Array MapEntry) (clock:Nat) (w:World),w.heap[b]?=some (.map es clock)->Calls Tryz.prog f #[.map (some b)] w fun e w'=>e=.returned (.map (some w.heap.size))/\w'=w.alloc (.map es clock)) :
 pL Tryz.prog 4 f FClone:=by
 intro call hcall args h v h' hfit he;have hlen:args.length=1:=by simpa [dA.fits,FClone] using hfit
 obtain ⟨x,rfl⟩:∃ x,args=[x]:=by
  match args,hlen with
  | [x],_=>exact ⟨x,rfl⟩
 have ⟨c,hc0⟩:=sZ.1 hb;refine ⟨fun xs w=>jn hfn hn hc0 xs w,fun ρ w xs r hx=>?_⟩;simp only [AV.rels] at hx;obtain ⟨x0,_,rfl,hx0,rfl⟩:=hx;have key:∃ j es bs ck,x=.map j/\h.objs[j]?=some (.map es bs ck)/\v=.map h.objs.length/\h'=h.push (.map es bs ck):=by
  cases x with
  | map j=>
   cases ho:h.objs[j]? with
   | none=>simp [FClone,evBody,evCode,evOps,evOper,evAny,evOp,evOpE,natA,wantedA,enterA,AFrame.eval,ho] at he
   | some o=>
    cases o with
    | map es bs ck=>simp [FClone,evBody,evCode,evOps,evOper,evAny,evOp,evOpE,natA,wantedA,enterA,AFrame.eval,AFrame.putD,ho,resOf,resVs,resV] at he;exact ⟨j,es,bs,ck,rfl,ho,he.1.symm,he.2.symm⟩
    | _=>simp [FClone,evBody,evCode,evOps,evOper,evAny,evOp,evOpE,natA,wantedA,enterA,AFrame.eval,ho] at he
  | _=>simp [FClone,evBody,evCode,evOps,evOper,evAny,evOp,evOpE,natA,wantedA,enterA,AFrame.eval] at he
 obtain ⟨j,es,bs,ck,rfl,ho,rfl,rfl⟩:=key;obtain ⟨b,hb1,rfl⟩:=jz hx0;have ⟨l,h1,h2,h3⟩:=gr r ho hb1;refine (hc _ _ _ w h1).mono fun e w' ⟨he1,he2⟩=>?_;subst he2;have hp:=Post.push (G:=4) r (o':=.map es bs ck) (w':=w.alloc (.map l ck)) (.map l ck) [] [] rfl (fun k lb hk=>by simp at hk) rfl rfl rfl rfl
  ⟨l,by show (w.heap.push (Obj.map l ck))[w.heap.size]?=_;simp,pf ⟨⟨_,rfl⟩,⟨_,rfl⟩,⟨[],by simp⟩⟩ _ _ h2,h3⟩
 refine ⟨_,_,he1,?_,by simpa [AHeap.push] using hp⟩;simp [AV.rel];exact ⟨⟨w.heap.size,0,none⟩,by rw [<- r.jK];simp,rfl⟩
theorem Kf:pL Tryz.prog 4 124 FClone:=sP Tryz.func124 (by kernel_rfl) (by kernel_rfl) Nr
theorem Ke:pL Tryz.prog 4 125 FClone:=sP Tryz.func125 (by kernel_rfl) (by kernel_rfl) Nq
end
section
open Go.RowKit Go.Proofs Go.Maps Go.ChangeMaps
section
variable {P:Program} (w:World) {ops:Array Oper} {rest:List Oper} {o:Oper} {a:Act} {Q:Exit->Act->World->Prop}
theorem mZ (hg:o.guard=none) (m:Operand) (t:TypeId) (hop:o.op=Op.range t m) (k e:TypeId) (ht:P.underlying t=some (.map k e)) (b:Nat) (es:Array MapEntry) (ck:Nat) (hm:a.eval m=.map (some b)) (hb:w.heap[b]?=some (.map es ck))
 (hK:wpList P ops Q rest (a.put o.dst (.pointer (some ⟨w.heap.size,0,none⟩))) (w.alloc (.mapIter (some b) ck #[] ck))):wpList P ops Q (o::rest) a w:=by
 refine wpList_plain hg fun K' hK'=>?_;unfold Oper.wp;simp [execOp,hop,hm,run_range_map w t k e b es ck ht hb,Result.andThen];exact hK' _ _ hK
structure mT (W:World) (r b:Nat) (es:Array MapEntry) (ck:Nat) (seen:Array Nat):Prop where
 it:W.heap[r]?=some (.mapIter (some b) ck seen ck)
 mp:W.heap[b]?=some (.map es ck)
 ne:r≠b
theorem mT.I3 {w w1:World} {r b ck:Nat} {es:Array MapEntry} {seen:Array Nat} {e:MapEntry} (h:mT w r b es ck seen) (hw1:w1=w\/w1=w.drew) (he:e∈(leftOf es seen).toList) :
 (e∈es.toList/\e.born∉seen)/\mT (setBlock w1 r (.mapIter (some b) ck (seen.push e.born) ck)) r b es ck (seen.push e.born)/\(setBlock w1 r (.mapIter (some b) ck (seen.push e.born) ck)).heap.size=w.heap.size/\
  (∀ k:Nat,k≠r->(setBlock w1 r (.mapIter (some b) ck (seen.push e.born) ck)).heap[k]?=w.heap[k]?)/\(setBlock w1 r (.mapIter (some b) ck (seen.push e.born) ck)).os=w.os/\(setBlock w1 r (.mapIter (some b) ck (seen.push e.born) ck)).tape=w.tape/\(setBlock w1 r (.mapIter (some b) ck (seen.push e.born) ck)).output=w.output:=by
 have hlt:r<w1.heap.size:=by have:=(au.1 h.it).1;rcases hw1 with rfl | rfl<;>exact this
 have hsame:∀ k:Nat,w1.heap[k]?=w.heap[k]?:=by rcases hw1 with rfl | rfl<;>exact fun _=>rfl
 have hin:e∈es.toList/\e.born∉seen:=by unfold leftOf at he;simpa using he
 have hI:mT (setBlock w1 r (.mapIter (some b) ck (seen.push e.born) ck)) r b es ck (seen.push e.born):=by
  refine ⟨by simp [setBlock,hlt],?_,h.ne⟩;have:(setBlock w1 r (.mapIter (some b) ck (seen.push e.born) ck)).heap[b]?=w1.heap[b]?:=by simp [setBlock,aP h.ne]
  rw [this,hsame,h.mp]
 refine ⟨hin,hI,by rcases hw1 with rfl | rfl<;>(show (Array.setIfInBounds _ _ _).size=_;simp;try rfl),fun k hk=>?_,by rcases hw1 with rfl | rfl<;>rfl,by rcases hw1 with rfl | rfl<;>rfl,by rcases hw1 with rfl | rfl<;>rfl⟩;rw [<- hsame k];simp [setBlock,aP (aY hk)]
theorem oH (hg:o.guard=none) (it:Operand) (hop:o.op=Op.next it false) (r b:Nat) (es:Array MapEntry) (ck:Nat) (seen:Array Nat) (hit:a.eval it=.pointer (some ⟨r,0,none⟩)) (h:mT w r b es ck seen)
 (hold:∀ x∈es.toList,x.born<ck) (hn:(es.toList.map (·.born)).Nodup)
 (hDone:(leftOf es seen).size=0->wpList P ops Q rest (a.put o.dst (.tuple #[.bool false])) w)
 (hMore:∀ (e:MapEntry) (w':World),e∈es.toList->e.born∉seen->mT w' r b es ck (seen.push e.born)->w'.heap.size=w.heap.size->(∀ k:Nat,k≠r->w'.heap[k]?=w.heap[k]?)->w'.os=w.os->w'.tape=w.tape->w'.output=w.output->
  (Instr.entry (.pointer (some ⟨r,0,none⟩))).run P w'=.ok (.tuple #[e.key,e.val]) w'->wpList P ops Q rest (a.put o.dst (.tuple #[.bool true,e.key,e.val])) w') :
 wpList P ops Q (o::rest) a w:=by
 refine wpList_plain hg fun K' hK'=>?_;unfold Oper.wp;rcases run_next_at (P:=P) w o.type r b ck ck seen es ck h.it h.mp hold (aq _) with ⟨h0,hrun⟩ | ⟨e,he,w1,hw1,hrun⟩
 . simp [execOp,hop,hit,hrun,Result.andThen];exact hK' _ _ (hDone h0)
 . simp [execOp,hop,hit,hrun,Result.andThen];have ⟨q1,q2,q3,q4,q5,q6,q7⟩:=h.I3 hw1 he;exact hK' _ _ (hMore e _ q1.1 q1.2 q2 q3 q4 q5 q6 q7 (run_entry_at _ r b ck seen es ck e q2.it q2.mp q1.1 hn))
end
def qM (v:Value):Bool:=match v with
 | .agg cs=>match cs.toList with
  | [.int .i64 _,.bool a,.bool b]=>a && b
  | _=>false
 | _=>false
def tY (es:Array MapEntry) (r:Nat) (W:World):Nat:=match W.heap[r]? with
 | some (.mapIter _ _ seen _)=>(leftOf es seen).size
 | _=>0
theorem tV {es:Array MapEntry} {seen:Array Nat} {e:MapEntry} (he:e∈es.toList) (hs:e.born∉seen):(leftOf es (seen.push e.born)).size<(leftOf es seen).size:=by
 have e0:∀ s:Array Nat,(leftOf es s).size=(es.toList.filter fun x=>!s.contains x.born).length:=fun s=>by unfold leftOf;rw [<- dD,Array.toList_filter]
 rw [e0,e0];have key:∀ l:List MapEntry,(l.filter fun x=>!(seen.push e.born).contains x.born).length<=(l.filter fun x=>!seen.contains x.born).length/\(e∈l->(l.filter fun x=>!(seen.push e.born).contains x.born).length<(l.filter fun x=>!seen.contains x.born).length):=by
  intro l
  induction l with
  | nil=>simp
  | cons x l ih=>
   have ⟨i1,i2⟩:=ih;simp only [bZ];have hx:(seen.push e.born).contains x.born=(seen.contains x.born || x.born == e.born):=by
    have e9:∀ a b:Nat,(a == b)=decide (a=b):=fun a b=>by by_cases h:a=b<;>simp [h]
    simp [e9]
   rw [hx];by_cases h1:seen.contains x.born=true
   . rw [h1];simp only [Bool.true_or,im,aF,if_false];refine ⟨i1,fun hm=>?_⟩;rcases aD.1 hm with rfl | hm
     . exact absurd (by simpa using h1) hs
     . exact i2 hm
   . have h1:seen.contains x.born=false:=by simpa using h1
     rw [h1];by_cases h2:x.born=e.born
     . simp only [h2,Dt,beq_self_eq_true,im,aF,if_false,fL,if_true,bn];exact ⟨by omega,fun _=>by omega⟩
     . have h2':(x.born == e.born)=false:=by simpa using h2
       simp only [h2',dC,fL,if_true,bn];refine ⟨by omega,fun hm=>?_⟩;rcases aD.1 hm with rfl | hm
       . exact absurd rfl h2
       . have:=i2 hm;omega
 exact (key es.toList).2 he
theorem mT.alloc {W:World} {r b ck:Nat} {es:Array MapEntry} {seen:Array Nat} (h:mT W r b es ck seen) (o:Obj):mT (W.alloc o) r b es ck seen:=by
 have k:∀ (j:Nat) (x:Obj),W.heap[j]?=some x->(W.alloc o).heap[j]?=some x:=fun j x hj=>by have hl:=(au.1 hj).1;show (W.heap.push o)[j]?=_;rw [oT,nQ,hj]
 exact ⟨k _ _ h.it,k _ _ h.mp,h.ne⟩
theorem mT.left {W:World} {r b ck:Nat} {es:Array MapEntry} {seen:Array Nat} (h:mT W r b es ck seen):tY es r W=(leftOf es seen).size:=by simp [tY,h.it]
theorem Fa:∀ {l:List MapEntry},(l.map (·.born)).Nodup->∀ {e e':MapEntry},e∈l->e'∈l->e'.born=e.born->e'=e
 | [],_,_,_,h,_,_=>by simp at h
 | x::l,hn,e,e',h1,h2,he=>by
  simp [aR,jh,gk,not_exists,not_and] at hn;rcases aD.1 h1 with k1 | k1<;>rcases aD.1 h2 with k2 | k2
  . rw [k1,k2]
  . rw [k1] at he;exact absurd he (hn.1 _ k2)
  . rw [k2] at he;exact absurd he.symm (hn.1 _ k1)
  . exact Fa hn.2 k1 k2 he
theorem tE {w wr w2:World} {b ck:Nat} {es:Array MapEntry} {seen:Array Nat} {e:MapEntry} {p:MapEntry->Prop} (hn:(es.toList.map (·.born)).Nodup) (hB:Below w.heap.size w wr) (hsz:w.heap.size<wr.heap.size) (hno:∀ e∈es.toList,e.born∈seen->p e) (he:e∈es.toList) (hI2:mT w2 w.heap.size b es ck (seen.push e.born)) (hsz2:w2.heap.size=wr.heap.size)
 (hk2:∀ k:Nat,¬ k=w.heap.size->w2.heap[k]?=wr.heap[k]?) (ho2:w2.os=wr.os) (ht2:w2.tape=wr.tape) (hout2:w2.output=wr.output) (hp:p e) (o:Obj) :
 ∃ seen:Array Nat,mT (w2.alloc o) w.heap.size b es ck seen/\Below w.heap.size w (w2.alloc o)/\w.heap.size<(w2.alloc o).heap.size/\∀ e∈es.toList,e.born∈seen->p e:=by
 have B2:Below w.heap.size w w2:={size:=by rw [hsz2];exact hB.size,block:=fun k hk=>(hk2 k (by omega)).trans (hB.block k hk),os:=ho2.trans hB.os,tape:=ht2.trans hB.tape,output:=hout2.trans hB.output}
 refine ⟨_,hI2.alloc o,B2.alloc (by omega) _,by simp;omega,fun e' he' hm=>?_⟩;rcases Array.mem_push.1 hm with hm | hm
 . exact hno e' he' hm
 . rw [Fa hn he he' hm];exact hp
theorem qL {w wr w2:World} {b ck:Nat} {es:Array MapEntry} {seen:Array Nat} {e:MapEntry} (hI:mT wr w.heap.size b es ck seen) (he:e∈es.toList) (hs:e.born∉seen) (hI2:mT w2 w.heap.size b es ck (seen.push e.born)) (o:Obj):tY es w.heap.size (w2.alloc o)<tY es w.heap.size wr:=by rw [(hI2.alloc o).left,hI.left];exact tV he hs
theorem AT {es:Array MapEntry} {seen:Array Nat} (h:(leftOf es seen).size=0):∀ e∈es.toList,e.born∈seen:=by intro e he;have h1:leftOf es seen=#[]:=Array.eq_empty_of_size_eq_zero h;unfold leftOf at h1;rw [Array.filter_eq_empty_iff] at h1;simpa using h1 e (by simpa using he)
set_option maxHeartbeats 2000000 in
theorem Vh (p:Addr) (b:Nat) (es:Array MapEntry) (ck:Nat) (w:World) (hp:w.cell? p=some (.map (some b))) (hb:w.heap[b]?=some (.map es ck)) (hold:∀ x∈es.toList,x.born<ck) (hn:(es.toList.map (·.born)).Nodup)
 (hv:∀ e∈es.toList,∃ g x y,e.val=.agg #[.int .i64 g,.bool x,.bool y]) :
 Calls Tryz.prog 44 #[.pointer (some p)] w fun e w'=>e=.returned (.bool (es.toList.any fun e=>qM e.val))/\Below w.heap.size w w':=by
 have hblt:b<w.heap.size:=(au.1 hb).1;go_enter Tryz.func44,Tryz.ntmps44;go_wp2_with (first
  | (at_range;refine mZ _ rfl _ 155 rfl 85 160 By b es ck rfl hb ?_)
  | go_in)
 go_frame;go_loopw [4] (fun _ wr=>∃ seen:Array Nat,mT wr w.heap.size b es ck seen/\Below w.heap.size w wr/\w.heap.size<wr.heap.size/\∀ e∈es.toList,e.born∈seen->qM e.val=false) (fun _ wr=>tY es w.heap.size wr)
 case atStart=>refine ⟨#[],⟨heap_alloc_new _ _,(Below.heap_alloc _ _ b hblt).trans hb,by omega⟩,(Below.refl _ w).alloc (aq _) _,by simp,fun e _ hm=>by simp at hm⟩
 case round=>
  obtain ⟨seen,hI,hB,hsz,hno⟩:=hrel
  go_wp2_with (first
   | (at_next;refine oH _ rfl _ rfl w.heap.size b es ck seen rfl hI hold hn ?_ ?_)
   | go_in)
  . intro h0;go_wp2;go_ret;refine ⟨?_,hB⟩;have:(es.toList.any fun e=>qM e.val)=false:=by rw [jt];intro e he;simp [hno e he (AT (by rw [h0];rfl) e he)]
    rw [this];rfl
  . intro e w2 he hs hI2 hsz2 hk2 ho2 ht2 hout2 hen;have he:e∈es.toList:=by simpa using he
    obtain ⟨g,x,y,hval⟩:=hv e he;have hr:qM e.val=(x && y):=by rw [hval];rfl
    rw [hval] at hen ⊢;cases x<;>cases y
    . go_wp2;go_roundw;case rel=>exact tE hn hB hsz hno he hI2 hsz2 hk2 ho2 ht2 hout2 hr _
      case measure=>exact qL hI he hs hI2 _
    . go_wp2;go_roundw;case rel=>exact tE hn hB hsz hno he hI2 hsz2 hk2 ho2 ht2 hout2 hr _
      case measure=>exact qL hI he hs hI2 _
    . go_wp2;go_roundw;case rel=>exact tE hn hB hsz hno he hI2 hsz2 hk2 ho2 ht2 hout2 hr _
      case measure=>exact qL hI he hs hI2 _
    . go_wp2;go_ret;have:(es.toList.any fun e=>qM e.val)=true:=fz.2 ⟨e,he,by rw [hr];rfl⟩;rw [this]
      have B2:Below w.heap.size w w2:={size:=by rw [hsz2];exact hB.size,block:=fun k hk=>(hk2 k (by omega)).trans (hB.block k hk),os:=ho2.trans hB.os,tape:=ht2.trans hB.tape,output:=hout2.trans hB.output}
      exact ⟨rfl,B2.alloc (by omega) _⟩
def FDue:dA:={ntmps:=3,arity:=some 1,results:=[.tmp 2],body:=.seq (.region [⟨some 1,.load1 (.tmp 0),none⟩,⟨some 2,.nat 0 (.tmp 1) (.tmp 1),none⟩]) .ret}
theorem AF {ρ:eM}:∀ {es:List (AV×AV)} {l:List MapEntry} {x:Bool},dw ρ es l->anyReadyA es=some x->(l.any fun e=>qM e.val)=x/\∀ e∈l,∃ g x y,e.val=.agg #[.int .i64 g,.bool x,.bool y]
 | [],l,x,hr,ha=>by simp [dw] at hr;subst hr;simp [anyReadyA] at ha;subst ha;simp
 | e::es,l,x,hr,ha=>by
  obtain ⟨y,ys,rfl,h1,h2,h3⟩:=hr;unfold anyReadyA at ha;split at ha;case h_2=>cases ha
  rename_i z a b r he2 hr2;cases ha;rw [he2] at h2;simp only [AV.rel,AV.rels] at h2;obtain ⟨xs,⟨_,_,rfl,rfl,_,_,rfl,rfl,_,_,rfl,rfl,rfl⟩,hv⟩:=h2;have ⟨i1,i2⟩:=AF h3 hr2;have hy:qM y.val=(a && b):=by rw [hv];rfl
  refine ⟨by rw [List.any_cons,i1,hy],fun e he=>?_⟩;rcases aD.1 he with rfl | he
  . exact ⟨_,_,_,hv⟩
  . exact i2 e he
theorem E9 {bs:List Nat} {ck:Nat} {l:List MapEntry} (hb:fh bs ck=true) (h:l.map (·.born)=bs):(∀ x∈l,x.born<ck)/\(l.map (·.born)).Nodup:=by simp [fh,aA,decide_eq_true_eq,aQ] at hb;rw [h];exact ⟨fun x hx=>hb.2 _ (h▸gk.2 ⟨x,hx,rfl⟩),hb.1⟩
theorem MG:pL Tryz.prog 4 44 FDue:=by
 intro call hcall args h v h' hfit he;have hlen:args.length=1:=by simpa [dA.fits,FDue] using hfit
 obtain ⟨x,rfl⟩:∃ x,args=[x]:=by
  match args,hlen with
  | [x],_=>exact ⟨x,rfl⟩
 refine ⟨fun xs w=>jn Tryz.func44 (by kernel_rfl) rfl xs w,fun ρ w xs r hx=>?_⟩;simp only [AV.rels] at hx;obtain ⟨x0,_,rfl,hx0,rfl⟩:=hx;have key:∃ i o j es bs ck t,x=.ptr i o/\h.cell i o=some (.map j)/\h.objs[j]?=some (.map es bs ck)/\fh bs ck=true/\anyReadyA es=some t/\v=.bool t/\h'=h:=by
  cases x with
  | ptr i o=>
   cases hc:h.cell i o with
   | none=>simp [FDue,evBody,evCode,evOps,evOper,evAny,evOp,evOpE,wantedA,enterA,AFrame.eval,hc] at he
   | some u=>
    cases hn:natA h 0 u u with
    | none=>simp [FDue,evBody,evCode,evOps,evOper,evAny,evOp,evOpE,wantedA,enterA,AFrame.eval,AFrame.putD,hc,hn] at he
    | some q=>
     have ⟨v',g⟩:=q;simp [FDue,evBody,evCode,evOps,evOper,evAny,evOp,evOpE,wantedA,enterA,AFrame.eval,AFrame.putD,hc,hn,resOf,resVs,resV] at he;obtain ⟨rfl,rfl⟩:=he
     cases u with
     | map j=>
      simp [natA] at hn;split at hn;case h_2=>cases hn
      rename_i es bs ck ho;split at hn;case isFalse=>cases hn
      rename_i hb;rw [ae] at hn;have ⟨t,ht,hq⟩:=hn;cases hq;exact ⟨i,o,j,es,bs,ck,t,rfl,hc,ho,hb,ht,rfl,rfl⟩
     | _=>simp [natA] at hn
  | _=>simp [FDue,evBody,evCode,evOps,evOper,evAny,evOp,evOpE,wantedA,enterA,AFrame.eval] at he
 obtain ⟨i,o,j,es,bs,ck,t,rfl,hc,ho,hb,ht,rfl,rfl⟩:=key;simp [AV.rel] at hx0;obtain ⟨a,ha,rfl⟩:=hx0;have ⟨sv,hsv,hru⟩:=jW r hc ha;obtain ⟨b,hb1,rfl⟩:=jz hru;have ⟨l,h1,h2,h3⟩:=gr r ho hb1;obtain ⟨g1,g2⟩:=AF h2 ht;obtain ⟨g3,g4⟩:=E9 hb h3;refine (Vh _ b.block l ck w hsv h1 g3 g4 g2).mono fun e w' ⟨he1,he2⟩=>?_;exact ⟨ρ,_,he1,by simp only [AV.rel];rw [g1],Post.more r he2⟩
end
section
open Go.RowKit Go.Proofs Go.Maps Go.ChangeMaps
variable {es:Array MapEntry} {seen:Array Nat}
attribute [local go_sem] Oper.semAt_some
section
variable {F:Fence} {n:Nat} {P:Program} (w:World) {ops:Array Oper} {rest:List Oper} {o:Oper} {a:Act} {Q:Exit->Act->World->Prop}
theorem qH (hg:o.guard=none) (m:Operand) (t:TypeId) (hop:o.op=Op.range t m) (k e:TypeId) (ht:P.underlying t=some (.map k e)) (b:Nat) (es:Array MapEntry) (ck:Nat) (hm:a.eval m=.map (some b)) (hb:w.heap[b]?=some (.map es ck))
 (hK:wpListIn F n P ops Q rest (a.put o.dst (.pointer (some ⟨w.heap.size,0,none⟩))) (w.alloc (.mapIter (some b) ck #[] ck))):wpListIn F n P ops Q (o::rest) a w:=by
 refine wpListIn_plain hg fun K' hK'=>?_;unfold Oper.wpIn;refine ⟨by simp [Oper.about,hop],?_⟩;rw [Oper.semAt_plain F _ _ (by rw [hop];intro c hc';cases hc')];simp [execOp,hop,hm,run_range_map w t k e b es ck ht hb,Result.andThen];exact hK' _ _ hK
theorem rF (hg:o.guard=none) (it:Operand) (hop:o.op=Op.next it false) (r b:Nat) (es:Array MapEntry) (ck:Nat) (seen:Array Nat) (hit:a.eval it=.pointer (some ⟨r,0,none⟩)) (h:mT w r b es ck seen)
 (hold:∀ x∈es.toList,x.born<ck) (hn:(es.toList.map (·.born)).Nodup)
 (hDone:(leftOf es seen).size=0->wpListIn F n P ops Q rest (a.put o.dst (.tuple #[.bool false])) w)
 (hMore:∀ (e:MapEntry) (w':World),e∈es.toList->e.born∉seen->mT w' r b es ck (seen.push e.born)->w'.heap.size=w.heap.size->(∀ k:Nat,k≠r->w'.heap[k]?=w.heap[k]?)->w'.os=w.os->w'.tape=w.tape->w'.output=w.output->
  (Instr.entry (.pointer (some ⟨r,0,none⟩))).run P w'=.ok (.tuple #[e.key,e.val]) w'->wpListIn F n P ops Q rest (a.put o.dst (.tuple #[.bool true,e.key,e.val])) w') :
 wpListIn F n P ops Q (o::rest) a w:=by
 refine wpListIn_plain hg fun K' hK'=>?_;unfold Oper.wpIn;refine ⟨by simp [Oper.about,hop],?_⟩;rw [Oper.semAt_plain F _ _ (by rw [hop];intro c hc';cases hc')];rcases run_next_at (P:=P) w o.type r b ck ck seen es ck h.it h.mp hold (aq _) with ⟨h0,hrun⟩ | ⟨e,he,w1,hw1,hrun⟩
 . simp [execOp,hop,hit,hrun,Result.andThen];exact hK' _ _ (hDone h0)
 . simp [execOp,hop,hit,hrun,Result.andThen];have ⟨q1,q2,q3,q4,q5,q6,q7⟩:=h.I3 hw1 he;exact hK' _ _ (hMore e _ q1.1 q1.2 q2 q3 q4 q5 q6 q7 (run_entry_at _ r b ck seen es ck e q2.it q2.mp q1.1 hn))
end
def Es (e:MapEntry):Int:=match e.key with | .int _ n=>n | _=>0
def qC (es:Array MapEntry):List Int:=es.toList.map Es
def C6 (es:Array MapEntry) (seen:Array Nat):List MapEntry:=es.toList.filter fun e=>seen.contains e.born
theorem KT {e:MapEntry} (hn:(es.toList.map (·.born)).Nodup) (he:e∈es.toList) (hs:e.born∉seen):(C6 es (seen.push e.born)).Perm (e::C6 es seen):=by
 unfold C6;have hx:∀ x:MapEntry,(seen.push e.born).contains x.born=(seen.contains x.born || decide (x.born=e.born)):=fun x=>by simp
 have key:∀ l:List MapEntry,(l.map (·.born)).Nodup->(e∉l->(∀ x∈l,x.born≠e.born)->l.filter (fun x=>(seen.push e.born).contains x.born)=l.filter fun x=>seen.contains x.born)/\(e∈l->(l.filter fun x=>(seen.push e.born).contains x.born).Perm (e::l.filter fun x=>seen.contains x.born)):=by
  intro l
  induction l with
  | nil=>simp
  | cons y l ih=>
   intro hn;have hn':=hn;simp [aR,jh,gk,not_exists,not_and] at hn';have ⟨n1,n2⟩:=hn';have ⟨i1,i2⟩:=ih n2;refine ⟨fun h1 h2=>?_,fun hm=>?_⟩
   . have h3:=h2 y (by simp);have h4:=i1 (fun h=>h1 (by simp [h])) (fun x hx=>h2 x (by simp [hx]));simp [bZ,hx,h3,decide_false,dC];simp [hx] at h4;rw [h4]
   . by_cases hye:y=e
     . subst hye;have hno:∀ x∈l,x.born≠y.born:=fun x hx e=>n1 x hx e;have h4:=i1 (fun h=>hno y h rfl) hno;have hs':seen.contains y.born=false:=by simpa using hs
       simp only [bZ,hx,hs',decide_true,vK,if_true,aF,if_false];simp only [hx] at h4;rw [h4]
     . have hm':e∈l:=by
        rcases aD.1 hm with h | h
        . exact absurd h.symm hye
        . exact h
       have hb:y.born≠e.born:=fun h=>n1 e hm' h.symm
       have h4:=i2 hm'
       simp only [hx] at h4
       simp only [bZ,hx,hb,decide_false,dC]
       cases seen.contains y.born
       . simpa using h4
       . simp only [if_true]
         exact (h4.cons y).trans (List.Perm.swap e y _)
 exact (key es.toList hn).2 he
theorem NG (es:Array MapEntry) (seen:Array Nat):(C6 es seen).length<=es.size:=by rw [<- dD];exact yK _ _
theorem NH (h:(leftOf es seen).size=0):C6 es seen=es.toList:=by unfold C6;rw [List.filter_eq_self];intro e he;simpa using AT h e he
set_option maxHeartbeats 2000000 in
theorem GO (F:Fence) (n:Nat) (hF:F.fn 205) (hro:F.round=none) (hn:1<=n) (l b ck:Nat) (p:Addr) (es:Array MapEntry) (J Jx:List Int->World->Prop) (W:World) (hJ:AbidesFrom W.heap.size J)
 (hY:∀ pre x W,J pre W->pre.length<es.size->YieldAt F (n-1) Tryz.prog l #[.int .u16 x] W fun e W'=>(e=.returned (.bool true)/\J (pre++[x]) W'/\KeepsWalks W W')\/(e=.returned (.bool false)/\Jx (pre++[x]) W'))
 (hBs:W.cell? p=some (.map (some b))) (hb:W.heap[b]?=some (.map es ck)) (hold:∀ x∈es.toList,x.born<ck) (hnd:(es.toList.map (·.born)).Nodup) (hk:∀ e∈es.toList,∃ x,e.key=.int .u16 x) (h0:J [] W) :
 CallsIn F n Tryz.prog 205 #[.func (.yield l) #[] #[],.pointer (some p)] W fun e W'=>(∃ v,e=.returned v)/\((∃ ys:List Int,ys.Perm (qC es)/\J ys W')\/(∃ pre,True/\Jx pre W')):=by
 have hblt:b<W.heap.size:=(au.1 hb).1
 refine callsIn_of_wp Tryz.func205 rfl hF ?_ hro
 simp only [Tryz.ntmps205,fP,bn,bw,Nat.reduceAdd,Nat.reduceSub,Aj,Ai,HN,Dq,cJ,nP]
 gi_wp2_with (first
  | (gi_at_range;refine qH _ rfl _ 155 rfl 85 160 By b es ck rfl hb ?_)
  | gi_in)
 go_frame
 gi_loopw [3] (fun _ wr=>∃ (seen:Array Nat) (pre:List Int),mT wr W.heap.size b es ck seen/\pre.Perm ((C6 es seen).map Es)/\J pre wr/\W.heap.size<wr.heap.size) (fun _ wr=>tY es W.heap.size wr)
 case atStart=>refine ⟨#[],[],⟨heap_alloc_new _ _,(Below.heap_alloc _ _ b hblt).trans hb,by omega⟩,by simp [C6],hJ [] W _ none h0 (World.grownBy_alloc W _ none) (fun r e=>by cases e),by simp⟩
 case round=>
  obtain ⟨seen,pre,hI,hC,hJs,hsz⟩:=hrel
  gi_wp2_with (first
   | (gi_at_next;refine rF _ rfl _ rfl W.heap.size b es ck seen rfl hI hold hnd ?_ ?_)
   | gi_in)
  . intro hz;gi_wp2;go_end0;refine ⟨⟨_,rfl⟩,.inl ⟨pre,?_,hJs⟩⟩;rw [NH (by rw [hz];rfl)] at hC;exact hC
  . intro e w2 he hs hI2 hsz2 hk2 ho2 ht2 hout2 hen;have he:e∈es.toList:=by simpa using he
    obtain ⟨x,hx⟩:=hk e he;rw [hx] at hen ⊢
    have hg:wr.grownBy w2 (some W.heap.size):={os:=ho2,tape:=ht2,output:=hout2,size:=HK hsz2.symm,block:=fun i hi hne=>hk2 i (fun e=>hne (by rw [e]))}
    have hJ2:J pre w2:=hJ pre wr w2 (some W.heap.size) hJs hg (fun r e=>by cases e;exact ⟨aq _,_,hI.it,rfl⟩);have hperm:(pre++[x]).Perm ((C6 es (seen.push e.born)).map Es):=by
     have h1:=((KT hnd he hs).map Es).symm;refine List.Perm.trans ?_ h1;have hkv:Es e=x:=by simp [Es,hx]
     rw [aR,hkv];exact (List.perm_append_singleton x pre).trans (hC.cons x)
    have hlen:pre.length<es.size:=by have h1:=hperm.length_eq;have h2:=NG es (seen.push e.born);simp at h1;omega
    have ⟨fn,tmps,assign,body,hy,hR⟩:=hY pre x w2 hJ2 hlen;clear hsz2;gi_wp2;refine hR.mono ?_;rintro e' W3 (⟨rfl,hJ3,hk3⟩ | ⟨rfl,hJx3⟩)
    . gi_wp2
      have hI3:mT W3 W.heap.size b es ck (seen.push e.born):=⟨hk3.same _ _ hI2.it rfl,hk3.same _ _ hI2.mp rfl,hI2.ne⟩
      go_roundw;case rel=>exact ⟨_,_,hI3,hperm,hJ3,(au.1 hI3.it).1⟩
      case measure=>rw [hI3.left,hI.left];exact tV he hs
    . gi_wp2;refine bodyPost_ret (results_none rfl _ _ _) rfl ?_;exact ⟨⟨_,rfl⟩,.inr ⟨_,trivial,hJx3⟩⟩
end
section
open Go.RowKit Go.Proofs Go.Maps Go.ChangeMaps
attribute [local go_sem] Oper.semAt_some
structure ru (W:World) (b ck:Nat) (es:Array MapEntry):Prop where
 mp:W.heap[b]?=some (.map es ck)
 old:∀ x∈es.toList,x.born<ck
 nd:(es.toList.map (·.born)).Nodup
 key:∀ e∈es.toList,∃ x,e.key=.int .u16 x
theorem GN (F:Fence) (n:Nat) (hF:F.fn 205) (hro:F.round=none) (hn:1<=n) (b ck:Nat) (p:Addr) (es:Array MapEntry) (w:World) (hBs:w.cell? p=some (.map (some b))) (hk:ru w b ck es) :
 SeqStopsK F n Tryz.prog 205 #[.pointer (some p)] (fun x:Int=>#[Value.int .u16 x]) KeepsWalks (fun ys=>ys.Perm (qC es)) (fun _=>True) es.size w:=fun l J Jx W hW hJ _ hY h0=>by
 have hlt:p.block<w.heap.size:=by have ⟨o,ho,_⟩:=cells_of_cell hBs;exact (au.1 ho).1
 have hb:=(hW.block b (au.1 hk.mp).1).trans hk.mp;exact GO F n hF hro hn l b ck p es J Jx W hJ hY ((hW.cell (p:=p) hlt).trans hBs) hb hk.old hk.nd hk.key h0
theorem Sb:(Tryz.prog.info? 85).map (fun i=>(i.zero,i.size,i.bytes))=some (some (.int .u16 0),1,2):=by kernel_rfl
theorem RD:Tryz.prog.underlying 249=some (.slice 85):=by kernel_rfl
def Oy (l:List Int):List Value:=l.map (Value.int .u16)
theorem U1 (W:World) (x:Int):∀ j u,([Value.int .u16 x])[j]?=some u->(W.alloc (.cells #[Value.int .u16 x] 85)).cell? ((⟨W.heap.size,0,none⟩:Addr).add j)=some u:=by
 intro j u h;have hn:=World.alloc_heap_new W (.cells #[Value.int .u16 x] 85);have hj:j<1:=(aa.1 h).1;obtain rfl:j=0:=by omega
 simp at h;subst h;simp [World.cell?,Addr.add,hn,-getElem?_pos]
set_option maxHeartbeats 4000000 in
theorem Dc (F:Fence) (n:Nat) (h208:F.fn 208) (h205:F.fn 205) (hro:F.round=none) (hn:3<=n) (b ck:Nat) (p:Addr) (es:Array MapEntry) (hreach:es.size<=maxLen/\es.size*2<=140737488351232) (w:World) (hBs:w.cell? p=some (.map (some b))) (hk:ru w b ck es) :
 CallsIn F n Tryz.prog 208 #[.slice none 0 0,.func (.func 205) #[] #[.pointer (some p)]] w fun e W'=>∃ v ss,e=.returned v/\ss.Perm (qC es)/\W'.ownsRow w.heap.size 85 1 v ss.length (Oy ss)/\(v=.slice none 0 0↔ss=[])/\Below w.heap.size w W':=by
 have h1:1<=n:=by omega
 have ⟨i0,hi,hz0,hz1,hz2⟩:=info_parts Sb;refine callsIn_of_wp_marks Tryz.func208 rfl h208 ?_ hro;simp only [Tryz.ntmps208,fP,bn,bw,Nat.reduceAdd,Nat.reduceSub,Aj,Ai,HN,Dq,cJ,nP];gi_wp2;have bO:=Boxed.new w 249 (.slice none 0 0);have hB0:Below w.heap.size w (w.alloc (.cells #[.slice none 0 0] 249)):=(Below.refl _ w).alloc (aq _) _;have hsz:(w.alloc (.cells #[.slice none 0 0] 249)).heap.size=w.heap.size+1:=by simp
 have hlt:p.block<w.heap.size:=by have ⟨o,ho,_⟩:=cells_of_cell hBs;exact (au.1 ho).1
 have hBs0:=(hB0.cell (p:=p) hlt).trans hBs;have hk0:ru (w.alloc (.cells #[.slice none 0 0] 249)) b ck es:=⟨(hB0.block b (au.1 hk.mp).1).trans hk.mp,hk.old,hk.nd,hk.key⟩
 obtain ⟨W0,hW0⟩:∃ W0,w.alloc (.cells #[.slice none 0 0] 249)=W0:=⟨_,rfl⟩
 rw [hW0] at bO hB0 hsz hBs0 hk0 ⊢;clear hW0
 refine wpIn_rangeFunc_ownH hro h1 (gf:=205) (lb:=#[.pointer (some p)]) rfl h205 (fun args w=>jn Tryz.func205 (by kernel_rfl) rfl args w)
  (GN F (n-1) h205 hro (by omega) b ck p es W0 hBs0 hk0) walksK_t walksK_b (Below.refl _ _) (fun _=>rfl)
  (fun pre W=>(∃ v,Boxed W w.heap.size 249 v/\W.ownsRow w.heap.size 85 1 v pre.length (Oy pre)/\(v=.slice none 0 0↔pre=[]))/\Below w.heap.size w W)
  (fun _ _ _=>False)
  (OwnFrom.and (Own.from (holdsRow_own w.heap.size w.heap.size 249 85 1 (fun pre:List Int=>pre.length) (fun pre=>Oy pre) (fun pre v=>v=.slice none 0 0↔pre=[])) _) (ownFrom_below (aq _) (by omega)))
  (fun _ _ _ _ _ hs _ _=>hs)
  ⟨⟨_,bO,World.ownsRow_nil _ _ _ _,by simp⟩,hB0⟩
  (fun x a' W=>a'={tmps:=#[.slice none 0 0,.func (.func 205) #[] #[.pointer (some p)],.pointer (some ⟨w.heap.size,0,none⟩),undef,.slice none 0 0,.int .u16 x,.func (.func 205) #[] #[.pointer (some p)],.int .u16 x,undef,undef,undef,undef,undef],defers:=[]})
  (fun x a' _ X Y row hs hg hr=>hs)
  ?assign ?body ?done ?stop
 case assign=>rintro l pre x W K hI hK;gi_wp2;exact hK _ _ (KeepsFrom.refl _ _) (KeepsWalks.refl _) hI rfl
 case body=>rintro l pre x a' W hl ⟨r,hr⟩ ⟨⟨v,bO1,hrow,hnil⟩,hB⟩ rfl hlt;have cO:=bO1.cell;have hBs:=hB.size;gi_wp2_with (gi_at_builtin;refine wpListIn_append_own _ rfl _ _ 249 rfl w.heap.size 85 i0 (.int .u16 0) 1 2 RD hi hz0 hz1 hz2 rfl (by decide) _ _ _ rfl (hrow.alloc _) ⟨W.heap.size,0,none⟩ 1 1 [.int .u16 x] rfl rfl (U1 _ _) (by simp [Value.oneCell']) (by omega) (by omega) (by have:=hB.size;simp;omega) ?_;intro v' w1 hown' hgrow _;obtain ⟨g',cap',rfl⟩:=ownsRow_succ hown';have ⟨hv1,hv2,hr2,hk2,hb2⟩:=bO1.appended (by decide) hrow hB.size (by omega) hown' hgrow;have hc1:=hv1.cell;have hf1:=hv1.frozen);exact ⟨hk2.from _,hk2.walks,⟨_,hv2,by simpa [Oy] using hr2,by simp⟩,hB.trans hb2⟩
 case done=>rintro D ys W hD hys ⟨⟨v,bO1,hrow,hnil⟩,hB⟩ hK;have hc:=bO1.cell;gi_wp2;refine ⟨by simp,.inl ⟨_,_,rfl,run_takeDeferred hK,?_⟩⟩;exact ⟨_,results_tmp rfl _ _ _,v,ys,rfl,hys,ownsRow_putObj hrow _ hK rfl,hnil,hB.trans (belowK_b (w:=w) (aq _) W D _ _ (by omega) hK rfl rfl)⟩
 case stop=>rintro D c pre W _ _ h _;exact h.elim
set_option maxHeartbeats 1000000 in
theorem z6 (F:Fence) (n:Nat) (h203:F.fn 203) (h208:F.fn 208) (h205:F.fn 205) (hro:F.round=none) (hn:4<=n) (b ck:Nat) (p:Addr) (es:Array MapEntry) (hreach:es.size<=maxLen/\es.size*2<=140737488351232) (w:World) (hBs:w.cell? p=some (.map (some b))) (hk:ru w b ck es) :
 CallsIn F n Tryz.prog 203 #[.func (.func 205) #[] #[.pointer (some p)]] w fun e W'=>∃ v ss,e=.returned v/\ss.Perm (qC es)/\W'.ownsRow w.heap.size 85 1 v ss.length (Oy ss)/\(v=.slice none 0 0↔ss=[])/\Below w.heap.size w W':=by
 have h1:1<=n:=by omega
 refine callsIn_of_wp Tryz.func203 rfl h203 ?_ hro;simp only [Tryz.ntmps203,fP,bn,bw,Nat.reduceAdd,Nat.reduceSub,Aj,Ai,HN,Dq,cJ,nP];gi_wp2_with (gi_at_call 208;refine (Dc F (n-1) h208 h205 hro (by omega) b ck p es hreach w hBs hk).mono ?_;rintro e w' ⟨v,ss,rfl,hS,hrow,hnil,hb⟩);go_ret;exact ⟨v,ss,rfl,hS,hrow,hnil,hb⟩
theorem Hm (b ck:Nat) (p:Addr) (es:Array MapEntry) (hreach:es.size<=maxLen/\es.size*2<=140737488351232) (w:World) (hBs:w.cell? p=some (.map (some b))) (hk:ru w b ck es) :
 Calls Tryz.prog 203 #[.func (.func 205) #[] #[.pointer (some p)]] w fun e W'=>∃ v ss,e=.returned v/\ss.Perm (qC es)/\W'.ownsRow w.heap.size 85 1 v ss.length (Oy ss)/\(v=.slice none 0 0↔ss=[])/\Below w.heap.size w W':=
 (callsIn_wide (n:=4)).1 (z6 Fence.wide 4 trivial trivial trivial rfl (aq _) b ck p es hreach w hBs hk)
end
section
def gW (t:Nat):ACode->Bool
 | .region l=>l.all fun o=>o.dst != some t
 | .draw l=>l.all fun o=>o.1.dst != some t
 | .seq a b=>gW t a && gW t b
 | .cond _ a b=>gW t a && gW t b
 | .block _ a=>gW t a
 | .loop a=>gW t a
 | _=>true
section
variable {call:cT} {t:Nat}
theorem pW {fr:AFrame} {d:Option Nat} {v:AV} (h:(d != some t)=true):(fr.putD d v)[t]?=fr[t]?:=vS fr v (by simpa using h)
theorem EU {o:aK} {fr fr':AFrame} {h h':AHeap} (e:evOper call o fr h=some (fr',h')) (k:(o.dst != some t)=true):fr'[t]?=fr[t]?:=by
 unfold evOper at e;split at e
 . split at e
   . cases e;exact pW k
   . cases e
 . cases e;exact pW k
theorem yp:∀ {l:List aK} {fr fr':AFrame} {h h':AHeap},evOps call l fr h=some (fr',h')->(l.all fun o=>o.dst != some t)=true->fr'[t]?=fr[t]?
 | [],_,_,_,_,e,_=>by cases e;rfl
 | o::l,fr,fr',h,h',e,k=>by
  simp [evOps] at e;simp only [ik,aA] at k;split at e
  . rename_i e1;rw [yp e k.2,EU e1 k.1]
  . cases e
theorem pE:∀ {l:List (aK×dB)} {fr fr':AFrame} {h h':AHeap} {sn sn':List AHeap} {ms ms':List (AFrame×AV)},evDraw call l fr h sn ms=some (fr',h',sn',ms')->(l.all fun o=>o.1.dst != some t)=true->fr'[t]?=fr[t]?
 | [],_,_,_,_,_,_,_,_,e,_=>by cases e;rfl
 | (o,st)::l,fr,fr',h,h',sn,sn',ms,ms',e,k=>by
  simp [evDraw] at e;simp only [ik,aA] at k;split at e
  . split at e;case h_2=>cases e
    split at e<;>rw [pE e k.2,pW k.1]
  . split at e<;>rw [pE e k.2,pW k.1]
theorem AU {step:AFrame->AHeap->HH} (hs:∀ {fr h x fr' h'},step fr h=some (x,fr',h')->fr'[t]?=fr[t]?):∀ (n:Nat) {fr fr':AFrame} {h h':AHeap} {x:iD},iter step n fr h=some (x,fr',h')->fr'[t]?=fr[t]?
 | 0,_,_,_,_,_,e=>by cases e
 | n+1,fr,fr',h,h',x,e=>by
  simp [iter] at e;split at e
  . rename_i e1;rw [AU hs n e,hs e1]
  . exact hs e
theorem fU:∀ {c:ACode} {fr fr':AFrame} {h h':AHeap} {x:iD},evCode call c fr h=some (x,fr',h')->gW t c=true->fr'[t]?=fr[t]?
 | .skip,_,_,_,_,_,e,_=>by cases e;rfl
 | .exit _,_,_,_,_,_,e,_=>by cases e;rfl
 | .ret,_,_,_,_,_,e,_=>by cases e;rfl
 | .region l,_,_,_,_,_,e,k=>by
  simp [evCode] at e;split at e
  . rename_i e1;cases e;exact yp e1 k
  . cases e
 | .draw l,_,_,_,_,_,e,k=>by
  simp [evCode] at e;split at e
  . rename_i e1;split at e
    . cases e;exact pE e1 k
    . cases e
  . cases e
 | .seq a b,_,_,_,_,_,e,k=>by
  simp [evCode] at e;simp [gW,aA] at k;split at e
  . rename_i e1;rw [fU e k.2,fU e1 k.1]
  . exact fU e k.1
 | .cond c a b,_,_,_,_,_,e,k=>by
  simp [evCode] at e;simp [gW,aA] at k;split at e
  . exact fU e k.1
  . exact fU e k.2
  . cases e
 | .block id a,_,_,_,_,_,e,k=>by
  simp [evCode] at e;split at e
  . rename_i e1;split at e<;>(cases e;exact fU e1 k)
  . exact fU e k
 | .loop a,_,_,_,_,_,e,k=>by simp [evCode] at e;exact AU (step:=evCode call a) (fun e1=>fU e1 k) rounds e
end
def ph:ACode->Bool
 | .seq a b=>ph a && ph b
 | .cond _ a b=>ph a && ph b
 | .block _ a=>ph a
 | .loop a=>ph a
 | .ret=>false
 | _=>true
theorem xM {step:AFrame->AHeap->HH} (hs:∀ {fr h x fr' h'},step fr h=some (x,fr',h')->x≠.ret):∀ (n:Nat) {fr fr':AFrame} {h h':AHeap} {x:iD},iter step n fr h=some (x,fr',h')->x≠.ret
 | 0,_,_,_,_,_,e=>by cases e
 | n+1,fr,fr',h,h',x,e=>by
  simp [iter] at e;split at e
  . exact xM hs n e
  . exact hs e
theorem evCode_noRet {call:cT}:∀ {c:ACode} {fr fr':AFrame} {h h':AHeap} {x:iD},evCode call c fr h=some (x,fr',h')->ph c=true->x≠.ret
 | .skip,_,_,_,_,_,e,_=>by cases e;simp
 | .exit _,_,_,_,_,_,e,_=>by cases e;simp
 | .ret,_,_,_,_,_,e,k=>by cases k
 | .region l,_,_,_,_,_,e,k=>by simp [evCode] at e;split at e<;>cases e;simp
 | .draw l,_,_,_,_,_,e,k=>by
  simp [evCode] at e;split at e
  . split at e<;>cases e;simp
  . cases e
 | .seq a b,_,_,_,_,_,e,k=>by
  simp [evCode] at e;simp [ph,aA] at k;split at e
  . exact evCode_noRet e k.2
  . exact evCode_noRet e k.1
 | .cond c a b,_,_,_,_,_,e,k=>by
  simp [evCode] at e;simp [ph,aA] at k;split at e
  . exact evCode_noRet e k.1
  . exact evCode_noRet e k.2
  . cases e
 | .block id a,_,_,_,_,_,e,k=>by
  simp [evCode] at e;split at e
  . split at e<;>(cases e;simp)
  . exact evCode_noRet e k
 | .loop a,_,_,_,_,_,e,k=>by simp [evCode] at e;exact xM (step:=evCode call a) (fun e1=>evCode_noRet e1 k) rounds e
end
section
open Go.RowKit Go.Proofs Go.Maps Go.ChangeMaps
section
variable {P:Program} {G:Nat} {call:cT}
theorem pS (hcall:gx P G call) {c1 c2:Code} {a1:ACode} {Q:Exit->Act->World->Prop} {ρ:eM} {h h1:AHeap} {w:World} {fr fr1:AFrame} {a:Act} (hc:fm P G c1=some a1) (he:evCode call a1 fr h=some (.normal,fr1,h1)) (hf:AV.rels ρ fr a.tmps.toList) (r:fw G ρ h w)
 (hK:∀ ρ' a' w',AV.rels ρ' fr1 a'.tmps.toList->a'.defers=a.defers->Post G ρ h w ρ' h1 w'->c2.wp P Q a' w'):(Code.seq c1 c2).wp P Q a w:=by
 refine wp_seq (wp_mono (oA hcall c1 a1 hc he hf r) fun e a' w' hE=>?_);obtain ⟨ρ',rfl,hf',hd',hp'⟩:=hE;exact hK ρ' a' w' hf' hd' hp'
structure pK (ρ:eM) (h:AHeap) (w:World) (r:Nat):Prop where
 free:¬ px ρ h r
 nolit:∀ x∈ρ.lit,x.1≠r
 lt:r<w.heap.size
theorem pK.post {ρ ρ':eM} {h h':AHeap} {w w':World} {r:Nat} (x:pK ρ h w r) (p:Post G ρ h w ρ' h' w'):pK ρ' h' w' r:=by
 refine ⟨fun hl=>?_,fun y hy e=>?_,cq x.lt p.size⟩
 . rcases p.te r hl with h1 | h1
   . exact x.free h1
   . have:=x.lt;omega
 . rcases p.lu y hy with h1 | h1
   . exact x.nolit y h1 e
   . have:=x.lt;omega
theorem pK.kept {ρ ρ':eM} {h h':AHeap} {w w':World} {r:Nat} (x:pK ρ h w r) (p:Post G ρ h w ρ' h' w'):w'.heap[r]?=w.heap[r]?:=p.keep r x.lt fun ho=>x.free (mO ho)
theorem Post.scrap {ρ:eM} {h:AHeap} {w w':World} {r:Nat} (R:fw G ρ h w) (x:pK ρ h w r) (hs:w'.heap.size=w.heap.size) (hk:∀ k:Nat,k≠r->w'.heap[k]?=w.heap[k]?) (ho:w'.os=w.os) (ht:w'.tape=w.tape) (hout:w'.output=w.output)
 (base:World) (ρ0:eM) (h0:AHeap) (hp:Post G ρ0 h0 base ρ h w) (hb:base.heap.size<=r):Post G ρ0 h0 base ρ h w':=by
 refine ⟨hp.le,⟨R.jK,R.mh,R.glob,fun i o a h1 h2=>?_,R.apart,R.caps,fun y hy=>?_⟩,ho.trans hp.os,ht.trans hp.tape,hout.trans hp.output,by rw [hs];exact hp.size,fun b hb' hno=>?_,hp.owns,hp.te,hp.lu⟩
 . have hh:=R.obj i o a h1 h2;cases hl:o.live with
   | false=>cases o<;>simp_all [AObj.live,AObj.holds]
   | true=>have:a.block≠r:=fun e=>x.free ⟨i,o,a,h1,h2,hl,e⟩;exact AObj.fV (HK hs.symm) (hk _ this) hh
 . have ⟨⟨e',h1⟩,h2⟩:=R.lits y hy;exact ⟨⟨e',by rw [hk _ (x.nolit y hy)];exact h1⟩,h2⟩
 . rw [hk b (by omega)];exact hp.keep b hb' hno
theorem Post.dead {ρ0 ρ:eM} {h0 h:AHeap} {w0 w:World} {j:Nat} {o:AObj} (hp:Post G ρ0 h0 w0 ρ (h.put j o) w) (hj:j<h.objs.length):Post G ρ0 h0 w0 ρ (h.put j .dead) w:=by
 have hR:=hp.rel;have back:∀ (i:Nat) (p:AObj),(h.put j .dead).objs[i]?=some p->p.live=true->(h.put j o).objs[i]?=some p:=by
  intro i p hi hl;by_cases e:i=j
  . subst e;simp [AHeap.put,ax hj,ai] at hi;subst hi;cases hl
  . simp [AHeap.put,aj (aY e)] at hi ⊢;exact hi
 have ownb:∀ b,own ρ (h.put j .dead) b->own ρ (h.put j o) b:=fun b ⟨i,p,a,h1,h2,h3,h4⟩=>⟨i,p,a,back i p h1 (AObj.cV h3),h2,h3,h4⟩
 have liveb:∀ b,px ρ (h.put j .dead) b->px ρ (h.put j o) b:=fun b ⟨i,p,a,h1,h2,h3,h4⟩=>⟨i,p,a,back i p h1 h3,h2,h3,h4⟩
 refine ⟨hp.le,⟨by simpa [AHeap.put] using hR.jK,by simpa [AHeap.put] using hR.mh,hR.glob,fun i p a h1 h2=>?_,fun i k p q a b h1 h2 h3 h4 h5 h6 h7=>?_,by simpa [AHeap.put] using hR.caps,fun x hx=>?_⟩,hp.os,hp.tape,hp.output,hp.size,hp.keep,fun b hb=>hp.owns b (ownb b hb),fun b hb=>hp.te b (liveb b hb),hp.lu⟩
 . cases hl:p.live with
   | false=>cases p<;>simp_all [AObj.live,AObj.holds]
   | true=>exact hR.obj i p a (back i p h1 hl) h2
 . exact hR.apart i k p q a b (back i p h1 (AObj.cV h6)) (back k q h2 h7) h3 h4 h5 h6 h7
 . have ⟨h1,h2⟩:=hR.lits x hx;exact ⟨h1,fun hb=>h2 (ownb _ hb)⟩
theorem Cq {n:Int} {k:AV} (h:(match k with | .int .i64 _=>true | _=>false)=true):∃ m,k=iQ m:=by
 split at h
 . exact ⟨_,rfl⟩
 . cases h
theorem A8 {n:Int}:∀ {es:List (AV×AV)},eW es=true->∃ o,findA (iQ n) es=some o
 | [],_=>⟨none,rfl⟩
 | e::es,h=>by
  simp only [eW,ik,aA] at h;have ⟨h1,h2⟩:=h;have ⟨m,hm⟩:=Cq (n:=n) h1;have ⟨o,ho⟩:=A8 (n:=n) (es:=es) h2;by_cases hnm:n=m
  . exact ⟨some e.2,by simp [findA,hm,hU,hnm]⟩
  . have hb:(n == m)=false:=by simpa using hnm
    exact ⟨o,by simp [findA,hm,hU,hb,ho]⟩
theorem DC {n:Int} {v:AV}:∀ {es:List (AV×AV)},eW es=true->∃ es',updA (iQ n) v es=some es'/\eW es'=true
 | [],_=>⟨_,rfl,rfl⟩
 | e::es,h=>by
  simp only [eW,ik,aA] at h;have ⟨h1,h2⟩:=h;have ⟨m,hm⟩:=Cq (n:=n) h1;have ⟨es',he,hk⟩:=DC (n:=n) (v:=v) (es:=es) h2;by_cases hnm:n=m
  . refine ⟨(e.1,v)::es,by simp [updA,hm,hU,hnm],?_⟩;simp only [eW,ik,aA];exact ⟨h1,h2⟩
  . have hb:(n == m)=false:=by simpa using hnm
    refine ⟨e::es',by simp [updA,hm,hU,hb,he],?_⟩;simp only [eW,ik,aA];exact ⟨h1,hk⟩
theorem DB {h:AHeap} {j:Nat} {n:Int} {v:AV} {es:List (AV×AV)} {bs:List Nat} {ck:Nat} (hk:eW es=true):∃ es' bs' ck',updateA h j (iQ n) v es bs ck=some (undefA,h.put j (.map es' bs' ck'))/\eW es'=true:=by
 have ⟨o,ho⟩:=A8 (n:=n) hk;have ⟨es',he,hk'⟩:=DC (n:=n) (v:=v) hk;cases o with
 | none=>exact ⟨es',bs++[ck],ck+1,by simp [updateA,ho,he],hk'⟩
 | some x=>exact ⟨es',bs,ck,by simp [updateA,ho,he],hk'⟩
theorem D5 {ρ:eM}:∀ {es:List (AV×AV)} {l:List MapEntry},dw ρ es l->eW es=true->∀ e∈l,∃ n,e.key=.int .i64 n
 | [],l,hr,_=>by simp [dw] at hr;subst hr;simp
 | e::es,l,hr,hk=>by
  obtain ⟨y,ys,rfl,h1,h2,h3⟩:=hr;simp only [eW,ik,aA] at hk;have ⟨k1,k2⟩:=hk;have ⟨m,hm⟩:=Cq (n:=0) k1;rw [hm] at h1;simp [AV.rel] at h1;intro e' he';rcases aD.1 he' with rfl | he'
  . exact ⟨m,h1⟩
  . exact D5 h3 k2 e' he'
variable {ρ:eM} {h h':AHeap} {w:World} {z:AV} {ops:Array Oper} {rest:List Oper} {o:Oper} {a:Act} {Q:Exit->Act->World->Prop}
theorem ql (hg:o.guard=none) (m x v:Operand) (t:TypeId) (hop:o.op=Op.mapUpdate t m x v) (hd:o.dst=none) (hr:Runs P G ρ h w (do Instr.mapUpdate t (a.eval m) (a.eval x) (a.eval v);pure .skip) z h')
 (hK:∀ (ρ':eM) (w':World),Post G ρ h w ρ' h' w'->wpList P ops Q rest a w'):wpList P ops Q (o::rest) a w:=by
 refine wpList_plain hg fun K' hK'=>?_;have ⟨n,w',ρ',x',hrun,hn,_,hp⟩:=hr;unfold Oper.wp;have e:execOp a.eval o=(do Instr.mapUpdate t (a.eval m) (a.eval x) (a.eval v);pure .skip):=by simp [execOp,hop]
 rw [e,hrun];rcases hn with rfl | ⟨rfl,_⟩
 . rw [Oper.upon_value,hd];exact hK' _ _ (hK _ _ hp)
 . rw [Oper.upon_skip,hd];exact hK' _ _ (hK _ _ hp)
end
theorem Lw:Tryz.prog.underlying 202=some (.map 3 208):=by kernel_rfl
theorem YU:Tryz.prog.underlying 3=some (.int .i64):=by kernel_rfl
def leftN (bs:List Nat) (seen:Array Nat):Nat:=(bs.filter fun b=>!seen.contains b).length
theorem El (es:Array MapEntry) (seen:Array Nat):(leftOf es seen).size=leftN (es.toList.map (·.born)) seen:=by unfold leftOf leftN;rw [<- dD,Array.toList_filter,List.filter_map,dS];rfl
def sc (bs:List Nat) (r:Nat) (W:World):Nat:=match W.heap[r]? with
 | some (.mapIter _ _ seen _)=>leftN bs seen
 | _=>0
theorem AJ {h:AHeap} {j:Nat} {o:AObj} (ho:h.objs[j]?=some o):h.put j o=h:=by
 have hj:=(aa.1 ho)
 have ⟨h1,h2⟩:=hj;subst h2;simp [AHeap.put]
theorem pK.new {ρ:eM} {h:AHeap} {w:World} (R:fw 4 ρ h w) (o:Obj):pK ρ h (w.alloc o) w.heap.size:=by
 refine ⟨fun ⟨i,p,a,h1,h2,h3,h4⟩=>?_,fun x hx e=>?_,by simp⟩
 . have:=AObj.gU (R.obj i p a h1 h2) h3;omega
 . have ⟨⟨_,h1⟩,_⟩:=R.lits x hx;have:=(au.1 h1).1;omega
theorem D7 {h:AHeap} {j:Nat} {o o':AObj}:(h.put j o).put j o'=h.put j o':=by simp [AHeap.put]
theorem C0 {h:AHeap} {j i o:Nat} {v:AV} {es:List (AV×AV)} {bs:List Nat} {ck:Nat} {o':AObj} (hc:h.cell i o=some v) (hj:h.objs[j]?=some (.map es bs ck)):(h.put j o').cell i o=some v:=by
 have hne:i≠j:=fun e=>by subst e;simp [AHeap.cell,AHeap.row,hj] at hc
 have:(h.put j o').row i=h.row i:=by simp [AHeap.row,AHeap.put,aj (aY hne)]
 unfold AHeap.cell at hc ⊢;rw [this];exact hc
structure XQ (ρ4:eM) (h4:AHeap) (w4:World) (mj bm ck:Nat) (wr:World) (ρr:eM) (es':List (AV×AV)) (bs':List Nat) (ck':Nat) (seen:Array Nat):Prop where
 post:Post 4 ρ4 h4 w4 ρr (h4.put mj (.map es' bs' ck')) wr
 keys:eW es'=true
 scrap:pK ρr (h4.put mj (.map es' bs' ck')) wr w4.heap.size
 it:wr.heap[w4.heap.size]?=some (.mapIter (some bm) ck seen ck)
section
variable {call:cT}
theorem Hd {o:aK} {fr fr':AFrame} {h h':AHeap} (e:evOper call o fr h=some (fr',h')):fr'.length=fr.length:=by
 unfold evOper at e;split at e
 . split at e
   . cases e;exact dF _ _ _
   . cases e
 . cases e;exact dF _ _ _
theorem A9:∀ {l:List aK} {fr fr':AFrame} {h h':AHeap},evOps call l fr h=some (fr',h')->fr'.length=fr.length
 | [],_,_,_,_,e=>by cases e;rfl
 | o::l,fr,fr',h,h',e=>by
  simp [evOps] at e;split at e
  . rename_i e1;rw [A9 e,Hd e1]
  . cases e
theorem rf:∀ {l:List (aK×dB)} {fr fr':AFrame} {h h':AHeap} {sn sn':List AHeap} {ms ms':List (AFrame×AV)},evDraw call l fr h sn ms=some (fr',h',sn',ms')->fr'.length=fr.length
 | [],_,_,_,_,_,_,_,_,e=>by cases e;rfl
 | (o,st)::l,fr,fr',h,h',sn,sn',ms,ms',e=>by
  simp [evDraw] at e;split at e
  . split at e;case h_2=>cases e
    split at e<;>rw [rf e,dF]
  . split at e<;>rw [rf e,dF]
theorem Et {step:AFrame->AHeap->HH} (hs:∀ {fr h x fr' h'},step fr h=some (x,fr',h')->fr'.length=fr.length):∀ (n:Nat) {fr fr':AFrame} {h h':AHeap} {x:iD},iter step n fr h=some (x,fr',h')->fr'.length=fr.length
 | 0,_,_,_,_,_,e=>by cases e
 | n+1,fr,fr',h,h',x,e=>by
  simp [iter] at e;split at e
  . rename_i e1;rw [Et hs n e,hs e1]
  . exact hs e
theorem fe:∀ {c:ACode} {fr fr':AFrame} {h h':AHeap} {x:iD},evCode call c fr h=some (x,fr',h')->fr'.length=fr.length
 | .skip,_,_,_,_,_,e=>by cases e;rfl
 | .exit _,_,_,_,_,_,e=>by cases e;rfl
 | .ret,_,_,_,_,_,e=>by cases e;rfl
 | .region l,_,_,_,_,_,e=>by
  simp [evCode] at e;split at e
  . rename_i e1;cases e;exact A9 e1
  . cases e
 | .draw l,_,_,_,_,_,e=>by
  simp [evCode] at e;split at e
  . rename_i e1;split at e
    . cases e;exact rf e1
    . cases e
  . cases e
 | .seq a b,_,_,_,_,_,e=>by
  simp [evCode] at e;split at e
  . rename_i e1;rw [fe e,fe e1]
  . exact fe e
 | .cond c a b,_,_,_,_,_,e=>by
  simp [evCode] at e;split at e
  . exact fe e
  . exact fe e
  . cases e
 | .block id a,_,_,_,_,_,e=>by
  simp [evCode] at e;split at e
  . rename_i e1;split at e<;>(cases e;exact fe e1)
  . exact fe e
 | .loop a,_,_,_,_,_,e=>by simp [evCode] at e;exact Et (step:=evCode call a) (fun e1=>fe e1) rounds e
end
theorem uf {call:cT} {a b:ACode} {fr fr':AFrame} {h h':AHeap} {x:iD} (hn:ph a=true) (hx:x=.normal\/x=.ret) (he:evCode call (.seq a b) fr h=some (x,fr',h')):∃ fr1 h1,evCode call a fr h=some (.normal,fr1,h1)/\evCode call b fr1 h1=some (x,fr',h'):=by
 rw [evCode] at he;split at he
 . exact ⟨_,_,by assumption,he⟩
 . rename_i hno;exfalso;rcases hx with rfl | rfl
   . exact hno _ _ he
   . exact absurd rfl (evCode_noRet he hn)
theorem pD {f:AFrame} {d:Nat} {u:AV} (hd:d<f.length):AFrame.eval (f.putD (some d) u) (.tmp d)=u:=by simp [AFrame.eval,AFrame.putD,hd]
theorem v9 {f:AFrame} {d k:Nat} {u:AV} (hd:k≠d):AFrame.eval (f.putD (some d) u) (.tmp k)=AFrame.eval f (.tmp k):=by simp [AFrame.eval,AFrame.putD,aj (aY hd)]
theorem ET {call:cT} {s d n:Nat} {l:List aK} {fr fr':AFrame} {h h':AHeap} (hd:d<fr.length) (e:evOps call (⟨some d,.mv (.tmp s),none⟩::⟨some d,.nilCheck (.tmp d),none⟩::⟨some d,.fieldAddr n (.tmp d),none⟩::⟨some d,.load1 (.tmp d),none⟩::l) fr h=some (fr',h')) :
 ∃ i o v g,AFrame.eval fr (.tmp s)=.ptr i o/\h.cell i (o+n)=some v/\evOps call l g h=some (fr',h')/\g.length=fr.length/\AFrame.eval g (.tmp d)=v/\∀ k,k≠d->AFrame.eval g (.tmp k)=AFrame.eval fr (.tmp k):=by
 have ⟨g1,k1,q1,e⟩:=fY e;have ⟨g2,k2,q2,e⟩:=fY e;have ⟨g3,k3,q3,e⟩:=fY e;have ⟨g4,k4,q4,e⟩:=fY e;simp [evOper,wantedA,evAny,evOp,evOpE,ai,an] at q1;obtain ⟨rfl,rfl⟩:=q1;simp [evOper,wantedA,evAny,evOp,evOpE] at q2;rw [pD hd] at q2;cases hu:AFrame.eval fr (.tmp s) with
 | ptr i o=>
  simp [hu,ai,an] at q2;obtain ⟨rfl,rfl⟩:=q2;simp [evOper,wantedA,evAny,evOp,evOpE] at q3;rw [pD (by rw [dF];exact hd)] at q3;simp [ai,an] at q3;obtain ⟨rfl,rfl⟩:=q3;simp [evOper,wantedA,evAny,evOp,evOpE] at q4;rw [pD (by simp [dF];exact hd)] at q4;simp only at q4;cases hc:h.cell i (o+n) with
  | none=>rw [hc] at q4;cases q4
  | some v=>rw [hc] at q4;simp [fj,ai,an] at q4;obtain ⟨rfl,rfl⟩:=q4;refine ⟨i,o,v,_,rfl,hc,e,by simp [dF],pD (by simp [dF];exact hd),fun k hk=>?_⟩;rw [v9 hk,v9 hk,v9 hk,v9 hk]
 | func f a b=>simp [hu,ai,an] at q2;obtain ⟨rfl,rfl⟩:=q2;simp [evOper,wantedA,evAny,evOp,evOpE] at q3;rw [pD (by rw [dF];exact hd)] at q3;cases q3
 | _=>rw [hu] at q2;cases q2
def XT:List ACode:=[.region [⟨(some 2),.mv (.const .nilptr),none⟩],
 .region [
  ⟨(some 6),.mv (.tmp 0),none⟩,
  ⟨(some 7),.nilCheck (.tmp 6),none⟩,
  ⟨(some 8),.fieldAddr 0 (.tmp 7),none⟩,
  ⟨(some 9),.load1 (.tmp 8),none⟩,
  ⟨(some 10),.lenS (.tmp 9),none⟩,
  ⟨(some 11),.call 90 [(.tmp 10)],none⟩,
  ⟨(some 3),.mv (.tmp 11),none⟩],
 .region [
  ⟨(some 12),.mv (.tmp 3),none⟩,
  ⟨(some 13),.mv (.tmp 0),none⟩,
  ⟨(some 14),.nilCheck (.tmp 13),none⟩,
  ⟨(some 15),.fieldAddr 1 (.tmp 14),none⟩,
  ⟨(some 16),.load1 (.tmp 15),none⟩,
  ⟨(some 17),.nilCheck (.tmp 12),none⟩,
  ⟨(some 18),.fieldAddr 1 (.tmp 17),none⟩,
  ⟨none,.store 1 (.tmp 18) (.tmp 16),none⟩],
 .seq (.region [
  ⟨(some 19),.mv (.tmp 0),none⟩,
  ⟨(some 20),.nilCheck (.tmp 19),none⟩,
  ⟨(some 21),.fieldAddr 0 (.tmp 20),none⟩,
  ⟨(some 22),.load1 (.tmp 21),none⟩,
  ⟨(some 23),.lenS (.tmp 22),none⟩,
  ⟨(some 24),.mv (.const (.int .i64 0)),none⟩])
 (.block 0 (.loop (.seq (.region [
  ⟨(some 25),.bin .lss (.tmp 24) (.tmp 23),none⟩])
  (.seq (.cond (.tmp 25)
   (.skip)
   (.exit 0))
  (.seq (.block 1 (.seq (.region [
   ⟨(some 26),.mv (.tmp 24),none⟩,
   ⟨(some 4),.mv (.tmp 26),none⟩])
  (.draw [
   (⟨(some 27),.mv (.tmp 3),none⟩,.still),
   (⟨(some 28),.nilCheck (.tmp 27),none⟩,.still),
   (⟨(some 29),.fieldAddr 0 (.tmp 28),none⟩,.still),
   (⟨(some 30),.load1 (.tmp 29),none⟩,.reads 0 1),
   (⟨(some 31),.mv (.tmp 4),none⟩,.still),
   (⟨(some 32),.mv (.tmp 0),none⟩,.still),
   (⟨(some 33),.nilCheck (.tmp 32),none⟩,.still),
   (⟨(some 34),.fieldAddr 0 (.tmp 33),none⟩,.still),
   (⟨(some 35),.load1 (.tmp 34),none⟩,.reads 0 0),
   (⟨(some 36),.mv (.tmp 4),none⟩,.still),
   (⟨(some 37),.idxAddr 1 none (.tmp 35) (.tmp 36),none⟩,.still),
   (⟨(some 38),.call 123 [(.tmp 37)],none⟩,.loud),
   (⟨(some 39),.nilCheck (.tmp 38),none⟩,.still),
   (⟨(some 40),.loadN 1 (.tmp 39),none⟩,.reads 1 1),
   (⟨(some 41),.idxAddr 1 none (.tmp 30) (.tmp 31),none⟩,.still),
   (⟨none,.store 1 (.tmp 41) (.tmp 40),none⟩,.loud)])))
  (.region [
   ⟨(some 42),.bin .add (.tmp 24) (.const (.int .i64 1)),none⟩,
   ⟨(some 24),.mv (.tmp 42),none⟩]))))))]
def B88:ACode:=.seq (.region [
 ⟨some 46,.mv (.tmp 0),none⟩,⟨some 46,.nilCheck (.tmp 46),none⟩,⟨some 46,.fieldAddr 2 (.tmp 46),none⟩,⟨some 46,.load1 (.tmp 46),none⟩,
 ⟨some 55,.mv (.tmp 3),none⟩,⟨some 55,.nilCheck (.tmp 55),none⟩,⟨some 55,.fieldAddr 2 (.tmp 55),none⟩,⟨some 55,.load1 (.tmp 55),none⟩,
 ⟨none,.nat 2 (.tmp 55) (.tmp 46),none⟩])
 (.seq (.region [⟨some 2,.mv (.tmp 3),none⟩]) .ret)
def mU:dA:={ntmps:=59,arity:=some 1,results:=[.tmp 2],body:=.seq (XT.getD 0 .skip) (.seq (XT.getD 1 .skip) (.seq (XT.getD 2 .skip) (.seq (XT.getD 3 .skip) B88)))}
theorem RP {a:Array Value} (h:a.size=59):∃ t:Fin 59->Value,a=#[t 0,t 1,t 2,t 3,t 4,t 5,t 6,t 7,t 8,t 9,t 10,t 11,t 12,t 13,t 14,t 15,t 16,t 17,t 18,t 19,t 20,t 21,t 22,t 23,t 24,t 25,t 26,t 27,t 28,t 29,t 30,t 31,t 32,t 33,t 34,t 35,t 36,t 37,t 38,t 39,t 40,t 41,t 42,t 43,t 44,t 45,t 46,t 47,t 48,t 49,t 50,t 51,t 52,t 53,t 54,t 55,t 56,t 57,t 58]:=by
 refine ⟨fun i=>a[i.val]'(by rw [h];exact i.isLt),?_⟩;apply Array.ext
 . simp [h]
 . intro i h1 h2;have:i<59:=by omega
   match i,this with
   | 0,_ | 1,_ | 2,_ | 3,_ | 4,_ | 5,_ | 6,_ | 7,_ | 8,_ | 9,_ | 10,_ | 11,_ | 12,_ | 13,_ | 14,_ | 15,_ | 16,_ | 17,_ | 18,_ | 19,_ | 20,_ | 21,_ | 22,_ | 23,_ | 24,_ | 25,_ | 26,_ | 27,_ | 28,_ | 29,_ | 30,_ | 31,_ | 32,_ | 33,_ | 34,_ | 35,_ | 36,_ | 37,_ | 38,_ | 39,_ | 40,_ | 41,_ | 42,_ | 43,_ | 44,_ | 45,_ | 46,_ | 47,_ | 48,_ | 49,_ | 50,_ | 51,_ | 52,_ | 53,_ | 54,_ | 55,_ | 56,_ | 57,_ | 58,_=>rfl
   | n+59,hn=>omega
set_option maxHeartbeats 4000000 in
theorem MF:pL Tryz.prog 4 88 mU:=by
 intro call hcall args h v h' hfit he;have hlen:args.length=1:=by simpa [dA.fits,mU] using hfit
 obtain ⟨x,rfl⟩:∃ x,args=[x]:=by
  match args,hlen with
  | [x],_=>exact ⟨x,rfl⟩
 refine ⟨fun xs w=>jn Tryz.func88 (by kernel_rfl) rfl xs w,fun ρ w xs r hx=>?_⟩;simp only [AV.rels] at hx;obtain ⟨x0,_,rfl,hx0,rfl⟩:=hx
 obtain ⟨fr0,hfr0⟩:∃ fr0,fr0=enterA mU [x]:=⟨_,rfl⟩
 have hb:∃ y fr1,(y=.normal\/y=.ret)/\evCode call mU.body fr0 h=some (y,fr1,h')/\resOf fr1 h' mU.results=some v:=by
  unfold evBody at he;rw [<- hfr0] at he;split at he
  . rename_i fr1 h1 hev;simp [ae,an] at he;obtain ⟨q,hq,rfl,rfl⟩:=he;exact ⟨_,_,.inl rfl,hev,hq⟩
  . rename_i fr1 h1 hev;simp only [ae,an] at he;obtain ⟨q,hq,rfl,rfl⟩:=he;exact ⟨_,_,.inr rfl,hev,hq⟩
  . cases he
 obtain ⟨y,frE,hy,hev,hres⟩:=hb;unfold mU at hev;obtain ⟨fr1,h1,e1,hev⟩:=uf rfl hy hev;obtain ⟨fr2,h2,e2,hev⟩:=uf rfl hy hev;obtain ⟨fr3,h3,e3,hev⟩:=uf rfl hy hev;obtain ⟨fr4,h4,e4,hev⟩:=uf rfl hy hev;unfold B88 at hev;obtain ⟨fr5,h5,e5,hev⟩:=uf rfl hy hev;have hl0:fr0.length=59:=by rw [hfr0];rfl
 refine calls_of_wp Tryz.func88 rfl ?_;have hf0:AV.rels ρ fr0 ({tmps:=[x0].toArray++Array.replicate (Tryz.f88.ntmps - [x0].toArray.size) undef,defers:=[]}:Act).tmps.toList:=by
  have hnt:Tryz.f88.ntmps=59:=by kernel_rfl
  have hen:fr0=[x]++List.replicate 58 undefA:=by rw [hfr0];rfl
  rw [hnt,hen];have htl:([x0].toArray++Array.replicate (59 - [x0].toArray.size) undef).toList=[x0]++List.replicate 58 undef:=by simp
  show AV.rels ρ _ ([x0].toArray++Array.replicate (59 - [x0].toArray.size) undef).toList;rw [htl];exact fR (ρ:=ρ) (a:=[x]) (x:=[x0]) (by simp only [AV.rels];exact ⟨_,_,rfl,hx0,rfl⟩) (jy ρ 58)
 refine pS hcall (c1:=_) (a1:=_) (by kernel_rfl) e1 hf0 r fun ρ1 a1 w1 hf1 hd1 p1=>?_;refine pS hcall (c1:=_) (a1:=_) (by kernel_rfl) e2 hf1 p1.rel fun ρ2 a2 w2 hf2 hd2 p2=>?_;refine pS hcall (c1:=_) (a1:=_) (by kernel_rfl) e3 hf2 p2.rel fun ρ3 a3 w3 hf3 hd3 p3_=>?_;refine pS hcall (c1:=_) (a1:=_) (by kernel_rfl) e4 hf3 p3_.rel fun ρ4 a4 w4 hf4 hd4 p4=>?_;have hl4:fr4.length=59:=by rw [fe e4,fe e3,fe e2,fe e1,hl0]
 have key:∃ i0 o0 i3 o3 ms mj es bs ck es2 bs2 ck2,AFrame.eval fr4 (.tmp 0)=.ptr i0 o0/\h4.cell i0 (o0+2)=some (.map ms)/\AFrame.eval fr4 (.tmp 3)=.ptr i3 o3/\h4.cell i3 (o3+2)=some (.map mj)/\
  h4.objs[ms]?=some (.map es bs ck)/\h4.objs[mj]?=some (.map es2 bs2 ck2)/\fh bs ck=true/\ms≠mj/\eW es=true/\eW es2=true/\h5=h4.put mj .dead/\AFrame.eval fr5 (.tmp 3)=.ptr i3 o3/\fr5.length=59:=by
  simp only [evCode] at e5
  split at e5
  case h_2=>cases e5
  rename_i q1 q2 e6
  cases e5
  obtain ⟨i0,o0,v0,g,t1,t2,e7,l1,t3,t4⟩:=ET (by omega) e6
  obtain ⟨i3,o3,v3,g',t5,t6,e8,l2,t7,t8⟩:=ET (by omega) e7
  obtain ⟨g9,k9,q9,e9⟩:=fY e8
  simp only [evOps,ai,an] at e9
  obtain ⟨rfl,rfl⟩:=e9
  simp only [evOper,wantedA,evAny,evOp,evOpE] at q9
  rw [t7,t8 46 (by omega),t3] at q9
  cases v3 with
  | map mj=>
   cases v0 with
   | map ms=>
    simp only [natA] at q9
    cases ho1:h4.objs[ms]? with
    | none=>rw [ho1] at q9;simp at q9
    | some p1=>
     cases p1 with
     | map es bs ck=>
      cases ho2:h4.objs[mj]? with
      | none=>rw [ho1,ho2] at q9;simp at q9
      | some p2=>
       cases p2 with
       | map es2 bs2 ck2=>
        rw [ho1,ho2] at q9;simp only at q9;by_cases hcnd:fh bs ck=true/\ms≠mj/\eW es=true/\eW es2=true
        . rw [if_pos hcnd] at q9;simp only [ai,an,AFrame.putD] at q9;obtain ⟨rfl,rfl⟩:=q9;refine ⟨i0,o0,i3,o3,ms,mj,es,bs,ck,es2,bs2,ck2,t1,t2,by rw [<- t4 3 (by omega)];exact t5,t6,ho1,ho2,hcnd.1,hcnd.2.1,hcnd.2.2.1,hcnd.2.2.2,rfl,by rw [t8 3 (by omega)];exact t5,by omega⟩
        . rw [if_neg hcnd] at q9;simp at q9
       | _=>rw [ho1,ho2] at q9;simp at q9
     | _=>rw [ho1] at q9;simp at q9
   | _=>simp [natA] at q9
  | _=>simp [natA] at q9
 obtain ⟨i0,o0,i3,o3,ms,mj,es,bs,ck,es2,bs2,ck2,t1,t2,t3,t4,ho1,ho2,hb,hne,hk1,hk2,rfl,t5,hl5⟩:=key;have hfin:h'=h4.put mj .dead/\v=.ptr i3 o3:=by
  obtain ⟨g,k,q1,q2⟩:=uf rfl hy hev;simp only [evCode,evOps,evOper,wantedA,evAny,evOp,evOpE,ai,an,true_and] at q1;obtain ⟨rfl,rfl⟩:=q1;simp only [evCode,ai,an] at q2;obtain ⟨_,rfl,rfl⟩:=q2;have:resOf (fr5.putD (some 2) (AFrame.eval fr5 (.tmp 3))) (h4.put mj .dead) mU.results=some (AFrame.eval fr5 (.tmp 3)):=by
   have hg:(fr5.putD (some 2) (AFrame.eval fr5 (.tmp 3)))[2]?=some (AFrame.eval fr5 (.tmp 3)):=by simp [AFrame.putD,hl5]
   simp [mU,resOf,resVs,resV,hg]
  rw [this,t5] at hres;exact ⟨rfl,(aw hres).symm⟩
 obtain ⟨rfl,rfl⟩:=hfin;have hsz:a4.tmps.size=59:=by have:=br hf4;simp at this;omega
 have sl:∀ (k:Nat) (u:AV),k<59->AFrame.eval fr4 (.tmp k)=u->∃ y,a4.tmps[k]?=some y/\u.rel ρ4 y:=by
  intro k u hk hu;have:fr4[k]?=some u:=by rw [<- hu];simp only [AFrame.eval,aO];rw [ah (by omega)];rfl
  obtain ⟨y,z1,z2⟩:=da hf4 this;exact ⟨y,by rw [<- bt];exact z1,z2⟩
 obtain ⟨y0,s0,r0⟩:=sl 0 _ (by omega) t1;obtain ⟨y3,s3,r3⟩:=sl 3 _ (by omega) t3;simp only [AV.rel] at r0 r3;obtain ⟨c0,b0,rfl⟩:=r0;obtain ⟨c3,b3,rfl⟩:=r3;obtain ⟨tm,df⟩:=a4;have hdf:df=[]:=by
  have:({tmps:=tm,defers:=df}:Act).defers=[]:=by rw [hd4,hd3,hd2,hd1]
  exact this
 subst hdf;obtain ⟨t,ht⟩:=RP hsz;simp only at ht;subst ht;have k0:t 0=.pointer (some (c0.add o0)):=by simpa using s0
 have k3:t 3=.pointer (some (c3.add o3)):=by simpa using s3
 rw [k0,k3];obtain ⟨v0,m0,q0⟩:=jW p4.rel t2 b0;obtain ⟨bm,hbm,rfl⟩:=jz q0;obtain ⟨l4,g1,g2,g3⟩:=gr p4.rel ho1 hbm;have m0':w4.cell? ((c0.add o0).add 2)=some (.map (some bm.block)):=by rw [<- m0,gN]
 have hbl:bm.block<w4.heap.size:=(au.1 g1).1;generalize hp0:c0.add o0=p0 at k0 m0' ⊢;generalize hp3:c3.add o3=p3 at k3 ⊢;generalize hQ:bodyPost Tryz.prog Tryz.f88 _=QQ;have m1':=m0';simp [Addr.add] at m1';clear hd1 hd2 hd3 hd4 hf1 hf2 hf3 hf4 sl hev he hy hlen hfit e1 e2 e3 e4 e5 hsz hf0
 go_wp2_with (first
  | (at_range;refine mZ _ rfl _ 202 rfl 3 208 Lw bm.block l4 ck rfl g1 ?_)
  | go_in)
 go_loopw [5] (fun _ wr=>∃ ρr es' bs' ck' seen,XQ ρ4 h4 w4 mj bm.block ck wr ρr es' bs' ck' seen) (fun _ wr=>sc bs w4.heap.size wr)
 case atStart=>
  refine ⟨ρ4,es2,bs2,ck2,#[],?_,hk2,?_,?_⟩
  . rw [AJ ho2];exact Post.wE p4.rel _
  . rw [AJ ho2];exact pK.new p4.rel _
  . exact heap_alloc_new _ _
 case round=>
  obtain ⟨ρr,es',bs',ck',seen,hI⟩:=hrel;have hR:=hI.post.rel;have hms:(h4.put mj (.map es' bs' ck')).objs[ms]?=some (.map es bs ck):=by simp only [AHeap.put,aj (aY hne)];exact ho1
  obtain ⟨l,x1,x2,x3⟩:=gr hR hms (hI.post.le.oF hbm);obtain ⟨hold,hnd⟩:=E9 hb x3
  have hIt:mT wr w4.heap.size bm.block l ck seen:=⟨hI.it,x1,by omega⟩
  go_wp2_with (first
   | (at_next;refine oH _ rfl _ rfl w4.heap.size bm.block l ck seen rfl hIt hold hnd ?_ ?_)
   | go_in)
  . intro h0;subst hQ;go_wp2;go_ret;refine ⟨ρr,.pointer (some p3),rfl,?_,(((p1.trans p2).trans p3_).trans p4).trans (Post.dead hI.post (aa.1 ho2).1)⟩;simp only [AV.rel];exact ⟨c3,hI.post.le.oF b3,by rw [hp3]⟩
  . intro e w2 hel hes hI2 hsz2 hkk ho2' ht2' hout2 hen;have hel:e∈l.toList:=by simpa using hel
    obtain ⟨n,hkey⟩:=D5 x2 hk1 e hel;rw [hkey] at hen ⊢;have P2:Post 4 ρ4 h4 w4 ρr (h4.put mj (.map es' bs' ck')) w2:=Post.scrap hR hI.scrap hsz2 hkk ho2' ht2' hout2 w4 ρ4 h4 hI.post (aq _)
    have S2:pK ρr (h4.put mj (.map es' bs' ck')) w2 w4.heap.size:=⟨hI.scrap.free,hI.scrap.nolit,by rw [hsz2];exact hI.scrap.lt⟩
    obtain ⟨y,m3,q3⟩:=jW P2.rel (C0 t4 ho2) (P2.le.oF b3);obtain ⟨bo,hbo,rfl⟩:=jz q3;have m3':w2.cell? (p3.add 2)=some (.map (some bo.block)):=by rw [<- m3,<- hp3,gN]
    simp [Addr.add] at m3';obtain ⟨es'',bs'',ck'',hu,hk''⟩:=DB (h:=h4.put mj (.map es' bs' ck')) (j:=mj) (n:=n) (v:=.agg []) (bs:=bs') (ck:=ck') hI.keys;have hmj:(h4.put mj (.map es' bs' ck')).objs[mj]?=some (.map es' bs' ck'):=by simp only [AHeap.put];exact ax (aa.1 ho2).1
    have hrun:=oL (x:=.map (some bo.block)) (y:=.int .i64 n) (q:=.agg #[]) P2.rel Lw YU (by simp only [AV.rel];exact ⟨bo,hbo,rfl⟩) (by simp only [AV.rel]) (by simp only [AV.rel,AV.rels];exact ⟨[],rfl,rfl⟩) hmj hu
    go_wp2_with (first
     | (at_mapUpdate;refine ql rfl _ _ _ 202 rfl rfl hrun ?_;intro ρ5 w5 p5)
     | go_in)
    go_roundw
    case rel=>rw [D7] at p5;exact ⟨ρ5,es'',bs'',ck'',seen.push e.born,P2.trans p5,hk'',S2.post p5,(S2.kept p5).trans hI2.it⟩
    case measure=>
     have q1:sc bs w4.heap.size w5=(leftOf l (seen.push e.born)).size:=by rw [D7] at p5;simp [sc,(S2.kept p5).trans hI2.it,El,x3]
     have q2:sc bs w4.heap.size wr=(leftOf l seen).size:=by simp [sc,hI.it,El,x3]
     rw [q1,q2];exact tV hel hes
end
end Go.Proofs.YtblhcbmcbhoeiaaGreatDoor.Ev
namespace Go.Proofs.YtblhcbmcbhoeiaaGreatDoor.Ev.Srt
open Go
section
open Tryz
set_option maxHeartbeats 4000000
noncomputable section
def Td:=cF f204
def Ta:=cF f209
def S9:=cF f210
def S7:=cF f212
def S6:=cF f213
def S5:=cF f214
def Fw:=cF f215
def S4:=cF f216
def S0:=cF f217
def SZ:=cF f218
def SY:=cF f219
def SX:=cF f220
def NZ:=cF f222
def SW:=cF f223
def SV:=cF f224
def SU:=cF f225
def SS:=cF f226
def SR:=cF f227
def SQ:=cF f228
def Qh:=cF f229
noncomputable def FR:List (Nat×Func×dA):=[(204,f204,Td),(209,f209,Ta),(210,f210,S9),(212,f212,S7),(213,f213,S6),(214,f214,S5),(215,f215,Fw),(216,f216,S4),(217,f217,S0),(218,f218,SZ),(219,f219,SY),(220,f220,SX),(222,f222,NZ),(223,f223,SW),(224,f224,SV),(225,f225,SU),(226,f226,SS),(227,f227,SR),(228,f228,SQ),(229,f229,Qh)]
noncomputable def T:gO:=look FR
def Wo:T 204=some Td:=rfl
def Wl:T 209=some Ta:=rfl
def Wj:T 210=some S9:=rfl
def Wh:T 212=some S7:=rfl
def Wg:T 213=some S6:=rfl
def Wf:T 214=some S5:=rfl
def We:T 215=some Fw:=rfl
def Wd:T 216=some S4:=rfl
def Wc:T 217=some S0:=rfl
def Wb:T 218=some SZ:=rfl
def Wa:T 219=some SY:=rfl
def V9:T 220=some SX:=rfl
def V8:T 222=some NZ:=rfl
def V7:T 223=some SW:=rfl
def V6:T 224=some SV:=rfl
def V5:T 225=some SU:=rfl
def V4:T 226=some SS:=rfl
def V3:T 227=some SR:=rfl
def V2:T 228=some SQ:=rfl
def V1:T 229=some Qh:=rfl
theorem DH:SI FR:=by unfold SI;kernel_rfl
theorem LK:wh Tryz.prog 4 T:=fun _ _ h=>(DH.ok h).1
theorem oX:wo T:=fun _ _ h=>(DH.ok h).2
end
end
section
open Go.Sort
def dK (d:Array Int):List AV:=d.toList.map (AV.int .u16)
@[simp] theorem UO (d:Array Int):(dK d).length=d.size:=by simp [dK]
theorem cC {d:Array Int} {k:Nat} (hk:k<d.size):(dK d)[k]?=some (.int .u16 d[k]!):=by simp [dK,hk]
theorem HW {d:Array Int} {k:Nat} {x:Int}:(dK d).set k (.int .u16 x)=dK (d.setIfInBounds k x):=by simp [dK,vI]
section
variable {h:AHeap} {id:Nat} {d:Array Int} {room:Option (Nat×Nat)} {c:Cap} {i j k n:Nat}
theorem Lo {h:AHeap} {i o:Nat} {cs:List AV} {room:Option (Nat×Nat)} {v:AV} (ho:o<cs.length) (hv:v.one=true):writeOf h i (some (Qc cs room)) o [v]=some (h.put i (Qc (cs.set o v) room)):=by rw [writeOf_some,if_pos ⟨by simp;omega,by simp [hv]⟩,lK ho]
theorem ix (hk:k<n):idxAddrV 1 none (.slice id 0 n c) (iQ (k:Int))=some (.ptr id k):=by simp only [idxAddrV];rw [pQ];simp
theorem swap_ok (hA:h.get id=some (Qc (dK d) room)) (hi:i<d.size) (hj:j<d.size):∃ (hm h2:AHeap) (d1:Array Int),writeOf h id (some (Qc (dK d) room)) i [.int .u16 d[j]!]=some hm/\hm.get id=some (Qc (dK d1) room)/\writeOf hm id (some (Qc (dK d1) room)) j [.int .u16 d[i]!]=some h2/\h2.get id=some (Qc (dK (swp d i j)) room)/\Keep [id] h h2:=by
 have e1:=Lo (h:=h) (i:=id) (room:=room) (cs:=dK d) (o:=i) (v:=.int .u16 d[j]!) (by simpa using hi) rfl;rw [HW] at e1;have g1:(h.put id (Qc (dK (d.setIfInBounds i d[j]!)) room)).get id=some (Qc (dK (d.setIfInBounds i d[j]!)) room):=by rw [get_put_same,hA];rfl
 have e2:=Lo (h:=h.put id (Qc (dK (d.setIfInBounds i d[j]!)) room)) (i:=id) (room:=room) (cs:=dK (d.setIfInBounds i d[j]!)) (o:=j) (v:=.int .u16 d[i]!) (by simpa using hj) rfl;rw [HW] at e2;refine ⟨_,_,_,e1,g1,e2,?_,(Keep.put (by simp)).trans' (Keep.put (by simp))⟩;rw [get_put_same,g1];rfl
theorem fS (h:AHeap) (x y:Int):run T 218 [.int .u16 x,.int .u16 y] h=some (.bool (ltInt x y),h):=by
 have e:∀ z:Int,run T 228 [.int .u16 z] h=some (.bool false,h):=fun z=>by refine run_eq V2 ?_;simp [SQ]
 refine run_eq Wb ?_;simp [SZ,e,ltInt]
def XH (h:AHeap) (id:Nat) (room:Option (Nat×Nat)) (c:Cap) (d:Array Int) (a b:Nat) (n:Nat) (fr:FF) (g:AHeap):Prop:=∃ (i:Nat) (d2:Array Int),i+n=max (a+1) b/\a+1<=i/\insOuter ltInt a b i d2=insertionSort ltInt d a b/\d2.size=d.size/\g.get id=some (.cells false (dK d2) room)/\Keep [id] h g/\fr.get 0=.slice id 0 d.size c/\fr.get 1=.int .i64 (a:Int)/\fr.get 2=.int .i64 (b:Int)/\fr.get 6=.int .i64 (i:Int)
def aau (h:AHeap) (id:Nat) (room:Option (Nat×Nat)) (c:Cap) (d:Array Int) (a b i:Nat) (r:Array Int) (n:Nat) (fr:FF) (g:AHeap):Prop:=∃ (d2:Array Int),n<=i/\insInner ltInt a n d2=r/\d2.size=d.size/\g.get id=some (.cells false (dK d2) room)/\Keep [id] h g/\fr.get 0=.slice id 0 d.size c/\fr.get 1=.int .i64 (a:Int)/\fr.get 2=.int .i64 (b:Int)/\fr.get 6=.int .i64 (i:Int)/\fr.get 7=.int .i64 (n:Int)
theorem Sa (hA:h.get id=some (Qc (dK d) room)) {a b:Nat} (hb:b<=d.size) (hs:d.size<=1000000) (ha:a<=1000000):∃ h',run T 212 [.slice id 0 d.size c,iQ (a:Int),iQ (b:Int)] h=some (.tuple [],h')/\h'.get id=some (Qc (dK (insertionSort ltInt d a b)) room)/\Keep [id] h h':=by
 refine run_val Wh ?_;have w0:wQ ((a:Int)+1)=((a+1:Nat):Int):=zQ
 simp [S7,w0];refine Wp.loop (XH h id room c d a b) (max (a+1) b-(a+1)) lQ ?_ ?_
 . exact ⟨a+1,d,by omega,by omega,rfl,rfl,hA,Keep.refl,by simp⟩
 rintro n fr g ⟨i,d2,hn,hai,hr,hsz,gA,k,s0,s1,s2,s6⟩;by_cases hib:i<b
 . have hib':(i:Int)<(b:Int):=by omega
   simp [s2,s6,hib'];refine Wp.loop (aau h id room c d a b i (insInner ltInt a i d2)) i lQ ?_ ?_
   . exact ⟨d2,aq _,rfl,hsz,gA,k,by simp [s0,s1,s2,s6]⟩
   rintro m fr2 g2 ⟨d3,hmi,hr2,hsz2,gA2,k2,r0,r1,r2,r6,r7⟩;have fin:∀ (fr':FF),fr'.get 0=.slice id 0 d.size c->fr'.get 1=iQ (a:Int)->fr'.get 2=iQ (b:Int)->fr'.get 6=iQ ((i+1:Nat):Int)->insInner ltInt a i d2=d3->∃ m,m<n/\XH h id room c d a b m fr' g2:=fun fr' q0 q1 q2 q6 e=>by
    refine ⟨n-1,by omega,i+1,d3,by omega,by omega,?_,hsz2,gA2,k2,q0,q1,q2,q6⟩;rw [<- hr];conv=>rhs;unfold insOuter
    rw [if_pos hib,e]
   have wi:wQ ((i:Int)+1)=((i+1:Nat):Int):=zQ
   by_cases hma:a<m
   . obtain ⟨m',rfl⟩:∃ m',m=m'+1:=⟨m-1,by omega⟩
     have hma':(a:Int)<((m'+1:Nat):Int):=by omega
     have wm:wQ (((m'+1:Nat):Int)-1)=(m':Int):=zQ
     have i1:=ix (id:=id) (c:=c) (k:=m'+1) (n:=d.size) (by omega);have i2:=ix (id:=id) (c:=c) (k:=m') (n:=d.size) (by omega);have c1:=cC (d:=d3) (k:=m'+1) (by omega);have c2:=cC (d:=d3) (k:=m') (by omega);have hl:=fS g2 d3[m'+1]! d3[m']!;obtain ⟨mz,hmz⟩:∃ z:Int,z=((m'+1:Nat):Int):=⟨_,rfl⟩
     rw [<- hmz] at r7 hma' wm i1;cases hlt:ltInt d3[m'+1]! d3[m']! with
     | true=>
      rw [hlt] at hl;have ⟨hm,h2,d1,w1,g1,w2,g3,k3⟩:=swap_ok gA2 (i:=m'+1) (j:=m') (by omega) (by omega);simp [r0,r1,r7,hma',wm,i1,i2,gA2,c1,c2,hl,w1,g1,w2];refine ⟨m',by omega,swp d3 (m'+1) m',by omega,?_,by rw [swp_size];exact hsz2,g3,k2.trans' k3,by simp [r0,r1,r2,r6]⟩;rw [<- hr2];conv=>rhs;unfold insInner
      rw [if_pos (by simp [hlt];omega)]
     | false=>rw [hlt] at hl;simp [r0,r1,r6,r7,hma',wm,i1,i2,gA2,c1,c2,hl,wi];refine fin _ (by simp [r0]) (by simp [r1]) (by simp [r2]) (by simp) ?_;rw [<- hr2];unfold insInner;rw [if_neg (by simp [hlt])]
   . have hma':¬ (a:Int)<(m:Int):=by omega
     simp [r1,r6,r7,hma',wi];refine fin _ (by simp [r0]) (by simp [r1]) (by simp [r2]) (by simp) ?_;rw [<- hr2];cases m with
     | zero=>rfl
     | succ m'=>unfold insInner;rw [if_neg (by simp;omega)]
 . have hib':¬ (i:Int)<(b:Int):=by omega
   simp [s2,s6,hib'];refine ⟨?_,k⟩;rw [gA,<- hr];unfold insOuter;rw [if_neg hib]
end
end
section
open Go.Sort
section
variable {h:AHeap} {id:Nat} {d:Array Int} {room:Option (Nat×Nat)} {c:Cap} {i j k n:Nat}
theorem qx (hi first:Nat):∀ (n root:Nat) (d:Array Int),hi-root<=n->(siftDown ltInt hi first root d).size=d.size:=by
 intro n;induction n with
 | zero=>intro root d hn;unfold siftDown;rw [dif_pos (by omega)]
 | succ n ih=>
  intro root d hn;unfold siftDown;split
  . rfl
  . split
    . split
      . rfl
      . split
        . rw [ih _ _ (by omega)];exact swp_size _ _ _
        . rfl
    . split
      . rfl
      . rw [ih _ _ (by omega)];exact swp_size _ _ _
def Rn (h:AHeap) (id:Nat) (room:Option (Nat×Nat)) (c:Cap) (d:Array Int) (hi first:Nat) (r:Array Int) (n:Nat) (fr:FF) (g:AHeap):Prop:=∃ (root:Nat) (d2:Array Int),hi-root=n/\root<=10000000/\siftDown ltInt hi first root d2=r/\d2.size=d.size/\g.get id=some (.cells false (dK d2) room)/\Keep [id] h g/\fr.get 0=.slice id 0 d.size c/\fr.get 2=.int .i64 (hi:Int)/\fr.get 3=.int .i64 (first:Int)/\fr.get 8=.int .i64 (root:Int)
theorem H6 (hA:h.get id=some (Qc (dK d) room)) {lo hi first:Nat} (hb:first+hi<=d.size) (hs:d.size<=1000000) (hlo:lo<=10000000):∃ h',run T 223 [.slice id 0 d.size c,iQ (lo:Int),iQ (hi:Int),iQ (first:Int)] h=some (.tuple [],h')/\h'.get id=some (Qc (dK (siftDown ltInt hi first lo d)) room)/\Keep [id] h h':=by
 refine run_val V7 ?_;simp [SW];refine Wp.loop (Rn h id room c d hi first (siftDown ltInt hi first lo d)) (hi-lo) lQ ?_ ?_
 . exact ⟨lo,d,rfl,hlo,rfl,rfl,hA,Keep.refl,by simp⟩
 rintro n fr g ⟨root,d2,hn,hrb,hr,hsz,gA,k,s0,s2,s3,s8⟩;obtain ⟨ch,hch⟩:∃ ch,ch=2*root+1:=⟨_,rfl⟩
 have w1:wQ (2*(root:Int))=((2*root:Nat):Int):=zQ
 have w2:wQ (((2*root:Nat):Int)+1)=(ch:Int):=zQ
 obtain ⟨tr,htr⟩:∃ z:Int,z=((2*root:Nat):Int):=⟨_,rfl⟩
 rw [<- htr] at w1 w2;by_cases hge:hi<=ch
 . have hge':(hi:Int)<=(ch:Int):=by omega
   simp [s2,s8,w1,w2,hge'];refine ⟨?_,k⟩;rw [gA,<- hr];conv=>rhs;unfold siftDown
   rw [dif_pos (by omega)]
 . have hge':¬ (hi:Int)<=(ch:Int):=by omega
   have w3:wQ ((ch:Int)+1)=((ch+1:Nat):Int):=zQ
   have wfc:wQ ((first:Int)+(ch:Int))=((first+ch:Nat):Int):=zQ
   have wfc1:wQ (((first+ch:Nat):Int)+1)=((first+(ch+1):Nat):Int):=zQ
   have wfr:wQ ((first:Int)+(root:Int))=((first+root:Nat):Int):=zQ
   have ic:=ix (id:=id) (c:=c) (k:=first+ch) (n:=d.size) (by omega);have ir:=ix (id:=id) (c:=c) (k:=first+root) (n:=d.size) (by omega);have cc:=cC (d:=d2) (k:=first+ch) (by omega);have cr:=cC (d:=d2) (k:=first+root) (by omega);obtain ⟨zc1,hzc1⟩:∃ z:Int,z=((ch+1:Nat):Int):=⟨_,rfl⟩
   obtain ⟨zfc,hzfc⟩:∃ z:Int,z=((first+ch:Nat):Int):=⟨_,rfl⟩
   obtain ⟨zfc1,hzfc1⟩:∃ z:Int,z=((first+(ch+1):Nat):Int):=⟨_,rfl⟩
   obtain ⟨zfr,hzfr⟩:∃ z:Int,z=((first+root:Nat):Int):=⟨_,rfl⟩
   have wfs:wQ ((first:Int)+zc1)=((first+(ch+1):Nat):Int):=zQ
   rw [<- hzc1] at w3;rw [<- hzfc] at wfc wfc1 ic;rw [<- hzfc1] at wfc1 wfs;rw [<- hzfr] at wfr ir;have lc:=fS g d2[first+root]! d2[first+ch]!;have hsw:siftDown ltInt hi first root d2=if ch+1<hi && ltInt d2[first+ch]! d2[first+ch+1]! then (if !ltInt d2[first+root]! d2[first+(ch+1)]! then d2 else siftDown ltInt hi first (ch+1) (swp d2 (first+root) (first+(ch+1)))) else (if !ltInt d2[first+root]! d2[first+ch]! then d2 else siftDown ltInt hi first ch (swp d2 (first+root) (first+ch))):=by
    conv=>lhs;unfold siftDown
    rw [dif_neg (by omega),hch];by_cases hc:2*root+1+1<hi && ltInt d2[first+(2*root+1)]! d2[first+(2*root+1)+1]!
    . rw [if_pos hc,if_pos hc];split
      . rfl
      . simp [aA,decide_eq_true_eq] at hc;rw [dif_pos (by omega)]
    . rw [if_neg hc,if_neg hc]
   have goon:∀ (q:Nat),(q=ch\/q=ch+1)->q<hi->∀ (fr':FF) (g':AHeap) (d3:Array Int),siftDown ltInt hi first q d3=siftDown ltInt hi first lo d->d3.size=d.size->g'.get id=some (Qc (dK d3) room)->Keep [id] h g'->fr'.get 0=.slice id 0 d.size c->fr'.get 2=iQ (hi:Int)->fr'.get 3=iQ (first:Int)->fr'.get 8=iQ (q:Int)->∃ m,m<n/\Rn h id room c d hi first (siftDown ltInt hi first lo d) m fr' g':=fun q hq hqi fr' g' d3 e1 e2 e3 e4 q0 q2 q3 q8=>⟨hi-q,by omega,q,d3,rfl,by omega,e1,e2,e3,e4,q0,q2,q3,q8⟩
   by_cases h2:ch+1<hi
   . have h2':zc1<(hi:Int):=by omega
     have ic1:=ix (id:=id) (c:=c) (k:=first+(ch+1)) (n:=d.size) (by omega);have cc1:=cC (d:=d2) (k:=first+(ch+1)) (by omega);rw [<- hzfc1] at ic1;have ls:=fS g d2[first+ch]! d2[first+(ch+1)]!;have lc1:=fS g d2[first+root]! d2[first+(ch+1)]!;cases hls:ltInt d2[first+ch]! d2[first+(ch+1)]! with
     | true=>
      rw [hls] at ls;rw [if_pos (by simp [h2];exact hls)] at hsw;cases hl2:ltInt d2[first+root]! d2[first+(ch+1)]! with
      | true=>rw [hl2] at lc1;have ⟨hm,g2,d1,x1,x2,x3,x4,x5⟩:=swap_ok gA (i:=first+root) (j:=first+(ch+1)) (by omega) (by omega);simp [s0,s2,s3,s8,w1,w2,hge',w3,wfc,wfc1,wfr,wfs,ic,ir,ic1,gA,cc,cr,cc1,ls,lc1,h2',x1,x2,x3];refine goon (ch+1) (.inr rfl) h2 _ _ _ ?_ (by rw [swp_size];exact hsz) x4 (k.trans' x5) (by simp [s0]) (by simp [s2]) (by simp [s3]) (by simp [hzc1]);rw [<- hr,hsw,if_neg (by simp [hl2])]
      | false=>rw [hl2] at lc1;simp [s0,s2,s3,s8,w1,w2,hge',w3,wfc,wfc1,wfr,wfs,ic,ir,ic1,gA,cc,cr,cc1,ls,lc1,h2'];refine ⟨?_,k⟩;rw [<- hr,hsw,if_pos (by simp [hl2])]
     | false=>
      rw [hls] at ls;rw [if_neg (by simp;intro _;exact hls)] at hsw;cases hl2:ltInt d2[first+root]! d2[first+ch]! with
      | true=>rw [hl2] at lc;have ⟨hm,g2,d1,x1,x2,x3,x4,x5⟩:=swap_ok gA (i:=first+root) (j:=first+ch) (by omega) (by omega);simp [s0,s2,s3,s8,w1,w2,hge',w3,wfc,wfc1,wfr,ic,ir,ic1,gA,cc,cr,cc1,ls,lc,h2',x1,x2,x3];refine goon ch (.inl rfl) (by omega) _ _ _ ?_ (by rw [swp_size];exact hsz) x4 (k.trans' x5) (by simp [s0]) (by simp [s2]) (by simp [s3]) (by simp);rw [<- hr,hsw,if_neg (by simp [hl2])]
      | false=>rw [hl2] at lc;simp [s0,s2,s3,s8,w1,w2,hge',w3,wfc,wfc1,wfr,ic,ir,ic1,gA,cc,cr,cc1,ls,lc,h2'];refine ⟨?_,k⟩;rw [<- hr,hsw,if_pos (by simp [hl2])]
   . have h2':¬ zc1<(hi:Int):=by omega
     rw [if_neg (by simp [h2])] at hsw;cases hl2:ltInt d2[first+root]! d2[first+ch]! with
     | true=>rw [hl2] at lc;have ⟨hm,g2,d1,x1,x2,x3,x4,x5⟩:=swap_ok gA (i:=first+root) (j:=first+ch) (by omega) (by omega);simp [s0,s2,s3,s8,w1,w2,hge',w3,wfc,wfr,ic,ir,gA,cc,cr,lc,h2',x1,x2,x3];refine goon ch (.inl rfl) (by omega) _ _ _ ?_ (by rw [swp_size];exact hsz) x4 (k.trans' x5) (by simp [s0]) (by simp [s2]) (by simp [s3]) (by simp);rw [<- hr,hsw,if_neg (by simp [hl2])]
     | false=>rw [hl2] at lc;simp [s0,s2,s3,s8,w1,w2,hge',w3,wfc,wfr,ic,ir,gA,cc,cr,lc,h2'];refine ⟨?_,k⟩;rw [<- hr,hsw,if_pos (by simp [hl2])]
def HbI (h:AHeap) (id:Nat) (room:Option (Nat×Nat)) (c:Cap) (d:Array Int) (hi first:Nat) (r:Array Int) (n:Nat) (fr:FF) (g:AHeap):Prop:=∃ (d2:Array Int),n<=hi+1/\heapBuild ltInt hi first n d2=r/\d2.size=d.size/\g.get id=some (.cells false (dK d2) room)/\Keep [id] h g/\fr.get 0=.slice id 0 d.size c/\fr.get 6=.int .i64 (first:Int)/\fr.get 7=.int .i64 0/\fr.get 8=.int .i64 (hi:Int)/\fr.get 9=.int .i64 ((n:Int)-1)
def HpI (h:AHeap) (id:Nat) (room:Option (Nat×Nat)) (c:Cap) (d:Array Int) (hi first:Nat) (r:Array Int) (n:Nat) (fr:FF) (g:AHeap):Prop:=∃ (d2:Array Int),n<=hi/\heapPop ltInt first n d2=r/\d2.size=d.size/\g.get id=some (.cells false (dK d2) room)/\Keep [id] h g/\fr.get 0=.slice id 0 d.size c/\fr.get 6=.int .i64 (first:Int)/\fr.get 7=.int .i64 0/\fr.get 10=.int .i64 ((n:Int)-1)
theorem Px (hA:h.get id=some (Qc (dK d) room)) {a b:Nat} (hab:a<=b) (hb:b<=d.size) (hs:d.size<=1000000):∃ h',run T 213 [.slice id 0 d.size c,iQ (a:Int),iQ (b:Int)] h=some (.tuple [],h')/\h'.get id=some (Qc (dK (heapSort ltInt d a b)) room)/\Keep [id] h h':=by
 refine run_val Wg ?_
 obtain ⟨hi,hhi⟩:∃ hi,hi=b-a:=⟨_,rfl⟩
 have w0:wQ ((b:Int)-(a:Int))=(hi:Int):=zQ
 have w1:wQ ((hi:Int)-1)=(hi:Int)-1:=rQ;have w2:IntKind.wrap .i64 (Int.tdiv ((hi:Int)-1) 2)=(((hi-1) / 2+1:Nat):Int)-1:=by
  have:Int.tdiv ((hi:Int)-1) 2=(((hi-1) / 2:Nat):Int):=by
   rcases dd hi with h0 | h0
   . rw [h0];rfl
   . rw [show (hi:Int)-1=((hi-1:Nat):Int) by omega];exact (mw _ _).symm
  rw [this,iq (by omega) (by omega)];omega
 obtain ⟨nb,hnb⟩:∃ nb,nb=(hi-1) / 2+1:=⟨_,rfl⟩
 rw [<- hnb] at w2;have hgoal:heapSort ltInt d a b=heapPop ltInt a hi (heapBuild ltInt hi a nb d):=by rw [heapSort,hnb,hhi]
 rw [hgoal];simp [-getElem?_pos,S6,w0,w1,w2];refine Wp.loop (HbI h id room c d hi a (heapBuild ltInt hi a nb d)) nb lQ ?_ ?_
 . exact ⟨d,by omega,rfl,rfl,hA,Keep.refl,by simp⟩
 rintro n fr g ⟨d2,hnh,hr,hsz,gA,k,s0,s6,s7,s8,s9⟩
 cases n with
 | succ n=>
  rw [show ((n+1:Nat):Int)-1=(n:Int) by omega] at s9;have hge:(0:Int)<=(n:Int):=by omega
  have ⟨g1,e1,gA1,k1⟩:=H6 (c:=c) gA (lo:=n) (hi:=hi) (first:=a) (by omega) (by omega) (by omega);rw [hsz] at e1;have wn:wQ ((n:Int)-1)=(n:Int)-1:=rQ;simp [-getElem?_pos,s0,s6,s8,s9,hge,e1,wn];exact ⟨n,by omega,_,by omega,hr,by rw [qx hi a _ n d2 (aq _)];exact hsz,gA1,k.trans' k1,by simp [s0,s6,s7,s8]⟩
 | zero=>
  have hge:¬ (0:Int)<=((0:Nat):Int)-1:=by omega
  have hr:d2=heapBuild ltInt hi a nb d:=hr;simp [-getElem?_pos,s8,s9,w1];refine Wp.loop (HpI h id room c d hi a (heapPop ltInt a hi (heapBuild ltInt hi a nb d))) hi lQ ?_ ?_
  . exact ⟨d2,aq _,by rw [hr],hsz,gA,k,by simp [s0,s6,s7]⟩
  clear hr gA k s0 s6 s7 s8 s9 hsz;rintro n fr g ⟨d2,hnh,hr,hsz,gA,k,s0,s6,s7,s10⟩
  cases n with
  | succ n=>
   rw [show ((n+1:Nat):Int)-1=(n:Int) by omega] at s10;have hge:(0:Int)<=(n:Int):=by omega
   have ⟨hm,g2,d1,x1,x2,x3,x4,x5⟩:=swap_ok gA (i:=a) (j:=a+n) (by omega) (by omega);have ia:=ix (id:=id) (c:=c) (k:=a) (n:=d.size) (by omega);have ian:=ix (id:=id) (c:=c) (k:=a+n) (n:=d.size) (by omega);have ca:=cC (d:=d2) (k:=a) (by omega);have can:=cC (d:=d2) (k:=a+n) (by omega);have wan:wQ ((a:Int)+(n:Int))=((a+n:Nat):Int):=zQ
   obtain ⟨zan,hzan⟩:∃ z:Int,z=((a+n:Nat):Int):=⟨_,rfl⟩
   rw [<- hzan] at wan ian;have hsz2:(swp d2 a (a+n)).size=d.size:=by rw [swp_size];exact hsz
   have ⟨g1,e1,gA1,k1⟩:=H6 (c:=c) x4 (lo:=0) (hi:=n) (first:=a) (by omega) (by omega) (by omega);rw [hsz2] at e1;have wn:wQ ((n:Int)-1)=(n:Int)-1:=rQ;simp [qs] at e1;simp [-writeOf_some,-getElem?_pos,s0,s6,s7,s10,hge,wan,ia,ian,gA,ca,can,x1,x2,x3,e1,wn];exact ⟨n,by omega,_,by omega,hr,by rw [qx n a _ 0 _ (aq _)];exact hsz2,gA1,(k.trans' x5).trans' k1,by simp [s0,s6,s7]⟩
  | zero=>
   have hge:¬ (0:Int)<=((0:Nat):Int)-1:=by omega
   have hr:d2=_:=hr;simp [-getElem?_pos,s10];exact ⟨by rw [gA,hr],k⟩
end
end
section
open Go.Sort
section
variable {h:AHeap} {id q:Nat} {d:Array Int} {room:Option (Nat×Nat)} {c:Cap} {i j k n:Nat}
theorem tL (hA:h.get id=some (Qc (dK d) room)) {a b s:Nat} (ha:a<d.size) (hb:b<d.size) (hs:s<=1000000) (hQ:h.get q=some (Qc [iQ (s:Int)] none)):∃ h',run T 229 [.slice id 0 d.size c,iQ (a:Int),iQ (b:Int),.ptr q 0] h=some (.tuple [iQ ((order2 ltInt d a b s).1:Int),iQ ((order2 ltInt d a b s).2.1:Int)],h')/\h'.get q=some (Qc [iQ ((order2 ltInt d a b s).2.2:Int)] none)/\Keep [q] h h':=by
 have ia:=ix (id:=id) (c:=c) (k:=a) (n:=d.size) ha;have ib:=ix (id:=id) (c:=c) (k:=b) (n:=d.size) hb;have ca:=cC ha;have cb:=cC hb;have l:=fS h d[b]! d[a]!;refine run_val V1 ?_;cases hl:ltInt d[b]! d[a]! with
 | true=>
  rw [hl] at l;have w:wQ ((s:Int)+1)=((s+1:Nat):Int):=zQ
  obtain ⟨z,hz⟩:∃ z:Int,z=((s+1:Nat):Int):=⟨_,rfl⟩
  rw [<- hz] at w;simp [Qh,ia,ib,hA,ca,cb,l,hQ,w,order2,hl,ad];exact ⟨by omega,Keep.put (by simp)⟩
 | false=>rw [hl] at l;simp [Qh,ia,ib,hA,ca,cb,l,order2,hl];exact ⟨hQ,Keep.refl⟩
theorem tM {a b s:Nat} (ha:a<d.size) (hb:b<d.size):(order2 ltInt d a b s).1<d.size/\(order2 ltInt d a b s).2.1<d.size/\(order2 ltInt d a b s).2.2<=s+1:=by unfold order2;split<;>simp [ha,hb]
theorem tT (hA:h.get id=some (Qc (dK d) room)) {a b e s:Nat} (ha:a<d.size) (hb:b<d.size) (he:e<d.size) (hs:s<=100000) (hQ:h.get q=some (Qc [iQ (s:Int)] none)) (hne:id≠q):∃ h',run T 227 [.slice id 0 d.size c,iQ (a:Int),iQ (b:Int),iQ (e:Int),.ptr q 0] h=some (iQ ((median ltInt d a b e s).1:Int),h')/\h'.get q=some (Qc [iQ ((median ltInt d a b e s).2:Int)] none)/\Keep [q] h h'/\(median ltInt d a b e s).1<d.size/\(median ltInt d a b e s).2<=s+3:=by
 have ⟨h1,e1,q1,k1⟩:=tL (c:=c) hA ha hb (by omega) hQ;have l1:=tM (d:=d) (s:=s) ha hb;generalize hr1:order2 ltInt d a b s=r1 at *;have ⟨h2,e2,q2,k2⟩:=tL (c:=c) (k1.obj hA (by simpa using hne)) l1.2.1 he (by omega) q1;have l2:=tM (d:=d) (s:=r1.2.2) l1.2.1 he;generalize hr2:order2 ltInt d r1.2.1 e r1.2.2=r2 at *;have ⟨h3,e3,q3,k3⟩:=tL (c:=c) ((k1.trans' k2).obj hA (by simpa using hne)) l1.1 l2.1 (by omega) q2;have l3:=tM (d:=d) (s:=r2.2.2) l1.1 l2.1;have hm:median ltInt d a b e s=((order2 ltInt d r1.1 r2.1 r2.2.2).2.1,(order2 ltInt d r1.1 r2.1 r2.2.2).2.2):=by unfold median;simp [hr1,hr2]
 rw [hm];refine ⟨h3,run_eq V3 ?_,q3,(k1.trans' k2).trans' k3,l3.2.1,by have:=l3.2.2;have:=l2.2.2;have:=l1.2.2;simp only;omega⟩;simp [SR,e1,e2,e3,ad,av]
theorem Hx (hA:h.get id=some (Qc (dK d) room)) {a s:Nat} (h1:1<=a) (ha:a+1<d.size) (hd:d.size<=1000000) (hs:s<=100000) (hQ:h.get q=some (Qc [iQ (s:Int)] none)) (hne:id≠q):∃ h',run T 226 [.slice id 0 d.size c,iQ (a:Int),.ptr q 0] h=some (iQ ((medianAdjacent ltInt d a s).1:Int),h')/\h'.get q=some (Qc [iQ ((medianAdjacent ltInt d a s).2:Int)] none)/\Keep [q] h h'/\(medianAdjacent ltInt d a s).1<d.size/\(medianAdjacent ltInt d a s).2<=s+3:=by
 have ⟨h',e,r⟩:=tT (c:=c) hA (a:=a-1) (b:=a) (e:=a+1) (s:=s) (by omega) (by omega) ha hs hQ hne;have w1:wQ ((a:Int)-1)=((a-1:Nat):Int):=zQ;have w2:wQ ((a:Int)+1)=((a+1:Nat):Int):=zQ
 obtain ⟨z1,hz1⟩:∃ z:Int,z=((a-1:Nat):Int):=⟨_,rfl⟩
 obtain ⟨z2,hz2⟩:∃ z:Int,z=((a+1:Nat):Int):=⟨_,rfl⟩
 rw [<- hz1,<- hz2] at e;rw [<- hz1] at w1;rw [<- hz2] at w2;refine ⟨h',run_eq V4 ?_,r⟩;simp [SS,w1,w2,e,medianAdjacent]
def qD:Hint->Int
 | .unknown=>0
 | .increasing=>1
 | .decreasing=>2
theorem Mq (hA:h.get id=some (Qc (dK d) room)) {a b:Nat} (hab:a+8<=b) (hb:b<=d.size) (hd:d.size<=1000000):∃ h',run T 215 [.slice id 0 d.size c,iQ (a:Int),iQ (b:Int)] h=some (.tuple [iQ ((choosePivot ltInt d a b).1:Int),iQ (qD (choosePivot ltInt d a b).2)],h')/\Keep [] h h':=by
 obtain ⟨l,hl⟩:∃ l,l=b-a:=⟨_,rfl⟩
 obtain ⟨l4,hl4⟩:∃ l4,l4=l / 4:=⟨_,rfl⟩
 have hid:=get_lt hA;have w0:IntKind.wrap .i64 ((b:Int)-(a:Int))=(l:Int):=zQ
 have t4:Int.tdiv (l:Int) 4=(l4:Int):=by rw [hl4];exact (mw l 4).symm
 have w4:IntKind.wrap .i64 (l4:Int)=(l4:Int):=rQ;have wm2:IntKind.wrap .i64 ((l4:Int)*2)=((l4*2:Nat):Int):=zQ
 have wm3:IntKind.wrap .i64 ((l4:Int)*3)=((l4*3:Nat):Int):=zQ
 obtain ⟨zi,hzi⟩:∃ z,z=a+l4*1:=⟨_,rfl⟩
 obtain ⟨zj,hzj⟩:∃ z,z=a+l4*2:=⟨_,rfl⟩
 obtain ⟨zk,hzk⟩:∃ z,z=a+l4*3:=⟨_,rfl⟩
 obtain ⟨m2,hm2⟩:∃ z:Int,z=((l4*2:Nat):Int):=⟨_,rfl⟩
 obtain ⟨m3,hm3⟩:∃ z:Int,z=((l4*3:Nat):Int):=⟨_,rfl⟩
 rw [<- hm2] at wm2;rw [<- hm3] at wm3;have wi:IntKind.wrap .i64 ((a:Int)+(l4:Int))=(zi:Int):=zQ
 have wj:IntKind.wrap .i64 ((a:Int)+m2)=(zj:Int):=zQ
 have wk:IntKind.wrap .i64 ((a:Int)+m3)=(zk:Int):=zQ
 have h8:(8:Int)<=(l:Int):=by omega
 obtain ⟨h0,hh0⟩:∃ h0,h0=h.push (Qc [iQ 0] none):=⟨_,rfl⟩
 have k0:Keep [] h h0:=by rw [hh0];exact Keep.push
 have q0:h0.get h.size=some (Qc [iQ ((0:Nat):Int)] none):=by rw [hh0];exact ak
 have hne:id≠h.size:=by omega
 have past:∀ {g:AHeap},Keep [h.size] h0 g->Keep [] h g:=fun k=>k0.trans k (by simp)
 suffices key:∃ (g:AHeap) (r:Nat×Nat),Keep [] h g/\choosePivot ltInt d a b=(r.1,if r.2=0 then .increasing else if r.2=12 then .decreasing else .unknown)/\g.get h.size=some (Qc [iQ (r.2:Int)] none)/\r.2<=100/\
  ((l<50/\run T 227 [.slice id 0 d.size c,iQ (zi:Int),iQ (zj:Int),iQ (zk:Int),.ptr h.size 0] h0=some (iQ (r.1:Int),g))\/
   (50<=l/\∃ (p1 p2 p3:Nat) (g1 g2 g3:AHeap),run T 226 [.slice id 0 d.size c,iQ (zi:Int),.ptr h.size 0] h0=some (iQ (p1:Int),g1)/\run T 226 [.slice id 0 d.size c,iQ (zj:Int),.ptr h.size 0] g1=some (iQ (p2:Int),g2)/\run T 226 [.slice id 0 d.size c,iQ (zk:Int),.ptr h.size 0] g2=some (iQ (p3:Int),g3)/\run T 227 [.slice id 0 d.size c,iQ (p1:Int),iQ (p2:Int),iQ (p3:Int),.ptr h.size 0] g3=some (iQ (r.1:Int),g))) by
  have ⟨g,r,k,hc,gq,hr2,hor⟩:=key
  rw [hc]
  refine ⟨g,run_eq We ?_,k⟩
  have e0:((r.2:Int)=0)↔r.2=0:=by omega
  have e12:((r.2:Int)=12)↔r.2=12:=by omega
  rcases hor with ⟨hlt,e⟩ | ⟨hge,p1,p2,p3,g1,g2,g3,e1,e2,e3,e4⟩
  . have h50:¬ (50:Int)<=(l:Int):=by omega
    by_cases z0:r.2=0
    . rw [z0] at gq
      simp [-getElem?_pos,Fw,w0,t4,w4,wm2,wm3,wi,wj,wk,h8,h50,<- hh0,e,gq,z0,qD,ad]
    . by_cases z12:r.2=12
      . rw [z12] at gq
        simp [-getElem?_pos,Fw,w0,t4,w4,wm2,wm3,wi,wj,wk,h8,h50,<- hh0,e,gq,z12,qD,ad]
      . have n0:¬ (r.2:Int)=0:=by omega
        have n12:¬ (r.2:Int)=12:=by omega
        simp [-getElem?_pos,Fw,w0,t4,w4,wm2,wm3,wi,wj,wk,h8,h50,<- hh0,e,gq,z0,z12,n12,qD,ad]
  . have h50:(50:Int)<=(l:Int):=by omega
    by_cases z0:r.2=0
    . rw [z0] at gq
      simp [-getElem?_pos,Fw,w0,t4,w4,wm2,wm3,wi,wj,wk,h8,h50,<- hh0,e1,e2,e3,e4,gq,z0,qD,ad]
    . by_cases z12:r.2=12
      . rw [z12] at gq
        simp [-getElem?_pos,Fw,w0,t4,w4,wm2,wm3,wi,wj,wk,h8,h50,<- hh0,e1,e2,e3,e4,gq,z12,qD,ad]
      . have n0:¬ (r.2:Int)=0:=by omega
        have n12:¬ (r.2:Int)=12:=by omega
        simp [-getElem?_pos,Fw,w0,t4,w4,wm2,wm3,wi,wj,wk,h8,h50,<- hh0,e1,e2,e3,e4,gq,z0,z12,n12,qD,ad]
 have hA0:=k0.obj hA (by simp);by_cases hlt:l<50
 . have ⟨g,e,gq,kg,_,r2⟩:=tT (c:=c) hA0 (a:=zi) (b:=zj) (e:=zk) (s:=0) (by omega) (by omega) (by omega) (by omega) q0 hne;refine ⟨g,median ltInt d zi zj zk 0,past kg,?_,gq,by omega,.inl ⟨hlt,e⟩⟩;unfold choosePivot;simp only [<- hl,<- hl4,<- hzi,<- hzj,<- hzk];rw [if_pos (by omega),if_neg (by omega)]
 . obtain ⟨g1,e1,gq1,kg1,p1,r1⟩:=Hx (c:=c) hA0 (a:=zi) (s:=0) (by omega) (by omega) hd (by omega) q0 hne;generalize hri:medianAdjacent ltInt d zi 0=ri at *;obtain ⟨g2,e2,gq2,kg2,p2,r2⟩:=Hx (c:=c) (kg1.obj hA0 (by simpa using hne)) (a:=zj) (s:=ri.2) (by omega) (by omega) hd (by omega) gq1 hne;generalize hrj:medianAdjacent ltInt d zj ri.2=rj at *;obtain ⟨g3,e3,gq3,kg3,p3,r3⟩:=Hx (c:=c) ((kg1.trans' kg2).obj hA0 (by simpa using hne)) (a:=zk) (s:=rj.2) (by omega) (by omega) hd (by omega) gq2 hne;generalize hrk:medianAdjacent ltInt d zk rj.2=rk at *;obtain ⟨g4,e4,gq4,kg4,_,r4⟩:=tT (c:=c) (((kg1.trans' kg2).trans' kg3).obj hA0 (by simpa using hne)) (a:=ri.1) (b:=rj.1) (e:=rk.1) (s:=rk.2) p1 p2 p3 (by omega) gq3 hne;refine ⟨g4,median ltInt d ri.1 rj.1 rk.1 rk.2,past (((kg1.trans' kg2).trans' kg3).trans' kg4),?_,gq4,by omega,.inr ⟨by omega,ri.1,rj.1,rk.1,g1,g2,g3,e1,e2,e3,e4⟩⟩;unfold choosePivot;simp only [<- hl,<- hl4,<- hzi,<- hzj,<- hzk];rw [if_pos (by omega),if_pos (by omega),hri,hrj,hrk]
def aam (h:AHeap) (id:Nat) (room:Option (Nat×Nat)) (c:Cap) (d:Array Int) (r:Array Int) (n:Nat) (fr:FF) (g:AHeap):Prop:=∃ (i j:Nat) (d2:Array Int),j+1-i=n/\(i<j->j<d.size)/\i<=1000001/\j<=1000000/\reverseLoop i j d2=r/\d2.size=d.size/\g.get id=some (.cells false (dK d2) room)/\Keep [id] h g/\fr.get 0=.slice id 0 d.size c/\fr.get 6=.int .i64 (i:Int)/\fr.get 7=.int .i64 (j:Int)
theorem RQ (hA:h.get id=some (Qc (dK d) room)) {a b:Nat} (hab:a<b) (hb:b<=d.size) (hd:d.size<=1000000):∃ h',run T 216 [.slice id 0 d.size c,iQ (a:Int),iQ (b:Int)] h=some (.tuple [],h')/\h'.get id=some (Qc (dK (reverseRange d a b)) room)/\Keep [id] h h':=by
 refine run_val Wd ?_;have w0:wQ ((b:Int)-1)=((b-1:Nat):Int):=zQ
 obtain ⟨zb,hzb⟩:∃ z,z=b-1:=⟨_,rfl⟩
 rw [<- hzb] at w0;simp [S4,w0];refine Wp.loop (aam h id room c d (reverseRange d a b)) (zb+1-a) lQ ?_ ?_
 . exact ⟨a,zb,d,rfl,by omega,by omega,by omega,by rw [reverseRange,hzb],rfl,hA,Keep.refl,by simp⟩
 rintro n fr g ⟨i,j,d2,hn,hj,hib,hjb,hr,hsz,gA,k,s0,s6,s7⟩;by_cases hij:i<j
 . have hij':(i:Int)<(j:Int):=by omega
   have hj:=hj hij;have ⟨hm,g2,d1,x1,x2,x3,x4,x5⟩:=swap_ok gA (i:=i) (j:=j) (by omega) (by omega);have ii:=ix (id:=id) (c:=c) (k:=i) (n:=d.size) (by omega);have ij:=ix (id:=id) (c:=c) (k:=j) (n:=d.size) (by omega);have ci:=cC (d:=d2) (k:=i) (by omega);have cj:=cC (d:=d2) (k:=j) (by omega);have w1:wQ ((i:Int)+1)=((i+1:Nat):Int):=zQ
   have w2:wQ ((j:Int)-1)=((j-1:Nat):Int):=zQ
   obtain ⟨z1,hz1⟩:∃ z:Int,z=((i+1:Nat):Int):=⟨_,rfl⟩
   obtain ⟨z2,hz2⟩:∃ z:Int,z=((j-1:Nat):Int):=⟨_,rfl⟩
   rw [<- hz1] at w1;rw [<- hz2] at w2;simp [s0,s6,s7,hij',ii,ij,gA,ci,cj,x1,x2,x3,w1,w2];refine ⟨j-1+1-(i+1),by omega,i+1,j-1,swp d2 i j,rfl,by omega,by omega,by omega,?_,by rw [swp_size];exact hsz,x4,k.trans' x5,by simp [s0,hz1,hz2]⟩;rw [<- hr];conv=>rhs;unfold reverseLoop
   rw [if_pos hij]
 . have hij':¬ (i:Int)<(j:Int):=by omega
   simp [s6,s7,hij'];refine ⟨?_,k⟩;rw [gA,<- hr];unfold reverseLoop;rw [if_neg hij]
end
end
section
open Go.Sort
theorem iF (w r:Nat) (hr:r<64) (k:IntKind):di .shr (uQ (w:Int)) (.int k (r:Int))=some (uQ ((w / 2 ^ r:Nat):Int)):=by
 have h64:min r 64=r:=by omega
 simp only [di,IntKind.bits];rw [pQ,aC,h64,Int.fdiv_eq_ediv_of_nonneg _ (by exact_mod_cast lG (2 ^ r))];simp
theorem BY (w r:Nat) (hr:r<64) (k:IntKind):di .shl (uQ (w:Int)) (.int k (r:Int))=some (uQ ((w*2 ^ r % 18446744073709551616:Nat):Int)):=by
 have h64:min r 64=r:=by omega
 simp only [di,IntKind.bits];rw [pQ,aC,h64,eP];congr 2
theorem ld (a b:Nat) (hb:b<2 ^ 64):di .and (uQ (a:Int)) (uQ (b:Int))=some (uQ ((a &&& b:Nat):Int)):=by
 have hab:a &&& b<2 ^ 64:=lp gy hb;have e:(BitVec.ofInt 64 (a:Int) &&& BitVec.ofInt 64 (b:Int)).toNat=a &&& b:=by rw [BitVec.toNat_and,cI,cI,de,de,<- Dk,bL hab]
 have e2:(BitVec.ofInt (IntKind.bits .u64) (a:Int) &&& BitVec.ofInt (IntKind.bits .u64) (b:Int)).toNat=a &&& b:=e;simp only [di,if_true];rw [e2,eP,eV (by omega) (by omega)]
theorem rE (a b:Nat) (ha:a<2 ^ 64) (hb:b<2 ^ 64):di .xor (uQ (a:Int)) (uQ (b:Int))=some (uQ ((a ^^^ b:Nat):Int)):=by
 have hab:a ^^^ b<2 ^ 64:=lh ha hb;have e:(BitVec.ofInt 64 (a:Int) ^^^ BitVec.ofInt 64 (b:Int)).toNat=a ^^^ b:=by rw [BitVec.toNat_xor,cI,cI,de,de,<- Nat.xor_mod_two_pow,bL hab]
 have e2:(BitVec.ofInt (IntKind.bits .u64) (a:Int) ^^^ BitVec.ofInt (IntKind.bits .u64) (b:Int)).toNat=a ^^^ b:=e;simp only [di,if_true];rw [e2,eP,eV (by omega) (by omega)]
theorem yB {n k:Nat} (h:0<n / 2 ^ k):bitsLen n=k+bitsLen (n / 2 ^ k):=by
 have hp:0<2 ^ k:=wB k;have hn:2 ^ k<=n:=by
  rcases bH n (2 ^ k) with h1 | h1
  . rw [Nat.div_eq_of_lt h1] at h;omega
  . exact h1
 apply Nat.le_antisymm
 . rw [bitsLen_le_iff,Nat.pow_add];have h1:=lt_two_pow_bitsLen (n / 2 ^ k);have h2:=Nat.div_lt_iff_lt_mul hp (x:=n) (y:=2 ^ bitsLen (n / 2 ^ k));rw [Nat.mul_comm];exact h2.1 h1
 . have h1:=lt_two_pow_bitsLen n;have hk:k<bitsLen n:=by
    rcases bH k (bitsLen n) with h2 | h2
    . exact h2
    . have:=(bitsLen_le_iff n k).1 h2;omega
   have h2:bitsLen (n / 2 ^ k)<=bitsLen n-k:=by rw [bitsLen_le_iff,Nat.div_lt_iff_lt_mul hp,<- Nat.pow_add,show bitsLen n-k+k=bitsLen n by omega];exact h1
   omega
section
variable {h:AHeap} {id q:Nat} {d:Array Int} {room:Option (Nat×Nat)} {c:Cap} {i j k n:Nat}
theorem FQ (h:AHeap):∀ x:Nat,x<256->natA h 6 (.str ⟨#[0,1,2,2,3,3,3,3,4,4,4,4,4,4,4,4,5,5,5,5,5,5,5,5,5,5,5,5,5,5,5,5,6,6,6,6,6,6,6,6,6,6,6,6,6,6,6,6,6,6,6,6,6,6,6,6,6,6,6,6,6,6,6,6,7,7,7,7,7,7,7,7,7,7,7,7,7,7,7,7,7,7,7,7,7,7,7,7,7,7,7,7,7,7,7,7,7,7,7,7,7,7,7,7,7,7,7,7,7,7,7,7,7,7,7,7,7,7,7,7,7,7,7,7,7,7,7,7,8,8,8,8,8,8,8,8,8,8,8,8,8,8,8,8,8,8,8,8,8,8,8,8,8,8,8,8,8,8,8,8,8,8,8,8,8,8,8,8,8,8,8,8,8,8,8,8,8,8,8,8,8,8,8,8,8,8,8,8,8,8,8,8,8,8,8,8,8,8,8,8,8,8,8,8,8,8,8,8,8,8,8,8,8,8,8,8,8,8,8,8,8,8,8,8,8,8,8,8,8,8,8,8,8,8,8,8,8,8,8,8,8,8,8,8,8,8,8,8,8,8,8,8,8,8,8,8]⟩) (.int .u8 (x:Int))=some (.int .u8 ((bitsLen x:Nat):Int),h):=by
 intro x hx;have key:∀ x:Nat,x<256->((⟨#[0,1,2,2,3,3,3,3,4,4,4,4,4,4,4,4,5,5,5,5,5,5,5,5,5,5,5,5,5,5,5,5,6,6,6,6,6,6,6,6,6,6,6,6,6,6,6,6,6,6,6,6,6,6,6,6,6,6,6,6,6,6,6,6,7,7,7,7,7,7,7,7,7,7,7,7,7,7,7,7,7,7,7,7,7,7,7,7,7,7,7,7,7,7,7,7,7,7,7,7,7,7,7,7,7,7,7,7,7,7,7,7,7,7,7,7,7,7,7,7,7,7,7,7,7,7,7,7,8,8,8,8,8,8,8,8,8,8,8,8,8,8,8,8,8,8,8,8,8,8,8,8,8,8,8,8,8,8,8,8,8,8,8,8,8,8,8,8,8,8,8,8,8,8,8,8,8,8,8,8,8,8,8,8,8,8,8,8,8,8,8,8,8,8,8,8,8,8,8,8,8,8,8,8,8,8,8,8,8,8,8,8,8,8,8,8,8,8,8,8,8,8,8,8,8,8,8,8,8,8,8,8,8,8,8,8,8,8,8,8,8,8,8,8,8,8,8,8,8,8,8,8,8,8,8,8]⟩:ByteArray).data[x]?).map (fun b=>b.toNat)=some (bitsLen x):=by decide +kernel
 have e:=key x hx;have ⟨b,hb,hb2⟩:=ae.1 e;simp only [natA];rw [pQ,aC,hb,<- hb2];rfl
theorem MS (h:AHeap) {n:Nat} (hn:n<=10000000):run T 222 [uQ (n:Int)] h=some (iQ ((bitsLen n:Nat):Int),h):=by
 refine run_eq V8 ?_;have c0:¬ (4294967296:Int)<=(n:Int):=by omega
 have bl:∀ x:Nat,x<256->bitsLen x<=8:=fun x hx=>(bitsLen_le_iff x 8).2 (by omega);have tw:∀ x:Nat,x<256->IntKind.wrap .u8 (x:Int)=(x:Int):=fun x hx=>by simp [IntKind.wrap,IntKind.signed,IntKind.bits];omega
 by_cases h16:65536<=n
 . have c1:(65536:Int)<=(n:Int):=by omega
   have e1:=iF n 16 (by omega) .u64;obtain ⟨m,hm⟩:∃ m,m=n / 2 ^ 16:=⟨_,rfl⟩
   rw [<- hm] at e1;have hm2:m<256:=by rw [hm];omega
   have hm1:0<m:=by rw [hm];omega
   have hb:bitsLen n=16+bitsLen m:=by rw [hm];exact yB (by rw [<- hm];exact hm1)
   have c2:¬ (256:Int)<=(m:Int):=by omega
   have t:=FQ h m hm2;have b8:=bl m hm2;have w1:wQ ((bitsLen m:Nat):Int)=((bitsLen m:Nat):Int):=rQ;have w2:wQ (16+((bitsLen m:Nat):Int))=((bitsLen n:Nat):Int):=zQ
   have e1:di .shr (uQ (n:Int)) (uQ 16)=some (uQ (m:Int)):=e1;simp [NZ,c0,c1,e1,c2,tw m hm2,t,w1,w2,show wQ 16=16 from rfl]
 . have c1:¬ (65536:Int)<=(n:Int):=by omega
   by_cases h8:256<=n
   . have c2:(256:Int)<=(n:Int):=by omega
     have e1:=iF n 8 (by omega) .u64;obtain ⟨m,hm⟩:∃ m,m=n / 2 ^ 8:=⟨_,rfl⟩
     rw [<- hm] at e1;have hm2:m<256:=by rw [hm];omega
     have hm1:0<m:=by rw [hm];omega
     have hb:bitsLen n=8+bitsLen m:=by rw [hm];exact yB (by rw [<- hm];exact hm1)
     have t:=FQ h m hm2;have b8:=bl m hm2;have w1:wQ ((bitsLen m:Nat):Int)=((bitsLen m:Nat):Int):=rQ;have w2:wQ (8+((bitsLen m:Nat):Int))=((bitsLen n:Nat):Int):=zQ
     have e1:di .shr (uQ (n:Int)) (uQ 8)=some (uQ (m:Int)):=e1;simp [NZ,c0,c1,e1,c2,tw m hm2,t,w1,w2,show wQ 8=8 from rfl]
   . have c2:¬ (256:Int)<=(n:Int):=by omega
     have hm2:n<256:=by omega
     have t:=FQ h n hm2;have b8:=bl n hm2;have w1:wQ ((bitsLen n:Nat):Int)=((bitsLen n:Nat):Int):=rQ;simp [NZ,c0,c1,c2,tw n hm2,t,w1]
theorem MQ (h:AHeap) {n:Nat} (hn:n<=10000000):run T 210 [uQ (n:Int)] h=some (iQ ((bitsLen n:Nat):Int),h):=by refine run_eq Wj ?_;simp [S9,MS h hn]
theorem Bz {n:Nat} (hn:n<=10000000):IntKind.wrap .u64 (n:Int)=(n:Int):=by rw [eP];omega
theorem RU (h:AHeap) {n:Nat} (hn:n<=10000000):run T 224 [iQ (n:Int)] h=some (uQ ((1 <<< bitsLen n:Nat):Int),h):=by refine run_eq V6 ?_;have hb:bitsLen n<=24:=(bitsLen_le_iff n 24).2 (by omega);have e:=BY 1 (bitsLen n) (by omega) .i64;have hp:2 ^ bitsLen n<=2 ^ 24:=Ad (by omega) hb;rw [Nat.one_mul,bL (by omega),<- Nat.one_shiftLeft] at e;have e:di .shl (uQ 1) (iQ ((bitsLen n:Nat):Int))=some (uQ ((1 <<< bitsLen n:Nat):Int)):=e;simp [SV,Bz hn,MQ h hn,e]
theorem vV (h:AHeap) {x:Nat} (hx:x<2 ^ 64) (hQ:h.get q=some (Qc [uQ (x:Int)] none)):∃ h',run T 225 [.ptr q 0] h=some (uQ ((xorNextN x:Nat):Int),h')/\h'.get q=some (Qc [uQ ((xorNextN x:Nat):Int)] none)/\Keep [q] h h':=by
 obtain ⟨a1,ha1⟩:∃ a1,a1=x*8192 % 18446744073709551616:=⟨_,rfl⟩
 obtain ⟨a,ha⟩:∃ a,a=x ^^^ a1:=⟨_,rfl⟩
 obtain ⟨b1,hb1⟩:∃ b1,b1=a / 128:=⟨_,rfl⟩
 obtain ⟨b,hb⟩:∃ b,b=a ^^^ b1:=⟨_,rfl⟩
 obtain ⟨c1,hc1⟩:∃ c1,c1=b*131072 % 18446744073709551616:=⟨_,rfl⟩
 have la1:a1<2 ^ 64:=by rw [ha1];omega
 have la:a<2 ^ 64:=by rw [ha];exact lh hx la1
 have lb1:b1<2 ^ 64:=by rw [hb1];omega
 have lb:b<2 ^ 64:=by rw [hb];exact lh la lb1
 have lc1:c1<2 ^ 64:=by rw [hc1];omega
 have hr:xorNextN x=b ^^^ c1:=by unfold xorNextN;simp [<- ha1,<- ha,<- hb1,<- hb,<- hc1]
 have s1:di .shl (uQ (x:Int)) (uQ 13)=some (uQ (a1:Int)):=by rw [ha1];exact BY x 13 (by omega) .u64
 have x1:=rE x a1 hx la1;rw [<- ha] at x1;have s2:di .shr (uQ (a:Int)) (uQ 7)=some (uQ (b1:Int)):=by rw [hb1];exact iF a 7 (by omega) .u64
 have x2:=rE a b1 la lb1;rw [<- hb] at x2;have s3:di .shl (uQ (b:Int)) (uQ 17)=some (uQ (c1:Int)):=by rw [hc1];exact BY b 17 (by omega) .u64
 have x3:=rE b c1 lb lc1;rw [<- hr] at x3;have g1:(h.put q (Qc [uQ (a:Int)] none)).get q=some (Qc [uQ (a:Int)] none):=by rw [get_put_same,hQ];rfl
 have g2:((h.put q (Qc [uQ (a:Int)] none)).put q (Qc [uQ (b:Int)] none)).get q=some (Qc [uQ (b:Int)] none):=by rw [get_put_same,g1];rfl
 have g3:(((h.put q (Qc [uQ (a:Int)] none)).put q (Qc [uQ (b:Int)] none)).put q (Qc [uQ ((xorNextN x:Nat):Int)] none)).get q=some (Qc [uQ ((xorNextN x:Nat):Int)] none):=by rw [get_put_same,g2];rfl
 have w1:writeOf h q (some (Qc [uQ (x:Int)] none)) 0 [uQ (a:Int)]=some (h.put q (Qc [uQ (a:Int)] none)):=by rw [Lo (by simp) rfl];rfl
 have w2:writeOf (h.put q (Qc [uQ (a:Int)] none)) q (some (Qc [uQ (a:Int)] none)) 0 [uQ (b:Int)]=some ((h.put q (Qc [uQ (a:Int)] none)).put q (Qc [uQ (b:Int)] none)):=by rw [Lo (by simp) rfl];rfl
 have w3:writeOf ((h.put q (Qc [uQ (a:Int)] none)).put q (Qc [uQ (b:Int)] none)) q (some (Qc [uQ (b:Int)] none)) 0 [uQ ((xorNextN x:Nat):Int)]=some (((h.put q (Qc [uQ (a:Int)] none)).put q (Qc [uQ (b:Int)] none)).put q (Qc [uQ ((xorNextN x:Nat):Int)] none)):=by rw [Lo (by simp) rfl];rfl
 obtain ⟨h1,e1⟩:∃ h1,h1=h.put q (Qc [uQ (a:Int)] none):=⟨_,rfl⟩
 have k1:Keep [q] h h1:=by rw [e1];exact Keep.put (by simp)
 rw [<- e1] at g1 g2 g3 w1 w2 w3;obtain ⟨h2,e2⟩:∃ h2,h2=h1.put q (Qc [uQ (b:Int)] none):=⟨_,rfl⟩
 have k2:Keep [q] h1 h2:=by rw [e2];exact Keep.put (by simp)
 rw [<- e2] at g2 g3 w2 w3;obtain ⟨h3,e3⟩:∃ h3,h3=h2.put q (Qc [uQ ((xorNextN x:Nat):Int)] none):=⟨_,rfl⟩
 have k3:Keep [q] h2 h3:=by rw [e3];exact Keep.put (by simp)
 rw [<- e3] at g3 w3;refine ⟨h3,run_eq V5 ?_,g3,(k1.trans' k2).trans' k3⟩;simp [SU,hQ,s1,x1,w1,g1,s2,x2,w2,g2,s3,x3,w3,g3,ad]
def NJ (a l m:Nat):Nat->UInt64×Array Int->Nat->UInt64×Array Int
 | 0,st,_=>st
 | n+1,st,idx=>NJ a l m n (breakStep a l m st idx) (idx+1)
def XS (h:AHeap) (id q:Nat) (room:Option (Nat×Nat)) (c:Cap) (d:Array Int) (a l m:Nat) (r:Array Int) (n:Nat) (fr:FF) (g:AHeap):Prop:=∃ (x:UInt64) (d2:Array Int),n<=3/\(NJ a l m n (x,d2) (a+l / 4*2+2-n)).2=r/\d2.size=d.size/\g.get id=some (.cells false (dK d2) room)/\g.get q=some (.cells false [.int .u64 ((x.toNat:Nat):Int)] none)/\Keep [id] h g/\fr.get 0=.slice id 0 d.size c/\fr.get 1=.int .i64 (a:Int)/\fr.get 6=.int .i64 (l:Int)/\fr.get 7=.ptr q 0/\fr.get 8=.int .u64 (m:Int)/\fr.get 9=.int .i64 ((a+l / 4*2+2-n:Nat):Int)
theorem NK (hA:h.get id=some (Qc (dK d) room)) {a b:Nat} (hab:a+8<=b) (hb:b<=d.size) (hd:d.size<=1000000):∃ h',run T 214 [.slice id 0 d.size c,iQ (a:Int),iQ (b:Int)] h=some (.tuple [],h')/\h'.get id=some (Qc (dK (breakPatterns d a b)) room)/\Keep [id] h h':=by
 obtain ⟨l,hl⟩:∃ l,l=b-a:=⟨_,rfl⟩
 obtain ⟨m,hm⟩:∃ m,m=1 <<< bitsLen l:=⟨_,rfl⟩
 have hid:=get_lt hA;have hgoal:breakPatterns d a b=(NJ a l m 3 (UInt64.ofNat l,d) (a+l / 4*2+2-3)).2:=by unfold breakPatterns;simp [<- hl,<- hm];rw [pQ];rfl
 rw [hgoal]
 obtain ⟨rr,hrr⟩:∃ rr,rr=(NJ a l m 3 (UInt64.ofNat l,d) (a+l / 4*2+2-3)).2:=⟨_,rfl⟩
 rw [<- hrr];have m2:l<m/\m<=2*l:=by rw [hm,Nat.one_shiftLeft];exact ⟨lt_two_pow_bitsLen l,two_pow_bitsLen_le (by omega)⟩
 refine run_val Wf ?_;have w0:wQ ((b:Int)-(a:Int))=(l:Int):=zQ
 have h8:(8:Int)<=(l:Int):=by omega
 have wl:IntKind.wrap .u64 (l:Int)=(l:Int):=Bz (by omega)
 obtain ⟨l4,hl4⟩:∃ l4,l4=l / 4:=⟨_,rfl⟩
 have t4:Int.tdiv (l:Int) 4=(l4:Int):=by rw [hl4];exact (mw l 4).symm
 have w4:wQ (l4:Int)=(l4:Int):=rQ;have wm2:wQ ((l4:Int)*2)=((l4*2:Nat):Int):=zQ
 obtain ⟨z2,hz2⟩:∃ z:Int,z=((l4*2:Nat):Int):=⟨_,rfl⟩
 rw [<- hz2] at wm2;have wa:wQ ((a:Int)+z2)=((a+l4*2:Nat):Int):=zQ
 obtain ⟨za,hza⟩:∃ z:Int,z=((a+l4*2:Nat):Int):=⟨_,rfl⟩
 rw [<- hza] at wa;have wa1:wQ (za-1)=((a+l4*2+2-3:Nat):Int):=zQ
 have wa2:wQ (za+1)=((a+l4*2+1:Nat):Int):=zQ
 obtain ⟨zi,hzi⟩:∃ z:Int,z=((a+l4*2+2-3:Nat):Int):=⟨_,rfl⟩
 rw [<- hzi] at wa1
 obtain ⟨ze,hze⟩:∃ z:Int,z=((a+l4*2+1:Nat):Int):=⟨_,rfl⟩
 rw [<- hze] at wa2
 obtain ⟨h0,hh0⟩:∃ h0,h0=h.push (Qc [uQ (l:Int)] none):=⟨_,rfl⟩
 have k0:Keep [id] h h0:=by rw [hh0];exact Keep.push
 have k00:Keep [] h h0:=by rw [hh0];exact Keep.push
 have q0:h0.get h.size=some (Qc [uQ (l:Int)] none):=by rw [hh0];exact ak
 have w1:writeOf (h.push (Qc [uQ 0] none)) h.size (some (Qc [uQ 0] none)) 0 [uQ (l:Int)]=some h0:=by rw [hh0];exact push_write rfl rfl
 have ep:=RU h0 (n:=l) (by omega);rw [<- hm] at ep;have hu:(UInt64.ofNat l).toNat=l:=by rw [UInt64.toNat_ofNat'];exact bL (by omega)
 simp [-push_write,-writeOf_some,-getElem?_pos,S5,w0,h8,wl,w1,ep,t4,w4,wm2,wa,wa1];refine Wp.loop (XS h id h.size room c d a l m rr) 3 lQ ?_ ?_
 . exact ⟨UInt64.ofNat l,d,by omega,hrr.symm,rfl,k00.obj hA (by simp),by rw [hu];exact q0,k0,by simp,by simp,by simp,by simp,by simp,by simp [hzi,hl4]⟩
 rintro n fr g ⟨x,d2,hn3,hr,hsz,gA,gq,k,s0,s1,s6,s7,s8,s9⟩;rw [<- hl4] at hr s9
 obtain ⟨ix_,hix⟩:∃ z,z=a+l4*2+2-n:=⟨_,rfl⟩
 rw [<- hix] at hr s9
 cases n with
 | zero=>
  have hle:¬ (ix_:Int)<=ze:=by omega
  simp [-getElem?_pos,s1,s6,s9,t4,w4,wm2,wa,wa2,hle];exact ⟨by rw [gA,<- hr];rfl,k⟩
 | succ n=>
  have hle:(ix_:Int)<=ze:=by omega
  have ⟨g1,e1,gq1,k1⟩:=vV g (x:=x.toNat) x.toNat_lt gq;rw [<- xorNext_toNat] at e1 gq1
  obtain ⟨y,hy⟩:∃ y,y=xorNext x:=⟨_,rfl⟩
  rw [<- hy] at e1 gq1;have hne:id≠h.size:=by omega
  have gA1:=k1.obj gA (by simpa using hne);have wm1:IntKind.wrap .u64 ((m:Int)-1)=((m-1:Nat):Int):=by rw [eP];omega
  have ea:=ld y.toNat (m-1) (by omega)
  obtain ⟨o1,ho1⟩:∃ o1,o1=y.toNat &&& (m-1):=⟨_,rfl⟩
  have ho1l:o1<=m-1:=by rw [ho1];exact gy
  rw [<- ho1] at ea
  obtain ⟨zm,hzm⟩:∃ z:Int,z=((m-1:Nat):Int):=⟨_,rfl⟩
  rw [<- hzm] at wm1 ea;have wo1:wQ (o1:Int)=(o1:Int):=rQ
  obtain ⟨o2,ho2⟩:∃ o2,o2=if o1>=l then o1-l else o1:=⟨_,rfl⟩
  have ho2l:o2<l:=by rw [ho2];split<;>omega
  have hstep:breakStep a l m (x,d2) ix_=(y,swp d2 ix_ (a+o2)):=by unfold breakStep;simp [<- hy,<- ho1,<- ho2]
  have wo2:wQ ((a:Int)+(o2:Int))=((a+o2:Nat):Int):=zQ
  obtain ⟨zo,hzo⟩:∃ z:Int,z=((a+o2:Nat):Int):=⟨_,rfl⟩
  rw [<- hzo] at wo2;have ⟨hm',g2,d1,x1,x2,x3,x4,x5⟩:=swap_ok gA1 (i:=ix_) (j:=a+o2) (by omega) (by omega);have ii:=ix (id:=id) (c:=c) (k:=ix_) (n:=d.size) (by omega);have ij:=ix (id:=id) (c:=c) (k:=a+o2) (n:=d.size) (by omega);rw [<- hzo] at ij;have ci:=cC (d:=d2) (k:=ix_) (by omega);have cj:=cC (d:=d2) (k:=a+o2) (by omega);have wx:IntKind.wrap .i64 ((ix_:Int)+1)=((ix_+1:Nat):Int):=zQ
  obtain ⟨zx,hzx⟩:∃ z:Int,z=((ix_+1:Nat):Int):=⟨_,rfl⟩
  rw [<- hzx] at wx;have fin:∀ fr':FF,fr'.get 0=.slice id 0 d.size c->fr'.get 1=iQ (a:Int)->fr'.get 6=iQ (l:Int)->fr'.get 7=.ptr h.size 0->fr'.get 8=uQ (m:Int)->fr'.get 9=iQ zx->∃ n',n'<n+1/\XS h id h.size room c d a l m rr n' fr' g2:=fun fr' q0 q1 q6 q7 q8 q9=>by
   refine ⟨n,by omega,y,swp d2 ix_ (a+o2),by omega,?_,by rw [swp_size];exact hsz,x4,x5.obj gq1 (by simpa using hne.symm),(k.trans k1 (fun t ht=>dx (by simp at ht;omega))).trans' x5,q0,q1,q6,q7,q8,?_⟩
   . rw [<- hr,NJ,hstep,<- hl4,show a+l4*2+2-n=ix_+1 by omega]
   . rw [q9,hzx,<- hl4,show a+l4*2+2-n=ix_+1 by omega]
  by_cases hge:l<=o1
  . have hge':(l:Int)<=(o1:Int):=by omega
    have wsub:IntKind.wrap .i64 ((o1:Int)-(l:Int))=(o2:Int):=by rw [ho2,if_pos hge,iq (by omega) (by omega)];omega
    simp [-writeOf_some,-getElem?_pos,s0,s1,s6,s7,s8,s9,t4,w4,wm2,wa,wa2,hle,e1,wm1,ea,wo1,hge',wsub,wo2,ii,ij,gA1,ci,cj,x1,x2,x3,wx];exact fin _ (by simp [s0]) (by simp [s1]) (by simp [s6]) (by simp [s7]) (by simp [s8]) (by simp)
  . have hge':¬ (l:Int)<=(o1:Int):=by omega
    have eo:o2=o1:=by rw [ho2,if_neg hge]
    rw [eo] at wo2;simp [-writeOf_some,-getElem?_pos,s0,s1,s6,s7,s8,s9,t4,w4,wm2,wa,wa2,hle,e1,wm1,ea,wo1,hge',wo2,ii,ij,gA1,ci,cj,x1,x2,x3,wx];exact fin _ (by simp [s0]) (by simp [s1]) (by simp [s6]) (by simp [s7]) (by simp [s8]) (by simp)
end
end
section
open Go.Sort
section
variable {h:AHeap} {id q:Nat} {d:Array Int} {room:Option (Nat×Nat)} {c:Cap} {i j k n:Nat}
def VL (g0:AHeap) (sI sJ:Nat) (id:Nat) (c:Cap) (sz a:Nat) (p:Int->Bool) (d:Array Int) (j i0:Nat) (n:Nat) (fr:FF) (g:AHeap):Prop:=∃ i2:Nat,j+1-i2=n/\i0<=i2/\(i2<=j+1\/i2=i0)/\scanUp p d j i2=scanUp p d j i0/\g0=g/\fr.get 0=.slice id 0 sz c/\fr.get 1=.int .i64 (a:Int)/\fr.get sI=.int .i64 (i2:Int)/\fr.get sJ=.int .i64 (j:Int)
def Fx (g0:AHeap) (sI sJ:Nat) (id:Nat) (c:Cap) (sz a:Nat) (p:Int->Bool) (d:Array Int) (i j0:Nat) (n:Nat) (fr:FF) (g:AHeap):Prop:=n<=j0/\scanDown p d i n=scanDown p d i j0/\g0=g/\fr.get 0=.slice id 0 sz c/\fr.get 1=.int .i64 (a:Int)/\fr.get sI=.int .i64 (i:Int)/\fr.get sJ=.int .i64 (n:Int)
def Bq (g0:AHeap) (sI sJ:Nat) (id:Nat) (c:Cap) (sz a:Nat) (i j:Nat) (fr:FF) (g:AHeap):Prop:=g0=g/\fr.get 0=.slice id 0 sz c/\fr.get 1=.int .i64 (a:Int)/\fr.get sI=.int .i64 (i:Int)/\fr.get sJ=.int .i64 (j:Int)
theorem pT {p:Int->Bool} {d:Array Int} {j i:Nat} (h:i<=j) (hp:p d[i]! = true):scanUp p d j (i+1)=scanUp p d j i:=by
 conv=>rhs;unfold scanUp
 rw [if_pos (by simp [h,hp])]
theorem iB {p:Int->Bool} {d:Array Int} {j i:Nat} (h:¬ i<=j\/p d[i]! = false):scanUp p d j i=i:=by
 unfold scanUp;rcases h with h | h
 . rw [if_neg (by simp;intro h2;omega)]
 . rw [if_neg (by simp [h])]
theorem pb {p:Int->Bool} {d:Array Int} {j i:Nat} (h:i<=j+1) (hp:p d[j+1]! = true):scanDown p d i j=scanDown p d i (j+1):=by
 conv=>rhs;unfold scanDown
 rw [if_pos (by simp [h,hp])]
theorem iG {p:Int->Bool} {d:Array Int} {j i:Nat} (h:¬ i<=j\/p d[j]! = false):scanDown p d i j=j:=by
 cases j with
 | zero=>rfl
 | succ j=>
  unfold scanDown;rcases h with h | h
  . rw [if_neg (by simp;intro h2;omega)]
  . rw [if_neg (by simp [h])]
theorem pU (p:Int->Bool) (d:Array Int) (j:Nat):∀ (n i:Nat),j+1-i=n->scanUp p d j i<=j+1\/scanUp p d j i=i
 | 0,i,h=>.inr (iB (.inl (by omega)))
 | n+1,i,h=>by
  cases hp:p d[i]! with
  | true=>
   rw [<- pT (by omega) hp];rcases pU p d j n (i+1) (by omega) with h1 | h1
   . exact .inl h1
   . left;omega
  | false=>exact .inr (iB (.inr hp))
def aap (h:AHeap) (id:Nat) (room:Option (Nat×Nat)) (c:Cap) (d:Array Int) (a b:Nat) (r:Nat×Array Int) (n:Nat) (fr:FF) (g:AHeap):Prop:=∃ (i j:Nat) (d2:Array Int),j+1-i=n/\a<i/\i<=b+1/\j<b/\partEqLoop ltInt a i j d2=r/\d2.size=d.size/\g.get id=some (.cells false (dK d2) room)/\Keep [id] h g/\fr.get 0=.slice id 0 d.size c/\fr.get 1=.int .i64 (a:Int)/\fr.get 9=.int .i64 (i:Int)/\fr.get 10=.int .i64 (j:Int)
theorem J8 (hA:h.get id=some (Qc (dK d) room)) {a b p:Nat} (hab:a<b) (hp:p<b) (hb:b<=d.size) (hd:d.size<=1000000):∃ h',run T 219 [.slice id 0 d.size c,iQ (a:Int),iQ (b:Int),iQ (p:Int)] h=some (iQ ((partitionEqual ltInt d a b p).1:Int),h')/\h'.get id=some (Qc (dK (partitionEqual ltInt d a b p).2) room)/\Keep [id] h h':=by
 obtain ⟨rr,hrr⟩:∃ rr,rr=partitionEqual ltInt d a b p:=⟨_,rfl⟩
 rw [<- hrr];have ⟨hm0,h1,d1,x1,x2,x3,x4,x5⟩:=swap_ok hA (i:=a) (j:=p) (by omega) (by omega);have ia:=ix (id:=id) (c:=c) (k:=a) (n:=d.size) (by omega);have ip:=ix (id:=id) (c:=c) (k:=p) (n:=d.size) (by omega);have ca:=cC (d:=d) (k:=a) (by omega);have cp:=cC (d:=d) (k:=p) (by omega);have w1:wQ ((a:Int)+1)=((a+1:Nat):Int):=zQ
 have w2:wQ ((b:Int)-1)=((b-1:Nat):Int):=zQ
 obtain ⟨za,hza⟩:∃ z,z=a+1:=⟨_,rfl⟩
 obtain ⟨zb,hzb⟩:∃ z,z=b-1:=⟨_,rfl⟩
 rw [<- hza] at w1;rw [<- hzb] at w2;refine run_val Wa ?_;simp [SY,ia,ip,hA,ca,cp,x1,x2,x3,w1,w2];refine Wp.loop (aap h id room c d a b rr) (zb+1-za) lQ ?_ ?_
 . exact ⟨za,zb,swp d a p,rfl,by omega,by omega,by omega,by rw [hrr,partitionEqual,hza,hzb],swp_size _ _ _,x4,x5,by simp,by simp,by simp,by simp⟩
 clear x1 x2 x3 x4 x5 ca cp w1 w2 hrr;rintro n fr g ⟨i,j,d2,hn,hai,hib,hjb,hr,hsz,gA,k,s0,s1,sI,sJ⟩;have ca:=cC (d:=d2) (k:=a) (by omega);simp [-getElem?_pos];refine Wp.mono (Q:=fun x fr' g'=>x=.exit 2/\Bq g 9 10 id c d.size a (scanUp (fun x=>!ltInt d2[a]! x) d2 j i) j fr' g') (Wp.loop (VL g 9 10 id c d.size a (fun x=>!ltInt d2[a]! x) d2 j i) (j+1-i) lQ ⟨i,rfl,aq _,.inr rfl,rfl,rfl,s0,s1,sI,sJ⟩ ?_) ?_
 . rintro n1 fr1 g1 ⟨i2,hn1,hi2,hi2b,hsc,rfl,q0,q1,qI,qJ⟩;by_cases hij:i2<=j
   . have hij':(i2:Int)<=(j:Int):=by omega
     have ii:=ix (id:=id) (c:=c) (k:=i2) (n:=d.size) (by omega);have ci:=cC (d:=d2) (k:=i2) (by omega);have l:=fS g d2[a]! d2[i2]!;cases hl:ltInt d2[a]! d2[i2]! with
     | false=>
      rw [hl] at l;have w:wQ ((i2:Int)+1)=((i2+1:Nat):Int):=zQ
      obtain ⟨z,hz⟩:∃ z:Int,z=((i2+1:Nat):Int):=⟨_,rfl⟩
      rw [<- hz] at w;simp [q0,q1,qI,qJ,hij',ia,ii,gA,ca,ci,l,w];exact ⟨j+1-(i2+1),by omega,i2+1,rfl,by omega,by omega,by rw [pT hij (by simp [hl])];exact hsc,rfl,by simp [q0],by simp [q1],by simp [hz],by simp [qJ]⟩
     | true=>rw [hl] at l;simp [q0,q1,qI,qJ,hij',ia,ii,gA,ca,ci,l];exact ⟨rfl,by simp [q0],by simp [q1],by rw [<- hsc,iB (.inr (by simp [hl]))];simp [qI],by simp [qJ]⟩
   . have hij':¬ (i2:Int)<=(j:Int):=by omega
     simp [qI,qJ,hij'];exact ⟨rfl,by simp [q0],by simp [q1],by rw [<- hsc,iB (.inl hij)];simp [qI],by simp [qJ]⟩
 clear s0 s1 sI sJ;rintro _ fr g1 ⟨rfl,rfl,s0,s1,sI,sJ⟩;have e1:=partEqLoop_eq ltInt a i j d2;rw [hr] at e1;have ge:=scanUp_ge (fun x=>!ltInt d2[a]! x) d2 j i;have le:=pU (fun x=>!ltInt d2[a]! x) d2 j _ i rfl;generalize hi2:scanUp (fun x=>!ltInt d2[a]! x) d2 j i=i2 at *;simp [-getElem?_pos];refine Wp.mono (Q:=fun x fr' g'=>x=.exit 4/\Bq g 9 10 id c d.size a i2 (scanDown (fun x=>ltInt d2[a]! x) d2 i2 j) fr' g') (Wp.loop (Fx g 9 10 id c d.size a (fun x=>ltInt d2[a]! x) d2 i2 j) j lQ ⟨aq _,rfl,rfl,s0,s1,sI,sJ⟩ ?_) ?_
 . rintro m0 fr1 g1 ⟨hn1,hsc,rfl,q0,q1,qI,qJ⟩;by_cases hij:i2<=m0
   . obtain ⟨m,rfl⟩:∃ m,m0=m+1:=⟨m0-1,by omega⟩
     obtain ⟨z,hz⟩:∃ z:Int,z=((m+1:Nat):Int):=⟨_,rfl⟩
     rw [<- hz] at qJ;have hij':(i2:Int)<=z:=by omega
     have ii:=ix (id:=id) (c:=c) (k:=m+1) (n:=d.size) (by omega);rw [<- hz] at ii;have ci:=cC (d:=d2) (k:=m+1) (by omega);have l:=fS g d2[a]! d2[m+1]!;cases hl:ltInt d2[a]! d2[m+1]! with
     | true=>
      rw [hl] at l;have w:wQ (z-1)=(m:Int):=zQ
      simp [q0,q1,qI,qJ,hij',ia,ii,gA,ca,ci,l,w];exact ⟨m,by omega,by omega,by rw [pb hij (by simp [hl])];exact hsc,rfl,by simp [q0],by simp [q1],by simp [qI],by simp⟩
     | false=>rw [hl] at l;simp [q0,q1,qI,qJ,hij',ia,ii,gA,ca,ci,l];exact ⟨rfl,by simp [q0],by simp [q1],by simp [qI],by rw [<- hsc,iG (.inr (by simp [hl]))];simp [qJ,hz]⟩
   . have hij':¬ (i2:Int)<=(m0:Int):=by omega
     simp [qI,qJ,hij'];exact ⟨rfl,by simp [q0],by simp [q1],by simp [qI],by rw [<- hsc,iG (.inl hij)];simp [qJ]⟩
 clear s0 s1 sI sJ;rintro _ fr g1 ⟨rfl,rfl,s0,s1,sI,sJ⟩;have le2:=scanDown_le (fun x=>ltInt d2[a]! x) d2 i2 j;generalize hj2:scanDown (fun x=>ltInt d2[a]! x) d2 i2 j=j2 at *;by_cases hij:j2<i2
 . have hij':(j2:Int)<(i2:Int):=by omega
   rw [if_pos hij] at e1;simp [sI,sJ,hij'];exact ⟨by rw [e1],by rw [gA,e1],k⟩
 . have hij':¬ (j2:Int)<(i2:Int):=by omega
   rw [if_neg hij] at e1;have ⟨hm',g2,d1,x1,x2,x3,x4,x5⟩:=swap_ok gA (i:=i2) (j:=j2) (by omega) (by omega);have ii:=ix (id:=id) (c:=c) (k:=i2) (n:=d.size) (by omega);have ij:=ix (id:=id) (c:=c) (k:=j2) (n:=d.size) (by omega);have ci:=cC (d:=d2) (k:=i2) (by omega);have cj:=cC (d:=d2) (k:=j2) (by omega);have w1:wQ ((i2:Int)+1)=((i2+1:Nat):Int):=zQ
   have w2:wQ ((j2:Int)-1)=((j2-1:Nat):Int):=zQ
   obtain ⟨z1,hz1⟩:∃ z:Int,z=((i2+1:Nat):Int):=⟨_,rfl⟩
   obtain ⟨z2,hz2⟩:∃ z:Int,z=((j2-1:Nat):Int):=⟨_,rfl⟩
   rw [<- hz1] at w1;rw [<- hz2] at w2;simp [s0,sI,sJ,hij',ii,ij,gA,ci,cj,x1,x2,x3,w1,w2];exact ⟨j2-1+1-(i2+1),by omega,i2+1,j2-1,swp d2 i2 j2,rfl,by omega,by omega,by omega,e1.symm,by rw [swp_size];exact hsz,x4,k.trans' x5,by simp [s0],by simp [s1],by simp [hz1],by simp [hz2]⟩
def XB (h:AHeap) (id:Nat) (room:Option (Nat×Nat)) (c:Cap) (d:Array Int) (a b:Nat) (r:Nat×Array Int) (n:Nat) (fr:FF) (g:AHeap):Prop:=∃ (i j:Nat) (d2:Array Int),j+1-i=n/\a<i/\i<=b+1/\j<b/\partLoop ltInt a i j d2=r/\d2.size=d.size/\g.get id=some (.cells false (dK d2) room)/\Keep [id] h g/\fr.get 0=.slice id 0 d.size c/\fr.get 1=.int .i64 (a:Int)/\fr.get 10=.int .i64 (i:Int)/\fr.get 11=.int .i64 (j:Int)
set_option maxHeartbeats 1000000 in
theorem O7 (hA:h.get id=some (Qc (dK d) room)) {a b p:Nat} (hab:a<b) (hp:p<b) (hb:b<=d.size) (hd:d.size<=1000000):∃ h',run T 220 [.slice id 0 d.size c,iQ (a:Int),iQ (b:Int),iQ (p:Int)] h=some (.tuple [iQ ((partition ltInt d a b p).1:Int),.bool (partition ltInt d a b p).2.1],h')/\h'.get id=some (Qc (dK (partition ltInt d a b p).2.2) room)/\Keep [id] h h':=by
 obtain ⟨rr,hrr⟩:∃ rr,rr=partition ltInt d a b p:=⟨_,rfl⟩
 rw [<- hrr];have ⟨hm0,h1,d1,x1,x2,x3,x4,x5⟩:=swap_ok hA (i:=a) (j:=p) (by omega) (by omega);have ia:=ix (id:=id) (c:=c) (k:=a) (n:=d.size) (by omega);have ip:=ix (id:=id) (c:=c) (k:=p) (n:=d.size) (by omega);have ca:=cC (d:=d) (k:=a) (by omega);have cp:=cC (d:=d) (k:=p) (by omega);have w1:wQ ((a:Int)+1)=((a+1:Nat):Int):=zQ
 have w2:wQ ((b:Int)-1)=((b-1:Nat):Int):=zQ
 obtain ⟨i,hza⟩:∃ z,z=a+1:=⟨_,rfl⟩
 obtain ⟨j,hzb⟩:∃ z,z=b-1:=⟨_,rfl⟩
 rw [<- hza] at w1;rw [<- hzb] at w2;refine run_val V9 ?_;simp [SX,ia,ip,hA,ca,cp,x1,x2,x3,w1,w2];obtain ⟨d2,hd2⟩:∃ d2,d2=swp d a p:=⟨_,rfl⟩
 have hsz:d2.size=d.size:=by rw [hd2];exact swp_size _ _ _
 rw [<- hd2] at x4;have gA:=x4;have k:=x5;unfold partition at hrr;simp [<- hd2,<- hza,<- hzb] at hrr;have ca:=cC (d:=d2) (k:=a) (by omega);generalize hfr:FF.set _ _ _=fr;have s0:fr.get 0=.slice id 0 d.size c:=by rw [<- hfr];simp
 have s1:fr.get 1=iQ (a:Int):=by rw [<- hfr];simp
 have sI:fr.get 10=iQ (i:Int):=by rw [<- hfr];simp
 have sJ:fr.get 11=iQ (j:Int):=by rw [<- hfr];simp
 clear hfr x1 x2 x3 x4 x5 hd2 cp w1 w2;generalize h1=g at *;refine Wp.mono (Q:=fun x fr' g'=>x=.exit 0/\Bq g 10 11 id c d.size a (scanUp (fun x=>ltInt x d2[a]!) d2 j i) j fr' g') (Wp.loop (VL g 10 11 id c d.size a (fun x=>ltInt x d2[a]!) d2 j i) (j+1-i) lQ ⟨i,rfl,aq _,.inr rfl,rfl,rfl,s0,s1,sI,sJ⟩ ?_) ?_
 . rintro n1 fr1 g1 ⟨i2,hn1,hi2,hi2b,hsc,rfl,q0,q1,qI,qJ⟩;by_cases hij:i2<=j
   . have hij':(i2:Int)<=(j:Int):=by omega
     have ii:=ix (id:=id) (c:=c) (k:=i2) (n:=d.size) (by omega);have ci:=cC (d:=d2) (k:=i2) (by omega);have l:=fS g d2[i2]! d2[a]!;cases hl:ltInt d2[i2]! d2[a]! with
     | true=>
      rw [hl] at l;have w:wQ ((i2:Int)+1)=((i2+1:Nat):Int):=zQ
      obtain ⟨z,hz⟩:∃ z:Int,z=((i2+1:Nat):Int):=⟨_,rfl⟩
      rw [<- hz] at w;simp [q0,q1,qI,qJ,hij',ia,ii,gA,ca,ci,l,w];exact ⟨j+1-(i2+1),by omega,i2+1,rfl,by omega,by omega,by rw [pT hij (by simp [hl])];exact hsc,rfl,by simp [q0],by simp [q1],by simp [hz],by simp [qJ]⟩
     | false=>rw [hl] at l;simp [q0,q1,qI,qJ,hij',ia,ii,gA,ca,ci,l];exact ⟨rfl,by simp [q0],by simp [q1],by rw [<- hsc,iB (.inr (by simp [hl]))];simp [qI],by simp [qJ]⟩
   . have hij':¬ (i2:Int)<=(j:Int):=by omega
     simp [qI,qJ,hij'];exact ⟨rfl,by simp [q0],by simp [q1],by rw [<- hsc,iB (.inl hij)];simp [qI],by simp [qJ]⟩
 clear s0 s1 sI sJ;rintro _ fr g1 ⟨rfl,rfl,s0,s1,sI,sJ⟩;have ge:=scanUp_ge (fun x=>ltInt x d2[a]!) d2 j i;have le:=pU (fun x=>ltInt x d2[a]!) d2 j _ i rfl;generalize hi2:scanUp (fun x=>ltInt x d2[a]!) d2 j i=i2 at *;simp [-getElem?_pos];refine Wp.mono (Q:=fun x fr' g'=>x=.exit 2/\Bq g 10 11 id c d.size a i2 (scanDown (fun x=>!ltInt x d2[a]!) d2 i2 j) fr' g') (Wp.loop (Fx g 10 11 id c d.size a (fun x=>!ltInt x d2[a]!) d2 i2 j) j lQ ⟨aq _,rfl,rfl,s0,s1,sI,sJ⟩ ?_) ?_
 . rintro m0 fr1 g1 ⟨hn1,hsc,rfl,q0,q1,qI,qJ⟩;by_cases hij:i2<=m0
   . obtain ⟨m,rfl⟩:∃ m,m0=m+1:=⟨m0-1,by omega⟩
     obtain ⟨z,hz⟩:∃ z:Int,z=((m+1:Nat):Int):=⟨_,rfl⟩
     rw [<- hz] at qJ;have hij':(i2:Int)<=z:=by omega
     have ii:=ix (id:=id) (c:=c) (k:=m+1) (n:=d.size) (by omega);rw [<- hz] at ii;have ci:=cC (d:=d2) (k:=m+1) (by omega);have l:=fS g d2[m+1]! d2[a]!;cases hl:ltInt d2[m+1]! d2[a]! with
     | false=>
      rw [hl] at l;have w:wQ (z-1)=(m:Int):=zQ
      simp [q0,q1,qI,qJ,hij',ia,ii,gA,ca,ci,l,w];exact ⟨m,by omega,by omega,by rw [pb hij (by simp [hl])];exact hsc,rfl,by simp [q0],by simp [q1],by simp [qI],by simp⟩
     | true=>rw [hl] at l;simp [q0,q1,qI,qJ,hij',ia,ii,gA,ca,ci,l];exact ⟨rfl,by simp [q0],by simp [q1],by simp [qI],by rw [<- hsc,iG (.inr (by simp [hl]))];simp [qJ,hz]⟩
   . have hij':¬ (i2:Int)<=(m0:Int):=by omega
     simp [qI,qJ,hij'];exact ⟨rfl,by simp [q0],by simp [q1],by simp [qI],by rw [<- hsc,iG (.inl hij)];simp [qJ]⟩
 clear s0 s1 sI sJ;rintro _ fr g1 ⟨rfl,rfl,s0,s1,sI,sJ⟩;have le2:=scanDown_le (fun x=>!ltInt x d2[a]!) d2 i2 j;generalize hj2:scanDown (fun x=>!ltInt x d2[a]!) d2 i2 j=j2 at *;have ij:=ix (id:=id) (c:=c) (k:=j2) (n:=d.size) (by omega);have cj:=cC (d:=d2) (k:=j2) (by omega);by_cases hij:j2<i2
 . have hij':(j2:Int)<(i2:Int):=by omega
   rw [if_pos hij] at hrr;have ⟨hm',g2,d1,x1,x2,x3,x4,x5⟩:=swap_ok gA (i:=j2) (j:=a) (by omega) (by omega);simp [s0,s1,sI,sJ,hij',ia,ij,gA,ca,cj,x1,x2,x3];exact ⟨by rw [hrr];simp,by rw [x4,hrr],k.trans' x5⟩
 have hij':¬ (j2:Int)<(i2:Int):=by omega
 rw [if_neg hij] at hrr;have ⟨hm',g2,d1,x1,x2,x3,x4,x5⟩:=swap_ok gA (i:=i2) (j:=j2) (by omega) (by omega);have ii:=ix (id:=id) (c:=c) (k:=i2) (n:=d.size) (by omega);have ci:=cC (d:=d2) (k:=i2) (by omega);have w1:wQ ((i2:Int)+1)=((i2+1:Nat):Int):=zQ
 have w2:wQ ((j2:Int)-1)=((j2-1:Nat):Int):=zQ
 obtain ⟨z1,hz1⟩:∃ z:Int,z=((i2+1:Nat):Int):=⟨_,rfl⟩
 obtain ⟨z2,hz2⟩:∃ z:Int,z=((j2-1:Nat):Int):=⟨_,rfl⟩
 rw [<- hz1] at w1;rw [<- hz2] at w2;simp [s0,sI,sJ,hij',ii,ij,gA,ci,cj,x1,x2,x3,w1,w2];obtain ⟨pr,hpr⟩:∃ pr,pr=partLoop ltInt a (i2+1) (j2-1) (swp d2 i2 j2):=⟨_,rfl⟩
 rw [<- hpr] at hrr;refine Wp.loop (XB h id room c d a b pr) (j2-1+1-(i2+1)) lQ ?_ ?_
 . exact ⟨i2+1,j2-1,swp d2 i2 j2,rfl,by omega,by omega,by omega,hpr.symm,by rw [swp_size];exact hsz,x4,k.trans' x5,by simp [s0],by simp [s1],by simp [hz1],by simp [hz2]⟩
 clear x1 x2 x3 x4 x5 s0 s1 sI sJ hij hij' ii ij ci cj w1 w2 hz1 hz2 z1 z2 le2 hj2 j2 ge le hi2 i2 gA k hsz ca hpr hza hzb i j;clear d2;rintro n fr g ⟨i,j,d2,hn,hai,hib,hjb,hr,hsz,gA,k,s0,s1,sI,sJ⟩;have ca:=cC (d:=d2) (k:=a) (by omega);simp [-getElem?_pos];refine Wp.mono (Q:=fun x fr' g'=>x=.exit 6/\Bq g 10 11 id c d.size a (scanUp (fun x=>ltInt x d2[a]!) d2 j i) j fr' g') (Wp.loop (VL g 10 11 id c d.size a (fun x=>ltInt x d2[a]!) d2 j i) (j+1-i) lQ ⟨i,rfl,aq _,.inr rfl,rfl,rfl,s0,s1,sI,sJ⟩ ?_) ?_
 . rintro n1 fr1 g1 ⟨i2,hn1,hi2,hi2b,hsc,rfl,q0,q1,qI,qJ⟩;by_cases hij:i2<=j
   . have hij':(i2:Int)<=(j:Int):=by omega
     have ii:=ix (id:=id) (c:=c) (k:=i2) (n:=d.size) (by omega);have ci:=cC (d:=d2) (k:=i2) (by omega);have l:=fS g d2[i2]! d2[a]!;cases hl:ltInt d2[i2]! d2[a]! with
     | true=>
      rw [hl] at l;have w:wQ ((i2:Int)+1)=((i2+1:Nat):Int):=zQ
      obtain ⟨z,hz⟩:∃ z:Int,z=((i2+1:Nat):Int):=⟨_,rfl⟩
      rw [<- hz] at w;simp [q0,q1,qI,qJ,hij',ia,ii,gA,ca,ci,l,w];exact ⟨j+1-(i2+1),by omega,i2+1,rfl,by omega,by omega,by rw [pT hij (by simp [hl])];exact hsc,rfl,by simp [q0],by simp [q1],by simp [hz],by simp [qJ]⟩
     | false=>rw [hl] at l;simp [q0,q1,qI,qJ,hij',ia,ii,gA,ca,ci,l];exact ⟨rfl,by simp [q0],by simp [q1],by rw [<- hsc,iB (.inr (by simp [hl]))];simp [qI],by simp [qJ]⟩
   . have hij':¬ (i2:Int)<=(j:Int):=by omega
     simp [qI,qJ,hij'];exact ⟨rfl,by simp [q0],by simp [q1],by rw [<- hsc,iB (.inl hij)];simp [qI],by simp [qJ]⟩
 clear s0 s1 sI sJ;rintro _ fr g1 ⟨rfl,rfl,s0,s1,sI,sJ⟩;have e1:=partLoop_eq ltInt a i j d2;rw [hr] at e1;have ge:=scanUp_ge (fun x=>ltInt x d2[a]!) d2 j i;have le:=pU (fun x=>ltInt x d2[a]!) d2 j _ i rfl;generalize hi2:scanUp (fun x=>ltInt x d2[a]!) d2 j i=i2 at *;simp [-getElem?_pos];refine Wp.mono (Q:=fun x fr' g'=>x=.exit 8/\Bq g 10 11 id c d.size a i2 (scanDown (fun x=>!ltInt x d2[a]!) d2 i2 j) fr' g') (Wp.loop (Fx g 10 11 id c d.size a (fun x=>!ltInt x d2[a]!) d2 i2 j) j lQ ⟨aq _,rfl,rfl,s0,s1,sI,sJ⟩ ?_) ?_
 . rintro m0 fr1 g1 ⟨hn1,hsc,rfl,q0,q1,qI,qJ⟩;by_cases hij:i2<=m0
   . obtain ⟨m,rfl⟩:∃ m,m0=m+1:=⟨m0-1,by omega⟩
     obtain ⟨z,hz⟩:∃ z:Int,z=((m+1:Nat):Int):=⟨_,rfl⟩
     rw [<- hz] at qJ;have hij':(i2:Int)<=z:=by omega
     have ii:=ix (id:=id) (c:=c) (k:=m+1) (n:=d.size) (by omega);rw [<- hz] at ii;have ci:=cC (d:=d2) (k:=m+1) (by omega);have l:=fS g d2[m+1]! d2[a]!;cases hl:ltInt d2[m+1]! d2[a]! with
     | false=>
      rw [hl] at l;have w:wQ (z-1)=(m:Int):=zQ
      simp [q0,q1,qI,qJ,hij',ia,ii,gA,ca,ci,l,w];exact ⟨m,by omega,by omega,by rw [pb hij (by simp [hl])];exact hsc,rfl,by simp [q0],by simp [q1],by simp [qI],by simp⟩
     | true=>rw [hl] at l;simp [q0,q1,qI,qJ,hij',ia,ii,gA,ca,ci,l];exact ⟨rfl,by simp [q0],by simp [q1],by simp [qI],by rw [<- hsc,iG (.inr (by simp [hl]))];simp [qJ,hz]⟩
   . have hij':¬ (i2:Int)<=(m0:Int):=by omega
     simp [qI,qJ,hij'];exact ⟨rfl,by simp [q0],by simp [q1],by simp [qI],by rw [<- hsc,iG (.inl hij)];simp [qJ]⟩
 clear s0 s1 sI sJ;rintro _ fr g1 ⟨rfl,rfl,s0,s1,sI,sJ⟩;have le2:=scanDown_le (fun x=>!ltInt x d2[a]!) d2 i2 j;generalize hj2:scanDown (fun x=>!ltInt x d2[a]!) d2 i2 j=j2 at *;have ij:=ix (id:=id) (c:=c) (k:=j2) (n:=d.size) (by omega);have cj:=cC (d:=d2) (k:=j2) (by omega);by_cases hij:j2<i2
 . have hij':(j2:Int)<(i2:Int):=by omega
   rw [if_pos hij] at e1;have ⟨hm',g2,d1,x1,x2,x3,x4,x5⟩:=swap_ok gA (i:=j2) (j:=a) (by omega) (by omega);rw [e1] at hrr;simp [s0,s1,sI,sJ,hij',ia,ij,gA,ca,cj,x1,x2,x3];exact ⟨by rw [hrr];simp,by rw [x4,hrr],k.trans' x5⟩
 . have hij':¬ (j2:Int)<(i2:Int):=by omega
   rw [if_neg hij] at e1;have ⟨hm',g2,d1,x1,x2,x3,x4,x5⟩:=swap_ok gA (i:=i2) (j:=j2) (by omega) (by omega);have ii:=ix (id:=id) (c:=c) (k:=i2) (n:=d.size) (by omega);have ci:=cC (d:=d2) (k:=i2) (by omega);have w1:wQ ((i2:Int)+1)=((i2+1:Nat):Int):=zQ
   have w2:wQ ((j2:Int)-1)=((j2-1:Nat):Int):=zQ
   obtain ⟨z1,hz1⟩:∃ z:Int,z=((i2+1:Nat):Int):=⟨_,rfl⟩
   obtain ⟨z2,hz2⟩:∃ z:Int,z=((j2-1:Nat):Int):=⟨_,rfl⟩
   rw [<- hz1] at w1;rw [<- hz2] at w2;simp [s0,sI,sJ,hij',ii,ij,gA,ci,cj,x1,x2,x3,w1,w2];exact ⟨j2-1+1-(i2+1),by omega,i2+1,j2-1,swp d2 i2 j2,rfl,by omega,by omega,by omega,e1.symm,by rw [swp_size];exact hsz,x4,k.trans' x5,by simp [s0],by simp [s1],by simp [hz1],by simp [hz2]⟩
end
end
section
open Go.Sort
section
variable {h:AHeap} {id q:Nat} {d:Array Int} {room:Option (Nat×Nat)} {c:Cap} {i j k n:Nat}
theorem scanSorted_on {d:Array Int} {b i:Nat} (h:i<b) (hp:ltInt d[i]! d[i-1]! = false):scanSorted ltInt d b (i+1)=scanSorted ltInt d b i:=by
 conv=>rhs;unfold scanSorted
 rw [if_pos (by simp [h,hp])]
theorem scanSorted_off {d:Array Int} {b i:Nat} (h:¬ i<b\/ltInt d[i]! d[i-1]! = true):scanSorted ltInt d b i=i:=by
 unfold scanSorted;rcases h with h | h
 . rw [if_neg (by simp;intro h2;omega)]
 . rw [if_neg (by simp [h])]
def Qf (h:AHeap) (id:Nat) (room:Option (Nat×Nat)) (c:Cap) (sz a b i st:Nat) (r:Array Int) (fr:FF) (g:AHeap):Prop:=g.get id=some (.cells false (dK r) room)/\r.size=sz/\Keep [id] h g/\fr.get 0=.slice id 0 sz c/\fr.get 1=.int .i64 (a:Int)/\fr.get 2=.int .i64 (b:Int)/\fr.get 7=.int .i64 (i:Int)/\fr.get 8=.int .i64 (st:Int)
def SsI (h:AHeap) (id:Nat) (room:Option (Nat×Nat)) (c:Cap) (sz a b st:Nat) (d:Array Int) (i:Nat) (n:Nat) (fr:FF) (g:AHeap):Prop:=∃ i2,b-i2=n/\i<=i2/\i2<=b/\scanSorted ltInt d b i2=scanSorted ltInt d b i/\Qf h id room c sz a b i2 st d fr g
def ShD (h:AHeap) (id:Nat) (room:Option (Nat×Nat)) (c:Cap) (sz a b i st:Nat) (r:Array Int) (j0:Nat) (n:Nat) (fr:FF) (g:AHeap):Prop:=∃ d3,n<=j0/\shiftDown ltInt n d3=r/\Qf h id room c sz a b i st d3 fr g/\fr.get 9=.int .i64 (n:Int)
def ShU (h:AHeap) (id:Nat) (room:Option (Nat×Nat)) (c:Cap) (sz a b i st:Nat) (r:Array Int) (n:Nat) (fr:FF) (g:AHeap):Prop:=∃ (j:Nat) (d3:Array Int),b-j=n/\i+1<=j/\shiftUp ltInt b j d3=r/\Qf h id room c sz a b i st d3 fr g/\fr.get 10=.int .i64 (j:Int)
def Rq (h:AHeap) (id:Nat) (room:Option (Nat×Nat)) (c:Cap) (sz a b:Nat) (r:Array Int×Bool) (n:Nat) (fr:FF) (g:AHeap):Prop:=∃ (i:Nat) (d2:Array Int),n<=5/\a+1<=i/\i<=b/\partialIns ltInt a b n i d2=r/\Qf h id room c sz a b i (5-n) d2 fr g
set_option maxHeartbeats 2000000 in
theorem O4 (hA:h.get id=some (Qc (dK d) room)) {a b:Nat} (hab:a<b) (hb:b<=d.size) (hd:d.size<=1000000):∃ h',run T 217 [.slice id 0 d.size c,iQ (a:Int),iQ (b:Int)] h=some (.bool (partialInsertionSort ltInt d a b).2,h')/\h'.get id=some (Qc (dK (partialInsertionSort ltInt d a b).1) room)/\Keep [id] h h':=by
 obtain ⟨rr,hrr⟩:∃ rr,rr=partialInsertionSort ltInt d a b:=⟨_,rfl⟩
 rw [<- hrr];have w1:wQ ((a:Int)+1)=((a+1:Nat):Int):=zQ
 obtain ⟨za,hza⟩:∃ z,z=a+1:=⟨_,rfl⟩
 rw [<- hza] at w1;refine run_val Wc ?_;simp [S0,w1];refine Wp.loop (Rq h id room c d.size a b rr) 5 lQ ?_ ?_
 . exact ⟨za,d,by omega,by omega,by omega,by rw [hrr,hza];rfl,hA,rfl,Keep.refl,by simp,by simp,by simp,by simp,by simp⟩
 clear w1 hrr;rintro n fr g ⟨i,d2,hn5,hai,hib,hr,gA,hsz,k,s0,s1,s2,s7,s8⟩;obtain ⟨st,hst⟩:∃ st,st=5-n:=⟨_,rfl⟩
 rw [<- hst] at s8;cases n with
 | zero=>
  have hlt:¬ (st:Int)<5:=by omega
  simp [s8,hlt];rw [<- hr];exact ⟨rfl,gA,k⟩
 | succ n=>
 have hlt:(st:Int)<5:=by omega
 simp [s8,hlt];refine Wp.mono (Q:=fun x fr' g'=>x=.exit 2/\Qf h id room c d.size a b (scanSorted ltInt d2 b i) st d2 fr' g') (Wp.loop (SsI h id room c d.size a b st d2 i) (b-i) lQ ⟨i,rfl,aq _,hib,rfl,gA,hsz,k,by simp [s0],by simp [s1],by simp [s2],by simp [s7],by simp [s8]⟩ ?_) ?_
 . rintro n1 fr1 g1 ⟨i2,hn1,hi2,hi2b,hsc,gA1,_,k1,q0,q1,q2,q7,q8⟩;by_cases hij:i2<b
   . have hij':(i2:Int)<(b:Int):=by omega
     have ii:=ix (id:=id) (c:=c) (k:=i2) (n:=d.size) (by omega);have ij:=ix (id:=id) (c:=c) (k:=i2-1) (n:=d.size) (by omega);have ci:=cC (d:=d2) (k:=i2) (by omega);have cj:=cC (d:=d2) (k:=i2-1) (by omega);have wm:wQ ((i2:Int)-1)=((i2-1:Nat):Int):=zQ
     obtain ⟨zm,hzm⟩:∃ z:Int,z=((i2-1:Nat):Int):=⟨_,rfl⟩
     rw [<- hzm] at wm ij;have l:=fS g1 d2[i2]! d2[i2-1]!;cases hl:ltInt d2[i2]! d2[i2-1]! with
     | false=>
      rw [hl] at l;have w:wQ ((i2:Int)+1)=((i2+1:Nat):Int):=zQ
      obtain ⟨z,hz⟩:∃ z:Int,z=((i2+1:Nat):Int):=⟨_,rfl⟩
      rw [<- hz] at w;simp [q0,q2,q7,hij',ii,ij,gA1,ci,cj,l,wm,w];exact ⟨b-(i2+1),by omega,i2+1,rfl,by omega,by omega,by rw [scanSorted_on hij hl];exact hsc,gA1,hsz,k1,by simp [q0],by simp [q1],by simp [q2],by simp [hz],by simp [q8]⟩
     | true=>rw [hl] at l;simp [q0,q2,q7,hij',ii,ij,gA1,ci,cj,l,wm];exact ⟨gA1,hsz,k1,by simp [q0],by simp [q1],by simp [q2],by rw [<- hsc,scanSorted_off (.inr hl)];simp [q7],by simp [q8]⟩
   . have hij':¬ (i2:Int)<(b:Int):=by omega
     simp [q2,q7,hij'];exact ⟨gA1,hsz,k1,by simp [q0],by simp [q1],by simp [q2],by rw [<- hsc,scanSorted_off (.inl hij)];simp [q7],by simp [q8]⟩
 have hsb:i<=scanSorted ltInt d2 b i/\scanSorted ltInt d2 b i<=b:=by
  have:∀ (m i:Nat),b-i=m->i<=b->i<=scanSorted ltInt d2 b i/\scanSorted ltInt d2 b i<=b:=by
   intro m;induction m with
   | zero=>intro i h1 h2;rw [scanSorted_off (.inl (by omega))];omega
   | succ m ih=>
    intro i h1 h2;cases hl:ltInt d2[i]! d2[i-1]! with
    | false=>rw [<- scanSorted_on (by omega) hl];have:=ih (i+1) (by omega) (by omega);omega
    | true=>rw [scanSorted_off (.inr hl)];omega
  exact this _ i rfl hib
 have hr2:=hr;rw [partialIns] at hr2;clear hr s0 s1 s2 s7 s8 gA k g fr;generalize scanSorted ltInt d2 b i=i2 at *;rintro _ fr g ⟨rfl,gA,_,k,s0,s1,s2,s7,s8⟩;by_cases hib2:i2=b
 . have hib':(i2:Int)=(b:Int):=by omega
   simp [if_pos hib2] at hr2;simp [s2,s7,hib2];rw [<- hr2];exact ⟨rfl,gA,k⟩
 have hib':¬ (i2:Int)=(b:Int):=by omega
 simp [if_neg hib2] at hr2;have wba:wQ ((b:Int)-(a:Int))=((b-a:Nat):Int):=zQ
 obtain ⟨zba,hzba⟩:∃ z:Int,z=((b-a:Nat):Int):=⟨_,rfl⟩
 rw [<- hzba] at wba;by_cases h50:b-a<50
 . have h50':zba<50:=by omega
   simp [if_pos h50] at hr2;simp [s1,s2,s7,hib',wba,h50'];rw [<- hr2];exact ⟨rfl,gA,k⟩
 have h50':¬ zba<50:=by omega
 simp [if_neg h50] at hr2;have ⟨hm',g2,d1,x1,x2,x3,x4,x5⟩:=swap_ok gA (i:=i2) (j:=i2-1) (by omega) (by omega);have ii:=ix (id:=id) (c:=c) (k:=i2) (n:=d.size) (by omega);have ij:=ix (id:=id) (c:=c) (k:=i2-1) (n:=d.size) (by omega);have ci:=cC (d:=d2) (k:=i2) (by omega);have cj:=cC (d:=d2) (k:=i2-1) (by omega);have wm:wQ ((i2:Int)-1)=((i2-1:Nat):Int):=zQ
 obtain ⟨zm,hzm⟩:∃ z,z=i2-1:=⟨_,rfl⟩
 rw [<- hzm] at wm ij cj x1 x3 x4 hr2;have wia:wQ ((i2:Int)-(a:Int))=((i2-a:Nat):Int):=zQ
 have wbi:wQ ((b:Int)-(i2:Int))=((b-i2:Nat):Int):=zQ
 have wp:wQ ((i2:Int)+1)=((i2+1:Nat):Int):=zQ
 have wst:wQ ((st:Int)+1)=((st+1:Nat):Int):=zQ
 obtain ⟨zia,hzia⟩:∃ z:Int,z=((i2-a:Nat):Int):=⟨_,rfl⟩
 obtain ⟨zbi,hzbi⟩:∃ z:Int,z=((b-i2:Nat):Int):=⟨_,rfl⟩
 obtain ⟨zp,hzp⟩:∃ z,z=i2+1:=⟨_,rfl⟩
 obtain ⟨zst,hzst⟩:∃ z,z=st+1:=⟨_,rfl⟩
 rw [<- hzia] at wia;rw [<- hzbi] at wbi;rw [<- hzp] at wp hr2;rw [<- hzst] at wst;obtain ⟨d4,hd4⟩:∃ d4,d4=swp d2 i2 zm:=⟨_,rfl⟩
 rw [<- hd4] at x4 hr2;have hsz4:d4.size=d.size:=by rw [hd4,swp_size];exact hsz
 have k4:=k.trans' x5;have fin:∀ (d5:Array Int) (fr':FF) (g':AHeap),partialIns ltInt a b n i2 d5=rr->Qf h id room c d.size a b i2 zst d5 fr' g'->∃ m,m<n+1/\Rq h id room c d.size a b rr m fr' g':=fun d5 fr' g' e1 e2=>⟨n,by omega,i2,d5,by omega,by omega,by omega,e1,by rw [show 5-n=zst by omega];exact e2⟩
 by_cases h2a:i2-a>=2
 . have h2a':(2:Int)<=zia:=by omega
   simp [if_pos h2a] at hr2;simp [s0,s1,s2,s7,hib',wba,h50',ii,ij,gA,ci,cj,wm,x1,x2,x3,wia,h2a'];refine Wp.mono (Q:=fun x fr' g'=>x=.exit 4/\Qf h id room c d.size a b i2 st (shiftDown ltInt zm d4) fr' g') (Wp.loop (ShD h id room c d.size a b i2 st (shiftDown ltInt zm d4) zm) zm lQ ⟨d4,aq _,rfl,⟨x4,hsz4,k4,by simp [s0],by simp [s1],by simp [s2],by simp [s7],by simp [s8]⟩,by simp⟩ ?_) ?_
   . rintro m0 fr1 g1 ⟨d3,hn1,hsc,⟨gA1,hsz1,k1,q0,q1,q2,q7,q8⟩,q9⟩;cases m0 with
     | zero=>
      simp [q9];have hsc:d3=_:=hsc;exact ⟨by rw [<- hsc];exact gA1,by rw [<- hsc];exact hsz1,k1,by simp [q0],by simp [q1],by simp [q2],by simp [q7],by simp [q8]⟩
     | succ m=>
      obtain ⟨z,hz⟩:∃ z:Int,z=((m+1:Nat):Int):=⟨_,rfl⟩
      rw [<- hz] at q9;have hge:(1:Int)<=z:=by omega
      have jj:=ix (id:=id) (c:=c) (k:=m+1) (n:=d.size) (by omega);have jm:=ix (id:=id) (c:=c) (k:=m) (n:=d.size) (by omega);rw [<- hz] at jj;have e1:=cC (d:=d3) (k:=m+1) (by omega);have e2:=cC (d:=d3) (k:=m) (by omega);have w:wQ (z-1)=(m:Int):=zQ
      have l:=fS g1 d3[m+1]! d3[m]!;cases hl:ltInt d3[m+1]! d3[m]! with
      | true=>
       rw [hl] at l;have ⟨hm5,g5,d15,y1,y2,y3,y4,y5⟩:=swap_ok gA1 (i:=m+1) (j:=m) (by omega) (by omega);simp [q0,q9,hge,jj,jm,gA1,e1,e2,w,l,y1,y2,y3];refine ⟨m,by omega,swp d3 (m+1) m,by omega,?_,⟨y4,by rw [swp_size];exact hsz1,k1.trans' y5,by simp [q0],by simp [q1],by simp [q2],by simp [q7],by simp [q8]⟩,by simp⟩;rw [<- hsc];conv=>rhs;unfold shiftDown
       rw [if_neg (by simp [hl])]
      | false=>
       rw [hl] at l;simp [q0,q9,hge,jj,jm,gA1,e1,e2,w,l];have hsc2:d3=shiftDown ltInt zm d4:=by
        rw [<- hsc];conv=>rhs;unfold shiftDown
        rw [if_pos (by simp [hl])]
       exact ⟨by rw [<- hsc2];exact gA1,by rw [<- hsc2];exact hsz1,k1,by simp [q0],by simp [q1],by simp [q2],by simp [q7],by simp [q8]⟩
   clear s0 s1 s2 s7 s8 gA k x1 x2 x3 x4 x5 k4;generalize shiftDown ltInt zm d4=d6 at *;rintro _ fr g2 ⟨rfl,x4,hsz4',k4,s0,s1,s2,s7,s8⟩;by_cases h2b:b-i2>=2
   . have h2b':(2:Int)<=zbi:=by omega
     simp [if_pos h2b] at hr2;simp [s2,s7,wbi,h2b',wp];refine Wp.mono (Q:=fun x fr' g'=>x=.exit 6/\Qf h id room c d.size a b i2 st (shiftUp ltInt b zp d6) fr' g') (Wp.loop (ShU h id room c d.size a b i2 st (shiftUp ltInt b zp d6)) (b-zp) lQ ⟨zp,d6,rfl,by omega,rfl,⟨x4,hsz4',k4,by simp [s0],by simp [s1],by simp [s2],by simp [s7],by simp [s8]⟩,by simp⟩ ?_) ?_
     . rintro m0 fr1 g1 ⟨jx,d3,hn1,hjx,hsc,⟨gA1,hsz1,k1,q0,q1,q2,q7,q8⟩,q10⟩;by_cases hjb:jx<b
       . have hjb':(jx:Int)<(b:Int):=by omega
         have jj:=ix (id:=id) (c:=c) (k:=jx) (n:=d.size) (by omega);have jm:=ix (id:=id) (c:=c) (k:=jx-1) (n:=d.size) (by omega);have e1:=cC (d:=d3) (k:=jx) (by omega);have e2:=cC (d:=d3) (k:=jx-1) (by omega);have w:wQ ((jx:Int)-1)=((jx-1:Nat):Int):=zQ
         have wq:wQ ((jx:Int)+1)=((jx+1:Nat):Int):=zQ
         obtain ⟨z,hz⟩:∃ z:Int,z=((jx-1:Nat):Int):=⟨_,rfl⟩
         obtain ⟨zq,hzq⟩:∃ z:Int,z=((jx+1:Nat):Int):=⟨_,rfl⟩
         rw [<- hz] at w jm;rw [<- hzq] at wq;have l:=fS g1 d3[jx]! d3[jx-1]!;have hun:shiftUp ltInt b jx d3=if !ltInt d3[jx]! d3[jx-1]! then d3 else shiftUp ltInt b (jx+1) (swp d3 jx (jx-1)):=by
          conv=>lhs;unfold shiftUp
          rw [if_pos hjb]
         cases hl:ltInt d3[jx]! d3[jx-1]! with
         | true=>rw [hl] at l;rw [if_neg (by simp [hl])] at hun;have ⟨hm5,g5,d15,y1,y2,y3,y4,y5⟩:=swap_ok gA1 (i:=jx) (j:=jx-1) (by omega) (by omega);simp [q0,q2,q10,hjb',jj,jm,gA1,e1,e2,w,l,y1,y2,y3,wq];exact ⟨b-(jx+1),by omega,jx+1,swp d3 jx (jx-1),rfl,by omega,by rw [<- hun];exact hsc,⟨y4,by rw [swp_size];exact hsz1,k1.trans' y5,by simp [q0],by simp [q1],by simp [q2],by simp [q7],by simp [q8]⟩,by simp [hzq]⟩
         | false=>rw [hl] at l;rw [if_pos (by simp [hl])] at hun;simp [q0,q2,q10,hjb',jj,jm,gA1,e1,e2,w,l];rw [hun] at hsc;exact ⟨by rw [<- hsc];exact gA1,by rw [<- hsc];exact hsz1,k1,by simp [q0],by simp [q1],by simp [q2],by simp [q7],by simp [q8]⟩
       . have hjb':¬ (jx:Int)<(b:Int):=by omega
         simp [q2,q10,hjb'];have hun:shiftUp ltInt b jx d3=d3:=by unfold shiftUp;rw [if_neg hjb]
         rw [hun] at hsc;exact ⟨by rw [<- hsc];exact gA1,by rw [<- hsc];exact hsz1,k1,by simp [q0],by simp [q1],by simp [q2],by simp [q7],by simp [q8]⟩
     clear s0 s1 s2 s7 s8 x4 k4;generalize shiftUp ltInt b zp d6=d7 at *;rintro _ fr g2 ⟨rfl,x4,hsz7,k4,s0,s1,s2,s7,s8⟩;simp [s8,wst];exact fin d7 _ _ hr2 ⟨x4,hsz7,k4,by simp [s0],by simp [s1],by simp [s2],by simp [s7],by simp⟩
   . have h2b':¬ (2:Int)<=zbi:=by omega
     simp [if_neg h2b] at hr2;simp [s2,s7,s8,wbi,h2b',wst];exact fin d6 _ _ hr2 ⟨x4,hsz4',k4,by simp [s0],by simp [s1],by simp [s2],by simp [s7],by simp⟩
 . have h2a':¬ (2:Int)<=zia:=by omega
   have h2b:b-i2>=2:=by omega
   have h2b':(2:Int)<=zbi:=by omega
   simp [if_neg h2a,if_pos h2b] at hr2;simp [s0,s1,s2,s7,hib',wba,h50',ii,ij,gA,ci,cj,wm,x1,x2,x3,wia,h2a',wbi,h2b',wp];refine Wp.mono (Q:=fun x fr' g'=>x=.exit 6/\Qf h id room c d.size a b i2 st (shiftUp ltInt b zp d4) fr' g') (Wp.loop (ShU h id room c d.size a b i2 st (shiftUp ltInt b zp d4)) (b-zp) lQ ⟨zp,d4,rfl,by omega,rfl,⟨x4,hsz4,k4,by simp [s0],by simp [s1],by simp [s2],by simp [s7],by simp [s8]⟩,by simp⟩ ?_) ?_
   . rintro m0 fr1 g1 ⟨jx,d3,hn1,hjx,hsc,⟨gA1,hsz1,k1,q0,q1,q2,q7,q8⟩,q10⟩;by_cases hjb:jx<b
     . have hjb':(jx:Int)<(b:Int):=by omega
       have jj:=ix (id:=id) (c:=c) (k:=jx) (n:=d.size) (by omega);have jm:=ix (id:=id) (c:=c) (k:=jx-1) (n:=d.size) (by omega);have e1:=cC (d:=d3) (k:=jx) (by omega);have e2:=cC (d:=d3) (k:=jx-1) (by omega);have w:wQ ((jx:Int)-1)=((jx-1:Nat):Int):=zQ
       have wq:wQ ((jx:Int)+1)=((jx+1:Nat):Int):=zQ
       obtain ⟨z,hz⟩:∃ z:Int,z=((jx-1:Nat):Int):=⟨_,rfl⟩
       obtain ⟨zq,hzq⟩:∃ z:Int,z=((jx+1:Nat):Int):=⟨_,rfl⟩
       rw [<- hz] at w jm;rw [<- hzq] at wq;have l:=fS g1 d3[jx]! d3[jx-1]!;have hun:shiftUp ltInt b jx d3=if !ltInt d3[jx]! d3[jx-1]! then d3 else shiftUp ltInt b (jx+1) (swp d3 jx (jx-1)):=by
        conv=>lhs;unfold shiftUp
        rw [if_pos hjb]
       cases hl:ltInt d3[jx]! d3[jx-1]! with
       | true=>rw [hl] at l;rw [if_neg (by simp [hl])] at hun;have ⟨hm5,g5,d15,y1,y2,y3,y4,y5⟩:=swap_ok gA1 (i:=jx) (j:=jx-1) (by omega) (by omega);simp [q0,q2,q10,hjb',jj,jm,gA1,e1,e2,w,l,y1,y2,y3,wq];exact ⟨b-(jx+1),by omega,jx+1,swp d3 jx (jx-1),rfl,by omega,by rw [<- hun];exact hsc,⟨y4,by rw [swp_size];exact hsz1,k1.trans' y5,by simp [q0],by simp [q1],by simp [q2],by simp [q7],by simp [q8]⟩,by simp [hzq]⟩
       | false=>rw [hl] at l;rw [if_pos (by simp [hl])] at hun;simp [q0,q2,q10,hjb',jj,jm,gA1,e1,e2,w,l];rw [hun] at hsc;exact ⟨by rw [<- hsc];exact gA1,by rw [<- hsc];exact hsz1,k1,by simp [q0],by simp [q1],by simp [q2],by simp [q7],by simp [q8]⟩
     . have hjb':¬ (jx:Int)<(b:Int):=by omega
       simp [q2,q10,hjb'];have hun:shiftUp ltInt b jx d3=d3:=by unfold shiftUp;rw [if_neg hjb]
       rw [hun] at hsc;exact ⟨by rw [<- hsc];exact gA1,by rw [<- hsc];exact hsz1,k1,by simp [q0],by simp [q1],by simp [q2],by simp [q7],by simp [q8]⟩
   clear s0 s1 s2 s7 s8 x4 k4;generalize shiftUp ltInt b zp d4=d7 at *;rintro _ fr g2 ⟨rfl,x4,hsz7,k4,s0,s1,s2,s7,s8⟩;simp [s8,wst];exact fin d7 _ _ hr2 ⟨x4,hsz7,k4,by simp [s0],by simp [s1],by simp [s2],by simp [s7],by simp⟩
end
end
end Go.Proofs.YtblhcbmcbhoeiaaGreatDoor.Ev.Srt
