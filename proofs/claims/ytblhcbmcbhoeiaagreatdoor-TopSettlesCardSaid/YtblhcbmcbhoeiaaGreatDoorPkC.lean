/- Part 3 of the proof. -/
import Derived.Test.YtblhcbmcbhoeiaaGreatDoorPkB
set_option linter.all false
set_option maxRecDepth 100000
namespace Go.Proofs.YtblhcbmcbhoeiaaGreatDoor.Ev.Srt
open Go
section
open Go.Sort
section
variable {h:AHeap} {id q:Nat} {d:Array Int} {room:Option (Nat×Nat)} {c:Cap} {i j k n sz:Nat}
theorem QU {call:cT} {fr:FF} {h:AHeap} {Q:kP} {a b:ACode} {A:FF->AHeap->Prop} (w:Wp call a fr h (fun x fr' g'=>x=.normal/\A fr' g')) (n:∀ fr' g',A fr' g'->Wp call b fr' g' Q):Wp call (.seq a b) fr h Q:=
 Wp.seq.2 (w.mono fun x fr' g' hx=>by
  obtain ⟨rfl,ha⟩:=hx;exact n _ _ ha)
structure PQ (h:AHeap) (id:Nat) (room:Option (Nat×Nat)) (c:Cap) (sz a b len lim:Nat) (wb wp:Bool) (d:Array Int) (fr:FF) (g:AHeap):Prop where
 gA:g.get id=some (.cells false (dK d) room)
 k:Keep [id] h g
 s0:fr.get 0=.slice id 0 sz c
 s1:fr.get 1=.int .i64 (a:Int)
 s2:fr.get 2=.int .i64 (b:Int)
 s3:fr.get 3=.int .i64 (lim:Int)
 s8:fr.get 8=.bool wb
 s9:fr.get 9=.bool wp
 s10:fr.get 10=.int .i64 (len:Int)
structure PR (h:AHeap) (id:Nat) (room:Option (Nat×Nat)) (c:Cap) (sz a b len lim:Nat) (wb wp:Bool) (d:Array Int) (p:Nat) (hint:Int) (fr:FF) (g:AHeap):Prop where
 q:PQ h id room c sz a b len lim wb wp d fr g
 s11:fr.get 11=.int .i64 (p:Int)
 s12:fr.get 12=.int .i64 hint
def P1 (h:AHeap) (id:Nat) (room:Option (Nat×Nat)) (c:Cap) (sz a b len:Nat) (wb wp:Bool) (d:Array Int) (fr:FF) (g:AHeap):Prop:=∃ lim2 d2,lim2<=1000/\PermIn a b d d2/\PQ h id room c sz a b len lim2 wb wp d2 fr g
def P2' (h:AHeap) (id:Nat) (room:Option (Nat×Nat)) (c:Cap) (sz a b len lim:Nat) (wb wp:Bool) (d:Array Int) (fr:FF) (g:AHeap):Prop:=∃ d3 p hint,PermIn a b d d3/\a<=p/\p<b/\PR h id room c sz a b len lim wb wp d3 p hint fr g
def P3' (h:AHeap) (id:Nat) (room:Option (Nat×Nat)) (c:Cap) (sz a b len lim:Nat) (wb wp:Bool) (d:Array Int) (p:Nat) (hint:Int) (fr:FF) (g:AHeap):Prop:=∃ d4,PermIn a b d d4/\PR h id room c sz a b len lim wb wp d4 p hint fr g
def aaq (h:AHeap) (id:Nat) (room:Option (Nat×Nat)) (c:Cap) (sz a b m:Nat) (d:Array Int) (n:Nat) (fr:FF) (g:AHeap):Prop:=∃ (a1 b1 lim:Nat) (wb wp:Bool) (d1:Array Int),b1-a1=n/\n<m/\a1<=b1/\b1<=sz/\lim<=1000/\d1.size=sz/\Below ltInt a1 b1 d1/\(∀ R,PermIn a1 b1 d1 R->SortedIn ltInt a1 b1 R->PermIn a b d R/\SortedIn ltInt a b R)/\g.get id=some (.cells false (dK d1) room)/\Keep [id] h g/\fr.get 0=.slice id 0 sz c/\fr.get 1=.int .i64 (a1:Int)/\fr.get 2=.int .i64 (b1:Int)/\fr.get 3=.int .i64 (lim:Int)/\fr.get 8=.bool wb/\fr.get 9=.bool wp
set_option maxHeartbeats 4000000 in
theorem RW (hsz:sz<=1000000):∀ (m:Nat) (h:AHeap) (d:Array Int) (a b limit:Nat),b-a<m->h.get id=some (Qc (dK d) room)->a<=b->b<=sz->d.size=sz->limit<=1000->Below ltInt a b d->∃ h',run T 209 [.slice id 0 sz c,iQ (a:Int),iQ (b:Int),iQ (limit:Int)] h=some (.tuple [],h')/\(∃ d',PermIn a b d d'/\SortedIn ltInt a b d'/\h'.get id=some (Qc (dK d') room))/\Keep [id] h h':=by
 intro m;induction m with
 | zero=>intro h d a b limit hm;omega
 | succ m ih=>
 intro h d a b limit hm hA hab hb hd hlim hB;have S:=swo_ltInt;refine run_val Wl ?_;simp [Ta];refine Wp.loop (aaq h id room c sz a b (m+1) d) (b-a) lQ ?_ ?_
 . exact ⟨a,b,limit,true,true,d,rfl,hm,hab,hb,hlim,hd,hB,fun R h1 h2=>⟨h1,h2⟩,hA,Keep.refl,by simp,by simp,by simp,by simp,by simp,by simp⟩
 rintro n fr g ⟨a1,b1,lim,wb,wp,d1,hn,hnm,hab1,hb1,hlim1,hd1,hB1,hfin,gA,k,s0,s1,s2,s3,s8,s9⟩;subst hd1;obtain ⟨len,hlen⟩:∃ len,len=b1-a1:=⟨_,rfl⟩
 have w0:wQ ((b1:Int)-(a1:Int))=(len:Int):=zQ
 by_cases h12:len<=12
 . have h12':(len:Int)<=12:=by omega
   have ⟨g1,e1,gA1,k1⟩:=Sa (c:=c) gA (a:=a1) (b:=b1) hb1 hsz (by omega);simp [s0,s1,s2,w0,h12',e1];have ⟨p1,p2⟩:=insertionSort_holds S d1 a1 b1 hab1 hb1;exact ⟨⟨_,(hfin _ p1 p2).1,(hfin _ p1 p2).2,gA1⟩,k.trans' k1⟩
 have h12':¬ (len:Int)<=12:=by omega
 by_cases hl0:lim=0
 . have hl0':(lim:Int)=0:=by omega
   have ⟨g1,e1,gA1,k1⟩:=Px (c:=c) gA hab1 hb1 hsz;simp [s0,s1,s2,s3,w0,h12',hl0,e1];have ⟨p1,p2⟩:=heapSort_holds S d1 a1 b1 hab1 hb1;exact ⟨⟨_,(hfin _ p1 p2).1,(hfin _ p1 p2).2,gA1⟩,k.trans' k1⟩
 have hl0':¬ (lim:Int)=0:=by omega
 refine Wp.block.2 ?_;refine QU (A:=PQ h id room c d1.size a1 b1 len lim wb wp d1) ?_ ?_
 . simp [s1,s2,w0];exact ⟨gA,k,by simp [s0],by simp [s1],by simp [s2],by simp [s3],by simp [s8],by simp [s9],by simp⟩
 clear s0 s1 s2 s3 s8 s9 gA k;rintro fr g ⟨gA,k,s0,s1,s2,s3,s8,s9,s10⟩;refine QU (A:=PQ h id room c d1.size a1 b1 len lim wb wp d1) ?_ ?_
 . simp [s10,h12'];exact ⟨gA,k,by simp [s0],by simp [s1],by simp [s2],by simp [s3],by simp [s8],by simp [s9],by simp [s10]⟩
 clear s0 s1 s2 s3 s8 s9 s10 gA k;rintro fr g ⟨gA,k,s0,s1,s2,s3,s8,s9,s10⟩;refine QU (A:=PQ h id room c d1.size a1 b1 len lim wb wp d1) ?_ ?_
 . simp [s3,hl0];exact ⟨gA,k,by simp [s0],by simp [s1],by simp [s2],by simp [s3],by simp [s8],by simp [s9],by simp [s10]⟩
 clear s0 s1 s2 s3 s8 s9 s10 gA k;rintro fr g ⟨gA,k,s0,s1,s2,s3,s8,s9,s10⟩;refine QU (A:=P1 h id room c d1.size a1 b1 len wb wp d1) ?_ ?_
 . cases wb with
   | true=>simp [s8];exact ⟨lim,d1,hlim1,permIn_refl _ _ _,gA,k,by simp [s0],by simp [s1],by simp [s2],by simp [s3],by simp [s8],by simp [s9],by simp [s10]⟩
   | false=>
    have ⟨g1,e1,gA1,k1⟩:=NK (c:=c) gA (a:=a1) (b:=b1) (by omega) hb1 hsz;have wl:wQ ((lim:Int)-1)=((lim-1:Nat):Int):=zQ;obtain ⟨zl,hzl⟩:∃ zl,zl=lim-1:=⟨_,rfl⟩
    rw [<- hzl] at wl;simp [s0,s1,s2,s3,s8,e1,wl];exact ⟨zl,_,by omega,breakPatterns_holds d1 a1 b1 hab1 hb1,gA1,k.trans' k1,by simp [s0],by simp [s1],by simp [s2],by simp,by simp [s8],by simp [s9],by simp [s10]⟩
 clear s0 s1 s2 s3 s8 s9 s10 gA k hlim1 hl0 hl0';rintro fr g ⟨lim2,d2,hlim2,P2,gA,k,s0,s1,s2,s3,s8,s9,s10⟩;have z2:d2.size=d1.size:=P2.1;have B2:=hB1.perm hb1 P2;have ⟨g1,e1,k1⟩:=Mq (c:=c) gA (a:=a1) (b:=b1) (by omega) (by omega) (by omega);rw [z2] at e1;have cp:=choosePivot_holds ltInt d2 a1 b1 (by omega);generalize choosePivot ltInt d2 a1 b1=pv at *;have ⟨p0,hint0⟩:=pv;simp only at e1 cp;refine QU (A:=PR h id room c d1.size a1 b1 len lim2 wb wp d2 p0 (qD hint0)) ?_ ?_
 . simp [s0,s1,s2,e1,ad];exact ⟨⟨k1.obj gA (by simp),k.trans k1 (by simp),by simp [s0],by simp [s1],by simp [s2],by simp [s3],by simp [s8],by simp [s9],by simp [s10]⟩,by simp,by simp⟩
 clear s0 s1 s2 s3 s8 s9 s10 gA k e1 k1 g1;rintro fr g ⟨⟨gA,k,s0,s1,s2,s3,s8,s9,s10⟩,s11,s12⟩;refine QU (A:=P2' h id room c d1.size a1 b1 len lim2 wb wp d2) ?_ ?_
 . by_cases hd:qD hint0=2
   . have ⟨g1,e1,gA1,k1⟩:=RQ (c:=c) gA (a:=a1) (b:=b1) (by omega) (by omega) (by omega);rw [z2] at e1;have v1:wQ ((b1:Int)-1)=((b1-1:Nat):Int):=zQ;have v2:wQ ((p0:Int)-(a1:Int))=((p0-a1:Nat):Int):=zQ
     have v3:wQ (((b1-1:Nat):Int)-((p0-a1:Nat):Int))=(((b1-1)-(p0-a1):Nat):Int):=zQ
     obtain ⟨y1,hy1⟩:∃ z:Int,z=((b1-1:Nat):Int):=⟨_,rfl⟩
     obtain ⟨y2,hy2⟩:∃ z:Int,z=((p0-a1:Nat):Int):=⟨_,rfl⟩
     obtain ⟨y3,hy3⟩:∃ z,z=(b1-1)-(p0-a1):=⟨_,rfl⟩
     rw [<- hy1] at v1 v3;rw [<- hy2] at v2 v3;rw [<- hy3] at v3;simp [s0,s1,s2,s11,s12,hd,e1,v1,v2,v3];exact ⟨_,y3,1,reverseRange_holds d2 a1 b1 hab1 (by omega),by omega,by omega,⟨gA1,k.trans' k1,by simp [s0],by simp [s1],by simp [s2],by simp [s3],by simp [s8],by simp [s9],by simp [s10]⟩,by simp,by simp⟩
   . simp [s12,hd];exact ⟨d2,p0,qD hint0,permIn_refl _ _ _,cp.1,cp.2,⟨gA,k,by simp [s0],by simp [s1],by simp [s2],by simp [s3],by simp [s8],by simp [s9],by simp [s10]⟩,by simp [s11],by simp [s12]⟩
 clear s0 s1 s2 s3 s8 s9 s10 s11 s12 gA k cp p0 hint0;rintro fr g ⟨d3,p,hint,P3,hp1,hp2,⟨gA,k,s0,s1,s2,s3,s8,s9,s10⟩,s11,s12⟩;have z3:d3.size=d1.size:=P3.1.trans z2;have B3:=B2.perm (by omega) P3;have P13:=permIn_trans _ _ _ a1 b1 P2 P3;obtain ⟨t,ht⟩:∃ t,t=(wb && wp && decide (hint=1)):=⟨_,rfl⟩
 have pin:=partialInsertionSort_holds S d3 a1 b1 (by omega) (by omega) B3;have ⟨gp,ep,gAp,kp⟩:=O4 (c:=c) gA (a:=a1) (b:=b1) (by omega) (by omega) (by omega);rw [z3] at ep;generalize partialInsertionSort ltInt d3 a1 b1=pr at *;have ⟨d3',ok⟩:=pr;simp only at pin ep gAp;by_cases hret:t=true/\ok=true
 . obtain ⟨rfl',rfl''⟩:=hret;rw [rfl'] at ht;have ht:=ht.symm;simp [aA,decide_eq_true_eq] at ht;obtain ⟨⟨rfl,rfl⟩,rfl⟩:=ht;subst rfl'';simp [s0,s1,s2,s8,s9,s12,ep];have q:=hfin _ (permIn_trans _ _ _ a1 b1 P13 pin.1) (pin.2 rfl);exact ⟨⟨_,q.1,q.2,gAp⟩,k.trans' kp⟩
 refine QU (A:=P3' h id room c d1.size a1 b1 len lim2 wb wp d3 p hint) ?_ ?_
 . cases t with
   | true=>
    have ht:=ht.symm;simp [aA,decide_eq_true_eq] at ht;obtain ⟨⟨rfl,rfl⟩,rfl⟩:=ht;cases ok with
    | true=>exact absurd ⟨rfl,rfl⟩ hret
    | false=>simp [s0,s1,s2,s8,s9,s12,ep];exact ⟨_,pin.1,⟨gAp,k.trans' kp,by simp [s0],by simp [s1],by simp [s2],by simp [s3],by simp [s8],by simp [s9],by simp [s10]⟩,by simp [s11],by simp [s12]⟩
   | false=>
    have fin4:∀ fr':FF,fr'.get 0=.slice id 0 d1.size c->fr'.get 1=iQ (a1:Int)->fr'.get 2=iQ (b1:Int)->fr'.get 3=iQ (lim2:Int)->fr'.get 8=.bool wb->fr'.get 9=.bool wp->fr'.get 10=iQ (len:Int)->fr'.get 11=iQ (p:Int)->fr'.get 12=iQ hint->P3' h id room c d1.size a1 b1 len lim2 wb wp d3 p hint fr' g:=fun fr' q0 q1 q2 q3 q8 q9 q10 q11 q12=>⟨d3,permIn_refl _ _ _,⟨gA,k,q0,q1,q2,q3,q8,q9,q10⟩,q11,q12⟩
    by_cases hh:hint=1
    . subst hh;cases wb with
      | true=>
       cases wp with
       | true=>simp at ht
       | false=>simp [s8,s9];exact fin4 _ (by simp [s0]) (by simp [s1]) (by simp [s2]) (by simp [s3]) (by simp [s8]) (by simp [s9]) (by simp [s10]) (by simp [s11]) (by simp [s12])
      | false=>cases wp<;>(simp [s8];exact fin4 _ (by simp [s0]) (by simp [s1]) (by simp [s2]) (by simp [s3]) (by simp [s8]) (by simp [s9]) (by simp [s10]) (by simp [s11]) (by simp [s12]))
    . cases wb<;>cases wp<;>(simp [s8,s9,s12,hh];exact fin4 _ (by simp [s0]) (by simp [s1]) (by simp [s2]) (by simp [s3]) (by simp [s8]) (by simp [s9]) (by simp [s10]) (by simp [s11]) (by simp [s12]))
 clear s0 s1 s2 s3 s8 s9 s10 s11 s12 gA k hret ht t pin gAp ep kp gp d3' ok;rintro fr g ⟨d4,P4,⟨gA,k,s0,s1,s2,s3,s8,s9,s10⟩,s11,s12⟩;have z4:d4.size=d1.size:=P4.1.trans z3;have B4:=B3.perm (by omega) P4;have P14:=permIn_trans _ _ _ a1 b1 P13 P4;have ip:=ix (id:=id) (c:=c) (k:=p) (n:=d1.size) (by omega);have cpv:=cC (d:=d4) (k:=p) (by omega);by_cases heq:0<a1/\ltInt d4[a1-1]! d4[p]! = false
 . have ⟨ha0,hlt⟩:=heq;have ha0':(0:Int)<(a1:Int):=by omega
   have ia:=ix (id:=id) (c:=c) (k:=a1-1) (n:=d1.size) (by omega);have ca:=cC (d:=d4) (k:=a1-1) (by omega);have wa:wQ ((a1:Int)-1)=((a1-1:Nat):Int):=zQ
   obtain ⟨za,hza⟩:∃ z:Int,z=((a1-1:Nat):Int):=⟨_,rfl⟩
   rw [<- hza] at wa ia;have l:=fS g d4[a1-1]! d4[p]!;rw [hlt] at l;have ⟨g1,e1,gA1,k1⟩:=J8 (c:=c) gA (a:=a1) (b:=b1) (p:=p) (by omega) hp2 (by omega) (by omega);rw [z4] at e1
   cases hpe:partitionEqual ltInt d4 a1 b1 p with
   | mk mid d5=>
   rw [hpe] at e1 gA1;simp only at e1 gA1;have ⟨r1,r2,r3,r4,r5⟩:=round_eq S (partitionEqual_holds ltInt) ha0 hp1 hp2 (by omega) B4 hlt hpe;simp [s0,s1,s2,s11,ha0,ia,ip,gA,ca,cpv,wa,l,e1];refine ⟨b1-mid,by omega,mid,b1,lim2,wb,wp,d5,rfl,by omega,r2,hb1,hlim2,by omega,r4,fun R q1 q2=>?_,gA1,k.trans' k1,by simp [s0],by simp,by simp [s2],by simp [s3],by simp [s8],by simp [s9]⟩;have q:=r5 R q1 q2;exact hfin R (permIn_trans _ _ _ a1 b1 P14 q.1) q.2
 refine QU (A:=PR h id room c d1.size a1 b1 len lim2 wb wp d4 p hint) ?_ ?_
 . by_cases ha0:0<a1
   . have ha0':(0:Int)<(a1:Int):=by omega
     have hlt:ltInt d4[a1-1]! d4[p]! = true:=by
      cases hc:ltInt d4[a1-1]! d4[p]! with
      | true=>rfl
      | false=>exact absurd ⟨ha0,hc⟩ heq
     have ia:=ix (id:=id) (c:=c) (k:=a1-1) (n:=d1.size) (by omega);have ca:=cC (d:=d4) (k:=a1-1) (by omega);have wa:wQ ((a1:Int)-1)=((a1-1:Nat):Int):=zQ
     obtain ⟨za,hza⟩:∃ z:Int,z=((a1-1:Nat):Int):=⟨_,rfl⟩
     rw [<- hza] at wa ia;have l:=fS g d4[a1-1]! d4[p]!;rw [hlt] at l;simp [s0,s1,s11,ha0,ia,ip,gA,ca,cpv,wa,l];exact ⟨⟨gA,k,by simp [s0],by simp [s1],by simp [s2],by simp [s3],by simp [s8],by simp [s9],by simp [s10]⟩,by simp [s11],by simp [s12]⟩
   . have ha0':¬ (0:Int)<(a1:Int):=by omega
     simp [s1,ha0];exact ⟨⟨gA,k,by simp [s0],by simp [s1],by simp [s2],by simp [s3],by simp [s8],by simp [s9],by simp [s10]⟩,by simp [s11],by simp [s12]⟩
 clear s0 s1 s2 s3 s8 s9 s10 s11 s12 gA k heq ip cpv;rintro fr g ⟨⟨gA,k,s0,s1,s2,s3,s8,s9,s10⟩,s11,s12⟩;have ⟨g1,e1,gA1,k1⟩:=O7 (c:=c) gA (a:=a1) (b:=b1) (p:=p) (by omega) hp2 (by omega) (by omega);rw [z4] at e1
 cases hpp:partition ltInt d4 a1 b1 p with
 | mk mid apd=>
 have ⟨ap,d5⟩:=apd;rw [hpp] at e1 gA1;simp only at e1 gA1;have ⟨r1,r2,r3,r4,r5,r6,r7⟩:=round_part S (partition_holds ltInt) hp1 hp2 (by omega) B4 hpp;have t8:Int.tdiv (len:Int) 8=((len / 8:Nat):Int):=(mw len 8).symm;have w8:wQ ((len / 8:Nat):Int)=((len / 8:Nat):Int):=rQ
 obtain ⟨z8,hz8⟩:∃ z:Int,z=((len / 8:Nat):Int):=⟨_,rfl⟩
 rw [<- hz8] at t8 w8;have wl:wQ ((mid:Int)-(a1:Int))=((mid-a1:Nat):Int):=zQ
 have wr:wQ ((b1:Int)-(mid:Int))=((b1-mid:Nat):Int):=zQ
 obtain ⟨zl,hzl⟩:∃ z:Int,z=((mid-a1:Nat):Int):=⟨_,rfl⟩
 obtain ⟨zr,hzr⟩:∃ z:Int,z=((b1-mid:Nat):Int):=⟨_,rfl⟩
 rw [<- hzl] at wl;rw [<- hzr] at wr;have wm:wQ ((mid:Int)+1)=((mid+1:Nat):Int):=zQ
 obtain ⟨zm,hzm⟩:∃ z,z=mid+1:=⟨_,rfl⟩
 rw [<- hzm] at wm;by_cases hlr:zl<zr
 . have ⟨g2,e2,⟨L,PL,SL,gA2⟩,k2⟩:=ih g1 d5 a1 mid lim2 (by omega) gA1 r1 (by omega) (by omega) hlim2 r4;have ⟨BL,hR⟩:=r6 L PL SL;have zL:L.size=d1.size:=by rw [PL.1];omega
   simp [s0,s1,s2,s3,s10,s11,e1,t8,w8,wl,wr,hlr,e2,wm,ad];refine ⟨b1-zm,by omega,zm,b1,lim2,_,ap,L,rfl,by omega,by omega,hb1,hlim2,zL,by rw [hzm];exact BL,fun R q1 q2=>?_,gA2,(k.trans' k1).trans' k2,by simp [s0],by simp,by simp [s2],by simp [s3],by simp;rfl,by simp⟩;rw [hzm] at q1 q2;have q:=hR R q1 q2;exact hfin R (permIn_trans _ _ _ a1 b1 P14 q.1) q.2
 . have ⟨g2,e2,⟨L,PL,SL,gA2⟩,k2⟩:=ih g1 d5 (mid+1) b1 lim2 (by omega) gA1 (by omega) hb1 (by omega) hlim2 r5;have ⟨BL,hR⟩:=r7 L PL SL;have zL:L.size=d1.size:=by rw [PL.1];omega
   rw [<- hzm] at e2;simp [s0,s1,s2,s3,s10,s11,e1,t8,w8,wl,wr,hlr,e2,wm,ad];refine ⟨mid-a1,by omega,a1,mid,lim2,_,ap,L,rfl,by omega,r1,by omega,hlim2,zL,BL,fun R q1 q2=>?_,gA2,(k.trans' k1).trans' k2,by simp [s0],by simp [s1],by simp,by simp [s3],by simp;rfl,by simp⟩;have q:=hR R q1 q2;exact hfin R (permIn_trans _ _ _ a1 b1 P14 q.1) q.2
theorem OR (hA:h.get id=some (Qc (dK d) room)) (hsz:d.size<=1000000):∃ h',run T 204 [.slice id 0 d.size c] h=some (.tuple [],h')/\h'.get id=some (Qc (dK (d.toList.mergeSort (fun x y=>decide (x<=y))).toArray) room)/\Keep [id] h h':=by
 have hb:bitsLen d.size<=24:=(bitsLen_le_iff _ 24).2 (by omega);have ⟨h',e,⟨d',P,S,g⟩,k⟩:=RW (c:=c) hsz (d.size+1) h d 0 d.size (bitsLen d.size) (by omega) hA (lG _) (aq _) rfl (by omega) (.inl rfl);have hu:=sorted_unique_holds swo_ltInt (fun x y h1 h2=>by simp [ltInt] at h1 h2;omega) d d' P S;have hd':d'=(d.toList.mergeSort (fun x y=>decide (x<=y))).toArray:=by
  apply Array.toList_inj.1;rw [hu];have:(fun x y:Int=>!ltInt y x)=fun x y=>decide (x<=y):=by
   funext x y;by_cases h:x<=y
   . have h2:¬ y<x:=by omega
     simp [ltInt,h,h2]
   . have h2:y<x:=by omega
     simp [ltInt,h,h2]
  rw [this]
 refine ⟨h',run_eq Wo ?_,by rw [<- hd'];exact g,k⟩;have e:run T 209 [.slice id 0 d.size c,iQ 0,iQ (d.size:Int),iQ ((bitsLen d.size:Nat):Int)] h=some (.tuple [],h'):=e;simp [Td,Bz (n:=d.size) (by omega),MQ h (n:=d.size) (by omega),e]
end
end
end Go.Proofs.YtblhcbmcbhoeiaaGreatDoor.Ev.Srt
namespace Go.Proofs.YtblhcbmcbhoeiaaGreatDoor.Ev
open Go
section
open Go.RowKit Go.Proofs Go.Maps Go.ChangeMaps
theorem Post.T6 {G:Nat} {ρ:eM} {h:AHeap} {w w':World} (r:fw G ρ h w) {o':AObj} {b:Nat} (hb:Below w.heap.size w w') (hnew:w.heap.size<=b) (cs:List Nat) (lbs:List Nat) (hcl:cs.length=lbs.length)
 (hlb:∀ (k:Nat) lb,lbs[k]?=some lb->∃ c,cs[k]?=some c/\lb<=c)
 (hh:o'.holds ⟨ρ.addr++[⟨b,0,none⟩],ρ.cap++cs,ρ.lit⟩ w' ⟨b,0,none⟩) :
 Post G ρ h w ⟨ρ.addr++[⟨b,0,none⟩],ρ.cap++cs,ρ.lit⟩ ⟨h.objs++[o'],h.caps++lbs⟩ w':=by
 have hle:ρ.le ⟨ρ.addr++[⟨b,0,none⟩],ρ.cap++cs,ρ.lit⟩:=⟨⟨_,rfl⟩,⟨_,rfl⟩,⟨[],by simp⟩⟩
 have hold:∀ k,k<w.heap.size->w'.heap[k]?=w.heap[k]?:=fun k hk=>hb.block k hk;have addr':∀ (j:Nat) p c,(h.objs++[o'])[j]?=some p->(ρ.addr++[⟨b,0,none⟩])[j]?=some c->
  (h.objs[j]?=some p/\ρ.addr[j]?=some c)\/(j=h.objs.length/\p=o'/\c=⟨b,0,none⟩):=by
  intro j p c hp hc;rcases dm hp with hp | ⟨hj,rfl⟩
  . have hlt:=(aa.1 hp).1;rw [<- r.jK] at hlt;rw [ay hlt] at hc;exact .inl ⟨hp,hc⟩
  . rcases dm hc with hc | ⟨_,rfl⟩
    . have hlt:=(aa.1 hc).1;rw [r.jK] at hlt;omega
    . exact .inr ⟨hj,rfl,rfl⟩
 have hlt:∀ {j:Nat} {p:AObj} {c:Addr},h.objs[j]?=some p->ρ.addr[j]?=some c->p.live=true->c.block<w.heap.size:=fun h1 h2 h3=>AObj.gU (r.obj _ _ _ h1 h2) h3
 refine ⟨hle,⟨by simp [r.jK],by simp [r.mh,hcl],fun g hg=>cN (r.glob g hg),?_,?_,?_,?_⟩,hb.os,hb.tape,hb.output,hb.size,fun k hk _=>hold k hk,?_,?_,fun _ h=>.inl h⟩
 . intro j p c hp hc
   rcases addr' j p c hp hc with ⟨hp,hc⟩ | ⟨_,rfl,rfl⟩
   . have ho:=r.obj j p c hp hc
     cases hl:p.live with
     | false=>cases p<;>simp_all [AObj.live,AObj.holds]
     | true=>exact AObj.dE hle (AObj.fV hb.size (hold _ (AObj.gU ho hl)) ho)
   . exact hh
 . intro i j p q c d hp hq hc hd hij hpw hql
   rcases addr' i p c hp hc with ⟨hp1,hc1⟩ | ⟨hi,hp1,hc1⟩
   . rcases addr' j q d hq hd with ⟨hq1,hd1⟩ | ⟨_,hq1,hd1⟩
     . exact r.apart i j p q c d hp1 hq1 hc1 hd1 hij hpw hql
     . have:=hlt hp1 hc1 (AObj.cV hpw)
       rw [hd1]
       simp only
       omega
   . rcases addr' j q d hq hd with ⟨hq1,hd1⟩ | ⟨hj,hq1,hd1⟩
     . have:=hlt hq1 hd1 hql
       rw [hc1]
       simp only
       omega
     . omega
 . intro k lb hk
   rcases bH k h.caps.length with hkl | hkl
   . rw [ay hkl] at hk
     have ⟨c,h1,h2⟩:=r.caps k lb hk
     exact ⟨c,cN h1,h2⟩
   . rw [aB hkl] at hk
     have ⟨c,h1,h2⟩:=hlb _ _ hk
     exact ⟨c,by rw [aB (by rw [r.mh];exact hkl),r.mh];exact h1,h2⟩
 . intro x hx
   have ⟨⟨e',h1⟩,h2⟩:=r.lits x hx
   have hxl:=(au.1 h1).1
   refine ⟨⟨e',by rw [hold _ hxl];exact h1⟩,?_⟩
   rintro ⟨j,p,c,hp,hc,hpw,hcb⟩
   rcases addr' j p c hp hc with ⟨hp,hc⟩ | ⟨_,rfl,rfl⟩
   . exact h2 ⟨j,p,c,hp,hc,hpw,hcb⟩
   . simp at hcb;omega
 . rintro k ⟨j,p,c,hp,hc,hpw,rfl⟩
   rcases addr' j p c hp hc with ⟨hp,hc⟩ | ⟨_,rfl,rfl⟩
   . exact .inl ⟨j,p,c,hp,hc,hpw,rfl⟩
   . exact .inr hnew
 . rintro k ⟨j,p,c,hp,hc,hpw,rfl⟩
   rcases addr' j p c hp hc with ⟨hp,hc⟩ | ⟨_,rfl,rfl⟩
   . exact .inl ⟨j,p,c,hp,hc,hpw,rfl⟩
   . exact .inr hnew
set_option maxHeartbeats 4000000 in
theorem Pv (w:World):Calls Tryz.prog 212 #[.slice none 0 0,.int .i64 0,.int .i64 0] w fun e w'=>e=.returned (.tuple #[])/\w'=w:=by go_enter Tryz.func212,Tryz.ntmps212;go_wp2;refine wp_loop_once ?_;go_wp2;go_end0;exact ⟨rfl,rfl⟩
set_option maxHeartbeats 4000000 in
theorem Y2 (w:World):Calls Tryz.prog 210 #[.int .u64 0] w fun e w'=>(∃ n,e=.returned (.int .i64 n))/\w'=w:=by go_enter Tryz.func210,Tryz.ntmps210;go_wp2;go_ret;exact ⟨⟨_,rfl⟩,rfl⟩
set_option maxHeartbeats 4000000 in
theorem YZ (n:Int) (w:World):Calls Tryz.prog 209 #[.slice none 0 0,.int .i64 0,.int .i64 0,.int .i64 n] w fun e w'=>e=.returned (.tuple #[])/\w'=w:=by go_enter Tryz.func209,Tryz.ntmps209;go_wp2;refine wp_loop_once ?_;go_wp2_with (go_at_call 212;refine (Pv _).mono ?_;rintro e w' ⟨rfl,rfl⟩);refine bodyPost_ret (results_none rfl _ _ _) rfl ?_;exact ⟨rfl,rfl⟩
set_option maxHeartbeats 4000000 in
theorem US (w:World):Calls Tryz.prog 204 #[.slice none 0 0] w fun e w'=>e=.returned (.tuple #[])/\w'=w:=by
 go_enter Tryz.func204,Tryz.ntmps204
 go_wp2_with (first
  | (go_at_call 210;refine (Y2 _).mono ?_;rintro e w' ⟨⟨n,rfl⟩,rfl⟩)
  | (go_at_call 209;refine (YZ _ _).mono ?_;rintro e w' ⟨rfl,rfl⟩))
 go_end0;exact ⟨rfl,rfl⟩
def Ud (l:List Int):List Int:=l.mergeSort (fun x y=>decide (x<=y))
theorem Lu {a b:List Int} (h:a.Perm b):Ud a=Ud b:=by
 refine List.Perm.eq_of_pairwise (le:=fun x y=>x<=y) (fun x y _ _ h1 h2=>Int.le_antisymm h1 h2) ?_ ?_ ((Dm a _).trans (h.trans (Dm b _).symm))
 . have:=List.pairwise_mergeSort (le:=fun x y:Int=>decide (x<=y)) (fun x y z h1 h2=>by simp at *;omega) (fun x y=>by simp;omega) a;exact this.imp (by simp)
 . have:=List.pairwise_mergeSort (le:=fun x y:Int=>decide (x<=y)) (fun x y z h1 h2=>by simp at *;omega) (fun x y=>by simp;omega) b;exact this.imp (by simp)
structure Rp (W W':World) (base:Nat) (v:Value) (ss:List Int):Prop where
 below:Below base W W'
 row:(v=.slice none 0 0/\ss=[])\/∃ g cap cur e,v=.slice (some ⟨g,0,none⟩) ss.length cap/\base<=g/\W'.heap[g]?=some (.cells cur e (0,0))/\ss.length<=cap/\cap<=cur.size/\∀ (j:Nat) x,(Ud ss)[j]?=some x->cur[j]?=some (Value.int .u16 x)
theorem OS (W:World) (base:Nat) (v:Value) (ss:List Int) (hrow:W.ownsRow base 85 1 v ss.length (Oy ss)) (hl:ss.length<=1000000) (hz:base<=W.heap.size):Calls Tryz.prog 204 #[v] W fun e W'=>e=.returned (.tuple #[])/\Rp W W' base v ss:=by
 rcases hrow.2 with ⟨rfl,h0⟩ | ⟨g,cap,cur,rfl,hg,hgb,hcap,_,hcs,htake⟩
 . have:ss=[]:=aG h0
   exact (US W).mono fun e W' ⟨h1,h2⟩=>⟨h1,by rw [h2];exact Below.refl _ _,.inl ⟨rfl,this⟩⟩
 . have ⟨hs,ehs⟩:∃ hs:AHeap,hs=⟨[.dead,.dead,.dead,.dead,.cells false (Srt.dK ss.toArray) (some (0,1))],[0]⟩:=⟨_,rfl⟩
   have ⟨ρ,eρ⟩:∃ ρ:eM,ρ=⟨[⟨0,0,none⟩,⟨1,0,none⟩,⟨2,0,none⟩,⟨3,0,none⟩,⟨g,0,none⟩],[cap],[]⟩:=⟨_,rfl⟩
   have five:∀ {i:Nat} {o:AObj},hs.objs[i]?=some o->o=.dead\/(i=4/\o=.cells false (Srt.dK ss.toArray) (some (0,1))):=fun {i o} ho=>by
    rw [ehs] at ho
    match i,ho with
    | 0,ho | 1,ho | 2,ho | 3,ho=>left;cases ho;rfl
    | 4,ho=>right;cases ho;exact ⟨rfl,rfl⟩
    | n+5,ho=>simp at ho
   have four:∀ {a:Addr},ρ.addr[4]?=some a->a=⟨g,0,none⟩:=fun {a} ha=>by rw [eρ] at ha;cases ha;rfl
   have r:fw 4 ρ hs W:=by
    refine ⟨by rw [eρ,ehs];rfl,by rw [eρ,ehs];rfl,fun k hk=>?_,fun i o a ho ha=>?_,fun i j o p a b ho hp ha hb hij hw hlv=>?_,fun k lb hk=>?_,fun x hx=>by rw [eρ] at hx;simp at hx⟩
    . rw [eρ]
      match k,hk with
      | 0,_ | 1,_ | 2,_ | 3,_=>rfl
      | n+4,h=>omega
    . rcases five ho with rfl | ⟨rfl,rfl⟩
      . trivial
      . obtain rfl:=four ha;refine ⟨rfl,cur,85,hgb,fun j u hj=>?_,fun k s hk=>?_⟩
        . simp [Srt.dK,gZ,ae] at hj;obtain ⟨x,hx,rfl⟩:=hj;have hx:ss[j]?=some x:=by simpa using hx
          have hjl:=(aa.1 hx).1;have h1:(Oy ss)[j]?=some (Value.int .u16 x):=by simp [Oy,hx]
          rw [<- htake,aI (by omega)] at h1;exact ⟨_,by simpa using h1,by simp [AV.rel]⟩
        . cases hk;exact ⟨cap,by rw [eρ];rfl,by rw [hcs];simp⟩
    . rcases five ho with rfl | ⟨rfl,rfl⟩
      . simp [AObj.writable] at hw
      . rcases five hp with rfl | ⟨rfl,rfl⟩
        . simp [AObj.live] at hlv
        . exact absurd rfl hij
    . rw [ehs] at hk
      match k,hk with
      | 0,hk=>cases hk;exact ⟨cap,by rw [eρ];rfl,lG _⟩
      | n+1,hk=>simp at hk
   have hA:hs.get 4=some (Qc (Srt.dK ss.toArray) (some (0,1))):=by rw [ehs];rfl
   have ⟨h',e,hA',_⟩:=Srt.OR (c:=.loose 0 0) hA (by simpa using hl);have e:run Srt.T 204 [.slice 4 0 ss.length (.loose 0 0)] hs=some (.tuple [],h'):=by simpa using e
   obtain ⟨n,en⟩:=vQ.1 e;have en:=rq Srt.oX n _ _ _ _ en;have hc:=(PW Srt.LK n _ _ _ _ _ en).2 ρ W [.slice (some ⟨g,0,none⟩) ss.length cap] r (by
    simp only [AV.rels,AV.rel]
    exact ⟨_,_,rfl,⟨⟨g,0,none⟩,cap,by rw [eρ];rfl,⟨cap,by rw [eρ];rfl,rfl⟩,.inl rfl⟩,rfl⟩)
   refine hc.mono fun e W' ⟨ρ',x,h1,h2,post⟩=>?_;simp [AV.rel,AV.rels] at h2;obtain ⟨_,rfl,rfl⟩:=h2;refine ⟨h1,⟨post.os,post.tape,post.output,post.size,fun k hk=>post.keep k (by omega) ?_⟩,.inr ?_⟩
   . rintro ⟨i,o,a,ho,ha,hw,hbk⟩
     rcases five ho with rfl | ⟨rfl,rfl⟩
     . simp [AObj.writable] at hw
     . obtain rfl:=four ha;simp only at hbk;omega
   . have a4:ρ'.addr[4]?=some ⟨g,0,none⟩:=post.le.oF (by rw [eρ];rfl);obtain ⟨_,cur',e',hgb',hcells,hroom⟩:=post.rel.obj 4 _ _ hA' a4;obtain ⟨m,hm1,hm2⟩:=hroom 0 1 rfl;have hm:m=cap:=by have:=post.le.HQ (i:=0) (a:=cap) (by rw [eρ];rfl);rw [this] at hm1;cases hm1;rfl
     refine ⟨g,cap,cur',e',rfl,hg,hgb',hcap,by simp only at hm2;omega,fun j x hx=>?_⟩;obtain ⟨y,hy1,hy2⟩:=hcells j (.int .u16 x) (by simp [Srt.dK];simpa [Ud] using hx);simp only [AV.rel] at hy2;subst hy2;simpa using hy1
set_option maxHeartbeats 4000000 in
theorem Jy (b ck:Nat) (p:Addr) (es:Array MapEntry) (w:World) (hreach:es.size<=1000000) (hBs:w.cell? p=some (.map (some b))) (hk:ru w b ck es) :
 Calls Tryz.prog 191 #[.func (.func 205) #[] #[.pointer (some p)]] w fun e W'=>∃ v ss,e=.returned v/\ss.Perm (qC es)/\(v=.slice none 0 0↔ss=[])/\Rp w W' w.heap.size v ss:=by
 have hlen:(qC es).length<=1000000:=by simp [qC];exact hreach
 have hmax:es.size<=maxLen/\es.size*2<=140737488351232:=⟨by simp [maxLen];omega,by omega⟩
 go_enter Tryz.func191,Tryz.ntmps191;go_wp2_with (first
  | (go_at_call 203;refine (Hm b ck p es hmax w hBs hk).mono ?_;rintro e w' ⟨v,ss,rfl,hS,hrow,hnil,hB⟩)
  | (go_at_call 204;refine (OS _ _ _ _ hrow (by rw [hS.length_eq];exact hlen) hB.size).mono ?_;rintro e w2 ⟨rfl,hup⟩))
 go_ret;exact ⟨v,ss,rfl,hS,hnil,hB.trans hup.below,hup.row⟩
def FSorted:dA:={ntmps:=3,arity:=some 1,results:=[.tmp 2],body:=.seq (.region [⟨some 2,.nat 4 (.tmp 0) (.const (.int .i64 205)),none⟩]) .ret}
theorem Eo (ρ:eM):∀ (es:List (AV×AV)) (l:List MapEntry) (ks:List Int),dw ρ es l->keys16A es=some ks->l.map Es=ks/\∀ e∈l,∃ x,e.key=.int .u16 x
 | [],l,ks,h,hk=>by simp [dw] at h;subst h;simp [keys16A,ai] at hk;subst hk;exact ⟨rfl,by simp⟩
 | e::es,l,ks,h,hk=>by
  simp [dw] at h;obtain ⟨y,ys,rfl,h1,h2,h3⟩:=h;simp [keys16A] at hk;split at hk
  . rename_i n r he hr;cases hk;have ⟨q1,q2⟩:=Eo ρ es ys r h3 hr;rw [he] at h1;simp [AV.rel] at h1;refine ⟨by rw [aR,q1];simp [Es,h1],fun z hz=>?_⟩;rcases aD.1 hz with rfl | hz
    . exact ⟨n,h1⟩
    . exact q2 z hz
  . cases hk
theorem Kc:pL Tryz.prog 4 191 FSorted:=by
 intro call hcall args h v h' hfit he
 have hlen:args.length=1:=by simpa [dA.fits,FSorted] using hfit
 obtain ⟨x,rfl⟩:∃ x,args=[x]:=by
  match args,hlen with
  | [x],_=>exact ⟨x,rfl⟩
 refine ⟨fun xs w=>jn Tryz.func191 (by kernel_rfl) rfl xs w,fun ρ w xs r hx=>?_⟩
 simp only [AV.rels] at hx
 obtain ⟨x0,_,rfl,hx0,rfl⟩:=hx
 have key:∃ c o j es bs ck ks,x=.func 205 [] [.ptr c o]/\h.cell c o=some (.map j)/\h.objs[j]?=some (.map es bs ck)/\fh bs ck=true/\es.length<=1000000/\keys16A es=some ks/\((ks=[]/\v=.nilslice/\h'=h)\/(ks≠[]/\v=.slice h.objs.length 0 ks.length (.loose h.caps.length 0)/\h'=⟨h.objs++[.cells false ((Ud ks).map (.int .u16 ·)) (some (h.caps.length,1))],h.caps++[ks.length]⟩)):=by
  cases hn:natA h 4 x (.int .i64 205) with
  | none=>simp [FSorted,evBody,evCode,evOps,evOper,evAny,evOp,evOpE,wantedA,enterA,AFrame.eval,hn] at he
  | some q=>
   have ⟨v',g⟩:=q
   simp [FSorted,evBody,evCode,evOps,evOper,evAny,evOp,evOpE,wantedA,enterA,AFrame.eval,AFrame.putD,hn,resOf,resVs,resV] at he
   obtain ⟨rfl,rfl⟩:=he
   cases x with
   | func f fst cap=>
    match fst,cap,hn with
    | [],[.ptr c o],hn2=>
     simp only [natA] at hn2
     cases hc:h.cell c o with
     | none=>rw [hc] at hn2;simp at hn2
     | some u=>
      rw [hc] at hn2
      cases u with
      | map j=>
       simp only at hn2
       split at hn2
       . rename_i es bs ck ho
         split at hn2
         . rename_i hf
           obtain ⟨hf1,hf2,hf3⟩:=hf
           obtain rfl:f=205:=by omega
           split at hn2
           . rename_i hks
             cases hn2
             exact ⟨c,o,j,es,bs,ck,[],rfl,hc,ho,hf2,hf3,hks,.inl ⟨rfl,rfl,rfl⟩⟩
           . rename_i ks hne hks
             cases hn2
             exact ⟨c,o,j,es,bs,ck,ks,rfl,hc,ho,hf2,hf3,hks,.inr ⟨fun e=>hne e,rfl,rfl⟩⟩
           . cases hn2
         . cases hn2
       . cases hn2
      | _=>simp at hn2
   | _=>simp [natA] at hn
 obtain ⟨c,o,j,es,bs,ck,ks,rfl,hc,ho,hbo,hel,hks,hres⟩:=key
 simp only [AV.rel,AV.rels] at hx0
 obtain ⟨x',y',rfl,⟨y1,_,rfl,⟨a,ha,rfl⟩,rfl⟩,rfl⟩:=hx0
 obtain ⟨sv,hsv,hru⟩:=jW r hc ha
 obtain ⟨b,hb1,rfl⟩:=jz hru
 obtain ⟨l,h1,h2,h3⟩:=gr r ho hb1
 obtain ⟨hkv,hkeys⟩:=Eo ρ es l.toList ks h2 hks
 have hkv:qC l=ks:=hkv
 simp only [fh,aA,decide_eq_true_eq,aQ] at hbo
 have hll:l.size=ks.length:=by rw [<- hkv];simp [qC]
 have hkl:ks.length<=1000000:=by
  have:∀ (es:List (AV×AV)) (ks:List Int),keys16A es=some ks->ks.length=es.length:=by
   intro es
   induction es with
   | nil=>intro ks h;simp only [keys16A,ai] at h;subst h;rfl
   | cons e es ih=>
    intro ks h
    simp only [keys16A] at h
    split at h
    . rename_i n r' he hr
      cases h
      simp [ih r' hr]
    . cases h
  rw [this es ks hks];exact hel
 have hK:ru w b.block ck l:=⟨h1,fun e he=>by rw [<- h3] at hbo;exact hbo.2 e.born (bQ he),by rw [h3];exact hbo.1,hkeys⟩
 refine (Jy b.block ck _ l w (by omega) hsv hK).mono fun e w' ⟨v',ss,he,hS,hnil,hup⟩=>?_
 rw [hkv] at hS
 rcases hres with ⟨hk0,rfl,rfl⟩ | ⟨hk0,rfl,rfl⟩
 . rcases hup.row with ⟨rfl,_⟩ | ⟨g,cap,cur,e',rfl,hg,hgb,hcap,hcs,hcell⟩
   . exact ⟨ρ,_,he,by simp only [AV.rel],Post.more r hup.below⟩
   . rw [hk0] at hS
     have:=hnil.2 (List.Perm.eq_nil hS)
     cases this
 . rcases hup.row with ⟨rfl,h0⟩ | ⟨g,cap,cur,e',rfl,hg,hgb,hcap,hcs,hcell⟩
   . rw [h0] at hS
     exact absurd hS.nil_eq.symm hk0
   . have hsl:ss.length=ks.length:=hS.length_eq
     have post:=Post.T6 (o':=.cells false ((Ud ks).map (.int .u16 ·)) (some (h.caps.length,1))) r hup.below hg [cap] [ks.length] rfl
      (fun k lb hk=>by
       cases k with
       | zero=>simp at hk;subst hk;exact ⟨cap,rfl,by omega⟩
       | succ k=>simp at hk)
      ⟨rfl,cur,e',hgb,fun k z hz=>by
       simp only [gZ,ae] at hz
       obtain ⟨x,hx,rfl⟩:=hz
       rw [<- Lu hS] at hx
       exact ⟨_,by simpa using hcell k x hx,by simp only [AV.rel]⟩,
      fun k s hks=>by
       cases hks
       exact ⟨cap,by rw [<- r.mh,aB (aq _)];simp,by simp;omega⟩⟩
     refine ⟨_,_,he,?_,post⟩
     rw [hsl]
     simp only [AV.rel]
     exact ⟨⟨g,0,none⟩,cap,by rw [<- r.jK,aB (aq _)];simp,⟨cap,by rw [<- r.mh,aB (aq _)];simp,rfl⟩,.inl rfl⟩
end
section
open Tryz
set_option maxHeartbeats 4000000
def YJ : dA := FDue
def YB : dA := mU
def Qw : dA := FClone
def Qv : dA := FClone
def HE : dA := { ntmps := 23, arity := some 1, results := [], body := .seq (.seq (.region [
    ⟨(some 3), .mv (.tmp 0), none⟩])
  (.seq (.region [
    ⟨(some 4), .mv (.tmp 0), none⟩,
    ⟨(some 5), .nilCheck (.tmp 4), none⟩,
    ⟨(some 6), .fieldAddr 4 (.tmp 5), none⟩,
    ⟨(some 7), .load1 (.tmp 6), none⟩,
    ⟨(some 8), .lenS (.tmp 7), none⟩,
    ⟨(some 9), .mv (.const (.int .i64 0)), none⟩])
  (.block 0 (.loop (.seq (.region [
      ⟨(some 10), .bin .lss (.tmp 9) (.tmp 8), none⟩])
    (.seq (.cond (.tmp 10)
      (.skip)
      (.exit 0))
    (.seq (.block 1 (.seq (.region [
      ⟨(some 11), .mv (.tmp 9), none⟩,
      ⟨(some 2), .mv (.tmp 11), none⟩])
    (.draw [
      (⟨(some 12), .mv (.tmp 0), none⟩, .still),
      (⟨(some 13), .nilCheck (.tmp 12), none⟩, .still),
      (⟨(some 14), .fieldAddr 0 (.tmp 13), none⟩, .still),
      (⟨(some 15), .load1 (.tmp 14), none⟩, .reads 0 1),
      (⟨(some 16), .mv (.tmp 2), none⟩, .still),
      (⟨(some 17), .mv (.tmp 0), none⟩, .still),
      (⟨(some 18), .mv (.tmp 2), none⟩, .still),
      (⟨(some 19), .call 164 [(.tmp 17), (.tmp 18)], none⟩, .loud),
      (⟨(some 20), .build [(.int .u8 0), (.int .u8 0), (.int .i64 0), (.int .i64 0), (.int .i64 0)] [((2, 1), (.tmp 16)), ((1, 1), (.tmp 19))], none⟩, .still),
      (⟨(some 21), .call 10 [(.tmp 15), (.tmp 20)], none⟩, .loud)])))
    (.region [
      ⟨(some 22), .bin .add (.tmp 9) (.const (.int .i64 1)), none⟩,
      ⟨(some 9), .mv (.tmp 22), none⟩])))))))) (.region [⟨none, .call 163 [.tmp 3], none⟩]) }
def N0 : dA := FSorted
noncomputable def FR:List (Nat×Func×dA):=[(3,f3,F3),(4,f4,F4),(6,f6,F6),(7,f7,F7),(8,f8,F8),(9,f9,F9),(10,f10,Ob),(11,f11,F11),(12,f12,F12),(13,f13,F13),(14,f14,F14),(15,f15,F15),(16,f16,F16),(17,f17,F17),(18,f18,F18),(19,f19,F19),(20,f20,F20),(21,f21,YO),(22,f22,F22),(23,f23,F23),(24,f24,F24),(25,f25,F25),(26,f26,F26),(27,f27,F27),(28,f28,XP),(29,f29,F29),(30,f30,F30),(31,f31,Lj),(32,f32,F32),(33,f33,F33),(34,f34,YN),(35,f35,YM),(36,f36,YL),(37,f37,XO),(38,f38,F38),(39,f39,F39),(40,f40,F40),(41,f41,F41),(42,f42,F42),(43,f43,YK),(45,f45,F45),(46,f46,F46),(47,f47,YI),(48,f48,F48),(49,f49,F49),(50,f50,F50),(51,f51,F51),(52,f52,F52),(53,f53,YH),(54,f54,XN),(55,f55,F55),(56,f56,F56),(57,f57,YG),(58,f58,YF),(59,f59,YE),(60,f60,F60),(61,f61,F61),(62,f62,YD),(63,f63,F63),(64,f64,F64),(65,f65,F65),(66,f66,F66),(67,f67,F67),(68,f68,F68),(69,f69,F69),(70,f70,F70),(71,f71,F71),(72,f72,Oq),(73,f73,F73),(74,f74,F74),(75,f75,XM),(76,f76,F76),(77,f77,F77),(78,f78,YC),(79,f79,XL),(80,f80,F80),(81,f81,UD),(82,f82,F82),(83,f83,F83),(84,f84,F84),(85,f85,F85),(86,f86,F86),(87,f87,F87),(89,f89,F89),(90,f90,XK),(91,f91,YA),(92,f92,F92),(93,f93,F93),(94,f94,F94),(95,f95,XJ),(96,f96,Yz),(97,f97,Yy),(98,f98,Oo),(99,f99,F99),(100,f100,QA),(101,f101,TZ),(102,f102,F102),(103,f103,TY),(104,f104,F104),(105,f105,F105),(106,f106,Qz),(107,f107,TX),(108,f108,TW),(109,f109,Oa),(110,f110,TV),(111,f111,F111),(112,f112,TU),(113,f113,F113),(114,f114,F114),(115,f115,TT),(116,f116,Qy),(117,f117,F117),(118,f118,TS),(119,f119,TR),(120,f120,TQ),(121,f121,N9),(122,f122,Qx),(123,f123,TP),(126,f126,TO),(127,f127,Lg),(128,f128,TN),(129,f129,F129),(130,f130,HF),(131,f131,Qu),(133,f133,TM),(134,f134,F134),(135,f135,TL),(136,f136,TK),(137,f137,TJ),(138,f138,TI),(139,f139,TH),(140,f140,F140),(141,f141,HD),(142,f142,F142),(143,f143,TG),(144,f144,N8),(145,f145,Qt),(146,f146,TF),(147,f147,Qs),(148,f148,F148),(149,f149,Qr),(150,f150,TE),(151,f151,Qq),(152,f152,N7),(153,f153,F153),(154,f154,F154),(155,f155,F155),(156,f156,N6),(157,f157,TD),(158,f158,N5),(159,f159,F159),(161,f161,TC),(162,f162,TB),(163,f163,Qp),(164,f164,Lf),(165,f165,TA),(166,f166,Tz),(167,f167,F167),(168,f168,Ty),(169,f169,Tx),(170,f170,Tw),(171,f171,Tv),(172,f172,Tu),(173,f173,Tt),(174,f174,F174),(175,f175,Qo),(176,f176,Ts),(177,f177,Tr),(178,f178,Qn),(179,f179,Qm),(180,f180,Ql),(181,f181,Tq),(182,f182,Qk),(183,f183,Tp),(184,f184,N4),(185,f185,To),(186,f186,N3),(187,f187,N2),(188,f188,N1),(189,f189,Tn),(190,f190,Tl),(192,f192,Qj),(193,f193,Tk),(194,f194,Qi),(195,f195,Dg),(196,f196,F196),(197,f197,Tj),(198,f198,Ti),(199,f199,Th),(200,f200,Tg),(201,f201,Tf),(202,f202,Te),(206,f206,Tc),(207,f207,Tb),(211,f211,S8)]
noncomputable def tabN:List (Nat×dA):=[(44,YJ),(88,YB),(124,Qw),(125,Qv),(132,HE),(191,N0)]
noncomputable def T:gO:=fun f=>(look FR f).or ((tabN.find? fun p=>Nat.beq p.1 f).map (·.2))
def T_7:T 7=some F7:=rfl
def T_8:T 8=some F8:=rfl
def T_9:T 9=some F9:=rfl
def Fu:T 10=some Ob:=rfl
def aal:T 11=some F11:=rfl
def aak:T 12=some F12:=rfl
def aaj:T 13=some F13:=rfl
def aai:T 14=some F14:=rfl
def aah:T 15=some F15:=rfl
def aag:T 16=some F16:=rfl
def aaf:T 17=some F17:=rfl
def aae:T 18=some F18:=rfl
def aad:T 19=some F19:=rfl
def aac:T 20=some F20:=rfl
def Wk:T 21=some YO:=rfl
def aab:T 22=some F22:=rfl
def aaa:T 23=some F23:=rfl
def Z8:T 25=some F25:=rfl
def Z7:T 26=some F26:=rfl
def Z6:T 27=some F27:=rfl
def V0:T 28=some XP:=rfl
def Z5:T 29=some F29:=rfl
def Z4:T 30=some F30:=rfl
def Ld:T 31=some Lj:=rfl
def T_32:T 32=some F32:=rfl
def Z3:T 33=some F33:=rfl
def VZ:T 34=some YN:=rfl
def Z2:T 35=some YM:=rfl
def Z1:T 36=some YL:=rfl
def SC:T 37=some XO:=rfl
def Z0:T 38=some F38:=rfl
def ZZ:T 39=some F39:=rfl
def ZY:T 40=some F40:=rfl
def ZX:T 41=some F41:=rfl
def ZW:T 42=some F42:=rfl
def ZV:T 43=some YK:=rfl
def ZU:T 44=some YJ:=rfl
def ZT:T 45=some F45:=rfl
def ZS:T 46=some F46:=rfl
def VY:T 47=some YI:=rfl
def ZR:T 48=some F48:=rfl
def ZQ:T 49=some F49:=rfl
def ZO:T 50=some F50:=rfl
def ZN:T 51=some F51:=rfl
def ZM:T 52=some F52:=rfl
def VX:T 53=some YH:=rfl
def VW:T 54=some XN:=rfl
def ZL:T 55=some F55:=rfl
def ZK:T 56=some F56:=rfl
def VV:T 57=some YG:=rfl
def VU:T 58=some YF:=rfl
def VT:T 59=some YE:=rfl
def ZI:T 60=some F60:=rfl
def ZH:T 61=some F61:=rfl
def VS:T 62=some YD:=rfl
def ZG:T 63=some F63:=rfl
def ZF:T 64=some F64:=rfl
def ZE:T 65=some F65:=rfl
def ZC:T 66=some F66:=rfl
def Zz:T 67=some F67:=rfl
def Zy:T 68=some F68:=rfl
def Zx:T 69=some F69:=rfl
def VR:T 70=some F70:=rfl
def T_71:T 71=some F71:=rfl
def Zw:T 72=some Oq:=rfl
def T_73:T 73=some F73:=rfl
def T_74:T 74=some F74:=rfl
def VQ:T 75=some XM:=rfl
def Zv:T 76=some F76:=rfl
def Zu:T 77=some F77:=rfl
def VP:T 78=some YC:=rfl
def VO:T 79=some XL:=rfl
def T_80:T 80=some F80:=rfl
def SB:T 81=some UD:=rfl
def Zt:T 82=some F82:=rfl
def T_83:T 83=some F83:=rfl
def Zr:T 84=some F84:=rfl
def Zq:T 85=some F85:=rfl
def Zp:T 86=some F86:=rfl
def Zo:T 87=some F87:=rfl
def Zn:T 88=some YB:=rfl
def Zm:T 89=some F89:=rfl
def SA:T 90=some XK:=rfl
def VN:T 91=some YA:=rfl
def Zl:T 92=some F92:=rfl
def Zk:T 93=some F93:=rfl
def Zj:T 94=some F94:=rfl
def Zi:T 95=some XJ:=rfl
def Zh:T 96=some Yz:=rfl
def VM:T 97=some Yy:=rfl
def Zg:T 98=some Oo:=rfl
def Zf:T 99=some F99:=rfl
def Rm:T 100=some QA:=rfl
def Xz:T 101=some TZ:=rfl
def T_102:T 102=some F102:=rfl
def Xy:T 103=some TY:=rfl
def T_104:T 104=some F104:=rfl
def T_105:T 105=some F105:=rfl
def Xx:T 106=some Qz:=rfl
def Xw:T 107=some TX:=rfl
def Xv:T 108=some TW:=rfl
def Xu:T 109=some Oa:=rfl
def Xt:T 110=some TV:=rfl
def T_111:T 111=some F111:=rfl
def Xs:T 112=some TU:=rfl
def T_113:T 113=some F113:=rfl
def jG:T 114=some F114:=rfl
def Xr:T 115=some TT:=rfl
def Xq:T 116=some Qy:=rfl
def T_117:T 117=some F117:=rfl
def Xp:T 118=some TS:=rfl
def Xo:T 119=some TR:=rfl
def Xn:T 120=some TQ:=rfl
def Rl:T 121=some N9:=rfl
def Rk:T 122=some Qx:=rfl
def Xm:T 123=some TP:=rfl
def Xl:T 124=some Qw:=rfl
def Xk:T 125=some Qv:=rfl
def Xj:T 126=some TO:=rfl
def Rj:T 127=some Lg:=rfl
def Xi:T 128=some TN:=rfl
def Ri:T 129=some F129:=rfl
def Xh:T 130=some HF:=rfl
def Rh:T 131=some Qu:=rfl
def Rf:T 132=some HE:=rfl
def Xg:T 133=some TM:=rfl
def T_134:T 134=some F134:=rfl
def Xf:T 135=some TL:=rfl
def Xe:T 136=some TK:=rfl
def Xd:T 137=some TJ:=rfl
def Xc:T 138=some TI:=rfl
def Xb:T 139=some TH:=rfl
def Xa:T 140=some F140:=rfl
def W9:T 141=some HD:=rfl
def W8:T 142=some F142:=rfl
def W7:T 143=some TG:=rfl
def W6:T 144=some N8:=rfl
def W5:T 145=some Qt:=rfl
def W4:T 146=some TF:=rfl
def Re:T 147=some Qs:=rfl
def T_148:T 148=some F148:=rfl
def Rd:T 149=some Qr:=rfl
def W2:T 150=some TE:=rfl
def T_151:T 151=some Qq:=rfl
def NS:T 152=some N7:=rfl
def T_153:T 153=some F153:=rfl
def T_154:T 154=some F154:=rfl
def W1:T 155=some F155:=rfl
def WZ:T 156=some N6:=rfl
def WY:T 157=some TD:=rfl
def WX:T 158=some N5:=rfl
def T_159:T 159=some F159:=rfl
def WW:T 161=some TC:=rfl
def WV:T 162=some TB:=rfl
def NR:T 163=some Qp:=rfl
def Rc:T 164=some Lf:=rfl
def WU:T 165=some TA:=rfl
def WT:T 166=some Tz:=rfl
def WS:T 167=some F167:=rfl
def WR:T 168=some Ty:=rfl
def WQ:T 169=some Tx:=rfl
def WO:T 170=some Tw:=rfl
def WN:T 171=some Tv:=rfl
def WM:T 172=some Tu:=rfl
def WL:T 173=some Tt:=rfl
def T_174:T 174=some F174:=rfl
def Rb:T 175=some Qo:=rfl
def WK:T 176=some Ts:=rfl
def WJ:T 177=some Tr:=rfl
def Ra:T 178=some Qn:=rfl
def Q9:T 179=some Qm:=rfl
def Q8:T 180=some Ql:=rfl
def WI:T 181=some Tq:=rfl
def Q7:T 182=some Qk:=rfl
def WH:T 183=some Tp:=rfl
def WG:T 184=some N4:=rfl
def WE:T 185=some To:=rfl
def WD:T 186=some N3:=rfl
def WC:T 187=some N2:=rfl
def WB:T 188=some N1:=rfl
def WA:T 189=some Tn:=rfl
def Wz:T 190=some Tl:=rfl
def Q6:T 191=some N0:=rfl
def Q5:T 192=some Qj:=rfl
def Wy:T 193=some Tk:=rfl
def Wx:T 194=some Qi:=rfl
def IX:T 195=some Dg:=rfl
def Ww:T 196=some F196:=rfl
def Wv:T 197=some Tj:=rfl
def Wu:T 198=some Ti:=rfl
def Wt:T 199=some Th:=rfl
def Ws:T 200=some Tg:=rfl
def Wr:T 201=some Tf:=rfl
def Wq:T 202=some Te:=rfl
def Wn:T 206=some Tc:=rfl
def Wm:T 207=some Tb:=rfl
def Wi:T 211=some S8:=rfl
theorem DH:SI FR:=by unfold SI;kernel_rfl
theorem At {f : Nat} {F : dA} (h:T f=some F):look FR f=some F ∨ (f,F)∈tabN:=by
  unfold T at h
  cases e:look FR f with
  | some x=>rw [e] at h;exact .inl h
  | none=>
    rw [e] at h;simp only [Option.none_or] at h
    obtain ⟨p,hp,rfl⟩:=ae.1 h
    have h1:p.1=f:=by have:=List.find?_some hp;exact Nat.eq_of_beq_eq_true this
    rw [← h1];exact .inr (List.mem_of_find?_eq_some hp)
theorem Jp (f : Nat) (F : dA) (h:T f=some F):(∃ fn,Tryz.prog.funcs[f]?=some fn∧jE Tryz.prog 4 fn=some F) ∨ (f=44∧F=YJ) ∨ (f=88∧F=YB) ∨ (f=124∧F=Qw) ∨ (f=125∧F=Qv) ∨ (f=132∧F=HE) ∨ (f=191∧F=N0):=by
  rcases At h with h | h
  · exact .inl (DH.ok h).1
  · right;simpa [tabN] using h
theorem oX:wo T:=fun f F h=>by
  rcases At h with h | h
  · exact (DH.ok h).2
  · exact aQ.1 (show (tabN.all fun p=>p.2.body.within p.2.ntmps)=true by kernel_rfl) _ h
end
section
def wordsA (ws:List Int):List AV:=ws.map (.int .u64 ·)
@[simp] theorem RC {ws:List Int}:(wordsA ws).length=ws.length:=by simp [wordsA]
def wd (ws:List Int) (k:Nat):Int:=ws.getD k 0
theorem lx {ws:List Int} {k:Nat} (hk:k<ws.length):(wordsA ws)[k]?=some (uQ (wd ws k)):=by simp [wordsA,wd,hk]
theorem words_set {ws:List Int} {k:Nat} {x:Int} (hk:k<ws.length):splice (wordsA ws) k [uQ x]=wordsA (ws.set k x):=by rw [lK (by simpa using hk)];simp [wordsA,vI]
theorem tl {ws:List Int} {k j:Nat} {x:Int} (hk:k<ws.length):wd (ws.set k x) j=if j=k then x else wd ws j:=by
 simp [wd,aO];by_cases h:j=k
 . subst h;simp [hk]
 . rw [if_neg h,aj (aY h)]
def MemAt (h:AHeap) (i j:Nat) (ws:List Int) (cnt:Int):Prop:=
 i≠j/\∃ c ri rj,h.get i=some (.cells false [.slice j 0 ws.length c,.int .i64 cnt] ri)/\h.get j=some (.cells false (wordsA ws) rj)/\h.within ws.length c=true
theorem MemAt.keep {h h':AHeap} {i j:Nat} {ws:List Int} {cnt:Int} {G:List Nat} (m:MemAt h i j ws cnt) (k:Keep G h h') (hi:i∉G) (hj:j∉G):MemAt h' i j ws cnt:=by have ⟨ne,c,ri,rj,h1,h2,h3⟩:=m;exact ⟨ne,c,ri,rj,k.obj h1 hi,k.obj h2 hj,fv h3 k⟩
theorem MemAt.lt {h:AHeap} {i j:Nat} {ws:List Int} {cnt:Int} (m:MemAt h i j ws cnt):i<h.size/\j<h.size:=by have ⟨ne,c,ri,rj,h1,h2,h3⟩:=m;exact ⟨get_lt h1,get_lt h2⟩
abbrev up (cnt:Int):Int:=IntKind.wrap .i64 (cnt+1)
section
variable {h:AHeap} {i j:Nat} {ws:List Int} {cnt k:Int}
theorem Pk (m:MemAt h i j ws cnt):run T 122 [.ptr i 0] h=some (iQ ws.length,h):=by have ⟨ne,c,ri,rj,h1,h2,h3⟩:=m;refine run_eq Rk ?_;simp [Qx,h1]
theorem Cm (m:MemAt h i j ws cnt) (h0:0<=k) (hk:k<ws.length):∃ h',run T 81 [.ptr i 0,iQ k] h=some (.ptr j k.toNat,h')/\MemAt h' i j ws (up cnt)/\Keep [i] h h':=by have el:=Pk m;have ⟨ne,c,ri,rj,h1,h2,h3⟩:=m;refine ⟨h.put i (Qc [.slice j 0 ws.length c,iQ (up cnt)] ri),run_eq SB ?_,⟨ne,c,ri,rj,by rw [get_put_same,h1];rfl,by rw [get_put_ne (aY ne),h2],h3⟩,Keep.put (by simp)⟩;simp [UD,el,h1,Int.not_le.2 hk,hk,Int.not_lt.2 h0,h0,idxAddrV,up]
def aar (p:AV) (k:Int) (h:AHeap):Prop:=run T 81 [p,.int .i64 k] h=some (.nilptr,h)
theorem Cl {h1:AHeap} (m:MemAt h1 i j ws cnt) {n:Nat} (hn:n<ws.length) (x:Int):h1.write j n [uQ x]=some (h1.put j (Qc (wordsA (ws.set n x)) (match h1.get j with | some (.cells _ _ r)=>r | _=>none)))/\MemAt (h1.put j (Qc (wordsA (ws.set n x)) (match h1.get j with | some (.cells _ _ r)=>r | _=>none))) i j (ws.set n x) cnt:=by have ⟨ne,c,ri,rj,h1',h2,h3⟩:=m;simp only [h2];refine ⟨?_,ne,c,ri,rj,by rw [get_put_ne ne,h1',bV],by rw [get_put_same,h2];rfl,by rw [bV];exact h3⟩;simp only [write_eq,h2,writeOf_some];rw [if_pos ⟨by simp;omega,rfl⟩,words_set hn]
theorem Eh (m:MemAt h i j ws cnt) (h0:0<=k) (hk:k<ws.length):∃ h',run T 37 [.ptr i 0,iQ k] h=some (uQ (wd ws k.toNat),h')/\MemAt h' i j ws (up cnt)/\Keep [i,j] h h':=by have ⟨h1,e1,m1,k1⟩:=Cm m h0 hk;refine ⟨h1,run_eq SC ?_,m1,k1.mono (by simp)⟩;have ⟨ne,c,ri,rj,g1,g2,g3⟩:=m1;have hw:=lx (ws:=ws) (k:=k.toNat) (by omega);simp [XO,e1,g2,hw]
theorem Au (m:MemAt h i j ws cnt) (h0:0<=k) (hk:k<ws.length) (x:Int):∃ h',run T 157 [.ptr i 0,iQ k,uQ x] h=some (.bool true,h')/\MemAt h' i j (ws.set k.toNat x) (up cnt)/\Keep [i,j] h h':=by have ⟨h1,e1,m1,k1⟩:=Cm m h0 hk;have ⟨e2,m2⟩:=Cl m1 (n:=k.toNat) (by omega) x;refine ⟨_,run_eq WY ?_,m2,(k1.mono (by simp)).trans' (Keep.put (by simp))⟩;simp [write_eq] at e2;simp [TD,e1,e2]
theorem rK (m:MemAt h i j ws cnt) (h0:0<=k) (hk:k<ws.length) (x y:Int):∃ h',run T 97 [.ptr i 0,iQ k,uQ x,uQ y] h=some (.bool (decide (wd ws k.toNat=x)),h')/\MemAt h' i j (if wd ws k.toNat=x then ws.set k.toNat y else ws) (up cnt)/\Keep [i,j] h h':=by
 have ⟨h1,e1,m1,k1⟩:=Cm m h0 hk;have m1':=m1;have ⟨ne,c,ri,rj,g1,g2,g3⟩:=m1';have hw:=lx (ws:=ws) (k:=k.toNat) (by omega);by_cases hx:wd ws k.toNat=x
 . rw [if_pos hx];have ⟨e2,m2⟩:=Cl m1 (n:=k.toNat) (by omega) y;refine ⟨_,run_eq VM ?_,m2,(k1.mono (by simp)).trans' (Keep.put (by simp))⟩;simp [write_eq,g2] at e2;simp [Yy,e1,g2,hw,hx,e2]
 . rw [if_neg hx];refine ⟨h1,run_eq VM ?_,m1,k1.mono (by simp)⟩;simp [Yy,e1,g2,hw,hx]
theorem qk (m:MemAt h i j ws cnt) (h0:0<=k) (hk:k<ws.length) (d:Int):∃ h',run T 115 [.ptr i 0,iQ k,iQ d] h=some (uQ ((wd ws k.toNat+d) % 18446744073709551616),h')/\MemAt h' i j (ws.set k.toNat ((wd ws k.toNat+d) % 18446744073709551616)) (up cnt)/\Keep [i,j] h h':=by
 have ⟨h1,e1,m1,k1⟩:=Cm m h0 hk;have m1':=m1;have ⟨ne,c,ri,rj,g1,g2,g3⟩:=m1';have hw:=lx (ws:=ws) (k:=k.toNat) (by omega);have ⟨e2,m2⟩:=Cl m1 (n:=k.toNat) (by omega) ((wd ws k.toNat+d) % 18446744073709551616);refine ⟨_,run_eq Xr ?_,m2,(k1.mono (by simp)).trans' (Keep.put (by simp))⟩;have ⟨_,c2,ri2,rj2,q1,q2,q3⟩:=m2;have hw2:=lx (ws:=ws.set k.toNat ((wd ws k.toNat+d) % 18446744073709551616)) (k:=k.toNat) (by simp;omega);rw [tl (by omega),if_pos rfl] at hw2;have hx:IntKind.wrap .u64 (wd ws k.toNat+IntKind.wrap .u64 d)=(wd ws k.toNat+d) % 18446744073709551616:=by rw [eP,eP];omega
 simp [write_eq,g2] at e2;simp [TT,e1,g2,hw,hx,e2,hw2]
theorem Pf (h:AHeap) (n:Int):∃ h' i j,run T 49 [iQ n] h=some (.ptr i 0,h')/\MemAt h' i j (List.replicate (min (max 0 n) 65536).toNat 0) 0/\Keep [] h h'/\h.size<=i/\h.size<=j:=by
 obtain ⟨m,hm⟩:∃ m:Nat,min (max 0 n) 65536=(m:Int):=⟨(min (max 0 n) 65536).toNat,by omega⟩
 rw [hm,aC];have hb:(m:Int)*8<=bigA/\m<=bigA:=by simp [bigA];omega
 refine ⟨(h.push (Qc (wordsA (List.replicate m 0)) none)).push (Qc [.slice h.size 0 m (.exact m),iQ 0] none),h.size+1,h.size,run_eq ZQ ?_,⟨by omega,.exact m,none,none,?_,?_,by simp [AHeap.within]⟩,Keep.push.trans' Keep.push,by omega,by omega⟩
 . simp [F49,hm,hb,jw,wordsA]
 . rw [List.length_replicate,<- dH (h:=h) (x:=.cells false (wordsA (List.replicate m 0)) none),ak]
 . exact aJ ak
section
variable {p:AV} {k:Int} {h:AHeap} (n:aar p k h)
include n
end
end
end
section
structure mS (h:AHeap):Prop where
 g:h.get 0=some globN
 r:∀ (k:Nat) vs,nextRows[k]?=some vs->h.get (4+k)=some (dv .u64 vs)
theorem mS.keep {h h':AHeap} {G:List Nat} (n:mS h) (k:Keep G h h') (hG:∀ t∈G,11<=t):mS h':=by refine ⟨k.obj n.g (fun hm=>by have:=hG 0 hm;omega),fun j vs hj=>k.obj (n.r j vs hj) (fun hm=>?_)⟩;have:=hG _ hm;have:=(aa.1 hj).1;simp [nextRows] at this;omega
theorem oc {x1 x2:AObj} {args:List AObj}:mS (uH globN x1 x2 args):=by
 refine ⟨rfl,fun k vs hk=>?_⟩;match k with
 | 0=>cases hk;rfl
 | 1=>cases hk;rfl
 | 2=>cases hk;rfl
 | 3=>cases hk;rfl
 | 4=>cases hk;rfl
 | 5=>cases hk;rfl
 | 6=>cases hk;rfl
 | k+7=>simp [nextRows] at hk
section
variable {h:AHeap} {xs:List Int} {F:List Nat} {s:AV}
def SM (h:AHeap) (xs:List Int) (s:AV) (x:Int) (n:Nat) (fr:FF) (g:AHeap):Prop:=∃ c:Nat,c+n=xs.length/\g=h/\(∀ t<c,xs[t]?≠some x)/\fr.get 0=s/\fr.get 1=.int .u64 x/\fr.get 7=.int .i64 xs.length/\fr.get 8=.int .i64 c
theorem Ky (v:dz h 1 (wordsA xs) F s) (hb:xs.length<=1000000) (x:Int):∃ r,run T 162 [s,uQ x] h=some (iQ r,h)/\(0<=r↔x∈xs):=by
 have hl:=v.my;simp at hl;suffices hw:∃ v' h',run T 162 [s,uQ x] h=some (v',h')/\((0<=(match v' with | .int _ r=>r | _=>0)↔x∈xs)/\(∃ r,v'=iQ r)/\h'=h) by obtain ⟨v',h',e,h1,⟨r,rfl⟩,rfl⟩:=hw;exact ⟨r,e,h1⟩
 refine dQ WV ?_;simp [TB,hl];refine Wp.loop (SM h xs s x) xs.length lQ ?_ ?_
 . exact ⟨0,by simp,rfl,by simp,by simp⟩
 rintro n fr g ⟨c,hc,rfl,hne,s0,s1,s7,s8⟩;by_cases hcl:c<xs.length
 . have hg:(wordsA xs)[c]?=some (uQ xs[c]):=by simp [wordsA,hcl]
   have ⟨j,o,h1,h2,h3⟩:=v.vM hg;by_cases hx:x=xs[c]
   . simp [s0,s1,s7,s8,hcl,h1,h3,<- hx];rw [hx];exact j6 hcl
   . simp [s0,s1,s7,s8,hcl,h1,h3,hx];refine ⟨n-1,by omega,c+1,by omega,rfl,fun t ht=>?_,by simp [s0,s1,s7,wrap_nat (c:=c) (by omega)]⟩;rcases tc.1 ht with ht | rfl
     . exact hne t ht
     . rw [ah hcl];simpa using aY hx
 . have hcx:c=xs.length:=by omega
   simp [s7,s8,hcl];intro hm;have ⟨t,ht,he⟩:=eY hm;exact hne t (by omega) (by rw [ah ht,he])
theorem CX (v:dz h 1 (wordsA xs) F s) (hb:xs.length<=1000000) (x:Int):run T 128 [s,uQ x] h=some (.bool (decide (x∈xs)),h):=by have ⟨r,e,hr⟩:=Ky v hb x;refine run_eq Xi ?_;simp [TN,e,hr]
end
theorem JK {h:AHeap} {i:Nat} {vs:List Int} (hi:h.get i=some (dv .u64 vs)):∃ F,dz h 1 (wordsA vs) F (.slice i 0 vs.length (.exact vs.length)):=by
 cases vs with
 | nil=>exact ⟨[],.zero rfl (by simp [AHeap.within])⟩
 | cons v vs=>exact ⟨[i],.mk (ro:=true) (body:=(v::vs).map (uQ ·)) (room:=none) hi (by simp) (by simp [wordsA];rw [aW (by simp)]) (by simp [AHeap.within])⟩
def gJ (a b:Int):Bool:=decide (a<7) && decide (b∈nextRows.getD a.toNat [])
theorem Ek {h:AHeap} (n:mS h) {a b:Int} (ha:0<=a):run T 96 [uQ a,uQ b] h=some (.bool (gJ a b),h):=by
 refine run_eq Zh ?_;by_cases h7:a<7
 . obtain ⟨k,rfl⟩:∃ k:Nat,a=k:=⟨a.toNat,by omega⟩
   have hk:k<7:=by omega
   obtain ⟨vs,hvs⟩:∃ vs,nextRows[k]?=some vs:=⟨_,ah (show k<nextRows.length from hk)⟩
   have ⟨F,v⟩:=JK (n.r k vs hvs);have hlen:vs.length<=5:=by
    match k,hk,hvs with
    | 0,_,hvs=>cases hvs;decide
    | 1,_,hvs=>cases hvs;decide
    | 2,_,hvs=>cases hvs;decide
    | 3,_,hvs=>cases hvs;decide
    | 4,_,hvs=>cases hvs;decide
    | 5,_,hvs=>cases hvs;decide
    | 6,_,hvs=>cases hvs;decide
    | k+7,h,_=>omega
   have ec:=CX v (by omega) b;have hcell:gw (h.get 0) k=some (.slice (4+k) 0 vs.length (.exact vs.length)):=by
    rw [n.g];match k,hk,hvs with
    | 0,_,hvs=>cases hvs;rfl
    | 1,_,hvs=>cases hvs;rfl
    | 2,_,hvs=>cases hvs;rfl
    | 3,_,hvs=>cases hvs;rfl
    | 4,_,hvs=>cases hvs;rfl
    | 5,_,hvs=>cases hvs;rfl
    | 6,_,hvs=>cases hvs;rfl
    | k+7,h,_=>omega
   have hlg:gJ (k:Int) b=decide (b∈vs):=by
    have hgd:nextRows.getD k []=vs:=by rw [aO,hvs];rfl
    simp [gJ,h7,hvs]
   have hidx:idxAddrV 1 (some 7) (.ptr 0 0) (uQ (k:Int))=some (.ptr 0 k):=by simp only [idxAddrV];rw [pQ];simp
   rw [hlg];simp [Yz,h7,hidx,hcell,ec]
 . have:gJ a b=false:=by simp [gJ,h7]
   rw [this];simp [Yz,h7]
abbrev LI (F N:Nat):AV:=.agg [.int .i64 (F:Int),.int .i64 (N:Int)]
section
variable {h:AHeap} {i j F N:Nat} {ws:List Int} {cnt g a b:Int}
theorem CH (h:AHeap) (F N:Nat) (g:Int):∃ h',run T 95 [LI F N,iQ g] h=some (.bool (decide (0<=g/\g<N)),h')/\Keep [] h h':=by
 refine ⟨h.push (Qc [iQ (F:Int),iQ (N:Int)] none),run_eq Zi ?_,Keep.push⟩;by_cases h0:0<=g
 . by_cases h1:g<N
   . simp [XJ,h0,h1]
   . simp [XJ,h0,h1]
 . simp [XJ,h0]
theorem Ph (n:mS h) (p:AV) (ha:0<=a) (hg:¬ ((0<=g/\g<N)/\gJ a b=true)):∃ h',run T 54 [LI F N,p,iQ g,uQ a,uQ b] h=some (.bool false,h')/\Keep [] h h':=by
 have kp:Keep [] h (h.push (Qc [iQ (F:Int),iQ (N:Int)] none)):=Keep.push;have ⟨h1,e1,k1⟩:=CH (h.push (Qc [iQ (F:Int),iQ (N:Int)] none)) F N g;have el:=Ek ((n.keep kp (by simp)).keep k1 (by simp)) (a:=a) (b:=b) ha;refine ⟨h1,run_eq VW ?_,kp.trans' k1⟩;by_cases hin:0<=g/\g<N
 . rw [decide_eq_true hin] at e1;have hlg:gJ a b=false:=by
    cases hx:gJ a b with
    | false=>rfl
    | true=>exact absurd ⟨hin,hx⟩ hg
   rw [hlg] at el;simp [XN,e1,el]
 . rw [decide_eq_false hin] at e1;simp [XN,e1]
theorem nh (n:mS h) (m:MemAt h i j ws cnt) (ha:0<=a) (hb:0<=b) (hg:0<=g/\g<N) (hl:gJ a b=true) (hN:F+N<=ws.length) (hw:ws.length<=100000):∃ h',run T 54 [LI F N,.ptr i 0,iQ g,uQ a,uQ b] h=some (.bool (decide (wd ws (F+g.toNat)=a)),h')/\MemAt h' i j (if wd ws (F+g.toNat)=a then ws.set (F+g.toNat) b else ws) (up cnt)/\Keep [i,j] h h':=by have kp:Keep [] h (h.push (Qc [iQ (F:Int),iQ (N:Int)] none)):=Keep.push;have ⟨h1,e1,k1⟩:=CH (h.push (Qc [iQ (F:Int),iQ (N:Int)] none)) F N g;rw [decide_eq_true hg] at e1;have el:=Ek ((n.keep kp (by simp)).keep k1 (by simp)) (a:=a) (b:=b) ha;rw [hl] at el;have hbx:h1.get h.size=some (Qc [iQ (F:Int),iQ (N:Int)] none):=k1.obj ak (by simp);have ⟨h2,e2,m2,k2⟩:=rK ((m.keep kp (by simp) (by simp)).keep k1 (by simp) (by simp)) (k:=(F:Int)+g) (by omega) (by omega) a b;rw [show ((F:Int)+g).toNat=F+g.toNat by omega] at e2 m2;have hwr:wQ ((F:Int)+g)=(F:Int)+g:=rQ;refine ⟨h2,run_eq VW ?_,m2,((kp.trans' k1).mono (by simp)).trans' k2⟩;simp [XN,e1,el,hbx,hwr,e2]
end
end
section
abbrev sY (h:AHeap):Prop:=h.get 2=some (.cells true glob2 none)
def xL:List (List UInt8×Int×Int):=[([115,112,97,119,110],0,1),([114,101,97,100,121],0,1),([100,105,115,112,97,116,99,104],1,2),([121,105,101,108,100],2,1),([98,108,111,99,107],2,3),([115,108,101,101,112],2,4),([119,97,105,116],2,5),([101,120,105,116],2,6)]
section
variable {h:AHeap}
theorem Si (k:Int) (hk:¬ (0<=k/\k<8)):run T 129 [iQ k] h=some (.tuple [.agg [.str ⟨#[]⟩,uQ 0,uQ 0],.bool false],h.push (Qc [.str ⟨#[]⟩,uQ 0,uQ 0] none)):=by
 refine run_eq Ri ?_;have hg:(h.push (Qc [.str ⟨#[]⟩,uQ 0,uQ 0] none)).get h.size=some (Qc [.str ⟨#[]⟩,uQ 0,uQ 0] none):=ak;by_cases h0:k<0
 . simp [F129,h0,hg]
 . have h8:8<=k:=by omega
   simp [F129,h0,h8,hg]
theorem PC (n:Nat) {nm:List UInt8} {a b:Int} (hk:xL[n]?=some (nm,a,b)) (hg:sY h):run T 129 [iQ n] h=some (.tuple [.agg [str nm,uQ a,uQ b],.bool true],h.push (Qc [str nm,uQ a,uQ b] none)):=by
 have hp:(h.push (Qc [.str ⟨#[]⟩,uQ 0,uQ 0] none)).get 2=some (.cells true glob2 none):=aJ hg;refine run_eq Ri ?_;match n,hk with
 | 0,hk=>cases hk;simp [F129,idxAddrV,hp,glob2,str]
 | 1,hk=>cases hk;simp [F129,idxAddrV,hp,glob2,str]
 | 2,hk=>cases hk;simp [F129,idxAddrV,hp,glob2,str]
 | 3,hk=>cases hk;simp [F129,idxAddrV,hp,glob2,str]
 | 4,hk=>cases hk;simp [F129,idxAddrV,hp,glob2,str]
 | 5,hk=>cases hk;simp [F129,idxAddrV,hp,glob2,str]
 | 6,hk=>cases hk;simp [F129,idxAddrV,hp,glob2,str]
 | 7,hk=>cases hk;simp [F129,idxAddrV,hp,glob2,str]
 | n+8,hk=>simp [xL] at hk
def Rr (k:Int) (nm:List UInt8) (a b:Int) (is:Bool):Prop:=(¬ (0<=k/\k<8)/\nm=[]/\a=0/\b=0/\is=false)\/∃ n:Nat,k=n/\xL[n]?=some (nm,a,b)/\is=true
theorem Sh (k:Int):∃ nm a b is,Rr k nm a b is/\∀ h,sY h->run T 129 [iQ k] h=some (.tuple [.agg [str nm,uQ a,uQ b],.bool is],h.push (Qc [str nm,uQ a,uQ b] none)):=by
 by_cases hk:0<=k/\k<8
 . obtain ⟨n,rfl⟩:∃ n:Nat,k=n:=⟨k.toNat,by omega⟩
   have hn:n<xL.length:=by show n<8;omega
   obtain ⟨⟨nm,a,b⟩,hx⟩:∃ x,xL[n]?=some x:=⟨_,ah hn⟩
   exact ⟨nm,a,b,true,dx ⟨n,rfl,hx,rfl⟩,fun h hg=>PC n hx hg⟩
 . exact ⟨[],0,0,false,dc ⟨hk,rfl,rfl,rfl,rfl⟩,fun h hg=>Si k hk⟩
end
end
section
variable {β α:Type} {P:α×β->Prop}
theorem zip_nil :∀ p∈([]:List α).zip ([]:List β),P p:=fun p hp=>by simp at hp
theorem zip_cons {a:α} {b:β} {xs:List α} {ys:List β} (h:P (a,b)) (t:∀ p∈xs.zip ys,P p):∀ p∈(a::xs).zip (b::ys),P p:=fun p hp=>by
 rcases aD.1 hp with rfl | hp
 . exact h
 . exact t p hp
theorem Dd {P:AObj->Prop}:∀ o∈([]:List AObj),P o:=fun o h=>by simp at h
theorem bT {P:AObj->Prop} {a:AObj} {l:List AObj} (h:P a) (t:∀ o∈l,P o):∀ o∈a::l,P o:=fun o ho=>by
 rcases aD.1 ho with rfl | ho
 . exact h
 . exact t o ho
end
section
variable {h:AHeap} {xs ys:List Int} {F G:List Nat} {s u:AV}
theorem lZ (v:dz h 1 (intsA xs) F s) (hb:xs.length<=1000000):∃ s' h' F',run T 83 [s] h=some (s',h')/\Vec h' 1 (intsA xs) F' s'/\Keep [] h h'/\∀ t∈F',h.size<=t:=by
 have hnil:s=.nilslice\/∃ j o n c,s=.slice j o n c:=by cases v<;>simp
 rcases hnil with rfl | ⟨j,o,n,c,rfl⟩
 . cases v with
   | nil e=>refine ⟨.nilslice,h,[],run_eq T_83 ?_,.nil e,Keep.refl,by simp⟩;simp [F83]
 . have vn:Vec (h.push (Qc [] none)) 1 [] [h.size] (.slice h.size 0 0 (.exact 0)):=Vec.new (m:=0) ak (by simp);have ⟨s',h',F',e,v',k',f'⟩:=vn.wG (bytes:=8) (v.keep (Keep.push (F:=[])) (by simp)) ue (by simp [bigA];omega) (by simp [bigA];omega);refine ⟨s',h',F',run_eq T_83 ?_,by simpa using v',(Keep.push (F:=[])).trans k' (by simp),fun t ht=>?_⟩
   . simp [F83,e]
   . have:=f' t ht;simp at this;omega
def SN (h:AHeap) (xs:List Int) (s:AV) (x:Int) (n:Nat) (fr:FF) (g:AHeap):Prop:=∃ c:Nat,c+n=xs.length/\g=h/\(∀ t<c,xs[t]?≠some x)/\fr.get 0=s/\fr.get 1=.int .i64 x/\fr.get 7=.int .i64 xs.length/\fr.get 8=.int .i64 c
theorem MZ (v:dz h 1 (intsA xs) F s) (hb:xs.length<=1000000) (x:Int):∃ r,run T 126 [s,iQ x] h=some (iQ r,h)/\(0<=r↔x∈xs):=by
 have hl:=v.my;suffices hw:∃ v' h',run T 126 [s,iQ x] h=some (v',h')/\((0<=(match v' with | .int _ r=>r | _=>0)↔x∈xs)/\(∃ r,v'=iQ r)/\h'=h) by obtain ⟨v',h',e,h1,⟨r,rfl⟩,rfl⟩:=hw;exact ⟨r,e,h1⟩
 refine dQ Xj ?_;simp [TO,hl];refine Wp.loop (SN h xs s x) xs.length lQ ?_ ?_
 . exact ⟨0,by simp,rfl,by simp,by simp⟩
 rintro n fr g ⟨c,hc,rfl,hne,s0,s1,s7,s8⟩;by_cases hcl:c<xs.length
 . have ⟨j,o,h1,h2,h3⟩:=v.vM (AW hcl);by_cases hx:x=xs[c]
   . simp [s0,s1,s7,s8,hcl,h1,h3,<- hx];rw [hx];exact j6 hcl
   . simp [s0,s1,s7,s8,hcl,h1,h3,hx];refine ⟨n-1,by omega,c+1,by omega,rfl,fun t ht=>?_,by simp [s0,s1,s7,wrap_nat (c:=c) (by omega)]⟩;rcases tc.1 ht with ht | rfl
     . exact hne t ht
     . rw [ah hcl];simpa using aY hx
 . have hcx:c=xs.length:=by omega
   simp [s7,s8,hcl];intro hm;have ⟨t,ht,he⟩:=eY hm;exact hne t (by omega) (by rw [ah ht,he])
theorem mI (v:dz h 1 (intsA xs) F s) (hb:xs.length<=1000000) (x:Int):run T 93 [s,iQ x] h=some (.bool (decide (x∈xs)),h):=by have ⟨r,e,hr⟩:=MZ v hb x;refine run_eq Zk ?_;simp [F93,e,hr]
theorem EZ (v:Vec h 1 (intsA xs) F s):run T 175 [s,iQ 0,iQ 0] h=some (s,h):=by
 have hl:=v.view.my;have hs:∃ s',slcV h 1 none s (some (iQ 0)) (some (iQ 0)) (some (iQ xs.length))=some s':=by
  cases v with
  | nil e=>
   have:xs=[]:=by simpa [intsA] using e
   subst this;exact ⟨.nilslice,by simp [slcV]⟩
  | @mk j o n c body room get le at_ cap=>have hw:=cap.within;simp at hl;rw [<- hl];exact ⟨_,by simp [slcV,hw];rfl⟩
 have ⟨s',e⟩:=hs;refine run_eq Rb ?_;simp [Qo,hl,e]
theorem Bd (v:Vec h 1 (intsA xs) F s) (hb:xs.length<=1000000) {n:Nat} (hn:n<=xs.length):∃ s' h',run T 175 [s,iQ 0,iQ n] h=some (s',h')/\Vec h' 1 (intsA (xs.drop n)) F s'/\Keep F h h':=by
 rcases dd n with h0 | h0
 . subst h0;exact ⟨s,h,EZ v,by simpa using v,Keep.refl⟩
 have hl:=v.view.my
 cases v with
 | nil e=>
  have:xs=[]:=by simpa [intsA] using e
  subst this;simp at hn;omega
 | @mk j o N c body room get le at_ cap=>
  have hN:N=xs.length:=by simpa using hl
  subst hN;rw [lH] at le at_;have hw:h.within xs.length c=true:=cap.within;have ⟨s2,e3,v2⟩:=(dz.mk (o:=o) (n:=xs.length) (c:=c) get (by omega) (by rw [lH];exact at_) hw:dz h 1 (intsA xs) [j] _).slice (by omega) (n:=xs.length) (lo:=some (iQ n)) (hi:=none) (a:=n) (b:=xs.length) (by simp) (by simp) (by simp) hn (aq _);rw [lH,lH,G1,G0,aW (by simp)] at v2
  have e1:∃ s',slcV h 1 none (.slice j o xs.length c) (some (iQ 0)) (some (iQ n)) (some (iQ xs.length))=some s':=⟨_,by simp [slcV,hw,hn];rfl⟩
  have ⟨s1,e1⟩:=e1;have e2:slcV h 1 none (.slice j o xs.length c) none (some (iQ 0)) none=some (.slice j o 0 c):=by
   have:=jM hw (lG _)
   cases c with
   | exact m=>simp [slcV,this]
   | loose k d=>simp [slcV,this,Cap.less]
  have hl2:s2.gP=some (xs.length-n):=by rw [v2.my];simp
  have hf:firstCellsA h 1 (xs.length-n) s2=some (intsA (xs.drop n)):=by rw [v2.first (by simp) (by omega),aW (by simp)]
  have ha:∃ h1 body1,dT h 1 8 (.slice j o 0 c) s2=some (.slice j o (xs.length-n) c,h1)/\h1.get j=some (Qc body1 room)/\body1.length=body.length/\(body1.drop o).take (xs.length-n)=intsA (xs.drop n)/\Keep [j] h h1:=by
   have hlen2:0+(xs.length-n)=xs.length-n:=by omega
   have happ:dT h 1 8 (.slice j o 0 c) s2=if xs.length-n=0 then some (.slice j o 0 c,h) else (h.write j (o+0*1) (intsA (xs.drop n))).map fun h'=>(.slice j o (0+(xs.length-n)) c,h'):=by simp only [dT,lS,hl2,hf];rw [if_pos ⟨by simp only [bigA];omega,by simp only [bigA];omega,ue⟩,if_pos (by rw [hlen2];exact jM hw (by omega))]
   rw [happ];by_cases hz:xs.length-n=0
   . rw [if_pos hz,hz];exact ⟨h,body,rfl,get,rfl,by simp [vJ (show xs.length<=n by omega)],Keep.refl⟩
   . rw [if_neg hz,hlen2];refine ⟨h.put j (.cells false (splice body o (intsA (xs.drop n))) room),_,?_,by rw [get_put_same,get];rfl,by simp [splice];omega,?_,Keep.put (by simp)⟩
     . simp [get];omega
     . apply dt;intro t;by_cases ht:t<xs.length-n
       . rw [aI ht,aN];simp only [splice];rw [aB (by simp;omega),ay (by simp;omega)];congr 1;simp;omega
       . rw [cv,if_neg ht,aV (by simp;omega)]
  obtain ⟨h1,body1,ea,get1,hlb,hb1,k1⟩:=ha;have e4:∃ c3,slcV h1 1 none (.slice j o (xs.length-n) c) (some (.int .i64 ((xs.length-n:Nat):Int))) (some (.int .i64 xs.length)) none=some (.slice j (o+(xs.length-n)) n c3):=by
   have hw1:=fv hw k1;have hsub:xs.length-(xs.length-n)=n:=by omega
   cases c with
   | exact m=>
    have hm:xs.length<=m:=by simpa [AHeap.within] using hw
    have hne:¬ m=xs.length-n:=by omega
    exact ⟨.exact (m-(xs.length-n)),by simp [slcV,hw1,hsub,hne]⟩
   | loose k d=>exact ⟨.loose k (d+(xs.length-n)),by simp [slcV,hw1,hsub,Cap.less]⟩
  obtain ⟨c3,e4⟩:=e4;have e5:clearV h1 1 [.int .i64 0] (.slice j (o+(xs.length-n)) n c3)=some (.tuple [],h1.put j (.cells false (splice body1 (o+(xs.length-n)) (List.replicate n (.int .i64 0))) room)):=by simp only [clearV];rw [if_neg (by omega),if_pos (show [AV.int .i64 0].length=1 from rfl),jw];simp [get1];omega
  refine ⟨.slice j o (xs.length-n) c,h1.put j (.cells false (splice body1 (o+(xs.length-n)) (List.replicate n (.int .i64 0))) room),run_eq Rb ?_,?_,k1.trans' (Keep.put (by simp))⟩
  . have hne:¬ (0:Int)=n:=by omega
    simp [Qo,e1,e2,e3,ea,e4,e5,hne]
  . have hlb2:(splice body1 (o+(xs.length-n)) (List.replicate n (.int .i64 0))).length=body.length:=by simp [splice];omega
    refine .mk (by rw [get_put_same,get1];rfl) (by omega) ?_ ?_
    . rw [lH,<- hb1];apply dt;intro t;by_cases ht:t<xs.length-n
      . rw [aI ht,aI ht,aN,aN];simp only [splice];rw [ay (by simp;omega),aI (by omega)]
      . rw [cv,if_neg ht,cv,if_neg ht]
    . cases c with
      | exact m=>exact ⟨by have:=cap.1;omega,by rw [hlb2];exact cap.2⟩
      | loose k d=>obtain ⟨h1',h2,lb,h3,h4,h5⟩:=cap;exact ⟨h1',h2,lb,k1.caps _ _ h3,by rw [hlb2];exact h4,by omega⟩
end
section
variable {n P:Nat}
structure Mc where
 pl:Int
 p:Int
 g:Int
 nx:Int
 got:Int
 tg:Int
 ii:Int
 sp:Bool
 inn:Bool
 rest:List Int
 bk:Int
 af:Int
 ar:Int
 ln:Int
 ls:Int
 st:Int
 tk:Int
 tm:Int
 deriving DecidableEq
def gD (m:Mc) (rs:AV):List AV:=[.int .i64 m.pl,.int .i64 m.p,.int .i64 m.g,.int .i64 m.nx,.int .i64 m.got,.int .i64 m.tg,.int .i64 m.ii,.bool m.sp,.bool m.inn,rs,.int .i64 m.bk,.int .i64 m.af,.int .i64 m.ar,.int .i64 m.ln,.int .i64 m.ls,.int .i64 m.st,.int .u64 m.tk,.int .i64 m.tm]
abbrev nM (h:AHeap):Prop:=h.get 1=some (.cells true iL none)
def whoseL:List Int:=[0,0,1,2,1,0,3,1,0,4,1,1,0,1,5,1,0,2,1,0,0,0,0,1,0,5,0,1,2,5,5]
theorem M3:∀ n<31,∃ nm:ByteArray,(iL.drop (n*2)).take 2=[.str nm,iQ (whoseL.getD n 0)]:=by
 intro n hn;match n,hn with
 | 0,_ | 1,_ | 2,_ | 3,_ | 4,_ | 5,_ | 6,_ | 7,_ | 8,_ | 9,_ | 10,_ | 11,_ | 12,_ | 13,_ | 14,_ | 15,_ | 16,_ | 17,_ | 18,_ | 19,_ | 20,_ | 21,_ | 22,_ | 23,_ | 24,_ | 25,_ | 26,_ | 27,_ | 28,_ | 29,_ | 30,_=>exact ⟨_,rfl⟩
 | n+31,hn=>omega
section
variable {h:AHeap}
abbrev freshM:Mc:=⟨16,-1,-1,-1,-1,-1,0,false,false,[],0,0,0,0,0,0,0,0⟩
theorem M6 (h:AHeap):∃ h',run T 52 [] h=some (.agg (gD freshM .nilslice),h')/\Keep [] h h':=by refine run_val ZM ?_;simp [F52,gD,splice];exact Keep.push
theorem Mp (hp:nM h) (hn:n<31):∃ (nm:ByteArray) (h':AHeap),run T 108 [iQ (n:Int)] h=some (.tuple [.agg [.str nm,iQ (whoseL.getD n 0)],.bool true],h')/\Keep [] h h':=by
 have ⟨nm,hnm⟩:=M3 n hn;have k1:Keep [] h (h.push (Qc [.str ⟨#[]⟩,iQ 0] none)):=Keep.push;have g1:=k1.obj hp (by simp);have e1:idxAddrV 2 (some 31) (.ptr 1 0) (iQ (n:Int))=some (.ptr 1 (n*2)):=by simp [idxAddrV];omega
 have hl:iL.length=62:=rfl;have e2:cellsOf ((h.push (Qc [.str ⟨#[]⟩,iQ 0] none)).get 1) (n*2) 2=some [.str nm,iQ (whoseL.getD n 0)]:=by rw [g1,gK,pQ,hnm]
 have n1:¬ ((n:Int)<0):=by omega
 have n2:¬ (31<=(n:Int)):=by omega
 have n3:¬ 31<=n:=by omega
 refine ⟨nm,h.push (Qc [.str nm,iQ (whoseL.getD n 0)] none),run_eq Xv ?_,Keep.push⟩;simp [TW,n1,n2,e1,e2,-List.getD_eq_getElem?_getD]
def gR (p:Int) (P:Nat):Int:=if p<0\/(P:Int)<=p then -1 else p+1
theorem Ed (h:AHeap) (p:Int) (hP:P<=1000):run T 109 [iQ p,iQ (P:Int)] h=some (iQ (gR p P),h):=by
 refine run_eq Xu ?_;unfold gR;by_cases h0:p<0
 . simp [Oa,h0]
 . by_cases h1:(P:Int)<=p
   . simp [Oa,h0,h1]
   . have:wQ (p+1)=p+1:=rQ;simp [Oa,h0,h1,this]
def lockW (w:Int) (m:Mc) (P:Nat):Int:=
 if w=1 then 0 else if w=5 then (P:Int)+1 else if w=2 then gR m.p P else if w=4 then gR m.ii P
 else if w=3 then (if 0<=m.ii/\0<gR m.p P then (m.p+m.ii) % P+1 else -1) else -1
def lockOf (m:Mc) (P:Nat):Int:=lockW (whoseL.getD m.pl.toNat 0) m P
theorem xv (hp:nM h) (m:Mc) (rs:AV) (hn:n<31) (hm:m.pl=n) (hP:1<=P/\P<=1000) (hi:m.ii<=1000):∃ h',run T 72 [.agg (gD m rs),iQ (P:Int)] h=some (iQ (lockOf m P),h')/\Keep [] h h':=by
 have k0:Keep [] h (h.push (Qc (gD m rs) none)):=Keep.push;have b0:(h.push (Qc (gD m rs) none)).get h.size=some (Qc (gD m rs) none):=ak;have ⟨nm,h1,e1,k1⟩:=Mp (k0.obj hp (by simp)) hn;rw [<- hm] at e1;have b1:=k1.obj b0 (by simp);have k2:=k0.trans' k1
 obtain ⟨w,hw⟩:∃ w,w=whoseL.getD n 0:=⟨_,rfl⟩
 have hwr:w=0\/w=1\/w=2\/w=3\/w=4\/w=5:=by
  rw [hw]
  match n,hn with
  | 0,_ | 1,_ | 2,_ | 3,_ | 4,_ | 5,_ | 6,_ | 7,_ | 8,_ | 9,_ | 10,_ | 11,_ | 12,_ | 13,_ | 14,_ | 15,_ | 16,_ | 17,_ | 18,_ | 19,_ | 20,_ | 21,_ | 22,_ | 23,_ | 24,_ | 25,_ | 26,_ | 27,_ | 28,_ | 29,_ | 30,_=>decide
  | n+31,hn=>omega
 have hlk:lockOf m P=lockW w m P:=by unfold lockOf;rw [hm,hw];rfl
 rw [<- hw] at e1;have a0:¬ ((P:Int)<1):=by omega
 have a1:¬ P<1:=by omega
 have a2:¬ P=0:=by omega
 have e1':run T 108 [iQ m.pl] (h.push (Qc [iQ m.pl,iQ m.p,iQ m.g,iQ m.nx,iQ m.got,iQ m.tg,iQ m.ii,.bool m.sp,.bool m.inn,rs,iQ m.bk,iQ m.af,iQ m.ar,iQ m.ln,iQ m.ls,iQ m.st,uQ m.tk,iQ m.tm] none))=some (.tuple [.agg [.str nm,iQ w],.bool true],h1):=e1;have b1':h1.get h.size=some (Qc [iQ m.pl,iQ m.p,iQ m.g,iQ m.nx,iQ m.got,iQ m.tg,iQ m.ii,.bool m.sp,.bool m.inn,rs,iQ m.bk,iQ m.af,iQ m.ar,iQ m.ln,iQ m.ls,iQ m.st,uQ m.tk,iQ m.tm] none):=b1;have hsz:=k1.size;simp [dH] at hsz;have b2:∀ x,(h1.push x).get h.size=some (Qc [iQ m.pl,iQ m.p,iQ m.g,iQ m.nx,iQ m.got,iQ m.tg,iQ m.ii,.bool m.sp,.bool m.inn,rs,iQ m.bk,iQ m.af,iQ m.ar,iQ m.ln,iQ m.ls,iQ m.st,uQ m.tk,iQ m.tm] none):=fun x=>aJ b1';rw [hlk];clear hlk hw hm e1;refine run_val Zw ?_;have r1:=fun (g:AHeap)=>Ed g m.p hP.2;have r2:=fun (g:AHeap)=>Ed g m.ii hP.2;have kk:∀ x,Keep [] h (h1.push x):=fun x=>k2.trans' Keep.push;rcases hwr with rfl | rfl | rfl | rfl | rfl | rfl
 . simp [Oq,gD,e1',a0,kk,lockW]
 . simp [Oq,gD,e1',a0,kk,lockW]
 . simp [Oq,gD,e1',b2,a0,kk,r1,lockW]
 . by_cases c1:0<=m.ii
   . by_cases c2:0<gR m.p P
     . obtain ⟨i,hi'⟩:∃ i:Nat,m.ii=i:=⟨m.ii.toNat,by omega⟩
       have hp0:0<=m.p/\m.p<P:=by unfold gR at c2;split at c2<;>omega
       obtain ⟨q,hq⟩:∃ q:Nat,m.p=q:=⟨m.p.toNat,by omega⟩
       have t1:Int.tmod m.ii (P:Int)=m.ii % P:=bX c1
       have l1:0<=m.ii % (P:Int)/\m.ii % (P:Int)<P:=⟨oR _ (by omega),qt _ (by omega)⟩
       have t2:IntKind.wrap .i64 (m.p+m.ii % P)=m.p+m.ii % P:=rQ;have t3:Int.tmod (m.p+m.ii % P) (P:Int)=(m.p+m.ii % P) % P:=bX (by omega)
       have l2:0<=(m.p+m.ii) % (P:Int)/\(m.p+m.ii) % (P:Int)<P:=⟨oR _ (by omega),qt _ (by omega)⟩
       have t4:IntKind.wrap .i64 ((m.p+m.ii) % P+1)=(m.p+m.ii) % P+1:=rQ;have u1:di .rem (iQ m.ii) (iQ (P:Int))=some (iQ (m.ii % P)):=by rw [<- t1];simp only [di];rw [if_pos (by simp;omega)]
       have u2:di .rem (.int .i64 (m.p+m.ii % P)) (.int .i64 (P:Int))=some (.int .i64 ((m.p+m.ii % P) % P)):=by rw [<- t3];simp only [di];rw [if_pos (by simp;omega)]
       simp [Oq,gD,e1',b2,a0,kk,r1,c1,c2,u1,u2,t2,t4,lockW]
     . simp [Oq,gD,e1',b2,a0,kk,r1,c1,c2,lockW]
   . simp [Oq,gD,e1',b2,a0,kk,c1,lockW]
 . simp [Oq,gD,e1',b2,a0,kk,r2,lockW]
 . have:IntKind.wrap .i64 ((P:Int)+1)=(P:Int)+1:=wrap_nat (by omega);simp [Oq,gD,e1',a0,kk,this,lockW]
theorem MI {F:List Nat} {rs:AV} (m:Mc) (v:dz h 1 (intsA m.rest) F rs) (hb:m.rest.length<=1000):∃ u h',run T 60 [.agg (gD m rs)] h=some (u,h')/\(∃ rs' F',u=.agg (gD m rs')/\dz h' 1 (intsA m.rest) F' rs'/\∀ t∈F',h.size<=t)/\Keep [] h h':=by
 obtain ⟨h0,e0⟩:∃ h0,h0=(h.push (Qc (gD m rs) none)).push (Qc [iQ 0,iQ 0,iQ 0,iQ 0,iQ 0,iQ 0,iQ 0,.bool false,.bool false,.nilslice,iQ 0,iQ 0,iQ 0,iQ 0,iQ 0,iQ 0,uQ 0,iQ 0] none):=⟨_,rfl⟩
 have k0:Keep [] h h0:=by rw [e0];exact Keep.push.trans' Keep.push
 have v0:=v.keep k0 (by simp);have b0:h0.get h.size=some (Qc (gD m rs) none):=by rw [e0];exact aJ ak
 have c0:∃ cs,cs.length=18/\h0.get (h.size+1)=some (Qc cs none):=by refine ⟨[iQ 0,iQ 0,iQ 0,iQ 0,iQ 0,iQ 0,iQ 0,.bool false,.bool false,.nilslice,iQ 0,iQ 0,iQ 0,iQ 0,iQ 0,iQ 0,uQ 0,iQ 0],rfl,?_⟩;rw [e0,<- dH (h:=h) (x:=.cells false (gD m rs) none),ak]
 have ⟨cs,cl,c0⟩:=c0;have ⟨rs',h1,F',e1,v1,k1,f1⟩:=lZ v0 (by omega);have b1:=k1.obj b0 (by simp);have c1:=k1.obj c0 (by simp);have hsz:h.size+2<=h0.size:=by rw [e0];simp
 refine dQ ZI ?_;have b0':h0.get h.size=some (Qc [iQ m.pl,iQ m.p,iQ m.g,iQ m.nx,iQ m.got,iQ m.tg,iQ m.ii,.bool m.sp,.bool m.inn,rs,iQ m.bk,iQ m.af,iQ m.ar,iQ m.ln,iQ m.ls,iQ m.st,uQ m.tk,iQ m.tm] none):=b0;have b1':h1.get h.size=some (Qc [iQ m.pl,iQ m.p,iQ m.g,iQ m.nx,iQ m.got,iQ m.tg,iQ m.ii,.bool m.sp,.bool m.inn,rs,iQ m.bk,iQ m.af,iQ m.ar,iQ m.ln,iQ m.ls,iQ m.st,uQ m.tk,iQ m.tm] none):=b1;have hone:rs'.one=true:=by cases v1<;>rfl
 obtain ⟨h2,e2⟩:∃ h2,h2=h1.put h.size (Qc (gD m rs') none):=⟨_,rfl⟩
 have d1:h2.get h.size=some (Qc (gD m rs') none):=by rw [e2,get_put_same,b1];rfl
 have d2:h2.get (h.size+1)=some (Qc cs none):=by rw [e2,get_put_ne (by omega),c1]
 have w2:writeOf h2 (h.size+1) (some (Qc cs none)) 0 (gD m rs')=some (h2.put (h.size+1) (Qc (gD m rs') none)):=by rw [writeOf_some,if_pos ⟨by simp [gD,cl],by simp [gD,hone]⟩];congr 4;simp [splice,gD,cl]
 have d3:(h2.put (h.size+1) (Qc (gD m rs') none)).get (h.size+1)=some (Qc (gD m rs') none):=by rw [get_put_same,d2];rfl
 simp [gD] at e2 d1 w2 d3 e0;have hcells:rs'.cells=[rs']:=by cases v1<;>rfl
 have k2:Keep [h.size] h1 h2:=by rw [e2];exact Keep.put (by simp)
 have k3:Keep [h.size+1] h2 (h2.put (h.size+1) (Qc (gD m rs') none)):=Keep.put (by simp);have f1':∀ t∈F',h.size<=t:=fun t ht=>by have:=f1 t ht;omega
 have nf:∀ t∈F',t≠h.size/\t≠h.size+1:=fun t ht=>by have:=f1 t ht;omega
 have v3:=(v1.view.keep k2 (fun t ht=>by have:=nf t ht;simp;omega)).keep k3 (fun t ht=>by have:=nf t ht;simp;omega);have kk:Keep [] h (h2.put (h.size+1) (Qc (gD m rs') none)):=((k0.trans' k1).trans k2 (by simp)).trans k3 (by simp);simp [gD] at v3 kk;simp [F60,gD,<- e0,b0',e1,b1',hone,hcells,<- e2,d1,d2,w2,d3];exact ⟨⟨F',v3,f1'⟩,kk⟩
end
end
theorem FK {x:Int} (h:(Lit.int .i64 x).wf=true):-9223372036854775808<=x/\x<=9223372036854775807:=by simp [Lit.wf,IntKind.min,IntKind.max,IntKind.signed,IntKind.bits] at h;omega
theorem Ao {x:Int} (h:(Lit.int .u8 x).wf=true):0<=x/\x<=255:=by simp [Lit.wf,IntKind.min,IntKind.max,IntKind.signed,IntKind.bits] at h;omega
theorem Fh {h:AHeap} {i s:Nat} {c:Option Nat} {l:List (List AV)} (hs:0<s) (hl:∀ r∈l,r.length=s) (hc:SlOk c l.length) (ho:h.get i=some (oM l.flatten)):∃ F,dz h s l.flatten F (Ug c i l.length)/\∀ t∈F,t=i:=by
 have hfl:=uI hl;cases l with
 | nil=>
  cases c with
  | none=>exact ⟨[],.nil rfl,by simp⟩
  | some c=>exact ⟨[],.zero rfl (by simp [AHeap.within]),by simp⟩
 | cons r l=>
  cases c with
  | none=>simp [SlOk] at hc
  | some c=>
   have hpos:0<(r::l).flatten.length:=by rw [hfl];exact Nat.mul_pos (by simp) hs
   have hrow:oM (r::l).flatten=.cells true (r::l).flatten none:=by
    cases hx:(r::l).flatten with
    | nil=>rw [hx] at hpos;simp at hpos
    | cons u us=>rfl
   rw [hrow] at ho;refine ⟨[i],.mk (c:=.exact c) ho (by omega) ?_ (by simp [AHeap.within];exact hc.1),by simp⟩;rw [dN,aW (by omega)]
section
open Go.RowKit Go.ChangeShapes Go.WideShapes
def wO (k v:Int):Bool:=if k=5 then true else if k=6 then decide (0<=v/\v<65536) else decide (v=0)
def fW (k g m p v:Int):Bool:=decide ((0<=k/\k<8)/\0<=g/\g<4096/\-1<=m/\m<128/\-1<=p/\p<64) && wO k v
abbrev yq (k g m p v:Int):List AV:=[.int .i64 k,.int .i64 g,.int .i64 m,.int .i64 p,.int .i64 v]
section
variable {h:AHeap} {k g m p v:Int}
theorem Lt:∃ h',run T 130 [.agg (yq k g m p v)] h=some (.bool (wO k v),h')/\Keep [] h h':=by
 refine ⟨h.push (Qc (yq k g m p v) none),run_eq Xh ?_,Keep.push⟩;by_cases h5:k=5
 . simp [HF,h5,wO]
 . by_cases h6:k=6
   . by_cases h0:0<=v
     . by_cases h1:v<65536
       . simp [HF,h6,wO,h0,h1]
       . simp [HF,h6,wO,h0,h1]
     . simp [HF,h6,wO,h0]
   . simp [HF,h5,h6,wO]
theorem Mg {nm:List UInt8} {a b:Int} {is:Bool} (hx:Rr k nm a b is) (he:∀ h,sY h->run T 129 [iQ k] h=some (.tuple [.agg [str nm,uQ a,uQ b],.bool is],h.push (Qc [str nm,uQ a,uQ b] none))) (hg:sY h) :
 ∃ h',run T 98 [.agg (yq k g m p v)] h=some (.bool (fW k g m p v),h')/\Keep [] h h':=by
 have his:is=decide (0<=k/\k<8):=by
  rcases hx with ⟨hk,_,_,_,rfl⟩ | ⟨n,rfl,hn,rfl⟩
  . rw [decide_eq_false hk]
  . have:n<8:=(aa.1 hn).1;rw [decide_eq_true (by omega)]
 have e1:=he (h.push (Qc (yq k g m p v) none)) (aJ hg);have h1:(str nm).one=true:=rfl;have hc:(((h.push (Qc (yq k g m p v) none)).push (Qc [str nm,uQ a,uQ b] none)).push (Qc [.str ⟨#[]⟩,uQ 0,uQ 0] none)).get (h.size+1+1)=some (Qc [.str ⟨#[]⟩,uQ 0,uQ 0] none):=by rw [show h.size+1+1=((h.push (Qc (yq k g m p v) none)).push (Qc [str nm,uQ a,uQ b] none)).size by simp,ak]
 have hc2:(((h.push (Qc (yq k g m p v) none)).push (Qc [str nm,uQ a,uQ b] none)).push (Qc [.str ⟨#[]⟩,uQ 0,uQ 0] none)).put (h.size+1+1) (Qc [str nm,uQ a,uQ b] none)=((h.push (Qc (yq k g m p v) none)).push (Qc [str nm,uQ a,uQ b] none)).push (Qc [str nm,uQ a,uQ b] none):=by rw [show h.size+1+1=((h.push (Qc (yq k g m p v) none)).push (Qc [str nm,uQ a,uQ b] none)).size by simp,Mk]
 have hb0:(h.push (Qc (yq k g m p v) none)).get h.size=some (Qc (yq k g m p v) none):=ak;have hb:(((h.push (Qc (yq k g m p v) none)).push (Qc [str nm,uQ a,uQ b] none)).push (Qc [str nm,uQ a,uQ b] none)).get h.size=some (Qc (yq k g m p v) none):=aJ (aJ hb0);have kp:Keep [] h (((h.push (Qc (yq k g m p v) none)).push (Qc [str nm,uQ a,uQ b] none)).push (Qc [str nm,uQ a,uQ b] none)):=(Keep.push.trans' Keep.push).trans' Keep.push;have ⟨h9,e9,k9⟩:=Lt (h:=((h.push (Qc (yq k g m p v) none)).push (Qc [str nm,uQ a,uQ b] none)).push (Qc [str nm,uQ a,uQ b] none)) (k:=k) (g:=g) (m:=m) (p:=p) (v:=v);refine run_val Zg ?_;by_cases hk:0<=k/\k<8
 case neg=>
  have hr:fW k g m p v=false:=by simp [fW,hk]
  rw [decide_eq_false hk] at his;subst his;simp [Oo,hr,e1,hc,hc2,h1];exact kp
 rw [decide_eq_true hk] at his;subst his;by_cases c1:0<=g
 case neg=>
  have hr:fW k g m p v=false:=by simp [fW,c1]
  simp [Oo,hr,e1,hc,hc2,h1,hb,c1];exact kp
 by_cases c2:g<4096
 case neg=>
  have hr:fW k g m p v=false:=by simp [fW,c2]
  simp [Oo,hr,e1,hc,hc2,h1,hb,c1,c2];exact kp
 by_cases c3:-1<=m
 case neg=>
  have hr:fW k g m p v=false:=by simp [fW,c3]
  simp [Oo,hr,e1,hc,hc2,h1,hb,c1,c2,c3];exact kp
 by_cases c4:m<128
 case neg=>
  have hr:fW k g m p v=false:=by simp [fW,c4]
  simp [Oo,hr,e1,hc,hc2,h1,hb,c1,c2,c3,c4];exact kp
 by_cases c5:-1<=p
 case neg=>
  have hr:fW k g m p v=false:=by simp [fW,c5]
  simp [Oo,hr,e1,hc,hc2,h1,hb,c1,c2,c3,c4,c5];exact kp
 by_cases c6:p<64
 case neg=>
  have hr:fW k g m p v=false:=by simp [fW,c6]
  simp [Oo,hr,e1,hc,hc2,h1,hb,c1,c2,c3,c4,c5,c6];exact kp
 have hr:fW k g m p v=wO k v:=by simp [fW,hk,c1,c2,c3,c4,c5,c6]
 simp [Oo,hr,e1,hc,hc2,h1,hb,c1,c2,c3,c4,c5,c6,e9];exact kp.trans' k9
end
end
section
variable {s:AV} {o:Nat} {cs:List AV} {F G:List Nat} {room:Option (Nat×Nat)}
abbrev E5:=Int×Int×Int×Int×Int
variable {xs:List E5}
def evsA (es:List E5):List AV:=es.flatMap fun e=>yq e.1 e.2.1 e.2.2.1 e.2.2.2.1 e.2.2.2.2
theorem jB (es:List E5):(evsA es).length=es.length*5:=by
 induction es with
 | nil=>rfl
 | cons x l ih=>simp [evsA] at *;omega
abbrev eA (e:E5):List AV:=yq e.1 e.2.1 e.2.2.1 e.2.2.2.1 e.2.2.2.2
def rB (e:E5):Bool:=fW e.1 e.2.1 e.2.2.1 e.2.2.2.1 e.2.2.2.2
theorem KJ (e:E5) (l:List E5):evsA (e::l)=eA e++evsA l:=rfl
theorem KI (l:List E5):∀ n,(evsA l).drop (n*5)=evsA (l.drop n):=by
 induction l with
 | nil=>intro n;simp [evsA]
 | cons e l ih=>
  intro n;cases n with
  | zero=>simp
  | succ n=>rw [KJ,show (n+1)*5=5+n*5 by omega,<- mu,Dp];exact ih n
theorem wrL {h:AHeap} {i:Nat} {v:AV} (ho:o<cs.length) (hv:v.one=true):writeOf h i (some (Qc cs room)) o [v]=some (h.put i (Qc (cs.set o v) room)):=by rw [writeOf_some,if_pos ⟨by simp;omega,by simp [hv]⟩,lK ho]
theorem mB {h:AHeap} {size:Nat} (v:Vec h size cs F s):s.cells=[s]/\s.one=true:=by cases v<;>exact ⟨rfl,rfl⟩
section
variable {h:AHeap} {hs:List E5} {u:AV}
theorem JT (ha:sY h) (e:E5):∃ h',run T 98 [.agg (eA e)] h=some (.bool (rB e),h')/\Keep [] h h':=by have ⟨nm,a,b,is,hx,he⟩:=Sh e.1;exact Mg hx he ha
theorem Su (w:Vec h 5 (evsA hs) G u) (hb:hs.length<=1000000000) (e:E5):∃ s' h' G',dT (h.push (Qc (yq e.1 e.2.1 e.2.2.1 e.2.2.2.1 e.2.2.2.2) none)) 5 40 u (.slice h.size 0 1 (.exact 1))=some (s',h')/\Vec h' 5 (evsA (hs++[e])) G' s'/\Keep G h h'/\∀ t∈G',t∈G\/h.size<=t:=by
 have hv:dz (h.push (Qc (yq e.1 e.2.1 e.2.2.1 e.2.2.2.1 e.2.2.2.2) none)) 5 (yq e.1 e.2.1 e.2.2.1 e.2.2.2.1 e.2.2.2.2) [h.size] (.slice h.size 0 1 (.exact 1)):=(Vec.new (m:=1) ak (by simp)).view;have hf:=hv.first (n:=1) (by simp) (by omega)
 have ⟨s',h',G',e',v',k',f'⟩:=(w.keep (Keep.push (F:=[])) (by simp)).append (by omega) (bytes:=40) (jB hs) (x:=.slice h.size 0 1 (.exact 1)) (m:=1) rfl hf (by simp) (by simp) (by simp [bigA];omega) (by simp [bigA];omega);refine ⟨s',h',G',e',?_,(Keep.push (F:=G)).trans' k',fun t ht=>?_⟩
 . have:evsA (hs++[e])=evsA hs++(yq e.1 e.2.1 e.2.2.1 e.2.2.2.1 e.2.2.2.2).take (1*5):=by simp [evsA]
   rw [this];exact v'
 rcases f' t ht with h1 | h1
 . exact dc h1
 . simp at h1;exact dx (by omega)
theorem Is {q:Nat} (ha:sY h) (hq:h.get q=some (Qc cs room)) (ho:cs[o]?=some u) (v:Vec h 5 (evsA hs) G u) (nq:q∉G) (hb:hs.length<=1000000000) (e:E5) (hr:rB e=true) :
 ∃ h',run T 55 [.ptr q o,.agg (eA e)] h=some (.bool true,h')/\∃ u' G',h'.get q=some (Qc (cs.set o u') room)/\Vec h' 5 (evsA (hs++[e])) G' u'/\q∉G'/\Keep (q::G) h h'/\∀ t∈G',t∈G\/h.size<=t:=by
 have k0:Keep [] h (h.push (Qc (eA e) none)):=Keep.push;have b0:(h.push (Qc (eA e) none)).get h.size=some (Qc (eA e) none):=ak;have ⟨h1,e1,k1⟩:=JT (k0.obj ha (by simp)) e;have b1:=k1.obj b0 (by simp);have v1:=(v.keep k0 (by simp)).keep k1 (by simp);have q1:=k1.obj (k0.obj hq (by simp)) (by simp);have hql:=get_lt hq;have hol:=(aa.1 ho).1;refine run_val ZL ?_;rw [hr] at e1;have ⟨s',h2,G',ea,v2,k2,f2⟩:=Su v1 hb e;have q2:=k2.obj q1 nq;have hs1:=(k0.trans' k1).size;have f3:∀ t∈G',t∈G\/h.size<=t:=fun t ht=>(f2 t ht).imp_right (by omega);have nq':q∉G':=fun hm=>(f3 q hm).elim nq (by omega);have y2:(h1.push (Qc (eA e) none)).get q=some (Qc cs room):=aJ q1;have y3:(h1.push (Qc (eA e) none)).get h.size=some (Qc (eA e) none):=aJ b1;have ⟨o1,o2⟩:=mB v2;have w1:=wrL (h:=h2) (i:=q) (room:=room) (v:=s') hol o2;simp [F55,b0,b1,e1,q1,q2,ea,y2,o1,ho,w1,-getElem?_pos];exact ⟨s',rfl,G',v2.keep (Keep.put (F:=[q]) (by simp)) (fun t ht=>by simp;rintro rfl;exact nq' ht),nq',((((k0.trans' k1).mono (G:=q::G) (by simp)).trans' (k2.mono (by simp;intro t ht;exact dx ht))).trans' (Keep.put (by simp))),f3⟩
theorem Hc (v:dz h 5 (evsA xs) F s) (hb:xs.length<=100000):∃ s' h' F',run T 134 [s] h=some (s',h')/\Vec h' 5 (evsA xs) F' s'/\Keep [] h h':=by
 have hnil:s=.nilslice\/∃ j o n c,s=.slice j o n c:=by cases v<;>simp
 rcases hnil with rfl | ⟨j,o,n,c,rfl⟩
 . cases v with
   | nil e=>refine ⟨.nilslice,h,[],run_eq T_134 ?_,.nil e,Keep.refl⟩;simp [F134]
 . have vn:Vec (h.push (Qc [] none)) 5 [] [h.size] (.slice h.size 0 0 (.exact 0)):=Vec.new (m:=0) ak (by simp);have v1:=v.keep (Keep.push (F:=[]) (x:=.cells false [] none)) (by simp);have hf:=v1.first (n:=xs.length) (by rw [jB];omega) (by omega)
   rw [aW (by rw [jB];omega)] at hf;have hl:(AV.slice j o n c).gP=some xs.length:=by rw [v.len (by omega),jB];simp
   have ⟨s',h',F',e,v',k',f'⟩:=vn.append (by omega) (bytes:=40) (n:=0) (by simp) hl hf (by simp [evsA,yq,AV.one]) (jB xs) (by simp [bigA];omega) (by simp [bigA];omega);refine ⟨s',h',F',run_eq T_134 ?_,by simpa using v',(Keep.push (F:=[])).trans k' (by simp)⟩;simp [F134,e]
theorem Sg (v:dz h 5 (evsA xs) F s) (a:Int):∃ s',slcV h 5 none s (some (iQ (min (max 0 a) xs.length))) none none=some s'/\dz h 5 (evsA (xs.drop (min (max 0 a) (xs.length:Int)).toNat)) F s':=by
 obtain ⟨c,hc⟩:∃ c:Nat,min (max 0 a) (xs.length:Int)=c:=⟨(min (max 0 a) (xs.length:Int)).toNat,by omega⟩
 have hcl:c<=xs.length:=by omega
 have ⟨s',e,v'⟩:=v.slice (by omega) (n:=xs.length) (a:=c) (b:=xs.length) (lo:=some (iQ c)) (hi:=none) (jB xs) (by simp) (by simp) hcl (aq _);rw [hc];refine ⟨s',e,?_⟩;rw [KI,aW (by rw [jB,eg];omega)] at v';simpa using v'
theorem LU {h':AHeap} {s':AV} {lo hi:Option AV} (k:Keep G h h') (e:slcV h 5 none s lo hi none=some s'):slcV h' 5 none s lo hi none=some s':=by
 cases s with
 | slice i o n c=>
  simp [slcV] at e ⊢
  cases hlo:endV 0 lo with
  | none=>simp only [hlo] at e;cases e
  | some l=>
   simp [hlo] at e ⊢
   cases hhi:endV n hi with
   | none=>simp only [hhi] at e;cases e
   | some hh=>
    simp only [hhi] at e ⊢;split at e
    . rename_i hc;rw [if_pos ⟨hc.1,fv hc.2 k⟩];exact e
    . cases e
 | nilslice=>simpa [slcV] using e
 | _=>simpa [slcV] using e
theorem Pq {q:Nat} (hq:h.get q=some (Qc cs room)) (ho:cs[o]?=some u) (v:Vec h 5 (evsA hs) G u) (hb:hs.length<=100000) :
 ∃ s' h',run T 103 [.ptr q o,iQ 0] h=some (s',h')/\s'.gP=some hs.length/\Keep [] h h':=by
 have hl:u.gP=some hs.length:=by rw [v.view.len (by omega),jB];simp
 have ⟨s1,c1,v1⟩:=Sg v.view 0;rw [show max (0:Int) 0=0 from rfl] at c1;have ⟨s',h',F',e2,v2,k2⟩:=Hc v1 (by simp;omega);have q2:=k2.obj hq (by simp);have hz:(min (max (0:Int) 0) (hs.length:Int)).toNat=0:=by omega
 rw [hz] at v2;have c2:=LU k2 c1;have hl2:s'.gP=some hs.length:=by rw [v2.view.len (by omega),jB];simp
 refine dQ Xy ?_;simp [TY,hq,ho,hl,c1,e2,k2,hl2,-getElem?_pos]
end
end
section
variable {o:Nat} {cs:List AV}
structure Rg where
 row:List Int
 is:Bool
 next:Int
 streak:Int
 deriving DecidableEq
theorem nc {v:AV} (h:cs.all AV.one=true) (hv:v.one=true):(cs.set o v).all AV.one=true:=by
 rw [aQ] at h ⊢;intro x hx;rcases List.mem_or_eq_of_mem_set hx with h1 | rfl
 . exact h x h1
 . exact hv
structure RingC (cs:List AV) (hd:Nat) (r:Rg):Prop where
 len:cs.length=261
 c0:cs[256]?=some (.int .i64 (hd:Int))
 c1:cs[257]?=some (.int .i64 (r.row.length:Int))
 c2:cs[258]?=some (.bool r.is)
 c3:cs[259]?=some (.int .i64 r.next)
 c4:cs[260]?=some (.int .i64 r.streak)
 hl:hd<256
 le:r.row.length<=256
 at_:∀ k x,r.row[k]?=some x->cs[(hd+k) % 256]?=some (.int .i64 x)
 Oe:cs.all AV.one=true
def cZ (h:AHeap) (i:Nat) (r:Rg):Prop:=∃ cs hd room,h.get i=some (.cells false cs room)/\RingC cs hd r
theorem jP {α:Type} {l:List α} {i:Nat} {x y:α} (h:(l++[y])[i]?=some x):l[i]?=some x\/(i=l.length/\x=y):=by
 rcases bH i l.length with hl | hl
 . left;rwa [ay hl] at h
 . right;rw [aB hl] at h;have:i-l.length=0:=by
    rcases dd (i-l.length) with h0 | h0
    . exact h0
    . rw [aV (by simp;omega)] at h;simp at h
   rw [this] at h;simp at h;exact ⟨by omega,h.symm⟩
theorem wr1 {h:AHeap} {i:Nat} {room:Option (Nat×Nat)} {v:AV} (ho:o<cs.length) (hv:v.one=true):writeOf h i (some (Qc cs room)) o [v]=some (h.put i (Qc (cs.set o v) room)):=by rw [writeOf_some,if_pos ⟨by simp;omega,by simp [hv]⟩,lK ho]
theorem got {h:AHeap} {i:Nat} {x y:AObj} (hi:h.get i=some x):(h.put i y).get i=some y:=by rw [get_put_same,hi];rfl
section
variable {h h':AHeap} {i:Nat} {r:Rg}
theorem cZ.keep {G:List Nat} (x:cZ h i r) (k:Keep G h h') (hi:i∉G):cZ h' i r:=by have ⟨cs,hd,room,hc,y⟩:=x;exact ⟨cs,hd,room,k.obj hc hi,y⟩
theorem cZ.lt (x:cZ h i r):i<h.size:=by have ⟨cs,hd,room,hc,y⟩:=x;exact get_lt hc
theorem Me (x:cZ h i r):run T 145 [.ptr i 0] h=some (iQ ((r.row.length:Int)+(if r.is=true then 1 else 0)),h):=by
 have ⟨cs,hd,room,hc,y⟩:=x;have c1:=y.c1;have c2:=y.c2;have le:=y.le;refine run_eq W5 ?_;cases hi:r.is<;>rw [hi] at c2
 . simp [Qt,hc,c1,c2]
 . simp [Qt,hc,c1,c2,wrap_nat (c:=r.row.length) (by omega)]
theorem JP (x:cZ h i r):run T 176 [.ptr i 0] h=some (.tuple [iQ (if r.is=true then r.next else 0),.bool r.is],h):=by have ⟨cs,hd,room,hc,y⟩:=x;have c2:=y.c2;have c3:=y.c3;refine run_eq WK ?_;cases hi:r.is<;>rw [hi] at c2<;>simp [Ts,hc,c2,c3]
theorem ring_take (x:cZ h i r):∃ h',run T 168 [.ptr i 0] h=some (iQ r.next,h')/\cZ h' i {r with is:=false}/\Keep [i] h h':=by
 have ⟨cs,hd,room,hc,y⟩:=x;have hw:=wr1 (h:=h) (i:=i) (room:=room) (v:=.bool false) (show 258<cs.length by rw [y.len];omega) rfl;have g1:=got (y:=.cells false (cs.set 258 (.bool false)) room) hc;have d3:(cs.set 258 (.bool false))[259]?=some (iQ r.next):=by rw [aj (by omega)];exact y.c3
 refine ⟨h.put i (Qc (cs.set 258 (.bool false)) room),run_eq WR ?_,⟨_,hd,room,g1,?_⟩,Keep.put (by simp)⟩
 . simp [Ty,hc,hw,g1,d3]
 . refine ⟨by simp [y.len],?_,?_,?_,d3,?_,y.hl,y.le,fun k x hk=>?_,nc y.Oe rfl⟩
   . rw [aj (by omega)];exact y.c0
   . rw [aj (by omega)];exact y.c1
   . rw [ax (by rw [y.len];omega)]
   . rw [aj (by omega)];exact y.c4
   . rw [aj (by omega)];exact y.at_ k x hk
theorem tH (x:cZ h i r) (hl:r.row.length<256) (g:Int):∃ h',run T 169 [.ptr i 0,iQ g] h=some (.tuple [],h')/\cZ h' i {r with row:=r.row++[g]}/\Keep [i] h h':=by
 have ⟨cs,hd,room,hc,y⟩:=x;have hhl:=y.hl;have c0:=y.c0;have c1:=y.c1;obtain ⟨a,ha⟩:∃ a,a=hd+r.row.length:=⟨_,rfl⟩
 obtain ⟨b,hb⟩:∃ b,b=a % 256:=⟨_,rfl⟩
 have hb2:b<256:=by omega
 have e1:wQ ((hd:Int)+(r.row.length:Int))=(a:Int):=zQ
 have e2:Int.tmod (a:Int) 256=(b:Int):=by rw [hb];exact (Int.ofNat_tmod a 256).symm
 have e3:idxAddrV 1 (some 256) (.ptr i 0) (iQ (b:Int))=some (.ptr i b):=by simp [idxAddrV];omega
 have hw:=wr1 (h:=h) (i:=i) (room:=room) (v:=iQ g) (show b<cs.length by rw [y.len];omega) rfl;have g1:=got (y:=.cells false (cs.set b (iQ g)) room) hc;have d1:(cs.set b (iQ g))[257]?=some (iQ (r.row.length:Int)):=by rw [aj (by omega)];exact c1
 have hw2:=wr1 (h:=h.put i (Qc (cs.set b (iQ g)) room)) (i:=i) (room:=room) (v:=iQ ((r.row.length:Int)+1)) (show 257<(cs.set b (.int .i64 g)).length by rw [bV,y.len];omega) rfl;have g2:=got (y:=.cells false ((cs.set b (iQ g)).set 257 (iQ ((r.row.length:Int)+1))) room) hc;refine ⟨h.put i (Qc ((cs.set b (iQ g)).set 257 (iQ ((r.row.length:Int)+1))) room),run_eq WQ ?_,⟨_,hd,room,g2,?_⟩,Keep.put (by simp)⟩
 . simp [Tx,hc,c0,c1,e1,e2,e3,hw,g1,d1,hw2,wrap_nat (c:=r.row.length) (by omega)]
 . refine ⟨by simp [y.len],?_,?_,?_,?_,?_,y.hl,by simp;omega,fun k x hk=>?_,nc (nc y.Oe rfl) rfl⟩
   . rw [aj (by omega),aj (by omega)];exact y.c0
   . rw [ax (by rw [bV,y.len];omega)];simp
   . rw [aj (by omega),aj (by omega)];exact y.c2
   . rw [aj (by omega),aj (by omega)];exact y.c3
   . rw [aj (by omega),aj (by omega)];exact y.c4
   . rw [aj (by omega)];rcases jP hk with hk1 | ⟨hk2,rfl⟩
     . have:=(aa.1 hk1).1;rw [aj (by omega)];exact y.at_ k x hk1
     . rw [hk2,<- ha,<- hb,ax (by rw [y.len];omega)]
def aao (h:AHeap) (i:Nat) (r:Rg) (N n:Nat) (fr:FF) (g:AHeap):Prop:=∃ (c:Nat) (out:AV) (G:List Nat),c+n=N/\cZ g i {r with row:=r.row.drop c}/\Vec g 1 (intsA (r.row.take c)) G out/\Keep [i] h g/\sW h G/\fr.get 0=.ptr i 0/\fr.get 5=out/\fr.get 8=.int .i64 (N:Int)/\fr.get 9=.int .i64 (c:Int)
theorem rR (x:cZ h i r) {N:Nat} (hN:N<=r.row.length):∃ o h',run T 87 [.ptr i 0,iQ (N:Int)] h=some (o,h')/\∃ G,cZ h' i {r with row:=r.row.drop N}/\Vec h' 1 (intsA (r.row.take N)) G o/\Keep [i] h h'/\sW h G:=by
 have hle:r.row.length<=256:=by have ⟨cs,hd,room,hc,y⟩:=x;exact y.le
 have hi:=x.lt;refine dQ Zo ?_;have hb:(N:Int)*8<=bigA/\N<=bigA:=by simp [bigA];omega
 simp [F87,hb];refine Wp.loop (aao h i r N) N lQ ?_ ?_
 . refine ⟨0,_,[h.size],by simp,by simpa using x.keep (Keep.push (F:=[])) (by simp),.mk (n:=0) (o:=0) (c:=.exact N) (room:=none) ak (by simp) (by simp) ⟨by simp,by simp [jw]⟩,Keep.push,by simp [sW],by simp,rfl,by simp,by simp⟩
 rintro n fr g ⟨c,out,G,hc,x,vo,k,hG,s0,s5,s8,s9⟩;have ⟨cs,hd,room,hcg,y⟩:=x;by_cases hcl:c<N
 . have hcr:c<r.row.length:=by omega
   have hx0:(r.row.drop c)[0]?=some r.row[c]:=by rw [aN];simp [hcr]
   have hhl:=y.hl;have hat:=y.at_ 0 _ hx0;rw [dJ,bL hhl] at hat;have c0:=y.c0;have c1:=y.c1;simp [eg] at c1;have e3:idxAddrV 1 (some 256) (.ptr i 0) (iQ (hd:Int))=some (.ptr i hd):=by simp [idxAddrV];omega
   have ⟨o',g',G',ea,w',k',f'⟩:=sS vo (x:=iQ r.row[c]) rfl (by simp;omega);have niG:i∉G:=fun hm=>by have:=hG i hm;omega
   have g1:=k'.obj hcg niG;obtain ⟨b,hb⟩:∃ b,b=(hd+1) % 256:=⟨_,rfl⟩
   have e1:IntKind.wrap .i64 ((hd:Int)+1)=((hd+1:Nat):Int):=by rw [rQ];rfl
   have e2:Int.tmod ((hd:Int)+1) 256=(b:Int):=by rw [hb];exact (Int.ofNat_tmod (hd+1) 256).symm
   have e4:wQ ((hd:Int)+1)=(hd:Int)+1:=rQ;have hw:=wr1 (h:=g') (i:=i) (room:=room) (v:=iQ (b:Int)) (show 256<cs.length by rw [y.len];omega) rfl;have g2:=got (y:=.cells false (cs.set 256 (iQ (b:Int))) room) g1;have d1:(cs.set 256 (iQ (b:Int)))[257]?=some (iQ ((r.row.length-c:Nat):Int)):=by rw [aj (by omega)];exact c1
   have e5:wQ (((r.row.length-c:Nat):Int)-1)=((r.row.length-c:Nat):Int)-1:=rQ;obtain ⟨lc,hlc⟩:∃ lc:Nat,lc=r.row.length-c:=⟨_,rfl⟩
   rw [<- hlc] at c1 d1 e5;have hw2:=wr1 (h:=g'.put i (Qc (cs.set 256 (iQ (b:Int))) room)) (i:=i) (room:=room) (v:=iQ ((lc:Int)-1)) (show 257<(cs.set 256 (.int .i64 (b:Int))).length by rw [bV,y.len];omega) rfl;have g3:=got (y:=.cells false ((cs.set 256 (iQ (b:Int))).set 257 (iQ ((lc:Int)-1))) room) g1;simp [s0,s5,s8,s9,hcl,hcg,c0,e3,hat,ea,g1,e4,e2,hw,g2,d1,e5,hw2];refine ⟨n-1,by omega,c+1,o',G',by omega,⟨_,b,room,g3,?_⟩,?_,(k.trans k' (fun t ht=>dx (hG t ht))).trans' (Keep.put (F:=[i]) (i:=i) (by simp)),fun t ht=>?_,by simp [s0,s8,wrap_nat (c:=c) (by omega)]⟩
   . refine ⟨by simp [y.len],?_,?_,?_,?_,?_,by omega,by simp;omega,fun j z hj=>?_,nc (nc y.Oe rfl) rfl⟩
     . rw [aj (by omega),ax (by rw [y.len];omega)]
     . rw [ax (by rw [bV,y.len];omega)];simp [eg];congr 2;omega
     . rw [aj (by omega),aj (by omega)];exact y.c2
     . rw [aj (by omega),aj (by omega)];exact y.c3
     . rw [aj (by omega),aj (by omega)];exact y.c4
     . rw [aj (by omega),aj (by omega)];have hj2:(r.row.drop c)[j+1]?=some z:=by rw [aN] at hj ⊢;rw [<- hj];congr 1;omega
       have:=y.at_ (j+1) z hj2;rw [<- this];congr 1;omega
   . have:=w'.keep (Keep.put (F:=[i]) (i:=i) (x:=.cells false ((cs.set 256 (iQ (b:Int))).set 257 (iQ ((lc:Int)-1))) room) (by simp)) (fun t ht=>by
      simp;rintro rfl;rcases f' t ht with h4 | h4
      . exact niG h4
      . have:=k.size;omega)
     rw [mq hcr,oe];exact this
   . rcases f' t ht with h4 | h4
     . exact hG t h4
     . have:=k.size;omega
 . have hcx:c=N:=by omega
   subst hcx;simp [s5,s8,s9];exact ⟨⟨cs,hd,room,hcg,y⟩,G,vo,k,hG⟩
end
end
section
variable {h h':AHeap} {i:Nat} {r:Rg}
theorem cZ.write (x:cZ h i r) {o:Nat} {v:AV} {r':Rg} (ho:257<o/\o<261) (hv:v.one=true) (hr:r'.row=r.row) (h2:∀ cs hd,RingC cs hd r->(cs.set o v)[258]?=some (.bool r'.is)/\(cs.set o v)[259]?=some (iQ r'.next)/\(cs.set o v)[260]?=some (iQ r'.streak)) :
 ∃ g,writeOf h i (h.get i) o [v]=some g/\cZ g i r'/\Keep [i] h g/\∃ cs room,g.get i=some (Qc (cs.set o v) room)/\∃ hd,RingC cs hd r:=by
 have ⟨cs,hd,room,hc,y⟩:=x;have ⟨p1,p2,p3⟩:=h2 cs hd y;refine ⟨_,by rw [hc];exact wr1 (by rw [y.len];omega) hv,⟨_,hd,room,got hc,by simp [y.len],?_,?_,p1,p2,p3,y.hl,by rw [hr];exact y.le,fun k z hk=>?_,nc y.Oe hv⟩,Keep.put (by simp),cs,room,got hc,hd,y⟩
 . rw [aj (by omega)];exact y.c0
 . rw [aj (by omega),hr];exact y.c1
 . rw [hr] at hk;rw [aj (by omega)];exact y.at_ k z hk
theorem Mb (x:cZ h i r) (hl:r.row.length<256) (g:Int):∃ h',run T 177 [.ptr i 0,iQ g] h=some (.nilslice,h')/\cZ h' i {r with row:=r.row++[g]}/\Keep [i] h h':=by
 have ⟨h',e,x',k⟩:=tH x hl g;have ⟨cs,hd,room,hc,y⟩:=x;have c1:=y.c1;have hne:¬ (r.row.length:Int)=256:=by omega
 have hne2:¬ r.row.length=256:=by omega
 refine ⟨h',run_eq WJ ?_,x',k⟩;simp [Tr,hc,c1,hne,e]
def Rg.ready (r:Rg) (g:Int):Rg:={row:=if r.is=true then r.row++[r.next] else r.row,is:=true,next:=g,streak:=r.streak}
theorem ring_ready (x:cZ h i r) (hl:r.row.length<256) (g:Int):∃ h',run T 151 [.ptr i 0,iQ g] h=some (.nilslice,h')/\cZ h' i (r.ready g)/\Keep [i] h h':=by
 have e0:=JP x;have ⟨g1,w1,x1,k1,cs1,room1,o1,hd1,y1⟩:=x.write (o:=259) (v:=iQ g) (r':={r with next:=g}) (by omega) rfl rfl (fun cs hd y=>⟨by rw [aj (by omega)];exact y.c2,by rw [ax (by rw [y.len];omega)],by rw [aj (by omega)];exact y.c4⟩);have ⟨g2,w2,x2,k2,_⟩:=x1.write (o:=258) (v:=.bool true) (r':={r with next:=g,is:=true}) (by omega) rfl rfl (fun cs hd y=>⟨by rw [ax (by rw [y.len];omega)],by rw [aj (by omega)];exact y.c3,by rw [aj (by omega)];exact y.c4⟩);refine run_val T_151 ?_;cases hi:r.is with
 | false=>rw [hi] at e0;simp [Qq,e0,w1,w2];exact ⟨by simpa [Rg.ready,hi] using x2,k1.trans' k2⟩
 | true=>rw [hi] at e0;have ⟨h',e3,x3,k3⟩:=Mb x2 hl r.next;simp [Qq,e0,w1,w2,e3];exact ⟨by simpa [Rg.ready,hi] using x3,(k1.trans' k2).trans' k3⟩
def Qe (h:AHeap) (i:Nat) (r:Rg) (xs:List Int) (F:List Nat) (s u:AV) (N n:Nat) (fr:FF) (g:AHeap):Prop:=∃ c:Nat,c+n=xs.length/\cZ g i {r with row:=r.row++xs.take c}/\Keep [i] h g/\fr.get 0=.ptr i 0/\fr.get 1=s/\fr.get 5=.int .i64 (xs.length:Int)/\fr.get 18=u/\fr.get 19=.int .i64 (xs.length:Int)/\fr.get 20=.int .i64 (c:Int)
theorem ring_putAll {xs:List Int} {F:List Nat} {s:AV} (x:cZ h i r) (v:dz h 1 (intsA xs) F s) (hi:i∉F) (hl:r.row.length+xs.length<=256) :
 ∃ u h',run T 150 [.ptr i 0,s] h=some (u,h')/\∃ G,cZ h' i {r with row:=r.row++xs}/\dz h' 1 [] G u/\Keep [i] h h'/\sW h G:=by
 have hs:=v.my
 simp at hs
 have ⟨u,cu,vu⟩:=v.slice (by omega) (n:=xs.length) (a:=0) (b:=xs.length) (lo:=none) (hi:=some (iQ (xs.length:Int))) (by simp) (by simp) (by simp) (by omega) (aq _)
 simp only [dN,pM,lH] at vu
 rw [aW (by simp)] at vu
 have hu:=vu.my
 simp at hu
 refine dQ W2 ?_
 have ⟨cs,hd,room,hc,y⟩:=id x
 have c1:=y.c1
 have e1:IntKind.wrap .i64 (256-(r.row.length:Int))=256-(r.row.length:Int):=rQ
 have e2:kM (iQ (xs.length:Int)) (iQ (256-(r.row.length:Int)))=some (.int .i64 (xs.length:Int)):=by simp [kM];omega
 simp [TE,hs,hc,c1,e1,e2,cu,hu]
 refine Wp.loop (Qe h i r xs F s u xs.length) xs.length (nr (by omega)) ?_ ?_
 . exact ⟨0,by simp,by simpa using x,Keep.refl,by simp⟩
 rintro n fr g ⟨c,hc',xg,k,s0,s1,s5,s18,s19,s20⟩
 have vug:=vu.keep k (fun t ht=>by simp;rintro rfl;exact hi ht)
 by_cases hcl:c<xs.length
 . obtain ⟨j,o,h1,h2,h3⟩:=vug.vM (AW hcl)
   obtain ⟨g',e,x',k'⟩:=tH xg (by simp;omega) xs[c]
   simp [s0,s18,s19,s20,hcl,h1,h3,e]
   exact ⟨n-1,by omega,c+1,by omega,by rw [mq hcl,<- cX];exact x',k.trans' k',by simp [s0,s1,s5,s18,s19,wrap_nat (c:=c) (by omega)]⟩
 . have hcx:c=xs.length:=by omega
   subst hcx
   rw [gB] at xg
   have vg:=v.keep k (fun t ht=>by simp;rintro rfl;exact hi ht)
   obtain ⟨z,cz,vz⟩:=vg.slice (by omega) (n:=xs.length) (a:=xs.length) (b:=xs.length) (lo:=some (.int .i64 (xs.length:Int))) (hi:=none) (by simp) (by simp) (by simp) (aq _) (aq _)
   simp only [lH,HJ,List.take_zero] at vz
   obtain ⟨z',g',F',e,v',k',f'⟩:=lZ (xs:=[]) (by simpa using vz) (by simp)
   simp [s1,s5,s19,s20,cz,e]
   exact ⟨xg.keep k' (by simp),F',v'.view,k.trans k' (by simp),fun t ht=>by have:=f' t ht;have:=k.size;omega⟩
def Rg.get (r:Rg):Rg×Int×Bool:=
 if r.is=true/\r.row=[] then ({r with streak:=0,is:=false},r.next,true)
 else if r.is=true/\r.streak<4 then ({r with streak:=r.streak+1,is:=false},r.next,true)
 else match r.row with
  | []=>(r,0,false)
  | x::l=>(if r.is=true then {row:=l++[r.next],is:=false,next:=r.next,streak:=0} else {r with row:=l,streak:=0},x,true)
theorem Mf (x:cZ h i r) (hst:0<=r.streak/\r.streak<=100):∃ h',run T 141 [.ptr i 0] h=some (.tuple [iQ r.get.2.1,.bool r.get.2.2],h')/\cZ h' i r.get.1/\Keep [i] h h':=by
 have ⟨cs,hd,room,hc,y⟩:=id x;have c1:=y.c1;have c2:=y.c2;have c4:=y.c4;refine run_val W9 ?_;have wst:∀ z,∃ g,writeOf h i (h.get i) 260 [iQ z]=some g/\cZ g i {r with streak:=z}/\Keep [i] h g/\∃ cs room,g.get i=some (Qc (cs.set 260 (iQ z)) room)/\∃ hd,RingC cs hd r:=fun z=>x.write (o:=260) (v:=iQ z) (r':={r with streak:=z}) (by omega) rfl rfl (fun cs hd y=>⟨by rw [aj (by omega)];exact y.c2,by rw [aj (by omega)];exact y.c3,by rw [ax (by rw [y.len];omega)]⟩);have ⟨g0,w0,x0,k0,csz,roomz,oz,hdz,yz⟩:=wst 0;rw [hc] at w0;cases hi:r.is with
 | true=>
  rw [hi] at c2
  by_cases hr:r.row=[]
  . have hl:r.row.length=0:=by rw [hr];rfl
    have ⟨g1,e1,x1,k1⟩:=ring_take x0;rw [hl] at c1;have hg:r.get=({r with streak:=0,is:=false},r.next,true):=by unfold Rg.get;rw [if_pos ⟨hi,hr⟩]
    rw [hg];simp [HD,hc,c1,c2,w0,e1];exact ⟨x1,k0.trans' k1⟩
  . have hl:¬ r.row.length=0:=fun e=>hr (aG e);by_cases h4:r.streak<4
    . have ⟨g2,w2,x2,k2,_⟩:=wst (r.streak+1);rw [hc] at w2;have ⟨g1,e1,x1,k1⟩:=ring_take x2;have hg:r.get=({r with streak:=r.streak+1,is:=false},r.next,true):=by unfold Rg.get;rw [if_neg (fun h=>hr h.2),if_pos ⟨hi,h4⟩]
      rw [hg];have ew:wQ (r.streak+1)=r.streak+1:=rQ;simp [HD,hc,c1,c2,c4,hl,h4,ew,w2,e1];exact ⟨x1,k2.trans' k1⟩
    . obtain ⟨z,l,hzl⟩:∃ z l,r.row=z::l:=by
       cases hrr:r.row with
       | nil=>exact absurd hrr hr
       | cons z l=>exact ⟨z,l,rfl⟩
      have ⟨o,g1,e1,G,x1,v1,k1,f1⟩:=rR x0 (N:=1) (by simp [hzl])
      have e1:run T 87 [.ptr i 0,iQ 1] g0=some (o,g1):=e1
      simp [hzl,Dp,dN,gb,List.take_zero] at x1 v1
      have ⟨j,q,q1,q2,q3⟩:=v1.view.vM (k:=0) (x:=iQ z) rfl
      have q1:idxAddrV 1 none o (iQ 0)=some (.ptr j q):=q1
      have ⟨cs1,hd1,room1,hc1,y1⟩:=id x1
      have d2:=y1.c2
      simp [hi] at d2
      have ⟨g2,e2,x2,k2⟩:=ring_take x1
      have hlen:l.length<256:=by have:=y.le;rw [hzl] at this;simp at this;omega
      have ⟨g3,e3,x3,k3⟩:=tH x2 hlen r.next
      have hg:r.get=({row:=l++[r.next],is:=false,next:=r.next,streak:=0},z,true):=by unfold Rg.get;rw [if_neg (fun h=>hr h.2),if_neg (fun h=>h4 h.2),hzl];simp [hi,if_true]
      rw [hg]
      simp [HD,hc,c1,c2,c4,hl,h4,w0,e1,q1,q3,hc1,d2,e2,e3]
      exact ⟨x3,((k0.trans' k1).trans' k2).trans' k3⟩
 | false=>
  rw [hi] at c2
  cases hrr:r.row with
  | nil=>
   have hl:r.row.length=0:=by rw [hrr];rfl
   rw [hl] at c1;have hg:r.get=(r,0,false):=by unfold Rg.get;rw [if_neg (by simp [hi]),if_neg (by simp [hi]),hrr]
   rw [hg];simp [HD,hc,c1,c2];exact ⟨x,Keep.refl⟩
  | cons z l=>
   have hl:¬ r.row.length=0:=by rw [hrr];simp
   have ⟨o,g1,e1,G,x1,v1,k1,f1⟩:=rR x0 (N:=1) (by simp [hrr]);have e1:run T 87 [.ptr i 0,iQ 1] g0=some (o,g1):=e1;simp [hrr,Dp,dN,gb,List.take_zero] at x1 v1;have ⟨j,q,q1,q2,q3⟩:=v1.view.vM (k:=0) (x:=iQ z) rfl;have q1:idxAddrV 1 none o (iQ 0)=some (.ptr j q):=q1;have ⟨cs1,hd1,room1,hc1,y1⟩:=id x1;have d2:=y1.c2;simp [hi] at d2;have hg:r.get=({r with row:=l,streak:=0},z,true):=by unfold Rg.get;rw [if_neg (by simp [hi]),if_neg (by simp [hi]),hrr];simp [hi]
   rw [hg];have hr:¬ r.row=[]:=by rw [hrr];simp
   simp [HD,hc,c1,c2,hl,w0,e1,q1,q3,hc1,d2];exact ⟨by simpa [hi] using x1,k0.trans' k1⟩
def Rg.fp (r:Rg):Rg×List Int:=
 if r.row=[]/\r.is=true then ({r with streak:=0,is:=false},[r.next])
 else ({r with row:=r.row.drop ((r.row.length+1) / 2)},r.row.take ((r.row.length+1) / 2))
theorem Gk (x:cZ h i r):∃ o h',run T 144 [.ptr i 0] h=some (o,h')/\∃ G,cZ h' i r.fp.1/\dz h' 1 (intsA r.fp.2) G o/\Keep [i] h h'/\sW h G:=by
 have ⟨cs,hd,room,hc,y⟩:=id x;have c1:=y.c1;have c2:=y.c2;have hle:=y.le;have hil:=x.lt;refine dQ W6 ?_;by_cases hr:r.row=[]/\r.is=true
 . have ⟨hr,hi⟩:=hr;have ⟨g0,w0,x0,k0,_⟩:=x.write (o:=260) (v:=iQ 0) (r':={r with streak:=0}) (by omega) rfl rfl (fun cs hd y=>⟨by rw [aj (by omega)];exact y.c2,by rw [aj (by omega)];exact y.c3,by rw [ax (by rw [y.len];omega)]⟩);rw [hc] at w0;have ⟨g1,e1,x1,k1⟩:=ring_take x0;have hl:r.row.length=0:=by rw [hr];rfl
   rw [hl] at c1;rw [hi] at c2;have hg:r.fp=({r with streak:=0,is:=false},[r.next]):=by unfold Rg.fp;rw [if_pos ⟨hr,hi⟩]
   rw [hg];simp [N8,hc,c1,c2,w0,e1];have hsz:=(k0.trans' k1).size;exact ⟨x1.keep (Keep.push (F:=[])) (by simp),[g1.size],vU,(k0.trans' k1).trans' Keep.push,fun t ht=>by simp at ht;omega⟩
 . obtain ⟨N,hN⟩:∃ N,N=(r.row.length+1) / 2:=⟨_,rfl⟩
   have hg:r.fp=({r with row:=r.row.drop N},r.row.take N):=by unfold Rg.fp;rw [if_neg hr,hN]
   rw [hg];have ⟨o,g1,e1,G,x1,v1,k1,f1⟩:=rR x (N:=N) (by omega);have ew:wQ ((r.row.length:Int)+1)=(r.row.length:Int)+1:=wrap_nat (by omega);have eq:wQ (Int.tdiv ((r.row.length:Int)+1) 2)=(N:Int):=by
    have:Int.tdiv ((r.row.length:Int)+1) 2=(N:Int):=by rw [hN];exact (mw (r.row.length+1) 2).symm
    rw [this];exact rQ
   by_cases hl:r.row=[]
   . have hi:r.is=false:=by
      cases hi:r.is with
      | false=>rfl
      | true=>exact absurd ⟨hl,hi⟩ hr
     have hl0:r.row.length=0:=by rw [hl];rfl
     rw [hl0] at c1 ew eq;rw [hi] at c2;have hN0:N=0:=by rw [hN,hl0]
     subst hN0;have e1:run T 87 [.ptr i 0,iQ 0] h=some (o,g1):=e1;have hz:wQ ((wQ 1).tdiv 2)=0:=by decide
     simp [N8,hc,c1,c2,hz,e1];simp at x1;exact ⟨x1,G,by simpa using v1.view,k1,f1⟩
   . have hl0:¬ r.row.length=0:=fun e=>hl (aG e);simp [N8,hc,c1,hl0,ew,eq,e1];exact ⟨x1,G,v1.view,k1,f1⟩
end
section
variable {h:AHeap} {i j:Nat} {ws:List Int} {cnt k:Int}
theorem AO (m:MemAt h i j ws cnt) (h0:0<=k) (hk:k<ws.length):∃ h',run T 76 [.ptr i 0,iQ k] h=some (.bool (decide (wd ws k.toNat=0)),h')/\MemAt h' i j (if wd ws k.toNat=0 then ws.set k.toNat 1 else ws) (up cnt)/\Keep [i,j] h h':=by have ⟨h',e,m',k'⟩:=rK m h0 hk 0 1;refine ⟨h',run_eq Zv ?_,m',k'⟩;simp [F76,e]
theorem tO (m:MemAt h i j ws cnt) (h0:0<=k) (hk:k<ws.length):∃ h',run T 106 [.agg [iQ k,iQ 9223372036854775807],.ptr i 0,iQ 0] h=some (iQ (if wd ws k.toNat=1 then 1 else 0),h')/\MemAt h' i j (if wd ws k.toNat=1 then ws.set k.toNat 0 else ws) (up cnt)/\Keep [i,j] h h':=by
 have k0:Keep [i,j] h (h.push (Qc [iQ k,iQ 9223372036854775807] none)):=Keep.push;have b0:(h.push (Qc [iQ k,iQ 9223372036854775807] none)).get h.size=some (Qc [iQ k,iQ 9223372036854775807] none):=ak;have hl:=m.lt;obtain ⟨h1,e1,m1,k1⟩:=rK (m.keep (Keep.push (F:=[])) (by simp) (by simp)) h0 hk 1 0;have b1:=k1.obj b0 (by simp;omega);refine run_val Xx ?_;by_cases hw:wd ws k.toNat=1
 . rw [decide_eq_true hw] at e1;simp [Qz,b0,e1,hw];rw [if_pos hw] at m1;exact ⟨m1,k0.trans' k1⟩
 . rw [decide_eq_false hw] at e1;have e2:run T 135 [.agg [.int .i64 k,.int .i64 9223372036854775807],.int .i64 0] h1=some (.bool false,h1.push (.cells false [.int .i64 k,.int .i64 9223372036854775807] none)):=by refine run_eq Xf ?_;simp [TL]
   simp [Qz,b0,b1,e1,e2,hw];rw [if_neg hw] at m1;exact ⟨m1.keep (Keep.push (F:=[])) (by simp) (by simp),(k0.trans' k1).trans' Keep.push⟩
end
section
def cY (h:AHeap) (i:Nat) (F:List Nat) (xs:List Int) (rest:List AV):Prop:=∃ s room,h.get i=some (.cells false (s::rest) room)/\Vec h 1 (intsA xs) F s/\i∉F
theorem cY.keep {h h':AHeap} {i:Nat} {F G:List Nat} {xs:List Int} {rest:List AV} (b:cY h i F xs rest) (k:Keep G h h') (hd:∀ t∈i::F,t∉G):cY h' i F xs rest:=by have ⟨s,room,hi,v,ni⟩:=b;exact ⟨s,room,k.obj hi (hd i (by simp)),v.keep k (fun t ht=>hd t (by simp [ht])),ni⟩
theorem cY.lt {h:AHeap} {i:Nat} {F:List Nat} {xs:List Int} {rest:List AV} (b:cY h i F xs rest):∀ t∈i::F,t<h.size:=by
 have ⟨s,room,hi,v,ni⟩:=b;intro t ht;rcases aD.1 ht with rfl | ht
 . exact get_lt hi
 . exact v.lt t ht
section
variable {h:AHeap} {i:Nat} {xs ys:List Int} {F G:List Nat} {s u:AV} {rest:List AV}
theorem K4 (b:cY h i F xs rest):run T 172 [.ptr i 0] h=some (iQ xs.length,h):=by have ⟨s,room,hi,v,ni⟩:=b;have hl:=v.view.my;refine run_eq WM ?_;simp [Tu,hi,hl]
theorem Ht (b:cY h i F xs rest) (hb:xs.length<=1000000):∃ s' h' F',run T 85 [.ptr i 0] h=some (s',h')/\Vec h' 1 (intsA xs) F' s'/\Keep [] h h'/\sW h F':=by have ⟨s,room,hi,v,ni⟩:=b;have ⟨s',h',F',e,v',k,o⟩:=lZ v.view hb;refine ⟨s',h',F',run_eq Zq ?_,v',k,o⟩;simp [F85,hi,e]
theorem Bk {F':List Nat} {s':AV} {s0:AV} {room:Option (Nat×Nat)} (hi:h.get i=some (Qc (s0::rest) room)) (v:Vec h 1 (intsA xs) F' s') (ni:i∉F'):h.write i 0 [s']=some (h.put i (Qc (s'::rest) room))/\cY (h.put i (Qc (s'::rest) room)) i F' xs rest:=by
 have hs:s'.one=true:=by cases v<;>rfl
 refine ⟨by simp [hi,hs],s',room,by rw [get_put_same,hi];rfl,v.keep (Keep.put (F:=[i]) (by simp)) (fun t ht hm=>?_),ni⟩;simp [iV] at hm;subst hm;exact ni ht
theorem Ap {h:AHeap} {n:Nat} {cs:List AV} {F:List Nat} {s:AV} (v:Vec h n cs F s):s.cells=[s]/\s.one=true:=by cases v<;>exact ⟨rfl,rfl⟩
theorem K3 (b:cY h i F xs rest) (v:dz h 1 (intsA ys) G u) (hb:xs.length+ys.length<=1000000):∃ h' F',run T 99 [.ptr i 0,u] h=some (.tuple [],h')/\cY h' i F' (xs++ys) rest/\Keep (i::F) h h'/\∀ t∈F',t∈F\/h.size<=t:=by
 have ⟨s,room,hi,w,ni⟩:=b;have ⟨s',h',F',e,w',k,f⟩:=w.wG (bytes:=8) v ue (by simp [bigA];omega) (by simp [bigA];omega);rw [<- oe] at w';have ni':i∉F':=fun hm=>by
  rcases f i hm with h1 | h1
  . exact ni h1
  . have:=get_lt hi;omega
 have hi':=k.obj hi ni;have ⟨e2,b2⟩:=Bk hi' w' ni';have hc:=Ap w';refine ⟨_,F',run_eq Zf ?_,b2,(k.mono (by simp;exact fun t ht=>dx ht)).trans' (Keep.put (by simp)),f⟩;simp [F99,hi,e,hc,hi']
theorem pJ (b:cY h i F xs rest) (hb:xs.length<=1000000) (n:Int):∃ s' h' G,run T 170 [.ptr i 0,iQ n] h=some (s',h')/\Vec h' 1 (intsA (xs.take n.toNat)) G s'/\cY h' i F (xs.drop n.toNat) rest/\Keep (i::F) h h'/\sW h G:=by
 have ⟨s,room,hi,w,ni⟩:=b;have hl:=w.view.my;simp at hl;obtain ⟨k,hk⟩:∃ k:Nat,min (max 0 n) (xs.length:Int)=k:=⟨(min (max 0 n) (xs.length:Int)).toNat,by omega⟩
 have hkl:k<=xs.length:=by omega
 have e1:xs.take n.toNat=xs.take k:=by rw [List.take_eq_take_iff];omega
 have e2:xs.drop n.toNat=xs.drop k:=by
  rcases bH xs.length n.toNat with h1 | h1
  . rw [vJ (by omega),vJ (by omega)]
  . rw [show n.toNat=k by omega]
 rw [e1,e2];have ⟨s1,es,v1⟩:=w.view.slice (by omega) (n:=xs.length) (lo:=none) (hi:=some (iQ k)) (a:=0) (b:=k) (by simp) (by simp) (by simp) (by omega) hkl;simp at v1;have ⟨s2,h1,G,ec,v2,k1,o1⟩:=lZ v1 (by simp;omega);have hi1:=k1.obj hi (by simp);have ⟨s3,h2,ed,v3,k2⟩:=Bd (w.keep k1 (by simp)) hb hkl;have hi2:=k2.obj hi1 ni;have ⟨e4,b4⟩:=Bk hi2 v3 ni;have hc:=Ap v3;have hlt:=w.lt;have hi0:=get_lt hi;have kk:Keep (i::F) h h2:=(k1.mono (by simp)).trans (G:=F) k2 (fun t ht=>dc (by simp [ht]));refine ⟨s2,_,G,run_eq WO ?_,?_,b4,kk.trans' (Keep.put (by simp)),o1⟩
 . simp [Tw,hi,hl,hk,es,ec,hi1,ed,hi2,hc]
 . have v5:=v2.keep k2 (fun t ht hm=>by have:=hlt t hm;have:=o1 t ht;omega);exact v5.keep (Keep.put (F:=[i]) (by simp)) (fun t ht hm=>by simp [iV] at hm;have:=o1 t ht;omega)
theorem Hs (b:cY h i F xs rest) (hb:xs.length<=1000000):∃ h',run T 167 [.ptr i 0] h=some (.tuple [iQ (xs.headD 0),.bool (decide (xs≠[]))],h')/\cY h' i F (xs.drop 1) rest/\Keep (i::F) h h':=by
 have ⟨s',h',G,e,v,b',k,o⟩:=pJ b hb 1;refine ⟨h',run_eq WS ?_,b',k⟩;have hl:=v.view.my;cases xs with
 | nil=>simp at hl;simp [F167,e,hl]
 | cons x xs=>simp at hl;have ⟨j,o',h1,h2,h3⟩:=v.view.vM (k:=0) (x:=iQ x) (by simp [intsA]);have h1:idxAddrV 1 none s' (iQ 0)=_:=h1;simp [F167,e,hl,h1,h3]
end
end
section
def shareN (len p:Nat):Nat:=min (min (len / p+1) len) 128
section
variable {h:AHeap} {i p:Nat} {xs ys:List Int} {F G:List Nat} {s u:AV}
theorem J2 (h:AHeap) (n:Int):∃ (p:Nat) (h':AHeap),(p:Int)=min (max 1 n) 64/\run T 46 [iQ n] h=some (.ptr h.size 0,h')/\cY h' h.size [] [] [iQ p]/\Keep [] h h':=by
 obtain ⟨p,hp⟩:∃ p:Nat,(p:Int)=min (max 1 n) 64:=⟨(min (max 1 n) 64).toNat,by omega⟩
 refine ⟨p,h.push (Qc [.nilslice,iQ p] none),hp,run_eq ZS ?_,⟨.nilslice,none,ak,.nil rfl,by simp⟩,Keep.push⟩;simp [F46,<- hp]
theorem AI (b:cY h i F xs [iQ p]):run T 146 [.ptr i 0] h=some (iQ xs.length,h):=by have e:=K4 b;refine run_eq W4 ?_;simp [TF,e]
theorem AH (b:cY h i F xs [iQ p]) (v:dz h 1 (intsA ys) G u) (hb:xs.length+ys.length<=1000000):∃ h' F',run T 56 [.ptr i 0,u] h=some (.tuple [],h')/\cY h' i F' (xs++ys) [iQ p]/\Keep (i::F) h h'/\∀ t∈F',t∈F\/h.size<=t:=by have ⟨h',F',e,b',k,f⟩:=K3 b v hb;refine ⟨h',F',run_eq ZK ?_,b',k,f⟩;simp [F56,e]
theorem D6 (b:cY h i F xs [iQ p]) (hp:1<=p) (hb:xs.length<=1000000):run T 171 [.ptr i 0] h=some (iQ (shareN xs.length p),h):=by
 have e:=AI b;have ⟨s,room,hi,v,ni⟩:=b;obtain ⟨q,hq⟩:∃ q:Nat,q=xs.length / p:=⟨_,rfl⟩
 have hql:q<=xs.length:=by rw [hq];exact Nat.div_le_self _ _
 have hp0:(p:Int)≠0:=by omega
 have hq1:di .quo (iQ (xs.length:Int)) (iQ (p:Int))=some (iQ q):=by rw [K0 hp0,gF (by omega),<- Int.natCast_ediv,<- hq,rQ]
 have hq2:wQ ((q:Int)+1)=(q:Int)+1:=wrap_nat (by omega);have hs:min (min ((q:Int)+1) xs.length) 128=(shareN xs.length p:Int):=by rw [shareN,<- hq];omega
 refine run_eq WN ?_;simp [Tv,e,hi,hq1,hq2,hs]
theorem xb {len p:Nat} (h:0<len):0<shareN len p:=by simp [shareN];generalize len / p=q;omega
theorem queue_take (b:cY h i F xs [iQ p]) (hp:1<=p) (hb:xs.length<=1000000):∃ s' h' G,run T 143 [.ptr i 0] h=some (s',h')/\Vec h' 1 (intsA (xs.take (shareN xs.length p))) G s'/\cY h' i F (xs.drop (shareN xs.length p)) [iQ p]/\Keep (i::F) h h'/\sW h G:=by have e:=D6 b hp hb;have ⟨s',h',G,e2,v,b',k,o⟩:=pJ b hb (shareN xs.length p);refine ⟨s',h',G,run_eq W7 ?_,v,b',k,o⟩;simp [TG,e,e2]
theorem J0 (b:cY h i F xs [iQ p]) (hb:xs.length<=1000000):∃ h',run T 139 [.ptr i 0] h=some (.tuple [iQ (xs.headD 0),.bool (decide (xs≠[]))],h')/\cY h' i F (xs.drop 1) [iQ p]/\Keep (i::F) h h':=by have ⟨h',e,b',k⟩:=Hs b hb;refine ⟨h',run_eq Xb ?_,b',k⟩;simp [TH,e]
theorem Gp (b:cY h i F xs [iQ p]) (hb:xs.length<=1000000):∃ s' h' F',run T 40 [.ptr i 0] h=some (s',h')/\Vec h' 1 (intsA xs) F' s'/\Keep [] h h'/\sW h F':=by have ⟨s',h',F',e,v,k,o⟩:=Ht b hb;refine ⟨s',h',F',run_eq ZY ?_,v,k,o⟩;simp [F40,e]
end
end
section
variable {x d6 d1 d4 d5 d7 d0 d2 d3:Nat}
def popN:Nat->Nat->Nat
 | 0,_=>0
 | n+1,x=>x % 2+popN n (x / 2)
theorem nL (a b c d:Nat) (hb:b<256) (hd:d<256):(256*a+b) &&& (256*c+d)=256*(a &&& c)+(b &&& d):=by have hbd:b &&& d<256:=lp Nat.and_le_left hb;apply jJ;intro i;have e1:=dh (i:=8) a (b:=b) hb i;have e2:=dh (i:=8) c (b:=d) hd i;have e3:=dh (i:=8) (a &&& c) (b:=b &&& d) hbd i;rw [show (2:Nat) ^ 8=256 from rfl] at e1 e2 e3;rw [Nat.testBit_and,e1,e2,e3];split<;>simp
def S1 (m x:Nat):Nat:=((x >>> 1) &&& m)+(x &&& m)
def S2 (m x:Nat):Nat:=((x >>> 2) &&& m)+(x &&& m)
def S3 (m x:Nat):Nat:=((x >>> 4)+x) &&& m
theorem Y1:∀ t<2,∀ r<256,(128*t+r / 2) &&& 85=(r / 2) &&& 85:=by decide +kernel
theorem Y0:∀ t<4,∀ r<256,(64*t+r / 4) &&& 51=(r / 4) &&& 51:=by decide +kernel
theorem NV (m q r:Nat) (hr:r<256):S1 (256*m+85) (256*q+r)=256*S1 m q+S1 85 r:=by
 have e:(256*q+r) >>> 1=256*(q >>> 1)+(128*(q % 2)+r / 2):=by simp [cx];omega
 have l:=Y1 (q % 2) (by omega) r hr;simp [S1];rw [e,nL _ _ _ _ (by omega) (by omega),nL _ _ _ _ hr (by omega),l];rw [show r >>> 1=r / 2 by simp [cx]];omega
theorem NU (m q r:Nat) (hr:r<256):S2 (256*m+51) (256*q+r)=256*S2 m q+S2 51 r:=by
 have e:(256*q+r) >>> 2=256*(q >>> 2)+(64*(q % 4)+r / 4):=by simp [cx];omega
 have l:=Y0 (q % 4) (by omega) r hr;simp [S2];rw [e,nL _ _ _ _ (by omega) (by omega),nL _ _ _ _ hr (by omega),l];rw [show r >>> 2=r / 4 by simp [cx]];omega
theorem NT (m q r:Nat) (hr:r / 16<=4) (hr2:r % 16<=4) (hq:q % 16<=4):S3 (256*m+15) (256*q+r)=256*S3 m q+S3 15 r:=by
 have e:(256*q+r) >>> 4+(256*q+r)=256*(q >>> 4+q)+(16*(q % 16)+r / 16+r):=by simp [cx];omega
 simp [S3];rw [e,nL _ _ _ _ (by omega) (by omega)];have h15:∀ x:Nat,x &&& 15=x % 16:=fun x=>Nat.and_two_pow_sub_one_eq_mod x 4;rw [h15,h15,show r >>> 4=r / 16 by simp [cx]];omega
theorem kY:∀ r<256,S3 15 (S2 51 (S1 85 r))=popN 8 r/\S1 85 r<256/\S2 51 (S1 85 r) / 16<=4/\S2 51 (S1 85 r) % 16<=4/\popN 8 r<=8:=by decide +kernel
def rep8 (d:Nat):Nat->Nat
 | 0=>0
 | n+1=>256*rep8 d n+d
def bytesN:Nat->Nat->Nat
 | 0,_=>0
 | n+1,x=>256*bytesN n (x / 256)+popN 8 (x % 256)
theorem SF (x:Nat):S1 0 x=0/\S2 0 x=0/\S3 0 x=0:=by simp [S1,S2,S3]
theorem E7:∀ n x,S3 (rep8 15 n) (S2 (rep8 51 n) (S1 (rep8 85 n) x))=bytesN n x/\S2 (rep8 51 n) (S1 (rep8 85 n) x) % 16<=4
 | 0,x=>by simp [rep8,SF,bytesN]
 | n+1,x=>by
  have ⟨h1,h2⟩:=E7 n (x / 256);have ⟨b1,b2,b3,b4,b5⟩:=kY (x % 256) (by omega);have e1:S1 (rep8 85 (n+1)) x=256*S1 (rep8 85 n) (x / 256)+S1 85 (x % 256):=by have:=NV (rep8 85 n) (x / 256) (x % 256) (by omega);rw [show 256*(x / 256)+x % 256=x by omega] at this;exact this
  have e2:=NU (rep8 51 n) (S1 (rep8 85 n) (x / 256)) (S1 85 (x % 256)) b2;have e3:=NT (rep8 15 n) (S2 (rep8 51 n) (S1 (rep8 85 n) (x / 256))) (S2 51 (S1 85 (x % 256))) b3 b4 h2;rw [e1,show rep8 51 (n+1)=256*rep8 51 n+51 from rfl,e2,show rep8 15 (n+1)=256*rep8 15 n+15 from rfl,e3,h1,b1];exact ⟨rfl,by omega⟩
theorem jo (n x:Nat):popN (n+8) x=popN 8 (x % 256)+popN n (x / 256):=by
 have d:x / 2 / 2 / 2 / 2 / 2 / 2 / 2 / 2=x / 256:=by omega
 have p:∀ y,popN 8 y=y % 2+(y / 2 % 2+(y / 2 / 2 % 2+(y / 2 / 2 / 2 % 2+(y / 2 / 2 / 2 / 2 % 2+(y / 2 / 2 / 2 / 2 / 2 % 2+(y / 2 / 2 / 2 / 2 / 2 / 2 % 2+(y / 2 / 2 / 2 / 2 / 2 / 2 / 2 % 2+0))))))):=fun y=>rfl;have q:popN (n+8) x=x % 2+(x / 2 % 2+(x / 2 / 2 % 2+(x / 2 / 2 / 2 % 2+(x / 2 / 2 / 2 / 2 % 2+(x / 2 / 2 / 2 / 2 / 2 % 2+(x / 2 / 2 / 2 / 2 / 2 / 2 % 2+(x / 2 / 2 / 2 / 2 / 2 / 2 / 2 % 2+popN n (x / 2 / 2 / 2 / 2 / 2 / 2 / 2 / 2)))))))):=rfl;have b0:x % 256 % 2=x % 2:=by omega
 have b1:x % 256 / 2 % 2=x / 2 % 2:=by omega
 have b2:x % 256 / 2 / 2 % 2=x / 2 / 2 % 2:=by omega
 have b3:x % 256 / 2 / 2 / 2 % 2=x / 2 / 2 / 2 % 2:=by omega
 have b4:x % 256 / 2 / 2 / 2 / 2 % 2=x / 2 / 2 / 2 / 2 % 2:=by omega
 have b5:x % 256 / 2 / 2 / 2 / 2 / 2 % 2=x / 2 / 2 / 2 / 2 / 2 % 2:=by omega
 have b6:x % 256 / 2 / 2 / 2 / 2 / 2 / 2 % 2=x / 2 / 2 / 2 / 2 / 2 / 2 % 2:=by omega
 have b7:x % 256 / 2 / 2 / 2 / 2 / 2 / 2 / 2 % 2=x / 2 / 2 / 2 / 2 / 2 / 2 / 2 % 2:=by omega
 rw [q,d,p,b0,b1,b2,b3,b4,b5,b6,b7];omega
def Io (x:Nat):Nat:=
 let y:=bytesN 8 x
 let a:=(y+y >>> 8) % 18446744073709551616
 let b:=(a+a >>> 16) % 18446744073709551616
 let c:=(b+b >>> 32) % 18446744073709551616
 c &&& 127
section
variable {c0 c1 c2 c3 c4 c5 c6 c7 y a b:Nat}
theorem UR (h0:c0<=8) (h1:c1<=8) (h2:c2<=8) (h3:c3<=8) (h4:c4<=8) (h5:c5<=8) (h6:c6<=8) (h7:c7<=8) (hy:y=256*(256*(256*(256*(256*(256*(256*(256*0+c7)+c6)+c5)+c4)+c3)+c2)+c1)+c0):(y+y / 256) % 18446744073709551616=256*(256*(256*(256*(256*(256*(256*c7+(c6+c7))+(c5+c6))+(c4+c5))+(c3+c4))+(c2+c3))+(c1+c2))+(c0+c1):=by
 have e:y / 256=256*(256*(256*(256*(256*(256*c7+c6)+c5)+c4)+c3)+c2)+c1:=by
  obtain ⟨t,ht⟩:∃ t,t=256*(256*(256*(256*(256*(256*c7+c6)+c5)+c4)+c3)+c2)+c1:=⟨_,rfl⟩
  have hy2:y=256*t+c0:=by rw [hy,ht,Nat.mul_zero,gh]
  rw [<- ht];clear ht hy h1 h2 h3 h4 h5 h6 h7;omega
 rw [hy] at e ⊢;rw [e,bL (by omega)];omega
theorem UQ (h0:d0<=16) (h1:d1<=16) (h2:d2<=16) (h3:d3<=16) (h4:d4<=16) (h5:d5<=16) (h6:d6<=16) (h7:d7<=16) (ha:a=256*(256*(256*(256*(256*(256*(256*d7+d6)+d5)+d4)+d3)+d2)+d1)+d0):(a+a / 65536) % 18446744073709551616=256*(256*(256*(256*(256*(256*(256*d7+d6)+(d5+d7))+(d4+d6))+(d3+d5))+(d2+d4))+(d1+d3))+(d0+d2):=by
 have e:a / 65536=256*(256*(256*(256*(256*d7+d6)+d5)+d4)+d3)+d2:=by
  obtain ⟨t,ht⟩:∃ t,t=256*(256*(256*(256*(256*d7+d6)+d5)+d4)+d3)+d2:=⟨_,rfl⟩
  have hy2:a=256*(256*t+d1)+d0:=by rw [ha,ht]
  rw [<- ht];clear ht ha h2 h3 h4 h5 h6 h7;omega
 rw [ha] at e ⊢;rw [e,bL (by omega)];omega
theorem UP (h0:d0<=32) (h1:d1<=32) (h2:d2<=32) (h3:d3<=32) (h4:d4<=32) (h5:d5<=32) (h6:d6<=32) (h7:d7<=32) (ha:a=256*(256*(256*(256*(256*(256*(256*d7+d6)+d5)+d4)+d3)+d2)+d1)+d0):(a+a / 4294967296) % 18446744073709551616=256*(256*(256*(256*(256*(256*(256*d7+d6)+d5)+d4)+(d3+d7))+(d2+d6))+(d1+d5))+(d0+d4):=by
 have e:a / 4294967296=256*(256*(256*d7+d6)+d5)+d4:=by
  obtain ⟨t,ht⟩:∃ t,t=256*(256*(256*d7+d6)+d5)+d4:=⟨_,rfl⟩
  have hy2:a=256*(256*(256*(256*t+d3)+d2)+d1)+d0:=by rw [ha,ht]
  rw [<- ht];clear ht ha h4 h5 h6 h7;omega
 rw [ha] at e ⊢;rw [e,bL (by omega)];omega
theorem MC (hy:bytesN 8 x=256*(256*(256*(256*(256*(256*(256*(256*0+c7)+c6)+c5)+c4)+c3)+c2)+c1)+c0) (h0:c0<=8) (h1:c1<=8) (h2:c2<=8) (h3:c3<=8) (h4:c4<=8) (h5:c5<=8) (h6:c6<=8) (h7:c7<=8):Io x=c0+(c1+(c2+(c3+(c4+(c5+(c6+(c7+0))))))):=by
 have h127:∀ x:Nat,x &&& 127=x % 128:=fun x=>Nat.and_two_pow_sub_one_eq_mod x 7;have b16:∀ p q:Nat,p<=8->q<=8->p+q<=16:=fun p q _ _=>by omega
 have b32:∀ p q:Nat,p<=16->q<=16->p+q<=32:=fun p q _ _=>by omega
 have w:∀ p:Nat,p<=8->p<=16:=fun p _=>by omega
 have w2:∀ p:Nat,p<=16->p<=32:=fun p _=>by omega
 have ea:=UR h0 h1 h2 h3 h4 h5 h6 h7 hy;have eb:=UQ (d0:=c0+c1) (d1:=c1+c2) (d2:=c2+c3) (d3:=c3+c4) (d4:=c4+c5) (d5:=c5+c6) (d6:=c6+c7) (d7:=c7) (b16 _ _ h0 h1) (b16 _ _ h1 h2) (b16 _ _ h2 h3) (b16 _ _ h3 h4) (b16 _ _ h4 h5) (b16 _ _ h5 h6) (b16 _ _ h6 h7) (w _ h7) ea;have ec:=UP (d0:=c0+c1+(c2+c3)) (d1:=c1+c2+(c3+c4)) (d2:=c2+c3+(c4+c5)) (d3:=c3+c4+(c5+c6)) (d4:=c4+c5+(c6+c7)) (d5:=c5+c6+c7) (d6:=c6+c7) (d7:=c7) (b32 _ _ (b16 _ _ h0 h1) (b16 _ _ h2 h3)) (b32 _ _ (b16 _ _ h1 h2) (b16 _ _ h3 h4)) (b32 _ _ (b16 _ _ h2 h3) (b16 _ _ h4 h5)) (b32 _ _ (b16 _ _ h3 h4) (b16 _ _ h5 h6)) (b32 _ _ (b16 _ _ h4 h5) (b16 _ _ h6 h7)) (b32 _ _ (b16 _ _ h5 h6) (w _ h7)) (w2 _ (b16 _ _ h6 h7)) (w2 _ (w _ h7)) eb;simp only [Io,h127,cx];rw [show (2:Nat) ^ 8=256 from rfl,show (2:Nat) ^ 16=65536 from rfl,show (2:Nat) ^ 32=4294967296 from rfl,ec];clear ec eb ea hy;have m:∀ p q:Nat,q<128->(256*p+q) % 128=q:=fun p q _=>by omega
 rw [m _ _ (by omega)];omega
end
theorem Pb (x:Nat):Io x=popN 64 x:=by
 obtain ⟨c0,h0⟩:∃ c,c=popN 8 (x % 256):=⟨_,rfl⟩
 obtain ⟨c1,h1⟩:∃ c,c=popN 8 (x / 256 % 256):=⟨_,rfl⟩
 obtain ⟨c2,h2⟩:∃ c,c=popN 8 (x / 256 / 256 % 256):=⟨_,rfl⟩
 obtain ⟨c3,h3⟩:∃ c,c=popN 8 (x / 256 / 256 / 256 % 256):=⟨_,rfl⟩
 obtain ⟨c4,h4⟩:∃ c,c=popN 8 (x / 256 / 256 / 256 / 256 % 256):=⟨_,rfl⟩
 obtain ⟨c5,h5⟩:∃ c,c=popN 8 (x / 256 / 256 / 256 / 256 / 256 % 256):=⟨_,rfl⟩
 obtain ⟨c6,h6⟩:∃ c,c=popN 8 (x / 256 / 256 / 256 / 256 / 256 / 256 % 256):=⟨_,rfl⟩
 obtain ⟨c7,h7⟩:∃ c,c=popN 8 (x / 256 / 256 / 256 / 256 / 256 / 256 / 256 % 256):=⟨_,rfl⟩
 have e0:popN 64 (x)=popN 8 (x % 256)+popN 56 (x / 256):=jo 56 (x);have e1:popN 56 (x / 256)=popN 8 (x / 256 % 256)+popN 48 (x / 256 / 256):=jo 48 (x / 256);have e2:popN 48 (x / 256 / 256)=popN 8 (x / 256 / 256 % 256)+popN 40 (x / 256 / 256 / 256):=jo 40 (x / 256 / 256);have e3:popN 40 (x / 256 / 256 / 256)=popN 8 (x / 256 / 256 / 256 % 256)+popN 32 (x / 256 / 256 / 256 / 256):=jo 32 (x / 256 / 256 / 256);have e4:popN 32 (x / 256 / 256 / 256 / 256)=popN 8 (x / 256 / 256 / 256 / 256 % 256)+popN 24 (x / 256 / 256 / 256 / 256 / 256):=jo 24 (x / 256 / 256 / 256 / 256);have e5:popN 24 (x / 256 / 256 / 256 / 256 / 256)=popN 8 (x / 256 / 256 / 256 / 256 / 256 % 256)+popN 16 (x / 256 / 256 / 256 / 256 / 256 / 256):=jo 16 (x / 256 / 256 / 256 / 256 / 256);have e6:popN 16 (x / 256 / 256 / 256 / 256 / 256 / 256)=popN 8 (x / 256 / 256 / 256 / 256 / 256 / 256 % 256)+popN 8 (x / 256 / 256 / 256 / 256 / 256 / 256 / 256):=jo 8 (x / 256 / 256 / 256 / 256 / 256 / 256);have e7:popN 8 (x / 256 / 256 / 256 / 256 / 256 / 256 / 256)=popN 8 (x / 256 / 256 / 256 / 256 / 256 / 256 / 256 % 256)+popN 0 (x / 256 / 256 / 256 / 256 / 256 / 256 / 256 / 256):=jo 0 (x / 256 / 256 / 256 / 256 / 256 / 256 / 256);have e8:popN 0 (x / 256 / 256 / 256 / 256 / 256 / 256 / 256 / 256)=0:=rfl;have hp:popN 64 x=c0+(c1+(c2+(c3+(c4+(c5+(c6+(c7+0))))))):=by rw [e0,e1,e2,e3,e4,e5,e6,e7,e8,h0,h1,h2,h3,h4,h5,h6,h7]
 have f0:bytesN 8 (x)=256*bytesN 7 (x / 256)+popN 8 (x % 256):=rfl;have f1:bytesN 7 (x / 256)=256*bytesN 6 (x / 256 / 256)+popN 8 (x / 256 % 256):=rfl;have f2:bytesN 6 (x / 256 / 256)=256*bytesN 5 (x / 256 / 256 / 256)+popN 8 (x / 256 / 256 % 256):=rfl;have f3:bytesN 5 (x / 256 / 256 / 256)=256*bytesN 4 (x / 256 / 256 / 256 / 256)+popN 8 (x / 256 / 256 / 256 % 256):=rfl;have f4:bytesN 4 (x / 256 / 256 / 256 / 256)=256*bytesN 3 (x / 256 / 256 / 256 / 256 / 256)+popN 8 (x / 256 / 256 / 256 / 256 % 256):=rfl;have f5:bytesN 3 (x / 256 / 256 / 256 / 256 / 256)=256*bytesN 2 (x / 256 / 256 / 256 / 256 / 256 / 256)+popN 8 (x / 256 / 256 / 256 / 256 / 256 % 256):=rfl;have f6:bytesN 2 (x / 256 / 256 / 256 / 256 / 256 / 256)=256*bytesN 1 (x / 256 / 256 / 256 / 256 / 256 / 256 / 256)+popN 8 (x / 256 / 256 / 256 / 256 / 256 / 256 % 256):=rfl;have f7:bytesN 1 (x / 256 / 256 / 256 / 256 / 256 / 256 / 256)=256*bytesN 0 (x / 256 / 256 / 256 / 256 / 256 / 256 / 256 / 256)+popN 8 (x / 256 / 256 / 256 / 256 / 256 / 256 / 256 % 256):=rfl;have f8:bytesN 0 (x / 256 / 256 / 256 / 256 / 256 / 256 / 256 / 256)=0:=rfl;have hb:bytesN 8 x=256*(256*(256*(256*(256*(256*(256*(256*0+c7)+c6)+c5)+c4)+c3)+c2)+c1)+c0:=by rw [f0,f1,f2,f3,f4,f5,f6,f7,f8,h0,h1,h2,h3,h4,h5,h6,h7]
 have b0:c0<=8:=by rw [h0];exact (kY _ (by omega)).2.2.2.2
 have b1:c1<=8:=by rw [h1];exact (kY _ (by omega)).2.2.2.2
 have b2:c2<=8:=by rw [h2];exact (kY _ (by omega)).2.2.2.2
 have b3:c3<=8:=by rw [h3];exact (kY _ (by omega)).2.2.2.2
 have b4:c4<=8:=by rw [h4];exact (kY _ (by omega)).2.2.2.2
 have b5:c5<=8:=by rw [h5];exact (kY _ (by omega)).2.2.2.2
 have b6:c6<=8:=by rw [h6];exact (kY _ (by omega)).2.2.2.2
 have b7:c7<=8:=by rw [h7];exact (kY _ (by omega)).2.2.2.2
 rw [hp];exact MC hb b0 b1 b2 b3 b4 b5 b6 b7
def NX (x t:Nat):Prop:=t<64/\x.testBit t=true/\∀ j<t,x.testBit j=false
theorem R5 (h0:x≠0) (hx:x<2 ^ 64):∃ t,NX x t:=by
 have key:∀ n,(∃ t,t<n/\x.testBit t=true/\∀ j<t,x.testBit j=false)\/∀ j<n,x.testBit j=false:=by
  intro n;induction n with
  | zero=>exact dx (by simp)
  | succ n ih=>
   rcases ih with ⟨t,h1,h2,h3⟩ | h
   . exact dc ⟨t,by omega,h2,h3⟩
   . cases hb:x.testBit n with
     | true=>exact dc ⟨n,by omega,hb,h⟩
     | false=>
      refine dx fun j hj=>?_;rcases tc.1 hj with h4 | rfl
      . exact h j h4
      . exact hb
 rcases key 64 with ⟨t,h⟩ | h
 . exact ⟨t,h⟩
 . refine absurd (jJ fun j=>?_) h0;rw [Nat.zero_testBit];rcases bH j 64 with hj | hj
   . exact h j hj
   . exact Nat.testBit_lt_two_pow (cq hx (Ad (by omega) hj))
theorem Pm {t:Nat} (h:NX x t) (hx:x<2 ^ 64):x &&& (2 ^ 64-x)=2 ^ t:=by
 have ⟨ht,hb,hz⟩:=h;have h0:x≠0:=fun e=>by simp [e] at hb
 obtain ⟨q,hq⟩:∃ q,x=2 ^ t*(2*q+1):=by
  have hd:x % 2 ^ t=0:=by
   apply jJ;intro j;rw [Nat.testBit_mod_two_pow,Nat.zero_testBit];by_cases hj:j<t
   . simp [hz j hj]
   . simp [hj]
  have hodd:x / 2 ^ t % 2=1:=by have:=hb;rw [Nat.testBit_eq_decide_div_mod_eq] at this;simpa using this
  refine ⟨x / 2 ^ t / 2,?_⟩;have:=Nat.div_add_mod x (2 ^ t);rw [hd] at this;have e2:2*(x / 2 ^ t / 2)+1=x / 2 ^ t:=by omega
  rw [e2];omega
 have hpred:x-1=2 ^ t*(2*q)+(2 ^ t-1):=by have:=wB t;rw [hq,Nat.mul_add];omega
 have hlt:2 ^ t-1<2 ^ t:=by have:=wB t;omega
 apply jJ;intro j;have e1:2 ^ 64-x=2 ^ 64-((x-1)+1):=by omega
 rw [Nat.testBit_and,e1,Nat.testBit_two_pow_sub_succ (by omega),hpred,dh _ hlt,Nat.testBit_two_pow];rcases rD j t with hj | rfl | hj
 . rw [hz j hj];have:¬ t=j:=by omega
   simp [this]
 . have:¬ j<j:=by omega
   simp [hb,ht,Nat.testBit_zero]
 . have h2:x.testBit j=(2*q).testBit (j-t):=by
    have:x=2 ^ t*(2*q+1)+0:=by omega
    rw [this,dh _ (wB t),nQ];obtain ⟨k,hk⟩:∃ k,j-t=k+1:=⟨j-t-1,by omega⟩
    rw [hk,Nat.testBit_succ,Nat.testBit_succ];congr 1;omega
   have h3:¬ j<t:=by omega
   have h4:¬ t=j:=by omega
   rw [h2];simp [h3,if_false,h4,decide_false];cases (2*q).testBit (j-t)<;>simp
end
section
variable {was:Bool} {r:Int} {k x y:Nat} {L:List Nat}
theorem iF (w r:Nat) (hr:r<64) (k:IntKind):di .shr (uQ (w:Int)) (.int k (r:Int))=some (uQ ((w >>> r:Nat):Int)):=by
 have h64:min r 64=r:=by omega
 simp only [di,IntKind.bits];rw [cx,pQ,aC,h64,Int.fdiv_eq_ediv_of_nonneg _ (by exact_mod_cast lG (2 ^ r))];simp
theorem OT (r:Nat) (hr:r<64) (k:IntKind):di .shl (uQ 1) (.int k (r:Int))=some (uQ ((2 ^ r:Nat):Int)):=by
 have h64:min r 64=r:=by omega
 have hp:2 ^ r<2 ^ 64:=Ac (by omega) hr;simp only [di,IntKind.bits];rw [pQ,aC,h64,eP];have:((1:Int)*2 ^ r)=((2 ^ r:Nat):Int):=by simp
 rw [this,eV (Int.natCast_nonneg _) (by omega)]
theorem ld (a b:Nat) (hb:b<2 ^ 64):di .and (uQ (a:Int)) (uQ (b:Int))=some (uQ ((a &&& b:Nat):Int)):=by
 have hab:a &&& b<2 ^ 64:=lp gy hb;have e:(BitVec.ofInt 64 (a:Int) &&& BitVec.ofInt 64 (b:Int)).toNat=a &&& b:=by rw [BitVec.toNat_and,cI,cI,de,de,<- Dk,bL hab]
 have e2:(BitVec.ofInt (IntKind.bits .u64) (a:Int) &&& BitVec.ofInt (IntKind.bits .u64) (b:Int)).toNat=a &&& b:=e;simp only [di,if_true];rw [e2,eP,eV (by omega) (by omega)]
theorem rE (a b:Nat) (ha:a<2 ^ 64) (hb:b<2 ^ 64):di .xor (uQ (a:Int)) (uQ (b:Int))=some (uQ ((a ^^^ b:Nat):Int)):=by
 have hab:a ^^^ b<2 ^ 64:=lh ha hb;have e:(BitVec.ofInt 64 (a:Int) ^^^ BitVec.ofInt 64 (b:Int)).toNat=a ^^^ b:=by rw [BitVec.toNat_xor,cI,cI,de,de,<- Nat.xor_mod_two_pow,bL hab]
 have e2:(BitVec.ofInt (IntKind.bits .u64) (a:Int) ^^^ BitVec.ofInt (IntKind.bits .u64) (b:Int)).toNat=a ^^^ b:=e;simp only [di,if_true];rw [e2,eP,eV (by omega) (by omega)]
theorem qh (a b:Nat):di .add (uQ (a:Int)) (uQ (b:Int))=some (uQ (((a+b) % 18446744073709551616:Nat):Int)):=by simp only [di,if_true,eP];congr 2
theorem P6 (c m:Nat) (hm:m<2 ^ 63):di .and (iQ (IntKind.wrap .i64 (c:Int))) (iQ (m:Int))=some (iQ ((c &&& m:Nat):Int)):=by
 have hab:c &&& m<2 ^ 63:=lp gy hm;have e1:(BitVec.ofInt 64 (IntKind.wrap .i64 (c:Int)))=BitVec.ofInt 64 (c:Int):=by
  apply BitVec.eq_of_toNat_eq;rw [BitVec.toNat_ofInt,BitVec.toNat_ofInt,Jf,show ((2 ^ 64:Nat):Int)=18446744073709551616 from rfl];have:((c:Int)+9223372036854775808) % 18446744073709551616-9223372036854775808=(c:Int)-18446744073709551616*(((c:Int)+9223372036854775808) / 18446744073709551616):=by omega
  rw [this,Int.sub_mul_emod_self_left]
 have e:(BitVec.ofInt 64 (IntKind.wrap .i64 (c:Int)) &&& BitVec.ofInt 64 (m:Int)).toNat=c &&& m:=by rw [e1,BitVec.toNat_and,cI,cI,de,de,<- Dk,bL (by omega)]
 have e2:(BitVec.ofInt (IntKind.bits .i64) (IntKind.wrap .i64 (c:Int)) &&& BitVec.ofInt (IntKind.bits .i64) (m:Int)).toNat=c &&& m:=e;simp only [di,if_true];rw [e2,rQ]
theorem UY (i:Nat):i ||| 63=i / 64*64+63:=by
 have l:∀ r<64,r ||| 63=63:=by decide
 have h63:i % 64 ||| 63=63:=l _ (by omega)
 apply jJ;intro j;have e1:=dh (i:=6) (i / 64) (b:=i % 64) (by omega) j;have e2:=dh (i:=6) 0 (b:=63) (by omega) j;have e3:=dh (i:=6) (i / 64) (b:=63) (by omega) j;rw [show 2 ^ 6*(i / 64)+i % 64=i by omega] at e1;rw [show 2 ^ 6*0+63=63 by omega] at e2;rw [show 2 ^ 6*(i / 64)+63=i / 64*64+63 by omega] at e3;rw [Nat.testBit_or,e1,e2,e3];split
 . rw [<- Nat.testBit_or,h63]
 . simp
theorem RY (i:Nat) (hi:i<2 ^ 62):di .or (iQ (i:Int)) (iQ 63)=some (iQ ((i / 64*64+63:Nat):Int)):=by
 have e:(BitVec.ofInt 64 (i:Int) ||| BitVec.ofInt 64 ((63:Nat):Int)).toNat=i / 64*64+63:=by rw [BitVec.toNat_or,cI,cI,de,de,<- Nat.or_mod_two_pow,UY,bL (by omega)]
 have e2:(BitVec.ofInt (IntKind.bits .i64) (i:Int) ||| BitVec.ofInt (IntKind.bits .i64) 63).toNat=i / 64*64+63:=e;simp only [di,if_true];rw [e2,rQ]
theorem MD (h:AHeap) (x:Nat) (hx:x<2 ^ 64):run T 84 [uQ (x:Int)] h=some (iQ ((popN 64 x:Nat):Int),h):=by
 have hb:=(E7 8 x).1;rw [show rep8 15 8=1085102592571150095 by decide +kernel,show rep8 51 8=3689348814741910323 by decide +kernel,show rep8 85 8=6148914691236517205 by decide +kernel] at hb;have c1:di .shr (uQ (x:Int)) (uQ 1)=some (uQ ((x >>> 1:Nat):Int)):=iF x 1 (by omega) _
 obtain ⟨y1,k1⟩:∃ y,y=x >>> 1:=⟨_,rfl⟩
 rw [<- k1] at c1;have c2:di .and (uQ (y1:Int)) (uQ 6148914691236517205)=some (uQ ((y1 &&& 6148914691236517205:Nat):Int)):=ld y1 6148914691236517205 (by omega);have b2:y1 &&& 6148914691236517205<=6148914691236517205:=gy;have c3:di .and (uQ (x:Int)) (uQ 6148914691236517205)=some (uQ ((x &&& 6148914691236517205:Nat):Int)):=ld x 6148914691236517205 (by omega);have b3:x &&& 6148914691236517205<=6148914691236517205:=gy;have s1:S1 6148914691236517205 x=(y1 &&& 6148914691236517205)+(x &&& 6148914691236517205):=by rw [k1];rfl
 rw [s1] at hb;generalize y1 &&& 6148914691236517205=y2 at *;generalize x &&& 6148914691236517205=y3 at *;have c4:=qh y2 y3;rw [bL (by omega)] at c4
 obtain ⟨y4,k4⟩:∃ y,y=y2+y3:=⟨_,rfl⟩
 rw [<- k4] at c4 hb;have c5:di .shr (uQ (y4:Int)) (uQ 2)=some (uQ ((y4 >>> 2:Nat):Int)):=iF y4 2 (by omega) _
 obtain ⟨y5,k5⟩:∃ y,y=y4 >>> 2:=⟨_,rfl⟩
 rw [<- k5] at c5;have c6:di .and (uQ (y5:Int)) (uQ 3689348814741910323)=some (uQ ((y5 &&& 3689348814741910323:Nat):Int)):=ld y5 3689348814741910323 (by omega);have b6:y5 &&& 3689348814741910323<=3689348814741910323:=gy;have c7:di .and (uQ (y4:Int)) (uQ 3689348814741910323)=some (uQ ((y4 &&& 3689348814741910323:Nat):Int)):=ld y4 3689348814741910323 (by omega);have b7:y4 &&& 3689348814741910323<=3689348814741910323:=gy;have s2:S2 3689348814741910323 y4=(y5 &&& 3689348814741910323)+(y4 &&& 3689348814741910323):=by rw [k5];rfl
 rw [s2] at hb;generalize y5 &&& 3689348814741910323=y6 at *;generalize y4 &&& 3689348814741910323=y7 at *;have c8:=qh y6 y7;rw [bL (by omega)] at c8
 obtain ⟨y8,k8⟩:∃ y,y=y6+y7:=⟨_,rfl⟩
 rw [<- k8] at c8 hb;have c9:di .shr (uQ (y8:Int)) (uQ 4)=some (uQ ((y8 >>> 4:Nat):Int)):=iF y8 4 (by omega) _;have b9:y8 >>> 4<=y8 / 16:=by rw [cx];exact aq _
 have s3:S3 1085102592571150095 y8=(y8 >>> 4+y8) &&& 1085102592571150095:=rfl;rw [s3] at hb;generalize y8 >>> 4=y9 at *;have c10:=qh y9 y8;rw [bL (by omega)] at c10
 obtain ⟨y10,k10⟩:∃ y,y=y9+y8:=⟨_,rfl⟩
 rw [<- k10] at c10 hb;have c11:di .and (uQ (y10:Int)) (uQ 1085102592571150095)=some (uQ ((y10 &&& 1085102592571150095:Nat):Int)):=ld y10 1085102592571150095 (by omega);rw [hb] at c11;have ho:=Pb x;simp only [Io] at ho;generalize bytesN 8 x=y11 at *;have c12:di .shr (.int .u64 (y11:Int)) (.int .u64 8)=some (.int .u64 ((y11 >>> 8:Nat):Int)):=iF y11 8 (by omega) _;have c13:=qh y11 (y11 >>> 8);generalize (y11+y11 >>> 8) % 18446744073709551616=y13 at *;generalize y11 >>> 8=y12 at *;have c14:di .shr (.int .u64 (y13:Int)) (.int .u64 16)=some (.int .u64 ((y13 >>> 16:Nat):Int)):=iF y13 16 (by omega) _;have c15:=qh y13 (y13 >>> 16);generalize (y13+y13 >>> 16) % 18446744073709551616=y15 at *;generalize y13 >>> 16=y14 at *;have c16:di .shr (.int .u64 (y15:Int)) (.int .u64 32)=some (.int .u64 ((y15 >>> 32:Nat):Int)):=iF y15 32 (by omega) _;have c17:=qh y15 (y15 >>> 32);generalize (y15+y15 >>> 32) % 18446744073709551616=y17 at *;generalize y15 >>> 32=y16 at *;have c18:di .and (.int .i64 (IntKind.wrap .i64 (y17:Int))) (.int .i64 127)=some (.int .i64 ((y17 &&& 127:Nat):Int)):=P6 y17 127 (by omega);rw [ho] at c18;generalize popN 64 x=r at *;refine run_eq Zr ?_;simp [F84,c1,c2,c3,c4,c5,c6,c7,c8,c9,c10,c11,c12,c13,c14,c15,c16,c17,c18,-NN]
theorem RE:∀ t<64,(2 ^ t*285870213051353865 % 18446744073709551616) >>> 58<64/\og[(2 ^ t*285870213051353865 % 18446744073709551616) >>> 58]?=some (.int .u8 (t:Int)):=by decide +kernel
theorem neg_nat (x:Nat) (h0:x≠0) (hx:x<2 ^ 64):Ue .neg (uQ (x:Int))=some (uQ ((2 ^ 64-x:Nat):Int)):=by
 have:(0-(x:Int)) % 18446744073709551616=((2 ^ 64-x:Nat):Int):=by omega
 rw [HV,eP,this]
theorem Pg (x y:Nat):di .mul (uQ (x:Int)) (uQ (y:Int))=some (uQ ((x*y % 18446744073709551616:Nat):Int)):=by
 have:((x:Int)*y) % 18446744073709551616=((x*y % 18446744073709551616:Nat):Int):=by simp
 rw [Fc,eP,this]
theorem Pw {i n:Nat} {k:IntKind} (h:y<n):idxAddrV 1 (some n) (.ptr i 0) (.int k (y:Int))=some (.ptr i y):=by simp only [idxAddrV];rw [pQ];simp
theorem Sc {i n:Nat} {c:Cap} {k:IntKind} (h:y<n):idxAddrV 1 none (.slice i 0 n c) (.int k (y:Int))=some (.ptr i y):=by simp only [idxAddrV];rw [pQ];simp
theorem RF {h:AHeap} (hg:h.get 3=some (.cells true og none)) {t:Nat} (hx:x<2 ^ 64) (hl:NX x t):run T 201 [uQ (x:Int)] h=some (iQ (t:Int),h):=by
 have h0:x≠0:=fun e=>by have:=hl.2.1;simp [e] at this
 have hne:¬ (x:Int)=0:=by omega
 have ht:=hl.1;have c1:=neg_nat x (by omega) hx;have c2:=ld x (2 ^ 64-x) (by omega);rw [Pm hl hx] at c2;generalize 2 ^ 64-x=y1 at *;have ⟨q1,q2⟩:=RE t ht;have c3:di .mul (uQ ((2 ^ t:Nat):Int)) (uQ 285870213051353865)=some (uQ ((2 ^ t*285870213051353865 % 18446744073709551616:Nat):Int)):=Pg (2 ^ t) 285870213051353865;generalize 2 ^ t*285870213051353865 % 18446744073709551616=y3 at *;generalize 2 ^ t=y2 at *;have c4:di .shr (uQ (y3:Int)) (uQ 58)=some (uQ ((y3 >>> 58:Nat):Int)):=iF y3 58 (by omega) _;generalize y3 >>> 58=y4 at *;have ci:idxAddrV 1 (some 64) (.ptr 3 0) (uQ (y4:Int))=some (.ptr 3 y4):=Pw q1;have hc:gw (h.get 3) y4=some (.int .u8 (t:Int)):=by rw [hg,uN,q2]
 have hw:wQ (t:Int)=t:=rQ;refine run_eq Wr ?_;simp [Tf,h0,c1,c2,c3,c4,ci,hc,hw,-Fc,-HV]
def lE (ws:List Nat) (i:Nat):Bool:=(ws.getD (i / 64) 0).testBit (i % 64)
def flip (ws:List Nat) (i:Nat):List Nat:=ws.set (i / 64) ((ws.getD (i / 64) 0) ^^^ 2 ^ (i % 64))
@[simp] theorem M8 {ws:List Nat} {i:Nat}:(flip ws i).length=ws.length:=by simp [flip]
theorem sR {ws:List Nat} {i:Nat} (hi:i / 64<ws.length) (j:Nat):lE (flip ws i) j=if j=i then !lE ws i else lE ws j:=by
 have hmod:i % 64<64:=by omega
 by_cases hq:j / 64=i / 64
 . have hg:(flip ws i).getD (j / 64) 0=(ws.getD (i / 64) 0) ^^^ 2 ^ (i % 64):=by simp [flip,hq,hi]
   rw [lE,hg,Nat.testBit_xor,Nat.testBit_two_pow];by_cases hj:j=i
   . subst hj;simp [lE]
   . have:¬ i % 64=j % 64:=by omega
     simp [hj,this,lE,hq]
 . have hj:¬ j=i:=by omega
   rw [if_neg hj];simp [lE,flip];congr 1;simp [aj (show i / 64≠j / 64 from fun e=>hq e.symm)]
def natsA (ws:List Nat):List AV:=ws.map fun w:Nat=>.int .u64 (w:Int)
@[simp] theorem Uk {ws:List Nat}:(natsA ws).length=ws.length:=by simp [natsA]
@[simp] theorem Kb {ws:List Nat}:(natsA ws).all AV.one=true:=by simp [natsA]
theorem pX {ws:List Nat} (hk:k<ws.length):(natsA ws)[k]?=some (uQ ((ws.getD k 0:Nat):Int)):=by simp [natsA,hk]
theorem Ka {ws:List Nat} (hk:k<ws.length):splice (natsA ws) k [uQ (x:Int)]=natsA (ws.set k x):=by rw [lK (by simpa using hk)];simp [natsA,vI]
structure Di (n:Nat) (ws:List Nat):Prop where
 len:ws.length=(n+63) / 64
 le:n<=4096
 w:∀ w∈ws,w<2 ^ 64
 out:∀ k,n<=k->lE ws k=false
theorem Di.get {n:Nat} {ws:List Nat} (b:Di n ws) (k:Nat):ws.getD k 0<2 ^ 64:=by
 by_cases hk:k<ws.length
 . have:ws.getD k 0=ws[k]:=by simp [hk]
   rw [this];exact b.w _ (j6 hk)
 . have:ws.getD k 0=0:=by simp [jZ hk]
   rw [this];omega
theorem Di.flip {n i:Nat} {ws:List Nat} (b:Di n ws) (hi:i<n):Di n (flip ws i):=by
 have hl:=b.len;refine ⟨by simpa using hl,b.le,fun w hw=>?_,fun k hk=>?_⟩
 . rcases List.mem_or_eq_of_mem_set hw with h | rfl
   . exact b.w w h
   . exact lh (b.get _) (Ac (by omega) (by omega))
 . rw [sR (by omega),nQ];exact b.out k hk
theorem Di.zero {n:Nat} (hn:n<=4096):Di n (List.replicate ((n+63) / 64) 0):=by
 refine ⟨by simp,hn,fun w hw=>by simp [List.mem_replicate] at hw;omega,fun k _=>?_⟩;simp [lE];by_cases hk:k / 64<(n+63) / 64
 . simp [hk]
 . simp [hk]
def eS (h:AHeap) (i j n:Nat) (ws:List Nat):Prop:=
 i≠j/\Di n ws/\∃ c ri rj,h.get i=some (.cells false [.int .i64 (n:Int),.slice j 0 ws.length c] ri)/\h.get j=some (.cells false (natsA ws) rj)/\h.within ws.length c=true
theorem eS.keep {h h':AHeap} {i j n:Nat} {ws:List Nat} {G:List Nat} (m:eS h i j n ws) (k:Keep G h h') (hi:i∉G) (hj:j∉G):eS h' i j n ws:=by have ⟨ne,b,c,ri,rj,h1,h2,h3⟩:=m;exact ⟨ne,b,c,ri,rj,k.obj h1 hi,k.obj h2 hj,fv h3 k⟩
theorem eS.lt {h:AHeap} {i j n:Nat} {ws:List Nat} (m:eS h i j n ws):i<h.size/\j<h.size:=by have ⟨ne,b,c,ri,rj,h1,h2,h3⟩:=m;exact ⟨get_lt h1,get_lt h2⟩
section
variable {h:AHeap} {i j n:Nat} {ws:List Nat}
theorem MJ (h:AHeap) (a:Int):∃ h' i j n,run T 92 [iQ a] h=some (.ptr i 0,h')/\eS h' i j n (List.replicate ((n+63) / 64) 0)/\(n:Int)=min (max 0 a) 4096/\Keep [] h h'/\h.size<=i/\h.size<=j:=by
 obtain ⟨m,hm⟩:∃ m:Nat,min (max 0 a) 4096=(m:Int):=⟨(min (max 0 a) 4096).toNat,by omega⟩
 have hw1:wQ ((m:Int)+64)=(m:Int)+64:=rQ;have hw2:wQ ((m:Int)+64-1)=(m:Int)+63:=zQ
 obtain ⟨k,hk⟩:∃ k:Nat,k=(m+63) / 64:=⟨_,rfl⟩
 have hd:((m:Int)+63).tdiv 64=k:=by rw [gF (by omega)];omega
 have hkb:(k:Int)<=4096:=by omega
 have hw3:wQ (k:Int)=k:=rQ;have hb:(k:Int)*8<=bigA/\k<=bigA:=by simp [bigA];omega
 have hz:rep k [AV.int .u64 0]=natsA (List.replicate k 0):=by rw [jw];simp [natsA]
 refine ⟨(h.push (Qc (natsA (List.replicate k 0)) none)).push (Qc [iQ (m:Int),.slice h.size 0 k (.exact k)] none),h.size+1,h.size,m,run_eq Zl ?_,?_,hm.symm,Keep.push.trans' Keep.push,by omega,by omega⟩
 . simp [F92,hm,hw1,hw2,hd,hw3,hb,hz]
 . refine ⟨by omega,Di.zero (by omega),.exact k,none,none,?_,?_,?_⟩
   . rw [<- hk];simpa using ak (h:=h.push (Qc (natsA (List.replicate k 0)) none)) (x:=.cells false [iQ (m:Int),.slice h.size 0 k (.exact k)] none)
   . rw [<- hk];exact aJ ak
   . simp [AHeap.within,hk]
theorem MK (m:eS h i j n ws):run T 193 [.ptr i 0] h=some (iQ (n:Int),h):=by have ⟨ne,b,c,ri,rj,h1,h2,h3⟩:=m;refine run_eq Wy ?_;simp [Tk,h1]
theorem DG (w r:Nat):w.testBit r=decide (w >>> r &&& 1=1):=by rw [Nat.testBit,Nat.and_comm];rcases Nat.mod_two_eq_zero_or_one (w >>> r) with e | e<;>simp [Nat.and_one_is_mod,e]
theorem xz (m:eS h i j n ws) (k:Nat) (hk:k<n):run T 161 [.ptr i 0,iQ (k:Int)] h=some (.bool (lE ws k),h):=by
 have ⟨ne,b,c,ri,rj,h1,h2,h3⟩:=m;have hl:=b.len;have hq:k / 64<ws.length:=by omega
 have hd:(k:Int).tdiv 64=((k / 64:Nat):Int):=by rw [gF (by omega)];omega
 have hm:(k:Int).tmod 64=((k % 64:Nat):Int):=by rw [bX (by omega)];omega
 have hle:=b.le;have hw:IntKind.wrap .i64 ((k / 64:Nat):Int)=((k / 64:Nat):Int):=rQ;have hx:=pX hq;have hs:=iF (ws.getD (k / 64) 0) (k % 64) (by omega) .i64;have hbit:lE ws k=decide ((ws.getD (k / 64) 0) >>> (k % 64) &&& 1=1):=DG _ _;generalize ws.getD (k / 64) 0=w at *;generalize k / 64=q at *;generalize k % 64=r at *;have ha:di .and (uQ ((w >>> r:Nat):Int)) (uQ 1)=some (uQ ((w >>> r &&& 1:Nat):Int)):=ld (w >>> r) 1 (by omega);generalize w >>> r &&& 1=y at *;generalize w >>> r=z at *;have hi:idxAddrV 1 none (.slice j 0 ws.length c) (iQ (q:Int))=some (.ptr j q):=by simp only [idxAddrV];rw [if_pos (by omega)];simp
 have hkn:(k:Int)<n:=by omega
 have hy:decide ((y:Int)=1)=decide (y=1):=by
  by_cases h:y=1
  . simp [h]
  . have:¬ (y:Int)=1:=by omega
    simp [h,this]
 rw [hbit];refine run_eq WW ?_;simp [TC,h1,h2,hkn,hd,hw,hi,hx,hm,hs,ha,hy]
theorem DD (m:eS h i j n ws) (hk:k<n) (hb:lE ws k=was):∃ h',run T 127 [.ptr i 0,iQ (k:Int),.bool was] h=some (.bool true,h')/\eS h' i j n (flip ws k)/\Keep [j] h h':=by
 have eh:=xz m k hk;have ⟨ne,b,c,ri,rj,h1,h2,h3⟩:=m;have hl:=b.len;have hle:=b.le;have hq:k / 64<ws.length:=by omega
 have hd:(k:Int).tdiv 64=((k / 64:Nat):Int):=by rw [gF (by omega)];omega
 have hm:(k:Int).tmod 64=((k % 64:Nat):Int):=by rw [bX (by omega)];omega
 have hw:wQ ((k / 64:Nat):Int)=((k / 64:Nat):Int):=rQ;have hx:=pX hq;have hs:=OT (k % 64) (by omega) .i64;have hxr:=rE (ws.getD (k / 64) 0) (2 ^ (k % 64)) (b.get _) (Ac (by omega) (by omega));have hset:=Ka (ws:=ws) (k:=k / 64) (x:=(ws.getD (k / 64) 0) ^^^ 2 ^ (k % 64)) hq;have hfl:ws.set (k / 64) ((ws.getD (k / 64) 0) ^^^ 2 ^ (k % 64))=flip ws k:=rfl;rw [hfl] at hset;have bf:=b.flip hk;have hfll:(flip ws k).length=ws.length:=by simp
 generalize flip ws k=ws' at *;generalize ws.getD (k / 64) 0 ^^^ 2 ^ (k % 64)=z at *;generalize 2 ^ (k % 64)=y at *;generalize ws.getD (k / 64) 0=w at *;generalize k / 64=q at *;generalize k % 64=r at *;have hi:idxAddrV 1 none (.slice j 0 ws.length c) (iQ (q:Int))=some (.ptr j q):=by simp only [idxAddrV];rw [pQ];simp
 have hkn:(k:Int)<n:=by omega
 have hqs:q+1<=ws.length:=by omega
 have h0k:¬ (k:Int)<0:=by omega
 refine ⟨h.put j (Qc (natsA ws') rj),run_eq Rj ?_,⟨ne,bf,c,ri,rj,?_,by rw [get_put_same,h2];rfl,?_⟩,Keep.put (by simp)⟩
 . simp [Lg,h1,h2,h0k,Int.not_le.2 hkn,eh,hb,hd,hw,hi,hx,hm,hs,hxr,hset,hqs]
 . rw [get_put_ne ne,h1,hfll]
 . rw [hfll];exact fv h3 (Keep.put (F:=[j]) (by simp))
theorem Oz (m:eS h i j n ws) {k:Int} (hb:k<0\/(n:Int)<=k\/lE ws k.toNat≠was):run T 127 [.ptr i 0,iQ k,.bool was] h=some (.bool false,h):=by
 refine run_eq Rj ?_;by_cases h0:k<0
 . simp [Lg,h0]
 . obtain ⟨k,rfl⟩:∃ c:Nat,k=c:=⟨k.toNat,by omega⟩
   by_cases hkn:k<n
   . have eh:=xz m k hkn;have hne:lE ws k≠was:=by
      rcases hb with h | h | h
      . omega
      . omega
      . simpa using h
     have ⟨ne,b,c,ri,rj,h1,h2,h3⟩:=m;have hki:(k:Int)<n:=by omega
     have hbe:(lE ws k == was)=false:=by simp [hne]
     simp [Lg,h0,h1,Int.not_le.2 hki,eh,hbe]
   . have ⟨ne,b,c,ri,rj,h1,h2,h3⟩:=m;have hki:(n:Int)<=k:=by omega
     simp [Lg,h0,h1,hki]
theorem O2 (m:eS h i j n ws) (hk:k<n) (hb:lE ws k=false):∃ h',run T 94 [.ptr i 0,iQ (k:Int)] h=some (.bool true,h')/\eS h' i j n (flip ws k)/\Keep [j] h h':=by have ⟨h',e,m',k'⟩:=DD m hk hb;exact ⟨h',run_eq Zj (by simp [F94,e]),m',k'⟩
theorem LJ (m:eS h i j n ws) (hk:k<n) (hb:lE ws k=true):∃ h',run T 174 [.ptr i 0,iQ (k:Int)] h=some (.bool true,h')/\eS h' i j n (flip ws k)/\Keep [j] h h':=by have ⟨h',e,m',k'⟩:=DD m hk hb;exact ⟨h',run_eq T_174 (by simp [F174,e]),m',k'⟩
theorem OL (m:eS h i j n ws) {k:Int} (hb:k<0\/(n:Int)<=k\/lE ws k.toNat=false):run T 174 [.ptr i 0,iQ k] h=some (.bool false,h):=by have e:=Oz m (k:=k) (was:=true) (by rcases hb with h | h | h<;>simp [h]);exact run_eq T_174 (by simp [F174,e])
def popW (ws:List Nat):Nat:=(ws.map (popN 64)).sum
theorem Ii:∀ n x,popN n x<=n
 | 0,_=>by simp [popN]
 | n+1,x=>by have:=Ii n (x / 2);simp [popN];omega
theorem Ih:∀ ws:List Nat,popW ws<=64*ws.length
 | []=>by simp [popW]
 | w::ws=>by have:=Ih ws;have:=Ii 64 w;simp only [popW] at *;simp;omega
def Qg (h:AHeap) (s:AV) (ws:List Nat) (m:Nat) (fr:FF) (g:AHeap):Prop:=∃ c:Nat,c+m=ws.length/\g=h/\fr.get 3=.int .i64 ((popW (ws.take c):Nat):Int)/\fr.get 9=s/\fr.get 10=.int .i64 ws.length/\fr.get 11=.int .i64 c
theorem GC (m:eS h i j n ws):run T 39 [.ptr i 0] h=some (iQ ((popW ws:Nat):Int),h):=by
 obtain ⟨ne,b,c,ri,rj,h1,h2,h3⟩:=m;have hl:=b.len;have hle:=b.le;refine run_eq ZZ ?_;simp [F39,h1];refine Wp.loop (Qg h (.slice j 0 ws.length c) ws) ws.length lQ ?_ ?_
 . exact ⟨0,by simp,rfl,by simp [popW],by simp⟩
 rintro m fr g ⟨d,hd,rfl,s3,s9,s10,s11⟩;by_cases hdl:d<ws.length
 . have hx:=pX hdl;have hi:idxAddrV 1 none (.slice j 0 ws.length c) (.int .i64 (d:Int))=some (.ptr j d):=by simp only [idxAddrV];rw [if_pos (by omega)];simp
   have eo:=MD g (ws.getD d 0) (b.get d);have hsum:popW (ws.take (d+1))=popW (ws.take d)+popN 64 (ws.getD d 0):=by
    have e1:ws[d]?.toList=[ws.getD d 0]:=by simp [hdl]
    rw [HL,e1];simp only [popW,oP,aR,eT,List.sum_append,List.sum_cons,List.sum_nil,dJ]
   have hp:=Ih (ws.take (d+1));have hp2:(ws.take (d+1)).length<=ws.length:=by simp;omega
   have hw:IntKind.wrap .i64 ((d:Int)+1)=(d:Int)+1:=wrap_nat (by omega);have hws:IntKind.wrap .i64 (((popW (ws.take d):Nat):Int)+((popN 64 (ws.getD d 0):Nat):Int))=((popW (ws.take (d+1)):Nat):Int):=by rw [hsum,iq (by omega) (by omega)];omega
   generalize popN 64 (ws.getD d 0)=o at *;generalize ws.getD d 0=w at *;simp [s3,s9,s10,s11,hdl,hi,hx,h2,eo,-Int.natCast_add,-getElem?_pos];exact ⟨m-1,by omega,d+1,by omega,rfl,by simp [hws],by simp [s9,s10,hw]⟩
 . have hdx:d=ws.length:=by omega
   rw [hdx,gB] at s3;simp [s3,s10,s11,hdl]
def yH (ws:List Nat) (v r:Int):Prop:=(r=-1/\∀ k:Nat,v<k->lE ws k=false)\/∃ k:Nat,r=k/\v<k/\lE ws k=true/\∀ t:Nat,v<t->t<k->lE ws t=false
def XC (h:AHeap) (i n:Nat) (ws:List Nat) (v0:Int) (m:Nat) (fr:FF) (g:AHeap):Prop:=∃ v:Int,-1<=v/\v<=5000000000/\(v+m=n+64\/(n:Int)+64<=v)/\g=h/\(∀ k:Nat,v0<k->(k:Int)<=v->lE ws k=false)/\v0<=v/\fr.get 0=.ptr i 0/\fr.get 1=.int .i64 v
theorem Kg (m:eS h i j n ws) (hg:h.get 3=some (.cells true og none)) (v0:Int) (hv:v0<=4294967296):∃ r,run T 189 [.ptr i 0,iQ v0] h=some (iQ r,h)/\yH ws v0 r:=by
 have ⟨ne,b,c,ri,rj,h1,h2,h3⟩:=m;have hl:=b.len;have hle:=b.le;suffices hw:∃ v' h',run T 189 [.ptr i 0,iQ v0] h=some (v',h')/\∃ r,v'=iQ r/\h'=h/\yH ws v0 r by obtain ⟨v',h',e,r,rfl,rfl,hr⟩:=hw;exact ⟨r,e,hr⟩
 refine dQ WA ?_;simp [Tn];refine Wp.loop (XC h i n ws v0) (n+64-max v0 (-1)).toNat lQ ?_ ?_
 . exact ⟨max v0 (-1),by omega,by omega,by omega,rfl,fun k h1 h2=>by omega,by omega,by simp⟩
 rintro m fr g ⟨v,v1,v2,vm,rfl,vz,v0v,s0,s1⟩;have hwn:wQ ((n:Int)-1)=(n:Int)-1:=rQ;by_cases hvn:v<(n:Int)-1
 . obtain ⟨p,hp⟩:∃ p:Nat,v+1=p:=⟨(v+1).toNat,by omega⟩
   have hw1:IntKind.wrap .i64 (v+1)=(p:Int):=by rw [rQ,hp]
   have hq:p / 64<ws.length:=by omega
   have hd:(p:Int).tdiv 64=((p / 64:Nat):Int):=by rw [gF (by omega)];omega
   have hm:(p:Int).tmod 64=((p % 64:Nat):Int):=by rw [bX (by omega)];omega
   have hw:wQ ((p / 64:Nat):Int)=((p / 64:Nat):Int):=rQ;have hx:=pX hq;have hwl:=b.get (p / 64);have hs:=iF (ws.getD (p / 64) 0) (p % 64) (by omega) .i64;have hrl:(ws.getD (p / 64) 0) >>> (p % 64)<2 ^ 64:=by rw [cx];exact lp (Nat.div_le_self _ _) hwl
   have hbit:∀ t,p % 64+t<64->lE ws (p+t)=((ws.getD (p / 64) 0) >>> (p % 64)).testBit t:=fun t ht=>by rw [Nat.testBit_shiftRight,lE,show (p+t) / 64=p / 64 by omega,show (p+t) % 64=p % 64+t by omega]
   have hi:idxAddrV 1 none (.slice j 0 ws.length c) (iQ ((p / 64:Nat):Int))=some (.ptr j (p / 64)):=Sc hq;have hor:=RY p (by omega);have hhigh:∀ t,64<=p % 64+t->((ws.getD (p / 64) 0) >>> (p % 64)).testBit t=false:=fun t ht=>by rw [Nat.testBit_shiftRight];exact Nat.testBit_lt_two_pow (cq hwl (Ad (by omega) ht))
   generalize hz:ws.getD (p / 64) 0 >>> (p % 64)=z at *;generalize ws.getD (p / 64) 0=w at *;by_cases h0:z=0
   . subst h0;simp [s0,s1,h1,h2,hwn,hvn,hw1,hd,hw,hi,hx,hm,hs,hor,-Int.natCast_add,-Int.natCast_mul,-Int.natCast_ediv,-Int.natCast_emod];refine ⟨(n+64-((p / 64*64+63:Nat):Int)).toNat,by omega,((p / 64*64+63:Nat):Int),by omega,by omega,by omega,rfl,fun k k1 k2=>?_,by omega,by simp [s0]⟩;by_cases hkv:(k:Int)<=v
     . exact vz k k1 hkv
     . have:=hbit (k-p) (by omega);rw [show p+(k-p)=k by omega] at this;rw [this];simp
   . have ⟨t,ht⟩:=R5 h0 hrl;have et:=RF hg hrl ht;have ht1:=ht.2.1;have htl:p % 64+t<64:=by
      rcases bH (p % 64+t) 64 with h | h
      . exact h
      . rw [hhigh t h] at ht1;cases ht1
     have hz0:¬ (z:Int)=0:=by omega
     have hwt:wQ ((p:Int)+t)=(p:Int)+t:=rQ;simp [s0,s1,h1,h2,hwn,hvn,hw1,hd,hw,hi,hx,hm,hs,h0,et,hwt,-Int.natCast_add,-Int.natCast_mul,-Int.natCast_ediv,-Int.natCast_emod];refine dx ⟨p+t,by omega,by omega,by rw [hbit t htl,ht1],fun u u1 u2=>?_⟩;by_cases huv:(u:Int)<=v
     . exact vz u u1 huv
     . have:=hbit (u-p) (by omega);rw [show p+(u-p)=u by omega] at this;rw [this];exact ht.2.2 _ (by omega)
 . simp [s0,s1,h1,hwn,hvn];refine dc ⟨rfl,fun k hk=>?_⟩;by_cases hkv:(k:Int)<=v
   . exact vz k hk hkv
   . exact b.out k (by omega)
theorem xB (m:eS h i j n ws) (hg:h.get 3=some (.cells true og none)):∃ r,run T 173 [.ptr i 0] h=some (iQ r,h)/\yH ws (-1) r:=by have ⟨r,e,hr⟩:=Kg m hg (-1) (by omega);exact ⟨r,run_eq WL (by simp [Tt,e]),hr⟩
end
theorem xl:∀ n x,popN n x=(List.range n).countP x.testBit
 | 0,x=>by simp [popN]
 | n+1,x=>by
  have e:∀ k,(x.testBit ∘ Nat.succ) k=(x / 2).testBit k:=fun k=>by simp [Nat.testBit_succ]
  rw [List.range_succ_eq_map,uw,List.countP_map,popN,xl n (x / 2),Nat.testBit_zero,show x.testBit ∘ Nat.succ=(x / 2).testBit from funext e];rcases Nat.mod_two_eq_zero_or_one x with h | h<;>simp [h];omega
theorem JZ (a b:Nat):List.range (a+b)=List.range a++(List.range b).map (a+·):=by
 apply dt;intro k;by_cases hk:k<a
 . rw [ay (by simpa using hk),kv (by omega),kv hk]
 . rw [aB (by simp;omega)];by_cases hk2:k<a+b
   . rw [kv hk2,HO,gZ,kv (by omega)];simp;omega
   . rw [aV (by simp;omega),aV (by simp;omega)]
theorem xk:∀ ws:List Nat,popW ws=(List.range (64*ws.length)).countP (lE ws)
 | []=>by simp [popW]
 | w::ws=>by
  have e1:∀ k∈List.range 64,w.testBit k=lE (w::ws) k:=fun k hk=>by have hk:=dq.1 hk;simp [lE,Nat.div_eq_of_lt hk,bL hk]
  have e2:(lE (w::ws)) ∘ (64+·)=lE ws:=funext fun k=>by simp only [Function.comp,lE];rw [show (64+k) / 64=k / 64+1 by omega,show (64+k) % 64=k % 64 by omega];simp
  have:=xk ws;have hpw:popW (w::ws)=popN 64 w+popW ws:=by simp [popW]
  rw [hpw,this,xl,bn,show 64*(ws.length+1)=64+64*ws.length by omega,JZ,List.countP_append,List.countP_map,e2];rw [show (List.range 64).countP w.testBit=(List.range 64).countP (lE (w::ws)) from List.countP_congr fun k hk=>by rw [e1 k hk]]
def mem (ws:List Nat):List Nat:=(List.range (64*ws.length)).filter (lE ws)
theorem Mn (ws:List Nat):popW ws=(mem ws).length:=by rw [xk,mem,oQ]
theorem NM {ws:List Nat} (h:lE ws k=true):k<64*ws.length:=by
 by_cases hk:k / 64<ws.length
 . omega
 . simp [lE,jZ hk] at h
theorem iY {ws:List Nat} :k∈mem ws↔lE ws k=true:=by simp only [mem,kR,dq];exact ⟨fun h=>h.2,fun h=>⟨NM h,h⟩⟩
theorem jT (ws:List Nat):(mem ws).Pairwise (·<·):=List.Pairwise.filter _ List.pairwise_lt_range
theorem yY {ws:List Nat} (h:lE ws k=true):mem (flip ws k)=(mem ws).filter fun x=>decide (x≠k):=by
 have hk:=NM h;simp [mem,M8,List.filter_filter];apply List.filter_congr;intro x _;rw [sR (by omega)];by_cases hx:x=k
 . subst hx;simp [h]
 . simp [hx]
theorem zc {ws:List Nat} (h:mem ws=k::L):mem (flip ws k)=L:=by have hk:lE ws k=true:=iY.1 (by rw [h];simp);have hs:=jT ws;rw [h,iU] at hs;rw [yY hk,h,List.filter_cons_of_neg (by simp),List.filter_eq_self.2];intro x hx;have:=hs.1 x hx;simp;omega
theorem ME {ws:List Nat} (h:mem ws=[]) (hr:yH ws (-1) r):r=-1:=by
 rcases hr with h1 | ⟨k,rfl,_,hb,_⟩
 . exact h1.1
 . have:=iY.2 hb;rw [h] at this;simp at this
theorem J9 {ws:List Nat} (h:mem ws=k::L) (hr:yH ws (-1) r):r=k:=by
 have hk:lE ws k=true:=iY.1 (by rw [h];simp);have hs:=jT ws;rw [h,iU] at hs;rcases hr with ⟨_,h1⟩ | ⟨x,rfl,_,hb,hl⟩
 . rw [h1 k (by omega)] at hk;cases hk
 . have hx:=iY.2 hb;rw [h] at hx;rcases aD.1 hx with rfl | hx
   . rfl
   . have h2:=hs.1 x hx;rw [hl k (by omega) h2] at hk;cases hk
theorem MH (n:Nat):mem (List.replicate n 0)=[]:=by
 simp [mem,List.filter_eq_nil_iff];intro x _;simp [lE];by_cases hk:x / 64<n
 . simp [hk]
 . simp [hk]
end
section
def fH (h:AHeap) (i:Nat) (F:List Nat) (ms:List Int) (q n:Int) (pv sp:AV):Prop:=∃ sm room,h.get i=some (.cells false [pv,sp,sm,.int .i64 q,.int .i64 n] room)/\Vec h 1 (intsA ms) F sm/\i∉F
theorem fH.keep {h h':AHeap} {i:Nat} {F G:List Nat} {ms:List Int} {q n:Int} {pv sp:AV} (b:fH h i F ms q n pv sp) (k:Keep G h h') (hd:∀ t∈i::F,t∉G):fH h' i F ms q n pv sp:=by have ⟨s,room,hi,v,ni⟩:=b;exact ⟨s,room,k.obj hi (hd i (by simp)),v.keep k (fun t ht=>hd t (by simp [ht])),ni⟩
theorem fH.lt {h:AHeap} {i:Nat} {F:List Nat} {ms:List Int} {q n:Int} {pv sp:AV} (b:fH h i F ms q n pv sp):∀ t∈i::F,t<h.size:=by
 have ⟨s,room,hi,v,ni⟩:=b;intro t ht;rcases aD.1 ht with rfl | ht
 . exact get_lt hi
 . exact v.lt t ht
section
variable {h:AHeap} {i:Nat} {F:List Nat} {ms:List Int} {q n m:Int} {pv sp:AV}
theorem uD (b:fH h i F ms q n pv sp):run T 65 [.ptr i 0] h=some (.tuple [iQ (max 0 q),.bool (decide (q≠-1))],h):=by have ⟨s,room,hi,v,ni⟩:=b;refine run_eq ZE ?_;simp [F65,hi]
theorem GD (b:fH h i F ms q n pv sp) (q':Int):∃ h',writeOf h i (h.get i) 3 [iQ q']=some h'/\fH h' i F ms q' n pv sp/\Keep (i::F) h h':=by have ⟨s,room,hi,v,ni⟩:=b;refine ⟨h.put i (Qc [pv,sp,s,iQ q',iQ n] room),by simp [hi],⟨s,room,by rw [get_put_same,hi];rfl,v.keep (Keep.put (F:=[i]) (by simp)) (fun t ht hm=>by simp [iV] at hm;subst hm;exact ni ht),ni⟩,Keep.put (by simp)⟩
theorem zd (b:fH h i F ms q n pv sp) (hm:m<0\/m≠q):run T 75 [.ptr i 0,iQ m] h=some (.bool false,h):=by
 have ⟨s,room,hi,v,ni⟩:=b;refine run_eq VQ ?_;by_cases h0:m<0
 . simp [XM,h0]
 . have hq:¬ m=q:=by omega
   simp [XM,h0,hi,hq]
theorem GF (b:fH h i F ms q n pv sp) (h0:0<=q):∃ h',run T 75 [.ptr i 0,iQ q] h=some (.bool true,h')/\fH h' i F ms (-1) n pv sp/\Keep (i::F) h h':=by
 have ⟨h',e,b',k⟩:=GD b (-1);have ⟨s,room,hi,v,ni⟩:=b;rw [hi] at e;refine ⟨h',run_eq VQ ?_,b',k⟩;have h1:¬ q<0:=by omega
 simp at e;simp [XM,h1,hi,e]
theorem uW (b:fH h i F ms (-1) n pv sp) (hb:ms.length<=1000000) (h0:0<=m) (h1:m<n) (h3:m∉ms):∃ h',run T 53 [.ptr i 0,iQ m] h=some (.tuple [.bool true,.bool true],h')/\fH h' i F ms m n pv sp/\Keep (i::F) h h':=by
 have ⟨h',e,b',k⟩:=GD b m;have ⟨s,room,hi,v,ni⟩:=b;rw [hi] at e;have ec:=mI v.view hb m;refine ⟨h',run_eq VX ?_,b',k⟩;have h0':¬ m<0:=by omega
 have h1':¬ n<=m:=by omega
 have h2':¬ m=-1:=by omega
 simp at e;simp [YH,h0',hi,h1',h2',ec,h3,e]
theorem Kj (b:fH h i F ms q n pv sp) (hb:ms.length<=999999) (h0:0<=m) (h1:m<n) (h2:m≠q) (h3:m∉ms) (hq:q≠-1):∃ h' F',run T 53 [.ptr i 0,iQ m] h=some (.tuple [.bool false,.bool true],h')/\fH h' i F' (ms++[m]) q n pv sp/\Keep (i::F) h h'/\∀ t∈F',t∈F\/h.size<=t:=by
 have ⟨s,room,hi,v,ni⟩:=b;have ec:=mI v.view (by omega) m;have ⟨s',g,F',ea,v',k',f'⟩:=sS v (x:=iQ m) rfl (by simp;omega);have hi':=k'.obj hi ni;have ni':i∉F':=fun hm=>by
  rcases f' i hm with h6 | h6
  . exact ni h6
  . have:=get_lt hi;omega
 have hip:(h.push (Qc [iQ m] none)).get i=some (Qc [pv,sp,s,iQ q,iQ n] room):=aJ hi;have hone:s'.one=true:=by cases v'<;>rfl
 have hce:s'.cells=[s']:=by cases v'<;>rfl
 refine ⟨g.put i (Qc [pv,sp,s',iQ q,iQ n] room),F',run_eq VX ?_,⟨s',room,by rw [get_put_same,hi'];rfl,?_,ni'⟩,(k'.mono (by simp;exact fun t ht=>dx ht)).trans' (Keep.put (by simp)),f'⟩
 . have h0':¬ m<0:=by omega
   have h1':¬ n<=m:=by omega
   simp [YH,h0',hi,h1',h2,ec,h3,hq,ea,hi',hone,hce]
 . have v2:=v'.keep (Keep.put (F:=[i]) (by simp)) (h':=g.put i (Qc [pv,sp,s',iQ q,iQ n] room)) (fun t ht hm=>by simp [iV] at hm;subst hm;exact ni' ht);rw [oe];exact v2
theorem Ki (b:fH h i F (ms++[m]) q n pv sp) (hb:ms.length<=999999):∃ h',run T 180 [.ptr i 0] h=some (.tuple [iQ m,.bool true],h')/\fH h' i F ms q n pv sp/\Keep (i::F) h h':=by
 have ⟨s,room,hi,v,ni⟩:=b;have hl:=v.view.my;simp at hl;have hg:(intsA (ms++[m]))[ms.length]?=some (iQ m):=by simp [intsA]
 have ⟨j,o,i1,i2,i3⟩:=v.view.vM hg;have hw:wQ (ms.length:Int)=(ms.length:Int):=rQ;have ⟨s',es,v'⟩:=v.slice (by omega) (n:=ms.length+1) (lo:=none) (hi:=some (iQ ms.length)) (a:=0) (b:=ms.length) (by simp) (by simp) (by simp) (by omega) (by omega);rw [show ((intsA (ms++[m])).drop (0*1)).take ((ms.length-0)*1)=intsA ms by simp [intsA]] at v';have hone:s'.one=true:=by cases v'<;>rfl
 have hce:s'.cells=[s']:=by cases v'<;>rfl
 have hpos:(0:Int)<(ms.length:Int)+1:=by omega
 refine ⟨h.put i (Qc [pv,sp,s',iQ q,iQ n] room),run_eq Q8 ?_,⟨s',room,by rw [get_put_same,hi];rfl,v'.keep (Keep.put (F:=[i]) (by simp)) (fun t ht hm=>by simp [iV] at hm;subst hm;exact ni ht),ni⟩,Keep.put (by simp)⟩;simp [Ql,hi,hl,hpos,hw,i1,i3,es,hone,hce]
theorem xC (b:fH h i F [] q n pv sp):∃ h',run T 180 [.ptr i 0] h=some (.tuple [iQ (max 0 q),.bool (decide (q≠-1))],h')/\fH h' i F [] (-1) n pv sp/\Keep (i::F) h h':=by have ep:=uD b;have ⟨h',e,b',k⟩:=GD b (-1);have ⟨s,room,hi,v,ni⟩:=b;have hl:=v.view.my;simp at hl;rw [hi] at e;simp at e;refine ⟨h',run_eq Q8 ?_,b',k⟩;simp at ep;simp [Ql,hi,hl,ep,e]
end
end
section
def bz (h:AHeap) (x:Nat) (FT:List Nat) (n:Nat) (N:Int) (ws:List Nat) (pend ms:List Int) (q:Int):Prop:=∃ (sp:AV) (pi pj:Nat) (Fp Fm:List Nat),fH h x Fm ms q N (.ptr pi 0) sp/\Vec h 1 (intsA pend) Fp sp/\eS h pi pj n ws/\FT=x::pi::pj::(Fp++Fm)/\FT.Nodup
section
variable {h h':AHeap} {x n:Nat} {N q m:Int} {FT ws:List Nat} {pend ms:List Int}
theorem bz.keep {G:List Nat} (b:bz h x FT n N ws pend ms q) (k:Keep G h h') (hd:∀ t∈FT,t∉G):bz h' x FT n N ws pend ms q:=by obtain ⟨sp,pi,pj,Fp,Fm,a,v,mk,rfl,nd⟩:=b;exact ⟨sp,pi,pj,Fp,Fm,a.keep k (fun t ht=>hd t (by simp at ht ⊢;rcases ht with rfl | ht<;>simp_all)),v.keep k (fun t ht=>hd t (by simp [ht])),mk.keep k (hd _ (by simp)) (hd _ (by simp)),rfl,nd⟩
theorem bz.lt (b:bz h x FT n N ws pend ms q):∀ t∈FT,t<h.size:=by
 obtain ⟨sp,pi,pj,Fp,Fm,a,v,mk,rfl,nd⟩:=b;intro t ht;simp at ht;have h1:=a.lt;have h2:=v.lt;have h3:=mk.lt;rcases ht with rfl | rfl | rfl | ht | ht
 . exact h1 _ (by simp)
 . exact h3.1
 . exact h3.2
 . exact h2 t ht
 . exact h1 t (by simp [ht])
theorem Kz (h:AHeap) (a b:Int):∃ h' x FT n,run T 48 [iQ a,iQ b] h=some (.ptr x 0,h')/\bz h' x FT n (min (max 1 b) 128) (List.replicate ((n+63) / 64) 0) [] [] (-1)/\(n:Int)=min (max 1 a) 64/\Keep [] h h'/\∀ t∈FT,h.size<=t:=by
 have ⟨h1,i,j,n,e,m,hn,k1,hi,hj⟩:=MJ h (min (max 1 a) 64);have lt:=m.lt;have kp:Keep [] h1 (h1.push (Qc [.ptr i 0,.nilslice,.nilslice,iQ (-1),iQ (min (max 1 b) 128)] none)):=Keep.push;have ne:=m.1;refine ⟨h1.push (Qc [.ptr i 0,.nilslice,.nilslice,iQ (-1),iQ (min (max 1 b) 128)] none),h1.size,[h1.size,i,j],n,run_eq ZR ?_,⟨.nilslice,i,j,[],[],⟨.nilslice,none,ak,.nil rfl,by simp⟩,.nil rfl,m.keep kp (by simp) (by simp),rfl,by simp;omega⟩,by omega,k1.trans' kp,?_⟩
 . simp [F48,e]
 . have:=k1.size;intro t ht;simp at ht;omega
theorem bz.mask {G:List Nat} {ws':List Nat} {pi pj:Nat} {Fp Fm:List Nat} {sp:AV} (a:fH h x Fm ms q N (.ptr pi 0) sp) (v:Vec h 1 (intsA pend) Fp sp) (nd:(x::pi::pj::(Fp++Fm)).Nodup) (mk:eS h' pi pj n ws') (k:Keep [pj] h h'):bz h' x (x::pi::pj::(Fp++Fm)) n N ws' pend ms q:=by have nd':=nd;simp at nd;have ⟨⟨n1,n2,n3,n4⟩,⟨n5,n6,n7⟩,⟨n8,n9⟩,n10⟩:=nd;exact ⟨sp,pi,pj,Fp,Fm,a.keep k (fun t ht hm=>by simp at ht hm;subst hm;rcases ht with h | h;exact n2 h.symm;exact n9 h),v.keep k (fun t ht hm=>by simp at hm;subst hm;exact n8 ht),mk,rfl,nd'⟩
theorem D9 (b:bz h x FT n N ws pend ms q) (hb:pend.length<=1000000) {k:Nat} (hp:(k:Int)∉pend) (hk:k<n) (hw:lE ws k=false):∃ h',run T 51 [.ptr x 0,iQ (k:Int)] h=some (.bool true,h')/\bz h' x FT n N (flip ws k) pend ms q/\Keep FT h h':=by obtain ⟨sp,pi,pj,Fp,Fm,a,v,mk,rfl,nd⟩:=b;have ⟨h',e,mk',k'⟩:=O2 mk hk hw;have ec:=mI v.view hb (k:Int);refine ⟨h',run_eq ZN ?_,bz.mask (G:=[]) a v nd mk' k',k'.mono (by simp)⟩;have ⟨s,room,hx,va,ni⟩:=a;simp [F51,hx,ec,hp,e]
theorem FO (b:bz h x FT n N ws pend ms q) (hg:h.get 3=some (.cells true og none)) (hm:mem ws=[]):run T 147 [.ptr x 0] h=some (.tuple [iQ 0,.bool false],h):=by obtain ⟨sp,pi,pj,Fp,Fm,a,v,mk,rfl,nd⟩:=b;have ⟨r,e,hr⟩:=xB mk hg;have hr:=ME hm hr;subst hr;have e2:=OL mk (k:=-1) (dc (by omega));have ⟨s,room,hx,va,ni⟩:=a;refine run_eq Re ?_;simp [Qs,hx,e,e2];rfl
theorem FN (b:bz h x FT n N ws pend ms q) (hg:h.get 3=some (.cells true og none)) {k:Nat} {L:List Nat} (hm:mem ws=k::L):∃ h',run T 147 [.ptr x 0] h=some (.tuple [iQ (k:Int),.bool true],h')/\bz h' x FT n N (flip ws k) pend ms q/\Keep FT h h':=by
 obtain ⟨sp,pi,pj,Fp,Fm,a,v,mk,rfl,nd⟩:=b;have ⟨r,e,hr⟩:=xB mk hg;have hr:=J9 hm hr;subst hr;have hkb:lE ws k=true:=iY.1 (by rw [hm];simp);have hkn:k<n:=by
  rcases bH k n with h | h
  . exact h
  . rw [mk.2.1.out k h] at hkb;cases hkb
 have ⟨h',e2,mk',k'⟩:=LJ mk hkn hkb;refine ⟨h',run_eq Re ?_,bz.mask (G:=[]) a v nd mk' k',k'.mono (by simp)⟩;have ⟨s,room,hx,va,ni⟩:=a;have hmx:max (0:Int) k=k:=by omega
 simp [Qs,hx,e,e2,hmx]
theorem uh (b:bz h x FT n N ws pend ms q):run T 14 [.ptr x 0] h=some (iQ (((mem ws).length:Nat):Int),h):=by obtain ⟨sp,pi,pj,Fp,Fm,a,v,mk,rfl,nd⟩:=b;have e:=GC mk;rw [Mn] at e;have ⟨s,room,hx,va,ni⟩:=a;exact run_eq aai (by simp [F14,hx,e])
theorem xm (b:bz h x FT n N ws pend ms q):run T 66 [.ptr x 0] h=some (iQ pend.length,h):=by obtain ⟨sp,pi,pj,Fp,Fm,a,v,mk,rfl,nd⟩:=b;have hl:=v.view.my;simp at hl;have ⟨s,room,hx,va,ni⟩:=a;exact run_eq ZC (by simp [F66,hx,hl])
theorem tJ (b:bz h x FT n N ws pend ms q):run T 65 [.ptr x 0] h=some (.tuple [iQ (max 0 q),.bool (decide (q≠-1))],h):=by obtain ⟨sp,pi,pj,Fp,Fm,a,v,mk,rfl,nd⟩:=b;exact uD a
theorem bz.fA {ms':List Int} {q':Int} {pi pj:Nat} {Fp Fm Fm':List Nat} {sp:AV} (v:Vec h 1 (intsA pend) Fp sp) (mk:eS h pi pj n ws) (nd:(x::pi::pj::(Fp++Fm)).Nodup) (a:fH h' x Fm' ms' q' N (.ptr pi 0) sp) (k:Keep (x::Fm) h h') (hf:∀ t∈Fm',t∈Fm\/h.size<=t) (hn:Fm'.Nodup):bz h' x (x::pi::pj::(Fp++Fm')) n N ws pend ms' q':=by
 simp at nd;have ⟨⟨n1,n2,n3,n4⟩,⟨n5,n6,n7⟩,⟨n8,n9⟩,n10⟩:=nd;have hl:=mk.lt;have hv:=v.lt;have nx:x∉Fm':=by have ⟨s,room,hx,va,ni⟩:=a;exact ni
 have np:pi∉Fm':=fun h=>by rcases hf _ h with h | h;exact n7 h;omega
 have nj:pj∉Fm':=fun h=>by rcases hf _ h with h | h;exact n9 h;omega
 rw [gY] at n10;have nFp:∀ t∈Fp,t∉Fm':=fun t ht h=>by
  rcases hf _ h with h | h
  . exact n10.2.2 t ht t h rfl
  . have:=hv t ht;omega
 refine ⟨sp,pi,pj,Fp,Fm',a,v.keep k (fun t ht hm=>?_),mk.keep k ?_ ?_,rfl,?_⟩
 . simp at hm;rcases hm with rfl | hm
   . exact n3 ht
   . exact n10.2.2 t ht t hm rfl
 . simp;exact ⟨fun h=>n1 h.symm,n7⟩
 . simp;exact ⟨fun h=>n2 h.symm,n9⟩
 . simp;refine ⟨⟨n1,n2,n3,nx⟩,⟨n5,n6,np⟩,⟨n8,nj⟩,?_⟩;rw [gY];exact ⟨n10.1,hn,fun t ht u hu e=>nFp t ht (e▸hu)⟩
end
theorem jk {h:AHeap} {size:Nat} {cs:List AV} {F:List Nat} {s:AV} (v:Vec h size cs F s):F.Nodup:=by cases v<;>simp
section
variable {h h':AHeap} {x n:Nat} {N q m:Int} {FT ws:List Nat} {pend ms:List Int}
theorem stop_first (b:bz h x FT n N ws pend ms (-1)) (hb:ms.length<=1000000) (h0:0<=m) (h1:m<N) (h3:m∉ms):∃ h',run T 53 [.ptr x 0,iQ m] h=some (.tuple [.bool true,.bool true],h')/\bz h' x FT n N ws pend ms m/\Keep FT h h':=by obtain ⟨sp,pi,pj,Fp,Fm,a,v,mk,rfl,nd⟩:=b;have ⟨h',e,a',k⟩:=uW a hb h0 h1 h3;have ⟨s,room,hx,va,ni⟩:=a;exact ⟨h',e,bz.fA v mk nd a' k (fun t ht=>dc ht) (jk va),k.mono (by simp;intro t ht;simp [ht])⟩
theorem stop_more (b:bz h x FT n N ws pend ms q) (hb:ms.length<=999999) (h0:0<=m) (h1:m<N) (h2:m≠q) (h3:m∉ms) (hq:q≠-1):∃ h' FT',run T 53 [.ptr x 0,iQ m] h=some (.tuple [.bool false,.bool true],h')/\bz h' x FT' n N ws pend (ms++[m]) q/\Keep FT h h'/\∀ t∈FT',t∈FT\/h.size<=t:=by
 obtain ⟨sp,pi,pj,Fp,Fm,a,v,mk,rfl,nd⟩:=b;have ⟨h',F',e,a',k,f'⟩:=Kj a hb h0 h1 h2 h3 hq;have hn:F'.Nodup:=by have ⟨s,room,hx,va,ni⟩:=a';exact jk va
 refine ⟨h',_,e,bz.fA v mk nd a' k f' hn,k.mono (by simp;intro t ht;simp [ht]),fun t ht=>?_⟩;simp at ht ⊢;rcases ht with rfl | rfl | rfl | ht | ht
 . simp
 . simp
 . simp
 . simp [ht]
 . rcases f' t ht with h1 | h1
   . simp [h1]
   . simp [h1]
theorem FP (b:bz h x FT n N ws pend (ms++[m]) q) (hb:ms.length<=999999):∃ h',run T 180 [.ptr x 0] h=some (.tuple [iQ m,.bool true],h')/\bz h' x FT n N ws pend ms q/\Keep FT h h':=by obtain ⟨sp,pi,pj,Fp,Fm,a,v,mk,rfl,nd⟩:=b;have ⟨h',e,a',k⟩:=Ki a hb;have ⟨s,room,hx,va,ni⟩:=a;exact ⟨h',e,bz.fA v mk nd a' k (fun t ht=>dc ht) (jk va),k.mono (by simp;intro t ht;simp [ht])⟩
theorem wV (b:bz h x FT n N ws pend [] q):∃ h',run T 180 [.ptr x 0] h=some (.tuple [iQ (max 0 q),.bool (decide (q≠-1))],h')/\bz h' x FT n N ws pend [] (-1)/\Keep FT h h':=by obtain ⟨sp,pi,pj,Fp,Fm,a,v,mk,rfl,nd⟩:=b;have ⟨h',e,a',k⟩:=xC a;have ⟨s,room,hx,va,ni⟩:=a;exact ⟨h',e,bz.fA v mk nd a' k (fun t ht=>dc ht) (jk va),k.mono (by simp;intro t ht;simp [ht])⟩
theorem leave_no (b:bz h x FT n N ws pend ms q) (hm:m<0\/m≠q):run T 75 [.ptr x 0,iQ m] h=some (.bool false,h):=by obtain ⟨sp,pi,pj,Fp,Fm,a,v,mk,rfl,nd⟩:=b;exact zd a hm
theorem leave_yes (b:bz h x FT n N ws pend ms q) (h0:0<=q):∃ h',run T 75 [.ptr x 0,iQ q] h=some (.bool true,h')/\bz h' x FT n N ws pend ms (-1)/\Keep FT h h':=by obtain ⟨sp,pi,pj,Fp,Fm,a,v,mk,rfl,nd⟩:=b;have ⟨h',e,a',k⟩:=GF a h0;have ⟨s,room,hx,va,ni⟩:=a;exact ⟨h',e,bz.fA v mk nd a' k (fun t ht=>dc ht) (jk va),k.mono (by simp;intro t ht;simp [ht])⟩
theorem bz.I7 {g:AHeap} {pend':List Int} {pi pj:Nat} {Fp Fp' Fm:List Nat} {sp sp':AV} (a:fH h x Fm ms q N (.ptr pi 0) sp) (v:Vec h 1 (intsA pend) Fp sp) (mk:eS h pi pj n ws) (nd:(x::pi::pj::(Fp++Fm)).Nodup) (k:Keep Fp h g) (v':Vec g 1 (intsA pend') Fp' sp') (f':∀ t∈Fp',t∈Fp\/h.size<=t):∃ sm room,g.get x=some (Qc [.ptr pi 0,sp,sm,iQ q,iQ N] room)/\bz (g.put x (Qc [.ptr pi 0,sp',sm,iQ q,iQ N] room)) x (x::pi::pj::(Fp'++Fm)) n N ws pend' ms q/\Keep (x::pi::pj::(Fp++Fm)) h (g.put x (Qc [.ptr pi 0,sp',sm,iQ q,iQ N] room))/\∀ t∈x::pi::pj::(Fp'++Fm),t∈x::pi::pj::(Fp++Fm)\/h.size<=t:=by
 have la:=a.lt;have lm:=mk.lt;simp at nd;have ⟨⟨n1,n2,n3,n4⟩,⟨n5,n6,n7⟩,⟨n8,n9⟩,n10⟩:=nd;rw [gY] at n10;have a1:=a.keep k (fun t ht hm=>by
  rcases aD.1 ht with rfl | ht
  . exact n3 hm
  . exact n10.2.2 t hm t ht rfl)
 have mk1:=mk.keep k n6 n8;have ⟨s,room,hx,va,ni⟩:=a1;have fx:∀ {t},t∈Fp'->t<h.size->t∈Fp:=fun ht hl=>by
  rcases f' _ ht with h | h
  . exact h
  . omega
 have nx:x∉Fp':=fun h=>n3 (fx h (la x (by simp)));have kp:Keep [x] g (g.put x (Qc [.ptr pi 0,sp',s,iQ q,iQ N] room)):=Keep.put (by simp);refine ⟨s,room,hx,⟨sp',pi,pj,Fp',Fm,⟨s,room,by rw [get_put_same,hx];rfl,va.keep kp (fun t ht hm=>by simp at hm;subst hm;exact ni ht),ni⟩,v'.keep kp (fun t ht hm=>by simp at hm;subst hm;exact nx ht),mk1.keep kp (by simp;exact fun h=>n1 h.symm) (by simp;exact fun h=>n2 h.symm),rfl,?_⟩,(k.mono (fun t ht=>by simp [ht])).trans' (kp.mono (by simp)),fun t ht=>?_⟩
 . simp;refine ⟨⟨n1,n2,nx,n4⟩,⟨n5,fun h=>n6 (fx h lm.1),n7⟩,⟨fun h=>n8 (fx h lm.2),n9⟩,?_⟩;rw [gY];exact ⟨jk v',n10.2.1,fun t ht u hu e=>by subst e;exact n10.2.2 t (fx ht (la t (by simp [hu]))) t hu rfl⟩
 . simp at ht ⊢;rcases ht with rfl | rfl | rfl | ht | ht
   . simp
   . simp
   . simp
   . rcases f' t ht with h1 | h1
     . simp [h1]
     . simp [h1]
   . simp [ht]
theorem Mv (b:bz h x FT n N ws pend ms q) (hb:pend.length<=999999) {k:Nat} (hk:k<n) (hw:lE ws k=false) (hp:(k:Int)∉pend):∃ h' FT',run T 181 [.ptr x 0,iQ (k:Int)] h=some (.bool true,h')/\bz h' x FT' n N ws (pend++[(k:Int)]) ms q/\Keep FT h h'/\∀ t∈FT',t∈FT\/h.size<=t:=by
 obtain ⟨sp,pi,pj,Fp,Fm,a,v,mk,rfl,nd⟩:=b;have ec:=mI v.view (by omega) (k:Int);have el:=MK mk;have e:=xz mk k hk;rw [hw] at e;have ⟨sp',g,F',ea,v',k',f'⟩:=sS v (x:=iQ (k:Int)) rfl (by simp;omega);rw [show intsA pend++[AV.int .i64 (k:Int)]=intsA (pend++[(k:Int)]) by simp [intsA]] at v';have ⟨sm,room,hgx,b',kk,ff⟩:=bz.I7 a v mk nd k' v' f';have ⟨s,room0,hx,va,ni⟩:=a;have hone:sp'.one=true:=by cases v'<;>rfl
 have hce:sp'.cells=[sp']:=by cases v'<;>rfl
 have h0:¬ (k:Int)<0:=by omega
 have h1':¬ n<=k:=by omega
 refine ⟨_,_,run_eq WI ?_,b',kk,ff⟩;simp [Tq,h0,hx,el,h1',e,ec,hp,ea,hgx,hone,hce]
theorem tt (b:bz h x FT n N ws [] ms q):run T 149 [.ptr x 0] h=some (.tuple [iQ 0,.bool false],h):=by obtain ⟨sp,pi,pj,Fp,Fm,a,v,mk,rfl,nd⟩:=b;have hl:=v.view.my;simp at hl;have ⟨s,room0,hx,va,ni⟩:=a;refine run_eq Rd ?_;simp [Qr,hx,hl]
theorem tq (b:bz h x FT n N ws (m::pend) ms q) (hb:pend.length<=999999):∃ h' FT',run T 149 [.ptr x 0] h=some (.tuple [iQ m,.bool true],h')/\bz h' x FT' n N ws pend ms q/\Keep FT h h'/\∀ t∈FT',t∈FT\/h.size<=t:=by
 obtain ⟨sp,pi,pj,Fp,Fm,a,v,mk,rfl,nd⟩:=b;have hl:=v.view.my;simp at hl;have ⟨j,o,i1,i2,i3⟩:=v.view.vM (k:=0) (x:=iQ m) rfl;have ⟨sp',g,ed,v',k'⟩:=Bd v (by simp;omega) (n:=1) (by simp);have v':Vec g 1 (intsA pend) Fp sp':=by simpa using v'
 have ⟨sm,room,hgx,b',kk,ff⟩:=bz.I7 a v mk nd k' v' (fun t ht=>dc ht);have ⟨s,room0,hx,va,ni⟩:=a;have hone:sp'.one=true:=by cases v'<;>rfl
 have hce:sp'.cells=[sp']:=by cases v'<;>rfl
 have i1:idxAddrV 1 none sp (iQ 0)=some (.ptr j o):=i1;have ed:run T 175 [sp,iQ 0,iQ 1] h=some (sp',g):=ed;have hne:¬ (pend.length:Int)+1=0:=by omega
 refine ⟨_,_,run_eq Rd ?_,b',kk,ff⟩;simp [Qr,hx,hl,hne,i1,i3,ed,hgx,hone,hce]
theorem Ho {j:Nat} {c:Cap} {ro:Bool} {rj:Option (Nat×Nat)} (hj:h.get j=some (.cells ro (natsA ws) rj)) (hw:h.within ws.length c=true) (hb:ws.length<=1000):∃ h' j' c' rj',run T 80 [.slice j 0 ws.length c] h=some (.slice j' 0 ws.length c',h')/\h'.get j'=some (Qc (natsA ws) rj')/\h'.within ws.length c'=true/\Keep [] h h'/\h.size<=j':=by
 have kp:Keep [] h (h.push (Qc [] none)):=Keep.push;have hf:firstCellsA (h.push (Qc [] none)) 1 ws.length (.slice j 0 ws.length c)=some (natsA ws):=by
  have hj2:=kp.obj hj (by simp);simp only [firstCellsA];by_cases h0:ws.length=0
  . have:ws=[]:=aG h0;subst this;simp [natsA]
  . rw [if_neg h0,if_pos (aq _)];simp [hj2];rw [aW (by simp)]
 have happ:dT (h.push (Qc [] none)) 1 8 (.slice h.size 0 0 (.exact 0)) (.slice j 0 ws.length c)=if ws.length=0 then some (.slice h.size 0 0 (.exact 0),h.push (Qc [] none)) else some (.slice (h.push (.cells false [] none)).size 0 ws.length (.loose (h.push (.cells false [] none)).caps.length 0),(h.push (.cells false [] none)).grow (.cells false (natsA ws) (some ((h.push (.cells false [] none)).caps.length,1))) ws.length):=by
  simp only [dT,lS,hf];rw [if_pos ⟨by simp only [bigA];omega,by simp only [bigA];omega,Kb⟩];by_cases h0:ws.length=0
  . have hw0:(0+ws.length<=0):=by omega
    simp only [AHeap.within,h0,if_true];rfl
  . have h1:¬ (0+ws.length<=0):=by omega
    have h2:(0:Nat)<0+ws.length:=by omega
    simp only [AHeap.within,h1,decide_false,h2,if_true,h0,if_false];simp [firstCellsA,AHeap.grow,AHeap.size,-AY,-EP,-IC]
 by_cases h0:ws.length=0
 . rw [if_pos h0] at happ;have hws:ws=[]:=aG h0;subst hws;refine ⟨h.push (.cells false [] none),h.size,.exact 0,none,run_eq T_80 ?_,ak,by simp [AHeap.within],kp,aq _⟩;simp only [bw] at happ;simp [F80,happ]
 . rw [if_neg h0] at happ;refine ⟨_,_,_,_,run_eq T_80 (v:=.slice (h.push (.cells false [] none)).size 0 ws.length (.loose (h.push (.cells false [] none)).caps.length 0)) (h':=(h.push (.cells false [] none)).grow (.cells false (natsA ws) (some ((h.push (.cells false [] none)).caps.length,1))) ws.length) ?_,oh,?_,kp.trans' Keep.grow,by simp⟩
   . simp [F80,happ]
   . have:=v8 (h:=h.push (.cells false [] none)) (x:=.cells false (natsA ws) (some ((h.push (.cells false [] none)).caps.length,1))) (n:=ws.length);simp only [AHeap.within];rw [show ((h.push (.cells false [] none)).grow (.cells false (natsA ws) (some ((h.push (.cells false [] none)).caps.length,1))) ws.length).caps[(h.push (.cells false [] none)).caps.length]?=some ws.length from this];simp
theorem Kh {i j:Nat} (m:eS h i j n ws):∃ h' i' j',run T 82 [.ptr i 0] h=some (.ptr i' 0,h')/\eS h' i' j' n ws/\Keep [] h h'/\h.size<=i'/\h.size<=j':=by have ⟨ne,b,c,ri,rj,h1,h2,h3⟩:=m;have hl:=b.len;have hle:=b.le;have ⟨g,j',c',rj',e,q1,q2,kp,hj'⟩:=Ho h2 h3 (by omega);have h1':=kp.obj h1 (by simp);have kp2:Keep [] g (g.push (Qc [iQ (n:Int),.slice j' 0 ws.length c'] none)):=Keep.push;have lj:=get_lt q1;refine ⟨g.push (Qc [iQ (n:Int),.slice j' 0 ws.length c'] none),g.size,j',run_eq Zt ?_,⟨by omega,b,c',none,rj',ak,kp2.obj q1 (by simp),fv q2 kp2⟩,kp.trans' kp2,kp.size,hj'⟩;simp [F82,h1,e,h1']
theorem KA (b:bz h x FT n N ws pend ms q) (hb:pend.length<=1000/\ms.length<=1000):∃ h' y FT',run T 38 [.ptr x 0] h=some (.ptr y 0,h')/\bz h' y FT' n N ws pend ms q/\Keep [] h h'/\∀ t∈FT',h.size<=t:=by
 obtain ⟨sp,pi,pj,Fp,Fm,a,v,mk,rfl,nd⟩:=b;have ⟨g1,i',j',e1,m1,k1,hi',hj'⟩:=Kh mk;have ⟨sp',g2,Fp',e2,v2,k2,f2⟩:=lZ (v.view.keep k1 (by simp)) (by omega);have ⟨s,room,hx,va,ni⟩:=a;have k12:=k1.trans' k2;have ⟨sm',g3,Fm',e3,v3,k3,f3⟩:=lZ (va.view.keep k12 (by simp)) (by omega);have k13:=k12.trans' k3;have hx1:=k1.obj hx (by simp);have hx2:=k12.obj hx (by simp);have hx3:=k13.obj hx (by simp);have kp:Keep [] g3 (g3.push (Qc [.ptr i' 0,sp',sm',iQ q,iQ N] none)):=Keep.push;have l1:=m1.lt;have l2:=v2.lt;have l3:=v3.lt;have z2:=k2.size;have z3:=k3.size;have ne:=m1.1;have hone:sp'.one=true/\sp'.cells=[sp']:=by cases v2<;>exact ⟨rfl,rfl⟩
 have hone3:sm'.one=true/\sm'.cells=[sm']:=by cases v3<;>exact ⟨rfl,rfl⟩
 have n1:=jk v2;have n2:=jk v3;refine ⟨_,g3.size,g3.size::i'::j'::(Fp'++Fm'),run_eq Z0 (h':=g3.push (Qc [.ptr i' 0,sp',sm',iQ q,iQ N] none)) ?_,⟨sp',i',j',Fp',Fm',⟨sm',none,ak,v3.keep kp (by simp),fun h=>by have:=l3 _ h;omega⟩,(v2.keep k3 (by simp)).keep kp (by simp),((m1.keep k2 (by simp) (by simp)).keep k3 (by simp) (by simp)).keep kp (by simp) (by simp),rfl,?_⟩,k13.trans' kp,fun t ht=>?_⟩
 . simp [F38,hx,hx1,hx2,hx3,e1,e2,e3,hone.2,hone3.2]
 . simp;refine ⟨⟨by omega,by omega,fun h=>by have:=l2 _ h;omega,fun h=>by have:=l3 _ h;omega⟩,⟨ne,fun h=>by have:=f2 _ h;omega,fun h=>by have:=f3 _ h;omega⟩,⟨fun h=>by have:=f2 _ h;omega,fun h=>by have:=f3 _ h;omega⟩,?_⟩;rw [gY];exact ⟨n1,n2,fun t ht u hu e=>by subst e;have:=l2 t ht;have:=f3 t hu;omega⟩
 . simp at ht;rcases ht with rfl | rfl | rfl | ht | ht
   . omega
   . exact hi'
   . exact hj'
   . have:=f2 t ht;omega
   . have:=f3 t ht;omega
end
end
section
variable {u:AV} {m':Mc} {i c n k:Nat} {l:List Bool} {gl':List Int} {F F':List Nat} {room:Option (Nat×Nat)}
structure W where
 P:Nat
 M:Nat
 G:Nat
 ws:List Int
 rings:List Rg
 turns:List Int
 gl:List Int
 ip:List Nat
 pend:List Int
 ms:List Int
 q:Int
 all:List Mc
 flag:List Bool
 lg:Nat
 deriving DecidableEq
def W.sp (w:W):Nat:=2*(w.P+2)
def W.nt (w:W):Nat:=2*w.P+5
def W.tb (w:W):Nat:=2*w.P+5+w.M
structure jb where
 a:Nat
 mi:Nat
 mj:Nat
 ro:Nat
 rs:AV
 rp:List Nat
 to:Nat
 gi:Nat
 si:Nat
 ii:Nat
 ao:Nat
 ab:Nat
 ac:Cap
 fo:Nat
def boolsA (l:List Bool):List AV:=l.map (.bool ·)
@[simp] theorem Sq :(boolsA l).length=l.length:=by simp [boolsA]
theorem Hr {b:Bool} (h:l[i]?=some b):(boolsA l)[i]?=some (.bool b):=by simp [boolsA,h]
theorem boolsA_set (l:List Bool) (i:Nat) (b:Bool):(boolsA l).set i (.bool b)=boolsA (l.set i b):=by simp [boolsA,vI]
theorem qa (l:List Int) (i:Nat) (b:Int):(intsA l).set i (iQ b)=intsA (l.set i b):=by simp [intsA,vI]
theorem ny {l:List Int} {b:Int} (h:l[i]?=some b):(intsA l)[i]?=some (iQ b):=by simp [intsA,h]
def headA (S:jb) (w:W) (u:AV):List AV:=[.int .i64 (w.P:Int),.int .i64 (w.M:Int),.int .i64 (w.G:Int),.ptr S.mi 0,.int .i64 (w.sp:Int),.int .i64 (w.nt:Int),.int .i64 (w.tb:Int),.int .i64 (w.G:Int),S.rs,.slice S.to 0 w.P (.exact w.P),.ptr S.gi 0,.ptr S.si 0,.ptr S.ii 0,.slice S.ao S.ab w.M S.ac,.slice S.fo 0 w.M (.exact w.M),u]
structure IZ (cs:List AV) (b:Nat) (m:Mc) (rv:AV):Prop where
 l:b+18<=cs.length
 at_:∀ k<18,cs[b+k]?=(gD m rv)[k]?
structure Up (cs cs':List AV) (b:Nat) (m:Mc) (rv:AV):Prop where
 len:cs'.length=cs.length
 Ru:∀ j,j<b\/b+18<=j->cs'[j]?=cs[j]?
 foc:IZ cs' b m rv
def Mc.put (m:Mc) (k:Nat) (v:Int):Mc:=match k with
 | 0=>{m with pl:=v} | 1=>{m with p:=v} | 2=>{m with g:=v} | 3=>{m with nx:=v} | 4=>{m with got:=v} | 5=>{m with tg:=v}
 | 6=>{m with ii:=v} | 10=>{m with bk:=v} | 11=>{m with af:=v} | 12=>{m with ar:=v} | 13=>{m with ln:=v} | 14=>{m with ls:=v}
 | 15=>{m with st:=v} | 17=>{m with tm:=v} | _=>m
section
variable {cs cs':List AV} {b:Nat} {m:Mc} {rv:AV}
theorem IZ.up (f:IZ cs b m rv):Up cs cs b m rv:=⟨rfl,fun _ _=>rfl,f⟩
theorem Up.gen (u:Up cs cs' b m rv) (hk:k<18) {v:AV} {rv':AV} (e:(gD m rv).set k v=gD m' rv'):Up cs (cs'.set (b+k) v) b m' rv':=by
 have hl:=u.foc.l;refine ⟨by simp [u.len],fun j hj=>?_,by simpa using hl,fun j hj=>?_⟩
 . rw [aj (by omega)];exact u.Ru j hj
 . rw [<- e];by_cases hjk:j=k
   . subst hjk;rw [ax (by omega),ax (by simp [gD];omega)]
   . rw [aj (by omega),aj (by omega)];exact u.foc.at_ j hj
theorem Up.int (u:Up cs cs' b m rv) (k:Nat) (v:Int) (hk:k<18/\k≠7/\k≠8/\k≠9/\k≠16:=by decide):Up cs (cs'.set (b+k) (iQ v)) b (m.put k v) rv:=by
 have ⟨h1,h2,h3,h4,h5⟩:=hk;refine u.gen h1 ?_;match k,h1,h2,h3,h4,h5 with
 | 0,_,_,_,_,_ | 1,_,_,_,_,_ | 2,_,_,_,_,_ | 3,_,_,_,_,_ | 4,_,_,_,_,_ | 5,_,_,_,_,_ | 6,_,_,_,_,_ | 10,_,_,_,_,_ | 11,_,_,_,_,_ | 12,_,_,_,_,_ | 13,_,_,_,_,_ | 14,_,_,_,_,_ | 15,_,_,_,_,_ | 17,_,_,_,_,_=>rfl
 | n+18,h1,_,_,_,_=>omega
theorem Up.place (u:Up cs cs' b m rv) (v:Int):Up cs (cs'.set b (iQ v)) b {m with pl:=v} rv:=u.gen (k:=0) (by omega) rfl
theorem Up.spin (u:Up cs cs' b m rv) (v:Bool):Up cs (cs'.set (b+7) (.bool v)) b {m with sp:=v} rv:=u.gen (by omega) rfl
theorem Up.inn (u:Up cs cs' b m rv) (v:Bool):Up cs (cs'.set (b+8) (.bool v)) b {m with inn:=v} rv:=u.gen (by omega) rfl
theorem Up.rest (u:Up cs cs' b m rv) (l:List Int) (v:AV):Up cs (cs'.set (b+9) v) b {m with rest:=l} v:=u.gen (by omega) rfl
theorem Up.tk (u:Up cs cs' b m rv) (v:Int):Up cs (cs'.set (b+16) (uQ v)) b {m with tk:=v} rv:=u.gen (by omega) rfl
end
def ext (own:Nat->Nat) (n c:Nat):Nat->Nat:=fun t=>if t<n then own t else c
structure Fr (own own':Nat->Nat) (h h':AHeap) (d:Nat) (G:List Nat):Prop where
 keep:Keep G h h'
 col:∀ t∈G,own t=d
 same:∀ t<h.size,own' t=own t
structure uo (h:AHeap) (S:jb) (w:W) (own:Nat->Nat) (u:AV) (F:List Nat):Prop where
 at_:∃ room,h.get S.a=some (.cells false (headA S w u) room)
 log:∃ es,es.length=w.lg/\Vec h 5 (evsA es) F u
 ni:S.a∉F
 ca:own S.a=1
 cF:∀ t∈F,own t=1
structure Od (h:AHeap) (S:jb) (w:W) (own:Nat->Nat) (cs:List AV):Prop where
 get:∃ room,h.get S.ao=some (.cells false cs room)
 len:w.all.length=w.M
 foc:∀ i m,w.all[i]?=some m->∃ rv F,IZ cs (S.ab+i*18) m rv/\dz h 1 (intsA m.rest) F rv/\∀ t∈F,own t=8
 wi:h.within w.M S.ac=true
structure Sz (w:W):Prop where
 P:1<=w.P/\w.P<=64
 M:w.P<=w.M/\w.M<=128
 G:1<=w.G/\w.G<=4096
 ws:w.ws.length=2*w.P+5+w.M+w.G
structure eR (h:AHeap) (S:jb) (w:W) (X:List Nat) (own:Nat->Nat):Prop where
 sz:Sz w
 pl:nM h
 al:sY h
 nx:mS h
 db:h.get 3=some (.cells true og none)
 low:∀ t<11,own t=0
 out:∀ t∈X,t<h.size/\own t=0
 head:∃ u F,uo h S w own u F
 mem:own S.mi=2/\own S.mj=2/\∃ cnt,MemAt h S.mi S.mj w.ws cnt
 UE:own S.ro=3/\dz h 1 (S.rp.map fun r=>.ptr r 0) [S.ro] S.rs/\S.rp.length=w.P/\w.rings.length=w.P
 ring:∀ k r,w.rings[k]?=some r->∃ i,S.rp[k]?=some i/\cZ h i r/\own i=10+k
 turn:own S.to=4/\w.turns.length=w.P/\∃ room,h.get S.to=some (.cells false (intsA w.turns) room)
 glob:∃ F,cY h S.gi F w.gl [.int .i64 (w.P:Int)]/\∀ t∈S.gi::F,own t=5
 idle:∃ FT wz,bz h S.ii FT w.P w.M wz w.pend w.ms w.q/\_root_.Go.Proofs.YtblhcbmcbhoeiaaGreatDoor.Ev.mem wz=w.ip/\∀ t∈FT,own t=6
 all:own S.ao=7/\∃ cs,Od h S w own cs
 flag:own S.fo=9/\w.flag.length=w.M/\∃ room,h.get S.fo=some (.cells false (boolsA w.flag) room)
section
variable {h h':AHeap} {S:jb} {w:W} {X G:List Nat} {own own':Nat->Nat} {d:Nat}
theorem Fr.th (f:Fr own own' h h' d G) {t:Nat} (ht:own t=c) (hd:d≠c):t∉G:=fun hm=>hd (by rw [<- f.col t hm,ht])
theorem Fr.lo (f:Fr own own' h h' d G) (low:∀ t<11,own t=0) (hd:d≠0):∀ t∈G,11<=t:=fun t ht=>by
 rcases bH t 11 with h1 | h1
 . exact absurd (low t h1) (by rw [f.col t ht];exact hd)
 . exact h1
theorem uo.keep (x:uo h S w own u F) (f:Fr own own' h h' d G) (hd:d≠1):uo h' S w own' u F:=by have ⟨⟨room,e⟩,⟨es,l,v⟩,ni,ca,cF⟩:=x;exact ⟨⟨room,f.keep.obj e (f.th ca hd)⟩,⟨es,l,v.keep f.keep fun t ht=>f.th (cF t ht) hd⟩,ni,by rw [f.same _ (get_lt e),ca],fun t ht=>by rw [f.same _ (v.lt t ht),cF t ht]⟩
theorem Od.keep {cs:List AV} (x:Od h S w own cs) (f:Fr own own' h h' d G) (ha:own S.ao=7) (hd:d≠7/\d≠8):Od h' S w own' cs:=by have ⟨⟨room,e⟩,l,fo,wi⟩:=x;refine ⟨⟨room,f.keep.obj e (f.th ha hd.1)⟩,l,fun i m hi=>?_,fv wi f.keep⟩;have ⟨rv,F,y,v,c⟩:=fo i m hi;exact ⟨rv,F,y,v.keep f.keep fun t ht=>f.th (c t ht) hd.2,fun t ht=>by rw [f.same _ (v.lt t ht),c t ht]⟩
theorem eR.XY (x:eR h S w X own):S.ao<h.size:=by obtain ⟨_,cs,⟨room,e⟩,_⟩:=x.all;exact get_lt e
theorem eR.Ot (x:eR h S w X own) (f:Fr own own' h h' d G) (hd:d≠0):nM h'/\sY h'/\mS h'/\h'.get 3=some (.cells true og none)/\(∀ t<11,own' t=0)/\∀ t∈X,t<h'.size/\own' t=0:=by
 have lo:=f.lo x.low hd;have hl:∀ t∈G,t≠1/\t≠2/\t≠3:=fun t ht=>by have:=lo t ht;omega
 have sz:11<=h.size:=by have:=x.nx.r 6 [] rfl;have:=get_lt this;omega
 refine ⟨f.keep.obj x.pl fun hm=>(hl 1 hm).1 rfl,f.keep.obj x.al fun hm=>(hl 2 hm).2.1 rfl,x.nx.keep f.keep lo,f.keep.obj x.db fun hm=>(hl 3 hm).2.2 rfl,fun t ht=>by rw [f.same t (by omega),x.low t ht],fun t ht=>?_⟩;have ⟨h1,h2⟩:=x.out t ht;exact ⟨cq h1 f.keep.size,by rw [f.same t h1,h2]⟩
theorem eR.yM (x:eR h S w X own) (f:Fr own own' h h' d G) (hd:d≠2):own' S.mi=2/\own' S.mj=2/\∃ cnt,MemAt h' S.mi S.mj w.ws cnt:=by have ⟨a,b,cnt,m⟩:=x.mem;exact ⟨by rw [f.same _ m.lt.1,a],by rw [f.same _ m.lt.2,b],cnt,m.keep f.keep (f.th a hd) (f.th b hd)⟩
theorem eR.vL (x:eR h S w X own) (f:Fr own own' h h' d G) (hd:d≠3):own' S.ro=3/\dz h' 1 (S.rp.map fun r=>.ptr r 0) [S.ro] S.rs/\S.rp.length=w.P/\w.rings.length=w.P:=by have ⟨a,v,l1,l2⟩:=x.UE;exact ⟨by rw [f.same _ (v.lt _ (by simp)),a],v.keep f.keep (fun t ht=>by simp at ht;subst ht;exact f.th a hd),l1,l2⟩
theorem eR.kF (x:eR h S w X own) (f:Fr own own' h h' d G) (hd:d<10):∀ k r,w.rings[k]?=some r->∃ i,S.rp[k]?=some i/\cZ h' i r/\own' i=10+k:=fun k r hk=>by have ⟨i,e,y,c⟩:=x.ring k r hk;exact ⟨i,e,y.keep f.keep (f.th c (by omega)),by rw [f.same _ y.lt,c]⟩
theorem eR.pN (x:eR h S w X own) (f:Fr own own' h h' d G) (hd:d≠4):own' S.to=4/\w.turns.length=w.P/\∃ room,h'.get S.to=some (Qc (intsA w.turns) room):=by have ⟨a,l,room,e⟩:=x.turn;exact ⟨by rw [f.same _ (get_lt e),a],l,room,f.keep.obj e (f.th a hd)⟩
theorem eR.qG (x:eR h S w X own) (f:Fr own own' h h' d G) (hd:d≠5):∃ F,cY h' S.gi F w.gl [iQ (w.P:Int)]/\∀ t∈S.gi::F,own' t=5:=by have ⟨F,b,c⟩:=x.glob;exact ⟨F,b.keep f.keep fun t ht=>f.th (c t ht) hd,fun t ht=>by rw [f.same _ (b.lt t ht),c t ht]⟩
theorem eR.kS (x:eR h S w X own) (f:Fr own own' h h' d G) (hd:d≠6):∃ FT wz,bz h' S.ii FT w.P w.M wz w.pend w.ms w.q/\_root_.Go.Proofs.YtblhcbmcbhoeiaaGreatDoor.Ev.mem wz=w.ip/\∀ t∈FT,own' t=6:=by have ⟨F,wz,b,hm,c⟩:=x.idle;exact ⟨F,wz,b.keep f.keep fun t ht=>f.th (c t ht) hd,hm,fun t ht=>by rw [f.same _ (b.lt t ht),c t ht]⟩
theorem eR.yN (x:eR h S w X own) (f:Fr own own' h h' d G) (hd:d≠7/\d≠8):own' S.ao=7/\∃ cs,Od h' S w own' cs:=by have ⟨a,cs,y⟩:=x.all;exact ⟨by rw [f.same _ x.XY,a],cs,y.keep f a hd⟩
theorem eR.pO (x:eR h S w X own) (f:Fr own own' h h' d G) (hd:d≠9):own' S.fo=9/\w.flag.length=w.M/\∃ room,h'.get S.fo=some (Qc (boolsA w.flag) room):=by have ⟨a,l,room,e⟩:=x.flag;exact ⟨by rw [f.same _ (get_lt e),a],l,room,f.keep.obj e (f.th a hd)⟩
theorem eR.kT (x:eR h S w X own) (f:Fr own own' h h' d G) (hd:d≠1):∃ u F,uo h' S w own' u F:=by have ⟨u,F,y⟩:=x.head;exact ⟨u,F,y.keep f hd⟩
theorem ext_same (own:Nat->Nat) (n c:Nat):∀ t<n,ext own n c t=own t:=fun t ht=>if_pos ht
theorem ext_new (own:Nat->Nat) {t:Nat} (ht:n<=t):ext own n c t=c:=nQ
theorem jV {own:Nat->Nat} (hF:∀ t∈F,own t=c/\t<n) (h:∀ t∈F',t∈F\/n<=t):∀ t∈F',ext own n c t=c:=fun t ht=>by
 rcases h t ht with h1 | h1
 . rw [ext_same _ _ _ _ (hF t h1).2];exact (hF t h1).1
 . exact ext_new own h1
theorem eR.alloc (x:eR h S w X own) (k:Keep [] h h') (c:Nat):eR h' S w X (ext own h.size c):=by
 have f:Fr own (ext own h.size c) h h' 99 []:=⟨k,by simp,ext_same _ _ _⟩
 have f2:Fr own (ext own h.size c) h h' 9 []:=⟨k,by simp,ext_same _ _ _⟩
 have g:=x.Ot f (by omega);exact ⟨{x.sz with},g.1,g.2.1,g.2.2.1,g.2.2.2.1,g.2.2.2.2.1,g.2.2.2.2.2,x.kT f (by omega),x.yM f (by omega),x.vL f (by omega),x.kF f2 (by omega),x.pN f (by omega),x.qG f (by omega),x.kS f (by omega),x.yN f (by omega),x.pO f (by omega)⟩
theorem eR.Oi (x:eR h S w X own) (hF:∀ t∈F,t<h.size/\own t=0):eR h S w (F++X) own:=
 {x with out:=fun t ht=>by rcases bd.1 ht with h1 | h1;exact hF t h1;exact x.out t h1}
theorem eR.abu (x:eR h S w X own) {Y:List Nat} (hY:∀ t∈Y,t∈X):eR h S w Y own:=
 {x with out:=fun t ht=>x.out t (hY t ht)}
theorem eR.j7 (x:eR h S w X own) (c:Nat) {ws':List Int} {cnt':Int} (m:MemAt h' S.mi S.mj ws' cnt') (hl:ws'.length=w.ws.length) (k:Keep [S.mi,S.mj] h h'):eR h' S {w with ws:=ws'} X (ext own h.size c):=by
 have ⟨a,b,cnt,m0⟩:=x.mem;have f:Fr own (ext own h.size c) h h' 2 [S.mi,S.mj]:=⟨k,fun t ht=>by simp at ht;rcases ht with rfl | rfl<;>assumption,ext_same _ _ _⟩
 have g:=x.Ot f (by omega);have ⟨u,F,hd⟩:=x.kT f (by omega);exact ⟨{x.sz with ws:=hl.trans x.sz.ws},g.1,g.2.1,g.2.2.1,g.2.2.2.1,g.2.2.2.2.1,g.2.2.2.2.2,⟨u,F,{hd with}⟩,⟨by rw [f.same _ m0.lt.1,a],by rw [f.same _ m0.lt.2,b],cnt',m⟩,x.vL f (by omega),x.kF f (by omega),x.pN f (by omega),x.qG f (by omega),x.kS f (by omega),let ⟨q,cs,y⟩:=x.yN f (by omega);⟨q,cs,{y with}⟩,x.pO f (by omega)⟩
theorem eR.I9 (x:eR h S w X own) (b:cY h S.gi F w.gl [iQ (w.P:Int)]) (hF:∀ t∈S.gi::F,own t=5) (b':cY h' S.gi F' gl' [iQ (w.P:Int)]) (k:Keep (S.gi::F) h h') (f':∀ t∈F',t∈F\/h.size<=t):eR h' S {w with gl:=gl'} X (ext own h.size 5):=by
 have f:Fr own (ext own h.size 5) h h' 5 (S.gi::F):=⟨k,hF,ext_same _ _ _⟩
 have g:=x.Ot f (by omega);have ⟨u,FF,hd⟩:=x.kT f (by omega);exact ⟨{x.sz with},g.1,g.2.1,g.2.2.1,g.2.2.2.1,g.2.2.2.2.1,g.2.2.2.2.2,⟨u,FF,{hd with}⟩,x.yM f (by omega),x.vL f (by omega),x.kF f (by omega),x.pN f (by omega),⟨F',b',jV (F:=S.gi::F) (fun t ht=>⟨hF t ht,b.lt t ht⟩) (fun t ht=>by rcases aD.1 ht with rfl | ht;exact dc (by simp);exact (f' t ht).imp_left (by intro h1;simp [h1]))⟩,x.kS f (by omega),let ⟨q,cs,y⟩:=x.yN f (by omega);⟨q,cs,{y with}⟩,x.pO f (by omega)⟩
theorem eR.tf (x:eR h S w X own) (b:cY h S.gi F w.gl [iQ (w.P:Int)]) (hF:∀ t∈S.gi::F,own t=5) (b':cY h' S.gi F gl' [iQ (w.P:Int)]) (k:Keep (S.gi::F) h h') (c:Nat):eR h' S {w with gl:=gl'} X (ext own h.size c):=by
 have f:Fr own (ext own h.size c) h h' 5 (S.gi::F):=⟨k,hF,ext_same _ _ _⟩
 have g:=x.Ot f (by omega);have ⟨u,FF,hd⟩:=x.kT f (by omega);exact ⟨{x.sz with},g.1,g.2.1,g.2.2.1,g.2.2.2.1,g.2.2.2.2.1,g.2.2.2.2.2,⟨u,FF,{hd with}⟩,x.yM f (by omega),x.vL f (by omega),x.kF f (by omega),x.pN f (by omega),⟨F,b',fun t ht=>by rw [f.same _ (b.lt t ht)];exact hF t ht⟩,x.kS f (by omega),let ⟨q,cs,y⟩:=x.yN f (by omega);⟨q,cs,{y with}⟩,x.pO f (by omega)⟩
theorem eR.ie (x:eR h S w X own) {ip':List Nat} {wz wz':List Nat} {pend' ms':List Int} {q':Int} (b:bz h S.ii F w.P w.M wz w.pend w.ms w.q) (hF:∀ t∈F,own t=6) (b':bz h' S.ii F' w.P w.M wz' pend' ms' q') (hm:_root_.Go.Proofs.YtblhcbmcbhoeiaaGreatDoor.Ev.mem wz'=ip') (k:Keep F h h') (f':∀ t∈F',t∈F\/h.size<=t):eR h' S {w with ip:=ip',pend:=pend',ms:=ms',q:=q'} X (ext own h.size 6):=by
 have f:Fr own (ext own h.size 6) h h' 6 F:=⟨k,hF,ext_same _ _ _⟩
 have g:=x.Ot f (by omega);have ⟨u,FF,hd⟩:=x.kT f (by omega);exact ⟨{x.sz with},g.1,g.2.1,g.2.2.1,g.2.2.2.1,g.2.2.2.2.1,g.2.2.2.2.2,⟨u,FF,{hd with}⟩,x.yM f (by omega),x.vL f (by omega),x.kF f (by omega),x.pN f (by omega),x.qG f (by omega),⟨F',wz',b',hm,jV (fun t ht=>⟨hF t ht,b.lt t ht⟩) f'⟩,let ⟨q,cs,y⟩:=x.yN f (by omega);⟨q,cs,{y with}⟩,x.pO f (by omega)⟩
theorem eR.QD (x:eR h S w X own) {t':List Int} (hl:t'.length=w.turns.length):eR (h.put S.to (Qc (intsA t') room)) S {w with turns:=t'} X own:=by
 have ⟨a,l,room0,e⟩:=x.turn;have f:Fr own own h (h.put S.to (Qc (intsA t') room)) 4 [S.to]:=⟨Keep.put (by simp),by simpa using a,fun _ _=>rfl⟩
 have g:=x.Ot f (by omega);have ⟨u,FF,hd⟩:=x.kT f (by omega);exact ⟨{x.sz with},g.1,g.2.1,g.2.2.1,g.2.2.2.1,g.2.2.2.2.1,g.2.2.2.2.2,⟨u,FF,{hd with}⟩,x.yM f (by omega),x.vL f (by omega),x.kF f (by omega),⟨a,by rw [<- l];exact hl,room,by rw [get_put_same,e];rfl⟩,x.qG f (by omega),x.kS f (by omega),let ⟨q,cs,y⟩:=x.yN f (by omega);⟨q,cs,{y with}⟩,x.pO f (by omega)⟩
theorem eR.Dr (x:eR h S w X own) {t':List Bool} (hl:t'.length=w.flag.length):eR (h.put S.fo (Qc (boolsA t') room)) S {w with flag:=t'} X own:=by
 have ⟨a,l,room0,e⟩:=x.flag;have f:Fr own own h (h.put S.fo (Qc (boolsA t') room)) 9 [S.fo]:=⟨Keep.put (by simp),by simpa using a,fun _ _=>rfl⟩
 have g:=x.Ot f (by omega);have ⟨u,FF,hd⟩:=x.kT f (by omega);exact ⟨{x.sz with},g.1,g.2.1,g.2.2.1,g.2.2.2.1,g.2.2.2.2.1,g.2.2.2.2.2,⟨u,FF,{hd with}⟩,x.yM f (by omega),x.vL f (by omega),x.kF f (by omega),x.pN f (by omega),x.qG f (by omega),x.kS f (by omega),let ⟨q,cs,y⟩:=x.yN f (by omega);⟨q,cs,{y with}⟩,⟨a,by rw [<- l];exact hl,room,by rw [get_put_same,e];rfl⟩⟩
theorem eR.wD (x:eR h S w X own) {r r':Rg} (hk:w.rings[k]?=some r) (hi:S.rp[k]?=some i) (y:cZ h' i r') (kp:Keep [i] h h') (c:Nat):eR h' S {w with rings:=w.rings.set k r'} X (ext own h.size c):=by
 have ⟨i',e,y0,ci⟩:=x.ring k r hk;rw [hi] at e;cases e;have f:Fr own (ext own h.size c) h h' (10+k) [i]:=⟨kp,by simpa using ci,ext_same _ _ _⟩
 have g:=x.Ot f (by omega);have ⟨u,FF,hd⟩:=x.kT f (by omega);have ⟨q1,q2,q3,q4⟩:=x.vL f (by omega);have kl:=(aa.1 hk).1;refine ⟨{x.sz with},g.1,g.2.1,g.2.2.1,g.2.2.2.1,g.2.2.2.2.1,g.2.2.2.2.2,⟨u,FF,{hd with}⟩,x.yM f (by omega),⟨q1,q2,q3,by simpa using q4⟩,fun j rj hj=>?_,x.pN f (by omega),x.qG f (by omega),x.kS f (by omega),let ⟨q,cs,y⟩:=x.yN f (by omega);⟨q,cs,{y with}⟩,x.pO f (by omega)⟩;by_cases hjk:j=k
 . subst hjk;have hj:(w.rings.set j r')[j]?=some rj:=hj;rw [ax kl] at hj;cases hj;exact ⟨i,hi,y,by rw [f.same _ y0.lt,ci]⟩
 . have hj:(w.rings.set k r')[j]?=some rj:=hj;rw [aj (aY hjk)] at hj;have ⟨l,e,z,cl⟩:=x.ring j rj hj;exact ⟨l,e,z.keep kp (f.th cl (by omega)),by rw [f.same _ z.lt,cl]⟩
theorem eR.abv (x:eR h S w X own) {m:Mc} {rv:AV} {cs cs':List AV} {room':Option (Nat×Nat)} (hi:w.all[i]?=some m) (hc:h.get S.ao=some (Qc cs room)) (u:Up cs cs' (S.ab+i*18) m' rv) (v:dz h 1 (intsA m'.rest) F rv) (hF:∀ t∈F,own t=8):eR (h.put S.ao (Qc cs' room')) S {w with all:=w.all.set i m'} X own:=by
 have ⟨a,cs0,y⟩:=x.all;have f:Fr own own h (h.put S.ao (Qc cs' room')) 7 [S.ao]:=⟨Keep.put (by simp),by simpa using a,fun _ _=>rfl⟩
 have g:=x.Ot f (by omega);have ⟨uu,FF,hd⟩:=x.kT f (by omega);have il:=(aa.1 hi).1;refine ⟨{x.sz with},g.1,g.2.1,g.2.2.1,g.2.2.2.1,g.2.2.2.2.1,g.2.2.2.2.2,⟨uu,FF,{hd with}⟩,x.yM f (by omega),x.vL f (by omega),x.kF f (by omega),x.pN f (by omega),x.qG f (by omega),x.kS f (by omega),⟨a,cs',⟨room',by rw [get_put_same,hc];rfl⟩,by simpa using y.len,fun j mj hj=>?_,fv y.wi f.keep⟩,x.pO f (by omega)⟩;have ⟨room0,e0⟩:=y.get;rw [hc] at e0;cases e0;by_cases hij:j=i
 . subst hij;have hj:(w.all.set j m')[j]?=some mj:=hj;rw [ax il] at hj;cases hj;exact ⟨rv,F,u.foc,v.keep f.keep (fun t ht=>f.th (hF t ht) (by omega)),hF⟩
 . have hj:(w.all.set i m')[j]?=some mj:=hj;rw [aj (aY hij)] at hj;have ⟨rj,Fj,fc,vj,cj⟩:=y.foc j mj hj;refine ⟨rj,Fj,⟨by rw [u.len];exact fc.l,fun k hk=>?_⟩,vj.keep f.keep (fun t ht=>f.th (cj t ht) (by omega)),cj⟩;rw [u.Ru _ (by omega)];exact fc.at_ k hk
theorem eR.Og (x:eR h S w X own) {u':AV} {es:List E5} (y:uo h S w own u F) (hg:h'.get S.a=some (Qc (headA S w u') room)) (v':Vec h' 5 (evsA es) F' u') (ni:S.a∉F') (k:Keep (S.a::F) h h') (f':∀ t∈F',t∈F\/h.size<=t):eR h' S {w with lg:=es.length} X (ext own h.size 1):=by
 have ⟨⟨room0,e0⟩,⟨es0,l0,v0⟩,ni0,ca,cF⟩:=y;have f:Fr own (ext own h.size 1) h h' 1 (S.a::F):=⟨k,fun t ht=>by rcases aD.1 ht with rfl | ht;exact ca;exact cF t ht,ext_same _ _ _⟩
 have g:=x.Ot f (by omega);exact ⟨{x.sz with},g.1,g.2.1,g.2.2.1,g.2.2.2.1,g.2.2.2.2.1,g.2.2.2.2.2,⟨u',F',⟨⟨room,hg⟩,⟨es,rfl,v'⟩,ni,by rw [f.same _ (get_lt e0),ca],jV (fun t ht=>⟨cF t ht,v0.lt t ht⟩) f'⟩⟩,x.yM f (by omega),x.vL f (by omega),x.kF f (by omega),x.pN f (by omega),x.qG f (by omega),x.kS f (by omega),let ⟨q,cs,y⟩:=x.yN f (by omega);⟨q,cs,{y with}⟩,x.pO f (by omega)⟩
end
end
section
variable {rv:AV} {o b:Nat} {cs:List AV} {F:List Nat} {room:Option (Nat×Nat)}
structure KX (X:List Nat) (h h':AHeap):Prop where
 size:h.size<=h'.size
 caps:∀ k lb,h.lb k=some lb->h'.lb k=some lb
 get:∀ t∈X,h'.get t=h.get t
def WorldAt (h:AHeap) (S:jb) (w:W) (X:List Nat):Prop:=∃ own,eR h S w X own
def W.az (w:W) (i:Nat) (m:Mc):W:={w with all:=w.all.set i m}
def W.aL (w:W) (i:Nat) (b:Bool):W:={w with flag:=w.flag.set i b}
section
variable {S:jb} {w:W} {u:AV}
@[simp] theorem Ut:(headA S w u).length=16:=rfl
@[simp] theorem Us:((headA S w u).drop 6).take 2=[iQ (w.tb:Int),iQ (w.G:Int)]:=rfl
@[simp] theorem KB:(headA S w u).take 3=[iQ (w.P:Int),iQ (w.M:Int),iQ (w.G:Int)]:=rfl
@[simp] theorem Yn:(headA S w u)[0]?=some (iQ (w.P:Int)):=rfl
@[simp] theorem Ym:(headA S w u)[1]?=some (iQ (w.M:Int)):=rfl
@[simp] theorem Yl:(headA S w u)[2]?=some (iQ (w.G:Int)):=rfl
@[simp] theorem Yk:(headA S w u)[3]?=some (.ptr S.mi 0):=rfl
@[simp] theorem Yj:(headA S w u)[4]?=some (iQ (w.sp:Int)):=rfl
@[simp] theorem Yi:(headA S w u)[5]?=some (iQ (w.nt:Int)):=rfl
@[simp] theorem Yh:(headA S w u)[8]?=some S.rs:=rfl
@[simp] theorem Yg:(headA S w u)[9]?=some (.slice S.to 0 w.P (.exact w.P)):=rfl
@[simp] theorem Vf:(headA S w u)[10]?=some (.ptr S.gi 0):=rfl
@[simp] theorem Ve:(headA S w u)[11]?=some (.ptr S.si 0):=rfl
@[simp] theorem Vd:(headA S w u)[12]?=some (.ptr S.ii 0):=rfl
@[simp] theorem yh:(headA S w u)[13]?=some (.slice S.ao S.ab w.M S.ac):=rfl
@[simp] theorem headA_14:(headA S w u)[14]?=some (.slice S.fo 0 w.M (.exact w.M)):=rfl
@[simp] theorem yg:(headA S w u)[15]?=some u:=rfl
end
section
variable {h h' h'':AHeap} {S:jb} {w:W} {X G:List Nat} {own:Nat->Nat} {i:Nat} {m:Mc}
theorem KX.refl:KX X h h:=⟨aq _,fun _ _ e=>e,fun _ _=>rfl⟩
theorem KX.trans (a:KX X h h') (b:KX X h' h''):KX X h h'':=⟨dk a.size b.size,fun k lb e=>b.caps k lb (a.caps k lb e),fun t ht=>by rw [b.get t ht,a.get t ht]⟩
theorem KX.sub {Y:List Nat} (a:KX X h h') (hY:∀ t∈Y,t∈X):KX Y h h':=⟨a.size,a.caps,fun t ht=>a.get t (hY t ht)⟩
theorem KX.keep (a:KX X h h'):Keep ((List.range h.size).filter fun t=>decide (t∉X)) h h':=⟨a.size,a.caps,fun t ht hn=>a.get t (by
 by_cases hx:t∈X
 . exact hx
 . exact absurd (by simp [ht,hx]) hn)⟩
theorem KX.th (hF:∀ t∈F,t∈X):∀ t∈F,t∉(List.range h.size).filter fun t=>decide (t∉X):=fun t ht hm=>by simp at hm;exact hm.2 (hF t ht)
theorem KX.obj {t:Nat} {o:AObj} (a:KX X h h') (e:h.get t=some o) (ht:t∈X):h'.get t=some o:=by rw [a.get t ht,e]
theorem eR.kx {c:Nat} (x:eR h S w X own) (k:Keep G h h') (hG:∀ t∈G,own t=c) (hc:c≠0):KX X h h':=⟨k.size,k.caps,fun t ht=>k.get t (x.out t ht).1 fun hm=>hc (by rw [<- hG t hm,(x.out t ht).2])⟩
theorem eR.YQ (x:eR h S w X own) (k:Keep [] h h'):KX X h h':=⟨k.size,k.caps,fun t ht=>k.get t (x.out t ht).1 (by simp)⟩
theorem eR.hd (x:eR h S w X own):∃ u room,h.get S.a=some (Qc (headA S w u) room):=by have ⟨u,F,y⟩:=x.head;have ⟨room,e⟩:=y.at_;exact ⟨u,room,e⟩
theorem eR.lens (x:eR h S w X own):w.all.length=w.M/\w.flag.length=w.M/\w.turns.length=w.P/\w.rings.length=w.P:=by have ⟨_,cs,y⟩:=x.all;exact ⟨y.len,x.flag.2.1,x.turn.2.1,x.UE.2.2.2⟩
theorem eR.ca (x:eR h S w X own):own S.a=1:=by have ⟨u,F,y⟩:=x.head;exact y.ca
theorem eR.fA (x:eR h S w X own) (hi:w.all[i]?=some m):∃ b cs room rv F,b=S.ab+i*18/\h.get S.ao=some (Qc cs room)/\idxAddrV 18 none (.slice S.ao S.ab w.M S.ac) (iQ (i:Int))=some (.ptr S.ao b)/\Up cs cs b m rv/\dz h 1 (intsA m.rest) F rv/\∀ t∈F,own t=8:=by have ⟨_,cs,⟨⟨room,e⟩,l,fo,wi⟩⟩:=x.all;have ⟨rv,F,y,v,c⟩:=fo i m hi;have il:=(aa.1 hi).1;refine ⟨_,cs,room,rv,F,rfl,e,?_,y.up,v,c⟩;simp only [idxAddrV];rw [pQ];simp
theorem IZ.facts {m:Mc} (f:IZ cs b m rv):cs[b]?=some (iQ m.pl)/\cs[b+1]?=some (iQ m.p)/\cs[b+2]?=some (iQ m.g)/\cs[b+3]?=some (iQ m.nx)/\cs[b+4]?=some (iQ m.got)/\cs[b+5]?=some (iQ m.tg)/\cs[b+6]?=some (iQ m.ii)/\cs[b+7]?=some (.bool m.sp)/\cs[b+8]?=some (.bool m.inn)/\cs[b+9]?=some rv/\cs[b+10]?=some (iQ m.bk)/\cs[b+11]?=some (iQ m.af):=
 ⟨f.at_ 0 (by omega),f.at_ 1 (by omega),f.at_ 2 (by omega),f.at_ 3 (by omega),f.at_ 4 (by omega),f.at_ 5 (by omega),f.at_ 6 (by omega),f.at_ 7 (by omega),f.at_ 8 (by omega),f.at_ 9 (by omega),f.at_ 10 (by omega),f.at_ 11 (by omega)⟩
theorem IZ.lt {m:Mc} (f:IZ cs b m rv):b<cs.length/\∀ k,k<18->b+k<cs.length:=by have:=f.l;exact ⟨by omega,fun k hk=>by omega⟩
theorem eR.mz (x:eR h S w X own) (hi:w.all[i]?=some m):∃ b cs room rv F u room0,b=S.ab+i*18/\h.get S.ao=some (Qc cs room)/\idxAddrV 18 none (.slice S.ao S.ab w.M S.ac) (iQ (i:Int))=some (.ptr S.ao b)/\Up cs cs b m rv/\dz h 1 (intsA m.rest) F rv/\(∀ t∈F,own t=8)/\h.get S.a=some (Qc (headA S w u) room0)/\(cs[b]?=some (iQ m.pl)/\cs[b+1]?=some (iQ m.p)/\cs[b+2]?=some (iQ m.g)/\cs[b+3]?=some (iQ m.nx)/\cs[b+4]?=some (iQ m.got)/\cs[b+5]?=some (iQ m.tg)/\cs[b+6]?=some (iQ m.ii)/\cs[b+7]?=some (.bool m.sp)/\cs[b+8]?=some (.bool m.inn)/\cs[b+9]?=some rv/\cs[b+10]?=some (iQ m.bk)/\cs[b+11]?=some (iQ m.af))/\(b<cs.length/\∀ k,k<18->b+k<cs.length)/\rv.gP=some m.rest.length/\S.a≠S.ao:=by
 have ⟨b,cs,room,rv,F,hb,hc,hx,up,v,hF⟩:=x.fA hi;have ⟨u,room0,hd⟩:=x.hd;have hrl:=v.my;simp at hrl;exact ⟨b,cs,room,rv,F,u,room0,hb,hc,hx,up,v,hF,hd,up.foc.facts,up.foc.lt,hrl,fun e=>by have:=x.ca;rw [e,x.all.1] at this;omega⟩
theorem wrI {h:AHeap} {i:Nat} {k:IntKind} {z:Int} (ho:o<cs.length):writeOf h i (some (Qc cs room)) o [.int k z]=some (h.put i (Qc (cs.set o (.int k z)) room)):=wr1 ho rfl
theorem wrB {h:AHeap} {i:Nat} {z:Bool} (ho:o<cs.length):writeOf h i (some (Qc cs room)) o [.bool z]=some (h.put i (Qc (cs.set o (.bool z)) room)):=wr1 ho rfl
theorem eR.bY (x:eR h S w X own) {m':Mc} {cs':List AV} (hi:w.all[i]?=some m) (hc:h.get S.ao=some (Qc cs room)) (hb:b=S.ab+i*18) (u:Up cs cs' b m' rv) (v:dz h 1 (intsA m'.rest) F rv) (hF:∀ t∈F,own t=8):WorldAt (h.put S.ao (Qc cs' room)) S (w.az i m') X/\KX X h (h.put S.ao (Qc cs' room)):=by subst hb;exact ⟨⟨own,x.abv hi hc u v hF⟩,x.kx (c:=7) (G:=[S.ao]) (Keep.put (by simp)) (by simpa using x.all.1) (by omega)⟩
def takeM (m:Mc):Mc:={m with bk:=20,pl:=if 0<m.rest.length then 17 else if m.sp=true then 19 else 20}
def settleM (m:Mc):Mc:={m with pl:=if 0<m.rest.length then 18 else if m.sp=true then 19 else 21}
def stealM (m:Mc) (k:Int) (P:Nat):Mc:={m with ii:=k,pl:=if (P:Int)<=k then 7 else 6}
def deliverM (m:Mc) (k:Int):Mc:={m with af:=k,pl:=25}
theorem wtake_ok (x:WorldAt h S w X) (hi:w.all[i]?=some m):∃ h',run T 184 [.ptr S.a 0,iQ (i:Int)] h=some (.tuple [],h')/\WorldAt h' S (w.az i (takeM m)) X/\KX X h h':=by
 have ⟨own,x⟩:=x;have ⟨b,cs,room,rv,F,u,room0,hb,hc,hx,up,v,hF,hd,⟨f0,f1,f2,f3,f4,f5,f6,f7,f8,f9,f10,f11⟩,⟨l0,ll⟩,hrl,na⟩:=x.mz hi
 have u1:=up.int 10 20;refine run_val WG ?_;by_cases hr:0<m.rest.length
 . simp [-writeOf_some,-getElem?_pos,N4,hd,hx,hc,wrI,ll,l0,f9,hrl,hr,takeM];exact x.bY (m':={m with bk:=20,pl:=17}) hi hc hb (u1.place 17) v hF
 . have hr0:m.rest=[]:=aG (by omega);rw [hr0] at hrl;simp at hrl;cases hs:m.sp<;>rw [hs] at f7
   . rw [show takeM m={m with bk:=20,pl:=20} by simp [takeM,hr0,hs]];simp [-writeOf_some,-getElem?_pos,N4,hd,hx,hc,wrI,ll,l0,f9,f7,hrl];exact x.bY (m':={m with bk:=20,pl:=20}) hi hc hb (u1.place 20) v hF
   . rw [show takeM m={m with bk:=20,pl:=19} by simp [takeM,hr0,hs]];simp [-writeOf_some,-getElem?_pos,N4,hd,hx,hc,wrI,ll,l0,f9,f7,hrl];exact x.bY (m':={m with bk:=20,pl:=19}) hi hc hb (u1.place 19) v hF
end
end
section
variable {h h' h'':AHeap} {S:jb} {w:W} {X G:List Nat} {own:Nat->Nat} {i:Nat} {m:Mc}
theorem eR.fl (x:eR h S w X own) {is:Bool} (hf:w.flag[i]?=some is):∃ room,h.get S.fo=some (Qc (boolsA w.flag) room)/\idxAddrV 1 none (.slice S.fo 0 w.M (.exact w.M)) (iQ (i:Int))=some (.ptr S.fo i)/\(boolsA w.flag)[i]?=some (.bool is)/\i<w.flag.length:=by have ⟨c,l,room,e⟩:=x.flag;have il:=(aa.1 hf).1;refine ⟨room,e,?_,Hr hf,il⟩;simp only [idxAddrV];rw [pQ];simp
theorem either_ok (h:AHeap) (b:Bool) (x y:Int):run T 118 [.bool b,iQ x,iQ y] h=some (iQ (if b=true then x else y),h):=by refine run_eq Xp ?_;cases b<;>simp [TS]
theorem setm_at {m':Mc} (hi:w.all[i]?=some m):(w.az i m').all[i]?=some m':=ax (aa.1 hi).1
theorem setm_twice {m' m'':Mc}:(w.az i m').az i m''=w.az i m'':=by simp [W.az,List.set_set]
theorem wsettle_ok (x:WorldAt h S w X) (hi:w.all[i]?=some m) :∃ h',run T 156 [.ptr S.a 0,iQ (i:Int)] h=some (.tuple [],h')/\WorldAt h' S (w.az i (settleM m)) X/\KX X h h':=by
 have ⟨own,x⟩:=x;have ⟨b,cs,room,rv,F,u,room0,hb,hc,hx,up,v,hF,hd,⟨f0,f1,f2,f3,f4,f5,f6,f7,f8,f9,f10,f11⟩,⟨l0,ll⟩,hrl,na⟩:=x.mz hi
 have hdp:∀ y,(h.put S.ao y).get S.a=some (Qc (headA S w u) room0):=fun y=>by rw [get_put_ne na,hd]
 refine run_val WZ ?_;by_cases hr:0<m.rest.length
 . simp [N6,-writeOf_some,hd,hx,hc,wrI,l0,f9,hrl,hr,settleM];exact x.bY (m':={m with pl:=18}) hi hc hb (up.place 18) v hF
 . have hr0:m.rest=[]:=aG (by omega);rw [hr0] at hrl;simp at hrl;cases hs:m.sp<;>rw [hs] at f7
   . rw [show settleM m={m with pl:=21} by simp [settleM,hr0,hs]];simp [N6,-writeOf_some,-getElem?_pos,hd,hx,hc,wrI,l0,f9,f7,hrl];exact x.bY (m':={m with pl:=21}) hi hc hb (up.place 21) v hF
   . rw [show settleM m={m with pl:=19} by simp [settleM,hr0,hs]];simp [N6,-writeOf_some,-getElem?_pos,hd,hx,hc,wrI,l0,f9,f7,hrl];exact x.bY (m':={m with pl:=19}) hi hc hb (up.place 19) v hF
theorem wsteal_ok (x:WorldAt h S w X) (hi:w.all[i]?=some m) (k:Int):∃ h',run T 116 [.ptr S.a 0,iQ (i:Int),iQ k] h=some (.tuple [],h')/\WorldAt h' S (w.az i (stealM m k w.P)) X/\KX X h h':=by
 have ⟨own,x⟩:=x;have ⟨b,cs,room,rv,F,u,room0,hb,hc,hx,up,v,hF,hd,⟨f0,f1,f2,f3,f4,f5,f6,f7,f8,f9,f10,f11⟩,⟨l0,ll⟩,hrl,na⟩:=x.mz hi
 have hdp:∀ y,(h.put S.ao y).get S.a=some (Qc (headA S w u) room0):=fun y=>by rw [get_put_ne na,hd]
 refine run_val Xq ?_;have u1:=up.int 6 k;by_cases hr:(w.P:Int)<=k
 . simp [Qy,-writeOf_some,hd,hdp,hx,hc,wrI,ll,l0,hr,stealM,-List.set_set];exact x.bY (m':={m with ii:=k,pl:=7}) hi hc hb ((u1.place 6).place 7) v hF
 . simp [Qy,-writeOf_some,hd,hdp,hx,hc,wrI,ll,l0,hr,stealM,-List.set_set];exact x.bY (m':={m with ii:=k,pl:=6}) hi hc hb (u1.place 6) v hF
theorem wdeliver_ok (x:WorldAt h S w X) (hi:w.all[i]?=some m) (k:Int):∃ h',run T 107 [.ptr S.a 0,iQ (i:Int),iQ k] h=some (.tuple [],h')/\WorldAt h' S (w.az i (deliverM m k)) X/\KX X h h':=by
 have ⟨own,x⟩:=x;have ⟨b,cs,room,rv,F,u,room0,hb,hc,hx,up,v,hF,hd,⟨f0,f1,f2,f3,f4,f5,f6,f7,f8,f9,f10,f11⟩,⟨l0,ll⟩,hrl,na⟩:=x.mz hi;have hdp:∀ y,(h.put S.ao y).get S.a=some (Qc (headA S w u) room0):=fun y=>by rw [get_put_ne na,hd]
 refine run_val Xw ?_;simp [TX,-writeOf_some,hd,hx,hc,wrI,ll,l0,deliverM];exact x.bY (m':=deliverM m k) hi hc hb ((up.int 11 k).place 25) v hF
def searchedM (m:Mc) (is:Bool) (P:Nat):Mc:=
 if is=true then takeM m else if m.pl=2 then {m with pl:=3} else if m.pl=3 then {m with pl:=4} else if m.pl=7 then {m with pl:=8} else if m.pl=6 then stealM m (m.ii+1) P else if m.sp=true then stealM m 1 P else {m with pl:=5}
theorem ju (x:WorldAt h S w X) (hi:w.all[i]?=some m) (is:Bool) (hii:-1000<=m.ii/\m.ii<=1000):∃ h',run T 155 [.ptr S.a 0,iQ (i:Int),.bool is] h=some (.tuple [],h')/\WorldAt h' S (w.az i (searchedM m is w.P)) X/\KX X h h':=by
 have ⟨own,x⟩:=x;have ⟨b,cs,room,rv,F,u,room0,hb,hc,hx,up,v,hF,hd,⟨f0,f1,f2,f3,f4,f5,f6,f7,f8,f9,f10,f11⟩,⟨l0,ll⟩,hrl,na⟩:=x.mz hi
 have hdp:∀ y,(h.put S.ao y).get S.a=some (Qc (headA S w u) room0):=fun y=>by rw [get_put_ne na,hd]
 refine run_val W1 ?_
 have xw:WorldAt h S w X:=⟨own,x⟩
 cases is with
 | true=>have ⟨h1,e1,x1,k1⟩:=wtake_ok xw hi;simp [F155,hd,hx,e1,searchedM];exact ⟨x1,k1⟩
 | false=>
  by_cases p2:m.pl=2
  . rw [p2] at f0;simp [F155,-writeOf_some,-getElem?_pos,hd,hx,hc,wrI,l0,f0,p2,searchedM];exact x.bY (m':={m with pl:=3}) hi hc hb (up.place 3) v hF
  by_cases p3:m.pl=3
  . rw [p3] at f0;simp [F155,-writeOf_some,-getElem?_pos,hd,hx,hc,wrI,l0,f0,p3,searchedM];exact x.bY (m':={m with pl:=4}) hi hc hb (up.place 4) v hF
  by_cases p7:m.pl=7
  . rw [p7] at f0;simp [F155,-writeOf_some,-getElem?_pos,hd,hx,hc,wrI,l0,f0,p7,searchedM];exact x.bY (m':={m with pl:=8}) hi hc hb (up.place 8) v hF
  by_cases p6:m.pl=6
  . rw [p6] at f0;have ⟨h1,e1,x1,k1⟩:=wsteal_ok xw hi (m.ii+1);have ew:wQ (m.ii+1)=m.ii+1:=rQ;simp [F155,-writeOf_some,-getElem?_pos,hd,hx,hc,f0,p6,f6,ew,e1,searchedM];exact ⟨x1,k1⟩
  cases hs:m.sp<;>rw [hs] at f7
  . rw [show searchedM m false w.P={m with pl:=5} by simp [searchedM,p2,p3,p6,p7,hs]];simp [F155,-writeOf_some,-getElem?_pos,hd,hx,hc,wrI,l0,f0,p2,p3,p6,p7,f7];exact x.bY (m':={m with pl:=5}) hi hc hb (up.place 5) v hF
  . have ⟨h1,e1,x1,k1⟩:=wsteal_ok xw hi 1;rw [show searchedM m false w.P=stealM m 1 w.P by simp [searchedM,p2,p3,p6,p7,hs]];simp [F155,-writeOf_some,-getElem?_pos,hd,hx,hc,f0,p2,p3,p6,p7,f7,e1];exact ⟨x1,k1⟩
def thenM (m:Mc) (is:Bool) (P:Nat):Mc:=
 if m.pl=2\/m.pl=3\/m.pl=4\/m.pl=6\/m.pl=7 then searchedM m is P
 else if m.pl=9 then {m with ii:=m.ii+1,pl:=if is=true then 11 else if m.ii+1<(P:Int) then 9 else 10}
 else if m.pl=10 then {m with pl:=if is=true then 11 else 13}
 else if m.pl=11 then {m with pl:=if is=true then 12 else 13}
 else if m.pl=13 then {m with pl:=if m.sp=true then 4 else if is=true then 14 else 16}
 else if m.pl=14 then {m with pl:=if is=true then 15 else 16}
 else if m.pl=15 then (if is=true then deliverM m 13 else {m with pl:=16})
 else if m.pl=17\/m.pl=18 then settleM m
 else if m.pl=28 then settleM {m with bk:=0}
 else if m.pl=27 then {m with pl:=21}
 else if m.pl=23 then {m with pl:=if 0<=m.tg then 24 else m.bk}
 else if m.pl=25 then {m with pl:=if is=true then 26 else m.af}
 else if m.pl=29\/m.pl=30 then (if 0<=m.g then {m with pl:=0} else if is=true then deliverM m 1 else {m with pl:=1})
 else m
theorem LF (x:WorldAt h S w X) (hi:w.all[i]?=some m) {is:Bool} (hf:w.flag[i]?=some is) (hp:m.pl=2) (hii:-1000<=m.ii/\m.ii<=1000):∃ h',run T 114 [.ptr S.a 0,iQ (i:Int)] h=some (.tuple [],h')/\WorldAt h' S (w.az i (thenM m is w.P)) X/\KX X h h':=by
 have ⟨own,x⟩:=x;have ⟨b,cs,room,rv,F,u,room0,hb,hc,hx,up,v,hF,hd,⟨f0,f1,f2,f3,f4,f5,f6,f7,f8,f9,f10,f11⟩,⟨l0,ll⟩,hrl,na⟩:=x.mz hi;have hdp:∀ y,(h.put S.ao y).get S.a=some (Qc (headA S w u) room0):=fun y=>by rw [get_put_ne na,hd]
 have ⟨room2,hfl,hfx,hfa,hfL⟩:=x.fl hf;have xw:WorldAt h S w X:=⟨own,x⟩
 refine run_val jG ?_;rw [hp] at f0;have ⟨h1,e1,x1,k1⟩:=ju xw hi is hii;simp [F114,hd,hx,hc,hfl,hfx,hfa,f0,hp,thenM,e1];exact ⟨x1,k1⟩
theorem LD (x:WorldAt h S w X) (hi:w.all[i]?=some m) {is:Bool} (hf:w.flag[i]?=some is) (hp:m.pl=3) (hii:-1000<=m.ii/\m.ii<=1000):∃ h',run T 114 [.ptr S.a 0,iQ (i:Int)] h=some (.tuple [],h')/\WorldAt h' S (w.az i (thenM m is w.P)) X/\KX X h h':=by
 have ⟨own,x⟩:=x;have ⟨b,cs,room,rv,F,u,room0,hb,hc,hx,up,v,hF,hd,⟨f0,f1,f2,f3,f4,f5,f6,f7,f8,f9,f10,f11⟩,⟨l0,ll⟩,hrl,na⟩:=x.mz hi;have hdp:∀ y,(h.put S.ao y).get S.a=some (Qc (headA S w u) room0):=fun y=>by rw [get_put_ne na,hd]
 have ⟨room2,hfl,hfx,hfa,hfL⟩:=x.fl hf;have xw:WorldAt h S w X:=⟨own,x⟩
 refine run_val jG ?_;rw [hp] at f0;have ⟨h1,e1,x1,k1⟩:=ju xw hi is hii;simp [F114,hd,hx,hc,hfl,hfx,hfa,f0,hp,thenM,e1];exact ⟨x1,k1⟩
theorem LC (x:WorldAt h S w X) (hi:w.all[i]?=some m) {is:Bool} (hf:w.flag[i]?=some is) (hp:m.pl=4) (hii:-1000<=m.ii/\m.ii<=1000):∃ h',run T 114 [.ptr S.a 0,iQ (i:Int)] h=some (.tuple [],h')/\WorldAt h' S (w.az i (thenM m is w.P)) X/\KX X h h':=by
 have ⟨own,x⟩:=x;have ⟨b,cs,room,rv,F,u,room0,hb,hc,hx,up,v,hF,hd,⟨f0,f1,f2,f3,f4,f5,f6,f7,f8,f9,f10,f11⟩,⟨l0,ll⟩,hrl,na⟩:=x.mz hi;have hdp:∀ y,(h.put S.ao y).get S.a=some (Qc (headA S w u) room0):=fun y=>by rw [get_put_ne na,hd]
 have ⟨room2,hfl,hfx,hfa,hfL⟩:=x.fl hf;have xw:WorldAt h S w X:=⟨own,x⟩
 refine run_val jG ?_;rw [hp] at f0;have ⟨h1,e1,x1,k1⟩:=ju xw hi is hii;simp [F114,hd,hx,hc,hfl,hfx,hfa,f0,hp,thenM,e1];exact ⟨x1,k1⟩
theorem LB (x:WorldAt h S w X) (hi:w.all[i]?=some m) {is:Bool} (hf:w.flag[i]?=some is) (hp:m.pl=6) (hii:-1000<=m.ii/\m.ii<=1000):∃ h',run T 114 [.ptr S.a 0,iQ (i:Int)] h=some (.tuple [],h')/\WorldAt h' S (w.az i (thenM m is w.P)) X/\KX X h h':=by
 have ⟨own,x⟩:=x;have ⟨b,cs,room,rv,F,u,room0,hb,hc,hx,up,v,hF,hd,⟨f0,f1,f2,f3,f4,f5,f6,f7,f8,f9,f10,f11⟩,⟨l0,ll⟩,hrl,na⟩:=x.mz hi;have hdp:∀ y,(h.put S.ao y).get S.a=some (Qc (headA S w u) room0):=fun y=>by rw [get_put_ne na,hd]
 have ⟨room2,hfl,hfx,hfa,hfL⟩:=x.fl hf;have xw:WorldAt h S w X:=⟨own,x⟩
 refine run_val jG ?_;rw [hp] at f0;have ⟨h1,e1,x1,k1⟩:=ju xw hi is hii;simp [F114,hd,hx,hc,hfl,hfx,hfa,f0,hp,thenM,e1];exact ⟨x1,k1⟩
theorem LA (x:WorldAt h S w X) (hi:w.all[i]?=some m) {is:Bool} (hf:w.flag[i]?=some is) (hp:m.pl=7) (hii:-1000<=m.ii/\m.ii<=1000):∃ h',run T 114 [.ptr S.a 0,iQ (i:Int)] h=some (.tuple [],h')/\WorldAt h' S (w.az i (thenM m is w.P)) X/\KX X h h':=by
 have ⟨own,x⟩:=x;have ⟨b,cs,room,rv,F,u,room0,hb,hc,hx,up,v,hF,hd,⟨f0,f1,f2,f3,f4,f5,f6,f7,f8,f9,f10,f11⟩,⟨l0,ll⟩,hrl,na⟩:=x.mz hi;have hdp:∀ y,(h.put S.ao y).get S.a=some (Qc (headA S w u) room0):=fun y=>by rw [get_put_ne na,hd]
 have ⟨room2,hfl,hfx,hfa,hfL⟩:=x.fl hf;have xw:WorldAt h S w X:=⟨own,x⟩
 refine run_val jG ?_;rw [hp] at f0;have ⟨h1,e1,x1,k1⟩:=ju xw hi is hii;simp [F114,hd,hx,hc,hfl,hfx,hfa,f0,hp,thenM,e1];exact ⟨x1,k1⟩
theorem H2 (x:WorldAt h S w X) (hi:w.all[i]?=some m) {is:Bool} (hf:w.flag[i]?=some is) (hp:m.pl=17) :∃ h',run T 114 [.ptr S.a 0,iQ (i:Int)] h=some (.tuple [],h')/\WorldAt h' S (w.az i (thenM m is w.P)) X/\KX X h h':=by
 have ⟨own,x⟩:=x;have ⟨b,cs,room,rv,F,u,room0,hb,hc,hx,up,v,hF,hd,⟨f0,f1,f2,f3,f4,f5,f6,f7,f8,f9,f10,f11⟩,⟨l0,ll⟩,hrl,na⟩:=x.mz hi;have hdp:∀ y,(h.put S.ao y).get S.a=some (Qc (headA S w u) room0):=fun y=>by rw [get_put_ne na,hd]
 have ⟨room2,hfl,hfx,hfa,hfL⟩:=x.fl hf;have xw:WorldAt h S w X:=⟨own,x⟩
 refine run_val jG ?_;rw [hp] at f0;have ⟨h1,e1,x1,k1⟩:=wsettle_ok xw hi;simp [F114,hd,hx,hc,hfl,hfx,hfa,f0,hp,thenM,e1];exact ⟨x1,k1⟩
theorem H0 (x:WorldAt h S w X) (hi:w.all[i]?=some m) {is:Bool} (hf:w.flag[i]?=some is) (hp:m.pl=18) :∃ h',run T 114 [.ptr S.a 0,iQ (i:Int)] h=some (.tuple [],h')/\WorldAt h' S (w.az i (thenM m is w.P)) X/\KX X h h':=by
 have ⟨own,x⟩:=x;have ⟨b,cs,room,rv,F,u,room0,hb,hc,hx,up,v,hF,hd,⟨f0,f1,f2,f3,f4,f5,f6,f7,f8,f9,f10,f11⟩,⟨l0,ll⟩,hrl,na⟩:=x.mz hi;have hdp:∀ y,(h.put S.ao y).get S.a=some (Qc (headA S w u) room0):=fun y=>by rw [get_put_ne na,hd]
 have ⟨room2,hfl,hfx,hfa,hfL⟩:=x.fl hf;have xw:WorldAt h S w X:=⟨own,x⟩
 refine run_val jG ?_;rw [hp] at f0;have ⟨h1,e1,x1,k1⟩:=wsettle_ok xw hi;simp [F114,hd,hx,hc,hfl,hfx,hfa,f0,hp,thenM,e1];exact ⟨x1,k1⟩
theorem HX (x:WorldAt h S w X) (hi:w.all[i]?=some m) {is:Bool} (hf:w.flag[i]?=some is) (hp:m.pl=28) :∃ h',run T 114 [.ptr S.a 0,iQ (i:Int)] h=some (.tuple [],h')/\WorldAt h' S (w.az i (thenM m is w.P)) X/\KX X h h':=by
 have ⟨own,x⟩:=x;have ⟨b,cs,room,rv,F,u,room0,hb,hc,hx,up,v,hF,hd,⟨f0,f1,f2,f3,f4,f5,f6,f7,f8,f9,f10,f11⟩,⟨l0,ll⟩,hrl,na⟩:=x.mz hi;have hdp:∀ y,(h.put S.ao y).get S.a=some (Qc (headA S w u) room0):=fun y=>by rw [get_put_ne na,hd]
 have ⟨room2,hfl,hfx,hfa,hfL⟩:=x.fl hf;have xw:WorldAt h S w X:=⟨own,x⟩
 refine run_val jG ?_;rw [hp] at f0;have ⟨y1,k1⟩:=x.bY (m':={m with bk:=0}) hi hc hb (up.int 10 0) v hF;have ⟨h1,e1,x1,k2⟩:=wsettle_ok y1 (setm_at hi);rw [setm_twice] at x1;simp [F114,-writeOf_some,hd,hx,hc,wrI,ll,hfl,hfx,hfa,f0,hp,thenM,e1];exact ⟨x1,k1.trans k2⟩
theorem HY (x:WorldAt h S w X) (hi:w.all[i]?=some m) {is:Bool} (hf:w.flag[i]?=some is) (hp:m.pl=27) :∃ h',run T 114 [.ptr S.a 0,iQ (i:Int)] h=some (.tuple [],h')/\WorldAt h' S (w.az i (thenM m is w.P)) X/\KX X h h':=by
 have ⟨own,x⟩:=x;have ⟨b,cs,room,rv,F,u,room0,hb,hc,hx,up,v,hF,hd,⟨f0,f1,f2,f3,f4,f5,f6,f7,f8,f9,f10,f11⟩,⟨l0,ll⟩,hrl,na⟩:=x.mz hi;have hdp:∀ y,(h.put S.ao y).get S.a=some (Qc (headA S w u) room0):=fun y=>by rw [get_put_ne na,hd]
 have ⟨room2,hfl,hfx,hfa,hfL⟩:=x.fl hf;have xw:WorldAt h S w X:=⟨own,x⟩
 refine run_val jG ?_;rw [hp] at f0;simp [F114,-writeOf_some,-getElem?_pos,hd,hx,hc,wrI,l0,hfl,hfx,hfa,f0,hp,thenM];exact x.bY (m':={m with pl:=21}) hi hc hb (up.place 21) v hF
theorem HZ (x:WorldAt h S w X) (hi:w.all[i]?=some m) {is:Bool} (hf:w.flag[i]?=some is) (hp:m.pl=23) :∃ h',run T 114 [.ptr S.a 0,iQ (i:Int)] h=some (.tuple [],h')/\WorldAt h' S (w.az i (thenM m is w.P)) X/\KX X h h':=by
 have ⟨own,x⟩:=x;have ⟨b,cs,room,rv,F,u,room0,hb,hc,hx,up,v,hF,hd,⟨f0,f1,f2,f3,f4,f5,f6,f7,f8,f9,f10,f11⟩,⟨l0,ll⟩,hrl,na⟩:=x.mz hi
 have hdp:∀ y,(h.put S.ao y).get S.a=some (Qc (headA S w u) room0):=fun y=>by rw [get_put_ne na,hd]
 have ⟨room2,hfl,hfx,hfa,hfL⟩:=x.fl hf
 have xw:WorldAt h S w X:=⟨own,x⟩
 refine run_val jG ?_;rw [hp] at f0;by_cases ht:0<=m.tg
 . simp [F114,-writeOf_some,-getElem?_pos,hd,hx,hc,wrI,l0,hfl,hfx,hfa,f0,hp,thenM,either_ok,f5,f10,ht];exact x.bY (m':={m with pl:=24}) hi hc hb (up.place 24) v hF
 . simp [F114,-writeOf_some,-getElem?_pos,hd,hx,hc,wrI,l0,hfl,hfx,hfa,f0,hp,thenM,either_ok,f5,f10,ht];exact x.bY (m':={m with pl:=m.bk}) hi hc hb (up.place m.bk) v hF
end
section
variable {h h' h'':AHeap} {S:jb} {w:W} {X F G:List Nat} {own:Nat->Nat} {i:Nat} {m:Mc}
def foundW (w:W) (i:Nat) (m:Mc) (l:List Int):W:=match l with
 | []=>w.aL i false
 | g::r=>(w.aL i true).az i {m with got:=g,rest:=r}
theorem found_ok (x:WorldAt h S w X) (hi:w.all[i]?=some m) {l:List Int} {u:AV} (vl:dz h 1 (intsA l) F u) (hFX:∀ t∈F,t∈X) (hb':l.length<=1000):∃ h',run T 142 [.ptr S.a 0,iQ (i:Int),u] h=some (.tuple [],h')/\WorldAt h' S (foundW w i m l) X/\KX X h h':=by
 have ⟨own,x⟩:=x;have ⟨b,cs,room,rv,Fr,hb,hc,hx,up,v,hF⟩:=x.fA hi;have ⟨ua,room0,hd⟩:=x.hd;have ⟨l0,ll⟩:=up.foc.lt
 obtain ⟨is,hf⟩:∃ is,w.flag[i]?=some is:=⟨_,ah (show i<w.flag.length by have:=(aa.1 hi).1;have:=x.lens;omega)⟩
 have ⟨room2,hfl,hfx,hfa,hfL⟩:=x.fl hf;have hl:=vl.my;simp at hl;have nf:S.fo≠S.ao:=fun e=>by have:=x.flag.1;rw [e,x.all.1] at this;omega
 have nfa:S.a≠S.fo:=fun e=>by have:=x.ca;rw [e,x.flag.1] at this;omega
 have nXf:∀ t∈F,t≠S.fo:=fun t ht e=>by have:=(x.out t (hFX t ht)).2;rw [e,x.flag.1] at this;omega
 have xf:∀ z,eR (h.put S.fo (Qc (boolsA (w.flag.set i z)) room2)) S (w.aL i z) X own:=fun z=>x.Dr (by simp);have kf:∀ z,Keep [S.fo] h (h.put S.fo (Qc (boolsA (w.flag.set i z)) room2)):=fun z=>Keep.put (by simp);have kx:∀ z,KX X h (h.put S.fo (Qc (boolsA (w.flag.set i z)) room2)):=fun z=>x.kx (c:=9) (kf z) (by simpa using x.flag.1) (by omega);refine run_val W8 ?_
 cases l with
 | nil=>simp [-writeOf_some,F142,hd,hx,wrB,hl,hfl,hfx,hfL,boolsA_set,foundW];exact ⟨⟨own,xf false⟩,kx false⟩
 | cons g r=>
  have hg0:(intsA (g::r))[0]?=some (iQ g):=rfl;have v1:=vl.keep (kf true) (by simpa using nXf);have ⟨j,o,q1,q2,q3⟩:=v1.vM hg0;have q1:idxAddrV 1 none u (iQ 0)=some (.ptr j o):=q1;have ⟨u',cu,vu⟩:=v1.slice (by omega) (n:=r.length+1) (a:=1) (b:=r.length+1) (lo:=some (iQ 1)) (hi:=none) (by simp) (by simp) (by simp) (by omega) (aq _);have vu:dz (h.put S.fo (Qc (boolsA (w.flag.set i true)) room2)) 1 (intsA r) F u':=by
   have e:(List.drop (1*1) (intsA (g::r))).take ((r.length+1-1)*1)=intsA r:=by show List.take ((r.length+1-1)*1) (intsA r)=intsA r;exact aW (by simp)
   rw [e] at vu;exact vu
  have ⟨s',h2,F',e2,v2,k2,f2⟩:=lZ vu (by simp at hb';omega);have x2:=(xf true).alloc k2 8;have hc1:(h.put S.fo (Qc (boolsA (w.flag.set i true)) room2)).get S.ao=some (Qc cs room):=by rw [get_put_ne (aY nf),hc]
  have hc2:=k2.obj hc1 (by simp);have v1':=v1.keep k2 (by simp);have ⟨j',o',p1,p2,p3⟩:=v1'.vM hg0;have p1:idxAddrV 1 none u (iQ 0)=some (.ptr j' o'):=p1;rw [q1] at p1;cases p1;have ⟨z1,z2⟩:=mB v2;have ⟨y3,k3⟩:=x2.bY (m':={m with got:=g,rest:=r}) hi hc2 hb ((up.int 4 g).rest r s') v2.view (fun t ht=>ext_new own (f2 t ht));have wS:∀ z,z<cs.length->writeOf (h2.put S.ao (Qc (cs.set (b+4) (iQ g)) room)) S.ao (some (Qc (cs.set (b+4) (iQ g)) room)) z [s']=some ((h2.put S.ao (Qc (cs.set (b+4) (iQ g)) room)).put S.ao (Qc ((cs.set (b+4) (iQ g)).set z s') room)):=fun z hz=>wr1 (by simpa using hz) z2;have hl2:(0:Int)<(r.length:Int)+1:=by omega
  simp [-writeOf_some,F142,hd,hx,wrI,wrB,hl,hl2,hfl,hfx,hfL,boolsA_set,foundW,q1,q3,p3,cu,e2,hc2,z1,ll,wS];exact ⟨y3,((kx true).trans ((xf true).YQ k2)).trans k3⟩
theorem WorldAt.Oh (x:WorldAt h S w X) (k:Keep [] h h') (hF:∀ t∈F,h.size<=t/\t<h'.size):WorldAt h' S w (F++X)/\KX X h h':=by have ⟨own,x⟩:=x;exact ⟨⟨_,(x.alloc k 0).Oi fun t ht=>⟨(hF t ht).2,ext_new own (hF t ht).1⟩⟩,x.YQ k⟩
theorem WorldAt.sub {Y:List Nat} (x:WorldAt h S w X) (hY:∀ t∈Y,t∈X):WorldAt h S w Y:=by have ⟨own,x⟩:=x;exact ⟨own,x.abu hY⟩
theorem WorldAt.push (x:WorldAt h S w X) (o:AObj):WorldAt (h.push o) S w (h.size::X)/\KX X h (h.push o):=x.Oh (F:=[h.size]) Keep.push (by simp)
theorem WorldAt.still (x:WorldAt h S w X) (k:Keep [] h h'):WorldAt h' S w X/\KX X h h':=x.Oh (F:=[]) k (by simp)
def oneW (w:W) (i:Nat) (m:Mc) (g:Int) (is:Bool):W:=foundW w i m (if is=true then [g] else [])
theorem Gx (x:WorldAt h S w X) (hi:w.all[i]?=some m) (g:Int) (is:Bool):∃ h',run T 140 [.ptr S.a 0,iQ (i:Int),iQ g,.bool is] h=some (.tuple [],h')/\WorldAt h' S (oneW w i m g is) X/\KX X h h':=by
 refine run_val Xa ?_;cases is with
 | false=>have ⟨h1,e1,x1,k1⟩:=found_ok x hi (l:=[]) (.nil rfl) (by simp) (by simp);simp [F140,e1];exact ⟨x1,k1⟩
 | true=>have ⟨x0,k0⟩:=x.push (Qc [iQ g] none);have ⟨h1,e1,x1,k1⟩:=found_ok x0 hi (l:=[g]) (vU (h:=h) (x:=iQ g)) (by simp) (by simp);simp [F140,e1];exact ⟨x1.sub (by simp;intro t ht;exact dx ht),k0.trans (k1.sub (by simp;intro t ht;exact dx ht))⟩
def W.cd (w:W):W:={w with lg:=w.lg+1}
theorem rG (x:WorldAt h S w X) (hi:w.all[i]?=some m) {k g z:Int} (hr:rB (k,g,(i:Int),m.p,z)=true) (hl:w.lg<=1000000000):∃ h',run T 117 [.ptr S.a 0,iQ (i:Int),iQ k,iQ g,iQ z] h=some (.tuple [],h')/\WorldAt h' S w.cd X/\KX X h h':=by
 have ⟨own,x⟩:=x;have ⟨b,cs,room,rv,Fr,hb,hc,hx,up,v,hF⟩:=x.fA hi;have ⟨f0,f1,f2,f3,f4,f5,f6,f7,f8,f9,f10,f11⟩:=up.foc.facts;have ⟨u,F,hh⟩:=x.head;have ⟨room0,hd⟩:=hh.at_;have ⟨es,le,ve⟩:=hh.log;have ⟨h1,e1,u',F',g1,v1,n1,k1,f'⟩:=Is x.al hd (o:=15) yg ve hh.ni (by omega) (k,g,(i:Int),m.p,z) hr;have x1:=x.Og hh (u':=u') (room:=room0) g1 v1 n1 k1 f';have hw:({w with lg:=(es++[(k,g,(i:Int),m.p,z)]).length}:W)=w.cd:=by simp [W.cd,le]
 rw [hw] at x1;have kx:=x.kx (c:=1) k1 (by intro t ht;rcases aD.1 ht with rfl | ht;exact hh.ca;exact hh.cF t ht) (by omega);refine run_val T_117 ?_;simp [F117,hd,hx,hc,f1,e1];exact ⟨⟨_,x1⟩,kx⟩
end
section
abbrev Iu (N S:Nat):AV:=.agg [.int .i64 (N:Int),.int .i64 (S:Int)]
section
variable {h:AHeap} {i j N S:Nat} {ws:List Int} {cnt:Int} {t:Int}
theorem OK (m:MemAt h i j ws cnt) (hN:N<ws.length) (h0:0<=wd ws N) (h1:wd ws N<18446744073709551616):∃ h',run T 136 [Iu N S,.ptr i 0] h=some (uQ (wd ws N),h')/\MemAt h' i j (ws.set N ((wd ws N+1) % 18446744073709551616)) (up cnt)/\Keep [i,j] h h':=by
 have ⟨h',e,m',k⟩:=qk (m.keep (Keep.push (F:=[]) (x:=.cells false [iQ (N:Int),iQ (S:Int)] none)) (by simp) (by simp)) (k:=(N:Int)) (by omega) (by omega) 1;rw [aC] at e m';refine ⟨h',run_eq Xe ?_,m',(Keep.push (F:=[i,j])).trans' k⟩;have hx:IntKind.wrap .u64 ((wd ws N+1) % 18446744073709551616-1)=wd ws N:=by rw [eP];omega
 simp [TK,e,hx]
theorem NQ (m:MemAt h i j ws cnt) (hS:S<ws.length):∃ h',run T 166 [Iu N S,.ptr i 0,uQ t] h=some (uQ ((t-wd ws S) % 18446744073709551616),h')/\MemAt h' i j ws (up cnt)/\Keep [i,j] h h':=by have ⟨h',e,m',k⟩:=Eh (m.keep (Keep.push (F:=[]) (x:=.cells false [iQ (N:Int),iQ (S:Int)] none)) (by simp) (by simp)) (k:=(S:Int)) (by omega) (by omega);rw [aC] at e;refine ⟨h',run_eq WT ?_,m',(Keep.push (F:=[i,j])).trans' k⟩;simp [Tz,e,eP]
theorem CN (m:MemAt h i j ws cnt) (hS:S<ws.length):∃ h',run T 137 [Iu N S,.ptr i 0,uQ t] h=some (.bool (decide ((t-wd ws S) % 18446744073709551616=0)),h')/\MemAt h' i j ws (up cnt)/\Keep [i,j] h h':=by have ⟨h',e,m',k⟩:=NQ (m.keep (Keep.push (F:=[]) (x:=.cells false [iQ (N:Int),iQ (S:Int)] none)) (by simp) (by simp)) (N:=N) (t:=t) hS;refine ⟨h',run_eq Xd ?_,m',(Keep.push (F:=[i,j])).trans' k⟩;simp [TJ,e]
theorem M7 (m:MemAt h i j ws cnt) (hS:S<ws.length) (ht:(t-wd ws S) % 18446744073709551616=0):∃ h',run T 138 [Iu N S,.ptr i 0,uQ t] h=some (.bool true,h')/\MemAt h' i j (ws.set S ((t+1) % 18446744073709551616)) (up (up cnt))/\Keep [i,j] h h':=by have ⟨h1,e,m1,k⟩:=CN (m.keep (Keep.push (F:=[]) (x:=.cells false [iQ (N:Int),iQ (S:Int)] none)) (by simp) (by simp)) (N:=N) (t:=t) hS;have ⟨h2,e2,m2,k2⟩:=Au m1 (k:=(S:Int)) (by omega) (by omega) ((t+1) % 18446744073709551616);rw [aC] at m2;have hb:h1.get h.size=some (Qc [iQ (N:Int),iQ (S:Int)] none):=k.obj ak (by have:=m.lt;simp;omega);refine ⟨h2,run_eq Xc ?_,m2,((Keep.push (F:=[i,j])).trans' k).trans' k2⟩;simp [TI,e,ht,hb,eP,e2]
end
def tk (x:Int) (c:Nat):List Int:=(List.range c).map fun (t:Nat)=>(x+(t:Int)) % 18446744073709551616
end
section
variable {h:AHeap} {s i j N S:Nat} {ws:List Int} {cnt st tk tm:Int} {f:AV}
theorem NO (h:AHeap) (N S:Int):∃ h',run T 110 [.agg [iQ N,iQ S]] h=some (.agg [iQ N,iQ S,iQ 0,uQ 0,iQ 0],h')/\Keep [] h h':=by
 refine run_val Xt ?_;have e1:((h.push (Qc [iQ N,iQ S] none)).push (Qc [iQ 0,iQ 0,iQ 0,uQ 0,iQ 0] none)).get h.size=some (Qc [iQ N,iQ S] none):=aJ ak;have e2:((h.push (Qc [iQ N,iQ S] none)).push (Qc [iQ 0,iQ 0,iQ 0,uQ 0,iQ 0] none)).get (h.size+1)=some (Qc [iQ 0,iQ 0,iQ 0,uQ 0,iQ 0] none):=by rw [<- dH (h:=h) (x:=.cells false [iQ N,iQ S] none),ak]
 simp [TV,e1,e2,splice];exact (Keep.push.trans' Keep.push).trans (Keep.put (F:=[h.size+1]) (by simp)) (by simp)
end
section
variable {h h' h'':AHeap} {S:jb} {w:W} {X F G:List Nat} {own:Nat->Nat} {i:Nat} {m:Mc}
theorem IZ.sec {cs:List AV} {b:Nat} {m:Mc} {rv:AV} (f:IZ cs b m rv):cs[b+13]?=some (iQ m.ln)/\cs[b+14]?=some (iQ m.ls)/\cs[b+15]?=some (iQ m.st)/\cs[b+16]?=some (uQ m.tk)/\cs[b+17]?=some (iQ m.tm):=
 ⟨f.at_ 13 (by omega),f.at_ 14 (by omega),f.at_ 15 (by omega),f.at_ 16 (by omega),f.at_ 17 (by omega)⟩
theorem sK {cs:List AV} {o:Nat} {x y:AV} (h0:cs[o]?=some x) (h1:cs[o+1]?=some y):(cs.drop o).take 2=[x,y]:=by have l1:=(aa.1 h1).1;rw [List.drop_eq_getElem_cons (by omega),List.drop_eq_getElem_cons (by omega)];rw [ah (by omega)] at h0 h1;simp at h0 h1;simp [h0,h1]
theorem eR.gC (x:eR h S w X own):∃ cnt,MemAt h S.mi S.mj w.ws cnt/\S.ao≠S.mi/\S.ao≠S.mj/\S.a≠S.mi/\S.a≠S.mj:=by have ⟨c1,c2,cnt,mm⟩:=x.mem;have ha:=x.all.1;have ca:=x.ca;exact ⟨cnt,mm,fun e=>by rw [e] at ha;omega,fun e=>by rw [e] at ha;omega,fun e=>by rw [e] at ca;omega,fun e=>by rw [e] at ca;omega⟩
theorem eR.Ja (x:eR h S w X own) (k:Keep [S.mi,S.mj] h h'):KX X h h':=x.kx (c:=2) k (by
 have ⟨c1,c2,cnt,mm⟩:=x.mem;intro t ht;simp at ht;rcases ht with rfl | rfl<;>assumption) (by omega)
theorem eR.mn (x:eR h S w X own) {ws':List Int} {cnt':Int} {m':Mc} {rv:AV} {cs cs':List AV} {room:Option (Nat×Nat)} {F:List Nat} {b:Nat} (mm:MemAt h' S.mi S.mj ws' cnt') (hl:ws'.length=w.ws.length) (k:Keep [S.mi,S.mj] h h') (hi:w.all[i]?=some m) (hc:h'.get S.ao=some (Qc cs room)) (hb:b=S.ab+i*18) (u:Up cs cs' b m' rv) (v:dz h' 1 (intsA m'.rest) F rv) (hF:∀ t∈F,own t=8/\t<h.size):WorldAt (h'.put S.ao (Qc cs' room)) S (({w with ws:=ws'}:W).az i m') X/\KX X h (h'.put S.ao (Qc cs' room)):=by have x1:=x.j7 0 mm hl k;have ⟨y,k2⟩:=x1.bY (m':=m') hi hc hb u v (fun t ht=>by rw [ext_same _ _ _ _ (hF t ht).2];exact (hF t ht).1);exact ⟨y,(x.Ja k).trans k2⟩
theorem JI (x:WorldAt h S w X) (hi:w.all[i]?=some m) {N Z:Nat} (hst:m.st=0) (hN:m.ln=N) (hZ:m.ls=Z) (hNl:N<w.ws.length) (h0:0<=wd w.ws N/\wd w.ws N<18446744073709551616) (f:AV) :
 ∃ h',run T 111 [.ptr S.ao (S.ab+i*18+13),.ptr S.mi 0,f] h=some (.bool false,h')/\WorldAt h' S (({w with ws:=w.ws.set N ((wd w.ws N+1) % 18446744073709551616)}:W).az i {m with tk:=wd w.ws N,st:=1}) X/\KX X h h':=by
 have ⟨own,x⟩:=x;have ⟨b,cs,room,rv,F,hb,hc,hx,up,v,hF⟩:=x.fA hi;have ⟨l0,ll⟩:=up.foc.lt;have ⟨g0,g1,g2,g3,g4⟩:=up.foc.sec;rw [<- hb];have ⟨cnt,mm,n1,n2,n3,n4⟩:=x.gC;have ⟨h1,e1,m1,k1⟩:=OK (S:=Z) mm hNl h0.1 h0.2;have hc1:=k1.obj hc (by simp [n1,n2]);have d2:=sK g0 g1;rw [hst] at g2;rw [hN,hZ] at d2;have ⟨y,ky⟩:=x.mn (m':={m with tk:=wd w.ws N,st:=1}) m1 (by simp) k1 hi hc1 hb ((up.tk (wd w.ws N)).int 15 1) (v.keep k1 (fun t ht=>by have:=hF t ht;have:=x.mem;simp;constructor<;>(rintro rfl;omega))) (fun t ht=>⟨hF t ht,v.lt t ht⟩);refine run_val T_111 ?_;simp [-writeOf_some,-getElem?_pos,F111,hc,hc1,g2,d2,e1,wrI,ll,fI,show b+15<=cs.length from ll 14 (by omega)];exact ⟨y,ky⟩
theorem Aw (x:WorldAt h S w X) (hi:w.all[i]?=some m) {N Z:Nat} (hst:m.st=1) (hN:m.ln=N) (hZ:m.ls=Z) (hZl:Z<w.ws.length) (ht:(m.tk-wd w.ws Z) % 18446744073709551616=0) (f:AV) :
 ∃ h',run T 111 [.ptr S.ao (S.ab+i*18+13),.ptr S.mi 0,f] h=some (.bool false,h')/\WorldAt h' S (w.az i {m with st:=2}) X/\KX X h h':=by
 have ⟨own,x⟩:=x;have ⟨b,cs,room,rv,F,hb,hc,hx,up,v,hF⟩:=x.fA hi;have ⟨l0,ll⟩:=up.foc.lt;have ⟨g0,g1,g2,g3,g4⟩:=up.foc.sec;rw [<- hb];have ⟨cnt,mm,n1,n2,n3,n4⟩:=x.gC;have ⟨h1,e1,m1,k1⟩:=CN (N:=N) (t:=m.tk) mm hZl;have hc1:=k1.obj hc (by simp [n1,n2]);have d2:=sK g0 g1;rw [hst] at g2;rw [hN,hZ] at d2;have ⟨y,ky⟩:=x.mn (m':={m with st:=2}) m1 rfl k1 hi hc1 hb (up.int 15 2) (v.keep k1 (fun t ht=>by have:=hF t ht;have:=x.mem;simp;constructor<;>(rintro rfl;omega))) (fun t ht=>⟨hF t ht,v.lt t ht⟩);refine run_val T_111 ?_;simp [hc1,g3,e1,ht,-writeOf_some,-getElem?_pos,F111,hc,g2,d2,wrI,ll,fI,show b+15<=cs.length from ll 14 (by omega)];exact ⟨y,ky⟩
theorem xe (x:WorldAt h S w X) (hi:w.all[i]?=some m) {N Z:Nat} (hst:m.st=1) (hN:m.ln=N) (hZ:m.ls=Z) (hZl:Z<w.ws.length) (ht:(m.tk-wd w.ws Z) % 18446744073709551616≠0) (f:AV) :
 ∃ h',run T 111 [.ptr S.ao (S.ab+i*18+13),.ptr S.mi 0,f] h=some (.bool false,h')/\WorldAt h' S w X/\KX X h h':=by
 have ⟨own,x⟩:=x;have ⟨b,cs,room,rv,F,hb,hc,hx,up,v,hF⟩:=x.fA hi;have ⟨l0,ll⟩:=up.foc.lt;have ⟨g0,g1,g2,g3,g4⟩:=up.foc.sec;rw [<- hb];have ⟨cnt,mm,n1,n2,n3,n4⟩:=x.gC;have ⟨h1,e1,m1,k1⟩:=CN (N:=N) (t:=m.tk) mm hZl;have hc1:=k1.obj hc (by simp [n1,n2]);have d2:=sK g0 g1;rw [hst] at g2;rw [hN,hZ] at d2;have y:=x.j7 0 m1 rfl k1;refine run_val T_111 ?_;simp [hc1,g3,e1,ht,F111,hc,g2,d2,fI,show b+15<=cs.length from ll 14 (by omega)];exact ⟨⟨_,y⟩,x.Ja k1⟩
theorem Ax (x:WorldAt h S w X) (hi:w.all[i]?=some m) {N Z:Nat} (hst:m.st=3) (hN:m.ln=N) (hZ:m.ls=Z) (hZl:Z<w.ws.length) (ht:(m.tk-wd w.ws Z) % 18446744073709551616=0) (f:AV) :
 ∃ h',run T 111 [.ptr S.ao (S.ab+i*18+13),.ptr S.mi 0,f] h=some (.bool true,h')/\WorldAt h' S (({w with ws:=w.ws.set Z ((m.tk+1) % 18446744073709551616)}:W).az i {m with st:=4}) X/\KX X h h':=by
 have ⟨own,x⟩:=x;have ⟨b,cs,room,rv,F,hb,hc,hx,up,v,hF⟩:=x.fA hi;have ⟨l0,ll⟩:=up.foc.lt;have ⟨g0,g1,g2,g3,g4⟩:=up.foc.sec;rw [<- hb];have ⟨cnt,mm,n1,n2,n3,n4⟩:=x.gC;have ⟨h1,e1,m1,k1⟩:=M7 (N:=N) mm hZl ht;have hc1:=k1.obj hc (by simp [n1,n2]);have d2:=sK g0 g1;rw [hst] at g2;rw [hN,hZ] at d2;have ⟨y,ky⟩:=x.mn (m':={m with st:=4}) m1 (by simp) k1 hi hc1 hb (up.int 15 4) (v.keep k1 (fun t ht=>by have:=hF t ht;have:=x.mem;simp;constructor<;>(rintro rfl;omega))) (fun t ht=>⟨hF t ht,v.lt t ht⟩);refine run_val T_111 ?_;simp [hc1,g3,e1,-writeOf_some,-getElem?_pos,F111,hc,g2,d2,wrI,ll,fI,show b+15<=cs.length from ll 14 (by omega)];exact ⟨y,ky⟩
theorem OW {w1:W} {m1:Mc} {g:Nat} {cap:List AV} {h1:AHeap} {more:Bool} (x:WorldAt h S w X) (hi:w.all[i]?=some m) (hst:m.st=2) (e:run T g (iQ m.tm::cap) h=some (.bool more,h1)) (x1:WorldAt h1 S w1 X) (k1:KX X h h1) (hi1:w1.all[i]?=some m1) (h4:m1.st≠4) (ht:0<=m1.tm/\m1.tm<1000) :
 ∃ h',run T 111 [.ptr S.ao (S.ab+i*18+13),.ptr S.mi 0,.func g [] cap] h=some (.bool false,h')/\WorldAt h' S (w1.az i {m1 with tm:=m1.tm+1,st:=if more=true then m1.st else 3}) X/\KX X h h':=by
 have ⟨own,x⟩:=x
 have ⟨b,cs,room,rv,F,hb,hc,hx,up,v,hF⟩:=x.fA hi
 have ⟨l0,ll⟩:=up.foc.lt
 have ⟨g0,g1,g2,g3,g4⟩:=up.foc.sec
 have ⟨own1,x1⟩:=x1
 have ⟨b1,cs1,room1,rv1,F1,hb1,hc1,hx1,up1,v1,hF1⟩:=x1.fA hi1
 have ⟨l01,ll1⟩:=up1.foc.lt
 have ⟨g01,g11,g21,g31,g41⟩:=up1.foc.sec
 rw [<- hb]
 have hbb:b1=b:=by rw [hb,hb1]
 subst hbb
 rw [hst] at g2
 have ew:wQ (m1.tm+1)=m1.tm+1:=rQ
 refine run_val T_111 ?_
 cases more with
 | true=>have ⟨y,ky⟩:=x1.bY (m':={m1 with tm:=m1.tm+1}) hi1 hc1 hb1 (up1.int 17 (m1.tm+1)) v1 hF1;simp [-writeOf_some,-getElem?_pos,F111,hc,g2,wrI,ll1,fI,g4,e,hc1,g41,g21,ew,h4];exact ⟨y,k1.trans ky⟩
 | false=>have ⟨y,ky⟩:=x1.bY (m':={m1 with tm:=m1.tm+1,st:=3}) hi1 hc1 hb1 ((up1.int 17 (m1.tm+1)).int 15 3) v1 hF1;simp [-writeOf_some,-getElem?_pos,F111,hc,g2,wrI,ll1,fI,g4,e,hc1,g41,ew];exact ⟨y,k1.trans ky⟩
end
section
def W.gG (w:W) (k:Nat) (r:Rg):W:={w with rings:=w.rings.set k r}
def W.cR (w:W) (k:Nat) (v:Int):W:={w with ws:=w.ws.set k v}
section
variable {h h' h'':AHeap} {S:jb} {w:W} {X F G:List Nat} {own:Nat->Nat} {i k:Nat} {m:Mc} {r:Rg}
theorem view_one {size:Nat} {cs:List AV} {s:AV} (v:dz h size cs F s):s.cells=[s]/\s.one=true:=by cases v<;>exact ⟨rfl,rfl⟩
theorem eR.rg (x:eR h S w X own) (hk:w.rings[k]?=some r):∃ t j o,S.rp[k]?=some t/\cZ h t r/\own t=10+k/\idxAddrV 1 none S.rs (iQ (k:Int))=some (.ptr j o)/\gw (h.get j) o=some (.ptr t 0):=by have ⟨t,e,y,c⟩:=x.ring k r hk;have ⟨j,o,h1,h2,h3⟩:=x.UE.2.1.vM (k:=k) (x:=.ptr t 0) (by simp [e]);exact ⟨t,j,o,e,y,c,h1,h3⟩
theorem eR.YP {t:Nat} (x:eR h S w X own) (k1:Keep [t] h h') (c:own t=10+k):KX X h h':=x.kx (c:=10+k) k1 (by simpa using c) (by omega)
theorem Nm (x:WorldAt h S w X) (hi:w.all[i]?=some m) (hp:m.pl=3) (hk:m.p=k) (hr:w.rings[k]?=some r) (hst:0<=r.streak/\r.streak<=100) (times:Int):∃ h',run T 113 [.ptr S.a 0,iQ (i:Int),iQ times] h=some (.bool false,h')/\WorldAt h' S (oneW (w.gG k r.get.1) i m r.get.2.1 r.get.2.2) X/\KX X h h':=by have ⟨own,x⟩:=x;have ⟨b,cs,room,rv,Fr,u,room0,hb,hc,hx,up,v,hF,hd,⟨f0,f1,f2,f3,f4,f5,f6,f7,f8,f9,f10,f11⟩,_⟩:=x.mz hi;have ⟨t,j,o,q0,y,c,q1,q2⟩:=x.rg hr;have ⟨h1,e1,y1,k1⟩:=Mf y hst;generalize r.get=rg at *;have ⟨r1,g,is⟩:=rg;simp only at e1 y1 ⊢;have x1:=x.wD hr q0 y1 k1 0;have ⟨h2,e2,x2,k2⟩:=Gx (w:=w.gG k r1) ⟨_,x1⟩ hi g is;rw [hp] at f0;rw [hk] at f1;refine run_val T_113 ?_;simp [F113,hd,hx,hc,f0,f1,q1,q2,e1,e2];exact ⟨x2,(x.YP k1 c).trans k2⟩
theorem KR (x:WorldAt h S w X) (hi:w.all[i]?=some m) (hp:m.pl=4) (hl:w.gl.length<=1000) (times:Int):∃ h',run T 113 [.ptr S.a 0,iQ (i:Int),iQ times] h=some (.bool false,h')/\WorldAt h' S (foundW {w with gl:=w.gl.drop (shareN w.gl.length w.P)} i m (w.gl.take (shareN w.gl.length w.P))) X/\KX X h h':=by have ⟨own,x⟩:=x;have ⟨b,cs,room,rv,Fr,u,room0,hb,hc,hx,up,v,hF,hd,⟨f0,f1,f2,f3,f4,f5,f6,f7,f8,f9,f10,f11⟩,_⟩:=x.mz hi;have ⟨Fg,bg,cg⟩:=x.glob;have ⟨s',h1,G,e1,v1,b1,k1,fG⟩:=queue_take bg x.sz.P.1 (by omega);have x1:=(x.tf bg cg b1 k1 0).Oi (F:=G) (fun t ht=>⟨v1.lt t ht,ext_new own (fG t ht)⟩);have ⟨h2,e2,x2,k2⟩:=found_ok (w:={w with gl:=w.gl.drop (shareN w.gl.length w.P)}) (m:=m) (i:=i) ⟨_,x1⟩ hi v1.view (by simp;intro t ht;exact dc ht) (by simp;omega);rw [hp] at f0;refine run_val T_113 ?_;simp [F113,hd,hx,hc,f0,e1,e2];exact ⟨x2.sub (by simp;intro t ht;exact dx ht),(x.kx (c:=5) k1 cg (by omega)).trans (k2.sub (by simp;intro t ht;exact dx ht))⟩
theorem Nk (x:WorldAt h S w X) (hi:w.all[i]?=some m) (hp:m.pl=6) (h0:0<=m.p+m.ii/\m.p+m.ii<=100000) (hk:(m.p+m.ii) % (w.P:Int)=k) (hr:w.rings[k]?=some r) (hl:r.row.length<=256) (times:Int):∃ h',run T 113 [.ptr S.a 0,iQ (i:Int),iQ times] h=some (.bool false,h')/\WorldAt h' S (foundW (w.gG k r.fp.1) i m r.fp.2) X/\KX X h h':=by
 have ⟨own,x⟩:=x;have ⟨b,cs,room,rv,Fr,u,room0,hb,hc,hx,up,v,hF,hd,⟨f0,f1,f2,f3,f4,f5,f6,f7,f8,f9,f10,f11⟩,_⟩:=x.mz hi;have ⟨t,j,o,q0,y,c,q1,q2⟩:=x.rg hr;have ⟨s',h1,e1,G,y1,v1,k1,fG⟩:=Gk y;have x1:=(x.wD hr q0 y1 k1 0).Oi (F:=G) (fun t ht=>⟨v1.lt t ht,ext_new own (fG t ht)⟩);have hsl:r.fp.2.length<=1000:=by
  unfold Rg.fp;split
  . simp
  . simp;omega
 have ⟨h2,e2,x2,k2⟩:=found_ok (w:=w.gG k r.fp.1) (m:=m) (i:=i) ⟨_,x1⟩ hi v1 (by simp;intro t ht;exact dc ht) hsl;have ew:IntKind.wrap .i64 (m.p+m.ii)=m.p+m.ii:=rQ;have er:di .rem (iQ (m.p+m.ii)) (iQ (w.P:Int))=some (iQ (k:Int)):=by have:=x.sz.P.1;rw [<- hk,<- bX h0.1];simp only [di];rw [if_pos (by simp;omega)]
 rw [hp] at f0;refine run_val T_113 ?_;simp [-writeOf_some,-getElem?_pos,F113,hd,hx,hc,f0,f1,f6,ew,er,q1,q2,e1,e2];exact ⟨x2.sub (by simp;intro t ht;exact dx ht),(x.YP k1 c).trans (k2.sub (by simp;intro t ht;exact dx ht))⟩
theorem Hi (x:WorldAt h S w X) (hi:w.all[i]?=some m) (hp:m.pl=17) (hk:m.p=k) (hr:w.rings[k]?=some r) (hl:r.row.length+m.rest.length<=256) (times:Int):∃ h',run T 113 [.ptr S.a 0,iQ (i:Int),iQ times] h=some (.bool false,h')/\WorldAt h' S ((w.gG k {r with row:=r.row++m.rest}).az i {m with rest:=[]}) X/\KX X h h':=by have ⟨own,x⟩:=x;have ⟨b,cs,room,rv,Fr,hb,hc,hx,up,v,hF⟩:=x.fA hi;have ⟨l0,ll⟩:=up.foc.lt;have ⟨u,room0,hd⟩:=x.hd;have ⟨f0,f1,f2,f3,f4,f5,f6,f7,f8,f9,f10,f11⟩:=up.foc.facts;have ⟨t,j,o,q0,y,c,q1,q2⟩:=x.rg hr;have ⟨s',h1,e1,G,y1,v1,k1,fG⟩:=ring_putAll y v (fun hm=>by have:=hF t hm;omega) hl;have x1:=x.wD hr q0 y1 k1 8;have ha:=x.all.1;have hc1:=k1.obj hc (by simp;rintro e;rw [e] at ha;omega);have ⟨z1,z2⟩:=view_one v1;have wS:∀ z,z<cs.length->writeOf h1 S.ao (some (Qc cs room)) z [s']=some (h1.put S.ao (Qc (cs.set z s') room)):=fun z hz=>wr1 hz z2;have ⟨y3,k3⟩:=x1.bY (m':={m with rest:=[]}) hi hc1 hb (up.rest [] s') v1 (fun t ht=>ext_new own (fG t ht));rw [hp] at f0;rw [hk] at f1;refine run_val T_113 ?_;simp [-getElem?_pos,F113,hd,hx,hc,hc1,f0,f1,f9,q1,q2,e1,wS,z1,ll];exact ⟨y3,(x.YP k1 c).trans k3⟩
theorem Hj (x:WorldAt h S w X) (hi:w.all[i]?=some m) (hp:m.pl=28) (hk:m.p=k) (hr:w.rings[k]?=some r) (hl:r.row.length<256) (times:Int):∃ h',run T 113 [.ptr S.a 0,iQ (i:Int),iQ times] h=some (.bool false,h')/\WorldAt h' S ((w.gG k (r.ready m.got)).az i {m with rest:=[],got:=-1}) X/\KX X h h':=by have ⟨own,x⟩:=x;have ⟨b,cs,room,rv,Fr,hb,hc,hx,up,v,hF⟩:=x.fA hi;have ⟨l0,ll⟩:=up.foc.lt;have ⟨u,room0,hd⟩:=x.hd;have ⟨f0,f1,f2,f3,f4,f5,f6,f7,f8,f9,f10,f11⟩:=up.foc.facts;have ⟨t,j,o,q0,y,c,q1,q2⟩:=x.rg hr;have ⟨h1,e1,y1,k1⟩:=ring_ready y hl m.got;have x1:=x.wD hr q0 y1 k1 8;have ha:=x.all.1;have hc1:=k1.obj hc (by simp;rintro e;rw [e] at ha;omega);have wS:∀ z,z<cs.length->writeOf h1 S.ao (some (Qc cs room)) z [.nilslice]=some (h1.put S.ao (Qc (cs.set z .nilslice) room)):=fun z hz=>wr1 hz rfl;have ⟨y3,k3⟩:=x1.bY (m':={m with rest:=[],got:=-1}) (F:=[]) hi hc1 hb ((up.rest [] .nilslice).int 4 (-1)) (.nil rfl) (by simp);rw [hp] at f0;rw [hk] at f1;refine run_val T_113 ?_;simp [-writeOf_some,-getElem?_pos,F113,hd,hx,hc,hc1,f0,f1,f4,q1,q2,e1,wS,wrI,ll];exact ⟨y3,(x.YP k1 c).trans k3⟩
end
end
section
variable {h h' h'':AHeap} {S:jb} {w:W} {X F G:List Nat} {own:Nat->Nat} {i k:Nat} {m:Mc} {r:Rg}
theorem ux (sz:Sz w):w.sp<w.ws.length:=by have:=sz.ws;have:=sz.P;have:=sz.M;have:=sz.G;simp [W.sp];omega
theorem oK (sz:Sz w) (hi:i<w.M):w.nt+i<w.ws.length:=by have:=sz.ws;have:=sz.P;have:=sz.M;have:=sz.G;simp [W.nt];omega
theorem iu (sz:Sz w):w.tb+w.G<=w.ws.length/\w.ws.length<=100000:=by have:=sz.ws;have:=sz.P;have:=sz.M;have:=sz.G;simp [W.tb];omega
def inc (z d:Int):Int:=(z+d) % 18446744073709551616
theorem KF (x:WorldAt h S w X) (hi:w.all[i]?=some m) {times:Int} (ht:0<times):∃ h',run T 153 [.ptr S.a 0,iQ (i:Int),iQ times] h=some (.bool false,h')/\WorldAt h' S (w.cR w.sp (inc (wd w.ws w.sp) (-1))) X/\KX X h h':=by
 have ⟨own,x⟩:=x;have ⟨b,cs,room,rv,F,u,room0,hb,hc,hx,up,v,hF,hd,⟨f0,f1,f2,f3,f4,f5,f6,f7,f8,f9,f10,f11⟩,⟨l0,ll⟩,_⟩:=x.mz hi;have nF:∀ t∈F,t∉[S.mi,S.mj]:=fun t ht=>by have:=hF t ht;have:=x.mem;simp;constructor<;>(rintro rfl;omega)
 have na:S.a≠S.ao:=fun e=>by have:=x.ca;rw [e,x.all.1] at this;omega
 have ⟨cnt,mm,n1,n2,n3,n4⟩:=x.gC;have sz:=x.sz;have ⟨h1,e1,m1,k1⟩:=qk (k:=(w.sp:Int)) mm (by omega) (by have:=ux sz;omega) (-1);have hc1:=k1.obj hc (by simp [n1,n2]);have hd1:=k1.obj hd (by simp [n3,n4]);rw [aC] at e1 m1;have y:=x.j7 0 m1 (by simp) k1;refine run_val T_153 ?_;simp [F153,hd,hx,ht,e1];exact ⟨⟨_,y⟩,x.Ja k1⟩
theorem sy {l:List Int} {z:Int} (h:l.getLast?=some z):l.dropLast++[z]=l:=by
 have hne:l≠[]:=by rintro rfl;simp at h
 have:=List.dropLast_concat_getLast hne;rw [List.getLast?_eq_some_getLast hne] at h;cases h;exact this
theorem takeP_w (x:WorldAt h S w X):(w.ip=[]->run T 147 [.ptr S.ii 0] h=some (.tuple [iQ 0,.bool false],h))/\∀ p L,w.ip=p::L->∃ h',run T 147 [.ptr S.ii 0] h=some (.tuple [iQ (p:Int),.bool true],h')/\WorldAt h' S {w with ip:=L} X/\(∀ j,(∀ own,eR h S w X own->own j≠6)->h'.get j=h.get j\/h.size<=j)/\KX X h h':=by
 have ⟨own,x⟩:=x;have ⟨FT,wz,b,hm,c⟩:=x.idle;refine ⟨fun hn=>FO b x.db (hm.trans hn),fun p L hp=>?_⟩;have ⟨h1,e1,b1,k1⟩:=FN b x.db (hm.trans hp);refine ⟨h1,e1,⟨_,x.ie b c b1 (zc (hm.trans hp)) k1 (fun t ht=>dc ht)⟩,fun j hj=>?_,x.kx k1 c (by omega)⟩;rcases bH j h.size with hl | hl
 . exact dc (k1.get j hl fun hm=>hj own x (c j hm))
 . exact dx hl
def kH (w:W):Option (Nat×W):=match w.ms.getLast? with
 | some k=>if 0<=k then some (k.toNat,{w with ms:=w.ms.dropLast}) else none
 | none=>if 0<=w.q then some (w.q.toNat,{w with q:=-1}) else none
theorem ON {w':W} (x:WorldAt h S w X) (hk:kH w=some (k,w')) (hl:w.ms.length<=1000):∃ h',run T 180 [.ptr S.ii 0] h=some (.tuple [iQ (k:Int),.bool true],h')/\WorldAt h' S w' X/\(∀ j,(∀ own,eR h S w X own->own j≠6)->h'.get j=h.get j\/h.size<=j)/\KX X h h':=by
 have ⟨own,x⟩:=x;have ⟨FT,wz,b,hm,c⟩:=x.idle;unfold kH at hk;split at hk
 . rename_i z hz;split at hk;case isFalse=>cases hk
   rename_i h0;cases hk;have hs:=sy hz;rw [<- hs] at b;have ⟨h1,e1,b1,k1⟩:=FP b (by simp;omega);have x1:=x.ie (by rw [<- hs];exact b) c b1 hm k1 (fun t ht=>dc ht);refine ⟨h1,by rw [e1,aH h0],⟨_,x1⟩,fun j hj=>?_,x.kx k1 c (by omega)⟩;rcases bH j h.size with hl | hl
   . exact dc (k1.get j hl fun hm=>hj own x (c j hm))
   . exact dx hl
 . rename_i hz;split at hk;case isFalse=>cases hk
   rename_i h0;cases hk;have hs:w.ms=[]:=List.getLast?_eq_none_iff.1 hz;rw [hs] at b;have ⟨h1,e1,b1,k1⟩:=wV b;have x1:=x.ie (by rw [hs];exact b) c b1 hm k1 (fun t ht=>dc ht);have hw:({w with ip:=w.ip,pend:=w.pend,ms:=[],q:=-1}:W)={w with q:=-1}:=by rw [<- hs]
   rw [hw] at x1;refine ⟨h1,by rw [e1,aH h0];simp;omega,⟨_,x1⟩,fun j hj=>?_,x.kx k1 c (by omega)⟩;rcases bH j h.size with hl | hl
   . exact dc (k1.get j hl fun hm=>hj own x (c j hm))
   . exact dx hl
theorem A7 (x:WorldAt h S w X) (hi:w.all[i]?=some m) (hn:w.ip=[]):∃ h',run T 153 [.ptr S.a 0,iQ (i:Int),iQ 0] h=some (.bool true,h')/\WorldAt h' S (w) X/\KX X h h':=by
 have ⟨own,x⟩:=x;have ⟨b,cs,room,rv,F,u,room0,hb,hc,hx,up,v,hF,hd,⟨f0,f1,f2,f3,f4,f5,f6,f7,f8,f9,f10,f11⟩,⟨l0,ll⟩,_⟩:=x.mz hi;have nF:∀ t∈F,t∉[S.mi,S.mj]:=fun t ht=>by have:=hF t ht;have:=x.mem;simp;constructor<;>(rintro rfl;omega)
 have na:S.a≠S.ao:=fun e=>by have:=x.ca;rw [e,x.all.1] at this;omega
 have ⟨cnt,mm,n1,n2,n3,n4⟩:=x.gC;have sz:=x.sz;have e1:=(takeP_w ⟨own,x⟩).1 hn;refine run_val T_153 ?_;simp [F153,hd,hx,ad,e1];exact ⟨⟨own,x⟩,KX.refl⟩
theorem Na (x:WorldAt h S w X) (hi:w.all[i]?=some m) {p:Nat} {L:List Nat} (hp:w.ip=p::L) {w2:W} {mk:Mc} (hk:kH {w with ip:=L}=some (k,w2)) (hl:w.ms.length<=1000) (ha:w2.all=w.all) (hmk:w.all[k]?=some mk) (hki:k≠i):∃ h',run T 153 [.ptr S.a 0,iQ (i:Int),iQ 0] h=some (.bool false,h')/\WorldAt h' S ((w2.az k {mk with nx:=(p:Int)}).az i {m with tg:=(k:Int)}) X/\KX X h h':=by
 have ⟨own,x⟩:=x;have ⟨b,cs,room,rv,F,u,room0,hb,hc,hx,up,v,hF,hd,⟨f0,f1,f2,f3,f4,f5,f6,f7,f8,f9,f10,f11⟩,⟨l0,ll⟩,_⟩:=x.mz hi
 have hF':∀ t∈F,own t=8/\t<h.size:=fun t ht=>⟨hF t ht,v.lt t ht⟩
 have nF:∀ t∈F,t∉[S.mi,S.mj]:=fun t ht=>by have:=hF t ht;have:=x.mem;simp;constructor<;>(rintro rfl;omega)
 have na:S.a≠S.ao:=fun e=>by have:=x.ca;rw [e,x.all.1] at this;omega
 have ⟨cnt,mm,n1,n2,n3,n4⟩:=x.gC;have sz:=x.sz;have s1:=sz.P;have s2:=sz.M;have s3:=sz.G;have s4:=sz.ws;have ⟨h1,e1,x1,g1,k1⟩:=(takeP_w ⟨own,x⟩).2 p L hp;have ⟨h2,e2,x2,g2,k2⟩:=ON x1 hk hl;have hd1:∃ u1 r1,h1.get S.a=some (Qc (headA S {w with ip:=L} u1) r1):=by have ⟨o1,x1⟩:=x1;exact x1.hd
 have ⟨u1,r1,hd1⟩:=hd1;have hd1:h1.get S.a=some (Qc (headA S w u1) r1):=hd1;have ⟨o2,x2⟩:=x2;have ⟨u2,r2,hd2⟩:=x2.hd;have hmk2:w2.all[k]?=some mk:=by rw [ha];exact hmk
 have hi2:w2.all[i]?=some m:=by rw [ha];exact hi
 have ⟨bk,ck,rk,vk,Fk,hbk,hck,hxk,upk,vvk,hFk⟩:=x2.fA hmk2;have ⟨lk0,llk⟩:=upk.foc.lt;have ⟨y3,k3⟩:=x2.bY (m':={mk with nx:=(p:Int)}) hmk2 hck hbk (upk.int 3 (p:Int)) vvk hFk;have ⟨o3,x3⟩:=y3;have hi3:(w2.az k {mk with nx:=(p:Int)}).all[i]?=some m:=by show (w2.all.set k _)[i]?=some m;rw [aj hki];exact hi2
 have ⟨b3,c3,r3,v3,F3,hb3,hc3,hx3,up3,vv3,hF3⟩:=x3.fA hi3;have ⟨l30,ll3⟩:=up3.foc.lt;rw [get_put_same,hck] at hc3;simp only [fj] at hc3;cases hc3;have hbb:b3=b:=by rw [hb,hb3]
 subst hbb;have ll4:∀ j,j<18->b3+j<ck.length:=by simpa using ll3
 obtain ⟨y4,k4⟩:=x3.bY (m':={m with tg:=(k:Int)}) hi3 (by rw [get_put_same,hck];rfl) hb3 (up3.int 5 (k:Int)) vv3 hF3;have hM:w2.M=w.M:=by have:=x2.lens.1;have:=x.lens.1;rw [ha] at *;omega
 rw [hM] at hxk;have hh2:(headA S w2 u2)[13]?=some (.slice S.ao S.ab w.M S.ac):=by rw [yh,hM]
 refine run_val T_153 ?_;simp [F153,-writeOf_some,-getElem?_pos,-yh,show (headA S w u)[13]?=some (.slice S.ao S.ab w.M S.ac) from yh,hh2,hd,hd1,hd2,hx,hxk,hck,wrI,llk,ll4,ad,e1,e2];rw [O3] at y4 k4;exact ⟨y4,((k1.trans k2).trans k3).trans k4⟩
theorem Hu (x:WorldAt h S w X) (hi:w.all[i]?=some m) (hp:m.pl=1) (hk:m.p=k) {z:Int} (hz:w.turns[k]?=some z) (hzb:0<=z/\z<1000000000):∃ h',run T 74 [.ptr S.a 0,iQ (i:Int)] h=some (.tuple [],h')/\WorldAt h' S (({w with turns:=w.turns.set k (z+1)}:W).az i (if (z+1) % 61=0 then deliverM {m with pl:=3} 2 else {m with pl:=3})) X/\KX X h h':=by
 have ⟨own,x⟩:=x;have ⟨b,cs,room,rv,F,u,room0,hb,hc,hx,up,v,hF,hd,⟨f0,f1,f2,f3,f4,f5,f6,f7,f8,f9,f10,f11⟩,⟨l0,ll⟩,_⟩:=x.mz hi
 have hF':∀ t∈F,own t=8/\t<h.size:=fun t ht=>⟨hF t ht,v.lt t ht⟩
 have nF:∀ t∈F,t∉[S.mi,S.mj]:=fun t ht=>by have:=hF t ht;have:=x.mem;simp;constructor<;>(rintro rfl;omega)
 have na:S.a≠S.ao:=fun e=>by have:=x.ca;rw [e,x.all.1] at this;omega
 have ⟨cnt,mm,n1,n2,n3,n4⟩:=x.gC;have sz:=x.sz;have s1:=sz.P;have s2:=sz.M;have s3:=sz.G;have s4:=sz.ws;rw [hp] at f0;rw [hk] at f1;have ⟨ct,lt,rt,ht⟩:=x.turn;have kl:=(aa.1 hz).1;have ix:idxAddrV 1 none (.slice S.to 0 w.P (.exact w.P)) (iQ (k:Int))=some (.ptr S.to k):=by simp only [idxAddrV];rw [if_pos (by omega)];simp
 have hz':=ny hz;have ew:IntKind.wrap .i64 (z+1)=z+1:=iq (by omega) (by omega);have em:Int.tmod (z+1) 61=(z+1) % 61:=bX (by omega);have x1:=x.QD (t':=w.turns.set k (z+1)) (room:=rt) (by simp);have nt:S.ao≠S.to:=fun e=>by have:=x.all.1;rw [e,ct] at this;omega
 have nta:S.a≠S.to:=fun e=>by have:=x.ca;rw [e,ct] at this;omega
 have hc1:(h.put S.to (.cells false (intsA (w.turns.set k (z+1))) rt)).get S.ao=some (.cells false cs room):=by rw [get_put_ne nt,hc]
 have hd1:(h.put S.to (.cells false (intsA (w.turns.set k (z+1))) rt)).get S.a=some (.cells false (headA S w u) room0):=by rw [get_put_ne nta,hd]
 have kx1:KX X h (h.put S.to (.cells false (intsA (w.turns.set k (z+1))) rt)):=x.kx (c:=4) (G:=[S.to]) (Keep.put (by simp)) (by simpa using ct) (by omega);obtain ⟨y2,k2⟩:=x1.bY (m':={m with pl:=3}) hi hc1 hb (up.place 3) (v.keep (Keep.put (F:=[S.to]) (by simp)) (fun t ht=>by have:=hF t ht;simp;rintro rfl;omega)) hF;have ht1:((h.put S.to (.cells false (intsA (w.turns.set k (z+1))) rt)).put S.ao (.cells false (cs.set b (.int .i64 3)) room)).get S.to=some (.cells false (intsA (w.turns.set k (z+1))) rt):=by rw [get_put_ne (aY nt),get_put_same,ht];rfl
 have hc2:((h.put S.to (.cells false (intsA (w.turns.set k (z+1))) rt)).put S.ao (.cells false (cs.set b (.int .i64 3)) room)).get S.ao=some (.cells false (cs.set b (.int .i64 3)) room):=by rw [get_put_same,hc1];rfl
 have hd2:((h.put S.to (.cells false (intsA (w.turns.set k (z+1))) rt)).put S.ao (.cells false (cs.set b (.int .i64 3)) room)).get S.a=some (.cells false (headA S w u) room0):=by rw [get_put_ne na,hd1]
 have hz2:(intsA (w.turns.set k (z+1)))[k]?=some (.int .i64 (z+1)):=ny (ax kl);by_cases h61:(z+1) % 61=0
 . obtain ⟨h3,e3,x3,k3⟩:=wdeliver_ok y2 (setm_at hi) 2;rw [setm_twice] at x3;rw [if_pos h61];refine run_val T_74 ?_;simp [F74,-writeOf_some,-getElem?_pos,hd,hx,hc,wrI,l0,f0,f1,hc1,ht,ix,hz',ew,kl,qa,ht1,hc2,hd2,hz2,em,h61,e3];exact ⟨x3,(kx1.trans k2).trans k3⟩
 . rw [if_neg h61];refine run_val T_74 ?_;simp [F74,-writeOf_some,-getElem?_pos,hd,hx,hc,wrI,l0,f0,f1,hc1,ht,ix,hz',ew,kl,qa,ht1,hc2,hd2,hz2,em,h61];exact ⟨y2,kx1.trans k2⟩
theorem Ff (x:WorldAt h S w X) (hi:w.all[i]?=some m) (hp:m.pl=5) :∃ h',run T 74 [.ptr S.a 0,iQ (i:Int)] h=some (.tuple [],h')/\WorldAt h' S ((w.cR w.sp (inc (wd w.ws w.sp) 1)).az i (stealM {m with sp:=true} 1 w.P)) X/\KX X h h':=by
 have ⟨own,x⟩:=x;have ⟨b,cs,room,rv,F,u,room0,hb,hc,hx,up,v,hF,hd,⟨f0,f1,f2,f3,f4,f5,f6,f7,f8,f9,f10,f11⟩,⟨l0,ll⟩,_⟩:=x.mz hi;have hF':∀ t∈F,own t=8/\t<h.size:=fun t ht=>⟨hF t ht,v.lt t ht⟩
 have nF:∀ t∈F,t∉[S.mi,S.mj]:=fun t ht=>by have:=hF t ht;have:=x.mem;simp;constructor<;>(rintro rfl;omega)
 have na:S.a≠S.ao:=fun e=>by have:=x.ca;rw [e,x.all.1] at this;omega
 have ⟨cnt,mm,n1,n2,n3,n4⟩:=x.gC;have sz:=x.sz;have s1:=sz.P;have s2:=sz.M;have s3:=sz.G;have s4:=sz.ws;rw [hp] at f0;have ⟨h1,e1,m1,k1⟩:=qk (k:=(w.sp:Int)) mm (by omega) (by have:=ux sz;omega) (1);have hc1:=k1.obj hc (by simp [n1,n2]);have hd1:=k1.obj hd (by simp [n3,n4]);rw [aC] at e1 m1;have ⟨y2,k2⟩:=x.mn (m':={m with sp:=true}) m1 (by simp) k1 hi hc1 hb (up.spin true) (v.keep k1 nF) hF';have ⟨h3,e3,x3,k3⟩:=wsteal_ok y2 (setm_at (w:=w.cR w.sp (inc (wd w.ws w.sp) 1)) hi) 1;rw [setm_twice] at x3;refine run_val T_74 ?_;simp [F74,-writeOf_some,hd,hx,hc,wrB,ll,f0,e1,hc1,e3];exact ⟨x3,k2.trans k3⟩
theorem Fe (x:WorldAt h S w X) (hi:w.all[i]?=some m) (hp:m.pl=19) :∃ h',run T 74 [.ptr S.a 0,iQ (i:Int)] h=some (.tuple [],h')/\WorldAt h' S ((w.cR w.sp (inc (wd w.ws w.sp) (-1))).az i {m with sp:=false,pl:=21}) X/\KX X h h':=by
 have ⟨own,x⟩:=x;have ⟨b,cs,room,rv,F,u,room0,hb,hc,hx,up,v,hF,hd,⟨f0,f1,f2,f3,f4,f5,f6,f7,f8,f9,f10,f11⟩,⟨l0,ll⟩,_⟩:=x.mz hi;have hF':∀ t∈F,own t=8/\t<h.size:=fun t ht=>⟨hF t ht,v.lt t ht⟩
 have nF:∀ t∈F,t∉[S.mi,S.mj]:=fun t ht=>by have:=hF t ht;have:=x.mem;simp;constructor<;>(rintro rfl;omega)
 have na:S.a≠S.ao:=fun e=>by have:=x.ca;rw [e,x.all.1] at this;omega
 have ⟨cnt,mm,n1,n2,n3,n4⟩:=x.gC;have sz:=x.sz;have s1:=sz.P;have s2:=sz.M;have s3:=sz.G;have s4:=sz.ws;rw [hp] at f0;have ⟨h1,e1,m1,k1⟩:=qk (k:=(w.sp:Int)) mm (by omega) (by have:=ux sz;omega) (-1);have hc1:=k1.obj hc (by simp [n1,n2]);have hd1:=k1.obj hd (by simp [n3,n4]);rw [aC] at e1 m1;have ⟨y2,k2⟩:=x.mn (m':={m with sp:=false,pl:=21}) m1 (by simp) k1 hi hc1 hb ((up.spin false).place 21) (v.keep k1 nF) hF';refine run_val T_74 ?_;simp [F74,-writeOf_some,-getElem?_pos,hd,hx,hc,wrI,wrB,ll,l0,f0,e1,hc1];exact ⟨y2,k2⟩
theorem K7 (x:WorldAt h S w X) (hi:w.all[i]?=some m) (hp:m.pl=21) :∃ h',run T 74 [.ptr S.a 0,iQ (i:Int)] h=some (.tuple [],h')/\WorldAt h' S (w.az i {m with pl:=if wd w.ws w.sp=0 then 22 else m.bk}) X/\KX X h h':=by
 have ⟨own,x⟩:=x;have ⟨b,cs,room,rv,F,u,room0,hb,hc,hx,up,v,hF,hd,⟨f0,f1,f2,f3,f4,f5,f6,f7,f8,f9,f10,f11⟩,⟨l0,ll⟩,_⟩:=x.mz hi
 have hF':∀ t∈F,own t=8/\t<h.size:=fun t ht=>⟨hF t ht,v.lt t ht⟩
 have nF:∀ t∈F,t∉[S.mi,S.mj]:=fun t ht=>by have:=hF t ht;have:=x.mem;simp;constructor<;>(rintro rfl;omega)
 have na:S.a≠S.ao:=fun e=>by have:=x.ca;rw [e,x.all.1] at this;omega
 have ⟨cnt,mm,n1,n2,n3,n4⟩:=x.gC;have sz:=x.sz;have s1:=sz.P;have s2:=sz.M;have s3:=sz.G;have s4:=sz.ws;rw [hp] at f0;have ⟨h1,e1,m1,k1⟩:=Eh (k:=(w.sp:Int)) mm (by omega) (by have:=ux sz;omega);have hc1:=k1.obj hc (by simp [n1,n2]);rw [aC] at e1;have ⟨y2,k2⟩:=x.mn (m':={m with pl:=if wd w.ws w.sp=0 then 22 else m.bk}) m1 rfl k1 hi hc1 hb (up.place (if wd w.ws w.sp=0 then 22 else m.bk)) (v.keep k1 nF) hF';refine run_val T_74 ?_;by_cases hz:wd w.ws w.sp=0
 . simp [hz,if_true] at y2 k2 ⊢;rw [hz] at e1;simp [F74,-writeOf_some,-getElem?_pos,hd,hx,hc,wrI,l0,f0,f10,e1,hc1,either_ok];exact ⟨y2,k2⟩
 . simp [hz,if_false] at y2 k2 ⊢;simp [F74,-writeOf_some,-getElem?_pos,hd,hx,hc,wrI,l0,f0,f10,e1,hc1,hz,either_ok];exact ⟨y2,k2⟩
theorem Hv (x:WorldAt h S w X) (hi:w.all[i]?=some m) (hp:m.pl=22) :∃ h',run T 74 [.ptr S.a 0,iQ (i:Int)] h=some (.tuple [],h')/\WorldAt h' S (({w with ws:=if wd w.ws w.sp=0 then w.ws.set w.sp 1 else w.ws}:W).az i {m with pl:=if wd w.ws w.sp=0 then 23 else m.bk}) X/\KX X h h':=by
 have ⟨own,x⟩:=x;have ⟨b,cs,room,rv,F,u,room0,hb,hc,hx,up,v,hF,hd,⟨f0,f1,f2,f3,f4,f5,f6,f7,f8,f9,f10,f11⟩,⟨l0,ll⟩,_⟩:=x.mz hi
 have hF':∀ t∈F,own t=8/\t<h.size:=fun t ht=>⟨hF t ht,v.lt t ht⟩
 have nF:∀ t∈F,t∉[S.mi,S.mj]:=fun t ht=>by have:=hF t ht;have:=x.mem;simp;constructor<;>(rintro rfl;omega)
 have na:S.a≠S.ao:=fun e=>by have:=x.ca;rw [e,x.all.1] at this;omega
 have ⟨cnt,mm,n1,n2,n3,n4⟩:=x.gC;have sz:=x.sz;have s1:=sz.P;have s2:=sz.M;have s3:=sz.G;have s4:=sz.ws;rw [hp] at f0;have ⟨h1,e1,m1,k1⟩:=rK (k:=(w.sp:Int)) mm (by omega) (by have:=ux sz;omega) 0 1;have hc1:=k1.obj hc (by simp [n1,n2]);rw [aC] at e1 m1;have ⟨y2,k2⟩:=x.mn (m':={m with pl:=if wd w.ws w.sp=0 then 23 else m.bk}) m1 (by split<;>simp) k1 hi hc1 hb (up.place (if wd w.ws w.sp=0 then 23 else m.bk)) (v.keep k1 nF) hF';refine run_val T_74 ?_;by_cases hz:wd w.ws w.sp=0
 . simp [hz,if_true] at y2 k2 ⊢;rw [hz] at e1;simp [F74,-writeOf_some,-getElem?_pos,hd,hx,hc,wrI,l0,f0,f10,e1,hc1,either_ok];exact ⟨y2,k2⟩
 . simp [hz,if_false] at y2 k2 ⊢;simp [F74,-writeOf_some,-getElem?_pos,hd,hx,hc,wrI,l0,f0,f10,e1,hc1,hz,either_ok];exact ⟨y2,k2⟩
theorem K5 (x:WorldAt h S w X) (hi:w.all[i]?=some m) (hp:m.pl=24) (hk:m.tg=k) (hkM:k<w.M):∃ h',run T 74 [.ptr S.a 0,iQ (i:Int)] h=some (.tuple [],h')/\WorldAt h' S (({w with ws:=if wd w.ws (w.nt+k)=0 then w.ws.set (w.nt+k) 1 else w.ws}:W).az i {m with tg:=-1,pl:=m.bk}) X/\KX X h h':=by
 have ⟨own,x⟩:=x;have ⟨b,cs,room,rv,F,u,room0,hb,hc,hx,up,v,hF,hd,⟨f0,f1,f2,f3,f4,f5,f6,f7,f8,f9,f10,f11⟩,⟨l0,ll⟩,_⟩:=x.mz hi;have hF':∀ t∈F,own t=8/\t<h.size:=fun t ht=>⟨hF t ht,v.lt t ht⟩
 have nF:∀ t∈F,t∉[S.mi,S.mj]:=fun t ht=>by have:=hF t ht;have:=x.mem;simp;constructor<;>(rintro rfl;omega)
 have na:S.a≠S.ao:=fun e=>by have:=x.ca;rw [e,x.all.1] at this;omega
 have ⟨cnt,mm,n1,n2,n3,n4⟩:=x.gC;have sz:=x.sz;have s1:=sz.P;have s2:=sz.M;have s3:=sz.G;have s4:=sz.ws;rw [hp] at f0;rw [hk] at f5;have ⟨h1,e1,m1,k1⟩:=AO (k:=((w.nt+k:Nat):Int)) mm (by omega) (by have:=oK sz hkM;omega);have hc1:=k1.obj hc (by simp [n1,n2]);rw [aC] at e1 m1;have ew:IntKind.wrap .i64 ((w.nt:Int)+(k:Int))=((w.nt+k:Nat):Int):=by rw [iq (by omega) (by have:=oK sz hkM;have:=(iu sz).2;omega)];omega
 generalize ((w.nt+k:Nat):Int)=nk at e1 ew;have ⟨y2,k2⟩:=x.mn (m':={m with tg:=-1,pl:=m.bk}) m1 (by split<;>simp) k1 hi hc1 hb ((up.int 5 (-1)).place m.bk) (v.keep k1 nF) hF';refine run_val T_74 ?_;simp [F74,-writeOf_some,-getElem?_pos,hd,hx,hc,wrI,ll,l0,f0,f5,f10,e1,ew,hc1];exact ⟨y2,k2⟩
theorem Aa (x:WorldAt h S w X) (hi:w.all[i]?=some m) (hp:m.pl=20) (hg:0<=m.got/\m.got<w.G) (hs:wd w.ws (w.tb+m.got.toNat)=1) (hr:rB (2,m.got,(i:Int),m.p,0)=true) (hl:w.lg<=1000000000):∃ h',run T 74 [.ptr S.a 0,iQ (i:Int)] h=some (.tuple [],h')/\WorldAt h' S (({w with ws:=w.ws.set (w.tb+m.got.toNat) 2}:W).cd.az i {m with g:=m.got,got:=-1,pl:=0}) X/\KX X h h':=by
 have ⟨own,x⟩:=x;have ⟨b,cs,room,rv,F,u,room0,hb,hc,hx,up,v,hF,hd,⟨f0,f1,f2,f3,f4,f5,f6,f7,f8,f9,f10,f11⟩,⟨l0,ll⟩,_⟩:=x.mz hi;have hF':∀ t∈F,own t=8/\t<h.size:=fun t ht=>⟨hF t ht,v.lt t ht⟩
 have nF:∀ t∈F,t∉[S.mi,S.mj]:=fun t ht=>by have:=hF t ht;have:=x.mem;simp;constructor<;>(rintro rfl;omega)
 have na:S.a≠S.ao:=fun e=>by have:=x.ca;rw [e,x.all.1] at this;omega
 have ⟨cnt,mm,n1,n2,n3,n4⟩:=x.gC;have sz:=x.sz;have s1:=sz.P;have s2:=sz.M;have s3:=sz.G;have s4:=sz.ws;rw [hp] at f0;have ⟨h1,e1,m1,k1⟩:=nh (F:=w.tb) (N:=w.G) x.nx mm (a:=1) (b:=2) (by omega) (by omega) hg (by decide) (iu sz).1 (iu sz).2;have hc1:=k1.obj hc (by simp [n1,n2]);have hd1:=k1.obj hd (by simp [n3,n4]);rw [if_pos hs] at m1;rw [decide_eq_true hs] at e1;have x1:=x.j7 0 m1 (by simp) k1;have ⟨h2,e2,x2,k2⟩:=rG (w:={w with ws:=w.ws.set (w.tb+m.got.toNat) 2}) (i:=i) ⟨_,x1⟩ hi hr hl;have ⟨o2,x2⟩:=x2;have hi2:(({w with ws:=w.ws.set (w.tb+m.got.toNat) 2}:W).cd).all[i]?=some m:=hi;have ⟨b2,c2,r2,v2,F2,hb2,hc2,hx2,up2,vv2,hF2⟩:=x2.fA hi2;have hbb:b2=b:=by rw [hb,hb2]
 subst hbb;have ⟨l20,ll2⟩:=up2.foc.lt;have ⟨p0,p1,p2,p3,p4,p5,p6,p7,p8,p9,p10,p11⟩:=up2.foc.facts;have ⟨y3,k3⟩:=x2.bY (m':={m with g:=m.got,got:=-1,pl:=0}) hi2 hc2 hb2 (((up2.int 2 m.got).int 4 (-1)).place 0) vv2 hF2;refine run_val T_74 ?_;simp [F74,-writeOf_some,-getElem?_pos,hd,hx,hc,wrI,f0,f4,p4,e1,e2,hc1,hc2,ll2,l20];exact ⟨y3,((x.Ja k1).trans k2).trans k3⟩
theorem Az (x:WorldAt h S w X) (hi:w.all[i]?=some m) {g fr e:Int} (hg:0<=g/\g<w.G) (h0:0<=fr) (hle:gJ fr 1=true) (hs:wd w.ws (w.tb+g.toNat)=fr) (hr:rB (e,g,(i:Int),m.p,0)=true) (hl:w.lg<=1000000000):∃ h',run T 105 [.ptr S.a 0,iQ (i:Int),iQ g,uQ fr,iQ e] h=some (.bool true,h')/\WorldAt h' S (({w with ws:=w.ws.set (w.tb+g.toNat) 1}:W).cd.az i {m with got:=g,pl:=28}) X/\KX X h h':=by
 have ⟨own,x⟩:=x;have ⟨b,cs,room,rv,F,u,room0,hb,hc,hx,up,v,hF,hd,⟨f0,f1,f2,f3,f4,f5,f6,f7,f8,f9,f10,f11⟩,⟨l0,ll⟩,_⟩:=x.mz hi;have nF:∀ t∈F,t∉[S.mi,S.mj]:=fun t ht=>by have:=hF t ht;have:=x.mem;simp;constructor<;>(rintro rfl;omega)
 have na:S.a≠S.ao:=fun e=>by have:=x.ca;rw [e,x.all.1] at this;omega
 have ⟨cnt,mm,n1,n2,n3,n4⟩:=x.gC;have sz:=x.sz;have ⟨h1,e1,m1,k1⟩:=nh (F:=w.tb) (N:=w.G) x.nx mm (a:=fr) (b:=1) (by omega) (by omega) hg (by exact hle) (iu sz).1 (iu sz).2;have hc1:=k1.obj hc (by simp [n1,n2]);have hd1:=k1.obj hd (by simp [n3,n4]);rw [if_pos hs] at m1;rw [decide_eq_true hs] at e1;have x1:=x.j7 0 m1 (by simp) k1;have ⟨h2,e2,x2,k2⟩:=rG (w:={w with ws:=w.ws.set (w.tb+g.toNat) 1}) (i:=i) ⟨_,x1⟩ hi hr hl;have ⟨o2,x2⟩:=x2;have hi2:(({w with ws:=w.ws.set (w.tb+g.toNat) 1}:W).cd).all[i]?=some m:=hi;have ⟨b2,c2,r2,v2,F2,hb2,hc2,hx2,up2,vv2,hF2⟩:=x2.fA hi2;have hbb:b2=b:=by rw [hb,hb2]
 subst hbb;have ⟨l20,ll2⟩:=up2.foc.lt;have ⟨y3,k3⟩:=x2.bY (m':={m with got:=g,pl:=28}) hi2 hc2 hb2 ((up2.int 4 g).place 28) vv2 hF2;refine run_val T_105 ?_;simp [F105,-writeOf_some,hd,hx,wrI,e1,e2,hc2,ll2,l20];exact ⟨y3,((x.Ja k1).trans k2).trans k3⟩
theorem D0 (x:WorldAt h S w X) (hi:w.all[i]?=some m) {g fr e:Int} (hg:0<=g/\g<w.G) (h0:0<=fr) (hle:gJ fr 1=true) (hs:¬ wd w.ws (w.tb+g.toNat)=fr):∃ h',run T 105 [.ptr S.a 0,iQ (i:Int),iQ g,uQ fr,iQ e] h=some (.bool false,h')/\WorldAt h' S (w) X/\KX X h h':=by
 have ⟨own,x⟩:=x;have ⟨b,cs,room,rv,F,u,room0,hb,hc,hx,up,v,hF,hd,⟨f0,f1,f2,f3,f4,f5,f6,f7,f8,f9,f10,f11⟩,⟨l0,ll⟩,_⟩:=x.mz hi;have nF:∀ t∈F,t∉[S.mi,S.mj]:=fun t ht=>by have:=hF t ht;have:=x.mem;simp;constructor<;>(rintro rfl;omega)
 have na:S.a≠S.ao:=fun e=>by have:=x.ca;rw [e,x.all.1] at this;omega
 have ⟨cnt,mm,n1,n2,n3,n4⟩:=x.gC;have sz:=x.sz;have ⟨h1,e1,m1,k1⟩:=nh (F:=w.tb) (N:=w.G) x.nx mm (a:=fr) (b:=1) (by omega) (by omega) hg (by exact hle) (iu sz).1 (iu sz).2;have hc1:=k1.obj hc (by simp [n1,n2]);have hd1:=k1.obj hd (by simp [n3,n4]);rw [if_neg hs] at m1;rw [decide_eq_false hs] at e1;have x1:=x.j7 0 m1 rfl k1;refine run_val T_105 ?_;simp [F105,hd,hx,e1];exact ⟨⟨_,x1⟩,x.Ja k1⟩
theorem wM (x:WorldAt h S w X) (hi:w.all[i]?=some m) {to e:Int} (hg:0<=m.g/\m.g<w.G) (h0:0<=to) (hle:gJ 2 to=true) (hs:wd w.ws (w.tb+m.g.toNat)=2) (hr:rB (e,m.g,(i:Int),m.p,0)=true) (hl:w.lg<=1000000000):∃ h',run T 104 [.ptr S.a 0,iQ (i:Int),uQ to,iQ e] h=some (.tuple [],h')/\WorldAt h' S (({w with ws:=w.ws.set (w.tb+m.g.toNat) to}:W).cd.az i {m with got:=-1,g:=-1,pl:=1}) X/\KX X h h':=by
 have ⟨own,x⟩:=x;have ⟨b,cs,room,rv,F,u,room0,hb,hc,hx,up,v,hF,hd,⟨f0,f1,f2,f3,f4,f5,f6,f7,f8,f9,f10,f11⟩,⟨l0,ll⟩,_⟩:=x.mz hi;have nF:∀ t∈F,t∉[S.mi,S.mj]:=fun t ht=>by have:=hF t ht;have:=x.mem;simp;constructor<;>(rintro rfl;omega)
 have na:S.a≠S.ao:=fun e=>by have:=x.ca;rw [e,x.all.1] at this;omega
 have ⟨cnt,mm,n1,n2,n3,n4⟩:=x.gC;have sz:=x.sz;have ⟨h1,e1,m1,k1⟩:=nh (F:=w.tb) (N:=w.G) x.nx mm (a:=2) (b:=to) (by omega) (by omega) hg (by exact hle) (iu sz).1 (iu sz).2;have hc1:=k1.obj hc (by simp [n1,n2]);have hd1:=k1.obj hd (by simp [n3,n4]);rw [if_pos hs] at m1;rw [decide_eq_true hs] at e1;have x1:=x.j7 0 m1 (by simp) k1;have ⟨u1,r1,hd1'⟩:=x1.hd;have ⟨h2,e2,x2,k2⟩:=rG (w:={w with ws:=w.ws.set (w.tb+m.g.toNat) to}) (i:=i) ⟨_,x1⟩ hi hr hl;have ⟨o2,x2⟩:=x2;have hi2:(({w with ws:=w.ws.set (w.tb+m.g.toNat) to}:W).cd).all[i]?=some m:=hi;have ⟨b2,c2,r2,v2,F2,hb2,hc2,hx2,up2,vv2,hF2⟩:=x2.fA hi2;have hbb:b2=b:=by rw [hb,hb2]
 subst hbb;have ⟨l20,ll2⟩:=up2.foc.lt;have ⟨y3,k3⟩:=x2.bY (m':={m with got:=-1,g:=-1,pl:=1}) hi2 hc2 hb2 (((up2.int 4 (-1)).int 2 (-1)).place 1) vv2 hF2;refine run_val T_104 ?_;simp [F104,-writeOf_some,hd,hx,hc,wrI,f2,e1,e2,hc1,hc2,ll2,l20];exact ⟨y3,((x.Ja k1).trans k2).trans k3⟩
theorem Dz (x:WorldAt h S w X) (hi:w.all[i]?=some m) (hn:wd w.ws (w.nt+i)≠1):∃ h',run T 71 [.ptr S.a 0,iQ (i:Int)] h=some (.bool false,h')/\WorldAt h' S (w) X/\KX X h h':=by
 have ⟨own,x⟩:=x;have ⟨b,cs,room,rv,F,u,room0,hb,hc,hx,up,v,hF,hd,⟨f0,f1,f2,f3,f4,f5,f6,f7,f8,f9,f10,f11⟩,⟨l0,ll⟩,_⟩:=x.mz hi;have nF:∀ t∈F,t∉[S.mi,S.mj]:=fun t ht=>by have:=hF t ht;have:=x.mem;simp;constructor<;>(rintro rfl;omega)
 have na:S.a≠S.ao:=fun e=>by have:=x.ca;rw [e,x.all.1] at this;omega
 have ⟨cnt,mm,n1,n2,n3,n4⟩:=x.gC;have sz:=x.sz;have s4:=sz.ws;have hiM:i<w.M:=by have:=(aa.1 hi).1;have:=x.lens;omega
 have ⟨h1,e1,m1,k1⟩:=tO (k:=((w.nt+i:Nat):Int)) mm (by omega) (by have:=oK sz hiM;omega);have hc1:=k1.obj hc (by simp [n1,n2]);have hd1:=k1.obj hd (by simp [n3,n4]);rw [aC] at e1 m1;have ew:IntKind.wrap .i64 ((w.nt:Int)+(i:Int))=((w.nt+i:Nat):Int):=by rw [iq (by omega) (by have:=oK sz hiM;have:=(iu sz).2;omega)];omega
 generalize ((w.nt+i:Nat):Int)=nk at e1 ew;rw [if_neg hn] at e1 m1;have y:=x.j7 0 m1 rfl k1;refine run_val T_71 ?_;simp [F71,hd,hx,e1,ew];exact ⟨⟨_,y⟩,x.Ja k1⟩
theorem An (x:WorldAt h S w X) (hi:w.all[i]?=some m) (hn:wd w.ws (w.nt+i)=1) (hx0:0<=m.nx):∃ h',run T 71 [.ptr S.a 0,iQ (i:Int)] h=some (.bool true,h')/\WorldAt h' S ((w.cR (w.nt+i) 0).az i {m with p:=m.nx,nx:=-1,sp:=true,pl:=4}) X/\KX X h h':=by
 have ⟨own,x⟩:=x;have ⟨b,cs,room,rv,F,u,room0,hb,hc,hx,up,v,hF,hd,⟨f0,f1,f2,f3,f4,f5,f6,f7,f8,f9,f10,f11⟩,⟨l0,ll⟩,_⟩:=x.mz hi;have hF':∀ t∈F,own t=8/\t<h.size:=fun t ht=>⟨hF t ht,v.lt t ht⟩
 have nF:∀ t∈F,t∉[S.mi,S.mj]:=fun t ht=>by have:=hF t ht;have:=x.mem;simp;constructor<;>(rintro rfl;omega)
 have na:S.a≠S.ao:=fun e=>by have:=x.ca;rw [e,x.all.1] at this;omega
 have ⟨cnt,mm,n1,n2,n3,n4⟩:=x.gC;have sz:=x.sz;have s4:=sz.ws;have hiM:i<w.M:=by have:=(aa.1 hi).1;have:=x.lens;omega
 have ⟨h1,e1,m1,k1⟩:=tO (k:=((w.nt+i:Nat):Int)) mm (by omega) (by have:=oK sz hiM;omega);have hc1:=k1.obj hc (by simp [n1,n2]);have hd1:=k1.obj hd (by simp [n3,n4]);rw [aC] at e1 m1;have ew:IntKind.wrap .i64 ((w.nt:Int)+(i:Int))=((w.nt+i:Nat):Int):=by rw [iq (by omega) (by have:=oK sz hiM;have:=(iu sz).2;omega)];omega
 generalize ((w.nt+i:Nat):Int)=nk at e1 ew;rw [if_pos hn] at e1 m1;have ⟨y2,k2⟩:=x.mn (m':={m with p:=m.nx,nx:=-1,sp:=true,pl:=4}) m1 (by simp) k1 hi hc1 hb ((((up.int 1 m.nx).int 3 (-1)).spin true).place 4) (v.keep k1 nF) hF';refine run_val T_71 ?_;simp [F71,-writeOf_some,-getElem?_pos,hd,hx,wrI,wrB,ll,l0,e1,ew,hc1,f3,show ¬ m.nx<0 by omega];exact ⟨y2,k2⟩
end
section
variable {h1:AHeap}
def findW (w:W) (i:Nat) (m:Mc):Option (W×Bool):=
 if 0<m.tm then some (w.cR w.sp (inc (wd w.ws w.sp) (-1)),false)
 else if m.tm=0 then match w.ip with
  | []=>some (w,true)
  | p::L=>match kH {w with ip:=L} with
   | some (k,w2)=>match w.all[k]? with
    | some mk=>if w.ms.length<=1000/\k≠i then some ((w2.az k {mk with nx:=(p:Int)}).az i {m with tg:=(k:Int)},false) else none
    | none=>none
   | none=>none
 else none
def IL (w:W) (i:Nat) (m:Mc):Option (W×Bool):=
 if m.pl=3 then
  if 0<=m.p then match w.rings[m.p.toNat]? with
   | some r=>if 0<=r.streak/\r.streak<=100 then some (oneW (w.gG m.p.toNat r.get.1) i m r.get.2.1 r.get.2.2,false) else none
   | none=>none
  else none
 else if m.pl=4 then (if w.gl.length<=1000 then some (foundW {w with gl:=w.gl.drop (shareN w.gl.length w.P)} i m (w.gl.take (shareN w.gl.length w.P)),false) else none)
 else if m.pl=6 then
  if 0<=m.p+m.ii/\m.p+m.ii<=100000 then match w.rings[((m.p+m.ii) % (w.P:Int)).toNat]? with
   | some r=>if r.row.length<=256 then some (foundW (w.gG ((m.p+m.ii) % (w.P:Int)).toNat r.fp.1) i m r.fp.2,false) else none
   | none=>none
  else none
 else if m.pl=17 then
  if 0<=m.p then match w.rings[m.p.toNat]? with
   | some r=>if r.row.length+m.rest.length<=256 then some ((w.gG m.p.toNat {r with row:=r.row++m.rest}).az i {m with rest:=[]},false) else none
   | none=>none
  else none
 else if m.pl=28 then
  if 0<=m.p then match w.rings[m.p.toNat]? with
   | some r=>if r.row.length<256 then some ((w.gG m.p.toNat (r.ready m.got)).az i {m with rest:=[],got:=-1},false) else none
   | none=>none
  else none
 else if m.pl=23 then findW w i m
 else none
theorem qK {w w2:W} {k:Nat} (h:kH w=some (k,w2)):w2.all=w.all:=by
 unfold kH at h;split at h
 . split at h
   . cases h;rfl
   . cases h
 . split at h
   . cases h;rfl
   . cases h
section
variable {h h' h'':AHeap} {S:jb} {w w':W} {X F G:List Nat} {own:Nat->Nat} {i k:Nat} {m:Mc} {r:Rg} {more:Bool}
theorem IH (x:WorldAt h S w X) (hi:w.all[i]?=some m) (hd:findW w i m=some (w',more)):∃ h',run T 153 [.ptr S.a 0,iQ (i:Int),iQ m.tm] h=some (.bool more,h')/\WorldAt h' S w' X/\KX X h h':=by
 unfold findW at hd;split at hd
 . rename_i ht;cases hd;exact KF x hi ht
 split at hd;case isFalse=>cases hd
 rename_i ht;rw [ht];split at hd
 . rename_i hn;cases hd;exact A7 x hi hn
 . rename_i p L hp;split at hd;case h_2=>cases hd
   rename_i k w2 hk;split at hd;case h_2=>cases hd
   rename_i mk hmk;split at hd;case isFalse=>cases hd
   rename_i hl;cases hd;exact Na x hi hp hk hl.1 (show w2.all=w.all from qK (w:={w with ip:=L}) hk) hmk hl.2
theorem IK (x:WorldAt h S w X) (hi:w.all[i]?=some m) (hp:m.pl=23) {times:Int} (e1:run T 153 [.ptr S.a 0,iQ (i:Int),iQ times] h=some (.bool more,h1)):run T 113 [.ptr S.a 0,iQ (i:Int),iQ times] h=some (.bool more,h1):=by have ⟨own,x⟩:=x;have ⟨b,cs,room,rv,Fr,u,room0,hb,hc,hx,up,v,hF,hd,⟨f0,f1,f2,f3,f4,f5,f6,f7,f8,f9,f10,f11⟩,_⟩:=x.mz hi;rw [hp] at f0;refine run_eq T_113 ?_;simp [F113,hd,hx,hc,f0,e1]
theorem QT (x:WorldAt h S w X) (hi:w.all[i]?=some m) (hd:IL w i m=some (w',more)):∃ h',run T 113 [.ptr S.a 0,iQ (i:Int),iQ m.tm] h=some (.bool more,h')/\WorldAt h' S w' X/\KX X h h':=by
 unfold IL at hd;split at hd
 . rename_i hp;split at hd;case isFalse=>cases hd
   rename_i h0;split at hd;case h_2=>cases hd
   rename_i r hr;split at hd;case isFalse=>cases hd
   rename_i hs;cases hd;exact Nm x hi hp (aH h0).symm hr hs m.tm
 split at hd
 . rename_i _ hp;split at hd;case isFalse=>cases hd
   rename_i hl;cases hd;exact KR x hi hp hl m.tm
 split at hd
 . rename_i _ _ hp;split at hd;case isFalse=>cases hd
   rename_i h0;split at hd;case h_2=>cases hd
   rename_i r hr;split at hd;case isFalse=>cases hd
   rename_i hs;cases hd;have hP:(0:Int)<w.P:=by have ⟨o,x⟩:=x;have:=x.sz.P;omega
   exact Nk x hi hp h0 (aH (oR _ (by omega))).symm hr hs m.tm
 split at hd
 . rename_i _ _ _ hp;split at hd;case isFalse=>cases hd
   rename_i h0;split at hd;case h_2=>cases hd
   rename_i r hr;split at hd;case isFalse=>cases hd
   rename_i hs;cases hd;exact Hi x hi hp (aH h0).symm hr hs m.tm
 split at hd
 . rename_i _ _ _ _ hp;split at hd;case isFalse=>cases hd
   rename_i h0;split at hd;case h_2=>cases hd
   rename_i r hr;split at hd;case isFalse=>cases hd
   rename_i hs;cases hd;exact Hj x hi hp (aH h0).symm hr hs m.tm
 split at hd;case isFalse=>cases hd
 rename_i _ _ _ _ _ hp;have ⟨h1,e1,x1,k1⟩:=IH x hi hd;exact ⟨h1,IK x hi hp e1,x1,k1⟩
def BB (m:Mc):Bool:=decide ((m.pl=2\/m.pl=3\/m.pl=4\/m.pl=6\/m.pl=7\/m.pl=17\/m.pl=18\/m.pl=28\/m.pl=27\/m.pl=23)/\-1000<=m.ii/\m.ii<=1000)
theorem then_ok (x:WorldAt h S w X) (hi:w.all[i]?=some m) {is:Bool} (hf:w.flag[i]?=some is) (ho:BB m=true):∃ h',run T 114 [.ptr S.a 0,iQ (i:Int)] h=some (.tuple [],h')/\WorldAt h' S (w.az i (thenM m is w.P)) X/\KX X h h':=by
 simp [BB,decide_eq_true_eq] at ho;have ⟨hp,hii⟩:=ho;rcases hp with hp | hp | hp | hp | hp | hp | hp | hp | hp | hp
 . exact LF x hi hf hp hii
 . exact LD x hi hf hp hii
 . exact LC x hi hf hp hii
 . exact LB x hi hf hp hii
 . exact LA x hi hf hp hii
 . exact H2 x hi hf hp
 . exact H0 x hi hf hp
 . exact HX x hi hf hp
 . exact HY x hi hf hp
 . exact HZ x hi hf hp
theorem yw {p q:Nat} (hp:h.get p=some (Qc [.ptr S.a 0] none)) (hq:h.get q=some (Qc [iQ (i:Int)] none)) {t:Int} (e:run T 113 [.ptr S.a 0,iQ (i:Int),iQ t] h=some (.bool more,h1)):run T 112 [iQ t,.ptr p 0,.ptr q 0] h=some (.bool more,h1):=by refine run_eq Xs ?_;simp [TU,hp,hq,e]
theorem WorldAt.two (x:WorldAt h S w X):∃ h2,h2=(h.push (Qc [.ptr S.a 0] none)).push (Qc [iQ (i:Int)] none)/\WorldAt h2 S w ((h.size+1)::h.size::X)/\KX X h h2/\h2.get h.size=some (Qc [.ptr S.a 0] none)/\h2.get (h.size+1)=some (Qc [iQ (i:Int)] none):=by have ⟨x1,k1⟩:=x.push (Qc [.ptr S.a 0] none);have ⟨x2,k2⟩:=x1.push (Qc [iQ (i:Int)] none);refine ⟨_,rfl,by simpa using x2,k1.trans (k2.sub (by simp;intro t ht;exact dx ht)),aJ ak,?_⟩;rw [<- dH (h:=h) (x:=.cells false [.ptr S.a 0] none),ak]
theorem nu (x:WorldAt h S w X) (hi:w.all[i]?=some m) (hin:m.inn=true) (z:AV) (step:∀ h2,WorldAt h2 S w ((h.size+1)::h.size::X)->h2.get h.size=some (Qc [.ptr S.a 0] none)->h2.get (h.size+1)=some (Qc [iQ (i:Int)] none)->∃ h3,run T 111 [.ptr S.ao (S.ab+i*18+13),.ptr S.mi 0,.func 112 [] [.ptr h.size 0,.ptr (h.size+1) 0]] h2=some (.bool false,h3)/\WorldAt h3 S w' ((h.size+1)::h.size::X)/\KX ((h.size+1)::h.size::X) h2 h3):∃ h',run T 73 [.ptr S.a 0,iQ (i:Int),z] h=some (.tuple [],h')/\WorldAt h' S w' X/\KX X h h':=by have ⟨h2,e2,x2,k2,q1,q2⟩:=x.two (i:=i);have ⟨h3,e3,x3,k3⟩:=step h2 x2 q1 q2;have ⟨own,x2⟩:=x2;have ⟨b,cs,room,rv,Fr,u,room0,hb,hc,hx,up,v,hF,hd,⟨f0,f1,f2,f3,f4,f5,f6,f7,f8,f9,f10,f11⟩,_⟩:=x2.mz hi;rw [hin] at f8;rw [<- hb] at e3;refine run_val T_73 ?_;simp [F73,<- e2,q1,q2,hd,hx,hc,f8,e3,ad];exact ⟨x3.sub (by simp;intro t ht;simp [ht]),k2.trans (k3.sub (by simp;intro t ht;simp [ht]))⟩
end
end
section
set_option maxHeartbeats 2000000
variable {o:Nat} {cs:List AV}
theorem ko {v:AV} {vs:List AV} (ho:o<cs.length):splice cs o (v::vs)=splice (cs.set o v) (o+1) vs:=by
 have h1:(cs.set o v).take (o+1)=cs.take o++[v]:=by rw [mq (by simpa using ho)];simp [List.take_set_of_le]
 have h2:(cs.set o v).drop (o+1+vs.length)=cs.drop (o+(vs.length+1)):=by rw [List.drop_set_of_lt (by omega)];congr 1;omega
 unfold splice;rw [h1,h2];simp
theorem F0 :splice cs o []=cs:=by simp [splice]
def enterM (m:Mc) (a b:Int):Mc:={m with ln:=a,ls:=b,st:=0,tk:=0,tm:=0,inn:=true}
section
variable {h h' h'':AHeap} {S:jb} {w w':W} {X F G:List Nat} {own:Nat->Nat} {i k:Nat} {m:Mc} {r:Rg} {more:Bool}
theorem sa {g2 g3:Int} (hg2:g2=((2*k:Nat):Int)) (hg3:g3=((2*k+1:Nat):Int)) (x:WorldAt h S w X) (hi:w.all[i]?=some m) (hin:m.inn=false) (hk:k<=1000) (hl:2*k<w.ws.length) (h0:0<=wd w.ws (2*k)/\wd w.ws (2*k)<18446744073709551616):∃ h',run T 73 [.ptr S.a 0,iQ (i:Int),iQ (k:Int)] h=some (.tuple [],h')/\WorldAt h' S ((({(w.az i (enterM m g2 g3)).aL i false with ws:=w.ws.set (2*k) (inc (wd w.ws (2*k)) 1)}:W)).az i {enterM m g2 g3 with tk:=wd w.ws (2*k),st:=1}) X/\KX X h h':=by
 have ⟨h2,e2,x2,k2,q1,q2⟩:=x.two (i:=i);have ⟨h3,e3,k3⟩:=NO h2 g2 g3;have ⟨x3,kx3⟩:=x2.still k3;have r1:=k3.obj q1 (by simp);have r2:=k3.obj q2 (by simp);have ⟨own,x2⟩:=x2;have ⟨b,cs,room,rv,Fr,u,room0,hb,hc,hx,up,v,hF,hd,⟨f0,f1,f2,f3,f4,f5,f6,f7,f8,f9,f10,f11⟩,⟨l0,ll⟩,_⟩:=x2.mz hi;rw [hin] at f8;have hc3:=k3.obj hc (by simp);have hd3:=k3.obj hd (by simp);have v3:=v.keep k3 (by simp);have x3':=x2.alloc k3 0;have uu:=((((((up.int 13 g2).int 14 g3).int 15 0).tk 0).int 17 0).inn true)
 have uu:Up cs _ b (enterM m g2 g3) rv:=uu;have ⟨⟨own4,x4⟩,k4⟩:=x3'.bY (m':=enterM m g2 g3) hi hc3 hb uu v3 (fun t ht=>by rw [ext_same _ _ _ _ (v.lt t ht)];exact hF t ht);obtain ⟨is,hf⟩:∃ is,w.flag[i]?=some is:=⟨_,ah (show i<w.flag.length by have:=(aa.1 hi).1;have:=x2.lens;omega)⟩
 have ⟨room2,hfl,hfx,hfa,hfL⟩:=x2.fl hf;have nf:S.fo≠S.ao:=fun e=>by have:=x2.flag.1;rw [e,x2.all.1] at this;omega
 have na:S.a≠S.ao:=fun e=>by have:=x2.ca;rw [e,x2.all.1] at this;omega
 have nfa:S.a≠S.fo:=fun e=>by have:=x2.ca;rw [e,x2.flag.1] at this;omega
 have o1:=x2.out h.size (by simp);have o2:=x2.out (h.size+1) (by simp);have nA:h.size≠S.ao/\h.size+1≠S.ao:=⟨fun e=>by have:=x2.all.1;rw [<- e] at this;omega,fun e=>by have:=x2.all.1;rw [<- e] at this;omega⟩
 have nB:h.size≠S.fo/\h.size+1≠S.fo:=⟨fun e=>by have:=x2.flag.1;rw [<- e] at this;omega,fun e=>by have:=x2.flag.1;rw [<- e] at this;omega⟩
 have hfl3:=k3.obj hfl (by simp);have x5:=x4.Dr (t':=w.flag.set i false) (room:=room2) (by simp [W.az]);have kx5:=x4.kx (c:=9) (G:=[S.fo]) (h':=(h3.put S.ao (Qc ((((((cs.set (b+13) (iQ g2)).set (b+14) (iQ g3)).set (b+15) (iQ 0)).set (b+16) (uQ 0)).set (b+17) (iQ 0)).set (b+8) (.bool true)) room)).put S.fo (Qc (boolsA (w.flag.set i false)) room2)) (Keep.put (by simp)) (by simpa using x4.flag.1) (by omega);have hi5:((w.az i (enterM m g2 g3)).aL i false).all[i]?=some (enterM m g2 g3):=setm_at hi;have ⟨h6,e6,x6,k6⟩:=JI (w:=(w.az i (enterM m g2 g3)).aL i false) (N:=2*k) (Z:=2*k+1) ⟨own4,x5⟩ hi5 rfl hg2 hg3 hl h0 (.func 112 [] [.ptr h.size 0,.ptr (h.size+1) 0]);rw [<- hb] at e6;have hw5:writeOf h3 S.ao (some (Qc cs room)) (b+13) [iQ g2,iQ g3,iQ 0,uQ 0,iQ 0]=some (h3.put S.ao (Qc (((((cs.set (b+13) (iQ g2)).set (b+14) (iQ g3)).set (b+15) (iQ 0)).set (b+16) (uQ 0)).set (b+17) (iQ 0)) room)):=by have:=ll 17 (by omega);rw [writeOf_some,if_pos ⟨by simp;omega,rfl⟩,ko (by omega),ko (by simp;omega),ko (by simp;omega),ko (by simp;omega),ko (by simp;omega),F0]
 have ew2:wQ (2*(k:Int))=g2:=zQ
 have ew3:wQ (g2+1)=g3:=zQ
 refine run_val T_73 ?_;simp [-writeOf_some,-getElem?_pos,F73,<- e2,q1,q2,r1,r2,hd,hx,hc,hc3,hd3,f8,e3,hw5,ew2,ew3,ad,wrB,ll,get_put_ne,na,nf,nfa,nA,nB,hfl3,hfx,hfL,boolsA_set,e6];exact ⟨x6.sub (by simp;intro t ht;simp [ht]),k2.trans ((((kx3.trans k4).trans kx5).trans k6).sub (by simp;intro t ht;simp [ht]))⟩
end
end
end Go.Proofs.YtblhcbmcbhoeiaaGreatDoor.Ev
