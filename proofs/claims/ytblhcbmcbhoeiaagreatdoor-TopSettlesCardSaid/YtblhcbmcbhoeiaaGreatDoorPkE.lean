/- Part 5 of the proof. -/
import Derived.Test.YtblhcbmcbhoeiaaGreatDoorPkD
set_option linter.all false
set_option maxRecDepth 100000
namespace Go.Proofs.YtblhcbmcbhoeiaaGreatDoor.Ev
open Go
section
variable {h h':AHeap} {ti li hi si:Nat} {Fs:Nat->List Nat} {t:Tm} {s:dU} {L:fZ} {full:Bool}
theorem RG (h:AHeap) {P:Nat} (hP:1<=P/\P<=64):∃ h1,run T 90 [iQ (P:Int)] h=some (.ptr (h.size+2) 0,h1)/\Keep [] h h1/\h1.size=h.size+3/\h1.get h.size=some (Qc (List.replicate P .nilslice) none)/\h1.get (h.size+1)=some (.map [] [] 0)/\h1.get (h.size+2)=some (Qc [.slice h.size 0 P (.exact P),uQ 0,.map (h.size+1)] none):=by
 have hb:(P:Int)*24<=bigA/\P<=bigA:=by simp [bigA];omega
 have e1:max (1:Int) (P:Int)=(P:Int):=by omega
 have e2:min (P:Int) (64:Int)=(P:Int):=by omega
 obtain ⟨h1,hh1⟩:∃ h1,h1=((h.push (Qc (List.replicate P .nilslice) none)).push (.map [] [] 0)).push (Qc [.slice h.size 0 P (.exact P),uQ 0,.map (h.size+1)] none):=⟨_,rfl⟩
 refine ⟨h1,run_eq SA ?_,?_,?_,?_,?_,?_⟩
 . simp [XK,e1,e2,hb,jw,hh1]
 . rw [hh1];exact (Keep.push.trans' Keep.push).trans' Keep.push
 . rw [hh1];simp
 . rw [hh1];exact aJ (aJ ak)
 . rw [hh1];refine aJ ?_;rw [<- dH (h:=h) (x:=.cells false (List.replicate P .nilslice) none)];exact ak
 . rw [hh1];have:h.size+2=((h.push (Qc (List.replicate P .nilslice) none)).push (.map [] [] 0)).size:=by simp
   rw [this];exact ak
theorem Ks (l:List Int):eW (iM l)=true:=by unfold eW iM;rw [aQ];intro e he;obtain ⟨g,_,rfl⟩:=gk.1 he;rfl
def SD (h:AHeap) (t:Tm) (ti:Nat) (n:Nat) (fr:FF) (g:AHeap):Prop:=∃ (c:Nat) (us:List AV) (F2:Nat->List Nat),c+n=t.hs.length/\us.length=c/\Keep [] h g/\h.size+3<=g.size/\
 g.get (h.size+2)=some (.cells false [.slice h.size 0 t.hs.length (.exact t.hs.length),.int .u64 t.ord,.map (h.size+1)] none)/\
 g.get h.size=some (.cells false (us++List.replicate (t.hs.length-c) .nilslice) none)/\g.get (h.size+1)=some (.map [] [] 0)/\
 (∀ k l,k<c->t.hs[k]?=some l->∃ u,us[k]?=some u/\Vec g 3 (fD l) (F2 k) u)/\(∀ k,k<c->∀ z∈F2 k,h.size+3<=z/\z<g.size)/\(∀ k k',k<c->k'<c->k≠k'->∀ z∈F2 k,z∉F2 k')/\
 fr.get 0=.ptr ti 0/\fr.get 3=.ptr (h.size+2) 0/\fr.get 23=.int .i64 (t.hs.length:Int)/\fr.get 24=.int .i64 (c:Int)
theorem LH (x:mR h ti li hi Fs t true) (h1:1<=t.hs.length) (hb:∀ (k:Nat) l,t.hs[k]?=some l->l.length<=1000000):∃ v h',run T 88 [.ptr ti 0] h=some (v,h')/\v=.ptr (h.size+2) 0/\Keep [] h h'/\∃ F2,mR h' (h.size+2) h.size (h.size+1) F2 t false/\h.size+3<=h'.size/\∀ k,k<t.hs.length->∀ z∈F2 k,h.size+3<=z/\z<h'.size:=by
 have ⟨⟨room,a⟩,hp,has,dj,ni,sz,hlt⟩:=x;have ⟨bs,ck,m1,m2,m3⟩:=has rfl;have ⟨g1,eN,kN,sN,n0,n1,n2⟩:=RG h (P:=t.hs.length) ⟨h1,sz⟩;have a1:=kN.obj a (by simp);have w1:writeOf g1 (h.size+2) (some (Qc [.slice h.size 0 t.hs.length (.exact t.hs.length),uQ 0,.map (h.size+1)] none)) 1 [uQ t.ord]=some (g1.put (h.size+2) (Qc [.slice h.size 0 t.hs.length (.exact t.hs.length),uQ t.ord,.map (h.size+1)] none)):=by rw [wr1 (by simp) rfl];rfl
 obtain ⟨g2,hg2⟩:∃ g2,g2=g1.put (h.size+2) (Qc [.slice h.size 0 t.hs.length (.exact t.hs.length),uQ t.ord,.map (h.size+1)] none):=⟨_,rfl⟩
 have k12:Keep [h.size+2] g1 g2:=by rw [hg2];exact Keep.put (by simp)
 have kz:Keep [] h g2:=kN.trans k12 (by simp);have p2:g2.get (h.size+2)=some (Qc [.slice h.size 0 t.hs.length (.exact t.hs.length),uQ t.ord,.map (h.size+1)] none):=by rw [hg2,get_put_same,n2];rfl
 have p0:g2.get h.size=some (Qc (List.replicate t.hs.length .nilslice) none):=k12.obj n0 (by simp);have p1:=k12.obj n1 (by simp);have a2:=kz.obj a (by simp);have s2:g2.size=h.size+3:=by rw [hg2];simp [sN]
 refine dQ Zn ?_;simp [-writeOf_some,-getElem?_pos,YB,mU,XT,B88,a,eN,a1,n2,w1,<- hg2,a2,ad];refine Wp.loop (SD h t ti) t.hs.length lQ ?_ ?_
 . exact ⟨0,[],fun _=>[],by simp,rfl,kz,by omega,p2,by simpa using p0,p1,by simp,by simp,by simp,by simp⟩
 rintro n fr g ⟨c,us,F2,hc,hus,k,sg,q2,q0,q1,hv,hF,hd,s0,s3,s23,s24⟩;have ag:=k.obj a (by simp);by_cases hmore:c<t.hs.length
 . have hm:(c:Int)<(t.hs.length:Int):=by omega
   obtain ⟨l,hl⟩:∃ l,t.hs[c]?=some l:=⟨_,ah hmore⟩
   have ⟨g3,q',u,F',e3,c3,v3,k3,l3,f3,f3'⟩:=M1 ((hp c l hl).still k) (hb c l hl);have i1:idxAddrV 1 none (.slice li 0 t.hs.length (.exact t.hs.length)) (iQ (c:Int))=some (.ptr li c):=by simp [idxAddrV];omega
   have i2:idxAddrV 1 none (.slice h.size 0 t.hs.length (.exact t.hs.length)) (iQ (c:Int))=some (.ptr h.size c):=by simp [idxAddrV];omega
   have ⟨u1,u2⟩:=mB v3;have q03:=k3.obj q0 (by simp);have q23:=k3.obj q2 (by simp);have a3:=k3.obj ag (by simp)
   obtain ⟨us',hus'⟩:∃ us',us'=us++[u]:=⟨_,rfl⟩
   have w3:writeOf g3 h.size (some (Qc (us++List.replicate (t.hs.length-c) .nilslice) none)) c [u]=some (g3.put h.size (Qc (us'++List.replicate (t.hs.length-(c+1)) .nilslice) none)):=by rw [wr1 (by simp;omega) u2];congr 3;rw [hus',List.set_append_right _ _ (by omega),show c-us.length=0 by omega,show t.hs.length-c=(t.hs.length-(c+1))+1 by omega,Dl];simp
   have kp:Keep [h.size] g3 (g3.put h.size (Qc (us'++List.replicate (t.hs.length-(c+1)) .nilslice) none)):=Keep.put (by simp)
   obtain ⟨F3,e31,e32⟩:∃ F3:Nat->List Nat,F3 c=F'/\∀ j,j≠c->F3 j=F2 j:=⟨fun j=>if j=c then F' else F2 j,if_pos rfl,fun j hj=>if_neg hj⟩
   have kk:=k3.mono (G:=[h.size]) (by simp);have s3z:=k3.size;simp [-writeOf_some,-getElem?_pos,s0,s3,s23,s24,hm,q2,ag,i1,e3,c3,i2,q03,q23,w3,ad];refine ⟨n-1,by omega,c+1,us',F3,by omega,by simp [hus',hus],(k.trans' k3).trans kp (by simp),by simp;omega,(kk.trans' kp).obj q2 (by simp),?_,(kk.trans' kp).obj q1 (by simp),fun j l' hj hjl=>?_,fun j hj z hz=>?_,fun j j' hj hj' hne z hz hz'=>?_,by simp [s0,s3,s23,wrap_nat (c:=c) (by omega)]⟩
   . rw [get_put_same,q03];simp
   . by_cases hjc:j=c
     . subst hjc;rw [hl] at hjl;cases hjl;refine ⟨u,by rw [hus',aB (by omega)];simp [hus],?_⟩;rw [e31];exact v3.keep kp fun z hz=>by have:=f3 z hz;simp;omega
     . have ⟨u',e',v'⟩:=hv j l' (by omega) hjl;refine ⟨u',by rw [hus',ay (by omega)];exact e',?_⟩;rw [e32 _ hjc];exact v'.keep (kk.trans' kp) fun z hz=>by have:=hF j (by omega) z hz;simp;omega
   . simp [LV];by_cases hjc:j=c
     . rw [hjc,e31] at hz;have:=f3 z hz;have:=v3.lt z hz;omega
     . rw [e32 _ hjc] at hz;have:=hF j (by omega) z hz;omega
   . by_cases hjc:j=c
     . rw [hjc,e31] at hz;by_cases hjc':j'=c
       . omega
       . rw [e32 _ hjc'] at hz';have:=f3 z hz;have:=hF j' (by omega) z hz';omega
     . rw [e32 _ hjc] at hz;by_cases hjc':j'=c
       . rw [hjc',e31] at hz';have:=f3 z hz';have:=hF j (by omega) z hz;omega
       . rw [e32 _ hjc'] at hz';exact hd j j' (by omega) (by omega) hne z hz hz'
 . have hcx:c=t.hs.length:=by omega
   have mg:=k.obj m1 (by simp);have en:natA g 2 (.map (h.size+1)) (.map hi)=some (undefA,g.put (h.size+1) .dead):=by have e1:g.objs[hi]?=some (.map (iM t.has) bs ck):=mg;have e2:g.objs[h.size+1]?=some (.map [] [] 0):=q1;simp only [natA,e1,e2];rw [if_pos ⟨m2,by omega,Ks _,rfl⟩]
   simp [-getElem?_pos,s0,s3,s23,s24,hcx,ag,q2,en,ad];have kp:Keep [h.size+1] g (g.put (h.size+1) .dead):=Keep.put (by simp);refine ⟨k.trans kp (by simp),F2,⟨⟨none,kp.obj q2 (by simp)⟩,fun j l hj=>?_,by simp,fun j j' hj hj'=>hd j j' (by omega) (by omega),⟨by omega,by omega,by omega,fun j hj z hz=>by have:=hF j (by omega) z hz;omega⟩,sz,by simp;omega⟩,sg,fun j hj z hz=>hF j (by omega) z hz⟩;have hjl:=(aa.1 hj).1;obtain ⟨u,e,v⟩:=hv j l (by omega) hj;refine ⟨⟨u,none,_,kp.obj q0 (by simp),by rw [ay (by omega)];exact e,v.keep kp fun z hz=>by have:=hF j (by omega) z hz;simp;omega⟩,fun hm=>by have:=hF j (by omega) _ hm;omega⟩
structure Dh (s:dU):Prop where
 h1:1<=s.t.hs.length
 hb:∀ (k:Nat) l,s.t.hs[k]?=some l->l.length<=1000000
theorem L9 (x:dP h si L s true) (hp:Dh s):∃ p L' h',run T 42 [.ptr si 0] h=some (.ptr p 0,h')/\dP h' p L' s false/\Keep [] h h':=by
 have ⟨⟨room,a⟩,t,p,r1,r2,r3,r4⟩:=x;obtain ⟨v1,h1,e1,rfl,k1,F2,y1,l1,f1⟩:=LH t hp.h1 hp.hb;have a1:=k1.obj a (by simp);have ⟨h2,pi',fi',wi',e2,y2,k2,g1,g2,g3⟩:=Mw (p.still k1);have a2:=k2.obj a1 (by simp);have kk:=k1.trans' k2;refine ⟨h2.size,⟨h.size+2,h.size,h.size+1,pi',fi',wi',F2⟩,_,run_eq ZW (h':=h2.push (Qc [iQ s.now,.ptr (h.size+2) 0,.ptr pi' 0,iQ s.waits] none)) ?_,?_,kk.trans' Keep.push⟩
 . simp [-getElem?_pos,F42,a,e1,a1,e2,a2,ad]
 . have k3:Keep [] h2 (h2.push (Qc [iQ s.now,.ptr (h.size+2) 0,.ptr pi' 0,iQ s.waits] none)):=Keep.push;have s2:=k2.size;have z1:pi'<h2.size/\fi'<h2.size/\wi'<h2.size:=by have ⟨⟨_,b1⟩,⟨_,_,b2,_⟩,⟨_,_,b3,_⟩,_⟩:=y2;exact ⟨get_lt b1,get_lt b2,get_lt b3⟩
   refine ⟨⟨none,ak⟩,(y1.still k2).still k3,y2.still k3,r1,?_,?_,fun k hk z hz=>?_⟩
   . simp only;omega
   . simp only [aD,List.not_mem_nil,or_false];rintro z (rfl | rfl | rfl)<;>omega
   . have:=f1 k hk z hz;simp only;omega
end
end Go.Proofs.YtblhcbmcbhoeiaaGreatDoor.Ev
namespace Go.Proofs.YtblhcbmcbhoeiaaGreatDoor.Sch
open Go
section
variable {n k j:Nat} {α:Type} {f g:Nat->Nat}
structure Am where
 pl:Int
 p:Int
 g:Int
 nx:Int
 got:Int
 tg:Int
 ii:Int
 sp:Bool
 rest:List Int
 bk:Int
 af:Int
 md:Int
structure St where
 P:Nat
 M:Nat
 G:Nat
 spin:Int
 note:Nat->Int
 stt:Nat->Int
 ring:Nat->List Int
 gl:List Int
 ip:List Nat
 pend:List Int
 ms:List Int
 q:Int
 mc:Nat->Am
 due:Bool
 out:List Int
def upd {α:Type} (f:Nat->α) (i:Nat) (v:α):Nat->α:=fun j=>if j=i then v else f j
theorem aT {f:Nat->α} {i:Nat} {v:α}:upd f i v i=v:=if_pos rfl
theorem upd_ne {f:Nat->α} {i:Nat} {v:α} (h:j≠i):upd f i v j=f j:=if_neg h
def sumTo (f:Nat->Nat):Nat->Nat
 | 0=>0
 | n+1=>sumTo f n+f n
theorem kh (h:∀ j,j<n->f j=g j):sumTo f n=sumTo g n:=by
 induction n with
 | zero=>rfl
 | succ n ih=>simp [sumTo];rw [ih fun j hj=>h j (by omega),h n (by omega)]
theorem iw (h:∀ j,j<n->f j<=g j):sumTo f n<=sumTo g n:=by
 induction n with
 | zero=>exact aq _
 | succ n ih=>simp [sumTo];have:=ih fun j hj=>h j (by omega);have:=h n (by omega);omega
theorem cy {i:Nat} (hi:i<n):f i<=sumTo f n:=by
 induction n with
 | zero=>omega
 | succ n ih=>
  simp [sumTo];by_cases h:i=n
  . subst h;omega
  . have:=ih (by omega);omega
theorem tv (h:0<sumTo f n):∃ i,i<n/\0<f i:=by
 induction n with
 | zero=>cases h
 | succ n ih=>
  simp [sumTo] at h;by_cases h0:0<f n
  . exact ⟨n,by omega,h0⟩
  . have ⟨i,h1,h2⟩:=ih (by omega);exact ⟨i,by omega,h2⟩
theorem dW (h:∀ j,j<n->f j=0):sumTo f n=0:=by
 rcases dd (sumTo f n) with h0 | h0
 . exact h0
 . have ⟨i,h1,h2⟩:=tv h0;rw [h i h1] at h2;cases h2
theorem dM {i:Nat} (hi:i<n) (h:∀ j,j<n->j≠i->g j=f j):sumTo g n+f i=sumTo f n+g i:=by
 induction n with
 | zero=>omega
 | succ n ih=>
  simp [sumTo];by_cases h0:i=n
  . subst h0;have:=kh (f:=g) (g:=f) (n:=i) fun j hj=>h j (by omega) (by omega);omega
  . have:=ih (by omega) fun j hj hji=>h j (by omega) hji;have:=h n (by omega) (fun e=>h0 e.symm);omega
theorem jO (f g:Nat->Nat) (n:Nat):sumTo (fun j=>f j+g j) n=sumTo f n+sumTo g n:=by
 induction n with
 | zero=>rfl
 | succ n ih=>simp [sumTo];omega
theorem iz (c n:Nat):sumTo (fun _=>c) n=n*c:=by
 induction n with
 | zero=>simp [sumTo]
 | succ n ih=>simp [sumTo,ih,dy]
def gm (m:Am):Prop:=m.pl=8\/m.pl=9\/m.pl=10\/m.pl=11\/m.pl=13\/m.pl=14\/m.pl=15\/m.pl=16\/((m.pl=25\/m.pl=26)/\m.af=13)\/((m.pl=27\/m.pl=21\/m.pl=22\/m.pl=23\/m.pl=24)/\m.bk=25/\m.af=13)
instance (m:Am):Decidable (gm m):=by unfold gm;infer_instance
def hp (m:Am) (p:Nat):Nat:=(if m.p=(p:Int) then 1 else 0)+(if m.nx=(p:Int) then 1 else 0)
def eH (m:Am):Prop:=m.pl=4\/m.pl=5\/m.pl=6\/m.pl=7\/m.pl=12\/m.pl=17
instance (m:Am):Decidable (eH m):=by unfold eH;infer_instance
def hc (m:Am) (p:Nat):Nat:=(if m.nx=(p:Int) then 1 else 0)+(if m.p=(p:Int)/\eH m then 1 else 0)
def hs (m:Am):Nat:=(if m.sp=true then 1 else 0)+(if 0<=m.nx then 1 else 0)+(if m.pl=23 then 1 else 0)
def ht (m:Am) (i:Nat):Nat:=if m.tg=(i:Int) then 1 else 0
def aU (m:Am):Nat:=if m.pl=14\/m.pl=15\/m.pl=16 then 1 else 0
def qi (q:Int) (i:Nat):Nat:=if q=(i:Int) then 1 else 0
def r0 (m:Am):Prop:=m.sp=true\/0<=m.nx\/m.pl=17\/m.pl=19\/m.pl=21\/m.pl=22\/m.pl=27\/m.pl=28\/(m.pl=23/\m.md=0)\/m.pl=11\/m.pl=12
instance (m:Am):Decidable (r0 m):=by unfold r0;infer_instance
def w1 (m:Am) (k:Nat):Nat:=if r0 m\/(m.pl=9/\m.ii<=(k:Int)) then 1 else 0
def wg (m:Am):Nat:=if r0 m\/m.pl=9\/m.pl=10 then 1 else 0
def w3 (m:Am):Nat:=if r0 m\/m.pl=8\/m.pl=9\/m.pl=10\/m.pl=13\/((m.pl=25\/m.pl=26)/\m.af=13)\/((m.pl=23\/m.pl=24)/\m.bk=25/\m.af=13) then 1 else 0
def w2 (q:Int) (j:Nat) (m:Am):Nat:=if m.pl=25\/m.pl=26\/((m.pl=27\/m.pl=21\/m.pl=22\/m.pl=23\/m.pl=24)/\m.bk=25)\/((m.pl=14\/m.pl=15)/\q=(j:Int))\/((m.pl=29\/m.pl=30)/\m.md=2) then 1 else 0
def told (note:Int) (m:Am):Nat:=if note=1/\m.nx<0 then 1 else 0
structure oC (P M G:Nat) (m:Am):Prop where
 pl:0<=m.pl/\m.pl<=30/\m.pl≠18
 p:if gm m then m.p=-1 else 0<=m.p/\m.p<P
 nx:-1<=m.nx/\m.nx<P/\(0<=m.nx->m.pl=14\/m.pl=15\/m.pl=16)
 sp:m.sp=true->m.pl=4\/m.pl=6\/m.pl=7\/m.pl=8\/m.pl=17\/m.pl=19
 sp2:m.pl=6\/m.pl=7\/m.pl=8\/m.pl=19->m.sp=true
 tg:if m.pl=24 then 0<=m.tg/\m.tg<M else m.tg=-1
 g:if m.pl=0\/m.pl=28\/m.pl=29\/m.pl=30\/((m.pl=21\/m.pl=22\/m.pl=23\/m.pl=24)/\m.bk=0) then 0<=m.g/\m.g<G else m.g=-1
 got:if m.pl=17\/m.pl=19\/m.pl=20\/m.pl=26\/m.pl=27\/m.pl=28\/((m.pl=21\/m.pl=22\/m.pl=23\/m.pl=24)/\m.bk=20) then 0<=m.got/\m.got<G else m.got=-1
 rest:m.rest≠[]↔m.pl=17
 Rv:m.pl=21\/m.pl=22\/m.pl=23\/m.pl=24->m.bk=0\/m.bk=1\/m.bk=20\/m.bk=25
 bk2:m.pl=27->m.bk=1\/m.bk=25
 bk3:m.pl=17\/m.pl=19->m.bk=20
 af:m.pl=25\/m.pl=26\/((m.pl=27\/m.pl=21\/m.pl=22\/m.pl=23\/m.pl=24)/\m.bk=25)->m.af=1\/m.af=2\/m.af=13
 ii:0<=m.ii/\m.ii<=P+1/\(m.pl=6->1<=m.ii/\m.ii<P)/\(m.pl=9->m.ii<P)
 md:(m.md≠0->m.pl=23\/m.pl=29\/m.pl=30)/\0<=m.md/\m.md<=2
theorem aZ {P M G:Nat} {m:Am}:oC P M G m↔(0<=m.pl/\m.pl<=30/\m.pl≠18)/\(if gm m then m.p=-1 else 0<=m.p/\m.p<P)/\(-1<=m.nx/\m.nx<P/\(0<=m.nx->m.pl=14\/m.pl=15\/m.pl=16))/\(m.sp=true->m.pl=4\/m.pl=6\/m.pl=7\/m.pl=8\/m.pl=17\/m.pl=19)/\(m.pl=6\/m.pl=7\/m.pl=8\/m.pl=19->m.sp=true)/\(if m.pl=24 then 0<=m.tg/\m.tg<M else m.tg=-1)/\(if m.pl=0\/m.pl=28\/m.pl=29\/m.pl=30\/((m.pl=21\/m.pl=22\/m.pl=23\/m.pl=24)/\m.bk=0) then 0<=m.g/\m.g<G else m.g=-1)/\(if m.pl=17\/m.pl=19\/m.pl=20\/m.pl=26\/m.pl=27\/m.pl=28\/((m.pl=21\/m.pl=22\/m.pl=23\/m.pl=24)/\m.bk=20) then 0<=m.got/\m.got<G else m.got=-1)/\(m.rest≠[]↔m.pl=17)/\(m.pl=21\/m.pl=22\/m.pl=23\/m.pl=24->m.bk=0\/m.bk=1\/m.bk=20\/m.bk=25)/\(m.pl=27->m.bk=1\/m.bk=25)/\(m.pl=17\/m.pl=19->m.bk=20)/\(m.pl=25\/m.pl=26\/((m.pl=27\/m.pl=21\/m.pl=22\/m.pl=23\/m.pl=24)/\m.bk=25)->m.af=1\/m.af=2\/m.af=13)/\(0<=m.ii/\m.ii<=P+1/\(m.pl=6->1<=m.ii/\m.ii<P)/\(m.pl=9->m.ii<P))/\((m.md≠0->m.pl=23\/m.pl=29\/m.pl=30)/\0<=m.md/\m.md<=2):=⟨fun ⟨a,b,c,d,e,f,g,h,i,j,k,l,m,n,o⟩=>⟨a,b,c,d,e,f,g,h,i,j,k,l,m,n,o⟩,fun ⟨a,b,c,d,e,f,g,h,i,j,k,l,m,n,o⟩=>⟨a,b,c,d,e,f,g,h,i,j,k,l,m,n,o⟩⟩
def qF (a:St):Prop:=a.gl.length=1/\(∀ k,k<a.P->a.ring k=[])/\a.out=[]/\((a.mc 0).pl=1\/(a.mc 0).pl=2\/(a.mc 0).pl=3\/((a.mc 0).pl=4/\(a.mc 0).sp=false)\/((a.mc 0).pl=25/\(a.mc 0).af=2))/\∀ i,i<a.M->i≠0->(a.mc i).pl=16/\a.note i=0
structure Inv (a:St):Prop where
 hP:1<=a.P/\a.P<=a.M
 val:∀ i,i<a.M->oC a.P a.M a.G (a.mc i)
 proc:∀ p:Nat,p<a.P->a.ip.count p+a.pend.count (p:Int)+sumTo (fun j=>hp (a.mc j) p) a.M=1
 ipr:∀ p,p∈a.ip->p<a.P
 pendr:∀ p,p∈a.pend->0<=p/\p<a.P
 msr:∀ k,k∈a.ms->0<=k/\k<a.M
 qr:-1<=a.q/\a.q<a.M
 clean:∀ p:Nat,p<a.P->0<a.ip.count p+a.pend.count (p:Int)+sumTo (fun j=>hc (a.mc j) p) a.M->a.ring p=[]
 spin:a.spin=(a.pend.length:Int)+(sumTo (fun j=>hs (a.mc j)) a.M:Nat)
 note:∀ i,i<a.M->a.note i=0\/a.note i=1
 tok:∀ i,i<a.M->((a.ms.count (i:Int)+qi a.q i+sumTo (fun j=>ht (a.mc j) i) a.M:Nat):Int)+a.note i=aU (a.mc i)
 nxt:∀ i,i<a.M->0<=(a.mc i).nx->a.ms.count (i:Int)+qi a.q i=0
 tgn:∀ j,j<a.M->0<=(a.mc j).tg->0<=(a.mc (a.mc j).tg.toNat).nx
 msp:∀ i,i<a.M->(i:Int)∈a.ms->(a.mc i).pl=16
 pendI:a.pend≠[]->a.ms=[]/\a.q=-1
 mid:∀ i,i<a.M->(a.mc i).pl=23->(a.mc i).md≠0->a.ip=[]
 dueo:a.due=true->a.out≠[]
 r1:a.ip≠[]->∀ k:Nat,k<a.P->a.ring k≠[]->0<a.pend.length+sumTo (fun j=>w1 (a.mc j) k) a.M
 rg:a.ip≠[]->a.gl≠[]->0<a.pend.length+sumTo (fun j=>wg (a.mc j)) a.M\/qF a
 r3:a.ip≠[]->a.q=-1->0<a.pend.length+sumTo (fun j=>w3 (a.mc j)) a.M+sumTo (fun j=>told (a.note j) (a.mc j)) a.M
 r2:a.due=true->a.q≠-1->0<sumTo (fun j=>w2 a.q j (a.mc j)) a.M+sumTo (fun j=>told (a.note j) (a.mc j)) a.M
section
variable {a b:St} {i:Nat} {m m':Am}
theorem Ls (h:0<hs m) (hm:m.pl=23->m.md=0):0<w1 m k:=by
 unfold hs at h;unfold w1 r0;by_cases h1:m.sp=true
 . simp [h1]
 by_cases h2:0<=m.nx
 . simp [h2]
 by_cases h3:m.pl=23
 . simp [h3,hm h3]
 . simp [h1,h2,h3] at h
theorem QH (h:0<w1 m k):0<wg m:=by
 unfold w1 at h;unfold wg;split at h
 . rename_i h1;rw [if_pos (by rcases h1 with h | h;exact .inl h;exact .inr (.inl h.1))];omega
 . cases h
theorem QI (h:0<w1 m k):0<w3 m:=by
 unfold w1 at h;unfold w3;split at h
 . rename_i h1;rw [if_pos (by rcases h1 with h | h;exact .inl h;exact .inr (.inr (.inl h.1)))];omega
 . cases h
theorem tz (hs_:a.spin=(a.pend.length:Int)+(sumTo (fun j=>hs (a.mc j)) a.M:Nat)) (mid:∀ i,i<a.M->(a.mc i).pl=23->(a.mc i).md≠0->a.ip=[]) (hip:a.ip≠[]) (h0:a.spin≠0) (k:Nat):0<a.pend.length\/∃ j,j<a.M/\0<w1 (a.mc j) k:=by
 rcases dd a.pend.length with h | h
 . right;have ⟨j,hj,h1⟩:=tv (f:=fun j=>hs (a.mc j)) (n:=a.M) (by omega);exact ⟨j,hj,Ls h1 fun h2=>by
    by_cases h3:(a.mc j).md=0
    . exact h3
    . exact absurd (mid j hj h2 h3) hip⟩
 . exact .inl h
theorem neg_nat (p:Nat):((-1:Int)=(p:Int))=False:=by apply eq_false;omega
theorem qF.no (h:qF a) (hi:i<a.M) (h1:(a.mc i).pl≠16) (h2:¬ ((a.mc i).pl=1\/(a.mc i).pl=2\/(a.mc i).pl=3\/((a.mc i).pl=4/\(a.mc i).sp=false)\/((a.mc i).pl=25/\(a.mc i).af=2))):False:=by
 have ⟨_,_,_,h3,h4⟩:=h;by_cases h0:i=0
 . subst h0;exact h2 h3
 . exact h1 (h4 i hi h0).1
theorem qF.Ub (h:qF a) (hi:i<a.M) (h1:(a.mc i).pl=16) (h2:a.note i=1):False:=by
 have ⟨_,_,_,h3,h4⟩:=h;by_cases h0:i=0
 . subst h0;omega
 . have:=(h4 i hi h0).2;omega
theorem qF.turn (h:qF a) (hi:i<a.M) (h1:(a.mc i).pl≠16) (hb:b.mc=upd a.mc i m') (h2:m'.pl=1\/m'.pl=2\/m'.pl=3\/(m'.pl=4/\m'.sp=false)\/(m'.pl=25/\m'.af=2)) (e1:b.gl=a.gl) (e2:b.ring=a.ring) (e3:b.out=a.out) (e4:b.note=a.note) (e5:b.M=a.M) (e6:b.P=a.P):qF b:=by
 have ⟨h3,h4,h5,h6,h7⟩:=h;have h0:i=0:=by
  by_cases h0:i=0
  . exact h0
  . exact absurd (h7 i hi h0).1 h1
 subst h0;refine ⟨by rw [e1];exact h3,by rw [e2,e6];exact h4,by rw [e3];exact h5,by rw [hb,aT];exact h2,fun j hj hj0=>?_⟩;rw [hb,upd_ne hj0,e4];exact h7 j (by rw [<- e5];exact hj) hj0
theorem Inv.v (I:Inv a) (hi:i<a.M) (hm:a.mc i=m):oC a.P a.M a.G m:=hm▸I.val i hi
abbrev St.put (a:St) (i:Nat) (m:Am):St:={a with mc:=upd a.mc i m}
structure Turn (a b:St) (i:Nat) (m':Am):Prop where
 cP:b.P=a.P:=by rfl
 cM:b.M=a.M:=by rfl
 cG:b.G=a.G:=by rfl
 mc:b.mc=upd a.mc i m':=by rfl
 val:oC a.P a.M a.G m':=by have V:=aZ.1 (I.v hi hm);have hP:=I.hP;simp [gm] at V;constructor<;>simp [gm]<;>first | done | omega | grind
 proc:∀ p:Nat,p<a.P->b.ip.count p+b.pend.count (p:Int)+hp m' p=a.ip.count p+a.pend.count (p:Int)+hp (a.mc i) p:=by have V:=aZ.1 (I.v hi hm);have hP:=I.hP;(try simp [gm] at V);intro p' hp';first | (simp [hm,hp,neg_nat]<;>first | done | omega | grind) | (simp [hm,hp,neg_nat,h0,bR,bq]<;>first | done | omega | grind)
 ipr:∀ p,p∈b.ip->p<a.P:=by first | exact I.ipr | (intro x hx;exact I.ipr x (by rw [h0];exact cH _ hx))
 pendr:∀ p,p∈b.pend->0<=p/\p<a.P:=by first | exact I.pendr | (intro x hx;rcases bd.1 hx with h | h;exact I.pendr x h;simp at h;omega) | (intro x hx;exact I.pendr x (by rw [h0];exact cH _ hx))
 msr:∀ k,k∈b.ms->0<=k/\k<a.M:=by exact I.msr
 qr:-1<=b.q/\b.q<a.M:=by exact I.qr
 clean:∀ p:Nat,p<a.P->b.ring p=[]\/((b.ring p=a.ring p\/a.ring p≠[])/\b.ip.count p+b.pend.count (p:Int)+hc m' p<=a.ip.count p+a.pend.count (p:Int)+hc (a.mc i) p)\/(hp (a.mc i) p=1/\b.ip.count p+b.pend.count (p:Int)+hc m' p=0):=by have V:=aZ.1 (I.v hi hm);have hP:=I.hP;(try simp [gm] at V);intro p' hp';first | (right;left;refine ⟨.inl rfl,?_⟩;simp [hm,hc,eH,neg_nat]<;>first | done | omega | grind) | (right;left;refine ⟨.inl rfl,?_⟩;simp [hm,hc,eH,neg_nat,h0,bR,bq]<;>first | done | omega | grind)
 spin:b.spin-b.pend.length-hs m'=a.spin-a.pend.length-hs (a.mc i):=by have V:=aZ.1 (I.v hi hm);have hP:=I.hP;(try simp [gm] at V);simp [hm,hs]<;>first | done | omega | grind
 note:∀ j,j<a.M->b.note j=0\/b.note j=1:=by first | exact I.note | (intro j hj;by_cases h:j=k;right;subst h;exact aT;simp only [upd_ne h];exact I.note j hj) | (intro j hj;by_cases h:j=i;left;subst h;exact aT;simp only [upd_ne h];exact I.note j hj)
 tok:∀ j,j<a.M->((b.ms.count (j:Int)+qi b.q j+ht m' j:Nat):Int)+b.note j+(if j=i then aU (a.mc i) else 0)=((a.ms.count (j:Int)+qi a.q j+ht (a.mc i) j:Nat):Int)+a.note j+(if j=i then aU m' else 0):=by have V:=aZ.1 (I.v hi hm);have hP:=I.hP;(try simp [gm] at V);intro j hj;first | (simp [hm,ht,aU,neg_nat]<;>first | done | omega | grind) | (by_cases h:j=k;subst h;simp [hm,ht,neg_nat,aT,hk,h4,hki];simp [hm,ht,aU,neg_nat,upd_ne h,hk]<;>first | done | omega | grind)
 nxt:∀ j,j<a.M->j≠i->b.ms.count (j:Int)+qi b.q j<=a.ms.count (j:Int)+qi a.q j:=by intro j hj hji;simp
 nxi:0<=m'.nx->0<=(a.mc i).nx/\b.ms.count (i:Int)+qi b.q i<=a.ms.count (i:Int)+qi a.q i:=by have V:=aZ.1 (I.v hi hm);have hP:=I.hP;(try simp [gm] at V);simp [hm]<;>first | done | omega | grind
 nxd:0<=(a.mc i).nx->0<=m'.nx\/a.note i=1:=by have V:=aZ.1 (I.v hi hm);have hP:=I.hP;(try simp [gm] at V);simp [hm]<;>first | done | omega | grind
 tgi:m'.tg=-1:=by first | rfl | (simp<;>omega)
 msp:∀ j,j<a.M->j≠i->(j:Int)∈b.ms->(j:Int)∈a.ms:=by intro j hj hji h;exact h
 msi:(i:Int)∈b.ms->m'.pl=16:=by intro h;have:=I.msp i hi h;rw [hm] at this;simp at this
 pendI:b.pend≠[]->b.ms=[]/\b.q=-1:=by first | exact I.pendI | exact fun _=>⟨h1,h2⟩ | exact fun h=>absurd h0 h
 mid:b.ip=[]\/((m'.pl=23->m'.md=0)/\(a.ip≠[]\/∀ j,j<a.M->(a.mc j).pl=23->(a.mc j).md=0)):=by first | exact (Classical.em (a.ip=[])).elim .inl fun h=>.inr ⟨by simp,.inl h⟩ | exact .inr ⟨by simp,.inl (by rw [h0];simp)⟩ | exact .inl hip0 | exact .inl h0
 dueo:b.due=true->b.out≠[]:=by exact I.dueo
 r1:b.ip≠[]->∀ k:Nat,k<a.P->b.ring k≠[]->0<w1 m' k\/b.pend≠[]\/b.spin≠0\/(a.ip≠[]/\a.ring k≠[]/\w1 (a.mc i) k<=w1 m' k/\a.pend=b.pend):=by have V:=aZ.1 (I.v hi hm);have hP:=I.hP;(try simp [gm] at V);intro hip k' hk' hr;first | (left;simp [w1,r0]<;>first | done | omega) | (right;right;right;refine ⟨hip,hr,?_,rfl⟩;simp [hm,w1,r0]<;>first | done | omega | grind) | (right;right;left;exact h0) | exact absurd h0 hip | exact absurd hip0 hip | (right;left;simp;done) | (right;right;right;refine ⟨hip,hsub k' hr,?_,rfl⟩;simp [hm,w1,r0]<;>first | done | omega | grind) | (right;right;right;refine ⟨hip,hr,?_,rfl⟩;have:k'≠k:=(by rintro rfl;exact hr h0);simp [hm,w1,r0]<;>first | done | omega | grind)
 rg:b.ip≠[]->b.gl≠[]->0<wg m'\/b.pend≠[]\/b.spin≠0\/(a.ip≠[]/\a.gl≠[]/\wg (a.mc i)<=wg m'/\a.pend=b.pend/\(qF a->qF b)):=by have V:=aZ.1 (I.v hi hm);have hP:=I.hP;(try simp [gm] at V);intro hip hr;first | (left;simp [wg,r0]<;>first | done | omega) | (right;right;left;exact h0) | exact absurd h0 hip | exact absurd hip0 hip | (right;left;simp;done) | (right;right;right;refine ⟨hip,?_,?_,rfl,fun h=>?_⟩;(first | exact hr | (rw [h0];simp;done));(simp [hm,wg,r0]<;>first | done | omega | grind);first | (refine (h.no hi ?_ ?_).elim<;>(rw [hm];simp;done)) | (refine h.turn hi ?_ rfl ?_ rfl rfl rfl rfl rfl rfl<;>first | (rw [hm];simp;done) | (simp;done)) | exact (h0 h.2.2.1).elim | exact absurd h nS | (refine (h.Ub hi ?_ h0).elim;rw [hm];done) | (have:=h.1;rw [h0] at this;simp at this;exact absurd this hr)) | exact absurd h0 hr
 tolds:∀ j,j<a.M->j≠i->a.note j<=b.note j:=by intro j hj hji;first | (simp;done) | (by_cases h:j=k;subst h;simp [aT,h4];simp [upd_ne h];done) | (simp only [upd_ne hji];omega)
 r3:b.ip≠[]->b.q=-1->0<w3 m'+told (b.note i) m'\/b.pend≠[]\/b.spin≠0\/(a.ip≠[]/\a.q=-1/\w3 (a.mc i)+told (a.note i) (a.mc i)<=w3 m'+told (b.note i) m'/\a.pend=b.pend):=by have V:=aZ.1 (I.v hi hm);have hP:=I.hP;(try simp [gm] at V);intro hip hr;first | (left;simp [w3,r0,told]<;>first | done | omega) | (right;right;right;refine ⟨hip,hr,?_,rfl⟩;simp [hm,w3,r0,told]<;>first | done | omega | grind) | (right;right;left;exact h0) | exact absurd h0 hip | exact absurd hip0 hip | (right;left;simp;done) | (right;right;right;refine ⟨hip,hr,?_,rfl⟩;simp [hm,w3,r0,told,upd_ne (aY hki)]<;>first | done | omega | grind) | exact absurd hr h1
 r2:b.due=true->b.q≠-1->0<w2 b.q i m'\/(a.due=true/\a.q=b.q/\w2 a.q i (a.mc i)+told (a.note i) (a.mc i)<=w2 b.q i m'+told (b.note i) m'):=by have V:=aZ.1 (I.v hi hm);have hP:=I.hP;(try simp [gm] at V);intro hd hq;first | (left;simp [w2]<;>first | done | omega) | (right;refine ⟨hd,rfl,?_⟩;simp [hm,w2,told]<;>first | done | omega | grind) | (right;refine ⟨hd,rfl,?_⟩;simp [hm,w2,told,upd_ne (aY hki)]<;>first | done | omega | grind) | (rw [h0] at hd;cases hd) | (right;refine ⟨hd,rfl,?_⟩;simp [hm,w2,told,h0];done)
end
theorem iv (hj:j<n) (h:0<f j):0<sumTo f n:=cq h (cy hj)
theorem Turn.inv {a b:St} {i:Nat} {m':Am} (t:Turn a b i m') (I:Inv a) (hi:i<a.M):Inv b:=by
 have ⟨cP,cM,cG,mc,val,proc,ipr,pendr,msr,qr,clean,spin,note,tok,nxt,nxi,nxd,tgi,msp,msi,pendI,mid,dueo,r1,rg,tolds,r3,r2⟩:=t;have bi:b.mc i=m':=by rw [mc,aT]
 have bj:∀ j,j≠i->b.mc j=a.mc j:=fun j hj=>by rw [mc,upd_ne hj]
 have S:∀ f:Am->Nat,sumTo (fun j=>f (b.mc j)) a.M+f (a.mc i)=sumTo (fun j=>f (a.mc j)) a.M+f m':=fun f=>by
  have:=dM (f:=fun j=>f (a.mc j)) (g:=fun j=>f (b.mc j)) hi fun j _ hj=>by simp [bj j hj]
  simpa only [bi] using this
 have hspin:b.spin=(b.pend.length:Int)+(sumTo (fun j=>hs (b.mc j)) b.M:Nat):=by have h1:=S hs;have h2:=I.spin;rw [cM];omega
 have hmid:∀ j,j<b.M->(b.mc j).pl=23->(b.mc j).md≠0->b.ip=[]:=by
  intro j hj h1 h2
  rcases mid with h | ⟨h3,h4⟩
  . exact h
  . exfalso;by_cases hji:j=i
    . subst hji;rw [bi] at h1 h2;exact h2 (h3 h1)
    . rw [bj j hji] at h1 h2;rw [cM] at hj;rcases h4 with h4 | h4
      . exact h4 (I.mid j hj h1 h2)
      . exact h2 (h4 j hj h1)
 have htold:∀ j,j<a.M->j≠i->told (a.note j) (a.mc j)<=told (b.note j) (b.mc j):=by
  intro j hj hji;rw [bj j hji];unfold told;have h1:=tolds j hj hji;have h3:=note j hj;by_cases hc:a.note j=1/\(a.mc j).nx<0
  . rw [if_pos hc,if_pos ⟨by omega,hc.2⟩];omega
  . rw [if_neg hc];omega
 have hw:∀ (f g:Nat->Nat),(∀ j,j<a.M->j≠i->f j<=g j)->sumTo f a.M+g i<=sumTo g a.M+f i:=by
  intro f g h;have h1:=dM (f:=f) (g:=fun j=>if j=i then g i else f j) hi fun j _ hj=>by simp [hj]
  have h2:=iw (f:=fun j=>if j=i then g i else f j) (g:=g) (n:=a.M) fun j hj=>by
   by_cases hji:j=i
   . subst hji;simp
   . simp [hji];exact h j hj hji
  simp at h1;omega
 constructor;case hP=>rw [cP,cM];exact I.hP
 case val=>
  intro j hj;rw [cM] at hj;rw [cP,cM,cG];by_cases hji:j=i
  . subst hji;rw [bi];exact val
  . rw [bj j hji];exact I.val j hj
 case proc=>intro p hp';rw [cP] at hp';have h1:=proc p hp';have h2:=I.proc p hp';have h3:=S (fun m=>hp m p);rw [cM];omega
 case ipr=>rw [cP];exact ipr
 case pendr=>rw [cP];exact pendr
 case msr=>rw [cM];exact msr
 case qr=>rw [cM];exact qr
 case clean=>
  intro p hp' h0;rw [cP] at hp';rw [cM] at h0;have h3:=S (fun m=>hc m p)
  rcases clean p hp' with h | ⟨h,h1⟩ | ⟨h1,h2⟩
  . exact h
  . rcases h with h | h
    . rw [h];exact I.clean p hp' (by omega)
    . exact absurd (I.clean p hp' (by omega)) h
  . exfalso;have ⟨j,hj,hh⟩:=tv (f:=fun j=>hc (b.mc j) p) (n:=a.M) (by omega);by_cases hji:j=i
    . subst hji;simp [bi] at hh;omega
    . simp [bj j hji] at hh;have h4:=I.proc p hp';have h5:hc (a.mc j) p<=hp (a.mc j) p:=by
       unfold hc hp;by_cases c1:(a.mc j).p=(p:Int)/\eH (a.mc j)
       . rw [if_pos c1,if_pos c1.1];omega
       . rw [if_neg c1];omega
      have h6:=dM (f:=fun k=>hp (a.mc k) p) (g:=fun k=>if k=i then 0 else hp (a.mc k) p) hi fun k _ hk=>by simp [hk]
      have h7:=cy (f:=fun k=>if k=i then 0 else hp (a.mc k) p) hj;simp [hji] at h7;simp at h6;omega
 case spin=>exact hspin
 case note=>rw [cM];exact note
 case tok=>
  intro j hj;rw [cM] at hj;have h1:=tok j hj;have h2:=I.tok j hj;have h3:=S (fun m=>ht m j);rw [cM];by_cases hji:j=i
  . subst hji;rw [bi];simp [if_true] at h1;omega
  . rw [bj j hji];simp [hji,if_false] at h1;omega
 case nxt=>
  intro j hj h;rw [cM] at hj;by_cases hji:j=i
  . subst hji;rw [bi] at h;have ⟨h1,h2⟩:=nxi h;have:=I.nxt j hj h1;omega
  . rw [bj j hji] at h;have:=I.nxt j hj h;have:=nxt j hj hji;omega
 case tgn=>
  intro j hj h;rw [cM] at hj;by_cases hji:j=i
  . subst hji;rw [bi,tgi] at h;omega
  . rw [bj j hji] at h ⊢;have h1:=I.tgn j hj h;by_cases hk:(a.mc j).tg.toNat=i
    . rw [hk,bi];rw [hk] at h1;rcases nxd h1 with h2 | h2
      . exact h2
      . exfalso;have h3:=I.tok i hi;have h4:=cy (f:=fun k=>ht (a.mc k) i) hj;have h5:ht (a.mc j) i=1:=by unfold ht;rw [if_pos (by omega)]
        have h6:aU (a.mc i)<=1:=by unfold aU;split<;>omega
        omega
    . rw [bj _ hk];exact h1
 case msp=>
  intro j hj h;rw [cM] at hj;by_cases hji:j=i
  . subst hji;rw [bi];exact msi h
  . rw [bj j hji];exact I.msp j hj (msp j hj hji h)
 case pendI=>exact pendI
 case mid=>exact hmid
 case dueo=>exact dueo
 case r1=>
  intro hip k hk hr;rw [cP] at hk;rw [cM];have h3:=S (fun m=>w1 m k)
  rcases r1 hip k hk hr with h | h | h | ⟨h1,h2,h4,h5⟩
  . have:=iv (f:=fun j=>w1 (b.mc j) k) (n:=a.M) hi (by simp [bi];exact h);omega
  . have:=eX.2 h;omega
  . rcases tz hspin hmid hip h k with h | ⟨j,hj,h⟩
    . omega
    . have:=iv (f:=fun j=>w1 (b.mc j) k) (n:=a.M) (by omega) h;omega
  . have:=I.r1 h1 k hk h2;rw [h5] at this;omega
 case rg=>
  intro hip hr;rw [cM];have h3:=S wg
  rcases rg hip hr with h | h | h | ⟨h1,h2,h4,h5,h6⟩
  . have:=iv (f:=fun j=>wg (b.mc j)) (n:=a.M) hi (by simp [bi];exact h);left;omega
  . have:=eX.2 h;left;omega
  . left
    rcases tz hspin hmid hip h 0 with h | ⟨j,hj,h⟩
    . omega
    . have:=iv (f:=fun j=>wg (b.mc j)) (n:=a.M) (by omega) (QH h);omega
  . rcases I.rg h1 h2 with h | h
    . rw [h5] at h;left;omega
    . exact .inr (h6 h)
 case r3=>
  intro hip hq;rw [cM]
  rcases r3 hip hq with h | h | h | ⟨h1,h2,h4,h5⟩
  . have h8:=cy (f:=fun j=>w3 (b.mc j)) hi;have h9:=cy (f:=fun j=>told (b.note j) (b.mc j)) hi;simp [bi] at h8 h9;omega
  . have:=eX.2 h;omega
  . rcases tz hspin hmid hip h 0 with h | ⟨j,hj,h⟩
    . omega
    . have:=iv (f:=fun j=>w3 (b.mc j)) (n:=a.M) (by omega) (QI h);omega
  . have h6:=I.r3 h1 h2;have h7:=hw (fun j=>w3 (a.mc j)+told (a.note j) (a.mc j)) (fun j=>w3 (b.mc j)+told (b.note j) (b.mc j)) fun j hj hji=>by have:=htold j hj hji;simp only [bj j hji] at this ⊢;omega
    simp only [bi] at h7;rw [jO (fun j=>w3 (a.mc j)) (fun j=>told (a.note j) (a.mc j)),jO (fun j=>w3 (b.mc j)) (fun j=>told (b.note j) (b.mc j))] at h7;rw [h5] at h6;omega
 case r2=>
  intro hd hq;rw [cM]
  rcases r2 hd hq with h | ⟨h1,h2,h4⟩
  . have:=iv (f:=fun j=>w2 b.q j (b.mc j)) (n:=a.M) hi (by simp only [bi];exact h);omega
  . have h6:=I.r2 h1 (by rw [h2];exact hq);have h7:=hw (fun j=>w2 a.q j (a.mc j)+told (a.note j) (a.mc j)) (fun j=>w2 b.q j (b.mc j)+told (b.note j) (b.mc j)) fun j hj hji=>by have:=htold j hj hji;simp only [bj j hji] at this ⊢;rw [h2];omega
    simp only [bi] at h7;rw [jO (fun j=>w2 a.q j (a.mc j)) (fun j=>told (a.note j) (a.mc j)),jO (fun j=>w2 b.q j (b.mc j)) (fun j=>told (b.note j) (b.mc j))] at h7;omega
theorem Turn.put {a b:St} {i:Nat} {m':Am} (I:Inv a) (hi:i<a.M) (t:Turn a (b.put i m') i m'):Inv (b.put i m'):=t.inv I hi
end
section
variable {d':Bool} {p md g0 g af nx ii bk tg:Int} {k i p0:Nat} {a:St} {r L o' l:List Int} {s':Nat->Int}
theorem MY (I:Inv a) (hi:i<a.M) (hm:a.mc i=⟨8,-1,-1,-1,-1,-1,ii,true,[],bk,af,0⟩) :
 Inv (St.put {a with spin:=a.spin-1} i ⟨9,-1,-1,-1,-1,-1,0,false,[],bk,af,0⟩):=Turn.put I hi {}
theorem inv_sched (I:Inv a) (hi:i<a.M) (hm:a.mc i=⟨1,p,-1,-1,-1,-1,ii,false,[],bk,af,0⟩) :
 Inv (a.put i ⟨3,p,-1,-1,-1,-1,ii,false,[],bk,af,0⟩):=Turn.put I hi {}
theorem GS (I:Inv a) (hi:i<a.M) (hm:a.mc i=⟨1,p,-1,-1,-1,-1,ii,false,[],bk,af,0⟩) :
 Inv (a.put i ⟨25,p,-1,-1,-1,-1,ii,false,[],bk,2,0⟩):=Turn.put I hi {}
theorem Kv (I:Inv a) (hi:i<a.M) (hm:a.mc i=⟨2,p,-1,-1,-1,-1,ii,false,[],bk,af,0⟩) :
 Inv (a.put i ⟨3,p,-1,-1,-1,-1,ii,false,[],bk,af,0⟩):=Turn.put I hi {}
theorem GX (I:Inv a) (hi:i<a.M) (h0:a.gl=g0::l) (hg:0<=g0/\g0<a.G) (hm:a.mc i=⟨2,p,-1,-1,-1,-1,ii,false,[],bk,af,0⟩) :
 Inv (St.put {a with gl:=l} i ⟨20,p,-1,-1,g0,-1,ii,false,[],20,af,0⟩):=Turn.put I hi {
  rg:=(by intro hip hr;first | (left;simp [wg,r0]<;>first | done | omega) | (right;right;right;refine ⟨hip,by rw [h0];simp,?_,rfl,fun h=>?_⟩;(simp [hm,wg,r0]<;>first | done | omega | grind);have:=h.1;rw [h0] at this;simp at this;exact absurd this hr))}
theorem ED (I:Inv a) (hi:i<a.M) (hk:p=(k:Int)) (h0:a.ring k=[]) (hm:a.mc i=⟨3,p,-1,-1,-1,-1,ii,false,[],bk,af,0⟩) :
 Inv (a.put i ⟨4,p,-1,-1,-1,-1,ii,false,[],bk,af,0⟩):=Turn.put I hi {
  clean:=(by intro p' hp';exact (Classical.em (p'=k)).elim (fun h=>.inl (by rw [h];exact h0)) fun h=>.inr (.inl ⟨.inl rfl,by simp [hm,hc,eH,neg_nat,hk];grind⟩))}
theorem CC (I:Inv a) (hi:i<a.M) (hk:p=(k:Int)) (h0:(a.ring k).Perm (g0::L)) (hg:0<=g0/\g0<a.G) (hm:a.mc i=⟨3,p,-1,-1,-1,-1,ii,false,[],bk,af,0⟩) :
 Inv (St.put {a with ring:=upd a.ring k L} i ⟨20,p,-1,-1,g0,-1,ii,false,[],20,af,0⟩):=by
 have V:=aZ.1 (I.v hi hm);simp [gm] at V;have hP:=I.hP;have hsub:∀ k',upd a.ring k L k'≠[]->a.ring k'≠[]:=fun k' hr=>by
  by_cases e:k'=k
  . subst e;intro e2;rw [e2] at h0;exact absurd h0.length_eq (by simp)
  . rwa [upd_ne e] at hr
 exact Turn.put I hi {
  rg:=(by intro hip hr;right;right;right;refine ⟨hip,hr,?_,rfl,fun h=>?_⟩;(simp [hm,wg,r0]);have:=h.2.1 k (by omega);rw [this] at h0;exact absurd h0.length_eq (by simp)),
  clean:=(by
   intro p' hp';right;left;refine ⟨?_,by simp [hm,hc,eH,neg_nat]<;>first | done | omega | grind⟩;by_cases hpk:p'=k
   . subst hpk;right;intro e;rw [e] at h0;exact absurd h0.length_eq (by simp)
   . exact .inl (upd_ne hpk))}
theorem inv_globalNoN (I:Inv a) (hi:i<a.M) (h0:a.gl=[]) (hm:a.mc i=⟨4,p,-1,-1,-1,-1,ii,false,[],bk,af,0⟩) :
 Inv (a.put i ⟨5,p,-1,-1,-1,-1,ii,false,[],bk,af,0⟩):=Turn.put I hi {}
theorem zR (I:Inv a) (hi:i<a.M) (h0:a.gl=[]) (hx:1<a.P) (hm:a.mc i=⟨4,p,-1,-1,-1,-1,ii,true,[],bk,af,0⟩) :
 Inv (a.put i ⟨6,p,-1,-1,-1,-1,1,true,[],bk,af,0⟩):=Turn.put I hi {}
theorem zP (I:Inv a) (hi:i<a.M) (h0:a.gl=[]) (hm:a.mc i=⟨4,p,-1,-1,-1,-1,ii,true,[],bk,af,0⟩) :
 Inv (a.put i ⟨7,p,-1,-1,-1,-1,1,true,[],bk,af,0⟩):=Turn.put I hi {}
theorem xR (I:Inv a) (hi:i<a.M) {sp:Bool} (h0:a.gl=g0::(r++l)) (hr0:r≠[]) (hg:0<=g0/\g0<a.G) (hm:a.mc i=⟨4,p,-1,-1,-1,-1,ii,sp,[],bk,af,0⟩) :
 Inv (St.put {a with gl:=l} i ⟨17,p,-1,-1,g0,-1,ii,sp,r,20,af,0⟩):=Turn.put I hi {}
theorem xQ (I:Inv a) (hi:i<a.M) (h0:a.gl=g0::l) (hg:0<=g0/\g0<a.G) (hm:a.mc i=⟨4,p,-1,-1,-1,-1,ii,true,[],bk,af,0⟩) :
 Inv (St.put {a with gl:=l} i ⟨19,p,-1,-1,g0,-1,ii,true,[],20,af,0⟩):=Turn.put I hi {}
theorem u5 (I:Inv a) (hi:i<a.M) (h0:a.gl=g0::(r++l)) (hr0:r≠[]) (hg:0<=g0/\g0<a.G) (hm:a.mc i=⟨7,p,-1,-1,-1,-1,ii,true,[],bk,af,0⟩) :
 Inv (St.put {a with gl:=l} i ⟨17,p,-1,-1,g0,-1,ii,true,r,20,af,0⟩):=Turn.put I hi {}
theorem uZ (I:Inv a) (hi:i<a.M) (h0:a.gl=g0::l) (hg:0<=g0/\g0<a.G) (hm:a.mc i=⟨7,p,-1,-1,-1,-1,ii,true,[],bk,af,0⟩) :
 Inv (St.put {a with gl:=l} i ⟨19,p,-1,-1,g0,-1,ii,true,[],20,af,0⟩):=Turn.put I hi {}
theorem inv_globalGotN (I:Inv a) (hi:i<a.M) (h0:a.gl=g0::l) (hg:0<=g0/\g0<a.G) (hm:a.mc i=⟨4,p,-1,-1,-1,-1,ii,false,[],bk,af,0⟩) :
 Inv (St.put {a with gl:=l} i ⟨20,p,-1,-1,g0,-1,ii,false,[],20,af,0⟩):=Turn.put I hi {
  rg:=(by intro hip hr;first | (left;simp [wg,r0]<;>first | done | omega) | (right;right;right;refine ⟨hip,by rw [h0];simp,?_,rfl,fun h=>?_⟩;(simp [hm,wg,r0]<;>first | done | omega | grind);have:=h.1;rw [h0] at this;simp at this;exact absurd this hr))}
theorem Ex (I:Inv a) (hi:i<a.M) (hx:1<a.P) (hm:a.mc i=⟨5,p,-1,-1,-1,-1,ii,false,[],bk,af,0⟩) :
 Inv (St.put {a with spin:=a.spin+1} i ⟨6,p,-1,-1,-1,-1,1,true,[],bk,af,0⟩):=Turn.put I hi {}
theorem Ew (I:Inv a) (hi:i<a.M) (hm:a.mc i=⟨5,p,-1,-1,-1,-1,ii,false,[],bk,af,0⟩) :
 Inv (St.put {a with spin:=a.spin+1} i ⟨7,p,-1,-1,-1,-1,1,true,[],bk,af,0⟩):=Turn.put I hi {}
theorem Cw (I:Inv a) (hi:i<a.M) (hx:ii+1<a.P) (hm:a.mc i=⟨6,p,-1,-1,-1,-1,ii,true,[],bk,af,0⟩) :
 Inv (a.put i ⟨6,p,-1,-1,-1,-1,ii+1,true,[],bk,af,0⟩):=Turn.put I hi {}
theorem Cv (I:Inv a) (hi:i<a.M) (hm:a.mc i=⟨6,p,-1,-1,-1,-1,ii,true,[],bk,af,0⟩) :
 Inv (a.put i ⟨7,p,-1,-1,-1,-1,ii+1,true,[],bk,af,0⟩):=Turn.put I hi {}
theorem zH (I:Inv a) (hi:i<a.M) (h0:(a.ring k).Perm (g0::(r++L))) (hr0:r≠[]) (hg:0<=g0/\g0<a.G) (hm:a.mc i=⟨6,p,-1,-1,-1,-1,ii,true,[],bk,af,0⟩) :
 Inv (St.put {a with ring:=upd a.ring k L} i ⟨17,p,-1,-1,g0,-1,ii,true,r,20,af,0⟩):=by
 have hsub:∀ k',upd a.ring k L k'≠[]->a.ring k'≠[]:=fun k' hr=>by
  by_cases e:k'=k
  . subst e;intro e2;rw [e2] at h0;exact absurd h0.length_eq (by simp)
  . rwa [upd_ne e] at hr
 exact Turn.put I hi {
  clean:=(by
   intro p' hp';right;left;refine ⟨?_,by simp [hm,hc,eH,neg_nat]<;>first | done | omega | grind⟩;by_cases hpk:p'=k
   . subst hpk;right;intro e;rw [e] at h0;exact absurd h0.length_eq (by simp)
   . exact .inl (upd_ne hpk))}
theorem zA (I:Inv a) (hi:i<a.M) (h0:(a.ring k).Perm (g0::L)) (hg:0<=g0/\g0<a.G) (hm:a.mc i=⟨6,p,-1,-1,-1,-1,ii,true,[],bk,af,0⟩) :
 Inv (St.put {a with ring:=upd a.ring k L} i ⟨19,p,-1,-1,g0,-1,ii,true,[],20,af,0⟩):=by
 have hsub:∀ k',upd a.ring k L k'≠[]->a.ring k'≠[]:=fun k' hr=>by
  by_cases e:k'=k
  . subst e;intro e2;rw [e2] at h0;exact absurd h0.length_eq (by simp)
  . rwa [upd_ne e] at hr
 exact Turn.put I hi {
  clean:=(by
   intro p' hp';right;left;refine ⟨?_,by simp [hm,hc,eH,neg_nat]<;>first | done | omega | grind⟩;by_cases hpk:p'=k
   . subst hpk;right;intro e;rw [e] at h0;exact absurd h0.length_eq (by simp)
   . exact .inl (upd_ne hpk))}
theorem zN (I:Inv a) (hi:i<a.M) {ip':List Nat} (h0:∀ x:Nat,ip'.count x=a.ip.count x+if (x:Int)=p then 1 else 0) (hmid:∀ j,j<a.M->(a.mc j).pl=23->(a.mc j).md=0) (hm:a.mc i=⟨7,p,-1,-1,-1,-1,ii,true,[],bk,af,0⟩) :
 Inv (St.put {a with ip:=ip'} i ⟨8,-1,-1,-1,-1,-1,ii,true,[],bk,af,0⟩):=by
 have V:=aZ.1 (I.v hi hm);simp [gm] at V;have hP:=I.hP;exact Turn.put I hi {
  ipr:=(by
   intro x hx;have h4:=h0 x;have h5:=bc.2 hx;by_cases h6:(x:Int)=p
   . omega
   . rw [if_neg h6] at h4;exact I.ipr x (bc.1 (by simp only at h5;omega))),
  mid:=(by exact .inr ⟨by simp,.inr hmid⟩),}
theorem EA (I:Inv a) (hi:i<a.M) (hm:a.mc i=⟨9,-1,-1,-1,-1,-1,ii,false,[],bk,af,0⟩) :
 Inv (a.put i ⟨11,-1,-1,-1,-1,-1,ii+1,false,[],bk,af,0⟩):=Turn.put I hi {}
theorem EB (I:Inv a) (hi:i<a.M) (hk:ii=(k:Int)) (h0:a.ring k=[]) (hx:ii+1<a.P) (hm:a.mc i=⟨9,-1,-1,-1,-1,-1,ii,false,[],bk,af,0⟩) :
 Inv (a.put i ⟨9,-1,-1,-1,-1,-1,ii+1,false,[],bk,af,0⟩):=Turn.put I hi {}
theorem CA (I:Inv a) (hi:i<a.M) (hk:ii=(k:Int)) (h0:a.ring k=[]) (hx:a.P<=ii+1) (hm:a.mc i=⟨9,-1,-1,-1,-1,-1,ii,false,[],bk,af,0⟩) :
 Inv (a.put i ⟨10,-1,-1,-1,-1,-1,ii+1,false,[],bk,af,0⟩):=by
 have V:=aZ.1 (I.v hi hm);simp [gm] at V;exact Turn.put I hi {}
theorem CB (I:Inv a) (hi:i<a.M) (hm:a.mc i=⟨10,-1,-1,-1,-1,-1,ii,false,[],bk,af,0⟩) :
 Inv (a.put i ⟨11,-1,-1,-1,-1,-1,ii,false,[],bk,af,0⟩):=Turn.put I hi {}
theorem EC (I:Inv a) (hi:i<a.M) (h0:a.gl=[]) (hm:a.mc i=⟨10,-1,-1,-1,-1,-1,ii,false,[],bk,af,0⟩) :
 Inv (a.put i ⟨13,-1,-1,-1,-1,-1,ii,false,[],bk,af,0⟩):=Turn.put I hi {}
theorem Cy (I:Inv a) (hi:i<a.M) (h0:a.ip=[]) (hm:a.mc i=⟨11,-1,-1,-1,-1,-1,ii,false,[],bk,af,0⟩) :
 Inv (a.put i ⟨13,-1,-1,-1,-1,-1,ii,false,[],bk,af,0⟩):=Turn.put I hi {}
theorem zM (I:Inv a) (hi:i<a.M) {L:List Nat} (h0:a.ip=p0::L) (hm:a.mc i=⟨11,-1,-1,-1,-1,-1,ii,false,[],bk,af,0⟩) :
 Inv (St.put {a with ip:=L} i ⟨12,(p0:Int),-1,-1,-1,-1,ii,false,[],bk,af,0⟩):=by
 have hp0:=I.ipr p0 (by rw [h0];simp);exact Turn.put I hi {}
theorem Cx (I:Inv a) (hi:i<a.M) (hm:a.mc i=⟨12,p,-1,-1,-1,-1,ii,false,[],bk,af,0⟩) :
 Inv (St.put {a with spin:=a.spin+1} i ⟨4,p,-1,-1,-1,-1,ii,true,[],bk,af,0⟩):=Turn.put I hi {}
theorem Ct (I:Inv a) (hi:i<a.M) {p0:Int} (h0:a.pend=p0::L) (hm:a.mc i=⟨13,-1,-1,-1,-1,-1,ii,false,[],bk,af,0⟩) :
 Inv (St.put {a with pend:=L} i ⟨4,p0,-1,-1,-1,-1,ii,true,[],bk,af,0⟩):=by
 have hp0:=I.pendr p0 (by rw [h0];simp);exact Turn.put I hi {
  pendI:=(by intro _;exact I.pendI (by rw [h0];simp))}
theorem Cs (I:Inv a) (hi:i<a.M) (h0:a.pend=[]) (h1:a.q=-1) (hm:a.mc i=⟨13,-1,-1,-1,-1,-1,ii,false,[],bk,af,0⟩) :
 Inv (St.put {a with q:=(i:Int)} i ⟨14,-1,-1,-1,-1,-1,ii,false,[],bk,af,0⟩):=Turn.put I hi {
  qr:=(by simp;omega),
  tok:=(by intro j hj;simp [hm,ht,aU,neg_nat,qi,h1]<;>first | done | omega | grind),
  nxt:=(by intro j hj hji;simp [qi,h1,neg_nat];grind),
  r3:=(by intro hip hq;simp at hq<;>omega),
  r2:=(by intro hd hq;left;simp [w2])}
theorem Cu (I:Inv a) (hi:i<a.M) (h0:a.pend=[]) (h1:a.q≠-1) (hm:a.mc i=⟨13,-1,-1,-1,-1,-1,ii,false,[],bk,af,0⟩) :
 Inv (St.put {a with ms:=a.ms++[(i:Int)]} i ⟨16,-1,-1,-1,-1,-1,ii,false,[],bk,af,0⟩):=Turn.put I hi {
  msr:=(by
   intro k hk;rcases bd.1 hk with h | h
   . exact I.msr k h
   . simp at h;omega),
  nxt:=(by intro j hj hji;simp [bq,oE]<;>first | done | omega | grind),
  msp:=(by
   intro j hj hji h;rcases bd.1 h with h | h
   . exact h
   . simp at h;omega),
  msi:=(by intro _;rfl),
  pendI:=(by intro h;exact absurd h0 h),
  r3:=(by intro hip hq;exact absurd hq h1)}
theorem inv_checkYes (I:Inv a) (hi:i<a.M) (hm:a.mc i=⟨14,-1,-1,nx,-1,-1,ii,false,[],bk,af,0⟩) :
 Inv (a.put i ⟨15,-1,-1,nx,-1,-1,ii,false,[],bk,af,0⟩):=by
 have V:=aZ.1 (I.v hi hm);simp [gm] at V;exact Turn.put I hi {}
theorem EE (I:Inv a) (hi:i<a.M) (h0:a.due=false) (hm:a.mc i=⟨14,-1,-1,nx,-1,-1,ii,false,[],bk,af,0⟩) :
 Inv (a.put i ⟨16,-1,-1,nx,-1,-1,ii,false,[],bk,af,0⟩):=by
 have V:=aZ.1 (I.v hi hm);simp [gm] at V;exact Turn.put I hi {
  msi:=(by intro _;rfl)}
theorem zy (I:Inv a) (hi:i<a.M) (h0:a.q=(i:Int)) (hm:a.mc i=⟨15,-1,-1,-1,-1,-1,ii,false,[],bk,af,0⟩) :
 Inv (St.put {a with q:=-1} i ⟨25,-1,-1,-1,-1,-1,ii,false,[],bk,13,0⟩):=Turn.put I hi {
  qr:=(by simp;omega),
  tok:=(by intro j hj;simp [hm,ht,aU,neg_nat,qi,h0]<;>first | done | omega | grind),
  nxt:=(by intro j hj hji;simp [qi,neg_nat]),
  pendI:=(by intro h;exact ⟨(I.pendI h).1,rfl⟩)}
theorem Cr (I:Inv a) (hi:i<a.M) (h0:a.q≠(i:Int)) (hm:a.mc i=⟨15,-1,-1,nx,-1,-1,ii,false,[],bk,af,0⟩) :
 Inv (a.put i ⟨16,-1,-1,nx,-1,-1,ii,false,[],bk,af,0⟩):=by
 have V:=aZ.1 (I.v hi hm);simp [gm] at V;exact Turn.put I hi {
  msi:=(by intro _;rfl)}
theorem zg (I:Inv a) (hi:i<a.M) (h0:a.note i=1) (hm:a.mc i=⟨16,-1,-1,-1,-1,-1,ii,false,[],bk,af,0⟩) :
 Inv (St.put {a with note:=upd a.note i 0} i ⟨25,-1,-1,-1,-1,-1,ii,false,[],bk,13,0⟩):=Turn.put I hi {
  tok:=(by
   intro j hj;by_cases h:j=i
   . subst h;simp [hm,ht,aU,neg_nat,aT,h0]
   . simp [hm,ht,neg_nat,upd_ne h,h]),
  msi:=(by intro h;exfalso;have h4:=I.tok i hi;have h5:=bc.2 h;have h6:aU (a.mc i)<=1:=(by unfold aU;split<;>omega);simp only at h5;omega)}
theorem zh (I:Inv a) (hi:i<a.M) (h0:a.note i=1) (h1:0<=nx) (hm:a.mc i=⟨16,-1,-1,nx,-1,-1,ii,false,[],bk,af,0⟩) :
 Inv (St.put {a with note:=upd a.note i 0} i ⟨4,nx,-1,-1,-1,-1,ii,true,[],bk,af,0⟩):=Turn.put I hi {
  tok:=(by
   intro j hj;by_cases h:j=i
   . subst h;simp [hm,ht,aU,neg_nat,aT,h0]
   . simp [hm,ht,neg_nat,upd_ne h,h]),
  msi:=(by intro h;exfalso;have h4:=I.tok i hi;have h5:=bc.2 h;have h6:aU (a.mc i)<=1:=(by unfold aU;split<;>omega);simp only at h5;omega),}
theorem Cz (I:Inv a) (hi:i<a.M) {got:Int} {rest:List Int} (hk:p=(k:Int)) (hm:a.mc i=⟨17,p,-1,-1,got,-1,ii,true,rest,20,af,0⟩) :
 Inv (St.put {a with ring:=upd a.ring k L} i ⟨19,p,-1,-1,got,-1,ii,true,[],20,af,0⟩):=Turn.put I hi {
  clean:=(by
   intro p' hp';by_cases hpk:p'=k
   . right;right;subst hpk;have h4:=I.proc p' hp';have h5:=cy (f:=fun j=>hp (a.mc j) p') hi;simp [hm] at h5;have h6:hp (a.mc i) p'=1:=by rw [hm];simp [hp,neg_nat,hk]
     rw [hm] at h6;rw [hm];refine ⟨h6,?_⟩;simp [hc,eH,neg_nat];rw [h6] at h5;grind
   . right;left;refine ⟨.inl (upd_ne hpk),?_⟩;simp [hm,hc,eH,neg_nat]<;>first | done | omega | grind)}
theorem inv_putRestN (I:Inv a) (hi:i<a.M) {got:Int} {rest:List Int} (hk:p=(k:Int)) (hm:a.mc i=⟨17,p,-1,-1,got,-1,ii,false,rest,20,af,0⟩) :
 Inv (St.put {a with ring:=upd a.ring k L} i ⟨21,p,-1,-1,got,-1,ii,false,[],20,af,0⟩):=Turn.put I hi {
  clean:=(by
   intro p' hp';by_cases hpk:p'=k
   . right;right;subst hpk;have h4:=I.proc p' hp';have h5:=cy (f:=fun j=>hp (a.mc j) p') hi;simp [hm] at h5;have h6:hp (a.mc i) p'=1:=by rw [hm];simp [hp,neg_nat,hk]
     rw [hm] at h6;rw [hm];refine ⟨h6,?_⟩;simp [hc,eH,neg_nat];rw [h6] at h5;grind
   . right;left;refine ⟨.inl (upd_ne hpk),?_⟩;simp [hm,hc,eH,neg_nat]<;>first | done | omega | grind)}
theorem GR (I:Inv a) (hi:i<a.M) {got:Int} (hm:a.mc i=⟨19,p,-1,-1,got,-1,ii,true,[],20,af,0⟩) :
 Inv (St.put {a with spin:=a.spin-1} i ⟨21,p,-1,-1,got,-1,ii,false,[],20,af,0⟩):=Turn.put I hi {}
theorem CF (I:Inv a) (hi:i<a.M) {got:Int} (hm:a.mc i=⟨20,p,-1,-1,got,-1,ii,false,[],bk,af,0⟩) :
 Inv (St.put {a with stt:=s'} i ⟨0,p,got,-1,-1,-1,ii,false,[],bk,af,0⟩):=Turn.put I hi {}
theorem CE (I:Inv a) (hi:i<a.M) (hm:a.mc i=⟨21,p,g,-1,-1,-1,ii,false,[],0,af,0⟩) :
 Inv (a.put i ⟨22,p,g,-1,-1,-1,ii,false,[],0,af,0⟩):=Turn.put I hi {}
theorem CD (I:Inv a) (hi:i<a.M) (hm:a.mc i=⟨21,p,-1,-1,-1,-1,ii,false,[],1,af,0⟩) :
 Inv (a.put i ⟨22,p,-1,-1,-1,-1,ii,false,[],1,af,0⟩):=Turn.put I hi {}
theorem zO (I:Inv a) (hi:i<a.M) {got:Int} (hm:a.mc i=⟨21,p,-1,-1,got,-1,ii,false,[],20,af,0⟩) :
 Inv (a.put i ⟨22,p,-1,-1,got,-1,ii,false,[],20,af,0⟩):=Turn.put I hi {}
theorem vq (I:Inv a) (hi:i<a.M) (hm:a.mc i=⟨21,p,-1,-1,-1,-1,ii,false,[],25,1,0⟩) :
 Inv (a.put i ⟨22,p,-1,-1,-1,-1,ii,false,[],25,1,0⟩):=Turn.put I hi {}
theorem vh (I:Inv a) (hi:i<a.M) (hm:a.mc i=⟨21,p,-1,-1,-1,-1,ii,false,[],25,2,0⟩) :
 Inv (a.put i ⟨22,p,-1,-1,-1,-1,ii,false,[],25,2,0⟩):=Turn.put I hi {}
theorem ub (I:Inv a) (hi:i<a.M) (hm:a.mc i=⟨21,-1,-1,-1,-1,-1,ii,false,[],25,13,0⟩) :
 Inv (a.put i ⟨22,-1,-1,-1,-1,-1,ii,false,[],25,13,0⟩):=Turn.put I hi {}
theorem xP (I:Inv a) (hi:i<a.M) (h0:a.spin≠0) (hm:a.mc i=⟨21,p,g,-1,-1,-1,ii,false,[],0,af,0⟩) :
 Inv (a.put i ⟨0,p,g,-1,-1,-1,ii,false,[],0,af,0⟩):=Turn.put I hi {}
theorem xO (I:Inv a) (hi:i<a.M) (h0:a.spin≠0) (hm:a.mc i=⟨21,p,-1,-1,-1,-1,ii,false,[],1,af,0⟩) :
 Inv (a.put i ⟨1,p,-1,-1,-1,-1,ii,false,[],1,af,0⟩):=Turn.put I hi {}
theorem vf (I:Inv a) (hi:i<a.M) {got:Int} (h0:a.spin≠0) (hm:a.mc i=⟨21,p,-1,-1,got,-1,ii,false,[],20,af,0⟩) :
 Inv (a.put i ⟨20,p,-1,-1,got,-1,ii,false,[],20,af,0⟩):=Turn.put I hi {}
theorem se (I:Inv a) (hi:i<a.M) (h0:a.spin≠0) (hm:a.mc i=⟨21,p,-1,-1,-1,-1,ii,false,[],25,1,0⟩) :
 Inv (a.put i ⟨25,p,-1,-1,-1,-1,ii,false,[],25,1,0⟩):=Turn.put I hi {}
theorem sd (I:Inv a) (hi:i<a.M) (h0:a.spin≠0) (hm:a.mc i=⟨21,p,-1,-1,-1,-1,ii,false,[],25,2,0⟩) :
 Inv (a.put i ⟨25,p,-1,-1,-1,-1,ii,false,[],25,2,0⟩):=Turn.put I hi {}
theorem qV (I:Inv a) (hi:i<a.M) (h0:a.spin≠0) (hm:a.mc i=⟨21,-1,-1,-1,-1,-1,ii,false,[],25,13,0⟩) :
 Inv (a.put i ⟨25,-1,-1,-1,-1,-1,ii,false,[],25,13,0⟩):=Turn.put I hi {}
theorem yc (I:Inv a) (hi:i<a.M) (h0:a.spin=0) (hm:a.mc i=⟨22,p,g,-1,-1,-1,ii,false,[],0,af,0⟩) :
 Inv (St.put {a with spin:=1} i ⟨23,p,g,-1,-1,-1,ii,false,[],0,af,0⟩):=Turn.put I hi {}
theorem yb (I:Inv a) (hi:i<a.M) (h0:a.spin=0) (hm:a.mc i=⟨22,p,-1,-1,-1,-1,ii,false,[],1,af,0⟩) :
 Inv (St.put {a with spin:=1} i ⟨23,p,-1,-1,-1,-1,ii,false,[],1,af,0⟩):=Turn.put I hi {}
theorem vC (I:Inv a) (hi:i<a.M) {got:Int} (h0:a.spin=0) (hm:a.mc i=⟨22,p,-1,-1,got,-1,ii,false,[],20,af,0⟩) :
 Inv (St.put {a with spin:=1} i ⟨23,p,-1,-1,got,-1,ii,false,[],20,af,0⟩):=Turn.put I hi {}
theorem sw (I:Inv a) (hi:i<a.M) (h0:a.spin=0) (hm:a.mc i=⟨22,p,-1,-1,-1,-1,ii,false,[],25,1,0⟩) :
 Inv (St.put {a with spin:=1} i ⟨23,p,-1,-1,-1,-1,ii,false,[],25,1,0⟩):=Turn.put I hi {}
theorem su (I:Inv a) (hi:i<a.M) (h0:a.spin=0) (hm:a.mc i=⟨22,p,-1,-1,-1,-1,ii,false,[],25,2,0⟩) :
 Inv (St.put {a with spin:=1} i ⟨23,p,-1,-1,-1,-1,ii,false,[],25,2,0⟩):=Turn.put I hi {}
theorem qZ (I:Inv a) (hi:i<a.M) (h0:a.spin=0) (hm:a.mc i=⟨22,-1,-1,-1,-1,-1,ii,false,[],25,13,0⟩) :
 Inv (St.put {a with spin:=1} i ⟨23,-1,-1,-1,-1,-1,ii,false,[],25,13,0⟩):=Turn.put I hi {}
theorem zV (I:Inv a) (hi:i<a.M) (h0:a.spin≠0) (hm:a.mc i=⟨22,p,g,-1,-1,-1,ii,false,[],0,af,0⟩) :
 Inv (a.put i ⟨0,p,g,-1,-1,-1,ii,false,[],0,af,0⟩):=Turn.put I hi {}
theorem zU (I:Inv a) (hi:i<a.M) (h0:a.spin≠0) (hm:a.mc i=⟨22,p,-1,-1,-1,-1,ii,false,[],1,af,0⟩) :
 Inv (a.put i ⟨1,p,-1,-1,-1,-1,ii,false,[],1,af,0⟩):=Turn.put I hi {}
theorem yd (I:Inv a) (hi:i<a.M) {got:Int} (h0:a.spin≠0) (hm:a.mc i=⟨22,p,-1,-1,got,-1,ii,false,[],20,af,0⟩) :
 Inv (a.put i ⟨20,p,-1,-1,got,-1,ii,false,[],20,af,0⟩):=Turn.put I hi {}
theorem ud (I:Inv a) (hi:i<a.M) (h0:a.spin≠0) (hm:a.mc i=⟨22,p,-1,-1,-1,-1,ii,false,[],25,1,0⟩) :
 Inv (a.put i ⟨25,p,-1,-1,-1,-1,ii,false,[],25,1,0⟩):=Turn.put I hi {}
theorem uc (I:Inv a) (hi:i<a.M) (h0:a.spin≠0) (hm:a.mc i=⟨22,p,-1,-1,-1,-1,ii,false,[],25,2,0⟩) :
 Inv (a.put i ⟨25,p,-1,-1,-1,-1,ii,false,[],25,2,0⟩):=Turn.put I hi {}
theorem sx (I:Inv a) (hi:i<a.M) (h0:a.spin≠0) (hm:a.mc i=⟨22,-1,-1,-1,-1,-1,ii,false,[],25,13,0⟩) :
 Inv (a.put i ⟨25,-1,-1,-1,-1,-1,ii,false,[],25,13,0⟩):=Turn.put I hi {}
theorem xY (I:Inv a) (hi:i<a.M) (h0:a.ip=[]) (hm:a.mc i=⟨23,p,g,-1,-1,-1,ii,false,[],0,af,0⟩) :
 Inv (a.put i ⟨23,p,g,-1,-1,-1,ii,false,[],0,af,1⟩):=Turn.put I hi {
  mid:=(by exact .inl h0)}
theorem xX (I:Inv a) (hi:i<a.M) (h0:a.ip=[]) (hm:a.mc i=⟨23,p,-1,-1,-1,-1,ii,false,[],1,af,0⟩) :
 Inv (a.put i ⟨23,p,-1,-1,-1,-1,ii,false,[],1,af,1⟩):=Turn.put I hi {
  mid:=(by exact .inl h0)}
theorem vA (I:Inv a) (hi:i<a.M) {got:Int} (h0:a.ip=[]) (hm:a.mc i=⟨23,p,-1,-1,got,-1,ii,false,[],20,af,0⟩) :
 Inv (a.put i ⟨23,p,-1,-1,got,-1,ii,false,[],20,af,1⟩):=Turn.put I hi {
  mid:=(by exact .inl h0)}
theorem sq (I:Inv a) (hi:i<a.M) (h0:a.ip=[]) (hm:a.mc i=⟨23,p,-1,-1,-1,-1,ii,false,[],25,1,0⟩) :
 Inv (a.put i ⟨23,p,-1,-1,-1,-1,ii,false,[],25,1,1⟩):=Turn.put I hi {
  mid:=(by exact .inl h0)}
theorem so (I:Inv a) (hi:i<a.M) (h0:a.ip=[]) (hm:a.mc i=⟨23,p,-1,-1,-1,-1,ii,false,[],25,2,0⟩) :
 Inv (a.put i ⟨23,p,-1,-1,-1,-1,ii,false,[],25,2,1⟩):=Turn.put I hi {
  mid:=(by exact .inl h0)}
theorem qY (I:Inv a) (hi:i<a.M) (h0:a.ip=[]) (hm:a.mc i=⟨23,-1,-1,-1,-1,-1,ii,false,[],25,13,0⟩) :
 Inv (a.put i ⟨23,-1,-1,-1,-1,-1,ii,false,[],25,13,1⟩):=Turn.put I hi {
  mid:=(by exact .inl h0)}
theorem xW (I:Inv a) (hi:i<a.M) (h0:md≠0) (hm:a.mc i=⟨23,p,g,-1,-1,-1,ii,false,[],0,af,md⟩) :
 Inv (St.put {a with spin:=a.spin-1} i ⟨0,p,g,-1,-1,-1,ii,false,[],0,af,0⟩):=by
 have hip0:=I.mid i hi (by rw [hm]) (by rw [hm];exact h0);exact Turn.put I hi {}
theorem xV (I:Inv a) (hi:i<a.M) (h0:md≠0) (hm:a.mc i=⟨23,p,-1,-1,-1,-1,ii,false,[],1,af,md⟩) :
 Inv (St.put {a with spin:=a.spin-1} i ⟨1,p,-1,-1,-1,-1,ii,false,[],1,af,0⟩):=by
 have hip0:=I.mid i hi (by rw [hm]) (by rw [hm];exact h0);exact Turn.put I hi {}
theorem vy (I:Inv a) (hi:i<a.M) {got:Int} (h0:md≠0) (hm:a.mc i=⟨23,p,-1,-1,got,-1,ii,false,[],20,af,md⟩) :
 Inv (St.put {a with spin:=a.spin-1} i ⟨20,p,-1,-1,got,-1,ii,false,[],20,af,0⟩):=by
 have hip0:=I.mid i hi (by rw [hm]) (by rw [hm];exact h0);exact Turn.put I hi {}
theorem sk (I:Inv a) (hi:i<a.M) (h0:md≠0) (hm:a.mc i=⟨23,p,-1,-1,-1,-1,ii,false,[],25,1,md⟩) :
 Inv (St.put {a with spin:=a.spin-1} i ⟨25,p,-1,-1,-1,-1,ii,false,[],25,1,0⟩):=by
 have hip0:=I.mid i hi (by rw [hm]) (by rw [hm];exact h0);exact Turn.put I hi {}
theorem sj (I:Inv a) (hi:i<a.M) (h0:md≠0) (hm:a.mc i=⟨23,p,-1,-1,-1,-1,ii,false,[],25,2,md⟩) :
 Inv (St.put {a with spin:=a.spin-1} i ⟨25,p,-1,-1,-1,-1,ii,false,[],25,2,0⟩):=by
 have hip0:=I.mid i hi (by rw [hm]) (by rw [hm];exact h0);exact Turn.put I hi {}
theorem qX (I:Inv a) (hi:i<a.M) (h0:md≠0) (hm:a.mc i=⟨23,-1,-1,-1,-1,-1,ii,false,[],25,13,md⟩) :
 Inv (St.put {a with spin:=a.spin-1} i ⟨25,-1,-1,-1,-1,-1,ii,false,[],25,13,0⟩):=by
 have hip0:=I.mid i hi (by rw [hm]) (by rw [hm];exact h0);exact Turn.put I hi {}
theorem xU (I:Inv a) (hi:i<a.M) {L:List Nat} (h0:a.ip=p0::L) (h1:a.ms=[]) (h2:a.q=-1) (hm:a.mc i=⟨23,p,g,-1,-1,-1,ii,false,[],0,af,0⟩) :
 Inv (St.put {a with ip:=L,pend:=a.pend++[(p0:Int)]} i ⟨0,p,g,-1,-1,-1,ii,false,[],0,af,0⟩):=by
 have hp0:=I.ipr p0 (by rw [h0];simp);exact Turn.put I hi {}
theorem xS (I:Inv a) (hi:i<a.M) {L:List Nat} (h0:a.ip=p0::L) (h1:a.ms=[]) (h2:a.q=-1) (hm:a.mc i=⟨23,p,-1,-1,-1,-1,ii,false,[],1,af,0⟩) :
 Inv (St.put {a with ip:=L,pend:=a.pend++[(p0:Int)]} i ⟨1,p,-1,-1,-1,-1,ii,false,[],1,af,0⟩):=by
 have hp0:=I.ipr p0 (by rw [h0];simp);exact Turn.put I hi {}
theorem vw (I:Inv a) (hi:i<a.M) {got:Int} {L:List Nat} (h0:a.ip=p0::L) (h1:a.ms=[]) (h2:a.q=-1) (hm:a.mc i=⟨23,p,-1,-1,got,-1,ii,false,[],20,af,0⟩) :
 Inv (St.put {a with ip:=L,pend:=a.pend++[(p0:Int)]} i ⟨20,p,-1,-1,got,-1,ii,false,[],20,af,0⟩):=by
 have hp0:=I.ipr p0 (by rw [h0];simp);exact Turn.put I hi {}
theorem sh (I:Inv a) (hi:i<a.M) {L:List Nat} (h0:a.ip=p0::L) (h1:a.ms=[]) (h2:a.q=-1) (hm:a.mc i=⟨23,p,-1,-1,-1,-1,ii,false,[],25,1,0⟩) :
 Inv (St.put {a with ip:=L,pend:=a.pend++[(p0:Int)]} i ⟨25,p,-1,-1,-1,-1,ii,false,[],25,1,0⟩):=by
 have hp0:=I.ipr p0 (by rw [h0];simp);exact Turn.put I hi {}
theorem sf (I:Inv a) (hi:i<a.M) {L:List Nat} (h0:a.ip=p0::L) (h1:a.ms=[]) (h2:a.q=-1) (hm:a.mc i=⟨23,p,-1,-1,-1,-1,ii,false,[],25,2,0⟩) :
 Inv (St.put {a with ip:=L,pend:=a.pend++[(p0:Int)]} i ⟨25,p,-1,-1,-1,-1,ii,false,[],25,2,0⟩):=by
 have hp0:=I.ipr p0 (by rw [h0];simp);exact Turn.put I hi {}
theorem qW (I:Inv a) (hi:i<a.M) {L:List Nat} (h0:a.ip=p0::L) (h1:a.ms=[]) (h2:a.q=-1) (hm:a.mc i=⟨23,-1,-1,-1,-1,-1,ii,false,[],25,13,0⟩) :
 Inv (St.put {a with ip:=L,pend:=a.pend++[(p0:Int)]} i ⟨25,-1,-1,-1,-1,-1,ii,false,[],25,13,0⟩):=by
 have hp0:=I.ipr p0 (by rw [h0];simp);exact Turn.put I hi {}
theorem GQ (I:Inv a) (hi:i<a.M) (hk:tg=(k:Int)) (hm:a.mc i=⟨24,p,g,-1,-1,tg,ii,false,[],0,af,0⟩) :
 Inv (St.put {a with note:=upd a.note k 1} i ⟨0,p,g,-1,-1,-1,ii,false,[],0,af,0⟩):=by
 have V:=aZ.1 (I.v hi hm);simp [gm] at V;have hP:=I.hP;have hkM:k<a.M:=by omega
 have h4:a.note k=0/\k≠i:=by
  have h5:=I.tok k hkM;have h6:=cy (f:=fun j=>ht (a.mc j) k) hi;rw [hm] at h6;simp [ht,hk,if_true] at h6;have h7:aU (a.mc k)<=1:=by unfold aU;split<;>omega
  have h8:=I.note k hkM;simp [ht] at h5;refine ⟨by omega,fun e=>?_⟩;subst e;rw [hm] at h5;simp [aU] at h5;omega
 have ⟨h4,hki⟩:=h4;exact Turn.put I hi {}
theorem GP (I:Inv a) (hi:i<a.M) (hk:tg=(k:Int)) (hm:a.mc i=⟨24,p,-1,-1,-1,tg,ii,false,[],1,af,0⟩) :
 Inv (St.put {a with note:=upd a.note k 1} i ⟨1,p,-1,-1,-1,-1,ii,false,[],1,af,0⟩):=by
 have V:=aZ.1 (I.v hi hm);simp [gm] at V;have hP:=I.hP;have hkM:k<a.M:=by omega
 have h4:a.note k=0/\k≠i:=by
  have h5:=I.tok k hkM;have h6:=cy (f:=fun j=>ht (a.mc j) k) hi;rw [hm] at h6;simp [ht,hk,if_true] at h6;have h7:aU (a.mc k)<=1:=by unfold aU;split<;>omega
  have h8:=I.note k hkM;simp [ht] at h5;refine ⟨by omega,fun e=>?_⟩;subst e;rw [hm] at h5;simp [aU] at h5;omega
 have ⟨h4,hki⟩:=h4;exact Turn.put I hi {}
theorem Eu (I:Inv a) (hi:i<a.M) {got:Int} (hk:tg=(k:Int)) (hm:a.mc i=⟨24,p,-1,-1,got,tg,ii,false,[],20,af,0⟩) :
 Inv (St.put {a with note:=upd a.note k 1} i ⟨20,p,-1,-1,got,-1,ii,false,[],20,af,0⟩):=by
 have V:=aZ.1 (I.v hi hm);simp [gm] at V;have hP:=I.hP;have hkM:k<a.M:=by omega
 have h4:a.note k=0/\k≠i:=by
  have h5:=I.tok k hkM;have h6:=cy (f:=fun j=>ht (a.mc j) k) hi;rw [hm] at h6;simp [ht,hk,if_true] at h6;have h7:aU (a.mc k)<=1:=by unfold aU;split<;>omega
  have h8:=I.note k hkM;simp [ht] at h5;refine ⟨by omega,fun e=>?_⟩;subst e;rw [hm] at h5;simp [aU] at h5;omega
 have ⟨h4,hki⟩:=h4;exact Turn.put I hi {}
theorem zw (I:Inv a) (hi:i<a.M) (hk:tg=(k:Int)) (hm:a.mc i=⟨24,p,-1,-1,-1,tg,ii,false,[],25,1,0⟩) :
 Inv (St.put {a with note:=upd a.note k 1} i ⟨25,p,-1,-1,-1,-1,ii,false,[],25,1,0⟩):=by
 have V:=aZ.1 (I.v hi hm);simp [gm] at V;have hP:=I.hP;have hkM:k<a.M:=by omega
 have h4:a.note k=0/\k≠i:=by
  have h5:=I.tok k hkM;have h6:=cy (f:=fun j=>ht (a.mc j) k) hi;rw [hm] at h6;simp [ht,hk,if_true] at h6;have h7:aU (a.mc k)<=1:=by unfold aU;split<;>omega
  have h8:=I.note k hkM;simp [ht] at h5;refine ⟨by omega,fun e=>?_⟩;subst e;rw [hm] at h5;simp [aU] at h5;omega
 have ⟨h4,hki⟩:=h4;exact Turn.put I hi {}
theorem zu (I:Inv a) (hi:i<a.M) (hk:tg=(k:Int)) (hm:a.mc i=⟨24,p,-1,-1,-1,tg,ii,false,[],25,2,0⟩) :
 Inv (St.put {a with note:=upd a.note k 1} i ⟨25,p,-1,-1,-1,-1,ii,false,[],25,2,0⟩):=by
 have V:=aZ.1 (I.v hi hm);simp [gm] at V;have hP:=I.hP;have hkM:k<a.M:=by omega
 have h4:a.note k=0/\k≠i:=by
  have h5:=I.tok k hkM;have h6:=cy (f:=fun j=>ht (a.mc j) k) hi;rw [hm] at h6;simp [ht,hk,if_true] at h6;have h7:aU (a.mc k)<=1:=by unfold aU;split<;>omega
  have h8:=I.note k hkM;simp [ht] at h5;refine ⟨by omega,fun e=>?_⟩;subst e;rw [hm] at h5;simp [aU] at h5;omega
 have ⟨h4,hki⟩:=h4;exact Turn.put I hi {}
theorem xN (I:Inv a) (hi:i<a.M) (hk:tg=(k:Int)) (hm:a.mc i=⟨24,-1,-1,-1,-1,tg,ii,false,[],25,13,0⟩) :
 Inv (St.put {a with note:=upd a.note k 1} i ⟨25,-1,-1,-1,-1,-1,ii,false,[],25,13,0⟩):=by
 have V:=aZ.1 (I.v hi hm);simp [gm] at V;have hP:=I.hP;have hkM:k<a.M:=by omega
 have h4:a.note k=0/\k≠i:=by
  have h5:=I.tok k hkM;have h6:=cy (f:=fun j=>ht (a.mc j) k) hi;rw [hm] at h6;simp [ht,hk,if_true] at h6;have h7:aU (a.mc k)<=1:=by unfold aU;split<;>omega
  have h8:=I.note k hkM;simp [ht] at h5;refine ⟨by omega,fun e=>?_⟩;subst e;rw [hm] at h5;simp [aU] at h5;omega
 have ⟨h4,hki⟩:=h4;exact Turn.put I hi {}
theorem zT (I:Inv a) (hi:i<a.M) (h0:a.due=false) (hm:a.mc i=⟨25,p,-1,-1,-1,-1,ii,false,[],bk,1,0⟩) :
 Inv (a.put i ⟨1,p,-1,-1,-1,-1,ii,false,[],bk,1,0⟩):=Turn.put I hi {}
theorem ya (I:Inv a) (hi:i<a.M) (h0:a.out≠[]) (hd':d'=true->o'≠[]) (hg:0<=g0/\g0<a.G) (hm:a.mc i=⟨25,p,-1,-1,-1,-1,ii,false,[],bk,1,0⟩) :
 Inv (St.put {a with out:=o',due:=d'} i ⟨26,p,-1,-1,g0,-1,ii,false,[],bk,1,0⟩):=Turn.put I hi {
  dueo:=hd'}
theorem GZ (I:Inv a) (hi:i<a.M) {got:Int} (hm:a.mc i=⟨26,p,-1,-1,got,-1,ii,false,[],bk,1,0⟩) :
 Inv (St.put {a with stt:=s'} i ⟨27,p,-1,-1,got,-1,ii,false,[],25,1,0⟩):=Turn.put I hi {}
theorem zS (I:Inv a) (hi:i<a.M) (h0:a.due=false) (hm:a.mc i=⟨25,p,-1,-1,-1,-1,ii,false,[],bk,2,0⟩) :
 Inv (a.put i ⟨2,p,-1,-1,-1,-1,ii,false,[],bk,2,0⟩):=Turn.put I hi {}
theorem x9 (I:Inv a) (hi:i<a.M) (h0:a.out≠[]) (hd':d'=true->o'≠[]) (hg:0<=g0/\g0<a.G) (hm:a.mc i=⟨25,p,-1,-1,-1,-1,ii,false,[],bk,2,0⟩) :
 Inv (St.put {a with out:=o',due:=d'} i ⟨26,p,-1,-1,g0,-1,ii,false,[],bk,2,0⟩):=Turn.put I hi {
  dueo:=hd'}
theorem GY (I:Inv a) (hi:i<a.M) {got:Int} (hm:a.mc i=⟨26,p,-1,-1,got,-1,ii,false,[],bk,2,0⟩) :
 Inv (St.put {a with stt:=s'} i ⟨27,p,-1,-1,got,-1,ii,false,[],25,2,0⟩):=Turn.put I hi {}
theorem xZ (I:Inv a) (hi:i<a.M) (h0:a.due=false) (hm:a.mc i=⟨25,-1,-1,-1,-1,-1,ii,false,[],bk,13,0⟩) :
 Inv (a.put i ⟨13,-1,-1,-1,-1,-1,ii,false,[],bk,13,0⟩):=Turn.put I hi {}
theorem vB (I:Inv a) (hi:i<a.M) (h0:a.out≠[]) (hd':d'=true->o'≠[]) (hg:0<=g0/\g0<a.G) (hm:a.mc i=⟨25,-1,-1,-1,-1,-1,ii,false,[],bk,13,0⟩) :
 Inv (St.put {a with out:=o',due:=d'} i ⟨26,-1,-1,-1,g0,-1,ii,false,[],bk,13,0⟩):=Turn.put I hi {
  dueo:=hd'}
theorem Ez (I:Inv a) (hi:i<a.M) {got:Int} (hm:a.mc i=⟨26,-1,-1,-1,got,-1,ii,false,[],bk,13,0⟩) :
 Inv (St.put {a with stt:=s'} i ⟨27,-1,-1,-1,got,-1,ii,false,[],25,13,0⟩):=Turn.put I hi {}
theorem vd (I:Inv a) (hi:i<a.M) {got:Int} (hm:a.mc i=⟨27,p,-1,-1,got,-1,ii,false,[],1,af,0⟩) :
 Inv (St.put {a with gl:=a.gl++[got]} i ⟨21,p,-1,-1,-1,-1,ii,false,[],1,af,0⟩):=Turn.put I hi {}
theorem vc (I:Inv a) (hi:i<a.M) {got:Int} (hm:a.mc i=⟨27,p,-1,-1,got,-1,ii,false,[],25,1,0⟩) :
 Inv (St.put {a with gl:=a.gl++[got]} i ⟨21,p,-1,-1,-1,-1,ii,false,[],25,1,0⟩):=Turn.put I hi {}
theorem vb (I:Inv a) (hi:i<a.M) {got:Int} (hm:a.mc i=⟨27,p,-1,-1,got,-1,ii,false,[],25,2,0⟩) :
 Inv (St.put {a with gl:=a.gl++[got]} i ⟨21,p,-1,-1,-1,-1,ii,false,[],25,2,0⟩):=Turn.put I hi {}
theorem tZ (I:Inv a) (hi:i<a.M) {got:Int} (hm:a.mc i=⟨27,-1,-1,-1,got,-1,ii,false,[],25,13,0⟩) :
 Inv (St.put {a with gl:=a.gl++[got]} i ⟨21,-1,-1,-1,-1,-1,ii,false,[],25,13,0⟩):=Turn.put I hi {}
theorem Ey (I:Inv a) (hi:i<a.M) {got:Int} (hk:p=(k:Int)) (hm:a.mc i=⟨28,p,g,-1,got,-1,ii,false,[],bk,af,0⟩) :
 Inv (St.put {a with ring:=upd a.ring k L} i ⟨21,p,g,-1,-1,-1,ii,false,[],0,af,0⟩):=Turn.put I hi {
  clean:=(by
   intro p' hp';by_cases hpk:p'=k
   . right;right;subst hpk;have h4:=I.proc p' hp';have h5:=cy (f:=fun j=>hp (a.mc j) p') hi;simp [hm] at h5;have h6:hp (a.mc i) p'=1:=by rw [hm];simp [hp,neg_nat,hk]
     rw [hm] at h6;rw [hm];refine ⟨h6,?_⟩;simp [hc,eH,neg_nat];rw [h6] at h5;grind
   . right;left;refine ⟨.inl (upd_ne hpk),?_⟩;simp [hm,hc,eH,neg_nat]<;>first | done | omega | grind)}
theorem inv_park1A (I:Inv a) (hi:i<a.M) (h0:o'≠[]) (hm:a.mc i=⟨29,p,g,-1,-1,-1,ii,false,[],bk,af,0⟩) :
 Inv (St.put {a with out:=o',due:=true} i ⟨29,p,g,-1,-1,-1,ii,false,[],bk,af,2⟩):=Turn.put I hi {
  dueo:=(by intro _;exact h0)}
theorem GW (I:Inv a) (hi:i<a.M) (hm:a.mc i=⟨29,p,g,-1,-1,-1,ii,false,[],bk,af,0⟩) :
 Inv (St.put {a with out:=o',due:=false} i ⟨29,p,g,-1,-1,-1,ii,false,[],bk,af,1⟩):=Turn.put I hi {
  dueo:=(by intro h;cases h),
  r2:=(by intro h;cases h)}
theorem GV (I:Inv a) (hi:i<a.M) (hm:a.mc i=⟨29,p,g,-1,-1,-1,ii,false,[],bk,af,2⟩) :
 Inv (St.put {a with stt:=s'} i ⟨25,p,-1,-1,-1,-1,ii,false,[],bk,1,0⟩):=Turn.put I hi {}
theorem GU (I:Inv a) (hi:i<a.M) (hm:a.mc i=⟨29,p,g,-1,-1,-1,ii,false,[],bk,af,1⟩) :
 Inv (St.put {a with stt:=s'} i ⟨1,p,-1,-1,-1,-1,ii,false,[],bk,af,0⟩):=Turn.put I hi {}
theorem inv_await1A (I:Inv a) (hi:i<a.M) (h0:o'≠[]) (hm:a.mc i=⟨30,p,g,-1,-1,-1,ii,false,[],bk,af,0⟩) :
 Inv (St.put {a with out:=o',due:=true} i ⟨30,p,g,-1,-1,-1,ii,false,[],bk,af,2⟩):=Turn.put I hi {
  dueo:=(by intro _;exact h0)}
theorem EI (I:Inv a) (hi:i<a.M) (hm:a.mc i=⟨30,p,g,-1,-1,-1,ii,false,[],bk,af,0⟩) :
 Inv (St.put {a with out:=o',due:=false} i ⟨30,p,g,-1,-1,-1,ii,false,[],bk,af,1⟩):=Turn.put I hi {
  dueo:=(by intro h;cases h),
  r2:=(by intro h;cases h)}
theorem EH (I:Inv a) (hi:i<a.M) (hm:a.mc i=⟨30,p,g,-1,-1,-1,ii,false,[],bk,af,2⟩) :
 Inv (St.put {a with stt:=s'} i ⟨25,p,-1,-1,-1,-1,ii,false,[],bk,1,0⟩):=Turn.put I hi {}
theorem EG (I:Inv a) (hi:i<a.M) (hm:a.mc i=⟨30,p,g,-1,-1,-1,ii,false,[],bk,af,1⟩) :
 Inv (St.put {a with stt:=s'} i ⟨1,p,-1,-1,-1,-1,ii,false,[],bk,af,0⟩):=Turn.put I hi {}
theorem EF (I:Inv a) (hi:i<a.M) (hm:a.mc i=⟨30,p,g,-1,-1,-1,ii,false,[],bk,af,0⟩) :
 Inv (a.put i ⟨0,p,g,-1,-1,-1,ii,false,[],bk,af,0⟩):=Turn.put I hi {}
theorem inv_yield (I:Inv a) (hi:i<a.M) (hm:a.mc i=⟨0,p,g,-1,-1,-1,ii,false,[],bk,af,0⟩) :
 Inv (St.put {a with stt:=s'} i ⟨27,p,-1,-1,g,-1,ii,false,[],1,af,0⟩):=Turn.put I hi {}
theorem Kw (I:Inv a) (hi:i<a.M) (hm:a.mc i=⟨0,p,g,-1,-1,-1,ii,false,[],bk,af,0⟩) :
 Inv (St.put {a with stt:=s'} i ⟨1,p,-1,-1,-1,-1,ii,false,[],bk,af,0⟩):=Turn.put I hi {}
theorem Ku (I:Inv a) (hi:i<a.M) {x:Int} (hx:0<=x/\x<a.G) (hm:a.mc i=⟨0,p,g,-1,-1,-1,ii,false,[],bk,af,0⟩) :
 Inv (St.put {a with stt:=s'} i ⟨28,p,g,-1,x,-1,ii,false,[],bk,af,0⟩):=Turn.put I hi {}
theorem Kt (I:Inv a) (hi:i<a.M) (hm:a.mc i=⟨0,p,g,-1,-1,-1,ii,false,[],bk,af,0⟩) :
 Inv (a.put i ⟨29,p,g,-1,-1,-1,ii,false,[],bk,af,0⟩):=Turn.put I hi {}
theorem MX (I:Inv a) (hi:i<a.M) (hm:a.mc i=⟨0,p,g,-1,-1,-1,ii,false,[],bk,af,0⟩) :
 Inv (a.put i ⟨30,p,g,-1,-1,-1,ii,false,[],bk,af,0⟩):=Turn.put I hi {}
end
def du (m:Am) (g:Int) (r:List Int):Am:={m with got:=g,rest:=r,bk:=20,pl:=if r≠[] then 17 else if m.sp=true then 19 else 20}
def stealA (m:Am) (k:Int) (P:Nat):Am:={m with ii:=k,pl:=if (P:Int)<=k then 7 else 6}
inductive Act (a:St) (i:Nat):St->Prop
 | sched:(a.mc i).pl=1->Act a i (a.put i {a.mc i with pl:=3})
 | schedD:(a.mc i).pl=1->Act a i (a.put i {a.mc i with pl:=25,af:=2})
 | oneNo:(a.mc i).pl=2->a.gl=[]->Act a i (a.put i {a.mc i with pl:=3})
 | oneGot {g l}:(a.mc i).pl=2->a.gl=g::l->Act a i (St.put {a with gl:=l} i (du (a.mc i) g []))
 | localNo {k:Nat}:(a.mc i).pl=3->(a.mc i).p=k->a.ring k=[]->Act a i (a.put i {a.mc i with pl:=4})
 | localGot {k:Nat} {g L}:(a.mc i).pl=3->(a.mc i).p=k->(a.ring k).Perm (g::L)->Act a i (St.put {a with ring:=upd a.ring k L} i (du (a.mc i) g []))
 | globalNo:(a.mc i).pl=4->a.gl=[]->Act a i (a.put i (if (a.mc i).sp=true then stealA (a.mc i) 1 a.P else {a.mc i with pl:=5}))
 | globalGot {g r l}:(a.mc i).pl=4->a.gl=g::(r++l)->Act a i (St.put {a with gl:=l} i (du (a.mc i) g r))
 | spinUp:(a.mc i).pl=5->Act a i (St.put {a with spin:=a.spin+1} i (stealA {a.mc i with sp:=true} 1 a.P))
 | stealNo:(a.mc i).pl=6->a.ring (((a.mc i).p+(a.mc i).ii) % a.P).toNat=[]->Act a i (a.put i (stealA (a.mc i) ((a.mc i).ii+1) a.P))
 | stealGot {k:Nat} {g r L}:(a.mc i).pl=6->k<a.P->(((a.mc i).p+(a.mc i).ii) % a.P).toNat=k->(a.ring k).Perm (g::(r++L))->Act a i (St.put {a with ring:=upd a.ring k L} i (du (a.mc i) g r))
 | releaseNo {ip':List Nat}:(a.mc i).pl=7->a.gl=[]->(∀ x:Nat,ip'.count x=a.ip.count x+if (x:Int)=(a.mc i).p then 1 else 0)->(∀ j,j<a.M->(a.mc j).pl=23->(a.mc j).md=0)->Act a i (St.put {a with ip:=ip'} i {a.mc i with p:=-1,pl:=8})
 | releaseGot {g r l}:(a.mc i).pl=7->a.gl=g::(r++l)->Act a i (St.put {a with gl:=l} i (du (a.mc i) g r))
 | drop:(a.mc i).pl=8->Act a i (St.put {a with spin:=a.spin-1} i {a.mc i with sp:=false,ii:=0,pl:=9})
 | look {k:Nat}:(a.mc i).pl=9->(a.mc i).ii=k->Act a i (a.put i {a.mc i with ii:=(a.mc i).ii+1,pl:=if a.ring k≠[] then 11 else if (a.mc i).ii+1<a.P then 9 else 10})
 | lookG:(a.mc i).pl=10->Act a i (a.put i {a.mc i with pl:=if a.gl≠[] then 11 else 13})
 | retakeNo:(a.mc i).pl=11->a.ip=[]->Act a i (a.put i {a.mc i with pl:=13})
 | retakeGot {p:Nat} {L}:(a.mc i).pl=11->a.ip=p::L->Act a i (St.put {a with ip:=L} i {a.mc i with p:=(p:Int),pl:=12})
 | spinBack:(a.mc i).pl=12->Act a i (St.put {a with spin:=a.spin+1} i {a.mc i with sp:=true,pl:=4})
 | stopPend {p L}:(a.mc i).pl=13->a.pend=p::L->Act a i (St.put {a with pend:=L} i {a.mc i with p:=p,sp:=true,pl:=4})
 | stopPoll:(a.mc i).pl=13->a.pend=[]->a.q=-1->Act a i (St.put {a with q:=(i:Int)} i {a.mc i with pl:=14})
 | stopIdle:(a.mc i).pl=13->a.pend=[]->a.q≠-1->Act a i (St.put {a with ms:=a.ms++[(i:Int)]} i {a.mc i with pl:=16})
 | check:(a.mc i).pl=14->Act a i (a.put i {a.mc i with pl:=if a.due=true then 15 else 16})
 | unpollYes:(a.mc i).pl=15->a.q=(i:Int)->Act a i (St.put {a with q:=-1} i {a.mc i with af:=13,pl:=25})
 | unpollNo:(a.mc i).pl=15->a.q≠(i:Int)->Act a i (a.put i {a.mc i with pl:=16})
 | wokenTold:(a.mc i).pl=16->a.note i=1->(a.mc i).nx<0->Act a i (St.put {a with note:=upd a.note i 0} i {a.mc i with af:=13,pl:=25})
 | wokenNext:(a.mc i).pl=16->a.note i=1->0<=(a.mc i).nx->Act a i (St.put {a with note:=upd a.note i 0} i {a.mc i with p:=(a.mc i).nx,nx:=-1,sp:=true,pl:=4})
 | putRest {k:Nat} {L}:(a.mc i).pl=17->(a.mc i).p=k->L.Perm (a.ring k++(a.mc i).rest)->Act a i (St.put {a with ring:=upd a.ring k L} i {a.mc i with rest:=[],pl:=if (a.mc i).sp=true then 19 else 21})
 | unspin:(a.mc i).pl=19->Act a i (St.put {a with spin:=a.spin-1} i {a.mc i with sp:=false,pl:=21})
 | dispatch {g:Nat}:(a.mc i).pl=20->(a.mc i).got=g->Act a i (St.put {a with stt:=upd a.stt g 2} i {a.mc i with g:=(a.mc i).got,got:=-1,pl:=0})
 | load:(a.mc i).pl=21->Act a i (a.put i {a.mc i with pl:=if a.spin=0 then 22 else (a.mc i).bk})
 | claimYes:(a.mc i).pl=22->a.spin=0->Act a i (St.put {a with spin:=1} i {a.mc i with pl:=23})
 | claimNo:(a.mc i).pl=22->a.spin≠0->Act a i (a.put i {a.mc i with pl:=(a.mc i).bk})
 | findNone:(a.mc i).pl=23->(a.mc i).md=0->a.ip=[]->Act a i (a.put i {a.mc i with md:=1})
 | findOver:(a.mc i).pl=23->(a.mc i).md≠0->Act a i (St.put {a with spin:=a.spin-1} i {a.mc i with md:=0,pl:=(a.mc i).bk})
 | findPend {p:Nat} {L}:(a.mc i).pl=23->(a.mc i).md=0->a.ip=p::L->a.ms=[]->a.q=-1->Act a i (St.put {a with ip:=L,pend:=a.pend++[(p:Int)]} i {a.mc i with pl:=(a.mc i).bk})
 | findM {p k:Nat} {L ms' q'}:(a.mc i).pl=23->(a.mc i).md=0->a.ip=p::L->k<a.M->(a.ms=ms'++[(k:Int)]/\q'=a.q\/a.ms=[]/\ms'=[]/\a.q=(k:Int)/\q'=-1)->
  Act a i (St.put {a with ip:=L,ms:=ms',q:=q',mc:=upd a.mc k {a.mc k with nx:=(p:Int)}} i {a.mc i with tg:=(k:Int),pl:=24})
 | wake {k:Nat}:(a.mc i).pl=24->(a.mc i).tg=k->Act a i (St.put {a with note:=upd a.note k 1} i {a.mc i with tg:=-1,pl:=(a.mc i).bk})
 | delivNo:(a.mc i).pl=25->a.due=false->Act a i (a.put i {a.mc i with pl:=(a.mc i).af})
 | delivGot {g:Int} {o' d'}:(a.mc i).pl=25->a.due=true->(∀ x,a.out.count x=o'.count x+if x=g then 1 else 0)->(d'=true->o'≠[])->(∀ j,j<a.M->(a.mc j).pl=29\/(a.mc j).pl=30->(a.mc j).md=0)->Act a i (St.put {a with out:=o',due:=d'} i {a.mc i with got:=g,rest:=[],pl:=26})
 | mark {g:Nat}:(a.mc i).pl=26->(a.mc i).got=g->Act a i (St.put {a with stt:=upd a.stt g 1} i {a.mc i with bk:=25,pl:=27})
 | putOne:(a.mc i).pl=27->Act a i (St.put {a with gl:=a.gl++[(a.mc i).got]} i {a.mc i with got:=-1,pl:=21})
 | putNext {k:Nat} {L}:(a.mc i).pl=28->(a.mc i).p=k->L.Perm (a.ring k++[(a.mc i).got])->Act a i (St.put {a with ring:=upd a.ring k L} i {a.mc i with rest:=[],got:=-1,bk:=0,pl:=21})
 | out1 {o' d'}:(a.mc i).pl=29\/(a.mc i).pl=30->(a.mc i).md=0->(∀ x,o'.count x=a.out.count x+if x=(a.mc i).g then 1 else 0)->(a.due=true->d'=true)->Act a i (St.put {a with out:=o',due:=d'} i {a.mc i with md:=if d'=true then 2 else 1})
 | out2 {g:Nat}:(a.mc i).pl=29\/(a.mc i).pl=30->(a.mc i).md≠0->(a.mc i).g=g->Act a i (St.put {a with stt:=upd a.stt g (if (a.mc i).pl=29 then 4 else 5)} i {a.mc i with g:=-1,md:=0,pl:=if (a.mc i).md=2 then 25 else 1,af:=if (a.mc i).md=2 then 1 else (a.mc i).af})
 | awaitNo:(a.mc i).pl=30->(a.mc i).md=0->Act a i (a.put i {a.mc i with pl:=0})
inductive Deed (a:St) (i:Nat):St->Prop
 | yield {g:Nat}:(a.mc i).pl=0->(a.mc i).g=g->Deed a i (St.put {a with stt:=upd a.stt g 1} i {a.mc i with g:=-1,got:=(a.mc i).g,bk:=1,pl:=27})
 | leave {g:Nat} {s:Int}:(a.mc i).pl=0->(a.mc i).g=g->(s=3\/s=6)->Deed a i (St.put {a with stt:=upd a.stt g s} i {a.mc i with got:=-1,g:=-1,pl:=1})
 | rouse {g:Nat}:(a.mc i).pl=0->g<a.G->(a.stt g=0\/a.stt g=3)->Deed a i (St.put {a with stt:=upd a.stt g 1} i {a.mc i with got:=(g:Int),pl:=28})
 | sleep:(a.mc i).pl=0->Deed a i (a.put i {a.mc i with pl:=29})
 | wait:(a.mc i).pl=0->Deed a i (a.put i {a.mc i with pl:=30})
inductive T0 (a:St):St->Prop
 | still {d':Bool}:(d'=true->a.out≠[])->(d'=true->a.q=-1)->T0 a {a with due:=d'}
 | tell {k:Nat}:a.out≠[]->a.q=(k:Int)->T0 a {a with due:=true,q:=-1,note:=upd a.note k 1}
section
variable {m:Am} {P G M:Nat}
theorem can0 (V:oC P M G m) (h:m.pl=0):∃ p g ii bk af,m=⟨0,p,g,-1,-1,-1,ii,false,[],bk,af,0⟩:=by have V:=aZ.1 V;have ⟨pl,p,g,nx,got,tg,ii,sp,rest,bk,af,md⟩:=m;simp only at h V;subst h;simp [gm] at V;refine ⟨p,g,ii,bk,af,?_⟩;simp;first | done | omega | grind
theorem can1 (V:oC P M G m) (h:m.pl=1):∃ p ii bk af,m=⟨1,p,-1,-1,-1,-1,ii,false,[],bk,af,0⟩:=by have V:=aZ.1 V;have ⟨pl,p,g,nx,got,tg,ii,sp,rest,bk,af,md⟩:=m;simp only at h V;subst h;simp [gm] at V;refine ⟨p,ii,bk,af,?_⟩;simp;first | done | omega | grind
theorem ND (V:oC P M G m) (h:m.pl=2):∃ p ii bk af,m=⟨2,p,-1,-1,-1,-1,ii,false,[],bk,af,0⟩:=by have V:=aZ.1 V;have ⟨pl,p,g,nx,got,tg,ii,sp,rest,bk,af,md⟩:=m;simp only at h V;subst h;simp [gm] at V;refine ⟨p,ii,bk,af,?_⟩;simp;first | done | omega | grind
theorem Ny (V:oC P M G m) (h:m.pl=3):∃ p ii bk af,m=⟨3,p,-1,-1,-1,-1,ii,false,[],bk,af,0⟩:=by have V:=aZ.1 V;have ⟨pl,p,g,nx,got,tg,ii,sp,rest,bk,af,md⟩:=m;simp only at h V;subst h;simp [gm] at V;refine ⟨p,ii,bk,af,?_⟩;simp;first | done | omega | grind
theorem Nx (V:oC P M G m) (h:m.pl=4):∃ p ii sp bk af,m=⟨4,p,-1,-1,-1,-1,ii,sp,[],bk,af,0⟩:=by have V:=aZ.1 V;have ⟨pl,p,g,nx,got,tg,ii,sp,rest,bk,af,md⟩:=m;simp only at h V;subst h;simp [gm] at V;refine ⟨p,ii,sp,bk,af,?_⟩;simp;first | done | omega | grind
theorem Vz (V:oC P M G m) (h:m.pl=5):∃ p ii bk af,m=⟨5,p,-1,-1,-1,-1,ii,false,[],bk,af,0⟩:=by have V:=aZ.1 V;have ⟨pl,p,g,nx,got,tg,ii,sp,rest,bk,af,md⟩:=m;simp only at h V;subst h;simp [gm] at V;refine ⟨p,ii,bk,af,?_⟩;simp;first | done | omega | grind
theorem Nw (V:oC P M G m) (h:m.pl=6):∃ p ii bk af,m=⟨6,p,-1,-1,-1,-1,ii,true,[],bk,af,0⟩:=by have V:=aZ.1 V;have ⟨pl,p,g,nx,got,tg,ii,sp,rest,bk,af,md⟩:=m;simp only at h V;subst h;simp [gm] at V;refine ⟨p,ii,bk,af,?_⟩;simp;first | done | omega | grind
theorem Nv (V:oC P M G m) (h:m.pl=7):∃ p ii bk af,m=⟨7,p,-1,-1,-1,-1,ii,true,[],bk,af,0⟩:=by have V:=aZ.1 V;have ⟨pl,p,g,nx,got,tg,ii,sp,rest,bk,af,md⟩:=m;simp only at h V;subst h;simp [gm] at V;refine ⟨p,ii,bk,af,?_⟩;simp;first | done | omega | grind
theorem Vy (V:oC P M G m) (h:m.pl=8):∃ ii bk af,m=⟨8,-1,-1,-1,-1,-1,ii,true,[],bk,af,0⟩:=by have V:=aZ.1 V;have ⟨pl,p,g,nx,got,tg,ii,sp,rest,bk,af,md⟩:=m;simp only at h V;subst h;simp [gm] at V;refine ⟨ii,bk,af,?_⟩;simp;first | done | omega | grind
theorem Vx (V:oC P M G m) (h:m.pl=9):∃ ii bk af,m=⟨9,-1,-1,-1,-1,-1,ii,false,[],bk,af,0⟩:=by have V:=aZ.1 V;have ⟨pl,p,g,nx,got,tg,ii,sp,rest,bk,af,md⟩:=m;simp only at h V;subst h;simp [gm] at V;refine ⟨ii,bk,af,?_⟩;simp;first | done | omega | grind
theorem Q2 (V:oC P M G m) (h:m.pl=10):∃ ii bk af,m=⟨10,-1,-1,-1,-1,-1,ii,false,[],bk,af,0⟩:=by have V:=aZ.1 V;have ⟨pl,p,g,nx,got,tg,ii,sp,rest,bk,af,md⟩:=m;simp only at h V;subst h;simp [gm] at V;refine ⟨ii,bk,af,?_⟩;simp;first | done | omega | grind
theorem IT (V:oC P M G m) (h:m.pl=11):∃ ii bk af,m=⟨11,-1,-1,-1,-1,-1,ii,false,[],bk,af,0⟩:=by have V:=aZ.1 V;have ⟨pl,p,g,nx,got,tg,ii,sp,rest,bk,af,md⟩:=m;simp only at h V;subst h;simp [gm] at V;refine ⟨ii,bk,af,?_⟩;simp;first | done | omega | grind
theorem Q1 (V:oC P M G m) (h:m.pl=12):∃ p ii bk af,m=⟨12,p,-1,-1,-1,-1,ii,false,[],bk,af,0⟩:=by have V:=aZ.1 V;have ⟨pl,p,g,nx,got,tg,ii,sp,rest,bk,af,md⟩:=m;simp only at h V;subst h;simp [gm] at V;refine ⟨p,ii,bk,af,?_⟩;simp;first | done | omega | grind
theorem Bg (V:oC P M G m) (h:m.pl=13):∃ ii bk af,m=⟨13,-1,-1,-1,-1,-1,ii,false,[],bk,af,0⟩:=by have V:=aZ.1 V;have ⟨pl,p,g,nx,got,tg,ii,sp,rest,bk,af,md⟩:=m;simp only at h V;subst h;simp [gm] at V;refine ⟨ii,bk,af,?_⟩;simp;first | done | omega | grind
theorem Q0 (V:oC P M G m) (h:m.pl=14):∃ nx ii bk af,m=⟨14,-1,-1,nx,-1,-1,ii,false,[],bk,af,0⟩:=by have V:=aZ.1 V;have ⟨pl,p,g,nx,got,tg,ii,sp,rest,bk,af,md⟩:=m;simp only at h V;subst h;simp [gm] at V;refine ⟨nx,ii,bk,af,?_⟩;simp;first | done | omega | grind
theorem IS (V:oC P M G m) (h:m.pl=15):∃ nx ii bk af,m=⟨15,-1,-1,nx,-1,-1,ii,false,[],bk,af,0⟩:=by have V:=aZ.1 V;have ⟨pl,p,g,nx,got,tg,ii,sp,rest,bk,af,md⟩:=m;simp only at h V;subst h;simp [gm] at V;refine ⟨nx,ii,bk,af,?_⟩;simp;first | done | omega | grind
theorem IQ (V:oC P M G m) (h:m.pl=16):∃ nx ii bk af,m=⟨16,-1,-1,nx,-1,-1,ii,false,[],bk,af,0⟩:=by have V:=aZ.1 V;have ⟨pl,p,g,nx,got,tg,ii,sp,rest,bk,af,md⟩:=m;simp only at h V;subst h;simp [gm] at V;refine ⟨nx,ii,bk,af,?_⟩;simp;first | done | omega | grind
theorem NF (V:oC P M G m) (h:m.pl=17):∃ p got ii sp rest af,m=⟨17,p,-1,-1,got,-1,ii,sp,rest,20,af,0⟩:=by have V:=aZ.1 V;have ⟨pl,p,g,nx,got,tg,ii,sp,rest,bk,af,md⟩:=m;simp only at h V;subst h;simp [gm] at V;refine ⟨p,got,ii,sp,rest,af,?_⟩;simp;first | done | omega | grind
theorem QZ (V:oC P M G m) (h:m.pl=19):∃ p got ii af,m=⟨19,p,-1,-1,got,-1,ii,true,[],20,af,0⟩:=by have V:=aZ.1 V;have ⟨pl,p,g,nx,got,tg,ii,sp,rest,bk,af,md⟩:=m;simp only at h V;subst h;simp [gm] at V;refine ⟨p,got,ii,af,?_⟩;simp;first | done | omega | grind
theorem NC (V:oC P M G m) (h:m.pl=20):∃ p got ii bk af,m=⟨20,p,-1,-1,got,-1,ii,false,[],bk,af,0⟩:=by have V:=aZ.1 V;have ⟨pl,p,g,nx,got,tg,ii,sp,rest,bk,af,md⟩:=m;simp only at h V;subst h;simp [gm] at V;refine ⟨p,got,ii,bk,af,?_⟩;simp;first | done | omega | grind
theorem QY (V:oC P M G m) (h:m.pl=21):∃ p g got ii bk af,m=⟨21,p,g,-1,got,-1,ii,false,[],bk,af,0⟩:=by have V:=aZ.1 V;have ⟨pl,p,g,nx,got,tg,ii,sp,rest,bk,af,md⟩:=m;simp only at h V;subst h;simp [gm] at V;refine ⟨p,g,got,ii,bk,af,?_⟩;simp;first | done | omega | grind
theorem IP (V:oC P M G m) (h:m.pl=22):∃ p g got ii bk af,m=⟨22,p,g,-1,got,-1,ii,false,[],bk,af,0⟩:=by have V:=aZ.1 V;have ⟨pl,p,g,nx,got,tg,ii,sp,rest,bk,af,md⟩:=m;simp only at h V;subst h;simp [gm] at V;refine ⟨p,g,got,ii,bk,af,?_⟩;simp;first | done | omega | grind
theorem can23 (V:oC P M G m) (h:m.pl=23):∃ p g got ii bk af md,m=⟨23,p,g,-1,got,-1,ii,false,[],bk,af,md⟩:=by have V:=aZ.1 V;have ⟨pl,p,g,nx,got,tg,ii,sp,rest,bk,af,md⟩:=m;simp only at h V;subst h;simp [gm] at V;refine ⟨p,g,got,ii,bk,af,md,?_⟩;simp;first | done | omega | grind
theorem QX (V:oC P M G m) (h:m.pl=24):∃ p g got tg ii bk af,m=⟨24,p,g,-1,got,tg,ii,false,[],bk,af,0⟩:=by have V:=aZ.1 V;have ⟨pl,p,g,nx,got,tg,ii,sp,rest,bk,af,md⟩:=m;simp only at h V;subst h;simp [gm] at V;refine ⟨p,g,got,tg,ii,bk,af,?_⟩;simp;first | done | omega | grind
theorem E3 (V:oC P M G m) (h:m.pl=25):∃ p ii bk af,m=⟨25,p,-1,-1,-1,-1,ii,false,[],bk,af,0⟩:=by have V:=aZ.1 V;have ⟨pl,p,g,nx,got,tg,ii,sp,rest,bk,af,md⟩:=m;simp only at h V;subst h;simp [gm] at V;refine ⟨p,ii,bk,af,?_⟩;simp;first | done | omega | grind
theorem NB (V:oC P M G m) (h:m.pl=26):∃ p got ii bk af,m=⟨26,p,-1,-1,got,-1,ii,false,[],bk,af,0⟩:=by have V:=aZ.1 V;have ⟨pl,p,g,nx,got,tg,ii,sp,rest,bk,af,md⟩:=m;simp only at h V;subst h;simp [gm] at V;refine ⟨p,got,ii,bk,af,?_⟩;simp;first | done | omega | grind
theorem NA (V:oC P M G m) (h:m.pl=27):∃ p got ii bk af,m=⟨27,p,-1,-1,got,-1,ii,false,[],bk,af,0⟩:=by have V:=aZ.1 V;have ⟨pl,p,g,nx,got,tg,ii,sp,rest,bk,af,md⟩:=m;simp only at h V;subst h;simp [gm] at V;refine ⟨p,got,ii,bk,af,?_⟩;simp;first | done | omega | grind
theorem Nz (V:oC P M G m) (h:m.pl=28):∃ p g got ii bk af,m=⟨28,p,g,-1,got,-1,ii,false,[],bk,af,0⟩:=by have V:=aZ.1 V;have ⟨pl,p,g,nx,got,tg,ii,sp,rest,bk,af,md⟩:=m;simp only at h V;subst h;simp [gm] at V;refine ⟨p,g,got,ii,bk,af,?_⟩;simp;first | done | omega | grind
theorem IN (V:oC P M G m) (h:m.pl=29):∃ p g ii bk af md,m=⟨29,p,g,-1,-1,-1,ii,false,[],bk,af,md⟩:=by have V:=aZ.1 V;have ⟨pl,p,g,nx,got,tg,ii,sp,rest,bk,af,md⟩:=m;simp only at h V;subst h;simp [gm] at V;refine ⟨p,g,ii,bk,af,md,?_⟩;simp;first | done | omega | grind
theorem Bf (V:oC P M G m) (h:m.pl=30):∃ p g ii bk af md,m=⟨30,p,g,-1,-1,-1,ii,false,[],bk,af,md⟩:=by have V:=aZ.1 V;have ⟨pl,p,g,nx,got,tg,ii,sp,rest,bk,af,md⟩:=m;simp only at h V;subst h;simp [gm] at V;refine ⟨p,g,ii,bk,af,md,?_⟩;simp;first | done | omega | grind
structure Rng (a:St):Prop where
 gl:∀ g,g∈a.gl->0<=g/\g<a.G
 ring:∀ k,k<a.P->∀ g,g∈a.ring k->0<=g/\g<a.G
 out:∀ g,g∈a.out->0<=g/\g<a.G
 rest:∀ i,i<a.M->∀ g,g∈(a.mc i).rest->0<=g/\g<a.G
section
variable {a b:St} {i:Nat}
theorem dY (V:oC P M G m) (h:m.pl=21\/m.pl=22\/m.pl=23\/m.pl=24) :
 (m.bk=0/\m.got=-1)\/(m.bk=1/\m.g=-1/\m.got=-1)\/(m.bk=20/\m.g=-1)\/(m.bk=25/\m.af=1/\m.g=-1/\m.got=-1)\/(m.bk=25/\m.af=2/\m.g=-1/\m.got=-1)\/(m.bk=25/\m.af=13/\m.p=-1/\m.g=-1/\m.got=-1):=by
 have h1:=V.Rv h
 have h2:=V.g
 have h3:=V.got
 have h4:=V.p
 have h5:=V.af
 have:m.pl≠0/\m.pl≠28/\m.pl≠29/\m.pl≠30/\m.pl≠17/\m.pl≠19/\m.pl≠20/\m.pl≠26/\m.pl≠27:=by omega
 rcases h1 with h1 | h1 | h1 | h1
 . left;refine ⟨h1,?_⟩;rw [if_neg (by omega)] at h3;exact h3
 . right;left;refine ⟨h1,?_,?_⟩
   . rw [if_neg (by omega)] at h2;exact h2
   . rw [if_neg (by omega)] at h3;exact h3
 . right;right;left;refine ⟨h1,?_⟩;rw [if_neg (by omega)] at h2;exact h2
 . rw [if_neg (by omega)] at h2 h3
   have h6:=h5 (by omega)
   rcases h6 with h6 | h6 | h6
   . right;right;right;left;exact ⟨h1,h6,h2,h3⟩
   . right;right;right;right;left;exact ⟨h1,h6,h2,h3⟩
   . right;right;right;right;right
     rw [if_pos (by unfold gm;omega)] at h4
     exact ⟨h1,h6,h4,h2,h3⟩
theorem Kx {a:St} (I:Inv a) {i:Nat} (hi:i<a.M) {p0 k:Nat} {L:List Nat} {ms':List Int} {q':Int} {p g got ii bk af:Int} (hm:a.mc i=⟨23,p,g,-1,got,-1,ii,false,[],bk,af,0⟩) (h0:a.ip=p0::L) (hk:k<a.M) (hq:a.ms=ms'++[(k:Int)]/\q'=a.q\/a.ms=[]/\ms'=[]/\a.q=(k:Int)/\q'=-1) :
 Inv (St.put {a with ip:=L,ms:=ms',q:=q',mc:=upd a.mc k {a.mc k with nx:=(p0:Int)}} i ⟨24,p,g,-1,got,k,ii,false,[],bk,af,0⟩):=by
 obtain ⟨mk,hmk⟩:∃ mk,a.mc k=mk:=⟨_,rfl⟩
 have Vi:=I.v hi hm
 have Vk:=I.v hk hmk
 have tk:=I.tok k hk
 have hcq:1<=a.ms.count (k:Int)+qi a.q k:=by
  rcases hq with ⟨e,_⟩ | ⟨_,_,e,_⟩
  . rw [e,bq];simp;omega
  . simp [qi,e]
 have st1:aU mk<=1:=by unfold aU;split<;>omega
 have nk:=I.note k hk
 rw [hmk] at tk
 have st:aU mk=1:=by omega
 have hpl:mk.pl=14\/mk.pl=15\/mk.pl=16:=by unfold aU at st;split at st<;>omega
 have cq1:a.ms.count (k:Int)+qi a.q k=1:=by omega
 have hn0:a.note k=0:=by omega
 have hnx:mk.nx=-1:=by have h1:=I.nxt k hk;rw [hmk] at h1;have h2:=Vk.nx;omega
 have hki:k≠i:=by rintro rfl;rw [hm] at hmk;rw [<- hmk] at hpl;simp at hpl
 have hp0:=I.ipr p0 (by rw [h0];simp)
 have hpend:a.pend=[]:=by
  by_cases h:a.pend=[]
  . exact h
  . have ⟨h1,h2⟩:=I.pendI h
    rcases hq with ⟨e,_⟩ | ⟨_,_,e,_⟩
    . rw [h1] at e;simp at e
    . omega
 have cnt:∀ j:Nat,ms'.count (j:Int)+qi q' j+(if j=k then 1 else 0)=a.ms.count (j:Int)+qi a.q j:=by
  intro j
  rcases hq with ⟨e,e2⟩ | ⟨e,e2,e3,e4⟩
  . rw [e,e2,bq,oE];by_cases hjk:j=k
    . subst hjk;simp;omega
    . have:¬ ((k:Int)=(j:Int)):=by omega
      simp [hjk,this]
  . rw [e,e2,e3,e4];by_cases hjk:j=k
    . subst hjk;simp [qi,neg_nat]
    . have:¬ ((k:Int)=(j:Int)):=by omega
      simp [qi,neg_nat,hjk,this]
 have mssub:∀ x,x∈ms'->x∈a.ms:=by
  intro x hx
  rcases hq with ⟨e,_⟩ | ⟨_,e,_,_⟩
  . rw [e];simp [hx]
  . rw [e] at hx;cases hx
 obtain ⟨m',hm'⟩:∃ m':Am,m'=⟨24,p,g,-1,got,k,ii,false,[],bk,af,0⟩:=⟨_,rfl⟩
 obtain ⟨mk',hmk'⟩:∃ m':Am,m'={mk with nx:=(p0:Int)}:=⟨_,rfl⟩
 rw [hmk,<- hm',<- hmk']
 have bi:upd (upd a.mc k mk') i m' i=m':=aT
 have bk':upd (upd a.mc k mk') i m' k=mk':=by rw [upd_ne hki,aT]
 have bj:∀ j,j≠i->j≠k->upd (upd a.mc k mk') i m' j=a.mc j:=fun j h1 h2=>by rw [upd_ne h1,upd_ne h2]
 have S:∀ f:Am->Nat,sumTo (fun j=>f (upd (upd a.mc k mk') i m' j)) a.M+f (a.mc i)+f mk=sumTo (fun j=>f (a.mc j)) a.M+f m'+f mk':=fun f=>by
  have h1:=dM (f:=fun j=>f (upd a.mc k mk' j)) (g:=fun j=>f (upd (upd a.mc k mk') i m' j)) hi fun j _ hj=>by simp [upd_ne hj]
  have h2:=dM (f:=fun j=>f (a.mc j)) (g:=fun j=>f (upd a.mc k mk' j)) hk fun j _ hj=>by simp [upd_ne hj]
  simp [aT,upd_ne (aY hki)] at h1 h2;rw [hmk] at h2;omega
 rw [hm] at S
 have wk:∀ x,0<w1 mk' x:=fun x=>by simp [hmk',w1,r0]
 have posk:∀ f:Nat->Nat,0<f k->0<sumTo f a.M:=fun f h=>iv hk h
 constructor
 case hP=>exact I.hP
 case val=>
  intro j hj;simp only;by_cases h1:j=i
  . subst h1;rw [bi,hm'];have V:=aZ.1 Vi;have hP:=I.hP;simp [gm] at V;constructor<;>simp [gm]<;>first | done | omega | grind
  . by_cases h2:j=k
    . subst h2;rw [bk',hmk'];exact ⟨Vk.pl,Vk.p,⟨by simp only;omega,by simp only;omega,fun _=>hpl⟩,Vk.sp,Vk.sp2,Vk.tg,Vk.g,Vk.got,Vk.rest,Vk.Rv,Vk.bk2,Vk.bk3,Vk.af,Vk.ii,Vk.md⟩
    . rw [bj j h1 h2];exact I.val j hj
 case proc=>
  intro x hx;have h1:=I.proc x hx;have h2:=S (fun m=>hp m x);simp only;rw [h0] at h1;simp only [bR] at h1;have h3:hp mk' x=hp mk x+if p0=x then 1 else 0:=by have hx':((p0:Int)=(x:Int))=(p0=x):=propext (by omega);simp [hmk',hp,hnx,neg_nat,hx',if_false,dJ]
  have h4:hp m' x=hp ⟨23,p,g,-1,got,-1,ii,false,[],bk,af,0⟩ x:=by rw [hm'];rfl
  simp [beq_iff_eq] at h1;omega
 case ipr=>intro x hx;exact I.ipr x (by rw [h0];exact cH _ hx)
 case pendr=>exact I.pendr
 case msr=>intro x hx;exact I.msr x (mssub x hx)
 case qr=>
  have:=I.qr
  rcases hq with ⟨_,e⟩ | ⟨_,_,_,e⟩
  . rw [e];exact this
  . simp [e];omega
 case clean=>
  intro x hx hc0;have h1:=I.clean x hx;have h2:=S (fun m=>hc m x);simp only at hc0 ⊢;rw [h0] at h1;simp only [bR,beq_iff_eq] at h1;have h3:hc mk' x=hc mk x+if p0=x then 1 else 0:=by
   have:¬ eH mk:=by unfold eH;omega
   have t:¬ eH {mk with nx:=(p0:Int)}:=this;have hx':((p0:Int)=(x:Int))=(p0=x):=propext (by omega);simp only [hmk',hc,hnx,neg_nat,hx',this,t,and_false,if_false,dJ,gh]
  have h4:hc m' x=hc ⟨23,p,g,-1,got,-1,ii,false,[],bk,af,0⟩ x:=by simp [hm',hc,eH]
  exact h1 (by omega)
 case spin=>
  have h1:=I.spin;have h2:=S hs;simp only;have h3:hs mk'=hs mk+1:=by simp [hmk',hs,hnx];omega
  have h4:hs m'+1=hs ⟨23,p,g,-1,got,-1,ii,false,[],bk,af,0⟩:=by simp [hm',hs]
  omega
 case note=>exact I.note
 case tok=>
  intro j hj;have h1:=I.tok j hj;have h2:=S (fun m=>ht m j);have h3:=cnt j;simp only;have h4:ht mk' j=ht mk j:=by simp [hmk',ht]
  have h5:ht m' j=(if j=k then 1 else 0):=by
   simp only [hm',ht];by_cases h:j=k
   . simp [h]
   . rw [if_neg (by omega),if_neg h]
  have h6:ht ⟨23,p,g,-1,got,-1,ii,false,[],bk,af,0⟩ j=0:=by simp [ht,neg_nat]
  have h7:aU (upd (upd a.mc k mk') i m' j)=aU (a.mc j):=by
   by_cases h8:j=i
   . subst h8;rw [bi,hm,hm'];simp [aU]
   . by_cases h9:j=k
     . subst h9;rw [bk',hmk,hmk'];rfl
     . rw [bj j h8 h9]
  rw [h7];omega
 case nxt=>
  intro j hj h;simp only at h ⊢;have h3:=cnt j;by_cases h9:j=k
  . subst h9;simp at h3;omega
  . by_cases h8:j=i
    . subst h8;rw [bi,hm'] at h;simp at h
    . rw [bj j h8 h9] at h;have:=I.nxt j hj h;omega
 case tgn=>
  intro j hj h;simp only at h ⊢;have tgt:∀ t,t≠i->0<=(a.mc t).nx->0<=(upd (upd a.mc k mk') i m' t).nx:=fun t h1 h2=>by
   by_cases h3:t=k
   . subst h3;rw [bk',hmk'];simp
   . rw [bj t h1 h3];exact h2
  by_cases h8:j=i
  . subst h8;rw [bi,hm'];simp only [aC];rw [<- hm',bk',hmk'];simp
  . have e:(upd (upd a.mc k mk') i m' j).tg=(a.mc j).tg:=by
     by_cases h9:j=k
     . subst h9;rw [bk',hmk,hmk']
     . rw [bj j h8 h9]
    rw [e] at h ⊢
    have h1:=I.tgn j hj h
    exact tgt _ (by
     intro e2;rw [e2,hm] at h1
     simp at h1) h1
 case msp=>
  intro j hj h;have h1:=I.msp j hj (mssub _ h);simp only;by_cases h8:j=i
  . subst h8;rw [hm] at h1;simp at h1
  . by_cases h9:j=k
    . subst h9;rw [bk',hmk'];rw [hmk] at h1;exact h1
    . rw [bj j h8 h9];exact h1
 case pendI=>intro h;exact absurd hpend h
 case mid=>
  intro j hj h1 h2;simp only at h1 h2;exfalso;by_cases h8:j=i
  . subst h8;rw [bi,hm'] at h1;simp at h1
  . by_cases h9:j=k
    . subst h9;rw [bk',hmk'] at h1;simp only at h1;omega
    . rw [bj j h8 h9] at h1 h2;have:=I.mid j hj h1 h2;rw [h0] at this;cases this
 case dueo=>exact I.dueo
 case r1=>intro hip x hx hr;have:=posk (fun j=>w1 (upd (upd a.mc k mk') i m' j) x) (by simp only [bk'];exact wk x);simp only;omega
 case rg=>intro hip hr;have:=posk (fun j=>wg (upd (upd a.mc k mk') i m' j)) (by simp only [bk'];exact QH (wk 0));simp only;left;omega
 case r3=>intro hip hq0;have:=posk (fun j=>w3 (upd (upd a.mc k mk') i m' j)) (by simp only [bk'];exact QI (wk 0));simp only;omega
 case r2=>
  intro hd hq0;simp only at hd hq0 ⊢;have hqq:q'=a.q:=by
   rcases hq with ⟨_,e⟩ | ⟨_,_,_,e⟩
   . exact e
   . exact absurd e hq0
  have h1:=I.r2 hd (by rw [<- hqq];exact hq0);rw [hqq];have h2:sumTo (fun j=>w2 a.q j (upd (upd a.mc k mk') i m' j)) a.M=sumTo (fun j=>w2 a.q j (a.mc j)) a.M:=kh fun j hj=>by
   by_cases h8:j=i
   . subst h8;rw [bi,hm,hm'];simp [w2]
   . by_cases h9:j=k
     . subst h9;rw [bk',hmk,hmk'];rfl
     . rw [bj j h8 h9]
  have h3:sumTo (fun j=>told (a.note j) (upd (upd a.mc k mk') i m' j)) a.M=sumTo (fun j=>told (a.note j) (a.mc j)) a.M:=kh fun j hj=>by
   by_cases h8:j=i
   . subst h8;rw [bi,hm,hm'];simp [told]
   . by_cases h9:j=k
     . subst h9;rw [bk',hmk,hmk',hn0];simp [told]
     . rw [bj j h8 h9]
  omega
theorem Act.inv (I:Inv a) (R:Rng a) (hi:i<a.M) (t:Act a i b):Inv b:=by
 have V:=I.val i hi
 cases t with
 | sched h=>have ⟨p,ii,bk,af,hm⟩:=can1 V h;rw [hm];exact inv_sched I hi hm
 | schedD h=>have ⟨p,ii,bk,af,hm⟩:=can1 V h;rw [hm];exact GS I hi hm
 | oneNo h h0=>have ⟨p,ii,bk,af,hm⟩:=ND V h;rw [hm];exact Kv I hi hm
 | oneGot h h0=>have ⟨p,ii,bk,af,hm⟩:=ND V h;rw [hm];exact GX I hi h0 (R.gl _ (by rw [h0];simp)) hm
 | localNo h hk h0=>have ⟨p,ii,bk,af,hm⟩:=Ny V h;rw [hm] at hk ⊢;exact ED I hi hk h0 hm
 | @localGot k g L h hk h0=>
  have ⟨p,ii,bk,af,hm⟩:=Ny V h
  rw [hm] at hk ⊢
  have hkP:k<a.P:=by have:=V.p;rw [hm] at this;simp [gm] at this;simp only at hk;omega
  exact CC I hi hk h0 (R.ring k hkP _ (h0.symm.subset (by simp))) hm
 | globalNo h h0=>
  have ⟨p,ii,sp,bk,af,hm⟩:=Nx V h
  rw [hm]
  cases sp with
  | false=>exact inv_globalNoN I hi h0 hm
  | true=>
   simp [stealA,if_true]
   by_cases hx:1<a.P
   . rw [if_neg (by omega)];exact zR I hi h0 hx hm
   . rw [if_pos (by omega)];exact zP I hi h0 hm
 | @globalGot g r l h h0=>
  obtain ⟨p,ii,sp,bk,af,hm⟩:=Nx V h
  have hg:=R.gl g (by rw [h0];simp)
  rw [hm]
  unfold du
  by_cases hr:r=[]
  . subst hr
    cases sp with
    | false=>exact inv_globalGotN I hi h0 hg hm
    | true=>exact xQ I hi h0 hg hm
  . rw [if_pos hr];exact xR I hi h0 hr hg hm
 | spinUp h=>
  obtain ⟨p,ii,bk,af,hm⟩:=Vz V h
  rw [hm]
  simp only [stealA]
  by_cases hx:1<a.P
  . rw [if_neg (by omega)];exact Ex I hi hx hm
  . rw [if_pos (by omega)];exact Ew I hi hm
 | stealNo h h0=>
  obtain ⟨p,ii,bk,af,hm⟩:=Nw V h
  rw [hm]
  simp only [stealA]
  by_cases hx:ii+1<a.P
  . rw [if_neg (by omega)];exact Cw I hi hx hm
  . rw [if_pos (by omega)];exact Cv I hi hm
 | @stealGot k g r L h hkP hk h0=>
  obtain ⟨p,ii,bk,af,hm⟩:=Nw V h
  have hg:=R.ring k hkP g (h0.symm.subset (by simp))
  rw [hm]
  unfold du
  by_cases hr:r=[]
  . subst hr;exact zA I hi h0 hg hm
  . rw [if_pos hr];exact zH I hi h0 hr hg hm
 | releaseNo h h0 h1 h2=>obtain ⟨p,ii,bk,af,hm⟩:=Nv V h;rw [hm] at h1 ⊢;exact zN I hi h1 h2 hm
 | @releaseGot g r l h h0=>
  obtain ⟨p,ii,bk,af,hm⟩:=Nv V h
  have hg:=R.gl g (by rw [h0];simp)
  rw [hm]
  unfold du
  by_cases hr:r=[]
  . subst hr;exact uZ I hi h0 hg hm
  . rw [if_pos hr];exact u5 I hi h0 hr hg hm
 | drop h=>obtain ⟨ii,bk,af,hm⟩:=Vy V h;rw [hm];exact MY I hi hm
 | @look k h hk=>
  obtain ⟨ii,bk,af,hm⟩:=Vx V h
  rw [hm] at hk ⊢
  simp only at hk
  by_cases h0:a.ring k=[]
  . simp only [h0,ne_eq,not_true_eq_false,if_false]
    by_cases hx:ii+1<a.P
    . rw [if_pos hx];exact EB I hi hk h0 hx hm
    . rw [if_neg hx];exact CA I hi hk h0 (by omega) hm
  . rw [if_pos h0];exact EA I hi hm
 | lookG h=>
  obtain ⟨ii,bk,af,hm⟩:=Q2 V h
  rw [hm]
  by_cases h0:a.gl=[]
  . simp only [h0,ne_eq,not_true_eq_false,if_false];exact EC I hi h0 hm
  . rw [if_pos h0];exact CB I hi hm
 | retakeNo h h0=>obtain ⟨ii,bk,af,hm⟩:=IT V h;rw [hm];exact Cy I hi h0 hm
 | retakeGot h h0=>obtain ⟨ii,bk,af,hm⟩:=IT V h;rw [hm];exact zM I hi h0 hm
 | spinBack h=>obtain ⟨p,ii,bk,af,hm⟩:=Q1 V h;rw [hm];exact Cx I hi hm
 | stopPend h h0=>obtain ⟨ii,bk,af,hm⟩:=Bg V h;rw [hm];exact Ct I hi h0 hm
 | stopPoll h h0 h1=>obtain ⟨ii,bk,af,hm⟩:=Bg V h;rw [hm];exact Cs I hi h0 h1 hm
 | stopIdle h h0 h1=>obtain ⟨ii,bk,af,hm⟩:=Bg V h;rw [hm];exact Cu I hi h0 h1 hm
 | check h=>
  obtain ⟨nx,ii,bk,af,hm⟩:=Q0 V h
  rw [hm]
  cases hd:a.due with
  | true=>exact inv_checkYes I hi hm
  | false=>exact EE I hi hd hm
 | unpollYes h h0=>
  obtain ⟨nx,ii,bk,af,hm⟩:=IS V h
  have hnx:nx=-1:=by
   have h4:=I.nxt i hi
   have h5:=V.nx
   rw [hm] at h4 h5
   simp only [qi,h0,if_true] at h4 h5
   omega
  subst hnx
  rw [hm]
  exact zy I hi h0 hm
 | unpollNo h h0=>obtain ⟨nx,ii,bk,af,hm⟩:=IS V h;rw [hm];exact Cr I hi h0 hm
 | wokenTold h h0 h1=>
  obtain ⟨nx,ii,bk,af,hm⟩:=IQ V h
  have hnx:nx=-1:=by
   have h5:=V.nx
   rw [hm] at h1 h5
   simp only at h1 h5
   omega
  subst hnx
  rw [hm]
  exact zg I hi h0 hm
 | wokenNext h h0 h1=>obtain ⟨nx,ii,bk,af,hm⟩:=IQ V h;rw [hm] at h1 ⊢;exact zh I hi h0 h1 hm
 | putRest h hk h0=>
  obtain ⟨p,got,ii,sp,rest,af,hm⟩:=NF V h
  rw [hm] at hk ⊢
  cases sp with
  | false=>exact inv_putRestN I hi hk hm
  | true=>exact Cz I hi hk hm
 | unspin h=>obtain ⟨p,got,ii,af,hm⟩:=QZ V h;rw [hm];exact GR I hi hm
 | dispatch h hg=>obtain ⟨p,got,ii,bk,af,hm⟩:=NC V h;rw [hm];exact CF I hi hm
 | load h=>
  have B:=dY V (.inl h)
  obtain ⟨p,g,got,ii,bk,af,hm⟩:=QY V h
  rw [hm] at B ⊢
  simp only at B ⊢
  by_cases h0:a.spin=0
  . simp only [h0,if_true]
    rcases B with ⟨rfl,rfl⟩ | ⟨rfl,rfl,rfl⟩ | ⟨rfl,rfl⟩ | ⟨rfl,rfl,rfl,rfl⟩ | ⟨rfl,rfl,rfl,rfl⟩ | ⟨rfl,rfl,rfl,rfl,rfl⟩
    . exact CE I hi hm
    . exact CD I hi hm
    . exact zO I hi hm
    . exact vq I hi hm
    . exact vh I hi hm
    . exact ub I hi hm
  . simp only [h0,if_false]
    rcases B with ⟨rfl,rfl⟩ | ⟨rfl,rfl,rfl⟩ | ⟨rfl,rfl⟩ | ⟨rfl,rfl,rfl,rfl⟩ | ⟨rfl,rfl,rfl,rfl⟩ | ⟨rfl,rfl,rfl,rfl,rfl⟩
    . exact xP I hi h0 hm
    . exact xO I hi h0 hm
    . exact vf I hi h0 hm
    . exact se I hi h0 hm
    . exact sd I hi h0 hm
    . exact qV I hi h0 hm
 | claimYes h h0=>
  have B:=dY V (.inr (.inl h))
  obtain ⟨p,g,got,ii,bk,af,hm⟩:=IP V h
  rw [hm] at B ⊢
  simp only at B ⊢
  rcases B with ⟨rfl,rfl⟩ | ⟨rfl,rfl,rfl⟩ | ⟨rfl,rfl⟩ | ⟨rfl,rfl,rfl,rfl⟩ | ⟨rfl,rfl,rfl,rfl⟩ | ⟨rfl,rfl,rfl,rfl,rfl⟩
  . exact yc I hi h0 hm
  . exact yb I hi h0 hm
  . exact vC I hi h0 hm
  . exact sw I hi h0 hm
  . exact su I hi h0 hm
  . exact qZ I hi h0 hm
 | claimNo h h0=>
  have B:=dY V (.inr (.inl h))
  obtain ⟨p,g,got,ii,bk,af,hm⟩:=IP V h
  rw [hm] at B ⊢
  simp only at B ⊢
  rcases B with ⟨rfl,rfl⟩ | ⟨rfl,rfl,rfl⟩ | ⟨rfl,rfl⟩ | ⟨rfl,rfl,rfl,rfl⟩ | ⟨rfl,rfl,rfl,rfl⟩ | ⟨rfl,rfl,rfl,rfl,rfl⟩
  . exact zV I hi h0 hm
  . exact zU I hi h0 hm
  . exact yd I hi h0 hm
  . exact ud I hi h0 hm
  . exact uc I hi h0 hm
  . exact sx I hi h0 hm
 | findNone h hd h0=>
  have B:=dY V (.inr (.inr (.inl h)))
  obtain ⟨p,g,got,ii,bk,af,md,hm⟩:=can23 V h
  rw [hm] at B hd ⊢
  simp only at B hd ⊢
  subst hd
  rcases B with ⟨rfl,rfl⟩ | ⟨rfl,rfl,rfl⟩ | ⟨rfl,rfl⟩ | ⟨rfl,rfl,rfl,rfl⟩ | ⟨rfl,rfl,rfl,rfl⟩ | ⟨rfl,rfl,rfl,rfl,rfl⟩
  . exact xY I hi h0 hm
  . exact xX I hi h0 hm
  . exact vA I hi h0 hm
  . exact sq I hi h0 hm
  . exact so I hi h0 hm
  . exact qY I hi h0 hm
 | findOver h hd=>
  have B:=dY V (.inr (.inr (.inl h)))
  obtain ⟨p,g,got,ii,bk,af,md,hm⟩:=can23 V h
  rw [hm] at B hd ⊢
  simp only at B hd ⊢
  rcases B with ⟨rfl,rfl⟩ | ⟨rfl,rfl,rfl⟩ | ⟨rfl,rfl⟩ | ⟨rfl,rfl,rfl,rfl⟩ | ⟨rfl,rfl,rfl,rfl⟩ | ⟨rfl,rfl,rfl,rfl,rfl⟩
  . exact xW I hi hd hm
  . exact xV I hi hd hm
  . exact vy I hi hd hm
  . exact sk I hi hd hm
  . exact sj I hi hd hm
  . exact qX I hi hd hm
 | findPend h hd h0 h1 h2=>
  have B:=dY V (.inr (.inr (.inl h)))
  obtain ⟨p,g,got,ii,bk,af,md,hm⟩:=can23 V h
  rw [hm] at B hd ⊢
  simp only at B hd ⊢
  subst hd
  rcases B with ⟨rfl,rfl⟩ | ⟨rfl,rfl,rfl⟩ | ⟨rfl,rfl⟩ | ⟨rfl,rfl,rfl,rfl⟩ | ⟨rfl,rfl,rfl,rfl⟩ | ⟨rfl,rfl,rfl,rfl,rfl⟩
  . exact xU I hi h0 h1 h2 hm
  . exact xS I hi h0 h1 h2 hm
  . exact vw I hi h0 h1 h2 hm
  . exact sh I hi h0 h1 h2 hm
  . exact sf I hi h0 h1 h2 hm
  . exact qW I hi h0 h1 h2 hm
 | findM h hd h0 hk hq=>
  obtain ⟨p,g,got,ii,bk,af,md,hm⟩:=can23 V h
  rw [hm] at hd ⊢
  simp only at hd ⊢
  subst hd
  exact Kx I hi hm h0 hk hq
 | wake h hk=>
  have B:=dY V (.inr (.inr (.inr h)))
  obtain ⟨p,g,got,tg,ii,bk,af,hm⟩:=QX V h
  rw [hm] at B hk ⊢
  simp only at B hk ⊢
  rcases B with ⟨rfl,rfl⟩ | ⟨rfl,rfl,rfl⟩ | ⟨rfl,rfl⟩ | ⟨rfl,rfl,rfl,rfl⟩ | ⟨rfl,rfl,rfl,rfl⟩ | ⟨rfl,rfl,rfl,rfl,rfl⟩
  . exact GQ I hi hk hm
  . exact GP I hi hk hm
  . exact Eu I hi hk hm
  . exact zw I hi hk hm
  . exact zu I hi hk hm
  . exact xN I hi hk hm
 | delivNo h h0=>
  have A:=V.af (.inl h)
  have B:=V.p
  obtain ⟨p,ii,bk,af,hm⟩:=E3 V h
  rw [hm] at A B ⊢
  simp only at A ⊢
  rcases A with rfl | rfl | rfl
  . exact zT I hi h0 hm
  . exact zS I hi h0 hm
  . simp [gm] at B
    subst B
    exact xZ I hi h0 hm
 | @delivGot g o' d' h h0 h1 h2 h3=>
  have A:=V.af (.inl h)
  have B:=V.p
  have hg:g∈a.out:=bc.1 (by have:=h1 g;rw [if_pos rfl] at this;omega)
  have hg:=R.out g hg
  have ho:=I.dueo h0
  obtain ⟨p,ii,bk,af,hm⟩:=E3 V h
  rw [hm] at A B ⊢
  simp only at A ⊢
  rcases A with rfl | rfl | rfl
  . exact ya I hi ho h2 hg hm
  . exact x9 I hi ho h2 hg hm
  . simp [gm] at B
    subst B
    exact vB I hi ho h2 hg hm
 | mark h hg=>
  have A:=V.af (.inr (.inl h))
  have B:=V.p
  obtain ⟨p,got,ii,bk,af,hm⟩:=NB V h
  rw [hm] at A B ⊢
  simp only at A ⊢
  rcases A with rfl | rfl | rfl
  . exact GZ I hi hm
  . exact GY I hi hm
  . simp [gm] at B
    subst B
    exact Ez I hi hm
 | putOne h=>
  have C:=V.bk2 h
  have A:=V.af
  have B:=V.p
  obtain ⟨p,got,ii,bk,af,hm⟩:=NA V h
  rw [hm] at A B C ⊢
  simp only at A C ⊢
  rcases C with rfl | rfl
  . exact vd I hi hm
  . rcases A (by simp) with rfl | rfl | rfl
    . exact vc I hi hm
    . exact vb I hi hm
    . simp [gm] at B
      subst B
      exact tZ I hi hm
 | putNext h hk h0=>obtain ⟨p,g,got,ii,bk,af,hm⟩:=Nz V h;rw [hm] at hk ⊢;exact Ey I hi hk hm
 | @out1 o' d' h hd h0 hdd=>
  have ho:d'=true->o'≠[]:=fun _ e=>by
   have:=h0 (a.mc i).g
   rw [e,if_pos rfl] at this
   simp at this
  rcases h with h | h
  . obtain ⟨p,g,ii,bk,af,md,hm⟩:=IN V h
    rw [hm] at hd ⊢
    simp only at hd ⊢
    subst hd
    cases d' with
    | true=>exact inv_park1A I hi (ho rfl) hm
    | false=>exact GW I hi hm
  . obtain ⟨p,g,ii,bk,af,md,hm⟩:=Bf V h
    rw [hm] at hd ⊢
    simp only at hd ⊢
    subst hd
    cases d' with
    | true=>exact inv_await1A I hi (ho rfl) hm
    | false=>exact EI I hi hm
 | out2 h hd hg=>
  have D:=V.md
  rcases h with h | h
  . obtain ⟨p,g,ii,bk,af,md,hm⟩:=IN V h
    rw [hm] at hd D ⊢
    simp only at hd D ⊢
    by_cases h2:md=2
    . subst h2;exact GV I hi hm
    . obtain rfl:md=1:=by omega
      exact GU I hi hm
  . obtain ⟨p,g,ii,bk,af,md,hm⟩:=Bf V h
    rw [hm] at hd D ⊢
    simp only at hd D ⊢
    by_cases h2:md=2
    . subst h2;exact EH I hi hm
    . obtain rfl:md=1:=by omega
      exact EG I hi hm
 | awaitNo h hd=>
  obtain ⟨p,g,ii,bk,af,md,hm⟩:=Bf V h
  rw [hm] at hd ⊢
  simp only at hd
  subst hd
  exact EF I hi hm
theorem Deed.inv (I:Inv a) (hi:i<a.M) (t:Deed a i b):Inv b:=by
 have V:=I.val i hi;cases t with
 | yield h hg=>have ⟨p,g,ii,bk,af,hm⟩:=can0 V h;rw [hm];exact inv_yield I hi hm
 | leave h hg hs=>have ⟨p,g,ii,bk,af,hm⟩:=can0 V h;rw [hm];exact Kw I hi hm
 | @rouse g h hg hs=>have ⟨p,g',ii,bk,af,hm⟩:=can0 V h;rw [hm];exact Ku I hi ⟨by omega,by omega⟩ hm
 | sleep h=>have ⟨p,g,ii,bk,af,hm⟩:=can0 V h;rw [hm];exact Kt I hi hm
 | wait h=>have ⟨p,g,ii,bk,af,hm⟩:=can0 V h;rw [hm];exact MX I hi hm
end
end
section
section
variable {a b:St} {i:Nat} {m:Am}
theorem T0.inv (I:Inv a) (t:T0 a b):Inv b:=by
 cases t with
 | @still d' h0 h1=>exact ⟨I.hP,I.val,I.proc,I.ipr,I.pendr,I.msr,I.qr,I.clean,I.spin,I.note,I.tok,I.nxt,I.tgn,I.msp,I.pendI,I.mid,h0,I.r1,fun h1 h2=>(I.rg h1 h2),I.r3,fun h2 h3=>absurd (h1 h2) h3⟩
 | @tell k h0 hq=>
  have hk:k<a.M:=by have:=I.qr;omega
  have tk:=I.tok k hk;have st1:aU (a.mc k)<=1:=by unfold aU;split<;>omega
  have hqk:qi a.q k=1:=by simp [qi,hq]
  have nk:=I.note k hk;have hn0:a.note k=0:=by omega
  have hnx:(a.mc k).nx<0:=by have h1:=I.nxt k hk;omega
  have qj:∀ j,qi (-1) j=0:=fun j=>by simp [qi]
  have told_le:∀ j,j<a.M->told (a.note j) (a.mc j)<=told (upd a.note k 1 j) (a.mc j):=fun j hj=>by
   by_cases h:j=k
   . subst h;rw [hn0];simp [told]
   . rw [upd_ne h];exact aq _
  have told_pos:0<sumTo (fun j=>told (upd a.note k 1 j) (a.mc j)) a.M:=iv hk (by simp [aT,told,hnx]);refine ⟨I.hP,I.val,I.proc,I.ipr,I.pendr,I.msr,⟨by simp only;omega,by simp only;omega⟩,I.clean,I.spin,fun j hj=>?_,fun j hj=>?_,fun j hj h=>?_,I.tgn,I.msp,fun h=>⟨(I.pendI h).1,rfl⟩,I.mid,fun _=>h0,I.r1,fun h1 h2=>?_,fun h1 h2=>?_,fun h1 h2=>absurd rfl h2⟩
  . simp only;by_cases h:j=k
    . subst h;right;exact aT
    . rw [upd_ne h];exact I.note j hj
  . have h1:=I.tok j hj;simp only;rw [qj];by_cases h:j=k
    . subst h;rw [aT];omega
    . rw [upd_ne h];have:qi a.q j=0:=by simp [qi,hq];omega
      omega
  . have h1:=I.nxt j hj h;simp only;rw [qj];omega
  . rcases I.rg h1 h2 with h | h
    . exact .inl h
    . exact absurd h.2.2.1 h0
  . simp only;omega
structure yI (a:St):Prop where
 P:1<=a.P/\a.P<=a.M/\1<=a.G
 spin:a.spin=0
 note:∀ i,i<a.M->a.note i=0
 stt:∀ g,g<a.G->a.stt g=if g=0 then 1 else 0
 ring:∀ k,k<a.P->a.ring k=[]
 gl:a.gl=[0]
 ip:∀ p,a.ip.count p=if 0<p/\p<a.P then 1 else 0
 pend:a.pend=[]
 q:a.q=if 1<a.M then 1 else -1
 ms:∀ i:Nat,a.ms.count (i:Int)=if 1<i/\i<a.M then 1 else 0
 msr:∀ k,k∈a.ms->0<=k/\k<a.M
 Rt:a.mc 0=⟨1,0,-1,-1,-1,-1,0,false,[],0,0,0⟩
 mc:∀ i,i<a.M->i≠0->a.mc i=⟨16,-1,-1,-1,-1,-1,0,false,[],0,0,0⟩
 due:a.due=false
 out:a.out=[]
theorem yI.sum (F:yI a) (f:Am->Nat) (h:f ⟨16,-1,-1,-1,-1,-1,0,false,[],0,0,0⟩=0):sumTo (fun j=>f (a.mc j)) a.M=f ⟨1,0,-1,-1,-1,-1,0,false,[],0,0,0⟩:=by
 have h1:=dM (f:=fun j=>f (a.mc j)) (g:=fun j=>if j=0 then f (a.mc 0) else 0) (n:=a.M) (i:=0) (by have:=F.P;omega) fun j hj h0=>by rw [F.mc j hj h0,h,if_neg h0]
 have h2:=dM (f:=fun _=>0) (g:=fun j=>if j=0 then f (a.mc 0) else 0) (n:=a.M) (i:=0) (by have:=F.P;omega) fun j hj h0=>by rw [if_neg h0]
 have h3:=iz 0 a.M;simp [Nat.mul_zero] at h3;rw [F.Rt] at h1 h2;simp [if_true] at h1 h2;rw [h3] at h2;omega
theorem yI.inv (F:yI a):Inv a:=by
 have hP:=F.P;have sp:=F.sum hs (by simp [hs]);constructor;case hP=>omega
 case val=>
  intro i hi;by_cases h:i=0
  . subst h;rw [F.Rt];constructor<;>simp [gm]<;>omega
  . rw [F.mc i hi h];constructor<;>simp [gm]<;>omega
 case proc=>
  intro p hp';rw [F.pend,F.sum (fun m=>hp m p) (by simp [hp,neg_nat]),F.ip];by_cases h:p=0
  . subst h;simp [hp]
  . rw [if_pos (by omega)];simp [hp,neg_nat];omega
 case ipr=>intro p h;have:=bc.2 h;rw [F.ip] at this;split at this<;>omega
 case pendr=>intro p h;rw [F.pend] at h;cases h
 case msr=>exact F.msr
 case qr=>rw [F.q];split<;>omega
 case clean=>intro p hp' _;exact F.ring p hp'
 case spin=>rw [F.spin,F.pend,sp];simp [hs]
 case note=>intro i hi;exact .inl (F.note i hi)
 case tok=>
  intro i hi;rw [F.sum (fun m=>ht m i) (by simp [ht,neg_nat]),F.note i hi,F.ms,F.q];by_cases h:i=0
  . subst h;rw [F.Rt];simp [qi,ht,aU];split<;>simp
  . rw [F.mc i hi h];by_cases h1:i=1
    . subst h1;simp [qi,ht,aU,hi]
    . rw [if_pos (by omega),if_pos (by omega)];have:¬ ((1:Int)=(i:Int)):=by omega
      simp [qi,ht,aU,neg_nat,this]
 case nxt=>
  intro i hi h;by_cases h0:i=0
  . subst h0;rw [F.Rt] at h;simp at h
  . rw [F.mc i hi h0] at h;simp at h
 case tgn=>
  intro i hi h;by_cases h0:i=0
  . subst h0;rw [F.Rt] at h;simp at h
  . rw [F.mc i hi h0] at h;simp at h
 case msp=>intro i hi h;have:=bc.2 h;rw [F.ms] at this;rw [F.mc i hi (by rintro rfl;simp at this)]
 case pendI=>intro h;exact absurd F.pend h
 case mid=>
  intro i hi h;by_cases h0:i=0
  . subst h0;rw [F.Rt] at h;simp at h
  . rw [F.mc i hi h0] at h;simp at h
 case dueo=>intro h;rw [F.due] at h;cases h
 case r1=>intro _ k hk h;exact absurd (F.ring k hk) h
 case rg=>intro _ _;right;exact ⟨by rw [F.gl];rfl,F.ring,F.out,by rw [F.Rt];simp,fun i hi h=>⟨by rw [F.mc i hi h],F.note i hi⟩⟩
 case r3=>
  intro hip hq;exfalso;rw [F.q] at hq;split at hq
  . omega
  . have ⟨x,hx⟩:=List.exists_mem_of_ne_nil _ hip;have:=bc.2 hx;rw [F.ip] at this;split at this<;>omega
 case r2=>intro h;rw [F.due] at h;cases h
def XR (a:St):Prop:=∀ i,i<a.M->(a.mc i).pl=0\/((a.mc i).pl=16/\a.note i=0)
section
variable (I:Inv a) (C:XR a)
include I C
theorem PU {i:Nat} (hi:i<a.M):(a.mc i).tg=-1:=by have:=(I.val i hi).tg;rw [if_neg (by rcases C i hi with h | h<;>omega)] at this;exact this
theorem E4 {i:Nat} (hi:i<a.M) (h:(a.mc i).pl=16):a.ms.count (i:Int)+qi a.q i=1:=by
 have h1:=I.tok i hi;have h2:=dW (f:=fun j=>ht (a.mc j) i) (n:=a.M) fun j hj=>by simp only [ht];rw [PU I C hj,if_neg (by omega)]
 have h3:a.note i=0:=by
  rcases C i hi with h4 | h4
  . omega
  . exact h4.2
 have h5:aU (a.mc i)=1:=by unfold aU;rw [if_pos (by omega)]
 omega
theorem calm_nx {i:Nat} (hi:i<a.M):(a.mc i).nx=-1:=by
 have h1:=(I.val i hi).nx;rcases C i hi with h | h
 . omega
 . have h2:=E4 I C hi h.1;have h3:=I.nxt i hi;omega
theorem calm_sp {i:Nat} (hi:i<a.M):(a.mc i).sp=false:=by
 have h1:=(I.val i hi).sp;cases h:(a.mc i).sp with
 | false=>rfl
 | true=>have:=h1 h;rcases C i hi with h2 | h2<;>omega
theorem uj:a.pend=[]:=by
 by_cases h:a.pend=[]
 . exact h
 exfalso;have ⟨hms,hq⟩:=I.pendI h;have hall:∀ i,i<a.M->(a.mc i).pl=0:=fun i hi=>by
  rcases C i hi with h1 | h1
  . exact h1
  . have:=E4 I C hi h1.1;rw [hms,hq] at this;simp [qi] at this
 have hone:∀ i,i<a.M->0<=(a.mc i).p/\(a.mc i).p<a.P:=fun i hi=>by have:=(I.val i hi).p;rw [if_neg (by unfold gm;have:=hall i hi;omega)] at this;exact this
 have hsum:∀ n,n<=a.P->sumTo (fun p=>a.pend.count (p:Int)) n+sumTo (fun p=>sumTo (fun j=>hp (a.mc j) p) a.M) n<=n:=by
  intro n hn;induction n with
  | zero=>simp [sumTo]
  | succ n ih=>have h1:=ih (by omega);have h2:=I.proc n (by omega);simp [sumTo];omega
 have h1:=hsum a.P (aq _);have h2:a.M<=sumTo (fun p=>sumTo (fun j=>hp (a.mc j) p) a.M) a.P:=by
  have hswap:∀ n,n<=a.M->sumTo (fun p=>sumTo (fun j=>hp (a.mc j) p) n) a.P>=n:=by
   intro n hn;induction n with
   | zero=>omega
   | succ n ih=>
    have h3:=ih (by omega);have h4:=jO (fun p=>sumTo (fun j=>hp (a.mc j) p) n) (fun p=>hp (a.mc n) p) a.P;have h5:(fun p=>sumTo (fun j=>hp (a.mc j) p) (n+1))=fun p=>sumTo (fun j=>hp (a.mc j) p) n+hp (a.mc n) p:=rfl;rw [h5,h4];have ⟨h6,h7⟩:=hone n (by omega);have h8:=cy (f:=fun p=>hp (a.mc n) p) (n:=a.P) (i:=(a.mc n).p.toNat) (by omega);have h9:1<=hp (a.mc n) (a.mc n).p.toNat:=by unfold hp;rw [if_pos (by omega)];omega
    omega
  exact hswap a.M (aq _)
 have ⟨x,hx⟩:=List.exists_mem_of_ne_nil _ h;have ⟨hx1,hx2⟩:=I.pendr x hx;have h3:a.pend.count ((x.toNat:Nat):Int)<=_:=cy (f:=fun p=>a.pend.count (p:Int)) (n:=a.P) (i:=x.toNat) (by omega);rw [aH hx1] at h3;have h4:=bc.2 hx;have:=I.hP;omega
theorem qf (f:Am->Nat) (hf:∀ m:Am,(m.pl=0\/m.pl=16)->m.sp=false->m.nx=-1->f m=0):sumTo (fun j=>f (a.mc j)) a.M=0:=
 dW fun j hj=>hf _ (by rcases C j hj with h | h;exact .inl h;exact .inr h.1) (calm_sp I C hj) (calm_nx I C hj)
theorem KV:a.spin=0:=by
 have h1:=I.spin;rw [uj I C,qf I C hs fun m h1 h2 h3=>by
  have:¬ m.pl=23:=by omega
  simp [hs,h2,h3,this]] at h1
 simpa using h1
omit I C in
theorem Cb {m:Am} (h1:m.pl=0\/m.pl=16) (h2:m.sp=false) (h3:m.nx=-1):¬ r0 m:=by unfold r0;rw [h2];simp;omega
theorem KU:sumTo (fun j=>told (a.note j) (a.mc j)) a.M=0:=
 dW fun j hj=>by
  unfold told;rw [if_neg];rintro ⟨h1,h2⟩;rcases C j hj with h | h
  . have h3:=I.tok j hj;have h4:aU (a.mc j)=0:=by unfold aU;rw [if_neg (by omega)]
    omega
  . omega
theorem KW (hip:a.ip≠[]):(∀ k,k<a.P->a.ring k=[])/\a.gl=[]/\a.q≠-1/\a.due=false:=by
 have hpend:=uj I C;have hz:a.pend.length=0:=by rw [hpend];rfl
 have ht0:=KU I C;have hq:a.q≠-1:=fun hq=>by
  have h1:=I.r3 hip hq;rw [qf I C w3 fun m h1 h2 h3=>by
   unfold w3;rw [if_neg];rintro (h | h)
   . exact Cb h1 h2 h3 h
   . omega] at h1
  omega
 refine ⟨fun k hk=>?_,?_,hq,?_⟩
 . by_cases h:a.ring k=[]
   . exact h
   . have h1:=I.r1 hip k hk h;rw [qf I C (fun m=>w1 m k) fun m h1 h2 h3=>by
      unfold w1;rw [if_neg];rintro (h | h)
      . exact Cb h1 h2 h3 h
      . omega] at h1
     omega
 . by_cases h:a.gl=[]
   . exact h
   . rcases I.rg hip h with h1 | h1
     . rw [qf I C wg fun m h1 h2 h3=>by
        unfold wg;rw [if_neg];rintro (h | h)
        . exact Cb h1 h2 h3 h
        . omega] at h1
       omega
     . exfalso;have h2:=h1.2.2.2.1;rcases C 0 (by have:=I.hP;omega) with h3 | h3<;>omega
 . cases hd:a.due with
   | false=>rfl
   | true=>
    have h1:=I.r2 hd hq;rw [dW (f:=fun j=>w2 a.q j (a.mc j)) fun j hj=>by
     unfold w2;rw [if_neg];have:=C j hj;omega] at h1
    omega
end
end
end
section
variable {g:Nat}
def hg (m:Am) (g:Nat):Nat:=(if m.got=(g:Int)/\m.pl≠26 then 1 else 0)+m.rest.count (g:Int)
def hr (m:Am) (g:Nat):Nat:=if m.g=(g:Int) then 1 else 0
def hm (m:Am) (g:Nat):Nat:=if m.got=(g:Int)/\m.pl=26 then 1 else 0
def ho (m:Am) (g:Nat):Nat:=if m.g=(g:Int)/\(m.pl=29\/m.pl=30)/\m.md≠0 then 1 else 0
def rC (s:Int):Nat:=if s=1 then 1 else 0
def pz (s:Int):Nat:=if s=2 then 1 else 0
def qU (s:Int):Nat:=if s=4\/s=5 then 1 else 0
structure ig (a:St):Prop where
 R:Rng a
 occ:∀ g:Nat,g<a.G->a.gl.count (g:Int)+sumTo (fun k=>(a.ring k).count (g:Int)) a.P+sumTo (fun j=>hg (a.mc j) g) a.M=rC (a.stt g)
 run:∀ g:Nat,g<a.G->sumTo (fun j=>hr (a.mc j) g) a.M=pz (a.stt g)
 out:∀ g:Nat,g<a.G->a.out.count (g:Int)+sumTo (fun j=>hm (a.mc j) g) a.M=qU (a.stt g)+sumTo (fun j=>ho (a.mc j) g) a.M
 mo:∀ g:Nat,g<a.G->sumTo (fun j=>ho (a.mc j) g) a.M<=a.out.count (g:Int)
theorem oW (m:Am) (g:Int) (r:List Int):(du m g r).pl=17\/(du m g r).pl=19\/(du m g r).pl=20:=by
 simp only [du];split
 . simp
 . split<;>simp
theorem CM (m:Am) (g:Int) (r:List Int) (x:Nat):hg (du m g r) x=(if g=(x:Int) then 1 else 0)+r.count (x:Int):=by
 have h:=oW m g r;have:(du m g r).pl≠26:=by omega
 have e1:(du m g r).got=g:=rfl;have e2:(du m g r).rest=r:=rfl;simp [hg,e1,e2,ne_eq,this,not_false_eq_true,and_true]
theorem CL (m:Am) (g:Int) (r:List Int) (x:Nat):hm (du m g r) x=0:=by have h:=oW m g r;unfold hm;rw [if_neg (by omega)]
theorem qc (m:Am) (g:Int) (r:List Int) (x:Nat):ho (du m g r) x=0:=by have h:=oW m g r;unfold ho;rw [if_neg (by omega)]
structure iT (a b:St) (i:Nat) (m':Am) (k:Nat):Prop where
 cP:b.P=a.P:=by rfl
 cM:b.M=a.M:=by rfl
 cG:b.G=a.G:=by rfl
 mc:b.mc=upd a.mc i m':=by rfl
 gl:∀ g,g∈b.gl->0<=g/\g<a.G:=by exact J.R.gl
 ring:∀ k',k'<a.P->∀ g,g∈b.ring k'->0<=g/\g<a.G:=by exact J.R.ring
 outr:∀ g,g∈b.out->0<=g/\g<a.G:=by exact J.R.out
 rest:∀ g,g∈m'.rest->0<=g/\g<a.G:=by simp
 rk:∀ k',k'≠k->b.ring k'=a.ring k':=by first | (intro k' _;rfl) | (intro k' h;exact upd_ne h)
 occ:∀ g:Nat,g<a.G->b.gl.count (g:Int)+(b.ring k).count (g:Int)+hg m' g+rC (a.stt g)=a.gl.count (g:Int)+(a.ring k).count (g:Int)+hg (a.mc i) g+rC (b.stt g):=by intro g hgG;simp [em,hg,neg_nat,du,stealA]<;>first | done | omega | grind
 run:∀ g:Nat,g<a.G->hr m' g+pz (a.stt g)=hr (a.mc i) g+pz (b.stt g):=by intro g hgG;simp [em,hr,du,stealA]<;>first | done | omega | grind
 out:∀ g:Nat,g<a.G->b.out.count (g:Int)+hm m' g+qU (a.stt g)+ho (a.mc i) g=a.out.count (g:Int)+hm (a.mc i) g+qU (b.stt g)+ho m' g:=by intro g hgG;simp [em,hm,ho,du,stealA]<;>first | done | omega | grind
 mo:(∀ g:Nat,g<a.G->ho m' g+a.out.count (g:Int)<=ho (a.mc i) g+b.out.count (g:Int))\/∀ g:Nat,g<a.G->ho m' g=0/\∀ j,j<a.M->ho (a.mc j) g=0:=by left;intro g hgG;simp [em,ho,du,stealA]<;>first | done | omega | grind
section
variable {a b:St} {i k:Nat} {m m':Am}
theorem iT.inv2 (t:iT a b i m' k) (J:ig a) (hi:i<a.M) (hk:k<a.P):ig b:=by
 have ⟨cP,cM,cG,mc,gl,ring,outr,rest,rk,occ,run,out,mo⟩:=t;have bi:b.mc i=m':=by rw [mc,aT]
 have bj:∀ j,j≠i->b.mc j=a.mc j:=fun j hj=>by rw [mc,upd_ne hj]
 have S:∀ f:Am->Nat,sumTo (fun j=>f (b.mc j)) a.M+f (a.mc i)=sumTo (fun j=>f (a.mc j)) a.M+f m':=fun f=>by
  have:=dM (f:=fun j=>f (a.mc j)) (g:=fun j=>f (b.mc j)) hi fun j _ hj=>by simp [bj j hj]
  simpa only [bi] using this
 refine ⟨⟨by rw [cG];exact gl,by rw [cP,cG];exact ring,by rw [cG];exact outr,fun j hj=>?_⟩,fun g hg'=>?_,fun g hg'=>?_,fun g hg'=>?_,fun g hg'=>?_⟩
 . rw [cM] at hj;rw [cG];by_cases h:j=i
   . subst h;rw [bi];exact rest
   . rw [bj j h];exact J.R.rest j hj
 . rw [cG] at hg';rw [cP,cM];have h1:=occ g hg';have h2:=J.occ g hg';have h3:=S (fun m=>hg m g);have h4:=dM (f:=fun k=>(a.ring k).count (g:Int)) (g:=fun k=>(b.ring k).count (g:Int)) hk fun j _ hj=>by simp [rk j hj]
   omega
 . rw [cG] at hg';rw [cM];have h1:=run g hg';have h2:=J.run g hg';have h3:=S (fun m=>hr m g);omega
 . rw [cG] at hg';rw [cM];have h1:=out g hg';have h2:=J.out g hg';have h3:=S (fun m=>hm m g);have h4:=S (fun m=>ho m g);omega
 . rw [cG] at hg';rw [cM];have h2:=J.mo g hg';have h4:=S (fun m=>ho m g);rcases mo with h | h
   . have:=h g hg';omega
   . have ⟨h5,h6⟩:=h g hg';rw [dW (f:=fun j=>ho (b.mc j) g) fun j hj=>by
      by_cases hji:j=i
      . subst hji;simp [bi];exact h5
      . simp [bj j hji];exact h6 j hj]
     omega
theorem iT.put {b:St} (I:Inv a) (J:ig a) (hi:i<a.M) (k:Nat) (hk:k<a.P) (t:iT a (b.put i m') i m' k):ig (b.put i m'):=t.inv2 J hi hk
theorem ig.s1 (J:ig a) (hi:i<a.M) (hg':g<a.G) (h:0<hg (a.mc i) g):a.stt g=1:=by
 have h1:=J.occ g hg';have h2:=cy (f:=fun j=>hg (a.mc j) g) hi;unfold rC at h1;split at h1
 . assumption
 . omega
theorem ig.s2 (J:ig a) (hi:i<a.M) (hg':g<a.G) (h:(a.mc i).g=(g:Int)):a.stt g=2:=by
 have h1:=J.run g hg';have h2:=cy (f:=fun j=>hr (a.mc j) g) hi;simp [hr,h,if_true] at h2;unfold pz at h1;split at h1
 . assumption
 . simp [hr] at h1;omega
theorem ig.s4 (J:ig a) (hi:i<a.M) (hg':g<a.G) (h:(a.mc i).got=(g:Int)) (hp:(a.mc i).pl=26):a.stt g=4\/a.stt g=5:=by
 have h1:=J.out g hg';have h2:=cy (f:=fun j=>hm (a.mc j) g) hi;simp only [hm,h,hp] at h2;have h3:=J.mo g hg';unfold qU at h1;split at h1
 . assumption
 . simp [hm] at h1;simp at h2;omega
theorem ig.Ry (h0P:0<a.P) (J:ig a) (hi:i<a.M) {b:St} (e1:b.P=a.P) (e2:b.M=a.M) (e3:b.G=a.G) (e4:b.mc=a.mc) (e5:b.gl=a.gl) (e6:b.ring=a.ring) (e7:b.out=a.out) (e8:b.stt=a.stt) (h1:m'.got=(a.mc i).got) (h2:m'.g=(a.mc i).g) (h3:m'.rest=(a.mc i).rest) (h4:m'.pl=26↔(a.mc i).pl=26) (h5:∀ g,ho m' g=ho (a.mc i) g):ig (b.put i m'):=by
 refine iT.inv2 (a:=a) (k:=0) (m':=m') (i:=i) ⟨e1,e2,e3,by simp [e4],by simp [e5];exact J.R.gl,by simp [e6];exact J.R.ring,by simp [e7];exact J.R.out,by rw [h3];exact J.R.rest i hi,fun k' _=>by simp [e6],fun g _=>?_,fun g _=>?_,fun g _=>?_,.inl fun g _=>?_⟩ J hi h0P
 . simp [e5,e6,e8,hg,h1,h3,ne_eq,h4]
 . simp [e8,hr,h2]
 . simp [e7,e8,hm,h1,h4,h5]
 . simp only [e7,h5];exact aq _
theorem ig.same (I:Inv a) (J:ig a) (hi:i<a.M) {b:St} (e1:b.P=a.P) (e2:b.M=a.M) (e3:b.G=a.G) (e4:b.mc=a.mc) (e5:b.gl=a.gl) (e6:b.ring=a.ring) (e7:b.out=a.out) (e8:b.stt=a.stt) (h1:m'.got=(a.mc i).got) (h2:m'.g=(a.mc i).g) (h3:m'.rest=(a.mc i).rest) (h4:m'.pl=26↔(a.mc i).pl=26) (h5:∀ g,ho m' g=ho (a.mc i) g):ig (b.put i m'):=J.Ry (by have:=I.hP;omega) hi e1 e2 e3 e4 e5 e6 e7 e8 h1 h2 h3 h4 h5
theorem Act.inv2 (I:Inv a) (J:ig a) (hi:i<a.M) (t:Act a i b):ig b:=by
 have V:=I.val i hi;have hP:=I.hP;have h0P:0<a.P:=by omega
 cases t with
 | sched h=>exact J.same I hi rfl rfl rfl rfl rfl rfl rfl rfl rfl rfl rfl (by simp;omega) (by intro g;simp [ho,h])
 | schedD h=>exact J.same I hi rfl rfl rfl rfl rfl rfl rfl rfl rfl rfl rfl (by simp;omega) (by intro g;simp [ho,h])
 | oneNo h h0=>exact J.same I hi rfl rfl rfl rfl rfl rfl rfl rfl rfl rfl rfl (by simp;omega) (by intro g;simp [ho,h])
 | oneGot h h0=>have ⟨p,ii,bk,af,em⟩:=ND V h;rw [em];exact iT.put I J hi 0 h0P {gl:=by intro g hg;exact J.R.gl g (by rw [h0];exact cH _ hg),rest:=by simp [du],occ:=by intro g hgG;simp [em,hg,neg_nat,du,h0,bR]<;>first | done | omega | grind}
 | localNo h hk h0=>exact J.same I hi rfl rfl rfl rfl rfl rfl rfl rfl rfl rfl rfl (by simp;omega) (by intro g;simp [ho,h])
 | @localGot k g L h hk h0=>
  have ⟨p,ii,bk,af,em⟩:=Ny V h;rw [em] at hk ⊢;have hkP:k<a.P:=by have:=V.p;rw [em] at this;simp [gm] at this;simp only at hk;omega
  have hc:∀ x,(a.ring k).count x=(g::L).count x:=fun x=>h0.count_eq x;exact iT.put I J hi k hkP {ring:=by intro k' hk' x hx;by_cases e:k'=k;(subst e;simp [aT] at hx;exact J.R.ring k' hk' x (h0.symm.subset (cH _ hx)));(simp [upd_ne e] at hx;exact J.R.ring k' hk' x hx),rest:=by simp [du],occ:=by intro x hxG;simp [em,hg,neg_nat,du,aT,hc,bR]<;>first | done | omega | grind}
 | globalNo h h0=>
  by_cases hs:(a.mc i).sp=true
  . rw [if_pos hs];exact J.same I hi rfl rfl rfl rfl rfl rfl rfl rfl rfl rfl rfl (by simp [stealA];split<;>omega) (by intro g;simp [ho,h,stealA];split<;>simp)
  . rw [if_neg hs];exact J.same I hi rfl rfl rfl rfl rfl rfl rfl rfl rfl rfl rfl (by simp;omega) (by intro g;simp [ho,h])
 | @globalGot g r l h h0=>have ⟨p,ii,sp,bk,af,em⟩:=Nx V h;rw [em];exact iT.put I J hi 0 h0P {gl:=by intro x hx;exact J.R.gl x (by rw [h0];simp [hx]),rest:=by simp [du];intro x hx;exact J.R.gl x (by rw [h0];simp [hx]),occ:=by intro x hxG;simp [CM,h0,bR,bq];simp [hg]<;>grind,run:=by intro x hxG;simp [em,hr,du],out:=by intro x hxG;simp [CL,qc];simp [em,hm,ho],mo:=by left;intro x hxG;simp only [qc];simp}
 | spinUp h=>exact J.same I hi rfl rfl rfl rfl rfl rfl rfl rfl rfl rfl rfl (by simp [stealA];split<;>omega) (by intro g;simp only [ho,h,stealA];split<;>simp)
 | stealNo h h0=>exact J.same I hi rfl rfl rfl rfl rfl rfl rfl rfl rfl rfl rfl (by simp [stealA];split<;>omega) (by intro g;simp only [ho,h,stealA];split<;>simp)
 | @stealGot k g r L h hkP hk h0=>obtain ⟨p,ii,bk,af,em⟩:=Nw V h;have hc:∀ x,(a.ring k).count x=(g::(r++L)).count x:=fun x=>h0.count_eq x;rw [em];exact iT.put I J hi k hkP {ring:=by intro k' hk' x hx;by_cases e:k'=k;(subst e;simp only [aT] at hx;exact J.R.ring k' hk' x (h0.symm.subset (by simp [hx])));(simp only [upd_ne e] at hx;exact J.R.ring k' hk' x hx),rest:=by simp only [du];intro x hx;exact J.R.ring k hkP x (h0.symm.subset (by simp [hx])),occ:=by intro x hxG;simp only [CM,aT,hc,bR,bq];simp [em,hg,neg_nat]<;>grind,run:=by intro x hxG;simp [em,hr,du],out:=by intro x hxG;simp only [CL,qc];simp [em,hm,ho],mo:=by left;intro x hxG;simp only [qc];simp}
 | releaseNo h h0 h1 h2=>exact J.same I hi rfl rfl rfl rfl rfl rfl rfl rfl rfl rfl rfl (by simp;omega) (by intro g;simp [ho,h])
 | @releaseGot g r l h h0=>obtain ⟨p,ii,bk,af,em⟩:=Nv V h;rw [em];exact iT.put I J hi 0 h0P {gl:=by intro x hx;exact J.R.gl x (by rw [h0];simp [hx]),rest:=by simp only [du];intro x hx;exact J.R.gl x (by rw [h0];simp [hx]),occ:=by intro x hxG;simp only [CM,h0,bR,bq];simp [hg]<;>grind,run:=by intro x hxG;simp [em,hr,du],out:=by intro x hxG;simp only [CL,qc];simp [em,hm,ho],mo:=by left;intro x hxG;simp only [qc];simp}
 | drop h=>exact J.same I hi rfl rfl rfl rfl rfl rfl rfl rfl rfl rfl rfl (by simp;omega) (by intro g;simp [ho,h])
 | look h hk=>
  have D:(a.mc i).md=0:=by have:=V.md;omega
  exact J.same I hi rfl rfl rfl rfl rfl rfl rfl rfl rfl rfl rfl (by simp only;split<;>(try split)<;>omega) (by intro g;simp [ho,D])
 | lookG h=>exact J.same I hi rfl rfl rfl rfl rfl rfl rfl rfl rfl rfl rfl (by simp only;split<;>omega) (by intro g;simp only [ho,h];split<;>simp)
 | retakeNo h h0=>exact J.same I hi rfl rfl rfl rfl rfl rfl rfl rfl rfl rfl rfl (by simp;omega) (by intro g;simp [ho,h])
 | retakeGot h h0=>exact J.same I hi rfl rfl rfl rfl rfl rfl rfl rfl rfl rfl rfl (by simp;omega) (by intro g;simp [ho,h])
 | spinBack h=>exact J.same I hi rfl rfl rfl rfl rfl rfl rfl rfl rfl rfl rfl (by simp;omega) (by intro g;simp [ho,h])
 | stopPend h h0=>exact J.same I hi rfl rfl rfl rfl rfl rfl rfl rfl rfl rfl rfl (by simp;omega) (by intro g;simp [ho,h])
 | stopPoll h h0 h1=>exact J.same I hi rfl rfl rfl rfl rfl rfl rfl rfl rfl rfl rfl (by simp;omega) (by intro g;simp [ho,h])
 | stopIdle h h0 h1=>exact J.same I hi rfl rfl rfl rfl rfl rfl rfl rfl rfl rfl rfl (by simp;omega) (by intro g;simp [ho,h])
 | check h=>exact J.same I hi rfl rfl rfl rfl rfl rfl rfl rfl rfl rfl rfl (by simp only;split<;>omega) (by intro g;simp only [ho,h];split<;>simp)
 | unpollYes h h0=>exact J.same I hi rfl rfl rfl rfl rfl rfl rfl rfl rfl rfl rfl (by simp;omega) (by intro g;simp [ho,h])
 | unpollNo h h0=>exact J.same I hi rfl rfl rfl rfl rfl rfl rfl rfl rfl rfl rfl (by simp;omega) (by intro g;simp [ho,h])
 | wokenTold h h0 h1=>exact J.same I hi rfl rfl rfl rfl rfl rfl rfl rfl rfl rfl rfl (by simp;omega) (by intro g;simp [ho,h])
 | wokenNext h h0 h1=>exact J.same I hi rfl rfl rfl rfl rfl rfl rfl rfl rfl rfl rfl (by simp;omega) (by intro g;simp [ho,h])
 | @putRest k L h hk h0=>
  obtain ⟨p,got,ii,sp,rest,af,em⟩:=NF V h;have hkP:k<a.P:=by have:=V.p;rw [em] at this hk;simp [gm] at this;simp only at hk;omega
  have hc:∀ x,L.count x=(a.ring k++(a.mc i).rest).count x:=fun x=>h0.count_eq x;have hR:=J.R.rest i hi;rw [em] at hc hR h0 ⊢;exact iT.put I J hi k hkP {ring:=by intro k' hk' x hx;by_cases e:k'=k;(subst e;simp only [aT] at hx;exact (bd.1 (h0.subset hx)).elim (J.R.ring k' hk' x) (hR x));(simp only [upd_ne e] at hx;exact J.R.ring k' hk' x hx),occ:=by intro x hxG;simp only [em,hg,aT,hc,bq];split<;>simp<;>grind,out:=by intro x hxG;simp only [em,hm,ho];split<;>simp,mo:=by left;intro x hxG;simp only [em,ho];split<;>simp}
 | unspin h=>exact J.same I hi rfl rfl rfl rfl rfl rfl rfl rfl rfl rfl rfl (by simp;omega) (by intro g;simp [ho,h])
 | @dispatch g h hgot=>
  have hgG:g<a.G:=by have:=V.got;rw [if_pos (by omega)] at this;omega
  have hs:=J.s1 hi hgG (by simp [hg,hgot,h];omega);obtain ⟨p,got,ii,bk,af,em⟩:=NC V h;rw [em] at hgot ⊢;simp only at hgot;exact iT.put I J hi 0 h0P {occ:=by intro x hxG;by_cases e:x=g;(subst e;simp [em,hg,neg_nat,aT,rC,hs,hgot]);(have:¬ (g:Int)=(x:Int):=(by omega);simp [em,hg,neg_nat,upd_ne e,hgot,this]),run:=by intro x hxG;by_cases e:x=g;(subst e;simp [em,hr,neg_nat,aT,pz,hs,hgot]);(have:¬ (g:Int)=(x:Int):=(by omega);simp [em,hr,neg_nat,upd_ne e,hgot,this]),out:=by intro x hxG;by_cases e:x=g;(subst e;simp [em,hm,ho,neg_nat,aT,qU,hs]);(simp [em,hm,ho,neg_nat,upd_ne e])}
 | load h=>have B:=V.Rv (by omega);exact J.same I hi rfl rfl rfl rfl rfl rfl rfl rfl rfl rfl rfl (by simp only;split<;>omega) (by intro g;simp only [ho,h];split<;>simp<;>omega)
 | claimYes h h0=>exact J.same I hi rfl rfl rfl rfl rfl rfl rfl rfl rfl rfl rfl (by simp;omega) (by intro g;simp [ho,h])
 | claimNo h h0=>have B:=V.Rv (by omega);exact J.same I hi rfl rfl rfl rfl rfl rfl rfl rfl rfl rfl rfl (by simp only;omega) (by intro g;simp only [ho,h];simp;omega)
 | findNone h hd h0=>exact J.same I hi rfl rfl rfl rfl rfl rfl rfl rfl rfl rfl rfl (by simp) (by intro g;simp [ho,h])
 | findOver h hd=>have B:=V.Rv (by omega);exact J.same I hi rfl rfl rfl rfl rfl rfl rfl rfl rfl rfl rfl (by simp only;omega) (by intro g;simp [ho,h])
 | findPend h hd h0 h1 h2=>have B:=V.Rv (by omega);exact J.same I hi rfl rfl rfl rfl rfl rfl rfl rfl rfl rfl rfl (by simp only;omega) (by intro g;simp [ho,h,hd])
 | @findM p k L ms' q' h hd h0 hk hq=>
  have J1:ig (St.put {a with ip:=L,ms:=ms',q:=q'} k {a.mc k with nx:=(p:Int)}):=J.same I hk rfl rfl rfl rfl rfl rfl rfl rfl rfl rfl rfl (by simp) (by intro g;simp [ho]);have hm:(St.put {a with ip:=L,ms:=ms',q:=q'} k {a.mc k with nx:=(p:Int)}).mc i=if i=k then {a.mc i with nx:=(p:Int)} else a.mc i:=by
   simp only [upd];split
   . rename_i e;subst e;rfl
   . rfl
  refine ig.Ry (a:=St.put {a with ip:=L,ms:=ms',q:=q'} k {a.mc k with nx:=(p:Int)}) h0P J1 hi rfl rfl rfl rfl rfl rfl rfl rfl ?_ ?_ ?_ ?_ ?_
  . rw [hm];split<;>rfl
  . rw [hm];split<;>rfl
  . rw [hm];split<;>rfl
  . rw [hm];split<;>simp<;>omega
  . intro g;rw [hm];split<;>simp [ho,h,hd]
 | wake h hk=>
  have B:=V.Rv (by omega);have D:(a.mc i).md=0:=by have:=V.md;omega
  exact J.same I hi rfl rfl rfl rfl rfl rfl rfl rfl rfl rfl rfl (by simp only;omega) (by intro g;simp [ho,h,D])
 | delivNo h h0=>have A:=V.af (.inl h);exact J.same I hi rfl rfl rfl rfl rfl rfl rfl rfl rfl rfl rfl (by simp only;omega) (by intro g;simp only [ho,h];simp;omega)
 | @delivGot g o' d' h h0 h1 h2 h3=>have hmem:g∈a.out:=bc.1 (by have:=h1 g;rw [if_pos rfl] at this;omega);have hsub:∀ x,x∈o'->x∈a.out:=fun x hx=>bc.1 (by have:=h1 x;have:=bc.2 hx;omega);obtain ⟨p,ii,bk,af,em⟩:=E3 V h;rw [em];exact iT.put I J hi 0 h0P {outr:=by intro x hx;exact J.R.out x (hsub x hx),out:=by intro x hxG;have:=h1 (x:Int);simp [em,hm,ho,neg_nat];by_cases e:(x:Int)=g;(simp [e] at this ⊢;omega);(simp [e] at this ⊢;have e2:¬ g=(x:Int):=(fun h=>e h.symm);simp [e2];omega),mo:=by right;intro x hxG;exact ⟨by simp [ho],fun j hj=>by unfold ho;rw [if_neg];rintro ⟨_,h4,h5⟩;exact h5 (h3 j hj h4)⟩}
 | @mark g h hgot=>
  have hgG:g<a.G:=by have:=V.got;rw [if_pos (by omega)] at this;omega
  have hs:=J.s4 hi hgG hgot h;obtain ⟨p,got,ii,bk,af,em⟩:=NB V h;rw [em] at hgot ⊢;simp only at hgot;have i1:rC (a.stt g)=0:=by unfold rC;rw [if_neg (by omega)]
  have i2:pz (a.stt g)=0:=by unfold pz;rw [if_neg (by omega)]
  have i4:qU (a.stt g)=1:=by unfold qU;rw [if_pos hs]
  exact iT.put I J hi 0 h0P {occ:=by intro x hxG;by_cases e:x=g;(subst e;simp [em,hg,aT,i1,hgot];simp [rC]);(have:¬ (g:Int)=(x:Int):=(by omega);simp [em,hg,upd_ne e,hgot,this]),run:=by intro x hxG;by_cases e:x=g;(subst e;simp [em,hr,neg_nat,aT,i2,hgot];simp [pz]);(simp [em,hr,neg_nat,upd_ne e]),out:=by intro x hxG;by_cases e:x=g;(subst e;simp [em,hm,ho,neg_nat,aT,i4,hgot];simp [qU]);(have:¬ (g:Int)=(x:Int):=(by omega);simp [em,hm,ho,neg_nat,upd_ne e,hgot,this])}
 | putOne h=>have hgG:=V.got;rw [if_pos (by omega)] at hgG;obtain ⟨p,got,ii,bk,af,em⟩:=NA V h;rw [em] at hgG ⊢;exact iT.put I J hi 0 h0P {gl:=by intro x hx;rcases bd.1 hx with hx | hx;exact J.R.gl x hx;(simp at hx;subst hx;exact hgG),occ:=by intro x hxG;simp [em,hg,neg_nat,bq,oE]<;>first | done | omega | grind}
 | @putNext k L h hk h0=>
  have hgG:=V.got;rw [if_pos (by omega)] at hgG;obtain ⟨p,g,got,ii,bk,af,em⟩:=Nz V h;have hkP:k<a.P:=by have:=V.p;rw [em] at this hk;simp [gm] at this;simp only at hk;omega
  have hc:∀ x,L.count x=(a.ring k++[(a.mc i).got]).count x:=fun x=>h0.count_eq x;rw [em] at hgG hc h0 ⊢;exact iT.put I J hi k hkP {ring:=by intro k' hk' x hx;by_cases e:k'=k;(subst e;simp only [aT] at hx;exact (bd.1 (h0.subset hx)).elim (J.R.ring k' hk' x) (fun h=>by simp at h;subst h;exact hgG));(simp only [upd_ne e] at hx;exact J.R.ring k' hk' x hx),occ:=by intro x hxG;simp [em,hg,neg_nat,aT,hc,bq,oE]<;>first | done | omega | grind}
 | @out1 o' d' h hd h0 hdd=>
  have hG:0<=(a.mc i).g/\(a.mc i).g<a.G:=by have:=V.g;rw [if_pos (by omega)] at this;exact this
  refine iT.put I J hi 0 h0P {outr:=?_,rest:=J.R.rest i hi,occ:=fun x hxG=>rfl,run:=fun x hxG=>rfl,out:=?_,mo:=.inl ?_}
  . intro x hx;by_cases e:x=(a.mc i).g
    . rw [e];exact hG
    . have:=h0 x;rw [if_neg e] at this;exact J.R.out x (bc.1 (by have:=bc.2 hx;simp only at this;omega))
  all_goals
   intro x hxG
   have:=h0 (x:Int)
   have e3:(if d'=true then (2:Int) else 1)≠0:=by split<;>omega
   have k2:ho (a.mc i) x=0:=by unfold ho;rw [if_neg (by rintro ⟨_,_,h5⟩;exact h5 hd)]
   have k3:ho {a.mc i with md:=if d'=true then 2 else 1} x=if (x:Int)=(a.mc i).g then 1 else 0:=by
    unfold ho;by_cases e:(x:Int)=(a.mc i).g
    . rw [if_pos ⟨e.symm,h,e3⟩,if_pos e]
    . rw [if_neg (fun hh=>e hh.1.symm),if_neg e]
  . have k1:hm {a.mc i with md:=if d'=true then 2 else 1} x=hm (a.mc i) x:=rfl;simp only [k1,k2,k3];omega
  . simp only [k2,k3];omega
 | @out2 g h hd hgg=>
  have hG:0<=(a.mc i).g/\(a.mc i).g<a.G:=by have:=V.g;rw [if_pos (by omega)] at this;exact this
  have hgG:g<a.G:=by omega
  have hs:=J.s2 hi hgG hgg;have hgot:(a.mc i).got=-1:=by have:=V.got;rw [if_neg (by omega)] at this;exact this
  have i1:rC 2=0:=rfl;have i2:pz 2=1:=rfl;have i4:qU 2=0:=rfl;have hz:∀ s:Int,(s=4\/s=5)->rC s=0/\pz s=0/\qU s=1:=fun s hs=>by
   refine ⟨?_,?_,?_⟩
   . unfold rC;rw [if_neg (by omega)]
   . unfold pz;rw [if_neg (by omega)]
   . unfold qU;rw [if_pos hs]
  obtain ⟨z1,z2,z4⟩:=hz (if (a.mc i).pl=29 then 4 else 5) (by split<;>omega);refine iT.put I J hi 0 h0P {rest:=J.R.rest i hi,occ:=?_,run:=?_,out:=?_,mo:=.inl ?_}
  . intro x hxG;simp only [hg,hgot,neg_nat];by_cases e:x=g
    . subst e;simp only [aT,hs,i1,z1];simp
    . simp only [upd_ne e];simp
  . intro x hxG;simp only [hr,neg_nat];by_cases e:x=g
    . subst e;simp only [aT,hs,i2,z2,hgg];simp
    . have:¬ (a.mc i).g=(x:Int):=by omega
      simp only [upd_ne e,this]
  . intro x hxG;simp only [hm,ho,hgot,neg_nat];by_cases e:x=g
    . subst e;simp only [aT,hs,i4,z4,hgg,h];simp;exact hd
    . have:¬ (a.mc i).g=(x:Int):=by omega
      simp only [upd_ne e,this];simp
  . intro x hxG;simp [ho,neg_nat]
 | awaitNo h hd=>exact J.same I hi rfl rfl rfl rfl rfl rfl rfl rfl rfl rfl rfl (by simp;omega) (by intro g;simp [ho,hd])
theorem Deed.inv2 (I:Inv a) (J:ig a) (hi:i<a.M) (t:Deed a i b):ig b:=by
 have V:=I.val i hi;have hP:=I.hP;have h0P:0<a.P:=by omega
 have i1:rC 2=0:=rfl;have i2:pz 2=1:=rfl;have i4:qU 2=0:=rfl
 cases t with
 | @yield g h hgg=>
  have hG:0<=(a.mc i).g/\(a.mc i).g<a.G:=by have:=V.g;rw [if_pos (by omega)] at this;exact this
  have hgG:g<a.G:=by omega
  have hs:=J.s2 hi hgG hgg;have ⟨p,g',ii,bk,af,em⟩:=can0 V h;rw [em] at hgg ⊢;simp only at hgg;exact iT.put I J hi 0 h0P {occ:=by intro x hxG;by_cases e:x=g;(subst e;simp [em,hg,neg_nat,aT,hs,i1,hgg];simp [rC]);(have:¬ (g:Int)=(x:Int):=(by omega);simp [em,hg,neg_nat,upd_ne e,hgg,this]),run:=by intro x hxG;by_cases e:x=g;(subst e;simp [em,hr,neg_nat,aT,hs,i2,hgg];simp [pz]);(have:¬ (g:Int)=(x:Int):=(by omega);simp [em,hr,neg_nat,upd_ne e,hgg,this]),out:=by intro x hxG;by_cases e:x=g;(subst e;simp [em,hm,ho,neg_nat,aT,hs,i4];simp [qU]);(simp [em,hm,ho,neg_nat,upd_ne e])}
 | @leave g s h hgg hsv=>
  have hG:0<=(a.mc i).g/\(a.mc i).g<a.G:=by have:=V.g;rw [if_pos (by omega)] at this;exact this
  have hgG:g<a.G:=by omega
  have hs:=J.s2 hi hgG hgg;have j1:rC s=0:=by unfold rC;rw [if_neg (by omega)]
  have j2:pz s=0:=by unfold pz;rw [if_neg (by omega)]
  have j4:qU s=0:=by unfold qU;rw [if_neg (by omega)]
  obtain ⟨p,g',ii,bk,af,em⟩:=can0 V h;rw [em] at hgg ⊢;simp only at hgg;exact iT.put I J hi 0 h0P {occ:=by intro x hxG;by_cases e:x=g;(subst e;simp [em,hg,neg_nat,aT,hs,i1,j1]);(simp [em,hg,neg_nat,upd_ne e]),run:=by intro x hxG;by_cases e:x=g;(subst e;simp [em,hr,neg_nat,aT,hs,i2,j2,hgg]);(have:¬ (g:Int)=(x:Int):=(by omega);simp [em,hr,neg_nat,upd_ne e,hgg,this]),out:=by intro x hxG;by_cases e:x=g;(subst e;simp [em,hm,ho,neg_nat,aT,hs,i4,j4]);(simp [em,hm,ho,neg_nat,upd_ne e])}
 | @rouse g h hgG hsv=>
  obtain ⟨p,g',ii,bk,af,em⟩:=can0 V h;rw [em];have j1:rC (a.stt g)=0:=by unfold rC;rw [if_neg (by omega)]
  have j2:pz (a.stt g)=0:=by unfold pz;rw [if_neg (by omega)]
  have j4:qU (a.stt g)=0:=by unfold qU;rw [if_neg (by omega)]
  exact iT.put I J hi 0 h0P {occ:=by intro x hxG;by_cases e:x=g;(subst e;simp [em,hg,neg_nat,aT,j1];simp [rC]);(have:¬ (g:Int)=(x:Int):=(by omega);simp [em,hg,neg_nat,upd_ne e,this]),run:=by intro x hxG;by_cases e:x=g;(subst e;simp [em,hr,aT,j2];simp [pz]);(simp [em,hr,upd_ne e]),out:=by intro x hxG;by_cases e:x=g;(subst e;simp [em,hm,ho,neg_nat,aT,j4];simp [qU]);(simp [em,hm,ho,neg_nat,upd_ne e])}
 | sleep h=>
  have D:(a.mc i).md=0:=by have:=V.md;omega
  exact J.same I hi rfl rfl rfl rfl rfl rfl rfl rfl rfl rfl rfl (by simp;omega) (by intro g;simp [ho,D])
 | wait h=>
  have D:(a.mc i).md=0:=by have:=V.md;omega
  exact J.same I hi rfl rfl rfl rfl rfl rfl rfl rfl rfl rfl rfl (by simp;omega) (by intro g;simp [ho,D])
theorem T0.inv2 (J:ig a) (t:T0 a b):ig b:=by
 cases t with
 | still h0 h1=>exact ⟨⟨J.R.gl,J.R.ring,J.R.out,J.R.rest⟩,J.occ,J.run,J.out,J.mo⟩
 | tell h0 hq=>exact ⟨⟨J.R.gl,J.R.ring,J.R.out,J.R.rest⟩,J.occ,J.run,J.out,J.mo⟩
theorem yI.inv2 (F:yI a):ig a:=by
 have hP:=F.P;refine ⟨⟨fun g h=>?_,fun k hk g h=>?_,fun g h=>?_,fun i hi g h=>?_⟩,fun g hG=>?_,fun g hG=>?_,fun g hG=>?_,fun g hG=>?_⟩
 . rw [F.gl] at h;simp at h;omega
 . rw [F.ring k hk] at h;cases h
 . rw [F.out] at h;cases h
 . by_cases h0:i=0
   . subst h0;rw [F.Rt] at h;cases h
   . rw [F.mc i hi h0] at h;cases h
 . rw [F.sum (fun m=>hg m g) (by simp [hg,neg_nat]),dW (f:=fun k=>(a.ring k).count (g:Int)) (fun k hk=>by rw [F.ring k hk];rfl),F.gl,F.stt g hG];by_cases h:g=0
   . subst h;simp [hg,rC]
   . have:¬ (0:Int)=(g:Int):=by omega
     simp [hg,rC,h,this,neg_nat]
 . rw [F.sum (fun m=>hr m g) (by simp [hr,neg_nat]),F.stt g hG];by_cases h:g=0
   . subst h;simp [hr,pz]
   . simp [hr,pz,h,neg_nat]
 . rw [F.sum (fun m=>hm m g) (by simp [hm]),F.sum (fun m=>ho m g) (by simp [ho]),F.out,F.stt g hG];by_cases h:g=0
   . subst h;simp [hm,ho,qU]
   . simp [hm,ho,qU,h]
 . rw [F.sum (fun m=>ho m g) (by simp [ho])];simp [ho]
end
end
section
variable {P:Nat} {G' G:Prop} {R R':Nat->Prop}
def cL (P:Nat):Nat:=2*P+9
def cK (P:Nat):Nat:=3*P+11
def cO (P M:Nat):Nat:=cK P+12+4*M
def cD (P M:Nat):Nat:=cK P+12+M*cL P
def cBack (P:Nat) (m:Am):Nat:=if m.bk=20 then 1 else if m.bk=0 then 0 else if m.bk=1 then 6+P+cL P else if m.af=13 then 5 else if m.af=1 then 7+P+cL P else 5+P+cL P
def cQ (P:Nat) (m:Am):Nat:=5+cK P+cBack P m
def base (P M:Nat) (m:Am):Nat:=
 if m.pl=0 then 0 else if m.pl=16 then 0 else if m.pl=1 then 6+P+cL P else if m.pl=2 then 4+P+cL P else if m.pl=3 then 3+P+cL P
 else if m.pl=4 then (if m.sp=true then P+1 else 2+P+cL P) else if m.pl=5 then 1+P+cL P else if m.pl=6 then P+1-m.ii.toNat else if m.pl=7 then 1 else if m.pl=8 then cL P
 else if m.pl=9 then 2*P+8-m.ii.toNat else if m.pl=10 then P+8 else if m.pl=11 then P+7 else if m.pl=12 then P+2 else if m.pl=13 then 4 else if m.pl=14 then 3 else if m.pl=15 then 2
 else if m.pl=17 then 3+cQ P m else if m.pl=19 then 2+cQ P m else if m.pl=20 then 1 else if m.pl=21 then cQ P m else if m.pl=22 then cQ P m-1
 else if m.pl=23 then (if m.md=0 then cQ P m-2 else 1+cBack P m) else if m.pl=24 then 1+cBack P m
 else if m.pl=25 then (if m.af=13 then 1 else if m.af=1 then 7+P+cL P else 5+P+cL P)
 else if m.pl=26 then 2+cQ P {m with bk:=25} else if m.pl=27 then 1+cQ P m else if m.pl=28 then 3+cQ P {m with bk:=0}
 else (if m.md=0 then 2+cO P M+(7+P+cL P) else 1+(7+P+cL P))
def wW (P:Nat) (G:Prop) (R:Nat->Prop) (m:Am):Prop:=
 ((m.pl=4/\m.sp=true)->G\/∃ j:Nat,1<=j/\j<P/\R ((m.p+j) % P).toNat)/\
 (m.pl=6->G\/∃ j:Nat,m.ii<=j/\j<P/\R ((m.p+j) % P).toNat)/\(m.pl=7->G)/\((m.pl=11\/m.pl=12)->G\/∃ k,k<P/\R k)
open Classical in
noncomputable def uX (P:Nat) (G:Prop) (R:Nat->Prop) (m:Am):Nat:=if wW P G R m then 0 else cL P
theorem pY {m:Am} (h:wW P G R m):uX P G R m=0:=if_pos h
theorem vZ (P:Nat) (G:Prop) (R:Nat->Prop) (m:Am):uX P G R m<=cL P:=by unfold uX;split<;>omega
theorem Kq {m:Am} (h:m.pl≠4/\m.pl≠6/\m.pl≠7/\m.pl≠11/\m.pl≠12):uX P G R m=0:=
 pY ⟨fun h1=>absurd h1.1 h.1,fun h1=>absurd h1 h.2.1,fun h1=>absurd h1 h.2.2.1,fun h1=>by omega⟩
def late (d:Bool) (m:Am):Nat:=if (m.pl=15\/(m.pl=25/\m.af=13))/\d=false then 4 else 0
noncomputable def lk (a:St) (m:Am):Nat:=uX a.P (a.gl≠[]) (fun k=>a.ring k≠[]) m
noncomputable def cost (a:St) (note:Int) (m:Am):Nat:=base a.P a.M m+lk a m+late a.due m+(if 0<=m.nx then cK a.P else 0)+6*told note m
def setd (m:Am):Nat:=if m.pl=0\/m.pl=17\/m.pl=19\/m.pl=20\/m.pl=28\/((m.pl=21\/m.pl=22\/m.pl=23\/m.pl=24)/\(m.bk=0\/m.bk=20)) then 1 else 0
noncomputable def Oj (a:St):Nat:=sumTo (fun j=>cost a (a.note j) (a.mc j)) a.M+cK a.P*a.pend.length+cO a.P a.M*a.out.length+cD a.P a.M*(a.P-sumTo (fun j=>setd (a.mc j)) a.M)
theorem Jr {m:Am} (h1:G->G') (h2:∀ k,R k->R' k) (h:wW P G R m):wW P G' R' m:=by have ⟨a,b,c,d⟩:=h;refine ⟨fun x=>(a x).imp h1 fun ⟨j,p,q,r⟩=>⟨j,p,q,h2 _ r⟩,fun x=>(b x).imp h1 fun ⟨j,p,q,r⟩=>⟨j,p,q,h2 _ r⟩,fun x=>h1 (c x),fun x=>(d x).imp h1 fun ⟨k,p,q⟩=>⟨k,p,h2 _ q⟩⟩
theorem Ko {m:Am} (h1:G->G') (h2:∀ k,R k->R' k):uX P G' R' m<=uX P G R m:=by
 by_cases h:wW P G R m
 . rw [pY (Jr h1 h2 h)];omega
 . have:=vZ P G' R' m;unfold uX at this ⊢;rw [if_neg h];exact this
section
variable {a b:St} {i k:Nat} {m m':Am}
theorem qe (cP:b.P=a.P) (cM:b.M=a.M) (hg:a.gl≠[]->b.gl≠[]) (hr:∀ k,a.ring k≠[]->b.ring k≠[]) (hd:a.due=true->b.due=true) (n:Int) (m:Am):cost b n m<=cost a n m:=by
 unfold cost lk;rw [cP,cM];have h1:=Ko (P:=a.P) (m:=m) hg hr;have h2:late b.due m<=late a.due m:=by
  cases h:a.due with
  | true=>rw [hd h];exact aq _
  | false=>unfold late;split<;>split<;>simp_all
 omega
theorem Be (cP:b.P=a.P) (cM:b.M=a.M) (hg:b.gl=a.gl) (hr:b.ring=a.ring) (hd:b.due=a.due) (n:Int) (m:Am):cost b n m=cost a n m:=by unfold cost lk;rw [cP,cM,hd,hg,hr]
theorem nI (cP:b.P=a.P) (cM:b.M=a.M) (hd:b.due=a.due) (n:Int) (m:Am):cost b n m<=cost a n m+cL a.P:=by unfold cost lk;rw [cP,cM,hd];have:=vZ a.P (b.gl≠[]) (fun k=>b.ring k≠[]) m;omega
theorem No (cP:b.P=a.P) (cM:b.M=a.M) (hg:b.gl=a.gl) (hr:b.ring=a.ring) (n:Int) (m:Am):cost b n m<=cost a n m+4:=by
 unfold cost lk;rw [cP,cM,hg,hr];have:late b.due m<=4:=by unfold late;split<;>omega
 omega
theorem H7 (I:Inv a):sumTo (fun j=>setd (a.mc j)) a.M<=a.P:=by
 have hsum:∀ n,n<=a.P->sumTo (fun p=>sumTo (fun j=>hp (a.mc j) p) a.M) n<=n:=by
  intro n hn;induction n with
  | zero=>simp [sumTo]
  | succ n ih=>have h1:=ih (by omega);have h2:=I.proc n (by omega);simp [sumTo];omega
 have hswap:∀ n,n<=a.M->sumTo (fun j=>setd (a.mc j)) n<=sumTo (fun p=>sumTo (fun j=>hp (a.mc j) p) n) a.P:=by
  intro n hn;induction n with
  | zero=>simp [sumTo]
  | succ n ih=>
   have h3:=ih (by omega);have h4:=jO (fun p=>sumTo (fun j=>hp (a.mc j) p) n) (fun p=>hp (a.mc n) p) a.P;have h5:(fun p=>sumTo (fun j=>hp (a.mc j) p) (n+1))=fun p=>sumTo (fun j=>hp (a.mc j) p) n+hp (a.mc n) p:=rfl;rw [h5,h4];simp [sumTo];have h6:setd (a.mc n)<=sumTo (fun p=>hp (a.mc n) p) a.P:=by
    unfold setd;split
    . rename_i h7;have h8:=(I.val n (by omega)).p;rw [if_neg (by unfold gm;omega)] at h8;have h9:=cy (f:=fun p=>hp (a.mc n) p) (n:=a.P) (i:=(a.mc n).p.toNat) (by omega);have h10:1<=hp (a.mc n) (a.mc n).p.toNat:=by unfold hp;rw [if_pos (by omega)];omega
      omega
    . omega
   omega
 exact dk (hswap a.M (aq _)) (hsum a.P (aq _))
theorem iC (h2:sumTo (fun j=>setd (a.mc j)) a.M<=a.P) (h3:sumTo (fun j=>setd (b.mc j)) b.M<=b.P) (hi:i<a.M) (cP:b.P=a.P) (cM:b.M=a.M) (hmc:b.mc=upd a.mc i m') (δ s u:Nat)
 (others:∀ j,j<a.M->j≠i->cost b (b.note j) (a.mc j)<=cost a (a.note j) (a.mc j)+δ)
 (own:cost b (b.note i) m'+cK a.P*b.pend.length+cO a.P a.M*b.out.length+cD a.P a.M*setd (a.mc i)+a.M*δ+s<=cost a (a.note i) (a.mc i)+cK a.P*a.pend.length+cO a.P a.M*a.out.length+cD a.P a.M*setd m'+u):Oj b+s<=Oj a+u:=by
 have bi:b.mc i=m':=by rw [hmc,aT]
 have bj:∀ j,j≠i->b.mc j=a.mc j:=fun j hj=>by rw [hmc,upd_ne hj]
 unfold Oj;rw [cP,cM] at h3 ⊢;have h1:=dM (f:=fun j=>setd (a.mc j)) (g:=fun j=>setd (b.mc j)) hi fun j _ hj=>by simp [bj j hj]
 simp [bi] at h1;have h4:sumTo (fun j=>cost b (b.note j) (b.mc j)) a.M+cost a (a.note i) (a.mc i)<=sumTo (fun j=>cost a (a.note j) (a.mc j)) a.M+cost b (b.note i) m'+a.M*δ:=by
  have e1:=dM (f:=fun j=>cost b (b.note j) (b.mc j)) (g:=fun j=>if j=i then 0 else cost b (b.note j) (b.mc j)) hi fun j _ hj=>by simp [hj]
  have e2:=dM (f:=fun j=>cost a (a.note j) (a.mc j)+δ) (g:=fun j=>if j=i then 0 else cost a (a.note j) (a.mc j)+δ) hi fun j _ hj=>by simp [hj]
  have e3:=iw (f:=fun j=>if j=i then 0 else cost b (b.note j) (b.mc j)) (g:=fun j=>if j=i then 0 else cost a (a.note j) (a.mc j)+δ) (n:=a.M) fun j hj=>by
   by_cases hji:j=i
   . simp [hji]
   . simp [hji,if_false,bj j hji];exact others j hj hji
  have e4:=jO (fun j=>cost a (a.note j) (a.mc j)) (fun _=>δ) a.M;rw [iz] at e4;simp [if_true,bi] at e1 e2;omega
 have h5:cD a.P a.M*(a.P-sumTo (fun j=>setd (b.mc j)) a.M)+cD a.P a.M*setd m'=cD a.P a.M*(a.P-sumTo (fun j=>setd (a.mc j)) a.M)+cD a.P a.M*setd (a.mc i):=by
  rw [<- Nat.mul_add,<- Nat.mul_add];congr 1;have:setd m'<=1:=by unfold setd;split<;>omega
  have:setd (a.mc i)<=1:=by unfold setd;split<;>omega
  omega
 omega
theorem lk_free (h:m.pl≠4/\m.pl≠6/\m.pl≠7/\m.pl≠11/\m.pl≠12):lk a m=0:=Kq h
theorem AS:lk a m<=cL a.P:=vZ _ _ _ _
theorem lk_sure (h:wW a.P (a.gl≠[]) (fun k=>a.ring k≠[]) m):lk a m=0:=pY h
theorem pot_still (h2:sumTo (fun j=>setd (a.mc j)) a.M<=a.P) (h3:sumTo (fun j=>setd (b.mc j)) b.M<=b.P) (hi:i<a.M) (cP:b.P=a.P) (cM:b.M=a.M) (hmc:b.mc=upd a.mc i m') (hg:b.gl=a.gl) (hr:b.ring=a.ring) (hd:b.due=a.due) (s u:Nat)
 (hn:∀ j,j<a.M->j≠i->told (b.note j) (a.mc j)<=told (a.note j) (a.mc j))
 (own:cost a (b.note i) m'+cK a.P*b.pend.length+cO a.P a.M*b.out.length+cD a.P a.M*setd (a.mc i)+s<=cost a (a.note i) (a.mc i)+cK a.P*a.pend.length+cO a.P a.M*a.out.length+cD a.P a.M*setd m'+u):Oj b+s<=Oj a+u:=
 iC h2 h3 hi cP cM hmc 0 s u (fun j hj hji=>by
  rw [Be cP cM hg hr hd];have:=hn j hj hji;unfold cost
  omega) (by rw [Be cP cM hg hr hd];simpa using own)
theorem MU (h:wW P G R m->wW P G' R' m'):uX P G' R' m'<=uX P G R m:=by
 by_cases h1:wW P G R m
 . rw [pY (h h1)];omega
 . have:=vZ P G' R' m';unfold uX at this ⊢;rw [if_neg h1];exact this
theorem tU (h:wW a.P (a.gl≠[]) (fun k=>a.ring k≠[]) m->wW a.P (a.gl≠[]) (fun k=>a.ring k≠[]) m'):lk a m'<=lk a m:=MU h
theorem oU {g:Int} {r:List Int} {n:Int} (cP:b.P=a.P) (cM:b.M=a.M) (hp:b.pend=a.pend) (ho:b.out=a.out) (h0:setd m=0) (hnx:m.nx=-1) :
 cost b n (du m g r)+cK a.P*b.pend.length+cO a.P a.M*b.out.length+cD a.P a.M*setd m+a.M*cL a.P+1<=cost a n m+cK a.P*a.pend.length+cO a.P a.M*a.out.length+cD a.P a.M*setd (du m g r)+0:=by
 have h:=oW m g r;have e1:(du m g r).nx=-1:=hnx;have e2:(du m g r).bk=20:=rfl;have e3:setd (du m g r)=1:=by unfold setd;rw [if_pos (by omega)]
 have e4:lk b (du m g r)=0:=lk_free (by omega);have e5:late b.due (du m g r)=0:=by unfold late;rw [if_neg (by omega)]
 have e6:told n (du m g r)=told n m:=by unfold told;rw [e1,hnx]
 have e7:cQ b.P (du m g r)=6+cK a.P:=by unfold cQ cBack;rw [if_pos e2,cP];omega
 have e8:base b.P b.M (du m g r)<=9+cK a.P:=by rcases h with h | h | h<;>simp [base,h,e7]<;>omega
 have eD:cD a.P a.M=cK a.P+12+a.M*cL a.P:=rfl;rw [hp,ho,e3,h0];unfold cost;rw [e4,e5,e6,e1,hnx];simp;omega
set_option maxHeartbeats 1000000 in
theorem Act.pot (I:Inv a) (J:ig a) (hi:i<a.M) (t:Act a i b):Oj b+1<=Oj a+0:=by
 have Ib:=t.inv I J.R hi;have V:=I.val i hi;have hP:=I.hP;have s2:=H7 I;have s3:=H7 Ib;have eL:cL a.P=2*a.P+9:=rfl;have eK:cK a.P=3*a.P+11:=rfl;have eO:cO a.P a.M=cK a.P+12+4*a.M:=rfl;have eD:cD a.P a.M=cK a.P+12+a.M*cL a.P:=rfl;clear Ib
 cases t with
 | sched h=>have ⟨p,ii,bk,af,em⟩:=can1 V h;refine pot_still s2 s3 hi rfl rfl rfl rfl rfl rfl 1 0 (fun j _ _=>aq _) ?_;simp [em,cost,base,late,told,setd,lk_free]<;>omega
 | schedD h=>have ⟨p,ii,bk,af,em⟩:=can1 V h;refine pot_still s2 s3 hi rfl rfl rfl rfl rfl rfl 1 0 (fun j _ _=>aq _) ?_;simp [em,cost,base,late,told,setd,lk_free]<;>omega
 | oneNo h h0=>have ⟨p,ii,bk,af,em⟩:=ND V h;refine pot_still s2 s3 hi rfl rfl rfl rfl rfl rfl 1 0 (fun j _ _=>aq _) ?_;simp [em,cost,base,late,told,setd,lk_free]<;>omega
 | oneGot h h0=>have ⟨p,ii,bk,af,em⟩:=ND V h;refine iC s2 s3 hi rfl rfl rfl (cL a.P) 1 0 (fun j _ _=>by apply nI<;>rfl) (oU rfl rfl rfl rfl (by simp [em,setd]) (by simp [em]))
 | localNo h hk h0=>have ⟨p,ii,bk,af,em⟩:=Ny V h;refine pot_still s2 s3 hi rfl rfl rfl rfl rfl rfl 1 0 (fun j _ _=>aq _) ?_;have:=AS (a:=a) (m:=⟨4,p,-1,-1,-1,-1,ii,false,[],bk,af,0⟩);have e:lk a ⟨4,p,-1,-1,-1,-1,ii,false,[],bk,af,0⟩=0:=lk_sure ⟨by simp,by simp,by simp,by simp⟩;simp [em,e,cost,base,late,told,setd,lk_free]<;>omega
 | localGot h hk h0=>have ⟨p,ii,bk,af,em⟩:=Ny V h;refine iC s2 s3 hi rfl rfl rfl (cL a.P) 1 0 (fun j _ _=>by apply nI<;>rfl) (oU rfl rfl rfl rfl (by simp [em,setd]) (by simp [em]))
 | globalNo h h0=>
  have ⟨p,ii,sp,bk,af,em⟩:=Nx V h;refine pot_still s2 s3 hi rfl rfl rfl rfl rfl rfl 1 0 (fun j _ _=>aq _) ?_
  cases sp with
  | false=>have e:lk a ⟨4,p,-1,-1,-1,-1,ii,false,[],bk,af,0⟩=0:=lk_sure ⟨by simp,by simp,by simp,by simp⟩;simp [em,e,cost,base,late,told,setd,lk_free]<;>omega
  | true=>
   rw [em];simp [if_true,stealA];by_cases hx:(a.P:Int)<=1
   . rw [if_pos hx]
     have hl:=tU (a:=a) (m:=⟨4,p,-1,-1,-1,-1,ii,true,[],bk,af,0⟩) (m':=⟨7,p,-1,-1,-1,-1,1,true,[],bk,af,0⟩) fun hs=>⟨by simp,by simp,fun _=>(hs.1 ⟨rfl,rfl⟩).elim id fun ⟨j,h1,h2,h3⟩=>by omega,by simp⟩
     simp [cost,base,late,told,setd]<;>omega
   . rw [if_neg hx]
     have hl:=tU (a:=a) (m:=⟨4,p,-1,-1,-1,-1,ii,true,[],bk,af,0⟩) (m':=⟨6,p,-1,-1,-1,-1,1,true,[],bk,af,0⟩) fun hs=>⟨by simp,fun _=>(hs.1 ⟨rfl,rfl⟩).imp id fun ⟨j,h1,h2,h3⟩=>⟨j,by simp;omega,h2,h3⟩,by simp,by simp⟩
     simp [cost,base,late,told,setd]<;>omega
 | globalGot h h0=>have ⟨p,ii,sp,bk,af,em⟩:=Nx V h;refine iC s2 s3 hi rfl rfl rfl (cL a.P) 1 0 (fun j _ _=>by apply nI<;>rfl) (oU rfl rfl rfl rfl (by simp [em,setd]) (by simp [em]))
 | spinUp h=>
  have ⟨p,ii,bk,af,em⟩:=Vz V h;refine pot_still s2 s3 hi rfl rfl rfl rfl rfl rfl 1 0 (fun j _ _=>aq _) ?_;rw [em];simp [stealA];by_cases hx:(a.P:Int)<=1
  . rw [if_pos hx];have hl:=AS (a:=a) (m:=⟨7,p,-1,-1,-1,-1,1,true,[],bk,af,0⟩);simp [cost,base,late,told,setd,lk_free]<;>omega
  . rw [if_neg hx];have hl:=AS (a:=a) (m:=⟨6,p,-1,-1,-1,-1,1,true,[],bk,af,0⟩);simp [cost,base,late,told,setd,lk_free]<;>omega
 | stealNo h h0=>
  have hii:=V.ii;have ⟨p,ii,bk,af,em⟩:=Nw V h;refine pot_still s2 s3 hi rfl rfl rfl rfl rfl rfl 1 0 (fun j _ _=>aq _) ?_;rw [em] at h0 hii ⊢;simp only at h0;simp at hii;simp [stealA];have he:∀ j:Nat,ii<=j->j<a.P->a.ring ((p+j) % a.P).toNat≠[]->ii+1<=j:=fun j h1 h2 h3=>by
   by_cases e:ii=j
   . rw [e] at h0;exact absurd h0 h3
   . omega
  by_cases hx:(a.P:Int)<=ii+1
  . rw [if_pos hx]
    have hl:=tU (a:=a) (m:=⟨6,p,-1,-1,-1,-1,ii,true,[],bk,af,0⟩) (m':=⟨7,p,-1,-1,-1,-1,ii+1,true,[],bk,af,0⟩) fun hs=>⟨by simp,by simp,fun _=>(hs.2.1 rfl).elim id fun ⟨j,h1,h2,h3⟩=>by have:=he j h1 h2 h3;omega,by simp⟩
    simp [cost,base,late,told,setd]<;>omega
  . rw [if_neg hx]
    have hl:=tU (a:=a) (m:=⟨6,p,-1,-1,-1,-1,ii,true,[],bk,af,0⟩) (m':=⟨6,p,-1,-1,-1,-1,ii+1,true,[],bk,af,0⟩) fun hs=>⟨by simp,fun _=>(hs.2.1 rfl).imp id fun ⟨j,h1,h2,h3⟩=>⟨j,he j h1 h2 h3,h2,h3⟩,by simp,by simp⟩
    simp [cost,base,late,told,setd]<;>omega
 | stealGot h hkP hk h0=>have ⟨p,ii,bk,af,em⟩:=Nw V h;refine iC s2 s3 hi rfl rfl rfl (cL a.P) 1 0 (fun j _ _=>by apply nI<;>rfl) (oU rfl rfl rfl rfl (by simp [em,setd]) (by simp [em]))
 | releaseNo h h0 h1 h2=>
  have ⟨p,ii,bk,af,em⟩:=Nv V h;have hl:lk a ⟨7,p,-1,-1,-1,-1,ii,true,[],bk,af,0⟩=cL a.P:=by unfold lk uX;rw [if_neg];intro hs;exact hs.2.2.1 rfl h0
  refine pot_still s2 s3 hi rfl rfl rfl rfl rfl rfl 1 0 (fun j _ _=>aq _) ?_;simp [em,hl,cost,base,late,told,setd,lk_free]<;>omega
 | releaseGot h h0=>have ⟨p,ii,bk,af,em⟩:=Nv V h;refine iC s2 s3 hi rfl rfl rfl (cL a.P) 1 0 (fun j _ _=>by apply nI<;>rfl) (oU rfl rfl rfl rfl (by simp [em,setd]) (by simp [em]))
 | drop h=>obtain ⟨ii,bk,af,em⟩:=Vy V h;refine pot_still s2 s3 hi rfl rfl rfl rfl rfl rfl 1 0 (fun j _ _=>aq _) ?_;simp [em,cost,base,late,told,setd,lk_free]<;>omega
 | @look k h hk=>
  have hii:=V.ii;obtain ⟨ii,bk,af,em⟩:=Vx V h;refine pot_still s2 s3 hi rfl rfl rfl rfl rfl rfl 1 0 (fun j _ _=>aq _) ?_;rw [em] at hk hii ⊢;simp only at hk ⊢;simp at hii;by_cases h0:a.ring k≠[]
  . rw [if_pos h0];have e:lk a ⟨11,-1,-1,-1,-1,-1,ii+1,false,[],bk,af,0⟩=0:=lk_sure ⟨by simp,by simp,by simp,fun _=>.inr ⟨k,by omega,h0⟩⟩;simp [e,cost,base,late,told,setd,lk_free]<;>omega
  . rw [if_neg h0];split<;>simp [cost,base,late,told,setd,lk_free]<;>omega
 | lookG h=>
  obtain ⟨ii,bk,af,em⟩:=Q2 V h;refine pot_still s2 s3 hi rfl rfl rfl rfl rfl rfl 1 0 (fun j _ _=>aq _) ?_;rw [em];simp only;by_cases h0:a.gl≠[]
  . rw [if_pos h0];have e:lk a ⟨11,-1,-1,-1,-1,-1,ii,false,[],bk,af,0⟩=0:=lk_sure ⟨by simp,by simp,by simp,fun _=>.inl h0⟩;simp [e,cost,base,late,told,setd,lk_free]<;>omega
  . rw [if_neg h0];simp [cost,base,late,told,setd,lk_free]<;>omega
 | retakeNo h h0=>obtain ⟨ii,bk,af,em⟩:=IT V h;refine pot_still s2 s3 hi rfl rfl rfl rfl rfl rfl 1 0 (fun j _ _=>aq _) ?_;simp [em,cost,base,late,told,setd,lk_free]<;>omega
 | @retakeGot p L h h0=>
  obtain ⟨ii,bk,af,em⟩:=IT V h
  have hl:=tU (a:=a) (m:=⟨11,-1,-1,-1,-1,-1,ii,false,[],bk,af,0⟩) (m':=⟨12,p,-1,-1,-1,-1,ii,false,[],bk,af,0⟩) fun hs=>⟨by simp,by simp,by simp,fun _=>hs.2.2.2 (.inl rfl)⟩
  refine pot_still s2 s3 hi rfl rfl rfl rfl rfl rfl 1 0 (fun j _ _=>aq _) ?_;simp [em,cost,base,late,told,setd]<;>omega
 | spinBack h=>
  have hp0:=V.p;obtain ⟨p,ii,bk,af,em⟩:=Q1 V h;rw [em] at hp0;simp [gm] at hp0;have hcl:a.ring p.toNat=[]:=I.clean p.toNat (by omega) (by
   have:=cy (f:=fun j=>hc (a.mc j) p.toNat) hi;simp only [em] at this;have h5:hc ⟨12,p,-1,-1,-1,-1,ii,false,[],bk,af,0⟩ p.toNat=1:=by have e:((p.toNat:Nat):Int)=p:=aH hp0.1;simp only [hc,eH,e];simp;omega
   omega)
  have hl:=tU (a:=a) (m:=⟨12,p,-1,-1,-1,-1,ii,false,[],bk,af,0⟩) (m':=⟨4,p,-1,-1,-1,-1,ii,true,[],bk,af,0⟩) fun hs=>⟨fun _=>(hs.2.2.2 (.inr rfl)).imp id fun ⟨k,h1,h2⟩=>by
   have hkp:k≠p.toNat:=by rintro rfl;exact h2 hcl
   by_cases hlt:p.toNat<=k
   . refine ⟨k-p.toNat,by omega,by omega,?_⟩;have:((p+((k-p.toNat:Nat):Int)) % (a.P:Int)).toNat=k:=by rw [show p+((k-p.toNat:Nat):Int)=(k:Int) by omega,eV (by omega) (by omega)];omega
     simp only [this];exact h2
   . refine ⟨k+a.P-p.toNat,by omega,by omega,?_⟩;have:((p+((k+a.P-p.toNat:Nat):Int)) % (a.P:Int)).toNat=k:=by rw [show p+((k+a.P-p.toNat:Nat):Int)=(k:Int)+a.P by omega,Int.add_emod_right,eV (by omega) (by omega)];omega
     simp only [this];exact h2,by simp,by simp,by simp⟩
  refine pot_still s2 s3 hi rfl rfl rfl rfl rfl rfl 1 0 (fun j _ _=>aq _) ?_;simp [em,cost,base,late,told,setd]<;>omega
 | @stopPend p L h h0=>obtain ⟨ii,bk,af,em⟩:=Bg V h;have hl:=AS (a:=a) (m:=⟨4,p,-1,-1,-1,-1,ii,true,[],bk,af,0⟩);refine pot_still s2 s3 hi rfl rfl rfl rfl rfl rfl 1 0 (fun j _ _=>aq _) ?_;rw [h0,bn,vH (cK a.P)];simp [em,cost,base,late,told,setd,lk_free]<;>omega
 | stopPoll h h0 h1=>obtain ⟨ii,bk,af,em⟩:=Bg V h;refine pot_still s2 s3 hi rfl rfl rfl rfl rfl rfl 1 0 (fun j _ _=>aq _) ?_;simp [em,cost,base,late,told,setd,lk_free]<;>omega
 | stopIdle h h0 h1=>obtain ⟨ii,bk,af,em⟩:=Bg V h;refine pot_still s2 s3 hi rfl rfl rfl rfl rfl rfl 1 0 (fun j _ _=>aq _) ?_;simp [em,cost,base,late,told,setd,lk_free]<;>omega
 | check h=>obtain ⟨nx,ii,bk,af,em⟩:=Q0 V h;refine pot_still s2 s3 hi rfl rfl rfl rfl rfl rfl 1 0 (fun j _ _=>aq _) ?_;rw [em];cases hd:a.due<;>simp [hd,cost,base,late,told,setd,lk_free]<;>omega
 | unpollYes h h0=>obtain ⟨nx,ii,bk,af,em⟩:=IS V h;refine pot_still s2 s3 hi rfl rfl rfl rfl rfl rfl 1 0 (fun j _ _=>aq _) ?_;rw [em];simp [cost,base,late,told,setd,lk_free]<;>omega
 | unpollNo h h0=>obtain ⟨nx,ii,bk,af,em⟩:=IS V h;refine pot_still s2 s3 hi rfl rfl rfl rfl rfl rfl 1 0 (fun j _ _=>aq _) ?_;simp [em,cost,base,late,told,setd,lk_free]<;>omega
 | wokenTold h h0 h1=>
  obtain ⟨nx,ii,bk,af,em⟩:=IQ V h;rw [em] at h1;simp only at h1;have hnx:¬ 0<=nx:=by omega
  refine pot_still s2 s3 hi rfl rfl rfl rfl rfl rfl 1 0 (fun j _ hji=>by simp only [upd_ne hji];exact aq _) ?_;rw [em];simp only [aT];have hlate:late a.due ⟨25,-1,-1,nx,-1,-1,ii,false,[],bk,13,0⟩<=4:=by unfold late;split<;>omega
  simp [h0,h1,hnx,cost,base,told,setd,lk_free];simp [late] at hlate ⊢;omega
 | wokenNext h h0 h1=>obtain ⟨nx,ii,bk,af,em⟩:=IQ V h;rw [em] at h1;simp only at h1;refine pot_still s2 s3 hi rfl rfl rfl rfl rfl rfl 1 0 (fun j _ hji=>by simp only [upd_ne hji];exact aq _) ?_;rw [em];have hl:=AS (a:=a) (m:=⟨4,nx,-1,-1,-1,-1,ii,true,[],bk,af,0⟩);simp [h1,aT,cost,base,late,told,setd,lk_free]<;>omega
 | @putRest k L h hk h0=>
  have hr0:=V.rest;obtain ⟨p,got,ii,sp,rest,af,em⟩:=NF V h;have hne:L≠[]:=by
   intro e;rw [e] at h0;have:=h0.length_eq;rw [em] at this hr0;have this:0=(a.ring k).length+rest.length:=by simpa using this
   have h9:rest≠[]:=hr0.2 rfl;exact h9 (aG (by omega))
  have hrr:∀ k',a.ring k'≠[]->upd a.ring k L k'≠[]:=fun k' h=>by
   by_cases e:k'=k
   . subst e;rw [aT];exact hne
   . rw [upd_ne e];exact h
  refine iC s2 s3 hi rfl rfl rfl 0 1 0 (fun j _ _=>by apply qe;rfl;rfl;exact fun h=>h;exact hrr;exact fun h=>h) ?_;rw [em];cases sp<;>simp [cost,base,late,told,setd,lk_free,cQ,cBack]<;>omega
 | unspin h=>obtain ⟨p,got,ii,af,em⟩:=QZ V h;refine pot_still s2 s3 hi rfl rfl rfl rfl rfl rfl 1 0 (fun j _ _=>aq _) ?_;simp [em,cost,base,late,told,setd,lk_free,cQ,cBack]<;>omega
 | dispatch h hg=>obtain ⟨p,got,ii,bk,af,em⟩:=NC V h;refine pot_still s2 s3 hi rfl rfl rfl rfl rfl rfl 1 0 (fun j _ _=>aq _) ?_;simp [em,cost,base,late,told,setd,lk_free]<;>omega
 | load h=>
  have B:=dY V (.inl h);obtain ⟨p,g,got,ii,bk,af,em⟩:=QY V h;refine pot_still s2 s3 hi rfl rfl rfl rfl rfl rfl 1 0 (fun j _ _=>aq _) ?_;rw [em] at B ⊢;simp only at B ⊢;by_cases h0:a.spin=0
  . simp only [h0,if_true];rcases B with ⟨rfl,rfl⟩ | ⟨rfl,rfl,rfl⟩ | ⟨rfl,rfl⟩ | ⟨rfl,rfl,rfl,rfl⟩ | ⟨rfl,rfl,rfl,rfl⟩ | ⟨rfl,rfl,rfl,rfl,rfl⟩<;>simp [cost,base,late,told,setd,lk_free,cQ,cBack]<;>omega
  . simp only [h0,if_false];rcases B with ⟨rfl,rfl⟩ | ⟨rfl,rfl,rfl⟩ | ⟨rfl,rfl⟩ | ⟨rfl,rfl,rfl,rfl⟩ | ⟨rfl,rfl,rfl,rfl⟩ | ⟨rfl,rfl,rfl,rfl,rfl⟩<;>cases hdd:a.due<;>simp [hdd,cost,base,late,told,setd,lk_free,cQ,cBack]<;>omega
 | claimYes h h0=>have B:=dY V (.inr (.inl h));obtain ⟨p,g,got,ii,bk,af,em⟩:=IP V h;refine pot_still s2 s3 hi rfl rfl rfl rfl rfl rfl 1 0 (fun j _ _=>aq _) ?_;rw [em] at B ⊢;simp only at B ⊢;rcases B with ⟨rfl,rfl⟩ | ⟨rfl,rfl,rfl⟩ | ⟨rfl,rfl⟩ | ⟨rfl,rfl,rfl,rfl⟩ | ⟨rfl,rfl,rfl,rfl⟩ | ⟨rfl,rfl,rfl,rfl,rfl⟩<;>simp [cost,base,late,told,setd,lk_free,cQ,cBack]<;>omega
 | claimNo h h0=>have B:=dY V (.inr (.inl h));obtain ⟨p,g,got,ii,bk,af,em⟩:=IP V h;refine pot_still s2 s3 hi rfl rfl rfl rfl rfl rfl 1 0 (fun j _ _=>aq _) ?_;rw [em] at B ⊢;simp only at B ⊢;rcases B with ⟨rfl,rfl⟩ | ⟨rfl,rfl,rfl⟩ | ⟨rfl,rfl⟩ | ⟨rfl,rfl,rfl,rfl⟩ | ⟨rfl,rfl,rfl,rfl⟩ | ⟨rfl,rfl,rfl,rfl,rfl⟩<;>cases hdd:a.due<;>simp [hdd,cost,base,late,told,setd,lk_free,cQ,cBack]<;>omega
 | findNone h hd h0=>obtain ⟨p,g,got,ii,bk,af,md,em⟩:=can23 V h;rw [em] at hd;simp only at hd;subst hd;refine pot_still s2 s3 hi rfl rfl rfl rfl rfl rfl 1 0 (fun j _ _=>aq _) ?_;simp [em,cost,base,late,told,setd,lk_free,cQ,cBack]<;>omega
 | findOver h hd=>have B:=dY V (.inr (.inr (.inl h)));obtain ⟨p,g,got,ii,bk,af,md,em⟩:=can23 V h;refine pot_still s2 s3 hi rfl rfl rfl rfl rfl rfl 1 0 (fun j _ _=>aq _) ?_;rw [em] at B hd ⊢;simp only at B hd ⊢;rcases B with ⟨rfl,rfl⟩ | ⟨rfl,rfl,rfl⟩ | ⟨rfl,rfl⟩ | ⟨rfl,rfl,rfl,rfl⟩ | ⟨rfl,rfl,rfl,rfl⟩ | ⟨rfl,rfl,rfl,rfl,rfl⟩<;>cases hdd:a.due<;>simp [hd,hdd,cost,base,late,told,setd,lk_free,cBack]<;>omega
 | findPend h hd h0 h1 h2=>have B:=dY V (.inr (.inr (.inl h)));obtain ⟨p,g,got,ii,bk,af,md,em⟩:=can23 V h;refine pot_still s2 s3 hi rfl rfl rfl rfl rfl rfl 1 0 (fun j _ _=>aq _) ?_;rw [em] at B hd ⊢;simp only at B hd ⊢;subst hd;rw [aM,ft,vH (cK a.P)];rcases B with ⟨rfl,rfl⟩ | ⟨rfl,rfl,rfl⟩ | ⟨rfl,rfl⟩ | ⟨rfl,rfl,rfl,rfl⟩ | ⟨rfl,rfl,rfl,rfl⟩ | ⟨rfl,rfl,rfl,rfl,rfl⟩<;>cases hdd:a.due<;>simp [hdd,cost,base,late,told,setd,lk_free,cQ,cBack]<;>omega
 | @findM p k L ms' q' h hd h0 hk hq=>
  obtain ⟨mk,hmk⟩:∃ mk,a.mc k=mk:=⟨_,rfl⟩
  have Vk:=I.v hk hmk;have tk:=I.tok k hk;have nk:=I.note k hk;have hcq:1<=a.ms.count (k:Int)+qi a.q k:=by
   rcases hq with ⟨e,_⟩ | ⟨_,_,e,_⟩
   . rw [e,bq];simp;omega
   . simp [qi,e]
  have st1:aU mk<=1:=by unfold aU;split<;>omega
  rw [hmk] at tk;have st:aU mk=1:=by omega
  have hpl:mk.pl=14\/mk.pl=15\/mk.pl=16:=by unfold aU at st;split at st<;>omega
  have hn0:a.note k=0:=by omega
  have hnx:mk.nx=-1:=by have h1:=I.nxt k hk;rw [hmk] at h1;have h2:=Vk.nx;omega
  have hki:k≠i:=by rintro rfl;rw [hmk] at h;omega
  have es:setd {a.mc k with nx:=(p:Int)}=setd (a.mc k):=rfl;have sm:sumTo (fun j=>setd (upd a.mc k {a.mc k with nx:=(p:Int)} j)) a.M=sumTo (fun j=>setd (a.mc j)) a.M:=kh fun j _=>by
   by_cases e:j=k
   . subst e;rw [aT];exact es
   . rw [upd_ne e]
  have s4:sumTo (fun j=>setd ((St.put {a with ip:=L,ms:=ms',q:=q'} k {a.mc k with nx:=(p:Int)}).mc j)) a.M<=a.P:=by simp only;rw [sm];exact s2
  have e1:_root_.Go.Proofs.YtblhcbmcbhoeiaaGreatDoor.Sch.Oj (St.put {a with ip:=L,ms:=ms',q:=q'} k {a.mc k with nx:=(p:Int)})+0<=_root_.Go.Proofs.YtblhcbmcbhoeiaaGreatDoor.Sch.Oj a+cK a.P:=by
   refine pot_still s2 s4 hk rfl rfl rfl rfl rfl rfl 0 (cK a.P) (fun j _ _=>aq _) ?_;simp only [es,hn0];have e2:∀ x:Int,base a.P a.M {a.mc k with nx:=x}=base a.P a.M (a.mc k):=fun x=>by rw [hmk];rcases hpl with hpl | hpl | hpl<;>simp [base,hpl]
   have e3:∀ x:Int,lk a {a.mc k with nx:=x}=lk a (a.mc k):=fun x=>rfl;have e4:∀ x:Int,late a.due {a.mc k with nx:=x}=late a.due (a.mc k):=fun x=>rfl;unfold cost;rw [e2,e3,e4];simp [told];split<;>omega
  have e2:_root_.Go.Proofs.YtblhcbmcbhoeiaaGreatDoor.Sch.Oj (St.put {a with ip:=L,ms:=ms',q:=q',mc:=upd a.mc k {a.mc k with nx:=(p:Int)}} i {a.mc i with tg:=(k:Int),pl:=24})+(cK a.P+1)<=_root_.Go.Proofs.YtblhcbmcbhoeiaaGreatDoor.Sch.Oj (St.put {a with ip:=L,ms:=ms',q:=q'} k {a.mc k with nx:=(p:Int)})+0:=by
   refine pot_still (a:=St.put {a with ip:=L,ms:=ms',q:=q'} k {a.mc k with nx:=(p:Int)}) s4 s3 hi rfl rfl rfl rfl rfl rfl (cK a.P+1) 0 (fun j _ _=>aq _) ?_;obtain ⟨p',g,got,ii,bk,af,md,em⟩:=can23 V h;have ei:(St.put {a with ip:=L,ms:=ms',q:=q'} k {a.mc k with nx:=(p:Int)}).mc i=⟨23,p',g,-1,got,-1,ii,false,[],bk,af,md⟩:=by simp only [upd_ne (aY hki)];exact em
   rw [ei,em];rw [em] at hd;simp only at hd;subst hd;simp [cost,base,late,told,setd,lk_free,cQ,cBack]<;>omega
  omega
 | @wake k h hk=>
  have B:=dY V (.inr (.inr (.inr h)));have ktg:=I.tgn i hi;have Vt:=V.tg;rw [if_pos h,hk] at Vt;obtain ⟨p,g,got,tg,ii,bk,af,em⟩:=QX V h;rw [hk,aC] at ktg;have ktg:=ktg (by omega);have hki:k≠i:=by rintro rfl;rw [em] at ktg;simp at ktg
  refine pot_still s2 s3 hi rfl rfl rfl rfl rfl rfl 1 0 (fun j _ hji=>by
   by_cases e:j=k
   . subst e;unfold told;rw [if_neg (by omega)];omega
   . simp only [upd_ne e];exact aq _) ?_
  simp only [upd_ne (aY hki)];rw [em] at B ⊢;simp only at B ⊢;rcases B with ⟨rfl,rfl⟩ | ⟨rfl,rfl,rfl⟩ | ⟨rfl,rfl⟩ | ⟨rfl,rfl,rfl,rfl⟩ | ⟨rfl,rfl,rfl,rfl⟩ | ⟨rfl,rfl,rfl,rfl,rfl⟩<;>cases hdd:a.due<;>simp [hdd,cost,base,late,told,setd,lk_free,cBack]<;>omega
 | delivNo h h0=>have A:=V.af (.inl h);obtain ⟨p,ii,bk,af,em⟩:=E3 V h;refine pot_still s2 s3 hi rfl rfl rfl rfl rfl rfl 1 0 (fun j _ _=>aq _) ?_;rw [em] at A ⊢;simp only at A ⊢;rcases A with rfl | rfl | rfl<;>simp [h0,cost,base,late,told,setd,lk_free]<;>omega
 | @delivGot g o' d' h h0 h1 h2 h3=>
  have A:=V.af (.inl h);have hlen:a.out.length=o'.length+1:=by
   have:a.out.Perm (g::o'):=List.perm_iff_count.2 fun x=>by
    rw [h1 x,bR];by_cases e:x=g
    . subst e;simp
    . have e2:¬ g=x:=fun h=>e h.symm;simp [e,e2]
   rw [this.length_eq,bn]
  obtain ⟨p,ii,bk,af,em⟩:=E3 V h;refine iC s2 s3 hi rfl rfl rfl 4 1 0 (fun j _ _=>by apply No<;>rfl) ?_;rw [em] at A ⊢;rw [hlen,vH (cO a.P a.M)];simp only at A ⊢;rcases A with rfl | rfl | rfl<;>simp [h0,cost,base,late,told,setd,lk_free,cQ,cBack]<;>omega
 | mark h hgot=>have A:=V.af (.inr (.inl h));obtain ⟨p,got,ii,bk,af,em⟩:=NB V h;refine pot_still s2 s3 hi rfl rfl rfl rfl rfl rfl 1 0 (fun j _ _=>aq _) ?_;rw [em] at A ⊢;simp only at A ⊢;rcases A with rfl | rfl | rfl<;>simp [cost,base,late,told,setd,lk_free,cQ,cBack]<;>omega
 | putOne h=>have C:=V.bk2 h;obtain ⟨p,got,ii,bk,af,em⟩:=NA V h;refine iC s2 s3 hi rfl rfl rfl 0 1 0 (fun j _ _=>by apply qe;rfl;rfl;exact fun _=>(by simp);exact fun k' h=>h;exact fun h=>h) ?_;rw [em] at C ⊢;simp only at C ⊢;rcases C with rfl | rfl<;>simp [cost,base,late,told,setd,lk_free,cQ,cBack]<;>omega
 | @putNext k L h hk h0=>
  obtain ⟨p,g,got,ii,bk,af,em⟩:=Nz V h;have hne:L≠[]:=by intro e;rw [e] at h0;have:=h0.length_eq;simp at this
  have hrr:∀ k',a.ring k'≠[]->upd a.ring k L k'≠[]:=fun k' h=>by
   by_cases e:k'=k
   . subst e;rw [aT];exact hne
   . rw [upd_ne e];exact h
  refine iC s2 s3 hi rfl rfl rfl 0 1 0 (fun j _ _=>by apply qe;rfl;rfl;exact fun h=>h;exact hrr;exact fun h=>h) ?_;rw [em];simp [cost,base,late,told,setd,lk_free,cQ,cBack]<;>omega
 | @out1 o' d' h hd h0 hdd=>
  have hlen:o'.length=a.out.length+1:=by
   have:o'.Perm ((a.mc i).g::a.out):=List.perm_iff_count.2 fun x=>by
    rw [h0 x,bR];by_cases e:x=(a.mc i).g
    . subst e;simp
    . have e2:¬ (a.mc i).g=x:=fun h=>e h.symm;simp [e,e2]
   rw [this.length_eq,bn]
  refine iC s2 s3 hi rfl rfl rfl 0 1 0 (fun j _ _=>by apply qe;rfl;rfl;exact fun h=>h;exact fun k' h=>h;exact hdd) ?_;have e3:(if d'=true then (2:Int) else 1)≠0:=by split<;>omega
  rcases h with h | h
  . obtain ⟨p,g,ii,bk,af,md,em⟩:=IN V h;rw [em] at hd ⊢;rw [hlen,vH (cO a.P a.M)];simp only at hd ⊢;subst hd;simp [e3,cost,base,late,told,setd,lk_free]<;>omega
  . obtain ⟨p,g,ii,bk,af,md,em⟩:=Bf V h;rw [em] at hd ⊢;rw [hlen,vH (cO a.P a.M)];simp only at hd ⊢;subst hd;simp [e3,cost,base,late,told,setd,lk_free]<;>omega
 | out2 h hd hg=>
  refine pot_still s2 s3 hi rfl rfl rfl rfl rfl rfl 1 0 (fun j _ _=>aq _) ?_;rcases h with h | h
  . obtain ⟨p,g,ii,bk,af,md,em⟩:=IN V h;rw [em] at hd ⊢;simp only at hd ⊢;by_cases h2:md=2<;>simp [h2,hd,cost,base,late,told,setd,lk_free]<;>omega
  . obtain ⟨p,g,ii,bk,af,md,em⟩:=Bf V h;rw [em] at hd ⊢;simp only at hd ⊢;by_cases h2:md=2<;>simp [h2,hd,cost,base,late,told,setd,lk_free]<;>omega
 | awaitNo h hd=>obtain ⟨p,g,ii,bk,af,md,em⟩:=Bf V h;rw [em] at hd;simp only at hd;subst hd;refine pot_still s2 s3 hi rfl rfl rfl rfl rfl rfl 1 0 (fun j _ _=>aq _) ?_;simp [em,cost,base,late,told,setd,lk_free]<;>omega
end
end
section
variable {P G M:Nat}
theorem Iw (n:Nat):∀ l:List Int,(∀ x,x∈l->0<=x/\x<n)->l.length=sumTo (fun g=>l.count (g:Int)) n
 | [],_=>by have:=iz 0 n;simpa using this.symm
 | x::l,h=>by
  have h1:=Iw n l fun y hy=>h y (cH _ hy);have ⟨h2,h3⟩:=h x (by simp);have h4:=dM (f:=fun g=>l.count (g:Int)) (g:=fun g:Nat=>(x::l).count (g:Int)) (n:=n) (i:=x.toNat) (by omega) fun j hj hji=>by
   have:¬ x=(j:Int):=by omega
   simp [this]
  have h5:(x::l).count ((x.toNat:Nat):Int)=l.count ((x.toNat:Nat):Int)+1:=by
   have:x=((x.toNat:Nat):Int):=by omega
   rw [bR,if_pos (by simpa using this)]
  rw [bn];omega
theorem py {n:Nat} {l:List Int} (h:∀ x,x∈l->0<=x/\x<n) (h1:∀ g:Nat,g<n->l.count (g:Int)<=1):l.length<=n:=by rw [Iw n l h];have:=iw (f:=fun g:Nat=>l.count (g:Int)) (g:=fun _=>1) (n:=n) h1;rw [iz] at this;omega
section
variable {a:St} {m:Am}
theorem IW (P:Nat) (m:Am):cBack P m<=7+P+cL P:=by unfold cBack;repeat' (first | omega | split)
theorem PY {m:Am} (V:oC P M G m):base P M m<=cO P M+3*P+20:=by
 have h1:=IW P m;have h2:cQ P m<=5+cK P+(7+P+cL P):=by unfold cQ;omega
 have hq:∀ x,cQ P x<=5+cK P+(7+P+cL P):=fun x=>by have:=IW P x;unfold cQ;omega
 have eL:cL P=2*P+9:=rfl;have eK:cK P=3*P+11:=rfl;have eO:cO P M=cK P+12+4*M:=rfl;have hpl:=V.pl;have:m.pl=0\/m.pl=1\/m.pl=2\/m.pl=3\/m.pl=4\/m.pl=5\/m.pl=6\/m.pl=7\/m.pl=8\/m.pl=9\/m.pl=10\/m.pl=11\/m.pl=12\/m.pl=13\/m.pl=14\/m.pl=15\/m.pl=16\/m.pl=17\/m.pl=19\/m.pl=20\/m.pl=21\/m.pl=22\/m.pl=23\/m.pl=24\/m.pl=25\/m.pl=26\/m.pl=27\/m.pl=28\/m.pl=29\/m.pl=30:=by omega
 rcases this with h | h | h | h | h | h | h | h | h | h | h | h | h | h | h | h | h | h | h | h | h | h | h | h | h | h | h | h | h | h<;>simp [base,h,Int.reduceEq,if_true,if_false]<;>first | omega | (refine dk (Nat.add_le_add_left (hq _) _) ?_;omega) | (split<;>first | omega | (split<;>omega))
theorem PJ (V:oC a.P a.M a.G m) (n:Int):cost a n m<=cO a.P a.M+3*a.P+20+cL a.P+4+cK a.P+6:=by
 have h1:=PY V;have h2:=AS (a:=a) (m:=m);have h3:late a.due m<=4:=by unfold late;split<;>omega
 have h4:told n m<=1:=by unfold told;split<;>omega
 unfold cost;split<;>omega
theorem ig.T7 (J:ig a):a.out.length<=a.G:=by
 refine py J.R.out fun g hg'=>?_;have h1:=J.out g hg';have h2:=J.run g hg';have h3:=iw (f:=fun j=>ho (a.mc j) g) (g:=fun j=>hr (a.mc j) g) (n:=a.M) fun j _=>by
  unfold ho hr;split
  . rename_i h;rw [if_pos h.1];omega
  . omega
 have h4:qU (a.stt g)+pz (a.stt g)<=1:=by unfold qU pz;split<;>split<;>omega
 omega
theorem Inv.Ds (I:Inv a):a.pend.length<=a.P:=py I.pendr fun g hg'=>by have:=I.proc g hg';omega
def IU (P M G:Nat):Nat:=M*(cO P M+3*P+20+cL P+4+cK P+6)+cK P*P+cO P M*G+cD P M*P
theorem RV (I:Inv a) (J:ig a):Oj a<=IU a.P a.M a.G:=by unfold Oj IU;have h1:=iw (f:=fun j=>cost a (a.note j) (a.mc j)) (g:=fun _=>cO a.P a.M+3*a.P+20+cL a.P+4+cK a.P+6) (n:=a.M) fun j hj=>PJ (I.val j hj) _;rw [iz] at h1;have h2:=Dj (cK a.P) I.Ds;have h3:=Dj (cO a.P a.M) J.T7;have h4:=Dj (cD a.P a.M) (Nat.sub_le a.P (sumTo (fun j=>setd (a.mc j)) a.M));omega
theorem NL (h1:1<=P/\P<=8) (h2:P<=M/\M<=P+4):5*IU P M G+4*M<=64*(M+4)*((P+8)*(P+8)+G):=by
 obtain ⟨d,hd,rfl⟩:∃ d,d<=4/\M=P+d:=⟨M-P,by omega,by omega⟩
 have hP:P=1\/P=2\/P=3\/P=4\/P=5\/P=6\/P=7\/P=8:=by omega
 have hd:d=0\/d=1\/d=2\/d=3\/d=4:=by omega
 unfold IU cD cO cK cL;rcases hP with rfl | rfl | rfl | rfl | rfl | rfl | rfl | rfl<;>rcases hd with rfl | rfl | rfl | rfl | rfl<;>simp [Nat.reduceMul,Nat.reduceAdd]<;>omega
end
end
end Go.Proofs.YtblhcbmcbhoeiaaGreatDoor.Sch
namespace Go.Proofs.YtblhcbmcbhoeiaaGreatDoor.Ev
open Go
section
open Sch
def rawA (m:Mc) (md:Int):Am:=⟨m.pl,m.p,m.g,m.nx,m.got,m.tg,m.ii,m.sp,m.rest,m.bk,m.af,md⟩
def amOf (m:Mc) (f:Bool) (P:Nat):Am:=
 if m.inn=true/\m.st=3 then rawA (thenM m f P) 0
 else rawA m (if m.inn=true/\m.st=2/\0<m.tm then (if m.pl≠23/\f=true then 2 else 1) else 0)
def ringL (r:Rg):List Int:=r.row++if r.is=true then [r.next] else []
def outS (s:dU):List Int:=s.t.has++s.p.who.map (·.1)
structure IsA (w:W) (s:dU) (a:St):Prop where
 P:a.P=w.P
 M:a.M=w.M
 G:a.G=w.G
 lA:w.all.length=w.M
 lF:w.flag.length=w.M
 lT:w.turns.length=w.P
 lR:w.rings.length=w.P
 lW:w.ws.length=2*w.P+5+w.M+w.G
 spin:a.spin=wd w.ws w.sp
 note:∀ j,j<w.M->a.note j=wd w.ws (w.nt+j)
 stt:∀ g,g<w.G->a.stt g=wd w.ws (w.tb+g)
 ring:∀ k r,w.rings[k]?=some r->a.ring k=ringL r
 gl:a.gl=w.gl
 ip:a.ip=w.ip
 pend:a.pend=w.pend
 ms:a.ms=w.ms
 q:a.q=w.q
 mc:∀ j m f,w.all[j]?=some m->w.flag[j]?=some f->a.mc j=amOf m f w.P
 due:a.due=dueS s
 out:a.out=outS s
theorem aput_put (a:St) (i:Nat) (x y:Am):(a.put i x).put i y=a.put i y:=by
 show ({a with mc:=upd (upd a.mc i x) i y}:St)={a with mc:=upd a.mc i y}
 congr 1;funext j;unfold upd;split<;>rfl
section
variable {w w':W} {s s':dU} {a:St} {i k:Nat} {m m':Mc} {f:Bool}
theorem IsA.lt (A:IsA w s a) (hi:w.all[i]?=some m):i<w.M:=by have:=(aa.1 hi).1;rw [A.lA] at this;exact this
theorem IsA.pP (A:IsA w s a) (hi:w.all[i]?=some m):∃ f,w.flag[i]?=some f:=
 ⟨_,ah (by rw [A.lF];exact A.lt hi)⟩
theorem IsA.yO (A:IsA w s a) (hi:w.all[i]?=some m):i<a.M:=by rw [A.M];exact A.lt hi
theorem IsA.words (A:IsA w s a) {k:Nat} (hk:k<w.ws.length) (v:Int) {sp:Int} {nt st:Nat->Int} (h1:sp=if w.sp=k then v else a.spin) (h2:∀ j,j<w.M->nt j=if w.nt+j=k then v else a.note j) (h3:∀ j,j<w.G->st j=if w.tb+j=k then v else a.stt j):IsA (w.cR k v) s {a with spin:=sp,note:=nt,stt:=st}:=by
 refine {A with lW:=?_,spin:=?_,note:=?_,stt:=?_}
 . simp [W.cR];exact A.lW
 . show sp=wd (w.ws.set k v) w.sp;rw [tl hk,h1,A.spin]
 . intro j hj;show nt j=wd (w.ws.set k v) (w.nt+j);rw [tl hk,h2 j hj,A.note j hj]
 . intro j hj;show st j=wd (w.ws.set k v) (w.tb+j);rw [tl hk,h3 j hj,A.stt j hj]
theorem IsA.lock (A:IsA w s a) (hk:k<2*w.P+4) (v:Int):IsA (w.cR k v) s a:=
 A.words (by have:=A.lW;omega) v (by rw [if_neg (by show ¬ 2*(w.P+2)=k;omega)]) (fun j hj=>by rw [if_neg (by show ¬ 2*w.P+5+j=k;omega)]) (fun j hj=>by rw [if_neg (by show ¬ 2*w.P+5+w.M+j=k;omega)])
theorem IsA.Bv (A:IsA w s a) (v:Int):IsA (w.cR w.sp v) s {a with spin:=v}:=
 A.words (by have:=A.lW;show 2*(w.P+2)<_;omega) v (by rw [if_pos rfl]) (fun j hj=>by rw [if_neg (by show ¬ 2*w.P+5+j=2*(w.P+2);omega)]) (fun j hj=>by rw [if_neg (by show ¬ 2*w.P+5+w.M+j=2*(w.P+2);omega)])
theorem IsA.I5 (A:IsA w s a) (hk:k<w.M) (v:Int):IsA (w.cR (w.nt+k) v) s {a with note:=upd a.note k v}:=
 A.words (by have:=A.lW;show 2*w.P+5+k<_;omega) v (by rw [if_neg (by show ¬ 2*(w.P+2)=2*w.P+5+k;omega)]) (fun j hj=>by unfold upd;by_cases h:j=k;rw [if_pos h,if_pos (by omega)];rw [if_neg h,if_neg (by omega)]) (fun j hj=>by rw [if_neg (by show ¬ 2*w.P+5+w.M+j=2*w.P+5+k;omega)])
theorem IsA.Bu (A:IsA w s a) {g:Nat} (hg:g<w.G) (v:Int):IsA (w.cR (w.tb+g) v) s {a with stt:=upd a.stt g v}:=
 A.words (by have:=A.lW;show 2*w.P+5+w.M+g<_;omega) v (by rw [if_neg (by show ¬ 2*(w.P+2)=2*w.P+5+w.M+g;omega)]) (fun j hj=>by rw [if_neg (by show ¬ 2*w.P+5+j=2*w.P+5+w.M+g;omega)]) (fun j hj=>by unfold upd;by_cases h:j=g;rw [if_pos h,if_pos (by omega)];rw [if_neg h,if_neg (by omega)])
theorem IsA.cd (A:IsA w s a):IsA w.cd s a:={A with}
theorem IsA.gG (A:IsA w s a) (k:Nat) (r:Rg):IsA (w.gG k r) s {a with ring:=upd a.ring k (ringL r)}:=by
 refine {A with lR:=?_,ring:=?_}
 . simp [W.gG];exact A.lR
 . intro j r' hj;show upd a.ring k (ringL r) j=ringL r';have hj:(w.rings.set k r)[j]?=some r':=hj;unfold upd;by_cases h:j=k
   . rw [if_pos h];subst h;rw [eU] at hj;simp at hj;rw [hj.2]
   . rw [if_neg h];rw [aj (aY h)] at hj;exact A.ring j r' hj
theorem IsA.Bw (A:IsA w s a) (l:List Int):IsA {w with gl:=l} s {a with gl:=l}:={A with gl:=rfl}
theorem IsA.I6 (A:IsA w s a) (l:List Nat):IsA {w with ip:=l} s {a with ip:=l}:={A with ip:=rfl}
theorem IsA.I4 (A:IsA w s a) (l:List Int):IsA {w with pend:=l} s {a with pend:=l}:={A with pend:=rfl}
theorem IsA.Rw (A:IsA w s a) (l:List Int):IsA {w with ms:=l} s {a with ms:=l}:={A with ms:=rfl}
theorem IsA.QC (A:IsA w s a) (l:Int):IsA {w with q:=l} s {a with q:=l}:={A with q:=rfl}
theorem IsA.Of (A:IsA w s a) (l:List Int) (h:l.length=w.turns.length):IsA {w with turns:=l} s a:={A with lT:=h.trans A.lT}
theorem IsA.yL (A:IsA w s a) (s':dU):IsA w s' {a with due:=dueS s',out:=outS s'}:={A with due:=rfl,out:=rfl}
theorem IsA.az (A:IsA w s a) (hf:w.flag[i]?=some f) (m':Mc):IsA (w.az i m') s (a.put i (amOf m' f w.P)):=by
 refine {A with lA:=?_,mc:=?_}
 . simp [W.az];exact A.lA
 . intro j x g hj hg0;show upd a.mc i (amOf m' f w.P) j=amOf x g w.P;rw [dV] at hj;have hg:w.flag[j]?=some g:=hg0;clear hg0;unfold upd;by_cases h:j=i
   . subst h;rw [if_pos rfl];have:=(aa.1 hf).1;rw [if_pos ⟨rfl,by rw [A.lA];rw [A.lF] at this;exact this⟩] at hj;rw [hf] at hg;cases hj;cases hg;rfl
   . rw [if_neg h];rw [if_neg (fun e=>h e.1.symm)] at hj;exact A.mc j x g hj hg
theorem IsA.aL (A:IsA w s a) (hi:w.all[i]?=some m) (f':Bool):IsA (w.aL i f') s (a.put i (amOf m f' w.P)):=by
 refine {A with lF:=?_,mc:=?_}
 . simp [W.aL];exact A.lF
 . intro j x g hj0 hg0;show upd a.mc i (amOf m f' w.P) j=amOf x g w.P;have hj:w.all[j]?=some x:=hj0;have hg:(w.flag.set i f')[j]?=some g:=hg0;clear hj0 hg0;unfold upd;by_cases h:j=i
   . subst h;rw [if_pos rfl];rw [eU] at hg;simp at hg;rw [hi] at hj;cases hj;rw [hg.2]
   . rw [if_neg h];rw [aj (aY h)] at hg;exact A.mc j x g hj hg
theorem setf_at {f':Bool} (hf:w.flag[i]?=some f):(w.aL i f').flag[i]?=some f':=by show (w.flag.set i f')[i]?=some f';rw [ax (aa.1 hf).1]
end
def nxt (w:W) (l:Nat):Int:=wd w.ws (2*l)
def srv (w:W) (l:Nat):Int:=wd w.ws (2*l+1)
structure aav (w:W) (m:Mc):Prop where
 l:0<=lockOf m w.P/\lockOf m w.P<=w.P+1
 ln:m.ln=2*lockOf m w.P
 ls:m.ls=2*lockOf m w.P+1
 st:m.st=1\/m.st=2\/m.st=3
 tk:srv w (lockOf m w.P).toNat<=m.tk/\m.tk<nxt w (lockOf m w.P).toNat
 T2:m.st≠1->m.tk=srv w (lockOf m w.P).toNat
 pl:0<=m.pl/\m.pl<31
 ii:-1000<=m.ii/\m.ii<=1000
 tm:m.st≠3->m.tm=0\/(m.st=2/\m.tm=1/\(m.pl=23\/m.pl=29\/m.pl=30))
structure De (s:dU) (P:Nat) (N:Int):Prop where
 hl:s.t.hs.length=P
 has:((s.t.hs.flatten).map fun e=>e.2.2).Perm s.t.has
 fds:NY s.p
 sz:s.p.fds.length<=1024
 link:∀ fd g r,(fd,g,true,r)∈s.p.fds->(g,fd)∈s.p.who
 wa:s.waits=(s.p.who.length:Int)
 ord:0<=s.t.ord/\s.t.ord<=N
 now:isI64 s.now
end
section
open Sch
variable {P p:Nat} {r:Rg} {L:List Nat}
theorem M4 (h:r.get.2.2=true):(ringL r).Perm (r.get.2.1::ringL r.get.1):=by
 unfold Rg.get at *;split
 . rename_i h1;simp [ringL,h1.1,h1.2]
 split
 . rename_i h0 h1;simp [ringL,h1.1]
 . rename_i h0 h1;split
   . rename_i h2;rw [if_neg h0,if_neg h1,h2] at h;simp at h
   . rename_i x l h2;by_cases h3:r.is=true
     . simp [ringL,h3,h2]
     . simp [ringL,h3,h2]
theorem M5 (h:r.get.2.2=false):ringL r=[]/\r.get.1=r:=by
 unfold Rg.get at *;split at h
 . cases h
 split at h
 . cases h
 rename_i h0 h1;split at h
 . rename_i h2;have hs:r.is=false:=by
    cases hs:r.is with
    | false=>rfl
    | true=>exact absurd ⟨hs,h2⟩ h0
   refine ⟨by simp [ringL,h2,hs],?_⟩;rw [if_neg h0,if_neg h1]
 . cases h
theorem G8 (h:0<=r.streak/\r.streak<=4):0<=r.get.1.streak/\r.get.1.streak<=4:=by
 unfold Rg.get;split
 . simp
 split
 . rename_i h1;simp;omega
 split
 . exact h
 . split<;>simp
theorem FV :(ringL r).Perm (r.fp.2++ringL r.fp.1):=by
 unfold Rg.fp;split
 . rename_i h;simp [ringL,h.1,h.2]
 . simp [ringL];rw [<- cX,List.take_append_drop]
theorem FW (h:r.fp.2=[]):ringL r=[]/\ringL r.fp.1=[]:=by
 unfold Rg.fp at *;split at h
 . cases h
 . rename_i h0;rw [Ae] at h;have hrow:r.row=[]:=by
    rcases h with h | h
    . cases hr:r.row with
      | nil=>rfl
      | cons x l=>rw [hr] at h;simp at h;omega
    . exact h
   have hs:r.is=false:=by
    cases hs:r.is with
    | false=>rfl
    | true=>exact absurd ⟨hrow,hs⟩ h0
   rw [if_neg h0];simp [ringL,hrow,hs]
theorem BH (h:0<=r.streak/\r.streak<=4):0<=r.fp.1.streak/\r.fp.1.streak<=4:=by
 unfold Rg.fp;split
 . simp
 . exact h
theorem ready_perm {g:Int}:(ringL (r.ready g)).Perm (ringL r++[g]):=by unfold Rg.ready ringL;by_cases h:r.is=true<;>simp [h]
theorem putAll_perm {l:List Int}:(ringL {r with row:=r.row++l}).Perm (ringL r++l):=by unfold ringL;simp [cX];exact List.Perm.append_left _ List.perm_append_comm
theorem ringL_nil :ringL r≠[]↔(r.row≠[]\/r.is=true):=by unfold ringL;cases hr:r.row<;>cases hs:r.is<;>simp
section
variable {w w1:W} {s s1:dU} {a:St} {i k:Nat} {m m1:Mc} {f more:Bool}
theorem Zc (hin:m.inn=true) (hst:m.st=2) (htm:m.tm=0):amOf m f P=rawA m 0:=by unfold amOf;rw [nQ,nQ]
theorem Sw (hin:m.inn=true) (hst:m.st=3):amOf m f P=rawA (thenM m f P) 0:=by unfold amOf;rw [if_pos ⟨hin,hst⟩]
theorem IsA.kG {b:St} {x y:Am} (A:IsA w s (b.put i x)) (e:x=y):IsA w s (b.put i y):=e▸A
@[simp] theorem YY {b:Bool}:(w.aL i b).P=w.P:=rfl
@[simp] theorem YX {m':Mc}:(w.az i m').P=w.P:=rfl
@[simp] theorem YW :(w.gG k r).P=w.P:=rfl
@[simp] theorem X3 {z:Int}:(w.cR k z).P=w.P:=rfl
@[simp] theorem U2:w.cd.P=w.P:=rfl
def doneW (w1:W) (i:Nat) (m1:Mc) (more:Bool):W:=w1.az i {m1 with tm:=m1.tm+1,st:=if more=true then m1.st else 3}
section
variable (A:IsA w s a) (hi:w.all[i]?=some m) (hin:m.inn=true) (hst:m.st=2) (htm:m.tm=0)
include A hi hin hst htm
theorem A_mc:∃ f,w.flag[i]?=some f/\a.mc i=rawA m 0:=by have ⟨f,hf⟩:=A.pP hi;exact ⟨f,hf,by rw [A.mc i m f hi hf,Zc hin hst htm]⟩
theorem JE (hp:m.pl=10):∃ b,Sch.Act a i b/\IsA (doneW (w.aL i (decide (w.gl≠[]))) i m false) s b:=by have ⟨f,hf,em⟩:=A_mc A hi hin hst htm;have A1:=(A.aL hi (decide (w.gl≠[]))).az (setf_at hf) {m with tm:=m.tm+1,st:=3};rw [aput_put] at A1;refine ⟨_,Sch.Act.lookG (by rw [em];exact hp),IsA.kG A1 ?_⟩;rw [em,A.gl];by_cases hg:w.gl=[]<;>simp [amOf,hin,thenM,rawA,hp,hg]
theorem LZ (hp:m.pl=9) {k:Nat} (hk:m.ii=k) (hr:w.rings[k]?=some r):∃ b,Sch.Act a i b/\IsA (doneW (w.aL i (decide (r.row≠[]\/r.is=true))) i m false) s b:=by have ⟨f,hf,em⟩:=A_mc A hi hin hst htm;have A1:=(A.aL hi (decide (r.row≠[]\/r.is=true))).az (setf_at hf) {m with tm:=m.tm+1,st:=3};rw [aput_put] at A1;refine ⟨_,Sch.Act.look (k:=k) (by rw [em];exact hp) (by rw [em];exact hk),IsA.kG A1 ?_⟩;rw [em,A.ring k r hr,A.P];have hb:decide (r.row≠[]\/r.is=true)=decide (ringL r≠[]):=decide_eq_decide.2 ringL_nil.symm;rw [hb];by_cases hg:ringL r=[]<;>simp [amOf,hin,thenM,rawA,hp,hg]
theorem BQ (hp:m.pl=11) (hn:w.ip=[]):∃ b,Sch.Act a i b/\IsA (doneW (w.aL i false) i m false) s b:=by have ⟨f,hf,em⟩:=A_mc A hi hin hst htm;have A1:=(A.aL hi false).az (setf_at hf) {m with tm:=m.tm+1,st:=3};rw [aput_put] at A1;refine ⟨_,Sch.Act.retakeNo (by rw [em];exact hp) (A.ip.trans hn),IsA.kG A1 ?_⟩;rw [em];simp [amOf,hin,thenM,rawA,hp]
theorem yS (hp:m.pl=11) (hn:w.ip=p::L):∃ b,Sch.Act a i b/\IsA (doneW ((({w with ip:=L}:W).aL i true).az i {m with p:=(p:Int)}) i {m with p:=(p:Int)} false) s b:=by
 have ⟨f,hf,em⟩:=A_mc A hi hin hst htm;have A1:=((((A.I6 L).aL (i:=i) hi true).az (setf_at hf) {m with p:=(p:Int)}).az (setf_at hf) {m with p:=(p:Int),tm:=m.tm+1,st:=3})
 rw [aput_put,aput_put] at A1;refine ⟨_,Sch.Act.retakeGot (by rw [em];exact hp) (A.ip.trans hn),IsA.kG A1 ?_⟩;rw [em];simp [amOf,hin,thenM,rawA,hp]
theorem BM (hp:m.pl=13) {p:Int} {L:List Int} (hn:w.pend=p::L):∃ b,Sch.Act a i b/\IsA (doneW ((({w with pend:=L}:W).aL i true).az i {m with p:=p,sp:=true}) i {m with p:=p,sp:=true} false) s b:=by
 have ⟨f,hf,em⟩:=A_mc A hi hin hst htm;have A1:=((((A.I4 L).aL (i:=i) hi true).az (setf_at hf) {m with p:=p,sp:=true}).az (setf_at hf) {m with p:=p,sp:=true,tm:=m.tm+1,st:=3})
 rw [aput_put,aput_put] at A1;refine ⟨_,Sch.Act.stopPend (by rw [em];exact hp) (A.pend.trans hn),IsA.kG A1 ?_⟩;rw [em];simp [amOf,hin,thenM,rawA,hp]
theorem BK (hp:m.pl=13) (hsp:m.sp=false) (hn:w.pend=[]) (hq:w.q=-1):∃ b,Sch.Act a i b/\IsA (doneW ({(w.aL i true).az i {m with sp:=false} with q:=(i:Int)}:W) i {m with sp:=false} false) s b:=by have ⟨f,hf,em⟩:=A_mc A hi hin hst htm;have A1:=(((A.aL hi true).az (setf_at hf) {m with sp:=false}).QC (i:Int)).az (setf_at hf) {m with sp:=false,tm:=m.tm+1,st:=3};have A2:IsA (doneW ({(w.aL i true).az i {m with sp:=false} with q:=(i:Int)}:W) i {m with sp:=false} false) s ((({a with q:=(i:Int)}:St).put i (amOf m true w.P)).put i (amOf {m with sp:=false} true w.P) |>.put i (amOf {m with sp:=false,tm:=m.tm+1,st:=3} true w.P)):=A1;rw [aput_put,aput_put] at A2;refine ⟨_,Sch.Act.stopPoll (by rw [em];exact hp) (A.pend.trans hn) (A.q.trans hq),IsA.kG A2 ?_⟩;rw [em];simp [amOf,hin,thenM,rawA,hp,hsp]
theorem BN (hp:m.pl=13) (hsp:m.sp=false) (hn:w.pend=[]) (hq:w.q≠-1):∃ b,Sch.Act a i b/\IsA (doneW ({(w.aL i false).az i {m with sp:=false} with ms:=w.ms++[(i:Int)]}:W) i {m with sp:=false} false) s b:=by have ⟨f,hf,em⟩:=A_mc A hi hin hst htm;have A1:=(((A.aL hi false).az (setf_at hf) {m with sp:=false}).Rw (w.ms++[(i:Int)])).az (setf_at hf) {m with sp:=false,tm:=m.tm+1,st:=3};have A2:IsA (doneW ({(w.aL i false).az i {m with sp:=false} with ms:=w.ms++[(i:Int)]}:W) i {m with sp:=false} false) s ((({a with ms:=w.ms++[(i:Int)]}:St).put i (amOf m false w.P)).put i (amOf {m with sp:=false} false w.P) |>.put i (amOf {m with sp:=false,tm:=m.tm+1,st:=3} false w.P)):=A1;rw [aput_put,aput_put] at A2;refine ⟨_,Sch.Act.stopIdle (by rw [em];exact hp) (A.pend.trans hn) (by rw [A.q];exact hq),?_⟩;rw [A.ms];refine IsA.kG A2 ?_;rw [em];simp [amOf,hin,thenM,rawA,hp,hsp]
theorem yR (hp:m.pl=15) (hq:w.q=(i:Int)):∃ b,Sch.Act a i b/\IsA (doneW ({w.aL i true with q:=-1}:W) i m false) s b:=by have ⟨f,hf,em⟩:=A_mc A hi hin hst htm;have A1:=((A.aL hi true).QC (-1)).az (setf_at hf) {m with tm:=m.tm+1,st:=3};have A2:IsA (doneW ({w.aL i true with q:=-1}:W) i m false) s ((({a with q:=-1}:St).put i (amOf m true w.P)).put i (amOf {m with tm:=m.tm+1,st:=3} true w.P)):=A1;rw [aput_put] at A2;refine ⟨_,Sch.Act.unpollYes (by rw [em];exact hp) (A.q.trans hq),IsA.kG A2 ?_⟩;rw [em];simp [amOf,hin,thenM,rawA,hp,deliverM]
theorem BJ (hp:m.pl=15) (hq:w.q≠(i:Int)):∃ b,Sch.Act a i b/\IsA (doneW (w.aL i false) i m false) s b:=by have ⟨f,hf,em⟩:=A_mc A hi hin hst htm;have A1:=(A.aL hi false).az (setf_at hf) {m with tm:=m.tm+1,st:=3};rw [aput_put] at A1;refine ⟨_,Sch.Act.unpollNo (by rw [em];exact hp) (by rw [A.q];exact hq),IsA.kG A1 ?_⟩;rw [em];simp [amOf,hin,thenM,rawA,hp]
theorem JH (hp:m.pl=14):∃ b,Sch.Act a i b/\IsA (doneW (w.aL i (dueS s)) i m false) s b:=by have ⟨f,hf,em⟩:=A_mc A hi hin hst htm;have A1:=(A.aL hi (dueS s)).az (setf_at hf) {m with tm:=m.tm+1,st:=3};rw [aput_put] at A1;refine ⟨_,Sch.Act.check (by rw [em];exact hp),IsA.kG A1 ?_⟩;rw [em,A.due];cases hd:dueS s<;>simp [amOf,hin,thenM,rawA,hp]
theorem Gd (hp:m.pl=27):∃ b,Sch.Act a i b/\IsA (doneW (({w with gl:=w.gl++[m.got]}:W).az i {m with got:=-1}) i {m with got:=-1} false) s b:=by have ⟨f,hf,em⟩:=A_mc A hi hin hst htm;have A1:=((A.Bw (w.gl++[m.got])).az (i:=i) hf {m with got:=-1}).az hf {m with got:=-1,tm:=m.tm+1,st:=3};rw [aput_put] at A1;refine ⟨_,Sch.Act.putOne (by rw [em];exact hp),?_⟩;rw [em,A.gl];refine IsA.kG A1 ?_;simp [amOf,hin,thenM,rawA,hp]
theorem DQ (hp:m.pl=17) {k:Nat} (hk:m.p=k) (hr:w.rings[k]?=some r):∃ b,Sch.Act a i b/\IsA (doneW ((w.gG k {r with row:=r.row++m.rest}).az i {m with rest:=[]}) i {m with rest:=[]} false) s b:=by have ⟨f,hf,em⟩:=A_mc A hi hin hst htm;have A1:=((A.gG k {r with row:=r.row++m.rest}).az (i:=i) hf {m with rest:=[]}).az hf {m with rest:=[],tm:=m.tm+1,st:=3};rw [aput_put] at A1;refine ⟨_,Sch.Act.putRest (k:=k) (L:=ringL {r with row:=r.row++m.rest}) (by rw [em];exact hp) (by rw [em];exact hk) (by rw [em,A.ring k r hr];exact putAll_perm),IsA.kG A1 ?_⟩;rw [em];cases hsp:m.sp<;>simp [amOf,hin,thenM,settleM,rawA,hp,hsp]
theorem DR (hp:m.pl=28) (hsp:m.sp=false) {k:Nat} (hk:m.p=k) (hr:w.rings[k]?=some r):∃ b,Sch.Act a i b/\IsA (doneW ((w.gG k (r.ready m.got)).az i {m with rest:=[],got:=-1}) i {m with rest:=[],got:=-1} false) s b:=by have ⟨f,hf,em⟩:=A_mc A hi hin hst htm;have A1:=((A.gG k (r.ready m.got)).az (i:=i) hf {m with rest:=[],got:=-1}).az hf {m with rest:=[],got:=-1,tm:=m.tm+1,st:=3};rw [aput_put] at A1;refine ⟨_,Sch.Act.putNext (k:=k) (L:=ringL (r.ready m.got)) (by rw [em];exact hp) (by rw [em];exact hk) (by rw [em,A.ring k r hr];exact ready_perm),IsA.kG A1 ?_⟩;rw [em];simp [amOf,hin,thenM,settleM,rawA,hp,hsp]
theorem BV (hp:m.pl=23) (hn:w.ip=[]):∃ b,Sch.Act a i b/\IsA (doneW w i m true) s b:=by have ⟨f,hf,em⟩:=A_mc A hi hin hst htm;have A1:=A.az (i:=i) hf {m with tm:=m.tm+1,st:=m.st};refine ⟨_,Sch.Act.findNone (by rw [em];exact hp) (by rw [em];rfl) (A.ip.trans hn),IsA.kG A1 ?_⟩;rw [em];simp [amOf,rawA,hin,hst,htm,hp]
theorem BT (hp:m.pl=23) (hn:w.ip=p::L) (hms:w.ms=[]) (hq:w.q=-1) (htg:m.tg=-1):∃ b,Sch.Act a i b/\IsA (doneW {w with ip:=L,pend:=w.pend++[(p:Int)]} i m false) s b:=by have ⟨f,hf,em⟩:=A_mc A hi hin hst htm;have A1:=((A.I6 L).I4 (w.pend++[(p:Int)])).az (i:=i) hf {m with tm:=m.tm+1,st:=3};refine ⟨_,Sch.Act.findPend (by rw [em];exact hp) (by rw [em];rfl) (A.ip.trans hn) (A.ms.trans hms) (A.q.trans hq),?_⟩;rw [A.pend];refine IsA.kG A1 ?_;rw [em];simp [amOf,hin,thenM,rawA,hp,htg]
end
end
end
section
open Sch
variable {g:Int} {r:Rg} {s':dU} {l:List Int}
theorem wR {α:Type} {f:Nat->α} {k:Nat} {v:α} (h:f k=v):upd f k v=f:=by
 funext j;unfold upd;split
 . rename_i e;rw [e,h]
 . rfl
theorem P7 {m:Mc} {f:Bool} {P:Nat} {p:Int}:amOf {m with nx:=p} f P={amOf m f P with nx:=p}:=by
 have h:thenM {m with nx:=p} f P={thenM m f P with nx:=p}:=by
  have ⟨pl,p',g,nx,got,tg,ii,sp,inn,rest,bk,af,ar,ln,ls,st,tk,tm⟩:=m;simp [thenM];by_cases h1:pl=2\/pl=3\/pl=4\/pl=6\/pl=7
  . simp [if_pos h1,searchedM];cases f
    . simp [aF,if_false];by_cases c2:pl=2
      . simp [if_pos c2]
      by_cases c3:pl=3
      . simp [if_neg c2,if_pos c3]
      by_cases c7:pl=7
      . simp [if_neg c2,if_neg c3,if_pos c7]
      by_cases c6:pl=6
      . simp [if_neg c2,if_neg c3,if_neg c7,if_pos c6,stealM]
      cases sp<;>simp [if_neg c2,if_neg c3,if_neg c7,if_neg c6,stealM,aF,if_false,if_true]
    . simp [if_true,takeM]
  simp [if_neg h1];by_cases h2:pl=9
  . simp [if_pos h2]
  simp [if_neg h2];by_cases h3:pl=10
  . simp [if_pos h3]
  simp [if_neg h3];by_cases h4:pl=11
  . simp [if_pos h4]
  simp [if_neg h4];by_cases h5:pl=13
  . simp [if_pos h5]
  simp [if_neg h5];by_cases h6:pl=14
  . simp [if_pos h6]
  simp [if_neg h6];by_cases h7:pl=15
  . simp [if_pos h7];cases f<;>simp [deliverM,aF,if_false,if_true]
  simp [if_neg h7];by_cases h8:pl=17\/pl=18
  . simp [if_pos h8,settleM]
  simp [if_neg h8];by_cases h9:pl=28
  . simp [if_pos h9,settleM]
  simp [if_neg h9];by_cases h10:pl=27
  . simp [if_pos h10]
  simp [if_neg h10];by_cases h11:pl=23
  . simp [if_pos h11]
  simp [if_neg h11];by_cases h12:pl=25
  . simp [if_pos h12]
  simp [if_neg h12];by_cases h13:pl=29\/pl=30
  . simp [if_pos h13];by_cases hg:0<=g
    . simp [if_pos hg]
    . simp [if_neg hg];cases f<;>simp [deliverM,aF,if_false,if_true]
  simp [if_neg h13]
 unfold amOf;simp only;split
 . rw [h];rfl
 . rfl
section
variable {w w1:W} {s s1:dU} {a:St} {i k:Nat} {m m1:Mc} {f more:Bool}
variable (A:IsA w s a) (hi:w.all[i]?=some m) (hin:m.inn=true) (hst:m.st=2)
section
variable (htm:m.tm=0)
include A hi hin hst htm
theorem sim_oneNo (hp:m.pl=2) (hg:w.gl=[]):∃ b,Sch.Act a i b/\IsA (doneW (({w with gl:=[]}:W).aL i false) i m false) s b:=by
 have ⟨f,hf,em⟩:=A_mc A hi hin hst htm;have A1:=(((A.Bw []).aL (i:=i) hi false).az (setf_at hf) {m with tm:=m.tm+1,st:=3})
 rw [aput_put] at A1;rw [show ({a with gl:=[]}:St)=a by have:=A.gl.trans hg;cases a;simp only at this;subst this;rfl] at A1;refine ⟨_,Sch.Act.oneNo (by rw [em];exact hp) (A.gl.trans hg),IsA.kG A1 ?_⟩;rw [em];simp [amOf,hin,thenM,searchedM,rawA,hp]
theorem Ge (hp:m.pl=2) (hg:w.gl=g::l):∃ b,Sch.Act a i b/\IsA (doneW ((({w with gl:=l}:W).aL i true).az i {m with got:=g,rest:=[]}) i {m with got:=g,rest:=[]} false) s b:=by
 have ⟨f,hf,em⟩:=A_mc A hi hin hst htm;have A1:=((((A.Bw l).aL (i:=i) hi true).az (setf_at hf) {m with got:=g,rest:=[]}).az (setf_at hf) {m with got:=g,rest:=[],tm:=m.tm+1,st:=3})
 rw [aput_put,aput_put] at A1;refine ⟨_,Sch.Act.oneGot (by rw [em];exact hp) (A.gl.trans hg),IsA.kG A1 ?_⟩;rw [em];cases hsp:m.sp<;>simp [amOf,hin,thenM,searchedM,takeM,du,rawA,hp,hsp]
theorem sim_localNo (hp:m.pl=3) {k:Nat} (hk:m.p=k) (hr:w.rings[k]?=some r) (hg:r.get.2.2=false):∃ b,Sch.Act a i b/\IsA (doneW ((w.gG k r.get.1).aL i false) i m false) s b:=by
 have ⟨f,hf,em⟩:=A_mc A hi hin hst htm;have ⟨h1,h2⟩:=M5 hg;have A1:=(((A.gG k r.get.1).aL (i:=i) hi false).az (setf_at hf) {m with tm:=m.tm+1,st:=3})
 rw [aput_put] at A1;rw [wR (by rw [h2];exact A.ring k r hr)] at A1;refine ⟨_,Sch.Act.localNo (k:=k) (by rw [em];exact hp) (by rw [em];exact hk) ((A.ring k r hr).trans h1),IsA.kG (b:=a) A1 ?_⟩;rw [em];simp [amOf,hin,thenM,searchedM,rawA,hp]
theorem BR (hp:m.pl=3) {k:Nat} (hk:m.p=k) (hr:w.rings[k]?=some r) (hg:r.get.2.2=true):∃ b,Sch.Act a i b/\IsA (doneW (((w.gG k r.get.1).aL i true).az i {m with got:=r.get.2.1,rest:=[]}) i {m with got:=r.get.2.1,rest:=[]} false) s b:=by
 have ⟨f,hf,em⟩:=A_mc A hi hin hst htm;have A1:=((((A.gG k r.get.1).aL (i:=i) hi true).az (setf_at hf) {m with got:=r.get.2.1,rest:=[]}).az (setf_at hf) {m with got:=r.get.2.1,rest:=[],tm:=m.tm+1,st:=3})
 rw [aput_put,aput_put] at A1;refine ⟨_,Sch.Act.localGot (k:=k) (by rw [em];exact hp) (by rw [em];exact hk) (by rw [A.ring k r hr];exact M4 hg),IsA.kG A1 ?_⟩;rw [em];cases hsp:m.sp<;>simp [amOf,hin,thenM,searchedM,takeM,du,rawA,hp,hsp]
theorem BS (hp:m.pl=4) (hg:w.gl=[]):∃ b,Sch.Act a i b/\IsA (doneW (({w with gl:=[]}:W).aL i false) i m false) s b:=by
 have ⟨f,hf,em⟩:=A_mc A hi hin hst htm;have A1:=(((A.Bw []).aL (i:=i) hi false).az (setf_at hf) {m with tm:=m.tm+1,st:=3})
 rw [aput_put] at A1;rw [show ({a with gl:=[]}:St)=a by have:=A.gl.trans hg;cases a;simp only at this;subst this;rfl] at A1;refine ⟨_,Sch.Act.globalNo (by rw [em];exact hp) (A.gl.trans hg),IsA.kG A1 ?_⟩;rw [em,A.P];cases hsp:m.sp<;>simp [amOf,hin,thenM,searchedM,stealM,stealA,rawA,hp,hsp]<;>rfl
theorem yT (hp:m.pl=4) {r:List Int} (hg:w.gl=g::(r++l)):∃ b,Sch.Act a i b/\IsA (doneW ((({w with gl:=l}:W).aL i true).az i {m with got:=g,rest:=r}) i {m with got:=g,rest:=r} false) s b:=by
 have ⟨f,hf,em⟩:=A_mc A hi hin hst htm;have A1:=((((A.Bw l).aL (i:=i) hi true).az (setf_at hf) {m with got:=g,rest:=r}).az (setf_at hf) {m with got:=g,rest:=r,tm:=m.tm+1,st:=3})
 rw [aput_put,aput_put] at A1;refine ⟨_,Sch.Act.globalGot (by rw [em];exact hp) (A.gl.trans hg),IsA.kG A1 ?_⟩;rw [em];cases hr:r<;>cases hsp:m.sp<;>simp [amOf,hin,thenM,searchedM,takeM,du,rawA,hp,hsp]
theorem sim_stealNo (hp:m.pl=6) {k:Nat} (hk:((m.p+m.ii) % (w.P:Int)).toNat=k) (hr:w.rings[k]?=some r) (hg:r.fp.2=[]):∃ b,Sch.Act a i b/\IsA (doneW ((w.gG k r.fp.1).aL i false) i m false) s b:=by
 have ⟨f,hf,em⟩:=A_mc A hi hin hst htm;have ⟨h1,h2⟩:=FW hg;have A1:=(((A.gG k r.fp.1).aL (i:=i) hi false).az (setf_at hf) {m with tm:=m.tm+1,st:=3})
 rw [aput_put] at A1;rw [wR (by rw [h2,<- h1];exact A.ring k r hr)] at A1;refine ⟨_,Sch.Act.stealNo (by rw [em];exact hp) (by rw [em,A.P];show a.ring (((m.p+m.ii) % (w.P:Int)).toNat)=[];rw [hk];exact (A.ring k r hr).trans h1),IsA.kG (b:=a) A1 ?_⟩;rw [em,A.P];simp [amOf,hin,thenM,searchedM,stealM,stealA,rawA,hp];rfl
theorem BO (hp:m.pl=6) {k:Nat} (hk:((m.p+m.ii) % (w.P:Int)).toNat=k) (hr:w.rings[k]?=some r) (hg:r.fp.2=g::l):∃ b,Sch.Act a i b/\IsA (doneW (((w.gG k r.fp.1).aL i true).az i {m with got:=g,rest:=l}) i {m with got:=g,rest:=l} false) s b:=by
 have ⟨f,hf,em⟩:=A_mc A hi hin hst htm;have A1:=((((A.gG k r.fp.1).aL (i:=i) hi true).az (setf_at hf) {m with got:=g,rest:=l}).az (setf_at hf) {m with got:=g,rest:=l,tm:=m.tm+1,st:=3})
 rw [aput_put,aput_put] at A1;refine ⟨_,Sch.Act.stealGot (k:=k) (g:=g) (r:=l) (L:=ringL r.fp.1) (by rw [em];exact hp) (by have:=(aa.1 hr).1;rw [A.lR] at this;rw [A.P];exact this) (by rw [em,A.P];exact hk) (by rw [A.ring k r hr];have:=FV (r:=r);rw [hg] at this;exact this),IsA.kG A1 ?_⟩;rw [em];cases hr:l<;>cases hsp:m.sp<;>simp [amOf,hin,thenM,searchedM,takeM,du,rawA,hp,hsp]
theorem w9 (hp:m.pl=7) {r:List Int} (hg:w.gl=g::(r++l)):∃ b,Sch.Act a i b/\IsA (doneW ((({w with gl:=l}:W).aL i true).az i {m with got:=g,rest:=r}) i {m with got:=g,rest:=r} false) s b:=by
 have ⟨f,hf,em⟩:=A_mc A hi hin hst htm;have A1:=((((A.Bw l).aL (i:=i) hi true).az (setf_at hf) {m with got:=g,rest:=r}).az (setf_at hf) {m with got:=g,rest:=r,tm:=m.tm+1,st:=3})
 rw [aput_put,aput_put] at A1;refine ⟨_,Sch.Act.releaseGot (by rw [em];exact hp) (A.gl.trans hg),IsA.kG A1 ?_⟩;rw [em];cases hr:r<;>cases hsp:m.sp<;>simp [amOf,hin,thenM,searchedM,takeM,du,rawA,hp,hsp]
theorem sim_releaseNo (hp:m.pl=7) (hg:w.gl=[]) {k:Nat} (hk:m.p=k) (hmd:∀ j,j<a.M->(a.mc j).pl=23->(a.mc j).md=0):∃ b,Sch.Act a i b/\IsA (doneW (({w.aL i false with ip:=insP k w.ip}:W).az i {m with p:=-1}) i {m with p:=-1} false) s b:=by
 have ⟨f,hf,em⟩:=A_mc A hi hin hst htm;have A1:=((((A.aL hi false).I6 (insP k w.ip)).az (i:=i) (setf_at hf) {m with p:=-1}).az (setf_at hf) {m with p:=-1,tm:=m.tm+1,st:=3})
 have A2:IsA (doneW (({w.aL i false with ip:=insP k w.ip}:W).az i {m with p:=-1}) i {m with p:=-1} false) s ((({a with ip:=insP k w.ip}:St).put i (amOf m false w.P)).put i (amOf {m with p:=-1} false w.P) |>.put i (amOf {m with p:=-1,tm:=m.tm+1,st:=3} false w.P)):=A1;rw [aput_put,aput_put] at A2;refine ⟨_,Sch.Act.releaseNo (by rw [em];exact hp) (A.gl.trans hg) (ip':=insP k w.ip) (fun x=>?_) hmd,IsA.kG A2 ?_⟩
 . rw [yv,A.ip,em];show _=_+if (x:Int)=m.p then 1 else 0;rw [hk];by_cases h:x=k
   . rw [if_pos h,pQ]
   . rw [if_neg h,nQ]
 rw [em];simp [amOf,hin,thenM,searchedM,rawA,hp]
theorem JF (hp:m.pl=23) {p k:Nat} {L:List Nat} {w2:W} {mk:Mc} (hn:w.ip=p::L) (hk:kH {w with ip:=L}=some (k,w2)) (hmk:w.all[k]?=some mk) (hki:k≠i):∃ b,Sch.Act a i b/\IsA (doneW ((w2.az k {mk with nx:=(p:Int)}).az i {m with tg:=(k:Int)}) i {m with tg:=(k:Int)} false) s b:=by
 have ⟨f,hf,em⟩:=A_mc A hi hin hst htm;have ⟨fk,hfk⟩:=A.pP hmk;have key:∃ (ms':List Int) (q':Int),w2={w with ip:=L,ms:=ms',q:=q'}/\(w.ms=ms'++[(k:Int)]/\q'=w.q\/w.ms=[]/\ms'=[]/\w.q=(k:Int)/\q'=-1):=by
  unfold kH at hk;split at hk
  . rename_i z hz;split at hk
    . rename_i h0;cases hk;have hz:w.ms.getLast?=some z:=hz;exact ⟨w.ms.dropLast,w.q,rfl,.inl ⟨by rw [aH h0];exact (sy hz).symm,rfl⟩⟩
    . cases hk
  . rename_i hz;have hz:w.ms=[]:=by simpa using hz
    split at hk
    . rename_i h0;cases hk;have h0:0<=w.q:=h0;refine ⟨[],-1,?_,.inr ⟨hz,rfl,(aH h0).symm,rfl⟩⟩;cases w;simp only at hz;subst hz;rfl
    . cases hk
 obtain ⟨ms',q',rfl,hq⟩:=key;have A1:=((((((A.I6 L).Rw ms').QC q').az (i:=k) hfk {mk with nx:=(p:Int)}).az (i:=i) hf {m with tg:=(k:Int)}).az hf {m with tg:=(k:Int),tm:=m.tm+1,st:=3})
 rw [aput_put] at A1;refine ⟨_,Sch.Act.findM (p:=p) (k:=k) (L:=L) (ms':=ms') (q':=q') (by rw [em];exact hp) (by rw [em];rfl) (A.ip.trans hn) (A.yO hmk) (by rw [A.ms,A.q];exact hq),?_⟩;rw [A.mc k mk fk hmk hfk];have e1:amOf {mk with nx:=(p:Int)} fk w.P={amOf mk fk w.P with nx:=(p:Int)}:=P7;have A2:IsA (doneW ((({w with ip:=L,ms:=ms',q:=q'}:W).az k {mk with nx:=(p:Int)}).az i {m with tg:=(k:Int)}) i {m with tg:=(k:Int)} false) s (({a with ip:=L,ms:=ms',q:=q',mc:=upd a.mc k (amOf {mk with nx:=(p:Int)} fk w.P)}:St).put i (amOf {m with tg:=(k:Int),tm:=m.tm+1,st:=3} f w.P)):=A1;rw [e1] at A2;refine IsA.kG A2 ?_;rw [em];simp [amOf,hin,thenM,rawA,hp]
theorem sim_delivNo (hp:m.pl=25) (hd:dueS s=false):∃ b,Sch.Act a i b/\IsA (doneW (w.aL i false) i m false) s b:=by have ⟨f,hf,em⟩:=A_mc A hi hin hst htm;have A1:=(A.aL hi false).az (setf_at hf) {m with tm:=m.tm+1,st:=3};rw [aput_put] at A1;refine ⟨_,Sch.Act.delivNo (by rw [em];exact hp) (A.due.trans hd),IsA.kG A1 ?_⟩;rw [em];simp [amOf,hin,thenM,rawA,hp]
theorem BX (hp:m.pl=25) (hd:dueS s=true) (hc:∀ x,(outS s).count x=(outS s').count x+if x=g then 1 else 0) (ho:dueS s'=true->outS s'≠[]) (hmd:∀ j,j<a.M->(a.mc j).pl=29\/(a.mc j).pl=30->(a.mc j).md=0):∃ b,Sch.Act a i b/\IsA (doneW ((w.aL i true).az i {m with got:=g,rest:=[]}) i {m with got:=g,rest:=[]} false) s' b:=by
 have ⟨f,hf,em⟩:=A_mc A hi hin hst htm;have A1:=((((A.yL s').aL (i:=i) hi true).az (setf_at hf) {m with got:=g,rest:=[]}).az (setf_at hf) {m with got:=g,rest:=[],tm:=m.tm+1,st:=3})
 rw [aput_put,aput_put] at A1;have A2:IsA (doneW ((w.aL i true).az i {m with got:=g,rest:=[]}) i {m with got:=g,rest:=[]} false) s' (({a with out:=outS s',due:=dueS s'}:St).put i (amOf {m with got:=g,rest:=[],tm:=m.tm+1,st:=3} true w.P)):=A1;refine ⟨_,Sch.Act.delivGot (g:=g) (o':=outS s') (d':=dueS s') (by rw [em];exact hp) (A.due.trans hd) (by rw [A.out];exact hc) ho hmd,IsA.kG A2 ?_⟩;rw [em];simp [amOf,hin,thenM,rawA,hp]
theorem JD (hp:m.pl=29) {z:Int} (hc:∀ x,(outS s').count x=(outS s).count x+if x=m.g then 1 else 0) (hd:dueS s=true->dueS s'=true):∃ b,Sch.Act a i b/\IsA (doneW ((w.aL i (dueS s')).az i {m with ar:=z}) i {m with ar:=z} true) s' b:=by
 have ⟨f,hf,em⟩:=A_mc A hi hin hst htm;have A1:=((((A.yL s').aL (i:=i) hi (dueS s')).az (setf_at hf) {m with ar:=z}).az (setf_at hf) {m with ar:=z,tm:=m.tm+1,st:=m.st})
 rw [aput_put,aput_put] at A1;have A2:IsA (doneW ((w.aL i (dueS s')).az i {m with ar:=z}) i {m with ar:=z} true) s' (({a with out:=outS s',due:=dueS s'}:St).put i (amOf {m with ar:=z,tm:=m.tm+1,st:=m.st} (dueS s') w.P)):=A1;refine ⟨_,Sch.Act.out1 (o':=outS s') (d':=dueS s') (by rw [em];exact .inl hp) (by rw [em];rfl) (by rw [A.out,em];exact hc) (by rw [A.due];exact hd),IsA.kG A2 ?_⟩;rw [em];simp [amOf,hin,hst,htm,rawA,hp]
theorem Gg (hp:m.pl=30) (hc:∀ x,(outS s').count x=(outS s).count x+if x=m.g then 1 else 0) (hd:dueS s=true->dueS s'=true):∃ b,Sch.Act a i b/\IsA (doneW (w.aL i (dueS s')) i m true) s' b:=by
 have ⟨f,hf,em⟩:=A_mc A hi hin hst htm;have A1:=(((A.yL s').aL (i:=i) hi (dueS s')).az (setf_at hf) {m with tm:=m.tm+1,st:=m.st})
 rw [aput_put] at A1;have A2:IsA (doneW (w.aL i (dueS s')) i m true) s' (({a with out:=outS s',due:=dueS s'}:St).put i (amOf {m with tm:=m.tm+1,st:=m.st} (dueS s') w.P)):=A1;refine ⟨_,Sch.Act.out1 (o':=outS s') (d':=dueS s') (by rw [em];exact .inr hp) (by rw [em];rfl) (by rw [A.out,em];exact hc) (by rw [A.due];exact hd),IsA.kG A2 ?_⟩;rw [em];simp [amOf,hin,hst,htm,rawA,hp]
theorem DS (hp:m.pl=30) (hg:0<=m.g):∃ b,Sch.Act a i b/\IsA (doneW (w.aL i false) i m false) s b:=by have ⟨f,hf,em⟩:=A_mc A hi hin hst htm;have A1:=(A.aL hi false).az (setf_at hf) {m with tm:=m.tm+1,st:=3};rw [aput_put] at A1;refine ⟨_,Sch.Act.awaitNo (by rw [em];exact hp) (by rw [em];rfl),IsA.kG A1 ?_⟩;rw [em];simp [amOf,hin,thenM,rawA,hp,hg]
end
section
variable (htm:0<m.tm)
include A hi hin hst htm
theorem Fy:∃ f,w.flag[i]?=some f/\a.mc i=rawA m (if m.pl≠23/\f=true then 2 else 1):=by have ⟨f,hf⟩:=A.pP hi;refine ⟨f,hf,?_⟩;rw [A.mc i m f hi hf];unfold amOf;rw [nQ,if_pos ⟨hin,hst,htm⟩]
theorem BU (hp:m.pl=23) (htg:m.tg=-1) (hsp:inc (wd w.ws w.sp) (-1)=a.spin-1):∃ b,Sch.Act a i b/\IsA (doneW (w.cR w.sp (inc (wd w.ws w.sp) (-1))) i m false) s b:=by have ⟨f,hf,em⟩:=Fy A hi hin hst htm;have A1:=(A.Bv (inc (wd w.ws w.sp) (-1))).az (i:=i) hf {m with tm:=m.tm+1,st:=3};refine ⟨_,Sch.Act.findOver (by rw [em];exact hp) (by rw [em];show (if m.pl≠23/\f=true then 2 else 1)≠(0:Int);split<;>omega),?_⟩;rw [<- hsp];refine IsA.kG A1 ?_;rw [em];simp [amOf,hin,thenM,rawA,hp,htg]
theorem LY (hp:m.pl=29\/m.pl=30) (hg:0<=m.g/\m.g<w.G):∃ b,Sch.Act a i b/\IsA (doneW (({w with ws:=w.ws.set (w.tb+m.g.toNat) (if m.pl=29 then 4 else 5)}:W).cd.az i {m with g:=-1}) i {m with g:=-1} false) s b:=by
 have ⟨f,hf,em⟩:=Fy A hi hin hst htm;have A1:=((((A.Bu (g:=m.g.toNat) (by omega) (if m.pl=29 then 4 else 5)).cd).az (i:=i) hf {m with g:=-1}).az hf {m with g:=-1,tm:=m.tm+1,st:=3})
 rw [aput_put] at A1;refine ⟨_,Sch.Act.out2 (g:=m.g.toNat) (by rw [em];exact hp) (by rw [em];show (if m.pl≠23/\f=true then 2 else 1)≠(0:Int);split<;>omega) (by rw [em];show m.g=_;omega),?_⟩;rw [em];refine IsA.kG (b:={a with stt:=upd a.stt m.g.toNat (if m.pl=29 then 4 else 5)}) A1 ?_;rcases hp with hp | hp<;>cases f<;>simp [amOf,hin,thenM,rawA,hp,deliverM]
end
end
end
section
open Sch
section
variable {w w1:W} {s s1:dU} {a:St} {i k:Nat} {m m1:Mc} {f more:Bool}
theorem Q3 {P:Nat} (hin:m.inn=false):amOf m f P=rawA m 0:=by unfold amOf;rw [if_neg (by simp [hin]),if_neg (by simp [hin])]
section
variable (A:IsA w s a) (hi:w.all[i]?=some m) (hin:m.inn=false)
include A hi hin
theorem A_out:∃ f,w.flag[i]?=some f/\a.mc i=rawA m 0:=by have ⟨f,hf⟩:=A.pP hi;exact ⟨f,hf,by rw [A.mc i m f hi hf,Q3 hin]⟩
theorem JC (hp:m.pl=1) {k:Nat} {z:Int} {b:Bool} (hz:w.turns[k]?=some z):∃ x,Sch.Act a i x/\IsA (({w with turns:=w.turns.set k (z+1)}:W).az i (if (z+1) % 61=0 then deliverM {m with pl:=3} 2 else {m with pl:=3})) s x:=by
 have ⟨f,hf,em⟩:=A_out A hi hin;have A1:=(A.Of (w.turns.set k (z+1)) (by simp)).az (i:=i) hf (if (z+1) % 61=0 then deliverM {m with pl:=3} 2 else {m with pl:=3});by_cases h61:(z+1) % 61=0
 . refine ⟨_,Sch.Act.schedD (by rw [em];exact hp),IsA.kG A1 ?_⟩;rw [em];simp [amOf,hin,rawA,hp,h61,deliverM]
 . refine ⟨_,Sch.Act.sched (by rw [em];exact hp),IsA.kG A1 ?_⟩;rw [em];simp [amOf,hin,rawA,hp,h61]
theorem Gc (hp:m.pl=5) (hsp:inc (wd w.ws w.sp) 1=a.spin+1):∃ x,Sch.Act a i x/\IsA ((w.cR w.sp (inc (wd w.ws w.sp) 1)).az i (stealM {m with sp:=true} 1 w.P)) s x:=by have ⟨f,hf,em⟩:=A_out A hi hin;have A1:=(A.Bv (inc (wd w.ws w.sp) 1)).az (i:=i) hf (stealM {m with sp:=true} 1 w.P);refine ⟨_,Sch.Act.spinUp (by rw [em];exact hp),?_⟩;rw [<- hsp];refine IsA.kG A1 ?_;rw [em,A.P];simp [amOf,hin,rawA,hp,stealM,stealA]
theorem BP (hp:m.pl=12) (hsp:inc (wd w.ws w.sp) 1=a.spin+1):∃ x,Sch.Act a i x/\IsA ((w.cR w.sp (inc (wd w.ws w.sp) 1)).az i {m with sp:=true,pl:=4}) s x:=by have ⟨f,hf,em⟩:=A_out A hi hin;have A1:=(A.Bv (inc (wd w.ws w.sp) 1)).az (i:=i) hf {m with sp:=true,pl:=4};refine ⟨_,Sch.Act.spinBack (by rw [em];exact hp),?_⟩;rw [<- hsp];refine IsA.kG A1 ?_;rw [em];simp [amOf,hin,rawA,hp]
theorem L7 (hp:m.pl=8) (hsp:inc (wd w.ws w.sp) (-1)=a.spin-1):∃ x,Sch.Act a i x/\IsA ((w.cR w.sp (inc (wd w.ws w.sp) (-1))).az i {m with sp:=false,ii:=0,pl:=9}) s x:=by have ⟨f,hf,em⟩:=A_out A hi hin;have A1:=(A.Bv (inc (wd w.ws w.sp) (-1))).az (i:=i) hf {m with sp:=false,ii:=0,pl:=9};refine ⟨_,Sch.Act.drop (by rw [em];exact hp),?_⟩;rw [<- hsp];refine IsA.kG A1 ?_;rw [em];simp [amOf,hin,rawA,hp]
theorem Gb (hp:m.pl=19) (hsp:inc (wd w.ws w.sp) (-1)=a.spin-1):∃ x,Sch.Act a i x/\IsA ((w.cR w.sp (inc (wd w.ws w.sp) (-1))).az i {m with sp:=false,pl:=21}) s x:=by have ⟨f,hf,em⟩:=A_out A hi hin;have A1:=(A.Bv (inc (wd w.ws w.sp) (-1))).az (i:=i) hf {m with sp:=false,pl:=21};refine ⟨_,Sch.Act.unspin (by rw [em];exact hp),?_⟩;rw [<- hsp];refine IsA.kG A1 ?_;rw [em];simp [amOf,hin,rawA,hp]
theorem BW (hp:m.pl=20) (hg:0<=m.got/\m.got<w.G):∃ x,Sch.Act a i x/\IsA (({w with ws:=w.ws.set (w.tb+m.got.toNat) 2}:W).cd.az i {m with g:=m.got,got:=-1,pl:=0}) s x:=by have ⟨f,hf,em⟩:=A_out A hi hin;have A1:=((A.Bu (g:=m.got.toNat) (by omega) 2).cd).az (i:=i) hf {m with g:=m.got,got:=-1,pl:=0};refine ⟨_,Sch.Act.dispatch (g:=m.got.toNat) (by rw [em];exact hp) (by rw [em];show m.got=_;omega),IsA.kG A1 ?_⟩;rw [em];simp [amOf,hin,rawA,hp]
theorem L0 (hp:m.pl=21):∃ x,Sch.Act a i x/\IsA (w.az i {m with pl:=if wd w.ws w.sp=0 then 22 else m.bk}) s x:=by have ⟨f,hf,em⟩:=A_out A hi hin;have A1:=A.az (i:=i) hf {m with pl:=if wd w.ws w.sp=0 then 22 else m.bk};refine ⟨_,Sch.Act.load (by rw [em];exact hp),IsA.kG A1 ?_⟩;rw [em,A.spin];simp [amOf,hin,rawA]
theorem JG (hp:m.pl=22):∃ x,Sch.Act a i x/\IsA (({w with ws:=if wd w.ws w.sp=0 then w.ws.set w.sp 1 else w.ws}:W).az i {m with pl:=if wd w.ws w.sp=0 then 23 else m.bk}) s x:=by
 have ⟨f,hf,em⟩:=A_out A hi hin;by_cases h0:wd w.ws w.sp=0
 . have A1:=(A.Bv 1).az (i:=i) hf {m with pl:=23};rw [if_pos h0,if_pos h0];refine ⟨_,Sch.Act.claimYes (by rw [em];exact hp) (A.spin.trans h0),IsA.kG A1 ?_⟩;rw [em];simp [amOf,hin,rawA]
 . have A1:=A.az (i:=i) hf {m with pl:=m.bk};rw [if_neg h0,if_neg h0];refine ⟨_,Sch.Act.claimNo (by rw [em];exact hp) (by rw [A.spin];exact h0),IsA.kG A1 ?_⟩;rw [em];simp [amOf,hin,rawA]
theorem LX (hp:m.pl=24) {k:Nat} (hk:m.tg=k) (hkM:k<w.M) (hn:wd w.ws (w.nt+k)=0):∃ x,Sch.Act a i x/\IsA (({w with ws:=if wd w.ws (w.nt+k)=0 then w.ws.set (w.nt+k) 1 else w.ws}:W).az i {m with tg:=-1,pl:=m.bk}) s x:=by have ⟨f,hf,em⟩:=A_out A hi hin;rw [if_pos hn];have A1:=(A.I5 hkM 1).az (i:=i) hf {m with tg:=-1,pl:=m.bk};refine ⟨_,Sch.Act.wake (k:=k) (by rw [em];exact hp) (by rw [em];exact hk),IsA.kG A1 ?_⟩;rw [em];simp [amOf,hin,rawA]
theorem sim_mark (hp:m.pl=26) (hg:0<=m.got/\m.got<w.G):∃ x,Sch.Act a i x/\IsA (({w with ws:=w.ws.set (w.tb+m.got.toNat) 1}:W).cd.az i {m with bk:=25,pl:=27}) s x:=by have ⟨f,hf,em⟩:=A_out A hi hin;have A1:=((A.Bu (g:=m.got.toNat) (by omega) 1).cd).az (i:=i) hf {m with bk:=25,pl:=27};refine ⟨_,Sch.Act.mark (g:=m.got.toNat) (by rw [em];exact hp) (by rw [em];show m.got=_;omega),IsA.kG A1 ?_⟩;rw [em];simp [amOf,hin,rawA]
theorem JB (hp:m.pl=16) (hn:wd w.ws (w.nt+i)=1):∃ x,Sch.Act a i x/\IsA ((w.cR (w.nt+i) 0).az i (if 0<=m.nx then {m with p:=m.nx,nx:=-1,sp:=true,pl:=4} else deliverM m 13)) s x:=by
 have ⟨f,hf,em⟩:=A_out A hi hin;have hn':a.note i=1:=(A.note i (A.lt hi)).trans hn;by_cases h0:0<=m.nx
 . rw [if_pos h0];have A1:=(A.I5 (A.lt hi) 0).az (i:=i) hf {m with p:=m.nx,nx:=-1,sp:=true,pl:=4};refine ⟨_,Sch.Act.wokenNext (by rw [em];exact hp) hn' (by rw [em];exact h0),IsA.kG A1 ?_⟩;rw [em];simp [amOf,hin,rawA]
 . rw [if_neg h0];have A1:=(A.I5 (A.lt hi) 0).az (i:=i) hf (deliverM m 13);refine ⟨_,Sch.Act.wokenTold (by rw [em];exact hp) hn' (by rw [em];show m.nx<0;omega),IsA.kG A1 ?_⟩;rw [em];simp [amOf,hin,rawA,deliverM]
theorem JA (hp:m.pl=0) (hg:0<=m.g/\m.g<w.G):∃ x,Sch.Deed a i x/\IsA ((({w with ws:=w.ws.set (w.tb+m.g.toNat) 1}:W).cd.az i {m with got:=-1,g:=-1,pl:=1}).az i {m with got:=m.g,g:=-1,bk:=1,pl:=27}) s x:=by have ⟨f,hf,em⟩:=A_out A hi hin;have A1:=(((A.Bu (g:=m.g.toNat) (by omega) 1).cd).az (i:=i) hf {m with got:=-1,g:=-1,pl:=1}).az hf {m with got:=m.g,g:=-1,bk:=1,pl:=27};rw [aput_put] at A1;refine ⟨_,Sch.Deed.yield (g:=m.g.toNat) (by rw [em];exact hp) (by rw [em];show m.g=_;omega),IsA.kG A1 ?_⟩;rw [em];simp [amOf,hin,rawA]
theorem sim_leave (hp:m.pl=0) (hg:0<=m.g/\m.g<w.G) {to:Int} (ht:to=3\/to=6):∃ x,Sch.Deed a i x/\IsA (({w with ws:=w.ws.set (w.tb+m.g.toNat) to}:W).cd.az i {m with got:=-1,g:=-1,pl:=1}) s x:=by have ⟨f,hf,em⟩:=A_out A hi hin;have A1:=((A.Bu (g:=m.g.toNat) (by omega) to).cd).az (i:=i) hf {m with got:=-1,g:=-1,pl:=1};refine ⟨_,Sch.Deed.leave (g:=m.g.toNat) (s:=to) (by rw [em];exact hp) (by rw [em];show m.g=_;omega) ht,IsA.kG A1 ?_⟩;rw [em];simp [amOf,hin,rawA]
theorem sim_rouse (hp:m.pl=0) {g fr:Int} (hg:0<=g/\g<w.G) (hfr:fr=0\/fr=3) (hs:wd w.ws (w.tb+g.toNat)=fr):∃ x,Sch.Deed a i x/\IsA (({w with ws:=w.ws.set (w.tb+g.toNat) 1}:W).cd.az i {m with got:=g,pl:=28}) s x:=by have ⟨f,hf,em⟩:=A_out A hi hin;have A1:=((A.Bu (g:=g.toNat) (by omega) 1).cd).az (i:=i) hf {m with got:=g,pl:=28};refine ⟨_,Sch.Deed.rouse (g:=g.toNat) (by rw [em];exact hp) (by rw [A.G];omega) (by rw [A.stt _ (by omega),hs];exact hfr),IsA.kG A1 ?_⟩;rw [em];simp [amOf,hin,rawA];omega
theorem sim_sleep (hp:m.pl=0) (d:Int):∃ x,Sch.Deed a i x/\IsA (w.az i {m with ar:=d,pl:=29}) s x:=by have ⟨f,hf,em⟩:=A_out A hi hin;have A1:=A.az (i:=i) hf {m with ar:=d,pl:=29};refine ⟨_,Sch.Deed.sleep (by rw [em];exact hp),IsA.kG A1 ?_⟩;rw [em];simp [amOf,hin,rawA]
theorem sim_wait (hp:m.pl=0) (d:Int):∃ x,Sch.Deed a i x/\IsA (w.az i {m with ar:=d,pl:=30}) s x:=by have ⟨f,hf,em⟩:=A_out A hi hin;have A1:=A.az (i:=i) hf {m with ar:=d,pl:=30};refine ⟨_,Sch.Deed.wait (by rw [em];exact hp),IsA.kG A1 ?_⟩;rw [em];simp [amOf,hin,rawA]
end
theorem DP (A:IsA w s a) {s':dU} (ho:outS s'=outS s) (hdo:dueS s'=true->outS s'≠[]) (hq:-1<=w.q/\w.q<w.M) (hn:∀ k:Nat,w.q=(k:Int)->wd w.ws (w.nt+k)=0):∃ x,Sch.T0 a x/\IsA (tellW w (dueS s')) s' x:=by
 have eo:({a with due:=dueS s',out:=outS s'}:St)={a with due:=dueS s'}:=by rw [ho,<- A.out]
 by_cases hc:dueS s'=true/\w.q≠-1
 . obtain ⟨k,hk⟩:∃ k:Nat,w.q=(k:Int):=⟨w.q.toNat,by omega⟩
   have hkM:k<w.M:=by omega
   have h0:=hn k hk;have A1:=((A.yL s').QC (-1)).I5 (k:=k) hkM 1;refine ⟨_,Sch.T0.tell (k:=k) (by rw [A.out,<- ho];exact hdo hc.1) (A.q.trans hk),?_⟩;unfold tellW;rw [if_pos hc,hk];simp [aC];rw [if_pos h0];have A2:IsA {w with q:=-1,ws:=w.ws.set (w.nt+k) 1} s' {a with due:=dueS s',out:=outS s',q:=-1,note:=upd a.note k 1}:=A1;rw [show ({a with due:=true,q:=-1,note:=upd a.note k 1}:St)={a with due:=dueS s',out:=outS s',q:=-1,note:=upd a.note k 1} by rw [ho,<- A.out,hc.1]];exact A2
 . have e:tellW w (dueS s')=w:=by unfold tellW;rw [if_neg hc]
   rw [e];refine ⟨_,Sch.T0.still (d':=dueS s') (by rw [A.out,<- ho];exact hdo) (fun h=>by rw [A.q];by_cases h1:w.q=-1;exact h1;exact absurd ⟨h,h1⟩ hc),?_⟩;rw [<- eo];exact A.yL s'
end
end
section
open Sch
structure oD (w:W) (N:Int):Prop where
 words:∀ l:Nat,l<=w.P+1->0<=srv w l/\srv w l<=nxt w l/\nxt w l<=N
 inn:∀ (i:Nat) m,w.all[i]?=some m->m.inn=true->aav w m
 apart:∀ (i j:Nat) m m',w.all[i]?=some m->w.all[j]?=some m'->m.inn=true->m'.inn=true->lockOf m w.P=lockOf m' w.P->m.tk=m'.tk->i=j
 held:∀ l:Nat,l<=w.P+1->∀ t,srv w l<=t->t<nxt w l->∃ (i:Nat) (m:Mc),w.all[i]?=some m/\m.inn=true/\lockOf m w.P=(l:Int)/\m.tk=t
structure Ro (P:Nat) (m m':Mc):Prop where
 inn:m'.inn=m.inn
 lk:m.inn=true->lockOf m' P=lockOf m P/\m'.ln=m.ln/\m'.ls=m.ls/\m'.tk=m.tk/\m'.pl=m.pl/\m'.ii=m.ii/\((m'.st=m.st/\m'.tm=m.tm)\/(m.st=2/\m'.st=3)\/(m.st=2/\m'.st=2/\m'.tm=1/\(m.pl=23\/m.pl=29\/m.pl=30)))
section
variable {w w':W} {N:Int} {i:Nat} {m m':Mc}
theorem oD.same (L:oD w N) (hP:w'.P=w.P) (hw:∀ k,k<2*w.P+4->wd w'.ws k=wd w.ws k) (hl:w'.all.length=w.all.length) (hall:∀ (j:Nat) m',w'.all[j]?=some m'->∃ m,w.all[j]?=some m/\Ro w.P m m'):oD w' N:=by
 have hs:∀ l:Nat,l<=w.P+1->srv w' l=srv w l/\nxt w' l=nxt w l:=fun l h=>⟨hw _ (by omega),hw _ (by omega)⟩
 refine ⟨fun l h=>?_,fun j m' hj hin=>?_,fun i j x y hx hy ix iy hlk htk=>?_,fun l h t h1 h2=>?_⟩
 . rw [hP] at h;rw [(hs l h).1,(hs l h).2];exact L.words l h
 . have ⟨m,hm,e⟩:=hall j m' hj;have hmi:m.inn=true:=by rw [<- e.inn];exact hin
   have o:=L.inn j m hm hmi;have ⟨e1,e2,e3,e4,e5,e6,e7⟩:=e.lk hmi;have hl1:(lockOf m w.P).toNat<=w.P+1:=by have:=o.l;omega
   have ⟨s1,s2⟩:=hs _ hl1;refine ⟨by rw [hP,e1];exact o.l,by rw [hP,e1,e2];exact o.ln,by rw [hP,e1,e3];exact o.ls,?_,?_,?_,by rw [e5];exact o.pl,by rw [e6];exact o.ii,?_⟩
   . have:=o.st;rcases e7 with h | h | h<;>omega
   . rw [hP,e1,e4,s1,s2];exact o.tk
   . rw [hP,e1,e4,s1];intro h;apply o.T2;rcases e7 with h7 | h7 | h7<;>omega
   . rw [e5];intro h;have:=o.tm;rcases e7 with h7 | h7 | h7
     . rw [h7.1,h7.2];exact this (by omega)
     . omega
     . right;exact ⟨h7.2.1,h7.2.2.1,h7.2.2.2⟩
 . have ⟨x0,hx0,ex⟩:=hall i x hx;have ⟨y0,hy0,ey⟩:=hall j y hy;have ix0:x0.inn=true:=by rw [<- ex.inn];exact ix
   have iy0:y0.inn=true:=by rw [<- ey.inn];exact iy
   have e1:=ex.lk ix0;have e2:=ey.lk iy0;rw [hP] at hlk;exact L.apart i j x0 y0 hx0 hy0 ix0 iy0 (by rw [<- e1.1,<- e2.1];exact hlk) (by rw [<- e1.2.2.2.1,<- e2.2.2.2.1];exact htk)
 . rw [hP] at h;rw [(hs l h).1] at h1;rw [(hs l h).2] at h2;have ⟨j,m,hj,hin,hlk,htk⟩:=L.held l h t h1 h2;have hjl:=(aa.1 hj).1;have ⟨m0,hm0,e⟩:=hall j (w'.all[j]'(by omega)) (ah (by omega));rw [hj] at hm0;cases hm0;have e1:=e.lk hin;exact ⟨j,_,ah (by omega),by rw [e.inn];exact hin,by rw [hP,e1.1];exact hlk,by rw [e1.2.2.2.1];exact htk⟩
theorem oD.more (L:oD w N) {N':Int} (h:N<=N'):oD w N':=⟨fun l hl=>by have:=L.words l hl;omega,L.inn,L.apart,L.held⟩
theorem oD.XU (L:oD w N) (hi:w.all[i]?=some m) (hin:m.inn=true) (hst:m.st=1) (ht:m.tk=srv w (lockOf m w.P).toNat):oD (w.az i {m with st:=2}) N:=by
 have o:=L.inn i m hi hin;have at_:∀ (j:Nat) x,(w.az i {m with st:=2}).all[j]?=some x->(j=i/\x={m with st:=2})\/(j≠i/\w.all[j]?=some x):=fun j x hx=>by
  rw [dV] at hx;by_cases h:i=j
  . subst h;rw [if_pos ⟨rfl,(aa.1 hi).1⟩] at hx;cases hx;exact .inl ⟨rfl,rfl⟩
  . rw [if_neg fun e=>h e.1] at hx;exact .inr ⟨fun e=>h e.symm,hx⟩
 refine ⟨L.words,fun j x hx ix=>?_,fun j k x y hx hy ix iy hlk htk=>?_,fun l h t h1 h2=>?_⟩
 . rcases at_ j x hx with ⟨rfl,rfl⟩ | ⟨hj,hx⟩
   . exact ⟨o.l,o.ln,o.ls,.inr (.inl rfl),o.tk,fun _=>ht,o.pl,o.ii,fun _=>by
      have:=o.tm (by omega);rcases this with h | h
      . exact .inl h
      . omega⟩
   . have ⟨a1,a2,a3,a4,a5,a6,a7,a8,a9⟩:=L.inn j x hx ix;exact ⟨a1,a2,a3,a4,a5,a6,a7,a8,a9⟩
 . rcases at_ j x hx with ⟨rfl,rfl⟩ | ⟨hj,hx'⟩<;>rcases at_ k y hy with ⟨rfl,rfl⟩ | ⟨hk,hy'⟩
   . rfl
   . exact L.apart _ _ m y hi hy' hin iy hlk htk
   . exact L.apart _ _ x m hx' hi ix hin hlk htk
   . exact L.apart _ _ x y hx' hy' ix iy hlk htk
 . have ⟨j,x,hj,ix,hlk,htk⟩:=L.held l h t h1 h2;by_cases hji:j=i
   . subst hji;rw [hi] at hj;cases hj;exact ⟨j,{m with st:=2},setm_at hi,hin,hlk,htk⟩
   . exact ⟨j,x,by rw [dV,if_neg fun e=>hji e.1.symm];exact hj,ix,hlk,htk⟩
theorem oD.enter (L:oD w N) (hi:w.all[i]?=some m) (hin:m.inn=false) {k:Nat} (hk:lockOf m w.P=(k:Int)) (hkP:k<=w.P+1) (hlw:2*w.P+4<=w.ws.length) {w':W} (hP:w'.P=w.P) (hws:∀ j,wd w'.ws j=if j=2*k then nxt w k+1 else wd w.ws j) (hall:∀ j,w'.all[j]?=if j=i then some m' else w.all[j]?) (hm:m'.inn=true/\lockOf m' w.P=(k:Int)/\m'.ln=2*(k:Int)/\m'.ls=2*(k:Int)+1/\m'.st=1/\m'.tk=nxt w k/\m'.tm=0) (hpl:0<=m'.pl/\m'.pl<31) (hii:-1000<=m'.ii/\m'.ii<=1000):oD w' (N+1):=by
 have ⟨m1,m2,m3,m4,m5,m6,m7⟩:=hm;have hs:∀ l,srv w' l=srv w l:=fun l=>by unfold srv;rw [hws,nQ]
 have hn:∀ l,nxt w' l=if l=k then nxt w k+1 else nxt w l:=fun l=>by
  show wd w'.ws (2*l)=_;rw [hws];by_cases h:l=k
  . rw [pQ,if_pos h]
  . rw [nQ,if_neg h];rfl
 have wk:=L.words k hkP;have at_:∀ (j:Nat) x,w'.all[j]?=some x->(j=i/\x=m')\/(j≠i/\w.all[j]?=some x):=fun j x hx=>by
  rw [hall] at hx;by_cases h:j=i
  . rw [if_pos h] at hx;cases hx;exact .inl ⟨h,rfl⟩
  . rw [if_neg h] at hx;exact .inr ⟨h,hx⟩
 refine ⟨fun l h=>?_,fun j x hx ix=>?_,fun j j' x y hx hy ix iy hlk htk=>?_,fun l h t h1 h2=>?_⟩
 . rw [hP] at h;rw [hs,hn];have:=L.words l h;split
   . rename_i e;subst e;omega
   . omega
 . rcases at_ j x hx with ⟨rfl,rfl⟩ | ⟨hj,hx⟩
   . refine ⟨by rw [hP,m2];omega,by rw [hP,m2];exact m3,by rw [hP,m2];exact m4,.inl m5,?_,fun h=>absurd m5 h,hpl,hii,fun _=>.inl m7⟩;rw [hP,m2,aC,hs,hn,if_pos rfl,m6];omega
   . have o:=L.inn j x hx ix;refine ⟨by rw [hP];exact o.l,by rw [hP];exact o.ln,by rw [hP];exact o.ls,o.st,?_,?_,o.pl,o.ii,o.tm⟩
     . rw [hP,hs,hn];have:=o.tk;split
       . rename_i e;rw [e] at this ⊢;omega
       . exact this
     . rw [hP,hs];exact o.T2
 . rw [hP] at hlk;rcases at_ j x hx with ⟨rfl,rfl⟩ | ⟨hj,hx⟩<;>rcases at_ j' y hy with ⟨rfl,rfl⟩ | ⟨hk',hy⟩
   . rfl
   . exfalso;have:=(L.inn j' y hy iy).tk.2;rw [m2] at hlk;rw [<- hlk,aC] at this;omega
   . exfalso;have:=(L.inn j x hx ix).tk.2;rw [m2] at hlk;rw [hlk,aC] at this;omega
   . exact L.apart _ _ x y hx hy ix iy hlk htk
 . rw [hP] at h;rw [hs] at h1;rw [hn] at h2;by_cases e:l=k/\t=nxt w k
   . exact ⟨i,m',by rw [hall,if_pos rfl],m1,by rw [hP,m2,e.1],by rw [m6,e.2]⟩
   . have h2':t<nxt w l:=by
      split at h2
      . rename_i e1;subst e1;have:t≠nxt w l:=fun e2=>e ⟨rfl,e2⟩;omega
      . exact h2
     have ⟨j,x,hj,ix,hlk,htk⟩:=L.held l h t h1 h2';have hji:j≠i:=fun e=>by rw [e,hi] at hj;cases hj;rw [hin] at ix;cases ix
     exact ⟨j,x,by rw [hall,if_neg hji];exact hj,ix,by rw [hP];exact hlk,htk⟩
theorem oD.over (L:oD w N) (hi:w.all[i]?=some m) (hin:m.inn=true) (hst:m.st=3) {k:Nat} (hk:lockOf m w.P=(k:Int)) {w':W} (hP:w'.P=w.P) (hws:∀ j,wd w'.ws j=if j=2*k+1 then m.tk+1 else wd w.ws j) (hall:∀ j,w'.all[j]?=if j=i then some m' else w.all[j]?) (hm:m'.inn=false):oD w' N:=by
 have o:=L.inn i m hi hin;have htk:m.tk=srv w k:=by have:=o.T2 (by omega);rw [hk,aC] at this;exact this
 have htn:m.tk<nxt w k:=by have:=o.tk.2;rw [hk,aC] at this;exact this
 have hkP:k<=w.P+1:=by have:=o.l;omega
 have hn:∀ l,nxt w' l=nxt w l:=fun l=>by unfold nxt;rw [hws,nQ]
 have hs:∀ l,srv w' l=if l=k then srv w k+1 else srv w l:=fun l=>by
  show wd w'.ws (2*l+1)=_;rw [hws];by_cases h:l=k
  . rw [pQ,if_pos h,htk]
  . rw [nQ,if_neg h];rfl
 have at_:∀ (j:Nat) x,w'.all[j]?=some x->x.inn=true->(j≠i/\w.all[j]?=some x):=fun j x hx ix=>by
  rw [hall] at hx;by_cases h:j=i
  . rw [if_pos h] at hx;cases hx;rw [hm] at ix;cases ix
  . rw [if_neg h] at hx;exact ⟨h,hx⟩
 have wk:=L.words k hkP;refine ⟨fun l h=>?_,fun j x hx ix=>?_,fun j j' x y hx hy ix iy hlk htk'=>?_,fun l h t h1 h2=>?_⟩
 . rw [hP] at h;rw [hs,hn];have:=L.words l h;split
   . rename_i e;subst e;omega
   . omega
 . have ⟨hj,hx⟩:=at_ j x hx ix;have ox:=L.inn j x hx ix;have hne:∀ z:Nat,lockOf x w.P=(z:Int)->z=k->x.tk≠srv w k:=fun z hz hzk h=>by have:=L.apart j i x m hx hi ix hin (by rw [hz,hk,hzk]) (by rw [h,htk]);exact hj this
   have hz:lockOf x w.P=((lockOf x w.P).toNat:Int):=by have:=ox.l;omega
   refine ⟨by rw [hP];exact ox.l,by rw [hP];exact ox.ln,by rw [hP];exact ox.ls,ox.st,?_,?_,ox.pl,ox.ii,ox.tm⟩
   . rw [hP,hs,hn];have h1:=ox.tk;split
     . rename_i e;have h2:=hne _ hz e;rw [e] at h1 ⊢;omega
     . exact h1
   . rw [hP,hs];intro h;have h1:=ox.T2 h;split
     . rename_i e;rw [e] at h1;exact absurd h1 (hne _ hz e)
     . exact h1
 . have ⟨hj,hx⟩:=at_ j x hx ix;have ⟨hj',hy⟩:=at_ j' y hy iy;rw [hP] at hlk;exact L.apart j j' x y hx hy ix iy hlk htk'
 . rw [hP] at h;rw [hn] at h2;rw [hs] at h1;have h1':srv w l<=t:=by split at h1;rename_i e;subst e;omega;exact h1
   have ⟨j,x,hj,ix,hlk,htx⟩:=L.held l h t h1' h2;have hji:j≠i:=fun e=>by
    rw [e,hi] at hj;cases hj;rw [hk] at hlk;have:k=l:=by omega
    subst this;rw [if_pos rfl] at h1;omega
   exact ⟨j,x,by rw [hall,if_neg hji];exact hj,ix,by rw [hP];exact hlk,htx⟩
end
structure MB (m:Mc):Prop where
 bk:m.bk=0\/m.bk=1\/m.bk=20\/m.bk=25
 af:m.af=0\/m.af=1\/m.af=2\/m.af=13
 ar:isI64 m.ar
 fd:m.pl=30->0<=m.ar/\m.ar<65536
theorem wU {m:Mc} {f:Bool} {P:Nat}:(thenM m f P).ar=m.ar/\(thenM m f P).inn=m.inn/\(thenM m f P).st=m.st/\(thenM m f P).rest=m.rest:=by
 have ⟨pl,p',g,nx,got,tg,ii,sp,inn,rest,bk,af,ar,ln,ls,st,tk,tm⟩:=m;simp [thenM];by_cases h1:pl=2\/pl=3\/pl=4\/pl=6\/pl=7
 . simp [if_pos h1,searchedM];cases f
   . simp [aF,if_false];repeat' (first | exact ⟨rfl,rfl,rfl,rfl⟩ | split)
   . simp [if_true,takeM,and_self]
 simp [if_neg h1];by_cases h2:pl=9
 . simp [if_pos h2,and_self]
 simp [if_neg h2];by_cases h3:pl=10
 . simp [if_pos h3,and_self]
 simp [if_neg h3];by_cases h4:pl=11
 . simp [if_pos h4,and_self]
 simp [if_neg h4];by_cases h5:pl=13
 . simp [if_pos h5,and_self]
 simp [if_neg h5];by_cases h6:pl=14
 . simp [if_pos h6,and_self]
 simp [if_neg h6];by_cases h7:pl=15
 . simp [if_pos h7];cases f<;>simp [deliverM,aF,if_false,if_true,and_self]
 simp [if_neg h7];by_cases h8:pl=17\/pl=18
 . simp [if_pos h8,settleM,and_self]
 simp [if_neg h8];by_cases h9:pl=28
 . simp [if_pos h9,settleM,and_self]
 simp [if_neg h9];by_cases h10:pl=27
 . simp [if_pos h10,and_self]
 simp [if_neg h10];by_cases h11:pl=23
 . simp [if_pos h11,and_self]
 simp [if_neg h11];by_cases h12:pl=25
 . simp [if_pos h12,and_self]
 simp [if_neg h12];by_cases h13:pl=29\/pl=30
 . simp [if_pos h13];by_cases hg:0<=g
   . simp [if_pos hg,and_self]
   . simp [if_neg hg];cases f<;>simp [deliverM,aF,if_false,if_true,and_self]
 simp [if_neg h13,and_self]
end
section
open Sch
variable {f:Bool} {m:Mc} {P:Nat}
theorem Jn {x:Int} {y:Bool}:thenM {m with st:=x,inn:=y} f P={thenM m f P with st:=x,inn:=y}:=by
 have ⟨pl,p',g,nx,got,tg,ii,sp,inn,rest,bk,af,ar,ln,ls,st,tk,tm⟩:=m;simp [thenM];by_cases h1:pl=2\/pl=3\/pl=4\/pl=6\/pl=7
 . simp [if_pos h1,searchedM];cases f
   . simp [aF,if_false];by_cases c2:pl=2
     . simp [if_pos c2]
     by_cases c3:pl=3
     . simp [if_neg c2,if_pos c3]
     by_cases c7:pl=7
     . simp [if_neg c2,if_neg c3,if_pos c7]
     by_cases c6:pl=6
     . simp [if_neg c2,if_neg c3,if_neg c7,if_pos c6,stealM]
     cases sp<;>simp [if_neg c2,if_neg c3,if_neg c7,if_neg c6,stealM,aF,if_false,if_true]
   . simp [if_true,takeM]
 simp [if_neg h1];by_cases h2:pl=9
 . simp [if_pos h2]
 simp [if_neg h2];by_cases h3:pl=10
 . simp [if_pos h3]
 simp [if_neg h3];by_cases h4:pl=11
 . simp [if_pos h4]
 simp [if_neg h4];by_cases h5:pl=13
 . simp [if_pos h5]
 simp [if_neg h5];by_cases h6:pl=14
 . simp [if_pos h6]
 simp [if_neg h6];by_cases h7:pl=15
 . simp [if_pos h7];cases f<;>simp [deliverM,aF,if_false,if_true]
 simp [if_neg h7];by_cases h8:pl=17\/pl=18
 . simp [if_pos h8,settleM]
 simp [if_neg h8];by_cases h9:pl=28
 . simp [if_pos h9,settleM]
 simp [if_neg h9];by_cases h10:pl=27
 . simp [if_pos h10]
 simp [if_neg h10];by_cases h11:pl=23
 . simp [if_pos h11]
 simp [if_neg h11];by_cases h12:pl=25
 . simp [if_pos h12]
 simp [if_neg h12];by_cases h13:pl=29\/pl=30
 . simp [if_pos h13];by_cases hg:0<=g
   . simp [if_pos hg]
   . simp [if_neg hg];cases f<;>simp [deliverM,aF,if_false,if_true]
 simp [if_neg h13]
theorem LG (ho:mC m=true) (B:MB m):MB (thenM m f P):=by
 simp [mC,decide_eq_true_eq] at ho;have ⟨hb,ha,hr,hf⟩:=B;have ⟨pl,p',g,nx,got,tg,ii,sp,inn,rest,bk,af,ar,ln,ls,st,tk,tm⟩:=m;simp only at hb ha hr hf ho;simp [thenM];by_cases h1:pl=2\/pl=3\/pl=4\/pl=6\/pl=7
 . simp [if_pos h1,searchedM];cases f
   . simp [aF,if_false];by_cases c2:pl=2
     . simp [if_pos c2];exact ⟨by first | exact hb | (simp;done),by first | exact ha | (simp;done),hr,by intro h;exfalso;revert h;simp only;(repeat' split)<;>omega⟩
     by_cases c3:pl=3
     . simp [if_neg c2,if_pos c3];exact ⟨by first | exact hb | (simp;done),by first | exact ha | (simp;done),hr,by intro h;exfalso;revert h;simp only;(repeat' split)<;>omega⟩
     by_cases c7:pl=7
     . simp [if_neg c2,if_neg c3,if_pos c7];exact ⟨by first | exact hb | (simp;done),by first | exact ha | (simp;done),hr,by intro h;exfalso;revert h;simp only;(repeat' split)<;>omega⟩
     by_cases c6:pl=6
     . simp [if_neg c2,if_neg c3,if_neg c7,if_pos c6,stealM];exact ⟨by first | exact hb | (simp;done),by first | exact ha | (simp;done),hr,by intro h;exfalso;revert h;simp only;(repeat' split)<;>omega⟩
     cases sp<;>simp [if_neg c2,if_neg c3,if_neg c7,if_neg c6,stealM,aF,if_false,if_true]<;>exact ⟨by first | exact hb | (simp;done),by first | exact ha | (simp;done),hr,by intro h;exfalso;revert h;simp only;(repeat' split)<;>omega⟩
   . simp [if_true,takeM];exact ⟨by first | exact hb | (simp;done),by first | exact ha | (simp;done),hr,by intro h;exfalso;revert h;simp only;(repeat' split)<;>omega⟩
 simp [if_neg h1];by_cases h2:pl=9
 . simp [if_pos h2];exact ⟨by first | exact hb | (simp;done),by first | exact ha | (simp;done),hr,by intro h;exfalso;revert h;simp only;(repeat' split)<;>omega⟩
 simp [if_neg h2];by_cases h3:pl=10
 . simp [if_pos h3];exact ⟨by first | exact hb | (simp;done),by first | exact ha | (simp;done),hr,by intro h;exfalso;revert h;simp only;(repeat' split)<;>omega⟩
 simp [if_neg h3];by_cases h4:pl=11
 . simp [if_pos h4];exact ⟨by first | exact hb | (simp;done),by first | exact ha | (simp;done),hr,by intro h;exfalso;revert h;simp only;(repeat' split)<;>omega⟩
 simp [if_neg h4];by_cases h5:pl=13
 . simp [if_pos h5];exact ⟨by first | exact hb | (simp;done),by first | exact ha | (simp;done),hr,by intro h;exfalso;revert h;simp only;(repeat' split)<;>omega⟩
 simp [if_neg h5];by_cases h6:pl=14
 . simp [if_pos h6];exact ⟨by first | exact hb | (simp;done),by first | exact ha | (simp;done),hr,by intro h;exfalso;revert h;simp only;(repeat' split)<;>omega⟩
 simp [if_neg h6];by_cases h7:pl=15
 . simp [if_pos h7];cases f<;>simp [deliverM,aF,if_false,if_true]<;>exact ⟨by first | exact hb | (simp;done),by first | exact ha | (simp;done),hr,by intro h;exfalso;revert h;simp only;(repeat' split)<;>omega⟩
 simp [if_neg h7];by_cases h8:pl=17\/pl=18
 . simp [if_pos h8,settleM];exact ⟨by first | exact hb | (simp;done),by first | exact ha | (simp;done),hr,by intro h;exfalso;revert h;simp only;(repeat' split)<;>omega⟩
 simp [if_neg h8];by_cases h9:pl=28
 . simp [if_pos h9,settleM];exact ⟨by first | exact hb | (simp;done),by first | exact ha | (simp;done),hr,by intro h;exfalso;revert h;simp only;(repeat' split)<;>omega⟩
 simp [if_neg h9];by_cases h10:pl=27
 . simp [if_pos h10];exact ⟨by first | exact hb | (simp;done),by first | exact ha | (simp;done),hr,by intro h;exfalso;revert h;simp only;(repeat' split)<;>omega⟩
 simp [if_neg h10];by_cases h11:pl=23
 . simp [if_pos h11];exact ⟨by first | exact hb | (simp;done),by first | exact ha | (simp;done),hr,by intro h;exfalso;revert h;simp only;(repeat' split)<;>omega⟩
 simp [if_neg h11];by_cases h12:pl=25
 . simp [if_pos h12];exact ⟨by first | exact hb | (simp;done),by first | exact ha | (simp;done),hr,by intro h;exfalso;revert h;simp only;(repeat' split)<;>omega⟩
 simp [if_neg h12];by_cases h13:pl=29\/pl=30
 . simp [if_pos h13];by_cases hg:0<=g
   . simp [if_pos hg];exact ⟨by first | exact hb | (simp;done),by first | exact ha | (simp;done),hr,by intro h;exfalso;revert h;simp only;(repeat' split)<;>omega⟩
   . simp [if_neg hg];cases f<;>simp [deliverM,aF,if_false,if_true]<;>exact ⟨by first | exact hb | (simp;done),by first | exact ha | (simp;done),hr,by intro h;exfalso;revert h;simp only;(repeat' split)<;>omega⟩
 omega
end
section
open Sch
variable {m1:Mc} {P:Nat} {l:List Int}
structure bu (w:W) (s:dU) (a:St) (N:Int):Prop where
 A:IsA w s a
 I:Sch.Inv a
 J:Sch.ig a
 P:1<=w.P/\w.P<=8
 M:w.P<=w.M/\w.M<=w.P+4
 G:1<=w.G/\w.G<=40
 S:De s w.P N
 L:oD w N
 B:∀ (i:Nat) m,w.all[i]?=some m->MB m
 rg:∀ (k:Nat) r,w.rings[k]?=some r->0<=r.streak/\r.streak<=4
 tn:∀ (k:Nat) z,w.turns[k]?=some z->0<=z/\z<=N
 lg:(w.lg:Int)<=N
 N:0<=N/\N<=100000000
structure KM (P:Nat) (m m':Mc):Prop where
 inn:m'.inn=m.inn
 k:m.inn=true->m'.st=m.st/\m'.tk=m.tk/\m'.tm=m.tm/\m'.ln=m.ln/\m'.ls=m.ls/\m'.pl=m.pl/\m'.ii=m.ii/\lockOf m' P=lockOf m P
 mb:MB m->MB m'
theorem KM.refl {m:Mc}:KM P m m:=⟨rfl,fun _=>⟨rfl,rfl,rfl,rfl,rfl,rfl,rfl,rfl⟩,id⟩
theorem KM.trans {m m' m'':Mc} (a:KM P m m') (b:KM P m' m''):KM P m m'':=by refine ⟨b.inn.trans a.inn,fun h=>?_,fun h=>b.mb (a.mb h)⟩;have ⟨a1,a2,a3,a4,a5,a6,a7,a8⟩:=a.k h;have ⟨b1,b2,b3,b4,b5,b6,b7,b8⟩:=b.k (a.inn.trans h);exact ⟨b1.trans a1,b2.trans a2,b3.trans a3,b4.trans a4,b5.trans a5,b6.trans a6,b7.trans a7,b8.trans a8⟩
theorem KM.sec {m m':Mc} (e:KM P m m'):Ro P m m':=⟨e.inn,fun h=>by
 have ⟨a1,a2,a3,a4,a5,a6,a7,a8⟩:=e.k h;exact ⟨a8,a4,a5,a2,a6,a7,.inl ⟨a1,a3⟩⟩⟩
theorem KM.out {m m':Mc} (h:m.inn=false) (h':m'.inn=false) (mb:MB m->MB m'):KM P m m':=⟨by rw [h,h'],fun e=>(by rw [h] at e;cases e),mb⟩
structure Kp (n:Nat) (w w':W):Prop where
 P:w'.P=w.P
 M:w'.M=w.M
 G:w'.G=w.G
 words:∀ k,k<2*w.P+4->wd w'.ws k=wd w.ws k
 len:w'.all.length=w.all.length
 all:∀ (j:Nat) m',w'.all[j]?=some m'->∃ m,w.all[j]?=some m/\KM w.P m m'
 rg:∀ (k:Nat) r',w'.rings[k]?=some r'->∃ r,w.rings[k]?=some r/\(0<=r.streak/\r.streak<=4->0<=r'.streak/\r'.streak<=4)
 tn:∀ (k:Nat) z',w'.turns[k]?=some z'->∃ z,w.turns[k]?=some z/\z<=z'/\z'<=z+n
 lg:w.lg<=w'.lg/\w'.lg<=w.lg+n
section
variable {w w' w'':W} {s s':dU} {a b:St} {i k n n':Nat} {m m':Mc} {f:Bool} {N:Int}
theorem Kp.refl:Kp 0 w w:=⟨rfl,rfl,rfl,fun _ _=>rfl,rfl,fun j m h=>⟨m,h,KM.refl⟩,fun k r h=>⟨r,h,id⟩,fun k z h=>⟨z,h,by omega,by omega⟩,by omega⟩
theorem Kp.trans (x:Kp n w w') (y:Kp n' w' w''):Kp (n+n') w w'':=by
 refine ⟨y.P.trans x.P,y.M.trans x.M,y.G.trans x.G,fun k h=>(y.words k (by rw [x.P];exact h)).trans (x.words k h),y.len.trans x.len,fun j m'' h=>?_,fun k r'' h=>?_,fun k z'' h=>?_,?_⟩
 . have ⟨m',h1,e1⟩:=y.all j m'' h;have ⟨m,h2,e2⟩:=x.all j m' h1;rw [x.P] at e1;exact ⟨m,h2,e2.trans e1⟩
 . have ⟨r',h1,e1⟩:=y.rg k r'' h;have ⟨r,h2,e2⟩:=x.rg k r' h1;exact ⟨r,h2,fun h=>e1 (e2 h)⟩
 . have ⟨z',h1,e1⟩:=y.tn k z'' h;have ⟨z,h2,e2⟩:=x.tn k z' h1;exact ⟨z,h2,by omega,by omega⟩
 . have:=x.lg;have:=y.lg;omega
theorem Kp.le (x:Kp n w w') (h:n<=n'):Kp n' w w':=⟨x.P,x.M,x.G,x.words,x.len,x.all,x.rg,fun k z' h1=>by have ⟨z,h2,h3⟩:=x.tn k z' h1;exact ⟨z,h2,by omega,by omega⟩,by have:=x.lg;omega⟩
theorem Kp.az (hi:w.all[i]?=some m) (e:KM w.P m m'):Kp 0 w (w.az i m'):=by
 refine {(Kp.refl:Kp 0 w w) with len:=by simp [W.az],all:=fun j x h=>?_};rw [dV] at h;by_cases hj:i=j
 . subst hj;rw [if_pos ⟨rfl,(aa.1 hi).1⟩] at h;cases h;exact ⟨m,hi,e⟩
 . rw [if_neg fun e=>hj e.1] at h;exact ⟨x,h,KM.refl⟩
theorem Kp.aL {f':Bool}:Kp 0 w (w.aL i f'):={(Kp.refl:Kp 0 w w) with}
theorem Kp.gG {r r':Rg} (hr:w.rings[k]?=some r) (h:0<=r.streak/\r.streak<=4->0<=r'.streak/\r'.streak<=4):Kp 0 w (w.gG k r'):=by
 refine {(Kp.refl:Kp 0 w w) with rg:=fun j x hx=>?_};have hx:(w.rings.set k r')[j]?=some x:=hx;rw [eU] at hx;by_cases hj:k=j
 . subst hj;simp at hx;rw [<- hx.2];exact ⟨r,hr,h⟩
 . rw [if_neg hj] at hx;exact ⟨x,hx,id⟩
theorem Kp.gl :Kp 0 w {w with gl:=l}:={(Kp.refl:Kp 0 w w) with}
theorem Kp.ip {l:List Nat}:Kp 0 w {w with ip:=l}:={(Kp.refl:Kp 0 w w) with}
theorem Kp.pend :Kp 0 w {w with pend:=l}:={(Kp.refl:Kp 0 w w) with}
theorem Kp.ms :Kp 0 w {w with ms:=l}:={(Kp.refl:Kp 0 w w) with}
theorem Kp.q {l:Int}:Kp 0 w {w with q:=l}:={(Kp.refl:Kp 0 w w) with}
theorem Kp.cR {v:Int} (hk:2*w.P+4<=k):Kp 0 w (w.cR k v):=by refine {(Kp.refl:Kp 0 w w) with words:=fun j hj=>?_};show wd (w.ws.set k v) j=wd w.ws j;simp [wd,aO];rw [aj (by omega)]
theorem Kp.cd:Kp 1 w w.cd:={(Kp.refl.le (by omega):Kp 1 w w) with lg:=by show w.lg<=w.lg+1/\w.lg+1<=w.lg+1;omega}
theorem De.more {N':Int} (S:De s P N) (h:N<=N'):De s P N':={S with ord:=by have:=S.ord;omega}
theorem bu.next (C:bu w s a N) (hN:N<100000000) (hA:IsA w' s' b) (hI:Sch.Inv b) (hJ:Sch.ig b) (hS:De s' w.P (N+1)) (hL:oD w' (N+1)) (hB:∀ (i:Nat) m,w'.all[i]?=some m->MB m) (hP:w'.P=w.P/\w'.M=w.M/\w'.G=w.G)
 (rg:∀ (k:Nat) r',w'.rings[k]?=some r'->∃ r,w.rings[k]?=some r/\(0<=r.streak/\r.streak<=4->0<=r'.streak/\r'.streak<=4)) (tn:∀ (k:Nat) z',w'.turns[k]?=some z'->∃ z,w.turns[k]?=some z/\z<=z'/\z'<=z+1) (lg:w'.lg<=w.lg+1):bu w' s' b (N+1):=by
 refine ⟨hA,hI,hJ,by rw [hP.1];exact C.P,by rw [hP.1,hP.2.1];exact C.M,by rw [hP.2.2];exact C.G,by rw [hP.1];exact hS,hL,hB,fun k r' h=>?_,fun k z' h=>?_,by have:=C.lg;omega,by have:=C.N;omega⟩
 . have ⟨r,h1,h2⟩:=rg k r' h;exact h2 (C.rg k r h1)
 . have ⟨z,h1,h2⟩:=tn k z' h;have:=C.tn k z h1;omega
theorem bu.kept (C:bu w s a N) (hN:N<100000000) (K:Kp 1 w w') (hA:IsA w' s' b) (hI:Sch.Inv b) (hJ:Sch.ig b) (hS:De s' w.P (N+1)):bu w' s' b (N+1):=by
 refine C.next hN hA hI hJ hS ?_ ?_ ⟨K.P,K.M,K.G⟩ K.rg K.tn K.lg.2
 . refine (C.L.same K.P K.words K.len fun j m' h=>?_).more (by omega);have ⟨m,h1,e⟩:=K.all j m' h;exact ⟨m,h1,e.sec⟩
 . intro j m' h;have ⟨m,h1,e⟩:=K.all j m' h;exact e.mb (C.B j m h1)
theorem bu.done (C:bu w s a N) (hN:N<100000000) {w1:W} {more:Bool} (K:Kp 1 w w1) (hi:w.all[i]?=some m) (hin:m.inn=true) (hst:m.st=2) (h1:w1.all[i]?=some m1) (hm:more=true->m.tm=0/\(m.pl=23\/m.pl=29\/m.pl=30)) (hA:IsA (doneW w1 i m1 more) s' b) (hI:Sch.Inv b) (hJ:Sch.ig b) (hS:De s' w.P (N+1)):bu (doneW w1 i m1 more) s' b (N+1):=by
 have at_:∀ (j:Nat) x,(doneW w1 i m1 more).all[j]?=some x->(j=i/\x={m1 with tm:=m1.tm+1,st:=if more=true then m1.st else 3})\/(j≠i/\w1.all[j]?=some x):=fun j x hx=>by
  unfold doneW at hx;rw [dV] at hx;by_cases h:i=j
  . subst h;rw [if_pos ⟨rfl,(aa.1 h1).1⟩] at hx;cases hx;exact .inl ⟨rfl,rfl⟩
  . rw [if_neg fun e=>h e.1] at hx;exact .inr ⟨fun e=>h e.symm,hx⟩
 have ⟨m0,hm0,e0⟩:=K.all i m1 h1;rw [hi] at hm0;cases hm0;refine C.next hN hA hI hJ hS ?_ ?_ ⟨K.P,K.M,K.G⟩ K.rg K.tn K.lg.2
 . refine oD.more (N:=N) (C.L.same (w':=doneW w1 i m1 more) K.P K.words (by unfold doneW;simp [W.az];exact K.len) fun j m' h=>?_) (by omega);rcases at_ j m' h with ⟨rfl,rfl⟩ | ⟨hj,hx⟩
   . have ⟨a1,a2,a3,a4,a5,a6,a7,a8⟩:=e0.k hin;refine ⟨m,hi,e0.inn,fun _=>⟨a8,a4,a5,a2,a6,a7,?_⟩⟩;cases hmo:more with
     | false=>right;left;exact ⟨hst,by simp⟩
     | true=>have:=hm hmo;right;right;exact ⟨hst,by simp [a1,hst],by simp [a3,this.1],this.2⟩
   . have ⟨m',h1,e⟩:=K.all j _ hx;exact ⟨m',h1,e.sec⟩
 . intro j m' h;rcases at_ j m' h with ⟨rfl,rfl⟩ | ⟨hj,hx⟩
   . have ⟨b1,b2,b3,b4⟩:=e0.mb (C.B j m hi);exact ⟨b1,b2,b3,b4⟩
   . have ⟨m',h1,e⟩:=K.all j _ hx;exact e.mb (C.B j m' h1)
theorem bu.uS (C:bu w s a N) (hN:N<100000000) {w1:W} {more:Bool} (K:Kp 1 w w1) (hi:w.all[i]?=some m) (hin:m.inn=true) (hst:m.st=2) (h1:w1.all[i]?=some m1) (hm:more=true->m.tm=0/\(m.pl=23\/m.pl=29\/m.pl=30)) (hA:IsA (doneW w1 i m1 more) s' b) (hI:Sch.Inv b) (hJ:Sch.ig b) (hS:De s' w.P (N+1)):bu (doneW w1 i m1 more) s' b (N+1)/\Kp 1 w w1:=⟨C.done hN K hi hin hst h1 hm hA hI hJ hS,K⟩
theorem bu.valOf (C:bu w s a N) (hi:w.all[i]?=some m) {x:Am} (hx:a.mc i=x):oC w.P w.M w.G x:=by have:=C.I.val i (C.A.yO hi);rw [hx,C.A.P,C.A.M,C.A.G] at this;exact this
end
end
section
open Sch
variable {j P p:Nat} {r:Rg}
theorem It {m:Mc} (h:0<=lockOf m P) (hp:0<=m.pl/\m.pl<31):m.pl=2\/m.pl=3\/m.pl=4\/m.pl=6\/m.pl=7\/m.pl=9\/m.pl=10\/m.pl=11\/m.pl=13\/m.pl=14\/m.pl=15\/m.pl=17\/m.pl=18\/m.pl=23\/m.pl=25\/m.pl=27\/m.pl=28\/m.pl=29\/m.pl=30:=by
 have key:∀ n:Nat,n<31->whoseL.getD n 0=0\/n=2\/n=3\/n=4\/n=6\/n=7\/n=9\/n=10\/n=11\/n=13\/n=14\/n=15\/n=17\/n=18\/n=23\/n=25\/n=27\/n=28\/n=29\/n=30:=by decide
 rcases key m.pl.toNat (by omega) with h0 | h0
 . exfalso;unfold lockOf at h;rw [h0] at h;simp [lockW] at h
 . omega
theorem lock_0 {m:Mc} (h:m.pl=2\/m.pl=4\/m.pl=7\/m.pl=10\/m.pl=11\/m.pl=13\/m.pl=15\/m.pl=18\/m.pl=23\/m.pl=27):lockOf m P=0:=by rcases h with h | h | h | h | h | h | h | h | h | h<;>(unfold lockOf;rw [h];rfl)
theorem xD {m:Mc} (h:m.pl=14\/m.pl=25\/m.pl=29\/m.pl=30):lockOf m P=(P:Int)+1:=by rcases h with h | h | h | h<;>(unfold lockOf;rw [h];rfl)
theorem MO {m:Mc} (h:m.pl=3\/m.pl=17\/m.pl=28):lockOf m P=gR m.p P:=by rcases h with h | h | h<;>(unfold lockOf;rw [h];rfl)
theorem Kn {m:Mc} (h:m.pl=9):lockOf m P=gR m.ii P:=by unfold lockOf;rw [h];rfl
theorem GH {m:Mc} (h:m.pl=6):lockOf m P=if 0<=m.ii/\0<gR m.p P then (m.p+m.ii) % P+1 else -1:=by unfold lockOf;rw [h];rfl
theorem lB {m:Mc} (h:m.pl=0\/m.pl=1\/m.pl=5\/m.pl=8\/m.pl=12\/m.pl=16\/m.pl=19\/m.pl=20\/m.pl=21\/m.pl=22\/m.pl=24\/m.pl=26):lockOf m P=-1:=by rcases h with h | h | h | h | h | h | h | h | h | h | h | h<;>(unfold lockOf;rw [h];rfl)
section
variable {w:W} {s:dU} {a:St} {i k:Nat} {m:Mc} {N:Int}
theorem CG {z d:Int} (h0:0<=z+d) (h1:z+d<18446744073709551616):inc z d=z+d:=by unfold inc;exact eV h0 h1
theorem RK (C:bu w s a N):(sumTo (fun j=>hs (a.mc j)) a.M:Nat)<=3*a.M:=by
 have:=iw (f:=fun j=>hs (a.mc j)) (g:=fun _=>3) (n:=a.M) fun j _=>by unfold hs;split<;>split<;>split<;>omega
 rw [iz] at this;omega
theorem wZ (C:bu w s a N):0<=wd w.ws w.sp/\wd w.ws w.sp<=100:=by have h1:=C.I.spin;have h2:=RK C;have h3:=C.I.Ds;have h4:=C.A.spin;have h5:=C.A.P;have h6:=C.A.M;have h7:=C.P;have h8:=C.M;omega
theorem LQ (C:bu w s a N) (hi:i<a.M) (h:0<hs (a.mc i)):1<=wd w.ws w.sp:=by have h1:=C.I.spin;have h2:=cy (f:=fun j=>hs (a.mc j)) hi;have h4:=C.A.spin;omega
theorem tA (C:bu w s a N) (hi:i<a.M) (h:0<hs (a.mc i)):inc (wd w.ws w.sp) (-1)=a.spin-1:=by have h1:=wZ C;have h2:=LQ C hi h;rw [CG (by omega) (by omega),C.A.spin];omega
theorem H5 (C:bu w s a N):inc (wd w.ws w.sp) 1=a.spin+1:=by have h1:=wZ C;rw [CG (by omega) (by omega),C.A.spin]
theorem IA (C:bu w s a N):w.gl.length<=40:=by
 have h:=py (n:=a.G) C.J.R.gl fun g hg=>by
  have h1:=C.J.occ g hg;have h2:rC (a.stt g)<=1:=by unfold rC;split<;>omega
  omega
 rw [C.A.gl] at h;have:=C.A.G;have:=C.G;omega
theorem Ia (C:bu w s a N) (hr:w.rings[k]?=some r):(ringL r).length<=40:=by
 have hk:k<a.P:=by rw [C.A.P,<- C.A.lR];exact (aa.1 hr).1
 have h:=py (n:=a.G) (C.J.R.ring k hk) fun g hg=>by
  have h1:=C.J.occ g hg;have h2:rC (a.stt g)<=1:=by unfold rC;split<;>omega
  have h3:=cy (f:=fun k=>(a.ring k).count (g:Int)) hk;omega
 rw [C.A.ring k r hr] at h;have:=C.A.G;have:=C.G;omega
theorem B7 (C:bu w s a N) (hr:w.rings[k]?=some r) (hi:i<a.M):(ringL r).length+(a.mc i).rest.length<=40:=by
 have hk:k<a.P:=by rw [C.A.P,<- C.A.lR];exact (aa.1 hr).1
 have h:=py (n:=a.G) (l:=a.ring k++(a.mc i).rest) (fun x hx=>by
  rcases bd.1 hx with hx | hx
  . exact C.J.R.ring k hk x hx
  . exact C.J.R.rest i hi x hx) fun g hg=>by
  have h1:=C.J.occ g hg;have h2:rC (a.stt g)<=1:=by unfold rC;split<;>omega
  have h3:=cy (f:=fun k=>(a.ring k).count (g:Int)) hk;have h4:=cy (f:=fun j=>Sch.hg (a.mc j) g) hi;have h5:(a.mc i).rest.count (g:Int)<=Sch.hg (a.mc i) g:=by unfold Sch.hg;omega
  rw [bq];omega
 rw [C.A.ring k r hr,aM] at h;have:=C.A.G;have:=C.G;omega
theorem Gi :r.row.length<=(ringL r).length:=by unfold ringL;simp
theorem Iq (C:bu w s a N):w.ms.length<=12:=by
 have h:=py (n:=a.M) C.I.msr fun g hg=>by
  have h1:=C.I.tok g hg;have h2:aU (a.mc g)<=1:=by unfold aU;split<;>omega
  have h3:=C.I.note g hg;omega
 rw [C.A.ms] at h;have:=C.A.M;have:=C.M;have:=C.P;omega
theorem xn (C:bu w s a N):w.pend.length<=8:=by have h:=C.I.Ds;rw [C.A.pend,C.A.P] at h;have:=C.P;omega
theorem Sf (C:bu w s a N) (hi:i<a.M) (hp:p<w.P) (h:(a.mc i).p=(p:Int)):p∉w.ip/\(p:Int)∉w.pend:=by
 have h1:=C.I.proc p (by rw [C.A.P];exact hp);have h2:=cy (f:=fun j=>Sch.hp (a.mc j) p) hi;have h3:1<=Sch.hp (a.mc i) p:=by unfold Sch.hp;rw [if_pos h];omega
 rw [C.A.ip,C.A.pend] at h1;exact ⟨gE.1 (by omega),gE.1 (by omega)⟩
theorem Se (C:bu w s a N) {L:List Nat} (h:w.ip=p::L):p<w.P/\p∉L/\(p:Int)∉w.pend:=by have hp:p<a.P:=C.I.ipr p (by rw [C.A.ip,h];simp);have h1:=C.I.proc p hp;rw [C.A.ip,C.A.pend,h] at h1;simp [List.count_cons_self] at h1;exact ⟨by rw [<- C.A.P];exact hp,gE.1 (by omega),gE.1 (by omega)⟩
theorem Ec (C:bu w s a N) (hi:i<a.M) (h:aU (a.mc i)=0):(i:Int)∉w.ms/\w.q≠(i:Int):=by
 have h1:=C.I.tok i hi;have h2:=C.I.note i hi;rw [C.A.ms,C.A.q,h] at h1;refine ⟨gE.1 (by omega),fun e=>?_⟩;have:qi w.q i=1:=by unfold qi;rw [if_pos e]
 omega
theorem oa (C:bu w s a N):-1<=w.q/\w.q<w.M:=by have:=C.I.qr;rw [C.A.q,C.A.M] at this;exact this
theorem Mi (C:bu w s a N) {k:Nat} (h:w.q=(k:Int)):wd w.ws (w.nt+k)=0:=by
 have hk:k<w.M:=by have:=(oa C).2;omega
 have hk':k<a.M:=by rw [C.A.M];exact hk
 have h1:=C.I.tok k hk';have h2:=C.I.note k hk';have h3:aU (a.mc k)<=1:=by unfold aU;split<;>omega
 have h4:qi a.q k=1:=by unfold qi;rw [C.A.q,if_pos h]
 have h5:=C.A.note k hk;omega
theorem lock_alone (C:bu w s a N) (hi:w.all[i]?=some m) (hin:m.inn=true) (hst:m.st=2) {mj:Mc} (hj:w.all[j]?=some mj) (hjn:mj.inn=true) (hjs:mj.st=2) (hl:lockOf mj w.P=lockOf m w.P):j=i:=by have o:=C.L.inn i m hi hin;have oj:=C.L.inn j mj hj hjn;refine C.L.apart j i mj m hj hi hjn hin hl ?_;rw [oj.T2 (by omega),o.T2 (by omega),hl]
theorem md_pos (C:bu w s a N) (hj:j<a.M) (h:(a.mc j).md≠0):∃ mj:Mc,w.all[j]?=some mj/\mj.inn=true/\mj.st=2/\0<mj.tm/\(a.mc j).pl=mj.pl:=by
 have hjM:j<w.all.length:=by rw [C.A.lA,<- C.A.M];exact hj
 have hjw:w.all[j]?=some (w.all[j]'hjM):=ah hjM;have ⟨f,hf⟩:=C.A.pP hjw;have e:=C.A.mc j _ f hjw hf;refine ⟨_,hjw,?_⟩;rw [e] at h;rw [e];unfold amOf at h ⊢;split at h
 . exact absurd rfl h
 . rename_i h0;rw [if_neg h0];by_cases h1:(w.all[j]'hjM).inn=true/\(w.all[j]'hjM).st=2/\0<(w.all[j]'hjM).tm
   . exact ⟨h1.1,h1.2.1,h1.2.2,rfl⟩
   . rw [if_neg h1] at h;exact absurd rfl h
end
end
section
open Sch
variable {g p:Int} {P:Nat} {l:List Int}
def ga (w:W) (s:dU) (a:St) (i:Nat) (m:Mc) (N:Int):Prop:=
 sX w s i m/\∀ w1 s1 more,Lk w s i m w1 s1 more->∃ m1 b,w1.all[i]?=some m1/\Sch.Act a i b/\bu (doneW w1 i m1 more) s1 b (N+1)/\Kp 1 w w1
section
variable {w:W} {s:dU} {a:St} {i k:Nat} {m:Mc} {N:Int}
theorem tX {m:Mc} :KM P m {m with got:=g,rest:=l}:=⟨rfl,fun _=>⟨rfl,rfl,rfl,rfl,rfl,rfl,rfl,rfl⟩,fun ⟨a,b,c,d⟩=>⟨a,b,c,d⟩⟩
theorem Y4 {m:Mc} :KM P m {m with got:=g}:=⟨rfl,fun _=>⟨rfl,rfl,rfl,rfl,rfl,rfl,rfl,rfl⟩,fun ⟨a,b,c,d⟩=>⟨a,b,c,d⟩⟩
theorem Ps {m:Mc} :KM P m {m with rest:=l}:=⟨rfl,fun _=>⟨rfl,rfl,rfl,rfl,rfl,rfl,rfl,rfl⟩,fun ⟨a,b,c,d⟩=>⟨a,b,c,d⟩⟩
theorem U5 {m:Mc} :KM P m {m with rest:=l,got:=g}:=⟨rfl,fun _=>⟨rfl,rfl,rfl,rfl,rfl,rfl,rfl,rfl⟩,fun ⟨a,b,c,d⟩=>⟨a,b,c,d⟩⟩
theorem U6 {m:Mc} :KM P m {m with nx:=p}:=⟨rfl,fun _=>⟨rfl,rfl,rfl,rfl,rfl,rfl,rfl,rfl⟩,fun ⟨a,b,c,d⟩=>⟨a,b,c,d⟩⟩
theorem U4 {m:Mc} :KM P m {m with tg:=p}:=⟨rfl,fun _=>⟨rfl,rfl,rfl,rfl,rfl,rfl,rfl,rfl⟩,fun ⟨a,b,c,d⟩=>⟨a,b,c,d⟩⟩
theorem km_p {m:Mc} (h:m.pl=2\/m.pl=4\/m.pl=7\/m.pl=10\/m.pl=11\/m.pl=13\/m.pl=15\/m.pl=18\/m.pl=23\/m.pl=27):KM P m {m with p:=p}:=⟨rfl,fun _=>⟨rfl,rfl,rfl,rfl,rfl,rfl,rfl,by rw [lock_0 h,lock_0 (m:={m with p:=p}) h]⟩,fun ⟨a,b,c,d⟩=>⟨a,b,c,d⟩⟩
section
variable (C:bu w s a N) (hN:N<100000000) (hi:w.all[i]?=some m) (hin:m.inn=true) (hst:m.st=2)
include C hN hi hin hst
theorem pd {w1:W} {m1:Mc} {more:Bool} (np:m.pl≠14/\m.pl≠25/\m.pl≠29/\m.pl≠30) (e:doX w i m=some (w1,more)) (h1:w1.all[i]?=some m1) (K:Kp 1 w w1) (hm:more=true->m.tm=0/\(m.pl=23\/m.pl=29\/m.pl=30)) (sim:∃ b,Sch.Act a i b/\IsA (doneW w1 i m1 more) s b):ga w s a i m N:=by
 refine ⟨.pure e,fun w2 s2 more2 d=>?_⟩;cases d with
 | pure e2=>rw [e] at e2;cases e2;have ⟨b,act,hA⟩:=sim;exact ⟨m1,b,h1,act,C.uS hN K hi hin hst h1 hm hA (Sch.Act.inv C.I C.J.R (C.A.yO hi) act) (Sch.Act.inv2 C.I C.J (C.A.yO hi) act) (C.S.more (by omega))⟩
 | check hp=>omega
 | deliver hp=>omega
 | park0 hp=>omega
 | await0 hp=>omega
 | awaitNo hp=>omega
 | out1 hp=>omega
theorem xj (htm:m.tm=0):a.mc i=rawA m 0:=by have ⟨f,hf,em⟩:=A_mc C.A hi hin hst htm;exact em
theorem Zb (htm:m.tm=0) (hp:m.pl=2):ga w s a i m N:=by
 have hgl:=IA C;cases hg:w.gl with
 | nil=>refine pd C hN hi hin hst (w1:=({w with gl:=[]}:W).aL i false) (m1:=m) (more:=false) (by omega) ?_ hi ((Kp.gl.trans Kp.aL).le (by omega)) (by simp) (sim_oneNo C.A hi hin hst htm hp hg);unfold doX;rw [if_pos hp,pQ];simp [hg,oneW,foundW]
 | cons g l=>refine pd C hN hi hin hst (w1:=(({w with gl:=l}:W).aL i true).az i {m with got:=g,rest:=[]}) (m1:={m with got:=g,rest:=[]}) (more:=false) (by omega) ?_ (setm_at hi) (((Kp.gl.trans Kp.aL).trans (Kp.az hi tX)).le (by omega)) (by simp) (Ge C.A hi hin hst htm hp hg);unfold doX;rw [if_pos hp,pQ];simp [hg,oneW,foundW]
theorem Za (htm:m.tm=0) (hp:m.pl=3):ga w s a i m N:=by
 have V:=C.valOf hi (xj C hN hi hin hst htm);have vp:=V.p;rw [if_neg (by unfold gm rawA;simp only;omega)] at vp;have vp:0<=m.p/\m.p<w.P:=vp;obtain ⟨k,hk⟩:∃ k:Nat,m.p=k:=⟨m.p.toNat,by omega⟩
 have hkl:k<w.rings.length:=by rw [C.A.lR];omega
 obtain ⟨r,hr⟩:∃ r,w.rings[k]?=some r:=⟨_,ah hkl⟩
 have hs:=C.rg k r hr;have hs':=G8 hs;have e:doX w i m=some (oneW (w.gG k r.get.1) i m r.get.2.1 r.get.2.2,false):=by unfold doX IL;rw [nQ,nQ,nQ,nQ,nQ,nQ,nQ,nQ,nQ,if_pos hp,pQ,hk,aC,hr];simp only;rw [pQ]
 have Kr:Kp 0 w (w.gG k r.get.1):=Kp.gG hr fun _=>hs';cases hg:r.get.2.2 with
 | false=>rw [hg] at e;exact pd C hN hi hin hst (by omega) e (m1:=m) hi ((Kr.trans Kp.aL).le (by omega)) (by simp) (sim_localNo C.A hi hin hst htm hp hk hr hg)
 | true=>rw [hg] at e;exact pd C hN hi hin hst (by omega) e (m1:={m with got:=r.get.2.1,rest:=[]}) (setm_at hi) (((Kr.trans Kp.aL).trans (Kp.az hi tX)).le (by omega)) (by simp) (BR C.A hi hin hst htm hp hk hr hg)
theorem EM (hg:w.gl≠[]):∃ g r l,w.gl=g::(r++l)/\w.gl.take (shareN w.gl.length w.P)=g::r/\w.gl.drop (shareN w.gl.length w.P)=l:=by
 have hpos:0<shareN w.gl.length w.P:=xb (eX.2 hg);cases ht:w.gl.take (shareN w.gl.length w.P) with
 | nil=>rw [Ae] at ht;rcases ht with h0 | h0;omega;exact absurd h0 hg
 | cons g r=>refine ⟨g,r,_,?_,rfl,rfl⟩;rw [<- nP,<- ht,List.take_append_drop]
theorem Y9 (htm:m.tm=0) (hp:m.pl=4):ga w s a i m N:=by
 have hgl:=IA C;have e:doX w i m=some (foundW {w with gl:=w.gl.drop (shareN w.gl.length w.P)} i m (w.gl.take (shareN w.gl.length w.P)),false):=by unfold doX IL;rw [nQ,nQ,nQ,nQ,nQ,nQ,nQ,nQ,nQ,nQ,if_pos hp,pQ]
 by_cases hg:w.gl=[]
 . rw [hg] at e;simp [List.take_nil,List.drop_nil] at e;exact pd C hN hi hin hst (by omega) e (m1:=m) hi ((Kp.gl.trans Kp.aL).le (by omega)) (by simp) (BS C.A hi hin hst htm hp hg)
 . have ⟨g,r,l,h1,h2,h3⟩:=EM C hN hi hin hst hg;rw [h2,h3] at e;exact pd C hN hi hin hst (by omega) e (m1:={m with got:=g,rest:=r}) (setm_at hi) (((Kp.gl.trans Kp.aL).trans (Kp.az hi tX)).le (by omega)) (by simp) (yT C.A hi hin hst htm hp h1)
theorem Y8 (htm:m.tm=0) (hp:m.pl=6):ga w s a i m N:=by
 have V:=C.valOf hi (xj C hN hi hin hst htm);have vp:=V.p;rw [if_neg (by unfold gm rawA;simp only;omega)] at vp;have vp:0<=m.p/\m.p<w.P:=vp;have vi:1<=m.ii/\m.ii<w.P:=V.ii.2.2.1 hp;have hP:=C.P;have hm0:0<=(m.p+m.ii) % (w.P:Int):=oR _ (by omega);have hm1:(m.p+m.ii) % (w.P:Int)<w.P:=qt _ (by omega);obtain ⟨k,hk⟩:∃ k:Nat,((m.p+m.ii) % (w.P:Int)).toNat=k:=⟨_,rfl⟩
 have hkl:k<w.rings.length:=by rw [C.A.lR];omega
 obtain ⟨r,hr⟩:∃ r,w.rings[k]?=some r:=⟨_,ah hkl⟩
 have hl:=Ia C hr;have hrow:r.row.length<=(ringL r).length:=Gi;have hs':=BH (C.rg k r hr);have e:doX w i m=some (foundW (w.gG k r.fp.1) i m r.fp.2,false):=by unfold doX IL;rw [nQ,nQ,nQ,nQ,nQ,nQ,nQ,nQ,nQ,nQ,nQ,if_pos hp,pQ,hk,hr];simp only;rw [pQ]
 have Kr:Kp 0 w (w.gG k r.fp.1):=Kp.gG hr fun _=>hs';cases hg:r.fp.2 with
 | nil=>rw [hg] at e;exact pd C hN hi hin hst (by omega) e (m1:=m) hi ((Kr.trans Kp.aL).le (by omega)) (by simp) (sim_stealNo C.A hi hin hst htm hp hk hr hg)
 | cons g l=>rw [hg] at e;exact pd C hN hi hin hst (by omega) e (m1:={m with got:=g,rest:=l}) (setm_at hi) (((Kr.trans Kp.aL).trans (Kp.az hi tX)).le (by omega)) (by simp) (BO C.A hi hin hst htm hp hk hr hg)
theorem Y7 (htm:m.tm=0) (hp:m.pl=7):ga w s a i m N:=by
 have em:=xj C hN hi hin hst htm;have V:=C.valOf hi em;have vp:=V.p;rw [if_neg (by unfold gm rawA;simp only;omega)] at vp;have vp:0<=m.p/\m.p<w.P:=vp;obtain ⟨k,hk⟩:∃ k:Nat,m.p=k:=⟨m.p.toNat,by omega⟩
 have hgl:=IA C;by_cases hg:w.gl=[]
 . have ⟨h1,h2⟩:=Sf C (C.A.yO hi) (p:=k) (by omega) (by rw [em];exact hk);have hpl:=xn C;have e:doX w i m=some (({w.aL i false with ip:=insP k w.ip}:W).az i {m with p:=-1},false):=by unfold doX;rw [nQ,if_pos hp,if_neg (fun h=>h hg),hk,aC,if_pos ⟨by omega,by omega,h1,h2,by omega⟩]
   refine pd C hN hi hin hst (by omega) e (m1:={m with p:=-1}) (setm_at (m:=m) hi) (((Kp.aL.trans Kp.ip).trans (Kp.az (m:=m) hi (km_p (by omega)))).le (by omega)) (by simp) (sim_releaseNo C.A hi hin hst htm hp hg hk fun j hj h23=>?_);refine cU fun h=>?_;have ⟨mj,q1,q2,q3,q4,q5⟩:=md_pos C hj h;have:=lock_alone C hi hin hst q1 q2 q3 (by rw [lock_0 (by omega),lock_0 (by omega)]);subst this;rw [hi] at q1;cases q1;omega
 . have ⟨g,r,l,h1,h2,h3⟩:=EM C hN hi hin hst hg;have e:doX w i m=some (foundW {w with gl:=w.gl.drop (shareN w.gl.length w.P)} i m (w.gl.take (shareN w.gl.length w.P)),false):=by unfold doX;rw [nQ,if_pos hp,if_pos hg,pQ]
   rw [h2,h3] at e;exact pd C hN hi hin hst (by omega) e (m1:={m with got:=g,rest:=r}) (setm_at hi) (((Kp.gl.trans Kp.aL).trans (Kp.az hi tX)).le (by omega)) (by simp) (w9 C.A hi hin hst htm hp h1)
theorem Y6 (htm:m.tm=0) (hp:m.pl=9):ga w s a i m N:=by
 have V:=C.valOf hi (xj C hN hi hin hst htm);have vi:m.ii<w.P:=V.ii.2.2.2 hp;have vj:0<=m.ii:=V.ii.1;obtain ⟨k,hk⟩:∃ k:Nat,m.ii=k:=⟨m.ii.toNat,by omega⟩
 have hkl:k<w.rings.length:=by rw [C.A.lR];omega
 obtain ⟨r,hr⟩:∃ r,w.rings[k]?=some r:=⟨_,ah hkl⟩
 have e:doX w i m=some (w.aL i (decide (r.row≠[]\/r.is=true)),false):=by unfold doX;rw [nQ,nQ,if_pos hp,if_pos vj,hk,aC,hr]
 exact pd C hN hi hin hst (by omega) e (m1:=m) hi (Kp.aL.le (by omega)) (by simp) (LZ C.A hi hin hst htm hp hk hr)
theorem Vw (htm:m.tm=0) (hp:m.pl=10):ga w s a i m N:=by
 have e:doX w i m=some (w.aL i (decide (w.gl≠[])),false):=by unfold doX;rw [nQ,nQ,nQ,if_pos hp]
 exact pd C hN hi hin hst (by omega) e (m1:=m) hi (Kp.aL.le (by omega)) (by simp) (JE C.A hi hin hst htm hp)
theorem Vv (htm:m.tm=0) (hp:m.pl=11):ga w s a i m N:=by
 cases hn:w.ip with
 | nil=>
  have e:doX w i m=some (w.aL i false,false):=by unfold doX;rw [nQ,nQ,nQ,nQ,if_pos hp,hn]
  exact pd C hN hi hin hst (by omega) e (m1:=m) hi (Kp.aL.le (by omega)) (by simp) (BQ C.A hi hin hst htm hp hn)
 | cons p L=>
  have e:doX w i m=some ((({w with ip:=L}:W).aL i true).az i {m with p:=(p:Int)},false):=by unfold doX;rw [nQ,nQ,nQ,nQ,if_pos hp,hn]
  exact pd C hN hi hin hst (by omega) e (m1:={m with p:=(p:Int)}) (setm_at hi) (((Kp.ip.trans Kp.aL).trans (Kp.az (m:=m) hi (km_p (by omega)))).le (by omega)) (by simp) (yS C.A hi hin hst htm hp hn)
theorem Vu (htm:m.tm=0) (hp:m.pl=13):ga w s a i m N:=by
 have em:=xj C hN hi hin hst htm;have V:=C.valOf hi em;have hsp:m.sp=false:=by
  cases h:m.sp with
  | false=>rfl
  | true=>have:=V.sp h;unfold rawA at this;simp only at this;omega
 have hpl:=xn C;have hms:=Iq C
 have kmsp:∀ (p:Int) (b:Bool),KM w.P m {m with p:=p,sp:=b}:=fun p b=>⟨rfl,fun _=>⟨rfl,rfl,rfl,rfl,rfl,rfl,rfl,(lock_0 (m:={m with p:=p,sp:=b}) (by simp only;omega)).trans (lock_0 (m:=m) (by omega)).symm⟩,fun ⟨a,b,c,d⟩=>⟨a,b,c,d⟩⟩
 have kms:∀ (b:Bool),KM w.P m {m with sp:=b}:=fun b=>⟨rfl,fun _=>⟨rfl,rfl,rfl,rfl,rfl,rfl,rfl,rfl⟩,fun ⟨a,b,c,d⟩=>⟨a,b,c,d⟩⟩
 cases hn:w.pend with
 | cons p L=>
  have hL:L.length<=1000:=by rw [hn] at hpl;simp at hpl;omega
  have e:doX w i m=some ((({w with pend:=L}:W).aL i true).az i {m with p:=p,sp:=true},false):=by unfold doX;rw [nQ,nQ,nQ,nQ,nQ,if_pos hp,hn];simp only;rw [if_pos hL]
  exact pd C hN hi hin hst (by omega) e (m1:={m with p:=p,sp:=true}) (setm_at hi) (((Kp.pend.trans Kp.aL).trans (Kp.az (m:=m) hi (kmsp p true))).le (by omega)) (by simp) (BM C.A hi hin hst htm hp hn)
 | nil=>
  have ⟨h1,h2⟩:=Ec C (C.A.yO hi) (by unfold aU;rw [if_neg];rw [em];unfold rawA;simp only;omega);have e:doX w i m=some (if w.q=-1 then ({(w.aL i true).az i {m with sp:=false} with q:=(i:Int)}:W) else {(w.aL i false).az i {m with sp:=false} with ms:=w.ms++[(i:Int)]},false):=by unfold doX;rw [nQ,nQ,nQ,nQ,nQ,if_pos hp,hn];simp only;rw [if_pos ⟨C.A.lt hi,h1,h2,by omega⟩]
  by_cases hq:w.q=-1
  . rw [if_pos hq] at e;exact pd C hN hi hin hst (by omega) e (m1:={m with sp:=false}) (setm_at (w:=w.aL i true) (m:=m) hi) (((Kp.aL.trans (Kp.az (m:=m) hi (kms false))).trans Kp.q).le (by omega)) (by simp) (BK C.A hi hin hst htm hp hsp hn hq)
  . rw [if_neg hq] at e;exact pd C hN hi hin hst (by omega) e (m1:={m with sp:=false}) (setm_at (w:=w.aL i false) (m:=m) hi) (((Kp.aL.trans (Kp.az (m:=m) hi (kms false))).trans Kp.ms).le (by omega)) (by simp) (BN C.A hi hin hst htm hp hsp hn hq)
theorem Vr (htm:m.tm=0) (hp:m.pl=15):ga w s a i m N:=by
 have e:doX w i m=some (if w.q=(i:Int) then ({w.aL i true with q:=-1}:W) else w.aL i false,false):=by unfold doX;rw [nQ,nQ,nQ,nQ,nQ,nQ,if_pos hp]
 by_cases hq:w.q=(i:Int)
 . rw [if_pos hq] at e;exact pd C hN hi hin hst (by omega) e (m1:=m) hi ((Kp.aL.trans Kp.q).le (by omega)) (by simp) (yR C.A hi hin hst htm hp hq)
 . rw [if_neg hq] at e;exact pd C hN hi hin hst (by omega) e (m1:=m) hi (Kp.aL.le (by omega)) (by simp) (BJ C.A hi hin hst htm hp hq)
theorem Vn (htm:m.tm=0) (hp:m.pl=27):ga w s a i m N:=by
 have hgl:=IA C;have e:doX w i m=some (({w with gl:=w.gl++[m.got]}:W).az i {m with got:=-1},false):=by unfold doX;rw [nQ,nQ,nQ,nQ,nQ,nQ,nQ,if_pos hp,pQ]
 exact pd C hN hi hin hst (by omega) e (m1:={m with got:=-1}) (setm_at hi) (((Kp.gl (w:=w) (l:=w.gl++[m.got])).trans (Kp.az (w:={w with gl:=w.gl++[m.got]}) (m:=m) hi Y4)).le (by omega)) (by simp) (Gd C.A hi hin hst htm hp)
theorem Vq (htm:m.tm=0) (hp:m.pl=17):ga w s a i m N:=by
 have em:=xj C hN hi hin hst htm;have V:=C.valOf hi em;have vp:=V.p;rw [if_neg (by unfold gm rawA;simp only;omega)] at vp;have vp:0<=m.p/\m.p<w.P:=vp;obtain ⟨k,hk⟩:∃ k:Nat,m.p=k:=⟨m.p.toNat,by omega⟩
 have hkl:k<w.rings.length:=by rw [C.A.lR];omega
 obtain ⟨r,hr⟩:∃ r,w.rings[k]?=some r:=⟨_,ah hkl⟩
 have hl:=B7 C hr (C.A.yO hi);rw [em] at hl;have hl:(ringL r).length+m.rest.length<=40:=hl;have hrow:r.row.length<=(ringL r).length:=Gi;have e:doX w i m=some ((w.gG k {r with row:=r.row++m.rest}).az i {m with rest:=[]},false):=by unfold doX IL;rw [nQ,nQ,nQ,nQ,nQ,nQ,nQ,nQ,nQ,nQ,nQ,nQ,if_pos hp,pQ,hk,aC,hr];simp only;rw [pQ]
 exact pd C hN hi hin hst (by omega) e (m1:={m with rest:=[]}) (setm_at hi) (((Kp.gG (r':={r with row:=r.row++m.rest}) hr fun h=>h).trans (Kp.az (m:=m) hi Ps)).le (by omega)) (by simp) (DQ C.A hi hin hst htm hp hk hr)
theorem Vm (htm:m.tm=0) (hp:m.pl=28):ga w s a i m N:=by
 have em:=xj C hN hi hin hst htm;have V:=C.valOf hi em;have vp:=V.p;rw [if_neg (by unfold gm rawA;simp only;omega)] at vp;have vp:0<=m.p/\m.p<w.P:=vp;have hsp:m.sp=false:=by
  cases h:m.sp with
  | false=>rfl
  | true=>have:=V.sp h;unfold rawA at this;simp only at this;omega
 obtain ⟨k,hk⟩:∃ k:Nat,m.p=k:=⟨m.p.toNat,by omega⟩
 have hkl:k<w.rings.length:=by rw [C.A.lR];omega
 obtain ⟨r,hr⟩:∃ r,w.rings[k]?=some r:=⟨_,ah hkl⟩
 have hl:=Ia C hr;have hrow:r.row.length<=(ringL r).length:=Gi;have e:doX w i m=some ((w.gG k (r.ready m.got)).az i {m with rest:=[],got:=-1},false):=by unfold doX IL;rw [nQ,nQ,nQ,nQ,nQ,nQ,nQ,nQ,nQ,nQ,nQ,nQ,nQ,if_pos hp,pQ,hk,aC,hr];simp only;rw [pQ]
 exact pd C hN hi hin hst (by omega) e (m1:={m with rest:=[],got:=-1}) (setm_at hi) (((Kp.gG (r':=r.ready m.got) hr fun h=>h).trans (Kp.az (m:=m) hi U5)).le (by omega)) (by simp) (DR C.A hi hin hst htm hp hsp hk hr)
theorem doX_23 (hp:m.pl=23):doX w i m=findX w i m:=by unfold doX;rw [nQ,nQ,nQ,nQ,nQ,nQ,nQ,nQ,if_pos hp]
theorem Vp (hp:m.pl=23):ga w s a i m N:=by
 have o:=C.L.inn i m hi hin;have htm:=o.tm (by omega);have hiM:=C.A.yO hi
 rcases htm with htm | ⟨_,htm,_⟩
 . have em:=xj C hN hi hin hst htm;have V:=C.valOf hi em;have vt:=V.tg;rw [if_neg (by unfold rawA;simp only;omega)] at vt;have vt:m.tg=-1:=vt
   cases hn:w.ip with
   | nil=>
    have e:doX w i m=some (w,true):=by
     rw [doX_23 C hN hi hin hst hp];unfold findX;split
     . rw [hn]
     . unfold findW;rw [nQ,if_pos htm,hn]
    exact pd C hN hi hin hst (by omega) e (m1:=m) hi (Kp.refl.le (by omega)) (fun _=>⟨htm,.inl hp⟩) (BV C.A hi hin hst htm hp hn)
   | cons p L=>
    have ⟨q1,q2,q3⟩:=Se C hn;have hpl:=xn C;by_cases hms:w.ms=[]/\w.q=-1
    . have e:doX w i m=some ({w with ip:=L,pend:=w.pend++[(p:Int)]},false):=by rw [doX_23 C hN hi hin hst hp];unfold findX;rw [if_pos ⟨htm,hms⟩,hn];simp only;rw [if_pos ⟨q1,q2,q3,by omega⟩]
      exact pd C hN hi hin hst (by omega) e (m1:=m) hi (((Kp.ip (w:=w) (l:=L)).trans (Kp.pend (w:={w with ip:=L}) (l:=w.pend++[(p:Int)]))).le (by omega)) (by simp) (BT C.A hi hin hst htm hp hn hms.1 hms.2 vt)
    ·
     have hq:=oa C
     have hk:∃ k w2,kH {w with ip:=L}=some (k,w2)/\k<w.M/\((k:Int)∈w.ms\/w.q=(k:Int)):=by
      unfold kH
      cases hl:w.ms.getLast? with
      | some z=>have hz:z∈w.ms:=List.mem_of_getLast? hl;have hr:=C.I.msr z (by rw [C.A.ms];exact hz);rw [C.A.M] at hr;simp only;rw [if_pos hr.1];exact ⟨_,_,rfl,by omega,.inl (by rw [aH hr.1];exact hz)⟩
      | none=>
       have hz:w.ms=[]:=by simpa using hl
       have h0:0<=w.q:=by have:w.q≠-1:=fun e=>hms ⟨hz,e⟩;omega
       simp only;rw [if_pos h0];exact ⟨_,_,rfl,by omega,.inr (aH h0).symm⟩
     have ⟨k,w2,hk,hkM,hkm⟩:=hk
     have hki:k≠i:=by
      rintro rfl;have ⟨n1,n2⟩:=Ec C hiM (by unfold aU;rw [if_neg];rw [em];unfold rawA;simp only;omega);rcases hkm with h | h
      . exact n1 h
      . exact n2 h
     obtain ⟨mk,hmk⟩:∃ mk,w.all[k]?=some mk:=⟨_,ah (by rw [C.A.lA];exact hkM)⟩
     have ha:=qK hk
     have hms12:=Iq C
     have e:doX w i m=some ((w2.az k {mk with nx:=(p:Int)}).az i {m with tg:=(k:Int)},false):=by rw [doX_23 C hN hi hin hst hp];unfold findX;rw [if_neg (fun h=>hms h.2)];unfold findW;rw [nQ,if_pos htm,hn];simp only;rw [hk];simp only;rw [hmk];simp only;rw [if_pos ⟨by omega,hki⟩]
     have K2:Kp 0 w w2:=by
      unfold kH at hk;split at hk
      . split at hk
        . cases hk;exact Kp.ip.trans Kp.ms
        . cases hk
      . split at hk
        . cases hk;exact Kp.ip.trans Kp.q
        . cases hk
     have hmk2:w2.all[k]?=some mk:=by rw [ha];exact hmk
     have hi2:w2.all[i]?=some m:=by rw [ha];exact hi
     have hi3:(w2.az k {mk with nx:=(p:Int)}).all[i]?=some m:=by rw [dV,if_neg fun e=>hki e.1];exact hi2
     refine pd C hN hi hin hst (by omega) e (m1:={m with tg:=(k:Int)}) (setm_at hi3) (((K2.trans (Kp.az (m:=mk) hmk2 U6)).trans (Kp.az (m:=m) hi3 U4)).le (by omega)) (by simp) (JF C.A hi hin hst htm hp hn hk hmk hki)
 . have ⟨f,hf,em⟩:=Fy C.A hi hin hst (by omega);have V:=C.valOf hi em;have vt:=V.tg;rw [if_neg (by unfold rawA;simp only;omega)] at vt;have vt:m.tg=-1:=vt;have e:doX w i m=some (w.cR w.sp (inc (wd w.ws w.sp) (-1)),false):=by rw [doX_23 C hN hi hin hst hp];unfold findX;rw [nQ];unfold findW;rw [pQ]
   refine pd C hN hi hin hst (by omega) e (m1:=m) hi ((Kp.cR (by show 2*w.P+4<=2*(w.P+2);omega)).le (by omega)) (by simp) (BU C.A hi hin hst (by omega) hp vt (tA C hiM ?_));rw [em];unfold Sch.hs rawA;simp only;rw [if_pos hp];omega
end
end
end
section
open Sch
variable {fd g:Int} {l:List Fd}
theorem pB:∀ {hs:List (List En)} {k:Nat} {l:List En},hs[k]?=some l->∃ R,hs.flatten.Perm (l++R)/\∀ l',(hs.set k l').flatten.Perm (l'++R)
 | [],k,l,h=>by simp at h
 | x::hs,0,l,h=>by simp at h;subst h;exact ⟨hs.flatten,by simp,fun l'=>by simp⟩
 | x::hs,k+1,l,h=>by
  simp [av] at h;have ⟨R,h1,h2⟩:=pB h;refine ⟨x++R,?_,fun l'=>?_⟩
  . simp [mr];refine (h1.append_left x).trans ?_;rw [<- cX,<- cX];exact List.perm_append_comm.append_right R
  . simp [List.set_cons_succ,mr];refine ((h2 l').append_left x).trans ?_;rw [<- cX,<- cX];exact List.perm_append_comm.append_right R
section
variable {α:Type} {f:α->Int} {n:α}
theorem Av:∀ {l:List α},(setK f n l).map f=if f n∈l.map f then l.map f else l.map f++[f n]
 | []=>by simp [setK]
 | x::l=>by
  unfold setK;by_cases h:f x=f n
  . rw [if_pos h,if_pos (by simp [h])];simp [h]
  . rw [if_neg h];have ih:=Av (l:=l);simp only [aR,aD];rw [ih];by_cases h2:f n∈l.map f
    . rw [if_pos h2,if_pos (.inr h2)]
    . rw [if_neg h2,if_neg (by rintro (e | e);exact h e.symm;exact h2 e)];rfl
theorem pa:∀ {l:List α} {x:α},(l.map f).Nodup->x∈setK f n l->x=n\/(x∈l/\f x≠f n)
 | [],x,_,h=>by simp [setK] at h;exact .inl h
 | y::l,x,nd,h=>by
  simp only [aR,jh] at nd;unfold setK at h;by_cases hy:f y=f n
  . rw [if_pos hy] at h;simp [aD] at h;rcases h with h | h
    . exact .inl h
    . refine .inr ⟨cH _ h,fun e=>nd.1 ?_⟩;rw [hy,<- e];exact bQ h
  . rw [if_neg hy] at h;simp [aD] at h;rcases h with h | h
    . subst h;exact .inr ⟨by simp,hy⟩
    . rcases pa nd.2 h with h | ⟨h1,h2⟩
      . exact .inl h
      . exact .inr ⟨cH _ h1,h2⟩
theorem DT:∀ {l:List α} {x:α},x∈l->f x≠f n->x∈setK f n l
 | y::l,x,h,hx=>by
  unfold setK;simp [aD] at h;split
  . rename_i hy;rcases h with rfl | h
    . exact absurd hy hx
    . exact cH _ h
  . rcases h with rfl | h
    . simp
    . exact cH _ (DT h hx)
theorem DU:∀ {l:List α},f n∉l.map f->setK f n l=l++[n]
 | [],_=>rfl
 | x::l,h=>by simp only [aR,aD,not_or] at h;unfold setK;rw [if_neg (aY h.1),DU h.2];rfl
theorem xc {l:List α} (nd:(l.map f).Nodup):((setK f n l).map f).Nodup:=by
 rw [Av];split
 . exact nd
 . rename_i h;rw [gY];exact ⟨nd,by simp,fun a ha b hb=>by simp at hb;subst hb;rintro rfl;exact h ha⟩
theorem sC:∀ {l:List α} {x:α},(l.map f).Nodup->x∈l->(l.find? fun y=>decide (f y=f x))=some x
 | y::l,x,nd,h=>by
  simp only [aR,jh] at nd;simp [aD] at h;rcases h with rfl | h
  . simp
  . have:f y≠f x:=fun e=>nd.1 (by rw [e];exact bQ h);simp [List.find?_cons,decide_eq_false this];exact sC nd.2 h
theorem pF:∀ {l:List α} {z:Int},(l.map f).Nodup->((l.eraseP fun x=>decide (f x=z)).map f)=(l.map f).erase z
 | [],z,_=>rfl
 | y::l,z,nd=>by
  simp [aR,jh] at nd;by_cases h:f y=z
  . simp [h]
  . simp only [uv,decide_eq_false h,aR];rw [List.erase_cons_tail (by simpa using h)];have:=pF (z:=z) nd.2;rw [<- this];rfl
theorem om:∀ {l:List α} {x:α} {z:Int},(l.map f).Nodup->(x∈l.eraseP (fun x=>decide (f x=z))↔x∈l/\f x≠z)
 | [],x,z,_=>by simp
 | y::l,x,z,nd=>by
  simp only [aR,jh] at nd;by_cases h:f y=z
  . simp only [uv,decide_eq_true h,cond_true];constructor
    . intro hx;exact ⟨cH _ hx,fun e=>nd.1 (by rw [h,<- e];exact bQ hx)⟩
    . rintro ⟨h1,h2⟩;simp [aD] at h1;rcases h1 with rfl | h1
      . exact absurd h h2
      . exact h1
  . simp [uv,decide_eq_false h,cond_false,aD];rw [om nd.2];constructor
    . rintro (rfl | ⟨h1,h2⟩)
      . exact ⟨.inl rfl,h⟩
      . exact ⟨.inr h1,h2⟩
    . rintro ⟨rfl | h1,h2⟩
      . exact .inl rfl
      . exact .inr ⟨h1,h2⟩
end
section
variable {s s':dU} {P:Nat} {N:Int}
theorem G9 (h:∀ x∈l,x.1≠fd):getFd l fd=(fd,0,false,false):=by unfold getFd;rw [lq.2 (fun x hx=>by simpa using h x hx)];rfl
theorem yi {x:Fd} (nd:(l.map (·.1)).Nodup) (h:x∈l):getFd l x.1=x:=by unfold getFd;rw [sC nd h];rfl
theorem KC (nd:(l.map (·.1)).Nodup) (h:(getFd l fd).2.2.1=true):(fd,(getFd l fd).2.1,true,(getFd l fd).2.2.2)∈l:=by
 by_cases hx:∃ x∈l,x.1=fd
 . obtain ⟨x,hx,rfl⟩:=hx;rw [yi nd hx] at h ⊢;have ⟨a,b,c,d⟩:=x;simp only at h ⊢;rw [<- h];exact hx
 . rw [G9 (fun x hx' e=>hx ⟨x,hx',e⟩)] at h;cases h
theorem CR (S:De s P N) (h:dueS s=true):outS s≠[]:=by
 unfold dueS at h;rw [cw] at h;rcases h with h | h
 . unfold oq at h;rw [fz] at h;have ⟨l,hl,hd⟩:=h;cases l with
   | nil=>cases hd
   | cons e r=>intro hn;unfold outS at hn;have h1:s.t.has=[]:=(List.append_eq_nil_iff.1 hn).1;have h2:e∈s.t.hs.flatten:=List.mem_flatten.2 ⟨_,hl,by simp⟩;have h3:=S.has.mem_iff.1 (bQ (f:=fun e:En=>e.2.2) h2);rw [h1] at h3;cases h3
 . unfold oN at h;rw [fz] at h;have ⟨⟨fd,g,w,r⟩,hx,hd⟩:=h;simp [aA] at hd;rw [hd.1] at hx;have:=S.link fd g r hx;intro hn;unfold outS at hn;have h1:=(List.append_eq_nil_iff.1 hn).2;rw [Dn] at h1;rw [h1] at this;cases this
theorem LR (S:De s P N) {k:Nat} {d:Int} (r:HA s k g d s'):De s' P (N+1)/\(∀ x,(outS s').count x=(outS s).count x+if x=g then 1 else 0)/\(dueS s=true->dueS s'=true):=by
 obtain ⟨l,l',hk,rfl,hp,hh,hz⟩:=r;have ⟨R,h1,h2⟩:=pB hk;refine ⟨⟨by simp [S.hl],?_,S.fds,S.sz,S.link,S.wa,by simp only;have:=S.ord;omega,S.now⟩,fun x=>?_,fun h=>?_⟩
 . simp only
   have e1:=((h2 l').map fun e:En=>e.2.2)
   have e2:((l'++R).map fun e:En=>e.2.2).Perm (((l++R).map fun e:En=>e.2.2)++[g]):=by simp [oP];refine ((hp.map fun e:En=>e.2.2).append_right _).trans ?_;simp only [oP,aR,eT,cX];exact List.Perm.append_left _ List.perm_append_comm
   exact (e1.trans e2).trans (((h1.map fun e:En=>e.2.2).symm.trans S.has).append_right [g])
 . unfold outS;simp [bq,bR,List.count_nil,beq_iff_eq];by_cases hx:x=g
   . simp [hx];omega
   . simp [hx,aY hx]
 . unfold dueS at h ⊢;rw [cw] at h ⊢;rcases h with h | h
   . left;unfold oq at h ⊢;rw [fz] at h ⊢;have ⟨q,hq,hd⟩:=h;by_cases hql:q=l
     . subst hql
       cases q with
       | nil=>cases hd
       | cons e r=>
        have hkl:=(aa.1 hk).1;refine ⟨l',mX.2 ⟨k,by simp [hkl]⟩,?_⟩
        cases l' with
        | nil=>have:=hp.length_eq;simp at this
        | cons e' r'=>have:=hh e' e rfl rfl;simp [decide_eq_true_eq] at hd ⊢;omega
     . have ⟨j,hj⟩:=mX.1 hq;have hjk:k≠j:=by rintro rfl;rw [hk] at hj;cases hj;exact hql rfl
       exact ⟨q,mX.2 ⟨j,by simp only;rw [aj hjk];exact hj⟩,hd⟩
   . exact .inr h
theorem Ox (S:De s P N) (hfd:0<=fd/\fd<65536) (hg:g∉outS s) (hn:jN s.p fd g=false):De (waitS s fd g) P (N+1)/\(∀ x,(outS (waitS s fd g)).count x=(outS s).count x+if x=g then 1 else 0)/\(dueS s=true->dueS (waitS s fd g)=true):=by
 unfold jN at hn;simp [hH] at hn;have ⟨⟨hw,hf⟩,hfull⟩:=hn;have hgw:g∉s.p.who.map (·.1):=fun h=>hg (cf _ h);have ew:setK (·.1) (g,fd) s.p.who=s.p.who++[(g,fd)]:=DU hgw;have nd:=S.fds.nd;refine ⟨⟨S.hl,S.has,⟨?_,xc nd,?_⟩,?_,?_,?_,by simp [waitS];have:=S.ord;omega,S.now⟩,fun x=>?_,fun h=>?_⟩
 . intro x hx;rcases pa nd hx with rfl | ⟨h1,_⟩
   . exact hfd
   . exact S.fds.r x h1
 . have:=S.sz;have e:=lL (f:=fun x:Fd=>x.1) (fd,g,true,(getFd s.p.fds fd).2.2.2) s.p.fds;show (setK (·.1) (fd,g,true,(getFd s.p.fds fd).2.2.2) s.p.fds).length<=100000;rw [e];split<;>omega
 . have:=S.sz;have e:=lL (f:=fun x:Fd=>x.1) (fd,g,true,(getFd s.p.fds fd).2.2.2) s.p.fds;show (setK (·.1) (fd,g,true,(getFd s.p.fds fd).2.2.2) s.p.fds).length<=1024;rw [e];split
   . exact S.sz
   . rename_i h1;unfold nC at hfull;have h1:(s.p.fds.find? fun x=>decide (x.1=fd)).isSome=false:=Bool.eq_false_iff.2 h1;have h2:(s.p.fds.find? fun x=>decide (x.1=fd)).isNone=true:=by
      cases hz:s.p.fds.find? fun x=>decide (x.1=fd) with
      | none=>rfl
      | some z=>rw [hz] at h1;cases h1
     rw [h2] at hfull;simp at hfull;omega
 . intro fd' g' r' hx;show (g',fd')∈setK (·.1) (g,fd) s.p.who;rw [ew];rcases pa nd hx with e | ⟨h1,_⟩
   . cases e;simp
   . exact bp _ (S.link fd' g' r' h1)
 . show s.waits+1=((setK (·.1) (g,fd) s.p.who).length:Int)
   rw [ew,S.wa];simp
 . show (s.t.has++(setK (·.1) (g,fd) s.p.who).map (·.1)).count x=_;rw [ew];unfold outS;simp [oP,aR,eT,bq,bR,List.count_nil,beq_iff_eq];by_cases hx:x=g
   . simp [hx];omega
   . simp [hx,aY hx]
 . unfold dueS at h ⊢;rw [cw] at h ⊢;rcases h with h | h
   . exact .inl h
   . right;unfold oN at h ⊢;rw [fz] at h ⊢;have ⟨x,hx,hd⟩:=h;have hxf:x.1≠fd:=by rintro rfl;rw [yi nd hx] at hw;rw [hw] at hd;cases hd
     exact ⟨x,DT hx hxf,hd⟩
theorem O0 (S:De s P N) (hfd:0<=fd/\fd<65536) (hfull:nC s.p.fds fd=false):De (kI s fd) P (N+1)/\outS (kI s fd)=outS s:=by
 have nd:=S.fds.nd;refine ⟨⟨S.hl,S.has,⟨?_,xc nd,?_⟩,?_,?_,S.wa,by simp [kI];have:=S.ord;omega,S.now⟩,rfl⟩
 . intro x hx;rcases pa nd hx with rfl | ⟨h1,_⟩
   . exact hfd
   . exact S.fds.r x h1
 . have:=S.sz;have e:=lL (f:=fun x:Fd=>x.1) (fd,(getFd s.p.fds fd).2.1,(getFd s.p.fds fd).2.2.1,true) s.p.fds;show (setK (·.1) (fd,(getFd s.p.fds fd).2.1,(getFd s.p.fds fd).2.2.1,true) s.p.fds).length<=100000;rw [e];split<;>omega
 . have:=S.sz;have e:=lL (f:=fun x:Fd=>x.1) (fd,(getFd s.p.fds fd).2.1,(getFd s.p.fds fd).2.2.1,true) s.p.fds;show (setK (·.1) (fd,(getFd s.p.fds fd).2.1,(getFd s.p.fds fd).2.2.1,true) s.p.fds).length<=1024;rw [e];split
   . exact S.sz
   . rename_i h1;unfold nC at hfull;have h1:(s.p.fds.find? fun x=>decide (x.1=fd)).isSome=false:=Bool.eq_false_iff.2 h1;have h2:(s.p.fds.find? fun x=>decide (x.1=fd)).isNone=true:=by
      cases hz:s.p.fds.find? fun x=>decide (x.1=fd) with
      | none=>rfl
      | some z=>rw [hz] at h1;cases h1
     rw [h2] at hfull;simp at hfull;omega
 . intro fd' g' r' hx;rcases pa nd hx with e | ⟨h1,_⟩
   . simp only [an] at e;obtain ⟨rfl,rfl,e3,rfl⟩:=e;exact S.link _ _ _ (KC nd e3.symm)
   . exact S.link fd' g' r' h1
theorem RH (S:De s P N) (d:Int):De (gd s d) P (N+1)/\outS (gd s d)=outS s:=
 ⟨⟨S.hl,S.has,S.fds,S.sz,S.link,S.wa,by simp [gd];have:=S.ord;omega,(sumC_range S.now (by omega)).1⟩,rfl⟩
theorem FZ (S:De s P N) (nd:∀ x,(outS s).count x<=1) (t:yG s s' g true):De s' P (N+1)/\dueS s=true/\∀ x,(outS s).count x=(outS s').count x+if x=g then 1 else 0:=by
 have ho:=S.ord;cases t with
 | @timer k e r l' hd hk hle hp=>
  have ⟨R,h1,h2⟩:=pB hk;have hm:e.2.2∈s.t.has:=S.has.mem_iff.1 (bQ (f:=fun e:En=>e.2.2) (h1.mem_iff.2 (by simp)));refine ⟨⟨by simp [S.hl],?_,S.fds,S.sz,S.link,S.wa,by simp only;omega,S.now⟩,by unfold dueS;rw [hd];rfl,fun x=>?_⟩
  . simp only;have e1:=((h2 l').map fun e:En=>e.2.2)
    have e2:((l'++R).map fun e:En=>e.2.2).Perm ((r++R).map fun e:En=>e.2.2):=(hp.append_right R).map _;have e3:=(h1.map fun e:En=>e.2.2).symm.trans S.has;have e4:(e.2.2::(r++R).map fun e:En=>e.2.2).Perm s.t.has:=by simpa using e3
    have e5:=e4.erase e.2.2;rw [List.erase_cons_head] at e5;exact (e1.trans e2).trans e5
  . unfold outS;simp [bq];by_cases hx:x=e.2.2
    . subst hx;have:=bc.2 hm;rw [List.count_erase_self,if_pos rfl];omega
    . rw [List.count_erase_of_ne hx,if_neg hx];omega
 | @poll fd g hd hm=>
  have ndf:=S.fds.nd;have hw:=S.link fd g true hm;have ndw:(s.p.who.map (·.1)).Nodup:=List.nodup_iff_count.2 fun x=>by have:=nd x;unfold outS at this;rw [bq] at this;omega
  have hgm:g∈s.p.who.map (·.1):=bQ (f:=fun x:Int×Int=>x.1) hw;have ek:=pF (f:=fun x:Int×Int=>x.1) (z:=g) ndw;refine ⟨⟨S.hl,S.has,⟨?_,?_,?_⟩,?_,?_,?_,by simp only;omega,S.now⟩,?_,fun x=>?_⟩
  . intro x hx;exact S.fds.r x ((om ndf).1 hx).1
  . show ((s.p.fds.eraseP fun x=>decide (x.1=fd)).map (·.1)).Nodup;rw [pF (f:=fun x:Fd=>x.1) ndf];exact ndf.erase _
  . have h1:(s.p.fds.eraseP fun x=>decide (x.1=fd)).length<=s.p.fds.length:=List.length_eraseP_le;have:=S.sz;show (s.p.fds.eraseP fun x=>decide (x.1=fd)).length<=100000;omega
  . have h1:(s.p.fds.eraseP fun x=>decide (x.1=fd)).length<=s.p.fds.length:=List.length_eraseP_le;have:=S.sz;show (s.p.fds.eraseP fun x=>decide (x.1=fd)).length<=1024;omega
  . intro fd' g' r' hx;have ⟨h1,h2⟩:=(om (f:=fun x:Fd=>x.1) ndf).1 hx;have h3:=S.link fd' g' r' h1;show (g',fd')∈s.p.who.eraseP fun x=>decide (x.1=g);refine (om (f:=fun x:Int×Int=>x.1) ndw).2 ⟨h3,?_⟩;intro e;have e:g'=g:=e;subst e;have f1:=sC (f:=fun x:Int×Int=>x.1) ndw h3;have f2:=sC (f:=fun x:Int×Int=>x.1) ndw hw;simp only at f1 f2;rw [f1] at f2;cases f2;exact h2 rfl
  . show s.waits-1=((s.p.who.eraseP fun x=>decide (x.1=g)).length:Int)
    have h1:(s.p.who.eraseP fun x=>decide (x.1=g)).length=s.p.who.length-1:=List.length_eraseP_of_mem hw (by simp);have h2:=List.length_pos_of_mem hw;rw [h1,S.wa];omega
  . unfold dueS;have:oN s.p.fds=true:=by unfold oN;rw [fz];exact ⟨_,hm,rfl⟩
    rw [this,vK]
  . show (s.t.has++s.p.who.map (·.1)).count x=(s.t.has++(s.p.who.eraseP fun x=>decide (x.1=g)).map (·.1)).count x+_;have ek':(s.p.who.eraseP fun x=>decide (x.1=g)).map (·.1)=(s.p.who.map (·.1)).erase g:=ek;rw [ek'];simp [bq];by_cases hx:x=g
    . subst hx;have:=bc.2 hgm;rw [List.count_erase_self,if_pos rfl];omega
    . rw [List.count_erase_of_ne hx,if_neg hx];omega
end
end
end Go.Proofs.YtblhcbmcbhoeiaaGreatDoor.Ev
