/- Part 6 of the proof. -/
import Derived.Test.YtblhcbmcbhoeiaaGreatDoorPkE
set_option linter.all false
set_option maxRecDepth 100000
namespace Go.Proofs.YtblhcbmcbhoeiaaGreatDoor.Ev
open Go
section
open Sch
section
variable {w:W} {s:dU} {a:St} {i k:Nat} {m:Mc} {N:Int}
theorem doX_none (h:m.pl=14\/m.pl=25\/m.pl=29\/m.pl=30):doX w i m=none:=by unfold doX IL;rcases h with h | h | h | h<;>simp [h]
theorem AK (C:bu w s a N) (x:Int):(outS s).count x<=1:=by
 by_cases hx:0<=x/\x<a.G
 . obtain ⟨g,rfl⟩:∃ g:Nat,x=g:=⟨x.toNat,by omega⟩
   have hg:g<a.G:=by omega
   have h1:=C.J.out g hg;have h2:=C.J.run g hg;have h3:=iw (f:=fun j=>Sch.ho (a.mc j) g) (g:=fun j=>Sch.hr (a.mc j) g) (n:=a.M) fun j _=>by
    unfold Sch.ho Sch.hr;split
    . rename_i h;rw [if_pos h.1];omega
    . omega
   have h4:qU (a.stt g)+pz (a.stt g)<=1:=by unfold qU pz;split<;>split<;>omega
   rw [C.A.out] at h1;omega
 . have:x∉outS s:=fun h=>hx (C.J.R.out x (by rw [C.A.out];exact h));rw [gE.2 this];omega
theorem vT (C:bu w s a N):(outS s).length<=40:=by have h:=py (n:=a.G) (l:=outS s) (fun x hx=>C.J.R.out x (by rw [C.A.out];exact hx)) fun g hg=>AK C g;have:=C.A.G;have:=C.G;omega
theorem Eb (C:bu w s a N) (hi:i<a.M) {g:Nat} (hg:g<a.G) (h:(a.mc i).g=(g:Int)) (hmd:(a.mc i).md=0):(g:Int)∉outS s:=by
 have h1:=C.J.out g hg;have h2:=C.J.run g hg;have h3:=iw (f:=fun j=>Sch.ho (a.mc j) g) (g:=fun j=>if j=i then 0 else Sch.hr (a.mc j) g) (n:=a.M) fun j _=>by
  by_cases hj:j=i
  . subst hj;simp only [if_true];unfold Sch.ho;rw [if_neg (fun h=>h.2.2 hmd)];omega
  . simp [if_neg hj];unfold Sch.ho Sch.hr;split
    . rename_i h;rw [if_pos h.1];omega
    . omega
 have h4:=dM (f:=fun j=>Sch.hr (a.mc j) g) (g:=fun j=>if j=i then 0 else Sch.hr (a.mc j) g) hi fun j _ hj=>by simp [hj]
 have h5:Sch.hr (a.mc i) g=1:=by unfold Sch.hr;rw [if_pos h]
 simp [if_true] at h4;have h6:pz (a.stt g)<=1:=by unfold pz;split<;>omega
 have h7:a.stt g=2:=by
  by_cases h8:a.stt g=2
  . exact h8
  . have:pz (a.stt g)=0:=by unfold pz;rw [if_neg h8]
    omega
 have h8:qU (a.stt g)=0:=by unfold qU;rw [nQ]
 rw [C.A.out] at h1;exact gE.1 (by omega)
section
variable (C:bu w s a N) (hN:N<100000000) (hi:w.all[i]?=some m) (hin:m.inn=true) (hst:m.st=2)
include C hN hi hin hst
theorem Jv (hl:lockOf m w.P=(w.P:Int)+1) (htm:m.tm=0):∀ j,j<a.M->(a.mc j).pl=29\/(a.mc j).pl=30->(a.mc j).md=0:=fun j hj h29=>by refine cU fun h=>?_;have ⟨mj,q1,q2,q3,q4,q5⟩:=md_pos C hj h;have:=lock_alone C hi hin hst q1 q2 q3 (by rw [hl,xD (by omega)]);subst this;rw [hi] at q1;cases q1;omega
theorem Vs (htm:m.tm=0) (hp:m.pl=14):ga w s a i m N:=by
 refine ⟨.check hp,fun w2 s2 more2 d=>?_⟩;cases d with
 | pure e2=>rw [doX_none (.inl hp)] at e2;cases e2
 | check _=>have ⟨b,act,hA⟩:=JH C.A hi hin hst htm hp;exact ⟨m,b,hi,act,C.uS hN (Kp.aL.le (by omega)) hi hin hst hi (by simp) hA (Sch.Act.inv C.I C.J.R (C.A.yO hi) act) (Sch.Act.inv2 C.I C.J (C.A.yO hi) act) (C.S.more (by omega))⟩
 | deliver hp=>omega
 | park0 hp=>omega
 | await0 hp=>omega
 | awaitNo hp=>omega
 | out1 hp=>omega
theorem OM (hPo:gX):wc s:=by have h40:=vT C;have S:=C.S;unfold outS at h40;rw [aM,dS] at h40;refine ⟨fun k e r hk=>?_,.inr ⟨hPo,S.fds⟩,by rw [S.wa];omega⟩;have ⟨R,h1,h2⟩:=pB hk;refine ⟨S.has.mem_iff.1 (bQ (f:=fun e:En=>e.2.2) (h1.mem_iff.2 (by simp))),?_⟩;have h3:=S.has.length_eq;rw [dS,h1.length_eq] at h3;simp at h3;omega
theorem Vo (hPo:gX) (htm:m.tm=0) (hp:m.pl=25):ga w s a i m N:=by
 have hiM:=C.A.yO hi;refine ⟨.deliver hp (OM C hN hi hin hst hPo),fun w2 s2 more2 d=>?_⟩;cases d with
 | pure e2=>rw [doX_none (.inr (.inl hp))] at e2;cases e2
 | check hp=>omega
 | @deliver s' g is _ t=>
  cases his:is with
  | false=>
   subst his;cases t with
   | none hd=>have ⟨b,act,hA⟩:=sim_delivNo C.A hi hin hst htm hp hd;exact ⟨m,b,hi,act,C.uS hN (w1:=w.aL i false) (Kp.aL.le (by omega)) hi hin hst hi (by simp) hA (Sch.Act.inv C.I C.J.R hiM act) (Sch.Act.inv2 C.I C.J hiM act) (C.S.more (by omega))⟩
  | true=>subst his;have ⟨S',hd,hc⟩:=FZ C.S (AK C) t;have ⟨b,act,hA⟩:=BX C.A hi hin hst htm hp hd hc (fun h=>CR S' h) (Jv C hN hi hin hst (xD (by omega)) htm);exact ⟨{m with got:=g,rest:=[]},b,setm_at hi,act,C.uS hN (w1:=(w.aL i true).az i {m with got:=g,rest:=[]}) ((Kp.aL.trans (Kp.az (m:=m) hi tX)).le (by omega)) hi hin hst (setm_at hi) (by simp) hA (Sch.Act.inv C.I C.J.R hiM act) (Sch.Act.inv2 C.I C.J hiM act) S'⟩
 | park0 hp=>omega
 | await0 hp=>omega
 | awaitNo hp=>omega
 | out1 hp=>omega
theorem Im (hp:m.pl=29\/m.pl=30) {md:Int} (em:a.mc i=rawA m md):(0<=m.g/\m.g<w.G)/\(0<=m.p/\m.p<w.P)/\wd w.ws (w.tb+m.g.toNat)=2:=by
 have V:=C.valOf hi em;have vp:=V.p;rw [if_neg (by unfold gm rawA;simp only;omega)] at vp;have vg:=V.g;rw [if_pos (by unfold rawA;simp only;omega)] at vg;have vp:0<=m.p/\m.p<w.P:=vp;have vg:0<=m.g/\m.g<w.G:=vg;refine ⟨vg,vp,?_⟩;have hG:m.g.toNat<a.G:=by rw [C.A.G];omega
 have:=C.J.s2 (C.A.yO hi) hG (by rw [em];show m.g=_;omega);rw [<- this];exact (C.A.stt _ (by omega)).symm
theorem RX (hp:m.pl=29\/m.pl=30) {md:Int} (em:a.mc i=rawA m md):HB w i m:=by
 have ⟨hg,hpp,hs⟩:=Im C hN hi hin hst hp em;have hiM:=C.A.lt hi;have hG:=C.G;have hM:=C.M;have hP:=C.P;have hB:=C.B i m hi;have hlg:=C.lg;refine ⟨hg,hs,?_,by omega⟩;rcases hp with hp | hp
 . rw [if_pos hp];simp [rB,fW,wO];omega
 . rw [nQ];have:=hB.fd hp;simp [rB,fW,wO];omega
theorem IJ (hp:m.pl=29\/m.pl=30) (htm:0<m.tm):ga w s a i m N:=by
 have hiM:=C.A.yO hi;have ⟨f,hf,em⟩:=Fy C.A hi hin hst htm;have ⟨hg,hpp,hs⟩:=Im C hN hi hin hst hp em;refine ⟨.out1 hp htm (RX C hN hi hin hst hp em),fun w2 s2 more2 d=>?_⟩;cases d with
 | pure e2=>rw [doX_none (by omega)] at e2;cases e2
 | check hp=>omega
 | deliver hp=>omega
 | park0 hp ht=>omega
 | await0 hp ht=>omega
 | awaitNo hp ht=>omega
 | out1 _ _=>have ⟨b,act,hA⟩:=LY C.A hi hin hst htm hp hg;refine ⟨{m with g:=-1},b,setm_at (w:=W.cd {w with ws:=_}) hi,act,C.uS hN ?_ hi hin hst (setm_at (w:=W.cd {w with ws:=_}) hi) (by simp) hA (Sch.Act.inv C.I C.J.R hiM act) (Sch.Act.inv2 C.I C.J hiM act) (C.S.more (by omega))⟩;exact ((Kp.cR (w:=w) (k:=w.tb+m.g.toNat) (v:=if m.pl=29 then 4 else 5) (by show 2*w.P+4<=2*w.P+5+w.M+_;omega)).trans Kp.cd).trans (Kp.az (w:=W.cd (w.cR (w.tb+m.g.toNat) (if m.pl=29 then 4 else 5))) (m:=m) (m':={m with g:=-1}) hi ⟨rfl,fun _=>⟨rfl,rfl,rfl,rfl,rfl,rfl,rfl,rfl⟩,fun ⟨a,b,c,d⟩=>⟨a,b,c,d⟩⟩)
theorem Vl (hp:m.pl=29) (htm:m.tm=0):ga w s a i m N:=by
 have hiM:=C.A.yO hi;have em:=xj C hN hi hin hst htm;have ⟨hg,hpp,hs⟩:=Im C hN hi hin hst (.inl hp) em;have hG:=C.G;have hB:=C.B i m hi;have h40:=vT C;have hfree:m.g∉outS s:=by have:=Eb C hiM (g:=m.g.toNat) (by rw [C.A.G];omega) (by rw [em];show m.g=_;omega) (by rw [em];rfl);rw [aH hg.1] at this;exact this
 have pre:Df s m:=by
  have hkl:m.p.toNat<s.t.hs.length:=by rw [C.S.hl];omega
  refine ⟨⟨m.p.toNat,_,by omega,ah hkl,?_⟩,by omega,hB.ar,fun h=>hfree (bp _ h),?_,?_⟩
  . have ⟨R,h1,h2⟩:=pB (ah hkl);have h3:=C.S.has.length_eq;rw [dS,h1.length_eq,aM] at h3;unfold outS at h40;rw [aM] at h40;omega
  . rw [lq];intro x hx;simp [decide_eq_true_eq];rintro e;exact hfree (cf _ (by rw [<- e];exact bQ (f:=fun x:Int×Int=>x.1) hx))
  . have:=C.S.ord;have:=C.N;omega
 refine ⟨.park0 hp htm pre,fun w2 s2 more2 d=>?_⟩;cases d with
 | pure e2=>rw [doX_none (by omega)] at e2;cases e2
 | check hp=>omega
 | deliver hp=>omega
 | park0 _ _ hk r=>have ⟨S',hc,hd⟩:=LR C.S r;have ⟨b,act,hA⟩:=JD C.A hi hin hst htm hp (z:=sumC s.now (max 0 m.ar)) hc hd;refine ⟨{m with ar:=sumC s.now (max 0 m.ar)},b,setm_at (w:=w.aL i (dueS s2)) hi,act,C.uS hN (w1:=(w.aL i (dueS s2)).az i {m with ar:=sumC s.now (max 0 m.ar)}) ((Kp.aL.trans (Kp.az (w:=w.aL i (dueS s2)) (m:=m) (m':={m with ar:=sumC s.now (max 0 m.ar)}) hi ⟨rfl,fun _=>⟨rfl,rfl,rfl,rfl,rfl,rfl,rfl,rfl⟩,fun ⟨a,b,c,d⟩=>⟨a,b,(sumC_range C.S.now (by omega)).1,fun e=>?_⟩⟩)).le (by omega)) hi hin hst (setm_at (w:=w.aL i _) hi) (fun _=>⟨htm,.inr (.inl hp)⟩) hA (Sch.Act.inv C.I C.J.R hiM act) (Sch.Act.inv2 C.I C.J hiM act) S'⟩;have e:m.pl=30:=e;omega
 | await0 hp=>omega
 | awaitNo hp=>omega
 | out1 hp ht=>omega
theorem Vj (hp:m.pl=30) (htm:m.tm=0):ga w s a i m N:=by
 have hiM:=C.A.yO hi;have em:=xj C hN hi hin hst htm;have ⟨hg,hpp,hs⟩:=Im C hN hi hin hst (.inr hp) em;have hG:=C.G;have hB:=C.B i m hi;have h40:=vT C;have hfree:m.g∉outS s:=by have:=Eb C hiM (g:=m.g.toNat) (by rw [C.A.G];omega) (by rw [em];show m.g=_;omega) (by rw [em];rfl);rw [aH hg.1] at this;exact this
 have pre:yJ s m:=by refine ⟨by omega,hB.fd hp,fun h=>hfree (bp _ h),?_⟩;rw [C.S.wa];unfold outS at h40;rw [aM,dS] at h40;omega
 refine ⟨.await0 hp htm pre,fun w2 s2 more2 d=>?_⟩;cases d with
 | pure e2=>rw [doX_none (by omega)] at e2;cases e2
 | check hp=>omega
 | deliver hp=>omega
 | park0 hp=>omega
 | await0 _ _ hn=>have ⟨S',hc,hd⟩:=Ox C.S (hB.fd hp) hfree hn;have ⟨b,act,hA⟩:=Gg C.A hi hin hst htm hp hc hd;exact ⟨m,b,hi,act,C.uS hN (Kp.aL.le (by omega)) hi hin hst hi (fun _=>⟨htm,.inr (.inr hp)⟩) hA (Sch.Act.inv C.I C.J.R hiM act) (Sch.Act.inv2 C.I C.J hiM act) S'⟩
 | awaitNo _ _ hn=>have ⟨b,act,hA⟩:=DS C.A hi hin hst htm hp hg.1;exact ⟨m,b,hi,act,C.uS hN (Kp.aL.le (by omega)) hi hin hst hi (by simp) hA (Sch.Act.inv C.I C.J.R hiM act) (Sch.Act.inv2 C.I C.J hiM act) (C.S.more (by omega))⟩
 | out1 hp ht=>omega
theorem PI (hPo:gX):ga w s a i m N:=by
 have o:=C.L.inn i m hi hin;have hpl:=It o.l.1 o.pl;have htm:=o.tm (by omega);have h18:m.pl≠18:=fun h=>by
  have ht:m.tm=0:=by omega
  have V:=C.valOf hi (xj C hN hi hin hst ht);exact V.pl.2.2 h
 by_cases h23:m.pl=23
 . exact Vp C hN hi hin hst h23
 by_cases h29:m.pl=29
 . by_cases ht:m.tm=0
   . exact Vl C hN hi hin hst h29 ht
   . exact IJ C hN hi hin hst (.inl h29) (by omega)
 by_cases h30:m.pl=30
 . by_cases ht:m.tm=0
   . exact Vj C hN hi hin hst h30 ht
   . exact IJ C hN hi hin hst (.inr h30) (by omega)
 have ht:m.tm=0:=by omega
 rcases hpl with h | h | h | h | h | h | h | h | h | h | h | h | h | h | h | h | h | h | h
 . exact Zb C hN hi hin hst ht h
 . exact Za C hN hi hin hst ht h
 . exact Y9 C hN hi hin hst ht h
 . exact Y8 C hN hi hin hst ht h
 . exact Y7 C hN hi hin hst ht h
 . exact Y6 C hN hi hin hst ht h
 . exact Vw C hN hi hin hst ht h
 . exact Vv C hN hi hin hst ht h
 . exact Vu C hN hi hin hst ht h
 . exact Vs C hN hi hin hst ht h
 . exact Vr C hN hi hin hst ht h
 . exact Vq C hN hi hin hst ht h
 . exact absurd h h18
 . exact absurd h h23
 . exact Vo C hN hi hin hst hPo ht h
 . exact Vn C hN hi hin hst ht h
 . exact Vm C hN hi hin hst ht h
 . exact absurd h h29
 . exact absurd h h30
end
end
end
section
open Sch
def rM (m:Mc):Nat:=if m.inn=false then 3 else if m.st=1 then 2 else if m.st=2 then 1 else 4
def rAt (w:W) (j:Nat):Nat:=match w.all[j]? with
 | some m=>rM m
 | none=>0
def rs (w:W):Nat:=sumTo (rAt w) w.M
def Fv (w:W) (i:Nat):Prop:=∃ m,w.all[i]?=some m/\(m.pl=0\/(m.pl=16/\wd w.ws (w.nt+i)≠1)\/(m.inn=true/\m.st=1/\m.tk≠srv w (lockOf m w.P).toNat))
inductive Br (w:W) (s:dU) (a:St) (act:Int) (i:Nat) (w':W) (s':dU) (b:St):Prop
 | still:w'=w->s'=s->b=a->Fv w i->Br w s a act i w' s' b
 | sect:b=a->rs w'<rs w->Br w s a act i w' s' b
 | act:Sch.Act a i b->rs w'<=rs w+3->Br w s a act i w' s' b
 | deed:act≠0->Sch.Deed a i b->Br w s a act i w' s' b
def sV (w:W) (s:dU) (a:St) (N:Int) (i:Nat) (act g d:Int):Prop:=
 lf w s i act g d/\∀ w' s' b,nN w s i act g d w' s' b->∃ x,bu w' s' x (N+1)/\Br w s a act i w' s' x
theorem QM (m:Mc):1<=rM m/\rM m<=4:=by unfold rM;split<;>(try split)<;>(try split)<;>omega
section
variable {w w' w1:W} {s s':dU} {a b:St} {i k n:Nat} {m m' m1:Mc} {N:Int} {f:Bool}
theorem B1 (hM:w'.M=w.M) (hi:i<w.M) (h:∀ j,j≠i->rAt w' j=rAt w j):rs w'+rAt w i=rs w+rAt w' i:=by unfold rs;rw [hM];exact dM hi fun j _ hj=>h j hj
theorem Kp.rAt (K:Kp n w w') (j:Nat):rAt w' j=rAt w j:=by
 unfold Ev.rAt;cases h:w'.all[j]? with
 | none=>
  have:w.all[j]?=none:=by rw [List.getElem?_eq_none_iff] at h ⊢;rw [<- K.len];exact h
  rw [this]
 | some m'=>
  have ⟨m,h1,e⟩:=K.all j m' h;rw [h1];simp only;unfold rM;rw [e.inn];cases hin:m.inn with
  | false=>rfl
  | true=>rw [(e.k hin).1]
theorem Kp.rs (K:Kp n w w'):rs w'=rs w:=by unfold Ev.rs;rw [K.M];exact kh fun j _=>K.rAt j
theorem nZ (hi:w.all[i]?=some m):rAt w i=rM m:=by unfold rAt;rw [hi]
theorem OY {more:Bool} (K:Kp n w w1) (hi:w.all[i]?=some m) (h1:w1.all[i]?=some m1) (hiM:i<w.M) (hin:m.inn=true) (hst:m.st=2):rs (doneW w1 i m1 more)<=rs w+3:=by
 have e:=B1 (w:=w) (w':=doneW w1 i m1 more) (i:=i) K.M hiM fun j hj=>by
  unfold doneW;rw [show Ev.rAt (w1.az i {m1 with tm:=m1.tm+1,st:=if more=true then m1.st else 3}) j=Ev.rAt w1 j by
   unfold Ev.rAt;rw [dV,if_neg fun e=>hj e.1.symm]]
  exact K.rAt j
 have h2:=nZ (w:=doneW w1 i m1 more) (i:=i) (setm_at h1);have h3:=nZ hi;have h4:=QM {m1 with tm:=m1.tm+1,st:=if more=true then m1.st else 3};have h5:rM m=1:=by unfold rM;rw [hin,hst];rfl
 omega
theorem bu.more (C:bu w s a N) (hN:N<100000000):bu w s a (N+1):=
 ⟨C.A,C.I,C.J,C.P,C.M,C.G,C.S.more (by omega),C.L.more (by omega),C.B,C.rg,fun k z h=>by have:=C.tn k z h;omega,by have:=C.lg;omega,by have:=C.N;omega⟩
theorem IsA.same {x:Am} (A:IsA w s (a.put i x)) (h:a.mc i=x):IsA w s a:=by
 have:a.put i x=a:=by show ({a with mc:=upd a.mc i x}:St)=a;rw [wR h]
 rw [this] at A;exact A
theorem Kp.turns {z:Int} (hz:w.turns[k]?=some z):Kp 1 w {w with turns:=w.turns.set k (z+1)}:=by
 refine {(Kp.refl.le (by omega):Kp 1 w w) with tn:=fun j x hx=>?_};have hx:(w.turns.set k (z+1))[j]?=some x:=hx;rw [eU] at hx;by_cases hj:k=j
 . subst hj;simp at hx;exact ⟨z,hz,by omega,by omega⟩
 . rw [if_neg hj] at hx;exact ⟨x,hx,by omega,by omega⟩
theorem uY (m':Mc) (hi:w.all[i]?=some m) (hin:m.inn=false) (h':m'.inn=m.inn) (mb:MB m->MB m'):Kp 0 w (w.az i m'):=Kp.az hi (KM.out hin (h'.trans hin) mb)
section
variable {act g d:Int} (C:bu w s a N) (hN:N<100000000) (hi:w.all[i]?=some m)
include C hN hi
theorem jF (K:Kp 1 w w') (sim:∃ b,Sch.Act a i b/\IsA w' s b):∃ x,bu w' s x (N+1)/\Br w s a act i w' s x:=by have ⟨b,ac,hA⟩:=sim;exact ⟨b,C.kept hN K hA (Sch.Act.inv C.I C.J.R (C.A.yO hi) ac) (Sch.Act.inv2 C.I C.J (C.A.yO hi) ac) (C.S.more (by omega)),.act ac (by rw [K.rs];omega)⟩
theorem nH (ha:act≠0) (K:Kp 1 w w') (sim:∃ b,Sch.Deed a i b/\IsA w' s b):∃ x,bu w' s x (N+1)/\Br w s a act i w' s x:=by have ⟨b,ac,hA⟩:=sim;exact ⟨b,C.kept hN K hA (Sch.Deed.inv C.I (C.A.yO hi) ac) (Sch.Deed.inv2 C.I C.J (C.A.yO hi) ac) (C.S.more (by omega)),.deed ha ac⟩
theorem Em (v:Int):Kp 0 w (w.cR w.sp v):=Kp.cR (by show 2*w.P+4<=2*(w.P+2);omega)
theorem Iy {v:Int} (x:Nat):Kp 0 w (w.cR (w.tb+x) v):=Kp.cR (by show 2*w.P+4<=2*w.P+5+w.M+x;omega)
theorem QR {v:Int} (x:Nat):Kp 0 w (w.cR (w.nt+x) v):=Kp.cR (by show 2*w.P+4<=2*w.P+5+x;omega)
theorem rB_ok {e z:Int} {g p:Int} (h0:0<=e/\e<5\/e=7) (hz:z=0) (hg:0<=g/\g<w.G) (hp:-1<=p/\p<w.P):rB (e,g,(i:Int),p,z)=true:=by
 have hiM:=C.A.lt hi;have hG:=C.G;have hM:=C.M;have hP:=C.P;have e5:¬ e=5:=by omega
 have e6:¬ e=6:=by omega
 simp [rB,fW,wO,hz,e5,e6];omega
theorem O1 (hin:m.inn=false):a.mc i=rawA m 0:=by have ⟨f,hf,em⟩:=A_out C.A hi hin;exact em
theorem Ik (hin:m.inn=false):-1<=m.p/\m.p<w.P:=by
 have V:=C.valOf hi (O1 C hN hi hin);have vp:=V.p;split at vp
 . have vp:m.p=-1:=vp;have:=C.P;omega
 . have vp:0<=m.p/\m.p<w.P:=vp;omega
theorem J7 (hp:m.pl=0) (hd:isI64 d):sV w s a N i act g d:=by
 have hin:m.inn=false:=by
  cases h:m.inn with
  | false=>rfl
  | true=>have:=(C.L.inn i m hi h).l.1;rw [lB (by omega)] at this;omega
 have em:=O1 C hN hi hin;have V:=C.valOf hi em;have hiM:=C.A.yO hi;have vg:=V.g;rw [if_pos (by unfold rawA;simp only;omega)] at vg;have vg:0<=m.g/\m.g<w.G:=vg;have hpr:=Ik C hN hi hin;have hs2:wd w.ws (w.tb+m.g.toNat)=2:=by
  have hG:m.g.toNat<a.G:=by rw [C.A.G];omega
  have:=C.J.s2 hiM hG (by rw [em];show m.g=_;omega);rw [<- this];exact (C.A.stt _ (by omega)).symm
 have hlg:w.lg<=1000000000:=by have:=C.lg;omega
 have stay:∃ x,bu w s x (N+1)/\Br w s a act i w s x:=⟨a,C.more hN,.still rfl rfl rfl ⟨m,hi,.inl hp⟩⟩
 have leave:∀ {to e:Int},(0<=e/\e<5\/e=7)->leaveX w i m to e=some (({w with ws:=w.ws.set (w.tb+m.g.toNat) to}:W).cd.az i {m with got:=-1,g:=-1,pl:=1}):=fun {to e} h=>by unfold leaveX;rw [if_pos ⟨vg,hs2,rB_ok C hN hi h rfl vg hpr,hlg⟩]
 have kl:∀ to:Int,Kp 1 w (({w with ws:=w.ws.set (w.tb+m.g.toNat) to}:W).cd):=fun to=>(Iy C hN hi (v:=to) m.g.toNat).trans Kp.cd;have key:∃ r,execX w i m act g d=some r/\∃ x,bu r.1 s x (N+1)/\Br w s a act i r.1 s x:=by
  unfold execX;by_cases h0:act=0
  . rw [if_pos h0];exact ⟨_,rfl,stay⟩
  rw [if_neg h0];by_cases h1:act=1
  . rw [if_pos h1,leave (by omega)];refine ⟨_,rfl,?_⟩;refine nH C hN hi h0 ?_ (JA C.A hi hin hp vg);exact ((kl 1).trans (Kp.az (m:=m) (m':={m with got:=-1,g:=-1,pl:=1}) hi (KM.out hin hin fun ⟨a,b,c,d⟩=>⟨a,b,c,fun e=>by cases e⟩))).trans (Kp.az (m:={m with got:=-1,g:=-1,pl:=1}) (m':={m with got:=m.g,g:=-1,bk:=1,pl:=27}) (setm_at (m:=m) hi) (KM.out hin hin fun ⟨a,b,c,d⟩=>⟨by simp,b,c,fun e=>by cases e⟩))
  rw [if_neg h1];by_cases h2:act=2
  . rw [if_pos h2,leave (by omega)];refine ⟨_,rfl,?_⟩;exact nH C hN hi h0 ((kl 3).trans (Kp.az (m:=m) (m':={m with got:=-1,g:=-1,pl:=1}) hi (KM.out hin hin fun ⟨a,b,c,d⟩=>⟨a,b,c,fun e=>by cases e⟩))) (sim_leave C.A hi hin hp vg (.inl rfl))
  rw [if_neg h2];by_cases h3:act=3
  . rw [if_pos h3,leave (by omega)];refine ⟨_,rfl,?_⟩;exact nH C hN hi h0 ((kl 6).trans (Kp.az (m:=m) (m':={m with got:=-1,g:=-1,pl:=1}) hi (KM.out hin hin fun ⟨a,b,c,d⟩=>⟨a,b,c,fun e=>by cases e⟩))) (sim_leave C.A hi hin hp vg (.inr rfl))
  rw [if_neg h3];have rouse:∀ {fr e:Int},(fr=0\/fr=3)->(0<=e/\e<5\/e=7)->∃ r,pe w i m g fr e=some r/\∃ x,bu r.1 s x (N+1)/\Br w s a act i r.1 s x:=fun {fr e} hfr he=>by
   unfold pe;by_cases hc:(0<=g/\g<w.G)/\wd w.ws (w.tb+g.toNat)=fr
   . rw [if_pos hc,if_pos ⟨rB_ok C hN hi he rfl hc.1 hpr,hlg⟩];refine ⟨_,rfl,?_⟩;exact nH C hN hi h0 (((Iy C hN hi (v:=1) g.toNat).trans Kp.cd).trans (Kp.az (m:=m) (m':={m with got:=g,pl:=28}) hi (KM.out hin hin fun ⟨a,b,c,d⟩=>⟨a,b,c,fun e=>by cases e⟩))) (sim_rouse C.A hi hin hp hc.1 hfr hc.2)
   . rw [if_neg hc];exact ⟨_,rfl,stay⟩
  by_cases h4:act=4
  . rw [if_pos h4];exact rouse (.inl rfl) (by omega)
  rw [if_neg h4];by_cases h5:act=5
  . rw [if_pos h5];exact rouse (.inr rfl) (by omega)
  rw [if_neg h5];by_cases h6:act=6
  . rw [if_pos h6];refine ⟨_,rfl,?_⟩;exact nH C hN hi h0 ((Kp.az (m:=m) (m':={m with ar:=d,pl:=29}) hi (KM.out hin hin fun ⟨a,b,c,d'⟩=>⟨a,b,hd,fun e=>by cases e⟩)).le (by omega)) (sim_sleep C.A hi hin hp d)
  rw [if_neg h6];by_cases h7:act=7
  . rw [if_pos h7];by_cases hg:0<=g/\g<65536
    . rw [if_pos hg];refine ⟨_,rfl,?_⟩;exact nH C hN hi h0 ((Kp.az (m:=m) (m':={m with ar:=g,pl:=30}) hi (KM.out hin hin fun ⟨a,b,c,d'⟩=>⟨a,b,(show isI64 g by unfold isI64;omega),fun e=>hg⟩)).le (by omega)) (sim_wait C.A hi hin hp g)
    . rw [if_neg hg];exact ⟨_,rfl,stay⟩
  rw [if_neg h7];exact ⟨_,rfl,stay⟩
 have ⟨r,e,hx⟩:=key;refine ⟨.exec hi hp e,fun w' s' b pr=>?_⟩;cases pr with
 | exec hi2 hp2 e2=>rw [hi] at hi2;cases hi2;rw [e] at e2;cases e2;exact hx
 | sleep hi2 hp2=>rw [hi] at hi2;cases hi2;omega
 | lock hi2 hp2=>rw [hi] at hi2;cases hi2;exact absurd hp hp2
 | bare hi2 hp2=>rw [hi] at hi2;cases hi2;exact absurd hp hp2
theorem Gt (hp:m.pl=16):sV w s a N i act g d:=by
 have hin:m.inn=false:=by
  cases h:m.inn with
  | false=>rfl
  | true=>have:=(C.L.inn i m hi h).l.1;rw [lB (by omega)] at this;omega
 refine ⟨.sleep hi hp,fun w' s' b pr=>?_⟩;cases pr with
 | exec hi2 hp2=>rw [hi] at hi2;cases hi2;omega
 | sleep hi2 hp2=>
  rw [hi] at hi2;cases hi2;unfold lI;by_cases hn:wd w.ws (w.nt+i)=1
  . rw [if_pos hn];refine jF C hN hi ?_ (JB C.A hi hin hp hn);refine ((QR C hN hi (v:=0) i).trans (Kp.az (w:=w.cR (w.nt+i) 0) (m:=m) hi ?_)).le (by omega);split
    . exact KM.out hin hin fun ⟨a,b,c,d⟩=>⟨a,b,c,fun e=>by cases e⟩
    . exact KM.out hin hin fun ⟨a,b,c,d⟩=>⟨a,.inr (.inr (.inr rfl)),c,fun e=>by cases e⟩
  . rw [if_neg hn];exact ⟨a,C.more hN,.still rfl rfl rfl ⟨m,hi,.inr (.inl ⟨hp,hn⟩)⟩⟩
 | lock hi2 _ hp2=>rw [hi] at hi2;cases hi2;exact absurd hp hp2
 | bare hi2 _ hp2=>rw [hi] at hi2;cases hi2;exact absurd hp hp2
theorem K8 (hin:m.inn=false) (hp:m.pl=1\/m.pl=5\/m.pl=8\/m.pl=12\/m.pl=19\/m.pl=20\/m.pl=21\/m.pl=22\/m.pl=24\/m.pl=26):∃ w',uP w i m=some w'/\∃ x,bu w' s x (N+1)/\Br w s a act i w' s x:=by
 have em:=O1 C hN hi hin;have V:=C.valOf hi em;have hiM:=C.A.yO hi;have hB:=C.B i m hi;have hlg:w.lg<=1000000000:=by have:=C.lg;omega
 have hpr:=Ik C hN hi hin;have mbx:∀ {m':Mc},m'.bk=m.bk->m'.af=m.af->m'.ar=m.ar->m'.pl≠30->MB m->MB m':=fun h1 h2 h3 h4 ⟨a,b,c,d⟩=>⟨by rw [h1];exact a,by rw [h2];exact b,by rw [h3];exact c,fun e=>absurd e h4⟩
 have bkn:m.bk≠30:=by have:=hB.bk;omega
 unfold uP;by_cases h8:m.pl=8
 . rw [if_pos h8];refine ⟨_,rfl,jF C hN hi ?_ (L7 C.A hi hin h8 (tA C hiM ?_))⟩
   . exact ((Em C hN hi _).trans (uY (w:=w.cR w.sp _) {m with sp:=false,ii:=0,pl:=9} hi hin rfl (mbx rfl rfl rfl (by simp)))).le (by omega)
   . rw [em];have:m.sp=true:=V.sp2 (by unfold rawA;simp only;omega);unfold Sch.hs rawA;simp only;rw [if_pos this];omega
 rw [if_neg h8];by_cases h12:m.pl=12
 . rw [if_pos h12];exact ⟨_,rfl,jF C hN hi (((Em C hN hi _).trans (uY (w:=w.cR w.sp _) {m with sp:=true,pl:=4} hi hin rfl (mbx rfl rfl rfl (by simp)))).le (by omega)) (BP C.A hi hin h12 (H5 C))⟩
 rw [if_neg h12];by_cases h26:m.pl=26
 . rw [if_pos h26];have vg:=V.got;rw [if_pos (by unfold rawA;simp only;omega)] at vg;have vg:0<=m.got/\m.got<w.G:=vg;rw [if_pos ⟨vg,rB_ok C hN hi (by omega) rfl vg hpr,hlg⟩];exact ⟨_,rfl,jF C hN hi (((Iy C hN hi (v:=1) m.got.toNat).trans Kp.cd).trans (uY {m with bk:=25,pl:=27} hi hin rfl fun ⟨a,b,c,d⟩=>⟨by simp,b,c,fun e=>by cases e⟩)) (sim_mark C.A hi hin h26 vg)⟩
 rw [if_neg h26];unfold Bm;by_cases h1:m.pl=1
 . rw [if_pos h1];have vp:=V.p;rw [if_neg (by unfold gm rawA;simp only;omega)] at vp;have vp:0<=m.p/\m.p<w.P:=vp;have hkl:m.p.toNat<w.turns.length:=by rw [C.A.lT];omega
   obtain ⟨z,hz⟩:∃ z,w.turns[m.p.toNat]?=some z:=⟨_,ah hkl⟩
   have hzr:=C.tn m.p.toNat z hz;rw [if_pos vp.1,hz];simp only;rw [pQ];refine ⟨_,rfl,jF C hN hi ?_ (JC C.A hi hin h1 (b:=true) hz)⟩;by_cases h61:(z+1) % 61=0
   . rw [if_pos h61];exact (Kp.turns hz).trans (uY (w:={w with turns:=w.turns.set m.p.toNat (z+1)}) (deliverM {m with pl:=3} 2) hi hin rfl fun ⟨a,b,c,d⟩=>⟨a,.inr (.inr (.inl rfl)),c,fun e=>by cases e⟩)
   . rw [if_neg h61];exact (Kp.turns hz).trans (uY (w:={w with turns:=w.turns.set m.p.toNat (z+1)}) {m with pl:=3} hi hin rfl (mbx rfl rfl rfl (by simp)))
 rw [if_neg h1];by_cases h5:m.pl=5
 . rw [if_pos h5];refine ⟨_,rfl,jF C hN hi (((Em C hN hi _).trans (uY (w:=w.cR w.sp _) (stealM {m with sp:=true} 1 w.P) hi hin rfl (mbx rfl rfl rfl ?_))).le (by omega)) (Gc C.A hi hin h5 (H5 C))⟩;unfold stealM;simp only;split<;>omega
 rw [if_neg h5];by_cases h19:m.pl=19
 . rw [if_pos h19];refine ⟨_,rfl,jF C hN hi (((Em C hN hi _).trans (uY (w:=w.cR w.sp _) {m with sp:=false,pl:=21} hi hin rfl (mbx rfl rfl rfl (by simp)))).le (by omega)) (Gb C.A hi hin h19 (tA C hiM ?_))⟩;rw [em];have:m.sp=true:=V.sp2 (by unfold rawA;simp only;omega);unfold Sch.hs rawA;simp only;rw [if_pos this];omega
 rw [if_neg h19];by_cases h20:m.pl=20
 . rw [if_pos h20];have vg:=V.got;rw [if_pos (by unfold rawA;simp only;omega)] at vg;have vg:0<=m.got/\m.got<w.G:=vg;have hG:m.got.toNat<a.G:=by rw [C.A.G];omega
   have hs1:wd w.ws (w.tb+m.got.toNat)=1:=by have:=C.J.s1 hiM hG (by rw [em];unfold Sch.hg rawA;simp only;rw [if_pos ⟨by omega,by omega⟩];omega);rw [<- this];exact (C.A.stt _ (by omega)).symm
   rw [if_pos ⟨vg,hs1,rB_ok C hN hi (by omega) rfl vg hpr,hlg⟩];exact ⟨_,rfl,jF C hN hi (((Iy C hN hi (v:=2) m.got.toNat).trans Kp.cd).trans (uY {m with g:=m.got,got:=-1,pl:=0} hi hin rfl (mbx rfl rfl rfl (by simp)))) (BW C.A hi hin h20 vg)⟩
 rw [if_neg h20];by_cases h21:m.pl=21
 . rw [if_pos h21];refine ⟨_,rfl,jF C hN hi ((uY {m with pl:=if wd w.ws w.sp=0 then 22 else m.bk} hi hin rfl (mbx rfl rfl rfl ?_)).le (by omega)) (L0 C.A hi hin h21)⟩;simp only;split<;>omega
 rw [if_neg h21];by_cases h22:m.pl=22
 . rw [if_pos h22];refine ⟨_,rfl,jF C hN hi ?_ (JG C.A hi hin h22)⟩;by_cases h0:wd w.ws w.sp=0
   . rw [if_pos h0,if_pos h0];exact ((Em C hN hi 1).trans (uY (w:=w.cR w.sp 1) {m with pl:=23} hi hin rfl (mbx rfl rfl rfl (by simp)))).le (by omega)
   . rw [if_neg h0,if_neg h0];exact (uY {m with pl:=m.bk} hi hin rfl (mbx rfl rfl rfl bkn)).le (by omega)
 rw [if_neg h22];have h24:m.pl=24:=by omega
 rw [if_pos h24];have vt:=V.tg;rw [if_pos (by unfold rawA;simp only;omega)] at vt;have vt:0<=m.tg/\m.tg<w.M:=vt;obtain ⟨k,hk⟩:∃ k:Nat,m.tg=k:=⟨m.tg.toNat,by omega⟩
 have hkM:k<w.M:=by omega
 have hk0:wd w.ws (w.nt+k)=0:=by
  have hk':k<a.M:=by rw [C.A.M];exact hkM
  have h1:=C.I.tok k hk';have h2:=C.I.note k hk';have h3:aU (a.mc k)<=1:=by unfold aU;split<;>omega
  have h4:=cy (f:=fun j=>Sch.ht (a.mc j) k) hiM;have h5:Sch.ht (a.mc i) k=1:=by rw [em];unfold Sch.ht rawA;simp only;rw [if_pos hk]
  simp [h5] at h4;have h6:=C.A.note k hkM;omega
 rw [if_pos vt,hk,aC];refine ⟨_,rfl,jF C hN hi ?_ (LX C.A hi hin h24 hk hkM hk0)⟩;rw [if_pos hk0];exact ((QR C hN hi (v:=1) k).trans (uY (w:=w.cR (w.nt+k) 1) {m with tg:=-1,pl:=m.bk} hi hin rfl (mbx rfl rfl rfl bkn))).le (by omega)
end
end
end
section
open Sch
section
variable {w w' w1:W} {s s':dU} {a b:St} {i k n:Nat} {m m' m1:Mc} {N:Int} {f:Bool} {act g d:Int}
theorem MN {P M G:Nat} {md:Int} (V:oC P M G (rawA m md)) (hP:1<=P):(0<=lockOf m P/\lockOf m P<=P+1)\/m.pl=0\/m.pl=1\/m.pl=5\/m.pl=8\/m.pl=12\/m.pl=16\/m.pl=19\/m.pl=20\/m.pl=21\/m.pl=22\/m.pl=24\/m.pl=26:=by
 have vpl:0<=m.pl/\m.pl<=30/\m.pl≠18:=V.pl;have vii:0<=m.ii/\m.ii<=P+1/\(m.pl=6->1<=m.ii/\m.ii<P)/\(m.pl=9->m.ii<P):=V.ii;by_cases h:m.pl=0\/m.pl=1\/m.pl=5\/m.pl=8\/m.pl=12\/m.pl=16\/m.pl=19\/m.pl=20\/m.pl=21\/m.pl=22\/m.pl=24\/m.pl=26
 . exact .inr h
 left;have vp:m.pl=3\/m.pl=17\/m.pl=28\/m.pl=6->0<=m.p/\m.p<P:=fun h=>by have vp:=V.p;rw [if_neg (by unfold gm rawA;simp only;omega)] at vp;exact vp
 have rl:∀ p:Int,0<=p/\p<P->gR p P=p+1:=fun p hp=>by unfold gR;rw [nQ]
 by_cases c0:m.pl=2\/m.pl=4\/m.pl=7\/m.pl=10\/m.pl=11\/m.pl=13\/m.pl=15\/m.pl=18\/m.pl=23\/m.pl=27
 . rw [lock_0 c0];omega
 by_cases c1:m.pl=14\/m.pl=25\/m.pl=29\/m.pl=30
 . rw [xD c1];omega
 by_cases c2:m.pl=3\/m.pl=17\/m.pl=28
 . have:=vp (by omega);rw [MO c2,rl _ this];omega
 by_cases c3:m.pl=9
 . rw [Kn c3,rl _ ⟨vii.1,vii.2.2.2 c3⟩];have:=vii.2.2.2 c3;omega
 have c4:m.pl=6:=by omega
 have hp:=vp (by omega);have hi:=vii.2.2.1 c4;rw [GH c4,rl _ hp,pQ];have h1:=oR (m.p+m.ii) (show (P:Int)≠0 by omega);have h2:=qt (m.p+m.ii) (show (0:Int)<P by omega);omega
section
variable (C:bu w s a N) (hN:N<100000000) (hi:w.all[i]?=some m)
include C hN hi
theorem GI (hin:m.inn=false) (hlk:0<=lockOf m w.P/\lockOf m w.P<=w.P+1):∃ w',lockedX w i m (lockOf m w.P).toNat=some w'/\∃ x,bu w' s x (N+1)/\Br w s a act i w' s x:=by
 have ⟨f,hf,em⟩:=A_out C.A hi hin;have V:=C.valOf hi em;obtain ⟨k,hk⟩:∃ k:Nat,lockOf m w.P=(k:Int):=⟨_,(aH hlk.1).symm⟩
 have hkP:k<=w.P+1:=by omega
 have hlw:2*w.P+4<=w.ws.length:=by have:=C.A.lW;omega
 have hP:=C.P;have wk:=C.L.words k hkP;have hN':=C.N;have hkt:(lockOf m w.P).toNat=k:=by rw [hk];exact aC k
 rw [hkt];have e:lockedX w i m k=some ((({(w.az i (enterM m ((2*k:Nat):Int) ((2*k+1:Nat):Int))).aL i false with ws:=w.ws.set (2*k) (inc (wd w.ws (2*k)) 1)}:W)).az i {enterM m ((2*k:Nat):Int) ((2*k+1:Nat):Int) with tk:=wd w.ws (2*k),st:=1}):=by unfold lockedX;rw [if_pos hin,if_pos];unfold nxt at wk;exact ⟨by omega,by omega,by omega,by omega⟩
 refine ⟨_,e,a,?_,.sect rfl ?_⟩
 . have A1:=(((C.A.az hf (enterM m ((2*k:Nat):Int) ((2*k+1:Nat):Int))).aL (setm_at hi) false).lock (k:=2*k) (by show 2*k<2*w.P+4;omega) (inc (wd w.ws (2*k)) 1)).az (setf_at (w:=w.az i (enterM m ((2*k:Nat):Int) ((2*k+1:Nat):Int))) hf) {enterM m ((2*k:Nat):Int) ((2*k+1:Nat):Int) with tk:=wd w.ws (2*k),st:=1};rw [aput_put,aput_put] at A1;have A2:=A1.same (by rw [em];unfold amOf rawA enterM;simp);have hinc:inc (wd w.ws (2*k)) 1=nxt w k+1:=by unfold nxt at wk ⊢;exact CG (by omega) (by omega)
   have vpl:0<=m.pl/\m.pl<=30/\m.pl≠18:=V.pl;have vii:0<=m.ii/\m.ii<=w.P+1:=⟨V.ii.1,V.ii.2.1⟩
   refine C.next hN A2 C.I C.J (C.S.more (by omega)) ?_ ?_ ⟨rfl,rfl,rfl⟩ (fun k r h=>⟨r,h,id⟩) (fun k z h=>⟨z,h,by omega,by omega⟩) (ur _ _)
   . refine C.L.enter (m':={enterM m ((2*k:Nat):Int) ((2*k+1:Nat):Int) with tk:=wd w.ws (2*k),st:=1}) hi hin hk hkP hlw rfl (fun j=>?_) (fun j=>?_) ⟨rfl,hk,?_,?_,rfl,rfl,rfl⟩ ⟨vpl.1,by show m.pl<31;omega⟩ ⟨by show -1000<=m.ii;omega,by show m.ii<=1000;omega⟩
     . show wd (w.ws.set (2*k) (inc (wd w.ws (2*k)) 1)) j=_;rw [tl (by omega),hinc]
     . rw [dV];have hl:i<w.all.length:=(aa.1 hi).1;have e2:({(w.az i (enterM m ((2*k:Nat):Int) ((2*k+1:Nat):Int))).aL i false with ws:=w.ws.set (2*k) (inc (wd w.ws (2*k)) 1)}:W).all[j]?=(w.az i (enterM m ((2*k:Nat):Int) ((2*k+1:Nat):Int))).all[j]?:=rfl;by_cases hj:i=j
       . rw [if_pos ⟨hj,by show i<(w.all.set i _).length;simpa using hl⟩,if_pos hj.symm]
       . rw [if_neg (fun e=>hj e.1),if_neg (fun e=>hj e.symm),e2,dV,if_neg (fun e=>hj e.1)]
     . show ((2*k:Nat):Int)=_;omega
     . show ((2*k+1:Nat):Int)=_;omega
   . intro j x hx;rw [dV] at hx;split at hx
     . cases hx;have ⟨a1,a2,a3,a4⟩:=C.B i m hi;exact ⟨a1,a2,a3,a4⟩
     . have hx:(w.az i (enterM m ((2*k:Nat):Int) ((2*k+1:Nat):Int))).all[j]?=some x:=hx;rw [dV] at hx;split at hx
       . cases hx;have ⟨a1,a2,a3,a4⟩:=C.B i m hi;exact ⟨a1,a2,a3,a4⟩
       . exact C.B j x hx
 . have e1:=B1 (w:=w) (w':=((({(w.az i (enterM m ((2*k:Nat):Int) ((2*k+1:Nat):Int))).aL i false with ws:=w.ws.set (2*k) (inc (wd w.ws (2*k)) 1)}:W)).az i {enterM m ((2*k:Nat):Int) ((2*k+1:Nat):Int) with tk:=wd w.ws (2*k),st:=1})) (i:=i) rfl (C.A.lt hi) fun j hj=>by
    unfold rAt;rw [dV,if_neg (fun e=>hj e.1.symm)];have e3:({(w.az i (enterM m ((2*k:Nat):Int) ((2*k+1:Nat):Int))).aL i false with ws:=w.ws.set (2*k) (inc (wd w.ws (2*k)) 1)}:W).all[j]?=w.all[j]?:=by show (w.az i (enterM m ((2*k:Nat):Int) ((2*k+1:Nat):Int))).all[j]?=_;rw [dV,if_neg (fun e=>hj e.1.symm)]
    rw [e3]
   have h2:=nZ hi;have h3:=nZ (w:=((({(w.az i (enterM m ((2*k:Nat):Int) ((2*k+1:Nat):Int))).aL i false with ws:=w.ws.set (2*k) (inc (wd w.ws (2*k)) 1)}:W)).az i {enterM m ((2*k:Nat):Int) ((2*k+1:Nat):Int) with tk:=wd w.ws (2*k),st:=1})) (i:=i) (setm_at (m:=enterM m ((2*k:Nat):Int) ((2*k+1:Nat):Int)) (by show (w.az i _).all[i]?=_;exact setm_at hi));have h4:rM m=3:=by unfold rM;rw [if_pos hin]
   have h5:rM {enterM m ((2*k:Nat):Int) ((2*k+1:Nat):Int) with tk:=wd w.ws (2*k),st:=1}=2:=rfl;omega
theorem DE (hin:m.inn=true):((m.tk-wd w.ws m.ls.toNat) % 18446744073709551616=0↔m.tk=srv w (lockOf m w.P).toNat)/\m.ls.toNat=2*(lockOf m w.P).toNat+1/\(0<=m.ln/\0<=m.ls/\m.ls<w.ws.length):=by
 have o:=C.L.inn i m hi hin;have hl:=o.l;have h1:=o.ls;have h2:=o.ln;have hlw:=C.A.lW;have e:m.ls.toNat=2*(lockOf m w.P).toNat+1:=by omega
 refine ⟨?_,e,by omega,by omega,by omega⟩;rw [e];have wk:=C.L.words (lockOf m w.P).toNat (by omega);have tk:=o.tk;have hN':=C.N;show (m.tk-srv w (lockOf m w.P).toNat) % 18446744073709551616=0↔_;rw [eV (by omega) (by omega)];omega
theorem Jm (hin:m.inn=true):mC m=true:=by have o:=C.L.inn i m hi hin;have:=It o.l.1 o.pl;unfold mC;rw [decide_eq_true_eq];have h:=o.ii;exact ⟨by omega,h⟩
theorem Kl (hin:m.inn=true) (hst:m.st=1):∃ w',lockedX w i m k=some w'/\∃ x,bu w' s x (N+1)/\Br w s a act i w' s x:=by
 have ⟨h1,h2,h3⟩:=DE C hN hi hin;have o:=C.L.inn i m hi hin;by_cases ht:m.tk=srv w (lockOf m w.P).toNat
 . have e:lockedX w i m k=some (w.az i {m with st:=2}):=by unfold lockedX;rw [if_neg (by simp [hin]),if_pos h3,if_pos hst,if_pos (h1.2 ht)]
   have ⟨f,hf⟩:=C.A.pP hi;have em:=C.A.mc i m f hi hf;have htm:m.tm=0:=by have:=o.tm (by omega);omega
   have A1:=(C.A.az hf {m with st:=2}).same (by rw [em];unfold amOf rawA;simp [hin,hst,htm]);refine ⟨_,e,a,?_,.sect rfl ?_⟩
   . refine C.next hN A1 C.I C.J (C.S.more (by omega)) ((C.L.XU hi hin hst ht).more (by omega)) ?_ ⟨rfl,rfl,rfl⟩ (fun k r h=>⟨r,h,id⟩) (fun k z h=>⟨z,h,by omega,by omega⟩) (ur _ _);intro j x hx;rw [dV] at hx;split at hx
     . cases hx;have ⟨a1,a2,a3,a4⟩:=C.B i m hi;exact ⟨a1,a2,a3,a4⟩
     . exact C.B j x hx
   . have e1:=B1 (w:=w) (w':=w.az i {m with st:=2}) (i:=i) rfl (C.A.lt hi) fun j hj=>by unfold rAt;rw [dV,if_neg (fun e=>hj e.1.symm)]
     have h2:=nZ hi;have h3:=nZ (w:=w.az i {m with st:=2}) (i:=i) (setm_at hi);have h4:rM m=2:=by unfold rM;rw [if_neg (by simp [hin]),if_pos hst]
     have h5:rM {m with st:=2}=1:=by unfold rM;rw [if_neg (by simp [hin])];rfl
     omega
 . have e:lockedX w i m k=some w:=by unfold lockedX;rw [if_neg (by simp [hin]),if_pos h3,if_pos hst,if_neg (fun h=>ht (h1.1 h))]
   exact ⟨w,e,a,C.more hN,.still rfl rfl rfl ⟨m,hi,.inr (.inr ⟨hin,hst,ht⟩)⟩⟩
theorem Km (hin:m.inn=true) (hst:m.st=3):∃ w',lockedX w i m k=some w'/\∃ x,bu w' s x (N+1)/\Br w s a act i w' s x:=by
 have ⟨h1,h2,h3⟩:=DE C hN hi hin;have o:=C.L.inn i m hi hin;have hto:=Jm C hN hi hin;have ⟨f,hf⟩:=C.A.pP hi;have em:=C.A.mc i m f hi hf;have htk:=o.T2 (by omega);have hl:=o.l;have wk:=C.L.words (lockOf m w.P).toNat (by omega);have tk:=o.tk;have hN':=C.N;have hP:=C.P;have e:lockedX w i m k=some ((w.cR m.ls.toNat (inc m.tk 1)).az i (thenM {m with st:=4,inn:=false} f w.P)):=by unfold lockedX;rw [if_neg (by simp [hin]),if_pos h3,nQ,if_pos hst,if_pos ⟨h1.2 htk,hto⟩,hf]
 have hinc:inc m.tk 1=m.tk+1:=CG (by omega) (by omega);have hmi:(thenM {m with st:=4,inn:=false} f w.P).inn=false:=wU.2.1;have A1:=((C.A.lock (k:=m.ls.toNat) (by omega) (inc m.tk 1)).az (i:=i) hf (thenM {m with st:=4,inn:=false} f w.P)).same (by
  rw [em];show amOf m f w.P=amOf (thenM {m with st:=4,inn:=false} f w.P) f w.P;rw [Sw hin hst,Q3 hmi,show thenM {m with st:=4,inn:=false} f w.P={thenM m f w.P with st:=4,inn:=false} from Jn];rfl)
 have hlw:m.ls.toNat<w.ws.length:=by omega
 refine ⟨_,e,a,?_,.sect rfl ?_⟩
 . have L1:oD ((w.cR m.ls.toNat (inc m.tk 1)).az i (thenM {m with st:=4,inn:=false} f w.P)) N:=by
    refine C.L.over (m':=thenM {m with st:=4,inn:=false} f w.P) hi hin hst (k:=(lockOf m w.P).toNat) (by omega) rfl (fun j=>?_) (fun j=>?_) hmi
    . show wd (w.ws.set m.ls.toNat (inc m.tk 1)) j=_;rw [tl hlw,hinc,h2]
    . rw [dV];have hl2:i<w.all.length:=(aa.1 hi).1;by_cases hj:i=j
      . rw [if_pos ⟨hj,hl2⟩,if_pos hj.symm]
      . rw [if_neg (fun e=>hj e.1),if_neg (fun e=>hj e.symm)];rfl
   refine C.next hN A1 C.I C.J (C.S.more (by omega)) (L1.more (by omega)) ?_ ⟨rfl,rfl,rfl⟩ (fun k r h=>⟨r,h,id⟩) (fun k z h=>⟨z,h,by omega,by omega⟩) (ur _ _)
   . intro j x hx;rw [dV] at hx;split at hx
     . cases hx;have ⟨a1,a2,a3,a4⟩:=C.B i m hi;exact LG hto ⟨a1,a2,a3,a4⟩
     . exact C.B j x hx
 . have e1:=B1 (w:=w) (w':=(w.cR m.ls.toNat (inc m.tk 1)).az i (thenM {m with st:=4,inn:=false} f w.P)) (i:=i) rfl (C.A.lt hi) fun j hj=>by unfold rAt;rw [dV,if_neg (fun e=>hj e.1.symm)];rfl
   have h2:=nZ hi;have h3:=nZ (w:=(w.cR m.ls.toNat (inc m.tk 1)).az i (thenM {m with st:=4,inn:=false} f w.P)) (i:=i) (setm_at (w:=w.cR m.ls.toNat (inc m.tk 1)) hi);have h4:rM m=4:=by unfold rM;rw [if_neg (by simp [hin]),nQ,nQ]
   have h5:rM (thenM {m with st:=4,inn:=false} f w.P)=3:=by unfold rM;rw [if_pos hmi]
   omega
theorem pick_goal (hPo:gX) (hd:isI64 d):sV w s a N i act g d:=by
 by_cases h0:m.pl=0
 . exact J7 C hN hi h0 hd
 by_cases h16:m.pl=16
 . exact Gt C hN hi h16
 have hP:=C.P;cases hin:m.inn with
 | false=>
  have em:=O1 C hN hi hin;have V:=C.valOf hi em;have vpl:0<=m.pl/\m.pl<=30/\m.pl≠18:=V.pl;have vii:0<=m.ii/\m.ii<=w.P+1:=⟨V.ii.1,V.ii.2.1⟩
  rcases MN V hP.1 with hlk | hlk
  . have ⟨w1,e,hx⟩:=GI (act:=act) C hN hi hin hlk;refine ⟨.lock hi h0 h16 ⟨by omega,by omega,by omega⟩ hlk.1 (.pure e),fun w' s' b pr=>?_⟩;cases pr with
    | exec hi2 hp2=>rw [hi] at hi2;cases hi2;exact absurd hp2 h0
    | sleep hi2 hp2=>rw [hi] at hi2;cases hi2;exact absurd hp2 h16
    | bare hi2 _ _ hl2=>rw [hi] at hi2;cases hi2;exact absurd hlk.1 hl2
    | lock hi2 _ _ _ lr=>
     rw [hi] at hi2;cases hi2;cases lr with
     | pure e2=>rw [e] at e2;cases e2;exact hx
     | deed hin2=>rw [hin] at hin2;cases hin2
  . have hln:¬ 0<=lockOf m w.P:=by rw [lB (by omega)];omega
    have ⟨w1,e,hx⟩:=K8 (act:=act) C hN hi hin (by omega);refine ⟨.bare hi h0 h16 ⟨by omega,by omega,by omega⟩ hln e,fun w' s' b pr=>?_⟩;cases pr with
    | exec hi2 hp2=>rw [hi] at hi2;cases hi2;exact absurd hp2 h0
    | sleep hi2 hp2=>rw [hi] at hi2;cases hi2;exact absurd hp2 h16
    | lock hi2 _ _ hl2=>rw [hi] at hi2;cases hi2;exact absurd hl2 hln
    | bare hi2 _ _ _ e2=>rw [hi] at hi2;cases hi2;rw [e] at e2;cases e2;exact hx
 | true=>
  have o:=C.L.inn i m hi hin;have hlk:=o.l;have hpl:=o.pl;have hii:=o.ii;have main:∀ {w1:W},m.st≠2->lockedX w i m (lockOf m w.P).toNat=some w1->(∃ x,bu w1 s x (N+1)/\Br w s a act i w1 s x)->sV w s a N i act g d:=fun {w1} hst e hx=>by
   refine ⟨.lock hi h0 h16 ⟨by omega,by omega,by omega⟩ hlk.1 (.pure e),fun w' s' b pr=>?_⟩;cases pr with
   | exec hi2 hp2=>rw [hi] at hi2;cases hi2;exact absurd hp2 h0
   | sleep hi2 hp2=>rw [hi] at hi2;cases hi2;exact absurd hp2 h16
   | bare hi2 _ _ hl2=>rw [hi] at hi2;cases hi2;exact absurd hlk.1 hl2
   | lock hi2 _ _ _ lr=>
    rw [hi] at hi2;cases hi2;cases lr with
    | pure e2=>rw [e] at e2;cases e2;exact hx
    | deed _ hst2=>exact absurd hst2 hst
  rcases o.st with hst | hst | hst
  . have ⟨w1,e,hx⟩:=Kl (k:=(lockOf m w.P).toNat) (act:=act) C hN hi hin hst;exact main (by omega) e hx
  . have ⟨pre,post⟩:=PI C hN hi hin hst hPo;have htm:=o.tm (by omega);refine ⟨.lock hi h0 h16 ⟨by omega,by omega,by omega⟩ hlk.1 (.deed hin hst (by omega) (by omega) pre),fun w' s' b pr=>?_⟩;cases pr with
    | exec hi2 hp2=>rw [hi] at hi2;cases hi2;exact absurd hp2 h0
    | sleep hi2 hp2=>rw [hi] at hi2;cases hi2;exact absurd hp2 h16
    | bare hi2 _ _ hl2=>rw [hi] at hi2;cases hi2;exact absurd hlk.1 hl2
    | lock hi2 _ _ _ lr=>
     rw [hi] at hi2;cases hi2;cases lr with
     | pure e2=>
      exfalso;unfold lockedX at e2;rw [if_neg (by simp [hin])] at e2;split at e2
      . rw [nQ,nQ] at e2;cases e2
      . cases e2
     | deed _ _ dr h1=>have ⟨m1,x,h1',ac,C',K⟩:=post _ _ _ dr;rw [h1] at h1';cases h1';exact ⟨x,C',.act ac (OY K hi h1 (C.A.lt hi) hin hst)⟩
  . have ⟨w1,e,hx⟩:=Km (k:=(lockOf m w.P).toNat) (act:=act) C hN hi hin hst;exact main (by omega) e hx
end
end
end
section
def untilW (M:Nat):W->Nat->Option (W×Bool)
 | w,0=>some (w,dX w)
 | w,n+1=>if dX w=true then some (w,true) else match jv w M with
  | some w1=>untilW M w1 n
  | none=>none
def bN (P M G:Nat):Nat:=64*(M+4)*((P+8)*(P+8)+G)
def vP (w:W):Option (W×Bool):=untilW w.M w (bN w.P w.M w.G)
section
variable {h h' h'':AHeap} {S:jb} {w w':W} {X F G:List Nat} {own:Nat->Nat} {i k d co M p q:Nat} {m:Mc} {b:Bool}
theorem DW.still (x:DW h S w X d co M) (k:Keep [] h h'):DW h' S w X d co M/\KX X h h':=by have ⟨y,ky⟩:=x.at_.still k;exact ⟨⟨y,x.dr.keep ky (by simp) (by simp),x.nx⟩,ky.sub (by simp;intro t ht;simp [ht])⟩
theorem UT (x:DW h S w X d co M) (hp:h.get p=some (Qc [.ptr d 0] none)) (hq:h.get q=some (Qc [.func 11 [] []] none)):∃ h',run T 131 [.ptr q 0,.ptr p 0] h=some (.bool (dX w),h')/\Keep [] h h':=by obtain ⟨⟨r,e1⟩,_⟩:=x.dr;have ⟨h1,e2,k1⟩:=pg x.at_;refine ⟨h1,run_eq Rh ?_,k1⟩;simp [Qu,hp,hq,e1,e2,ad]
def Sy (h:AHeap) (S:jb) (w:W) (X:List Nat) (d co M p q N:Nat) (n:Nat) (fr:FF) (g:AHeap):Prop:=∃ (c:Nat) (w1:W),c+n=N/\untilW M w N=untilW M w1 n/\DW g S w1 (q::p::X) d co M/\KX (q::p::X) h g/\fr.get 3=.ptr p 0/\fr.get 7=.func 131 [] [.ptr q 0,.ptr p 0]/\fr.get 10=.int .i64 (N:Int)/\fr.get 11=.int .i64 (c:Int)
theorem Lv (x:DW h S w X d co M) (hM:M<=1000) {N:Nat} (hN:N<=100000000) (hu:untilW M w N=some (w',b)):∃ h',run T 100 [.ptr d 0,iQ (N:Int),.func 11 [] []] h=some (.bool b,h')/\DW h' S w' X d co M/\KX X h h':=by
 have ⟨x1,k1⟩:=x.at_.push (Qc [.ptr d 0] none);have ⟨x2,k2⟩:=x1.push (Qc [.func 11 [] []] none);rw [dH] at x2;obtain ⟨h2,e2⟩:∃ h2,h2=(h.push (Qc [.ptr d 0] none)).push (Qc [.func 11 [] []] none):=⟨_,rfl⟩
 have q1:h2.get h.size=some (Qc [.ptr d 0] none):=by rw [e2];exact aJ ak
 have q2:h2.get (h.size+1)=some (Qc [.func 11 [] []] none):=by rw [e2,<- dH (h:=h) (x:=.cells false [.ptr d 0] none),ak]
 have kk:KX X h h2:=by rw [e2];exact (k1.sub (by simp;intro t ht;simp [ht])).trans (k2.sub (by simp;intro t ht;simp [ht]))
 have kd:KX (d::co::X) h h2:=by rw [e2];exact k1.trans (k2.sub (by intro t ht;simp at ht ⊢;rcases ht with h | h | h<;>simp [h]))
 have lts:=x.at_.Li;have y:DW h2 S w ((h.size+1)::h.size::X) d co M:=by
  refine ⟨?_,x.dr.keep kd (by simp) (by simp),?_⟩
  . rw [e2];exact x2.sub (by intro t ht;simp at ht ⊢;rcases ht with h | h | h | h | h<;>simp [h])
  . have l1:=lts d (by simp);have l2:=lts co (by simp);simp;exact ⟨⟨by omega,by omega,x.nx.1⟩,by omega,by omega,x.nx.2⟩
 have em:max (0:Int) (N:Int)=(N:Int):=by omega
 refine run_val Rm ?_;simp [QA,em,<- e2];refine Wp.loop (Sy h2 S w X d co M h.size (h.size+1) N) N (nr hN) ?_ ?_
 . exact ⟨0,w,by simp,rfl,y,KX.refl,by simp⟩
 rintro n fr g ⟨c,w1,hc,hun,xg,k,s3,s7,s10,s11⟩;have g1:=k.obj q1 (by simp);have g2:=k.obj q2 (by simp);have ⟨h3,e3,k3⟩:=UT xg g1 g2;have ⟨x3,kx3⟩:=xg.still k3;have sb:∀ t∈X,t∈(h.size+1)::h.size::X:=fun t ht=>by simp [ht]
 have fin:∀ {g':AHeap} {w2:W},DW g' S w2 ((h.size+1)::h.size::X) d co M->DW g' S w2 X d co M:=fun z=>⟨z.at_.sub (by intro t ht;simp at ht ⊢;rcases ht with h | h | h<;>simp [h]),z.dr,x.nx⟩
 by_cases hcl:c<N
 . obtain ⟨n',rfl⟩:∃ n',n=n'+1:=⟨n-1,by omega⟩
   cases hq:dX w1 with
   | true=>rw [hq] at e3;rw [hun,untilW,if_pos hq] at hu;cases hu;simp [s7,s10,s11,hcl,e3];exact ⟨fin x3,kk.trans ((k.trans kx3).sub sb)⟩
   | false=>
    rw [hq] at e3;rw [untilW,if_neg (by simp [hq])] at hun;cases hr:jv w1 M with
    | none=>rw [hun,hr] at hu;cases hu
    | some w2=>rw [hr] at hun;have ⟨h4,e4,x4,k4⟩:=Ma x3 hM hr;have g1':=kx3.obj g1 (by simp);simp [s3,s7,s10,s11,hcl,e3,g1',e4,ad];exact ⟨n',by omega,c+1,w2,by omega,hun,x4,(k.trans kx3).trans k4,by simp [s3,s7,s10,wrap_nat (c:=c) (by omega)]⟩
 . have hn:n=0:=by omega
   subst hn;rw [hun,untilW] at hu;cases hu;simp [s7,s10,s11,hcl,e3];exact ⟨fin x3,kk.trans ((k.trans kx3).sub sb)⟩
theorem JJ (x:DW h S w X d co M) (hM:M<=1000) {N:Nat} (hN:N<=100000000) (hu:untilW M w N=some (w',b)):∃ h',run T 58 [.ptr d 0,iQ (N:Int)] h=some (.bool b,h')/\DW h' S w' X d co M/\KX X h h':=by have ⟨h1,e1,x1,k1⟩:=Lv x hM hN hu;refine ⟨h1,run_eq VU ?_,x1,k1⟩;simp [YF,e1]
theorem JN (x:WorldAt h S w X):∃ v h',run T 57 [.ptr S.a 0,.agg [.int .u8 0,iQ 0]] h=some (v,h')/\(∃ d co,v=.ptr d 0/\DW h' S w X d co w.M)/\KX X h h':=by
 have ⟨x1,k1⟩:=x.still (Keep.push (F:=[]) (x:=.cells false [.int .u8 0,iQ 1] none));have ⟨h2,e2,k2⟩:=js x1;have b1:(h.push (Qc [.int .u8 0,iQ 1] none)).get h.size=some (Qc [.int .u8 0,iQ 1] none):=ak;have b0:(h.push (Qc [.int .u8 0,iQ 0] none)).get h.size=some (Qc [.int .u8 0,iQ 0] none):=ak;have b2:=k2.obj b1 (by simp);have ⟨x2,kx2⟩:=x1.still k2;have sz:w.M<=128:=by have ⟨o,x⟩:=x;exact x.sz.M.2
 have hb:(w.M:Int)*8<=bigA/\w.M<=bigA:=by simp [bigA];omega
 have h11:11<=h2.size:=by have ⟨o,x2⟩:=x2;have:=get_lt (x2.nx.r 6 [] rfl);omega
 have ⟨x3,k3⟩:=x2.push (Qc (List.replicate w.M (iQ 0)) none);have b3:(h2.push (Qc (List.replicate w.M (iQ 0)) none)).get h.size=some (Qc [.int .u8 0,iQ 1] none):=aJ b2;have ⟨x4,k4⟩:=x3.push (Qc [.ptr S.a 0,.int .u8 0,iQ 1,iQ 0,.slice h2.size 0 w.M (.exact w.M)] none);rw [dH] at x4;refine dQ VV ?_;simp [YG,show max (1:Int) 0=1 by decide,b0,b1,e2,b2,hb,jw,b3,ad];have lts:=x2.Li;refine ⟨⟨h2.size,?_⟩,?_⟩
 . refine ⟨x4,⟨⟨0,by rw [<- dH (h:=h2) (x:=.cells false (List.replicate w.M (iQ 0)) none),ak]⟩,⟨List.replicate w.M 0,by simp,?_⟩,by omega,by omega⟩,⟨fun hm=>by have:=lts _ hm;omega,fun hm=>by have:=lts _ hm;omega⟩⟩;have:(h2.push (Qc (List.replicate w.M (iQ 0)) none)).get h2.size=some (Qc (List.replicate w.M (iQ 0)) none):=ak;rw [aJ this];simp [intsA]
 . exact ((k1.trans kx2).trans k3).trans (k4.sub (by simp;intro t ht;simp [ht]))
end
end
section
variable {h h' h'':AHeap} {S:jb} {w w':W} {X F:List Nat} {own:Nat->Nat} {P M G:Nat} {b:Bool}
theorem WorldAt.globs (x:WorldAt h S w X):dL h:=by have ⟨o,x⟩:=x;exact ⟨x.pl,x.al,x.nx,x.db⟩
theorem dL.still (gl:dL h) (k:Keep [] h h'):dL h':=gl.keep k (by simp)
theorem KY (gl:dL h) (hP:1<=P/\P<=64) (hM:P<=M/\M<=128) (hG:1<=G/\G<=4096):∃ h',run T 64 [E2 P M G] h=some (.bool true,h')/\Keep [] h h':=by have kp:Keep [] h (h.push (Qc [iQ (P:Int),iQ (M:Int),iQ (G:Int)] none)):=Keep.push;have b0:(h.push (Qc [iQ (P:Int),iQ (M:Int),iQ (G:Int)] none)).get h.size=some (Qc [iQ (P:Int),iQ (M:Int),iQ (G:Int)] none):=ak;obtain ⟨v,h1,e1,⟨S,rfl,_⟩,k1⟩:=Gy (gl.still kp) (X:=[]) (by simp) hP hM hG;refine run_val ZF ?_;simp [F64,b0,e1];exact kp.trans' k1
theorem T1 (gl:dL h) (hP:1<=P/\P<=64) (hM:P<=M/\M<=128) (hG:1<=G/\G<=4096):∃ h',run T 27 [E2 P M G] h=some (iQ ((bN P M G:Nat):Int),h')/\Keep [] h h'/\bN P M G<=100000000:=by
 have kp:Keep [] h (h.push (Qc [iQ (P:Int),iQ (M:Int),iQ (G:Int)] none)):=Keep.push;have b0:(h.push (Qc [iQ (P:Int),iQ (M:Int),iQ (G:Int)] none)).get h.size=some (Qc [iQ (P:Int),iQ (M:Int),iQ (G:Int)] none):=ak;have ⟨h1,e1,k1⟩:=KY (gl.still kp) hP hM hG;have b1:=k1.obj b0 (by simp);obtain ⟨q,hq⟩:∃ q,q=(P+8)*(P+8):=⟨_,rfl⟩
 have q1:q<=72*72:=by rw [hq];exact qp (by omega) (by omega)
 obtain ⟨r,hr⟩:∃ r,r=64*(M+4)*(q+G):=⟨_,rfl⟩
 have r1:r<=8448*9280:=by rw [hr];exact qp (by omega) (by omega)
 have hbn:bN P M G=r:=by rw [hr,hq];rfl
 have hq':((P:Int)+8)*((P:Int)+8)=(q:Int):=by rw [hq];push_cast;rfl
 have hr':(64*((M:Int)+4))*((q:Int)+(G:Int))=(r:Int):=by rw [hr];push_cast;rfl
 have w1:wQ ((M:Int)+4)=(M:Int)+4:=rQ;have w2:wQ (64*((M:Int)+4))=64*((M:Int)+4):=rQ;have w3:wQ ((P:Int)+8)=(P:Int)+8:=rQ;have w4:wQ (q:Int)=(q:Int):=rQ;have w5:wQ ((q:Int)+(G:Int))=(q:Int)+(G:Int):=rQ;have w6:wQ (r:Int)=(r:Int):=rQ;obtain ⟨m4,hm4⟩:∃ z:Int,z=64*((M:Int)+4):=⟨_,rfl⟩
 obtain ⟨p8,hp8⟩:∃ z:Int,z=(P:Int)+8:=⟨_,rfl⟩
 obtain ⟨qg,hqg⟩:∃ z:Int,z=(q:Int)+(G:Int):=⟨_,rfl⟩
 rw [<- hp8] at hq' w3;rw [<- hm4] at w2;rw [<- hqg] at w5;rw [<- hm4,<- hqg] at hr';have w2':wQ (64*((M:Int)+4))=m4:=by rw [<- hm4];exact w2
 have w5':wQ ((q:Int)+(G:Int))=qg:=by rw [<- hqg];exact w5
 have w3':wQ ((P:Int)+8)=p8:=by rw [<- hp8];exact w3
 suffices hs:∃ h',run T 27 [E2 P M G] h=some (iQ ((bN P M G:Nat):Int),h')/\Keep [] h h' by have ⟨h',e,k⟩:=hs;exact ⟨h',e,k,by omega⟩
 rw [hbn];refine run_val Z6 ?_;simp [F27,b0,e1,b1,w1,w2',w3',hq',w4,w5',hr',w6];exact kp.trans' k1
theorem JM {d co:Nat} (x:DW h S w X d co M):∃ r,run T 59 [.ptr d 0] h=some (iQ r,h):=by obtain ⟨⟨r,e1⟩,_⟩:=x.dr;refine ⟨r,run_eq VT ?_⟩;simp [YE,e1]
theorem tB (x:WorldAt h S w X) (hu:vP w=some (w',b)):∃ v h',run T 21 [.ptr S.a 0] h=some (v,h')/\(∃ r,v=.tuple [iQ r,.bool b])/\WorldAt h' S w' X/\KX X h h':=by
 obtain ⟨v1,h1,e1,⟨d,co,rfl,x1⟩,k1⟩:=JN x;have ⟨h2,e2,k2⟩:=js x1.at_;have ⟨x2,kx2⟩:=x1.still k2;have sz:Sz w:=by have ⟨o,x⟩:=x;exact x.sz
 have ⟨h3,e3,k3,hB⟩:=T1 x2.at_.globs sz.P sz.M sz.G;have ⟨x3,kx3⟩:=x2.still k3;have ⟨h4,e4,x4,k4⟩:=JJ x3 (by have:=sz.M.2;omega) hB hu;have ⟨r,e5⟩:=JM x4;refine dQ Wk ?_;simp [YO,e1,e2,e3,e4,e5];exact ⟨x4.at_.sub (by intro t ht;simp [ht]),((k1.trans kx2).trans kx3).trans k4⟩
end
section
def CO (w:W) (i:Nat):Bool:=match w.all[i]? with
 | some m=>decide (m.rest.length<=1000) && (!asleepW w i m || (decide (m.p<0) && decide (m.nx<0)))
 | none=>true
def oi (w:W):Nat->Bool
 | 0=>true
 | c+1=>oi w c && CO w c
theorem AX {w:W}:∀ {n i:Nat},oi w n=true->i<n->CO w i=true
 | n+1,i,h,hi=>by
  simp [oi,aA] at h;by_cases hn:i=n
  . rw [hn];exact h.2
  . exact AX h.1 (by omega)
section
variable {h h' h'':AHeap} {S:jb} {w w':W} {X F:List Nat} {own:Nat->Nat} {P M G:Nat} {b:Bool}
def XG (h:AHeap) (S:jb) (w:W) (X:List Nat) (n:Nat) (fr:FF) (g:AHeap):Prop:=∃ c:Nat,c+n=w.M/\WorldAt g S w X/\Keep [] h g/\fr.get 0=.ptr S.a 0/\fr.get 7=.int .i64 (w.M:Int)/\fr.get 8=.int .i64 (c:Int)
theorem Iz (x:WorldAt h S w X) (hf:oi w w.M=true):∃ h',run T 68 [.ptr S.a 0] h=some (.bool false,h')/\Keep [] h h':=by
 have ⟨h1,e1,k1⟩:=js x;have hM:w.M<=128:=by have ⟨o,x⟩:=x;exact x.sz.M.2
 have hall:w.all.length=w.M:=by have ⟨o,x⟩:=x;exact x.lens.1
 refine run_val Zy ?_;simp [F68,e1,ad];refine Wp.loop (XG h S w X) w.M lQ ?_ ?_
 . exact ⟨0,by simp,(x.still k1).1,k1,by simp⟩
 rintro n fr g ⟨c,hc,xg,k,s0,s7,s8⟩;by_cases hcl:c<w.M
 . obtain ⟨m,hi⟩:∃ m,w.all[c]?=some m:=⟨_,ah (by omega)⟩
   have hfa:=AX hf hcl;simp [CO,hi,aA,decide_eq_true_eq] at hfa;obtain ⟨u,g1,em,⟨rs,rfl,hone⟩,km⟩:=jU xg hi hfa.1;have ⟨x1,_⟩:=xg.still km;have kz:Keep [] g1 (g1.push (Qc (gD m rs) none)):=Keep.push;have ⟨x2,_⟩:=x1.still kz;have ⟨g3,ea,ka⟩:=Bn x2 hi;have ⟨x3,_⟩:=x2.still ka;have hz:(g1.push (Qc (gD m rs) none)).get g1.size=some (Qc (gD m rs) none):=ak;have hz3:=ka.obj hz (by simp);have hm1:(gD m rs)[1]?=some (iQ m.p):=rfl;have hm3:(gD m rs)[3]?=some (iQ m.nx):=rfl;have l18:(gD m rs).length=18:=rfl;have w1:writeOf (g1.push (Qc nT none)) g1.size (some (Qc nT none)) 0 (gD m rs)=some (g1.push (Qc (gD m rs) none)):=push_write rfl (vX hone);have hk:asleepW w c m=false\/(m.p<0/\m.nx<0):=by
    have:=hfa.2
    cases ha:asleepW w c m with
    | false=>exact dc rfl
    | true=>rw [ha] at this;simpa using this
   rcases hk with hk | hk
   . rw [hk] at ea;simp [-push_write,s0,s7,s8,hcl,em,w1,l18,ea];exact ⟨n-1,by omega,c+1,by omega,x3,((k.trans' km).trans' kz).trans' ka,by simp [s0,s7,wrap_nat (c:=c) (by omega)]⟩
   . have p0:¬ 0<=m.p:=by omega
     have p1:¬ 0<=m.nx:=by omega
     cases ha:asleepW w c m<;>rw [ha] at ea
     . simp [-push_write,s0,s7,s8,hcl,em,w1,l18,ea];exact ⟨n-1,by omega,c+1,by omega,x3,((k.trans' km).trans' kz).trans' ka,by simp [s0,s7,wrap_nat (c:=c) (by omega)]⟩
     . simp [-push_write,-getElem?_pos,s0,s7,s8,hcl,em,w1,l18,ea,hz3,hm1,hm3,p0,p1];exact ⟨n-1,by omega,c+1,by omega,x3,((k.trans' km).trans' kz).trans' ka,by simp [s0,s7,wrap_nat (c:=c) (by omega)]⟩
 . have hcx:c=w.M:=by omega
   subst hcx;simp [s7,s8];exact k
abbrev LW:List AV:=[.bool false,.int .i64 1,.bool false,.int .i64 2,.bool false,.int .i64 3,.bool false,.int .i64 4,.bool false,.int .i64 5,.bool false,.int .i64 6]
theorem Ga:∀ c<6,∃ z:Int,(LW.drop (c*2)).take 2=[.bool false,iQ z]:=by
 intro c hc;match c,hc with
 | 0,_ | 1,_ | 2,_ | 3,_ | 4,_ | 5,_=>exact ⟨_,rfl⟩
 | n+6,h=>omega
def HG (h:AHeap) (j:Nat) (n:Nat) (fr:FF) (g:AHeap):Prop:=∃ c:Nat,c+n=6/\Keep [] h g/\g.get j=some (.cells false LW none)/\fr.get 7=.nilslice/\fr.get 54=.slice j 0 6 (.exact 6)/\fr.get 55=.int .i64 6/\fr.get 56=.int .i64 (c:Int)
theorem Ns (x:WorldAt h S w X) (hq:dX w=true) (hip:w.ip=[]) (hs:wd w.ws w.sp=0) (hp:w.pend=[]) (hf:oi w w.M=true) (hms:w.ms.length<=1000):∃ h',run T 28 [.ptr S.a 0] h=some (.nilslice,h')/\Keep [] h h':=by
 have ⟨h1,e1,k1⟩:=pg x;rw [hq] at e1;have ⟨x1,_⟩:=x.still k1;have ⟨h2,y,e2,⟨FT,wz,iy,hm⟩,k2⟩:=CK x1 (by rw [hp];simp;exact hms);have ⟨x2,_⟩:=x1.still k2;have e3:=uh iy;rw [hm,hip] at e3;have e4:=tJ iy;have ⟨h3,e5,k3⟩:=o8 x2;rw [hs] at e5;have ⟨x3,_⟩:=x2.still k3;have e6:=xm (iy.keep k3 (by simp));rw [hp] at e6;have ⟨h4,e7,k4⟩:=Iz x3 hf;have kk:=((k1.trans' k2).trans' k3).trans' k4;have kp:Keep [] h4 (h4.push (Qc LW none)):=Keep.push;have hz:(h4.push (Qc LW none)).get h4.size=some (Qc LW none):=ak;simp [bw,qs] at e3 e6;refine run_val V0 ?_;simp [-getElem?_pos,XP,e1,e2,e3,e4,e5,e6,e7,ad];refine Wp.loop (HG h h4.size) 6 lQ ?_ ?_
 . exact ⟨0,by simp,kk.trans' kp,hz,by simp⟩
 rintro n fr g ⟨c,hc,k,gj,s7,s54,s55,s56⟩;by_cases hcl:c<6
 . have ⟨z,hz2⟩:=Ga c hcl;have ix:idxAddrV 2 none (.slice h4.size 0 6 (.exact 6)) (iQ (c:Int))=some (.ptr h4.size (c*2)):=by simp only [idxAddrV];rw [if_pos (by omega)];simp
   have l6:c*2+2<=LW.length:=by simp;omega
   have kz:Keep [] g (g.push (.cells false [.bool false,.int .i64 z] none)):=Keep.push;have w1:writeOf (g.push (.cells false [.bool false,.int .i64 0] none)) g.size (some (.cells false [.bool false,.int .i64 0] none)) 0 [.bool false,.int .i64 z]=some (g.push (.cells false [.bool false,.int .i64 z] none)):=push_write rfl rfl;have ci:(c:Int)<6:=by omega
   have cl2:cellsOf (g.get h4.size) (c*2) 2=some [.bool false,.int .i64 z]:=by rw [gj,gK,if_pos l6,hz2]
   simp [-writeOf_some,-push_write,-getElem?_pos,s54,s55,s56,ci,ix,cl2,w1,ad];exact ⟨n-1,by omega,c+1,by omega,k.trans' kz,kz.obj gj (by simp),by simp [s7,s54,s55,wrap_nat (c:=c) (by omega)]⟩
 . have hcx:c=6:=by omega
   subst hcx;simp [-getElem?_pos,s7,s55,s56];exact k
end
end
section
open Sch
section
variable {w w' w1:W} {s s':dU} {a b:St} {i k n:Nat} {m m' m1:Mc} {N:Int} {f:Bool} {kd act ar g d:Int}
theorem mach_at (C:bu w s a N) (hi:i<w.M):∃ m,w.all[i]?=some m:=⟨_,ah (by rw [C.A.lA];exact hi)⟩
theorem Js (C:bu w s a N) (hN:N<100000000) (hPo:gX) (hd:isI64 d):(∀ i:Nat,kd=0->ar=i->i<w.M->lf w s i act g d)/\∀ w' s' b,uR w s kd act ar g d w' s' b->∃ x,bu w' s' x (N+1):=by
 refine ⟨fun i _ _ hi=>?_,fun w' s' b r=>?_⟩
 . have ⟨m,hm⟩:=mach_at C hi;exact (pick_goal C hN hm hPo hd).1
 . have hq:=oa C;have kt:∀ due,Kp 1 w (tellW w due):=fun due=>by
    unfold tellW;split
    . split
      . exact ((Kp.q (w:=w) (l:=-1)).trans (Kp.cR (w:={w with q:=-1}) (k:=w.nt+w.q.toNat) (v:=1) (by show 2*w.P+4<=2*w.P+5+w.q.toNat;omega))).le (by omega)
      . exact (Kp.q (w:=w) (l:=-1)).le (by omega)
    . exact Kp.refl.le (by omega)
   cases r with
   | pick hk ha hi pr=>have ⟨m,hm⟩:=mach_at C hi;have ⟨x,C',_⟩:=(pick_goal C hN hm hPo hd).2 _ _ _ pr;exact ⟨x,C'⟩
   | none=>exact ⟨a,C.more hN⟩
   | full=>exact ⟨a,C.more hN⟩
   | tick hk=>have ⟨S',ho⟩:=RH C.S d;have ⟨x,ex,hA⟩:=DP C.A ho (fun h=>CR S' h) hq (fun k h=>Mi C h);exact ⟨x,C.kept hN (kt _) hA (Sch.T0.inv C.I ex) (Sch.T0.inv2 C.J ex) S'⟩
   | ready hk ha hf=>have ⟨S',ho⟩:=O0 C.S ha hf;have ⟨x,ex,hA⟩:=DP C.A ho (fun h=>CR S' h) hq (fun k h=>Mi C h);exact ⟨x,C.kept hN (kt _) hA (Sch.T0.inv C.I ex) (Sch.T0.inv2 C.J ex) S'⟩
theorem Lc {P:Nat}:(amOf m f P).rest=m.rest:=by
 have h:(thenM m f P).rest=m.rest:=wU.2.2.2;unfold amOf;split
 . exact h
 . rfl
theorem vR (C:bu w s a N) (hi:w.all[i]?=some m):m.rest.length<=40:=by
 have ⟨f,hf⟩:=C.A.pP hi;have hiM:=C.A.yO hi;have e:(a.mc i).rest=m.rest:=by rw [C.A.mc i m f hi hf,Lc]
 have h:=py (n:=a.G) (l:=(a.mc i).rest) (C.J.R.rest i hiM) fun g hg=>by
  have h1:=C.J.occ g hg;have h2:rC (a.stt g)<=1:=by unfold rC;split<;>omega
  have h4:=cy (f:=fun j=>Sch.hg (a.mc j) g) hiM;have h5:(a.mc i).rest.count (g:Int)<=Sch.hg (a.mc i) g:=by unfold Sch.hg;omega
  omega
 rw [e] at h;have:=C.A.G;have:=C.G;omega
noncomputable def Gu (w:W) (a:St):Nat:=5*Oj a+rs w
theorem O9 (C:bu w s a N) (hi:i<w.M) (o:Br w s a 0 i w' s' b):(w'=w/\s'=s/\b=a/\Fv w i)\/Gu w' b<Gu w a:=by
 have hiM:i<a.M:=by rw [C.A.M];exact hi
 cases o with
 | still h1 h2 h3 h4=>exact .inl ⟨h1,h2,h3,h4⟩
 | sect h1 h2=>right;unfold Gu;rw [h1];omega
 | act h1 h2=>right;have:=Sch.Act.pot C.I C.J hiM h1;unfold Gu;omega
 | deed h=>exact absurd rfl h
theorem UW (C:bu w s a N):w.M<=rs w/\rs w<=4*w.M:=by
 unfold rs;have h1:∀ j,j<w.M->1<=rAt w j/\rAt w j<=4:=fun j hj=>by have ⟨m,hm⟩:=mach_at C hj;rw [nZ hm];exact QM m
 have h2:=iw (f:=fun _=>1) (g:=rAt w) (n:=w.M) fun j hj=>(h1 j hj).1;have h3:=iw (f:=rAt w) (g:=fun _=>4) (n:=w.M) fun j hj=>(h1 j hj).2;rw [iz] at h2 h3;omega
theorem Mu (C:bu w s a N):1<=Gu w a/\Gu w a<=bN w.P w.M w.G:=by have h1:=RV C.I C.J;have h2:=UW C;rw [C.A.P,C.A.M,C.A.G] at h1;have h3:=Sch.NL (P:=w.P) (M:=w.M) (G:=w.G) C.P C.M;have h4:=C.P;have h5:=C.M;unfold Gu bN;omega
theorem PV (C:bu w s a N) (h:∀ i,i<w.M->Fv w i):∀ i,i<w.M->z7 w i=true:=by
 intro i hi;have ⟨m,hm,hs⟩:=h i hi;unfold z7;rw [hm];simp only;rcases hs with hs | ⟨h1,h2⟩ | ⟨h1,h2,h3⟩
 . simp [hs]
 . have h4:=C.I.note i (by rw [C.A.M];exact hi);have h5:=C.A.note i hi;have h6:wd w.ws (w.nt+i)=0:=by omega
   simp [asleepW,h1,h6]
 . exfalso;have o:=C.L.inn i m hm h1;have hl:=o.l;have wk:=C.L.words (lockOf m w.P).toNat (by omega);have tk:=o.tk;have ⟨j,mj,hj,jin,jlk,jtk⟩:=C.L.held (lockOf m w.P).toNat (by omega) (srv w (lockOf m w.P).toNat) (by omega) (by omega);have oj:=C.L.inn j mj hj jin;have hjl:=oj.l;have hjM:j<w.M:=by rw [<- C.A.lA];exact (aa.1 hj).1
   have ⟨mj',hj',hs'⟩:=h j hjM;rw [hj] at hj';cases hj';rcases hs' with hs' | ⟨h1',_⟩ | ⟨_,_,h3'⟩
   . rw [lB (by omega)] at hjl;omega
   . rw [lB (by omega)] at hjl;omega
   . apply h3';rw [jtk,jlk,aC]
theorem yx {w:W}:∀ {n:Nat},(∀ i,i<n->z7 w i=true)->jX w n=true
 | 0,_=>rfl
 | n+1,h=>by simp [jX,aA];exact ⟨yx fun i hi=>h i (by omega),h n (by omega)⟩
theorem Bh {w:W}:∀ {n i:Nat},jX w n=true->i<n->z7 w i=true
 | n+1,i,h,hi=>by
  simp [jX,aA] at h;by_cases hn:i=n
  . rw [hn];exact h.2
  . exact Bh h.1 (by omega)
theorem Mh (C:bu w s a N) (h:∀ i,i<w.M->Fv w i):dX w=true:=yx (PV C h)
theorem je (C:bu w s a N) (hq:dX w=true) (hi:w.all[i]?=some m):a.mc i=rawA m 0/\(m.pl=0\/(m.pl=16/\wd w.ws (w.nt+i)=0)):=by
 have h1:=Bh hq (C.A.lt hi);unfold z7 at h1;rw [hi] at h1;simp [asleepW,cw,aA,decide_eq_true_eq] at h1;have hin:m.inn=false:=by
  cases h:m.inn with
  | false=>rfl
  | true=>have:=(C.L.inn i m hi h).l.1;rw [lB (by omega)] at this;omega
 have ⟨f,hf,em⟩:=A_out C.A hi hin;exact ⟨em,h1⟩
theorem lN (C:bu w s a N) (hq:dX w=true):Sch.XR a:=by intro i hi;rw [C.A.M] at hi;have ⟨m,hm⟩:=mach_at C hi;have ⟨em,h1⟩:=je C hq hm;rw [em,C.A.note i hi];exact h1
theorem qO (C:bu w s a N) (hq:dX w=true):wd w.ws w.sp=0/\w.pend=[]:=by have h1:=KV C.I (lN C hq);have h2:=uj C.I (lN C hq);rw [C.A.spin] at h1;rw [C.A.pend] at h2;exact ⟨h1,h2⟩
theorem qP (C:bu w s a N) (hq:dX w=true) (hip:w.ip≠[]):(∀ (k:Nat) r,w.rings[k]?=some r->ringL r=[])/\w.gl=[]/\w.q≠-1/\dueS s=false:=by have ⟨h1,h2,h3,h4⟩:=KW C.I (lN C hq) (by rw [C.A.ip];exact hip);rw [C.A.gl] at h2;rw [C.A.q] at h3;rw [C.A.due] at h4;refine ⟨fun k r hr=>?_,h2,h3,h4⟩;rw [<- C.A.ring k r hr];exact h1 k (by rw [C.A.P,<- C.A.lR];exact (aa.1 hr).1)
theorem Gn (C:bu w s a N) (hq:dX w=true):oi w w.M=true:=by
 have key:∀ n,n<=w.M->oi w n=true:=fun n=>by
  induction n with
  | zero=>intro _;rfl
  | succ n ih=>
   intro hn;simp [oi,aA];refine ⟨ih (by omega),?_⟩;have ⟨m,hm⟩:=mach_at C (show n<w.M by omega);have ⟨em,h1⟩:=je C hq hm;have hr:=vR C hm;have hnx:=calm_nx C.I (lN C hq) (i:=n) (by rw [C.A.M];omega);rw [em] at hnx;have hnx:m.nx=-1:=hnx;unfold CO;rw [hm];simp [aA,decide_eq_true_eq,cw,fQ];refine ⟨by omega,?_⟩;rcases h1 with h1 | ⟨h1,h2⟩
   . left;unfold asleepW;rw [decide_eq_false (by omega)];rfl
   . right;have V:=C.valOf hm em;have vp:=V.p;rw [if_pos (by unfold gm rawA;simp only;omega)] at vp;have vp:m.p=-1:=vp;omega
 exact key w.M (aq _)
end
end
section
variable {P M G:Nat}
def Ze:Sch.Am:=⟨1,0,-1,-1,-1,-1,0,false,[],0,0,0⟩
def Zd:Sch.Am:=⟨16,-1,-1,-1,-1,-1,0,false,[],0,0,0⟩
def first (P M G:Nat):Sch.St:={P:=P,M:=M,G:=G,spin:=0,note:=fun _=>0,stt:=fun g=>if g=0 then 1 else 0,ring:=fun _=>[],gl:=[0],ip:=List.range' 1 (P-1),pend:=[],ms:=yW M,q:=qN M,mc:=fun i=>if i=0 then Ze else Zd,due:=false,out:=[]}
theorem ou:∀ (n s p:Nat),(List.range' s n).count p=if s<=p/\p<s+n then 1 else 0
 | 0,s,p=>by simp
 | n+1,s,p=>by
  rw [List.range'_succ,bR,ou n (s+1) p];by_cases h:s=p
  . subst h;have e1:¬ (s+1<=s/\s<s+1+n):=by omega
    have e2:s<=s/\s<s+(n+1):=by omega
    simp [if_neg e1,if_pos e2,BEq.rfl,if_true]
  . have hb:(s == p)=false:=by simpa using h
    rw [hb];by_cases h2:s+1<=p/\p<s+1+n
    . have e2:s<=p/\p<s+(n+1):=by omega
      simp [if_pos h2,if_pos e2,aF,if_false]
    . have e2:¬ (s<=p/\p<s+(n+1)):=by omega
      simp [if_neg h2,if_neg e2,aF,if_false]
theorem KS (M p:Nat):(yW M).count (p:Int)=if 1<p/\p<M then 1 else 0:=by
 have h:(yW M).count (p:Int)=(List.range' 2 (M-2)).count p:=by
  unfold yW;generalize List.range' 2 (M-2)=l;induction l with
  | nil=>rfl
  | cons x l ih=>
   simp [aR,bR,ih];congr 1;by_cases h:x=p
   . simp [h]
   . have:¬ ((x:Int)=(p:Int)):=by omega
     simp [h,this]
 rw [h,ou];by_cases h2:1<p/\p<M
 . rw [if_pos h2,pQ]
 . rw [if_neg h2,nQ]
theorem ES (hP:1<=P) (hM:P<=M) (hG:1<=G):Sch.yI (first P M G):=by
 refine ⟨⟨hP,hM,hG⟩,rfl,fun _ _=>rfl,fun _ _=>rfl,fun _ _=>rfl,rfl,fun p=>?_,rfl,?_,KS M,fun k hk=>?_,rfl,fun i _ hi=>if_neg hi,rfl,rfl⟩
 . show (List.range' 1 (P-1)).count p=if 0<p/\p<P then 1 else 0;rw [ou];by_cases h2:0<p/\p<P
   . rw [if_pos h2,pQ]
   . rw [if_neg h2,nQ]
 . show qN M=if 1<M then 1 else -1;unfold qN;by_cases h:1<M
   . rw [nQ,if_pos h]
   . rw [pQ,if_neg h]
 . have hk:k∈yW M:=hk;show 0<=k/\k<(M:Int);simp [yW,gk,List.mem_range'_1] at hk;obtain ⟨j,h1,rfl⟩:=hk;omega
theorem xr {i:Nat} {m:Mc} (hM:1<=M) (h:(kL P M G).all[i]?=some m):m=if i=0 then {freshM with pl:=1,p:=0} else freshM:=by
 have h:((List.replicate M freshM).set 0 {freshM with pl:=1,p:=0})[i]?=some m:=h;rw [eU] at h;by_cases hi:0=i
 . subst hi;rw [if_pos rfl] at h;simp only [List.length_replicate] at h;rw [pQ] at h;cases h;rfl
 . rw [if_neg hi,bS] at h;by_cases hl:i<M
   . rw [if_pos hl] at h;cases h;rw [if_neg (fun e=>hi e.symm)]
   . rw [if_neg hl] at h;cases h
theorem vW {k:Nat}:wd (kL P M G).ws k=if k=2*P+5+M/\1<=G then 1 else 0:=by
 show wd ((List.replicate (2*P+5+M+G) 0).set (2*P+5+M) 1) k=_;unfold wd;rw [aO,eU];by_cases hk:k=2*P+5+M
 . subst hk;rw [if_pos rfl];by_cases hG:1<=G
   . simp [hG];rw [pQ];rfl
   . have:G=0:=by omega
     subst this;simp
 . rw [nQ,nQ,bS];split<;>rfl
theorem A0 (hP:1<=P/\P<=8) (hM:P<=M/\M<=P+4) (hG:1<=G/\G<=40):bu (kL P M G) (fB P) (first P M G) 1:=by
 have F:=ES hP.1 hM.1 hG.1;have hin:∀ (i:Nat) m,(kL P M G).all[i]?=some m->m.inn=false:=fun i m h=>by rw [xr (by omega) h];split<;>rfl
 refine ⟨⟨rfl,rfl,rfl,by simp [kL,startW],by simp [kL,startW],by simp [kL,startW],by simp [kL,startW],by simp [kL,startW],?_,fun j hj=>?_,fun g hg=>?_,fun k r hr=>?_,rfl,rfl,rfl,rfl,rfl,fun j m f h hf=>?_,?_,?_⟩,F.inv,F.inv2,hP,hM,hG,?_,?_,fun i m h=>?_,fun k r hr=>?_,fun k z hz=>?_,by simp [kL],by omega⟩
 . rw [vW,if_neg (by simp [W.sp,kL,startW];omega)];rfl
 . have hj:j<M:=hj;rw [vW,if_neg (by simp [W.nt,kL,startW];omega)];rfl
 . rw [vW];show (if g=0 then (1:Int) else 0)=_;show _=if 2*P+5+M+g=2*P+5+M/\1<=G then (1:Int) else 0;by_cases h0:g=0
   . rw [if_pos h0,pQ]
   . rw [if_neg h0,nQ]
 . have hr:(List.replicate P pk)[k]?=some r:=hr;rw [bS] at hr;split at hr
   . cases hr;rfl
   . cases hr
 . have e:=xr (by omega) h;show (if j=0 then Ze else Zd)=amOf m f P;rw [e];by_cases h0:j=0
   . rw [if_pos h0,if_pos h0];simp [amOf,rawA,Ze]
   . rw [if_neg h0,if_neg h0];simp [amOf,rawA,Zd]
 . show false=dueS (fB P);have:oq (List.replicate P ([]:List En)) 0=false:=by unfold oq;rw [jt];intro l hl;rw [(List.mem_replicate.1 hl).2];simp
   simp [dueS,fB,this,oN]
 . rfl
 . refine ⟨by simp [fB,kL,startW],?_,⟨by simp [fB],by simp [fB],by simp [fB]⟩,by simp [fB],by simp [fB],by simp [fB],by simp [fB],by simp [fB,isI64]⟩;have:(List.replicate P ([]:List En)).flatten=[]:=by simp
   simp [fB]
 . have z:∀ k,k<2*P+5->wd (kL P M G).ws k=0:=fun k hk=>by rw [vW,nQ]
   refine ⟨fun l hl=>?_,fun i m h hi=>?_,fun i j m m' h _ hi=>?_,fun l hl t h1 h2=>?_⟩
   . have hl:l<=P+1:=hl;unfold srv nxt;rw [z _ (by omega),z _ (by omega)];omega
   . rw [hin i m h] at hi;cases hi
   . rw [hin i m h] at hi;cases hi
   . have hl:l<=P+1:=hl;unfold srv at h1;unfold nxt at h2;rw [z _ (by omega)] at h1 h2;omega
 . rw [xr (by omega) h];split<;>exact ⟨.inl rfl,.inl rfl,by simp [isI64],by simp⟩
 . have hr:(List.replicate P pk)[k]?=some r:=hr;rw [bS] at hr;split at hr
   . cases hr;simp [pk]
   . cases hr
 . have hz:(List.replicate P (0:Int))[k]?=some z:=hz;rw [bS] at hz;split at hz
   . cases hz;simp
   . cases hz
end
section
structure SE (w w':W):Prop where
 P:w'.P=w.P
 M:w'.M=w.M
 G:w'.G=w.G
def Q4 (Z:W->dU->Sch.St->Prop):Prop:=∀ {w s a N i w' s' b a'},bu w s a N->i<w.M->Z w s a->nN w s i 0 0 0 w' s' b->bu w' s' a' (N+1)->Br w s a 0 i w' s' a'->Z w' s' a'
structure Zs (Z:W->dU->Sch.St->Prop) (w w':W) (s':dU) (a':Sch.St):Prop where
 P:w'.P=w.P
 M:w'.M=w.M
 G:w'.G=w.G
 z:Z w' s' a'
theorem Zs.trans {Z:W->dU->Sch.St->Prop} {w w' w'':W} {s' s'':dU} {a' a'':Sch.St} (x:Zs Z w w' s' a') (y:Zs Z w' w'' s'' a''):Zs Z w w'' s'' a'':=⟨y.P.trans x.P,y.M.trans x.M,y.G.trans x.G,y.z⟩
structure DX (h:AHeap) (S:jb) (L:fZ) (w:W) (s:dU) (X:List Nat) (d co M r:Nat):Prop where
 at_:Whole h S L w s (d::co::X)
 hd:h.get d=some (.cells false [.ptr S.a 0,.int .u8 0,.int .i64 1,.int .i64 (r:Int),.slice co 0 M (.exact M)] none)
 ct:∃ cl,cl.length=M/\h.get co=some (.cells false (intsA cl) none)
 ne:d≠co
 lo:11<=d/\11<=co
 nx:d∉X/\co∉X
section
variable {h h' h'':AHeap} {S:jb} {L L':fZ} {w w':W} {s s':dU} {a b:Sch.St} {X Y F G:List Nat} {i k d co M r p q:Nat} {m:Mc} {N:Int} {bb:Bool}
theorem P9 (t:Sch.Act a i b):b.P=a.P/\b.M=a.M/\b.G=a.G:=by cases t<;>exact ⟨rfl,rfl,rfl⟩
theorem Ce (C:bu w s a N) (C':bu w' s' b (N+1)) (o:Br w s a 0 i w' s' b):SE w w':=by
 have e:b.P=a.P/\b.M=a.M/\b.G=a.G:=by
  cases o with
  | still _ _ h _=>subst h;exact ⟨rfl,rfl,rfl⟩
  | sect h _=>subst h;exact ⟨rfl,rfl,rfl⟩
  | act t _=>exact P9 t
  | deed h _=>exact absurd rfl h
 exact ⟨by rw [<- C'.A.P,e.1,C.A.P],by rw [<- C'.A.M,e.2.1,C.A.M],by rw [<- C'.A.G,e.2.2,C.A.G]⟩
theorem bu.Rz (C:bu w s a N):∀ k:Nat,N+k<=100000000->bu w s a (N+k)
 | 0,_=>by simpa using C
 | k+1,h=>by have:=(C.Rz k (by omega)).more (by omega);rw [show N+(k:Int)+1=N+((k+1:Nat):Int) by omega] at this;exact this
theorem bu.XV (C:bu w s a N) {N':Int} (h1:N<=N') (h2:N'<=100000000):bu w s a N':=by have:=C.Rz (N'-N).toNat (by omega);rwa [show N+((N'-N).toNat:Int)=N' by omega] at this
theorem Whole.outside (x:Whole h S L w s X) (k:Keep G h h') (hG:∀ t∈G,t∈X/\11<=t):Whole h' S L w s X:=
 ⟨x.at_.outside k fun t ht=>⟨cf _ (hG t ht).1,(hG t ht).2⟩,x.src.keep k fun t ht hm=>x.nX t ht (hG t hm).1,x.lo,x.nX,x.hl⟩
theorem Whole.Li (x:Whole h S L w s X):∀ t∈X,t<h.size:=fun t ht=>x.at_.Li t (cf _ ht)
theorem Whole.olt (x:Whole h S L w s X):∀ t∈L.objs S.si s.t.hs.length,t<h.size:=fun t ht=>x.at_.Li t (bp _ ht)
theorem Whole.ne (x:Whole h S L w s X):11<=h.size:=by have ⟨o,y⟩:=x.at_;have:=get_lt (y.nx.r 6 [] rfl);omega
theorem Whole.push (x:Whole h S L w s X) (o:AObj):Whole (h.push o) S L w s (h.size::X)/\KX X h (h.push o):=by
 have ⟨y,k⟩:=x.at_.push o;refine ⟨⟨y.sub ?_,x.src.still Keep.push,x.lo,fun t ht hm=>?_,x.hl⟩,k.sub fun t ht=>cf _ ht⟩
 . intro t ht;simp [bd,aD] at ht ⊢;rcases ht with h | h | h<;>simp [h]
 . rcases aD.1 hm with rfl | hm
   . exact absurd (x.olt _ ht) (by omega)
   . exact x.nX t ht hm
theorem DX.still (x:DX h S L w s X d co M r) (k:Keep [] h h'):DX h' S L w s X d co M r/\KX X h h':=by have ⟨y,ky⟩:=x.at_.still k;have ⟨cl,l,e2⟩:=x.ct;exact ⟨⟨y,k.obj x.hd (by simp),⟨cl,l,k.obj e2 (by simp)⟩,x.ne,x.lo,x.nx⟩,ky.sub (by simp;intro t ht;simp [ht])⟩
theorem DX.step (x:DX h S L w s X d co M r) (y:Whole h' S L' w' s' (d::co::X)) (k:KX (d::co::X) h h'):DX h' S L' w' s' X d co M r/\KX X h h':=by have ⟨cl,l,e2⟩:=x.ct;exact ⟨⟨y,k.obj x.hd (by simp),⟨cl,l,k.obj e2 (by simp)⟩,x.ne,x.lo,x.nx⟩,k.sub (by simp;intro t ht;simp [ht])⟩
theorem Ov (x:DX h S L w s X d co M r) (hi:w.all[i]?=some m) (hM:i<M) (hr:m.rest.length<=1000):∃ h',run T 164 [.ptr d 0,iQ (i:Int)] h=some (.int .u8 0,h')/\DX h' S L w s X d co M r/\KX X h h':=by
 have e1:=x.hd;have ⟨cl,l,e2⟩:=x.ct;have ne:=x.ne;have lo:=x.lo;obtain ⟨uu,h1,em,⟨rs,rfl,_⟩,k1⟩:=jU x.at_.at_ hi hr;have ⟨x1,kx1⟩:=x.at_.still k1;have e1':=k1.obj e1 (by simp);have e2':=k1.obj e2 (by simp);have hm0:(gD m rs)[0]?=some (iQ m.pl):=rfl;have lts:=x1.Li;refine run_val Rc ?_;by_cases h0:m.pl=0
 . obtain ⟨z,hz⟩:∃ z,cl[i]?=some z:=⟨_,ah (by omega)⟩
   have hz':=ny hz;have ix:idxAddrV 1 none (.slice co 0 M (.exact M)) (iQ (i:Int))=some (.ptr co i):=by simp only [idxAddrV];rw [pQ];simp
   obtain ⟨z1,hz1⟩:∃ z1,z1=IntKind.wrap .i64 (z+1):=⟨_,rfl⟩
   have wi:writeOf h1 co (some (Qc (intsA cl) none)) i [iQ z1]=some (h1.put co (.cells false (intsA (cl.set i z1)) none)):=by rw [wr1 (by simp;omega) rfl,qa]
   have kp:Keep [co] h1 (h1.put co (.cells false (intsA (cl.set i z1)) none)):=Keep.put (by simp);have q1:(h1.put co (.cells false (intsA (cl.set i z1)) none)).get co=some (.cells false (intsA (cl.set i z1)) none):=by rw [get_put_same,e2'];rfl
   have q2:(h1.put co (.cells false (intsA (cl.set i z1)) none)).get d=some (.cells false [.ptr S.a 0,.int .u8 0,.int .i64 1,.int .i64 (r:Int),.slice co 0 M (.exact M)] none):=by rw [get_put_ne ne,e1']
   have q3:(intsA (cl.set i z1))[i]?=some (.int .i64 z1):=ny (ax (by omega));have em1:Int.tmod z1 1=0:=by simp
   simp [-writeOf_some,-getElem?_pos,Lf,e1,em,hm0,h0,e1',e2',ix,hz',<- hz1,wi,q1,q2,q3,em1,ad];exact ⟨⟨x1.outside kp (by simp;exact lo.2),q2,⟨cl.set i z1,by simpa using l,q1⟩,ne,lo,x.nx⟩,(kx1.sub (by simp;intro t ht;simp [ht])).trans (Cp kp (fun t ht=>⟨lts t (by simp [ht]),by simp;rintro rfl;exact x.nx.2 ht⟩))⟩
 . simp [-writeOf_some,-getElem?_pos,Lf,e1,em,hm0,h0,ad];exact ⟨⟨x1,e1',⟨cl,l,e2'⟩,ne,lo,x.nx⟩,kx1.sub (by simp;intro t ht;simp [ht])⟩
theorem Ln (x:DX h S L w s X d co M r) (hr:r<=100000000):∃ h',run T 163 [.ptr d 0] h=some (.tuple [],h')/\DX h' S L w s X d co M (r+1)/\KX X h h':=by
 have e1:=x.hd;have ⟨cl,l,e2⟩:=x.ct;have ne:=x.ne;have lo:=x.lo;have lts:=x.at_.Li;have kp:∀ z,Keep [d] h (h.put d (Qc [.ptr S.a 0,.int .u8 0,iQ 1,iQ z,.slice co 0 M (.exact M)] none)):=fun z=>Keep.put (by simp);have w1:IntKind.wrap .i64 ((r:Int)+1)=((r+1:Nat):Int):=zQ
 refine run_val NR ?_;simp [Qp,e1];exact ⟨⟨x.at_.outside (kp _) (by simp;exact lo.1),by rw [get_put_same,e1,w1];rfl,⟨cl,l,by rw [get_put_ne (aY ne),e2]⟩,ne,lo,x.nx⟩,Cp (kp _) (fun t ht=>⟨lts t (by simp [ht]),by simp;rintro rfl;exact x.nx.1 ht⟩)⟩
def SO (w:W) (s:dU) (a:Sch.St) (c:Nat) (w1:W) (s1:dU) (a1:Sch.St):Prop:=Gu w1 a1<Gu w a\/(w1=w/\s1=s/\a1=a/\∀ j,j<c->Fv w j)
def Qd (Z:W->dU->Sch.St->Prop) (h:AHeap) (S:jb) (w:W) (s:dU) (a:Sch.St) (N:Int) (X:List Nat) (d co r n:Nat) (fr:FF) (g:AHeap):Prop:=∃ (c:Nat) (L1:fZ) (w1:W) (s1:dU) (a1:Sch.St),c+n=w.M/\bu w1 s1 a1 (N+c)/\Zs Z w w1 s1 a1/\SO w s a c w1 s1 a1/\DX g S L1 w1 s1 X d co w.M r/\KX X h g/\fr.get 0=.ptr d 0/\fr.get 3=.ptr d 0/\fr.get 8=.int .i64 (w.M:Int)/\fr.get 9=.int .i64 (c:Int)
theorem Jc {Z:W->dU->Sch.St->Prop} (hZ:Q4 Z) (z:Z w s a) (hPo:gX) (x:DX h S L w s X d co w.M r) (C:bu w s a N) (hN:N+w.M<=100000000) (hr:r<=100000000):∃ h',run T 132 [.ptr d 0] h=some (.tuple [],h')/\(∃ (L':fZ) (w':W) (s':dU) (a':Sch.St),DX h' S L' w' s' X d co w.M (r+1)/\bu w' s' a' (N+w.M)/\Zs Z w w' s' a'/\SO w s a w.M w' s' a')/\KX X h h':=by
 have e1:=x.hd;have hM:=C.M.2;have hP:=C.P.2;refine run_val Rf ?_;simp [HE,e1,ad];refine Wp.loop (Qd Z h S w s a N X d co r) w.M lQ ?_ ?_
 . exact ⟨0,L,w,s,a,by simp,by simpa using C,⟨rfl,rfl,rfl,z⟩,.inr ⟨rfl,rfl,rfl,by simp⟩,x,KX.refl,by simp⟩
 rintro n fr g ⟨c,L1,w1,s1,a1,hc,C1,sz,gt,xg,k,s0,s3,s8,s9⟩;by_cases hcl:c<w.M
 . have ⟨m,hi⟩:=mach_at C1 (i:=c) (by rw [sz.M];exact hcl);have ⟨g1,ea,x1,k1⟩:=Ov xg hi hcl (by have:=vR C1 hi;omega);have ⟨pre,post⟩:=pick_goal C1 (by omega) hi (act:=0) (g:=0) (d:=0) hPo (by simp [isI64]);have pre':∀ j:Nat,(0:Int)=0->(c:Int)=j->j<w1.M->lf w1 s1 j 0 0 0:=fun j _ hj _=>by
    have:c=j:=by omega
    subst this;exact pre
   have ⟨g2,L2,w2,s2,b2,es,hs,x2,k2⟩:=DL x1.at_ (kd:=0) (act:=0) (a:=(c:Int)) (g:=0) (d:=0) (by simp [isI64]) (oa C1) pre';have hpk:nN w1 s1 c 0 0 0 w2 s2 b2:=by
    cases hs with
    | pick h1 h2 h3 h4=>obtain h2:=Int.ofNat.inj h2;subst h2;exact h4
    | none h1=>rw [sz.M] at h1;omega
    | tick h1=>cases h1
    | full h1=>cases h1
    | ready h1=>cases h1
   have ⟨a2,C2,o2⟩:=post _ _ _ hpk;have ⟨x3,k3⟩:=x1.step x2 k2;have sz3:=Ce C1 C2 o2;have sz2:Zs Z w1 w2 s2 a2:=⟨sz3.P,sz3.M,sz3.G,hZ C1 (by rw [sz.M];exact hcl) sz.z hpk C2 o2⟩
   have gt2:SO w s a (c+1) w2 s2 a2:=by
    rcases O9 C1 (by rw [sz.M];exact hcl) o2 with ⟨rfl,rfl,rfl,st⟩ | hlt
    . rcases gt with g | ⟨rfl,rfl,rfl,g⟩
      . exact .inl g
      . refine .inr ⟨rfl,rfl,rfl,fun j hj=>?_⟩
        rcases bH j c with h | h
        . exact g j h
        . obtain rfl:j=c:=by omega
          exact st
    . rcases gt with g | ⟨rfl,rfl,rfl,g⟩
      . exact .inl (Nat.lt_trans hlt g)
      . exact .inl hlt
   have d0:=xg.hd
   have d1:=x1.hd
   simp [lJ] at es
   simp [s0,s8,s9,hcl,d0,d1,ea,es,ad]
   exact ⟨n-1,by omega,c+1,L2,w2,s2,a2,by omega,by rw [show N+((c+1:Nat):Int)=N+c+1 by omega];exact C2,sz.trans sz2,gt2,x3,(k.trans k1).trans k3,by simp [s0,s3,s8,wrap_nat (c:=c) (by omega)]⟩
 . have hcx:c=w.M:=by omega
   subst hcx
   have ⟨g1,eo,x1,k1⟩:=Ln xg hr
   simp [s3,s8,s9,eo]
   exact ⟨⟨L1,w1,s1,x1,a1,C1,sz,gt⟩,k.trans k1⟩
theorem RB (x:DX h S L w s X d co M r) (hp:h.get p=some (Qc [.ptr d 0] none)) (hq:h.get q=some (Qc [.func 11 [] []] none)):∃ h',run T 131 [.ptr q 0,.ptr p 0] h=some (.bool (dX w),h')/\Keep [] h h':=by have e1:=x.hd;have ⟨h1,e2,k1⟩:=pg x.at_.at_;refine ⟨h1,run_eq Rh ?_,k1⟩;simp [Qu,hp,hq,e1,e2,ad]
def Qb (Z:W->dU->Sch.St->Prop) (h:AHeap) (S:jb) (w:W) (a:Sch.St) (N:Int) (X:List Nat) (d co p q B n:Nat) (fr:FF) (g:AHeap):Prop:=∃ (c:Nat) (L1:fZ) (w1:W) (s1:dU) (a1:Sch.St),c+n=B/\bu w1 s1 a1 (N+((c*w.M:Nat):Int))/\Zs Z w w1 s1 a1/\Gu w1 a1+c<=Gu w a/\DX g S L1 w1 s1 (q::p::X) d co w.M c/\KX (q::p::X) h g/\fr.get 3=.ptr p 0/\fr.get 7=.func 131 [] [.ptr q 0,.ptr p 0]/\fr.get 10=.int .i64 (B:Int)/\fr.get 11=.int .i64 (c:Int)
theorem Jb {Z:W->dU->Sch.St->Prop} (hZ:Q4 Z) (z:Z w s a) (hPo:gX) (x:DX h S L w s X d co w.M 0) (C:bu w s a N) {B:Nat} (hB:Gu w a<=B) (hN:N+((B*w.M:Nat):Int)<=100000000) (hBb:B<=10000000):∃ h',run T 100 [.ptr d 0,iQ (B:Int),.func 11 [] []] h=some (.bool true,h')/\(∃ (c:Nat) (L':fZ) (w':W) (s':dU) (a':Sch.St),c<=B/\DX h' S L' w' s' X d co w.M c/\bu w' s' a' (N+((B*w.M:Nat):Int))/\Zs Z w w' s' a'/\dX w'=true)/\KX X h h':=by
 have ⟨x1,k1⟩:=x.at_.push (Qc [.ptr d 0] none);have ⟨x2,k2⟩:=x1.push (Qc [.func 11 [] []] none);rw [dH] at x2;obtain ⟨h2,e2⟩:∃ h2,h2=(h.push (Qc [.ptr d 0] none)).push (Qc [.func 11 [] []] none):=⟨_,rfl⟩
 have q1:h2.get h.size=some (Qc [.ptr d 0] none):=by rw [e2];exact aJ ak
 have q2:h2.get (h.size+1)=some (Qc [.func 11 [] []] none):=by rw [e2,<- dH (h:=h) (x:=.cells false [.ptr d 0] none),ak]
 have kd:KX (d::co::X) h h2:=by rw [e2];exact k1.trans (k2.sub (by intro t ht;simp at ht ⊢;rcases ht with h | h | h<;>simp [h]))
 have kk:KX X h h2:=kd.sub (by intro t ht;simp [ht]);have lts:=x.at_.Li;have y:DX h2 S L w s ((h.size+1)::h.size::X) d co w.M 0:=by
  have ⟨cl,l,ec⟩:=x.ct;refine ⟨?_,kd.obj x.hd (by simp),⟨cl,l,kd.obj ec (by simp)⟩,x.ne,x.lo,?_⟩
  . rw [e2];exact x2.sub (by intro t ht;simp at ht ⊢;rcases ht with h | h | h | h | h<;>simp [h])
  . have l1:=lts d (by simp);have l2:=lts co (by simp);simp;exact ⟨⟨by omega,by omega,x.nx.1⟩,by omega,by omega,x.nx.2⟩
 have em:max (0:Int) (B:Int)=(B:Int):=by omega
 refine run_val Rm ?_;simp [QA,em,<- e2];refine Wp.loop (Qb Z h2 S w a N X d co h.size (h.size+1) B) B lQ ?_ ?_
 . exact ⟨0,L,w,s,a,by simp,by simpa using C,⟨rfl,rfl,rfl,z⟩,by simp,y,KX.refl,by simp⟩
 rintro n fr g ⟨c,L1,w1,s1,a1,hc,C1,sz,hph,xg,k,s3,s7,s10,s11⟩;have g1:=k.obj q1 (by simp);have g2:=k.obj q2 (by simp);have ⟨h3,e3,k3⟩:=RB xg g1 g2;have ⟨x3,kx3⟩:=xg.still k3;have sb:∀ t∈X,t∈(h.size+1)::h.size::X:=fun t ht=>by simp [ht]
 have p1:=(Mu C1).1;have hcl:c<B:=by omega
 have hcm:c*w.M+w.M<=B*w.M:=by rw [<- dy];exact fJ _ hcl
 cases hq:dX w1 with
 | true=>rw [hq] at e3;simp [s7,s10,s11,hcl,e3];exact ⟨⟨c,by omega,L1,w1,s1,⟨x3.at_.sub (by intro t ht;simp at ht ⊢;rcases ht with h | h | h<;>simp [h]),x3.hd,x3.ct,x3.ne,x3.lo,x.nx⟩,a1,C1.XV (by omega) hN,sz,hq⟩,kk.trans ((k.trans kx3).sub sb)⟩
 | false=>
  rw [hq] at e3;have C1':=C1;rw [<- sz.M] at x3;have ⟨h4,e4,⟨L2,w2,s2,a2,x4,C2,sz2,gt⟩,k4⟩:=Jc hZ sz.z hPo x3 C1 (by rw [sz.M];omega) (by omega);have hlt:Gu w2 a2<Gu w1 a1:=by
   rcases gt with g | ⟨rfl,rfl,rfl,g⟩
   . exact g
   . rw [Mh C1 g] at hq;cases hq
  rw [sz.M] at x4 C2;have g1':=kx3.obj g1 (by simp);simp [s3,s7,s10,s11,hcl,e3,g1',e4,ad];refine ⟨n-1,by omega,c+1,L2,w2,s2,a2,by omega,?_,sz.trans sz2,by omega,x4,(k.trans kx3).trans k4,by simp [s3,s7,s10,wrap_nat (c:=c) (by omega)]⟩;rw [show N+(((c+1)*w.M:Nat):Int)=N+((c*w.M:Nat):Int)+w.M by rw [dy];omega];exact C2
end
end
section
variable {h h' h'':AHeap} {S:jb} {L L':fZ} {w w':W} {s s':dU} {a b:Sch.St} {X Y F G:List Nat} {i k d co M r p q:Nat} {m:Mc} {N:Int} {bb:Bool}
theorem Jd {Z:W->dU->Sch.St->Prop} (hZ:Q4 Z) (z:Z w s a) (hPo:gX) (x:DX h S L w s X d co w.M 0) (C:bu w s a N) {B:Nat} (hB:Gu w a<=B) (hN:N+((B*w.M:Nat):Int)<=100000000) (hBb:B<=10000000):∃ h',run T 58 [.ptr d 0,iQ (B:Int)] h=some (.bool true,h')/\(∃ (c:Nat) (L':fZ) (w':W) (s':dU) (a':Sch.St),c<=B/\DX h' S L' w' s' X d co w.M c/\bu w' s' a' (N+((B*w.M:Nat):Int))/\Zs Z w w' s' a'/\dX w'=true)/\KX X h h':=by have ⟨h1,e1,x1,k1⟩:=Jb hZ z hPo x C hB hN hBb;refine ⟨h1,run_eq VU ?_,x1,k1⟩;simp [YF,e1]
theorem FE (x:Whole h S L w s X):∃ v h',run T 57 [.ptr S.a 0,.agg [.int .u8 0,iQ 0]] h=some (v,h')/\(∃ d co,v=.ptr d 0/\DX h' S L w s X d co w.M 0)/\KX X h h':=by
 have ⟨x1,k1⟩:=x.still (Keep.push (F:=[]) (x:=.cells false [.int .u8 0,iQ 1] none));have ⟨h2,e2,k2⟩:=js x1.at_;have b1:(h.push (Qc [.int .u8 0,iQ 1] none)).get h.size=some (Qc [.int .u8 0,iQ 1] none):=ak;have b0:(h.push (Qc [.int .u8 0,iQ 0] none)).get h.size=some (Qc [.int .u8 0,iQ 0] none):=ak;have b2:=k2.obj b1 (by simp);have ⟨x2,kx2⟩:=x1.still k2;have sz:w.M<=128:=by have ⟨o,x⟩:=x.at_;exact x.sz.M.2
 have hb:(w.M:Int)*8<=bigA/\w.M<=bigA:=by simp [bigA];omega
 have h11:11<=h2.size:=x2.ne;have ⟨x3,k3⟩:=x2.push (Qc (List.replicate w.M (iQ 0)) none);have b3:(h2.push (Qc (List.replicate w.M (iQ 0)) none)).get h.size=some (Qc [.int .u8 0,iQ 1] none):=aJ b2;have ⟨x4,k4⟩:=x3.push (Qc [.ptr S.a 0,.int .u8 0,iQ 1,iQ 0,.slice h2.size 0 w.M (.exact w.M)] none);rw [dH] at x4;refine dQ VV ?_;simp [YG,show max (1:Int) 0=1 by decide,b0,b1,e2,b2,hb,jw,b3,ad];have lts:=x2.Li;refine ⟨⟨h2.size,?_⟩,?_⟩
 . refine ⟨x4,?_,⟨List.replicate w.M 0,by simp,?_⟩,by omega,by omega,⟨fun hm=>by have:=lts _ hm;omega,fun hm=>by have:=lts _ hm;omega⟩⟩
   . rw [<- dH (h:=h2) (x:=.cells false (List.replicate w.M (iQ 0)) none),ak];rfl
   have:(h2.push (Qc (List.replicate w.M (iQ 0)) none)).get h2.size=some (Qc (List.replicate w.M (iQ 0)) none):=ak;rw [aJ this];simp [intsA]
 . exact ((k1.trans kx2).trans k3).trans (k4.sub (by simp;intro t ht;simp [ht]))
theorem FD (x:DX h S L w s X d co M r):run T 59 [.ptr d 0] h=some (iQ (r:Int),h):=by have e1:=x.hd;refine run_eq VT ?_;simp [YE,e1]
theorem bu.X1 (C:bu w s a N):bN w.P w.M w.G<=303104/\bN w.P w.M w.G*w.M<=3637248:=by
 have hP:=C.P;have hM:=C.M;have hG:=C.G;obtain ⟨q,hq⟩:∃ q,q=(w.P+8)*(w.P+8):=⟨_,rfl⟩
 have q1:q<=16*16:=by rw [hq];exact qp (by omega) (by omega)
 have r1:64*(w.M+4)*(q+w.G)<=1024*296:=qp (by omega) (by omega);have e:bN w.P w.M w.G=64*(w.M+4)*(q+w.G):=by rw [hq];rfl
 refine ⟨by omega,?_⟩;have:bN w.P w.M w.G*w.M<=303104*12:=qp (by omega) (by omega);omega
theorem Whole.globs (x:Whole h S L w s X):dL h:=x.at_.globs
theorem jQ {Z:W->dU->Sch.St->Prop} (hZ:Q4 Z) (z:Z w s a) (hPo:gX) (x:Whole h S L w s X) (C:bu w s a N) (hN:N<=90000000):∃ v h',run T 21 [.ptr S.a 0] h=some (v,h')/\(∃ (r:Nat),v=.tuple [iQ (r:Int),.bool true]/\r<=bN w.P w.M w.G)/\(∃ (L':fZ) (w':W) (s':dU) (a':Sch.St),Whole h' S L' w' s' X/\bu w' s' a' (N+4000000)/\Zs Z w w' s' a'/\dX w'=true)/\KX X h h':=by
 obtain ⟨v1,h1,e1,⟨d,co,rfl,x1⟩,k1⟩:=FE x;have ⟨h2,e2,k2⟩:=js x1.at_.at_;have ⟨x2,kx2⟩:=x1.still k2;have sz:Sz w:=by have ⟨o,x⟩:=x.at_;exact x.sz
 have ⟨h3,e3,k3,hB⟩:=T1 x2.at_.globs sz.P sz.M sz.G;have ⟨x3,kx3⟩:=x2.still k3;have hb:=C.X1;have ⟨h4,e4,⟨c,L',w',s',a',hc,x4,C4,sz4,hq⟩,k4⟩:=Jd hZ z hPo x3 C (Mu C).2 (by omega) (by omega);have e5:=FD x4;refine dQ Wk ?_;simp [YO,e1,e2,e3,e4,e5];exact ⟨⟨c,rfl,hc⟩,⟨L',w',s',x4.at_.sub (by intro t ht;simp [ht]),a',C4.XV (by omega) (by omega),sz4,hq⟩,((k1.trans kx2).trans kx3).trans k4⟩
end
section
variable {h h':AHeap} {i k:Nat} {r:Rg} {S:jb} {L:fZ} {w:W} {s:dU} {X:List Nat} {a:Sch.St} {N:Int}
theorem JR (x:cZ h i r):∃ h',run T 86 [.ptr i 0] h=some (.ptr h.size 0,h')/\cZ h' h.size r/\Keep [] h h':=by
 have ⟨cs,hd,room,hc,y⟩:=x;have hlen:=y.len;have cl:cellsOf (h.get i) 0 261=some cs:=by rw [hc,gK,pQ,dN,aW (by omega)]
 refine ⟨h.push (Qc cs none),run_eq Zp ?_,⟨cs,hd,none,ak,y⟩,Keep.push⟩;have hw:∀ zs:List AV,zs.length=261->writeOf (h.push (Qc zs none)) h.size (some (Qc zs none)) 0 cs=some (h.push (Qc cs none)):=fun zs hz=>push_write (by omega) y.Oe;simp [-push_write,F86,cl,hw,hlen]
theorem JQ (x:cZ h i r):∃ o h',run T 41 [.ptr i 0] h=some (o,h')/\o.gP=some (ringL r).length/\Keep [] h h':=by
 have ⟨h1,e1,x1,k1⟩:=JR x;have ⟨cs,hd,room,hc,y⟩:=id x1;have c1:=y.c1;have ⟨o2,h2,e2,G,x2,v2,k2,f2⟩:=rR x1 (N:=r.row.length) (aq _);have ⟨cs2,hd2,room2,hc2,y2⟩:=id x2;have c2:=y2.c2;have c3:=y2.c3;have k12:Keep [] h h2:=k1.trans k2 (by simp);rw [gB] at v2;have l2:=v2.view.my;rw [qb] at l2;suffices hs:∃ o h',run T 41 [.ptr i 0] h=some (o,h')/\(o.gP=some (ringL r).length/\Keep [] h h') by exact hs
 refine dQ ZX ?_;cases hr:r.is with
 | false=>simp [hr] at c2;simp [F41,e1,hc,c1,e2,hc2,c2];exact ⟨by simp [ringL,hr,l2],k12⟩
 | true=>simp [hr] at c2;have ⟨o3,h3,G3,e3,v3,k3,_⟩:=sS v2 (x:=iQ r.next) rfl (by rw [qb];have:=y.le;omega);have l3:=v3.view.my;rw [aM,qb] at l3;simp [F41,e1,hc,c1,e2,hc2,c2,c3,e3];refine ⟨by simpa [ringL,hr] using l3,k12.trans k3 fun t ht=>?_⟩;right;have:=f2 t ht;have:=k1.size;omega
theorem Dx (x:WorldAt h S w X) (hr:w.rings[k]?=some r):∃ o h',run T 17 [.ptr S.a 0,iQ (k:Int)] h=some (o,h')/\o.gP=some (ringL r).length/\Keep [] h h':=by
 have ⟨own,x⟩:=x;have ⟨u,room,hd⟩:=x.hd;have ⟨t,e,y,_⟩:=x.ring k r hr;have ⟨j,o,h1,h2,h3⟩:=x.UE.2.1.vM (k:=k) (x:=.ptr t 0) (by simp [e]);have hk:k<w.P:=by have:=(aa.1 hr).1;rw [x.UE.2.2.2] at this;exact this
 have ⟨o2,h2',e2,l2,k2⟩:=JQ y;have n1:¬ (k:Int)<0:=by omega
 refine ⟨o2,h2',run_eq aaf ?_,l2,k2⟩;simp [F17,hd,n1,Nat.not_le.2 hk,h1,h3,e2]
theorem wN (x:WorldAt h S w X) (hl:w.gl.length<=1000000):∃ o h',run T 15 [.ptr S.a 0] h=some (o,h')/\o.gP=some w.gl.length/\Keep [] h h':=by have ⟨own,x⟩:=x;have ⟨u,room,hd⟩:=x.hd;have ⟨F,b,_⟩:=x.glob;have ⟨o,h',F',e,v,k,_⟩:=Gp b hl;have l:=v.view.my;rw [qb] at l;refine ⟨o,h',run_eq aah ?_,l,k⟩;simp [F15,hd,e]
theorem jd (x:Whole h S L w s X) (hp:Dh s):∃ p L' h',run T 18 [.ptr S.a 0] h=some (.ptr p 0,h')/\dP h' p L' s false/\Keep [] h h':=by have ⟨own,y⟩:=x.at_;have ⟨u,room,hd⟩:=y.hd;have ⟨p,L',h',e,z,k⟩:=L9 x.src hp;refine ⟨p,L',h',run_eq aae ?_,z,k⟩;simp [F18,hd,e]
theorem bu.oG (C:bu w s a N):Dh s:=by have hP:=C.P;have h40:=vT C;have S:=C.S;unfold outS at h40;rw [aM,dS] at h40;refine ⟨by rw [C.S.hl];exact hP.1,fun k l hl=>?_⟩;have h3:=S.has.length_eq;rw [dS] at h3;have h2:l.length<=s.t.hs.flatten.length:=(List.sublist_flatten_of_mem (cW hl)).length_le;omega
end
section
variable {h h':AHeap} {i k:Nat} {r:Rg} {S:jb} {L:fZ} {w:W} {s:dU} {X:List Nat} {a:Sch.St} {N:Int}
def XF (h:AHeap) (S:jb) (w:W) (X:List Nat) (n:Nat) (fr:FF) (g:AHeap):Prop:=∃ c:Nat,c+n=w.P/\WorldAt g S w X/\Keep [] h g/\fr.get 0=.ptr S.a 0/\fr.get 6=.int .i64 (w.P:Int)/\fr.get 7=.int .i64 (c:Int)
theorem Pn (x:WorldAt h S w X) (hr:∀ (k:Nat) r,w.rings[k]?=some r->ringL r=[]) (hg:w.gl=[]):∃ h',run T 67 [.ptr S.a 0] h=some (.bool false,h')/\Keep [] h h':=by
 have ⟨h1,e1,k1⟩:=js x;have hP:w.P<=64:=by have ⟨o,x⟩:=x;exact x.sz.P.2
 have hrl:w.rings.length=w.P:=by have ⟨o,x⟩:=x;exact x.UE.2.2.2
 refine run_val Zz ?_;simp [F67,e1,ad];refine Wp.loop (XF h S w X) w.P lQ ?_ ?_
 . exact ⟨0,by simp,(x.still k1).1,k1,by simp⟩
 rintro n fr g ⟨c,hc,xg,k,s0,s6,s7⟩;by_cases hcl:c<w.P
 . obtain ⟨r,hi⟩:∃ r,w.rings[c]?=some r:=⟨_,ah (by omega)⟩
   have ⟨o,g1,e2,l2,k2⟩:=Dx xg hi;rw [hr c r hi] at l2;simp [bw] at l2;simp [s0,s6,s7,hcl,e2,l2];exact ⟨n-1,by omega,c+1,by omega,(xg.still k2).1,k.trans' k2,by simp [s0,s6,wrap_nat (c:=c) (by omega)]⟩
 . have hcx:c=w.P:=by omega
   have ⟨o,g1,e2,l2,k2⟩:=wN xg (by rw [hg];simp);rw [hg] at l2;simp [bw] at l2;simp [s0,s6,s7,hcx,e2,l2];exact k.trans' k2
theorem Je (x:Whole h S L w s X) (C:bu w s a N) (hq:dX w=true):∃ h',run T 28 [.ptr S.a 0] h=some (.nilslice,h')/\Keep [] h h':=by
 have ⟨hs,hp⟩:=qO C hq;have hf:=Gn C hq;have ⟨h1,e1,k1⟩:=pg x.at_;rw [hq] at e1;have ⟨x1,_⟩:=x.still k1;have ⟨h2,y,e2,⟨FT,wz,iy,hm⟩,k2⟩:=CK x1.at_ (by rw [hp];have:=Iq C;simp;omega);have ⟨x2,_⟩:=x1.still k2;have e3:=uh iy;rw [hm] at e3;have e4:=tJ iy;have ⟨h3,e5,k3⟩:=o8 x2.at_;rw [hs] at e5;have ⟨x3,_⟩:=x2.still k3;have e6:=xm (iy.keep k3 (by simp));rw [hp] at e6;simp [bw,qs] at e6
 obtain ⟨h6,k36,x6,hid⟩:∃ h6,Keep [] h3 h6/\Whole h6 S L w s X/\((w.ip=[]/\h6=h3)\/(w.ip≠[]/\w.q≠-1/\∃ h4 p h5,run T 67 [.ptr S.a 0] h3=some (.bool false,h4)/\run T 18 [.ptr S.a 0] h4=some (.ptr p 0,h5)/\run T 19 [.ptr p 0] h5=some (.bool false,h6))):=by
  by_cases hip:w.ip=[]
  . exact ⟨h3,Keep.refl,x3,.inl ⟨hip,rfl⟩⟩
  . have ⟨i1,i2,i3,i4⟩:=qP C hq hip;have ⟨h4,l1,l2⟩:=Pn x3.at_ i1 i2;have ⟨x4,_⟩:=x3.still l2;have ⟨p,L',h5,l3,y5,l4⟩:=jd x4 C.oG;have ⟨h6,l5,l6⟩:=rL y5;rw [i4] at l5;have kk:=(l2.trans' l4).trans' l6;exact ⟨h6,kk,(x3.still kk).1,.inr ⟨hip,i3,h4,p,h5,l1,l3,l5⟩⟩
 have ⟨h7,e7,k4⟩:=Iz x6.at_ hf;have kk:=(((k1.trans' k2).trans' k3).trans' k36).trans' k4;have kp:Keep [] h7 (h7.push (Qc LW none)):=Keep.push;have hz:(h7.push (Qc LW none)).get h7.size=some (Qc LW none):=ak;refine run_val V0 ?_
 rcases hid with ⟨hip,rfl⟩ | ⟨hip,hqn,h4,p,h5,l1,l3,l5⟩
 . rw [hip] at e3;simp [bw,qs] at e3;simp [-getElem?_pos,XP,e1,e2,e3,e4,e5,e6,e7,ad];refine Wp.loop (HG h h7.size) 6 lQ ?_ ?_
   . exact ⟨0,by simp,kk.trans' kp,hz,by simp⟩
   rintro n fr g ⟨c,hc,k,gj,s7,s54,s55,s56⟩;by_cases hcl:c<6
   . have ⟨z,hz2⟩:=Ga c hcl;have ix:idxAddrV 2 none (.slice h7.size 0 6 (.exact 6)) (iQ (c:Int))=some (.ptr h7.size (c*2)):=by simp only [idxAddrV];rw [if_pos (by omega)];simp
     have l6:c*2+2<=LW.length:=by simp;omega
     have kz:Keep [] g (g.push (.cells false [.bool false,.int .i64 z] none)):=Keep.push;have w1:writeOf (g.push (.cells false [.bool false,.int .i64 0] none)) g.size (some (.cells false [.bool false,.int .i64 0] none)) 0 [.bool false,.int .i64 z]=some (g.push (.cells false [.bool false,.int .i64 z] none)):=push_write rfl rfl;have ci:(c:Int)<6:=by omega
     have cl2:cellsOf (g.get h7.size) (c*2) 2=some [.bool false,.int .i64 z]:=by rw [gj,gK,if_pos l6,hz2]
     simp [-writeOf_some,-push_write,-getElem?_pos,s54,s55,s56,ci,ix,cl2,w1,ad];exact ⟨n-1,by omega,c+1,by omega,k.trans' kz,kz.obj gj (by simp),by simp [s7,s54,s55,wrap_nat (c:=c) (by omega)]⟩
   . have hcx:c=6:=by omega
     subst hcx;simp [-getElem?_pos,s7,s55,s56];exact k
 . have hpos:0<w.ip.length:=eX.2 hip;simp [-getElem?_pos,XP,e1,e2,e3,e4,e5,e6,e7,hpos,hqn,l1,l3,l5,ad];refine Wp.loop (HG h h7.size) 6 (nr (by omega)) ?_ ?_
   . exact ⟨0,by simp,kk.trans' kp,hz,by simp⟩
   rintro n fr g ⟨c,hc,k,gj,s7,s54,s55,s56⟩;by_cases hcl:c<6
   . obtain ⟨z,hz2⟩:=Ga c hcl;have ix:idxAddrV 2 none (.slice h7.size 0 6 (.exact 6)) (.int .i64 (c:Int))=some (.ptr h7.size (c*2)):=by simp only [idxAddrV];rw [if_pos (by omega)];simp
     have l6:c*2+2<=LW.length:=by simp;omega
     have kz:Keep [] g (g.push (.cells false [.bool false,.int .i64 z] none)):=Keep.push;have w1:writeOf (g.push (.cells false [.bool false,.int .i64 0] none)) g.size (some (.cells false [.bool false,.int .i64 0] none)) 0 [.bool false,.int .i64 z]=some (g.push (.cells false [.bool false,.int .i64 z] none)):=push_write rfl rfl;have ci:(c:Int)<6:=by omega
     have cl2:cellsOf (g.get h7.size) (c*2) 2=some [.bool false,.int .i64 z]:=by rw [gj,gK,if_pos l6,hz2]
     simp [-writeOf_some,-push_write,-getElem?_pos,s54,s55,s56,ci,ix,cl2,w1,ad];exact ⟨n-1,by omega,c+1,by omega,k.trans' kz,kz.obj gj (by simp),by simp [s7,s54,s55,wrap_nat (c:=c) (by omega)]⟩
   . have hcx:c=6:=by omega
     subst hcx;simp [-getElem?_pos,s7,s55,s56];exact k
end
section
def VJ (w:W) (act g:Int):Option W:=(pickW w 0 act g).map Prod.fst
def UU (w:W):Option W:=(vP w).map Prod.fst
def picks:W->Nat->Option W
 | w,0=>some w
 | w,n+1=>match pickW w 0 0 0 with
  | some (w1,true)=>picks w1 n
  | _=>none
def check20 (w:W):Bool:=match w.all[0]? with
 | some m=>decide (m.rest.length<=1000) && decide (m.g=0) && decide (m.pl=0) && decide (wd w.ws w.tb=2) && decide (w.lg=2) && decide (0<w.G)
 | none=>false
def Ml:Bool:=match picks (kL 1 1 1) 10 with
 | some w=>check20 w
 | none=>false
theorem J5:Ml=true:=by decide +kernel
def checkTop (w:W):Bool:=decide (wd w.ws w.tb=2) && decide (wd w.ws (w.tb+1)=2) && decide (1<w.G) && dX w && decide (w.ip=[]) && decide (wd w.ws w.sp=0) && decide (w.pend=[]) && oi w w.M && decide (w.ms.length<=1000)
def Ig:Bool:=match (UU (kL 2 2 2)).bind fun w=>(VJ w 4 1).bind vP with
 | some (w,b)=>b && checkTop w
 | none=>false
theorem Gq:Ig=true:=by decide +kernel
section
variable {h h' h'':AHeap} {S:jb} {w w':W} {X F:List Nat} {own:Nat->Nat} {P M G:Nat} {b:Bool} {act g:Int} {m:Mc}
theorem Qa (x:WorldAt h S w X) (hw:VJ w act g=some w'):∃ v h',run T 10 [.ptr S.a 0,.agg [.int .u8 0,.int .u8 act,iQ 0,iQ g,iQ 0]] h=some (v,h')/\WorldAt h' S w' X/\KX X h h':=by obtain ⟨⟨w1,more⟩,e,rfl⟩:=ae.1 hw;have ⟨h1,e1,x1,k1⟩:=BG x e;exact ⟨_,h1,e1,x1,k1⟩
theorem Ms {more:Bool} (x:WorldAt h S w X) (hw:pickW w 0 act g=some (w',more)):∃ h',run T 10 [.ptr S.a 0,.agg [.int .u8 0,.int .u8 act,iQ 0,iQ g,iQ 0]] h=some (.bool more,h')/\WorldAt h' S w' X/\KX X h h':=by have ⟨h1,e1,x1,k1⟩:=BG x hw;exact ⟨h1,e1,x1,k1⟩
theorem OV (x:WorldAt h S w X) (hw:UU w=some w'):∃ v h',run T 21 [.ptr S.a 0] h=some (v,h')/\WorldAt h' S w' X/\KX X h h':=by obtain ⟨⟨w1,b⟩,e,rfl⟩:=ae.1 hw;have ⟨v,h1,e1,_,x1,k1⟩:=tB x e;exact ⟨v,h1,e1,x1,k1⟩
theorem QO (x:WorldAt h S w X) (hi:w.all[0]?=some m) (hr:m.rest.length<=1000):∃ u h',run T 22 [.ptr S.a 0,iQ 0] h=some (u,h')/\(∃ rs,u=.agg (gD m rs))/\WorldAt h' S w X/\KX X h h':=by obtain ⟨u,h1,e1,⟨rs,rfl,_⟩,k1⟩:=jU (i:=0) x hi hr;have ⟨x1,kx⟩:=x.still k1;exact ⟨_,h1,e1,⟨rs,rfl⟩,x1,kx⟩
def NW (h:AHeap) (S:jb) (w0:W) (X:List Nat) (n:Nat) (fr:FF) (g:AHeap):Prop:=∃ (c:Nat) (w1:W),c+n=10/\picks w0 10=picks w1 n/\WorldAt g S w1 X/\KX X h g/\fr.get 1=.ptr S.a 0/\fr.get 14=.int .i64 (c:Int)
theorem GJ (gl:dL h):∃ h',run T 29 [] h=some (.bool true,h')/\Keep [] h h':=by
 obtain ⟨v,h1,e1,⟨S,rfl,x1⟩,k1⟩:=Gy gl (X:=List.range h.size) (by simp) (P:=1) (M:=1) (G:=1) (by omega) (by omega) (by omega);have e1:run T 20 [.agg [iQ 1,iQ 1,iQ 1]] h=some (.tuple [.ptr S.a 0,iQ 0],h1):=e1;have kx1:KX (List.range h.size) h h1:=⟨k1.size,k1.caps,fun t ht=>k1.get t (by simpa using ht) (by simp)⟩
 have hp:=J5;unfold Ml at hp;cases hw:picks (kL 1 1 1) 10 with
 | none=>rw [hw] at hp;cases hp
 | some wF=>
  rw [hw] at hp;refine run_val Z5 ?_;simp [F29,e1,ad];refine Wp.loop (NW h S (kL 1 1 1) (List.range h.size)) 10 lQ ?_ ?_
  . exact ⟨0,kL 1 1 1,by simp,rfl,x1,kx1,by simp⟩
  rintro n fr g ⟨c,w1,hc,hn,xg,k,s1,s14⟩;have hn0:=hn;rw [hw] at hn;by_cases hcl:c<10
  . obtain ⟨n',rfl⟩:∃ n',n=n'+1:=⟨n-1,by omega⟩
    have ci:(c:Int)<10:=by omega
    rw [picks] at hn;split at hn;case h_2=>cases hn
    rename_i w2 hp2;have ⟨g1,es,x2,k2⟩:=Ms xg hp2;simp [s1,s14,ci,es];exact ⟨n',by omega,c+1,w2,by omega,hw.trans hn,x2,k.trans k2,by simp [s1,wrap_nat (c:=c) (by omega)]⟩
  . have h0:n=0:=by omega
    have hcx:c=10:=by omega
    subst h0 hcx;rw [picks] at hn;cases hn;simp [check20] at hp;split at hp;case h_2=>cases hp
    rename_i m hi;simp [aA,decide_eq_true_eq] at hp;have ⟨⟨⟨⟨⟨hr,hg⟩,hpl⟩,hst⟩,hlg⟩,hG⟩:=hp;obtain ⟨u,g1,em,⟨rs,rfl⟩,x2,k2⟩:=QO xg hi hr;obtain ⟨u2,g2,em2,⟨rs2,rfl⟩,x3,k3⟩:=QO x2 hi hr;have ⟨g3,es,ks⟩:=jl (g:=0) x3 (by omega);have ⟨x4,k4⟩:=x3.still ks;have ⟨s,g4,ee,hl,ke⟩:=KK x4 (by omega);have ⟨x5,k5⟩:=x4.still ke;have es:run T 23 [.ptr S.a 0,iQ 0] g2=some (uQ 2,g3):=by rw [es];simp [Int.toNat_zero,dJ,hst]
    rw [hlg] at hl;have hm2:∀ rs,(gD m rs)[2]?=some (iQ 0):=fun rs=>by rw [<- hg];rfl
    have hm0:∀ rs,(gD m rs)[0]?=some (iQ 0):=fun rs=>by rw [<- hpl];rfl
    simp [s1,s14,em,em2,hm2,hm0,es,ee,hl];have kk:=(((k.trans k2).trans k3).trans k4).trans k5;exact ⟨kk.size,kk.caps,fun t ht _=>kk.get t (by simpa using ht)⟩
end
end
section
variable {h h' h'':AHeap} {S:jb} {w w':W} {X F:List Nat} {own:Nat->Nat} {P M G:Nat} {b:Bool} {act g:Int} {m:Mc}
theorem pw (gl:dL h):∃ h',run T 8 [] h=some (.bool true,h')/\Keep [] h h':=by
 have ⟨h0,e0,k0⟩:=GJ gl;obtain ⟨v,h1,e1,⟨S,rfl,x1⟩,k1⟩:=Gy (gl.still k0) (X:=List.range h0.size) (by simp) (P:=2) (M:=2) (G:=2) (by omega) (by omega) (by omega);have e1:run T 20 [.agg [iQ 2,iQ 2,iQ 2]] h0=some (.tuple [.ptr S.a 0,iQ 0],h1):=e1;have kx1:KX (List.range h0.size) h0 h1:=⟨k1.size,k1.caps,fun t ht=>k1.get t (by simpa using ht) (by simp)⟩
 have hp:=Gq;unfold Ig at hp;split at hp;case h_2=>cases hp
 rename_i w4 b4 hb;have ⟨w2,hw2,hb⟩:=dp.1 hb;have ⟨w3,hw3,hw4⟩:=dp.1 hb;simp [checkTop,aA,decide_eq_true_eq] at hp;obtain ⟨rfl,⟨⟨⟨⟨⟨⟨⟨⟨c1,c2⟩,c3⟩,c4⟩,c5⟩,c6⟩,c7⟩,c8⟩,c9⟩⟩:=hp;have ⟨v2,h2,e2,x2,k2⟩:=OV x1 hw2;have ⟨v3,h3,e3,x3,k3⟩:=Qa x2 hw3;obtain ⟨v4,h4,e4,⟨r,rfl⟩,x4,k4⟩:=tB x3 hw4;have ⟨h5,e5,k5⟩:=jl (g:=0) x4 (by omega);have e5:run T 23 [.ptr S.a 0,iQ 0] h4=some (uQ 2,h5):=by rw [e5];simp [Int.toNat_zero,dJ,c1]
 have ⟨x5,kx5⟩:=x4.still k5;have ⟨h6,e6,k6⟩:=jl (g:=1) x5 (by omega);have e6:run T 23 [.ptr S.a 0,iQ 1] h5=some (uQ 2,h6):=by rw [e6];show some (AV.int .u64 (wd w4.ws (w4.tb+1)),h6)=_;rw [c2]
 have ⟨x6,kx6⟩:=x5.still k6;have ⟨h7,e7,k7⟩:=Ns x6 c4 c5 c6 c7 c8 c9;have ⟨x7,kx7⟩:=x6.still k7;refine run_val T_8 ?_;simp [F8,e0,e1,e2,e3,e4,e5,e6,e7,ad];have kk:=(((((kx1.trans k2).trans k3).trans k4).trans kx5).trans kx6).trans kx7;exact k0.trans' ⟨kk.size,kk.caps,fun t ht _=>kk.get t (by simpa using ht)⟩
end
section
def uT (e:E5):List AV:=[.int .u8 e.1,.int .u8 e.2.1,.int .i64 e.2.2.1,.int .i64 e.2.2.2.1,.int .i64 e.2.2.2.2]
def DI (es:List E5):List AV:=es.flatMap uT
theorem tx (e:E5) (l:List E5):DI (e::l)=uT e++DI l:=rfl
theorem oY (es:List E5):(DI es).length=es.length*5:=by
 induction es with
 | nil=>rfl
 | cons x l ih=>rw [tx,aM,ih];simp [uT];omega
theorem BF:∀ (l:List E5) (n:Nat) (e:E5),l[n]?=some e->((DI l).drop (n*5)).take 5=uT e
 | x::l,0,e,h=>by cases h;simp [tx,uT]
 | x::l,n+1,e,h=>by rw [tx,show (n+1)*5=5+n*5 by omega,<- mu];exact BF l n e h
def Pd (e:E5):Prop:=isI64 e.2.2.2.2
theorem BI:∀ (l:List (List AV)),(∀ r∈l,fits [.int .u8,.int .u8,.int .i64,.int .i64,.int .i64] r)->∃ es:List E5,l.flatten=DI es/\l.length=es.length/\∀ e∈es,Pd e
 | [],_=>⟨[],rfl,rfl,by simp⟩
 | x::l,hf=>by
  have ⟨es,h1,h2,h3⟩:=BI l fun r hr=>hf r (by simp [hr])
  obtain ⟨_,_,hx,⟨k,rfl,_⟩,_,_,rfl,⟨g,rfl,_⟩,_,_,rfl,⟨m,rfl,_⟩,_,_,rfl,⟨p,rfl,_⟩,_,_,rfl,⟨v,rfl,hv⟩,rfl⟩:=hf x (by simp);refine ⟨(k,g,m,p,v)::es,by rw [mr,h1,hx];rfl,by simp [h2],fun e he=>?_⟩;rcases aD.1 he with rfl | he
  . exact FK hv
  . exact h3 e he
section
variable {h h':AHeap} {i k:Nat} {S:jb} {L:fZ} {w w':W} {s s':dU} {X F:List Nat} {a:Sch.St} {N:Int} {sl:AV}
theorem vO (hPo:gX) (x:Whole h S L w s X) (C:bu w s a N) (hN:N<100000000) {kd act ar g d:Int} (hd:isI64 d):∃ (h':AHeap) (b:Bool),run T 10 [.ptr S.a 0,lJ kd act ar g d] h=some (.bool b,h')/\(∃ (L':fZ) (w':W) (s':dU) (a':Sch.St),uR w s kd act ar g d w' s' b/\Whole h' S L' w' s' X/\bu w' s' a' (N+1))/\KX X h h':=by have ⟨pre,post⟩:=Js C hN hPo hd (kd:=kd) (act:=act) (ar:=ar) (g:=g);have ⟨h',L',w',s',b,e,hs,y,k⟩:=DL x (kd:=kd) (act:=act) (a:=ar) (g:=g) hd (oa C) pre;have ⟨a',C'⟩:=post _ _ _ hs;exact ⟨h',b,e,⟨L',w',s',a',hs,y,C'⟩,k⟩
def VK (h:AHeap) (S:jb) (X:List Nat) (N:Int) (len:Nat) (sl:AV) (n:Nat) (fr:FF) (g:AHeap):Prop:=∃ (c:Nat) (L1:fZ) (w1:W) (s1:dU) (a1:Sch.St) (z:Int),c+n=len/\Whole g S L1 w1 s1 X/\bu w1 s1 a1 (N+c)/\KX X h g/\fr.get 0=.ptr S.a 0/\fr.get 5=.int .i64 z/\fr.get 8=sl/\fr.get 9=.int .i64 (len:Int)/\fr.get 10=.int .i64 (c:Int)
theorem Ow (hPo:gX) (x:Whole h S L w s X) (C:bu w s a N) {es:List E5} (v:dz h 5 (DI es) F sl) (hF:∀ t∈F,t∈X) (hok:∀ e∈es,Pd e) (hl:es.length<=1000000) (hN:N+es.length<=100000000):∃ (u:AV) (h':AHeap),run T 26 [.ptr S.a 0,sl] h=some (u,h')/\(∃ (L':fZ) (w':W) (s':dU) (a':Sch.St),Whole h' S L' w' s' X/\bu w' s' a' (N+es.length))/\KX X h h':=by
 have hlen:sl.gP=some es.length:=by rw [v.len (by omega),oY];simp
 refine dQ Z7 ?_;simp [F26,hlen];refine Wp.loop (VK h S X N es.length sl) es.length lQ ?_ ?_
 . exact ⟨0,L,w,s,a,0,by simp,x,by simpa using C,KX.refl,by simp⟩
 rintro n fr g ⟨c,L1,w1,s1,a1,z,hc,xg,C1,k,s0,s5,s8,s9,s10⟩;by_cases hcl:c<es.length
 . obtain ⟨e,he⟩:∃ e,es[c]?=some e:=⟨_,ah hcl⟩
   have vg:=v.keep k.keep (KX.th hF);have ⟨j,o,i1,i2,i3⟩:=vg.row (by omega) (k:=c) (by rw [oY];omega);rw [BF es c e he] at i3;have kz:Keep [] g (g.push (Qc (uT e) none)):=Keep.push;have ⟨x1,kx1⟩:=xg.still kz;have w1':writeOf (g.push (Qc [.int .u8 0,.int .u8 0,iQ 0,iQ 0,iQ 0] none)) g.size (some (Qc [.int .u8 0,.int .u8 0,iQ 0,iQ 0,iQ 0] none)) 0 (uT e)=some (g.push (Qc (uT e) none)):=push_write rfl rfl;have ⟨g2,b,es2,⟨L2,w2,s2,a2,_,x2,C2⟩,k2⟩:=vO hPo x1 C1 (by omega) (kd:=e.1) (act:=e.2.1) (ar:=e.2.2.1) (g:=e.2.2.2.1) (d:=e.2.2.2.2) (hok e (cW he));have es2:run T 10 [.ptr S.a 0,.agg (uT e)] (g.push (Qc (uT e) none))=some (.bool b,g2):=es2;have q1:cellsOf ((g.push (Qc (uT e) none)).get g.size) 0 5=some (uT e):=by rw [ak];rfl
   have hz5:(uT e).length=5:=rfl;have tk5:List.take 5 (uT e)=uT e:=rfl;have hci:(c:Int)<(es.length:Int):=by omega
   have C2':bu w2 s2 a2 (N+((c+1:Nat):Int)):=by rw [show N+((c+1:Nat):Int)=N+c+1 by omega];exact C2
   cases b with
   | false=>simp [-push_write,s0,s8,s9,s10,hci,i1,i3,w1',hz5,tk5,es2];exact ⟨n-1,by omega,c+1,L2,w2,s2,a2,z,by omega,x2,C2',(k.trans kx1).trans k2,by simp [s0,s5,s8,s9,wrap_nat (c:=c) (by omega)]⟩
   | true=>simp [-push_write,s0,s5,s8,s9,s10,hci,i1,i3,w1',hz5,tk5,es2];exact ⟨n-1,by omega,c+1,L2,w2,s2,a2,_,by omega,x2,C2',(k.trans kx1).trans k2,by simp [s0,s8,s9,wrap_nat (c:=c) (by omega)];rfl⟩
 . have hcx:c=es.length:=by omega
   subst hcx;simp [s5,s9,s10];exact ⟨⟨L1,w1,s1,xg,a1,C1⟩,k⟩
theorem Ak (gl:dL h) {p m g:Int} (hp:0<=p/\p<256) (hm:0<=m/\m<256) (hg:0<=g/\g<256):∃ (v:AV) (h':AHeap),run T 9 [.int .u8 p,.int .u8 m,.int .u8 g] h=some (v,h')/\(∃ (S:jb) (L:fZ) (w:W) (s:dU) (a:Sch.St),v=.ptr S.a 0/\Whole h' S L w s (List.range h.size)/\bu w s a 1)/\KX (List.range h.size) h h':=by
 obtain ⟨P,hP⟩:∃ P:Nat,(P:Int)=1+p % 8:=⟨(1+p % 8).toNat,by omega⟩
 obtain ⟨M,hM⟩:∃ M:Nat,(M:Int)=(P:Int)+m % 5:=⟨((P:Int)+m % 5).toNat,by omega⟩
 obtain ⟨G,hG⟩:∃ G:Nat,(G:Int)=1+g % 40:=⟨(1+g % 40).toNat,by omega⟩
 have t1:Int.tmod p 8=p % 8:=bX hp.1;have t2:Int.tmod m 5=m % 5:=bX hm.1;have t3:Int.tmod g 40=g % 40:=bX hg.1;have u1:wQ (p % 8)=p % 8:=rQ;have u2:wQ (m % 5)=m % 5:=rQ;have u3:wQ (g % 40)=g % 40:=rQ;have v1:wQ (1+p % 8)=(P:Int):=zQ
 have v2:wQ ((P:Int)+m % 5)=(M:Int):=zQ
 have v3:wQ (1+g % 40)=(G:Int):=zQ
 have el:run T 30 [.int .u8 p,.int .u8 m,.int .u8 g] h=some (E2 P M G,h.push (Qc [iQ (P:Int),iQ (M:Int),iQ (G:Int)] none)):=by refine run_eq Z4 ?_;simp [F30,t1,t2,t3,u1,u2,u3,v1,v2,v3]
 have kp:Keep [] h (h.push (Qc [iQ (P:Int),iQ (M:Int),iQ (G:Int)] none)):=Keep.push;obtain ⟨v,h',e,⟨S,L,rfl,x⟩,k⟩:=Ch (gl.still kp) (X:=List.range h.size) (P:=P) (M:=M) (G:=G) (by simp;intro t ht;omega) (by omega) (by omega) (by omega);have kk:=kp.trans' k;refine dQ T_9 ?_;simp [F9,el,e,ad];exact ⟨⟨S,rfl,L,_,_,x,_,A0 (by omega) (by omega) (by omega)⟩,⟨kk.size,kk.caps,fun t ht=>kk.get t (by simpa using ht) (by simp)⟩⟩
end
end
section
variable {h h':AHeap} {pi fi wi:Nat} {p:Po}
theorem Ep:∀ l:List Fd,keys16A (iI l)=some (l.map (·.1))
 | []=>rfl
 | x::l=>by have ih:=Ep l;show keys16A ((.int .u16 x.1,fdV x)::iI l)=_;simp [keys16A,ih,aR]
theorem EV {α:Type} {kd:IntKind} {f:α->Int} {v:α->AV} {m:Int} {y:α} {l:List α} {bs:List Nat} {ck:Nat} (hf:(l.find? fun x=>decide (f x=m))=some y) (hb:fh bs ck=true) (hl:bs.length=l.length):fh (bs.eraseIdx (posA (.int kd m) (eQ kd f v l))) ck=true/\(bs.eraseIdx (posA (.int kd m) (eQ kd f v l))).length=(l.eraseP fun x=>decide (f x=m)).length:=by refine ⟨yA hb,?_⟩;have h1:=congrArg List.length (tI (kd:=kd) (f:=f) (v:=v) m l);rw [pZ,Ag] at h1;rw [Ag,<- h1,pZ,hl]
theorem sL {α:Type} {kd:IntKind} {f:α->Int} {v:α->AV} {g:AHeap} {j:Nat} {m:Int} {l:List α} {bs:List Nat} {ck:Nat} (hg:g.get j=some (.map (eQ kd f v l) bs ck)) (hb:fh bs ck=true) (hl:bs.length=l.length):∃ g',deleteA g j (.int kd m) (eQ kd f v l) bs ck=some (.tuple [],g')/\(∃ bs' ,g'.get j=some (.map (eQ kd f v (l.eraseP fun x=>decide (f x=m))) bs' ck)/\fh bs' ck=true/\bs'.length=(l.eraseP fun x=>decide (f x=m)).length)/\Keep [j] g g':=by
 have ef:=fX (kd:=kd) (f:=f) (v:=v) m l;cases hf:l.find? (fun x=>decide (f x=m)) with
 | none=>
  rw [hf] at ef;refine ⟨g.put j (.map (eQ kd f v l) bs ck),by simp [deleteA,ef,Option.map_none],⟨bs,?_,hb,?_⟩,Keep.put (by simp)⟩
  . rw [List.eraseP_of_forall_not]
    . exact got hg
    . intro x hx;exact lq.1 hf x hx
  . rw [List.eraseP_of_forall_not]
    . exact hl
    . intro x hx;exact lq.1 hf x hx
 | some y=>rw [hf] at ef;have ⟨q1,q2⟩:=EV (kd:=kd) (v:=v) hf hb hl;refine ⟨g.put j (.map ((eQ kd f v l).eraseIdx (posA (.int kd m) (eQ kd f v l))) (bs.eraseIdx (posA (.int kd m) (eQ kd f v l))) ck),by simp [deleteA,ef,fj],⟨_,?_,q1,q2⟩,Keep.put (by simp)⟩;rw [tI];exact got hg
theorem Er {α:Type} {f:α->Int}:∀ {l:List α} {r y:α},(l.map f).Nodup->r∈l->y∈l->f r=f y->r=y
 | x::l,r,y,hn,hr,hy,e=>by
  rw [aR,jh] at hn;rcases aD.1 hr with h1 | h1
  . rcases aD.1 hy with h2 | h2
    . rw [h1,h2]
    . rw [h1] at e;exact absurd (e▸bQ h2) hn.1
  . rcases aD.1 hy with h2 | h2
    . rw [h2] at e;exact absurd (e▸bQ h1) hn.1
    . exact Er hn.2 h1 h2 e
def aan (h:AHeap) (pi j:Nat) (c0:Cap) (l:List Fd) (ks:List Int) (n:Nat) (fr:FF) (g:AHeap):Prop:=∃ k:Nat,k+n=ks.length/\Keep [] h g/\(∀ i,i<k->∀ x,ks[i]?=some x->∀ r,r∈l->r.1=x->(r.2.2.1 && r.2.2.2)=false)/\fr.get 0=.ptr pi 0/\fr.get 13=.slice j 0 ks.length c0/\fr.get 14=.int .i64 (ks.length:Int)/\fr.get 15=.int .i64 (k:Int)
set_option maxHeartbeats 1000000 in
theorem Gs:gX:=by
 intro h pi fi wi p x ok
 by_cases hp0:p.fds=[]
 . refine ⟨fun _=>uC x hp0,fun hd=>?_⟩;rw [hp0] at hd;cases hd
 have ⟨⟨room,a⟩,⟨b1,c1,m1,r1,l1⟩,⟨b2,c2,m2,r2,l2⟩,ni⟩:=id x
 obtain ⟨h1,hh1⟩:∃ h1,h1=h.push (Qc [.map fi] none):=⟨_,rfl⟩
 have k1:Keep [] h h1:=by rw [hh1];exact Keep.push
 have g1:h1.get h.size=some (Qc [.map fi] none):=by rw [hh1];exact ak
 have eo:h1.objs[fi]?=some (.map (iI p.fds) b1 c1):=k1.obj m1 (by simp);have hc:h1.cell h.size 0=some (.map fi):=by have:h1.objs[h.size]?=some (Qc [.map fi] none):=g1;simp [AHeap.cell,AHeap.row,this]
 obtain ⟨ks,hks⟩:∃ ks,ks=(p.fds.map (·.1)).mergeSort (fun a b=>decide (a<=b)):=⟨_,rfl⟩
 have hperm:ks.Perm (p.fds.map (·.1)):=by rw [hks];exact Dm _ _
 have hkl:ks.length=p.fds.length:=by rw [hperm.length_eq,dS]
 have ⟨h2,hh2⟩:∃ h2:AHeap,h2=⟨h1.objs++[.cells false (ks.map (.int .u16 ·)) (some (h1.caps.length,1))],h1.caps++[p.fds.length]⟩:=⟨_,rfl⟩
 obtain ⟨cap,hcap⟩:∃ cap:Cap,cap=.loose h1.caps.length 0:=⟨_,rfl⟩
 have en:natA h1 4 (.func 205 [] [.ptr h.size 0]) (iQ 205)=some (.slice h1.size 0 ks.length cap,h2):=by
  simp only [natA,hc,eo];rw [if_pos ⟨rfl,r1,by unfold iI;rw [pZ];have:=ok.sz;omega⟩,Ep]
  cases hm:p.fds.map (·.1) with
  | nil=>exact absurd (Dn.1 hm) hp0
  | cons y l=>
   have hlen:(y::l).length=p.fds.length:=by rw [<- hm,dS]
   simp only [hcap,hh2,hks,hm,List.length_mergeSort,hlen];rfl
 have k2:Keep [] h1 h2:=by
  rw [hh2];refine ⟨by show h1.objs.length<=(h1.objs++[_]).length;rw [aM];exact ur _ _,fun k lb e=>?_,fun t ht _=>?_⟩
  . exact cN e
  . show (h1.objs++_)[t]?=h1.objs[t]?;exact ay ht
 have g2:h2.get h1.size=some (.cells false (ks.map (.int .u16 ·)) (some (h1.caps.length,1))):=by rw [hh2];show (h1.objs++[_])[h1.objs.length]?=_;rw [aB (aq _),HJ];rfl
 have ek:run T 192 [.map fi] h=some (.func 205 [] [.ptr h.size 0],h1):=by refine run_eq Q5 ?_;simp [Qj,hh1]
 have es:run T 191 [.func 205 [] [.ptr h.size 0]] h1=some (.slice h1.size 0 ks.length cap,h2):=by refine run_eq Q6 ?_;simp [N0,FSorted,en]
 have kk:=k1.trans' k2;have hsz:=ok.sz;suffices key:∃ v' h',run T 179 [.ptr pi 0] h=some (v',h')/\((oN p.fds=false/\v'=.tuple [.int .u16 0,.int .i64 0,.bool false]/\Keep [] h h')\/(oN p.fds=true/\∃ fd g:Int,(fd,g,true,true)∈p.fds/\v'=.tuple [.int .u16 fd,.int .i64 g,.bool true]/\jg h' pi fi wi (takeP p fd g)/\Keep [fi,wi] h h')) by
  obtain ⟨v',h',e,hor⟩:=key
  rcases hor with ⟨hd,rfl,k⟩ | ⟨hd,fd,g,hm,rfl,y,k⟩
  . exact ⟨fun _=>⟨h',e,k⟩,fun hd'=>(by rw [hd] at hd';cases hd')⟩
  . exact ⟨fun hd'=>(by rw [hd] at hd';cases hd'),fun _=>⟨h',fd,g,hm,e,y,k⟩⟩
 refine dQ Q9 ?_;simp [Qm,a,ek,es];refine Wp.loop (aan h2 pi h1.size cap p.fds ks) ks.length (nr (by omega)) ?_ ?_
 . exact ⟨0,by simp,Keep.refl,by omega,by simp⟩
 rintro n fr g ⟨k,hn,kg,hno,s0,s13,s14,s15⟩;have kg0:=kk.trans' kg;have ag:=kg0.obj a (by simp);have mg:g.objs[fi]?=some (.map (iI p.fds) b1 c1):=kg0.obj m1 (by simp);have gg:=kg.obj g2 (by simp);by_cases hk:k<ks.length
 . have hk':(k:Int)<(ks.length:Int):=by omega
   obtain ⟨fd,hfd⟩:∃ fd,ks[k]?=some fd:=⟨_,ah hk⟩
   have ix:idxAddrV 1 none (.slice h1.size 0 ks.length cap) (.int .i64 (k:Int))=some (.ptr h1.size k):=by simp only [idxAddrV];rw [if_pos (by omega)];simp
   have ck:(ks.map (AV.int .u16 ·))[k]?=some (.int .u16 fd):=by simp [hfd]
   have hin:fd∈p.fds.map (·.1):=hperm.mem_iff.1 (cW hfd);obtain ⟨r0,hr0,hr1⟩:=gk.1 hin;have ef:findA (.int .u16 fd) (iI p.fds)=_:=fX fd p.fds
   obtain ⟨y,hy⟩:∃ y,(p.fds.find? fun x=>decide (x.1=fd))=some y:=by
    cases hf:p.fds.find? (fun x=>decide (x.1=fd)) with
    | none=>exact absurd (lq.1 hf r0 hr0) (by simp [hr1])
    | some y=>exact ⟨y,rfl⟩
   rw [hy,fj] at ef;have hy1:y.1=fd:=by simpa using List.find?_some hy
   have hym:=List.mem_of_find?_eq_some hy;have only:∀ r,r∈p.fds->r.1=fd->r=y:=fun r hr hrf=>by exact Er ok.nd hr hym (by rw [hrf,hy1])
   obtain ⟨row,hrow⟩:∃ row:List AV,row=[.int .i64 y.2.1,.bool y.2.2.1,.bool y.2.2.2]:=⟨_,rfl⟩
   have w1:writeOf (g.push (.cells false [.int .i64 0,.bool false,.bool false] none)) g.size (some (.cells false [.int .i64 0,.bool false,.bool false] none)) 0 [.int .i64 y.2.1,.bool y.2.2.1,.bool y.2.2.2]=some (g.push (.cells false row none)):=by rw [hrow];exact push_write rfl rfl
   obtain ⟨g5,hg5⟩:∃ g5,g5=g.push (.cells false row none):=⟨_,rfl⟩
   have k5:Keep [] g g5:=by rw [hg5];exact Keep.push
   have q5:g5.get g.size=some (.cells false row none):=by rw [hg5];exact ak
   rw [<- hg5] at w1;rw [hrow] at q5;have a5:=k5.obj ag (by simp);have m5:g5.get fi=some (.map (iI p.fds) b1 c1):=k5.obj mg (by simp);have mo5:g5.objs[fi]?=some (.map (iI p.fds) b1 c1):=m5
   cases hw:y.2.2.1 with
   | false=>
    rw [hw] at w1 q5;rw [show fdV y=.agg [.int .i64 y.2.1,.bool false,.bool y.2.2.2] by rw [fdV,hw]] at ef;simp [-push_write,-writeOf_some,-getElem?_pos,s0,s13,s14,s15,hk',ix,gg,ck,ag,mg,ef,w1,q5,ad,av];refine ⟨n-1,by omega,k+1,by omega,kg.trans' k5,fun i hi z hz r hr hrz=>?_,by simp [s0,s13,s14,wrap_nat (c:=k) (by omega)]⟩;by_cases hik:i=k
    . subst hik;rw [hfd] at hz;cases hz;rw [only r hr hrz,hw];rfl
    . exact hno i (by omega) z hz r hr hrz
   | true=>
    rw [hw] at w1 q5
    cases hr2:y.2.2.2 with
    | false=>
     rw [hr2] at w1 q5;rw [show fdV y=.agg [.int .i64 y.2.1,.bool true,.bool false] by rw [fdV,hw,hr2]] at ef;simp [-push_write,-writeOf_some,-getElem?_pos,s0,s13,s14,s15,hk',ix,gg,ck,ag,mg,ef,w1,q5,ad,av];refine ⟨n-1,by omega,k+1,by omega,kg.trans' k5,fun i hi z hz r hr hrz=>?_,by simp [s0,s13,s14,wrap_nat (c:=k) (by omega)]⟩;by_cases hik:i=k
     . subst hik;rw [hfd] at hz;cases hz;rw [only r hr hrz,hw,hr2];rfl
     . exact hno i (by omega) z hz r hr hrz
    | true=>
     rw [hr2] at w1 q5;rw [show fdV y=.agg [.int .i64 y.2.1,.bool true,.bool true] by rw [fdV,hw,hr2]] at ef;obtain ⟨g6,e6,⟨bs6,m6,r6,l6⟩,k6⟩:=sL (kd:=.u16) (f:=fun x:Fd=>x.1) (v:=fdV) (m:=fd) m5 r1 l1;have e6:deleteA g5 fi (.int .u16 fd) (iI p.fds) b1 c1=some (.tuple [],g6):=e6;have a6:=k6.obj a5 (by simpa using ni.1);have q6:=k6.obj q5 (by have:=get_lt mg;simp;omega);have w6:g6.get wi=some (.map (qm p.who) b2 c2):=k6.obj (k5.obj (kg0.obj m2 (by simp)) (by simp)) (by simpa using ni.2.2.symm);have wo6:g6.objs[wi]?=some (.map (qm p.who) b2 c2):=w6;obtain ⟨g7,e7,⟨bs7,m7,r7,l7⟩,k7⟩:=sL (kd:=.i64) (f:=fun x:Int×Int=>x.1) (v:=fun x=>.int .u16 x.2) (m:=y.2.1) w6 r2 l2;have e7:deleteA g6 wi (.int .i64 y.2.1) (qm p.who) b2 c2=some (.tuple [],g7):=e7;have q7:=k7.obj q6 (by have:=get_lt (kg0.obj m2 (by simp));simp;omega);have a7:=k7.obj a6 (by simpa using ni.2.1);simp [-push_write,-writeOf_some,-getElem?_pos,s0,s13,s14,s15,hk',ix,gg,ck,ag,mg,ef,w1,q5,a5,mo5,e6,a6,q6,wo6,e7,q7,ad,av];have hmem:(fd,y.2.1,true,true)∈p.fds:=by
      have:y=(fd,y.2.1,true,true):=by obtain ⟨y1,y2,y3,y4⟩:=y;simp only at hy1 hw hr2;subst hy1 hw hr2;rfl
      rw [<- this];exact hym
     refine ⟨?_,fd,y.2.1,hmem,⟨rfl,rfl⟩,⟨⟨room,a7⟩,⟨bs6,c1,k7.obj m6 (by simpa using ni.2.2),r6,l6⟩,⟨bs7,c2,m7,r7,l7⟩,ni⟩,?_⟩
     . exact fz.2 ⟨_,hmem,rfl⟩
     . exact (((kg0.trans' k5).mono (by simp)).trans' (k6.mono (by simp))).trans' (k7.mono (by simp))
 . have hkx:k=ks.length:=by omega
   simp [-getElem?_pos,s14,s15,hkx];refine ⟨?_,kg0⟩;unfold oN;rw [jt];intro r hr;have hin:r.1∈ks:=hperm.mem_iff.2 (bQ hr);obtain ⟨i,hi⟩:=List.getElem?_of_mem hin;have:=hno i (by have:=(aa.1 hi).1;omega) _ hi r hr rfl;rw [this];simp
end
section
section
variable {h h':AHeap} {i k:Nat} {F:List Nat} {sl:AV}
theorem Gh (hPo:gX) (gl:dL h) {p m g:Int} (hp:0<=p/\p<256) (hm:0<=m/\m<256) (hg:0<=g/\g<256) {es:List E5} (v:dz h 5 (DI es) F sl) (hok:∀ e∈es,Pd e):∃ h',run T 7 [.int .u8 p,.int .u8 m,.int .u8 g,sl] h=some (.bool true,h')/\Keep [] h h':=by
 have hlen:sl.gP=some es.length:=by rw [v.len (by omega),oY];simp
 have ⟨h0,e0,k0⟩:=pw gl;by_cases hl:1000<es.length
 . have ⟨h1,e1,k1⟩:=pw (gl.still k0);have hl2:(1000:Int)<(es.length:Int):=by omega
   refine run_val T_7 ?_;simp [F7,e0,hlen,hl2,e1];exact k0.trans' k1
 . have hl2:¬ (1000:Int)<(es.length:Int):=by omega
   obtain ⟨v1,h1,e1,⟨S,L,w,s,a,rfl,x1,C1⟩,k1⟩:=Ak (gl.still k0) hp hm hg;have z0:=k0.size;have v0:=v.keep k0 (by simp);have vl:=v.lt;have vx:=v0.keep k1.keep (KX.th fun t ht=>by have:=vl t ht;simp;omega);have ⟨u2,h2,e2,⟨L2,w2,s2,a2,x2,C2⟩,k2⟩:=Ow hPo x1 C1 vx (fun t ht=>by have:=vl t ht;simp;omega) hok (by omega) (by omega);obtain ⟨v3,h3,e3,⟨r,rfl,hr⟩,⟨L3,w3,s3,a3,x3,C3,sz,hq⟩,k3⟩:=jQ (Z:=fun _ _ _=>True) (fun _ _ _ _ _ _=>trivial) trivial hPo x2 C2 (by omega);have ⟨h4,e4,k4⟩:=js x3.at_;have ⟨x4,kx4⟩:=x3.still k4;have zz:Sz w3:=by have ⟨o,x⟩:=x3.at_;exact x.sz
   have ⟨h5,e5,k5,_⟩:=T1 x4.at_.globs zz.P zz.M zz.G;have ⟨x5,kx5⟩:=x4.still k5;have ⟨h6,e6,k6⟩:=Je x5 C3 hq;have hr2:r<=bN w3.P w3.M w3.G:=by rw [sz.P,sz.M,sz.G];exact hr
   have kz:=((k1.trans k2).trans k3).trans (kx4.trans kx5);have kk:Keep [] h h6:=by
    have q1:Keep [] h0 h5:=⟨kz.size,kz.caps,fun t ht _=>kz.get t (by simpa using ht)⟩
    exact (k0.trans' q1).trans' k6
   refine run_val T_7 ?_;simp [F7,e0,hlen,hl2,e1,e2,e3,e4,e5,e6,hr2,ad];exact kk
end
theorem ra {r:List AV}:dL (uH globN (.cells true iL none) (.cells true glob2 none) [oM r]):=⟨rfl,rfl,oc,rfl⟩
theorem yP (a0 a1 a2:Int) (c3:Option Nat) (l3:List (List AV)) (hs3:SlOk c3 l3.length) (hf3:∀ r∈l3,fits [.int .u8,.int .u8,.int .i64,.int .i64,.int .i64] r) (w0:(Lit.int .u8 a0).wf=true) (w1:(Lit.int .u8 a1).wf=true) (w2:(Lit.int .u8 a2).wf=true):∃ h',run T 7 [.int .u8 a0,.int .u8 a1,.int .u8 a2,Ug c3 11 l3.length] (uH globN (.cells true iL none) (.cells true glob2 none) [oM l3.flatten])=some (.bool true,h'):=by have h0:=Ao w0;have h1:=Ao w1;have h2:=Ao w2;have ⟨es,hd1,hd2,hok⟩:=BI l3 hf3;have ho:(uH globN (.cells true iL none) (.cells true glob2 none) [oM l3.flatten]).get 11=some (oM l3.flatten):=rfl;have ⟨F,v,_⟩:=Fh (i:=11) (s:=5) (by omega) (fun r hr=>mH (hf3 r hr)) hs3 ho;rw [hd1] at v;obtain ⟨h',e,_⟩:=Gh Gs (ra (r:=l3.flatten)) (p:=a0) (m:=a1) (g:=a2) (by omega) (by omega) (by omega) (by rw [<- hd1] at v ⊢;exact v) hok;exact ⟨h',e⟩
end
end Go.Proofs.YtblhcbmcbhoeiaaGreatDoor.Ev
