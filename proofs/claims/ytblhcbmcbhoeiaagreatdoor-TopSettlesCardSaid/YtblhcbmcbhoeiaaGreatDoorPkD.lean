/- Part 4 of the proof. -/
import Derived.Test.YtblhcbmcbhoeiaaGreatDoorPkC
import Derived.Defers
set_option linter.all false
set_option maxRecDepth 100000
namespace Go.Proofs.YtblhcbmcbhoeiaaGreatDoor.Ev
open Go
section
def Co (w:W) (i:Nat) (m:Mc) (k:Nat):Option W:=
 if m.inn=false then
  if k<=1000/\2*k<w.ws.length/\0<=wd w.ws (2*k)/\wd w.ws (2*k)<18446744073709551616 then
   some ((({(w.az i (enterM m ((2*k:Nat):Int) ((2*k+1:Nat):Int))).aL i false with ws:=w.ws.set (2*k) (inc (wd w.ws (2*k)) 1)}:W)).az i {enterM m ((2*k:Nat):Int) ((2*k+1:Nat):Int) with tk:=wd w.ws (2*k),st:=1})
  else none
 else if 0<=m.ln/\0<=m.ls/\m.ls<w.ws.length then
  if m.st=1 then (if (m.tk-wd w.ws m.ls.toNat) % 18446744073709551616=0 then some (w.az i {m with st:=2}) else some w)
  else if m.st=2 then match IL w i m with
   | some (w1,more)=>match w1.all[i]? with
    | some m1=>if m1.st≠4/\0<=m1.tm/\m1.tm<1000 then some (w1.az i {m1 with tm:=m1.tm+1,st:=if more=true then m1.st else 3}) else none
    | none=>none
   | none=>none
  else if m.st=3 then
   if (m.tk-wd w.ws m.ls.toNat) % 18446744073709551616=0/\BB m=true then match w.flag[i]? with
    | some is=>some ((w.cR m.ls.toNat (inc m.tk 1)).az i (thenM {m with st:=4,inn:=false} is w.P))
    | none=>none
   else none
  else none
 else none
section
variable {h h' h'':AHeap} {S:jb} {w w':W} {X F G:List Nat} {own:Nat->Nat} {i k:Nat} {m:Mc} {r:Rg} {more:Bool}
theorem Eg (x:WorldAt h S w X) (hi:w.all[i]?=some m) (hin:m.inn=true) {N Z:Nat} (hst:m.st=3) (hN:m.ln=N) (hZ:m.ls=Z) (hZl:Z<w.ws.length) (ht:(m.tk-wd w.ws Z) % 18446744073709551616=0) (ho:BB m=true) {is:Bool} (hf:w.flag[i]?=some is) (z:AV):∃ h',run T 73 [.ptr S.a 0,iQ (i:Int),z] h=some (.tuple [],h')/\WorldAt h' S ((w.cR Z (inc m.tk 1)).az i (thenM {m with st:=4,inn:=false} is w.P)) X/\KX X h h':=by
 have ⟨h2,e2,x2,k2,q1,q2⟩:=x.two (i:=i);have ⟨h3,e3,x3,k3⟩:=Ax x2 hi hst hN hZ hZl ht (.func 112 [] [.ptr h.size 0,.ptr (h.size+1) 0]);have ⟨own,x2⟩:=x2;have ⟨b,cs,room,rv,Fr,u,room0,hb,hc,hx,up,v,hF,hd,⟨f0,f1,f2,f3,f4,f5,f6,f7,f8,f9,f10,f11⟩,_⟩:=x2.mz hi;rw [hin] at f8;rw [<- hb] at e3;have ⟨own3,x3⟩:=x3;have hi3:(({w with ws:=w.ws.set Z ((m.tk+1) % 18446744073709551616)}:W).az i {m with st:=4}).all[i]?=some {m with st:=4}:=setm_at hi;have ⟨b3,c3,r3,v3,F3,hb3,hc3,hx3,up3,vv3,hF3⟩:=x3.fA hi3;have hbb:b3=b:=by rw [hb,hb3]
 subst hbb;have ⟨l30,ll3⟩:=up3.foc.lt;have ⟨x4,k4⟩:=x3.bY (m':={m with st:=4,inn:=false}) hi3 hc3 hb3 (up3.inn false) vv3 hF3;rw [setm_twice] at x4;have s1:=k4.obj (k3.obj q1 (by simp)) (by simp);have s2:=k4.obj (k3.obj q2 (by simp)) (by simp);have ⟨h5,e5,x5,k5⟩:=then_ok x4 (setm_at hi) (is:=is) hf ho;rw [setm_twice] at x5;refine run_val T_73 ?_;simp [-writeOf_some,F73,<- e2,q1,q2,hd,hx,hc,f8,e3,ad,hc3,wrB,ll3,s1,s2,e5];exact ⟨x5.sub (by simp;intro t ht;simp [ht]),k2.trans (((k3.trans k4).trans k5).sub (by simp;intro t ht;simp [ht]))⟩
theorem Kk (x:WorldAt h S w X) (hi:w.all[i]?=some m) (hw:Co w i m k=some w'):∃ h',run T 73 [.ptr S.a 0,iQ (i:Int),iQ (k:Int)] h=some (.tuple [],h')/\WorldAt h' S w' X/\KX X h h':=by
 unfold Co at hw;split at hw
 . rename_i hin;split at hw;case isFalse=>cases hw
   rename_i hc;cases hw;exact sa rfl rfl x hi hin hc.1 hc.2.1 hc.2.2
 rename_i hin;have hin:m.inn=true:=by simpa using hin
 split at hw;case isFalse=>cases hw
 rename_i hl;have hN:m.ln=(m.ln.toNat:Int):=(aH hl.1).symm;have hZ:m.ls=(m.ls.toNat:Int):=(aH hl.2.1).symm;have hZl:m.ls.toNat<w.ws.length:=by omega
 split at hw
 . rename_i hst;split at hw
   . rename_i ht;cases hw;exact nu x hi hin _ fun h2 x2 _ _=>Aw x2 hi hst hN hZ hZl ht _
   . rename_i ht;cases hw;exact nu x hi hin _ fun h2 x2 _ _=>xe x2 hi hst hN hZ hZl ht _
 split at hw
 . rename_i hst;split at hw;case h_2=>cases hw
   rename_i w1 more hd;split at hw;case h_2=>cases hw
   rename_i m1 hi1;split at hw;case isFalse=>cases hw
   rename_i hc;cases hw;refine nu x hi hin _ fun h2 x2 q1 q2=>?_;have ⟨h3,e3,x3,k3⟩:=QT x2 hi hd;exact OW x2 hi hst (yw q1 q2 e3) x3 k3 hi1 hc.1 hc.2
 split at hw;case isFalse=>cases hw
 rename_i hst;split at hw;case isFalse=>cases hw
 rename_i ht;split at hw;case h_2=>cases hw
 rename_i is hf;cases hw;exact Eg x hi hin hst hN hZ hZl ht.1 ht.2 hf _
end
end
section
def Bm (w:W) (i:Nat) (m:Mc):Option W:=
 if m.pl=1 then
  if 0<=m.p then match w.turns[m.p.toNat]? with
   | some z=>if 0<=z/\z<1000000000 then some (({w with turns:=w.turns.set m.p.toNat (z+1)}:W).az i (if (z+1) % 61=0 then deliverM {m with pl:=3} 2 else {m with pl:=3})) else none
   | none=>none
  else none
 else if m.pl=5 then some ((w.cR w.sp (inc (wd w.ws w.sp) 1)).az i (stealM {m with sp:=true} 1 w.P))
 else if m.pl=19 then some ((w.cR w.sp (inc (wd w.ws w.sp) (-1))).az i {m with sp:=false,pl:=21})
 else if m.pl=20 then
  if (0<=m.got/\m.got<w.G)/\wd w.ws (w.tb+m.got.toNat)=1/\rB (2,m.got,(i:Int),m.p,0)=true/\w.lg<=1000000000 then some (({w with ws:=w.ws.set (w.tb+m.got.toNat) 2}:W).cd.az i {m with g:=m.got,got:=-1,pl:=0}) else none
 else if m.pl=21 then some (w.az i {m with pl:=if wd w.ws w.sp=0 then 22 else m.bk})
 else if m.pl=22 then some (({w with ws:=if wd w.ws w.sp=0 then w.ws.set w.sp 1 else w.ws}:W).az i {m with pl:=if wd w.ws w.sp=0 then 23 else m.bk})
 else if m.pl=24 then
  if 0<=m.tg/\m.tg<w.M then some (({w with ws:=if wd w.ws (w.nt+m.tg.toNat)=0 then w.ws.set (w.nt+m.tg.toNat) 1 else w.ws}:W).az i {m with tg:=-1,pl:=m.bk}) else none
 else none
def B5 (w:W) (i:Nat) (m:Mc) (g fr e:Int):Option (W×Bool):=
 if (0<=g/\g<w.G)/\gJ fr 1=true/\wd w.ws (w.tb+g.toNat)=fr/\rB (e,g,(i:Int),m.p,0)=true/\w.lg<=1000000000 then some (({w with ws:=w.ws.set (w.tb+g.toNat) 1}:W).cd.az i {m with got:=g,pl:=28},true)
 else if (0<=g/\g<w.G)/\gJ fr 1=true/\¬ wd w.ws (w.tb+g.toNat)=fr then some (w,false) else none
def Nd (w:W) (i:Nat) (m:Mc) (act g:Int):Option (W×Bool):=
 if act=0 then some (w,true)
 else if act=2 then
  if (0<=m.g/\m.g<w.G)/\wd w.ws (w.tb+m.g.toNat)=2/\rB (4,m.g,(i:Int),m.p,0)=true/\w.lg<=1000000000 then some (({w with ws:=w.ws.set (w.tb+m.g.toNat) 3}:W).cd.az i {m with got:=-1,g:=-1,pl:=1},true) else none
 else if act=4 then B5 w i m g 0 0
 else if act=5 then B5 w i m g 3 1
 else none
def FJ (w:W) (i:Nat) (m:Mc):Option (W×Bool):=
 if wd w.ws (w.nt+i)=1 then (if 0<=m.nx then some ((w.cR (w.nt+i) 0).az i {m with p:=m.nx,nx:=-1,sp:=true,pl:=4},true) else none) else some (w,false)
def pickW (w:W) (i:Nat) (act g:Int):Option (W×Bool):=
 match w.all[i]? with
 | some m=>
  if m.pl=0 then Nd w i m act g
  else if m.pl=16 then FJ w i m
  else if 0<=m.pl/\m.pl<31/\m.ii<=1000 then
   (if 0<=lockOf m w.P then (Co w i m (lockOf m w.P).toNat).map fun w'=>(w',true) else (Bm w i m).map fun w'=>(w',true))
  else none
 | none=>none
abbrev LO (act a g:Int):AV:=.agg [.int .u8 0,.int .u8 act,.int .i64 a,.int .i64 g,.int .i64 0]
section
variable {h h' h'':AHeap} {S:jb} {w w':W} {X F G:List Nat} {own:Nat->Nat} {i k:Nat} {m:Mc} {r:Rg} {more:Bool} {act g:Int}
theorem IV (x:WorldAt h S w X) (hi:w.all[i]?=some m) (hw:Bm w i m=some w'):∃ h',run T 74 [.ptr S.a 0,iQ (i:Int)] h=some (.tuple [],h')/\WorldAt h' S w' X/\KX X h h':=by
 unfold Bm at hw;split at hw
 . rename_i hp;split at hw;case isFalse=>cases hw
   rename_i h0;split at hw;case h_2=>cases hw
   rename_i z hz;split at hw;case isFalse=>cases hw
   rename_i hb;cases hw;exact Hu x hi hp (aH h0).symm hz hb
 split at hw
 . rename_i hp;cases hw;exact Ff x hi hp
 split at hw
 . rename_i hp;cases hw;exact Fe x hi hp
 split at hw
 . rename_i hp;split at hw;case isFalse=>cases hw
   rename_i hc;cases hw;exact Aa x hi hp hc.1 hc.2.1 hc.2.2.1 hc.2.2.2
 split at hw
 . rename_i hp;cases hw;exact K7 x hi hp
 split at hw
 . rename_i hp;cases hw;exact Hv x hi hp
 split at hw;case isFalse=>cases hw
 rename_i hp;split at hw;case isFalse=>cases hw
 rename_i hc;cases hw;exact K5 x hi hp (aH hc.1).symm (by omega)
theorem DZ {fr e:Int} (h0:0<=fr) (x:WorldAt h S w X) (hi:w.all[i]?=some m) (hw:B5 w i m g fr e=some (w',more)):∃ h',run T 105 [.ptr S.a 0,iQ (i:Int),iQ g,uQ fr,iQ e] h=some (.bool more,h')/\WorldAt h' S w' X/\KX X h h':=by
 unfold B5 at hw;split at hw
 . rename_i hc;cases hw;exact Az x hi hc.1 h0 hc.2.1 hc.2.2.1 hc.2.2.2.1 hc.2.2.2.2
 split at hw;case isFalse=>cases hw
 rename_i hc;cases hw;exact D0 x hi hc.1 h0 hc.2.1 hc.2.2
theorem Pz (x:WorldAt h S w X) (hi:w.all[i]?=some m) (a:Int) (hw:Nd w i m act g=some (w',more)):∃ h',run T 70 [.ptr S.a 0,iQ (i:Int),LO act a g] h=some (.bool more,h')/\WorldAt h' S w' X/\KX X h h':=by
 have ⟨x0,k0⟩:=x.push (Qc [.int .u8 0,.int .u8 act,iQ a,iQ g,iQ 0] none);have x0':=x0;have ⟨own,xx⟩:=x0';have ⟨b,cs,room,rv,Fr,hb,hc,hx,up,v,hF⟩:=xx.fA hi;have ⟨u,room0,hd⟩:=xx.hd;have hbx:(h.push (Qc [.int .u8 0,.int .u8 act,iQ a,iQ g,iQ 0] none)).get h.size=some (Qc [.int .u8 0,.int .u8 act,iQ a,iQ g,iQ 0] none):=ak;have sb:∀ t∈X,t∈h.size::X:=fun t ht=>by simp [ht]
 refine run_val VR ?_;unfold Nd at hw;split at hw
 . rename_i ha;subst ha;cases hw;simp [F70,hd,hx,hbx,ad];exact ⟨x0.sub sb,k0⟩
 split at hw
 . rename_i ha;subst ha;split at hw;case isFalse=>cases hw
   rename_i hcd;cases hw;have ⟨h1,e1,x1,k1⟩:=wM x0 hi (to:=3) (e:=4) hcd.1 (by omega) (by decide) hcd.2.1 hcd.2.2.1 hcd.2.2.2;simp [F70,hd,hx,hbx,e1,ad];exact ⟨x1.sub sb,k0.trans (k1.sub sb)⟩
 split at hw
 . rename_i ha;subst ha;have ⟨h1,e1,x1,k1⟩:=DZ (by omega) x0 hi hw;simp [F70,hd,hx,hbx,e1,ad];exact ⟨x1.sub sb,k0.trans (k1.sub sb)⟩
 split at hw;case isFalse=>cases hw
 rename_i ha;subst ha;have ⟨h1,e1,x1,k1⟩:=DZ (by omega) x0 hi hw;simp [F70,hd,hx,hbx,e1,ad];exact ⟨x1.sub sb,k0.trans (k1.sub sb)⟩
theorem Lp (x:WorldAt h S w X) (hi:w.all[i]?=some m) (hw:FJ w i m=some (w',more)):∃ h',run T 71 [.ptr S.a 0,iQ (i:Int)] h=some (.bool more,h')/\WorldAt h' S w' X/\KX X h h':=by
 unfold FJ at hw;split at hw
 . rename_i hn;split at hw;case isFalse=>cases hw
   rename_i h0;cases hw;exact An x hi hn h0
 . rename_i hn;cases hw;exact Dz x hi hn
theorem IZ.row {cs:List AV} {b:Nat} {m:Mc} {rv:AV} (f:IZ cs b m rv):(cs.drop b).take 18=gD m rv:=by
 apply dt;intro k;by_cases hk:k<18
 . rw [aI hk,aN];exact f.at_ k hk
 . rw [aV (by simp;omega),aV (by simp [gD];omega)]
theorem O5 (x:WorldAt h S w X) (hw:pickW w i act g=some (w',more)):∃ h',run T 31 [.ptr S.a 0,LO act (i:Int) g] h=some (.bool more,h')/\WorldAt h' S w' X/\KX X h h':=by
 unfold pickW at hw;split at hw;case h_2=>cases hw
 rename_i m hi;have ⟨x0,k0⟩:=x.push (Qc [.int .u8 0,.int .u8 act,iQ (i:Int),iQ g,iQ 0] none);have x0':=x0;have ⟨own,xx⟩:=x0';have hiM:i<w.M:=by have:=(aa.1 hi).1;have:=xx.lens;omega
 have ⟨b,cs,room,rv,Fr,u,room0,hb,hc,hx,up,v,hF,hd,⟨f0,f1,f2,f3,f4,f5,f6,f7,f8,f9,f10,f11⟩,_⟩:=xx.mz hi;have hbx:(h.push (Qc [.int .u8 0,.int .u8 act,iQ (i:Int),iQ g,iQ 0] none)).get h.size=some (Qc [.int .u8 0,.int .u8 act,iQ (i:Int),iQ g,iQ 0] none):=ak;have sb:∀ t∈X,t∈h.size::X:=fun t ht=>by simp [ht]
 have i0:¬ ((i:Int)<0):=by omega
 have i1:¬ (w.M:Int)<=(i:Int):=by omega
 have i2:¬ w.M<=i:=by omega
 refine run_val Ld ?_;split at hw
 . rename_i hp;rw [hp] at f0;have ⟨h1,e1,x1,k1⟩:=Pz x0 hi (i:Int) hw;simp [Lj,hd,hx,hc,hbx,i0,i1,f0,e1,ad];exact ⟨x1.sub sb,k0.trans (k1.sub sb)⟩
 split at hw
 . rename_i hp;rw [hp] at f0;have ⟨h1,e1,x1,k1⟩:=Lp x0 hi hw;simp [Lj,hd,hx,hc,hbx,i0,i1,f0,e1,ad];exact ⟨x1.sub sb,k0.trans (k1.sub sb)⟩
 split at hw;case isFalse=>cases hw
 rename_i hn0 hn16 hpl;have hm:m.pl=(m.pl.toNat:Int):=(aH hpl.1).symm;have sz:=xx.sz;have ⟨h1,e1,k1⟩:=xv xx.pl m rv (n:=m.pl.toNat) (P:=w.P) (by omega) hm ⟨sz.P.1,by have:=sz.P.2;omega⟩ hpl.2.2;have hrow:=up.foc.row;have ⟨x1,kx1⟩:=x0.still k1;have hbx1:=k1.obj hbx (by simp);have hb18:b+18<=cs.length:=up.foc.l;split at hw
 . rename_i hk;have ⟨w1,hw1,ew⟩:=ae.1 hw;cases ew;have ⟨h2,e2,x2,k2⟩:=Kk x1 hi hw1;rw [aH hk] at e2;simp [Lj,hd,hx,hc,hbx,hbx1,i0,i1,f0,hn0,hn16,hrow,hb18,e1,hk,e2,ad];exact ⟨x2.sub sb,k0.trans ((kx1.trans k2).sub sb)⟩
 . rename_i hk;have ⟨w1,hw1,ew⟩:=ae.1 hw;cases ew;have ⟨h2,e2,x2,k2⟩:=IV x1 hi hw1;simp [Lj,hd,hx,hc,hbx,hbx1,i0,i1,f0,hn0,hn16,hrow,hb18,e1,hk,e2,ad];exact ⟨x2.sub sb,k0.trans ((kx1.trans k2).sub sb)⟩
theorem BG (x:WorldAt h S w X) (hw:pickW w i act g=some (w',more)):∃ h',run T 10 [.ptr S.a 0,LO act (i:Int) g] h=some (.bool more,h')/\WorldAt h' S w' X/\KX X h h':=by
 have ⟨x0,k0⟩:=x.push (Qc [.int .u8 0,.int .u8 act,iQ (i:Int),iQ g,iQ 0] none);have hbx:(h.push (Qc [.int .u8 0,.int .u8 act,iQ (i:Int),iQ g,iQ 0] none)).get h.size=some (Qc [.int .u8 0,.int .u8 act,iQ (i:Int),iQ g,iQ 0] none):=ak;have sb:∀ t∈X,t∈h.size::X:=fun t ht=>by simp [ht]
 have ⟨h1,e1,x1,k1⟩:=O5 x0 hw;refine run_val Fu ?_;simp [Ob,hbx,e1];exact ⟨x1.sub sb,k0.trans (k1.sub sb)⟩
end
end
section
variable {i:Nat} {ws:List Int}
@[simp] theorem FH {xs:List Int}:(wordsA xs).all AV.one=true:=by simp [wordsA]
section
variable {h:AHeap} {xs ys:List Int} {F G:List Nat} {s u:AV}
theorem Hn (v:dz h 1 (wordsA xs) F s) (hb:xs.length<=1000000):∃ s' h' F',run T 80 [s] h=some (s',h')/\dz h' 1 (wordsA xs) F' s'/\Keep [] h h'/\∀ t∈F',h.size<=t:=by
 have hnil:s=.nilslice\/∃ j o n c,s=.slice j o n c:=by cases v<;>simp
 rcases hnil with rfl | ⟨j,o,n,c,rfl⟩
 . cases v with
   | nil e=>refine ⟨.nilslice,h,[],run_eq T_80 ?_,.nil e,Keep.refl,by simp⟩;simp [F80]
 . have vn:Vec (h.push (Qc [] none)) 1 [] [h.size] (.slice h.size 0 0 (.exact 0)):=Vec.new (m:=0) ak (by simp);have ⟨s',h',F',e,v',k',f'⟩:=vn.wG (bytes:=8) (v.keep (Keep.push (F:=[])) (by simp)) FH (by simp [bigA];omega) (by simp [bigA];omega);refine ⟨s',h',F',run_eq T_80 ?_,by simpa using v'.view,(Keep.push (F:=[])).trans k' (by simp),fun t ht=>?_⟩
   . simp [F80,e]
   . have:=f' t ht;simp at this;omega
def mV (h:AHeap) (i:Nat) (F:List Nat) (ws:List Int):Prop:=i∉F/\∃ s ri cnt,h.get i=some (.cells false [s,.int .i64 cnt] ri)/\dz h 1 (wordsA ws) F s
theorem mV.keep {h':AHeap} (m:mV h i F ws) (k:Keep G h h') (hi:i∉G) (hd:∀ t∈F,t∉G):mV h' i F ws:=by have ⟨ne,s,ri,cnt,h1,v⟩:=m;exact ⟨ne,s,ri,cnt,k.obj h1 hi,v.keep k hd⟩
theorem MemAt.Ua {j:Nat} {cnt:Int} (m:MemAt h i j ws cnt):∃ F,mV h i F ws/\∀ t∈F,t=j:=by
 have ⟨ne,c,ri,rj,h1,h2,h3⟩:=m;by_cases hw:ws=[]
 . subst hw;exact ⟨[],⟨by simp,_,ri,cnt,h1,.zero rfl h3⟩,by simp⟩
 . exact ⟨[j],⟨by simpa using ne,_,ri,cnt,h1,.mk h2 (by simp) (by simp [wordsA];rw [aW (by simp)]) h3⟩,by simp⟩
theorem PK (m:mV h i F ws) (hb:ws.length<=1000000):∃ h' i' F',run T 36 [.ptr i 0] h=some (.ptr i' 0,h')/\mV h' i' F' ws/\Keep [] h h'/\h.size<=i'/\∀ t∈F',h.size<=t:=by
 have ⟨ne,s,ri,cnt,h1,v⟩:=m;have ⟨s',h2,F',e,v',k',f'⟩:=Hn v hb;have h1':=k'.obj h1 (by simp);have hlt:=v'.lt;have hs:=k'.size;have h3:(h2.push (Qc [s',iQ cnt] none)).get i=some (Qc [s,iQ cnt] ri):=aJ h1';have hso:s'.one=true:=by cases v'<;>rfl
 refine ⟨h2.push (Qc [s',iQ cnt] none),h2.size,F',run_eq Z1 ?_,⟨fun hm=>by have:=hlt _ hm;omega,s',none,cnt,ak,v'.keep (Keep.push (F:=[])) (by simp)⟩,k'.trans' Keep.push,hs,f'⟩;have hs':s'=.nilslice\/∃ j o n c,s'=.slice j o n c:=by cases v'<;>simp
 rcases hs' with rfl | ⟨j,o,n,c,rfl⟩
 . simp [YL,h1,e,h1']
 . simp [YL,h1,e,h1']
theorem xE {k:Int} (m:mV h i F ws):∃ h',run T 37 [.ptr i 0,iQ k] h=some (uQ (if 0<=k/\k<ws.length then wd ws k.toNat else 0),h')/\mV h' i F ws/\Keep [i] h h':=by
 have m0:=m;have ⟨ne,s,ri,cnt,h1,v⟩:=m;have hl:=v.my;simp at hl;have el:run T 122 [.ptr i 0] h=some (iQ ws.length,h):=by refine run_eq Rk ?_;simp [Qx,h1,hl]
 by_cases hk:0<=k/\k<ws.length
 . obtain ⟨n,rfl⟩:∃ n:Nat,k=n:=⟨k.toNat,by omega⟩
   have hn:n<ws.length:=by omega
   have ⟨j,o,i1,i2,i3⟩:=v.vM (lx hn);have kp:Keep [i] h (h.put i (Qc [s,iQ (up cnt)] ri)):=Keep.put (by simp);have v':=v.keep kp (fun t ht hm=>by simp at hm;subst hm;exact ne ht);have ⟨j',o',i1',i2',i3'⟩:=v'.vM (lx hn);rw [i1] at i1';simp at i1';obtain ⟨rfl,rfl⟩:=i1';have ea:run T 81 [.ptr i 0,iQ n] h=some (.ptr j o,h.put i (Qc [s,iQ (up cnt)] ri)):=by
    refine run_eq SB ?_;have hgp:(h.put i (Qc [s,iQ (up cnt)] ri)).get i=some (Qc [s,iQ (up cnt)] ri):=by rw [get_put_same,h1];rfl
    simp [up] at hgp;simp [UD,el,h1,Nat.not_le.2 hn,up,i1]
   refine ⟨_,run_eq SC (h':=h.put i (Qc [s,iQ (up cnt)] ri)) ?_,⟨ne,s,ri,up cnt,by rw [get_put_same,h1];rfl,v'⟩,kp⟩;simp [XO,ea,i3',hn]
 . have ea:run T 81 [.ptr i 0,iQ k] h=some (.nilptr,h):=by
    refine run_eq SB ?_;by_cases h0:k<0
    . simp [UD,h0]
    . have h2:(ws.length:Int)<=k:=by omega
      simp [UD,el,h0,h2]
   refine ⟨h,run_eq SC ?_,m0,Keep.refl⟩;simp [XO,ea,hk]
end
end
section
abbrev nT:List AV:=[.int .i64 0,.int .i64 0,.int .i64 0,.int .i64 0,.int .i64 0,.int .i64 0,.int .i64 0,.bool false,.bool false,.nilslice,.int .i64 0,.int .i64 0,.int .i64 0,.int .i64 0,.int .i64 0,.int .i64 0,.int .u64 0,.int .i64 0]
section
variable {h h' h'':AHeap} {S:jb} {w w':W} {X F G:List Nat} {own:Nat->Nat} {i k:Nat} {m:Mc} {r:Rg} {more:Bool} {act g:Int}
theorem vX {rs:AV} (h:rs.one=true):(gD m rs).all AV.one=true:=by simp [gD,h]
theorem jU (x:WorldAt h S w X) (hi:w.all[i]?=some m) (hr:m.rest.length<=1000):∃ u h',run T 22 [.ptr S.a 0,iQ (i:Int)] h=some (u,h')/\(∃ rs,u=.agg (gD m rs)/\rs.one=true)/\Keep [] h h':=by
 have ⟨own,x⟩:=x;have kz:Keep [] h (h.push (Qc nT none)):=Keep.push;have hz:(h.push (Qc nT none)).get h.size=some (Qc nT none):=ak;obtain ⟨o2,x2⟩:∃ o,eR (h.push (Qc nT none)) S w X o:=⟨_,x.alloc kz 0⟩
 have hiM:i<w.M:=by have:=(aa.1 hi).1;have:=x.lens;omega
 have ⟨b,cs,room,rv,Fr,hb,hc,hx,up,v,hF⟩:=x2.fA hi;have ⟨u,room0,hd⟩:=x2.hd;have hrow:=up.foc.row;have hb18:b+18<=cs.length:=up.foc.l;obtain ⟨uu,h3,e3,⟨rs,F3,rfl,v3,f3⟩,k3⟩:=MI m v hr;have hz3:=k3.obj hz (by simp);have h1:=(view_one v3).2;have i0:¬ ((i:Int)<0):=by omega
 have i1:¬ (w.M:Int)<=(i:Int):=by omega
 have i2:¬ w.M<=i:=by omega
 have w3:writeOf h3 h.size (some (Qc nT none)) 0 (gD m rs)=some (h3.put h.size (Qc (gD m rs) none)):=by rw [writeOf_some,if_pos ⟨by simp [gD],vX h1⟩];congr 4
 have hp3:(h3.put h.size (Qc (gD m rs) none)).get h.size=some (Qc (gD m rs) none):=by rw [get_put_same,hz3];rfl
 have t18:(gD m rs).take 18=gD m rs:=rfl;have l18:(gD m rs).length=18:=rfl;refine dQ aab ?_;simp [F22,hd,hx,hc,i0,i1,hrow,hb18,e3,hz3,w3,hp3,t18,l18];exact ⟨⟨rs,rfl,h1⟩,(kz.trans' k3).trans (Keep.put (F:=[h.size]) (by simp)) (by simp)⟩
theorem qT (x:WorldAt h S w X):∃ h1 i' F',run T 36 [.ptr S.mi 0] h=some (.ptr i' 0,h1)/\mV h1 i' F' w.ws/\Keep [] h h1/\h.size<=i':=by have ⟨own,x⟩:=x;have ⟨cnt,mm,_⟩:=x.gC;have ⟨F,c,_⟩:=mm.Ua;have ⟨h1,i',F',e1,c1,k1,hi,_⟩:=PK c (by have:=(iu x.sz).2;omega);exact ⟨h1,i',F',e1,c1,k1,hi⟩
def asleepW (w:W) (i:Nat) (m:Mc):Bool:=decide (m.pl=16) && decide (wd w.ws (w.nt+i)=0)
theorem Bn (x:WorldAt h S w X) (hi:w.all[i]?=some m):∃ h',run T 35 [.ptr S.a 0,iQ (i:Int)] h=some (.bool (asleepW w i m),h')/\Keep [] h h':=by
 have ⟨h1,i',F',e1,c1,k1,hi'⟩:=qT x;have ⟨own,x⟩:=x;have hiM:i<w.M:=by have:=(aa.1 hi).1;have:=x.lens;omega
 have ⟨b,cs,room,rv,Fr,u,room0,hb,hc,hx,up,v,hF,hd,⟨f0,f1,f2,f3,f4,f5,f6,f7,f8,f9,f10,f11⟩,_⟩:=x.mz hi;have sz:=x.sz;have ⟨h2,e2,c2,k2⟩:=xE (k:=((w.nt+i:Nat):Int)) c1;rw [if_pos ⟨by omega,by have:=oK sz hiM;omega⟩,aC] at e2;have ew:IntKind.wrap .i64 ((w.nt:Int)+(i:Int))=((w.nt+i:Nat):Int):=by rw [iq (by omega) (by have:=oK sz hiM;have:=(iu sz).2;omega)];omega
 generalize ((w.nt+i:Nat):Int)=nk at e2 ew;have hd1:=k1.obj hd (by simp);have i0:(i:Int)<(w.M:Int):=by omega
 have kk:Keep [] h h2:=k1.trans k2 (by simp;exact hi');refine run_val Z2 ?_;by_cases hp:m.pl=16
 . rw [hp] at f0;simp [YM,hd,hd1,hx,hc,f0,i0,e1,e2,ew,hp,asleepW];exact kk
 . simp [YM,hd,hx,hc,f0,i0,hp,asleepW];exact Keep.refl
theorem o8 (x:WorldAt h S w X):∃ h',run T 12 [.ptr S.a 0] h=some (uQ (wd w.ws w.sp),h')/\Keep [] h h':=by have ⟨h1,i',F',e1,c1,k1,hi'⟩:=qT x;have ⟨own,x⟩:=x;have ⟨u,room0,hd⟩:=x.hd;have hd1:=k1.obj hd (by simp);have ⟨h2,e2,c2,k2⟩:=xE (k:=(w.sp:Int)) c1;rw [if_pos ⟨by omega,by have:=ux x.sz;omega⟩,aC] at e2;refine run_val aak ?_;simp [F12,hd,hd1,e1,e2];exact k1.trans k2 (by simp;exact hi')
theorem Pe {N Z:Nat} {ws:List Int} (c:mV h i F ws) (hg:0<=g/\g<N) (hN:Z+N<=ws.length) (hw:ws.length<=100000):∃ h',run T 61 [LI Z N,.ptr i 0,iQ g] h=some (uQ (wd ws (Z+g.toNat)),h')/\Keep [i] h h':=by have kp:Keep [] h (h.push (Qc [iQ (Z:Int),iQ (N:Int)] none)):=Keep.push;have ⟨h1,e1,k1⟩:=CH (h.push (Qc [iQ (Z:Int),iQ (N:Int)] none)) Z N g;rw [decide_eq_true hg] at e1;have hb:h1.get h.size=some (Qc [iQ (Z:Int),iQ (N:Int)] none):=k1.obj ak (by simp);have ⟨h2,e2,m2,k2⟩:=xE ((c.keep kp (by simp) (by simp)).keep k1 (by simp) (by simp)) (k:=(Z:Int)+g);rw [if_pos ⟨by omega,by omega⟩,show ((Z:Int)+g).toNat=Z+g.toNat by omega] at e2;have hwr:wQ ((Z:Int)+g)=(Z:Int)+g:=rQ;refine ⟨h2,run_eq ZH ?_,((kp.trans' k1).mono (by simp)).trans' k2⟩;simp [F61,e1,hb,hwr,e2]
theorem jl (x:WorldAt h S w X) (hg:0<=g/\g<w.G):∃ h',run T 23 [.ptr S.a 0,iQ g] h=some (uQ (wd w.ws (w.tb+g.toNat)),h')/\Keep [] h h':=by have ⟨h1,i',F',e1,c1,k1,hi'⟩:=qT x;have ⟨own,x⟩:=x;have ⟨u,room0,hd⟩:=x.hd;have hd1:=k1.obj hd (by simp);have ⟨h2,e2,k2⟩:=Pe c1 hg (iu x.sz).1 (iu x.sz).2;refine run_val aaa ?_;simp [F23,hd,hd1,e1,e2];exact k1.trans k2 (by simp;exact hi')
abbrev E2 (P M G:Nat):AV:=.agg [.int .i64 (P:Int),.int .i64 (M:Int),.int .i64 (G:Int)]
theorem js (x:WorldAt h S w X):∃ h',run T 16 [.ptr S.a 0] h=some (E2 w.P w.M w.G,h')/\Keep [] h h':=by have ⟨own,x⟩:=x;have kz:Keep [] h (h.push (Qc [iQ 0,iQ 0,iQ 0] none)):=Keep.push;have ⟨u,room0,hd⟩:=(x.alloc kz 0).hd;have t3:=KB (S:=S) (w:=w) (u:=u);refine run_val aag ?_;simp [F16,hd,t3];exact Keep.push
theorem CK (x:WorldAt h S w X) (hb:w.pend.length<=1000/\w.ms.length<=1000):∃ h' y,run T 13 [.ptr S.a 0] h=some (.ptr y 0,h')/\(∃ FT wz,bz h' y FT w.P w.M wz w.pend w.ms w.q/\mem wz=w.ip)/\Keep [] h h':=by have ⟨own,x⟩:=x;have ⟨u,room0,hd⟩:=x.hd;have ⟨FT,wz,b,hm,c⟩:=x.idle;have ⟨h1,y,FT',e1,b1,k1,_⟩:=KA b hb;refine ⟨h1,y,run_eq aaj ?_,⟨FT',wz,b1,hm⟩,k1⟩;simp [F13,hd,e1]
theorem KK (x:WorldAt h S w X) (hl:w.lg<=100000):∃ s h',run T 69 [.ptr S.a 0] h=some (s,h')/\s.gP=some w.lg/\Keep [] h h':=by have ⟨own,x⟩:=x;have ⟨u,F,hh⟩:=x.head;have ⟨room0,hd⟩:=hh.at_;have ⟨es,le,ve⟩:=hh.log;have ⟨s,h1,e1,l1,k1⟩:=Pq hd (o:=15) yg ve (by omega);rw [le] at l1;refine ⟨s,h1,run_eq Zx ?_,l1,k1⟩;simp [F69,e1]
def z7 (w:W) (i:Nat):Bool:=match w.all[i]? with
 | some m=>decide (m.pl=0) || asleepW w i m
 | none=>true
def jX (w:W):Nat->Bool
 | 0=>true
 | c+1=>jX w c && z7 w c
def dX (w:W):Bool:=jX w w.M
theorem C7 {c n:Nat} (h:z7 w c=false) (hn:c<n):jX w n=false:=by
 induction n with
 | zero=>omega
 | succ n ih=>
  simp only [jX];by_cases hc:c=n
  . rw [<- hc,h,Ah]
  . rw [ih (by omega),Bool.false_and]
def SH (h:AHeap) (S:jb) (w:W) (X:List Nat) (n:Nat) (fr:FF) (g:AHeap):Prop:=∃ c:Nat,c+n=w.M/\WorldAt g S w X/\Keep [] h g/\jX w c=true/\fr.get 0=.ptr S.a 0/\fr.get 8=.slice S.ao S.ab w.M S.ac/\fr.get 9=.int .i64 (w.M:Int)/\fr.get 10=.int .i64 (c:Int)
theorem pg (x:WorldAt h S w X):∃ h',run T 11 [.ptr S.a 0] h=some (.bool (dX w),h')/\Keep [] h h':=by
 have ⟨u,room0,hd⟩:=(show ∃ u room,h.get S.a=some (.cells false (headA S w u) room) by obtain ⟨o,x⟩:=x;exact x.hd)
 have hM:w.M<=128:=by have ⟨o,x⟩:=x;exact x.sz.M.2
 have hall:w.all.length=w.M:=by have ⟨o,x⟩:=x;exact x.lens.1
 refine run_val aal ?_;simp [F11,hd];refine Wp.loop (SH h S w X) w.M lQ ?_ ?_
 . exact ⟨0,by simp,x,Keep.refl,rfl,by simp⟩
 rintro n fr g ⟨c,hc,xg,k,hq,s0,s8,s9,s10⟩;by_cases hcl:c<w.M
 . obtain ⟨m,hi⟩:∃ m,w.all[c]?=some m:=⟨_,ah (by omega)⟩
   have ⟨own,xw⟩:=id xg;have ⟨b,cs,room,rv,Fr,hb,hcs,hx,up,v,hF⟩:=xw.fA hi;have hrow:=up.foc.row;have hb18:b+18<=cs.length:=up.foc.l;have kz:Keep [] g (g.push (Qc (gD m rv) none)):=Keep.push;have hz:(g.push (Qc (gD m rv) none)).get g.size=some (Qc (gD m rv) none):=ak;have ⟨x2,_⟩:=xg.still kz;have w1:writeOf (g.push (Qc nT none)) g.size (some (Qc nT none)) 0 (gD m rv)=some (g.push (Qc (gD m rv) none)):=push_write rfl (vX (view_one v).2);have hm0:(gD m rv)[0]?=some (iQ m.pl):=rfl;have l18:(gD m rv).length=18:=rfl;by_cases h0:m.pl=0
   . have hq2:jX w (c+1)=true:=by simp [jX,hq,z7,hi,h0]
     simp [-push_write,-getElem?_pos,s8,s9,s10,hcl,hx,hcs,hrow,hb18,w1,hz,hm0,l18,h0];exact ⟨n-1,by omega,c+1,by omega,x2,k.trans' kz,hq2,by simp [s0,s8,s9,wrap_nat (c:=c) (by omega)]⟩
   . have ⟨h3,e3,k3⟩:=Bn x2 hi
     cases ha:asleepW w c m with
     | true=>
      rw [ha] at e3;have hq2:jX w (c+1)=true:=by simp [jX,hq,z7,hi,ha]
      simp [-push_write,-getElem?_pos,s0,s8,s9,s10,hcl,hx,hcs,hrow,hb18,w1,hz,hm0,l18,h0,e3];exact ⟨n-1,by omega,c+1,by omega,(x2.still k3).1,(k.trans' kz).trans' k3,hq2,by simp [s0,s8,s9,wrap_nat (c:=c) (by omega)]⟩
     | false=>rw [ha] at e3;have hq2:dX w=false:=C7 (c:=c) (by simp [z7,hi,ha,h0]) hcl;simp [-writeOf_some,-push_write,-getElem?_pos,s0,s8,s9,s10,hcl,hx,hcs,hrow,hb18,w1,hz,hm0,l18,h0,e3,hq2];exact (k.trans' kz).trans' k3
 . have hcx:c=w.M:=by omega
   subst hcx;have hq2:dX w=true:=hq;simp [-getElem?_pos,s9,s10,hq2];exact k
end
end
section
variable {P:Nat}
def pk:Rg:=⟨[],false,-1,0⟩
def AD:List AV:=List.replicate 258 (.int .i64 0)++[.bool false,.int .i64 (-1),.int .i64 0]
section
variable {h h' h'':AHeap}
theorem Md (h:AHeap):run T 50 [] h=some (.ptr h.size 0,h.push (Qc AD none))/\cZ (h.push (Qc AD none)) h.size pk:=by
 refine ⟨run_eq ZO ?_,⟨AD,0,none,ak,?_⟩⟩
 . simp [F50,AD,List.replicate]
 . refine ⟨rfl,rfl,rfl,rfl,rfl,rfl,by omega,by simp [pk],fun k x hk=>by simp [pk] at hk,by rfl⟩
theorem JS (h:AHeap) {M G:Nat} (hP:1<=P/\P<=64) (hM:P<=M/\M<=128) (hG:1<=G/\G<=4096):run T 45 [E2 P M G] h=some (.bool true,h.push (Qc [iQ (P:Int),iQ (M:Int),iQ (G:Int)] none)):=by
 refine run_eq ZT ?_;have a1:(1:Int)<=(P:Int):=by omega
 have a2:(P:Int)<=64:=by omega
 have a3:(P:Int)<=(M:Int):=by omega
 have a4:(M:Int)<=128:=by omega
 have a5:(1:Int)<=(G:Int):=by omega
 have a6:(G:Int)<=4096:=by omega
 simp [F45,a1,a2,a3,a4,a5,a6]
theorem tG:∀ {a b:List Nat},a.Pairwise (·<·)->b.Pairwise (·<·)->(∀ x,x∈a↔x∈b)->a=b
 | [],[],_,_,_=>rfl
 | [],y::b,_,_,h=>by have:=(h y).2 (by simp);simp at this
 | x::a,[],_,_,h=>by have:=(h x).1 (by simp);simp at this
 | x::a,y::b,ha,hb,h=>by
  rw [iU] at ha hb;have hxy:x=y:=by
   have h1:=(h x).1 (by simp);have h2:=(h y).2 (by simp);simp at h1 h2;rcases h1 with h1 | h1
   . exact h1
   . rcases h2 with h2 | h2
     . exact h2.symm
     . have:=ha.1 y h2;have:=hb.1 x h1;omega
  subst hxy;congr 1;refine tG ha.2 hb.2 fun z=>?_;constructor
  . intro hz;have:=(h z).1 (by simp [hz]);simp at this;rcases this with rfl | this
    . have:=ha.1 z hz;omega
    . exact this
  . intro hz;have:=(h z).2 (by simp [hz]);simp at this;rcases this with rfl | this
    . have:=hb.1 z hz;omega
    . exact this
theorem yZ {ws:List Nat} {k:Nat} (hk:k / 64<ws.length) (h0:lE ws k=false) (hl:∀ j∈mem ws,j<k):mem (flip ws k)=mem ws++[k]:=by
 refine tG (jT _) ?_ fun x=>?_
 . rw [List.pairwise_append];exact ⟨jT _,by simp,fun a ha b hb=>by simp at hb;subst hb;exact hl a ha⟩
 . rw [iY,sR hk,bd,iY];by_cases hx:x=k
   . subst hx;simp [h0]
   . simp [hx]
end
end
section
variable {F' F:List Nat}
structure Bl where
 P:Nat
 M:Nat
 G:Nat
 a:Nat
 mi:Nat
 mj:Nat
 to:Nat
 gi:Nat
 si:Nat
 ii:Nat
 fo:Nat
def Bl.w (b:Bl):W:={P:=b.P,M:=b.M,G:=b.G,ws:=[],rings:=[],turns:=[],gl:=[],ip:=[],pend:=[],ms:=[],q:=0,all:=[],flag:=[],lg:=0}
def fC (b:Bl) (rs sl:AV):List AV:=[.int .i64 (b.P:Int),.int .i64 (b.M:Int),.int .i64 (b.G:Int),.ptr b.mi 0,.int .i64 (b.w.sp:Int),.int .i64 (b.w.nt:Int),.int .i64 (b.w.tb:Int),.int .i64 (b.G:Int),rs,.slice b.to 0 b.P (.exact b.P),.ptr b.gi 0,.ptr b.si 0,.ptr b.ii 0,sl,.slice b.fo 0 b.M (.exact b.M),.nilslice]
def qy:Nat->List AV
 | 0=>[]
 | c+1=>qy c++gD freshM .nilslice
theorem ly:∀ c,(qy c).length=c*18
 | 0=>rfl
 | c+1=>by simp [qy,aM,ly c];simp [gD];omega
structure mW (h0 h:AHeap) (own0 own:Nat->Nat) (b:Bl) (hr hs rs sl:AV) (rp:List Nat) (c2:Nat) (ip:List Nat) (ms:List Int) (q:Int):Prop where
 same:∀ t<h0.size,own t=own0 t
 size:h0.size<=h.size
 keep:∃ K,Keep K h0 h/\∀ t∈K,t<h0.size->own0 t=1\/own0 t=3\/own0 t=6\/own0 t=7
 head:own b.a=1/\∃ room,h.get b.a=some (.cells false (fC b hr hs) room)
 rsv:∃ F,Vec h 1 (rp.map fun r=>.ptr r 0) F rs/\∀ t∈F,own t=3
 ring:∀ k i,rp[k]?=some i->cZ h i pk/\own i=10+k
 asv:∃ F,Vec h 18 (qy c2) F sl/\∀ t∈F,own t=7
 idle:∃ FT wz,bz h b.ii FT b.P b.M wz [] ms q/\mem wz=ip/\∀ t∈FT,own t=6
section
variable {h0 h h':AHeap} {own0 own own':Nat->Nat} {b:Bl} {hr hs rs sl:AV} {rp:List Nat} {c2 d:Nat} {ip:List Nat} {ms:List Int} {q:Int} {G:List Nat} {n:Nat}
theorem mW.Fz (x:mW h0 h own0 own b hr hs rs sl rp c2 ip ms q) (f:Fr own own' h h' d G):∀ t<h0.size,own' t=own0 t:=fun t ht=>by rw [f.same t (by have:=x.size;omega),x.same t ht]
theorem mW.FA (x:mW h0 h own0 own b hr hs rs sl rp c2 ip ms q) (f:Fr own own' h h' d G) (hd:d=1\/d=3\/d=6\/d=7\/G=[]):∃ K,Keep K h0 h'/\∀ t∈K,t<h0.size->own0 t=1\/own0 t=3\/own0 t=6\/own0 t=7:=by
 have ⟨K,k,hK⟩:=x.keep;refine ⟨K++G,(k.mono (by simp;intro t ht;exact dc ht)).trans' (f.keep.mono (by simp;intro t ht;exact dx ht)),fun t ht hl=>?_⟩;rcases bd.1 ht with h1 | h1
 . exact hK t h1 hl
 . have:=f.col t h1;rw [x.same t hl] at this;rcases hd with rfl | rfl | rfl | rfl | rfl
   . exact dc this
   . exact dx (dc this)
   . exact dx (dx (dc this))
   . exact dx (dx (dx this))
   . simp at h1
theorem mW.kT (x:mW h0 h own0 own b hr hs rs sl rp c2 ip ms q) (f:Fr own own' h h' d G) (hd:d≠1):own' b.a=1/\∃ room,h'.get b.a=some (Qc (fC b hr hs) room):=by have ⟨c,room,e⟩:=x.head;exact ⟨by rw [f.same _ (get_lt e),c],room,f.keep.obj e (f.th c hd)⟩
theorem mW.YR (x:mW h0 h own0 own b hr hs rs sl rp c2 ip ms q) (f:Fr own own' h h' d G) (hd:d≠3):∃ F,Vec h' 1 (rp.map fun r=>.ptr r 0) F rs/\∀ t∈F,own' t=3:=by have ⟨F,v,c⟩:=x.rsv;exact ⟨F,v.keep f.keep fun t ht=>f.th (c t ht) hd,fun t ht=>by rw [f.same _ (v.lt t ht),c t ht]⟩
theorem mW.kF (x:mW h0 h own0 own b hr hs rs sl rp c2 ip ms q) (f:Fr own own' h h' d G) (hd:d<10\/G=[]):∀ k i,rp[k]?=some i->cZ h' i pk/\own' i=10+k:=fun k i hk=>by
 have ⟨y,c⟩:=x.ring k i hk;refine ⟨y.keep f.keep ?_,by rw [f.same _ y.lt,c]⟩;rcases hd with hd | rfl
 . exact f.th c (by omega)
 . simp
theorem mW.YS (x:mW h0 h own0 own b hr hs rs sl rp c2 ip ms q) (f:Fr own own' h h' d G) (hd:d≠7):∃ F,Vec h' 18 (qy c2) F sl/\∀ t∈F,own' t=7:=by have ⟨F,v,c⟩:=x.asv;exact ⟨F,v.keep f.keep fun t ht=>f.th (c t ht) hd,fun t ht=>by rw [f.same _ (v.lt t ht),c t ht]⟩
theorem mW.kS (x:mW h0 h own0 own b hr hs rs sl rp c2 ip ms q) (f:Fr own own' h h' d G) (hd:d≠6):∃ FT wz,bz h' b.ii FT b.P b.M wz [] ms q/\mem wz=ip/\∀ t∈FT,own' t=6:=by have ⟨F,wz,v,hm,c⟩:=x.idle;exact ⟨F,wz,v.keep f.keep fun t ht=>f.th (c t ht) hd,hm,fun t ht=>by rw [f.same _ (v.lt t ht),c t ht]⟩
theorem mW.alloc (x:mW h0 h own0 own b hr hs rs sl rp c2 ip ms q) (k:Keep [] h h') (c:Nat):mW h0 h' own0 (ext own h.size c) b hr hs rs sl rp c2 ip ms q:=by
 have f:Fr own (ext own h.size c) h h' 99 []:=⟨k,by simp,ext_same _ _ _⟩
 exact ⟨x.Fz f,dk x.size k.size,x.FA f (by simp),x.kT f (by omega),x.YR f (by omega),x.kF f (by simp),x.YS f (by omega),x.kS f (by omega)⟩
theorem mW.put (x:mW h0 h own0 own b hr hs rs sl rp c2 ip ms q) (hr' hs':AV) {room:Option (Nat×Nat)}:mW h0 (h.put b.a (Qc (fC b hr' hs') room)) own0 own b hr' hs' rs sl rp c2 ip ms q:=by
 have ⟨c,room0,e⟩:=x.head;have f:Fr own own h (h.put b.a (Qc (fC b hr' hs') room)) 1 [b.a]:=⟨Keep.put (by simp),by simpa using c,fun _ _=>rfl⟩
 exact ⟨x.Fz f,dk x.size f.keep.size,x.FA f (by simp),⟨c,room,by rw [get_put_same,e];rfl⟩,x.YR f (by omega),x.kF f (by omega),x.YS f (by omega),x.kS f (by omega)⟩
theorem mW.XW (x:mW h0 h own0 own b hr hs rs sl rp c2 ip ms q) {rs':AV} {i:Nat} (hF:∀ t∈F,own t=3/\t<h.size) (v':Vec h' 1 ((rp++[i]).map fun r=>.ptr r 0) F' rs') (k:Keep F h h') (f':∀ t∈F',t∈F\/h.size<=t) (hn:cZ h i pk/\own i=10+rp.length):mW h0 h' own0 (ext own h.size 3) b hr hs rs' sl (rp++[i]) c2 ip ms q:=by
 have f:Fr own (ext own h.size 3) h h' 3 F:=⟨k,fun t ht=>(hF t ht).1,ext_same _ _ _⟩
 refine ⟨x.Fz f,dk x.size k.size,x.FA f (by simp),x.kT f (by omega),⟨F',v',jV hF f'⟩,fun k j hk=>?_,x.YS f (by omega),x.kS f (by omega)⟩;by_cases hl:k<rp.length
 . rw [ay hl] at hk;exact x.kF f (by omega) k j hk
 . rw [aB (by omega)] at hk;have h0:k-rp.length=0:=by
    rcases dd (k-rp.length) with h | h
    . exact h
    . rw [aV (by simp;omega)] at hk;cases hk
   rw [h0] at hk;simp at hk;subst hk;exact ⟨hn.1.keep f.keep (f.th hn.2 (by omega)),by rw [ext_same _ _ _ _ hn.1.lt,hn.2];omega⟩
theorem mW.XX (x:mW h0 h own0 own b hr hs rs sl rp c2 ip ms q) {sl':AV} {c2':Nat} (hF:∀ t∈F,own t=7/\t<h.size) (v':Vec h' 18 (qy c2') F' sl') (k:Keep F h h') (f':∀ t∈F',t∈F\/h.size<=t):mW h0 h' own0 (ext own h.size 7) b hr hs rs sl' rp c2' ip ms q:=by
 have f:Fr own (ext own h.size 7) h h' 7 F:=⟨k,fun t ht=>(hF t ht).1,ext_same _ _ _⟩
 exact ⟨x.Fz f,dk x.size k.size,x.FA f (by simp),x.kT f (by omega),x.YR f (by omega),x.kF f (by omega),⟨F',v',jV hF f'⟩,x.kS f (by omega)⟩
theorem mW.ie (x:mW h0 h own0 own b hr hs rs sl rp c2 ip ms q) {wz wz':List Nat} {ip':List Nat} {ms':List Int} {q':Int} (v:bz h b.ii F b.P b.M wz [] ms q) (hF:∀ t∈F,own t=6) (v':bz h' b.ii F' b.P b.M wz' [] ms' q') (hm:mem wz'=ip') (k:Keep F h h') (f':∀ t∈F',t∈F\/h.size<=t):mW h0 h' own0 (ext own h.size 6) b hr hs rs sl rp c2 ip' ms' q':=by
 have f:Fr own (ext own h.size 6) h h' 6 F:=⟨k,hF,ext_same _ _ _⟩
 exact ⟨x.Fz f,dk x.size k.size,x.FA f (by simp),x.kT f (by omega),x.YR f (by omega),x.kF f (by omega),x.YS f (by omega),⟨F',wz',v',hm,jV (fun t ht=>⟨hF t ht,v.lt t ht⟩) f'⟩⟩
theorem mW.abw (x:mW h0 h own0 own b hr hs rs sl rp c2 (List.range' 1 n) ms q) (hn:n+1<b.P):∃ h' own',run T 51 [.ptr b.ii 0,iQ ((n+1:Nat):Int)] h=some (.bool true,h')/\mW h0 h' own0 own' b hr hs rs sl rp c2 (List.range' 1 (n+1)) ms q:=by
 have ⟨FT,wz,v,hm,c⟩:=x.idle;have hnot:(n+1)∉mem wz:=by rw [hm];simp;omega
 have hb:lE wz (n+1)=false:=by
  cases hbb:lE wz (n+1) with
  | false=>rfl
  | true=>exact absurd (iY.2 hbb) hnot
 have ⟨h1,e1,v1,k1⟩:=D9 v (by simp) (by simp) hn hb;have hlen:(n+1) / 64<wz.length:=by obtain ⟨sp,pi,pj,Fp,Fm,a,v,mk,rfl,nd⟩:=v;have:=mk.2.1.len;omega
 refine ⟨h1,_,e1,x.ie v c v1 ?_ k1 (fun t ht=>dc ht)⟩;rw [yZ hlen hb (fun j hj=>by rw [hm] at hj;simp [List.mem_range'] at hj;omega),hm,List.range'_concat];simp [j5]
def yW (c:Nat):List Int:=(List.range' 2 (c-2)).map fun (i:Nat)=>(i:Int)
def qN (c:Nat):Int:=if c<=1 then -1 else 1
theorem mW.stop (x:mW h0 h own0 own b hr hs rs sl rp c2 ip (yW n) (qN n)) (h1:1<=n) (hM:n<b.M) (hb:b.M<=128):∃ v h' own',run T 53 [.ptr b.ii 0,iQ (n:Int)] h=some (v,h')/\mW h0 h' own0 own' b hr hs rs sl rp c2 ip (yW (n+1)) (qN (n+1)):=by
 have ⟨FT,wz,v,hm,c⟩:=x.idle;by_cases hn:n=1
 . subst hn;have ⟨h1,e1,v1,k1⟩:=stop_first (m:=1) v (by simp [yW]) (by omega) (by omega) (by simp [yW]);exact ⟨_,h1,_,e1,x.ie v c v1 hm k1 (fun t ht=>dc ht)⟩
 . have hq:qN n=1:=by simp [qN];omega
   have hq2:qN (n+1)=1:=by simp [qN];omega
   rw [hq] at v;have hnot:(n:Int)∉yW n:=by simp only [yW,gk,List.mem_range'_1];rintro ⟨z,hz,e⟩;omega
   have hl:(yW n).length<=999999:=by simp [yW];omega
   have ⟨h1,FT',e1,v1,k1,f1⟩:=stop_more (m:=(n:Int)) v hl (by omega) (by omega) (by omega) hnot (by omega);have hms:yW n++[(n:Int)]=yW (n+1):=by
    obtain ⟨j,rfl⟩:∃ j,n=j+2:=⟨n-2,by omega⟩
    simp only [yW];rw [show j+2+1-2=j+1 by omega,show j+2-2=j by omega,List.range'_concat,oP];simp [j5]
   rw [hms] at v1;rw [hq2];exact ⟨_,h1,_,e1,x.ie (by rw [hq];exact v) c v1 hm k1 f1⟩
end
end
section
set_option maxHeartbeats 2000000
variable {rp:List Nat}
structure dL (h:AHeap):Prop where
 pl:nM h
 al:sY h
 nx:mS h
 db:h.get 3=some (.cells true og none)
theorem dL.keep {h h':AHeap} {G:List Nat} (x:dL h) (k:Keep G h h') (lo:∀ t∈G,11<=t):dL h':=by
 have hl:∀ t∈G,t≠1/\t≠2/\t≠3:=fun t ht=>by have:=lo t ht;omega
 exact ⟨k.obj x.pl fun hm=>(hl 1 hm).1 rfl,k.obj x.al fun hm=>(hl 2 hm).2.1 rfl,x.nx.keep k lo,k.obj x.db fun hm=>(hl 3 hm).2.2 rfl⟩
section
variable {b:Bl} {rs sl u:AV}
@[simp] theorem Ur:(fC b rs sl).length=16:=rfl
@[simp] theorem Uq:((fC b rs sl).drop 6).take 2=[iQ (b.w.tb:Int),iQ (b.G:Int)]:=rfl
theorem G6:(fC b rs sl).set 8 u=fC b u sl:=rfl
theorem EK:(fC b rs sl).set 13 u=fC b rs u:=rfl
@[simp] theorem Yf:(fC b rs sl)[0]?=some (iQ (b.P:Int)):=rfl
@[simp] theorem Ye:(fC b rs sl)[1]?=some (iQ (b.M:Int)):=rfl
@[simp] theorem Yd:(fC b rs sl)[2]?=some (iQ (b.G:Int)):=rfl
@[simp] theorem Yc:(fC b rs sl)[3]?=some (.ptr b.mi 0):=rfl
@[simp] theorem Yb:(fC b rs sl)[8]?=some rs:=rfl
@[simp] theorem Ya:(fC b rs sl)[9]?=some (.slice b.to 0 b.P (.exact b.P)):=rfl
@[simp] theorem Vc:(fC b rs sl)[10]?=some (.ptr b.gi 0):=rfl
@[simp] theorem Vb:(fC b rs sl)[11]?=some (.ptr b.si 0):=rfl
@[simp] theorem Va:(fC b rs sl)[12]?=some (.ptr b.ii 0):=rfl
@[simp] theorem U9:(fC b rs sl)[13]?=some sl:=rfl
@[simp] theorem U8:(fC b rs sl)[14]?=some (.slice b.fo 0 b.M (.exact b.M)):=rfl
@[simp] theorem U7:(fC b rs sl)[15]?=some .nilslice:=rfl
end
def aat (h0:AHeap) (own0:Nat->Nat) (b:Bl) (bx:Nat) (n:Nat) (fr:FF) (g:AHeap):Prop:=∃ (c:Nat) (own:Nat->Nat) (rs:AV) (rp:List Nat),c+n=b.P/\mW h0 g own0 own b rs .nilslice rs .nilslice rp 0 (List.range' 1 (c-1)) [] (-1)/\rp.length=c/\fr.get 4=.ptr b.a 0/\fr.get 1=.ptr bx 0/\fr.get 68=.int .i64 (b.P:Int)/\fr.get 69=.int .i64 (c:Int)
def aas (h0:AHeap) (own0:Nat->Nat) (b:Bl) (rs:AV) (rp:List Nat) (n:Nat) (fr:FF) (g:AHeap):Prop:=∃ (c:Nat) (own:Nat->Nat) (sl:AV),c+n=b.M/\mW h0 g own0 own b rs sl rs sl rp c (List.range' 1 (b.P-1)) (yW c) (qN c)/\fr.get 4=.ptr b.a 0/\fr.get 92=.int .i64 (b.M:Int)/\fr.get 93=.int .i64 (c:Int)
section
variable {h0 h g:AHeap} {own0 own:Nat->Nat} {b:Bl} {P M G:Nat}
theorem DY:∀ {c i k:Nat},i<c->k<18->(qy c)[i*18+k]?=(gD freshM .nilslice)[k]?
 | c+1,i,k,hi,hk=>by
  simp [qy];by_cases h:i<c
  . rw [ay (by rw [ly];omega)];exact DY h hk
  . have:i=c:=by omega
    subst this;rw [aB (by rw [ly];omega),ly];congr 1;omega
theorem Ss {F:List Nat} {u:AV} {c:Nat} (w:Vec h 18 (qy c) F u) (hb:c<=1000):∃ s' h' F',dT (h.push (Qc (gD freshM .nilslice) none)) 18 152 u (.slice h.size 0 1 (.exact 1))=some (s',h')/\Vec h' 18 (qy (c+1)) F' s'/\Keep F h h'/\∀ t∈F',t∈F\/h.size<=t:=by
 have hv:dz (h.push (Qc (gD freshM .nilslice) none)) 18 (gD freshM .nilslice) [h.size] (.slice h.size 0 1 (.exact 1)):=(Vec.new (m:=1) ak rfl).view;have hf:=hv.first (n:=1) (by simp [gD]) (by omega)
 have ⟨s',h',F',e',v',k',f'⟩:=(w.keep (Keep.push (F:=[])) (by simp)).append (by omega) (bytes:=152) (ly c) (x:=.slice h.size 0 1 (.exact 1)) (m:=1) rfl hf (vX rfl) rfl (by simp [bigA];omega) (by simp [bigA];omega);refine ⟨s',h',F',e',v',(Keep.push (F:=F)).trans' k',fun t ht=>?_⟩;rcases f' t ht with h1 | h1
 . exact dc h1
 . simp at h1;exact dx (by omega)
def startW (P M G:Nat):W:={P:=P,M:=M,G:=G,ws:=List.replicate (2*P+5+M+G) 0,rings:=List.replicate P pk,turns:=List.replicate P 0,gl:=[],ip:=List.range' 1 (P-1),pend:=[],ms:=yW M,q:=qN M,all:=List.replicate M freshM,flag:=List.replicate M false,lg:=0}
theorem mW.kept {rs sl hr hs:AV} {c2:Nat} {ip:List Nat} {ms:List Int} {q:Int} (x:mW h0 g own0 own b hr hs rs sl rp c2 ip ms q) {t:Nat} (ht:t<h0.size) (ho:own0 t≠1/\own0 t≠3/\own0 t≠6/\own0 t≠7):g.get t=h0.get t:=by have ⟨K,k,hK⟩:=x.keep;refine k.get t ht fun hm=>?_;have:=hK t hm ht;omega
theorem mW.done {rs sl:AV} {X:List Nat} (x:mW h0 g own0 own b rs sl rs sl rp b.M (List.range' 1 (b.P-1)) (yW b.M) (qN b.M)) (hrl:rp.length=b.P) (gl:dL g) (hP:1<=b.P/\b.P<=64) (hM:b.P<=b.M/\b.M<=128) (hG:1<=b.G/\b.G<=4096)
 (low:∀ t<11,own t=0) (out:∀ t∈X,t<g.size/\own t=0) (cm:own b.mi=2/\own b.mj=2) (mm:MemAt g b.mi b.mj (List.replicate (2*b.P+5+b.M+b.G) 0) 0) (c4:own b.to=4) (ht:g.get b.to=some (Qc (List.replicate b.P (iQ 0)) none)) (c5:own b.gi=5) (bg:cY g b.gi [] [] [iQ (b.P:Int)]) (c9:own b.fo=9) (hf:g.get b.fo=some (Qc (List.replicate b.M (.bool false)) none)) :
 ∃ S:jb,S.a=b.a/\sl=.slice S.ao S.ab b.M S.ac/\eR g S (startW b.P b.M b.G) X own:=by
 have ⟨F,v,cF⟩:=x.rsv;have ⟨F2,v2,cF2⟩:=x.asv;have ⟨ca,room,hd⟩:=x.head;obtain ⟨ro,rso,hrs⟩:∃ ro,(∃ o n c,rs=.slice ro o n c)/\F=[ro]:=by
  cases v with
  | nil e=>simp at e;rw [e] at hrl;simp at hrl;omega
  | @mk j o n c body r1 get le at_ cap=>exact ⟨j,⟨o,n,c,rfl⟩,rfl⟩
 have hl2:=ly b.M;cases v2 with
 | nil e=>rw [e] at hl2;simp at hl2;omega
 | @mk j o n c body r1 get le at_ cap=>
  have hn:n=b.M:=by have:=congrArg List.length at_;rw [hl2] at this;simp at this;omega
  subst hn;refine ⟨⟨b.a,b.mi,b.mj,ro,rs,rp,b.to,b.gi,b.si,b.ii,j,o,c,b.fo⟩,rfl,rfl,⟨⟨hP,hM,hG,by simp [startW]⟩,gl.pl,gl.al,gl.nx,gl.db,low,out,⟨.nilslice,[],⟨room,hd⟩,⟨[],rfl,.nil rfl⟩,by simp,ca,by simp⟩,⟨cm.1,cm.2,0,mm⟩,⟨cF ro (by simp [hrs]),by rw [<- hrs];exact v.view,hrl,by simp [startW]⟩,fun k r hk=>?_,⟨c4,by simp [startW],none,by simpa [startW,intsA] using ht⟩,⟨[],bg,by simpa using c5⟩,x.idle,⟨cF2 j (by simp),body,⟨r1,get⟩,by simp [startW],fun i m hi=>?_,cap.within⟩,⟨c9,by simp [startW],none,by simpa [startW,boolsA] using hf⟩⟩⟩
  . have hk:(List.replicate b.P pk)[k]?=some r:=hk;have hkl:k<b.P:=by simpa using (aa.1 hk).1
    rw [bS,if_pos hkl] at hk;cases hk;have hk2:rp[k]?=some rp[k]:=ah (by omega);exact ⟨rp[k],hk2,x.ring k _ hk2⟩
  . have hi:(List.replicate b.M freshM)[i]?=some m:=hi;have hil:i<b.M:=by simpa using (aa.1 hi).1
    rw [bS,if_pos hil] at hi;cases hi;refine ⟨.nilslice,[],⟨by show o+i*18+18<=body.length;omega,fun k hk=>?_⟩,.nil rfl,by simp⟩;show body[o+i*18+k]?=_;rw [<- DY hil hk,at_,aI (by omega),aN];congr 1;omega
def kL (P M G:Nat):W:={startW P M G with ws:=(List.replicate (2*P+5+M+G) 0).set (2*P+5+M) 1,all:=(List.replicate M freshM).set 0 {freshM with pl:=1,p:=0},lg:=1,gl:=[0]}
end
end
section
abbrev En:=Int×Int×Int
def entA (e:En):List AV:=[.int .i64 e.1,.int .u64 e.2.1,.int .i64 e.2.2]
def fD (l:List En):List AV:=l.flatMap entA
@[simp] theorem Uu:fD []=[]:=rfl
theorem jf (e:En) (l:List En):fD (e::l)=entA e++fD l:=rfl
@[simp] theorem nG (l:List En):(fD l).length=l.length*3:=by
 induction l with
 | nil=>rfl
 | cons e l ih=>rw [jf,aM,ih];simp [entA];omega
theorem sH (l m:List En):fD (l++m)=fD l++fD m:=by simp [fD]
theorem Ba:∀ {l:List En} {k:Nat} {e:En},l[k]?=some e->((fD l).drop (k*3)).take 3=entA e
 | [],k,e,h=>by simp at h
 | x::l,0,e,h=>by simp at h;subst h;rw [jf,HI,dN,List.take_append_of_le_length (by simp [entA]),aW (by simp [entA])]
 | x::l,k+1,e,h=>by
  rw [jf];have:(k+1)*3=(entA x).length+k*3:=by simp [entA];omega
  rw [this,<- mu,List.drop_left];exact Ba (by simpa using h)
theorem Hf (l:List En) (k:Nat):(fD l).drop (k*3)=fD (l.drop k):=by
 induction k generalizing l with
 | zero=>simp
 | succ k ih=>
  cases l with
  | nil=>simp
  | cons x l=>
   rw [jf];have:(k+1)*3=(entA x).length+k*3:=by simp [entA];omega
   rw [this,<- mu,List.drop_left,ih];rfl
theorem yu (l:List En) (k:Nat):(fD l).take (k*3)=fD (l.take k):=by
 induction k generalizing l with
 | zero=>simp
 | succ k ih=>
  cases l with
  | nil=>simp
  | cons x l=>
   rw [jf];have:(k+1)*3=(entA x).length+k*3:=by simp [entA];omega
   rw [this,List.take_append,Nat.add_sub_cancel_left,ih,aW (by omega)];rfl
theorem KL (l:List En) (k:Nat) (e:En) (hk:k<l.length):splice (fD l) (k*3) (entA e)=fD (l.set k e):=by
 have h1:l.set k e=l.take k++e::l.drop (k+1):=List.set_eq_take_append_cons_drop.trans (by rw [if_pos hk]);rw [h1,sH,jf];unfold splice;have h2:k*3+(entA e).length=(k+1)*3:=by simp [entA];omega
 rw [h2,yu,Hf]
theorem gS (e:En):(entA e).all AV.one=true:=by simp [entA]
theorem KN (l:List En):(fD l).all AV.one=true:=by
 induction l with
 | nil=>rfl
 | cons e l ih=>rw [jf,List.all_append,ih,gS];rfl
def l8 (a b:En):Bool:=decide (a.1<b.1) || (decide (a.1=b.1) && (decide (a.2.1<b.2.1) || (decide (a.2.1=b.2.1) && decide (a.2.2<b.2.2))))
theorem yD {a b:En} (h:l8 a b=true):a.1<=b.1:=by simp [l8,cw,aA,decide_eq_true_eq] at h;omega
theorem yV {a b:En} (h:l8 a b=false):b.1<=a.1:=by simp [l8,hH,Bool.and_eq_false_iff,decide_eq_false_iff_not] at h;omega
section
variable {h h':AHeap} {size:Nat} {cs:List AV} {F G:List Nat} {s:AV}
theorem Vec.T4 (v:Vec h size cs F s) (hs:0<size) {k:Nat} (hk:(k+1)*size<=cs.length) {xs:List AV} (hx:xs.length=size) (ho:xs.all AV.one=true) :
 ∃ j o h',idxAddrV size none s (iQ k)=some (.ptr j o)/\F=[j]/\writeOf h j (h.get j) o xs=some h'/\Vec h' size (splice cs (k*size) xs) F s/\Keep F h h':=by
 cases v with
 | nil e=>subst e;rw [dy] at hk;simp at hk;omega
 | @mk j o n c body room get le at_ cap=>
  have hk':=hk;rw [at_,dZ,eg,kQ (by omega)] at hk;have hkn:k+1<=n:=jI hk hs;have h1:k*size+size<=n*size:=by rw [<- dy];exact hk
  have hlb:(splice body (o+k*size) xs).length=body.length:=by simp [splice];omega
  refine ⟨j,o+k*size,h.put j (Qc (splice body (o+k*size) xs) room),?_,rfl,?_,?_,Keep.put (by simp)⟩
  . simp only [idxAddrV];rw [pQ];simp
  . simp only [get,writeOf_some];rw [if_pos ⟨by omega,ho⟩]
  . refine .mk (by rw [get_put_same,get];rfl) (by omega) ?_ ?_
    . subst at_;apply dt;intro t;have sp:∀ (l:List AV) (p:Nat),p+xs.length<=l.length->∀ t,(splice l p xs)[t]?=if t<p then l[t]? else if t<p+xs.length then xs[t-p]? else l[t]?:=by
       intro l p hp t;unfold splice;by_cases h2:t<p
       . rw [if_pos h2,ay (by simp;omega),aI h2]
       . rw [if_neg h2];by_cases h3:t<p+xs.length
         . rw [if_pos h3,aB (by simp;omega),ay (by simp;omega)];congr 1;simp;omega
         . rw [if_neg h3,aB (by simp;omega),aB (by simp;omega),aN];congr 1;simp;omega
      rw [sp _ _ (by rw [dZ,eg,hx];omega)];by_cases ht:t<n*size
      . rw [aI ht,aN,aI ht,aN,sp body (o+k*size) (by omega)];by_cases h2:t<k*size
        . rw [if_pos h2,if_pos (show o+t<o+k*size by omega)]
        . rw [if_neg h2,if_neg (show ¬ o+t<o+k*size by omega)];by_cases h3:t<k*size+xs.length
          . rw [if_pos h3,if_pos (show o+t<o+k*size+xs.length by omega)];congr 1;omega
          . rw [if_neg h3,if_neg (show ¬ o+t<o+k*size+xs.length by omega)]
      . have e1:(List.take (n*size) (List.drop o (splice body (o+k*size) xs)))[t]?=none:=by rw [cv,if_neg ht]
        have e2:(List.take (n*size) (List.drop o body))[t]?=none:=by rw [cv,if_neg ht]
        rw [e1,if_neg (by omega),if_neg (by omega),e2]
    . cases c with
      | exact m=>exact ⟨cap.1,by rw [hlb];exact cap.2⟩
      | loose q d=>obtain ⟨h1,h2,lb,h3,h4,h5⟩:=cap;exact ⟨h1,h2,lb,h3,by rw [hlb];exact h4,h5⟩
end
structure HpAt (h:AHeap) (q o:Nat) (l:List En) (F:List Nat):Prop where
 at_:∃ u room cs,h.get q=some (.cells false cs room)/\cs[o]?=some u/\Vec h 3 (fD l) F u
 ni:q∉F
end
section
variable {u:AV} {k:Nat}
def kO (a b:Int):Int:=if a<b then -1 else if b<a then 1 else 0
section
variable {h h':AHeap}
theorem Ck (h:AHeap) (x:Int):run T 198 [iQ x] h=some (.bool false,h):=by refine run_eq Wu ?_;simp [Ti]
theorem Ci (h:AHeap) (x:Int):run T 199 [uQ x] h=some (.bool false,h):=by refine run_eq Wt ?_;simp [Th]
theorem Cj (h:AHeap) (x:Int):run T 200 [iQ x] h=some (.bool false,h):=by refine run_eq Ws ?_;simp [Tg]
theorem PO (h:AHeap) (x y:Int):run T 186 [iQ x,iQ y] h=some (iQ (kO x y),h):=by
 refine run_eq WD ?_;by_cases h1:x<y
 . simp [N3,Ck,h1,kO]
 . by_cases h2:y<x
   . simp [N3,Ck,h1,h2,kO]
   . simp [N3,Ck,h1,h2,kO]
theorem PM (h:AHeap) (x y:Int):run T 187 [uQ x,uQ y] h=some (iQ (kO x y),h):=by
 refine run_eq WC ?_;by_cases h1:x<y
 . simp [N2,Ci,h1,kO]
 . by_cases h2:y<x
   . simp [N2,Ci,h1,h2,kO]
   . simp [N2,Ci,h1,h2,kO]
theorem PN (h:AHeap) (x y:Int):run T 188 [iQ x,iQ y] h=some (iQ (kO x y),h):=by
 refine run_eq WB ?_;by_cases h1:x<y
 . simp [N1,Cj,h1,kO]
 . by_cases h2:y<x
   . simp [N1,Cj,h1,h2,kO]
   . simp [N1,Cj,h1,h2,kO]
def Ui (x y z:Int):Int:=if x≠0 then x else if y≠0 then y else z
def OrI (h:AHeap) (j:Nat) (x y z:Int) (n:Nat) (fr:FF) (g:AHeap):Prop:=∃ c:Nat,c+n=3/\g=h/\(0<c->x=0)/\(1<c->y=0)/\(2<c->z=0)/\fr.get 3=.int .i64 0/\fr.get 6=.slice j 0 3 (.exact 3)/\fr.get 7=.int .i64 3/\fr.get 8=.int .i64 c
theorem UX {j:Nat} {x y z:Int} {room:Option (Nat×Nat)} (hj:h.get j=some (Qc [iQ x,iQ y,iQ z] room)):run T 185 [.slice j 0 3 (.exact 3)] h=some (iQ (Ui x y z),h):=by
 suffices hw:∃ v' h',run T 185 [.slice j 0 3 (.exact 3)] h=some (v',h')/\v'=iQ (Ui x y z)/\h'=h by obtain ⟨v',h',e,rfl,rfl⟩:=hw;exact e
 refine dQ WE ?_;simp [To];refine Wp.loop (OrI h j x y z) 3 lQ ?_ ?_
 . exact ⟨0,by omega,rfl,by omega,by omega,by omega,by simp⟩
 rintro n fr g ⟨c,hc,rfl,hx,hy,hz,s3,s6,s7,s8⟩;by_cases h3:c=3
 . subst h3;have x0:=hx (by omega);have y0:=hy (by omega);have z0:=hz (by omega);simp [s3,s7,s8,Ui,x0,y0,z0]
 . have hlt:(c:Int)<3:=by omega
   have hi:idxAddrV 1 none (.slice j 0 3 (.exact 3)) (iQ (c:Int))=some (.ptr j c):=by simp [idxAddrV];omega
   obtain ⟨u,hu,u0,u1,u2⟩:∃ u:Int,gw (g.get j) c=some (iQ u)/\(c=0->u=x)/\(c=1->u=y)/\(c=2->u=z):=by
    rw [hj];obtain rfl | rfl | rfl:c=0\/c=1\/c=2:=by omega
    . exact ⟨x,rfl,fun _=>rfl,by omega,by omega⟩
    . exact ⟨y,rfl,by omega,fun _=>rfl,by omega⟩
    . exact ⟨z,rfl,by omega,by omega,fun _=>rfl⟩
   by_cases e:u=0
   . rw [e] at hu;simp [s3,s6,s7,s8,hlt,hi,hu];exact ⟨n-1,by omega,c+1,by omega,rfl,by omega,by omega,by omega,by simp [s3,s6,s7,wrap_nat (c:=c) (by omega)]⟩
   . simp [s3,s6,s7,s8,hlt,hi,hu,e];unfold Ui;obtain rfl | rfl | rfl:c=0\/c=1\/c=2:=by omega
     . obtain rfl:=u0 rfl;rw [if_pos e]
     . obtain rfl:=u1 rfl;rw [if_neg (by simp [hx (by omega)]),if_pos e]
     . obtain rfl:=u2 rfl;rw [if_neg (by simp [hx (by omega)]),if_neg (by simp [hy (by omega)])]
def Pa (a b:En):Int:=Ui (kO a.1 b.1) (kO a.2.1 b.2.1) (kO a.2.2 b.2.2)
theorem Gw (a b:En):decide (Pa a b<0)=l8 a b:=by
 simp [Pa,Ui,kO,l8];by_cases h1:a.1<b.1
 . simp [h1]
 by_cases h2:b.1<a.1
 . simp [h1,h2,show ¬ a.1=b.1 by omega]
 have e1:a.1=b.1:=by omega
 by_cases h3:a.2.1<b.2.1
 . simp [e1,h3]
 by_cases h4:b.2.1<a.2.1
 . simp [e1,h3,h4,show ¬ a.2.1=b.2.1 by omega]
 have e2:a.2.1=b.2.1:=by omega
 by_cases h5:a.2.2<b.2.2
 . simp [e1,e2,h5]
 . by_cases h6:b.2.2<a.2.2<;>simp [e1,e2,h5,h6]
theorem Mz (h:AHeap) (a b:En):∃ h',run T 165 [.agg (entA a),.agg (entA b)] h=some (iQ (Pa a b),h')/\Keep [] h h':=by
 obtain ⟨h2,hh2⟩:∃ h2,h2=(h.push (Qc (entA a) none)).push (Qc (entA b) none):=⟨_,rfl⟩
 have g1:h2.get h.size=some (Qc (entA a) none):=by rw [hh2];exact aJ ak
 have g2:h2.get (h.size+1)=some (Qc (entA b) none):=by rw [hh2,nz,if_pos (by simp)]
 have k2:Keep [] h h2:=by rw [hh2];exact Keep.push.trans' Keep.push
 have g3:(h2.push (Qc [iQ (kO a.1 b.1),iQ (kO a.2.1 b.2.1),iQ (kO a.2.2 b.2.2)] none)).get h2.size=some (Qc [iQ (kO a.1 b.1),iQ (kO a.2.1 b.2.1),iQ (kO a.2.2 b.2.2)] none):=ak;have e3:=UX g3;refine ⟨h2.push (Qc [iQ (kO a.1 b.1),iQ (kO a.2.1 b.2.1),iQ (kO a.2.2 b.2.2)] none),run_eq WU ?_,k2.trans' Keep.push⟩;have a0:gw (h2.get h.size) 0=some (iQ a.1):=by rw [g1];rfl
 have a1:gw (h2.get h.size) 1=some (uQ a.2.1):=by rw [g1];rfl
 have a2:gw (h2.get h.size) 2=some (iQ a.2.2):=by rw [g1];rfl
 have b0:gw (h2.get (h.size+1)) 0=some (iQ b.1):=by rw [g2];rfl
 have b1:gw (h2.get (h.size+1)) 1=some (uQ b.2.1):=by rw [g2];rfl
 have b2:gw (h2.get (h.size+1)) 2=some (iQ b.2.2):=by rw [g2];rfl
 simp [TA,<- hh2,a0,a1,a2,b0,b1,b2,PO,PM,PN,e3,Pa]
theorem qd (h:AHeap) (a b:En):∃ h',run T 133 [.agg (entA a),.agg (entA b)] h=some (.bool (l8 a b),h')/\Keep [] h h':=by
 obtain ⟨h2,hh2⟩:∃ h2,h2=(h.push (Qc (entA a) none)).push (Qc (entA b) none):=⟨_,rfl⟩
 have g1:h2.get h.size=some (Qc (entA a) none):=by rw [hh2];exact aJ ak
 have g2:h2.get (h.size+1)=some (Qc (entA b) none):=by rw [hh2,nz,if_pos (by simp)]
 have k2:Keep [] h h2:=by rw [hh2];exact Keep.push.trans' Keep.push
 have ⟨h3,e3,k3⟩:=Mz h2 a b;refine ⟨h3,run_eq Xg ?_,k2.trans' k3⟩;have c1:cellsOf (h2.get h.size) 0 3=some (entA a):=by rw [g1];rfl
 have c2:cellsOf (h2.get (h.size+1)) 0 3=some (entA b):=by rw [g2];rfl
 simp [TM,<- hh2,c1,c2,e3,<- Gw]
end
@[simp] theorem Vg (e:En):(entA e).length=3:=rfl
section
variable {h h':AHeap} {q o:Nat} {l:List En} {F G:List Nat}
theorem HpAt.keep (x:HpAt h q o l F) (k:Keep G h h') (hq:q∉G) (hF:∀ t∈F,t∉G):HpAt h' q o l F:=by have ⟨⟨u,room,cs,h1,h2,h3⟩,ni⟩:=x;exact ⟨⟨u,room,cs,k.obj h1 hq,h2,h3.keep k hF⟩,ni⟩
theorem HpAt.still (x:HpAt h q o l F) (k:Keep [] h h'):HpAt h' q o l F:=x.keep k (by simp) (by simp)
theorem HpAt.len (v:Vec h 3 (fD l) F u):u.gP=some l.length:=by have:=v.view.len (by omega);rw [this];simp
theorem HpAt.row (v:Vec h 3 (fD l) F u) {e:En} (hk:l[k]?=some e):∃ j a,idxAddrV 3 none u (iQ (k:Int))=some (.ptr j a)/\F=[j]/\cellsOf (h.get j) a 3=some (entA e):=by have hl:=(aa.1 hk).1;have ⟨j,a,h1,h2,h3⟩:=v.view.row (by omega) (k:=k) (by simp;omega);exact ⟨j,a,h1,h2,by rw [h3,Ba hk]⟩
theorem HpAt.store (v:Vec h 3 (fD l) F u) (hk:k<l.length) (e:En):∃ j a h',idxAddrV 3 none u (iQ (k:Int))=some (.ptr j a)/\F=[j]/\writeOf h j (h.get j) a (entA e)=some h'/\Vec h' 3 (fD (l.set k e)) F u/\Keep F h h':=by have ⟨j,a,h',h1,h2,h3,h4,h5⟩:=v.T4 (by omega) (k:=k) (xs:=entA e) (by simp;omega) rfl (gS e);rw [KL l k e hk] at h4;exact ⟨j,a,h',h1,h2,h3,h4,h5⟩
theorem kV {n:Nat} {x:AV} {j2 b2 j3 b3:Nat} (e:idxAddrV n none u x=some (.ptr j2 b2)) (f:idxAddrV n none u x=some (.ptr j3 b3)):j2=j3/\b2=b3:=by rw [e] at f;simpa using f
def Gj (l' l:List En):Prop:=∀ a b,l'[0]?=some a->l[0]?=some b->a.1<=b.1
def VL (h:AHeap) (q o:Nat) (l:List En) (F:List Nat) (n:Nat) (fr:FF) (g:AHeap):Prop:=∃ l':List En,HpAt g q o l' F/\Keep F h g/\l'.Perm l/\Gj l' l/\n<l'.length/\fr.get 0=.ptr q o/\fr.get 1=.int .i64 n
theorem UN (x:HpAt h q o l F) {i:Nat} (hi:i<l.length) (hb:l.length<=1000000):∃ h' l',run T 211 [.ptr q o,iQ (i:Int)] h=some (.tuple [],h')/\HpAt h' q o l' F/\l'.Perm l/\Gj l' l/\Keep F h h':=by
 suffices hw:∃ v' h',run T 211 [.ptr q o,iQ (i:Int)] h=some (v',h')/\∃ l',v'=.tuple []/\HpAt h' q o l' F/\l'.Perm l/\Gj l' l/\Keep F h h' by
  obtain ⟨v',h',e,l',rfl,h1⟩:=hw;exact ⟨h',l',e,h1⟩
 refine dQ Wi ?_;simp [S8];refine Wp.loop (VL h q o l F) i lQ ?_ ?_
 . exact ⟨l,x,Keep.refl,List.Perm.refl _,fun a b h1 h2=>by rw [h1] at h2;cases h2;omega,hi,by simp⟩
 rintro n fr g ⟨l',y,k,hp,hr,hn,s0,s1⟩;have hpl:=hp.length_eq;by_cases h0:n=0
 . subst h0;simp [s1];exact ⟨l',y,hp,hr,k⟩
 have ni:=y.ni;have ⟨⟨u,room,cs,h1,h2,v⟩,_⟩:=y;have hgt:(0:Int)<n:=by omega
 have e1:wQ ((n:Int)-1)=((n-1:Nat):Int):=zQ
 have e2:Int.tdiv ((n-1:Nat):Int) 4=(((n-1) / 4:Nat):Int):=(mw (n-1) 4).symm;obtain ⟨p,hpp⟩:∃ p,p=(n-1) / 4:=⟨_,rfl⟩
 rw [<- hpp] at e2;have hpn:p<n:=by omega
 have e3:wQ (p:Int)=(p:Int):=rQ;obtain ⟨a,ha⟩:∃ a,l'[n]?=some a:=⟨_,ah hn⟩
 obtain ⟨b,hb'⟩:∃ b,l'[p]?=some b:=⟨_,ah (by omega)⟩
 obtain ⟨j,a1,i1,rfl,c1⟩:=HpAt.row v ha
 have ⟨j',a2,i2,hj,c2⟩:=HpAt.row v hb'
 obtain rfl:j=j':=by simpa using hj
 have ⟨g1,e4,k1⟩:=qd g a b
 have v1:=v.keep k1 (by simp)
 have q1:=k1.obj h1 (by simp)
 have hgn:0<n:=by omega
 have ⟨_,_,i1',_,c1'⟩:=HpAt.row v1 ha
 obtain ⟨rfl,rfl⟩:=kV i1 i1'
 have ⟨_,_,i2',_,c2'⟩:=HpAt.row v1 hb'
 obtain ⟨rfl,rfl⟩:=kV i2 i2'
 cases hah:l8 a b with
 | false=>
  rw [hah] at e4
  simp [s0,s1,hgn,e1,e2,e3,h1,h2,i1,i2,c1,c2,e4]
  exact ⟨l',⟨⟨u,room,cs,q1,h2,v1⟩,ni⟩,hp,hr,k.trans k1 (by simp)⟩
 | true=>
  rw [hah] at e4
  have ⟨j2,b1,g2,i3,hj2,w1,v2,k2⟩:=HpAt.store v1 hn b
  obtain ⟨rfl,rfl⟩:=kV i1 i3
  have q2:=k2.obj q1 (by simpa using ni)
  have ⟨j3,b2,g3,i4,hj3,w2,v3,k3⟩:=HpAt.store v2 (k:=p) (by simp;omega) a
  obtain ⟨rfl,rfl⟩:=kV i2 i4
  have q3:=k3.obj q2 (by simpa using ni)
  simp [s0,s1,hgn,e1,e2,e3,h1,h2,i1,i2,c1,c2,e4,q1,c1',c2',w1,w2,FF.putD]
  refine ⟨p,hpn,(l'.set n b).set p a,⟨⟨u,room,cs,q3,h2,v3⟩,ni⟩,((k.trans' (k1.mono (by simp))).trans' k2).trans' k3,?_,?_,by simp;omega,by simp [s0]⟩
  . have ea:a=l'[n]:=by rw [ah hn] at ha;exact (aw ha).symm
    have eb:b=l'[p]'(by omega):=by rw [ah (by omega)] at hb';exact (aw hb').symm
    rw [ea,eb]
    exact (List.set_set_perm _ _).trans hp
  . intro x y hx hy
    by_cases hp0:p=0
    . subst hp0
      rw [ax (by simp;omega)] at hx
      obtain rfl:=aw hx
      have:=yD hah
      have:=hr b y hb' hy
      omega
    . rw [aj (by omega),aj (by omega)] at hx
      exact hr x y hx hy
end
end
section
variable {h h':AHeap} {q o:Nat} {l:List En} {F G:List Nat} {e:En}
def SJ (h:AHeap) (q o:Nat) (l:List En) (F:List Nat) (f N:Nat) (n:Nat) (fr:FF) (g:AHeap):Prop:=∃ c b:Nat,c+n=N/\HpAt g q o l F/\Keep [] h g/\f<=c/\f<=b/\b<l.length/\fr.get 0=.ptr q o/\fr.get 5=.int .i64 f/\fr.get 6=.int .i64 b/\fr.get 7=.int .i64 c
theorem MT (x:HpAt h q o l F) {i:Nat} (hi:4*i+1<l.length) (hb:l.length<=1000000):∃ h' k,run T 207 [.ptr q o,iQ (i:Int)] h=some (iQ (k:Nat),h')/\4*i+1<=k/\k<l.length/\Keep [] h h':=by
 suffices hw:∃ v' h',run T 207 [.ptr q o,iQ (i:Int)] h=some (v',h')/\∃ k:Nat,v'=iQ k/\4*i+1<=k/\k<l.length/\Keep [] h h' by obtain ⟨v',h',e,k,rfl,h1⟩:=hw;exact ⟨h',k,e,h1⟩
 refine dQ Wm ?_;have e1:wQ (4*(i:Int))=4*(i:Int):=rQ;have e2:wQ (4*(i:Int)+1)=((4*i+1:Nat):Int):=zQ
 simp [Tb,e1,e2];obtain ⟨f,hf⟩:∃ f,f=4*i+1:=⟨_,rfl⟩
 obtain ⟨N,hN⟩:∃ N,N=min (f+4) l.length:=⟨_,rfl⟩
 refine Wp.loop (SJ h q o l F f N) (N-f) lQ ?_ ?_
 . refine ⟨f,f,by omega,x,Keep.refl,by omega,by omega,by omega,?_⟩;simp [hf]
 rintro n fr g ⟨c,b,hc,y,k,hfc,hfb,hbl,s0,s5,s6,s7⟩;have ⟨⟨u,room,cs,h1,h2,v⟩,ni⟩:=y;have hlen:=HpAt.len v;have e3:wQ ((f:Int)+4)=(f:Int)+4:=rQ;have e4:min ((f:Int)+4) (l.length:Int)=(N:Int):=by omega
 by_cases hmore:c<N
 . have hm:(c:Int)<(N:Int):=by omega
   obtain ⟨a,ha⟩:∃ a,l[c]?=some a:=⟨_,ah (by omega)⟩
   obtain ⟨z,hz⟩:∃ z,l[b]?=some z:=⟨_,ah hbl⟩
   have ⟨j,a1,i1,_,c1⟩:=HpAt.row v ha;have ⟨j',a2,i2,_,c2⟩:=HpAt.row v hz;have ⟨g1,e5,k1⟩:=qd g a z;have y1:HpAt g1 q o l F:=HpAt.still ⟨⟨u,room,cs,h1,h2,v⟩,ni⟩ k1;cases hah:l8 a z with
   | false=>rw [hah] at e5;simp [s0,s5,s6,s7,e3,e4,hm,h1,h2,hlen,i1,i2,c1,c2,e5];exact ⟨n-1,by omega,c+1,b,by omega,y1,k.trans' k1,by omega,by omega,hbl,by simp [s0,s5,s6,wrap_nat (c:=c) (by omega)]⟩
   | true=>rw [hah] at e5;simp [s0,s5,s6,s7,e3,e4,hm,h1,h2,hlen,i1,i2,c1,c2,e5];exact ⟨n-1,by omega,c+1,c,by omega,y1,k.trans' k1,by omega,by omega,by omega,by simp [s0,s5,wrap_nat (c:=c) (by omega)]⟩
 . have hm:¬ (c:Int)<(N:Int):=by omega
   simp [s0,s5,s6,s7,e3,e4,hm,h1,h2,hlen];exact ⟨b,rfl,by omega,hbl,k⟩
def Fx (h:AHeap) (q o:Nat) (l:List En) (F:List Nat) (n:Nat) (fr:FF) (g:AHeap):Prop:=∃ (c:Nat) (l':List En),c+n=l.length/\HpAt g q o l' F/\Keep F h g/\l'.Perm l/\fr.get 0=.ptr q o/\fr.get 1=.int .i64 c
theorem PE (x:HpAt h q o l F) (hb:l.length<=1000000):∃ h' l',run T 202 [.ptr q o,iQ 0] h=some (.tuple [],h')/\HpAt h' q o l' F/\l'.Perm l/\Keep F h h':=by
 suffices hw:∃ v' h',run T 202 [.ptr q o,iQ 0] h=some (v',h')/\∃ l',v'=.tuple []/\HpAt h' q o l' F/\l'.Perm l/\Keep F h h' by
  obtain ⟨v',h',e,l',rfl,h1⟩:=hw;exact ⟨h',l',e,h1⟩
 refine dQ Wq ?_;simp [Te];refine Wp.loop (Fx h q o l F) l.length lQ ?_ ?_
 . exact ⟨0,l,by omega,x,Keep.refl,List.Perm.refl _,by simp⟩
 rintro n fr g ⟨c,l',hc,y,k,hp,s0,s1⟩;have hpl:=hp.length_eq;have y0:=y;have ⟨⟨u,room,cs,h1,h2,v⟩,ni⟩:=y;have hlen:=HpAt.len v;have e1:wQ (4*(c:Int))=4*(c:Int):=rQ;have e2:wQ (4*(c:Int)+1)=4*(c:Int)+1:=rQ;by_cases hmore:4*c+1<l'.length
 . have hm:4*(c:Int)+1<(l'.length:Int):=by omega
   have ⟨g1,b,e3,hb1,hb2,k1⟩:=MT y0 hmore (by omega);have v1:=v.keep k1 (by simp);have q1:=k1.obj h1 (by simp);obtain ⟨a,ha⟩:∃ a,l'[b]?=some a:=⟨_,ah hb2⟩
   obtain ⟨z,hz⟩:∃ z,l'[c]?=some z:=⟨_,ah (by omega)⟩
   obtain ⟨j,a1,i1,rfl,c1⟩:=HpAt.row v1 ha;have ⟨j',a2,i2,hj,c2⟩:=HpAt.row v1 hz;obtain rfl:j=j':=by simpa using hj
   have ⟨g2,e4,k2⟩:=qd g1 a z
   have v2:=v1.keep k2 (by simp)
   have q2:=k2.obj q1 (by simp)
   have ⟨_,_,i1',_,c1'⟩:=HpAt.row v2 ha
   obtain ⟨rfl,rfl⟩:=kV i1 i1'
   have ⟨_,_,i2',_,c2'⟩:=HpAt.row v2 hz
   obtain ⟨rfl,rfl⟩:=kV i2 i2'
   cases hah:l8 a z with
   | false=>
    rw [hah] at e4
    simp [s0,s1,e1,e2,hm,h1,h2,hlen,e3,q1,i1,i2,c1,c2,e4]
    exact ⟨l',⟨⟨u,room,cs,q2,h2,v2⟩,ni⟩,hp,(k.trans' (k1.mono (by simp))).trans' (k2.mono (by simp))⟩
   | true=>
    rw [hah] at e4
    have ⟨j2,b1,g3,i3,hj2,w1,v3,k3⟩:=HpAt.store v2 (k:=c) (by omega) a
    obtain ⟨rfl,rfl⟩:=kV i2 i3
    have q3:=k3.obj q2 (by simpa using ni)
    have ⟨j3,b2,g4,i4,hj3,w2,v4,k4⟩:=HpAt.store v3 (k:=b) (by simp;omega) z
    obtain ⟨rfl,rfl⟩:=kV i1 i4
    have q4:=k4.obj q3 (by simpa using ni)
    simp [s0,s1,e1,e2,hm,h1,h2,hlen,e3,q1,i1,i2,c1,c2,e4,q2,c1',c2',w1,w2]
    refine ⟨n-(b-c),by omega,b,(l'.set c a).set b z,by omega,⟨⟨u,room,cs,q4,h2,v4⟩,ni⟩,(((k.trans' (k1.mono (by simp))).trans' (k2.mono (by simp))).trans' k3).trans' k4,?_,by simp [s0]⟩
    have ea:a=l'[b]:=by rw [ah hb2] at ha;exact (aw ha).symm
    have ez:z=l'[c]'(by omega):=by rw [ah (by omega)] at hz;exact (aw hz).symm
    rw [ea,ez]
    exact (List.set_set_perm _ _).trans hp
 . have hm:¬ 4*(c:Int)+1<(l'.length:Int):=by omega
   simp [s0,s1,e1,e2,hm,h1,h2,hlen]
   exact ⟨l',y0,hp,k⟩
theorem ym (x:HpAt h q o l F):∃ h',run T 102 [.ptr q o] h=some (.tuple [.agg (match l with | e::_=>entA e | []=>entA (0,0,0)),.bool (decide (0<l.length))],h')/\Keep [] h h':=by
 have ⟨⟨u,room,cs,h1,h2,v⟩,ni⟩:=x;have hlen:=HpAt.len v;obtain ⟨h3,hh3⟩:∃ h3,h3=h.push (Qc (entA (0,0,0)) none):=⟨_,rfl⟩
 have kp:Keep [] h h3:=by rw [hh3];exact Keep.push
 have g1:h3.get q=some (Qc cs room):=kp.obj h1 (by simp);have g2:h3.get h.size=some (Qc (entA (0,0,0)) none):=by rw [hh3];exact ak
 have wz:∀ e:En,writeOf h3 h.size (h3.get h.size) 0 (entA e)=some (h3.put h.size (Qc (entA e) none)):=fun e=>by rw [g2,writeOf_some,if_pos ⟨by simp,gS e⟩];rfl
 have gz:∀ e:En,cellsOf (Option.map (fun _=>AObj.cells false (entA e) none) (h3.get h.size)) 0 3=some (entA e):=fun e=>by rw [g2];rfl
 have kz:∀ e:En,Keep [] h (h3.put h.size (Qc (entA e) none)):=fun e=>by rw [hh3];exact Keep.push.trans (Keep.put (F:=[h.size]) (by simp)) (by simp)
 have hz:([iQ 0,uQ 0,iQ 0]:List AV)=entA (0,0,0):=rfl;cases l with
 | nil=>refine ⟨_,run_eq T_102 ?_,kz (0,0,0)⟩;simp [F102,hz,<- hh3,g1,h2,hlen,wz,gz]
 | cons e l=>obtain ⟨j,a,i1,rfl,c1⟩:=HpAt.row v (k:=0) (e:=e) rfl;have v3:=v.keep kp (by simp);have ⟨_,_,i2,_,c2⟩:=HpAt.row v3 (k:=0) (e:=e) rfl;obtain ⟨rfl,rfl⟩:=kV i1 i2;have i1:idxAddrV 3 none u (iQ 0)=some (.ptr j a):=i1;refine ⟨_,run_eq T_102 ?_,kz e⟩;simp [F102,hz,<- hh3,g1,h2,hlen,wz,gz,i1,c2,show ¬ ((l.length:Int)+1=0) by omega]
theorem HpAt.write {u u':AV} {room:Option (Nat×Nat)} {cs:List AV} {l':List En} {F':List Nat} (h1:h.get q=some (Qc cs room)) (h2:cs[o]?=some u) (v':Vec h 3 (fD l') F' u') (ni:q∉F'):writeOf h q (h.get q) o [u']=some (h.put q (Qc (cs.set o u') room))/\HpAt (h.put q (Qc (cs.set o u') room)) q o l' F':=by
 have ho:=(aa.1 h2).1;have h1':u'.one=true:=by cases v'<;>rfl
 refine ⟨by rw [h1];exact wr1 ho h1',⟨⟨u',room,_,got h1,ax ho,v'.keep (Keep.put (F:=[q]) (by simp)) (fun t ht=>by simp;rintro rfl;exact ni ht)⟩,ni⟩⟩
theorem Sv {u:AV} (w:Vec h 3 (fD l) F u) (hb:l.length<=1000000) (e:En):∃ s' h' G',dT (h.push (Qc (entA e) none)) 3 24 u (.slice h.size 0 1 (.exact 1))=some (s',h')/\Vec h' 3 (fD (l++[e])) G' s'/\Keep F h h'/\∀ t∈G',t∈F\/h.size<=t:=by
 have hv:dz (h.push (Qc (entA e) none)) 3 (entA e) [h.size] (.slice h.size 0 1 (.exact 1)):=(Vec.new (m:=1) ak (by simp)).view;have hf:=hv.first (n:=1) (by simp) (by omega)
 have ⟨s',h',G',e',v',k',f'⟩:=(w.keep (Keep.push (F:=[])) (by simp)).append (by omega) (bytes:=24) (nG l) (x:=.slice h.size 0 1 (.exact 1)) (m:=1) rfl hf (by simp [entA]) (by simp) (by simp [bigA];omega) (by simp [bigA];omega);refine ⟨s',h',G',e',?_,(Keep.push (F:=F)).trans' k',fun t ht=>?_⟩
 . have:fD (l++[e])=fD l++(entA e).take (1*3):=by rw [sH];simp [fD,entA]
   rw [this];exact v'
 rcases f' t ht with h1 | h1
 . exact dc h1
 . simp at h1;exact dx (by omega)
theorem RS (x:HpAt h q o l F) (hb:l.length<1000000) (e:En):∃ h' l' F',run T 206 [.ptr q o,.agg (entA e)] h=some (.tuple [],h')/\HpAt h' q o l' F'/\l'.Perm (l++[e])/\(∀ a b,l'[0]?=some a->l[0]?=some b->a.1<=b.1)/\Keep (q::F) h h'/\(∀ t∈F',t∈F\/h.size<=t)/\(l=[]->l'=[e])/\∀ cs room,h.get q=some (Qc cs room)->∃ u',h'.get q=some (Qc (cs.set o u') room):=by
 have ⟨⟨u,room,cs,h1,h2,v⟩,ni⟩:=x
 obtain ⟨g1,hg1⟩:∃ g1,g1=h.push (Qc (entA e) none):=⟨_,rfl⟩
 have k1:Keep [] h g1:=by rw [hg1];exact Keep.push
 have b1:g1.get h.size=some (Qc (entA e) none):=by rw [hg1];exact ak
 have q1:=k1.obj h1 (by simp)
 have v1:=v.keep k1 (by simp)
 have ⟨s',g3,F3,ea,v3,k3,f3⟩:=Sv v1 (by omega) e
 have q2:(g1.push (Qc (entA e) none)).get q=some (Qc cs room):=aJ q1
 have c1:cellsOf (g1.get h.size) 0 3=some (entA e):=by rw [b1];rfl
 have hlt:=get_lt h1
 have q3:=k3.obj q1 ni
 have hs1:h.size<=g1.size:=k1.size
 have ni3:q∉F3:=fun hm=>(f3 q hm).elim ni (by omega)
 have ⟨w4,y4⟩:=HpAt.write q3 h2 v3 ni3
 have ⟨s1,s2⟩:=mB v3
 have y4':=y4
 have ⟨⟨u4,room4,cs4,q4,o4,v4⟩,_⟩:=y4'
 have hlen:=HpAt.len v4
 have ⟨g5,l5,e5,y5,p5,r5,k5⟩:=UN y4 (i:=l.length) (by simp) (by simp;omega)
 have ew:IntKind.wrap .i64 (l.length:Int)=(l.length:Int):=rQ
 refine ⟨g5,l5,F3,run_eq Wn ?_,y5,p5,fun a b ha hb=>?_,?_,fun t ht=>(f3 t ht).imp_right (by omega),fun hl=>?_,fun cs2 room2 e2=>?_⟩
 . have spl:splice [AV.int .i64 0,AV.int .u64 0,AV.int .i64 0] 0 (entA e)=entA e:=by simp [splice,entA]
   have c4:gw (Option.map (fun _=>AObj.cells false (cs.set o s') room) (g3.get q)) o=some s':=by
    rw [q3]
    simp [(aa.1 h2).1]
   have hl3:s'.gP=some (l.length+1):=by have:=HpAt.len v3;simpa using this
   simp [Tc,<- hg1,c1,q1,q2,h2,spl,ea,w4,s1,c4,hl3,ew,e5]
 . have:0<l.length:=(aa.1 hb).1
   exact r5 a b ha (by rw [ay this];exact hb)
 . refine ((((k1.mono (G:=q::F) (by simp)).trans' (k3.mono (by simp;intro t ht;exact dx ht))).trans' (Keep.put (by simp))).trans k5 (fun t ht=>?_))
   rcases f3 t ht with h4 | h4
   . simp [h4]
   . right;omega
 . subst hl
   simp at p5
   exact p5
 . rw [h1] at e2
   obtain ⟨rfl,rfl⟩:cs=cs2/\room=room2:=by simpa using e2
   exact ⟨s',k5.obj (got q3) ni3⟩
theorem Jo {e:En} {r:List En} {z:En} (hz:(e::r)[r.length]?=some z):(((e::r).set 0 z).take r.length).Perm r:=by
 rcases List.eq_nil_or_concat r with rfl | ⟨m,y,rfl⟩
 . simp
 . simp at hz;subst hz;simp;exact (List.perm_append_singleton y m).symm
theorem M0 (x:HpAt h q o (e::l) F) (hb:l.length<1000000):∃ h' l',run T 190 [.ptr q o] h=some (.tuple [.agg (entA e),.bool true],h')/\HpAt h' q o l' F/\l'.Perm l/\Keep (q::F) h h'/\∀ cs room,h.get q=some (Qc cs room)->∃ u',h'.get q=some (Qc (cs.set o u') room):=by
 obtain ⟨h1,hh1⟩:∃ h1,h1=h.push (Qc (entA (0,0,0)) none):=⟨_,rfl⟩
 have k1:Keep [] h h1:=by rw [hh1];exact Keep.push
 have a1:h1.get h.size=some (Qc (entA (0,0,0)) none):=by rw [hh1];exact ak
 have x1:=x.still k1;have ⟨h2,e2,k2⟩:=ym x1;obtain ⟨h4,hh4⟩:∃ h4,h4=(h2.push (Qc (entA (0,0,0)) none)).put h2.size (Qc (entA e) none):=⟨_,rfl⟩
 have w3:writeOf (h2.push (Qc (entA (0,0,0)) none)) h2.size (some (Qc (entA (0,0,0)) none)) 0 (entA e)=some h4:=by
  rw [writeOf_some,if_pos ⟨by simp,gS e⟩,hh4];rfl
 have k4:Keep [] h2 h4:=by rw [hh4];exact Keep.push.trans (Keep.put (F:=[h2.size]) (by simp)) (by simp)
 have b4:h4.get h2.size=some (Qc (entA e) none):=by rw [hh4,get_put_same,ak];rfl
 have x4:=(x1.still k2).still k4;have ⟨⟨u,room,cs,q4,o4,v4⟩,ni⟩:=x4;have hlen:=HpAt.len v4;have hq:q<h.size:=by have ⟨⟨_,_,_,g,_,_⟩,_⟩:=x;exact get_lt g
 obtain ⟨z,hz⟩:∃ z,(e::l)[l.length]?=some z:=⟨_,ah (by simp)⟩
 obtain ⟨j,a,i1,rfl,c1⟩:=HpAt.row v4 hz;have ⟨j2,b,h5,i2,hj2,w5,v5,k5⟩:=HpAt.store v4 (k:=0) (by simp) z;obtain rfl:j=j2:=by simpa using hj2
 have i2:idxAddrV 3 none u (iQ 0)=some (.ptr j b):=i2
 have q5:=k5.obj q4 ni
 have ⟨s',es,v6⟩:=v5.slice (by omega) (n:=l.length+1) (by simp) (lo:=none) (hi:=some (iQ (l.length:Int))) (a:=0) (b:=l.length) rfl (by simp) (by omega) (by omega)
 rw [HI,dN,pM,yu] at v6
 have ⟨w6,y6⟩:=HpAt.write q5 o4 v6 ni
 have ⟨s1,s2⟩:=mB v6
 have ⟨h7,l7,e7,y7,p7,k7⟩:=PE y6 (by simp;omega)
 have kk:Keep (q::[j]) h4 h7:=((k5.mono (by simp)).trans' (Keep.put (by simp))).trans' (k7.mono (by simp))
 have ew:wQ (l.length:Int)=(l.length:Int):=rQ
 have hs1:h1.size=h.size+1:=by rw [hh1];simp
 have hs2:=k2.size
 have hjl:j<h.size:=by
  have ⟨⟨_,_,_,_,_,v0⟩,_⟩:=x
  exact v0.lt j (by simp)
 have b7:=kk.obj b4 (by simp;omega)
 have a7:=kk.obj (k4.obj (k2.obj a1 (by simp)) (by simp)) (by simp;omega)
 have w8:writeOf h7 h.size (h7.get h.size) 0 (entA e)=some (h7.put h.size (Qc (entA e) none)):=by
  rw [a7,writeOf_some,if_pos ⟨by simp,gS e⟩]
  rfl
 have c7:cellsOf (h7.get h2.size) 0 3=some (entA e):=by rw [b7];rfl
 have c8:cellsOf (Option.map (fun _=>AObj.cells false (entA e) none) (h7.get h.size)) 0 3=some (entA e):=by rw [a7];rfl
 have hz0:([iQ 0,uQ 0,iQ 0]:List AV)=entA (0,0,0):=rfl
 have c6:gw (h5.get q) o=some u:=by rw [q5];simpa using o4
 refine ⟨h7.put h.size (Qc (entA e) none),l7,run_eq Wz ?_,y7.keep (Keep.put (F:=[h.size]) (by simp)) (by simp;omega) (by simp;omega),p7.trans ?_,?_,fun cs2 room2 e0=>?_⟩
 . simp [Tl,hz0,<- hh1,e2,w3,q4,o4,hlen,ew,i1,c1,i2,w5,c6,es,w6,s1,e7,c7,w8,c8]
 . have h9:((e::l).set 0 z).take l.length=(((e::l).set 0 z).take l.length):=rfl
   exact Jo hz
 . exact ((((k1.mono (G:=q::[j]) (by simp)).trans' (k2.mono (by simp))).trans' (k4.mono (by simp))).trans' kk).trans (Keep.put (F:=[h.size]) (by simp)) (by simp)
 . have q0:=k4.obj (k2.obj (k1.obj e0 (by simp)) (by simp)) (by simp)
   rw [q4] at q0
   obtain ⟨rfl,rfl⟩:cs=cs2/\room=room2:=by simpa using q0
   refine ⟨s',?_⟩
   rw [get_put_ne (by omega)]
   exact k7.obj (got q5) ni
end
section
variable {now:Int}
structure Tm where
 hs:List (List En)
 ord:Int
 has:List Int
def iM (l:List Int):List (AV×AV):=l.map fun g=>(.int .i64 g,.agg [])
structure mR (h:AHeap) (ti li hi:Nat) (Fs:Nat->List Nat) (t:Tm) (full:Bool):Prop where
 at_:∃ room,h.get ti=some (.cells false [.slice li 0 t.hs.length (.exact t.hs.length),.int .u64 t.ord,.map hi] room)
 hp:∀ k l,t.hs[k]?=some l->HpAt h li k l (Fs k)
 has:full=true->∃ bs ck,h.get hi=some (.map (iM t.has) bs ck)/\fh bs ck=true/\bs.length=t.has.length
 dj:∀ k k',k<t.hs.length->k'<t.hs.length->k≠k'->∀ x∈Fs k,x∉Fs k'
 ni:ti≠li/\ti≠hi/\li≠hi/\∀ k,k<t.hs.length->∀ x∈Fs k,x≠ti/\x≠hi
 sz:t.hs.length<=64
 lt:hi<h.size
def Oc (hs:List (List En)) (k:Nat) (e:En):Prop:=(∃ r,hs[k]?=some (e::r))/\∀ (k':Nat) (e':En) (r':List En),hs[k']?=some (e'::r')->e.1<=e'.1
def um (hs:List (List En)):Prop:=∀ (k:Nat) (l:List En),hs[k]?=some l->l=[]
def SP (h:AHeap) (ti li:Nat) (hs:List (List En)) (A:Nat) (n:Nat) (fr:FF) (g:AHeap):Prop:=∃ c:Nat,c+n=hs.length/\Keep [] h g/\fr.get 0=.ptr ti 0/\fr.get 4=.ptr A 0/\fr.get 11=.slice li 0 hs.length (.exact hs.length)/\fr.get 12=.int .i64 (hs.length:Int)/\fr.get 13=.int .i64 (c:Int)/\
 ((fr.get 3=.nilptr/\(∃ room,g.get A=some (.cells false (entA (0,0,0)) room))/\um (hs.take c))\/∃ (k:Nat) (e:En),k<c/\fr.get 3=.ptr li k/\(∃ room,g.get A=some (.cells false (entA e) room))/\Oc (hs.take c) k e)
section
variable {h h':AHeap} {ti li hi:Nat} {Fs:Nat->List Nat} {t:Tm} {full:Bool}
theorem mR.still (x:mR h ti li hi Fs t full) (k:Keep [] h h'):mR h' ti li hi Fs t full:=by have ⟨⟨room,a⟩,hp,has,dj,ni,sz,hlt⟩:=x;exact ⟨⟨room,k.obj a (by simp)⟩,fun j l hj=>(hp j l hj).still k,fun hf=>by have ⟨bs,ck,e,r⟩:=has hf;exact ⟨bs,ck,k.obj e (by simp),r⟩,dj,ni,sz,cq hlt k.size⟩
theorem Ar (x:mR h ti li hi Fs t full):∃ v h',run T 101 [.ptr ti 0] h=some (v,h')/\Keep [] h h'/\((v=.nilptr/\um t.hs)\/∃ (k:Nat) (e:En),v=.ptr li k/\Oc t.hs k e):=by
 have ⟨⟨room,a⟩,hp,has,dj,ni,sz,hlt⟩:=x;suffices hw:∃ v' h',run T 101 [.ptr ti 0] h=some (v',h')/\Keep [] h h'/\((v'=.nilptr/\um t.hs)\/∃ (k:Nat) (e:En),v'=.ptr li k/\Oc t.hs k e) by exact hw
 refine dQ Xz ?_;have a1:(h.push (Qc [iQ 0,uQ 0,iQ 0] none)).get ti=some _:=aJ a;simp [-Prod.exists,TZ,a1];refine Wp.loop (SP h ti li t.hs h.size) t.hs.length lQ ?_ ?_
 . exact ⟨0,by omega,Keep.push,by simp,by simp,by simp,by simp,by simp,.inl ⟨by simp,⟨none,ak⟩,by simp [um]⟩⟩
 rintro n fr g ⟨c,hc,k,s0,s4,s11,s12,s13,hbest⟩;by_cases hmore:c<t.hs.length
 . have hm:(c:Int)<(t.hs.length:Int):=by omega
   obtain ⟨l,hl⟩:∃ l,t.hs[c]?=some l:=⟨_,ah hmore⟩
   have a2:=k.obj a (by simp);have hx:=(hp c l hl).still k;have ⟨g1,e1,k1⟩:=ym hx;have i1:idxAddrV 1 none (.slice li 0 t.hs.length (.exact t.hs.length)) (iQ (c:Int))=some (.ptr li c):=by simp [idxAddrV];omega
   have hz0:([iQ 0,uQ 0,iQ 0]:List AV)=entA (0,0,0):=rfl;have hA:h.size<g.size:=by rcases hbest with ⟨_,⟨_,e⟩,_⟩ | ⟨_,_,_,_,⟨_,e⟩,_⟩<;>exact get_lt e
   have wr:∀ e:En,writeOf (g1.push (Qc (entA (0,0,0)) none)) g1.size (some (Qc (entA (0,0,0)) none)) 0 (entA e)=some ((g1.push (Qc (entA (0,0,0)) none)).put g1.size (Qc (entA e) none)):=fun e=>by rw [writeOf_some,if_pos ⟨by simp,gS e⟩];rfl
   have kn:∀ e:En,Keep [] g1 ((g1.push (Qc (entA (0,0,0)) none)).put g1.size (Qc (entA e) none)):=fun e=>Keep.push.trans (Keep.put (F:=[g1.size]) (by simp)) (by simp);have gn:∀ e:En,((g1.push (Qc (entA (0,0,0)) none)).put g1.size (Qc (entA e) none)).get g1.size=some (Qc (entA e) none):=fun e=>by rw [get_put_same,ak];rfl
   have tk:t.hs.take (c+1)=t.hs.take c++[l]:=by rw [HL,hl];rfl
   cases l with
   | nil=>
    have e1:run T 102 [.ptr li c] g=some (.tuple [.agg (entA (0,0,0)),.bool false],g1):=e1;have wr0:=wr (0,0,0);simp [s0,s12,s13,hm,a2,i1,e1,hz0,wr0,undefA];refine ⟨n-1,by omega,c+1,by omega,(k.trans' k1).trans' Keep.push,by simp [s0],by simp [s4],by simp [s11],by simp [s12],by simp [wrap_nat (c:=c) (by omega)],?_⟩;rcases hbest with ⟨b1,⟨rA,b2⟩,b3⟩ | ⟨k2,e,b0,b1,⟨rA,b2⟩,b3⟩
    . left;refine ⟨by simp [b1],⟨rA,aJ (k1.obj b2 (by simp))⟩,?_⟩;rw [tk];intro k' l' h';rcases jP h' with h' | ⟨_,rfl⟩
      . exact b3 k' l' h'
      . rfl
    . right;refine ⟨k2,e,by omega,by simp [b1],⟨rA,aJ (k1.obj b2 (by simp))⟩,?_⟩;rw [tk];have ⟨⟨r,b4⟩,b5⟩:=b3;refine ⟨⟨r,by rw [ay (aa.1 b4).1];exact b4⟩,fun k' e' r' h'=>?_⟩;rcases jP h' with h' | ⟨_,h''⟩
      . exact b5 k' e' r' h'
      . cases h''
   | cons e r=>
    have e1:run T 102 [.ptr li c] g=some (.tuple [.agg (entA e),.bool true],g1):=by simpa using e1
    have wr0:=wr e;have gn0:=gn e;have cn:cellsOf (((g1.push (Qc (entA (0,0,0)) none)).put g1.size (Qc (entA e) none)).get g1.size) 0 3=some (entA e):=by rw [gn0];rfl
    obtain ⟨g2,hg2⟩:∃ g2,g2=(g1.push (Qc (entA (0,0,0)) none)).put g1.size (Qc (entA e) none):=⟨_,rfl⟩
    rw [<- hg2] at wr0 gn0 cn;have k2:Keep [] g1 g2:=by rw [hg2];exact kn e
    have a3:=(k1.trans' k2).obj a2 (by simp);rcases hbest with ⟨b1,⟨rA,b2⟩,b3⟩ | ⟨kb,eb,b0,b1,⟨rA,b2⟩,b3⟩
    . have A2:=(k1.trans' k2).obj b2 (by simp);have wA:writeOf g2 h.size (g2.get h.size) 0 (entA e)=some (g2.put h.size (Qc (entA e) rA)):=by rw [A2,writeOf_some,if_pos ⟨by simp,gS e⟩];rfl
      simp [-Prod.exists,s0,s4,s12,s13,hm,a2,i1,e1,hz0,wr0,undefA,b1,a3,cn,wA];refine ⟨n-1,by omega,c+1,by omega,((k.trans' k1).trans' k2).trans (Keep.put (F:=[h.size]) (by simp)) (by simp),by simp [s0],by simp [s4],by simp [s11],by simp [s12],by simp [wrap_nat (c:=c) (by omega)],.inr ⟨c,e,by omega,by simp,⟨rA,by rw [get_put_same,A2];rfl⟩,?_⟩⟩;rw [tk];refine ⟨⟨r,by rw [aB (by simp;omega)];simp [show min c t.hs.length=c by omega]⟩,fun k' e' r' h'=>?_⟩
      rcases jP h' with h' | ⟨_,h''⟩
      . cases b3 k' _ h'
      . cases h'';omega
    . have A2:=(k1.trans' k2).obj b2 (by simp);have cA:cellsOf (g2.get h.size) 0 3=some (entA eb):=by rw [A2];rfl
      have ⟨g3,e3,k3⟩:=qd g2 e eb;have a4:=k3.obj a3 (by simp);have A3:=k3.obj A2 (by simp);have cn3:cellsOf (g3.get g1.size) 0 3=some (entA e):=by rw [k3.obj gn0 (by simp)];rfl
      have wA:writeOf g3 h.size (g3.get h.size) 0 (entA e)=some (g3.put h.size (Qc (entA e) rA)):=by rw [A3,writeOf_some,if_pos ⟨by simp,gS e⟩];rfl
      have ⟨⟨r1,b4⟩,b5⟩:=b3;have lt4:=(aa.1 b4).1
      cases hah:l8 e eb with
      | true=>
       rw [hah] at e3;have hw:=yD hah;simp [-Prod.exists,s0,s4,s12,s13,hm,a2,i1,e1,hz0,wr0,undefA,b1,cn,cA,e3,a4,cn3,wA];refine ⟨n-1,by omega,c+1,by omega,(((k.trans' k1).trans' k2).trans' k3).trans (Keep.put (F:=[h.size]) (by simp)) (by simp),by simp [s0],by simp [s4],by simp [s11],by simp [s12],by simp [wrap_nat (c:=c) (by omega)],.inr ⟨c,e,by omega,by simp,⟨rA,by rw [get_put_same,A3];rfl⟩,?_⟩⟩;rw [tk];refine ⟨⟨r,by rw [aB (by simp;omega)];simp [show min c t.hs.length=c by omega]⟩,fun k' e' r' h'=>?_⟩
       rcases jP h' with h' | ⟨_,h''⟩
       . have:=b5 k' e' r' h';omega
       . cases h'';omega
      | false=>
       rw [hah] at e3;have hw:=yV hah;simp [-Prod.exists,s0,s4,s12,s13,hm,a2,i1,e1,hz0,wr0,undefA,b1,cn,cA,e3];refine ⟨n-1,by omega,c+1,by omega,((k.trans' k1).trans' k2).trans' k3,by simp [s0],by simp [s4],by simp [s11],by simp [s12],by simp [wrap_nat (c:=c) (by omega)],.inr ⟨kb,eb,by omega,by simp [b1],⟨rA,A3⟩,?_⟩⟩;rw [tk];refine ⟨⟨r1,by rw [ay lt4];exact b4⟩,fun k' e' r' h'=>?_⟩
       rcases jP h' with h' | ⟨_,h''⟩
       . exact b5 k' e' r' h'
       . cases h'';omega
 . have hm:¬ (c:Int)<(t.hs.length:Int):=by omega
   have hcl:c=t.hs.length:=by omega
   subst hcl;rw [gB] at hbest
   rcases hbest with ⟨h1,_,h2⟩ | ⟨k2,e,_,h1,_,h2⟩
   . simp [s12,s13,h1];exact ⟨k,h2⟩
   . simp [-Prod.exists,s12,s13,h1];exact ⟨k,e,h2⟩
theorem vV (x:mR h ti li hi Fs t full):∃ (w:Int) (is:Bool) (h':AHeap),run T 62 [.ptr ti 0] h=some (.tuple [iQ w,.bool is],h')/\Keep [] h h'/\((is=false/\w=0/\um t.hs)\/∃ (k:Nat) (e:En),is=true/\w=e.1/\Oc t.hs k e):=by
 have ⟨v,h1,e1,k1,hv⟩:=Ar x;rcases hv with ⟨rfl,h2⟩ | ⟨k,e,rfl,h2⟩
 . exact ⟨0,false,h1,run_eq VS (by simp [YD,e1]),k1,.inl ⟨rfl,rfl,h2⟩⟩
 . have ⟨⟨r,h3⟩,h4⟩:=h2;have ⟨h5,e5,k5⟩:=ym ((x.still k1).hp k _ h3);have e5:run T 102 [.ptr li k] h1=some (.tuple [.agg (entA e),.bool true],h5):=by simpa using e5
   have hz0:([iQ 0,uQ 0,iQ 0]:List AV)=entA (0,0,0):=rfl;have w5:writeOf (h5.push (Qc (entA (0,0,0)) none)) h5.size (some (Qc (entA (0,0,0)) none)) 0 (entA e)=some ((h5.push (Qc (entA (0,0,0)) none)).put h5.size (Qc (entA e) none)):=by rw [writeOf_some,if_pos ⟨by simp,gS e⟩];rfl
   have c5:gw (some (AObj.cells false (entA e) none)) 0=some (iQ e.1):=rfl;refine ⟨e.1,true,(h5.push (Qc (entA (0,0,0)) none)).put h5.size (Qc (entA e) none),run_eq VS ?_,k1.trans' (k5.trans' (Keep.push.trans (Keep.put (F:=[h5.size]) (by simp)) (by simp))),.inr ⟨k,e,rfl,rfl,⟨r,h3⟩,h4⟩⟩;simp [YD,e1,e5,hz0,w5,c5]
def oq (hs:List (List En)) (now:Int):Bool:=hs.any fun l=>match l with | e::_=>decide (e.1<=now) | []=>false
theorem Bb {hs:List (List En)} (h:um hs):oq hs now=false:=by unfold oq;rw [jt];intro l hl;obtain ⟨k,hk,rfl⟩:=eY hl;have:=h k _ (ah hk);rw [this];simp
theorem Bc {hs:List (List En)} {k:Nat} {e:En} (h:Oc hs k e):oq hs now=decide (e.1<=now):=by
 have ⟨⟨r,h1⟩,h2⟩:=h;unfold oq;by_cases hle:e.1<=now
 . rw [decide_eq_true hle,fz];exact ⟨_,cW h1,by simpa using hle⟩
 . rw [decide_eq_false hle,jt];intro l hl;have ⟨k',hk,hk'⟩:=eY hl;cases l with
   | nil=>simp
   | cons e' r'=>have:=h2 k' e' r' (by rw [ah hk,hk']);simp;omega
theorem BE (x:mR h ti li hi Fs t full) (now:Int):∃ h',run T 43 [.ptr ti 0,iQ now] h=some (.bool (oq t.hs now),h')/\Keep [] h h':=by
 have ⟨w,is,h1,e1,k1,hv⟩:=vV x;refine ⟨h1,run_eq ZV ?_,k1⟩;rcases hv with ⟨rfl,rfl,h2⟩ | ⟨k,e,rfl,rfl,h2⟩
 . simp [YK,e1,Bb h2]
 . simp [YK,e1,Bc h2]
end
end
section
variable {now:Int} {ck k:Nat} {l:List En} {bs:List Nat}
theorem sE (g:Int):∀ l:List Int,findA (iQ g) (iM l)=some (if g∈l then some (.agg []) else none)
 | []=>rfl
 | x::l=>by
  have ih:=sE g l;show findA (.int .i64 g) ((.int .i64 x,.agg [])::iM l)=_;by_cases h:g=x
  . subst h;simp [findA,hU]
  . have hb:(g == x)=false:=by simpa using h
    simp [findA,hU,hb,if_true,ih,aD,h,false_or]
theorem HU (g:Int):∀ l:List Int,g∉l->updA (iQ g) (.agg []) (iM l)=some (iM (l++[g]))
 | [],_=>rfl
 | x::l,h=>by
  simp [aD,not_or] at h;have ih:=HU g l h.2;show updA (.int .i64 g) (.agg []) ((.int .i64 x,.agg [])::iM l)=_;have hb:(g == x)=false:=by simpa using h.1
  simp [updA,hU,hb,if_true,ih];rfl
theorem Cc (g:Int):∀ l:List Int,(iM l).eraseIdx (posA (iQ g) (iM l))=iM (l.erase g)
 | []=>rfl
 | x::l=>by
  have ih:=Cc g l;show List.eraseIdx ((.int .i64 x,.agg [])::iM l) (posA (.int .i64 g) ((.int .i64 x,.agg [])::iM l))=_;by_cases h:g=x
  . subst h;simp [posA,hU]
  . have hb:(g == x)=false:=by simpa using h
    have hb':(x == g)=false:=by simpa using fun e:x=g=>h e.symm
    simp only [posA,hU,hb,if_true,List.erase_cons,hb',aF,if_false];rw [if_neg (by simp)];show _::(iM l).eraseIdx _=_::iM (l.erase g);rw [ih]
theorem born_snoc (h:fh bs ck=true):fh (bs++[ck]) (ck+1)=true:=by
 simp only [fh,aA,decide_eq_true_eq,aQ] at *;refine ⟨gY.2 ⟨h.1,by simp,fun a ha b hb e=>?_⟩,fun x hx=>?_⟩
 . simp at hb;have:=h.2 a ha;omega
 . rcases bd.1 hx with hx | hx
   . have:=h.2 x hx;omega
   . simp at hx;omega
theorem yA (h:fh bs ck=true):fh (bs.eraseIdx k) ck=true:=by simp [fh,aA,decide_eq_true_eq,aQ] at *;exact ⟨h.1.sublist (List.eraseIdx_sublist ..),fun x hx=>h.2 x ((List.eraseIdx_sublist ..).subset hx)⟩
section
variable {h h':AHeap} {ti li hi:Nat} {Fs:Nat->List Nat} {t:Tm}
theorem BC (x:mR h ti li hi Fs t true) (g:Int):∃ h',run T 194 [.ptr ti 0,iQ g] h=some (.bool (decide (g∈t.has)),h')/\Keep [] h h':=by
 have ⟨⟨room,a⟩,hp,has,dj,ni,sz,hlt⟩:=x;have ⟨bs,ck,e,_⟩:=has rfl;have ef:=sE g t.has;have eo:h.objs[hi]?=some (.map (iM t.has) bs ck):=e;refine ⟨h.push (Qc [] none),run_eq Wx ?_,Keep.push⟩;by_cases hg:g∈t.has
 . rw [if_pos hg] at ef;simp [Qi,a,eo,ef,hg]
 . rw [if_neg hg] at ef;simp [Qi,a,eo,ef,hg]
theorem mR.I8 {full:Bool} (x:mR h ti li hi Fs t full) {l':List En} {F':List Nat} (hk:t.hs[k]?=some l) (y:HpAt h' li k l' F') (kp:Keep (li::Fs k) h h') (hF:∀ z∈F',z∈Fs k\/h.size<=z)
 (only:∀ cs room,h.get li=some (Qc cs room)->∃ u',h'.get li=some (Qc (cs.set k u') room)):mR h' ti li hi (fun j=>if j=k then F' else Fs j) {t with hs:=t.hs.set k l'} full:=by
 have ⟨⟨room,a⟩,hp,has,dj,ni,sz,hlt⟩:=x;have hkl:=(aa.1 hk).1;have lo:∀ j,j<t.hs.length->∀ z∈Fs j,z<h.size:=fun j hj z hz=>by have ⟨⟨_,_,_,_,_,v⟩,_⟩:=hp j _ (ah hj);exact v.lt z hz
 have nli:∀ j,j<t.hs.length->∀ z∈Fs j,z≠li:=fun j hj z hz e=>(hp j _ (ah hj)).ni (e▸hz);have hti:ti<h.size:=get_lt a;have hli:li<h.size:=by have ⟨⟨_,_,_,g,_,_⟩,_⟩:=hp k l hk;exact get_lt g
 have nti:ti∉li::Fs k:=by simp [aD,not_or];exact ⟨ni.1,fun hm=>(ni.2.2.2 k hkl ti hm).1 rfl⟩
 have nhi:hi∉li::Fs k:=by simp [aD,not_or];exact ⟨fun e=>ni.2.2.1 e.symm,fun hm=>(ni.2.2.2 k hkl hi hm).2 rfl⟩
 refine ⟨⟨room,by simpa using kp.obj a nti⟩,fun j m hj=>?_,fun hf=>?_,fun j j' hj hj' hne z hz=>?_,⟨ni.1,ni.2.1,ni.2.2.1,fun j hj z hz=>?_⟩,by simpa using sz,cq hlt kp.size⟩
 . by_cases hjk:j=k
   . subst hjk;simp [if_true];rw [ax hkl] at hj;obtain rfl:=aw hj;exact y
   . simp [if_neg hjk];rw [aj (aY hjk)] at hj;have hjl:=(aa.1 hj).1;have ⟨⟨u,rm,cs,g1,g2,v⟩,nq⟩:=hp j m hj;have ⟨u',g3⟩:=only cs rm g1;refine ⟨⟨u,rm,_,g3,by rw [aj (aY hjk)];exact g2,v.keep kp fun z hz=>?_⟩,nq⟩;simp [aD,not_or];exact ⟨nli j hjl z hz,dj j k hjl hkl hjk z hz⟩
 . have ⟨bs,ck,e,r⟩:=has hf;exact ⟨bs,ck,kp.obj e nhi,r⟩
 . simp [bV] at hj hj';by_cases h1:j=k
   . subst h1;have h2:¬ j'=j:=fun e=>hne e.symm;simp [if_true,if_neg h2] at hz ⊢;rcases hF z hz with h3 | h3
     . exact dj j j' hj hj' hne z h3
     . intro hm;have:=lo j' hj' z hm;omega
   . simp [if_neg h1] at hz;by_cases h2:j'=k
     . subst h2;simp [if_true];intro hm;rcases hF z hm with h3 | h3
       . exact dj j j' hj hj' hne z hz h3
       . have:=lo j hj z hz;omega
     . simp [if_neg h2];exact dj j j' hj hj' hne z hz
 . simp [bV] at hj;by_cases h1:j=k
   . subst h1;simp [if_true] at hz;rcases hF z hz with h3 | h3
     . exact ni.2.2.2 j hj z h3
     . refine ⟨by omega,fun e=>?_⟩;subst e;omega
   . simp [if_neg h1] at hz;exact ni.2.2.2 j hj z hz
theorem OO (x:mR h ti li hi Fs t true) (hk:t.hs[k]?=some l) (hb:l.length<1000000) {g w:Int} (hg:0<=g/\g<4096) (hn:g∉t.has) (ho:0<=t.ord/\t.ord<9223372036854775807) :
 ∃ h' l' F',run T 197 [.ptr ti 0,iQ (k:Int),iQ g,iQ w] h=some (iQ 0,h')/\mR h' ti li hi (fun j=>if j=k then F' else Fs j) {hs:=t.hs.set k l',ord:=t.ord+1,has:=t.has++[g]} true/\l'.Perm (l++[(w,t.ord,g)])/\
  (∀ a b,l'[0]?=some a->l[0]?=some b->a.1<=b.1)/\(l=[]->l'=[(w,t.ord,g)])/\Keep (ti::hi::li::Fs k) h h'/\∀ z∈F',z∈Fs k\/h.size<=z:=by
 have ⟨room0,a0⟩:=x.at_;have ⟨h1,e1,k1⟩:=BC x g;have x1:=x.still k1;have x1':=x1;have ⟨⟨room,a⟩,hp,has,dj,ni,sz,hlt⟩:=x1;have hkl:=(aa.1 hk).1;have ⟨h2,l',F',e2,y2,p2,r2,k2,f2,z2,only⟩:=RS (hp k l hk) hb (w,t.ord,g);have x2:=x1'.I8 hk y2 k2 f2 only;have ⟨⟨room2,a2⟩,hp2,has2,dj2,ni2,sz2,hlt2⟩:=x2;have ⟨bs,ck,m2,mb,ml⟩:=has2 rfl;simp [bV] at a2;have a2':=a2;have e2:run T 206 [.ptr li k,.agg [iQ w,uQ t.ord,iQ g]] h1=some (.tuple [],h2):=e2;have i1:idxAddrV 1 none (.slice li 0 t.hs.length (.exact t.hs.length)) (iQ (k:Int))=some (.ptr li k):=by simp [idxAddrV];omega
 have ew:IntKind.wrap .u64 (t.ord+1)=t.ord+1:=by rw [eP];omega
 obtain ⟨h3,hh3⟩:∃ h3,h3=h2.put ti (Qc [.slice li 0 t.hs.length (.exact t.hs.length),uQ (t.ord+1),.map hi] room2):=⟨_,rfl⟩
 have w3:writeOf h2 ti (some (Qc [.slice li 0 t.hs.length (.exact t.hs.length),uQ t.ord,.map hi] room2)) 1 [uQ (t.ord+1)]=some h3:=by rw [hh3];exact wr1 (by simp) rfl
 have a3:h3.get ti=some (Qc [.slice li 0 t.hs.length (.exact t.hs.length),uQ (t.ord+1),.map hi] room2):=by rw [hh3];exact got a2
 have m3:h3.get hi=some (.map (iM t.has) bs ck):=by rw [hh3,get_put_ne ni2.2.1.symm];exact m2
 have eo:h3.objs[hi]?=some (.map (iM t.has) bs ck):=m3;have eu:updateA h3 hi (iQ g) (.agg []) (iM t.has) bs ck=some (undefA,h3.put hi (.map (iM (t.has++[g])) (bs++[ck]) (ck+1))):=by have ef:=sE g t.has;rw [if_neg hn] at ef;simp [updateA,ef,HU g t.has hn]
 have kk:Keep [ti] h2 h3:=by rw [hh3];exact Keep.put (by simp)
 have km:Keep [hi] h3 (h3.put hi (.map (iM (t.has++[g])) (bs++[ck]) (ck+1))):=Keep.put (by simp);refine ⟨h3.put hi (.map (iM (t.has++[g])) (bs++[ck]) (ck+1)),l',F',run_eq Wv ?_,?_,p2,r2,z2,?_,fun z hz=>(f2 z hz).imp_right fun h5=>dk k1.size h5⟩
 . have c1:¬ t.hs.length<=k:=by omega
   have c2:¬ g<0:=by omega
   have c3:¬ 4096<=g:=by omega
   have c0:¬ (k:Int)<0:=by omega
   simp [Tj,a0,e1,hn,a,c0,c1,c2,c3,i1,e2,a2',ew,w3,a3,eo,eu]
 . refine ⟨⟨room2,by rw [get_put_ne ni2.2.1];simpa using a3⟩,fun j m hj=>?_,fun _=>⟨_,_,got m3,born_snoc mb,by simp [ml]⟩,dj2,ni2,sz2,by have:=kk.size;have:=km.size;omega⟩;have:=hp2 j m hj;have hjl:=(aa.1 hj).1;refine (this.keep kk (by simpa using ni2.1.symm) (fun z hz=>?_)).keep km (by simpa using ni2.2.2.1) (fun z hz=>?_)
   . simpa using (ni2.2.2.2 j hjl z hz).1
   . simpa using (ni2.2.2.2 j hjl z hz).2
 . refine (((k1.mono (G:=ti::hi::li::Fs k) (by simp)).trans' (k2.mono ?_)).trans' (kk.mono (by simp))).trans' (km.mono (by simp));intro z hz;simp at hz ⊢;rcases hz with rfl | hz
   . simp
   . simp [hz]
theorem Lz (x:mR h ti li hi Fs t true) (hd:oq t.hs now=false):∃ h',run T 178 [.ptr ti 0,iQ now] h=some (.tuple [.agg (entA (0,0,0)),.bool false],h')/\Keep [] h h':=by
 obtain ⟨h1,hh1⟩:∃ h1,h1=h.push (Qc (entA (0,0,0)) none):=⟨_,rfl⟩
 have k1:Keep [] h h1:=by rw [hh1];exact Keep.push
 have a1:h1.get h.size=some (Qc (entA (0,0,0)) none):=by rw [hh1];exact ak
 have ⟨h2,e2,k2⟩:=BE (x.still k1) now;rw [hd] at e2;have a2:=k2.obj a1 (by simp);have hz0:([iQ 0,uQ 0,iQ 0]:List AV)=entA (0,0,0):=rfl;have w2:writeOf h2 h.size (h2.get h.size) 0 (entA (0,0,0))=some (h2.put h.size (Qc (entA (0,0,0)) none)):=by rw [a2,writeOf_some,if_pos ⟨by simp,gS _⟩];rfl
 have c2:cellsOf (Option.map (fun _=>AObj.cells false (entA (0,0,0)) none) (h2.get h.size)) 0 3=some (entA (0,0,0)):=by rw [a2];rfl
 refine ⟨h2.put h.size (Qc (entA (0,0,0)) none),run_eq Ra ?_,(k1.trans' k2).trans (Keep.put (F:=[h.size]) (by simp)) (by simp)⟩;simp [Qn,hz0,<- hh1,e2,w2,c2]
theorem Jj (x:mR h ti li hi Fs t true) (hd:oq t.hs now=true) (hin:∀ (k:Nat) (e:En) (r:List En),t.hs[k]?=some (e::r)->e.2.2∈t.has/\r.length<1000000) :
 ∃ (h':AHeap) (k:Nat) (e:En) (r l':List En),run T 178 [.ptr ti 0,iQ now] h=some (.tuple [.agg (entA e),.bool true],h')/\t.hs[k]?=some (e::r)/\e.1<=now/\l'.Perm r/\mR h' ti li hi Fs {hs:=t.hs.set k l',ord:=t.ord,has:=t.has.erase e.2.2} true/\Keep (ti::hi::li::Fs k) h h':=by
 obtain ⟨h1,hh1⟩:∃ h1,h1=h.push (Qc (entA (0,0,0)) none):=⟨_,rfl⟩
 have k1:Keep [] h h1:=by rw [hh1];exact Keep.push
 have a1:h1.get h.size=some (Qc (entA (0,0,0)) none):=by rw [hh1];exact ak
 have ⟨h2,e2,k2⟩:=BE (x.still k1) now;rw [hd] at e2;have x2:=(x.still k1).still k2;have ⟨v,h3,e3,k3,hv⟩:=Ar x2;rcases hv with ⟨_,h0⟩ | ⟨k,e,rfl,hbest⟩
 . rw [Bb h0] at hd;cases hd
 rw [Bc hbest] at hd;have ⟨⟨r,hk⟩,_⟩:=hbest;have ⟨hg,hrl⟩:=hin k e r hk;have x3:=x2.still k3;have ⟨h4,l',e4,y4,p4,k4,only⟩:=M0 (x3.hp k _ hk) hrl;have x4:=x3.I8 (F':=Fs k) hk y4 k4 (fun z hz=>.inl hz) only;have hFs:(fun j=>if j=k then Fs k else Fs j)=Fs:=by
  funext j;by_cases hj:j=k
  . simp [hj]
  . simp [hj]
 rw [hFs] at x4;have sA:h.size<h1.size:=by rw [hh1];simp
 have hli:li<h.size:=by have ⟨⟨_,_,_,g,_,_⟩,_⟩:=x.hp k _ hk;exact get_lt g
 have hFk:∀ z∈Fs k,z<h.size:=fun z hz=>by have ⟨⟨_,_,_,_,_,v0⟩,_⟩:=x.hp k _ hk;exact v0.lt z hz
 have nA:∀ z,h.size<=z->z∉li::Fs k:=fun z hz hm=>by
  rcases aD.1 hm with rfl | hm
  . omega
  . have:=hFk z hm;omega
 have A4:=k4.obj (k3.obj (k2.obj a1 (by simp)) (by simp)) (nA _ (aq _));have ⟨⟨room4,a4⟩,hp4,has4,dj4,ni4,sz4,hlt4⟩:=x4;have ⟨bs,ck,m4,mb,ml⟩:=has4 rfl;simp [bV] at a4;have hti:ti<h.size:=by have ⟨rm,g⟩:=x.at_;exact get_lt g
 have hhi:=x.lt;obtain ⟨h5,hh5⟩:∃ h5,h5=(h4.push (Qc (entA (0,0,0)) none)).put h4.size (Qc (entA e) none):=⟨_,rfl⟩
 have w5:writeOf (h4.push (Qc (entA (0,0,0)) none)) h4.size (some (Qc (entA (0,0,0)) none)) 0 (entA e)=some h5:=by rw [writeOf_some,if_pos ⟨by simp,gS e⟩,hh5];rfl
 have k5:Keep [] h4 h5:=by rw [hh5];exact Keep.push.trans (Keep.put (F:=[h4.size]) (by simp)) (by simp)
 have b5:h5.get h4.size=some (Qc (entA e) none):=by rw [hh5,get_put_same,ak];rfl
 have a5:=k5.obj a4 (by simp);have A5:=k5.obj A4 (by simp);have m5:=k5.obj m4 (by simp);have eo:h5.objs[hi]?=some (.map (iM t.has) bs ck):=m5;have c5:gw (h5.get h4.size) 2=some (iQ e.2.2):=by rw [b5];rfl
 obtain ⟨h6,hh6⟩:∃ h6,h6=h5.put hi (.map (iM (t.has.erase e.2.2)) (bs.eraseIdx (posA (iQ e.2.2) (iM t.has))) ck):=⟨_,rfl⟩
 have eu:deleteA h5 hi (iQ e.2.2) (iM t.has) bs ck=some (.tuple [],h6):=by have ef:=sE e.2.2 t.has;rw [if_pos hg] at ef;simp [deleteA,ef,Cc,hh6]
 have k6:Keep [hi] h5 h6:=by rw [hh6];exact Keep.put (by simp)
 have b6:=k6.obj b5 (by simp;omega);have A6:=k6.obj A5 (by simp;omega);have c6:cellsOf (h6.get h4.size) 0 3=some (entA e):=by rw [b6];rfl
 have w7:writeOf h6 h.size (h6.get h.size) 0 (entA e)=some (h6.put h.size (Qc (entA e) none)):=by rw [A6,writeOf_some,if_pos ⟨by simp,gS _⟩];rfl
 have c7:cellsOf (Option.map (fun _=>AObj.cells false (entA e) none) (h6.get h.size)) 0 3=some (entA e):=by rw [A6];rfl
 have k7:Keep [h.size] h6 (h6.put h.size (Qc (entA e) none)):=Keep.put (by simp);have hz0:([iQ 0,uQ 0,iQ 0]:List AV)=entA (0,0,0):=rfl;have m6:h6.get hi=some (.map (iM (t.has.erase e.2.2)) (bs.eraseIdx (posA (iQ e.2.2) (iM t.has))) ck):=by rw [hh6];exact got m5
 have s5:=k5.size;have s6:=k6.size;have bl:(bs.eraseIdx (posA (iQ e.2.2) (iM t.has))).length=(t.has.erase e.2.2).length:=by
  have h1:(iM t.has).length=t.has.length:=by simp [iM]
  have h2:=congrArg List.length (Cc e.2.2 t.has);rw [Ag] at h2 ⊢;rw [h1] at h2;rw [ml];simpa [iM] using h2
 refine ⟨h6.put h.size (Qc (entA e) none),k,e,r,l',run_eq Ra ?_,hk,by simpa using hd,p4,?_,?_⟩
 . simp [Qn,hz0,<- hh1,e2,e3,e4,w5,a5,c5,eo,eu,c6,w7,c7]
 . refine ⟨⟨room4,?_⟩,fun j m hj=>?_,fun _=>⟨_,_,k7.obj m6 (by simp;omega),yA mb,bl⟩,dj4,ni4,sz4,by have:=k7.size;omega⟩
   . simp [bV];exact k7.obj (k6.obj a5 (by simpa using ni4.2.1)) (by simp;omega)
   . have hjl:=(aa.1 hj).1;refine (((hp4 j m hj).still k5).keep k6 (by simpa using ni4.2.2.1) (fun z hz=>?_)).keep k7 (by simp;omega) (fun z hz=>?_)
     . simpa using (ni4.2.2.2 j hjl z hz).2
     . have hjl':j<t.hs.length:=by simpa using hjl
       have:z<h.size:=by have ⟨⟨_,_,_,_,_,v0⟩,_⟩:=x.hp j _ (ah hjl');exact v0.lt z hz
       simp;omega
 . refine ((((((k1.mono (G:=ti::hi::li::Fs k) (by simp)).trans' (k2.mono (by simp))).trans' (k3.mono (by simp))).trans' (k4.mono (by intro z hz;simp at hz ⊢;rcases hz with rfl | hz;simp;simp [hz]))).trans' (k5.mono (by simp))).trans' (k6.mono (by simp))).trans k7 (by simp)
end
end
section
section
variable {α:Type} {kd:IntKind} {f:α->Int} {v:α->AV}
def eQ (kd:IntKind) (f:α->Int) (v:α->AV) (l:List α):List (AV×AV):=l.map fun x=>(.int kd (f x),v x)
@[simp] theorem pZ (l:List α):(eQ kd f v l).length=l.length:=by simp [eQ]
theorem fX (m:Int):∀ l:List α,findA (.int kd m) (eQ kd f v l)=some ((l.find? fun x=>decide (f x=m)).map v)
 | []=>rfl
 | x::l=>by
  have ih:=fX m l;show findA (.int kd m) ((.int kd (f x),v x)::eQ kd f v l)=_;by_cases h:f x=m
  . simp [findA,hU,h]
  . have hb:(m == f x)=false:=by simpa using fun e:m=f x=>h e.symm
    simp [findA,hU,hb,if_true,ih,List.find?_cons,h,decide_false]
def setK (f:α->Int) (n:α):List α->List α
 | []=>[n]
 | x::l=>if f x=f n then n::l else x::setK f n l
theorem tp (n:α):∀ l:List α,updA (.int kd (f n)) (v n) (eQ kd f v l)=some (eQ kd f v (setK f n l))
 | []=>rfl
 | x::l=>by
  have ih:=tp n l;show updA (.int kd (f n)) (v n) ((.int kd (f x),v x)::eQ kd f v l)=_;by_cases h:f x=f n
  . simp [updA,hU,h,setK,eQ]
  . have hb:(f n == f x)=false:=by simpa using fun e:f n=f x=>h e.symm
    simp [updA,hU,hb,if_true,ih,setK,if_neg h];rfl
theorem tI (m:Int):∀ l:List α,(eQ kd f v l).eraseIdx (posA (.int kd m) (eQ kd f v l))=eQ kd f v (l.eraseP fun x=>decide (f x=m))
 | []=>rfl
 | x::l=>by
  have ih:=tI m l;show List.eraseIdx ((.int kd (f x),v x)::eQ kd f v l) (posA (.int kd m) ((.int kd (f x),v x)::eQ kd f v l))=_;by_cases h:f x=m
  . simp [posA,hU,h]
  . have hb:(m == f x)=false:=by simpa using fun e:m=f x=>h e.symm
    simp only [posA,hU,hb,if_true,uv,h,decide_false];rw [if_neg (by simp)];show _::(eQ kd f v l).eraseIdx _=_::eQ kd f v (l.eraseP _);rw [ih]
end
abbrev Fd:=Int×Int×Bool×Bool
def fdV (x:Fd):AV:=.agg [.int .i64 x.2.1,.bool x.2.2.1,.bool x.2.2.2]
structure Po where
 fds:List Fd
 who:List (Int×Int)
def iI (l:List Fd):List (AV×AV):=eQ .u16 (·.1) fdV l
def qm (l:List (Int×Int)):List (AV×AV):=eQ .i64 (·.1) (fun x=>.int .u16 x.2) l
structure jg (h:AHeap) (pi fi wi:Nat) (p:Po):Prop where
 at_:∃ room,h.get pi=some (.cells false [.map fi,.map wi] room)
 fds:∃ bs ck,h.get fi=some (.map (iI p.fds) bs ck)/\fh bs ck=true/\bs.length=p.fds.length
 who:∃ bs ck,h.get wi=some (.map (qm p.who) bs ck)/\fh bs ck=true/\bs.length=p.who.length
 ni:pi≠fi/\pi≠wi/\fi≠wi
def oN (l:List Fd):Bool:=l.any fun x=>x.2.2.1 && x.2.2.2
theorem AG:∀ l:List Fd,anyReadyA (iI l)=some (oN l)
 | []=>rfl
 | x::l=>by have ih:=AG l;show anyReadyA ((.int .u16 x.1,fdV x)::iI l)=_;simp [anyReadyA,fdV,ih,oN,List.any_cons]
section
variable {h h':AHeap} {pi fi wi:Nat} {p:Po}
theorem jg.still (x:jg h pi fi wi p) (k:Keep [] h h'):jg h' pi fi wi p:=by have ⟨⟨room,a⟩,⟨b1,c1,e1,r1⟩,⟨b2,c2,e2,r2⟩,ni⟩:=x;exact ⟨⟨room,k.obj a (by simp)⟩,⟨b1,c1,k.obj e1 (by simp),r1⟩,⟨b2,c2,k.obj e2 (by simp),r2⟩,ni⟩
theorem O6 (x:jg h pi fi wi p):run T 44 [.ptr pi 0] h=some (.bool (oN p.fds),h):=by
 have ⟨⟨room,a⟩,⟨b1,c1,e1,r1,_⟩,_,ni⟩:=x;have eo:h.objs[fi]?=some (.map (iI p.fds) b1 c1):=e1;have en:natA h 0 (.map fi) (.map fi)=some (.bool (oN p.fds),h):=by simp [natA,eo,if_pos r1,AG,fj]
 refine run_eq ZU ?_;simp [YJ,FDue,a,en]
theorem Cd (x:jg h pi fi wi p) (g:Int):run T 196 [.ptr pi 0,iQ g] h=some (.bool ((p.who.find? fun x=>decide (x.1=g)).isSome),h):=by
 have ⟨⟨room,a⟩,_,⟨b2,c2,e2,r2⟩,ni⟩:=x;have eo:h.objs[wi]?=some (.map (qm p.who) b2 c2):=e2;have ef:findA (iQ g) (qm p.who)=_:=fX g p.who;refine run_eq Ww ?_;cases hf:p.who.find? fun x=>decide (x.1=g) with
 | none=>rw [hf] at ef;simp [F196,a,eo,ef]
 | some y=>rw [hf] at ef;simp [F196,a,eo,ef]
def nC (l:List Fd) (fd:Int):Bool:=(l.find? fun x=>decide (x.1=fd)).isNone && decide (1024<=l.length)
def getFd (l:List Fd) (fd:Int):Fd:=(l.find? fun x=>decide (x.1=fd)).getD (fd,0,false,false)
theorem rX (x:jg h pi fi wi p) (fd:Int):∃ h',run T 121 [.ptr pi 0,.int .u16 fd] h=some (.bool (nC p.fds fd),h')/\Keep [] h h':=by
 have ⟨⟨room,a⟩,⟨b1,c1,e1,r1,_⟩,_,ni⟩:=x;have eo:h.objs[fi]?=some (.map (iI p.fds) b1 c1):=e1;have ef:findA (.int .u16 fd) (iI p.fds)=_:=fX fd p.fds;have hl:(iI p.fds).length=p.fds.length:=pZ _;obtain ⟨h1,hh1⟩:∃ h1,h1=h.push (Qc [iQ 0,.bool false,.bool false] none):=⟨_,rfl⟩
 have k1:Keep [] h h1:=by rw [hh1];exact Keep.push
 have a1:=k1.obj a (by simp);have eo1:h1.objs[fi]?=some (.map (iI p.fds) b1 c1):=k1.obj e1 (by simp);unfold nC;cases hf:p.fds.find? fun x=>decide (x.1=fd) with
 | none=>
  rw [hf] at ef;have eo2:(h.push (Qc [iQ 0,.bool false,.bool false] none)).objs[fi]?=some (.map (iI p.fds) b1 c1):=by rw [<- hh1];exact eo1
  have a2:(h.push (Qc [iQ 0,.bool false,.bool false] none)).get pi=some (Qc [.map fi,.map wi] room):=by rw [<- hh1];exact a1
  refine ⟨_,run_eq Rl ?_,k1⟩;rw [hh1];by_cases hn:1024<=p.fds.length
  . have hn':(1024:Int)<=(p.fds.length:Int):=by omega
    simp [N9,a,eo,ef,a2,eo2,hl,hn,hn']
  . have hn':¬ (1024:Int)<=(p.fds.length:Int):=by omega
    simp [N9,a,eo,ef,a2,eo2,hl,hn,hn']
 | some y=>
  rw [hf] at ef;have w1:writeOf (h.push (Qc [iQ 0,.bool false,.bool false] none)) h.size (some (Qc [iQ 0,.bool false,.bool false] none)) 0 [iQ y.2.1,.bool y.2.2.1,.bool y.2.2.2]=some ((h.push (Qc [iQ 0,.bool false,.bool false] none)).put h.size (Qc [iQ y.2.1,.bool y.2.2.1,.bool y.2.2.2] none)):=by rw [writeOf_some,if_pos ⟨by simp,rfl⟩];rfl
  refine ⟨(h.push (Qc [iQ 0,.bool false,.bool false] none)).put h.size (Qc [iQ y.2.1,.bool y.2.2.1,.bool y.2.2.2] none),run_eq Rl ?_,Keep.push.trans (Keep.put (F:=[h.size]) (by simp)) (by simp)⟩;simp [N9,a,eo,ef,fdV,w1]
theorem lL {α:Type} {f:α->Int} (n:α):∀ l:List α,(setK f n l).length=if (l.find? fun x=>decide (f x=f n)).isSome=true then l.length else l.length+1
 | []=>rfl
 | x::l=>by
  have ih:=lL (f:=f) n l;by_cases h:f x=f n
  . simp [setK,h]
  . have e:setK f n (x::l)=x::setK f n l:=by simp [setK,h]
    rw [e,bn,ih];simp [List.find?_cons,h,decide_false,bn];split<;>rfl
theorem jg.Rx (x:jg h pi fi wi p) (n:Fd):∃ bs ck h',h.objs[fi]?=some (.map (iI p.fds) bs ck)/\updateA h fi (.int .u16 n.1) (fdV n) (iI p.fds) bs ck=some (undefA,h')/\jg h' pi fi wi {p with fds:=setK (·.1) n p.fds}/\Keep [fi] h h':=by
 have ⟨⟨room,a⟩,⟨b1,c1,e1,r1,l1⟩,⟨b2,c2,e2,r2⟩,ni⟩:=x;have ef:findA (.int .u16 n.1) (iI p.fds)=_:=fX n.1 p.fds;have eu:updA (.int .u16 n.1) (fdV n) (iI p.fds)=_:=tp (f:=fun x:Fd=>x.1) (v:=fdV) n p.fds;have hl:=lL (f:=fun x:Fd=>x.1) n p.fds;have fin:∀ (bs:List Nat) (ck:Nat),fh bs ck=true->bs.length=(setK (fun x:Fd=>x.1) n p.fds).length->jg (h.put fi (.map (iI (setK (fun x:Fd=>x.1) n p.fds)) bs ck)) pi fi wi {p with fds:=setK (·.1) n p.fds}:=fun bs ck hb hlen=>⟨⟨room,by rw [get_put_ne ni.1];exact a⟩,⟨bs,ck,got e1,hb,hlen⟩,⟨b2,c2,by rw [get_put_ne ni.2.2.symm];exact e2,r2⟩,ni⟩
 cases hf:p.fds.find? fun x=>decide (x.1=n.1) with
 | none=>rw [hf] at ef hl;exact ⟨b1,c1,_,e1,by simp [updateA,ef,eu];rfl,fin _ _ (born_snoc r1) (by simp [hl,l1]),Keep.put (by simp)⟩
 | some y=>rw [hf] at ef hl;exact ⟨b1,c1,_,e1,by simp [updateA,ef,eu];rfl,fin _ _ r1 (by simp [hl,l1]),Keep.put (by simp)⟩
theorem jg.T5 (x:jg h pi fi wi p) (n:Int×Int):∃ bs ck h',h.objs[wi]?=some (.map (qm p.who) bs ck)/\updateA h wi (iQ n.1) (.int .u16 n.2) (qm p.who) bs ck=some (undefA,h')/\jg h' pi fi wi {p with who:=setK (·.1) n p.who}/\Keep [wi] h h':=by
 have ⟨⟨room,a⟩,⟨b2,c2,e2,r2⟩,⟨b1,c1,e1,r1,l1⟩,ni⟩:=x;have ef:findA (iQ n.1) (qm p.who)=_:=fX n.1 p.who;have eu:updA (iQ n.1) (.int .u16 n.2) (qm p.who)=_:=tp (f:=fun x:Int×Int=>x.1) (v:=fun x:Int×Int=>AV.int .u16 x.2) n p.who;have hl:=lL (f:=fun x:Int×Int=>x.1) n p.who;have fin:∀ (bs:List Nat) (ck:Nat),fh bs ck=true->bs.length=(setK (fun x:Int×Int=>x.1) n p.who).length->jg (h.put wi (.map (qm (setK (fun x:Int×Int=>x.1) n p.who)) bs ck)) pi fi wi {p with who:=setK (·.1) n p.who}:=fun bs ck hb hlen=>⟨⟨room,by rw [get_put_ne ni.2.1];exact a⟩,⟨b2,c2,by rw [get_put_ne ni.2.2];exact e2,r2⟩,⟨bs,ck,got e1,hb,hlen⟩,ni⟩
 cases hf:p.who.find? fun x=>decide (x.1=n.1) with
 | none=>rw [hf] at ef hl;exact ⟨b1,c1,_,e1,by simp [updateA,ef,eu];rfl,fin _ _ (born_snoc r1) (by simp [hl,l1]),Keep.put (by simp)⟩
 | some y=>rw [hf] at ef hl;exact ⟨b1,c1,_,e1,by simp [updateA,ef,eu];rfl,fin _ _ r1 (by simp [hl,l1]),Keep.put (by simp)⟩
def Gm (p:Po) (fd:Int):Po:={p with fds:=setK (·.1) (fd,(getFd p.fds fd).2.1,(getFd p.fds fd).2.2.1,true) p.fds}
theorem J6 (x:jg h pi fi wi p) {fd:Int} (hf:nC p.fds fd=true):∃ h',run T 79 [.ptr pi 0,.int .u16 fd] h=some (iQ 2,h')/\Keep [] h h':=by have ⟨h1,e1,k1⟩:=rX x fd;rw [hf] at e1;exact ⟨h1,run_eq VO (by simp [XL,e1]),k1⟩
theorem Gr (x:jg h pi fi wi p) {fd:Int} (hf:nC p.fds fd=false):∃ h',run T 79 [.ptr pi 0,.int .u16 fd] h=some (iQ 0,h')/\jg h' pi fi wi (Gm p fd)/\Keep [fi] h h':=by
 have ⟨h1,e1,k1⟩:=rX x fd;rw [hf] at e1;have x1:=x.still k1;have ⟨⟨room,a1⟩,⟨b1,c1,m1,_⟩,_,ni⟩:=x1;have eo:h1.objs[fi]?=some (.map (iI p.fds) b1 c1):=m1;have ef:findA (.int .u16 fd) (iI p.fds)=_:=fX fd p.fds;obtain ⟨y,hy⟩:∃ y,y=getFd p.fds fd:=⟨_,rfl⟩
 obtain ⟨hA,hhA⟩:∃ hA,hA=(h1.push (Qc [iQ 0,.bool false,.bool false] none)).put h1.size (Qc [iQ y.2.1,.bool y.2.2.1,.bool y.2.2.2] none):=⟨_,rfl⟩
 have wA:writeOf (h1.push (Qc [iQ 0,.bool false,.bool false] none)) h1.size (some (Qc [iQ 0,.bool false,.bool false] none)) 0 [iQ y.2.1,.bool y.2.2.1,.bool y.2.2.2]=some hA:=by rw [writeOf_some,if_pos ⟨by simp,rfl⟩,hhA];rfl
 have bA:hA.get h1.size=some (Qc [iQ y.2.1,.bool y.2.2.1,.bool y.2.2.2] none):=by rw [hhA,get_put_same,ak];rfl
 have kA:Keep [] h1 hA:=by rw [hhA];exact Keep.push.trans (Keep.put (F:=[h1.size]) (by simp)) (by simp)
 obtain ⟨h2,hh2⟩:∃ h2,h2=hA.put h1.size (Qc [iQ y.2.1,.bool y.2.2.1,.bool true] none):=⟨_,rfl⟩
 have w2:writeOf hA h1.size (some (Qc [iQ y.2.1,.bool y.2.2.1,.bool y.2.2.2] none)) 2 [.bool true]=some h2:=by rw [writeOf_some,if_pos ⟨by simp,rfl⟩,hh2];rfl
 have k2:Keep [] h1 h2:=by rw [hh2];exact kA.trans (Keep.put (F:=[h1.size]) (by simp)) (by simp)
 have b2:cellsOf (h2.get h1.size) 0 3=some [iQ y.2.1,.bool y.2.2.1,.bool true]:=by rw [hh2,get_put_same,bA];rfl
 have a2:=k2.obj a1 (by simp);have ⟨bs,ck,h3,eo3,eu3,x3,k3⟩:=((x.still k1).still k2).Rx (fd,y.2.1,y.2.2.1,true);have eu3:updateA h2 fi (.int .u16 fd) (.agg [iQ y.2.1,.bool y.2.2.1,.bool true]) (iI p.fds) bs ck=some (undefA,h3):=eu3;refine ⟨h3,run_eq VO ?_,by unfold Gm;rw [<- hy];exact x3,((k1.mono (G:=[fi]) (by simp)).trans' (k2.mono (by simp))).trans' k3⟩;cases hg:p.fds.find? fun x=>decide (x.1=fd) with
 | none=>
  rw [hg] at ef;have hy0:y.2.1=0/\y.2.2.1=false/\y.2.2.2=false:=by rw [hy];simp [getFd,hg]
  have ⟨y1,y2,y3⟩:=hy0;rw [y1,y2,y3] at wA bA w2;rw [y1,y2] at b2 eu3;simp [XL,e1,a1,eo,ef,wA,bA,w2,a2,b2,eo3,eu3]
 | some z=>
  rw [hg] at ef;have hy0:z=y:=by rw [hy];simp [getFd,hg]
  subst hy0;simp [XL,e1,a1,eo,ef,fdV,wA,bA,w2,a2,b2,eo3,eu3]
def jN (p:Po) (fd g:Int):Bool:=(getFd p.fds fd).2.2.1 || (p.who.find? fun x=>decide (x.1=g)).isSome || nC p.fds fd
def Lr (p:Po) (fd g:Int):Po:={fds:=setK (·.1) (fd,g,true,(getFd p.fds fd).2.2.2) p.fds,who:=setK (·.1) (g,fd) p.who}
theorem Mj (x:jg h pi fi wi p) {fd g:Int} (hg:0<=g/\g<4096) (hn:jN p fd g=true):∃ (e:Int) (h':AHeap),run T 195 [.ptr pi 0,.int .u16 fd,iQ g] h=some (iQ e,h')/\e≠0/\Keep [] h h':=by
 have ⟨⟨room,a⟩,⟨b1,c1,m1,_⟩,_,ni⟩:=id x;have eo:h.objs[fi]?=some (.map (iI p.fds) b1 c1):=m1;have ef:findA (.int .u16 fd) (iI p.fds)=_:=fX fd p.fds;obtain ⟨y,hy⟩:∃ y,y=getFd p.fds fd:=⟨_,rfl⟩
 obtain ⟨hA,hhA⟩:∃ hA,hA=(h.push (Qc [iQ 0,.bool false,.bool false] none)).put h.size (Qc [iQ y.2.1,.bool y.2.2.1,.bool y.2.2.2] none):=⟨_,rfl⟩
 have wA:writeOf (h.push (Qc [iQ 0,.bool false,.bool false] none)) h.size (some (Qc [iQ 0,.bool false,.bool false] none)) 0 [iQ y.2.1,.bool y.2.2.1,.bool y.2.2.2]=some hA:=by rw [writeOf_some,if_pos ⟨by simp,rfl⟩,hhA];rfl
 have bA:hA.get h.size=some (Qc [iQ y.2.1,.bool y.2.2.1,.bool y.2.2.2] none):=by rw [hhA,get_put_same,ak];rfl
 have kA:Keep [] h hA:=by rw [hhA];exact Keep.push.trans (Keep.put (F:=[h.size]) (by simp)) (by simp)
 have xA:=x.still kA;have eh:=Cd xA g;have ⟨h2,e2,k2⟩:=rX xA fd;have c2:¬ g<0:=by omega
 have c3:¬ 4096<=g:=by omega
 unfold jN at hn;rw [<- hy] at hn;cases hw:y.2.2.1 with
 | true=>
  rw [hw] at wA bA;refine ⟨8,hA,run_eq IX ?_,by decide,kA⟩;cases hg:p.fds.find? fun x=>decide (x.1=fd) with
  | none=>rw [hy] at hw;simp [getFd,hg] at hw
  | some z=>
   rw [hg] at ef;have hy0:z=y:=by rw [hy];simp [getFd,hg]
   subst hy0;simp [Dg,a,eo,ef,fdV,hw,wA,bA,c2,c3]
 | false=>
  rw [hw] at wA bA hn;cases hh:(p.who.find? fun x=>decide (x.1=g)).isSome with
  | true=>
   rw [hh] at eh;refine ⟨8,hA,run_eq IX ?_,by decide,kA⟩;cases hg:p.fds.find? fun x=>decide (x.1=fd) with
   | none=>
    rw [hg] at ef;have hy0:y.2.1=0/\y.2.2.2=false:=by rw [hy];simp [getFd,hg]
    rw [hy0.1,hy0.2] at wA bA;simp [Dg,a,eo,ef,wA,bA,c2,c3,eh]
   | some z=>
    rw [hg] at ef;have hy0:z=y:=by rw [hy];simp [getFd,hg]
    subst hy0;simp [Dg,a,eo,ef,fdV,hw,wA,bA,c2,c3,eh]
  | false=>
   rw [hh] at eh hn;simp at hn;rw [hn] at e2;refine ⟨2,h2,run_eq IX ?_,by decide,kA.trans' k2⟩;cases hg:p.fds.find? fun x=>decide (x.1=fd) with
   | none=>
    rw [hg] at ef;have hy0:y.2.1=0/\y.2.2.2=false:=by rw [hy];simp [getFd,hg]
    rw [hy0.1,hy0.2] at wA bA;simp [Dg,a,eo,ef,wA,bA,c2,c3,eh,e2]
   | some z=>
    rw [hg] at ef;have hy0:z=y:=by rw [hy];simp [getFd,hg]
    subst hy0;simp [Dg,a,eo,ef,fdV,hw,wA,bA,c2,c3,eh,e2]
theorem J3 (x:jg h pi fi wi p) {fd g:Int} (hg:0<=g/\g<4096) (hn:jN p fd g=false):∃ (h':AHeap),run T 195 [.ptr pi 0,.int .u16 fd,iQ g] h=some (iQ 0,h')/\jg h' pi fi wi (Lr p fd g)/\Keep [fi,wi] h h':=by
 have ⟨⟨room,a⟩,⟨b1,c1,m1,_⟩,_,ni⟩:=id x;have eo:h.objs[fi]?=some (.map (iI p.fds) b1 c1):=m1;have ef:findA (.int .u16 fd) (iI p.fds)=_:=fX fd p.fds
 obtain ⟨y,hy⟩:∃ y,y=getFd p.fds fd:=⟨_,rfl⟩
 obtain ⟨hA,hhA⟩:∃ hA,hA=(h.push (Qc [iQ 0,.bool false,.bool false] none)).put h.size (Qc [iQ y.2.1,.bool y.2.2.1,.bool y.2.2.2] none):=⟨_,rfl⟩
 have wA:writeOf (h.push (Qc [iQ 0,.bool false,.bool false] none)) h.size (some (Qc [iQ 0,.bool false,.bool false] none)) 0 [iQ y.2.1,.bool y.2.2.1,.bool y.2.2.2]=some hA:=by rw [writeOf_some,if_pos ⟨by simp,rfl⟩,hhA];rfl
 have bA:hA.get h.size=some (Qc [iQ y.2.1,.bool y.2.2.1,.bool y.2.2.2] none):=by rw [hhA,get_put_same,ak];rfl
 have kA:Keep [] h hA:=by rw [hhA];exact Keep.push.trans (Keep.put (F:=[h.size]) (by simp)) (by simp)
 have xA:=x.still kA;have eh:=Cd xA g;obtain ⟨h2,e2,k2⟩:=rX xA fd;have c2:¬ g<0:=by omega
 have c3:¬ 4096<=g:=by omega
 unfold jN at hn;rw [<- hy] at hn;simp only [hH] at hn;obtain ⟨⟨hw,hh⟩,hfu⟩:=hn;rw [hw] at wA bA;rw [hh] at eh;rw [hfu] at e2;have B2:=k2.obj bA (by simp);have a2:=k2.obj (kA.obj a (by simp)) (by simp);obtain ⟨bs,ck,h3,eo3,eu3,x3,k3⟩:=(xA.still k2).Rx (fd,g,true,y.2.2.2);have eu3:updateA h2 fi (.int .u16 fd) (.agg [.int .i64 g,.bool true,.bool y.2.2.2]) (iI p.fds) bs ck=some (undefA,h3):=eu3;obtain ⟨⟨room3,a3⟩,_,_,_⟩:=id x3;obtain ⟨bs4,ck4,h4,eo4,eu4,x4,k4⟩:=x3.T5 (g,fd);have eu4:updateA h3 wi (.int .i64 g) (.int .u16 fd) (qm p.who) bs4 ck4=some (undefA,h4):=eu4;have eo4:h3.objs[wi]?=some (.map (qm p.who) bs4 ck4):=eo4;refine ⟨h4,run_eq IX ?_,by unfold Lr;rw [<- hy];exact x4,(((kA.mono (G:=[fi,wi]) (by simp)).trans' (k2.mono (by simp))).trans' (k3.mono (by simp))).trans' (k4.mono (by simp))⟩
 cases hg:p.fds.find? fun x=>decide (x.1=fd) with
 | none=>
  rw [hg] at ef;have hy0:y.2.1=0/\y.2.2.2=false:=by rw [hy];simp [getFd,hg]
  rw [hy0.1,hy0.2] at wA bA B2;rw [hy0.2] at eu3;simp [-writeOf_some,Dg,a,eo,ef,wA,bA,c2,c3,eh,e2,a2,B2,eo3,eu3,a3,eo4,eu4]
 | some z=>
  rw [hg] at ef;have hy0:z=y:=by rw [hy];simp [getFd,hg]
  subst hy0;simp [-writeOf_some,Dg,a,eo,ef,fdV,hw,wA,bA,c2,c3,eh,e2,a2,B2,eo3,eu3,a3,eo4,eu4]
theorem uC (x:jg h pi fi wi p) (he:p.fds=[]):∃ h',run T 179 [.ptr pi 0] h=some (.tuple [.int .u16 0,iQ 0,.bool false],h')/\Keep [] h h':=by
 have ⟨⟨room,a⟩,⟨b1,c1,m1,r1,_⟩,_,ni⟩:=id x;rw [he] at m1
 obtain ⟨h1,hh1⟩:∃ h1,h1=h.push (Qc [.map fi] none):=⟨_,rfl⟩
 have k1:Keep [] h h1:=by rw [hh1];exact Keep.push
 have g1:h1.get h.size=some (Qc [.map fi] none):=by rw [hh1];exact ak
 have eo:h1.objs[fi]?=some (.map [] b1 c1):=k1.obj m1 (by simp);have hc:h1.cell h.size 0=some (.map fi):=by have:h1.objs[h.size]?=some (Qc [.map fi] none):=g1;simp [AHeap.cell,AHeap.row,this]
 have en:natA h1 4 (.func 205 [] [.ptr h.size 0]) (iQ 205)=some (.nilslice,h1):=by simp only [natA,hc,eo];rw [if_pos ⟨rfl,r1,lG _⟩];rfl
 have ek:run T 192 [.map fi] h=some (.func 205 [] [.ptr h.size 0],h1):=by refine run_eq Q5 ?_;simp [Qj,hh1]
 have es:run T 191 [.func 205 [] [.ptr h.size 0]] h1=some (.nilslice,h1):=by refine run_eq Q6 ?_;simp [N0,FSorted,en]
 refine ⟨h1,?_,k1⟩;suffices hw:∃ v' h',run T 179 [.ptr pi 0] h=some (v',h')/\v'=.tuple [.int .u16 0,iQ 0,.bool false]/\h'=h1 by obtain ⟨v',h',e,rfl,rfl⟩:=hw;exact e
 refine dQ Q9 ?_;simp [Qm,a,ek,es];refine Wp.loop (fun n fr g=>g=h1/\fr.get 14=.int .i64 0/\fr.get 15=.int .i64 0) 0 (nr (by omega)) ?_ ?_
 . simp
 rintro n fr g ⟨rfl,s14,s15⟩;simp [s14,s15]
theorem Mw (x:jg h pi fi wi p):∃ (h':AHeap) (pi' fi' wi':Nat),run T 89 [.ptr pi 0] h=some (.ptr pi' 0,h')/\jg h' pi' fi' wi' p/\Keep [] h h'/\h.size<=pi'/\h.size<=fi'/\h.size<=wi':=by
 have ⟨⟨room,a⟩,⟨b1,c1,m1,r1⟩,⟨b2,c2,m2,r2⟩,ni⟩:=id x;obtain ⟨h1,hh1⟩:∃ h1,h1=h.push (.map (iI p.fds) b1 c1):=⟨_,rfl⟩
 have k1:Keep [] h h1:=by rw [hh1];exact Keep.push
 have e1:run T 124 [.map fi] h=some (.map h.size,h1):=by
  refine run_eq Xl ?_;have eo:h.objs[fi]?=some (.map (iI p.fds) b1 c1):=m1;have en:natA h 1 (.map fi) (.map fi)=some (.map h.size,h1):=by simp only [natA,eo,hh1];rfl
  simp [Qw,FClone,en]
 have a1:=k1.obj a (by simp);obtain ⟨h2,hh2⟩:∃ h2,h2=h1.push (.map (qm p.who) b2 c2):=⟨_,rfl⟩
 have k2:Keep [] h1 h2:=by rw [hh2];exact Keep.push
 have e2:run T 125 [.map wi] h1=some (.map h1.size,h2):=by
  refine run_eq Xk ?_;have eo:h1.objs[wi]?=some (.map (qm p.who) b2 c2):=k1.obj m2 (by simp);have en:natA h1 1 (.map wi) (.map wi)=some (.map h1.size,h2):=by simp only [natA,eo,hh2];rfl
  simp [Qv,FClone,en]
 have a2:=k2.obj a1 (by simp);have s1:h1.size=h.size+1:=by rw [hh1];simp
 have s2:h2.size=h.size+2:=by rw [hh2];simp [s1]
 have f1:h1.get h.size=some (.map (iI p.fds) b1 c1):=by rw [hh1];exact ak
 have f2:h2.get h1.size=some (.map (qm p.who) b2 c2):=by rw [hh2];exact ak
 have k3:Keep [] h2 (h2.push (Qc [.map h.size,.map h1.size] none)):=Keep.push;refine ⟨h2.push (Qc [.map h.size,.map h1.size] none),h2.size,h.size,h1.size,run_eq Zm ?_,⟨⟨none,ak⟩,⟨b1,c1,k3.obj (k2.obj f1 (by simp)) (by simp),r1⟩,⟨b2,c2,k3.obj f2 (by simp),r2⟩,by omega,by omega,by omega⟩,(k1.trans' k2).trans' k3,by omega,by omega,by omega⟩;simp [F89,a,e1,a1,e2]
end
end
section
section
variable {h h':AHeap} {q o:Nat} {l:List En} {F:List Nat}
theorem Hg {s:AV} (v:dz h 3 (fD l) F s) (hb:l.length<=1000000):∃ s' h' F',run T 159 [s] h=some (s',h')/\Vec h' 3 (fD l) F' s'/\Keep [] h h'/\∀ t∈F',h.size<=t:=by
 have hnil:s=.nilslice\/∃ j o n c,s=.slice j o n c:=by cases v<;>simp
 rcases hnil with rfl | ⟨j,o,n,c,rfl⟩
 . cases v with
   | nil e=>refine ⟨.nilslice,h,[],run_eq T_159 ?_,.nil e,Keep.refl,by simp⟩;simp [F159]
 . have vn:Vec (h.push (Qc [] none)) 3 [] [h.size] (.slice h.size 0 0 (.exact 0)):=Vec.new (m:=0) ak (by simp);have v1:=v.keep (Keep.push (F:=[]) (x:=.cells false [] none)) (by simp);have hf:=v1.first (n:=l.length) (by rw [nG];omega) (by omega)
   rw [aW (by rw [nG];omega)] at hf;have hl:(AV.slice j o n c).gP=some l.length:=by rw [v.len (by omega),nG];simp
   have ⟨s',h',F',e,v',k',f'⟩:=vn.append (by omega) (bytes:=24) (n:=0) (by simp) hl hf (KN l) (nG l) (by simp [bigA];omega) (by simp [bigA];omega);refine ⟨s',h',F',run_eq T_159 ?_,by simpa using v',(Keep.push (F:=[])).trans k' (by simp),fun t ht=>?_⟩
   . simp [F159,e]
   . rcases f' t ht with h1 | h1
     . simp at h1;omega
     . simp at h1;omega
theorem M1 (x:HpAt h q o l F) (hb:l.length<=1000000):∃ (h':AHeap) (q':Nat) (u:AV) (F':List Nat),run T 123 [.ptr q o] h=some (.ptr q' 0,h')/\h'.get q'=some (Qc [u] none)/\Vec h' 3 (fD l) F' u/\Keep [] h h'/\h.size<=q'/\(∀ t∈F',h.size<=t)/\q'∉F':=by
 have ⟨⟨u,room,cs,h1,h2,v⟩,ni⟩:=x;have ⟨s',g,F',e,v',k,f'⟩:=Hg v.view hb;have ⟨s1,s2⟩:=mB v';refine ⟨g.push (Qc [s'] none),g.size,s',F',run_eq Xm ?_,ak,v'.keep (Keep.push (F:=[])) (by simp),k.trans' Keep.push,k.size,f',fun hm=>?_⟩
 . simp [TP,h1,h2,e,s1]
 . have:=v'.lt _ hm;omega
end
def sumC (t d:Int):Int:=if 0<d/\t+d>9223372036854775807 then 9223372036854775807 else t+d
def isI64 (z:Int):Prop:=-9223372036854775808<=z/\z<=9223372036854775807
section
variable {h h':AHeap}
theorem LM (h:AHeap) {t d:Int} (ht:isI64 t) (hd:isI64 d) (h0:0<=d):run T 158 [iQ t,iQ d] h=some (iQ (sumC t d),h):=by
 unfold isI64 at ht hd;have hn:¬ d<0:=by omega
 refine run_eq WX ?_;unfold sumC;by_cases hb:0<d/\t+d>9223372036854775807
 . have ew:wQ (t+d)=t+d-18446744073709551616:=by
    have h1:(t+d) % 18446744073709551616=t+d:=by omega
    have h2:(t+d) % 2 ^ 64=t+d:=h1;have h3:t+d>=(2:Int) ^ (64-1):=by show t+d>=9223372036854775808;omega
    simp only [IntKind.wrap,IntKind.bits,IntKind.signed,h2];rw [if_pos (by simpa using h3)];rfl
   have hlt:t+d-18446744073709551616<t:=by omega
   simp [N5,ew,hb,hlt]
 . have ew:wQ (t+d)=t+d:=rQ;have hlt:¬ t+d<t:=by omega
   by_cases hp:0<d
   . have hb':¬ (9223372036854775807<t+d):=by omega
     simp [N5,ew,hb',hlt,hp,hn]
   . simp [N5,ew,hp,hn]
theorem sumC_range {t d:Int} (ht:isI64 t) (h0:0<=d):isI64 (sumC t d)/\t<=sumC t d:=by unfold isI64 sumC at *;split<;>omega
theorem Fq {si:Nat} {t d:Int} {r:List AV} {room:Option (Nat×Nat)} (hs:h.get si=some (Qc (iQ t::r) room)) (ht:isI64 t) (hd:isI64 d):run T 120 [.ptr si 0,iQ d] h=some (iQ (sumC t (max 0 d)),h):=by have e:=LM h (t:=t) (d:=max 0 d) ht (by unfold isI64 at *;omega) (by omega);refine run_eq Xn ?_;simp [TQ,hs,e]
theorem OA {si:Nat} {t d:Int} {r:List AV} {room:Option (Nat×Nat)} (hs:h.get si=some (Qc (iQ t::r) room)) (ht:isI64 t) (hd:isI64 d):run T 77 [.ptr si 0,iQ d] h=some (iQ (sumC t (max 0 d)),h.put si (Qc (iQ (sumC t (max 0 d))::r) room)):=by have e:=Fq hs ht hd;refine run_eq Zu ?_;simp [F77,e,hs,splice]
end
end
section
variable {g d fd:Int} {G:List Nat}
structure dU where
 now:Int
 t:Tm
 p:Po
 waits:Int
structure fZ where
 ti:Nat
 li:Nat
 hi:Nat
 pi:Nat
 fi:Nat
 wi:Nat
 Fs:Nat->List Nat
structure dP (h:AHeap) (si:Nat) (L:fZ) (s:dU) (full:Bool):Prop where
 at_:∃ room,h.get si=some (.cells false [.int .i64 s.now,.ptr L.ti 0,.ptr L.pi 0,.int .i64 s.waits] room)
 t:mR h L.ti L.li L.hi L.Fs s.t full
 p:jg h L.pi L.fi L.wi s.p
 now:isI64 s.now
 ni:si≠L.ti/\si≠L.li/\si≠L.hi/\si≠L.pi/\si≠L.fi/\si≠L.wi
 nt:∀ x∈[L.ti,L.li,L.hi],x≠L.pi/\x≠L.fi/\x≠L.wi
 nf:∀ k,k<s.t.hs.length->∀ x∈L.Fs k,x≠si/\x≠L.pi/\x≠L.fi/\x≠L.wi
def dueS (s:dU):Bool:=oq s.t.hs s.now || oN s.p.fds
section
variable {h h':AHeap} {si:Nat} {L:fZ} {s:dU} {full:Bool}
theorem mR.keep {ti li hi:Nat} {Fs:Nat->List Nat} {t:Tm} (x:mR h ti li hi Fs t full) (k:Keep G h h') (h1:ti∉G/\li∉G/\hi∉G) (h2:∀ j,j<t.hs.length->∀ z∈Fs j,z∉G):mR h' ti li hi Fs t full:=by have ⟨⟨room,a⟩,hp,has,dj,ni,sz,hlt⟩:=x;exact ⟨⟨room,k.obj a h1.1⟩,fun j l hj=>(hp j l hj).keep k h1.2.1 (h2 j (aa.1 hj).1),fun hf=>by have ⟨bs,ck,e,r⟩:=has hf;exact ⟨bs,ck,k.obj e h1.2.2,r⟩,dj,ni,sz,cq hlt k.size⟩
theorem jg.keep {pi fi wi:Nat} {p:Po} (x:jg h pi fi wi p) (k:Keep G h h') (h1:pi∉G/\fi∉G/\wi∉G):jg h' pi fi wi p:=by have ⟨⟨room,a⟩,⟨b1,c1,e1,r1⟩,⟨b2,c2,e2,r2⟩,ni⟩:=x;exact ⟨⟨room,k.obj a h1.1⟩,⟨b1,c1,k.obj e1 h1.2.1,r1⟩,⟨b2,c2,k.obj e2 h1.2.2,r2⟩,ni⟩
theorem dP.still (x:dP h si L s full) (k:Keep [] h h'):dP h' si L s full:=by have ⟨⟨room,a⟩,t,p,r1,r2,r3,r4⟩:=x;exact ⟨⟨room,k.obj a (by simp)⟩,t.still k,p.still k,r1,r2,r3,r4⟩
theorem nV (x:dP h si L s full):run T 25 [.ptr si 0] h=some (iQ s.now,h):=by
 obtain ⟨⟨room,a⟩,_⟩:=x;have e:run T 63 [.ptr si 0] h=some (iQ s.now,h):=by refine run_eq ZG ?_;simp [F63,a]
 refine run_eq Z8 ?_;simp [F25,e]
theorem rL (x:dP h si L s full):∃ h',run T 19 [.ptr si 0] h=some (.bool (dueS s),h')/\Keep [] h h':=by have en:=nV x;have ⟨h1,e1,k1⟩:=BE x.t s.now;have e2:=O6 (x.p.still k1);obtain ⟨⟨room,a⟩,_⟩:=id x;have a1:=k1.obj a (by simp);refine ⟨h1,run_eq aad ?_,k1⟩;unfold dueS;cases hd:oq s.t.hs s.now<;>rw [hd] at e1<;>simp [F19,en,a,e1,e2,a1]
theorem rJ (x:dP h si L s full) (e:Int):∃ h',run T 78 [.ptr si 0,iQ e] h=some (.tuple [.bool (decide (e=0) && dueS s),iQ e],h')/\Keep [] h h':=by
 have ⟨h1,e1,k1⟩:=rL x;by_cases he:e=0
 . subst he;refine ⟨h1,run_eq VP ?_,k1⟩;simp [YC,e1]
 . refine ⟨h,run_eq VP ?_,Keep.refl⟩;simp [YC,he]
def gd (s:dU) (d:Int):dU:={s with now:=sumC s.now (max 0 d)}
theorem LN (x:dP h si L s full) (hd:isI64 d):∃ h',run T 33 [.ptr si 0,iQ d] h=some (.bool (dueS (gd s d)),h')/\dP h' si L (gd s d) full/\Keep [si] h h':=by
 have ⟨⟨room,a⟩,t,p,r1,r2,r3,r4⟩:=x;have e1:=OA a r1 hd;obtain ⟨h1,hh1⟩:∃ h1,h1=h.put si (Qc (iQ (sumC s.now (max 0 d))::[.ptr L.ti 0,.ptr L.pi 0,iQ s.waits]) room):=⟨_,rfl⟩
 rw [<- hh1] at e1;have k1:Keep [si] h h1:=by rw [hh1];exact Keep.put (by simp)
 have rg:=(sumC_range (d:=max 0 d) r1 (by omega)).1;have x1:dP h1 si L (gd s d) full:=⟨⟨room,by rw [hh1];exact got a⟩,t.keep k1 (by simp;exact ⟨r2.1.symm,r2.2.1.symm,r2.2.2.1.symm⟩) (fun j hj z hz=>by simpa using (r4 j hj z hz).1),p.keep k1 (by simp;exact ⟨r2.2.2.2.1.symm,r2.2.2.2.2.1.symm,r2.2.2.2.2.2.symm⟩),rg,r2,r3,r4⟩
 have ⟨h2,e2,k2⟩:=rL x1;refine ⟨h2,run_eq Z3 ?_,x1.still k2,k1.trans k2 (by simp)⟩;simp [F33,e1,e2]
def kI (s:dU) (fd:Int):dU:={s with p:=Gm s.p fd}
theorem Ju (x:dP h si L s full) (hf:nC s.p.fds fd=true):∃ h',run T 34 [.ptr si 0,.int .u16 fd] h=some (.tuple [.bool false,iQ 2],h')/\Keep [] h h':=by
 have ⟨h1,e1,k1⟩:=J6 x.p hf;have ⟨h2,e2,k2⟩:=rJ (x.still k1) 2;have ⟨room,a⟩:=x.at_;refine ⟨h2,run_eq VZ ?_,k1.trans' k2⟩;have e2:run T 78 [.ptr si 0,iQ 2] h1=some (.tuple [.bool false,iQ 2],h2):=by simpa using e2
 simp [YN,a,e1,e2]
theorem FY (x:dP h si L s full) (hf:nC s.p.fds fd=false):∃ h',run T 34 [.ptr si 0,.int .u16 fd] h=some (.tuple [.bool (dueS (kI s fd)),iQ 0],h')/\dP h' si L (kI s fd) full/\Keep [L.fi] h h':=by
 have ⟨h1,e1,x1,k1⟩:=Gr x.p hf;have ⟨⟨room,a⟩,t,p,r1,r2,r3,r4⟩:=x;have n1:=r3 L.ti (by simp);have n2:=r3 L.li (by simp);have n3:=r3 L.hi (by simp);have y:dP h1 si L (kI s fd) full:=⟨⟨room,k1.obj a (by simpa using r2.2.2.2.2.1)⟩,t.keep k1 (by simp;exact ⟨n1.2.1,n2.2.1,n3.2.1⟩) (fun j hj z hz=>by simpa using (r4 j hj z hz).2.2.1),x1,r1,r2,r3,r4⟩
 have ⟨h2,e2,k2⟩:=rJ y 0;have e2:run T 78 [.ptr si 0,iQ 0] h1=some (.tuple [.bool (dueS (kI s fd)),iQ 0],h2):=by simpa using e2
 refine ⟨h2,run_eq VZ ?_,y.still k2,k1.trans k2 (by simp)⟩;simp [YN,a,e1,e2]
theorem Jt (x:dP h si L s true) {k:Nat} {l:List En} (hk:s.t.hs[k]?=some l) (hb:l.length<1000000) (hg:0<=g/\g<4096) (hd:isI64 d) (hn:g∉s.t.has) (hw:(s.p.who.find? fun x=>decide (x.1=g))=none) (ho:0<=s.t.ord/\s.t.ord<9223372036854775807) :
 ∃ (h':AHeap) (l':List En) (F':List Nat) (s':dU),s'={s with t:={hs:=s.t.hs.set k l',ord:=s.t.ord+1,has:=s.t.has++[g]}}/\run T 183 [.ptr si 0,iQ (k:Int),iQ g,iQ d] h=some (.tuple [.bool (dueS s'),iQ 0],h')/\
  dP h' si {L with Fs:=fun j=>if j=k then F' else L.Fs j} s' true/\l'.Perm (l++[(sumC s.now (max 0 d),s.t.ord,g)])/\(∀ a b,l'[0]?=some a->l[0]?=some b->a.1<=b.1)/\(l=[]->l'=[(sumC s.now (max 0 d),s.t.ord,g)])/\Keep (L.ti::L.hi::L.li::L.Fs k) h h'/\∀ z∈F',z∈L.Fs k\/h.size<=z:=by
 have eh:=Cd x.p g;rw [hw] at eh;have hkl:=(aa.1 hk).1;have ⟨⟨room,a⟩,t,p,r1,r2,r3,r4⟩:=id x;have ea:=Fq a r1 hd;have ⟨h1,l',F',e1,x1,p1,o1,z1,k1,f1⟩:=OO t hk hb (w:=sumC s.now (max 0 d)) hg hn ho;have n1:=r3 L.ti (by simp);have n2:=r3 L.li (by simp);have n3:=r3 L.hi (by simp);have lts:si<h.size/\L.pi<h.size/\L.fi<h.size/\L.wi<h.size:=by have ⟨⟨_,b1⟩,⟨_,_,b2,_⟩,⟨_,_,b3,_⟩,_⟩:=id p;exact ⟨get_lt a,get_lt b1,get_lt b2,get_lt b3⟩
 have q1:si∉L.ti::L.hi::L.li::L.Fs k:=by simp [aD,not_or];exact ⟨r2.1,r2.2.2.1,r2.2.1,fun hm=>(r4 k hkl si hm).1 rfl⟩
 have q2:∀ y,(y=L.pi\/y=L.fi\/y=L.wi)->y∉L.ti::L.hi::L.li::L.Fs k:=by
  intro y hy hm;simp [aD] at hm;rcases hm with rfl | rfl | rfl | hm
  . rcases hy with h | h | h;exact n1.1 h;exact n1.2.1 h;exact n1.2.2 h
  . rcases hy with h | h | h;exact n3.1 h;exact n3.2.1 h;exact n3.2.2 h
  . rcases hy with h | h | h;exact n2.1 h;exact n2.2.1 h;exact n2.2.2 h
  . have:=r4 k hkl y hm;rcases hy with h | h | h;exact this.2.1 h;exact this.2.2.1 h;exact this.2.2.2 h
 obtain ⟨s',hs'⟩:∃ s':dU,s'={s with t:={hs:=s.t.hs.set k l',ord:=s.t.ord+1,has:=s.t.has++[g]}}:=⟨_,rfl⟩
 have y:dP h1 si {L with Fs:=fun j=>if j=k then F' else L.Fs j} s' true:=by
  rw [hs'];refine ⟨⟨room,k1.obj a q1⟩,x1,p.keep k1 ⟨q2 _ (.inl rfl),q2 _ (.inr (.inl rfl)),q2 _ (.inr (.inr rfl))⟩,r1,r2,r3,fun j hj z hz=>?_⟩;simp [bV] at hj;by_cases hjk:j=k
  . simp [hjk,if_true] at hz;rcases f1 z hz with h3 | h3
    . exact r4 k hkl z h3
    . exact ⟨by omega,by simp only;omega,by simp only;omega,by simp only;omega⟩
  . simp [if_neg hjk] at hz;exact r4 j hj z hz
 have ⟨h2,e2,k2⟩:=rJ y 0;have e2:run T 78 [.ptr si 0,iQ 0] h1=some (.tuple [.bool (dueS s'),iQ 0],h2):=by simpa using e2
 refine ⟨h2,l',F',s',hs',run_eq WH ?_,y.still k2,p1,o1,z1,k1.trans k2 (by simp),f1⟩;simp [Tp,a,eh,ea,e1,e2]
def waitS (s:dU) (fd g:Int):dU:={s with p:=Lr s.p fd g,waits:=s.waits+1}
theorem LL (x:dP h si L s true) (hg:0<=g/\g<4096) (hh:g∉s.t.has) (hn:jN s.p fd g=true):∃ (e:Int) (h':AHeap),run T 182 [.ptr si 0,.int .u16 fd,iQ g] h=some (.tuple [.bool false,iQ e],h')/\e≠0/\Keep [] h h':=by
 have ⟨room,a⟩:=x.at_;have ⟨h1,e1,k1⟩:=BC x.t g;have x1:=x.still k1;have a1:=k1.obj a (by simp);have ⟨e,h2,e2,hne,k2⟩:=Mj x1.p hg hn;have ⟨h3,e3,k3⟩:=rJ (x1.still k2) e;have e3:run T 78 [.ptr si 0,iQ e] h2=some (.tuple [.bool false,iQ e],h3):=by simpa [hne] using e3
 refine ⟨e,h3,run_eq Q7 ?_,hne,(k1.trans' k2).trans' k3⟩;simp [Qk,a,e1,hh,a1,e2,hne,e3]
theorem Jq (x:dP h si L s true) (hg:0<=g/\g<4096) (hh:g∉s.t.has) (hn:jN s.p fd g=false) (hw:0<=s.waits/\s.waits<9223372036854775807):∃ (h':AHeap),run T 182 [.ptr si 0,.int .u16 fd,iQ g] h=some (.tuple [.bool (dueS (waitS s fd g)),iQ 0],h')/\dP h' si L (waitS s fd g) true/\Keep [si,L.fi,L.wi] h h':=by
 have ⟨h1,e1,k1⟩:=BC x.t g;have ⟨⟨room,a⟩,t,p,r1,r2,r3,r4⟩:=x.still k1;have ⟨room0,a0⟩:=x.at_;have ⟨h2,e2,p2,k2⟩:=J3 p hg hn;have n1:=r3 L.ti (by simp);have n2:=r3 L.li (by simp);have n3:=r3 L.hi (by simp);have a2:=k2.obj a (by simp;exact ⟨r2.2.2.2.2.1,r2.2.2.2.2.2⟩);have ew:wQ (s.waits+1)=s.waits+1:=rQ;obtain ⟨h3,hh3⟩:∃ h3,h3=h2.put si (Qc [iQ s.now,.ptr L.ti 0,.ptr L.pi 0,iQ (s.waits+1)] room):=⟨_,rfl⟩
 have w3:writeOf h2 si (some (Qc [iQ s.now,.ptr L.ti 0,.ptr L.pi 0,iQ s.waits] room)) 3 [iQ (s.waits+1)]=some h3:=by rw [hh3];exact wr1 (by simp) rfl
 have k3:Keep [si] h2 h3:=by rw [hh3];exact Keep.put (by simp)
 have y:dP h3 si L (waitS s fd g) true:=by refine ⟨⟨room,by rw [hh3];exact got a2⟩,(t.keep k2 (by simp;exact ⟨⟨n1.2.1,n1.2.2⟩,⟨n2.2.1,n2.2.2⟩,n3.2.1,n3.2.2⟩) (fun j hj z hz=>by simp;exact (r4 j hj z hz).2.2)).keep k3 (by simp;exact ⟨r2.1.symm,r2.2.1.symm,r2.2.2.1.symm⟩) (fun j hj z hz=>by simpa using (r4 j hj z hz).1),p2.keep k3 (by simp;exact ⟨r2.2.2.2.1.symm,r2.2.2.2.2.1.symm,r2.2.2.2.2.2.symm⟩),r1,r2,r3,r4⟩
 have ⟨h4,e4,k4⟩:=rJ y 0;have e4:run T 78 [.ptr si 0,iQ 0] h3=some (.tuple [.bool (dueS (waitS s fd g)),iQ 0],h4):=by simpa using e4
 refine ⟨h4,run_eq Q7 ?_,y.still k4,(((k1.mono (G:=[si,L.fi,L.wi]) (by simp)).trans' (k2.mono (by simp))).trans' (k3.mono (by simp))).trans' (k4.mono (by simp))⟩;simp [Qk,a0,e1,hh,a,e2,a2,ew,w3,e4]
theorem DM (x:dP h si L s true) (hd:oq s.t.hs s.now=true) (hin:∀ (k:Nat) (e:En) (r:List En),s.t.hs[k]?=some (e::r)->e.2.2∈s.t.has/\r.length<1000000) :
 ∃ (h':AHeap) (k:Nat) (e:En) (r l':List En),run T 152 [.ptr si 0] h=some (.tuple [iQ e.2.2,.bool true],h')/\s.t.hs[k]?=some (e::r)/\e.1<=s.now/\l'.Perm r/\dP h' si L {s with t:={hs:=s.t.hs.set k l',ord:=s.t.ord,has:=s.t.has.erase e.2.2}} true/\Keep (L.ti::L.hi::L.li::L.Fs k) h h':=by
 have en:=nV x;have ⟨⟨room,a⟩,t,p,r1,r2,r3,r4⟩:=x;have ⟨h1,k,e,r,l',e1,hk,hle,hp,x1,k1⟩:=Jj t hd hin;have hkl:=(aa.1 hk).1;have n1:=r3 L.ti (by simp);have n2:=r3 L.li (by simp);have n3:=r3 L.hi (by simp);have q1:si∉L.ti::L.hi::L.li::L.Fs k:=by simp [aD,not_or];exact ⟨r2.1,r2.2.2.1,r2.2.1,fun hm=>(r4 k hkl si hm).1 rfl⟩
 have q2:∀ y,(y=L.pi\/y=L.fi\/y=L.wi)->y∉L.ti::L.hi::L.li::L.Fs k:=by
  intro y hy hm;simp [aD] at hm;rcases hm with rfl | rfl | rfl | hm
  . rcases hy with h | h | h;exact n1.1 h;exact n1.2.1 h;exact n1.2.2 h
  . rcases hy with h | h | h;exact n3.1 h;exact n3.2.1 h;exact n3.2.2 h
  . rcases hy with h | h | h;exact n2.1 h;exact n2.2.1 h;exact n2.2.2 h
  . have:=r4 k hkl y hm;rcases hy with h | h | h;exact this.2.1 h;exact this.2.2.1 h;exact this.2.2.2 h
 have y:dP h1 si L {s with t:={hs:=s.t.hs.set k l',ord:=s.t.ord,has:=s.t.has.erase e.2.2}} true:=
  ⟨⟨room,k1.obj a q1⟩,x1,p.keep k1 ⟨q2 _ (.inl rfl),q2 _ (.inr (.inl rfl)),q2 _ (.inr (.inr rfl))⟩,r1,r2,r3,fun j hj z hz=>r4 j (by simpa using hj) z hz⟩
 have cE:gw (some (AObj.cells false (entA e) none)) 2=some (iQ e.2.2):=rfl;have hz0:([iQ 0,uQ 0,iQ 0]:List AV)=entA (0,0,0):=rfl;have n5:natA h1 5 (.agg (entA e)) (.agg (entA (0,0,0)))=some (.ptr h1.size 0,h1.push (Qc (entA e) none)):=rfl;refine ⟨h1.push (Qc (entA e) none),k,e,r,l',run_eq NS ?_,hk,hle,hp,y.still (Keep.push (F:=[])),k1.trans (Keep.push (F:=[])) (by simp)⟩;simp [N7,a,en,e1,hz0,n5,cE]
end
end
section
def fZ.objs (L:fZ) (si n:Nat):List Nat:=[si,L.ti,L.li,L.hi,L.pi,L.fi,L.wi]++(List.range n).flatMap L.Fs
theorem iS {L:fZ} {si n t:Nat}:t∈L.objs si n↔t=si\/t=L.ti\/t=L.li\/t=L.hi\/t=L.pi\/t=L.fi\/t=L.wi\/∃ k,k<n/\t∈L.Fs k:=by simp [fZ.objs]
def fB (P:Nat):dU:={now:=0,t:={hs:=List.replicate P [],ord:=0,has:=[]},p:={fds:=[],who:=[]},waits:=0}
def takeP (p:Po) (fd g:Int):Po:={fds:=p.fds.eraseP fun x=>decide (x.1=fd),who:=p.who.eraseP fun x=>decide (x.1=g)}
structure NY (p:Po):Prop where
 r:∀ x∈p.fds,0<=x.1/\x.1<65536
 nd:(p.fds.map (·.1)).Nodup
 sz:p.fds.length<=100000
def gX:Prop:=∀ (h:AHeap) (pi fi wi:Nat) (p:Po),jg h pi fi wi p->NY p->
 (oN p.fds=false->∃ h',run T 179 [.ptr pi 0] h=some (.tuple [.int .u16 0,.int .i64 0,.bool false],h')/\Keep [] h h')/\
 (oN p.fds=true->∃ (h':AHeap) (fd g:Int),(fd,g,true,true)∈p.fds/\run T 179 [.ptr pi 0] h=some (.tuple [.int .u16 fd,.int .i64 g,.bool true],h')/\jg h' pi fi wi (takeP p fd g)/\Keep [fi,wi] h h')
inductive yG (s:dU):dU->Int->Bool->Prop
 | none:dueS s=false->yG s s 0 false
 | timer {k:Nat} {e:En} {r l':List En}:oq s.t.hs s.now=true->s.t.hs[k]?=some (e::r)->e.1<=s.now->l'.Perm r->yG s {s with t:={hs:=s.t.hs.set k l',ord:=s.t.ord,has:=s.t.has.erase e.2.2}} e.2.2 true
 | poll {fd g:Int}:oq s.t.hs s.now=false->(fd,g,true,true)∈s.p.fds->yG s {s with p:=takeP s.p fd g,waits:=s.waits-1} g true
structure wc (s:dU):Prop where
 hin:∀ (k:Nat) (e:En) (r:List En),s.t.hs[k]?=some (e::r)->e.2.2∈s.t.has/\r.length<1000000
 po:s.p.fds=[]\/(gX/\NY s.p)
 wa:0<=s.waits/\s.waits<9223372036854775807
section
variable {h h':AHeap} {si:Nat} {L:fZ} {s:dU} {full:Bool}
theorem Jw (h:AHeap) {P:Nat} (hP:1<=P/\P<=64):∃ p L h',run T 47 [iQ (P:Int)] h=some (.ptr p 0,h')/\dP h' p L (fB P) true/\Keep [] h h'/\∀ t∈L.objs p P,h.size<=t:=by
 have hb:(P:Int)*24<=bigA/\P<=bigA:=by simp [bigA];omega
 have e1:max (1:Int) (P:Int)=(P:Int):=by omega
 have e2:min (P:Int) (64:Int)=(P:Int):=by omega
 obtain ⟨h1,hh1⟩:∃ h1,h1=((h.push (Qc (List.replicate P .nilslice) none)).push (.map [] [] 0)).push (Qc [.slice h.size 0 P (.exact P),uQ 0,.map (h.size+1)] none):=⟨_,rfl⟩
 have et:run T 90 [iQ (P:Int)] h=some (.ptr (h.size+2) 0,h1):=by refine run_eq SA ?_;simp [XK,e1,e2,hb,jw,hh1]
 have s1:h1.size=h.size+3:=by rw [hh1];simp
 obtain ⟨h2,hh2⟩:∃ h2,h2=((h1.push (.map [] [] 0)).push (.map [] [] 0)).push (Qc [.map h1.size,.map (h1.size+1)] none):=⟨_,rfl⟩
 have ep:run T 91 [] h1=some (.ptr (h1.size+2) 0,h2):=by refine run_eq VN ?_;simp [YA,hh2]
 have s2:h2.size=h.size+6:=by rw [hh2];simp [s1]
 have k1:Keep [] h h1:=by rw [hh1];exact (Keep.push.trans' Keep.push).trans' Keep.push
 have k2:Keep [] h1 h2:=by rw [hh2];exact (Keep.push.trans' Keep.push).trans' Keep.push
 have k3:Keep [] h2 (h2.push (Qc [iQ 0,.ptr (h.size+2) 0,.ptr (h1.size+2) 0,iQ 0] none)):=Keep.push;have g0:h1.get h.size=some (Qc (List.replicate P .nilslice) none):=by rw [hh1];exact aJ (aJ ak)
 have g1:h1.get (h.size+1)=some (.map [] [] 0):=by rw [hh1];refine aJ ?_;rw [<- dH (h:=h) (x:=.cells false (List.replicate P .nilslice) none)];exact ak
 have g2:h1.get (h.size+2)=some (Qc [.slice h.size 0 P (.exact P),uQ 0,.map (h.size+1)] none):=by
  rw [hh1];have:h.size+2=((h.push (Qc (List.replicate P .nilslice) none)).push (.map [] [] 0)).size:=by simp
  rw [this];exact ak
 have q0:h2.get h1.size=some (.map [] [] 0):=by rw [hh2];exact aJ (aJ ak)
 have q1:h2.get (h1.size+1)=some (.map [] [] 0):=by rw [hh2];refine aJ ?_;rw [<- dH (h:=h1) (x:=.map [] [] 0)];exact ak
 have q2:h2.get (h1.size+2)=some (Qc [.map h1.size,.map (h1.size+1)] none):=by
  rw [hh2];have:h1.size+2=((h1.push (.map [] [] 0)).push (.map [] [] 0)).size:=by simp
  rw [this];exact ak
 have kk:=k2.trans' k3;refine ⟨h2.size,⟨h.size+2,h.size,h.size+1,h1.size+2,h1.size,h1.size+1,fun _=>[]⟩,_,run_eq VY (h':=h2.push (Qc [iQ 0,.ptr (h.size+2) 0,.ptr (h1.size+2) 0,.int .i64 0] none)) ?_,?_,(k1.trans' k2).trans' k3,?_⟩
 . simp [YI,et,ep]
 . refine ⟨⟨none,ak⟩,⟨⟨none,?_⟩,?_,?_,?_,?_,?_,?_⟩,⟨⟨none,?_⟩,⟨[],0,?_,rfl,rfl⟩,⟨[],0,?_,rfl,rfl⟩,?_⟩,?_,?_,?_,?_⟩
   . simpa [fB] using kk.obj g2 (by simp)
   . intro k l hk;simp only [fB,bS] at hk;split at hk;case isFalse=>cases hk
     rename_i hkP;cases hk;exact ⟨⟨.nilslice,none,_,kk.obj g0 (by simp),by simp [hkP],.nil rfl⟩,by simp⟩
   . intro _;exact ⟨[],0,kk.obj g1 (by simp),rfl,rfl⟩
   . simp
   . simp
   . simpa [fB] using hP.2
   . simp [s2]
   . exact k3.obj q2 (by simp)
   . exact k3.obj q0 (by simp)
   . exact k3.obj q1 (by simp)
   . simp
   . simp [fB,isI64]
   . simp only;omega
   . simp;omega
   . simp
 . intro t ht;rw [iS] at ht;simp at ht;omega
theorem LP (x:dP h si L s true) (hp:wc s):∃ (h':AHeap) (s':dU) (g:Int) (is:Bool) (G:List Nat),run T 152 [.ptr si 0] h=some (.tuple [iQ g,.bool is],h')/\yG s s' g is/\dP h' si L s' true/\Keep G h h'/\(∀ t∈G,t∈L.objs si s.t.hs.length)/\s'.t.hs.length=s.t.hs.length:=by
 cases hd:oq s.t.hs s.now with
 | true=>
  have ⟨h1,k,e,r,l',e1,hk,hle,hpm,x1,k1⟩:=DM x hd hp.hin;refine ⟨h1,_,e.2.2,true,_,e1,.timer hd hk hle hpm,x1,k1,?_,by simp⟩;intro t ht;rw [iS];simp [aD] at ht;have:=(aa.1 hk).1;rcases ht with h | h | h | h
  . simp [h]
  . simp [h]
  . simp [h]
  . right;right;right;right;right;right;right;exact ⟨k,this,h⟩
 | false=>
  have en:=nV x;have ⟨room,a⟩:=x.at_;have ⟨h1,e1,k1⟩:=Lz x.t hd;have k2:Keep [] h1 (h1.push (Qc (entA (0,0,0)) none)):=Keep.push;have x2:=(x.still k1).still k2;have hz0:([iQ 0,uQ 0,iQ 0]:List AV)=entA (0,0,0):=rfl;have n5:natA h1 5 (.agg (entA (0,0,0))) (.agg (entA (0,0,0)))=some (.ptr h1.size 0,h1.push (Qc (entA (0,0,0)) none)):=rfl;have a2:(h1.push (Qc (entA (0,0,0)) none)).get si=some _:=k2.obj (k1.obj a (by simp)) (by simp);have cases2:(oN s.p.fds=false/\∃ h3,run T 179 [.ptr L.pi 0] (h1.push (Qc (entA (0,0,0)) none))=some (.tuple [.int .u16 0,iQ 0,.bool false],h3)/\Keep [] (h1.push (Qc (entA (0,0,0)) none)) h3)\/∃ (h3:AHeap) (fd g:Int),(fd,g,true,true)∈s.p.fds/\run T 179 [.ptr L.pi 0] (h1.push (Qc (entA (0,0,0)) none))=some (.tuple [.int .u16 fd,iQ g,.bool true],h3)/\jg h3 L.pi L.fi L.wi (takeP s.p fd g)/\Keep [L.fi,L.wi] (h1.push (Qc (entA (0,0,0)) none)) h3:=by
   rcases hp.po with hf | ⟨hP,hf⟩
   . left;exact ⟨by rw [hf];rfl,uC x2.p hf⟩
   . have ⟨p1,p2⟩:=hP _ _ _ _ _ x2.p hf;cases hdp:oN s.p.fds with
     | false=>left;exact ⟨rfl,p1 hdp⟩
     | true=>right;exact p2 hdp
  rcases cases2 with ⟨hdp,h3,e3,k3⟩ | ⟨h3,fd,g,hm,e3,p3,k3⟩
  . refine ⟨h3,s,0,false,[],run_eq NS ?_,.none (by simp [dueS,hd,hdp]),x2.still k3,(k1.trans' k2).trans' k3,by simp,rfl⟩;simp [N7,a,en,e1,hz0,n5,a2,e3]
  . have ⟨⟨room3,a3⟩,t,p,r1,r2,r3,r4⟩:=x2;have n1:=r3 L.ti (by simp);have n2:=r3 L.li (by simp);have n3:=r3 L.hi (by simp);have a4:=k3.obj a3 (by simp;exact ⟨r2.2.2.2.2.1,r2.2.2.2.2.2⟩);have ew:wQ (s.waits-1)=s.waits-1:=iq (by have:=hp.wa;omega) (by have:=hp.wa;omega);obtain ⟨h4,hh4⟩:∃ h4,h4=h3.put si (Qc [iQ s.now,.ptr L.ti 0,.ptr L.pi 0,iQ (s.waits-1)] room3):=⟨_,rfl⟩
    have w4:writeOf h3 si (some (Qc [iQ s.now,.ptr L.ti 0,.ptr L.pi 0,iQ s.waits] room3)) 3 [iQ (s.waits-1)]=some h4:=by rw [hh4];exact wr1 (by simp) rfl
    have k4:Keep [si] h3 h4:=by rw [hh4];exact Keep.put (by simp)
    have y:dP h4 si L {s with p:=takeP s.p fd g,waits:=s.waits-1} true:=by refine ⟨⟨room3,by rw [hh4];exact got a4⟩,(t.keep k3 (by simp;exact ⟨⟨n1.2.1,n1.2.2⟩,⟨n2.2.1,n2.2.2⟩,n3.2.1,n3.2.2⟩) (fun j hj z hz=>by simp;exact (r4 j hj z hz).2.2)).keep k4 (by simp;exact ⟨r2.1.symm,r2.2.1.symm,r2.2.2.1.symm⟩) (fun j hj z hz=>by simpa using (r4 j hj z hz).1),p3.keep k4 (by simp;exact ⟨r2.2.2.2.1.symm,r2.2.2.2.2.1.symm,r2.2.2.2.2.2.symm⟩),r1,r2,r3,r4⟩
    refine ⟨h4,_,g,true,[si,L.fi,L.wi],run_eq NS ?_,.poll hd hm,y,(((k1.mono (G:=[si,L.fi,L.wi]) (by simp)).trans' (k2.mono (by simp))).trans' (k3.mono (by simp))).trans' (k4.mono (by simp)),?_,rfl⟩
    . simp [N7,a,en,e1,hz0,n5,a3,e3,a4,ew,w4]
    . intro t ht;rw [iS];simp at ht;rcases ht with h | h | h<;>simp [h]
end
end
theorem eR.src {h h':AHeap} {S:jb} {w:W} {X G:List Nat} {own:Nat->Nat} (x:eR h S w X own) (k:Keep G h h') (hG:∀ t∈G,t∈X/\11<=t):eR h' S w X (ext own h.size 0):=by
 have f:Fr own (ext own h.size 0) h h' 0 G:=⟨k,fun t ht=>(x.out t (hG t ht).1).2,ext_same _ _ _⟩
 have lo:∀ t∈G,11<=t:=fun t ht=>(hG t ht).2;have hl:∀ t∈G,t≠1/\t≠2/\t≠3:=fun t ht=>by have:=lo t ht;omega
 have sz:11<=h.size:=by have:=x.nx.r 6 [] rfl;have:=get_lt this;omega
 exact ⟨{x.sz with},k.obj x.pl fun hm=>(hl 1 hm).1 rfl,k.obj x.al fun hm=>(hl 2 hm).2.1 rfl,x.nx.keep k lo,k.obj x.db fun hm=>(hl 3 hm).2.2 rfl,fun t ht=>by rw [f.same t (by omega),x.low t ht],fun t ht=>by
  have ⟨h1,h2⟩:=x.out t ht;exact ⟨cq h1 k.size,by rw [f.same t h1,h2]⟩,
  x.kT f (by omega),x.yM f (by omega),x.vL f (by omega),x.kF f (by omega),x.pN f (by omega),x.qG f (by omega),x.kS f (by omega),x.yN f (by omega),x.pO f (by omega)⟩
section
variable {h h' h'':AHeap} {S:jb} {w w':W} {X F G:List Nat} {own:Nat->Nat} {i k:Nat} {m:Mc}
theorem K9 (x:WorldAt h S w X) (hi:w.all[i]?=some m) (hp:m.pl=8) :∃ h',run T 74 [.ptr S.a 0,iQ (i:Int)] h=some (.tuple [],h')/\WorldAt h' S ((w.cR w.sp (inc (wd w.ws w.sp) (-1))).az i {m with sp:=false,ii:=0,pl:=9}) X/\KX X h h':=by
 have ⟨own,x⟩:=x;have ⟨b,cs,room,rv,F,u,room0,hb,hc,hx,up,v,hF,hd,⟨f0,f1,f2,f3,f4,f5,f6,f7,f8,f9,f10,f11⟩,⟨l0,ll⟩,_⟩:=x.mz hi;have hF':∀ t∈F,own t=8/\t<h.size:=fun t ht=>⟨hF t ht,v.lt t ht⟩
 have nF:∀ t∈F,t∉[S.mi,S.mj]:=fun t ht=>by have:=hF t ht;have:=x.mem;simp;constructor<;>(rintro rfl;omega)
 have na:S.a≠S.ao:=fun e=>by have:=x.ca;rw [e,x.all.1] at this;omega
 have ⟨cnt,mm,n1,n2,n3,n4⟩:=x.gC;have sz:=x.sz;have s1:=sz.P;have s2:=sz.M;have s3:=sz.G;have s4:=sz.ws;rw [hp] at f0;have ⟨h1,e1,m1,k1⟩:=qk (k:=(w.sp:Int)) mm (by omega) (by have:=ux sz;omega) (-1);have hc1:=k1.obj hc (by simp [n1,n2]);have hd1:=k1.obj hd (by simp [n3,n4]);rw [aC] at e1 m1;have ⟨y2,k2⟩:=x.mn (m':={m with sp:=false,ii:=0,pl:=9}) m1 (by simp) k1 hi hc1 hb (((up.spin false).int 6 0).place 9) (v.keep k1 nF) hF';refine run_val T_74 ?_;simp [F74,-writeOf_some,-getElem?_pos,hd,hx,hc,wrI,wrB,ll,l0,f0,e1,hc1];exact ⟨y2,k2⟩
theorem z9 (x:WorldAt h S w X) (hi:w.all[i]?=some m) (hp:m.pl=12) :∃ h',run T 74 [.ptr S.a 0,iQ (i:Int)] h=some (.tuple [],h')/\WorldAt h' S ((w.cR w.sp (inc (wd w.ws w.sp) 1)).az i {m with sp:=true,pl:=4}) X/\KX X h h':=by
 have ⟨own,x⟩:=x;have ⟨b,cs,room,rv,F,u,room0,hb,hc,hx,up,v,hF,hd,⟨f0,f1,f2,f3,f4,f5,f6,f7,f8,f9,f10,f11⟩,⟨l0,ll⟩,_⟩:=x.mz hi;have hF':∀ t∈F,own t=8/\t<h.size:=fun t ht=>⟨hF t ht,v.lt t ht⟩
 have nF:∀ t∈F,t∉[S.mi,S.mj]:=fun t ht=>by have:=hF t ht;have:=x.mem;simp;constructor<;>(rintro rfl;omega)
 have na:S.a≠S.ao:=fun e=>by have:=x.ca;rw [e,x.all.1] at this;omega
 have ⟨cnt,mm,n1,n2,n3,n4⟩:=x.gC;have sz:=x.sz;have s1:=sz.P;have s2:=sz.M;have s3:=sz.G;have s4:=sz.ws;rw [hp] at f0;have ⟨h1,e1,m1,k1⟩:=qk (k:=(w.sp:Int)) mm (by omega) (by have:=ux sz;omega) 1;have hc1:=k1.obj hc (by simp [n1,n2]);have hd1:=k1.obj hd (by simp [n3,n4]);rw [aC] at e1 m1;have ⟨y2,k2⟩:=x.mn (m':={m with sp:=true,pl:=4}) m1 (by simp) k1 hi hc1 hb ((up.spin true).place 4) (v.keep k1 nF) hF';refine run_val T_74 ?_;simp [F74,-writeOf_some,-getElem?_pos,hd,hx,hc,wrI,wrB,ll,l0,f0,e1,hc1];exact ⟨y2,k2⟩
end
section
section
variable {h h':AHeap} {i j F N:Nat} {ws:List Int} {cnt g b:Int}
theorem OU (m:MemAt h i j ws cnt) (hb:0<=b/\b<7) (hg:0<=g/\g<N) (hN:F+N<=ws.length) (hw:ws.length<=100000):∃ h' cnt',run T 119 [LI F N,.ptr i 0,iQ g,uQ b] h=some (.bool true,h')/\MemAt h' i j (ws.set (F+g.toNat) b) cnt'/\Keep [i,j] h h':=by have kp:Keep [] h (h.push (Qc [iQ (F:Int),iQ (N:Int)] none)):=Keep.push;have ⟨h1,e1,k1⟩:=CH (h.push (Qc [iQ (F:Int),iQ (N:Int)] none)) F N g;rw [decide_eq_true hg] at e1;have hbx:h1.get h.size=some (Qc [iQ (F:Int),iQ (N:Int)] none):=k1.obj ak (by simp);have ⟨h2,e2,m2,k2⟩:=Au ((m.keep kp (by simp) (by simp)).keep k1 (by simp) (by simp)) (k:=(F:Int)+g) (by omega) (by omega) b;rw [show ((F:Int)+g).toNat=F+g.toNat by omega] at m2;have hwr:wQ ((F:Int)+g)=(F:Int)+g:=rQ;have hlt:b<7:=hb.2;refine ⟨h2,_,run_eq Xo ?_,m2,((kp.trans' k1).mono (by simp)).trans' k2⟩;simp [TR,e1,hbx,hwr,e2,hlt]
end
section
variable {h h' h'':AHeap} {S:jb} {w w':W} {X F G:List Nat} {own:Nat->Nat} {i k:Nat} {m:Mc}
theorem K6 (x:WorldAt h S w X) (hi:w.all[i]?=some m) (hp:m.pl=26) (hg:0<=m.got/\m.got<w.G) (hr:rB (1,m.got,(i:Int),m.p,0)=true) (hl:w.lg<=1000000000):∃ h',run T 74 [.ptr S.a 0,iQ (i:Int)] h=some (.tuple [],h')/\WorldAt h' S (({w with ws:=w.ws.set (w.tb+m.got.toNat) 1}:W).cd.az i {m with bk:=25,pl:=27}) X/\KX X h h':=by
 have ⟨own,x⟩:=x;have ⟨b,cs,room,rv,F,u,room0,hb,hc,hx,up,v,hF,hd,⟨f0,f1,f2,f3,f4,f5,f6,f7,f8,f9,f10,f11⟩,⟨l0,ll⟩,_⟩:=x.mz hi;have hF':∀ t∈F,own t=8/\t<h.size:=fun t ht=>⟨hF t ht,v.lt t ht⟩
 have nF:∀ t∈F,t∉[S.mi,S.mj]:=fun t ht=>by have:=hF t ht;have:=x.mem;simp;constructor<;>(rintro rfl;omega)
 have na:S.a≠S.ao:=fun e=>by have:=x.ca;rw [e,x.all.1] at this;omega
 have ⟨cnt,mm,n1,n2,n3,n4⟩:=x.gC;have sz:=x.sz;have s1:=sz.P;have s2:=sz.M;have s3:=sz.G;have s4:=sz.ws;rw [hp] at f0;have ⟨h1,cnt1,e1,m1,k1⟩:=OU (F:=w.tb) (N:=w.G) mm (b:=1) (by omega) hg (iu sz).1 (iu sz).2;have hc1:=k1.obj hc (by simp [n1,n2]);have hd1:=k1.obj hd (by simp [n3,n4]);have x1:=x.j7 0 m1 (by simp) k1;have ⟨h2,e2,x2,k2⟩:=rG (w:={w with ws:=w.ws.set (w.tb+m.got.toNat) 1}) (i:=i) ⟨_,x1⟩ hi hr hl;have ⟨o2,x2⟩:=x2;have hi2:(({w with ws:=w.ws.set (w.tb+m.got.toNat) 1}:W).cd).all[i]?=some m:=hi;have ⟨b2,c2,r2,v2,F2,hb2,hc2,hx2,up2,vv2,hF2⟩:=x2.fA hi2;have hbb:b2=b:=by rw [hb,hb2]
 subst hbb;have ⟨l20,ll2⟩:=up2.foc.lt;have ⟨p0,p1,p2,p3,p4,p5,p6,p7,p8,p9,p10,p11⟩:=up2.foc.facts;have ⟨y3,k3⟩:=x2.bY (m':={m with bk:=25,pl:=27}) hi2 hc2 hb2 ((up2.int 10 25).place 27) vv2 hF2;refine run_val T_74 ?_;simp [F74,-writeOf_some,hd,hx,hc,wrI,f0,f4,e1,e2,hc1,hc2,ll2,l20];exact ⟨y3,((x.Ja k1).trans k2).trans k3⟩
end
end
section
variable {x p:Nat}
def insP (p:Nat):List Nat->List Nat
 | []=>[p]
 | x::l=>if p<x then p::x::l else x::insP p l
theorem xy :∀ {l:List Nat},x∈insP p l↔x=p\/x∈l
 | []=>by simp [insP]
 | y::l=>by
  simp [insP];split
  . simp
  . simp [aD,xy (l:=l)];constructor
    . rintro (h | h | h)<;>simp [h]
    . rintro (h | h | h)<;>simp [h]
theorem ye :∀ {l:List Nat},l.Pairwise (·<·)->p∉l->(insP p l).Pairwise (·<·)
 | [],_,_=>by simp [insP]
 | y::l,h,hn=>by
  simp [iU,aD,not_or] at h hn;simp [insP];split
  . rename_i hpy;simp only [iU,aD];refine ⟨?_,h.1,h.2⟩;rintro a (rfl | ha)
    . exact hpy
    . have:=h.1 a ha;omega
  . simp [iU];refine ⟨fun a ha=>?_,ye h.2 hn.2⟩;rcases xy.1 ha with rfl | ha
    . omega
    . exact h.1 a ha
theorem yv :∀ {l:List Nat},(insP p l).count x=l.count x+if x=p then 1 else 0
 | []=>by
  simp [insP,bR,List.count_nil,beq_iff_eq];by_cases h:x=p
  . simp [h]
  . simp [h,aY h]
 | y::l=>by
  simp [insP];split
  . simp [bR,beq_iff_eq];by_cases h:x=p
    . simp [h]
    . simp [h,aY h]
  . simp [bR,yv (l:=l)];omega
section
variable {h h' h'':AHeap} {S:jb} {w:W} {X F G:List Nat} {own:Nat->Nat} {i k:Nat} {m:Mc} {r:Rg}
def Rest6 (h:AHeap) (S:jb) (w:W) (X:List Nat) (h':AHeap):Prop:=∀ j,(∀ own,eR h S w X own->own j≠6)->h'.get j=h.get j\/h.size<=j
theorem rest6_of (x:eR h S w X own) (k1:Keep F h h') (c:∀ t∈F,own t=6):Rest6 h S w X h':=fun j hj=>by
 rcases bH j h.size with hl | hl
 . exact dc (k1.get j hl fun hm=>hj own x (c j hm))
 . exact dx hl
theorem Rest6.obj (r:Rest6 h S w X h') {j:Nat} {o:AObj} (e:h.get j=some o) (hj:∀ own,eR h S w X own->own j≠6):h'.get j=some o:=by
 rcases r j hj with h1 | h1
 . rw [h1];exact e
 . have:=get_lt e;omega
theorem RT (x:WorldAt h S w X) (hp:p<w.P) (hn:p∉w.ip) (hpe:(p:Int)∉w.pend) (hl:w.pend.length<=1000):∃ h',run T 51 [.ptr S.ii 0,iQ (p:Int)] h=some (.bool true,h')/\WorldAt h' S {w with ip:=insP p w.ip} X/\KX X h h'/\Rest6 h S w X h':=by
 have ⟨own,x⟩:=x;have ⟨FT,wz,b,hm,c⟩:=x.idle;have hb:lE wz p=false:=by
  cases hb:lE wz p with
  | false=>rfl
  | true=>exact absurd (hm▸iY.2 hb) hn
 have ⟨h1,e1,b1,k1⟩:=D9 b (by omega) hpe hp hb;have hw:p / 64<wz.length:=by have ⟨_,_,_,_,_,_,_,mk,_⟩:=b;unfold eS at mk;have:=mk.2.1.len;omega
 have hm1:mem (flip wz p)=insP p w.ip:=tG (jT _) (ye (by rw [<- hm];exact (jT _)) hn) fun y=>by
  rw [xy,<- hm,iY,iY,sR hw];by_cases hy:y=p
  . subst hy;simp [hb]
  . simp [hy]
 exact ⟨h1,e1,⟨_,x.ie b c b1 hm1 k1 fun t ht=>dc ht⟩,x.kx k1 c (by omega),rest6_of x k1 c⟩
theorem DK (x:WorldAt h S w X) {k:Nat} (hk:k<w.M) (hq:w.q=-1) (hn:(k:Int)∉w.ms) (hl:w.ms.length<=1000):∃ h',run T 53 [.ptr S.ii 0,iQ (k:Int)] h=some (.tuple [.bool true,.bool true],h')/\WorldAt h' S {w with q:=(k:Int)} X/\KX X h h'/\Rest6 h S w X h':=by have ⟨own,x⟩:=x;have ⟨FT,wz,b,hm,c⟩:=x.idle;have b0:=b;rw [hq] at b;have ⟨h1,e1,b1,k1⟩:=stop_first b (by omega) (by omega) (by omega) hn;exact ⟨h1,e1,⟨_,x.ie b0 c b1 hm k1 fun t ht=>dc ht⟩,x.kx k1 c (by omega),rest6_of x k1 c⟩
theorem FU (x:WorldAt h S w X) {k:Nat} (hk:k<w.M) (hq:w.q≠-1) (hqk:(k:Int)≠w.q) (hn:(k:Int)∉w.ms) (hl:w.ms.length<=1000):∃ h',run T 53 [.ptr S.ii 0,iQ (k:Int)] h=some (.tuple [.bool false,.bool true],h')/\WorldAt h' S {w with ms:=w.ms++[(k:Int)]} X/\KX X h h'/\Rest6 h S w X h':=by have ⟨own,x⟩:=x;have ⟨FT,wz,b,hm,c⟩:=x.idle;have ⟨h1,FT',e1,b1,k1,f1⟩:=stop_more b (by omega) (by omega) (by omega) hqk hn hq;exact ⟨h1,e1,⟨_,x.ie b c b1 hm k1 f1⟩,x.kx k1 c (by omega),rest6_of x k1 c⟩
theorem qv (x:WorldAt h S w X):(w.pend=[]->run T 149 [.ptr S.ii 0] h=some (.tuple [iQ 0,.bool false],h))/\∀ p L,w.pend=p::L->L.length<=1000->∃ h',run T 149 [.ptr S.ii 0] h=some (.tuple [iQ p,.bool true],h')/\WorldAt h' S {w with pend:=L} X/\KX X h h'/\Rest6 h S w X h':=by
 have ⟨own,x⟩:=x;have ⟨FT,wz,b,hm,c⟩:=x.idle;refine ⟨fun hn=>?_,fun p L hp hl=>?_⟩
 . rw [hn] at b;exact tt b
 . have b0:=b;rw [hp] at b;have ⟨h1,FT',e1,b1,k1,f1⟩:=tq b (by omega);exact ⟨h1,e1,⟨_,x.ie b0 c b1 hm k1 f1⟩,x.kx k1 c (by omega),rest6_of x k1 c⟩
theorem Ix (x:WorldAt h S w X):(w.q≠(k:Int)->run T 75 [.ptr S.ii 0,iQ (k:Int)] h=some (.bool false,h))/\(w.q=(k:Int)->∃ h',run T 75 [.ptr S.ii 0,iQ (k:Int)] h=some (.bool true,h')/\WorldAt h' S {w with q:=-1} X/\KX X h h'/\Rest6 h S w X h'):=by have ⟨own,x⟩:=x;have ⟨FT,wz,b,hm,c⟩:=x.idle;refine ⟨fun hn=>leave_no b (dx (aY hn)),fun hq=>?_⟩;have ⟨h1,e1,b1,k1⟩:=leave_yes b (by omega);rw [hq] at e1;exact ⟨h1,e1,⟨_,x.ie b c b1 hm k1 fun t ht=>dc ht⟩,x.kx k1 c (by omega),rest6_of x k1 c⟩
theorem takeMNone_w (x:WorldAt h S w X) (hm0:w.ms=[]) (hq:w.q=-1):∃ h',run T 180 [.ptr S.ii 0] h=some (.tuple [iQ 0,.bool false],h')/\WorldAt h' S w X/\KX X h h'/\Rest6 h S w X h':=by
 have ⟨own,x⟩:=x;have ⟨FT,wz,b,hm,c⟩:=x.idle;have b0:=b;rw [hm0,hq] at b;have ⟨h1,e1,b1,k1⟩:=wV b;have y:=x.ie b0 c b1 hm k1 fun t ht=>dc ht;have ew:({w with ip:=w.ip,pend:=w.pend,ms:=[],q:=-1}:W)=w:=by cases w;simp only at hm0 hq;subst hm0 hq;rfl
 rw [ew] at y;exact ⟨h1,by rw [show max (0:Int) (-1)=0 by decide] at e1;exact e1,⟨_,y⟩,x.kx k1 c (by omega),rest6_of x k1 c⟩
theorem pend_w (x:WorldAt h S w X) (hp:p<w.P) (hn:p∉w.ip) (hpe:(p:Int)∉w.pend) (hl:w.pend.length<=1000):∃ h',run T 181 [.ptr S.ii 0,iQ (p:Int)] h=some (.bool true,h')/\WorldAt h' S {w with pend:=w.pend++[(p:Int)]} X/\KX X h h'/\Rest6 h S w X h':=by
 have ⟨own,x⟩:=x;have ⟨FT,wz,b,hm,c⟩:=x.idle;have hb:lE wz p=false:=by
  cases hb:lE wz p with
  | false=>rfl
  | true=>exact absurd (hm▸iY.2 hb) hn
 have ⟨h1,FT',e1,b1,k1,f1⟩:=Mv b (by omega) hp hb hpe;exact ⟨h1,e1,⟨_,x.ie b c b1 hm k1 f1⟩,x.kx k1 c (by omega),rest6_of x k1 c⟩
end
end
section
variable {h h' h'':AHeap} {S:jb} {w:W} {X F G:List Nat} {own:Nat->Nat} {i k:Nat} {m:Mc} {r:Rg}
theorem eR.pR (x:eR h S w X own) {is:Bool} (hf:w.flag[i]?=some is) (z:Bool):∃ room,h.get S.fo=some (Qc (boolsA w.flag) room)/\WorldAt (h.put S.fo (Qc (boolsA (w.flag.set i z)) room)) S (w.aL i z) X/\KX X h (h.put S.fo (Qc (boolsA (w.flag.set i z)) room))/\idxAddrV 1 none (.slice S.fo 0 w.M (.exact w.M)) (iQ (i:Int))=some (.ptr S.fo i)/\i<w.flag.length/\S.fo≠S.ao/\S.a≠S.fo:=by have ⟨room2,hfl,hfx,hfa,hfL⟩:=x.fl hf;refine ⟨room2,hfl,⟨own,x.Dr (by simp)⟩,x.kx (c:=9) (G:=[S.fo]) (Keep.put (by simp)) (by simpa using x.flag.1) (by omega),hfx,hfL,fun e=>by have:=x.flag.1;rw [e,x.all.1] at this;omega,fun e=>by have:=x.ca;rw [e,x.flag.1] at this;omega⟩
theorem jA (x:eR h S w X own) (hi:w.all[i]?=some m):∃ is,w.flag[i]?=some is:=
 ⟨_,ah (show i<w.flag.length by have:=(aa.1 hi).1;have:=x.lens;omega)⟩
theorem eR.HP (x:eR h S w X own):own S.a≠6/\own S.ao≠6/\own S.fo≠6:=⟨by rw [x.ca];omega,by rw [x.all.1];omega,by rw [x.flag.1];omega⟩
theorem Sl (x:WorldAt h S w X) (hi:w.all[i]?=some m) (hp:m.pl=2) (hl:w.gl.length<=1000) (times:Int):∃ h',run T 113 [.ptr S.a 0,iQ (i:Int),iQ times] h=some (.bool false,h')/\WorldAt h' S (oneW {w with gl:=w.gl.drop 1} i m (w.gl.headD 0) (decide (w.gl≠[]))) X/\KX X h h':=by
 have ⟨own,x⟩:=x;have ⟨b,cs,room,rv,Fr,u,room0,hb,hc,hx,up,v,hF,hd,⟨f0,f1,f2,f3,f4,f5,f6,f7,f8,f9,f10,f11⟩,_⟩:=x.mz hi;have ⟨Fg,bg,cg⟩:=x.glob;have ⟨h1,e1,b1,k1⟩:=J0 bg (by omega);have x1:=x.tf bg cg b1 k1 0;obtain ⟨g,hg⟩:∃ g,w.gl.headD 0=g:=⟨_,rfl⟩
 obtain ⟨is,his⟩:∃ is,decide (w.gl≠[])=is:=⟨_,rfl⟩
 rw [hg,his] at e1 ⊢;have ⟨h2,e2,x2,k2⟩:=Gx (w:={w with gl:=w.gl.drop 1}) (m:=m) (i:=i) ⟨_,x1⟩ hi g is;rw [hp] at f0;refine run_val T_113 ?_;simp [F113,hd,hx,hc,f0,e1,e2,ad,-List.drop_one];exact ⟨x2,(x.kx (c:=5) k1 cg (by omega)).trans k2⟩
theorem zX (x:WorldAt h S w X) (hi:w.all[i]?=some m) (hp:m.pl=7) (hl:w.gl.length<=1000) (hg:w.gl≠[]) (times:Int):∃ h',run T 113 [.ptr S.a 0,iQ (i:Int),iQ times] h=some (.bool false,h')/\WorldAt h' S (foundW {w with gl:=w.gl.drop (shareN w.gl.length w.P)} i m (w.gl.take (shareN w.gl.length w.P))) X/\KX X h h':=by
 have ⟨own,x⟩:=x;have ⟨b,cs,room,rv,Fr,u,room0,hb,hc,hx,up,v,hF,hd,⟨f0,f1,f2,f3,f4,f5,f6,f7,f8,f9,f10,f11⟩,_⟩:=x.mz hi;have ⟨Fg,bg,cg⟩:=x.glob;have ⟨s',h1,G,e1,v1,b1,k1,fG⟩:=queue_take bg x.sz.P.1 (by omega);have x1:=(x.tf bg cg b1 k1 0).Oi (F:=G) (fun t ht=>⟨v1.lt t ht,ext_new own (fG t ht)⟩);have ⟨is,hf⟩:=jA x hi;have hpos:0<shareN w.gl.length w.P:=xb (eX.2 hg);obtain ⟨g,l,hgl⟩:∃ g l,w.gl.take (shareN w.gl.length w.P)=g::l:=by
  cases ht:w.gl.take (shareN w.gl.length w.P) with
  | nil=>rw [Ae] at ht;rcases ht with h0 | h0;omega;exact absurd h0 hg
  | cons g l=>exact ⟨g,l,rfl⟩
 have ⟨h2,e2,x2,k2⟩:=found_ok (w:={w with gl:=w.gl.drop (shareN w.gl.length w.P)}) (m:=m) (i:=i) ⟨_,x1⟩ hi v1.view (by simp;intro t ht;exact dc ht) (by simp;omega);rw [hgl] at x2 ⊢;have ⟨o2,y2⟩:=x2;have hf2:(foundW {w with gl:=w.gl.drop (shareN w.gl.length w.P)} i m (g::l)).flag[i]?=some true:=by show (w.flag.set i true)[i]?=some true;rw [ax (aa.1 hf).1]
 have ⟨room2,hfl,hfx,hfa,hfL⟩:=y2.fl hf2;have ⟨u2,r2,hd2⟩:=y2.hd;have hM2:(foundW {w with gl:=w.gl.drop (shareN w.gl.length w.P)} i m (g::l)).M=w.M:=rfl;have hh2:(headA S (foundW {w with gl:=w.gl.drop (shareN w.gl.length w.P)} i m (g::l)) u2)[14]?=some (.slice S.fo 0 w.M (.exact w.M)):=rfl;rw [hM2] at hfx;rw [hp] at f0;refine run_val T_113 ?_;simp [-headA_14,F113,hd,hx,hc,f0,e1,e2,hd2,hh2,hfl,hfx,hfa];exact ⟨WorldAt.sub ⟨o2,y2⟩ (by simp;intro t ht;exact dx ht),(x.kx (c:=5) k1 cg (by omega)).trans (k2.sub (by simp;intro t ht;exact dx ht))⟩
theorem CT (x:WorldAt h S w X) (hi:w.all[i]?=some m) (hp:m.pl=7) (hg:w.gl=[]) (hk:m.p=k) (hkP:k<w.P) (hn:k∉w.ip) (hpe:(k:Int)∉w.pend) (hpl:w.pend.length<=1000) (times:Int):∃ h',run T 113 [.ptr S.a 0,iQ (i:Int),iQ times] h=some (.bool false,h')/\WorldAt h' S (({w.aL i false with ip:=insP k w.ip}:W).az i {m with p:=-1}) X/\KX X h h':=by
 have ⟨own,x⟩:=x;have ⟨b,cs,room,rv,Fr,u,room0,hb,hc,hx,up,v,hF,hd,⟨f0,f1,f2,f3,f4,f5,f6,f7,f8,f9,f10,f11⟩,_⟩:=x.mz hi;have ⟨Fg,bg,cg⟩:=x.glob;have ⟨s',h1,G,e1,v1,b1,k1,fG⟩:=queue_take bg x.sz.P.1 (by rw [hg];simp);have x1:=(x.tf bg cg b1 k1 0).Oi (F:=G) (fun t ht=>⟨v1.lt t ht,ext_new own (fG t ht)⟩);have ⟨is,hf⟩:=jA x hi;have hlt:=(aa.1 hf).1;rw [hg] at x1 v1;simp [List.take_nil,List.drop_nil] at x1 v1;have ew:({w with gl:=([]:List Int)}:W)=w:=by cases w;simp only at hg;subst hg;rfl
 rw [ew] at x1;have ⟨h2,e2,x2,k2⟩:=found_ok (w:=w) (m:=m) (i:=i) (l:=[]) ⟨_,x1⟩ hi v1.view (by simp;intro t ht;exact dc ht) (by simp);have x2:WorldAt h2 S (w.aL i false) (G++X):=x2;have ⟨o2,y2⟩:=id x2;have hf2:(w.aL i false).flag[i]?=some false:=by show (w.flag.set i false)[i]?=some false;rw [ax hlt]
 have ⟨room2,hfl,hfx,hfa,hfL⟩:=y2.fl hf2;have ⟨u2,r2,hd2⟩:=y2.hd;have hi2:(w.aL i false).all[i]?=some m:=hi;have ⟨b2,c2,rr2,v2,F2,hb2,hc2,hx2,up2,vv2,hF2⟩:=y2.fA hi2;have hbb:b2=b:=by rw [hb,hb2]
 subst hbb;have ⟨p0,p1,p2,p3,p4,p5,p6,p7,p8,p9,p10,p11⟩:=up2.foc.facts;have ⟨h3,e3,x3,k3,g3⟩:=RT (p:=k) x2 hkP hn hpe hpl;have hc3:=g3.obj hc2 (fun own y=>y.HP.2.1);have ⟨o3,y3⟩:=x3;have hi3:({w.aL i false with ip:=insP k w.ip}:W).all[i]?=some m:=hi;have ⟨b3,c3,rr3,v3,F3,hb3,hc3',hx3,up3,vv3,hF3⟩:=y3.fA hi3;have hbb:b3=b2:=by rw [hb2,hb3]
 subst hbb;rw [hc3] at hc3';cases hc3';have ⟨l30,ll3⟩:=up3.foc.lt;have ⟨y4,k4⟩:=y3.bY (m':={m with p:=-1}) hi3 hc3 hb3 (up3.int 1 (-1)) vv3 hF3;have hh2:(headA S (w.aL i false) u2)[14]?=some (.slice S.fo 0 w.M (.exact w.M)):=rfl;have hfx':idxAddrV 1 none (.slice S.fo 0 w.M (.exact w.M)) (iQ (i:Int))=some (.ptr S.fo i):=hfx;rw [hp] at f0;rw [hk] at p1;refine run_val T_113 ?_;simp [-writeOf_some,-getElem?_pos,F113,hd,hx,hc,f0,e1,e2,hd2,hh2,-headA_14,hfl,hfx',hfa,hc2,p1,e3,hc3,wrI,ll3];exact ⟨y4.sub (by simp;intro t ht;exact dx ht),((x.kx (c:=5) k1 cg (by omega)).trans (((k2.trans k3).trans k4).sub (by simp;intro t ht;exact dx ht)))⟩
theorem PH (x:WorldAt h S w X) (hi:w.all[i]?=some m) (hp:m.pl=9) (hk:m.ii=k) (hr:w.rings[k]?=some r) (times:Int):∃ h',run T 113 [.ptr S.a 0,iQ (i:Int),iQ times] h=some (.bool false,h')/\WorldAt h' S (w.aL i (decide (r.row≠[]\/r.is=true))) X/\KX X h h':=by
 have ⟨own,x⟩:=x;have ⟨b,cs,room,rv,Fr,u,room0,hb,hc,hx,up,v,hF,hd,⟨f0,f1,f2,f3,f4,f5,f6,f7,f8,f9,f10,f11⟩,_⟩:=x.mz hi;have ⟨t,j,o,q0,y,c,q1,q2⟩:=x.rg hr;have e1:=Me y;have ⟨is,hf⟩:=jA x hi;have ⟨room2,hfl,x2,k2,hfx,hfL,n1,n2⟩:=x.pR hf (decide (r.row≠[]\/r.is=true));have hz:decide (0<(r.row.length:Int)+(if r.is=true then 1 else 0))=decide (r.row≠[]\/r.is=true):=by
  apply decide_eq_decide.2;cases hrow:r.row with
  | nil=>cases r.is<;>simp
  | cons a l=>simp;split<;>omega
 have hz':decide (0<(r.row.length:Int)+(if r.is=true then 1 else 0))=decide (r.row≠[]\/r.is=true):=hz;generalize hv:(r.row.length:Int)+(if r.is=true then 1 else 0)=v at e1 hz';generalize hbb:decide (r.row≠[]\/r.is=true)=bb at x2 k2 hz' ⊢;have wS:writeOf h S.fo (some (Qc (boolsA w.flag) room2)) i [.bool bb]=some (h.put S.fo (Qc (boolsA (w.flag.set i bb)) room2)):=by rw [wrB (by simpa using hfL),boolsA_set]
 rw [hp] at f0;rw [hk] at f6;refine run_val T_113 ?_;simp [F113,hd,hx,hc,f0,f6,q1,q2,e1,hz',hfl,hfx,wS];exact ⟨x2,k2⟩
theorem Nl (x:WorldAt h S w X) (hi:w.all[i]?=some m) (hp:m.pl=10) (times:Int):∃ h',run T 113 [.ptr S.a 0,iQ (i:Int),iQ times] h=some (.bool false,h')/\WorldAt h' S (w.aL i (decide (w.gl≠[]))) X/\KX X h h':=by
 have ⟨own,x⟩:=x;have ⟨b,cs,room,rv,Fr,u,room0,hb,hc,hx,up,v,hF,hd,⟨f0,f1,f2,f3,f4,f5,f6,f7,f8,f9,f10,f11⟩,_⟩:=x.mz hi;have ⟨Fg,bg,cg⟩:=x.glob;have e1:=AI bg;have ⟨is,hf⟩:=jA x hi;have ⟨room2,hfl,x2,k2,hfx,hfL,n1,n2⟩:=x.pR hf (decide (w.gl≠[]));have hz:decide (0<(w.gl.length:Int))=decide (w.gl≠[]):=by
  apply decide_eq_decide.2;cases hrow:w.gl with
  | nil=>simp
  | cons a l=>simp
 generalize hv:(w.gl.length:Int)=v at e1 hz;generalize hbb:decide (w.gl≠[])=bb at x2 k2 hz ⊢;have wS:writeOf h S.fo (some (Qc (boolsA w.flag) room2)) i [.bool bb]=some (h.put S.fo (Qc (boolsA (w.flag.set i bb)) room2)):=by rw [wrB (by simpa using hfL),boolsA_set]
 rw [hp] at f0;refine run_val T_113 ?_;simp [F113,hd,hx,hc,f0,e1,hz,hfl,hfx,wS];exact ⟨x2,k2⟩
theorem hold_ok (x:WorldAt h S w X) (hi:w.all[i]?=some m) (p:Int) (is:Bool):∃ h',run T 148 [.ptr S.a 0,iQ (i:Int),iQ p,.bool is] h=some (.tuple [],h')/\WorldAt h' S (if is=true then (w.aL i true).az i {m with p:=p} else w.aL i false) X/\KX X h h':=by
 have ⟨own,x⟩:=x;have ⟨b,cs,room,rv,Fr,u,room0,hb,hc,hx,up,v,hF,hd,⟨f0,f1,f2,f3,f4,f5,f6,f7,f8,f9,f10,f11⟩,⟨l0,ll⟩,_⟩:=x.mz hi;have ⟨is0,hf⟩:=jA x hi;have ⟨room2,hfl,x2,k2,hfx,hfL,n1,n2⟩:=x.pR hf is;have wS:writeOf h S.fo (some (Qc (boolsA w.flag) room2)) i [.bool is]=some (h.put S.fo (Qc (boolsA (w.flag.set i is)) room2)):=by rw [wrB (by simpa using hfL),boolsA_set]
 cases is with
 | false=>refine run_val T_148 ?_;simp [F148,hd,hfl,hfx,wS];exact ⟨x2,k2⟩
 | true=>
  have hc2:(h.put S.fo (Qc (boolsA (w.flag.set i true)) room2)).get S.ao=some (Qc cs room):=by rw [get_put_ne (aY n1),hc]
  have hd2:(h.put S.fo (Qc (boolsA (w.flag.set i true)) room2)).get S.a=some (Qc (headA S w u) room0):=by rw [get_put_ne n2,hd]
  have ⟨o2,y2⟩:=x2;have hi2:(w.aL i true).all[i]?=some m:=hi;have ⟨b2,c2,rr2,v2,F2,hb2,hc2',hx2,up2,vv2,hF2⟩:=y2.fA hi2;have hbb:b2=b:=by rw [hb,hb2]
  subst hbb;rw [hc2] at hc2';cases hc2';have ⟨y3,k3⟩:=y2.bY (m':={m with p:=p}) hi2 hc2 hb2 (up2.int 1 p) vv2 hF2;refine run_val T_148 ?_;simp [-writeOf_some,F148,hd,hx,hfl,hfx,wS,hc2,hd2,wrI,ll];exact ⟨y3,k2.trans k3⟩
end
section
variable {h h' h'':AHeap} {S:jb} {w:W} {X F G:List Nat} {own:Nat->Nat} {i k:Nat} {m:Mc} {r:Rg}
theorem EX (x:WorldAt h S w X) (hi:w.all[i]?=some m) (hp:m.pl=11) (hn:w.ip=[]) (times:Int):∃ h',run T 113 [.ptr S.a 0,iQ (i:Int),iQ times] h=some (.bool false,h')/\WorldAt h' S (w.aL i false) X/\KX X h h':=by have e1:=(takeP_w x).1 hn;have ⟨h2,e2,x2,k2⟩:=hold_ok x hi 0 false;have ⟨own,x⟩:=x;have ⟨b,cs,room,rv,Fr,u,room0,hb,hc,hx,up,v,hF,hd,⟨f0,f1,f2,f3,f4,f5,f6,f7,f8,f9,f10,f11⟩,_⟩:=x.mz hi;rw [hp] at f0;refine run_val T_113 ?_;simp [ad,av,F113,hd,hx,hc,f0,e1,e2];exact ⟨x2,k2⟩
theorem CS (x:WorldAt h S w X) (hi:w.all[i]?=some m) (hp:m.pl=11) {p:Nat} {L:List Nat} (hn:w.ip=p::L) (times:Int):∃ h',run T 113 [.ptr S.a 0,iQ (i:Int),iQ times] h=some (.bool false,h')/\WorldAt h' S ((({w with ip:=L}:W).aL i true).az i {m with p:=(p:Int)}) X/\KX X h h':=by have ⟨h1,e1,x1,_,k1⟩:=(takeP_w x).2 p L hn;have ⟨h2,e2,x2,k2⟩:=hold_ok x1 (w:={w with ip:=L}) hi (p:Int) true;have ⟨own,x⟩:=x;have ⟨b,cs,room,rv,Fr,u,room0,hb,hc,hx,up,v,hF,hd,⟨f0,f1,f2,f3,f4,f5,f6,f7,f8,f9,f10,f11⟩,_⟩:=x.mz hi;rw [hp] at f0;refine run_val T_113 ?_;simp [ad,av,F113,hd,hx,hc,f0,e1,e2];exact ⟨by simpa using x2,k1.trans k2⟩
theorem EW (x:WorldAt h S w X) (hi:w.all[i]?=some m) (hp:m.pl=13) {p:Int} {L:List Int} (hn:w.pend=p::L) (hl:L.length<=1000) (times:Int):∃ h',run T 113 [.ptr S.a 0,iQ (i:Int),iQ times] h=some (.bool false,h')/\WorldAt h' S ((({w with pend:=L}:W).aL i true).az i {m with p:=p,sp:=true}) X/\KX X h h':=by
 have ⟨h1,e1,x1,k1,g1⟩:=(qv x).2 p L hn hl;have ⟨h2,e2,x2,k2⟩:=hold_ok x1 (w:={w with pend:=L}) hi p true;have ⟨own,x⟩:=x;have ⟨b,cs,room,rv,Fr,u,room0,hb,hc,hx,up,v,hF,hd,⟨f0,f1,f2,f3,f4,f5,f6,f7,f8,f9,f10,f11⟩,_⟩:=x.mz hi;rw [if_pos rfl] at x2;have ⟨o2,y2⟩:=x2;have hi2:((({w with pend:=L}:W).aL i true).az i {m with p:=p}).all[i]?=some {m with p:=p}:=setm_at hi;have ⟨b2,c2,rr2,v2,F2,hb2,hc2,hx2,up2,vv2,hF2⟩:=y2.fA hi2;have hbb:b2=b:=by rw [hb,hb2]
 subst hbb;have ⟨l20,ll2⟩:=up2.foc.lt;have ⟨y3,k3⟩:=y2.bY (m':={m with p:=p,sp:=true}) hi2 hc2 hb2 (up2.spin true) vv2 hF2;rw [setm_twice] at y3;rw [hp] at f0;refine run_val T_113 ?_;simp [-writeOf_some,ad,av,F113,hd,hx,hc,f0,e1,e2,hc2,wrB,ll2];exact ⟨y3,(k1.trans k2).trans k3⟩
theorem PG (x:WorldAt h S w X) (hi:w.all[i]?=some m) (hp:m.pl=13) (hn:w.pend=[]) (hiM:i<w.M) (hms:(i:Int)∉w.ms) (hq:w.q≠(i:Int)) (hl:w.ms.length<=1000) (times:Int):∃ h',run T 113 [.ptr S.a 0,iQ (i:Int),iQ times] h=some (.bool false,h')/\WorldAt h' S (if w.q=-1 then ({(w.aL i true).az i {m with sp:=false} with q:=(i:Int)}:W) else {(w.aL i false).az i {m with sp:=false} with ms:=w.ms++[(i:Int)]}) X/\KX X h h':=by
 have e1:=(qv x).1 hn;have ⟨h2,e2,x2,k2⟩:=hold_ok x hi 0 false;have x2:WorldAt h2 S (w.aL i false) X:=x2;have ⟨own,x⟩:=x;have ⟨b,cs,room,rv,Fr,u,room0,hb,hc,hx,up,v,hF,hd,⟨f0,f1,f2,f3,f4,f5,f6,f7,f8,f9,f10,f11⟩,_⟩:=x.mz hi;have ⟨is,hf⟩:=jA x hi;have hlt:=(aa.1 hf).1;have ⟨o2,y2⟩:=x2;have hi2:(w.aL i false).all[i]?=some m:=hi;have ⟨b2,c2,rr2,v2,F2,hb2,hc2,hx2,up2,vv2,hF2⟩:=y2.fA hi2;have hbb:b2=b:=by rw [hb,hb2]
 subst hbb;have ⟨l20,ll2⟩:=up2.foc.lt;have ⟨y3,k3⟩:=y2.bY (m':={m with sp:=false}) hi2 hc2 hb2 (up2.spin false) vv2 hF2;obtain ⟨h3,hh3⟩:∃ h3,h3=h2.put S.ao (Qc (c2.set (b2+7) (.bool false)) rr2):=⟨_,rfl⟩
 rw [<- hh3] at y3 k3;have w3:writeOf h2 S.ao (some (Qc c2 rr2)) (b2+7) [.bool false]=some h3:=by rw [hh3];exact wrB (ll2 7 (by omega))
 have ⟨u3,r3,hd3⟩:=(by have ⟨o,y⟩:=y3;exact y.hd:∃ u room,h3.get S.a=some (Qc (headA S ((w.aL i false).az i {m with sp:=false}) u) room))
 have hA:∀ u,(headA S ((w.aL i false).az i {m with sp:=false}) u)=headA S w u:=fun u=>rfl;rw [hA] at hd3;rw [hp] at f0;by_cases hq1:w.q=-1
 . have ⟨h4,e4,x4,k4,g4⟩:=DK (k:=i) y3 hiM hq1 hms hl;have x4:WorldAt h4 S ({(w.aL i false).az i {m with sp:=false} with q:=(i:Int)}:W) X:=x4;have ⟨o4,y4⟩:=x4;have hf4:({(w.aL i false).az i {m with sp:=false} with q:=(i:Int)}:W).flag[i]?=some false:=by show (w.flag.set i false)[i]?=some false;rw [ax hlt]
   have ⟨room4,hfl,x5,k5,hfx,hfL,n1,n2⟩:=y4.pR hf4 true;have hfx:idxAddrV 1 none (.slice S.fo 0 w.M (.exact w.M)) (iQ (i:Int))=some (.ptr S.fo i):=hfx;have wS:=wrB (h:=h4) (i:=S.fo) (room:=room4) (z:=true) (o:=i) (cs:=boolsA ({(w.aL i false).az i {m with sp:=false} with q:=(i:Int)}:W).flag) (by simpa using hfL);rw [boolsA_set] at wS;have hd4:=g4.obj hd3 (fun own y=>y.HP.1);have ef:({(w.aL i false).az i {m with sp:=false} with q:=(i:Int)}:W).aL i true={(w.aL i true).az i {m with sp:=false} with q:=(i:Int)}:=by simp [W.aL,W.az]
   rw [ef] at x5;refine run_val T_113 ?_;simp [ad,av,F113,hd,hx,hc,f0,e1,e2,hc2,w3,hd3,hd4,e4,hfx,hfl,wS,hq1];exact ⟨x5,((k2.trans k3).trans k4).trans k5⟩
 . have ⟨h4,e4,x4,k4,g4⟩:=FU (k:=i) y3 hiM hq1 (aY hq) hms hl;have x4:WorldAt h4 S ({(w.aL i false).az i {m with sp:=false} with ms:=w.ms++[(i:Int)]}:W) X:=x4;have ⟨o4,y4⟩:=x4;have hf4:({(w.aL i false).az i {m with sp:=false} with ms:=w.ms++[(i:Int)]}:W).flag[i]?=some false:=by show (w.flag.set i false)[i]?=some false;rw [ax hlt]
   have ⟨room4,hfl,x5,k5,hfx,hfL,n1,n2⟩:=y4.pR hf4 false;have hfx:idxAddrV 1 none (.slice S.fo 0 w.M (.exact w.M)) (iQ (i:Int))=some (.ptr S.fo i):=hfx;have wS:=wrB (h:=h4) (i:=S.fo) (room:=room4) (z:=false) (o:=i) (cs:=boolsA ({(w.aL i false).az i {m with sp:=false} with ms:=w.ms++[(i:Int)]}:W).flag) (by simpa using hfL);rw [boolsA_set] at wS;have hd4:=g4.obj hd3 (fun own y=>y.HP.1);have ef:({(w.aL i false).az i {m with sp:=false} with ms:=w.ms++[(i:Int)]}:W).aL i false={(w.aL i false).az i {m with sp:=false} with ms:=w.ms++[(i:Int)]}:=by simp [W.aL,W.az]
   rw [ef] at x5;refine run_val T_113 ?_;simp [ad,av,F113,hd,hx,hc,f0,e1,e2,hc2,w3,hd3,hd4,e4,hfx,hfl,wS,hq1];exact ⟨x5,((k2.trans k3).trans k4).trans k5⟩
theorem KP (x:WorldAt h S w X) (hi:w.all[i]?=some m) (hp:m.pl=15) (times:Int):∃ h',run T 113 [.ptr S.a 0,iQ (i:Int),iQ times] h=some (.bool false,h')/\WorldAt h' S (if w.q=(i:Int) then ({w.aL i true with q:=-1}:W) else w.aL i false) X/\KX X h h':=by
 have ⟨l1,l2⟩:=Ix (k:=i) x;have ⟨own,x⟩:=x;have ⟨b,cs,room,rv,Fr,u,room0,hb,hc,hx,up,v,hF,hd,⟨f0,f1,f2,f3,f4,f5,f6,f7,f8,f9,f10,f11⟩,_⟩:=x.mz hi;have ⟨is,hf⟩:=jA x hi;have hlt:=(aa.1 hf).1;rw [hp] at f0;by_cases hq:w.q=(i:Int)
 . have ⟨h1,e1,x1,k1,g1⟩:=l2 hq;have ⟨o1,y1⟩:=x1;have hd1:=g1.obj hd (fun own y=>y.HP.1);have ⟨room2,hfl,x2,k2,hfx,hfL,n1,n2⟩:=y1.pR (i:=i) hf true;have hfx:idxAddrV 1 none (.slice S.fo 0 w.M (.exact w.M)) (iQ (i:Int))=some (.ptr S.fo i):=hfx;have wS:writeOf h1 S.fo (some (Qc (boolsA w.flag) room2)) i [.bool true]=some (h1.put S.fo (Qc (boolsA (w.flag.set i true)) room2)):=by rw [wrB (by simpa using hfL),boolsA_set]
   refine run_val T_113 ?_;simp [F113,hd,hx,hc,f0,e1,hd1,hfl,hfx,wS,hq];exact ⟨x2,k1.trans k2⟩
 . have e1:=l1 hq;have ⟨room2,hfl,x2,k2,hfx,hfL,n1,n2⟩:=x.pR hf false;have wS:writeOf h S.fo (some (Qc (boolsA w.flag) room2)) i [.bool false]=some (h.put S.fo (Qc (boolsA (w.flag.set i false)) room2)):=by rw [wrB (by simpa using hfL),boolsA_set]
   refine run_val T_113 ?_;simp [F113,hd,hx,hc,f0,e1,hfl,hfx,wS,hq];exact ⟨x2,k2⟩
theorem KQ (x:WorldAt h S w X) (hi:w.all[i]?=some m) (hp:m.pl=27) (hl:w.gl.length<=1000) (times:Int):∃ h',run T 113 [.ptr S.a 0,iQ (i:Int),iQ times] h=some (.bool false,h')/\WorldAt h' S (({w with gl:=w.gl++[m.got]}:W).az i {m with got:=-1}) X/\KX X h h':=by
 have ⟨own,x⟩:=x;have ⟨b,cs,room,rv,Fr,u,room0,hb,hc,hx,up,v,hF,hd,⟨f0,f1,f2,f3,f4,f5,f6,f7,f8,f9,f10,f11⟩,⟨l0,ll⟩,_⟩:=x.mz hi;obtain ⟨h1,hh1⟩:∃ h1,h1=h.push (Qc [iQ m.got] none):=⟨_,rfl⟩
 have k1:Keep [] h h1:=by rw [hh1];exact Keep.push
 have x1:=x.alloc k1 0;have ⟨Fg,bg,cg⟩:=x1.glob;have v1:dz h1 1 (intsA [m.got]) [h.size] (.slice h.size 0 1 (.exact 1)):=by rw [hh1];exact (Vec.new (m:=1) ak (by simp)).view
 have ⟨h2,F',e2,b2,k2,f2⟩:=AH bg v1 (by simp;omega);have x2:=x1.I9 bg cg b2 k2 f2;have hc1:=k1.obj hc (by simp);have hd1:=k1.obj hd (by simp);have na5:∀ t,own t=7->t<h.size->t∉S.gi::Fg:=fun t ht hl hm=>by have:=cg t hm;rw [ext_same _ _ _ _ hl] at this;omega
 have hc2:=k2.obj hc1 (na5 _ x.all.1 (get_lt hc));have hi2:({w with gl:=w.gl++[m.got]}:W).all[i]?=some m:=hi;have ⟨b2',c2,rr2,v2,F2,hb2,hc2',hx2,up2,vv2,hF2⟩:=x2.fA hi2;have hbb:b2'=b:=by rw [hb,hb2]
 subst hbb;rw [hc2] at hc2';cases hc2';have ⟨y3,k3⟩:=x2.bY (m':={m with got:=-1}) hi2 hc2 hb2 (up2.int 4 (-1)) vv2 hF2;rw [hp] at f0;refine run_val T_113 ?_;simp [-writeOf_some,-getElem?_pos,F113,hd,hx,hc,hd1,f0,f4,<- hh1,e2,hc2,wrI,ll];exact ⟨y3,((x.YQ k1).trans (x1.kx (c:=5) k2 cg (by omega))).trans k3⟩
theorem KE (x:WorldAt h S w X) (hi:w.all[i]?=some m) {p:Nat} {L:List Nat} (hp:w.ip=p::L) (hpP:p<w.P) (hnL:p∉L) (hpe:(p:Int)∉w.pend) (hpl:w.pend.length<=1000) (hms:w.ms=[]) (hq:w.q=-1):∃ h',run T 153 [.ptr S.a 0,iQ (i:Int),iQ 0] h=some (.bool false,h')/\WorldAt h' S {w with ip:=L,pend:=w.pend++[(p:Int)]} X/\KX X h h':=by have ⟨h1,e1,x1,g1,k1⟩:=(takeP_w x).2 p L hp;have ⟨h2,e2,x2,k2,g2⟩:=takeMNone_w (w:={w with ip:=L}) x1 hms hq;have ⟨h3,e3,x3,k3,g3⟩:=pend_w (w:={w with ip:=L}) (p:=p) x2 hpP hnL hpe hpl;have ⟨own,x⟩:=x;have ⟨b,cs,room,rv,Fr,hb,hc,hx,up,v,hF⟩:=x.fA hi;have ⟨u,room0,hd⟩:=x.hd;have hd1:=(show Rest6 h S w X h1 from g1).obj hd (fun own y=>y.HP.1);have hd2:=g2.obj hd1 (fun own y=>y.HP.1);refine run_val T_153 ?_;simp [ad,av,F153,hd,hx,e1,hd1,e2,hd2,e3];exact ⟨x3,(k1.trans k2).trans k3⟩
end
section
variable {h h' h'':AHeap} {S:jb} {w:W} {X F G:List Nat} {own:Nat->Nat} {i k:Nat} {m:Mc} {r:Rg}
theorem RI (x:WorldAt h S w X) (hi:w.all[i]?=some m) {is:Bool} (hf:w.flag[i]?=some is) (hp:m.pl=9) (hii:-1000<=m.ii/\m.ii<=1000):∃ h',run T 114 [.ptr S.a 0,iQ (i:Int)] h=some (.tuple [],h')/\WorldAt h' S (w.az i (thenM m is w.P)) X/\KX X h h':=by
 have ⟨own,x⟩:=x;have ⟨b,cs,room,rv,F,u,room0,hb,hc,hx,up,v,hF,hd,⟨f0,f1,f2,f3,f4,f5,f6,f7,f8,f9,f10,f11⟩,⟨l0,ll⟩,hrl,na⟩:=x.mz hi
 have hdp:∀ y,(h.put S.ao y).get S.a=some (Qc (headA S w u) room0):=fun y=>by rw [get_put_ne na,hd]
 have ⟨room2,hfl,hfx,hfa,hfL⟩:=x.fl hf
 have xw:WorldAt h S w X:=⟨own,x⟩
 refine run_val jG ?_;rw [hp] at f0;have ew:wQ (m.ii+1)=m.ii+1:=rQ
 cases is with
 | true=>simp [F114,-writeOf_some,-getElem?_pos,hd,hdp,hx,hc,wrI,ll,l0,hfl,hfx,hfa,f0,hp,thenM,either_ok,f6,ew];exact x.bY (m':={m with ii:=m.ii+1,pl:=11}) hi hc hb ((up.int 6 (m.ii+1)).place 11) v hF
 | false=>
  by_cases hq:m.ii+1<(w.P:Int)
  . simp [F114,-writeOf_some,-getElem?_pos,hd,hdp,hx,hc,wrI,ll,l0,hfl,hfx,hfa,f0,hp,thenM,either_ok,f6,ew,hq];exact x.bY (m':={m with ii:=m.ii+1,pl:=9}) hi hc hb ((up.int 6 (m.ii+1)).place 9) v hF
  . simp [F114,-writeOf_some,-getElem?_pos,hd,hdp,hx,hc,wrI,ll,l0,hfl,hfx,hfa,f0,hp,thenM,either_ok,f6,ew,hq];exact x.bY (m':={m with ii:=m.ii+1,pl:=10}) hi hc hb ((up.int 6 (m.ii+1)).place 10) v hF
theorem OI (x:WorldAt h S w X) (hi:w.all[i]?=some m) {is:Bool} (hf:w.flag[i]?=some is) (hp:m.pl=10):∃ h',run T 114 [.ptr S.a 0,iQ (i:Int)] h=some (.tuple [],h')/\WorldAt h' S (w.az i (thenM m is w.P)) X/\KX X h h':=by
 have ⟨own,x⟩:=x;have ⟨b,cs,room,rv,F,u,room0,hb,hc,hx,up,v,hF,hd,⟨f0,f1,f2,f3,f4,f5,f6,f7,f8,f9,f10,f11⟩,⟨l0,ll⟩,hrl,na⟩:=x.mz hi
 have hdp:∀ y,(h.put S.ao y).get S.a=some (Qc (headA S w u) room0):=fun y=>by rw [get_put_ne na,hd]
 have ⟨room2,hfl,hfx,hfa,hfL⟩:=x.fl hf
 have xw:WorldAt h S w X:=⟨own,x⟩
 refine run_val jG ?_;rw [hp] at f0
 cases is with
 | true=>simp [F114,-writeOf_some,-getElem?_pos,hd,hx,hc,wrI,l0,hfl,hfx,hfa,f0,hp,thenM,either_ok];exact x.bY (m':={m with pl:=11}) hi hc hb (up.place 11) v hF
 | false=>simp [F114,-writeOf_some,-getElem?_pos,hd,hx,hc,wrI,l0,hfl,hfx,hfa,f0,hp,thenM,either_ok];exact x.bY (m':={m with pl:=13}) hi hc hb (up.place 13) v hF
theorem OH (x:WorldAt h S w X) (hi:w.all[i]?=some m) {is:Bool} (hf:w.flag[i]?=some is) (hp:m.pl=11):∃ h',run T 114 [.ptr S.a 0,iQ (i:Int)] h=some (.tuple [],h')/\WorldAt h' S (w.az i (thenM m is w.P)) X/\KX X h h':=by
 have ⟨own,x⟩:=x;have ⟨b,cs,room,rv,F,u,room0,hb,hc,hx,up,v,hF,hd,⟨f0,f1,f2,f3,f4,f5,f6,f7,f8,f9,f10,f11⟩,⟨l0,ll⟩,hrl,na⟩:=x.mz hi
 have hdp:∀ y,(h.put S.ao y).get S.a=some (Qc (headA S w u) room0):=fun y=>by rw [get_put_ne na,hd]
 have ⟨room2,hfl,hfx,hfa,hfL⟩:=x.fl hf
 have xw:WorldAt h S w X:=⟨own,x⟩
 refine run_val jG ?_;rw [hp] at f0
 cases is with
 | true=>simp [F114,-writeOf_some,-getElem?_pos,hd,hx,hc,wrI,l0,hfl,hfx,hfa,f0,hp,thenM,either_ok];exact x.bY (m':={m with pl:=12}) hi hc hb (up.place 12) v hF
 | false=>simp [F114,-writeOf_some,-getElem?_pos,hd,hx,hc,wrI,l0,hfl,hfx,hfa,f0,hp,thenM,either_ok];exact x.bY (m':={m with pl:=13}) hi hc hb (up.place 13) v hF
theorem OF (x:WorldAt h S w X) (hi:w.all[i]?=some m) {is:Bool} (hf:w.flag[i]?=some is) (hp:m.pl=14):∃ h',run T 114 [.ptr S.a 0,iQ (i:Int)] h=some (.tuple [],h')/\WorldAt h' S (w.az i (thenM m is w.P)) X/\KX X h h':=by
 have ⟨own,x⟩:=x;have ⟨b,cs,room,rv,F,u,room0,hb,hc,hx,up,v,hF,hd,⟨f0,f1,f2,f3,f4,f5,f6,f7,f8,f9,f10,f11⟩,⟨l0,ll⟩,hrl,na⟩:=x.mz hi
 have hdp:∀ y,(h.put S.ao y).get S.a=some (Qc (headA S w u) room0):=fun y=>by rw [get_put_ne na,hd]
 have ⟨room2,hfl,hfx,hfa,hfL⟩:=x.fl hf
 have xw:WorldAt h S w X:=⟨own,x⟩
 refine run_val jG ?_;rw [hp] at f0
 cases is with
 | true=>simp [F114,-writeOf_some,-getElem?_pos,hd,hx,hc,wrI,l0,hfl,hfx,hfa,f0,hp,thenM,either_ok];exact x.bY (m':={m with pl:=15}) hi hc hb (up.place 15) v hF
 | false=>simp [F114,-writeOf_some,-getElem?_pos,hd,hx,hc,wrI,l0,hfl,hfx,hfa,f0,hp,thenM,either_ok];exact x.bY (m':={m with pl:=16}) hi hc hb (up.place 16) v hF
theorem OG (x:WorldAt h S w X) (hi:w.all[i]?=some m) {is:Bool} (hf:w.flag[i]?=some is) (hp:m.pl=13):∃ h',run T 114 [.ptr S.a 0,iQ (i:Int)] h=some (.tuple [],h')/\WorldAt h' S (w.az i (thenM m is w.P)) X/\KX X h h':=by
 have ⟨own,x⟩:=x;have ⟨b,cs,room,rv,F,u,room0,hb,hc,hx,up,v,hF,hd,⟨f0,f1,f2,f3,f4,f5,f6,f7,f8,f9,f10,f11⟩,⟨l0,ll⟩,hrl,na⟩:=x.mz hi
 have hdp:∀ y,(h.put S.ao y).get S.a=some (Qc (headA S w u) room0):=fun y=>by rw [get_put_ne na,hd]
 have ⟨room2,hfl,hfx,hfa,hfL⟩:=x.fl hf
 have xw:WorldAt h S w X:=⟨own,x⟩
 refine run_val jG ?_;rw [hp] at f0
 cases hs:m.sp with
 | true=>rw [hs] at f7;rw [show thenM m is w.P={m with pl:=4} by simp [thenM,hp,hs]];simp [F114,-writeOf_some,-getElem?_pos,hd,hx,hc,wrI,l0,hfl,hfx,hfa,f0,either_ok,f7];exact x.bY (m':={m with pl:=4}) hi hc hb (up.place 4) v hF
 | false=>
  rw [hs] at f7
  cases is with
  | true=>rw [show thenM m true w.P={m with pl:=14} by simp [thenM,hp,hs]];simp [F114,-writeOf_some,-getElem?_pos,hd,hx,hc,wrI,l0,hfl,hfx,hfa,f0,either_ok,f7];exact x.bY (m':={m with pl:=14}) hi hc hb (up.place 14) v hF
  | false=>rw [show thenM m false w.P={m with pl:=16} by simp [thenM,hp,hs]];simp [F114,-writeOf_some,-getElem?_pos,hd,hx,hc,wrI,l0,hfl,hfx,hfa,f0,either_ok,f7];exact x.bY (m':={m with pl:=16}) hi hc hb (up.place 16) v hF
theorem OE (x:WorldAt h S w X) (hi:w.all[i]?=some m) {is:Bool} (hf:w.flag[i]?=some is) (hp:m.pl=15):∃ h',run T 114 [.ptr S.a 0,iQ (i:Int)] h=some (.tuple [],h')/\WorldAt h' S (w.az i (thenM m is w.P)) X/\KX X h h':=by
 have ⟨own,x⟩:=x;have ⟨b,cs,room,rv,F,u,room0,hb,hc,hx,up,v,hF,hd,⟨f0,f1,f2,f3,f4,f5,f6,f7,f8,f9,f10,f11⟩,⟨l0,ll⟩,hrl,na⟩:=x.mz hi
 have hdp:∀ y,(h.put S.ao y).get S.a=some (Qc (headA S w u) room0):=fun y=>by rw [get_put_ne na,hd]
 have ⟨room2,hfl,hfx,hfa,hfL⟩:=x.fl hf
 have xw:WorldAt h S w X:=⟨own,x⟩
 refine run_val jG ?_;rw [hp] at f0;have ⟨y1,k1⟩:=x.bY (m':={m with pl:=16}) hi hc hb (up.place 16) v hF
 cases is with
 | true=>have ⟨h1,e1,x1,k2⟩:=wdeliver_ok y1 (setm_at hi) 13;rw [setm_twice] at x1;simp [F114,-writeOf_some,-getElem?_pos,hd,hx,hc,wrI,l0,hfl,hfx,hfa,f0,hp,thenM,e1];exact ⟨x1,k1.trans k2⟩
 | false=>simp [F114,-writeOf_some,-getElem?_pos,hd,hx,hc,wrI,l0,hfl,hfx,hfa,f0,hp,thenM];exact ⟨y1,k1⟩
theorem OD (x:WorldAt h S w X) (hi:w.all[i]?=some m) {is:Bool} (hf:w.flag[i]?=some is) (hp:m.pl=25):∃ h',run T 114 [.ptr S.a 0,iQ (i:Int)] h=some (.tuple [],h')/\WorldAt h' S (w.az i (thenM m is w.P)) X/\KX X h h':=by
 have ⟨own,x⟩:=x;have ⟨b,cs,room,rv,F,u,room0,hb,hc,hx,up,v,hF,hd,⟨f0,f1,f2,f3,f4,f5,f6,f7,f8,f9,f10,f11⟩,⟨l0,ll⟩,hrl,na⟩:=x.mz hi
 have hdp:∀ y,(h.put S.ao y).get S.a=some (Qc (headA S w u) room0):=fun y=>by rw [get_put_ne na,hd]
 have ⟨room2,hfl,hfx,hfa,hfL⟩:=x.fl hf
 have xw:WorldAt h S w X:=⟨own,x⟩
 refine run_val jG ?_;rw [hp] at f0
 cases is with
 | true=>simp [F114,-writeOf_some,-getElem?_pos,hd,hx,hc,wrI,l0,hfl,hfx,hfa,f0,hp,thenM,either_ok,f11];exact x.bY (m':={m with pl:=26}) hi hc hb (up.place 26) v hF
 | false=>simp [F114,-writeOf_some,-getElem?_pos,hd,hx,hc,wrI,l0,hfl,hfx,hfa,f0,hp,thenM,either_ok,f11];exact x.bY (m':={m with pl:=m.af}) hi hc hb (up.place m.af) v hF
theorem OC (x:WorldAt h S w X) (hi:w.all[i]?=some m) {is:Bool} (hf:w.flag[i]?=some is) (hp:m.pl=29):∃ h',run T 114 [.ptr S.a 0,iQ (i:Int)] h=some (.tuple [],h')/\WorldAt h' S (w.az i (thenM m is w.P)) X/\KX X h h':=by
 have ⟨own,x⟩:=x;have ⟨b,cs,room,rv,F,u,room0,hb,hc,hx,up,v,hF,hd,⟨f0,f1,f2,f3,f4,f5,f6,f7,f8,f9,f10,f11⟩,⟨l0,ll⟩,hrl,na⟩:=x.mz hi
 have hdp:∀ y,(h.put S.ao y).get S.a=some (Qc (headA S w u) room0):=fun y=>by rw [get_put_ne na,hd]
 have ⟨room2,hfl,hfx,hfa,hfL⟩:=x.fl hf
 have xw:WorldAt h S w X:=⟨own,x⟩
 refine run_val jG ?_;rw [hp] at f0;by_cases hg:0<=m.g
 . have hg':¬ m.g<0:=by omega
   simp [F114,-writeOf_some,-getElem?_pos,hd,hx,hc,wrI,l0,hfl,hfx,hfa,f0,hp,thenM,either_ok,f2,hg,hg'];first | done | exact x.bY (m':={m with pl:=0}) hi hc hb (up.place 0) v hF
 . have ⟨y1,k1⟩:=x.bY (m':={m with pl:=1}) hi hc hb (up.place 1) v hF
   cases is with
   | true=>
    have ⟨h1,e1,x1,k2⟩:=wdeliver_ok y1 (setm_at hi) 1;rw [setm_twice] at x1;have hg':m.g<0:=by omega
    simp [F114,-writeOf_some,-getElem?_pos,hd,hx,hc,wrI,l0,hfl,hfx,hfa,f0,hp,thenM,either_ok,f2,hg,hg',e1];exact ⟨x1,k1.trans k2⟩
   | false=>
    have hg':m.g<0:=by omega
    simp [F114,-writeOf_some,-getElem?_pos,hd,hx,hc,wrI,l0,hfl,hfx,hfa,f0,hp,thenM,either_ok,f2,hg,hg'];exact ⟨y1,k1⟩
theorem OB (x:WorldAt h S w X) (hi:w.all[i]?=some m) {is:Bool} (hf:w.flag[i]?=some is) (hp:m.pl=30):∃ h',run T 114 [.ptr S.a 0,iQ (i:Int)] h=some (.tuple [],h')/\WorldAt h' S (w.az i (thenM m is w.P)) X/\KX X h h':=by
 have ⟨own,x⟩:=x;have ⟨b,cs,room,rv,F,u,room0,hb,hc,hx,up,v,hF,hd,⟨f0,f1,f2,f3,f4,f5,f6,f7,f8,f9,f10,f11⟩,⟨l0,ll⟩,hrl,na⟩:=x.mz hi
 have hdp:∀ y,(h.put S.ao y).get S.a=some (Qc (headA S w u) room0):=fun y=>by rw [get_put_ne na,hd]
 have ⟨room2,hfl,hfx,hfa,hfL⟩:=x.fl hf
 have xw:WorldAt h S w X:=⟨own,x⟩
 refine run_val jG ?_;rw [hp] at f0;by_cases hg:0<=m.g
 . have hg':¬ m.g<0:=by omega
   simp [F114,-writeOf_some,-getElem?_pos,hd,hx,hc,wrI,l0,hfl,hfx,hfa,f0,hp,thenM,either_ok,f2,hg,hg'];first | done | exact x.bY (m':={m with pl:=0}) hi hc hb (up.place 0) v hF
 . have ⟨y1,k1⟩:=x.bY (m':={m with pl:=1}) hi hc hb (up.place 1) v hF
   cases is with
   | true=>
    have ⟨h1,e1,x1,k2⟩:=wdeliver_ok y1 (setm_at hi) 1;rw [setm_twice] at x1;have hg':m.g<0:=by omega
    simp [F114,-writeOf_some,-getElem?_pos,hd,hx,hc,wrI,l0,hfl,hfx,hfa,f0,hp,thenM,either_ok,f2,hg,hg',e1];exact ⟨x1,k1.trans k2⟩
   | false=>
    have hg':m.g<0:=by omega
    simp [F114,-writeOf_some,-getElem?_pos,hd,hx,hc,wrI,l0,hfl,hfx,hfa,f0,hp,thenM,either_ok,f2,hg,hg'];exact ⟨y1,k1⟩
end
section
theorem C8 {P:Program} {G:Nat} {T:gO} {n f:Nat} {F:dA} {fn:Func} (hc:∀ m,m<=n->gx P G (evCall T m)) (hT:T f=some F) (hfn:P.funcs[f]?=some fn) (hcf:jE P G fn=some F)
 {args:List AV} {h h':AHeap} {v:AV} (he:evCall T n f args h=some (v,h')) {ρ:eM} {w:World} {xs:List Value} (r:fw G ρ h w) (hx:AV.rels ρ args xs) (u:FrameMode) :
 CallsD P f xs.toArray u w fun e u' w'=>u'=u/\∃ ρ' x,e=.returned x/\v.rel ρ' x/\Post G ρ h w ρ' h' w':=by
 cases n with
 | zero=>cases he
 | succ n=>
  simp only [evCall,hT] at he;split at he;case isFalse=>cases he
  unfold jE at hcf;split at hcf;case h_1=>cases hcf
  rename_i c hbody;split at hcf;case h_2=>cases hcf
  rename_i b rs hb hrs;split at hcf;case isTrue=>cases hcf
  cases hcf;have hlen:=br hx;have hf0:AV.rels ρ (enterA ⟨fn.ntmps,rs,b,none⟩ args) ({tmps:=xs.toArray++Array.replicate (fn.ntmps-xs.toArray.size) undef,defers:=[]}:Act).tmps.toList:=by simp [enterA,Array.toList_append,Array.toList_replicate,fP,hlen];exact fR hx (jy ρ _)
  have fin:∀ x fr1 h1,evCode (evCall T n) b (enterA ⟨fn.ntmps,rs,b,none⟩ args) h=some (x,fr1,h1)->(x=.normal\/x=.ret)->resOf fr1 h1 rs=some v->h1=h'->
   CallsD P f xs.toArray u w fun e u' w'=>u'=u/\∃ ρ' x,e=.returned x/\v.rel ρ' x/\Post G ρ h w ρ' h' w':=by
   intro x fr1 h1 hev hx1 hres hh;subst hh;refine callsD_of_wp hfn hbody (R:=fun e w'=>∃ ρ' x,e=.returned x/\v.rel ρ' x/\Post G ρ h w ρ' h1 w') (wp_mono (oA (hc n (Nat.le_succ n)) c b hb hev hf0 r) fun e a' w' hE=>?_);obtain ⟨ρ',rfl,hf',hd',hp'⟩:=hE;have ⟨y,hy1,hy2⟩:=qz (P:=P) (fn:=fn) hf' hp'.rel hrs hres;rcases hx1 with rfl | rfl
   . exact ⟨hd',y,hy2,ρ',y,rfl,hy1,hp'⟩
   . exact ⟨hd',y,hy2,ρ',y,rfl,hy1,hp'⟩
  unfold evBody at he;split at he
  . rename_i fr1 h1 hev;simp [ae,an] at he;obtain ⟨q,hq,rfl,rfl⟩:=he;exact fin _ _ _ hev (.inl rfl) hq rfl
  . rename_i fr1 h1 hev;simp [ae,an] at he;obtain ⟨q,hq,rfl,rfl⟩:=he;exact fin _ _ _ hev (.inr rfl) hq rfl
  . cases he
section
variable {P:Program} {G:Nat} {T:gO}
theorem CV {f g m:Nat} {fn gn:Func} {c1 gc:Code} {ac:ACode} {Gf:dA} {t1 t2:TypeId} {p1 p2:String} {ats:Array TypeId} {af1 af2:Array Edge}
 (hfn:P.funcs[f]?=some fn) (hname:(fn.name == "runtime.NumGoroutine")=false)
 (hbody:fn.body=some (.seq (.region 0 #[⟨some 3,.move (.tmp 0),t1,p1,af1,none⟩,⟨none,.defer {callee:=.value (.func g),args:=#[.tmp 3],argTypes:=ats},t2,p2,af2,none⟩] false) c1))
 (hnt:fn.ntmps=m+4) (hres:fn.results=#[]) (hcc:fm P G c1=some ac) (hk:gW 3 ac=true) (hnr:ph ac=true)
 (hT:T g=some Gf) (hgn:P.funcs[g]?=some gn) (hgname:(gn.name == "runtime.NumGoroutine")=false) (hgb:gn.body=some gc) (hgc:jE P G gn=some Gf) :
 wu P G T f {ntmps:=m+4,arity:=some 1,results:=[],body:=.seq (.seq (.region [⟨some 3,.mv (.tmp 0),none⟩]) ac) (.region [⟨none,.call g [.tmp 3],none⟩])}:=by
 intro n hc args h v h' hfit he
 have hlen:args.length=1:=by simpa [dA.fits] using hfit
 obtain ⟨x,rfl⟩:∃ x,args=[x]:=by
  match args,hlen with
  | [x],_=>exact ⟨x,rfl⟩
 refine ⟨fun xs w=>jn hfn hname hbody xs w,fun ρ w xs r hx=>?_⟩
 simp only [AV.rels] at hx
 obtain ⟨x0,_,rfl,hx0,rfl⟩:=hx
 obtain ⟨fr0,hfr0⟩:∃ fr0:AFrame,fr0=(x::List.replicate (m+3) undefA).set 3 x:=⟨_,rfl⟩
 have h3:fr0[3]?=some x:=by rw [hfr0,ax (by simp)]
 have key:∃ fr2 h2 u,evCode (evCall T n) ac fr0 h=some (.normal,fr2,h2)/\evCall T n g [fr2.eval (.tmp 3)] h2=some (u,h')/\v=.tuple []:=by
  have e0:evCode (evCall T n) (.seq (.seq (.region [⟨some 3,.mv (.tmp 0),none⟩]) ac) (.region [⟨none,.call g [.tmp 3],none⟩])) (x::List.replicate (m+3) undefA) h =
   match evCode (evCall T n) ac fr0 h with
   | some (.normal,fr2,h2)=>evCode (evCall T n) (.region [⟨none,.call g [.tmp 3],none⟩]) fr2 h2
   | r=>r:=by
   have hpre:evCode (evCall T n) (.region [⟨some 3,.mv (.tmp 0),none⟩]) (x::List.replicate (m+3) undefA) h=some (.normal,fr0,h):=by rw [hfr0];rfl
   rw [evCode,evCode,hpre]
   rfl
  unfold evBody at he;have hen:enterA {ntmps:=m+4,arity:=some 1,results:=[],body:=.seq (.seq (.region [⟨some 3,.mv (.tmp 0),none⟩]) ac) (.region [⟨none,.call g [.tmp 3],none⟩])} [x]=x::List.replicate (m+3) undefA:=by simp [enterA]
  simp only [hen,e0] at he
  cases hm:evCode (evCall T n) ac fr0 h with
  | none=>rw [hm] at he;cases he
  | some p=>
   have ⟨y,fr2,h2⟩:=p;rw [hm] at he
   cases y with
   | ret=>exact absurd rfl (evCode_noRet hm hnr)
   | exit id=>cases he
   | normal=>
    simp [evCode,evOps,evOper,wantedA,evAny,aR,eT] at he
    cases hcl:evCall T n g [fr2.eval (.tmp 3)] h2 with
    | none=>rw [hcl] at he;cases he
    | some q=>have ⟨u,h3'⟩:=q;rw [hcl] at he;simp only [resOf,resVs,fj,ai,an] at he;obtain ⟨rfl,rfl⟩:=he;exact ⟨fr2,h2,u,rfl,hcl,rfl⟩
 obtain ⟨fr2,h2,u,e1,e2,rfl⟩:=key
 have h32:fr2.eval (.tmp 3)=x:=by have:=fU e1 hk;rw [h3] at this;simp [AFrame.eval,this]
 rw [h32] at e2
 have hsz:({tmps:=[x0].toArray++Array.replicate (fn.ntmps - [x0].toArray.size) undef,defers:=[]}:Act)={tmps:=(x0::List.replicate (m+3) undef).toArray,defers:=[]}:=by
  rw [hnt];have:m+4 - [x0].toArray.size=m+3:=by simp
  rw [this];congr 1;apply nR;simp
 have hf0:AV.rels ρ fr0 ((x0::List.replicate (m+3) undef).set 3 x0):=by
  rw [hfr0];have g1:AV.rels ρ (x::List.replicate (m+3) undefA) (x0::List.replicate (m+3) undef):=by simp only [AV.rels];exact ⟨x0,_,rfl,hx0,jy ρ (m+3)⟩
  have:=put_rel (a:={tmps:=(x0::List.replicate (m+3) undef).toArray,defers:=[]}) (by simpa using g1) (some 3) hx0;simpa [AFrame.putD,Act.put] using this
 have fin:∀ (a:Act),a.tmps=((x0::List.replicate (m+3) undef).set 3 x0).toArray->a.defers=[{target:=.fn (.func g) #[],args:=#[x0]}]->c1.wp P (bodyPostD P fn fun e w'=>∃ ρ' x,e=.returned x/\(AV.tuple []).rel ρ' x/\Post G ρ h w ρ' h' w') a w:=by
  intro a ha hd;refine wp_mono (oA (hc n (aq n)) _ _ hcc e1 (a:=a) (by rw [ha];simpa using hf0) r) fun e a' w' hE=>?_;obtain ⟨ρ',rfl,hf',hd',hp'⟩:=hE;show Leaves P fn a'.tmps _ a'.defers .returning w';rw [hd',hd];have hcd:=C8 (T:=T) (n:=n) hc hT hgn hgc e2 hp'.rel (xs:=[x0]) (by simp only [AV.rels];exact ⟨x0,[],rfl,AV.gT hp'.le _ _ hx0,rfl⟩) .returning;refine ⟨by simp,.func g,#[],g,#[x0],rfl,?_,hcd.mono fun e u' w'' hh=>?_⟩
  . have:=jn (P:=P) hgn hgname hgb #[x0] w';simpa [invoke,Sem.run_pure] using this
  . obtain ⟨rfl,ρ'',y,rfl,hy,hp''⟩:=hh;show Leaves P fn a'.tmps _ [] (settle .returning) w'';refine ⟨.tuple #[],?_,ρ'',.tuple #[],rfl,?_,hp'.trans hp''⟩
    . simp [results,hres,Sem.run_pure]
    . simp only [AV.rel,AV.rels];exact ⟨[],rfl,rfl⟩
 refine calls_of_wp_defers hfn hbody ?_
 rw [hsz]
 refine wp_seq (wp_region ?_)
 show wpOps P _ _ [0,1] _ _
 simp only [wpOps,gI,ad,av,Region.wanted]
 rw [if_pos trivial]
 left
 have m1:∀ (a:Act) (K:Act->World->Prop) (Q:Exit->Act->World->Prop),K (a.put (some 3) (a.eval (.tmp 0))) w->Oper.wp P {dst:=some 3,op:=.move (.tmp 0),type:=t1,pos:=p1,after:=af1,guard:=none} a w K Q:=by intro a K Q hK;unfold Oper.wp execOp;exact hK
 refine m1 _ _ _ ?_
 rw [if_pos trivial]
 left
 have m2:∀ (a:Act) (K:Act->World->Prop) (Q:Exit->Act->World->Prop),K {a with defers:={target:=.fn (.func g) #[],args:=#[a.eval (.tmp 3)]}::a.defers} w->
  Oper.wp P {dst:=none,op:=.defer {callee:=.value (.func g),args:=#[.tmp 3],argTypes:=ats},type:=t2,pos:=p2,after:=af2,guard:=none} a w K Q:=by
  intro a K Q hK
  unfold Oper.wp
  simp only [execOp,resolve,Deferred.ofValue,Act.eval,Sem.run_bind,Sem.run_pure,Result.andThen_ok,Oper.upon_defer,Act.put]
  simpa [Act.eval] using hK
 refine m2 _ _ _ ?_
 refine fin _ ?_ ?_
 . simp [Act.put,Act.eval]
 . simp [Act.put,Act.eval]
end
def RR:Code->Code
 | .seq _ c=>c
 | c=>c
def H4:Option Code->Code
 | some c=>c
 | none=>.skip
def P0:ACode->ACode
 | .seq (.seq _ c) _=>c
 | c=>c
theorem Kd:wu Tryz.prog 4 T 132 HE:=
 CV (m:=19) (t1:=113) (t2:=0) (p1:="round.go:56") (p2:="round.go:56") (ats:=#[113]) (af1:=#[]) (af2:=#[⟨0,.data⟩]) (c1:=RR (H4 Tryz.f132.body)) (gc:=H4 Tryz.f163.body) (ac:=P0 HE.body) Tryz.func132 (by kernel_rfl) (by kernel_rfl) (by kernel_rfl) (by kernel_rfl) (by kernel_rfl) (by kernel_rfl) (by kernel_rfl) NR Tryz.func163 (by kernel_rfl) (by kernel_rfl) (by kernel_rfl)
theorem tu:sU Tryz.prog 4 T:=by
 intro f F h;rcases Jp f F h with h1 | ⟨rfl,rfl⟩ | ⟨rfl,rfl⟩ | ⟨rfl,rfl⟩ | ⟨rfl,rfl⟩ | ⟨rfl,rfl⟩ | ⟨rfl,rfl⟩
 . exact .inl h1
 . exact .inr MG.t
 . exact .inr MF.t
 . exact .inr Kf.t
 . exact .inr Ke.t
 . exact .inr Kd
 . exact .inr Kc.t
end
section
structure I1 (h:AHeap) (S:jb) (d co M:Nat):Prop where
 hd:∃ r,h.get d=some (.cells false [.ptr S.a 0,.int .u8 0,.int .i64 1,.int .i64 r,.slice co 0 M (.exact M)] none)
 ct:∃ cl,cl.length=M/\h.get co=some (.cells false (intsA cl) none)
 ne:d≠co
 lo:11<=d/\11<=co
section
variable {h h' h'':AHeap} {S:jb} {w w':W} {X F G:List Nat} {own:Nat->Nat} {i k d co M:Nat} {m:Mc}
theorem I1.keep (x:I1 h S d co M) (kx:KX X h h') (hd:d∈X) (hc:co∈X):I1 h' S d co M:=by have ⟨⟨r,e1⟩,⟨cl,l,e2⟩,ne,lo⟩:=x;exact ⟨⟨r,kx.obj e1 hd⟩,⟨cl,l,kx.obj e2 hc⟩,ne,lo⟩
theorem WorldAt.outside (x:WorldAt h S w X) (k:Keep G h h') (hG:∀ t∈G,t∈X/\11<=t):WorldAt h' S w X:=by
 have ⟨own,x⟩:=x;have f:Fr own own h h' 0 G:=⟨k,fun t ht=>(x.out t (hG t ht).1).2,fun _ _=>rfl⟩
 have hl:∀ t∈G,t≠1/\t≠2/\t≠3:=fun t ht=>by have:=(hG t ht).2;omega
 exact ⟨own,x.sz,k.obj x.pl fun hm=>(hl 1 hm).1 rfl,k.obj x.al fun hm=>(hl 2 hm).2.1 rfl,x.nx.keep k fun t ht=>(hG t ht).2,k.obj x.db fun hm=>(hl 3 hm).2.2 rfl,x.low,fun t ht=>⟨cq (x.out t ht).1 k.size,(x.out t ht).2⟩,x.kT f (by omega),x.yM f (by omega),x.vL f (by omega),x.kF f (by omega),x.pN f (by omega),x.qG f (by omega),x.kS f (by omega),x.yN f (by omega),x.pO f (by omega)⟩
theorem Cp (k:Keep G h h') (hX:∀ t∈X,t<h.size/\t∉G):KX X h h':=⟨k.size,k.caps,fun t ht=>k.get t (hX t ht).1 (hX t ht).2⟩
theorem WorldAt.Li (x:WorldAt h S w X):∀ t∈X,t<h.size:=by have ⟨own,x⟩:=x;exact fun t ht=>(x.out t ht).1
structure DW (h:AHeap) (S:jb) (w:W) (X:List Nat) (d co M:Nat):Prop where
 at_:WorldAt h S w (d::co::X)
 dr:I1 h S d co M
 nx:d∉X/\co∉X
theorem Sx (x:DW h S w X d co M) (hi:w.all[i]?=some m) (hM:i<M) (hr:m.rest.length<=1000):∃ h',run T 164 [.ptr d 0,iQ (i:Int)] h=some (.int .u8 0,h')/\DW h' S w X d co M/\KX X h h':=by
 have ⟨⟨r,e1⟩,⟨cl,l,e2⟩,ne,lo⟩:=x.dr;obtain ⟨uu,h1,em,⟨rs,rfl,_⟩,k1⟩:=jU x.at_ hi hr;have ⟨x1,kx1⟩:=x.at_.still k1;have e1':=k1.obj e1 (by simp);have e2':=k1.obj e2 (by simp);have hm0:(gD m rs)[0]?=some (iQ m.pl):=rfl;have lts:=x1.Li;refine run_val Rc ?_;by_cases h0:m.pl=0
 . obtain ⟨z,hz⟩:∃ z,cl[i]?=some z:=⟨_,ah (by omega)⟩
   have hz':=ny hz;have ix:idxAddrV 1 none (.slice co 0 M (.exact M)) (iQ (i:Int))=some (.ptr co i):=by simp only [idxAddrV];rw [pQ];simp
   obtain ⟨z1,hz1⟩:∃ z1,z1=IntKind.wrap .i64 (z+1):=⟨_,rfl⟩
   have wi:writeOf h1 co (some (Qc (intsA cl) none)) i [iQ z1]=some (h1.put co (.cells false (intsA (cl.set i z1)) none)):=by rw [wr1 (by simp;omega) rfl,qa]
   have kp:Keep [co] h1 (h1.put co (.cells false (intsA (cl.set i z1)) none)):=Keep.put (by simp);have q1:(h1.put co (.cells false (intsA (cl.set i z1)) none)).get co=some (.cells false (intsA (cl.set i z1)) none):=by rw [get_put_same,e2'];rfl
   have q2:(h1.put co (.cells false (intsA (cl.set i z1)) none)).get d=some (.cells false [.ptr S.a 0,.int .u8 0,.int .i64 1,.int .i64 r,.slice co 0 M (.exact M)] none):=by rw [get_put_ne ne,e1']
   have q3:(intsA (cl.set i z1))[i]?=some (.int .i64 z1):=ny (ax (by omega));have em1:Int.tmod z1 1=0:=by simp
   simp [-writeOf_some,-getElem?_pos,Lf,e1,em,hm0,h0,e1',e2',ix,hz',<- hz1,wi,q1,q2,q3,em1,ad];exact ⟨⟨x1.outside kp (by simp;exact lo.2),⟨⟨r,q2⟩,⟨cl.set i z1,by simpa using l,q1⟩,ne,lo⟩,x.nx⟩,(kx1.sub (by simp;intro t ht;simp [ht])).trans (Cp kp (fun t ht=>⟨lts t (by simp [ht]),by simp;rintro rfl;exact x.nx.2 ht⟩))⟩
 . simp [-writeOf_some,-getElem?_pos,Lf,e1,em,hm0,h0,ad];exact ⟨⟨x1,⟨⟨r,e1'⟩,⟨cl,l,e2'⟩,ne,lo⟩,x.nx⟩,kx1.sub (by simp;intro t ht;simp [ht])⟩
def jv (w:W):Nat->Option W
 | 0=>some w
 | c+1=>match jv w c with
  | some w1=>match w1.all[c]? with
   | some m=>if m.rest.length<=1000 then (pickW w1 c 0 0).map Prod.fst else none
   | none=>none
  | none=>none
theorem B6 {w:W} {c n:Nat} (h:jv w c=none) (hn:c<=n):jv w n=none:=by
 induction n with
 | zero=>
  obtain rfl:c=0:=by omega
  exact h
 | succ n ih=>
  by_cases hc:c=n+1
  . subst hc;exact h
  . simp [jv,ih (by omega)]
def SG (h:AHeap) (S:jb) (w:W) (X:List Nat) (d co M n:Nat) (fr:FF) (g:AHeap):Prop:=∃ (c:Nat) (w1:W),c+n=M/\jv w c=some w1/\DW g S w1 X d co M/\KX X h g/\fr.get 0=.ptr d 0/\fr.get 3=.ptr d 0/\fr.get 8=.int .i64 (M:Int)/\fr.get 9=.int .i64 (c:Int)
theorem O8 (x:DW h S w X d co M):∃ h',run T 163 [.ptr d 0] h=some (.tuple [],h')/\DW h' S w X d co M/\KX X h h':=by have ⟨⟨r,e1⟩,⟨cl,l,e2⟩,ne,lo⟩:=x.dr;have lts:=x.at_.Li;have kp:∀ z,Keep [d] h (h.put d (Qc [.ptr S.a 0,.int .u8 0,iQ 1,iQ z,.slice co 0 M (.exact M)] none)):=fun z=>Keep.put (by simp);refine run_val NR ?_;simp [Qp,e1];exact ⟨⟨x.at_.outside (kp _) (by simp;exact lo.1),⟨⟨_,by rw [get_put_same,e1];rfl⟩,⟨cl,l,by rw [get_put_ne (aY ne),e2]⟩,ne,lo⟩,x.nx⟩,Cp (kp _) (fun t ht=>⟨lts t (by simp [ht]),by simp;rintro rfl;exact x.nx.1 ht⟩)⟩
theorem Ma (x:DW h S w X d co M) (hM:M<=1000) (hw:jv w M=some w'):∃ h',run T 132 [.ptr d 0] h=some (.tuple [],h')/\DW h' S w' X d co M/\KX X h h':=by
 obtain ⟨⟨r,e1⟩,_⟩:=x.dr;refine run_val Rf ?_;simp [-getElem?_pos,HE,e1,ad];refine Wp.loop (SG h S w X d co M) M lQ ?_ ?_
 . exact ⟨0,w,by simp,rfl,x,KX.refl,by simp⟩
 rintro n fr g ⟨c,w1,hc,hr,xg,k,s0,s3,s8,s9⟩;by_cases hcl:c<M
 . have hne:jv w (c+1)≠none:=fun hn=>by rw [B6 hn (show c+1<=M by omega)] at hw;cases hw
   have hstep:jv w (c+1)=match w1.all[c]? with
    | some m=>if m.rest.length<=1000 then (pickW w1 c 0 0).map Prod.fst else none
    | none=>none:=by simp [jv,hr]
   cases hi:w1.all[c]? with
   | none=>rw [hstep,hi] at hne;exact absurd rfl hne
   | some m=>
    rw [hi] at hstep;simp only at hstep;by_cases hrl:m.rest.length<=1000
    . rw [if_pos hrl] at hstep
      cases hp:pickW w1 c 0 0 with
      | none=>rw [hstep,hp] at hne;exact absurd rfl hne
      | some p=>
       have ⟨w2,more⟩:=p;rw [hp] at hstep;have ⟨g1,ea,x1,k1⟩:=Sx xg hi hcl hrl;have ⟨g2,es,x2,k2⟩:=BG x1.at_ hp
       have x3:DW g2 S w2 X d co M:=⟨x2,x1.dr.keep k2 (by simp) (by simp),x1.nx⟩
       obtain ⟨⟨r0,d0⟩,_⟩:=xg.dr;obtain ⟨⟨r1,d1⟩,_⟩:=x1.dr;simp [-getElem?_pos,s0,s8,s9,hcl,d0,d1,ea,es,ad];exact ⟨n-1,by omega,c+1,w2,by omega,by simpa using hstep,x3,(k.trans k1).trans (k2.sub (by simp;intro t ht;simp [ht])),by simp [s0,s3,s8,wrap_nat (c:=c) (by omega)]⟩
    . rw [hstep,if_neg hrl] at hne;exact absurd rfl hne
 . have hcx:c=M:=by omega
   subst hcx;rw [hr] at hw;cases hw;obtain ⟨g1,eo,x1,k1⟩:=O8 xg;simp [-getElem?_pos,s3,s8,s9,eo];exact ⟨x1,k.trans k1⟩
end
end
section
variable {e fr:Int}
def pe (w:W) (i:Nat) (m:Mc) (g fr e:Int):Option (W×Bool):=
 if (0<=g/\g<w.G)/\wd w.ws (w.tb+g.toNat)=fr then
  if rB (e,g,(i:Int),m.p,0)=true/\w.lg<=1000000000 then some (({w with ws:=w.ws.set (w.tb+g.toNat) 1}:W).cd.az i {m with got:=g,pl:=28},true) else none
 else some (w,false)
def leaveX (w:W) (i:Nat) (m:Mc) (to e:Int):Option W:=
 if (0<=m.g/\m.g<w.G)/\wd w.ws (w.tb+m.g.toNat)=2/\rB (e,m.g,(i:Int),m.p,0)=true/\w.lg<=1000000000 then some (({w with ws:=w.ws.set (w.tb+m.g.toNat) to}:W).cd.az i {m with got:=-1,g:=-1,pl:=1}) else none
def execX (w:W) (i:Nat) (m:Mc) (act g d:Int):Option (W×Bool):=
 if act=0 then some (w,true)
 else if act=1 then (leaveX w i m 1 3).map fun w'=>(w'.az i {m with got:=m.g,g:=-1,bk:=1,pl:=27},true)
 else if act=2 then (leaveX w i m 3 4).map fun w'=>(w',true)
 else if act=3 then (leaveX w i m 6 7).map fun w'=>(w',true)
 else if act=4 then pe w i m g 0 0
 else if act=5 then pe w i m g 3 1
 else if act=6 then some (w.az i {m with ar:=d,pl:=29},true)
 else if act=7 then (if 0<=g/\g<65536 then some (w.az i {m with ar:=g,pl:=30},true) else some (w,false))
 else some (w,false)
abbrev lJ (kind act a g d:Int):AV:=.agg [.int .u8 kind,.int .u8 act,.int .i64 a,.int .i64 g,.int .i64 d]
section
variable {h h' h'':AHeap} {S:jb} {w w':W} {X F G:List Nat} {own:Nat->Nat} {i k:Nat} {m:Mc} {r:Rg} {act g d kd:Int} {more:Bool}
theorem JL (x:WorldAt h S w X) (hi:w.all[i]?=some m) (hg:¬ (0<=g/\g<w.G)) (h0:0<=fr):∃ h',run T 105 [.ptr S.a 0,iQ (i:Int),iQ g,uQ fr,iQ e] h=some (.bool false,h')/\WorldAt h' S w X/\KX X h h':=by have x0:=x;have ⟨own,x⟩:=x;have ⟨b,cs,room,rv,F,hb,hc,hx,up,v,hF⟩:=x.fA hi;have ⟨u,room0,hd⟩:=x.hd;have ⟨h1,e1,k1⟩:=Ph (F:=w.tb) (N:=w.G) (a:=fr) (b:=1) (g:=g) x.nx (.ptr S.mi 0) h0 (fun e=>hg e.1);have ⟨x1,kx⟩:=x0.still k1;refine run_val T_105 ?_;simp [F105,hd,hx,e1];exact ⟨x1,kx⟩
theorem AA (h0:0<=fr) (hle:gJ fr 1=true) (x:WorldAt h S w X) (hi:w.all[i]?=some m) (hw:pe w i m g fr e=some (w',more)):∃ h',run T 105 [.ptr S.a 0,iQ (i:Int),iQ g,uQ fr,iQ e] h=some (.bool more,h')/\WorldAt h' S w' X/\KX X h h':=by
 unfold pe at hw;split at hw
 . rename_i hc;split at hw;case isFalse=>cases hw
   rename_i hr;cases hw;exact Az x hi hc.1 h0 hle hc.2 hr.1 hr.2
 . rename_i hc;cases hw;by_cases hg:0<=g/\g<w.G
   . exact D0 x hi hg h0 hle fun e=>hc ⟨hg,e⟩
   . exact JL x hi hg h0
theorem tW {to:Int} (h0:0<=to) (hle:gJ 2 to=true) (x:WorldAt h S w X) (hi:w.all[i]?=some m) (hw:leaveX w i m to e=some w'):(∃ h',run T 104 [.ptr S.a 0,iQ (i:Int),uQ to,iQ e] h=some (.tuple [],h')/\WorldAt h' S w' X/\KX X h h')/\w'.all[i]?=some {m with got:=-1,g:=-1,pl:=1}:=by
 unfold leaveX at hw;split at hw;case isFalse=>cases hw
 rename_i hc;cases hw;exact ⟨wM x hi hc.1 h0 hle hc.2.1 hc.2.2.1 hc.2.2.2,setm_at hi⟩
theorem Nc (x:WorldAt h S w X) (hi:w.all[i]?=some m) (a:Int) (hw:execX w i m act g d=some (w',more)):∃ h',run T 70 [.ptr S.a 0,iQ (i:Int),lJ kd act a g d] h=some (.bool more,h')/\WorldAt h' S w' X/\KX X h h':=by
 have ⟨x0,k0⟩:=x.push (Qc [.int .u8 kd,.int .u8 act,iQ a,iQ g,iQ d] none);have x0':=x0;have ⟨own,xx⟩:=x0';have ⟨b,cs,room,rv,Fr,hb,hc,hx,up,v,hF⟩:=xx.fA hi;have ⟨f0,f1,f2,f3,f4,f5,f6,f7,f8,f9,f10,f11⟩:=up.foc.facts;have ⟨l0,ll⟩:=up.foc.lt;have ⟨u,room0,hd⟩:=xx.hd;have hbx:(h.push (Qc [.int .u8 kd,.int .u8 act,iQ a,iQ g,iQ d] none)).get h.size=some (Qc [.int .u8 kd,.int .u8 act,iQ a,iQ g,iQ d] none):=ak;have sb:∀ t∈X,t∈h.size::X:=fun t ht=>by simp [ht]
 have nX:S.ao≠h.size:=fun e=>by have h1:=(x0.Li h.size (by simp));have h2:=xx.out h.size (by simp);rw [<- e,xx.all.1] at h2;omega
 refine run_val VR ?_;unfold execX at hw;split at hw
 . rename_i ha;subst ha;cases hw;simp [-writeOf_some,-getElem?_pos,F70,hd,hx,hbx,ad,av];exact ⟨x0.sub sb,k0⟩
 split at hw
 . rename_i ha;subst ha;simp only [ae] at hw;obtain ⟨w1,hw1,hw2⟩:=hw;cases hw2;obtain ⟨⟨h1,e1,x1,k1⟩,hi1⟩:=tW (by omega) (by decide) x0 hi hw1;obtain ⟨o1,y1⟩:=x1;obtain ⟨b1,c1,rr1,v1,F1,hb1,hc1,hx1,up1,vv1,hF1⟩:=y1.fA hi1;have hbb:b1=b:=by rw [hb,hb1]
   subst hbb;obtain ⟨l10,ll1⟩:=up1.foc.lt;obtain ⟨y2,k2⟩:=y1.bY (m':={m with got:=m.g,g:=-1,bk:=1,pl:=27}) hi1 hc1 hb1 (((up1.int 4 m.g).int 10 1).place 27) vv1 hF1;simp [-writeOf_some,-getElem?_pos,F70,hd,hx,hc,hbx,e1,f2,hc1,wrI,ll1,l10,ad,av];exact ⟨y2.sub sb,k0.trans ((k1.trans k2).sub sb)⟩
 split at hw
 . rename_i ha;subst ha;simp only [ae] at hw;obtain ⟨w1,hw1,hw2⟩:=hw;cases hw2;obtain ⟨⟨h1,e1,x1,k1⟩,hi1⟩:=tW (by omega) (by decide) x0 hi hw1;simp [-writeOf_some,-getElem?_pos,F70,hd,hx,hbx,e1,ad,av];exact ⟨x1.sub sb,k0.trans (k1.sub sb)⟩
 split at hw
 . rename_i ha;subst ha;simp only [ae] at hw;obtain ⟨w1,hw1,hw2⟩:=hw;cases hw2;obtain ⟨⟨h1,e1,x1,k1⟩,hi1⟩:=tW (by omega) (by decide) x0 hi hw1;simp [-writeOf_some,-getElem?_pos,F70,hd,hx,hbx,e1,ad,av];exact ⟨x1.sub sb,k0.trans (k1.sub sb)⟩
 split at hw
 . rename_i ha;subst ha;obtain ⟨h1,e1,x1,k1⟩:=AA (by omega) (by decide) x0 hi hw;simp [-writeOf_some,-getElem?_pos,F70,hd,hx,hbx,e1,ad,av];exact ⟨x1.sub sb,k0.trans (k1.sub sb)⟩
 split at hw
 . rename_i ha;subst ha;obtain ⟨h1,e1,x1,k1⟩:=AA (by omega) (by decide) x0 hi hw;simp [-writeOf_some,-getElem?_pos,F70,hd,hx,hbx,e1,ad,av];exact ⟨x1.sub sb,k0.trans (k1.sub sb)⟩
 split at hw
 . rename_i ha;subst ha;cases hw;obtain ⟨y2,k2⟩:=xx.bY (m':={m with ar:=d,pl:=29}) hi hc hb ((up.int 12 d).place 29) v hF;simp [-writeOf_some,-getElem?_pos,F70,hd,hx,hc,hbx,wrI,ll,l0,ad,av];exact ⟨y2.sub sb,k0.trans (k2.sub sb)⟩
 split at hw
 . rename_i ha;subst ha;split at hw
   . rename_i hg;cases hw;obtain ⟨y2,k2⟩:=xx.bY (m':={m with ar:=g,pl:=30}) hi hc hb ((up.int 12 g).place 30) v hF;have g1:¬ g<0:=by omega
     have g2:¬ 65536<=g:=by omega
     simp [-writeOf_some,-getElem?_pos,F70,hd,hx,hc,hbx,wrI,ll,l0,g1,g2,ad,av];exact ⟨y2.sub sb,k0.trans (k2.sub sb)⟩
   . rename_i hg;cases hw;by_cases g1:g<0
     . simp [-writeOf_some,-getElem?_pos,F70,hd,hx,hbx,g1,ad,av];exact ⟨x0.sub sb,k0⟩
     . have g2:65536<=g:=by omega
       simp [-writeOf_some,-getElem?_pos,F70,hd,hx,hbx,g1,g2,ad,av];exact ⟨x0.sub sb,k0⟩
 . rename_i a0 a1 a2 a3 a4 a5 a6 a7;cases hw;simp [-writeOf_some,-getElem?_pos,F70,hd,hx,hbx,a0,a1,a2,a3,a4,a5,a6,a7,ad,av];exact ⟨x0.sub sb,k0⟩
theorem FI (x:WorldAt h S w X) (hi:w.all[i]?=some m) (hn:wd w.ws (w.nt+i)=1) (hx0:m.nx<0):∃ h',run T 71 [.ptr S.a 0,iQ (i:Int)] h=some (.bool true,h')/\WorldAt h' S ((w.cR (w.nt+i) 0).az i (deliverM m 13)) X/\KX X h h':=by
 have ⟨own,x⟩:=x;have ⟨b,cs,room,rv,F,u,room0,hb,hc,hx,up,v,hF,hd,⟨f0,f1,f2,f3,f4,f5,f6,f7,f8,f9,f10,f11⟩,⟨l0,ll⟩,_⟩:=x.mz hi;have ⟨cnt,mm,n1,n2,n3,n4⟩:=x.gC;have sz:=x.sz;have s4:=sz.ws;have hiM:i<w.M:=by have:=(aa.1 hi).1;have:=x.lens;omega
 have ⟨h1,e1,m1,k1⟩:=tO (k:=((w.nt+i:Nat):Int)) mm (by omega) (by have:=oK sz hiM;omega);have hc1:=k1.obj hc (by simp [n1,n2]);have hd1:=k1.obj hd (by simp [n3,n4]);rw [aC] at e1 m1;have ew:IntKind.wrap .i64 ((w.nt:Int)+(i:Int))=((w.nt+i:Nat):Int):=by rw [iq (by omega) (by have:=oK sz hiM;have:=(iu sz).2;omega)];omega
 generalize ((w.nt+i:Nat):Int)=nk at e1 ew;rw [if_pos hn] at e1 m1;have x1:=x.j7 0 m1 (by simp) k1;have ⟨h2,e2,x2,k2⟩:=wdeliver_ok (w:=w.cR (w.nt+i) 0) (i:=i) (m:=m) ⟨_,x1⟩ hi 13;refine run_val T_71 ?_;simp [F71,hd,hx,e1,ew,hc1,f3,hx0,e2];exact ⟨x2,(x.Ja k1).trans k2⟩
def lI (w:W) (i:Nat) (m:Mc):W×Bool:=
 if wd w.ws (w.nt+i)=1 then ((w.cR (w.nt+i) 0).az i (if 0<=m.nx then {m with p:=m.nx,nx:=-1,sp:=true,pl:=4} else deliverM m 13),true) else (w,false)
theorem Jh (x:WorldAt h S w X) (hi:w.all[i]?=some m):∃ h',run T 71 [.ptr S.a 0,iQ (i:Int)] h=some (.bool (lI w i m).2,h')/\WorldAt h' S (lI w i m).1 X/\KX X h h':=by
 unfold lI;split
 . rename_i hn;by_cases h0:0<=m.nx
   . rw [if_pos h0];exact An x hi hn h0
   . rw [if_neg h0];exact FI x hi hn (by omega)
 . rename_i hn;exact Dz x hi hn
def uP (w:W) (i:Nat) (m:Mc):Option W:=
 if m.pl=8 then some ((w.cR w.sp (inc (wd w.ws w.sp) (-1))).az i {m with sp:=false,ii:=0,pl:=9})
 else if m.pl=12 then some ((w.cR w.sp (inc (wd w.ws w.sp) 1)).az i {m with sp:=true,pl:=4})
 else if m.pl=26 then
  if (0<=m.got/\m.got<w.G)/\rB (1,m.got,(i:Int),m.p,0)=true/\w.lg<=1000000000 then some (({w with ws:=w.ws.set (w.tb+m.got.toNat) 1}:W).cd.az i {m with bk:=25,pl:=27}) else none
 else Bm w i m
theorem NP (x:WorldAt h S w X) (hi:w.all[i]?=some m) (hw:uP w i m=some w'):∃ h',run T 74 [.ptr S.a 0,iQ (i:Int)] h=some (.tuple [],h')/\WorldAt h' S w' X/\KX X h h':=by
 unfold uP at hw;split at hw
 . rename_i hp;cases hw;exact K9 x hi hp
 split at hw
 . rename_i hp;cases hw;exact z9 x hi hp
 split at hw
 . rename_i hp;split at hw;case isFalse=>cases hw
   rename_i hc;cases hw;exact K6 x hi hp hc.1 hc.2.1 hc.2.2
 . exact IV x hi hw
def mC (m:Mc):Bool:=decide ((m.pl=2\/m.pl=3\/m.pl=4\/m.pl=6\/m.pl=7\/m.pl=17\/m.pl=18\/m.pl=28\/m.pl=27\/m.pl=23\/m.pl=9\/m.pl=10\/m.pl=11\/m.pl=13\/m.pl=14\/m.pl=15\/m.pl=25\/m.pl=29\/m.pl=30)/\-1000<=m.ii/\m.ii<=1000)
theorem thenX_ok (x:WorldAt h S w X) (hi:w.all[i]?=some m) {is:Bool} (hf:w.flag[i]?=some is) (ho:mC m=true):∃ h',run T 114 [.ptr S.a 0,iQ (i:Int)] h=some (.tuple [],h')/\WorldAt h' S (w.az i (thenM m is w.P)) X/\KX X h h':=by
 simp [mC,decide_eq_true_eq] at ho;have ⟨hp,hii⟩:=ho;rcases hp with hp | hp | hp | hp | hp | hp | hp | hp | hp | hp | hp | hp | hp | hp | hp | hp | hp | hp | hp
 . exact LF x hi hf hp hii
 . exact LD x hi hf hp hii
 . exact LC x hi hf hp hii
 . exact LB x hi hf hp hii
 . exact LA x hi hf hp hii
 . exact H2 x hi hf hp
 . exact H0 x hi hf hp
 . exact HX x hi hf hp
 . exact HY x hi hf hp
 . exact HZ x hi hf hp
 . exact RI x hi hf hp hii
 . exact OI x hi hf hp
 . exact OH x hi hf hp
 . exact OG x hi hf hp
 . exact OF x hi hf hp
 . exact OE x hi hf hp
 . exact OD x hi hf hp
 . exact OC x hi hf hp
 . exact OB x hi hf hp
end
end
section
structure Whole (h:AHeap) (S:jb) (L:fZ) (w:W) (s:dU) (X:List Nat):Prop where
 at_:WorldAt h S w (L.objs S.si s.t.hs.length++X)
 src:dP h S.si L s true
 lo:∀ t∈L.objs S.si s.t.hs.length,11<=t
 nX:∀ t∈L.objs S.si s.t.hs.length,t∉X
 hl:s.t.hs.length=w.P
section
variable {h h' h'':AHeap} {S:jb} {L L':fZ} {w w':W} {s s':dU} {X Y F G:List Nat} {own:Nat->Nat} {i k si:Nat} {m:Mc} {r:Rg} {full:Bool}
theorem dP.keep (x:dP h si L s full) (k:Keep G h h') (hG:∀ t∈L.objs si s.t.hs.length,t∉G):dP h' si L s full:=by have ⟨⟨room,a⟩,t,p,r1,r2,r3,r4⟩:=x;have g:∀ t,(t=si\/t=L.ti\/t=L.li\/t=L.hi\/t=L.pi\/t=L.fi\/t=L.wi\/∃ k,k<s.t.hs.length/\t∈L.Fs k)->t∉G:=fun t ht=>hG t (iS.2 ht);exact ⟨⟨room,k.obj a (g _ (by simp))⟩,t.keep k ⟨g _ (by simp),g _ (by simp),g _ (by simp)⟩ (fun j hj z hz=>g z (by right;right;right;right;right;right;right;exact ⟨j,hj,hz⟩)),p.keep k ⟨g _ (by simp),g _ (by simp),g _ (by simp)⟩,r1,r2,r3,r4⟩
theorem Whole.world (x:Whole h S L w s X) (y:WorldAt h' S w' (L.objs S.si s.t.hs.length++X)) (k:KX (L.objs S.si s.t.hs.length++X) h h') (hP:w'.P=w.P):Whole h' S L w' s X/\KX X h h':=
 ⟨⟨y,x.src.keep k.keep (KX.th fun t ht=>bp _ ht),x.lo,x.nX,x.hl.trans hP.symm⟩,k.sub fun t ht=>cf _ ht⟩
theorem Whole.source (x:Whole h S L w s X) (k:Keep G h h') (hG:∀ t∈G,t∈L.objs S.si s.t.hs.length) (y:dP h' S.si L' s' true) (hn:∀ t∈L'.objs S.si s'.t.hs.length,t∈L.objs S.si s.t.hs.length\/(h.size<=t/\t<h'.size)) (hl:s'.t.hs.length=s.t.hs.length):Whole h' S L' w s' X/\KX X h h':=by
 have ⟨own,xa⟩:=x.at_;have sz:11<=h.size:=by have:=xa.nx.r 6 [] rfl;have:=get_lt this;omega
 have x1:=xa.src k fun t ht=>⟨bp _ (hG t ht),x.lo t (hG t ht)⟩
 have hout:∀ t∈L'.objs S.si s'.t.hs.length++X,t<h'.size/\ext own h.size 0 t=0:=fun t ht=>by
  rcases bd.1 ht with h1 | h1
  . rcases hn t h1 with h2 | h2
    . exact x1.out t (bp _ h2)
    . exact ⟨h2.2,ext_new own h2.1⟩
  . exact x1.out t (cf _ h1)
 have x2:eR h' S w (L'.objs S.si s'.t.hs.length++X) (ext own h.size 0):={x1 with out:=hout}
 refine ⟨⟨⟨_,x2⟩,y,fun t ht=>?_,fun t ht hX=>?_,hl.trans x.hl⟩,⟨k.size,fun k' lb e=>k.caps k' lb e,fun t ht=>k.get t (xa.out t (cf _ ht)).1 fun hm=>x.nX t (hG t hm) ht⟩⟩
 . rcases hn t ht with h2 | h2
   . exact x.lo t h2
   . omega
 . rcases hn t ht with h2 | h2
   . exact x.nX t h2 hX
   . have:=(xa.out t (cf _ hX)).1;omega
theorem Whole.still (x:Whole h S L w s X) (k:Keep [] h h'):Whole h' S L w s X/\KX X h h':=by have ⟨y,ky⟩:=x.at_.still k;exact x.world y ky rfl
theorem Whole.sub (x:Whole h S L w s X) (hY:∀ t∈Y,t∈X):Whole h S L w s Y:=
 ⟨x.at_.sub fun t ht=>by rcases bd.1 ht with h1 | h1;exact bp _ h1;exact cf _ (hY t h1),x.src,x.lo,fun t ht hm=>x.nX t ht (hY t hm),x.hl⟩
theorem Whole.obj (x:Whole h S L w s X) (k:Keep G h h') (hG:∀ t∈G,t∈L.objs S.si s.t.hs.length) {j:Nat} {o:AObj} (e:h.get j=some o) (hj:∀ own,eR h S w (L.objs S.si s.t.hs.length++X) own->own j≠0):h'.get j=some o:=
 k.obj e fun hm=>by have ⟨own,xa⟩:=x.at_;exact hj own xa (xa.out j (bp _ (hG j hm))).2
theorem eR.T8 (x:eR h S w X own):own S.a≠0/\own S.ao≠0/\own S.fo≠0:=⟨by rw [x.ca];omega,by rw [x.all.1];omega,by rw [x.flag.1];omega⟩
end
def findX (w:W) (i:Nat) (m:Mc):Option (W×Bool):=
 if m.tm=0/\w.ms=[]/\w.q=-1 then match w.ip with
  | []=>some (w,true)
  | p::L=>if p<w.P/\p∉L/\(p:Int)∉w.pend/\w.pend.length<=1000 then some ({w with ip:=L,pend:=w.pend++[(p:Int)]},false) else none
 else findW w i m
def doX (w:W) (i:Nat) (m:Mc):Option (W×Bool):=
 if m.pl=2 then (if w.gl.length<=1000 then some (oneW {w with gl:=w.gl.drop 1} i m (w.gl.headD 0) (decide (w.gl≠[])),false) else none)
 else if m.pl=7 then
  if w.gl≠[] then (if w.gl.length<=1000 then some (foundW {w with gl:=w.gl.drop (shareN w.gl.length w.P)} i m (w.gl.take (shareN w.gl.length w.P)),false) else none)
  else if 0<=m.p/\m.p.toNat<w.P/\m.p.toNat∉w.ip/\m.p∉w.pend/\w.pend.length<=1000 then some (({w.aL i false with ip:=insP m.p.toNat w.ip}:W).az i {m with p:=-1},false) else none
 else if m.pl=9 then
  if 0<=m.ii then match w.rings[m.ii.toNat]? with
   | some r=>some (w.aL i (decide (r.row≠[]\/r.is=true)),false)
   | none=>none
  else none
 else if m.pl=10 then some (w.aL i (decide (w.gl≠[])),false)
 else if m.pl=11 then match w.ip with
  | []=>some (w.aL i false,false)
  | p::L=>some ((({w with ip:=L}:W).aL i true).az i {m with p:=(p:Int)},false)
 else if m.pl=13 then match w.pend with
  | p::L=>if L.length<=1000 then some ((({w with pend:=L}:W).aL i true).az i {m with p:=p,sp:=true},false) else none
  | []=>if i<w.M/\(i:Int)∉w.ms/\w.q≠(i:Int)/\w.ms.length<=1000 then some (if w.q=-1 then ({(w.aL i true).az i {m with sp:=false} with q:=(i:Int)}:W) else {(w.aL i false).az i {m with sp:=false} with ms:=w.ms++[(i:Int)]},false) else none
 else if m.pl=15 then some (if w.q=(i:Int) then ({w.aL i true with q:=-1}:W) else w.aL i false,false)
 else if m.pl=27 then (if w.gl.length<=1000 then some (({w with gl:=w.gl++[m.got]}:W).az i {m with got:=-1},false) else none)
 else if m.pl=23 then findX w i m
 else IL w i m
def HA (s:dU) (k:Nat) (g d:Int) (s':dU):Prop:=∃ l l',s.t.hs[k]?=some l/\s'={s with t:={hs:=s.t.hs.set k l',ord:=s.t.ord+1,has:=s.t.has++[g]}}/\l'.Perm (l++[(sumC s.now (max 0 d),s.t.ord,g)])/\(∀ a b,l'[0]?=some a->l[0]?=some b->a.1<=b.1)/\(l=[]->l'=[(sumC s.now (max 0 d),s.t.ord,g)])
inductive Lk (w:W) (s:dU) (i:Nat) (m:Mc):W->dU->Bool->Prop
 | pure {w':W} {more:Bool}:doX w i m=some (w',more)->Lk w s i m w' s more
 | check:m.pl=14->Lk w s i m (w.aL i (dueS s)) s false
 | deliver {s':dU} {g:Int} {is:Bool}:m.pl=25->yG s s' g is->Lk w s i m (oneW w i m g is) s' false
 | park0 {k:Nat} {s':dU}:m.pl=29->m.tm=0->m.p=k->HA s k m.g m.ar s'->Lk w s i m ((w.aL i (dueS s')).az i {m with ar:=sumC s.now (max 0 m.ar)}) s' true
 | await0:m.pl=30->m.tm=0->jN s.p m.ar m.g=false->Lk w s i m (w.aL i (dueS (waitS s m.ar m.g))) (waitS s m.ar m.g) true
 | awaitNo:m.pl=30->m.tm=0->jN s.p m.ar m.g=true->Lk w s i m (w.aL i false) s false
 | out1:(m.pl=29\/m.pl=30)->0<m.tm->Lk w s i m (({w with ws:=w.ws.set (w.tb+m.g.toNat) (if m.pl=29 then 4 else 5)}:W).cd.az i {m with g:=-1}) s false
structure Df (s:dU) (m:Mc):Prop where
 k:∃ (k:Nat) (l:List En),m.p=k/\s.t.hs[k]?=some l/\l.length<1000000
 g:0<=m.g/\m.g<4096
 ar:isI64 m.ar
 has:m.g∉s.t.has
 who:(s.p.who.find? fun x=>decide (x.1=m.g))=none
 ord:0<=s.t.ord/\s.t.ord<9223372036854775807
structure yJ (s:dU) (m:Mc):Prop where
 g:0<=m.g/\m.g<4096
 ar:0<=m.ar/\m.ar<65536
 has:m.g∉s.t.has
 wa:0<=s.waits/\s.waits<9223372036854775807
structure HB (w:W) (i:Nat) (m:Mc):Prop where
 g:0<=m.g/\m.g<w.G
 st:wd w.ws (w.tb+m.g.toNat)=2
 ev:rB (if m.pl=29 then 5 else 6,m.g,(i:Int),m.p,m.ar)=true
 lg:w.lg<=1000000000
inductive sX (w:W) (s:dU) (i:Nat) (m:Mc):Prop
 | pure {r:W×Bool}:doX w i m=some r->sX w s i m
 | check:m.pl=14->sX w s i m
 | deliver:m.pl=25->wc s->sX w s i m
 | park0:m.pl=29->m.tm=0->Df s m->sX w s i m
 | await0:m.pl=30->m.tm=0->yJ s m->sX w s i m
 | out1:(m.pl=29\/m.pl=30)->0<m.tm->HB w i m->sX w s i m
section
variable {h h' h'':AHeap} {S:jb} {L L':fZ} {w w':W} {s s':dU} {X Y F G:List Nat} {own:Nat->Nat} {i k si:Nat} {m:Mc} {r:Rg} {full more:Bool}
theorem Nb (x:WorldAt h S w X) (hi:w.all[i]?=some m) (hd:findX w i m=some (w',more)):∃ h',run T 153 [.ptr S.a 0,iQ (i:Int),iQ m.tm] h=some (.bool more,h')/\WorldAt h' S w' X/\KX X h h':=by
 unfold findX at hd;split at hd
 . rename_i hc;split at hd
   . rename_i hip;cases hd;rw [hc.1];exact A7 x hi hip
   . rename_i p L hip;split at hd;case isFalse=>cases hd
     rename_i h1;cases hd;rw [hc.1];exact KE x hi hip h1.1 h1.2.1 h1.2.2.1 h1.2.2.2 hc.2.1 hc.2.2
 . exact IH x hi hd
theorem doX_ok (x:WorldAt h S w X) (hi:w.all[i]?=some m) (hd:doX w i m=some (w',more)):∃ h',run T 113 [.ptr S.a 0,iQ (i:Int),iQ m.tm] h=some (.bool more,h')/\WorldAt h' S w' X/\KX X h h':=by
 unfold doX at hd;by_cases hp:m.pl=2
 . rw [if_pos hp] at hd;split at hd;case isFalse=>cases hd
   rename_i hl;cases hd;exact Sl x hi hp hl m.tm
 rw [if_neg hp] at hd;clear hp;by_cases hp:m.pl=7
 . rw [if_pos hp] at hd;split at hd
   . rename_i hg;split at hd;case isFalse=>cases hd
     rename_i hl;cases hd;exact zX x hi hp hl hg m.tm
   . rename_i hg;split at hd;case isFalse=>cases hd
     rename_i hl;cases hd;have hk:m.p=(m.p.toNat:Int):=by omega
     exact CT x hi hp (cU fun e=>hg e) hk hl.2.1 hl.2.2.1 (by rw [<- hk];exact hl.2.2.2.1) hl.2.2.2.2 m.tm
 rw [if_neg hp] at hd;clear hp;by_cases hp:m.pl=9
 . rw [if_pos hp] at hd;split at hd;case isFalse=>cases hd
   rename_i h0;split at hd;case h_2=>cases hd
   rename_i r hr;cases hd;exact PH x hi hp (aH h0).symm hr m.tm
 rw [if_neg hp] at hd;clear hp;by_cases hp:m.pl=10
 . rw [if_pos hp] at hd;cases hd;exact Nl x hi hp m.tm
 rw [if_neg hp] at hd;clear hp;by_cases hp:m.pl=11
 . rw [if_pos hp] at hd;split at hd
   . rename_i hip;cases hd;exact EX x hi hp hip m.tm
   . rename_i p L hip;cases hd;exact CS x hi hp hip m.tm
 rw [if_neg hp] at hd;clear hp;by_cases hp:m.pl=13
 . rw [if_pos hp] at hd;split at hd
   . rename_i p L hpe;split at hd;case isFalse=>cases hd
     rename_i hl;cases hd;exact EW x hi hp hpe hl m.tm
   . rename_i hpe;split at hd;case isFalse=>cases hd
     rename_i hl;cases hd;exact PG x hi hp hpe hl.1 hl.2.1 hl.2.2.1 hl.2.2.2 m.tm
 rw [if_neg hp] at hd;clear hp;by_cases hp:m.pl=15
 . rw [if_pos hp] at hd;cases hd;exact KP x hi hp m.tm
 rw [if_neg hp] at hd;clear hp;by_cases hp:m.pl=27
 . rw [if_pos hp] at hd;split at hd;case isFalse=>cases hd
   rename_i hl;cases hd;exact KQ x hi hp hl m.tm
 rw [if_neg hp] at hd;clear hp;by_cases hp:m.pl=23
 . rw [if_pos hp] at hd;have ⟨h1,e1,x1,k1⟩:=Nb x hi hd;exact ⟨h1,IK x hi hp e1,x1,k1⟩
 rw [if_neg hp] at hd;exact QT x hi hd
theorem R1 (w:W) (i:Nat) (m:Mc) (g:Int) (is:Bool):(oneW w i m g is).P=w.P:=by unfold oneW foundW;cases is<;>rfl
theorem Nn (x:Whole h S L w s X) (hi:w.all[i]?=some m) (hp:m.pl=14) (times:Int):∃ h',run T 113 [.ptr S.a 0,iQ (i:Int),iQ times] h=some (.bool false,h')/\Whole h' S L (w.aL i (dueS s)) s X/\KX X h h':=by
 have ⟨h1,e1,k1⟩:=rL x.src;have ⟨x1,kx1⟩:=x.still k1;have ⟨own,xa⟩:=x.at_;have ⟨b,cs,room,rv,Fr,u,room0,hb,hc,hx,up,v,hF,hd,⟨f0,f1,f2,f3,f4,f5,f6,f7,f8,f9,f10,f11⟩,_⟩:=xa.mz hi;have hd1:=k1.obj hd (by simp);have ⟨o1,y1⟩:=id x1.at_;have ⟨is,hf⟩:=jA y1 hi;have ⟨room2,hfl,x2,k2,hfx,hfL,n1,n2⟩:=y1.pR hf (dueS s);have wS:writeOf h1 S.fo (some (Qc (boolsA w.flag) room2)) i [.bool (dueS s)]=some (h1.put S.fo (Qc (boolsA (w.flag.set i (dueS s))) room2)):=by rw [wrB (by simpa using hfL),boolsA_set]
 have ⟨x3,kx3⟩:=x1.world x2 k2 rfl;rw [hp] at f0;refine run_val T_113 ?_;simp [F113,hd,hx,hc,f0,e1,hd1,hfl,hfx,wS];exact ⟨x3,kx1.trans kx3⟩
theorem Hl (x:Whole h S L w s X) (hi:w.all[i]?=some m) (hp:m.pl=25) (hpre:wc s) (times:Int):∃ h' s' g is,run T 113 [.ptr S.a 0,iQ (i:Int),iQ times] h=some (.bool false,h')/\yG s s' g is/\Whole h' S L (oneW w i m g is) s' X/\KX X h h':=by
 have ⟨h1,s',g,is,G,e1,tr,y1,k1,hG,hl1⟩:=LP x.src hpre;have ⟨x1,kx1⟩:=x.source k1 hG y1 (fun t ht=>.inl (by rw [hl1] at ht;exact ht)) hl1;have ⟨h2,e2,x2,k2⟩:=Gx x1.at_ hi g is;have ⟨x3,kx3⟩:=x1.world x2 k2 (R1 _ _ _ _ _);have ⟨own,xa⟩:=x.at_;have ⟨b,cs,room,rv,Fr,u,room0,hb,hc,hx,up,v,hF,hd,⟨f0,f1,f2,f3,f4,f5,f6,f7,f8,f9,f10,f11⟩,_⟩:=xa.mz hi;rw [hp] at f0;have key:∃ h',run T 113 [.ptr S.a 0,iQ (i:Int),iQ times] h=some (.bool false,h')/\Whole h' S L (oneW w i m g is) s' X/\KX X h h':=by refine run_val T_113 ?_;simp [ad,av,F113,hd,hx,hc,f0,e1,e2];exact ⟨x3,kx1.trans kx3⟩
 have ⟨h',e,a,b⟩:=key;exact ⟨h',s',g,is,e,tr,a,b⟩
end
end
section
variable {h h' h'':AHeap} {S:jb} {L L':fZ} {w w':W} {s s':dU} {X Y F G:List Nat} {own:Nat->Nat} {i k si:Nat} {m:Mc} {r:Rg} {full more:Bool}
theorem IZ.arg {cs:List AV} {b:Nat} {m:Mc} {rv:AV} (f:IZ cs b m rv):cs[b+12]?=some (iQ m.ar):=f.at_ 12 (by omega)
theorem FG (x:Whole h S L w s X) (hi:w.all[i]?=some m) (hp:m.pl=29) (pre:Df s m):∃ (h':AHeap) (L':fZ) (s':dU) (k:Nat),run T 154 [.ptr S.a 0,iQ (i:Int),iQ 0] h=some (.bool true,h')/\m.p=k/\HA s k m.g m.ar s'/\Whole h' S L' ((w.aL i (dueS s')).az i {m with ar:=sumC s.now (max 0 m.ar)}) s' X/\KX X h h':=by
 have ⟨k,l,hk,hkl,hll⟩:=pre.k;have ⟨h1,l',F',s',hs',e1,y1,p1,p2,p3,k1,f1⟩:=Jt x.src hkl hll pre.g pre.ar pre.has pre.who pre.ord;have hkn:=(aa.1 hkl).1;have en:=nV x.src;have es:run T 158 [iQ s.now,iQ (max 0 m.ar)] h=some (iQ (sumC s.now (max 0 m.ar)),h):=LM h x.src.now (by have:=pre.ar;unfold isI64 at *;omega) (by omega);have hl1:s'.t.hs.length=s.t.hs.length:=by rw [hs'];simp
 have hG:∀ t∈L.ti::L.hi::L.li::L.Fs k,t∈L.objs S.si s.t.hs.length:=fun t ht=>by
  rw [iS];simp [aD] at ht;rcases ht with h | h | h | h
  . simp [h]
  . simp [h]
  . simp [h]
  . right;right;right;right;right;right;right;exact ⟨k,hkn,h⟩
 have hn:∀ t∈({L with Fs:=fun j=>if j=k then F' else L.Fs j}:fZ).objs S.si s'.t.hs.length,t∈L.objs S.si s.t.hs.length\/(h.size<=t/\t<h1.size):=fun t ht=>by
  rw [hl1] at ht;rw [iS] at ht ⊢;simp only at ht
  rcases ht with h | h | h | h | h | h | h | ⟨j,hj,h⟩
  . simp [h]
  . simp [h]
  . simp [h]
  . simp [h]
  . simp [h]
  . simp [h]
  . simp [h]
  . by_cases hjk:j=k
    . rw [if_pos hjk] at h;rcases f1 t h with h2 | h2
      . left;right;right;right;right;right;right;right;exact ⟨k,hkn,h2⟩
      . right;refine ⟨h2,?_⟩;have hl':s'.t.hs[k]?=some l':=by rw [hs'];simp [hkn]
        have:=(y1.t.hp k l' hl').at_;obtain ⟨u,room,cs,_,_,v⟩:=this;exact v.lt t (by simpa using h)
    . rw [if_neg hjk] at h;left;right;right;right;right;right;right;right;exact ⟨j,hj,h⟩
 obtain ⟨x1,kx1⟩:=x.source k1 hG y1 hn hl1;have ob:=fun {j:Nat} {o:AObj} (e:h.get j=some o)=>x.obj k1 hG e;obtain ⟨own,xa⟩:=x.at_;obtain ⟨b,cs,room,rv,Fr,hb,hc,hx,up,v,hF⟩:=xa.fA hi;obtain ⟨u,room0,hd⟩:=xa.hd;obtain ⟨f0,f1',f2,f3,f4,f5,f6,f7,f8,f9,f10,f11⟩:=up.foc.facts;have f12:=up.foc.arg;obtain ⟨l0,ll⟩:=up.foc.lt;have hd1:=ob hd (fun own y=>y.T8.1);have hc1:=ob hc (fun own y=>y.T8.2.1);obtain ⟨o1,y2⟩:=id x1.at_;obtain ⟨is,hf⟩:=jA y2 hi;obtain ⟨room2,hfl,x2,k2,hfx,hfL,n1,n2⟩:=y2.pR hf (dueS s');have wS:writeOf h1 S.fo (some (.cells false (boolsA w.flag) room2)) i [.bool (dueS s')]=some (h1.put S.fo (.cells false (boolsA (w.flag.set i (dueS s'))) room2)):=by rw [wrB (by simpa using hfL),boolsA_set]
 obtain ⟨x3,kx3⟩:=x1.world x2 k2 rfl;obtain ⟨o3,y3⟩:=id x3.at_;have hi3:(w.aL i (dueS s')).all[i]?=some m:=hi;obtain ⟨b3,c3,rr3,v3,F3,hb3,hc3,hx3,up3,vv3,hF3⟩:=y3.fA hi3;have hbb:b3=b:=by rw [hb,hb3]
 subst hbb;have hc3':=hc3;rw [get_put_ne (aY n1),hc1] at hc3';cases hc3';obtain ⟨y4,k4⟩:=y3.bY (m':={m with ar:=sumC s.now (max 0 m.ar)}) hi3 hc3 hb3 (up3.int 12 (sumC s.now (max 0 m.ar))) vv3 hF3;obtain ⟨x4,kx4⟩:=x3.world y4 k4 rfl;rw [hp] at f0;rw [hk] at f1';have key:∃ h',run T 154 [.ptr S.a 0,.int .i64 (i:Int),.int .i64 0] h=some (.bool true,h')/\Whole h' S {L with Fs:=fun j=>if j=k then F' else L.Fs j} ((w.aL i (dueS s')).az i {m with ar:=sumC s.now (max 0 m.ar)}) s' X/\KX X h h':=by refine run_val T_154 ?_;simp [-writeOf_some,-getElem?_pos,ad,av,F154,hd,hx,hc,f0,f1',f2,f12,en,es,e1,hd1,hfl,hfx,wS,hc3,wrI,ll];exact ⟨x4,(kx1.trans kx3).trans kx4⟩
 obtain ⟨h',e,a,c⟩:=key;exact ⟨h',_,s',k,e,hk,⟨l,l',hkl,hs',p1,p2,p3⟩,a,c⟩
theorem Dy (x:Whole h S L w s X) (hi:w.all[i]?=some m) (hp:m.pl=30) (pre:yJ s m):∃ (h':AHeap),run T 154 [.ptr S.a 0,iQ (i:Int),iQ 0] h=some (.bool (!jN s.p m.ar m.g),h')/\(if jN s.p m.ar m.g=true then Whole h' S L (w.aL i false) s X else Whole h' S L (w.aL i (dueS (waitS s m.ar m.g))) (waitS s m.ar m.g) X)/\KX X h h':=by
 have ⟨own,xa⟩:=id x.at_;have ⟨b,cs,room,rv,Fr,hb,hc,hx,up,v,hF⟩:=xa.fA hi;have ⟨u,room0,hd⟩:=xa.hd;have ⟨f0,f1',f2,f3,f4,f5,f6,f7,f8,f9,f10,f11⟩:=up.foc.facts;have f12:=up.foc.arg;have ew:IntKind.wrap .u16 m.ar=m.ar:=by have:=pre.ar;simp [IntKind.wrap,IntKind.signed,IntKind.bits];omega
 rw [hp] at f0;cases hn:jN s.p m.ar m.g with
 | true=>
  have ⟨e,h1,e1,ne,k1⟩:=LL x.src pre.g pre.has hn;have ⟨x1,kx1⟩:=x.still k1;have hd1:=k1.obj hd (by simp);have ⟨o1,y2⟩:=id x1.at_;have ⟨is,hf⟩:=jA y2 hi;have ⟨room2,hfl,x2,k2,hfx,hfL,n1,n2⟩:=y2.pR hf false;have wS:writeOf h1 S.fo (some (Qc (boolsA w.flag) room2)) i [.bool false]=some (h1.put S.fo (Qc (boolsA (w.flag.set i false)) room2)):=by rw [wrB (by simpa using hfL),boolsA_set]
  have ⟨x3,kx3⟩:=x1.world x2 k2 rfl;refine run_val T_154 ?_;simp [ad,av,F154,hd,hx,hc,f0,f2,f12,ew,e1,hd1,hfl,hfx,wS,ne];exact ⟨x3,kx1.trans kx3⟩
 | false=>
  have ⟨h1,e1,y1,k1⟩:=Jq x.src pre.g pre.has hn pre.wa;have hG:∀ t∈[S.si,L.fi,L.wi],t∈L.objs S.si s.t.hs.length:=fun t ht=>by rw [iS];simp at ht;rcases ht with h | h | h<;>simp [h]
  have ⟨x1,kx1⟩:=x.source k1 hG y1 (fun t ht=>.inl ht) rfl;have hd1:=x.obj k1 hG hd (fun own y=>y.T8.1);have ⟨o1,y2⟩:=id x1.at_;have ⟨is,hf⟩:=jA y2 hi;have ⟨room2,hfl,x2,k2,hfx,hfL,n1,n2⟩:=y2.pR hf (dueS (waitS s m.ar m.g));have wS:writeOf h1 S.fo (some (Qc (boolsA w.flag) room2)) i [.bool (dueS (waitS s m.ar m.g))]=some (h1.put S.fo (Qc (boolsA (w.flag.set i (dueS (waitS s m.ar m.g)))) room2)):=by rw [wrB (by simpa using hfL),boolsA_set]
  have ⟨x3,kx3⟩:=x1.world x2 k2 rfl;refine run_val T_154 ?_;simp [ad,av,F154,hd,hx,hc,f0,f2,f12,ew,e1,hd1,hfl,hfx,wS];exact ⟨x3,kx1.trans kx3⟩
theorem Jg (x:WorldAt h S w X) (hi:w.all[i]?=some m) (hp:m.pl=29\/m.pl=30) {t:Int} (ht:0<t) (pre:HB w i m):∃ (h':AHeap),run T 154 [.ptr S.a 0,iQ (i:Int),iQ t] h=some (.bool false,h')/\WorldAt h' S (({w with ws:=w.ws.set (w.tb+m.g.toNat) (if m.pl=29 then 4 else 5)}:W).cd.az i {m with g:=-1}) X/\KX X h h':=by
 have ⟨own,x⟩:=x
 have ⟨b,cs,room,rv,F,hb,hc,hx,up,v,hF⟩:=x.fA hi
 have ⟨u,room0,hd⟩:=x.hd
 have ⟨f0,f1,f2,f3,f4,f5,f6,f7,f8,f9,f10,f11⟩:=up.foc.facts
 have f12:=up.foc.arg
 have ⟨l0,ll⟩:=up.foc.lt
 have ⟨cnt,mm,n1,n2,n3,n4⟩:=x.gC
 have sz:=x.sz
 have s4:=sz.ws
 obtain ⟨to,hto⟩:∃ to:Int,(if m.pl=29 then 4 else 5)=to:=⟨_,rfl⟩
 have hle:gJ 2 to=true:=by rw [<- hto];split<;>decide
 have hto0:0<=to:=by rw [<- hto];split<;>omega
 have ⟨h1,e1,m1,k1⟩:=nh (F:=w.tb) (N:=w.G) x.nx mm (a:=2) (b:=to) (by omega) hto0 pre.g hle (iu sz).1 (iu sz).2
 have hc1:=k1.obj hc (by simp [n1,n2])
 have hd1:=k1.obj hd (by simp [n3,n4])
 rw [if_pos pre.st] at m1
 rw [decide_eq_true pre.st] at e1
 have x1:=x.j7 0 m1 (by simp) k1
 have ⟨h2,e2,x2,k2⟩:=rG (w:={w with ws:=w.ws.set (w.tb+m.g.toNat) to}) (i:=i) ⟨_,x1⟩ hi pre.ev pre.lg
 have ⟨o2,x2⟩:=x2
 have hi2:(({w with ws:=w.ws.set (w.tb+m.g.toNat) to}:W).cd).all[i]?=some m:=hi
 have ⟨b2,c2,r2,v2,F2,hb2,hc2,hx2,up2,vv2,hF2⟩:=x2.fA hi2
 have hbb:b2=b:=by rw [hb,hb2]
 subst hbb
 have ⟨l20,ll2⟩:=up2.foc.lt
 have ⟨y3,k3⟩:=x2.bY (m':={m with g:=-1}) hi2 hc2 hb2 (up2.int 2 (-1)) vv2 hF2
 have ht0:¬ t=0:=by omega
 rw [hto]
 refine run_val T_154 ?_
 rcases hp with hp | hp
 . rw [hp] at f0 hto e2
   obtain rfl:(4:Int)=to:=hto
   rw [if_pos rfl] at e2
   simp [F154,-writeOf_some,hd,hx,hc,wrI,ll2,f0,f2,f12,ht0,e1,e2,hc1,hc2]
   exact ⟨y3,((x.Ja k1).trans k2).trans k3⟩
 . rw [hp] at f0 hto e2
   obtain rfl:(5:Int)=to:=by simpa using hto
   rw [if_neg (by decide)] at e2
   simp [F154,-writeOf_some,hd,hx,hc,wrI,ll2,f0,f2,f12,ht0,e1,e2,hc1,hc2]
   exact ⟨y3,((x.Ja k1).trans k2).trans k3⟩
theorem Hk (x:WorldAt h S w X) (hi:w.all[i]?=some m) (hp:m.pl=29\/m.pl=30) {times:Int} {h1:AHeap} (e1:run T 154 [.ptr S.a 0,iQ (i:Int),iQ times] h=some (.bool more,h1)):run T 113 [.ptr S.a 0,iQ (i:Int),iQ times] h=some (.bool more,h1):=by have ⟨own,x⟩:=x;have ⟨b,cs,room,rv,Fr,u,room0,hb,hc,hx,up,v,hF,hd,⟨f0,f1,f2,f3,f4,f5,f6,f7,f8,f9,f10,f11⟩,_⟩:=x.mz hi;refine run_eq T_113 ?_;rcases hp with hp | hp<;>rw [hp] at f0<;>simp [F113,hd,hx,hc,f0,e1]
theorem Sm (x:Whole h S L w s X) (hi:w.all[i]?=some m) (pre:sX w s i m) (hP:∀ w' more,doX w i m=some (w',more)->w'.P=w.P):∃ (h':AHeap) (L':fZ) (w':W) (s':dU) (more:Bool),run T 113 [.ptr S.a 0,iQ (i:Int),iQ m.tm] h=some (.bool more,h')/\Lk w s i m w' s' more/\Whole h' S L' w' s' X/\KX X h h':=by
 cases pre with
 | pure e=>have ⟨h1,e1,x1,k1⟩:=doX_ok x.at_ hi e;have ⟨x2,k2⟩:=x.world x1 k1 (hP _ _ e);exact ⟨h1,L,_,s,_,e1,.pure e,x2,k2⟩
 | check hp=>have ⟨h1,e1,x1,k1⟩:=Nn x hi hp m.tm;exact ⟨h1,L,_,s,_,e1,.check hp,x1,k1⟩
 | deliver hp ht=>have ⟨h1,s',g,is,e1,tr,x1,k1⟩:=Hl x hi hp ht m.tm;exact ⟨h1,L,_,s',_,e1,.deliver hp tr,x1,k1⟩
 | park0 hp ht hq=>have ⟨h1,L',s',k,e1,hk,sr,x1,k1⟩:=FG x hi hp hq;rw [<- ht] at e1;exact ⟨h1,L',_,s',_,Hk x.at_ hi (.inl hp) e1,.park0 hp ht hk sr,x1,k1⟩
 | await0 hp ht hq=>
  have ⟨h1,e1,x1,k1⟩:=Dy x hi hp hq;rw [<- ht] at e1;have e2:=Hk x.at_ hi (.inr hp) e1;cases hn:jN s.p m.ar m.g with
  | true=>rw [hn] at x1 e2;exact ⟨h1,L,_,s,_,e2,.awaitNo hp ht hn,x1,k1⟩
  | false=>rw [hn] at x1 e2;exact ⟨h1,L,_,_,_,e2,.await0 hp ht hn,x1,k1⟩
 | out1 hp ht hq=>have ⟨h1,e1,x1,k1⟩:=Jg x.at_ hi hp ht hq;have ⟨x2,k2⟩:=x.world x1 k1 rfl;exact ⟨h1,L,_,s,_,Hk x.at_ hi hp e1,.out1 hp ht,x2,k2⟩
end
section
def lockedX (w:W) (i:Nat) (m:Mc) (k:Nat):Option W:=
 if m.inn=false then
  if k<=1000/\2*k<w.ws.length/\0<=wd w.ws (2*k)/\wd w.ws (2*k)<18446744073709551616 then
   some ((({(w.az i (enterM m ((2*k:Nat):Int) ((2*k+1:Nat):Int))).aL i false with ws:=w.ws.set (2*k) (inc (wd w.ws (2*k)) 1)}:W)).az i {enterM m ((2*k:Nat):Int) ((2*k+1:Nat):Int) with tk:=wd w.ws (2*k),st:=1})
  else none
 else if 0<=m.ln/\0<=m.ls/\m.ls<w.ws.length then
  if m.st=1 then (if (m.tk-wd w.ws m.ls.toNat) % 18446744073709551616=0 then some (w.az i {m with st:=2}) else some w)
  else if m.st=3 then
   if (m.tk-wd w.ws m.ls.toNat) % 18446744073709551616=0/\mC m=true then match w.flag[i]? with
    | some is=>some ((w.cR m.ls.toNat (inc m.tk 1)).az i (thenM {m with st:=4,inn:=false} is w.P))
    | none=>none
   else none
  else none
 else none
inductive IY (w:W) (s:dU) (i:Nat) (m:Mc) (k:Nat):W->dU->Prop
 | pure {w':W}:lockedX w i m k=some w'->IY w s i m k w' s
 | deed {w1:W} {s':dU} {more:Bool} {m1:Mc}:m.inn=true->m.st=2->Lk w s i m w1 s' more->w1.all[i]?=some m1->IY w s i m k (w1.az i {m1 with tm:=m1.tm+1,st:=if more=true then m1.st else 3}) s'
def aaw (w:W) (s:dU) (i:Nat) (m:Mc):Prop:=∀ w1 s1 more,Lk w s i m w1 s1 more->w1.P=w.P/\∃ m1,w1.all[i]?=some m1/\m1.st=m.st/\m1.tm=m.tm
inductive wy (w:W) (s:dU) (i:Nat) (m:Mc) (k:Nat):Prop
 | pure {w':W}:lockedX w i m k=some w'->wy w s i m k
 | deed:m.inn=true->m.st=2->0<=m.tm->m.tm<1000->sX w s i m->wy w s i m k
section
variable {w w':W} {s s':dU} {i k:Nat} {m:Mc} {more:Bool}
theorem dV {j:Nat} {m':Mc}:(w.az i m').all[j]?=if i=j/\i<w.all.length then some m' else w.all[j]?:=by
 show (w.all.set i m')[j]?=_;rw [eU];by_cases h:i=j
 . subst h;by_cases h2:i<w.all.length
   . simp [h2]
   . simp [h2]
 . simp [h]
theorem kq {l:List Int} (hi:w.all[i]?=some m):(foundW w i m l).P=w.P/\∃ m1,(foundW w i m l).all[i]?=some m1/\m1.st=m.st/\m1.tm=m.tm:=by
 cases l with
 | nil=>exact ⟨rfl,m,hi,rfl,rfl⟩
 | cons g r=>exact ⟨rfl,{m with got:=g,rest:=r},setm_at hi,rfl,rfl⟩
theorem AN {g:Int} {is:Bool} (hi:w.all[i]?=some m):(oneW w i m g is).P=w.P/\∃ m1,(oneW w i m g is).all[i]?=some m1/\m1.st=m.st/\m1.tm=m.tm:=kq hi
theorem EY (hi:w.all[i]?=some m) (h:IL w i m=some (w',more)):w'.P=w.P/\∃ m1,w'.all[i]?=some m1/\m1.st=m.st/\m1.tm=m.tm:=by
 unfold IL at h;split at h
 . split at h;case isFalse=>cases h
   split at h;case h_2=>cases h
   split at h;case isFalse=>cases h
   cases h;exact kq (w:=w.gG _ _) hi
 split at h
 . split at h;case isFalse=>cases h
   cases h;exact kq (w:={w with gl:=_}) hi
 split at h
 . split at h;case isFalse=>cases h
   split at h;case h_2=>cases h
   split at h;case isFalse=>cases h
   cases h;exact kq (w:=w.gG _ _) hi
 split at h
 . split at h;case isFalse=>cases h
   split at h;case h_2=>cases h
   split at h;case isFalse=>cases h
   cases h;exact ⟨rfl,_,setm_at hi,rfl,rfl⟩
 split at h
 . split at h;case isFalse=>cases h
   split at h;case h_2=>cases h
   split at h;case isFalse=>cases h
   cases h;exact ⟨rfl,_,setm_at hi,rfl,rfl⟩
 split at h;case isFalse=>cases h
 unfold findW at h;split at h
 . cases h;exact ⟨rfl,m,hi,rfl,rfl⟩
 split at h;case isFalse=>cases h
 split at h
 . cases h;exact ⟨rfl,m,hi,rfl,rfl⟩
 rename_i p L hp;split at h;case h_2=>cases h
 rename_i k w2 hk;split at h;case h_2=>cases h
 rename_i mk hmk;split at h;case isFalse=>cases h
 rename_i hc;cases h;have ha:=qK hk;have hP:w2.P=w.P:=by
  unfold kH at hk;split at hk
  . split at hk
    . cases hk;rfl
    . cases hk
  . split at hk
    . cases hk;rfl
    . cases hk
 refine ⟨hP,{m with tg:=(k:Int)},?_,rfl,rfl⟩;refine setm_at (w:=w2.az k {mk with nx:=(p:Int)}) (m:=m) ?_;show (w2.all.set k _)[i]?=some m;rw [aj hc.2,ha];exact hi
theorem doX_mach (hi:w.all[i]?=some m) (h:doX w i m=some (w',more)):w'.P=w.P/\∃ m1,w'.all[i]?=some m1/\m1.st=m.st/\m1.tm=m.tm:=by
 unfold doX at h;by_cases hp:m.pl=2
 . rw [if_pos hp] at h;split at h;case isFalse=>cases h
   cases h;exact AN (w:={w with gl:=_}) hi
 rw [if_neg hp] at h;clear hp;by_cases hp:m.pl=7
 . rw [if_pos hp] at h;split at h
   . split at h;case isFalse=>cases h
     cases h;exact kq (w:={w with gl:=_}) hi
   . split at h;case isFalse=>cases h
     cases h;exact ⟨rfl,_,setm_at (w:={w.aL i false with ip:=_}) (m:=m) hi,rfl,rfl⟩
 rw [if_neg hp] at h;clear hp;by_cases hp:m.pl=9
 . rw [if_pos hp] at h;split at h;case isFalse=>cases h
   split at h;case h_2=>cases h
   cases h;exact ⟨rfl,m,hi,rfl,rfl⟩
 rw [if_neg hp] at h;clear hp;by_cases hp:m.pl=10
 . rw [if_pos hp] at h;cases h;exact ⟨rfl,m,hi,rfl,rfl⟩
 rw [if_neg hp] at h;clear hp;by_cases hp:m.pl=11
 . rw [if_pos hp] at h;split at h
   . cases h;exact ⟨rfl,m,hi,rfl,rfl⟩
   . cases h;exact ⟨rfl,_,setm_at (w:=W.aL {w with ip:=_} i true) (m:=m) hi,rfl,rfl⟩
 rw [if_neg hp] at h;clear hp;by_cases hp:m.pl=13
 . rw [if_pos hp] at h;split at h
   . split at h;case isFalse=>cases h
     cases h;exact ⟨rfl,_,setm_at (w:=W.aL {w with pend:=_} i true) (m:=m) hi,rfl,rfl⟩
   . split at h;case isFalse=>cases h
     cases h;split
     . exact ⟨rfl,{m with sp:=false},setm_at (w:=w.aL i true) (m:=m) hi,rfl,rfl⟩
     . exact ⟨rfl,{m with sp:=false},setm_at (w:=w.aL i false) (m:=m) hi,rfl,rfl⟩
 rw [if_neg hp] at h;clear hp;by_cases hp:m.pl=15
 . rw [if_pos hp] at h;cases h;split
   . exact ⟨rfl,m,hi,rfl,rfl⟩
   . exact ⟨rfl,m,hi,rfl,rfl⟩
 rw [if_neg hp] at h;clear hp;by_cases hp:m.pl=27
 . rw [if_pos hp] at h;split at h;case isFalse=>cases h
   cases h;exact ⟨rfl,_,setm_at (w:={w with gl:=_}) (m:=m) hi,rfl,rfl⟩
 rw [if_neg hp] at h;clear hp;by_cases hp:m.pl=23
 . rw [if_pos hp] at h;unfold findX at h;split at h
   . split at h
     . cases h;exact ⟨rfl,m,hi,rfl,rfl⟩
     . split at h;case isFalse=>cases h
       cases h;exact ⟨rfl,m,hi,rfl,rfl⟩
   . have:IL w i m=some (w',more):=by unfold IL;rw [nQ,nQ,nQ,nQ,nQ,if_pos hp];exact h
     exact EY hi this
 rw [if_neg hp] at h;exact EY hi h
theorem held (hi:w.all[i]?=some m):aaw w s i m:=by
 intro w1 s1 more d;cases d with
 | pure e=>exact doX_mach hi e
 | check=>exact ⟨rfl,m,hi,rfl,rfl⟩
 | deliver=>exact AN hi
 | park0=>exact ⟨rfl,_,setm_at (w:=w.aL i _) (m:=m) hi,rfl,rfl⟩
 | await0=>exact ⟨rfl,m,hi,rfl,rfl⟩
 | awaitNo=>exact ⟨rfl,m,hi,rfl,rfl⟩
 | out1=>exact ⟨rfl,_,setm_at (w:=W.cd {w with ws:=_}) (m:=m) hi,rfl,rfl⟩
end
section
variable {h h' h'':AHeap} {S:jb} {L L':fZ} {w w':W} {s s':dU} {X Y F G:List Nat} {own:Nat->Nat} {i k si:Nat} {m:Mc} {r:Rg} {full more:Bool}
theorem OX {L1:fZ} {w1:W} {s1:dU} {m1:Mc} {g:Nat} {cap:List AV} {h1:AHeap} (x:WorldAt h S w X) (hi:w.all[i]?=some m) (hst:m.st=2) (e:run T g (iQ m.tm::cap) h=some (.bool more,h1)) (x1:Whole h1 S L1 w1 s1 Y) (k1:KX Y h h1) (hi1:w1.all[i]?=some m1) (h4:m1.st≠4) (ht:0<=m1.tm/\m1.tm<1000) :
 ∃ h',run T 111 [.ptr S.ao (S.ab+i*18+13),.ptr S.mi 0,.func g [] cap] h=some (.bool false,h')/\Whole h' S L1 (w1.az i {m1 with tm:=m1.tm+1,st:=if more=true then m1.st else 3}) s1 Y/\KX Y h h':=by
 have ⟨own,x⟩:=x
 have ⟨b,cs,room,rv,F,hb,hc,hx,up,v,hF⟩:=x.fA hi
 have ⟨l0,ll⟩:=up.foc.lt
 have ⟨g0,g1,g2,g3,g4⟩:=up.foc.sec
 have ⟨own1,y1⟩:=id x1.at_
 have ⟨b1,cs1,room1,rv1,F1,hb1,hc1,hx1,up1,v1,hF1⟩:=y1.fA hi1
 have ⟨l01,ll1⟩:=up1.foc.lt
 have ⟨g01,g11,g21,g31,g41⟩:=up1.foc.sec
 rw [<- hb]
 have hbb:b1=b:=by rw [hb,hb1]
 subst hbb
 rw [hst] at g2
 have ew:wQ (m1.tm+1)=m1.tm+1:=rQ
 refine run_val T_111 ?_
 cases more with
 | true=>have ⟨y,ky⟩:=y1.bY (m':={m1 with tm:=m1.tm+1}) hi1 hc1 hb1 (up1.int 17 (m1.tm+1)) v1 hF1;have ⟨y,ky⟩:=x1.world y ky rfl;simp [-writeOf_some,-getElem?_pos,F111,hc,g2,wrI,ll1,fI,g4,e,hc1,g41,g21,ew,h4];exact ⟨y,k1.trans ky⟩
 | false=>have ⟨y,ky⟩:=y1.bY (m':={m1 with tm:=m1.tm+1,st:=3}) hi1 hc1 hb1 ((up1.int 17 (m1.tm+1)).int 15 3) v1 hF1;have ⟨y,ky⟩:=x1.world y ky rfl;simp [-writeOf_some,-getElem?_pos,F111,hc,g2,wrI,ll1,fI,g4,e,hc1,g41,ew];exact ⟨y,k1.trans ky⟩
theorem Cn (x:WorldAt h S w X) (hi:w.all[i]?=some m) (hin:m.inn=true) {N Z:Nat} (hst:m.st=3) (hN:m.ln=N) (hZ:m.ls=Z) (hZl:Z<w.ws.length) (ht:(m.tk-wd w.ws Z) % 18446744073709551616=0) (ho:mC m=true) {is:Bool} (hf:w.flag[i]?=some is) (z:AV):∃ h',run T 73 [.ptr S.a 0,iQ (i:Int),z] h=some (.tuple [],h')/\WorldAt h' S ((w.cR Z (inc m.tk 1)).az i (thenM {m with st:=4,inn:=false} is w.P)) X/\KX X h h':=by
 have ⟨h2,e2,x2,k2,q1,q2⟩:=x.two (i:=i);have ⟨h3,e3,x3,k3⟩:=Ax x2 hi hst hN hZ hZl ht (.func 112 [] [.ptr h.size 0,.ptr (h.size+1) 0]);have ⟨own,x2⟩:=x2;have ⟨b,cs,room,rv,Fr,u,room0,hb,hc,hx,up,v,hF,hd,⟨f0,f1,f2,f3,f4,f5,f6,f7,f8,f9,f10,f11⟩,_⟩:=x2.mz hi;rw [hin] at f8;rw [<- hb] at e3;have ⟨own3,x3⟩:=x3;have hi3:(({w with ws:=w.ws.set Z ((m.tk+1) % 18446744073709551616)}:W).az i {m with st:=4}).all[i]?=some {m with st:=4}:=setm_at hi;have ⟨b3,c3,r3,v3,F3,hb3,hc3,hx3,up3,vv3,hF3⟩:=x3.fA hi3;have hbb:b3=b:=by rw [hb,hb3]
 subst hbb;have ⟨l30,ll3⟩:=up3.foc.lt;have ⟨x4,k4⟩:=x3.bY (m':={m with st:=4,inn:=false}) hi3 hc3 hb3 (up3.inn false) vv3 hF3;rw [setm_twice] at x4;have s1:=k4.obj (k3.obj q1 (by simp)) (by simp);have s2:=k4.obj (k3.obj q2 (by simp)) (by simp);have ⟨h5,e5,x5,k5⟩:=thenX_ok x4 (setm_at hi) (is:=is) hf ho;rw [setm_twice] at x5;refine run_val T_73 ?_;simp [-writeOf_some,F73,<- e2,q1,q2,hd,hx,hc,f8,e3,ad,hc3,wrB,ll3,s1,s2,e5];exact ⟨x5.sub (by simp;intro t ht;simp [ht]),k2.trans (((k3.trans k4).trans k5).sub (by simp;intro t ht;simp [ht]))⟩
theorem lockedX_ok (x:WorldAt h S w X) (hi:w.all[i]?=some m) (hw:lockedX w i m k=some w'):(∃ h',run T 73 [.ptr S.a 0,iQ (i:Int),iQ (k:Int)] h=some (.tuple [],h')/\WorldAt h' S w' X/\KX X h h')/\w'.P=w.P:=by
 unfold lockedX at hw;split at hw
 . rename_i hin;split at hw;case isFalse=>cases hw
   rename_i hc;cases hw;exact ⟨sa rfl rfl x hi hin hc.1 hc.2.1 hc.2.2,rfl⟩
 rename_i hin;have hin:m.inn=true:=by simpa using hin
 split at hw;case isFalse=>cases hw
 rename_i hl;have hN:m.ln=(m.ln.toNat:Int):=(aH hl.1).symm;have hZ:m.ls=(m.ls.toNat:Int):=(aH hl.2.1).symm;have hZl:m.ls.toNat<w.ws.length:=by omega
 split at hw
 . rename_i hst;split at hw
   . rename_i ht;cases hw;exact ⟨nu x hi hin _ fun h2 x2 _ _=>Aw x2 hi hst hN hZ hZl ht _,rfl⟩
   . rename_i ht;cases hw;exact ⟨nu x hi hin _ fun h2 x2 _ _=>xe x2 hi hst hN hZ hZl ht _,rfl⟩
 split at hw;case isFalse=>cases hw
 rename_i hst;split at hw;case isFalse=>cases hw
 rename_i ht;split at hw;case h_2=>cases hw
 rename_i is hf;cases hw;exact ⟨Cn x hi hin hst hN hZ hZl ht.1 ht.2 hf _,rfl⟩
theorem GG (x:Whole h S L w s X) (hi:w.all[i]?=some m) (pre:wy w s i m k):∃ (h':AHeap) (L':fZ) (w':W) (s':dU),run T 73 [.ptr S.a 0,iQ (i:Int),iQ (k:Int)] h=some (.tuple [],h')/\IY w s i m k w' s'/\Whole h' S L' w' s' X/\KX X h h':=by
 cases pre with
 | pure e=>have ⟨⟨h1,e1,x1,k1⟩,hP⟩:=lockedX_ok x.at_ hi e;have ⟨x2,k2⟩:=x.world x1 k1 hP;exact ⟨h1,L,_,s,e1,.pure e,x2,k2⟩
 | deed hin hst t0 t1 hd=>
  have ⟨h2,e2,x2,k2,q1,q2⟩:=x.at_.two (i:=i);have xs:Whole h2 S L w s ((h.size+1)::h.size::X):=
   ⟨x2.sub fun t ht=>by simp at ht ⊢;rcases ht with h | h | h | h;exact .inr (.inr (.inl h));exact .inl h;exact .inr (.inl h);exact .inr (.inr (.inr h)),x.src.keep k2.keep (KX.th fun t ht=>bp _ ht),x.lo,fun t ht hm=>by
    have h1:=x.at_.Li t (bp _ ht);simp at hm;rcases hm with h | h | h
    . omega
    . omega
    . exact x.nX t ht h,x.hl⟩
  have ⟨h3,L',w1,s1,more,e3,dr,x3,k3⟩:=Sm xs hi hd fun w' more e=>(doX_mach hi e).1
  have ⟨hP,m1,hi1,hs1,ht1⟩:=held hi _ _ _ dr;have ⟨h4,e4,x4,k4⟩:=OX (Y:=(h.size+1)::h.size::X) x2 hi hst (yw q1 q2 e3) x3 k3 hi1 (by omega) (by omega);have ⟨own,xx⟩:=x2;have ⟨b,cs,room,rv,Fr,hb,hc,hx,up,v,hF⟩:=xx.fA hi;have ⟨u,room0,hdd⟩:=xx.hd;have ⟨f0,f1,f2,f3,f4,f5,f6,f7,f8,f9,f10,f11⟩:=up.foc.facts;rw [hin] at f8;rw [<- hb] at e4;have key:∃ h',run T 73 [.ptr S.a 0,iQ (i:Int),iQ (k:Int)] h=some (.tuple [],h')/\Whole h' S L' (w1.az i {m1 with tm:=m1.tm+1,st:=if more=true then m1.st else 3}) s1 X/\KX X h h':=by refine run_val T_73 ?_;simp [F73,<- e2,q1,q2,hdd,hx,hc,f8,e4,ad];exact ⟨x4.sub (by simp;intro t ht;simp [ht]),(k2.sub (by simp;intro t ht;simp [ht])).trans (k4.sub (by simp;intro t ht;simp [ht]))⟩
  have ⟨h',e,a,c⟩:=key;exact ⟨h',L',_,s1,e,.deed hin hst dr hi1,a,c⟩
end
end
section
inductive nN (w:W) (s:dU) (i:Nat) (act g d:Int):W->dU->Bool->Prop
 | exec {m:Mc} {w':W} {b:Bool}:w.all[i]?=some m->m.pl=0->execX w i m act g d=some (w',b)->nN w s i act g d w' s b
 | sleep {m:Mc}:w.all[i]?=some m->m.pl=16->nN w s i act g d (lI w i m).1 s (lI w i m).2
 | lock {m:Mc} {w':W} {s':dU}:w.all[i]?=some m->m.pl≠0->m.pl≠16->0<=lockOf m w.P->IY w s i m (lockOf m w.P).toNat w' s'->nN w s i act g d w' s' true
 | bare {m:Mc} {w':W}:w.all[i]?=some m->m.pl≠0->m.pl≠16->¬ 0<=lockOf m w.P->uP w i m=some w'->nN w s i act g d w' s true
inductive lf (w:W) (s:dU) (i:Nat) (act g d:Int):Prop
 | exec {m:Mc} {r:W×Bool}:w.all[i]?=some m->m.pl=0->execX w i m act g d=some r->lf w s i act g d
 | sleep {m:Mc}:w.all[i]?=some m->m.pl=16->lf w s i act g d
 | lock {m:Mc}:w.all[i]?=some m->m.pl≠0->m.pl≠16->(0<=m.pl/\m.pl<31/\m.ii<=1000)->0<=lockOf m w.P->wy w s i m (lockOf m w.P).toNat->lf w s i act g d
 | bare {m:Mc} {w':W}:w.all[i]?=some m->m.pl≠0->m.pl≠16->(0<=m.pl/\m.pl<31/\m.ii<=1000)->¬ 0<=lockOf m w.P->uP w i m=some w'->lf w s i act g d
def tellW (w:W) (due:Bool):W:=if due=true/\w.q≠-1 then {w with q:=-1,ws:=if wd w.ws (w.nt+w.q.toNat)=0 then w.ws.set (w.nt+w.q.toNat) 1 else w.ws} else w
inductive uR (w:W) (s:dU) (kd act a g d:Int):W->dU->Bool->Prop
 | pick {i:Nat} {w':W} {s':dU} {b:Bool}:kd=0->a=i->i<w.M->nN w s i act g d w' s' b->uR w s kd act a g d w' s' b
 | none:(kd=0/\¬ (0<=a/\a<w.M))\/(kd=2/\¬ (0<=a/\a<65536))\/(kd≠0/\kd≠1/\kd≠2)->uR w s kd act a g d w s false
 | tick:kd=1->uR w s kd act a g d (tellW w (dueS (gd s d))) (gd s d) true
 | full:kd=2->0<=a/\a<65536->nC s.p.fds a=true->uR w s kd act a g d w s false
 | ready:kd=2->0<=a/\a<65536->nC s.p.fds a=false->uR w s kd act a g d (tellW w (dueS (kI s a))) (kI s a) true
section
variable {h h' h'':AHeap} {S:jb} {L L':fZ} {w w':W} {s s':dU} {X Y F G:List Nat} {own:Nat->Nat} {i k si:Nat} {m:Mc} {r:Rg} {full more:Bool} {kd act a g d:Int}
theorem PA (h:execX w i m act g d=some (w',more)):w'.P=w.P:=by
 have hl:∀ {to e:Int} {w':W},leaveX w i m to e=some w'->w'.P=w.P:=fun h=>by
  unfold leaveX at h;split at h
  . cases h;rfl
  . cases h
 have hr:∀ {fr e:Int} {w':W} {b:Bool},pe w i m g fr e=some (w',b)->w'.P=w.P:=fun h=>by
  unfold pe at h;split at h
  . split at h
    . cases h;rfl
    . cases h
  . cases h;rfl
 unfold execX at h;split at h
 . cases h;rfl
 split at h
 . have ⟨w1,h1,e⟩:=ae.1 h;cases e;exact (hl h1:w1.P=w.P)
 split at h
 . have ⟨w1,h1,e⟩:=ae.1 h;cases e;exact hl h1
 split at h
 . have ⟨w1,h1,e⟩:=ae.1 h;cases e;exact hl h1
 split at h
 . exact hr h
 split at h
 . exact hr h
 split at h
 . cases h;rfl
 split at h
 . split at h
   . cases h;rfl
   . cases h;rfl
 . cases h;rfl
theorem PZ (h:uP w i m=some w'):w'.P=w.P:=by
 unfold uP at h;split at h
 . cases h;rfl
 split at h
 . cases h;rfl
 split at h
 . split at h
   . cases h;rfl
   . cases h
 unfold Bm at h;split at h
 . split at h
   . split at h
     . split at h
       . cases h;rfl
       . cases h
     . cases h
   . cases h
 split at h
 . cases h;rfl
 split at h
 . cases h;rfl
 split at h
 . split at h
   . cases h;rfl
   . cases h
 split at h
 . cases h;rfl
 split at h
 . cases h;rfl
 split at h
 . split at h
   . cases h;rfl
   . cases h
 . cases h
theorem Lq:(lI w i m).1.P=w.P:=by unfold lI;split<;>rfl
theorem BD {due:Bool}:(tellW w due).P=w.P:=by unfold tellW;split<;>rfl
theorem Mt (x:Whole h S L w s X) (pre:lf w s i act g d):∃ (h':AHeap) (L':fZ) (w':W) (s':dU) (b:Bool),run T 31 [.ptr S.a 0,lJ kd act (i:Int) g d] h=some (.bool b,h')/\nN w s i act g d w' s' b/\Whole h' S L' w' s' X/\KX X h h':=by
 obtain ⟨h0,hh0⟩:∃ h0,h0=h.push (Qc [.int .u8 kd,.int .u8 act,iQ (i:Int),iQ g,iQ d] none):=⟨_,rfl⟩
 have k0:Keep [] h h0:=by rw [hh0];exact Keep.push
 have ⟨x0,kx0⟩:=x.still k0;have hbx:h0.get h.size=some (Qc [.int .u8 kd,.int .u8 act,iQ (i:Int),iQ g,iQ d] none):=by rw [hh0];exact ak
 have main:∀ (m:Mc),w.all[i]?=some m->∃ (b:Nat) (cs:List AV) (room:Option (Nat×Nat)) (rv u:AV) (room0:Option (Nat×Nat)),i<w.M/\h0.get S.ao=some (Qc cs room)/\idxAddrV 18 none (.slice S.ao S.ab w.M S.ac) (iQ (i:Int))=some (.ptr S.ao b)/\cs[b]?=some (iQ m.pl)/\(cs.drop b).take 18=gD m rv/\b+18<=cs.length/\h0.get S.a=some (Qc (headA S w u) room0)/\nM h0/\Sz w:=fun m hi=>by
  have ⟨own,xx⟩:=x0.at_;have ⟨b,cs,room,rv,Fr,hb,hc,hx,up,v,hF⟩:=xx.fA hi;have ⟨u,room0,hd⟩:=xx.hd;have hiM:i<w.M:=by have:=(aa.1 hi).1;have:=xx.lens;omega
  exact ⟨b,cs,room,rv,u,room0,hiM,hc,hx,up.foc.facts.1,up.foc.row,up.foc.l,hd,xx.pl,xx.sz⟩
 have i0:¬ ((i:Int)<0):=by omega
 cases pre with
 | exec hi hp he=>
  rename_i m r;have ⟨b,cs,room,rv,u,room0,hiM,hc,hx,f0,hrow,hb18,hd,hpl,sz⟩:=main m hi;have i1:¬ (w.M:Int)<=(i:Int):=by omega
  have i2:¬ w.M<=i:=by omega
  have ⟨w',bb⟩:=r;have ⟨h1,e1,x1,k1⟩:=Nc (kd:=kd) x0.at_ hi (i:Int) he;have ⟨x2,k2⟩:=x0.world x1 k1 (PA he);rw [hp] at f0;have key:∃ h',run T 31 [.ptr S.a 0,lJ kd act (i:Int) g d] h=some (.bool bb,h')/\Whole h' S L w' s X/\KX X h h':=by refine run_val Ld ?_;simp [Lj,<- hh0,hd,hx,hc,hbx,i0,i1,f0,e1,ad,av];exact ⟨x2,kx0.trans k2⟩
  have ⟨h',e,a,c⟩:=key;exact ⟨h',L,w',s,bb,e,.exec hi hp he,a,c⟩
 | sleep hi hp=>
  rename_i m;have ⟨b,cs,room,rv,u,room0,hiM,hc,hx,f0,hrow,hb18,hd,hpl,sz⟩:=main m hi;have i1:¬ (w.M:Int)<=(i:Int):=by omega
  have i2:¬ w.M<=i:=by omega
  have ⟨h1,e1,x1,k1⟩:=Jh x0.at_ hi;have ⟨x2,k2⟩:=x0.world x1 k1 Lq;rw [hp] at f0;have key:∃ h',run T 31 [.ptr S.a 0,lJ kd act (i:Int) g d] h=some (.bool (lI w i m).2,h')/\Whole h' S L (lI w i m).1 s X/\KX X h h':=by refine run_val Ld ?_;simp [Lj,<- hh0,hd,hx,hc,hbx,i0,i1,f0,e1,ad,av];exact ⟨x2,kx0.trans k2⟩
  have ⟨h',e,a,c⟩:=key;exact ⟨h',L,_,s,_,e,.sleep hi hp,a,c⟩
 | lock hi hn0 hn16 hpr hk hlp=>
  rename_i m;have ⟨b,cs,room,rv,u,room0,hiM,hc,hx,f0,hrow,hb18,hd,hpl,sz⟩:=main m hi;have i1:¬ (w.M:Int)<=(i:Int):=by omega
  have i2:¬ w.M<=i:=by omega
  have hm:m.pl=(m.pl.toNat:Int):=(aH hpr.1).symm;have ⟨h1,e1,k1⟩:=xv hpl m rv (n:=m.pl.toNat) (P:=w.P) (by omega) hm ⟨sz.P.1,by have:=sz.P.2;omega⟩ hpr.2.2;have ⟨x1,kx1⟩:=x0.still k1;have hbx1:=k1.obj hbx (by simp);have ⟨h2,L',w',s',e2,lr,x2,k2⟩:=GG x1 hi hlp;rw [aH hk] at e2;have key:∃ h',run T 31 [.ptr S.a 0,lJ kd act (i:Int) g d] h=some (.bool true,h')/\Whole h' S L' w' s' X/\KX X h h':=by refine run_val Ld ?_;simp [Lj,<- hh0,hd,hx,hc,hbx,hbx1,i0,i1,f0,hn0,hn16,hrow,hb18,e1,hk,e2,ad,av];exact ⟨x2,(kx0.trans kx1).trans k2⟩
  have ⟨h',e,a,c⟩:=key;exact ⟨h',L',w',s',true,e,.lock hi hn0 hn16 hk lr,a,c⟩
 | bare hi hn0 hn16 hpr hk hb=>
  rename_i m w';have ⟨b,cs,room,rv,u,room0,hiM,hc,hx,f0,hrow,hb18,hd,hpl,sz⟩:=main m hi;have i1:¬ (w.M:Int)<=(i:Int):=by omega
  have i2:¬ w.M<=i:=by omega
  have hm:m.pl=(m.pl.toNat:Int):=(aH hpr.1).symm;have ⟨h1,e1,k1⟩:=xv hpl m rv (n:=m.pl.toNat) (P:=w.P) (by omega) hm ⟨sz.P.1,by have:=sz.P.2;omega⟩ hpr.2.2;have ⟨x1,kx1⟩:=x0.still k1;have hbx1:=k1.obj hbx (by simp);have ⟨h2,e2,y2,ky2⟩:=NP x1.at_ hi hb;have ⟨x2,k2⟩:=x1.world y2 ky2 (PZ hb);have key:∃ h',run T 31 [.ptr S.a 0,lJ kd act (i:Int) g d] h=some (.bool true,h')/\Whole h' S L w' s X/\KX X h h':=by refine run_val Ld ?_;simp [Lj,<- hh0,hd,hx,hc,hbx,hbx1,i0,i1,f0,hn0,hn16,hrow,hb18,e1,hk,e2,ad,av];exact ⟨x2,(kx0.trans kx1).trans k2⟩
  have ⟨h',e,a,c⟩:=key;exact ⟨h',L,w',s,true,e,.bare hi hn0 hn16 hk hb,a,c⟩
theorem wL (x:WorldAt h S w X) (due:Bool) (hq:-1<=w.q/\w.q<w.M):∃ h',run T 32 [.ptr S.a 0,.bool due] h=some (.tuple [],h')/\WorldAt h' S (tellW w due) X/\KX X h h':=by
 have lv:=fun k=>Ix (k:=k) x;have ⟨own,x⟩:=x;have ⟨FT,wz,b,hm,c⟩:=x.idle;have e0:=tJ b;have ⟨u,room0,hd⟩:=x.hd;by_cases hq1:w.q=-1
 . rw [show tellW w due=w by unfold tellW;rw [if_neg (by simp [hq1])]];refine run_val T_32 ?_;simp [F32,hd,e0,hq1,ad,av];exact ⟨⟨own,x⟩,KX.refl⟩
 cases due with
 | false=>refine run_val T_32 ?_;simp [F32,hd,e0,hq1,ad,av];rw [show tellW w false=w by unfold tellW;rw [if_neg (by simp)]];exact ⟨⟨own,x⟩,KX.refl⟩
 | true=>
  obtain ⟨k,hk⟩:∃ k:Nat,w.q=(k:Int):=⟨w.q.toNat,by omega⟩
  have ⟨h1,e1,x1,k1,g1⟩:=(lv k).2 hk;have hd1:=g1.obj hd (fun own y=>y.HP.1);have ⟨o1,y1⟩:=x1;have ⟨cnt,mm,n1,n2,n3,n4⟩:=y1.gC;have sz:=x.sz;have s4:=sz.ws;have hkM:k<w.M:=by omega
  have ew:IntKind.wrap .i64 ((w.nt:Int)+(k:Int))=((w.nt+k:Nat):Int):=by rw [iq (by omega) (by have:=oK sz hkM;have:=(iu sz).2;omega)];omega
  have ⟨h2,e2,m2,k2⟩:=AO (k:=((w.nt+k:Nat):Int)) mm (by omega) (by have:=oK sz hkM;show ((w.nt+k:Nat):Int)<(w.ws.length:Nat);omega);rw [aC] at m2 e2;have x2:=y1.j7 0 m2 (by split<;>simp) k2;have e0':run T 65 [.ptr S.ii 0] h=some (.tuple [iQ (k:Int),.bool true],h):=by rw [e0,hk];simp
  generalize hnk:((w.nt+k:Nat):Int)=nk at ew e2;refine run_val T_32 ?_;simp [F32,hd,e0',hd1,e1,ew,e2,ad,av];rw [show tellW w true={({w with q:=-1}:W) with ws:=if wd w.ws (w.nt+k)=0 then w.ws.set (w.nt+k) 1 else w.ws} by unfold tellW;rw [if_pos ⟨rfl,hq1⟩,hk];rfl];exact ⟨⟨_,x2⟩,k1.trans (y1.Ja k2)⟩
theorem DL (x:Whole h S L w s X) (hd:isI64 d) (hq:-1<=w.q/\w.q<w.M) (pre:∀ i:Nat,kd=0->a=i->i<w.M->lf w s i act g d):∃ (h':AHeap) (L':fZ) (w':W) (s':dU) (b:Bool),run T 10 [.ptr S.a 0,lJ kd act a g d] h=some (.bool b,h')/\uR w s kd act a g d w' s' b/\Whole h' S L' w' s' X/\KX X h h':=by
 obtain ⟨h0,hh0⟩:∃ h0,h0=h.push (Qc [.int .u8 kd,.int .u8 act,iQ a,iQ g,iQ d] none):=⟨_,rfl⟩
 have k0:Keep [] h h0:=by rw [hh0];exact Keep.push
 have ⟨x0,kx0⟩:=x.still k0;have hbx:h0.get h.size=some (Qc [.int .u8 kd,.int .u8 act,iQ a,iQ g,iQ d] none):=by rw [hh0];exact ak
 have hbl:([.int .u8 kd,.int .u8 act,iQ a,iQ g,iQ d]:List AV).length=5:=rfl;have ⟨u,room0,hdd⟩:=(by have ⟨o,y⟩:=x0.at_;exact y.hd:∃ u room,h0.get S.a=some (Qc (headA S w u) room))
 by_cases hk0:kd=0
 . subst hk0;by_cases ha:0<=a/\a<w.M
   . obtain ⟨i,rfl⟩:∃ i:Nat,a=i:=⟨a.toNat,by omega⟩
     have hiM:i<w.M:=by omega
     have ⟨h1,L',w',s',b,e1,pr,x1,k1⟩:=Mt (kd:=0) x0 (pre i rfl rfl hiM);refine (?_:∃ h',run T 10 [.ptr S.a 0,lJ 0 act (i:Int) g d] h=some (.bool b,h')/\Whole h' S L' w' s' X/\KX X h h').elim fun h' hh=>⟨h',L',w',s',b,hh.1,.pick rfl rfl hiM pr,hh.2.1,hh.2.2⟩
     refine run_val Fu ?_;simp [Ob,<- hh0,hbx,e1];exact ⟨x1,kx0.trans k1⟩
   . have e1:∃ h1,run T 31 [.ptr S.a 0,lJ 0 act a g d] h0=some (.bool false,h1)/\Whole h1 S L w s X/\KX X h0 h1:=by
      have k2:Keep [] h0 (h0.push (Qc [.int .u8 0,.int .u8 act,iQ a,iQ g,iQ d] none)):=Keep.push;have ⟨x2,kx2⟩:=x0.still k2;have hbx2:(h0.push (Qc [.int .u8 0,.int .u8 act,iQ a,iQ g,iQ d] none)).get h0.size=some (Qc [.int .u8 0,.int .u8 act,iQ a,iQ g,iQ d] none):=ak;have hd2:=k2.obj hdd (by simp);refine run_val Ld ?_;by_cases a0:a<0
      . simp [Lj,hbx2,a0,ad,av];exact ⟨x2,kx2⟩
      . have a1:(w.M:Int)<=a:=by omega
        simp [Lj,hd2,hbx2,a0,a1,ad,av];exact ⟨x2,kx2⟩
     have ⟨h1,e1,x1,k1⟩:=e1;refine (?_:∃ h',run T 10 [.ptr S.a 0,lJ 0 act a g d] h=some (.bool false,h')/\Whole h' S L w s X/\KX X h h').elim fun h' hh=>⟨h',L,w,s,false,hh.1,.none (.inl ⟨rfl,ha⟩),hh.2.1,hh.2.2⟩
     refine run_val Fu ?_;simp [Ob,<- hh0,hbx,e1]
     exact ⟨x1,kx0.trans k1⟩
 by_cases hk1:kd=1
 . subst hk1;have ⟨h1,e1,y1,k1⟩:=LN x0.src hd;have ⟨x1,kx1⟩:=x0.source k1 (fun t ht=>by rw [iS];simp at ht;simp [ht]) y1 (fun t ht=>.inl ht) rfl;have ⟨h2,e2,y2,k2⟩:=wL x1.at_ (dueS (gd s d)) hq;have ⟨x2,kx2⟩:=x1.world y2 k2 BD
   refine (?_:∃ h',run T 10 [.ptr S.a 0,lJ 1 act a g d] h=some (.bool true,h')/\Whole h' S L (tellW w (dueS (gd s d))) (gd s d) X/\KX X h h').elim fun h' hh=>⟨h',L,_,_,true,hh.1,.tick rfl,hh.2.1,hh.2.2⟩
   refine run_val Fu ?_;simp [Ob,<- hh0,hbx,hdd,e1,e2];exact ⟨x2,(kx0.trans kx1).trans kx2⟩
 by_cases hk2:kd=2
 . subst hk2;by_cases ha:0<=a/\a<65536
   . have a0:¬ a<0:=by omega
     have a1:¬ 65536<=a:=by omega
     have ew:IntKind.wrap .u16 a=a:=by simp [IntKind.wrap,IntKind.signed,IntKind.bits];omega
     cases hf:nC s.p.fds a with
     | true=>
      have ⟨h1,e1,k1⟩:=Ju x0.src hf;have ⟨x1,kx1⟩:=x0.still k1;have ⟨h2,e2,y2,k2⟩:=wL x1.at_ false hq;have ⟨x2,kx2⟩:=x1.world y2 k2 BD;have et:tellW w false=w:=by unfold tellW;rw [if_neg (by simp)]
      rw [et] at x2
      refine (?_:∃ h',run T 10 [.ptr S.a 0,lJ 2 act a g d] h=some (.bool false,h')/\Whole h' S L w s X/\KX X h h').elim fun h' hh=>⟨h',L,_,_,false,hh.1,.full rfl ha hf,hh.2.1,hh.2.2⟩
      refine run_val Fu ?_;simp [Ob,<- hh0,hbx,hdd,a0,a1,ew,e1,e2];exact ⟨x2,(kx0.trans kx1).trans kx2⟩
     | false=>
      have ⟨h1,e1,y1,k1⟩:=FY x0.src hf;have ⟨x1,kx1⟩:=x0.source k1 (fun t ht=>by rw [iS];simp at ht;simp [ht]) y1 (fun t ht=>.inl ht) rfl;have ⟨h2,e2,y2,k2⟩:=wL x1.at_ (dueS (kI s a)) hq;have ⟨x2,kx2⟩:=x1.world y2 k2 BD
      refine (?_:∃ h',run T 10 [.ptr S.a 0,lJ 2 act a g d] h=some (.bool true,h')/\Whole h' S L (tellW w (dueS (kI s a))) (kI s a) X/\KX X h h').elim fun h' hh=>⟨h',L,_,_,true,hh.1,.ready rfl ha hf,hh.2.1,hh.2.2⟩
      refine run_val Fu ?_;simp [Ob,<- hh0,hbx,hdd,a0,a1,ew,e1,e2];exact ⟨x2,(kx0.trans kx1).trans kx2⟩
   . refine ⟨h0,L,w,s,false,run_eq Fu ?_,.none (.inr (.inl ⟨rfl,ha⟩)),x0,kx0⟩;by_cases a0:a<0
     . simp [Ob,<- hh0,hbx,a0]
     . have a1:65536<=a:=by omega
       simp [Ob,<- hh0,hbx,a0,a1]
 . refine ⟨h0,L,w,s,false,run_eq Fu ?_,.none (.inr (.inr ⟨hk0,hk1,hk2⟩)),x0,kx0⟩;simp [Ob,<- hh0,hbx,hk0,hk1,hk2]
end
end
section
set_option maxHeartbeats 2000000
section
variable {h h0 g:AHeap} {own0 own:Nat->Nat} {b:Bl} {P M G:Nat}
theorem dP.lt {si:Nat} {L:fZ} {s:dU} {full:Bool} (x:dP h si L s full) (hl:0<s.t.hs.length):∀ t∈L.objs si s.t.hs.length,t<h.size:=by
 obtain ⟨⟨room,a⟩,⟨⟨r1,t1⟩,hp,has,dj,ni,sz,hlt⟩,⟨⟨r2,p1⟩,⟨b1,c1,e1,q1⟩,⟨b2,c2,e2,q2⟩,_⟩,_⟩:=x;intro t ht;rw [iS] at ht;rcases ht with rfl | rfl | rfl | rfl | rfl | rfl | rfl | ⟨k,hk,hF⟩
 . exact get_lt a
 . exact get_lt t1
 . cases hn:s.t.hs with
   | nil=>rw [hn] at hl;simp at hl
   | cons l r=>have ⟨⟨u,room,cs,e,_⟩,_⟩:=hp 0 l (by rw [hn];rfl);exact get_lt e
 . exact hlt
 . exact get_lt p1
 . exact get_lt e1
 . exact get_lt e2
 . have ⟨⟨u,room,cs,e,_,v⟩,_⟩:=hp k _ (ah hk);exact v.lt t hF
theorem Ch {X:List Nat} (gl:dL h) (hX:∀ t∈X,t<h.size) (hP:1<=P/\P<=64) (hM:P<=M/\M<=128) (hG:1<=G/\G<=4096):∃ v h',run T 20 [E2 P M G] h=some (v,h')/\(∃ (S:jb) (L:fZ),v=.tuple [.ptr S.a 0,iQ 0]/\Whole h' S L (kL P M G) (fB P) X)/\Keep [] h h':=by
 obtain ⟨hB,eB⟩:∃ hB,hB=(h.push (Qc [iQ (P:Int),iQ (M:Int),iQ (G:Int)] none)).push (Qc [iQ (P:Int),iQ (M:Int),iQ (G:Int)] none):=⟨_,rfl⟩
 have bA:(h.push (Qc [iQ (P:Int),iQ (M:Int),iQ (G:Int)] none)).get h.size=some (Qc [iQ (P:Int),iQ (M:Int),iQ (G:Int)] none):=ak;have rB:=JS (h.push (Qc [iQ (P:Int),iQ (M:Int),iQ (G:Int)] none)) hP hM hG;rw [<- eB] at rB;have bB:hB.get h.size=some (Qc [iQ (P:Int),iQ (M:Int),iQ (G:Int)] none):=by rw [eB];exact aJ bA
 have ⟨pC,hC,epC,eC,bC',kC⟩:=J2 hB (P:Int);have:pC=P:=by omega
 subst this;have bC:=kC.obj bB (by simp);have ⟨si,L,hD,eD,sD,kD,loD⟩:=Jw hC hP;have sLen:(fB pC).t.hs.length=pC:=by simp [fB]
 have hiD:∀ t∈L.objs si pC,t<hD.size:=by have:=sD.lt (by rw [sLen];omega);rw [sLen] at this;exact this
 have bD:=kD.obj bC (by simp);have ⟨hE,ii,FT,nE,eE,iE,enE,kE,fE⟩:=Kz hD (pC:Int) (M:Int);have:nE=pC:=by omega
 subst this;have bE:=kE.obj bD (by simp)
 obtain ⟨hF,eF⟩:∃ hF,hF=hE.push (Qc (List.replicate nE (iQ 0)) none):=⟨_,rfl⟩
 obtain ⟨hG',eG⟩:∃ hG,hG=hF.push (Qc (List.replicate M (.bool false)) none):=⟨_,rfl⟩
 have bF:hF.get h.size=some (Qc [iQ (nE:Int),iQ (M:Int),iQ (G:Int)] none):=by rw [eF];exact aJ bE
 have bG:hG'.get h.size=some (Qc [iQ (nE:Int),iQ (M:Int),iQ (G:Int)] none):=by rw [eG];exact aJ bF
 have bW:∀ x,(hG'.push x).get h.size=some (Qc [iQ (nE:Int),iQ (M:Int),iQ (G:Int)] none):=fun x=>aJ bG
 obtain ⟨z1,hz1⟩:∃ z,z=(nE:Int)+2:=⟨_,rfl⟩
 obtain ⟨zs,hzs⟩:∃ z,z=((2*(nE+2):Nat):Int):=⟨_,rfl⟩
 obtain ⟨zn,hzn⟩:∃ z,z=((2*nE+5:Nat):Int):=⟨_,rfl⟩
 obtain ⟨zt,hzt⟩:∃ z,z=((2*nE+5+M:Nat):Int):=⟨_,rfl⟩
 obtain ⟨za,hza⟩:∃ z,z=((2*nE+5+M+G:Nat):Int):=⟨_,rfl⟩
 have w1:wQ ((nE:Int)+2)=z1:=zQ
 have w2:wQ (2*z1)=zs:=zQ
 have w3:wQ (zs+1)=zn:=zQ
 have w4:wQ (zn+(M:Int))=zt:=zQ
 have w5:wQ (zt+(G:Int))=za:=zQ
 have hb1:(nE:Int)*8<=bigA/\nE<=bigA:=by simp [bigA];omega
 have hb2:(M:Int)*1<=bigA/\M<=bigA:=by simp [bigA];omega
 obtain ⟨hI,eI⟩:∃ hI,hI=hG'.push (Qc [iQ (nE:Int),iQ (M:Int),iQ (G:Int),.nilptr,iQ zs,iQ zn,iQ zt,iQ (G:Int),.nilslice,.slice hE.size 0 nE (.exact nE),.ptr hB.size 0,.ptr si 0,.ptr ii 0,.nilslice,.slice hF.size 0 M (.exact M),.nilslice] none):=⟨_,rfl⟩
 have ⟨hJ,mi,mj,eJ,mJ,kJ,hmi,hmj⟩:=Pf hI za;have bI:hI.get h.size=some (Qc [iQ (nE:Int),iQ (M:Int),iQ (G:Int)] none):=by rw [eI];exact bW _
 have wI:hI.get hG'.size=some (Qc [iQ (nE:Int),iQ (M:Int),iQ (G:Int),.nilptr,iQ zs,iQ zn,iQ zt,iQ (G:Int),.nilslice,.slice hE.size 0 nE (.exact nE),.ptr hB.size 0,.ptr si 0,.ptr ii 0,.nilslice,.slice hF.size 0 M (.exact M),.nilslice] none):=by rw [eI];exact ak
 have bJ:=kJ.obj bI (by simp);have wJ:=kJ.obj wI (by simp);refine dQ aac ?_;have sF:hE.size+1=hF.size:=by rw [eF];simp
 have ⟨b,eb⟩:∃ b:Bl,b=⟨nE,M,G,hG'.size,mi,mj,hE.size,hB.size,si,ii,hF.size⟩:=⟨_,rfl⟩
 have hhd:[iQ (nE:Int),iQ (M:Int),iQ (G:Int),.ptr mi 0,iQ zs,iQ zn,iQ zt,iQ (G:Int),.nilslice,.slice hE.size 0 nE (.exact nE),.ptr hB.size 0,.ptr si 0,.ptr ii 0,.nilslice,.slice hF.size 0 M (.exact M),.nilslice]=fC b .nilslice .nilslice:=by rw [eb,hzs,hzn,hzt];rfl
 obtain ⟨hK,eK⟩:∃ hK,hK=hJ.put hG'.size (Qc (fC b .nilslice .nilslice) none):=⟨_,rfl⟩
 have nbG:h.size≠hG'.size:=by have:=get_lt bG;omega
 have bK:hK.get h.size=some (Qc [iQ (nE:Int),iQ (M:Int),iQ (G:Int)] none):=by rw [eK,get_put_ne nbG,bJ]
 have wK:hK.get hG'.size=some (Qc (fC b .nilslice .nilslice) none):=by rw [eK,get_put_same,wJ];rfl
 simp [F20,bA,rB,bB,eC,bC,eD,bD,eE,bE,hb1,hb2,jw,<- eF,<- eG,bW,w1,w2,w3,w4,w5,ad,<- eI,eJ,bI,wI,wJ,hhd,<- eK,bK]
 obtain ⟨own0,eo⟩:∃ own0:Nat->Nat,own0=fun t=>if t<hB.size then 0 else if t<hC.size then 5 else if t<hD.size then 0 else if t<hE.size then 6 else if t=hE.size then 4 else if t=hF.size then 9 else if t=hG'.size then 1 else 2:=⟨_,rfl⟩
 have zB:h.size+2=hB.size:=by rw [eB];simp
 have zC:=kC.size;have zC':hB.size<hC.size:=by have:=bC'.lt hB.size (by simp);omega
 have zD:=kD.size;have zE:=kE.size;have zF:hF.size=hE.size+1:=by rw [eF];simp
 have zG:hG'.size=hF.size+1:=by rw [eG];simp
 have zI:hI.size=hG'.size+1:=by rw [eI];simp
 have zJ:=kJ.size;have zK:hK.size=hJ.size:=by rw [eK];simp
 have ltJ:=mJ.lt;have kEF:Keep [] hE hF:=by rw [eF];exact Keep.push
 have kFG:Keep [] hF hG':=by rw [eG];exact Keep.push
 have kGI:Keep [] hG' hI:=by rw [eI];exact Keep.push
 have kJK:Keep [hG'.size] hJ hK:=by rw [eK];exact Keep.put (by simp)
 have kEJ:Keep [] hE hJ:=((kEF.trans' kFG).trans' kGI).trans' kJ;have ltFT:=iE.lt;have o0:∀ t<hB.size,own0 t=0:=fun t ht=>by rw [eo];exact if_pos ht
 have o5:own0 hB.size=5:=by rw [eo];simp only;rw [nQ,pQ]
 have o6:∀ t,hD.size<=t->t<hE.size->own0 t=6:=fun t h1 h2=>by rw [eo];simp only;rw [nQ,nQ,nQ,if_pos h2]
 have o4:own0 hE.size=4:=by rw [eo];simp only;rw [nQ,nQ,nQ,nQ,if_pos trivial]
 have o9:own0 hF.size=9:=by rw [eo];simp only;rw [nQ,nQ,nQ,nQ,nQ,if_pos trivial]
 have o1:own0 hG'.size=1:=by rw [eo];simp only;rw [nQ,nQ,nQ,nQ,nQ,nQ,if_pos trivial]
 have o2:∀ t,hG'.size<t->own0 t=2:=fun t h1=>by rw [eo];simp only;rw [nQ,nQ,nQ,nQ,nQ,nQ,nQ]
 have e128:min (max 1 (M:Int)) 128=(M:Int):=by omega
 rw [e128] at iE;have iK:bz hK ii FT nE M (List.replicate ((nE+63) / 64) 0) [] [] (-1):=(iE.keep kEJ (by simp)).keep kJK (fun t ht=>by have:=ltFT t ht;simp;omega);have x0:mW hK hK own0 own0 b .nilslice .nilslice .nilslice .nilslice [] 0 (List.range' 1 (0-1)) [] (-1):=by
  refine ⟨fun _ _=>rfl,aq _,⟨[],Keep.refl,by simp⟩,⟨?_,none,by rw [eb];rw [eb] at wK;exact wK⟩,⟨[],.nil rfl,by simp⟩,by simp,⟨[],.nil rfl,by simp⟩,⟨FT,_,by rw [eb];exact iK,MH _,fun t ht=>?_⟩⟩
  . rw [eb];exact o1
  . exact o6 t (fE t ht) (ltFT t ht)
 have bP:b.P=nE:=by rw [eb]
 have bM:b.M=M:=by rw [eb]
 have bbG:b.G=G:=by rw [eb]
 have ba:b.a=hG'.size:=by rw [eb]
 refine Wp.loop (aat hK own0 b h.size) nE lQ ?_ ?_
 . exact ⟨0,own0,.nilslice,[],by rw [bP];omega,x0,rfl,by simp [ba],by simp,by simp [bP],by simp⟩
 rintro n fr g ⟨c,own,rs,rp,hc,x,hrl,s4,s1,s68,s69⟩;rw [bP] at hc s68;by_cases hcl:c<nE
 . have ⟨ca,room,hd⟩:=x.head;have ⟨er,yr⟩:=Md g;have k1:Keep [] g (g.push (Qc AD none)):=Keep.push;have x1:=x.alloc k1 (10+rp.length);have ⟨F,v,cF⟩:=x1.rsv;have ⟨rs',g3,F',ea,v',k',f'⟩:=sS v (x:=.ptr g.size 0) rfl (by simp;omega);have x3:=x1.XW (i:=g.size) (fun t ht=>⟨cF t ht,v.lt t ht⟩) (by simpa using v') k' f' ⟨yr,ext_new own (aq _)⟩;have ⟨c3,room3,hd3⟩:=x3.head;have x4:=x3.put rs' .nilslice (room:=room3);have ⟨z1,z2⟩:=mB v';have hd1:=k1.obj hd (by simp);have hd2:((g.push (Qc AD none)).push (Qc [.ptr g.size 0] none)).get b.a=some (Qc (fC b rs .nilslice) room):=aJ hd1;have w8:writeOf g3 b.a (some (Qc (fC b rs .nilslice) room3)) 8 [rs']=some (g3.put b.a (Qc (fC b rs' .nilslice) room3)):=by rw [wr1 (by simp) z2,G6]
   simp [dH] at ea
   cases c with
   | zero=>simp [s4,s68,s69,hcl,hd,er,hd1,hd2,ea,hd3,w8,z1];exact ⟨n-1,by omega,1,_,rs',rp++[g.size],by rw [bP];omega,x4,by simp [hrl],by simp [s4],by simp [s1],by simp [s68,bP],by simp;rfl⟩
   | succ c=>
    have ⟨g5,own5,e5,x5⟩:=x4.abw (n:=c) (by rw [bP];omega);have ⟨_,room4,hd4⟩:=x4.head;rw [show ((c+1:Nat):Int)=(c:Int)+1 by omega] at e5;have q1:(c:Int)+1<(nE:Int):=by omega
    have q2:(0:Int)<(c:Int)+1:=by omega
    have q3:wQ ((c:Int)+1+1)=(c:Int)+2:=zQ
    simp [s4,s68,s69,hd,er,hd1,hd2,ea,hd3,w8,z1,hd4,e5,q1,q2];exact ⟨n-1,by omega,c+2,own5,rs',rp++[g.size],by rw [bP];omega,x5,by simp [hrl],by simp [s4],by simp [s1],by simp [s68,bP],by simp [q3]⟩
 have hcx:c=nE:=by omega
 subst hcx;have nbK:h.size<hK.size:=by omega
 have bg:g.get h.size=some (Qc [iQ (c:Int),iQ (M:Int),iQ (G:Int)] none):=by rw [x.kept nbK (by rw [o0 h.size (by omega)];omega),bK]
 simp [s1,s68,s69,bg,ad];refine Wp.loop (aas hK own0 b rs rp) M lQ ?_ ?_
 . exact ⟨0,own,.nilslice,by rw [bM];omega,by rw [bP];exact x,by simp [s4],by simp [bM],by simp⟩
 clear s4 s1 s68 s69 bg;rintro n fr g ⟨d,own,sl,hd',x,s4,s92,s93⟩;rw [bM] at hd' s92;by_cases hdl:d<M
 . have ⟨ca,room,hd⟩:=x.head;have ⟨g1,ef,kf⟩:=M6 g;have x1:=x.alloc kf 0;have ⟨F,v,cF⟩:=x1.asv;have ⟨sl',g3,F',ea,v',k',f'⟩:=Ss v (by omega);have x3:=x1.XX (fun t ht=>⟨cF t ht,v.lt t ht⟩) v' k' f';have ⟨c3,room3,hd3⟩:=x3.head;have x4:=x3.put rs sl' (room:=room3);have ⟨z1,z2⟩:=mB v';have hd1:=kf.obj hd (by simp);have hd2:(g1.push (Qc (gD freshM .nilslice) none)).get b.a=some (Qc (fC b rs sl) room):=aJ hd1;have w13:writeOf g3 b.a (some (Qc (fC b rs sl) room3)) 13 [sl']=some (g3.put b.a (Qc (fC b rs sl') room3)):=by rw [wr1 (by simp) z2,EK]
   simp [gD] at ef ea hd2
   cases d with
   | zero=>simp [s4,s92,s93,hdl,hd,ef,hd1,hd2,ea,hd3,w13,z1];exact ⟨n-1,by omega,1,_,sl',by rw [bM];omega,x4,by simp [s4],by simp [s92,bM],by simp;rfl⟩
   | succ d=>
    have ⟨vv,g5,own5,e5,x5⟩:=x4.stop (by omega) (by rw [bM];omega) (by rw [bM];omega);have ⟨_,room4,hd4⟩:=x4.head;rw [show ((d+1:Nat):Int)=(d:Int)+1 by omega] at e5;have q1:(d:Int)+1<(M:Int):=by omega
    have q2:(0:Int)<(d:Int)+1:=by omega
    have q3:wQ ((d:Int)+1+1)=(d:Int)+2:=zQ
    simp [s4,s92,s93,hd,ef,hd1,hd2,ea,hd3,w13,z1,hd4,e5,q1,q2];exact ⟨n-1,by omega,d+2,own5,sl',by rw [bM];omega,x5,by simp [s4],by simp [s92,bM],by simp [q3]⟩
 have hdx:d=M:=by omega
 subst hdx;have h11:11<=h.size:=by have:=get_lt (gl.nx.r 6 [] rfl);omega
 have kAB:Keep [] h hB:=by rw [eB];exact Keep.push.trans' Keep.push
 have kAJ:Keep [] h hJ:=(((kAB.trans' kC).trans' kD).trans' kE).trans' kEJ;have kAK:Keep [hG'.size] h hK:=(kAJ.mono (by simp)).trans' kJK;have glK:dL hK:=gl.keep kAK (by simp;omega);have ⟨K,kK,hKc⟩:=x.keep;have nK:∀ {t},t<hK.size->own0 t≠1/\own0 t≠3/\own0 t≠6/\own0 t≠7->t∉K:=fun ht ho hm=>by have:=hKc _ hm ht;omega
 have glg:dL g:=glK.keep kK (fun t ht=>by
  rcases bH t 11 with h1 | h1
  . exact absurd ht (nK (by omega) (by rw [o0 t (by omega)];omega))
  . exact h1)
 have kAg:Keep [] h g:=⟨dk kAK.size kK.size,fun k lb e=>kK.caps k lb (kAK.caps k lb e),fun t ht _=>by rw [kK.get t (by omega) (nK (by omega) (by rw [o0 t (by omega)];omega)),kAK.get t ht (by simp;omega)]⟩
 have hza2:(min (max 0 za) 65536).toNat=2*c+5+d+G:=by omega
 rw [hza2] at mJ;have mK:=mJ.keep kJK (by simp;omega) (by simp;omega);have mg:=mK.keep kK (nK (by omega) (by rw [o2 mi (by omega)];omega)) (nK (by omega) (by rw [o2 mj (by omega)];omega));have tF:hF.get hE.size=some (Qc (List.replicate c (iQ 0)) none):=by rw [eF];exact ak
 have tK:hK.get hE.size=some (Qc (List.replicate c (iQ 0)) none):=kJK.obj (((kFG.trans' kGI).trans' kJ).obj tF (by simp)) (by simp;omega);have tg:=kK.obj tK (nK (by omega) (by rw [o4];omega));have fG:hG'.get hF.size=some (Qc (List.replicate d (.bool false)) none):=by rw [eG];exact ak
 have fK:hK.get hF.size=some (Qc (List.replicate d (.bool false)) none):=kJK.obj ((kGI.trans' kJ).obj fG (by simp)) (by simp;omega);have fg:=kK.obj fK (nK (by omega) (by rw [o9];omega))
 have b1:cY hK hB.size [] [] [iQ (c:Int)]:=((((bC'.keep kD (by simp)).keep kE (by simp)).keep kEJ (by simp)).keep kJK (by simp;omega))
 have bgg:=b1.keep kK (fun t ht=>by simp at ht;subst ht;exact nK (by omega) (by rw [o5];omega));have sm:∀ t,t<hK.size->own t=own0 t:=x.same;have x':mW hK g own0 own b rs sl rs sl rp b.M (List.range' 1 (b.P-1)) (yW b.M) (qN b.M):=by rw [bM];exact x
 have hXs:∀ t∈X++List.range h.size,t<h.size:=fun t ht=>by
  rcases bd.1 ht with h1 | h1
  . exact hX t h1
  . simpa using h1
 have hXo:∀ t∈L.objs si c++(X++List.range h.size),t<hD.size/\own0 t=0:=fun t ht=>by
  rcases bd.1 ht with h1 | h1
  . have l1:=loD t h1;have l2:=hiD t h1;exact ⟨l2,by rw [eo];simp only;rw [nQ,nQ,if_pos l2]⟩
  . have:=hXs t h1;exact ⟨by omega,o0 t (by omega)⟩
 have kDJ:Keep [] hD hJ:=kE.trans' kEJ;have kDK:Keep [hG'.size] hD hK:=(kDJ.mono (by simp)).trans' kJK;have kDg:KX (L.objs si c++(X++List.range h.size)) hD g:=⟨dk kDK.size kK.size,fun k lb e=>kK.caps k lb (kDK.caps k lb e),fun t ht=>by
  have ⟨h1,h2⟩:=hXo t ht
  rw [kK.get t (by omega) (nK (by omega) (by rw [h2];omega)),kDK.get t h1 (by simp;omega)]⟩
 have hXX:∀ t∈L.objs si c++(X++List.range h.size),t<g.size/\own t=0:=fun t ht=>by have ⟨h1,h2⟩:=hXo t ht;exact ⟨by have:=kDg.size;omega,by rw [sm t (by omega),h2]⟩
 have ⟨S,hSa,hsl,y⟩:=x'.done (X:=L.objs si c++(X++List.range h.size)) (by rw [bP];exact hrl) glg (by rw [bP];exact hP) (by rw [bP,bM];exact hM) (by rw [bbG];exact hG) (fun t ht=>by rw [sm t (by omega),o0 t (by omega)]) (fun t ht=>hXX t ht) (by rw [eb];exact ⟨by rw [sm mi (by omega),o2 mi (by omega)],by rw [sm mj (by omega),o2 mj (by omega)]⟩) (by rw [eb];exact mg) (by rw [eb];show own hE.size=4;rw [sm _ (by omega),o4]) (by rw [eb];exact tg) (by rw [eb];show own hB.size=5;rw [sm _ (by omega),o5]) (by rw [eb];exact bgg) (by rw [eb];show own hF.size=9;rw [sm _ (by omega),o9]) (by rw [eb];exact fg);rw [bP,bM,bbG] at y;have hsi:S.si=si:=by have ⟨u9,room9,hd9⟩:=y.hd;have ⟨_,room8,hd8⟩:=x'.head;rw [hSa,hd8] at hd9;have h9:=congrArg (fun o=>match o with | some (AObj.cells _ l _)=>l[11]? | _=>none) hd9;have h8:(.ptr b.si 0:AV)=.ptr S.si 0:=aw h9;rw [eb] at h8;cases h8;rfl
 rw [<- hSa] at s4;rw [bM] at hsl;have ⟨bb,cs,room,rv,F,hbb,hcs,hx,up,v,hF'⟩:=y.fA (i:=0) (m:=freshM) (by show (List.replicate d freshM)[0]?=some freshM;rw [bS,pQ]);have hx:idxAddrV 18 none (.slice S.ao S.ab (startW c d G).M S.ac) (iQ 0)=some (.ptr S.ao bb):=hx;have ⟨u,room0,hd⟩:=y.hd;have ⟨l0,ll⟩:=up.foc.lt;have na:S.a≠S.ao:=fun e=>by have:=y.ca;rw [e,y.all.1] at this;omega
 have ⟨y6,k6⟩:=y.bY (i:=0) (m:=freshM) (m':={freshM with pl:=1,p:=0}) (by show (List.replicate d freshM)[0]?=some freshM;rw [bS,pQ]) hcs hbb ((up.place 1).int 1 0) v hF'
 obtain ⟨w6,hw6⟩:∃ w6,w6=(startW c d G).az 0 {freshM with pl:=1,p:=0}:=⟨_,rfl⟩
 rw [<- hw6] at y6;have kg6:Keep [S.ao] g (g.put S.ao (Qc ((cs.set bb (iQ 1)).set (bb+1) (iQ 0)) room)):=Keep.put (by simp)
 obtain ⟨g6,eg6⟩:∃ g6,g6=g.put S.ao (Qc ((cs.set bb (iQ 1)).set (bb+1) (iQ 0)) room):=⟨_,rfl⟩
 rw [<- eg6] at y6 k6 kg6;have ⟨o6',y6⟩:=y6;have ⟨u6,room6,hd6⟩:=y6.hd;have ⟨cnt6,mm6,n1,n2,n3,n4⟩:=y6.gC;have hG6:w6.G=G:=by rw [hw6];rfl
 have hws6:w6.ws=List.replicate (2*c+5+d+G) 0:=by rw [hw6];rfl
 have htb6:w6.tb=2*c+5+d:=by rw [hw6];rfl
 have hwd:wd w6.ws (w6.tb+(0:Int).toNat)=0:=by rw [hws6,htb6];simp [wd,aO,bS];split<;>rfl
 have ⟨g7,e7,m7,k7⟩:=nh (F:=w6.tb) (N:=w6.G) (g:=0) y6.nx mm6 (a:=0) (b:=1) (by omega) (by omega) (by omega) (by decide) (iu y6.sz).1 (iu y6.sz).2;rw [if_pos hwd] at m7;rw [decide_eq_true hwd] at e7;have y7:=y6.j7 0 m7 (by simp) k7;have ⟨u7,F7,hh7⟩:=y7.head;have ⟨room7,hd7⟩:=hh7.at_;have ⟨es7,le7,ve7⟩:=hh7.log;have ⟨g8,e8,u8,F8,hd8,ve8,nn8,k8,f8⟩:=Is y7.al hd7 (o:=15) yg ve7 hh7.ni (by rw [le7,hw6];exact lG _) (0,0,-1,-1,0) (by decide);have y8:=y7.Og hh7 (u':=u8) (room:=room7) hd8 ve8 nn8 k8 f8;have kp8:Keep [] g8 (g8.push (Qc [iQ 0] none)):=Keep.push;have y9:=y8.alloc kp8 0;have ⟨Fg,bg9,cg9⟩:=y9.glob;have hgl:(({({w6 with ws:=w6.ws.set (w6.tb+(0:Int).toNat) 1}:W) with lg:=(es7++[((0,0,-1,-1,0):E5)]).length}:W)).gl=[]:=by rw [hw6];rfl
 rw [hgl] at bg9;have ⟨g10,Fg',e10,b10,k10,f10⟩:=AH bg9 (vU (h:=g8) (x:=iQ 0)) (ys:=[0]) (by simp);have y10:=y9.I9 (by rw [hgl];exact bg9) cg9 b10 k10 f10;have hd8':g8.get S.a=some (Qc (headA S {w6 with ws:=w6.ws.set (w6.tb+(0:Int).toNat) 1} u8) room7):=hd8;have hw10:({({({w6 with ws:=w6.ws.set (w6.tb+(0:Int).toNat) 1}:W) with lg:=(es7++[((0,0,-1,-1,0):E5)]).length}:W) with gl:=[]++[0]}:W)=kL c d G:=by
  have:es7.length=0:=by rw [le7,hw6];rfl
  rw [hw6];simp [this,kL,startW,W.az,W.tb]
 rw [hw10] at y10;simp [eA,yq] at e8;have kz:KX (L.objs si c++(X++List.range h.size)) hD g10:=by exact ((((kDg.trans k6).trans (y6.Ja k7)).trans (y7.kx (c:=1) k8 (fun t ht=>by rcases aD.1 ht with rfl | ht;exact hh7.ca;exact hh7.cF t ht) (by omega))).trans (y8.YQ kp8)).trans (y9.kx (c:=5) k10 cg9 (by omega))
 simp [-writeOf_some,-getElem?_pos,s4,s92,s93,hd,hx,hcs,wrI,ll,l0,<- eg6,hd6,e7,e8,hd8',e10];have kAD:Keep [] h hD:=(kAB.trans' kC).trans' kD;refine ⟨⟨S,rfl,L,⟨?_,?_,?_,?_,?_⟩⟩,⟨by have:=kAD.size;have:=kz.size;omega,fun k lb e=>kz.caps k lb (kAD.caps k lb e),fun t ht _=>?_⟩⟩
 . rw [sLen,hsi];exact WorldAt.sub ⟨_,y10⟩ (by intro t ht;simp [bd] at ht ⊢;rcases ht with ht | ht;exact dc ht;exact dx (dc ht))
 . rw [hsi];exact sD.keep kz.keep (KX.th fun t ht=>by rw [sLen] at ht;exact bp _ ht)
 . rw [sLen,hsi];intro t ht;have:=loD t ht;omega
 . rw [sLen,hsi];intro t ht hx;have:=loD t ht;have:=hX t hx;omega
 . rw [sLen];rfl
 . rw [kz.get t (by simp [bd,dq];exact dx (dx ht)),kAD.get t ht (by simp)]
theorem Gy {X:List Nat} (gl:dL h) (hX:∀ t∈X,t<h.size) (hP:1<=P/\P<=64) (hM:P<=M/\M<=128) (hG:1<=G/\G<=4096):∃ v h',run T 20 [E2 P M G] h=some (v,h')/\(∃ S:jb,v=.tuple [.ptr S.a 0,iQ 0]/\WorldAt h' S (kL P M G) X)/\Keep [] h h':=by
 obtain ⟨v,h',e,⟨S,L,rfl,x⟩,k⟩:=Ch gl hX hP hM hG;exact ⟨_,h',e,⟨S,rfl,x.at_.sub fun t ht=>cf _ ht⟩,k⟩
end
end
end Go.Proofs.YtblhcbmcbhoeiaaGreatDoor.Ev
