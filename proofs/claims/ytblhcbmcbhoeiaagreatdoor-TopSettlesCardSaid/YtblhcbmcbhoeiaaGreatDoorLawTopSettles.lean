/- What the statement TopSettles says is so, on its conditions: the row's condition opened, the evaluator's answer, shut again. -/
import Derived.Test.YtblhcbmcbhoeiaaGreatDoorRows
import Derived.Test.YtblhcbmcbhoeiaaGreatDoorCards
import Derived.Test.YtblhcbmcbhoeiaaGreatDoorTie
import Derived.Test.YtblhcbmcbhoeiaaGreatDoorPkF
import Derived.WalkKit
import Derived.ProofKit
import Derived.OpenShut
import Derived.ShutString
import Derived.ChangeOld
import Derived.Below
import Derived.SizedLaws
import Derived.SevenTiedAt
import Derived.LaidMore
import Derived.HandedShaped
namespace Go.Proofs.YtblhcbmcbhoeiaaGreatDoor.topSettles
open Go.ChangeShapes Go.WideShapes Go.ChangeAt Go.RowKit
open Go.ChangeMaps (open_string shut_string)
theorem own:ownKnob Tryz.prog.godebug=none:=by kernel_rfl
theorem laidOut:laidOutB Tryz.prog=true:=by kernel_rfl
theorem g3:Tryz.prog.globalNamed "math/bits.deBruijn64tab"=some 3:=by kernel_rfl
theorem t3:(Tryz.prog.globals[3]?).map (·.type)=some 261:=by kernel_rfl
theorem g0:Tryz.prog.globalNamed "hostler/status.next"=some 0:=by kernel_rfl
theorem t0:(Tryz.prog.globals[0]?).map (·.type)=some 215:=by kernel_rfl
theorem g2:Tryz.prog.globalNamed "hostler/event.all"=some 2:=by kernel_rfl
theorem t2:(Tryz.prog.globals[2]?).map (·.type)=some 235:=by kernel_rfl
theorem g1:Tryz.prog.globalNamed "hostler/mach.places"=some 1:=by kernel_rfl
theorem t1:(Tryz.prog.globals[1]?).map (·.type)=some 222:=by kernel_rfl
theorem door_met (os:Os) (args:Array Value):laidMetH Tryz.prog Rows.topSettlesRow.laid ((World.doorLaid Tryz.prog 400 os).forCall (fun _ _=>0) ⟨#[],args,[]⟩).memory:=
 laidMetH_of_parts3 (fuel:=8) (laidMet_of_run' 8 (by kernel_rfl) (by kernel_rfl)) (by kernel_rfl) (by kernel_rfl)
theorem globs {W:World} (h:laidMetH Tryz.prog Rows.topSettlesRow.laid W):(Ev.AObj.cells true Ev.mG none).holds Ev.eM.nil W ⟨3,0,none⟩/\(∃ (f:Nat->Addr) (cs:Array Value),W.var? Tryz.prog "hostler/status.next"=some cs/\∀ (i:Nat) vs,Ev.nextRows[i]?=some vs->cs.toList[i]?=some (.slice (some (f i)) vs.length vs.length)/\∀ (j:Nat) v,vs[j]?=some v->W.cell? ((f i).add j)=some (.int .u64 v))/\(Ev.AObj.cells true Ev.glob2 none).holds Ev.eM.nil W ⟨2,0,none⟩/\(Ev.AObj.cells true Ev.iL none).holds Ev.eM.nil W ⟨1,0,none⟩:=by rw [MakeChecks.laidMetH_plain _ _ _ (by kernel_rfl)] at h;obtain ⟨ps,⟨g0',t0',cs0,f0,p0,q0,hg0,ht0,hv0,hd0,⟨g1',t1',cs1,f1,p1,q1,hg1,ht1,hv1,hd1,⟨g2',t2',cs2,f2,p2,q2,hg2,ht2,hv2,hd2,⟨g3',t3',cs3,f3,p3,q3,hg3,ht3,hv3,hd3,_,_⟩,_⟩,_⟩,_⟩,_,_⟩:=h;obtain rfl:=aw (g3.symm.trans hg0);obtain rfl:=aw (t3.symm.trans ht0);obtain rfl:=aw (g0.symm.trans hg1);obtain rfl:=aw (t0.symm.trans ht1);obtain rfl:=aw (g2.symm.trans hg2);obtain rfl:=aw (t2.symm.trans ht2);obtain rfl:=aw (g1.symm.trans hg3);obtain rfl:=aw (t1.symm.trans ht3);exact ⟨Ev.glob_holds hg0 hv0 hd0 (n:=6) (by kernel_rfl) (by decide),(by obtain ⟨f,hf⟩:=Ev.tD (P:=Tryz.prog) (rows:=Ev.nextRows) (k:=.u64) (t:=215) (e:=214) (e':=57) (m:=7) (by kernel_rfl) (by kernel_rfl) (by kernel_rfl) (by kernel_rfl) (by kernel_rfl) hd1 rfl;exact ⟨f,cs1,hv1,hf⟩),Ev.glob_holds hg2 hv2 hd2 (n:=6) (by kernel_rfl) (by decide),Ev.glob_holds hg3 hv3 hd3 (n:=6) (by kernel_rfl) (by decide)⟩
set_option maxRecDepth 100000 in
theorem lifted (os:Os) (started:os.Started) (H:Type) (enc:TypeId×Value->H) :
 ReturnsInHanded {} Tryz.checked os 7 .any (fun w args=>(Rows.topSettlesSpec.pre enc Tryz.prog Tryz.f7 Rows.topSettlesRow.domain false w args/\laidMetH Tryz.prog Rows.topSettlesRow.laid w)/\sizedMet enc Tryz.prog Tryz.f7 (OpenSpec.ofChange Rows.topSettlesSpec) false w args) (Rows.topSettlesSpec.post enc Tryz.prog Tryz.f7 false true false false):=by
 refine returnsInHanded_of_change_and (C:=Tryz.checked) (X:=fun w _=>laidMetH Tryz.prog Rows.topSettlesRow.laid w) (fun _ _ _ hh h=>h.of_heap hh) own started (by kernel_rfl) Tryz.func7
  (ChangeSpec.witness_shaped (enc:=enc) (C:=Tryz.checked) (os:=os) (X:=fun w _=>laidMetH Tryz.prog Rows.topSettlesRow.laid w) false (World.doorLaid Tryz.prog 400 os) #[.int .u8 0,.int .u8 0,.int .u8 0,.slice none 0 0] 8 rfl (World.shaped_of_RefB (by kernel_rfl) (by kernel_rfl)) (by kernel_rfl) (by kernel_rfl) (by kernel_rfl) (door_met os _)) ?_
 intro W base args ds gs before hval0 hW hcnd hsz0 hL _
 obtain ⟨gh3,gh0,gh2,gh1⟩:=globs hL
 obtain ⟨fn,csn,hvn,hfn⟩:=gh0
 have hval:∀ (j:Nat) t v,Tryz.f7.params[j]?=some t->args[j]?=some v->Value.okWide Tryz.prog W .any base t v:=hval0
 have hW':=hW
 obtain ⟨p,q,hA0,hV,rfl,hfz,hnd⟩:=hW
 have hA:DataW.TrodAll enc Tryz.prog W 0 (fun _=>true) true Tryz.f7.params.toList args.toList ds p:=hA0
 rw [Tryz.params7] at hA hval
 obtain ⟨v0,vs0,d0,ds0,p0,q0,hargs,rfl,rfl,h0,r0⟩:=trodAll_cons hA
 obtain ⟨v1,vs1,d1,ds1,p1,q1,rfl,rfl,rfl,h1,r1⟩:=trodAll_cons r0
 obtain ⟨v2,vs2,d2,ds2,p2,q2,rfl,rfl,rfl,h2,r2⟩:=trodAll_cons r1
 obtain ⟨v3,vs3,d3,ds3,p3,q3,rfl,rfl,rfl,h3,r3⟩:=trodAll_cons r2
 obtain ⟨rfl,rfl,rfl⟩:=trodAll_nil r3
 obtain rfl:args=#[v0,v1,v2,v3]:=by cases args;simp_all
 obtain ⟨rfl,rfl⟩:=trodVars_none hV
 obtain ⟨a0,rfl,rfl,rfl,w0⟩:=open_int Tryz.underlying5 (hval 0 5 v0 rfl rfl) h0
 obtain ⟨a1,rfl,rfl,rfl,w1⟩:=open_int Tryz.underlying5 (hval 1 5 v1 rfl rfl) h1
 obtain ⟨a2,rfl,rfl,rfl,w2⟩:=open_int Tryz.underlying5 (hval 2 5 v2 rfl rfl) h2
 have k3:=h3
 have lt3:∀ x∈p3,x.block<W.heap.size:=by obtain ⟨m,hm⟩:=k3;exact DataW.trod_lt m _ _ _ hm
 clear hA0 hval0 hsz0 hL
 obtain ⟨c3,l3,ad3,hs3,hf3,hh3,hr3⟩:=Ev.AM (enc:=enc) (P:=Tryz.prog) Tryz.underlying22 (ks:=[.int .u8,.int .u8,.int .i64,.int .i64,.int .i64]) (by kernel_rfl) (by kernel_rfl) (by decide) (by obtain ⟨x,y,z,rfl⟩:=okWide_slice Tryz.underlying22 (hval 3 22 v3 rfl rfl);rfl) h3 lt3
 obtain ⟨h',he⟩:=Ev.yP a0 a1 a2 c3 l3 hs3 hf3 w0 w1 w2
 obtain ⟨_,he⟩:=Ev.mQ Ev.oX he
 have yy:∀ o∈[Ev.globN,(Ev.AObj.cells true Ev.iL none),(Ev.AObj.cells true Ev.glob2 none),(Ev.AObj.cells true Ev.mG none),Ev.dv .u64 [1],Ev.dv .u64 [2],Ev.dv .u64 [1,3,4,5,6],Ev.dv .u64 [1],Ev.dv .u64 [1],Ev.dv .u64 [1],Ev.dv .u64 [],Ev.oM l3.flatten],Ev.AObj.writable o=false:=Ev.bT rfl (Ev.bT rfl (Ev.bT rfl (Ev.bT rfl (Ev.bT rfl (Ev.bT rfl (Ev.bT rfl (Ev.bT rfl (Ev.bT rfl (Ev.bT rfl (Ev.bT rfl (Ev.bT (Ev.rowA_ro l3.flatten) (Ev.Dd))))))))))))
 have zz:∀ p∈([⟨0,0,none⟩,⟨1,0,none⟩,⟨2,0,none⟩,⟨3,0,none⟩,fn 0,fn 1,fn 2,fn 3,fn 4,fn 5,fn 6,ad3]:List Addr).zip [Ev.globN,(Ev.AObj.cells true Ev.iL none),(Ev.AObj.cells true Ev.glob2 none),(Ev.AObj.cells true Ev.mG none),Ev.dv .u64 [1],Ev.dv .u64 [2],Ev.dv .u64 [1,3,4,5,6],Ev.dv .u64 [1],Ev.dv .u64 [1],Ev.dv .u64 [1],Ev.dv .u64 [],Ev.oM l3.flatten],p.2.holds ⟨[⟨0,0,none⟩,⟨1,0,none⟩,⟨2,0,none⟩,⟨3,0,none⟩,fn 0,fn 1,fn 2,fn 3,fn 4,fn 5,fn 6,ad3],[],[]⟩ W p.1/\p.2.writable=false:=Ev.zip_cons ⟨Ev.rowsG_holds g0 hvn hfn (fun i hi=>by have hi:i<7:=hi;match i,hi with | 0,_=>rfl | 1,_=>rfl | 2,_=>rfl | 3,_=>rfl | 4,_=>rfl | 5,_=>rfl | 6,_=>rfl) (by decide),rfl⟩ (Ev.zip_cons ⟨Ev.AObj.dE ⟨⟨_,cJ _⟩,⟨[],rfl⟩,⟨[],rfl⟩⟩ gh1,rfl⟩ (Ev.zip_cons ⟨Ev.AObj.dE ⟨⟨_,cJ _⟩,⟨[],rfl⟩,⟨[],rfl⟩⟩ gh2,rfl⟩ (Ev.zip_cons ⟨Ev.AObj.dE ⟨⟨_,cJ _⟩,⟨[],rfl⟩,⟨[],rfl⟩⟩ gh3,rfl⟩ (Ev.zip_cons ⟨Ev.rowO_holds (hfn 0 _ rfl).2,rfl⟩ (Ev.zip_cons ⟨Ev.rowO_holds (hfn 1 _ rfl).2,rfl⟩ (Ev.zip_cons ⟨Ev.rowO_holds (hfn 2 _ rfl).2,rfl⟩ (Ev.zip_cons ⟨Ev.rowO_holds (hfn 3 _ rfl).2,rfl⟩ (Ev.zip_cons ⟨Ev.rowO_holds (hfn 4 _ rfl).2,rfl⟩ (Ev.zip_cons ⟨Ev.rowO_holds (hfn 5 _ rfl).2,rfl⟩ (Ev.zip_cons ⟨Ev.rowO_holds (hfn 6 _ rfl).2,rfl⟩ (Ev.zip_cons ⟨Ev.AObj.dE ⟨⟨_,cJ _⟩,⟨[],rfl⟩,⟨[],rfl⟩⟩ hh3,Ev.rowA_ro l3.flatten⟩ (Ev.zip_nil))))))))))))
 refine (Ev.pI Ev.tu he (Ev.B8 (G:=4) [⟨0,0,none⟩,⟨1,0,none⟩,⟨2,0,none⟩,⟨3,0,none⟩,fn 0,fn 1,fn 2,fn 3,fn 4,fn 5,fn 6,ad3] [Ev.globN,(Ev.AObj.cells true Ev.iL none),(Ev.AObj.cells true Ev.glob2 none),(Ev.AObj.cells true Ev.mG none),Ev.dv .u64 [1],Ev.dv .u64 [2],Ev.dv .u64 [1,3,4,5,6],Ev.dv .u64 [1],Ev.dv .u64 [1],Ev.dv .u64 [1],Ev.dv .u64 [],Ev.oM l3.flatten] rfl (by intro g hg;match g,hg with | 0,_=>rfl | 1,_=>rfl | 2,_=>rfl | 3,_=>rfl) zz) (Ev.ros_ro yy) (by simp only [Ev.AV.rels];exact ⟨_,_,rfl,rfl,_,_,rfl,rfl,_,_,rfl,rfl,_,_,rfl,hr3 _ 11 rfl,rfl⟩)).mono fun e W' ⟨he,bel⟩=>?_
 subst he
 exact ⟨_,rfl,_,_,_,[],_,[],hW',trodAll_mk1 (shut_bool Tryz.underlying4 _),(trodAll_cons_mk (shut_int Tryz.underlying5 w0) (trodAll_cons_mk (shut_int Tryz.underlying5 w1) (trodAll_cons_mk (shut_int Tryz.underlying5 w2) (trodAll_cons_mk (Below.trod laidOut (by kernel_rfl) (of_decide_eq_true (by kernel_rfl)) k3 bel lt3) trodAll_mk0)))),rfl,bel.frame _,fun h=>by cases h⟩
theorem over:Rows.topSettlesRow.holds Tryz.pinned (OpenSpec.ofChange Rows.topSettlesSpec):=
 OpenClaim.holds_of_wide 7 Tryz.f7 rfl rfl rfl rfl rfl rfl rfl ⟨rfl,rfl,rfl,rfl,rfl⟩ rfl rfl rfl rfl rfl (by kernel_rfl) Tryz.func7 (by kernel_rfl)
  (of_decide_eq_true (by kernel_rfl)) (by unfold Func.isWrapper;first | (rw [if_pos (by decide +kernel)];kernel_rfl) | (rw [if_neg (by decide +kernel)];exact ⟨rfl,rfl⟩))
  (fun os started H enc _=>lifted os started H enc)
theorem proved:Rows.TopSettlesCardSaid:=
 Claim7.holds_tied_plain_at .later [] [.data,.widerDeep,.data,.widerDeep] true (true,"1f88f4764587c19f44cb9391f7141a85eaf5d9ceef13a8bc72a7fc1ed222cf0c") true
  over (fun _ h=>by cases h) (by kernel_rfl) (fun _ h=>by cases h) topSettles_row_tie rfl ⟨rfl,rfl⟩ (by kernel_rfl) rfl
  (fun f fn hf hfn=>by
   obtain rfl:f=7:=aw ((show Tryz.prog.funcNamed "hostler/hostlertop.TopSettles"=some 7 by kernel_rfl).symm.trans hf) |>.symm;obtain rfl:fn=Tryz.f7:=(aw (Tryz.func7.symm.trans hfn)).symm;exact ⟨by kernel_rfl,fun j t ht=>by
    rw [Tryz.params7] at ht;have hm:t∈[5,5,5,22]:=by simpa using Array.mem_of_getElem? ht
    have hall:([5,5,5,22].all fun u=>!Tryz.prog.wantsStandIn u)=true:=by kernel_rfl
    exact (show Tryz.prog.wantsStandIn t=false by simpa using aQ.1 hall t hm)⟩)
  (by kernel_rfl)
end Go.Proofs.YtblhcbmcbhoeiaaGreatDoor.topSettles
namespace Go.Proofs.YtblhcbmcbhoeiaaGreatDoor
theorem topSettles_holds:Rows.TopSettlesCardSaid:=topSettles.proved
end Go.Proofs.YtblhcbmcbhoeiaaGreatDoor
