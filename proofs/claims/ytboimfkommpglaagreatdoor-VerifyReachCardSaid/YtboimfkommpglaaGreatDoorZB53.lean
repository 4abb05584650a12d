/-
  What functions of the program compute, stated as contracts over plain data; the conditions of each stand in its own statement.
-/
import Derived.Test.YtboimfkommpglaaGreatDoorZB31
import Derived.Test.YtboimfkommpglaaGreatDoorZB24
import Derived.Test.YtboimfkommpglaaGreatDoorZB22
import Derived.Test.YtboimfkommpglaaGreatDoorZB21
import Derived.Test.YtboimfkommpglaaGreatDoorZB30
import Derived.Test.YtboimfkommpglaaGreatDoorZB52
import Derived.LaidMore
import Derived.Stop.Joined
import Derived.SevenTiedAt
import Derived.JoinedOf
set_option linter.unusedSimpArgs false
set_option linter.unusedVariables false
namespace Go.Proofs
open Go Go.Tr
theorem acy{es W:List Ed}(h:es.Pairwise fun x y=>x.id<y.id)(hW:W.Sublist es):W=es.filter fun e=>decide (e.id∈W.map (·.id)):=by
 have ha:W.Pairwise fun x y=>x.id<y.id:=h.sublist hW
 have hb:(es.filter fun e=>decide (e.id∈W.map (·.id))).Pairwise fun x y=>x.id<y.id:=by grind
 have hinj:∀x∈es,∀y∈es,x.id=y.id→x=y:=fun x hx y hy e=>by
  obtain⟨i,hi,rfl⟩:=cu.1 hx;obtain⟨j,hj,rfl⟩:=cu.1 hy
  grind[List.pairwise_iff_getElem]
 have na:W.Nodup:=ha.imp fun h e=>by simp_all
 have nb:(es.filter fun e=>decide (e.id∈W.map (·.id))).Nodup:=hb.imp fun h e=>by simp_all
 have hp:W.Perm (es.filter fun e=>decide (e.id∈W.map (·.id))):=(kV na nb).2 fun x=>by grind
 exact hp.eq_of_pairwise (le:=fun x y=>x.id<y.id) (fun x y _ _ h1 h2=>by omega) ha hb
theorem ac2{α:Type}{q:α→Bool}{l:List α}{i:Nat}{x:α}(h:l[i]? = some x):(l.filter q)[((l.take i).filter q).length]? = if q x=true then some x else((l.drop (i+1)).filter q)[0]? :=by
 have e:l=l.take i++x::l.drop (i+1):=by obtain⟨hi,rfl⟩:=aA.1 h;simp
 grind
theorem aeB{α:Type}{q:α→Bool}{l:List α}{i:Nat}{x:α}(h:l[i]? = some x):((l.take (i+1)).filter q).length=((l.take i).filter q).length+if q x=true then 1 else 0:=by
 rw[aO,h,bJ,aS]
 grind
theorem ai3{α:Type}{q:α→Bool}{l:List α}{i:Nat}{x:α}(h:l[i]? = some x)(hq:q x=true):((l.take i).filter q).length<(l.filter q).length:=by
 have:=ac2 (q:=q) h
 grind
theorem BU:∀(es:List Ed) (out:List Int) (T:Tp),∃W:List Ed,W.Sublist es∧(y7 es out T).1=out++W.map (·.id)
 | [],out,T=>⟨[],List.Sublist.slnil,by simp[y7]⟩
 | e::es,out,T=>by
   rw[y7];by_cases c:0<(bH T 3).1
   ·obtain⟨W,h1,h2⟩:=BU es (out++[e.id]) (bH T 3).2;exact⟨e::W,h1.cons_cons e,by simp[*]⟩
   ·obtain⟨W,h1,h2⟩:=BU es out (bH T 3).2
    grind
@[simp]theorem SB:∀(es:List Ed) (out:List Int) (T:Tp),dW (y7 es out T).2=dW T
 | [],out,T=>rfl
 | e::es,out,T=>by rw[y7,SB];simp
theorem KF:∀{l:List Int},l.Pairwise (· < ·)→pV (fun x y:Int=>decide (y≤x)) l=false
 | [],_=>rfl
 | [x],_=>rfl
 | x::y::r,h=>by
   have h1:=(fB.1 h).1 y (by simp);have h2:=KF (fB.1 h).2
   grind[pV]
theorem Ul{p:Pn}(h:iT p=true){e:Ed}(he:e∈p.es):1≤e.r∧e.r≤99:=by
 simp only[iT,decide_eq_true_eq]at h;obtain⟨_,h2,_⟩:=h;obtain⟨i,hi,rfl⟩:=cu.1 he;have h3:=h2 i hi;have e:G5 p.es i=p.es[i].r:=by rw[G5,ak,ah hi];rfl
 simp only[Oc,inB,aP,decide_eq_true_eq]at h3;omega
theorem YB{g:bV}{p:Pn}(hA:yu g){r:Int}(hr:fM g.rs r=true):∃b∈tabs g p g.rs,b.r=r:=by obtain⟨x,hx,e⟩:=ay.1 (nI.1 hr);exact⟨nN g p x.id,ay.2 ⟨x,bG.2 ⟨hx,hA x hx⟩,rfl⟩,e⟩
theorem aek{g:bV}{p:Pn}(hV:BH g p (tabs g p g.rs)){r en:Int}(hr:fM g.rs r=true)(he0:0≤en∧en≤1023){W:List Ed}(hW:W.Sublist p.es):
  D_ g p (tabs g p g.rs) r (W.map (·.id)) en=((p.es.filter fun e=>decide (e.id∈W.map (·.id)) && !conn g r e.r).map fun e=>[1,e.r,e.id,0],0):=by
 have hm:∀e∈W,e∈p.es:=fun e he=>hW.subset he
 have hasc:=(xu hV.plan).sublist hW;have h1:asQ (W.map (·.id))=true:=by unfold asQ;rw[KF (by rw[dA];exact hasc)];rfl
 have h2:(W.map (·.id)).any (fun id=>decide (own p id=0))=false:=by rw[dL];intro id hid;obtain⟨e,he,rfl⟩:=ay.1 hid;have:=Ul hV.plan (hm e he);rw[J4 hV.plan (hm e he)];simp;omega
 have hb:Gy p (W.map (·.id))=0:=by unfold Gy;rw[hV.plan,h1,h2];simp
 have hO:(W.map (·.id)).find? (fun id=>decide (qI (tabs g p g.rs) r id en 63≠0))=none:=by rw[iW];intro id hid;obtain⟨e,he,rfl⟩:=ay.1 hid;obtain⟨b,hb,rfl⟩:=YB (p:=p) hV.cap hr;rw[hV.one hb (hm e he) he0 ⟨by omega,by omega⟩];simp
 unfold D_;rw[hb,hO,hV.ok];simp only[ne_eq,not_true_eq_false,if_false];unfold vI;rw[hb,if_pos rfl];have hA:(W.map (·.id)).map (zW (tabs g p g.rs) r en)=W.map (DZ (tabs g p g.rs) (en%8) r):=by rw[bQ];rfl
 rw[hA,Gz hV.ok hV.cap hV.plan hr (en%8) hW]
 congr 2
 conv=>lhs;rw[acy (xu hV.plan) hW]
 rw[iM];apply eu;intro e _;rw[ny]
set_option maxRecDepth 100000
set_option maxHeartbeats 16000000
theorem acG(L:List Int)(hL:∀x∈L,I64 x):Contract Tryz.prog 14 [.d (ints L)] [] (.d (.bool true)) [] []:=by
 have kT:dW (L.take 2000,0):=EZ L hL;have hc0:=TM L;generalize (L.take 2000,0)=T0 at kT hc0;obtain⟨h1,h2,h3,h4⟩:=BX T0 (most:=7) (by omega);have hc1:=Hw T0 kT 7 (by omega);have kA:dW (Az T0 7).2:=by simpa using kT
 generalize Az T0 7=A at h1 h2 h3 h4 hc1 kA;obtain⟨g,T1⟩:=A;simp only at h1 h2 h3 h4 hc1 kA;obtain⟨p1,p2,p3,p4,p5,p6⟩:=y8 h1 (by omega) T1;have hc2:=MO T1 kA g (by omega);have kB:dW (rH g.rs T1).2:=by simpa using kA
 generalize rH g.rs T1=B at p1 p2 p3 p4 p5 p6 hc2 kB;obtain⟨p,T2⟩:=B;simp only at p1 p2 p3 p4 p5 p6 hc2 kB;have hc3:=IC g (gY h1).sm p (by omega);rw[BI h1 p1]at hc3
 have hV:BH g p (tabs g p g.rs):=⟨h1,h2,⟨h3,by omega⟩,p1,p4,p6,⟨p2,p3⟩,p5,Gq.init h1 p1⟩
 have hsm:=hV.sm;have hgs:g.Sm:=(gY h1).sm;have hN:=jR T2 kB g.rs.length ⟨by omega,by omega⟩;have n1:=eX T2 g.rs.length;have n2:=iR T2 (n:=g.rs.length) (by omega);have kN:dW (bH T2 g.rs.length).2:=by simpa using kB
 generalize bH T2 (g.rs.length:Int)=N at hN n1 n2 kN;obtain⟨k',T3⟩:=N;simp only at hN n1 n2 kN;obtain⟨k,rfl⟩:∃k:Nat,k'=k:=⟨k'.toNat,by omega⟩
 have hkr:g.rs[k]? = some (g.rs[k]'(by omega)):=ah (by omega);have hkm:g.rs[k]'(by omega)∈g.rs:=aB _;generalize g.rs[k]'(by omega)=x at hkr hkm;have hr:fM g.rs x.id=true:=nI.2 (ay.2 ⟨x,hkm,rfl⟩);have hI:=ahf T3 kN p (by omega);have kI:dW (y7 p.es [] T3).2:=by simpa using kN
 obtain⟨W,hW,hWe⟩:=BU p.es [] T3;rw[gW]at hWe
 generalize y7 p.es [] T3=I at hI kI hWe;obtain⟨ids,T4⟩:=I;simp only at hI kI hWe;have hE:=jR T4 kI 1024 ⟨by omega,by omega⟩;have e1:=eX T4 1024;have e2:=iR T4 (n:=1024) (by omega);have kE:dW (bH T4 1024).2:=by simpa using kI
 generalize bH T4 1024=E at hE e1 e2 kE;obtain⟨en,T5⟩:=E;simp only at hE e1 e2 kE;have hWl:=hW.length_le;have hil:ids.length≤7:=by rw[hWe,aN];omega
 have hi64:∀y∈ids,I64 y:=fun y hy=>by
  rw[hWe]at hy
  obtain⟨e,he,rfl⟩:=ay.1 hy;have:=H8 p1 (hW.subset he);exact⟨by omega,by omega⟩
 have hC:=UN g hgs p (by omega) (tabs g p g.rs) (.inl hsm) x.id ids (by omega) hi64 en;have hCv:=aek hV hr ⟨e1,by omega⟩ hW;rw[←hWe]at hCv
 rw[hCv]at hC
 have hin:=fun y=>adf ids (by omega) y
 have hcn:=fun b=>U4 g hgs x.id b
 have haw:=D6;generalize tabs g p g.rs=l at hc3 hsm hC;obtain⟨q,hq⟩:∃q:Ed→Bool,q=fun e=>decide (e.id∈ids) && !conn g x.id e.r:=⟨_,rfl⟩
 rw[←hq]at hC
 have hqe:∀e,q e=(decide (e.id∈ids) && !conn g x.id e.r):=fun e=>by rw[hq]
 have hft:=fun (i:Nat) (e:Ed) (h:p.es[i]? = some e)=>aeB (q:=q) h
 have hfl:=fun (i:Nat) (e:Ed) (h:p.es[i]? = some e) (hh:q e=true)=>ai3 (q:=q) h hh
 have hfa:=fun (i:Nat) (e:Ed) (h:p.es[i]? = some e)=>ac2 (q:=q) h
 obtain⟨CN,hCN⟩:∃CN:Nat→Nat,CN=fun i=>((p.es.take i).filter q).length:=⟨_,rfl⟩
 have hC0:CN 0=0:=by rw[hCN];simp
 have hCt:∀i e,p.es[i]? = some e→CN (i+1)=CN i+if q e=true then 1 else 0:=fun i e h=>by rw[hCN];exact hft i e h
 have hCl:∀i e,p.es[i]? = some e→q e=true→CN i<(p.es.filter q).length:=fun i e h hh=>by rw[hCN];exact hfl i e h hh
 have hCa:∀i e,p.es[i]? = some e→(p.es.filter q)[CN i]? = if q e=true then some e else((p.es.drop (i+1)).filter q)[0]? :=fun i e h=>by rw[hCN];exact hfa i e h
 have hCe:CN p.es.length=(p.es.filter q).length:=by rw[hCN];simp
 have hCb:∀i,CN i≤7:=fun i=>by rw[hCN];exact aY (aQ _ _) ((by rw[bF];omega))
 clear hft hfl hfa hCN hq hCv;generalize hFF:p.es.filter q=FF at hC hCl hCa hCe;have Qb:FF.length≤7:=by rw[←hFF];exact aY (aQ _ _) p5
 clear hFF;simp only[d_,iE,ints]at hC hI hin hcn;simp only[d_,iE,allT,ints]at hc0 hc1 hc2 hc3;rw[show ∀m:List Tb,List.map Tb.cs m=ig m from fun _=>rfl]at hc3
 refine aC Tryz.func14 rfl (fun E0=>?_);refine iK.sound (g:=.mk) (ow:=[]) (kp:=(kb 0x100010007a0000000005f7d)) ?_;rw[Tryz.ntmps14];simp -dsimp[ints];refine aF.of hc0 [] 3000 ?_;simp -dsimp;and_intros;all_goals try first|rfl|omega|exact⟨by kernel_rfl⟩
 refine aF.of hc1 [.o 3009] 0 ?_;simp -dsimp;and_intros;all_goals try first|rfl|omega|exact⟨by kernel_rfl⟩
 refine aF.of hc2 [.o 3009] 0 ?_;simp -dsimp;and_intros;all_goals try first|rfl|omega|exact⟨by kernel_rfl⟩
 refine aF.of hc3 [] 0 ?_;have hkz:(k:Int)<g.rs.length:=by omega
 simp -dsimp;and_intros;all_goals try first|rfl|omega|exact⟨by kernel_rfl⟩
 refine aF.of hN [.o 3009] 0 ?_;have ajg:(rts g.rs)[k]? = some [D.int .i64 x.id,D.bool x.cap]:=by simp[rts,hkr,Rt.cs]
 have avQ:∀h:k<(rts g.rs).length,(rts g.rs)[k]'h = [D.int .i64 x.id,D.bool x.cap]:=fun h=>Option.some.inj ((ah h).symm.trans ajg)
 simp -dsimp[hkz,ajg];and_intros;all_goals try first|rfl|omega|exact⟨by kernel_rfl⟩
 refine aF.of hI [.o 3009] 0 ?_;simp -dsimp;and_intros;all_goals try first|rfl|omega|exact⟨by kernel_rfl⟩
 refine aF.of hE [.o 3009] 0 ?_;simp -dsimp;and_intros;all_goals try first|rfl|omega|exact⟨by kernel_rfl⟩
 refine aF.of hC [] 0 ?_;simp -dsimp;and_intros;all_goals try first|rfl|omega|exact⟨by kernel_rfl⟩
 refine bY.of [] (kb 0x100010007a0000000005f7d) (ι:={i:Nat // i≤p.es.length})
  (fun z=>[(.o 4,It.box [TV.d (.sl (rts g.rs)),TV.d (.sl (pq g.ls))]),(.s 4,It.v (.ptr (.o 4) 0)),(.o 5,It.box [TV.d (.int .i64 p.gU),TV.d (.int .i64 p.len),TV.d (.sl (lX p.es))]),(.s 5,It.v (.ptr (.o 5) 0)),(.s 8,It.v (.d (.int .i64 x.id))),(.s 9,It.v (.d (ints ids))),(.s 10,It.v (.d (.sl (lC (FF.map fun e=>[1,e.r,e.id,0]))))),(.s 12,It.v (.d (.int .i64 (CN z.1)))),
   (.s 55,It.v (.d (.sl (lX p.es)))),(.s 56,It.v (.d (.int .i64 p.es.length))),(.s 57,It.v (.d (.int .i64 z.1)))])
  (fun z=>p.es.length-z.1) ⟨0,by omega⟩ ?_ ?_
 ·exact GS.to (by simp[ints,hC0])
 rintro⟨i,i1⟩;by_cases hi:i<p.es.length
 ·have hiz:(i:Int)<p.es.length:=by omega
  have hx:p.es[i]? = some p.es[i]:=ah hi;generalize p.es[i]=e at hx;have hx':(lX p.es)[i]? = some [D.int .i64 e.r,D.int .i64 e.id]:=by simp[lX,hx,Ed.cs]
  have w1:IntKind.i64.wrap ((i:Int)+1)=(i:Int)+1:=wrap_i64 (by omega) (by omega);have t1:=hCt i e hx;have t2:=hCl i e hx;have t3:=hCa i e hx;have t4:=hqe e;have t5:=hCb i;by_cases c1:e.id∈ids
  ·cases c2:conn g x.id e.r with
   | true=>
     simp only[c1,c2,decide_true,oq,pK]at t4;rw[t4]at t1
     simp only[bI,if_false,lW]at t1;simp -dsimp[hiz,hx',ints];and_intros;all_goals try first|rfl|omega|exact⟨by kernel_rfl⟩
     refine aF.of (hin e.id) [] 0 ?_;simp -dsimp[pY,c1];and_intros;all_goals try first|rfl|omega|exact⟨by kernel_rfl⟩
     refine aF.of (hcn e.r) [] 0 ?_;simp -dsimp[c2,w1];and_intros;all_goals try first|rfl|omega|exact⟨by kernel_rfl⟩
     exact⟨⟨i+1,by omega⟩,GS.to (by simp[ints,t1]),by simp;omega⟩
   | false=>
     simp only[c1,c2,decide_true,j_,l7]at t4;rw[t4]at t1 t2 t3
     simp only[if_true]at t1 t3;have t2:=t2 rfl;have w2:IntKind.i64.wrap ((CN i:Int)+1)=(CN i:Int)+1:=wrap_i64 (by omega) (by omega);have t2z:(CN i:Int)<FF.length:=by omega
     have t2n :¬(FF.length:Int)≤CN i:=by omega
     have hf':(lC (FF.map fun e=>[1,e.r,e.id,0]))[CN i]? = some [D.int .i64 1,D.int .i64 e.r,D.int .i64 e.id,D.int .i64 0]:=by simp[lC,t3]
     have abA:(lC (FF.map fun e=>[1,e.r,e.id,0])).length=FF.length:=by simp[lC]
     simp -dsimp[hiz,hx',ints];and_intros;all_goals try first|rfl|omega|exact⟨by kernel_rfl⟩
     refine aF.of (hin e.id) [] 0 ?_;simp -dsimp[pY,c1];and_intros;all_goals try first|rfl|omega|exact⟨by kernel_rfl⟩
     refine aF.of (hcn e.r) [] 0 ?_;simp -dsimp[c2,w1,w2,t2n,t2z,hf',abA];and_intros;all_goals try first|rfl|omega|exact⟨by kernel_rfl⟩
     exact⟨⟨i+1,by omega⟩,GS.to (by simp[ints,t1]),by simp;omega⟩
  ·simp only[c1,decide_false,lF]at t4;rw[t4]at t1
   simp only[bI,if_false,lW]at t1;simp -dsimp[hiz,hx',ints];and_intros;all_goals try first|rfl|omega|exact⟨by kernel_rfl⟩
   refine aF.of (hin e.id) [] 0 ?_;simp -dsimp[pY,c1,w1];and_intros;all_goals try first|rfl|omega|exact⟨by kernel_rfl⟩
   exact⟨⟨i+1,by omega⟩,GS.to (by simp[ints,t1]),by simp;omega⟩
 have hiz :¬(i:Int)<p.es.length:=by omega
 obtain rfl:i=p.es.length:=by omega
 have abA:(lC (FF.map fun e=>[1,e.r,e.id,0])).length=FF.length:=by simp[lC]
 simp -dsimp[hiz,hCe,abA];and_intros;all_goals try first|rfl|omega|exact⟨by kernel_rfl⟩
 refine aF.of haw [] 0 ?_;simp -dsimp;and_intros;all_goals try first|rfl|omega|exact⟨by kernel_rfl⟩
 refine Fin.of ?_;simp
end Go.Proofs

namespace Go.Proofs.YtboimfkommpglaaGreatDoor.verifyReach
open Go
theorem j10:(Rows.verifyReachRow.inPlace==Tryz.prog.inPlace 14)=true:=by kernel_rfl
theorem j11:(Rows.verifyReachRow.unfollowed==Tryz.prog.unfollowed 14)=true:=by kernel_rfl
theorem j12:(Rows.verifyReachRow.recurses==Tryz.prog.recurses 14)=true:=by kernel_rfl
theorem j13:(Rows.verifyReachRow.named==Tryz.prog.varsNamed 14)=true:=by kernel_rfl
theorem j23:(Rows.verifyReachRow.plainKeys==Tryz.prog.plainKeys)=true:=by kernel_rfl
theorem j27:(Rows.verifyReachRow.lifted==Tryz.prog.liftsFinal)=true:=by kernel_rfl
theorem j28:(Tryz.prog.make==some Rows.verifyReachRow.make)=true:=by kernel_rfl
theorem goes:false=Rows.verifyReachRow.goesBy Tryz.prog:=by kernel_rfl
theorem nam : Tryz.prog.funcNamed "bitcast/bitcastlaw36.VerifyReach" = some 14 := by kernel_rfl
set_option maxRecDepth 100000 in
theorem closed:joinedFacts Tryz.prog 14 Tryz.f14 Rows.verifyReachSpec Rows.verifyReachRow=true:=by
 delta joinedFacts
 exact(cf.gX (cf.gX (cf.gX (cf.gX (cf.gX (cf.gX (cf.gX (cf.gX (cf.gX (cf.gX (cf.gX (cf.gX (cf.gX (cf.gX (cf.gX (cf.gX (cf.gX (cf.gX (cf.gX (cf.gX (cf.gX (cf.gX (cf.gX (cf.gX (cf.gX (cf.gX (cf.gX (cf.gX (cf.gX (cf.gX (cf.gX (by kernel_rfl) cf.laidOut) cf.rowed) (by kernel_rfl)) (by kernel_rfl)) (by kernel_rfl)) (by kernel_rfl)) (by kernel_rfl)) (by kernel_rfl)) j10) j11) j12) j13) (by kernel_rfl)) (by kernel_rfl)) (by kernel_rfl)) (by kernel_rfl)) (by kernel_rfl)) (by kernel_rfl)) (by kernel_rfl)) (by kernel_rfl)) (by kernel_rfl)) j23) (by kernel_rfl)) cf.heard) cf.may) j27) j28) (by kernel_rfl)) (by kernel_rfl)) (by kernel_rfl)) (by kernel_rfl))
theorem inst:Tryz.f14.isInstance Tryz.prog Rows.verifyReachRow.origin Rows.verifyReachRow.targs:=of_decide_eq_true (by kernel_rfl)
theorem wrap:Tryz.f14.isWrapper Tryz.prog Rows.verifyReachRow.wrapper Rows.verifyReachRow.mainSum:=by unfold Func.isWrapper;first|(rw[if_pos (by decide+kernel)];kernel_rfl)|(rw[if_neg (by decide+kernel)];exact⟨rfl,rfl⟩)
end Go.Proofs.YtboimfkommpglaaGreatDoor.verifyReach
