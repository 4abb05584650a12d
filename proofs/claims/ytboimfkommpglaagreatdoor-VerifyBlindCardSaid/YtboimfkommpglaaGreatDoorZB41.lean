/-
  What functions of the program compute, stated as contracts over plain data; the conditions of each stand in its own statement.
-/
import Derived.Test.YtboimfkommpglaaGreatDoorZB30
import Derived.Test.YtboimfkommpglaaGreatDoorZB40
import Derived.Test.YtboimfkommpglaaGreatDoorZB31
import Derived.Test.YtboimfkommpglaaGreatDoorZB24
import Derived.Test.YtboimfkommpglaaGreatDoorZB22
import Derived.Test.YtboimfkommpglaaGreatDoorZB21
import Derived.LaidMore
import Derived.Stop.Joined
import Derived.SevenTiedAt
import Derived.JoinedOf
set_option linter.unusedSimpArgs false
set_option linter.unusedVariables false
namespace Go.Proofs
open Go Go.Tr
theorem J4{p:Pn}(hp:iT p=true){e:Ed}(he:e∈p.es):own p e.id=e.r:=by
 have:=Oe hp he
 grind[agx,own]
def DZ(l:List Tb)(pl r:Int)(e:Ed):An:=⟨JR (jM l e.id pl 63 r),(jM l e.id pl 63 r).2.1,e.id,ltE (jM l e.id pl 63 r)⟩
theorem FP{e:Bool×Int×Nat}:JR e=1↔e.1=true:=by simp[JR]
theorem Gz{g:bV}(hg:jE g=0)(hA:yu g){p:Pn}(hp:iT p=true){r:Int}(hr:fM g.rs r=true)(pl:Int){W:List Ed}(hW:W.Sublist p.es):
  BP p (W.map (·.id)) (W.map (DZ (tabs g p g.rs) pl r))=(W.filter fun e=>!conn g r e.r).map fun e=>[1,e.r,e.id,0]:=by
 have hm:∀e∈W,e∈p.es:=fun e he=>hW.subset he
 have hE:∀e∈W,((DZ (tabs g p g.rs) pl r e).kd=1↔conn g r e.r=true)∧((DZ (tabs g p g.rs) pl r e).kd=1→(DZ (tabs g p g.rs) pl r e).rt=e.r):=fun e he=>by obtain⟨h1,h2⟩:=Ec hg hA hp (hm e he) hr pl;exact⟨FP.trans h1,fun h=>h2 (FP.1 h)⟩
 have hasc:=(xu hp).sublist hW;have hd:jS (W.map (DZ (tabs g p g.rs) pl r))=(W.filter fun e=>conn g r e.r).map (DZ (tabs g p g.rs) pl r):=by
  unfold jS;rw[jw]
  congr 1
  apply eu
  simp_all
 have hdi:(jS (W.map (DZ (tabs g p g.rs) pl r))).map (·.id)=(W.filter fun e=>conn g r e.r).map (·.id):=by rw[hd,bQ];rfl
 have hnd:(W.map (·.id)).Nodup:=by refine List.Pairwise.imp (R:=(· < ·)) (fun {a b} h e=>by omega) ?_;rw[dA];exact hasc
 rw[JF (fun a ha=>?_) ?_]
 ·rw[hdi,jw,bQ];have e1:W.filter ((fun id=>!decide (id∈(W.filter fun e=>conn g r e.r).map (·.id)))∘fun e=>e.id)=W.filter fun e=>!conn g r e.r:=by
   apply eu;intro e he;simp only[Function.comp]
   congr 1
   rw[jO,decide_eq_true_eq,ay];constructor
   ·rintro⟨x,hx,hid⟩;obtain⟨x1,x2⟩:=bG.1 hx;rw[xw hp (hm x x1) (hm e he) hid]at x2
    exact x2
   ·intro h;exact⟨e,bG.2 ⟨he,h⟩,rfl⟩
  rw[e1];apply bW;intro e he;simp only[Function.comp];rw[J4 hp (hm e (bG.1 he).1)]
 ·rw[hdi];exact hnd.sublist (jB.map _)
 ·rw[hd]at ha
  obtain⟨e,he,rfl⟩:=ay.1 ha;obtain⟨h1,h2⟩:=bG.1 he;refine⟨ay.2 ⟨e,h1,rfl⟩,?_⟩;rw[(hE e h1).2 ((hE e h1).1.2 h2)];exact(J4 hp (hm e h1)).symm
theorem aes{g:bV}(hg:jE g=0)(hA:yu g){p:Pn}(hp:iT p=true){r:Int}(hr:fM g.rs r=true)(pl:Int):
  jS (p.es.map (DZ (tabs g p g.rs) pl r))=(p.es.filter fun e=>conn g r e.r).map (DZ (tabs g p g.rs) pl r):=by
 unfold jS;rw[jw]
 congr 1
 apply eu;intro e he;rw[jO];simp only[Function.comp,decide_eq_true_eq];exact FP.trans (Ec hg hA hp he hr pl).1
theorem YO{g:bV}(hg:jE g=0)(hA:yu g){p:Pn}(hp:iT p=true){r:Int}(hr:fM g.rs r=true)(pl:Int):
  BP p ((p.es.filter fun e=>conn g r e.r).map (·.id)) ((p.es.filter fun e=>conn g r e.r).map (DZ (tabs g p g.rs) pl r)) = []:=by
 grind[Gz,List.filter_sublist,List.filter_eq_nil_iff]
theorem KF:∀{l:List Int},l.Pairwise (· < ·)→pV (fun x y:Int=>decide (y≤x)) l=false
 | [],_=>rfl
 | [x],_=>rfl
 | x::y::r,h=>by
   have h1:=(fB.1 h).1 y (by simp);have h2:=KF (fB.1 h).2
   grind[pV]
theorem Ul{p:Pn}(h:iT p=true){e:Ed}(he:e∈p.es):1≤e.r∧e.r≤99:=by
 simp only[iT,decide_eq_true_eq]at h;obtain⟨_,h2,_⟩:=h;obtain⟨i,hi,rfl⟩:=cu.1 he;have h3:=h2 i hi;have e:G5 p.es i=p.es[i].r:=by rw[G5,ak,ah hi];rfl
 simp only[Oc,inB,aP,decide_eq_true_eq]at h3;omega
theorem YB{g:bV}{p:Pn}(hA:yu g){r:Int}(hr:fM g.rs r=true):∃b∈tabs g p g.rs,b.r=r:=by obtain⟨x,hx,e⟩:=ay.1 (nI.1 hr);exact⟨nN g p x.id,ay.2 ⟨x,bG.2 ⟨hx,hA x hx⟩,rfl⟩,e⟩
set_option maxRecDepth 100000
set_option maxHeartbeats 16000000
theorem GS.anM{A:jL}{l:List (Pl×It)}(k:Nat)(e z:Nat)(hk:Tr.look l (.s k) = .v (.c (.slice none 0 0)))(ho:Tr.look l (.o k) = .none):
  GS A (Tr.look l) (Tr.look (oC (.s k) (.v (.bK k 0)) (oC (.o k) (.row e z [] false) l))):=by
 have:=GS.own (A:=A) e z hk ho
 simp_all
theorem aiI{p:Pn}(hp:iT p=true){W:List Ed}(hW:W.Sublist p.es):Gy p (W.map (·.id))=0:=by
 have hm:∀e∈W,e∈p.es:=by grind
 have hasc:=(xu hp).sublist hW;have h1:asQ (W.map (·.id))=true:=by unfold asQ;rw[KF (by rw[dA];exact hasc)];rfl
 have h2:(W.map (·.id)).any (fun id=>decide (own p id=0))=false:=by
  rw[dL];intro id hid;obtain⟨e,he,rfl⟩:=ay.1 hid;have:=Ul hp (hm e he)
  grind[J4]
 grind[Gy]
theorem aed{g:bV}(hg:jE g=0)(hA:yu g){p:Pn}(hp:iT p=true){r:Int}(hr:fM g.rs r=true)(en:Int){M:List An}
  (hM:jS M=jS (p.es.map fun e=>zW (tabs g p g.rs) r en e.id)):vI p ((p.es.filter fun e=>decide ((zW (tabs g p g.rs) r en e.id).kd=1)).map (·.id)) M=([],0):=by
 have e0:(p.es.filter fun e=>decide ((zW (tabs g p g.rs) r en e.id).kd=1))=p.es.filter fun e=>conn g r e.r:=eu fun e he=>by rw[jO,decide_eq_true_eq];exact FP.trans (Ec hg hA hp he hr (en%8)).1
 unfold vI;rw[e0,aiI hp jB,if_pos rfl,ael,hM];have e1:(p.es.map fun e=>zW (tabs g p g.rs) r en e.id)=p.es.map (DZ (tabs g p g.rs) (en%8) r):=rfl
 grind[aes,YO]
theorem acF(L:List Int)(hL:∀x∈L,I64 x):Contract Tryz.prog 12 [.d (ints L)] [] (.d (.bool true)) [] []:=by
 have kT:dW (L.take 2000,0):=EZ L hL;have hc0:=TM L;generalize (L.take 2000,0)=T0 at kT hc0;obtain⟨h1,h2,h3,h4⟩:=BX T0 (most:=6) (by omega);have hc1:=Hw T0 kT 6 (by omega);have kA:dW (Az T0 6).2:=by simpa using kT
 generalize Az T0 6=A at h1 h2 h3 h4 hc1 kA;obtain⟨g,T1⟩:=A;simp only at h1 h2 h3 h4 hc1 kA;obtain⟨p1,p2,p3,p4,p5,p6⟩:=y8 h1 (by omega) T1;have hc2:=MO T1 kA g (by omega);have kB:dW (rH g.rs T1).2:=by simpa using kA
 generalize rH g.rs T1=B at p1 p2 p3 p4 p5 p6 hc2 kB;obtain⟨p,T2⟩:=B;simp only at p1 p2 p3 p4 p5 p6 hc2 kB;have hc3:=IC g (gY h1).sm p (by omega);rw[BI h1 p1]at hc3
 have hV:BH g p (tabs g p g.rs):=⟨h1,h2,⟨h3,by omega⟩,p1,p4,p6,⟨p2,p3⟩,p5,Gq.init h1 p1⟩
 have hsm:=hV.sm;have hgs:g.Sm:=(gY h1).sm;have hN:=jR T2 kB g.rs.length ⟨by omega,by omega⟩;have n1:=eX T2 g.rs.length;have n2:=iR T2 (n:=g.rs.length) (by omega);have kN:dW (bH T2 g.rs.length).2:=by simpa using kB
 generalize bH T2 (g.rs.length:Int)=N at hN n1 n2 kN;obtain⟨k',T3⟩:=N;simp only at hN n1 n2 kN;obtain⟨k,rfl⟩:∃k:Nat,k'=k:=⟨k'.toNat,by omega⟩
 have hkr:g.rs[k]? = some (g.rs[k]'(by omega)):=ah (by omega);have hkm:g.rs[k]'(by omega)∈g.rs:=aB _;generalize g.rs[k]'(by omega)=x at hkr hkm;have hr:fM g.rs x.id=true:=nI.2 (ay.2 ⟨x,hkm,rfl⟩);have hb1:=fun (M:List An) hM=>aed (M:=M) h1 h2 p1 hr 5 hM
 obtain⟨b,hb,hbr⟩:=YB (p:=p) h2 hr;have hone:∀e∈p.es,qI (tabs g p g.rs) x.id e.id 5 63=0:=fun e he=>by rw[←hbr];exact hV.one hb he ⟨by omega,by omega⟩ ⟨by omega,by omega⟩
 obtain⟨A,hA⟩:∃A:Ed→An,A=fun e=>zW (tabs g p g.rs) x.id 5 e.id:=⟨_,rfl⟩
 have hAi:∀e,(A e).id=e.id:=fun e=>by rw[hA];rfl
 have hO:∀e∈p.es,Contract Tryz.prog 60 [.d (.sl (ig (tabs g p g.rs))),.d (.int .i64 x.id),.d (.int .i64 e.id),.d (.int .i64 5),.d (.int .i64 63)] [] (.sZ [.agg [.d (.int .i64 (A e).kd),.d (.int .i64 (A e).rt),.d (.int .i64 (A e).id),.d (.int .i64 (A e).tl)],.d (.int .i64 0)]) [] []:=fun e he=>by
  have:=MJ (tabs g p g.rs) (.inl hsm) x.id e.id 5 63;rw[hone e he]at this
  rw[hA];simpa[uX,zW]using this
 have hAe:(p.es.map fun e=>zW (tabs g p g.rs) x.id 5 e.id)=p.es.map A:=by rw[hA]
 have hqe:(p.es.filter fun e=>decide ((zW (tabs g p g.rs) x.id 5 e.id).kd=1))=p.es.filter fun e=>decide ((A e).kd=1):=by rw[hA]
 rw[hAe,hqe]at hb1
 clear hA hAe hqe hone hb hbr;obtain⟨q,hq⟩:∃q:Ed→Bool,q=fun e=>decide ((A e).kd=1):=⟨_,rfl⟩
 rw[←hq]at hb1
 have hqt:∀e,(A e).kd=1→q e=true:=fun e h=>by rw[hq];simpa using h
 have hqf:∀e,(A e).kd≠1→q e=false:=fun e h=>by rw[hq];simpa using h
 have hdq:jS (p.es.map A)=jS ((p.es.filter q).map A):=by
  unfold jS;rw[jw,jw,iM]
  congr 1
  apply eu;intro e _;rw[hq];simp
 clear hq;have Qb:(p.es.filter q).length≤7:=aY (aQ _ _) p5;have h64:∀e∈p.es,I64 e.id:=fun e he=>by have:=H8 p1 he;exact⟨by omega,by omega⟩
 have ajf:((p.es.filter q).map (·.id)).length≤1000000:=by rw[aN];omega
 have hC1:=vU p (by omega) ((p.es.filter q).map (·.id)) ajf ((p.es.filter q).map A) (by rw[aN];omega) (fun a ha=>by
  obtain⟨e,he,rfl⟩:=ay.1 ha;rw[hAi];exact h64 e (bG.1 he).1)
 rw[hb1 _ hdq.symm]at hC1
 have hC2:∀M:List An,M.length≤1000000→(∀a∈M,I64 a.id)→jS M=jS (p.es.map A)→Contract Tryz.prog 62 [iE p,.d (ints ((p.es.filter q).map (·.id))),.d (.sl (ans M))] [] (.sZ [.d (.sl (lC [])),.d (.int .i64 0)]) [] []:=fun M m1 m2 m3=>by
  have:=vU p (by omega) ((p.es.filter q).map (·.id)) ajf M m1 m2;rw[hb1 _ m3]at this
  exact this
 have haw:=D6;generalize tabs g p g.rs=l at hc3 hsm hO;clear hb1;simp only[d_,iE,ints]at hC1 hC2;simp only[d_,iE,allT,ints]at hc0 hc1 hc2 hc3;rw[show ∀m:List Tb,List.map Tb.cs m=ig m from fun _=>rfl]at hc3
 refine aC Tryz.func12 rfl (fun E0=>?_);refine iK.sound (g:=.mk) (ow:=[]) (kp:=(kb 0x4800f000000fef7d)) ?_;rw[Tryz.ntmps12];simp -dsimp[ints];refine aF.of hc0 [] 3000 ?_;simp -dsimp;and_intros;all_goals try first|rfl|omega|exact⟨by kernel_rfl⟩
 refine aF.of hc1 [.o 3009] 0 ?_;simp -dsimp;and_intros;all_goals try first|rfl|omega|exact⟨by kernel_rfl⟩
 refine aF.of hc2 [.o 3009] 0 ?_;simp -dsimp;and_intros;all_goals try first|rfl|omega|exact⟨by kernel_rfl⟩
 refine aF.of hc3 [] 0 ?_;have hkz:(k:Int)<g.rs.length:=by omega
 simp -dsimp;and_intros;all_goals try first|rfl|omega|exact⟨by kernel_rfl⟩
 refine aF.of hN [.o 3009] 0 ?_;have ajg:(rts g.rs)[k]? = some [D.int .i64 x.id,D.bool x.cap]:=by simp[rts,hkr,Rt.cs]
 simp -dsimp[hkz,ajg];and_intros;all_goals try first|rfl|omega|exact⟨by kernel_rfl⟩
 refine bY.of [] (kb 0x4800f000000fef7d) (ι:={z:Nat×List An×Tp // z.1≤p.es.length∧dW z.2.2∧z.2.1.length=2*z.1∧(∀a∈z.2.1,I64 a.id)∧jS z.2.1=jS ((p.es.take z.1).map A)})
  (fun z=>[(.o 3009,iG z.1.2.2),(.s 3,It.v (.ptr (.o 3009) 0)),(.o 5,It.box [TV.d (.int .i64 p.gU),TV.d (.int .i64 p.len),TV.d (.sl (lX p.es))]),(.s 5,It.v (.ptr (.o 5) 0)),(.s 6,It.v (.d (.sl (ig l)))),(.s 8,It.v (.d (.int .i64 x.id))),
   (.s 9,It.v (.bK 9 ((p.es.take z.1.1).filter q).length)),(.o 9,It.row 120 4 (dd (ans (((p.es.take z.1.1).filter q).map A))) false),(.s 10,It.v (.bK 10 z.1.2.1.length)),(.o 10,It.row 120 4 (dd (ans z.1.2.1)) false),
   (.s 11,It.v (.bK 11 ((p.es.take z.1.1).filter q).length)),(.o 11,It.row 3 1 (dd (fE .i64 (((p.es.take z.1.1).filter q).map (·.id)))) false),
   (.s 44,It.v (.d (.sl (lX p.es)))),(.s 45,It.v (.d (.int .i64 p.es.length))),(.s 46,It.v (.d (.int .i64 z.1.1)))])
  (fun z=>p.es.length-z.1.1) ⟨(0,[],T3),by omega,kN,by simp,by simp,by simp⟩ ?_ ?_
 ·exact(GS.anM 9 120 4 (by simp) (by simp)).trans ((GS.anM 10 120 4 (by simp) (by simp)).trans (GS.own' (k:=11) 3 1 (by simp) (by simp) (by simp[ans,fE])))
 rintro⟨⟨i,M,T4⟩,i1,i2,i3,i4,i5⟩;simp only at i1 i2 i3 i4 i5;by_cases hi:i<p.es.length
 ·have hiz:(i:Int)<p.es.length:=by omega
  have hx:p.es[i]? = some p.es[i]:=ah hi;have hm:=aB hi;have ht:p.es.take (i+1)=p.es.take i++[p.es[i]]:=by rw[aO,hx];rfl
  generalize p.es[i]=e at hx hm ht;have hx':(lX p.es)[i]? = some [D.int .i64 e.r,D.int .i64 e.id]:=by simp[lX,hx,Ed.cs]
  have w1:IntKind.i64.wrap ((i:Int)+1)=(i:Int)+1:=wrap_i64 (by omega) (by omega);have hfl:((p.es.take i).filter q).length≤7:=aY (aQ _ _) (by rw[bF];omega);have r1:=uZ T4 1 9;have r2:=uY T4 (a:=1) (b:=9) (by omega);have r3:=uZ (kD T4 1 9).2 0 9;have r4:=uY (kD T4 1 9).2 (a:=0) (b:=9) (by omega)
  have hR1:=EN T4 i2 1 9 ⟨by omega,by omega⟩ ⟨by omega,by omega⟩ ⟨by omega,by omega⟩ ⟨by omega,by omega⟩;have hR2:=EN (kD T4 1 9).2 (by simpa using i2) 0 9 ⟨by omega,by omega⟩ ⟨by omega,by omega⟩ ⟨by omega,by omega⟩ ⟨by omega,by omega⟩;have kR:dW (kD (kD T4 1 9).2 0 9).2:=by simpa using i2
  generalize kD T4 1 9=P1 at r1 r2 r3 r4 hR1 hR2 kR;obtain⟨u1,T5⟩:=P1;simp only at r1 r2 r3 r4 hR1 hR2 kR;generalize kD T5 0 9=P2 at r3 r4 hR2 kR;obtain⟨u2,T6⟩:=P2;simp only at r3 r4 hR2 kR;have hd1:∀z:An,z.kd≠1→jS (M++[A e,z])=jS ((p.es.take (i+1)).map A):=fun z hz=>by
   rw[ht,fH];unfold jS at i5⊢;rw[bJ,bJ,i5]
   congr 1
   simp only[aH,dY,dD,List.filter_nil];simp[hz]
  have hd2:=hd1 ⟨2,u1,u2,0⟩ (by simp);have ana:∀a∈M++[A e,⟨2,u1,u2,0⟩],I64 a.id:=fun a ha=>by
   rcases aJ.1 ha with h|h
   ·exact i4 a h
   ·simp only[aG,fP,or_false]at h;rcases h with rfl|rfl
    ·rw[hAi];exact h64 e hm
    ·exact⟨by simp only;omega,by simp only;omega⟩
  have hMl:(M++[A e,⟨2,u1,u2,0⟩]).length=2*(i+1):=by simp;omega
  simp -dsimp[hiz,hx',ints];and_intros;all_goals try first|rfl|omega|exact⟨by kernel_rfl⟩
  refine aF.of (hO e hm) [] 0 ?_;by_cases c:(A e).kd=1
  ·have hqe:=hqt e c;simp -dsimp[eq_true c,wJ];and_intros;all_goals try first|rfl|omega|exact⟨by kernel_rfl⟩
   refine aF.of hR1 [.o 3009] 0 ?_;simp -dsimp;and_intros;all_goals try first|rfl|omega|exact⟨by kernel_rfl⟩
   refine aF.of hR2 [.o 3009] 0 ?_;simp -dsimp[w1,wJ];and_intros;all_goals try first|rfl|omega|exact⟨by kernel_rfl⟩
   exact⟨⟨(i+1,M++[A e,⟨2,u1,u2,0⟩],T6),by omega,kR,hMl,ana,hd2⟩,GS.to (by simp[ht,hqe,ans,BJ,fE,hAi,c]),by simp;omega⟩
  ·have hqe:=hqf e c;simp -dsimp[eq_false c,wJ];and_intros;all_goals try first|rfl|omega|exact⟨by kernel_rfl⟩
   refine aF.of hR1 [.o 3009] 0 ?_;simp -dsimp;and_intros;all_goals try first|rfl|omega|exact⟨by kernel_rfl⟩
   refine aF.of hR2 [.o 3009] 0 ?_;simp -dsimp[w1,wJ];and_intros;all_goals try first|rfl|omega|exact⟨by kernel_rfl⟩
   exact⟨⟨(i+1,M++[A e,⟨2,u1,u2,0⟩],T6),by omega,kR,hMl,ana,hd2⟩,GS.to (by simp[ht,hqe,ans,BJ,fE,hAi,c]),by simp;omega⟩
 have hiz :¬(i:Int)<p.es.length:=by omega
 obtain rfl:i=p.es.length:=by omega
 rw[bP]at i5
 have hM:=hC2 M (by omega) i4 i5;have e1:((p.es.filter q).map A).length=(p.es.filter q).length:=by simp
 simp -dsimp[hiz,bP];and_intros;all_goals try first|rfl|omega|exact⟨by kernel_rfl⟩
 refine aF.of hC1 [] 0 ?_;simp -dsimp;and_intros;all_goals try first|rfl|omega|exact⟨by kernel_rfl⟩|(show fE _ _=_;simp[fE])
 refine aF.of hM [] 0 ?_;simp -dsimp[lC];and_intros;all_goals try first|rfl|omega|exact⟨by kernel_rfl⟩|(show fE _ _=_;simp[fE])
 refine aF.of haw [] 0 ?_;simp -dsimp;and_intros;all_goals try first|rfl|omega|exact⟨by kernel_rfl⟩
 refine Fin.of ?_;simp
end Go.Proofs

namespace Go.Proofs.YtboimfkommpglaaGreatDoor.verifyBlind
open Go
theorem j10:(Rows.verifyBlindRow.inPlace==Tryz.prog.inPlace 12)=true:=by kernel_rfl
theorem j11:(Rows.verifyBlindRow.unfollowed==Tryz.prog.unfollowed 12)=true:=by kernel_rfl
theorem j12:(Rows.verifyBlindRow.recurses==Tryz.prog.recurses 12)=true:=by kernel_rfl
theorem j13:(Rows.verifyBlindRow.named==Tryz.prog.varsNamed 12)=true:=by kernel_rfl
theorem j23:(Rows.verifyBlindRow.plainKeys==Tryz.prog.plainKeys)=true:=by kernel_rfl
theorem j27:(Rows.verifyBlindRow.lifted==Tryz.prog.liftsFinal)=true:=by kernel_rfl
theorem j28:(Tryz.prog.make==some Rows.verifyBlindRow.make)=true:=by kernel_rfl
theorem goes:false=Rows.verifyBlindRow.goesBy Tryz.prog:=by kernel_rfl
theorem nam : Tryz.prog.funcNamed "bitcast/bitcastlaw36.VerifyBlind" = some 12 := by kernel_rfl
set_option maxRecDepth 100000 in
theorem closed:joinedFacts Tryz.prog 12 Tryz.f12 Rows.verifyBlindSpec Rows.verifyBlindRow=true:=by
 delta joinedFacts
 exact(cf.gX (cf.gX (cf.gX (cf.gX (cf.gX (cf.gX (cf.gX (cf.gX (cf.gX (cf.gX (cf.gX (cf.gX (cf.gX (cf.gX (cf.gX (cf.gX (cf.gX (cf.gX (cf.gX (cf.gX (cf.gX (cf.gX (cf.gX (cf.gX (cf.gX (cf.gX (cf.gX (cf.gX (cf.gX (cf.gX (cf.gX (by kernel_rfl) cf.laidOut) cf.rowed) (by kernel_rfl)) (by kernel_rfl)) (by kernel_rfl)) (by kernel_rfl)) (by kernel_rfl)) (by kernel_rfl)) j10) j11) j12) j13) (by kernel_rfl)) (by kernel_rfl)) (by kernel_rfl)) (by kernel_rfl)) (by kernel_rfl)) (by kernel_rfl)) (by kernel_rfl)) (by kernel_rfl)) (by kernel_rfl)) j23) (by kernel_rfl)) cf.heard) cf.may) j27) j28) (by kernel_rfl)) (by kernel_rfl)) (by kernel_rfl)) (by kernel_rfl))
theorem inst:Tryz.f12.isInstance Tryz.prog Rows.verifyBlindRow.origin Rows.verifyBlindRow.targs:=of_decide_eq_true (by kernel_rfl)
theorem wrap:Tryz.f12.isWrapper Tryz.prog Rows.verifyBlindRow.wrapper Rows.verifyBlindRow.mainSum:=by unfold Func.isWrapper;first|(rw[if_pos (by decide+kernel)];kernel_rfl)|(rw[if_neg (by decide+kernel)];exact⟨rfl,rfl⟩)
end Go.Proofs.YtboimfkommpglaaGreatDoor.verifyBlind
