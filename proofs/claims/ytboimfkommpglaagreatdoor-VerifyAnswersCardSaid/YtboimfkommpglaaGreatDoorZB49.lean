/-
  What functions of the program compute, stated as contracts over plain data; the conditions of each stand in its own statement.
-/
import Derived.Test.YtboimfkommpglaaGreatDoorZB31
import Derived.Test.YtboimfkommpglaaGreatDoorZB30
import Derived.Test.YtboimfkommpglaaGreatDoorZB21
import Derived.Test.YtboimfkommpglaaGreatDoorZB22
import Derived.Test.YtboimfkommpglaaGreatDoorZB24
import Derived.Test.YtboimfkommpglaaGreatDoorZB48
import Derived.LaidMore
import Derived.Stop.Joined
import Derived.SevenTiedAt
import Derived.JoinedOf
set_option linter.unusedSimpArgs false
set_option linter.unusedVariables false
set_option maxRecDepth 100000
set_option maxHeartbeats 16000000
namespace Go.Proofs
open Go Go.Tr
theorem aem(p:Pn)(ids:List Int)(l:List An):∀x∈BP p ids l,x.length=4:=fun x hx=>by unfold BP at hx;simp only[aJ,ay]at hx;rcases hx with⟨_,_,rfl⟩|⟨_,_,rfl⟩|⟨_,_,rfl⟩|⟨_,_,rfl⟩<;>rfl
theorem aen(p:Pn)(ids:List Int)(l:List An):(BP p ids l).length≤ids.length+3*l.length:=by
 unfold BP;have h1:=aQ (fun id=>!decide (id∈oz l)) ids;have h2:=aQ (fun id=>!decide (id∈ids)) (oz l);have h3:=aQ (fun id=>decide (1<(jF l id).length)) (oz l);have h4:=aQ (fun a:An=>decide (a.rt≠own p a.id)) (jS l);have h5:=Ad l;have h6:(jS l).length≤l.length:=aQ _ _
 simp only[aS,aN];omega
theorem Xt(p:Pn)(ids:List Int)(l:List An):(∀x∈(vI p ids l).1,x.length=4)∧(vI p ids l).1.length≤ids.length+3*l.length:=by
 unfold vI;split
 ·exact⟨aem p ids l,aen p ids l⟩
 ·exact⟨by simp,by simp⟩
theorem acM(g:bV)(p:Pn)(l:List Tb)(r:Int)(ids:List Int)(en:Int):(∀x∈(D_ g p l r ids en).1,x.length=4)∧(D_ g p l r ids en).1.length≤4*ids.length:=by
 unfold D_;split
 ·exact⟨by simp,by simp⟩
 ·split
  ·exact⟨by simp,by simp⟩
  ·split
   ·exact⟨by simp,by simp⟩
   ·have:=Xt p ids (ids.map (zW l r en));rw[aN]at this
    exact⟨this.1,by omega⟩
theorem ZM(g:bV)(p:Pn)(l:List Tb):(∀x∈(xQ g p l).1,x.length=4)∧(xQ g p l).1.length≤g.rs.length*p.es.length:=by
 unfold xQ;split
 ·refine⟨fun x hx=>?_,?_⟩
  ·unfold yA Bf at hx;simp only[fG,List.mem_filterMap,fV]at hx;obtain⟨b,_,e,_,v,_,rfl⟩:=hx;rfl
  ·have h1:∀L:List Tb,(L.flatMap fun b=>Bf ((iq l b.r).getD tb0) b p.es).length≤L.length*p.es.length:=fun L=>by
    induction L with
    | nil=>simp
    | cons b L ih=>have h2:(Bf ((iq l b.r).getD tb0) b p.es).length≤p.es.length:=List.length_filterMap_le _ _;rw[gV,aS,aT,dX];omega
   exact aY (h1 _) (nK (CZ g p) (aI _))
 ·exact⟨by simp,by simp⟩
def PDs(p:Pn):List D:=[.int .i64 p.gU,.int .i64 p.len,.sl (lX p.es)]
def ODs(g:bV):List D:=[.sl (rts g.rs),.sl (pq g.ls)]
def WDs(l:List Tb):List D:=[.sl (ig l)]
def YDs(y:List Int):List D:=[ints y]
def ZDs(l:List An):List D:=[.sl (ans l)]
theorem aeD(g:bV)(T:Tp):dW (Jj g T).2=dW T:=by
 unfold Jj;split
 ·simp
 ·split
  ·split<;>simp
  ·split<;>simp
theorem afE(ls:List Lk)(j:Nat)(c:Int):(aay ls j c).length=ls.length:=by unfold aay;split<;>simp
theorem Zl(g:bV)(T:Tp):(Jj g T).1.rs.length≤g.rs.length+1∧(Jj g T).1.ls.length≤g.ls.length+1:=by
 unfold Jj;split
 ·simp
 ·split
  ·split<;>simp[afE]
  ·split
   ·simp;omega
   ·simp;omega
theorem YE(L:List Int)(hL:∀x∈L,I64 x)(g0:bV)(p0:Pn)(l0:List Tb)(hl0:l0.length≤9223372036854775807)(hb0:∀b∈l0,b.rows.length≤9223372036854775807∧∀x∈b.rows,x.nx.length≤9223372036854775807)
  (a0:List An) (ha0:∀a∈a0,I64 a.id) (y0:List Int) (hy0:∀y∈y0,I64 y) (r0 n0:Int) :
  Contract Tryz.prog 13 [.d (ints L),d_ g0,iE p0,.d (.sl (ig l0)),.d (.sl (ans a0)),.d (ints y0),.d (.int .i64 r0),.d (.int .i64 n0)] [] (.d (.bool true)) [] []:=by
 have haw:=D6;have hs1:=aaB g0;have hs2:=ajQ l0 hl0 hb0;simp only[d_]at hs1;by_cases c1:g0.rs.length≤30∧g0.ls.length≤70
 case neg=>
  have hs1:(decide (g0.rs.length≤30)&&decide (g0.ls.length≤70))=false:=by simpa using c1
  have ak9:=aaB g0;rw[hs1]at ak9
  simp only[d_]at ak9;refine aC Tryz.func13 rfl (fun E0=>?_)
  refine iK.sound (g:=.mk) (ow:=[]) (kp:=(kb 0x1000000000000002078781000000f0f0f000020000001000001ffd7d5df06ff)) ?_
  rw[Tryz.ntmps13];simp -dsimp[d_,iE,ints];and_intros;all_goals try first|rfl|omega|exact⟨by kernel_rfl⟩
  refine aF.of ak9 [] 0 ?_;simp -dsimp;and_intros;all_goals try first|rfl|omega|exact⟨by kernel_rfl⟩
  refine aF.of haw [] 0 ?_;simp -dsimp;and_intros;all_goals try first|rfl|omega|exact⟨by kernel_rfl⟩
  refine Fin.of ?_;simp
 rw[show(decide (g0.rs.length≤30)&&decide (g0.ls.length≤70))=true by simpa using c1]at hs1
 obtain⟨c1a,c1b⟩:=c1;cases c2:Yx l0 with
 | false=>
   rw[c2]at hs2
   refine aC Tryz.func13 rfl (fun E0=>?_)
   refine iK.sound (g:=.mk) (ow:=[]) (kp:=(kb 0x1000000000000002078781000000f0f0f000020000001000001ffd7d5df06ff)) ?_
   rw[Tryz.ntmps13];simp -dsimp[d_,iE,ints];and_intros;all_goals try first|rfl|omega|exact⟨by kernel_rfl⟩
   refine aF.of hs1 [] 0 ?_;simp -dsimp;and_intros;all_goals try first|rfl|omega|exact⟨by kernel_rfl⟩
   refine aF.of hs2 [] 0 ?_;simp -dsimp;and_intros;all_goals try first|rfl|omega|exact⟨by kernel_rfl⟩
   refine aF.of haw [] 0 ?_;simp -dsimp;and_intros;all_goals try first|rfl|omega|exact⟨by kernel_rfl⟩
   refine Fin.of ?_;simp
 | true=>
 rw[c2]at hs2
 have hg0:=ai_ c2 hb0;by_cases c3:p0.es.length≤40
 case neg=>
  have P8:(40:Int)<p0.es.length:=by omega
  refine aC Tryz.func13 rfl (fun E0=>?_)
  refine iK.sound (g:=.mk) (ow:=[]) (kp:=(kb 0x1000000000000002078781000000f0f0f000020000001000001ffd7d5df06ff)) ?_
  rw[Tryz.ntmps13];simp -dsimp[d_,iE,ints];and_intros;all_goals try first|rfl|omega|exact⟨by kernel_rfl⟩
  refine aF.of hs1 [] 0 ?_;simp -dsimp;and_intros;all_goals try first|rfl|omega|exact⟨by kernel_rfl⟩
  refine aF.of hs2 [] 0 ?_;simp -dsimp[P8];and_intros;all_goals try first|rfl|omega|exact⟨by kernel_rfl⟩
  refine aF.of haw [] 0 ?_;simp -dsimp;and_intros;all_goals try first|rfl|omega|exact⟨by kernel_rfl⟩
  refine Fin.of ?_;simp
 have P8 :¬(40:Int)<p0.es.length:=by omega
 by_cases c4:a0.length≤60
 case neg=>
  have c4z:(60:Int)<a0.length:=by omega
  refine aC Tryz.func13 rfl (fun E0=>?_)
  refine iK.sound (g:=.mk) (ow:=[]) (kp:=(kb 0x1000000000000002078781000000f0f0f000020000001000001ffd7d5df06ff)) ?_
  rw[Tryz.ntmps13];simp -dsimp[d_,iE,ints];and_intros;all_goals try first|rfl|omega|exact⟨by kernel_rfl⟩
  refine aF.of hs1 [] 0 ?_;simp -dsimp;and_intros;all_goals try first|rfl|omega|exact⟨by kernel_rfl⟩
  refine aF.of hs2 [] 0 ?_;simp -dsimp[P8,c4z,wJ];and_intros;all_goals try first|rfl|omega|exact⟨by kernel_rfl⟩
  refine aF.of haw [] 0 ?_;simp -dsimp;and_intros;all_goals try first|rfl|omega|exact⟨by kernel_rfl⟩
  refine Fin.of ?_;simp
 have c4z :¬(60:Int)<a0.length:=by omega
 by_cases c5:y0.length≤40
 case neg=>
  have c5z:(40:Int)<y0.length:=by omega
  refine aC Tryz.func13 rfl (fun E0=>?_)
  refine iK.sound (g:=.mk) (ow:=[]) (kp:=(kb 0x1000000000000002078781000000f0f0f000020000001000001ffd7d5df06ff)) ?_
  rw[Tryz.ntmps13];simp -dsimp[d_,iE,ints];and_intros;all_goals try first|rfl|omega|exact⟨by kernel_rfl⟩
  refine aF.of hs1 [] 0 ?_;simp -dsimp;and_intros;all_goals try first|rfl|omega|exact⟨by kernel_rfl⟩
  refine aF.of hs2 [] 0 ?_;simp -dsimp[P8,c4z,c5z,wJ];and_intros;all_goals try first|rfl|omega|exact⟨by kernel_rfl⟩
  refine aF.of haw [] 0 ?_;simp -dsimp;and_intros;all_goals try first|rfl|omega|exact⟨by kernel_rfl⟩
  refine Fin.of ?_;simp
 have c5z :¬(40:Int)<y0.length:=by omega
 have kT:dW (L.take 2000,0):=EZ L hL;have hc0:=TM L;generalize (L.take 2000,0)=T0 at kT hc0;obtain⟨h1,h2,h3,h4⟩:=BX T0 (most:=6) (by omega);have hc1:=Hw T0 kT 6 (by omega);have kA:dW (Az T0 6).2:=by simpa using kT
 generalize Az T0 6=A at h1 h2 h3 h4 hc1 kA;obtain⟨g,T1⟩:=A;simp only at h1 h2 h3 h4 hc1 kA;obtain⟨p1,p2,p3,p4,p5,p6⟩:=y8 h1 (by omega) T1;have hc2:=MO T1 kA g (by omega);have kB:dW (rH g.rs T1).2:=by simpa using kA
 generalize rH g.rs T1=B at p1 p2 p3 p4 p5 p6 hc2 kB;obtain⟨p,T2⟩:=B;simp only at p1 p2 p3 p4 p5 p6 hc2 kB;have hc3:=IC g (gY h1).sm p (by omega);rw[BI h1 p1]at hc3
 have hV:BH g p (tabs g p g.rs):=⟨h1,h2,⟨h3,by omega⟩,p1,p4,p6,⟨p2,p3⟩,p5,Gq.init h1 p1⟩
 have hsm:=hV.sm;have hgl:g.ls.length≤900:=by have:=(gY h1).nl;omega
 have hSp:=Np T2 kB g ⟨by omega,by omega⟩ (tabs g p g.rs) hsm;have hS2:=hV.tab.step h1 (by omega) T2;have kS:dW (vT g.rs (tabs g p g.rs) T2).2:=by simpa using kB
 generalize (vT g.rs (tabs g p g.rs) T2).2=T3 at hSp kS;generalize (vT g.rs (tabs g p g.rs) T2).1=S at hSp hS2;obtain⟨l,rt,sid⟩:=S;simp only at hSp hS2;have hls:UY l:=(hS2.YA h1).sm;have hI:=ahf T3 kS p (by omega);have kI:dW (y7 p.es [] T3).2:=by simpa using kS
 obtain⟨W,hW,hWe⟩:=BU p.es [] T3;rw[gW]at hWe
 generalize y7 p.es [] T3=I at hI kI hWe;obtain⟨y1,T4⟩:=I;simp only at hI kI hWe;have hWl:=hW.length_le;have hil:y1.length≤7:=by rw[hWe,aN];omega
 have hi64:∀y∈y1,I64 y:=fun y hy=>by
  rw[hWe]at hy
  obtain⟨e,he,rfl⟩:=ay.1 hy;have:=H8 p1 (hW.subset he);exact⟨by omega,by omega⟩
 have hN8:=jR T4 kI 8 ⟨by omega,by omega⟩;have kN8:dW (bH T4 8).2:=by simpa using kI
 have n1:=eX T4 8;have n2:=iR T4 (n:=8) (by omega);generalize bH T4 8=N8 at hN8 kN8 n1 n2;obtain⟨mx',T5⟩:=N8;simp only at hN8 kN8 n1 n2;obtain⟨mx,rfl⟩:∃m:Nat,mx'=m:=⟨mx'.toNat,by omega⟩
 generalize tabs g p g.rs=lr at hc3 hSp hsm;simp only[d_,iE,allT,ints]at hc0 hc1 hc2 hc3 hSp hI;rw[show ∀m:List Tb,List.map Tb.cs m=ig m from fun _=>rfl]at hc3
 refine aC Tryz.func13 rfl (fun E0=>?_)
 refine iK.sound (g:=.mk) (ow:=[]) (kp:=(kb 0x1000000000000002078781000000f0f0f000020000001000001ffd7d5df06ff)) ?_
 rw[Tryz.ntmps13];simp -dsimp[d_,iE,ints];and_intros;all_goals try first|rfl|omega|exact⟨by kernel_rfl⟩
 refine aF.of hs1 [] 0 ?_;simp -dsimp;and_intros;all_goals try first|rfl|omega|exact⟨by kernel_rfl⟩
 refine aF.of hs2 [] 0 ?_;simp -dsimp[P8,c4z,c5z,wJ];and_intros;all_goals try first|rfl|omega|exact⟨by kernel_rfl⟩
 refine aF.of hc0 [] 3000 ?_;simp -dsimp;and_intros;all_goals try first|rfl|omega|exact⟨by kernel_rfl⟩
 refine aF.of hc1 [.o 3009] 0 ?_;simp -dsimp;and_intros;all_goals try first|rfl|omega|exact⟨by kernel_rfl⟩
 refine aF.of hc2 [.o 3009] 0 ?_;simp -dsimp;and_intros;all_goals try first|rfl|omega|exact⟨by kernel_rfl⟩
 refine aF.of hc3 [] 0 ?_;simp -dsimp;and_intros;all_goals try first|rfl|omega|exact⟨by kernel_rfl⟩
 refine aF.of hSp [.o 3009] 0 ?_;simp -dsimp;and_intros;all_goals try first|rfl|omega|exact⟨by kernel_rfl⟩
 refine aF.of hI [.o 3009] 0 ?_;simp -dsimp;and_intros;all_goals try first|rfl|omega|exact⟨by kernel_rfl⟩
 refine aF.of hN8 [.o 3009] 0 ?_;simp -dsimp;and_intros;all_goals try first|rfl|omega|exact⟨by kernel_rfl⟩
 refine bY.of [] (kb 0x1000000000000002078781000000f0f0f000020000001000001ffd7d5df06ff) (ι:={z:Nat×List An×Tp // z.1≤mx∧dW z.2.2∧z.2.1.length=z.1∧∀a∈z.2.1,I64 a.id})
  (fun z=>[(.o 3009,iG z.1.2.2),(.s 17,It.v (.ptr (.o 3009) 0)),(.s 3,It.v (.d (.sl (ig l0)))),(.s 4,It.v (.d (.sl (ans a0)))),(.s 5,It.v (.d (ints y0))),(.s 6,It.v (.d (.int .i64 r0))),(.s 7,It.v (.d (.int .i64 n0))),(.o 9,It.box [TV.d (.sl (rts g0.rs)),TV.d (.sl (pq g0.ls))]),(.s 9,It.v (.ptr (.o 9) 0)),(.o 18,It.box [TV.d (.sl (rts g.rs)),TV.d (.sl (pq g.ls))]),(.s 18,It.v (.ptr (.o 18) 0)),(.s 20,It.v (.d (.sl (ig l)))),(.s 22,It.v (.d (ints y1))),(.o 10,It.box [TV.d (.int .i64 p0.gU),TV.d (.int .i64 p0.len),TV.d (.sl (lX p0.es))]),(.s 10,It.v (.ptr (.o 10) 0)),(.o 19,It.box [TV.d (.int .i64 p.gU),TV.d (.int .i64 p.len),TV.d (.sl (lX p.es))]),(.s 19,It.v (.ptr (.o 19) 0)),(.s 23,It.v (.bK 23 z.1.2.1.length)),(.o 23,It.row 120 4 (dd (ans z.1.2.1)) false),(.s 24,It.v (.d (.int .i64 ((mx:Int)-z.1.1))))])
  (fun z=>mx-z.1.1) ⟨(0,[],T5),by omega,kN8,rfl,by simp⟩ ?_ ?_
 ·exact GS.own' (k:=23) 120 4 (by simp) (by simp) (by simp[ans,ints])
 rintro⟨⟨i,a1,T6⟩,i1,i2,i3,i4⟩;simp only at i1 i2 i3 i4;by_cases hi:i<mx
 ·have hmz:(0:Int)<(mx:Int)-i:=by omega
  have w1:IntKind.i64.wrap ((mx:Int)-i-1)=(mx:Int)-i-1:=wrap_i64 (by omega) (by omega);have e1:(mx:Int)-((i:Int)+1)=(mx:Int)-i-1:=by omega
  have hP:=zS T6 i2 [1,1,1,2,0] (by simp) (by simp);have kP:dW (jW T6 [1,1,1,2,0]).2:=by simpa using i2
  generalize jW T6 [1,1,1,2,0]=X1 at hP kP;obtain⟨v1,T7⟩:=X1;simp only at hP kP;have hR:=WX T7 kP g ⟨by omega,by omega⟩;have kR:dW (y9 g.rs T7).2:=by simpa using kP
  generalize y9 g.rs T7=X2 at hR kR;obtain⟨v2,T8⟩:=X2;simp only at hR kR;have r1:=uZ T8 0 12;have r2:=uY T8 (a:=0) (b:=12) (by omega);have hG:=EN T8 kR 0 12 ⟨by omega,by omega⟩ ⟨by omega,by omega⟩ ⟨by omega,by omega⟩ ⟨by omega,by omega⟩;have kG:dW (kD T8 0 12).2:=by simpa using kR
  generalize kD T8 0 12=X3 at hG kG r1 r2;obtain⟨v3,T9⟩:=X3;simp only at hG kG r1 r2;have hX:=jR T9 kG 9 ⟨by omega,by omega⟩;have kX:dW (bH T9 9).2:=by simpa using kG
  generalize bH T9 9=X4 at hX kX;obtain⟨v4,T10⟩:=X4;simp only at hX kX;simp only[d_,ints]at hP hR;have h64:∀a∈a1++[⟨v1,v2,v3,v4⟩],I64 a.id:=fun a ha=>by
   rcases aJ.1 ha with h|h
   ·exact i4 a h
   ·simp only[aG,fP,or_false]at h;subst h;exact⟨by simp only;omega,by simp only;omega⟩
  simp -dsimp[hmz,hi];and_intros;all_goals try first|rfl|omega|exact⟨by kernel_rfl⟩
  refine aF.of hP [.o 3009] 0 ?_;simp -dsimp;and_intros;all_goals try first|rfl|omega|exact⟨by kernel_rfl⟩
  refine aF.of hR [.o 3009] 0 ?_;simp -dsimp;and_intros;all_goals try first|rfl|omega|exact⟨by kernel_rfl⟩
  refine aF.of hG [.o 3009] 0 ?_;simp -dsimp;and_intros;all_goals try first|rfl|omega|exact⟨by kernel_rfl⟩
  refine aF.of hX [.o 3009] 0 ?_;simp -dsimp[w1,wJ];and_intros;all_goals try first|rfl|omega|exact⟨by kernel_rfl⟩
  exact⟨⟨(i+1,a1++[⟨v1,v2,v3,v4⟩],T10),by omega,kX,by simp[i3],h64⟩,GS.to (by simp[ans,BJ,ints,e1]),by simp;omega⟩
 obtain rfl:i=mx:=by omega
 have hmz :¬(0:Int)<(i:Int)-i:=by omega
 obtain⟨PS,hPS⟩:∃PS,PS = [p0,p]:=⟨_,rfl⟩
 have hPl:PS.length=2:=by rw[hPS];rfl
 have hPG:∀x∈PS,x.es.length≤40:=fun x hx=>by
  rw[hPS]at hx
  simp only[aG,fP,or_false]at hx;rcases hx with rfl|rfl<;>omega
 obtain⟨YS,hYS⟩:∃YS,YS = [y0,y1]:=⟨_,rfl⟩
 have hYl:YS.length=2:=by rw[hYS];rfl
 have hYG:∀x∈YS,x.length≤40∧∀y∈x,I64 y:=fun x hx=>by
  rw[hYS]at hx
  simp only[aG,fP,or_false]at hx;rcases hx with rfl|rfl
  ·exact⟨by omega,hy0⟩
  ·exact⟨by omega,hi64⟩
 obtain⟨ZS,hZS⟩:∃ZS,ZS = [a0,a1]:=⟨_,rfl⟩
 have hZl:ZS.length=2:=by rw[hZS];rfl
 have hZG:∀x∈ZS,x.length≤60∧∀a∈x,I64 a.id:=fun x hx=>by
  rw[hZS]at hx
  simp only[aG,fP,or_false]at hx;rcases hx with rfl|rfl
  ·exact⟨by omega,ha0⟩
  ·exact⟨by omega,i4⟩
 obtain⟨WS,hWS⟩:∃WS,WS = [l0,l]:=⟨_,rfl⟩
 have avP:WS.length=2:=by rw[hWS];rfl
 have hWG:∀x∈WS,Good x:=fun x hx=>by
  rw[hWS]at hx
  simp only[aG,fP,or_false]at hx;rcases hx with rfl|rfl
  ·exact hg0
  ·exact .inl hls
 simp -dsimp[hmz];and_intros;all_goals try first|rfl|omega|exact⟨by kernel_rfl⟩
 refine bY.of [] (kb 0x1000000000000002078781000000f0f0f000020000001000001ffd7d5df06ff) (ι:={z:Nat×Tp // z.1≤2∧dW z.2})
  (fun z=>[(.o 3009,iG z.1.2),(.s 17,It.v (.ptr (.o 3009) 0)),(.s 3,It.v (.d (.sl (ig l0)))),(.s 4,It.v (.d (.sl (ans a0)))),(.s 5,It.v (.d (ints y0))),(.s 6,It.v (.d (.int .i64 r0))),(.s 7,It.v (.d (.int .i64 n0))),(.o 9,It.box [TV.d (.sl (rts g0.rs)),TV.d (.sl (pq g0.ls))]),(.s 9,It.v (.ptr (.o 9) 0)),(.o 18,It.box [TV.d (.sl (rts g.rs)),TV.d (.sl (pq g.ls))]),(.s 18,It.v (.ptr (.o 18) 0)),(.s 20,It.v (.d (.sl (ig l)))),(.s 22,It.v (.d (ints y1))),(.s 23,It.v (.d (.sl (ans a1)))),(.s 120,It.v (.d (.sl (PS.map PDs)))),(.s 121,It.v (.d (.int .i64 2))),(.s 122,It.v (.d (.int .i64 z.1.1)))])
  (fun z=>2-z.1.1) ⟨(0,T6),by omega,i2⟩ ?_ ?_
 ·exact GS.Gm 23 (by simp[ints,hPS,PDs])
 clear hPS hi i1 hmz n2 n1 i3;rintro⟨⟨i,T6⟩,i1,i2⟩;simp only at i1 i2;by_cases hi:i<2
 ·have hiz:(i:Int)<2:=by omega
  have hx:PS[i]? = some (PS[i]'(by omega)):=ah (by omega);have hxm:=aB (l:=PS) (n:=i) (by omega);generalize PS[i]'(by omega)=x at hx hxm;have hxe:=hPG x hxm;have hxl:x.es.length≤1000:=by omega
  have hx':(PS.map PDs)[i]? = some [.int .i64 x.gU,.int .i64 x.len,.sl (lX x.es)]:=by simp[hx,PDs]
  have w1:IntKind.i64.wrap ((i:Int)+1)=(i:Int)+1:=wrap_i64 (by omega) (by omega);simp -dsimp[hiz,hx'];and_intros;all_goals try first|rfl|omega|exact⟨by kernel_rfl⟩
  refine bY.of [] (kb 0x1000000000000002078781000000f0f0f000020000001000001ffd7d5df06ff) (ι:={z:Nat×Tp // z.1≤2∧dW z.2})
   (fun z=>[(.o 3009,iG z.1.2),(.s 17,It.v (.ptr (.o 3009) 0)),(.s 3,It.v (.d (.sl (ig l0)))),(.s 4,It.v (.d (.sl (ans a0)))),(.s 5,It.v (.d (ints y0))),(.s 6,It.v (.d (.int .i64 r0))),(.s 7,It.v (.d (.int .i64 n0))),(.o 9,It.box [TV.d (.sl (rts g0.rs)),TV.d (.sl (pq g0.ls))]),(.s 9,It.v (.ptr (.o 9) 0)),(.o 18,It.box [TV.d (.sl (rts g.rs)),TV.d (.sl (pq g.ls))]),(.s 18,It.v (.ptr (.o 18) 0)),(.s 20,It.v (.d (.sl (ig l)))),(.s 22,It.v (.d (ints y1))),(.s 23,It.v (.d (.sl (ans a1)))),(.s 120,It.v (.d (.sl (PS.map PDs)))),(.s 121,It.v (.d (.int .i64 2))),(.s 122,It.v (.d (.int .i64 i))),(.o 26,It.box [TV.d (.int .i64 x.gU),TV.d (.int .i64 x.len),TV.d (.sl (lX x.es))]),(.s 26,It.v (.ptr (.o 26) 0)),(.s 128,It.v (.d (.sl (YS.map YDs)))),(.s 129,It.v (.d (.int .i64 2))),(.s 130,It.v (.d (.int .i64 z.1.1)))])
   (fun z=>2-z.1.1) ⟨(0,T6),by omega,i2⟩ ?_ ?_
  ·exact GS.to (by simp[ints,hYS,YDs,PDs])
  rintro⟨⟨j,T7⟩,j1,j2⟩;simp only at j1 j2;by_cases hj:j<2
  ·have hjz:(j:Int)<2:=by omega
   have hy:YS[j]? = some (YS[j]'(by omega)):=ah (by omega);have hym:=aB (l:=YS) (n:=j) (by omega);generalize YS[j]'(by omega)=y at hy hym;obtain⟨avU,anq⟩:=hYG y hym;have hyl:y.length≤1000000:=by omega
   have hy':(YS.map YDs)[j]? = some [ints y]:=by simp[hy,YDs]
   have w2:IntKind.i64.wrap ((j:Int)+1)=(j:Int)+1:=wrap_i64 (by omega) (by omega);simp -dsimp[hjz,hy'];and_intros;all_goals try first|rfl|omega|exact⟨by kernel_rfl⟩
   refine bY.of [] (kb 0x1000000000000002078781000000f0f0f000020000001000001ffd7d5df06ff) (ι:={q:Nat // q≤2})
    (fun z=>[(.o 3009,iG T7),(.s 17,It.v (.ptr (.o 3009) 0)),(.s 3,It.v (.d (.sl (ig l0)))),(.s 4,It.v (.d (.sl (ans a0)))),(.s 5,It.v (.d (ints y0))),(.s 6,It.v (.d (.int .i64 r0))),(.s 7,It.v (.d (.int .i64 n0))),(.o 9,It.box [TV.d (.sl (rts g0.rs)),TV.d (.sl (pq g0.ls))]),(.s 9,It.v (.ptr (.o 9) 0)),(.o 18,It.box [TV.d (.sl (rts g.rs)),TV.d (.sl (pq g.ls))]),(.s 18,It.v (.ptr (.o 18) 0)),(.s 20,It.v (.d (.sl (ig l)))),(.s 22,It.v (.d (ints y1))),(.s 23,It.v (.d (.sl (ans a1)))),(.s 120,It.v (.d (.sl (PS.map PDs)))),(.s 121,It.v (.d (.int .i64 2))),(.s 122,It.v (.d (.int .i64 i))),(.o 26,It.box [TV.d (.int .i64 x.gU),TV.d (.int .i64 x.len),TV.d (.sl (lX x.es))]),(.s 26,It.v (.ptr (.o 26) 0)),(.s 128,It.v (.d (.sl (YS.map YDs)))),(.s 129,It.v (.d (.int .i64 2))),(.s 130,It.v (.d (.int .i64 j))),(.s 28,It.v (.d (ints y))),(.s 136,It.v (.d (.sl (ZS.map ZDs)))),(.s 137,It.v (.d (.int .i64 2))),(.s 138,It.v (.d (.int .i64 z.1)))])
    (fun z=>2-z.1) ⟨0,by omega⟩ ?_ ?_
   ·exact GS.to (by simp[ints,hZS,ZDs,YDs,PDs])
   rintro⟨q,q1⟩;by_cases hq:q<2
   ·have hqz:(q:Int)<2:=by omega
    have hz:ZS[q]? = some (ZS[q]'(by omega)):=ah (by omega);have hzm:=aB (l:=ZS) (n:=q) (by omega);generalize ZS[q]'(by omega)=z at hz hzm;obtain⟨hzl,asC⟩:=hZG z hzm;have hz':(ZS.map ZDs)[q]? = some [.sl (ans z)]:=by simp[hz,ZDs]
    have w5:IntKind.i64.wrap ((q:Int)+1)=(q:Int)+1:=wrap_i64 (by omega) (by omega);have hC1:=vU x hxl y hyl z (by omega) asC;have hC2:=Pg x hxl y hyl z (by omega);have hC3:=UC (vI x y z).1 (by have:=(Xt x y z).2;omega) (Xt x y z).1;generalize vI x y z=CV at hC1 hC2 hC3;simp only[iE,ints]at hC1 hC2;simp -dsimp[hqz,hz',ints];and_intros
    all_goals try first|rfl|omega|exact⟨by kernel_rfl⟩
    refine aF.of hC1 [] 0 ?_;simp -dsimp;and_intros;all_goals try first|rfl|omega|exact⟨by kernel_rfl⟩
    refine aF.of hC2 [] 0 ?_;simp -dsimp;and_intros;all_goals try first|rfl|omega|exact⟨by kernel_rfl⟩
    refine aF.of hC3 [] 0 ?_;simp -dsimp[w5];and_intros;all_goals try first|rfl|omega|exact⟨by kernel_rfl⟩
    exact⟨⟨q+1,by omega⟩,GS.to (by simp[ints,YDs,PDs,ZDs]),by simp;omega⟩
   have hqz :¬(q:Int)<2:=by omega
   have hBt:=akt T7 j2 g ⟨by omega,by omega⟩;have kBt:dW (Jj g T7).2:=aeD g T7▸j2;have hBs:=Zl g T7;generalize Jj g T7=N4 at hBt kBt hBs;obtain⟨gb,T8⟩:=N4;simp only at hBt kBt hBs;simp only[d_]at hBt;simp -dsimp[hqz];and_intros;all_goals try first|rfl|omega|exact⟨by kernel_rfl⟩
   refine aF.of hBt [.o 3009] 0 ?_;obtain⟨OS,hOS⟩:∃OS,OS = [g0,g,gb]:=⟨_,rfl⟩
   have hOl:OS.length=3:=by rw[hOS];rfl
   have hOG:∀o∈OS,o.rs.length≤31∧o.ls.length≤1000:=fun o ho=>by
    rw[hOS]at ho
    simp only[aG,fP,or_false]at ho;rcases ho with rfl|rfl|rfl
    ·exact⟨by omega,by omega⟩
    ·exact⟨by omega,by omega⟩
    ·exact⟨by omega,by omega⟩
   simp -dsimp;and_intros;all_goals try first|rfl|omega|exact⟨by kernel_rfl⟩
   refine bY.of [] (kb 0x1000000000000002078781000000f0f0f000020000001000001ffd7d5df06ff) (ι:={z:Nat×Tp // z.1≤3∧dW z.2})
    (fun z=>[(.o 3009,iG z.1.2),(.s 17,It.v (.ptr (.o 3009) 0)),(.s 3,It.v (.d (.sl (ig l0)))),(.s 4,It.v (.d (.sl (ans a0)))),(.s 5,It.v (.d (ints y0))),(.s 6,It.v (.d (.int .i64 r0))),(.s 7,It.v (.d (.int .i64 n0))),(.o 9,It.box [TV.d (.sl (rts g0.rs)),TV.d (.sl (pq g0.ls))]),(.s 9,It.v (.ptr (.o 9) 0)),(.o 18,It.box [TV.d (.sl (rts g.rs)),TV.d (.sl (pq g.ls))]),(.s 18,It.v (.ptr (.o 18) 0)),(.s 20,It.v (.d (.sl (ig l)))),(.s 22,It.v (.d (ints y1))),(.s 23,It.v (.d (.sl (ans a1)))),(.s 120,It.v (.d (.sl (PS.map PDs)))),(.s 121,It.v (.d (.int .i64 2))),(.s 122,It.v (.d (.int .i64 i))),(.o 26,It.box [TV.d (.int .i64 x.gU),TV.d (.int .i64 x.len),TV.d (.sl (lX x.es))]),(.s 26,It.v (.ptr (.o 26) 0)),(.s 128,It.v (.d (.sl (YS.map YDs)))),(.s 129,It.v (.d (.int .i64 2))),(.s 130,It.v (.d (.int .i64 j))),(.s 28,It.v (.d (ints y))),(.s 171,It.v (.d (.sl (OS.map ODs)))),(.s 172,It.v (.d (.int .i64 3))),(.s 173,It.v (.d (.int .i64 z.1.1)))])
    (fun z=>3-z.1.1) ⟨(0,T8),by omega,kBt⟩ ?_ ?_
   ·exact GS.to (by simp[ints,hOS,ODs])
   clear hOS;rintro⟨⟨k,T8⟩,k1,k2⟩;simp only at k1 k2;by_cases hk:k<3
   ·have hkz:(k:Int)<3:=by omega
    have ho:OS[k]? = some (OS[k]'(by omega)):=ah (by omega);have hom:=aB (l:=OS) (n:=k) (by omega);generalize OS[k]'(by omega)=o at ho hom;obtain⟨hor,hol⟩:=hOG o hom;have hoS:o.Sm:=⟨by omega,by omega⟩
    have ho':(OS.map ODs)[k]? = some [.sl (rts o.rs),.sl (pq o.ls)]:=by simp[ho,ODs]
    have w3:IntKind.i64.wrap ((k:Int)+1)=(k:Int)+1:=wrap_i64 (by omega) (by omega);simp -dsimp[hkz,ho'];and_intros;all_goals try first|rfl|omega|exact⟨by kernel_rfl⟩
    refine bY.of [] (kb 0x1000000000000002078781000000f0f0f000020000001000001ffd7d5df06ff) (ι:={z:Nat×Tp // z.1≤2∧dW z.2})
     (fun z=>[(.o 3009,iG z.1.2),(.s 17,It.v (.ptr (.o 3009) 0)),(.s 3,It.v (.d (.sl (ig l0)))),(.s 4,It.v (.d (.sl (ans a0)))),(.s 5,It.v (.d (ints y0))),(.s 6,It.v (.d (.int .i64 r0))),(.s 7,It.v (.d (.int .i64 n0))),(.o 9,It.box [TV.d (.sl (rts g0.rs)),TV.d (.sl (pq g0.ls))]),(.s 9,It.v (.ptr (.o 9) 0)),(.o 18,It.box [TV.d (.sl (rts g.rs)),TV.d (.sl (pq g.ls))]),(.s 18,It.v (.ptr (.o 18) 0)),(.s 20,It.v (.d (.sl (ig l)))),(.s 22,It.v (.d (ints y1))),(.s 23,It.v (.d (.sl (ans a1)))),(.s 120,It.v (.d (.sl (PS.map PDs)))),(.s 121,It.v (.d (.int .i64 2))),(.s 122,It.v (.d (.int .i64 i))),(.o 26,It.box [TV.d (.int .i64 x.gU),TV.d (.int .i64 x.len),TV.d (.sl (lX x.es))]),(.s 26,It.v (.ptr (.o 26) 0)),(.s 128,It.v (.d (.sl (YS.map YDs)))),(.s 129,It.v (.d (.int .i64 2))),(.s 130,It.v (.d (.int .i64 j))),(.s 28,It.v (.d (ints y))),(.s 171,It.v (.d (.sl (OS.map ODs)))),(.s 172,It.v (.d (.int .i64 3))),(.s 173,It.v (.d (.int .i64 k))),(.o 36,It.box [TV.d (.sl (rts o.rs)),TV.d (.sl (pq o.ls))]),(.s 36,It.v (.ptr (.o 36) 0)),(.s 179,It.v (.d (.sl (WS.map WDs)))),(.s 180,It.v (.d (.int .i64 2))),(.s 181,It.v (.d (.int .i64 z.1.1)))])
     (fun z=>2-z.1.1) ⟨(0,T8),by omega,k2⟩ ?_ ?_
    ·exact GS.to (by simp[ints,hWS,WDs])
    rintro⟨⟨m,T9⟩,m1,m2⟩;simp only at m1 m2;by_cases hm:m<2
    ·have hmz:(m:Int)<2:=by omega
     have hw:WS[m]? = some (WS[m]'(by omega)):=ah (by omega);have hwm:=aB (l:=WS) (n:=m) (by omega);generalize WS[m]'(by omega)=w at hw hwm;have hwg:=hWG w hwm;have hw':(WS.map WDs)[m]? = some [.sl (ig w)]:=by simp[hw,WDs]
     have w4:IntKind.i64.wrap ((m:Int)+1)=(m:Int)+1:=wrap_i64 (by omega) (by omega);have hK1:=fun r n=>UN o hoS x hxl w hwg r y hyl anq n
     have hK2:=fun r n=>aei o hoS x hxl w hwg r y hyl anq n
     have hK3:=fun r n=>UC (D_ o x w r y n).1 (by have:=(acM o x w r y n).2;omega) (acM o x w r y n).1
     have hL1:=ED o hoS x hxl w hwg;have hL2:=abS o hoS x hxl w hwg;have hL3:=UC (xQ o x w).1 (by have:=(ZM o x w).2;have:=nK hor hxe;omega) (ZM o x w).1;generalize xQ o x w=LV at hL1 hL2 hL3;obtain⟨CK,hCK⟩:∃CK:Int→Int→List (List Int)×Int,CK=fun r n=>D_ o x w r y n:=⟨_,rfl⟩
     have hK1:∀r n,Contract Tryz.prog 71 [d_ o,iE x,.d (.sl (ig w)),.d (.int .i64 r),.d (ints y),.d (.int .i64 n)] [] (.sZ [.d (.sl (lC (CK r n).1)),.d (.int .i64 (CK r n).2)]) [] []:=by rw[hCK];exact hK1
     have hK2:∀r n,Contract Tryz.prog 72 [d_ o,iE x,.d (.sl (ig w)),.d (.int .i64 r),.d (ints y),.d (.int .i64 n)] [] (.sZ [.d (.sl (lC (CK r n).1)),.d (.int .i64 (CK r n).2)]) [] []:=by rw[hCK];exact hK2
     have hK3:∀r n,Contract Tryz.prog 69 [.d (.sl (lC (CK r n).1)),.d (.sl (lC (CK r n).1))] [] (.d (.bool true)) [] []:=by rw[hCK];exact hK3
     clear hCK;have hN:=jR T9 m2 2 ⟨by omega,by omega⟩;have kN:dW (bH T9 2).2:=by simpa using m2
     generalize bH T9 2=N1 at hN kN;obtain⟨c,T10⟩:=N1;simp only at hN kN;have hR:=WX T10 kN g ⟨by omega,by omega⟩;have kR:dW (y9 g.rs T10).2:=by simpa using kN
     generalize y9 g.rs T10=N2 at hR kR;obtain⟨r2,T11⟩:=N2;simp only at hR kR;have hE:=jR T11 kR 1024 ⟨by omega,by omega⟩;have kE:dW (bH T11 1024).2:=by simpa using kR
     generalize bH T11 1024=N3 at hE kE;obtain⟨n2,T12⟩:=N3;simp only at hE kE;simp only[d_,iE,ints]at hK1 hK2 hL1 hL2 hR;simp -dsimp[hmz,hw'];and_intros;all_goals try first|rfl|omega|exact⟨by kernel_rfl⟩
     refine aF.of hN [.o 3009] 0 ?_;by_cases hc:c=0
     ·simp -dsimp[eq_true hc];and_intros;all_goals try first|rfl|omega|exact⟨by kernel_rfl⟩
      refine aF.of hR [.o 3009] 0 ?_;simp -dsimp;and_intros;all_goals try first|rfl|omega|exact⟨by kernel_rfl⟩
      refine aF.of hE [.o 3009] 0 ?_;simp -dsimp[ints];and_intros;all_goals try first|rfl|omega|exact⟨by kernel_rfl⟩
      refine aF.of (hK1 r2 n2) [] 0 ?_;simp -dsimp[ints];and_intros;all_goals try first|rfl|omega|exact⟨by kernel_rfl⟩
      refine aF.of (hK2 r2 n2) [] 0 ?_;simp -dsimp;and_intros;all_goals try first|rfl|omega|exact⟨by kernel_rfl⟩
      refine aF.of hL1 [] 0 ?_;simp -dsimp;and_intros;all_goals try first|rfl|omega|exact⟨by kernel_rfl⟩
      refine aF.of hL2 [] 0 ?_;simp -dsimp;and_intros;all_goals try first|rfl|omega|exact⟨by kernel_rfl⟩
      refine aF.of (hK3 r2 n2) [] 0 ?_;simp -dsimp;and_intros;all_goals try first|rfl|omega|exact⟨by kernel_rfl⟩
      refine aF.of hL3 [] 0 ?_;simp -dsimp[w4];and_intros;all_goals try first|rfl|omega|exact⟨by kernel_rfl⟩
      exact⟨⟨(m+1,T12),by omega,kE⟩,GS.to (by simp[ints,YDs,PDs,ODs,WDs]),by simp;omega⟩
     ·simp -dsimp[eq_false hc,ints];and_intros;all_goals try first|rfl|omega|exact⟨by kernel_rfl⟩
      refine aF.of (hK1 r0 n0) [] 0 ?_;simp -dsimp[ints];and_intros;all_goals try first|rfl|omega|exact⟨by kernel_rfl⟩
      refine aF.of (hK2 r0 n0) [] 0 ?_;simp -dsimp;and_intros;all_goals try first|rfl|omega|exact⟨by kernel_rfl⟩
      refine aF.of hL1 [] 0 ?_;simp -dsimp;and_intros;all_goals try first|rfl|omega|exact⟨by kernel_rfl⟩
      refine aF.of hL2 [] 0 ?_;simp -dsimp;and_intros;all_goals try first|rfl|omega|exact⟨by kernel_rfl⟩
      refine aF.of (hK3 r0 n0) [] 0 ?_;simp -dsimp;and_intros;all_goals try first|rfl|omega|exact⟨by kernel_rfl⟩
      refine aF.of hL3 [] 0 ?_;simp -dsimp[w4];and_intros;all_goals try first|rfl|omega|exact⟨by kernel_rfl⟩
      exact⟨⟨(m+1,T10),by omega,kN⟩,GS.to (by simp[ints,YDs,PDs,ODs,WDs]),by simp;omega⟩
    have hmz :¬(m:Int)<2:=by omega
    simp -dsimp[hmz,w3];and_intros;all_goals try first|rfl|omega|exact⟨by kernel_rfl⟩
    exact⟨⟨(k+1,T9),by omega,m2⟩,GS.to (by simp[ints,YDs,PDs,ODs,WDs]),by simp;omega⟩
   have hkz :¬(k:Int)<3:=by omega
   simp -dsimp[hkz,w2];and_intros;all_goals try first|rfl|omega|exact⟨by kernel_rfl⟩
   exact⟨⟨(j+1,T8),by omega,k2⟩,GS.to (by simp[ints,YDs,PDs]),by simp;omega⟩
  have hjz :¬(j:Int)<2:=by omega
  simp -dsimp[hjz,w1];and_intros;all_goals try first|rfl|omega|exact⟨by kernel_rfl⟩
  exact⟨⟨(i+1,T7),by omega,j2⟩,GS.to (by simp[ints,PDs]),by simp;omega⟩
 have hiz :¬(i:Int)<2:=by omega
 simp -dsimp[hiz];and_intros;all_goals try first|rfl|omega|exact⟨by kernel_rfl⟩
 refine aF.of haw [] 0 ?_;simp -dsimp;and_intros;all_goals try first|rfl|omega|exact⟨by kernel_rfl⟩
 refine Fin.of ?_;simp
def al2:Ty:=.st [.int .i64,.bool]
def al1:Ty:=.st [.int .i64,.int .i64,.int .i64,.int .i64,.int .i64]
def aiy:Ty:=.st [.sl al2,.sl al1]
def al0:Ty:=.st [.int .i64,.int .i64]
def acD:Ty:=.st [.int .i64,.int .i64,.sl al0]
def ajZ:Ty:=.st [.int .i64,.int .i64,.int .i64,.int .i64]
theorem ak1{ds:List D}(h:al2.has ds):∃x:Rt,ds=x.cs:=by obtain⟨_,_,rfl,⟨n,rfl,_⟩,_,_,rfl,⟨b,rfl⟩,rfl⟩:=h;exact⟨⟨n,b⟩,rfl⟩
theorem ak0{ds:List D}(h:al1.has ds):∃x:Lk,ds=x.cs:=by obtain⟨_,_,rfl,⟨a,rfl,_⟩,_,_,rfl,⟨b,rfl,_⟩,_,_,rfl,⟨c,rfl,_⟩,_,_,rfl,⟨d,rfl,_⟩,_,_,rfl,⟨e,rfl,_⟩,rfl⟩:=h;exact⟨⟨a,b,c,d,e⟩,rfl⟩
theorem akZ{ds:List D}(h:al0.has ds):∃x:Ed,ds=x.cs:=by obtain⟨_,_,rfl,⟨a,rfl,_⟩,_,_,rfl,⟨b,rfl,_⟩,rfl⟩:=h;exact⟨⟨a,b⟩,rfl⟩
theorem akY{ds:List D}(h:ajZ.has ds):∃x:An,ds=BJ x∧I64 x.id:=by obtain⟨_,_,rfl,⟨a,rfl,_⟩,_,_,rfl,⟨b,rfl,_⟩,_,_,rfl,⟨c,rfl,hc⟩,_,_,rfl,⟨d,rfl,_⟩,rfl⟩:=h;exact⟨⟨a,b,c,d⟩,rfl,wf_i64 hc⟩
theorem ajc{ds:List D}(h:aiy.has ds):∃g:bV,ds = [.sl (rts g.rs),.sl (pq g.ls)]:=by
 obtain⟨_,_,rfl,⟨xs,rfl,_,h1⟩,_,_,rfl,⟨ys,rfl,_,h2⟩,rfl⟩:=h;obtain⟨l,rfl,_⟩:=JV Rt.cs (fun _=>True) fun x hx=>(ak1 (h1 x hx)).imp fun a e=>⟨e,trivial⟩
 obtain⟨m,rfl,_⟩:=JV Lk.cs (fun _=>True) fun x hx=>(ak0 (h2 x hx)).imp fun a e=>⟨e,trivial⟩
 exact⟨⟨l,m⟩,rfl⟩
theorem agW{ds:List D}(h:acD.has ds):∃p:Pn,ds = [.int .i64 p.gU,.int .i64 p.len,.sl (lX p.es)]:=by
 obtain⟨_,_,rfl,⟨a,rfl,_⟩,_,_,rfl,⟨b,rfl,_⟩,_,_,rfl,⟨xs,rfl,_,h1⟩,rfl⟩:=h;obtain⟨l,rfl,_⟩:=JV Ed.cs (fun _=>True) fun x hx=>(akZ (h1 x hx)).imp fun a e=>⟨e,trivial⟩
 exact⟨⟨a,b,l⟩,rfl⟩
theorem agV{ds:List D}(h:(Ty.sl ajZ).has ds):∃l:List An,ds = [.sl (ans l)]∧∀a∈l,I64 a.id:=by
 obtain⟨xs,rfl,_,h1⟩:=h;obtain⟨l,rfl,hl⟩:=JV BJ (fun a=>I64 a.id) fun x hx=>akY (h1 x hx)
 exact⟨l,rfl,hl⟩
end Go.Proofs

namespace Go.Proofs.YtboimfkommpglaaGreatDoor.verifyAnswers
open Go
theorem j10:(Rows.verifyAnswersRow.inPlace==Tryz.prog.inPlace 13)=true:=by kernel_rfl
theorem j11:(Rows.verifyAnswersRow.unfollowed==Tryz.prog.unfollowed 13)=true:=by kernel_rfl
theorem j12:(Rows.verifyAnswersRow.recurses==Tryz.prog.recurses 13)=true:=by kernel_rfl
theorem j13:(Rows.verifyAnswersRow.named==Tryz.prog.varsNamed 13)=true:=by kernel_rfl
theorem j23:(Rows.verifyAnswersRow.plainKeys==Tryz.prog.plainKeys)=true:=by kernel_rfl
theorem j27:(Rows.verifyAnswersRow.lifted==Tryz.prog.liftsFinal)=true:=by kernel_rfl
theorem j28:(Tryz.prog.make==some Rows.verifyAnswersRow.make)=true:=by kernel_rfl
theorem goes:false=Rows.verifyAnswersRow.goesBy Tryz.prog:=by kernel_rfl
theorem nam : Tryz.prog.funcNamed "bitcast/bitcastlaw36.VerifyAnswers" = some 13 := by kernel_rfl
set_option maxRecDepth 100000 in
theorem closed:joinedFacts Tryz.prog 13 Tryz.f13 Rows.verifyAnswersSpec Rows.verifyAnswersRow=true:=by
 delta joinedFacts
 exact(cf.gX (cf.gX (cf.gX (cf.gX (cf.gX (cf.gX (cf.gX (cf.gX (cf.gX (cf.gX (cf.gX (cf.gX (cf.gX (cf.gX (cf.gX (cf.gX (cf.gX (cf.gX (cf.gX (cf.gX (cf.gX (cf.gX (cf.gX (cf.gX (cf.gX (cf.gX (cf.gX (cf.gX (cf.gX (cf.gX (cf.gX (by kernel_rfl) cf.laidOut) cf.rowed) (by kernel_rfl)) (by kernel_rfl)) (by kernel_rfl)) (by kernel_rfl)) (by kernel_rfl)) (by kernel_rfl)) j10) j11) j12) j13) (by kernel_rfl)) (by kernel_rfl)) (by kernel_rfl)) (by kernel_rfl)) (by kernel_rfl)) (by kernel_rfl)) (by kernel_rfl)) (by kernel_rfl)) (by kernel_rfl)) j23) (by kernel_rfl)) cf.heard) cf.may) j27) j28) (by kernel_rfl)) (by kernel_rfl)) (by kernel_rfl)) (by kernel_rfl))
theorem inst:Tryz.f13.isInstance Tryz.prog Rows.verifyAnswersRow.origin Rows.verifyAnswersRow.targs:=of_decide_eq_true (by kernel_rfl)
theorem wrap:Tryz.f13.isWrapper Tryz.prog Rows.verifyAnswersRow.wrapper Rows.verifyAnswersRow.mainSum:=by unfold Func.isWrapper;first|(rw[if_pos (by decide+kernel)];kernel_rfl)|(rw[if_neg (by decide+kernel)];exact⟨rfl,rfl⟩)
end Go.Proofs.YtboimfkommpglaaGreatDoor.verifyAnswers
