/-
  What functions of the program compute, stated as contracts over plain data; the conditions of each stand in its own statement.
-/
import Derived.Test.YtboimfkommpglaaGreatDoorZB26
import Derived.Test.YtboimfkommpglaaGreatDoorZB17
import Derived.Test.YtboimfkommpglaaGreatDoorZB20
set_option linter.unusedVariables false
set_option linter.unusedSimpArgs false
set_option maxRecDepth 100000
set_option maxHeartbeats 8000000
namespace Go.Proofs
open Go Go.Tr
theorem E5(g:bV)(hg:g.rs.length≤1000000)(hl:g.ls.length≤1000000):Contract Tryz.prog 78 [d_ g] [] (.d (.int .i64 (jE g))) [] []:=by
 have hs:g.Sm:=⟨hg,hl⟩
 have q1:=Rl g.rs (by omega) 148 (fun x=>!inB x.id 1 99) (fun x _=>alR x) (by kernel_rfl);have q3:=GK g.ls (by omega) 154 Lk.bad (fun x _=>alS x) (by kernel_rfl);have q5:=GK g.ls (by omega) 156 (fun x=>decide (x.b≤x.a)) (fun x _=>alU x) (by kernel_rfl);by_cases c1:24<g.rs.length
 ·refine aC Tryz.func78 rfl (fun E0=>?_);refine iK.sound (g:=.mk) (ow:=[]) (kp:=(kb 0x40001c10890000382007f)) ?_;rw[Tryz.ntmps78];have xB:(24:Int)<g.rs.length:=by omega
  simp -dsimp[d_,xB];and_intros;all_goals try first|rfl|omega|exact⟨by kernel_rfl⟩
  refine Fin.of ?_;simp[jE,oG,c1]
 by_cases c2:60<g.ls.length
 ·refine aC Tryz.func78 rfl (fun E0=>?_);refine iK.sound (g:=.mk) (ow:=[]) (kp:=(kb 0x40001c10890000382007f)) ?_;rw[Tryz.ntmps78];have xB :¬(24:Int)<g.rs.length:=by omega
  have c2z:(60:Int)<g.ls.length:=by omega
  simp -dsimp[d_,xB,c2z];and_intros;all_goals try first|rfl|omega|exact⟨by kernel_rfl⟩
  refine Fin.of ?_;simp[jE,oG,c1,c2]
 have xB :¬(24:Int)<g.rs.length:=by omega
 have c2z :¬(60:Int)<g.ls.length:=by omega
 rcases (au (g.rs.any fun x=>!inB x.id 1 99)).symm with e1|e1
 case inr=>
  rw[e1]at q1
  refine aC Tryz.func78 rfl (fun E0=>?_);refine iK.sound (g:=.mk) (ow:=[]) (kp:=(kb 0x40001c10890000382007f)) ?_;rw[Tryz.ntmps78];simp -dsimp[d_,xB,c2z,rts];refine aF.of q1 [] 0 ?_;simp -dsimp;and_intros;all_goals try first|rfl|omega|exact⟨by kernel_rfl⟩
  refine Fin.of ?_;simp only[jE,oG,cond_true,cond_false,decide_eq_false c1,decide_eq_false c2,e1];simp
 rw[e1]at q1
 refine aC Tryz.func78 rfl (fun E0=>?_);refine iK.sound (g:=.mk) (ow:=[]) (kp:=(kb 0x40001c10890000382007f)) ?_;rw[Tryz.ntmps78];simp -dsimp[d_,xB,c2z,rts];refine aF.of q1 [] 0 ?_;simp -dsimp;try refine⟨?_,⟨by kernel_rfl⟩⟩
 refine bY.of [] (kb 0x40001c10890000382007f) (ι:={i:Nat // i≤g.rs.length∧pV (fun x y=>decide (y.id≤x.id)) g.rs=pV (fun (x y:Rt)=>decide (y.id≤x.id)) (g.rs.drop (i-1))})
  (fun z=>[(.o 1,It.box [TV.d (.sl (rts g.rs)),TV.d (.sl (pq g.ls))]),(.s 1,It.v (.ptr (.o 1) 0)),(.s 2,It.v (.d (.int .i64 0))),(.s 23,It.v (.d (.int .i64 g.rs.length))),(.s 24,It.v (.d (.int .i64 z.1)))])
  (fun z=>g.rs.length-z.1) ⟨0,by omega,by simp⟩ ?_ ?_
 ·exact GS.to (by simp[rts])
 ·rintro⟨i,i1,i2⟩;by_cases hi:i<g.rs.length
  ·have hiz:(i:Int)<g.rs.length:=by omega
   have w1:IntKind.i64.wrap ((i:Int)+1)=(i:Int)+1:=wrap_i64 (by omega) (by omega);by_cases h0:i=0
   ·subst h0;have ak5:0<g.rs.length:=hi;simp -dsimp[ak5,w1];and_intros;all_goals try first|rfl|omega|exact⟨by kernel_rfl⟩
    exact⟨⟨1,by omega,by simp⟩,GS.to (by simp[wrap_i64 (n:=1) (by omega) (by omega)]),by simp;omega⟩
   ·have h0z:(0:Int)<i:=by omega
    obtain⟨j,rfl⟩:∃j,i=j+1:=⟨i-1,by omega⟩
    rw[qx]at i2
    have hx:g.rs[j]? = some g.rs[j]:=ah (by omega);have hy:g.rs[j+1]? = some g.rs[j+1]:=ah hi;generalize g.rs[j]=x at hx;generalize g.rs[j+1]=y at hy;have hx':=r_ hx;have hy':=r_ hy;have w0:IntKind.i64.wrap ((j:Int)+1-1)=j:=by rw[wrap_i64 (by omega) (by omega)];omega
    have w0':IntKind.i64.wrap (j:Int)=j:=wrap_i64 (by omega) (by omega);have hjz:(j:Int)<g.rs.length:=by omega
    have Dc:(j:Int)+1<g.rs.length:=by omega
    have agS:(0:Int)<(j:Int)+1:=by omega
    by_cases a1:y.id≤x.id
    ·simp -dsimp[Dc,agS,hjz,hx',hy',Rt.cs,a1,kH,w0,w0',w1];and_intros;all_goals try first|rfl|omega|exact⟨by kernel_rfl⟩
     refine Fin.of ?_;have e:=zN hx hy i2 (by simpa using a1);simp only[jE,oG,cond_true,cond_false,decide_eq_false c1,decide_eq_false c2,e1,e];simp
    ·simp -dsimp[Dc,agS,hjz,hx',hy',Rt.cs,a1,kH,w0,w0',wrap_i64 (n:=(j:Int)+1+1) (by omega) (by omega)];and_intros;all_goals try first|rfl|omega|exact⟨by kernel_rfl⟩
     exact⟨⟨j+1+1,by omega,xX hx hy i2 (by simpa using a1)⟩,GS.to (by simp),by simp;omega⟩
  have e2:=zM (i:=i-1) i2 (by omega);have hiz :¬(i:Int)<g.rs.length:=by omega
  have hpw:=aib e2;have q4:=Rk g.ls (by omega) 155 150 [D.sl (rts g.rs),D.sl (pq g.ls)] (fun x=>!fM g.rs x.a || !fM g.rs x.b) (fun x _=>alT g hs hpw x) (by kernel_rfl);simp only[rts,pq]at q4;rcases (au (g.ls.any Lk.bad)).symm with e3|e3
  case inr=>
   rw[e3]at q3
   simp -dsimp[hiz,pq];refine aF.of q3 [] 0 ?_;simp -dsimp;and_intros;all_goals try first|rfl|omega|exact⟨by kernel_rfl⟩
   refine Fin.of ?_;simp only[jE,oG,cond_true,cond_false,decide_eq_false c1,decide_eq_false c2,e1,e2,e3];simp
  rw[e3]at q3
  rcases (au (g.ls.any fun x=>!fM g.rs x.a || !fM g.rs x.b)).symm with e4|e4
  case inr=>
   rw[e4]at q4
   simp -dsimp[hiz,pq,rts];refine aF.of q3 [] 0 ?_;simp -dsimp;refine aF.of q4 [.o 4,.o 1] 0 ?_;simp -dsimp;and_intros;all_goals try first|rfl|omega|exact⟨by kernel_rfl⟩
   refine Fin.of ?_;simp only[jE,oG,cond_true,cond_false,decide_eq_false c1,decide_eq_false c2,e1,e2,e3,e4];simp
  rw[e4]at q4
  rcases (au (g.ls.any fun x=>decide (x.b≤x.a))).symm with e5|e5
  case inr=>
   rw[e5]at q5
   simp -dsimp[hiz,pq,rts];refine aF.of q3 [] 0 ?_;simp -dsimp;refine aF.of q4 [.o 4,.o 1] 0 ?_;simp -dsimp;and_intros;all_goals try first|rfl|omega|exact⟨by kernel_rfl⟩
   refine aF.of q5 [] 0 ?_;simp -dsimp;and_intros;all_goals try first|rfl|omega|exact⟨by kernel_rfl⟩
   refine Fin.of ?_;simp only[jE,oG,cond_true,cond_false,decide_eq_false c1,decide_eq_false c2,e1,e2,e3,e4,e5];simp
  rw[e5]at q5
  simp -dsimp[hiz,pq,rts];refine aF.of q3 [] 0 ?_;simp -dsimp;refine aF.of q4 [.o 4,.o 1] 0 ?_;simp -dsimp;and_intros;all_goals try first|rfl|omega|exact⟨by kernel_rfl⟩
  refine aF.of q5 [] 0 ?_;simp -dsimp;and_intros;all_goals try first|rfl|omega|exact⟨by kernel_rfl⟩
  refine bY.of [] (kb 0x40001c10890000382007f) (ι:={i:Nat // i≤g.ls.length∧pV (fun x y=>decide (y.a<x.a)||decide (x.a=y.a)&&decide (y.b≤x.b)) g.ls=pV (fun (x y:Lk)=>decide (y.a<x.a)||decide (x.a=y.a)&&decide (y.b≤x.b)) (g.ls.drop (i-1))})
   (fun z=>[(.o 1,It.box [TV.d (.sl (rts g.rs)),TV.d (.sl (pq g.ls))]),(.s 1,It.v (.ptr (.o 1) 0)),(.s 2,It.v (.d (.int .i64 0))),(.s 62,It.v (.d (.int .i64 g.ls.length))),(.s 63,It.v (.d (.int .i64 z.1)))])
   (fun z=>g.ls.length-z.1) ⟨0,by omega,by simp⟩ ?_ ?_
  ·exact GS.to (by simp[rts,pq])
  ·rintro⟨i,i1,i2⟩;by_cases hi:i<g.ls.length
   ·have hiz:(i:Int)<g.ls.length:=by omega
    have w1:IntKind.i64.wrap ((i:Int)+1)=(i:Int)+1:=wrap_i64 (by omega) (by omega);by_cases h0:i=0
    ·subst h0;have ak5:0<g.ls.length:=hi;simp -dsimp[ak5,w1];and_intros;all_goals try first|rfl|omega|exact⟨by kernel_rfl⟩
     exact⟨⟨1,by omega,by simp⟩,GS.to (by simp[wrap_i64 (n:=1) (by omega) (by omega)]),by simp;omega⟩
    ·obtain⟨j,rfl⟩:∃j,i=j+1:=⟨i-1,by omega⟩
     rw[qx]at i2
     have hx:g.ls[j]? = some g.ls[j]:=ah (by omega);have hy:g.ls[j+1]? = some g.ls[j+1]:=ah hi;generalize g.ls[j]=x at hx;generalize g.ls[j+1]=y at hy;have hx':=A8 hx;have hy':=A8 hy;have w0:IntKind.i64.wrap ((j:Int)+1-1)=j:=by rw[wrap_i64 (by omega) (by omega)];omega
     have w0':IntKind.i64.wrap (j:Int)=j:=wrap_i64 (by omega) (by omega);have hjz:(j:Int)<g.ls.length:=by omega
     have Dc:(j:Int)+1<g.ls.length:=by omega
     have agS:(0:Int)<(j:Int)+1:=by omega
     have hcm:=acz x y;simp only[YJ,Lk.cs,List.map]at hcm;have hge:=aiU x y;generalize cmpL x y=cc at hcm hge;by_cases a1:0≤cc
     ·rw[decide_eq_true a1]at hge
      simp -dsimp[Dc,agS,hjz,hx',hy',Lk.cs,kH,w0,w0',w1];and_intros;all_goals try first|rfl|omega|exact⟨by kernel_rfl⟩
      refine aF.of hcm [] 0 ?_;simp -dsimp[a1];and_intros;all_goals try first|rfl|omega|exact⟨by kernel_rfl⟩
      refine Fin.of ?_;have e:=zN hx hy i2 hge.symm;simp only[jE,oG,cond_true,cond_false,decide_eq_false c1,decide_eq_false c2,e1,e2,e3,e4,e5,e];simp
     ·rw[decide_eq_false a1]at hge
      simp -dsimp[Dc,agS,hjz,hx',hy',Lk.cs,kH,w0,w0'];and_intros;all_goals try first|rfl|omega|exact⟨by kernel_rfl⟩
      refine aF.of hcm [] 0 ?_;simp -dsimp[a1,wrap_i64 (n:=(j:Int)+1+1) (by omega) (by omega)];and_intros;all_goals try first|rfl|omega|exact⟨by kernel_rfl⟩
      exact⟨⟨j+1+1,by omega,xX hx hy i2 hge.symm⟩,GS.to (by simp),by simp;omega⟩
   ·have e6:=zM (i:=i-1) i2 (by omega);have hiz :¬(i:Int)<g.ls.length:=by omega
    simp -dsimp[hiz];and_intros;all_goals try first|rfl|omega|exact⟨by kernel_rfl⟩
    refine Fin.of ?_;simp only[jE,oG,cond_true,cond_false,decide_eq_false c1,decide_eq_false c2,e1,e2,e3,e4,e5,e6];simp
theorem aiw(g:bV)(hs:g.Sm):Contract Tryz.prog 163 [d_ g] [] (.d (.bool (decide (jE g=0)))) [] []:=by
 refine aC Tryz.func163 rfl (fun E0=>?_);refine iK.sound (g:=.mk) (ow:=[]) (kp:=(kb 7)) ?_;rw[Tryz.ntmps163];simp -dsimp[d_];refine aF.of (E5 g hs.r hs.l) [] 0 ?_;simp -dsimp[d_];and_intros;all_goals try first|rfl|omega|exact⟨by kernel_rfl⟩
 refine Fin.of ?_;simp
theorem Kv(g:bV)(hs:g.Sm)(r:Int):Contract Tryz.prog 81 [d_ g,.d (.int .i64 r)] [] (.d (.bool (decide (jE g=0)&&mZ g.rs r))) [] []:=by
 have hf:=ai5 g hs r;simp only[rtT,Rt.cs,List.map]at hf;have hsd:=fun h=>(VD (aib (gY (g:=g) h).ord) r).2
 refine aC Tryz.func81 rfl (fun E0=>?_);refine iK.sound (g:=.mk) (ow:=[]) (kp:=(kb 0x37)) ?_;rw[Tryz.ntmps81];simp -dsimp[d_];refine aF.of hf [] 0 ?_;simp -dsimp[d_];refine aF.of (aiw g hs) [] 0 ?_;by_cases h:jE g=0
 ·simp -dsimp[h];and_intros;all_goals try first|rfl|omega|exact⟨by kernel_rfl⟩
  refine Fin.of ?_;simp[h,hsd h,mZ]
 ·simp -dsimp[h];and_intros;all_goals try first|rfl|omega|exact⟨by kernel_rfl⟩
  refine Fin.of ?_;simp[h]
set_option linter.unusedVariables false
set_option maxHeartbeats 16000000
theorem aaE(g:bV)(hs:g.Sm):Contract Tryz.prog 158 [d_ g] [] (.d (.bool (decide (jE g=0)))) [] []:=by
 refine aC Tryz.func158 rfl (fun E0=>?_);refine iK.sound (g:=.mk) (ow:=[]) (kp:=(kb 7)) ?_;rw[Tryz.ntmps158];simp -dsimp[d_];refine aF.of (E5 g hs.r hs.l) [] 0 ?_;simp -dsimp[d_];and_intros;all_goals try first|omega|exact⟨by kernel_rfl⟩|rfl
 refine Fin.of ?_;simp
def YK(g:bV)(to:Int)(l:IM):List (List Int×D):=l.map fun x=>([x.1],ints (steps g (dist g to) x.1))
def twK(g:bV)(to:Int)(l:IM):List (List Int×TV):=(YK g to l).map fun x=>(x.1,.d x.2)
def twD(g:bV)(to:Int):D:=if jE g=0 then Qa (YK g to (DM g to))else .mp [] []
theorem ajX(g:bV)(to:Int)(l:IM):zh 1 (twK g to l):=fun y hy=>by simp only[twK,YK,bQ,ay]at hy;obtain⟨x,_,rfl⟩:=hy;rfl
theorem ajY{g:bV}{to:Int}{l:IM}{x:Int}(h:x∉l.map (·.1))(v:TV):vO (twK g to l) [x] v=twK g to l++[([x],v)]:=by
 refine Ew fun y hy e=>?_
 simp only[twK,YK,bQ,ay]at hy;obtain⟨z,hz,rfl⟩:=hy;simp only[Function.comp,eH,and_true]at e;exact h (ay.2 ⟨z,hz,e⟩)
@[simp]theorem anJ{po:Nat→Prop}{g:bV}{to:Int}{l:IM}{c:Nat}{pd:Option (List Int)}{s:Option oO}:It.only po (It.jA (twK g to l) c pd s):=by intro x hx;simp only[twK,YK,bQ,ay]at hx;obtain⟨y,_,rfl⟩:=hx;exact trivial
@[simp]theorem akl{po:Nat→Prop}{l:IM}{s:oO}:It.only po (It.Mc (im l) s):=by intro x hx;obtain⟨y,_,rfl⟩:=ay.1 hx;exact trivial
theorem aiv(g:bV)(hs:g.Sm)(to:Int):Contract Tryz.prog 79 [d_ g,.d (.int .i64 to)] [] (.d (twD g to)) [] []:=by
 refine aC Tryz.func79 rfl (fun E0=>?_);refine iK.sound (g:=.mk) (ow:=[3000009]) (kp:=(kb 0xa011f7)) ?_;rw[Tryz.ntmps79];by_cases h0:jE g=0
 ·have hg:=gY h0;have hrd:=alB g (by have:=hg.nr;omega) (by have:=hg.nl;omega) (anS hg) (fun x hx=>by
   obtain⟨h1,h2⟩:=hg.ends' hx;exact⟨nI.1 h1,nI.1 h2⟩) (fun x hx=>by have:=hg.lab hx;omega) (fun v=>adz hg v)
  have hds:=YZ g hg to;have hnx:=fun x=>ajy g hg to x
  have hnd:=ags hg to;have hst:∀x∈DM g to,nxG (DM g to) (Bv g.ls x.1) x.1=steps g (dist g to) x.1:=fun x hx=>by
   by_cases hto:fM g.rs to=true
   ·exact afg hg hto (akF hg hto) ((Ro hto).1 (show(x.1,x.2)∈_ from hx)).1
   ·unfold DM at hx;rw[if_neg hto]at hx;simp at hx
  have hD:twD g to=Qa (YK g to (DM g to)):=by unfold twD;rw[if_pos h0]
  rw[hD];obtain⟨L,hL⟩:∃L,L=DM g to:=⟨_,rfl⟩
  rw[←hL]at hds hnx hnd hst⊢
  simp only[YI]at hds;simp only[grT,ouM,YI]at hnx;simp -dsimp[d_];refine aF.of (aaE g hs) [] 0 ?_;simp -dsimp[d_,h0];refine aF.of hrd [] 0 ?_;simp -dsimp[d_,h0];and_intros;all_goals try first|omega|exact⟨by kernel_rfl⟩|rfl
  refine aF.of hds [] 0 ?_;simp -dsimp[d_,h0];and_intros;all_goals try first|omega|exact⟨by kernel_rfl⟩|rfl
  refine Fe.range ?_;simp -dsimp[Kz,O0,V8,QE,ade];intro sn;refine bY.of [3000009] (kb 0xa011f7) (ι:={z:IM×List (List Int)×Option (List Int) // ((z.1.map fun x=>[x.1])++z.2.1).Perm (L.map fun x=>[x.1])∧∀x∈z.1,x∈L})
   (fun z=>[(.s 5,It.v (.mref 9)),(.o 9,It.jA (twK g to z.1.1) 0 none none),(.s 6,It.v (.ptr (.o 6) 0)),(.o 6,It.box [.d (ouM g),.d (YI g)]),(.s 7,It.v (.d (V8 L))),
    (.s 21,It.v (.ptr (.o 21) 0)),(.o 21,It.Fb 4000021 sn z.1.2.1 z.1.2.2),(.o 4000021,It.Mc (im L) sn)])
   (fun z=>z.1.2.1.length) ⟨([],L.map (fun x=>[x.1]),none),by simp,by simp⟩ ?_ ?_
  ·exact GS.to (by simp[twK,YK,ouM,YI,V8])
  ·rintro⟨⟨dn,left,cur⟩,j1,j2⟩;simp only at j1 j2;simp -dsimp;refine Fe.next ?_;simp -dsimp[Wq];refine⟨fun hl0=>?_,fun x hx=>?_⟩
   ·subst hl0;rw[aZ]at j1
    have hp:=adC j1 j2 hnd;refine Fin.ghost ?_ (GS.ahY (l':=[(.s 4,It.v (.mref 9)),(.o 9,It.jA (twK g to L) 0 none none)]) 9 (c:=0) (pd:=none) (s:=none) (es:=twK g to dn) (es':=twK g to L) (by simp) ((hp.map _).map _) (by simp));refine Fin.yI 9 (YK g to L) (c:=0) (pd:=none) (s:=none) (by simp[twK]) ?_;simp -dsimp;refine Fin.of ?_;simp
   ·have hxm:x∈L.map fun x=>[x.1]:=j1.mem_iff.1 (aJ.2 (.inr hx))
    obtain⟨y,hy,rfl⟩:=ahh hxm;have hgy:gI L y.1=some y.2:=Jk hnd (show(y.1,y.2)∈L from hy);have hnk:y.1∉dn.map (·.1):=fun hm=>by
     obtain⟨z,hz,e⟩:=ay.1 hm;have nd:((dn.map fun x=>[x.1])++left).Nodup:=j1.symm.nodup (by
      rw[dI,dA]at hnd⊢
      exact hnd.imp fun h e=>h (by simpa using e))
     exact(jh.1 nd).2.2 [z.1] (ay.2 ⟨z,hz,rfl⟩) [y.1] hx (by rw[e])
    have hkp:=fun v=>ajY (g:=g) (to:=to) hnk v
    have hkl:=ajX g to dn;simp -dsimp[jG,hgy];refine aF.of (hnx y.1) [] 0 ?_;rw[hst y hy];simp -dsimp[jG,hgy,hkl,hkp];have jp:(((dn++[y]).map fun x=>[x.1])++left.erase [y.1]).Perm (L.map fun x=>[x.1]):=by rw[fH,eU];exact(((List.perm_cons_erase hx).symm).append_left _).trans j1
    have jm:∀x∈dn++[y],x∈L:=fun x hx=>by
     rcases aJ.1 hx with h|h
     ·exact j2 x h
     ·rw[bn.1 h];exact hy
    have hlt:(left.erase [y.1]).length<left.length:=by rw[List.length_erase_of_mem hx];have:=jr hx;omega
    have hsn:twK g to (dn++[y])=twK g to dn++[([y.1],TV.d (ints (steps g (dist g to) y.1)))]:=by simp[twK,YK]
    exact⟨rfl,rfl,⟨⟨(dn++[y],left.erase [y.1],some [y.1]),jp,jm⟩,GS.to (by simp[←hsn]),hlt⟩⟩
 ·have hD:twD g to = .mp [] []:=by unfold twD;rw[if_neg h0]
  rw[hD];simp -dsimp[d_];refine aF.of (aaE g hs) [] 0 ?_;simp -dsimp[d_,h0];refine Fin.yI 9 [] rfl ?_;simp -dsimp;refine Fin.of ?_;simp[Qa]
end Go.Proofs

set_option linter.unusedVariables false
namespace Go.Proofs
def P9(cp:Int→Bool)(go:Int→List Int×List Int→List Int×List Int)(s:List Int×List Int)(n:Int):List Int×List Int:=
 if n∈s.1 then s else if cp n=true then(s.1++[n],s.2++[n])else go n (s.1++[n],s.2)
def Qs(nx:Int→List Int)(cp:Int→Bool):Nat→Int→List Int×List Int→List Int×List Int
 | 0,_,s=>s
 | k+1,r,s=>(nx r).foldl (P9 cp (Qs nx cp k)) s
structure wU(nx:Int→List Int)(cp:Int→Bool)(R:Int→Prop)(ns:List Int)(s s':List Int×List Int):Prop where
 sub:∀x∈s.1,x∈s'.1
 dn:∀n∈ns,n∈s'.1
 cl:∀x∈s'.1,x∈s.1∨cp x=true∨∀n∈nx x,n∈s'.1
 out:∀n,n∈s'.2↔n∈s.2∨(n∈s'.1∧n∉s.1∧cp n=true)
 nd:s.1.Nodup→s'.1.Nodup
 ndo:s.2.Nodup→(∀x∈s.2,x∈s.1)→s'.2.Nodup∧(∀x∈s'.2,x∈s'.1)
 via:∀x∈s'.1,x∈s.1∨R x
 len:s'.2.length+s.1.length≤s'.1.length+s.2.length
section
variable {nx:Int→List Int} {cp:Int→Bool} {R:Int→Prop}
theorem wU.refl{ns:List Int}{s:List Int×List Int}(h:∀n∈ns,n∈s.1):wU nx cp R ns s s:=
 ⟨fun _ h=>h,h,fun _ h=>.inl h,fun n=>⟨.inl,fun h=>h.elim id fun h=>absurd h.1 h.2.1⟩,id,fun h g=>⟨h,g⟩,fun _ h=>.inl h,by omega⟩
theorem wU.trans{a b:List Int}{s t u:List Int×List Int}(h:wU nx cp R a s t)(g:wU nx cp R b t u):wU nx cp R (a++b) s u:=by
 refine⟨fun x hx=>g.sub x (h.sub x hx),fun n hn=>?_,fun x hx=>?_,fun n=>?_,fun hn=>g.nd (h.nd hn),fun h1 h2=>?_,fun x hx=>?_,?_⟩
 ·rcases aJ.1 hn with hn|hn
  ·exact g.sub n (h.dn n hn)
  ·exact g.dn n hn
 ·rcases g.cl x hx with h1|h1
  ·rcases h.cl x h1 with h2|h2|h2
   ·simp[*]
   ·simp[*]
   ·exact .inr (.inr fun n hn=>g.sub n (h2 n hn))
  simp[*]
 ·rw[g.out,h.out];have hs:=h.sub n;have hg:=g.sub n
  grind
 ·obtain⟨h3,h4⟩:=h.ndo h1 h2;exact g.ndo h3 h4
 ·rcases g.via x hx with h1|h1
  ·exact h.via x h1
  simp[*]
 ·have:=h.len;have:=g.len;omega
theorem CB{l:List Int}{n:Int}(h:l.Nodup)(hn:n∉l):(l++[n]).Nodup:=by grind
theorem wU.one{go:Int→List Int×List Int→List Int×List Int}{n:Int}{s:List Int×List Int}(hR:R n)(hgo:cp n=false→∀s,wU nx cp R (nx n) s (go n s)):wU nx cp R [n] s (P9 cp go s n):=by
 unfold P9;split
 ·exact wU.refl fun m hm=>by simp_all
 ·rename_i h;split
  ·refine⟨fun x hx=>by simp[*],fun m hm=>by simp_all,fun x hx=>?_,fun m=>?_,fun hn=>CB hn h,fun h1 h2=>⟨CB h1 fun e=>h (h2 n e),fun x hx=>?_⟩,fun x hx=>?_,?_⟩
   ·grind
   ·grind
   ·grind
   ·grind
   grind
  ·have hcf:cp n=false:=by simp[*]
   have g:=hgo hcf (s.1++[n],s.2);refine⟨fun x hx=>g.sub x (by simp[*]),fun m hm=>?_,fun x hx=>?_,fun m=>?_,fun hn=>g.nd (CB hn h),fun h1 h2=>g.ndo h1 fun x hx=>by simp[*],fun x hx=>?_,?_⟩
   ·obtain rfl:=bn.1 hm;exact g.sub _ (by simp)
   ·rcases g.cl x hx with h1|h1
    ·rcases aJ.1 h1 with h1|h1
     ·simp[*]
     ·obtain rfl:=bn.1 h1;exact .inr (.inr g.dn)
    simp[*]
   ·rw[g.out]
    grind
   ·rcases g.via x hx with h1|h1
    ·grind
    simp[*]
   ·have:=g.len
    grind
theorem wU.fold{go:Int→List Int×List Int→List Int×List Int}:∀{ns:List Int} {s:List Int×List Int},(∀n∈ns,R n∧(cp n=false→∀s,wU nx cp R (nx n) s (go n s)))→wU nx cp R ns s (ns.foldl (P9 cp go) s)
 | [],s,_=>wU.refl (by simp)
 | n::ns,s,h=>by have h1:=h n (by simp);exact wU.trans (a:=[n]) (wU.one h1.1 h1.2) (wU.fold fun m hm=>h m (by simp[hm]))
theorem aa7(d:Int→Nat)(hd:∀r,∀n∈nx r,d n<d r)(hR:∀n,R n→cp n=false→∀m∈nx n,R m):∀(k:Nat) (r:Int),d r<k→(∀n∈nx r,R n)→∀s,wU nx cp R (nx r) s (Qs nx cp k r s)
 | 0,_,h,_,_=>by omega
 | k+1,r,h,hr,s=>by exact wU.fold fun n hn=>⟨hr n hn,fun hc s=>aa7 d hd hR k n (by grind) (hR n (hr n hn) hc) s⟩
end
theorem agn{g:bV}(hg:g.Ok){t f:Int}{k:Nat}(hk:(dst g t f).toNat<k):
  (Qs (steps g (dist g t)) (mZ g.rs) k f ([],[])).2.Nodup∧∀n,n∈(Qs (steps g (dist g t)) (mZ g.rs) k f ([],[])).2↔P7 g t f n:=by
 have hd:∀r,∀n∈steps g (dist g t) r,(dst g t n).toNat<(dst g t r).toNat:=fun r n hn=>by have h1:=(yR hg hn).1;have h2:=(tN hg t n).1;omega
 have h:=aa7 (nx:=steps g (dist g t)) (cp:=mZ g.rs) (R:=fun n=>∃x,KE g t f x∧n∈steps g (dist g t) x) (fun x=>(dst g t x).toNat) hd (fun n hn hc m hm=>by
  obtain⟨x,hx,hnx⟩:=hn;exact⟨n,.via hx hnx hc,hm⟩) k f hk (fun n hn=>⟨f,.nil,hn⟩) ([],[])
 refine⟨(h.ndo (by simp) (by simp)).1,fun n=>?_⟩;rw[h.out];simp only[fP,false_or,not_false_iff,true_and];constructor
 ·rintro⟨h1,h2⟩;rcases h.via n h1 with h3|⟨x,hx,hn⟩
  ·trivial
  ·exact⟨x,hx,hn,h2⟩
 ·rintro⟨x,hx,hn,hc⟩;have key:∀x,KE g t f x→∀n∈steps g (dist g t) x,n∈(Qs (steps g (dist g t)) (mZ g.rs) k f ([],[])).1:=by
   intro x hx
   induction hx with
   | nil=>exact h.dn
   | via _ hm hcm ih=>
     intro n hn;rcases h.cl _ (ih _ hm)with h3|h3|h3
     ·trivial
     ·simp_all
     simp[*]
  grind
end Go.Proofs
