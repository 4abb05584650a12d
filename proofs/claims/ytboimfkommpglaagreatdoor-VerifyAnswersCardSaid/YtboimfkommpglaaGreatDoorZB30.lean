/-
  What functions of the program compute, stated as contracts over plain data; the conditions of each stand in its own statement.
-/
import Derived.Test.YtboimfkommpglaaGreatDoorZB18
import Derived.Test.YtboimfkommpglaaGreatDoorZB13
import Derived.Test.YtboimfkommpglaaGreatDoorZB21
import Derived.Test.YtboimfkommpglaaGreatDoorZB29
import Derived.Test.YtboimfkommpglaaGreatDoorZB24
import Derived.Test.YtboimfkommpglaaGreatDoorZB10
import Derived.Test.YtboimfkommpglaaGreatDoorZB16
import Derived.Test.YtboimfkommpglaaGreatDoorZB25
import Derived.Test.YtboimfkommpglaaGreatDoorZB26
import Derived.Test.YtboimfkommpglaaGreatDoorZB27
set_option linter.unusedVariables false
set_option linter.unusedSimpArgs false
set_option maxRecDepth 100000
set_option maxHeartbeats 16000000
namespace Go.Proofs
open Go Go.Tr
theorem aeO(l:List Ed)(hl:l.length≤1000000)(f:FuncId)(ds:List D)(q:Ed→Bool)(hf:∀x,Contract Tryz.prog f [.agg (x.cs.map .d),.ptr (.x 0) 0] [.box (ds.map .d)] (.d (.bool (q x))) [.box (ds.map .d)] [])(hok:dP Tryz.prog f=true):
  Contract Tryz.prog 246 [.d (.sl (lX l)),.clo f [.ptr (.x 0) 0]] [.box (ds.map .d)] (.d (.int .i64 (JQ q l))) [.box (ds.map .d)] []:=by
 refine aC Tryz.func246 rfl (fun E0=>?_);refine iK.sound (g:=.mk) (ow:=[]) (kp:=(kb 0x103b3)) ?_;rw[Tryz.ntmps246];simp -dsimp;refine bY.of [] (kb 0x103b3) (ι:={i:Nat // i≤l.length∧∀a,a<i→∀x,l[a]? = some x→q x=false})
  (fun z=>[(.s 0,It.v (.d (.sl (lX l)))),(.s 1,It.v (.clo f [TV.ptr (.x 0) 0])),(.x 0,It.box (List.map TV.d ds)),(.s 4,It.v (.d (.int .i64 0))),(.s 7,It.v (.d (.int .i64 l.length))),(.s 8,It.v (.d (.int .i64 z.1)))]) (fun z=>l.length-z.1) ⟨0,by omega,fun a h=>by omega⟩ ?_ ?_
 ·exact GS.to (by simp)
 ·rintro⟨i,i1,i2⟩;by_cases hi:i<l.length
  ·obtain⟨x,hx⟩:∃x,l[i]? = some x:=⟨l[i],ah hi⟩
   simp -dsimp[hi,Rx hx,Ed.cs,wrap_i64 (n:=(i:Int)+1) (by omega) (by omega)];refine aF.of (hf x) [.x 0] 0 ?_;rcases (au (q x)).symm with h|h
   ·simp -dsimp[h,hok,Ed.cs,wrap_i64 (n:=(i:Int)+1) (by omega) (by omega)];exact⟨⟨i+1,by omega,fun a ha y hy=>by
     by_cases e:a=i
     ·subst e;rw[hx]at hy;simp only[aj]at hy;subst hy;exact h
     ·exact i2 a (by omega) y hy⟩,GS.to (by simp),by simp;omega⟩
   ·simp -dsimp[h,hok,Ed.cs];refine Fin.of ?_;simp[FK hx h i2]
  ·simp -dsimp[hi];refine Fin.of ?_;simp;exact(FM fun a ha=>i2 a (by omega)).symm
theorem Xw(l:List Ed)(hl:l.length≤1000000)(f:FuncId)(ds:List D)(q:Ed→Bool)(hf:∀x,Contract Tryz.prog f [.agg (x.cs.map .d),.ptr (.x 0) 0] [.box (ds.map .d)] (.d (.bool (q x))) [.box (ds.map .d)] [])(hok:dP Tryz.prog f=true):
  Contract Tryz.prog 210 [.d (.sl (lX l)),.clo f [.ptr (.x 0) 0]] [.box (ds.map .d)] (.d (.bool (l.any q))) [.box (ds.map .d)] []:=by
 refine aC Tryz.func210 rfl (fun E0=>?_);refine iK.sound (g:=.mk) (ow:=[]) (kp:=(kb 0x13)) ?_;rw[Tryz.ntmps210];simp -dsimp;refine aF.of (aeO l hl f ds q hf hok) [.x 0] 0 ?_;simp -dsimp;refine Fin.of ?_;simp[AZ]
theorem an1(x y:Ed):Contract Tryz.prog 211 [.agg (y.cs.map .d),.ptr (.x 0) 0] [.box (x.cs.map .d)] (.d (.bool (decide (y.r=x.r)))) [.box (x.cs.map .d)] []:=by refine aC Tryz.func211 rfl (fun E0=>?_);refine iK.sound (g:=.mk) (ow:=[]) (kp:=(kb 0xf)) ?_;rw[Tryz.ntmps211];simp -dsimp[Ed.cs];refine Fin.of ?_;simp
theorem Dz(p:Pn)(hp:p.es.length≤1000):Contract Tryz.prog 136 [iE p] [] (.d (.bool (iT p))) [] []:=by
 refine aC Tryz.func136 rfl (fun E0=>?_);refine iK.sound (g:=.mk) (ow:=[]) (kp:=(kb 0x8000000003d0000003f)) ?_;rw[Tryz.ntmps136];simp -dsimp[iE];refine aF.of (OD p.gU 0 7) [] 0 ?_;rcases (au (inB p.gU 0 7)).symm with a1|a1
 ·simp -dsimp[a1];refine Fin.of ?_;simp;exact xq (by simp[vV,a1])
 ·simp -dsimp[a1];refine aF.of (qN p.len) [] 0 ?_;rcases (au (dQ p.len)).symm with a2|a2
  ·by_cases a3:p.len=0
   ·by_cases a4:p.es.length=0
    ·have hb:vV p=true:=by simp[vV,a1,a2,a3,a4,show dQ 0=false from rfl]
     simp -dsimp[a1,a2,a3,a4,show dQ 0=false from rfl];refine bY.of [] (kb 0x8000000003d0000003f) (ι:=Unit)
      (fun z=>[(.s 0,It.v (.agg [TV.d (.int .i64 p.gU),TV.d (.int .i64 p.len),TV.d (.sl (lX p.es))])),(.o 1,It.box [TV.d (.int .i64 p.gU),TV.d (.int .i64 p.len),TV.d (.sl (lX p.es))]),
       (.s 1,It.v (.ptr (.o 1) 0)),(.s 2,It.v (.d (.bool false))),(.s 34,It.v (.d (.sl (lX p.es)))),(.s 35,It.v (.d (.int .i64 0))),(.s 36,It.v (.d (.int .i64 0)))])
      (fun z=>0) () ?_ ?_
     ·exact GS.to (by simp[a3,a4])
     ·rintro⟨⟩;simp -dsimp[a4];refine Fin.of ?_;simp;exact H6 hb (fun i hi=>by omega) (fun i j hj hi=>by omega)
    ·have a5:0<p.es.length:=by omega
     simp -dsimp[a1,a2,a3,a4,a5,show dQ 0=false from rfl];refine Fin.of ?_;simp;exact xq (by simp[vV,a1,a2,a3,a4,show dQ 0=false from rfl])
   ·simp -dsimp[a1,a2,a3];refine Fin.of ?_;simp;exact xq (by simp[vV,a1,a2,a3])
  ·by_cases a6:p.es.length≤24
   ·have a7 :¬(24:Int)<p.es.length:=by omega
    have hb:vV p=true:=by simp[vV,a1,a2,a6]
    simp -dsimp[a1,a2,a7];refine bY.of [] (kb 0x8000000003d0000003f) (ι:={i:Nat // i≤p.es.length∧(∀a,a<i→Oc p.es a=true)∧∀a b,b<a→a<i→G5 p.es a≠G5 p.es b})
     (fun z=>[(.s 0,It.v (.agg [TV.d (.int .i64 p.gU),TV.d (.int .i64 p.len),TV.d (.sl (lX p.es))])),(.o 1,It.box [TV.d (.int .i64 p.gU),TV.d (.int .i64 p.len),TV.d (.sl (lX p.es))]),
      (.s 1,It.v (.ptr (.o 1) 0)),(.s 2,It.v (.d (.bool false))),(.s 34,It.v (.d (.sl (lX p.es)))),(.s 35,It.v (.d (.int .i64 p.es.length))),(.s 36,It.v (.d (.int .i64 z.1)))])
     (fun z=>p.es.length-z.1) ⟨0,by omega,fun a h=>by omega,fun a b _ h=>by omega⟩ ?_ ?_
    ·exact GS.to (by simp)
    ·rintro⟨i,i1,i2,i3⟩;by_cases hi:i<p.es.length
     ·obtain⟨x,hx⟩:∃x,p.es[i]? = some x:=⟨p.es[i],ah hi⟩
      have gx:gid p.es i=x.id∧G5 p.es i=x.r:=by simp[gid,G5,List.getD,hx]
      simp -dsimp[hi,Rx hx,Ed.cs,agy,wrap_i64 (n:=(i:Int)+1) (by omega) (by omega)];refine⟨i1,?_,?_⟩
      ·intro e he;obtain⟨w,_,rfl⟩:=ay.1 he;rfl
      refine aF.of (Xw (p.es.take i) (by simp;omega) 211 x.cs (fun y=>decide (y.r=x.r)) (an1 x) (by simp)) [.o 4] 0 ?_;simp -dsimp[Ed.cs];refine aF.of (OD x.id 1 256) [] 0 ?_;rcases (au (inB x.id 1 256)).symm with b1|b1
      ·simp -dsimp[b1];try refine⟨?_,⟨by kernel_rfl⟩⟩
       refine Fin.of ?_;simp;exact EK hi (by simp[Oc,gx,b1])
      ·simp -dsimp[b1];refine aF.of (OD x.r 1 99) [] 0 ?_;rcases (au (inB x.r 1 99)).symm with b2|b2
       ·simp -dsimp[b1,b2];try refine⟨?_,⟨by kernel_rfl⟩⟩
        refine Fin.of ?_;simp;exact EK hi (by simp[Oc,gx,b1,b2])
       ·rcases (au ((p.es.take i).any fun y=>decide (y.r=x.r))).symm with b8|b8
        ·have hne:∀b,b<i→G5 p.es i≠G5 p.es b:=fun b hb=>by
          rw[dL]at b8
          obtain⟨y,hy⟩:∃y,p.es[b]? = some y:=⟨p.es[b],ah (by omega)⟩
          have:=b8 y (by
           refine bU (i:=b) ?_;rw[eG,if_pos hb];exact hy)
          have gb:G5 p.es b=y.r:=by simp[G5,List.getD,hy]
          rw[gx.2,gb];intro h;rw[h]at this;simp at this
         by_cases b3:0<i
         ·obtain⟨y,hy⟩:∃y,p.es[i-1]? = some y:=⟨p.es[i-1],ah (by omega)⟩
          have gy:gid p.es (i-1)=y.id:=by simp[gid,List.getD,hy]
          have b5:(1:Int)≤i:=by omega
          have b6:(i:Int)-1<p.es.length:=by omega
          have b7:i≠0:=by omega
          by_cases b4:x.id≤y.id
          ·simp -dsimp[b1,b2,b8,b3,b4,b5,b6,Fv hy,Ed.cs,wrap_i64 (n:=(i:Int)-1) (by omega) (by omega)];refine⟨?_,⟨by kernel_rfl⟩⟩;refine Fin.of ?_;simp;exact EK hi (by simp[Oc,gx,gy,b1,b2,b7]<;>omega)
          ·simp -dsimp[b1,b2,b8,b3,b4,b5,b6,Fv hy,Ed.cs,wrap_i64 (n:=(i:Int)-1) (by omega) (by omega),wrap_i64 (n:=(i:Int)+1) (by omega) (by omega)];try refine⟨?_,⟨by kernel_rfl⟩⟩
           exact⟨⟨i+1,by omega,fun a ha=>by
            by_cases e:a=i
            ·subst e;simp[Oc,gx,gy,b1,b2]<;>omega
            ·exact i2 a (by omega),fun a b h1 h2=>by
            by_cases e:a=i
            ·subst e;exact hne b h1
            ·exact i3 a b h1 (by omega)⟩,GS.to (by simp),by simp;omega⟩
         ·obtain rfl:i=0:=by omega
          simp -dsimp[b1,b2,b8,wrap_i64 (n:=1) (by omega) (by omega)];try refine⟨?_,⟨by kernel_rfl⟩⟩
          exact⟨⟨1,by omega,fun a ha=>by
           obtain rfl:a=0:=by omega
           simp[Oc,gx,b1,b2],fun a b h1 h2=>by omega⟩,GS.to (by simp),by simp;omega⟩
        ·simp -dsimp[b1,b2,b8];try refine⟨?_,⟨by kernel_rfl⟩⟩
         refine Fin.of ?_;simp;rw[jU]at b8
         obtain⟨y,hy,he⟩:=b8;obtain⟨b,hb⟩:=bM hy;have hbi:b<i:=by have:=(aA.1 hb).1;simp at this;omega
         rw[eG,if_pos hbi]at hb
         have gb:G5 p.es b=y.r:=by simp[G5,List.getD,hb]
         exact aah hbi hi (by rw[gx.2,gb];simp at he;exact he.symm)
     ·simp -dsimp[hi];refine Fin.of ?_;simp;exact H6 hb (fun a ha=>i2 a (by omega)) (fun a b h1 h2=>i3 a b h1 (by omega))
   ·have a7:(24:Int)<p.es.length:=by omega
    simp -dsimp[a1,a2,a7];refine Fin.of ?_;simp;exact xq (by simp[vV,a1,a2,a6])
set_option linter.unusedVariables false
theorem afr{p:Pn}(h:iT p=true):p.es.length≤24:=by
 simp only[iT,decide_eq_true_eq]at h;have:=h.1;simp[vV,inB]at this
 omega
def JD(l:List Rt):List Int:=(l.filter fun x=>x.cap).map (·.id)
theorem YR(l:List Rt):(JD l).length≤l.length:=by unfold JD;rw[aN];exact aQ _ _
theorem tabs_eq(g:bV)(p:Pn):tabs g p g.rs=(JD g.rs).map (nN g p):=by simp[tabs,JD,bQ,Function.comp_def]
theorem alP(g:bV)(hs:g.Sm)(p:Pn)(hp:p.es.length≤1000):Contract Tryz.prog 200 [d_ g,iE p] [] (allT (yE g p).1 (yE g p).2) [] []:=by
 have k1:=E5 g hs.r hs.l;have k2:=Dz p hp;simp only[d_,iE]at k1 k2;by_cases h0:jE g=0
 case neg=>
  have e:yE g p=([],1):=by unfold yE;rw[if_neg (fun h=>h0 h.1)]
  rw[e];refine aC Tryz.func200 rfl (fun E0=>?_);refine iK.sound (g:=.mk) (ow:=[]) (kp:=(kb 0x23d017f)) ?_;rw[Tryz.ntmps200];simp -dsimp[d_,iE];refine aF.of k1 [] 0 ?_;simp -dsimp[h0];and_intros;all_goals try first|rfl|omega|exact⟨by kernel_rfl⟩
  refine Fin.view 4 ?_;simp -dsimp;refine Fin.of ?_;simp[allT]
 rw[h0]at k1
 rcases (au (iT p)).symm with hp2|hp2
 ·have e:yE g p=([],1):=by unfold yE;rw[if_neg (by simp[hp2])]
  rw[e];rw[hp2]at k2
  refine aC Tryz.func200 rfl (fun E0=>?_);refine iK.sound (g:=.mk) (ow:=[]) (kp:=(kb 0x23d017f)) ?_;rw[Tryz.ntmps200];simp -dsimp[d_,iE];refine aF.of k1 [] 0 ?_;simp -dsimp;refine aF.of k2 [] 0 ?_;simp -dsimp;and_intros;all_goals try first|rfl|omega|exact⟨by kernel_rfl⟩
  refine Fin.view 4 ?_;simp -dsimp;refine Fin.of ?_;simp[allT]
 rw[hp2]at k2
 have hg:=gY h0;have hnr:=hg.nr;have e:yE g p=((JD g.rs).map (nN g p),0):=by unfold yE;rw[if_pos ⟨h0,hp2⟩,tabs_eq]
 rw[e];have hcl:=YR g.rs;have k5:=aip g h0 p (by have:=afr hp2;omega) (JD g.rs) (by omega) (fun r hr=>by
  obtain⟨x,hx,rfl⟩:=ay.1 hr;exact nI.2 (ay.2 ⟨x,(bG.1 hx).1,rfl⟩))
 simp only[d_,iE]at k5;refine aC Tryz.func200 rfl (fun E0=>?_);refine iK.sound (g:=.mk) (ow:=[]) (kp:=(kb 0x23d017f)) ?_;rw[Tryz.ntmps200];simp -dsimp[d_,iE];refine aF.of k1 [] 0 ?_;simp -dsimp;refine aF.of k2 [] 0 ?_;simp -dsimp;try refine⟨?_,⟨by kernel_rfl⟩⟩
 refine bY.of [] (kb 0x23d017f) (ι:={i:Nat // i≤g.rs.length})
  (fun z=>[(.o 2,It.box [TV.d (.sl (rts g.rs)),TV.d (.sl (pq g.ls))]),(.s 2,It.v (.ptr (.o 2) 0)),(.o 3,It.box [TV.d (.int .i64 p.gU),TV.d (.int .i64 p.len),TV.d (.sl (lX p.es))]),(.s 3,It.v (.ptr (.o 3) 0)),(.s 4,It.v (.c (.slice none 0 0))),(.s 5,It.v (.d (.int .i64 0))),(.s 6,It.v (.bK 6 (JD (g.rs.take z.1)).length)),(.o 6,It.row 3 1 (dd (fE .i64 (JD (g.rs.take z.1)))) false),
   (.s 18,It.v (.d (.sl (rts g.rs)))),(.s 19,It.v (.d (.int .i64 g.rs.length))),(.s 20,It.v (.d (.int .i64 z.1)))])
  (fun z=>g.rs.length-z.1) ⟨0,by omega⟩ ?_ ?_
 ·exact GS.own' (k:=6) 3 1 (by simp) (by simp) (by simp[JD,fE])
 ·rintro⟨i,i1⟩;by_cases hi:i<g.rs.length
  ·have hiz:(i:Int)<g.rs.length:=by omega
   have hx:g.rs[i]? = some g.rs[i]:=ah hi;have ht:g.rs.take (i+1)=g.rs.take i++[g.rs[i]]:=by rw[aO,ah hi];rfl
   generalize g.rs[i]=x at hx ht;have hx':=r_ hx;have asn:=YR (g.rs.take i);rw[bF]at asn
   have w1:IntKind.i64.wrap ((i:Int)+1)=(i:Int)+1:=wrap_i64 (by omega) (by omega);rcases (au x.cap).symm with h|h
   ·have hn:JD (g.rs.take (i+1))=JD (g.rs.take i):=by simp[JD,ht,h]
    simp -dsimp[hiz,hx',Rt.cs,h,w1];and_intros;all_goals try first|rfl|omega|exact⟨by kernel_rfl⟩
    exact⟨⟨i+1,by omega⟩,GS.to (by simp[hn]),by simp;omega⟩
   ·have hn:JD (g.rs.take (i+1))=JD (g.rs.take i)++[x.id]:=by simp[JD,ht,h]
    simp -dsimp[hiz,hx',Rt.cs,h,w1];and_intros;all_goals try first|rfl|omega|exact⟨by kernel_rfl⟩
    exact⟨⟨i+1,by omega⟩,GS.to (by simp[hn,fE]),by simp;omega⟩
  ·have hiz :¬(i:Int)<g.rs.length:=by omega
   obtain rfl:i=g.rs.length:=by omega
   rw[bP];simp only[ints]at k5;simp -dsimp[hiz,fE];and_intros;all_goals try first|rfl|omega|exact⟨by kernel_rfl⟩
   refine aF.of k5 [] 0 ?_;simp -dsimp;and_intros;all_goals try first|rfl|omega|exact⟨by kernel_rfl⟩
   refine Fin.of ?_;simp[aiE]
theorem akK(p:Pn)(a b:Tb):Contract Tryz.prog 202 [gQ a,gQ b,.ptr (.x 0) 0] [It.box [TV.d (.int .i64 p.gU),TV.d (.int .i64 p.len),TV.d (.sl (lX p.es))]] (.d (.bool (Zc p a b))) [It.box [TV.d (.int .i64 p.gU),TV.d (.int .i64 p.len),TV.d (.sl (lX p.es))]] []:=by
 refine aC Tryz.func202 rfl (fun E0=>?_);refine iK.sound (g:=.mk) (ow:=[]) (kp:=(kb 0x3f)) ?_;rw[Tryz.ntmps202];unfold Zc;by_cases c1:a.r=b.r
 ·by_cases c2:b.sd=p.gU
  ·by_cases c3:b.len=p.len
   ·simp -dsimp[gQ,eq_true c1,eq_true c2,eq_true c3];and_intros;all_goals try first|rfl|omega|exact⟨by kernel_rfl⟩
    refine Fin.of ?_;simp[c1,c2,c3]
   ·simp -dsimp[gQ,eq_true c1,eq_true c2,eq_false c3];and_intros;all_goals try first|rfl|omega|exact⟨by kernel_rfl⟩
    refine Fin.of ?_;simp[c1,c2,c3]
  ·simp -dsimp[gQ,eq_true c1,eq_false c2];and_intros;all_goals try first|rfl|omega|exact⟨by kernel_rfl⟩
   refine Fin.of ?_;simp[c1,c2]
 ·simp -dsimp[gQ,eq_false c1];and_intros;all_goals try first|rfl|omega|exact⟨by kernel_rfl⟩
  refine Fin.of ?_;simp[c1]
theorem akI(p:Pn)(l m:List Tb)(hl:l.length≤1000000):Contract Tryz.prog 201 [.d (.sl (ig l)),.d (.sl (ig m)),.clo 202 [.ptr (.x 0) 0]] [It.box [TV.d (.int .i64 p.gU),TV.d (.int .i64 p.len),TV.d (.sl (lX p.es))]] (.d (.bool (NH p l m))) [It.box [TV.d (.int .i64 p.gU),TV.d (.int .i64 p.len),TV.d (.sl (lX p.es))]] []:=by
 have hok:dP Tryz.prog 202=true:=by kernel_rfl
 obtain⟨w,hw⟩:∃w,w=NH p l m:=⟨_,rfl⟩
 rw[←hw];refine aC Tryz.func201 rfl (fun E0=>?_);refine iK.sound (g:=.mk) (ow:=[]) (kp:=(kb 0x4007c3c7)) ?_;rw[Tryz.ntmps201];by_cases hlen:l.length=m.length
 case neg=>
  have XW:w=false:=hw.trans (mQ.2 fun e=>hlen (Qv e));have hz :¬((l.length:Int)=m.length):=by omega
  simp -dsimp[ig,hlen,hz];and_intros;all_goals try first|rfl|omega|exact⟨by kernel_rfl⟩
  refine Fin.of ?_;simp[XW]
 have hz:(l.length:Int)=m.length:=by omega
 simp -dsimp[ig,hlen,hz];and_intros;all_goals try first|rfl|omega|exact⟨by kernel_rfl⟩
 refine bY.of [] (kb 0x4007c3c7) (ι:={i:Nat // i≤l.length∧∀j,j<i→∀a b,l[j]? = some a→m[j]? = some b→Zc p a b=true})
  (fun z=>[(.x 0,It.box [TV.d (.int .i64 p.gU),TV.d (.int .i64 p.len),TV.d (.sl (lX p.es))]),(.s 1,It.v (.d (.sl (ig m)))),(.s 2,It.v (.clo 202 [.ptr (.x 0) 0])),(.s 15,It.v (.d (.sl (ig l)))),(.s 16,It.v (.d (.int .i64 l.length))),(.s 17,It.v (.d (.int .i64 z.1)))])
  (fun z=>l.length-z.1) ⟨0,by omega,fun j h=>by omega⟩ ?_ ?_
 ·exact GS.to (by simp[ig,hlen])
 ·rintro⟨i,i1,i2⟩;by_cases hi:i<l.length
  ·have hiz:(i:Int)<l.length:=by omega
   have Dc:(i:Int)<m.length:=by omega
   have hx:l[i]? = some l[i]:=ah hi;have hy:m[i]? = some (m[i]'(by omega)):=ah (by omega);generalize l[i]=a at hx;generalize m[i]'(by omega)=b at hy;have h1:=akK p a b;simp only[gQ]at h1;have w1:IntKind.i64.wrap ((i:Int)+1)=(i:Int)+1:=wrap_i64 (by omega) (by omega);simp -dsimp[ig,hiz,Dc,hx,hy,Tb.cs];and_intros
   all_goals try first|rfl|omega|exact⟨by kernel_rfl⟩
   refine aF.of h1 [.x 0] 0 ?_;rcases (au (Zc p a b)).symm with c|c
   ·have XW:w=false:=hw.trans (agF hx hy c);simp -dsimp[hok,c];and_intros;all_goals try first|rfl|omega|exact⟨by kernel_rfl⟩
    refine Fin.of ?_;simp[XW]
   ·simp -dsimp[hok,c,w1];and_intros;all_goals try first|rfl|omega|exact⟨by kernel_rfl⟩
    refine⟨⟨i+1,by omega,fun j hj a' b' h1 h2=>?_⟩,GS.to (by simp[ig]),by simp;omega⟩;by_cases e:j=i
    ·subst e;rw[hx]at h1;rw[hy]at h2
     simp only[aj]at h1 h2;subst h1 h2;exact c
    ·exact i2 j (by omega) a' b' h1 h2
  ·have hiz :¬(i:Int)<l.length:=by omega
   have XW:w=true:=hw.trans (RX hlen fun j a b h1 h2=>i2 j (by have:=(aA.1 h1).1;omega) a b h1 h2);simp -dsimp[hiz];and_intros;all_goals try first|rfl|omega|exact⟨by kernel_rfl⟩
   refine Fin.of ?_;simp[XW]
theorem abp(g:bV)(hs:g.Sm)(p:Pn)(hp:p.es.length≤1000)(l:List Tb)(hl:Good l):Contract Tryz.prog 127 [d_ g,iE p,.d (.sl (ig l))] []
  (.sZ [.d (.sl (ig (exV g p l).1)),.d (.int .i64 (exV g p l).2)]) [] []:=by
 have h1:=alP g hs p hp;have h2:=IJ l hl.big;have hr:=hs.r;obtain⟨w,hw⟩:∃w,w=exV g p l:=⟨_,rfl⟩
 rw[←hw];unfold exV at hw;by_cases c0:jE g=0∧iT p=true
 case neg=>
  rw[if_pos (.inl c0)]at hw
  have e:yE g p=([],1):=by unfold yE;rw[if_neg c0]
  rw[e]at h1
  simp only[d_,iE,allT]at h1;refine aC Tryz.func127 rfl (fun E0=>?_);refine iK.sound (g:=.mk) (ow:=[]) (kp:=(kb 0x1043d000bdf)) ?_;rw[Tryz.ntmps127];simp -dsimp[d_,iE];refine aF.of h1 [] 0 ?_;simp -dsimp;and_intros;all_goals try first|rfl|omega|exact⟨by kernel_rfl⟩
  refine Fin.view 6 ?_;simp -dsimp;refine Fin.of ?_;simp[hw,ig]
 rw[BI c0.1 c0.2]at h1
 have htl:=CZ g p;have h3:=akI p (tabs g p g.rs) l (by omega);simp only[d_,iE,allT]at h1;rw[show(tabs g p g.rs).map Tb.cs=ig (tabs g p g.rs) from rfl]at h1
 generalize tabs g p g.rs=W at h1 h3 hw;refine aC Tryz.func127 rfl (fun E0=>?_);refine iK.sound (g:=.mk) (ow:=[]) (kp:=(kb 0x1043d000bdf)) ?_;rw[Tryz.ntmps127];simp -dsimp[d_,iE];refine aF.of h1 [] 0 ?_;simp -dsimp;and_intros;all_goals try first|rfl|omega|exact⟨by kernel_rfl⟩
 refine aF.of h2 [] 0 ?_;by_cases c1:tK l=0
 case neg=>
  rw[if_pos (.inr c1)]at hw
  simp -dsimp[c1];and_intros;all_goals try first|rfl|omega|exact⟨by kernel_rfl⟩
  refine Fin.view 6 ?_;simp -dsimp;refine Fin.of ?_;simp[hw,ig]
 rw[if_neg (by simp[c0,c1])]at hw
 simp -dsimp[c1];and_intros;all_goals try first|rfl|omega|exact⟨by kernel_rfl⟩
 refine bY.of [] (kb 0x1043d000bdf) (ι:={i:Nat // i≤g.rs.length∧∀x∈g.rs.take i,x.cap=true})
  (fun z=>[(.s 2,It.v (.d (.sl (ig l)))),(.o 4,It.box [TV.d (.int .i64 p.gU),TV.d (.int .i64 p.len),TV.d (.sl (lX p.es))]),(.s 4,It.v (.ptr (.o 4) 0)),(.s 8,It.v (.d (.sl (ig W)))),(.s 6,It.v (.c (.slice none 0 0))),(.s 7,It.v (.d (.int .i64 0))),
   (.s 26,It.v (.d (.sl (rts g.rs)))),(.s 27,It.v (.d (.int .i64 g.rs.length))),(.s 28,It.v (.d (.int .i64 z.1)))])
  (fun z=>g.rs.length-z.1) ⟨0,by omega,by simp⟩ ?_ ?_
 ·exact GS.to (by simp)
 ·rintro⟨i,i1,i2⟩;by_cases hi:i<g.rs.length
  ·have hiz:(i:Int)<g.rs.length:=by omega
   have hx:g.rs[i]? = some g.rs[i]:=ah hi;have hm:=aB hi;generalize g.rs[i]=x at hx hm;have hx':=r_ hx;have w1:IntKind.i64.wrap ((i:Int)+1)=(i:Int)+1:=wrap_i64 (by omega) (by omega);rcases (au x.cap).symm with c|c
   ·rw[if_pos (jU.2 ⟨x,hm,by simp[c]⟩)]at hw
    simp -dsimp[hiz,hx',Rt.cs,c];and_intros;all_goals try first|rfl|omega|exact⟨by kernel_rfl⟩
    refine Fin.view 6 ?_;simp -dsimp;refine Fin.of ?_;simp[hw,ig]
   ·simp -dsimp[hiz,hx',Rt.cs,c,w1];and_intros;all_goals try first|rfl|omega|exact⟨by kernel_rfl⟩
    refine⟨⟨i+1,by omega,fun y hy=>?_⟩,GS.to (by simp),by simp;omega⟩;rw[aO,hx,fJ]at hy
    rcases aJ.1 hy with e|e
    ·exact i2 y e
    ·rw[bn.1 e];exact c
  ·have hiz :¬(i:Int)<g.rs.length:=by omega
   rw[aW (by omega)]at i2
   rw[if_neg (by rw[kY,dL];intro x hx;simp[i2 x hx])]at hw
   simp -dsimp[hiz];and_intros;all_goals try first|rfl|omega|exact⟨by kernel_rfl⟩
   refine aF.of h3 [.o 4] 0 ?_;rcases (au (NH p W l)).symm with c|c
   ·rw[if_pos c]at hw
    simp -dsimp[c];and_intros;all_goals try first|rfl|omega|exact⟨by kernel_rfl⟩
    refine Fin.view 6 ?_;simp -dsimp;refine Fin.of ?_;simp[hw,ig]
   ·rw[if_neg (by simp[c])]at hw
    simp -dsimp[c];and_intros;all_goals try first|rfl|omega|exact⟨by kernel_rfl⟩
    refine Fin.of ?_;simp[hw]
def lC(l:List (List Int)):List (List D):=l.map fun x=>x.map (D.int .i64)
theorem uS(a b:List (List Int)):lC (a++b)=lC a++lC b:=by simp[lC]
@[simp]theorem ng(a:List (List Int)):(lC a).length=a.length:=by simp[lC]
theorem Uu(c b:Tb)(es:List Ed):(Bf c b es).length≤es.length:=List.length_filterMap_le _ _
theorem TA(bad:List Tb)(es:List Ed):∀W:List Tb,(yA bad W es).length≤W.length*es.length
 | []=>by simp[yA]
 | b::W=>by have h1:=TA bad es W;have h2:=Uu ((iq bad b.r).getD tb0) b es;unfold yA at h1⊢;rw[gV,aS,aT,Nat.succ_mul];omega
theorem Wj{bad W:List Tb}{es:List Ed}{i:Nat}{b:Tb}(h:W[i]? = some b):yA bad (W.take (i+1)) es=yA bad (W.take i) es++Bf ((iq bad b.r).getD tb0) b es:=by unfold yA;rw[aO,h,fJ,lG];simp
theorem WZ{c b:Tb}{es:List Ed}{j:Nat}{x:Ed}(h:es[j]? = some x):Bf c b (es.take (j+1))=Bf c b (es.take j)++match dif (jo c x.id) (jo b x.id) 8 0 with|some v=>[[5,b.r,x.id,v]]|none=>[]:=by
 unfold Bf;rw[aO,h,fJ,List.filterMap_append]
 congr 1
 cases h:dif (jo c x.id) (jo b x.id) 8 0<;>simp[List.filterMap_cons,h]
theorem ED(g:bV)(hs:g.Sm)(p:Pn)(hp:p.es.length≤1000)(l:List Tb)(hl:Good l):Contract Tryz.prog 56 [d_ g,iE p,.d (.sl (ig l))] []
  (.sZ [.d (.sl (lC (xQ g p l).1)),.d (.int .i64 (xQ g p l).2)]) [] []:=by
 have h1:=abp g hs p hp l hl;obtain⟨w,hw⟩:∃w,w=xQ g p l:=⟨_,rfl⟩
 rw[←hw];unfold xQ at hw;by_cases c0:(exV g p l).2=0
 case neg=>
  rw[if_neg c0]at hw
  generalize exV g p l=E at h1 c0 hw;simp only[d_,iE]at h1;refine aC Tryz.func56 rfl (fun E0=>?_);refine iK.sound (g:=.mk) (ow:=[]) (kp:=(kb 0x80800678f403d7df)) ?_;rw[Tryz.ntmps56];simp -dsimp[d_,iE]
  refine aF.of h1 [] 0 ?_;simp -dsimp[c0];and_intros;all_goals try first|rfl|omega|exact⟨by kernel_rfl⟩
  refine Fin.view 6 ?_;simp -dsimp;refine Fin.of ?_;simp[hw,lC]
 obtain⟨hI,hE⟩:=acY c0;rw[if_pos c0]at hw
 rw[hE]at h1
 have htl:=CZ g p;have hr:=hs.r;have hnx:∀b∈tabs g p g.rs,∀x∈p.es,∀k:Nat,k<8→MG l b.r x.id k=(jo ((iq l b.r).getD tb0) x.id k,0):=fun b hb x hx k hk=>hI.nxt hb hx ⟨by omega,by omega⟩
 have hsm:∀b∈tabs g p g.rs,b.Sm:=fun b hb=>Fp (Nr hI.top hI.plan b hb)
 have hll:=fun i=>TA l p.es ((tabs g p g.rs).take i)
 generalize tabs g p g.rs=W at h1 hw htl hnx hsm hll;simp only[d_,iE]at h1;refine aC Tryz.func56 rfl (fun E0=>?_);refine iK.sound (g:=.mk) (ow:=[]) (kp:=(kb 0x80800678f403d7df)) ?_;rw[Tryz.ntmps56]
 simp -dsimp[d_,iE];refine aF.of h1 [] 0 ?_;simp -dsimp;and_intros;all_goals try first|rfl|omega|exact⟨by kernel_rfl⟩
 refine bY.of [] (kb 0x80800678f403d7df) (ι:={i:Nat // i≤W.length})
  (fun z=>[(.s 2,It.v (.d (.sl (ig l)))),(.o 4,It.box [TV.d (.int .i64 p.gU),TV.d (.int .i64 p.len),TV.d (.sl (lX p.es))]),(.s 4,It.v (.ptr (.o 4) 0)),(.s 6,It.v (.c (.slice none 0 0))),(.s 7,It.v (.d (.int .i64 0))),(.s 28,It.v (.d (.sl (ig W)))),(.s 29,It.v (.d (.int .i64 W.length))),(.s 10,It.v (.bK 10 (yA l (W.take z.1) p.es).length)),(.o 10,It.row 113 4 (dd (lC (yA l (W.take z.1) p.es))) false),(.s 30,It.v (.d (.int .i64 z.1)))])
  (fun z=>W.length-z.1) ⟨0,by omega⟩ ?_ ?_
 ·exact GS.own' (k:=10) 113 4 (by simp) (by simp) (by simp[yA,lC,ig])
 ·rintro⟨i,i1⟩;have hli:=hll i;have hlm:(W.take i).length*p.es.length≤1000000*1000:=nK (by rw[bF];omega) hp;by_cases hi:i<W.length
  ·have hiz:(i:Int)<W.length:=by omega
   have hb:W[i]? = some W[i]:=ah hi;have hbm:=aB hi;generalize W[i]=b at hb hbm;have hbs:=hsm b hbm;have hnb:=hnx b hbm;have hti:=Wj (bad:=l) (es:=p.es) hb;generalize yA l (W.take i) p.es=R at hli hti⊢;generalize (iq l b.r).getD tb0=c at hnb hti;simp -dsimp[ig,hiz,hb,Tb.cs];and_intros;all_goals try first|rfl|omega|exact⟨by kernel_rfl⟩
   refine bY.of [] (kb 0x80800678f403d7df) (ι:={j:Nat // j≤p.es.length})
    (fun z=>[(.s 2,It.v (.d (.sl (ig l)))),(.o 4,It.box [TV.d (.int .i64 p.gU),TV.d (.int .i64 p.len),TV.d (.sl (lX p.es))]),(.s 4,It.v (.ptr (.o 4) 0)),(.s 6,It.v (.c (.slice none 0 0))),(.s 7,It.v (.d (.int .i64 0))),(.s 28,It.v (.d (.sl (ig W)))),(.s 29,It.v (.d (.int .i64 W.length))),(.s 10,It.v (.bK 10 (R.length+(Bf c b (p.es.take z.1)).length))),(.o 10,It.row 113 4 (dd (lC R)++dd (lC (Bf c b (p.es.take z.1)))) false),(.s 30,It.v (.d (.int .i64 i))),
     (.o 12,It.box [TV.d (.int .i64 b.r),TV.d (.int .i64 b.sd),TV.d (.int .i64 b.len),TV.d (dZ b.rows)]),(.s 12,It.v (.ptr (.o 12) 0)),(.s 35,It.v (.d (.sl (lX p.es)))),(.s 36,It.v (.d (.int .i64 p.es.length))),(.s 37,It.v (.d (.int .i64 z.1)))])
    (fun z=>p.es.length-z.1) ⟨0,by omega⟩ ?_ ?_
   ·exact GS.to (by simp[ig,Bf,lC])
   ·rintro⟨j,j1⟩;have hrj:=Uu c b (p.es.take j);rw[bF]at hrj
    by_cases hj:j<p.es.length
    ·have hjz:(j:Int)<p.es.length:=by omega
     have hx:p.es[j]? = some p.es[j]:=ah hj;have hxm:=aB hj;generalize p.es[j]=x at hx hxm;have ak6:=hnb x hxm;have htj:=WZ (c:=c) (b:=b) hx;generalize Bf c b (p.es.take j)=S at hrj htj⊢;obtain⟨f,hf⟩:∃f,f=jo c x.id:=⟨_,rfl⟩
     have hh:∀k:Int,Contract Tryz.prog 129 [gQ b,.d (.int .i64 x.id),.d (.int .i64 k)] [] (.d (.int .i64 (jo b x.id k))) [] []:=fun k=>adt b hbs x.id k
     have hq:∀k:Nat,k<8→Contract Tryz.prog 128 [.d (.sl (ig l)),.d (.int .i64 b.r),.d (.int .i64 x.id),.d (.int .i64 k)] [] (.sZ [.d (.int .i64 (f k)),.d (.int .i64 0)]) [] []:=fun k hk=>by
      have:=ajD l hl b.r x.id k;rw[ak6 k hk]at this
      rw[hf];exact this
     rw[←hf]at htj
     generalize jo b x.id=h at hh htj;simp only[gQ]at hh;simp -dsimp[hjz,hx,lX,Ed.cs];and_intros;all_goals try first|rfl|omega|exact⟨by kernel_rfl⟩
     refine bY.of [] (kb 0x80800678f403d7df) (ι:={k:Nat // k≤8∧dif f h 8 0=dif f h (8-k) k})
      (fun z=>[(.s 2,It.v (.d (.sl (ig l)))),(.o 4,It.box [TV.d (.int .i64 p.gU),TV.d (.int .i64 p.len),TV.d (.sl (lX p.es))]),(.s 4,It.v (.ptr (.o 4) 0)),(.s 6,It.v (.c (.slice none 0 0))),(.s 7,It.v (.d (.int .i64 0))),(.s 28,It.v (.d (.sl (ig W)))),(.s 29,It.v (.d (.int .i64 W.length))),(.s 10,It.v (.bK 10 (R.length+S.length))),(.o 10,It.row 113 4 (dd (lC R)++dd (lC S)) false),(.s 30,It.v (.d (.int .i64 i))),
       (.o 12,It.box [TV.d (.int .i64 b.r),TV.d (.int .i64 b.sd),TV.d (.int .i64 b.len),TV.d (dZ b.rows)]),(.s 12,It.v (.ptr (.o 12) 0)),(.s 35,It.v (.d (.sl (lX p.es)))),(.s 36,It.v (.d (.int .i64 p.es.length))),(.s 37,It.v (.d (.int .i64 j))),(.o 14,It.box [TV.d (.int .i64 x.r),TV.d (.int .i64 x.id)]),(.s 14,It.v (.ptr (.o 14) 0)),(.s 41,It.v (.d (.int .i64 z.1)))])
      (fun z=>8-z.1) ⟨0,by omega,by simp⟩ ?_ ?_
     ·exact GS.to (by simp[ig,lX])
     ·rintro⟨k,k1,k2⟩;by_cases hk:k<8
      ·have hkz:(k:Int)<8:=by omega
       have h2:=hq k hk;have h3:=hh k;have e8:dif f h (8-k) k=if f k≠h k then some (f k)else dif f h (8-(k+1)) ((k:Int)+1):=by rw[show 8-k=(8-(k+1))+1 by omega,dif]
       have w1:IntKind.i64.wrap ((k:Int)+1)=(k:Int)+1:=wrap_i64 (by omega) (by omega);have w2:IntKind.i64.wrap ((j:Int)+1)=(j:Int)+1:=wrap_i64 (by omega) (by omega);simp -dsimp[hkz,ig,lX];and_intros;all_goals try first|rfl|omega|exact⟨by kernel_rfl⟩
       refine aF.of h2 [] 0 ?_;simp -dsimp;and_intros;all_goals try first|rfl|omega|exact⟨by kernel_rfl⟩
       refine aF.of h3 [] 0 ?_;by_cases c1:f k=h k
       ·rw[if_neg (by simp[c1])]at e8
        simp -dsimp[eq_true c1,w1];and_intros;all_goals try first|rfl|omega|exact⟨by kernel_rfl⟩
        exact⟨⟨k+1,by omega,by rw[k2,e8];simp⟩,GS.to (by simp[ig,lX]),by simp;omega⟩
       ·rw[if_pos c1]at e8
        rw[k2,e8]at htj
        simp only at htj;simp -dsimp[eq_false c1,w2,ng];and_intros;all_goals try first|rfl|omega|exact⟨by kernel_rfl⟩
        exact⟨⟨j+1,by omega⟩,GS.to (by simp[htj,uS,ig,lX,lC,aX]),by simp;omega⟩
      ·have hkz :¬(k:Int)<8:=by omega
       obtain rfl:k=8:=by omega
       have w2:IntKind.i64.wrap ((j:Int)+1)=(j:Int)+1:=wrap_i64 (by omega) (by omega);rw[k2]at htj
       simp only[Nat.sub_self,dif,aZ]at htj;simp -dsimp[w2];and_intros;all_goals try first|rfl|omega|exact⟨by kernel_rfl⟩
       exact⟨⟨j+1,by omega⟩,GS.to (by simp[htj,ig,lX]),by simp;omega⟩
    ·have hjz :¬(j:Int)<p.es.length:=by omega
     have w2:IntKind.i64.wrap ((i:Int)+1)=(i:Int)+1:=wrap_i64 (by omega) (by omega);rw[aW (show p.es.length≤j by omega)]at hrj⊢
     simp -dsimp[hjz,w2];and_intros;all_goals try first|rfl|omega|exact⟨by kernel_rfl⟩
     exact⟨⟨i+1,by omega⟩,GS.to (by simp[hti,uS,ig]),by simp;omega⟩
  ·have hiz :¬(i:Int)<W.length:=by omega
   obtain rfl:i=W.length:=by omega
   rw[bP]at hli⊢
   simp -dsimp[hiz];and_intros;all_goals try first|rfl|omega|exact⟨by kernel_rfl⟩
   refine Fin.view 6 ?_;simp -dsimp[ng];refine Fin.of ?_;simp[hw]
def BJ(a:An):List D:=[.int .i64 a.kd,.int .i64 a.rt,.int .i64 a.id,.int .i64 a.tl]
def ans(l:List An):List (List D):=l.map BJ
@[simp]theorem wJ(l:List An):(ans l).length=l.length:=by simp[ans]
end Go.Proofs

set_option linter.unusedVariables false
namespace Go.Tr
open Go Go.Proofs
def qW(es:List (List Int×TV)):List Int:=(es.map fun x=>x.1.headD 0).mergeSort fun x y=>decide (x≤y)
section
variable {P:Program} {A:jL} {ops:Array Oper}
def sortK(P:Program)(N0:Nat)(t:S)(o:Oper)(f g:FuncId)(e:TypeId)(gp:List Pl)(gd:Bool)(fo x:Operand):Option (Prop×List Pl×List (Pl×It)):=
 match ev t fo with
 | .clo f' caps=>match ev t x with
   | .clo g' [.ptr p 0]=>match t p with
     | .box [.mref id]=>match t (.o id)with
       | .jA es _ _ _=>match o.dst with
         | some d=>some (gd=true∧qj N0 o=true∧f'=f∧caps = []∧dP P f=true∧g'=g∧vY p=true∧(∀x∈es,x.1.length=1∧I64 (x.1.headD 0))∧es.length≤1000000∧t (.o d) = .none,
           gp++(pl fo++(pl x++[p,.o id,.o d])),wF o (.bK d es.length) [(.o d,.row e 1 (dd (fE .i64 (qW es))) false)])
         | none=>none
       | _=>none
     | _=>none
   | _=>none
 | _=>none
attribute [simp] sortK
end
end Go.Tr

namespace Go.Proofs
open Go Go.Tr
end Go.Proofs

namespace Go.Proofs
open Go Go.Tr Go.RowKit Go.Maps Go.Sort Go.Shelf
end Go.Proofs

namespace Go.Proofs
open Go Go.Tr
end Go.Proofs

namespace Go.Tr
open Go
section
variable {P:Program} {A:jL} {ops:Array Oper}
theorem Sum.lend{t:S}{i d:Nat}{o:Oper}{gp:List Pl}{fo:Operand}{xs:List Operand}{tys:Array TypeId}{f:FuncId}{mY:List TV}{r:TV}{s id n e k:Nat}{es:List (List TV)}{sh:Bool}{ds:List (List D)}
  (ho:ops[i]? = some o) (hg:gv ops t o=some (gp,true)) (hd:qj A.N o=true) (hop:o.op = .call {callee:=.value fo,args:=xs.toArray,argTypes:=tys}) (hf:ev t fo = .clo f []) (hfn:dP P f=true)
  (C:Contract P f mY [] r [] []) (hq:∀t0,TV.rP t0 [] mY=some mY∧TV.sQ t0 mY) (hrw:TV.uy mY = []) (V4:∀E1 E2 u,aV E1 r u→aV E2 r u)
  (hs:t (.s s) = .v (.bK id n)) (ht:t (.o id) = .row e k es sh) (hn:n=es.length) (hx:iH es=some ds) (hdn:t (.o d) = .none)
  (hc:xs.map (ev (over t [(.s s,.v (.d (.sl ds))),(.o id,.row e k es true)]))=mY) :
  Sum P A ops i t (gp++(pl fo++(xs.flatMap pl++[.s s,.o id,.o d]))) (wF o r [(.o d,.row 0 1 [] false)]):=fun t' hr a w ⟨E,hw,hi⟩ K Q hK=>by
 subst hw;have hwant:=oQ hg (dw hr) hi;have hr1:=bg hr;have hr2:=bg hr1;have hr3:=bg hr2;have hfo:ev t' fo = .clo f []:=(fZ (dw hr1)).trans hf;have hs':t' (.s s) = .v (.bK id n):=(hr3 _ (by simp)).trans hs;have ht':t' (.o id) = .row e k es sh:=(hr3 _ (by simp)).trans ht;have hd':t' (.o d) = .none:=(hr3 _ (by simp)).trans hdn;have hfr:=dS hi fo
 rw[hfo]at hfr
 simp only[aV,b_]at hfr;obtain⟨vF,Cb,wY⟩:=hfr;obtain rfl:vF = #[]:=by cases vF;simpa using wY
 obtain⟨E1,hw1,hi1⟩:=Inv.view (⟨E,rfl,hi⟩:Inv A t' a E.w) hs' ht' hn hx;have hov:∀p,t' p=t p→over t' [(.s s,.v (.d (.sl ds))),(.o id,.row e k es true)] p=over t [(.s s,.v (.d (.sl ds))),(.o id,.row e k es true)] p:=fun p hp=>by
  simp only[over,upd];split
  ·rfl
  ·split
   ·rfl
   ·exact hp
 have hxr:=Dq hi1 xs;have hxs:xs.map (ev (over t' [(.s s,.v (.d (.sl ds))),(.o id,.row e k es true)]))=mY:=by rw[←hc];exact RY (fun p hp=>hov p (dw hr2 p hp))
 rw[hxs]at hxr
 obtain⟨q1,q2⟩:=hq (over t' [(.s s,.v (.d (.sl ds))),(.o id,.row e k es true)]);have JM:b_ (E1.callee []) mY (xs.map a.eval):=EI (by rw[hrw];simp) q1 q2 hxr;have hH0:pX (E1.callee []) (Js []):=pX.callee hi1 (by simp) rfl (by simp) (by simp) (by simp);unfold wpOp;simp only[ho,hwant,if_true];refine .inl ?_;unfold Oper.wp
 have hrun:(execOp a.eval o).run P E.w = .ok (.enter f (xs.map a.eval).toArray) E.w:=by simp only[execOp,hop,resolve,Cb,Deferred.ofValue,invoke,Sem.run_bind,Sem.run_pure,Result.andThen_ok,iy,iF,jH hfn,kM]
 rw[hrun];simp only[Oper.upon];have hcall:=C (E1.callee []) _ hH0 JM;rw[show(E1.callee []).w=E.w from hw1]at hcall
 refine hcall.mono fun e' w' ⟨u,E',he,hw',hp⟩=>?_
 subst he hw';have hwc:(E1.callee []).w=E.w:=hw1;have hgr:E.w.grownBy E'.w none:=by
  have h1:=hp.fr;refine⟨by rw[h1.os,hwc],by rw[h1.tape,hwc],by rw[h1.output,hwc],by have:=h1.size;rw[hwc]at this;exact this,fun b hb _=>?_⟩;have:=h1.old b (by rw[hwc];exact hb) (fun i=>by simp[En.callee]) (fun j=>by simp[En.own,En.callee]);rw[hwc]at this
  exact this
 obtain⟨E2,hw2,x2,hinv,hval⟩:=hi.A_ hd' (es:=[]) (v:=.slice none 0 0) (us:=[]) (e:=0) (k:=1) (w':=E'.w) hgr
  ⟨by simp,.inl ⟨rfl,rfl⟩⟩ (fun E' _ _=>iJ.lq fun i el hel=>by simp at hel)
 refine hK _ _ ⟨E2,hw2,?_⟩;exact iI.dst (W:=[(.o d,.row 0 1 [] false)]) hinv hd (V4 _ _ _ hp.rel)
def ahr(P:Program)(N:Nat)(t:S)(o:Oper)(f:FuncId)(mY:List TV)(r:TV)(s:Nat)(gp:List Pl)(g:Bool):Option (Prop×List Pl×List (Pl×It)):=
 match o.op with
 | .call {callee:=.value fo,args:=xs,argTypes:=_}=>
   match ev t fo with
   | .clo f' caps=>match t (.s s)with
     | .v (.bK id n)=>match t (.o id)with
       | .row e k es sh=>match iH es,o.dst with
         | some ds,some d=>some (g=true∧qj N o=true∧f'=f∧caps = []∧dP P f=true∧n=es.length∧t (.o d) = .none∧xs.toList.map (ev (over t [(.s s,.v (.d (.sl ds))),(.o id,.row e k es true)]))=mY,
           gp++(pl fo++(xs.toList.flatMap pl++[.s s,.o id,.o d])),wF o r [(.o d,.row 0 1 [] false)])
         | _,_=>none
       | _=>none
     | _=>none
   | _=>none
 | _=>none
def ahq(P:Program)(N:Nat)(t:S)(ops:Array Oper)(f:FuncId)(mY:List TV)(r:TV)(s:Nat):Option Oper→Option (Prop×List Pl×List (Pl×It))
 | some o=>match gv ops t o with
   | some (gp,g)=>ahr P N t o f mY r s gp g
   | none=>none
 | none=>none
theorem aF.lend{i:Nat}{t:S}{k:List Pl→List (Pl×It)→Prop}{g:Tg k}{f:FuncId}{mY:List TV}{r:TV}(C:Contract P f mY [] r [] [])(s:Nat)
  (hq:∀t0,TV.rP t0 [] mY=some mY∧TV.sQ t0 mY) (hrw:TV.uy mY = []) (V4:∀E1 E2 u,aV E1 r u→aV E2 r u)
  (h:UW k g (ahq P A.N t ops f mY r s ops[i]?)):aF P A ops i t k g:=by
 unfold UW at h;split at h
 ·rename_i D rp W hc;obtain⟨h1,h2⟩:=h;refine⟨rp,W,?_,h2⟩;unfold ahq at hc;split at hc
  ·rename_i o ho;split at hc
   ·rename_i gp g0 hg;unfold ahr at hc;split at hc
    ·rename_i fo xs tys hop;split at hc
     ·rename_i f' caps hf;split at hc
      ·rename_i id n hs;split at hc
       ·rename_i e k0 es sh ht;split at hc
        ·rename_i ds d hx hod;simp only[aj,aK]at hc;obtain⟨rfl,rfl,rfl⟩:=hc;obtain⟨rfl,q1,rfl,rfl,q2,q3,q4,q5⟩:=h1;exact Sum.lend (xs:=xs.toList) ho hg q1 (by omega) hf q2 C hq hrw V4 hs ht q3 hx q4 q5
        trivial
       trivial
      trivial
     trivial
    trivial
   trivial
  trivial
 trivial
attribute [simp] ahq ahr
end
end Go.Tr
