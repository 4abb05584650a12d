/-
  What functions of the program compute, stated as contracts over plain data; the conditions of each stand in its own statement.
-/
import Derived.Test.YtkikielfhjoogaaGreatDoorZA22
import Derived.Test.YtkikielfhjoogaaGreatDoorZA25
import Derived.Test.YtkikielfhjoogaaGreatDoorZA21
import Derived.Test.YtkikielfhjoogaaGreatDoorZA18
set_option linter.unusedVariables false
set_option linter.unusedSimpArgs false
set_option maxRecDepth 100000
set_option maxHeartbeats 16000000
namespace Go.Proofs
open Go Go.Tr
theorem adP(l:List Ed)(hl:l.length≤1000000)(f:FuncId)(ds:List D)(q:Ed→Bool)(hf:∀x,Contract Tryz.prog f [.agg (x.cs.map .d),.ptr (.x 0) 0] [.box (ds.map .d)] (.d (.bool (q x))) [.box (ds.map .d)] [])(hok:dB Tryz.prog f=true):
  Contract Tryz.prog 79 [.d (.sl (zA l)),.clo f [.ptr (.x 0) 0]] [.box (ds.map .d)] (.d (.int .i64 (BK q l))) [.box (ds.map .d)] []:=by
 refine ay Tryz.func79 rfl (fun E0=>?_);refine iC.sound (g:=.mk) (ow:=[]) (kp:=(kb 0x103b3)) ?_;rw[Tryz.ntmps79];simp -dsimp;refine dD.of [] (kb 0x103b3) (ι:={i:Nat // i≤l.length∧∀a,a<i→∀x,l[a]? = some x→q x=false})
  (fun z=>[(.s 0,It.v (.d (.sl (zA l)))),(.s 1,It.v (.clo f [TV.ptr (.x 0) 0])),(.x 0,It.box (List.map TV.d ds)),(.s 4,It.v (.d (.int .i64 0))),(.s 7,It.v (.d (.int .i64 l.length))),(.s 8,It.v (.d (.int .i64 z.1)))]) (fun z=>l.length-z.1) ⟨0,by omega,fun a h=>by omega⟩ ?_ ?_
 ·exact GS.to (by simp)
 ·rintro⟨i,i1,i2⟩;by_cases hi:i<l.length
  ·obtain⟨x,hx⟩:∃x,l[i]? = some x:=⟨l[i],aj hi⟩
   simp -dsimp[hi,W9 hx,Ed.cs,wrap_i64 (n:=(i:Int)+1) (by omega) (by omega)];refine aI.of (hf x) [.x 0] 0 ?_;rcases (aA (q x)).symm with h|h
   ·simp -dsimp[h,hok,Ed.cs,wrap_i64 (n:=(i:Int)+1) (by omega) (by omega)];exact⟨⟨i+1,by omega,fun a ha y hy=>by
     by_cases e:a=i
     ·subst e;rw[hx]at hy;simp only[ah]at hy;subst hy;exact h
     ·exact i2 a (by omega) y hy⟩,GS.to (by simp),by simp;omega⟩
   ·simp -dsimp[h,hok,Ed.cs];refine Fin.of ?_;simp[xq hx h i2]
  ·simp -dsimp[hi];refine Fin.of ?_;simp;exact(yc fun a ha=>i2 a (by omega)).symm
theorem GY(l:List Ed)(hl:l.length≤1000000)(f:FuncId)(ds:List D)(q:Ed→Bool)(hf:∀x,Contract Tryz.prog f [.agg (x.cs.map .d),.ptr (.x 0) 0] [.box (ds.map .d)] (.d (.bool (q x))) [.box (ds.map .d)] [])(hok:dB Tryz.prog f=true):
  Contract Tryz.prog 31 [.d (.sl (zA l)),.clo f [.ptr (.x 0) 0]] [.box (ds.map .d)] (.d (.bool (l.any q))) [.box (ds.map .d)] []:=by
 refine ay Tryz.func31 rfl (fun E0=>?_);refine iC.sound (g:=.mk) (ow:=[]) (kp:=(kb 0x13)) ?_;rw[Tryz.ntmps31];simp -dsimp;refine aI.of (adP l hl f ds q hf hok) [.x 0] 0 ?_;simp -dsimp;refine Fin.of ?_;simp[wB]
theorem apa(x y:Ed):Contract Tryz.prog 32 [.agg (y.cs.map .d),.ptr (.x 0) 0] [.box (x.cs.map .d)] (.d (.bool (decide (y.r=x.r)))) [.box (x.cs.map .d)] []:=by refine ay Tryz.func32 rfl (fun E0=>?_);refine iC.sound (g:=.mk) (ow:=[]) (kp:=(kb 0xf)) ?_;rw[Tryz.ntmps32];simp -dsimp[Ed.cs];refine Fin.of ?_;simp
theorem Dy(p:Pn)(hp:p.es.length≤1000):Contract Tryz.prog 10 [su p] [] (.d (.bool (oJ p))) [] []:=by
 refine ay Tryz.func10 rfl (fun E0=>?_);refine iC.sound (g:=.mk) (ow:=[]) (kp:=(kb 0x8000000003d0000003f)) ?_;rw[Tryz.ntmps10];simp -dsimp[su];refine aI.of (JM p.jd 0 7) [] 0 ?_;rcases (aA (inB p.jd 0 7)).symm with a1|a1
 ·simp -dsimp[a1];refine Fin.of ?_;simp;exact A8 (by simp[yO,a1])
 ·simp -dsimp[a1];refine aI.of (jY p.len) [] 0 ?_;rcases (aA (eP p.len)).symm with a2|a2
  ·by_cases a3:p.len=0
   ·by_cases a4:p.es.length=0
    ·have hb:yO p=true:=by simp[yO,a1,a2,a3,a4,show eP 0=false from rfl]
     simp -dsimp[a1,a2,a3,a4,show eP 0=false from rfl];refine dD.of [] (kb 0x8000000003d0000003f) (ι:=Unit)
      (fun z=>[(.s 0,It.v (.agg [TV.d (.int .i64 p.jd),TV.d (.int .i64 p.len),TV.d (.sl (zA p.es))])),(.o 1,It.box [TV.d (.int .i64 p.jd),TV.d (.int .i64 p.len),TV.d (.sl (zA p.es))]),
       (.s 1,It.v (.ptr (.o 1) 0)),(.s 2,It.v (.d (.bool false))),(.s 34,It.v (.d (.sl (zA p.es)))),(.s 35,It.v (.d (.int .i64 0))),(.s 36,It.v (.d (.int .i64 0)))])
      (fun z=>0) () ?_ ?_
     ·exact GS.to (by simp[a3,a4])
     ·rintro⟨⟩;simp -dsimp[a4];refine Fin.of ?_;simp;exact PZ hb (fun i hi=>by omega) (fun i j hj hi=>by omega)
    ·have a5:0<p.es.length:=by omega
     simp -dsimp[a1,a2,a3,a4,a5,show eP 0=false from rfl];refine Fin.of ?_;simp;exact A8 (by simp[yO,a1,a2,a3,a4,show eP 0=false from rfl])
   ·simp -dsimp[a1,a2,a3];refine Fin.of ?_;simp;exact A8 (by simp[yO,a1,a2,a3])
  ·by_cases a6:p.es.length≤24
   ·have a7 :¬(24:Int)<p.es.length:=by omega
    have hb:yO p=true:=by simp[yO,a1,a2,a6]
    simp -dsimp[a1,a2,a7];refine dD.of [] (kb 0x8000000003d0000003f) (ι:={i:Nat // i≤p.es.length∧(∀a,a<i→edB p.es a=true)∧∀a b,b<a→a<i→OG p.es a≠OG p.es b})
     (fun z=>[(.s 0,It.v (.agg [TV.d (.int .i64 p.jd),TV.d (.int .i64 p.len),TV.d (.sl (zA p.es))])),(.o 1,It.box [TV.d (.int .i64 p.jd),TV.d (.int .i64 p.len),TV.d (.sl (zA p.es))]),
      (.s 1,It.v (.ptr (.o 1) 0)),(.s 2,It.v (.d (.bool false))),(.s 34,It.v (.d (.sl (zA p.es)))),(.s 35,It.v (.d (.int .i64 p.es.length))),(.s 36,It.v (.d (.int .i64 z.1)))])
     (fun z=>p.es.length-z.1) ⟨0,by omega,fun a h=>by omega,fun a b _ h=>by omega⟩ ?_ ?_
    ·exact GS.to (by simp)
    ·rintro⟨i,i1,i2,i3⟩;by_cases hi:i<p.es.length
     ·obtain⟨x,hx⟩:∃x,p.es[i]? = some x:=⟨p.es[i],aj hi⟩
      have gx:gid p.es i=x.id∧OG p.es i=x.r:=by simp[gid,OG,List.getD,hx]
      simp -dsimp[hi,W9 hx,Ed.cs,afO,wrap_i64 (n:=(i:Int)+1) (by omega) (by omega)];refine⟨i1,?_,?_⟩
      ·intro e he;obtain⟨w,_,rfl⟩:=ak.1 he;rfl
      refine aI.of (GY (p.es.take i) (by simp;omega) 32 x.cs (fun y=>decide (y.r=x.r)) (apa x) (by simp)) [.o 4] 0 ?_;simp -dsimp[Ed.cs];refine aI.of (JM x.id 1 256) [] 0 ?_;rcases (aA (inB x.id 1 256)).symm with b1|b1
      ·simp -dsimp[b1];try refine⟨?_,⟨by kernel_rfl⟩⟩
       refine Fin.of ?_;simp;exact PY hi (by simp[edB,gx,b1])
      ·simp -dsimp[b1];refine aI.of (JM x.r 1 99) [] 0 ?_;rcases (aA (inB x.r 1 99)).symm with b2|b2
       ·simp -dsimp[b1,b2];try refine⟨?_,⟨by kernel_rfl⟩⟩
        refine Fin.of ?_;simp;exact PY hi (by simp[edB,gx,b1,b2])
       ·rcases (aA ((p.es.take i).any fun y=>decide (y.r=x.r))).symm with b8|b8
        ·have hne:∀b,b<i→OG p.es i≠OG p.es b:=fun b hb=>by
          rw[iq]at b8
          obtain⟨y,hy⟩:∃y,p.es[b]? = some y:=⟨p.es[b],aj (by omega)⟩
          have:=b8 y (by
           refine bF (i:=b) ?_;rw[gZ,if_pos hb];exact hy)
          have gb:OG p.es b=y.r:=by simp[OG,List.getD,hy]
          rw[gx.2,gb];intro h;rw[h]at this;simp at this
         by_cases b3:0<i
         ·obtain⟨y,hy⟩:∃y,p.es[i-1]? = some y:=⟨p.es[i-1],aj (by omega)⟩
          have gy:gid p.es (i-1)=y.id:=by simp[gid,List.getD,hy]
          have b5:(1:Int)≤i:=by omega
          have b6:(i:Int)-1<p.es.length:=by omega
          have b7:i≠0:=by omega
          by_cases b4:x.id≤y.id
          ·simp -dsimp[b1,b2,b8,b3,b4,b5,b6,MB hy,Ed.cs,wrap_i64 (n:=(i:Int)-1) (by omega) (by omega)];refine⟨?_,⟨by kernel_rfl⟩⟩;refine Fin.of ?_;simp;exact PY hi (by simp[edB,gx,gy,b1,b2,b7]<;>omega)
          ·simp -dsimp[b1,b2,b8,b3,b4,b5,b6,MB hy,Ed.cs,wrap_i64 (n:=(i:Int)-1) (by omega) (by omega),wrap_i64 (n:=(i:Int)+1) (by omega) (by omega)];try refine⟨?_,⟨by kernel_rfl⟩⟩
           exact⟨⟨i+1,by omega,fun a ha=>by
            by_cases e:a=i
            ·subst e;simp[edB,gx,gy,b1,b2]<;>omega
            ·exact i2 a (by omega),fun a b h1 h2=>by
            by_cases e:a=i
            ·subst e;exact hne b h1
            ·exact i3 a b h1 (by omega)⟩,GS.to (by simp),by simp;omega⟩
         ·obtain rfl:i=0:=by omega
          simp -dsimp[b1,b2,b8,wrap_i64 (n:=1) (by omega) (by omega)];try refine⟨?_,⟨by kernel_rfl⟩⟩
          exact⟨⟨1,by omega,fun a ha=>by
           obtain rfl:a=0:=by omega
           simp[edB,gx,b1,b2],fun a b h1 h2=>by omega⟩,GS.to (by simp),by simp;omega⟩
        ·simp -dsimp[b1,b2,b8];try refine⟨?_,⟨by kernel_rfl⟩⟩
         refine Fin.of ?_;simp;rw[iG]at b8
         obtain⟨y,hy,he⟩:=b8;obtain⟨b,hb⟩:=bU hy;have hbi:b<i:=by have:=(aB.1 hb).1;simp at this;omega
         rw[gZ,if_pos hbi]at hb
         have gb:OG p.es b=y.r:=by simp[OG,List.getD,hb]
         exact ahw hbi hi (by rw[gx.2,gb];simp at he;exact he.symm)
     ·simp -dsimp[hi];refine Fin.of ?_;simp;exact PZ hb (fun a ha=>i2 a (by omega)) (fun a b h1 h2=>i3 a b h1 (by omega))
   ·have a7:(24:Int)<p.es.length:=by omega
    simp -dsimp[a1,a2,a7];refine Fin.of ?_;simp;exact A8 (by simp[yO,a1,a2,a6])
set_option linter.unusedVariables false
theorem Gu{l:List Ad}{i:Nat}{a:Ad}(h:l[i]? = some a):(wZ l)[i]? = some a.cs:=by simp[wZ,h]
theorem Gv(l:List Ad):(wZ l).length=l.length:=by simp[wZ]
theorem adO(l:List Ad)(hl:l.length≤1000000)(f:FuncId)(ds:List D)(q:Ad→Bool)(hf:∀x,Contract Tryz.prog f [.agg (x.cs.map .d),.ptr (.x 0) 0] [.box (ds.map .d)] (.d (.bool (q x))) [.box (ds.map .d)] [])(hok:dB Tryz.prog f=true):
  Contract Tryz.prog 155 [.d (.sl (wZ l)),.clo f [.ptr (.x 0) 0]] [.box (ds.map .d)] (.d (.int .i64 (BK q l))) [.box (ds.map .d)] []:=by
 have hlen:=Gv l;refine ay Tryz.func155 rfl (fun E0=>?_);refine iC.sound (g:=.mk) (ow:=[]) (kp:=(kb 0x103b3)) ?_;rw[Tryz.ntmps155];simp -dsimp;refine dD.of [] (kb 0x103b3) (ι:={i:Nat // i≤l.length∧∀a,a<i→∀x,l[a]? = some x→q x=false})
  (fun z=>[(.s 0,It.v (.d (.sl (wZ l)))),(.s 1,It.v (.clo f [TV.ptr (.x 0) 0])),(.x 0,It.box (List.map TV.d ds)),(.s 4,It.v (.d (.int .i64 0))),(.s 7,It.v (.d (.int .i64 l.length))),(.s 8,It.v (.d (.int .i64 z.1)))]) (fun z=>l.length-z.1) ⟨0,by omega,fun a h=>by omega⟩ ?_ ?_
 ·exact GS.to (by simp[hlen])
 ·rintro⟨i,i1,i2⟩;by_cases hi:i<l.length
  ·obtain⟨x,hx⟩:∃x,l[i]? = some x:=⟨l[i],aj hi⟩
   have hfx:=hf x;simp only[Ad.cs,aC,dQ]at hfx;have hiz:(i:Int)<l.length:=by omega
   have hgx:=Gu hx;simp -dsimp[hiz,hlen,hgx,Ad.cs,wrap_i64 (n:=(i:Int)+1) (by omega) (by omega)];refine aI.of hfx [.x 0] 0 ?_;rcases (aA (q x)).symm with h|h
   ·simp -dsimp[h,hok,Ad.cs,wrap_i64 (n:=(i:Int)+1) (by omega) (by omega)];exact⟨⟨i+1,by omega,fun a ha y hy=>by
     by_cases e:a=i
     ·subst e;rw[hx]at hy;simp only[ah]at hy;subst hy;exact h
     ·exact i2 a (by omega) y hy⟩,GS.to (by simp),by simp;omega⟩
   ·simp -dsimp[h,hok,Ad.cs];refine Fin.of ?_;simp[xq hx h i2]
  ·have hiz :¬(i:Int)<l.length:=by omega
   simp -dsimp[hiz];refine Fin.of ?_;simp;exact(yc fun a ha=>i2 a (by omega)).symm
theorem ai7(r k to:Int)(x:Ad):Contract Tryz.prog 156 [.agg (x.cs.map .d),.ptr (.x 0) 0] [.box ([D.int .i64 r,.int .i64 k,.int .i64 to].map .d)] (.d (.bool (decide (x.tg = [r,k,to])))) [.box ([D.int .i64 r,.int .i64 k,.int .i64 to].map .d)] []:=by
 have hof:=akD x;simp only[Ad.cs,Ad.tg,aC,dQ]at hof;refine ay Tryz.func156 rfl (fun E0=>?_);refine iC.sound (g:=.mk) (ow:=[]) (kp:=(kb 0xf)) ?_;rw[Tryz.ntmps156];simp -dsimp[Ad.cs];refine aI.of hof [] 0 ?_;simp -dsimp;and_intros;all_goals try first|rfl|omega|exact⟨by kernel_rfl⟩
 refine Fin.of ?_;simp[Ad.tg,Ad.cs]
theorem ai8(n:Int)(l:List Ad)(h:BR n l)(a:Ad)(ha:a∈l):Contract Tryz.prog 107 [rX n l,.agg (a.tg.map fun x=>.d (.int .i64 x))] [] (.qh [.d (.int .i64 a.b),.d (.bool true)]) [] []:=by
 have hsm:=h.sm;have hix:=adO l (by omega) 156 [D.int .i64 a.r,.int .i64 a.k,.int .i64 a.to] (fun x=>decide (x.tg = [a.r,a.k,a.to])) (fun x=>ai7 a.r a.k a.to x) (by simp);obtain⟨i,hi,hgi⟩:=dW.1 ha;have hg:l[i]? = some a:=by rw[aj hi,hgi]
 have hq:BK (fun x:Ad=>decide (x.tg = [a.r,a.k,a.to])) l=i:=xq hg (by simp[Ad.tg]) fun j hj x hx=>by rw[decide_eq_false_iff_not];intro e;obtain⟨h1,h2⟩:=aB.1 hx;have hn:=bC.1 h.nd j i (by simpa using h1) (by simpa using hi) hj;simp only[jv,h2,hgi]at hn;exact hn e
 rw[hq]at hix
 have hga:=Gu hg;have hlen:=Gv l;refine ay Tryz.func107 rfl (fun E0=>?_);refine iC.sound (g:=.mk) (ow:=[]) (kp:=(kb 0x107f)) ?_;rw[Tryz.ntmps107];simp -dsimp[rX,Ad.tg];refine aI.of hix [.o 3] 0 ?_;have n1 :¬((i:Int)<0):=by omega
 simp -dsimp[n1,hga,hlen,Ad.cs];and_intros;all_goals try first|rfl|omega|exact⟨by kernel_rfl⟩
 refine Fin.of ?_;simp
theorem al1(n:Int)(l:List Ad)(h:BR n l)(r:Int):Contract Tryz.prog 112 [rX n l,.d (.int .i64 r)] [] (.d (bv (ownB l r))) [] []:=by
 have hv:=Qw n l h;simp only[rX]at hv;have hsm:=h.sm;have hlen:=Gv l;have hb:∀a∈l,a.b<64:=fun a ha=>by have h1:=h.bit a ha;have h2:=h.len;simp[eP]at h2;omega
 refine ay Tryz.func112 rfl (fun E0=>?_);refine iC.sound (g:=.mk) (ow:=[]) (kp:=(kb 0x20f4b7)) ?_;rw[Tryz.ntmps112];simp -dsimp[rX];refine aI.of hv [] 0 ?_;simp -dsimp;and_intros;all_goals try first|rfl|omega|exact⟨by kernel_rfl⟩
 refine dD.of [] (kb 0x20f4b7) (ι:={i:Nat // i≤l.length}) (fun z=>[(.s 0,It.v (.agg [TV.d (.int .i64 n),TV.d (.sl (wZ l))])),(.s 1,It.v (.d (.int .i64 r))),(.o 2,It.box [TV.d (.int .i64 n),TV.d (.sl (wZ l))]),(.s 2,It.v (.ptr (.o 2) 0)),
  (.s 4,It.v (.d (bv 0#64))),(.s 5,It.v (.d (bv (ownB (l.take z.1) r)))),(.s 12,It.v (.d (.sl (wZ l)))),(.s 13,It.v (.d (.int .i64 l.length))),(.s 14,It.v (.d (.int .i64 z.1)))]) (fun z=>l.length-z.1) ⟨0,by omega⟩ ?_ ?_
 ·exact GS.to (by simp[hlen,ownB,bv])
 ·rintro⟨i,i1⟩;by_cases hi:i<l.length
  ·have hiz:(i:Int)<l.length:=by omega
   have hl:=aj hi;have hm:=aJ hi;have hg:=Gu hl;have ht:ownB (l.take (i+1)) r=if l[i].r=r then ownB (l.take i) r|||1#64<<<l[i].b else ownB (l.take i) r:=by rw[aT,hl,ownB,iF,dZ];rfl
   generalize l[i]=a at hg hm ht;have hab:=hb a hm;by_cases e:a.r=r
   ·rw[if_pos e]at ht
    simp -dsimp[hiz,hg,hlen,Ad.cs,eq_true e,bv,wrap_i64 (n:=(i:Int)+1) (by omega) (by omega)];and_intros;all_goals try first|rfl|omega|exact⟨by kernel_rfl⟩
    exact⟨⟨i+1,by omega⟩,GS.to (by simp[ht,bv]),by simp;omega⟩
   ·rw[if_neg e]at ht
    simp -dsimp[hiz,hg,hlen,Ad.cs,e,wrap_i64 (n:=(i:Int)+1) (by omega) (by omega)];and_intros;all_goals try first|rfl|omega|exact⟨by kernel_rfl⟩
    exact⟨⟨i+1,by omega⟩,GS.to (by simp[ht]),by simp;omega⟩
  ·have hiz :¬(i:Int)<l.length:=by omega
   simp -dsimp[hiz];refine Fin.of ?_;rw[aS (by omega)];simp
def rtT(x:Rt):TV:=.agg (x.cs.map .d)
def OZ(x:Lk):TV:=.agg (x.cs.map .d)
theorem aaf(l:List Rt)(hl:l.length≤9223372036854775807)(f:FuncId)(q:Rt→Bool)(hf:∀x,x∈l→Contract Tryz.prog f [rtT x] [] (.d (.bool (q x))) [] [])(hok:dB Tryz.prog f=true):
  Contract Tryz.prog 126 [.d (.sl (l.map Rt.cs)),.clo f []] [] (.d (.int .i64 (BK q l))) [] []:=by
 refine ay Tryz.func126 rfl (fun E0=>?_);refine iC.sound (g:=.mk) (ow:=[]) (kp:=(kb 0x103b3)) ?_;rw[Tryz.ntmps126];simp -dsimp;refine dD.of [] (kb 0x103b3) (ι:={i:Nat // i≤l.length∧∀a,a<i→∀x,l[a]? = some x→q x=false})
  (fun z=>[(.s 0,It.v (.d (.sl (l.map Rt.cs)))),(.s 1,It.v (.clo f [])),(.s 4,It.v (.d (.int .i64 0))),(.s 7,It.v (.d (.int .i64 l.length))),(.s 8,It.v (.d (.int .i64 z.1)))]) (fun z=>l.length-z.1) ⟨0,by omega,fun a h=>by omega⟩ ?_ ?_
 ·exact GS.to (by simp)
 ·rintro⟨i,i1,i2⟩;by_cases hi:i<l.length
  ·have hiz:(i:Int)<l.length:=by omega
   have hx:l[i]? = some l[i]:=aj hi;have hm:l[i]∈l:=aJ hi;generalize l[i]=x at hx hm;simp -dsimp[hiz,hx,Rt.cs,wrap_i64 (n:=(i:Int)+1) (by omega) (by omega)];and_intros;all_goals try first|rfl|omega|exact⟨by kernel_rfl⟩
   refine aI.of (hf x hm) [] 0 ?_;rcases (aA (q x)).symm with h|h
   ·simp -dsimp[h,hok,rtT,wrap_i64 (n:=(i:Int)+1) (by omega) (by omega)];and_intros;all_goals try first|rfl|omega|exact⟨by kernel_rfl⟩
    exact⟨⟨i+1,by omega,fun a ha y hy=>by
     by_cases e:a=i
     ·subst e;rw[hx]at hy;simp only[ah]at hy;subst hy;exact h
     ·exact i2 a (by omega) y hy⟩,GS.to (by simp),by simp;omega⟩
   ·simp -dsimp[h,hok,rtT];and_intros;all_goals try first|rfl|omega|exact⟨by kernel_rfl⟩
    refine Fin.of ?_;simp[xq hx h i2]
  ·simp -dsimp[hi];refine Fin.of ?_;simp;exact(yc fun a ha=>i2 a (by omega)).symm
theorem NR(l:List Rt)(hl:l.length≤9223372036854775807)(f:FuncId)(q:Rt→Bool)(hf:∀x,x∈l→Contract Tryz.prog f [rtT x] [] (.d (.bool (q x))) [] [])(hok:dB Tryz.prog f=true):
  Contract Tryz.prog 59 [.d (.sl (l.map Rt.cs)),.clo f []] [] (.d (.bool (l.any q))) [] []:=by
 refine ay Tryz.func59 rfl (fun E0=>?_);refine iC.sound (g:=.mk) (ow:=[]) (kp:=(kb 0x13)) ?_;rw[Tryz.ntmps59];simp -dsimp;refine aI.of (aaf l hl f q hf hok) [] 0 ?_;simp -dsimp;refine Fin.of ?_;simp[wB]
theorem aad(l:List Lk)(hl:l.length≤9223372036854775807)(f:FuncId)(q:Lk→Bool)(hf:∀x,x∈l→Contract Tryz.prog f [OZ x] [] (.d (.bool (q x))) [] [])(hok:dB Tryz.prog f=true):
  Contract Tryz.prog 127 [.d (.sl (l.map Lk.cs)),.clo f []] [] (.d (.int .i64 (BK q l))) [] []:=by
 refine ay Tryz.func127 rfl (fun E0=>?_);refine iC.sound (g:=.mk) (ow:=[]) (kp:=(kb 0x103b3)) ?_;rw[Tryz.ntmps127];simp -dsimp;refine dD.of [] (kb 0x103b3) (ι:={i:Nat // i≤l.length∧∀a,a<i→∀x,l[a]? = some x→q x=false})
  (fun z=>[(.s 0,It.v (.d (.sl (l.map Lk.cs)))),(.s 1,It.v (.clo f [])),(.s 4,It.v (.d (.int .i64 0))),(.s 7,It.v (.d (.int .i64 l.length))),(.s 8,It.v (.d (.int .i64 z.1)))]) (fun z=>l.length-z.1) ⟨0,by omega,fun a h=>by omega⟩ ?_ ?_
 ·exact GS.to (by simp)
 ·rintro⟨i,i1,i2⟩;by_cases hi:i<l.length
  ·have hiz:(i:Int)<l.length:=by omega
   have hx:l[i]? = some l[i]:=aj hi;have hm:l[i]∈l:=aJ hi;generalize l[i]=x at hx hm;simp -dsimp[hiz,hx,Lk.cs,wrap_i64 (n:=(i:Int)+1) (by omega) (by omega)];and_intros;all_goals try first|rfl|omega|exact⟨by kernel_rfl⟩
   refine aI.of (hf x hm) [] 0 ?_;rcases (aA (q x)).symm with h|h
   ·simp -dsimp[h,hok,OZ,wrap_i64 (n:=(i:Int)+1) (by omega) (by omega)];and_intros;all_goals try first|rfl|omega|exact⟨by kernel_rfl⟩
    exact⟨⟨i+1,by omega,fun a ha y hy=>by
     by_cases e:a=i
     ·subst e;rw[hx]at hy;simp only[ah]at hy;subst hy;exact h
     ·exact i2 a (by omega) y hy⟩,GS.to (by simp),by simp;omega⟩
   ·simp -dsimp[h,hok,OZ];and_intros;all_goals try first|rfl|omega|exact⟨by kernel_rfl⟩
    refine Fin.of ?_;simp[xq hx h i2]
  ·simp -dsimp[hi];refine Fin.of ?_;simp;exact(yc fun a ha=>i2 a (by omega)).symm
theorem Cb(l:List Lk)(hl:l.length≤9223372036854775807)(f:FuncId)(q:Lk→Bool)(hf:∀x,x∈l→Contract Tryz.prog f [OZ x] [] (.d (.bool (q x))) [] [])(hok:dB Tryz.prog f=true):
  Contract Tryz.prog 65 [.d (.sl (l.map Lk.cs)),.clo f []] [] (.d (.bool (l.any q))) [] []:=by
 refine ay Tryz.func65 rfl (fun E0=>?_);refine iC.sound (g:=.mk) (ow:=[]) (kp:=(kb 0x13)) ?_;rw[Tryz.ntmps65];simp -dsimp;refine aI.of (aad l hl f q hf hok) [] 0 ?_;simp -dsimp;refine Fin.of ?_;simp[wB]
theorem aae(l:List Lk)(hl:l.length≤9223372036854775807)(f:FuncId)(u:FuncId)(ds:List D)(q:Lk→Bool)(hf:∀x,x∈l→Contract Tryz.prog f [OZ x,.ptr (.x 0) 0] [.box [.clo u [.ptr (.x 1) 0]],.box (ds.map .d)] (.d (.bool (q x))) [.box [.clo u [.ptr (.x 1) 0]],.box (ds.map .d)] [])(hok:dB Tryz.prog f=true):
  Contract Tryz.prog 127 [.d (.sl (l.map Lk.cs)),.clo f [.ptr (.x 0) 0]] [.box [.clo u [.ptr (.x 1) 0]],.box (ds.map .d)] (.d (.int .i64 (BK q l))) [.box [.clo u [.ptr (.x 1) 0]],.box (ds.map .d)] []:=by
 refine ay Tryz.func127 rfl (fun E0=>?_);refine iC.sound (g:=.mk) (ow:=[]) (kp:=(kb 0x103b3)) ?_;rw[Tryz.ntmps127];simp -dsimp;refine dD.of [] (kb 0x103b3) (ι:={i:Nat // i≤l.length∧∀a,a<i→∀x,l[a]? = some x→q x=false})
  (fun z=>[(.s 0,It.v (.d (.sl (l.map Lk.cs)))),(.s 1,It.v (.clo f [TV.ptr (.x 0) 0])),(.x 0,It.box [TV.clo u [TV.ptr (.x 1) 0]]),(.x 1,It.box (List.map TV.d ds)),(.s 4,It.v (.d (.int .i64 0))),(.s 7,It.v (.d (.int .i64 l.length))),(.s 8,It.v (.d (.int .i64 z.1)))]) (fun z=>l.length-z.1) ⟨0,by omega,fun a h=>by omega⟩ ?_ ?_
 ·exact GS.to (by simp)
 ·rintro⟨i,i1,i2⟩;by_cases hi:i<l.length
  ·have hiz:(i:Int)<l.length:=by omega
   have hx:l[i]? = some l[i]:=aj hi;have hm:l[i]∈l:=aJ hi;generalize l[i]=x at hx hm;simp -dsimp[hiz,hx,Lk.cs,wrap_i64 (n:=(i:Int)+1) (by omega) (by omega)];and_intros;all_goals try first|rfl|omega|exact⟨by kernel_rfl⟩
   refine aI.of (hf x hm) [.x 0,.x 1] 0 ?_;rcases (aA (q x)).symm with h|h
   ·simp -dsimp[h,hok,OZ,wrap_i64 (n:=(i:Int)+1) (by omega) (by omega)];and_intros;all_goals try first|rfl|omega|exact⟨by kernel_rfl⟩
    exact⟨⟨i+1,by omega,fun a ha y hy=>by
     by_cases e:a=i
     ·subst e;rw[hx]at hy;simp only[ah]at hy;subst hy;exact h
     ·exact i2 a (by omega) y hy⟩,GS.to (by simp),by simp;omega⟩
   ·simp -dsimp[h,hok,OZ];and_intros;all_goals try first|rfl|omega|exact⟨by kernel_rfl⟩
    refine Fin.of ?_;simp[xq hx h i2]
  ·simp -dsimp[hi];refine Fin.of ?_;simp;exact(yc fun a ha=>i2 a (by omega)).symm
theorem NQ(l:List Lk)(hl:l.length≤9223372036854775807)(f:FuncId)(u:FuncId)(ds:List D)(q:Lk→Bool)(hf:∀x,x∈l→Contract Tryz.prog f [OZ x,.ptr (.x 0) 0] [.box [.clo u [.ptr (.x 1) 0]],.box (ds.map .d)] (.d (.bool (q x))) [.box [.clo u [.ptr (.x 1) 0]],.box (ds.map .d)] [])(hok:dB Tryz.prog f=true):
  Contract Tryz.prog 65 [.d (.sl (l.map Lk.cs)),.clo f [.ptr (.x 0) 0]] [.box [.clo u [.ptr (.x 1) 0]],.box (ds.map .d)] (.d (.bool (l.any q))) [.box [.clo u [.ptr (.x 1) 0]],.box (ds.map .d)] []:=by
 refine ay Tryz.func65 rfl (fun E0=>?_);refine iC.sound (g:=.mk) (ow:=[]) (kp:=(kb 0x13)) ?_;rw[Tryz.ntmps65];simp -dsimp;refine aI.of (aae l hl f u ds q hf hok) [.x 0,.x 1] 0 ?_;simp -dsimp;refine Fin.of ?_;simp[wB]
def bsGo(p:Nat→Bool):Nat→Nat→Nat→Nat
 | 0,i,_=>i
 | k+1,i,j=>if i<j then(if p ((i+j)/2)=true then bsGo p k ((i+j)/2+1) j else bsGo p k i ((i+j)/2))else i
theorem bsGo_fuel{p:Nat→Bool}:∀(k i j:Nat),j-i≤k→bsGo p (k+1) i j=bsGo p k i j
 | 0,i,j,h=>by rw[show 0+1=Nat.succ 0 from rfl,bsGo,bsGo,if_neg (by omega)]
 | k+1,i,j,h=>by
   rw[bsGo]
   conv=>rhs;rw[bsGo]
   split
   ·split
    ·exact bsGo_fuel k _ _ (by omega)
    ·exact bsGo_fuel k _ _ (by omega)
   ·rfl
theorem Jo{p:Nat→Bool}(i j:Nat):∀m k,j-i≤k→bsGo p (k+m) i j=bsGo p k i j
 | 0,_,_=>rfl
 | m+1,k,h=>(bsGo_fuel (k+m) i j (by omega)).trans (Jo i j m k h)
theorem RV{p:Nat→Bool}{i j:Nat}(h:i<j):bsGo p (j-i) i j=if p ((i+j)/2)=true then bsGo p (j-((i+j)/2+1)) ((i+j)/2+1) j else bsGo p ((i+j)/2-i) i ((i+j)/2):=by
 obtain⟨k,hk⟩:∃k,j-i=k+1:=⟨j-i-1,by omega⟩
 rw[hk,bsGo,if_pos h];split
 ·rw[show k=(j-((i+j)/2+1))+(k-(j-((i+j)/2+1))) by omega];exact Jo _ _ _ _ (by omega)
 ·rw[show k=((i+j)/2-i)+(k-((i+j)/2-i)) by omega];exact Jo _ _ _ _ (by omega)
theorem WJ{p:Nat→Bool}{i j:Nat}(h :¬i<j):bsGo p (j-i) i j=i:=by rw[show j-i=0 by omega,bsGo]
def bsI(p:Nat→Bool)(n:Nat):Nat:=bsGo p n 0 n
theorem bsGo_spec{p:Nat→Bool}(hp:∀a b,a≤b→p b=true→p a=true):∀(k i j:Nat),i≤j→j-i≤k→(∀a,a<i→p a=true)→(i≤bsGo p k i j∧bsGo p k i j≤j)∧(∀a,a<bsGo p k i j→p a=true)∧∀a,bsGo p k i j≤a→a<j→p a=false
 | 0,i,j,h1,h2,h3=>by rw[bsGo];exact⟨⟨by omega,by omega⟩,h3,fun a _ _=>by omega⟩
 | k+1,i,j,h1,h2,h3=>by
   rw[bsGo];split
   ·rename_i h;split
    ·rename_i hm;obtain⟨g1,g2,g3⟩:=bsGo_spec hp k ((i+j)/2+1) j (by omega) (by omega) fun a ha=>hp a _ (by omega) hm
     exact⟨⟨by omega,by omega⟩,g2,g3⟩
    ·rename_i hm;obtain⟨g1,g2,g3⟩:=bsGo_spec hp k i ((i+j)/2) (by omega) (by omega) h3;refine⟨⟨by omega,by omega⟩,g2,fun a ha hj=>?_⟩;by_cases e:a<(i+j)/2
     ·exact g3 a ha e
     ·refine pq.2 fun e2=>hm (hp _ a (by omega) e2)
   ·rename_i h;exact⟨⟨by omega,by omega⟩,h3,fun a _ _=>by omega⟩
def Gf(l:List Rt)(i:Nat):Int:=(l.getD i ⟨0,false⟩).id
def xk(a b:Int):Int:=if a<b then -1 else if b<a then 1 else 0
theorem L_(a b:Int):(xk a b<0)=(a<b):=by unfold xk;apply propext;split<;>(try split)<;>omega
theorem yQ(a b:Int):(xk a b=0)=(a=b):=by unfold xk;apply propext;split<;>(try split)<;>omega
theorem Vf(a:Int):Contract Tryz.prog 151 [.d (.int .i64 a)] [] (.d (.bool false)) [] []:=by refine ay Tryz.func151 rfl (fun E0=>?_);refine iC.sound (g:=.mk) (ow:=[]) (kp:=(kb 5)) ?_;rw[Tryz.ntmps151];simp -dsimp;refine Fin.of ?_;simp
theorem zJ(a b:Int):Contract Tryz.prog 102 [.d (.int .i64 a),.d (.int .i64 b)] [] (.d (.int .i64 (xk a b))) [] []:=by
 refine ay Tryz.func102 rfl (fun E0=>?_);refine iC.sound (g:=.mk) (ow:=[]) (kp:=(kb 0x93873)) ?_;rw[Tryz.ntmps102];simp -dsimp;refine aI.of (Vf a) [] 0 ?_;simp -dsimp;refine aI.of (Vf b) [] 0 ?_;by_cases h1:a<b
 ·simp -dsimp[h1];refine Fin.of ?_;simp[xk,h1]
 ·by_cases h2:b<a
  ·simp -dsimp[h1,h2];refine Fin.of ?_;simp[xk,h1,h2]
  ·simp -dsimp[h1,h2];refine Fin.of ?_;simp[xk,h1,h2]
theorem afu(x:Rt)(id:Int):Contract Tryz.prog 64 [rtT x,.d (.int .i64 id)] [] (.d (.int .i64 (xk x.id id))) [] []:=by
 refine ay Tryz.func64 rfl (fun E0=>?_);refine iC.sound (g:=.mk) (ow:=[]) (kp:=(kb 0x17)) ?_;rw[Tryz.ntmps64];simp -dsimp[rtT,Rt.cs];refine aI.of (zJ x.id id) [] 0 ?_;simp -dsimp;and_intros;all_goals try first|rfl|omega|exact⟨by kernel_rfl⟩
 refine Fin.of ?_;simp
theorem akc(n:Nat):YJ .u64 (n:Int) 1=((n/2:Nat):Int):=by
 rw[YJ];have:min (Int.toNat 1) (IntKind.u64.bits)=1:=by decide
 rw[this,Int.fdiv_eq_ediv_of_nonneg _ (by decide)];omega
theorem aat{i j:Nat}(h:i+j≤2000000):IntKind.i64.wrap (YJ .u64 (IntKind.u64.wrap (IntKind.i64.wrap ((i:Int)+j))) 1)=(((i+j)/2:Nat):Int):=by rw[show(i:Int)+j=((i+j:Nat):Int) by omega,wrap_i64 (n:=((i+j:Nat):Int)) (by omega) (by omega),wrap_u64 (n:=((i+j:Nat):Int)) (by omega) (by omega),akc,wrap_i64 (n:=(((i+j)/2:Nat):Int)) (by omega) (by omega)]
theorem RY(l:List Rt)(hl:l.length≤1000000)(id:Int):Contract Tryz.prog 63 [.d (.sl (rts l)),.d (.int .i64 id),.clo 64 []] []
  (.qh [.d (.int .i64 (bsI (fun a=>decide (Gf l a<id)) l.length)),.d (.bool (decide (bsI (fun a=>decide (Gf l a<id)) l.length<l.length)&&decide (Gf l (bsI (fun a=>decide (Gf l a<id)) l.length)=id)))]) [] []:=by
 obtain⟨p,hp⟩:∃p:Nat→Bool,p=fun a=>decide (Gf l a<id):=⟨_,rfl⟩
 rw[←hp];have hok:dB Tryz.prog 64=true:=by kernel_rfl
 refine ay Tryz.func63 rfl (fun E0=>?_);refine iC.sound (g:=.mk) (ow:=[]) (kp:=(kb 0x80020fc7)) ?_;rw[Tryz.ntmps63];simp -dsimp[rts];refine dD.of [] (kb 0x80020fc7) (ι:={z:Nat×Nat // z.1≤z.2∧z.2≤l.length∧bsI p l.length=bsGo p (z.2-z.1) z.1 z.2})
  (fun z=>[(.s 0,It.v (.d (.sl (rts l)))),(.s 1,It.v (.d (.int .i64 id))),(.s 2,It.v (.clo 64 [])),(.s 8,It.v (.d (.int .i64 l.length))),(.s 9,It.v (.d (.int .i64 z.1.1))),(.s 10,It.v (.d (.int .i64 z.1.2)))])
  (fun z=>z.1.2-z.1.1) ⟨(0,l.length),by omega,by omega,rfl⟩ ?_ ?_
 ·exact GS.to (by simp[rts])
 ·rintro⟨⟨i,j⟩,j1,j2,j3⟩;simp only at j1 j2 j3;by_cases hi:i<j
  ·have hiz:(i:Int)<j:=by omega
   rw[RV hi]at j3
   have hm:(i+j)/2<l.length:=by omega
   have hx:l[(i+j)/2]? = some l[(i+j)/2]:=aj hm;have hpm:p ((i+j)/2)=decide (l[(i+j)/2].id<id):=by rw[hp];simp[Gf,hm]
   generalize l[(i+j)/2]=x at hx hpm;have hx':=uZ hx;have hmd:=aat (i:=i) (j:=j) (by omega);have hij:i≤(i+j)/2∧(i+j)/2<j:=by omega
   generalize (i+j)/2=m at hx hpm hm hmd j3 hx' hij;have hmz:(m:Int)<l.length:=by omega
   have hb:=afu x id;simp only[rtT,Rt.cs,List.map]at hb;simp -dsimp[hiz,hmd,hx',Rt.cs,hmz];refine aI.of hb [] 0 ?_;by_cases hc:x.id<id
   ·rw[hpm,decide_eq_true hc,if_pos rfl]at j3
    simp -dsimp[hok,L_,hc,wrap_i64 (n:=(m:Int)+1) (by omega) (by omega)];and_intros;all_goals try first|rfl|omega|exact⟨by kernel_rfl⟩
    exact⟨⟨(m+1,j),by omega,by omega,j3⟩,GS.to (by simp),by simp;omega⟩
   ·rw[hpm,decide_eq_false hc,if_neg (by simp)]at j3
    simp -dsimp[hok,L_,hc];and_intros;all_goals try first|rfl|omega|exact⟨by kernel_rfl⟩
    exact⟨⟨(i,m),by omega,by omega,j3⟩,GS.to (by simp),by simp;omega⟩
  ·have hiz :¬(i:Int)<j:=by omega
   obtain rfl:i=j:=by omega
   rw[WJ hi]at j3
   by_cases hl2:i<l.length
   ·have hlz:(i:Int)<l.length:=by omega
    have hx:l[i]? = some l[i]:=aj hl2;have hr:Gf l i=l[i].id:=by simp[Gf,hl2]
    generalize l[i]=x at hx hr;have hx':=uZ hx;have hb:=afu x id;simp only[rtT,Rt.cs,List.map]at hb;simp -dsimp[hiz,hlz,hx',Rt.cs,j3];refine aI.of hb [] 0 ?_;simp -dsimp[hok,yQ,hl2,hlz,j3];and_intros;all_goals try first|rfl|omega|exact⟨by kernel_rfl⟩
    refine Fin.of ?_;simp[yQ,hl2,j3,hr]
   ·have hlz :¬(i:Int)<l.length:=by omega
    simp -dsimp[hiz,hlz,j3];and_intros;all_goals try first|rfl|omega|exact⟨by kernel_rfl⟩
    refine Fin.of ?_;simp[hl2,j3]
def RX(l:List Rt)(id:Int):Nat:=bsI (fun a=>decide (Gf l a<id)) l.length
def bsF(l:List Rt)(id:Int):Bool:=decide (RX l id<l.length)&&decide (Gf l (RX l id)=id)
theorem ak7{l:List Rt}{id:Int}(h:bsF l id=true):RX l id<l.length:=by simp only[bsF,aG,decide_eq_true_eq]at h;exact h.1
def bsX(l:List Rt)(id:Int):Rt:=if bsF l id=true then l.getD (RX l id) ⟨0,false⟩else ⟨0,false⟩
theorem abo{α:Type}{q:α→α→Bool}{r:α→α→Prop}(hr:∀x y,q x y=false→r x y)(ht:∀x y z,r x y→r y z→r x z):∀{l:List α},o8 q l=false→l.Pairwise r
 | [],_=>.nil
 | [x],_=>by simp
 | x::y::l,h=>by
   simp only[o8,kY]at h;have ih:=abo hr ht (l:=y::l) h.2;refine dM.2 ⟨fun z hz=>?_,ih⟩;rcases aF.1 hz with rfl|hz
   ·exact hr _ _ h.1
   ·exact ht _ _ _ (hr _ _ h.1) ((dM.1 ih).1 z hz)
theorem aaX{l:List Rt}(h:o8 (fun (x y:Rt)=>decide (y.id≤x.id)) l=false):l.Pairwise (fun x y=>x.id<y.id):=
 abo (r:=fun x y=>x.id<y.id) (fun x y h=>by simpa using h) (fun _ _ _=>Int.lt_trans) h
theorem Jp{l:List Rt}(h:l.Pairwise fun x y=>x.id<y.id)(id:Int):bsF l id=dF l id∧bsX l id=(Ru l id).getD ⟨0,false⟩:=by
 have hp:=bC.1 h;have hr:∀a,(ha:a<l.length)→Gf l a=l[a].id:=fun a ha=>by simp[Gf,ha]
 have h0:∀a,l.length≤a→Gf l a=0:=fun a ha=>by simp[Gf,aK,dX ha]
 obtain⟨p,Va⟩:∃p:Nat→Bool,p=fun a=>decide (a<l.length∧Gf l a<id):=⟨_,rfl⟩
 have agm:∀(q q':Nat→Bool) (n:Nat),(∀a,a<n→q a=q' a)→∀k i j,j≤n→bsGo q k i j=bsGo q' k i j:=by
  intro q q' n hq k
  induction k with
  | zero=>intro i j _;rfl
  | succ k ih=>
    intro i j hj;rw[bsGo,bsGo];split
    ·rw[hq ((i+j)/2) (by omega),ih _ _ hj,ih i ((i+j)/2) (by omega)]
    ·rfl
 have hb:RX l id=bsGo p l.length 0 l.length:=agm _ _ l.length (fun a ha=>by rw[Va];simp[ha]) _ _ _ (au _);obtain⟨g1,g2,g3⟩:=bsGo_spec (p:=p) (fun a b hab hb=>by
  rw[Va]at hb⊢
  simp only[decide_eq_true_eq]at hb⊢;obtain⟨h1,h2⟩:=hb;rcases Nat.eq_or_lt_of_le hab with e|e
  ·subst e;exact⟨h1,h2⟩
  ·have:=hp a b (by omega) h1 e;rw[hr b h1]at h2
   exact⟨by omega,by rw[hr a (by omega)];omega⟩) l.length 0 l.length (by omega) (by omega) (fun a ha=>by omega)
 rw[←hb]at g1 g2 g3
 have key:∀a,(ha:a<l.length)→l[a].id=id→a=RX l id:=fun a ha e=>by
  rcases lq a (RX l id)with c|c|c
  ·have:=g2 a c;rw[Va]at this
   simp only[decide_eq_true_eq]at this;rw[hr a ha]at this;omega
  ·exact c
  ·have:=g3 (RX l id) (au _) (by omega);rw[Va]at this
   simp only[decide_eq_false_iff_not,not_and]at this;have h1:=this (by omega);rw[hr _ (by omega)]at h1
   have:=hp (RX l id) a (by omega) ha c;omega
 by_cases hh:dF l id=true
 ·obtain⟨x,hx,e⟩:=iG.1 hh;obtain⟨a,ha,rfl⟩:=dW.1 hx;simp only[decide_eq_true_eq]at e;obtain rfl:=key a ha e;have hF:bsF l id=true:=by
   simp only[bsF,aG,decide_eq_true_eq];exact⟨ha,by rw[hr _ ha];exact e⟩
  refine⟨hF.trans hh.symm,?_⟩;unfold bsX;rw[if_pos hF];have:Ru l id=some l[RX l id]:=by unfold Ru;rw[List.find?_eq_some_iff_getElem];refine⟨by simpa using e,RX l id,ha,rfl,fun j hj=>?_⟩;have:=hp j (RX l id) (by omega) ha hj;simp;omega
  rw[this];simp[ha]
 ·have hh':dF l id=false:=by simpa using hh
  have hF:bsF l id=false:=by
   refine pq.2 fun e=>hh ?_
   simp only[bsF,aG,decide_eq_true_eq]at e;rw[hr _ e.1]at e
   exact iG.2 ⟨_,aJ e.1,by simpa using e.2⟩
  refine⟨hF.trans hh'.symm,?_⟩;unfold bsX;rw[hF];have:Ru l id=none:=by unfold Ru;rw[jV];intro x hx;have:=iq.1 hh' x hx;simpa using this
  rw[this];simp
theorem abE(g:aX)(hs:g.Sm)(id:Int):Contract Tryz.prog 110 [eU g,.d (.int .i64 id)] [] (.qh [rtT (bsX g.rs id),.d (.bool (bsF g.rs id))]) [] []:=by
 have hb:=RY g.rs hs.r id;have hlt:=ak7 (l:=g.rs) (id:=id);simp only[bsX]
 change Contract Tryz.prog _ _ _ (.qh [.d (.int .i64 (RX g.rs id)),.d (.bool (bsF g.rs id))]) [] []at hb
 refine ay Tryz.func110 rfl (fun E0=>?_);refine iC.sound (g:=.mk) (ow:=[]) (kp:=(kb 0x100f7)) ?_;rw[Tryz.ntmps110];simp -dsimp[eU];refine aI.of hb [] 0 ?_;rcases (aA (bsF g.rs id)).symm with h|h
 ·simp -dsimp[h];and_intros;all_goals try first|rfl|omega|exact⟨by kernel_rfl⟩
  refine Fin.of ?_;simp[h,rtT,Rt.cs]
 ·have hl:=hlt h;have hx:g.rs[RX g.rs id]? = some g.rs[RX g.rs id]:=aj hl;have hgd:g.rs.getD (RX g.rs id) ⟨0,false⟩ = g.rs[RX g.rs id]:=by simp[hl]
  rw[hgd];generalize g.rs[RX g.rs id]=x at hx;have hx':=uZ hx;have hlz:(RX g.rs id:Int)<g.rs.length:=by omega
  simp -dsimp[h,hx',Rt.cs,hlz];and_intros;all_goals try first|rfl|omega|exact⟨by kernel_rfl⟩
  refine Fin.of ?_;simp[h,rtT,Rt.cs]
theorem acP(n lo hi:Int):Contract Tryz.prog 61 [.d (.int .i64 n),.d (.int .i64 lo),.d (.int .i64 hi)] [] (.d (.bool (inB n lo hi))) [] []:=by
 refine ay Tryz.func61 rfl (fun E0=>?_);refine iC.sound (g:=.mk) (ow:=[]) (kp:=(kb 0x47)) ?_;rw[Tryz.ntmps61];by_cases h:lo≤n
 ·simp -dsimp[h];refine Fin.of ?_;simp[inB,h]
 ·simp -dsimp[h];refine Fin.of ?_;simp[inB,h]
theorem amv(x:Rt):Contract Tryz.prog 60 [rtT x] [] (.d (.bool (!inB x.id 1 99))) [] []:=by
 refine ay Tryz.func60 rfl (fun E0=>?_);refine iC.sound (g:=.mk) (ow:=[]) (kp:=(kb 7)) ?_;rw[Tryz.ntmps60];simp -dsimp[rtT,Rt.cs];refine aI.of (acP x.id 1 99) [] 0 ?_;simp -dsimp;and_intros;all_goals try first|rfl|omega|exact⟨by kernel_rfl⟩
 refine Fin.of ?_;simp
theorem amw(x:Lk):Contract Tryz.prog 66 [OZ x] [] (.d (.bool x.bad)) [] []:=by
 refine ay Tryz.func66 rfl (fun E0=>?_);refine iC.sound (g:=.mk) (ow:=[]) (kp:=(kb 7)) ?_;rw[Tryz.ntmps66];simp -dsimp[OZ,Lk.cs];refine aI.of (acP x.ca 1 1000) [] 0 ?_;rcases (aA (inB x.ca 1 1000)).symm with b1|b1
 ·simp -dsimp[b1];and_intros;all_goals try first|rfl|omega|exact⟨by kernel_rfl⟩
  refine Fin.of ?_;simp[Lk.bad,b1]
 simp -dsimp[b1];refine aI.of (acP x.cb 1 1000) [] 0 ?_;rcases (aA (inB x.cb 1 1000)).symm with b2|b2
 ·simp -dsimp[b2];and_intros;all_goals try first|rfl|omega|exact⟨by kernel_rfl⟩
  refine Fin.of ?_;simp[Lk.bad,b1,b2]
 simp -dsimp[b2];refine aI.of (acP x.cap 0 1000) [] 0 ?_;simp -dsimp;and_intros;all_goals try first|rfl|omega|exact⟨by kernel_rfl⟩
 refine Fin.of ?_;simp[Lk.bad,b1,b2]
theorem amy(x:Lk):Contract Tryz.prog 68 [OZ x] [] (.d (.bool (decide (x.b≤x.a)))) [] []:=by
 refine ay Tryz.func68 rfl (fun E0=>?_);refine iC.sound (g:=.mk) (ow:=[]) (kp:=(kb 7)) ?_;rw[Tryz.ntmps68];simp -dsimp[OZ,Lk.cs];and_intros;all_goals try first|rfl|omega|exact⟨by kernel_rfl⟩
 refine Fin.of ?_;simp
theorem ain(g:aX)(hs:g.Sm)(hp:g.rs.Pairwise fun x y=>x.id<y.id)(id:Int):Contract Tryz.prog 62 [.d (.int .i64 id),.ptr (.x 0) 0] [.box ([D.sl (rts g.rs),D.sl (nS g.ls)].map .d)] (.d (.bool (!dF g.rs id))) [.box ([D.sl (rts g.rs),D.sl (nS g.ls)].map .d)] []:=by
 have hb:=RY g.rs hs.r id
 change Contract Tryz.prog _ _ _ (.qh [.d (.int .i64 (RX g.rs id)),.d (.bool (bsF g.rs id))]) [] []at hb
 rw[(Jp hp id).1]at hb
 refine ay Tryz.func62 rfl (fun E0=>?_);refine iC.sound (g:=.mk) (ow:=[]) (kp:=(kb 0x2b)) ?_;rw[Tryz.ntmps62];simp -dsimp;refine aI.of hb [] 0 ?_;simp -dsimp;and_intros;all_goals try first|rfl|omega|exact⟨by kernel_rfl⟩
 refine Fin.of ?_;simp
theorem amx(g:aX)(hs:g.Sm)(hp:g.rs.Pairwise fun x y=>x.id<y.id)(x:Lk):Contract Tryz.prog 67 [OZ x,.ptr (.x 0) 0] [.box [.clo 62 [.ptr (.x 1) 0]],.box ([D.sl (rts g.rs),D.sl (nS g.ls)].map .d)] (.d (.bool (!dF g.rs x.a || !dF g.rs x.b)))
  [.box [.clo 62 [.ptr (.x 1) 0]],.box ([D.sl (rts g.rs),D.sl (nS g.ls)].map .d)] []:=by
 have hok:dB Tryz.prog 62=true:=by kernel_rfl
 refine ay Tryz.func67 rfl (fun E0=>?_);refine iC.sound (g:=.mk) (ow:=[]) (kp:=(kb 0xf)) ?_;rw[Tryz.ntmps67];simp -dsimp[OZ,Lk.cs];try refine⟨?_,⟨by kernel_rfl⟩⟩
 refine aI.of (ain g hs hp x.a) [.x 1] 0 ?_;rcases (aA (dF g.rs x.a)).symm with b1|b1
 ·simp -dsimp[b1,hok];and_intros;all_goals try first|rfl|omega|exact⟨by kernel_rfl⟩
  refine Fin.of ?_;simp[b1]
 simp -dsimp[b1,hok];refine aI.of (ain g hs hp x.b) [.x 1] 0 ?_;simp -dsimp[b1,hok];and_intros;all_goals try first|rfl|omega|exact⟨by kernel_rfl⟩
 refine Fin.of ?_;simp[b1]
def Jv(x y:Int):Int:=if x≠0 then x else y
theorem akF(x y:Int):Contract Tryz.prog 101 [.d (ints [x,y])] [] (.d (.int .i64 (Jv x y))) [] []:=by
 refine ay Tryz.func101 rfl (fun E0=>?_);refine iC.sound (g:=.mk) (ow:=[]) (kp:=(kb 0x43ed)) ?_;rw[Tryz.ntmps101];simp -dsimp[ints];refine dD.of [] (kb 0x43ed) (ι:={i:Nat // i≤2∧(0<i→x=0)∧(1<i→y=0)})
  (fun z=>[(.s 0,It.v (.d (.sl [[D.int .i64 x],[D.int .i64 y]]))),(.s 2,It.v (.d (.int .i64 0))),(.s 3,It.v (.d (.int .i64 0))),
   (.s 6,It.v (.d (.sl [[D.int .i64 x],[D.int .i64 y]]))),(.s 7,It.v (.d (.int .i64 2))),(.s 8,It.v (.d (.int .i64 z.1)))]) (fun z=>2-z.1) ⟨0,by omega,by omega,by omega⟩ ?_ ?_
 ·exact GS.to (by simp)
 ·rintro⟨i,i1,i2,i3⟩;rcases (by omega:i=0∨i=1∨i=2)with rfl|rfl|rfl
  ·by_cases h:x=0
   ·simp -dsimp[h];try refine⟨?_,⟨by kernel_rfl⟩⟩
    exact⟨⟨1,by omega,fun _=>h,by omega⟩,GS.to (by simp[h,wrap_i64 (n:=1) (by omega) (by omega)]),by simp⟩
   ·simp -dsimp[h];try refine⟨?_,⟨by kernel_rfl⟩⟩
    refine Fin.of ?_;simp[Jv,h]
  ·have hx:=i2 (by omega);by_cases h:y=0
   ·simp -dsimp[h];try refine⟨?_,⟨by kernel_rfl⟩⟩
    exact⟨⟨2,by omega,fun _=>hx,fun _=>h⟩,GS.to (by simp[h,wrap_i64 (n:=2) (by omega) (by omega)]),by simp⟩
   ·simp -dsimp[h];try refine⟨?_,⟨by kernel_rfl⟩⟩
    refine Fin.of ?_;simp[Jv,hx]
  ·have hx:=i2 (by omega);have hy:=i3 (by omega);simp -dsimp;refine Fin.of ?_;simp[Jv,hx,hy]
def cmpL(a b:Lk):Int:=Jv (xk a.a b.a) (xk a.b b.b)
theorem aiS(a b:Lk):decide (0≤cmpL a b)=(decide (b.a<a.a)||decide (a.a=b.a)&&decide (b.b≤a.b)):=by
 unfold cmpL Jv xk;rcases Int.lt_trichotomy a.a b.a with h|h|h
 ·have e1 :¬b.a<a.a:=by omega
  have e2 :¬a.a=b.a:=by omega
  simp[h,e1,e2]
 ·rcases Int.lt_trichotomy a.b b.b with k|k|k
  ·have e1 :¬b.b≤a.b:=by omega
   simp[h,k,e1]
  ·simp[h,k]
  ·have e1:b.b≤a.b:=by omega
   have e2 :¬a.b<b.b:=by omega
   simp[h,k,e1,e2]
 ·have e1 :¬a.a<b.a:=by omega
  simp[h,e1]
theorem Gj(a b:Lk):Contract Tryz.prog 69 [OZ a,OZ b] [] (.d (.int .i64 (cmpL a b))) [] []:=by
 refine ay Tryz.func69 rfl (fun E0=>?_);refine iC.sound (g:=.mk) (ow:=[]) (kp:=(kb 0x1f)) ?_;rw[Tryz.ntmps69];simp -dsimp[OZ,Lk.cs];refine aI.of (zJ a.a b.a) [] 0 ?_;simp -dsimp;refine aI.of (zJ a.b b.b) [] 0 ?_;simp -dsimp;have hc:=akF (xk a.a b.a) (xk a.b b.b);simp only[ints,List.map]at hc;refine aI.of hc [] 0 ?_;simp -dsimp
 and_intros;all_goals try first|rfl|omega|exact⟨by kernel_rfl⟩
 refine Fin.of ?_;simp[cmpL]
def hps(T:List (Int×Int)):List (List D):=T.map fun h=>[.int .i64 h.1,.int .i64 h.2]
def vw(r:Int)(T:List (Int×Int)):TV:=.agg [.d (.int .i64 r),.d (.sl (hps T))]
theorem D7(T:List (Int×Int)):(hps T).length=T.length:=by simp[hps]
theorem yT{T:List (Int×Int)}{i:Nat}{h:Int×Int}(e:T[i]? = some h):(hps T)[i]? = some [.int .i64 h.1,.int .i64 h.2]:=by simp[hps,e]
def vI(ks:List Int):List (List Int×D):=ks.map fun k=>([k],D.bool true)
def Aa(ks:List Int):List (List Int×TV):=(vI ks).map fun x=>(x.1,.d x.2)
def ah7(ks:List Int):D:=qj (vI ks)
theorem Qo(ks:List Int):rQ 1 (Aa ks):=fun y hy=>by simp only[Aa,vI,aY,ak]at hy;obtain⟨a,_,rfl⟩:=hy;rfl
theorem Dx(k:Int):∀ks:List Int,kJ (Aa ks) [k]=if k∈ks then some (.d (.bool true))else none
 | []=>rfl
 | x::ks=>by
   have ih:=Dx k ks;simp only[Aa,vI,aY,aC,kJ]at ih⊢;by_cases e:k=x
   ·subst e;simp
   ·simp only[Function.comp,dR,and_true,e,if_false,aF,false_or];exact ih
theorem YH{ks:List Int}{k:Int}(h:k∉ks)(v:TV):oq (Aa ks) [k] v=Aa ks++[([k],v)]:=CX fun x hx e=>by simp only[Aa,vI,aY,ak]at hx;obtain⟨a,ha,rfl⟩:=hx;simp only[Function.comp,dR,and_true]at e;exact h (by rw[←e];exact ha)
theorem Ut(ks:List Int)(k:Int):Aa (ks++[k])=Aa ks++[([k],.d (.bool true))]:=by simp[Aa,vI]
@[simp]theorem amU{po:Nat→Prop}{ks:List Int}{c:Nat}{pd:Option (List Int)}{s:Option jB}:It.only po (It.fO (Aa ks) c pd s):=by intro x hx;simp only[Aa,vI,aY,ak]at hx;obtain⟨a,_,rfl⟩:=hx;exact trivial
theorem YG(k:Int):[([k],TV.d (.bool true))]=Aa [k]:=rfl
def Rn(r:Int)(T:List (Int×Int)):List Int:=Vz T (T.length+2) [r]
theorem aeF(r:Int)(T:List (Int×Int))(hT:T.length≤1000):Contract Tryz.prog 152 [vw r T] [] (.d (ah7 (Rn r T))) [] []:=by
 have hlen:=D7 T;refine ay Tryz.func152 rfl (fun E0=>?_);refine iC.sound (g:=.mk) (ow:=[3000007]) (kp:=(kb 0x2001e85f)) ?_;rw[Tryz.ntmps152];simp -dsimp[vw];refine⟨fun y hy=>by simp at hy,?_⟩;and_intros;all_goals try first|rfl|omega|exact⟨by kernel_rfl⟩
 obtain⟨B,hB⟩:∃B,B=r::T.map (·.2):=⟨_,rfl⟩
 have hBl:B.length=T.length+1:=by rw[hB];simp
 have hBT:∀h∈T,h.2∈B:=fun h hh=>by rw[hB];exact gY _ (eX hh)
 have hBr:r∈B:=by rw[hB];simp
 clear hB;refine dD.of [3000007] (kb 0x2001e85f) (ι:={z:List Int×Nat×Bool // z.1.Nodup∧(∀y∈z.1,y∈B)∧(z.2.2=true→B.length<z.1.length+z.2.1)∧Rn r T=if z.2.2 then Vz T z.2.1 z.1 else z.1})
  (fun z=>[(.s 0,It.v (.agg [TV.d (.int .i64 r),TV.d (.sl (hps T))])),(.o 1,It.box [TV.d (.int .i64 r),TV.d (.sl (hps T))]),(.s 1,It.v (.ptr (.o 1) 0)),(.s 2,It.v (.c (Value.map none))),
   (.o 7,It.fO (Aa z.1.1) 0 none none),(.s 3,It.v (.mref 7)),(.s 4,It.v (.d (.bool z.1.2.2)))])
  (fun z=>if z.1.2.2 then z.1.2.1+1 else 0) ⟨([r],T.length+2,true),by simp,by simpa using hBr,fun _=>by simp[hBl];omega,by simp[Rn]⟩ ?_ ?_
 ·exact GS.to (by simp[YG])
 ·rintro⟨⟨ks,n,gr⟩,j1,j2,j3,j4⟩;simp only at j1 j2 j3 j4;cases gr with
  | false=>simp only[if_false,eu]at j4;simp -dsimp;refine Fin.rO 7 (vI ks) (c:=0) (pd:=none) (s:=none) (by simp[Aa]) ?_;simp -dsimp;refine Fin.of ?_;simp[j4,ah7]
  | true=>
    simp only[if_true,true_implies]at j3 j4;have hkl:=qP j1 j2;obtain⟨n,rfl⟩:∃m,n=m+1:=⟨n-1,by omega⟩
    rw[Vz]at j4
    simp -dsimp;refine dD.of [3000007] (kb 0x2001e85f) (ι:={z:Nat×List Int // z.1≤T.length∧z.2=IB (T.take z.1) ks})
     (fun z=>[(.s 0,It.v (.agg [TV.d (.int .i64 r),TV.d (.sl (hps T))])),(.o 1,It.box [TV.d (.int .i64 r),TV.d (.sl (hps T))]),(.s 1,It.v (.ptr (.o 1) 0)),(.s 2,It.v (.c (Value.map none))),
      (.o 7,It.fO (Aa z.1.2) 0 none none),(.s 3,It.v (.mref 7)),(.s 4,It.v (.d (.bool (decide (z.1.2.length≠ks.length))))),(.s 13,It.v (.d (.sl (hps T)))),(.s 14,It.v (.d (.int .i64 T.length))),(.s 15,It.v (.d (.int .i64 z.1.1)))])
     (fun z=>T.length-z.1.1) ⟨(0,ks),by omega,rfl⟩ ?_ ?_
    ·exact GS.to (by simp[hlen])
    ·rintro⟨⟨i,ms⟩,m1,m2⟩;simp only at m1 m2;by_cases hi:i<T.length
     ·have hiz:(i:Int)<T.length:=by omega
      have hl:=aj hi;have ht:IB (T.take (i+1)) ks=yC ms T[i]:=by rw[aT,hl,IB,iF,dZ,m2];rfl
      generalize T[i]=h at hl ht;obtain⟨a,b⟩:=h;have hg:=yT hl;have hk1:=Dx a ms;have hk2:=Dx b ms;have hk3:=Qo ms;have hle:ks.length≤ms.length:=by rw[m2];exact IC _ _
      by_cases ca:a∈ms
      ·rw[if_pos ca]at hk1
       by_cases cb:b∈ms
       ·rw[if_pos cb]at hk2
        have hs:yC ms (a,b)=ms:=by unfold yC;rw[if_neg (by simp[cb])]
        simp -dsimp[hiz,hlen,hg,hk1,hk2,hk3,wrap_i64 (n:=(i:Int)+1) (by omega) (by omega)];and_intros;all_goals try first|rfl|omega|exact⟨by kernel_rfl⟩
        exact⟨⟨(i+1,ms),by omega,by rw[ht,hs]⟩,GS.to (by simp),by simp;omega⟩
       ·rw[if_neg cb]at hk2
        have hs:yC ms (a,b)=ms++[b]:=by unfold yC;rw[if_pos ⟨ca,cb⟩]
        have hk4:=fun v=>YH cb v
        have hsn:=Ut ms b;have hne :¬(ms.length+1=ks.length):=by omega
        simp -dsimp[hiz,hlen,hg,hk1,hk2,hk3,hk4,wrap_i64 (n:=(i:Int)+1) (by omega) (by omega)];and_intros;all_goals try first|rfl|omega|exact⟨by kernel_rfl⟩
        exact⟨⟨(i+1,ms++[b]),by omega,by rw[ht,hs]⟩,GS.to (by simp[←hsn,hne]),by simp;omega⟩
      ·rw[if_neg ca]at hk1
       have hs:yC ms (a,b)=ms:=by unfold yC;rw[if_neg (by simp[ca])]
       simp -dsimp[hiz,hlen,hg,hk1,hk3,wrap_i64 (n:=(i:Int)+1) (by omega) (by omega)];and_intros;all_goals try first|rfl|omega|exact⟨by kernel_rfl⟩
       exact⟨⟨(i+1,ms),by omega,by rw[ht,hs]⟩,GS.to (by simp),by simp;omega⟩
     ·have hiz :¬(i:Int)<T.length:=by omega
      have hm:ms=IB T ks:=by rw[m2,aS (by omega)]
      simp -dsimp[hiz];by_cases hc:ms.length=ks.length
      ·rw[←hm,if_pos hc]at j4
       obtain⟨h1,_⟩:=Ko (T:=T) (ks:=ks) (by rw[←hm];exact hc);exact⟨⟨(ms,0,false),by rw[hm];exact Na T j1,by rw[hm];exact IE j2 hBT,by simp,by rw[j4,hm,h1];rfl⟩,GS.to (by simp[hc]),by simp⟩
      ·rw[←hm,if_neg hc]at j4
       have hle:ks.length≤ms.length:=by rw[hm];exact IC _ _
       exact⟨⟨(ms,n,true),by rw[hm];exact Na T j1,by rw[hm];exact IE j2 hBT,fun _=>by simp only;omega,by rw[j4];rfl⟩,GS.to (by simp[hc]),by simp⟩
end Go.Proofs
