/-
  What functions of the program compute, stated as contracts over plain data; the conditions of each stand in its own statement.
-/
import Derived.Test.YtboimfkommpglaaGreatDoorZB14
set_option linter.unusedSimpArgs false
set_option maxRecDepth 100000
set_option maxHeartbeats 4000000
namespace Go.Proofs
open Go Go.Tr
structure Rw where
 id:Int
 nx:List Int
structure Tb where
 r:Int
 sd:Int
 len:Int
 rows:List Rw
def Rw.cs(x:Rw):List D:=[.int .i64 x.id,ints x.nx]
def Bl(x:Rw):TV:=.agg [.d (.int .i64 x.id),.d (ints x.nx)]
def dZ(l:List Rw):D:=.sl (l.map Rw.cs)
def gQ(b:Tb):TV:=.agg [.d (.int .i64 b.r),.d (.int .i64 b.sd),.d (.int .i64 b.len),.d (dZ b.rows)]
def Df(n lo hi:Int):Prop:=lo≤n∧n≤hi
instance (n lo hi:Int):Decidable (Df n lo hi):=inferInstanceAs (Decidable (_∧_))
theorem fQ{n lo hi:Int}(h:Df n lo hi):inB n lo hi=true:=by simp[inB,h.1,h.2]
theorem qV{n lo hi:Int}(h :¬Df n lo hi):inB n lo hi=false:=by grind[Df,inB]
def Rw.out(x:Rw):Prop:=¬Df x.id 1 256∨∃n∈x.nx,¬Df n 1 99
instance (x:Rw):Decidable x.out:=inferInstanceAs (Decidable (_∨_))
def Tb.head(b:Tb):Prop:=Df b.r 1 99∧Df b.sd 0 7∧(dQ b.len=true∨b.len=0∧b.rows.length=0)
instance (b:Tb):Decidable b.head:=inferInstanceAs (Decidable (_∧_))
def Tb.NR(b:Tb):Prop:=(b.rows.map (·.id)).Pairwise (· < ·)∧∀x∈b.rows,x.nx.Pairwise (· < ·)
instance (b:Tb):Decidable b.NR:=inferInstanceAs (Decidable (_∧_))
def chk(b:Tb):Int:=
 if ¬b.head then 2 else if ∃x∈b.rows,x.out then 2 else if 256<b.rows.length then 3 else if ∃x∈b.rows,24<x.nx.length then 3 else if ¬b.NR then 25 else if ∃x∈b.rows,1<x.nx.length∧b.r∈x.nx then 8 else 0
section
variable {b:Tb}
theorem uj(h :¬b.head):chk b=2:=by grind[chk]
theorem Fj(h:b.head)(g:∃x∈b.rows,x.out):chk b=2:=by unfold chk;simp[*]
theorem Qo(h:b.head)(g :¬∃x∈b.rows,x.out)(i:256<b.rows.length):chk b=3:=by unfold chk;simp[*]
theorem Qp(h:b.head)(g :¬∃x∈b.rows,x.out)(i :¬256<b.rows.length)(j:∃x∈b.rows,24<x.nx.length):chk b=3:=by unfold chk;simp[*]
theorem wB(h:b.head)(g :¬∃x∈b.rows,x.out)(i :¬256<b.rows.length)(j :¬∃x∈b.rows,24<x.nx.length)(k :¬b.NR):chk b=25:=by unfold chk;simp[*]
theorem KR(h:b.head)(g :¬∃x∈b.rows,x.out)(i :¬256<b.rows.length)(j :¬∃x∈b.rows,24<x.nx.length)(k:b.NR)(l:∃x∈b.rows,1<x.nx.length∧b.r∈x.nx):chk b=8:=by unfold chk;simp[*]
theorem N_(h:b.head)(g :¬∃x∈b.rows,x.out)(i :¬256<b.rows.length)(j :¬∃x∈b.rows,24<x.nx.length)(k:b.NR)(l :¬∃x∈b.rows,1<x.nx.length∧b.r∈x.nx):chk b=0:=by unfold chk;simp[*]
theorem kH(j:Nat):((j:Int)+1).toNat=j+1:=by omega
theorem BM:∀{l:List Int},(∀a x y,l[a]? = some x→l[a+1]? = some y→x<y)→l.Pairwise (· < ·)
 | [],_=>.nil
 | [x],_=>by simp
 | x::y::r,h=>by
   have ih:=BM (l:=y::r) fun a u v hu hv=>h (a+1) u v (by trivial) (by trivial)
   have h0:=h 0 x y rfl rfl
   grind[List.pairwise_cons]
theorem Q5(h:∀a x y,b.rows[a]? = some x→b.rows[a+1]? = some y→x.id<y.id)(g:∀x∈b.rows,x.nx.Pairwise (· < ·)):b.NR:=by
 refine⟨BM fun a x y hx hy=>?_,g⟩
 grind
theorem QB(h:b.NR){i:Nat}{x y:Rw}(hy:b.rows[i-1]? = some y)(hx:b.rows[i]? = some x)(h0:0<i)(hle:x.id≤y.id):False:=by
 obtain⟨h1,h2⟩:=aA.1 hx;obtain⟨h3,h4⟩:=aA.1 hy;have:=bT.1 h.1 (i-1) i (by simp[*]) (by simp[*]) (by omega)
 grind
theorem Yc(h:b.NR){x:Rw}(hx:x∈b.rows){k:Nat}(hk:k+1<x.nx.length)(hle:x.nx[k+1]≤x.nx[k]):False:=by have:=bT.1 (h.2 x hx) k (k+1) (by omega) hk (by omega);omega
end
theorem Fh(b:Tb)(hb:b.rows.length≤9223372036854775807)(hn:∀x∈b.rows,x.nx.length≤9223372036854775807):Contract Tryz.prog 130 [gQ b] [] (.d (.int .i64 (chk b))) [] []:=by
 refine aC Tryz.func130 rfl (fun E0=>?_);refine iK.sound (g:=.mk) (ow:=[]) (kp:=(kb 0x2000010800880000021004220010080210000003ff)) ?_;rw[Tryz.ntmps130];by_cases a1:Df b.r 1 99
 ·simp -dsimp[gQ];refine aF.of (w_ b.r 1 99) [] 0 ?_;by_cases a2:Df b.sd 0 7
  ·simp -dsimp[fQ a1];refine aF.of (w_ b.sd 0 7) [] 0 ?_;simp -dsimp[fQ a1,fQ a2];refine aF.of (uJ b.len) [] 0 ?_;rcases (au (dQ b.len)).symm with a3|a3
   ·by_cases a4:b.len=0
    ·by_cases a5:b.rows.length=0
     ·have a5z :¬(0:Int)<b.rows.length:=by omega
      have hh:b.head:=⟨a1,a2,.inr ⟨a4,a5⟩⟩
      simp -dsimp[fQ a1,fQ a2,a3,eq_true a4,a5,a5z,dZ];and_intros;all_goals try first|rfl|omega|exact⟨by kernel_rfl⟩
      clear a5 a5z
      as_aux_lemma=>
      refine bY.of [] (kb 0x2000010800880000021004220010080210000003ff) (ι:={i:Nat // i≤b.rows.length∧∀a,a<i→∀x,b.rows[a]? = some x→¬x.out})
       (fun z=>[(.o 1,It.box [TV.d (.int .i64 b.r),TV.d (.int .i64 b.sd),TV.d (.int .i64 b.len),TV.d (dZ b.rows)]),(.s 1,It.v (.ptr (.o 1) 0)),(.s 2,It.v (.d (.int .i64 0))),(.s 3,It.v (.d (.int .i64 z.1)))]) (fun z=>b.rows.length-z.1) ⟨0,by omega,fun a h=>by omega⟩ ?_ ?_
      ·simp[GS.to,dZ]
      ·rintro⟨i,i1,i2⟩;by_cases hi:i<b.rows.length
       ·have hiz:(i:Int)<b.rows.length:=by omega
        have hg:b.rows[i]? = some b.rows[i]:=ah hi;have hx:=hn _ (aB hi);have hm:b.rows[i]∈b.rows:=aB hi;generalize b.rows[i]=x at hg hx hm;simp -dsimp[dZ,hg,hiz,Rw.cs];refine aF.of (w_ x.id 1 256) [] 0 ?_;by_cases c1:Df x.id 1 256
        ·simp -dsimp[fQ c1];and_intros;all_goals try first|rfl|omega|exact⟨by kernel_rfl⟩
         refine bY.of [] (kb 0x2000010800880000021004220010080210000003ff) (ι:={k:Nat // k≤x.nx.length∧∀c,c<k→∀n,x.nx[c]? = some n→Df n 1 99})
          (fun z=>[(.o 1,It.box [TV.d (.int .i64 b.r),TV.d (.int .i64 b.sd),TV.d (.int .i64 b.len),TV.d (dZ b.rows)]),(.s 1,It.v (.ptr (.o 1) 0)),(.s 2,It.v (.d (.int .i64 0))),(.s 3,It.v (.d (.int .i64 i))),(.s 4,It.v (.d (.int .i64 z.1)))]) (fun z=>x.nx.length-z.1) ⟨0,by omega,fun a h=>by omega⟩ ?_ ?_
         ·simp[GS.to,dZ]
         ·rintro⟨k,k1,k2⟩;by_cases hk:k<x.nx.length
          ·have hkz:(k:Int)<x.nx.length:=by omega
           have hq:x.nx[k]? = some x.nx[k]:=ah hk;have hqm:x.nx[k]∈x.nx:=aB hk;generalize x.nx[k]=n at hq hqm;simp -dsimp[dZ,hg,hiz,Rw.cs,ints,hkz,hq];and_intros;all_goals try first|rfl|omega|exact⟨by kernel_rfl⟩
           refine aF.of (w_ n 1 99) [] 0 ?_;by_cases c2:Df n 1 99
           ·simp -dsimp[fQ c2,wrap_i64 (n:=(k:Int)+1) (by omega) (by omega)];and_intros;all_goals try first|rfl|omega|exact⟨by kernel_rfl⟩
            exact⟨⟨k+1,by omega,fun c hc m hm'=>by
             grind⟩,GS.to (by simp[dZ]),by grind⟩
           ·simp -dsimp[qV c2];and_intros;all_goals try first|rfl|omega|exact⟨by kernel_rfl⟩
            refine Fin.of ?_;have hc:=Fj hh ⟨x,hm,.inr ⟨n,hqm,c2⟩⟩;simp[*]
          ·have hkz :¬(k:Int)<x.nx.length:=by omega
           simp -dsimp[dZ,hg,hiz,Rw.cs,ints,hkz,wrap_i64 (n:=(i:Int)+1) (by omega) (by omega)];and_intros;all_goals try first|rfl|omega|exact⟨by kernel_rfl⟩
           exact⟨⟨i+1,by omega,fun a ha y hy=>by
            by_cases e:a=i
            ·subst e;rw[hg]at hy;simp only[aj]at hy;subst hy
             rintro (h|⟨m,hm',h⟩)
             ·trivial
             grind[List.getElem?_of_mem]
            grind⟩,GS.to (by simp[dZ]),by grind⟩
        ·simp -dsimp[qV c1];and_intros;all_goals try first|rfl|omega|exact⟨by kernel_rfl⟩
         refine Fin.of ?_;have hc:=Fj hh ⟨x,hm,.inl c1⟩;simp[*]
       ·have hiz :¬(i:Int)<b.rows.length:=by omega
        have ho :¬∃x∈b.rows,x.out:=fun⟨x,hx,h⟩=>by grind[List.getElem?_of_mem]
        by_cases c3:256<b.rows.length
        ·have P8:(256:Int)<b.rows.length:=by omega
         simp -dsimp[dZ,hiz,P8];refine Fin.of ?_;have hc:=Qo hh ho c3;simp[hc]
        ·have P8 :¬(256:Int)<b.rows.length:=by omega
         simp -dsimp[dZ,hiz,P8]
         as_aux_lemma=>
         refine bY.of [] (kb 0x2000010800880000021004220010080210000003ff) (ι:={i:Nat // i≤b.rows.length∧∀a,a<i→∀x,b.rows[a]? = some x→¬24<x.nx.length})
          (fun z=>[(.o 1,It.box [TV.d (.int .i64 b.r),TV.d (.int .i64 b.sd),TV.d (.int .i64 b.len),TV.d (dZ b.rows)]),(.s 1,It.v (.ptr (.o 1) 0)),(.s 2,It.v (.d (.int .i64 0))),(.s 5,It.v (.d (.int .i64 z.1)))]) (fun z=>b.rows.length-z.1) ⟨0,by omega,fun a h=>by omega⟩ ?_ ?_
         ·exact GS.to (by simp[dZ])
         ·rintro⟨i2,i21,i22⟩;by_cases hi2:i2<b.rows.length
          ·have Dc:(i2:Int)<b.rows.length:=by omega
           have hg2:b.rows[i2]? = some b.rows[i2]:=ah hi2;have hm2:b.rows[i2]∈b.rows:=aB hi2;generalize b.rows[i2]=x at hg2 hm2;by_cases c1:24<x.nx.length
           ·have xB:(24:Int)<x.nx.length:=by omega
            simp -dsimp[dZ,hg2,Dc,Rw.cs,ints,c1,xB];and_intros;all_goals try first|rfl|omega|exact⟨by kernel_rfl⟩
            refine Fin.of ?_;have hc:=Qp hh ho (by omega) ⟨x,hm2,c1⟩;simp[hc]
           ·have xB :¬(24:Int)<x.nx.length:=by omega
            simp -dsimp[dZ,hg2,Dc,Rw.cs,ints,c1,xB,wrap_i64 (n:=(i2:Int)+1) (by omega) (by omega)];and_intros;all_goals try first|rfl|omega|exact⟨by kernel_rfl⟩
            exact⟨⟨i2+1,by omega,fun a ha y hy=>by
             by_cases e:a=i2
             ·subst e;rw[hg2]at hy;simp only[aj]at hy;subst hy;exact c1
             ·exact i22 a (by omega) y hy⟩,GS.to (by simp[dZ]),by simp;omega⟩
          ·have Dc :¬(i2:Int)<b.rows.length:=by omega
           have hlim :¬∃x∈b.rows,24<x.nx.length:=fun⟨x,hx,h⟩=>by obtain⟨a,ha⟩:=bM hx;exact i22 a (by have:=(aA.1 ha).1;omega) x ha h
           simp -dsimp[dZ,Dc];refine bY.of [] (kb 0x2000010800880000021004220010080210000003ff) (ι:={i:Nat // i≤b.rows.length∧∀a,a<i→∀x,b.rows[a]? = some x→x.nx.Pairwise (· < ·)∧∀y,0<a→b.rows[a-1]? = some y→y.id<x.id})
            (fun z=>[(.o 1,It.box [TV.d (.int .i64 b.r),TV.d (.int .i64 b.sd),TV.d (.int .i64 b.len),TV.d (dZ b.rows)]),(.s 1,It.v (.ptr (.o 1) 0)),(.s 2,It.v (.d (.int .i64 0))),(.s 6,It.v (.d (.int .i64 z.1)))]) (fun z=>b.rows.length-z.1) ⟨0,by omega,fun a h=>by omega⟩ ?_ ?_
           ·exact GS.to (by simp[dZ])
           ·rintro⟨i3,i31,i32⟩;by_cases hi3:i3<b.rows.length
            ·have FI:(i3:Int)<b.rows.length:=by omega
             have hg3:b.rows[i3]? = some b.rows[i3]:=ah hi3;have hx3:=hn _ (aB hi3);have hm3:b.rows[i3]∈b.rows:=aB hi3;generalize b.rows[i3]=x at hg3 hx3 hm3;by_cases c0:0<i3
             ·have Qn:(0:Int)<i3:=by omega
              have abB:i3-1<b.rows.length:=by omega
              have hp3:b.rows[i3-1]? = some b.rows[i3-1]:=ah abB;generalize b.rows[i3-1]=y at hp3;have hiw:((i3:Int)-1).toNat=i3-1:=by omega
              by_cases c1:x.id≤y.id
              ·simp -dsimp[dZ,hg3,FI,c0,Qn,hp3,hiw,Rw.cs,c1,wrap_i64 (n:=(i3:Int)-1) (by omega) (by omega)];and_intros;all_goals try first|rfl|omega|exact⟨by kernel_rfl⟩
               refine Fin.of ?_;have hc:=wB hh ho (by omega) hlim (fun h=>QB h hp3 hg3 c0 c1);simp[hc]
              ·simp -dsimp[dZ,hg3,FI,c0,Qn,hp3,hiw,Rw.cs,c1,wrap_i64 (n:=(i3:Int)-1) (by omega) (by omega)];and_intros;all_goals try first|rfl|omega|exact⟨by kernel_rfl⟩
               have abC:∀y',0<i3→b.rows[i3-1]? = some y'→y'.id<x.id:=fun y' _ h=>by rw[hp3]at h;simp only[aj]at h;subst h;omega
               refine bY.of [] (kb 0x2000010800880000021004220010080210000003ff) (ι:={k:Nat // k≤x.nx.length∧∀c,c<k→∀u v,x.nx[c]? = some u→x.nx[c+1]? = some v→u<v})
                (fun z=>[(.o 1,It.box [TV.d (.int .i64 b.r),TV.d (.int .i64 b.sd),TV.d (.int .i64 b.len),TV.d (dZ b.rows)]),(.s 1,It.v (.ptr (.o 1) 0)),(.s 2,It.v (.d (.int .i64 0))),(.s 6,It.v (.d (.int .i64 i3))),(.s 7,It.v (.d (ints x.nx))),(.s 8,It.v (.d (.int .i64 ((z.1:Int)+1))))]) (fun z=>x.nx.length-z.1) ⟨0,by omega,fun a h=>by omega⟩ ?_ ?_
               ·exact GS.to (by simp[dZ])
               ·rintro⟨k,k1,k2⟩;by_cases hk:k+1<x.nx.length
                ·have hk0:k<x.nx.length:=by omega
                 have hkz:(k:Int)+1<x.nx.length:=by omega
                 have hq0:x.nx[k]? = some x.nx[k]:=ah hk0;have hq1:x.nx[k+1]? = some x.nx[k+1]:=ah hk;by_cases c2:x.nx[k+1]≤x.nx[k]
                 ·simp -dsimp[ints,hkz,hq0,hq1,c2,kH,wrap_i64 (n:=(k:Int)) (by omega) (by omega)];and_intros;all_goals try first|rfl|omega|exact⟨by kernel_rfl⟩
                  refine Fin.of ?_;have hc:=wB hh ho (by omega) hlim (fun h=>Yc h hm3 hk c2);simp[hc]
                 ·simp -dsimp[ints,hkz,hq0,hq1,c2,kH,wrap_i64 (n:=(k:Int)) (by omega) (by omega),wrap_i64 (n:=(k:Int)+1+1) (by omega) (by omega)];and_intros;all_goals try first|rfl|omega|exact⟨by kernel_rfl⟩
                  exact⟨⟨k+1,by omega,fun c hc u v hu hv=>by
                   by_cases e:c=k
                   ·subst e;rw[hq0]at hu;rw[hq1]at hv;simp only[aj]at hu hv;omega
                   ·exact k2 c (by omega) u v hu hv⟩,GS.to (by simp[ints]),by simp;omega⟩
                ·have hkz :¬(k:Int)+1<x.nx.length:=by omega
                 have hpw:x.nx.Pairwise (· < ·):=BM fun c u v hu hv=>k2 c (by have:=(aA.1 hv).1;omega) u v hu hv
                 simp -dsimp[ints,hkz,wrap_i64 (n:=(i3:Int)+1) (by omega) (by omega)];exact⟨⟨i3+1,by omega,fun a ha y hy=>by
                  by_cases e:a=i3
                  ·subst e;rw[hg3]at hy;simp only[aj]at hy;subst hy;exact⟨hpw,abC⟩
                  ·exact i32 a (by omega) y hy⟩,GS.to (by simp[dZ]),by simp;omega⟩
             ·have Qn :¬(0:Int)<i3:=by omega
              simp -dsimp[dZ,hg3,FI,c0,Qn,Rw.cs];and_intros;all_goals try first|rfl|omega|exact⟨by kernel_rfl⟩
              have abC:∀y',0<i3→b.rows[i3-1]? = some y'→y'.id<x.id:=fun y' h _=>absurd h c0
              refine bY.of [] (kb 0x2000010800880000021004220010080210000003ff) (ι:={k:Nat // k≤x.nx.length∧∀c,c<k→∀u v,x.nx[c]? = some u→x.nx[c+1]? = some v→u<v})
               (fun z=>[(.o 1,It.box [TV.d (.int .i64 b.r),TV.d (.int .i64 b.sd),TV.d (.int .i64 b.len),TV.d (dZ b.rows)]),(.s 1,It.v (.ptr (.o 1) 0)),(.s 2,It.v (.d (.int .i64 0))),(.s 6,It.v (.d (.int .i64 i3))),(.s 7,It.v (.d (ints x.nx))),(.s 8,It.v (.d (.int .i64 ((z.1:Int)+1))))]) (fun z=>x.nx.length-z.1) ⟨0,by omega,fun a h=>by omega⟩ ?_ ?_
              ·exact GS.to (by simp[dZ])
              ·rintro⟨k,k1,k2⟩;by_cases hk:k+1<x.nx.length
               ·have hk0:k<x.nx.length:=by omega
                have hkz:(k:Int)+1<x.nx.length:=by omega
                have hq0:x.nx[k]? = some x.nx[k]:=ah hk0;have hq1:x.nx[k+1]? = some x.nx[k+1]:=ah hk;by_cases c2:x.nx[k+1]≤x.nx[k]
                ·simp -dsimp[ints,hkz,hq0,hq1,c2,kH,wrap_i64 (n:=(k:Int)) (by omega) (by omega)];and_intros;all_goals try first|rfl|omega|exact⟨by kernel_rfl⟩
                 refine Fin.of ?_;have hc:=wB hh ho (by omega) hlim (fun h=>Yc h hm3 hk c2);simp[hc]
                ·simp -dsimp[ints,hkz,hq0,hq1,c2,kH,wrap_i64 (n:=(k:Int)) (by omega) (by omega),wrap_i64 (n:=(k:Int)+1+1) (by omega) (by omega)];and_intros;all_goals try first|rfl|omega|exact⟨by kernel_rfl⟩
                 exact⟨⟨k+1,by omega,fun c hc u v hu hv=>by
                  by_cases e:c=k
                  ·subst e;rw[hq0]at hu;rw[hq1]at hv;simp only[aj]at hu hv;omega
                  ·exact k2 c (by omega) u v hu hv⟩,GS.to (by simp[ints]),by simp;omega⟩
               ·have hkz :¬(k:Int)+1<x.nx.length:=by omega
                have hpw:x.nx.Pairwise (· < ·):=BM fun c u v hu hv=>k2 c (by have:=(aA.1 hv).1;omega) u v hu hv
                simp -dsimp[ints,hkz,wrap_i64 (n:=(i3:Int)+1) (by omega) (by omega)];exact⟨⟨i3+1,by omega,fun a ha y hy=>by
                 by_cases e:a=i3
                 ·subst e;rw[hg3]at hy;simp only[aj]at hy;subst hy;exact⟨hpw,abC⟩
                 ·exact i32 a (by omega) y hy⟩,GS.to (by simp[dZ]),by simp;omega⟩
            ·have FI :¬(i3:Int)<b.rows.length:=by omega
             have hasc:b.NR:=Q5 (fun a x y hx hy=>((i32 (a+1) (by have:=(aA.1 hy).1;omega) y hy).2 x (by omega) hx)) (fun x hx=>by obtain⟨a,ha⟩:=bM hx;exact(i32 a (by have:=(aA.1 ha).1;omega) x ha).1);simp -dsimp[dZ,FI]
             refine bY.of [] (kb 0x2000010800880000021004220010080210000003ff) (ι:={i:Nat // i≤b.rows.length∧∀a,a<i→∀x,b.rows[a]? = some x→¬(1<x.nx.length∧b.r∈x.nx)})
              (fun z=>[(.o 1,It.box [TV.d (.int .i64 b.r),TV.d (.int .i64 b.sd),TV.d (.int .i64 b.len),TV.d (dZ b.rows)]),(.s 1,It.v (.ptr (.o 1) 0)),(.s 2,It.v (.d (.int .i64 0))),(.s 9,It.v (.d (.int .i64 z.1)))]) (fun z=>b.rows.length-z.1) ⟨0,by omega,fun a h=>by omega⟩ ?_ ?_
             ·exact GS.to (by simp[dZ])
             ·rintro⟨i4,i41,i42⟩;by_cases hi4:i4<b.rows.length
              ·have OA:(i4:Int)<b.rows.length:=by omega
               have hg4:b.rows[i4]? = some b.rows[i4]:=ah hi4;have hx4:=hn _ (aB hi4);have hm4:b.rows[i4]∈b.rows:=aB hi4;generalize b.rows[i4]=x at hg4 hx4 hm4;by_cases c1:1<x.nx.length
               ·have xB:(1:Int)<x.nx.length:=by omega
                simp -dsimp[dZ,hg4,OA,Rw.cs,ints,c1,xB];refine aF.of (SS x.nx (by omega) b.r) [] 0 ?_;rcases (au (pY x.nx b.r)).symm with c2|c2
                ·simp -dsimp[dZ,hg4,OA,Rw.cs,ints,c1,xB,c2,wrap_i64 (n:=(i4:Int)+1) (by omega) (by omega)];and_intros;all_goals try first|rfl|exact⟨by kernel_rfl⟩
                 exact⟨⟨i4+1,by omega,fun a ha y hy=>by
                  by_cases e:a=i4
                  ·subst e;rw[hg4]at hy;simp only[aj]at hy;subst hy;rintro⟨_,h⟩;simp[pY,h]at c2
                  ·exact i42 a (by omega) y hy⟩,GS.to (by simp[dZ]),by simp;omega⟩
                ·simp -dsimp[dZ,hg4,OA,Rw.cs,ints,c1,xB,c2];and_intros;all_goals try first|rfl|exact⟨by kernel_rfl⟩
                 refine Fin.of ?_;have hc:=KR hh ho (by omega) hlim hasc ⟨x,hm4,c1,by simpa[pY]using c2⟩;simp[hc]
               ·have xB :¬(1:Int)<x.nx.length:=by omega
                simp -dsimp[dZ,hg4,OA,Rw.cs,ints,c1,xB,wrap_i64 (n:=(i4:Int)+1) (by omega) (by omega)];and_intros;all_goals try first|rfl|exact⟨by kernel_rfl⟩
                exact⟨⟨i4+1,by omega,fun a ha y hy=>by
                 by_cases e:a=i4
                 ·subst e;rw[hg4]at hy;simp only[aj]at hy;subst hy;exact fun h=>c1 h.1
                 ·exact i42 a (by omega) y hy⟩,GS.to (by simp[dZ]),by simp;omega⟩
              ·have OA :¬(i4:Int)<b.rows.length:=by omega
               simp -dsimp[dZ,OA];refine Fin.of ?_;have hc:=N_ hh ho (by omega) hlim hasc (fun⟨x,hx,h⟩=>by obtain⟨a,ha⟩:=bM hx;exact i42 a (by have:=(aA.1 ha).1;omega) x ha h);simp[hc]
     ·have a5z:(0:Int)<b.rows.length:=by omega
      simp -dsimp[fQ a1,fQ a2,a3,eq_true a4,a5z,show 0<b.rows.length by omega,dZ];and_intros;all_goals try first|rfl|omega|exact⟨by kernel_rfl⟩
      refine Fin.of ?_;have hc:=uj (fun h=>h.2.2.elim (fun h=>by rw[a3]at h;simp at h) fun h=>a5 h.2);simp[hc]
    ·simp -dsimp[fQ a1,fQ a2,a3,a4];and_intros;all_goals try first|rfl|omega|exact⟨by kernel_rfl⟩
     refine Fin.of ?_;have hc:=uj (fun h=>h.2.2.elim (fun h=>by rw[a3]at h;simp at h) fun h=>a4 h.1);simp[hc]
   ·have hh:b.head:=⟨a1,a2,.inl a3⟩
    simp -dsimp[fQ a1,fQ a2,a3];and_intros;all_goals try first|rfl|omega|exact⟨by kernel_rfl⟩
    as_aux_lemma=>
    refine bY.of [] (kb 0x2000010800880000021004220010080210000003ff) (ι:={i:Nat // i≤b.rows.length∧∀a,a<i→∀x,b.rows[a]? = some x→¬x.out})
     (fun z=>[(.o 1,It.box [TV.d (.int .i64 b.r),TV.d (.int .i64 b.sd),TV.d (.int .i64 b.len),TV.d (dZ b.rows)]),(.s 1,It.v (.ptr (.o 1) 0)),(.s 2,It.v (.d (.int .i64 0))),(.s 3,It.v (.d (.int .i64 z.1)))]) (fun z=>b.rows.length-z.1) ⟨0,by omega,fun a h=>by omega⟩ ?_ ?_
    ·exact GS.to (by simp[dZ])
    ·rintro⟨i,i1,i2⟩;by_cases hi:i<b.rows.length
     ·have hiz:(i:Int)<b.rows.length:=by omega
      have hg:b.rows[i]? = some b.rows[i]:=ah hi;have hx:=hn _ (aB hi);have hm:b.rows[i]∈b.rows:=aB hi;generalize b.rows[i]=x at hg hx hm;simp -dsimp[dZ,hg,hiz,Rw.cs];refine aF.of (w_ x.id 1 256) [] 0 ?_;by_cases c1:Df x.id 1 256
      ·simp -dsimp[fQ c1];and_intros;all_goals try first|rfl|omega|exact⟨by kernel_rfl⟩
       refine bY.of [] (kb 0x2000010800880000021004220010080210000003ff) (ι:={k:Nat // k≤x.nx.length∧∀c,c<k→∀n,x.nx[c]? = some n→Df n 1 99})
        (fun z=>[(.o 1,It.box [TV.d (.int .i64 b.r),TV.d (.int .i64 b.sd),TV.d (.int .i64 b.len),TV.d (dZ b.rows)]),(.s 1,It.v (.ptr (.o 1) 0)),(.s 2,It.v (.d (.int .i64 0))),(.s 3,It.v (.d (.int .i64 i))),(.s 4,It.v (.d (.int .i64 z.1)))]) (fun z=>x.nx.length-z.1) ⟨0,by omega,fun a h=>by omega⟩ ?_ ?_
       ·exact GS.to (by simp[dZ])
       ·rintro⟨k,k1,k2⟩;by_cases hk:k<x.nx.length
        ·have hkz:(k:Int)<x.nx.length:=by omega
         have hq:x.nx[k]? = some x.nx[k]:=ah hk;have hqm:x.nx[k]∈x.nx:=aB hk;generalize x.nx[k]=n at hq hqm;simp -dsimp[dZ,hg,hiz,Rw.cs,ints,hkz,hq];and_intros;all_goals try first|rfl|omega|exact⟨by kernel_rfl⟩
         refine aF.of (w_ n 1 99) [] 0 ?_;by_cases c2:Df n 1 99
         ·simp -dsimp[fQ c2,wrap_i64 (n:=(k:Int)+1) (by omega) (by omega)];and_intros;all_goals try first|rfl|omega|exact⟨by kernel_rfl⟩
          exact⟨⟨k+1,by omega,fun c hc m hm'=>by
           by_cases e:c=k
           ·subst e;rw[hq]at hm';simp only[aj]at hm';subst hm';exact c2
           ·exact k2 c (by omega) m hm'⟩,GS.to (by simp[dZ]),by simp;omega⟩
         ·simp -dsimp[qV c2];and_intros;all_goals try first|rfl|omega|exact⟨by kernel_rfl⟩
          refine Fin.of ?_;have hc:=Fj hh ⟨x,hm,.inr ⟨n,hqm,c2⟩⟩;simp[hc]
        ·have hkz :¬(k:Int)<x.nx.length:=by omega
         simp -dsimp[dZ,hg,hiz,Rw.cs,ints,hkz,wrap_i64 (n:=(i:Int)+1) (by omega) (by omega)];and_intros;all_goals try first|rfl|omega|exact⟨by kernel_rfl⟩
         exact⟨⟨i+1,by omega,fun a ha y hy=>by
          by_cases e:a=i
          ·subst e;rw[hg]at hy;simp only[aj]at hy;subst hy
           rintro (h|⟨m,hm',h⟩)
           ·exact h c1
           ·obtain⟨c,hc⟩:=bM hm';exact h (k2 c (by have:=(aA.1 hc).1;omega) m hc)
          ·exact i2 a (by omega) y hy⟩,GS.to (by simp[dZ]),by simp;omega⟩
      ·simp -dsimp[qV c1];and_intros;all_goals try first|rfl|omega|exact⟨by kernel_rfl⟩
       refine Fin.of ?_;have hc:=Fj hh ⟨x,hm,.inl c1⟩;simp[hc]
     ·have hiz :¬(i:Int)<b.rows.length:=by omega
      have ho :¬∃x∈b.rows,x.out:=fun⟨x,hx,h⟩=>by obtain⟨a,ha⟩:=bM hx;exact i2 a (by have:=(aA.1 ha).1;omega) x ha h
      by_cases c3:256<b.rows.length
      ·have P8:(256:Int)<b.rows.length:=by omega
       simp -dsimp[dZ,hiz,P8];refine Fin.of ?_;have hc:=Qo hh ho c3;simp[hc]
      ·have P8 :¬(256:Int)<b.rows.length:=by omega
       simp -dsimp[dZ,hiz,P8]
       as_aux_lemma=>
       refine bY.of [] (kb 0x2000010800880000021004220010080210000003ff) (ι:={i:Nat // i≤b.rows.length∧∀a,a<i→∀x,b.rows[a]? = some x→¬24<x.nx.length})
        (fun z=>[(.o 1,It.box [TV.d (.int .i64 b.r),TV.d (.int .i64 b.sd),TV.d (.int .i64 b.len),TV.d (dZ b.rows)]),(.s 1,It.v (.ptr (.o 1) 0)),(.s 2,It.v (.d (.int .i64 0))),(.s 5,It.v (.d (.int .i64 z.1)))]) (fun z=>b.rows.length-z.1) ⟨0,by omega,fun a h=>by omega⟩ ?_ ?_
       ·exact GS.to (by simp[dZ])
       ·rintro⟨i2,i21,i22⟩;by_cases hi2:i2<b.rows.length
        ·have Dc:(i2:Int)<b.rows.length:=by omega
         have hg2:b.rows[i2]? = some b.rows[i2]:=ah hi2;have hm2:b.rows[i2]∈b.rows:=aB hi2;generalize b.rows[i2]=x at hg2 hm2;by_cases c1:24<x.nx.length
         ·have xB:(24:Int)<x.nx.length:=by omega
          simp -dsimp[dZ,hg2,Dc,Rw.cs,ints,c1,xB];and_intros;all_goals try first|rfl|omega|exact⟨by kernel_rfl⟩
          refine Fin.of ?_;have hc:=Qp hh ho (by omega) ⟨x,hm2,c1⟩;simp[hc]
         ·have xB :¬(24:Int)<x.nx.length:=by omega
          simp -dsimp[dZ,hg2,Dc,Rw.cs,ints,c1,xB,wrap_i64 (n:=(i2:Int)+1) (by omega) (by omega)];and_intros;all_goals try first|rfl|omega|exact⟨by kernel_rfl⟩
          exact⟨⟨i2+1,by omega,fun a ha y hy=>by
           by_cases e:a=i2
           ·subst e;rw[hg2]at hy;simp only[aj]at hy;subst hy;exact c1
           ·exact i22 a (by omega) y hy⟩,GS.to (by simp[dZ]),by simp;omega⟩
        ·have Dc :¬(i2:Int)<b.rows.length:=by omega
         have hlim :¬∃x∈b.rows,24<x.nx.length:=fun⟨x,hx,h⟩=>by obtain⟨a,ha⟩:=bM hx;exact i22 a (by have:=(aA.1 ha).1;omega) x ha h
         simp -dsimp[dZ,Dc];refine bY.of [] (kb 0x2000010800880000021004220010080210000003ff) (ι:={i:Nat // i≤b.rows.length∧∀a,a<i→∀x,b.rows[a]? = some x→x.nx.Pairwise (· < ·)∧∀y,0<a→b.rows[a-1]? = some y→y.id<x.id})
          (fun z=>[(.o 1,It.box [TV.d (.int .i64 b.r),TV.d (.int .i64 b.sd),TV.d (.int .i64 b.len),TV.d (dZ b.rows)]),(.s 1,It.v (.ptr (.o 1) 0)),(.s 2,It.v (.d (.int .i64 0))),(.s 6,It.v (.d (.int .i64 z.1)))]) (fun z=>b.rows.length-z.1) ⟨0,by omega,fun a h=>by omega⟩ ?_ ?_
         ·exact GS.to (by simp[dZ])
         ·rintro⟨i3,i31,i32⟩;by_cases hi3:i3<b.rows.length
          ·have FI:(i3:Int)<b.rows.length:=by omega
           have hg3:b.rows[i3]? = some b.rows[i3]:=ah hi3;have hx3:=hn _ (aB hi3);have hm3:b.rows[i3]∈b.rows:=aB hi3;generalize b.rows[i3]=x at hg3 hx3 hm3;by_cases c0:0<i3
           ·have Qn:(0:Int)<i3:=by omega
            have abB:i3-1<b.rows.length:=by omega
            have hp3:b.rows[i3-1]? = some b.rows[i3-1]:=ah abB;generalize b.rows[i3-1]=y at hp3;have hiw:((i3:Int)-1).toNat=i3-1:=by omega
            by_cases c1:x.id≤y.id
            ·simp -dsimp[dZ,hg3,FI,c0,Qn,hp3,hiw,Rw.cs,c1,wrap_i64 (n:=(i3:Int)-1) (by omega) (by omega)];and_intros;all_goals try first|rfl|omega|exact⟨by kernel_rfl⟩
             refine Fin.of ?_;have hc:=wB hh ho (by omega) hlim (fun h=>QB h hp3 hg3 c0 c1);simp[hc]
            ·simp -dsimp[dZ,hg3,FI,c0,Qn,hp3,hiw,Rw.cs,c1,wrap_i64 (n:=(i3:Int)-1) (by omega) (by omega)];and_intros;all_goals try first|rfl|omega|exact⟨by kernel_rfl⟩
             have abC:∀y',0<i3→b.rows[i3-1]? = some y'→y'.id<x.id:=fun y' _ h=>by rw[hp3]at h;simp only[aj]at h;subst h;omega
             refine bY.of [] (kb 0x2000010800880000021004220010080210000003ff) (ι:={k:Nat // k≤x.nx.length∧∀c,c<k→∀u v,x.nx[c]? = some u→x.nx[c+1]? = some v→u<v})
              (fun z=>[(.o 1,It.box [TV.d (.int .i64 b.r),TV.d (.int .i64 b.sd),TV.d (.int .i64 b.len),TV.d (dZ b.rows)]),(.s 1,It.v (.ptr (.o 1) 0)),(.s 2,It.v (.d (.int .i64 0))),(.s 6,It.v (.d (.int .i64 i3))),(.s 7,It.v (.d (ints x.nx))),(.s 8,It.v (.d (.int .i64 ((z.1:Int)+1))))]) (fun z=>x.nx.length-z.1) ⟨0,by omega,fun a h=>by omega⟩ ?_ ?_
             ·exact GS.to (by simp[dZ])
             ·rintro⟨k,k1,k2⟩;by_cases hk:k+1<x.nx.length
              ·have hk0:k<x.nx.length:=by omega
               have hkz:(k:Int)+1<x.nx.length:=by omega
               have hq0:x.nx[k]? = some x.nx[k]:=ah hk0;have hq1:x.nx[k+1]? = some x.nx[k+1]:=ah hk;by_cases c2:x.nx[k+1]≤x.nx[k]
               ·simp -dsimp[ints,hkz,hq0,hq1,c2,kH,wrap_i64 (n:=(k:Int)) (by omega) (by omega)];and_intros;all_goals try first|rfl|omega|exact⟨by kernel_rfl⟩
                refine Fin.of ?_;have hc:=wB hh ho (by omega) hlim (fun h=>Yc h hm3 hk c2);simp[hc]
               ·simp -dsimp[ints,hkz,hq0,hq1,c2,kH,wrap_i64 (n:=(k:Int)) (by omega) (by omega),wrap_i64 (n:=(k:Int)+1+1) (by omega) (by omega)];and_intros;all_goals try first|rfl|omega|exact⟨by kernel_rfl⟩
                exact⟨⟨k+1,by omega,fun c hc u v hu hv=>by
                 by_cases e:c=k
                 ·subst e;rw[hq0]at hu;rw[hq1]at hv;simp only[aj]at hu hv;omega
                 ·exact k2 c (by omega) u v hu hv⟩,GS.to (by simp[ints]),by simp;omega⟩
              ·have hkz :¬(k:Int)+1<x.nx.length:=by omega
               have hpw:x.nx.Pairwise (· < ·):=BM fun c u v hu hv=>k2 c (by have:=(aA.1 hv).1;omega) u v hu hv
               simp -dsimp[ints,hkz,wrap_i64 (n:=(i3:Int)+1) (by omega) (by omega)];exact⟨⟨i3+1,by omega,fun a ha y hy=>by
                by_cases e:a=i3
                ·subst e;rw[hg3]at hy;simp only[aj]at hy;subst hy;exact⟨hpw,abC⟩
                ·exact i32 a (by omega) y hy⟩,GS.to (by simp[dZ]),by simp;omega⟩
           ·have Qn :¬(0:Int)<i3:=by omega
            simp -dsimp[dZ,hg3,FI,c0,Qn,Rw.cs];and_intros;all_goals try first|rfl|omega|exact⟨by kernel_rfl⟩
            have abC:∀y',0<i3→b.rows[i3-1]? = some y'→y'.id<x.id:=fun y' h _=>absurd h c0
            refine bY.of [] (kb 0x2000010800880000021004220010080210000003ff) (ι:={k:Nat // k≤x.nx.length∧∀c,c<k→∀u v,x.nx[c]? = some u→x.nx[c+1]? = some v→u<v})
             (fun z=>[(.o 1,It.box [TV.d (.int .i64 b.r),TV.d (.int .i64 b.sd),TV.d (.int .i64 b.len),TV.d (dZ b.rows)]),(.s 1,It.v (.ptr (.o 1) 0)),(.s 2,It.v (.d (.int .i64 0))),(.s 6,It.v (.d (.int .i64 i3))),(.s 7,It.v (.d (ints x.nx))),(.s 8,It.v (.d (.int .i64 ((z.1:Int)+1))))]) (fun z=>x.nx.length-z.1) ⟨0,by omega,fun a h=>by omega⟩ ?_ ?_
            ·exact GS.to (by simp[dZ])
            ·rintro⟨k,k1,k2⟩;by_cases hk:k+1<x.nx.length
             ·have hk0:k<x.nx.length:=by omega
              have hkz:(k:Int)+1<x.nx.length:=by omega
              have hq0:x.nx[k]? = some x.nx[k]:=ah hk0;have hq1:x.nx[k+1]? = some x.nx[k+1]:=ah hk;by_cases c2:x.nx[k+1]≤x.nx[k]
              ·simp -dsimp[ints,hkz,hq0,hq1,c2,kH,wrap_i64 (n:=(k:Int)) (by omega) (by omega)];and_intros;all_goals try first|rfl|omega|exact⟨by kernel_rfl⟩
               refine Fin.of ?_;have hc:=wB hh ho (by omega) hlim (fun h=>Yc h hm3 hk c2);simp[hc]
              ·simp -dsimp[ints,hkz,hq0,hq1,c2,kH,wrap_i64 (n:=(k:Int)) (by omega) (by omega),wrap_i64 (n:=(k:Int)+1+1) (by omega) (by omega)];and_intros;all_goals try first|rfl|omega|exact⟨by kernel_rfl⟩
               exact⟨⟨k+1,by omega,fun c hc u v hu hv=>by
                by_cases e:c=k
                ·subst e;rw[hq0]at hu;rw[hq1]at hv;simp only[aj]at hu hv;omega
                ·exact k2 c (by omega) u v hu hv⟩,GS.to (by simp[ints]),by simp;omega⟩
             ·have hkz :¬(k:Int)+1<x.nx.length:=by omega
              have hpw:x.nx.Pairwise (· < ·):=BM fun c u v hu hv=>k2 c (by have:=(aA.1 hv).1;omega) u v hu hv
              simp -dsimp[ints,hkz,wrap_i64 (n:=(i3:Int)+1) (by omega) (by omega)];exact⟨⟨i3+1,by omega,fun a ha y hy=>by
               by_cases e:a=i3
               ·subst e;rw[hg3]at hy;simp only[aj]at hy;subst hy;exact⟨hpw,abC⟩
               ·exact i32 a (by omega) y hy⟩,GS.to (by simp[dZ]),by simp;omega⟩
          ·have FI :¬(i3:Int)<b.rows.length:=by omega
           have hasc:b.NR:=Q5 (fun a x y hx hy=>((i32 (a+1) (by have:=(aA.1 hy).1;omega) y hy).2 x (by omega) hx)) (fun x hx=>by obtain⟨a,ha⟩:=bM hx;exact(i32 a (by have:=(aA.1 ha).1;omega) x ha).1);simp -dsimp[dZ,FI]
           refine bY.of [] (kb 0x2000010800880000021004220010080210000003ff) (ι:={i:Nat // i≤b.rows.length∧∀a,a<i→∀x,b.rows[a]? = some x→¬(1<x.nx.length∧b.r∈x.nx)})
            (fun z=>[(.o 1,It.box [TV.d (.int .i64 b.r),TV.d (.int .i64 b.sd),TV.d (.int .i64 b.len),TV.d (dZ b.rows)]),(.s 1,It.v (.ptr (.o 1) 0)),(.s 2,It.v (.d (.int .i64 0))),(.s 9,It.v (.d (.int .i64 z.1)))]) (fun z=>b.rows.length-z.1) ⟨0,by omega,fun a h=>by omega⟩ ?_ ?_
           ·exact GS.to (by simp[dZ])
           ·rintro⟨i4,i41,i42⟩;by_cases hi4:i4<b.rows.length
            ·have OA:(i4:Int)<b.rows.length:=by omega
             have hg4:b.rows[i4]? = some b.rows[i4]:=ah hi4;have hx4:=hn _ (aB hi4);have hm4:b.rows[i4]∈b.rows:=aB hi4;generalize b.rows[i4]=x at hg4 hx4 hm4;by_cases c1:1<x.nx.length
             ·have xB:(1:Int)<x.nx.length:=by omega
              simp -dsimp[dZ,hg4,OA,Rw.cs,ints,c1,xB];refine aF.of (SS x.nx (by omega) b.r) [] 0 ?_;rcases (au (pY x.nx b.r)).symm with c2|c2
              ·simp -dsimp[dZ,hg4,OA,Rw.cs,ints,c1,xB,c2,wrap_i64 (n:=(i4:Int)+1) (by omega) (by omega)];and_intros;all_goals try first|rfl|exact⟨by kernel_rfl⟩
               exact⟨⟨i4+1,by omega,fun a ha y hy=>by
                by_cases e:a=i4
                ·subst e;rw[hg4]at hy;simp only[aj]at hy;subst hy;rintro⟨_,h⟩;simp[pY,h]at c2
                ·exact i42 a (by omega) y hy⟩,GS.to (by simp[dZ]),by simp;omega⟩
              ·simp -dsimp[dZ,hg4,OA,Rw.cs,ints,c1,xB,c2];and_intros;all_goals try first|rfl|exact⟨by kernel_rfl⟩
               refine Fin.of ?_;have hc:=KR hh ho (by omega) hlim hasc ⟨x,hm4,c1,by simpa[pY]using c2⟩;simp[hc]
             ·have xB :¬(1:Int)<x.nx.length:=by omega
              simp -dsimp[dZ,hg4,OA,Rw.cs,ints,c1,xB,wrap_i64 (n:=(i4:Int)+1) (by omega) (by omega)];and_intros;all_goals try first|rfl|exact⟨by kernel_rfl⟩
              exact⟨⟨i4+1,by omega,fun a ha y hy=>by
               by_cases e:a=i4
               ·subst e;rw[hg4]at hy;simp only[aj]at hy;subst hy;exact fun h=>c1 h.1
               ·exact i42 a (by omega) y hy⟩,GS.to (by simp[dZ]),by simp;omega⟩
            ·have OA :¬(i4:Int)<b.rows.length:=by omega
             simp -dsimp[dZ,OA];refine Fin.of ?_;have hc:=N_ hh ho (by omega) hlim hasc (fun⟨x,hx,h⟩=>by obtain⟨a,ha⟩:=bM hx;exact i42 a (by have:=(aA.1 ha).1;omega) x ha h);simp[hc]
  ·simp -dsimp[fQ a1];refine aF.of (w_ b.sd 0 7) [] 0 ?_;simp -dsimp[fQ a1,qV a2];and_intros;all_goals try first|rfl|omega|exact⟨by kernel_rfl⟩
   refine Fin.of ?_;have hc:=uj fun h=>a2 h.2.1
   simp[hc]
 ·simp -dsimp[gQ];refine aF.of (w_ b.r 1 99) [] 0 ?_;simp -dsimp[qV a1];and_intros;all_goals try first|rfl|omega|exact⟨by kernel_rfl⟩
  refine Fin.of ?_;have hc:=uj fun h=>a1 h.1
  simp[hc]
end Go.Proofs
