/-
  What functions of the program compute, stated as contracts over plain data; the conditions of each stand in its own statement.
-/
import Derived.Test.YtboimfkommpglaaGreatDoorZA14
set_option linter.unusedSimpArgs false
set_option maxRecDepth 100000
set_option maxHeartbeats 4000000
namespace Go.Proofs
open Go Go.Tr
structure Rw where
 id:Int
 nx:List Int
structure Tb where
 r:Int
 sd:Int
 len:Int
 rows:List Rw
def Rw.cs(x:Rw):List D:=[.int .i64 x.id,ints x.nx]
def BF(x:Rw):TV:=.agg [.d (.int .i64 x.id),.d (ints x.nx)]
def bV(l:List Rw):D:=.sl (l.map Rw.cs)
def bZ(b:Tb):TV:=.agg [.d (.int .i64 b.r),.d (.int .i64 b.sd),.d (.int .i64 b.len),.d (bV b.rows)]
def DJ(n lo hi:Int):Prop:=lo≤n∧n≤hi
instance (n lo hi:Int):Decidable (DJ n lo hi):=inferInstanceAs (Decidable (_∧_))
theorem b_{n lo hi:Int}(h:DJ n lo hi):inB n lo hi=true:=by simp[inB,h.1,h.2]
theorem oH{n lo hi:Int}(h :¬DJ n lo hi):inB n lo hi=false:=by
 simp only[DJ]at h;simp[inB];omega
def Rw.out(x:Rw):Prop:=¬DJ x.id 1 256∨∃n∈x.nx,¬DJ n 1 99
instance (x:Rw):Decidable x.out:=inferInstanceAs (Decidable (_∨_))
def Tb.head(b:Tb):Prop:=DJ b.r 1 99∧DJ b.sd 0 7∧(aG b.len=true∨b.len=0∧b.rows.length=0)
instance (b:Tb):Decidable b.head:=inferInstanceAs (Decidable (_∧_))
def Tb.xX(b:Tb):Prop:=(b.rows.map (·.id)).Pairwise (· < ·)∧∀x∈b.rows,x.nx.Pairwise (· < ·)
instance (b:Tb):Decidable b.xX:=inferInstanceAs (Decidable (_∧_))
def chk(b:Tb):Int:=
 if ¬b.head then 2 else if ∃x∈b.rows,x.out then 2 else if 256<b.rows.length then 3 else if ∃x∈b.rows,24<x.nx.length then 3 else if ¬b.xX then 25 else if ∃x∈b.rows,1<x.nx.length∧b.r∈x.nx then 8 else 0
section
variable {b:Tb}
theorem qX(h :¬b.head):chk b=2:=by simp[chk,h]
theorem Gg(h:b.head)(g:∃x∈b.rows,x.out):chk b=2:=by unfold chk;rw[if_neg (not_not_intro h),if_pos g]
theorem Qc(h:b.head)(g :¬∃x∈b.rows,x.out)(i:256<b.rows.length):chk b=3:=by unfold chk;rw[if_neg (not_not_intro h),if_neg g,if_pos i]
theorem Qd(h:b.head)(g :¬∃x∈b.rows,x.out)(i :¬256<b.rows.length)(j:∃x∈b.rows,24<x.nx.length):chk b=3:=by unfold chk;rw[if_neg (not_not_intro h),if_neg g,if_neg i,if_pos j]
theorem uM(h:b.head)(g :¬∃x∈b.rows,x.out)(i :¬256<b.rows.length)(j :¬∃x∈b.rows,24<x.nx.length)(k :¬b.xX):chk b=25:=by unfold chk;rw[if_neg (not_not_intro h),if_neg g,if_neg i,if_neg j,if_pos k]
theorem Lu(h:b.head)(g :¬∃x∈b.rows,x.out)(i :¬256<b.rows.length)(j :¬∃x∈b.rows,24<x.nx.length)(k:b.xX)(l:∃x∈b.rows,1<x.nx.length∧b.r∈x.nx):chk b=8:=by unfold chk;rw[if_neg (not_not_intro h),if_neg g,if_neg i,if_neg j,if_neg (not_not_intro k),if_pos l]
theorem Gf(h:b.head)(g :¬∃x∈b.rows,x.out)(i :¬256<b.rows.length)(j :¬∃x∈b.rows,24<x.nx.length)(k:b.xX)(l :¬∃x∈b.rows,1<x.nx.length∧b.r∈x.nx):chk b=0:=by unfold chk;rw[if_neg (not_not_intro h),if_neg g,if_neg i,if_neg j,if_neg (not_not_intro k),if_neg l]
theorem gZ(j:Nat):((j:Int)+1).toNat=j+1:=by omega
theorem Cc:∀{l:List Int},(∀a x y,l[a]? = some x→l[a+1]? = some y→x<y)→l.Pairwise (· < ·)
 | [],_=>.nil
 | [x],_=>by simp
 | x::y::r,h=>by
   have ih:=Cc (l:=y::r) fun a u v hu hv=>h (a+1) u v (by simpa using hu) (by simpa using hv)
   refine List.pairwise_cons.2 ⟨fun z hz=>?_,ih⟩;have h0:=h 0 x y rfl rfl;rcases List.mem_cons.1 hz with e|hz
   ·omega
   ·have:=(List.pairwise_cons.1 ih).1 z hz;omega
theorem QJ(h:∀a x y,b.rows[a]? = some x→b.rows[a+1]? = some y→x.id<y.id)(g:∀x∈b.rows,x.nx.Pairwise (· < ·)):b.xX:=by
 refine⟨Cc fun a x y hx hy=>?_,g⟩;simp only[List.getElem?_map,Option.map_eq_some_iff]at hx hy;obtain⟨x',hx',rfl⟩:=hx;obtain⟨y',hy',rfl⟩:=hy;exact h a x' y' hx' hy'
theorem Qo(h:b.xX){i:Nat}{x y:Rw}(hy:b.rows[i-1]? = some y)(hx:b.rows[i]? = some x)(h0:0<i)(hle:x.id≤y.id):False:=by
 obtain⟨h1,h2⟩:=List.getElem?_eq_some_iff.1 hx;obtain⟨h3,h4⟩:=List.getElem?_eq_some_iff.1 hy;have:=List.pairwise_iff_getElem.1 h.1 (i-1) i (by simpa using h3) (by simpa using h1) (by omega);simp only[List.getElem_map,h2,h4]at this;omega
theorem Xl(h:b.xX){x:Rw}(hx:x∈b.rows){k:Nat}(hk:k+1<x.nx.length)(hle:x.nx[k+1]≤x.nx[k]):False:=by
 have:=List.pairwise_iff_getElem.1 (h.2 x hx) k (k+1) (by omega) hk (by omega);omega
end
theorem Kr(b:Tb)(hb:b.rows.length≤9223372036854775807)(hn:∀x∈b.rows,x.nx.length≤9223372036854775807):Contract Tryz.prog 130 [bZ b] [] (.d (.int .i64 (chk b))) [] []:=by
 refine aj Tryz.func130 rfl (fun E0=>?_);refine cO.sound (g:=.mk) (ow:=[]) (kp:=(fun k=>k==0||k==1||k==2||k==3||k==4||k==5||k==6||k==7||k==8||k==9||k==36||k==41||k==51||k==60||k==73||k==77||k==82||k==92||k==97||k==123||k==127||k==139||k==144||k==165)) ?_;rw[Tryz.ntmps130];by_cases a1:DJ b.r 1 99
 ·simp -dsimp[bZ];refine ah.of (wz b.r 1 99) [] 0 ?_;by_cases a2:DJ b.sd 0 7
  ·simp -dsimp[b_ a1];refine ah.of (wz b.sd 0 7) [] 0 ?_;simp -dsimp[b_ a1,b_ a2];refine ah.of (nM b.len) [] 0 ?_;rcases (Bool.eq_false_or_eq_true (aG b.len)).symm with a3|a3
   ·by_cases a4:b.len=0
    ·by_cases a5:b.rows.length=0
     ·have a5z :¬(0:Int)<b.rows.length:=by omega
      have hh:b.head:=⟨a1,a2,.inr ⟨a4,a5⟩⟩
      simp -dsimp[b_ a1,b_ a2,a3,eq_true a4,a5,a5z,bV];and_intros;all_goals try first|rfl|omega|exact⟨by kernel_rfl⟩
      clear a5 a5z
      as_aux_lemma=>
      refine aN.of [] (fun k=>k==0||k==1||k==2||k==3||k==4||k==5||k==6||k==7||k==8||k==9||k==36||k==41||k==51||k==60||k==73||k==77||k==82||k==92||k==97||k==123||k==127||k==139||k==144||k==165) (ι:={i:Nat // i≤b.rows.length∧∀a,a<i→∀x,b.rows[a]? = some x→¬x.out})
       (fun z=>[(Pl.o 1,It.box [TV.d (.int .i64 b.r),TV.d (.int .i64 b.sd),TV.d (.int .i64 b.len),TV.d (bV b.rows)]),(Pl.s 1,It.v (.ptr (Pl.o 1) 0)),(Pl.s 2,It.v (.d (.int .i64 0))),(Pl.s 3,It.v (.d (.int .i64 z.1)))]) (fun z=>b.rows.length-z.1) ⟨0,by omega,fun a h=>by omega⟩ ?_ ?_
      ·exact GS.to (by simp[bV])
      ·rintro⟨i,i1,i2⟩;by_cases hi:i<b.rows.length
       ·have hiz:(i:Int)<b.rows.length:=by omega
        have hg:b.rows[i]? = some b.rows[i]:=List.getElem?_eq_getElem hi;have hx:=hn _ (List.getElem_mem hi);have hm:b.rows[i]∈b.rows:=List.getElem_mem hi;generalize b.rows[i]=x at hg hx hm;simp -dsimp[bV,hg,hiz,Rw.cs];refine ah.of (wz x.id 1 256) [] 0 ?_;by_cases c1:DJ x.id 1 256
        ·simp -dsimp[b_ c1];and_intros;all_goals try first|rfl|omega|exact⟨by kernel_rfl⟩
         refine aN.of [] (fun k=>k==0||k==1||k==2||k==3||k==4||k==5||k==6||k==7||k==8||k==9||k==36||k==41||k==51||k==60||k==73||k==77||k==82||k==92||k==97||k==123||k==127||k==139||k==144||k==165) (ι:={k:Nat // k≤x.nx.length∧∀c,c<k→∀n,x.nx[c]? = some n→DJ n 1 99})
          (fun z=>[(Pl.o 1,It.box [TV.d (.int .i64 b.r),TV.d (.int .i64 b.sd),TV.d (.int .i64 b.len),TV.d (bV b.rows)]),(Pl.s 1,It.v (.ptr (Pl.o 1) 0)),(Pl.s 2,It.v (.d (.int .i64 0))),(Pl.s 3,It.v (.d (.int .i64 i))),(Pl.s 4,It.v (.d (.int .i64 z.1)))]) (fun z=>x.nx.length-z.1) ⟨0,by omega,fun a h=>by omega⟩ ?_ ?_
         ·exact GS.to (by simp[bV])
         ·rintro⟨k,k1,k2⟩;by_cases hk:k<x.nx.length
          ·have hkz:(k:Int)<x.nx.length:=by omega
           have hq:x.nx[k]? = some x.nx[k]:=List.getElem?_eq_getElem hk;have hqm:x.nx[k]∈x.nx:=List.getElem_mem hk;generalize x.nx[k]=n at hq hqm;simp -dsimp[bV,hg,hiz,Rw.cs,ints,hkz,hq];and_intros;all_goals try first|rfl|omega|exact⟨by kernel_rfl⟩
           refine ah.of (wz n 1 99) [] 0 ?_;by_cases c2:DJ n 1 99
           ·simp -dsimp[b_ c2,wrap_i64 (n:=(k:Int)+1) (by omega) (by omega)];and_intros;all_goals try first|rfl|omega|exact⟨by kernel_rfl⟩
            exact⟨⟨k+1,by omega,fun c hc m hm'=>by
             by_cases e:c=k
             ·subst e;rw[hq]at hm';simp only[Option.some.injEq]at hm';subst hm';exact c2
             ·exact k2 c (by omega) m hm'⟩,GS.to (by simp[bV]),by simp;omega⟩
           ·simp -dsimp[oH c2];and_intros;all_goals try first|rfl|omega|exact⟨by kernel_rfl⟩
            refine Fin.of ?_;have hc:=Gg hh ⟨x,hm,.inr ⟨n,hqm,c2⟩⟩;simp[hc]
          ·have hkz :¬(k:Int)<x.nx.length:=by omega
           simp -dsimp[bV,hg,hiz,Rw.cs,ints,hkz,wrap_i64 (n:=(i:Int)+1) (by omega) (by omega)];and_intros;all_goals try first|rfl|omega|exact⟨by kernel_rfl⟩
           exact⟨⟨i+1,by omega,fun a ha y hy=>by
            by_cases e:a=i
            ·subst e;rw[hg]at hy;simp only[Option.some.injEq]at hy;subst hy
             rintro (h|⟨m,hm',h⟩)
             ·exact h c1
             ·obtain⟨c,hc⟩:=List.getElem?_of_mem hm';exact h (k2 c (by have:=(List.getElem?_eq_some_iff.1 hc).1;omega) m hc)
            ·exact i2 a (by omega) y hy⟩,GS.to (by simp[bV]),by simp;omega⟩
        ·simp -dsimp[oH c1];and_intros;all_goals try first|rfl|omega|exact⟨by kernel_rfl⟩
         refine Fin.of ?_;have hc:=Gg hh ⟨x,hm,.inl c1⟩;simp[hc]
       ·have hiz :¬(i:Int)<b.rows.length:=by omega
        have ho :¬∃x∈b.rows,x.out:=fun⟨x,hx,h⟩=>by obtain⟨a,ha⟩:=List.getElem?_of_mem hx;exact i2 a (by have:=(List.getElem?_eq_some_iff.1 ha).1;omega) x ha h
        by_cases c3:256<b.rows.length
        ·have Ws:(256:Int)<b.rows.length:=by omega
         simp -dsimp[bV,hiz,Ws];refine Fin.of ?_;have hc:=Qc hh ho c3;simp[hc]
        ·have Ws :¬(256:Int)<b.rows.length:=by omega
         simp -dsimp[bV,hiz,Ws]
         as_aux_lemma=>
         refine aN.of [] (fun k=>k==0||k==1||k==2||k==3||k==4||k==5||k==6||k==7||k==8||k==9||k==36||k==41||k==51||k==60||k==73||k==77||k==82||k==92||k==97||k==123||k==127||k==139||k==144||k==165) (ι:={i:Nat // i≤b.rows.length∧∀a,a<i→∀x,b.rows[a]? = some x→¬24<x.nx.length})
          (fun z=>[(Pl.o 1,It.box [TV.d (.int .i64 b.r),TV.d (.int .i64 b.sd),TV.d (.int .i64 b.len),TV.d (bV b.rows)]),(Pl.s 1,It.v (.ptr (Pl.o 1) 0)),(Pl.s 2,It.v (.d (.int .i64 0))),(Pl.s 5,It.v (.d (.int .i64 z.1)))]) (fun z=>b.rows.length-z.1) ⟨0,by omega,fun a h=>by omega⟩ ?_ ?_
         ·exact GS.to (by simp[bV])
         ·rintro⟨i2,i21,i22⟩;by_cases hi2:i2<b.rows.length
          ·have KC:(i2:Int)<b.rows.length:=by omega
           have hg2:b.rows[i2]? = some b.rows[i2]:=List.getElem?_eq_getElem hi2;have hm2:b.rows[i2]∈b.rows:=List.getElem_mem hi2;generalize b.rows[i2]=x at hg2 hm2;by_cases c1:24<x.nx.length
           ·have yw:(24:Int)<x.nx.length:=by omega
            simp -dsimp[bV,hg2,KC,Rw.cs,ints,c1,yw];and_intros;all_goals try first|rfl|omega|exact⟨by kernel_rfl⟩
            refine Fin.of ?_;have hc:=Qd hh ho (by omega) ⟨x,hm2,c1⟩;simp[hc]
           ·have yw :¬(24:Int)<x.nx.length:=by omega
            simp -dsimp[bV,hg2,KC,Rw.cs,ints,c1,yw,wrap_i64 (n:=(i2:Int)+1) (by omega) (by omega)];and_intros;all_goals try first|rfl|omega|exact⟨by kernel_rfl⟩
            exact⟨⟨i2+1,by omega,fun a ha y hy=>by
             by_cases e:a=i2
             ·subst e;rw[hg2]at hy;simp only[Option.some.injEq]at hy;subst hy;exact c1
             ·exact i22 a (by omega) y hy⟩,GS.to (by simp[bV]),by simp;omega⟩
          ·have KC :¬(i2:Int)<b.rows.length:=by omega
           have hlim :¬∃x∈b.rows,24<x.nx.length:=fun⟨x,hx,h⟩=>by obtain⟨a,ha⟩:=List.getElem?_of_mem hx;exact i22 a (by have:=(List.getElem?_eq_some_iff.1 ha).1;omega) x ha h
           simp -dsimp[bV,KC];refine aN.of [] (fun k=>k==0||k==1||k==2||k==3||k==4||k==5||k==6||k==7||k==8||k==9||k==36||k==41||k==51||k==60||k==73||k==77||k==82||k==92||k==97||k==123||k==127||k==139||k==144||k==165) (ι:={i:Nat // i≤b.rows.length∧∀a,a<i→∀x,b.rows[a]? = some x→x.nx.Pairwise (· < ·)∧∀y,0<a→b.rows[a-1]? = some y→y.id<x.id})
            (fun z=>[(Pl.o 1,It.box [TV.d (.int .i64 b.r),TV.d (.int .i64 b.sd),TV.d (.int .i64 b.len),TV.d (bV b.rows)]),(Pl.s 1,It.v (.ptr (Pl.o 1) 0)),(Pl.s 2,It.v (.d (.int .i64 0))),(Pl.s 6,It.v (.d (.int .i64 z.1)))]) (fun z=>b.rows.length-z.1) ⟨0,by omega,fun a h=>by omega⟩ ?_ ?_
           ·exact GS.to (by simp[bV])
           ·rintro⟨i3,i31,i32⟩;by_cases hi3:i3<b.rows.length
            ·have Gs:(i3:Int)<b.rows.length:=by omega
             have hg3:b.rows[i3]? = some b.rows[i3]:=List.getElem?_eq_getElem hi3;have hx3:=hn _ (List.getElem_mem hi3);have kM:b.rows[i3]∈b.rows:=List.getElem_mem hi3;generalize b.rows[i3]=x at hg3 hx3 kM;by_cases c0:0<i3
             ·have Jr:(0:Int)<i3:=by omega
              have aan:i3-1<b.rows.length:=by omega
              have hp3:b.rows[i3-1]? = some b.rows[i3-1]:=List.getElem?_eq_getElem aan;generalize b.rows[i3-1]=y at hp3;have hiw:((i3:Int)-1).toNat=i3-1:=by omega
              by_cases c1:x.id≤y.id
              ·simp -dsimp[bV,hg3,Gs,c0,Jr,hp3,hiw,Rw.cs,c1,wrap_i64 (n:=(i3:Int)-1) (by omega) (by omega)];and_intros;all_goals try first|rfl|omega|exact⟨by kernel_rfl⟩
               refine Fin.of ?_;have hc:=uM hh ho (by omega) hlim (fun h=>Qo h hp3 hg3 c0 c1);simp[hc]
              ·simp -dsimp[bV,hg3,Gs,c0,Jr,hp3,hiw,Rw.cs,c1,wrap_i64 (n:=(i3:Int)-1) (by omega) (by omega)];and_intros;all_goals try first|rfl|omega|exact⟨by kernel_rfl⟩
               have aao:∀y',0<i3→b.rows[i3-1]? = some y'→y'.id<x.id:=fun y' _ h=>by rw[hp3]at h;simp only[Option.some.injEq]at h;subst h;omega
               refine aN.of [] (fun k=>k==0||k==1||k==2||k==3||k==4||k==5||k==6||k==7||k==8||k==9||k==36||k==41||k==51||k==60||k==73||k==77||k==82||k==92||k==97||k==123||k==127||k==139||k==144||k==165) (ι:={k:Nat // k≤x.nx.length∧∀c,c<k→∀u v,x.nx[c]? = some u→x.nx[c+1]? = some v→u<v})
                (fun z=>[(Pl.o 1,It.box [TV.d (.int .i64 b.r),TV.d (.int .i64 b.sd),TV.d (.int .i64 b.len),TV.d (bV b.rows)]),(Pl.s 1,It.v (.ptr (Pl.o 1) 0)),(Pl.s 2,It.v (.d (.int .i64 0))),(Pl.s 6,It.v (.d (.int .i64 i3))),(Pl.s 7,It.v (.d (ints x.nx))),(Pl.s 8,It.v (.d (.int .i64 ((z.1:Int)+1))))]) (fun z=>x.nx.length-z.1) ⟨0,by omega,fun a h=>by omega⟩ ?_ ?_
               ·exact GS.to (by simp[bV])
               ·rintro⟨k,k1,k2⟩;by_cases hk:k+1<x.nx.length
                ·have hk0:k<x.nx.length:=by omega
                 have hkz:(k:Int)+1<x.nx.length:=by omega
                 have hq0:x.nx[k]? = some x.nx[k]:=List.getElem?_eq_getElem hk0;have hq1:x.nx[k+1]? = some x.nx[k+1]:=List.getElem?_eq_getElem hk;by_cases c2:x.nx[k+1]≤x.nx[k]
                 ·simp -dsimp[ints,hkz,hq0,hq1,c2,gZ,wrap_i64 (n:=(k:Int)) (by omega) (by omega)];and_intros;all_goals try first|rfl|omega|exact⟨by kernel_rfl⟩
                  refine Fin.of ?_;have hc:=uM hh ho (by omega) hlim (fun h=>Xl h kM hk c2);simp[hc]
                 ·simp -dsimp[ints,hkz,hq0,hq1,c2,gZ,wrap_i64 (n:=(k:Int)) (by omega) (by omega),wrap_i64 (n:=(k:Int)+1+1) (by omega) (by omega)];and_intros;all_goals try first|rfl|omega|exact⟨by kernel_rfl⟩
                  exact⟨⟨k+1,by omega,fun c hc u v hu hv=>by
                   by_cases e:c=k
                   ·subst e;rw[hq0]at hu;rw[hq1]at hv;simp only[Option.some.injEq]at hu hv;omega
                   ·exact k2 c (by omega) u v hu hv⟩,GS.to (by simp[ints]),by simp;omega⟩
                ·have hkz :¬(k:Int)+1<x.nx.length:=by omega
                 have hpw:x.nx.Pairwise (· < ·):=Cc fun c u v hu hv=>k2 c (by have:=(List.getElem?_eq_some_iff.1 hv).1;omega) u v hu hv
                 simp -dsimp[ints,hkz,wrap_i64 (n:=(i3:Int)+1) (by omega) (by omega)];exact⟨⟨i3+1,by omega,fun a ha y hy=>by
                  by_cases e:a=i3
                  ·subst e;rw[hg3]at hy;simp only[Option.some.injEq]at hy;subst hy;exact⟨hpw,aao⟩
                  ·exact i32 a (by omega) y hy⟩,GS.to (by simp[bV]),by simp;omega⟩
             ·have Jr :¬(0:Int)<i3:=by omega
              simp -dsimp[bV,hg3,Gs,c0,Jr,Rw.cs];and_intros;all_goals try first|rfl|omega|exact⟨by kernel_rfl⟩
              have aao:∀y',0<i3→b.rows[i3-1]? = some y'→y'.id<x.id:=fun y' h _=>absurd h c0
              refine aN.of [] (fun k=>k==0||k==1||k==2||k==3||k==4||k==5||k==6||k==7||k==8||k==9||k==36||k==41||k==51||k==60||k==73||k==77||k==82||k==92||k==97||k==123||k==127||k==139||k==144||k==165) (ι:={k:Nat // k≤x.nx.length∧∀c,c<k→∀u v,x.nx[c]? = some u→x.nx[c+1]? = some v→u<v})
               (fun z=>[(Pl.o 1,It.box [TV.d (.int .i64 b.r),TV.d (.int .i64 b.sd),TV.d (.int .i64 b.len),TV.d (bV b.rows)]),(Pl.s 1,It.v (.ptr (Pl.o 1) 0)),(Pl.s 2,It.v (.d (.int .i64 0))),(Pl.s 6,It.v (.d (.int .i64 i3))),(Pl.s 7,It.v (.d (ints x.nx))),(Pl.s 8,It.v (.d (.int .i64 ((z.1:Int)+1))))]) (fun z=>x.nx.length-z.1) ⟨0,by omega,fun a h=>by omega⟩ ?_ ?_
              ·exact GS.to (by simp[bV])
              ·rintro⟨k,k1,k2⟩;by_cases hk:k+1<x.nx.length
               ·have hk0:k<x.nx.length:=by omega
                have hkz:(k:Int)+1<x.nx.length:=by omega
                have hq0:x.nx[k]? = some x.nx[k]:=List.getElem?_eq_getElem hk0;have hq1:x.nx[k+1]? = some x.nx[k+1]:=List.getElem?_eq_getElem hk;by_cases c2:x.nx[k+1]≤x.nx[k]
                ·simp -dsimp[ints,hkz,hq0,hq1,c2,gZ,wrap_i64 (n:=(k:Int)) (by omega) (by omega)];and_intros;all_goals try first|rfl|omega|exact⟨by kernel_rfl⟩
                 refine Fin.of ?_;have hc:=uM hh ho (by omega) hlim (fun h=>Xl h kM hk c2);simp[hc]
                ·simp -dsimp[ints,hkz,hq0,hq1,c2,gZ,wrap_i64 (n:=(k:Int)) (by omega) (by omega),wrap_i64 (n:=(k:Int)+1+1) (by omega) (by omega)];and_intros;all_goals try first|rfl|omega|exact⟨by kernel_rfl⟩
                 exact⟨⟨k+1,by omega,fun c hc u v hu hv=>by
                  by_cases e:c=k
                  ·subst e;rw[hq0]at hu;rw[hq1]at hv;simp only[Option.some.injEq]at hu hv;omega
                  ·exact k2 c (by omega) u v hu hv⟩,GS.to (by simp[ints]),by simp;omega⟩
               ·have hkz :¬(k:Int)+1<x.nx.length:=by omega
                have hpw:x.nx.Pairwise (· < ·):=Cc fun c u v hu hv=>k2 c (by have:=(List.getElem?_eq_some_iff.1 hv).1;omega) u v hu hv
                simp -dsimp[ints,hkz,wrap_i64 (n:=(i3:Int)+1) (by omega) (by omega)];exact⟨⟨i3+1,by omega,fun a ha y hy=>by
                 by_cases e:a=i3
                 ·subst e;rw[hg3]at hy;simp only[Option.some.injEq]at hy;subst hy;exact⟨hpw,aao⟩
                 ·exact i32 a (by omega) y hy⟩,GS.to (by simp[bV]),by simp;omega⟩
            ·have Gs :¬(i3:Int)<b.rows.length:=by omega
             have hasc:b.xX:=QJ (fun a x y hx hy=>((i32 (a+1) (by have:=(List.getElem?_eq_some_iff.1 hy).1;omega) y hy).2 x (by omega) hx)) (fun x hx=>by obtain⟨a,ha⟩:=List.getElem?_of_mem hx;exact(i32 a (by have:=(List.getElem?_eq_some_iff.1 ha).1;omega) x ha).1);simp -dsimp[bV,Gs]
             refine aN.of [] (fun k=>k==0||k==1||k==2||k==3||k==4||k==5||k==6||k==7||k==8||k==9||k==36||k==41||k==51||k==60||k==73||k==77||k==82||k==92||k==97||k==123||k==127||k==139||k==144||k==165) (ι:={i:Nat // i≤b.rows.length∧∀a,a<i→∀x,b.rows[a]? = some x→¬(1<x.nx.length∧b.r∈x.nx)})
              (fun z=>[(Pl.o 1,It.box [TV.d (.int .i64 b.r),TV.d (.int .i64 b.sd),TV.d (.int .i64 b.len),TV.d (bV b.rows)]),(Pl.s 1,It.v (.ptr (Pl.o 1) 0)),(Pl.s 2,It.v (.d (.int .i64 0))),(Pl.s 9,It.v (.d (.int .i64 z.1)))]) (fun z=>b.rows.length-z.1) ⟨0,by omega,fun a h=>by omega⟩ ?_ ?_
             ·exact GS.to (by simp[bV])
             ·rintro⟨i4,i41,i42⟩;by_cases hi4:i4<b.rows.length
              ·have OA:(i4:Int)<b.rows.length:=by omega
               have hg4:b.rows[i4]? = some b.rows[i4]:=List.getElem?_eq_getElem hi4;have hx4:=hn _ (List.getElem_mem hi4);have hm4:b.rows[i4]∈b.rows:=List.getElem_mem hi4;generalize b.rows[i4]=x at hg4 hx4 hm4;by_cases c1:1<x.nx.length
               ·have yw:(1:Int)<x.nx.length:=by omega
                simp -dsimp[bV,hg4,OA,Rw.cs,ints,c1,yw];refine ah.of (RS x.nx (by omega) b.r) [] 0 ?_;rcases (Bool.eq_false_or_eq_true (mF x.nx b.r)).symm with c2|c2
                ·simp -dsimp[bV,hg4,OA,Rw.cs,ints,c1,yw,c2,wrap_i64 (n:=(i4:Int)+1) (by omega) (by omega)];and_intros;all_goals try first|rfl|exact⟨by kernel_rfl⟩
                 exact⟨⟨i4+1,by omega,fun a ha y hy=>by
                  by_cases e:a=i4
                  ·subst e;rw[hg4]at hy;simp only[Option.some.injEq]at hy;subst hy;rintro⟨_,h⟩;simp[mF,h]at c2
                  ·exact i42 a (by omega) y hy⟩,GS.to (by simp[bV]),by simp;omega⟩
                ·simp -dsimp[bV,hg4,OA,Rw.cs,ints,c1,yw,c2];and_intros;all_goals try first|rfl|exact⟨by kernel_rfl⟩
                 refine Fin.of ?_;have hc:=Lu hh ho (by omega) hlim hasc ⟨x,hm4,c1,by simpa[mF]using c2⟩;simp[hc]
               ·have yw :¬(1:Int)<x.nx.length:=by omega
                simp -dsimp[bV,hg4,OA,Rw.cs,ints,c1,yw,wrap_i64 (n:=(i4:Int)+1) (by omega) (by omega)];and_intros;all_goals try first|rfl|exact⟨by kernel_rfl⟩
                exact⟨⟨i4+1,by omega,fun a ha y hy=>by
                 by_cases e:a=i4
                 ·subst e;rw[hg4]at hy;simp only[Option.some.injEq]at hy;subst hy;exact fun h=>c1 h.1
                 ·exact i42 a (by omega) y hy⟩,GS.to (by simp[bV]),by simp;omega⟩
              ·have OA :¬(i4:Int)<b.rows.length:=by omega
               simp -dsimp[bV,OA];refine Fin.of ?_;have hc:=Gf hh ho (by omega) hlim hasc (fun⟨x,hx,h⟩=>by obtain⟨a,ha⟩:=List.getElem?_of_mem hx;exact i42 a (by have:=(List.getElem?_eq_some_iff.1 ha).1;omega) x ha h);simp[hc]
     ·have a5z:(0:Int)<b.rows.length:=by omega
      simp -dsimp[b_ a1,b_ a2,a3,eq_true a4,a5z,show 0<b.rows.length by omega,bV];and_intros;all_goals try first|rfl|omega|exact⟨by kernel_rfl⟩
      refine Fin.of ?_;have hc:=qX (fun h=>h.2.2.elim (fun h=>by rw[a3]at h;simp at h) fun h=>a5 h.2);simp[hc]
    ·simp -dsimp[b_ a1,b_ a2,a3,a4];and_intros;all_goals try first|rfl|omega|exact⟨by kernel_rfl⟩
     refine Fin.of ?_;have hc:=qX (fun h=>h.2.2.elim (fun h=>by rw[a3]at h;simp at h) fun h=>a4 h.1);simp[hc]
   ·have hh:b.head:=⟨a1,a2,.inl a3⟩
    simp -dsimp[b_ a1,b_ a2,a3];and_intros;all_goals try first|rfl|omega|exact⟨by kernel_rfl⟩
    as_aux_lemma=>
    refine aN.of [] (fun k=>k==0||k==1||k==2||k==3||k==4||k==5||k==6||k==7||k==8||k==9||k==36||k==41||k==51||k==60||k==73||k==77||k==82||k==92||k==97||k==123||k==127||k==139||k==144||k==165) (ι:={i:Nat // i≤b.rows.length∧∀a,a<i→∀x,b.rows[a]? = some x→¬x.out})
     (fun z=>[(Pl.o 1,It.box [TV.d (.int .i64 b.r),TV.d (.int .i64 b.sd),TV.d (.int .i64 b.len),TV.d (bV b.rows)]),(Pl.s 1,It.v (.ptr (Pl.o 1) 0)),(Pl.s 2,It.v (.d (.int .i64 0))),(Pl.s 3,It.v (.d (.int .i64 z.1)))]) (fun z=>b.rows.length-z.1) ⟨0,by omega,fun a h=>by omega⟩ ?_ ?_
    ·exact GS.to (by simp[bV])
    ·rintro⟨i,i1,i2⟩;by_cases hi:i<b.rows.length
     ·have hiz:(i:Int)<b.rows.length:=by omega
      have hg:b.rows[i]? = some b.rows[i]:=List.getElem?_eq_getElem hi;have hx:=hn _ (List.getElem_mem hi);have hm:b.rows[i]∈b.rows:=List.getElem_mem hi;generalize b.rows[i]=x at hg hx hm;simp -dsimp[bV,hg,hiz,Rw.cs];refine ah.of (wz x.id 1 256) [] 0 ?_;by_cases c1:DJ x.id 1 256
      ·simp -dsimp[b_ c1];and_intros;all_goals try first|rfl|omega|exact⟨by kernel_rfl⟩
       refine aN.of [] (fun k=>k==0||k==1||k==2||k==3||k==4||k==5||k==6||k==7||k==8||k==9||k==36||k==41||k==51||k==60||k==73||k==77||k==82||k==92||k==97||k==123||k==127||k==139||k==144||k==165) (ι:={k:Nat // k≤x.nx.length∧∀c,c<k→∀n,x.nx[c]? = some n→DJ n 1 99})
        (fun z=>[(Pl.o 1,It.box [TV.d (.int .i64 b.r),TV.d (.int .i64 b.sd),TV.d (.int .i64 b.len),TV.d (bV b.rows)]),(Pl.s 1,It.v (.ptr (Pl.o 1) 0)),(Pl.s 2,It.v (.d (.int .i64 0))),(Pl.s 3,It.v (.d (.int .i64 i))),(Pl.s 4,It.v (.d (.int .i64 z.1)))]) (fun z=>x.nx.length-z.1) ⟨0,by omega,fun a h=>by omega⟩ ?_ ?_
       ·exact GS.to (by simp[bV])
       ·rintro⟨k,k1,k2⟩;by_cases hk:k<x.nx.length
        ·have hkz:(k:Int)<x.nx.length:=by omega
         have hq:x.nx[k]? = some x.nx[k]:=List.getElem?_eq_getElem hk;have hqm:x.nx[k]∈x.nx:=List.getElem_mem hk;generalize x.nx[k]=n at hq hqm;simp -dsimp[bV,hg,hiz,Rw.cs,ints,hkz,hq];and_intros;all_goals try first|rfl|omega|exact⟨by kernel_rfl⟩
         refine ah.of (wz n 1 99) [] 0 ?_;by_cases c2:DJ n 1 99
         ·simp -dsimp[b_ c2,wrap_i64 (n:=(k:Int)+1) (by omega) (by omega)];and_intros;all_goals try first|rfl|omega|exact⟨by kernel_rfl⟩
          exact⟨⟨k+1,by omega,fun c hc m hm'=>by
           by_cases e:c=k
           ·subst e;rw[hq]at hm';simp only[Option.some.injEq]at hm';subst hm';exact c2
           ·exact k2 c (by omega) m hm'⟩,GS.to (by simp[bV]),by simp;omega⟩
         ·simp -dsimp[oH c2];and_intros;all_goals try first|rfl|omega|exact⟨by kernel_rfl⟩
          refine Fin.of ?_;have hc:=Gg hh ⟨x,hm,.inr ⟨n,hqm,c2⟩⟩;simp[hc]
        ·have hkz :¬(k:Int)<x.nx.length:=by omega
         simp -dsimp[bV,hg,hiz,Rw.cs,ints,hkz,wrap_i64 (n:=(i:Int)+1) (by omega) (by omega)];and_intros;all_goals try first|rfl|omega|exact⟨by kernel_rfl⟩
         exact⟨⟨i+1,by omega,fun a ha y hy=>by
          by_cases e:a=i
          ·subst e;rw[hg]at hy;simp only[Option.some.injEq]at hy;subst hy
           rintro (h|⟨m,hm',h⟩)
           ·exact h c1
           ·obtain⟨c,hc⟩:=List.getElem?_of_mem hm';exact h (k2 c (by have:=(List.getElem?_eq_some_iff.1 hc).1;omega) m hc)
          ·exact i2 a (by omega) y hy⟩,GS.to (by simp[bV]),by simp;omega⟩
      ·simp -dsimp[oH c1];and_intros;all_goals try first|rfl|omega|exact⟨by kernel_rfl⟩
       refine Fin.of ?_;have hc:=Gg hh ⟨x,hm,.inl c1⟩;simp[hc]
     ·have hiz :¬(i:Int)<b.rows.length:=by omega
      have ho :¬∃x∈b.rows,x.out:=fun⟨x,hx,h⟩=>by obtain⟨a,ha⟩:=List.getElem?_of_mem hx;exact i2 a (by have:=(List.getElem?_eq_some_iff.1 ha).1;omega) x ha h
      by_cases c3:256<b.rows.length
      ·have Ws:(256:Int)<b.rows.length:=by omega
       simp -dsimp[bV,hiz,Ws];refine Fin.of ?_;have hc:=Qc hh ho c3;simp[hc]
      ·have Ws :¬(256:Int)<b.rows.length:=by omega
       simp -dsimp[bV,hiz,Ws]
       as_aux_lemma=>
       refine aN.of [] (fun k=>k==0||k==1||k==2||k==3||k==4||k==5||k==6||k==7||k==8||k==9||k==36||k==41||k==51||k==60||k==73||k==77||k==82||k==92||k==97||k==123||k==127||k==139||k==144||k==165) (ι:={i:Nat // i≤b.rows.length∧∀a,a<i→∀x,b.rows[a]? = some x→¬24<x.nx.length})
        (fun z=>[(Pl.o 1,It.box [TV.d (.int .i64 b.r),TV.d (.int .i64 b.sd),TV.d (.int .i64 b.len),TV.d (bV b.rows)]),(Pl.s 1,It.v (.ptr (Pl.o 1) 0)),(Pl.s 2,It.v (.d (.int .i64 0))),(Pl.s 5,It.v (.d (.int .i64 z.1)))]) (fun z=>b.rows.length-z.1) ⟨0,by omega,fun a h=>by omega⟩ ?_ ?_
       ·exact GS.to (by simp[bV])
       ·rintro⟨i2,i21,i22⟩;by_cases hi2:i2<b.rows.length
        ·have KC:(i2:Int)<b.rows.length:=by omega
         have hg2:b.rows[i2]? = some b.rows[i2]:=List.getElem?_eq_getElem hi2;have hm2:b.rows[i2]∈b.rows:=List.getElem_mem hi2;generalize b.rows[i2]=x at hg2 hm2;by_cases c1:24<x.nx.length
         ·have yw:(24:Int)<x.nx.length:=by omega
          simp -dsimp[bV,hg2,KC,Rw.cs,ints,c1,yw];and_intros;all_goals try first|rfl|omega|exact⟨by kernel_rfl⟩
          refine Fin.of ?_;have hc:=Qd hh ho (by omega) ⟨x,hm2,c1⟩;simp[hc]
         ·have yw :¬(24:Int)<x.nx.length:=by omega
          simp -dsimp[bV,hg2,KC,Rw.cs,ints,c1,yw,wrap_i64 (n:=(i2:Int)+1) (by omega) (by omega)];and_intros;all_goals try first|rfl|omega|exact⟨by kernel_rfl⟩
          exact⟨⟨i2+1,by omega,fun a ha y hy=>by
           by_cases e:a=i2
           ·subst e;rw[hg2]at hy;simp only[Option.some.injEq]at hy;subst hy;exact c1
           ·exact i22 a (by omega) y hy⟩,GS.to (by simp[bV]),by simp;omega⟩
        ·have KC :¬(i2:Int)<b.rows.length:=by omega
         have hlim :¬∃x∈b.rows,24<x.nx.length:=fun⟨x,hx,h⟩=>by obtain⟨a,ha⟩:=List.getElem?_of_mem hx;exact i22 a (by have:=(List.getElem?_eq_some_iff.1 ha).1;omega) x ha h
         simp -dsimp[bV,KC];refine aN.of [] (fun k=>k==0||k==1||k==2||k==3||k==4||k==5||k==6||k==7||k==8||k==9||k==36||k==41||k==51||k==60||k==73||k==77||k==82||k==92||k==97||k==123||k==127||k==139||k==144||k==165) (ι:={i:Nat // i≤b.rows.length∧∀a,a<i→∀x,b.rows[a]? = some x→x.nx.Pairwise (· < ·)∧∀y,0<a→b.rows[a-1]? = some y→y.id<x.id})
          (fun z=>[(Pl.o 1,It.box [TV.d (.int .i64 b.r),TV.d (.int .i64 b.sd),TV.d (.int .i64 b.len),TV.d (bV b.rows)]),(Pl.s 1,It.v (.ptr (Pl.o 1) 0)),(Pl.s 2,It.v (.d (.int .i64 0))),(Pl.s 6,It.v (.d (.int .i64 z.1)))]) (fun z=>b.rows.length-z.1) ⟨0,by omega,fun a h=>by omega⟩ ?_ ?_
         ·exact GS.to (by simp[bV])
         ·rintro⟨i3,i31,i32⟩;by_cases hi3:i3<b.rows.length
          ·have Gs:(i3:Int)<b.rows.length:=by omega
           have hg3:b.rows[i3]? = some b.rows[i3]:=List.getElem?_eq_getElem hi3;have hx3:=hn _ (List.getElem_mem hi3);have kM:b.rows[i3]∈b.rows:=List.getElem_mem hi3;generalize b.rows[i3]=x at hg3 hx3 kM;by_cases c0:0<i3
           ·have Jr:(0:Int)<i3:=by omega
            have aan:i3-1<b.rows.length:=by omega
            have hp3:b.rows[i3-1]? = some b.rows[i3-1]:=List.getElem?_eq_getElem aan;generalize b.rows[i3-1]=y at hp3;have hiw:((i3:Int)-1).toNat=i3-1:=by omega
            by_cases c1:x.id≤y.id
            ·simp -dsimp[bV,hg3,Gs,c0,Jr,hp3,hiw,Rw.cs,c1,wrap_i64 (n:=(i3:Int)-1) (by omega) (by omega)];and_intros;all_goals try first|rfl|omega|exact⟨by kernel_rfl⟩
             refine Fin.of ?_;have hc:=uM hh ho (by omega) hlim (fun h=>Qo h hp3 hg3 c0 c1);simp[hc]
            ·simp -dsimp[bV,hg3,Gs,c0,Jr,hp3,hiw,Rw.cs,c1,wrap_i64 (n:=(i3:Int)-1) (by omega) (by omega)];and_intros;all_goals try first|rfl|omega|exact⟨by kernel_rfl⟩
             have aao:∀y',0<i3→b.rows[i3-1]? = some y'→y'.id<x.id:=fun y' _ h=>by rw[hp3]at h;simp only[Option.some.injEq]at h;subst h;omega
             refine aN.of [] (fun k=>k==0||k==1||k==2||k==3||k==4||k==5||k==6||k==7||k==8||k==9||k==36||k==41||k==51||k==60||k==73||k==77||k==82||k==92||k==97||k==123||k==127||k==139||k==144||k==165) (ι:={k:Nat // k≤x.nx.length∧∀c,c<k→∀u v,x.nx[c]? = some u→x.nx[c+1]? = some v→u<v})
              (fun z=>[(Pl.o 1,It.box [TV.d (.int .i64 b.r),TV.d (.int .i64 b.sd),TV.d (.int .i64 b.len),TV.d (bV b.rows)]),(Pl.s 1,It.v (.ptr (Pl.o 1) 0)),(Pl.s 2,It.v (.d (.int .i64 0))),(Pl.s 6,It.v (.d (.int .i64 i3))),(Pl.s 7,It.v (.d (ints x.nx))),(Pl.s 8,It.v (.d (.int .i64 ((z.1:Int)+1))))]) (fun z=>x.nx.length-z.1) ⟨0,by omega,fun a h=>by omega⟩ ?_ ?_
             ·exact GS.to (by simp[bV])
             ·rintro⟨k,k1,k2⟩;by_cases hk:k+1<x.nx.length
              ·have hk0:k<x.nx.length:=by omega
               have hkz:(k:Int)+1<x.nx.length:=by omega
               have hq0:x.nx[k]? = some x.nx[k]:=List.getElem?_eq_getElem hk0;have hq1:x.nx[k+1]? = some x.nx[k+1]:=List.getElem?_eq_getElem hk;by_cases c2:x.nx[k+1]≤x.nx[k]
               ·simp -dsimp[ints,hkz,hq0,hq1,c2,gZ,wrap_i64 (n:=(k:Int)) (by omega) (by omega)];and_intros;all_goals try first|rfl|omega|exact⟨by kernel_rfl⟩
                refine Fin.of ?_;have hc:=uM hh ho (by omega) hlim (fun h=>Xl h kM hk c2);simp[hc]
               ·simp -dsimp[ints,hkz,hq0,hq1,c2,gZ,wrap_i64 (n:=(k:Int)) (by omega) (by omega),wrap_i64 (n:=(k:Int)+1+1) (by omega) (by omega)];and_intros;all_goals try first|rfl|omega|exact⟨by kernel_rfl⟩
                exact⟨⟨k+1,by omega,fun c hc u v hu hv=>by
                 by_cases e:c=k
                 ·subst e;rw[hq0]at hu;rw[hq1]at hv;simp only[Option.some.injEq]at hu hv;omega
                 ·exact k2 c (by omega) u v hu hv⟩,GS.to (by simp[ints]),by simp;omega⟩
              ·have hkz :¬(k:Int)+1<x.nx.length:=by omega
               have hpw:x.nx.Pairwise (· < ·):=Cc fun c u v hu hv=>k2 c (by have:=(List.getElem?_eq_some_iff.1 hv).1;omega) u v hu hv
               simp -dsimp[ints,hkz,wrap_i64 (n:=(i3:Int)+1) (by omega) (by omega)];exact⟨⟨i3+1,by omega,fun a ha y hy=>by
                by_cases e:a=i3
                ·subst e;rw[hg3]at hy;simp only[Option.some.injEq]at hy;subst hy;exact⟨hpw,aao⟩
                ·exact i32 a (by omega) y hy⟩,GS.to (by simp[bV]),by simp;omega⟩
           ·have Jr :¬(0:Int)<i3:=by omega
            simp -dsimp[bV,hg3,Gs,c0,Jr,Rw.cs];and_intros;all_goals try first|rfl|omega|exact⟨by kernel_rfl⟩
            have aao:∀y',0<i3→b.rows[i3-1]? = some y'→y'.id<x.id:=fun y' h _=>absurd h c0
            refine aN.of [] (fun k=>k==0||k==1||k==2||k==3||k==4||k==5||k==6||k==7||k==8||k==9||k==36||k==41||k==51||k==60||k==73||k==77||k==82||k==92||k==97||k==123||k==127||k==139||k==144||k==165) (ι:={k:Nat // k≤x.nx.length∧∀c,c<k→∀u v,x.nx[c]? = some u→x.nx[c+1]? = some v→u<v})
             (fun z=>[(Pl.o 1,It.box [TV.d (.int .i64 b.r),TV.d (.int .i64 b.sd),TV.d (.int .i64 b.len),TV.d (bV b.rows)]),(Pl.s 1,It.v (.ptr (Pl.o 1) 0)),(Pl.s 2,It.v (.d (.int .i64 0))),(Pl.s 6,It.v (.d (.int .i64 i3))),(Pl.s 7,It.v (.d (ints x.nx))),(Pl.s 8,It.v (.d (.int .i64 ((z.1:Int)+1))))]) (fun z=>x.nx.length-z.1) ⟨0,by omega,fun a h=>by omega⟩ ?_ ?_
            ·exact GS.to (by simp[bV])
            ·rintro⟨k,k1,k2⟩;by_cases hk:k+1<x.nx.length
             ·have hk0:k<x.nx.length:=by omega
              have hkz:(k:Int)+1<x.nx.length:=by omega
              have hq0:x.nx[k]? = some x.nx[k]:=List.getElem?_eq_getElem hk0;have hq1:x.nx[k+1]? = some x.nx[k+1]:=List.getElem?_eq_getElem hk;by_cases c2:x.nx[k+1]≤x.nx[k]
              ·simp -dsimp[ints,hkz,hq0,hq1,c2,gZ,wrap_i64 (n:=(k:Int)) (by omega) (by omega)];and_intros;all_goals try first|rfl|omega|exact⟨by kernel_rfl⟩
               refine Fin.of ?_;have hc:=uM hh ho (by omega) hlim (fun h=>Xl h kM hk c2);simp[hc]
              ·simp -dsimp[ints,hkz,hq0,hq1,c2,gZ,wrap_i64 (n:=(k:Int)) (by omega) (by omega),wrap_i64 (n:=(k:Int)+1+1) (by omega) (by omega)];and_intros;all_goals try first|rfl|omega|exact⟨by kernel_rfl⟩
               exact⟨⟨k+1,by omega,fun c hc u v hu hv=>by
                by_cases e:c=k
                ·subst e;rw[hq0]at hu;rw[hq1]at hv;simp only[Option.some.injEq]at hu hv;omega
                ·exact k2 c (by omega) u v hu hv⟩,GS.to (by simp[ints]),by simp;omega⟩
             ·have hkz :¬(k:Int)+1<x.nx.length:=by omega
              have hpw:x.nx.Pairwise (· < ·):=Cc fun c u v hu hv=>k2 c (by have:=(List.getElem?_eq_some_iff.1 hv).1;omega) u v hu hv
              simp -dsimp[ints,hkz,wrap_i64 (n:=(i3:Int)+1) (by omega) (by omega)];exact⟨⟨i3+1,by omega,fun a ha y hy=>by
               by_cases e:a=i3
               ·subst e;rw[hg3]at hy;simp only[Option.some.injEq]at hy;subst hy;exact⟨hpw,aao⟩
               ·exact i32 a (by omega) y hy⟩,GS.to (by simp[bV]),by simp;omega⟩
          ·have Gs :¬(i3:Int)<b.rows.length:=by omega
           have hasc:b.xX:=QJ (fun a x y hx hy=>((i32 (a+1) (by have:=(List.getElem?_eq_some_iff.1 hy).1;omega) y hy).2 x (by omega) hx)) (fun x hx=>by obtain⟨a,ha⟩:=List.getElem?_of_mem hx;exact(i32 a (by have:=(List.getElem?_eq_some_iff.1 ha).1;omega) x ha).1);simp -dsimp[bV,Gs]
           refine aN.of [] (fun k=>k==0||k==1||k==2||k==3||k==4||k==5||k==6||k==7||k==8||k==9||k==36||k==41||k==51||k==60||k==73||k==77||k==82||k==92||k==97||k==123||k==127||k==139||k==144||k==165) (ι:={i:Nat // i≤b.rows.length∧∀a,a<i→∀x,b.rows[a]? = some x→¬(1<x.nx.length∧b.r∈x.nx)})
            (fun z=>[(Pl.o 1,It.box [TV.d (.int .i64 b.r),TV.d (.int .i64 b.sd),TV.d (.int .i64 b.len),TV.d (bV b.rows)]),(Pl.s 1,It.v (.ptr (Pl.o 1) 0)),(Pl.s 2,It.v (.d (.int .i64 0))),(Pl.s 9,It.v (.d (.int .i64 z.1)))]) (fun z=>b.rows.length-z.1) ⟨0,by omega,fun a h=>by omega⟩ ?_ ?_
           ·exact GS.to (by simp[bV])
           ·rintro⟨i4,i41,i42⟩;by_cases hi4:i4<b.rows.length
            ·have OA:(i4:Int)<b.rows.length:=by omega
             have hg4:b.rows[i4]? = some b.rows[i4]:=List.getElem?_eq_getElem hi4;have hx4:=hn _ (List.getElem_mem hi4);have hm4:b.rows[i4]∈b.rows:=List.getElem_mem hi4;generalize b.rows[i4]=x at hg4 hx4 hm4;by_cases c1:1<x.nx.length
             ·have yw:(1:Int)<x.nx.length:=by omega
              simp -dsimp[bV,hg4,OA,Rw.cs,ints,c1,yw];refine ah.of (RS x.nx (by omega) b.r) [] 0 ?_;rcases (Bool.eq_false_or_eq_true (mF x.nx b.r)).symm with c2|c2
              ·simp -dsimp[bV,hg4,OA,Rw.cs,ints,c1,yw,c2,wrap_i64 (n:=(i4:Int)+1) (by omega) (by omega)];and_intros;all_goals try first|rfl|exact⟨by kernel_rfl⟩
               exact⟨⟨i4+1,by omega,fun a ha y hy=>by
                by_cases e:a=i4
                ·subst e;rw[hg4]at hy;simp only[Option.some.injEq]at hy;subst hy;rintro⟨_,h⟩;simp[mF,h]at c2
                ·exact i42 a (by omega) y hy⟩,GS.to (by simp[bV]),by simp;omega⟩
              ·simp -dsimp[bV,hg4,OA,Rw.cs,ints,c1,yw,c2];and_intros;all_goals try first|rfl|exact⟨by kernel_rfl⟩
               refine Fin.of ?_;have hc:=Lu hh ho (by omega) hlim hasc ⟨x,hm4,c1,by simpa[mF]using c2⟩;simp[hc]
             ·have yw :¬(1:Int)<x.nx.length:=by omega
              simp -dsimp[bV,hg4,OA,Rw.cs,ints,c1,yw,wrap_i64 (n:=(i4:Int)+1) (by omega) (by omega)];and_intros;all_goals try first|rfl|exact⟨by kernel_rfl⟩
              exact⟨⟨i4+1,by omega,fun a ha y hy=>by
               by_cases e:a=i4
               ·subst e;rw[hg4]at hy;simp only[Option.some.injEq]at hy;subst hy;exact fun h=>c1 h.1
               ·exact i42 a (by omega) y hy⟩,GS.to (by simp[bV]),by simp;omega⟩
            ·have OA :¬(i4:Int)<b.rows.length:=by omega
             simp -dsimp[bV,OA];refine Fin.of ?_;have hc:=Gf hh ho (by omega) hlim hasc (fun⟨x,hx,h⟩=>by obtain⟨a,ha⟩:=List.getElem?_of_mem hx;exact i42 a (by have:=(List.getElem?_eq_some_iff.1 ha).1;omega) x ha h);simp[hc]
  ·simp -dsimp[b_ a1];refine ah.of (wz b.sd 0 7) [] 0 ?_;simp -dsimp[b_ a1,oH a2];and_intros;all_goals try first|rfl|omega|exact⟨by kernel_rfl⟩
   refine Fin.of ?_;have hc:=qX fun h=>a2 h.2.1
   simp[hc]
 ·simp -dsimp[bZ];refine ah.of (wz b.r 1 99) [] 0 ?_;simp -dsimp[oH a1];and_intros;all_goals try first|rfl|omega|exact⟨by kernel_rfl⟩
  refine Fin.of ?_;have hc:=qX fun h=>a1 h.1
  simp[hc]
end Go.Proofs
