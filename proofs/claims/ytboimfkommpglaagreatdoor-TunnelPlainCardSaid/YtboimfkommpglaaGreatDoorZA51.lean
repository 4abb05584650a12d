/-
  What functions of the program compute, stated as contracts over plain data; the conditions of each stand in its own statement.
-/
import Derived.Test.YtboimfkommpglaaGreatDoorZA14
import Derived.Test.YtboimfkommpglaaGreatDoorZA50
import Derived.Test.YtboimfkommpglaaGreatDoorZA16
import Derived.Test.YtboimfkommpglaaGreatDoorZA18
import Derived.Test.YtboimfkommpglaaGreatDoorZA19
import Derived.Test.YtboimfkommpglaaGreatDoorZA20
set_option linter.unusedSimpArgs false
set_option maxRecDepth 100000
set_option maxHeartbeats 2000000
namespace Go.Proofs
open Go Go.Tr
theorem ajF(T:Tp)(hT:ak T)(most:Int)(hm:1≤most∧most≤24):Contract Tryz.prog 18 [.ptr (.x 0) 0,.d (.int .i64 most),.d (.int .i64 0)] [aJ T] (aH (dG T most).1) [aJ (dG T most).2] []:=by
 have b1:=aS T 1 most;have b2:=aQ T (a:=1) (b:=most) (by omega);refine aj Tryz.func18 rfl (fun E0=>?_);refine cO.sound (g:=.mk) (ow:=[]) (kp:=(fun k=>k==0||k==1||k==2||k==6||k==7||k==8||k==9||k==10||k==11||k==12||k==13||k==14||k==15||k==21||k==36||k==47||k==60||k==87||k==89||k==91||k==101||k==112||k==124||k==129||k==141||k==146||k==158||k==163||k==175||k==180)) ?_
 rw[Tryz.ntmps18];simp -dsimp;refine ah.of (dw T hT 1 most ⟨by omega,by omega⟩ ⟨by omega,by omega⟩ ⟨by omega,by omega⟩ ⟨by omega,by omega⟩) [.x 0] 0 ?_;simp -dsimp;generalize hR:aT T 1 most=R at b1 b2⊢;have kR:ak R.2:=by rw[←hR];simpa using hT
 refine aN.of [] (fun k=>k==0||k==1||k==2||k==6||k==7||k==8||k==9||k==10||k==11||k==12||k==13||k==14||k==15||k==21||k==36||k==47||k==60||k==87||k==89||k==91||k==101||k==112||k==124||k==129||k==141||k==146||k==158||k==163||k==175||k==180) (ι:={i:Nat // (i:Int)≤R.1}) (fun i=>[(Pl.s 0,It.v (.ptr (Pl.x 0) 0)),(Pl.s 1,It.v (.d (.int .i64 most))),(Pl.s 2,It.v (.d (.int .i64 0))),(Pl.x 0,aJ R.2),
  (Pl.o 6,It.box [TV.c (Value.slice none 0 0),TV.c (Value.slice none 0 0)]),(Pl.s 6,It.v (.ptr (Pl.o 6) 0)),(Pl.o 7,It.box [TV.aB 1000 i.1,TV.c (Value.slice none 0 0)]),(Pl.s 7,It.v (.ptr (Pl.o 7) 0)),
  (Pl.s 8,It.v (.d (.int .i64 R.1))),(Pl.s 9,It.v (.d (.int .i64 (i.1+1)))),(Pl.o 1000,.row 117 2 (dd (rts (cu i.1))) false)]) (fun i=>R.1.toNat-i.1) ⟨0,by omega⟩ ?_ ?_
 ·exact GS.gq (.o 7) 0 1000 (cs:=[TV.c (Value.slice none 0 0),TV.c (Value.slice none 0 0)]) 117 2 (by simp) (by simp) (by simp) (by simp) (by simp[cu,rts])
 ·rintro⟨i,hi⟩;simp -dsimp;refine qM.dec (fun h=>?_) (fun h=>?_)
  ·simp -dsimp[wrap_i64 (n:=(i:Int)+1+1) (by omega) (by omega)];and_intros;all_goals try omega
   exact⟨⟨⟨i+1,by omega⟩,GS.to (by simp[cu,rts,List.range_succ,Rt.cs]),by simp;omega⟩⟩
  ·have hk:R.1=i:=by omega
   simp -dsimp;refine ah.of (fE R.2 kR [1,2,2,5] (by simp) (by simp)) [.x 0] 0 ?_;simp -dsimp[ints];generalize hC:aK R.2 [1,2,2,5]=C;have kC:ak C.2:=by rw[←hC];simpa using kR
   have bC:1≤C.1∧C.1≤5:=by rw[←hC];exact dA (p:=fun x=>1≤x∧x≤5) (by simp) (by simp)
   refine aN.of [] (fun k=>k==0||k==1||k==2||k==6||k==7||k==8||k==9||k==10||k==11||k==12||k==13||k==14||k==15||k==21||k==36||k==47||k==60||k==87||k==89||k==91||k==101||k==112||k==124||k==129||k==141||k==146||k==158||k==163||k==175||k==180) (ι:={z:Int×Tp×List Lk // 2≤z.1∧z.1≤R.1+1∧ak z.2.1∧z.2.2.length≤24*(z.1.toNat-2)∧dS C.1 (R.1+1-2).toNat 2 C.2 []=dS C.1 (R.1+1-z.1).toNat z.1 z.2.1 z.2.2})
    (fun z=>[(Pl.s 0,It.v (.ptr (Pl.x 0) 0)),(Pl.s 1,It.v (.d (.int .i64 most))),(Pl.s 2,It.v (.d (.int .i64 0))),(Pl.x 0,aJ z.1.2.1),
     (Pl.o 6,It.box [TV.c (Value.slice none 0 0),TV.c (Value.slice none 0 0)]),(Pl.s 6,It.v (.ptr (Pl.o 6) 0)),(Pl.o 7,It.box [TV.aB 1000 i,TV.aB 1001 z.1.2.2.length]),(Pl.s 7,It.v (.ptr (Pl.o 7) 0)),
     (Pl.s 8,It.v (.d (.int .i64 R.1))),(Pl.o 1000,.row 117 2 (dd (rts (cu i))) false),(Pl.o 1001,.row 142 5 (dd (dO z.1.2.2)) false),
     (Pl.s 10,It.v (.d (.int .i64 C.1))),(Pl.s 11,It.v (.d (.int .i64 z.1.1)))]) (fun z=>(R.1+1-z.1.1).toNat) ⟨(2,C.2,[]),by omega,by omega,kC,by simp,rfl⟩ ?_ ?_
   ·exact GS.gq (.o 7) 1 1001 (cs:=[TV.aB 1000 i,TV.c (Value.slice none 0 0)]) 142 5 (by simp) (by simp) (by simp) (by simp) (by simp[dO])
   ·rintro⟨⟨b,T0,l0⟩,i1,i2,i3,i4,i5⟩;simp only at i1 i2 i3 i4 i5;simp -dsimp;refine qM.dec (fun hb=>?_) (fun hb=>?_)
    ·have t1:=aS T0 1 (b-1);have t2:=aQ T0 (a:=1) (b:=b-1) (by omega);simp -dsimp[wrap_i64 (n:=b-1) (by omega) (by omega)];refine ah.of (dw T0 i3 1 (b-1) ⟨by omega,by omega⟩ ⟨by omega,by omega⟩ ⟨by omega,by omega⟩ ⟨by omega,by omega⟩) [.x 0] 0 ?_;simp -dsimp;generalize ht:aT T0 1 (b-1)=t at t1 t2⊢;have kt:ak t.2:=by rw[←ht];simpa using i3
     refine ah.of (gK t.2 kt 9 ⟨by omega,by omega⟩ ⟨by omega,by omega⟩) [.x 0] 0 ?_;simp -dsimp;generalize hs:dD t.2 9=s;have ks:ak s.2:=by rw[←hs];simpa using kt
     refine aN.of [] (fun k=>k==0||k==1||k==2||k==6||k==7||k==8||k==9||k==10||k==11||k==12||k==13||k==14||k==15||k==21||k==36||k==47||k==60||k==87||k==89||k==91||k==101||k==112||k==124||k==129||k==141||k==146||k==158||k==163||k==175||k==180) (ι:={z:Int×Tp×List Lk // 1≤z.1∧z.1≤b∧ak z.2.1∧z.2.2.length≤24*(b.toNat-2)+(z.1.toNat-1)∧dV C.1 t.1 s.1 b (b-1).toNat 1 s.2 l0=dV C.1 t.1 s.1 b (b-z.1).toNat z.1 z.2.1 z.2.2})
      (fun z=>[(Pl.s 0,It.v (.ptr (Pl.x 0) 0)),(Pl.s 1,It.v (.d (.int .i64 most))),(Pl.s 2,It.v (.d (.int .i64 0))),(Pl.x 0,aJ z.1.2.1),
       (Pl.o 6,It.box [TV.c (Value.slice none 0 0),TV.c (Value.slice none 0 0)]),(Pl.s 6,It.v (.ptr (Pl.o 6) 0)),(Pl.o 7,It.box [TV.aB 1000 i,TV.aB 1001 z.1.2.2.length]),(Pl.s 7,It.v (.ptr (Pl.o 7) 0)),
       (Pl.s 8,It.v (.d (.int .i64 R.1))),(Pl.o 1000,.row 117 2 (dd (rts (cu i))) false),(Pl.o 1001,.row 142 5 (dd (dO z.1.2.2)) false),
       (Pl.s 10,It.v (.d (.int .i64 C.1))),(Pl.s 11,It.v (.d (.int .i64 b))),(Pl.s 12,It.v (.d (.int .i64 t.1))),(Pl.s 13,It.v (.d (.bool s.1))),(Pl.s 14,It.v (.d (.int .i64 z.1.1)))]) (fun z=>(b-z.1.1).toNat) ⟨(1,s.2,l0),by omega,by omega,ks,by simpa using i4,rfl⟩ ?_ ?_
     ·exact GS.to (by simp)
     ·rintro⟨⟨a,T1,l⟩,j1,j2,j3,j4,j5⟩;simp only at j1 j2 j3 j4 j5;by_cases hab:a<b
      ·have hab':decide (a<b)=true:=by simpa using hab
       by_cases ha:a=t.1
       ·have ha':decide (a=t.1)=true:=by simpa using ha
        rcases (Bool.eq_false_or_eq_true s.1).symm with hs1|hs1
        ·simp -dsimp[hab',ha',hs1];have x1:=aS T1 1 C.1;have x2:=aQ T1 (a:=1) (b:=C.1) (by omega);refine ah.of (dw T1 j3 1 C.1 ⟨by omega,by omega⟩ ⟨by omega,by omega⟩ ⟨by omega,by omega⟩ ⟨by omega,by omega⟩) [.x 0] 0 ?_;simp -dsimp;generalize hx:aT T1 1 C.1=x at x1 x2⊢;have kx:ak x.2:=by rw[←hx];simpa using j3
         have y1:=aS x.2 1 C.1;have y2:=aQ x.2 (a:=1) (b:=C.1) (by omega);refine ah.of (dw x.2 kx 1 C.1 ⟨by omega,by omega⟩ ⟨by omega,by omega⟩ ⟨by omega,by omega⟩ ⟨by omega,by omega⟩) [.x 0] 0 ?_;simp -dsimp;generalize hy:aT x.2 1 C.1=y at y1 y2⊢;have ky:ak y.2:=by rw[←hy];simpa using kx
         refine ah.of (bn y.2 ky 4 ⟨by omega,by omega⟩) [.x 0] 0 ?_;simp -dsimp[wrap_i64 (n:=a+1) (by omega) (by omega)];have e:dI C.1 t.1 s.1 b a T1 l=(l++[⟨a,b,x.1,y.1,(au y.2 4).1⟩],(au y.2 4).2):=by simp[dI,ha',hs1,hx,hy]
         and_intros;all_goals try first|omega|exact⟨by kernel_rfl⟩|(simp;omega)
         exact⟨⟨(a+1,(au y.2 4).2,l++[⟨a,b,x.1,y.1,(au y.2 4).1⟩]),by omega,by omega,by simpa using ky,by simp;omega,by rw[j5,show(b-a).toNat=(b-(a+1)).toNat+1 by omega,dV,e]⟩,GS.to (by simp[dO,Lk.cs,ha',hs1]),by simp;omega⟩
        ·simp -dsimp[hab',ha',hs1];refine ah.of (gK T1 j3 3 ⟨by omega,by omega⟩ ⟨by omega,by omega⟩) [.x 0] 0 ?_;generalize ho:dD T1 3=o;have ko:ak o.2:=by rw[←ho];simpa using j3
         rcases (Bool.eq_false_or_eq_true o.1).symm with ho1|ho1
         ·simp -dsimp[ho1,wrap_i64 (n:=a+1) (by omega) (by omega)];have e:dI C.1 t.1 s.1 b a T1 l=(l,o.2):=by simp[dI,ha',hs1,ho,ho1]
          and_intros;all_goals try first|omega|exact⟨by kernel_rfl⟩|(simp;omega)
          exact⟨⟨(a+1,o.2,l),by omega,by omega,ko,by simp;omega,by rw[j5,show(b-a).toNat=(b-(a+1)).toNat+1 by omega,dV,e]⟩,GS.to (by simp[ha',hs1]),by simp;omega⟩
         ·simp -dsimp[ho1];have x1:=aS o.2 1 C.1;have x2:=aQ o.2 (a:=1) (b:=C.1) (by omega);refine ah.of (dw o.2 ko 1 C.1 ⟨by omega,by omega⟩ ⟨by omega,by omega⟩ ⟨by omega,by omega⟩ ⟨by omega,by omega⟩) [.x 0] 0 ?_;simp -dsimp;generalize hx:aT o.2 1 C.1=x at x1 x2⊢;have kx:ak x.2:=by rw[←hx];simpa using ko
          have y1:=aS x.2 1 C.1;have y2:=aQ x.2 (a:=1) (b:=C.1) (by omega);refine ah.of (dw x.2 kx 1 C.1 ⟨by omega,by omega⟩ ⟨by omega,by omega⟩ ⟨by omega,by omega⟩ ⟨by omega,by omega⟩) [.x 0] 0 ?_;simp -dsimp;generalize hy:aT x.2 1 C.1=y at y1 y2⊢;have ky:ak y.2:=by rw[←hy];simpa using kx
          refine ah.of (bn y.2 ky 4 ⟨by omega,by omega⟩) [.x 0] 0 ?_;simp -dsimp[wrap_i64 (n:=a+1) (by omega) (by omega)];have e:dI C.1 t.1 s.1 b a T1 l=(l++[⟨a,b,x.1,y.1,(au y.2 4).1⟩],(au y.2 4).2):=by simp[dI,ha',hs1,ho,ho1,hx,hy]
          and_intros;all_goals try first|omega|exact⟨by kernel_rfl⟩|(simp;omega)
          exact⟨⟨(a+1,(au y.2 4).2,l++[⟨a,b,x.1,y.1,(au y.2 4).1⟩]),by omega,by omega,by simpa using ky,by simp;omega,by rw[j5,show(b-a).toNat=(b-(a+1)).toNat+1 by omega,dV,e]⟩,GS.to (by simp[dO,Lk.cs,ha',hs1,ho,ho1]),by simp;omega⟩
       ·have ha':decide (a=t.1)=false:=by simpa using ha
        simp -dsimp[hab',ha'];refine ah.of (gK T1 j3 3 ⟨by omega,by omega⟩ ⟨by omega,by omega⟩) [.x 0] 0 ?_;generalize ho:dD T1 3=o;have ko:ak o.2:=by rw[←ho];simpa using j3
        rcases (Bool.eq_false_or_eq_true o.1).symm with ho1|ho1
        ·simp -dsimp[ho1,wrap_i64 (n:=a+1) (by omega) (by omega)];have e:dI C.1 t.1 s.1 b a T1 l=(l,o.2):=by simp[dI,ha',ho,ho1]
         and_intros;all_goals try first|omega|exact⟨by kernel_rfl⟩|(simp;omega)
         exact⟨⟨(a+1,o.2,l),by omega,by omega,ko,by simp;omega,by rw[j5,show(b-a).toNat=(b-(a+1)).toNat+1 by omega,dV,e]⟩,GS.to (by simp[ha']),by simp;omega⟩
        ·simp -dsimp[ho1];have x1:=aS o.2 1 C.1;have x2:=aQ o.2 (a:=1) (b:=C.1) (by omega);refine ah.of (dw o.2 ko 1 C.1 ⟨by omega,by omega⟩ ⟨by omega,by omega⟩ ⟨by omega,by omega⟩ ⟨by omega,by omega⟩) [.x 0] 0 ?_;simp -dsimp;generalize hx:aT o.2 1 C.1=x at x1 x2⊢;have kx:ak x.2:=by rw[←hx];simpa using ko
         have y1:=aS x.2 1 C.1;have y2:=aQ x.2 (a:=1) (b:=C.1) (by omega);refine ah.of (dw x.2 kx 1 C.1 ⟨by omega,by omega⟩ ⟨by omega,by omega⟩ ⟨by omega,by omega⟩ ⟨by omega,by omega⟩) [.x 0] 0 ?_;simp -dsimp;generalize hy:aT x.2 1 C.1=y at y1 y2⊢;have ky:ak y.2:=by rw[←hy];simpa using kx
         refine ah.of (bn y.2 ky 4 ⟨by omega,by omega⟩) [.x 0] 0 ?_;simp -dsimp[wrap_i64 (n:=a+1) (by omega) (by omega)];have e:dI C.1 t.1 s.1 b a T1 l=(l++[⟨a,b,x.1,y.1,(au y.2 4).1⟩],(au y.2 4).2):=by simp[dI,ha',ho,ho1,hx,hy]
         and_intros;all_goals try first|omega|exact⟨by kernel_rfl⟩|(simp;omega)
         exact⟨⟨(a+1,(au y.2 4).2,l++[⟨a,b,x.1,y.1,(au y.2 4).1⟩]),by omega,by omega,by simpa using ky,by simp;omega,by rw[j5,show(b-a).toNat=(b-(a+1)).toNat+1 by omega,dV,e]⟩,GS.to (by simp[dO,Lk.cs,ha',ho,ho1]),by simp;omega⟩
      ·have hab':decide (a<b)=false:=by simpa using hab
       obtain rfl:a=b:=by omega
       simp -dsimp[hab',wrap_i64 (n:=a+1) (by omega) (by omega)];have e:gW C.1 a T0 l0=(l,T1):=by unfold gW;simp only[ht,hs];rw[j5];simp[dV]
       exact⟨⟨(a+1,T1,l),by omega,by omega,j3,by simp;omega,by rw[i5,show(R.1+1-a).toNat=(R.1+1-(a+1)).toNat+1 by omega,dS,e]⟩,GS.to (by simp),by simp;omega⟩
    ·obtain rfl:b=R.1+1:=by omega
     simp -dsimp;refine ah.of (Tn l0 (by omega)) [] 0 ?_;simp -dsimp;refine Fin.box (.o 6) rfl ?_;simp -dsimp;refine Fin.of ?_;have hX:dS C.1 (R.1+1-2).toNat 2 C.2 []=(l0,T0):=by rw[i5];simp[dS]
     simp only[dG,hR,hC,hX];simp[aH,hk]
theorem wF{l:List Rt}{i:Nat}{x:Rt}(h:l[i]? = some x)(hi:i<(rts l).length):(rts l)[i]=x.cs:=by
 have:=fF h;rw[List.getElem?_eq_getElem hi]at this
 simpa using this
def aV(rs:List Rt)(len:Int)(x:Int)(T:Tp)(id:Int)(l:List Ed):List Ed×Int×Tp:=
 let c:=au T 4
 if c.1=0 then(l,id,c.2)else
  let p:=aK c.2 [1,1,1,2,len-1]
  (if id+p.1≤256 then l++[⟨(rs.getD x.toNat ⟨0,false⟩).id,id+p.1⟩]else l,id+p.1,p.2)
def aX(rs:List Rt)(len:Int):List Int→Tp→Int→List Ed→List Ed×Int×Tp
 | [],T,id,l=>(l,id,T)
 | x::o,T,id,l=>aX rs len o (aV rs len x T id l).2.2 (aV rs len x T id l).2.1 (aV rs len x T id l).1
def bJ(T:Tp)(rs:List Rt):Pn×Int×Tp:=
 let s:=au T 3
 let L:=aK s.2 [8,8,16,32,64]
 let o:=bT L.2 rs.length
 let X:=aX rs L.1 o.1 o.2 0 []
 (⟨s.1,L.1,X.1⟩,X.2)
def dR(T:Tp)(p:Pn)(id:Int):Pn×Tp:=
 let s:=au T 5
 if s.1=0 then(⟨(iY s.2).1,p.len,p.es⟩,(iY s.2).2)
 else if s.1=1 then(⟨p.bF,(aK s.2 [0,8,24,64,128]).1,p.es⟩,(aK s.2 [0,8,24,64,128]).2)
 else if s.1=2 then
  let a:=aK s.2 [0,1,99,100]
  let b:=aK a.2 [0,1,256,257]
  (⟨p.bF,p.len,p.es++[⟨a.1,b.1⟩]⟩,b.2)
 else if s.1=3 then(match p.es with
  | []=>(p,s.2)
  | e::l=>(⟨p.bF,p.len,⟨e.r,(iY s.2).1⟩::l⟩,(iY s.2).2))
 else(⟨p.bF,p.len,p.es++[⟨50,id+1⟩]⟩,s.2)
def dh(T:Tp)(rs:List Rt)(n:Int):Pn×Tp:=
 let X:=bJ T rs
 if 0<n then
  if(dD X.2.2 n).1 then dR (dD X.2.2 n).2 X.1 X.2.1 else(X.1,(dD X.2.2 n).2)
 else(X.1,X.2.2)
theorem xu(T:Tp)(hT:ak T)(rs:List Rt)(ls:List Lk)(hr:rs.length≤500)(n:Int)(hn:0≤n∧n≤1000):Contract Tryz.prog 86 [.ptr (.x 0) 0,.agg [.d (.sl (rts rs)),.d (.sl (dO ls))],.d (.int .i64 n)] [aJ T] (bI (dh T rs n).1) [aJ (dh T rs n).2] []:=by
 refine aj Tryz.func86 rfl (fun E0=>?_);refine cO.sound (g:=.mk) (ow:=[]) (kp:=(fun k=>k==0||k==1||k==2||k==4||k==6||k==7||k==8||k==9||k==10||k==24||k==29||k==39||k==62||k==64||k==73||k==78||k==84||k==98||k==103)) ?_;rw[Tryz.ntmps86];simp -dsimp;refine ah.of (bn T hT 3 ⟨by omega,by omega⟩) [.x 0] 0 ?_;simp -dsimp;generalize hs:au T 3=s
 have ks:ak s.2:=by rw[←hs];simpa using hT
 refine ah.of (C9 s.2 ks) [.x 0] 0 ?_;simp -dsimp;generalize hL:aK s.2 [8,8,16,32,64]=L;have kL:ak L.2:=by rw[←hL];simpa using ks
 have bL:8≤L.1∧L.1≤64:=by rw[←hL];exact dA (p:=fun x=>8≤x∧x≤64) (by simp) (by simp)
 refine ah.of (D9 L.2 kL rs.length (by omega)) [.x 0] 0 ?_;simp -dsimp;generalize ho:bT L.2 rs.length=o;have ko:ak o.2:=by rw[←ho];simpa using kL
 have mo:=lZ L.2 rs.length;rw[ho]at mo
 have lo:=iK L.2 rs.length;rw[ho]at lo
 refine aN.of [] (fun k=>k==0||k==1||k==2||k==4||k==6||k==7||k==8||k==9||k==10||k==24||k==29||k==39||k==62||k==64||k==73||k==78||k==84||k==98||k==103) (ι:={z:Nat×Tp×Int×List Ed // z.1≤o.1.length∧ak z.2.1∧0≤z.2.2.1∧z.2.2.1≤100*z.1∧z.2.2.2.length≤z.1∧aX rs L.1 o.1 o.2 0 []=aX rs L.1 (o.1.drop z.1) z.2.1 z.2.2.1 z.2.2.2})
  (fun z=>[(Pl.s 0,It.v (.ptr (Pl.x 0) 0)),(Pl.s 1,It.v (.agg [TV.d (.sl (rts rs)),TV.d (.sl (dO ls))])),(Pl.s 2,It.v (.d (.int .i64 n))),(Pl.x 0,aJ z.1.2.1),
   (Pl.o 4,It.box [TV.d (.sl (rts rs)),TV.d (.sl (dO ls))]),(Pl.s 4,It.v (.ptr (Pl.o 4) 0)),
   (Pl.o 6,It.box [TV.d (.int .i64 0),TV.d (.int .i64 0),TV.c (Value.slice none 0 0)]),(Pl.s 6,It.v (.ptr (Pl.o 6) 0)),
   (Pl.o 7,It.box [TV.d (.int .i64 s.1),TV.d (.int .i64 L.1),TV.aB 1000 z.1.2.2.2.length]),(Pl.s 7,It.v (.ptr (Pl.o 7) 0)),(Pl.s 8,It.v (.d (.int .i64 z.1.2.2.1))),(Pl.s 9,It.v (.d (ints o.1))),
   (Pl.o 1000,.row 115 2 (dd (rJ z.1.2.2.2)) false),(Pl.s 10,It.v (.d (.int .i64 z.1.1)))]) (fun z=>o.1.length-z.1.1) ⟨(0,o.2,0,[]),by simp,ko,by simp,by simp,by simp,rfl⟩ ?_ ?_
 ·exact GS.gq (.o 7) 2 1000 (cs:=[TV.d (.int .i64 s.1),TV.d (.int .i64 L.1),TV.c (Value.slice none 0 0)]) 115 2 (by simp) (by simp) (by simp) (by simp) (by simp[rJ])
 ·rintro⟨⟨i,T',id,l⟩,i1,i2,i3,i4,i5,i6⟩;simp only at i1 i2 i3 i4 i5 i6;by_cases hi:i<o.1.length
  ·obtain⟨x,hx⟩:∃x,o.1[i]? = some x:=⟨o.1[i],List.getElem?_eq_getElem hi⟩
   have hx':o.1[i]=x:=by rw[List.getElem?_eq_getElem hi]at hx;simpa using hx
   have hd:o.1.drop i=x::o.1.drop (i+1):=by rw[←hx'];exact List.drop_eq_getElem_cons _
   have bx:=mo x (List.mem_of_getElem? hx);have hxr:x.toNat<rs.length:=by omega
   obtain⟨r,hr1⟩:∃r,rs[x.toNat]? = some r:=⟨rs[x.toNat],List.getElem?_eq_getElem hxr⟩
   have hr2:=wF hr1;have hr3:rs.getD x.toNat ⟨0,false⟩ = r:=by simp[List.getD,hr1]
   simp -dsimp[ints,hi];refine ah.of (bn T' i2 4 ⟨by omega,by omega⟩) [.x 0] 0 ?_;simp -dsimp;generalize hc:au T' 4=c;have kc:ak c.2:=by rw[←hc];simpa using i2
   refine qM.dec (fun h0=>?_) (fun h0=>?_)
   ·simp -dsimp[wrap_i64 (n:=(i:Int)+1) (by omega) (by omega)];have e:aV rs L.1 x T' id l=(l,id,c.2):=by simp[aV,hc,h0]
    exact⟨⟨(i+1,c.2,id,l),by dsimp only;omega,kc,by dsimp only;omega,by dsimp only;omega,by dsimp only;omega,by dsimp only;rw[i6,hd,aX,e]⟩,GS.to (by simp[ints]),by simp;omega⟩
   ·simp -dsimp[wrap_i64 (n:=L.1-1) (by omega) (by omega)];refine ah.of (fE c.2 kc [1,1,1,2,L.1-1] (by simp) (by simp)) [.x 0] 0 ?_;have bp:1≤(aK c.2 [1,1,1,2,L.1-1]).1∧(aK c.2 [1,1,1,2,L.1-1]).1≤63:=dA (p:=fun x=>1≤x∧x≤63) (by simp) (by simp;omega);simp -dsimp[ints];generalize hp:aK c.2 [1,1,1,2,L.1-1]=p at bp⊢;have kp:ak p.2:=by rw[←hp];simpa using kc
    simp -dsimp[wrap_i64 (n:=id+p.1) (by omega) (by omega)];refine qM.dec (fun h1=>?_) (fun h1=>?_)
    ·simp -dsimp[ints,hi,hx',fF hr1,Rt.cs,wrap_i64 (n:=id+p.1) (by omega) (by omega),wrap_i64 (n:=(i:Int)+1) (by omega) (by omega)];and_intros;all_goals try first|omega|exact⟨by kernel_rfl⟩
     have e:aV rs L.1 x T' id l=(l++[⟨r.id,id+p.1⟩],id+p.1,p.2):=by simp only[aV,hc,h0,hp,h1,hr3,if_true,if_false]
     exact⟨⟨(i+1,p.2,id+p.1,l++[⟨r.id,id+p.1⟩]),by dsimp only;omega,kp,by dsimp only;omega,by dsimp only;omega,by simp;omega,by dsimp only;rw[i6,hd,aX,e]⟩,GS.to (by simp[ints,rJ,Ed.cs]),by simp;omega⟩
    ·simp -dsimp[wrap_i64 (n:=id+p.1) (by omega) (by omega),wrap_i64 (n:=(i:Int)+1) (by omega) (by omega)];have e:aV rs L.1 x T' id l=(l,id+p.1,p.2):=by simp[aV,hc,h0,hp,h1]
     exact⟨⟨(i+1,p.2,id+p.1,l),by dsimp only;omega,kp,by dsimp only;omega,by dsimp only;omega,by dsimp only;omega,by dsimp only;rw[i6,hd,aX,e]⟩,GS.to (by simp[ints]),by simp;omega⟩
  ·have hX:aX rs L.1 o.1 o.2 0 []=(l,id,T'):=by rw[i6,List.drop_eq_nil_of_le (by omega)];rfl
   have h0:bJ T rs=(⟨s.1,L.1,l⟩,id,T'):=by simp[bJ,hs,hL,ho,hX]
   by_cases hn0:0<n
   ·simp -dsimp[ints,hi,hn0];refine ah.of (gK T' i2 n ⟨by omega,by omega⟩ ⟨by omega,by omega⟩) [.x 0] 0 ?_;simp -dsimp;generalize hq:dD T' n=q;have kq:ak q.2:=by rw[←hq];simpa using i2
    rcases (Bool.eq_false_or_eq_true q.1).symm with hq1|hq1
    ·simp -dsimp[hq1];refine Fin.box (.o 6) rfl ?_;simp -dsimp;refine Fin.of ?_;simp[dh,h0,hn0,bI,hq,hq1]
    ·simp -dsimp[hq1];refine ah.of (bn q.2 kq 5 ⟨by omega,by omega⟩) [.x 0] 0 ?_;simp -dsimp;generalize hz:au q.2 5=z;have kz:ak z.2:=by rw[←hz];simpa using kq
     have hg:dh T rs n=dR q.2 ⟨s.1,L.1,l⟩ id:=by simp[dh,h0,hn0,hq,hq1]
     rw[hg];refine qM.dec (fun c0=>?_) (fun c0=>?_)
     ·simp -dsimp;refine ah.of (qI z.2 kz) [.x 0] 0 ?_;simp -dsimp;refine Fin.box (.o 6) rfl ?_;simp -dsimp;refine Fin.of ?_;simp[dR,hz,c0,bI]
     ·simp -dsimp[c0];refine qM.dec (fun c1=>?_) (fun c1=>?_)
      ·simp -dsimp;refine ah.of (fE z.2 kz [0,8,24,64,128] (by simp) (by simp)) [.x 0] 0 ?_;simp -dsimp[ints];refine Fin.box (.o 6) rfl ?_;simp -dsimp;refine Fin.of ?_;simp[dR,hz,c0,c1,bI]
      ·simp -dsimp[c1];refine qM.dec (fun c2=>?_) (fun c2=>?_)
       ·simp -dsimp;refine ah.of (fE z.2 kz [0,1,99,100] (by simp) (by simp)) [.x 0] 0 ?_;simp -dsimp[ints];generalize hv:aK z.2 [0,1,99,100]=v;have kv:ak v.2:=by rw[←hv];simpa using kz
        refine ah.of (fE v.2 kv [0,1,256,257] (by simp) (by simp)) [.x 0] 0 ?_;simp -dsimp[ints];and_intros;all_goals try first|omega|exact⟨by kernel_rfl⟩
        refine Fin.box (.o 6) rfl ?_;simp -dsimp;refine Fin.of ?_;simp[dR,hz,c0,c1,c2,bI,rJ,Ed.cs,hv]
       ·simp -dsimp[c2];refine qM.dec (fun c3=>?_) (fun c3=>?_)
        ·rcases l with _|⟨ed,l'⟩
         ·simp -dsimp;refine Fin.box (.o 6) rfl ?_;simp -dsimp;refine Fin.of ?_;simp[dR,hz,c0,c1,c2,c3,bI,rJ]
         ·simp -dsimp;refine ah.of (qI z.2 kz) [.x 0] 0 ?_;simp -dsimp[rJ,Ed.cs];refine⟨?_,⟨by kernel_rfl⟩⟩;refine Fin.box (.o 6) rfl ?_;simp -dsimp;refine Fin.of ?_;simp[dR,hz,c0,c1,c2,c3,bI,rJ,Ed.cs]
        ·simp -dsimp[c3,wrap_i64 (n:=id+1) (by omega) (by omega)];and_intros;all_goals try first|omega|exact⟨by kernel_rfl⟩
         refine Fin.box (.o 6) rfl ?_;simp -dsimp;refine Fin.of ?_;simp[dR,hz,c0,c1,c2,c3,bI,rJ,Ed.cs]
   ·simp -dsimp[ints,hi,hn0];refine Fin.box (.o 6) rfl ?_;simp -dsimp;refine Fin.of ?_;simp[dh,h0,hn0,bI]
theorem Ad{k:Int}(h:0≤k∧k<64):(1#64<<<k.toNat)=lS k:=by
 rw[lS,if_neg (by omega)];have:IntKind.u64.wrap k=k:=by rw[yu];omega
 rw[this]
theorem jH(rs:List Rt)(len:Int):∀(o:List Int) (T:Tp) (id:Int) (l:List Ed),(aX rs len o T id l).1.length≤l.length+o.length
 | [],_,_,_=>by simp[aX]
 | x::o,T,id,l=>by
   have h1:=jH rs len o (aV rs len x T id l).2.2 (aV rs len x T id l).2.1 (aV rs len x T id l).1;have h2:(aV rs len x T id l).1.length≤l.length+1:=by
    unfold aV;simp only;split
    ·simp
    ·simp only;split<;>simp
   simp only[aX,List.length_cons];omega
theorem qh(T:Tp)(rs:List Rt):(bJ T rs).1.es.length≤rs.length:=by
 have:=jH rs (aK (au T 3).2 [8,8,16,32,64]).1 (bT (aK (au T 3).2 [8,8,16,32,64]).2 rs.length).1 (bT (aK (au T 3).2 [8,8,16,32,64]).2 rs.length).2 0 [];rw[iK]at this
 simpa[bJ]using this
theorem Ce(set bit len:Int):Contract Tryz.prog 194 [.d (.int .i64 set),.d (.int .i64 bit),.d (.int .i64 len)] [] (zD set bit len) [] []:=by
 refine aj Tryz.func194 rfl (fun E0=>?_);refine cO.sound (g:=.mk) (ow:=[]) (kp:=(fun k=>k==0||k==1||k==2||k==6||k==7||k==8||k==23||k==31)) ?_;rw[Tryz.ntmps194];simp -dsimp;refine ah.of (nM len) [] 0 ?_;rcases (Bool.eq_false_or_eq_true (aG len)).symm with a1|a1
 ·simp -dsimp[a1];try refine⟨?_,⟨by kernel_rfl⟩⟩
  refine Fin.of ?_;simp[zD,Ej,a1]
 ·have hl:len=8∨len=16∨len=32∨len=64:=by simp[aG]at a1;omega
  simp -dsimp[a1,wrap_i64 (n:=len-1) (by omega) (by omega)];refine ah.of (oK bit 0 (len-1)) [] 0 ?_;rcases (Bool.eq_false_or_eq_true (inB bit 0 (len-1))).symm with a2|a2
  ·simp -dsimp[a1,a2];try refine⟨?_,⟨by kernel_rfl⟩⟩
   refine Fin.of ?_;simp[zD,Ej,a1,a2]
  ·simp -dsimp[a1,a2];refine ah.of (oK set 0 31) [] 0 ?_;rcases (Bool.eq_false_or_eq_true (inB set 0 31)).symm with a3|a3
   ·simp -dsimp[a1,a2,a3];try refine⟨?_,⟨by kernel_rfl⟩⟩
    refine Fin.of ?_;simp[zD,Ej,a1,a2,a3]
   ·have b2:0≤bit∧bit≤len-1:=by simpa[inB]using a2
    have b3:0≤set∧set≤31:=by simpa[inB]using a3
    have b4:0≤set*len∧set*len≤1984:=by rcases hl with rfl|rfl|rfl|rfl<;>omega
    by_cases a4:set*len+bit+1≤256
    ·have a5 :¬256<set*len+bit+1:=by omega
     simp -dsimp[a1,a2,a3,a4,a5,wrap_i64 (n:=set*len) (by omega) (by omega),wrap_i64 (n:=set*len+bit) (by omega) (by omega),wrap_i64 (n:=set*len+bit+1) (by omega) (by omega)];try refine⟨?_,⟨by kernel_rfl⟩⟩
     refine Fin.of ?_;simp[zD,Ej,a1,a2,a3,a4]
    ·have a5:256<set*len+bit+1:=by omega
     simp -dsimp[a1,a2,a3,a4,a5,wrap_i64 (n:=set*len) (by omega) (by omega),wrap_i64 (n:=set*len+bit) (by omega) (by omega),wrap_i64 (n:=set*len+bit+1) (by omega) (by omega)];try refine⟨?_,⟨by kernel_rfl⟩⟩
     refine Fin.of ?_;simp[zD,Ej,a1,a2,a3,a4]
set_option maxHeartbeats 4000000
theorem GV(b:Tb)(hb:b.rows.length≤1000000)(hn:∀x∈b.rows,x.nx.length≤1000000)(id:Int):Contract Tryz.prog 207 [bZ b,.d (.int .i64 id)] [] (rowT (rowOf b id)) [] []:=by
 refine aj Tryz.func207 rfl (fun E0=>?_);refine cO.sound (g:=.mk) (ow:=[]) (kp:=(fun k=>k==0||k==1||k==2||k==4||k==5||k==6||k==11||k==21)) ?_;rw[Tryz.ntmps207];simp -dsimp[bZ,bV];refine aN.of [] (fun k=>k==0||k==1||k==2||k==4||k==5||k==6||k==11||k==21) (ι:={i:Nat // i≤b.rows.length∧∀a,a<i→∀x,b.rows[a]? = some x→decide (x.id=id)=false})
  (fun z=>[(Pl.s 1,It.v (.d (.int .i64 id))),(Pl.o 2,It.box [TV.d (.int .i64 b.r),TV.d (.int .i64 b.sd),TV.d (.int .i64 b.len),TV.d (bV b.rows)]),(Pl.s 2,It.v (.ptr (Pl.o 2) 0)),(Pl.o 4,It.box [TV.d (.int .i64 0),TV.c (Value.slice none 0 0)]),(Pl.s 4,It.v (.ptr (Pl.o 4) 0)),(Pl.s 5,It.v (.d (.bool false))),(Pl.s 6,It.v (.d (.int .i64 z.1)))]) (fun z=>b.rows.length-z.1) ⟨0,by omega,fun a h=>by omega⟩ ?_ ?_
 ·exact GS.to (by simp[bV])
 ·rintro⟨i,i1,i2⟩;by_cases hi:i<b.rows.length
  ·have hiz:(i:Int)<b.rows.length:=by omega
   have hg:b.rows[i]? = some b.rows[i]:=List.getElem?_eq_getElem hi;have hx:=hn _ (List.getElem_mem hi);generalize b.rows[i]=x at hg hx;by_cases c1:x.id=id
   ·simp -dsimp[bV,hg,hiz,Rw.cs,eq_true c1];and_intros;all_goals try first|rfl|omega|exact⟨by kernel_rfl⟩
    refine Fin.of ?_;simp[rowT,rowOf,IY hg (by simpa using c1) i2,BF,c1]
   ·simp -dsimp[bV,hg,hiz,Rw.cs,c1,wrap_i64 (n:=(i:Int)+1) (by omega) (by omega)];and_intros;all_goals try first|rfl|omega|exact⟨by kernel_rfl⟩
    exact⟨⟨i+1,by omega,fun a ha y hy=>by
     by_cases e:a=i
     ·subst e;rw[hg]at hy;simp only[Option.some.injEq]at hy;subst hy;simpa using c1
     ·exact i2 a (by omega) y hy⟩,GS.to (by simp[bV]),by simp;omega⟩
  ·have hiz :¬(i:Int)<b.rows.length:=by omega
   simp -dsimp[bV,hiz];refine Fin.box (.o 4) rfl ?_;simp -dsimp;refine Fin.of ?_;simp[rowT,rowOf,IZ (q:=fun x=>decide (x.id=id)) (fun a ha=>i2 a (by omega)),BF,ints]
theorem yS(b:Tb)(hb:b.Sm)(id p:Int)(hp:0≤p∧p≤7):Contract Tryz.prog 132 [bZ b,.d (.int .i64 id),.d (.int .i64 p)] [] (.d (.int .i64 (mG b id p))) [] []:=by
 refine aj Tryz.func132 rfl (fun E0=>?_);refine cO.sound (g:=.mk) (ow:=[]) (kp:=(fun k=>k==0||k==1||k==2||k==3||k==6||k==7||k==8||k==22)) ?_;rw[Tryz.ntmps132];simp -dsimp[bZ];refine ah.of (GV b hb.rows hb.nx id) [] 0 ?_;have hl:=FB hb id;unfold mG;cases hr:rowOf b id with
 | none=>
   simp -dsimp[bZ,rowT,BF,hr];and_intros;all_goals try first|rfl|omega|exact⟨by kernel_rfl⟩
   refine Fin.of ?_;simp[og]
 | some x=>
   rw[hr]at hl
   simp only[Option.getD_some]at hl⊢;by_cases h0:x.nx.length=0
   ·have h0z:(x.nx.length:Int)=0:=by omega
    simp -dsimp[bZ,rowT,BF,hr,ints,h0,h0z];and_intros;all_goals try first|rfl|omega|exact⟨by kernel_rfl⟩
    refine Fin.of ?_;simp[og,h0]
   ·have h0z :¬(x.nx.length:Int)=0:=by omega
    have e:p.tmod x.nx.length=p%x.nx.length:=Int.tmod_eq_emod_of_nonneg hp.1;have m1:=Int.emod_nonneg p (b:=(x.nx.length:Int)) (by omega);have m2:=Int.emod_lt_of_pos p (b:=(x.nx.length:Int)) (by omega);have hlt:(p%x.nx.length).toNat<x.nx.length:=by omega
    have hg:x.nx[(p%x.nx.length).toNat]? = some x.nx[(p%x.nx.length).toNat]:=List.getElem?_eq_getElem hlt;simp -dsimp[bZ,rowT,BF,hr,ints,h0,h0z,e,hg];and_intros;all_goals try first|rfl|omega|exact⟨by kernel_rfl⟩
    refine Fin.of ?_;simp[og,h0,hg]
theorem Cj(b:Tb)(hb:b.Sm)(p s n:Int)(hp:0≤p∧p≤7)(hl:b.len≤1000):Contract Tryz.prog 196 [bZ b,.d (.int .i64 p),.d (.int .i64 s),.d (.int .i64 n)] [] (.d (bv (gu b p s n b.len.toNat))) [] []:=by
 refine aj Tryz.func196 rfl (fun E0=>?_);refine cO.sound (g:=.mk) (ow:=[]) (kp:=(fun k=>k==0||k==1||k==2||k==3||k==4||k==8||k==9||k==10||k==11||k==12||k==16||k==39)) ?_;rw[Tryz.ntmps196];simp -dsimp[bZ];refine aN.of [] (fun k=>k==0||k==1||k==2||k==3||k==4||k==8||k==9||k==10||k==11||k==12||k==16||k==39) (ι:={k:Nat // k≤b.len.toNat})
  (fun z=>[(Pl.s 1,It.v (.d (.int .i64 p))),(Pl.s 2,It.v (.d (.int .i64 s))),(Pl.s 3,It.v (.d (.int .i64 n))),
   (Pl.o 4,It.box [TV.d (.int .i64 b.r),TV.d (.int .i64 b.sd),TV.d (.int .i64 b.len),TV.d (bV b.rows)]),(Pl.s 4,It.v (.ptr (Pl.o 4) 0)),
   (Pl.s 8,It.v (.d (.int IntKind.u64 0))),(Pl.s 9,It.v (.d (bv (gu b p s n z.1)))),(Pl.s 10,It.v (.d (.int .i64 z.1)))]) (fun z=>b.len.toNat-z.1) ⟨0,by omega⟩ ?_ ?_
 ·exact GS.to (by simp[gu,bv])
 ·rintro⟨k,k1⟩;by_cases hk:(k:Int)<b.len
  ·simp -dsimp[bv,hk];refine ah.of (Ce s k b.len) [] 0 ?_;rcases (Bool.eq_false_or_eq_true (Ej s k b.len)).symm with c1|c1
   ·have hs:gu b p s n (k+1)=gu b p s n k:=by simp[gu,c1]
    simp -dsimp[bv,zD,c1,wrap_i64 (n:=(k:Int)+1) (by omega) (by omega)];and_intros;all_goals try first|rfl|omega|exact⟨by kernel_rfl⟩
    exact⟨⟨k+1,by omega⟩,GS.to (by simp[hs,bv]),by simp;omega⟩
   ·by_cases c2:0<n
    ·simp -dsimp[bv,zD,c1,c2];and_intros;all_goals try first|rfl|omega|exact⟨by kernel_rfl⟩
     refine ah.of (yS b hb (s*b.len+k+1) p hp) [] 0 ?_;by_cases c3:mG b (s*b.len+k+1) p=n
     ·have hs:gu b p s n (k+1)=gu b p s n k|||lS k:=by simp[gu,c1,c2,c3]
      simp -dsimp[bv,bZ,zD,c1,c2,c3];and_intros;all_goals try first|rfl|omega|exact⟨by kernel_rfl⟩
      refine ah.of (uD k) [] 0 ?_;simp -dsimp[bv,wrap_i64 (n:=(k:Int)+1) (by omega) (by omega)];and_intros;all_goals try first|rfl|omega|exact⟨by kernel_rfl⟩
      exact⟨⟨k+1,by omega⟩,GS.to (by simp[hs,bv]),by simp;omega⟩
     ·have hs:gu b p s n (k+1)=gu b p s n k:=by simp[gu,c3]
      simp -dsimp[bv,bZ,zD,c1,c2,c3,wrap_i64 (n:=(k:Int)+1) (by omega) (by omega)];and_intros;all_goals try first|rfl|omega|exact⟨by kernel_rfl⟩
      exact⟨⟨k+1,by omega⟩,GS.to (by simp[hs,bv]),by simp;omega⟩
    ·have hs:gu b p s n (k+1)=gu b p s n k:=by simp[gu,c2]
     simp -dsimp[bv,zD,c1,c2,wrap_i64 (n:=(k:Int)+1) (by omega) (by omega)];and_intros;all_goals try first|rfl|omega|exact⟨by kernel_rfl⟩
     exact⟨⟨k+1,by omega⟩,GS.to (by simp[hs,bv]),by simp;omega⟩
  ·have hkk:b.len.toNat=k:=by omega
   simp -dsimp[bv,hk];refine Fin.of ?_;simp[bv,hkk]
theorem Lj(g:ay)(p:Pn):∀b∈(rY g p).1,chk b=0:=fun b hb=>by
 unfold rY at hb;split at hb
 ·rename_i h;simp only[tabs,List.mem_map,List.mem_filter]at hb;obtain⟨x,⟨hx,_⟩,rfl⟩:=hb;exact N9 h.1 h.2 (dH.2 (List.mem_map_of_mem hx))
 ·simp at hb
theorem NW(g:ay)(p:Pn):(rY g p).1.length≤24:=by
 unfold rY;split
 ·rename_i h;simp only[tabs,List.length_map];exact Nat.le_trans (List.length_filter_le _ _) (aU h.1).nr
 ·simp
theorem tZ(l:List Tb)(hl:DL l):Contract Tryz.prog 106 [.d (.sl (oq l))] [] (.d (.int .i64 (nR l))) [] []:=DV l hl.big
theorem sD(rs:List Rt)(len x:Int)(T:Tp)(id:Int)(l:List Ed):ak (aV rs len x T id l).2.2=ak T∧(aV rs len x T id l).1.length≤l.length+1:=by
 unfold aV;simp only;split
 ·simp
 ·split<;>simp
theorem jI(rs:List Rt)(len:Int):∀(o:List Int) (T:Tp) (id:Int) (l:List Ed),ak (aX rs len o T id l).2.2=ak T∧(aX rs len o T id l).1.length≤l.length+o.length
 | [],_,_,_=>⟨rfl,Nat.le_refl _⟩
 | x::o,T,id,l=>by
   rw[aX];obtain⟨h1,h2⟩:=sD rs len x T id l;obtain⟨h3,h4⟩:=jI rs len o (aV rs len x T id l).2.2 (aV rs len x T id l).2.1 (aV rs len x T id l).1;exact⟨h3.trans h1,by simp only[List.length_cons];omega⟩
theorem fV(T:Tp)(rs:List Rt):ak (dh T rs 0).2=ak T∧(dh T rs 0).1.es.length≤rs.length:=by
 have h:=jI rs (aK (au T 3).2 [8,8,16,32,64]).1 (bT (aK (au T 3).2 [8,8,16,32,64]).2 rs.length).1 (bT (aK (au T 3).2 [8,8,16,32,64]).2 rs.length).2 0 [];simp only[dh,bJ,Int.lt_irrefl,if_false];refine⟨h.1.trans (by simp),?_⟩;have h2:=h.2;rw[iK]at h2
 simpa using h2
theorem Wj(l:List Tb)(e:Int):allT l e = .rG [.d (.sl (oq l)),.d (.int .i64 e)]:=rfl
def mpS(pr:List Int):List (Int×D):=pr.map fun x=>(x,D.bool true)
theorem Xe(k:Int):∀pr:List Int,JR (mpS pr) k=if k∈pr then some (.bool true)else none
 | []=>rfl
 | x::pr=>by
   have ih:=Xe k pr;simp only[mpS]at ih;simp only[mpS,List.map_cons,JR,ih,List.mem_cons];by_cases e:k=x
   ·simp[e]
   ·simp[e]
theorem QU{l:List Tb}(h:nR l=0):∀b∈l,chk b=0:=fun b hb=>by
 have:=x9 (l:=_) (by simp) h;simp only[List.mem_cons,List.not_mem_nil,or_false,forall_eq_or_imp,forall_eq]at this;have h2:=List.any_eq_false.1 this.2.1 b hb;simpa using h2
noncomputable def Hw(T:Tp)(most:Int):ay×Pn×List Tb×Tp:=
 let g:=dG T most
 let p:=dh g.2 g.1.rs 0
 (g.1,p.1,(rY g.1 p.1).1,p.2)
theorem aen(T:Tp)(hT:ak T)(most:Int)(hm:1≤most∧most≤24):Contract Tryz.prog 50 [.ptr (.x 0) 0,.d (.int .i64 most)] [aJ T] (.rG [aH (Hw T most).1,bI (Hw T most).2.1,.d (.sl (oq (Hw T most).2.2.1))]) [aJ (Hw T most).2.2.2] []:=by
 refine aj Tryz.func50 rfl (fun E0=>?_);refine cO.sound (g:=.mk) (ow:=[]) (kp:=(fun k=>k==0||k==1||k==4||k==5||k==6||k==7||k==8||k==9)) ?_;rw[Tryz.ntmps50];simp -dsimp;refine ah.of (ajF T hT most hm) [.x 0] 0 ?_;have kG:ak (dG T most).2:=by simpa using hT
 have hsm:=vV T hm;unfold Hw;simp only;generalize dG T most=G at kG hsm⊢;simp -dsimp[aH];refine ah.of (xu G.2 kG G.1.rs G.1.ls (by omega) 0 (by omega)) [.x 0] 0 ?_;obtain⟨kP,lP⟩:=fV G.2 G.1.rs;have kG:ak (dh G.2 G.1.rs 0).2:=kP.symm▸kG;clear kP;generalize dh G.2 G.1.rs 0=p at kG lP⊢;simp -dsimp[aH,bI]
 refine ah.of (FY G.1 ⟨by omega,by omega⟩ p.1 (by omega)) [] 0 ?_;generalize (rY G.1 p.1).1=l;generalize (rY G.1 p.1).2=er;simp -dsimp[aH,bI,Wj];and_intros;all_goals try first|rfl|omega|exact⟨by kernel_rfl⟩
 refine Fin.of ?_;simp[aH,bI]
theorem uG:∀l:List (Int×Pk),l.length≤kZ l
 | []=>by simp
 | q::l=>by
   have:=uG l;rw[qV,List.length_cons];unfold wt;omega
theorem yX(l:List Tb)(q:Int×Pk):kZ (nextQ l q)+1≤wt q.2:=by
 have h0:1≤wt q.2:=by unfold wt;omega
 unfold nextQ;split
 ·simpa[kZ]using h0
 ·rename_i b _;unfold jC;split
  ·simpa[kZ,iC]using h0
  split
  ·simpa[kZ,iC]using h0
  split
  ·simpa[kZ,iC]using h0
  have h:=L_ b q.2 64 iC q.2.bits;have e0:kZ iC.g_=0:=rfl;simp only[iH];unfold wt;rw[Nat.mul_add];omega
theorem rE(l:List Tb)(n:Nat)(t:dQ):mY l n [] t=t:=by cases n<;>rfl
set_option maxHeartbeats 8000000
theorem zX(p:Pk):Contract Tryz.prog 195 [dX p] [] (.d (.int .i64 (kX p))) [] []:=by
 refine aj Tryz.func195 rfl (fun E0=>?_);refine cO.sound (g:=.mk) (ow:=[]) (kp:=(fun k=>k==0||k==1||k==2||k==5)) ?_;rw[Tryz.ntmps195];have hv:=o9 p;simp only[dX,Pk.cs,List.map]at hv;simp -dsimp[dX,Pk.cs];refine ah.of hv [] 0 ?_;rcases (Bool.eq_false_or_eq_true p.ok).symm with a1|a1
 ·simp -dsimp[a1];refine Fin.of ?_;simp[kX,a1]
 ·have h:=Tj a1;simp -dsimp[a1,wrap_i64 (n:=p.ent%8) (by omega) (by omega),Int.tmod_eq_emod_of_nonneg h.1];refine Fin.of ?_;simp[kX,a1]
theorem xU(p:Pk)(m:BitVec 64):Contract Tryz.prog 197 [dX p,.d (bv m)] [] (.rG [dX (jg p m).1,.d (.bool (jg p m).2)]) [] []:=by
 refine aj Tryz.func197 rfl (fun E0=>?_);refine cO.sound (g:=.mk) (ow:=[]) (kp:=(fun k=>k==0||k==1||k==2||k==4||k==5||k==20)) ?_;rw[Tryz.ntmps197];have hv:=o9 p;simp only[dX,Pk.cs,List.map,bv]at hv;simp -dsimp[dX,Pk.cs,bv];refine ah.of hv [] 0 ?_;rcases (Bool.eq_false_or_eq_true p.ok).symm with a1|a1
 ·simp -dsimp[a1];refine Fin.of ?_;simp[jg,a1,Bh,dX,Pk.cs,bv]
 ·have h:=qA a1;by_cases a2:p.ttl=0
  ·simp -dsimp[a1,a2];refine Fin.of ?_;simp[jg,a2,Bh,dX,Pk.cs,bv]
  by_cases a3:p.bits&&&m=0#64
  ·simp -dsimp[a1,a2,a3];refine Fin.of ?_;simp[jg,a3,Bh,dX,Pk.cs,bv]
  simp -dsimp[a1,a2,a3,wrap_i64 (n:=p.ttl-1) (by omega) (by omega)];refine Fin.of ?_;simp[jg,a1,a2,a3,ji,dX,Pk.cs,bv]
def hasK(B:BitVec 64)(k:Int):Bool:=decide (0≤k)&&(decide (k<64)&&B.getLsbD k.toNat)
theorem Bq(B:BitVec 64)(k:Nat):(B>>>k&&&1#64=1#64)↔B.getLsbD k=true:=by
 rw[BitVec.and_one_eq_setWidth_ofBool_getLsbD,BitVec.getLsbD_ushiftRight,Nat.add_zero];cases B.getLsbD k<;>decide
theorem xM(B:BitVec 64)(k:Int):Contract Tryz.prog 244 [.d (bv B),.d (.int .i64 k)] [] (.d (.bool (hasK B k))) [] []:=by
 refine aj Tryz.func244 rfl (fun E0=>?_);refine cO.sound (g:=.mk) (ow:=[]) (kp:=(fun k=>k==0||k==1||k==4)) ?_;rw[Tryz.ntmps244];by_cases a2:0≤k
 ·by_cases a3:k<64
  ·have hb:=Bq B k.toNat;simp -dsimp[bv,eq_true a2,eq_true a3];have hw:IntKind.u64.wrap k=k:=wrap_u64 (by omega) (by omega);refine⟨by rw[hw];exact a2,?_⟩;refine Fin.of ?_;rw[hw];simp[hasK,a2,a3,hb]
  ·simp -dsimp[bv,eq_true a2,a3];try refine⟨?_,⟨by kernel_rfl⟩⟩
   refine Fin.of ?_;simp[hasK,a3]
 ·simp -dsimp[bv,a2];try refine⟨?_,⟨by kernel_rfl⟩⟩
  refine Fin.of ?_;simp[hasK,a2]
def jl(B:BitVec 64)(k:Nat):List Int:=((List.range k).filter fun i=>B.getLsbD i).map Int.ofNat
theorem tY(B:BitVec 64)(k:Nat):jl B (k+1)=jl B k++(if B.getLsbD k=true then [(k:Int)]else []):=by
 unfold jl;rw[List.range_succ,List.filter_append,List.map_append];cases h:B.getLsbD k<;>simp[h]
theorem wL(B:BitVec 64)(k:Nat):(jl B k).length≤k:=by
 unfold jl;rw[List.length_map];exact Nat.le_trans (List.length_filter_le _ _) (by simp)
theorem wK(B:BitVec 64):jl B 64=lg B:=rfl
theorem sK(B:BitVec 64):Contract Tryz.prog 198 [.d (bv B)] [] (.d (ints (lg B))) [] []:=by
 refine aj Tryz.func198 rfl (fun E0=>?_);refine cO.sound (g:=.mk) (ow:=[]) (kp:=(fun k=>k==0||k==2||k==3||k==4||k==6||k==11)) ?_;rw[Tryz.ntmps198];simp -dsimp[bv];refine aN.of [] (fun k=>k==0||k==2||k==3||k==4||k==6||k==11) (ι:={k:Nat // k≤64})
  (fun z=>[(Pl.s 0,It.v (.d (.int IntKind.u64 (tn B)))),(Pl.s 2,It.v (.c (Value.slice none 0 0))),(Pl.s 3,It.v (.aB 3 (jl B z.1).length)),(Pl.o 3,.row 3 1 (dd (dJ .i64 (jl B z.1))) false),(Pl.s 4,It.v (.d (.int .i64 z.1)))])
  (fun z=>64-z.1) ⟨0,by omega⟩ ?_ ?_
 ·exact GS.own' (k:=3) 3 1 (by simp) (by simp) (by simp[dJ,jl])
 ·rintro⟨k,k1⟩;have hll:=wL B k;by_cases hk:k<64
  ·have hkz:(k:Int)<64:=by omega
   have hh:=xM B k;have hv:hasK B k=B.getLsbD k:=by simp[hasK,hk,hkz]
   rw[hv]at hh
   simp only[bv]at hh;have hn:=tY B k;simp -dsimp[hkz];try refine⟨?_,⟨by kernel_rfl⟩⟩
   refine ah.of hh [] 0 ?_;rcases (Bool.eq_false_or_eq_true (B.getLsbD k)).symm with b1|b1
   ·rw[b1]at hn⊢
    simp only[Bool.false_eq_true,if_false,List.append_nil]at hn;simp -dsimp[wrap_i64 (n:=(k:Int)+1) (by omega) (by omega)];and_intros;all_goals try first|rfl|omega|exact⟨by kernel_rfl⟩
    exact⟨⟨k+1,by omega⟩,GS.to (by simp[hn]),by simp;omega⟩
   ·rw[b1]at hn⊢
    simp only[if_true]at hn;simp -dsimp[wrap_i64 (n:=(k:Int)+1) (by omega) (by omega)];and_intros;all_goals try first|rfl|omega|exact⟨by kernel_rfl⟩
    exact⟨⟨k+1,by omega⟩,GS.to (by simp[hn,dJ]),by simp;omega⟩
  ·have hkz :¬(k:Int)<64:=by omega
   obtain rfl:k=64:=by omega
   have e:=wK B;simp -dsimp[hkz];refine Fin.view 2 ?_;simp -dsimp;refine Fin.of ?_;simp[←e,ints,dJ]
theorem zJ(B:BitVec 64):Contract Tryz.prog 193 [.d (bv B)] [] (.d (.int .i64 (jF B))) [] []:=by
 have hl:=sK B;have hlen:=iT B;have hN:Contract Tryz.prog 243 [.d (bv B),.d (.int .i64 0)] [] (.d (.int .i64 (jF B))) [] []:=by
  refine aj Tryz.func243 rfl (fun E0=>?_);refine cO.sound (g:=.mk) (ow:=[]) (kp:=(fun k=>k==0||k==1||k==4||k==5||k==15)) ?_;rw[Tryz.ntmps243];simp -dsimp;try refine⟨?_,⟨by kernel_rfl⟩⟩
  refine ah.of hl [] 0 ?_;by_cases h0:B=0#64
  ·have e:lg B = []:=by rw[h0];exact vK
   rw[e];simp -dsimp[ints];try refine⟨?_,⟨by kernel_rfl⟩⟩
   refine Fin.of ?_;simp[jF,h0]
  ·have e:=Cm h0;have ef:jF B=(tz B:Int):=by simp[jF,h0]
   rw[e,ef];rw[e]at hlen
   generalize lg (B&&&wu (tn B-1))=L at hlen⊢;simp -dsimp[ints];have hlz :¬(L.length:Int)+1≤0:=by omega
   simp -dsimp[hlz];try refine⟨?_,⟨by kernel_rfl⟩⟩
   refine Fin.of ?_;simp
 refine aj Tryz.func193 rfl (fun E0=>?_);refine cO.sound (g:=.mk) (ow:=[]) (kp:=(fun k=>k==0||k==2)) ?_;rw[Tryz.ntmps193];simp -dsimp;refine ah.of hN [] 0 ?_;simp -dsimp;refine Fin.of ?_;simp
theorem IK(p:Pk)(k:Int):Contract Tryz.prog 242 [dX p,.d (.int .i64 k)] [] (dX (f_ p k)) [] []:=by
 refine aj Tryz.func242 rfl (fun E0=>?_);refine cO.sound (g:=.mk) (ow:=[]) (kp:=(fun k=>k==0||k==1||k==2||k==4||k==14)) ?_;rw[Tryz.ntmps242];have hv:=o9 p;have hh:=xM p.bits k;have hb:=uD k;simp only[dX,Pk.cs,List.map]at hv;simp -dsimp[dX,Pk.cs];try refine⟨?_,⟨by kernel_rfl⟩⟩
 refine ah.of hv [] 0 ?_;rcases (Bool.eq_false_or_eq_true p.ok).symm with a1|a1
 ·simp -dsimp[a1];try refine⟨?_,⟨by kernel_rfl⟩⟩
  refine Fin.of ?_;simp[f_,a1,Bh,dX,Pk.cs,bv]
 ·simp -dsimp[a1];try refine⟨?_,⟨by kernel_rfl⟩⟩
  refine ah.of hh [] 0 ?_;rcases (Bool.eq_false_or_eq_true (hasK p.bits k)).symm with a2|a2
  ·have :¬(0≤k∧k≤63∧p.bits.getLsbD k.toNat=true):=fun⟨h1,h2,h3⟩=>by
    simp[hasK,h1,h3]at a2;omega
   simp -dsimp[a2];try refine⟨?_,⟨by kernel_rfl⟩⟩
   refine Fin.of ?_;simp[f_,this,Bh,dX,Pk.cs,bv]
  ·simp only[hasK,Bool.and_eq_true,decide_eq_true_eq]at a2;obtain⟨b1,b2,b3⟩:=a2;have b4:k≤63:=by omega
   have eb:lS k=1#64<<<k.toNat:=(Ad ⟨b1,b2⟩).symm;rw[eb]at hb
   have a2':hasK p.bits k=true:=by simp[hasK,b1,b2,b3]
   simp -dsimp[a2'];try refine⟨?_,⟨by kernel_rfl⟩⟩
   refine ah.of hb [] 0 ?_;simp -dsimp;try refine⟨?_,⟨by kernel_rfl⟩⟩
   refine Fin.of ?_;simp[f_,a1,b1,b4,b3,dX,Pk.cs,bv]
theorem FZ{p R X:BitVec 64}(hR:∀k<64,R.getLsbD k=true→p.getLsbD k=true):p&&&(R&&&X)=R&&&(R&&&X):=by
 apply BitVec.eq_of_getLsbD_eq;intro k hk;simp only[BitVec.getLsbD_and];cases hr:R.getLsbD k with
 | false=>simp
 | true=>rw[hR k hk hr]
theorem KU{p:Pk}{R:BitVec 64}(X:BitVec 64)(hp:p.ok=true)(hR:∀k<64,R.getLsbD k=true→p.bits.getLsbD k=true):jg p (R&&&X)=jg (p.setB R) (R&&&X):=by
 have h1:=Nj hp hR;have h2:=FZ (X:=X) hR;unfold jg;simp only[hp,h1];simp only[Pk.setB,ji,h2]
 congr
end Go.Proofs
