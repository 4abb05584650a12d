/-
  What functions of the program compute, stated as contracts over plain data; the conditions of each stand in its own statement.
-/
import Derived.Test.YtboimfkommpglaaGreatDoorZA11
import Derived.Test.YtboimfkommpglaaGreatDoorZA06
import Derived.Test.YtboimfkommpglaaGreatDoorZA10
import Derived.KernelRfl
import Derived.Test.YtboimfkommpglaaGreatDoorChecked
import Derived.Test.YtboimfkommpglaaGreatDoorZA13
import Derived.Test.YtboimfkommpglaaGreatDoorZA14
import Derived.Test.YtboimfkommpglaaGreatDoorZA17
import Derived.Test.YtboimfkommpglaaGreatDoorZA19
import Derived.Test.YtboimfkommpglaaGreatDoorZA20
import Derived.Test.YtboimfkommpglaaGreatDoorZA21
namespace Go.Proofs
open Go Go.Tr
@[simp]theorem abE:qL Tryz.prog 92 0=some (0,3):=by kernel_rfl
@[simp]theorem abG:qL Tryz.prog 96 0=some (0,3):=by kernel_rfl
@[simp]theorem abI:qL Tryz.prog 96 1=some (1,3):=by kernel_rfl
@[simp]theorem alL:qL Tryz.prog 96 2=some (2,23):=by kernel_rfl
@[simp]theorem WU:aZ Tryz.prog 28=true:=by kernel_rfl
@[simp]theorem Rx:aZ Tryz.prog 29=true:=by kernel_rfl
@[simp]theorem aoz:aZ Tryz.prog 49=true:=by kernel_rfl
@[simp]theorem abJ:aZ Tryz.prog 146=true:=by kernel_rfl
set_option linter.unusedSimpArgs false
set_option maxRecDepth 100000
theorem nV(x:Lk):∀l:List Lk,bU x l≤l.length
 | []=>Nat.le_refl _
 | y::r=>by
   have:=nV x r;simp only[bU,List.length_cons];split<;>omega
set_option maxHeartbeats 2000000
theorem wF{l:List Rt}{i:Nat}{x:Rt}(h:l[i]? = some x)(hi:i<(rts l).length):(rts l)[i]=x.cs:=by
 have:=fF h;rw[List.getElem?_eq_getElem hi]at this
 simpa using this
def aV(rs:List Rt)(len:Int)(x:Int)(T:Tp)(id:Int)(l:List Ed):List Ed×Int×Tp:=
 let c:=au T 4
 if c.1=0 then(l,id,c.2)else
  let p:=aK c.2 [1,1,1,2,len-1]
  (if id+p.1≤256 then l++[⟨(rs.getD x.toNat ⟨0,false⟩).id,id+p.1⟩]else l,id+p.1,p.2)
def aX(rs:List Rt)(len:Int):List Int→Tp→Int→List Ed→List Ed×Int×Tp
 | [],T,id,l=>(l,id,T)
 | x::o,T,id,l=>aX rs len o (aV rs len x T id l).2.2 (aV rs len x T id l).2.1 (aV rs len x T id l).1
def bJ(T:Tp)(rs:List Rt):Pn×Int×Tp:=
 let s:=au T 3
 let L:=aK s.2 [8,8,16,32,64]
 let o:=bT L.2 rs.length
 let X:=aX rs L.1 o.1 o.2 0 []
 (⟨s.1,L.1,X.1⟩,X.2)
def dR(T:Tp)(p:Pn)(id:Int):Pn×Tp:=
 let s:=au T 5
 if s.1=0 then(⟨(iY s.2).1,p.len,p.es⟩,(iY s.2).2)
 else if s.1=1 then(⟨p.bF,(aK s.2 [0,8,24,64,128]).1,p.es⟩,(aK s.2 [0,8,24,64,128]).2)
 else if s.1=2 then
  let a:=aK s.2 [0,1,99,100]
  let b:=aK a.2 [0,1,256,257]
  (⟨p.bF,p.len,p.es++[⟨a.1,b.1⟩]⟩,b.2)
 else if s.1=3 then(match p.es with
  | []=>(p,s.2)
  | e::l=>(⟨p.bF,p.len,⟨e.r,(iY s.2).1⟩::l⟩,(iY s.2).2))
 else(⟨p.bF,p.len,p.es++[⟨50,id+1⟩]⟩,s.2)
def dh(T:Tp)(rs:List Rt)(n:Int):Pn×Tp:=
 let X:=bJ T rs
 if 0<n then
  if(dD X.2.2 n).1 then dR (dD X.2.2 n).2 X.1 X.2.1 else(X.1,(dD X.2.2 n).2)
 else(X.1,X.2.2)
theorem xu(T:Tp)(hT:ak T)(rs:List Rt)(ls:List Lk)(hr:rs.length≤500)(n:Int)(hn:0≤n∧n≤1000):Contract Tryz.prog 86 [.ptr (.x 0) 0,.agg [.d (.sl (rts rs)),.d (.sl (dO ls))],.d (.int .i64 n)] [aJ T] (bI (dh T rs n).1) [aJ (dh T rs n).2] []:=by
 refine aj Tryz.func86 rfl (fun E0=>?_);refine cO.sound (g:=.mk) (ow:=[]) (kp:=(fun k=>k==0||k==1||k==2||k==4||k==6||k==7||k==8||k==9||k==10||k==24||k==29||k==39||k==62||k==64||k==73||k==78||k==84||k==98||k==103)) ?_;rw[Tryz.ntmps86];simp -dsimp;refine ah.of (bn T hT 3 ⟨by omega,by omega⟩) [.x 0] 0 ?_;simp -dsimp;generalize hs:au T 3=s
 have ks:ak s.2:=by rw[←hs];simpa using hT
 refine ah.of (C9 s.2 ks) [.x 0] 0 ?_;simp -dsimp;generalize hL:aK s.2 [8,8,16,32,64]=L;have kL:ak L.2:=by rw[←hL];simpa using ks
 have bL:8≤L.1∧L.1≤64:=by rw[←hL];exact dA (p:=fun x=>8≤x∧x≤64) (by simp) (by simp)
 refine ah.of (D9 L.2 kL rs.length (by omega)) [.x 0] 0 ?_;simp -dsimp;generalize ho:bT L.2 rs.length=o;have ko:ak o.2:=by rw[←ho];simpa using kL
 have mo:=lZ L.2 rs.length;rw[ho]at mo
 have lo:=iK L.2 rs.length;rw[ho]at lo
 refine aN.of [] (fun k=>k==0||k==1||k==2||k==4||k==6||k==7||k==8||k==9||k==10||k==24||k==29||k==39||k==62||k==64||k==73||k==78||k==84||k==98||k==103) (ι:={z:Nat×Tp×Int×List Ed // z.1≤o.1.length∧ak z.2.1∧0≤z.2.2.1∧z.2.2.1≤100*z.1∧z.2.2.2.length≤z.1∧aX rs L.1 o.1 o.2 0 []=aX rs L.1 (o.1.drop z.1) z.2.1 z.2.2.1 z.2.2.2})
  (fun z=>[(Pl.s 0,It.v (.ptr (Pl.x 0) 0)),(Pl.s 1,It.v (.agg [TV.d (.sl (rts rs)),TV.d (.sl (dO ls))])),(Pl.s 2,It.v (.d (.int .i64 n))),(Pl.x 0,aJ z.1.2.1),
   (Pl.o 4,It.box [TV.d (.sl (rts rs)),TV.d (.sl (dO ls))]),(Pl.s 4,It.v (.ptr (Pl.o 4) 0)),
   (Pl.o 6,It.box [TV.d (.int .i64 0),TV.d (.int .i64 0),TV.c (Value.slice none 0 0)]),(Pl.s 6,It.v (.ptr (Pl.o 6) 0)),
   (Pl.o 7,It.box [TV.d (.int .i64 s.1),TV.d (.int .i64 L.1),TV.aB 1000 z.1.2.2.2.length]),(Pl.s 7,It.v (.ptr (Pl.o 7) 0)),(Pl.s 8,It.v (.d (.int .i64 z.1.2.2.1))),(Pl.s 9,It.v (.d (ints o.1))),
   (Pl.o 1000,.row 115 2 (dd (rJ z.1.2.2.2)) false),(Pl.s 10,It.v (.d (.int .i64 z.1.1)))]) (fun z=>o.1.length-z.1.1) ⟨(0,o.2,0,[]),by simp,ko,by simp,by simp,by simp,rfl⟩ ?_ ?_
 ·exact GS.gq (.o 7) 2 1000 (cs:=[TV.d (.int .i64 s.1),TV.d (.int .i64 L.1),TV.c (Value.slice none 0 0)]) 115 2 (by simp) (by simp) (by simp) (by simp) (by simp[rJ])
 ·rintro⟨⟨i,T',id,l⟩,i1,i2,i3,i4,i5,i6⟩;simp only at i1 i2 i3 i4 i5 i6;by_cases hi:i<o.1.length
  ·obtain⟨x,hx⟩:∃x,o.1[i]? = some x:=⟨o.1[i],List.getElem?_eq_getElem hi⟩
   have hx':o.1[i]=x:=by rw[List.getElem?_eq_getElem hi]at hx;simpa using hx
   have hd:o.1.drop i=x::o.1.drop (i+1):=by rw[←hx'];exact List.drop_eq_getElem_cons _
   have bx:=mo x (List.mem_of_getElem? hx);have hxr:x.toNat<rs.length:=by omega
   obtain⟨r,hr1⟩:∃r,rs[x.toNat]? = some r:=⟨rs[x.toNat],List.getElem?_eq_getElem hxr⟩
   have hr2:=wF hr1;have hr3:rs.getD x.toNat ⟨0,false⟩ = r:=by simp[List.getD,hr1]
   simp -dsimp[ints,hi];refine ah.of (bn T' i2 4 ⟨by omega,by omega⟩) [.x 0] 0 ?_;simp -dsimp;generalize hc:au T' 4=c;have kc:ak c.2:=by rw[←hc];simpa using i2
   refine qM.dec (fun h0=>?_) (fun h0=>?_)
   ·simp -dsimp[wrap_i64 (n:=(i:Int)+1) (by omega) (by omega)];have e:aV rs L.1 x T' id l=(l,id,c.2):=by simp[aV,hc,h0]
    exact⟨⟨(i+1,c.2,id,l),by dsimp only;omega,kc,by dsimp only;omega,by dsimp only;omega,by dsimp only;omega,by dsimp only;rw[i6,hd,aX,e]⟩,GS.to (by simp[ints]),by simp;omega⟩
   ·simp -dsimp[wrap_i64 (n:=L.1-1) (by omega) (by omega)];refine ah.of (fE c.2 kc [1,1,1,2,L.1-1] (by simp) (by simp)) [.x 0] 0 ?_;have bp:1≤(aK c.2 [1,1,1,2,L.1-1]).1∧(aK c.2 [1,1,1,2,L.1-1]).1≤63:=dA (p:=fun x=>1≤x∧x≤63) (by simp) (by simp;omega);simp -dsimp[ints];generalize hp:aK c.2 [1,1,1,2,L.1-1]=p at bp⊢;have kp:ak p.2:=by rw[←hp];simpa using kc
    simp -dsimp[wrap_i64 (n:=id+p.1) (by omega) (by omega)];refine qM.dec (fun h1=>?_) (fun h1=>?_)
    ·simp -dsimp[ints,hi,hx',fF hr1,Rt.cs,wrap_i64 (n:=id+p.1) (by omega) (by omega),wrap_i64 (n:=(i:Int)+1) (by omega) (by omega)];and_intros;all_goals try first|omega|exact⟨by kernel_rfl⟩
     have e:aV rs L.1 x T' id l=(l++[⟨r.id,id+p.1⟩],id+p.1,p.2):=by simp only[aV,hc,h0,hp,h1,hr3,if_true,if_false]
     exact⟨⟨(i+1,p.2,id+p.1,l++[⟨r.id,id+p.1⟩]),by dsimp only;omega,kp,by dsimp only;omega,by dsimp only;omega,by simp;omega,by dsimp only;rw[i6,hd,aX,e]⟩,GS.to (by simp[ints,rJ,Ed.cs]),by simp;omega⟩
    ·simp -dsimp[wrap_i64 (n:=id+p.1) (by omega) (by omega),wrap_i64 (n:=(i:Int)+1) (by omega) (by omega)];have e:aV rs L.1 x T' id l=(l,id+p.1,p.2):=by simp[aV,hc,h0,hp,h1]
     exact⟨⟨(i+1,p.2,id+p.1,l),by dsimp only;omega,kp,by dsimp only;omega,by dsimp only;omega,by dsimp only;omega,by dsimp only;rw[i6,hd,aX,e]⟩,GS.to (by simp[ints]),by simp;omega⟩
  ·have hX:aX rs L.1 o.1 o.2 0 []=(l,id,T'):=by rw[i6,List.drop_eq_nil_of_le (by omega)];rfl
   have h0:bJ T rs=(⟨s.1,L.1,l⟩,id,T'):=by simp[bJ,hs,hL,ho,hX]
   by_cases hn0:0<n
   ·simp -dsimp[ints,hi,hn0];refine ah.of (gK T' i2 n ⟨by omega,by omega⟩ ⟨by omega,by omega⟩) [.x 0] 0 ?_;simp -dsimp;generalize hq:dD T' n=q;have kq:ak q.2:=by rw[←hq];simpa using i2
    rcases (Bool.eq_false_or_eq_true q.1).symm with hq1|hq1
    ·simp -dsimp[hq1];refine Fin.box (.o 6) rfl ?_;simp -dsimp;refine Fin.of ?_;simp[dh,h0,hn0,bI,hq,hq1]
    ·simp -dsimp[hq1];refine ah.of (bn q.2 kq 5 ⟨by omega,by omega⟩) [.x 0] 0 ?_;simp -dsimp;generalize hz:au q.2 5=z;have kz:ak z.2:=by rw[←hz];simpa using kq
     have hg:dh T rs n=dR q.2 ⟨s.1,L.1,l⟩ id:=by simp[dh,h0,hn0,hq,hq1]
     rw[hg];refine qM.dec (fun c0=>?_) (fun c0=>?_)
     ·simp -dsimp;refine ah.of (qI z.2 kz) [.x 0] 0 ?_;simp -dsimp;refine Fin.box (.o 6) rfl ?_;simp -dsimp;refine Fin.of ?_;simp[dR,hz,c0,bI]
     ·simp -dsimp[c0];refine qM.dec (fun c1=>?_) (fun c1=>?_)
      ·simp -dsimp;refine ah.of (fE z.2 kz [0,8,24,64,128] (by simp) (by simp)) [.x 0] 0 ?_;simp -dsimp[ints];refine Fin.box (.o 6) rfl ?_;simp -dsimp;refine Fin.of ?_;simp[dR,hz,c0,c1,bI]
      ·simp -dsimp[c1];refine qM.dec (fun c2=>?_) (fun c2=>?_)
       ·simp -dsimp;refine ah.of (fE z.2 kz [0,1,99,100] (by simp) (by simp)) [.x 0] 0 ?_;simp -dsimp[ints];generalize hv:aK z.2 [0,1,99,100]=v;have kv:ak v.2:=by rw[←hv];simpa using kz
        refine ah.of (fE v.2 kv [0,1,256,257] (by simp) (by simp)) [.x 0] 0 ?_;simp -dsimp[ints];and_intros;all_goals try first|omega|exact⟨by kernel_rfl⟩
        refine Fin.box (.o 6) rfl ?_;simp -dsimp;refine Fin.of ?_;simp[dR,hz,c0,c1,c2,bI,rJ,Ed.cs,hv]
       ·simp -dsimp[c2];refine qM.dec (fun c3=>?_) (fun c3=>?_)
        ·rcases l with _|⟨ed,l'⟩
         ·simp -dsimp;refine Fin.box (.o 6) rfl ?_;simp -dsimp;refine Fin.of ?_;simp[dR,hz,c0,c1,c2,c3,bI,rJ]
         ·simp -dsimp;refine ah.of (qI z.2 kz) [.x 0] 0 ?_;simp -dsimp[rJ,Ed.cs];refine⟨?_,⟨by kernel_rfl⟩⟩;refine Fin.box (.o 6) rfl ?_;simp -dsimp;refine Fin.of ?_;simp[dR,hz,c0,c1,c2,c3,bI,rJ,Ed.cs]
        ·simp -dsimp[c3,wrap_i64 (n:=id+1) (by omega) (by omega)];and_intros;all_goals try first|omega|exact⟨by kernel_rfl⟩
         refine Fin.box (.o 6) rfl ?_;simp -dsimp;refine Fin.of ?_;simp[dR,hz,c0,c1,c2,c3,bI,rJ,Ed.cs]
   ·simp -dsimp[ints,hi,hn0];refine Fin.box (.o 6) rfl ?_;simp -dsimp;refine Fin.of ?_;simp[dh,h0,hn0,bI]
theorem jH(rs:List Rt)(len:Int):∀(o:List Int) (T:Tp) (id:Int) (l:List Ed),(aX rs len o T id l).1.length≤l.length+o.length
 | [],_,_,_=>by simp[aX]
 | x::o,T,id,l=>by
   have h1:=jH rs len o (aV rs len x T id l).2.2 (aV rs len x T id l).2.1 (aV rs len x T id l).1;have h2:(aV rs len x T id l).1.length≤l.length+1:=by
    unfold aV;simp only;split
    ·simp
    ·simp only;split<;>simp
   simp only[aX,List.length_cons];omega
theorem qh(T:Tp)(rs:List Rt):(bJ T rs).1.es.length≤rs.length:=by
 have:=jH rs (aK (au T 3).2 [8,8,16,32,64]).1 (bT (aK (au T 3).2 [8,8,16,32,64]).2 rs.length).1 (bT (aK (au T 3).2 [8,8,16,32,64]).2 rs.length).2 0 [];rw[iK]at this
 simpa[bJ]using this
theorem zl(T:Tp)(hT:ak T)(most:Int)(hm:1≤most∧most≤24):Contract Tryz.prog 18 [.ptr (.x 0) 0,.d (.int .i64 most),.d (.int .i64 0)] [aJ T] (.agg [.aB 1000 (dG T most).1.rs.length,.d (.sl (dO (dG T most).1.ls))]) [aJ (dG T most).2] [(1000,.row 117 2 (dd (rts (dG T most).1.rs)) false)]:=by
 have b1:=aS T 1 most;have b2:=aQ T (a:=1) (b:=most) (by omega);refine aj Tryz.func18 rfl (fun E0=>?_);refine cO.sound (g:=.mk) (ow:=[]) (kp:=(fun k=>k==0||k==1||k==2||k==6||k==7||k==8||k==9||k==10||k==11||k==12||k==13||k==14||k==15||k==21||k==36||k==47||k==60||k==87||k==89||k==91||k==101||k==112||k==124||k==129||k==141||k==146||k==158||k==163||k==175||k==180)) ?_
 rw[Tryz.ntmps18];simp -dsimp;refine ah.of (dw T hT 1 most ⟨by omega,by omega⟩ ⟨by omega,by omega⟩ ⟨by omega,by omega⟩ ⟨by omega,by omega⟩) [.x 0] 0 ?_;simp -dsimp;generalize hR:aT T 1 most=R at b1 b2⊢;have kR:ak R.2:=by rw[←hR];simpa using hT
 refine aN.of [] (fun k=>k==0||k==1||k==2||k==6||k==7||k==8||k==9||k==10||k==11||k==12||k==13||k==14||k==15||k==21||k==36||k==47||k==60||k==87||k==89||k==91||k==101||k==112||k==124||k==129||k==141||k==146||k==158||k==163||k==175||k==180) (ι:={i:Nat // (i:Int)≤R.1}) (fun i=>[(Pl.s 0,It.v (.ptr (Pl.x 0) 0)),(Pl.s 1,It.v (.d (.int .i64 most))),(Pl.s 2,It.v (.d (.int .i64 0))),(Pl.x 0,aJ R.2),
  (Pl.o 6,It.box [TV.c (Value.slice none 0 0),TV.c (Value.slice none 0 0)]),(Pl.s 6,It.v (.ptr (Pl.o 6) 0)),(Pl.o 7,It.box [TV.aB 1000 i.1,TV.c (Value.slice none 0 0)]),(Pl.s 7,It.v (.ptr (Pl.o 7) 0)),
  (Pl.s 8,It.v (.d (.int .i64 R.1))),(Pl.s 9,It.v (.d (.int .i64 (i.1+1)))),(Pl.o 1000,.row 117 2 (dd (rts (cu i.1))) false)]) (fun i=>R.1.toNat-i.1) ⟨0,by omega⟩ ?_ ?_
 ·exact GS.gq (.o 7) 0 1000 (cs:=[TV.c (Value.slice none 0 0),TV.c (Value.slice none 0 0)]) 117 2 (by simp) (by simp) (by simp) (by simp) (by simp[cu,rts])
 ·rintro⟨i,hi⟩;simp -dsimp;refine qM.dec (fun h=>?_) (fun h=>?_)
  ·simp -dsimp[wrap_i64 (n:=(i:Int)+1+1) (by omega) (by omega)];and_intros;all_goals try omega
   exact⟨⟨⟨i+1,by omega⟩,GS.to (by simp[cu,rts,List.range_succ,Rt.cs]),by simp;omega⟩⟩
  ·have hk:R.1=i:=by omega
   simp -dsimp;refine ah.of (fE R.2 kR [1,2,2,5] (by simp) (by simp)) [.x 0] 0 ?_;simp -dsimp[ints];generalize hC:aK R.2 [1,2,2,5]=C;have kC:ak C.2:=by rw[←hC];simpa using kR
   have bC:1≤C.1∧C.1≤5:=by rw[←hC];exact dA (p:=fun x=>1≤x∧x≤5) (by simp) (by simp)
   refine aN.of [] (fun k=>k==0||k==1||k==2||k==6||k==7||k==8||k==9||k==10||k==11||k==12||k==13||k==14||k==15||k==21||k==36||k==47||k==60||k==87||k==89||k==91||k==101||k==112||k==124||k==129||k==141||k==146||k==158||k==163||k==175||k==180) (ι:={z:Int×Tp×List Lk // 2≤z.1∧z.1≤R.1+1∧ak z.2.1∧z.2.2.length≤24*(z.1.toNat-2)∧dS C.1 (R.1+1-2).toNat 2 C.2 []=dS C.1 (R.1+1-z.1).toNat z.1 z.2.1 z.2.2})
    (fun z=>[(Pl.s 0,It.v (.ptr (Pl.x 0) 0)),(Pl.s 1,It.v (.d (.int .i64 most))),(Pl.s 2,It.v (.d (.int .i64 0))),(Pl.x 0,aJ z.1.2.1),
     (Pl.o 6,It.box [TV.c (Value.slice none 0 0),TV.c (Value.slice none 0 0)]),(Pl.s 6,It.v (.ptr (Pl.o 6) 0)),(Pl.o 7,It.box [TV.aB 1000 i,TV.aB 1001 z.1.2.2.length]),(Pl.s 7,It.v (.ptr (Pl.o 7) 0)),
     (Pl.s 8,It.v (.d (.int .i64 R.1))),(Pl.o 1000,.row 117 2 (dd (rts (cu i))) false),(Pl.o 1001,.row 142 5 (dd (dO z.1.2.2)) false),
     (Pl.s 10,It.v (.d (.int .i64 C.1))),(Pl.s 11,It.v (.d (.int .i64 z.1.1)))]) (fun z=>(R.1+1-z.1.1).toNat) ⟨(2,C.2,[]),by omega,by omega,kC,by simp,rfl⟩ ?_ ?_
   ·exact GS.gq (.o 7) 1 1001 (cs:=[TV.aB 1000 i,TV.c (Value.slice none 0 0)]) 142 5 (by simp) (by simp) (by simp) (by simp) (by simp[dO])
   ·rintro⟨⟨b,T0,l0⟩,i1,i2,i3,i4,i5⟩;simp only at i1 i2 i3 i4 i5;simp -dsimp;refine qM.dec (fun hb=>?_) (fun hb=>?_)
    ·have t1:=aS T0 1 (b-1);have t2:=aQ T0 (a:=1) (b:=b-1) (by omega);simp -dsimp[wrap_i64 (n:=b-1) (by omega) (by omega)];refine ah.of (dw T0 i3 1 (b-1) ⟨by omega,by omega⟩ ⟨by omega,by omega⟩ ⟨by omega,by omega⟩ ⟨by omega,by omega⟩) [.x 0] 0 ?_;simp -dsimp;generalize ht:aT T0 1 (b-1)=t at t1 t2⊢;have kt:ak t.2:=by rw[←ht];simpa using i3
     refine ah.of (gK t.2 kt 9 ⟨by omega,by omega⟩ ⟨by omega,by omega⟩) [.x 0] 0 ?_;simp -dsimp;generalize hs:dD t.2 9=s;have ks:ak s.2:=by rw[←hs];simpa using kt
     refine aN.of [] (fun k=>k==0||k==1||k==2||k==6||k==7||k==8||k==9||k==10||k==11||k==12||k==13||k==14||k==15||k==21||k==36||k==47||k==60||k==87||k==89||k==91||k==101||k==112||k==124||k==129||k==141||k==146||k==158||k==163||k==175||k==180) (ι:={z:Int×Tp×List Lk // 1≤z.1∧z.1≤b∧ak z.2.1∧z.2.2.length≤24*(b.toNat-2)+(z.1.toNat-1)∧dV C.1 t.1 s.1 b (b-1).toNat 1 s.2 l0=dV C.1 t.1 s.1 b (b-z.1).toNat z.1 z.2.1 z.2.2})
      (fun z=>[(Pl.s 0,It.v (.ptr (Pl.x 0) 0)),(Pl.s 1,It.v (.d (.int .i64 most))),(Pl.s 2,It.v (.d (.int .i64 0))),(Pl.x 0,aJ z.1.2.1),
       (Pl.o 6,It.box [TV.c (Value.slice none 0 0),TV.c (Value.slice none 0 0)]),(Pl.s 6,It.v (.ptr (Pl.o 6) 0)),(Pl.o 7,It.box [TV.aB 1000 i,TV.aB 1001 z.1.2.2.length]),(Pl.s 7,It.v (.ptr (Pl.o 7) 0)),
       (Pl.s 8,It.v (.d (.int .i64 R.1))),(Pl.o 1000,.row 117 2 (dd (rts (cu i))) false),(Pl.o 1001,.row 142 5 (dd (dO z.1.2.2)) false),
       (Pl.s 10,It.v (.d (.int .i64 C.1))),(Pl.s 11,It.v (.d (.int .i64 b))),(Pl.s 12,It.v (.d (.int .i64 t.1))),(Pl.s 13,It.v (.d (.bool s.1))),(Pl.s 14,It.v (.d (.int .i64 z.1.1)))]) (fun z=>(b-z.1.1).toNat) ⟨(1,s.2,l0),by omega,by omega,ks,by simpa using i4,rfl⟩ ?_ ?_
     ·exact GS.to (by simp)
     ·rintro⟨⟨a,T1,l⟩,j1,j2,j3,j4,j5⟩;simp only at j1 j2 j3 j4 j5;by_cases hab:a<b
      ·have hab':decide (a<b)=true:=by simpa using hab
       by_cases ha:a=t.1
       ·have ha':decide (a=t.1)=true:=by simpa using ha
        rcases (Bool.eq_false_or_eq_true s.1).symm with hs1|hs1
        ·simp -dsimp[hab',ha',hs1];have x1:=aS T1 1 C.1;have x2:=aQ T1 (a:=1) (b:=C.1) (by omega);refine ah.of (dw T1 j3 1 C.1 ⟨by omega,by omega⟩ ⟨by omega,by omega⟩ ⟨by omega,by omega⟩ ⟨by omega,by omega⟩) [.x 0] 0 ?_;simp -dsimp;generalize hx:aT T1 1 C.1=x at x1 x2⊢;have kx:ak x.2:=by rw[←hx];simpa using j3
         have y1:=aS x.2 1 C.1;have y2:=aQ x.2 (a:=1) (b:=C.1) (by omega);refine ah.of (dw x.2 kx 1 C.1 ⟨by omega,by omega⟩ ⟨by omega,by omega⟩ ⟨by omega,by omega⟩ ⟨by omega,by omega⟩) [.x 0] 0 ?_;simp -dsimp;generalize hy:aT x.2 1 C.1=y at y1 y2⊢;have ky:ak y.2:=by rw[←hy];simpa using kx
         refine ah.of (bn y.2 ky 4 ⟨by omega,by omega⟩) [.x 0] 0 ?_;simp -dsimp[wrap_i64 (n:=a+1) (by omega) (by omega)];have e:dI C.1 t.1 s.1 b a T1 l=(l++[⟨a,b,x.1,y.1,(au y.2 4).1⟩],(au y.2 4).2):=by simp[dI,ha',hs1,hx,hy]
         and_intros;all_goals try first|omega|exact⟨by kernel_rfl⟩|(simp;omega)
         exact⟨⟨(a+1,(au y.2 4).2,l++[⟨a,b,x.1,y.1,(au y.2 4).1⟩]),by omega,by omega,by simpa using ky,by simp;omega,by rw[j5,show(b-a).toNat=(b-(a+1)).toNat+1 by omega,dV,e]⟩,GS.to (by simp[dO,Lk.cs,ha',hs1]),by simp;omega⟩
        ·simp -dsimp[hab',ha',hs1];refine ah.of (gK T1 j3 3 ⟨by omega,by omega⟩ ⟨by omega,by omega⟩) [.x 0] 0 ?_;generalize ho:dD T1 3=o;have ko:ak o.2:=by rw[←ho];simpa using j3
         rcases (Bool.eq_false_or_eq_true o.1).symm with ho1|ho1
         ·simp -dsimp[ho1,wrap_i64 (n:=a+1) (by omega) (by omega)];have e:dI C.1 t.1 s.1 b a T1 l=(l,o.2):=by simp[dI,ha',hs1,ho,ho1]
          and_intros;all_goals try first|omega|exact⟨by kernel_rfl⟩|(simp;omega)
          exact⟨⟨(a+1,o.2,l),by omega,by omega,ko,by simp;omega,by rw[j5,show(b-a).toNat=(b-(a+1)).toNat+1 by omega,dV,e]⟩,GS.to (by simp[ha',hs1]),by simp;omega⟩
         ·simp -dsimp[ho1];have x1:=aS o.2 1 C.1;have x2:=aQ o.2 (a:=1) (b:=C.1) (by omega);refine ah.of (dw o.2 ko 1 C.1 ⟨by omega,by omega⟩ ⟨by omega,by omega⟩ ⟨by omega,by omega⟩ ⟨by omega,by omega⟩) [.x 0] 0 ?_;simp -dsimp;generalize hx:aT o.2 1 C.1=x at x1 x2⊢;have kx:ak x.2:=by rw[←hx];simpa using ko
          have y1:=aS x.2 1 C.1;have y2:=aQ x.2 (a:=1) (b:=C.1) (by omega);refine ah.of (dw x.2 kx 1 C.1 ⟨by omega,by omega⟩ ⟨by omega,by omega⟩ ⟨by omega,by omega⟩ ⟨by omega,by omega⟩) [.x 0] 0 ?_;simp -dsimp;generalize hy:aT x.2 1 C.1=y at y1 y2⊢;have ky:ak y.2:=by rw[←hy];simpa using kx
          refine ah.of (bn y.2 ky 4 ⟨by omega,by omega⟩) [.x 0] 0 ?_;simp -dsimp[wrap_i64 (n:=a+1) (by omega) (by omega)];have e:dI C.1 t.1 s.1 b a T1 l=(l++[⟨a,b,x.1,y.1,(au y.2 4).1⟩],(au y.2 4).2):=by simp[dI,ha',hs1,ho,ho1,hx,hy]
          and_intros;all_goals try first|omega|exact⟨by kernel_rfl⟩|(simp;omega)
          exact⟨⟨(a+1,(au y.2 4).2,l++[⟨a,b,x.1,y.1,(au y.2 4).1⟩]),by omega,by omega,by simpa using ky,by simp;omega,by rw[j5,show(b-a).toNat=(b-(a+1)).toNat+1 by omega,dV,e]⟩,GS.to (by simp[dO,Lk.cs,ha',hs1,ho,ho1]),by simp;omega⟩
       ·have ha':decide (a=t.1)=false:=by simpa using ha
        simp -dsimp[hab',ha'];refine ah.of (gK T1 j3 3 ⟨by omega,by omega⟩ ⟨by omega,by omega⟩) [.x 0] 0 ?_;generalize ho:dD T1 3=o;have ko:ak o.2:=by rw[←ho];simpa using j3
        rcases (Bool.eq_false_or_eq_true o.1).symm with ho1|ho1
        ·simp -dsimp[ho1,wrap_i64 (n:=a+1) (by omega) (by omega)];have e:dI C.1 t.1 s.1 b a T1 l=(l,o.2):=by simp[dI,ha',ho,ho1]
         and_intros;all_goals try first|omega|exact⟨by kernel_rfl⟩|(simp;omega)
         exact⟨⟨(a+1,o.2,l),by omega,by omega,ko,by simp;omega,by rw[j5,show(b-a).toNat=(b-(a+1)).toNat+1 by omega,dV,e]⟩,GS.to (by simp[ha']),by simp;omega⟩
        ·simp -dsimp[ho1];have x1:=aS o.2 1 C.1;have x2:=aQ o.2 (a:=1) (b:=C.1) (by omega);refine ah.of (dw o.2 ko 1 C.1 ⟨by omega,by omega⟩ ⟨by omega,by omega⟩ ⟨by omega,by omega⟩ ⟨by omega,by omega⟩) [.x 0] 0 ?_;simp -dsimp;generalize hx:aT o.2 1 C.1=x at x1 x2⊢;have kx:ak x.2:=by rw[←hx];simpa using ko
         have y1:=aS x.2 1 C.1;have y2:=aQ x.2 (a:=1) (b:=C.1) (by omega);refine ah.of (dw x.2 kx 1 C.1 ⟨by omega,by omega⟩ ⟨by omega,by omega⟩ ⟨by omega,by omega⟩ ⟨by omega,by omega⟩) [.x 0] 0 ?_;simp -dsimp;generalize hy:aT x.2 1 C.1=y at y1 y2⊢;have ky:ak y.2:=by rw[←hy];simpa using kx
         refine ah.of (bn y.2 ky 4 ⟨by omega,by omega⟩) [.x 0] 0 ?_;simp -dsimp[wrap_i64 (n:=a+1) (by omega) (by omega)];have e:dI C.1 t.1 s.1 b a T1 l=(l++[⟨a,b,x.1,y.1,(au y.2 4).1⟩],(au y.2 4).2):=by simp[dI,ha',ho,ho1,hx,hy]
         and_intros;all_goals try first|omega|exact⟨by kernel_rfl⟩|(simp;omega)
         exact⟨⟨(a+1,(au y.2 4).2,l++[⟨a,b,x.1,y.1,(au y.2 4).1⟩]),by omega,by omega,by simpa using ky,by simp;omega,by rw[j5,show(b-a).toNat=(b-(a+1)).toNat+1 by omega,dV,e]⟩,GS.to (by simp[dO,Lk.cs,ha',ho,ho1]),by simp;omega⟩
      ·have hab':decide (a<b)=false:=by simpa using hab
       obtain rfl:a=b:=by omega
       simp -dsimp[hab',wrap_i64 (n:=a+1) (by omega) (by omega)];have e:gW C.1 a T0 l0=(l,T1):=by unfold gW;simp only[ht,hs];rw[j5];simp[dV]
       exact⟨⟨(a+1,T1,l),by omega,by omega,j3,by simp;omega,by rw[i5,show(R.1+1-a).toNat=(R.1+1-(a+1)).toNat+1 by omega,dS,e]⟩,GS.to (by simp),by simp;omega⟩
    ·obtain rfl:b=R.1+1:=by omega
     simp -dsimp;refine ah.of (Tn l0 (by omega)) [] 0 ?_;simp -dsimp;refine Fin.of ?_;have hX:dS C.1 (R.1+1-2).toNat 2 C.2 []=(l0,T0):=by rw[i5];simp[dS]
     simp only[dG,hR,hC,hX];simp[hk,cu]
theorem fQ:∀(l:List Rt) (T:Tp),(iy l T).1.length=l.length
 | [],_=>rfl
 | x::l,T=>by simp[iy,fQ l]
theorem fO(T:Tp){most:Int}(hm:1≤most∧most≤24):(bW T most).1.rs.length≤24∧(bW T most).1.ls.length≤1000:=by
 have:=vV T hm;simpa[bW,fQ]using this
theorem sD(rs:List Rt)(len x:Int)(T:Tp)(id:Int)(l:List Ed):ak (aV rs len x T id l).2.2=ak T∧(aV rs len x T id l).1.length≤l.length+1:=by
 unfold aV;simp only;split
 ·simp
 ·split<;>simp
theorem jI(rs:List Rt)(len:Int):∀(o:List Int) (T:Tp) (id:Int) (l:List Ed),ak (aX rs len o T id l).2.2=ak T∧(aX rs len o T id l).1.length≤l.length+o.length
 | [],_,_,_=>⟨rfl,Nat.le_refl _⟩
 | x::o,T,id,l=>by
   rw[aX];obtain⟨h1,h2⟩:=sD rs len x T id l;obtain⟨h3,h4⟩:=jI rs len o (aV rs len x T id l).2.2 (aV rs len x T id l).2.1 (aV rs len x T id l).1;exact⟨h3.trans h1,by simp only[List.length_cons];omega⟩
theorem fV(T:Tp)(rs:List Rt):ak (dh T rs 0).2=ak T∧(dh T rs 0).1.es.length≤rs.length:=by
 have h:=jI rs (aK (au T 3).2 [8,8,16,32,64]).1 (bT (aK (au T 3).2 [8,8,16,32,64]).2 rs.length).1 (bT (aK (au T 3).2 [8,8,16,32,64]).2 rs.length).2 0 [];simp only[dh,bJ,Int.lt_irrefl,if_false];refine⟨h.1.trans (by simp),?_⟩;have h2:=h.2;rw[iK]at h2
 simpa using h2
theorem uG:∀l:List (Int×Pk),l.length≤kZ l
 | []=>by simp
 | q::l=>by
   have:=uG l;rw[qV,List.length_cons];unfold wt;omega
theorem yX(l:List Tb)(q:Int×Pk):kZ (nextQ l q)+1≤wt q.2:=by
 have h0:1≤wt q.2:=by unfold wt;omega
 unfold nextQ;split
 ·simpa[kZ]using h0
 ·rename_i b _;unfold jC;split
  ·simpa[kZ,iC]using h0
  split
  ·simpa[kZ,iC]using h0
  split
  ·simpa[kZ,iC]using h0
  have h:=L_ b q.2 64 iC q.2.bits;have e0:kZ iC.g_=0:=rfl;simp only[iH];unfold wt;rw[Nat.mul_add];omega
theorem rE(l:List Tb)(n:Nat)(t:dQ):mY l n [] t=t:=by cases n<;>rfl
end Go.Proofs

set_option linter.unusedSimpArgs false
namespace Go.Proofs
theorem Fz{g:ay}(hg:g.Ok){f t c:Int}(h:price g.ls f t=some c):∃c',price g.ls t f=some c':=by
 obtain⟨x,hx,h1⟩:=wU h;have h2:=Di hg.Zu (fun _ h=>hg.lab h) hx;rcases h1 with⟨rfl,rfl,_⟩|⟨rfl,rfl,_⟩
 ·exact⟨_,h2.2⟩
 ·exact⟨_,h2.1⟩
theorem E5(g:ay)(s:List Int×List Int)(n:Int):∃r,(jS g s n).1=s.1++r:=by
 unfold jS;split
 ·exact⟨[],by simp⟩
 ·split
  ·exact⟨[],by simp⟩
  ·exact⟨[n],rfl⟩
theorem nT(g:ay):∀(l:List Int) (s:List Int×List Int),∃r,(l.foldl (jS g) s).1=s.1++r
 | [],s=>⟨[],by simp⟩
 | n::l,s=>by
   obtain⟨r1,h1⟩:=E5 g s n;obtain⟨r2,h2⟩:=nT g l (jS g s n);exact⟨r1++r2,by rw[List.foldl_cons,h2,h1,List.append_assoc]⟩
theorem uZ.fold{g:ay}{t f x:Int}(hx:Hr g t f x):∀(l:List Int) (s:List Int×List Int),(∀n∈l,n∈steps g (dist g t) x)→uZ g t f s→
  uZ g t f (l.foldl (jS g) s)∧(∀y∈s.2,y∈(l.foldl (jS g) s).2)∧∀n∈l,if dY g.rs n=true then n∈(l.foldl (jS g) s).2 else n∈(l.foldl (jS g) s).1
 | [],s,_,h=>⟨h,fun _ h=>h,by simp⟩
 | n::l,s,hl,h=>by
   obtain⟨h1,h2,h3⟩:=h.step hx (hl n (by simp));obtain⟨h4,h5,h6⟩:=uZ.fold hx l _ (fun m hm=>hl m (by simp[hm])) h1;rw[List.foldl_cons];refine⟨h4,fun y hy=>h5 y (h2 y hy),fun m hm=>?_⟩;rcases List.mem_cons.1 hm with rfl|hm
   ·split
    ·rename_i hc;rw[if_pos hc]at h3;exact h5 _ h3
    ·rename_i hc;rw[if_neg hc]at h3
     obtain⟨r,hr⟩:=nT g l (jS g s m);rw[hr];exact List.mem_append.2 (.inl h3)
   ·exact h6 m hm
def adZ(g:ay)(t:Int)(i:Nat)(s:List Int×List Int):Prop:=∀j<i,∀x,s.1[j]? = some x→∀n∈steps g (dist g t) x,if dY g.rs n=true then n∈s.2 else n∈s.1
theorem vY{g:ay}{t f:Int}:∀(k i:Nat) (s:List Int×List Int),uZ g t f s→adZ g t i s→i≤s.1.length→g.rs.length+1≤k+i→
  uZ g t f (qo g (dist g t) k i s)∧(∀x∈s.1,x∈(qo g (dist g t) k i s).1)∧∀x∈(qo g (dist g t) k i s).1,∀n∈steps g (dist g t) x,if dY g.rs n=true then n∈(qo g (dist g t) k i s).2 else n∈(qo g (dist g t) k i s).1
 | 0,i,s,h,_,hi,hk=>by
   have:=BG h.nd (fun x hx=>(h.seen x hx).2);omega
 | k+1,i,s,h,hc,hi,hk=>by
   rw[qo];split
   ·rename_i hlt;have hx:s.1[i]? = some s.1[i]:=List.getElem?_eq_getElem hlt;have hxm:=h.seen _ (List.getElem_mem hlt);have e:s.1.getD i 0=s.1[i]:=by rw[List.getD_eq_getElem?_getD,hx];rfl
    rw[e];generalize s.1[i]=x at hx hxm;obtain⟨h1,h2,h3⟩:=uZ.fold hxm.1 (steps g (dist g t) x) s (fun _ h=>h) h;obtain⟨r,hr⟩:=nT g (steps g (dist g t) x) s;have hsub:∀y∈s.1,y∈((steps g (dist g t) x).foldl (jS g) s).1:=fun y hy=>by rw[hr];exact List.mem_append.2 (.inl hy)
    obtain⟨h4,h5,h6⟩:=vY k (i+1) ((steps g (dist g t) x).foldl (jS g) s) h1 (fun j hj y hy n hn=>by
     rw[hr,List.getElem?_append_left (by omega)]at hy
     by_cases ej:j=i
     ·subst ej;rw[hx]at hy;simp at hy;subst hy
      exact h3 n hn
     ·have:=hc j (by omega) y hy n hn;split
      ·rename_i a;rw[if_pos a]at this;exact h2 n this
      ·rename_i a;rw[if_neg a]at this;exact hsub n this) (by rw[hr,List.length_append];omega) (by omega)
    exact⟨h4,fun y hy=>h5 y (hsub y hy),h6⟩
   ·rename_i hlt;refine⟨h,fun _ h=>h,fun x hx n hn=>?_⟩;obtain⟨j,hj,rfl⟩:=List.mem_iff_getElem.1 hx;exact hc j (by omega) _ (List.getElem?_eq_getElem hj) n hn
theorem wB{g:ay}(hg:cZ g=0){f t:Int}(hf:aY g.rs f=true)(ht:aY g.rs t=true)(hne:f≠t){n:Int}:n∈hops g f t↔zA g t f n:=by
 unfold hops;rw[if_pos ⟨hg,hf,ht,hne⟩];obtain⟨h1,h2,h3⟩:=vY (g:=g) (t:=t) (f:=f) (g.rs.length+1) 0 ([f],[]) ⟨by simp,fun x hx=>by simp at hx;subst hx;exact⟨.nil,hf⟩,by simp,by simp⟩ (fun j hj=>by omega) (by simp) (by omega);refine⟨h1.out n,fun⟨x,hx,hn,hc⟩=>?_⟩;have key:∀x,Hr g t f x→x∈(qo g (dist g t) (g.rs.length+1) 0 ([f],[])).1:=fun x hx=>by
  induction hx with
  | nil=>exact h2 f (by simp)
  | via _ hy hc ih=>
    have:=h3 _ ih _ hy
    rwa [if_neg (by simp[hc])]at this
 have:=h3 x (key x hx) n hn
 rwa [if_pos hc]at this
set_option linter.unusedVariables false
theorem dQ.u_(t:dQ):t.app gX=t:=by simp[dQ.app,gX]
theorem dQ.zC(t u v:dQ):(t.app u).app v=t.app (u.app v):=by simp[dQ.app]
noncomputable def Dz(l:List Tb)(k:Nat):List (Int×Pk)→dQ
 | []=>gX
 | q::_=>way l k (q.2.ttl.toNat+1) q
theorem Af(B:BitVec 64):(ku B).Nodup:=List.nodup_range.sublist List.filter_sublist
theorem Gx{p:Pk}(h:p.ok=true){o:Out}(ho:∀k<64,o.loc.getLsbD k=true→p.bits.getLsbD k=true)(r:Int){k:Nat}(hk:k<64):
  (nI r o p).filter (fun d=>d.2.bits.getLsbD k)=if o.loc.getLsbD k=true then [(r,f_ p k)]else []:=by
 have e:(nI r o p).filter (fun d=>d.2.bits.getLsbD k)=((ku o.loc).filter fun j=>decide (j=k)).map fun (j:Nat)=>(r,f_ p j):=by
  unfold nI lg;rw[List.map_map,List.filter_map]
  congr 1
  apply List.filter_congr;intro j hj;obtain⟨h1,h2⟩:=sN.1 hj
  show(f_ p (Int.ofNat j)).bits.getLsbD k=_
  have:=IL h h1 (ho j h1 h2);simp only[Int.ofNat_eq_natCast]at *;rw[this]
  show(1#64<<<j).getLsbD k=_
  rw[j_ h1 hk];by_cases e:k=j
  ·subst e;simp
  ·simp[e,Ne.symm e]
 rw[e,wP (Af _)];by_cases hl:o.loc.getLsbD k=true
 ·rw[if_pos (sN.2 ⟨hk,hl⟩),if_pos hl];rfl
 ·rw[if_neg (fun a=>hl (sN.1 a).2),if_neg hl];rfl
theorem Gy(l:List (Int×BitVec 64))(r:Int)(B:BitVec 64)(k:Nat):
  (if B=0#64 then l else l++[(r,B)]).filter (fun x=>x.2.getLsbD k)=l.filter (fun x=>x.2.getLsbD k)++if B.getLsbD k=true then [(r,B)]else []:=by
 by_cases h:B=0#64
 ·subst h;simp
 ·rw[if_neg h,List.filter_append,List.filter_cons];split<;>simp
theorem step_some{l:List Tb}{q:Int×Pk}{b:Tb}(hF:vG l q.2)(hf:bH l q.1=some b)(t:dQ){k:Nat}(hk:k<64):
  (stepT l q t).at k=(t.at k).app ⟨if(iH b q.2).loc.getLsbD k=true then [(q.1,f_ q.2 k)]else [],((nextQ l q).filter fun c=>c.2.bits.getLsbD k).map (fun c=>(q.1,c.1,c.2.bits)),if(iH b q.2).lost.getLsbD k=true then [(q.1,(iH b q.2).lost)]else []⟩:=by
 have hb:=hF.all b (eY hf).1;obtain⟨h1,h2⟩:=pW hb;have hn:nextQ l q=(iH b q.2).g_:=by simp[nextQ,hf,h1]
 rw[hn];simp only[stepT,hf,h1,dQ.at,dQ.app,List.filter_append];rw[Gx hF.ok (fun k hk a=>by
  rcases (h2.loc k hk).1 a with a|a
  ·simp[iC]at a
  ·exact a.1) q.1 hk,Gy,List.filter_map]
 rfl
theorem XF{l:List Tb}{q:Int×Pk}(hF:vG l q.2)(t:dQ){k:Nat}(hk:k<64)(hq:q.2.bits.getLsbD k=true):
  ((nextQ l q).filter fun c=>c.2.bits.getLsbD k).length≤1∧((stepT l q t).at k).app (Dz l k ((nextQ l q).filter fun c=>c.2.bits.getLsbD k))=(t.at k).app (way l k (q.2.ttl.toNat+1) q):=by
 cases hf:bH l q.1 with
 | none=>
   have hn:nextQ l q = []:=by simp[nextQ,hf]
   rw[hn];refine⟨by simp,?_⟩;simp[stepT,hf,way,dQ.at,dQ.app,Dz,gX,List.filter_append,List.filter_cons,hq]
 | some b=>
   have hb:=hF.all b (eY hf).1;obtain⟨h1,h2⟩:=pW hb;have hn:nextQ l q=(iH b q.2).g_:=by simp[nextQ,hf,h1]
   rw[step_some hF hf t hk,hn,h2.hop hb hk,dQ.zC];have hl:=h2.loc k hk;have hs:=h2.lost k hk;simp only[iC,BitVec.getLsbD_zero,Bool.false_eq_true,false_or,hq,true_and]at hl hs;by_cases c0:aF b q.2 k=0
   ·have l1 :¬(iH b q.2).loc.getLsbD k=true:=fun a=>(hl.1 a).1 c0
    have l2:(iH b q.2).lost.getLsbD k=true:=hs.2 (.inl c0);rw[if_neg l1,if_neg (fun a=>a.2.2.1 c0),if_pos l2];refine⟨by simp,?_⟩;simp[way,hf,c0,Dz,dQ.app,gX]
   by_cases c1:aF b q.2 k=b.r
   ·have l1:(iH b q.2).loc.getLsbD k=true:=hl.2 ⟨c0,c1⟩;have l2 :¬(iH b q.2).lost.getLsbD k=true:=fun a=>by
     rcases hs.1 a with a|a
     ·exact c0 a
     ·exact a.1 c1
    rw[if_pos l1,if_neg (fun a=>a.2.2.2 c1),if_neg l2];refine⟨by simp,?_⟩;simp only[way,hf,if_neg c0,if_pos c1];simp[Dz,dQ.app,gX]
   have l1 :¬(iH b q.2).loc.getLsbD k=true:=fun a=>c1 (hl.1 a).2
   by_cases c2:q.2.ttl=0
   ·have l2:(iH b q.2).lost.getLsbD k=true:=hs.2 (.inr ⟨c1,c2⟩);rw[if_neg l1,if_neg (fun a=>a.2.1 c2),if_pos l2];refine⟨by simp,?_⟩;simp only[way,hf,if_neg c0,if_neg c1,if_pos c2];simp[Dz,dQ.app,gX]
   ·have l2 :¬(iH b q.2).lost.getLsbD k=true:=fun a=>by
     rcases hs.1 a with a|a
     ·exact c0 a
     ·exact c2 a.2
    rw[if_neg l1,if_pos ⟨hq,c2,c0,c1⟩,if_neg l2];refine⟨by simp,?_⟩;have ht:=qA hF.ok;have e:(qJ b q.2 (aF b q.2 k)).ttl.toNat+1=q.2.ttl.toNat:=by simp only[qJ,ji];omega
    rw[way];simp only[hf,if_neg c0,if_neg c1,if_neg c2,Dz,e,List.map_cons,List.map_nil]
theorem Uf{l:List Tb}{q:Int×Pk}(hF:vG l q.2)(t:dQ){k:Nat}(hk:k<64)(hq :¬q.2.bits.getLsbD k=true):
  ((nextQ l q).filter fun c=>c.2.bits.getLsbD k) = []∧(stepT l q t).at k=t.at k:=by
 cases hf:bH l q.1 with
 | none=>
   have hn:nextQ l q = []:=by simp[nextQ,hf]
   rw[hn];refine⟨by simp,?_⟩;simp[stepT,hf,dQ.at,List.filter_append,List.filter_cons,hq]
 | some b=>
   have hb:=hF.all b (eY hf).1;obtain⟨h1,h2⟩:=pW hb;have hn:nextQ l q=(iH b q.2).g_:=by simp[nextQ,hf,h1]
   have hl:=h2.loc k hk;have hs:=h2.lost k hk;simp only[iC,BitVec.getLsbD_zero,Bool.false_eq_true,false_or,hq,false_and,iff_false]at hl hs;rw[step_some hF hf t hk,hn,h2.hop hb hk,if_neg (fun a=>hq a.1),if_neg hl,if_neg hs];exact⟨rfl,dQ.u_ _⟩
theorem BD(l:List Tb){k:Nat}(hk:k<64):∀(n:Nat) (Q:List (Int×Pk)) (t:dQ),kZ Q≤n→(∀q∈Q,vG l q.2)→(Q.filter fun c=>c.2.bits.getLsbD k).length≤1→
  (mY l n Q t).at k=(t.at k).app (Dz l k (Q.filter fun c=>c.2.bits.getLsbD k))
 | 0,Q,t,h,_,_=>by
   have:=uG Q;obtain rfl:Q = []:=List.length_eq_zero_iff.1 (by omega);simp[rE,Dz,dQ.u_]
 | n+1,[],t,_,_,_=>by simp[rE,Dz,dQ.u_]
 | n+1,q::Q,t,h,hF,h1=>by
   have hq:=yX l q;rw[qV]at h
   have MB:=hF q (by simp);have hF':∀c∈Q++nextQ l q,vG l c.2:=fun c hc=>by
    rcases List.mem_append.1 hc with hc|hc
    ·exact hF c (by simp[hc])
    ·exact II MB c hc
   rw[mY];have hw:kZ (Q++nextQ l q)≤n:=by rw[A_];omega
   by_cases hb:q.2.bits.getLsbD k=true
   ·rw[List.filter_cons,if_pos hb]at h1⊢
    simp only[List.length_cons]at h1;have hQ:Q.filter (fun c=>c.2.bits.getLsbD k) = []:=List.length_eq_zero_iff.1 (by omega);obtain⟨a1,a2⟩:=XF MB t hk hb;rw[BD l hk n _ _ hw hF' (by rw[List.filter_append,hQ];simpa using a1),List.filter_append,hQ,List.nil_append,a2];rfl
   ·rw[List.filter_cons,if_neg hb]at h1⊢
    obtain⟨a1,a2⟩:=Uf MB t hk hb;rw[BD l hk n _ _ hw hF' (by rw[List.filter_append,a1,List.append_nil];exact h1),List.filter_append,a1,List.append_nil,a2]
theorem aa4{l:List Tb}{p:Pk}(hF:vG l p)(r:Int){k:Nat}(hk:k<64)(hb:p.bits.getLsbD k=true):(mY l (wt p) [(r,p)] gX).at k=way l k (p.ttl.toNat+1) (r,p):=by
 rw[BD l hk _ _ _ (by simp[kZ]) (by simpa using hF) (by simp[List.filter_cons];split<;>simp)];simp[List.filter_cons,hb,Dz,dQ.at,gX,dQ.app]
theorem XB{l:List Tb}{p:Pk}(hF:vG l p)(r:Int){k:Nat}(hk:k<64)(hb :¬p.bits.getLsbD k=true):(mY l (wt p) [(r,p)] gX).at k=gX:=by
 rw[BD l hk _ _ _ (by simp[kZ]) (by simpa using hF) (by simp[List.filter_cons,hb])];simp[List.filter_cons,hb,Dz,dQ.at,gX,dQ.app]
def edges(r:Int):List Int→List (Int×Int)
 | []=>[]
 | h::ws=>(r,h)::edges h ws
theorem Jt(p:Pk)(m:BitVec 64)(k:Nat):vZ (ji p m) k=vZ p k:=rfl
theorem IV{p:Pn}(h:d_ p=true):p.es.Pairwise (fun x y=>x.id<y.id):=by
 simp only[d_,decide_eq_true_eq]at h;obtain⟨_,h2,_⟩:=h;have hst:∀i (hi:i+1<p.es.length),p.es[i].id<p.es[i+1].id:=fun i hi=>by
  have h3:=h2 (i+1) hi;simp only[LD,gid,KA,Bool.and_eq_true,Bool.or_eq_true,decide_eq_true_eq,Nat.add_sub_cancel]at h3;have h4:=h3.2.2;rw[List.getD_eq_getElem?_getD,List.getD_eq_getElem?_getD,List.getElem?_eq_getElem hi,List.getElem?_eq_getElem (by omega)]at h4
  simpa using h4
 rw[List.pairwise_iff_getElem];intro i j hi hj hij;obtain⟨d,rfl⟩:∃d,j=i+1+d:=⟨j-(i+1),by omega⟩
 clear hij
 induction d with
 | zero=>exact hst i hj
 | succ d ih=>
   exact Int.lt_trans (ih (by omega)) (hst (i+1+d) (by omega))
theorem Fq{p:Pn}(h:d_ p=true){x y:Ed}(hx:x∈p.es)(hy:y∈p.es)(e:x.id=y.id):x=y:=by
 obtain⟨i,hi,rfl⟩:=List.mem_iff_getElem.1 hx;obtain⟨j,hj,rfl⟩:=List.mem_iff_getElem.1 hy;have hp:=List.pairwise_iff_getElem.1 (IV h);rcases Nat.lt_trichotomy i j with hlt|rfl|hlt
 ·have:=hp i j hi hj hlt;omega
 ·rfl
 ·have:=hp j i hj hi hlt;omega
theorem wM{g:ay}(hg:g.Ok){r:Int}(h:dY g.rs r=true):aY g.rs r=true:=by
 obtain⟨x,hx,rfl,_⟩:=(xw hg).1 h;exact dH.2 (List.mem_map_of_mem hx)
theorem BX{g:ay}(hg:g.Ok)(p:Pn)(r:Int):bH (tabs g p g.rs) r=if dY g.rs r=true then some (jE g p r)else none:=by
 split
 ·rename_i h;obtain⟨x,hx,rfl,hc⟩:=(xw hg).1 h;refine r_ (x:=jE g p x.id) (List.mem_map.2 ⟨x,List.mem_filter.2 ⟨hx,hc⟩,rfl⟩) (by simp[jE]) (fun y hy e=>?_);obtain⟨z,hz,rfl⟩:=List.mem_map.1 hy;have:z.id=x.id:=of_decide_eq_true e;rw[this]
 ·rename_i h;rw[bH,List.find?_eq_none];intro y hy;obtain⟨z,hz,rfl⟩:=List.mem_map.1 hy;obtain⟨h1,h2⟩:=List.mem_filter.1 hz;intro e;exact h ((xw hg).2 ⟨z,h1,of_decide_eq_true e,h2⟩)
theorem EI{g:ay}{p:Pn}(hp:d_ p=true){e:Ed}(he:e∈p.es)(r:Int):rowOf (jE g p r) e.id=some (uS g r e):=
 r_ (List.mem_map_of_mem he) (by simp[uS]) (fun y hy h=>by
  obtain⟨z,hz,rfl⟩:=List.mem_map.1 hy;have:z.id=e.id:=of_decide_eq_true h;rw[Fq hp hz he this])
theorem zG{g:ay}{p:Pn}{id:Int}(h:∀e∈p.es,e.id≠id)(r:Int):rowOf (jE g p r) id=none:=by
 rw[rowOf,List.find?_eq_none];intro y hy;obtain⟨z,hz,rfl⟩:=List.mem_map.1 hy;exact fun a=>h z hz (of_decide_eq_true a)
theorem MG{x:Rw}{p:Int}(h:x.nx≠[])(hz:∀n∈x.nx,n≠0):og x p∈x.nx:=by
 have hl:x.nx.length≠0:=fun e=>h (List.length_eq_zero_iff.1 e)
 rw[og,if_neg hl];have h1:(p%x.nx.length).toNat<x.nx.length:=by
  have:=Int.emod_lt_of_pos p (b:=x.nx.length) (by omega);have:=Int.emod_nonneg p (b:=x.nx.length) (by omega);omega
 rw[List.getD_eq_getElem?_getD,List.getElem?_eq_getElem h1];exact List.getElem_mem h1
theorem BI{g:ay}(hg:cZ g=0){p:Pn}(hp:d_ p=true){e:Ed}(he:e∈p.es){r:Int}(hr:aY g.rs r=true)(pl:Int):
  (e.r=r∧mG (jE g p r) e.id pl=r)∨(e.r≠r∧dY g.rs e.r=true∧dst g e.r r<far∧zA g e.r r (mG (jE g p r) e.id pl))∨
  (e.r≠r∧(dY g.rs e.r=false∨dst g e.r r=far)∧mG (jE g p r) e.id pl=0):=by
 have hO:=aU hg;unfold mG;rw[EI hp he,Option.getD_some];by_cases e1:e.r=r
 ·refine .inl ⟨e1,?_⟩;simp only[uS,if_pos e1,og];simp
 ·by_cases hc:dY g.rs e.r=true
  ·have hh:=wM hO hc;have hrow:(uS g r e).nx=hops g r e.r:=by simp only[uS,if_neg e1,if_pos (show cZ g=0∧_ from⟨hg,hc⟩)]
   by_cases hd:dst g e.r r<far
   ·obtain⟨n,hn⟩:=zA.some hO hr hh hc (Ne.symm e1) hd;refine .inr (.inl ⟨e1,hc,hd,?_⟩);have hm:=MG (x:=uS g r e) (p:=pl) (by
     rw[hrow];exact List.ne_nil_of_mem ((wB hg hr hh (Ne.symm e1)).2 hn)) (fun x hx=>by
     rw[hrow]at hx
     have:=(Qn g r e.r).2 x hx;have:=hO.id this.1;unfold DJ at this;omega)
    rw[hrow]at hm
    exact(wB hg hr hh (Ne.symm e1)).1 hm
   ·refine .inr (.inr ⟨e1,.inr ?_,?_⟩)
    ·have:=rZ hO e.r r;omega
    ·have:hops g r e.r = []:=by
      cases hl:hops g r e.r with
      | nil=>rfl
      | cons n l=>
        have:=((wB hg hr hh (Ne.symm e1)).1 (show n∈hops g r e.r by rw[hl];simp)).near hO;exact absurd this.2.1 hd
     rw[og,hrow,this];rfl
  ·refine .inr (.inr ⟨e1,.inl (by simpa using hc),?_⟩);simp only[uS,if_neg e1,if_neg (show ¬(cZ g=0∧dY g.rs e.r=true) from fun a=>hc a.2),og];simp
def XP(s:List Int)(n:Int):List Int:=if mF s n=true then s else s++[n]
structure ArI(g:ay)(r:Int)(s:List Int):Prop where
 nd:s.Nodup
 all:∀x∈s,aY g.rs x=true∧∃k v,Wk g r k x v
theorem ArI.fold{g:ay}(hg:g.Ok){r:Int}{x:Int}{k:Nat}{v:Int}(hw:Wk g r k x v):∀(l s:List Int),(∀n∈l,n∈near g x)→ArI g r s→ArI g r (l.foldl XP s)
 | [],_,_,h=>h
 | n::l,s,hl,h=>by
   rw[List.foldl_cons];refine ArI.fold hg hw l _ (fun m hm=>hl m (by simp[hm])) ?_;unfold XP;split
   ·exact h
   ·rename_i hn;have hni:n∉s:=by simpa[mF]using hn
    refine⟨List.nodup_append.2 ⟨h.nd,by simp,fun a ha b hb=>by simp at hb;subst hb;exact fun e=>hni (e▸ha)⟩,fun y hy=>?_⟩;rcases List.mem_append.1 hy with hy|hy
    ·exact h.all y hy
    ·simp at hy;subst hy;have hnr:=hl y (by simp);obtain⟨c,hc⟩:=(Nb hg).1 hnr;obtain⟨c',hc'⟩:=Fz hg hc;exact⟨Na hnr,k+1,_,.cons hc' hw⟩
end Go.Proofs
