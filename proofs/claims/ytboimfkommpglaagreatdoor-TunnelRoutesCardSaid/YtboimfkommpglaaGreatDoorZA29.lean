/-
  What functions of the program compute, stated as contracts over plain data; the conditions of each stand in its own statement.
-/
import Derived.Test.YtboimfkommpglaaGreatDoorZA28
import Derived.Test.YtboimfkommpglaaGreatDoorZA20
import Derived.Test.YtboimfkommpglaaGreatDoorZA13
import Derived.Test.YtboimfkommpglaaGreatDoorZA17
import Derived.Test.YtboimfkommpglaaGreatDoorZA19
import Derived.Test.YtboimfkommpglaaGreatDoorZA21
import Derived.Test.YtboimfkommpglaaGreatDoorZA12
set_option linter.unusedSimpArgs false
set_option linter.unusedVariables false
set_option maxRecDepth 100000
set_option maxHeartbeats 16000000
namespace Go.Proofs
open Go Go.Tr
def EC(g:ay)(l:List Tb)(p:Pk)(r:Int):Int:=match bH l r with
 | none=>4
 | some b=>if aY g.rs r=false then 4 else if p.mode=2 then 7 else if p.bF≠b.sd∨p.len≠b.len then 8 else 0
theorem xW(g:ay)(l:List Tb)(p:Pk)(r:Int):mZ g l p r=if cZ g≠0∨nR l≠0∨p.ok=false then(gX,1)else if EC g l p r=0 then(runT g l r p,0)else(gX,EC g l p r):=by
 unfold mZ EC;split
 ·rfl
 ·cases bH l r with
  | none=>simp
  | some b=>
    simp only;split
    ·simp
    ·split
     ·simp
     ·split<;>simp
theorem ahF(g:ay)(hs:g.Sm)(h0:cZ g=0)(l:List Tb)(hl:DL l)(p:Pk)(r:Int):
  Contract Tryz.prog 114 [aH g,.d (.sl (oq l)),dX p,.d (.int .i64 r)] [] (.d (.int .i64 (EC g l p r))) [] []:=by
 have h1:=aeD l hl r;have h2:=agh g hs r;simp only[aH,h0,decide_true,Bool.true_and]at h2;simp only[su,bZ]at h1;obtain⟨w,hw⟩:∃w,w=EC g l p r:=⟨_,rfl⟩
 rw[←hw];unfold EC at hw;refine aj Tryz.func114 rfl (fun E0=>?_);refine cO.sound (g:=.mk) (ow:=[]) (kp:=(fun k=>k==0||k==1||k==2||k==3||k==4||k==6||k==8||k==9||k==10||k==17||k==26||k==30)) ?_;rw[Tryz.ntmps114];simp -dsimp[aH,dX,Pk.cs];refine ah.of h1 [] 0 ?_;cases hfd:bH l r with
 | none=>
   rw[hfd]at hw
   simp only at hw;simp -dsimp;and_intros;all_goals try first|rfl|omega|exact⟨by kernel_rfl⟩
   refine Fin.of ?_;simp[hw]
 | some b=>
   rw[hfd]at hw
   simp only at hw;rcases (Bool.eq_false_or_eq_true (aY g.rs r)).symm with c3|c3
   ·rw[if_pos c3]at hw
    simp -dsimp;and_intros;all_goals try first|rfl|omega|exact⟨by kernel_rfl⟩
    refine ah.of h2 [] 0 ?_;simp -dsimp[c3];and_intros;all_goals try first|rfl|omega|exact⟨by kernel_rfl⟩
    refine Fin.of ?_;simp[hw]
   rw[if_neg (by simp[c3])]at hw
   simp -dsimp;and_intros;all_goals try first|rfl|omega|exact⟨by kernel_rfl⟩
   refine ah.of h2 [] 0 ?_;by_cases c4:p.mode=2
   ·rw[if_pos c4]at hw
    simp -dsimp[c3,eq_true c4];and_intros;all_goals try first|rfl|omega|exact⟨by kernel_rfl⟩
    refine Fin.of ?_;simp[hw]
   rw[if_neg c4]at hw
   by_cases c5:p.bF=b.sd
   case neg=>
    rw[if_pos (.inl c5)]at hw
    simp -dsimp[c3,eq_false c4,eq_false c5];and_intros;all_goals try first|rfl|omega|exact⟨by kernel_rfl⟩
    refine Fin.of ?_;simp[hw]
   by_cases c6:p.len=b.len
   case neg=>
    rw[if_pos (.inr c6)]at hw
    simp -dsimp[c3,eq_false c4,eq_true c5,eq_false c6];and_intros;all_goals try first|rfl|omega|exact⟨by kernel_rfl⟩
    refine Fin.of ?_;simp[hw]
   rw[if_neg (by simp[c5,c6])]at hw
   simp -dsimp[c3,eq_false c4,eq_true c5,eq_true c6];and_intros;all_goals try first|rfl|omega|exact⟨by kernel_rfl⟩
   refine Fin.of ?_;simp[hw]
theorem Lc(g:ay)(hs:g.Sm)(l:List Tb)(hl:DL l)(p:Pk)(r:Int):
  Contract Tryz.prog 41 [aH g,.d (.sl (oq l)),dX p,.d (.int .i64 r)] [] (.rG [qG (mZ g l p r).1,.d (.int .i64 (mZ g l p r).2)]) [] []:=by
 have h1:=FQ g hs.r hs.l;have h2:=XZ l hl;have h3:=FU p;simp only[aH]at h1;simp only[dX,Pk.cs,List.map]at h3;obtain⟨w,hw⟩:∃w,w=mZ g l p r:=⟨_,rfl⟩
 rw[←hw];rw[xW]at hw
 refine aj Tryz.func41 rfl (fun E0=>?_);refine cO.sound (g:=.mk) (ow:=[]) (kp:=(fun k=>k==0||k==1||k==2||k==3||k==4||k==5||k==6||k==8||k==9||k==10||k==23||k==31)) ?_;rw[Tryz.ntmps41];simp -dsimp[aH,dX,Pk.cs];refine ah.of h1 [] 0 ?_;by_cases c0:cZ g=0
 case neg=>
  rw[if_pos (.inl c0)]at hw
  simp -dsimp[c0];and_intros;all_goals try first|rfl|omega|exact⟨by kernel_rfl⟩
  refine Fin.box (.o 8) rfl ?_;simp -dsimp;refine Fin.of ?_;simp[hw,qG,gX]
 simp -dsimp[c0];and_intros;all_goals try first|rfl|omega|exact⟨by kernel_rfl⟩
 refine ah.of h2 [] 0 ?_;by_cases c1:nR l=0
 case neg=>
  rw[if_pos (.inr (.inl c1))]at hw
  simp -dsimp[c1];and_intros;all_goals try first|rfl|omega|exact⟨by kernel_rfl⟩
  refine Fin.box (.o 8) rfl ?_;simp -dsimp;refine Fin.of ?_;simp[hw,qG,gX]
 simp -dsimp[c1,Pk.cs];and_intros;all_goals try first|rfl|omega|exact⟨by kernel_rfl⟩
 refine ah.of h3 [] 0 ?_;rcases (Bool.eq_false_or_eq_true p.ok).symm with c2|c2
 ·rw[if_pos (.inr (.inr c2))]at hw
  simp -dsimp[c2];and_intros;all_goals try first|rfl|omega|exact⟨by kernel_rfl⟩
  refine Fin.box (.o 8) rfl ?_;simp -dsimp;refine Fin.of ?_;simp[hw,qG,gX]
 rw[if_neg (by simp[c0,c1,c2])]at hw
 have h4:=ahF g hs c0 l hl p r;have h5:=ahS g hs l hl p c2 r;simp only[aH,dX,Pk.cs,List.map]at h4 h5;generalize EC g l p r=sv at h4 hw;generalize runT g l r p=tr at h5 hw;simp only[qG]at h5;simp -dsimp[c2,Pk.cs];and_intros;all_goals try first|rfl|omega|exact⟨by kernel_rfl⟩
 refine ah.of h4 [] 0 ?_;by_cases c3:sv=0
 case neg=>
  rw[if_neg c3]at hw
  simp -dsimp[c3];and_intros;all_goals try first|rfl|omega|exact⟨by kernel_rfl⟩
  refine Fin.box (.o 8) rfl ?_;simp -dsimp;refine Fin.of ?_;simp[hw,qG,gX]
 rw[if_pos c3]at hw
 simp -dsimp[c3,Pk.cs];and_intros;all_goals try first|rfl|omega|exact⟨by kernel_rfl⟩
 refine ah.of h5 [.o 4,.o 5] 0 ?_;simp -dsimp;and_intros;all_goals try first|rfl|omega|exact⟨by kernel_rfl⟩
 refine Fin.of ?_;simp[hw,qG]
theorem uP(T:Tp)(hT:ak T)(rs:List Rt)(ls:List Lk)(hr:1≤rs.length∧rs.length≤1000):Contract Tryz.prog 19 [.ptr (.x 0) 0,.agg [.d (.sl (rts rs)),.d (.sl (dO ls))],.d (.int .i64 0)] [aJ T] (.d (.int .i64 (rs.getD (au T rs.length).1.toNat ⟨0,false⟩).id)) [aJ (au T rs.length).2] []:=by
 have hr0 :¬rs.length=0:=by omega
 have hrn :¬rs = []:=fun h=>by simp[h]at hr0
 refine aj Tryz.func19 rfl (fun E0=>?_);refine cO.sound (g:=.mk) (ow:=[]) (kp:=(fun k=>k==0||k==1||k==2||k==4||k==6||k==19)) ?_;rw[Tryz.ntmps19];simp -dsimp[hrn];try refine⟨?_,⟨by kernel_rfl⟩⟩
 refine ah.of (bn T hT rs.length ⟨by omega,by omega⟩) [.x 0] 0 ?_;have m1:=aC T rs.length;have m2:=bg T (n:=rs.length) (by omega);generalize au T rs.length=q at m1 m2⊢;obtain⟨k,hk⟩:∃k:Nat,q.1=k:=⟨q.1.toNat,by omega⟩
 have hkl:k<rs.length:=by omega
 have hx:rs[k]? = some rs[k]:=List.getElem?_eq_getElem hkl;generalize rs[k]=x at hx;have hx':=fF hx;rw[hk];simp -dsimp[hx',Rt.cs];and_intros;all_goals try first|rfl|omega|exact⟨by kernel_rfl⟩
 refine Fin.of ?_;simp[hx]
theorem JG(f:Fr)(hf:f.rt.length≤1000000):Contract Tryz.prog 26 [xK f,xK f] [] (.d (.bool true)) [] []:=by
 have h1:=yU f.rt f.rt hf;simp only[decide_true,ints]at h1;refine aj Tryz.func26 rfl (fun E0=>?_);refine cO.sound (g:=.mk) (ow:=[]) (kp:=(fun k=>k==0||k==1||k==2||k==3||k==4)) ?_;rw[Tryz.ntmps26];simp -dsimp[xK,vH,ints,Pk.cs,bv];and_intros;all_goals try first|rfl|omega|exact⟨by kernel_rfl⟩
 refine ah.of h1 [] 0 ?_;simp -dsimp;and_intros;all_goals try first|rfl|omega|exact⟨by kernel_rfl⟩
 refine Fin.of ?_;simp
theorem aja(l:List Lk)(hl:l.length≤1000):Contract Tryz.prog 76 [.d (.sl (dO l))] [] (.aB 3 l.length) [] [(3,.row 142 5 (dd (dO (jO l []))) false)]:=by
 refine aj Tryz.func76 rfl (fun E0=>?_);refine cO.sound (g:=.mk) (ow:=[]) (kp:=(fun k=>k==0||k==2||k==3||k==4||k==5||k==6||k==10||k==55)) ?_;rw[Tryz.ntmps76];simp -dsimp;refine aN.of [] (fun k=>k==0||k==2||k==3||k==4||k==5||k==6||k==10||k==55) (ι:={i:Nat×List Lk // i.1≤l.length∧i.2.length=i.1∧jO l []=jO (l.drop i.1) i.2}) (fun i=>[(Pl.s 0,It.v (.d (.sl (dO l)))),
    (Pl.s 2,It.v (.c (Value.slice none 0 0))),(Pl.s 3,It.v (.aB 3 i.1.2.length)),(Pl.o 3,.row 142 5 (dd (dO i.1.2)) false),
    (Pl.s 4,It.v (.d (.int .i64 i.1.1)))]) (fun i=>l.length-i.1.1) ⟨(0,[]),by simp,rfl,rfl⟩ ?_ ?_
 ·exact GS.own' (k:=3) 142 5 (by simp) (by simp) (by simp[dO])
 ·rintro⟨⟨i,out⟩,h1,h2,h3⟩;simp only at h1 h2 h3;simp -dsimp;refine qM.dec (fun h=>?_) (fun h=>?_)
  ·have hi:i<l.length:=by simpa using h
   obtain⟨x,hx⟩:∃x,l[i]? = some x:=⟨l[i],List.getElem?_eq_getElem hi⟩
   have hx':=MQ hx;have hdl:l.drop i=x::l.drop (i+1):=by rw[List.getElem?_eq_some_iff]at hx;obtain⟨_,rfl⟩:=hx;exact List.drop_eq_getElem_cons _
   simp -dsimp;refine aN.of [] (fun k=>k==0||k==2||k==3||k==4||k==5||k==6||k==10||k==55) (ι:={p:Nat // p≤out.length∧bU x out=p+bU x (out.drop p)}) (fun p=>[(Pl.s 0,It.v (.d (.sl (dO l)))),
    (Pl.s 2,It.v (.c (Value.slice none 0 0))),(Pl.s 3,It.v (.d (.sl (dO out)))),(Pl.s 4,It.v (.d (.int .i64 i))),(Pl.s 5,It.v (.d (.int .i64 p.1)))]) (fun p=>out.length-p.1) ⟨0,by omega,by simp⟩ ?_ ?_
   ·exact GS.J9 3 (by simp)
   ·rintro⟨p,p1,p2⟩;by_cases hp:p<out.length
    ·obtain⟨y,hy⟩:∃y,out[p]? = some y:=⟨out[p],List.getElem?_eq_getElem hp⟩
     have hy':=MQ hy;have hd:out.drop p=y::out.drop (p+1):=by rw[List.getElem?_eq_some_iff]at hy;obtain⟨_,rfl⟩:=hy;exact List.drop_eq_getElem_cons _
     by_cases c1:y.a<x.a
     ·simp -dsimp[hp,hi,hy',hx',Lk.cs,c1,wrap_i64 (n:=(p:Int)+1) (by omega) (by omega)];refine⟨⟨⟨p+1,by omega,?_⟩,GS.to (by simp),by simp;omega⟩,⟨by kernel_rfl⟩⟩;rw[p2,hd,bU,if_pos (by simp[Lk.before,c1])];omega
     ·by_cases c2:y.a=x.a
      ·by_cases c3:y.b<x.b
       ·simp -dsimp[hp,hi,hy',hx',Lk.cs,c1,c2,c3,wrap_i64 (n:=(p:Int)+1) (by omega) (by omega)];refine⟨⟨⟨p+1,by omega,?_⟩,GS.to (by simp),by simp;omega⟩,⟨by kernel_rfl⟩⟩;rw[p2,hd,bU,if_pos (by simp[Lk.before,c2,c3])];omega
       ·have hq:bU x out=p:=by rw[p2,hd,bU,if_neg (by simp[Lk.before,c2,c3])];omega
        simp -dsimp[hp,hi,hy',c1,c2,c3,hx',Lk.cs,wrap_i64 (n:=(i:Int)+1) (by omega) (by omega)];and_intros;all_goals try first|omega|exact⟨by kernel_rfl⟩|exact jo out|exact kJ (jo out)|exact ni (jo out)|exact ni (kJ (jo out))|(simp;omega)
        refine⟨⟨(i+1,out.take p++[x]++out.drop p),by omega,by simp;omega,?_⟩,?_,by simp;omega⟩
        ·rw[h3,hdl,jO,hq]
        ·have hn:min p out.length+1+(out.length-p)=i+1:=by omega
         have hn2:(List.take p out++[x]++List.drop p out).length=i+1:=by simp;omega
         have hd2:dd (List.take p (dO out))++[TV.d (.int .i64 x.a),TV.d (.int .i64 x.b),TV.d (.int .i64 x.ca),TV.d (.int .i64 x.cb),TV.d (.int .i64 x.cap)]::dd (List.drop p (List.take out.length (dO out)))=dd (dO (List.take p out++[x]++List.drop p out)):=by
          simp[dd,dO,Lk.cs,List.take_of_length_le]
         rw[hn,hd2];simp only[hn2];generalize List.take p out++[x]++List.drop p out=afz;exact(GS.to (l':=[(Pl.s 0,It.v (.d (.sl (dO l)))),(Pl.s 2,It.v (.c (Value.slice none 0 0))),(Pl.s 3,It.v (.aB 62 (i+1))),(Pl.o 62,.row 142 5 (dd (dO afz)) false),(Pl.s 4,It.v (.d (.int .i64 (↑i+1))))]) (by simp)).trans (GS.ren' 62 3 (by decide) (by simp) (by simp))
      ·have hq:bU x out=p:=by rw[p2,hd,bU,if_neg (by simp[Lk.before,c1,c2])];omega
       simp -dsimp[hp,hi,hy',c1,c2,hx',Lk.cs,wrap_i64 (n:=(i:Int)+1) (by omega) (by omega)];and_intros;all_goals try first|omega|exact⟨by kernel_rfl⟩|exact jo out|exact kJ (jo out)|exact ni (jo out)|exact ni (kJ (jo out))|(simp;omega)
       refine⟨⟨(i+1,out.take p++[x]++out.drop p),by omega,by simp;omega,?_⟩,?_,by simp;omega⟩
       ·rw[h3,hdl,jO,hq]
       ·have hn:min p out.length+1+(out.length-p)=i+1:=by omega
        have hn2:(List.take p out++[x]++List.drop p out).length=i+1:=by simp;omega
        have hd2:dd (List.take p (dO out))++[TV.d (.int .i64 x.a),TV.d (.int .i64 x.b),TV.d (.int .i64 x.ca),TV.d (.int .i64 x.cb),TV.d (.int .i64 x.cap)]::dd (List.drop p (List.take out.length (dO out)))=dd (dO (List.take p out++[x]++List.drop p out)):=by
         simp[dd,dO,Lk.cs,List.take_of_length_le]
        rw[hn,hd2];simp only[hn2];generalize List.take p out++[x]++List.drop p out=afz;exact(GS.to (l':=[(Pl.s 0,It.v (.d (.sl (dO l)))),(Pl.s 2,It.v (.c (Value.slice none 0 0))),(Pl.s 3,It.v (.aB 62 (i+1))),(Pl.o 62,.row 142 5 (dd (dO afz)) false),(Pl.s 4,It.v (.d (.int .i64 (↑i+1))))]) (by simp)).trans (GS.ren' 62 3 (by decide) (by simp) (by simp))
    ·have hq:bU x out=p:=by rw[p2,List.drop_eq_nil_of_le (by omega),bU];omega
     simp -dsimp[hp,hi,hx',Lk.cs,wrap_i64 (n:=(i:Int)+1) (by omega) (by omega)];and_intros;all_goals try first|omega|exact⟨by kernel_rfl⟩|exact jo out|exact kJ (jo out)|exact ni (jo out)|exact ni (kJ (jo out))|(simp;omega)
     refine⟨⟨(i+1,out.take p++[x]++out.drop p),by omega,by simp;omega,?_⟩,?_,by simp;omega⟩
     ·rw[h3,hdl,jO,hq]
     ·have hn:min p out.length+1+(out.length-p)=i+1:=by omega
      have hn2:(List.take p out++[x]++List.drop p out).length=i+1:=by simp;omega
      have hd2:dd (List.take p (dO out))++[TV.d (.int .i64 x.a),TV.d (.int .i64 x.b),TV.d (.int .i64 x.ca),TV.d (.int .i64 x.cb),TV.d (.int .i64 x.cap)]::dd (List.drop p (List.take out.length (dO out)))=dd (dO (List.take p out++[x]++List.drop p out)):=by
       simp[dd,dO,Lk.cs,List.take_of_length_le]
      rw[hn,hd2];simp only[hn2];generalize List.take p out++[x]++List.drop p out=afz;exact(GS.to (l':=[(Pl.s 0,It.v (.d (.sl (dO l)))),(Pl.s 2,It.v (.c (Value.slice none 0 0))),(Pl.s 3,It.v (.aB 62 (i+1))),(Pl.o 62,.row 142 5 (dd (dO afz)) false),(Pl.s 4,It.v (.d (.int .i64 (↑i+1))))]) (by simp)).trans (GS.ren' 62 3 (by decide) (by simp) (by simp))
  ·simp -dsimp;refine Fin.of ?_;have:l.drop i = []:=List.drop_eq_nil_of_le (by simpa using h);have hli:out.length=l.length:=by have:=(show ¬i<l.length by simpa using h);omega
   simp[h3,this,jO,hli]
def spR(g:ay)(T:Tp):ay×Tp:=(⟨g.rs++[⟨(aK T [0,1,99,100,-1]).1,false⟩],g.ls⟩,(aK T [0,1,99,100,-1]).2)
def spL(g:ay)(T:Tp):ay×Tp:=(⟨g.rs,g.ls++[⟨(au T 4).1,(au (au T 4).2 4).1,1,1,0⟩]⟩,(au (au T 4).2 4).2)
def Tz(f:Lk→Int→Lk)(g:ay)(T:Tp):ay×Tp:=
 if 0<g.ls.length then(⟨g.rs,g.ls.set (au T g.ls.length).1.toNat (f (g.ls.getD (au T g.ls.length).1.toNat ⟨0,0,0,0,0⟩) (iY (au T g.ls.length).2).1)⟩,(iY (au T g.ls.length).2).2)else(g,T)
def spD(g:ay)(T:Tp):ay×Tp:=
 if 0<g.ls.length then(⟨g.rs,g.ls++[g.ls.getD (au T g.ls.length).1.toNat ⟨0,0,0,0,0⟩]⟩,(au T g.ls.length).2)else(g,T)
def mtR(k:Nat):List Rt:=(List.range k).map fun (i:Nat)=>⟨(i:Int)+50,false⟩
def aha(g:ay)(k:Int)(T:Tp):ay×Tp:=
 if k=0 then spR g T else if k=1 then spL g T
 else if k=2 then Tz (fun x w=>⟨x.a,x.b,w,x.cb,x.cap⟩) g T
 else if k=3 then Tz (fun x w=>⟨x.a,x.b,x.ca,w,x.cap⟩) g T
 else if k=4 then Tz (fun x w=>⟨x.a,x.b,x.ca,x.cb,w⟩) g T
 else if k=5 then spD g T
 else(⟨g.rs++mtR 25,g.ls⟩,T)
def Me(T:Tp)(most n:Int):ay×Tp:=
 let G:=dG T most
 let o:=dD G.2 n
 if o.1 then aha G.1 (au o.2 7).1 (au o.2 7).2 else(G.1,o.2)
theorem ahK(T:Tp)(hT:ak T)(most:Int)(hm:1≤most∧most≤24)(n:Int)(hn:1≤n∧n≤1000):Contract Tryz.prog 18 [.ptr (.x 0) 0,.d (.int .i64 most),.d (.int .i64 n)] [aJ T] (aH (Me T most n).1) [aJ (Me T most n).2] []:=by
 have b1:=aS T 1 most;have b2:=aQ T (a:=1) (b:=most) (by omega);refine aj Tryz.func18 rfl (fun E0=>?_);refine cO.sound (g:=.mk) (ow:=[]) (kp:=(fun k=>k==0||k==1||k==2||k==6||k==7||k==8||k==9||k==10||k==11||k==12||k==13||k==14||k==15||k==21||k==36||k==47||k==60||k==87||k==89||k==91||k==101||k==112||k==124||k==129||k==141||k==146||k==158||k==163||k==175||k==180)) ?_
 rw[Tryz.ntmps18];simp -dsimp;refine ah.of (dw T hT 1 most ⟨by omega,by omega⟩ ⟨by omega,by omega⟩ ⟨by omega,by omega⟩ ⟨by omega,by omega⟩) [.x 0] 0 ?_;simp -dsimp;generalize hR:aT T 1 most=R at b1 b2⊢;have kR:ak R.2:=by rw[←hR];simpa using hT
 refine aN.of [] (fun k=>k==0||k==1||k==2||k==6||k==7||k==8||k==9||k==10||k==11||k==12||k==13||k==14||k==15||k==21||k==36||k==47||k==60||k==87||k==89||k==91||k==101||k==112||k==124||k==129||k==141||k==146||k==158||k==163||k==175||k==180) (ι:={i:Nat // (i:Int)≤R.1}) (fun i=>[(Pl.s 0,It.v (.ptr (Pl.x 0) 0)),(Pl.s 1,It.v (.d (.int .i64 most))),(Pl.s 2,It.v (.d (.int .i64 n))),(Pl.x 0,aJ R.2),
  (Pl.o 6,It.box [TV.c (Value.slice none 0 0),TV.c (Value.slice none 0 0)]),(Pl.s 6,It.v (.ptr (Pl.o 6) 0)),(Pl.o 7,It.box [TV.aB 1000 i.1,TV.c (Value.slice none 0 0)]),(Pl.s 7,It.v (.ptr (Pl.o 7) 0)),
  (Pl.s 8,It.v (.d (.int .i64 R.1))),(Pl.s 9,It.v (.d (.int .i64 (i.1+1)))),(Pl.o 1000,.row 117 2 (dd (rts (cu i.1))) false)]) (fun i=>R.1.toNat-i.1) ⟨0,by omega⟩ ?_ ?_
 ·exact GS.gq (.o 7) 0 1000 (cs:=[TV.c (Value.slice none 0 0),TV.c (Value.slice none 0 0)]) 117 2 (by simp) (by simp) (by simp) (by simp) (by simp[cu,rts])
 ·rintro⟨i,hi⟩;simp -dsimp;refine qM.dec (fun h=>?_) (fun h=>?_)
  ·simp -dsimp[wrap_i64 (n:=(i:Int)+1+1) (by omega) (by omega)];and_intros;all_goals try omega
   exact⟨⟨⟨i+1,by omega⟩,GS.to (by simp[cu,rts,List.range_succ,Rt.cs]),by simp;omega⟩⟩
  ·have hk:R.1=i:=by omega
   simp -dsimp;refine ah.of (fE R.2 kR [1,2,2,5] (by simp) (by simp)) [.x 0] 0 ?_;simp -dsimp[ints];generalize hC:aK R.2 [1,2,2,5]=C;have kC:ak C.2:=by rw[←hC];simpa using kR
   have bC:1≤C.1∧C.1≤5:=by rw[←hC];exact dA (p:=fun x=>1≤x∧x≤5) (by simp) (by simp)
   refine aN.of [] (fun k=>k==0||k==1||k==2||k==6||k==7||k==8||k==9||k==10||k==11||k==12||k==13||k==14||k==15||k==21||k==36||k==47||k==60||k==87||k==89||k==91||k==101||k==112||k==124||k==129||k==141||k==146||k==158||k==163||k==175||k==180) (ι:={z:Int×Tp×List Lk // 2≤z.1∧z.1≤R.1+1∧ak z.2.1∧z.2.2.length≤24*(z.1.toNat-2)∧dS C.1 (R.1+1-2).toNat 2 C.2 []=dS C.1 (R.1+1-z.1).toNat z.1 z.2.1 z.2.2})
    (fun z=>[(Pl.s 0,It.v (.ptr (Pl.x 0) 0)),(Pl.s 1,It.v (.d (.int .i64 most))),(Pl.s 2,It.v (.d (.int .i64 n))),(Pl.x 0,aJ z.1.2.1),
     (Pl.o 6,It.box [TV.c (Value.slice none 0 0),TV.c (Value.slice none 0 0)]),(Pl.s 6,It.v (.ptr (Pl.o 6) 0)),(Pl.o 7,It.box [TV.aB 1000 i,TV.aB 1001 z.1.2.2.length]),(Pl.s 7,It.v (.ptr (Pl.o 7) 0)),
     (Pl.s 8,It.v (.d (.int .i64 R.1))),(Pl.o 1000,.row 117 2 (dd (rts (cu i))) false),(Pl.o 1001,.row 142 5 (dd (dO z.1.2.2)) false),
     (Pl.s 10,It.v (.d (.int .i64 C.1))),(Pl.s 11,It.v (.d (.int .i64 z.1.1)))]) (fun z=>(R.1+1-z.1.1).toNat) ⟨(2,C.2,[]),by omega,by omega,kC,by simp,rfl⟩ ?_ ?_
   ·exact GS.gq (.o 7) 1 1001 (cs:=[TV.aB 1000 i,TV.c (Value.slice none 0 0)]) 142 5 (by simp) (by simp) (by simp) (by simp) (by simp[dO])
   ·rintro⟨⟨b,T0,l0⟩,i1,i2,i3,i4,i5⟩;simp only at i1 i2 i3 i4 i5;simp -dsimp;refine qM.dec (fun hb=>?_) (fun hb=>?_)
    ·have t1:=aS T0 1 (b-1);have t2:=aQ T0 (a:=1) (b:=b-1) (by omega);simp -dsimp[wrap_i64 (n:=b-1) (by omega) (by omega)];refine ah.of (dw T0 i3 1 (b-1) ⟨by omega,by omega⟩ ⟨by omega,by omega⟩ ⟨by omega,by omega⟩ ⟨by omega,by omega⟩) [.x 0] 0 ?_;simp -dsimp;generalize ht:aT T0 1 (b-1)=t at t1 t2⊢;have kt:ak t.2:=by rw[←ht];simpa using i3
     refine ah.of (gK t.2 kt 9 ⟨by omega,by omega⟩ ⟨by omega,by omega⟩) [.x 0] 0 ?_;simp -dsimp;generalize hs:dD t.2 9=s;have ks:ak s.2:=by rw[←hs];simpa using kt
     refine aN.of [] (fun k=>k==0||k==1||k==2||k==6||k==7||k==8||k==9||k==10||k==11||k==12||k==13||k==14||k==15||k==21||k==36||k==47||k==60||k==87||k==89||k==91||k==101||k==112||k==124||k==129||k==141||k==146||k==158||k==163||k==175||k==180) (ι:={z:Int×Tp×List Lk // 1≤z.1∧z.1≤b∧ak z.2.1∧z.2.2.length≤24*(b.toNat-2)+(z.1.toNat-1)∧dV C.1 t.1 s.1 b (b-1).toNat 1 s.2 l0=dV C.1 t.1 s.1 b (b-z.1).toNat z.1 z.2.1 z.2.2})
      (fun z=>[(Pl.s 0,It.v (.ptr (Pl.x 0) 0)),(Pl.s 1,It.v (.d (.int .i64 most))),(Pl.s 2,It.v (.d (.int .i64 n))),(Pl.x 0,aJ z.1.2.1),
       (Pl.o 6,It.box [TV.c (Value.slice none 0 0),TV.c (Value.slice none 0 0)]),(Pl.s 6,It.v (.ptr (Pl.o 6) 0)),(Pl.o 7,It.box [TV.aB 1000 i,TV.aB 1001 z.1.2.2.length]),(Pl.s 7,It.v (.ptr (Pl.o 7) 0)),
       (Pl.s 8,It.v (.d (.int .i64 R.1))),(Pl.o 1000,.row 117 2 (dd (rts (cu i))) false),(Pl.o 1001,.row 142 5 (dd (dO z.1.2.2)) false),
       (Pl.s 10,It.v (.d (.int .i64 C.1))),(Pl.s 11,It.v (.d (.int .i64 b))),(Pl.s 12,It.v (.d (.int .i64 t.1))),(Pl.s 13,It.v (.d (.bool s.1))),(Pl.s 14,It.v (.d (.int .i64 z.1.1)))]) (fun z=>(b-z.1.1).toNat) ⟨(1,s.2,l0),by omega,by omega,ks,by simpa using i4,rfl⟩ ?_ ?_
     ·exact GS.to (by simp)
     ·rintro⟨⟨a,T1,l⟩,j1,j2,j3,j4,j5⟩;simp only at j1 j2 j3 j4 j5;by_cases hab:a<b
      ·have hab':decide (a<b)=true:=by simpa using hab
       by_cases ha:a=t.1
       ·have ha':decide (a=t.1)=true:=by simpa using ha
        rcases (Bool.eq_false_or_eq_true s.1).symm with hs1|hs1
        ·simp -dsimp[hab',ha',hs1];have x1:=aS T1 1 C.1;have x2:=aQ T1 (a:=1) (b:=C.1) (by omega);refine ah.of (dw T1 j3 1 C.1 ⟨by omega,by omega⟩ ⟨by omega,by omega⟩ ⟨by omega,by omega⟩ ⟨by omega,by omega⟩) [.x 0] 0 ?_;simp -dsimp;generalize hx:aT T1 1 C.1=x at x1 x2⊢;have kx:ak x.2:=by rw[←hx];simpa using j3
         have y1:=aS x.2 1 C.1;have y2:=aQ x.2 (a:=1) (b:=C.1) (by omega);refine ah.of (dw x.2 kx 1 C.1 ⟨by omega,by omega⟩ ⟨by omega,by omega⟩ ⟨by omega,by omega⟩ ⟨by omega,by omega⟩) [.x 0] 0 ?_;simp -dsimp;generalize hy:aT x.2 1 C.1=y at y1 y2⊢;have ky:ak y.2:=by rw[←hy];simpa using kx
         refine ah.of (bn y.2 ky 4 ⟨by omega,by omega⟩) [.x 0] 0 ?_;simp -dsimp[wrap_i64 (n:=a+1) (by omega) (by omega)];have e:dI C.1 t.1 s.1 b a T1 l=(l++[⟨a,b,x.1,y.1,(au y.2 4).1⟩],(au y.2 4).2):=by simp[dI,ha',hs1,hx,hy]
         and_intros;all_goals try first|omega|exact⟨by kernel_rfl⟩|(simp;omega)
         exact⟨⟨(a+1,(au y.2 4).2,l++[⟨a,b,x.1,y.1,(au y.2 4).1⟩]),by omega,by omega,by simpa using ky,by simp;omega,by rw[j5,show(b-a).toNat=(b-(a+1)).toNat+1 by omega,dV,e]⟩,GS.to (by simp[dO,Lk.cs,ha',hs1]),by simp;omega⟩
        ·simp -dsimp[hab',ha',hs1];refine ah.of (gK T1 j3 3 ⟨by omega,by omega⟩ ⟨by omega,by omega⟩) [.x 0] 0 ?_;generalize ho:dD T1 3=o;have ko:ak o.2:=by rw[←ho];simpa using j3
         rcases (Bool.eq_false_or_eq_true o.1).symm with ho1|ho1
         ·simp -dsimp[ho1,wrap_i64 (n:=a+1) (by omega) (by omega)];have e:dI C.1 t.1 s.1 b a T1 l=(l,o.2):=by simp[dI,ha',hs1,ho,ho1]
          and_intros;all_goals try first|omega|exact⟨by kernel_rfl⟩|(simp;omega)
          exact⟨⟨(a+1,o.2,l),by omega,by omega,ko,by simp;omega,by rw[j5,show(b-a).toNat=(b-(a+1)).toNat+1 by omega,dV,e]⟩,GS.to (by simp[ha',hs1]),by simp;omega⟩
         ·simp -dsimp[ho1];have x1:=aS o.2 1 C.1;have x2:=aQ o.2 (a:=1) (b:=C.1) (by omega);refine ah.of (dw o.2 ko 1 C.1 ⟨by omega,by omega⟩ ⟨by omega,by omega⟩ ⟨by omega,by omega⟩ ⟨by omega,by omega⟩) [.x 0] 0 ?_;simp -dsimp;generalize hx:aT o.2 1 C.1=x at x1 x2⊢;have kx:ak x.2:=by rw[←hx];simpa using ko
          have y1:=aS x.2 1 C.1;have y2:=aQ x.2 (a:=1) (b:=C.1) (by omega);refine ah.of (dw x.2 kx 1 C.1 ⟨by omega,by omega⟩ ⟨by omega,by omega⟩ ⟨by omega,by omega⟩ ⟨by omega,by omega⟩) [.x 0] 0 ?_;simp -dsimp;generalize hy:aT x.2 1 C.1=y at y1 y2⊢;have ky:ak y.2:=by rw[←hy];simpa using kx
          refine ah.of (bn y.2 ky 4 ⟨by omega,by omega⟩) [.x 0] 0 ?_;simp -dsimp[wrap_i64 (n:=a+1) (by omega) (by omega)];have e:dI C.1 t.1 s.1 b a T1 l=(l++[⟨a,b,x.1,y.1,(au y.2 4).1⟩],(au y.2 4).2):=by simp[dI,ha',hs1,ho,ho1,hx,hy]
          and_intros;all_goals try first|omega|exact⟨by kernel_rfl⟩|(simp;omega)
          exact⟨⟨(a+1,(au y.2 4).2,l++[⟨a,b,x.1,y.1,(au y.2 4).1⟩]),by omega,by omega,by simpa using ky,by simp;omega,by rw[j5,show(b-a).toNat=(b-(a+1)).toNat+1 by omega,dV,e]⟩,GS.to (by simp[dO,Lk.cs,ha',hs1,ho,ho1]),by simp;omega⟩
       ·have ha':decide (a=t.1)=false:=by simpa using ha
        simp -dsimp[hab',ha'];refine ah.of (gK T1 j3 3 ⟨by omega,by omega⟩ ⟨by omega,by omega⟩) [.x 0] 0 ?_;generalize ho:dD T1 3=o;have ko:ak o.2:=by rw[←ho];simpa using j3
        rcases (Bool.eq_false_or_eq_true o.1).symm with ho1|ho1
        ·simp -dsimp[ho1,wrap_i64 (n:=a+1) (by omega) (by omega)];have e:dI C.1 t.1 s.1 b a T1 l=(l,o.2):=by simp[dI,ha',ho,ho1]
         and_intros;all_goals try first|omega|exact⟨by kernel_rfl⟩|(simp;omega)
         exact⟨⟨(a+1,o.2,l),by omega,by omega,ko,by simp;omega,by rw[j5,show(b-a).toNat=(b-(a+1)).toNat+1 by omega,dV,e]⟩,GS.to (by simp[ha']),by simp;omega⟩
        ·simp -dsimp[ho1];have x1:=aS o.2 1 C.1;have x2:=aQ o.2 (a:=1) (b:=C.1) (by omega);refine ah.of (dw o.2 ko 1 C.1 ⟨by omega,by omega⟩ ⟨by omega,by omega⟩ ⟨by omega,by omega⟩ ⟨by omega,by omega⟩) [.x 0] 0 ?_;simp -dsimp;generalize hx:aT o.2 1 C.1=x at x1 x2⊢;have kx:ak x.2:=by rw[←hx];simpa using ko
         have y1:=aS x.2 1 C.1;have y2:=aQ x.2 (a:=1) (b:=C.1) (by omega);refine ah.of (dw x.2 kx 1 C.1 ⟨by omega,by omega⟩ ⟨by omega,by omega⟩ ⟨by omega,by omega⟩ ⟨by omega,by omega⟩) [.x 0] 0 ?_;simp -dsimp;generalize hy:aT x.2 1 C.1=y at y1 y2⊢;have ky:ak y.2:=by rw[←hy];simpa using kx
         refine ah.of (bn y.2 ky 4 ⟨by omega,by omega⟩) [.x 0] 0 ?_;simp -dsimp[wrap_i64 (n:=a+1) (by omega) (by omega)];have e:dI C.1 t.1 s.1 b a T1 l=(l++[⟨a,b,x.1,y.1,(au y.2 4).1⟩],(au y.2 4).2):=by simp[dI,ha',ho,ho1,hx,hy]
         and_intros;all_goals try first|omega|exact⟨by kernel_rfl⟩|(simp;omega)
         exact⟨⟨(a+1,(au y.2 4).2,l++[⟨a,b,x.1,y.1,(au y.2 4).1⟩]),by omega,by omega,by simpa using ky,by simp;omega,by rw[j5,show(b-a).toNat=(b-(a+1)).toNat+1 by omega,dV,e]⟩,GS.to (by simp[dO,Lk.cs,ha',ho,ho1]),by simp;omega⟩
      ·have hab':decide (a<b)=false:=by simpa using hab
       obtain rfl:a=b:=by omega
       simp -dsimp[hab',wrap_i64 (n:=a+1) (by omega) (by omega)];have e:gW C.1 a T0 l0=(l,T1):=by unfold gW;simp only[ht,hs];rw[j5];simp[dV]
       exact⟨⟨(a+1,T1,l),by omega,by omega,j3,by simp;omega,by rw[i5,show(R.1+1-a).toNat=(R.1+1-(a+1)).toNat+1 by omega,dS,e]⟩,GS.to (by simp),by simp;omega⟩
    ·obtain rfl:b=R.1+1:=by omega
     simp -dsimp;refine ah.of (aja l0 (by omega)) [] 0 ?_;simp -dsimp;have hX:dS C.1 (R.1+1-2).toNat 2 C.2 []=(l0,T0):=by rw[i5];simp[dS]
     have hG:dG T most=(⟨cu i,jO l0 []⟩,T0):=by
      simp only[dG,hR,hC,hX];simp[hk]
     have hll:(jO l0 []).length=l0.length:=by have:=Tm l0 [];simpa using this
     have hlen:(jO l0 []).length≤576:=by omega
     have arS:i≤24:=by omega
     rw[←hll];generalize jO l0 []=L at hG hll hlen⊢;have hn0:(0:Int)<n:=by omega
     simp -dsimp[hn0];refine ah.of (gK T0 i3 n ⟨by omega,by omega⟩ ⟨by omega,by omega⟩) [.x 0] 0 ?_;have ko:ak (dD T0 n).2:=by simpa using i3
     have hM:Me T most n=if(dD T0 n).1 then aha ⟨cu i,L⟩ (au (dD T0 n).2 7).1 (au (dD T0 n).2 7).2 else(⟨cu i,L⟩,(dD T0 n).2):=by
      simp only[Me,hG]
     generalize dD T0 n=o at ko hM⊢;obtain⟨ob,T5⟩:=o;simp only at ko hM⊢;rcases (Bool.eq_false_or_eq_true ob).symm with hob|hob
     ·subst hob;simp at hM;rw[hM];simp -dsimp[hn0];refine Fin.box (.o 6) rfl ?_;simp -dsimp;refine Fin.of ?_;simp[aH]
     ·subst hob;simp only[if_true]at hM;simp -dsimp[hn0];refine ah.of (bn T5 ko 7 ⟨by omega,by omega⟩) [.x 0] 0 ?_;have kp0:=aC T5 7;have kp1:=bg T5 (n:=7) (by omega);have kq:ak (au T5 7).2:=by simpa using ko
      generalize au T5 7=z at hM kp0 kp1 kq⊢;obtain⟨k,T6⟩:=z;simp only at hM kp0 kp1 kq⊢;unfold aha at hM;by_cases k0:k=0
      ·subst k0;simp only[if_true]at hM;rw[hM];simp only[spR];simp -dsimp;refine ah.of (fE T6 kq [0,1,99,100,-1] (by simp) (by simp)) [.x 0] 0 ?_;simp -dsimp[ints];and_intros;all_goals try first|rfl|omega|exact⟨by kernel_rfl⟩
       refine Fin.box (.o 6) rfl ?_;simp -dsimp;refine Fin.of ?_;simp[aH,rts,dO,Rt.cs]
      by_cases k1:k=1
      ·subst k1;simp only[if_true,if_neg k0]at hM;rw[hM];simp only[spL];simp -dsimp;refine ah.of (bn T6 kq 4 ⟨by omega,by omega⟩) [.x 0] 0 ?_;have kr:ak (au T6 4).2:=by simpa using kq
       simp -dsimp;refine ah.of (bn (au T6 4).2 kr 4 ⟨by omega,by omega⟩) [.x 0] 0 ?_;simp -dsimp;and_intros;all_goals try first|rfl|omega|exact⟨by kernel_rfl⟩
       refine Fin.box (.o 6) rfl ?_;simp -dsimp;refine Fin.of ?_;simp[aH,rts,dO,Lk.cs]
      by_cases k2:k=2
      ·subst k2;simp only[if_true,if_neg k0,if_neg k1]at hM;rw[hM];by_cases hL0:0<L.length
       ·have hLz:(0:Int)<L.length:=by omega
        simp only[Tz,if_pos hL0];simp -dsimp[hLz,hL0];refine ah.of (bn T6 kq L.length ⟨by omega,by omega⟩) [.x 0] 0 ?_;have w0:=aC T6 L.length;have w1:=bg T6 (n:=L.length) (by omega);have kr:ak (au T6 L.length).2:=by simpa using kq
        generalize au T6 L.length=Z at w0 w1 kr⊢;obtain⟨jz,T7⟩:=Z;simp only at w0 w1 kr⊢;obtain⟨j,rfl⟩:∃j:Nat,jz=j:=⟨jz.toNat,by omega⟩
        have hj:j<L.length:=by omega
        simp -dsimp[hLz,hL0];refine ah.of (qI T7 kr) [.x 0] 0 ?_;generalize iY T7=W;have hg:L[j]? = some L[j]:=List.getElem?_eq_getElem hj;have hgD:L.getD j ⟨0,0,0,0,0⟩ = L[j]:=by rw[List.getD_eq_getElem?_getD,hg];rfl
        simp only[Int.toNat_natCast,hgD];generalize L[j]=x at hg⊢;have hgr:(dd (dO L))[j]? = some [TV.d (.int .i64 x.a),TV.d (.int .i64 x.b),TV.d (.int .i64 x.ca),TV.d (.int .i64 x.cb),TV.d (.int .i64 x.cap)]:=by simp[dd,dO,hg,Lk.cs]
        simp -dsimp[hLz,hL0,hgr];and_intros;all_goals try first|rfl|omega|exact⟨by kernel_rfl⟩
        have hrow:(dd (dO L)).set j [TV.d (.int .i64 x.a),TV.d (.int .i64 x.b),TV.d (.int .i64 W.1),TV.d (.int .i64 x.cb),TV.d (.int .i64 x.cap)]=dd (dO (L.set j ⟨x.a,x.b,W.1,x.cb,x.cap⟩)):=by
         simp[dd,dO,List.map_set,Lk.cs]
        generalize hL2:L.set j ⟨x.a,x.b,W.1,x.cb,x.cap⟩ = L2 at hrow⊢;have hl2:L2.length=L.length:=by rw[←hL2];simp
        try rw[hrow]
        refine Fin.box (.o 6) rfl ?_;simp -dsimp[hrow,hl2];try and_intros
        all_goals try first|rfl|omega|exact⟨by kernel_rfl⟩
        all_goals try refine Fin.of ?_
        all_goals try simp[aH,hrow,hl2,hg,hL2]
       ·have hLz :¬(0:Int)<L.length:=by omega
        simp only[Tz,if_neg hL0];simp -dsimp[hLz,hL0];refine Fin.box (.o 6) rfl ?_;simp -dsimp;refine Fin.of ?_;simp[aH]
      by_cases k3:k=3
      ·subst k3;simp only[if_true,if_neg k0,if_neg k1,if_neg k2]at hM;rw[hM];by_cases hL0:0<L.length
       ·have hLz:(0:Int)<L.length:=by omega
        simp only[Tz,if_pos hL0];simp -dsimp[hLz,hL0];refine ah.of (bn T6 kq L.length ⟨by omega,by omega⟩) [.x 0] 0 ?_;have w0:=aC T6 L.length;have w1:=bg T6 (n:=L.length) (by omega);have kr:ak (au T6 L.length).2:=by simpa using kq
        generalize au T6 L.length=Z at w0 w1 kr⊢;obtain⟨jz,T7⟩:=Z;simp only at w0 w1 kr⊢;obtain⟨j,rfl⟩:∃j:Nat,jz=j:=⟨jz.toNat,by omega⟩
        have hj:j<L.length:=by omega
        simp -dsimp[hLz,hL0];refine ah.of (qI T7 kr) [.x 0] 0 ?_;generalize iY T7=W;have hg:L[j]? = some L[j]:=List.getElem?_eq_getElem hj;have hgD:L.getD j ⟨0,0,0,0,0⟩ = L[j]:=by rw[List.getD_eq_getElem?_getD,hg];rfl
        simp only[Int.toNat_natCast,hgD];generalize L[j]=x at hg⊢;have hgr:(dd (dO L))[j]? = some [TV.d (.int .i64 x.a),TV.d (.int .i64 x.b),TV.d (.int .i64 x.ca),TV.d (.int .i64 x.cb),TV.d (.int .i64 x.cap)]:=by simp[dd,dO,hg,Lk.cs]
        simp -dsimp[hLz,hL0,hgr];and_intros;all_goals try first|rfl|omega|exact⟨by kernel_rfl⟩
        have hrow:(dd (dO L)).set j [TV.d (.int .i64 x.a),TV.d (.int .i64 x.b),TV.d (.int .i64 x.ca),TV.d (.int .i64 W.1),TV.d (.int .i64 x.cap)]=dd (dO (L.set j ⟨x.a,x.b,x.ca,W.1,x.cap⟩)):=by
         simp[dd,dO,List.map_set,Lk.cs]
        generalize hL2:L.set j ⟨x.a,x.b,x.ca,W.1,x.cap⟩ = L2 at hrow⊢;have hl2:L2.length=L.length:=by rw[←hL2];simp
        try rw[hrow]
        refine Fin.box (.o 6) rfl ?_;simp -dsimp[hrow,hl2];try and_intros
        all_goals try first|rfl|omega|exact⟨by kernel_rfl⟩
        all_goals try refine Fin.of ?_
        all_goals try simp[aH,hrow,hl2,hg,hL2]
       ·have hLz :¬(0:Int)<L.length:=by omega
        simp only[Tz,if_neg hL0];simp -dsimp[hLz,hL0];refine Fin.box (.o 6) rfl ?_;simp -dsimp;refine Fin.of ?_;simp[aH]
      by_cases k4:k=4
      ·subst k4;simp only[if_true,if_neg k0,if_neg k1,if_neg k2,if_neg k3]at hM;rw[hM];by_cases hL0:0<L.length
       ·have hLz:(0:Int)<L.length:=by omega
        simp only[Tz,if_pos hL0];simp -dsimp[hLz,hL0];refine ah.of (bn T6 kq L.length ⟨by omega,by omega⟩) [.x 0] 0 ?_;have w0:=aC T6 L.length;have w1:=bg T6 (n:=L.length) (by omega);have kr:ak (au T6 L.length).2:=by simpa using kq
        generalize au T6 L.length=Z at w0 w1 kr⊢;obtain⟨jz,T7⟩:=Z;simp only at w0 w1 kr⊢;obtain⟨j,rfl⟩:∃j:Nat,jz=j:=⟨jz.toNat,by omega⟩
        have hj:j<L.length:=by omega
        simp -dsimp[hLz,hL0];refine ah.of (qI T7 kr) [.x 0] 0 ?_;generalize iY T7=W;have hg:L[j]? = some L[j]:=List.getElem?_eq_getElem hj;have hgD:L.getD j ⟨0,0,0,0,0⟩ = L[j]:=by rw[List.getD_eq_getElem?_getD,hg];rfl
        simp only[Int.toNat_natCast,hgD];generalize L[j]=x at hg⊢;have hgr:(dd (dO L))[j]? = some [TV.d (.int .i64 x.a),TV.d (.int .i64 x.b),TV.d (.int .i64 x.ca),TV.d (.int .i64 x.cb),TV.d (.int .i64 x.cap)]:=by simp[dd,dO,hg,Lk.cs]
        simp -dsimp[hLz,hL0,hgr];and_intros;all_goals try first|rfl|omega|exact⟨by kernel_rfl⟩
        have hrow:(dd (dO L)).set j [TV.d (.int .i64 x.a),TV.d (.int .i64 x.b),TV.d (.int .i64 x.ca),TV.d (.int .i64 x.cb),TV.d (.int .i64 W.1)]=dd (dO (L.set j ⟨x.a,x.b,x.ca,x.cb,W.1⟩)):=by
         simp[dd,dO,List.map_set,Lk.cs]
        generalize hL2:L.set j ⟨x.a,x.b,x.ca,x.cb,W.1⟩ = L2 at hrow⊢;have hl2:L2.length=L.length:=by rw[←hL2];simp
        try rw[hrow]
        refine Fin.box (.o 6) rfl ?_;simp -dsimp[hrow,hl2];try and_intros
        all_goals try first|rfl|omega|exact⟨by kernel_rfl⟩
        all_goals try refine Fin.of ?_
        all_goals try simp[aH,hrow,hl2,hg,hL2]
       ·have hLz :¬(0:Int)<L.length:=by omega
        simp only[Tz,if_neg hL0];simp -dsimp[hLz,hL0];refine Fin.box (.o 6) rfl ?_;simp -dsimp;refine Fin.of ?_;simp[aH]
      by_cases k5:k=5
      ·subst k5;simp only[if_true,if_neg k0,if_neg k1,if_neg k2,if_neg k3,if_neg k4]at hM;rw[hM];by_cases hL0:0<L.length
       ·have hLz:(0:Int)<L.length:=by omega
        simp only[spD,if_pos hL0];simp -dsimp[hLz,hL0];refine ah.of (bn T6 kq L.length ⟨by omega,by omega⟩) [.x 0] 0 ?_;have w0:=aC T6 L.length;have w1:=bg T6 (n:=L.length) (by omega);generalize au T6 L.length=Z at w0 w1⊢;obtain⟨jz,T7⟩:=Z;simp only at w0 w1⊢;obtain⟨j,rfl⟩:∃j:Nat,jz=j:=⟨jz.toNat,by omega⟩
        have hj:j<L.length:=by omega
        have hg:L[j]? = some L[j]:=List.getElem?_eq_getElem hj;have hgD:L.getD j ⟨0,0,0,0,0⟩ = L[j]:=by rw[List.getD_eq_getElem?_getD,hg];rfl
        simp only[Int.toNat_natCast,hgD];generalize L[j]=x at hg⊢;have hgr:(dd (dO L))[j]? = some [TV.d (.int .i64 x.a),TV.d (.int .i64 x.b),TV.d (.int .i64 x.ca),TV.d (.int .i64 x.cb),TV.d (.int .i64 x.cap)]:=by simp[dd,dO,hg,Lk.cs]
        simp -dsimp[hLz,hL0,hgr];and_intros;all_goals try first|rfl|omega|exact⟨by kernel_rfl⟩
        refine Fin.box (.o 6) rfl ?_;simp -dsimp;try and_intros
        all_goals try first|rfl|omega|exact⟨by kernel_rfl⟩
        all_goals try refine Fin.of ?_
        all_goals try simp[aH,dO,Lk.cs,hg]
       ·have hLz :¬(0:Int)<L.length:=by omega
        simp only[spD,if_neg hL0];simp -dsimp[hLz,hL0];refine Fin.box (.o 6) rfl ?_;simp -dsimp;refine Fin.of ?_;simp[aH]
      simp only[if_neg k0,if_neg k1,if_neg k2,if_neg k3,if_neg k4,if_neg k5]at hM;rw[hM];simp -dsimp[k0,k1,k2,k3,k4,k5];have apA:∀k:Nat,cu i++mtR (k+1)=cu i++mtR k++[⟨(k:Int)+50,false⟩]:=fun k=>by simp[mtR,List.range_succ]
      have ml:∀k:Nat,(mtR k).length=k:=fun k=>by simp[mtR]
      refine aN.of [] (fun k=>k==0||k==1||k==2||k==6||k==7||k==8||k==9||k==10||k==11||k==12||k==13||k==14||k==15||k==21||k==36||k==47||k==60||k==87||k==89||k==91||k==101||k==112||k==124||k==129||k==141||k==146||k==158||k==163||k==175||k==180) (ι:={j:Nat // j≤25}) (fun j=>[(Pl.s 0,It.v (.ptr (Pl.x 0) 0)),(Pl.s 1,It.v (.d (.int .i64 most))),(Pl.s 2,It.v (.d (.int .i64 n))),(Pl.x 0,aJ T6),
       (Pl.o 6,It.box [TV.c (Value.slice none 0 0),TV.c (Value.slice none 0 0)]),(Pl.s 6,It.v (.ptr (Pl.o 6) 0)),(Pl.o 7,It.box [TV.aB 1000 (i+j.1),TV.aB 3 L.length]),(Pl.s 7,It.v (.ptr (Pl.o 7) 0)),
       (Pl.o 1000,.row 117 2 (dd (rts (cu i++mtR j.1))) false),(Pl.o 3,.row 142 5 (dd (dO L)) false),(Pl.s 15,It.v (.d (.int .i64 ((j.1:Int)+50))))]) (fun j=>25-j.1) ⟨0,by omega⟩ ?_ ?_
      ·exact GS.to (by simp[mtR])
      ·rintro⟨j,hj⟩;by_cases hj2:j<25
       ·have hjz:(j:Int)+50<75:=by omega
        have hwr:IntKind.i64.wrap ((j:Int)+50+1)=(j:Int)+50+1:=wrap_i64 (by omega) (by omega);simp -dsimp[hjz,hwr,ml];and_intros;all_goals try first|rfl|omega|exact⟨by kernel_rfl⟩
        exact⟨⟨j+1,by omega⟩,GS.to (by simp[apA,rts,Rt.cs];omega),by simp;omega⟩
       ·have hj3:j=25:=by omega
        subst hj3;simp -dsimp;refine Fin.box (.o 6) rfl ?_;simp -dsimp[ml];try and_intros
        all_goals try first|rfl|omega|exact⟨by kernel_rfl⟩
        refine Fin.of ?_;simp[aH,ml]
@[simp]theorem aiZ(T:Tp):isObj (aJ T)=true:=rfl
theorem Dx(L:List Int)(h:∀x∈L,I64 x):ak (L.take 600,0):=⟨by simp;omega,fun x hx=>h x (List.mem_of_mem_take hx)⟩
theorem zM(T:Tp)(rs:List Rt)(n:Int):ak (o7 T rs n).2=ak T:=by
 unfold o7;simp only;split<;>simp
theorem rV(T:Tp)(hT:ak T)(most:Int)(hm:1≤most∧most≤24):Contract Tryz.prog 16 [.ptr (.x 0) 0,.d (.int .i64 most)] [aJ T] (aH (bW T most).1) [aJ (bW T most).2] []:=by
 refine aj Tryz.func16 rfl (fun E0=>?_);refine cO.sound (g:=.mk) (ow:=[]) (kp:=(fun k=>k==0||k==1||k==4||k==5||k==6||k==14)) ?_;rw[Tryz.ntmps16];simp -dsimp;refine ah.of (zl T hT most hm) [.x 0] 1000 ?_;have kG:ak (dG T most).2:=by simpa using hT
 have hlen:(dG T most).1.rs.length≤24:=by
  have:=aQ T (a:=1) (b:=most) (by omega);simp[dG,cu];omega
 generalize hG:dG T most=G at kG hlen⊢;simp -dsimp;refine aN.of [] (fun k=>k==0||k==1||k==4||k==5||k==6||k==14) (ι:={z:Nat×Tp×List Rt // z.1≤G.1.rs.length∧ak z.2.1∧z.2.2.length=G.1.rs.length∧iy G.1.rs G.2=(z.2.2.take z.1++(iy (z.2.2.drop z.1) z.2.1).1,(iy (z.2.2.drop z.1) z.2.1).2)})
  (fun z=>[(Pl.s 0,It.v (.ptr (Pl.x 0) 0)),(Pl.s 1,It.v (.d (.int .i64 most))),(Pl.x 0,aJ z.1.2.1),
   (Pl.o 4,It.box [TV.c (Value.slice none 0 0),TV.c (Value.slice none 0 0)]),(Pl.s 4,It.v (.ptr (Pl.o 4) 0)),
   (Pl.o 2000,It.row 117 2 (dd (rts z.1.2.2)) false),(Pl.o 5,It.box [TV.aB 2000 G.1.rs.length,TV.d (.sl (dO G.1.ls))]),(Pl.s 5,It.v (.ptr (Pl.o 5) 0)),
   (Pl.s 6,It.v (.d (.int .i64 z.1.1)))]) (fun z=>G.1.rs.length-z.1.1) ⟨(0,G.2,G.1.rs),by simp,kG,rfl,by simp⟩ ?_ ?_
 ·exact GS.to (by simp)
 ·rintro⟨⟨i,T1,L⟩,i1,i2,i3,i4⟩;simp only at i1 i2 i3 i4;have hrl:(rts L).length=G.1.rs.length:=by simp[rts,i3]
  by_cases hi:i<G.1.rs.length
  ·have hiz:(i:Int)<G.1.rs.length:=by omega
   have hil:i<L.length:=by omega
   have hg:L[i]? = some L[i]:=List.getElem?_eq_getElem hil;have hd:L.drop i=L[i]::L.drop (i+1):=List.drop_eq_getElem_cons _;generalize L[i]=x at hg hd;have hgr:(dd (rts L))[i]? = some [TV.d (.int .i64 x.id),TV.d (.bool x.cap)]:=by simp[dd,rts,hg,Rt.cs]
   simp -dsimp[hiz,i3,hrl];and_intros;all_goals try first|rfl|omega|exact⟨by kernel_rfl⟩
   refine ah.of (gK T1 i2 3 ⟨by omega,by omega⟩ ⟨by omega,by omega⟩) [.x 0] 0 ?_;generalize ho:dD T1 3=o;have ko:ak o.2:=by rw[←ho];simpa using i2
   simp -dsimp[hiz,i3,hrl,hgr,wrap_i64 (n:=(i:Int)+1) (by omega) (by omega)];and_intros;all_goals try first|rfl|omega|exact⟨by kernel_rfl⟩
   have hrow:(dd (rts L)).set i [TV.d (.int .i64 x.id),TV.d (.bool !o.1)]=dd (rts (L.set i ⟨x.id,!o.1⟩)):=by
    simp[dd,rts,List.map_set,Rt.cs]
   refine⟨⟨(i+1,o.2,L.set i ⟨x.id,!o.1⟩),by dsimp only;omega,ko,by simpa using i3,?_⟩,GS.to (by simp[hrow]),by simp;omega⟩;rw[i4,hd,iy];simp only[ho];have e1:(L.set i ⟨x.id,!o.1⟩).take (i+1)=L.take i++[⟨x.id,!o.1⟩]:=by
    rw[List.take_add_one,List.getElem?_set_self hil,List.take_set_of_le (Nat.le_refl _)];rfl
   have e2:(L.set i ⟨x.id,!o.1⟩).drop (i+1)=L.drop (i+1):=List.drop_set_of_lt (by omega);rw[e1,e2];simp
  ·obtain rfl:i=G.1.rs.length:=by omega
   simp -dsimp[hrl];refine Fin.box (.o 4) rfl ?_;simp -dsimp[hrl];refine Fin.of ?_;have e0:L.drop G.1.rs.length = []:=List.drop_eq_nil_of_le (by omega);have e1:L.take G.1.rs.length=L:=List.take_of_length_le (by omega);simp only[e0,e1,iy,List.append_nil]at i4;simp[bW,hG,i4,aH]
structure ay.Fit(g:ay):Prop where
 r1:1≤g.rs.length
 r2:g.rs.length≤60
 l2:g.ls.length≤1001
theorem ay.Fit.sm{g:ay}(h:g.Fit):g.Sm:=⟨by have:=h.r2;omega,by have:=h.l2;omega⟩
theorem uF(T:Tp){most:Int}(hm:1≤most∧most≤24):1≤(dG T most).1.rs.length∧(dG T most).1.rs.length≤24∧(dG T most).1.ls.length≤1000:=by
 have h1:=fO T hm;have h2:=aS T 1 most;have h3:(bW T most).1.rs.length=(dG T most).1.rs.length:=by simp[bW,fQ]
 have h4:(bW T most).1.ls=(dG T most).1.ls:=rfl;refine⟨?_,by omega,by rw[←h4];exact h1.2⟩;simp[dG,cu];omega
theorem vS(T:Tp){most:Int}(hm:1≤most∧most≤24):(bW T most).1.Fit:=by
 have h1:=uF T hm;have h3:(bW T most).1.rs.length=(dG T most).1.rs.length:=by simp[bW,fQ]
 have h4:(bW T most).1.ls=(dG T most).1.ls:=rfl;exact⟨by omega,by omega,by rw[h4];omega⟩
theorem acY(T:Tp){most:Int}(hm:1≤most∧most≤24)(n:Int):(Me T most n).1.Fit∧ak (Me T most n).2=ak T:=by
 have h1:=uF T hm;have k1:ak (dG T most).2=ak T:=by simp
 unfold Me;simp only;split
 ·unfold aha spR spL Tz spD
  repeat' split
  all_goals refine⟨⟨?_,?_,?_⟩,?_⟩
  all_goals first|(simp only[List.length_append,List.length_cons,List.length_nil,List.length_set,mtR,List.length_map,List.length_range];omega)|(simp only[oW,dP,Mc,aeX,k1])
 ·exact⟨⟨by dsimp only;omega,by dsimp only;omega,by dsimp only;omega⟩,by simp only[oW,k1]⟩
end Go.Proofs
