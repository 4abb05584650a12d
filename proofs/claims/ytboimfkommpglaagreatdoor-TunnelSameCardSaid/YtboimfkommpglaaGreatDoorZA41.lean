/-
  What functions of the program compute, stated as contracts over plain data; the conditions of each stand in its own statement.
-/
import Derived.Test.YtboimfkommpglaaGreatDoorZA28
import Derived.Test.YtboimfkommpglaaGreatDoorZA40
import Derived.Test.YtboimfkommpglaaGreatDoorZA27
set_option linter.unusedSimpArgs false
set_option maxRecDepth 100000
set_option maxHeartbeats 4000000
namespace Go.Proofs
open Go Go.Tr
theorem yC(g:ay)(hg:g.Sm)(hc:cZ g=0)(p:Pn)(a1:d_ p=true)(hp:p.es.length≤1000):Contract Tryz.prog 54 [aH g,bI p] [] (.rG [.aB 6 (tabs g p g.rs).length,.d (.int .i64 0)]) [] [(6,.row 65 4 (dd (oq (tabs g p g.rs))) false)]:=by
 have hr:=hg.r;refine aj Tryz.func54 rfl (fun E0=>?_);refine cO.sound (g:=.mk) (ow:=[]) (kp:=(fun k=>k==0||k==1||k==2||k==3||k==4||k==5||k==6||k==7||k==15||k==20||k==28)) ?_;rw[Tryz.ntmps54];simp -dsimp[aH,bI];refine ah.of (oz g hg.r hg.l) [] 0 ?_;simp -dsimp[eq_true hc,aH];refine ah.of (uQ p hp) [] 0 ?_;have hn:g.rs.length≤24:=(aU hc).nr
 simp -dsimp[eq_true hc,a1,bI];and_intros;all_goals try first|rfl|omega|exact⟨by kernel_rfl⟩
 refine aN.of [] (fun k=>k==0||k==1||k==2||k==3||k==4||k==5||k==6||k==7||k==15||k==20||k==28) (ι:={i:Nat // i≤g.rs.length∧True}) (fun z=>[(Pl.s 0,It.v (.agg [TV.d (.sl (rts g.rs)),TV.d (.sl (dO g.ls))])),(Pl.s 1,It.v (.agg [TV.d (.int .i64 p.bF),TV.d (.int .i64 p.len),TV.d (.sl (rJ p.es))])),(Pl.o 2,It.box [TV.d (.sl (rts g.rs)),TV.d (.sl (dO g.ls))]),(Pl.s 2,It.v (.ptr (Pl.o 2) 0)),(Pl.o 3,It.box [TV.d (.int .i64 p.bF),TV.d (.int .i64 p.len),TV.d (.sl (rJ p.es))]),(Pl.s 3,It.v (.ptr (Pl.o 3) 0)),(Pl.s 4,It.v (.c (Value.slice none 0 0))),(Pl.s 5,It.v (.d (.int .i64 0))),(Pl.s 6,It.v (.aB 6 (yA g p (g.rs.take z.1)).length)),(Pl.o 6,It.row 65 4 (dd (yA g p (g.rs.take z.1))) false),(Pl.s 7,It.v (.d (.int .i64 z.1)))]) (fun z=>g.rs.length-z.1) ⟨0,by omega,trivial⟩ ?_ ?_
 ·exact GS.own' (k:=6) 65 4 (by simp) (by simp) (by simp[yA,tabs])
 rintro⟨i,i1,i2⟩;by_cases hi:i<g.rs.length
 ·have hiz:(i:Int)<g.rs.length:=by omega
  have hx:g.rs[i]? = some g.rs[i]:=List.getElem?_eq_getElem hi;have ht:g.rs.take (i+1)=g.rs.take i++[g.rs[i]]:=by rw[List.take_add_one,List.getElem?_eq_getElem hi];rfl
  generalize g.rs[i]=x at hx ht;have hx':=fF hx;have hta:=FN g p (g.rs.take i) x;have htl:=FP g p (g.rs.take i);rw[←ht]at hta
  simp at htl;rcases (Bool.eq_false_or_eq_true x.cap).symm with c1|c1
  ·rw[if_neg (by simp[c1])]at hta
   simp -dsimp[hiz,hx',Rt.cs,c1,wrap_i64 (n:=(i:Int)+1) (by omega) (by omega)];and_intros;all_goals try first|rfl|omega|exact⟨by kernel_rfl⟩
   exact⟨⟨i+1,by omega,trivial⟩,GS.to (by simp[hta]),by simp;omega⟩
  ·rw[if_pos c1]at hta
   simp -dsimp[hiz,hx',Rt.cs,c1];refine ah.of (BH g hg p (by omega) x.id) [] 0 ?_;simp -dsimp[hiz,hx',Rt.cs,c1,aH,bI,bZ,bV,wrap_i64 (n:=(i:Int)+1) (by omega) (by omega)];and_intros;all_goals try first|rfl|omega|exact⟨by kernel_rfl⟩
   exact⟨⟨i+1,by omega,trivial⟩,GS.to (by simp[hta,Tb.cs,bV]),by simp;omega⟩
 ·have hiz :¬(i:Int)<g.rs.length:=by omega
  obtain rfl:i=g.rs.length:=by omega
  simp -dsimp[hiz];refine Fin.of ?_;simp[yA,oq]
def fA(len set:Int):List Ed→Tp→BitVec 64→BitVec 64×Tp
 | [],T,B=>(B,T)
 | e::es,T,B=>if fJ e.id len=set then(if 0<(au T 4).1 then fA len set es (au T 4).2 (B|||lS (gG e.id len))else fA len set es (au T 4).2 B)else fA len set es T B
def jB(T:Tp)(p:Pn):Int×Tp:=if p.es = []then(0,T)else(fJ (p.es.getD (au T p.es.length).1.toNat ⟨0,0⟩).id p.len,(au T p.es.length).2)
def mM(T:Tp)(p:Pn):Pk×Tp:=
 let q:=bY T 0
 let s:=jB q.2 p
 let b:=fA p.len s.1 p.es s.2 0#64
 let o:=dD b.2 6
 if o.1=true then(q.1.for p.bF p.len s.1 (b.1|||(kE o.2 p.len).1),(kE o.2 p.len).2)else(q.1.for p.bF p.len s.1 b.1,o.2)
theorem jq(len set:Int):∀(es:List Ed) (T:Tp) (B:BitVec 64),ak (fA len set es T B).2=ak T
 | [],_,_=>rfl
 | e::es,T,B=>by
   rw[fA];split
   ·split
    ·rw[jq];simp
    ·rw[jq];simp
   ·exact jq len set es T B
theorem yK(T:Tp)(p:Pn):ak (jB T p).2=ak T:=by
 unfold jB;split
 ·rfl
 ·simp
theorem yM(T:Tp)(p:Pn):ak (mM T p).2=ak T:=by
 unfold mM;simp only;split<;>simp[jq,yK]
theorem Ih(T:Tp)(hT:ak T)(p:Pn)(hp:p.es.length≤1000)(l0:p.len≠0)(hl:I64 p.len):Contract Tryz.prog 29 [.ptr (.x 0) 0,bI p] [aJ T] (dX (mM T p).1) [aJ (mM T p).2] []:=by
 refine aj Tryz.func29 rfl (fun E0=>?_);refine cO.sound (g:=.mk) (ow:=[]) (kp:=(fun k=>k==0||k==1||k==3||k==4||k==5||k==6||k==7||k==8||k==23||k==28||k==51||k==75||k==83)) ?_;rw[Tryz.ntmps29];simp -dsimp[bI];try refine⟨?_,⟨by kernel_rfl⟩⟩
 refine ah.of (wC T hT 0 ⟨by omega,by omega⟩) [.x 0] 0 ?_;have kQ:ak (bY T 0).2:=by simpa using hT
 unfold mM;simp only;generalize bY T 0=q at kQ⊢;obtain⟨q,T1⟩:=q;simp only at kQ⊢;simp only[dX,Pk.cs,List.map];by_cases e0:p.es = []
 ·have eS:jB T1 p=(0,T1):=by rw[jB,if_pos e0]
  rw[eS];simp -dsimp[l0,e0];try refine⟨?_,⟨by kernel_rfl⟩⟩
  refine aN.of [] (fun k=>k==0||k==1||k==3||k==4||k==5||k==6||k==7||k==8||k==23||k==28||k==51||k==75||k==83) (ι:={z:Nat×Tp×BitVec 64 // z.1≤p.es.length∧ak z.2.1∧fA p.len 0 p.es T1 0#64=fA p.len 0 (p.es.drop z.1) z.2.1 z.2.2})
   (fun z=>[(Pl.s 0,It.v (.ptr (Pl.x 0) 0)),(Pl.x 0,aJ z.1.2.1),(Pl.o 3,It.box [TV.d (.int .i64 p.bF),TV.d (.int .i64 p.len),TV.d (.sl (rJ p.es))]),(Pl.s 3,It.v (.ptr (Pl.o 3) 0)),
    (Pl.o 4,It.box [TV.d (.int .i64 0),TV.d (.int .i64 0),TV.d (.int .i64 0),TV.d (.int .i64 0),TV.d (.int .i64 0),TV.d (.int .i64 0),TV.d (.int .i64 0),TV.d (.int .i64 0),TV.d (.int IntKind.u64 0),TV.d (.str ⟨#[]⟩)]),
    (Pl.s 4,It.v (.ptr (Pl.o 4) 0)),
    (Pl.o 5,It.box [TV.d (.int .i64 1),TV.d (.int .i64 p.bF),TV.d (.int .i64 0),TV.d (.int .i64 p.len),TV.d (.int .i64 q.ttl),TV.d (.int .i64 q.ent),TV.d (.int .i64 q.ing),TV.d (.int .i64 q.proto),TV.d (.int IntKind.u64 (tn z.1.2.2)),TV.d (.str q.pay)]),
    (Pl.s 5,It.v (.ptr (Pl.o 5) 0)),(Pl.s 6,It.v (.d (.int .i64 z.1.1)))])
   (fun z=>p.es.length-z.1.1) ⟨(0,T1,0#64),by simp,kQ,rfl⟩ ?_ ?_
  ·exact GS.to (by simp[e0])
  generalize fA p.len 0 p.es T1 0#64=X;rintro⟨⟨i,T3,B⟩,i1,i2,i3⟩;simp only at i1 i2 i3;by_cases hi:i<p.es.length
  ·have hiz:(i:Int)<p.es.length:=by omega
   have hg:p.es[i]? = some p.es[i]:=List.getElem?_eq_getElem hi;have hd:p.es.drop i=p.es[i]::p.es.drop (i+1):=List.drop_eq_getElem_cons hi;generalize p.es[i]=y at hg hd;have hg':=mP hg;rw[hd,fA]at i3
   have pb:=plB y.id p.len;have hbc:=uD (gG y.id p.len);simp -dsimp[hiz,hg',Ed.cs];try refine⟨?_,⟨by kernel_rfl⟩⟩
   and_intros;all_goals try first|rfl|omega|exact⟨by kernel_rfl⟩
   refine ah.of (kU y.id p.len) [] 0 ?_;simp only[eH];generalize fJ y.id p.len=sy at i3 pb;generalize gG y.id p.len=QS at i3 pb hbc;by_cases c0:sy=0
   ·rw[if_pos c0]at i3
    simp -dsimp[hiz,hg',Ed.cs,eH,eq_true c0];try refine⟨?_,⟨by kernel_rfl⟩⟩
    refine ah.of (bn T3 i2 4 ⟨by omega,by omega⟩) [.x 0] 0 ?_;have n1:=aC T3 4;have kS:ak (au T3 4).2:=by simpa using i2
    generalize au T3 4=m4 at n1 kS i3⊢;obtain⟨m4,T4⟩:=m4;simp only at n1 kS i3⊢;by_cases c1:0<m4
    ·rw[if_pos c1]at i3
     simp -dsimp[c1];try refine⟨?_,⟨by kernel_rfl⟩⟩
     refine ah.of hbc [] 0 ?_;simp -dsimp[bv,wrap_i64 (n:=(i:Int)+1) (by omega) (by omega)];try refine⟨?_,⟨by kernel_rfl⟩⟩
     and_intros;all_goals try first|rfl|omega|exact⟨by kernel_rfl⟩
     exact⟨⟨(i+1,T4,B|||lS QS),by dsimp only;omega,kS,i3⟩,GS.to (by simp),by simp;omega⟩
    ·rw[if_neg c1]at i3
     simp -dsimp[c1,wrap_i64 (n:=(i:Int)+1) (by omega) (by omega)];try refine⟨?_,⟨by kernel_rfl⟩⟩
     and_intros;all_goals try first|rfl|omega|exact⟨by kernel_rfl⟩
     exact⟨⟨(i+1,T4,B),by dsimp only;omega,kS,i3⟩,GS.to (by simp),by simp;omega⟩
   ·rw[if_neg c0]at i3
    simp -dsimp[hiz,hg',Ed.cs,eH,eq_false c0,wrap_i64 (n:=(i:Int)+1) (by omega) (by omega)];try refine⟨?_,⟨by kernel_rfl⟩⟩
    and_intros;all_goals try first|rfl|omega|exact⟨by kernel_rfl⟩
    exact⟨⟨(i+1,T3,B),by dsimp only;omega,i2,i3⟩,GS.to (by simp),by simp;omega⟩
  ·have hiz :¬(i:Int)<p.es.length:=by omega
   have e1:p.es.drop i = []:=List.drop_eq_nil_of_le (by omega);rw[e1,fA]at i3
   subst i3;simp -dsimp[hiz];try refine⟨?_,⟨by kernel_rfl⟩⟩
   refine ah.of (gK T3 i2 6 ⟨by omega,by omega⟩ ⟨by omega,by omega⟩) [.x 0] 0 ?_;have kO:ak (dD T3 6).2:=by simpa using i2
   generalize dD T3 6=o at kO⊢;obtain⟨o,T5⟩:=o;simp only at kO⊢;rcases (Bool.eq_false_or_eq_true o).symm with ho|ho
   ·subst ho;simp -dsimp;try refine⟨?_,⟨by kernel_rfl⟩⟩
    refine Fin.box (.o 4) rfl ?_;simp -dsimp;try refine⟨?_,⟨by kernel_rfl⟩⟩
    refine Fin.of ?_;simp[Pk.for,bv]
   ·subst ho;simp -dsimp;try refine⟨?_,⟨by kernel_rfl⟩⟩
    refine ah.of (zF T5 kO p.len hl) [.x 0] 0 ?_;generalize kE T5 p.len=gb;simp -dsimp[bv];try refine⟨?_,⟨by kernel_rfl⟩⟩
    refine Fin.box (.o 4) rfl ?_;simp -dsimp;try refine⟨?_,⟨by kernel_rfl⟩⟩
    refine Fin.of ?_;simp[Pk.for,bv]
 ·have eS:jB T1 p=(fJ (p.es.getD (au T1 p.es.length).1.toNat ⟨0,0⟩).id p.len,(au T1 p.es.length).2):=by rw[jB,if_neg e0]
  have hlen:0<p.es.length:=List.length_pos_iff.2 e0;rw[eS];simp -dsimp[l0,e0,hlen];try refine⟨?_,⟨by kernel_rfl⟩⟩
  and_intros;all_goals try first|rfl|omega|exact⟨by kernel_rfl⟩
  refine ah.of (bn T1 kQ p.es.length ⟨by omega,by omega⟩) [.x 0] 0 ?_;have m1:=aC T1 p.es.length;have m2:=bg T1 (n:=p.es.length) (by omega);have kN:ak (au T1 p.es.length).2:=by simpa using kQ
  clear eS;generalize au T1 p.es.length=m at m1 m2 kN⊢;obtain⟨m,T2⟩:=m;simp only at m1 m2 kN⊢;obtain⟨j,rfl⟩:∃j:Nat,m=j:=⟨m.toNat,by omega⟩
  have hj:j<p.es.length:=by omega
  have hx:p.es[j]? = some p.es[j]:=List.getElem?_eq_getElem hj;have hgd:p.es.getD ((j:Int)).toNat ⟨0,0⟩ = p.es[j]:=by rw[List.getD_eq_getElem?_getD,show((j:Int)).toNat=j by omega,hx];rfl
  rw[hgd];generalize p.es[j]=x at hx;have hx':=mP hx;simp -dsimp[l0,e0,hlen,hx',Ed.cs];try refine⟨?_,⟨by kernel_rfl⟩⟩
  and_intros;all_goals try first|rfl|omega|exact⟨by kernel_rfl⟩
  refine ah.of (kU x.id p.len) [] 0 ?_;simp only[eH];generalize fJ x.id p.len=S;simp -dsimp[l0,e0,eH];try refine⟨?_,⟨by kernel_rfl⟩⟩
  refine aN.of [] (fun k=>k==0||k==1||k==3||k==4||k==5||k==6||k==7||k==8||k==23||k==28||k==51||k==75||k==83) (ι:={z:Nat×Tp×BitVec 64 // z.1≤p.es.length∧ak z.2.1∧fA p.len S p.es T2 0#64=fA p.len S (p.es.drop z.1) z.2.1 z.2.2})
   (fun z=>[(Pl.s 0,It.v (.ptr (Pl.x 0) 0)),(Pl.x 0,aJ z.1.2.1),(Pl.o 3,It.box [TV.d (.int .i64 p.bF),TV.d (.int .i64 p.len),TV.d (.sl (rJ p.es))]),(Pl.s 3,It.v (.ptr (Pl.o 3) 0)),
    (Pl.o 4,It.box [TV.d (.int .i64 0),TV.d (.int .i64 0),TV.d (.int .i64 0),TV.d (.int .i64 0),TV.d (.int .i64 0),TV.d (.int .i64 0),TV.d (.int .i64 0),TV.d (.int .i64 0),TV.d (.int IntKind.u64 0),TV.d (.str ⟨#[]⟩)]),
    (Pl.s 4,It.v (.ptr (Pl.o 4) 0)),
    (Pl.o 5,It.box [TV.d (.int .i64 1),TV.d (.int .i64 p.bF),TV.d (.int .i64 S),TV.d (.int .i64 p.len),TV.d (.int .i64 q.ttl),TV.d (.int .i64 q.ent),TV.d (.int .i64 q.ing),TV.d (.int .i64 q.proto),TV.d (.int IntKind.u64 (tn z.1.2.2)),TV.d (.str q.pay)]),
    (Pl.s 5,It.v (.ptr (Pl.o 5) 0)),(Pl.s 6,It.v (.d (.int .i64 z.1.1)))])
   (fun z=>p.es.length-z.1.1) ⟨(0,T2,0#64),by simp,kN,rfl⟩ ?_ ?_
  ·exact GS.to (by simp[e0])
  generalize fA p.len S p.es T2 0#64=X;rintro⟨⟨i,T3,B⟩,i1,i2,i3⟩;simp only at i1 i2 i3;by_cases hi:i<p.es.length
  ·have hiz:(i:Int)<p.es.length:=by omega
   have hg:p.es[i]? = some p.es[i]:=List.getElem?_eq_getElem hi;have hd:p.es.drop i=p.es[i]::p.es.drop (i+1):=List.drop_eq_getElem_cons hi;generalize p.es[i]=y at hg hd;have hg':=mP hg;rw[hd,fA]at i3
   have pb:=plB y.id p.len;have hbc:=uD (gG y.id p.len);simp -dsimp[hiz,hg',Ed.cs];try refine⟨?_,⟨by kernel_rfl⟩⟩
   and_intros;all_goals try first|rfl|omega|exact⟨by kernel_rfl⟩
   refine ah.of (kU y.id p.len) [] 0 ?_;simp only[eH];generalize fJ y.id p.len=sy at i3 pb;generalize gG y.id p.len=QS at i3 pb hbc;by_cases c0:sy=S
   ·rw[if_pos c0]at i3
    simp -dsimp[hiz,hg',Ed.cs,eH,eq_true c0];try refine⟨?_,⟨by kernel_rfl⟩⟩
    refine ah.of (bn T3 i2 4 ⟨by omega,by omega⟩) [.x 0] 0 ?_;have n1:=aC T3 4;have kS:ak (au T3 4).2:=by simpa using i2
    generalize au T3 4=m4 at n1 kS i3⊢;obtain⟨m4,T4⟩:=m4;simp only at n1 kS i3⊢;by_cases c1:0<m4
    ·rw[if_pos c1]at i3
     simp -dsimp[c1];try refine⟨?_,⟨by kernel_rfl⟩⟩
     refine ah.of hbc [] 0 ?_;simp -dsimp[bv,wrap_i64 (n:=(i:Int)+1) (by omega) (by omega)];try refine⟨?_,⟨by kernel_rfl⟩⟩
     and_intros;all_goals try first|rfl|omega|exact⟨by kernel_rfl⟩
     exact⟨⟨(i+1,T4,B|||lS QS),by dsimp only;omega,kS,i3⟩,GS.to (by simp),by simp;omega⟩
    ·rw[if_neg c1]at i3
     simp -dsimp[c1,wrap_i64 (n:=(i:Int)+1) (by omega) (by omega)];try refine⟨?_,⟨by kernel_rfl⟩⟩
     and_intros;all_goals try first|rfl|omega|exact⟨by kernel_rfl⟩
     exact⟨⟨(i+1,T4,B),by dsimp only;omega,kS,i3⟩,GS.to (by simp),by simp;omega⟩
   ·rw[if_neg c0]at i3
    simp -dsimp[hiz,hg',Ed.cs,eH,eq_false c0,wrap_i64 (n:=(i:Int)+1) (by omega) (by omega)];try refine⟨?_,⟨by kernel_rfl⟩⟩
    and_intros;all_goals try first|rfl|omega|exact⟨by kernel_rfl⟩
    exact⟨⟨(i+1,T3,B),by dsimp only;omega,i2,i3⟩,GS.to (by simp),by simp;omega⟩
  ·have hiz :¬(i:Int)<p.es.length:=by omega
   have e1:p.es.drop i = []:=List.drop_eq_nil_of_le (by omega);rw[e1,fA]at i3
   subst i3;simp -dsimp[hiz];try refine⟨?_,⟨by kernel_rfl⟩⟩
   refine ah.of (gK T3 i2 6 ⟨by omega,by omega⟩ ⟨by omega,by omega⟩) [.x 0] 0 ?_;have kO:ak (dD T3 6).2:=by simpa using i2
   generalize dD T3 6=o at kO⊢;obtain⟨o,T5⟩:=o;simp only at kO⊢;rcases (Bool.eq_false_or_eq_true o).symm with ho|ho
   ·subst ho;simp -dsimp;try refine⟨?_,⟨by kernel_rfl⟩⟩
    refine Fin.box (.o 4) rfl ?_;simp -dsimp;try refine⟨?_,⟨by kernel_rfl⟩⟩
    refine Fin.of ?_;simp[Pk.for,bv]
   ·subst ho;simp -dsimp;try refine⟨?_,⟨by kernel_rfl⟩⟩
    refine ah.of (zF T5 kO p.len hl) [.x 0] 0 ?_;generalize kE T5 p.len=gb;simp -dsimp[bv];try refine⟨?_,⟨by kernel_rfl⟩⟩
    refine Fin.box (.o 4) rfl ?_;simp -dsimp;try refine⟨?_,⟨by kernel_rfl⟩⟩
    refine Fin.of ?_;simp[Pk.for,bv]
def lK(l:List Tb)(p:Pk)(r:Int):Int:=(nK l p r).2
theorem Ig(l:List Tb)(hl:DL l)(p:Pk)(r:Int):Contract Tryz.prog 118 [.d (.sl (oq l)),dX p,.d (.int .i64 r)] [] (.d (.int .i64 (lK l p r))) [] []:=by
 have hck:=tZ l hl;have hv:=o9 p;have hf:=CO l hl r;simp only[dX,Pk.cs,List.map]at hv;refine aj Tryz.func118 rfl (fun E0=>?_);refine cO.sound (g:=.mk) (ow:=[]) (kp:=(fun k=>k==0||k==1||k==2||k==4||k==6||k==7||k==8||k==16||k==24||k==27||k==39)) ?_;rw[Tryz.ntmps118];simp -dsimp[dX,Pk.cs];try refine⟨?_,⟨by kernel_rfl⟩⟩
 refine ah.of hck [] 0 ?_;by_cases h1:nR l=0
 rotate_left
 ·simp -dsimp[h1];try refine⟨?_,⟨by kernel_rfl⟩⟩
  refine Fin.of ?_;simp[lK,nK,h1]
 rcases (Bool.eq_false_or_eq_true p.ok).symm with h2|h2
 ·simp -dsimp[h1];try refine⟨?_,⟨by kernel_rfl⟩⟩
  refine ah.of hv [] 0 ?_;simp -dsimp[h2];try refine⟨?_,⟨by kernel_rfl⟩⟩
  refine Fin.of ?_;simp[lK,nK,h1,h2]
 simp -dsimp[h1];try refine⟨?_,⟨by kernel_rfl⟩⟩
 refine ah.of hv [] 0 ?_;cases hfd:bH l r with
 | none=>
   rw[hfd]at hf
   simp only[su,Option.getD_none,Option.isSome_none,tb0,bZ]at hf;simp -dsimp[h2];try refine⟨?_,⟨by kernel_rfl⟩⟩
   refine ah.of hf [] 0 ?_;simp -dsimp;try refine⟨?_,⟨by kernel_rfl⟩⟩
   refine Fin.of ?_;simp[lK,nK,h1,h2,hfd]
 | some b=>
   rw[hfd]at hf
   simp only[su,Option.getD_some,Option.isSome_some,bZ]at hf;simp -dsimp[h2];try refine⟨?_,⟨by kernel_rfl⟩⟩
   refine ah.of hf [] 0 ?_;by_cases h3:p.mode=2
   ·simp -dsimp[eq_true h3];try refine⟨?_,⟨by kernel_rfl⟩⟩
    refine Fin.of ?_;simp[lK,nK,h1,h2,hfd,h3]
   by_cases h4:p.bF=b.sd
   rotate_left
   ·simp -dsimp[h3,h4];try refine⟨?_,⟨by kernel_rfl⟩⟩
    refine Fin.of ?_;simp[lK,nK,h1,h2,hfd,h3,h4]
   by_cases h5:p.len=b.len
   rotate_left
   ·simp -dsimp[h3,eq_true h4,h5];try refine⟨?_,⟨by kernel_rfl⟩⟩
    refine Fin.of ?_;simp[lK,nK,h1,h2,hfd,h3,h4,h5]
   simp -dsimp[h3,eq_true h4,eq_true h5];try refine⟨?_,⟨by kernel_rfl⟩⟩
   refine Fin.of ?_;simp[lK,nK,h1,h2,hfd,h3,h4,h5]
def wE(t:dQ):List (Nat×It):=[(900,.row 92 11 (dd (t.dl.map lT)) false),(901,.row 96 3 (dd (t.cr.map lJ)) false),(902,.row 176 2 (dd (t.ls.map qO)) false)]
def iM(t:dQ)(r:Int)(p:Pk)(o:Out):dQ:=⟨t.dl++nI r o p,t.cr++o.g_.map (fun c=>(r,c.1,c.2.bits)),if o.lost=0#64 then t.ls else t.ls++[(r,o.lost)]⟩
theorem IJ(t:dQ)(h1:t.dl.length≤1000000)(h2:t.cr.length≤1000000)(h3:t.ls.length≤1000000)(r:Int)(p:Pk)(o:Out)(ho:o.g_.length≤64):
  jT Tryz.prog 119 [.agg [.aB 900 t.dl.length,.aB 901 t.cr.length,.aB 902 t.ls.length],.d (.int .i64 r),dX p,outT o] [] (wE t) (.agg [.aB 900 (iM t r p o).dl.length,.aB 901 (iM t r p o).cr.length,.aB 902 (iM t r p o).ls.length]) [] (wE (iM t r p o)):=by
 have hlc:=OC r o p;simp only[outT,dX,Pk.cs,List.map]at hlc;refine t_ Tryz.func119 rfl (fun E0=>?_);refine cO.sound (g:=.mk) (ow:=[]) (kp:=(fun k=>k==0||k==1||k==2||k==3||k==4||k==6||k==7||k==8||k==9||k==20||k==34)) ?_;rw[Tryz.ntmps119];simp -dsimp[dX,Pk.cs,outT,wE];try refine⟨?_,⟨by kernel_rfl⟩⟩
 refine ah.of hlc [] 0 ?_;have hll:(nI r o p).length≤64:=by unfold nI;rw[List.length_map];exact iT _
 have hn0:iM t r p o=⟨t.dl++nI r o p,t.cr++o.g_.map (fun c=>(r,c.1,c.2.bits)),if o.lost=0#64 then t.ls else t.ls++[(r,o.lost)]⟩:=rfl;rw[hn0];clear hn0;generalize nI r o p=LV at hll⊢;have hdl:dLen 11 (LV.map lT):=iF 11 _ _ fun _=>rfl
 obtain⟨lC,fP,bP⟩:=o;simp only at ho⊢;have Yz:(bP.map fun c=>(r,c.1,c.2.bits)).length=bP.length:=by simp
 have hCg:∀(j:Nat) (c:Int×Pk),bP[j]? = some c→(bP.map fun c=>(r,c.1,c.2.bits))[j]? = some (r,c.1,c.2.bits):=fun j c h=>by simp[h]
 generalize (bP.map fun c=>(r,c.1,c.2.bits))=Ba at Yz hCg⊢;by_cases c0:fP=0#64
 ·simp -dsimp[c0,bv];and_intros;all_goals try first|omega|exact hdl|exact rfl|exact⟨by kernel_rfl⟩
  refine aN.of [] (fun k=>k==0||k==1||k==2||k==3||k==4||k==6||k==7||k==8||k==9||k==20||k==34) (ι:={j:Nat // j≤bP.length})
   (fun j=>[(Pl.s 1,It.v (.d (.int .i64 r))),
    (Pl.o 900,It.row 92 11 (dd (t.dl.map lT)++dd (LV.map lT)) false),(Pl.o 901,It.row 96 3 (dd (t.cr.map lJ)++dd (List.take j.1 (Ba.map lJ))) false),(Pl.o 902,It.row 176 2 (dd (t.ls.map qO)) false),
    (Pl.o 4,It.box [TV.aB 900 (t.dl.length+LV.length),TV.aB 901 (t.cr.length+j.1),TV.aB 902 (t.ls.length)]),(Pl.s 4,It.v (.ptr (Pl.o 4) 0)),
    (Pl.o 7,It.box [TV.d (.int IntKind.u64 (tn lC)),TV.d (.int IntKind.u64 (tn fP)),TV.d (.sl (List.map DI bP))]),(Pl.s 7,It.v (.ptr (Pl.o 7) 0)),
    (Pl.o 8,It.box [TV.c (Value.slice none 0 0),TV.c (Value.slice none 0 0),TV.c (Value.slice none 0 0)]),(Pl.s 8,It.v (.ptr (Pl.o 8) 0)),(Pl.s 9,It.v (.d (.int .i64 j.1)))])
   (fun j=>bP.length-j.1) ⟨0,by omega⟩ ?_ ?_
  ·exact GS.to (by simp[c0])
  ·rintro⟨j,j1⟩;by_cases hj:j<bP.length
   ·have hjz:(j:Int)<bP.length:=by omega
    have hg:bP[j]? = some bP[j]:=List.getElem?_eq_getElem hj;have hcg:=hCg j _ hg;generalize bP[j]=c at hg hcg;obtain⟨c1,c2⟩:=c;have hn1:dd (List.take (j+1) (Ba.map lJ))=dd (List.take j (Ba.map lJ))++[[TV.d (.int .i64 r),TV.d (.int .i64 c1),TV.d (bv c2.bits)]]:=by
     rw[List.take_add_one,List.getElem?_map,hcg];simp[dd,lJ]
    have hm1:min j Ba.length=j:=by omega
    simp -dsimp[hg,hjz,DI,Pk.cs,bv,hm1,wrap_i64 (n:=(j:Int)+1) (by omega) (by omega)];and_intros;all_goals try first|omega|exact⟨by kernel_rfl⟩
    exact⟨⟨j+1,by omega⟩,GS.to (by simp[hn1,bv,Nat.add_assoc]),by simp;omega⟩
   ·have hjz :¬(j:Int)<bP.length:=by omega
    obtain rfl:j=bP.length:=by omega
    have ht1:List.take bP.length (Ba.map lJ)=Ba.map lJ:=List.take_of_length_le (by simp;omega);simp -dsimp[hjz];try refine⟨?_,⟨by kernel_rfl⟩⟩
    refine Fin.of ?_;simp[ht1,c0,Yz,qO,bv,wE]
 ·simp -dsimp[c0,bv];and_intros;all_goals try first|omega|exact hdl|exact rfl|exact⟨by kernel_rfl⟩
  refine aN.of [] (fun k=>k==0||k==1||k==2||k==3||k==4||k==6||k==7||k==8||k==9||k==20||k==34) (ι:={j:Nat // j≤bP.length})
   (fun j=>[(Pl.s 1,It.v (.d (.int .i64 r))),
    (Pl.o 900,It.row 92 11 (dd (t.dl.map lT)++dd (LV.map lT)) false),(Pl.o 901,It.row 96 3 (dd (t.cr.map lJ)++dd (List.take j.1 (Ba.map lJ))) false),(Pl.o 902,It.row 176 2 (dd (t.ls.map qO)++[[TV.d (.int .i64 r),TV.d (.int .u64 (tn fP))]]) false),
    (Pl.o 4,It.box [TV.aB 900 (t.dl.length+LV.length),TV.aB 901 (t.cr.length+j.1),TV.aB 902 (t.ls.length+1)]),(Pl.s 4,It.v (.ptr (Pl.o 4) 0)),
    (Pl.o 7,It.box [TV.d (.int IntKind.u64 (tn lC)),TV.d (.int IntKind.u64 (tn fP)),TV.d (.sl (List.map DI bP))]),(Pl.s 7,It.v (.ptr (Pl.o 7) 0)),
    (Pl.o 8,It.box [TV.c (Value.slice none 0 0),TV.c (Value.slice none 0 0),TV.c (Value.slice none 0 0)]),(Pl.s 8,It.v (.ptr (Pl.o 8) 0)),(Pl.s 9,It.v (.d (.int .i64 j.1)))])
   (fun j=>bP.length-j.1) ⟨0,by omega⟩ ?_ ?_
  ·exact GS.to (by simp[c0])
  ·rintro⟨j,j1⟩;by_cases hj:j<bP.length
   ·have hjz:(j:Int)<bP.length:=by omega
    have hg:bP[j]? = some bP[j]:=List.getElem?_eq_getElem hj;have hcg:=hCg j _ hg;generalize bP[j]=c at hg hcg;obtain⟨c1,c2⟩:=c;have hn1:dd (List.take (j+1) (Ba.map lJ))=dd (List.take j (Ba.map lJ))++[[TV.d (.int .i64 r),TV.d (.int .i64 c1),TV.d (bv c2.bits)]]:=by
     rw[List.take_add_one,List.getElem?_map,hcg];simp[dd,lJ]
    have hm1:min j Ba.length=j:=by omega
    simp -dsimp[hg,hjz,DI,Pk.cs,bv,hm1,wrap_i64 (n:=(j:Int)+1) (by omega) (by omega)];and_intros;all_goals try first|omega|exact⟨by kernel_rfl⟩
    exact⟨⟨j+1,by omega⟩,GS.to (by simp[hn1,bv,Nat.add_assoc]),by simp;omega⟩
   ·have hjz :¬(j:Int)<bP.length:=by omega
    obtain rfl:j=bP.length:=by omega
    have ht1:List.take bP.length (Ba.map lJ)=Ba.map lJ:=List.take_of_length_le (by simp;omega);simp -dsimp[hjz];try refine⟨?_,⟨by kernel_rfl⟩⟩
    refine Fin.of ?_;simp[ht1,c0,Yz,qO,bv,wE]
set_option linter.unusedVariables false
noncomputable def jU(g:ay)(l:List Tb)(k:Nat):Nat→Int×Fr→dQ
 | 0,_=>gX
 | n+1,(r,⟨x::w,p⟩)=>if(price g.ls r x).isSome then(⟨[],[(r,x,p.bits)],[]⟩:dQ).app (jU g l k n (x,⟨w,p⟩))else ⟨[],[],[(r,p.bits)]⟩
 | n+1,(r,⟨[],p⟩)=>match bH l r with
   | none=>⟨[],[],[(r,p.bits)]⟩
   | some b=>if aF b p k=0 then ⟨[],[],[(r,(iD g l (r,⟨[],p⟩)).lost)]⟩
     else if aF b p k=b.r then ⟨[(r,f_ p k)],[],[]⟩
     else if p.ttl=0 then ⟨[],[],[(r,(iD g l (r,⟨[],p⟩)).lost)]⟩
     else match jZ g r (aF b p k,qJ b p (aF b p k))with
      | none=>⟨[],[],[(r,(iD g l (r,⟨[],p⟩)).lost)]⟩
      | some x=>(⟨[],[(r,x.1,x.2.pk.bits)],[]⟩:dQ).app (jU g l k n x)
theorem pU(g:ay)(l:List Tb)(k n:Nat)(r x:Int)(w:List Int)(p:Pk):jU g l k (n+1) (r,⟨x::w,p⟩) =
  if(price g.ls r x).isSome then(⟨[],[(r,x,p.bits)],[]⟩:dQ).app (jU g l k n (x,⟨w,p⟩))else ⟨[],[],[(r,p.bits)]⟩:=by rw[jU]
theorem oJ{g:ay}{l:List Tb}{k n:Nat}{r:Int}{p:Pk}(h:bH l r=none):jU g l k (n+1) (r,⟨[],p⟩)=⟨[],[],[(r,p.bits)]⟩:=by rw[jU];simp only[h]
theorem iU{g:ay}{l:List Tb}{k n:Nat}{r:Int}{p:Pk}{b:Tb}(h:bH l r=some b):jU g l k (n+1) (r,⟨[],p⟩) =
  if aF b p k=0 then ⟨[],[],[(r,(iD g l (r,⟨[],p⟩)).lost)]⟩
   else if aF b p k=b.r then ⟨[(r,f_ p k)],[],[]⟩
   else if p.ttl=0 then ⟨[],[],[(r,(iD g l (r,⟨[],p⟩)).lost)]⟩
   else match jZ g r (aF b p k,qJ b p (aF b p k))with
    | none=>⟨[],[],[(r,(iD g l (r,⟨[],p⟩)).lost)]⟩
    | some x=>(⟨[],[(r,x.1,x.2.pk.bits)],[]⟩:dQ).app (jU g l k n x):=by rw[jU];simp only[h]
def iJ(f:Fr):Nat:=f.pk.ttl.toNat*26+f.rt.length+1
noncomputable def alg(g:ay)(l:List Tb)(k:Nat):List (Int×Fr)→dQ
 | []=>gX
 | q::_=>jU g l k (iJ q.2) q
theorem AY{g:ay}{l:List Tb}{q:Int×Fr}(h:w_ g l q)(hloc:∀k<64,(iD g l q).loc.getLsbD k=true→q.2.pk.bits.getLsbD k=true)(t:dQ){k:Nat}(hk:k<64):
  (jw g l q t).at k=(t.at k).app ⟨if(iD g l q).loc.getLsbD k=true then [(q.1,f_ q.2.pk k)]else [],((eP g l q).filter fun c=>c.2.pk.bits.getLsbD k).map (fun c=>(q.1,c.1,c.2.pk.bits)),if(iD g l q).lost.getLsbD k=true then [(q.1,(iD g l q).lost)]else []⟩:=by
 simp only[jw,dQ.at,dQ.app,List.filter_append];rw[Au,Gx h.fit.ok hloc q.1 hk,Gy,List.filter_map];rfl
theorem Je{g:ay}{l:List Tb}{q:Int×Fr}(h:w_ g l q)(t:dQ){k:Nat}(hk:k<64)(hq:q.2.pk.bits.getLsbD k=true){m:Nat}(hm:iJ q.2≤m+1):
  ((eP g l q).filter fun c=>c.2.pk.bits.getLsbD k).length≤1∧(∀c∈(eP g l q).filter fun c=>c.2.pk.bits.getLsbD k,iJ c.2≤m)∧
  ((jw g l q t).at k).app (match (eP g l q).filter fun c=>c.2.pk.bits.getLsbD k with|[]=>gX|c::_=>jU g l k m c)=(t.at k).app (jU g l k (m+1) q):=by
 rw[AY h (Dh h) t hk,dQ.zC];obtain⟨r,f,p⟩:=q;cases f with
 | cons n w=>
   unfold eP;rw[pJ h];simp only at hq;rw[pU];unfold qP;split
   ·simp only[iJ,List.length_cons]at hm;simp[List.filter_cons,hq,dQ.app,gX,iJ];omega
   ·simp[hq,dQ.app,gX]
 | nil=>
   simp only at hq;cases hf:bH l r with
   | none=>
     unfold eP;rw[uO h hf,oJ hf];simp[hq,dQ.app,gX]
   | some b=>
     have hb:=h.fit.all b (eY hf).1;obtain⟨hl,hn,hs⟩:=Df h hf hk;simp only[hq,true_and]at hl hn hs;rw[hn,iU hf];by_cases c0:aF b p k=0
     ·have l1 :¬(iD g l (r,⟨[],p⟩)).loc.getLsbD k=true:=fun a=>(hl.1 a).1 c0
      have l2:(iD g l (r,⟨[],p⟩)).lost.getLsbD k=true:=hs.2 (.inl c0);rw[if_neg l1,if_neg (fun a=>a.2.1 c0),if_pos l2,if_pos c0];simp[dQ.app,gX]
     by_cases c1:aF b p k=b.r
     ·have l1:(iD g l (r,⟨[],p⟩)).loc.getLsbD k=true:=hl.2 ⟨c0,c1⟩;have l2 :¬(iD g l (r,⟨[],p⟩)).lost.getLsbD k=true:=fun a=>by
       rcases hs.1 a with a|a
       ·exact c0 a
       ·exact a.1 c1
      rw[if_pos l1,if_neg (fun a=>a.2.2 c1),if_neg l2,if_neg c0,if_pos c1];simp[dQ.app,gX]
     have l1 :¬(iD g l (r,⟨[],p⟩)).loc.getLsbD k=true:=fun a=>c1 (hl.1 a).2
     by_cases c2:p.ttl=0
     ·have l2:(iD g l (r,⟨[],p⟩)).lost.getLsbD k=true:=hs.2 (.inr ⟨c1,.inl c2⟩);rw[if_neg l1,if_neg (fun a=>a.1 c2),if_pos l2,if_neg c0,if_neg c1,if_pos c2];simp[dQ.app,gX]
     ·rw[if_neg l1,if_pos ⟨c2,c0,c1⟩,if_neg c0,if_neg c1,if_neg c2];cases hx:jZ g r (aF b p k,qJ b p (aF b p k))with
      | none=>
        have l2:(iD g l (r,⟨[],p⟩)).lost.getLsbD k=true:=hs.2 (.inr ⟨c1,.inr hx⟩);rw[if_pos l2];simp[dQ.app,gX]
      | some x=>
        have l2 :¬(iD g l (r,⟨[],p⟩)).lost.getLsbD k=true:=fun a=>by
         rcases hs.1 a with a|a
         ·exact c0 a
         ·rcases a.2 with a|a
          ·exact c2 a
          ·rw[hx]at a;simp at a
        rw[if_neg l2];have ht:=qA h.fit.ok;simp only at ht;obtain⟨x1,x2,x3⟩:=qU hx;have e:(qJ b p (aF b p k)).ttl.toNat+1=p.ttl.toNat:=by simp only[qJ,ji];omega
        simp only[Option.toList_some,List.length_singleton,List.mem_singleton,forall_eq,List.map_cons,List.map_nil];refine⟨by omega,?_,?_⟩
        ·simp only[iJ,x1,List.length_nil]at hm⊢;omega
        ·simp[dQ.app]
theorem FM{g:ay}{l:List Tb}{q:Int×Fr}(h:w_ g l q)(t:dQ){k:Nat}(hk:k<64)(hq :¬q.2.pk.bits.getLsbD k=true):
  ((eP g l q).filter fun c=>c.2.pk.bits.getLsbD k) = []∧(jw g l q t).at k=t.at k:=by
 rw[AY h (Dh h) t hk];obtain⟨r,f,p⟩:=q;simp only[Bool.not_eq_true]at hq;cases f with
 | cons n w=>
   unfold eP;rw[pJ h];unfold qP;split
   ·simp[List.filter_cons,hq,dQ.app]
   ·simp[hq,dQ.app]
 | nil=>
   cases hf:bH l r with
   | none=>
     unfold eP;rw[uO h hf];simp[hq,dQ.app]
   | some b=>
     obtain⟨hl,hn,hs⟩:=Df h hf hk;simp only[hq,Bool.false_eq_true,false_and,iff_false,if_false]at hl hn hs;rw[hn,if_neg hl,if_neg hs];exact⟨rfl,by simp[dQ.app]⟩
theorem vF(g:ay)(l:List Tb){k:Nat}(hk:k<64):∀(n:Nat) (Q:List (Int×Fr)) (t:dQ) (m:Nat),tH Q≤n→(∀q∈Q,w_ g l q)→(Q.filter fun c=>c.2.pk.bits.getLsbD k).length≤1→
  (∀q∈Q.filter (fun c=>c.2.pk.bits.getLsbD k),iJ q.2≤m)→
  (pR g l n Q t).at k=(t.at k).app (match Q.filter fun c=>c.2.pk.bits.getLsbD k with|[]=>gX|c::_=>jU g l k m c)
 | 0,Q,t,m,h,_,_,_=>by
   have:=xC Q;obtain rfl:Q = []:=List.length_eq_zero_iff.1 (by omega);simp[lN,dQ.u_]
 | n+1,[],t,m,_,_,_,_=>by simp[lN,dQ.u_]
 | n+1,q::Q,t,m,h,hF,h1,h2=>by
   have hq:=yY g l q;rw[tq]at h
   have MB:=hF q (by simp);have hF':∀c∈Q++eP g l q,w_ g l c:=fun c hc=>by
    rcases List.mem_append.1 hc with hc|hc
    ·exact hF c (by simp[hc])
    ·exact yZ MB c hc
   rw[pR];have hw:tH (Q++eP g l q)≤n:=by rw[xI];omega
   by_cases hb:q.2.pk.bits.getLsbD k=true
   ·rw[List.filter_cons,if_pos hb]at h1 h2⊢
    simp only[List.length_cons]at h1;have hQ:Q.filter (fun c=>c.2.pk.bits.getLsbD k) = []:=List.length_eq_zero_iff.1 (by omega);have hm:=h2 q (by simp);obtain⟨m',rfl⟩:∃m',m=m'+1:=⟨m-1,by unfold iJ at hm;omega⟩
    obtain⟨a1,a3,a2⟩:=Je MB t hk hb hm;rw[vF g l hk n _ _ m' hw hF' (by rw[List.filter_append,hQ];simpa using a1) (by rw[List.filter_append,hQ,List.nil_append];exact a3),List.filter_append,hQ,List.nil_append,a2]
   ·rw[List.filter_cons,if_neg hb]at h1 h2⊢
    obtain⟨a1,a2⟩:=FM MB t hk hb;rw[vF g l hk n _ _ m hw hF' (by rw[List.filter_append,a1,List.append_nil];exact h1) (by rw[List.filter_append,a1,List.append_nil];exact h2),List.filter_append,a1,List.append_nil,a2]
theorem GZ{g:ay}{l:List Tb}{r:Int}{p:Pk}(h:w_ g l (r,⟨[],p⟩)){k:Nat}(hk:k<64)(hb:p.bits.getLsbD k=true):(runT g l r p).at k=jU g l k (iJ ⟨[],p⟩) (r,⟨[],p⟩):=by
 unfold runT;rw[vF g l hk _ _ _ (iJ ⟨[],p⟩) (by simp[tH]) (by simpa using h) (by simp[List.filter_cons];split<;>simp) (by simp[List.filter_cons,hb])];simp[List.filter_cons,hb,dQ.at,gX,dQ.app]
theorem Dq{g:ay}{l:List Tb}{r:Int}{p:Pk}(h:w_ g l (r,⟨[],p⟩)){k:Nat}(hk:k<64)(hb :¬p.bits.getLsbD k=true):(runT g l r p).at k=gX:=by
 unfold runT;rw[vF g l hk _ _ _ (iJ ⟨[],p⟩) (by simp[tH]) (by simpa using h) (by simp[List.filter_cons,hb]) (by simp[List.filter_cons,hb])];simp[List.filter_cons,hb,dQ.at,gX,dQ.app]
theorem AU{g:ay}{l:List Tb}{I:List (Int×Fr)→dQ→Prop}(hs:∀q Q t,I (q::Q) t→I (Q++eP g l q) (jw g l q t)):∀(n:Nat) (Q:List (Int×Fr)) (t:dQ),tH Q≤n→I Q t→I [] (pR g l n Q t)
 | 0,Q,t,h,hI=>by
   have:=xC Q;obtain rfl:Q = []:=List.length_eq_zero_iff.1 (by omega);rw[lN];exact hI
 | n+1,[],t,_,hI=>by rw[lN];exact hI
 | n+1,q::Q,t,h,hI=>by
   have hq:=yY g l q;rw[tq]at h
   rw[pR];exact AU hs n _ _ (by rw[xI];omega) (hs q Q t hI)
theorem zf{g:ay}{l:List Tb}{r:Int}{p:Pk}(h:w_ g l (r,⟨[],p⟩))(hr:(bH l r).isSome):Wi g l [] (runT g l r p):=
 AU (I:=Wi g l) (fun q Q t h=>h.step) _ _ _ (by simp[tH]) ⟨fun q hq=>by
  simp only[List.mem_singleton]at hq;subst hq;exact⟨h,fun e=>by rcases e with e|e<;>simp[e]at hr e⟩,by simp[gX],by simp[gX],by simp[gX]⟩
theorem DC(g:ay)(l:List Tb)(k:Nat):∀(m:Nat) (q:Int×Fr),w_ g l q→iJ q.2≤m→(jU g l k m q).dl.length+(jU g l k m q).ls.length=1
 | 0,q,_,h=>by unfold iJ at h;omega
 | m+1,(r,⟨x::w,p⟩),hI,h=>by
   rw[pU];split
   ·rename_i hp;have hn:(x,(⟨w,p⟩:Fr))∈eP g l (r,⟨x::w,p⟩):=by
     unfold eP;rw[pJ hI];unfold qP;rw[if_pos hp];simp
    have:=DC g l k m (x,⟨w,p⟩) (yZ hI _ hn) (by simp only[iJ,List.length_cons]at h⊢;omega);simpa[dQ.app]using this
   ·rfl
 | m+1,(r,⟨[],p⟩),hI,h=>by
   cases hf:bH l r with
   | none=>rw[oJ hf];rfl
   | some b=>
     rw[iU hf];split
     ·rfl
     split
     ·rfl
     split
     ·rfl
     rename_i c2;cases hx:jZ g r (aF b p k,qJ b p (aF b p k))with
     | none=>rfl
     | some x=>
       obtain⟨x1,x2,x3⟩:=qU hx;have ht:=qA hI.fit.ok;simp only at ht;have e:(qJ b p (aF b p k)).ttl.toNat+1=p.ttl.toNat:=by simp only[qJ,ji];omega
       obtain⟨d,hg⟩:=BQ hx;have hn:=List.nodup_cons.1 (List.nodup_cons.1 d.nodup).2;have hF:w_ g l x:=⟨hI.top,hI.tab,by rw[x1];exact hI.fit.mask c2 _,d.has _ (by simp),hn.2,fun y hy=>d.has y (by simp[hy])⟩
       have:=DC g l k m x hF (by simp only[iJ,x1,List.length_nil]at h⊢;omega);simpa[dQ.app]using this
theorem O3{g:ay}{l:List Tb}{r:Int}{p:Pk}(h:w_ g l (r,⟨[],p⟩))(hr:(bH l r).isSome):EM (runT g l r p) p.bits=true:=by
 have hA:=zf h hr;refine WS hA.dl hA.ls fun k hk=>?_
 by_cases hb:p.bits.getLsbD k=true
 ·have e:=GZ h hk hb;rw[if_pos hb,←DC g l k (iJ ⟨[],p⟩) (r,⟨[],p⟩) h (Nat.le_refl _),←e];rfl
 ·have e:=Dq h hk hb;rw[if_neg hb];have h1:((runT g l r p).at k).dl = []:=by rw[e];rfl
  have h2:((runT g l r p).at k).ls = []:=by rw[e];rfl
  simp only[dQ.at]at h1 h2;rw[h1,h2];rfl
theorem dU{n:Int}(h:aG n=true):n=8∨n=16∨n=32∨n=64:=by
 simp[aG]at h;omega
theorem lY{len:Int}(hl:aG len=true){k:Nat}(hk:k<64):(tN len).getLsbD k=decide ((k:Int)<len):=by
 have:=dU hl;rw[tN,if_pos hl,zK hk _ (by omega)]
 congr 1
 rw[eq_iff_iff];omega
theorem wY{B:BitVec 64}{len:Int}(hl:aG len=true)(h:∀k<64,B.getLsbD k=true→(k:Int)<len):nG B len=true:=by
 simp only[nG,hl,Bool.true_and,decide_eq_true_eq];apply BitVec.eq_of_getLsbD_eq;intro k hk;rw[BitVec.getLsbD_and,BitVec.getLsbD_not,lY hl hk];simp only[hk,decide_true,Bool.true_and,BitVec.getLsbD_zero];cases hb:B.getLsbD k with
 | false=>rfl
 | true=>simp[h k hk hb]
theorem yE{j:Int}{k:Nat}(hk:k<64):(lS j).getLsbD k=true↔(k:Int)=j:=by
 unfold lS;split
 ·rename_i h;simp;omega
 ·rename_i h;rw[wrap_u64 (by omega) (by omega),j_ (by omega) hk];simp;omega
theorem y7{id len:Int}(hl:aG len=true):gG id len<len∧0≤gG id len:=by
 have:=dU hl;unfold gG;split
 ·have h1:=Int.emod_lt_of_pos (id-1) (b:=len) (by omega);have h2:=Int.emod_nonneg (id-1) (b:=len) (by omega);omega
 ·omega
theorem uH{id len:Int}(hl:aG len=true):0≤fJ id len∧fJ id len≤31:=by
 have:=dU hl;unfold fJ;split
 ·rename_i h;simp only[Bool.and_eq_true,inB,decide_eq_true_eq]at h;have h1:0≤(id-1)/len:=Int.ediv_nonneg (by omega) (by omega);have h2:(id-1)/len≤(id-1)/8:=by
   rcases this with rfl|rfl|rfl|rfl<;>omega
  omega
 ·omega
theorem iE{len set:Int}(hl:aG len=true):∀(es:List Ed) (T:Tp) (B:BitVec 64),(∀k<64,B.getLsbD k=true→(k:Int)<len)→∀k<64,(fA len set es T B).1.getLsbD k=true→(k:Int)<len
 | [],_,_,h=>h
 | e::es,T,B,h=>by
   rw[fA];split
   ·split
    ·refine iE hl es _ _ fun k hk hb=>?_
     rcases (or_bit B (lS (gG e.id len))).1 hb with hb|hb
     ·exact h k hk hb
     ·have:=(yE hk).1 hb;have:=(y7 (id:=e.id) hl).1;omega
    ·exact iE hl es _ _ h
   ·exact iE hl es _ _ h
theorem uf(T:Tp){len:Int}(hl:aG len=true):∀k<64,(kE T len).1.getLsbD k=true→(k:Int)<len:=fun k hk hb=>by
 have key:∀X:BitVec 64,(X&&&tN len).getLsbD k=true→(k:Int)<len:=fun X hX=>by
  rw[BitVec.getLsbD_and,Bool.and_eq_true,lY hl hk]at hX
  simpa using hX.2
 unfold kE at hb;dsimp only at hb;split at hb
 ·simp at hb
 split at hb
 ·exact key _ hb
 split at hb
 ·exact key _ hb
 ·exact key _ hb
theorem zV(p:Pk):p.ok=true↔(1≤p.mode∧p.mode≤3)∧(0≤p.bF∧p.bF≤7)∧(0≤p.set∧p.set≤31)∧nG p.bits p.len=true∧(0≤p.ttl∧p.ttl≤63)∧(0≤p.ent∧p.ent≤1023)∧(0≤p.ing∧p.ing≤256)∧(0≤p.proto∧p.proto≤7)∧p.pay.size≤64:=by
 simp[Pk.ok,wS,and_assoc]
theorem yL{p:Pn}{q:Pk}(hs:0≤p.bF∧p.bF≤7)(hl:aG p.len=true)(hq:(0≤q.ttl∧q.ttl≤63)∧(0≤q.ent∧q.ent≤1023)∧(0≤q.ing∧q.ing≤256)∧(0≤q.proto∧q.proto≤7)∧q.pay.size≤64){set:Int}(hset:0≤set∧set≤31)
  {B:BitVec 64} (hB:∀k<64,B.getLsbD k=true→(k:Int)<p.len):zo p (q.for p.bF p.len set B):=by
 have hv:=wY hl hB;exact⟨(zV _).2 ⟨⟨by show(1:Int)≤1;omega,by show(1:Int)≤3;omega⟩,hs,hset,hv,hq.1,hq.2.1,hq.2.2.1,hq.2.2.2.1,hq.2.2.2.2⟩,rfl,rfl,rfl⟩
theorem oZ(T:Tp):bY T 0=Bg T:=by
 simp[bY]
theorem ug(T:Tp){p:Pn}(hs:0≤p.bF∧p.bF≤7)(hl:aG p.len=true):zo p (mM T p).1:=by
 have hpk:∀q,q=(bY T 0).1→(0≤q.ttl∧q.ttl≤63)∧(0≤q.ent∧q.ent≤1023)∧(0≤q.ing∧q.ing≤256)∧(0≤q.proto∧q.proto≤7)∧q.pay.size≤64:=fun q hq=>by
  rw[oZ]at hq
  obtain⟨L,m,d,s,t,e,i,pr,y,B,w,T',h1,_,h2,h3,h4,h5,h6,_⟩:=um T;rw[h1]at hq
  subst hq;exact⟨h2,h3,h4,h5,by simp only;omega⟩
 have hset:∀T',0≤(jB T' p).1∧(jB T' p).1≤31:=fun T'=>by
  unfold jB;split
  ·simp
  ·exact uH hl
 unfold mM;simp only;have hq:=hpk _ rfl;have hb:=iE (set:=(jB (bY T 0).2 p).1) hl p.es (jB (bY T 0).2 p).2 0#64 (by simp);split
 ·refine yL hs hl hq (hset _) fun k hk hk2=>?_
  rcases (or_bit _ _).1 hk2 with hk2|hk2
  ·exact hb k hk hk2
  ·exact uf _ hl k hk hk2
 ·exact yL hs hl hq (hset _) hb
theorem DN.lack{p:Pn}{rs:List Int}{l:List Tb}(h:DN p rs l){q:Pk}(hq:zo p q){r:Int}(hr:r∉rs):nK l q r=(gX,4):=by
 have hs:bH l r = .none:=by
  cases hf:bH l r with
  | none=>rfl
  | some b=>exact absurd ((h.rs r).1 (by simp[hf])) hr
 unfold nK;rw[if_neg (by simp[h.all,hq.ok]),hs]
theorem Wk.tri{g:ay}(hg:g.Ok){t n:Int}(ht:aY g.rs t=true)(hn:dst g t n<far){k:Nat}{x v:Int}(h:Wk g n k x v):dst g t x≤v+dst g t n∧dst g t x<far:=by
 induction h with
 | nil=>exact⟨by omega,hn⟩
 | cons hp _ ih=>
   have:=CJ hg ht hp ih.2;exact⟨by omega,this.2⟩
theorem Ik{g:ay}(hg:g.Ok){t f n:Int}(ht:aY g.rs t=true)(h:zA g t f n):∃w:List Int,w≠[]∧jW f w=n∧fH g f w=some (dst g n f)∧(∀y∈w,y=n∨dY g.rs y=false)∧dst g n f=dst g t f-dst g t n∧dst g n f<far∧aY g.rs f=true∧f≠n:=by
 obtain⟨_,_,h3,_,hn⟩:=h.near hg;have hne:f≠n:=fun e=>by have:=(h.near hg).1;rw[e]at this;omega
 obtain⟨x,hx,hs,hc⟩:=h;obtain⟨w,h1,h2,h4⟩:=hx.way hg;obtain⟨_,_,_,c,hp,hcd⟩:=(lM hg).1 hs;have hC:fH g f (w++[n])=some (dst g t f-dst g t n):=by
  rw[Bv h2 (show fH g (jW f w) [n]=some c by rw[h1];simp[fH,hp])]
  congr 1;omega
 have hl:jW f (w++[n])=n:=by rw[Jz];rfl
 have hw:=vM hC;rw[hl]at hw
 have d1:=vO hg hn hw;have hf:aY g.rs f=true:=by
  cases w with
  | nil=>simp only[jW]at h1;subst h1;exact(jA hg hp).1
  | cons y w=>
    simp only[fH]at h2;cases hp2:price g.ls f y with
    | none=>rw[hp2]at h2;simp at h2
    | some v=>exact(jA hg hp2).1
 obtain⟨k,hk⟩:=yI hg hn hf d1.2;have d2:=hk.tri hg ht h3;have e:dst g n f=dst g t f-dst g t n:=by omega
 refine⟨w++[n],by simp,hl,by rw[e];exact hC,fun y hy=>?_,e,d1.2,hf,hne⟩;rcases List.mem_append.1 hy with hy|hy
 ·exact .inr (h4 y hy)
 ·exact .inl (List.mem_singleton.1 hy)
theorem I5{cp:Int→Bool}{to:Int}{go:Int→List Int}:∀{l:List Int} {n:Int},n∈l→(n=to∨(cp n=false∧go n≠[]))→BU cp to go l≠[]
 | m::l,n,hn,h=>by
   unfold BU;split
   ·simp
   ·rename_i h1;rcases List.mem_cons.1 hn with rfl|hn
    ·rcases h with h|⟨h2,h3⟩
     ·exact absurd h h1
     ·rw[if_neg (by simp[h2]),if_neg h3];simp
    ·have ih:=I5 (go:=go) hn h;split
     ·exact ih
     ·split
      ·exact ih
      ·simp
theorem I7{g:ay}(hg:g.Ok){a:Int}(ha:aY g.rs a=true):∀(k:Nat) (r:Int) (w:List Int),(dst g a r).toNat<k→w≠[]→jW r w=a→fH g r w=some (dst g a r)→(∀y∈w,y=a∨dY g.rs y=false)→J5 (Hf g a) (dY g.rs) a k r≠[]
 | 0,_,_,h,_,_,_,_=>by omega
 | _+1,_,[],_,h,_,_,_=>absurd rfl h
 | k+1,r,h::u,hk,_,hl,hc,hi=>by
   obtain⟨h1,h2⟩:=Ah hg ha hl hc;rw[J5];refine I5 (show h∈Hf g a r from h1) ?_;by_cases hu:u = []
   ·subst hu;exact .inl hl
   rcases hi h (by simp)with e|e
   ·exact .inl e
   ·exact .inr ⟨e,I7 hg ha k h u (Ei hg hk h1).1 hu hl h2 fun y hy=>hi y (List.mem_cons_of_mem _ hy)⟩
theorem zO{g:ay}(h0:cZ g=0){t f n:Int}(ht:aY g.rs t=true)(h:zA g t f n):
  route g f n≠[]∧dst g n f=dst g t f-dst g t n∧aY g.rs f=true∧aY g.rs n=true:=by
 have hg:=aU h0;obtain⟨w,h1,h2,h3,h4,h5,h6,h7,h8⟩:=Ik hg ht h;have hn:=(h.near hg).2.2.2.2;refine⟨?_,h5,h7,hn⟩;unfold route;rw[if_pos ⟨h0,h7,hn,h8⟩];exact I7 hg hn _ f w (by omega) h1 h2 h3 h4
end Go.Proofs
