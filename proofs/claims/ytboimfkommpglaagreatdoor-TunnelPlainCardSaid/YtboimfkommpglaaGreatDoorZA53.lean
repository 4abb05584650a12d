/-
  What functions of the program compute, stated as contracts over plain data; the conditions of each stand in its own statement.
-/
import Derived.Test.YtboimfkommpglaaGreatDoorZA28
import Derived.Test.YtboimfkommpglaaGreatDoorZA52
import Derived.Test.YtboimfkommpglaaGreatDoorZA29
import Derived.Test.YtboimfkommpglaaGreatDoorZA21
import Derived.Test.YtboimfkommpglaaGreatDoorZA20
set_option linter.unusedSimpArgs false
set_option maxRecDepth 100000
set_option maxHeartbeats 4000000
namespace Go.Proofs
open Go Go.Tr
def fA(len set:Int):List Ed→Tp→BitVec 64→BitVec 64×Tp
 | [],T,B=>(B,T)
 | e::es,T,B=>if fJ e.id len=set then(if 0<(au T 4).1 then fA len set es (au T 4).2 (B|||lS (gG e.id len))else fA len set es (au T 4).2 B)else fA len set es T B
def jB(T:Tp)(p:Pn):Int×Tp:=if p.es = []then(0,T)else(fJ (p.es.getD (au T p.es.length).1.toNat ⟨0,0⟩).id p.len,(au T p.es.length).2)
def mM(T:Tp)(p:Pn):Pk×Tp:=
 let q:=bY T 0
 let s:=jB q.2 p
 let b:=fA p.len s.1 p.es s.2 0#64
 let o:=dD b.2 6
 if o.1=true then(q.1.for p.bF p.len s.1 (b.1|||(kE o.2 p.len).1),(kE o.2 p.len).2)else(q.1.for p.bF p.len s.1 b.1,o.2)
theorem jq(len set:Int):∀(es:List Ed) (T:Tp) (B:BitVec 64),ak (fA len set es T B).2=ak T
 | [],_,_=>rfl
 | e::es,T,B=>by
   rw[fA];split
   ·split
    ·rw[jq];simp
    ·rw[jq];simp
   ·exact jq len set es T B
theorem yK(T:Tp)(p:Pn):ak (jB T p).2=ak T:=by
 unfold jB;split
 ·rfl
 ·simp
theorem yM(T:Tp)(p:Pn):ak (mM T p).2=ak T:=by
 unfold mM;simp only;split<;>simp[jq,yK]
theorem Ih(T:Tp)(hT:ak T)(p:Pn)(hp:p.es.length≤1000)(l0:p.len≠0)(hl:I64 p.len):Contract Tryz.prog 29 [.ptr (.x 0) 0,bI p] [aJ T] (dX (mM T p).1) [aJ (mM T p).2] []:=by
 refine aj Tryz.func29 rfl (fun E0=>?_);refine cO.sound (g:=.mk) (ow:=[]) (kp:=(fun k=>k==0||k==1||k==3||k==4||k==5||k==6||k==7||k==8||k==23||k==28||k==51||k==75||k==83)) ?_;rw[Tryz.ntmps29];simp -dsimp[bI];try refine⟨?_,⟨by kernel_rfl⟩⟩
 refine ah.of (wC T hT 0 ⟨by omega,by omega⟩) [.x 0] 0 ?_;have kQ:ak (bY T 0).2:=by simpa using hT
 unfold mM;simp only;generalize bY T 0=q at kQ⊢;obtain⟨q,T1⟩:=q;simp only at kQ⊢;simp only[dX,Pk.cs,List.map];by_cases e0:p.es = []
 ·have eS:jB T1 p=(0,T1):=by rw[jB,if_pos e0]
  rw[eS];simp -dsimp[l0,e0];try refine⟨?_,⟨by kernel_rfl⟩⟩
  refine aN.of [] (fun k=>k==0||k==1||k==3||k==4||k==5||k==6||k==7||k==8||k==23||k==28||k==51||k==75||k==83) (ι:={z:Nat×Tp×BitVec 64 // z.1≤p.es.length∧ak z.2.1∧fA p.len 0 p.es T1 0#64=fA p.len 0 (p.es.drop z.1) z.2.1 z.2.2})
   (fun z=>[(Pl.s 0,It.v (.ptr (Pl.x 0) 0)),(Pl.x 0,aJ z.1.2.1),(Pl.o 3,It.box [TV.d (.int .i64 p.bF),TV.d (.int .i64 p.len),TV.d (.sl (rJ p.es))]),(Pl.s 3,It.v (.ptr (Pl.o 3) 0)),
    (Pl.o 4,It.box [TV.d (.int .i64 0),TV.d (.int .i64 0),TV.d (.int .i64 0),TV.d (.int .i64 0),TV.d (.int .i64 0),TV.d (.int .i64 0),TV.d (.int .i64 0),TV.d (.int .i64 0),TV.d (.int IntKind.u64 0),TV.d (.str ⟨#[]⟩)]),
    (Pl.s 4,It.v (.ptr (Pl.o 4) 0)),
    (Pl.o 5,It.box [TV.d (.int .i64 1),TV.d (.int .i64 p.bF),TV.d (.int .i64 0),TV.d (.int .i64 p.len),TV.d (.int .i64 q.ttl),TV.d (.int .i64 q.ent),TV.d (.int .i64 q.ing),TV.d (.int .i64 q.proto),TV.d (.int IntKind.u64 (tn z.1.2.2)),TV.d (.str q.pay)]),
    (Pl.s 5,It.v (.ptr (Pl.o 5) 0)),(Pl.s 6,It.v (.d (.int .i64 z.1.1)))])
   (fun z=>p.es.length-z.1.1) ⟨(0,T1,0#64),by simp,kQ,rfl⟩ ?_ ?_
  ·exact GS.to (by simp[e0])
  generalize fA p.len 0 p.es T1 0#64=X;rintro⟨⟨i,T3,B⟩,i1,i2,i3⟩;simp only at i1 i2 i3;by_cases hi:i<p.es.length
  ·have hiz:(i:Int)<p.es.length:=by omega
   have hg:p.es[i]? = some p.es[i]:=List.getElem?_eq_getElem hi;have hd:p.es.drop i=p.es[i]::p.es.drop (i+1):=List.drop_eq_getElem_cons hi;generalize p.es[i]=y at hg hd;have hg':=mP hg;rw[hd,fA]at i3
   have pb:=plB y.id p.len;have hbc:=uD (gG y.id p.len);simp -dsimp[hiz,hg',Ed.cs];try refine⟨?_,⟨by kernel_rfl⟩⟩
   and_intros;all_goals try first|rfl|omega|exact⟨by kernel_rfl⟩
   refine ah.of (kU y.id p.len) [] 0 ?_;simp only[eH];generalize fJ y.id p.len=sy at i3 pb;generalize gG y.id p.len=QS at i3 pb hbc;by_cases c0:sy=0
   ·rw[if_pos c0]at i3
    simp -dsimp[hiz,hg',Ed.cs,eH,eq_true c0];try refine⟨?_,⟨by kernel_rfl⟩⟩
    refine ah.of (bn T3 i2 4 ⟨by omega,by omega⟩) [.x 0] 0 ?_;have n1:=aC T3 4;have kS:ak (au T3 4).2:=by simpa using i2
    generalize au T3 4=m4 at n1 kS i3⊢;obtain⟨m4,T4⟩:=m4;simp only at n1 kS i3⊢;by_cases c1:0<m4
    ·rw[if_pos c1]at i3
     simp -dsimp[c1];try refine⟨?_,⟨by kernel_rfl⟩⟩
     refine ah.of hbc [] 0 ?_;simp -dsimp[bv,wrap_i64 (n:=(i:Int)+1) (by omega) (by omega)];try refine⟨?_,⟨by kernel_rfl⟩⟩
     and_intros;all_goals try first|rfl|omega|exact⟨by kernel_rfl⟩
     exact⟨⟨(i+1,T4,B|||lS QS),by dsimp only;omega,kS,i3⟩,GS.to (by simp),by simp;omega⟩
    ·rw[if_neg c1]at i3
     simp -dsimp[c1,wrap_i64 (n:=(i:Int)+1) (by omega) (by omega)];try refine⟨?_,⟨by kernel_rfl⟩⟩
     and_intros;all_goals try first|rfl|omega|exact⟨by kernel_rfl⟩
     exact⟨⟨(i+1,T4,B),by dsimp only;omega,kS,i3⟩,GS.to (by simp),by simp;omega⟩
   ·rw[if_neg c0]at i3
    simp -dsimp[hiz,hg',Ed.cs,eH,eq_false c0,wrap_i64 (n:=(i:Int)+1) (by omega) (by omega)];try refine⟨?_,⟨by kernel_rfl⟩⟩
    and_intros;all_goals try first|rfl|omega|exact⟨by kernel_rfl⟩
    exact⟨⟨(i+1,T3,B),by dsimp only;omega,i2,i3⟩,GS.to (by simp),by simp;omega⟩
  ·have hiz :¬(i:Int)<p.es.length:=by omega
   have e1:p.es.drop i = []:=List.drop_eq_nil_of_le (by omega);rw[e1,fA]at i3
   subst i3;simp -dsimp[hiz];try refine⟨?_,⟨by kernel_rfl⟩⟩
   refine ah.of (gK T3 i2 6 ⟨by omega,by omega⟩ ⟨by omega,by omega⟩) [.x 0] 0 ?_;have kO:ak (dD T3 6).2:=by simpa using i2
   generalize dD T3 6=o at kO⊢;obtain⟨o,T5⟩:=o;simp only at kO⊢;rcases (Bool.eq_false_or_eq_true o).symm with ho|ho
   ·subst ho;simp -dsimp;try refine⟨?_,⟨by kernel_rfl⟩⟩
    refine Fin.box (.o 4) rfl ?_;simp -dsimp;try refine⟨?_,⟨by kernel_rfl⟩⟩
    refine Fin.of ?_;simp[Pk.for,bv]
   ·subst ho;simp -dsimp;try refine⟨?_,⟨by kernel_rfl⟩⟩
    refine ah.of (zF T5 kO p.len hl) [.x 0] 0 ?_;generalize kE T5 p.len=gb;simp -dsimp[bv];try refine⟨?_,⟨by kernel_rfl⟩⟩
    refine Fin.box (.o 4) rfl ?_;simp -dsimp;try refine⟨?_,⟨by kernel_rfl⟩⟩
    refine Fin.of ?_;simp[Pk.for,bv]
 ·have eS:jB T1 p=(fJ (p.es.getD (au T1 p.es.length).1.toNat ⟨0,0⟩).id p.len,(au T1 p.es.length).2):=by rw[jB,if_neg e0]
  have hlen:0<p.es.length:=List.length_pos_iff.2 e0;rw[eS];simp -dsimp[l0,e0,hlen];try refine⟨?_,⟨by kernel_rfl⟩⟩
  and_intros;all_goals try first|rfl|omega|exact⟨by kernel_rfl⟩
  refine ah.of (bn T1 kQ p.es.length ⟨by omega,by omega⟩) [.x 0] 0 ?_;have m1:=aC T1 p.es.length;have m2:=bg T1 (n:=p.es.length) (by omega);have kN:ak (au T1 p.es.length).2:=by simpa using kQ
  clear eS;generalize au T1 p.es.length=m at m1 m2 kN⊢;obtain⟨m,T2⟩:=m;simp only at m1 m2 kN⊢;obtain⟨j,rfl⟩:∃j:Nat,m=j:=⟨m.toNat,by omega⟩
  have hj:j<p.es.length:=by omega
  have hx:p.es[j]? = some p.es[j]:=List.getElem?_eq_getElem hj;have hgd:p.es.getD ((j:Int)).toNat ⟨0,0⟩ = p.es[j]:=by rw[List.getD_eq_getElem?_getD,show((j:Int)).toNat=j by omega,hx];rfl
  rw[hgd];generalize p.es[j]=x at hx;have hx':=mP hx;simp -dsimp[l0,e0,hlen,hx',Ed.cs];try refine⟨?_,⟨by kernel_rfl⟩⟩
  and_intros;all_goals try first|rfl|omega|exact⟨by kernel_rfl⟩
  refine ah.of (kU x.id p.len) [] 0 ?_;simp only[eH];generalize fJ x.id p.len=S;simp -dsimp[l0,e0,eH];try refine⟨?_,⟨by kernel_rfl⟩⟩
  refine aN.of [] (fun k=>k==0||k==1||k==3||k==4||k==5||k==6||k==7||k==8||k==23||k==28||k==51||k==75||k==83) (ι:={z:Nat×Tp×BitVec 64 // z.1≤p.es.length∧ak z.2.1∧fA p.len S p.es T2 0#64=fA p.len S (p.es.drop z.1) z.2.1 z.2.2})
   (fun z=>[(Pl.s 0,It.v (.ptr (Pl.x 0) 0)),(Pl.x 0,aJ z.1.2.1),(Pl.o 3,It.box [TV.d (.int .i64 p.bF),TV.d (.int .i64 p.len),TV.d (.sl (rJ p.es))]),(Pl.s 3,It.v (.ptr (Pl.o 3) 0)),
    (Pl.o 4,It.box [TV.d (.int .i64 0),TV.d (.int .i64 0),TV.d (.int .i64 0),TV.d (.int .i64 0),TV.d (.int .i64 0),TV.d (.int .i64 0),TV.d (.int .i64 0),TV.d (.int .i64 0),TV.d (.int IntKind.u64 0),TV.d (.str ⟨#[]⟩)]),
    (Pl.s 4,It.v (.ptr (Pl.o 4) 0)),
    (Pl.o 5,It.box [TV.d (.int .i64 1),TV.d (.int .i64 p.bF),TV.d (.int .i64 S),TV.d (.int .i64 p.len),TV.d (.int .i64 q.ttl),TV.d (.int .i64 q.ent),TV.d (.int .i64 q.ing),TV.d (.int .i64 q.proto),TV.d (.int IntKind.u64 (tn z.1.2.2)),TV.d (.str q.pay)]),
    (Pl.s 5,It.v (.ptr (Pl.o 5) 0)),(Pl.s 6,It.v (.d (.int .i64 z.1.1)))])
   (fun z=>p.es.length-z.1.1) ⟨(0,T2,0#64),by simp,kN,rfl⟩ ?_ ?_
  ·exact GS.to (by simp[e0])
  generalize fA p.len S p.es T2 0#64=X;rintro⟨⟨i,T3,B⟩,i1,i2,i3⟩;simp only at i1 i2 i3;by_cases hi:i<p.es.length
  ·have hiz:(i:Int)<p.es.length:=by omega
   have hg:p.es[i]? = some p.es[i]:=List.getElem?_eq_getElem hi;have hd:p.es.drop i=p.es[i]::p.es.drop (i+1):=List.drop_eq_getElem_cons hi;generalize p.es[i]=y at hg hd;have hg':=mP hg;rw[hd,fA]at i3
   have pb:=plB y.id p.len;have hbc:=uD (gG y.id p.len);simp -dsimp[hiz,hg',Ed.cs];try refine⟨?_,⟨by kernel_rfl⟩⟩
   and_intros;all_goals try first|rfl|omega|exact⟨by kernel_rfl⟩
   refine ah.of (kU y.id p.len) [] 0 ?_;simp only[eH];generalize fJ y.id p.len=sy at i3 pb;generalize gG y.id p.len=QS at i3 pb hbc;by_cases c0:sy=S
   ·rw[if_pos c0]at i3
    simp -dsimp[hiz,hg',Ed.cs,eH,eq_true c0];try refine⟨?_,⟨by kernel_rfl⟩⟩
    refine ah.of (bn T3 i2 4 ⟨by omega,by omega⟩) [.x 0] 0 ?_;have n1:=aC T3 4;have kS:ak (au T3 4).2:=by simpa using i2
    generalize au T3 4=m4 at n1 kS i3⊢;obtain⟨m4,T4⟩:=m4;simp only at n1 kS i3⊢;by_cases c1:0<m4
    ·rw[if_pos c1]at i3
     simp -dsimp[c1];try refine⟨?_,⟨by kernel_rfl⟩⟩
     refine ah.of hbc [] 0 ?_;simp -dsimp[bv,wrap_i64 (n:=(i:Int)+1) (by omega) (by omega)];try refine⟨?_,⟨by kernel_rfl⟩⟩
     and_intros;all_goals try first|rfl|omega|exact⟨by kernel_rfl⟩
     exact⟨⟨(i+1,T4,B|||lS QS),by dsimp only;omega,kS,i3⟩,GS.to (by simp),by simp;omega⟩
    ·rw[if_neg c1]at i3
     simp -dsimp[c1,wrap_i64 (n:=(i:Int)+1) (by omega) (by omega)];try refine⟨?_,⟨by kernel_rfl⟩⟩
     and_intros;all_goals try first|rfl|omega|exact⟨by kernel_rfl⟩
     exact⟨⟨(i+1,T4,B),by dsimp only;omega,kS,i3⟩,GS.to (by simp),by simp;omega⟩
   ·rw[if_neg c0]at i3
    simp -dsimp[hiz,hg',Ed.cs,eH,eq_false c0,wrap_i64 (n:=(i:Int)+1) (by omega) (by omega)];try refine⟨?_,⟨by kernel_rfl⟩⟩
    and_intros;all_goals try first|rfl|omega|exact⟨by kernel_rfl⟩
    exact⟨⟨(i+1,T3,B),by dsimp only;omega,i2,i3⟩,GS.to (by simp),by simp;omega⟩
  ·have hiz :¬(i:Int)<p.es.length:=by omega
   have e1:p.es.drop i = []:=List.drop_eq_nil_of_le (by omega);rw[e1,fA]at i3
   subst i3;simp -dsimp[hiz];try refine⟨?_,⟨by kernel_rfl⟩⟩
   refine ah.of (gK T3 i2 6 ⟨by omega,by omega⟩ ⟨by omega,by omega⟩) [.x 0] 0 ?_;have kO:ak (dD T3 6).2:=by simpa using i2
   generalize dD T3 6=o at kO⊢;obtain⟨o,T5⟩:=o;simp only at kO⊢;rcases (Bool.eq_false_or_eq_true o).symm with ho|ho
   ·subst ho;simp -dsimp;try refine⟨?_,⟨by kernel_rfl⟩⟩
    refine Fin.box (.o 4) rfl ?_;simp -dsimp;try refine⟨?_,⟨by kernel_rfl⟩⟩
    refine Fin.of ?_;simp[Pk.for,bv]
   ·subst ho;simp -dsimp;try refine⟨?_,⟨by kernel_rfl⟩⟩
    refine ah.of (zF T5 kO p.len hl) [.x 0] 0 ?_;generalize kE T5 p.len=gb;simp -dsimp[bv];try refine⟨?_,⟨by kernel_rfl⟩⟩
    refine Fin.box (.o 4) rfl ?_;simp -dsimp;try refine⟨?_,⟨by kernel_rfl⟩⟩
    refine Fin.of ?_;simp[Pk.for,bv]
def lK(l:List Tb)(p:Pk)(r:Int):Int:=(nK l p r).2
theorem Ig(l:List Tb)(hl:DL l)(p:Pk)(r:Int):Contract Tryz.prog 118 [.d (.sl (oq l)),dX p,.d (.int .i64 r)] [] (.d (.int .i64 (lK l p r))) [] []:=by
 have hck:=tZ l hl;have hv:=o9 p;have hf:=CO l hl r;simp only[dX,Pk.cs,List.map]at hv;refine aj Tryz.func118 rfl (fun E0=>?_);refine cO.sound (g:=.mk) (ow:=[]) (kp:=(fun k=>k==0||k==1||k==2||k==4||k==6||k==7||k==8||k==16||k==24||k==27||k==39)) ?_;rw[Tryz.ntmps118];simp -dsimp[dX,Pk.cs];try refine⟨?_,⟨by kernel_rfl⟩⟩
 refine ah.of hck [] 0 ?_;by_cases h1:nR l=0
 rotate_left
 ·simp -dsimp[h1];try refine⟨?_,⟨by kernel_rfl⟩⟩
  refine Fin.of ?_;simp[lK,nK,h1]
 rcases (Bool.eq_false_or_eq_true p.ok).symm with h2|h2
 ·simp -dsimp[h1];try refine⟨?_,⟨by kernel_rfl⟩⟩
  refine ah.of hv [] 0 ?_;simp -dsimp[h2];try refine⟨?_,⟨by kernel_rfl⟩⟩
  refine Fin.of ?_;simp[lK,nK,h1,h2]
 simp -dsimp[h1];try refine⟨?_,⟨by kernel_rfl⟩⟩
 refine ah.of hv [] 0 ?_;cases hfd:bH l r with
 | none=>
   rw[hfd]at hf
   simp only[su,Option.getD_none,Option.isSome_none,tb0,bZ]at hf;simp -dsimp[h2];try refine⟨?_,⟨by kernel_rfl⟩⟩
   refine ah.of hf [] 0 ?_;simp -dsimp;try refine⟨?_,⟨by kernel_rfl⟩⟩
   refine Fin.of ?_;simp[lK,nK,h1,h2,hfd]
 | some b=>
   rw[hfd]at hf
   simp only[su,Option.getD_some,Option.isSome_some,bZ]at hf;simp -dsimp[h2];try refine⟨?_,⟨by kernel_rfl⟩⟩
   refine ah.of hf [] 0 ?_;by_cases h3:p.mode=2
   ·simp -dsimp[eq_true h3];try refine⟨?_,⟨by kernel_rfl⟩⟩
    refine Fin.of ?_;simp[lK,nK,h1,h2,hfd,h3]
   by_cases h4:p.bF=b.sd
   rotate_left
   ·simp -dsimp[h3,h4];try refine⟨?_,⟨by kernel_rfl⟩⟩
    refine Fin.of ?_;simp[lK,nK,h1,h2,hfd,h3,h4]
   by_cases h5:p.len=b.len
   rotate_left
   ·simp -dsimp[h3,eq_true h4,h5];try refine⟨?_,⟨by kernel_rfl⟩⟩
    refine Fin.of ?_;simp[lK,nK,h1,h2,hfd,h3,h4,h5]
   simp -dsimp[h3,eq_true h4,eq_true h5];try refine⟨?_,⟨by kernel_rfl⟩⟩
   refine Fin.of ?_;simp[lK,nK,h1,h2,hfd,h3,h4,h5]
def wE(t:dQ):List (Nat×It):=[(900,.row 92 11 (dd (t.dl.map lT)) false),(901,.row 96 3 (dd (t.cr.map lJ)) false),(902,.row 176 2 (dd (t.ls.map qO)) false)]
def iM(t:dQ)(r:Int)(p:Pk)(o:Out):dQ:=⟨t.dl++nI r o p,t.cr++o.g_.map (fun c=>(r,c.1,c.2.bits)),if o.lost=0#64 then t.ls else t.ls++[(r,o.lost)]⟩
theorem IJ(t:dQ)(h1:t.dl.length≤1000000)(h2:t.cr.length≤1000000)(h3:t.ls.length≤1000000)(r:Int)(p:Pk)(o:Out)(ho:o.g_.length≤64):
  jT Tryz.prog 119 [.agg [.aB 900 t.dl.length,.aB 901 t.cr.length,.aB 902 t.ls.length],.d (.int .i64 r),dX p,outT o] [] (wE t) (.agg [.aB 900 (iM t r p o).dl.length,.aB 901 (iM t r p o).cr.length,.aB 902 (iM t r p o).ls.length]) [] (wE (iM t r p o)):=by
 have hlc:=OC r o p;simp only[outT,dX,Pk.cs,List.map]at hlc;refine t_ Tryz.func119 rfl (fun E0=>?_);refine cO.sound (g:=.mk) (ow:=[]) (kp:=(fun k=>k==0||k==1||k==2||k==3||k==4||k==6||k==7||k==8||k==9||k==20||k==34)) ?_;rw[Tryz.ntmps119];simp -dsimp[dX,Pk.cs,outT,wE];try refine⟨?_,⟨by kernel_rfl⟩⟩
 refine ah.of hlc [] 0 ?_;have hll:(nI r o p).length≤64:=by unfold nI;rw[List.length_map];exact iT _
 have hn0:iM t r p o=⟨t.dl++nI r o p,t.cr++o.g_.map (fun c=>(r,c.1,c.2.bits)),if o.lost=0#64 then t.ls else t.ls++[(r,o.lost)]⟩:=rfl;rw[hn0];clear hn0;generalize nI r o p=LV at hll⊢;have hdl:dLen 11 (LV.map lT):=iF 11 _ _ fun _=>rfl
 obtain⟨lC,fP,bP⟩:=o;simp only at ho⊢;have Yz:(bP.map fun c=>(r,c.1,c.2.bits)).length=bP.length:=by simp
 have hCg:∀(j:Nat) (c:Int×Pk),bP[j]? = some c→(bP.map fun c=>(r,c.1,c.2.bits))[j]? = some (r,c.1,c.2.bits):=fun j c h=>by simp[h]
 generalize (bP.map fun c=>(r,c.1,c.2.bits))=Ba at Yz hCg⊢;by_cases c0:fP=0#64
 ·simp -dsimp[c0,bv];and_intros;all_goals try first|omega|exact hdl|exact rfl|exact⟨by kernel_rfl⟩
  refine aN.of [] (fun k=>k==0||k==1||k==2||k==3||k==4||k==6||k==7||k==8||k==9||k==20||k==34) (ι:={j:Nat // j≤bP.length})
   (fun j=>[(Pl.s 1,It.v (.d (.int .i64 r))),
    (Pl.o 900,It.row 92 11 (dd (t.dl.map lT)++dd (LV.map lT)) false),(Pl.o 901,It.row 96 3 (dd (t.cr.map lJ)++dd (List.take j.1 (Ba.map lJ))) false),(Pl.o 902,It.row 176 2 (dd (t.ls.map qO)) false),
    (Pl.o 4,It.box [TV.aB 900 (t.dl.length+LV.length),TV.aB 901 (t.cr.length+j.1),TV.aB 902 (t.ls.length)]),(Pl.s 4,It.v (.ptr (Pl.o 4) 0)),
    (Pl.o 7,It.box [TV.d (.int IntKind.u64 (tn lC)),TV.d (.int IntKind.u64 (tn fP)),TV.d (.sl (List.map DI bP))]),(Pl.s 7,It.v (.ptr (Pl.o 7) 0)),
    (Pl.o 8,It.box [TV.c (Value.slice none 0 0),TV.c (Value.slice none 0 0),TV.c (Value.slice none 0 0)]),(Pl.s 8,It.v (.ptr (Pl.o 8) 0)),(Pl.s 9,It.v (.d (.int .i64 j.1)))])
   (fun j=>bP.length-j.1) ⟨0,by omega⟩ ?_ ?_
  ·exact GS.to (by simp[c0])
  ·rintro⟨j,j1⟩;by_cases hj:j<bP.length
   ·have hjz:(j:Int)<bP.length:=by omega
    have hg:bP[j]? = some bP[j]:=List.getElem?_eq_getElem hj;have hcg:=hCg j _ hg;generalize bP[j]=c at hg hcg;obtain⟨c1,c2⟩:=c;have hn1:dd (List.take (j+1) (Ba.map lJ))=dd (List.take j (Ba.map lJ))++[[TV.d (.int .i64 r),TV.d (.int .i64 c1),TV.d (bv c2.bits)]]:=by
     rw[List.take_add_one,List.getElem?_map,hcg];simp[dd,lJ]
    have hm1:min j Ba.length=j:=by omega
    simp -dsimp[hg,hjz,DI,Pk.cs,bv,hm1,wrap_i64 (n:=(j:Int)+1) (by omega) (by omega)];and_intros;all_goals try first|omega|exact⟨by kernel_rfl⟩
    exact⟨⟨j+1,by omega⟩,GS.to (by simp[hn1,bv,Nat.add_assoc]),by simp;omega⟩
   ·have hjz :¬(j:Int)<bP.length:=by omega
    obtain rfl:j=bP.length:=by omega
    have ht1:List.take bP.length (Ba.map lJ)=Ba.map lJ:=List.take_of_length_le (by simp;omega);simp -dsimp[hjz];try refine⟨?_,⟨by kernel_rfl⟩⟩
    refine Fin.of ?_;simp[ht1,c0,Yz,qO,bv,wE]
 ·simp -dsimp[c0,bv];and_intros;all_goals try first|omega|exact hdl|exact rfl|exact⟨by kernel_rfl⟩
  refine aN.of [] (fun k=>k==0||k==1||k==2||k==3||k==4||k==6||k==7||k==8||k==9||k==20||k==34) (ι:={j:Nat // j≤bP.length})
   (fun j=>[(Pl.s 1,It.v (.d (.int .i64 r))),
    (Pl.o 900,It.row 92 11 (dd (t.dl.map lT)++dd (LV.map lT)) false),(Pl.o 901,It.row 96 3 (dd (t.cr.map lJ)++dd (List.take j.1 (Ba.map lJ))) false),(Pl.o 902,It.row 176 2 (dd (t.ls.map qO)++[[TV.d (.int .i64 r),TV.d (.int .u64 (tn fP))]]) false),
    (Pl.o 4,It.box [TV.aB 900 (t.dl.length+LV.length),TV.aB 901 (t.cr.length+j.1),TV.aB 902 (t.ls.length+1)]),(Pl.s 4,It.v (.ptr (Pl.o 4) 0)),
    (Pl.o 7,It.box [TV.d (.int IntKind.u64 (tn lC)),TV.d (.int IntKind.u64 (tn fP)),TV.d (.sl (List.map DI bP))]),(Pl.s 7,It.v (.ptr (Pl.o 7) 0)),
    (Pl.o 8,It.box [TV.c (Value.slice none 0 0),TV.c (Value.slice none 0 0),TV.c (Value.slice none 0 0)]),(Pl.s 8,It.v (.ptr (Pl.o 8) 0)),(Pl.s 9,It.v (.d (.int .i64 j.1)))])
   (fun j=>bP.length-j.1) ⟨0,by omega⟩ ?_ ?_
  ·exact GS.to (by simp[c0])
  ·rintro⟨j,j1⟩;by_cases hj:j<bP.length
   ·have hjz:(j:Int)<bP.length:=by omega
    have hg:bP[j]? = some bP[j]:=List.getElem?_eq_getElem hj;have hcg:=hCg j _ hg;generalize bP[j]=c at hg hcg;obtain⟨c1,c2⟩:=c;have hn1:dd (List.take (j+1) (Ba.map lJ))=dd (List.take j (Ba.map lJ))++[[TV.d (.int .i64 r),TV.d (.int .i64 c1),TV.d (bv c2.bits)]]:=by
     rw[List.take_add_one,List.getElem?_map,hcg];simp[dd,lJ]
    have hm1:min j Ba.length=j:=by omega
    simp -dsimp[hg,hjz,DI,Pk.cs,bv,hm1,wrap_i64 (n:=(j:Int)+1) (by omega) (by omega)];and_intros;all_goals try first|omega|exact⟨by kernel_rfl⟩
    exact⟨⟨j+1,by omega⟩,GS.to (by simp[hn1,bv,Nat.add_assoc]),by simp;omega⟩
   ·have hjz :¬(j:Int)<bP.length:=by omega
    obtain rfl:j=bP.length:=by omega
    have ht1:List.take bP.length (Ba.map lJ)=Ba.map lJ:=List.take_of_length_le (by simp;omega);simp -dsimp[hjz];try refine⟨?_,⟨by kernel_rfl⟩⟩
    refine Fin.of ?_;simp[ht1,c0,Yz,qO,bv,wE]
set_option linter.unusedVariables false
theorem Wk.tri{g:ay}(hg:g.Ok){t n:Int}(ht:aY g.rs t=true)(hn:dst g t n<far){k:Nat}{x v:Int}(h:Wk g n k x v):dst g t x≤v+dst g t n∧dst g t x<far:=by
 induction h with
 | nil=>exact⟨by omega,hn⟩
 | cons hp _ ih=>
   have:=CJ hg ht hp ih.2;exact⟨by omega,this.2⟩
theorem Ik{g:ay}(hg:g.Ok){t f n:Int}(ht:aY g.rs t=true)(h:zA g t f n):∃w:List Int,w≠[]∧jW f w=n∧fH g f w=some (dst g n f)∧(∀y∈w,y=n∨dY g.rs y=false)∧dst g n f=dst g t f-dst g t n∧dst g n f<far∧aY g.rs f=true∧f≠n:=by
 obtain⟨_,_,h3,_,hn⟩:=h.near hg;have hne:f≠n:=fun e=>by have:=(h.near hg).1;rw[e]at this;omega
 obtain⟨x,hx,hs,hc⟩:=h;obtain⟨w,h1,h2,h4⟩:=hx.way hg;obtain⟨_,_,_,c,hp,hcd⟩:=(lM hg).1 hs;have hC:fH g f (w++[n])=some (dst g t f-dst g t n):=by
  rw[Bv h2 (show fH g (jW f w) [n]=some c by rw[h1];simp[fH,hp])]
  congr 1;omega
 have hl:jW f (w++[n])=n:=by rw[Jz];rfl
 have hw:=vM hC;rw[hl]at hw
 have d1:=vO hg hn hw;have hf:aY g.rs f=true:=by
  cases w with
  | nil=>simp only[jW]at h1;subst h1;exact(jA hg hp).1
  | cons y w=>
    simp only[fH]at h2;cases hp2:price g.ls f y with
    | none=>rw[hp2]at h2;simp at h2
    | some v=>exact(jA hg hp2).1
 obtain⟨k,hk⟩:=yI hg hn hf d1.2;have d2:=hk.tri hg ht h3;have e:dst g n f=dst g t f-dst g t n:=by omega
 refine⟨w++[n],by simp,hl,by rw[e];exact hC,fun y hy=>?_,e,d1.2,hf,hne⟩;rcases List.mem_append.1 hy with hy|hy
 ·exact .inr (h4 y hy)
 ·exact .inl (List.mem_singleton.1 hy)
theorem I5{cp:Int→Bool}{to:Int}{go:Int→List Int}:∀{l:List Int} {n:Int},n∈l→(n=to∨(cp n=false∧go n≠[]))→BU cp to go l≠[]
 | m::l,n,hn,h=>by
   unfold BU;split
   ·simp
   ·rename_i h1;rcases List.mem_cons.1 hn with rfl|hn
    ·rcases h with h|⟨h2,h3⟩
     ·exact absurd h h1
     ·rw[if_neg (by simp[h2]),if_neg h3];simp
    ·have ih:=I5 (go:=go) hn h;split
     ·exact ih
     ·split
      ·exact ih
      ·simp
theorem I7{g:ay}(hg:g.Ok){a:Int}(ha:aY g.rs a=true):∀(k:Nat) (r:Int) (w:List Int),(dst g a r).toNat<k→w≠[]→jW r w=a→fH g r w=some (dst g a r)→(∀y∈w,y=a∨dY g.rs y=false)→J5 (Hf g a) (dY g.rs) a k r≠[]
 | 0,_,_,h,_,_,_,_=>by omega
 | _+1,_,[],_,h,_,_,_=>absurd rfl h
 | k+1,r,h::u,hk,_,hl,hc,hi=>by
   obtain⟨h1,h2⟩:=Ah hg ha hl hc;rw[J5];refine I5 (show h∈Hf g a r from h1) ?_;by_cases hu:u = []
   ·subst hu;exact .inl hl
   rcases hi h (by simp)with e|e
   ·exact .inl e
   ·exact .inr ⟨e,I7 hg ha k h u (Ei hg hk h1).1 hu hl h2 fun y hy=>hi y (List.mem_cons_of_mem _ hy)⟩
theorem zO{g:ay}(h0:cZ g=0){t f n:Int}(ht:aY g.rs t=true)(h:zA g t f n):
  route g f n≠[]∧dst g n f=dst g t f-dst g t n∧aY g.rs f=true∧aY g.rs n=true:=by
 have hg:=aU h0;obtain⟨w,h1,h2,h3,h4,h5,h6,h7,h8⟩:=Ik hg ht h;have hn:=(h.near hg).2.2.2.2;refine⟨?_,h5,h7,hn⟩;unfold route;rw[if_pos ⟨h0,h7,hn,h8⟩];exact I7 hg hn _ f w (by omega) h1 h2 h3 h4
theorem zQ{g:ay}(h0:cZ g=0){p:Pn}(hp:d_ p=true){r:Int}{b:Tb}(hf:bH (tabs g p g.rs) r=some b)(id pl:Int):
  b.r=r∧(mG b id pl=0∨mG b id pl=b.r∨∃e∈p.es,e.id=id∧e.r≠r∧dY g.rs e.r=true∧zA g e.r r (mG b id pl)):=by
 have hg:=aU h0;rw[BX hg]at hf
 split at hf
 ·rename_i hc;simp only[Option.some.injEq]at hf;subst hf;refine⟨rfl,?_⟩;by_cases he:∃e∈p.es,e.id=id
  ·obtain⟨e,he,rfl⟩:=he;rcases BI h0 hp he (wM hg hc) pl with h|h|h
   ·exact .inr (.inl h.2)
   ·exact .inr (.inr ⟨e,he,rfl,h.1,h.2.1,h.2.2.2⟩)
   ·exact .inl h.2.2
  ·refine .inl ?_;unfold mG;rw[zG (fun e h1 h2=>he ⟨e,h1,h2⟩)];simp[og]
 ·simp at hf
theorem ace{cp:Int→Bool}{to:Int}{go:Int→List Int}:∀{l:List Int},(∀n∈l,cp n=true)→to∈l→BU cp to go l = [to]
 | n::l,h,ht=>by
   unfold BU;by_cases e:n=to
   ·rw[if_pos e]
   ·rw[if_neg e,if_pos (h n (by simp))];exact ace (fun x hx=>h x (by simp[hx])) (by simpa[Ne.symm e]using ht)
theorem adA{g:ay}(h0:cZ g=0)(hA:B_ g){t r h:Int}(ht:aY g.rs t=true)(hR:zA g t r h):route g r h = [h]:=by
 have hg:=aU h0;obtain⟨r1,r2,r3,r4⟩:=zO h0 ht hR;have hd:=hR.direct hg hA;obtain⟨d1,d2,d3,c,hp,hc⟩:=(lM hg).1 hd;have hne:=(hR.near hg).1;have hcl:=oP hg hp;have hbd:=rZ hg t r;have hbh:=rZ hg t h;unfold route;rw[if_pos ⟨h0,r3,r4,fun e=>by rw[e]at hne;omega⟩,J5];refine ace (fun n hn=>hA.cap hg (zZ hn)) ?_;have hz:=QY hg r4
 exact(lM hg).2 ⟨by omega,by omega,by rw[hz];decide,c,hp,by omega⟩
def ZY(q:Int×Pk):Int×Fr:=(q.1,⟨[],q.2⟩)
theorem ah1{α β:Type}{f:α→Option β}{g:α→β}:∀{l:List α},(∀x∈l,f x=some (g x))→l.filterMap f=l.map g
 | [],_=>rfl
 | x::l,h=>by
   rw[List.filterMap_cons_some (h x (by simp)),List.map_cons,ah1 fun y hy=>h y (by simp[hy])]
theorem af7{g:ay}(h0:cZ g=0)(hA:B_ g){p:Pn}(hp:d_ p=true){q:Int×Pk}(hI:w_ g (tabs g p g.rs) (ZY q))(hz:bH (tabs g p g.rs) q.1=none→q.2.bits≠0#64)(t:dQ):
  eP g (tabs g p g.rs) (ZY q)=(nextQ (tabs g p g.rs) q).map ZY∧jw g (tabs g p g.rs) (ZY q) t=stepT (tabs g p g.rs) q t:=by
 obtain⟨r,q⟩:=q;simp only[ZY]at hI⊢;have hg:=aU h0;cases hf:bH (tabs g p g.rs) r with
 | none=>
   have hb:=hz hf;simp only at hb;have ho:=uO hI hf;refine⟨by unfold eP;rw[ho];simp[nextQ,hf],?_⟩;simp only[jw,eP,ho,stepT,hf,Au,nI,List.map_nil,List.append_nil,if_neg hb];simp[lg,QO]
 | some b=>
   have hb:=hI.fit.all b (eY hf).1;simp only at hb;obtain⟨h1,h2⟩:=pW hb;obtain⟨H,h3,h4,h5⟩:=h2.g_;simp only[iC,List.nil_append]at h3;have hs:∀c∈(iH b q).g_,jZ g r c=some (ZY c):=fun c hc=>by
    rw[h3]at hc
    obtain⟨x,hx,rfl⟩:=List.mem_map.1 hc;obtain⟨_,a1,a2,k,hk,a3,a4⟩:=(h5 x).1 hx;have hh:=(zQ h0 hp hf (vZ q k) (kX q)).2;rw[←vX hb.ck,a4]at hh
    rcases hh with hh|hh|⟨e,he,_,_,hc,hR⟩
    ·exact absurd hh a1
    ·exact absurd hh a2
    have:=adA h0 hA (wM hg hc) hR;unfold jZ;simp only[this,ZY]
   have ho:=Nk hI hf;obtain⟨s1,s2,s3⟩:=wH g r (iH b q).g_ ⟨(iH b q).loc,(iH b q).lost,[]⟩;have e1:(iH b q).g_.filterMap (jZ g r)=(iH b q).g_.map ZY:=by
    exact ah1 hs
   have e2:((iH b q).g_.filter fun c=>(jZ g r c).isNone) = []:=List.filter_eq_nil_iff.2 fun c hc=>by rw[hs c hc];simp
   rw[e1]at s2
   rw[e2]at s3
   simp only[List.foldl_nil,List.nil_append]at s1 s2 s3;rw[←ho]at s1 s2 s3
   refine⟨by unfold eP;rw[s2];simp[nextQ,hf,h1],?_⟩;simp only[jw,eP,s1,s2,s3,stepT,hf,h1,Au,nI,List.map_map];rfl
theorem Zb{g:ay}(h0:cZ g=0)(hA:B_ g){p:Pn}(hp:d_ p=true):∀(n m:Nat) (Q:List (Int×Pk)) (t:dQ),tH (Q.map ZY)≤n→kZ Q≤m→
  (∀q∈Q,w_ g (tabs g p g.rs) (ZY q)∧(bH (tabs g p g.rs) q.1=none→q.2.bits≠0#64))→pR g (tabs g p g.rs) n (Q.map ZY) t=mY (tabs g p g.rs) m Q t
 | _,_,[],t,_,_,_=>by simp[lN,rE]
 | 0,_,q::Q,t,h,_,_=>by
   have:=xC ((q::Q).map ZY);simp only[List.map_cons,List.length_cons]at this h;omega
 | _,0,q::Q,t,_,h,_=>by
   have:=uG (q::Q);simp only[List.length_cons]at this;omega
 | n+1,m+1,q::Q,t,h1,h2,hQ=>by
   obtain⟨hI,hz⟩:=hQ q (by simp);obtain⟨e1,e2⟩:=af7 h0 hA hp hI hz t;have w1:=yY g (tabs g p g.rs) (ZY q);have w2:=yX (tabs g p g.rs) q;have hn:=Qv hI (by simp[ZY]);have hF:=yZ hI;rw[e1]at w1 hn hF
   rw[List.map_cons,tq]at h1
   rw[qV]at h2
   rw[List.map_cons,pR,mY,e1,e2,←List.map_append];refine Zb h0 hA hp n m _ _ (by rw[List.map_append,xI];omega) (by rw[A_];omega) fun c hc=>?_
   rcases List.mem_append.1 hc with hc|hc
   ·exact hQ c (by simp[hc])
   ·exact⟨hF _ (List.mem_map.2 ⟨c,hc,rfl⟩),fun _=>(hn _ (List.mem_map.2 ⟨c,hc,rfl⟩)).1⟩
theorem afV{g:ay}(h0:cZ g=0)(hA:B_ g){p:Pn}(hp:d_ p=true){r:Int}{q:Pk}(hI:w_ g (tabs g p g.rs) (r,⟨[],q⟩))(hr:(bH (tabs g p g.rs) r).isSome):
  runT g (tabs g p g.rs) r q=mY (tabs g p g.rs) (wt q) [(r,q)] gX:=by
 have:=Zb h0 hA hp (PX ⟨[],q⟩) (wt q) [(r,q)] gX (by simp[tH,ZY]) (by simp[kZ]) (by
  simp only[List.mem_singleton,forall_eq];exact⟨hI,fun e=>by rw[e]at hr;simp at hr⟩)
 exact this
set_option maxHeartbeats 16000000
theorem wW(g:ay)(l:List Tb)(q:Int×Fr)(t:dQ):(jw g l q t).dl.length≤t.dl.length+64∧(jw g l q t).cr.length≤t.cr.length+64∧(jw g l q t).ls.length≤t.ls.length+64:=by
 have h1:(Au q.1 (iD g l q) q.2.pk).length≤64:=by unfold Au nI;rw[List.length_map];exact iT _
 have h2:=yh g l q;unfold jw;refine⟨by simp only[List.length_append];omega,by simp only[List.length_append,List.length_map];omega,?_⟩;simp only;split
 ·omega
 ·simp
theorem rF(g:ay)(l:List Tb):∀(n:Nat) (Q:List (Int×Fr)) (t:dQ),(pR g l n Q t).dl.length≤t.dl.length+64*n∧(pR g l n Q t).cr.length≤t.cr.length+64*n∧(pR g l n Q t).ls.length≤t.ls.length+64*n
 | 0,Q,t=>by simp[pR]
 | n+1,[],t=>by rw[lN];omega
 | n+1,q::Q,t=>by
   have h1:=rF g l n (Q++eP g l q) (jw g l q t);have h2:=wW g l q t;rw[pR];omega
theorem rH(g:ay)(l:List Tb)(p:Pk)(r:Int):(mZ g l p r).1.dl.length≤100000000∧(mZ g l p r).1.cr.length≤100000000∧(mZ g l p r).1.ls.length≤100000000:=by
 rw[xW];split
 ·simp[gX]
 ·rename_i h;split
  ·have h2:p.ok=true:=by
    cases hp:p.ok with
    | true=>rfl
    | false=>exact absurd (.inr (.inr hp)) h
   have h3:=rF g l (PX ⟨[],p⟩) [(r,⟨[],p⟩)] gX;have h4:=Le h2;simp only[runT,gX,List.length_nil]at h3⊢;omega
  ·simp[gX]
theorem KJ{l:List Tb}{q:Int×Pk}{b:Tb}(hf:bH l q.1=some b)(t:dQ):stepT l q t=iM t q.1 q.2 (jC b q.2).1:=by
 simp[stepT,hf,iM]
theorem KI{l:List Tb}{q:Int×Pk}(hf:bH l q.1=none)(hq:q.2.bits≠0#64)(t:dQ):stepT l q t=iM t q.1 q.2 ⟨0#64,q.2.bits,[]⟩:=by
 simp[stepT,hf,iM,hq,nI,vK]
theorem LY{l:List Tb}{p:Pk}{r:Int}(h:lK l p r=0):vG l p∧(bH l r).isSome∧nK l p r=(mY l (wt p) [(r,p)] gX,0):=by
 unfold lK nK at h;unfold nK;split at h
 ·simp at h
 rename_i h0;rw[if_neg h0];have h1:nR l=0:=Classical.byContradiction fun a=>h0 (.inl a)
 have h2:p.ok=true:=by
  cases hp:p.ok with
  | true=>rfl
  | false=>exact absurd (.inr hp) h0
 cases hf:bH l r with
 | none=>rw[hf]at h;simp at h
 | some b=>
   rw[hf]at h
   simp only at h⊢;split at h
   ·simp at h
   rename_i h3;rw[if_neg h3];split at h
   ·simp at h
   rename_i h4;rw[if_neg h4];have e1:p.bF=b.sd:=Classical.byContradiction fun a=>h4 (.inl a)
   have e2:p.len=b.len:=Classical.byContradiction fun a=>h4 (.inr a)
   have hall:=x9 (l:=_) (by simp) h1;simp only[List.mem_cons,List.not_mem_nil,or_false,forall_eq_or_imp,forall_eq]at hall;have hd:∀c∈l,c.sd=(l.headD tb0).sd∧c.len=(l.headD tb0).len:=fun c hc=>by
    have:=List.any_eq_false.1 hall.2.2.2 c hc;simpa using this
   have hb:=hd b (eY hf).1;refine⟨⟨h2,fun c hc=>⟨QU h1 c hc,?_,?_,h2,h3⟩⟩,rfl,rfl⟩
   ·rw[(hd c hc).1,←hb.1,e1]
   ·rw[(hd c hc).2,←hb.2,e2]
theorem LZ{l:List Tb}{p:Pk}{r:Int}(h:lK l p r≠0):nK l p r=(gX,lK l p r):=by
 unfold lK nK at h⊢;split
 ·rfl
 rename_i h0;rw[if_neg h0]at h
 cases hf:bH l r with
 | none=>rfl
 | some b=>
   rw[hf]at h
   simp only at h⊢;split
   ·rfl
   rename_i h3;rw[if_neg h3]at h
   split
   ·rfl
   rename_i h4;rw[if_neg h4]at h
   simp at h
theorem Xy(l:List Tb)(hl:DL l)(p:Pk)(r:Int):Contract Tryz.prog 44 [.d (.sl (oq l)),dX p,.d (.int .i64 r)] [] (.rG [qG (nK l p r).1,.d (.int .i64 (nK l p r).2)]) [] []:=by
 have hfi:=Ig l hl p r;simp only[dX,Pk.cs,List.map]at hfi;refine aj Tryz.func44 rfl (fun E0=>?_);refine cO.sound (g:=.mk) (ow:=[29,1000119]) (kp:=(fun k=>k==0||k==1||k==2||k==4||k==6||k==7||k==8||k==9||k==10||k==11||k==12||k==13||k==14||k==15||k==16||k==22||k==33||k==56)) ?_;rw[Tryz.ntmps44];simp -dsimp[dX,Pk.cs];try refine⟨?_,⟨by kernel_rfl⟩⟩
 refine ah.of hfi [] 0 ?_;by_cases h1:lK l p r=0
 rotate_left
 ·simp -dsimp[h1];try refine⟨?_,⟨by kernel_rfl⟩⟩
  refine Fin.box (.o 6) rfl ?_;simp -dsimp;refine Fin.of ?_;simp[LZ h1,qG,gX]
 simp -dsimp[h1];try refine⟨?_,⟨by kernel_rfl⟩⟩
 obtain⟨hF,hfr,hr⟩:=LY h1;have hwt:=acs hF.ok;rw[hr];have MH:kZ [(r,p)]=wt p:=by simp[kZ]
 refine aN.of [29,1000119] (fun k=>k==0||k==1||k==2||k==4||k==6||k==7||k==8||k==9||k==10||k==11||k==12||k==13||k==14||k==15||k==16||k==22||k==33||k==56) (ι:={z:Nat×Nat×List (Int×Pk)×dQ // mY l (wt p) [(r,p)] gX=mY l z.1 (z.2.2.1.drop z.2.1) z.2.2.2∧kZ (z.2.2.1.drop z.2.1)≤z.1∧z.2.1+z.1≤8129∧z.2.1≤z.2.2.1.length∧(∀q∈z.2.2.1.drop z.2.1,vG l q.2∧(bH l q.1=none→q.2.bits≠0#64))∧z.2.2.2.dl.length+64*z.1≤600000∧z.2.2.2.cr.length+64*z.1≤600000∧z.2.2.2.ls.length+z.1≤600000})
  (fun z=>[(Pl.s 0,It.v (.d (.sl (oq l)))),(Pl.o 6,It.box [TV.c (Value.slice none 0 0),TV.c (Value.slice none 0 0),TV.c (Value.slice none 0 0)]),(Pl.s 6,It.v (.ptr (Pl.o 6) 0)),(Pl.s 7,It.v (.d (.int .i64 0))),
   (Pl.o 10,It.box [TV.aB 70 z.1.2.2.2.dl.length,TV.aB 71 z.1.2.2.2.cr.length,TV.aB 72 z.1.2.2.2.ls.length]),(Pl.s 10,It.v (.ptr (Pl.o 10) 0)),
   (Pl.o 70,It.row 92 11 (dd (z.1.2.2.2.dl.map lT)) false),(Pl.o 71,It.row 96 3 (dd (z.1.2.2.2.cr.map lJ)) false),(Pl.o 72,It.row 176 2 (dd (z.1.2.2.2.ls.map qO)) false),
   (Pl.o 29,It.row 29 12 (dd (z.1.2.2.1.map DI)) false),(Pl.s 9,It.v (.aB 29 z.1.2.2.1.length)),(Pl.s 11,It.v (.d (.int .i64 z.1.2.1)))])
  (fun z=>z.1.1) ⟨(wt p,0,[(r,p)],gX),rfl,by simp only[List.drop_zero,MH];omega,by simp only;omega,by simp,by intro q hq;simp at hq;subst hq;exact⟨hF,fun e=>by simp[e]at hfr⟩,by simp[gX];omega,by simp[gX];omega,by simp[gX];omega⟩ ?_ ?_
 ·refine(GS.PL (.o 10) 0 70 (cs:=[.c (.slice none 0 0),.c (.slice none 0 0),.c (.slice none 0 0)]) 92 11 (by simp) (by simp) (by simp) (by simp)).trans ?_;simp only[iI,Pl.o.injEq,reduceCtorEq,if_false,if_true,Nat.reduceEqDiff,List.set];refine(GS.PL (.o 10) 1 71 (cs:=[.aB 70 0,.c (.slice none 0 0),.c (.slice none 0 0)]) 96 3 (by simp) (by simp) (by simp) (by simp)).trans ?_
  simp only[iI,Pl.o.injEq,reduceCtorEq,if_false,if_true,Nat.reduceEqDiff,List.set];exact GS.gq (.o 10) 2 72 (cs:=[.aB 70 0,.aB 71 0,.c (.slice none 0 0)]) 176 2 (by simp) (by simp) (by simp) (by simp) (by simp[gX,DI,Pk.cs])
 ·rintro⟨⟨n,i,Q,t⟩,i1,i2,i3,i4,i5,i6,i7,i8⟩;simp only at i1 i2 i3 i4 i5 i6 i7 i8;by_cases hi:i<Q.length
  ·have hiz:(i:Int)<Q.length:=by omega
   have hg:Q[i]? = some Q[i]:=List.getElem?_eq_getElem hi;have hd:Q.drop i=Q[i]::Q.drop (i+1):=List.drop_eq_getElem_cons hi;generalize Q[i]=q at hg hd;obtain⟨q1,q2⟩:=q;rw[hd]at i1 i2 i5
   rw[qV]at i2
   have hq:=yX l (q1,q2);have hQl:=uG (Q.drop (i+1));rw[List.length_drop]at hQl
   have hw1:1≤wt q2:=by unfold wt;omega
   simp only at i2 hq;obtain⟨n,rfl⟩:∃j,n=j+1:=⟨n-1,by omega⟩
   rw[mY]at i1
   have MB:=(i5 (q1,q2) (by simp)).1;have hFb:=(i5 (q1,q2) (by simp)).2;have hfq:=CO l hl q1;have hgr:(dd (Q.map DI))[i]? = some (TV.d (.int .i64 q1)::TV.d (.sl [])::q2.cs.map .d):=by simp[dd,hg,DI]
   simp -dsimp[hiz,hgr,Pk.cs];and_intros;all_goals try first|omega|exact⟨by kernel_rfl⟩
   have step:∀(o:Out) (Q':List (Int×Pk)) (i':Int),GS {E0:=E0,N:=70}
     (Tr.look [(Pl.s 0,It.v (.d (.sl (oq l)))),(Pl.o 6,It.box [TV.c (Value.slice none 0 0),TV.c (Value.slice none 0 0),TV.c (Value.slice none 0 0)]),(Pl.s 6,It.v (.ptr (Pl.o 6) 0)),(Pl.s 7,It.v (.d (.int .i64 0))),
      (Pl.o 10,It.box [TV.aB 1900 (iM t q1 q2 o).dl.length,TV.aB 1901 (iM t q1 q2 o).cr.length,TV.aB 1902 (iM t q1 q2 o).ls.length]),(Pl.s 10,It.v (.ptr (Pl.o 10) 0)),
      (Pl.o 1900,It.row 92 11 (dd ((iM t q1 q2 o).dl.map lT)) false),(Pl.o 1901,It.row 96 3 (dd ((iM t q1 q2 o).cr.map lJ)) false),(Pl.o 1902,It.row 176 2 (dd ((iM t q1 q2 o).ls.map qO)) false),
      (Pl.o 29,It.row 29 12 (dd (Q'.map DI)) false),(Pl.s 9,It.v (.aB 29 Q'.length)),(Pl.s 11,It.v (.d (.int .i64 i')))])
     (Tr.look [(Pl.s 0,It.v (.d (.sl (oq l)))),(Pl.o 6,It.box [TV.c (Value.slice none 0 0),TV.c (Value.slice none 0 0),TV.c (Value.slice none 0 0)]),(Pl.s 6,It.v (.ptr (Pl.o 6) 0)),(Pl.s 7,It.v (.d (.int .i64 0))),
      (Pl.o 10,It.box [TV.aB 70 (iM t q1 q2 o).dl.length,TV.aB 71 (iM t q1 q2 o).cr.length,TV.aB 72 (iM t q1 q2 o).ls.length]),(Pl.s 10,It.v (.ptr (Pl.o 10) 0)),
      (Pl.o 70,It.row 92 11 (dd ((iM t q1 q2 o).dl.map lT)) false),(Pl.o 71,It.row 96 3 (dd ((iM t q1 q2 o).cr.map lJ)) false),(Pl.o 72,It.row 176 2 (dd ((iM t q1 q2 o).ls.map qO)) false),
      (Pl.o 29,It.row 29 12 (dd (Q'.map DI)) false),(Pl.s 9,It.v (.aB 29 Q'.length)),(Pl.s 11,It.v (.d (.int .i64 i')))]):=fun o Q' i'=>by
    refine GS.trans (GS.ren (a:=1900) (b:=70) (by decide) (by rw[Tr.zU];simp)) ?_;rw[iO (by decide) (by simp)];refine GS.trans (GS.ren (a:=1901) (b:=71) (by decide) (by rw[Tr.zU];simp)) ?_;rw[iO (by decide) (by simp)];exact GS.ren' 1902 72 (by decide) (by simp) (by simp)
   have rest:∀o:Out,o.g_.length≤64→mY l (wt p) [(r,p)] gX=mY l n (Q.drop (i+1)++o.g_) (iM t q1 q2 o)→kZ o.g_+1≤wt q2→(∀c∈o.g_,vG l c.2∧(bH l c.1=none→c.2.bits≠0#64))→
     ∃j :{z:Nat×Nat×List (Int×Pk)×dQ // mY l (wt p) [(r,p)] gX=mY l z.1 (z.2.2.1.drop z.2.1) z.2.2.2∧kZ (z.2.2.1.drop z.2.1)≤z.1∧z.2.1+z.1≤8129∧z.2.1≤z.2.2.1.length∧(∀q∈z.2.2.1.drop z.2.1,vG l q.2∧(bH l q.1=none→q.2.bits≠0#64))∧z.2.2.2.dl.length+64*z.1≤600000∧z.2.2.2.cr.length+64*z.1≤600000∧z.2.2.2.ls.length+z.1≤600000},j.1=(n,i+1,Q++o.g_,iM t q1 q2 o):=fun o ho e1 e2 e3=>by
    have hdrop:(Q++o.g_).drop (i+1)=Q.drop (i+1)++o.g_:=List.drop_append_of_le_length (by omega);have hlv:(nI q1 o q2).length≤64:=by unfold nI;rw[List.length_map];exact iT _
    refine⟨⟨(n,i+1,Q++o.g_,iM t q1 q2 o),by simp only[hdrop];exact e1,by simp only[hdrop,A_];omega,by simp only;omega,by simp only[List.length_append];omega,?_,?_,?_,?_⟩,rfl⟩
    ·intro q hq;simp only[hdrop]at hq;rcases List.mem_append.1 hq with hq|hq
     ·exact i5 q (by simp[hq])
     ·exact e3 q hq
    ·simp only[iM,List.length_append];omega
    ·simp only[iM,List.length_append,List.length_map];omega
    ·simp only[iM];split<;>(try simp only[List.length_append,List.length_cons,List.length_nil])<;>omega
   cases hfd:bH l q1 with
   | none=>
     have eN:nextQ l (q1,q2) = []:=by simp[nextQ,hfd]
     have eS:=KI (q:=(q1,q2)) hfd (hFb hfd) t;rw[eN,eS]at i1
     obtain⟨jj,hjj⟩:=rest ⟨0#64,q2.bits,[]⟩ (by simp) i1 (by simp[kZ];omega) (by simp);rw[hfd]at hfq
     simp only[su,Option.getD_none,Option.isSome_none,tb0,bZ]at hfq;have hnt:=IJ t (by omega) (by omega) (by omega) q1 q2 ⟨0#64,q2.bits,[]⟩ (by simp);simp only[dX,Pk.cs,List.map,outT,wE]at hnt;refine ah.of hfq [] 0 ?_;simp -dsimp[hiz];try refine⟨?_,⟨by kernel_rfl⟩⟩
     refine ah.view [63] ?_;simp -dsimp;try refine⟨?_,⟨by kernel_rfl⟩⟩
     refine ah.of2 hnt [] [(900,70),(901,71),(902,72)] 1000 ?_;simp -dsimp[bv,wrap_i64 (n:=(i:Int)+1) (by omega) (by omega)];and_intros;all_goals try first|omega|exact⟨by kernel_rfl⟩
     refine⟨jj,?_,by rw[hjj];simp⟩;rw[hjj];refine(GS.to ?_).trans (step ⟨0#64,q2.bits,[]⟩ (Q++[]) ((i:Int)+1));simp[bv,Pk.cs]
   | some b2=>
     have hb2:b2.Sm:=hl.t b2 (List.mem_of_find?_eq_some hfd);have hB2:=MB.all b2 (eY hfd).1;obtain⟨hV1,hV2⟩:=pW hB2;have eN:nextQ l (q1,q2)=(iH b2 q2).g_:=by simp[nextQ,hfd,hV1]
     have eS:=KJ (q:=(q1,q2)) hfd t;have hnf:=II (q:=(q1,q2)) MB;have hRI:=(Wh.step (l:=l) (q:=(q1,q2)) (Q:=[]) (t:=gX) ⟨fun c hc=>by simp at hc;subst hc;exact⟨MB,hFb⟩,by simp[gX],by simp[gX],by simp[gX]⟩).fit;rw[List.nil_append]at hRI
     rw[eN]at i1 hq hRI
     rw[eS,hV1]at i1
     have hcl:=CP b2 q2;rw[hV1]at hcl
     simp only at hcl i1;have hdo:=Kt b2 hb2 q2 hB2.ck MB.ok hB2.len;rw[hfd]at hfq
     simp only[su,Option.getD_some,Option.isSome_some,bZ]at hfq;clear hV1 hV2 eN eS hnf;generalize iH b2 q2=o at i1 hq hRI hcl hdo;obtain⟨jj,hjj⟩:=rest o hcl i1 hq hRI;have hnt:=IJ t (by omega) (by omega) (by omega) q1 q2 o hcl;simp only[dX,Pk.cs,List.map,outT,wE,bZ]at hnt hdo;have hdl:dLen 12 (o.g_.map DI):=iF 12 _ _ fun _=>rfl
     refine ah.of hfq [] 0 ?_;simp -dsimp[hiz];try refine⟨?_,⟨by kernel_rfl⟩⟩
     refine ah.of hdo [] 0 ?_;simp -dsimp;try refine⟨?_,⟨by kernel_rfl⟩⟩
     refine ah.of2 hnt [] [(900,70),(901,71),(902,72)] 1000 ?_;simp -dsimp[bv,wrap_i64 (n:=(i:Int)+1) (by omega) (by omega)];and_intros;all_goals try first|omega|exact hdl|exact⟨by kernel_rfl⟩
     refine⟨jj,?_,by rw[hjj];simp⟩;rw[hjj];refine(GS.to ?_).trans (step o (Q++o.g_) ((i:Int)+1));simp[bv,Pk.cs]
  ·have hiz :¬(i:Int)<Q.length:=by omega
   have e0:Q.drop i = []:=List.drop_eq_nil_of_le (by omega);rw[e0,rE]at i1
   simp -dsimp[hiz];try refine⟨?_,⟨by kernel_rfl⟩⟩
   refine Fin.box (.o 6) rfl ?_;simp -dsimp;refine Fin.of ?_;simp[qG,i1]
theorem ag_(T:Tp){most:Int}(hm:1≤most∧most≤24):(Hw T most).2.2.1.length≤24∧(∀b∈(Hw T most).2.2.1,chk b=0)∧ak (Hw T most).2.2.2=ak T∧(Hw T most).2.1.es.length≤24∧1≤(Hw T most).1.rs.length∧(Hw T most).1.rs.length≤24:=by
 have hs:=vV T hm;obtain⟨h1,h2⟩:=fV (dG T most).2 (dG T most).1.rs;refine⟨NW _ _,Lj _ _,h1.trans (by simp),Nat.le_trans h2 hs.1,?_,hs.1⟩;have b1:=aS T 1 most;simp[Hw,dG,cu];omega
end Go.Proofs
