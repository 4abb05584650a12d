/-
  What functions of the program compute, stated as contracts over plain data; the conditions of each stand in its own statement.
-/
import Derived.Test.YtboimfkommpglaaGreatDoorZA28
import Derived.Test.YtboimfkommpglaaGreatDoorZA29
import Derived.Test.YtboimfkommpglaaGreatDoorZA42
import Derived.LaidMore
import Derived.Stop.Joined
import Derived.SevenTiedAt
import Derived.JoinedOf
set_option linter.unusedSimpArgs false
set_option linter.unusedVariables false
set_option maxRecDepth 100000
set_option maxHeartbeats 16000000
namespace Go.Proofs
open Go Go.Tr
theorem adS(L:List Int)(hL:∀x∈L,I64 x):Contract Tryz.prog 6 [.d (ints L)] [] (.d (.bool true)) [] []:=by
 refine aj Tryz.func6 rfl (fun E0=>?_);refine cO.sound (g:=.mk) (ow:=[]) (kp:=(fun k=>k==0||k==2||k==3||k==4||k==5||k==6||k==7||k==8||k==9||k==10||k==11||k==12||k==13||k==14||k==15||k==16||k==18||k==77||k==82||k==89||k==107||k==112||k==133)) ?_;rw[Tryz.ntmps6];simp -dsimp[ints];refine ah.of (new_c L) [] 3000 ?_;simp -dsimp[ints];have kT:ak (L.take 600,0):=Dx L hL
 generalize (L.take 600,0)=T0 at kT⊢;try refine⟨rfl,?_⟩
 refine ah.of (vN T0 kT 7 (by omega)) [.o 3010] 0 ?_;have Am:=eF T0 (most:=7) (by omega);obtain⟨d1,d2,d3,d4,d5,d6,d7⟩:=wQ T0 (most:=7) (by omega);have kD:ak (bD T0 7).2.2.2:=d1.symm▸kT;clear d1;generalize bD T0 7=D0 at Am d2 d3 d4 d5 d6 d7 kD⊢;obtain⟨g,p,X,T1⟩:=D0;simp only at Am d2 d3 d4 d5 d6 d7 kD⊢;have hX:=Am.tab;have h0:=Am.top.ok
 have hp:=Am.plan;have hlen:=Am.len;have hl0:p.len≠0:=fun e=>by rw[e]at hlen;simp[aG]at hlen
 have hlI:I64 p.len:=by simp[aG]at hlen;unfold I64;omega
 simp -dsimp[aH,bI];try and_intros
 all_goals try first|rfl|omega|exact⟨by kernel_rfl⟩
 refine ah.of (Ih T1 kD p (by omega) hl0 hlI) [.o 3010] 0 ?_;have kF:ak (mM T1 p).2:=by rw[yM];exact kD
 have WX:=ug T1 Am.bF Am.len;generalize mM T1 p=F at kF WX⊢;obtain⟨q,T2⟩:=F;simp only at kF WX⊢;simp only[dX,Pk.cs,List.map];simp -dsimp[bI];try and_intros
 all_goals try first|rfl|omega|exact⟨by kernel_rfl⟩
 refine ah.of (uP T2 kF g.rs g.ls (by omega)) [.o 3010] 0 ?_;have m1:=aC T2 g.rs.length;have m2:=bg T2 (n:=g.rs.length) (by omega);generalize au T2 g.rs.length=A at m1 m2⊢;obtain⟨a,T3⟩:=A;simp only at m1 m2⊢;have hr:=Dn m1 m2;generalize (g.rs.getD a.toNat ⟨0,false⟩).id=r at hr⊢;have h1:=Lc g d5 X d7 q r;have h2:=Xy X d7 q r
 obtain⟨a1,a2,a3,a4,a5,a6⟩:=afW h0 hp WX hr;rw[←hX]at a1 a2 a3 a4 a5 a6
 obtain⟨s1,s2,s3⟩:=rH g X q r;obtain⟨v1,v2,v3⟩:=adF X q r;generalize mZ g X q r=U at h1 a1 a2 a3 a4 a5 a6 s1 s2 s3;generalize nK X q r=V at h2 a1 a2 a3 a5 v1 v2 v3;obtain⟨U,e⟩:=U;obtain⟨V,f⟩:=V;simp only at a1 a2 a3 a4 a5 a6 s1 s2 s3 v1 v2 v3;subst a1;have h3:=YN U s3;have h4:=YN V (by omega);have h5:=Qi U s1 s3 q.bits;rw[←a3]at h4
 generalize D7 U.ls=lo at h3 h4;simp only[aH,dX,Pk.cs,List.map,qG,bv]at h1 h2 h3 h4 h5;simp -dsimp[aH,Pk.cs,bv];and_intros;all_goals try first|rfl|omega|exact⟨by kernel_rfl⟩
 refine ah.of h1 [] 0 ?_;simp -dsimp[aH,Pk.cs,bv];and_intros;all_goals try first|rfl|omega|exact⟨by kernel_rfl⟩
 refine ah.of h2 [] 0 ?_;simp -dsimp[a2,bv];and_intros;all_goals try first|rfl|omega|exact⟨by kernel_rfl⟩
 refine ah.of h3 [] 0 ?_;simp -dsimp[a2,bv];and_intros;all_goals try first|rfl|omega|exact⟨by kernel_rfl⟩
 refine ah.of h4 [] 0 ?_;have h7:=fun f t=>yt g d5 f t
 simp only[aH,mO]at h7;by_cases c0:e=0
 ·rw[a4 c0]at h5
  simp -dsimp[c0,bv];and_intros;all_goals try first|rfl|omega|exact⟨by kernel_rfl⟩
  refine ah.of h5 [] 0 ?_;simp -dsimp[c0,bv];and_intros;all_goals try first|rfl|omega|exact⟨by kernel_rfl⟩
  as_aux_lemma=>
  refine aN.of [] (fun k=>k==0||k==2||k==3||k==4||k==5||k==6||k==7||k==8||k==9||k==10||k==11||k==12||k==13||k==14||k==15||k==16||k==18||k==77||k==82||k==89||k==107||k==112||k==133) (ι:={i:Nat // i≤V.dl.length})
   (fun z=>[(Pl.o 4,It.box [TV.d (.sl (rts g.rs)),TV.d (.sl (dO g.ls))]),(Pl.s 4,It.v (.ptr (.o 4) 0)),(Pl.o 9,It.box [TV.d (.sl (U.dl.map lT)),TV.d (.sl (U.cr.map lJ)),TV.d (.sl (U.ls.map qO))]),(Pl.s 9,It.v (.ptr (.o 9) 0)),(Pl.o 11,It.box [TV.d (.sl (V.dl.map lT)),TV.d (.sl (V.cr.map lJ)),TV.d (.sl (V.ls.map qO))]),(Pl.s 11,It.v (.ptr (.o 11) 0)),(Pl.s 13,It.v (.d (.int .i64 z.1)))])
   (fun z=>V.dl.length-z.1) ⟨0,by omega⟩ ?_ ?_
  ·exact GS.to (by simp)
  rintro⟨i,i1⟩;by_cases hi:i<V.dl.length
  ·have hiz:(i:Int)<V.dl.length:=by omega
   have hx:V.dl[i]? = some V.dl[i]:=List.getElem?_eq_getElem hi;have hm:=a5 _ (List.getElem_mem hi);generalize V.dl[i]=d at hx hm;simp -dsimp[hiz];and_intros;all_goals try first|rfl|omega|exact⟨by kernel_rfl⟩
   refine aN.of [] (fun k=>k==0||k==2||k==3||k==4||k==5||k==6||k==7||k==8||k==9||k==10||k==11||k==12||k==13||k==14||k==15||k==16||k==18||k==77||k==82||k==89||k==107||k==112||k==133) (ι:={z:Nat×Bool // z.1≤U.dl.length∧(d∈U.dl.take z.1→z.2=true)})
    (fun z=>[(Pl.o 4,It.box [TV.d (.sl (rts g.rs)),TV.d (.sl (dO g.ls))]),(Pl.s 4,It.v (.ptr (.o 4) 0)),(Pl.o 9,It.box [TV.d (.sl (U.dl.map lT)),TV.d (.sl (U.cr.map lJ)),TV.d (.sl (U.ls.map qO))]),(Pl.s 9,It.v (.ptr (.o 9) 0)),(Pl.o 11,It.box [TV.d (.sl (V.dl.map lT)),TV.d (.sl (V.cr.map lJ)),TV.d (.sl (V.ls.map qO))]),(Pl.s 11,It.v (.ptr (.o 11) 0)),(Pl.s 13,It.v (.d (.int .i64 i))),
     (Pl.s 14,It.v (.d (.bool z.1.2))),(Pl.s 15,It.v (.d (.int .i64 z.1.1)))])
    (fun z=>U.dl.length-z.1.1) ⟨(0,false),by omega,by simp⟩ ?_ ?_
   ·exact GS.to (by simp)
   rintro⟨⟨k,f⟩,k1,k2⟩;simp only at k1 k2;by_cases hk:k<U.dl.length
   ·have hkz:(k:Int)<U.dl.length:=by omega
    have hy:U.dl[k]? = some U.dl[k]:=List.getElem?_eq_getElem hk;have ht:U.dl.take (k+1)=U.dl.take k++[U.dl[k]]:=by rw[List.take_add_one,hy];rfl
    generalize U.dl[k]=x at hy ht;have w1:IntKind.i64.wrap ((k:Int)+1)=(k:Int)+1:=wrap_i64 (by omega) (by omega);cases f with
    | true=>
      simp -dsimp[hiz,hkz,hx,hy,lT,Pk.cs,w1];and_intros;all_goals try first|omega|exact⟨by kernel_rfl⟩|rfl
      exact⟨⟨(k+1,true),by simp only;omega,fun _=>rfl⟩,GS.to (by simp),by simp;omega⟩
    | false=>
      have hno:d∉U.dl.take k:=fun h=>by have:=k2 h;simp at this
      by_cases hxd:x=d
      ·subst hxd;simp -dsimp[hiz,hkz,hx,hy,lT,Pk.cs,bv,w1];and_intros;all_goals try first|omega|exact⟨by kernel_rfl⟩|rfl
       exact⟨⟨(k+1,true),by simp only;omega,fun _=>rfl⟩,GS.to (by simp),by simp;omega⟩
      ·simp -dsimp[hiz,hkz,hx,hy,lT,Pk.cs,bv,w1];and_intros;all_goals try first|omega|exact⟨by kernel_rfl⟩|rfl
       refine⟨⟨(k+1,_),by simp only;omega,fun h=>?_⟩,GS.to (by simp;rfl),by simp;omega⟩;rw[ht]at h
       rcases List.mem_append.1 h with h|h
       ·exact absurd h hno
       ·exact absurd (List.mem_singleton.1 h).symm hxd
   ·have hkz :¬(k:Int)<U.dl.length:=by omega
    rw[List.take_of_length_le (by omega)]at k2
    have hf:=k2 hm;subst hf;have w1:IntKind.i64.wrap ((i:Int)+1)=(i:Int)+1:=wrap_i64 (by omega) (by omega);simp -dsimp[hkz,w1];and_intros;all_goals try first|rfl|omega|exact⟨by kernel_rfl⟩
    exact⟨⟨i+1,by omega⟩,GS.to (by simp),by simp;omega⟩
  have hiz :¬(i:Int)<V.dl.length:=by omega
  simp -dsimp[hiz];and_intros;all_goals try first|rfl|omega|exact⟨by kernel_rfl⟩
  refine aN.of [] (fun k=>k==0||k==2||k==3||k==4||k==5||k==6||k==7||k==8||k==9||k==10||k==11||k==12||k==13||k==14||k==15||k==16||k==18||k==77||k==82||k==89||k==107||k==112||k==133) (ι:={i:Nat // i≤U.cr.length})
   (fun z=>[(Pl.o 4,It.box [TV.d (.sl (rts g.rs)),TV.d (.sl (dO g.ls))]),(Pl.s 4,It.v (.ptr (.o 4) 0)),(Pl.o 9,It.box [TV.d (.sl (U.dl.map lT)),TV.d (.sl (U.cr.map lJ)),TV.d (.sl (U.ls.map qO))]),(Pl.s 9,It.v (.ptr (.o 9) 0)),(Pl.s 16,It.v (.d (.int .i64 z.1)))])
   (fun z=>U.cr.length-z.1) ⟨0,by omega⟩ ?_ ?_
  ·exact GS.to (by simp)
  rintro⟨j,j1⟩;by_cases hj:j<U.cr.length
  ·have hjz:(j:Int)<U.cr.length:=by omega
   have hx:U.cr[j]? = some U.cr[j]:=List.getElem?_eq_getElem hj;have hm:=a6 _ (List.getElem_mem hj);generalize U.cr[j]=c at hx hm;have h8:=h7 c.1 c.2.1;rw[hm]at h8
   have w1:IntKind.i64.wrap ((j:Int)+1)=(j:Int)+1:=wrap_i64 (by omega) (by omega);simp -dsimp[hjz,hx,lJ];and_intros;all_goals try first|rfl|omega|exact⟨by kernel_rfl⟩
   refine ah.of h8 [] 0 ?_;simp -dsimp[w1];and_intros;all_goals try first|rfl|omega|exact⟨by kernel_rfl⟩
   exact⟨⟨j+1,by omega⟩,GS.to (by simp),by simp;omega⟩
  have hjz :¬(j:Int)<U.cr.length:=by omega
  simp -dsimp[hjz];and_intros;all_goals try first|rfl|omega|exact⟨by kernel_rfl⟩
  refine ah.of mg [] 0 ?_;simp -dsimp;and_intros;all_goals try first|rfl|omega|exact⟨by kernel_rfl⟩
  refine Fin.of ?_;simp
 ·simp -dsimp[c0,bv];and_intros;all_goals try first|rfl|omega|exact⟨by kernel_rfl⟩
  as_aux_lemma=>
  refine aN.of [] (fun k=>k==0||k==2||k==3||k==4||k==5||k==6||k==7||k==8||k==9||k==10||k==11||k==12||k==13||k==14||k==15||k==16||k==18||k==77||k==82||k==89||k==107||k==112||k==133) (ι:={i:Nat // i≤V.dl.length})
   (fun z=>[(Pl.o 4,It.box [TV.d (.sl (rts g.rs)),TV.d (.sl (dO g.ls))]),(Pl.s 4,It.v (.ptr (.o 4) 0)),(Pl.o 9,It.box [TV.d (.sl (U.dl.map lT)),TV.d (.sl (U.cr.map lJ)),TV.d (.sl (U.ls.map qO))]),(Pl.s 9,It.v (.ptr (.o 9) 0)),(Pl.o 11,It.box [TV.d (.sl (V.dl.map lT)),TV.d (.sl (V.cr.map lJ)),TV.d (.sl (V.ls.map qO))]),(Pl.s 11,It.v (.ptr (.o 11) 0)),(Pl.s 13,It.v (.d (.int .i64 z.1)))])
   (fun z=>V.dl.length-z.1) ⟨0,by omega⟩ ?_ ?_
  ·exact GS.to (by simp)
  rintro⟨i,i1⟩;by_cases hi:i<V.dl.length
  ·have hiz:(i:Int)<V.dl.length:=by omega
   have hx:V.dl[i]? = some V.dl[i]:=List.getElem?_eq_getElem hi;have hm:=a5 _ (List.getElem_mem hi);generalize V.dl[i]=d at hx hm;simp -dsimp[hiz];and_intros;all_goals try first|rfl|omega|exact⟨by kernel_rfl⟩
   refine aN.of [] (fun k=>k==0||k==2||k==3||k==4||k==5||k==6||k==7||k==8||k==9||k==10||k==11||k==12||k==13||k==14||k==15||k==16||k==18||k==77||k==82||k==89||k==107||k==112||k==133) (ι:={z:Nat×Bool // z.1≤U.dl.length∧(d∈U.dl.take z.1→z.2=true)})
    (fun z=>[(Pl.o 4,It.box [TV.d (.sl (rts g.rs)),TV.d (.sl (dO g.ls))]),(Pl.s 4,It.v (.ptr (.o 4) 0)),(Pl.o 9,It.box [TV.d (.sl (U.dl.map lT)),TV.d (.sl (U.cr.map lJ)),TV.d (.sl (U.ls.map qO))]),(Pl.s 9,It.v (.ptr (.o 9) 0)),(Pl.o 11,It.box [TV.d (.sl (V.dl.map lT)),TV.d (.sl (V.cr.map lJ)),TV.d (.sl (V.ls.map qO))]),(Pl.s 11,It.v (.ptr (.o 11) 0)),(Pl.s 13,It.v (.d (.int .i64 i))),
     (Pl.s 14,It.v (.d (.bool z.1.2))),(Pl.s 15,It.v (.d (.int .i64 z.1.1)))])
    (fun z=>U.dl.length-z.1.1) ⟨(0,false),by omega,by simp⟩ ?_ ?_
   ·exact GS.to (by simp)
   rintro⟨⟨k,f⟩,k1,k2⟩;simp only at k1 k2;by_cases hk:k<U.dl.length
   ·have hkz:(k:Int)<U.dl.length:=by omega
    have hy:U.dl[k]? = some U.dl[k]:=List.getElem?_eq_getElem hk;have ht:U.dl.take (k+1)=U.dl.take k++[U.dl[k]]:=by rw[List.take_add_one,hy];rfl
    generalize U.dl[k]=x at hy ht;have w1:IntKind.i64.wrap ((k:Int)+1)=(k:Int)+1:=wrap_i64 (by omega) (by omega);cases f with
    | true=>
      simp -dsimp[hiz,hkz,hx,hy,lT,Pk.cs,w1];and_intros;all_goals try first|omega|exact⟨by kernel_rfl⟩|rfl
      exact⟨⟨(k+1,true),by simp only;omega,fun _=>rfl⟩,GS.to (by simp),by simp;omega⟩
    | false=>
      have hno:d∉U.dl.take k:=fun h=>by have:=k2 h;simp at this
      by_cases hxd:x=d
      ·subst hxd;simp -dsimp[hiz,hkz,hx,hy,lT,Pk.cs,bv,w1];and_intros;all_goals try first|omega|exact⟨by kernel_rfl⟩|rfl
       exact⟨⟨(k+1,true),by simp only;omega,fun _=>rfl⟩,GS.to (by simp),by simp;omega⟩
      ·simp -dsimp[hiz,hkz,hx,hy,lT,Pk.cs,bv,w1];and_intros;all_goals try first|omega|exact⟨by kernel_rfl⟩|rfl
       refine⟨⟨(k+1,_),by simp only;omega,fun h=>?_⟩,GS.to (by simp;rfl),by simp;omega⟩;rw[ht]at h
       rcases List.mem_append.1 h with h|h
       ·exact absurd h hno
       ·exact absurd (List.mem_singleton.1 h).symm hxd
   ·have hkz :¬(k:Int)<U.dl.length:=by omega
    rw[List.take_of_length_le (by omega)]at k2
    have hf:=k2 hm;subst hf;have w1:IntKind.i64.wrap ((i:Int)+1)=(i:Int)+1:=wrap_i64 (by omega) (by omega);simp -dsimp[hkz,w1];and_intros;all_goals try first|rfl|omega|exact⟨by kernel_rfl⟩
    exact⟨⟨i+1,by omega⟩,GS.to (by simp),by simp;omega⟩
  have hiz :¬(i:Int)<V.dl.length:=by omega
  simp -dsimp[hiz];and_intros;all_goals try first|rfl|omega|exact⟨by kernel_rfl⟩
  refine aN.of [] (fun k=>k==0||k==2||k==3||k==4||k==5||k==6||k==7||k==8||k==9||k==10||k==11||k==12||k==13||k==14||k==15||k==16||k==18||k==77||k==82||k==89||k==107||k==112||k==133) (ι:={i:Nat // i≤U.cr.length})
   (fun z=>[(Pl.o 4,It.box [TV.d (.sl (rts g.rs)),TV.d (.sl (dO g.ls))]),(Pl.s 4,It.v (.ptr (.o 4) 0)),(Pl.o 9,It.box [TV.d (.sl (U.dl.map lT)),TV.d (.sl (U.cr.map lJ)),TV.d (.sl (U.ls.map qO))]),(Pl.s 9,It.v (.ptr (.o 9) 0)),(Pl.s 16,It.v (.d (.int .i64 z.1)))])
   (fun z=>U.cr.length-z.1) ⟨0,by omega⟩ ?_ ?_
  ·exact GS.to (by simp)
  rintro⟨j,j1⟩;by_cases hj:j<U.cr.length
  ·have hjz:(j:Int)<U.cr.length:=by omega
   have hx:U.cr[j]? = some U.cr[j]:=List.getElem?_eq_getElem hj;have hm:=a6 _ (List.getElem_mem hj);generalize U.cr[j]=c at hx hm;have h8:=h7 c.1 c.2.1;rw[hm]at h8
   have w1:IntKind.i64.wrap ((j:Int)+1)=(j:Int)+1:=wrap_i64 (by omega) (by omega);simp -dsimp[hjz,hx,lJ];and_intros;all_goals try first|rfl|omega|exact⟨by kernel_rfl⟩
   refine ah.of h8 [] 0 ?_;simp -dsimp[w1];and_intros;all_goals try first|rfl|omega|exact⟨by kernel_rfl⟩
   exact⟨⟨j+1,by omega⟩,GS.to (by simp),by simp;omega⟩
  have hjz :¬(j:Int)<U.cr.length:=by omega
  simp -dsimp[hjz];and_intros;all_goals try first|rfl|omega|exact⟨by kernel_rfl⟩
  refine ah.of mg [] 0 ?_;simp -dsimp;and_intros;all_goals try first|rfl|omega|exact⟨by kernel_rfl⟩
  refine Fin.of ?_;simp
end Go.Proofs

namespace Go.Proofs.YtboimfkommpglaaGreatDoor.tunnelSame
open Go
theorem j10:(Rows.tunnelSameRow.inPlace==Tryz.prog.inPlace 6)=true:=by kernel_rfl
theorem j11:(Rows.tunnelSameRow.unfollowed==Tryz.prog.unfollowed 6)=true:=by kernel_rfl
theorem j12:(Rows.tunnelSameRow.recurses==Tryz.prog.recurses 6)=true:=by kernel_rfl
theorem j13:(Rows.tunnelSameRow.named==Tryz.prog.varsNamed 6)=true:=by kernel_rfl
theorem j23:(Rows.tunnelSameRow.plainKeys==Tryz.prog.plainKeys)=true:=by kernel_rfl
theorem j27:(Rows.tunnelSameRow.lifted==Tryz.prog.liftsFinal)=true:=by kernel_rfl
theorem j28:(Tryz.prog.make==some Rows.tunnelSameRow.make)=true:=by kernel_rfl
theorem goes:false=Rows.tunnelSameRow.goesBy Tryz.prog:=by kernel_rfl
theorem VB : Tryz.prog.funcNamed "bitcast/bitcastlaw16.TunnelSame" = some 6 := by kernel_rfl
set_option maxRecDepth 100000 in
theorem closed:joinedFacts Tryz.prog 6 Tryz.f6 Rows.tunnelSameSpec Rows.tunnelSameRow=true:=by
 delta joinedFacts
 exact(cf.bK (cf.bK (cf.bK (cf.bK (cf.bK (cf.bK (cf.bK (cf.bK (cf.bK (cf.bK (cf.bK (cf.bK (cf.bK (cf.bK (cf.bK (cf.bK (cf.bK (cf.bK (cf.bK (cf.bK (cf.bK (cf.bK (cf.bK (cf.bK (cf.bK (cf.bK (cf.bK (cf.bK (cf.bK (cf.bK (cf.bK (by kernel_rfl) cf.laidOut) cf.rowed) (by kernel_rfl)) (by kernel_rfl)) (by kernel_rfl)) (by kernel_rfl)) (by kernel_rfl)) (by kernel_rfl)) j10) j11) j12) j13) (by kernel_rfl)) (by kernel_rfl)) (by kernel_rfl)) (by kernel_rfl)) (by kernel_rfl)) (by kernel_rfl)) (by kernel_rfl)) (by kernel_rfl)) (by kernel_rfl)) j23) (by kernel_rfl)) cf.heard) cf.may) j27) j28) (by kernel_rfl)) (by kernel_rfl)) (by kernel_rfl)) (by kernel_rfl))
theorem inst:Tryz.f6.isInstance Tryz.prog Rows.tunnelSameRow.origin Rows.tunnelSameRow.targs:=of_decide_eq_true (by kernel_rfl)
theorem wrap:Tryz.f6.isWrapper Tryz.prog Rows.tunnelSameRow.wrapper Rows.tunnelSameRow.mainSum:=by unfold Func.isWrapper;first|(rw[if_pos (by decide+kernel)];kernel_rfl)|(rw[if_neg (by decide+kernel)];exact⟨rfl,rfl⟩)
end Go.Proofs.YtboimfkommpglaaGreatDoor.tunnelSame
