/-
  What functions of the program compute, stated as contracts over plain data; the conditions of each stand in its own statement.
-/
import Derived.Test.YtboimfkommpglaaGreatDoorZA29
import Derived.Test.YtboimfkommpglaaGreatDoorZA28
import Derived.Test.YtboimfkommpglaaGreatDoorZA26
import Derived.Test.YtboimfkommpglaaGreatDoorZA22
import Derived.Test.YtboimfkommpglaaGreatDoorZA19
import Derived.Test.YtboimfkommpglaaGreatDoorZA14
import Derived.Test.YtboimfkommpglaaGreatDoorZA17
import Derived.Test.YtboimfkommpglaaGreatDoorZA10
import Derived.Test.YtboimfkommpglaaGreatDoorZA27
import Derived.Test.YtboimfkommpglaaGreatDoorZA35
import Derived.Test.YtboimfkommpglaaGreatDoorZA11
import Derived.LaidMore
import Derived.Stop.Joined
import Derived.SevenTiedAt
import Derived.JoinedOf
set_option linter.unusedSimpArgs false
set_option linter.unusedVariables false
set_option maxRecDepth 100000
set_option maxHeartbeats 16000000
namespace Go.Proofs
open Go Go.Tr
theorem adR(L:List Int)(hL:∀x∈L,I64 x)(r0:Int):Contract Tryz.prog 5 [.d (ints L),.d (.int .i64 r0)] [] (.d (.bool true)) [] []:=by
 refine aj Tryz.func5 rfl (fun E0=>?_);refine cO.sound (g:=.mk) (ow:=[]) (kp:=(fun k=>k==0||k==1||k==4||k==5||k==6||k==7||k==8||k==9||k==10||k==11||k==12||k==13||k==14||k==15||k==32||k==40||k==47||k==58||k==91)) ?_;rw[Tryz.ntmps5];simp -dsimp[ints];refine ah.of (new_c L) [] 3000 ?_;simp -dsimp[ints];have kT:ak (L.take 600,0):=Dx L hL;generalize (L.take 600,0)=T0 at kT⊢
 try refine⟨rfl,?_⟩
 refine ah.of (vN T0 kT 6 (by omega)) [.o 3010] 0 ?_;have Am:=eF T0 (most:=6) (by omega);obtain⟨d1,d2,d3,d4,d5,d6,d7⟩:=wQ T0 (most:=6) (by omega);have kD:ak (bD T0 6).2.2.2:=d1.symm▸kT;clear d1;generalize bD T0 6=D0 at Am d2 d3 d4 d5 d6 d7 kD⊢;obtain⟨g,p,X,T1⟩:=D0;simp only at Am d2 d3 d4 d5 d6 d7 kD⊢;have hX:=Am.tab;have h0:=Am.top.ok
 have hp:=Am.plan;have hlen:=Am.len;have hl0:p.len≠0:=fun e=>by rw[e]at hlen;simp[aG]at hlen
 have hlI:I64 p.len:=by simp[aG]at hlen;unfold I64;omega
 simp -dsimp[aH,bI];try and_intros
 all_goals try first|rfl|omega|exact⟨by kernel_rfl⟩
 refine ah.of (Ih T1 kD p (by omega) hl0 hlI) [.o 3010] 0 ?_;have kF:ak (mM T1 p).2:=by rw[yM];exact kD
 have WX:=ug T1 Am.bF Am.len;generalize mM T1 p=F at kF WX⊢;obtain⟨q,T2⟩:=F;simp only at kF WX⊢;simp only[dX,Pk.cs,List.map];simp -dsimp[bI];try and_intros
 all_goals try first|rfl|omega|exact⟨by kernel_rfl⟩
 refine ah.of (fE T2 kF [0,1,3,9] (by simp) (by simp)) [.o 3010] 0 ?_;have k3:ak (aK T2 [0,1,3,9]).2:=by simpa using kF
 generalize aK T2 [0,1,3,9]=B at k3⊢;obtain⟨b,T3⟩:=B;simp only at k3⊢;simp -dsimp[Pk.cs];and_intros;all_goals try first|rfl|omega|exact⟨by kernel_rfl⟩
 refine ah.of (gK T3 k3 3 ⟨by omega,by omega⟩ ⟨by omega,by omega⟩) [.o 3010] 0 ?_;have k4:ak (dD T3 3).2:=by simpa using k3
 generalize dD T3 3=B at k4⊢;obtain⟨u,T4⟩:=B;simp only at k4⊢;apply Sz (H:=fun (l:List Tb) (T:Tp)=>DL l∧ak T)
 case a=>
  intro J;simp -dsimp[aH];and_intros;all_goals try first|rfl|omega|exact⟨by kernel_rfl⟩
  refine⟨fun _=>?_,fun _=>?_⟩
  ·simp -dsimp[aH];and_intros;all_goals try first|rfl|omega|exact⟨by kernel_rfl⟩
   refine ah.of (XJ T4 k4 X d7 g.rs.length (by omega)) [.o 3010] 0 ?_;have kW:ak (DU g.rs.length X T4).2:=by rw[Jk];exact k4
   have hV:=agu h0 hp (n:=g.rs.length) (by omega) T4;rw[←hX]at hV
   generalize DU g.rs.length X T4=W at kW hV⊢;obtain⟨Y,T5⟩:=W;simp only at kW hV⊢;have sY:DL Y:=⟨by have:=hV.n;omega,fun b hb=>Bc (hV.ck b hb)⟩
   simp -dsimp[aH];and_intros;all_goals try first|rfl|omega|exact⟨by kernel_rfl⟩
   exact J Y T5 ⟨sY,kW⟩
  ·simp -dsimp[aH];and_intros;all_goals try first|rfl|omega|exact⟨by kernel_rfl⟩
   exact J X T4 ⟨d7,k4⟩
 case b=>
 rintro l T5 ⟨hl,k5⟩;refine ah.of (gK T5 k5 3 ⟨by omega,by omega⟩ ⟨by omega,by omega⟩) [.o 3010] 0 ?_;have k6:ak (dD T5 3).2:=by simpa using k5
 generalize dD T5 3=B at k6⊢;obtain⟨u,T6⟩:=B;simp only at k6⊢;apply Sz (H:=fun (g:ay) (T:Tp)=>g.Sm∧g.rs.length≤1000∧ak T)
 case a=>
  intro J;simp -dsimp[aH];and_intros;all_goals try first|rfl|omega|exact⟨by kernel_rfl⟩
  refine⟨fun _=>?_,fun _=>?_⟩
  ·simp -dsimp[aH];and_intros;all_goals try first|rfl|omega|exact⟨by kernel_rfl⟩
   have v1:=zL T6 g;have kG:ak (jh T6 g).2:=by rw[BK];exact k6
   refine ah.of (zI T6 k6 g d5) [.o 3010] 0 ?_;generalize jh T6 g=FF at v1 kG⊢;obtain⟨f,T8⟩:=FF;simp only at v1 kG⊢;simp -dsimp[aH,rM];and_intros;all_goals try first|rfl|omega|exact⟨by kernel_rfl⟩
   have hW:=BZ g d5 f (by omega) (by omega);simp only[aH,rM]at hW;refine ah.of hW [] 0 ?_;have g0:=FV h0 f.1 f.2;generalize xJ g f.1 f.2=g' at g0;have hs:=(aU g0).sm;have hrn:=(aU g0).nr;simp -dsimp[aH];and_intros;all_goals try first|rfl|omega|exact⟨by kernel_rfl⟩
   exact J g' T8 ⟨hs,by omega,kG⟩
  ·simp -dsimp[aH];and_intros;all_goals try first|rfl|omega|exact⟨by kernel_rfl⟩
   exact J g T6 ⟨d5,by omega,k6⟩
 case b=>
 clear Am d2 d3 d4 d5 d6 hX h0;rintro g T7 ⟨d5,hrn,k7⟩;refine ah.of (gK T7 k7 8 ⟨by omega,by omega⟩ ⟨by omega,by omega⟩) [.o 3010] 0 ?_;have k8:ak (dD T7 8).2:=by simpa using k7
 generalize dD T7 8=B at k8⊢;obtain⟨u,T8⟩:=B;simp only at k8⊢;apply Sz (H:=fun (q:Pk) (T:Tp)=>ak T)
 case a=>
  intro J;simp -dsimp[aH];and_intros;all_goals try first|rfl|omega|exact⟨by kernel_rfl⟩
  refine⟨fun _=>?_,fun _=>?_⟩
  ·simp -dsimp[aH];and_intros;all_goals try first|rfl|omega|exact⟨by kernel_rfl⟩
   refine ah.of (wC T8 k8 3 ⟨by omega,by omega⟩) [.o 3010] 0 ?_;have kW:ak (bY T8 3).2:=by simpa using k8
   generalize bY T8 3=W at kW⊢;obtain⟨q',T9⟩:=W;simp only at kW⊢;simp -dsimp[dX,Pk.cs];and_intros;all_goals try first|rfl|omega|exact⟨by kernel_rfl⟩
   exact J q' T9 kW
  ·simp -dsimp[aH];and_intros;all_goals try first|rfl|omega|exact⟨by kernel_rfl⟩
   exact J (q.live b) T8 k8
 case b=>
 rintro q T9 k9;refine ah.of (TR T9 k9 0 7 (by omega)) [.o 3010] 0 ?_;have kA:ak (aT T9 0 7).2:=by simpa using k9
 generalize aT T9 0 7=B at kA⊢;obtain⟨r1,T10⟩:=B;simp only at kA⊢;simp -dsimp[aH];and_intros;all_goals try first|rfl|omega|exact⟨by kernel_rfl⟩
 refine ah.of (BR T10 kA g.rs g.ls (by omega)) [.o 3010] 0 ?_;generalize ql T10 g.rs=A;obtain⟨r2,T11⟩:=A;simp only;simp -dsimp;and_intros;all_goals try first|rfl|omega|exact⟨by kernel_rfl⟩
 obtain⟨R,hR⟩:∃R:List Int,R = [r0,r1,r2]:=⟨_,rfl⟩
 have hRl:R.length=3:=by simp[hR]
 refine aN.of [] (fun k=>k==0||k==1||k==4||k==5||k==6||k==7||k==8||k==9||k==10||k==11||k==12||k==13||k==14||k==15||k==32||k==40||k==47||k==58||k==91) (ι:={j:Nat // j≤3})
  (fun z=>[(Pl.o 6,It.box [TV.d (.sl (rts g.rs)),TV.d (.sl (dO g.ls))]),(Pl.s 6,It.v (.ptr (.o 6) 0)),(Pl.s 8,It.v (.d (.sl (oq l)))),(Pl.o 9,It.box (q.cs.map .d)),(Pl.s 9,It.v (.ptr (.o 9) 0)),(Pl.s 10,It.v (.d (ints R))),(Pl.s 11,It.v (.d (.int .i64 z.1)))])
  (fun z=>3-z.1) ⟨0,by omega⟩ ?_ ?_
 ·exact GS.to (by simp[Pk.cs,ints,hR])
 clear hR;rintro⟨j,j1⟩;by_cases hj:j<3
 ·have hjz:(j:Int)<3:=by omega
  obtain⟨x,hx⟩:∃x,R[j]? = some x:=⟨_,List.getElem?_eq_getElem (by omega)⟩
  have h1:=Lc g d5 l hl q x;have h2:=ahA g d5 l hl q x;obtain⟨s1,s2,s3⟩:=rH g l q x;generalize mZ g l q x=U at h1 h2 s1 s2 s3;obtain⟨U,e⟩:=U;simp only at s1 s2 s3;have h3:=FH U s1 s2 s3;simp only[aH,dX,Pk.cs,List.map,qG,bv]at h1 h2 h3;have w1:IntKind.i64.wrap ((j:Int)+1)=(j:Int)+1:=wrap_i64 (by omega) (by omega);simp -dsimp[hjz,hx,Pk.cs,ints,bv];and_intros
  all_goals try first|rfl|omega|exact⟨by kernel_rfl⟩
  refine ah.of h1 [] 0 ?_;simp -dsimp[hx,Pk.cs,ints,bv];and_intros;all_goals try first|rfl|omega|exact⟨by kernel_rfl⟩
  refine ah.of h2 [] 0 ?_;simp -dsimp;and_intros;all_goals try first|rfl|omega|exact⟨by kernel_rfl⟩
  refine ah.of h3 [] 0 ?_;simp -dsimp[w1];and_intros;all_goals try first|rfl|omega|exact⟨by kernel_rfl⟩
  exact⟨⟨j+1,by omega⟩,GS.to (by simp[Pk.cs,bv,ints]),by simp;omega⟩
 have hjz :¬(j:Int)<3:=by omega
 simp -dsimp[hjz];and_intros;all_goals try first|rfl|omega|exact⟨by kernel_rfl⟩
 refine ah.of mg [] 0 ?_;simp -dsimp;and_intros;all_goals try first|rfl|omega|exact⟨by kernel_rfl⟩
 refine Fin.of ?_;simp
theorem Gq{ds:List D}(h:(Ty.int .i64).has ds):∃n,ds = [.int .i64 n]:=by
 simp only[Ty.has]at h;obtain⟨n,rfl,_⟩:=h;exact⟨n,rfl⟩
end Go.Proofs

namespace Go.Proofs.YtboimfkommpglaaGreatDoor.tunnelRuns
open Go
theorem j10:(Rows.tunnelRunsRow.inPlace==Tryz.prog.inPlace 5)=true:=by kernel_rfl
theorem j11:(Rows.tunnelRunsRow.unfollowed==Tryz.prog.unfollowed 5)=true:=by kernel_rfl
theorem j12:(Rows.tunnelRunsRow.recurses==Tryz.prog.recurses 5)=true:=by kernel_rfl
theorem j13:(Rows.tunnelRunsRow.named==Tryz.prog.varsNamed 5)=true:=by kernel_rfl
theorem j23:(Rows.tunnelRunsRow.plainKeys==Tryz.prog.plainKeys)=true:=by kernel_rfl
theorem j27:(Rows.tunnelRunsRow.lifted==Tryz.prog.liftsFinal)=true:=by kernel_rfl
theorem j28:(Tryz.prog.make==some Rows.tunnelRunsRow.make)=true:=by kernel_rfl
theorem goes:false=Rows.tunnelRunsRow.goesBy Tryz.prog:=by kernel_rfl
theorem VB : Tryz.prog.funcNamed "bitcast/bitcastlaw16.TunnelRuns" = some 5 := by kernel_rfl
set_option maxRecDepth 100000 in
theorem closed:joinedFacts Tryz.prog 5 Tryz.f5 Rows.tunnelRunsSpec Rows.tunnelRunsRow=true:=by
 delta joinedFacts
 exact(cf.bK (cf.bK (cf.bK (cf.bK (cf.bK (cf.bK (cf.bK (cf.bK (cf.bK (cf.bK (cf.bK (cf.bK (cf.bK (cf.bK (cf.bK (cf.bK (cf.bK (cf.bK (cf.bK (cf.bK (cf.bK (cf.bK (cf.bK (cf.bK (cf.bK (cf.bK (cf.bK (cf.bK (cf.bK (cf.bK (cf.bK (by kernel_rfl) cf.laidOut) cf.rowed) (by kernel_rfl)) (by kernel_rfl)) (by kernel_rfl)) (by kernel_rfl)) (by kernel_rfl)) (by kernel_rfl)) j10) j11) j12) j13) (by kernel_rfl)) (by kernel_rfl)) (by kernel_rfl)) (by kernel_rfl)) (by kernel_rfl)) (by kernel_rfl)) (by kernel_rfl)) (by kernel_rfl)) (by kernel_rfl)) j23) (by kernel_rfl)) cf.heard) cf.may) j27) j28) (by kernel_rfl)) (by kernel_rfl)) (by kernel_rfl)) (by kernel_rfl))
theorem inst:Tryz.f5.isInstance Tryz.prog Rows.tunnelRunsRow.origin Rows.tunnelRunsRow.targs:=of_decide_eq_true (by kernel_rfl)
theorem wrap:Tryz.f5.isWrapper Tryz.prog Rows.tunnelRunsRow.wrapper Rows.tunnelRunsRow.mainSum:=by unfold Func.isWrapper;first|(rw[if_pos (by decide+kernel)];kernel_rfl)|(rw[if_neg (by decide+kernel)];exact⟨rfl,rfl⟩)
end Go.Proofs.YtboimfkommpglaaGreatDoor.tunnelRuns
