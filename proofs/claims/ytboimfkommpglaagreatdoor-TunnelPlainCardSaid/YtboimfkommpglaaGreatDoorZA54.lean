/-
  What functions of the program compute, stated as contracts over plain data; the conditions of each stand in its own statement.
-/
import Derived.Test.YtboimfkommpglaaGreatDoorZA28
import Derived.Test.YtboimfkommpglaaGreatDoorZA29
import Derived.Test.YtboimfkommpglaaGreatDoorZA53
import Derived.LaidMore
import Derived.Stop.Joined
import Derived.SevenTiedAt
import Derived.JoinedOf
set_option linter.unusedSimpArgs false
set_option linter.unusedVariables false
set_option maxRecDepth 100000
set_option maxHeartbeats 16000000
namespace Go.Proofs
open Go Go.Tr
theorem FH(t:dQ)(h1:t.dl.length≤100000000)(h2:t.cr.length≤100000000)(h3:t.ls.length≤100000000):Contract Tryz.prog 43 [qG t,qG t] [] (.d (.bool true)) [] []:=by
 refine aj Tryz.func43 rfl (fun E0=>?_);refine cO.sound (g:=.mk) (ow:=[]) (kp:=(fun k=>k==0||k==1||k==2||k==3||k==4||k==5||k==6||k==7||k==32||k==37||k==50||k==55||k==68||k==73||k==86)) ?_;rw[Tryz.ntmps43];simp -dsimp[qG];try refine⟨?_,⟨by kernel_rfl⟩⟩
 refine aN.of [] (fun k=>k==0||k==1||k==2||k==3||k==4||k==5||k==6||k==7||k==32||k==37||k==50||k==55||k==68||k==73||k==86) (ι:={i:Nat // i≤t.dl.length∧True}) (fun z=>[(Pl.o 2,It.box [TV.d (.sl (List.map lT t.dl)),TV.d (.sl (List.map lJ t.cr)),TV.d (.sl (List.map qO t.ls))]),(Pl.s 2,It.v (.ptr (Pl.o 2) 0)),(Pl.o 3,It.box [TV.d (.sl (List.map lT t.dl)),TV.d (.sl (List.map lJ t.cr)),TV.d (.sl (List.map qO t.ls))]),(Pl.s 3,It.v (.ptr (Pl.o 3) 0)),(Pl.s 4,It.v (.d (.bool false))),(Pl.s 5,It.v (.d (.int .i64 z.1)))]) (fun z=>t.dl.length-z.1) ⟨0,by omega,trivial⟩ ?_ ?_
 ·exact GS.to (by simp)
 rintro⟨i,i1,_⟩;by_cases hi:i<t.dl.length
 ·have hiz:(i:Int)<t.dl.length:=by omega
  have hg:t.dl[i]? = some t.dl[i]:=List.getElem?_eq_getElem hi;generalize t.dl[i]=x at hg;simp -dsimp[hg,hiz,lT,Pk.cs,bv,wrap_i64 (n:=(i:Int)+1) (by omega) (by omega)];and_intros;all_goals try first|omega|exact⟨by kernel_rfl⟩
  exact⟨⟨i+1,by omega,trivial⟩,GS.to (by simp[]),by simp;omega⟩
 have hiz :¬(i:Int)<t.dl.length:=by omega
 simp -dsimp[hiz];try refine⟨?_,⟨by kernel_rfl⟩⟩
 clear hi hiz i1
 refine aN.of [] (fun k=>k==0||k==1||k==2||k==3||k==4||k==5||k==6||k==7||k==32||k==37||k==50||k==55||k==68||k==73||k==86) (ι:={i:Nat // i≤t.cr.length∧True}) (fun z=>[(Pl.o 2,It.box [TV.d (.sl (List.map lT t.dl)),TV.d (.sl (List.map lJ t.cr)),TV.d (.sl (List.map qO t.ls))]),(Pl.s 2,It.v (.ptr (Pl.o 2) 0)),(Pl.o 3,It.box [TV.d (.sl (List.map lT t.dl)),TV.d (.sl (List.map lJ t.cr)),TV.d (.sl (List.map qO t.ls))]),(Pl.s 3,It.v (.ptr (Pl.o 3) 0)),(Pl.s 4,It.v (.d (.bool false))),(Pl.s 6,It.v (.d (.int .i64 z.1)))]) (fun z=>t.cr.length-z.1) ⟨0,by omega,trivial⟩ ?_ ?_
 ·exact GS.to (by simp)
 rintro⟨i,i1,_⟩;by_cases hi:i<t.cr.length
 ·have hiz:(i:Int)<t.cr.length:=by omega
  have hg:t.cr[i]? = some t.cr[i]:=List.getElem?_eq_getElem hi;generalize t.cr[i]=x at hg;simp -dsimp[hg,hiz,lJ,Pk.cs,bv,wrap_i64 (n:=(i:Int)+1) (by omega) (by omega)];and_intros;all_goals try first|omega|exact⟨by kernel_rfl⟩
  exact⟨⟨i+1,by omega,trivial⟩,GS.to (by simp[]),by simp;omega⟩
 have hiz :¬(i:Int)<t.cr.length:=by omega
 simp -dsimp[hiz];try refine⟨?_,⟨by kernel_rfl⟩⟩
 clear hi hiz i1
 refine aN.of [] (fun k=>k==0||k==1||k==2||k==3||k==4||k==5||k==6||k==7||k==32||k==37||k==50||k==55||k==68||k==73||k==86) (ι:={i:Nat // i≤t.ls.length∧True}) (fun z=>[(Pl.o 2,It.box [TV.d (.sl (List.map lT t.dl)),TV.d (.sl (List.map lJ t.cr)),TV.d (.sl (List.map qO t.ls))]),(Pl.s 2,It.v (.ptr (Pl.o 2) 0)),(Pl.o 3,It.box [TV.d (.sl (List.map lT t.dl)),TV.d (.sl (List.map lJ t.cr)),TV.d (.sl (List.map qO t.ls))]),(Pl.s 3,It.v (.ptr (Pl.o 3) 0)),(Pl.s 4,It.v (.d (.bool false))),(Pl.s 7,It.v (.d (.int .i64 z.1)))]) (fun z=>t.ls.length-z.1) ⟨0,by omega,trivial⟩ ?_ ?_
 ·exact GS.to (by simp)
 rintro⟨i,i1,_⟩;by_cases hi:i<t.ls.length
 ·have hiz:(i:Int)<t.ls.length:=by omega
  have hg:t.ls[i]? = some t.ls[i]:=List.getElem?_eq_getElem hi;generalize t.ls[i]=x at hg;simp -dsimp[hg,hiz,qO,Pk.cs,bv,wrap_i64 (n:=(i:Int)+1) (by omega) (by omega)];and_intros;all_goals try first|omega|exact⟨by kernel_rfl⟩
  exact⟨⟨i+1,by omega,trivial⟩,GS.to (by simp[]),by simp;omega⟩
 have hiz :¬(i:Int)<t.ls.length:=by omega
 simp -dsimp[hiz];try refine⟨?_,⟨by kernel_rfl⟩⟩
 clear hi hiz i1;refine Fin.of ?_;simp
theorem aiE{l:List Tb}(hA:nR l=0)(hck:∀b∈l,chk b=0)(hsd:∀b∈l,∀c∈l,b.sd=c.sd∧b.len=c.len){q:Pk}(hok:q.ok=true)(hm:q.mode≠2){r:Int}{b:Tb}(hf:bH l r=some b)(hs:q.bF=b.sd)(hl:q.len=b.len):vG l q:=
 ⟨hok,fun c hc=>by
  have hb:=(eY hf).1;have h1:=hsd c hc b hb;exact⟨hck c hc,h1.1.trans hs.symm,h1.2.trans hl.symm,hok,hm⟩⟩
theorem afU{g:ay}(h0:cZ g=0)(hA:B_ g){p:Pn}(hp:d_ p=true){r:Int}(hr:aY g.rs r=true)(q:Pk):mZ g (tabs g p g.rs) q r=nK (tabs g p g.rs) q r:=by
 have hT:=Dw h0 hp;unfold mZ nK;by_cases c1:q.ok=false
 ·rw[if_pos (.inr (.inr c1)),if_pos (.inr c1)]
 have c1':q.ok=true:=by simpa using c1
 rw[if_neg (show ¬(cZ g≠0∨nR (tabs g p g.rs)≠0∨q.ok=false) by simp[h0,hT,c1']),if_neg (show ¬aY g.rs r=false by simp[hr]),if_neg (show ¬(nR (tabs g p g.rs)≠0∨q.ok=false) by simp[hT,c1'])];cases hf:bH (tabs g p g.rs) r with
 | none=>rfl
 | some b=>
   simp only;by_cases c2:q.mode=2
   ·rw[if_pos c2,if_pos c2]
   rw[if_neg c2,if_neg c2];by_cases c3:q.bF≠b.sd∨q.len≠b.len
   ·rw[if_pos c3,if_pos c3]
   rw[if_neg c3,if_neg c3];have c4:q.bF=b.sd∧q.len=b.len:=by
    constructor
    ·exact Classical.byContradiction fun e=>c3 (.inl e)
    ·exact Classical.byContradiction fun e=>c3 (.inr e)
   have hsd:=rW (g:=g) (p:=p);have hF:=aiE hT (m_ h0 hp) (fun b hb c hc=>⟨(hsd b hb).1.trans (hsd c hc).1.symm,(hsd b hb).2.trans (hsd c hc).2.symm⟩) c1' c2 hf c4.1 c4.2;rw[afV h0 hA hp (w_.first h0 hT hF hr) (by rw[hf];rfl)]
theorem Dn{rs:List Rt}{a:Int}(h1:0≤a)(h2:a<rs.length):aY rs (rs.getD a.toNat ⟨0,false⟩).id=true:=by
 have hl:a.toNat<rs.length:=by omega
 have e:rs.getD a.toNat ⟨0,false⟩ = rs[a.toNat]:=by simp[hl]
 rw[e];exact dH.2 (List.mem_map_of_mem (List.getElem_mem hl))
theorem abl(L:List Int)(hL:∀x∈L,I64 x):Contract Tryz.prog 8 [.d (ints L)] [] (.d (.bool true)) [] []:=by
 refine aj Tryz.func8 rfl (fun E0=>?_);refine cO.sound (g:=.mk) (ow:=[]) (kp:=(fun k=>k==0||k==2||k==3||k==4||k==5||k==6||k==7||k==8||k==9||k==10||k==11||k==12)) ?_;rw[Tryz.ntmps8];simp -dsimp[ints];refine ah.of (new_c L) [] 3000 ?_;simp -dsimp[ints];have kT:ak (L.take 600,0):=Dx L hL;generalize (L.take 600,0)=T0 at kT⊢;try refine⟨rfl,?_⟩
 refine ah.of (aen T0 kT 7 (by omega)) [.o 3010] 0 ?_;obtain⟨Am,hAC⟩:=aag T0 (most:=7) (by omega);obtain⟨d1,d2,d3,d4,d5,d6⟩:=ag_ T0 (most:=7) (by omega);have kD:ak (Hw T0 7).2.2.2:=d3.symm▸kT;clear d3;generalize Hw T0 7=D0 at Am hAC d1 d2 d4 d5 d6 kD⊢;obtain⟨g,p,X,T1⟩:=D0;simp only at Am hAC d1 d2 d4 d5 d6 kD⊢;have hX:=Am.tab;have h0:=Am.top.ok
 have hs:=(aU h0).sm;have hp:=Am.plan;have hlen:=Am.len;have hl0:p.len≠0:=fun e=>by rw[e]at hlen;simp[aG]at hlen
 have hlI:I64 p.len:=by simp[aG]at hlen;unfold I64;omega
 simp -dsimp[aH,bI];try and_intros
 all_goals try first|rfl|omega|exact⟨by kernel_rfl⟩
 refine ah.of (Ih T1 kD p (by omega) hl0 hlI) [.o 3010] 0 ?_;have kF:ak (mM T1 p).2:=by rw[yM];exact kD
 generalize mM T1 p=F at kF⊢;obtain⟨q,T2⟩:=F;simp only at kF⊢;simp only[dX,Pk.cs,List.map];simp -dsimp[bI];try and_intros
 all_goals try first|rfl|omega|exact⟨by kernel_rfl⟩
 refine ah.of (uP T2 kF g.rs g.ls (by omega)) [.o 3010] 0 ?_;have m1:=aC T2 g.rs.length;have m2:=bg T2 (n:=g.rs.length) (by omega);generalize au T2 g.rs.length=A at m1 m2⊢;obtain⟨a,T3⟩:=A;simp only at m1 m2⊢;have hr:=Dn m1 m2;generalize (g.rs.getD a.toNat ⟨0,false⟩).id=r at hr⊢;have hsX:DL X:=⟨by omega,fun b hb=>Bc (d2 b hb)⟩
 have h1:=Lc g hs X hsX q r;have h2:=Xy X hsX q r;have e:nK X q r=mZ g X q r:=by rw[hX,afU h0 hAC hp hr q]
 rw[e]at h2
 obtain⟨s1,s2,s3⟩:=rH g X q r;generalize mZ g X q r=U at h1 h2 s1 s2 s3;obtain⟨U,e⟩:=U;simp only at s1 s2 s3;have h3:=FH U s1 s2 s3;simp only[aH,dX,Pk.cs,List.map,qG]at h1 h2 h3;simp -dsimp[aH,Pk.cs];and_intros;all_goals try first|rfl|omega|exact⟨by kernel_rfl⟩
 refine ah.of h1 [] 0 ?_;simp -dsimp[aH,Pk.cs];and_intros;all_goals try first|rfl|omega|exact⟨by kernel_rfl⟩
 refine ah.of h2 [] 0 ?_;simp -dsimp;and_intros;all_goals try first|rfl|omega|exact⟨by kernel_rfl⟩
 refine ah.of h3 [] 0 ?_;simp -dsimp;and_intros;all_goals try first|rfl|omega|exact⟨by kernel_rfl⟩
 refine ah.of mg [] 0 ?_;simp -dsimp;and_intros;all_goals try first|rfl|omega|exact⟨by kernel_rfl⟩
 refine Fin.of ?_;simp
end Go.Proofs

namespace Go.Proofs.YtboimfkommpglaaGreatDoor.tunnelPlain
open Go
theorem j10:(Rows.tunnelPlainRow.inPlace==Tryz.prog.inPlace 8)=true:=by kernel_rfl
theorem j11:(Rows.tunnelPlainRow.unfollowed==Tryz.prog.unfollowed 8)=true:=by kernel_rfl
theorem j12:(Rows.tunnelPlainRow.recurses==Tryz.prog.recurses 8)=true:=by kernel_rfl
theorem j13:(Rows.tunnelPlainRow.named==Tryz.prog.varsNamed 8)=true:=by kernel_rfl
theorem j23:(Rows.tunnelPlainRow.plainKeys==Tryz.prog.plainKeys)=true:=by kernel_rfl
theorem j27:(Rows.tunnelPlainRow.lifted==Tryz.prog.liftsFinal)=true:=by kernel_rfl
theorem j28:(Tryz.prog.make==some Rows.tunnelPlainRow.make)=true:=by kernel_rfl
theorem goes:false=Rows.tunnelPlainRow.goesBy Tryz.prog:=by kernel_rfl
theorem VB : Tryz.prog.funcNamed "bitcast/bitcastlaw16.TunnelPlain" = some 8 := by kernel_rfl
set_option maxRecDepth 100000 in
theorem closed:joinedFacts Tryz.prog 8 Tryz.f8 Rows.tunnelPlainSpec Rows.tunnelPlainRow=true:=by
 delta joinedFacts
 exact(cf.bK (cf.bK (cf.bK (cf.bK (cf.bK (cf.bK (cf.bK (cf.bK (cf.bK (cf.bK (cf.bK (cf.bK (cf.bK (cf.bK (cf.bK (cf.bK (cf.bK (cf.bK (cf.bK (cf.bK (cf.bK (cf.bK (cf.bK (cf.bK (cf.bK (cf.bK (cf.bK (cf.bK (cf.bK (cf.bK (cf.bK (by kernel_rfl) cf.laidOut) cf.rowed) (by kernel_rfl)) (by kernel_rfl)) (by kernel_rfl)) (by kernel_rfl)) (by kernel_rfl)) (by kernel_rfl)) j10) j11) j12) j13) (by kernel_rfl)) (by kernel_rfl)) (by kernel_rfl)) (by kernel_rfl)) (by kernel_rfl)) (by kernel_rfl)) (by kernel_rfl)) (by kernel_rfl)) (by kernel_rfl)) j23) (by kernel_rfl)) cf.heard) cf.may) j27) j28) (by kernel_rfl)) (by kernel_rfl)) (by kernel_rfl)) (by kernel_rfl))
theorem inst:Tryz.f8.isInstance Tryz.prog Rows.tunnelPlainRow.origin Rows.tunnelPlainRow.targs:=of_decide_eq_true (by kernel_rfl)
theorem wrap:Tryz.f8.isWrapper Tryz.prog Rows.tunnelPlainRow.wrapper Rows.tunnelPlainRow.mainSum:=by unfold Func.isWrapper;first|(rw[if_pos (by decide+kernel)];kernel_rfl)|(rw[if_neg (by decide+kernel)];exact⟨rfl,rfl⟩)
end Go.Proofs.YtboimfkommpglaaGreatDoor.tunnelPlain
