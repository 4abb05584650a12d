/-
  What functions of the program compute, stated as contracts over plain data; the conditions of each stand in its own statement.
-/
import Derived.Test.YtboimfkommpglaaGreatDoorZA29
import Derived.Test.YtboimfkommpglaaGreatDoorZA14
import Derived.Test.YtboimfkommpglaaGreatDoorZA17
import Derived.Test.YtboimfkommpglaaGreatDoorZA10
import Derived.Test.YtboimfkommpglaaGreatDoorZA28
import Derived.Test.YtboimfkommpglaaGreatDoorZA27
import Derived.Test.YtboimfkommpglaaGreatDoorZA59
import Derived.Test.YtboimfkommpglaaGreatDoorZA19
import Derived.LaidMore
import Derived.Stop.Joined
import Derived.SevenTiedAt
import Derived.JoinedOf
set_option linter.unusedSimpArgs false
set_option linter.unusedVariables false
set_option maxRecDepth 100000
set_option maxHeartbeats 16000000
namespace Go.Proofs
open Go Go.Tr
theorem M_(l:List (Int×Int))(hl:l.length≤1000000)(a b:Int):Contract Tryz.prog 94 [.d (.sl (l.map jL)),.d (.int .i64 a),.d (.int .i64 b)] [] (.d (.bool (nX l a b))) [] []:=by
 obtain⟨w,hw⟩:∃w,w=nX l a b:=⟨_,rfl⟩
 rw[←hw];unfold nX at hw;refine aj Tryz.func94 rfl (fun E0=>?_);refine cO.sound (g:=.mk) (ow:=[]) (kp:=(fun k=>k==0||k==1||k==2||k==6||k==7||k==11||k==47)) ?_;rw[Tryz.ntmps94];simp -dsimp;refine aN.of [] (fun k=>k==0||k==1||k==2||k==6||k==7||k==11||k==47) (ι:={i:Nat // i≤l.length∧∀x∈l.take i,((decide (x.1=a)&&decide (x.2=b))||(decide (x.1=b)&&decide (x.2=a)))=false})
  (fun z=>[(Pl.s 0,It.v (.d (.sl (l.map jL)))),(Pl.s 1,It.v (.d (.int .i64 a))),(Pl.s 2,It.v (.d (.int .i64 b))),(Pl.s 7,It.v (.d (.int .i64 z.1)))])
  (fun z=>l.length-z.1) ⟨0,by omega,by simp⟩ ?_ ?_
 ·exact GS.to (by simp)
 ·rintro⟨i,i1,i2⟩;by_cases hi:i<l.length
  ·have hiz:(i:Int)<l.length:=by omega
   have hx:l[i]? = some l[i]:=List.getElem?_eq_getElem hi;have hm:=List.getElem_mem hi;generalize l[i]=x at hx hm;have w1:IntKind.i64.wrap ((i:Int)+1)=(i:Int)+1:=wrap_i64 (by omega) (by omega);have yes:((decide (x.1=a)&&decide (x.2=b))||(decide (x.1=b)&&decide (x.2=a)))=true→w=true:=fun h=>hw.trans (List.any_eq_true.2 ⟨x,hm,h⟩)
   have nxt:((decide (x.1=a)&&decide (x.2=b))||(decide (x.1=b)&&decide (x.2=a)))=false→∀y∈l.take (i+1),((decide (y.1=a)&&decide (y.2=b))||(decide (y.1=b)&&decide (y.2=a)))=false:=fun h y hy=>by
    rw[List.take_add_one,hx,Option.toList_some]at hy
    rcases List.mem_append.1 hy with e|e
    ·exact i2 y e
    ·rw[List.mem_singleton.1 e];exact h
   by_cases c1:x.1=a
   ·by_cases c2:x.2=b
    ·simp -dsimp[hiz,hx,jL,eq_true c1,eq_true c2];and_intros;all_goals try first|omega|exact⟨by kernel_rfl⟩|rfl
     refine Fin.of ?_;simp[yes (by simp[c1,c2])]
    ·by_cases c3:x.1=b
     ·by_cases c4:x.2=a
      ·exfalso;omega
      ·simp -dsimp[hiz,hx,jL,eq_true c1,eq_false c2,eq_true c3,eq_false c4,w1];and_intros;all_goals try first|omega|exact⟨by kernel_rfl⟩|rfl
       exact⟨⟨i+1,by omega,nxt (by simp[c2,c4])⟩,GS.to (by simp),by simp;omega⟩
     ·simp -dsimp[hiz,hx,jL,eq_true c1,eq_false c2,eq_false c3,w1];and_intros;all_goals try first|omega|exact⟨by kernel_rfl⟩|rfl
      exact⟨⟨i+1,by omega,nxt (by simp[c2,c3])⟩,GS.to (by simp),by simp;omega⟩
   ·by_cases c3:x.1=b
    ·by_cases c4:x.2=a
     ·simp -dsimp[hiz,hx,jL,eq_false c1,eq_true c3,eq_true c4];and_intros;all_goals try first|omega|exact⟨by kernel_rfl⟩|rfl
      refine Fin.of ?_;simp[yes (by simp[c3,c4])]
     ·simp -dsimp[hiz,hx,jL,eq_false c1,eq_true c3,eq_false c4,w1];and_intros;all_goals try first|omega|exact⟨by kernel_rfl⟩|rfl
      exact⟨⟨i+1,by omega,nxt (by simp[c1,c4])⟩,GS.to (by simp),by simp;omega⟩
    ·simp -dsimp[hiz,hx,jL,eq_false c1,eq_false c3,w1];and_intros;all_goals try first|omega|exact⟨by kernel_rfl⟩|rfl
     exact⟨⟨i+1,by omega,nxt (by simp[c1,c3])⟩,GS.to (by simp),by simp;omega⟩
  ·have hiz :¬(i:Int)<l.length:=by omega
   rw[List.take_of_length_le (by omega)]at i2
   have vw:w=false:=hw.trans (List.any_eq_false.2 fun x hx=>by rw[i2 x hx];simp);simp -dsimp[hiz];and_intros;all_goals try first|rfl|omega|exact⟨by kernel_rfl⟩
   refine Fin.of ?_;simp[vw]
theorem Aj{α:Type}{q:α→Bool}{l:List α}{i:Nat}{x:α}(h:l[i]? = some x):(l.take (i+1)).filter q=(l.take i).filter q++if q x=true then [x]else []:=by
 rw[List.take_add_one,h,List.filter_append]
 congr 1
 show [x].filter q=_
 rw[List.filter_cons];split<;>rfl
theorem BZ(g:ay)(hs:g.Sm)(f:Fl)(h1:f.1.length≤1000)(h2:f.2.length≤1000):Contract Tryz.prog 31 [aH g,rM f] [] (aH (xJ g f.1 f.2)) [] []:=by
 have hck:=oz g hs.r hs.l;have hr:=hs.r;have hl:=hs.l;have hH:=fun n=>Qm f.2 (by omega) n
 have hN:=fun a b=>M_ f.1 (by omega) a b
 simp only[aH]at hck;simp only[ints]at hH;obtain⟨w,hw⟩:∃w,w=xJ g f.1 f.2:=⟨_,rfl⟩
 rw[←hw];unfold xJ at hw;by_cases c0:cZ g=0
 case neg=>
  rw[if_neg c0]at hw
  refine aj Tryz.func31 rfl (fun E0=>?_);refine cO.sound (g:=.mk) (ow:=[]) (kp:=(fun k=>k==0||k==1||k==2||k==3||k==4||k==5||k==6||k==7||k==8||k==11||k==17||k==29||k==44||k==75)) ?_;rw[Tryz.ntmps31];simp -dsimp[aH,rM];refine ah.of hck [] 0 ?_;simp -dsimp[c0];and_intros;all_goals try first|rfl|omega|exact⟨by kernel_rfl⟩
  refine Fin.box (.o 4) rfl ?_;simp -dsimp;refine Fin.of ?_;simp[hw,aH,rts,dO]
 rw[if_pos c0]at hw
 obtain⟨PF,hP0,hPs,hPl,hPe⟩:∃PF:Nat→List Rt,PF 0 = []∧(∀(i:Nat) x,g.rs[i]? = some x→PF (i+1)=PF i++if(!decide (x.id∈f.2))=true then [x]else [])∧(∀i,(PF i).length≤g.rs.length)∧PF g.rs.length=g.rs.filter fun x=>!decide (x.id∈f.2):=
  ⟨fun i=>(g.rs.take i).filter fun x=>!decide (x.id∈f.2),by simp,fun i x h=>Aj h,fun i=>Nat.le_trans (List.length_filter_le _ _) (by rw[List.length_take];omega),by simp only[List.take_length]⟩
 obtain⟨LF,kP0,kPs,kPl,kPe⟩:∃LF:Nat→List Lk,LF 0 = []∧(∀(i:Nat) x,g.ls[i]? = some x→LF (i+1)=LF i++if(!decide (x.a∈f.2)&&(!decide (x.b∈f.2) && !nX f.1 x.a x.b))=true then [x]else [])∧(∀i,(LF i).length≤g.ls.length)∧
   LF g.ls.length=g.ls.filter fun x=>!decide (x.a∈f.2)&&(!decide (x.b∈f.2) && !nX f.1 x.a x.b):=
  ⟨fun i=>(g.ls.take i).filter fun x=>!decide (x.a∈f.2)&&(!decide (x.b∈f.2) && !nX f.1 x.a x.b),by simp,fun i x h=>Aj h,fun i=>Nat.le_trans (List.length_filter_le _ _) (by rw[List.length_take];omega),by simp only[List.take_length]⟩
 rw[←hPe,←kPe]at hw
 refine aj Tryz.func31 rfl (fun E0=>?_);refine cO.sound (g:=.mk) (ow:=[]) (kp:=(fun k=>k==0||k==1||k==2||k==3||k==4||k==5||k==6||k==7||k==8||k==11||k==17||k==29||k==44||k==75)) ?_;rw[Tryz.ntmps31];simp -dsimp[aH,rM];refine ah.of hck [] 0 ?_;simp -dsimp[c0];and_intros;all_goals try first|rfl|omega|exact⟨by kernel_rfl⟩
 refine aN.of [] (fun k=>k==0||k==1||k==2||k==3||k==4||k==5||k==6||k==7||k==8||k==11||k==17||k==29||k==44||k==75) (ι:={i:Nat // i≤g.rs.length})
  (fun z=>[(Pl.o 2,It.box [TV.d (.sl (rts g.rs)),TV.d (.sl (dO g.ls))]),(Pl.s 2,It.v (.ptr (.o 2) 0)),(Pl.o 3,It.box [TV.d (.sl (f.1.map jL)),TV.d (ints f.2)]),(Pl.s 3,It.v (.ptr (.o 3) 0)),(Pl.o 4,It.box [TV.c (.slice none 0 0),TV.c (.slice none 0 0)]),(Pl.s 4,It.v (.ptr (.o 4) 0)),(Pl.s 5,It.v (.ptr (.o 5) 0)),(Pl.o 5,It.box [TV.aB 70 (PF z.1).length,TV.c (.slice none 0 0)]),(Pl.o 70,It.row 117 2 (dd (rts (PF z.1))) false),(Pl.s 6,It.v (.d (.int .i64 z.1)))])
  (fun z=>g.rs.length-z.1) ⟨0,by omega⟩ ?_ ?_
 ·exact GS.gq (.o 5) 0 70 (cs:=[.c (.slice none 0 0),.c (.slice none 0 0)]) 117 2 (by simp) (by simp) (by simp) (by simp) (by simp[hP0,rts,ints])
 rintro⟨i,i1⟩;have hpl:=hPl i;by_cases hi:i<g.rs.length
 ·have hiz:(i:Int)<g.rs.length:=by omega
  have hx:g.rs[i]? = some g.rs[i]:=List.getElem?_eq_getElem hi;have ht:=hPs i _ hx;generalize g.rs[i]=x at hx ht;have hx':=fF hx;have w1:IntKind.i64.wrap ((i:Int)+1)=(i:Int)+1:=wrap_i64 (by omega) (by omega);have hh:=hH x.id;generalize PF i=S at hpl ht⊢;by_cases c1:x.id∈f.2
  ·simp only[c1,decide_true,Bool.not_true,Bool.false_eq_true,if_false,List.append_nil]at ht;simp -dsimp[hiz,hx',Rt.cs,ints];and_intros;all_goals try first|rfl|omega|exact⟨by kernel_rfl⟩
   refine ah.of hh [] 0 ?_;simp -dsimp[mF,c1,w1];and_intros;all_goals try first|omega|exact⟨by kernel_rfl⟩|rfl
   exact⟨⟨i+1,by omega⟩,GS.to (by simp[ht,ints]),by simp;omega⟩
  ·simp only[c1,decide_false,Bool.not_false,if_true]at ht;simp -dsimp[hiz,hx',Rt.cs,ints];and_intros;all_goals try first|rfl|omega|exact⟨by kernel_rfl⟩
   refine ah.of hh [] 0 ?_;simp -dsimp[mF,c1,w1,hiz,hx',Rt.cs];and_intros;all_goals try first|omega|exact⟨by kernel_rfl⟩|rfl
   exact⟨⟨i+1,by omega⟩,GS.to (by simp[ht,ints,rts,Rt.cs]),by simp;omega⟩
 have hiz :¬(i:Int)<g.rs.length:=by omega
 obtain rfl:i=g.rs.length:=by omega
 clear hP0 hPs hPl hPe;generalize PF g.rs.length=R at hpl hw⊢;simp -dsimp[hiz];and_intros;all_goals try first|rfl|omega|exact⟨by kernel_rfl⟩
 refine aN.of [] (fun k=>k==0||k==1||k==2||k==3||k==4||k==5||k==6||k==7||k==8||k==11||k==17||k==29||k==44||k==75) (ι:={i:Nat // i≤g.ls.length})
  (fun z=>[(Pl.o 2,It.box [TV.d (.sl (rts g.rs)),TV.d (.sl (dO g.ls))]),(Pl.s 2,It.v (.ptr (.o 2) 0)),(Pl.o 3,It.box [TV.d (.sl (f.1.map jL)),TV.d (ints f.2)]),(Pl.s 3,It.v (.ptr (.o 3) 0)),(Pl.o 4,It.box [TV.c (.slice none 0 0),TV.c (.slice none 0 0)]),(Pl.s 4,It.v (.ptr (.o 4) 0)),(Pl.s 5,It.v (.ptr (.o 5) 0)),(Pl.o 5,It.box [TV.aB 70 R.length,TV.aB 71 (LF z.1).length]),(Pl.o 70,It.row 117 2 (dd (rts R)) false),(Pl.o 71,It.row 142 5 (dd (dO (LF z.1))) false),(Pl.s 7,It.v (.d (.int .i64 z.1)))])
  (fun z=>g.ls.length-z.1) ⟨0,by omega⟩ ?_ ?_
 ·exact GS.gq (.o 5) 1 71 (cs:=[.aB 70 R.length,.c (.slice none 0 0)]) 142 5 (by simp) (by simp) (by simp) (by simp) (by simp[kP0,dO,ints])
 rintro⟨j,j1⟩;have kpl:=kPl j;by_cases hj:j<g.ls.length
 ·have hjz:(j:Int)<g.ls.length:=by omega
  have hx:g.ls[j]? = some g.ls[j]:=List.getElem?_eq_getElem hj;have ht:=kPs j _ hx;generalize g.ls[j]=x at hx ht;have hx':=o8 hx;have w1:IntKind.i64.wrap ((j:Int)+1)=(j:Int)+1:=wrap_i64 (by omega) (by omega);have ha:=hH x.a;have hb:=hH x.b;have hn:=hN x.a x.b;generalize LF j=S at kpl ht⊢;by_cases c1:x.a∈f.2
  ·simp only[c1,decide_true,Bool.not_true,Bool.false_and,Bool.false_eq_true,if_false,List.append_nil]at ht;simp -dsimp[hjz,hx',Lk.cs,ints];and_intros;all_goals try first|rfl|omega|exact⟨by kernel_rfl⟩
   refine ah.of ha [] 0 ?_;simp -dsimp[mF,c1,w1];and_intros;all_goals try first|omega|exact⟨by kernel_rfl⟩|rfl
   exact⟨⟨j+1,by omega⟩,GS.to (by simp[ht,ints]),by simp;omega⟩
  by_cases c2:x.b∈f.2
  ·simp only[c1,c2,decide_true,decide_false,Bool.not_true,Bool.not_false,Bool.true_and,Bool.false_and,Bool.false_eq_true,if_false,List.append_nil]at ht;simp -dsimp[hjz,hx',Lk.cs,ints];and_intros;all_goals try first|rfl|omega|exact⟨by kernel_rfl⟩
   refine ah.of ha [] 0 ?_;simp -dsimp[mF,c1,ints];and_intros;all_goals try first|rfl|omega|exact⟨by kernel_rfl⟩
   refine ah.of hb [] 0 ?_;simp -dsimp[mF,c2,w1];and_intros;all_goals try first|omega|exact⟨by kernel_rfl⟩|rfl
   exact⟨⟨j+1,by omega⟩,GS.to (by simp[ht,ints]),by simp;omega⟩
  simp only[c1,c2,decide_false,Bool.not_false,Bool.true_and]at ht;generalize nX f.1 x.a x.b=q at hn ht;cases q with
  | true=>
    simp only[Bool.not_true,Bool.false_eq_true,if_false,List.append_nil]at ht;simp -dsimp[hjz,hx',Lk.cs,ints];and_intros;all_goals try first|rfl|omega|exact⟨by kernel_rfl⟩
    refine ah.of ha [] 0 ?_;simp -dsimp[mF,c1,ints];and_intros;all_goals try first|rfl|omega|exact⟨by kernel_rfl⟩
    refine ah.of hb [] 0 ?_;simp -dsimp[mF,c2];and_intros;all_goals try first|rfl|omega|exact⟨by kernel_rfl⟩
    refine ah.of hn [] 0 ?_;simp -dsimp[w1];and_intros;all_goals try first|omega|exact⟨by kernel_rfl⟩|rfl
    exact⟨⟨j+1,by omega⟩,GS.to (by simp[ht,ints]),by simp;omega⟩
  | false=>
    simp only[Bool.not_false,if_true]at ht;simp -dsimp[hjz,hx',Lk.cs,ints];and_intros;all_goals try first|rfl|omega|exact⟨by kernel_rfl⟩
    refine ah.of ha [] 0 ?_;simp -dsimp[mF,c1,ints];and_intros;all_goals try first|rfl|omega|exact⟨by kernel_rfl⟩
    refine ah.of hb [] 0 ?_;simp -dsimp[mF,c2];and_intros;all_goals try first|rfl|omega|exact⟨by kernel_rfl⟩
    refine ah.of hn [] 0 ?_;simp -dsimp[w1];and_intros;all_goals try first|omega|exact⟨by kernel_rfl⟩|rfl
    exact⟨⟨j+1,by omega⟩,GS.to (by simp[ht,ints,dO,Lk.cs]),by simp;omega⟩
 have hjz :¬(j:Int)<g.ls.length:=by omega
 obtain rfl:j=g.ls.length:=by omega
 clear kP0 kPs kPl kPe;generalize LF g.ls.length=M at kpl hw⊢;simp -dsimp[hjz];and_intros;all_goals try first|rfl|omega|exact⟨by kernel_rfl⟩
 refine Fin.box (.o 4) rfl ?_;simp -dsimp;refine Fin.of ?_;simp[hw,aH]
def ql(T:Tp)(rs:List Rt):Int×Tp:=if rs.length=0 then aK T [0,1,2,7,77,-1]else((rs.getD (au T rs.length).1.toNat ⟨0,false⟩).id,(au T rs.length).2)
theorem BR(T:Tp)(hT:ak T)(rs:List Rt)(ls:List Lk)(hr:rs.length≤1000):Contract Tryz.prog 19 [.ptr (.x 0) 0,.agg [.d (.sl (rts rs)),.d (.sl (dO ls))],.d (.int .i64 0)] [aJ T] (.d (.int .i64 (ql T rs).1)) [aJ (ql T rs).2] []:=by
 unfold ql;by_cases h0:rs.length=0
 ·have hn:rs = []:=List.length_eq_zero_iff.1 h0;rw[if_pos h0];have hp:=fE T hT [0,1,2,7,77,-1] (by simp) (by simp);refine aj Tryz.func19 rfl (fun E0=>?_);refine cO.sound (g:=.mk) (ow:=[]) (kp:=(fun k=>k==0||k==1||k==2||k==4||k==6||k==19)) ?_;rw[Tryz.ntmps19];simp -dsimp[hn];and_intros;all_goals try first|rfl|omega|exact⟨by kernel_rfl⟩
  refine ah.of hp [.x 0] 0 ?_;simp -dsimp[ints];and_intros;all_goals try first|rfl|omega|exact⟨by kernel_rfl⟩
  refine Fin.of ?_;simp
 ·rw[if_neg h0];exact uP T hT rs ls ⟨by omega,hr⟩
theorem adO(L:List Int)(hL:∀x∈L,I64 x):Contract Tryz.prog 9 [.d (ints L)] [] (.d (.bool true)) [] []:=by
 refine aj Tryz.func9 rfl (fun E0=>?_);refine cO.sound (g:=.mk) (ow:=[]) (kp:=(fun k=>k==0||k==2||k==3||k==4||k==5||k==6||k==7||k==8||k==9||k==10||k==12||k==26||k==49||k==63||k==84)) ?_;rw[Tryz.ntmps9];simp -dsimp[ints];refine ah.of (new_c L) [] 3000 ?_;simp -dsimp[ints];have kT:ak (L.take 600,0):=Dx L hL;generalize (L.take 600,0)=T0 at kT⊢;try refine⟨rfl,?_⟩
 refine ah.of (vN T0 kT 7 (by omega)) [.o 3010] 0 ?_;have Am:=eF T0 (most:=7) (by omega);obtain⟨d1,d2,d3,d4,d5,d6,d7⟩:=wQ T0 (most:=7) (by omega);have kD:ak (bD T0 7).2.2.2:=d1.symm▸kT;clear d1;generalize bD T0 7=D0 at Am d2 d3 d4 d5 d6 d7 kD⊢;obtain⟨g,p,X,T1⟩:=D0;simp only at Am d2 d3 d4 d5 d6 d7 kD⊢;have hX:=Am.tab;have h0:=Am.top.ok
 have hp:=Am.plan;have hlen:=Am.len;have hl0:p.len≠0:=fun e=>by rw[e]at hlen;simp[aG]at hlen
 have hlI:I64 p.len:=by simp[aG]at hlen;unfold I64;omega
 simp -dsimp[aH,bI];try and_intros
 all_goals try first|rfl|omega|exact⟨by kernel_rfl⟩
 refine ah.of (Ih T1 kD p (by omega) hl0 hlI) [.o 3010] 0 ?_;have kF:ak (mM T1 p).2:=by rw[yM];exact kD
 have WX:=ug T1 Am.bF Am.len;generalize mM T1 p=F at kF WX⊢;obtain⟨q,T2⟩:=F;simp only at kF WX⊢;simp only[dX,Pk.cs,List.map];simp -dsimp[bI];try and_intros
 all_goals try first|rfl|omega|exact⟨by kernel_rfl⟩
 refine ah.of (bn T2 kF 2 ⟨by omega,by omega⟩) [.o 3010] 0 ?_;have k3:ak (au T2 2).2:=by rw[dP];exact kF
 generalize au T2 2=B at k3⊢;obtain⟨b,T3⟩:=B;simp only at k3⊢;by_cases hb:b=0
 ·simp -dsimp[hb,aH];and_intros;all_goals try first|rfl|omega|exact⟨by kernel_rfl⟩
  refine ah.of (XJ T3 k3 X d7 g.rs.length (by omega)) [.o 3010] 0 ?_;have kW:ak (DU g.rs.length X T3).2:=by rw[Jk];exact k3
  have hV:=agu h0 hp (n:=g.rs.length) (by omega) T3;rw[←hX]at hV
  generalize DU g.rs.length X T3=W at kW hV⊢;obtain⟨Y,T4⟩:=W;simp only at kW hV⊢;have sY:DL Y:=⟨by have:=hV.n;omega,fun b hb=>Bc (hV.ck b hb)⟩
  simp -dsimp[aH];and_intros;all_goals try first|rfl|omega|exact⟨by kernel_rfl⟩
  as_aux_lemma=>
   have v1:=zL T4 g;have kG:ak (jh T4 g).2:=by rw[BK];exact kW
   refine ah.of (zI T4 kW g d5) [.o 3010] 0 ?_;generalize jh T4 g=FF at v1 kG⊢;obtain⟨f,T8⟩:=FF;simp only at v1 kG⊢;simp -dsimp[aH,rM];and_intros;all_goals try first|rfl|omega|exact⟨by kernel_rfl⟩
   have hW:=BZ g d5 f (by omega) (by omega);simp only[aH,rM]at hW;refine ah.of hW [] 0 ?_;have g0:=FV h0 f.1 f.2;generalize xJ g f.1 f.2=g at g0;have hs:=(aU g0).sm;have hrn:=(aU g0).nr;simp -dsimp[aH];and_intros;all_goals try first|rfl|omega|exact⟨by kernel_rfl⟩
   refine ah.of (BR T8 kG g.rs g.ls (by omega)) [.o 3010] 0 ?_;generalize ql T8 g.rs=A;obtain⟨r,T9⟩:=A;simp only;have h1:=Lc g hs Y sY q r;obtain⟨a1,a2⟩:=Yy g0 hV WX r;obtain⟨s1,s2,s3⟩:=rH g Y q r;generalize mZ g Y q r=U at h1 a1 a2 s1 s2 s3;obtain⟨U,e⟩:=U;simp only at a1 a2 s1 s2 s3;have h3:=Qi U s1 s3 q.bits;have h7:=fun f t=>yt g hs f t
   simp only[aH,dX,Pk.cs,List.map,qG,mO,bv]at h1 h3 h7;simp -dsimp[aH,Pk.cs,bv];and_intros;all_goals try first|rfl|omega|exact⟨by kernel_rfl⟩
   refine ah.of h1 [] 0 ?_;by_cases c0:e=0
   case neg=>
    have a1:=a1 c0;subst a1;simp -dsimp;and_intros;all_goals try first|rfl|omega|exact⟨by kernel_rfl⟩
    refine ah.of mg [] 0 ?_;simp -dsimp;and_intros;all_goals try first|rfl|omega|exact⟨by kernel_rfl⟩
    refine Fin.of ?_;simp
   obtain⟨a2,a3⟩:=a2 c0;rw[a2]at h3
   simp -dsimp[c0];and_intros;all_goals try first|rfl|omega|exact⟨by kernel_rfl⟩
   refine aN.of [] (fun k=>k==0||k==2||k==3||k==4||k==5||k==6||k==7||k==8||k==9||k==10||k==12||k==26||k==49||k==63||k==84) (ι:={j:Nat // j≤U.cr.length})
    (fun z=>[(Pl.o 4,It.box [TV.d (.sl (rts g.rs)),TV.d (.sl (dO g.ls))]),(Pl.s 4,It.v (.ptr (.o 4) 0)),(Pl.o 7,It.box (q.cs.map .d)),(Pl.s 7,It.v (.ptr (.o 7) 0)),(Pl.o 8,It.box [TV.d (.sl (U.dl.map lT)),TV.d (.sl (U.cr.map lJ)),TV.d (.sl (U.ls.map qO))]),(Pl.s 8,It.v (.ptr (.o 8) 0)),(Pl.s 10,It.v (.d (.int .i64 z.1)))])
    (fun z=>U.cr.length-z.1) ⟨0,by omega⟩ ?_ ?_
   ·exact GS.to (by simp[Pk.cs,bv])
   rintro⟨j,j1⟩;by_cases hj:j<U.cr.length
   ·have hjz:(j:Int)<U.cr.length:=by omega
    have hx:U.cr[j]? = some U.cr[j]:=List.getElem?_eq_getElem hj;have hm:=a3 _ (List.getElem_mem hj);generalize U.cr[j]=c at hx hm;have h8:=h7 c.1 c.2.1;rw[hm]at h8
    have w1:IntKind.i64.wrap ((j:Int)+1)=(j:Int)+1:=wrap_i64 (by omega) (by omega);simp -dsimp[hjz,hx,lJ];and_intros;all_goals try first|rfl|omega|exact⟨by kernel_rfl⟩
    refine ah.of h8 [] 0 ?_;simp -dsimp[w1];and_intros;all_goals try first|rfl|omega|exact⟨by kernel_rfl⟩
    exact⟨⟨j+1,by omega⟩,GS.to (by simp[Pk.cs,bv]),by simp;omega⟩
   have hjz :¬(j:Int)<U.cr.length:=by omega
   simp -dsimp[hjz,Pk.cs,bv];and_intros;all_goals try first|rfl|omega|exact⟨by kernel_rfl⟩
   refine ah.of h3 [] 0 ?_;simp -dsimp;and_intros;all_goals try first|rfl|omega|exact⟨by kernel_rfl⟩
   refine ah.of mg [] 0 ?_;simp -dsimp;and_intros;all_goals try first|rfl|omega|exact⟨by kernel_rfl⟩
   refine Fin.of ?_;simp
 ·have hV:=Uh h0 hp;rw[←hX]at hV
  simp -dsimp[hb,aH];and_intros;all_goals try first|rfl|omega|exact⟨by kernel_rfl⟩
  as_aux_lemma=>
   have v1:=zL T3 g;have kG:ak (jh T3 g).2:=by rw[BK];exact k3
   refine ah.of (zI T3 k3 g d5) [.o 3010] 0 ?_;generalize jh T3 g=FF at v1 kG⊢;obtain⟨f,T8⟩:=FF;simp only at v1 kG⊢;simp -dsimp[aH,rM];and_intros;all_goals try first|rfl|omega|exact⟨by kernel_rfl⟩
   have hW:=BZ g d5 f (by omega) (by omega);simp only[aH,rM]at hW;refine ah.of hW [] 0 ?_;have g0:=FV h0 f.1 f.2;generalize xJ g f.1 f.2=g at g0;have hs:=(aU g0).sm;have hrn:=(aU g0).nr;simp -dsimp[aH];and_intros;all_goals try first|rfl|omega|exact⟨by kernel_rfl⟩
   refine ah.of (BR T8 kG g.rs g.ls (by omega)) [.o 3010] 0 ?_;generalize ql T8 g.rs=A;obtain⟨r,T9⟩:=A;simp only;have h1:=Lc g hs X d7 q r;obtain⟨a1,a2⟩:=Yy g0 hV WX r;obtain⟨s1,s2,s3⟩:=rH g X q r;generalize mZ g X q r=U at h1 a1 a2 s1 s2 s3;obtain⟨U,e⟩:=U;simp only at a1 a2 s1 s2 s3;have h3:=Qi U s1 s3 q.bits;have h7:=fun f t=>yt g hs f t
   simp only[aH,dX,Pk.cs,List.map,qG,mO,bv]at h1 h3 h7;simp -dsimp[aH,Pk.cs,bv];and_intros;all_goals try first|rfl|omega|exact⟨by kernel_rfl⟩
   refine ah.of h1 [] 0 ?_;by_cases c0:e=0
   case neg=>
    have a1:=a1 c0;subst a1;simp -dsimp;and_intros;all_goals try first|rfl|omega|exact⟨by kernel_rfl⟩
    refine ah.of mg [] 0 ?_;simp -dsimp;and_intros;all_goals try first|rfl|omega|exact⟨by kernel_rfl⟩
    refine Fin.of ?_;simp
   obtain⟨a2,a3⟩:=a2 c0;rw[a2]at h3
   simp -dsimp[c0];and_intros;all_goals try first|rfl|omega|exact⟨by kernel_rfl⟩
   refine aN.of [] (fun k=>k==0||k==2||k==3||k==4||k==5||k==6||k==7||k==8||k==9||k==10||k==12||k==26||k==49||k==63||k==84) (ι:={j:Nat // j≤U.cr.length})
    (fun z=>[(Pl.o 4,It.box [TV.d (.sl (rts g.rs)),TV.d (.sl (dO g.ls))]),(Pl.s 4,It.v (.ptr (.o 4) 0)),(Pl.o 7,It.box (q.cs.map .d)),(Pl.s 7,It.v (.ptr (.o 7) 0)),(Pl.o 8,It.box [TV.d (.sl (U.dl.map lT)),TV.d (.sl (U.cr.map lJ)),TV.d (.sl (U.ls.map qO))]),(Pl.s 8,It.v (.ptr (.o 8) 0)),(Pl.s 10,It.v (.d (.int .i64 z.1)))])
    (fun z=>U.cr.length-z.1) ⟨0,by omega⟩ ?_ ?_
   ·exact GS.to (by simp[Pk.cs,bv])
   rintro⟨j,j1⟩;by_cases hj:j<U.cr.length
   ·have hjz:(j:Int)<U.cr.length:=by omega
    have hx:U.cr[j]? = some U.cr[j]:=List.getElem?_eq_getElem hj;have hm:=a3 _ (List.getElem_mem hj);generalize U.cr[j]=c at hx hm;have h8:=h7 c.1 c.2.1;rw[hm]at h8
    have w1:IntKind.i64.wrap ((j:Int)+1)=(j:Int)+1:=wrap_i64 (by omega) (by omega);simp -dsimp[hjz,hx,lJ];and_intros;all_goals try first|rfl|omega|exact⟨by kernel_rfl⟩
    refine ah.of h8 [] 0 ?_;simp -dsimp[w1];and_intros;all_goals try first|rfl|omega|exact⟨by kernel_rfl⟩
    exact⟨⟨j+1,by omega⟩,GS.to (by simp[Pk.cs,bv]),by simp;omega⟩
   have hjz :¬(j:Int)<U.cr.length:=by omega
   simp -dsimp[hjz,Pk.cs,bv];and_intros;all_goals try first|rfl|omega|exact⟨by kernel_rfl⟩
   refine ah.of h3 [] 0 ?_;simp -dsimp;and_intros;all_goals try first|rfl|omega|exact⟨by kernel_rfl⟩
   refine ah.of mg [] 0 ?_;simp -dsimp;and_intros;all_goals try first|rfl|omega|exact⟨by kernel_rfl⟩
   refine Fin.of ?_;simp
end Go.Proofs

namespace Go.Proofs.YtboimfkommpglaaGreatDoor.tunnelGone
open Go
theorem j10:(Rows.tunnelGoneRow.inPlace==Tryz.prog.inPlace 9)=true:=by kernel_rfl
theorem j11:(Rows.tunnelGoneRow.unfollowed==Tryz.prog.unfollowed 9)=true:=by kernel_rfl
theorem j12:(Rows.tunnelGoneRow.recurses==Tryz.prog.recurses 9)=true:=by kernel_rfl
theorem j13:(Rows.tunnelGoneRow.named==Tryz.prog.varsNamed 9)=true:=by kernel_rfl
theorem j23:(Rows.tunnelGoneRow.plainKeys==Tryz.prog.plainKeys)=true:=by kernel_rfl
theorem j27:(Rows.tunnelGoneRow.lifted==Tryz.prog.liftsFinal)=true:=by kernel_rfl
theorem j28:(Tryz.prog.make==some Rows.tunnelGoneRow.make)=true:=by kernel_rfl
theorem goes:false=Rows.tunnelGoneRow.goesBy Tryz.prog:=by kernel_rfl
theorem VB : Tryz.prog.funcNamed "bitcast/bitcastlaw16.TunnelGone" = some 9 := by kernel_rfl
set_option maxRecDepth 100000 in
theorem closed:joinedFacts Tryz.prog 9 Tryz.f9 Rows.tunnelGoneSpec Rows.tunnelGoneRow=true:=by
 delta joinedFacts
 exact(cf.bK (cf.bK (cf.bK (cf.bK (cf.bK (cf.bK (cf.bK (cf.bK (cf.bK (cf.bK (cf.bK (cf.bK (cf.bK (cf.bK (cf.bK (cf.bK (cf.bK (cf.bK (cf.bK (cf.bK (cf.bK (cf.bK (cf.bK (cf.bK (cf.bK (cf.bK (cf.bK (cf.bK (cf.bK (cf.bK (cf.bK (by kernel_rfl) cf.laidOut) cf.rowed) (by kernel_rfl)) (by kernel_rfl)) (by kernel_rfl)) (by kernel_rfl)) (by kernel_rfl)) (by kernel_rfl)) j10) j11) j12) j13) (by kernel_rfl)) (by kernel_rfl)) (by kernel_rfl)) (by kernel_rfl)) (by kernel_rfl)) (by kernel_rfl)) (by kernel_rfl)) (by kernel_rfl)) (by kernel_rfl)) j23) (by kernel_rfl)) cf.heard) cf.may) j27) j28) (by kernel_rfl)) (by kernel_rfl)) (by kernel_rfl)) (by kernel_rfl))
theorem inst:Tryz.f9.isInstance Tryz.prog Rows.tunnelGoneRow.origin Rows.tunnelGoneRow.targs:=of_decide_eq_true (by kernel_rfl)
theorem wrap:Tryz.f9.isWrapper Tryz.prog Rows.tunnelGoneRow.wrapper Rows.tunnelGoneRow.mainSum:=by unfold Func.isWrapper;first|(rw[if_pos (by decide+kernel)];kernel_rfl)|(rw[if_neg (by decide+kernel)];exact⟨rfl,rfl⟩)
end Go.Proofs.YtboimfkommpglaaGreatDoor.tunnelGone
