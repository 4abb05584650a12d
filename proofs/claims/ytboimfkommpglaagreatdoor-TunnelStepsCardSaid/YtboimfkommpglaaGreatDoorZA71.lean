/-
  What functions of the program compute, stated as contracts over plain data; the conditions of each stand in its own statement.
-/
import Derived.Test.YtboimfkommpglaaGreatDoorZA29
import Derived.Test.YtboimfkommpglaaGreatDoorZA14
import Derived.Test.YtboimfkommpglaaGreatDoorZA17
import Derived.Test.YtboimfkommpglaaGreatDoorZA10
import Derived.Test.YtboimfkommpglaaGreatDoorZA28
import Derived.Test.YtboimfkommpglaaGreatDoorZA27
import Derived.Test.YtboimfkommpglaaGreatDoorZA70
import Derived.Test.YtboimfkommpglaaGreatDoorZA26
import Derived.Test.YtboimfkommpglaaGreatDoorZA22
import Derived.Test.YtboimfkommpglaaGreatDoorZA11
import Derived.Test.YtboimfkommpglaaGreatDoorZA21
import Derived.Test.YtboimfkommpglaaGreatDoorZA23
import Derived.Test.YtboimfkommpglaaGreatDoorZA18
set_option linter.unusedSimpArgs false
set_option linter.unusedVariables false
set_option maxRecDepth 100000
set_option maxHeartbeats 16000000
namespace Go.Proofs
open Go Go.Tr
theorem M_(l:List (Int×Int))(hl:l.length≤1000000)(a b:Int):Contract Tryz.prog 94 [.d (.sl (l.map jL)),.d (.int .i64 a),.d (.int .i64 b)] [] (.d (.bool (nX l a b))) [] []:=by
 obtain⟨w,hw⟩:∃w,w=nX l a b:=⟨_,rfl⟩
 rw[←hw];unfold nX at hw;refine aj Tryz.func94 rfl (fun E0=>?_);refine cO.sound (g:=.mk) (ow:=[]) (kp:=(fun k=>k==0||k==1||k==2||k==6||k==7||k==11||k==47)) ?_;rw[Tryz.ntmps94];simp -dsimp;refine aN.of [] (fun k=>k==0||k==1||k==2||k==6||k==7||k==11||k==47) (ι:={i:Nat // i≤l.length∧∀x∈l.take i,((decide (x.1=a)&&decide (x.2=b))||(decide (x.1=b)&&decide (x.2=a)))=false})
  (fun z=>[(Pl.s 0,It.v (.d (.sl (l.map jL)))),(Pl.s 1,It.v (.d (.int .i64 a))),(Pl.s 2,It.v (.d (.int .i64 b))),(Pl.s 7,It.v (.d (.int .i64 z.1)))])
  (fun z=>l.length-z.1) ⟨0,by omega,by simp⟩ ?_ ?_
 ·exact GS.to (by simp)
 ·rintro⟨i,i1,i2⟩;by_cases hi:i<l.length
  ·have hiz:(i:Int)<l.length:=by omega
   have hx:l[i]? = some l[i]:=List.getElem?_eq_getElem hi;have hm:=List.getElem_mem hi;generalize l[i]=x at hx hm;have w1:IntKind.i64.wrap ((i:Int)+1)=(i:Int)+1:=wrap_i64 (by omega) (by omega);have yes:((decide (x.1=a)&&decide (x.2=b))||(decide (x.1=b)&&decide (x.2=a)))=true→w=true:=fun h=>hw.trans (List.any_eq_true.2 ⟨x,hm,h⟩)
   have nxt:((decide (x.1=a)&&decide (x.2=b))||(decide (x.1=b)&&decide (x.2=a)))=false→∀y∈l.take (i+1),((decide (y.1=a)&&decide (y.2=b))||(decide (y.1=b)&&decide (y.2=a)))=false:=fun h y hy=>by
    rw[List.take_add_one,hx,Option.toList_some]at hy
    rcases List.mem_append.1 hy with e|e
    ·exact i2 y e
    ·rw[List.mem_singleton.1 e];exact h
   by_cases c1:x.1=a
   ·by_cases c2:x.2=b
    ·simp -dsimp[hiz,hx,jL,eq_true c1,eq_true c2];and_intros;all_goals try first|omega|exact⟨by kernel_rfl⟩|rfl
     refine Fin.of ?_;simp[yes (by simp[c1,c2])]
    ·by_cases c3:x.1=b
     ·by_cases c4:x.2=a
      ·exfalso;omega
      ·simp -dsimp[hiz,hx,jL,eq_true c1,eq_false c2,eq_true c3,eq_false c4,w1];and_intros;all_goals try first|omega|exact⟨by kernel_rfl⟩|rfl
       exact⟨⟨i+1,by omega,nxt (by simp[c2,c4])⟩,GS.to (by simp),by simp;omega⟩
     ·simp -dsimp[hiz,hx,jL,eq_true c1,eq_false c2,eq_false c3,w1];and_intros;all_goals try first|omega|exact⟨by kernel_rfl⟩|rfl
      exact⟨⟨i+1,by omega,nxt (by simp[c2,c3])⟩,GS.to (by simp),by simp;omega⟩
   ·by_cases c3:x.1=b
    ·by_cases c4:x.2=a
     ·simp -dsimp[hiz,hx,jL,eq_false c1,eq_true c3,eq_true c4];and_intros;all_goals try first|omega|exact⟨by kernel_rfl⟩|rfl
      refine Fin.of ?_;simp[yes (by simp[c3,c4])]
     ·simp -dsimp[hiz,hx,jL,eq_false c1,eq_true c3,eq_false c4,w1];and_intros;all_goals try first|omega|exact⟨by kernel_rfl⟩|rfl
      exact⟨⟨i+1,by omega,nxt (by simp[c1,c4])⟩,GS.to (by simp),by simp;omega⟩
    ·simp -dsimp[hiz,hx,jL,eq_false c1,eq_false c3,w1];and_intros;all_goals try first|omega|exact⟨by kernel_rfl⟩|rfl
     exact⟨⟨i+1,by omega,nxt (by simp[c1,c3])⟩,GS.to (by simp),by simp;omega⟩
  ·have hiz :¬(i:Int)<l.length:=by omega
   rw[List.take_of_length_le (by omega)]at i2
   have vw:w=false:=hw.trans (List.any_eq_false.2 fun x hx=>by rw[i2 x hx];simp);simp -dsimp[hiz];and_intros;all_goals try first|rfl|omega|exact⟨by kernel_rfl⟩
   refine Fin.of ?_;simp[vw]
theorem Aj{α:Type}{q:α→Bool}{l:List α}{i:Nat}{x:α}(h:l[i]? = some x):(l.take (i+1)).filter q=(l.take i).filter q++if q x=true then [x]else []:=by
 rw[List.take_add_one,h,List.filter_append]
 congr 1
 show [x].filter q=_
 rw[List.filter_cons];split<;>rfl
theorem BZ(g:ay)(hs:g.Sm)(f:Fl)(h1:f.1.length≤1000)(h2:f.2.length≤1000):Contract Tryz.prog 31 [aH g,rM f] [] (aH (xJ g f.1 f.2)) [] []:=by
 have hck:=oz g hs.r hs.l;have hr:=hs.r;have hl:=hs.l;have hH:=fun n=>Qm f.2 (by omega) n
 have hN:=fun a b=>M_ f.1 (by omega) a b
 simp only[aH]at hck;simp only[ints]at hH;obtain⟨w,hw⟩:∃w,w=xJ g f.1 f.2:=⟨_,rfl⟩
 rw[←hw];unfold xJ at hw;by_cases c0:cZ g=0
 case neg=>
  rw[if_neg c0]at hw
  refine aj Tryz.func31 rfl (fun E0=>?_);refine cO.sound (g:=.mk) (ow:=[]) (kp:=(fun k=>k==0||k==1||k==2||k==3||k==4||k==5||k==6||k==7||k==8||k==11||k==17||k==29||k==44||k==75)) ?_;rw[Tryz.ntmps31];simp -dsimp[aH,rM];refine ah.of hck [] 0 ?_;simp -dsimp[c0];and_intros;all_goals try first|rfl|omega|exact⟨by kernel_rfl⟩
  refine Fin.box (.o 4) rfl ?_;simp -dsimp;refine Fin.of ?_;simp[hw,aH,rts,dO]
 rw[if_pos c0]at hw
 obtain⟨PF,hP0,hPs,hPl,hPe⟩:∃PF:Nat→List Rt,PF 0 = []∧(∀(i:Nat) x,g.rs[i]? = some x→PF (i+1)=PF i++if(!decide (x.id∈f.2))=true then [x]else [])∧(∀i,(PF i).length≤g.rs.length)∧PF g.rs.length=g.rs.filter fun x=>!decide (x.id∈f.2):=
  ⟨fun i=>(g.rs.take i).filter fun x=>!decide (x.id∈f.2),by simp,fun i x h=>Aj h,fun i=>Nat.le_trans (List.length_filter_le _ _) (by rw[List.length_take];omega),by simp only[List.take_length]⟩
 obtain⟨LF,kP0,kPs,kPl,kPe⟩:∃LF:Nat→List Lk,LF 0 = []∧(∀(i:Nat) x,g.ls[i]? = some x→LF (i+1)=LF i++if(!decide (x.a∈f.2)&&(!decide (x.b∈f.2) && !nX f.1 x.a x.b))=true then [x]else [])∧(∀i,(LF i).length≤g.ls.length)∧
   LF g.ls.length=g.ls.filter fun x=>!decide (x.a∈f.2)&&(!decide (x.b∈f.2) && !nX f.1 x.a x.b):=
  ⟨fun i=>(g.ls.take i).filter fun x=>!decide (x.a∈f.2)&&(!decide (x.b∈f.2) && !nX f.1 x.a x.b),by simp,fun i x h=>Aj h,fun i=>Nat.le_trans (List.length_filter_le _ _) (by rw[List.length_take];omega),by simp only[List.take_length]⟩
 rw[←hPe,←kPe]at hw
 refine aj Tryz.func31 rfl (fun E0=>?_);refine cO.sound (g:=.mk) (ow:=[]) (kp:=(fun k=>k==0||k==1||k==2||k==3||k==4||k==5||k==6||k==7||k==8||k==11||k==17||k==29||k==44||k==75)) ?_;rw[Tryz.ntmps31];simp -dsimp[aH,rM];refine ah.of hck [] 0 ?_;simp -dsimp[c0];and_intros;all_goals try first|rfl|omega|exact⟨by kernel_rfl⟩
 refine aN.of [] (fun k=>k==0||k==1||k==2||k==3||k==4||k==5||k==6||k==7||k==8||k==11||k==17||k==29||k==44||k==75) (ι:={i:Nat // i≤g.rs.length})
  (fun z=>[(Pl.o 2,It.box [TV.d (.sl (rts g.rs)),TV.d (.sl (dO g.ls))]),(Pl.s 2,It.v (.ptr (.o 2) 0)),(Pl.o 3,It.box [TV.d (.sl (f.1.map jL)),TV.d (ints f.2)]),(Pl.s 3,It.v (.ptr (.o 3) 0)),(Pl.o 4,It.box [TV.c (.slice none 0 0),TV.c (.slice none 0 0)]),(Pl.s 4,It.v (.ptr (.o 4) 0)),(Pl.s 5,It.v (.ptr (.o 5) 0)),(Pl.o 5,It.box [TV.aB 70 (PF z.1).length,TV.c (.slice none 0 0)]),(Pl.o 70,It.row 117 2 (dd (rts (PF z.1))) false),(Pl.s 6,It.v (.d (.int .i64 z.1)))])
  (fun z=>g.rs.length-z.1) ⟨0,by omega⟩ ?_ ?_
 ·exact GS.gq (.o 5) 0 70 (cs:=[.c (.slice none 0 0),.c (.slice none 0 0)]) 117 2 (by simp) (by simp) (by simp) (by simp) (by simp[hP0,rts,ints])
 rintro⟨i,i1⟩;have hpl:=hPl i;by_cases hi:i<g.rs.length
 ·have hiz:(i:Int)<g.rs.length:=by omega
  have hx:g.rs[i]? = some g.rs[i]:=List.getElem?_eq_getElem hi;have ht:=hPs i _ hx;generalize g.rs[i]=x at hx ht;have hx':=fF hx;have w1:IntKind.i64.wrap ((i:Int)+1)=(i:Int)+1:=wrap_i64 (by omega) (by omega);have hh:=hH x.id;generalize PF i=S at hpl ht⊢;by_cases c1:x.id∈f.2
  ·simp only[c1,decide_true,Bool.not_true,Bool.false_eq_true,if_false,List.append_nil]at ht;simp -dsimp[hiz,hx',Rt.cs,ints];and_intros;all_goals try first|rfl|omega|exact⟨by kernel_rfl⟩
   refine ah.of hh [] 0 ?_;simp -dsimp[mF,c1,w1];and_intros;all_goals try first|omega|exact⟨by kernel_rfl⟩|rfl
   exact⟨⟨i+1,by omega⟩,GS.to (by simp[ht,ints]),by simp;omega⟩
  ·simp only[c1,decide_false,Bool.not_false,if_true]at ht;simp -dsimp[hiz,hx',Rt.cs,ints];and_intros;all_goals try first|rfl|omega|exact⟨by kernel_rfl⟩
   refine ah.of hh [] 0 ?_;simp -dsimp[mF,c1,w1,hiz,hx',Rt.cs];and_intros;all_goals try first|omega|exact⟨by kernel_rfl⟩|rfl
   exact⟨⟨i+1,by omega⟩,GS.to (by simp[ht,ints,rts,Rt.cs]),by simp;omega⟩
 have hiz :¬(i:Int)<g.rs.length:=by omega
 obtain rfl:i=g.rs.length:=by omega
 clear hP0 hPs hPl hPe;generalize PF g.rs.length=R at hpl hw⊢;simp -dsimp[hiz];and_intros;all_goals try first|rfl|omega|exact⟨by kernel_rfl⟩
 refine aN.of [] (fun k=>k==0||k==1||k==2||k==3||k==4||k==5||k==6||k==7||k==8||k==11||k==17||k==29||k==44||k==75) (ι:={i:Nat // i≤g.ls.length})
  (fun z=>[(Pl.o 2,It.box [TV.d (.sl (rts g.rs)),TV.d (.sl (dO g.ls))]),(Pl.s 2,It.v (.ptr (.o 2) 0)),(Pl.o 3,It.box [TV.d (.sl (f.1.map jL)),TV.d (ints f.2)]),(Pl.s 3,It.v (.ptr (.o 3) 0)),(Pl.o 4,It.box [TV.c (.slice none 0 0),TV.c (.slice none 0 0)]),(Pl.s 4,It.v (.ptr (.o 4) 0)),(Pl.s 5,It.v (.ptr (.o 5) 0)),(Pl.o 5,It.box [TV.aB 70 R.length,TV.aB 71 (LF z.1).length]),(Pl.o 70,It.row 117 2 (dd (rts R)) false),(Pl.o 71,It.row 142 5 (dd (dO (LF z.1))) false),(Pl.s 7,It.v (.d (.int .i64 z.1)))])
  (fun z=>g.ls.length-z.1) ⟨0,by omega⟩ ?_ ?_
 ·exact GS.gq (.o 5) 1 71 (cs:=[.aB 70 R.length,.c (.slice none 0 0)]) 142 5 (by simp) (by simp) (by simp) (by simp) (by simp[kP0,dO,ints])
 rintro⟨j,j1⟩;have kpl:=kPl j;by_cases hj:j<g.ls.length
 ·have hjz:(j:Int)<g.ls.length:=by omega
  have hx:g.ls[j]? = some g.ls[j]:=List.getElem?_eq_getElem hj;have ht:=kPs j _ hx;generalize g.ls[j]=x at hx ht;have hx':=o8 hx;have w1:IntKind.i64.wrap ((j:Int)+1)=(j:Int)+1:=wrap_i64 (by omega) (by omega);have ha:=hH x.a;have hb:=hH x.b;have hn:=hN x.a x.b;generalize LF j=S at kpl ht⊢;by_cases c1:x.a∈f.2
  ·simp only[c1,decide_true,Bool.not_true,Bool.false_and,Bool.false_eq_true,if_false,List.append_nil]at ht;simp -dsimp[hjz,hx',Lk.cs,ints];and_intros;all_goals try first|rfl|omega|exact⟨by kernel_rfl⟩
   refine ah.of ha [] 0 ?_;simp -dsimp[mF,c1,w1];and_intros;all_goals try first|omega|exact⟨by kernel_rfl⟩|rfl
   exact⟨⟨j+1,by omega⟩,GS.to (by simp[ht,ints]),by simp;omega⟩
  by_cases c2:x.b∈f.2
  ·simp only[c1,c2,decide_true,decide_false,Bool.not_true,Bool.not_false,Bool.true_and,Bool.false_and,Bool.false_eq_true,if_false,List.append_nil]at ht;simp -dsimp[hjz,hx',Lk.cs,ints];and_intros;all_goals try first|rfl|omega|exact⟨by kernel_rfl⟩
   refine ah.of ha [] 0 ?_;simp -dsimp[mF,c1,ints];and_intros;all_goals try first|rfl|omega|exact⟨by kernel_rfl⟩
   refine ah.of hb [] 0 ?_;simp -dsimp[mF,c2,w1];and_intros;all_goals try first|omega|exact⟨by kernel_rfl⟩|rfl
   exact⟨⟨j+1,by omega⟩,GS.to (by simp[ht,ints]),by simp;omega⟩
  simp only[c1,c2,decide_false,Bool.not_false,Bool.true_and]at ht;generalize nX f.1 x.a x.b=q at hn ht;cases q with
  | true=>
    simp only[Bool.not_true,Bool.false_eq_true,if_false,List.append_nil]at ht;simp -dsimp[hjz,hx',Lk.cs,ints];and_intros;all_goals try first|rfl|omega|exact⟨by kernel_rfl⟩
    refine ah.of ha [] 0 ?_;simp -dsimp[mF,c1,ints];and_intros;all_goals try first|rfl|omega|exact⟨by kernel_rfl⟩
    refine ah.of hb [] 0 ?_;simp -dsimp[mF,c2];and_intros;all_goals try first|rfl|omega|exact⟨by kernel_rfl⟩
    refine ah.of hn [] 0 ?_;simp -dsimp[w1];and_intros;all_goals try first|omega|exact⟨by kernel_rfl⟩|rfl
    exact⟨⟨j+1,by omega⟩,GS.to (by simp[ht,ints]),by simp;omega⟩
  | false=>
    simp only[Bool.not_false,if_true]at ht;simp -dsimp[hjz,hx',Lk.cs,ints];and_intros;all_goals try first|rfl|omega|exact⟨by kernel_rfl⟩
    refine ah.of ha [] 0 ?_;simp -dsimp[mF,c1,ints];and_intros;all_goals try first|rfl|omega|exact⟨by kernel_rfl⟩
    refine ah.of hb [] 0 ?_;simp -dsimp[mF,c2];and_intros;all_goals try first|rfl|omega|exact⟨by kernel_rfl⟩
    refine ah.of hn [] 0 ?_;simp -dsimp[w1];and_intros;all_goals try first|omega|exact⟨by kernel_rfl⟩|rfl
    exact⟨⟨j+1,by omega⟩,GS.to (by simp[ht,ints,dO,Lk.cs]),by simp;omega⟩
 have hjz :¬(j:Int)<g.ls.length:=by omega
 obtain rfl:j=g.ls.length:=by omega
 clear kP0 kPs kPl kPe;generalize LF g.ls.length=M at kpl hw⊢;simp -dsimp[hjz];and_intros;all_goals try first|rfl|omega|exact⟨by kernel_rfl⟩
 refine Fin.box (.o 4) rfl ?_;simp -dsimp;refine Fin.of ?_;simp[hw,aH]
def ql(T:Tp)(rs:List Rt):Int×Tp:=if rs.length=0 then aK T [0,1,2,7,77,-1]else((rs.getD (au T rs.length).1.toNat ⟨0,false⟩).id,(au T rs.length).2)
theorem BR(T:Tp)(hT:ak T)(rs:List Rt)(ls:List Lk)(hr:rs.length≤1000):Contract Tryz.prog 19 [.ptr (.x 0) 0,.agg [.d (.sl (rts rs)),.d (.sl (dO ls))],.d (.int .i64 0)] [aJ T] (.d (.int .i64 (ql T rs).1)) [aJ (ql T rs).2] []:=by
 unfold ql;by_cases h0:rs.length=0
 ·have hn:rs = []:=List.length_eq_zero_iff.1 h0;rw[if_pos h0];have hp:=fE T hT [0,1,2,7,77,-1] (by simp) (by simp);refine aj Tryz.func19 rfl (fun E0=>?_);refine cO.sound (g:=.mk) (ow:=[]) (kp:=(fun k=>k==0||k==1||k==2||k==4||k==6||k==19)) ?_;rw[Tryz.ntmps19];simp -dsimp[hn];and_intros;all_goals try first|rfl|omega|exact⟨by kernel_rfl⟩
  refine ah.of hp [.x 0] 0 ?_;simp -dsimp[ints];and_intros;all_goals try first|rfl|omega|exact⟨by kernel_rfl⟩
  refine Fin.of ?_;simp
 ·rw[if_neg h0];exact uP T hT rs ls ⟨by omega,hr⟩
end Go.Proofs

namespace Go.Tr
theorem Sz{A B:Type}{G H:A→B→Prop}{X:Prop}(b:∀a b,H a b→G a b)(a:(∀a b,H a b→G a b)→X):X:=a b
theorem akQ{A B C:Type}{G H:A→B→C→Prop}{X:Prop}(b:∀a b c,H a b c→G a b c)(a:(∀a b c,H a b c→G a b c)→X):X:=a b
end Go.Tr

namespace Go.Proofs
open Go Go.Tr
theorem FK(g:ay)(hs:g.Sm)(l:List Tb)(hl:DL l)(r:Int)(f:Fr)(hf:f.rt.length≤100000):
  Contract Tryz.prog 36 [aH g,.d (.sl (oq l)),.d (.int .i64 r),xK f] [] (.rG [nD (iZ g l r f).1,.d (.int .i64 (iZ g l r f).2)]) [] []:=by
 obtain⟨rt,p⟩:=f;have h1:=oz g hs.r hs.l;have h2:=tZ l hl;have h3:=Ld ⟨rt,p⟩ (by simp only at hf⊢;omega);have h4:=CO l hl r;have h5:=sG g hs r;simp only at hf;simp only[aH]at h1 h5;simp only[xK,vH,ints,Pk.cs,List.map]at h3;obtain⟨w,hw⟩:∃w,w=iZ g l r ⟨rt,p⟩:=⟨_,rfl⟩
 rw[←hw];refine aj Tryz.func36 rfl (fun E0=>?_);refine cO.sound (g:=.mk) (ow:=[]) (kp:=(fun k=>k==0||k==1||k==2||k==3||k==4||k==7||k==8||k==9||k==10||k==11||k==12||k==13||k==14||k==15||k==16||k==17||k==30||k==51||k==56||k==69||k==81||k==95)) ?_;rw[Tryz.ntmps36];simp -dsimp[aH,xK,vH,ints,Pk.cs];refine ah.of h1 [] 0 ?_;by_cases c0:cZ g=0
 case neg=>
  have vw:w=(zn,1):=hw.trans (by unfold iZ;rw[if_pos (.inl c0)]);simp -dsimp[c0];and_intros;all_goals try first|rfl|omega|exact⟨by kernel_rfl⟩
  refine Fin.box (.o 8) rfl ?_;simp -dsimp;refine Fin.of ?_;simp[vw,nD,zn,bv]
 simp -dsimp[c0];and_intros;all_goals try first|rfl|omega|exact⟨by kernel_rfl⟩
 refine ah.of h2 [] 0 ?_;by_cases c1:nR l=0
 case neg=>
  have vw:w=(zn,1):=hw.trans (by unfold iZ;rw[if_pos (.inr (.inl c1))]);simp -dsimp[c1];and_intros;all_goals try first|rfl|omega|exact⟨by kernel_rfl⟩
  refine Fin.box (.o 8) rfl ?_;simp -dsimp;refine Fin.of ?_;simp[vw,nD,zn,bv]
 simp -dsimp[c1,ints,Pk.cs];and_intros;all_goals try first|rfl|omega|exact⟨by kernel_rfl⟩
 refine ah.of h3 [] 0 ?_;rcases (Bool.eq_false_or_eq_true (frB ⟨rt,p⟩)).symm with c2|c2
 ·have vw:w=(zn,1):=hw.trans (by unfold iZ;rw[if_pos (.inr (.inr c2))]);simp -dsimp[c2];and_intros;all_goals try first|rfl|omega|exact⟨by kernel_rfl⟩
  refine Fin.box (.o 8) rfl ?_;simp -dsimp;refine Fin.of ?_;simp[vw,nD,zn,bv]
 have hw1:w=if aY g.rs r=false then(zn,4)
   else match rt with
    | n::w=>(qP g r n w p,0)
    | []=>match bH l r with
      | none=>(zn,4)
      | some b=>if(jC b p).2≠0 then(zn,(jC b p).2)else((jC b p).1.g_.foldl (wG g r) ⟨(jC b p).1.loc,(jC b p).1.lost,[]⟩,0):=
  hw.trans (by unfold iZ;rw[if_neg (by simp[c0,c1,c2])];rfl)
 simp -dsimp[c2];and_intros;all_goals try first|rfl|omega|exact⟨by kernel_rfl⟩
 simp only[su,bZ]at h4;refine ah.of h4 [] 0 ?_;simp -dsimp;and_intros;all_goals try first|rfl|omega|exact⟨by kernel_rfl⟩
 refine ah.of h5 [] 0 ?_;rcases (Bool.eq_false_or_eq_true (aY g.rs r)).symm with c3|c3
 ·have vw:w=(zn,4):=hw1.trans (if_pos c3);simp -dsimp[c0,c3];and_intros;all_goals try first|rfl|omega|exact⟨by kernel_rfl⟩
  refine Fin.box (.o 8) rfl ?_;simp -dsimp;refine Fin.of ?_;simp[vw,nD,zn,bv]
 rw[if_neg (by simp[c3])]at hw1
 cases rt with
 | cons n rt=>
   have h6:=Tv g hs r n rt p;simp only[aH,xK,vH,ints,Pk.cs,List.map]at h6;simp only at hw1;generalize qP g r n rt p=o at h6 hw1;obtain⟨lC,fP,bP⟩:=o;simp only[nD]at h6;have hz :¬((rt.length:Int)+1=0):=by omega
   have hz2:(0:Int)<(rt.length:Int)+1:=by omega
   simp -dsimp[c0,c3,hz,hz2,ints,Pk.cs];and_intros;all_goals try first|rfl|omega|exact⟨by kernel_rfl⟩
   refine ah.of h6 [] 0 ?_;simp -dsimp[ints,Pk.cs];and_intros;all_goals try first|rfl|omega|exact⟨by kernel_rfl⟩
   refine Fin.box (.o 8) rfl ?_;simp -dsimp;refine Fin.of ?_;simp[hw1,nD]
 | nil=>
   simp only at hw1;cases hfd:bH l r with
   | none=>
     rw[hfd]at hw1
     simp only at hw1;simp -dsimp[c0,c3,hfd];and_intros;all_goals try first|rfl|omega|exact⟨by kernel_rfl⟩
     refine Fin.box (.o 8) rfl ?_;simp -dsimp;refine Fin.of ?_;simp[hw1,nD,zn,bv]
   | some b=>
     have hb:b.Sm:=hl.t b (List.mem_of_find?_eq_some hfd);have h7:=KN b hb p;have h8:=CP b p;rw[hfd]at hw1
     simp only at hw1;generalize jC b p=F at h7 h8 hw1;obtain⟨o,er⟩:=F;obtain⟨lC,fP,bP⟩:=o;simp only at h8 hw1;simp only[bZ,dX,Pk.cs,List.map,outT]at h7;simp -dsimp[c0,c3,hfd,Pk.cs];and_intros;all_goals try first|rfl|omega|exact⟨by kernel_rfl⟩
     refine ah.of h7 [] 0 ?_;by_cases c4:er=0
     case neg=>
      rw[if_pos c4]at hw1
      simp -dsimp[c4];and_intros;all_goals try first|rfl|omega|exact⟨by kernel_rfl⟩
      refine Fin.box (.o 8) rfl ?_;simp -dsimp;refine Fin.of ?_;simp[hw1,nD,zn,bv]
     rw[if_neg (by simp[c4])]at hw1
     simp -dsimp[c4];and_intros;all_goals try first|rfl|omega|exact⟨by kernel_rfl⟩
     refine aN.of [] (fun k=>k==0||k==1||k==2||k==3||k==4||k==7||k==8||k==9||k==10||k==11||k==12||k==13||k==14||k==15||k==16||k==17||k==30||k==51||k==56||k==69||k==81||k==95) (ι:={i:Nat // i≤bP.length})
      (fun z=>[(Pl.o 4,It.box [TV.d (.sl (rts g.rs)),TV.d (.sl (dO g.ls))]),(Pl.s 4,It.v (.ptr (Pl.o 4) 0)),(Pl.s 2,It.v (.d (.int .i64 r))),
       (Pl.o 8,It.box [TV.d (.int .u64 0),TV.d (.int .u64 0),TV.c (.slice none 0 0)]),(Pl.s 8,It.v (.ptr (Pl.o 8) 0)),(Pl.s 9,It.v (.d (.int .i64 0))),
       (Pl.o 14,It.box [TV.d (bv lC),TV.d (bv ((bP.take z.1).foldl (wG g r) ⟨lC,fP,[]⟩).lost),TV.aB 70 ((bP.take z.1).foldl (wG g r) ⟨lC,fP,[]⟩).g_.length]),(Pl.s 14,It.v (.ptr (Pl.o 14) 0)),
       (Pl.o 70,It.row 29 12 (dd (((bP.take z.1).foldl (wG g r) ⟨lC,fP,[]⟩).g_.map n_)) false),
       (Pl.o 12,It.box [TV.d (bv lC),TV.d (bv fP),TV.d (.sl (bP.map DI))]),(Pl.s 12,It.v (.ptr (Pl.o 12) 0)),(Pl.s 15,It.v (.d (.int .i64 z.1)))])
      (fun z=>bP.length-z.1) ⟨0,by omega⟩ ?_ ?_
     ·exact GS.gq (.o 14) 2 70 (cs:=[.d (bv lC),.d (bv fP),.c (.slice none 0 0)]) 29 12 (by simp) (by simp[bv]) (by simp) (by simp) (by simp[bv])
     ·rintro⟨i,i1⟩;have hcl:=Qz g r (bP.take i) ⟨lC,fP,[]⟩;rw[List.length_take]at hcl
      simp only[List.length_nil]at hcl;have hO:=(wH g r (bP.take i) ⟨lC,fP,[]⟩).1;by_cases hi:i<bP.length
      ·have hiz:(i:Int)<bP.length:=by omega
       have hx:bP[i]? = some bP[i]:=List.getElem?_eq_getElem hi;have ht:=Es (g:=g) (r:=r) hx ⟨lC,fP,[]⟩;have w1:IntKind.i64.wrap ((i:Int)+1)=(i:Int)+1:=wrap_i64 (by omega) (by omega);generalize bP[i]=c at hx ht;generalize (bP.take i).foldl (wG g r) ⟨lC,fP,[]⟩ = S at hcl hO ht⊢;obtain⟨Sl,So,Sc⟩:=S;simp only at hcl hO;obtain⟨c1,c2⟩:=c
       have hsd:=AV g hs r (c1,⟨[],c2⟩);simp only[aH,JX,n_,ints,Pk.cs,List.map]at hsd;cases hv:jZ g r (c1,c2)with
       | none=>
         rw[O5 hv]at ht
         simp only[hv,Option.getD_none,Option.isSome_none,Uu,Bh]at hsd;simp -dsimp[hiz,hx,DI,Pk.cs,bv];and_intros;all_goals try first|omega|exact⟨by kernel_rfl⟩|rfl
         refine ah.of hsd [] 0 ?_;simp -dsimp[hiz,hx,DI,Pk.cs,w1,bv];and_intros;all_goals try first|omega|exact⟨by kernel_rfl⟩|rfl
         exact⟨⟨i+1,by omega⟩,GS.to (by simp[ht,bv]),by simp;omega⟩
       | some x=>
         rw[O6 hv]at ht
         obtain⟨x1,⟨xr,x2⟩⟩:=x;simp only[hv,Option.getD_some,Option.isSome_some]at hsd;simp -dsimp[hiz,hx,DI,Pk.cs,bv];and_intros;all_goals try first|omega|exact⟨by kernel_rfl⟩|rfl
         refine ah.of hsd [] 0 ?_;simp -dsimp[hiz,hx,DI,Pk.cs,w1,bv];and_intros;all_goals try first|omega|exact⟨by kernel_rfl⟩|rfl
         exact⟨⟨i+1,by omega⟩,GS.to (by simp[ht,bv,n_,ints,Pk.cs]),by simp;omega⟩
      ·have hiz :¬(i:Int)<bP.length:=by omega
       rw[List.take_of_length_le (show bP.length≤i by omega)]at hcl hO⊢
       generalize bP.foldl (wG g r) ⟨lC,fP,[]⟩ = S at hcl hO hw1⊢;obtain⟨Sl,So,Sc⟩:=S;simp only at hO;subst hO;simp -dsimp[hiz];and_intros;all_goals try first|rfl|omega|exact⟨by kernel_rfl⟩
       refine Fin.box (.o 8) rfl ?_;simp -dsimp;refine Fin.of ?_;simp[hw1,nD,bv]
theorem Gq{ds:List D}(h:(Ty.int .i64).has ds):∃n,ds = [.int .i64 n]:=by
 simp only[Ty.has]at h;obtain⟨n,rfl,_⟩:=h;exact⟨n,rfl⟩
def Ij(ord:List Int):Nat→List Int
 | 0=>[]
 | i+1=>(1+ord.getD (i+1) 0)::Ij ord i
theorem ET(ord:List Int):∀i,(Ij ord i).length=i
 | 0=>rfl
 | i+1=>by simp[Ij,ET ord i]
def je:List Int:=(List.range 25).map fun (i:Nat)=>50+(i:Int)
def RG(T:Tp):Fr×Tp:=
 let p:=bY T 0
 let o:=bT p.2 5
 let k:=au o.2 5
 (⟨Ij o.1 k.1.toNat,p.1⟩,k.2)
def UQ(f:Fr)(T:Tp):Fr×Tp:=
 let c:=au T 3
 if c.1=0 then(⟨f.rt,(bY c.2 1).1⟩,(bY c.2 1).2)
 else if c.1=1 then(⟨f.rt++[(aK c.2 [0,1,2,99,100]).1],f.pk⟩,(aK c.2 [0,1,2,99,100]).2)
 else(⟨f.rt++je,f.pk⟩,c.2)
def qc(T:Tp)(n:Int):Fr×Tp:=
 let f:=RG T
 if 0<n then(if(dD f.2 n).1=true then UQ f.1 (dD f.2 n).2 else(f.1,(dD f.2 n).2))else f
theorem Gn(T:Tp):ak (RG T).2=ak T:=by simp[RG]
theorem WW(f:Fr)(T:Tp):ak (UQ f T).2=ak T:=by
 unfold UQ;simp only;split
 ·simp
 ·split<;>simp
theorem EU(T:Tp)(n:Int):ak (qc T n).2=ak T:=by
 unfold qc;simp only;split
 ·split
  ·rw[WW,oW,Gn]
  ·rw[oW,Gn]
 ·rw[Gn]
theorem aeS(T:Tp):(RG T).1.rt.length≤4:=by
 unfold RG;simp only[ET];have h1:=bg (bT (bY T 0).2 5).2 (n:=5) (by omega);have h2:=aC (bT (bY T 0).2 5).2 5;omega
theorem RH(T:Tp)(n:Int):(qc T n).1.rt.length≤29:=by
 have h:=aeS T;unfold qc UQ;simp only;split
 ·split
  ·split
   ·simp only;omega
   ·split
    ·simp only[List.length_append,List.length_cons,List.length_nil];omega
    ·simp only[List.length_append];simp[je];omega
  ·simp only;omega
 ·omega
theorem L8(T:Tp)(hT:ak T)(n:Int)(hn:I64 n)(hn1:I64 (n-1)):Contract Tryz.prog 23 [.ptr (.x 0) 0,.d (.int .i64 n)] [aJ T] (xK (qc T n).1) [aJ (qc T n).2] []:=by
 obtain⟨w,hw⟩:∃w,w=qc T n:=⟨_,rfl⟩
 rw[←hw];unfold qc RG at hw;have h1:=wC T hT 0 ⟨by omega,by omega⟩;have k1:ak (bY T 0).2:=by rw[RN];exact hT
 generalize bY T 0=a at h1 k1 hw;obtain⟨p,T1⟩:=a;simp only at k1 hw;simp only[dX,Pk.cs,List.map]at h1;have h2:=D9 T1 k1 5 (by omega);have k2:ak (bT T1 5).2:=by rw[Vp];exact k1
 have ol:(bT T1 5).1.length=5:=by have:=iK T1 5;simpa using this
 have om:∀x∈(bT T1 5).1,0≤x∧x<5:=by have:=lZ T1 5;simpa using this
 generalize bT T1 5=b at h2 k2 hw ol om;obtain⟨o,T2⟩:=b;simp only at k2 hw ol om;have h3:=bn T2 k2 5 ⟨by omega,by omega⟩;have k3:ak (au T2 5).2:=by rw[dP];exact k2
 have n1:=aC T2 5;have n2:=bg T2 (n:=5) (by omega);generalize au T2 5=c at h3 k3 hw n1 n2;obtain⟨k,T3⟩:=c;simp only at k3 hw n1 n2;obtain⟨k,rfl⟩:∃j:Nat,k=j:=⟨k.toNat,by omega⟩
 rw[Int.toNat_natCast]at hw
 refine aj Tryz.func23 rfl (fun E0=>?_);refine cO.sound (g:=.mk) (ow:=[]) (kp:=(fun k=>k==0||k==1||k==4||k==5||k==6||k==7||k==8||k==17||k==36||k==38||k==40||k==50||k==55)) ?_;rw[Tryz.ntmps23];simp -dsimp;refine ah.of h1 [.x 0] 0 ?_;simp -dsimp;and_intros;all_goals try first|rfl|omega|exact⟨by kernel_rfl⟩
 refine ah.of h2 [.x 0] 0 ?_;simp -dsimp;and_intros;all_goals try first|rfl|omega|exact⟨by kernel_rfl⟩
 refine ah.of h3 [.x 0] 0 ?_;simp -dsimp;and_intros;all_goals try first|rfl|omega|exact⟨by kernel_rfl⟩
 refine aN.of [] (fun k=>k==0||k==1||k==4||k==5||k==6||k==7||k==8||k==17||k==36||k==38||k==40||k==50||k==55) (ι:={z:Nat×List Int // z.1≤k∧Ij o k=z.2++Ij o z.1})
  (fun z=>[(Pl.s 0,It.v (.ptr (Pl.x 0) 0)),(Pl.x 0,aJ T3),(Pl.s 1,It.v (.d (.int .i64 n))),(Pl.o 4,It.box (TV.c (.slice none 0 0)::Bh.cs.map .d)),(Pl.s 4,It.v (.ptr (.o 4) 0)),
   (Pl.o 5,It.box (TV.aB 70 z.1.2.length::p.cs.map .d)),(Pl.s 5,It.v (.ptr (.o 5) 0)),(Pl.o 70,It.row 3 1 (dd (dJ .i64 z.1.2)) false),(Pl.s 6,It.v (.d (ints o))),(Pl.s 7,It.v (.d (.int .i64 z.1.1)))])
  (fun z=>z.1.1) ⟨(k,[]),by omega,by simp⟩ ?_ ?_
 ·exact GS.gq (.o 5) 0 70 (cs:=TV.c (.slice none 0 0)::p.cs.map .d) 3 1 (by simp) (by simp[Pk.cs]) (by simp) (by simp) (by simp[Pk.cs,Bh,bv,ints,dJ])
 ·rintro⟨⟨i,R⟩,i1,i2⟩;simp only at i1 i2;have hRl:R.length+i=k:=by have:=congrArg List.length i2;simp[ET]at this;omega
  by_cases hi:0<i
  ·obtain⟨i,rfl⟩:∃j,i=j+1:=⟨i-1,by omega⟩
   have hx:o[i+1]? = some (o[i+1]'(by omega)):=List.getElem?_eq_getElem (by omega);have hm:o[i+1]'(by omega)∈o:=List.getElem_mem _;have hd:o.getD (i+1) 0=o[i+1]'(by omega):=by simp[show i+1<o.length by omega]
   rw[Ij,hd]at i2
   generalize o[i+1]'(by omega)=x at hx hm i2;have hb:=om x hm;have w0:IntKind.i64.wrap (1+x)=1+x:=wrap_i64 (by omega) (by omega);have w1:IntKind.i64.wrap (i:Int)=(i:Int):=wrap_i64 (by omega) (by omega);have iz:(0:Int)<(i:Int)+1:=by omega
   have t1:((i:Int)+1).toNat=i+1:=by omega
   have iol:(i:Int)+1<o.length:=by omega
   simp -dsimp[ints,iz,hx,w0,w1,t1,iol];and_intros;all_goals try first|omega|exact⟨by kernel_rfl⟩|rfl
   refine⟨⟨(i,R++[1+x]),by simp only;omega,by simp only;rw[i2];simp⟩,GS.to (by simp[ints,dJ,Bh,bv,Pk.cs]),by simp⟩
  ·obtain rfl:i=0:=by omega
   simp only[Ij,List.append_nil]at i2;simp only[Nat.add_zero]at hRl;rw[i2]at hw
   have hF0:R.length≤4:=by omega
   by_cases n0:0<n
   case neg=>
    rw[if_neg n0]at hw
    simp -dsimp[n0,Pk.cs];and_intros;all_goals try first|rfl|omega|exact⟨by kernel_rfl⟩
    refine Fin.box (.o 4) rfl ?_;simp -dsimp[Pk.cs];refine Fin.of ?_;simp[hw,xK,vH,ints,Pk.cs,dJ]
   rw[if_pos n0]at hw
   have h4:=gK T3 k3 n hn hn1;have k4:ak (dD T3 n).2:=by rw[oW];exact k3
   generalize dD T3 n=d at h4 k4 hw;obtain⟨d,T4⟩:=d;simp only at k4 hw;simp -dsimp[n0,Pk.cs];and_intros;all_goals try first|rfl|omega|exact⟨by kernel_rfl⟩
   refine ah.of h4 [.x 0] 0 ?_;cases d with
   | false=>
     simp only[Bool.false_eq_true,if_false]at hw;simp -dsimp[Pk.cs];and_intros;all_goals try first|rfl|omega|exact⟨by kernel_rfl⟩
     refine Fin.box (.o 4) rfl ?_;simp -dsimp[Pk.cs];refine Fin.of ?_;simp[hw,xK,vH,ints,Pk.cs,dJ]
   | true=>
     simp only[if_true]at hw;unfold UQ at hw;have h5:=bn T4 k4 3 ⟨by omega,by omega⟩;have k5:ak (au T4 3).2:=by rw[dP];exact k4
     generalize au T4 3=e at h5 k5 hw;obtain⟨c,T5⟩:=e;simp only at k5 hw;by_cases c0:c=0
     ·rw[if_pos c0]at hw
      have h6:=wC T5 k5 1 ⟨by omega,by omega⟩;generalize bY T5 1=a at h6 hw;obtain⟨p1,T6⟩:=a;simp only[dX,Pk.cs,List.map]at h6;simp -dsimp[Pk.cs];and_intros;all_goals try first|rfl|omega|exact⟨by kernel_rfl⟩
      refine ah.of h5 [.x 0] 0 ?_;simp -dsimp[eq_true c0,Pk.cs];and_intros;all_goals try first|rfl|omega|exact⟨by kernel_rfl⟩
      refine ah.of h6 [.x 0] 0 ?_;simp -dsimp[Pk.cs];and_intros;all_goals try first|rfl|omega|exact⟨by kernel_rfl⟩
      refine Fin.box (.o 4) rfl ?_;simp -dsimp[Pk.cs];refine Fin.of ?_;simp[hw,xK,vH,ints,Pk.cs,dJ]
     rw[if_neg c0]at hw
     by_cases c1:c=1
     ·rw[if_pos c1]at hw
      have h6:=fE T5 k5 [0,1,2,99,100] (by simp) (by simp);generalize aK T5 [0,1,2,99,100]=a at h6 hw;obtain⟨v,T6⟩:=a;simp only[ints,List.map]at h6;simp -dsimp[Pk.cs];and_intros;all_goals try first|rfl|omega|exact⟨by kernel_rfl⟩
      refine ah.of h5 [.x 0] 0 ?_;simp -dsimp[eq_false c0,eq_true c1,Pk.cs];and_intros;all_goals try first|rfl|omega|exact⟨by kernel_rfl⟩
      refine ah.of h6 [.x 0] 0 ?_;simp -dsimp[Pk.cs];and_intros;all_goals try first|omega|exact⟨by kernel_rfl⟩|rfl
      refine Fin.box (.o 4) rfl ?_;simp -dsimp[Pk.cs];refine Fin.of ?_;simp[hw,xK,vH,ints,Pk.cs,dJ]
     rw[if_neg c1]at hw
     simp -dsimp[Pk.cs];and_intros;all_goals try first|rfl|omega|exact⟨by kernel_rfl⟩
     refine ah.of h5 [.x 0] 0 ?_;simp -dsimp[eq_false c0,eq_false c1,Pk.cs];and_intros;all_goals try first|rfl|omega|exact⟨by kernel_rfl⟩
     refine aN.of [] (fun k=>k==0||k==1||k==4||k==5||k==6||k==7||k==8||k==17||k==36||k==38||k==40||k==50||k==55) (ι:={i:Nat // i≤25})
      (fun z=>[(Pl.x 0,aJ T5),(Pl.o 4,It.box (TV.c (.slice none 0 0)::Bh.cs.map .d)),(Pl.s 4,It.v (.ptr (.o 4) 0)),
       (Pl.o 5,It.box (TV.aB 70 (R.length+z.1)::p.cs.map .d)),(Pl.s 5,It.v (.ptr (.o 5) 0)),(Pl.o 70,It.row 3 1 (dd (dJ .i64 R)++dd (dJ .i64 (je.take z.1))) false),(Pl.s 8,It.v (.d (.int .i64 z.1)))])
      (fun z=>25-z.1) ⟨0,by omega⟩ ?_ ?_
     ·exact GS.to (by simp[Pk.cs,Bh,bv,dJ])
     ·rintro⟨i,i1⟩;by_cases hi:i<25
      ·have hiz:(i:Int)<25:=by omega
       have ht:je.take (i+1)=je.take i++[50+(i:Int)]:=by
        rw[List.take_add_one];have:je[i]? = some (50+(i:Int)):=by unfold je;simp[hi]
        rw[this];rfl
       have hfl:(je.take i).length=i:=by rw[List.length_take];simp[je];omega
       have w0:IntKind.i64.wrap (50+(i:Int))=50+(i:Int):=wrap_i64 (by omega) (by omega);have w1:IntKind.i64.wrap ((i:Int)+1)=(i:Int)+1:=wrap_i64 (by omega) (by omega);simp -dsimp[hiz,w0,w1,hfl,Pk.cs];and_intros;all_goals try first|omega|exact⟨by kernel_rfl⟩|rfl
       exact⟨⟨i+1,by omega⟩,GS.to (by simp[ht,dJ,Bh,bv,Pk.cs,Nat.add_assoc]),by simp;omega⟩
      ·have hiz :¬(i:Int)<25:=by omega
       obtain rfl:i=25:=by omega
       have hfl:je.take 25=je:=List.take_of_length_le (by simp[je]);have hfn:je.length=25:=by simp[je]
       rw[hfl];generalize je=ff at hw hfn⊢;simp -dsimp[hiz,hfn,Pk.cs];and_intros;all_goals try first|rfl|omega|exact⟨by kernel_rfl⟩
       refine Fin.box (.o 4) rfl ?_;simp -dsimp[hfn,Pk.cs];refine Fin.of ?_;simp[hw,xK,vH,ints,Pk.cs,dJ]
def a0:List Int:=[0,0,0,0]
def dZ(T:Tp):Prop:=T.1.length≤2000∧∀x∈T.1,I64 x
@[simp]theorem CQ(T:Tp):dZ (Et T).2=dZ T:=by simp[dZ,EX]
@[simp]theorem EW(T:Tp)(n:Int):dZ (au T n).2=dZ T:=CQ T
@[simp]theorem aak(T:Tp)(a b:Int):dZ (aT T a b).2=dZ T:=CQ T
@[simp]theorem Oy(T:Tp)(l:List Int):dZ (aK T l).2=dZ T:=CQ T
theorem yN:∀(n i:Nat) (T:Tp) (l:List Int),(kY n i T l).2.1=T.1
 | 0,_,_,_=>rfl
 | n+1,i,T,l=>by rw[kY,yN];exact EX T
@[simp]theorem aai(T:Tp)(n:Int):dZ (bT T n).2=dZ T:=by unfold bT dZ;rw[yN]
def Good(l:List Tb):Prop:=DL l∨(ZB l∧nR l≠0)
theorem Good.big{l:List Tb}(h:Good l):ZB l:=h.elim DL.big And.left
theorem Good.sm{l:List Tb}(h:Good l)(hA:nR l=0):DL l:=h.elim id fun g=>absurd hA g.2
def afu(l:List Tb)(r id en ttl:Int):Int:=
 if nR l≠0 then 1 else match bH l r with
 | none=>4
 | some b=>if(aG b.len&&inB id 1 256)=false∨31<fJ id b.len∨en<0∨1023<en∨ttl<0∨63<ttl then 2 else 0
def W9:List Int:=[1,1,1,2,5]
def Xh(T:Tp):Nat→Tp×Int×List Rt
 | 0=>(T,0,[])
 | i+1=>let s:=Xh T i;let w:=aK s.1 W9;(w.2,s.2.1+w.1,s.2.2++[⟨s.2.1+w.1,true⟩])
abbrev Mx:=Nat→Nat→Bool
def Xg(M:Mx)(a b:Nat):Mx:=fun i j=>if i=a∧j=b then true else M i j
def MZ(T:Tp):Nat→Tp×Mx
 | 0=>(T,fun _ _=>false)
 | i+1=>let s:=MZ T i;let w:=au s.1 12
   if w.1<11 then(let v:=au w.2 ((i:Int)+1);(v.2,Xg s.2 v.1.toNat (i+1)))else(w.2,s.2)
def MW(n:Nat)(T:Tp)(M:Mx):Nat→Tp×Mx
 | 0=>(T,M)
 | k+1=>let s:=MW n T M k;let a:=au s.1 n;let b:=au a.2 n
   (b.2,if a.1=b.1 then s.2 else Xg s.2 (min a.1 b.1).toNat (max a.1 b.1).toNat)
def QT:List Int:=[0,1,2,3,5,10,1000]
def aah(flat:Bool)(x y:Int)(T:Tp):Lk×Tp:=
 let c:=aK T QT
 if flat then(⟨x,y,1,1,c.1⟩,c.2)else
 let u:=aT c.2 1 20
 let v:=aK u.2 [1,2,3,u.1,1000]
 let w:=aT v.2 1 20
 let z:=aK w.2 [v.1,v.1,w.1]
 (⟨x,y,v.1,z.1,c.1⟩,z.2)
def rid(rs:List Rt)(i:Nat):Int:=(rs.getD i ⟨0,false⟩).id
def TQ(flat:Bool)(rs:List Rt)(s:List Lk×Tp)(q:Nat×Nat):List Lk×Tp:=
 let r:=aah flat (rid rs q.1) (rid rs q.2) s.2;(s.1++[r.1],r.2)
def rowP(M:Mx)(a m:Nat):List (Nat×Nat):=((List.range m).filter (M a)).map fun b=>(a,b)
def prs(M:Mx)(n a b:Nat):List (Nat×Nat):=((List.range a).flatMap fun x=>rowP M x n)++rowP M a b
def Xi(flat:Bool)(rs:List Rt)(M:Mx)(T:Tp)(n a b:Nat):List Lk×Tp:=(prs M n a b).foldl (TQ flat rs) ([],T)
structure ait where
 n:Nat
 T1:Tp
 rs:List Rt
 T2:Tp
 M:Mx
 k:Nat
 T3:Tp
 M2:Mx
 flat:Bool
 T4:Tp
def Ak(T:Tp)(most:Int):ait:=
 let a:=aT T 1 most
 let n:=a.1.toNat
 let r:=Xh a.2 n
 let t:=MZ r.1 (n-1)
 let k:=au t.1 ((n:Int)+2)
 let m:=MW n k.2 t.2 k.1.toNat
 let f:=au m.1 3
 ⟨n,a.2,r.2.2,r.1,t.2,k.1.toNat,k.2,m.2,decide (f.1=0),f.2⟩
def aeU(T:Tp)(most:Int):ay×Tp:=
 let P:=Ak T most
 (⟨P.rs,(Xi P.flat P.rs P.M2 P.T4 P.n P.n 0).1⟩,(Xi P.flat P.rs P.M2 P.T4 P.n P.n 0).2)
def Up(n:Nat)(M:Mx):Prop:=∀i j,M i j=true→i<j∧j<n
theorem Up.set{n:Nat}{M:Mx}(h:Up n M){a b:Nat}(hab:a<b)(hb:b<n):Up n (Xg M a b):=by
 intro i j e;unfold Xg at e;split at e
 ·rename_i g;omega
 ·exact h i j e
theorem Xr{rs:List Rt}{i:Nat}(hi:i<rs.length):aY rs (rid rs i)=true:=by
 refine dH.2 (List.mem_map.2 ⟨rs[i],List.getElem_mem hi,?_⟩);unfold rid;rw[List.getD_eq_getElem?_getD,List.getElem?_eq_getElem hi];rfl
theorem OB(l:List Int)(n:Int):(E8 l n).length≤l.length+1:=by
 unfold E8;split
 ·omega
 ·simp;omega
def OW:List Int:=[1,1,1,2,7,9]
def MX(rs:List Rt)(ord:List Int)(T:Tp):Nat→Tp×Int×List Ed
 | 0=>(T,0,[])
 | i+1=>let s:=MX rs ord T i;let a:=au s.1 4
   if a.1=0 then(a.2,s.2)else(let w:=aK a.2 OW;(w.2,s.2.1+w.1,s.2.2++[⟨rid rs (ord.getD i 0).toNat,s.2.1+w.1⟩]))
def SG:List Int:=[8,8,16,32,64]
def RP(rs:List Rt)(T:Tp):Pn×Tp:=
 let a:=au T 3
 let o:=bT a.2 rs.length
 let s:=MX rs o.1 o.2 rs.length
 if 0<s.2.2.length then(let w:=aK s.1 SG;(⟨a.1,w.1,s.2.2⟩,w.2))else(⟨a.1,0,s.2.2⟩,s.1)
@[simp]theorem OH(rs:List Rt)(ord:List Int)(T:Tp):∀i:Nat,dZ (MX rs ord T i).1=dZ T
 | 0=>rfl
 | i+1=>by
   have ih:=OH rs ord T i;simp only[MX];split<;>simp[ih]
@[simp]theorem aaj(rs:List Rt)(T:Tp):dZ (RP rs T).2=dZ T:=by
 unfold RP;simp only;split<;>simp
def l9(rs:List Rt)(T:Tp):Nat→Tp×List Int
 | 0=>(T,[])
 | i+1=>let s:=l9 rs T i;let v:=au s.1 rs.length;(v.2,E8 s.2 (rid rs v.1.toNat))
def Md(rs:List Rt)(T:Tp)(n:Int):List Int×Tp:=
 let k:=au T (n+1)
 let s:=l9 rs k.2 k.1.toNat
 (s.2,s.1)
@[simp]theorem OI(rs:List Rt)(T:Tp):∀i:Nat,dZ (l9 rs T i).1=dZ T
 | 0=>rfl
 | i+1=>by simp only[l9,EW];exact OI rs T i
@[simp]theorem acW(rs:List Rt)(T:Tp)(n:Int):dZ (Md rs T n).2=dZ T:=by simp[Md]
theorem Fj(rs:List Rt)(T:Tp):∀i:Nat,(l9 rs T i).2.length≤i
 | 0=>by simp[l9]
 | i+1=>by
   have ih:=Fj rs T i;have:=OB (l9 rs T i).2 (rid rs (au (l9 rs T i).1 rs.length).1.toNat);simp only[l9];omega
def flR(r:Int)(L:List Int):List Int:=L.filter fun y=>decide (y≠r)
def zk(rs:List Rt)(r:Int)(T:Tp):List Int×Tp:=
 let s:=au T 4
 if s.1=0 then([r],s.2)else if s.1=1 then([],s.2)else(flR r (Md rs s.2 2).1,(Md rs s.2 2).2)
def O7(rs:List Rt)(l:List Tb)(T:Tp):(List Tb×Int×Int)×Tp:=
 if l.length=0 then((l,0,0),T)else
 let k:=au T l.length
 let b:=l.getD k.1.toNat tb0
 if b.rows.length=0 then((l,0,0),k.2)else
 let j:=au k.2 b.rows.length
 let x:=b.rows.getD j.1.toNat ⟨0,[]⟩
 let s:=zk rs b.r j.2
 ((l.set k.1.toNat ⟨b.r,b.sd,b.len,b.rows.set j.1.toNat ⟨x.id,s.1⟩⟩,b.r,x.id),s.2)
@[simp]theorem adJ(rs:List Rt)(r:Int)(T:Tp):dZ (zk rs r T).2=dZ T:=by
 unfold zk;simp only;split
 ·simp
 ·split<;>simp
@[simp]theorem Ud(rs:List Rt)(l:List Tb)(T:Tp):dZ (O7 rs l T).2=dZ T:=by
 unfold O7;split
 ·rfl
 ·simp only;split<;>simp
@[simp]theorem SQ(T:Tp):∀i:Nat,dZ (Xh T i).1=dZ T
 | 0=>rfl
 | i+1=>by simp only[Xh,Oy];exact SQ T i
@[simp]theorem OJ(T:Tp):∀i:Nat,dZ (MZ T i).1=dZ T
 | 0=>rfl
 | i+1=>by
   have ih:=OJ T i;simp only[MZ];split<;>simp[ih]
@[simp]theorem OG(n:Nat)(T:Tp)(M:Mx):∀i:Nat,dZ (MW n T M i).1=dZ T
 | 0=>rfl
 | i+1=>by
   have ih:=OG n T M i;simp only[MW,EW,ih]
@[simp]theorem aeT(flat:Bool)(x y:Int)(T:Tp):dZ (aah flat x y T).2=dZ T:=by
 unfold aah;simp only;split<;>simp
theorem IW(flat:Bool)(rs:List Rt):∀(ps:List (Nat×Nat)) (s:List Lk×Tp),dZ (ps.foldl (TQ flat rs) s).2=dZ s.2
 | [],_=>rfl
 | q::ps,s=>by rw[List.foldl_cons,IW flat rs ps];simp[TQ]
@[simp]theorem SS(flat:Bool)(rs:List Rt)(M:Mx)(T:Tp)(n a b:Nat):dZ (Xi flat rs M T n a b).2=dZ T:=IW _ _ _ _
@[simp]theorem agb(a b:Nat)(T:Tp):AO a b (aJ T)=aJ T:=by simp[aJ,TT,TV.AP,TV.ren]
end Go.Proofs
