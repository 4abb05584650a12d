/-
  What functions of the program compute, stated as contracts over plain data; the conditions of each stand in its own statement.
-/
import Derived.Test.YtboimfkommpglaaGreatDoorZA29
import Derived.Test.YtboimfkommpglaaGreatDoorZA17
import Derived.Test.YtboimfkommpglaaGreatDoorZA10
import Derived.Test.YtboimfkommpglaaGreatDoorZA14
import Derived.Test.YtboimfkommpglaaGreatDoorZA28
import Derived.Test.YtboimfkommpglaaGreatDoorZA27
import Derived.Test.YtboimfkommpglaaGreatDoorZA34
import Derived.Test.YtboimfkommpglaaGreatDoorZA26
import Derived.Test.YtboimfkommpglaaGreatDoorZA22
set_option linter.unusedSimpArgs false
set_option linter.unusedVariables false
set_option maxRecDepth 100000
set_option maxHeartbeats 16000000
namespace Go.Proofs
open Go Go.Tr
theorem zI(T:Tp)(hT:ak T)(g:ay)(hs:g.Sm):Contract Tryz.prog 32 [.ptr (.x 0) 0,aH g] [aJ T] (rM (jh T g).1) [aJ (jh T g).2] []:=by
 obtain⟨w,hw⟩:∃w,w=jh T g:=⟨_,rfl⟩
 rw[←hw];unfold jh at hw;have h1:=D5 T hT g hs;have k1:ak (dW T g).2:=by rw[nS];exact hT
 have l1:=oC T g;generalize dW T g=a at h1 k1 l1 hw;obtain⟨f,T1⟩:=a;simp only at k1 l1 hw;have h2:=bn T1 k1 3 ⟨by omega,by omega⟩;have k2:ak (au T1 3).2:=by rw[dP];exact k1
 have n1:=aC T1 3;have n2:=bg T1 (n:=3) (by omega);generalize au T1 3=b at h2 k2 n1 n2 hw;obtain⟨k,T2⟩:=b;simp only at k2 n1 n2 hw;obtain⟨k,rfl⟩:∃j:Nat,k=j:=⟨k.toNat,by omega⟩
 rw[Int.toNat_natCast]at hw
 have hF:=fun T hT=>D5 T hT g hs
 simp only[tK,tJ,aH]at h1 hF;refine aj Tryz.func32 rfl (fun E0=>?_);refine cO.sound (g:=.mk) (ow:=[1000095]) (kp:=(fun k=>k==0||k==1||k==3||k==4||k==5||k==6||k==7||k==14||k==33)) ?_;rw[Tryz.ntmps32];simp -dsimp[aH];refine ah.of h1 [.x 0] 2000 ?_;simp -dsimp;and_intros;all_goals try first|rfl|omega|exact⟨by kernel_rfl⟩
 refine ah.of h2 [.x 0] 0 ?_;simp -dsimp;and_intros;all_goals try first|rfl|omega|exact⟨by kernel_rfl⟩
 refine aN.of [1000095] (fun k=>k==0||k==1||k==3||k==4||k==5||k==6||k==7||k==14||k==33) (ι:={z:Nat×Fl×Tp // z.1≤2∧ak z.2.2∧z.2.1.1.length+z.1≤3∧z.2.1.2.length+z.1≤3∧gV g k f T2=gV g z.1 z.2.1 z.2.2})
  (fun z=>[(Pl.s 0,It.v (.ptr (Pl.x 0) 0)),(Pl.x 0,aJ z.1.2.2),(Pl.o 3,It.box [TV.d (.sl (rts g.rs)),TV.d (.sl (dO g.ls))]),(Pl.s 3,It.v (.ptr (.o 3) 0)),(Pl.o 4,It.box [TV.c (.slice none 0 0),TV.c (.slice none 0 0)]),(Pl.s 4,It.v (.ptr (.o 4) 0)),
   (Pl.o 5,It.box [TV.aB 70 z.1.2.1.1.length,TV.aB 71 z.1.2.1.2.length]),(Pl.s 5,It.v (.ptr (.o 5) 0)),(Pl.o 70,It.row 157 2 (dd (z.1.2.1.1.map jL)) false),(Pl.o 71,It.row 3 1 (dd (dJ .i64 z.1.2.1.2)) false),(Pl.s 6,It.v (.d (.int .i64 z.1.1)))])
  (fun z=>z.1.1) ⟨(k,f,T2),by simp only;omega,k2,by simp only;omega,by simp only;omega,rfl⟩ ?_ ?_
 ·refine(GS.to (l':=[(Pl.s 0,It.v (.ptr (Pl.x 0) 0)),(Pl.x 0,aJ T2),(Pl.o 3,It.box [TV.d (.sl (rts g.rs)),TV.d (.sl (dO g.ls))]),(Pl.s 3,It.v (.ptr (.o 3) 0)),(Pl.o 4,It.box [TV.c (.slice none 0 0),TV.c (.slice none 0 0)]),(Pl.s 4,It.v (.ptr (.o 4) 0)),(Pl.o 5,It.box [TV.aB 2006 f.1.length,TV.aB 2007 f.2.length]),(Pl.s 5,It.v (.ptr (.o 5) 0)),
   (Pl.o 2006,It.row 157 2 (dd (f.1.map jL)) false),(Pl.o 2007,It.row 3 1 (dd (dJ .i64 f.2)) false),(Pl.s 6,It.v (.d (.int .i64 k)))]) (by simp)).trans
   ((GS.ren' (l':=[(Pl.s 0,It.v (.ptr (Pl.x 0) 0)),(Pl.x 0,aJ T2),(Pl.o 3,It.box [TV.d (.sl (rts g.rs)),TV.d (.sl (dO g.ls))]),(Pl.s 3,It.v (.ptr (.o 3) 0)),(Pl.o 4,It.box [TV.c (.slice none 0 0),TV.c (.slice none 0 0)]),(Pl.s 4,It.v (.ptr (.o 4) 0)),(Pl.o 5,It.box [TV.aB 70 f.1.length,TV.aB 2007 f.2.length]),(Pl.s 5,It.v (.ptr (.o 5) 0)),
   (Pl.o 70,It.row 157 2 (dd (f.1.map jL)) false),(Pl.o 2007,It.row 3 1 (dd (dJ .i64 f.2)) false),(Pl.s 6,It.v (.d (.int .i64 k)))]) 2006 70 (by decide) (by simp) (by simp[aJ])).trans (GS.ren' 2007 71 (by decide) (by simp) (by simp[aJ])))
 ·rintro⟨⟨i,F,T3⟩,i1,i2,i3,i4,i5⟩;simp only at i1 i2 i3 i4 i5;by_cases hi:0<i
  ·obtain⟨i,rfl⟩:∃j,i=j+1:=⟨i-1,by omega⟩
   have h3:=hF T3 i2;have k3:ak (dW T3 g).2:=by rw[nS];exact i2
   have l3:=oC T3 g;rw[gV]at i5
   generalize dW T3 g=a at h3 k3 l3 i5;obtain⟨x,T4⟩:=a;simp only at k3 l3 i5;have iz:(0:Int)<(i:Int)+1:=by omega
   have w1:IntKind.i64.wrap (i:Int)=(i:Int):=wrap_i64 (by omega) (by omega);have d1:dLen 2 (x.1.map jL):=iF 2 _ _ fun _=>rfl
   have d2:dLen 1 (dJ .i64 x.2):=iF 1 _ _ fun _=>rfl
   simp -dsimp[iz];and_intros;all_goals try first|rfl|omega|exact⟨by kernel_rfl⟩
   refine ah.of h3 [.x 0] 4000 ?_;simp -dsimp[iz,w1];and_intros;all_goals try first|omega|exact d1|exact d2|exact⟨by kernel_rfl⟩|rfl
   refine⟨⟨(i,(F.1++x.1,F.2++x.2),T4),by simp only;omega,k3,by simp only[List.length_append];omega,by simp only[List.length_append];omega,i5⟩,GS.to (by simp[dJ]),by simp⟩
  ·obtain rfl:i=0:=by omega
   rw[gV]at i5
   rw[i5]at hw
   have h4:=gK T3 i2 6 ⟨by omega,by omega⟩ ⟨by omega,by omega⟩;have k4:ak (dD T3 6).2:=by rw[oW];exact i2
   simp only at hw;generalize dD T3 6=o at h4 k4 hw;obtain⟨o,T4⟩:=o;simp only at k4 hw;simp -dsimp;and_intros;all_goals try first|rfl|omega|exact⟨by kernel_rfl⟩
   refine ah.of h4 [.x 0] 0 ?_;cases o with
   | false=>
     simp only[Bool.false_eq_true,if_false]at hw;simp -dsimp;and_intros;all_goals try first|rfl|omega|exact⟨by kernel_rfl⟩
     refine Fin.box (.o 4) rfl ?_;simp -dsimp;refine Fin.of ?_;simp[hw,rM,ints,dJ]
   | true=>
     simp only[if_true]at hw;unfold vk at hw;have h5:=bn T4 k4 9 ⟨by omega,by omega⟩;have k5:ak (au T4 9).2:=by rw[dP];exact k4
     generalize au T4 9=a at h5 k5 hw;obtain⟨a,T5⟩:=a;simp only at k5 hw;have h6:=bn T5 k5 9 ⟨by omega,by omega⟩;have k6:ak (au T5 9).2:=by rw[dP];exact k5
     generalize au T5 9=b at h6 k6 hw;obtain⟨b,T6⟩:=b;simp only at k6 hw;have h7:=fE T6 k6 [0,77,-1] (by simp) (by simp);generalize aK T6 [0,77,-1]=c at h7 hw;obtain⟨c,T7⟩:=c;simp only at hw;simp only[ints,List.map]at h7;simp -dsimp;and_intros;all_goals try first|omega|exact⟨by kernel_rfl⟩|rfl
     refine ah.of h5 [.x 0] 0 ?_;simp -dsimp;and_intros;all_goals try first|omega|exact⟨by kernel_rfl⟩|rfl
     refine ah.of h6 [.x 0] 0 ?_;simp -dsimp;and_intros;all_goals try first|omega|exact⟨by kernel_rfl⟩|rfl
     refine ah.of h7 [.x 0] 0 ?_;simp -dsimp;and_intros;all_goals try first|omega|exact⟨by kernel_rfl⟩|rfl
     refine Fin.box (.o 4) rfl ?_;simp -dsimp;refine Fin.of ?_;simp[hw,rM,ints,dJ,jL]
theorem M_(l:List (Int×Int))(hl:l.length≤1000000)(a b:Int):Contract Tryz.prog 94 [.d (.sl (l.map jL)),.d (.int .i64 a),.d (.int .i64 b)] [] (.d (.bool (nX l a b))) [] []:=by
 obtain⟨w,hw⟩:∃w,w=nX l a b:=⟨_,rfl⟩
 rw[←hw];unfold nX at hw;refine aj Tryz.func94 rfl (fun E0=>?_);refine cO.sound (g:=.mk) (ow:=[]) (kp:=(fun k=>k==0||k==1||k==2||k==6||k==7||k==11||k==47)) ?_;rw[Tryz.ntmps94];simp -dsimp;refine aN.of [] (fun k=>k==0||k==1||k==2||k==6||k==7||k==11||k==47) (ι:={i:Nat // i≤l.length∧∀x∈l.take i,((decide (x.1=a)&&decide (x.2=b))||(decide (x.1=b)&&decide (x.2=a)))=false})
  (fun z=>[(Pl.s 0,It.v (.d (.sl (l.map jL)))),(Pl.s 1,It.v (.d (.int .i64 a))),(Pl.s 2,It.v (.d (.int .i64 b))),(Pl.s 7,It.v (.d (.int .i64 z.1)))])
  (fun z=>l.length-z.1) ⟨0,by omega,by simp⟩ ?_ ?_
 ·exact GS.to (by simp)
 ·rintro⟨i,i1,i2⟩;by_cases hi:i<l.length
  ·have hiz:(i:Int)<l.length:=by omega
   have hx:l[i]? = some l[i]:=List.getElem?_eq_getElem hi;have hm:=List.getElem_mem hi;generalize l[i]=x at hx hm;have w1:IntKind.i64.wrap ((i:Int)+1)=(i:Int)+1:=wrap_i64 (by omega) (by omega);have yes:((decide (x.1=a)&&decide (x.2=b))||(decide (x.1=b)&&decide (x.2=a)))=true→w=true:=fun h=>hw.trans (List.any_eq_true.2 ⟨x,hm,h⟩)
   have nxt:((decide (x.1=a)&&decide (x.2=b))||(decide (x.1=b)&&decide (x.2=a)))=false→∀y∈l.take (i+1),((decide (y.1=a)&&decide (y.2=b))||(decide (y.1=b)&&decide (y.2=a)))=false:=fun h y hy=>by
    rw[List.take_add_one,hx,Option.toList_some]at hy
    rcases List.mem_append.1 hy with e|e
    ·exact i2 y e
    ·rw[List.mem_singleton.1 e];exact h
   by_cases c1:x.1=a
   ·by_cases c2:x.2=b
    ·simp -dsimp[hiz,hx,jL,eq_true c1,eq_true c2];and_intros;all_goals try first|omega|exact⟨by kernel_rfl⟩|rfl
     refine Fin.of ?_;simp[yes (by simp[c1,c2])]
    ·by_cases c3:x.1=b
     ·by_cases c4:x.2=a
      ·exfalso;omega
      ·simp -dsimp[hiz,hx,jL,eq_true c1,eq_false c2,eq_true c3,eq_false c4,w1];and_intros;all_goals try first|omega|exact⟨by kernel_rfl⟩|rfl
       exact⟨⟨i+1,by omega,nxt (by simp[c2,c4])⟩,GS.to (by simp),by simp;omega⟩
     ·simp -dsimp[hiz,hx,jL,eq_true c1,eq_false c2,eq_false c3,w1];and_intros;all_goals try first|omega|exact⟨by kernel_rfl⟩|rfl
      exact⟨⟨i+1,by omega,nxt (by simp[c2,c3])⟩,GS.to (by simp),by simp;omega⟩
   ·by_cases c3:x.1=b
    ·by_cases c4:x.2=a
     ·simp -dsimp[hiz,hx,jL,eq_false c1,eq_true c3,eq_true c4];and_intros;all_goals try first|omega|exact⟨by kernel_rfl⟩|rfl
      refine Fin.of ?_;simp[yes (by simp[c3,c4])]
     ·simp -dsimp[hiz,hx,jL,eq_false c1,eq_true c3,eq_false c4,w1];and_intros;all_goals try first|omega|exact⟨by kernel_rfl⟩|rfl
      exact⟨⟨i+1,by omega,nxt (by simp[c1,c4])⟩,GS.to (by simp),by simp;omega⟩
    ·simp -dsimp[hiz,hx,jL,eq_false c1,eq_false c3,w1];and_intros;all_goals try first|omega|exact⟨by kernel_rfl⟩|rfl
     exact⟨⟨i+1,by omega,nxt (by simp[c1,c3])⟩,GS.to (by simp),by simp;omega⟩
  ·have hiz :¬(i:Int)<l.length:=by omega
   rw[List.take_of_length_le (by omega)]at i2
   have vw:w=false:=hw.trans (List.any_eq_false.2 fun x hx=>by rw[i2 x hx];simp);simp -dsimp[hiz];and_intros;all_goals try first|rfl|omega|exact⟨by kernel_rfl⟩
   refine Fin.of ?_;simp[vw]
theorem Aj{α:Type}{q:α→Bool}{l:List α}{i:Nat}{x:α}(h:l[i]? = some x):(l.take (i+1)).filter q=(l.take i).filter q++if q x=true then [x]else []:=by
 rw[List.take_add_one,h,List.filter_append]
 congr 1
 show [x].filter q=_
 rw[List.filter_cons];split<;>rfl
theorem BZ(g:ay)(hs:g.Sm)(f:Fl)(h1:f.1.length≤1000)(h2:f.2.length≤1000):Contract Tryz.prog 31 [aH g,rM f] [] (aH (xJ g f.1 f.2)) [] []:=by
 have hck:=oz g hs.r hs.l;have hr:=hs.r;have hl:=hs.l;have hH:=fun n=>Qm f.2 (by omega) n
 have hN:=fun a b=>M_ f.1 (by omega) a b
 simp only[aH]at hck;simp only[ints]at hH;obtain⟨w,hw⟩:∃w,w=xJ g f.1 f.2:=⟨_,rfl⟩
 rw[←hw];unfold xJ at hw;by_cases c0:cZ g=0
 case neg=>
  rw[if_neg c0]at hw
  refine aj Tryz.func31 rfl (fun E0=>?_);refine cO.sound (g:=.mk) (ow:=[]) (kp:=(fun k=>k==0||k==1||k==2||k==3||k==4||k==5||k==6||k==7||k==8||k==11||k==17||k==29||k==44||k==75)) ?_;rw[Tryz.ntmps31];simp -dsimp[aH,rM];refine ah.of hck [] 0 ?_;simp -dsimp[c0];and_intros;all_goals try first|rfl|omega|exact⟨by kernel_rfl⟩
  refine Fin.box (.o 4) rfl ?_;simp -dsimp;refine Fin.of ?_;simp[hw,aH,rts,dO]
 rw[if_pos c0]at hw
 obtain⟨PF,hP0,hPs,hPl,hPe⟩:∃PF:Nat→List Rt,PF 0 = []∧(∀(i:Nat) x,g.rs[i]? = some x→PF (i+1)=PF i++if(!decide (x.id∈f.2))=true then [x]else [])∧(∀i,(PF i).length≤g.rs.length)∧PF g.rs.length=g.rs.filter fun x=>!decide (x.id∈f.2):=
  ⟨fun i=>(g.rs.take i).filter fun x=>!decide (x.id∈f.2),by simp,fun i x h=>Aj h,fun i=>Nat.le_trans (List.length_filter_le _ _) (by rw[List.length_take];omega),by simp only[List.take_length]⟩
 obtain⟨LF,kP0,kPs,kPl,kPe⟩:∃LF:Nat→List Lk,LF 0 = []∧(∀(i:Nat) x,g.ls[i]? = some x→LF (i+1)=LF i++if(!decide (x.a∈f.2)&&(!decide (x.b∈f.2) && !nX f.1 x.a x.b))=true then [x]else [])∧(∀i,(LF i).length≤g.ls.length)∧
   LF g.ls.length=g.ls.filter fun x=>!decide (x.a∈f.2)&&(!decide (x.b∈f.2) && !nX f.1 x.a x.b):=
  ⟨fun i=>(g.ls.take i).filter fun x=>!decide (x.a∈f.2)&&(!decide (x.b∈f.2) && !nX f.1 x.a x.b),by simp,fun i x h=>Aj h,fun i=>Nat.le_trans (List.length_filter_le _ _) (by rw[List.length_take];omega),by simp only[List.take_length]⟩
 rw[←hPe,←kPe]at hw
 refine aj Tryz.func31 rfl (fun E0=>?_);refine cO.sound (g:=.mk) (ow:=[]) (kp:=(fun k=>k==0||k==1||k==2||k==3||k==4||k==5||k==6||k==7||k==8||k==11||k==17||k==29||k==44||k==75)) ?_;rw[Tryz.ntmps31];simp -dsimp[aH,rM];refine ah.of hck [] 0 ?_;simp -dsimp[c0];and_intros;all_goals try first|rfl|omega|exact⟨by kernel_rfl⟩
 refine aN.of [] (fun k=>k==0||k==1||k==2||k==3||k==4||k==5||k==6||k==7||k==8||k==11||k==17||k==29||k==44||k==75) (ι:={i:Nat // i≤g.rs.length})
  (fun z=>[(Pl.o 2,It.box [TV.d (.sl (rts g.rs)),TV.d (.sl (dO g.ls))]),(Pl.s 2,It.v (.ptr (.o 2) 0)),(Pl.o 3,It.box [TV.d (.sl (f.1.map jL)),TV.d (ints f.2)]),(Pl.s 3,It.v (.ptr (.o 3) 0)),(Pl.o 4,It.box [TV.c (.slice none 0 0),TV.c (.slice none 0 0)]),(Pl.s 4,It.v (.ptr (.o 4) 0)),(Pl.s 5,It.v (.ptr (.o 5) 0)),(Pl.o 5,It.box [TV.aB 70 (PF z.1).length,TV.c (.slice none 0 0)]),(Pl.o 70,It.row 117 2 (dd (rts (PF z.1))) false),(Pl.s 6,It.v (.d (.int .i64 z.1)))])
  (fun z=>g.rs.length-z.1) ⟨0,by omega⟩ ?_ ?_
 ·exact GS.gq (.o 5) 0 70 (cs:=[.c (.slice none 0 0),.c (.slice none 0 0)]) 117 2 (by simp) (by simp) (by simp) (by simp) (by simp[hP0,rts,ints])
 rintro⟨i,i1⟩;have hpl:=hPl i;by_cases hi:i<g.rs.length
 ·have hiz:(i:Int)<g.rs.length:=by omega
  have hx:g.rs[i]? = some g.rs[i]:=List.getElem?_eq_getElem hi;have ht:=hPs i _ hx;generalize g.rs[i]=x at hx ht;have hx':=fF hx;have w1:IntKind.i64.wrap ((i:Int)+1)=(i:Int)+1:=wrap_i64 (by omega) (by omega);have hh:=hH x.id;generalize PF i=S at hpl ht⊢;by_cases c1:x.id∈f.2
  ·simp only[c1,decide_true,Bool.not_true,Bool.false_eq_true,if_false,List.append_nil]at ht;simp -dsimp[hiz,hx',Rt.cs,ints];and_intros;all_goals try first|rfl|omega|exact⟨by kernel_rfl⟩
   refine ah.of hh [] 0 ?_;simp -dsimp[mF,c1,w1];and_intros;all_goals try first|omega|exact⟨by kernel_rfl⟩|rfl
   exact⟨⟨i+1,by omega⟩,GS.to (by simp[ht,ints]),by simp;omega⟩
  ·simp only[c1,decide_false,Bool.not_false,if_true]at ht;simp -dsimp[hiz,hx',Rt.cs,ints];and_intros;all_goals try first|rfl|omega|exact⟨by kernel_rfl⟩
   refine ah.of hh [] 0 ?_;simp -dsimp[mF,c1,w1,hiz,hx',Rt.cs];and_intros;all_goals try first|omega|exact⟨by kernel_rfl⟩|rfl
   exact⟨⟨i+1,by omega⟩,GS.to (by simp[ht,ints,rts,Rt.cs]),by simp;omega⟩
 have hiz :¬(i:Int)<g.rs.length:=by omega
 obtain rfl:i=g.rs.length:=by omega
 clear hP0 hPs hPl hPe;generalize PF g.rs.length=R at hpl hw⊢;simp -dsimp[hiz];and_intros;all_goals try first|rfl|omega|exact⟨by kernel_rfl⟩
 refine aN.of [] (fun k=>k==0||k==1||k==2||k==3||k==4||k==5||k==6||k==7||k==8||k==11||k==17||k==29||k==44||k==75) (ι:={i:Nat // i≤g.ls.length})
  (fun z=>[(Pl.o 2,It.box [TV.d (.sl (rts g.rs)),TV.d (.sl (dO g.ls))]),(Pl.s 2,It.v (.ptr (.o 2) 0)),(Pl.o 3,It.box [TV.d (.sl (f.1.map jL)),TV.d (ints f.2)]),(Pl.s 3,It.v (.ptr (.o 3) 0)),(Pl.o 4,It.box [TV.c (.slice none 0 0),TV.c (.slice none 0 0)]),(Pl.s 4,It.v (.ptr (.o 4) 0)),(Pl.s 5,It.v (.ptr (.o 5) 0)),(Pl.o 5,It.box [TV.aB 70 R.length,TV.aB 71 (LF z.1).length]),(Pl.o 70,It.row 117 2 (dd (rts R)) false),(Pl.o 71,It.row 142 5 (dd (dO (LF z.1))) false),(Pl.s 7,It.v (.d (.int .i64 z.1)))])
  (fun z=>g.ls.length-z.1) ⟨0,by omega⟩ ?_ ?_
 ·exact GS.gq (.o 5) 1 71 (cs:=[.aB 70 R.length,.c (.slice none 0 0)]) 142 5 (by simp) (by simp) (by simp) (by simp) (by simp[kP0,dO,ints])
 rintro⟨j,j1⟩;have kpl:=kPl j;by_cases hj:j<g.ls.length
 ·have hjz:(j:Int)<g.ls.length:=by omega
  have hx:g.ls[j]? = some g.ls[j]:=List.getElem?_eq_getElem hj;have ht:=kPs j _ hx;generalize g.ls[j]=x at hx ht;have hx':=o8 hx;have w1:IntKind.i64.wrap ((j:Int)+1)=(j:Int)+1:=wrap_i64 (by omega) (by omega);have ha:=hH x.a;have hb:=hH x.b;have hn:=hN x.a x.b;generalize LF j=S at kpl ht⊢;by_cases c1:x.a∈f.2
  ·simp only[c1,decide_true,Bool.not_true,Bool.false_and,Bool.false_eq_true,if_false,List.append_nil]at ht;simp -dsimp[hjz,hx',Lk.cs,ints];and_intros;all_goals try first|rfl|omega|exact⟨by kernel_rfl⟩
   refine ah.of ha [] 0 ?_;simp -dsimp[mF,c1,w1];and_intros;all_goals try first|omega|exact⟨by kernel_rfl⟩|rfl
   exact⟨⟨j+1,by omega⟩,GS.to (by simp[ht,ints]),by simp;omega⟩
  by_cases c2:x.b∈f.2
  ·simp only[c1,c2,decide_true,decide_false,Bool.not_true,Bool.not_false,Bool.true_and,Bool.false_and,Bool.false_eq_true,if_false,List.append_nil]at ht;simp -dsimp[hjz,hx',Lk.cs,ints];and_intros;all_goals try first|rfl|omega|exact⟨by kernel_rfl⟩
   refine ah.of ha [] 0 ?_;simp -dsimp[mF,c1,ints];and_intros;all_goals try first|rfl|omega|exact⟨by kernel_rfl⟩
   refine ah.of hb [] 0 ?_;simp -dsimp[mF,c2,w1];and_intros;all_goals try first|omega|exact⟨by kernel_rfl⟩|rfl
   exact⟨⟨j+1,by omega⟩,GS.to (by simp[ht,ints]),by simp;omega⟩
  simp only[c1,c2,decide_false,Bool.not_false,Bool.true_and]at ht;generalize nX f.1 x.a x.b=q at hn ht;cases q with
  | true=>
    simp only[Bool.not_true,Bool.false_eq_true,if_false,List.append_nil]at ht;simp -dsimp[hjz,hx',Lk.cs,ints];and_intros;all_goals try first|rfl|omega|exact⟨by kernel_rfl⟩
    refine ah.of ha [] 0 ?_;simp -dsimp[mF,c1,ints];and_intros;all_goals try first|rfl|omega|exact⟨by kernel_rfl⟩
    refine ah.of hb [] 0 ?_;simp -dsimp[mF,c2];and_intros;all_goals try first|rfl|omega|exact⟨by kernel_rfl⟩
    refine ah.of hn [] 0 ?_;simp -dsimp[w1];and_intros;all_goals try first|omega|exact⟨by kernel_rfl⟩|rfl
    exact⟨⟨j+1,by omega⟩,GS.to (by simp[ht,ints]),by simp;omega⟩
  | false=>
    simp only[Bool.not_false,if_true]at ht;simp -dsimp[hjz,hx',Lk.cs,ints];and_intros;all_goals try first|rfl|omega|exact⟨by kernel_rfl⟩
    refine ah.of ha [] 0 ?_;simp -dsimp[mF,c1,ints];and_intros;all_goals try first|rfl|omega|exact⟨by kernel_rfl⟩
    refine ah.of hb [] 0 ?_;simp -dsimp[mF,c2];and_intros;all_goals try first|rfl|omega|exact⟨by kernel_rfl⟩
    refine ah.of hn [] 0 ?_;simp -dsimp[w1];and_intros;all_goals try first|omega|exact⟨by kernel_rfl⟩|rfl
    exact⟨⟨j+1,by omega⟩,GS.to (by simp[ht,ints,dO,Lk.cs]),by simp;omega⟩
 have hjz :¬(j:Int)<g.ls.length:=by omega
 obtain rfl:j=g.ls.length:=by omega
 clear kP0 kPs kPl kPe;generalize LF g.ls.length=M at kpl hw⊢;simp -dsimp[hjz];and_intros;all_goals try first|rfl|omega|exact⟨by kernel_rfl⟩
 refine Fin.box (.o 4) rfl ?_;simp -dsimp;refine Fin.of ?_;simp[hw,aH]
def ql(T:Tp)(rs:List Rt):Int×Tp:=if rs.length=0 then aK T [0,1,2,7,77,-1]else((rs.getD (au T rs.length).1.toNat ⟨0,false⟩).id,(au T rs.length).2)
theorem BR(T:Tp)(hT:ak T)(rs:List Rt)(ls:List Lk)(hr:rs.length≤1000):Contract Tryz.prog 19 [.ptr (.x 0) 0,.agg [.d (.sl (rts rs)),.d (.sl (dO ls))],.d (.int .i64 0)] [aJ T] (.d (.int .i64 (ql T rs).1)) [aJ (ql T rs).2] []:=by
 unfold ql;by_cases h0:rs.length=0
 ·have hn:rs = []:=List.length_eq_zero_iff.1 h0;rw[if_pos h0];have hp:=fE T hT [0,1,2,7,77,-1] (by simp) (by simp);refine aj Tryz.func19 rfl (fun E0=>?_);refine cO.sound (g:=.mk) (ow:=[]) (kp:=(fun k=>k==0||k==1||k==2||k==4||k==6||k==19)) ?_;rw[Tryz.ntmps19];simp -dsimp[hn];and_intros;all_goals try first|rfl|omega|exact⟨by kernel_rfl⟩
  refine ah.of hp [.x 0] 0 ?_;simp -dsimp[ints];and_intros;all_goals try first|rfl|omega|exact⟨by kernel_rfl⟩
  refine Fin.of ?_;simp
 ·rw[if_neg h0];exact uP T hT rs ls ⟨by omega,hr⟩
end Go.Proofs

namespace Go.Tr
theorem Sz{A B:Type}{G H:A→B→Prop}{X:Prop}(b:∀a b,H a b→G a b)(a:(∀a b,H a b→G a b)→X):X:=a b
end Go.Tr

namespace Go.Proofs
open Go Go.Tr
theorem FK(g:ay)(hs:g.Sm)(l:List Tb)(hl:DL l)(r:Int)(f:Fr)(hf:f.rt.length≤100000):
  Contract Tryz.prog 36 [aH g,.d (.sl (oq l)),.d (.int .i64 r),xK f] [] (.rG [nD (iZ g l r f).1,.d (.int .i64 (iZ g l r f).2)]) [] []:=by
 obtain⟨rt,p⟩:=f;have h1:=oz g hs.r hs.l;have h2:=tZ l hl;have h3:=Ld ⟨rt,p⟩ (by simp only at hf⊢;omega);have h4:=CO l hl r;have h5:=sG g hs r;simp only at hf;simp only[aH]at h1 h5;simp only[xK,vH,ints,Pk.cs,List.map]at h3;obtain⟨w,hw⟩:∃w,w=iZ g l r ⟨rt,p⟩:=⟨_,rfl⟩
 rw[←hw];refine aj Tryz.func36 rfl (fun E0=>?_);refine cO.sound (g:=.mk) (ow:=[]) (kp:=(fun k=>k==0||k==1||k==2||k==3||k==4||k==7||k==8||k==9||k==10||k==11||k==12||k==13||k==14||k==15||k==16||k==17||k==30||k==51||k==56||k==69||k==81||k==95)) ?_;rw[Tryz.ntmps36];simp -dsimp[aH,xK,vH,ints,Pk.cs];refine ah.of h1 [] 0 ?_;by_cases c0:cZ g=0
 case neg=>
  have vw:w=(zn,1):=hw.trans (by unfold iZ;rw[if_pos (.inl c0)]);simp -dsimp[c0];and_intros;all_goals try first|rfl|omega|exact⟨by kernel_rfl⟩
  refine Fin.box (.o 8) rfl ?_;simp -dsimp;refine Fin.of ?_;simp[vw,nD,zn,bv]
 simp -dsimp[c0];and_intros;all_goals try first|rfl|omega|exact⟨by kernel_rfl⟩
 refine ah.of h2 [] 0 ?_;by_cases c1:nR l=0
 case neg=>
  have vw:w=(zn,1):=hw.trans (by unfold iZ;rw[if_pos (.inr (.inl c1))]);simp -dsimp[c1];and_intros;all_goals try first|rfl|omega|exact⟨by kernel_rfl⟩
  refine Fin.box (.o 8) rfl ?_;simp -dsimp;refine Fin.of ?_;simp[vw,nD,zn,bv]
 simp -dsimp[c1,ints,Pk.cs];and_intros;all_goals try first|rfl|omega|exact⟨by kernel_rfl⟩
 refine ah.of h3 [] 0 ?_;rcases (Bool.eq_false_or_eq_true (frB ⟨rt,p⟩)).symm with c2|c2
 ·have vw:w=(zn,1):=hw.trans (by unfold iZ;rw[if_pos (.inr (.inr c2))]);simp -dsimp[c2];and_intros;all_goals try first|rfl|omega|exact⟨by kernel_rfl⟩
  refine Fin.box (.o 8) rfl ?_;simp -dsimp;refine Fin.of ?_;simp[vw,nD,zn,bv]
 have hw1:w=if aY g.rs r=false then(zn,4)
   else match rt with
    | n::w=>(qP g r n w p,0)
    | []=>match bH l r with
      | none=>(zn,4)
      | some b=>if(jC b p).2≠0 then(zn,(jC b p).2)else((jC b p).1.g_.foldl (wG g r) ⟨(jC b p).1.loc,(jC b p).1.lost,[]⟩,0):=
  hw.trans (by unfold iZ;rw[if_neg (by simp[c0,c1,c2])];rfl)
 simp -dsimp[c2];and_intros;all_goals try first|rfl|omega|exact⟨by kernel_rfl⟩
 simp only[su,bZ]at h4;refine ah.of h4 [] 0 ?_;simp -dsimp;and_intros;all_goals try first|rfl|omega|exact⟨by kernel_rfl⟩
 refine ah.of h5 [] 0 ?_;rcases (Bool.eq_false_or_eq_true (aY g.rs r)).symm with c3|c3
 ·have vw:w=(zn,4):=hw1.trans (if_pos c3);simp -dsimp[c0,c3];and_intros;all_goals try first|rfl|omega|exact⟨by kernel_rfl⟩
  refine Fin.box (.o 8) rfl ?_;simp -dsimp;refine Fin.of ?_;simp[vw,nD,zn,bv]
 rw[if_neg (by simp[c3])]at hw1
 cases rt with
 | cons n rt=>
   have h6:=Tv g hs r n rt p;simp only[aH,xK,vH,ints,Pk.cs,List.map]at h6;simp only at hw1;generalize qP g r n rt p=o at h6 hw1;obtain⟨lC,fP,bP⟩:=o;simp only[nD]at h6;have hz :¬((rt.length:Int)+1=0):=by omega
   have hz2:(0:Int)<(rt.length:Int)+1:=by omega
   simp -dsimp[c0,c3,hz,hz2,ints,Pk.cs];and_intros;all_goals try first|rfl|omega|exact⟨by kernel_rfl⟩
   refine ah.of h6 [] 0 ?_;simp -dsimp[ints,Pk.cs];and_intros;all_goals try first|rfl|omega|exact⟨by kernel_rfl⟩
   refine Fin.box (.o 8) rfl ?_;simp -dsimp;refine Fin.of ?_;simp[hw1,nD]
 | nil=>
   simp only at hw1;cases hfd:bH l r with
   | none=>
     rw[hfd]at hw1
     simp only at hw1;simp -dsimp[c0,c3,hfd];and_intros;all_goals try first|rfl|omega|exact⟨by kernel_rfl⟩
     refine Fin.box (.o 8) rfl ?_;simp -dsimp;refine Fin.of ?_;simp[hw1,nD,zn,bv]
   | some b=>
     have hb:b.Sm:=hl.t b (List.mem_of_find?_eq_some hfd);have h7:=KN b hb p;have h8:=CP b p;rw[hfd]at hw1
     simp only at hw1;generalize jC b p=F at h7 h8 hw1;obtain⟨o,er⟩:=F;obtain⟨lC,fP,bP⟩:=o;simp only at h8 hw1;simp only[bZ,dX,Pk.cs,List.map,outT]at h7;simp -dsimp[c0,c3,hfd,Pk.cs];and_intros;all_goals try first|rfl|omega|exact⟨by kernel_rfl⟩
     refine ah.of h7 [] 0 ?_;by_cases c4:er=0
     case neg=>
      rw[if_pos c4]at hw1
      simp -dsimp[c4];and_intros;all_goals try first|rfl|omega|exact⟨by kernel_rfl⟩
      refine Fin.box (.o 8) rfl ?_;simp -dsimp;refine Fin.of ?_;simp[hw1,nD,zn,bv]
     rw[if_neg (by simp[c4])]at hw1
     simp -dsimp[c4];and_intros;all_goals try first|rfl|omega|exact⟨by kernel_rfl⟩
     refine aN.of [] (fun k=>k==0||k==1||k==2||k==3||k==4||k==7||k==8||k==9||k==10||k==11||k==12||k==13||k==14||k==15||k==16||k==17||k==30||k==51||k==56||k==69||k==81||k==95) (ι:={i:Nat // i≤bP.length})
      (fun z=>[(Pl.o 4,It.box [TV.d (.sl (rts g.rs)),TV.d (.sl (dO g.ls))]),(Pl.s 4,It.v (.ptr (Pl.o 4) 0)),(Pl.s 2,It.v (.d (.int .i64 r))),
       (Pl.o 8,It.box [TV.d (.int .u64 0),TV.d (.int .u64 0),TV.c (.slice none 0 0)]),(Pl.s 8,It.v (.ptr (Pl.o 8) 0)),(Pl.s 9,It.v (.d (.int .i64 0))),
       (Pl.o 14,It.box [TV.d (bv lC),TV.d (bv ((bP.take z.1).foldl (wG g r) ⟨lC,fP,[]⟩).lost),TV.aB 70 ((bP.take z.1).foldl (wG g r) ⟨lC,fP,[]⟩).g_.length]),(Pl.s 14,It.v (.ptr (Pl.o 14) 0)),
       (Pl.o 70,It.row 29 12 (dd (((bP.take z.1).foldl (wG g r) ⟨lC,fP,[]⟩).g_.map n_)) false),
       (Pl.o 12,It.box [TV.d (bv lC),TV.d (bv fP),TV.d (.sl (bP.map DI))]),(Pl.s 12,It.v (.ptr (Pl.o 12) 0)),(Pl.s 15,It.v (.d (.int .i64 z.1)))])
      (fun z=>bP.length-z.1) ⟨0,by omega⟩ ?_ ?_
     ·exact GS.gq (.o 14) 2 70 (cs:=[.d (bv lC),.d (bv fP),.c (.slice none 0 0)]) 29 12 (by simp) (by simp[bv]) (by simp) (by simp) (by simp[bv])
     ·rintro⟨i,i1⟩;have hcl:=Qz g r (bP.take i) ⟨lC,fP,[]⟩;rw[List.length_take]at hcl
      simp only[List.length_nil]at hcl;have hO:=(wH g r (bP.take i) ⟨lC,fP,[]⟩).1;by_cases hi:i<bP.length
      ·have hiz:(i:Int)<bP.length:=by omega
       have hx:bP[i]? = some bP[i]:=List.getElem?_eq_getElem hi;have ht:=Es (g:=g) (r:=r) hx ⟨lC,fP,[]⟩;have w1:IntKind.i64.wrap ((i:Int)+1)=(i:Int)+1:=wrap_i64 (by omega) (by omega);generalize bP[i]=c at hx ht;generalize (bP.take i).foldl (wG g r) ⟨lC,fP,[]⟩ = S at hcl hO ht⊢;obtain⟨Sl,So,Sc⟩:=S;simp only at hcl hO;obtain⟨c1,c2⟩:=c
       have hsd:=AV g hs r (c1,⟨[],c2⟩);simp only[aH,JX,n_,ints,Pk.cs,List.map]at hsd;cases hv:jZ g r (c1,c2)with
       | none=>
         rw[O5 hv]at ht
         simp only[hv,Option.getD_none,Option.isSome_none,Uu,Bh]at hsd;simp -dsimp[hiz,hx,DI,Pk.cs,bv];and_intros;all_goals try first|omega|exact⟨by kernel_rfl⟩|rfl
         refine ah.of hsd [] 0 ?_;simp -dsimp[hiz,hx,DI,Pk.cs,w1,bv];and_intros;all_goals try first|omega|exact⟨by kernel_rfl⟩|rfl
         exact⟨⟨i+1,by omega⟩,GS.to (by simp[ht,bv]),by simp;omega⟩
       | some x=>
         rw[O6 hv]at ht
         obtain⟨x1,⟨xr,x2⟩⟩:=x;simp only[hv,Option.getD_some,Option.isSome_some]at hsd;simp -dsimp[hiz,hx,DI,Pk.cs,bv];and_intros;all_goals try first|omega|exact⟨by kernel_rfl⟩|rfl
         refine ah.of hsd [] 0 ?_;simp -dsimp[hiz,hx,DI,Pk.cs,w1,bv];and_intros;all_goals try first|omega|exact⟨by kernel_rfl⟩|rfl
         exact⟨⟨i+1,by omega⟩,GS.to (by simp[ht,bv,n_,ints,Pk.cs]),by simp;omega⟩
      ·have hiz :¬(i:Int)<bP.length:=by omega
       rw[List.take_of_length_le (show bP.length≤i by omega)]at hcl hO⊢
       generalize bP.foldl (wG g r) ⟨lC,fP,[]⟩ = S at hcl hO hw1⊢;obtain⟨Sl,So,Sc⟩:=S;simp only at hO;subst hO;simp -dsimp[hiz];and_intros;all_goals try first|rfl|omega|exact⟨by kernel_rfl⟩
       refine Fin.box (.o 8) rfl ?_;simp -dsimp;refine Fin.of ?_;simp[hw1,nD,bv]
theorem Z8{g:ay}{l:List Tb}{p:Pk}{r:Int}(h1:nR l=0)(h2:p.ok=true)(h3:aY g.rs r=true):lK l p r=EC g l p r:=by
 unfold lK nK EC;rw[if_neg (by simp[h1,h2])];cases bH l r with
 | none=>rfl
 | some b=>
   simp only;rw[if_neg (show ¬aY g.rs r=false by simp[h3])];split
   ·rfl
   ·split<;>rfl
theorem ahA(g:ay)(hs:g.Sm)(l:List Tb)(hl:DL l)(p:Pk)(r:Int):
  Contract Tryz.prog 42 [aH g,.d (.sl (oq l)),dX p,.d (.int .i64 r)] [] (.rG [qG (mZ g l p r).1,.d (.int .i64 (mZ g l p r).2)]) [] []:=by
 have h1:=oz g hs.r hs.l;have h2:=tZ l hl;have h3:=o9 p;have h4:=sG g hs r;have h5:=Ig l hl p r;simp only[aH]at h1 h4;simp only[dX,Pk.cs,List.map]at h3 h5;obtain⟨w,hw⟩:∃w,w=mZ g l p r:=⟨_,rfl⟩
 rw[←hw];have hw0:=hw;unfold mZ at hw;rw[xW]at hw0
 refine aj Tryz.func42 rfl (fun E0=>?_);refine cO.sound (g:=.mk) (ow:=[49,1000119]) (kp:=(fun k=>k==0||k==1||k==2||k==3||k==4||k==6||k==8||k==9||k==10||k==11||k==12||k==13||k==14||k==15||k==16||k==17||k==30||k==35||k==42||k==53||k==75)) ?_;rw[Tryz.ntmps42];simp -dsimp[aH,dX,Pk.cs];refine ah.of h1 [] 0 ?_;by_cases c0:cZ g=0
 case neg=>
  rw[if_pos (.inl c0)]at hw
  simp -dsimp[c0];and_intros;all_goals try first|rfl|omega|exact⟨by kernel_rfl⟩
  refine Fin.box (.o 8) rfl ?_;simp -dsimp;refine Fin.of ?_;simp[hw,qG,gX]
 simp -dsimp[c0];and_intros;all_goals try first|rfl|omega|exact⟨by kernel_rfl⟩
 refine ah.of h2 [] 0 ?_;by_cases c1:nR l=0
 case neg=>
  rw[if_pos (.inr (.inl c1))]at hw
  simp -dsimp[c1];and_intros;all_goals try first|rfl|omega|exact⟨by kernel_rfl⟩
  refine Fin.box (.o 8) rfl ?_;simp -dsimp;refine Fin.of ?_;simp[hw,qG,gX]
 simp -dsimp[c1,Pk.cs];and_intros;all_goals try first|rfl|omega|exact⟨by kernel_rfl⟩
 refine ah.of h3 [] 0 ?_;rcases (Bool.eq_false_or_eq_true p.ok).symm with c2|c2
 ·rw[if_pos (.inr (.inr c2))]at hw
  simp -dsimp[c2];and_intros;all_goals try first|rfl|omega|exact⟨by kernel_rfl⟩
  refine Fin.box (.o 8) rfl ?_;simp -dsimp;refine Fin.of ?_;simp[hw,qG,gX]
 rw[if_neg (show ¬(cZ g≠0∨nR l≠0∨p.ok=false) by simp[c0,c1,c2])]at hw hw0
 simp only[c0,decide_true,Bool.true_and]at h4;simp -dsimp[c2];and_intros;all_goals try first|rfl|omega|exact⟨by kernel_rfl⟩
 refine ah.of h4 [] 0 ?_;rcases (Bool.eq_false_or_eq_true (aY g.rs r)).symm with c3|c3
 ·rw[if_pos c3]at hw
  simp -dsimp[c3];and_intros;all_goals try first|rfl|omega|exact⟨by kernel_rfl⟩
  refine Fin.box (.o 8) rfl ?_;simp -dsimp;refine Fin.of ?_;simp[hw,qG,gX]
 rw[Z8 c1 c2 c3]at h5
 clear hw;generalize EC g l p r=sv at h5 hw0;simp -dsimp[c3,Pk.cs];and_intros;all_goals try first|rfl|omega|exact⟨by kernel_rfl⟩
 refine ah.of h5 [] 0 ?_;by_cases c4:sv=0
 case neg=>
  rw[if_neg c4]at hw0
  simp -dsimp[c4];and_intros;all_goals try first|rfl|omega|exact⟨by kernel_rfl⟩
  refine Fin.box (.o 8) rfl ?_;simp -dsimp;refine Fin.of ?_;simp[hw0,qG,gX]
 rw[if_pos c4]at hw0
 obtain⟨u,hu⟩:∃u,u=runT g l r p:=⟨_,rfl⟩
 rw[←hu]at hw0
 have hwt:=Le c2;have MH:tH [(r,⟨[],p⟩)]=PX ⟨[],p⟩:=by simp[tH]
 unfold runT at hu;obtain⟨n0,hn0⟩:∃n0,n0=PX ⟨[],p⟩:=⟨_,rfl⟩
 rw[←hn0]at hwt MH hu
 simp -dsimp[c4,Pk.cs];and_intros;all_goals try first|rfl|omega|exact⟨by kernel_rfl⟩
 refine aN.of [49,1000119] (fun k=>k==0||k==1||k==2||k==3||k==4||k==6||k==8||k==9||k==10||k==11||k==12||k==13||k==14||k==15||k==16||k==17||k==30||k==35||k==42||k==53||k==75) (ι:={z:Nat×Nat×List (Int×Fr)×dQ // u=pR g l z.1 (z.2.2.1.drop z.2.1) z.2.2.2∧tH (z.2.2.1.drop z.2.1)≤z.1∧z.2.1+z.1≤211330∧z.2.1≤z.2.2.1.length∧(∀q∈z.2.2.1.drop z.2.1,q.2.rt.length≤24)∧z.2.2.2.dl.length+64*z.1≤20000000∧z.2.2.2.cr.length+64*z.1≤20000000∧z.2.2.2.ls.length+z.1≤20000000})
  (fun z=>[(Pl.s 1,It.v (.d (.sl (oq l)))),(Pl.o 4,It.box [TV.d (.sl (rts g.rs)),TV.d (.sl (dO g.ls))]),(Pl.s 4,It.v (.ptr (.o 4) 0)),(Pl.o 8,It.box [TV.c (Value.slice none 0 0),TV.c (Value.slice none 0 0),TV.c (Value.slice none 0 0)]),(Pl.s 8,It.v (.ptr (Pl.o 8) 0)),(Pl.s 9,It.v (.d (.int .i64 0))),
   (Pl.o 12,It.box [TV.aB 70 z.1.2.2.2.dl.length,TV.aB 71 z.1.2.2.2.cr.length,TV.aB 72 z.1.2.2.2.ls.length]),(Pl.s 12,It.v (.ptr (Pl.o 12) 0)),
   (Pl.o 70,It.row 92 11 (dd (z.1.2.2.2.dl.map lT)) false),(Pl.o 71,It.row 96 3 (dd (z.1.2.2.2.cr.map lJ)) false),(Pl.o 72,It.row 176 2 (dd (z.1.2.2.2.ls.map qO)) false),
   (Pl.o 49,It.row 29 12 (dd (z.1.2.2.1.map n_)) false),(Pl.s 11,It.v (.aB 49 z.1.2.2.1.length)),(Pl.s 13,It.v (.d (.int .i64 z.1.2.1)))])
  (fun z=>z.1.1) ⟨(n0,0,[(r,⟨[],p⟩)],gX),hu,by simp only[List.drop_zero,MH];omega,by simp only;omega,by simp,by simp,by simp[gX];omega,by simp[gX];omega,by simp[gX];omega⟩ ?_ ?_
 ·refine(GS.PL (.o 12) 0 70 (cs:=[.c (.slice none 0 0),.c (.slice none 0 0),.c (.slice none 0 0)]) 92 11 (by simp) (by simp) (by simp) (by simp)).trans ?_;simp only[iI,Pl.o.injEq,reduceCtorEq,if_false,if_true,Nat.reduceEqDiff,List.set];refine(GS.PL (.o 12) 1 71 (cs:=[.aB 70 0,.c (.slice none 0 0),.c (.slice none 0 0)]) 96 3 (by simp) (by simp) (by simp) (by simp)).trans ?_
  simp only[iI,Pl.o.injEq,reduceCtorEq,if_false,if_true,Nat.reduceEqDiff,List.set];exact GS.gq (.o 12) 2 72 (cs:=[.aB 70 0,.aB 71 0,.c (.slice none 0 0)]) 176 2 (by simp) (by simp) (by simp) (by simp) (by simp[gX,n_,ints,Pk.cs])
 ·rintro⟨⟨n,i,Q,t⟩,i1,i2,i3,i4,i5,i6,i7,i8⟩;simp only at i1 i2 i3 i4 i5 i6 i7 i8;by_cases hi:i<Q.length
  case neg=>
   have hiz :¬(i:Int)<Q.length:=by omega
   have hd:Q.drop i = []:=List.drop_eq_nil_of_le (by omega);rw[hd,lN]at i1
   simp -dsimp[hiz];and_intros;all_goals try first|rfl|omega|exact⟨by kernel_rfl⟩
   refine Fin.box (.o 8) rfl ?_;simp -dsimp;refine Fin.of ?_;simp[hw0,qG,i1]
  have hiz:(i:Int)<Q.length:=by omega
  have hg:Q[i]? = some Q[i]:=List.getElem?_eq_getElem hi;have hd:Q.drop i=Q[i]::Q.drop (i+1):=List.drop_eq_getElem_cons hi;generalize Q[i]=q at hg hd;rw[hd]at i1 i2 i5
  rw[tq]at i2
  have hq:=yY g l q;have hnl:=yh g l q;have hnr:=SX (g:=g) (l:=l) (i5 q (by simp));have hQl:=xC (Q.drop (i+1));rw[List.length_drop]at hQl
  have hw1:1≤PX q.2:=by unfold PX;omega
  obtain⟨n,rfl⟩:∃j,n=j+1:=⟨n-1,by omega⟩
  rw[pR,Ue]at i1
  have hst:=FK g hs l hl q.1 q.2 (by have:=i5 q (by simp);omega);have XK:iD g l q=if(iZ g l q.1 q.2).2=0 then(iZ g l q.1 q.2).1 else ⟨0#64,q.2.pk.bits,[]⟩:=rfl
  have hnX:eP g l q=(iD g l q).g_:=rfl;rw[hnX]at i1 hq hnl hnr
  generalize iZ g l q.1 q.2=S at hst XK;obtain⟨⟨lC,fP,bP⟩,er⟩:=S;obtain⟨q1,⟨qr,q2⟩⟩:=q;simp only[aH,xK,vH,ints,Pk.cs,List.map,nD,bv]at hst;simp only at XK i2 hq hw1 hnr i1;have hgr:(dd (Q.map n_))[i]? = some (TV.d (.int .i64 q1)::TV.d (ints qr)::q2.cs.map .d):=by simp[dd,hg,n_]
  simp only[ints,Pk.cs,List.map,bv]at hgr;have step:∀(o:Ox) (Q':List (Int×Fr)) (i':Int),GS {E0:=E0,N:=91}
    (Tr.look [(Pl.s 1,It.v (.d (.sl (oq l)))),(Pl.o 4,It.box [TV.d (.sl (rts g.rs)),TV.d (.sl (dO g.ls))]),(Pl.s 4,It.v (.ptr (.o 4) 0)),(Pl.o 8,It.box [TV.c (Value.slice none 0 0),TV.c (Value.slice none 0 0),TV.c (Value.slice none 0 0)]),(Pl.s 8,It.v (.ptr (Pl.o 8) 0)),(Pl.s 9,It.v (.d (.int .i64 0))),
     (Pl.o 12,It.box [TV.aB 1900 (rP t q1 q2 o).dl.length,TV.aB 1901 (rP t q1 q2 o).cr.length,TV.aB 1902 (rP t q1 q2 o).ls.length]),(Pl.s 12,It.v (.ptr (Pl.o 12) 0)),
     (Pl.o 1900,It.row 92 11 (dd ((rP t q1 q2 o).dl.map lT)) false),(Pl.o 1901,It.row 96 3 (dd ((rP t q1 q2 o).cr.map lJ)) false),(Pl.o 1902,It.row 176 2 (dd ((rP t q1 q2 o).ls.map qO)) false),
     (Pl.o 49,It.row 29 12 (dd (Q'.map n_)) false),(Pl.s 11,It.v (.aB 49 Q'.length)),(Pl.s 13,It.v (.d (.int .i64 i')))])
    (Tr.look [(Pl.s 1,It.v (.d (.sl (oq l)))),(Pl.o 4,It.box [TV.d (.sl (rts g.rs)),TV.d (.sl (dO g.ls))]),(Pl.s 4,It.v (.ptr (.o 4) 0)),(Pl.o 8,It.box [TV.c (Value.slice none 0 0),TV.c (Value.slice none 0 0),TV.c (Value.slice none 0 0)]),(Pl.s 8,It.v (.ptr (Pl.o 8) 0)),(Pl.s 9,It.v (.d (.int .i64 0))),
     (Pl.o 12,It.box [TV.aB 70 (rP t q1 q2 o).dl.length,TV.aB 71 (rP t q1 q2 o).cr.length,TV.aB 72 (rP t q1 q2 o).ls.length]),(Pl.s 12,It.v (.ptr (Pl.o 12) 0)),
     (Pl.o 70,It.row 92 11 (dd ((rP t q1 q2 o).dl.map lT)) false),(Pl.o 71,It.row 96 3 (dd ((rP t q1 q2 o).cr.map lJ)) false),(Pl.o 72,It.row 176 2 (dd ((rP t q1 q2 o).ls.map qO)) false),
     (Pl.o 49,It.row 29 12 (dd (Q'.map n_)) false),(Pl.s 11,It.v (.aB 49 Q'.length)),(Pl.s 13,It.v (.d (.int .i64 i')))]):=fun o Q' i'=>by
   refine GS.trans (GS.ren (a:=1900) (b:=70) (by decide) (by rw[Tr.zU];simp)) ?_;rw[iO (by decide) (by simp)];refine GS.trans (GS.ren (a:=1901) (b:=71) (by decide) (by rw[Tr.zU];simp)) ?_;rw[iO (by decide) (by simp)];exact GS.ren' 1902 72 (by decide) (by simp) (by simp)
  have rest:∀o:Ox,o=iD g l (q1,⟨qr,q2⟩)→
    ∃j :{z:Nat×Nat×List (Int×Fr)×dQ // u=pR g l z.1 (z.2.2.1.drop z.2.1) z.2.2.2∧tH (z.2.2.1.drop z.2.1)≤z.1∧z.2.1+z.1≤211330∧z.2.1≤z.2.2.1.length∧(∀q∈z.2.2.1.drop z.2.1,q.2.rt.length≤24)∧z.2.2.2.dl.length+64*z.1≤20000000∧z.2.2.2.cr.length+64*z.1≤20000000∧z.2.2.2.ls.length+z.1≤20000000},j.1=(n,i+1,Q++o.g_,rP t q1 q2 o):=fun o ho=>by
   subst ho;have hdrop:(Q++(iD g l (q1,⟨qr,q2⟩)).g_).drop (i+1)=Q.drop (i+1)++(iD g l (q1,⟨qr,q2⟩)).g_:=List.drop_append_of_le_length (by omega);have hlv:(Au q1 (iD g l (q1,⟨qr,q2⟩)) q2).length≤64:=by unfold Au nI;rw[List.length_map];exact iT _
   refine⟨⟨(n,i+1,Q++(iD g l (q1,⟨qr,q2⟩)).g_,rP t q1 q2 (iD g l (q1,⟨qr,q2⟩))),by simp only[hdrop];exact i1,by simp only[hdrop,xI];omega,by simp only;omega,by simp only[List.length_append];omega,?_,?_,?_,?_⟩,rfl⟩
   ·intro q hq;simp only[hdrop]at hq;rcases List.mem_append.1 hq with hq|hq
    ·exact i5 q (by simp[hq])
    ·exact hnr q hq
   ·simp only[rP,List.length_append];omega
   ·simp only[rP,List.length_append,List.length_map];omega
   ·simp only[rP];split<;>(try simp only[List.length_append,List.length_cons,List.length_nil])<;>omega
  simp -dsimp[hiz,hgr];and_intros;all_goals try first|omega|exact⟨by kernel_rfl⟩|rfl
  refine ah.of hst [] 0 ?_;by_cases her:er=0
  case neg=>
   rw[if_neg her]at XK
   obtain⟨jj,hjj⟩:=rest ⟨0#64,q2.bits,[]⟩ XK.symm;have hnt:=ab2 t (by omega) (by omega) (by omega) q1 q2 ⟨0#64,q2.bits,[]⟩ (by simp);simp only[dX,Pk.cs,List.map,nD,wE,bv]at hnt;simp -dsimp[her];and_intros;all_goals try first|omega|exact⟨by kernel_rfl⟩|rfl
   refine ah.view [84] ?_;simp -dsimp;and_intros;all_goals try first|rfl|omega|exact⟨by kernel_rfl⟩
   refine ah.of2 hnt [] [(900,70),(901,71),(902,72)] 1000 ?_;simp -dsimp[bv,wrap_i64 (n:=(i:Int)+1) (by omega) (by omega)];and_intros;all_goals try first|omega|exact⟨by kernel_rfl⟩|rfl
   refine⟨jj,?_,by rw[hjj];simp⟩;rw[hjj];refine GS.trans (GS.to ?_) (step ⟨0#64,q2.bits,[]⟩ (Q++[]) (((i+1:Nat)):Int));clear hjj step rest hnt hst hq hnr i1 i2 XK;generalize rP t q1 q2 ⟨0#64,q2.bits,[]⟩ = NT;simp
  rw[if_pos her]at XK
  obtain⟨jj,hjj⟩:=rest ⟨lC,fP,bP⟩ XK.symm;rw[XK]at hnl
  simp only at hnl;have hnt:=ab2 t (by omega) (by omega) (by omega) q1 q2 ⟨lC,fP,bP⟩ (by simp only;omega);simp only[dX,Pk.cs,List.map,nD,wE,bv]at hnt;have hdl:dLen 12 (bP.map n_):=iF 12 _ _ fun _=>rfl
  simp -dsimp[her];and_intros;all_goals try first|omega|exact hdl|exact⟨by kernel_rfl⟩|rfl
  refine ah.of2 hnt [] [(900,70),(901,71),(902,72)] 1000 ?_;simp -dsimp[bv,wrap_i64 (n:=(i:Int)+1) (by omega) (by omega)];and_intros;all_goals try first|omega|exact hdl|exact⟨by kernel_rfl⟩|rfl
  refine⟨jj,?_,by rw[hjj];simp⟩;rw[hjj];refine GS.trans (GS.to ?_) (step ⟨lC,fP,bP⟩ (Q++bP) (((i+1:Nat)):Int));clear hjj step rest hnt hst hq hnr i1 i2 XK;generalize rP t q1 q2 ⟨lC,fP,bP⟩ = NT;simp
end Go.Proofs
