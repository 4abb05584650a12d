/-
  What functions of the program compute, stated as contracts over plain data; the conditions of each stand in its own statement.
-/
import Derived.Test.YtkikielfhjoogaaGreatDoorZA25
import Derived.Test.YtkikielfhjoogaaGreatDoorZA29
import Derived.Test.YtkikielfhjoogaaGreatDoorZA34
import Derived.Test.YtkikielfhjoogaaGreatDoorZA33
import Derived.Test.YtkikielfhjoogaaGreatDoorZA14
set_option linter.unusedSimpArgs false
set_option linter.unusedVariables false
set_option maxRecDepth 100000
set_option maxHeartbeats 16000000
namespace Go.Proofs
open Go Go.Tr
@[simp]theorem agZ(T:Tp):∀i:Nat,iD (sO T i).1=iD T
 | 0=>rfl
 | i+1=>by simp only[sO,adC];exact agZ T i
@[simp]theorem aeh(T:Tp):∀i:Nat,iD (qL T i).1=iD T
 | 0=>rfl
 | i+1=>by have ih:=aeh T i;simp only[qL];split<;>simp[ih]
@[simp]theorem aee(n:Nat)(T:Tp)(M:Mx):∀i:Nat,iD (oH n T M i).1=iD T
 | 0=>rfl
 | i+1=>by have ih:=aee n T M i;simp only[oH,SK,ih]
@[simp]theorem anY(flat:Bool)(x y:Int)(T:Tp):iD (FC flat x y T).2=iD T:=by unfold FC;simp only;split<;>simp
theorem Yp(flat:Bool)(rs:List Rt):∀(ps:List (Nat×Nat)) (s:List Lk×Tp),iD (ps.foldl (BD flat rs) s).2=iD s.2
 | [],_=>rfl
 | q::ps,s=>by rw[bV,Yp flat rs ps];simp[BD]
@[simp]theorem ag1(flat:Bool)(rs:List Rt)(M:Mx)(T:Tp)(n a b:Nat):iD (wQ flat rs M T n a b).2=iD T:=Yp _ _ _ _
@[simp]theorem ao7(a b:Nat)(T:Tp):xw a b (kH T)=kH T:=by simp[kH,P_,TV.vH,TV.ren]
def mrow(M:Mx)(n i:Nat):List (List D):=(List.range n).map fun j=>[.bool (M i j)]
def EH(n i:Nat):List (List TV):=(List.range n).map fun j=>if j<i then [TV.aW (9000+j) n]else [TV.c (Value.slice none 0 0)]
theorem aoK(n a:Nat):List.replicate n [TV.d (.bool false)]=dd (mrow (fun _ _=>false) n a):=by unfold mrow dd;rw[aY];refine lQ (by simp) fun j h1 h2=>by simp
theorem Io(M:Mx)(n a:Nat):(mrow M n a).length=n:=by simp[mrow]
theorem X5(M:Mx)(n a b:Nat):(dd (mrow M n a)).set b [TV.d (.bool true)]=dd (mrow (O8 M a b) n a):=by
 unfold mrow dd;refine lQ (by simp) fun j h1 h2=>?_
 simp only[List.getElem_set,jv,List.getElem_range];by_cases e:b=j
 ·subst e;simp[O8]
 ·rw[if_neg e];have :¬j=b:=fun g=>e g.symm
  simp[O8,this]
theorem O7(M:Mx)(n:Nat){a b j:Nat}(h :¬j=a):mrow (O8 M a b) n j=mrow M n j:=by unfold mrow O8;simp[h]
theorem yj(n i:Nat):(EH n i).length=n:=by simp[EH]
theorem ad_(n:Nat):List.replicate n [TV.c (Value.slice none 0 0)]=EH n 0:=by unfold EH;refine lQ (by simp) fun j h1 h2=>by simp
theorem agV{n i:Nat}(h:i<n):((EH n i).set i [TV.aW 49 n]).map (TV.vH 49 (9000+i))=EH n (i+1):=by
 unfold EH;refine lQ (by simp) fun j h1 h2=>?_
 simp only[jv,List.getElem_set,List.getElem_range];by_cases e:i=j
 ·subst e;simp[TV.vH,TV.ren,uo]
 ·rw[if_neg e];by_cases g:j<i
  ·rw[if_pos g,if_pos (by omega)];have :¬9000+j=49:=by omega
   simp[TV.vH,TV.ren,uo,this]
  ·rw[if_neg g,if_neg (by omega)];simp[TV.vH,TV.ren]
theorem Ij{n i j:Nat}(h:j<(EH n i).length):(EH n i)[j]=if j<i then [TV.aW (9000+j) n]else [TV.c (Value.slice none 0 0)]:=by simp[EH]
theorem nJ{po:Nat→Prop}{n i:Nat}:lH po (EH n i)↔∀j,j<n→j<i→po (9000+j):=by
 simp only[lH];constructor
 ·intro h j h1 h2;have:=h _ (ak.2 ⟨j,bI.2 h1,rfl⟩);rw[if_pos h2]at this
  simpa[TV.rJ,TV.only]using this
 ·intro h e he;obtain⟨j,hj,rfl⟩:=ak.1 he;have:=h j (bI.1 hj);split
  ·rename_i g;simp[TV.rJ,TV.only,this g]
  ·simp[TV.rJ,TV.only]
theorem G6{M:Mx}{n a j:Nat}(h:j<(dd (mrow M n a)).length):(dd (mrow M n a))[j] = [TV.d (.bool (M a j))]:=by simp[mrow,dd]
theorem ai0{rs:List Rt}{a:Nat}(h:a<(dd (rts rs)).length):(dd (rts rs))[a] = [TV.d (.int .i64 (rid rs a)),TV.d (.bool (rs.getD a ⟨0,false⟩).cap)]:=by
 have h2:a<rs.length:=by simpa[dd,rts]using h
 simp[dd,rts,Rt.cs,rid,List.getD,h2]
theorem ag0{flat:Bool}{rs:List Rt}{M:Mx}{T:Tp}{n a b:Nat}:(wQ flat rs M T n a b).1.length≤a*n+b:=by
 have h:∀(ps:List (Nat×Nat)) (s:List Lk×Tp),(ps.foldl (BD flat rs) s).1.length=s.1.length+ps.length:=by
  intro ps
  induction ps with
  | nil=>intro s;simp
  | cons q ps ih=>intro s;rw[bV,ih];simp[BD];omega
 rw[wQ,h];have h1:=ajP M n a;have h2:=Yy M a b;have e:(QJ M n a b).length=(QJ M n a 0).length+(rowP M a b).length:=by simp[QJ,rowP]
 simp only[dh];omega
theorem ag7(T:Tp)(hT:iD T)(most:Int)(hm:1≤most∧most≤8):Contract Tryz.prog 18 [.ptr (.x 0) 0,.d (.int .i64 most)] [kH T] (eU (qK T most).1) [kH (qK T most).2] []:=by
 refine ay Tryz.func18 rfl (fun E0=>?_);refine iC.sound (g:=.mk) (ow:=[]) (kp:=(kb 0x20000807380010020008401c000107fff3)) ?_;rw[Tryz.ntmps18];simp -dsimp;have a1:=uD T 1 most
 have a2:=uz T (a:=1) (b:=most) (by omega);refine aI.of (P8 T hT 1 most ⟨by omega,by omega⟩ ⟨by omega,by omega⟩ ⟨by omega,by omega⟩ ⟨by omega,by omega⟩) [.x 0] 0 ?_;have kR:iD (ji T 1 most).2:=by simpa using hT
 have hG:qK T most=(⟨(iJ T most).rs,(wQ (iJ T most).flat (iJ T most).rs (iJ T most).M2 (iJ T most).T4 (iJ T most).n (iJ T most).n 0).1⟩,(wQ (iJ T most).flat (iJ T most).rs (iJ T most).M2 (iJ T most).T4 (iJ T most).n (iJ T most).n 0).2):=rfl;rw[hG];have hP:iJ T most=iJ T most:=rfl
 conv at hP=>rhs;unfold iJ
 generalize iJ T most=P at hP⊢;generalize ji T 1 most=R at a1 a2 kR hP⊢;obtain⟨n',T1⟩:=R;simp only at a1 a2 kR hP⊢;obtain⟨n,rfl⟩:∃n:Nat,n'=n:=⟨n'.toNat,by omega⟩
 simp only[iL]at hP;subst hP;simp only;simp -dsimp;refine dD.of [] (kb 0x20000807380010020008401c000107fff3) (ι:={i:Nat // i≤n})
  (fun z=>[(.s 0,It.v (.ptr (.x 0) 0)),(.s 1,It.v (.d (.int .i64 most))),(.o 4,It.box [TV.c (Value.slice none 0 0),TV.c (Value.slice none 0 0)]),(.s 4,It.v (.ptr (.o 4) 0)),(.s 5,It.v (.d (.int .i64 n))),(.x 0,kH (sO T1 z.1).1),(.o 6,It.box [TV.aW 600 z.1,TV.c (Value.slice none 0 0)]),(.s 6,It.v (.ptr (.o 6) 0)),(.o 600,It.row 78 2 (dd (rts (sO T1 z.1).2.2)) false),(.s 7,It.v (.d (.int .i64 (sO T1 z.1).2.1))),(.s 8,It.v (.d (.int .i64 z.1)))])
  (fun z=>n-z.1) ⟨0,by omega⟩ ?_ ?_
 ·exact GS.Df (.o 6) 0 600 (cs:=[TV.c (Value.slice none 0 0),TV.c (Value.slice none 0 0)]) 78 2 rfl (by simp) (by simp) (by simp) (by simp[sO,rts])
 rintro⟨i,i1⟩;have kI:iD (sO T1 i).1:=by simpa using kR
 obtain⟨b1,b2,b3,b4,b5⟩:=Vm T1 i;by_cases hi:i<n
 ·have hiz:(i:Int)<n:=by omega
  have hp:=Tc (sO T1 i).1;have hc:=M_ (sO T1 i).1 kI tZ (by simp[tZ]) (by simp[tZ]);have hs:sO T1 (i+1)=((m_ (sO T1 i).1 tZ).2,(sO T1 i).2.1+(m_ (sO T1 i).1 tZ).1,(sO T1 i).2.2++[⟨(sO T1 i).2.1+(m_ (sO T1 i).1 tZ).1,true⟩]):=rfl;generalize m_ (sO T1 i).1 tZ=w at hc hp hs;simp only[ints,tZ,List.map]at hc
  simp -dsimp[hiz];try refine⟨?_,⟨by kernel_rfl⟩⟩
  refine aI.of hc [.x 0] 0 ?_;simp -dsimp[b1,wrap_i64 (n:=(i:Int)+1) (by omega) (by omega),wrap_i64 (n:=(sO T1 i).2.1+w.1) (by omega) (by omega)];and_intros;all_goals try first|omega|exact⟨by kernel_rfl⟩|rfl|(simp[rts,b1];done)|(simp;omega)
  exact⟨⟨i+1,by omega⟩,GS.to (by simp[hs,rts,Rt.cs,b1]),by simp;omega⟩
 have hiz :¬(i:Int)<n:=by omega
 obtain rfl:n=i:=by omega
 simp -dsimp[hiz];and_intros;all_goals try first|omega|exact⟨by kernel_rfl⟩|rfl
 have kN:iD (sO T1 n).1:=kI;have hrl:(sO T1 n).2.2.length=n:=b1;have hT2:∀j,iD (qL (sO T1 n).1 j).1:=fun j=>by simpa using kN
 obtain⟨⟨T2,nR,rs⟩,hI⟩:∃I,sO T1 n=I:=⟨_,rfl⟩
 simp only[hI]at b1 b2 b3 b4 b5 kN hrl hT2⊢;refine dD.of [] (kb 0x20000807380010020008401c000107fff3) (ι:={i:Nat // i≤n})
  (fun z=>qw 9000 z.1 (fun _=>It.row 4 1 (List.replicate n [TV.d (.bool false)]) false) [(.s 0,It.v (.ptr (.x 0) 0)),(.s 1,It.v (.d (.int .i64 most))),(.o 4,It.box [TV.c (Value.slice none 0 0),TV.c (Value.slice none 0 0)]),(.s 4,It.v (.ptr (.o 4) 0)),(.s 5,It.v (.d (.int .i64 n))),(.x 0,kH T2),(.o 6,It.box [TV.aW 600 n,TV.c (Value.slice none 0 0)]),(.s 6,It.v (.ptr (.o 6) 0)),(.o 600,It.row 78 2 (dd (rts rs)) false),(.s 9,It.v (.aW 40 n)),(.o 40,It.row 157 1 (EH n z.1) false),(.s 42,It.v (.d (.int .i64 n))),(.s 43,It.v (.d (.int .i64 z.1)))])
  (fun z=>n-z.1) ⟨0,by omega⟩ ?_ ?_
 ·simp only[Ol];exact GS.to (by simp[ad_,nJ])
 ·rintro⟨i,i1⟩;by_cases hi:i<n
  ·have hiz:(i:Int)<n:=by omega
   simp -dsimp[hiz,hi,yj,Ij,wrap_i64 (n:=(i:Int)+1) (by omega) (by omega)];and_intros;all_goals try first|omega|exact⟨by kernel_rfl⟩|rfl
   refine⟨⟨i+1,by omega⟩,GS.ren' 49 (9000+i) (by omega) ?_ ⟨?_,?_⟩,by simp;omega⟩
   ·simp;omega
   ·simp only[Xl,Yu (show 49<9000 by omega),Ug,Yv];refine Sub.qw (fun j hj=>?_) ?_ (fun j hj=>?_) ?_
    ·simp[BN,Qa,uo,TV.ren,TV.vH,hj]
    ·simp[BN,Qa,ahN,P_,uo,TV.ren,TV.vH,agV hi,jS,jT]
    ·simp[IL]
    ·simp[nJ,IL];intro j _ hj;omega
   ·simp only[Xl,Yu (show 49<9000 by omega),Ug,Yv];simp[BN]
  have hiz :¬(i:Int)<n:=by omega
  obtain rfl:n=i:=by omega
  simp -dsimp[hiz];and_intros;all_goals try first|omega|exact⟨by kernel_rfl⟩|rfl
  refine dD.of [] (kb 0x20000807380010020008401c000107fff3) (ι:={i:Nat // i≤n-1})
   (fun z=>qw 9000 n (fun a=>It.row 4 1 (dd (mrow (qL T2 z.1).2 n a)) false) [(.s 0,It.v (.ptr (.x 0) 0)),(.s 1,It.v (.d (.int .i64 most))),(.o 4,It.box [TV.c (Value.slice none 0 0),TV.c (Value.slice none 0 0)]),(.s 4,It.v (.ptr (.o 4) 0)),(.s 5,It.v (.d (.int .i64 n))),(.x 0,kH (qL T2 z.1).1),(.o 6,It.box [TV.aW 600 n,TV.c (Value.slice none 0 0)]),(.s 6,It.v (.ptr (.o 6) 0)),(.o 600,It.row 78 2 (dd (rts rs)) false),(.s 9,It.v (.aW 40 n)),(.o 40,It.row 157 1 (EH n n) false),(.s 11,It.v (.d (.int .i64 ((z.1:Int)+1))))])
   (fun z=>n-z.1) ⟨0,by omega⟩ ?_ ?_
  ·refine GS.to ⟨?_,by simp⟩;refine Sub.qw (fun j hj=>?_) ?_ (fun j hj=>?_) ?_
   ·simp[hj,qL,aoK n j]
   ·simp[qL]
   ·simp
   ·simp[nJ];intro j hj;omega
  rintro⟨i,i1⟩;have kI2:=hT2 i;by_cases hi:i+1<n
  ·have hiz:(i:Int)+1<n:=by omega
   have kW:iD (eG (qL T2 i).1 12).2:=by simpa using kI2
   have hs:qL T2 (i+1)=if(eG (qL T2 i).1 12).1<11 then((eG (eG (qL T2 i).1 12).2 ((i:Int)+1)).2,O8 (qL T2 i).2 (eG (eG (qL T2 i).1 12).2 ((i:Int)+1)).1.toNat (i+1))else((eG (qL T2 i).1 12).2,(qL T2 i).2):=rfl
   have hc:=t_ (qL T2 i).1 kI2 12 ⟨by omega,by omega⟩;generalize eG (qL T2 i).1 12=w at kW hs hc;simp -dsimp[hiz];and_intros;all_goals try first|omega|exact⟨by kernel_rfl⟩|rfl
   refine aI.of hc [.x 0] 0 ?_;by_cases hw:w.1<11
   ·rw[if_pos hw]at hs
    have v1:=iT w.2 ((i:Int)+1);have v2:=l7 w.2 (n:=(i:Int)+1) (by omega);have hd:=t_ w.2 kW ((i:Int)+1) ⟨by omega,by omega⟩;generalize eG w.2 ((i:Int)+1)=v at v1 v2 hs hd;obtain⟨v',T3⟩:=v;simp only at v1 v2 hs hd;obtain⟨v,rfl⟩:∃v:Nat,v'=v:=⟨v'.toNat,by omega⟩
    have hvn:v<n:=by omega
    simp only[iL]at hs;have e1:((i:Int)+1).toNat=i+1:=by omega
    simp -dsimp[hw];and_intros;all_goals try first|omega|exact⟨by kernel_rfl⟩|rfl
    refine aI.of hd [.x 0] 0 ?_;simp -dsimp[hvn,hi,yj,Ij,G6,Io,e1,wrap_i64 (n:=(i:Int)+1+1) (by omega) (by omega)];and_intros;all_goals try first|omega|exact⟨by kernel_rfl⟩|rfl
    refine⟨⟨i+1,by omega⟩,GS.to ⟨?_,by simp⟩,by simp;omega⟩;refine Sub.qw (fun j hj=>?_) ?_ (fun j hj=>?_) ?_
    ·by_cases hjv:j=v
     ·subst hjv;simp[hj,hs,X5]
     ·simp[hj,hs,hjv,O7]
    ·simp[hs]
    ·simp
    ·simp[nJ];intro j hj;omega
   ·rw[if_neg hw]at hs
    simp -dsimp[hw,wrap_i64 (n:=(i:Int)+1+1) (by omega) (by omega)];and_intros;all_goals try first|omega|exact⟨by kernel_rfl⟩|rfl
    refine⟨⟨i+1,by omega⟩,GS.to ⟨?_,by simp⟩,by simp;omega⟩;refine Sub.qw (fun j hj=>?_) ?_ (fun j hj=>?_) ?_
    ·simp[hj,hs]
    ·simp[hs]
    ·simp
    ·simp[nJ];intro j hj;omega
  have hiz :¬(i:Int)+1<n:=by omega
  obtain rfl:n-1=i:=by omega
  simp -dsimp[hiz,wrap_i64 (n:=(n:Int)+2) (by omega) (by omega)];and_intros;all_goals try first|omega|exact⟨by kernel_rfl⟩|rfl
  have kT:iD (qL T2 (n-1)).1:=hT2 (n-1);obtain⟨⟨T3,M1⟩,hI3⟩:∃I,qL T2 (n-1)=I:=⟨_,rfl⟩
  have hc:=t_ (qL T2 (n-1)).1 kT ((n:Int)+2) ⟨by omega,by omega⟩;simp only[hI3]at kT hc⊢;have q1:=iT T3 ((n:Int)+2);have q2:=l7 T3 (n:=(n:Int)+2) (by omega);have kQ:iD (eG T3 ((n:Int)+2)).2:=by simpa using kT
  obtain⟨⟨K',T4⟩,hI4⟩:∃I,eG T3 ((n:Int)+2)=I:=⟨_,rfl⟩
  simp only[hI4]at q1 q2 kQ hc⊢;obtain⟨K,rfl⟩:∃K:Nat,K'=K:=⟨K'.toNat,by omega⟩
  try simp only[iL]
  refine aI.of hc [.x 0] 0 ?_;simp -dsimp;and_intros;all_goals try first|omega|exact⟨by kernel_rfl⟩|rfl
  refine dD.of [] (kb 0x20000807380010020008401c000107fff3) (ι:={i:Nat // i≤K})
   (fun z=>qw 9000 n (fun a=>It.row 4 1 (dd (mrow (oH n T4 M1 z.1).2 n a)) false) [(.s 0,It.v (.ptr (.x 0) 0)),(.s 1,It.v (.d (.int .i64 most))),(.o 4,It.box [TV.c (Value.slice none 0 0),TV.c (Value.slice none 0 0)]),(.s 4,It.v (.ptr (.o 4) 0)),(.s 5,It.v (.d (.int .i64 n))),(.x 0,kH (oH n T4 M1 z.1).1),(.o 6,It.box [TV.aW 600 n,TV.c (Value.slice none 0 0)]),(.s 6,It.v (.ptr (.o 6) 0)),(.o 600,It.row 78 2 (dd (rts rs)) false),(.s 9,It.v (.aW 40 n)),(.o 40,It.row 157 1 (EH n n) false),(.s 12,It.v (.d (.int .i64 ((K:Int)-z.1))))])
   (fun z=>K-z.1) ⟨0,by omega⟩ ?_ ?_
  ·refine GS.to ⟨?_,by simp⟩;refine Sub.qw (fun j hj=>?_) ?_ (fun j hj=>?_) ?_
   ·simp[hj,oH,hI3]
   ·simp[oH,hI3]
   ·simp
   ·simp[nJ];intro j hj;omega
  rintro⟨i,i1⟩;have kI3:iD (oH n T4 M1 i).1:=by simpa using kQ
  by_cases hi:i<K
  ·have hiz:(0:Int)<(K:Int)-i:=by omega
   have hs:oH n T4 M1 (i+1)=((eG (eG (oH n T4 M1 i).1 n).2 n).2,if(eG (oH n T4 M1 i).1 n).1=(eG (eG (oH n T4 M1 i).1 n).2 n).1 then(oH n T4 M1 i).2 else O8 (oH n T4 M1 i).2 (min (eG (oH n T4 M1 i).1 n).1 (eG (eG (oH n T4 M1 i).1 n).2 n).1).toNat (max (eG (oH n T4 M1 i).1 n).1 (eG (eG (oH n T4 M1 i).1 n).2 n).1).toNat):=rfl
   have hc:=t_ (oH n T4 M1 i).1 kI3 n ⟨by omega,by omega⟩;have kA:iD (eG (oH n T4 M1 i).1 n).2:=by simpa using kI3
   have v1:=iT (oH n T4 M1 i).1 n;have v2:=l7 (oH n T4 M1 i).1 (n:=n) (by omega);generalize eG (oH n T4 M1 i).1 n=a at kA v1 v2 hs hc;obtain⟨a',T5⟩:=a;simp only at kA v1 v2 hs hc;have hd:=t_ T5 kA n ⟨by omega,by omega⟩;have w1:=iT T5 n;have w2:=l7 T5 (n:=n) (by omega);generalize eG T5 n=b at w1 w2 hs hd;obtain⟨b',T6⟩:=b;simp only at w1 w2 hs hd
   obtain⟨a,rfl⟩:∃a:Nat,a'=a:=⟨a'.toNat,by omega⟩
   obtain⟨b,rfl⟩:∃b:Nat,b'=b:=⟨b'.toNat,by omega⟩
   simp -dsimp[hiz,hi];and_intros;all_goals try first|omega|exact⟨by kernel_rfl⟩|rfl
   refine aI.of hc [.x 0] 0 ?_;simp -dsimp[hiz,hi];and_intros;all_goals try first|omega|exact⟨by kernel_rfl⟩|rfl
   refine aI.of hd [.x 0] 0 ?_;by_cases hab:a=b
   ·have agh:(a:Int)=b:=by omega
    rw[if_pos agh]at hs
    simp -dsimp[hab,agh,wrap_i64 (n:=(K:Int)-i-1) (by omega) (by omega)];and_intros;all_goals try first|omega|exact⟨by kernel_rfl⟩|rfl
    refine⟨⟨i+1,by omega⟩,GS.to ⟨?_,by simp⟩,by simp;omega⟩;refine Sub.qw (fun j hj=>?_) ?_ (fun j hj=>?_) ?_
    ·simp[hj,hs]
    ·simp[hs];omega
    ·simp
    ·simp[nJ];intro j hj;omega
   ·have agh :¬(a:Int)=b:=by omega
    rw[if_neg agh]at hs
    have hmn:X3 IntKind.i64 a b = .d (.int .i64 (min a b:Nat)):=by simp[X3];omega
    have hmx:ad9 IntKind.i64 a b = .d (.int .i64 (max a b:Nat)):=by simp[ad9];omega
    have e1:(min (a:Int) b).toNat=min a b:=by omega
    have e2:(max (a:Int) b).toNat=max a b:=by omega
    rw[e1,e2]at hs
    have m1:min a b<n:=by omega
    have m2:max a b<n:=by omega
    generalize min a b=u at hmn hs m1;generalize max a b=v at hmx hs m2;simp -dsimp[hab,agh,hmn,hmx,m1,m2,yj,Ij,G6,Io,wrap_i64 (n:=(K:Int)-i-1) (by omega) (by omega)];and_intros;all_goals try first|omega|exact⟨by kernel_rfl⟩|rfl
    refine⟨⟨i+1,by omega⟩,GS.to ⟨?_,by simp⟩,by simp;omega⟩;refine Sub.qw (fun j hj=>?_) ?_ (fun j hj=>?_) ?_
    ·by_cases hjv:j=u
     ·subst hjv;simp[hj,hs,X5]
     ·simp[hj,hs,hjv,O7]
    ·simp[hs];omega
    ·simp
    ·simp[nJ];intro j hj;omega
  have hiz :¬(0:Int)<(K:Int)-i:=by omega
  obtain rfl:K=i:=by omega
  obtain⟨⟨T5,M2⟩,hI5⟩:∃I,oH n T4 M1 K=I:=⟨_,rfl⟩
  simp only[hI5]at kI3⊢;have hc:=t_ T5 kI3 3 ⟨by omega,by omega⟩;have kF:iD (eG T5 3).2:=by simpa using kI3
  obtain⟨⟨f',T6⟩,hI6⟩:∃I,eG T5 3=I:=⟨_,rfl⟩
  simp only[hI6]at kF hc⊢;simp -dsimp[hiz];and_intros;all_goals try first|omega|exact⟨by kernel_rfl⟩|rfl
  refine aI.of hc [.x 0] 0 ?_;simp -dsimp[yj];and_intros;all_goals try first|omega|exact⟨by kernel_rfl⟩|rfl
  obtain⟨flat,abS⟩:∃b,decide (f'=0)=b:=⟨_,rfl⟩
  simp only[abS];have kL:∀a b,iD (wQ flat rs M2 T6 n a b).2:=fun a b=>by simpa using kF
  have hnn:n*n≤64:=lN (show n≤8 by omega) (show n≤8 by omega);refine dD.of [] (kb 0x20000807380010020008401c000107fff3) (ι:={i:Nat // i≤n})
   (fun z=>qw 9000 n (fun a=>It.row 4 1 (dd (mrow M2 n a)) false) [(.s 0,It.v (.ptr (.x 0) 0)),(.s 1,It.v (.d (.int .i64 most))),(.o 4,It.box [TV.c (Value.slice none 0 0),TV.c (Value.slice none 0 0)]),(.s 4,It.v (.ptr (.o 4) 0)),(.s 5,It.v (.d (.int .i64 n))),(.x 0,kH (wQ flat rs M2 T6 n z.1 0).2),(.o 6,It.box [TV.aW 600 n,TV.aW 601 (wQ flat rs M2 T6 n z.1 0).1.length]),(.s 6,It.v (.ptr (.o 6) 0)),(.o 600,It.row 78 2 (dd (rts rs)) false),(.o 601,It.row 85 5 (dd (nS (wQ flat rs M2 T6 n z.1 0).1)) false),(.s 9,It.v (.aW 40 n)),(.o 40,It.row 157 1 (EH n n) false),(.s 15,It.v (.d (.bool flat))),(.s 99,It.v (.d (.int .i64 n))),(.s 100,It.v (.d (.int .i64 z.1)))])
   (fun z=>n-z.1) ⟨0,by omega⟩ ?_ ?_
  ·refine GS.Df (.o 6) 1 601 (cs:=[TV.aW 600 n,TV.c (Value.slice none 0 0)]) 85 5 rfl (by simp) (by simp) (by simp) ⟨?_,by simp⟩;simp only[F8 _ (show 6<9000 by omega),F8 _ (show 601<9000 by omega)];refine Sub.qw (fun j hj=>?_) ?_ (fun j hj=>?_) ?_
   ·simp[hj]
   ·simp[wQ,QJ,rowP,nS]
   ·simp
   ·simp[nJ];intro j hj;omega
  rintro⟨a,ha1⟩;by_cases ha:a<n
  ·have haz:(a:Int)<n:=by omega
   simp -dsimp[haz,ha,yj];and_intros;all_goals try first|omega|exact⟨by kernel_rfl⟩|rfl
   refine dD.of [] (kb 0x20000807380010020008401c000107fff3) (ι:={i:Nat // i≤n})
    (fun z=>qw 9000 n (fun a=>It.row 4 1 (dd (mrow M2 n a)) false) [(.s 0,It.v (.ptr (.x 0) 0)),(.s 1,It.v (.d (.int .i64 most))),(.o 4,It.box [TV.c (Value.slice none 0 0),TV.c (Value.slice none 0 0)]),(.s 4,It.v (.ptr (.o 4) 0)),(.s 5,It.v (.d (.int .i64 n))),(.x 0,kH (wQ flat rs M2 T6 n a z.1).2),(.o 6,It.box [TV.aW 600 n,TV.aW 601 (wQ flat rs M2 T6 n a z.1).1.length]),(.s 6,It.v (.ptr (.o 6) 0)),(.o 600,It.row 78 2 (dd (rts rs)) false),(.o 601,It.row 85 5 (dd (nS (wQ flat rs M2 T6 n a z.1).1)) false),(.s 9,It.v (.aW 40 n)),(.o 40,It.row 157 1 (EH n n) false),(.s 15,It.v (.d (.bool flat))),(.s 16,It.v (.d (.int .i64 a))),(.s 99,It.v (.d (.int .i64 n))),(.s 100,It.v (.d (.int .i64 a))),(.s 104,It.v (.d (.int .i64 n))),(.s 105,It.v (.d (.int .i64 z.1)))])
    (fun z=>n-z.1) ⟨0,by omega⟩ ?_ ?_
   ·refine GS.to ⟨?_,by simp⟩;refine Sub.qw (fun j hj=>?_) ?_ (fun j hj=>?_) ?_
    ·simp[hj]
    ·simp
    ·simp
    ·simp[nJ];intro j hj;omega
   rintro⟨b,hb1⟩;by_cases hb:b<n
   ·have hbz:(b:Int)<n:=by omega
    rcases (aA (M2 a b)).symm with hM|hM
    ·have hs:=aed (flat:=flat) (rs:=rs) (T:=T6) (n:=n) hM;simp -dsimp[hbz,hb,ha,haz,yj,Ij,G6,Io,hM,wrap_i64 (n:=(b:Int)+1) (by omega) (by omega)];and_intros;all_goals try first|omega|exact⟨by kernel_rfl⟩|rfl
     refine⟨⟨b+1,by omega⟩,GS.to ⟨?_,by simp⟩,by simp;omega⟩;refine Sub.qw (fun j hj=>?_) ?_ (fun j hj=>?_) ?_
     ·simp[hj]
     ·simp[hs]
     ·simp
     ·simp[nJ];intro j hj;omega
    ·have hs:=aec (flat:=flat) (rs:=rs) (T:=T6) (n:=n) hM;have hll:=ag0 (flat:=flat) (rs:=rs) (M:=M2) (T:=T6) (n:=n) (a:=a) (b:=b);have han:a*n≤64:=dw (lN (show a≤n by omega) (au n)) hnn;have kC:=kL a b;generalize wQ flat rs M2 T6 n a b=s at hs hll kC;have hrt:(dd (rts rs)).length=n:=by simp[dd,rts,b1]
     have hc:=M_ s.2 kC qo (by simp[qo]) (by simp[qo]);have kc2:iD (m_ s.2 qo).2:=by simpa using kC
     have hgl:FC flat (rid rs a) (rid rs b) s.2=FC flat (rid rs a) (rid rs b) s.2:=rfl
     conv at hgl=>rhs;unfold FC
     simp only[BD]at hs;generalize m_ s.2 qo=c at hc kc2 hgl;simp only[ints,qo,List.map]at hc;simp -dsimp[hbz,hb,ha,haz,yj,Ij,G6,Io,hM,ai0,hrt];and_intros;all_goals try first|omega|exact⟨by kernel_rfl⟩|rfl
     refine aI.of hc [.x 0] 0 ?_;rcases (aA flat).symm with hfl|hfl
     ·simp only[hfl,eu,if_false]at hgl;have u1:=uD c.2 1 20;have u2:=uz c.2 (a:=1) (b:=20) (by omega);have hu:=P8 c.2 kc2 1 20 ⟨by omega,by omega⟩ ⟨by omega,by omega⟩ ⟨by omega,by omega⟩ ⟨by omega,by omega⟩;have ku:iD (ji c.2 1 20).2:=by simpa using kc2
      generalize ji c.2 1 20=u at hgl u1 u2 hu ku;have hv:=M_ u.2 ku [1,2,3,u.1,1000] (by simp) (by simp);have kv:iD (m_ u.2 [1,2,3,u.1,1000]).2:=by simpa using ku
      generalize m_ u.2 [1,2,3,u.1,1000]=v at hgl hv kv;have w1:=uD v.2 1 20;have w2:=uz v.2 (a:=1) (b:=20) (by omega);have hw:=P8 v.2 kv 1 20 ⟨by omega,by omega⟩ ⟨by omega,by omega⟩ ⟨by omega,by omega⟩ ⟨by omega,by omega⟩;have kw:iD (ji v.2 1 20).2:=by simpa using kv
      generalize ji v.2 1 20=w at hgl w1 w2 hw kw;have hz:=M_ w.2 kw [v.1,v.1,w.1] (by simp) (by simp);generalize m_ w.2 [v.1,v.1,w.1]=z at hgl hz;simp only[ints,List.map]at hv hz;rw[hfl,hgl]at hs
      simp -dsimp[hfl];and_intros;all_goals try first|omega|exact⟨by kernel_rfl⟩|rfl
      refine aI.of hu [.x 0] 0 ?_;simp -dsimp;and_intros;all_goals try first|omega|exact⟨by kernel_rfl⟩|rfl
      refine aI.of hv [.x 0] 0 ?_;simp -dsimp;and_intros;all_goals try first|omega|exact⟨by kernel_rfl⟩|rfl
      refine aI.of hw [.x 0] 0 ?_;simp -dsimp;and_intros;all_goals try first|omega|exact⟨by kernel_rfl⟩|rfl
      refine aI.of hz [.x 0] 0 ?_;simp -dsimp[wrap_i64 (n:=(b:Int)+1) (by omega) (by omega)];and_intros;all_goals try first|omega|exact⟨by kernel_rfl⟩|rfl
      refine⟨⟨b+1,by omega⟩,GS.to ⟨?_,by simp⟩,by simp;omega⟩;refine Sub.qw (fun j hj=>?_) ?_ (fun j hj=>?_) ?_
      ·simp[hj]
      ·simp[hs,nS,Lk.cs,hfl]
      ·simp
      ·simp[nJ];intro j hj;omega
     ·simp only[hfl,if_true]at hgl;rw[hfl,hgl]at hs
      simp -dsimp[hfl,wrap_i64 (n:=(b:Int)+1) (by omega) (by omega)];and_intros;all_goals try first|omega|exact⟨by kernel_rfl⟩|rfl
      refine⟨⟨b+1,by omega⟩,GS.to ⟨?_,by simp⟩,by simp;omega⟩;refine Sub.qw (fun j hj=>?_) ?_ (fun j hj=>?_) ?_
      ·simp[hj]
      ·simp[hs,nS,Lk.cs,hfl]
      ·simp
      ·simp[nJ];intro j hj;omega
   ·have hbz :¬(b:Int)<n:=by omega
    obtain rfl:n=b:=by omega
    have hs:=ag2 (flat:=flat) (rs:=rs) (M:=M2) (T:=T6) (n:=n) (a:=a);simp -dsimp[hbz,wrap_i64 (n:=(a:Int)+1) (by omega) (by omega)];and_intros;all_goals try first|omega|exact⟨by kernel_rfl⟩|rfl
    refine⟨⟨a+1,by omega⟩,GS.to ⟨?_,by simp⟩,by simp;omega⟩;refine Sub.qw (fun j hj=>?_) ?_ (fun j hj=>?_) ?_
    ·simp[hj]
    ·simp[hs]
    ·simp
    ·simp[nJ];intro j hj;omega
  ·have haz :¬(a:Int)<n:=by omega
   obtain rfl:n=a:=by omega
   simp -dsimp[haz];and_intros;all_goals try first|omega|exact⟨by kernel_rfl⟩|rfl
   refine Fin.box (.o 4) rfl ?_;simp -dsimp;and_intros;all_goals try first|omega|exact⟨by kernel_rfl⟩|rfl
   refine Fin.of ?_;simp[eU,hI,hI3,hI4,hI5,hI6,abS]
def jc(T:Tp):aX:=(qK T 8).1
def yx(T:Tp):Int:=rid (jc T).rs (eG (qK T 8).2 (jc T).rs.length).1.toNat
def yw(T:Tp):List Int:=(Ia (jc T).rs (eG (qK T 8).2 (jc T).rs.length).2 5).1
def FU(T:Tp):Tp:=(Ia (jc T).rs (eG (qK T 8).2 (jc T).rs.length).2 5).2
def RZ(g:aX)(n:Int)(l:List Ad)(root:Int)(rs:List Int)(a:Int)(L:List (Int×Int))(c:Int):List D:=
 [.sl (rts g.rs),.sl (nS g.ls),.int .i64 n,.sl (wZ l),.int .i64 root,.sl (rs.map fun n=>[.int .i64 n]),.int .i64 a,.sl (hps L),.int .i64 c]
@[simp]theorem an0(T:Tp)(most:Int):iD (qK T most).2=iD T:=by have e:(qK T most).2=(wQ (iJ T most).flat (iJ T most).rs (iJ T most).M2 (iJ T most).T4 (iJ T most).n (iJ T most).n 0).2:=rfl;rw[e,ag1];unfold iJ;simp
theorem acu(T:Tp)(hT:iD T)(n:Int)(l:List Ad)(f a:Int)(L:List (Int×Int))(c e:Int)
  (hfu:Contract Tryz.prog 20 [eU (jc T),.d (.int .i64 64)] [] (.qh [rX n l,.d (.int .i64 f)]) [] [])
  (hch:Contract Tryz.prog 21 [eU (jc T),.d (.int .i64 (yx T)),.d (ints (yw T))] [] (.qh [vw a L,.d (.int .i64 c),.d (.int .i64 e)]) [] []) :
  Contract Tryz.prog 5 [.ptr (.x 0) 0] [kH T] (.qh [.agg ((RZ (jc T) n l (yx T) (yw T) a L c).map .d),.d (.bool (decide (f=0)&&decide (e=0)))]) [kH (FU T)] []:=by
 have hnt:=ag7 T hT 8 (by decide);obtain⟨hv0,hv1,hv2,hv3⟩:=Oz T (most:=8) (by decide);have hT1:iD (qK T 8).2:=by simpa using hT
 have hg0:(qK T 8).1=jc T:=rfl;rw[hg0]at hnt hv0 hv2 hv3
 have hnx:=t_ (qK T 8).2 hT1 (jc T).rs.length ⟨by omega,by omega⟩;have b1:=iT (qK T 8).2 (jc T).rs.length;have b2:=l7 (qK T 8).2 (n:=(jc T).rs.length) (by omega);have hT2:iD (eG (qK T 8).2 (jc T).rs.length).2:=by simpa using hT1
 have hso:=amn (eG (qK T 8).2 (jc T).rs.length).2 hT2 (jc T) ⟨by omega,by omega⟩ 5 (by decide);have hr0:yx T=rid (jc T).rs (eG (qK T 8).2 (jc T).rs.length).1.toNat:=rfl;have hr1:yw T=(Ia (jc T).rs (eG (qK T 8).2 (jc T).rs.length).2 5).1:=rfl;have hr2:FU T=(Ia (jc T).rs (eG (qK T 8).2 (jc T).rs.length).2 5).2:=rfl;rw[←hr1,←hr2]at hso
 generalize yw T=rs at *;generalize FU T=T3 at *;generalize yx T=root at *;generalize jc T=g at *;generalize (qK T 8).2=T1 at *;generalize eG T1 g.rs.length=K at *;obtain⟨k',T2⟩:=K;simp only at *;obtain⟨k,rfl⟩:∃k:Nat,k'=k:=⟨k'.toNat,by omega⟩
 have hkl:k<g.rs.length:=by omega
 have hgr:g.rs[k]? = some g.rs[k]:=aj hkl;have JL:root=g.rs[k].id:=by rw[hr0];simp[rid,hkl]
 generalize g.rs[k]=x at hgr JL;have hgx:(rts g.rs)[k]? = some [.int .i64 x.id,.bool x.cap]:=by simp[rts,hgr,Rt.cs]
 have hrl:(rts g.rs).length=g.rs.length:=by simp[rts]
 simp only[eU,rX,vw,ints]at hnt hso hfu hch;refine ay Tryz.func5 rfl (fun E0=>?_);refine iC.sound (g:=.mk) (ow:=[]) (kp:=(kb 0x3fd)) ?_;rw[Tryz.ntmps5];simp -dsimp;refine aI.of hnt [.x 0] 0 ?_;simp -dsimp[hrl];refine aI.of hnx [.x 0] 0 ?_;have hkz:(k:Int)<g.rs.length:=by omega
 simp -dsimp[hrl,hgx,hkz];and_intros;all_goals try first|rfl|omega|exact⟨by kernel_rfl⟩
 refine aI.of hso [.x 0] 0 ?_;simp -dsimp;refine aI.of hfu [] 0 ?_;simp -dsimp;rw[JL]at hch
 and_intros;all_goals try first|rfl|omega|exact⟨by kernel_rfl⟩
 refine aI.of hch [] 0 ?_;by_cases hf:f=0
 ·by_cases he:e=0
  ·subst hf he;simp -dsimp;and_intros;all_goals try first|rfl|omega|exact⟨by kernel_rfl⟩
   refine Fin.of ?_;rw[JL];simp[RZ]
  ·subst hf;simp -dsimp[he];and_intros;all_goals try first|rfl|omega|exact⟨by kernel_rfl⟩
   refine Fin.of ?_;rw[JL];simp[RZ,he]
 ·simp -dsimp[hf];and_intros;all_goals try first|rfl|omega|exact⟨by kernel_rfl⟩
  refine Fin.of ?_;rw[JL];simp[RZ,hf]
theorem X9{g:aX}(hn:0<g.rs.length)(T:Tp):∀i:Nat,(qg g.rs T i).2.Pairwise (· < ·)∧∀x∈(qg g.rs T i).2,dF g.rs x=true
 | 0=>by simp[qg]
 | i+1=>by
   obtain⟨h1,h2⟩:=X9 hn T i;have b1:=iT (qg g.rs T i).1 g.rs.length;have b2:=l7 (qg g.rs T i).1 (n:=g.rs.length) (by omega);obtain⟨h3,h4⟩:=CV (rid g.rs (eG (qg g.rs T i).1 g.rs.length).1.toNat) h1;refine⟨h3,fun x hx=>?_⟩;rcases (h4 x).1 hx with h|h
   ·exact h2 x h
   ·rw[h];exact VF (by omega)
theorem Vq(T:Tp):jo (jc T)=0∧E_ (jc T)∧1≤(jc T).rs.length∧(jc T).rs.length≤8:=by obtain⟨h0,h1,h2,h3⟩:=Oz T (most:=8) (by decide);exact⟨h0,h1,h2,by have:((jc T).rs.length:Int)≤8:=h3;omega⟩
theorem acs(T:Tp):dF (jc T).rs (yx T)=true:=by obtain⟨_,_,h2,h3⟩:=Vq T;have b1:=iT (qK T 8).2 (jc T).rs.length;have b2:=l7 (qK T 8).2 (n:=(jc T).rs.length) (by omega);exact VF (by omega)
theorem ag_(T:Tp):(yw T).length≤5∧(yw T).Pairwise (· < ·)∧∀x∈yw T,dF (jc T).rs x=true:=by
 obtain⟨_,_,h2,h3⟩:=Vq T;have b1:=iT (eG (qK T 8).2 (jc T).rs.length).2 6;have b2:=l7 (eG (qK T 8).2 (jc T).rs.length).2 (n:=6) (by omega);have h:=X9 (g:=jc T) (by omega) (eG (eG (qK T 8).2 (jc T).rs.length).2 6).2 (eG (eG (qK T 8).2 (jc T).rs.length).2 6).1.toNat
 have hl:=JY (jc T).rs (eG (eG (qK T 8).2 (jc T).rs.length).2 6).2 (eG (eG (qK T 8).2 (jc T).rs.length).2 6).1.toNat;exact⟨dw hl (by omega),h⟩
def nb0(ls:List Lk)(r:Int):List Int:=ls.flatMap fun x=>if r=x.a then [x.b]else if r=x.b then [x.a]else []
def nbR(ls:List Lk)(r:Int):List Int:=(nb0 ls r).mergeSort fun x y=>decide (x≤y)
theorem ag4(ls:List Lk)(x:Lk)(r:Int):nb0 (ls++[x]) r=nb0 ls r++if r=x.a then [x.b]else if r=x.b then [x.a]else []:=by simp[nb0]
theorem MW(r:Int):∀ls:List Lk,(nb0 ls r).length≤ls.length
 | []=>by simp[nb0]
 | x::ls=>by
   have:=MW r ls;rw[nb0,jf,aU,←nb0,aH];split
   ·simp only[aH,dh];omega
   ·split<;>simp only[aH,dh]<;>omega
theorem aoL(g:aX)(hg:g.Ok)(r:Int):Contract Tryz.prog 125 [eU g,.d (.int .i64 r)] [] (.d (ints (nbR g.ls r))) [] []:=by
 have hnl:=hg.nl;refine ay Tryz.func125 rfl (fun E0=>?_);refine iC.sound (g:=.mk) (ow:=[1000129]) (kp:=(kb 0x2019eb7)) ?_;rw[Tryz.ntmps125];simp -dsimp[eU]
 refine dD.of [1000129] (kb 0x2019eb7) (ι:={i:Nat // i≤g.ls.length}) (fun z=>[(.s 1,It.v (.d (.int .i64 r))),(.o 2,It.box [TV.d (.sl (rts g.rs)),TV.d (.sl (nS g.ls))]),(.s 2,It.v (.ptr (.o 2) 0)),
  (.s 5,It.v (.aW 5 (nb0 (g.ls.take z.1) r).length)),(.o 5,It.row 3 1 (dd (jR .i64 (nb0 (g.ls.take z.1) r))) false),
  (.s 9,It.v (.d (.sl (nS g.ls)))),(.s 10,It.v (.d (.int .i64 g.ls.length))),(.s 11,It.v (.d (.int .i64 z.1)))]) (fun z=>g.ls.length-z.1) ⟨0,by omega⟩ ?_ ?_
 ·exact GS.own' (k:=5) 3 1 (by simp) (by simp) (by simp[nS,nb0,jR])
 ·rintro⟨i,i1⟩;by_cases hi:i<g.ls.length
  ·have hiz:(i:Int)<g.ls.length:=by omega
   have hl:=aj hi;have ht:nb0 (g.ls.take (i+1)) r=nb0 (g.ls.take i) r++if r=g.ls[i].a then [g.ls[i].b]else if r=g.ls[i].b then [g.ls[i].a]else []:=by rw[aT,hl];exact ag4 _ _ _
   have hlen:(nb0 (g.ls.take i) r).length≤1000:=by have:=MW r (g.ls.take i);simp at this;omega
   generalize g.ls[i]=x at hl ht;generalize nb0 (g.ls.take i) r=K at ht hlen⊢;have w1:IntKind.i64.wrap ((i:Int)+1)=(i:Int)+1:=wrap_i64 (by omega) (by omega);by_cases h1:r=x.a
   ·rw[if_pos h1]at ht
    have h1:=h1.symm;simp -dsimp[hiz,hl,nS,Lk.cs,h1,w1];and_intros;all_goals try first|rfl|omega|exact⟨by kernel_rfl⟩
    exact⟨⟨i+1,by omega⟩,GS.to (by simp[ht,nS,jR,h1]),by simp;omega⟩
   ·rw[if_neg h1]at ht
    by_cases h2:r=x.b
    ·rw[if_pos h2]at ht
     have h2:=h2.symm;have h1 :¬r=x.a:=h1;simp -dsimp[hiz,hl,nS,Lk.cs,h1,h2,w1];and_intros;all_goals try first|rfl|omega|exact⟨by kernel_rfl⟩
     exact⟨⟨i+1,by omega⟩,GS.to (by simp[ht,nS,jR,h2]),by simp;omega⟩
    ·rw[if_neg h2,bQ]at ht
     simp -dsimp[hiz,hl,nS,Lk.cs,h1,h2,w1];and_intros;all_goals try first|rfl|omega|exact⟨by kernel_rfl⟩
     exact⟨⟨i+1,by omega⟩,GS.to (by simp[ht,nS]),by simp;omega⟩
  ·have hiz :¬(i:Int)<g.ls.length:=by omega
   rw[show g.ls.take i=g.ls from aS (by omega)];have hlen:=MW r g.ls;have hS:nbR g.ls r=(nb0 g.ls r).mergeSort fun x y=>decide (x≤y):=rfl
   rw[hS];generalize nb0 g.ls r=K at hlen⊢;simp -dsimp[hiz];refine aI.agG aa8 K ?_;simp -dsimp;and_intros;all_goals try first|rfl|omega|exact⟨by kernel_rfl⟩
   refine Fin.view 4 ?_;simp -dsimp;refine Fin.of ?_;simp[ints,jR]
theorem ait(g:aX)(h0:jo g=0)(r:Int):Contract Tryz.prog 58 [eU g,.d (.int .i64 r)] [] (.d (ints (nbR g.ls r))) [] []:=by
 have hg:=dV h0;have hnb:=aoL g hg r;have hvl:=I_ g hg.sm;simp only[eU]at hnb hvl;refine ay Tryz.func58 rfl (fun E0=>?_);refine iC.sound (g:=.mk) (ow:=[]) (kp:=(kb 0x97)) ?_;rw[Tryz.ntmps58];simp -dsimp[eU];refine aI.of hvl [] 0 ?_;simp -dsimp[h0];and_intros;all_goals try first|rfl|omega|exact⟨by kernel_rfl⟩
 refine aI.of hnb [] 0 ?_;simp -dsimp;refine Fin.of ?_;simp
theorem akC(n:Int)(l:List Ad)(hl:l.length≤100000)(r k to:Int):
  nH Tryz.prog 57 [.d (.int .i64 r),.d (.int .i64 k),.d (.int .i64 to),.ptr (.x 0) 0] [.box [.d (.int .i64 n),.aW 900 l.length]] [(900,.row 149 4 (dd (l.map Ad.cs)) false)]
   (.qh []) [.box [.d (.int .i64 n),.aW 900 (qY l r k to).length]] [(900,.row 149 4 (dd ((qY l r k to).map Ad.cs)) false)]:=by
 refine kD Tryz.func57 rfl (fun E0=>?_);refine iC.sound (g:=.mk) (ow:=[]) (kp:=(kb 0xf)) ?_;rw[Tryz.ntmps57];simp -dsimp;and_intros;all_goals try first|rfl|omega|exact⟨by kernel_rfl⟩
 refine Fin.of ?_;simp[qY,Ad.cs]
def ER(g:aX)(l:List Ad)(r:Int):List Ad:=sW (qY l r 3 r) r (nbR g.ls r)
def af8(g:aX):List Ad:=g.rs.foldl (fun l x=>ER g l x.id) []
theorem acn(ls:List Lk)(r:Int):(nbR ls r).length≤ls.length:=by rw[nbR,iO];exact MW r ls
theorem SH(g:aX):∀(rs:List Rt) (l:List Ad),(rs.foldl (fun l x=>ER g l x.id) l).length≤l.length+rs.length*(g.ls.length+1)
 | [],l=>by simp
 | x::rs,l=>by
   have h1:=SH g rs (ER g l x.id);have h2:=acn g.ls x.id;have h3:(ER g l x.id).length=l.length+1+(nbR g.ls x.id).length:=by simp[ER,vU,qY]
   rw[bV,aH,Nat.succ_mul];omega
theorem ai9(g:aX)(h0:jo g=0)(n:Int)(hv:eP n=true)(hn:(g.rs.length:Int)+2*g.ls.length≤n):Contract Tryz.prog 22 [eU g,.d (.int .i64 n)] [] (.qh [rX n (af8 g),.d (.int .i64 0)]) [] []:=by
 have hg:=dV h0;have hs:=hg.sm;have hne:=ait g h0;simp only[eU]at hne;have aoe:=hg.nr;have hnl:=hg.nl;have hok:dB Tryz.prog 57=true:=by kernel_rfl
 have hnz :¬n<(g.rs.length:Int)+2*g.ls.length:=by omega
 have w2:IntKind.i64.wrap (2*(g.ls.length:Int))=2*(g.ls.length:Int):=wrap_i64 (by omega) (by omega);have w3:IntKind.i64.wrap ((g.rs.length:Int)+2*(g.ls.length:Int))=(g.rs.length:Int)+2*(g.ls.length:Int):=wrap_i64 (by omega) (by omega);have hrl:(rts g.rs).length=g.rs.length:=by simp[rts]
 have hll:(nS g.ls).length=g.ls.length:=by simp[nS]
 have hfl:∀i,i≤g.rs.length→((g.rs.take i).foldl (fun l x=>ER g l x.id) []).length≤2000:=fun i hi=>by
  have:=SH g (g.rs.take i) [];rw[gG,dh]at this
  have:min i g.rs.length*(g.ls.length+1)≤24*61:=lN (by omega) (by omega);omega
 refine ay Tryz.func22 rfl (fun E0=>?_);refine iC.sound (g:=.mk) (ow:=[4000041,4000056]) (kp:=(kb 0x3c007820044af7)) ?_;rw[Tryz.ntmps22];simp -dsimp[eU];refine aI.of (xW g hs.r hs.l) [] 0 ?_;simp -dsimp[h0,eU];and_intros
 all_goals try first|rfl|omega|exact⟨by kernel_rfl⟩
 refine aI.of (jY n) [] 0 ?_;simp -dsimp[hv,eU,hrl,hll,w2,w3,hnz];and_intros;all_goals try first|rfl|omega|exact⟨by kernel_rfl⟩
 refine dD.of [4000041,4000056] (kb 0x3c007820044af7) (ι:={z:Nat×List Ad // z.1≤g.rs.length∧z.2=(g.rs.take z.1).foldl (fun l x=>ER g l x.id) []})
  (fun z=>[(.o 2,It.box [TV.d (.sl (rts g.rs)),TV.d (.sl (nS g.ls))]),(.s 2,It.v (.ptr (.o 2) 0)),(.o 4,It.box [TV.d (.int .i64 0),TV.c (Value.slice none 0 0)]),(.s 4,It.v (.ptr (.o 4) 0)),(.s 5,It.v (.d (.int .i64 0))),(.s 6,It.v (.ptr (.o 6) 0)),(.s 7,It.v (.clo 57 [TV.ptr (.o 6) 0])),(.s 35,It.v (.d (.sl (rts g.rs)))),(.s 36,It.v (.d (.int .i64 g.rs.length))),(.o 6,It.box [TV.d (.int .i64 n),TV.aW 60 z.1.2.length]),(.o 60,It.row 149 4 (dd (z.1.2.map Ad.cs)) false),(.s 37,It.v (.d (.int .i64 z.1.1)))])
  (fun z=>g.rs.length-z.1.1) ⟨(0,[]),by omega,rfl⟩ ?_ ?_
 ·exact GS.Df (.o 6) 1 60 (cs:=[.d (.int .i64 n),.c (.slice none 0 0)]) 149 4 (by simp) (by simp) (by simp) (by simp) (by simp)
 ·rintro⟨⟨i,l⟩,i1,i2⟩;simp only at i1 i2;have hl6:=hfl i i1;rw[←i2]at hl6
  by_cases hi:i<g.rs.length
  ·have hiz:(i:Int)<g.rs.length:=by omega
   have hgr:g.rs[i]? = some g.rs[i]:=aj hi;have ht:g.rs.take (i+1)=g.rs.take i++[g.rs[i]]:=by rw[aT,hgr];rfl
   have hl7:=hfl (i+1) (by omega);rw[ht,dZ,←i2]at hl7
   have hi2:ER g l g.rs[i].id=(g.rs.take (i+1)).foldl (fun l x=>ER g l x.id) []:=by rw[ht,dZ,←i2];rfl
   simp only[bV,List.foldl_nil]at hl7;generalize g.rs[i]=x at hgr hi2 hl7;have hnr:=acn g.ls x.id;have hgx:(rts g.rs)[i]? = some [.int .i64 x.id,.bool x.cap]:=by simp[rts,hgr,Rt.cs]
   have had:=akC n l (by omega) x.id 3 x.id;simp -dsimp[hiz,hgx];and_intros;all_goals try first|rfl|omega|exact⟨by kernel_rfl⟩
   refine oG.Y3 had [.o 6] [(900,60)] 5000 ?_;simp -dsimp[hok];refine aI.of (hne x.id) [] 0 ?_;obtain⟨N,hN⟩:∃N,N=nbR g.ls x.id:=⟨_,rfl⟩
   have hlR:ER g l x.id=sW (qY l x.id 3 x.id) x.id N:=by rw[hN];rfl
   rw[←hN]at hnr⊢
   rw[hlR]at hi2 hl7
   rw[vU]at hl7
   have hal:(qY l x.id 3 x.id).length=l.length+1:=by simp[qY]
   simp -dsimp[ints];refine dD.of [4000041,4000056] (kb 0x3c007820044af7) (ι:={z:Nat×List Ad // z.1≤N.length∧z.2=sW (qY l x.id 3 x.id) x.id (N.take z.1)})
    (fun z=>[(.o 2,It.box [TV.d (.sl (rts g.rs)),TV.d (.sl (nS g.ls))]),(.s 2,It.v (.ptr (.o 2) 0)),(.o 4,It.box [TV.d (.int .i64 0),TV.c (Value.slice none 0 0)]),(.s 4,It.v (.ptr (.o 4) 0)),(.s 5,It.v (.d (.int .i64 0))),(.s 6,It.v (.ptr (.o 6) 0)),(.s 7,It.v (.clo 57 [TV.ptr (.o 6) 0])),(.s 35,It.v (.d (.sl (rts g.rs)))),(.s 36,It.v (.d (.int .i64 g.rs.length))),(.o 6,It.box [TV.d (.int .i64 n),TV.aW 60 z.1.2.length]),(.o 60,It.row 149 4 (dd (z.1.2.map Ad.cs)) false),(.s 37,It.v (.d (.int .i64 i))),
     (.o 9,It.box [TV.d (.int .i64 x.id),TV.d (.bool x.cap)]),(.s 9,It.v (.ptr (.o 9) 0)),
     (.s 50,It.v (.d (.sl (List.map (fun n=>[D.int .i64 n]) N)))),(.s 51,It.v (.d (.int .i64 N.length))),(.s 52,It.v (.d (.int .i64 z.1.1)))])
    (fun z=>N.length-z.1.1) ⟨(0,qY l x.id 3 x.id),by omega,rfl⟩ ?_ ?_
   ·refine(GS.to (l':=[(.o 2,It.box [TV.d (.sl (rts g.rs)),TV.d (.sl (nS g.ls))]),(.s 2,It.v (.ptr (.o 2) 0)),(.o 4,It.box [TV.d (.int .i64 0),TV.c (Value.slice none 0 0)]),(.s 4,It.v (.ptr (.o 4) 0)),(.s 5,It.v (.d (.int .i64 0))),(.s 6,It.v (.ptr (.o 6) 0)),(.s 7,It.v (.clo 57 [TV.ptr (.o 6) 0])),(.s 35,It.v (.d (.sl (rts g.rs)))),(.s 36,It.v (.d (.int .i64 g.rs.length))),(.o 6,It.box [TV.d (.int .i64 n),TV.aW 5900 (qY l x.id 3 x.id).length]),(.o 5900,It.row 149 4 (dd ((qY l x.id 3 x.id).map Ad.cs)) false),(.s 37,It.v (.d (.int .i64 i))),
     (.o 9,It.box [TV.d (.int .i64 x.id),TV.d (.bool x.cap)]),(.s 9,It.v (.ptr (.o 9) 0)),
     (.s 50,It.v (.d (.sl (List.map (fun n=>[D.int .i64 n]) N)))),(.s 51,It.v (.d (.int .i64 N.length))),(.s 52,It.v (.d (.int .i64 0)))]) (by simp)).trans ?_
    exact GS.ren' 5900 60 (by decide) (by simp) (by simp)
   ·rintro⟨⟨j,m⟩,j1,j2⟩;simp only at j1 j2;have hml:m.length≤l.length+1+j:=by rw[j2,vU,hal,gG];omega
    by_cases hj:j<N.length
    ·have hjz:(j:Int)<N.length:=by omega
     have hgn:N[j]? = some N[j]:=aj hj;have ht2:N.take (j+1)=N.take j++[N[j]]:=by rw[aT,hgn];rfl
     generalize N[j]=q at hgn ht2;have hm2:qY m x.id 1 q=sW (qY l x.id 3 x.id) x.id (N.take (j+1)):=by rw[ht2,sW,dZ,j2];rfl
     have had:=akC n m (by omega) x.id 1 q;have wj:IntKind.i64.wrap ((j:Int)+1)=(j:Int)+1:=wrap_i64 (by omega) (by omega);simp -dsimp[hjz,hgn];and_intros;all_goals try first|rfl|omega|exact⟨by kernel_rfl⟩
     refine oG.Y3 had [.o 6] [(900,60)] 5000 ?_;simp -dsimp[hok,wj];refine⟨⟨(j+1,qY m x.id 1 q),by simp only;omega,hm2⟩,?_,by simp only;omega⟩
     refine(GS.to (l':=[(.o 2,It.box [TV.d (.sl (rts g.rs)),TV.d (.sl (nS g.ls))]),(.s 2,It.v (.ptr (.o 2) 0)),(.o 4,It.box [TV.d (.int .i64 0),TV.c (Value.slice none 0 0)]),(.s 4,It.v (.ptr (.o 4) 0)),(.s 5,It.v (.d (.int .i64 0))),(.s 6,It.v (.ptr (.o 6) 0)),(.s 7,It.v (.clo 57 [TV.ptr (.o 6) 0])),(.s 35,It.v (.d (.sl (rts g.rs)))),(.s 36,It.v (.d (.int .i64 g.rs.length))),(.o 6,It.box [TV.d (.int .i64 n),TV.aW 5900 (qY m x.id 1 q).length]),(.o 5900,It.row 149 4 (dd ((qY m x.id 1 q).map Ad.cs)) false),(.s 37,It.v (.d (.int .i64 i))),
      (.o 9,It.box [TV.d (.int .i64 x.id),TV.d (.bool x.cap)]),(.s 9,It.v (.ptr (.o 9) 0)),
      (.s 50,It.v (.d (.sl (List.map (fun n=>[D.int .i64 n]) N)))),(.s 51,It.v (.d (.int .i64 N.length))),(.s 52,It.v (.d (.int .i64 ((j:Int)+1))))]) (by simp)).trans ?_
     exact GS.ren' 5900 60 (by decide) (by simp) (by simp)
    ·have hjz :¬(j:Int)<N.length:=by omega
     rw[aS (by omega)]at j2
     simp -dsimp[hjz,wrap_i64 (n:=(i:Int)+1) (by omega) (by omega)];exact⟨⟨(i+1,m),by simp only;omega,j2.trans hi2⟩,GS.to (by simp),by simp only;omega⟩
  ·have hiz :¬(i:Int)<g.rs.length:=by omega
   rw[show g.rs.take i=g.rs from aS (by omega)]at i2
   have hF:l=af8 g:=i2;simp -dsimp[hiz];refine Fin.box (.o 4) rfl ?_;simp -dsimp;refine Fin.of ?_;rw[←hF];simp[rX,wZ]
def g34:aX:=⟨[⟨1,true⟩,⟨2,true⟩],[⟨1,2,3,1,2⟩]⟩
theorem ZV:jo g34=0:=by decide+kernel
theorem afi:lY g34 = [⟨1,2,3⟩,⟨2,1,1⟩]:=by unfold lY aeW rE g34;simp[List.mergeSort,Lr,Lib.compareInt]
theorem ang:zy (lY g34) [2] (2^[(2:Int)].length-1) 1=3:=by rw[afi];decide+kernel
theorem ala:vJ (kE (lY g34) [2] (2^[(2:Int)].length)) (2^[(2:Int)].length-1) 1 [(1,2)]:=by rw[afi];exact .arc (u:=2) (p:=0) (by decide+kernel) (by decide) (.base (by decide+kernel))
def l34:List Ad:=[⟨0,1,3,1⟩,⟨1,1,1,2⟩,⟨2,2,3,2⟩,⟨3,2,1,1⟩]
theorem alm:af8 g34=l34:=by decide+kernel
theorem akG:BR 8 l34:=⟨by decide,by decide,by decide,by decide,by decide,by decide,by decide,by decide⟩
theorem alu:Nr 1 [(1,2)]:=⟨by decide,by decide,by decide,by decide,by decide,by decide⟩
theorem alR:UC l34 1 [(1,2)] [2]:=⟨by decide,by decide,fun x hx=>YC.2 (.inr ⟨(1,2),by simp,by simp at hx;simp[hx]⟩),by decide⟩
def p34:Pk:=⟨0,0,0,0,4,0,0,0,0#64,ByteArray.empty⟩
def q34:Pk:=pkE p34 8 (tK l34 (qF [2] [(1,2)]))
theorem P7:tK l34 (qF [2] [(1,2)])=6#64:=by decide+kernel
theorem ahD:q34.ok=true:=by unfold q34;rw[P7];decide+kernel
def okB(g:aX)(l:List Ad):Nat→List (Int×Pk)→sG→Bool
 | 0,Q,_=>Q.isEmpty
 | _+1,[],_=>true
 | n+1,q::Q,t=>q.2.ok&&(decide (q.2.ttl≠0)&&((xG l q).all (fun c=>(price g.ls q.1 c.1).isSome)&&(decide ((Af l q t).cr.length≤2000)&&okB g l n (Q++xG l q) (Af l q t))))
theorem ahc{g:aX}{l:List Ad}:∀{n:Nat} {Q:List (Int×Pk)} {t:sG},okB g l n Q t=true→okE g l n Q t
 | 0,Q,t,h=>by simpa[okB,okE]using h
 | n+1,[],t,h=>trivial
 | n+1,q::Q,t,h=>by simp only[okB,aG,decide_eq_true_eq,bM]at h;exact⟨h.1,h.2.1,h.2.2.1,h.2.2.2.1,ahc h.2.2.2.2⟩
theorem aoN:okE g34 l34 3 [(1,q34)] qV:=by unfold q34;rw[P7];exact ahc (by decide+kernel)
theorem ao1:(yK l34 3 [(1,q34)] qV).dl.map (·.1) = [2]:=by unfold q34;rw[P7];decide+kernel
theorem ao4:zu [(1,2)] = [(1,2)]:=by simp[zu]
theorem abr:Contract Tryz.prog 6 [] [] (.d (.bool true)) [] []:=by
 have hch:=Uo g34 ZV 1 [2] (by decide) (by decide) (by decide) (by decide) (by decide) (by rw[ang];decide) [(1,2)] ala (by decide);rw[ang,ao4]at hch
 have hfu:=ai9 g34 ZV 8 (by decide) (by decide);rw[alm]at hfu
 have hpk:=TR 8 l34 akG 1 [(1,2)] alu [2] alR p34 ahD;have hrn:=ahX 8 l34 akG (by decide) g34 ZV q34 ahD rfl rfl 1 (by decide) 3 (by decide) aoN;have hr:=ao1;generalize yK l34 3 [(1,q34)] qV=R at hrn hr;obtain⟨dl,cr,ls⟩:=R;simp only at hr;obtain⟨x,dl',rfl,hx,hdl⟩:=List.map_eq_cons_iff.1 hr;obtain rfl:dl' = []:=by simpa using hdl
 have hq:pkE p34 8 (tK l34 (qF [2] [(1,2)]))=q34:=rfl;rw[hq]at hpk
 generalize q34=q at hpk hrn;generalize l34=l at hfu hpk hrn;obtain⟨x1,x2⟩:=x;obtain rfl:x1=2:=hx;simp only[eU,g34,rts,nS,aC,dQ,Rt.cs,Lk.cs,ints,vw,rX,sH,Pk.cs,p34,Gl,rF,List.map]at hch hfu hpk hrn;refine ay Tryz.func6 rfl (fun E0=>?_);refine iC.sound (g:=.mk) (ow:=[]) (kp:=(kb 0x7ff)) ?_
 rw[Tryz.ntmps6];simp -dsimp;refine aI.of hch [] 0 ?_;simp -dsimp;and_intros;all_goals try first|rfl|omega|exact⟨by kernel_rfl⟩
 refine aI.of hfu [] 0 ?_;simp -dsimp;and_intros;all_goals try first|rfl|omega|exact⟨by kernel_rfl⟩
 refine aI.of hpk [] 0 ?_;simp -dsimp;and_intros;all_goals try first|rfl|omega|exact⟨by kernel_rfl⟩
 refine aI.of hrn [] 0 ?_;simp -dsimp;and_intros;all_goals try first|rfl|omega|exact⟨by kernel_rfl⟩
 refine Fin.of ?_;simp
end Go.Proofs
