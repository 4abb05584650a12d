/-
  What functions of the program compute, stated as contracts over plain data; the conditions of each stand in its own statement.
-/
import Derived.Test.YtboimfkommpglaaGreatDoorZA29
import Derived.Test.YtboimfkommpglaaGreatDoorZA58
import Derived.Test.YtboimfkommpglaaGreatDoorZA28
import Derived.Test.YtboimfkommpglaaGreatDoorZA10
import Derived.Test.YtboimfkommpglaaGreatDoorZA14
import Derived.Test.YtboimfkommpglaaGreatDoorZA17
import Derived.Test.YtboimfkommpglaaGreatDoorZA27
set_option linter.unusedSimpArgs false
set_option linter.unusedVariables false
set_option maxRecDepth 100000
set_option maxHeartbeats 16000000
namespace Go.Proofs
open Go Go.Tr
def bD(T:Tp)(most:Int):ay×Pn×List Tb×Tp:=
 ((bW T most).1,(dh (bW T most).2 (bW T most).1.rs 0).1,tabs (bW T most).1 (dh (bW T most).2 (bW T most).1.rs 0).1 (bW T most).1.rs,(dh (bW T most).2 (bW T most).1.rs 0).2)
theorem eF(T:Tp){most:Int}(hm:1≤most∧most≤8):QC most (bD T most).1 (bD T most).2.1 (bD T most).2.2.1:=by
 have h:=uj T hm;have hp:=qE h (by omega) (bW T most).2;exact⟨h,uI hp,hp.len,hp.bF,rfl⟩
theorem wQ(T:Tp){most:Int}(hm:1≤most∧most≤8):ak (bD T most).2.2.2=ak T∧(bD T most).2.1.es.length≤24∧1≤(bD T most).1.rs.length∧(bD T most).1.rs.length≤24∧(bD T most).1.Sm∧(bD T most).2.2.1.length≤24∧DL (bD T most).2.2.1:=by
 have hf:=vS T (most:=most) ⟨hm.1,by omega⟩;have hs:=fO T (most:=most) ⟨hm.1,by omega⟩;have hv:=eF T hm;obtain⟨h1,h2⟩:=fV (bW T most).2 (bW T most).1.rs;have ht:(bD T most).2.2.1.length≤24:=Nat.le_trans (oU _ _) hs.1;exact⟨h1.trans (by simp),Nat.le_trans h2 hs.1,hf.r1,hs.1,hf.sm,ht,⟨by omega,fun b hb=>Bc (by
  rw[hv.tab]at hb
  exact m_ hv.top.ok hv.plan b hb)⟩⟩
theorem CG(T:Tp)(hT:ak T)(most:Int)(hm:1≤most∧most≤8):Contract Tryz.prog 28 [.ptr (.x 0) 0,.d (.int .i64 most)] [aJ T] (.rG [aH (bD T most).1,bI (bD T most).2.1,.aB 6 (bD T most).2.2.1.length]) [aJ (bD T most).2.2.2] [(6,.row 65 4 (dd (oq (bD T most).2.2.1)) false)]:=by
 refine aj Tryz.func28 rfl (fun E0=>?_);refine cO.sound (g:=.mk) (ow:=[]) (kp:=(fun k=>k==0||k==1||k==4||k==5||k==6||k==7||k==8||k==9)) ?_;rw[Tryz.ntmps28];simp -dsimp;refine ah.of (rV T hT most ⟨hm.1,by omega⟩) [.x 0] 0 ?_;have kG:ak (bW T most).2:=by simpa using hT
 have hsm:=fO T (most:=most) ⟨hm.1,by omega⟩;have hD:=eF T hm;have hok:=hD.top.ok;have hpl:=hD.plan;clear hD;unfold bD at hok hpl⊢;simp only at hok hpl⊢;generalize bW T most=G at kG hsm hok hpl⊢;simp -dsimp[aH];and_intros;all_goals try first|rfl|omega|exact⟨by kernel_rfl⟩
 refine ah.of (xu G.2 kG G.1.rs G.1.ls (by omega) 0 (by omega)) [.x 0] 0 ?_;obtain⟨kP,lP⟩:=fV G.2 G.1.rs;have kG:ak (dh G.2 G.1.rs 0).2:=kP.symm▸kG;clear kP;generalize dh G.2 G.1.rs 0=p at kG lP hpl⊢;simp -dsimp[aH,bI];and_intros;all_goals try first|rfl|omega|exact⟨by kernel_rfl⟩
 refine ah.of (yC G.1 ⟨by omega,by omega⟩ hok p.1 hpl (by omega)) [] 0 ?_;generalize tabs G.1 p.1 G.1.rs=l;simp -dsimp[aH,bI];and_intros;all_goals try first|rfl|omega|exact⟨by kernel_rfl⟩
 refine Fin.of ?_;simp[aH,bI]
theorem vN(T:Tp)(hT:ak T)(most:Int)(hm:1≤most∧most≤8):Contract Tryz.prog 28 [.ptr (.x 0) 0,.d (.int .i64 most)] [aJ T] (.rG [aH (bD T most).1,bI (bD T most).2.1,.d (.sl (oq (bD T most).2.2.1))]) [aJ (bD T most).2.2.2] []:=by
 refine aj Tryz.func28 rfl (fun E0=>?_);refine cO.sound (g:=.mk) (ow:=[]) (kp:=(fun k=>k==0||k==1||k==4||k==5||k==6||k==7||k==8||k==9)) ?_;rw[Tryz.ntmps28];simp -dsimp;refine ah.of (rV T hT most ⟨hm.1,by omega⟩) [.x 0] 0 ?_;have kG:ak (bW T most).2:=by simpa using hT
 have hsm:=fO T (most:=most) ⟨hm.1,by omega⟩;have hD:=eF T hm;have hok:=hD.top.ok;have hpl:=hD.plan;clear hD;unfold bD at hok hpl⊢;simp only at hok hpl⊢;generalize bW T most=G at kG hsm hok hpl⊢;simp -dsimp[aH];and_intros;all_goals try first|rfl|omega|exact⟨by kernel_rfl⟩
 refine ah.of (xu G.2 kG G.1.rs G.1.ls (by omega) 0 (by omega)) [.x 0] 0 ?_;obtain⟨kP,lP⟩:=fV G.2 G.1.rs;have kG:ak (dh G.2 G.1.rs 0).2:=kP.symm▸kG;clear kP;generalize dh G.2 G.1.rs 0=p at kG lP hpl⊢;have hall:=FY G.1 ⟨by omega,by omega⟩ p.1 (by omega);rw[EG hok hpl]at hall
 simp only[aH,bI,allT]at hall;rw[show(tabs G.1 p.1 G.1.rs).map Tb.cs=oq (tabs G.1 p.1 G.1.rs) from rfl]at hall
 generalize tabs G.1 p.1 G.1.rs=l at hall⊢;simp -dsimp[aH,bI];and_intros;all_goals try first|rfl|omega|exact⟨by kernel_rfl⟩
 refine ah.of hall [] 0 ?_;simp -dsimp[aH,bI];and_intros;all_goals try first|rfl|omega|exact⟨by kernel_rfl⟩
 refine Fin.of ?_;simp[aH,bI]
theorem FH(t:dQ)(h1:t.dl.length≤100000000)(h2:t.cr.length≤100000000)(h3:t.ls.length≤100000000):Contract Tryz.prog 43 [qG t,qG t] [] (.d (.bool true)) [] []:=by
 refine aj Tryz.func43 rfl (fun E0=>?_);refine cO.sound (g:=.mk) (ow:=[]) (kp:=(fun k=>k==0||k==1||k==2||k==3||k==4||k==5||k==6||k==7||k==32||k==37||k==50||k==55||k==68||k==73||k==86)) ?_;rw[Tryz.ntmps43];simp -dsimp[qG];try refine⟨?_,⟨by kernel_rfl⟩⟩
 refine aN.of [] (fun k=>k==0||k==1||k==2||k==3||k==4||k==5||k==6||k==7||k==32||k==37||k==50||k==55||k==68||k==73||k==86) (ι:={i:Nat // i≤t.dl.length∧True}) (fun z=>[(Pl.o 2,It.box [TV.d (.sl (List.map lT t.dl)),TV.d (.sl (List.map lJ t.cr)),TV.d (.sl (List.map qO t.ls))]),(Pl.s 2,It.v (.ptr (Pl.o 2) 0)),(Pl.o 3,It.box [TV.d (.sl (List.map lT t.dl)),TV.d (.sl (List.map lJ t.cr)),TV.d (.sl (List.map qO t.ls))]),(Pl.s 3,It.v (.ptr (Pl.o 3) 0)),(Pl.s 4,It.v (.d (.bool false))),(Pl.s 5,It.v (.d (.int .i64 z.1)))]) (fun z=>t.dl.length-z.1) ⟨0,by omega,trivial⟩ ?_ ?_
 ·exact GS.to (by simp)
 rintro⟨i,i1,_⟩;by_cases hi:i<t.dl.length
 ·have hiz:(i:Int)<t.dl.length:=by omega
  have hg:t.dl[i]? = some t.dl[i]:=List.getElem?_eq_getElem hi;generalize t.dl[i]=x at hg;simp -dsimp[hg,hiz,lT,Pk.cs,bv,wrap_i64 (n:=(i:Int)+1) (by omega) (by omega)];and_intros;all_goals try first|omega|exact⟨by kernel_rfl⟩
  exact⟨⟨i+1,by omega,trivial⟩,GS.to (by simp[]),by simp;omega⟩
 have hiz :¬(i:Int)<t.dl.length:=by omega
 simp -dsimp[hiz];try refine⟨?_,⟨by kernel_rfl⟩⟩
 clear hi hiz i1
 refine aN.of [] (fun k=>k==0||k==1||k==2||k==3||k==4||k==5||k==6||k==7||k==32||k==37||k==50||k==55||k==68||k==73||k==86) (ι:={i:Nat // i≤t.cr.length∧True}) (fun z=>[(Pl.o 2,It.box [TV.d (.sl (List.map lT t.dl)),TV.d (.sl (List.map lJ t.cr)),TV.d (.sl (List.map qO t.ls))]),(Pl.s 2,It.v (.ptr (Pl.o 2) 0)),(Pl.o 3,It.box [TV.d (.sl (List.map lT t.dl)),TV.d (.sl (List.map lJ t.cr)),TV.d (.sl (List.map qO t.ls))]),(Pl.s 3,It.v (.ptr (Pl.o 3) 0)),(Pl.s 4,It.v (.d (.bool false))),(Pl.s 6,It.v (.d (.int .i64 z.1)))]) (fun z=>t.cr.length-z.1) ⟨0,by omega,trivial⟩ ?_ ?_
 ·exact GS.to (by simp)
 rintro⟨i,i1,_⟩;by_cases hi:i<t.cr.length
 ·have hiz:(i:Int)<t.cr.length:=by omega
  have hg:t.cr[i]? = some t.cr[i]:=List.getElem?_eq_getElem hi;generalize t.cr[i]=x at hg;simp -dsimp[hg,hiz,lJ,Pk.cs,bv,wrap_i64 (n:=(i:Int)+1) (by omega) (by omega)];and_intros;all_goals try first|omega|exact⟨by kernel_rfl⟩
  exact⟨⟨i+1,by omega,trivial⟩,GS.to (by simp[]),by simp;omega⟩
 have hiz :¬(i:Int)<t.cr.length:=by omega
 simp -dsimp[hiz];try refine⟨?_,⟨by kernel_rfl⟩⟩
 clear hi hiz i1
 refine aN.of [] (fun k=>k==0||k==1||k==2||k==3||k==4||k==5||k==6||k==7||k==32||k==37||k==50||k==55||k==68||k==73||k==86) (ι:={i:Nat // i≤t.ls.length∧True}) (fun z=>[(Pl.o 2,It.box [TV.d (.sl (List.map lT t.dl)),TV.d (.sl (List.map lJ t.cr)),TV.d (.sl (List.map qO t.ls))]),(Pl.s 2,It.v (.ptr (Pl.o 2) 0)),(Pl.o 3,It.box [TV.d (.sl (List.map lT t.dl)),TV.d (.sl (List.map lJ t.cr)),TV.d (.sl (List.map qO t.ls))]),(Pl.s 3,It.v (.ptr (Pl.o 3) 0)),(Pl.s 4,It.v (.d (.bool false))),(Pl.s 7,It.v (.d (.int .i64 z.1)))]) (fun z=>t.ls.length-z.1) ⟨0,by omega,trivial⟩ ?_ ?_
 ·exact GS.to (by simp)
 rintro⟨i,i1,_⟩;by_cases hi:i<t.ls.length
 ·have hiz:(i:Int)<t.ls.length:=by omega
  have hg:t.ls[i]? = some t.ls[i]:=List.getElem?_eq_getElem hi;generalize t.ls[i]=x at hg;simp -dsimp[hg,hiz,qO,Pk.cs,bv,wrap_i64 (n:=(i:Int)+1) (by omega) (by omega)];and_intros;all_goals try first|omega|exact⟨by kernel_rfl⟩
  exact⟨⟨i+1,by omega,trivial⟩,GS.to (by simp[]),by simp;omega⟩
 have hiz :¬(i:Int)<t.ls.length:=by omega
 simp -dsimp[hiz];try refine⟨?_,⟨by kernel_rfl⟩⟩
 clear hi hiz i1;refine Fin.of ?_;simp
theorem Qi(t:dQ)(h1:t.dl.length≤100000000)(h3:t.ls.length≤100000000)(B:BitVec 64):Contract Tryz.prog 46 [qG t,.d (bv B)] [] (.d (.bool (EM t B))) [] []:=by
 refine aj Tryz.func46 rfl (fun E0=>?_);refine cO.sound (g:=.mk) (ow:=[]) (kp:=(fun k=>k==0||k==1||k==2||k==4||k==5||k==6||k==7||k==8||k==13||k==31||k==39||k==59)) ?_;rw[Tryz.ntmps46];simp -dsimp[qG];try refine⟨?_,⟨by kernel_rfl⟩⟩
 unfold EM;refine aN.of [] (fun k=>k==0||k==1||k==2||k==4||k==5||k==6||k==7||k==8||k==13||k==31||k==39||k==59) (ι:={z:Nat×BitVec 64 // z.1≤t.dl.length∧Ai (t.dl.map fun d=>d.2.bits) 0#64=Ai ((t.dl.drop z.1).map fun d=>d.2.bits) z.2})
  (fun z=>[(Pl.s 1,It.v (.d (.int .u64 (tn B)))),(Pl.o 2,It.box [TV.d (.sl (List.map lT t.dl)),TV.d (.sl (List.map lJ t.cr)),TV.d (.sl (List.map qO t.ls))]),(Pl.s 2,It.v (.ptr (Pl.o 2) 0)),(Pl.s 4,It.v (.d (.bool false))),(Pl.s 5,It.v (.d (.int IntKind.u64 (tn z.1.2)))),(Pl.s 6,It.v (.d (.int .i64 z.1.1)))])
  (fun z=>t.dl.length-z.1.1) ⟨(0,0#64),by simp,rfl⟩ ?_ ?_
 ·exact GS.to (by simp[bv])
 rintro⟨⟨i,S⟩,i1,i2⟩;simp only at i1 i2;by_cases hi:i<t.dl.length
 ·have hiz:(i:Int)<t.dl.length:=by omega
  have hg:t.dl[i]? = some t.dl[i]:=List.getElem?_eq_getElem hi;have hd:t.dl.drop i=t.dl[i]::t.dl.drop (i+1):=List.drop_eq_getElem_cons hi;generalize t.dl[i]=x at hg hd;rw[hd,List.map_cons,Ai]at i2
  have hc:=Og x.2.bits;simp only[bv]at hc;simp -dsimp[hg,hiz,lT,Pk.cs,bv];and_intros;all_goals try first|omega|exact⟨by kernel_rfl⟩
  refine ah.of hc [] 0 ?_;by_cases c0:pc x.2.bits=1
  ·by_cases c1:S&&&x.2.bits=0#64
   ·rw[if_neg (by simp[c0,c1])]at i2
    simp -dsimp[hg,hiz,lT,Pk.cs,bv,c0,c1,wrap_i64 (n:=(i:Int)+1) (by omega) (by omega)];and_intros;all_goals try first|omega|exact⟨by kernel_rfl⟩
    exact⟨⟨(i+1,S|||x.2.bits),by dsimp only;omega,i2⟩,GS.to (by simp),by simp;omega⟩
   ·rw[if_pos (.inr c1)]at i2
    simp -dsimp[hg,hiz,lT,Pk.cs,bv,c0,c1];and_intros;all_goals try first|omega|exact⟨by kernel_rfl⟩
    refine Fin.of ?_;simp[i2]
  ·have Jr :¬(pc x.2.bits:Int)=1:=by omega
   rw[if_pos (.inl c0)]at i2
   simp -dsimp[hg,hiz,lT,Pk.cs,bv,c0,Jr];and_intros;all_goals try first|omega|exact⟨by kernel_rfl⟩
   refine Fin.of ?_;simp[i2]
 have hiz :¬(i:Int)<t.dl.length:=by omega
 have e0:t.dl.drop i = []:=List.drop_eq_nil_of_le (by omega);rw[e0,List.map_nil,Ai]at i2
 simp -dsimp[hiz];try refine⟨?_,⟨by kernel_rfl⟩⟩
 rw[i2];simp only;clear hi hiz i1 i2 e0;refine aN.of [] (fun k=>k==0||k==1||k==2||k==4||k==5||k==6||k==7||k==8||k==13||k==31||k==39||k==59) (ι:={z:Nat×BitVec 64 // z.1≤t.ls.length∧oN (t.ls.map fun d=>d.2) S=oN ((t.ls.drop z.1).map fun d=>d.2) z.2})
  (fun z=>[(Pl.s 1,It.v (.d (.int .u64 (tn B)))),(Pl.o 2,It.box [TV.d (.sl (List.map lT t.dl)),TV.d (.sl (List.map lJ t.cr)),TV.d (.sl (List.map qO t.ls))]),(Pl.s 2,It.v (.ptr (Pl.o 2) 0)),(Pl.s 4,It.v (.d (.bool false))),(Pl.s 5,It.v (.d (.int IntKind.u64 (tn z.1.2)))),(Pl.s 8,It.v (.d (.int .i64 z.1.1)))])
  (fun z=>t.ls.length-z.1.1) ⟨(0,S),by simp,rfl⟩ ?_ ?_
 ·exact GS.to (by simp)
 rintro⟨⟨i,R⟩,i1,i2⟩;simp only at i1 i2;by_cases hi:i<t.ls.length
 ·have hiz:(i:Int)<t.ls.length:=by omega
  have hg:t.ls[i]? = some t.ls[i]:=List.getElem?_eq_getElem hi;have hd:t.ls.drop i=t.ls[i]::t.ls.drop (i+1):=List.drop_eq_getElem_cons hi;generalize t.ls[i]=x at hg hd;rw[hd,List.map_cons,oN]at i2
  by_cases c0:x.2=0#64
  ·rw[if_pos (.inl c0)]at i2
   simp -dsimp[hg,hiz,qO,bv,c0];and_intros;all_goals try first|omega|exact⟨by kernel_rfl⟩
   refine Fin.of ?_;simp[i2]
  ·by_cases c1:R&&&x.2=0#64
   ·rw[if_neg (by simp[c0,c1])]at i2
    simp -dsimp[hg,hiz,qO,bv,c0,c1,wrap_i64 (n:=(i:Int)+1) (by omega) (by omega)];and_intros;all_goals try first|omega|exact⟨by kernel_rfl⟩
    exact⟨⟨(i+1,R|||x.2),by dsimp only;omega,i2⟩,GS.to (by simp),by simp;omega⟩
   ·rw[if_pos (.inr c1)]at i2
    simp -dsimp[hg,hiz,qO,bv,c0,c1];and_intros;all_goals try first|omega|exact⟨by kernel_rfl⟩
    refine Fin.of ?_;simp[i2]
 have hiz :¬(i:Int)<t.ls.length:=by omega
 have e0:t.ls.drop i = []:=List.drop_eq_nil_of_le (by omega);rw[e0,List.map_nil,oN]at i2
 simp -dsimp[hiz];try refine⟨?_,⟨by kernel_rfl⟩⟩
 rw[i2];refine Fin.of ?_;simp
def nX(l:List (Int×Int))(a b:Int):Bool:=l.any fun x=>(decide (x.1=a)&&decide (x.2=b))||(decide (x.1=b)&&decide (x.2=a))
def xJ(g:ay)(fl:List (Int×Int))(fr:List Int):ay:=
 if cZ g=0 then ⟨g.rs.filter fun x=>!decide (x.id∈fr),g.ls.filter fun x=>!decide (x.a∈fr)&&(!decide (x.b∈fr) && !nX fl x.a x.b)⟩else ⟨[],[]⟩
theorem FV{g:ay}(h:cZ g=0)(fl:List (Int×Int))(fr:List Int):cZ (xJ g fl fr)=0:=by
 have hg:=aU h;have hr:=hg.rpw;have hl:=hg.Zu;unfold xJ;rw[if_pos h];have lk:∀x∈g.ls,((1≤x.ca∧x.ca≤1000)∧(1≤x.cb∧x.cb≤1000)∧0≤x.cap∧x.cap≤1000)∧(aY g.rs x.a=true∧aY g.rs x.b=true)∧x.a<x.b:=fun x hx=>by
  have c:=List.any_eq_false.1 hg.cost x hx;have e:=List.any_eq_false.1 hg.ends x hx;have a:=List.any_eq_false.1 hg.ab x hx;simp[Lk.bad,inB]at c
  simp at e a;refine⟨⟨?_,?_,?_⟩,⟨e.1,e.2⟩,a⟩<;>omega
 refine oV (Nat.le_trans (List.length_filter_le _ _) hg.nr) (Nat.le_trans (List.length_filter_le _ _) hg.nl) (fun x hx=>?_) (hr.sublist List.filter_sublist) (fun x hx=>(lk x (List.mem_filter.1 hx).1).1) (fun x hx=>?_) (fun x hx=>(lk x (List.mem_filter.1 hx).1).2.2) (hl.sublist List.filter_sublist)
 ·have:=List.any_eq_false.1 hg.ids x (List.mem_filter.1 hx).1;simp[inB]at this
  omega
 ·obtain⟨h1,h2⟩:=List.mem_filter.1 hx;have h3:=(lk x h1).2.1;simp only[Bool.and_eq_true,Bool.not_eq_true',decide_eq_false_iff_not]at h2;have sub:∀{r:Int},aY g.rs r=true→r∉fr→aY (g.rs.filter fun x=>!decide (x.id∈fr)) r=true:=fun {r} h4 h5=>by
   obtain⟨y,hy,rfl⟩:=List.mem_map.1 (dH.1 h4);exact dH.2 (List.mem_map.2 ⟨y,List.mem_filter.2 ⟨hy,by simpa using h5⟩,rfl⟩)
  exact⟨sub h3.1 h2.1,sub h3.2 h2.2.1⟩
theorem Jf{p:Pn}{rs:List Int}{l:List Tb}(h:DN p rs l){q:Pk}(hq:zo p q){r:Int}{b:Tb}(hb:bH l r=some b):q.mode≠2∧¬(q.bF≠b.sd∨q.len≠b.len):=by
 have hsd:=h.sd b (eY hb).1;refine⟨by rw[hq.mode];decide,?_⟩;rw[hsd.1,hsd.2,hq.bF,hq.len];simp
theorem Ub{g:ay}(h0:cZ g=0){p:Pn}{rs:List Int}{l:List Tb}(h:DN p rs l){q:Pk}(hq:zo p q)(r:Int):
  mZ g l q r=if aY g.rs r=true∧(bH l r).isSome=true then(runT g l r q,0)else(gX,4):=by
 unfold mZ;rw[if_neg (by simp[h0,h.all,hq.ok])];by_cases hr:aY g.rs r=true
 ·rw[if_neg (by simp[hr])];cases hf:bH l r with
  | none=>simp
  | some b=>
    obtain⟨h1,h2⟩:=Jf h hq hf;simp only;rw[if_neg h1,if_neg h2,if_pos ⟨hr,rfl⟩]
 ·rw[if_pos (by simpa using hr),if_neg (by simp[hr])]
theorem Yy{g:ay}(h0:cZ g=0){p:Pn}{rs:List Int}{l:List Tb}(h:DN p rs l){q:Pk}(hq:zo p q)(r:Int):
  ((mZ g l q r).2≠0→(mZ g l q r).2=4)∧((mZ g l q r).2=0→EM (mZ g l q r).1 q.bits=true∧∀c∈(mZ g l q r).1.cr,(price g.ls c.1 c.2.1).isSome):=by
 rw[Ub h0 h hq r];split
 ·rename_i hc;have hI:=w_.first h0 h.all (h.fit hq) hc.1;exact⟨fun e=>absurd rfl e,fun _=>⟨O3 hI hc.2,fun c hc'=>((zf hI hc.2).cr c hc').2⟩⟩
 ·exact⟨fun _=>rfl,fun e=>by simp at e⟩
def jL(x:Int×Int):List D:=[.int .i64 x.1,.int .i64 x.2]
abbrev Fl:=List (Int×Int)×List Int
def rM(f:Fl):TV:=.agg [.d (.sl (f.1.map jL)),.d (ints f.2)]
def pX(T:Tp)(g:ay):Fl×Tp:=if g.rs.length=0 then(([],[]),T)else(([],[(g.rs.getD (au T g.rs.length).1.toNat ⟨0,false⟩).id]),(au T g.rs.length).2)
def vP(T:Tp)(g:ay):Fl×Tp:=
 let b:=au T g.ls.length
 let c:=au b.2 2
 let x:=g.ls.getD b.1.toNat XM
 ((if c.1=0 then [(x.b,x.a)]else [(x.a,x.b)],[]),c.2)
def dW(T:Tp)(g:ay):Fl×Tp:=
 if 0<g.ls.length then(if 0<(au T 3).1 then vP (au T 3).2 g else pX (au T 3).2 g)else pX T g
theorem yg(T:Tp)(g:ay):ak (pX T g).2=ak T:=by
 unfold pX;split<;>simp[dP]
theorem ES(T:Tp)(g:ay):ak (vP T g).2=ak T:=by
 unfold vP;simp[dP]
theorem nS(T:Tp)(g:ay):ak (dW T g).2=ak T:=by
 unfold dW;split
 ·split
  ·rw[ES,dP]
  ·rw[yg,dP]
 ·rw[yg]
theorem oC(T:Tp)(g:ay):(dW T g).1.1.length≤1∧(dW T g).1.2.length≤1:=by
 unfold dW vP pX;split
 ·split
  ·simp only;split<;>simp
  ·split<;>simp
 ·split<;>simp
def tJ(f:Fl):List (Nat×It):=[(6,It.row 157 2 (dd (f.1.map jL)) false),(7,It.row 3 1 (dd (dJ .i64 f.2)) false)]
def tK(f:Fl):TV:=.agg [.aB 6 f.1.length,.aB 7 f.2.length]
theorem D5(T:Tp)(hT:ak T)(g:ay)(hs:g.Sm):Contract Tryz.prog 95 [.ptr (.x 0) 0,aH g] [aJ T] (tK (dW T g).1) [aJ (dW T g).2] (tJ (dW T g).1):=by
 have hr:=hs.r;have hl:=hs.l;have key:∀T':Tp,True:=fun _=>trivial
 obtain⟨w,hw⟩:∃w,w=dW T g:=⟨_,rfl⟩
 rw[←hw];refine aj Tryz.func95 rfl (fun E0=>?_);refine cO.sound (g:=.mk) (ow:=[32,39,56,2000032,2000039,2000056]) (kp:=(fun k=>k==0||k==1||k==3||k==4||k==5||k==14||k==26||k==44)) ?_;rw[Tryz.ntmps95];by_cases c0:0<g.ls.length
 ·have Jr:(0:Int)<g.ls.length:=by omega
  have n3:=bn T hT 3 ⟨by omega,by omega⟩;have a1:=aC T 3;have a2:=bg T (n:=3) (by omega);have aO:=dP T 3;unfold dW at hw;rw[if_pos c0]at hw
  generalize au T 3=a at n3 a1 a2 aO hw;obtain⟨a,Ta⟩:=a;simp only at a1 a2 aO hw;simp -dsimp[aH,Jr,c0];refine ah.of n3 [.x 0] 0 ?_;by_cases c1:0<a
  ·rw[if_pos c1]at hw
   have hTa:ak Ta:=by rw[aO];exact hT
   have n4:=bn Ta hTa g.ls.length ⟨by omega,by omega⟩;unfold vP at hw;have b1:=aC Ta g.ls.length;have b2:=bg Ta (n:=g.ls.length) (by omega);have bO:=dP Ta g.ls.length;generalize au Ta g.ls.length=b at n4 b1 b2 bO hw;obtain⟨b,Tb⟩:=b;simp only at b1 b2 bO hw;have hTb:ak Tb:=by rw[bO];exact hTa
   obtain⟨k,rfl⟩:∃k:Nat,b=k:=⟨b.toNat,by omega⟩
   have hkl:k<g.ls.length:=by omega
   have hx:g.ls[k]? = some g.ls[k]:=List.getElem?_eq_getElem hkl;have hxd:g.ls.getD k XM=g.ls[k]:=by simp[hkl]
   rw[Int.toNat_natCast,hxd]at hw
   generalize g.ls[k]=x at hx hw;have hx':=o8 hx;have n5:=bn Tb hTb 2 ⟨by omega,by omega⟩;generalize au Tb 2=c at n5 hw;obtain⟨c,Tc⟩:=c;simp only at hw;simp -dsimp[c1];and_intros;all_goals try first|rfl|omega|exact⟨by kernel_rfl⟩
   refine ah.of n4 [.x 0] 0 ?_;simp -dsimp[hx',Lk.cs];and_intros;all_goals try first|rfl|omega|exact⟨by kernel_rfl⟩
   refine ah.of n5 [.x 0] 0 ?_;by_cases c2:c=0
   ·rw[if_pos c2]at hw
    simp -dsimp[c2];and_intros;all_goals try first|rfl|omega|exact⟨by kernel_rfl⟩
    refine Fin.gs ((GS.gq (l':=[(Pl.x 0,aJ Tc),(Pl.o 4,It.box [TV.aB 32 1,TV.aB 7 0]),(Pl.s 4,It.v (.ptr (Pl.o 4) 0)),(Pl.o 32,It.row 157 2 [[TV.d (.int .i64 x.b),TV.d (.int .i64 x.a)]] false),(Pl.o 7,It.row 3 1 [] false)]) (.o 4) 1 7 (cs:=[TV.aB 32 1,TV.c (.slice none 0 0)]) 3 1 rfl (by simp) (by simp) (by simp) (by simp)).trans
     (GS.ren' (l':=[(Pl.x 0,aJ Tc),(Pl.o 4,It.box [TV.aB 6 1,TV.aB 7 0]),(Pl.s 4,It.v (.ptr (Pl.o 4) 0)),(Pl.o 6,It.row 157 2 [[TV.d (.int .i64 x.b),TV.d (.int .i64 x.a)]] false),(Pl.o 7,It.row 3 1 [] false)]) 32 6 (by decide) (by simp) (by simp[aJ]))) ?_
    refine Fin.of ?_;simp[hw,tK,tJ,jL,dJ]
   ·rw[if_neg c2]at hw
    simp -dsimp[c2];and_intros;all_goals try first|rfl|omega|exact⟨by kernel_rfl⟩
    refine Fin.gs ((GS.gq (l':=[(Pl.x 0,aJ Tc),(Pl.o 4,It.box [TV.aB 39 1,TV.aB 7 0]),(Pl.s 4,It.v (.ptr (Pl.o 4) 0)),(Pl.o 39,It.row 157 2 [[TV.d (.int .i64 x.a),TV.d (.int .i64 x.b)]] false),(Pl.o 7,It.row 3 1 [] false)]) (.o 4) 1 7 (cs:=[TV.aB 39 1,TV.c (.slice none 0 0)]) 3 1 rfl (by simp) (by simp) (by simp) (by simp)).trans
     (GS.ren' (l':=[(Pl.x 0,aJ Tc),(Pl.o 4,It.box [TV.aB 6 1,TV.aB 7 0]),(Pl.s 4,It.v (.ptr (Pl.o 4) 0)),(Pl.o 6,It.row 157 2 [[TV.d (.int .i64 x.a),TV.d (.int .i64 x.b)]] false),(Pl.o 7,It.row 3 1 [] false)]) 39 6 (by decide) (by simp) (by simp[aJ]))) ?_
    refine Fin.of ?_;simp[hw,tK,tJ,jL,dJ]
  ·have hTa:ak Ta:=by rw[aO];exact hT
   rw[if_neg c1]at hw
   unfold pX at hw;have hgr:g.rs.length=0∨0<g.rs.length:=by omega
   rcases hgr with hg0|hg0
   ·have hgn:g.rs = []:=List.length_eq_zero_iff.1 hg0;rw[if_pos hg0]at hw
    simp -dsimp[hgn,c1];and_intros;all_goals try first|rfl|omega|exact⟨by kernel_rfl⟩
    refine Fin.gs ((GS.gq (l':=[(Pl.x 0,aJ Ta),(Pl.o 4,It.box [TV.aB 6 0,TV.c (.slice none 0 0)]),(Pl.s 4,It.v (.ptr (Pl.o 4) 0)),(Pl.o 6,It.row 157 2 [] false)]) (.o 4) 0 6 (cs:=[TV.c (.slice none 0 0),TV.c (.slice none 0 0)]) 157 2 rfl (by simp) (by simp) (by simp) (by simp)).trans
     (GS.gq (l':=[(Pl.x 0,aJ Ta),(Pl.o 4,It.box [TV.aB 6 0,TV.aB 7 0]),(Pl.s 4,It.v (.ptr (Pl.o 4) 0)),(Pl.o 6,It.row 157 2 [] false),(Pl.o 7,It.row 3 1 [] false)]) (.o 4) 1 7 (cs:=[TV.aB 6 0,TV.c (.slice none 0 0)]) 3 1 rfl (by simp) (by simp) (by simp) (by simp))) ?_
    refine Fin.of ?_;simp[hw,tK,tJ,jL,dJ]
   ·have hgn :¬g.rs = []:=fun e=>by rw[e]at hg0;simp at hg0
    have hg0' :¬g.rs.length=0:=by omega
    rw[if_neg hg0']at hw
    have n6:=bn Ta hTa g.rs.length ⟨by omega,by omega⟩;have e1:=aC Ta g.rs.length;have e2:=bg Ta (n:=g.rs.length) (by omega);generalize au Ta g.rs.length=b at n6 e1 e2 hw;obtain⟨b,Tz⟩:=b;simp only at e1 e2 hw;obtain⟨k,rfl⟩:∃k:Nat,b=k:=⟨b.toNat,by omega⟩
    have hkl:k<g.rs.length:=by omega
    have hx:g.rs[k]? = some g.rs[k]:=List.getElem?_eq_getElem hkl;have hxd:g.rs.getD k ⟨0,false⟩ = g.rs[k]:=by simp[hkl]
    rw[Int.toNat_natCast,hxd]at hw
    generalize g.rs[k]=x at hx hw;have hx':=fF hx;simp -dsimp[hgn,c1];and_intros;all_goals try first|rfl|omega|exact⟨by kernel_rfl⟩
    refine ah.of n6 [.x 0] 0 ?_;simp -dsimp[hx',Rt.cs];and_intros;all_goals try first|rfl|omega|exact⟨by kernel_rfl⟩
    refine Fin.gs ((GS.gq (l':=[(Pl.x 0,aJ Tz),(Pl.o 4,It.box [TV.aB 6 0,TV.aB 56 1]),(Pl.s 4,It.v (.ptr (Pl.o 4) 0)),(Pl.o 56,It.row 3 1 [[TV.d (.int .i64 x.id)]] false),(Pl.o 6,It.row 157 2 [] false)]) (.o 4) 0 6 (cs:=[TV.c (.slice none 0 0),TV.aB 56 1]) 157 2 rfl (by simp) (by simp) (by simp) (by simp)).trans
     (GS.ren' (l':=[(Pl.x 0,aJ Tz),(Pl.o 4,It.box [TV.aB 6 0,TV.aB 7 1]),(Pl.s 4,It.v (.ptr (Pl.o 4) 0)),(Pl.o 7,It.row 3 1 [[TV.d (.int .i64 x.id)]] false),(Pl.o 6,It.row 157 2 [] false)]) 56 7 (by decide) (by simp) (by simp[aJ]))) ?_
    refine Fin.of ?_;simp[hw,tK,tJ,jL,dJ]
 ·have c0e:g.ls.length=0:=by omega
  have c0n:g.ls = []:=List.length_eq_zero_iff.1 c0e;unfold dW pX at hw;rw[if_neg c0]at hw
  have hgr:g.rs.length=0∨0<g.rs.length:=by omega
  rcases hgr with hg0|hg0
  ·have hgn:g.rs = []:=List.length_eq_zero_iff.1 hg0;rw[if_pos hg0]at hw
   simp -dsimp[hgn,c0n,aH];and_intros;all_goals try first|rfl|omega|exact⟨by kernel_rfl⟩
   refine Fin.gs ((GS.gq (l':=[(Pl.x 0,aJ T),(Pl.o 4,It.box [TV.aB 6 0,TV.c (.slice none 0 0)]),(Pl.s 4,It.v (.ptr (Pl.o 4) 0)),(Pl.o 6,It.row 157 2 [] false)]) (.o 4) 0 6 (cs:=[TV.c (.slice none 0 0),TV.c (.slice none 0 0)]) 157 2 rfl (by simp) (by simp) (by simp) (by simp)).trans
    (GS.gq (l':=[(Pl.x 0,aJ T),(Pl.o 4,It.box [TV.aB 6 0,TV.aB 7 0]),(Pl.s 4,It.v (.ptr (Pl.o 4) 0)),(Pl.o 6,It.row 157 2 [] false),(Pl.o 7,It.row 3 1 [] false)]) (.o 4) 1 7 (cs:=[TV.aB 6 0,TV.c (.slice none 0 0)]) 3 1 rfl (by simp) (by simp) (by simp) (by simp))) ?_
   refine Fin.of ?_;simp[hw,tK,tJ,jL,dJ]
  ·have hgn :¬g.rs = []:=fun e=>by rw[e]at hg0;simp at hg0
   have hg0' :¬g.rs.length=0:=by omega
   rw[if_neg hg0']at hw
   have n6:=bn T hT g.rs.length ⟨by omega,by omega⟩;have e1:=aC T g.rs.length;have e2:=bg T (n:=g.rs.length) (by omega);generalize au T g.rs.length=b at n6 e1 e2 hw;obtain⟨b,Tz⟩:=b;simp only at e1 e2 hw;obtain⟨k,rfl⟩:∃k:Nat,b=k:=⟨b.toNat,by omega⟩
   have hkl:k<g.rs.length:=by omega
   have hx:g.rs[k]? = some g.rs[k]:=List.getElem?_eq_getElem hkl;have hxd:g.rs.getD k ⟨0,false⟩ = g.rs[k]:=by simp[hkl]
   rw[Int.toNat_natCast,hxd]at hw
   generalize g.rs[k]=x at hx hw;have hx':=fF hx;simp -dsimp[hgn,c0n,aH];and_intros;all_goals try first|rfl|omega|exact⟨by kernel_rfl⟩
   refine ah.of n6 [.x 0] 0 ?_;simp -dsimp[hx',Rt.cs];and_intros;all_goals try first|rfl|omega|exact⟨by kernel_rfl⟩
   refine Fin.gs ((GS.gq (l':=[(Pl.x 0,aJ Tz),(Pl.o 4,It.box [TV.aB 6 0,TV.aB 56 1]),(Pl.s 4,It.v (.ptr (Pl.o 4) 0)),(Pl.o 56,It.row 3 1 [[TV.d (.int .i64 x.id)]] false),(Pl.o 6,It.row 157 2 [] false)]) (.o 4) 0 6 (cs:=[TV.c (.slice none 0 0),TV.aB 56 1]) 157 2 rfl (by simp) (by simp) (by simp) (by simp)).trans
    (GS.ren' (l':=[(Pl.x 0,aJ Tz),(Pl.o 4,It.box [TV.aB 6 0,TV.aB 7 1]),(Pl.s 4,It.v (.ptr (Pl.o 4) 0)),(Pl.o 7,It.row 3 1 [[TV.d (.int .i64 x.id)]] false),(Pl.o 6,It.row 157 2 [] false)]) 56 7 (by decide) (by simp) (by simp[aJ]))) ?_
   refine Fin.of ?_;simp[hw,tK,tJ,jL,dJ]
def gV(g:ay):Nat→Fl→Tp→Fl×Tp
 | 0,f,T=>(f,T)
 | k+1,f,T=>gV g k (f.1++(dW T g).1.1,f.2++(dW T g).1.2) (dW T g).2
def vk(f:Fl)(T:Tp):Fl×Tp:=
 let a:=au T 9
 let b:=au a.2 9
 let c:=aK b.2 [0,77,-1]
 ((f.1++[(a.1,b.1)],f.2++[c.1]),c.2)
def jh(T:Tp)(g:ay):Fl×Tp:=
 let f:=dW T g
 let k:=au f.2 3
 let x:=gV g k.1.toNat f.1 k.2
 let o:=dD x.2 6
 if o.1=true then vk x.1 o.2 else(x.1,o.2)
theorem pY(g:ay):∀(k:Nat) (f:Fl) (T:Tp),ak (gV g k f T).2=ak T
 | 0,_,_=>rfl
 | k+1,f,T=>by rw[gV,pY g k,nS]
theorem BK(T:Tp)(g:ay):ak (jh T g).2=ak T:=by
 unfold jh vk;simp only;split
 ·simp only[Mc,dP,oW,pY,nS]
 ·simp only[dP,oW,pY,nS]
theorem tV(g:ay):∀(k:Nat) (f:Fl) (T:Tp),(gV g k f T).1.1.length≤f.1.length+k∧(gV g k f T).1.2.length≤f.2.length+k
 | 0,_,_=>by simp[gV]
 | k+1,f,T=>by
   have h1:=tV g k (f.1++(dW T g).1.1,f.2++(dW T g).1.2) (dW T g).2;have h2:=oC T g;simp only[List.length_append]at h1;rw[gV];omega
theorem zL(T:Tp)(g:ay):(jh T g).1.1.length≤5∧(jh T g).1.2.length≤5:=by
 have h1:=oC T g;have h2:=tV g (au (dW T g).2 3).1.toNat (dW T g).1 (au (dW T g).2 3).2;have h3:=bg (dW T g).2 (n:=3) (by omega);have h4:=aC (dW T g).2 3;unfold jh vk;simp only;split
 ·simp only[List.length_append,List.length_cons,List.length_nil];omega
 ·simp only;omega
theorem zI(T:Tp)(hT:ak T)(g:ay)(hs:g.Sm):Contract Tryz.prog 32 [.ptr (.x 0) 0,aH g] [aJ T] (rM (jh T g).1) [aJ (jh T g).2] []:=by
 obtain⟨w,hw⟩:∃w,w=jh T g:=⟨_,rfl⟩
 rw[←hw];unfold jh at hw;have h1:=D5 T hT g hs;have k1:ak (dW T g).2:=by rw[nS];exact hT
 have l1:=oC T g;generalize dW T g=a at h1 k1 l1 hw;obtain⟨f,T1⟩:=a;simp only at k1 l1 hw;have h2:=bn T1 k1 3 ⟨by omega,by omega⟩;have k2:ak (au T1 3).2:=by rw[dP];exact k1
 have n1:=aC T1 3;have n2:=bg T1 (n:=3) (by omega);generalize au T1 3=b at h2 k2 n1 n2 hw;obtain⟨k,T2⟩:=b;simp only at k2 n1 n2 hw;obtain⟨k,rfl⟩:∃j:Nat,k=j:=⟨k.toNat,by omega⟩
 rw[Int.toNat_natCast]at hw
 have hF:=fun T hT=>D5 T hT g hs
 simp only[tK,tJ,aH]at h1 hF;refine aj Tryz.func32 rfl (fun E0=>?_);refine cO.sound (g:=.mk) (ow:=[1000095]) (kp:=(fun k=>k==0||k==1||k==3||k==4||k==5||k==6||k==7||k==14||k==33)) ?_;rw[Tryz.ntmps32];simp -dsimp[aH];refine ah.of h1 [.x 0] 2000 ?_;simp -dsimp;and_intros;all_goals try first|rfl|omega|exact⟨by kernel_rfl⟩
 refine ah.of h2 [.x 0] 0 ?_;simp -dsimp;and_intros;all_goals try first|rfl|omega|exact⟨by kernel_rfl⟩
 refine aN.of [1000095] (fun k=>k==0||k==1||k==3||k==4||k==5||k==6||k==7||k==14||k==33) (ι:={z:Nat×Fl×Tp // z.1≤2∧ak z.2.2∧z.2.1.1.length+z.1≤3∧z.2.1.2.length+z.1≤3∧gV g k f T2=gV g z.1 z.2.1 z.2.2})
  (fun z=>[(Pl.s 0,It.v (.ptr (Pl.x 0) 0)),(Pl.x 0,aJ z.1.2.2),(Pl.o 3,It.box [TV.d (.sl (rts g.rs)),TV.d (.sl (dO g.ls))]),(Pl.s 3,It.v (.ptr (.o 3) 0)),(Pl.o 4,It.box [TV.c (.slice none 0 0),TV.c (.slice none 0 0)]),(Pl.s 4,It.v (.ptr (.o 4) 0)),
   (Pl.o 5,It.box [TV.aB 70 z.1.2.1.1.length,TV.aB 71 z.1.2.1.2.length]),(Pl.s 5,It.v (.ptr (.o 5) 0)),(Pl.o 70,It.row 157 2 (dd (z.1.2.1.1.map jL)) false),(Pl.o 71,It.row 3 1 (dd (dJ .i64 z.1.2.1.2)) false),(Pl.s 6,It.v (.d (.int .i64 z.1.1)))])
  (fun z=>z.1.1) ⟨(k,f,T2),by simp only;omega,k2,by simp only;omega,by simp only;omega,rfl⟩ ?_ ?_
 ·refine(GS.to (l':=[(Pl.s 0,It.v (.ptr (Pl.x 0) 0)),(Pl.x 0,aJ T2),(Pl.o 3,It.box [TV.d (.sl (rts g.rs)),TV.d (.sl (dO g.ls))]),(Pl.s 3,It.v (.ptr (.o 3) 0)),(Pl.o 4,It.box [TV.c (.slice none 0 0),TV.c (.slice none 0 0)]),(Pl.s 4,It.v (.ptr (.o 4) 0)),(Pl.o 5,It.box [TV.aB 2006 f.1.length,TV.aB 2007 f.2.length]),(Pl.s 5,It.v (.ptr (.o 5) 0)),
   (Pl.o 2006,It.row 157 2 (dd (f.1.map jL)) false),(Pl.o 2007,It.row 3 1 (dd (dJ .i64 f.2)) false),(Pl.s 6,It.v (.d (.int .i64 k)))]) (by simp)).trans
   ((GS.ren' (l':=[(Pl.s 0,It.v (.ptr (Pl.x 0) 0)),(Pl.x 0,aJ T2),(Pl.o 3,It.box [TV.d (.sl (rts g.rs)),TV.d (.sl (dO g.ls))]),(Pl.s 3,It.v (.ptr (.o 3) 0)),(Pl.o 4,It.box [TV.c (.slice none 0 0),TV.c (.slice none 0 0)]),(Pl.s 4,It.v (.ptr (.o 4) 0)),(Pl.o 5,It.box [TV.aB 70 f.1.length,TV.aB 2007 f.2.length]),(Pl.s 5,It.v (.ptr (.o 5) 0)),
   (Pl.o 70,It.row 157 2 (dd (f.1.map jL)) false),(Pl.o 2007,It.row 3 1 (dd (dJ .i64 f.2)) false),(Pl.s 6,It.v (.d (.int .i64 k)))]) 2006 70 (by decide) (by simp) (by simp[aJ])).trans (GS.ren' 2007 71 (by decide) (by simp) (by simp[aJ])))
 ·rintro⟨⟨i,F,T3⟩,i1,i2,i3,i4,i5⟩;simp only at i1 i2 i3 i4 i5;by_cases hi:0<i
  ·obtain⟨i,rfl⟩:∃j,i=j+1:=⟨i-1,by omega⟩
   have h3:=hF T3 i2;have k3:ak (dW T3 g).2:=by rw[nS];exact i2
   have l3:=oC T3 g;rw[gV]at i5
   generalize dW T3 g=a at h3 k3 l3 i5;obtain⟨x,T4⟩:=a;simp only at k3 l3 i5;have iz:(0:Int)<(i:Int)+1:=by omega
   have w1:IntKind.i64.wrap (i:Int)=(i:Int):=wrap_i64 (by omega) (by omega);have d1:dLen 2 (x.1.map jL):=iF 2 _ _ fun _=>rfl
   have d2:dLen 1 (dJ .i64 x.2):=iF 1 _ _ fun _=>rfl
   simp -dsimp[iz];and_intros;all_goals try first|rfl|omega|exact⟨by kernel_rfl⟩
   refine ah.of h3 [.x 0] 4000 ?_;simp -dsimp[iz,w1];and_intros;all_goals try first|omega|exact d1|exact d2|exact⟨by kernel_rfl⟩|rfl
   refine⟨⟨(i,(F.1++x.1,F.2++x.2),T4),by simp only;omega,k3,by simp only[List.length_append];omega,by simp only[List.length_append];omega,i5⟩,GS.to (by simp[dJ]),by simp⟩
  ·obtain rfl:i=0:=by omega
   rw[gV]at i5
   rw[i5]at hw
   have h4:=gK T3 i2 6 ⟨by omega,by omega⟩ ⟨by omega,by omega⟩;have k4:ak (dD T3 6).2:=by rw[oW];exact i2
   simp only at hw;generalize dD T3 6=o at h4 k4 hw;obtain⟨o,T4⟩:=o;simp only at k4 hw;simp -dsimp;and_intros;all_goals try first|rfl|omega|exact⟨by kernel_rfl⟩
   refine ah.of h4 [.x 0] 0 ?_;cases o with
   | false=>
     simp only[Bool.false_eq_true,if_false]at hw;simp -dsimp;and_intros;all_goals try first|rfl|omega|exact⟨by kernel_rfl⟩
     refine Fin.box (.o 4) rfl ?_;simp -dsimp;refine Fin.of ?_;simp[hw,rM,ints,dJ]
   | true=>
     simp only[if_true]at hw;unfold vk at hw;have h5:=bn T4 k4 9 ⟨by omega,by omega⟩;have k5:ak (au T4 9).2:=by rw[dP];exact k4
     generalize au T4 9=a at h5 k5 hw;obtain⟨a,T5⟩:=a;simp only at k5 hw;have h6:=bn T5 k5 9 ⟨by omega,by omega⟩;have k6:ak (au T5 9).2:=by rw[dP];exact k5
     generalize au T5 9=b at h6 k6 hw;obtain⟨b,T6⟩:=b;simp only at k6 hw;have h7:=fE T6 k6 [0,77,-1] (by simp) (by simp);generalize aK T6 [0,77,-1]=c at h7 hw;obtain⟨c,T7⟩:=c;simp only at hw;simp only[ints,List.map]at h7;simp -dsimp;and_intros;all_goals try first|omega|exact⟨by kernel_rfl⟩|rfl
     refine ah.of h5 [.x 0] 0 ?_;simp -dsimp;and_intros;all_goals try first|omega|exact⟨by kernel_rfl⟩|rfl
     refine ah.of h6 [.x 0] 0 ?_;simp -dsimp;and_intros;all_goals try first|omega|exact⟨by kernel_rfl⟩|rfl
     refine ah.of h7 [.x 0] 0 ?_;simp -dsimp;and_intros;all_goals try first|omega|exact⟨by kernel_rfl⟩|rfl
     refine Fin.box (.o 4) rfl ?_;simp -dsimp;refine Fin.of ?_;simp[hw,rM,ints,dJ,jL]
end Go.Proofs
