/-
  What functions of the program compute, stated as contracts over plain data; the conditions of each stand in its own statement.
-/
import Derived.Test.YtboimfkommpglaaGreatDoorZB21
import Derived.Test.YtboimfkommpglaaGreatDoorZB47
import Derived.Test.YtboimfkommpglaaGreatDoorZB30
import Derived.Test.YtboimfkommpglaaGreatDoorZB31
set_option linter.unusedSimpArgs false
set_option linter.unusedVariables false
set_option maxRecDepth 100000
set_option maxHeartbeats 16000000
namespace Go.Proofs
open Go Go.Tr
def aay(ls:List Lk)(j:Nat)(c:Int):List Lk:=match ls[j]? with
 | some x=>ls.set j ⟨x.a,x.b,c,x.cb,x.cap⟩
 | none=>ls
def Jj(g:bV)(T:Tp):bV×Tp:=
 if(bH T 4).1=0 then(⟨g.rs++[⟨(jW (bH T 4).2 [0,1,100]).1,false⟩],g.ls⟩,(jW (bH T 4).2 [0,1,100]).2)
 else if(bH T 4).1=1 then if 0<g.ls.length then
   (⟨g.rs,aay g.ls (bH (bH T 4).2 g.ls.length).1.toNat (jW (bH (bH T 4).2 g.ls.length).2 [0,1001]).1⟩,(jW (bH (bH T 4).2 g.ls.length).2 [0,1001]).2)else(g,(bH T 4).2)
 else if(bH T 4).1=2 then(⟨g.rs,g.ls++g.ls.take 1⟩,(bH T 4).2)
 else(⟨g.rs.drop 1,g.ls⟩,(bH T 4).2)
theorem aaB(g:bV):Contract Tryz.prog 63 [d_ g] [] (.d (.bool (decide (g.rs.length≤30)&&decide (g.ls.length≤70)))) [] []:=by
 refine aC Tryz.func63 rfl (fun E0=>?_);refine iK.sound (g:=.mk) (ow:=[]) (kp:=(kb 7)) ?_;rw[Tryz.ntmps63];by_cases c1:g.rs.length≤30
 ·have xB:(g.rs.length:Int)≤30:=by omega
  by_cases c2:g.ls.length≤70
  ·have c2z:(g.ls.length:Int)≤70:=by omega
   simp -dsimp[d_,xB,c2z];and_intros;all_goals try first|rfl|omega|exact⟨by kernel_rfl⟩
   refine Fin.of ?_;simp[c1,c2]
  ·have c2z :¬(g.ls.length:Int)≤70:=by omega
   simp -dsimp[d_,xB,c2z];and_intros;all_goals try first|rfl|omega|exact⟨by kernel_rfl⟩
   refine Fin.of ?_;simp[c1,c2]
 ·have xB :¬(g.rs.length:Int)≤30:=by omega
  simp -dsimp[d_,xB];and_intros;all_goals try first|rfl|omega|exact⟨by kernel_rfl⟩
  refine Fin.of ?_;simp[c1]
theorem akt(T:Tp)(hT:dW T)(g:bV)(hs:g.rs.length≤1000∧g.ls.length≤1000):Contract Tryz.prog 70 [.ptr (.x 0) 0,d_ g] [iG T] (d_ (Jj g T).1) [iG (Jj g T).2] []:=by
 refine aC Tryz.func70 rfl (fun E0=>?_);refine iK.sound (g:=.mk) (ow:=[6,10]) (kp:=(kb 0x84002100211003b)) ?_;rw[Tryz.ntmps70];simp -dsimp[d_];and_intros;all_goals try first|rfl|omega|exact⟨by kernel_rfl⟩|exact mO 2 _ _ fun _=>rfl|exact mO 5 _ _ fun _=>rfl
 refine aF.of (jR T hT 4 ⟨by omega,by omega⟩) [.x 0] 0 ?_;have kG:dW (bH T 4).2:=by simpa using hT
 have hb0:=eX T 4;have hb1:=iR T (n:=4) (by omega);unfold Jj;generalize bH T 4=a at kG hb0 hb1⊢;obtain⟨k,T1⟩:=a;simp only at kG hb0 hb1⊢;have D2:dLen 2 (rts g.rs):=mO 2 _ _ fun _=>rfl
 have D5:dLen 5 (pq g.ls):=mO 5 _ _ fun _=>rfl
 by_cases c0:k=0
 ·subst c0;simp -dsimp;and_intros;all_goals try first|rfl|omega|exact⟨by kernel_rfl⟩
  refine aF.of (zS T1 kG [0,1,100] (by simp) (by simp)) [.x 0] 0 ?_;simp only[if_true];generalize jW T1 [0,1,100]=b;obtain⟨x,T2⟩:=b;simp -dsimp;and_intros;all_goals try first|rfl|omega|exact⟨by kernel_rfl⟩
  refine Fin.box (.o 4) rfl ?_;simp -dsimp;refine Fin.of ?_;simp[d_,rts,Rt.cs]
 by_cases c1:k=1
 ·subst c1;by_cases h:0<g.ls.length
  ·have v1:=eX T1 g.ls.length;have v2:=iR T1 (n:=g.ls.length) (by omega);have k2:dW (bH T1 g.ls.length).2:=by simpa using kG
   have hc:=jR T1 kG g.ls.length ⟨by omega,by omega⟩;simp -dsimp[h];and_intros;all_goals try first|rfl|omega|exact⟨by kernel_rfl⟩
   refine aF.of hc [.x 0] 0 ?_;simp only[h,if_true,Int.one_ne_zero,if_false];generalize bH T1 (g.ls.length:Int)=v at v1 v2 k2⊢;obtain⟨j',T2⟩:=v;simp only at v1 v2 k2⊢;obtain⟨j,rfl⟩:∃j:Nat,j'=j:=⟨j'.toNat,by omega⟩
   have hx:g.ls[j]? = some (g.ls[j]'(by omega)):=ah (by omega);have hset:aay g.ls j (jW T2 [0,1001]).1=g.ls.set j ⟨(g.ls[j]'(by omega)).a,(g.ls[j]'(by omega)).b,(jW T2 [0,1001]).1,(g.ls[j]'(by omega)).cb,(g.ls[j]'(by omega)).cap⟩:=by unfold aay;rw[hx]
   rw[dV,hset];have jl:(j:Int)<g.ls.length:=by omega
   generalize g.ls[j]'(by omega)=y at hx;simp -dsimp;and_intros;all_goals try first|rfl|omega|exact⟨by kernel_rfl⟩
   refine aF.of (zS T2 k2 [0,1001] (by simp) (by simp)) [.x 0] 0 ?_;generalize jW T2 [0,1001]=b;obtain⟨x,T3⟩:=b;have hx':(dd (pq g.ls))[j]? = some (y.cs.map .d):=by simp[dd,pq,hx]
   have hs':(dd (pq g.ls)).set j [TV.d (.int .i64 y.a),TV.d (.int .i64 y.b),TV.d (.int .i64 x),TV.d (.int .i64 y.cb),TV.d (.int .i64 y.cap)]=dd (pq (g.ls.set j ⟨y.a,y.b,x,y.cb,y.cap⟩)):=by simp[dd,pq,jy,Lk.cs]
   have hl':g.ls.length=(g.ls.set j ⟨y.a,y.b,x,y.cb,y.cap⟩).length:=by simp
   simp -dsimp[hx',jl,Lk.cs,hs',h];and_intros;all_goals try first|rfl|omega|exact⟨by kernel_rfl⟩
   refine Fin.box (.o 4) rfl ?_;simp -dsimp;refine Fin.of ?_;simp[d_]
  ·simp -dsimp[h];and_intros;all_goals try first|rfl|omega|exact⟨by kernel_rfl⟩
   refine Fin.box (.o 4) rfl ?_;simp -dsimp;refine Fin.of ?_;simp[d_]
 by_cases c2:k=2
 ·subst c2;by_cases h:0<g.ls.length
  ·have hx:g.ls[0]? = some (g.ls[0]'h):=ah h;have ht:g.ls.take 1 = [g.ls[0]'h]:=by
    rw[List.take_one,List.head?_eq_getElem?,hx];rfl
   rw[ht];generalize g.ls[0]'h=y at hx;have hx':(dd (pq g.ls))[0]? = some (y.cs.map .d):=by simp[dd,pq,hx]
   have hx2:∀h':0<(dd (pq g.ls)).length,(dd (pq g.ls))[0]'h'=y.cs.map .d:=fun h'=>Option.some.inj ((ah h').symm.trans hx')
   have hz:(0:Int)<g.ls.length:=by omega
   simp -dsimp[h,hz,hx2,Lk.cs];and_intros;all_goals try first|rfl|omega|exact⟨by kernel_rfl⟩
   refine Fin.box (.o 4) rfl ?_;simp -dsimp;refine Fin.of ?_;simp[d_,pq,Lk.cs]
  ·have hn:g.ls = []:=eF (by omega);simp -dsimp[h];and_intros;all_goals try first|rfl|omega|exact⟨by kernel_rfl⟩
   refine Fin.box (.o 4) rfl ?_;simp -dsimp;refine Fin.of ?_;simp[d_,hn]
 obtain rfl:k=3:=by omega
 by_cases h:0<g.rs.length
 ·simp -dsimp[h];and_intros;all_goals try first|rfl|omega|exact⟨by kernel_rfl⟩
  ·intro e he;obtain⟨y,_,rfl⟩:=ay.1 he;rfl
  refine Fin.box (.o 4) rfl ?_;simp -dsimp;refine Fin.of ?_;simp[d_,rts,aW]
 ·have hn:g.rs = []:=eF (by omega);simp -dsimp[h];and_intros;all_goals try first|rfl|omega|exact⟨by kernel_rfl⟩
  refine Fin.box (.o 4) rfl ?_;simp -dsimp;refine Fin.of ?_;simp[d_,hn]
theorem abS(g:bV)(hs:g.Sm)(p:Pn)(hp:p.es.length≤1000)(l:List Tb)(hl:Good l):Contract Tryz.prog 73 [d_ g,iE p,.d (.sl (ig l))] []
  (.sZ [.d (.sl (lC (xQ g p l).1)),.d (.int .i64 (xQ g p l).2)]) [] []:=by
 have h1:=IC g hs p hp;have h2:=wW l hl.big;have hr:=hs.r;obtain⟨w,hw⟩:∃w,w=xQ g p l:=⟨_,rfl⟩
 rw[←hw];have hno:∀e,exV g p l=([],e)→e≠0→w=([],e):=fun e h h'=>hw.trans (by unfold xQ;simp[*])
 unfold exV at hno;by_cases c0:jE g=0∧iT p=true
 case neg=>
  have XW:=hno 1 (by rw[if_pos (.inl c0)]) (by decide);have e:yE g p=([],1):=by unfold yE;simp[*]
  rw[e]at h1
  simp only[d_,iE,allT]at h1;refine aC Tryz.func73 rfl (fun E0=>?_);refine iK.sound (g:=.mk) (ow:=[]) (kp:=(kb 0x400008f1e8000007c10f4001d7bdf)) ?_
  rw[Tryz.ntmps73];simp -dsimp[d_,iE];refine aF.of h1 [] 0 ?_;simp -dsimp;and_intros;all_goals try first|rfl|omega|exact⟨by kernel_rfl⟩
  refine Fin.view 6 ?_;simp -dsimp;refine Fin.of ?_;simp[XW,lC]
 rw[BI c0.1 c0.2]at h1
 have htl:=CZ g p;simp only[d_,iE,allT]at h1;rw[show(tabs g p g.rs).map Tb.cs=ig (tabs g p g.rs) from rfl]at h1
 obtain⟨W,hW⟩:∃W,W=tabs g p g.rs:=⟨_,rfl⟩
 rw[←hW]at h1 htl hno
 refine aC Tryz.func73 rfl (fun E0=>?_);refine iK.sound (g:=.mk) (ow:=[]) (kp:=(kb 0x400008f1e8000007c10f4001d7bdf)) ?_;rw[Tryz.ntmps73]
 simp -dsimp[d_,iE];refine aF.of h1 [] 0 ?_;simp -dsimp;and_intros;all_goals try first|rfl|omega|exact⟨by kernel_rfl⟩
 refine aF.of h2 [] 0 ?_;by_cases c1:tK l=0
 case neg=>
  have XW:=hno 1 (by rw[if_pos (.inr c1)]) (by decide);simp -dsimp[c1];and_intros;all_goals try first|rfl|omega|exact⟨by kernel_rfl⟩
  refine Fin.view 6 ?_;simp -dsimp;refine Fin.of ?_;simp[XW,lC]
 rw[if_neg (show ¬(¬(jE g=0∧iT p=true)∨tK l≠0) by simp[*])]at hno
 have avR:l.length≤24:=by
  have hA:=wX (l:=_) (by simp) c1
  simp_all
 simp -dsimp[c1];and_intros;all_goals try first|rfl|omega|exact⟨by kernel_rfl⟩
 refine bY.of [] (kb 0x400008f1e8000007c10f4001d7bdf) (ι:={i:Nat // i≤g.rs.length∧∀x∈g.rs.take i,x.cap=true})
  (fun z=>[(.s 2,It.v (.d (.sl (ig l)))),(.o 4,It.box [TV.d (.int .i64 p.gU),TV.d (.int .i64 p.len),TV.d (.sl (lX p.es))]),(.s 4,It.v (.ptr (.o 4) 0)),(.s 6,It.v (.c (.slice none 0 0))),(.s 7,It.v (.d (.int .i64 0))),(.s 8,It.v (.d (.sl (ig W)))),
   (.s 36,It.v (.d (.sl (rts g.rs)))),(.s 37,It.v (.d (.int .i64 g.rs.length))),(.s 38,It.v (.d (.int .i64 z.1)))])
  (fun z=>g.rs.length-z.1) ⟨0,by omega,by simp⟩ ?_ ?_
 ·simp[GS.to]
 rintro⟨i,i1,i2⟩;by_cases hi:i<g.rs.length
 ·have hiz:(i:Int)<g.rs.length:=by omega
  have hx:g.rs[i]? = some g.rs[i]:=ah hi;have hm:=aB hi;generalize g.rs[i]=x at hx hm;have hx':=r_ hx;have w1:IntKind.i64.wrap ((i:Int)+1)=(i:Int)+1:=wrap_i64 (by omega) (by omega);rcases (au x.cap).symm with c|c
  ·have XW:=hno 26 (by rw[if_pos (jU.2 ⟨x,hm,by simp_all⟩)]) (by decide);simp -dsimp[hiz,hx',Rt.cs,c];and_intros;all_goals try first|rfl|omega|exact⟨by kernel_rfl⟩
   refine Fin.view 6 ?_;simp -dsimp;refine Fin.of ?_;simp[XW,lC]
  ·simp -dsimp[hiz,hx',Rt.cs,c,w1];and_intros;all_goals try first|rfl|omega|exact⟨by kernel_rfl⟩
   refine⟨⟨i+1,by omega,fun y hy=>?_⟩,GS.to (by simp),by simp;omega⟩;rw[aO,hx,fJ]at hy
   grind
 have hiz :¬(i:Int)<g.rs.length:=by omega
 rw[aW (by omega)]at i2
 have hca:(g.rs.any fun x=>!x.cap)=false:=by simp_all
 rw[if_neg (by simp[*])]at hno
 by_cases hlen:W.length=l.length
 case neg=>
  have XW:=hno 8 (by rw[if_pos (mQ.2 fun e=>hlen (Qv e))]) (by decide);have hz :¬((l.length:Int)=W.length):=by omega
  simp -dsimp[hiz,hz,ig];and_intros;all_goals try first|rfl|omega|exact⟨by kernel_rfl⟩
  refine Fin.view 6 ?_;simp -dsimp;refine Fin.of ?_;simp[XW,lC]
 have hz:(l.length:Int)=W.length:=by omega
 simp -dsimp[hiz,hz,ig];and_intros;all_goals try first|rfl|omega|exact⟨by kernel_rfl⟩
 refine bY.of [] (kb 0x400008f1e8000007c10f4001d7bdf) (ι:={i:Nat // i≤l.length∧∀j,j<i→∀a b,W[j]? = some a→l[j]? = some b→Zc p a b=true})
  (fun z=>[(.s 2,It.v (.d (.sl (ig l)))),(.o 4,It.box [TV.d (.int .i64 p.gU),TV.d (.int .i64 p.len),TV.d (.sl (lX p.es))]),(.s 4,It.v (.ptr (.o 4) 0)),(.s 6,It.v (.c (.slice none 0 0))),(.s 7,It.v (.d (.int .i64 0))),(.s 8,It.v (.d (.sl (ig W)))),
   (.s 51,It.v (.d (.sl (ig l)))),(.s 52,It.v (.d (.int .i64 l.length))),(.s 53,It.v (.d (.int .i64 z.1)))])
  (fun z=>l.length-z.1) ⟨0,by omega,fun j h=>by omega⟩ ?_ ?_
 ·exact GS.to (by simp[ig,hz])
 rintro⟨i,i1,i3⟩;by_cases hi:i<l.length
 ·have hiz:(i:Int)<l.length:=by omega
  have Dc:(i:Int)<W.length:=by omega
  have hx:W[i]? = some (W[i]'(by omega)):=ah (by omega);have hy:l[i]? = some l[i]:=ah hi;generalize W[i]'(by omega)=a at hx;generalize l[i]=b at hy;have w1:IntKind.i64.wrap ((i:Int)+1)=(i:Int)+1:=wrap_i64 (by omega) (by omega);have no:Zc p a b=false→w=([],8):=fun h=>hno 8 (by rw[if_pos (agF hx hy h)]) (by decide)
  by_cases d1:b.r=a.r
  case neg=>
   have XW:=no (by grind[Zc]);simp -dsimp[hiz,Dc,hx,hy,ig,Tb.cs,eq_false d1];and_intros;all_goals try first|rfl|omega|exact⟨by kernel_rfl⟩
   refine Fin.view 6 ?_;simp -dsimp;refine Fin.of ?_;simp[XW,lC]
  by_cases d2:b.sd=p.gU
  case neg=>
   have XW:=no (by grind[Zc]);simp -dsimp[hiz,Dc,hx,hy,ig,Tb.cs,eq_true d1,eq_false d2];and_intros;all_goals try first|rfl|omega|exact⟨by kernel_rfl⟩
   refine Fin.view 6 ?_;simp -dsimp;refine Fin.of ?_;simp[XW,lC]
  by_cases d3:b.len=p.len
  case neg=>
   have XW:=no (by unfold Zc;simp[d3]);simp -dsimp[hiz,Dc,hx,hy,ig,Tb.cs,eq_true d1,eq_true d2,eq_false d3];and_intros;all_goals try first|rfl|omega|exact⟨by kernel_rfl⟩
   refine Fin.view 6 ?_;simp -dsimp;refine Fin.of ?_;simp[XW,lC]
  simp -dsimp[hiz,Dc,hx,hy,ig,Tb.cs,eq_true d1,eq_true d2,eq_true d3,w1];and_intros;all_goals try first|rfl|omega|exact⟨by kernel_rfl⟩
  refine⟨⟨i+1,by omega,fun j hj a' b' h1 h2=>?_⟩,GS.to (by simp[ig]),by simp;omega⟩
  grind[Zc]
 have hiz :¬(i:Int)<l.length:=by omega
 have hEq:NH p W l=true:=RX hlen fun j a b h1 h2=>i3 j (by have:=(aA.1 h2).1;omega) a b h1 h2
 have hE:exV g p l=(tabs g p g.rs,0):=by unfold exV;rw[if_neg (show ¬(¬(jE g=0∧iT p=true)∨tK l≠0) by simp[c0,c1]),if_neg (by rw[hca];simp),if_neg (by rw[←hW,hEq];simp)]
 have hw:w=(yA l (tabs g p g.rs) p.es,0):=hw.trans (by unfold xQ;rw[hE,if_pos rfl]);have hI:=(acY (g:=g) (p:=p) (l:=l) (by rw[hE])).1;have hnx:∀b∈tabs g p g.rs,∀x∈p.es,∀k:Nat,k<8→MG l b.r x.id k=(jo ((iq l b.r).getD tb0) x.id k,0):=fun b hb x hx k hk=>hI.nxt hb hx ⟨by omega,by omega⟩
 have hsm:∀b∈tabs g p g.rs,b.Sm:=fun b hb=>Fp (Nr hI.top hI.plan b hb)
 have hll:=fun i=>TA l p.es ((tabs g p g.rs).take i)
 rw[←hW]at hw hnx hsm hll
 clear hno hE;simp -dsimp[hiz];and_intros;all_goals try first|rfl|omega|exact⟨by kernel_rfl⟩
 refine bY.of [] (kb 0x400008f1e8000007c10f4001d7bdf) (ι:={i:Nat // i≤W.length})
  (fun z=>[(.s 2,It.v (.d (.sl (ig l)))),(.o 4,It.box [TV.d (.int .i64 p.gU),TV.d (.int .i64 p.len),TV.d (.sl (lX p.es))]),(.s 4,It.v (.ptr (.o 4) 0)),(.s 6,It.v (.c (.slice none 0 0))),(.s 7,It.v (.d (.int .i64 0))),(.s 81,It.v (.d (.sl (ig W)))),(.s 82,It.v (.d (.int .i64 W.length))),(.s 14,It.v (.bK 14 (yA l (W.take z.1) p.es).length)),(.o 14,It.row 113 4 (dd (lC (yA l (W.take z.1) p.es))) false),(.s 83,It.v (.d (.int .i64 z.1)))])
  (fun z=>W.length-z.1) ⟨0,by omega⟩ ?_ ?_
 ·exact GS.own' (k:=14) 113 4 (by simp) (by simp) (by simp[yA,lC,ig])
 ·rintro⟨i,i1⟩;have hli:=hll i;have hlm:(W.take i).length*p.es.length≤1000000*1000:=nK (by rw[bF];omega) hp;by_cases hi:i<W.length
  ·have hiz:(i:Int)<W.length:=by omega
   have hb:W[i]? = some W[i]:=ah hi;have hbm:=aB hi;generalize W[i]=b at hb hbm;have hbs:=hsm b hbm;have hnb:=hnx b hbm;have hti:=Wj (bad:=l) (es:=p.es) hb;generalize yA l (W.take i) p.es=R at hli hti⊢;generalize (iq l b.r).getD tb0=c at hnb hti;simp -dsimp[ig,hiz,hb,Tb.cs];and_intros;all_goals try first|rfl|omega|exact⟨by kernel_rfl⟩
   refine bY.of [] (kb 0x400008f1e8000007c10f4001d7bdf) (ι:={j:Nat // j≤p.es.length})
    (fun z=>[(.s 2,It.v (.d (.sl (ig l)))),(.o 4,It.box [TV.d (.int .i64 p.gU),TV.d (.int .i64 p.len),TV.d (.sl (lX p.es))]),(.s 4,It.v (.ptr (.o 4) 0)),(.s 6,It.v (.c (.slice none 0 0))),(.s 7,It.v (.d (.int .i64 0))),(.s 81,It.v (.d (.sl (ig W)))),(.s 82,It.v (.d (.int .i64 W.length))),(.s 14,It.v (.bK 14 (R.length+(Bf c b (p.es.take z.1)).length))),(.o 14,It.row 113 4 (dd (lC R)++dd (lC (Bf c b (p.es.take z.1)))) false),(.s 83,It.v (.d (.int .i64 i))),
     (.o 16,It.box [TV.d (.int .i64 b.r),TV.d (.int .i64 b.sd),TV.d (.int .i64 b.len),TV.d (dZ b.rows)]),(.s 16,It.v (.ptr (.o 16) 0)),(.s 88,It.v (.d (.sl (lX p.es)))),(.s 89,It.v (.d (.int .i64 p.es.length))),(.s 90,It.v (.d (.int .i64 z.1)))])
    (fun z=>p.es.length-z.1) ⟨0,by omega⟩ ?_ ?_
   ·exact GS.to (by simp[ig,Bf,lC])
   ·rintro⟨j,j1⟩;have hrj:=Uu c b (p.es.take j);rw[bF]at hrj
    by_cases hj:j<p.es.length
    ·have hjz:(j:Int)<p.es.length:=by omega
     have hx:p.es[j]? = some p.es[j]:=ah hj;have hxm:=aB hj;generalize p.es[j]=x at hx hxm;have ak6:=hnb x hxm;have htj:=WZ (c:=c) (b:=b) hx;generalize Bf c b (p.es.take j)=S at hrj htj⊢;obtain⟨f,hf⟩:∃f,f=jo c x.id:=⟨_,rfl⟩
     have hh:∀k:Int,Contract Tryz.prog 57 [gQ b,.d (.int .i64 x.id),.d (.int .i64 k)] [] (.d (.int .i64 (jo b x.id k))) [] []:=fun k=>Hy b hbs x.id k
     have hq:∀k:Nat,k<8→Contract Tryz.prog 145 [.d (.sl (ig l)),.d (.int .i64 b.r),.d (.int .i64 x.id),.d (.int .i64 k)] [] (.sZ [.d (.int .i64 (f k)),.d (.int .i64 0)]) [] []:=fun k hk=>by
      have:=ahM l hl b.r x.id k;rw[ak6 k hk]at this
      rw[hf];exact this
     rw[←hf]at htj
     generalize jo b x.id=h at hh htj;simp only[gQ]at hh;simp -dsimp[hjz,hx,lX,Ed.cs];and_intros;all_goals try first|rfl|omega|exact⟨by kernel_rfl⟩
     refine bY.of [] (kb 0x400008f1e8000007c10f4001d7bdf) (ι:={k:Nat // k≤8∧dif f h 8 0=dif f h (8-k) k})
      (fun z=>[(.s 2,It.v (.d (.sl (ig l)))),(.o 4,It.box [TV.d (.int .i64 p.gU),TV.d (.int .i64 p.len),TV.d (.sl (lX p.es))]),(.s 4,It.v (.ptr (.o 4) 0)),(.s 6,It.v (.c (.slice none 0 0))),(.s 7,It.v (.d (.int .i64 0))),(.s 81,It.v (.d (.sl (ig W)))),(.s 82,It.v (.d (.int .i64 W.length))),(.s 14,It.v (.bK 14 (R.length+S.length))),(.o 14,It.row 113 4 (dd (lC R)++dd (lC S)) false),(.s 83,It.v (.d (.int .i64 i))),
       (.o 16,It.box [TV.d (.int .i64 b.r),TV.d (.int .i64 b.sd),TV.d (.int .i64 b.len),TV.d (dZ b.rows)]),(.s 16,It.v (.ptr (.o 16) 0)),(.s 88,It.v (.d (.sl (lX p.es)))),(.s 89,It.v (.d (.int .i64 p.es.length))),(.s 90,It.v (.d (.int .i64 j))),(.o 18,It.box [TV.d (.int .i64 x.r),TV.d (.int .i64 x.id)]),(.s 18,It.v (.ptr (.o 18) 0)),(.s 19,It.v (.d (.int .i64 z.1)))])
      (fun z=>8-z.1) ⟨0,by omega,by simp⟩ ?_ ?_
     ·exact GS.to (by simp[ig,lX])
     ·rintro⟨k,k1,k2⟩;by_cases hk:k<8
      ·have hkz:(k:Int)<8:=by omega
       have h2:=hq k hk;have h3:=hh k;have e8:dif f h (8-k) k=if f k≠h k then some (f k)else dif f h (8-(k+1)) ((k:Int)+1):=by rw[show 8-k=(8-(k+1))+1 by omega,dif]
       have w1:IntKind.i64.wrap ((k:Int)+1)=(k:Int)+1:=wrap_i64 (by omega) (by omega);have w2:IntKind.i64.wrap ((j:Int)+1)=(j:Int)+1:=wrap_i64 (by omega) (by omega);simp -dsimp[hkz,ig,lX];and_intros;all_goals try first|rfl|omega|exact⟨by kernel_rfl⟩
       refine aF.of h2 [] 0 ?_;simp -dsimp;and_intros;all_goals try first|rfl|omega|exact⟨by kernel_rfl⟩
       refine aF.of h3 [] 0 ?_;by_cases c1:f k=h k
       ·rw[if_neg (by simp[c1])]at e8
        simp -dsimp[eq_true c1,w1];and_intros;all_goals try first|rfl|omega|exact⟨by kernel_rfl⟩
        exact⟨⟨k+1,by omega,by rw[k2,e8];simp⟩,GS.to (by simp[ig,lX]),by simp;omega⟩
       ·rw[if_pos c1]at e8
        rw[k2,e8]at htj
        simp only at htj;simp -dsimp[eq_false c1,w2,ng];and_intros;all_goals try first|rfl|omega|exact⟨by kernel_rfl⟩
        exact⟨⟨j+1,by omega⟩,GS.to (by simp[htj,uS,ig,lX,lC,aX]),by simp;omega⟩
      ·have hkz :¬(k:Int)<8:=by omega
       obtain rfl:k=8:=by omega
       have w2:IntKind.i64.wrap ((j:Int)+1)=(j:Int)+1:=wrap_i64 (by omega) (by omega);rw[k2]at htj
       simp only[Nat.sub_self,dif,aZ]at htj;simp -dsimp[w2];and_intros;all_goals try first|rfl|omega|exact⟨by kernel_rfl⟩
       exact⟨⟨j+1,by omega⟩,GS.to (by simp[htj,ig,lX]),by simp;omega⟩
    ·have hjz :¬(j:Int)<p.es.length:=by omega
     have w2:IntKind.i64.wrap ((i:Int)+1)=(i:Int)+1:=wrap_i64 (by omega) (by omega);rw[aW (show p.es.length≤j by omega)]at hrj⊢
     simp -dsimp[hjz,w2];and_intros;all_goals try first|rfl|omega|exact⟨by kernel_rfl⟩
     exact⟨⟨i+1,by omega⟩,GS.to (by simp[hti,uS,ig]),by simp;omega⟩
  ·have hiz :¬(i:Int)<W.length:=by omega
   obtain rfl:i=W.length:=by omega
   rw[bP]at hli⊢
   simp -dsimp[hiz];and_intros;all_goals try first|rfl|omega|exact⟨by kernel_rfl⟩
   refine Fin.view 6 ?_;simp -dsimp[ng];refine Fin.of ?_;simp[hw]
theorem ak2{ds:List D}(h:(Ty.st [.int .i64,.sl (.int .i64)]).has ds):∃x:Rw,ds=x.cs∧x.nx.length≤maxLen:=by
 simp only[Ty.has,Ty.hass]at h;obtain⟨_,_,rfl,⟨m,rfl,_⟩,d2,_,rfl,h2,rfl⟩:=h;have h3:(Ty.sl (.int .i64)).has d2:=by simp only[Ty.has];exact h2
 obtain⟨l,hl,h4,_⟩:=BZ h3;subst hl;exact⟨⟨m,l⟩,by simp[Rw.cs,ints],h4⟩
theorem JV{α:Type}(g:α→List D)(P:α→Prop):∀{xs:List (List D)},(∀x∈xs,∃a,x=g a∧P a)→∃l:List α,xs=l.map g∧∀a∈l,P a
 | [],_=>⟨[],rfl,by simp⟩
 | x::xs,h=>by
   obtain⟨a,rfl,ha⟩:=h x (by simp);obtain⟨l,e,hl⟩:=JV g P (xs:=xs) fun y hy=>h y (dM _ hy)
   subst e;exact⟨a::l,rfl,fun b hb=>(aG.1 hb).elim (fun e=>e▸ha) (hl b)⟩
def tyT:Ty:=.st [.int .i64,.int .i64,.int .i64,.sl (.st [.int .i64,.sl (.int .i64)])]
theorem ajb{ds:List D}(h:tyT.has ds):∃b:Tb,ds=b.cs∧b.rows.length≤maxLen∧∀x∈b.rows,x.nx.length≤maxLen:=by
 simp only[tyT,Ty.has.eq_5,Ty.hass,Ty.has.eq_1,Ty.has.eq_4]at h;obtain⟨_,_,rfl,⟨r,rfl,_⟩,_,_,rfl,⟨sd,rfl,_⟩,_,_,rfl,⟨len,rfl,_⟩,_,_,rfl,⟨xs,rfl,h1,h2⟩,rfl⟩:=h;obtain⟨l,rfl,h3⟩:=JV Rw.cs (fun x=>x.nx.length≤maxLen) fun x hx=>ak2 (by
  simp only[Ty.has.eq_5,Ty.hass,Ty.has.eq_1,Ty.has.eq_4];exact h2 x hx)
 exact⟨⟨r,sd,len,l⟩,by simp[Tb.cs,dZ],by simpa using h1,h3⟩
theorem agX{ds:List D}(h:(Ty.sl tyT).has ds):∃l:List Tb,ds = [.sl (ig l)]∧l.length≤maxLen∧∀b∈l,b.rows.length≤maxLen∧∀x∈b.rows,x.nx.length≤maxLen:=by
 simp only[Ty.has.eq_4]at h;obtain⟨xs,rfl,h1,h2⟩:=h;obtain⟨l,rfl,hl⟩:=JV Tb.cs (fun b=>b.rows.length≤maxLen∧∀x∈b.rows,x.nx.length≤maxLen) fun x hx=>ajb (h2 x hx)
 exact⟨l,rfl,by simpa using h1,hl⟩
theorem ai_{l:List Tb}(h:Yx l=true)(hb:∀b∈l,b.rows.length≤9223372036854775807∧∀x∈b.rows,x.nx.length≤9223372036854775807):Good l:=by
 have hn:l.length≤1000:=by
  by_cases g:(l.length:Int)<900
  ·omega
  ·have h1:smT l l.length≤600:=of_decide_eq_true h;rw[alM g]at h1
   omega
 by_cases hS:UY l
 ·exact .inl hS
 ·refine .inr ⟨⟨hn,fun b hm=>⟨(hb b hm).1,(hb b hm).2⟩⟩,fun hA=>hS ⟨hn,fun b hm=>?_⟩⟩;obtain⟨_,p2,p3,_⟩:=zG (GH hA b hm);exact⟨by omega,fun x hx=>by have:=p3 x hx;omega⟩
end Go.Proofs
