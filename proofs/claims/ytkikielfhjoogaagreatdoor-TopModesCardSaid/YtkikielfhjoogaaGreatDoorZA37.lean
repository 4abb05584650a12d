/-
  What functions of the program compute, stated as contracts over plain data; the conditions of each stand in its own statement.
-/
import Derived.Test.YtkikielfhjoogaaGreatDoorZA36
import Derived.Test.YtkikielfhjoogaaGreatDoorZA35
import Derived.Test.YtkikielfhjoogaaGreatDoorZA30
import Derived.Test.YtkikielfhjoogaaGreatDoorZA23
import Derived.Test.YtkikielfhjoogaaGreatDoorZA33
import Derived.Test.YtkikielfhjoogaaGreatDoorZA26
import Derived.Test.YtkikielfhjoogaaGreatDoorZA25
import Derived.Test.YtkikielfhjoogaaGreatDoorZA10
import Derived.Test.YtkikielfhjoogaaGreatDoorRows
import Derived.OpenShut
import Derived.MakeChecks
import Derived.FnData
import Derived.LaidMore
import Derived.Test.YtkikielfhjoogaaGreatDoorZA11
import Derived.Test.YtkikielfhjoogaaGreatDoorChecked
import Derived.Stop.Joined
import Derived.SevenTiedAt
import Derived.JoinedOf
set_option linter.unusedSimpArgs false
set_option linter.unusedVariables false
set_option maxRecDepth 100000
set_option maxHeartbeats 16000000
namespace Go.Proofs
open Go Go.Tr
def Fg(l:List Rt):List Int:=(l.filter fun x=>x.cap).map (·.id)
theorem WL(l:List Rt):(Fg l).length≤l.length:=by unfold Fg;rw[aV];exact dY _ _
theorem tabs_eq(g:aX)(p:Pn):tabs g p g.rs=(Fg g.rs).map (oU g p):=by simp[tabs,Fg,aY,Function.comp_def]
theorem ams(g:aX)(hs:g.Sm)(p:Pn)(hp:p.es.length≤1000):Contract Tryz.prog 7 [eU g,su p] [] (allT (EL g p).1 (EL g p).2) [] []:=by
 have k1:=xW g hs.r hs.l;have k2:=Dy p hp;simp only[eU,su]at k1 k2;by_cases h0:jo g=0
 case neg=>
  have e:EL g p=([],1):=by unfold EL;rw[if_neg (fun h=>h0 h.1)]
  rw[e];refine ay Tryz.func7 rfl (fun E0=>?_);refine iC.sound (g:=.mk) (ow:=[]) (kp:=(kb 0x23d017f)) ?_;rw[Tryz.ntmps7];simp -dsimp[eU,su];refine aI.of k1 [] 0 ?_;simp -dsimp[h0];and_intros;all_goals try first|rfl|omega|exact⟨by kernel_rfl⟩
  refine Fin.view 4 ?_;simp -dsimp;refine Fin.of ?_;simp[allT]
 rw[h0]at k1
 rcases (aA (oJ p)).symm with hp2|hp2
 ·have e:EL g p=([],1):=by unfold EL;rw[if_neg (by simp[hp2])]
  rw[e];rw[hp2]at k2
  refine ay Tryz.func7 rfl (fun E0=>?_);refine iC.sound (g:=.mk) (ow:=[]) (kp:=(kb 0x23d017f)) ?_;rw[Tryz.ntmps7];simp -dsimp[eU,su];refine aI.of k1 [] 0 ?_;simp -dsimp;refine aI.of k2 [] 0 ?_;simp -dsimp;and_intros;all_goals try first|rfl|omega|exact⟨by kernel_rfl⟩
  refine Fin.view 4 ?_;simp -dsimp;refine Fin.of ?_;simp[allT]
 rw[hp2]at k2
 have hg:=dV h0;have hnr:=hg.nr;have e:EL g p=((Fg g.rs).map (oU g p),0):=by unfold EL;rw[if_pos ⟨h0,hp2⟩,tabs_eq]
 rw[e];have hcl:=WL g.rs;have k5:=ail g h0 p (by have:=aex hp2;omega) (Fg g.rs) (by omega) (fun r hr=>by
  obtain⟨x,hx,rfl⟩:=ak.1 hr;exact jQ.2 (ak.2 ⟨x,(bK.1 hx).1,rfl⟩))
 simp only[eU,su]at k5;refine ay Tryz.func7 rfl (fun E0=>?_);refine iC.sound (g:=.mk) (ow:=[]) (kp:=(kb 0x23d017f)) ?_;rw[Tryz.ntmps7];simp -dsimp[eU,su];refine aI.of k1 [] 0 ?_;simp -dsimp;refine aI.of k2 [] 0 ?_;simp -dsimp;try refine⟨?_,⟨by kernel_rfl⟩⟩
 refine dD.of [] (kb 0x23d017f) (ι:={i:Nat // i≤g.rs.length})
  (fun z=>[(.o 2,It.box [TV.d (.sl (rts g.rs)),TV.d (.sl (nS g.ls))]),(.s 2,It.v (.ptr (.o 2) 0)),(.o 3,It.box [TV.d (.int .i64 p.jd),TV.d (.int .i64 p.len),TV.d (.sl (zA p.es))]),(.s 3,It.v (.ptr (.o 3) 0)),(.s 4,It.v (.c (.slice none 0 0))),(.s 5,It.v (.d (.int .i64 0))),(.s 6,It.v (.aW 6 (Fg (g.rs.take z.1)).length)),(.o 6,It.row 3 1 (dd (jR .i64 (Fg (g.rs.take z.1)))) false),
   (.s 18,It.v (.d (.sl (rts g.rs)))),(.s 19,It.v (.d (.int .i64 g.rs.length))),(.s 20,It.v (.d (.int .i64 z.1)))])
  (fun z=>g.rs.length-z.1) ⟨0,by omega⟩ ?_ ?_
 ·exact GS.own' (k:=6) 3 1 (by simp) (by simp) (by simp[Fg,jR])
 ·rintro⟨i,i1⟩;by_cases hi:i<g.rs.length
  ·have hiz:(i:Int)<g.rs.length:=by omega
   have hx:g.rs[i]? = some g.rs[i]:=aj hi;have ht:g.rs.take (i+1)=g.rs.take i++[g.rs[i]]:=by rw[aT,aj hi];rfl
   generalize g.rs[i]=x at hx ht;have hx':=uZ hx;have atc:=WL (g.rs.take i);rw[gG]at atc
   have w1:IntKind.i64.wrap ((i:Int)+1)=(i:Int)+1:=wrap_i64 (by omega) (by omega);rcases (aA x.cap).symm with h|h
   ·have hn:Fg (g.rs.take (i+1))=Fg (g.rs.take i):=by simp[Fg,ht,h]
    simp -dsimp[hiz,hx',Rt.cs,h,w1];and_intros;all_goals try first|rfl|omega|exact⟨by kernel_rfl⟩
    exact⟨⟨i+1,by omega⟩,GS.to (by simp[hn]),by simp;omega⟩
   ·have hn:Fg (g.rs.take (i+1))=Fg (g.rs.take i)++[x.id]:=by simp[Fg,ht,h]
    simp -dsimp[hiz,hx',Rt.cs,h,w1];and_intros;all_goals try first|rfl|omega|exact⟨by kernel_rfl⟩
    exact⟨⟨i+1,by omega⟩,GS.to (by simp[hn,jR]),by simp;omega⟩
  ·have hiz :¬(i:Int)<g.rs.length:=by omega
   obtain rfl:i=g.rs.length:=by omega
   rw[lT];simp only[ints]at k5;simp -dsimp[hiz,jR];and_intros;all_goals try first|rfl|omega|exact⟨by kernel_rfl⟩
   refine aI.of k5 [] 0 ?_;simp -dsimp;and_intros;all_goals try first|rfl|omega|exact⟨by kernel_rfl⟩
   refine Fin.of ?_;simp[aiD]
theorem TB(T:Tp)(hT:iD T)(L:List Int)(hL:T=(L.take 2000,0))(n:Int)(l:List Ad)(f a:Int)(Lc:List (Int×Int))(c e:Int)
  (hfu:Contract Tryz.prog 20 [eU (jc T),.d (.int .i64 64)] [] (.qh [rX n l,.d (.int .i64 f)]) [] [])
  (hch:Contract Tryz.prog 21 [eU (jc T),.d (.int .i64 (yx T)),.d (ints (yw T))] [] (.qh [vw a Lc,.d (.int .i64 c),.d (.int .i64 e)]) [] [])
  (hb:(decide (f=0)&&decide (e=0))=false):Contract Tryz.prog 3 [.d (ints L)] [] (.d (.bool true)) [] []:=by
 have hnt:=acu T hT n l f a Lc c e hfu hch;rw[hb]at hnt
 simp only[RZ,aC,dQ]at hnt;generalize jc T=g at hnt;generalize yx T=root at hnt;generalize yw T=rs at hnt;generalize FU T=T3 at hnt;have hnw:=ag8 L;rw[←hL]at hnw
 refine ay Tryz.func3 rfl (fun E0=>?_)
 refine iC.sound (g:=.mk) (ow:=[]) (kp:=(kb 0xf008000007810000000000001e2017f7dfffd)) ?_;rw[Tryz.ntmps3];simp -dsimp[ints]
 refine aI.of hnw [] 0 ?_;simp -dsimp;refine⟨rfl,?_⟩;refine aI.of hnt [.o 9] 0 ?_;simp -dsimp;and_intros;all_goals try first|rfl|omega|exact⟨by kernel_rfl⟩
 refine aI.of abr [] 0 ?_;simp -dsimp;and_intros;all_goals try first|rfl|omega|exact⟨by kernel_rfl⟩
 refine Fin.of ?_;simp
theorem agJ{rs:List Int}(ha:rs.Pairwise (· < ·)){j:Nat}(hj:j<rs.length):yg (rs.take j) rs[j]=rs.take (j+1):=by
 have h1:(rs.take j).Pairwise (· < ·):=ha.sublist (List.take_sublist _ _);obtain⟨h2,h3⟩:=CV rs[j] h1;refine Kz h2 (ha.sublist (List.take_sublist _ _)) fun x=>?_
 rw[h3,aT,aj hj,iF,aN,dH]
theorem aau(T:Tp)(hT:iD T)(L:List Int)(hL:T=(L.take 2000,0))(a:Int)(Lc:List (Int×Int))(c:Int)
  (hfu:Contract Tryz.prog 20 [eU (jc T),.d (.int .i64 64)] [] (.qh [rX 64 (jJ (jc T)),.d (.int .i64 0)]) [] [])
  (hch:Contract Tryz.prog 21 [eU (jc T),.d (.int .i64 (yx T)),.d (ints (yw T))] [] (.qh [vw a Lc,.d (.int .i64 c),.d (.int .i64 0)]) [] [])
  (aob:(jJ (jc T)).length≤64) (akO:∀x∈yw T,dst (jc T) x (yx T)<far)
  (hc:c≤if yw T = []then 0 else zy (lY (jc T)) (yw T) (2^(yw T).length-1) (yx T)):Contract Tryz.prog 3 [.d (ints L)] [] (.d (.bool true)) [] []:=by
 have hnt:=acu T hT _ _ 0 a Lc c 0 hfu hch;simp only[decide_true,Bool.and_self]at hnt;obtain⟨t1,t2,t3,t4⟩:=Vq T;have t5:=acs T;obtain⟨t6,t7,t8⟩:=ag_ T;have hT3:iD (FU T):=by unfold FU;simpa using hT
 clear hfu hch;simp only[RZ,aC,dQ]at hnt;generalize FU T=T3 at hnt hT3;generalize jc T=g at *;generalize yx T=root at *;generalize yw T=rs at *;have hnx:=t_ T3 hT3 1024 ⟨by omega,by omega⟩;have e1:=iT T3 1024;have e2:=l7 T3 (n:=1024) (by omega);generalize (eG T3 1024).2=T4 at hnx;generalize (eG T3 1024).1=ent at hnx e1 e2
 have H:qX g root rs ent:=⟨t1,t2,t4,t5,t6,t7,t8,akO,e1,by omega⟩
 have hg:=dV t1;have hnw:=ag8 L;rw[←hL]at hnw
 refine ay Tryz.func3 rfl (fun E0=>?_)
 refine iC.sound (g:=.mk) (ow:=[]) (kp:=(kb 0xf008000007810000000000001e2017f7dfffd)) ?_;rw[Tryz.ntmps3];simp -dsimp[ints]
 refine aI.of hnw [] 0 ?_;simp -dsimp;refine⟨rfl,?_⟩;refine aI.of hnt [.o 9] 0 ?_;simp -dsimp;and_intros;all_goals try first|rfl|omega|exact⟨by kernel_rfl⟩
 have hel:=Me rs;have hil:=abW rs.length;have hrn:rs.length≤5:=t6
 refine dD.of [] (kb 0xf008000007810000000000001e2017f7dfffd) (ι:={i:Nat // i≤rs.length}) (fun z=>[(.s 2,It.v (.d (.bool false))),(.s 3,It.v (.ptr (.o 9) 0)),(.o 4,It.box [TV.d (.sl (rts g.rs)),TV.d (.sl (nS g.ls)),TV.d (.int .i64 64),TV.d (.sl (wZ (jJ g))),TV.d (.int .i64 root),TV.d (.sl (List.map (fun n=>[D.int .i64 n]) rs)),TV.d (.int .i64 a),TV.d (.sl (hps Lc)),TV.d (.int .i64 c)]),(.s 4,It.v (.ptr (.o 4) 0)),(.o 9,kH T3),(.o 6,It.box [TV.d (.int .i64 0),TV.d (.int .i64 16),TV.aW 60 z.1]),(.o 60,It.row 44 2 (dd (zA ((WZ rs).take z.1))) false),(.s 6,It.v (.ptr (.o 6) 0)),
   (.s 7,It.v (.aW 7 z.1)),(.o 7,It.row 3 1 (dd (jR .i64 ((S_ rs.length).take z.1))) false),
   (.s 45,It.v (.d (.sl (List.map (fun n=>[D.int .i64 n]) rs)))),(.s 46,It.v (.d (.int .i64 rs.length))),(.s 47,It.v (.d (.int .i64 z.1)))])
  (fun z=>rs.length-z.1) ⟨0,by omega⟩ ?_ ?_
 ·refine(GS.TQ (.o 6) 2 60 (cs:=[TV.d (.int .i64 0),TV.d (.int .i64 16),TV.c (Value.slice none 0 0)]) 44 2 (by simp) (by simp) (by simp) (by simp)).trans ?_;simp only[jL,Pl.o.injEq,reduceCtorEq,if_false,if_true,Nat.reduceEqDiff,List.set];exact GS.own' (k:=7) 3 1 (by simp) (by simp) (by simp[zA,jR])
 ·rintro⟨i,i1⟩;by_cases hi:i<rs.length
  ·have hiz:(i:Int)<rs.length:=by omega
   have hl:=aj hi;have hte:(WZ rs).take (i+1)=(WZ rs).take i++[⟨rs[i],3*i+1⟩]:=by rw[aT,Md hi];rfl
   have hti:(S_ rs.length).take (i+1)=(S_ rs.length).take i++[3*(i:Int)+1]:=by rw[aT];simp[S_,hi]
   have hle:((WZ rs).take i).length=i:=by simp[hel];omega
   have hli:((S_ rs.length).take i).length=i:=by simp[hil];omega
   generalize rs[i]=x at hl hte;generalize (WZ rs).take i=E at hte hle⊢;generalize (S_ rs.length).take i=I at hti hli⊢;have w3:IntKind.i64.wrap (3*(i:Int))=3*(i:Int):=wrap_i64 (by omega) (by omega);have w4:IntKind.i64.wrap (3*(i:Int)+1)=3*(i:Int)+1:=wrap_i64 (by omega) (by omega);have w1:IntKind.i64.wrap ((i:Int)+1)=(i:Int)+1:=wrap_i64 (by omega) (by omega);simp -dsimp[hiz,hl,hle,hli,w1,w3,w4]
   and_intros;all_goals try first|rfl|omega|exact⟨by kernel_rfl⟩
   exact⟨⟨i+1,by omega⟩,GS.to (by simp[hte,hti,zA,Ed.cs,jR]),by simp;omega⟩
  ·have hiz :¬(i:Int)<rs.length:=by omega
   obtain rfl:i=rs.length:=by omega
   rw[show(WZ rs).take rs.length=WZ rs from aS (by omega),show(S_ rs.length).take rs.length=S_ rs.length from aS (by omega)];have hall:=ams g hg.sm (QI rs) (by simp[QI,hel];omega);rw[afc t1 H.plan]at hall
   have hpk:=aem (QI rs) (by simp[QI,hel];omega) (S_ rs.length) (by rw[hil];omega) ⟨1,0,0,0,63,ent,0,0,0#64,ByteArray.empty⟩;rw[al3 hg t6 t7 t8 ⟨e1,by omega⟩]at hpk
   obtain⟨ps,agw⟩:∃ps,ps=if rs = []then []else [Aj ent rs.length]:=⟨_,rfl⟩
   rw[←agw]at hpk
   have hvp:=Dy (QI rs) (by simp[QI,hel];omega);rw[H.plan]at hvp
   simp only[eU,su,QI,allT,Yg,sH,Pk.cs,bv,aC,dQ,ints]at hall hpk hvp;obtain⟨X,hX⟩:∃X,X=tabs g (QI rs) g.rs:=⟨_,rfl⟩
   have hX2:tabs g ⟨0,16,WZ rs⟩ g.rs=X:=hX.symm;rw[hX2]at hall
   simp -dsimp[hiz];refine⟨hel.symm,?_⟩;refine aI.of hall [] 0 ?_;simp -dsimp;and_intros;all_goals try first|rfl|omega|exact⟨by kernel_rfl⟩
   refine aI.of hnx [.o 9] 0 ?_;rw[show List.map (fun n=>[D.int .i64 n]) (S_ rs.length)=jR .i64 (S_ rs.length) from rfl]at hpk
   simp -dsimp;refine⟨hel.symm,hil.symm,?_⟩;refine aI.of hpk [] 0 ?_;simp -dsimp;and_intros;all_goals try first|rfl|omega|exact⟨by kernel_rfl⟩
   refine aI.of hvp [] 0 ?_;simp -dsimp;and_intros;all_goals try first|rfl|omega|exact⟨by kernel_rfl⟩
   have hp1:ps.length≤1:=by rw[agw];split<;>simp
   have hpq:∀q∈ps,q=Aj ent rs.length:=fun q hq=>by rw[agw]at hq;split at hq<;>simp at hq;exact hq
   have hpz:rs≠[]→ps.length=1:=fun h=>by rw[agw,if_neg h];rfl
   have alF:rs = []→ps.length=0:=fun h=>by rw[agw,if_pos h];rfl
   have hXt:X=tbM g rs:=hX;have hsm:SmL X:=by rw[hXt];exact H.tab.sm
   have hrun:=ao2 X hsm (Aj ent rs.length) root;have hr2:(xA X (Aj ent rs.length) root).2=0:=by rw[hXt,H.run.1]
   have hls:(xA X (Aj ent rs.length) root).1.ls = []:=by rw[hXt];exact H.ls
   have hdm:∀x,x∈(xA X (Aj ent rs.length) root).1.dl.map (·.1)↔x∈rs:=by rw[hXt];exact H.mem
   have hdn:((xA X (Aj ent rs.length) root).1.dl.map (·.1)).Nodup:=by rw[hXt];exact H.nd
   have hco:rs≠[]→c≤Jw g (xA X (Aj ent rs.length) root).1.cr:=fun h=>by
    have h1:=H.cost h;rw[if_neg h]at hc
    rw[hXt];omega
   have hcr:(xA X (Aj ent rs.length) root).1.cr.length≤4096:=by rw[hXt,H.run.1];refine dw (amc H.fit H.run.2) ?_;exact dw (lN (akX _) (au 63)) (by decide)
   rw[hr2]at hrun
   generalize (xA X (Aj ent rs.length) root).1=R at hrun hls hdm hdn hco hcr;have hdl:R.dl.length=rs.length:=by
    have:=ag5 hdn (t7.imp fun h e=>by omega) hdm
    rwa [aV]at this
   have hpr:=acC g t1 R (by omega) (by omega);rw[put_eq t7 hdm]at hpr
   obtain⟨C,hC⟩:∃C,C=Jw g R.cr:=⟨_,rfl⟩
   have hCb:=ZB hg R.cr;rw[←hC]at hpr hco hCb
   obtain⟨dl,cr,ls⟩:=R;simp only at hls hdl hcr hCb;subst hls;have atd:(dl.map rF).length=rs.length:=by simp[hdl]
   simp only[Gl,eU,ints,dQ]at hrun hpr;clear hC hdm hdn hX2 hXt
   refine dD.of [] (kb 0xf008000007810000000000001e2017f7dfffd) (ι:={i:Nat // i≤ps.length}) (fun z=>[(.s 2,It.v (.d (.bool false))),(.o 4,It.box [TV.d (.sl (rts g.rs)),TV.d (.sl (nS g.ls)),TV.d (.int .i64 64),TV.d (.sl (wZ (jJ g))),TV.d (.int .i64 root),TV.d (.sl (List.map (fun n=>[D.int .i64 n]) rs)),TV.d (.int .i64 a),TV.d (.sl (hps Lc)),TV.d (.int .i64 c)]),(.s 4,It.v (.ptr (.o 4) 0)),(.s 10,It.v (.d (.sl (List.map Tb.cs X)))),
     (.s 14,It.v (.d (.int .i64 (if z.1=0 then 0 else C)))),(.s 15,It.v (.d (ints (if z.1=0 then []else rs)))),(.s 16,It.v (.d (.int .i64 (if z.1=0 then 0 else rs.length)))),
     (.s 107,It.v (.d (.sl (pks ps)))),(.s 108,It.v (.d (.int .i64 ps.length))),(.s 109,It.v (.d (.int .i64 z.1)))])
    (fun z=>ps.length-z.1) ⟨0,by omega⟩ ?_ ?_
   ·exact GS.aiy 15 (by simp[ints])
   ·rintro⟨k,k1⟩;by_cases hk:k<ps.length
    ·obtain rfl:k=0:=by omega
     have hne:rs≠[]:=fun h=>by have:=alF h;omega
     obtain⟨q,rfl⟩:=List.length_eq_one_iff.1 (hpz hne);obtain rfl:=hpq q (by simp);have hgq:pks [Aj ent rs.length] = [(Aj ent rs.length).cs]:=rfl;have ath:sH (Aj ent rs.length) = .agg ((Aj ent rs.length).cs.map .d):=rfl;rw[ath]at hrun
     rw[hgq];generalize Aj ent rs.length=Q at hrun⊢;simp only[Gn,Pk.cs,aC,dQ]at hrun;have hCw:IntKind.i64.wrap C=C:=wrap_i64 (by omega) (by omega);have hlw:IntKind.i64.wrap (rs.length:Int)=rs.length:=wrap_i64 (by omega) (by omega);simp -dsimp[ints,Pk.cs];and_intros;all_goals try first|rfl|omega|exact⟨by kernel_rfl⟩
     refine aI.of hrun [] 0 ?_;simp -dsimp;and_intros;all_goals try first|rfl|omega|exact⟨by kernel_rfl⟩
     refine aI.of hpr [] 0 ?_;simp -dsimp[hdl,atd,hCw,hlw];and_intros;all_goals try first|rfl|omega|exact⟨by kernel_rfl⟩
     refine dD.of [] (kb 0xf008000007810000000000001e2017f7dfffd) (ι:={j:Nat // j≤rs.length}) (fun z=>[(.s 2,It.v (.d (.bool false))),(.o 4,It.box [TV.d (.sl (rts g.rs)),TV.d (.sl (nS g.ls)),TV.d (.int .i64 64),TV.d (.sl (wZ (jJ g))),TV.d (.int .i64 root),TV.d (.sl (List.map (fun n=>[D.int .i64 n]) rs)),TV.d (.int .i64 a),TV.d (.sl (hps Lc)),TV.d (.int .i64 c)]),(.s 4,It.v (.ptr (.o 4) 0)),(.s 10,It.v (.d (.sl (List.map Tb.cs X)))),
       (.s 14,It.v (.d (.int .i64 C))),(.s 15,It.v (.d (ints (rs.take z.1)))),(.s 16,It.v (.d (.int .i64 rs.length))),
       (.s 107,It.v (.d (.sl (pks [Q])))),(.s 108,It.v (.d (.int .i64 1))),(.s 109,It.v (.d (.int .i64 0))),
       (.s 144,It.v (.d (ints rs))),(.s 145,It.v (.d (.int .i64 rs.length))),(.s 146,It.v (.d (.int .i64 z.1)))])
      (fun z=>rs.length-z.1) ⟨0,by omega⟩ ?_ ?_
     ·exact GS.to (by simp[ints,pks,Pk.cs])
     ·rintro⟨j,j1⟩;by_cases hj:j<rs.length
      ·have hjz:(j:Int)<rs.length:=by omega
       have hl:=aj hj;have hit:=agJ t7 hj;generalize rs[j]=y at hl hit;have hpf:=aaM (rs.take j) (by simp;omega) y;rw[hit]at hpf
       simp only[ints]at hpf;simp -dsimp[hjz,hl,ints];refine aI.of hpf [] 0 ?_;simp -dsimp[wrap_i64 (n:=(j:Int)+1) (by omega) (by omega)];and_intros;all_goals try first|rfl|omega|exact⟨by kernel_rfl⟩
       exact⟨⟨j+1,by omega⟩,GS.to (by simp[ints]),by simp;omega⟩
      ·have hjz :¬(j:Int)<rs.length:=by omega
       rw[show rs.take j=rs from aS (by omega)];have w01:IntKind.i64.wrap 1=1:=by decide
       simp -dsimp[hjz,w01];exact⟨⟨1,by simp⟩,GS.to (by simp[pks]),by simp⟩
    ·have hkz :¬(k:Int)<ps.length:=by omega
     have hkk:k=ps.length:=by omega
     have atg:(if k=0 then []else rs)=rs:=by
      by_cases hz:rs = []
      ·rw[hz];simp
      ·rw[if_neg (by rw[hkk,hpz hz];omega)]
     have hnn:(if k=0 then(0:Int)else rs.length)=rs.length:=by
      by_cases hz:rs = []
      ·rw[if_pos (by rw[hkk,alF hz]),hz];rfl
      ·rw[if_neg (by rw[hkk,hpz hz];omega)]
     obtain⟨K,hK,hcK⟩:∃K,(if k=0 then 0 else C)=K∧c≤K:=by
      refine⟨_,rfl,?_⟩;by_cases hz:rs = []
      ·rw[if_pos (by rw[hkk,alF hz])];rw[if_pos hz]at hc
       exact hc
      ·rw[if_neg (by rw[hkk,hpz hz];omega)];exact hco hz
     rw[atg,hnn,hK];have hsh:=aa3 g t1 root rs t5 (by omega) t7 t8 akO;have hE:=abL hg aob;have hpe:=TR 64 (jJ g) hE root (trM g root rs) H.good rs H.need p0M ahE;obtain⟨o1,o2,o3⟩:=H.yK aob;have hre:=ahX 64 (jJ g) hE (fun b hb=>by have:=(wP hg hb).1.2;omega) g t1 (qM g root rs) ahE rfl rfl root t5 g.rs.length (by omega) o1
     have hcr2:=acH o1 (by simp[qV]);generalize yK (jJ g) g.rs.length [(root,qM g root rs)] qV=R2 at hre o2 o3 hcr2;have alx:R2.dl.length=rs.length:=by
      have:=ag5 o3 (t7.imp fun h e=>by omega) o2
      rwa [aV]at this
     have ajh:=acC g t1 R2 (by omega) (by omega);rw[put_eq t7 o2]at ajh
     have hqe:pkE p0M 64 (tK (jJ g) (qF rs (trM g root rs)))=qM g root rs:=rfl;rw[hqe]at hpe
     have his:=aai rs (by omega);have htr:zu (rG g root rs)=trM g root rs:=rfl;rw[htr]at hsh
     generalize qM g root rs=q2 at hpe hre;generalize trM g root rs=T2 at hpe hsh;generalize Jw g R2.cr=C2 at ajh;obtain⟨dl2,cr2,ls2⟩:=R2;simp only at alx;have ate:(dl2.map rF).length=rs.length:=by simp[alx]
     simp only[eU,vw,rX,sH,Pk.cs,p0M,Gl,ints,aC,dQ,bv]at hsh hpe hre ajh his;simp -dsimp[hkz,ints];refine aI.of hsh [] 0 ?_;simp -dsimp;and_intros;all_goals try first|rfl|omega|exact⟨by kernel_rfl⟩
     refine aI.of hpe [] 0 ?_;simp -dsimp;and_intros;all_goals try first|rfl|omega|exact⟨by kernel_rfl⟩
     refine aI.of hre [] 0 ?_;simp -dsimp;and_intros;all_goals try first|rfl|omega|exact⟨by kernel_rfl⟩
     refine aI.of ajh [] 0 ?_;simp -dsimp;and_intros;all_goals try first|rfl|omega|exact⟨by kernel_rfl⟩
     refine aI.of his [] 0 ?_;simp -dsimp;and_intros;all_goals try first|rfl|omega|exact⟨by kernel_rfl⟩
     refine aI.of his [] 0 ?_;simp -dsimp[alx,ate,hcK];and_intros;all_goals try first|rfl|omega|exact⟨by kernel_rfl⟩
     refine aI.of abr [] 0 ?_;simp -dsimp;and_intros;all_goals try first|rfl|omega|exact⟨by kernel_rfl⟩
     refine Fin.of ?_;simp
theorem adl{g:aX}(h0:jo g=0){r:Int}{rs:List Int}(hr:dF g.rs r=true)(hl:rs.length≤5)(ha:rs.Pairwise (· < ·))(hh:∀x∈rs,dF g.rs x=true):
  ∃(a:Int) (Lc:List (Int×Int)) (c e:Int),Contract Tryz.prog 21 [eU g,.d (.int .i64 r),.d (ints rs)] [] (.qh [vw a Lc,.d (.int .i64 c),.d (.int .i64 e)]) [] []∧
   (e=0→(∀x∈rs,dst g x r<far)∧c≤if rs = []then 0 else zy (lY g) rs (2^rs.length-1) r):=by
 by_cases hz:rs = []
 ·exact⟨_,_,_,_,aeP g h0 r rs hr (by omega) ha hh hz,fun _=>⟨by rw[hz];simp,by rw[if_pos hz];exact fM _⟩⟩
 ·by_cases hf:uO≤zy (lY g) rs (2^rs.length-1) r
  ·exact⟨_,_,_,_,aeQ g h0 r rs hr (by omega) ha hh hz hf,fun h=>by omega⟩
  ·obtain⟨L,h1,h2⟩:=Zw g h0 r rs (by omega) hz (by omega);exact⟨_,_,_,_,Uo g h0 r rs hr (by omega) ha hh hz (by omega) L h1 h2,fun _=>⟨Zv h0 (by omega) hz hh (by omega),by rw[if_neg hz];exact fM _⟩⟩
theorem aeb(L:List Int)(hL:∀x∈L,I64 x):Contract Tryz.prog 3 [.d (ints L)] [] (.d (.bool true)) [] []:=by
 obtain⟨T,hT0⟩:∃T:Tp,T=(L.take 2000,0):=⟨_,rfl⟩
 have hT:iD T:=by rw[hT0];exact ae0 L hL
 obtain⟨t1,t2,t3,t4⟩:=Vq T;have t5:=acs T;obtain⟨t6,t7,t8⟩:=ag_ T;obtain⟨a,Lc,c,e,hch,hce⟩:=adl t1 t5 t6 t7 t8;have hfu:=af7 (jc T) t1;unfold abK at hfu;by_cases hf:(64:Int)<(jJ (jc T)).length
 ·rw[if_pos hf]at hfu
  exact TB T hT L hT0 0 [] 3 a Lc c e hfu hch (by simp)
 ·rw[if_neg hf]at hfu
  by_cases he:e=0
  ·subst he;obtain⟨h1,h2⟩:=hce rfl;exact aau T hT L hT0 a Lc c hfu hch (by omega) h1 h2
  ·exact TB T hT L hT0 64 (jJ (jc T)) 0 a Lc c e hfu hch (by simp[he])
end Go.Proofs

namespace Go.Proofs.YtkikielfhjoogaaGreatDoor
open Go Go.Tr
set_option maxRecDepth 100000
def XV : List (String × DataW Unit) := [("math/bits.deBruijn64tab", Rows.laid_math_bits_deBruijn64tab)]
theorem as6 : Tryz.prog.globalNamed "math/bits.deBruijn64tab" = some 0 := by kernel_rfl
theorem avk:(Tryz.prog.globals[0]?).map (·.type)=some 270:=by kernel_rfl
theorem avl:Tryz.prog.underlying 270=some (.array 64 5):=by kernel_rfl
theorem ao_:Tryz.prog.underlying 5=some (.int .u8):=by kernel_rfl
theorem anb:Tryz.prog.cellsOf 5=1:=by kernel_rfl
theorem aiV{H:Type}:(Rows.laid_math_bits_deBruijn64tab:DataW H) = .agg (deb.map fun n=>.lit (.int .u8 n)):=rfl
theorem U7{W:World}(h:laidMetH Tryz.prog XV W):Wn W:=by
 rw[MakeChecks.laidMetH_plain _ _ _ (by kernel_rfl)]at h
 obtain⟨ps,⟨g0,t0,cs0,f0,p0,q0,hg0,ht0,hv0,hd0,_⟩,_,_⟩:=h;obtain rfl:=Option.some.inj (as6.symm.trans hg0);obtain rfl:=Option.some.inj (avk.symm.trans ht0);obtain⟨xs,m1,rfl,hx1,hlen,hn,hel⟩:=DataW.trod_array avl hd0;simp only[aO,aiV,DataW.agg.injEq]at hx1;have hcell:∀i:Nat,i<64→cs0[i]? = some (.int .u8 (deb.getD i 0)):=fun i hi=>by
  have h1:=hel i hi;rw[anb,Nat.mul_one]at h1
  have h2:xs[i]? = some xs[i]:=aj (by omega);rw[h2]at h1
  obtain⟨n,e1,e2,_⟩:=DataW.trod_int ao_ h1;have h3:(xs.map (·.1))[i]? = (deb.map fun n=>(DataW.lit (Lit.int .u8 n):DataW Unit))[i]? :=by rw[←hx1.1]
  rw[bn,h2,bH,e2,bn]at h3
  have h4:deb[i]? = some n:=by
   cases hd:deb[i]? with
   | none=>rw[hd]at h3;simp at h3
   | some k=>rw[hd]at h3;simp at h3;rw[h3]
  have h5:cs0.toList[i]? = some (.int .u8 n):=by have:=congrArg (fun l=>l[0]?) e1;simp only[gZ,mG]at this;simpa using this
  rw[aK,h4,bZ];simpa using h5
 have hbl:0<W.heap.size:=by
  have:=World.var?_cell hg0 hv0 0;rw[hcell 0 (by omega)]at this
  exact World.block_lt_of_cell? W ⟨0,0,none⟩ this
 intro y hy;simp only[Xz,dH]at hy;subst hy;refine dU.iI fun i x hx=>?_
 simp only[bn,dO]at hx;obtain⟨n,h1,rfl⟩:=hx;have hi:i<64:=(aB.1 h1).1;refine⟨hbl,.int .u8 n,?_,by simp only[Rep]⟩;have:=World.var?_cell hg0 hv0 i;rw[hcell i hi,aK,h1,bZ]at this
 rw[bT];exact this
end Go.Proofs.YtkikielfhjoogaaGreatDoor

namespace Go.Proofs
open Go Go.Tr
end Go.Proofs

namespace Go.Proofs.YtkikielfhjoogaaGreatDoor.cf
open Go
theorem ug{a b:Bool}(h:a=true)(k:b=true):(a&&b)=true:=by rw[h,k];rfl
theorem own:ownKnob Tryz.prog.godebug=none:=by kernel_rfl
theorem laidOut:laidOutB Tryz.prog=true:=by kernel_rfl
theorem rowed:mapsRowed Tryz.prog=true:=by kernel_rfl
theorem heard:Tryz.prog.stopsHeard=true:=by kernel_rfl
theorem may:Tryz.prog.mayEnter=true:=by kernel_rfl
theorem main : Tryz.prog.mainIs = some (true, "03433fd13d130b1aade41679ccafe5e967f7ffe02d1cd6a59bbcd7a36c7c4c8e".toList) := by kernel_rfl
theorem looks:false=Tryz.prog.looks []:=by kernel_rfl
end Go.Proofs.YtkikielfhjoogaaGreatDoor.cf

namespace Go.Proofs.YtkikielfhjoogaaGreatDoor.topModes
open Go
theorem j10:(Rows.topModesRow.inPlace==Tryz.prog.inPlace 3)=true:=by kernel_rfl
theorem j11:(Rows.topModesRow.unfollowed==Tryz.prog.unfollowed 3)=true:=by kernel_rfl
theorem j12:(Rows.topModesRow.recurses==Tryz.prog.recurses 3)=true:=by kernel_rfl
theorem j13:(Rows.topModesRow.named==Tryz.prog.varsNamed 3)=true:=by kernel_rfl
theorem j23:(Rows.topModesRow.plainKeys==Tryz.prog.plainKeys)=true:=by kernel_rfl
theorem j27:(Rows.topModesRow.lifted==Tryz.prog.liftsFinal)=true:=by kernel_rfl
theorem j28:(Tryz.prog.make==some Rows.topModesRow.make)=true:=by kernel_rfl
theorem goes:false=Rows.topModesRow.goesBy Tryz.prog:=by kernel_rfl
theorem nam : Tryz.prog.funcNamed "bitcast/bitcasttop.TopModes" = some 3 := by kernel_rfl
set_option maxRecDepth 100000 in
theorem closed:joinedFacts Tryz.prog 3 Tryz.f3 Rows.topModesSpec Rows.topModesRow=true:=by
 delta joinedFacts
 exact(cf.ug (cf.ug (cf.ug (cf.ug (cf.ug (cf.ug (cf.ug (cf.ug (cf.ug (cf.ug (cf.ug (cf.ug (cf.ug (cf.ug (cf.ug (cf.ug (cf.ug (cf.ug (cf.ug (cf.ug (cf.ug (cf.ug (cf.ug (cf.ug (cf.ug (cf.ug (cf.ug (cf.ug (cf.ug (cf.ug (cf.ug (by kernel_rfl) cf.laidOut) cf.rowed) (by kernel_rfl)) (by kernel_rfl)) (by kernel_rfl)) (by kernel_rfl)) (by kernel_rfl)) (by kernel_rfl)) j10) j11) j12) j13) (by kernel_rfl)) (by kernel_rfl)) (by kernel_rfl)) (by kernel_rfl)) (by kernel_rfl)) (by kernel_rfl)) (by kernel_rfl)) (by kernel_rfl)) (by kernel_rfl)) j23) (by kernel_rfl)) cf.heard) cf.may) j27) j28) (by kernel_rfl)) (by kernel_rfl)) (by kernel_rfl)) (by kernel_rfl))
theorem inst:Tryz.f3.isInstance Tryz.prog Rows.topModesRow.origin Rows.topModesRow.targs:=of_decide_eq_true (by kernel_rfl)
theorem wrap:Tryz.f3.isWrapper Tryz.prog Rows.topModesRow.wrapper Rows.topModesRow.mainSum:=by unfold Func.isWrapper;first|(rw[if_pos (by decide+kernel)];kernel_rfl)|(rw[if_neg (by decide+kernel)];exact⟨rfl,rfl⟩)
end Go.Proofs.YtkikielfhjoogaaGreatDoor.topModes
