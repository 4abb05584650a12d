/-
  What functions of the program compute, stated as contracts over plain data; the conditions of each stand in its own statement.
-/
import Derived.Test.YtkikielfhjoogaaGreatDoorZA17
import Derived.Test.YtkikielfhjoogaaGreatDoorZA18
import Derived.Test.YtkikielfhjoogaaGreatDoorZA26
import Derived.Test.YtkikielfhjoogaaGreatDoorZA25
import Derived.Test.YtkikielfhjoogaaGreatDoorZA27
import Derived.Test.YtkikielfhjoogaaGreatDoorZA21
set_option linter.unusedSimpArgs false
set_option linter.unusedVariables false
set_option maxRecDepth 100000
set_option maxHeartbeats 16000000
namespace Go.Proofs
open Go Go.Tr
def abk(T:List (CM×SM))(n:Nat)(L:List (List D)):Prop:=L.length=n∧∀S,S<n→∃ks vs,L[S]? = some [.mp ks vs]∧rQ 1 (kV ks vs)∧∀v,kJ (kV ks vs) [v]=((T.getD S iP).1 v).map fun x=>TV.d (.int .i64 x)
theorem acM{k:Nat}(h:k≤6):ah8 .i64 1 (k:Int)=((2^k:Nat):Int):=by
 match k,h with
 | 0,_|1,_|2,_|3,_|4,_|5,_|6,_=>decide+kernel
@[simp]theorem amQ{po:Nat→Prop}{ks:List (List Int)}{vs:List D}{s:jB}:It.only po (It.BM (kV ks vs) s):=by
 intro x hx;simp only[kV,ak]at hx;obtain⟨y,_,rfl⟩:=hx
 trivial
@[simp]theorem amX(a b:Nat)(ks:List (List Int))(vs:List D)(s:jB):xw a b (.BM (kV ks vs) s) = .BM (kV ks vs) s:=by simp[xw,kV,aY,TV.ren]
@[simp]theorem ao0(a b id:Nat)(s:jB)(l:List (List Int))(c:Option (List Int)):xw a b (.yt id s l c) = .yt (uo a b id) s l c:=by rfl
def smD(l:List (Int×Int×Int)):List (List Int×List D):=l.map fun x=>([x.1],[D.int .i64 x.2.1,D.int .i64 x.2.2])
theorem amm(l:List (Int×Int×Int)):sF l=(smD l).map fun x=>(x.1,TV.agg (x.2.map TV.d)):=by simp[sF,smD,aY]
theorem ab5:∀(l:List (Int×Int×Int)) (r:Int),kJ (sF l) [r]=(nX l r).map fun x=>TV.agg [.d (.int .i64 x.1),.d (.int .i64 x.2)]
 | [],_=>rfl
 | x::l,r=>by
   have ih:=ab5 l r;simp only[sF]at ih;by_cases h:x.1=r
   ·simp[sF,nX,kJ,h]
   ·have h' :¬r=x.1:=fun e=>h e.symm
    simp[sF,nX,kJ,h,h',fQ]at ih⊢
    exact ih
theorem Tt:∀l:List (List Int×List D),CY (l.map (·.1)) (l.map (·.2))=l.map fun x=>(x.1,TV.agg (x.2.map TV.d))
 | []=>rfl
 | x::l=>by have:=Tt l;simp only[CY]at this⊢;simp only[aC,mJ,this]
theorem acf(l:List (Int×Int×Int)):CY ((smD l).map (·.1)) ((smD l).map (·.2))=sF l:=(Tt _).trans (amm l).symm
theorem abk.snoc{A:List Ar}{ts:List Int}{n:Nat}{C:List (List D)}(h:abk (kE A ts n) n C){l:List (Int×Int)}(hl:nX l=(VU A ts (kE A ts n) n).1):abk (kE A ts (n+1)) (n+1) (C++[[qj (QN l)]]):=by
 refine⟨by simp[h.1],fun S hS=>?_⟩;have hlen:=Nk A ts n;by_cases e:S=n
 ·subst e;refine⟨(QN l).map (·.1),(QN l).map (·.2),?_,?_,fun v=>?_⟩
  ·rw[b_ (by rw[h.1];omega)];simp[h.1,qj]
  ·rw[MO];exact MN l
  ·rw[MO,ML,hl,oN A ts (by omega)]
 ·obtain⟨ks,vs,h1,h2,h3⟩:=h.2 S (by omega);refine⟨ks,vs,?_,h2,fun v=>?_⟩
  ·rw[bW (by rw[h.1];omega)];exact h1
  ·rw[h3,oN A ts (by omega),oN A ts (n:=n+1) (by omega)]
theorem Wu.snoc{A:List Ar}{ts:List Int}{n:Nat}{C:List (List D)}(h:Wu (kE A ts n) n C){l:List (Int×Int×Int)}(hl:nX l=(VU A ts (kE A ts n) n).2):Wu (kE A ts (n+1)) (n+1) (C++[[Bq (smD l)]]):=by
 refine⟨by simp[h.1],fun S hS=>?_⟩;by_cases e:S=n
 ·subst e;refine⟨(smD l).map (·.1),(smD l).map (·.2),?_,?_,fun v=>?_⟩
  ·rw[b_ (by rw[h.1];omega)];simp[h.1,Bq]
  ·rw[acf];exact ab8 l
  ·rw[acf,ab5,hl,oN A ts (by omega)]
 ·obtain⟨ks,vs,h1,h2,h3⟩:=h.2 S (by omega);refine⟨ks,vs,?_,h2,fun v=>?_⟩
  ·rw[bW (by rw[h.1];omega)];exact h1
  ·rw[h3,oN A ts (by omega),oN A ts (n:=n+1) (by omega)]
theorem abJ(id:Nat)(v:D):∀l:List D,TV.vF id v (l.map .d)=l.map .d
 | []=>rfl
 | x::l=>by simp[TV.vF,TV.rO,abJ id v l]
@[simp]theorem arA(id:Nat)(v:D)(C:List (List D)):List.map (TV.vF id v) (dd C)=dd C:=by unfold dd;rw[aY];exact gU fun x _=>abJ id v x
@[simp]theorem auz(id:Nat)(v:D)(l:List (Int×Int×Int)):List.map (fun x=>(x.1,TV.rO id v x.2)) (sF l)=sF l:=by simp[sF,aY,TV.rO,TV.vF]
theorem ak3(x0:D)(C S:List (List D))(n:Nat)(hn:n≤1000)(hC:C.length=n)(hS:S.length=n)(j:Nat)(hj:j<n)(ks:List (List Int))(vs:List D)(hc:C[j]? = some [.mp ks vs])(m:CM)(hm:∀r,kJ (kV ks vs) [r]=(m r).map fun c=>TV.d (.int .i64 c))(hk:rQ 1 (kV ks vs))(r:Int):
  nH Tryz.prog 118 [.ptr (.x 0) 0,.d (.int .i64 j),.d (.int .i64 r)] [.box [.d x0,.aW 900 n,.aW 901 n]] [(900,.row 200 1 (dd C) false),(901,.row 224 1 (dd S) false)]
   (.d (.int .i64 (lC m r))) [.box [.d x0,.aW 900 n,.aW 901 n]] [(900,.row 200 1 (dd C) false),(901,.row 224 1 (dd S) false)]:=by
 have hg:=hm r;have hjz:(j:Int)<n:=by omega
 have hr:(dd C)[j]? = some [TV.d (.mp ks vs)]:=by simp[dd,hc]
 refine kD Tryz.func118 rfl (fun E0=>?_);refine iC.sound (g:=.mk) (ow:=[]) (kp:=(kb 0x2001c7)) ?_;rw[Tryz.ntmps118];cases he:m r with
 | none=>
   rw[he]at hg
   simp -dsimp[hg,hk,hC,hS,hjz,hr];and_intros;all_goals try first|rfl|omega|exact⟨by kernel_rfl⟩
   refine Fin.of ?_;simp[uO,lC,he]
 | some v=>
   rw[he]at hg
   simp -dsimp[hg,hk,hC,hS,hjz,hr];and_intros;all_goals try first|rfl|omega|exact⟨by kernel_rfl⟩
   refine Fin.of ?_;simp[lC,he]
def zu(L:List (Int×Int)):List (Int×Int):=L.mergeSort fun a b=>!decide (Lr [b.1,b.2] [a.1,a.2]<0)
def hz2(L:List (Int×Int)):List (List Int):=L.map fun h=>[h.1,h.2]
theorem aic(L:List (Int×Int)):BO (hz2 L)=hz2 (zu L):=by unfold BO hz2 zu;exact(List.map_mergeSort (f:=fun h:Int×Int=>[h.1,h.2]) fun a _ b _=>rfl).symm
theorem ahn(L:List (Int×Int)):yX Lr (hz2 L):=J5 fun x hx y hy h1 h2=>by obtain⟨a,_,rfl⟩:=ak.1 hx;obtain⟨b,_,rfl⟩:=ak.1 hy;simp at h1 h2;simp[h1,h2]
def NK(d:Int)(L:List (Int×Int)):TV:=.qh (if uO≤d then [.d (.sl []),.d (.int .i64 0),.d (.bool false)]else [.d (.sl (hps (zu L))),.d (.int .i64 d),.d (.bool true)])
theorem abw(A:List Ar)(hA:∀a∈A,1≤a.c∧a.c≤1000000000∧a.t≠0)(hAl:A.length≤10000)(root:Int)(ts:List Int)(ht:ts.length≤6)(ht0:ts≠[])(L:List (Int×Int))(hL:zy A ts (2^ts.length-1) root<uO→vJ (kE A ts (2^ts.length)) (2^ts.length-1) root L∧L.length≤100000):
  Contract Tryz.prog 55 [.d (.sl (A.map oD)),.d (.int .i64 root),.d (ints ts)] [] (NK (zy A ts (2^ts.length-1) root) L) [] []:=by
 have hsh:=acM ht;obtain⟨W,hW⟩:∃W,W=2^ts.length:=⟨_,rfl⟩
 have an7:W≤64:=by rw[hW];exact nP (n:=2) (by omega) ht
 rw[←hW]at hsh hL⊢
 refine ay Tryz.func55 rfl (fun E0=>?_);refine iC.sound (g:=.mk) (ow:=[5000117,5000119,5000120,39,46,3000038,3000045,1000099]) (kp:=(kb 0x20000002800800081f00000007027ffc7)) ?_;rw[Tryz.ntmps55]
 simp -dsimp[ints,ht0,hsh]
 refine dD.ofL [5000117,5000119,39,46,3000038,3000045] (kb 0x20000002800800081f00000007027ffc7) (ι:={z:Nat×List (List D)×List (List D) // abk (kE A ts z.1) z.1 z.2.1∧Wu (kE A ts z.1) z.1 z.2.2∧z.1≤W})
  (fun z=>[(.s 0,It.v (.d (.sl (A.map oD)))),(.s 1,It.v (.d (.int .i64 root))),(.s 2,It.v (.d (ints ts))),(.s 9,It.v (.d (.int .i64 W))),(.s 10,It.v (.ptr (.o 27) 0)),(.s 28,It.v (.d (.int .i64 W))),(.o 27,It.box [.d (.sl (A.map oD)),.aW 900 z.1.1,.aW 901 z.1.1]),(.o 900,.row 200 1 (dd z.1.2.1) false),(.o 901,.row 224 1 (dd z.1.2.2) false),(.s 29,It.v (.d (.int .i64 z.1.1)))])
  (fun z=>W-z.1.1) ⟨(0,[],[]),⟨rfl,fun _ h=>by omega⟩,⟨rfl,fun _ h=>by omega⟩,by simp⟩ ?_ ?_
 ·refine(GS.TQ (.o 27) 1 900 (cs:=[.d (.sl (A.map oD)),.c (.slice none 0 0),.c (.slice none 0 0)]) 200 1 (by simp) (by simp) (by simp) (by simp)).trans ?_;simp only[jL,Pl.o.injEq,reduceCtorEq,if_false,if_true,Nat.reduceEqDiff,List.set];exact GS.Df (.o 27) 2 901 (cs:=[.d (.sl (A.map oD)),.aW 900 0,.c (.slice none 0 0)]) 224 1 (by simp) (by simp) (by simp) (by simp) (by simp[ints])
 ·rintro⟨⟨n,C,S⟩,i1,i2,i3⟩;simp only at i1 i2 i3;have hC:=i1.1;have hS:=i2.1;by_cases hi:n<W
  ·have hiz:(n:Int)<W:=by omega
   have hA0:∀a∈A,0≤a.c:=fun a ha=>by have:=(hA a ha).1;omega
   have hwn:IntKind.i64.wrap ((n:Int)-1)=(n:Int)-1:=wrap_i64 (by omega) (by omega);have hand:Lp .i64 (n:Int) ((n:Int)-1)=((n&&&(n-1):Nat):Int):=by
    rcases jA n with h|h
    ·subst h;exact ac6
    ·exact afd (by omega) h
   have hand2:Lp .i64 ((n:Int)-1) (n:Int)=(((n-1)&&&n:Nat):Int):=by
    rcases jA n with h|h
    ·subst h;exact afe
    ·exact abp (by omega) (by omega) h
   have hok2:dB Tryz.prog 117=true:=by kernel_rfl
   obtain⟨z0,hz0⟩:∃z0:CM×SM,z0=if n&&&(n-1)=0∧0<n then uH n ts 0 iP else iP:=⟨_,rfl⟩
   have atw:xK z0.1:=by
    rw[hz0];split
    ·exact IZ _ _ _ xu
    ·exact xu
   apply aov (H:=fun (E:RG) (c1 c2:Nat)=>EO E=z0)
   case a=>
    intro J;by_cases hb:n&&&(n-1)=0
    ·have hbz:((n&&&(n-1):Nat):Int)=0:=by omega
     by_cases hn0:0<n
     ·have hn0z:(0:Int)<n:=by omega
      simp -dsimp[hiz,hC,hS,hwn,hand,hb,hbz,hn0,hn0z,ints];and_intros;all_goals try first|rfl|omega|exact⟨by kernel_rfl⟩
      refine dD.of [5000117] (kb 0x20000002800800081f00000007027ffc7) (ι:={z:Nat×RG×Nat×Nat // z.1≤ts.length∧EO z.2.1=uH n (ts.take z.1) 0 iP})
       (fun z=>[(.s 0,It.v (.d (.sl (A.map oD)))),(.s 1,It.v (.d (.int .i64 root))),(.s 2,It.v (.d (ints ts))),(.s 9,It.v (.d (.int .i64 W))),(.s 10,It.v (.ptr (.o 27) 0)),(.s 28,It.v (.d (.int .i64 W))),(.o 27,It.box [.d (.sl (A.map oD)),.aW 900 (n+1),.aW 901 (n+1)]),(.o 900,.row 200 1 (dd C++[[.mref 38]]) false),(.o 901,.row 224 1 (dd S++[[.mref 45]]) false),(.o 38,.fO (tY z.1.2.1.1) z.1.2.2.1 none none),(.o 45,.fO (sF z.1.2.1.2) z.1.2.2.2 none none),(.s 29,It.v (.d (.int .i64 n))),(.s 11,It.v (.d (.int .i64 n))),(.s 61,It.v (.d (ints ts))),(.s 62,It.v (.d (.int .i64 ts.length))),(.s 63,It.v (.d (.int .i64 z.1.1)))])
       (fun z=>ts.length-z.1.1) ⟨(0,([],[]),0,0),by simp,rfl⟩ ?_ ?_
      ·exact GS.to (by simp[ints,tY,sF])
      ·rintro⟨⟨i,E,c1,c2⟩,j1,j2⟩;simp only at j1 j2;by_cases hi2:i<ts.length
       ·have Ri:(i:Int)<ts.length:=by omega
        have hl:=aj hi2;have htk:ts.take (i+1)=ts.take i++[ts[i]]:=by rw[aT,hl];rfl
        have hsi:=acM (k:=i) (by omega);have wi:IntKind.i64.wrap ((i:Int)+1)=(i:Int)+1:=wrap_i64 (by omega) (by omega);generalize ts[i]=t at hl htk;have hsn:=Ur n (ts.take i) t 0 iP;rw[←htk,gG,Nat.min_eq_left (by omega),bT,←j2]at hsn
        obtain⟨p,hp⟩:∃p,p=2^i:=⟨_,rfl⟩
        rw[←hp]at hsi hsn
        by_cases he:n=p
        ·subst he;rw[if_pos rfl]at hsn
         have htr:=aix A C S n hC hS (by omega) E c1 c2 t 0 0 0;obtain⟨E1,hE1⟩:∃E1,E1=Ry E t 0 (0,0):=⟨_,rfl⟩
         have hf1:EO E1=yL (EO E) t 0 (0,0):=by rw[hE1];exact V9 E t 0 (0,0)
         rw[←hE1]at htr
         simp -dsimp[Ri,hl,ints,hsi];refine oG.Y3 htr [.o 27] [(900,900),(901,901),(902,38),(903,45)] 3000 ?_;simp -dsimp[hok2,wi,hC];refine⟨⟨(i+1,E1,c1+1,c2+1),by simp only;omega,by simp only;rw[hf1,hsn]⟩,?_,by simp;omega⟩
         refine(GS.to (l':=[(.s 0,It.v (.d (.sl (A.map oD)))),(.s 1,It.v (.d (.int .i64 root))),(.s 2,It.v (.d (ints ts))),(.s 9,It.v (.d (.int .i64 W))),(.s 10,It.v (.ptr (.o 27) 0)),(.s 28,It.v (.d (.int .i64 W))),(.o 27,It.box [.d (.sl (A.map oD)),.aW 4900 (n+1),.aW 4901 (n+1)]),(.o 4900,.row 200 1 (dd C++[[.mref 4902]]) false),(.o 4901,.row 224 1 (dd S++[[.mref 4903]]) false),(.o 4902,.fO (tY E1.1) (c1+1) none none),(.o 4903,.fO (sF E1.2) (c2+1) none none),(.s 29,It.v (.d (.int .i64 n))),(.s 11,It.v (.d (.int .i64 n))),(.s 61,It.v (.d (ints ts))),(.s 62,It.v (.d (.int .i64 ts.length))),(.s 63,It.v (.d (.int .i64 ((i:Int)+1))))]) (by simp[ints])).trans ?_
         refine(GS.ren' (l':=[(.s 0,It.v (.d (.sl (A.map oD)))),(.s 1,It.v (.d (.int .i64 root))),(.s 2,It.v (.d (ints ts))),(.s 9,It.v (.d (.int .i64 W))),(.s 10,It.v (.ptr (.o 27) 0)),(.s 28,It.v (.d (.int .i64 W))),(.o 27,It.box [.d (.sl (A.map oD)),.aW 900 (n+1),.aW 4901 (n+1)]),(.o 900,.row 200 1 (dd C++[[.mref 4902]]) false),(.o 4901,.row 224 1 (dd S++[[.mref 4903]]) false),(.o 4902,.fO (tY E1.1) (c1+1) none none),(.o 4903,.fO (sF E1.2) (c2+1) none none),(.s 29,It.v (.d (.int .i64 n))),(.s 11,It.v (.d (.int .i64 n))),(.s 61,It.v (.d (ints ts))),(.s 62,It.v (.d (.int .i64 ts.length))),(.s 63,It.v (.d (.int .i64 ((i:Int)+1))))]) 4900 900 (by decide) (by simp) (by simp[uo])).trans ?_
         refine(GS.ren' (l':=[(.s 0,It.v (.d (.sl (A.map oD)))),(.s 1,It.v (.d (.int .i64 root))),(.s 2,It.v (.d (ints ts))),(.s 9,It.v (.d (.int .i64 W))),(.s 10,It.v (.ptr (.o 27) 0)),(.s 28,It.v (.d (.int .i64 W))),(.o 27,It.box [.d (.sl (A.map oD)),.aW 900 (n+1),.aW 901 (n+1)]),(.o 900,.row 200 1 (dd C++[[.mref 4902]]) false),(.o 901,.row 224 1 (dd S++[[.mref 4903]]) false),(.o 4902,.fO (tY E1.1) (c1+1) none none),(.o 4903,.fO (sF E1.2) (c2+1) none none),(.s 29,It.v (.d (.int .i64 n))),(.s 11,It.v (.d (.int .i64 n))),(.s 61,It.v (.d (ints ts))),(.s 62,It.v (.d (.int .i64 ts.length))),(.s 63,It.v (.d (.int .i64 ((i:Int)+1))))]) 4901 901 (by decide) (by simp) (by simp[uo])).trans ?_
         refine(GS.ren' (l':=[(.s 0,It.v (.d (.sl (A.map oD)))),(.s 1,It.v (.d (.int .i64 root))),(.s 2,It.v (.d (ints ts))),(.s 9,It.v (.d (.int .i64 W))),(.s 10,It.v (.ptr (.o 27) 0)),(.s 28,It.v (.d (.int .i64 W))),(.o 27,It.box [.d (.sl (A.map oD)),.aW 900 (n+1),.aW 901 (n+1)]),(.o 900,.row 200 1 (dd C++[[.mref 38]]) false),(.o 901,.row 224 1 (dd S++[[.mref 4903]]) false),(.o 38,.fO (tY E1.1) (c1+1) none none),(.o 4903,.fO (sF E1.2) (c2+1) none none),(.s 29,It.v (.d (.int .i64 n))),(.s 11,It.v (.d (.int .i64 n))),(.s 61,It.v (.d (ints ts))),(.s 62,It.v (.d (.int .i64 ts.length))),(.s 63,It.v (.d (.int .i64 ((i:Int)+1))))]) 4902 38 (by decide) (by simp) (by simp[uo])).trans ?_
         exact GS.ren' 4903 45 (by decide) (by simp) (by simp[uo])
        ·have hez :¬(n:Int)=(p:Int):=by omega
         rw[if_neg he]at hsn
         simp -dsimp[Ri,hl,ints,hsi,hez,wi];and_intros;all_goals try first|rfl|omega|exact⟨by kernel_rfl⟩
         exact⟨⟨(i+1,E,c1,c2),by simp only;omega,hsn.symm⟩,GS.to (by simp[ints]),by simp;omega⟩
       ·have Ri :¬(i:Int)<ts.length:=by omega
        rw[aS (by omega)]at j2
        simp -dsimp[Ri,hwn,hand2];and_intros;all_goals try first|rfl|omega|exact⟨by kernel_rfl⟩
        refine dD.gs (GS.to (l':=[(.s 0,It.v (.d (.sl (A.map oD)))),(.s 1,It.v (.d (.int .i64 root))),(.s 2,It.v (.d (ints ts))),(.s 9,It.v (.d (.int .i64 W))),(.s 10,It.v (.ptr (.o 27) 0)),(.s 28,It.v (.d (.int .i64 W))),(.o 27,It.box [.d (.sl (A.map oD)),.aW 900 (n+1),.aW 901 (n+1)]),(.o 900,.row 200 1 (dd C++[[.mref 38]]) false),(.o 901,.row 224 1 (dd S++[[.mref 45]]) false),(.o 38,.fO (tY E.1) c1 none none),(.o 45,.fO (sF E.2) c2 none none),(.s 29,It.v (.d (.int .i64 n))),(.s 11,It.v (.d (.int .i64 n))),(.s 14,It.v (.d (.int .i64 (((n-1)&&&n:Nat):Int))))]) (by simp)) ?_
        exact J E c1 c2 (by rw[j2,hz0,if_pos ⟨hb,hn0⟩])
     ·have hn0z :¬(0:Int)<n:=by omega
      simp -dsimp[hiz,hC,hS,hwn,hand,hb,hbz,hn0,hn0z,hand2];and_intros;all_goals try first|rfl|omega|exact⟨by kernel_rfl⟩
      refine dD.gs (GS.to (l':=[(.s 0,It.v (.d (.sl (A.map oD)))),(.s 1,It.v (.d (.int .i64 root))),(.s 2,It.v (.d (ints ts))),(.s 9,It.v (.d (.int .i64 W))),(.s 10,It.v (.ptr (.o 27) 0)),(.s 28,It.v (.d (.int .i64 W))),(.o 27,It.box [.d (.sl (A.map oD)),.aW 900 (n+1),.aW 901 (n+1)]),(.o 900,.row 200 1 (dd C++[[.mref 38]]) false),(.o 901,.row 224 1 (dd S++[[.mref 45]]) false),(.o 38,.fO (tY (([],[]):RG).1) 0 none none),(.o 45,.fO (sF (([],[]):RG).2) 0 none none),(.s 29,It.v (.d (.int .i64 n))),(.s 11,It.v (.d (.int .i64 n))),(.s 14,It.v (.d (.int .i64 (((n-1)&&&n:Nat):Int))))]) (by simp[tY,sF])) ?_
      exact J ([],[]) 0 0 (by rw[hz0,if_neg (by simp[hb,hn0])];rfl)
    ·have hbz :¬((n&&&(n-1):Nat):Int)=0:=by omega
     simp -dsimp[hiz,hC,hS,hwn,hand,hb,hbz,hand2];and_intros;all_goals try first|rfl|omega|exact⟨by kernel_rfl⟩
     refine dD.gs (GS.to (l':=[(.s 0,It.v (.d (.sl (A.map oD)))),(.s 1,It.v (.d (.int .i64 root))),(.s 2,It.v (.d (ints ts))),(.s 9,It.v (.d (.int .i64 W))),(.s 10,It.v (.ptr (.o 27) 0)),(.s 28,It.v (.d (.int .i64 W))),(.o 27,It.box [.d (.sl (A.map oD)),.aW 900 (n+1),.aW 901 (n+1)]),(.o 900,.row 200 1 (dd C++[[.mref 38]]) false),(.o 901,.row 224 1 (dd S++[[.mref 45]]) false),(.o 38,.fO (tY (([],[]):RG).1) 0 none none),(.o 45,.fO (sF (([],[]):RG).2) 0 none none),(.s 29,It.v (.d (.int .i64 n))),(.s 11,It.v (.d (.int .i64 n))),(.s 14,It.v (.d (.int .i64 (((n-1)&&&n:Nat):Int))))]) (by simp[tY,sF])) ?_
     exact J ([],[]) 0 0 (by rw[hz0,if_neg (by simp[hb ])];rfl)
   case b=>
    intro E c1 c2 hE
    refine dD.of [5000117] (kb 0x20000002800800081f00000007027ffc7) (ι:={z:Nat×List Nat×RG×Nat×Nat // akB n z.1 z.2.1∧xK (EO z.2.2.1).1∧z.2.1.foldl (fun z p=>lV ((kE A ts n).getD p iP).1 ((kE A ts n).getD (n-p) iP).1 p z) (EO z.2.2.1)=(xJ n (n-1)).foldl (fun z p=>lV ((kE A ts n).getD p iP).1 ((kE A ts n).getD (n-p) iP).1 p z) z0})
     (fun z=>[(.s 0,It.v (.d (.sl (A.map oD)))),(.s 1,It.v (.d (.int .i64 root))),(.s 2,It.v (.d (ints ts))),(.s 9,It.v (.d (.int .i64 W))),(.s 10,It.v (.ptr (.o 27) 0)),(.s 28,It.v (.d (.int .i64 W))),(.o 27,It.box [.d (.sl (A.map oD)),.aW 900 (n+1),.aW 901 (n+1)]),(.o 900,.row 200 1 (dd C++[[.mref 38]]) false),(.o 901,.row 224 1 (dd S++[[.mref 45]]) false),(.o 38,.fO (tY z.1.2.2.1.1) z.1.2.2.2.1 none none),(.o 45,.fO (sF z.1.2.2.1.2) z.1.2.2.2.2 none none),(.s 29,It.v (.d (.int .i64 n))),(.s 11,It.v (.d (.int .i64 n))),(.s 14,It.v (.d (.int .i64 (z.1.1:Nat))))])
     (fun z=>z.1.1) ⟨((n-1)&&&n,xJ n (n-1),E,c1,c2),by
      rcases jA n with h|h
      ·subst h;exact .inl ⟨rfl,rfl⟩
      ·exact Tv (by omega) (au _) h (Nat.and_self n),by rw[hE];exact atw,by rw[hE]⟩ ?_ ?_
    ·exact GS.to (by simp)
    ·rintro⟨⟨q,R,E,d1,d2⟩,j1,j2,j3⟩;simp only at j1 j2 j3;by_cases hq:0<q
     ·rcases j1 with⟨h,_⟩|⟨_,hqn,hqs,hRe⟩
      ·omega
      have hqz:(0:Int)<q:=by omega
      have hnz:(0:Int)<n:=by omega
      obtain⟨ks,vs,h1,h2,h3⟩:=i1.2 q hqn;obtain⟨ks2,vs2,g1,g2,g3⟩:=i1.2 (n-q) (by omega);have atp:(q:Int)<n+1:=by omega
      have hr:(dd C++[[TV.mref 38]])[q]? = some [TV.d (.mp ks vs)]:=by rw[bW (by simp[dd];omega)];simp[dd,h1]
      have hT:=vY hA0 ts n;generalize hp1:((kE A ts n).getD q iP).1=p1 at h3;generalize hp2:((kE A ts n).getD (n-q) iP).1=p2 at g3;have hb1:xK p1:=by rw[←hp1];exact hT q
      have hb2:xK p2:=by rw[←hp2];exact hT (n-q)
      have hn0:0<n:=by omega
      rw[hRe,bV,hp1,hp2]at j3
      simp -dsimp[hq,hn0,atp,hC,hr];refine⟨by omega,oG.range ?_⟩;simp -dsimp[F9];intro sn;have hwq:IntKind.i64.wrap ((q:Int)-1)=(q:Int)-1:=wrap_i64 (by omega) (by omega);have an8:=abp (p:=q) (n:=n) (by omega) (by omega) hq;have hsub:=RP (S:=n) (q:=q) (by omega) (by omega) hqs
      refine dD.of [5000117] (kb 0x20000002800800081f00000007027ffc7) (ι:={z:RG×Nat×Nat×List (List Int)×Option (List Int)×List Int // EO z.1=sV p1 p2 q z.2.2.2.2.2 (EO E)∧(∀x∈z.2.2.2.1,x∈(kV ks vs).map (·.1))∧∀x∈(kV ks vs).map (·.1),x∈z.2.2.2.1∨∀r,x = [r]→r∈z.2.2.2.2.2})
       (fun z=>[(.s 0,It.v (.d (.sl (A.map oD)))),(.s 1,It.v (.d (.int .i64 root))),(.s 2,It.v (.d (ints ts))),(.s 9,It.v (.d (.int .i64 W))),(.s 10,It.v (.ptr (.o 27) 0)),(.s 28,It.v (.d (.int .i64 W))),(.o 27,It.box [.d (.sl (A.map oD)),.aW 900 (n+1),.aW 901 (n+1)]),(.o 900,.row 200 1 (dd C++[[.mref 38]]) false),(.o 901,.row 224 1 (dd S++[[.mref 45]]) false),(.o 38,.fO (tY z.1.1.1) z.1.2.1 none none),(.o 45,.fO (sF z.1.1.2) z.1.2.2.1 none none),(.s 29,It.v (.d (.int .i64 n))),(.s 11,It.v (.d (.int .i64 n))),(.s 14,It.v (.d (.int .i64 (q:Nat)))),(.s 99,It.v (.ptr (.o 99) 0)),(.o 99,It.yt 4000099 sn z.1.2.2.2.1 z.1.2.2.2.2.1),(.o 4000099,It.BM (kV ks vs) sn)])
       (fun z=>z.1.2.2.2.1.length) ⟨(E,d1,d2,(kV ks vs).map (·.1),none,[]),by simp only;rw[aeo],fun x h=>h,fun x h=>.inl h⟩ ?_ ?_
      ·exact GS.to (by simp)
      ·rintro⟨⟨E1,e1,e2,left,cur,done⟩,k1,k2,k3⟩;simp only at k1 k2 k3;simp -dsimp;refine oG.next ?_;simp -dsimp[Ph];refine⟨fun hl0=>?_,fun x hx=>?_⟩
       ·have hall:sV p1 p2 q done (EO E)=lV p1 p2 q (EO E):=aen fun r c hrc=>by
         have hk:=h3 r;rw[hrc]at hk
         have hmem :[r]∈(kV ks vs).map (·.1):=by
          refine Classical.byContradiction fun hno=>?_
          have:∀es:List (List Int×TV),[r]∉es.map (·.1)→kJ es [r]=none:=by
           intro es
           induction es with
           | nil=>intro _;rfl
           | cons y es ih=>intro h;simp only[aC,aF,not_or]at h;rw[kJ,if_neg h.1];exact ih h.2
          rw[this _ hno]at hk
          simp at hk
         rcases k3 _ hmem with h|h
         ·rw[hl0]at h;simp at h
         ·exact h r rfl
        simp -dsimp[hwq,an8];and_intros;all_goals try first|rfl|omega|exact⟨by kernel_rfl⟩
        refine⟨⟨((q-1)&&&n,xJ n (q-1),E1,e1,e2),Tv (by omega) (by omega) hq hqs,?_,?_⟩,GS.to (by simp),?_⟩
        ·simp only;rw[k1,hall];exact Dh hb1 hb2 j2 q
        ·simp only;rw[k1,hall];exact j3
        ·have:(q-1)&&&n≤q-1:=Nat.and_le_left;simp only;omega
       ·obtain⟨r,rfl⟩:∃r,x = [r]:=by
         obtain⟨y,hy,rfl⟩:=ak.1 (k2 x hx);have:=h2 y hy
         match e:y.1,this with
         | [r],_=>exact⟨r,rfl⟩
        obtain⟨v,hv⟩:=XK (k2 _ hx);have hvr:=hv;rw[h3 r]at hvr
        obtain⟨c,hc,rfl⟩:=dO.1 hvr;have hbc:=hb1 r c hc;have hbq:=vN hb2 r;have hwc:IntKind.i64.wrap (c+lC p2 r)=c+lC p2 r:=wrap_i64 (by omega) (by simp[uO]at hbq hbc;omega);have hat:=akE (.sl (A.map oD)) (C++[[qj (QN E1.1)]]) (by simp;omega) (n-q) ks2 vs2 (by rw[bW (by omega)];exact g1) p2 r (g3 r) g2
        have htr:=aix A C S n hC hS (by omega) E1 e1 e2 r (c+lC p2 r) 0 q;obtain⟨E2,hE2⟩:∃E2,E2=Ry E1 r (c+lC p2 r) (0,(q:Int)):=⟨_,rfl⟩
        have hf2:EO E2=sV p1 p2 q (done++[r]) (EO E):=by
         rw[hE2];refine(V9 E1 r _ _).trans ?_
         show yL (EO E1) _ _ _=_
         rw[k1,aaz hc]
        rw[←hE2]at htr
        have hok:dB Tryz.prog 118=true:=by kernel_rfl
        simp -dsimp[hv,hsub];and_intros;all_goals try first|rfl|omega|exact⟨by kernel_rfl⟩
        refine aI.peek hat (.o 27) 900 38 ?_;simp -dsimp[hok,hC,Zy,hwc];rw[←Zy];refine oG.Y3 htr [.o 27] [(900,900),(901,901),(902,38),(903,45)] 3000 ?_;simp -dsimp[hok2,hC,hwc];refine⟨⟨(E2,e1+1,e2+1,left.erase [r],some [r],done++[r]),hf2,fun y hy=>k2 y (List.mem_of_mem_erase hy),fun y hy=>?_⟩,?_,?_⟩
        ·by_cases LC:y = [r]
         ·exact .inr fun r' h=>by rw[LC]at h;simp at h;simp[h]
         ·rcases k3 y hy with h|h
          ·exact .inl ((nO LC).2 h)
          ·exact .inr fun r' h'=>by simp[h r' h']
        ·refine(GS.to (l':=[(.s 0,It.v (.d (.sl (A.map oD)))),(.s 1,It.v (.d (.int .i64 root))),(.s 2,It.v (.d (ints ts))),(.s 9,It.v (.d (.int .i64 W))),(.s 10,It.v (.ptr (.o 27) 0)),(.s 28,It.v (.d (.int .i64 W))),(.o 27,It.box [.d (.sl (A.map oD)),.aW 4900 (n+1),.aW 4901 (n+1)]),(.o 4900,.row 200 1 (dd C++[[.mref 4902]]) false),(.o 4901,.row 224 1 (dd S++[[.mref 4903]]) false),(.o 4902,.fO (tY E2.1) (e1+1) none none),(.o 4903,.fO (sF E2.2) (e2+1) none none),(.s 29,It.v (.d (.int .i64 n))),(.s 11,It.v (.d (.int .i64 n))),(.s 14,It.v (.d (.int .i64 (q:Nat)))),(.s 99,It.v (.ptr (.o 99) 0)),(.o 99,It.yt 4000099 sn (left.erase [r]) (some [r])),(.o 4000099,It.BM (kV ks vs) sn)]) (by simp)).trans ?_
         refine(GS.ren' (l':=[(.s 0,It.v (.d (.sl (A.map oD)))),(.s 1,It.v (.d (.int .i64 root))),(.s 2,It.v (.d (ints ts))),(.s 9,It.v (.d (.int .i64 W))),(.s 10,It.v (.ptr (.o 27) 0)),(.s 28,It.v (.d (.int .i64 W))),(.o 27,It.box [.d (.sl (A.map oD)),.aW 900 (n+1),.aW 4901 (n+1)]),(.o 900,.row 200 1 (dd C++[[.mref 4902]]) false),(.o 4901,.row 224 1 (dd S++[[.mref 4903]]) false),(.o 4902,.fO (tY E2.1) (e1+1) none none),(.o 4903,.fO (sF E2.2) (e2+1) none none),(.s 29,It.v (.d (.int .i64 n))),(.s 11,It.v (.d (.int .i64 n))),(.s 14,It.v (.d (.int .i64 (q:Nat)))),(.s 99,It.v (.ptr (.o 99) 0)),(.o 99,It.yt 4000099 sn (left.erase [r]) (some [r])),(.o 4000099,It.BM (kV ks vs) sn)]) 4900 900 (by decide) (by simp) (by simp[uo])).trans ?_
         refine(GS.ren' (l':=[(.s 0,It.v (.d (.sl (A.map oD)))),(.s 1,It.v (.d (.int .i64 root))),(.s 2,It.v (.d (ints ts))),(.s 9,It.v (.d (.int .i64 W))),(.s 10,It.v (.ptr (.o 27) 0)),(.s 28,It.v (.d (.int .i64 W))),(.o 27,It.box [.d (.sl (A.map oD)),.aW 900 (n+1),.aW 901 (n+1)]),(.o 900,.row 200 1 (dd C++[[.mref 4902]]) false),(.o 901,.row 224 1 (dd S++[[.mref 4903]]) false),(.o 4902,.fO (tY E2.1) (e1+1) none none),(.o 4903,.fO (sF E2.2) (e2+1) none none),(.s 29,It.v (.d (.int .i64 n))),(.s 11,It.v (.d (.int .i64 n))),(.s 14,It.v (.d (.int .i64 (q:Nat)))),(.s 99,It.v (.ptr (.o 99) 0)),(.o 99,It.yt 4000099 sn (left.erase [r]) (some [r])),(.o 4000099,It.BM (kV ks vs) sn)]) 4901 901 (by decide) (by simp) (by simp[uo])).trans ?_
         refine(GS.ren' (l':=[(.s 0,It.v (.d (.sl (A.map oD)))),(.s 1,It.v (.d (.int .i64 root))),(.s 2,It.v (.d (ints ts))),(.s 9,It.v (.d (.int .i64 W))),(.s 10,It.v (.ptr (.o 27) 0)),(.s 28,It.v (.d (.int .i64 W))),(.o 27,It.box [.d (.sl (A.map oD)),.aW 900 (n+1),.aW 901 (n+1)]),(.o 900,.row 200 1 (dd C++[[.mref 38]]) false),(.o 901,.row 224 1 (dd S++[[.mref 4903]]) false),(.o 38,.fO (tY E2.1) (e1+1) none none),(.o 4903,.fO (sF E2.2) (e2+1) none none),(.s 29,It.v (.d (.int .i64 n))),(.s 11,It.v (.d (.int .i64 n))),(.s 14,It.v (.d (.int .i64 (q:Nat)))),(.s 99,It.v (.ptr (.o 99) 0)),(.o 99,It.yt 4000099 sn (left.erase [r]) (some [r])),(.o 4000099,It.BM (kV ks vs) sn)]) 4902 38 (by decide) (by simp) (by simp[uo])).trans ?_
         exact GS.ren' 4903 45 (by decide) (by simp) (by simp[uo])
        ·have:=ig hx;have:=fZ hx;simp only;omega
     ·rcases j1 with⟨hq0,hR0⟩|⟨h,_⟩
      ·rw[hR0]at j3
       simp only[List.foldl_nil]at j3;have hfin:EO E=(xJ n (n-1)).foldl (fun z p=>lV ((kE A ts n).getD p iP).1 ((kE A ts n).getD (n-p) iP).1 p z) z0:=j3;have hset:VU A ts (kE A ts n) n=relE A (EO E):=by rw[VU,hfin,hz0]
       have hrx:=ajT A (fun a ha=>⟨hA0 a ha,(hA a ha).2.1⟩) hAl C S n hC hS (by omega) E j2 (zl A (nX E.1)+1) (by omega) d1 d2;obtain⟨F,hF⟩:∃F,F=Ro A (zl A (nX E.1)+1) E:=⟨_,rfl⟩
       have hfF:EO F=VU A ts (kE A ts n) n:=by rw[hset,hF,af5];rfl
       obtain⟨u1,hu1⟩:∃u,u=d1+A.length*(zl A (nX E.1)+1):=⟨_,rfl⟩
       obtain⟨u2,hu2⟩:∃u,u=d2+A.length*(zl A (nX E.1)+1):=⟨_,rfl⟩
       rw[←hF,←hu1,←hu2]at hrx
       have aof:dB Tryz.prog 119=true:=by kernel_rfl
       have hc1:=i1.snoc (l:=F.1) (congrArg Prod.fst hfF);have hs1:=i2.snoc (l:=F.2) (congrArg Prod.snd hfF);have wn1:IntKind.i64.wrap ((n:Int)+1)=(n:Int)+1:=wrap_i64 (by omega) (by omega);by_cases hn0:0<n
       ·simp -dsimp[hn0,hq];refine oG.Y3 hrx [.o 27] [(900,900),(901,901),(902,38),(903,45)] 3000 ?_;simp -dsimp[aof,hC,wn1];refine⟨⟨(n+1,C++[[qj (QN F.1)]],S++[[Bq (smD F.2)]]),hc1,hs1,by simp only;omega⟩,?_,by simp only;omega⟩
        refine(GS.to (l':=[(.s 0,It.v (.d (.sl (A.map oD)))),(.s 1,It.v (.d (.int .i64 root))),(.s 2,It.v (.d (ints ts))),(.s 9,It.v (.d (.int .i64 W))),(.s 10,It.v (.ptr (.o 27) 0)),(.s 28,It.v (.d (.int .i64 W))),(.o 27,It.box [.d (.sl (A.map oD)),.aW 3900 (n+1),.aW 3901 (n+1)]),(.o 3900,.row 200 1 (dd C++[[.mref 3902]]) false),(.o 3901,.row 224 1 (dd S++[[.mref 3903]]) false),(.s 29,It.v (.d (.int .i64 ((n:Int)+1)))),(.o 3902,.fO (tY F.1) u1 none none),(.o 3903,.fO (sF F.2) u2 none none)]) (by simp)).trans ?_
        refine(GS.anV (l':=[(.s 0,It.v (.d (.sl (A.map oD)))),(.s 1,It.v (.d (.int .i64 root))),(.s 2,It.v (.d (ints ts))),(.s 9,It.v (.d (.int .i64 W))),(.s 10,It.v (.ptr (.o 27) 0)),(.s 28,It.v (.d (.int .i64 W))),(.o 27,It.box [.d (.sl (A.map oD)),.aW 3900 (n+1),.aW 3901 (n+1)]),(.o 3900,.row 200 1 (dd C++[[TV.d (qj (QN F.1))]]) false),(.o 3901,.row 224 1 (dd S++[[.mref 3903]]) false),(.s 29,It.v (.d (.int .i64 ((n:Int)+1)))),(.o 3903,.fO (sF F.2) u2 none none)]) 3902 (QN F.1) (c:=u1) (pd:=none) (s:=none) (by simp[Zy]) (by simp)).trans ?_
        refine(GS.akH (l':=[(.s 0,It.v (.d (.sl (A.map oD)))),(.s 1,It.v (.d (.int .i64 root))),(.s 2,It.v (.d (ints ts))),(.s 9,It.v (.d (.int .i64 W))),(.s 10,It.v (.ptr (.o 27) 0)),(.s 28,It.v (.d (.int .i64 W))),(.o 27,It.box [.d (.sl (A.map oD)),.aW 3900 (n+1),.aW 3901 (n+1)]),(.o 3900,.row 200 1 (dd C++[[TV.d (qj (QN F.1))]]) false),(.o 3901,.row 224 1 (dd S++[[TV.d (Bq (smD F.2))]]) false),(.s 29,It.v (.d (.int .i64 ((n:Int)+1))))]) 3903 (smD F.2) (c:=u2) (pd:=none) (s:=none) (by simp[amm]) (by simp)).trans ?_
        refine(GS.ren' (l':=[(.s 0,It.v (.d (.sl (A.map oD)))),(.s 1,It.v (.d (.int .i64 root))),(.s 2,It.v (.d (ints ts))),(.s 9,It.v (.d (.int .i64 W))),(.s 10,It.v (.ptr (.o 27) 0)),(.s 28,It.v (.d (.int .i64 W))),(.o 27,It.box [.d (.sl (A.map oD)),.aW 900 (n+1),.aW 3901 (n+1)]),(.o 900,.row 200 1 (dd C++[[TV.d (qj (QN F.1))]]) false),(.o 3901,.row 224 1 (dd S++[[TV.d (Bq (smD F.2))]]) false),(.s 29,It.v (.d (.int .i64 ((n:Int)+1))))]) 3900 900 (by decide) (by simp) (by simp)).trans ?_
        exact GS.ren' 3901 901 (by decide) (by simp) (by simp[hC,hS])
       ·simp -dsimp[hn0];refine oG.Y3 hrx [.o 27] [(900,900),(901,901),(902,38),(903,45)] 3000 ?_;simp -dsimp[aof,hC,wn1];refine⟨⟨(n+1,C++[[qj (QN F.1)]],S++[[Bq (smD F.2)]]),hc1,hs1,by simp only;omega⟩,?_,by simp only;omega⟩
        refine(GS.to (l':=[(.s 0,It.v (.d (.sl (A.map oD)))),(.s 1,It.v (.d (.int .i64 root))),(.s 2,It.v (.d (ints ts))),(.s 9,It.v (.d (.int .i64 W))),(.s 10,It.v (.ptr (.o 27) 0)),(.s 28,It.v (.d (.int .i64 W))),(.o 27,It.box [.d (.sl (A.map oD)),.aW 3900 (n+1),.aW 3901 (n+1)]),(.o 3900,.row 200 1 (dd C++[[.mref 3902]]) false),(.o 3901,.row 224 1 (dd S++[[.mref 3903]]) false),(.s 29,It.v (.d (.int .i64 ((n:Int)+1)))),(.o 3902,.fO (tY F.1) u1 none none),(.o 3903,.fO (sF F.2) u2 none none)]) (by simp)).trans ?_
        refine(GS.anV (l':=[(.s 0,It.v (.d (.sl (A.map oD)))),(.s 1,It.v (.d (.int .i64 root))),(.s 2,It.v (.d (ints ts))),(.s 9,It.v (.d (.int .i64 W))),(.s 10,It.v (.ptr (.o 27) 0)),(.s 28,It.v (.d (.int .i64 W))),(.o 27,It.box [.d (.sl (A.map oD)),.aW 3900 (n+1),.aW 3901 (n+1)]),(.o 3900,.row 200 1 (dd C++[[TV.d (qj (QN F.1))]]) false),(.o 3901,.row 224 1 (dd S++[[.mref 3903]]) false),(.s 29,It.v (.d (.int .i64 ((n:Int)+1)))),(.o 3903,.fO (sF F.2) u2 none none)]) 3902 (QN F.1) (c:=u1) (pd:=none) (s:=none) (by simp[Zy]) (by simp)).trans ?_
        refine(GS.akH (l':=[(.s 0,It.v (.d (.sl (A.map oD)))),(.s 1,It.v (.d (.int .i64 root))),(.s 2,It.v (.d (ints ts))),(.s 9,It.v (.d (.int .i64 W))),(.s 10,It.v (.ptr (.o 27) 0)),(.s 28,It.v (.d (.int .i64 W))),(.o 27,It.box [.d (.sl (A.map oD)),.aW 3900 (n+1),.aW 3901 (n+1)]),(.o 3900,.row 200 1 (dd C++[[TV.d (qj (QN F.1))]]) false),(.o 3901,.row 224 1 (dd S++[[TV.d (Bq (smD F.2))]]) false),(.s 29,It.v (.d (.int .i64 ((n:Int)+1))))]) 3903 (smD F.2) (c:=u2) (pd:=none) (s:=none) (by simp[amm]) (by simp)).trans ?_
        refine(GS.ren' (l':=[(.s 0,It.v (.d (.sl (A.map oD)))),(.s 1,It.v (.d (.int .i64 root))),(.s 2,It.v (.d (ints ts))),(.s 9,It.v (.d (.int .i64 W))),(.s 10,It.v (.ptr (.o 27) 0)),(.s 28,It.v (.d (.int .i64 W))),(.o 27,It.box [.d (.sl (A.map oD)),.aW 900 (n+1),.aW 3901 (n+1)]),(.o 900,.row 200 1 (dd C++[[TV.d (qj (QN F.1))]]) false),(.o 3901,.row 224 1 (dd S++[[TV.d (Bq (smD F.2))]]) false),(.s 29,It.v (.d (.int .i64 ((n:Int)+1))))]) 3900 900 (by decide) (by simp) (by simp)).trans ?_
        exact GS.ren' 3901 901 (by decide) (by simp) (by simp[hC,hS])
      ·omega
  ·obtain rfl:n=W:=by omega
   have hn0:0<n:=by rw[hW];exact Nat.two_pow_pos _
   have hiz :¬(n:Int)<n:=by omega
   obtain⟨ks,vs,h1,h2,h3⟩:=i1.2 (n-1) (by omega);have hat:=ak3 (.sl (A.map oD)) C S n (by omega) hC hS (n-1) (by omega) ks vs h1 _ h3 h2 root;have hd:lC ((kE A ts n).getD (n-1) iP).1 root=zy A ts (n-1) root:=by rw[zy,oN A ts (by omega)]
   rw[hd]at hat
   have hok:dB Tryz.prog 118=true:=by kernel_rfl
   have hok2:dB Tryz.prog 120=true:=by kernel_rfl
   have hw:IntKind.i64.wrap ((n:Int)-1)=((n-1:Nat):Int):=by rw[wrap_i64 (by omega) (by omega)];omega
   generalize hdp:zy A ts (n-1) root=d at hat hL⊢;simp only[zy]at hdp;simp -dsimp[hiz,hw];refine aI.of2 hat [.o 27] [(900,900),(901,901)] 5000 ?_;simp -dsimp[hok,hC,hS];by_cases hf:uO≤d
   ·have hf':(2305843009213693951:Int)≤d:=hf;simp -dsimp[hf'];and_intros;all_goals try first|rfl|omega|exact⟨by kernel_rfl⟩
    refine Fin.view 6 ?_;simp -dsimp;refine Fin.of ?_;simp[NK,hf]
   ·have hf' :¬(2305843009213693951:Int)≤d:=hf;obtain⟨hcl,hll⟩:=hL (by simp only[uO]at hf⊢;omega);have hco:=Y9 (kE A ts n) n an7 (.sl (A.map oD)) (.sl C) S i2 hcl (by omega) [] (by simpa using hll);simp only[dJ,dh,dQ]at hco;have hR:dd (L.map Rj)=dd (uj (hz2 L)):=by simp[hz2,uj,aY,Function.comp_def];rfl
    have hT:dd (uj (BO (hz2 L)))=dd (hps (zu L)):=by rw[aic];simp[hz2,hps,uj,aY,Function.comp_def]
    have hlz:(hz2 L).length=L.length:=by simp[hz2]
    simp -dsimp[hf',hw,hok2];refine oG.box (.o 27) rfl ?_;simp -dsimp[hC,hS];refine oG.own (.o 18) 0 940 [.c (.slice none 0 0)] 131 2 rfl (by simp) rfl (by simp) ?_;simp -dsimp;refine oG.Y3 hco [.o 27,.o 18] [(900,940)] 6000 ?_;have hpp:=ahn L;have hsl:(BO (hz2 L)).length=L.length:=by rw[Qq.len,hlz]
    have hpl:(zu L).length=L.length:=by simp[zu]
    simp -dsimp[hok2,hw];rw[hR];refine aI.YL Qq (hz2 L) ?_;simp -dsimp[hlz,hpp];rw[hT];refine⟨by omega,?_⟩;refine Fin.view 6 ?_;simp -dsimp[D7,hpl];refine Fin.of ?_;simp[NK,hf]
theorem xW(g:aX)(hg:g.rs.length≤1000000)(hl:g.ls.length≤1000000):Contract Tryz.prog 23 [eU g] [] (.d (.int .i64 (jo g))) [] []:=by
 have hs:g.Sm:=⟨hg,hl⟩
 have q1:=NR g.rs (by omega) 60 (fun x=>!inB x.id 1 99) (fun x _=>amv x) (by kernel_rfl);have q3:=Cb g.ls (by omega) 66 Lk.bad (fun x _=>amw x) (by kernel_rfl);have q5:=Cb g.ls (by omega) 68 (fun x=>decide (x.b≤x.a)) (fun x _=>amy x) (by kernel_rfl);by_cases c1:24<g.rs.length
 ·refine ay Tryz.func23 rfl (fun E0=>?_);refine iC.sound (g:=.mk) (ow:=[]) (kp:=(kb 0x40001c10890000382007f)) ?_;rw[Tryz.ntmps23];have L8:(24:Int)<g.rs.length:=by omega
  simp -dsimp[eU,L8];and_intros;all_goals try first|rfl|omega|exact⟨by kernel_rfl⟩
  refine Fin.of ?_;simp[jo,lG,c1]
 by_cases c2:60<g.ls.length
 ·refine ay Tryz.func23 rfl (fun E0=>?_);refine iC.sound (g:=.mk) (ow:=[]) (kp:=(kb 0x40001c10890000382007f)) ?_;rw[Tryz.ntmps23];have L8 :¬(24:Int)<g.rs.length:=by omega
  have c2z:(60:Int)<g.ls.length:=by omega
  simp -dsimp[eU,L8,c2z];and_intros;all_goals try first|rfl|omega|exact⟨by kernel_rfl⟩
  refine Fin.of ?_;simp[jo,lG,c1,c2]
 have L8 :¬(24:Int)<g.rs.length:=by omega
 have c2z :¬(60:Int)<g.ls.length:=by omega
 rcases (aA (g.rs.any fun x=>!inB x.id 1 99)).symm with e1|e1
 case inr=>
  rw[e1]at q1
  refine ay Tryz.func23 rfl (fun E0=>?_);refine iC.sound (g:=.mk) (ow:=[]) (kp:=(kb 0x40001c10890000382007f)) ?_;rw[Tryz.ntmps23];simp -dsimp[eU,L8,c2z,rts];refine aI.of q1 [] 0 ?_;simp -dsimp;and_intros;all_goals try first|rfl|omega|exact⟨by kernel_rfl⟩
  refine Fin.of ?_;simp only[jo,lG,cond_true,cond_false,decide_eq_false c1,decide_eq_false c2,e1];simp
 rw[e1]at q1
 refine ay Tryz.func23 rfl (fun E0=>?_);refine iC.sound (g:=.mk) (ow:=[]) (kp:=(kb 0x40001c10890000382007f)) ?_;rw[Tryz.ntmps23];simp -dsimp[eU,L8,c2z,rts];refine aI.of q1 [] 0 ?_;simp -dsimp;try refine⟨?_,⟨by kernel_rfl⟩⟩
 refine dD.of [] (kb 0x40001c10890000382007f) (ι:={i:Nat // i≤g.rs.length∧o8 (fun x y=>decide (y.id≤x.id)) g.rs=o8 (fun (x y:Rt)=>decide (y.id≤x.id)) (g.rs.drop (i-1))})
  (fun z=>[(.o 1,It.box [TV.d (.sl (rts g.rs)),TV.d (.sl (nS g.ls))]),(.s 1,It.v (.ptr (.o 1) 0)),(.s 2,It.v (.d (.int .i64 0))),(.s 23,It.v (.d (.int .i64 g.rs.length))),(.s 24,It.v (.d (.int .i64 z.1)))])
  (fun z=>g.rs.length-z.1) ⟨0,by omega,by simp⟩ ?_ ?_
 ·exact GS.to (by simp[rts])
 ·rintro⟨i,i1,i2⟩;by_cases hi:i<g.rs.length
  ·have hiz:(i:Int)<g.rs.length:=by omega
   have w1:IntKind.i64.wrap ((i:Int)+1)=(i:Int)+1:=wrap_i64 (by omega) (by omega);by_cases h0:i=0
   ·subst h0;have alA:0<g.rs.length:=hi;simp -dsimp[alA,w1];and_intros;all_goals try first|rfl|omega|exact⟨by kernel_rfl⟩
    exact⟨⟨1,by omega,by simp⟩,GS.to (by simp[wrap_i64 (n:=1) (by omega) (by omega)]),by simp;omega⟩
   ·have h0z:(0:Int)<i:=by omega
    obtain⟨j,rfl⟩:∃j,i=j+1:=⟨i-1,by omega⟩
    rw[mM]at i2
    have hx:g.rs[j]? = some g.rs[j]:=aj (by omega);have hy:g.rs[j+1]? = some g.rs[j+1]:=aj hi;generalize g.rs[j]=x at hx;generalize g.rs[j+1]=y at hy;have hx':=uZ hx;have hy':=uZ hy;have w0:IntKind.i64.wrap ((j:Int)+1-1)=j:=by rw[wrap_i64 (by omega) (by omega)];omega
    have w0':IntKind.i64.wrap (j:Int)=j:=wrap_i64 (by omega) (by omega);have hjz:(j:Int)<g.rs.length:=by omega
    have Ri:(j:Int)+1<g.rs.length:=by omega
    have agf:(0:Int)<(j:Int)+1:=by omega
    by_cases a1:y.id≤x.id
    ·simp -dsimp[Ri,agf,hjz,hx',hy',Rt.cs,a1,pW,w0,w0',w1];and_intros;all_goals try first|rfl|omega|exact⟨by kernel_rfl⟩
     refine Fin.of ?_;have e:=Gt hx hy i2 (by simpa using a1);simp only[jo,lG,cond_true,cond_false,decide_eq_false c1,decide_eq_false c2,e1,e];simp
    ·simp -dsimp[Ri,agf,hjz,hx',hy',Rt.cs,a1,pW,w0,w0',wrap_i64 (n:=(j:Int)+1+1) (by omega) (by omega)];and_intros;all_goals try first|rfl|omega|exact⟨by kernel_rfl⟩
     exact⟨⟨j+1+1,by omega,BU hx hy i2 (by simpa using a1)⟩,GS.to (by simp),by simp;omega⟩
  have e2:=Gs (i:=i-1) i2 (by omega);have hiz :¬(i:Int)<g.rs.length:=by omega
  have hpw:=aaX e2;have q4:=NQ g.ls (by omega) 67 62 [D.sl (rts g.rs),D.sl (nS g.ls)] (fun x=>!dF g.rs x.a || !dF g.rs x.b) (fun x _=>amx g hs hpw x) (by kernel_rfl);simp only[rts,nS]at q4;rcases (aA (g.ls.any Lk.bad)).symm with e3|e3
  case inr=>
   rw[e3]at q3
   simp -dsimp[hiz,nS];refine aI.of q3 [] 0 ?_;simp -dsimp;and_intros;all_goals try first|rfl|omega|exact⟨by kernel_rfl⟩
   refine Fin.of ?_;simp only[jo,lG,cond_true,cond_false,decide_eq_false c1,decide_eq_false c2,e1,e2,e3];simp
  rw[e3]at q3
  rcases (aA (g.ls.any fun x=>!dF g.rs x.a || !dF g.rs x.b)).symm with e4|e4
  case inr=>
   rw[e4]at q4
   simp -dsimp[hiz,nS,rts];refine aI.of q3 [] 0 ?_;simp -dsimp;refine aI.of q4 [.o 4,.o 1] 0 ?_;simp -dsimp;and_intros;all_goals try first|rfl|omega|exact⟨by kernel_rfl⟩
   refine Fin.of ?_;simp only[jo,lG,cond_true,cond_false,decide_eq_false c1,decide_eq_false c2,e1,e2,e3,e4];simp
  rw[e4]at q4
  rcases (aA (g.ls.any fun x=>decide (x.b≤x.a))).symm with e5|e5
  case inr=>
   rw[e5]at q5
   simp -dsimp[hiz,nS,rts];refine aI.of q3 [] 0 ?_;simp -dsimp;refine aI.of q4 [.o 4,.o 1] 0 ?_;simp -dsimp;and_intros;all_goals try first|rfl|omega|exact⟨by kernel_rfl⟩
   refine aI.of q5 [] 0 ?_;simp -dsimp;and_intros;all_goals try first|rfl|omega|exact⟨by kernel_rfl⟩
   refine Fin.of ?_;simp only[jo,lG,cond_true,cond_false,decide_eq_false c1,decide_eq_false c2,e1,e2,e3,e4,e5];simp
  rw[e5]at q5
  simp -dsimp[hiz,nS,rts];refine aI.of q3 [] 0 ?_;simp -dsimp;refine aI.of q4 [.o 4,.o 1] 0 ?_;simp -dsimp;and_intros;all_goals try first|rfl|omega|exact⟨by kernel_rfl⟩
  refine aI.of q5 [] 0 ?_;simp -dsimp;and_intros;all_goals try first|rfl|omega|exact⟨by kernel_rfl⟩
  refine dD.of [] (kb 0x40001c10890000382007f) (ι:={i:Nat // i≤g.ls.length∧o8 (fun x y=>decide (y.a<x.a)||decide (x.a=y.a)&&decide (y.b≤x.b)) g.ls=o8 (fun (x y:Lk)=>decide (y.a<x.a)||decide (x.a=y.a)&&decide (y.b≤x.b)) (g.ls.drop (i-1))})
   (fun z=>[(.o 1,It.box [TV.d (.sl (rts g.rs)),TV.d (.sl (nS g.ls))]),(.s 1,It.v (.ptr (.o 1) 0)),(.s 2,It.v (.d (.int .i64 0))),(.s 62,It.v (.d (.int .i64 g.ls.length))),(.s 63,It.v (.d (.int .i64 z.1)))])
   (fun z=>g.ls.length-z.1) ⟨0,by omega,by simp⟩ ?_ ?_
  ·exact GS.to (by simp[rts,nS])
  ·rintro⟨i,i1,i2⟩;by_cases hi:i<g.ls.length
   ·have hiz:(i:Int)<g.ls.length:=by omega
    have w1:IntKind.i64.wrap ((i:Int)+1)=(i:Int)+1:=wrap_i64 (by omega) (by omega);by_cases h0:i=0
    ·subst h0;have alA:0<g.ls.length:=hi;simp -dsimp[alA,w1];and_intros;all_goals try first|rfl|omega|exact⟨by kernel_rfl⟩
     exact⟨⟨1,by omega,by simp⟩,GS.to (by simp[wrap_i64 (n:=1) (by omega) (by omega)]),by simp;omega⟩
    ·obtain⟨j,rfl⟩:∃j,i=j+1:=⟨i-1,by omega⟩
     rw[mM]at i2
     have hx:g.ls[j]? = some g.ls[j]:=aj (by omega);have hy:g.ls[j+1]? = some g.ls[j+1]:=aj hi;generalize g.ls[j]=x at hx;generalize g.ls[j+1]=y at hy;have hx':=uT hx;have hy':=uT hy;have w0:IntKind.i64.wrap ((j:Int)+1-1)=j:=by rw[wrap_i64 (by omega) (by omega)];omega
     have w0':IntKind.i64.wrap (j:Int)=j:=wrap_i64 (by omega) (by omega);have hjz:(j:Int)<g.ls.length:=by omega
     have Ri:(j:Int)+1<g.ls.length:=by omega
     have agf:(0:Int)<(j:Int)+1:=by omega
     have hcm:=Gj x y;simp only[OZ,Lk.cs,List.map]at hcm;have hge:=aiS x y;generalize cmpL x y=cc at hcm hge;by_cases a1:0≤cc
     ·rw[decide_eq_true a1]at hge
      simp -dsimp[Ri,agf,hjz,hx',hy',Lk.cs,pW,w0,w0',w1];and_intros;all_goals try first|rfl|omega|exact⟨by kernel_rfl⟩
      refine aI.of hcm [] 0 ?_;simp -dsimp[a1];and_intros;all_goals try first|rfl|omega|exact⟨by kernel_rfl⟩
      refine Fin.of ?_;have e:=Gt hx hy i2 hge.symm;simp only[jo,lG,cond_true,cond_false,decide_eq_false c1,decide_eq_false c2,e1,e2,e3,e4,e5,e];simp
     ·rw[decide_eq_false a1]at hge
      simp -dsimp[Ri,agf,hjz,hx',hy',Lk.cs,pW,w0,w0'];and_intros;all_goals try first|rfl|omega|exact⟨by kernel_rfl⟩
      refine aI.of hcm [] 0 ?_;simp -dsimp[a1,wrap_i64 (n:=(j:Int)+1+1) (by omega) (by omega)];and_intros;all_goals try first|rfl|omega|exact⟨by kernel_rfl⟩
      exact⟨⟨j+1+1,by omega,BU hx hy i2 hge.symm⟩,GS.to (by simp),by simp;omega⟩
   ·have e6:=Gs (i:=i-1) i2 (by omega);have hiz :¬(i:Int)<g.ls.length:=by omega
    simp -dsimp[hiz];and_intros;all_goals try first|rfl|omega|exact⟨by kernel_rfl⟩
    refine Fin.of ?_;simp only[jo,lG,cond_true,cond_false,decide_eq_false c1,decide_eq_false c2,e1,e2,e3,e4,e5,e6];simp
theorem I_(g:aX)(hs:g.Sm):Contract Tryz.prog 111 [eU g] [] (.d (.bool (decide (jo g=0)))) [] []:=by
 refine ay Tryz.func111 rfl (fun E0=>?_);refine iC.sound (g:=.mk) (ow:=[]) (kp:=(kb 7)) ?_;rw[Tryz.ntmps111];simp -dsimp[eU];refine aI.of (xW g hs.r hs.l) [] 0 ?_;simp -dsimp[eU];and_intros;all_goals try first|rfl|omega|exact⟨by kernel_rfl⟩
 refine Fin.of ?_;simp
theorem aip(g:aX)(hs:g.Sm)(r:Int):Contract Tryz.prog 45 [eU g,.d (.int .i64 r)] [] (.d (.bool (decide (jo g=0)&&dF g.rs r))) [] []:=by
 have hf:=abE g hs r;simp only[rtT,Rt.cs,List.map]at hf;have hsd:=fun h=>(Jp (aaX (dV (g:=g) h).ord) r).1
 refine ay Tryz.func45 rfl (fun E0=>?_);refine iC.sound (g:=.mk) (ow:=[]) (kp:=(kb 0x57)) ?_;rw[Tryz.ntmps45];simp -dsimp[eU];refine aI.of hf [] 0 ?_;simp -dsimp[eU];refine aI.of (I_ g hs) [] 0 ?_;by_cases h:jo g=0
 ·simp -dsimp[h];and_intros;all_goals try first|rfl|omega|exact⟨by kernel_rfl⟩
  refine Fin.of ?_;simp[h,hsd h]
 ·simp -dsimp[h];and_intros;all_goals try first|rfl|omega|exact⟨by kernel_rfl⟩
  refine Fin.of ?_;simp[h]
theorem Gi(g:aX)(hs:g.Sm)(r:Int):Contract Tryz.prog 71 [eU g,.d (.int .i64 r)] [] (.d (.bool (decide (jo g=0)&&lF g.rs r))) [] []:=by
 have hf:=abE g hs r;simp only[rtT,Rt.cs,List.map]at hf;have hsd:=fun h=>(Jp (aaX (dV (g:=g) h).ord) r).2
 refine ay Tryz.func71 rfl (fun E0=>?_);refine iC.sound (g:=.mk) (ow:=[]) (kp:=(kb 0x37)) ?_;rw[Tryz.ntmps71];simp -dsimp[eU];refine aI.of hf [] 0 ?_;simp -dsimp[eU];refine aI.of (I_ g hs) [] 0 ?_;by_cases h:jo g=0
 ·simp -dsimp[h];and_intros;all_goals try first|rfl|omega|exact⟨by kernel_rfl⟩
  refine Fin.of ?_;simp[h,hsd h,lF]
 ·simp -dsimp[h];and_intros;all_goals try first|rfl|omega|exact⟨by kernel_rfl⟩
  refine Fin.of ?_;simp[h]
end Go.Proofs
