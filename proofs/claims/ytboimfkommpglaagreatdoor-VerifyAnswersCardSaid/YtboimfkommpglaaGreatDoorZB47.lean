/-
  What functions of the program compute, stated as contracts over plain data; the conditions of each stand in its own statement.
-/
import Derived.Test.YtboimfkommpglaaGreatDoorZB30
import Derived.Test.YtboimfkommpglaaGreatDoorZB26
import Derived.Test.YtboimfkommpglaaGreatDoorZB25
import Derived.Test.YtboimfkommpglaaGreatDoorZB21
import Derived.Test.YtboimfkommpglaaGreatDoorZB46
import Derived.Test.YtboimfkommpglaaGreatDoorZB27
import Derived.Test.YtboimfkommpglaaGreatDoorZB31
import Derived.Test.YtboimfkommpglaaGreatDoorZB24
import Derived.Test.YtboimfkommpglaaGreatDoorZB22
import Derived.Test.YtboimfkommpglaaGreatDoorZB10
set_option linter.unusedSimpArgs false
set_option linter.unusedVariables false
set_option maxRecDepth 100000
set_option maxHeartbeats 16000000
namespace Go.Proofs
open Go Go.Tr
def xP(ks:List Int)(j:Nat):Int:=ks.getD j 0
def oM(ks:List Int)(j:Nat):List Int:=[ks.getD j 0]
theorem LX{ks:List Int}(nd:ks.Nodup){i j:Nat}(hi:i<ks.length)(hj:j<ks.length)(h:oM ks i=oM ks j):i=j:=by
 simp only[oM,ak,ah hi,ah hj,bf,eH,and_true]at h;have h2:=bT.1 (dI.1 nd);rcases h_ i j with e|e|e
 ·exact absurd h (h2 i j hi hj e)
 ·exact e
 ·exact absurd h.symm (h2 j i hj hi e)
theorem LU{ks:List Int}{n b:Nat}{f:Nat→Nat}{x:Int}(hn:n=ks.length)(h:x∉ks):mJ (iO n b (oM ks) f) [x]=none:=by
 have:∀y∈iO n b (oM ks) f,y.1≠[x]:=fun y hy=>by
  obtain⟨i,hi,rfl⟩:=ay.1 hy;have hi:=bD.1 hi;intro e;simp only[oM,eH,and_true]at e;rw[ak,ah (by omega),bf]at e
  exact h (e▸aB _)
 generalize iO n b (oM ks) f=es at this
 induction es with
 | nil=>rfl
 | cons y es ih=>rw[mJ,if_neg (fun e=>this y (by simp) e.symm)];exact ih fun z hz=>this z (dM _ hz)
theorem LW{ks:List Int}{n b:Nat}{f:Nat→Nat}{x:Int}{v:TV}(hn:n=ks.length)(h:x∉ks):vO (iO n b (oM ks) f) [x] v=iO n b (oM ks) f++[([x],v)]:=by
 refine Ew fun y hy=>?_
 obtain⟨i,hi,rfl⟩:=ay.1 hy;have hi:=bD.1 hi;intro e;simp only[oM,eH,and_true]at e;rw[ak,ah (by omega),bf]at e
 exact h (e▸aB _)
theorem Dv(n b:Nat)(ks:List Int)(f:Nat→Nat):zh 1 (iO n b (oM ks) f):=fun y hy=>by obtain⟨i,hi,rfl⟩:=ay.1 hy;rfl
theorem EO{a n b c:Nat}{k:Nat→List Int}{f f':Nat→Nat}{k':Nat→List Int}{x:Int}(h:a<b)(hk:∀j,j<n→k' j=k j)(hf:∀j,j<n→f' j=f j)(hx:k' n = [x])(m:Nat)(hm:f' n=m)(pd:Option (List Int))(s:Option oO):
  qU a (b+n) (It.jA (iO n b k f++[([x],TV.bK a m)]) c pd s)=It.jA (iO (n+1) b k' f') c pd s:=by
 rw[IZ];simp only[qU,fH,aH,dY,TV.ren,wQ,if_pos]
 congr 2
 ·simp only[iO,bQ];refine bW fun i hi=>?_
  have hi:=bD.1 hi;simp only[Function.comp_def,TV.ren,wQ,hk i hi,hf i hi];rw[if_neg (by omega)]
 ·simp[hx,hm]
theorem MS{a b c:Nat}{M:IM}{pd:Option (List Int)}{s:Option oO}:qU a b (It.jA (im M) c pd s)=It.jA (im M) c pd s:=by simp[qU,im,bQ,Function.comp_def,TV.ren]
theorem MR{a b e z:Nat}{xs:List (List D)}{sh:Bool}:qU a b (It.row e z (dd xs) sh)=It.row e z (dd xs) sh:=by simp[qU,dd,bQ,Function.comp_def,Ig]
theorem Hf{ks:List Int}{G:Nat→List (List D)}(nd:ks.Nodup){H:Int→List (List D)}(hH:∀j,j<ks.length→G j=H (ks.getD j 0))(x:Int):
  (x∈ks∧mJ ((List.range ks.length).map fun i=>(oM ks i,TV.d (.sl (G i)))) [x]=some (TV.d (.sl (H x))))∨(x∉ks∧mJ ((List.range ks.length).map fun i=>(oM ks i,TV.d (.sl (G i)))) [x]=none):=by
 have key:∀l:List Nat,(∀i∈l,i<ks.length)→(∃i∈l,ks.getD i 0=x)∧mJ (l.map fun i=>(oM ks i,TV.d (.sl (G i)))) [x]=some (TV.d (.sl (H x)))∨(∀i∈l,ks.getD i 0≠x)∧mJ (l.map fun i=>(oM ks i,TV.d (.sl (G i)))) [x]=none:=fun l=>by
  induction l with
  | nil=>intro _;exact .inr ⟨by simp,rfl⟩
  | cons i l ih=>
    intro hl;by_cases e:ks.getD i 0=x
    ·refine .inl ⟨⟨i,by simp,e⟩,?_⟩;rw[aH,mJ,if_pos (by rw[oM,e]),hH i (hl i (by simp)),e]
    ·have en :¬[x]=oM ks i:=fun h=>e (by simpa[oM]using h.symm)
     rcases ih (fun j hj=>hl j (dM _ hj))with⟨⟨j,hj,ej⟩,h2⟩|⟨h1,h2⟩
     ·exact .inl ⟨⟨j,dM _ hj,ej⟩,by rw[aH,mJ,if_neg en,h2]⟩
     ·refine .inr ⟨fun j hj=>?_,by rw[aH,mJ,if_neg en,h2]⟩;rcases aG.1 hj with rfl|hj
      ·exact e
      ·exact h1 j hj
 rcases key (List.range ks.length) (fun i hi=>bD.1 hi)with⟨⟨i,hi,e⟩,h⟩|⟨h1,h⟩
 ·have hi:=bD.1 hi;rw[ak,ah hi,bf]at e
  exact .inl ⟨e▸aB hi,h⟩
 ·refine .inr ⟨fun hx=>?_,h⟩;obtain⟨i,hi,e⟩:=cu.1 hx;exact h1 i (bD.2 hi) (by rw[ak,ah hi,bf,e])
theorem KC{p:Pn}(h:iT p=true)(x:Int):(gI (RM p.es) x=none∧own p x=0)∨gI (RM p.es) x=some (own p x):=by
 have hn:(p.es.map (·.id)).Nodup:=by rw[dI,dA];exact(xu h).imp fun h=>by omega
 have:=QU hn x;cases hg:gI (RM p.es) x with
 | none=>rw[hg]at this;exact .inl ⟨rfl,by simpa using this.symm⟩
 | some v=>rw[hg]at this;exact .inr (by rw[←this];rfl)
theorem vU(p:Pn)(hp:p.es.length≤1000)(ids:List Int)(hl:ids.length≤1000000)(l:List An)(hl2:l.length≤1000000)(h64:∀a∈l,I64 a.id):Contract Tryz.prog 62 [iE p,.d (ints ids),.d (.sl (ans l))] []
  (.sZ [.d (.sl (lC (vI p ids l).1)),.d (.int .i64 (vI p ids l).2)]) [] []:=by
 have h1:=Dz p hp;obtain⟨w,hw⟩:∃w,w=vI p ids l:=⟨_,rfl⟩
 rw[←hw];unfold vI Gy asQ at hw;simp only[iE]at h1;refine aC Tryz.func62 rfl (fun E0=>?_)
 refine iK.sound (g:=.mk) (ow:=[3000047,3000072]) (kp:=(kb 0x4001e00203c0041e0081e00021e41e01e40044b576bcf)) ?_
 rw[Tryz.ntmps62];simp -dsimp[iE];and_intros;all_goals try first|rfl|omega|exact⟨by kernel_rfl⟩
 refine aF.of h1 [] 0 ?_;cases hpb:iT p with
 | false=>
   rw[hpb]at hw
   simp -dsimp[hpb];and_intros;all_goals try first|rfl|omega|exact⟨by kernel_rfl⟩
   refine Fin.view 6 ?_;simp -dsimp;refine Fin.of ?_;simp[hw,lC]
 | true=>
 have hM:=KC hpb;rw[hpb]at hw
 simp -dsimp[hpb];and_intros;all_goals try first|rfl|omega|exact⟨by kernel_rfl⟩
 refine bY.of [3000047,3000072] (kb 0x4001e00203c0041e0081e00021e41e01e40044b576bcf) (ι:={j:Nat // j≤ids.length∧pV (fun x y:Int=>decide (y≤x)) ids=pV (fun x y:Int=>decide (y≤x)) (ids.drop j)})
  (fun z=>[(.s 1,It.v (.d (ints ids))),(.s 2,It.v (.d (.sl (ans l)))),(.o 3,It.box [TV.d (.int .i64 p.gU),TV.d (.int .i64 p.len),TV.d (.sl (lX p.es))]),(.s 3,It.v (.ptr (.o 3) 0)),(.s 6,It.v (.c (.slice none 0 0))),(.s 7,It.v (.d (.int .i64 0))),(.s 8,It.v (.d (.int .i64 ((z.1:Int)+1))))]) (fun z=>ids.length-z.1) ⟨0,by omega,by simp⟩ ?_ ?_
 ·exact GS.to (by simp[ints])
 rintro⟨j,j1,j2⟩;by_cases hj:j+1<ids.length
 ·have hjz:(j:Int)+1<ids.length:=by omega
  have hx:ids[j]? = some ids[j]:=ah (by omega);have hy:ids[j+1]? = some ids[j+1]:=ah hj;generalize ids[j]=x at hx;generalize ids[j+1]=y at hy;have w0:IntKind.i64.wrap (j:Int)=(j:Int):=wrap_i64 (by omega) (by omega);have jz:(j:Int)<ids.length:=by omega
  have w1:IntKind.i64.wrap ((j:Int)+1+1)=(j:Int)+1+1:=wrap_i64 (by omega) (by omega);have t1:((j:Int)+1).toNat=j+1:=by omega
  by_cases c:y≤x
  ·rw[zN hx hy j2 (by simpa using c)]at hw
   simp -dsimp[hjz,jz,hx,hy,ints,w0,t1,c];and_intros;all_goals try first|omega|exact⟨by kernel_rfl⟩|rfl
   refine Fin.view 6 ?_;simp -dsimp;refine Fin.of ?_;simp[hw,lC]
  ·simp -dsimp[hjz,hx,hy,ints,w0,w1,t1,c];and_intros;all_goals try first|omega|exact⟨by kernel_rfl⟩|rfl
   exact⟨⟨j+1,by omega,xX hx hy j2 (by simpa using c)⟩,GS.to (by simp[ints]),by simp;omega⟩
 have hjz :¬(j:Int)+1<ids.length:=by omega
 rw[zM j2 hj]at hw
 simp only[j_,oU,reduceCtorEq,if_false,kY]at hw;simp -dsimp[hjz,ints];and_intros;all_goals try first|rfl|omega|exact⟨by kernel_rfl⟩
 refine bY.of [3000047,3000072] (kb 0x4001e00203c0041e0081e00021e41e01e40044b576bcf) (ι:={k:Nat // k≤p.es.length})
  (fun z=>[(.s 1,It.v (.d (ints ids))),(.s 2,It.v (.d (.sl (ans l)))),(.o 3,It.box [TV.d (.int .i64 p.gU),TV.d (.int .i64 p.len),TV.d (.sl (lX p.es))]),(.s 3,It.v (.ptr (.o 3) 0)),(.s 6,It.v (.c (.slice none 0 0))),(.s 7,It.v (.d (.int .i64 0))),(.o 47,It.jA (im (RM (p.es.take z.1))) 0 none none),(.s 9,It.v (.mref 47)),(.s 49,It.v (.d (.sl (lX p.es)))),(.s 50,It.v (.d (.int .i64 p.es.length))),(.s 51,It.v (.d (.int .i64 z.1)))])
  (fun z=>p.es.length-z.1) ⟨0,by omega⟩ ?_ ?_
 ·exact GS.to (by simp[ints,RM,im])
 rintro⟨k,k1⟩;by_cases hk:k<p.es.length
 ·have hkz:(k:Int)<p.es.length:=by omega
  have hx:p.es[k]? = some p.es[k]:=ah hk;generalize p.es[k]=e at hx;have ht:=KD hx;have hx':(lX p.es)[k]? = some [.int .i64 e.r,.int .i64 e.id]:=by simp[lX,hx,Ed.cs]
  have w1:IntKind.i64.wrap ((k:Int)+1)=(k:Int)+1:=wrap_i64 (by omega) (by omega);generalize RM (p.es.take k)=M at ht⊢;simp -dsimp[hkz,hx',zQ,iY,w1];and_intros;all_goals try first|exact pU|omega|exact⟨by kernel_rfl⟩|rfl
  exact⟨⟨k+1,by omega⟩,GS.to (by simp[ht,ints]),by simp;omega⟩
 have hkz :¬(k:Int)<p.es.length:=by omega
 rw[aW (show p.es.length≤k by omega)];obtain⟨M,hMe⟩:∃M,M=RM p.es:=⟨_,rfl⟩
 obtain⟨o,ho⟩:∃o,o=own p:=⟨_,rfl⟩
 unfold BP at hw;rw[←hMe,←ho]at hM
 rw[←hMe];rw[←ho]at hw
 clear hMe ho;simp -dsimp[hkz,ints];and_intros;all_goals try first|rfl|omega|exact⟨by kernel_rfl⟩
 refine bY.of [3000047,3000072] (kb 0x4001e00203c0041e0081e00021e41e01e40044b576bcf) (ι:={j:Nat // j≤ids.length∧(ids.any fun id=>decide (o id=0))=((ids.drop j).any fun id=>decide (o id=0))})
  (fun z=>[(.s 1,It.v (.d (ints ids))),(.s 2,It.v (.d (.sl (ans l)))),(.o 3,It.box [TV.d (.int .i64 p.gU),TV.d (.int .i64 p.len),TV.d (.sl (lX p.es))]),(.s 3,It.v (.ptr (.o 3) 0)),(.s 6,It.v (.c (.slice none 0 0))),(.s 7,It.v (.d (.int .i64 0))),(.o 47,It.jA (im M) 0 none none),(.s 9,It.v (.mref 47)),(.s 61,It.v (.d (ints ids))),(.s 62,It.v (.d (.int .i64 ids.length))),(.s 63,It.v (.d (.int .i64 z.1)))])
  (fun z=>ids.length-z.1) ⟨0,by omega,by simp⟩ ?_ ?_
 ·exact GS.to (by simp[ints])
 rintro⟨j,j1,j2⟩;by_cases hj:j<ids.length
 ·have hjz:(j:Int)<ids.length:=by omega
  have hx:ids[j]? = some ids[j]:=ah hj;have hd:ids.drop j=ids[j]::ids.drop (j+1):=aU hj;generalize ids[j]=x at hx hd;rw[hd,List.any_cons]at j2
  have w1:IntKind.i64.wrap ((j:Int)+1)=(j:Int)+1:=wrap_i64 (by omega) (by omega);rcases hM x with⟨hg,h0⟩|hg
  ·rw[j2,h0]at hw
   simp only[decide_true,rM,if_true]at hw;simp -dsimp[hjz,hx,ints,jG,hg];and_intros;all_goals try first|rfl|omega|exact⟨by kernel_rfl⟩|exact iY _
   refine Fin.view 6 ?_;simp -dsimp;refine Fin.of ?_;simp[hw,lC]
  by_cases c:o x=0
  ·rw[j2,c]at hw
   simp only[decide_true,rM,if_true]at hw;simp -dsimp[hjz,hx,ints,jG,hg,c];and_intros;all_goals try first|rfl|omega|exact⟨by kernel_rfl⟩|exact iY _
   refine Fin.view 6 ?_;simp -dsimp;refine Fin.of ?_;simp[hw,lC]
  ·simp only[c,decide_false,qF]at j2;simp -dsimp[hjz,hx,ints,jG,hg,eq_false c,w1];and_intros;all_goals try first|rfl|omega|exact⟨by kernel_rfl⟩|exact iY _
   exact⟨⟨j+1,by omega,j2⟩,GS.to (by simp[ints]),by simp;omega⟩
 have hjz :¬(j:Int)<ids.length:=by omega
 rw[j2,oD (by omega)]at hw
 simp only[List.any_nil,bI,if_false,if_true]at hw;simp -dsimp[hjz];and_intros;all_goals try first|rfl|omega|exact⟨by kernel_rfl⟩
 refine bY.of [3000047,3000072] (kb 0x4001e00203c0041e0081e00021e41e01e40044b576bcf) (ι:={i:Nat // i≤l.length})
  (fun z=>sJ 9000 (dO (l.take z.1)).length (fun j=>It.row 3 1 (dd (fE .i64 (iP (l.take z.1) (xP (dO (l.take z.1)) j)))) false) [(.s 1,It.v (.d (ints ids))),(.s 2,It.v (.d (.sl (ans l)))),(.o 3,It.box [TV.d (.int .i64 p.gU),TV.d (.int .i64 p.len),TV.d (.sl (lX p.es))]),(.s 3,It.v (.ptr (.o 3) 0)),(.s 6,It.v (.c (.slice none 0 0))),(.s 7,It.v (.d (.int .i64 0))),(.o 47,It.jA (im M) 0 none none),(.s 9,It.v (.mref 47)),(.o 72,It.jA (iO (dO (l.take z.1)).length 9000 (oM (dO (l.take z.1))) fun j=>(iP (l.take z.1) (xP (dO (l.take z.1)) j)).length) 0 none none),(.s 14,It.v (.mref 72)),(.s 73,It.v (.d (.sl (ans l)))),(.s 74,It.v (.d (.int .i64 l.length))),(.s 75,It.v (.d (.int .i64 z.1)))])
  (fun z=>l.length-z.1) ⟨0,by omega⟩ ?_ ?_
 ·exact GS.to (by simp[ints,dO,jS,Ee,iO])
 rintro⟨i,i1⟩;by_cases hi:i<l.length
 ·have hiz:(i:Int)<l.length:=by omega
  have hx:l[i]? = some l[i]:=ah hi;have hno:=Nj hx;have hold:=Ir hx;have hnew:=Iq hx;have hkl:=yQ (l.take i);have hnd:=uD (l.take i);have hrl:=yP (l.take i);rw[bF]at hkl
  have hrl:∀x,(iP (l.take i) x).length≤1000000:=fun x=>aY (hrl x) (by rw[bF];omega)
  generalize l[i]=a at hx hno hold hnew;have hx':=yX hx;have w1:IntKind.i64.wrap ((i:Int)+1)=(i:Int)+1:=wrap_i64 (by omega) (by omega);obtain⟨ks,hks⟩:∃ks,ks=dO (l.take i):=⟨_,rfl⟩
  obtain⟨R,hR⟩:∃R:Int→List Int,R=iP (l.take i):=⟨_,rfl⟩
  obtain⟨Tv,LM⟩:∃ks,ks=dO (l.take (i+1)):=⟨_,rfl⟩
  obtain⟨R2,hR2⟩:∃R:Int→List Int,R=iP (l.take (i+1)):=⟨_,rfl⟩
  rw[←hks,←hR,←LM,←hR2]at hno hold hnew
  rw[←hks]at hkl hnd
  rw[←hR]at hrl
  rw[←hks,←hR];by_cases c1:a.kd=1
  ·by_cases c2:a.id∈ks
   ·obtain⟨e1,j0,hj0,ej,e2⟩:=hold c1 c2;have e2:∀j,j<ks.length→R2 (xP ks j)=if j=j0 then R (xP ks j0)++[a.rt]else R (xP ks j):=e2
    have hinj:∀i j,i<ks.length→j<ks.length→oM ks i=oM ks j→i=j:=fun i j hi hj e=>LX hnd hi hj e
    have hga:∀f,mJ (iO ks.length 9000 (oM ks) f) [a.id]=some (.bK (9000+j0) (f j0)):=fun f=>by rw[←ej];exact EF hinj hj0
    have hpa:∀f m,vO (iO ks.length 9000 (oM ks) f) [a.id] (.bK (9000+j0) m)=iO ks.length 9000 (oM ks) (fun j=>if j=j0 then m else f j):=fun f m=>by rw[←ej];exact Hq hinj hj0
    have hr0:=hrl (xP ks j0);clear hno hold hnew;simp -dsimp[hiz,hx',BJ,eq_true c1,w1,hga,hpa,hj0,ji,jk];and_intros;all_goals try first|omega|exact Dv _ _ _ _
    ·refine⟨⟨i+1,by omega⟩,?_,by simp;omega⟩;dsimp only;rw[←LM,←hR2,e1];have hM2:(iO ks.length 9000 (oM ks) fun j=>(R2 (xP ks j)).length)=iO ks.length 9000 (oM ks) fun j=>if j=j0 then(R (xP ks j0)).length+1 else(R (xP ks j)).length:=
      Ce fun j hj=>by rw[e2 j hj];split<;>simp
     refine GS.to ⟨Sub.sJ (fun j hj=>?_) ?_ ?_ ?_,?_⟩
     ·rw[e2 j hj];simp[hj];split<;>simp[fE,dd]
     ·simp(disch:=omega) [ji,jk,ints,hM2]
     ·simp
     ·simp(disch:=omega);exact fun j hj=>.inl hj
     ·simp
    ·refine Dh.ren (fun p=>if p = .o (9000+j0)then .o 9000 else p) ?_
     conv=>lhs;arg 2;simp[zB,ji,jk]
     kernel_rfl
   ·obtain⟨e1,e2,e3,e4,e5⟩:=hnew c1 c2;have ag3:Tv.length=ks.length+1:=by rw[e1];simp
    have hk2:∀j,j<ks.length→oM Tv j=oM ks j:=fun j hj=>by unfold oM;rw[e2 j hj]
    have hk3:oM Tv ks.length = [a.id]:=by unfold oM;rw[e3]
    have e2:∀j,j<ks.length→xP Tv j=xP ks j:=e2;have e3:xP Tv ks.length=a.id:=e3;have e4:∀j,j<ks.length→R2 (xP ks j)=R (xP ks j):=e4;have hga:∀f,mJ (iO ks.length 9000 (oM ks) f) [a.id]=none:=fun f=>LU rfl c2
    have hpa:∀f v,vO (iO ks.length 9000 (oM ks) f) [a.id] v=iO ks.length 9000 (oM ks) f++[([a.id],v)]:=fun f v=>LW rfl c2
    have hmap:qU 92 (9000+ks.length) (It.jA ((iO ks.length 9000 (oM ks) fun j=>(R (xP ks j)).length)++[([a.id],TV.bK 92 1)]) 0 none none)=It.jA (iO (ks.length+1) 9000 (oM Tv) fun j=>(R2 (xP Tv j)).length) 0 none none:=
     EO (by omega) hk2 (fun j hj=>by rw[e2 j hj,e4 j hj]) hk3 1 (by rw[e3,e5];rfl) none none
    clear hno hold hnew;simp -dsimp[hiz,hx',BJ,eq_true c1,w1,hga,hpa,ji,jk];and_intros;all_goals try first|omega|exact⟨by kernel_rfl⟩|rfl|exact Dv _ _ _ _
    refine⟨⟨i+1,by omega⟩,?_,by simp;omega⟩;dsimp only;rw[←LM,←hR2,ag3];refine GS.ren' 92 (9000+ks.length) (by omega) ?_ ?_
    ·simp(disch:=omega) [MI];omega
    rw[Ib (show 92<9000 by omega)];simp only[EP,Ic,hmap,MS,MR];refine⟨Sub.sJ (fun j hj=>?_) ?_ ?_ ?_,?_⟩
    ·rcases (by omega:j<ks.length∨j=ks.length)with h|h
     ·simp[h,e2 j h,e4 j h]
     ·subst h;simp(disch:=omega) [yC,qU,TV.ren,TV.vP,wQ,ji,jk,e3,e5,fE,dd]
    ·simp(disch:=omega) [yC,qU,TV.ren,TV.vP,wQ,ji,jk,ints]
    ·simp
    ·simp(disch:=omega);exact fun j hj=>.inl hj
    ·simp[yC,qU]
  ·obtain⟨e1,e2⟩:=hno c1;clear hold hnew;simp -dsimp[hiz,hx',BJ,eq_false c1,w1,ji,jk];and_intros;all_goals try first|omega|exact⟨by kernel_rfl⟩|rfl
   refine⟨⟨i+1,by omega⟩,?_,by simp;omega⟩;dsimp only;rw[←LM,←hR2,e1];refine GS.to ⟨Sub.sJ (fun j hj=>?_) ?_ ?_ ?_,?_⟩
   ·simp[hj,e2]
   ·simp(disch:=omega) [ji,jk,ints,e2]
   ·simp
   ·simp(disch:=omega);exact fun j hj=>.inl hj
   ·simp
 have hiz :¬(i:Int)<l.length:=by omega
 rw[aW (show l.length≤i by omega)];have hkl:=yQ l;have hnd:=uD l;have hrl:=yP l;have hst:=CW l;have hmk:∀x,x∈dO l↔x∈oz l:=fun x=>by rw[qY,sK]
 have zA:∀x∈dO l,I64 x:=fun x hx=>by obtain⟨a,ha,rfl⟩:=ay.1 (qY.1 hx);exact h64 a (bG.1 ha).1
 have hGl:=Ad l;have hGp:∀x∈oz l,0<(iP l x).length:=fun x hx=>by rw[iP,aN];exact Bo hx
 have hR0:∀x k,(iP l x).getD k 0=((jF l x).getD k ⟨0,0,0,0⟩).rt:=fun x k=>ET l x k
 have hR1:∀x,(jF l x).length=(iP l x).length:=fun x=>by simp[iP]
 simp only[←hR0,hR1]at hw;obtain⟨ks,hks⟩:∃ks,ks=dO l:=⟨_,rfl⟩
 obtain⟨R,hR⟩:∃R:Int→List Int,R=iP l:=⟨_,rfl⟩
 rw[←hR]at hw hrl hGp
 rw[←hks]at hkl hnd hst zA
 rw[←hks,←hR];simp only[←hks]at hmk;clear hR0 hR1 hks hR;have hes:∀x∈iO ks.length 9000 (oM ks) (fun j=>(R (xP ks j)).length),x.1.length=1∧I64 (x.1.headD 0):=fun x hx=>by obtain⟨j,hj,rfl⟩:=ay.1 hx;have hj:=bD.1 hj;refine⟨rfl,zA _ ?_⟩;simp only[oM,List.headD_cons,ak,ah hj,bf];exact aB hj
 have hel:(iO ks.length 9000 (oM ks) (fun j=>(R (xP ks j)).length)).length=ks.length:=by simp[iO]
 have hkk:qW (iO ks.length 9000 (oM ks) (fun j=>(R (xP ks j)).length))=oz l:=by
  rw[←hst,qW]
  congr 1
  rw[iO,bQ];refine lU (by simp) fun i h1 h2=>?_
  simp[oM,h2]
 have hgl:(oz l).length=ks.length:=by rw[←hst,gZ]
 generalize oz l=G at hw hmk hGl hGp hkk hgl;simp -dsimp[hiz];and_intros;all_goals try first|omega|exact⟨by kernel_rfl⟩|rfl
 refine aF.keys He ?_;simp -dsimp;and_intros;all_goals try first|omega|exact⟨by kernel_rfl⟩|rfl
 refine aF.sortedK He ?_;simp -dsimp[hel,hkk,ints];and_intros;all_goals try first|omega|exact⟨by kernel_rfl⟩|rfl
 ·intro a b h;have:=hes (a,b) h;simpa using this
 have hval:=Hf (ks:=ks) (G:=fun j=>fE .i64 (R (xP ks j))) hnd (H:=fun x=>fE .i64 (R x)) (fun j hj=>rfl);obtain⟨ES,hES⟩:∃ES,ES=(List.range ks.length).map fun j=>(oM ks j,TV.d (.sl (fE .i64 (R (xP ks j))))):=⟨_,rfl⟩
 have hlk:zh 1 ES:=fun y hy=>by
  rw[hES]at hy
  obtain⟨j,hj,rfl⟩:=ay.1 hy;rfl
 have lD:∀po:Nat→Prop,It.only po (It.jA ES 0 none none):=fun po=>by rw[hES];exact TS (k:=oM ks)
 simp only[←hES]at hval;have hA:∀x,(x∈G∧mJ ES [x]=some (TV.d (.sl (fE .i64 (R x))))∧0<(R x).length)∨(x∉G∧mJ ES [x]=none):=fun x=>by
  rcases hval x with⟨h1,h2⟩|⟨h1,h2⟩
  ·exact .inl ⟨(hmk x).1 h1,h2,hGp x ((hmk x).1 h1)⟩
  ·exact .inr ⟨fun h=>h1 ((hmk x).2 h),h2⟩
 have hrl:∀x,(R x).length≤1000000:=fun x=>aY (hrl x) hl2
 have hDD:(jS l).filter (fun a=>decide (a.rt≠o a.id))=l.filter (fun a:An=>decide (a.kd=1)&&decide (a.rt≠o a.id)):=by unfold jS;rw[iM];apply eu;intro a _;rw[ny]
 rw[hDD]at hw
 obtain⟨PF,hP0,AP,hPl,AO⟩:∃PF:Nat→List (List Int),PF 0 = []∧(∀(i:Nat) x,(ids)[i]? = some x→PF (i+1)=PF i++if(fun id=>!decide (id∈G)) x=true then [(fun id=>[1,o id,id,0]) x]else [])∧(∀i,(PF i).length≤(ids).length)∧PF (ids).length=((ids).filter (fun id=>!decide (id∈G))).map (fun id=>[1,o id,id,0]):=
  ⟨fun i=>(((ids).take i).filter (fun id=>!decide (id∈G))).map (fun id=>[1,o id,id,0]),by simp,fun i x h=>rX h,fun i=>aY (nV _ _ _) (by rw[bF];omega),by simp only[bP]⟩
 refine bY.of [3000047,3000072] (kb 0x4001e00203c0041e0081e00021e41e01e40044b576bcf) (ι:={i:Nat // i≤(ids).length})
  (fun z=>[(.s 1,It.v (.d (ints ids))),(.s 2,It.v (.d (.sl (ans l)))),(.o 3,It.box [TV.d (.int .i64 p.gU),TV.d (.int .i64 p.len),TV.d (.sl (lX p.es))]),(.s 3,It.v (.ptr (.o 3) 0)),(.s 6,It.v (.c (.slice none 0 0))),(.s 7,It.v (.d (.int .i64 0))),(.o 47,It.jA (im M) 0 none none),(.s 9,It.v (.mref 47)),(.o 72,It.jA ES 0 none none),(.s 14,It.v (.mref 72)),(.s 17,It.v (.d (ints G))),(.s 18,It.v (.bK 18 ((PF z.1).length))),(.o 18,It.row 113 4 (dd (lC (PF z.1))) false),(.s 97,It.v (.d (ints ids))),(.s 98,It.v (.d (.int .i64 (ids).length))),(.s 99,It.v (.d (.int .i64 z.1)))])
  (fun z=>(ids).length-z.1) ⟨0,by omega⟩ ?_ ?_
 ·refine((GS.UD (qL:=72) (b:=9000) (n:=ks.length) (e:=3) (z:=1) (k:=oM ks) (xs:=fun j=>fE .i64 (R (xP ks j))) (c:=0) (pd:=none) (s:=none) (by simp[fE]) (fun i hi=>by simp[hi]) (by omega)).trans (GS.Lu (l':=[(.s 1,It.v (.d (ints ids))),(.s 2,It.v (.d (.sl (ans l)))),(.o 3,It.box [TV.d (.int .i64 p.gU),TV.d (.int .i64 p.len),TV.d (.sl (lX p.es))]),(.s 3,It.v (.ptr (.o 3) 0)),(.s 6,It.v (.c (.slice none 0 0))),(.s 7,It.v (.d (.int .i64 0))),(.o 47,It.jA (im M) 0 none none),(.s 9,It.v (.mref 47)),(.o 72,It.jA ES 0 none none),(.s 14,It.v (.mref 72)),(.o 96,It.row 3 1 (dd (fE .i64 G)) false),(.s 17,It.v (.bK 96 ks.length)),(.s 18,It.v (.c (Value.slice none 0 0))),(.s 97,It.v (.d (ints ids))),(.s 98,It.v (.d (.int .i64 ids.length))),(.s 99,It.v (.d (.int .i64 0)))]) ⟨?_,?_⟩ ?_)).trans ((GS.Gm 17 (l':=[(.s 1,It.v (.d (ints ids))),(.s 2,It.v (.d (.sl (ans l)))),(.o 3,It.box [TV.d (.int .i64 p.gU),TV.d (.int .i64 p.len),TV.d (.sl (lX p.es))]),(.s 3,It.v (.ptr (.o 3) 0)),(.s 6,It.v (.c (.slice none 0 0))),(.s 7,It.v (.d (.int .i64 0))),(.o 47,It.jA (im M) 0 none none),(.s 9,It.v (.mref 47)),(.o 72,It.jA ES 0 none none),(.s 14,It.v (.mref 72)),(.s 17,It.v (.d (ints G))),(.s 18,It.v (.c (Value.slice none 0 0))),(.s 97,It.v (.d (ints ids))),(.s 98,It.v (.d (.int .i64 ids.length))),(.s 99,It.v (.d (.int .i64 0)))]) ?_).trans (GS.own' (k:=18) 113 4 (by simp) (by simp) (by simp[ints,ans,lC,hP0,lD])))
  ·simp only[pF,fP,false_imp_iff,implies_true,and_true];and_intros;all_goals first|(rw[Io,←hES];simp)|(rw[Am (by omega) (by omega)];simp[ints])|(rw[UE];simp[ints])|skip
  ·simp[lD]
  ·intro i;rw[UF];simp
  ·simp[ints,lD,hgl]<;>simp[fE]
 rintro⟨i,i1⟩;have hpl:=hPl i;by_cases hi:i<(ids).length
 ·have hiz:(i:Int)<(ids).length:=by omega
  have hx:(ids)[i]? = some (ids)[i]:=ah hi;have hm:=aB hi;have ht:=AP i _ hx;dsimp only at ht;have w1:IntKind.i64.wrap ((i:Int)+1)=(i:Int)+1:=wrap_i64 (by omega) (by omega);generalize (ids)[i]=x at hx hm ht;generalize PF i=S at hpl ht⊢;rcases hA x with⟨c1,hg,hp1⟩|⟨c1,hg⟩
  ·simp only[c1,decide_true,oq,bI,if_false,aZ]at ht;have hn1:R x≠[]:=fun e=>by rw[e]at hp1;simp at hp1
   simp -dsimp[hiz,hx,ints,hg,hn1,w1,fE];and_intros;all_goals try first|rfl|omega|exact⟨by kernel_rfl⟩|exact hlk
   exact⟨⟨i+1,by omega⟩,GS.to (by simp[ht,ints,ans,lC,aX,lD]),by simp;omega⟩
  ·simp only[c1,decide_false,j_,if_true]at ht;rcases hM x with⟨hq,h0⟩|hq
   ·rw[h0]at ht
    simp -dsimp[hiz,hx,ints,hg,jG,hq,w1,ng];and_intros;all_goals try first|rfl|omega|exact⟨by kernel_rfl⟩|exact hlk|exact iY _
    exact⟨⟨i+1,by omega⟩,GS.to (by simp[ht,ints,ans,lC,aX,lD]),by simp;omega⟩
   ·simp -dsimp[hiz,hx,ints,hg,jG,hq,w1,ng];and_intros;all_goals try first|rfl|omega|exact⟨by kernel_rfl⟩|exact hlk|exact iY _
    exact⟨⟨i+1,by omega⟩,GS.to (by simp[ht,ints,ans,lC,aX,lD]),by simp;omega⟩
 have hiz :¬(i:Int)<(ids).length:=by omega
 obtain rfl:i=(ids).length:=by omega
 obtain⟨A,hA⟩:∃A,A=PF (ids).length:=⟨_,rfl⟩
 rw[←hA];rw[AO]at hA
 rw[←hA]at hw
 have hA1:(A).length≤(ids).length:=by rw[hA];exact nV _ _ _
 clear hpl hP0 AP hPl AO hA;simp -dsimp[hiz,ints,ans];and_intros;all_goals try first|rfl|omega|exact⟨by kernel_rfl⟩
 obtain⟨PF,hP0,AP,hPl,AO⟩:∃PF:Nat→List (List Int),PF 0 = []∧(∀(i:Nat) x,(G)[i]? = some x→PF (i+1)=PF i++if(fun id=>!decide (id∈ids)) x=true then [(fun id=>[2,(R id).getD 0 0,id,0]) x]else [])∧(∀i,(PF i).length≤(G).length)∧PF (G).length=((G).filter (fun id=>!decide (id∈ids))).map (fun id=>[2,(R id).getD 0 0,id,0]):=
  ⟨fun i=>(((G).take i).filter (fun id=>!decide (id∈ids))).map (fun id=>[2,(R id).getD 0 0,id,0]),by simp,fun i x h=>rX h,fun i=>aY (nV _ _ _) (by rw[bF];omega),by simp only[bP]⟩
 refine bY.of [3000047,3000072] (kb 0x4001e00203c0041e0081e00021e41e01e40044b576bcf) (ι:={i:Nat // i≤(G).length})
  (fun z=>[(.s 1,It.v (.d (ints ids))),(.s 2,It.v (.d (.sl (ans l)))),(.o 3,It.box [TV.d (.int .i64 p.gU),TV.d (.int .i64 p.len),TV.d (.sl (lX p.es))]),(.s 3,It.v (.ptr (.o 3) 0)),(.s 6,It.v (.c (.slice none 0 0))),(.s 7,It.v (.d (.int .i64 0))),(.o 47,It.jA (im M) 0 none none),(.s 9,It.v (.mref 47)),(.o 72,It.jA ES 0 none none),(.s 14,It.v (.mref 72)),(.s 17,It.v (.d (ints G))),(.s 18,It.v (.bK 18 ((A).length+(PF z.1).length))),(.o 18,It.row 113 4 (dd (lC (A))++dd (lC (PF z.1))) false),(.s 117,It.v (.d (ints G))),(.s 118,It.v (.d (.int .i64 (G).length))),(.s 119,It.v (.d (.int .i64 z.1)))])
  (fun z=>(G).length-z.1) ⟨0,by omega⟩ ?_ ?_
 ·exact GS.to (by simp[ints,ans,uS,lC,hP0,aX,lD])
 rintro⟨i,i1⟩;have hpl:=hPl i;by_cases hi:i<(G).length
 ·have hiz:(i:Int)<(G).length:=by omega
  have hx:(G)[i]? = some (G)[i]:=ah hi;have hm:=aB hi;have ht:=AP i _ hx;dsimp only at ht;have w1:IntKind.i64.wrap ((i:Int)+1)=(i:Int)+1:=wrap_i64 (by omega) (by omega);generalize (G)[i]=x at hx hm ht;generalize PF i=S at hpl ht⊢;have hin:=contains_c ids hl x;simp only[ints]at hin;rcases hA x with⟨_,hg,hp1⟩|⟨c0,_⟩
  case inr=>exact absurd hm c0
  have hrx:=hrl x;generalize R x=M at hg hp1 ht hrx;obtain⟨y,M,rfl⟩:∃a M',M=a::M':=by cases M with
   | nil=>simp at hp1
   | cons a M=>exact⟨a,M,rfl⟩
  by_cases c1:x∈ids
  ·simp only[c1,decide_true,oq,bI,if_false,aZ]at ht;simp -dsimp[hiz,hx,ints];and_intros;all_goals try first|rfl|omega|exact⟨by kernel_rfl⟩
   refine aF.of hin [] 0 ?_;simp -dsimp[pY,c1,w1];and_intros;all_goals try first|rfl|omega|exact⟨by kernel_rfl⟩
   exact⟨⟨i+1,by omega⟩,GS.to (by simp[ht,ints,ans,lC,aX,lD]),by simp;omega⟩
  ·simp only[c1,decide_false,j_,if_true,lH]at ht;simp -dsimp[hiz,hx,ints];and_intros;all_goals try first|rfl|omega|exact⟨by kernel_rfl⟩
   refine aF.of hin [] 0 ?_;simp -dsimp[pY,c1,w1,hg,fE,ng];and_intros;all_goals try first|rfl|omega|exact⟨by kernel_rfl⟩|exact hlk
   exact⟨⟨i+1,by omega⟩,GS.to (by simp[ht,ints,ans,lC,aX,lD]),by simp;omega⟩
 have hiz :¬(i:Int)<(G).length:=by omega
 obtain rfl:i=(G).length:=by omega
 obtain⟨B,hB⟩:∃B,B=PF (G).length:=⟨_,rfl⟩
 rw[←hB];rw[AO]at hB
 rw[←hB]at hw
 have hB1:(B).length≤(G).length:=by rw[hB];exact nV _ _ _
 clear hpl hP0 AP hPl AO hB;simp -dsimp[hiz,ints,ans];and_intros;all_goals try first|rfl|omega|exact⟨by kernel_rfl⟩
 obtain⟨PF,hP0,AP,hPl,AO⟩:∃PF:Nat→List (List Int),PF 0 = []∧(∀(i:Nat) x,(G)[i]? = some x→PF (i+1)=PF i++if(fun id=>decide (1<(R id).length)) x=true then [(fun id=>[3,(R id).getD 1 0,id,((R id).length:Int)]) x]else [])∧(∀i,(PF i).length≤(G).length)∧PF (G).length=((G).filter (fun id=>decide (1<(R id).length))).map (fun id=>[3,(R id).getD 1 0,id,((R id).length:Int)]):=
  ⟨fun i=>(((G).take i).filter (fun id=>decide (1<(R id).length))).map (fun id=>[3,(R id).getD 1 0,id,((R id).length:Int)]),by simp,fun i x h=>rX h,fun i=>aY (nV _ _ _) (by rw[bF];omega),by simp only[bP]⟩
 refine bY.of [3000047,3000072] (kb 0x4001e00203c0041e0081e00021e41e01e40044b576bcf) (ι:={i:Nat // i≤(G).length})
  (fun z=>[(.s 1,It.v (.d (ints ids))),(.s 2,It.v (.d (.sl (ans l)))),(.o 3,It.box [TV.d (.int .i64 p.gU),TV.d (.int .i64 p.len),TV.d (.sl (lX p.es))]),(.s 3,It.v (.ptr (.o 3) 0)),(.s 6,It.v (.c (.slice none 0 0))),(.s 7,It.v (.d (.int .i64 0))),(.o 47,It.jA (im M) 0 none none),(.s 9,It.v (.mref 47)),(.o 72,It.jA ES 0 none none),(.s 14,It.v (.mref 72)),(.s 17,It.v (.d (ints G))),(.s 18,It.v (.bK 18 ((A++B).length+(PF z.1).length))),(.o 18,It.row 113 4 (dd (lC (A++B))++dd (lC (PF z.1))) false),(.s 138,It.v (.d (ints G))),(.s 139,It.v (.d (.int .i64 (G).length))),(.s 140,It.v (.d (.int .i64 z.1)))])
  (fun z=>(G).length-z.1) ⟨0,by omega⟩ ?_ ?_
 ·exact GS.to (by simp[ints,ans,uS,lC,hP0,aX,lD])
 rintro⟨i,i1⟩;have hpl:=hPl i;by_cases hi:i<(G).length
 ·have hiz:(i:Int)<(G).length:=by omega
  have hx:(G)[i]? = some (G)[i]:=ah hi;have hm:=aB hi;have ht:=AP i _ hx;dsimp only at ht;have w1:IntKind.i64.wrap ((i:Int)+1)=(i:Int)+1:=wrap_i64 (by omega) (by omega);generalize (G)[i]=x at hx hm ht;generalize PF i=S at hpl ht⊢;rcases hA x with⟨_,hg,hp1⟩|⟨c0,_⟩
  case inr=>exact absurd hm c0
  have hrx:=hrl x;have ht:PF (i+1)=S++if 1<(R x).length then [[3,(R x).getD 1 0,x,((R x).length:Int)]]else []:=by rw[ht];simp
  generalize R x=M at hg hp1 ht hrx;by_cases c1:1<M.length
  ·obtain⟨y,y2,M,rfl⟩:∃a b M',M=a::b::M':=by
    match M,c1 with
    | a::b::M,_=>exact⟨a,b,M,rfl⟩
   simp only[c1,if_true,sD,lH]at ht;simp only[aT]at hrx;have xB:(1:Int)<(M.length:Int)+1+1:=by omega
   simp -dsimp[hiz,hx,ints,hg,fE,w1,xB,ng];and_intros;all_goals try first|rfl|omega|exact⟨by kernel_rfl⟩|exact hlk
   have e2:(M.length:Int)+2=(M.length:Int)+1+1:=by omega
   exact⟨⟨i+1,by omega⟩,GS.to (by simp[ht,ints,ans,lC,aX,e2,lD]),by simp;omega⟩
  ·have xB :¬(1:Int)<M.length:=by omega
   rw[if_neg c1,aZ]at ht
   simp -dsimp[hiz,hx,ints,hg,fE,w1,xB];and_intros;all_goals try first|rfl|omega|exact⟨by kernel_rfl⟩|exact hlk
   exact⟨⟨i+1,by omega⟩,GS.to (by simp[ht,ints,ans,lC,aX,lD]),by simp;omega⟩
 have hiz :¬(i:Int)<(G).length:=by omega
 obtain rfl:i=(G).length:=by omega
 obtain⟨C,hC⟩:∃C,C=PF (G).length:=⟨_,rfl⟩
 rw[←hC];rw[AO]at hC
 rw[←hC]at hw
 have hC1:(C).length≤(G).length:=by rw[hC];exact nV _ _ _
 clear hpl hP0 AP hPl AO hC;simp -dsimp[hiz,ints,ans];and_intros;all_goals try first|rfl|omega|exact⟨by kernel_rfl⟩
 obtain⟨PF,hP0,AP,hPl,AO⟩:∃PF:Nat→List (List Int),PF 0 = []∧(∀(i:Nat) x,(l)[i]? = some x→PF (i+1)=PF i++if(fun a:An=>decide (a.kd=1)&&decide (a.rt≠o a.id)) x=true then [(fun a:An=>[4,o a.id,a.id,a.rt]) x]else [])∧(∀i,(PF i).length≤(l).length)∧PF (l).length=((l).filter (fun a:An=>decide (a.kd=1)&&decide (a.rt≠o a.id))).map (fun a:An=>[4,o a.id,a.id,a.rt]):=
  ⟨fun i=>(((l).take i).filter (fun a:An=>decide (a.kd=1)&&decide (a.rt≠o a.id))).map (fun a:An=>[4,o a.id,a.id,a.rt]),by simp,fun i x h=>rX h,fun i=>aY (nV _ _ _) (by rw[bF];omega),by simp only[bP]⟩
 refine bY.of [3000047,3000072] (kb 0x4001e00203c0041e0081e00021e41e01e40044b576bcf) (ι:={i:Nat // i≤(l).length})
  (fun z=>[(.s 1,It.v (.d (ints ids))),(.s 2,It.v (.d (.sl (ans l)))),(.o 3,It.box [TV.d (.int .i64 p.gU),TV.d (.int .i64 p.len),TV.d (.sl (lX p.es))]),(.s 3,It.v (.ptr (.o 3) 0)),(.s 6,It.v (.c (.slice none 0 0))),(.s 7,It.v (.d (.int .i64 0))),(.o 47,It.jA (im M) 0 none none),(.s 9,It.v (.mref 47)),(.o 72,It.jA ES 0 none none),(.s 14,It.v (.mref 72)),(.s 17,It.v (.d (ints G))),(.s 18,It.v (.bK 18 ((A++(B++C)).length+(PF z.1).length))),(.o 18,It.row 113 4 (dd (lC (A++(B++C)))++dd (lC (PF z.1))) false),(.s 161,It.v (.d (.sl (ans l)))),(.s 162,It.v (.d (.int .i64 (l).length))),(.s 163,It.v (.d (.int .i64 z.1)))])
  (fun z=>(l).length-z.1) ⟨0,by omega⟩ ?_ ?_
 ·exact GS.to (by simp[ints,ans,uS,lC,hP0,aX,lD])
 rintro⟨i,i1⟩;have hpl:=hPl i;by_cases hi:i<(l).length
 ·have hiz:(i:Int)<(l).length:=by omega
  have hx:(l)[i]? = some (l)[i]:=ah hi;have hm:=aB hi;have ht:=AP i _ hx;dsimp only at ht;have w1:IntKind.i64.wrap ((i:Int)+1)=(i:Int)+1:=wrap_i64 (by omega) (by omega);generalize (l)[i]=x at hx hm ht;generalize PF i=S at hpl ht⊢;have hx':=yX hx;by_cases c1:x.kd=1
  ·by_cases c2:x.rt=o x.id
   ·simp only[c1,c2,decide_true,ne_eq,not_true_eq_false,decide_false,pK,bI,if_false,aZ]at ht;rcases hM x.id with⟨hq,h0⟩|hq
    ·rw[h0]at c2
     simp -dsimp[hiz,hx',BJ,eq_true c1,eq_true c2,jG,hq,w1];and_intros;all_goals try first|rfl|omega|exact⟨by kernel_rfl⟩|exact iY _
     exact⟨⟨i+1,by omega⟩,GS.to (by simp[ht,ints,ans,lC,aX,lD]),by simp;omega⟩
    ·simp -dsimp[hiz,hx',BJ,eq_true c1,eq_true c2,jG,hq,w1];and_intros;all_goals try first|rfl|omega|exact⟨by kernel_rfl⟩|exact iY _
     exact⟨⟨i+1,by omega⟩,GS.to (by simp[ht,ints,ans,lC,aX,lD]),by simp;omega⟩
   ·simp only[c1,c2,decide_true,ne_eq,not_false_eq_true,l7,if_true]at ht;rcases hM x.id with⟨hq,h0⟩|hq
    ·rw[h0]at c2 ht
     simp -dsimp[hiz,hx',BJ,eq_true c1,eq_false c2,jG,hq,w1,ng];and_intros;all_goals try first|rfl|omega|exact⟨by kernel_rfl⟩|exact iY _
     exact⟨⟨i+1,by omega⟩,GS.to (by simp[ht,ints,ans,lC,aX,lD,c1]),by simp;omega⟩
    ·simp -dsimp[hiz,hx',BJ,eq_true c1,eq_false c2,jG,hq,w1,ng];and_intros;all_goals try first|rfl|omega|exact⟨by kernel_rfl⟩|exact iY _
     exact⟨⟨i+1,by omega⟩,GS.to (by simp[ht,ints,ans,lC,aX,lD,c1]),by simp;omega⟩
  ·simp only[c1,decide_false,lF,bI,if_false,aZ]at ht;simp -dsimp[hiz,hx',BJ,eq_false c1,w1];and_intros;all_goals try first|rfl|omega|exact⟨by kernel_rfl⟩|exact iY _
   exact⟨⟨i+1,by omega⟩,GS.to (by simp[ht,ints,ans,lC,aX,lD]),by simp;omega⟩
 have hiz :¬(i:Int)<(l).length:=by omega
 obtain rfl:i=(l).length:=by omega
 obtain⟨E,hE⟩:∃E,E=PF (l).length:=⟨_,rfl⟩
 rw[←hE];rw[AO]at hE
 rw[←hE]at hw
 have hE1:(E).length≤(l).length:=by rw[hE];exact nV _ _ _
 clear hpl hP0 AP hPl AO hE;simp -dsimp[hiz,ints,ans];and_intros;all_goals try first|rfl|omega|exact⟨by kernel_rfl⟩
 refine Fin.view 6 ?_;simp -dsimp[ng];refine Fin.of ?_;simp[hw,lC]
def zW(l:List Tb)(r en id:Int):An:=⟨JR (jM l id (en%8) 63 r),(jM l id (en%8) 63 r).2.1,id,ltE (jM l id (en%8) 63 r)⟩
noncomputable def D_(g:bV)(p:Pn)(l:List Tb)(r:Int)(ids:List Int)(en:Int):List (List Int)×Int:=
 if Gy p ids≠0 then([],Gy p ids)else match ids.find? (fun id=>decide (qI l r id en 63≠0))with
 | some id=>([],qI l r id en 63)
 | none=>if jE g≠0 then([],1)else vI p ids (ids.map (zW l r en))
theorem UN(g:bV)(hs:g.Sm)(p:Pn)(hp:p.es.length≤1000)(l:List Tb)(hl:Good l)(r:Int)(ids:List Int)(hi0:ids.length≤1000000)(h64:∀x∈ids,I64 x)(en:Int):Contract Tryz.prog 71 [d_ g,iE p,.d (.sl (ig l)),.d (.int .i64 r),.d (ints ids),.d (.int .i64 en)] []
  (.sZ [.d (.sl (lC (D_ g p l r ids en).1)),.d (.int .i64 (D_ g p l r ids en).2)]) [] []:=by
 have e0:(vI p ids []).2=Gy p ids:=by unfold vI;split<;>simp[*]
 have h0:=vU p hp ids hi0 [] (by simp) (by simp);rw[e0]at h0
 generalize (vI p ids []).1=f0 at h0;have abx:∀a∈ids.map (zW l r en),I64 a.id:=fun a ha=>by obtain⟨x,hx,rfl⟩:=ay.1 ha;exact h64 x hx
 have hC:=vU p hp ids hi0 (ids.map (zW l r en)) (by simpa using hi0) abx;obtain⟨w,hw⟩:∃w,w=D_ g p l r ids en:=⟨_,rfl⟩
 rw[←hw];unfold D_ at hw;obtain⟨q,hq⟩:∃q:Int→Int,q=fun id=>qI l r id en 63:=⟨_,rfl⟩
 obtain⟨A,hA⟩:∃A:Int→An,A=zW l r en:=⟨_,rfl⟩
 have hP0:∀id,q id=0→Contract Tryz.prog 144 [.d (.sl (ig l)),.d (.int .i64 r),.d (.int .i64 id),.d (.int .i64 en),.d (.int .i64 63)] [] (.sZ [.agg [.d (.int .i64 (A id).kd),.d (.int .i64 (A id).rt),.d (.int .i64 (A id).id),.d (.int .i64 (A id).tl)],.d (.int .i64 0)]) [] []:=fun id hid=>by
  have:=H9 l hl r id en 63;rw[hq]at hid
  simp only at hid;rw[hid]at this
  rw[hA];simpa[uX,zW]using this
 have hP1:∀id,q id≠0→Contract Tryz.prog 144 [.d (.sl (ig l)),.d (.int .i64 r),.d (.int .i64 id),.d (.int .i64 en),.d (.int .i64 63)] [] (.sZ [.agg [.d (.int .i64 0),.d (.int .i64 0),.d (.int .i64 0),.d (.int .i64 0)],.d (.int .i64 (q id))]) [] []:=fun id hid=>by
  have:=H9 l hl r id en 63;rw[hq]at hid⊢
  simp only at hid⊢;simpa[uX,hid]using this
 have hwq:w=if Gy p ids≠0 then([],Gy p ids)else match ids.find? (fun id=>decide (q id≠0))with
  | some id=>([],q id)
  | none=>if jE g≠0 then([],1)else vI p ids (ids.map A):=by rw[hw,hq,hA]
 rw[←hA]at hC
 clear hw hq hA abx;have hT:=E5 g hs.r hs.l;simp only[d_,iE]at h0 hC hT;generalize vI p ids (ids.map A)=v at hC hwq;generalize Gy p ids=e at h0 hwq;generalize jE g=ct at hT hwq;simp only[ints]at h0 hC;refine aC Tryz.func71 rfl (fun E0=>?_)
 refine iK.sound (g:=.mk) (ow:=[]) (kp:=(kb 0x402003d01db0ff)) ?_;rw[Tryz.ntmps71];simp -dsimp[d_,iE,ints];refine aF.of h0 [] 0 ?_;by_cases c0:e=0
 case neg=>
  rw[if_pos c0]at hwq
  simp -dsimp[eq_false c0];and_intros;all_goals try first|rfl|omega|exact⟨by kernel_rfl⟩
  refine Fin.view 12 ?_;simp -dsimp;refine Fin.of ?_;simp[hwq,lC]
 rw[if_neg (by simp[c0])]at hwq
 subst c0;simp -dsimp;and_intros;all_goals try first|rfl|omega|exact⟨by kernel_rfl⟩
 refine bY.of [] (kb 0x402003d01db0ff) (ι:={i:Nat // i≤ids.length∧(ids.find? fun id=>decide (q id≠0))=(ids.drop i).find? fun id=>decide (q id≠0)})
  (fun z=>[(.s 2,It.v (.d (.sl (ig l)))),(.s 3,It.v (.d (.int .i64 r))),(.s 4,It.v (.d (ints ids))),(.s 5,It.v (.d (.int .i64 en))),(.o 6,It.box [TV.d (.sl (rts g.rs)),TV.d (.sl (pq g.ls))]),(.s 6,It.v (.ptr (.o 6) 0)),(.o 7,It.box [TV.d (.int .i64 p.gU),TV.d (.int .i64 p.len),TV.d (.sl (lX p.es))]),(.s 7,It.v (.ptr (.o 7) 0)),(.s 12,It.v (.c (.slice none 0 0))),(.s 13,It.v (.d (.int .i64 0))),
   (.s 16,It.v (.bK 16 z.1)),(.o 16,It.row 120 4 (dd (ans ((ids.take z.1).map A))) false),(.s 30,It.v (.d (ints ids))),(.s 31,It.v (.d (.int .i64 ids.length))),(.s 32,It.v (.d (.int .i64 z.1)))])
  (fun z=>ids.length-z.1) ⟨0,by omega,by simp⟩ ?_ ?_
 ·exact GS.own' (k:=16) 120 4 (by simp) (by simp) (by simp[ints,ans])
 rintro⟨i,i1,i2⟩;by_cases hi:i<ids.length
 ·have hiz:(i:Int)<ids.length:=by omega
  have hx:ids[i]? = some ids[i]:=ah hi;have hd:ids.drop i=ids[i]::ids.drop (i+1):=aU hi;have ht:ids.take (i+1)=ids.take i++[ids[i]]:=by rw[aO,hx];rfl
  generalize ids[i]=x at hx hd ht;have w1:IntKind.i64.wrap ((i:Int)+1)=(i:Int)+1:=wrap_i64 (by omega) (by omega);rw[hd,iC]at i2
  by_cases c:q x=0
  ·simp only[c,ne_eq,not_true_eq_false,decide_false]at i2;simp -dsimp[hiz,hx,ints];and_intros;all_goals try first|rfl|omega|exact⟨by kernel_rfl⟩
   refine aF.of (hP0 x c) [] 0 ?_;have hlt:((ids.take i).map A).length=i:=by rw[aN,bF];omega
   simp -dsimp[w1,hlt,wJ];and_intros;all_goals try first|rfl|omega|exact⟨by kernel_rfl⟩
   exact⟨⟨i+1,by omega,i2⟩,GS.to (by simp[ht,ints,ans,BJ]),by simp;omega⟩
  ·simp only[c,ne_eq,not_false_eq_true,decide_true]at i2;rw[i2]at hwq
   simp only at hwq;simp -dsimp[hiz,hx,ints];and_intros;all_goals try first|rfl|omega|exact⟨by kernel_rfl⟩
   refine aF.of (hP1 x c) [] 0 ?_;simp -dsimp[eq_false c];and_intros;all_goals try first|rfl|omega|exact⟨by kernel_rfl⟩
   refine Fin.view 12 ?_;simp -dsimp;refine Fin.of ?_;simp[hwq,lC]
 have hiz :¬(i:Int)<ids.length:=by omega
 obtain rfl:i=ids.length:=by omega
 rw[i2,List.drop_length]at hwq
 simp only[List.find?_nil]at hwq;rw[bP];have hlA:(ids.map A).length=ids.length:=by simp
 simp -dsimp[hiz];and_intros;all_goals try first|rfl|omega|exact⟨by kernel_rfl⟩
 refine aF.of hT [] 0 ?_;by_cases c1:ct=0
 case neg=>
  rw[if_pos c1]at hwq
  simp -dsimp[eq_false c1];and_intros;all_goals try first|rfl|omega|exact⟨by kernel_rfl⟩
  refine Fin.view 12 ?_;simp -dsimp;refine Fin.of ?_;simp[hwq,lC]
 rw[if_neg (by simp[c1])]at hwq
 subst c1;simp -dsimp[ints];and_intros;all_goals try first|rfl|omega|exact⟨by kernel_rfl⟩
 refine aF.of hC [] 0 ?_;simp -dsimp[wJ];and_intros;all_goals try first|rfl|omega|exact⟨by kernel_rfl⟩
 refine Fin.of ?_;simp[hwq]
theorem aei(g:bV)(hs:g.Sm)(p:Pn)(hp:p.es.length≤1000)(l:List Tb)(hl:Good l)(r:Int)(ids:List Int)(hi0:ids.length≤1000000)(h64:∀x∈ids,I64 x)(en:Int):Contract Tryz.prog 72 [d_ g,iE p,.d (.sl (ig l)),.d (.int .i64 r),.d (ints ids),.d (.int .i64 en)] []
  (.sZ [.d (.sl (lC (D_ g p l r ids en).1)),.d (.int .i64 (D_ g p l r ids en).2)]) [] []:=by
 have h0:=Vz p hp ids hi0;have abx:∀a∈ids.map (zW l r en),I64 a.id:=fun a ha=>by obtain⟨x,hx,rfl⟩:=ay.1 ha;exact h64 x hx
 have hC:=Pg p hp ids hi0 (ids.map (zW l r en)) (by simpa using hi0);obtain⟨w,hw⟩:∃w,w=D_ g p l r ids en:=⟨_,rfl⟩
 rw[←hw];unfold D_ at hw;obtain⟨q,hq⟩:∃q:Int→Int,q=fun id=>qI l r id en 63:=⟨_,rfl⟩
 obtain⟨A,hA⟩:∃A:Int→An,A=zW l r en:=⟨_,rfl⟩
 have hP0:∀id,q id=0→Contract Tryz.prog 60 [.d (.sl (ig l)),.d (.int .i64 r),.d (.int .i64 id),.d (.int .i64 en),.d (.int .i64 63)] [] (.sZ [.agg [.d (.int .i64 (A id).kd),.d (.int .i64 (A id).rt),.d (.int .i64 (A id).id),.d (.int .i64 (A id).tl)],.d (.int .i64 0)]) [] []:=fun id hid=>by
  have:=MJ l hl r id en 63;rw[hq]at hid
  simp only at hid;rw[hid]at this
  rw[hA];simpa[uX,zW]using this
 have hP1:∀id,q id≠0→Contract Tryz.prog 60 [.d (.sl (ig l)),.d (.int .i64 r),.d (.int .i64 id),.d (.int .i64 en),.d (.int .i64 63)] [] (.sZ [.agg [.d (.int .i64 0),.d (.int .i64 0),.d (.int .i64 0),.d (.int .i64 0)],.d (.int .i64 (q id))]) [] []:=fun id hid=>by
  have:=MJ l hl r id en 63;rw[hq]at hid⊢
  simp only at hid⊢;simpa[uX,hid]using this
 have hwq:w=if Gy p ids≠0 then([],Gy p ids)else match ids.find? (fun id=>decide (q id≠0))with
  | some id=>([],q id)
  | none=>if jE g≠0 then([],1)else vI p ids (ids.map A):=by rw[hw,hq,hA]
 rw[←hA]at hC
 clear hw hq hA abx;have hT:=D8 g hs.r hs.l;simp only[d_,iE]at h0 hC hT;generalize vI p ids (ids.map A)=v at hC hwq;generalize Gy p ids=e at h0 hwq;generalize jE g=ct at hT hwq;simp only[ints]at h0 hC;refine aC Tryz.func72 rfl (fun E0=>?_)
 refine iK.sound (g:=.mk) (ow:=[]) (kp:=(kb 0x402003d0ef0ff)) ?_;rw[Tryz.ntmps72];simp -dsimp[d_,iE,ints];refine aF.of h0 [] 0 ?_;by_cases c0:e=0
 case neg=>
  rw[if_pos c0]at hwq
  simp -dsimp[eq_false c0];and_intros;all_goals try first|rfl|omega|exact⟨by kernel_rfl⟩
  refine Fin.view 12 ?_;simp -dsimp;refine Fin.of ?_;simp[hwq,lC]
 rw[if_neg (by simp[c0])]at hwq
 subst c0;simp -dsimp;and_intros;all_goals try first|rfl|omega|exact⟨by kernel_rfl⟩
 refine bY.of [] (kb 0x402003d0ef0ff) (ι:={i:Nat // i≤ids.length∧(ids.find? fun id=>decide (q id≠0))=(ids.drop i).find? fun id=>decide (q id≠0)})
  (fun z=>[(.s 2,It.v (.d (.sl (ig l)))),(.s 3,It.v (.d (.int .i64 r))),(.s 4,It.v (.d (ints ids))),(.s 5,It.v (.d (.int .i64 en))),(.o 6,It.box [TV.d (.sl (rts g.rs)),TV.d (.sl (pq g.ls))]),(.s 6,It.v (.ptr (.o 6) 0)),(.o 7,It.box [TV.d (.int .i64 p.gU),TV.d (.int .i64 p.len),TV.d (.sl (lX p.es))]),(.s 7,It.v (.ptr (.o 7) 0)),(.s 12,It.v (.c (.slice none 0 0))),(.s 13,It.v (.d (.int .i64 0))),
   (.s 15,It.v (.bK 15 z.1)),(.o 15,It.row 120 4 (dd (ans ((ids.take z.1).map A))) false),(.s 26,It.v (.d (ints ids))),(.s 27,It.v (.d (.int .i64 ids.length))),(.s 28,It.v (.d (.int .i64 z.1)))])
  (fun z=>ids.length-z.1) ⟨0,by omega,by simp⟩ ?_ ?_
 ·exact GS.own' (k:=15) 120 4 (by simp) (by simp) (by simp[ints,ans])
 rintro⟨i,i1,i2⟩;by_cases hi:i<ids.length
 ·have hiz:(i:Int)<ids.length:=by omega
  have hx:ids[i]? = some ids[i]:=ah hi;have hd:ids.drop i=ids[i]::ids.drop (i+1):=aU hi;have ht:ids.take (i+1)=ids.take i++[ids[i]]:=by rw[aO,hx];rfl
  generalize ids[i]=x at hx hd ht;have w1:IntKind.i64.wrap ((i:Int)+1)=(i:Int)+1:=wrap_i64 (by omega) (by omega);rw[hd,iC]at i2
  by_cases c:q x=0
  ·simp only[c,ne_eq,not_true_eq_false,decide_false]at i2;simp -dsimp[hiz,hx,ints];and_intros;all_goals try first|rfl|omega|exact⟨by kernel_rfl⟩
   refine aF.of (hP0 x c) [] 0 ?_;have hlt:((ids.take i).map A).length=i:=by rw[aN,bF];omega
   simp -dsimp[w1,hlt,wJ];and_intros;all_goals try first|rfl|omega|exact⟨by kernel_rfl⟩
   exact⟨⟨i+1,by omega,i2⟩,GS.to (by simp[ht,ints,ans,BJ]),by simp;omega⟩
  ·simp only[c,ne_eq,not_false_eq_true,decide_true]at i2;rw[i2]at hwq
   simp only at hwq;simp -dsimp[hiz,hx,ints];and_intros;all_goals try first|rfl|omega|exact⟨by kernel_rfl⟩
   refine aF.of (hP1 x c) [] 0 ?_;simp -dsimp[eq_false c];and_intros;all_goals try first|rfl|omega|exact⟨by kernel_rfl⟩
   refine Fin.view 12 ?_;simp -dsimp;refine Fin.of ?_;simp[hwq,lC]
 have hiz :¬(i:Int)<ids.length:=by omega
 obtain rfl:i=ids.length:=by omega
 rw[i2,List.drop_length]at hwq
 simp only[List.find?_nil]at hwq;rw[bP];have hlA:(ids.map A).length=ids.length:=by simp
 simp -dsimp[hiz];and_intros;all_goals try first|rfl|omega|exact⟨by kernel_rfl⟩
 refine aF.of hT [] 0 ?_;by_cases c1:ct=0
 case neg=>
  rw[if_pos c1]at hwq
  simp -dsimp[eq_false c1];and_intros;all_goals try first|rfl|omega|exact⟨by kernel_rfl⟩
  refine Fin.view 12 ?_;simp -dsimp;refine Fin.of ?_;simp[hwq,lC]
 rw[if_neg (by simp[c1])]at hwq
 subst c1;simp -dsimp[ints];and_intros;all_goals try first|rfl|omega|exact⟨by kernel_rfl⟩
 refine aF.of hC [] 0 ?_;simp -dsimp[wJ];and_intros;all_goals try first|rfl|omega|exact⟨by kernel_rfl⟩
 refine Fin.of ?_;simp[hwq]
theorem BU:∀(es:List Ed) (out:List Int) (T:Tp),∃W:List Ed,W.Sublist es∧(y7 es out T).1=out++W.map (·.id)
 | [],out,T=>⟨[],List.Sublist.slnil,by simp[y7]⟩
 | e::es,out,T=>by
   rw[y7];by_cases c:0<(bH T 3).1
   ·obtain⟨W,h1,h2⟩:=BU es (out++[e.id]) (bH T 3).2;exact⟨e::W,h1.cons_cons e,by simp[*]⟩
   ·obtain⟨W,h1,h2⟩:=BU es out (bH T 3).2
    grind
@[simp]theorem SB:∀(es:List Ed) (out:List Int) (T:Tp),dW (y7 es out T).2=dW T
 | [],out,T=>rfl
 | e::es,out,T=>by rw[y7,SB];simp
theorem ac_{ds:List D}(h:(Ty.int .i64).has ds):∃n,ds = [.int .i64 n]:=by simp only[Ty.has]at h;obtain⟨n,rfl,_⟩:=h;exact⟨n,rfl⟩
end Go.Proofs
