/-
  What functions of the program compute, stated as contracts over plain data; the conditions of each stand in its own statement.
-/
import Derived.Test.YtboimfkommpglaaGreatDoorZB21
import Derived.Test.YtboimfkommpglaaGreatDoorZB18
set_option linter.unusedSimpArgs false
set_option linter.unusedVariables false
namespace Go.Proofs
open Go Go.Tr
theorem aeP(l:List Int)(n:Int):(nT l n).length≤l.length+1:=by grind[nT]
def qC:List Int:=[1,1,1,2,7,9]
def nC(rs:List Rt)(ord:List Int)(T:Tp):Nat→Tp×Int×List Ed
 | 0=>(T,0,[])
 | i+1=>let s:=nC rs ord T i;let a:=bH s.1 4
   if a.1=0 then(a.2,s.2)else(let w:=jW a.2 qC;(w.2,s.2.1+w.1,s.2.2++[⟨rid rs (ord.getD i 0).toNat,s.2.1+w.1⟩]))
def uq:List Int:=[8,8,16,32,64]
def rH(rs:List Rt)(T:Tp):Pn×Tp:=
 let a:=bH T 3
 let o:=yx a.2 rs.length
 let s:=nC rs o.1 o.2 rs.length
 if 0<s.2.2.length then(let w:=jW s.1 uq;(⟨a.1,w.1,s.2.2⟩,w.2))else(⟨a.1,0,s.2.2⟩,s.1)
theorem H7(T:Tp):1≤(jW T qC).1∧(jW T qC).1≤9:=by
 have:=EJ T (l:=qC) (by trivial)
 grind[qC]
theorem ZX(rs:List Rt)(ord:List Int)(T:Tp)(ho:∀x∈ord,0≤x∧x<(rs.length:Int))(hn:ord.Nodup):∀i:Nat,i≤ord.length→
  (nC rs ord T i).2.2.length≤i∧0≤(nC rs ord T i).2.1∧(nC rs ord T i).2.1≤9*i∧(∀x∈(nC rs ord T i).2.2,(1≤x.id∧x.id≤(nC rs ord T i).2.1)∧∃k:Nat,k<i∧x.r=rid rs (ord.getD k 0).toNat)∧(nC rs ord T i).2.2.Pairwise (fun x y=>x.id<y.id)∧
  (nC rs ord T i).2.2.Pairwise (fun x y=>∃j k:Nat,j<k∧k<i∧x.r=rid rs (ord.getD j 0).toNat∧y.r=rid rs (ord.getD k 0).toNat)
 | 0,_=>by simp[nC]
 | i+1,hi=>by
   obtain⟨h1,h2,h3,h4,h5,h6⟩:=ZX rs ord T ho hn i (by omega);simp only[nC];split
   ·refine⟨by grind,h2,by grind,fun x hx=>?_,h5,h6.imp ?_⟩
    ·grind
    ·rintro x y ⟨j,k,a,b,c⟩;exact⟨j,k,a,by omega,c⟩
   ·have hp:=H7 (bH (nC rs ord T i).1 4).2;refine⟨by simp;omega,by simp only;omega,by simp only;omega,fun x hx=>?_,?_,?_⟩
    ·rcases aJ.1 hx with hx|hx
     ·obtain⟨a,k,hk,e⟩:=h4 x hx;exact⟨⟨a.1,by simp only;omega⟩,k,by omega,e⟩
     ·obtain rfl:=bn.1 hx;exact⟨⟨by simp only;omega,by simp only;omega⟩,i,by omega,rfl⟩
    ·rw[jJ];refine⟨h5,List.pairwise_singleton _ _,fun x hx y hy=>?_⟩;obtain rfl:=bn.1 hy;have:=(h4 x hx).1;simp only;omega
    ·rw[jJ];refine⟨h6.imp ?_,List.pairwise_singleton _ _,fun x hx y hy=>?_⟩
     ·rintro x y ⟨j,k,a,b,c⟩;exact⟨j,k,a,by omega,c⟩
     ·obtain rfl:=bn.1 hy;obtain⟨_,k,hk,e⟩:=h4 x hx;exact⟨k,i,hk,by omega,e,rfl⟩
theorem y8{g:bV}(hg:jE g=0)(h7:g.rs.length≤7)(T:Tp):iT (rH g.rs T).1=true∧0≤(rH g.rs T).1.gU∧(rH g.rs T).1.gU≤2∧((rH g.rs T).1.len=0↔(rH g.rs T).1.es = [])∧(rH g.rs T).1.es.length≤7∧((rH g.rs T).1.len=0∨dQ (rH g.rs T).1.len=true):=by
 have hO:=gY hg;have hpw:g.rs.Pairwise fun x y=>x.id<y.id:=hO.rpw
 have s1:=eX T 3;have s2:=iR T (n:=3) (by omega);generalize he:bH T 3=a at s1 s2;have om:=SH a.2 g.rs.length;have ol:=SG a.2 g.rs.length;have on:(yx a.2 (g.rs.length:Int)).1.Nodup:=Jl _ _ _ _ oN (by simp);generalize ho:yx a.2 (g.rs.length:Int)=o at om ol on
 obtain⟨h1,h2,h3,h4,h5,h6⟩:=ZX g.rs o.1 o.2 om on g.rs.length (by omega);generalize hs:nC g.rs o.1 o.2 g.rs.length=s at h1 h2 h3 h4 h5 h6;have key:∀(len:Int),(dQ len=true∨(len=0∧s.2.2.length=0))→iT ⟨a.1,len,s.2.2⟩ = true:=fun len hl=>by
  have gi:∀i (hi:i<s.2.2.length),gid s.2.2 i=s.2.2[i].id∧G5 s.2.2 i=s.2.2[i].r:=fun i hi=>by grind[gid,G5]
  have hb:∀i (hi:i<s.2.2.length),(1≤s.2.2[i].id∧s.2.2[i].id≤63)∧1≤s.2.2[i].r∧s.2.2[i].r≤99:=fun i hi=>by
   obtain⟨e1,k,e2,e3⟩:=h4 _ (aB hi);refine⟨by omega,?_⟩;have hkm:=om (o.1.getD k 0) (by
    simp[*])
   have:=QK (rs:=g.rs) (i:=(o.1.getD k 0).toNat) (by omega);have:=hO.id this
   grind[Df]
  refine H6 ?_ (fun i hi=>?_) (fun i j hj hi=>?_)
  ·grind[vV,inB]
  ·have hi':i<s.2.2.length:=hi;have b:=hb i hi';have h3:=gi i hi';by_cases h0:i=0
   ·subst h0;simp only[Oc,inB,h3.1,h3.2,aP,gJ,decide_eq_true_eq]
    grind
   ·have h4:=gi (i-1) (by omega);have h5:=bT.1 h5 (i-1) i (by omega) hi' (by omega);simp only[Oc,inB,h3.1,h3.2,h4.1,aP,gJ,decide_eq_true_eq];omega
  ·have hi':i<s.2.2.length:=hi
   show G5 s.2.2 i≠G5 s.2.2 j
   rw[(gi i hi').2,(gi j (by omega)).2];obtain⟨u,v,huv,hv,e1,e2⟩:=bT.1 h6 j i (by omega) hi' hj;rw[e1,e2];have gu:o.1.getD u 0=o.1[u]'(by omega):=by rw[ak,ah (by omega)];rfl
   have gv:o.1.getD v 0=o.1[v]'(by omega):=by rw[ak,ah (by omega)];rfl
   rw[gu,gv];have mu:=om _ (aB (show u<o.1.length by omega));have mv:=om _ (aB (show v<o.1.length by omega));have hne:o.1[u]'(by omega)≠o.1[v]'(by omega):=bT.1 on u v (by omega) (by omega) huv;rcases Int.lt_or_gt_of_ne hne with h|h
   ·have:=Ut hpw (i:=(o.1[u]'(by omega)).toNat) (j:=(o.1[v]'(by omega)).toNat) (by omega) (by omega);omega
   ·have:=Ut hpw (i:=(o.1[v]'(by omega)).toNat) (j:=(o.1[u]'(by omega)).toNat) (by omega) (by omega);omega
 unfold rH;simp only[he,ho,hs];split
 ·rename_i hp;have hv:=EJ s.1 (l:=uq) (by simp[uq]);have hl:dQ (jW s.1 uq).1=true:=by
   simp only[uq,aG,fP,or_false]at hv;rcases hv with h|h|h|h|h<;>rw[show(jW s.1 uq).1=_ from h]<;>rfl
  have hz:(jW s.1 uq).1≠0:=fun e=>by rw[e]at hl;simp[dQ]at hl
  refine⟨key _ (.inl hl),s1,by simp only;omega,?_,by simp only;omega,.inr hl⟩;simp only;constructor
  ·intro e;exact absurd e hz
  ·intro e;rw[e]at hp;simp at hp
 grind
set_option maxRecDepth 100000
set_option maxHeartbeats 4000000
@[simp]theorem ae_(rs:List Rt)(ord:List Int)(T:Tp):∀i:Nat,dW (nC rs ord T i).1=dW T
 | 0=>rfl
 | i+1=>by have ih:=ae_ rs ord T i;simp only[nC];split<;>simp[ih]
@[simp]theorem akT(rs:List Rt)(T:Tp):dW (rH rs T).2=dW T:=by unfold rH;simp only;split<;>simp
theorem Wp(rs:List Rt)(ord:List Int)(T:Tp):∀i:Nat,(nC rs ord T i).2.2.length≤i∧0≤(nC rs ord T i).2.1∧(nC rs ord T i).2.1≤9*i
 | 0=>by simp[nC]
 | i+1=>by
   have ih:=Wp rs ord T i;have hp:=H7 (bH (nC rs ord T i).1 4).2;simp only[nC];split
   ·simp only;omega
   ·simp;omega
theorem MO(T:Tp)(hT:dW T)(g:bV)(hg:g.rs.length≤100):Contract Tryz.prog 53 [.ptr (.x 0) 0,d_ g] [iG T] (iE (rH g.rs T).1) [iG (rH g.rs T).2] []:=by
 refine aC Tryz.func53 rfl (fun E0=>?_);refine iK.sound (g:=.mk) (ow:=[]) (kp:=(kb 0x8000010f017b)) ?_;rw[Tryz.ntmps53];simp -dsimp[d_];try refine⟨?_,⟨by kernel_rfl⟩⟩
 refine aF.of (jR T hT 3 ⟨by omega,by omega⟩) [.x 0] 0 ?_;have kA:dW (bH T 3).2:=by simpa using hT
 generalize hA:bH T 3=a at kA;simp -dsimp[d_];refine aF.of (ahS a.2 kA g.rs.length (by omega)) [.x 0] 0 ?_;have kO:dW (yx a.2 g.rs.length).2:=by simpa using kA
 have om:=SH a.2 g.rs.length;have ol:=SG a.2 g.rs.length;generalize hO:yx a.2 (g.rs.length:Int)=o at kO om ol;obtain⟨ord,T1⟩:=o;simp only at kO om ol;simp -dsimp[ints];refine bY.of [] (kb 0x8000010f017b) (ι:={i:Nat // i≤ord.length})
  (fun z=>[(.s 0,It.v (.ptr (.x 0) 0)),(.o 3,It.box [TV.d (.sl (rts g.rs)),TV.d (.sl (pq g.ls))]),(.s 3,It.v (.ptr (.o 3) 0)),(.o 4,It.box [TV.d (.int .i64 0),TV.d (.int .i64 0),TV.c (Value.slice none 0 0)]),(.s 4,It.v (.ptr (.o 4) 0)),(.x 0,iG (nC g.rs ord T1 z.1).1),(.o 5,It.box [TV.d (.int .i64 a.1),TV.d (.int .i64 0),TV.bK 700 (nC g.rs ord T1 z.1).2.2.length]),(.s 5,It.v (.ptr (.o 5) 0)),(.o 700,It.row 115 2 (dd (lX (nC g.rs ord T1 z.1).2.2)) false),(.s 6,It.v (.d (.int .i64 (nC g.rs ord T1 z.1).2.1))),(.s 16,It.v (.d (ints ord))),(.s 17,It.v (.d (.int .i64 ord.length))),(.s 18,It.v (.d (.int .i64 z.1)))])
  (fun z=>ord.length-z.1) ⟨0,by omega⟩ ?_ ?_
 ·exact GS.AV (.o 5) 2 700 (cs:=[TV.d (.int .i64 a.1),TV.d (.int .i64 0),TV.c (Value.slice none 0 0)]) 115 2 rfl (by simp) (by simp) (by simp) (by simp[nC,lX,ints])
 rintro⟨i,i1⟩;have kI:dW (nC g.rs ord T1 i).1:=by simpa using kO
 obtain⟨b1,b2,b3⟩:=Wp g.rs ord T1 i;by_cases hi:i<ord.length
 ·have hiz:(i:Int)<ord.length:=by omega
  have hge:ord[i]? = some ord[i]:=ah hi;have hgd:ord.getD i 0=ord[i]:=by rw[ak,hge];rfl
  have hk:=om _ (aB hi);generalize ord[i]=k' at hge hgd hk;obtain⟨k,rfl⟩:∃k:Nat,k'=k:=⟨k'.toNat,by omega⟩
  have hkr:g.rs[k]? = some (g.rs[k]'(by omega)):=ah (by omega);have Qd:rid g.rs k=(g.rs[k]'(by omega)).id:=by unfold rid;rw[ak,hkr];rfl
  have hs:nC g.rs ord T1 (i+1)=if(bH (nC g.rs ord T1 i).1 4).1=0 then((bH (nC g.rs ord T1 i).1 4).2,(nC g.rs ord T1 i).2)else((jW (bH (nC g.rs ord T1 i).1 4).2 qC).2,(nC g.rs ord T1 i).2.1+(jW (bH (nC g.rs ord T1 i).1 4).2 qC).1,(nC g.rs ord T1 i).2.2++[⟨rid g.rs (ord.getD i 0).toNat,(nC g.rs ord T1 i).2.1+(jW (bH (nC g.rs ord T1 i).1 4).2 qC).1⟩]):=rfl
  rw[hgd,dV,Qd]at hs
  generalize g.rs[k]'(by omega)=x at hkr hs;simp -dsimp[hiz,hge,ints];try refine⟨?_,⟨by kernel_rfl⟩⟩
  refine aF.of (jR (nC g.rs ord T1 i).1 kI 4 ⟨by omega,by omega⟩) [.x 0] 0 ?_;have kB:dW (bH (nC g.rs ord T1 i).1 4).2:=by simpa using kI
  generalize bH (nC g.rs ord T1 i).1 4=b at kB hs;by_cases hb:b.1=0
  ·rw[if_pos hb]at hs
   simp -dsimp[hb,wrap_i64 (n:=(i:Int)+1) (by omega) (by omega)];and_intros;all_goals try first|omega|exact⟨by kernel_rfl⟩|rfl
   exact⟨⟨i+1,by omega⟩,GS.to (by simp[hs,ints]),by simp;omega⟩
  ·rw[if_neg hb]at hs
   have hp:=H7 b.2;have hc:=zS b.2 kB qC (by simp[qC]) (by simp[qC]);generalize jW b.2 qC=w at hc hp hs;simp only[ints,qC,List.map]at hc;simp -dsimp[hb];and_intros;all_goals try first|omega|exact⟨by kernel_rfl⟩|rfl
   refine aF.of hc [.x 0] 0 ?_;have hl1:(lX (nC g.rs ord T1 i).2.2).length=(nC g.rs ord T1 i).2.2.length:=by simp[lX]
   simp -dsimp[hkr,rts,Rt.cs,hl1,wrap_i64 (n:=(i:Int)+1) (by omega) (by omega),wrap_i64 (n:=(nC g.rs ord T1 i).2.1+w.1) (by omega) (by omega)];and_intros;all_goals try first|omega|exact⟨by kernel_rfl⟩|rfl|(simp;omega)
   exact⟨⟨i+1,by omega⟩,GS.to (by simp[hs,ints,lX,Ed.cs,rts,Rt.cs]),by simp;omega⟩
 have hiz :¬(i:Int)<ord.length:=by omega
 obtain rfl:i=ord.length:=by omega
 have hG:rH g.rs T=if 0<(nC g.rs ord T1 ord.length).2.2.length then(⟨a.1,(jW (nC g.rs ord T1 ord.length).1 uq).1,(nC g.rs ord T1 ord.length).2.2⟩,(jW (nC g.rs ord T1 ord.length).1 uq).2)else(⟨a.1,0,(nC g.rs ord T1 ord.length).2.2⟩,(nC g.rs ord T1 ord.length).1):=by unfold rH;simp only[hA,hO];rw[←ol]
 generalize nC g.rs ord T1 ord.length=s at kI b1 b2 b3 hG⊢;by_cases hz:0<s.2.2.length
 ·rw[if_pos hz]at hG
  rw[hG];have hzz:(0:Int)<s.2.2.length:=by omega
  have hc:=zS s.1 kI uq (by simp[uq]) (by simp[uq]);generalize jW s.1 uq=w at hc⊢;simp only[ints,uq,List.map]at hc;simp -dsimp[hiz,hz,hzz];and_intros;all_goals try first|omega|exact⟨by kernel_rfl⟩|rfl
  refine aF.of hc [.x 0] 0 ?_;simp -dsimp;and_intros;all_goals try first|omega|exact⟨by kernel_rfl⟩|rfl
  refine Fin.box (.o 4) rfl ?_;simp -dsimp;and_intros;all_goals try first|omega|exact⟨by kernel_rfl⟩|rfl
  refine Fin.of ?_;simp[iE]
 ·rw[if_neg hz]at hG
  rw[hG];have hzz :¬(0:Int)<s.2.2.length:=by omega
  simp -dsimp[hiz,hz,hzz];and_intros;all_goals try first|omega|exact⟨by kernel_rfl⟩|rfl
  refine Fin.box (.o 4) rfl ?_;simp -dsimp;and_intros;all_goals try first|omega|exact⟨by kernel_rfl⟩|rfl
  refine Fin.of ?_;simp[iE]
def lM(rs:List Rt)(T:Tp):Nat→Tp×List Int
 | 0=>(T,[])
 | i+1=>let s:=lM rs T i;let v:=bH s.1 rs.length;(v.2,nT s.2 (rid rs v.1.toNat))
def uK(rs:List Rt)(T:Tp)(n:Int):List Int×Tp:=
 let k:=bH T (n+1)
 let s:=lM rs k.2 k.1.toNat
 (s.2,s.1)
@[simp]theorem afe(rs:List Rt)(T:Tp):∀i:Nat,dW (lM rs T i).1=dW T
 | 0=>rfl
 | i+1=>by simp only[lM,VY];exact afe rs T i
@[simp]theorem amb(rs:List Rt)(T:Tp)(n:Int):dW (uK rs T n).2=dW T:=by simp[uK]
theorem yL(rs:List Rt)(T:Tp):∀i:Nat,(lM rs T i).2.length≤i
 | 0=>by simp[lM]
 | i+1=>by have ih:=yL rs T i;have:=aeP (lM rs T i).2 (rid rs (bH (lM rs T i).1 rs.length).1.toNat);simp only[lM];omega
set_option maxHeartbeats 8000000
def DX(r:Int)(L:List Int):List Int:=L.filter fun y=>decide (y≠r)
def CX(rs:List Rt)(r:Int)(T:Tp):List Int×Tp:=
 let s:=bH T 4
 if s.1=0 then([r],s.2)else if s.1=1 then([],s.2)else(DX r (uK rs s.2 2).1,(uK rs s.2 2).2)
def vT(rs:List Rt)(l:List Tb)(T:Tp):(List Tb×Int×Int)×Tp:=
 if l.length=0 then((l,0,0),T)else
 let k:=bH T l.length
 let b:=l.getD k.1.toNat tb0
 if b.rows.length=0 then((l,0,0),k.2)else
 let j:=bH k.2 b.rows.length
 let x:=b.rows.getD j.1.toNat ⟨0,[]⟩
 let s:=CX rs b.r j.2
 ((l.set k.1.toNat ⟨b.r,b.sd,b.len,b.rows.set j.1.toNat ⟨x.id,s.1⟩⟩,b.r,x.id),s.2)
@[simp]theorem amg(rs:List Rt)(r:Int)(T:Tp):dW (CX rs r T).2=dW T:=by
 unfold CX;simp only;split
 ·simp
 ·split<;>simp
@[simp]theorem ail(rs:List Rt)(l:List Tb)(T:Tp):dW (vT rs l T).2=dW T:=by
 unfold vT;split
 ·rfl
 ·simp only;split<;>simp
set_option maxHeartbeats 16000000
@[simp]theorem ahF(T:Tp):∀i:Nat,dW (xJ T i).1=dW T
 | 0=>rfl
 | i+1=>by simp only[xJ,aeE];exact ahF T i
@[simp]theorem aff(T:Tp):∀i:Nat,dW (vg T i).1=dW T
 | 0=>rfl
 | i+1=>by have ih:=aff T i;simp only[vg];split<;>simp[ih]
@[simp]theorem ae9(n:Nat)(T:Tp)(M:Mx):∀i:Nat,dW (sN n T M i).1=dW T
 | 0=>rfl
 | i+1=>by have ih:=ae9 n T M i;simp only[sN,VY,ih]
@[simp]theorem am2(flat:Bool)(x y:Int)(T:Tp):dW (JL flat x y T).2=dW T:=by unfold JL;simp only;split<;>simp
theorem aak(flat:Bool)(rs:List Rt):∀(ps:List (Nat×Nat)) (s:List Lk×Tp),dW (ps.foldl (Gi flat rs) s).2=dW s.2
 | [],_=>rfl
 | q::ps,s=>by rw[cO,aak flat rs ps];simp[Gi]
@[simp]theorem ahH(flat:Bool)(rs:List Rt)(M:Mx)(T:Tp)(n a b:Nat):dW (Ag flat rs M T n a b).2=dW T:=aak _ _ _ _
@[simp]theorem anY(a b:Nat)(T:Tp):qU a b (iG T)=iG T:=by simp[iG,H_,TV.vP,TV.ren]
def mrow(M:Mx)(n i:Nat):List (List D):=(List.range n).map fun j=>[.bool (M i j)]
def Je(n i:Nat):List (List TV):=(List.range n).map fun j=>if j<i then [TV.bK (9000+j) n]else [TV.c (Value.slice none 0 0)]
theorem anF(n a:Nat):List.replicate n [TV.d (.bool false)]=dd (mrow (fun _ _=>false) n a):=by unfold mrow dd;rw[bQ];refine lU (by simp) fun j h1 h2=>by simp
theorem Md(M:Mx)(n a:Nat):(mrow M n a).length=n:=by simp[mrow]
theorem ZT(M:Mx)(n a b:Nat):(dd (mrow M n a)).set b [TV.d (.bool true)]=dd (mrow (TG M a b) n a):=by
 unfold mrow dd;refine lU (by simp) fun j h1 h2=>?_
 simp only[List.getElem_set,List.getElem_map,List.getElem_range];by_cases e:b=j
 ·subst e;simp[TG]
 ·rw[if_neg e];have :¬j=b:=fun g=>e g.symm
  simp[TG,this]
theorem TF(M:Mx)(n:Nat){a b j:Nat}(h :¬j=a):mrow (TG M a b) n j=mrow M n j:=by unfold mrow TG;simp[h]
theorem Cj(n i:Nat):(Je n i).length=n:=by simp[Je]
theorem ae5(n:Nat):List.replicate n [TV.c (Value.slice none 0 0)]=Je n 0:=by unfold Je;refine lU (by simp) fun j h1 h2=>by simp
theorem ahA{n i:Nat}(h:i<n):((Je n i).set i [TV.bK 49 n]).map (TV.vP 49 (9000+i))=Je n (i+1):=by
 unfold Je;refine lU (by simp) fun j h1 h2=>?_
 simp only[List.getElem_map,List.getElem_set,List.getElem_range];by_cases e:i=j
 ·subst e;simp[TV.vP,TV.ren,wQ]
 ·rw[if_neg e];by_cases g:j<i
  ·rw[if_pos g,if_pos (by omega)];have :¬9000+j=49:=by omega
   simp[TV.vP,TV.ren,wQ,this]
  ·rw[if_neg g,if_neg (by omega)];simp[TV.vP,TV.ren]
theorem L8{n i j:Nat}(h:j<(Je n i).length):(Je n i)[j]=if j<i then [TV.bK (9000+j) n]else [TV.c (Value.slice none 0 0)]:=by simp[Je]
theorem qX{po:Nat→Prop}{n i:Nat}:m_ po (Je n i)↔∀j,j<n→j<i→po (9000+j):=by
 simp only[m_];constructor
 ·intro h j h1 h2;have:=h _ (ay.2 ⟨j,bD.2 h1,rfl⟩);rw[if_pos h2]at this
  simpa[TV.uw,TV.only]using this
 ·intro h e he;obtain⟨j,hj,rfl⟩:=ay.1 he;have:=h j (bD.1 hj);split
  ·rename_i g;simp[TV.uw,TV.only,this g]
  ·simp[TV.uw,TV.only]
theorem KW{M:Mx}{n a j:Nat}(h:j<(dd (mrow M n a)).length):(dd (mrow M n a))[j] = [TV.d (.bool (M a j))]:=by simp[mrow,dd]
theorem aiY{rs:List Rt}{a:Nat}(h:a<(dd (rts rs)).length):(dd (rts rs))[a] = [TV.d (.int .i64 (rid rs a)),TV.d (.bool (rs.getD a ⟨0,false⟩).cap)]:=by
 have h2:a<rs.length:=by simpa[dd,rts]using h
 simp[dd,rts,Rt.cs,rid,List.getD,h2]
theorem ahG{flat:Bool}{rs:List Rt}{M:Mx}{T:Tp}{n a b:Nat}:(Ag flat rs M T n a b).1.length≤a*n+b:=by
 have h:∀(ps:List (Nat×Nat)) (s:List Lk×Tp),(ps.foldl (Gi flat rs) s).1.length=s.1.length+ps.length:=by
  intro ps
  induction ps with
  | nil=>intro s;simp
  | cons q ps ih=>intro s;rw[cO,ih];simp[Gi];omega
 rw[Ag,h];have h1:=adF M n a;have h2:=aap M a b;have e:(Yh M n a b).length=(Yh M n a 0).length+(rowP M a b).length:=by simp[Yh,rowP]
 simp only[eY];omega
theorem Hw(T:Tp)(hT:dW T)(most:Int)(hm:1≤most∧most≤7):Contract Tryz.prog 52 [.ptr (.x 0) 0,.d (.int .i64 most)] [iG T] (d_ (Az T most).1) [iG (Az T most).2] []:=by
 refine aC Tryz.func52 rfl (fun E0=>?_);refine iK.sound (g:=.mk) (ow:=[]) (kp:=(kb 0x20000807380010020008401c000107fff3)) ?_;rw[Tryz.ntmps52];simp -dsimp;have a1:=uZ T 1 most
 have a2:=uY T (a:=1) (b:=most) (by omega);refine aF.of (EN T hT 1 most ⟨by omega,by omega⟩ ⟨by omega,by omega⟩ ⟨by omega,by omega⟩ ⟨by omega,by omega⟩) [.x 0] 0 ?_;have kR:dW (kD T 1 most).2:=by simpa using hT
 have hG:Az T most=(⟨(lu T most).rs,(Ag (lu T most).flat (lu T most).rs (lu T most).M2 (lu T most).T4 (lu T most).n (lu T most).n 0).1⟩,(Ag (lu T most).flat (lu T most).rs (lu T most).M2 (lu T most).T4 (lu T most).n (lu T most).n 0).2):=rfl;rw[hG];have hP:lu T most=lu T most:=rfl
 conv at hP=>rhs;unfold lu
 generalize lu T most=P at hP⊢;generalize kD T 1 most=R at a1 a2 kR hP⊢;obtain⟨n',T1⟩:=R;simp only at a1 a2 kR hP⊢;obtain⟨n,rfl⟩:∃n:Nat,n'=n:=⟨n'.toNat,by omega⟩
 simp only[dV]at hP;subst hP;simp only;simp -dsimp;refine bY.of [] (kb 0x20000807380010020008401c000107fff3) (ι:={i:Nat // i≤n})
  (fun z=>[(.s 0,It.v (.ptr (.x 0) 0)),(.s 1,It.v (.d (.int .i64 most))),(.o 4,It.box [TV.c (Value.slice none 0 0),TV.c (Value.slice none 0 0)]),(.s 4,It.v (.ptr (.o 4) 0)),(.s 5,It.v (.d (.int .i64 n))),(.x 0,iG (xJ T1 z.1).1),(.o 6,It.box [TV.bK 600 z.1,TV.c (Value.slice none 0 0)]),(.s 6,It.v (.ptr (.o 6) 0)),(.o 600,It.row 117 2 (dd (rts (xJ T1 z.1).2.2)) false),(.s 7,It.v (.d (.int .i64 (xJ T1 z.1).2.1))),(.s 8,It.v (.d (.int .i64 z.1)))])
  (fun z=>n-z.1) ⟨0,by omega⟩ ?_ ?_
 ·exact GS.AV (.o 6) 0 600 (cs:=[TV.c (Value.slice none 0 0),TV.c (Value.slice none 0 0)]) 117 2 rfl (by simp) (by simp) (by simp) (by simp[xJ,rts])
 rintro⟨i,i1⟩;have kI:dW (xJ T1 i).1:=by simpa using kR
 obtain⟨b1,b2,b3,b4,b5⟩:=Ya T1 i;by_cases hi:i<n
 ·have hiz:(i:Int)<n:=by omega
  have hp:=V7 (xJ T1 i).1;have hc:=zS (xJ T1 i).1 kI vN (by simp[vN]) (by simp[vN]);have hs:xJ T1 (i+1)=((jW (xJ T1 i).1 vN).2,(xJ T1 i).2.1+(jW (xJ T1 i).1 vN).1,(xJ T1 i).2.2++[⟨(xJ T1 i).2.1+(jW (xJ T1 i).1 vN).1,true⟩]):=rfl;generalize jW (xJ T1 i).1 vN=w at hc hp hs;simp only[ints,vN,List.map]at hc
  simp -dsimp[hiz];try refine⟨?_,⟨by kernel_rfl⟩⟩
  refine aF.of hc [.x 0] 0 ?_;simp -dsimp[b1,wrap_i64 (n:=(i:Int)+1) (by omega) (by omega),wrap_i64 (n:=(xJ T1 i).2.1+w.1) (by omega) (by omega)];and_intros;all_goals try first|omega|exact⟨by kernel_rfl⟩|rfl|(simp[rts,b1];done)|(simp;omega)
  exact⟨⟨i+1,by omega⟩,GS.to (by simp[hs,rts,Rt.cs,b1]),by simp;omega⟩
 have hiz :¬(i:Int)<n:=by omega
 obtain rfl:n=i:=by omega
 simp -dsimp[hiz];and_intros;all_goals try first|omega|exact⟨by kernel_rfl⟩|rfl
 have kN:dW (xJ T1 n).1:=kI;have hrl:(xJ T1 n).2.2.length=n:=b1;have hT2:∀j,dW (vg (xJ T1 n).1 j).1:=fun j=>by simpa using kN
 obtain⟨⟨T2,qL,rs⟩,hI⟩:∃I,xJ T1 n=I:=⟨_,rfl⟩
 simp only[hI]at b1 b2 b3 b4 b5 kN hrl hT2⊢;refine bY.of [] (kb 0x20000807380010020008401c000107fff3) (ι:={i:Nat // i≤n})
  (fun z=>sJ 9000 z.1 (fun _=>It.row 4 1 (List.replicate n [TV.d (.bool false)]) false) [(.s 0,It.v (.ptr (.x 0) 0)),(.s 1,It.v (.d (.int .i64 most))),(.o 4,It.box [TV.c (Value.slice none 0 0),TV.c (Value.slice none 0 0)]),(.s 4,It.v (.ptr (.o 4) 0)),(.s 5,It.v (.d (.int .i64 n))),(.x 0,iG T2),(.o 6,It.box [TV.bK 600 n,TV.c (Value.slice none 0 0)]),(.s 6,It.v (.ptr (.o 6) 0)),(.o 600,It.row 117 2 (dd (rts rs)) false),(.s 9,It.v (.bK 40 n)),(.o 40,It.row 182 1 (Je n z.1) false),(.s 42,It.v (.d (.int .i64 n))),(.s 43,It.v (.d (.int .i64 z.1)))])
  (fun z=>n-z.1) ⟨0,by omega⟩ ?_ ?_
 ·simp only[Ee];exact GS.to (by simp[ae5,qX])
 ·rintro⟨i,i1⟩;by_cases hi:i<n
  ·have hiz:(i:Int)<n:=by omega
   simp -dsimp[hiz,hi,Cj,L8,wrap_i64 (n:=(i:Int)+1) (by omega) (by omega)];and_intros;all_goals try first|omega|exact⟨by kernel_rfl⟩|rfl
   refine⟨⟨i+1,by omega⟩,GS.ren' 49 (9000+i) (by omega) ?_ ⟨?_,?_⟩,by simp;omega⟩
   ·simp;omega
   ·simp only[Zd,Ib (show 49<9000 by omega),EP,Ic];refine Sub.sJ (fun j hj=>?_) ?_ (fun j hj=>?_) ?_
    ·simp[yC,Ia,wQ,TV.ren,TV.vP,hj]
    ·simp[yC,Ia,Yk,H_,wQ,TV.ren,TV.vP,ahA hi,ji,jk]
    ·simp[MZ]
    ·simp[qX,MZ];intro j _ hj;omega
   ·simp only[Zd,Ib (show 49<9000 by omega),EP,Ic];simp[yC]
  have hiz :¬(i:Int)<n:=by omega
  obtain rfl:n=i:=by omega
  simp -dsimp[hiz];and_intros;all_goals try first|omega|exact⟨by kernel_rfl⟩|rfl
  refine bY.of [] (kb 0x20000807380010020008401c000107fff3) (ι:={i:Nat // i≤n-1})
   (fun z=>sJ 9000 n (fun a=>It.row 4 1 (dd (mrow (vg T2 z.1).2 n a)) false) [(.s 0,It.v (.ptr (.x 0) 0)),(.s 1,It.v (.d (.int .i64 most))),(.o 4,It.box [TV.c (Value.slice none 0 0),TV.c (Value.slice none 0 0)]),(.s 4,It.v (.ptr (.o 4) 0)),(.s 5,It.v (.d (.int .i64 n))),(.x 0,iG (vg T2 z.1).1),(.o 6,It.box [TV.bK 600 n,TV.c (Value.slice none 0 0)]),(.s 6,It.v (.ptr (.o 6) 0)),(.o 600,It.row 117 2 (dd (rts rs)) false),(.s 9,It.v (.bK 40 n)),(.o 40,It.row 182 1 (Je n n) false),(.s 11,It.v (.d (.int .i64 ((z.1:Int)+1))))])
   (fun z=>n-z.1) ⟨0,by omega⟩ ?_ ?_
  ·refine GS.to ⟨?_,by simp⟩;refine Sub.sJ (fun j hj=>?_) ?_ (fun j hj=>?_) ?_
   ·simp[hj,vg,anF n j]
   ·simp[vg]
   ·simp
   ·simp[qX];intro j hj;omega
  rintro⟨i,i1⟩;have kI2:=hT2 i;by_cases hi:i+1<n
  ·have hiz:(i:Int)+1<n:=by omega
   have kW:dW (bH (vg T2 i).1 12).2:=by simpa using kI2
   have hs:vg T2 (i+1)=if(bH (vg T2 i).1 12).1<11 then((bH (bH (vg T2 i).1 12).2 ((i:Int)+1)).2,TG (vg T2 i).2 (bH (bH (vg T2 i).1 12).2 ((i:Int)+1)).1.toNat (i+1))else((bH (vg T2 i).1 12).2,(vg T2 i).2):=rfl
   have hc:=jR (vg T2 i).1 kI2 12 ⟨by omega,by omega⟩;generalize bH (vg T2 i).1 12=w at kW hs hc;simp -dsimp[hiz];and_intros;all_goals try first|omega|exact⟨by kernel_rfl⟩|rfl
   refine aF.of hc [.x 0] 0 ?_;by_cases hw:w.1<11
   ·rw[if_pos hw]at hs
    have v1:=eX w.2 ((i:Int)+1);have v2:=iR w.2 (n:=(i:Int)+1) (by omega);have hd:=jR w.2 kW ((i:Int)+1) ⟨by omega,by omega⟩;generalize bH w.2 ((i:Int)+1)=v at v1 v2 hs hd;obtain⟨v',T3⟩:=v;simp only at v1 v2 hs hd;obtain⟨v,rfl⟩:∃v:Nat,v'=v:=⟨v'.toNat,by omega⟩
    have hvn:v<n:=by omega
    simp only[dV]at hs;have e1:((i:Int)+1).toNat=i+1:=by omega
    simp -dsimp[hw];and_intros;all_goals try first|omega|exact⟨by kernel_rfl⟩|rfl
    refine aF.of hd [.x 0] 0 ?_;simp -dsimp[hvn,hi,Cj,L8,KW,Md,e1,wrap_i64 (n:=(i:Int)+1+1) (by omega) (by omega)];and_intros;all_goals try first|omega|exact⟨by kernel_rfl⟩|rfl
    refine⟨⟨i+1,by omega⟩,GS.to ⟨?_,by simp⟩,by simp;omega⟩;refine Sub.sJ (fun j hj=>?_) ?_ (fun j hj=>?_) ?_
    ·by_cases hjv:j=v
     ·subst hjv;simp[hj,hs,ZT]
     ·simp[hj,hs,hjv,TF]
    ·simp[hs]
    ·simp
    ·simp[qX];intro j hj;omega
   ·rw[if_neg hw]at hs
    simp -dsimp[hw,wrap_i64 (n:=(i:Int)+1+1) (by omega) (by omega)];and_intros;all_goals try first|omega|exact⟨by kernel_rfl⟩|rfl
    refine⟨⟨i+1,by omega⟩,GS.to ⟨?_,by simp⟩,by simp;omega⟩;refine Sub.sJ (fun j hj=>?_) ?_ (fun j hj=>?_) ?_
    ·simp[hj,hs]
    ·simp[hs]
    ·simp
    ·simp[qX];intro j hj;omega
  have hiz :¬(i:Int)+1<n:=by omega
  obtain rfl:n-1=i:=by omega
  simp -dsimp[hiz,wrap_i64 (n:=(n:Int)+2) (by omega) (by omega)];and_intros;all_goals try first|omega|exact⟨by kernel_rfl⟩|rfl
  have kT:dW (vg T2 (n-1)).1:=hT2 (n-1);obtain⟨⟨T3,M1⟩,hI3⟩:∃I,vg T2 (n-1)=I:=⟨_,rfl⟩
  have hc:=jR (vg T2 (n-1)).1 kT ((n:Int)+2) ⟨by omega,by omega⟩;simp only[hI3]at kT hc⊢;have q1:=eX T3 ((n:Int)+2);have q2:=iR T3 (n:=(n:Int)+2) (by omega);have kQ:dW (bH T3 ((n:Int)+2)).2:=by simpa using kT
  obtain⟨⟨K',T4⟩,hI4⟩:∃I,bH T3 ((n:Int)+2)=I:=⟨_,rfl⟩
  simp only[hI4]at q1 q2 kQ hc⊢;obtain⟨K,rfl⟩:∃K:Nat,K'=K:=⟨K'.toNat,by omega⟩
  try simp only[dV]
  refine aF.of hc [.x 0] 0 ?_;simp -dsimp;and_intros;all_goals try first|omega|exact⟨by kernel_rfl⟩|rfl
  refine bY.of [] (kb 0x20000807380010020008401c000107fff3) (ι:={i:Nat // i≤K})
   (fun z=>sJ 9000 n (fun a=>It.row 4 1 (dd (mrow (sN n T4 M1 z.1).2 n a)) false) [(.s 0,It.v (.ptr (.x 0) 0)),(.s 1,It.v (.d (.int .i64 most))),(.o 4,It.box [TV.c (Value.slice none 0 0),TV.c (Value.slice none 0 0)]),(.s 4,It.v (.ptr (.o 4) 0)),(.s 5,It.v (.d (.int .i64 n))),(.x 0,iG (sN n T4 M1 z.1).1),(.o 6,It.box [TV.bK 600 n,TV.c (Value.slice none 0 0)]),(.s 6,It.v (.ptr (.o 6) 0)),(.o 600,It.row 117 2 (dd (rts rs)) false),(.s 9,It.v (.bK 40 n)),(.o 40,It.row 182 1 (Je n n) false),(.s 12,It.v (.d (.int .i64 ((K:Int)-z.1))))])
   (fun z=>K-z.1) ⟨0,by omega⟩ ?_ ?_
  ·refine GS.to ⟨?_,by simp⟩;refine Sub.sJ (fun j hj=>?_) ?_ (fun j hj=>?_) ?_
   ·simp[hj,sN,hI3]
   ·simp[sN,hI3]
   ·simp
   ·simp[qX];intro j hj;omega
  rintro⟨i,i1⟩;have kI3:dW (sN n T4 M1 i).1:=by simpa using kQ
  by_cases hi:i<K
  ·have hiz:(0:Int)<(K:Int)-i:=by omega
   have hs:sN n T4 M1 (i+1)=((bH (bH (sN n T4 M1 i).1 n).2 n).2,if(bH (sN n T4 M1 i).1 n).1=(bH (bH (sN n T4 M1 i).1 n).2 n).1 then(sN n T4 M1 i).2 else TG (sN n T4 M1 i).2 (min (bH (sN n T4 M1 i).1 n).1 (bH (bH (sN n T4 M1 i).1 n).2 n).1).toNat (max (bH (sN n T4 M1 i).1 n).1 (bH (bH (sN n T4 M1 i).1 n).2 n).1).toNat):=rfl
   have hc:=jR (sN n T4 M1 i).1 kI3 n ⟨by omega,by omega⟩;have kA:dW (bH (sN n T4 M1 i).1 n).2:=by simpa using kI3
   have v1:=eX (sN n T4 M1 i).1 n;have v2:=iR (sN n T4 M1 i).1 (n:=n) (by omega);generalize bH (sN n T4 M1 i).1 n=a at kA v1 v2 hs hc;obtain⟨a',T5⟩:=a;simp only at kA v1 v2 hs hc;have hd:=jR T5 kA n ⟨by omega,by omega⟩;have w1:=eX T5 n;have w2:=iR T5 (n:=n) (by omega);generalize bH T5 n=b at w1 w2 hs hd;obtain⟨b',T6⟩:=b;simp only at w1 w2 hs hd
   obtain⟨a,rfl⟩:∃a:Nat,a'=a:=⟨a'.toNat,by omega⟩
   obtain⟨b,rfl⟩:∃b:Nat,b'=b:=⟨b'.toNat,by omega⟩
   simp -dsimp[hiz,hi];and_intros;all_goals try first|omega|exact⟨by kernel_rfl⟩|rfl
   refine aF.of hc [.x 0] 0 ?_;simp -dsimp[hiz,hi];and_intros;all_goals try first|omega|exact⟨by kernel_rfl⟩|rfl
   refine aF.of hd [.x 0] 0 ?_;by_cases hab:a=b
   ·have agT:(a:Int)=b:=by omega
    rw[if_pos agT]at hs
    simp -dsimp[hab,agT,wrap_i64 (n:=(K:Int)-i-1) (by omega) (by omega)];and_intros;all_goals try first|omega|exact⟨by kernel_rfl⟩|rfl
    refine⟨⟨i+1,by omega⟩,GS.to ⟨?_,by simp⟩,by simp;omega⟩;refine Sub.sJ (fun j hj=>?_) ?_ (fun j hj=>?_) ?_
    ·simp[hj,hs]
    ·simp[hs];omega
    ·simp
    ·simp[qX];intro j hj;omega
   ·have agT :¬(a:Int)=b:=by omega
    rw[if_neg agT]at hs
    have hmn:TD IntKind.i64 a b = .d (.int .i64 (min a b:Nat)):=by simp[TD];omega
    have hmx:abX IntKind.i64 a b = .d (.int .i64 (max a b:Nat)):=by simp[abX];omega
    have e1:(min (a:Int) b).toNat=min a b:=by omega
    have e2:(max (a:Int) b).toNat=max a b:=by omega
    rw[e1,e2]at hs
    have m1:min a b<n:=by omega
    have m2:max a b<n:=by omega
    generalize min a b=u at hmn hs m1;generalize max a b=v at hmx hs m2;simp -dsimp[hab,agT,hmn,hmx,m1,m2,Cj,L8,KW,Md,wrap_i64 (n:=(K:Int)-i-1) (by omega) (by omega)];and_intros;all_goals try first|omega|exact⟨by kernel_rfl⟩|rfl
    refine⟨⟨i+1,by omega⟩,GS.to ⟨?_,by simp⟩,by simp;omega⟩;refine Sub.sJ (fun j hj=>?_) ?_ (fun j hj=>?_) ?_
    ·by_cases hjv:j=u
     ·subst hjv;simp[hj,hs,ZT]
     ·simp[hj,hs,hjv,TF]
    ·simp[hs];omega
    ·simp
    ·simp[qX];intro j hj;omega
  have hiz :¬(0:Int)<(K:Int)-i:=by omega
  obtain rfl:K=i:=by omega
  obtain⟨⟨T5,M2⟩,hI5⟩:∃I,sN n T4 M1 K=I:=⟨_,rfl⟩
  simp only[hI5]at kI3⊢;have hc:=jR T5 kI3 3 ⟨by omega,by omega⟩;have kF:dW (bH T5 3).2:=by simpa using kI3
  obtain⟨⟨f',T6⟩,hI6⟩:∃I,bH T5 3=I:=⟨_,rfl⟩
  simp only[hI6]at kF hc⊢;simp -dsimp[hiz];and_intros;all_goals try first|omega|exact⟨by kernel_rfl⟩|rfl
  refine aF.of hc [.x 0] 0 ?_;simp -dsimp[Cj];and_intros;all_goals try first|omega|exact⟨by kernel_rfl⟩|rfl
  obtain⟨flat,V4⟩:∃b,decide (f'=0)=b:=⟨_,rfl⟩
  simp only[V4];have kL:∀a b,dW (Ag flat rs M2 T6 n a b).2:=fun a b=>by simpa using kF
  have hnn:n*n≤49:=nK (show n≤7 by omega) (show n≤7 by omega);refine bY.of [] (kb 0x20000807380010020008401c000107fff3) (ι:={i:Nat // i≤n})
   (fun z=>sJ 9000 n (fun a=>It.row 4 1 (dd (mrow M2 n a)) false) [(.s 0,It.v (.ptr (.x 0) 0)),(.s 1,It.v (.d (.int .i64 most))),(.o 4,It.box [TV.c (Value.slice none 0 0),TV.c (Value.slice none 0 0)]),(.s 4,It.v (.ptr (.o 4) 0)),(.s 5,It.v (.d (.int .i64 n))),(.x 0,iG (Ag flat rs M2 T6 n z.1 0).2),(.o 6,It.box [TV.bK 600 n,TV.bK 601 (Ag flat rs M2 T6 n z.1 0).1.length]),(.s 6,It.v (.ptr (.o 6) 0)),(.o 600,It.row 117 2 (dd (rts rs)) false),(.o 601,It.row 142 5 (dd (pq (Ag flat rs M2 T6 n z.1 0).1)) false),(.s 9,It.v (.bK 40 n)),(.o 40,It.row 182 1 (Je n n) false),(.s 15,It.v (.d (.bool flat))),(.s 99,It.v (.d (.int .i64 n))),(.s 100,It.v (.d (.int .i64 z.1)))])
   (fun z=>n-z.1) ⟨0,by omega⟩ ?_ ?_
  ·refine GS.AV (.o 6) 1 601 (cs:=[TV.bK 600 n,TV.c (Value.slice none 0 0)]) 142 5 rfl (by simp) (by simp) (by simp) ⟨?_,by simp⟩;simp only[Kr _ (show 6<9000 by omega),Kr _ (show 601<9000 by omega)];refine Sub.sJ (fun j hj=>?_) ?_ (fun j hj=>?_) ?_
   ·simp[hj]
   ·simp[Ag,Yh,rowP,pq]
   ·simp
   ·simp[qX];intro j hj;omega
  rintro⟨a,ha1⟩;by_cases ha:a<n
  ·have haz:(a:Int)<n:=by omega
   simp -dsimp[haz,ha,Cj];and_intros;all_goals try first|omega|exact⟨by kernel_rfl⟩|rfl
   refine bY.of [] (kb 0x20000807380010020008401c000107fff3) (ι:={i:Nat // i≤n})
    (fun z=>sJ 9000 n (fun a=>It.row 4 1 (dd (mrow M2 n a)) false) [(.s 0,It.v (.ptr (.x 0) 0)),(.s 1,It.v (.d (.int .i64 most))),(.o 4,It.box [TV.c (Value.slice none 0 0),TV.c (Value.slice none 0 0)]),(.s 4,It.v (.ptr (.o 4) 0)),(.s 5,It.v (.d (.int .i64 n))),(.x 0,iG (Ag flat rs M2 T6 n a z.1).2),(.o 6,It.box [TV.bK 600 n,TV.bK 601 (Ag flat rs M2 T6 n a z.1).1.length]),(.s 6,It.v (.ptr (.o 6) 0)),(.o 600,It.row 117 2 (dd (rts rs)) false),(.o 601,It.row 142 5 (dd (pq (Ag flat rs M2 T6 n a z.1).1)) false),(.s 9,It.v (.bK 40 n)),(.o 40,It.row 182 1 (Je n n) false),(.s 15,It.v (.d (.bool flat))),(.s 16,It.v (.d (.int .i64 a))),(.s 99,It.v (.d (.int .i64 n))),(.s 100,It.v (.d (.int .i64 a))),(.s 104,It.v (.d (.int .i64 n))),(.s 105,It.v (.d (.int .i64 z.1)))])
    (fun z=>n-z.1) ⟨0,by omega⟩ ?_ ?_
   ·refine GS.to ⟨?_,by simp⟩;refine Sub.sJ (fun j hj=>?_) ?_ (fun j hj=>?_) ?_
    ·simp[hj]
    ·simp
    ·simp
    ·simp[qX];intro j hj;omega
   rintro⟨b,hb1⟩;by_cases hb:b<n
   ·have hbz:(b:Int)<n:=by omega
    rcases (au (M2 a b)).symm with hM|hM
    ·have hs:=ae8 (flat:=flat) (rs:=rs) (T:=T6) (n:=n) hM;simp -dsimp[hbz,hb,ha,haz,Cj,L8,KW,Md,hM,wrap_i64 (n:=(b:Int)+1) (by omega) (by omega)];and_intros;all_goals try first|omega|exact⟨by kernel_rfl⟩|rfl
     refine⟨⟨b+1,by omega⟩,GS.to ⟨?_,by simp⟩,by simp;omega⟩;refine Sub.sJ (fun j hj=>?_) ?_ (fun j hj=>?_) ?_
     ·simp[hj]
     ·simp[hs]
     ·simp
     ·simp[qX];intro j hj;omega
    ·have hs:=ae7 (flat:=flat) (rs:=rs) (T:=T6) (n:=n) hM;have hll:=ahG (flat:=flat) (rs:=rs) (M:=M2) (T:=T6) (n:=n) (a:=a) (b:=b);have han:a*n≤49:=aY (nK (show a≤n by omega) (aI n)) hnn;have kC:=kL a b;generalize Ag flat rs M2 T6 n a b=s at hs hll kC;have hrt:(dd (rts rs)).length=n:=by simp[dd,rts,b1]
     have hc:=zS s.2 kC ug (by simp[ug]) (by simp[ug]);have kc2:dW (jW s.2 ug).2:=by simpa using kC
     have hgl:JL flat (rid rs a) (rid rs b) s.2=JL flat (rid rs a) (rid rs b) s.2:=rfl
     conv at hgl=>rhs;unfold JL
     simp only[Gi]at hs;generalize jW s.2 ug=c at hc kc2 hgl;simp only[ints,ug,List.map]at hc;simp -dsimp[hbz,hb,ha,haz,Cj,L8,KW,Md,hM,aiY,hrt];and_intros;all_goals try first|omega|exact⟨by kernel_rfl⟩|rfl
     refine aF.of hc [.x 0] 0 ?_;rcases (au flat).symm with hfl|hfl
     ·simp only[hfl,bI,if_false]at hgl;have u1:=uZ c.2 1 20;have u2:=uY c.2 (a:=1) (b:=20) (by omega);have hu:=EN c.2 kc2 1 20 ⟨by omega,by omega⟩ ⟨by omega,by omega⟩ ⟨by omega,by omega⟩ ⟨by omega,by omega⟩;have ku:dW (kD c.2 1 20).2:=by simpa using kc2
      generalize kD c.2 1 20=u at hgl u1 u2 hu ku;have hv:=zS u.2 ku [1,2,3,u.1,1000] (by simp) (by simp);have kv:dW (jW u.2 [1,2,3,u.1,1000]).2:=by simpa using ku
      generalize jW u.2 [1,2,3,u.1,1000]=v at hgl hv kv;have w1:=uZ v.2 1 20;have w2:=uY v.2 (a:=1) (b:=20) (by omega);have hw:=EN v.2 kv 1 20 ⟨by omega,by omega⟩ ⟨by omega,by omega⟩ ⟨by omega,by omega⟩ ⟨by omega,by omega⟩;have kw:dW (kD v.2 1 20).2:=by simpa using kv
      generalize kD v.2 1 20=w at hgl w1 w2 hw kw;have hz:=zS w.2 kw [v.1,v.1,w.1] (by simp) (by simp);generalize jW w.2 [v.1,v.1,w.1]=z at hgl hz;simp only[ints,List.map]at hv hz;rw[hfl,hgl]at hs
      simp -dsimp[hfl];and_intros;all_goals try first|omega|exact⟨by kernel_rfl⟩|rfl
      refine aF.of hu [.x 0] 0 ?_;simp -dsimp;and_intros;all_goals try first|omega|exact⟨by kernel_rfl⟩|rfl
      refine aF.of hv [.x 0] 0 ?_;simp -dsimp;and_intros;all_goals try first|omega|exact⟨by kernel_rfl⟩|rfl
      refine aF.of hw [.x 0] 0 ?_;simp -dsimp;and_intros;all_goals try first|omega|exact⟨by kernel_rfl⟩|rfl
      refine aF.of hz [.x 0] 0 ?_;simp -dsimp[wrap_i64 (n:=(b:Int)+1) (by omega) (by omega)];and_intros;all_goals try first|omega|exact⟨by kernel_rfl⟩|rfl
      refine⟨⟨b+1,by omega⟩,GS.to ⟨?_,by simp⟩,by simp;omega⟩;refine Sub.sJ (fun j hj=>?_) ?_ (fun j hj=>?_) ?_
      ·simp[hj]
      ·simp[hs,pq,Lk.cs,hfl]
      ·simp
      ·simp[qX];intro j hj;omega
     ·simp only[hfl,if_true]at hgl;rw[hfl,hgl]at hs
      simp -dsimp[hfl,wrap_i64 (n:=(b:Int)+1) (by omega) (by omega)];and_intros;all_goals try first|omega|exact⟨by kernel_rfl⟩|rfl
      refine⟨⟨b+1,by omega⟩,GS.to ⟨?_,by simp⟩,by simp;omega⟩;refine Sub.sJ (fun j hj=>?_) ?_ (fun j hj=>?_) ?_
      ·simp[hj]
      ·simp[hs,pq,Lk.cs,hfl]
      ·simp
      ·simp[qX];intro j hj;omega
   ·have hbz :¬(b:Int)<n:=by omega
    obtain rfl:n=b:=by omega
    have hs:=ahI (flat:=flat) (rs:=rs) (M:=M2) (T:=T6) (n:=n) (a:=a);simp -dsimp[hbz,wrap_i64 (n:=(a:Int)+1) (by omega) (by omega)];and_intros;all_goals try first|omega|exact⟨by kernel_rfl⟩|rfl
    refine⟨⟨a+1,by omega⟩,GS.to ⟨?_,by simp⟩,by simp;omega⟩;refine Sub.sJ (fun j hj=>?_) ?_ (fun j hj=>?_) ?_
    ·simp[hj]
    ·simp[hs]
    ·simp
    ·simp[qX];intro j hj;omega
  ·have haz :¬(a:Int)<n:=by omega
   obtain rfl:n=a:=by omega
   simp -dsimp[haz];and_intros;all_goals try first|omega|exact⟨by kernel_rfl⟩|rfl
   refine Fin.box (.o 4) rfl ?_;simp -dsimp;and_intros;all_goals try first|omega|exact⟨by kernel_rfl⟩|rfl
   refine Fin.of ?_;simp[d_,hI,hI3,hI4,hI5,hI6,V4]
theorem ZY(g:bV)(hg:jE g=0)(h0:0<g.rs.length)(T:Tp):∀i:Nat,(lM g.rs T i).2.Pairwise (· < ·)∧∀x∈(lM g.rs T i).2,1≤x∧x≤99
 | 0=>by simp[lM]
 | i+1=>by
   obtain⟨h1,h2⟩:=ZY g hg h0 T i;have v2:=iR (lM g.rs T i).1 (n:=g.rs.length) (by omega);obtain⟨h3,h4⟩:=Ep (rid g.rs (bH (lM g.rs T i).1 g.rs.length).1.toNat) h1;refine⟨h3,fun x hx=>?_⟩;rcases (h4 x).1 hx with hx|rfl
   ·simp[*]
   ·have:=(gY hg).id (QK (rs:=g.rs) (i:=(bH (lM g.rs T i).1 g.rs.length).1.toNat) (by omega))
    trivial
theorem akL{r:Int}{L:List Int}(h:L.Pairwise (· < ·))(g:∀x∈L,1≤x∧x≤99):(DX r L).Pairwise (· < ·)∧(∀x∈DX r L,1≤x∧x≤99)∧r∉DX r L:=by
 refine⟨h.filter _,fun x hx=>g x (bG.1 hx).1,fun hr=>?_⟩;have:=(bG.1 hr).2
 simp_all
theorem aik{g:bV}(hg:jE g=0)(h0:0<g.rs.length){r:Int}(hr:1≤r∧r≤99)(T:Tp):(CX g.rs r T).1.length≤24∧(CX g.rs r T).1.Pairwise (· < ·)∧(∀x∈(CX g.rs r T).1,1≤x∧x≤99)∧¬(1<(CX g.rs r T).1.length∧r∈(CX g.rs r T).1):=by
 unfold CX;simp only;split
 ·simp[*]
 ·split
  ·simp
  ·have q2:=iR (bH T 4).2 (n:=2+1) (by omega);have hl:=yL g.rs (bH (bH T 4).2 (2+1)).2 (bH (bH T 4).2 (2+1)).1.toNat;obtain⟨h1,h2⟩:=ZY g hg h0 (bH (bH T 4).2 (2+1)).2 (bH (bH T 4).2 (2+1)).1.toNat;obtain⟨a1,a2,a3⟩:=akL (r:=r) h1 h2;refine⟨?_,a1,a2,fun h=>a3 h.2⟩
   have:(DX r (lM g.rs (bH (bH T 4).2 (2+1)).2 (bH (bH T 4).2 (2+1)).1.toNat).2).length≤_:=aQ _ _
   show(DX r (lM g.rs (bH (bH T 4).2 (2+1)).2 (bH (bH T 4).2 (2+1)).1.toNat).2).length≤24
   omega
theorem aiT{b:Tb}(h:chk b=0){j:Nat}{x:Rw}(hx:b.rows[j]? = some x){nx:List Int}(h1:nx.length≤24)(h2:nx.Pairwise (· < ·))(h3:∀y∈nx,1≤y∧y≤99)(h4 :¬(1<nx.length∧b.r∈nx)):chk ⟨b.r,b.sd,b.len,b.rows.set j ⟨x.id,nx⟩⟩ = 0:=by
 obtain⟨p1,p2,p3,p4⟩:=zG h;have hN:=Ea h;have hA:=acN h;have hxm:=bU hx;have hM:∀y∈b.rows.set j ⟨x.id,nx⟩,y∈b.rows∨y=⟨x.id,nx⟩:=by grind
 have ajf:(b.rows.set j ⟨x.id,nx⟩).map (·.id)=b.rows.map (·.id):=by
  rw[jy];refine iV fun i=>?_
  grind
 refine N_ ⟨p1.1,p1.2.1,?_⟩ ?_ ?_ ?_ ⟨?_,fun y hy=>?_⟩ ?_
 ·simp only[List.length_set];exact p1.2.2
 ·rintro⟨y,hy,ho⟩;rcases hM y hy with hy|rfl
  ·rcases ho with ho|⟨z,hz,ho⟩
   ·exact ho (hN y hy).1
   ·exact ho ((hN y hy).2 z hz)
  ·rcases ho with ho|⟨z,hz,ho⟩
   ·exact ho (hN x hxm).1
   ·exact ho (h3 z hz)
 ·simp[*]
 ·grind
 ·simp only[ajf];exact hA.1
 ·rcases hM y hy with hy|rfl
  ·exact hA.2 y hy
  omega
 grind
structure Gq(g:bV)(p:Pn)(l:List Tb):Prop where
 rs:l.map (·.r)=(tabs g p g.rs).map (·.r)
 ck:∀b∈l,chk b=0
 sd:∀b∈l,b.sd=p.gU∧b.len=p.len
theorem Gq.init{g:bV}(hg:jE g=0){p:Pn}(hp:iT p=true):Gq g p (tabs g p g.rs):=⟨rfl,Nr hg hp,ajU⟩
theorem Gq.step{g:bV}(hg:jE g=0)(h0:0<g.rs.length){p:Pn}{l:List Tb}(h:Gq g p l)(T:Tp):Gq g p (vT g.rs l T).1.1:=by
 unfold vT;split
 ·omega
 ·rename_i hl;have k1:=eX T l.length;have k2:=iR T (n:=l.length) (by omega);simp only;split
  ·omega
  ·rename_i hr;obtain⟨k,hk⟩:∃k:Nat,(bH T l.length).1=k:=⟨(bH T l.length).1.toNat,by omega⟩
   simp only[hk,dV]at hr⊢;have hkl:k<l.length:=by omega
   have hgd:l.getD k tb0=l[k]:=by rw[ak,ah hkl];rfl
   rw[hgd]at hr⊢
   have hbm:l[k]∈l:=aB hkl;have hb:=h.ck _ hbm;have hsd:=h.sd _ hbm;obtain⟨b,hb0⟩:∃b,l[k]=b:=⟨_,rfl⟩
   rw[hb0]at hr hb hsd hbm⊢
   have j1:=eX (bH T l.length).2 b.rows.length;have j2:=iR (bH T l.length).2 (n:=b.rows.length) (by omega);obtain⟨j,hj⟩:∃j:Nat,(bH (bH T l.length).2 b.rows.length).1=j:=⟨(bH (bH T l.length).2 b.rows.length).1.toNat,by omega⟩
   simp only[hj,dV];have hjl:j<b.rows.length:=by omega
   have hx:b.rows[j]? = some b.rows[j]:=ah hjl;have hxd:b.rows.getD j ⟨0,[]⟩ = b.rows[j]:=by rw[ak,hx];rfl
   rw[hxd];obtain⟨s1,s2,s3,s4⟩:=aik hg h0 (zG hb).1.1 (bH (bH T l.length).2 b.rows.length).2;have hnew:=aiT hb hx s1 s2 s3 s4;refine⟨?_,fun c hc=>?_,fun c hc=>?_⟩
   ·rw[←h.rs,jy];refine iV fun i=>?_
    rw[jY];split
    ·rename_i e;subst e;rw[if_pos (by simpa using hkl),bC,ah hkl,hb0];rfl
    ·rfl
   ·rcases jQ hc with hc|rfl
    ·exact h.ck c hc
    ·exact hnew
   ·rcases jQ hc with hc|rfl
    ·exact h.sd c hc
    ·exact hsd
theorem Gq.YA{g:bV}(hg:jE g=0){p:Pn}{l:List Tb}(h:Gq g p l):aaS p ((tabs g p g.rs).map (·.r)) l:=by
 have hl:l.length≤24:=by have:=congrArg List.length h.rs;simp only[aN]at this;rw[this];exact aY (CZ g p) (gY hg).nr
 refine⟨aiQ hl h.ck ?_ fun b hb c hc=>?_,h.ck,h.sd,fun r=>?_,hl⟩
 ·have h1:=UK (gY hg) p;have h2:((tabs g p g.rs).map (·.r)).Pairwise (· < ·):=by grind
  rw[←h.rs,dA]at h2
  omega
 ·have h1:=h.sd b hb;have h2:=h.sd c hc;omega
 ·rw[abr,h.rs]
def Qe(rs:List Rt)(l:List Tb)(T:Tp):Nat→List Tb×Tp
 | 0=>(l,T)
 | i+1=>let s:=Qe rs l T i;((vT rs s.1 s.2).1.1,(vT rs s.1 s.2).2)
@[simp]theorem ahK(rs:List Rt)(l:List Tb)(T:Tp):∀i:Nat,dW (Qe rs l T i).2=dW T
 | 0=>rfl
 | i+1=>by simp only[Qe,ail];exact ahK rs l T i
structure BH(g:bV)(p:Pn)(l:List Tb):Prop where
 ok:jE g=0
 cap:yu g
 n:1≤g.rs.length∧g.rs.length≤7
 plan:iT p=true
 len:p.len=0↔p.es = []
 val:p.len=0∨dQ p.len=true
 gU:0≤p.gU∧p.gU≤2
 es:p.es.length≤7
 tab:Gq g p l
@[simp]theorem am4(T:Tp)(most:Int):dW (Az T most).2=dW T:=by have e:(Az T most).2=(Ag (lu T most).flat (lu T most).rs (lu T most).M2 (lu T most).T4 (lu T most).n (lu T most).n 0).2:=rfl;rw[e,ahH];unfold lu;simp
end Go.Proofs
