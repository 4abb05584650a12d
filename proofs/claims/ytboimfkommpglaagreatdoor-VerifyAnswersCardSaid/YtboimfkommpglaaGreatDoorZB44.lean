/-
  What functions of the program compute, stated as contracts over plain data; the conditions of each stand in its own statement.
-/
import Derived.Test.YtboimfkommpglaaGreatDoorZB21
import Derived.Test.YtboimfkommpglaaGreatDoorZB43
import Derived.Test.YtboimfkommpglaaGreatDoorZB22
import Derived.Test.YtboimfkommpglaaGreatDoorZB18
import Derived.Test.YtboimfkommpglaaGreatDoorZB23
import Derived.Test.YtboimfkommpglaaGreatDoorZB24
import Derived.Test.YtboimfkommpglaaGreatDoorZB29
import Derived.Test.YtboimfkommpglaaGreatDoorZB11
import Derived.Shelf.SlGeneric
import Derived.Shelf.SortM.SortNone
import Derived.Shelf.SortM.Plain
import Derived.Shelf.SlicesG.CompactI
import Derived.Shelf.SlIterI.Nil
import Derived.Ground.GgzProg
import Derived.Ground.SlgmProg
import Derived.Test.YtboimfkommpglaaGreatDoorChecked
import Derived.Test.YtboimfkommpglaaGreatDoorZB30
set_option linter.unusedVariables false
set_option linter.unusedSimpArgs false
set_option maxRecDepth 100000
set_option maxHeartbeats 2000000
namespace Go.Proofs
open Go Go.Tr
theorem OY(l:List Int)(hl:l.length≤1000000)(n:Int):Contract Tryz.prog 141 [.d (ints l),.d (.int .i64 n)] [] (.d (ints (nT l n))) [] []:=by
 refine aC Tryz.func141 rfl (fun E0=>?_);refine iK.sound (g:=.mk) (ow:=[35]) (kp:=(kb 0x100040073)) ?_;rw[Tryz.ntmps141];simp -dsimp[ints]
 refine bY.of [] (kb 0x100040073) (ι:={p:Nat // p≤l.length∧insPos n l=p+insPos n (l.drop p)}) (fun z=>[(.s 0,It.v (.d (ints l))),(.s 1,It.v (.d (.int .i64 n))),(.s 4,It.v (.c (Value.slice none 0 0))),(.s 5,It.v (.d (.int .i64 z.1)))]) (fun z=>l.length-z.1) ⟨0,by omega,by simp⟩ ?_ ?_
 ·exact GS.to (by simp[ints])
 ·rintro⟨p,p1,p2⟩;by_cases hp:p<l.length
  ·have hd:l.drop p=l[p]::l.drop (p+1):=aU _;by_cases h:l[p]<n
   ·simp -dsimp[ints,hp,h,wrap_i64 (n:=(p:Int)+1) (by omega) (by omega)];try refine⟨?_,⟨by kernel_rfl⟩⟩
    exact⟨⟨p+1,by omega,by rw[p2,hd,insPos,if_pos h];omega⟩,GS.to (by simp[ints]),by simp;omega⟩
   ·have hq:insPos n l=p:=by rw[p2,hd,insPos,if_neg h];omega
    by_cases he:l[p]=n
    ·simp -dsimp[ints,hp,h,he];try refine⟨?_,⟨by kernel_rfl⟩⟩
     refine Fin.of ?_;have hI:nT l n=l:=by rw[nT,if_pos (by rw[hq,ah hp,he])]
     simp[hI]
    ·simp -dsimp[ints,hp,h,he];have dl:dLen 1 (l.map fun x=>[D.int .i64 x]):=mO 1 _ _ fun _=>rfl
     and_intros;all_goals try first|omega|exact⟨by kernel_rfl⟩|exact oP dl|exact xG (oP dl)|(simp;omega)
     refine Fin.view 4 ?_;simp -dsimp;and_intros;all_goals try first|omega|exact⟨by kernel_rfl⟩|(simp;omega)
     refine Fin.of ?_;have hI:nT l n=l.take p++[n]++l.drop p:=by rw[nT,hq,if_neg (by rw[ah hp];simpa using he)]
     simp[hI,ints,aW]
  ·have hq:insPos n l=p:=by rw[p2,dJ (by omega),insPos];omega
   simp -dsimp[ints,hp];have dl:dLen 1 (l.map fun x=>[D.int .i64 x]):=mO 1 _ _ fun _=>rfl
   and_intros;all_goals try first|omega|exact⟨by kernel_rfl⟩|exact oP dl|exact xG (oP dl)|(simp;omega)
   refine Fin.view 4 ?_;simp -dsimp;and_intros;all_goals try first|omega|exact⟨by kernel_rfl⟩|(simp;omega)
   refine Fin.of ?_;have hI:nT l n=l.take p++[n]++l.drop p:=by rw[nT,hq,if_neg (by rw[dK (by omega)];simp)]
   simp[hI,ints,aW]
set_option maxHeartbeats 4000000
theorem UH(T:Tp)(hT:dW T)(g:bV)(hg:0<g.rs.length∧g.rs.length≤100)(n:Int)(hn:0≤n∧n≤100):Contract Tryz.prog 126 [.ptr (.x 0) 0,d_ g,.d (.int .i64 n)] [iG T] (.d (ints (uK g.rs T n).1)) [iG (uK g.rs T n).2] []:=by
 refine aC Tryz.func126 rfl (fun E0=>?_);refine iK.sound (g:=.mk) (ow:=[]) (kp:=(kb 0x1001d7)) ?_;rw[Tryz.ntmps126];simp -dsimp[d_,wrap_i64 (n:=n+1) (by omega) (by omega)];try refine⟨?_,⟨by kernel_rfl⟩⟩
 refine aF.of (jR T hT (n+1) ⟨by omega,by omega⟩) [.x 0] 0 ?_;have kA:dW (bH T (n+1)).2:=by simpa using hT
 have a1:=eX T (n+1);have a2:=iR T (n:=n+1) (by omega);generalize hA:bH T (n+1)=a at kA a1 a2;obtain⟨m',T1⟩:=a;simp only at kA a1 a2;obtain⟨m,rfl⟩:∃m:Nat,m'=m:=⟨m'.toNat,by omega⟩
 have hgl:(0:Int)<g.rs.length:=by omega
 simp -dsimp[d_];refine bY.of [] (kb 0x1001d7) (ι:={i:Nat // i≤m})
  (fun z=>[(.s 0,It.v (.ptr (.x 0) 0)),(.s 2,It.v (.d (.int .i64 n))),(.o 4,It.box [TV.d (.sl (rts g.rs)),TV.d (.sl (pq g.ls))]),(.s 4,It.v (.ptr (.o 4) 0)),(.s 6,It.v (.c (Value.slice none 0 0))),(.x 0,iG (lM g.rs T1 z.1).1),(.s 7,It.v (.d (ints (lM g.rs T1 z.1).2))),(.s 8,It.v (.d (.int .i64 ((m:Int)-z.1))))])
  (fun z=>m-z.1) ⟨0,by omega⟩ ?_ ?_
 ·exact GS.Gm 7 (by simp[lM,ints])
 rintro⟨i,i1⟩;have kI:dW (lM g.rs T1 i).1:=by simpa using kA
 have hl:=yL g.rs T1 i;by_cases hi:i<m
 ·have hiz:(0:Int)<(m:Int)-i:=by omega
  have hp:=OY (lM g.rs T1 i).2 (by omega);have v1:=eX (lM g.rs T1 i).1 g.rs.length;have v2:=iR (lM g.rs T1 i).1 (n:=g.rs.length) (by omega);have hs:lM g.rs T1 (i+1)=((bH (lM g.rs T1 i).1 g.rs.length).2,nT (lM g.rs T1 i).2 (rid g.rs (bH (lM g.rs T1 i).1 g.rs.length).1.toNat)):=rfl
  have hc:=jR (lM g.rs T1 i).1 kI g.rs.length ⟨by omega,by omega⟩;generalize bH (lM g.rs T1 i).1 (g.rs.length:Int)=v at v1 v2 hs hc;obtain⟨k',T2⟩:=v;simp only at v1 v2 hs hc;obtain⟨k,rfl⟩:∃k:Nat,k'=k:=⟨k'.toNat,by omega⟩
  have hkr:g.rs[k]? = some (g.rs[k]'(by omega)):=ah (by omega);have Qd:rid g.rs k=(g.rs[k]'(by omega)).id:=by unfold rid;rw[ak,hkr];rfl
  rw[dV,Qd]at hs
  generalize g.rs[k]'(by omega)=x at hkr hs;simp -dsimp[hiz,hi,hgl,hg.1,d_,ints];and_intros;all_goals try first|omega|exact⟨by kernel_rfl⟩|rfl
  refine aF.of hc [.x 0] 0 ?_;simp -dsimp[hkr,rts,Rt.cs];and_intros;all_goals try first|omega|exact⟨by kernel_rfl⟩|rfl
  refine aF.of (hp x.id) [] 0 ?_;simp -dsimp[hkr,rts,Rt.cs,wrap_i64 (n:=(m:Int)-i-1) (by omega) (by omega)];and_intros;all_goals try first|omega|exact⟨by kernel_rfl⟩|rfl
  exact⟨⟨i+1,by omega⟩,GS.to (by simp[hs,ints,rts];omega),by simp;omega⟩
 have hiz :¬(0:Int)<(m:Int)-i:=by omega
 obtain rfl:i=m:=by omega
 simp -dsimp[hiz,hgl,hg.1];and_intros;all_goals try first|omega|exact⟨by kernel_rfl⟩|rfl
 refine Fin.of ?_;simp[uK,hA]
def y9(rs:List Rt)(T:Tp):Int×Tp:=
 let a:=bH T 40
 if a.1=39 then jW a.2 [0,98,100]else(let v:=bH a.2 rs.length;(rid rs v.1.toNat,v.2))
@[simp]theorem ai9(rs:List Rt)(T:Tp):dW (y9 rs T).2=dW T:=by unfold y9;simp only;split<;>simp
theorem WX(T:Tp)(hT:dW T)(g:bV)(hg:0<g.rs.length∧g.rs.length≤100):Contract Tryz.prog 67 [.ptr (.x 0) 0,d_ g] [iG T] (.d (.int .i64 (y9 g.rs T).1)) [iG (y9 g.rs T).2] []:=by
 refine aC Tryz.func67 rfl (fun E0=>?_);refine iK.sound (g:=.mk) (ow:=[]) (kp:=(kb 0x201b)) ?_;rw[Tryz.ntmps67];have hg0 :¬g.rs.length=0:=by omega
 have hgz :¬(g.rs.length:Int)=0:=by omega
 simp -dsimp[d_,hg0,hgz];try refine⟨?_,⟨by kernel_rfl⟩⟩
 refine aF.of (jR T hT 40 ⟨by omega,by omega⟩) [.x 0] 0 ?_;have kA:dW (bH T 40).2:=by simpa using hT
 have hG:y9 g.rs T=if(bH T 40).1=39 then jW (bH T 40).2 [0,98,100]else(rid g.rs (bH (bH T 40).2 g.rs.length).1.toNat,(bH (bH T 40).2 g.rs.length).2):=rfl
 rw[hG];generalize bH T 40=a at kA⊢;by_cases ha:a.1=39
 ·rw[if_pos ha];have hc:=zS a.2 kA [0,98,100] (by simp) (by simp);generalize jW a.2 [0,98,100]=w at hc⊢;simp only[ints,List.map]at hc;simp -dsimp[ha];and_intros;all_goals try first|omega|exact⟨by kernel_rfl⟩|rfl
  refine aF.of hc [.x 0] 0 ?_;simp -dsimp;and_intros;all_goals try first|omega|exact⟨by kernel_rfl⟩|rfl
  refine Fin.of ?_;simp
 ·rw[if_neg ha];have v1:=eX a.2 g.rs.length;have v2:=iR a.2 (n:=g.rs.length) (by omega);have hc:=jR a.2 kA g.rs.length ⟨by omega,by omega⟩;generalize bH a.2 (g.rs.length:Int)=v at v1 v2 hc⊢;obtain⟨k',T2⟩:=v;simp only at v1 v2 hc⊢;obtain⟨k,rfl⟩:∃k:Nat,k'=k:=⟨k'.toNat,by omega⟩
  have hkr:g.rs[k]? = some (g.rs[k]'(by omega)):=ah (by omega);have Qd:rid g.rs k=(g.rs[k]'(by omega)).id:=by unfold rid;rw[ak,hkr];rfl
  rw[dV,Qd];generalize g.rs[k]'(by omega)=x at hkr⊢;simp -dsimp[ha,d_];and_intros;all_goals try first|omega|exact⟨by kernel_rfl⟩|rfl
  refine aF.of hc [.x 0] 0 ?_;simp -dsimp[hkr,rts,Rt.cs];and_intros;all_goals try first|omega|exact⟨by kernel_rfl⟩|rfl
  refine Fin.of ?_;simp
set_option maxHeartbeats 8000000
theorem yS:∀l:List D,rJ (l.map TV.d)=some l
 | []=>rfl
 | x::l=>by simp[rJ,I_,yS l]
theorem jq:∀(xs:List (List D)) (j:Nat) {e:List TV} {y:List D},rJ e=some y→iH ((dd xs).set j e)=some (xs.set j y)
 | [],_,_,_,_=>rfl
 | x::xs,0,e,y,h=>by simp[Fq,iH,h,show iH (dd xs)=some xs from zu xs]
 | x::xs,j+1,e,y,h=>by have ih:=jq xs j h;simp[Fq,iH,ih,yS]
def Gj(F:List Int):TV:=match F with
 | []=>.c (.slice none 0 0)
 | x::F=>.bK 83 (x::F).length
def Gl(e:TypeId)(F:List Int):List (Pl×It):=match F with
 | []=>[]
 | x::F=>[(.o 83,It.row e 1 (dd (fE .i64 (x::F))) false)]
theorem gK{po:Nat→Prop}{es:List (List TV)}{k:Nat}{r:List TV}(h:m_ po es)(g:TV.uw po r):m_ po (es.set k r):=by
 intro e he;rcases jQ he with h1|rfl
 ·exact h e h1
 ·exact g
theorem Np(T:Tp)(hT:dW T)(g:bV)(hg:0<g.rs.length∧g.rs.length≤100)(l:List Tb)(hl:UY l):Contract Tryz.prog 55 [.ptr (.x 0) 0,.d (.sl (ig l)),d_ g] [iG T] (.sZ [.d (.sl (ig (vT g.rs l T).1.1)),.d (.int .i64 (vT g.rs l T).1.2.1),.d (.int .i64 (vT g.rs l T).1.2.2)]) [iG (vT g.rs l T).2] []:=by
 have hn:=hl.n;have dl:dLen 4 (ig l):=mO 4 _ _ fun _=>rfl
 refine aC Tryz.func55 rfl (fun E0=>?_);refine iK.sound (g:=.mk) (ow:=[15,37]) (kp:=(kb 0x20080080f2000000400105fe7)) ?_;rw[Tryz.ntmps55];by_cases h0:l.length=0
 ·have hnil:l = []:=dB.1 h0;have h0z:(l.length:Int)=0:=by omega
  have hS:vT g.rs l T=((l,0,0),T):=by unfold vT;rw[if_pos h0]
  rw[hS];subst hnil;simp -dsimp[d_,ig];and_intros;all_goals try first|omega|exact⟨by kernel_rfl⟩|rfl
  refine Fin.view 6 ?_;simp -dsimp;and_intros;all_goals try first|omega|exact⟨by kernel_rfl⟩|rfl
  refine Fin.of ?_;simp
 have h0z :¬(l.length:Int)=0:=by omega
 have hnil :¬l = []:=fun e=>h0 (by rw[e];rfl)
 have k1:=eX T l.length;have k2:=iR T (n:=l.length) (by omega);have hc:=jR T hT l.length ⟨by omega,by omega⟩;have kK:dW (bH T l.length).2:=by simpa using hT
 have hS:vT g.rs l T=if(l.getD (bH T l.length).1.toNat tb0).rows.length=0 then((l,0,0),(bH T l.length).2)else
  (let b:=l.getD (bH T l.length).1.toNat tb0
   let j:=bH (bH T l.length).2 b.rows.length
   let x:=b.rows.getD j.1.toNat ⟨0,[]⟩
   let s:=CX g.rs b.r j.2
   ((l.set (bH T l.length).1.toNat ⟨b.r,b.sd,b.len,b.rows.set j.1.toNat ⟨x.id,s.1⟩⟩,b.r,x.id),s.2)):=by
  rw[vT,if_neg h0]
 generalize bH T (l.length:Int)=K at k1 k2 hc kK hS;obtain⟨k',T1⟩:=K;simp only at k1 k2 hc kK hS;obtain⟨k,rfl⟩:∃k:Nat,k'=k:=⟨k'.toNat,by omega⟩
 simp only[dV]at hS;have hk:k<l.length:=by omega
 have hge:l[k]? = some l[k]:=ah hk;have hgd:l.getD k tb0=l[k]:=by rw[ak,hge];rfl
 have hbs:=hl.t l[k] (aB hk);rw[hgd]at hS
 obtain⟨b,hb0⟩:∃b,l[k]=b:=⟨_,rfl⟩
 rw[hb0]at hge hbs hS
 simp -dsimp[d_,h0,h0z,hnil];and_intros;all_goals try first|omega|exact⟨by kernel_rfl⟩|rfl|exact dl
 refine aF.of hc [.x 0] 0 ?_;have htl:(dd (ig l)).length=l.length:=by simp[dd,ig]
 have hat:∀h:k<(dd (ig l)).length,(dd (ig l))[k] = [TV.d (.int .i64 b.r),TV.d (.int .i64 b.sd),TV.d (.int .i64 b.len),TV.d (dZ b.rows)]:=fun h=>by simp[dd,ig,Tb.cs,hb0]
 by_cases hr0:b.rows.length=0
 ·rw[if_pos hr0]at hS
  rw[hS];simp -dsimp[hk,hge,hb0,hr0,htl,hat,uz,dB.1 hr0];and_intros;all_goals try first|omega|exact⟨by kernel_rfl⟩|rfl
  refine Fin.view 6 ?_;simp -dsimp;and_intros;all_goals try first|omega|exact⟨by kernel_rfl⟩|rfl
  refine Fin.of ?_;simp
 rw[if_neg hr0]at hS
 have ZA :¬b.rows = []:=fun e=>hr0 (by rw[e];rfl)
 have hrl:=hbs.rows;have dl2:dLen 2 (rws b.rows):=mO 2 _ _ fun _=>rfl
 have j1:=eX T1 b.rows.length;have j2:=iR T1 (n:=b.rows.length) (by omega);have hd:=jR T1 kK b.rows.length ⟨by omega,by omega⟩;have kJ:dW (bH T1 b.rows.length).2:=by simpa using kK
 try simp only at hS
 generalize bH T1 (b.rows.length:Int)=J at j1 j2 hd kJ hS;obtain⟨j',T2⟩:=J;simp only at j1 j2 hd kJ hS;obtain⟨j,rfl⟩:∃j:Nat,j'=j:=⟨j'.toNat,by omega⟩
 simp only[dV]at hS;have hj:j<b.rows.length:=by omega
 obtain⟨x,hx0⟩:∃x,b.rows[j]=x:=⟨_,rfl⟩
 have hxd:b.rows.getD j ⟨0,[]⟩ = x:=by rw[ak,ah hj,hx0];rfl
 rw[hxd]at hS
 have Em:∀h:j<(dd (rws b.rows)).length,(dd (rws b.rows))[j] = [TV.d (.int .i64 x.id),TV.d (ints x.nx)]:=fun h=>by simp[dd,rws,Rw.cs,hx0]
 have hrl2:(dd (rws b.rows)).length=b.rows.length:=by simp[dd,rws]
 simp -dsimp[hk,hge,hb0,hr0,ZA,htl,hat,uz];and_intros;all_goals try first|omega|exact⟨by kernel_rfl⟩|rfl|exact dl2
 refine aF.of hd [.x 0] 0 ?_;have hN:CX g.rs b.r T2=if(bH T2 4).1=0 then([b.r],(bH T2 4).2)else if(bH T2 4).1=1 then([],(bH T2 4).2)else(DX b.r (uK g.rs (bH T2 4).2 2).1,(uK g.rs (bH T2 4).2 2).2):=rfl
 have h4:=jR T2 kJ 4 ⟨by omega,by omega⟩;have kS:dW (bH T2 4).2:=by simpa using kJ
 generalize bH T2 4=S at h4 kS hN;simp -dsimp[hk,hj,Em,hrl2,htl,hr0];and_intros;all_goals try first|omega|exact⟨by kernel_rfl⟩|rfl
 refine aF.of h4 [.x 0] 0 ?_;by_cases s0:S.1=0
 ·rw[if_pos s0]at hN
  rw[hN]at hS
  rw[hS];simp -dsimp[s0,hk,hj,Em,hrl2,htl];and_intros;all_goals try first|omega|exact⟨by kernel_rfl⟩|rfl
  refine Fin.wH 15 k 3 37 (e0:=65) (k0:=4) (es0:=(dd (ig l)).set k [TV.d (.int .i64 b.r),TV.d (.int .i64 b.sd),TV.d (.int .i64 b.len),TV.bK 37 b.rows.length]) (NJ:=false) (r:=[TV.d (.int .i64 b.r),TV.d (.int .i64 b.sd),TV.d (.int .i64 b.len),TV.bK 37 b.rows.length]) (n:=b.rows.length) (e:=167) (k:=2) (es:=(dd (rws b.rows)).set j [TV.d (.int .i64 x.id),TV.d (ints [b.r])]) (sh:=false) (xs:=(rws b.rows).set j [D.int .i64 x.id,ints [b.r]]) (by simp) (by omega) (by simp[hk,htl]) (by simp) (by simp[ints]) (by simp[hrl2]) (jq _ _ (by simp[rJ,I_,ints])) ?_
  have hx2:iH ((dd (ig l)).set k [TV.d (.int .i64 b.r),TV.d (.int .i64 b.sd),TV.d (.int .i64 b.len),TV.d (.sl ((rws b.rows).set j [D.int .i64 x.id,ints [b.r]]))])=some ((ig l).set k [D.int .i64 b.r,D.int .i64 b.sd,D.int .i64 b.len,D.sl ((rws b.rows).set j [D.int .i64 x.id,ints [b.r]])]):=jq _ _ (by simp[rJ,I_]);simp only[ints,aH,dY]at hx2;refine Fin.view 6 ?_
  simp -dsimp[hx2,htl,ints];and_intros;all_goals try first|omega|exact⟨by kernel_rfl⟩|rfl
  refine Fin.of ?_;simp[ig,Tb.cs,dZ,rws,Rw.cs,ints,jy]
 rw[if_neg s0]at hN
 by_cases s1:S.1=1
 ·rw[if_pos s1]at hN
  rw[hN]at hS
  rw[hS];simp -dsimp[s0,s1,hk,hj,Em,hrl2,htl];and_intros;all_goals try first|omega|exact⟨by kernel_rfl⟩|rfl
  refine Fin.wH 15 k 3 37 (e0:=65) (k0:=4) (es0:=(dd (ig l)).set k [TV.d (.int .i64 b.r),TV.d (.int .i64 b.sd),TV.d (.int .i64 b.len),TV.bK 37 b.rows.length]) (NJ:=false) (r:=[TV.d (.int .i64 b.r),TV.d (.int .i64 b.sd),TV.d (.int .i64 b.len),TV.bK 37 b.rows.length]) (n:=b.rows.length) (e:=167) (k:=2) (es:=(dd (rws b.rows)).set j [TV.d (.int .i64 x.id),TV.c (Value.slice none 0 0)]) (sh:=false) (xs:=(rws b.rows).set j [D.int .i64 x.id,ints []]) (by simp) (by omega) (by simp[hk,htl]) (by simp) (by simp[ints]) (by simp[hrl2]) (jq _ _ (by simp[rJ,I_,ints])) ?_
  have hx2:iH ((dd (ig l)).set k [TV.d (.int .i64 b.r),TV.d (.int .i64 b.sd),TV.d (.int .i64 b.len),TV.d (.sl ((rws b.rows).set j [D.int .i64 x.id,ints []]))])=some ((ig l).set k [D.int .i64 b.r,D.int .i64 b.sd,D.int .i64 b.len,D.sl ((rws b.rows).set j [D.int .i64 x.id,ints []])]):=jq _ _ (by simp[rJ,I_]);simp only[ints,aH,dY]at hx2;refine Fin.view 6 ?_
  simp -dsimp[hx2,htl,ints];and_intros;all_goals try first|omega|exact⟨by kernel_rfl⟩|rfl
  refine Fin.of ?_;simp[ig,Tb.cs,dZ,rws,Rw.cs,ints,jy]
 rw[if_neg s1]at hN
 rw[hN]at hS
 rw[hS];have hSo:=UH S.2 kS g hg 2 (by omega);simp only[d_]at hSo;have hUl:(uK g.rs S.2 2).1.length≤1000:=by have q1:=iR S.2 (n:=2+1) (by omega);have q2:=yL g.rs (bH S.2 (2+1)).2 (bH S.2 (2+1)).1.toNat;have:(uK g.rs S.2 2).1.length≤(bH S.2 (2+1)).1.toNat:=q2;omega
 generalize uK g.rs S.2 2=U at hSo hUl⊢;obtain⟨U,T5⟩:=U;simp only at hSo hUl⊢;simp -dsimp[s0,s1,hk,hj,Em,hrl2,htl];and_intros;all_goals try first|omega|exact⟨by kernel_rfl⟩|rfl
 refine aF.of hSo [.x 0] 0 ?_;simp -dsimp[ints];and_intros;all_goals try first|omega|exact⟨by kernel_rfl⟩|rfl
 refine bY.of [15,37] (kb 0x20080080f2000000400105fe7) (ι:={i:Nat // i≤U.length})
  (fun z=>(.s 0,It.v (.ptr (.x 0) 0))::(.x 0,iG T5)::(.s 6,It.v (.c (Value.slice none 0 0)))::(.s 9,It.v (.bK 15 l.length))::(.s 11,It.v (.tV 15 l.length k 0))::(.s 12,It.v (.tV 37 b.rows.length j 0))::(.s 64,It.v (.d (ints U)))::(.s 65,It.v (.d (.int .i64 U.length)))::(.s 66,It.v (.d (.int .i64 z.1))) ::
   (.o 15,It.row 65 4 ((dd (ig l)).set k [TV.d (.int .i64 b.r),TV.d (.int .i64 b.sd),TV.d (.int .i64 b.len),TV.bK 37 b.rows.length]) false)::(.o 37,It.row 167 2 ((dd (rws b.rows)).set j [TV.d (.int .i64 x.id),Gj (DX b.r (U.take z.1))]) false)::Gl 3 (DX b.r (U.take z.1)))
  (fun z=>U.length-z.1) ⟨0,by omega⟩ ?_ ?_
 ·exact GS.to (by simp[Gj,Gl,ints,DX];exact⟨gK (by simp) (by simp),gK (by simp) (by simp)⟩)
 rintro⟨i,i1⟩;by_cases hi:i<U.length
 ·have hiz:(i:Int)<U.length:=by omega
  have hgu:U[i]? = some U[i]:=ah hi;obtain⟨u,hu0⟩:∃u,U[i]=u:=⟨_,rfl⟩
  rw[hu0]at hgu
  have Qb:(DX b.r (U.take i)).length≤i:=aY (aQ _ _) (by rw[bF];omega);have hF:DX b.r (U.take (i+1))=DX b.r (U.take i)++if u=b.r then []else [u]:=by rw[aO,hgu,DX,bJ];by_cases e:u=b.r<;>simp[e,DX]
  by_cases hub:u=b.r
  ·rw[if_pos hub,aZ]at hF
   generalize DX b.r (U.take i)=F at Qb hF⊢;cases F with
   | nil=>
     simp -dsimp[hi,hiz,hgu,hu0,hub,hk,hj,htl,hrl2,ints,Gj,Gl,wrap_i64 (n:=(i:Int)+1) (by omega) (by omega)];and_intros;all_goals try first|omega|exact⟨by kernel_rfl⟩|rfl|exact hu0|(simp at Qb;omega)
     exact⟨⟨i+1,by omega⟩,GS.to (by simp[hF,Gj,Gl,ints,fE];exact⟨gK (by simp) (by simp),gK (by simp) (by simp)⟩),by simp;omega⟩
   | cons f F=>
     simp -dsimp[hi,hiz,hgu,hu0,hub,hk,hj,htl,hrl2,ints,Gj,Gl,wrap_i64 (n:=(i:Int)+1) (by omega) (by omega)];and_intros;all_goals try first|omega|exact⟨by kernel_rfl⟩|rfl|exact hu0|(simp at Qb;omega)
     exact⟨⟨i+1,by omega⟩,GS.to (by simp[hF,Gj,Gl,ints,fE];exact⟨gK (by simp) (by simp),gK (by simp) (by simp)⟩),by simp;omega⟩
  ·rw[if_neg hub]at hF
   generalize DX b.r (U.take i)=F at Qb hF⊢;cases F with
   | nil=>
     simp -dsimp[hi,hiz,hgu,hu0,hub,hk,hj,htl,hrl2,ints,Gj,Gl,wrap_i64 (n:=(i:Int)+1) (by omega) (by omega)];and_intros;all_goals try first|omega|exact⟨by kernel_rfl⟩|rfl|exact hu0|(simp at Qb;omega)
     exact⟨⟨i+1,by omega⟩,GS.to (by simp[hF,Gj,Gl,ints,fE];exact⟨gK (by simp) (by simp),gK (by simp) (by simp)⟩),by simp;omega⟩
   | cons f F=>
     simp -dsimp[hi,hiz,hgu,hu0,hub,hk,hj,htl,hrl2,ints,Gj,Gl,wrap_i64 (n:=(i:Int)+1) (by omega) (by omega)];and_intros;all_goals try first|omega|exact⟨by kernel_rfl⟩|rfl|exact hu0|(simp at Qb;omega)
     exact⟨⟨i+1,by omega⟩,GS.to (by simp[hF,Gj,Gl,ints,fE];exact⟨gK (by simp) (by simp),gK (by simp) (by simp)⟩),by simp;omega⟩
 ·have hiz :¬(i:Int)<U.length:=by omega
  obtain rfl:i=U.length:=by omega
  rw[bP];generalize DX b.r U=F;cases F with
  | nil=>
    simp -dsimp[hiz,hk,hj,Em,hrl2,htl,Gj,Gl];and_intros;all_goals try first|omega|exact⟨by kernel_rfl⟩|rfl
    refine Fin.wH 15 k 3 37 (e0:=65) (k0:=4) (es0:=(dd (ig l)).set k [TV.d (.int .i64 b.r),TV.d (.int .i64 b.sd),TV.d (.int .i64 b.len),TV.bK 37 b.rows.length]) (NJ:=false) (r:=[TV.d (.int .i64 b.r),TV.d (.int .i64 b.sd),TV.d (.int .i64 b.len),TV.bK 37 b.rows.length]) (n:=b.rows.length) (e:=167) (k:=2) (es:=(dd (rws b.rows)).set j [TV.d (.int .i64 x.id),TV.c (Value.slice none 0 0)]) (sh:=false) (xs:=(rws b.rows).set j [D.int .i64 x.id,ints []]) (by simp) (by omega) (by simp[hk,htl]) (by simp) (by simp[ints]) (by simp[hrl2]) (jq _ _ (by simp[rJ,I_,ints])) ?_
    have hx2:iH ((dd (ig l)).set k [TV.d (.int .i64 b.r),TV.d (.int .i64 b.sd),TV.d (.int .i64 b.len),TV.d (.sl ((rws b.rows).set j [D.int .i64 x.id,ints []]))])=some ((ig l).set k [D.int .i64 b.r,D.int .i64 b.sd,D.int .i64 b.len,D.sl ((rws b.rows).set j [D.int .i64 x.id,ints []])]):=jq _ _ (by simp[rJ,I_]);simp only[ints,aH,dY]at hx2;refine Fin.view 6 ?_
    simp -dsimp[hx2,htl,ints];and_intros;all_goals try first|omega|exact⟨by kernel_rfl⟩|rfl
    refine Fin.of ?_;simp[ig,Tb.cs,dZ,rws,Rw.cs,ints,jy]
  | cons f F=>
    simp -dsimp[hiz,hk,hj,Em,hrl2,htl,Gj,Gl];and_intros;all_goals try first|omega|exact⟨by kernel_rfl⟩|rfl
    refine Fin.wH 37 j 1 83 (e0:=167) (k0:=2) (es0:=(dd (rws b.rows)).set j [TV.d (.int .i64 x.id),TV.bK 83 (f::F).length]) (NJ:=false) (r:=[TV.d (.int .i64 x.id),TV.bK 83 (f::F).length]) (n:=(f::F).length) (e:=3) (k:=1) (es:=dd (fE .i64 (f::F))) (sh:=false) (xs:=fE .i64 (f::F)) (by simp) (by omega) (by simp[hj,hrl2]) (by simp) (by simp[fE]) (by simp[fE]) (zu _) ?_
    simp -dsimp[fE]
    refine Fin.wH 15 k 3 37 (e0:=65) (k0:=4) (es0:=(dd (ig l)).set k [TV.d (.int .i64 b.r),TV.d (.int .i64 b.sd),TV.d (.int .i64 b.len),TV.bK 37 b.rows.length]) (NJ:=false) (r:=[TV.d (.int .i64 b.r),TV.d (.int .i64 b.sd),TV.d (.int .i64 b.len),TV.bK 37 b.rows.length]) (n:=b.rows.length) (e:=167) (k:=2) (es:=(dd (rws b.rows)).set j [TV.d (.int .i64 x.id),TV.d (ints (f::F))]) (sh:=false) (xs:=(rws b.rows).set j [D.int .i64 x.id,ints (f::F)]) (by simp) (by omega) (by simp[hk,htl]) (by simp) (by simp[ints]) (by simp[hrl2]) (jq _ _ (by simp[rJ,I_,ints])) ?_
    have hx2:iH ((dd (ig l)).set k [TV.d (.int .i64 b.r),TV.d (.int .i64 b.sd),TV.d (.int .i64 b.len),TV.d (.sl ((rws b.rows).set j [D.int .i64 x.id,ints (f::F)]))])=some ((ig l).set k [D.int .i64 b.r,D.int .i64 b.sd,D.int .i64 b.len,D.sl ((rws b.rows).set j [D.int .i64 x.id,ints (f::F)])]):=jq _ _ (by simp[rJ,I_]);simp only[ints,aH,dY]at hx2
    refine Fin.view 6 ?_;simp -dsimp[hx2,htl,ints];and_intros;all_goals try first|omega|exact⟨by kernel_rfl⟩|rfl
    refine Fin.of ?_;simp[ig,Tb.cs,dZ,rws,Rw.cs,ints,jy]
set_option linter.unusedVariables false
theorem H8{p:Pn}(h:iT p=true){e:Ed}(he:e∈p.es):1≤e.id∧e.id≤256:=by
 simp only[iT,decide_eq_true_eq]at h;obtain⟨_,h2,_⟩:=h;obtain⟨i,hi,rfl⟩:=cu.1 he;have h3:=h2 i hi;have e:gid p.es i=p.es[i].id:=by grind[gid,List.getElem?_eq_getElem]
 simp only[Oc,inB,aP,decide_eq_true_eq]at h3;omega
theorem Lj(l:List Tb)(id pl:Int):∀(t:Nat) (r:Int),(jM l id pl t r).2.2≤t
 | 0,r=>by grind[jM]
 | t+1,r=>by
   rw[jM];cases iq l r with
   | none=>simp
   | some b=>
     have:=Lj l id pl t (qc b id pl)
     grind
section
variable {l:List Tb} {p:Pk} {r:Int}
end
end Go.Proofs

set_option linter.unusedVariables false
set_option maxHeartbeats 4000000
namespace Go.Proofs
open Go Go.Tr
theorem Yt(l:List Tb)(hl:Good l)(p:Pk)(r:Int):Contract Tryz.prog 44 [.d (.sl (ig l)),mM p,.d (.int .i64 r)] [] (.sZ [C9 (oh l p r).1,.d (.int .i64 (oh l p r).2)]) [] []:=by
 rcases hl with hl|⟨hb,hA⟩
 ·exact Yr l hl p r
 have hck:=wW l hb;have hR:oh l p r=(o_,1):=by unfold oh;rw[if_pos (.inl hA)]
 have hfi:Contract Tryz.prog 118 [.d (.sl (ig l)),mM p,.d (.int .i64 r)] [] (.d (.int .i64 1)) [] []:=by
  refine aC Tryz.func118 rfl (fun E0=>?_);refine iK.sound (g:=.mk) (ow:=[]) (kp:=(kb 0x80090101d7)) ?_;rw[Tryz.ntmps118];simp -dsimp[mM,Pk.cs];try refine⟨?_,⟨by kernel_rfl⟩⟩
  refine aF.of hck [] 0 ?_;simp -dsimp[hA];try refine⟨?_,⟨by kernel_rfl⟩⟩
  refine Fin.of ?_;simp
 rw[hR];simp only[mM,Pk.cs,List.map]at hfi;refine aC Tryz.func44 rfl (fun E0=>?_);refine iK.sound (g:=.mk) (ow:=[29,1000119]) (kp:=(kb 0x10000020041ffd7)) ?_;rw[Tryz.ntmps44];simp -dsimp[mM,Pk.cs];try refine⟨?_,⟨by kernel_rfl⟩⟩
 refine aF.of hfi [] 0 ?_;simp -dsimp;try refine⟨?_,⟨by kernel_rfl⟩⟩
 refine Fin.box (.o 6) rfl ?_;simp -dsimp;refine Fin.of ?_;simp[C9,o_]
set_option maxHeartbeats 8000000
theorem EL(p:Int):Contract Tryz.prog 131 [.d (.int .i64 p)] [] (.d (.bool (inB p 0 7))) [] []:=by
 refine aC Tryz.func131 rfl (fun E0=>?_);refine iK.sound (g:=.mk) (ow:=[]) (kp:=(kb 5)) ?_;rw[Tryz.ntmps131];by_cases h:0≤p
 ·simp -dsimp[h];refine Fin.of ?_;simp[inB,h];omega
 ·simp -dsimp[h];refine Fin.of ?_;simp[inB,h]
theorem Hy(b:Tb)(hb:b.Sm)(id p:Int):Contract Tryz.prog 57 [gQ b,.d (.int .i64 id),.d (.int .i64 p)] [] (.d (.int .i64 (jo b id p))) [] []:=by
 refine aC Tryz.func57 rfl (fun E0=>?_);refine iK.sound (g:=.mk) (ow:=[]) (kp:=(kb 0x404f)) ?_;rw[Tryz.ntmps57];simp -dsimp[gQ];refine aF.of (D9 b hb.rows hb.nx) [] 0 ?_;by_cases h0:chk b=0
 ·simp -dsimp[gQ,h0];refine aF.of (EL p) [] 0 ?_;by_cases hp:0≤p∧p≤7
  ·have e:inB p 0 7=true:=by simp[inB,hp]
   have hv:Ar b p 0=true:=qw.2 ⟨h0,hp,by omega,by omega⟩;simp -dsimp[gQ,h0,e];and_intros;all_goals try first|rfl|omega|exact⟨by kernel_rfl⟩
   refine aF.of (zO b hb id p hp) [] 0 ?_;simp -dsimp[gQ];and_intros;all_goals try first|rfl|omega|exact⟨by kernel_rfl⟩
   refine Fin.of ?_;simp[jo,hv]
  ·have e:inB p 0 7=false:=by
    cases h:inB p 0 7
    ·rfl
    ·exact absurd (by simpa[inB]using h) hp
   have hv :¬Ar b p 0=true:=fun h=>hp (qw.1 h).2.1
   simp -dsimp[gQ,h0,e];and_intros;all_goals try first|rfl|omega|exact⟨by kernel_rfl⟩
   refine Fin.of ?_;simp[jo,hv]
 ·have hv :¬Ar b p 0=true:=fun h=>h0 (qw.1 h).1
  simp -dsimp[gQ,h0];and_intros;all_goals try first|rfl|omega|exact⟨by kernel_rfl⟩
  refine Fin.of ?_;simp[jo,hv]
def jS(l:List An):List An:=l.filter fun a=>decide (a.kd=1)
def jF(l:List An)(id:Int):List An:=(jS l).filter fun a=>decide (a.id=id)
def oz(l:List An):List Int:=(jS l).foldl (fun s a=>nT s a.id) []
def BP(p:Pn)(ids:List Int)(l:List An):List (List Int):=
 (ids.filter fun id=>!decide (id∈oz l)).map (fun id=>[1,own p id,id,0]) ++
 (((oz l).filter fun id=>!decide (id∈ids)).map (fun id=>[2,((jF l id).getD 0 ⟨0,0,0,0⟩).rt,id,0]) ++
 (((oz l).filter fun id=>decide (1<(jF l id).length)).map (fun id=>[3,((jF l id).getD 1 ⟨0,0,0,0⟩).rt,id,((jF l id).length:Int)]) ++
 ((jS l).filter fun a=>decide (a.rt≠own p a.id)).map (fun a=>[4,own p a.id,a.id,a.rt])))
theorem Du(l:List An):oz l=((jS l).map (·.id)).foldl nT []:=by simp[oz,List.foldl_map]
theorem sK{l:List An}{x:Int}:x∈oz l↔x∈(jS l).map (·.id):=by simp[Du,wO]
end Go.Proofs

namespace Go.Proofs
open Go.Shelf
def Tryz.yJ:Go.Shelf.Ren:=⟨fun|7=>138|10=>214|n=>n,fun|23=>146|26=>3|3=>22|28=>199|0=>0|27=>198|33=>37|4=>4|n=>n,fun|n=>n⟩
theorem Tryz.PD:Go.Proofs.SlLaysZI.n7 Tryz.prog Tryz.yJ:={
 mixed:=by kernel_rfl
 f7:=⟨Tryz.f138.name,by decide,Tryz.func138.trans (congrArg some (by kernel_rfl))⟩
 f10:=⟨Tryz.f214.name,by decide,Tryz.func214.trans (congrArg some (by kernel_rfl))⟩
 t0:=Tryz.underlying0
 a0:=Tryz.isAgg0
 z0:=Tryz.sizeOf0
 v0:=Tryz.zeroValue0
 t4:=Tryz.underlying4
 a4:=Tryz.isAgg4
 z4:=Tryz.sizeOf4
 v4:=Tryz.zeroValue4
 t23:=Tryz.underlying146
 a23:=Tryz.isAgg146
 z23:=Tryz.sizeOf146
 v23:=Tryz.zeroValue146
 t26:=Tryz.underlying3
 a26:=Tryz.isAgg3
 z26:=Tryz.sizeOf3
 v26:=Tryz.zeroValue3
 t27:=Tryz.underlying198
 a27:=Tryz.isAgg198
 z27:=Tryz.sizeOf198
 v27:=Tryz.zeroValue198
 t28:=Tryz.underlying199
 a28:=Tryz.isAgg199
 z28:=Tryz.sizeOf199
 v28:=Tryz.zeroValue199
 t33:=Tryz.underlying37
 a33:=Tryz.isAgg37
 z33:=Tryz.sizeOf37
 v33:=Tryz.zeroValue37}
def Tryz.vK:Go.Shelf.Ren:=⟨fun|6=>137|8=>212|9=>213|11=>247|13=>249|12=>248|23=>268|24=>269|14=>259|15=>260|16=>261|17=>262|18=>263|19=>264|20=>265|21=>266|22=>267|25=>280|26=>281|27=>282|28=>283|29=>284|30=>254|31=>296|n=>n,fun|26=>3|28=>199|24=>22|0=>0|3=>3|37=>193|48=>290|50=>23|4=>4|40=>284|39=>283|45=>93|5=>5|9=>9|51=>302|55=>306|57=>315|58=>316|33=>37|n=>n,fun|n=>n⟩
theorem Tryz.LY:Go.Proofs.SlLaysZI.n6 Tryz.prog Tryz.vK:={
 mixed:=by kernel_rfl
 f6:=⟨Tryz.f137.name,by decide,Tryz.func137.trans (congrArg some (by kernel_rfl))⟩
 f8:=⟨Tryz.f212.name,by decide,Tryz.func212.trans (congrArg some (by kernel_rfl))⟩
 f11:=⟨Tryz.f247.name,by decide,Tryz.func247.trans (congrArg some (by kernel_rfl))⟩
 t0:=Tryz.underlying0
 a0:=Tryz.isAgg0
 z0:=Tryz.sizeOf0
 v0:=Tryz.zeroValue0
 t24:=Tryz.underlying22
 a24:=Tryz.isAgg22
 z24:=Tryz.sizeOf22
 v24:=Tryz.zeroValue22
 t26:=Tryz.underlying3
 a26:=Tryz.isAgg3
 z26:=Tryz.sizeOf3
 v26:=Tryz.zeroValue3
 t28:=Tryz.underlying199
 a28:=Tryz.isAgg199
 z28:=Tryz.sizeOf199
 v28:=Tryz.zeroValue199
 i26:=by kernel_rfl}
open Go.Tr
end Go.Proofs

set_option maxHeartbeats 16000000
namespace Go.Proofs
open Go Go.Tr
theorem and1(B:BitVec 64)(i:Nat):B>>>i&&&1#64=if B.getLsbD i=true then 1#64 else 0#64:=by rw[iU,mP,lW];cases B.getLsbD i<;>decide
def fD(k:Nat)(a:Int×Int×Int)(d:Int×Pk):Int×Int×Int:=if d.2.bits.getLsbD k=true then(1,d.1,d.2.ttl)else a
def fL(k:Nat)(a:Int×Int×Int)(x:Int×BitVec 64):Int×Int×Int:=if x.2.getLsbD k=true then(a.1,x.1,a.2.2)else a
def acg(U:uN)(k:Nat):Int×Int×Int:=U.ls.foldl (fL k) (U.dl.foldl (fD k) (2,0,0))
theorem Yj{l:List Tb}{p:Pk}(hF:uU l p)(r:Int){k:Nat}(hk:k<64)(hb:p.bits.getLsbD k=true):
  acg (lK l (wt p) [(r,p)] o_) k=(JR (jM l (lT p k) (lN p) p.ttl.toNat r),(jM l (lT p k) (lN p) p.ttl.toNat r).2.1,ltE (jM l (lT p k) (lN p) p.ttl.toNat r)):=by
 have hW:=Ik hF r hk hb;have h1:∀(L:List (Int×Pk)) (a:Int×Int×Int),L.foldl (fD k) a=(L.filter fun d=>d.2.bits.getLsbD k).foldl (fun _ d=>(1,d.1,d.2.ttl)) a:=fun L a=>by rw[uF];rfl
 have h2:∀(L:List (Int×BitVec 64)) (a:Int×Int×Int),L.foldl (fL k) a=(L.filter fun x=>x.2.getLsbD k).foldl (fun a x=>(a.1,x.1,a.2.2)) a:=fun L a=>by rw[uF];rfl
 unfold acg;rw[h1,h2];have hd:((lK l (wt p) [(r,p)] o_).dl.filter fun d=>d.2.bits.getLsbD k)=((lK l (wt p) [(r,p)] o_).at k).dl:=rfl;have hs:((lK l (wt p) [(r,p)] o_).ls.filter fun x=>x.2.getLsbD k)=((lK l (wt p) [(r,p)] o_).at k).ls:=rfl;rw[hd,hs];have ht:=yB hF.ok;have hle:=Lj l (lT p k) (lN p) p.ttl.toNat r
 generalize jM l (lT p k) (lN p) p.ttl.toNat r=E at hW hle⊢;cases he:E.1 with
 | true=>obtain⟨a1,a2⟩:=hW.yes he;rw[a1,a2];simp only[cO,rD,JR,ltE,he,if_true,pkD,aK,true_and];omega
 | false=>obtain⟨a1,B,a2⟩:=hW.no he;rw[a1,a2];simp[JR,ltE,he]
def pJ(B:BitVec 64)(i:Nat):List Nat:=(List.range i).filter fun k=>B.getLsbD k
theorem NW{B:BitVec 64}{i:Nat}(h:B.getLsbD i=true):pJ B (i+1)=pJ B i++[i]:=by unfold pJ;rw[je,bJ];simp[h]
theorem Rf{B:BitVec 64}{i:Nat}(h:B.getLsbD i=false):pJ B (i+1)=pJ B i:=by unfold pJ;rw[je,bJ];simp[h]
theorem NV(B:BitVec 64)(i:Nat):(pJ B i).length≤i:=aY (aQ _ _) (by simp)
theorem UG(l:List Tb)(hl:Good l)(p:Pk)(r:Int):Contract Tryz.prog 135 [.d (.sl (ig l)),mM p,.d (.int .i64 r)] [] (.sZ [.d (.sl (oW (Iu l p r).1)),.d (.int .i64 (Iu l p r).2)]) [] []:=by
 have h1:=Yt l hl p r;have hfit:=UA (l:=l) (p:=p) (r:=r);have hsm:=O5 l p r;have hS:Iu l p r=if(oh l p r).2≠0 then([],(oh l p r).2)else if p.mode≠3 then([],7)else if yF p=true then(KH l p r,0)else([],2):=rfl
 rw[hS];simp only[mM,Pk.cs,List.map,C9]at h1;refine aC Tryz.func135 rfl (fun E0=>?_);refine iK.sound (g:=.mk) (ow:=[10]) (kp:=(kb 0x201e00401e20040288057fd7)) ?_;rw[Tryz.ntmps135];simp -dsimp[mM,Pk.cs]
 try refine⟨?_,⟨by kernel_rfl⟩⟩
 refine aF.of h1 [] 0 ?_;by_cases he :¬(oh l p r).2=0
 ·rw[if_pos he];simp -dsimp[he];and_intros;all_goals try first|omega|exact⟨by kernel_rfl⟩|rfl
  refine Fin.view 6 ?_;simp -dsimp;and_intros;all_goals try first|omega|exact⟨by kernel_rfl⟩|rfl
  refine Fin.of ?_;simp[oW]
 have he:(oh l p r).2=0:=Decidable.not_not.1 he;rw[if_neg (fun h=>h he)];by_cases hm :¬p.mode=3
 ·rw[if_pos hm];simp -dsimp[he,hm];and_intros;all_goals try first|omega|exact⟨by kernel_rfl⟩|rfl
  refine Fin.view 6 ?_;simp -dsimp;and_intros;all_goals try first|omega|exact⟨by kernel_rfl⟩|rfl
  refine Fin.of ?_;simp[oW]
 have hm:p.mode=3:=Decidable.not_not.1 hm;rw[if_neg (fun h=>h hm)];obtain⟨hF,hs,hR⟩:=hfit he;rw[hR]at hsm⊢
 have hrA:=fun {k:Nat} (hk:k<64) (hb:p.bits.getLsbD k=true)=>Yj hF r hk hb
 have akX:KH l p r=(pJ p.bits 64).map (zV l p r):=rfl;rw[akX];simp -dsimp[he,hm,hR];and_intros;all_goals try first|omega|exact⟨by kernel_rfl⟩|rfl
 generalize lK l (wt p) [(r,p)] o_=U at hsm hrA;simp only at hsm;refine bY.of [10] (kb 0x201e00401e20040288057fd7) (ι:={i:Nat // i≤64∧∀k∈pJ p.bits i,Au p.set k p.len=true})
  (fun z=>[(.o 4,It.box (p.cs.map .d)),(.s 4,It.v (.ptr (.o 4) 0)),(.s 6,It.v (.c (Value.slice none 0 0))),(.s 7,It.v (.d (.int .i64 0))),(.o 8,It.box [TV.d (.sl (U.dl.map uH)),TV.d (.sl (U.cr.map yH)),TV.d (.sl (U.ls.map Bq))]),(.s 8,It.v (.ptr (.o 8) 0)),(.s 10,It.v (.bK 10 ((pJ p.bits z.1).map (zV l p r)).length)),(.o 10,It.row 120 4 (dd (oW ((pJ p.bits z.1).map (zV l p r)))) false),(.s 11,It.v (.d (.int .i64 z.1)))])
  (fun z=>64-z.1) ⟨0,by omega,by simp[pJ]⟩ ?_ ?_
 ·exact GS.own' (k:=10) 120 4 (by simp) (by simp) (by simp[pJ,oW,Pk.cs,hm])
 rintro⟨i,i1,i2⟩;have hbl:=NV p.bits i;by_cases hi:i<64
 ·have hiz:(i:Int)<64:=by omega
  have ha1:=and1 p.bits i;cases hb:p.bits.getLsbD i with
  | false=>
    rw[if_neg (by simp[hb])]at ha1
    have hs2:=Rf hb;simp -dsimp[hi,hiz,ha1,Pk.cs,bv,wrap_u64 (n:=(i:Int)) (by omega) (by omega),wrap_i64 (n:=(i:Int)+1) (by omega) (by omega)];and_intros;all_goals try first|omega|exact⟨by kernel_rfl⟩|rfl
    exact⟨⟨i+1,by omega,by rw[hs2];exact i2⟩,GS.to (by simp[hs2,Pk.cs,bv]),by simp;omega⟩
  | true=>
    rw[if_pos hb]at ha1
    have hs2:=NW hb;have hat:=Jv p.set i p.len;simp only[Gx]at hat;have hrk:=hrA hi hb;simp -dsimp[hi,hiz,ha1,Pk.cs,bv,wrap_u64 (n:=(i:Int)) (by omega) (by omega)];and_intros;all_goals try first|omega|exact⟨by kernel_rfl⟩|rfl
    refine aF.of hat [] 0 ?_;rcases (au (Au p.set i p.len)).symm with hA|hA
    ·have hno :¬yF p=true:=fun h=>by
      have:=dN.1 h i (nP.2 ⟨hi,hb⟩);rw[hA]at this;simp at this
     rw[if_neg hno];simp -dsimp[hA];and_intros;all_goals try first|omega|exact⟨by kernel_rfl⟩|rfl
     refine Fin.view 6 ?_;simp -dsimp;and_intros;all_goals try first|omega|exact⟨by kernel_rfl⟩|rfl
     refine Fin.of ?_;simp[oW]
    ·have hid:lT p i=p.set*p.len+(i:Int)+1:=by unfold lT;rw[if_pos hA]
     simp -dsimp[hA];and_intros;all_goals try first|omega|exact⟨by kernel_rfl⟩|rfl
     refine bY.of [10] (kb 0x201e00401e20040288057fd7) (ι:={j:Nat // j≤U.dl.length})
      (fun z=>[(.o 4,It.box (p.cs.map .d)),(.s 4,It.v (.ptr (.o 4) 0)),(.s 6,It.v (.c (Value.slice none 0 0))),(.s 7,It.v (.d (.int .i64 0))),(.o 8,It.box [TV.d (.sl (U.dl.map uH)),TV.d (.sl (U.cr.map yH)),TV.d (.sl (U.ls.map Bq))]),(.s 8,It.v (.ptr (.o 8) 0)),(.s 10,It.v (.bK 10 ((pJ p.bits i).map (zV l p r)).length)),(.o 10,It.row 120 4 (dd (oW ((pJ p.bits i).map (zV l p r)))) false),(.s 11,It.v (.d (.int .i64 i))),(.o 14,It.box [TV.d (.int .i64 ((U.dl.take z.1).foldl (fD i) (2,0,0)).1),TV.d (.int .i64 ((U.dl.take z.1).foldl (fD i) (2,0,0)).2.1),TV.d (.int .i64 (lT p i)),TV.d (.int .i64 ((U.dl.take z.1).foldl (fD i) (2,0,0)).2.2)]),(.s 14,It.v (.ptr (.o 14) 0)),(.s 57,It.v (.d (.sl (U.dl.map uH)))),(.s 58,It.v (.d (.int .i64 U.dl.length))),(.s 59,It.v (.d (.int .i64 z.1)))])
      (fun z=>U.dl.length-z.1) ⟨0,by omega⟩ ?_ ?_
     ·exact GS.to (by simp[Pk.cs,bv,hid])
     rintro⟨j,j1⟩;by_cases hj:j<U.dl.length
     ·have hjz:(j:Int)<U.dl.length:=by omega
      have hge:U.dl[j]? = some U.dl[j]:=ah hj;obtain⟨d,hd0⟩:∃d,U.dl[j]=d:=⟨_,rfl⟩
      rw[hd0]at hge
      have hst:(U.dl.take (j+1)).foldl (fD i) (2,0,0)=fD i ((U.dl.take j).foldl (fD i) (2,0,0)) d:=by rw[aO,hge,g_];rfl
      have ha2:=and1 d.2.bits i;generalize (U.dl.take j).foldl (fD i) (2,0,0)=a at hst;cases hdb:d.2.bits.getLsbD i with
      | false=>
        rw[if_neg (by simp[hdb])]at ha2
        have hst2:fD i a d=a:=by unfold fD;rw[if_neg (by simp[hdb])]
        rw[hst2]at hst
        simp -dsimp[hj,hjz,hge,hd0,uH,Pk.cs,bv,ha2,wrap_u64 (n:=(i:Int)) (by omega) (by omega),wrap_i64 (n:=(j:Int)+1) (by omega) (by omega)];and_intros;all_goals try first|omega|exact⟨by kernel_rfl⟩|rfl
        exact⟨⟨j+1,by omega⟩,GS.to (by simp[hst,Pk.cs,bv]),by simp;omega⟩
      | true=>
        rw[if_pos hdb]at ha2
        have hst2:fD i a d=(1,d.1,d.2.ttl):=by unfold fD;rw[if_pos hdb]
        rw[hst2]at hst
        simp -dsimp[hj,hjz,hge,hd0,uH,Pk.cs,bv,ha2,wrap_u64 (n:=(i:Int)) (by omega) (by omega),wrap_i64 (n:=(j:Int)+1) (by omega) (by omega)];and_intros;all_goals try first|omega|exact⟨by kernel_rfl⟩|rfl
        exact⟨⟨j+1,by omega⟩,GS.to (by simp[hst,Pk.cs,bv]),by simp;omega⟩
     have hjz :¬(j:Int)<U.dl.length:=by omega
     obtain rfl:j=U.dl.length:=by omega
     simp only[bP];unfold acg at hrk;generalize U.dl.foldl (fD i) (2,0,0)=a at hrk;simp -dsimp[hjz];and_intros;all_goals try first|omega|exact⟨by kernel_rfl⟩|rfl
     refine bY.of [10] (kb 0x201e00401e20040288057fd7) (ι:={j:Nat // j≤U.ls.length})
      (fun z=>[(.o 4,It.box (p.cs.map .d)),(.s 4,It.v (.ptr (.o 4) 0)),(.s 6,It.v (.c (Value.slice none 0 0))),(.s 7,It.v (.d (.int .i64 0))),(.o 8,It.box [TV.d (.sl (U.dl.map uH)),TV.d (.sl (U.cr.map yH)),TV.d (.sl (U.ls.map Bq))]),(.s 8,It.v (.ptr (.o 8) 0)),(.s 10,It.v (.bK 10 ((pJ p.bits i).map (zV l p r)).length)),(.o 10,It.row 120 4 (dd (oW ((pJ p.bits i).map (zV l p r)))) false),(.s 11,It.v (.d (.int .i64 i))),(.o 14,It.box [TV.d (.int .i64 ((U.ls.take z.1).foldl (fL i) a).1),TV.d (.int .i64 ((U.ls.take z.1).foldl (fL i) a).2.1),TV.d (.int .i64 (lT p i)),TV.d (.int .i64 ((U.ls.take z.1).foldl (fL i) a).2.2)]),(.s 14,It.v (.ptr (.o 14) 0)),(.s 81,It.v (.d (.sl (U.ls.map Bq)))),(.s 82,It.v (.d (.int .i64 U.ls.length))),(.s 83,It.v (.d (.int .i64 z.1)))])
      (fun z=>U.ls.length-z.1) ⟨0,by omega⟩ ?_ ?_
     ·exact GS.to (by simp[Pk.cs,bv])
     rintro⟨j,j1⟩;by_cases hj:j<U.ls.length
     ·have hjz:(j:Int)<U.ls.length:=by omega
      have hge:U.ls[j]? = some U.ls[j]:=ah hj;obtain⟨d,hd0⟩:∃d,U.ls[j]=d:=⟨_,rfl⟩
      rw[hd0]at hge
      have hst:(U.ls.take (j+1)).foldl (fL i) a=fL i ((U.ls.take j).foldl (fL i) a) d:=by rw[aO,hge,g_];rfl
      have ha2:=and1 d.2 i;generalize (U.ls.take j).foldl (fL i) a=a' at hst;cases hdb:d.2.getLsbD i with
      | false=>
        rw[if_neg (by simp[hdb])]at ha2
        have hst2:fL i a' d=a':=by unfold fL;rw[if_neg (by simp[hdb])]
        rw[hst2]at hst
        simp -dsimp[hj,hjz,hge,hd0,Bq,bv,ha2,wrap_u64 (n:=(i:Int)) (by omega) (by omega),wrap_i64 (n:=(j:Int)+1) (by omega) (by omega)];and_intros;all_goals try first|omega|exact⟨by kernel_rfl⟩|rfl
        exact⟨⟨j+1,by omega⟩,GS.to (by simp[hst,Pk.cs,bv]),by simp;omega⟩
      | true=>
        rw[if_pos hdb]at ha2
        have hst2:fL i a' d=(a'.1,d.1,a'.2.2):=by unfold fL;rw[if_pos hdb]
        rw[hst2]at hst
        simp -dsimp[hj,hjz,hge,hd0,Bq,bv,ha2,wrap_u64 (n:=(i:Int)) (by omega) (by omega),wrap_i64 (n:=(j:Int)+1) (by omega) (by omega)];and_intros;all_goals try first|omega|exact⟨by kernel_rfl⟩|rfl
        exact⟨⟨j+1,by omega⟩,GS.to (by simp[hst,Pk.cs,bv]),by simp;omega⟩
     have hjz :¬(j:Int)<U.ls.length:=by omega
     obtain rfl:j=U.ls.length:=by omega
     simp only[bP,hrk];have hak:zV l p r i = [JR (jM l (lT p i) (lN p) p.ttl.toNat r),(jM l (lT p i) (lN p) p.ttl.toNat r).2.1,lT p i,ltE (jM l (lT p i) (lN p) p.ttl.toNat r)]:=KG _ _;generalize jM l (lT p i) (lN p) p.ttl.toNat r=E at hak;have hil:(oW ((pJ p.bits i).map (zV l p r))).length=(pJ p.bits i).length:=by simp[oW]
     simp -dsimp[hjz,hil,wrap_i64 (n:=(i:Int)+1) (by omega) (by omega)];and_intros;all_goals try first|omega|exact⟨by kernel_rfl⟩|rfl|(simp[oW];done)|(simp[oW];omega)
     exact⟨⟨i+1,by omega,fun k hk=>by
      rw[hs2]at hk
      rcases aJ.1 hk with hk|hk
      ·exact i2 k hk
      ·obtain rfl:=bn.1 hk;exact hA⟩,GS.to (by simp[hs2,hak,oW,Pk.cs,bv]),by simp;omega⟩
 have hiz :¬(i:Int)<64:=by omega
 obtain rfl:i=64:=by omega
 have hA:yF p=true:=dN.2 fun k hk=>i2 k hk
 rw[if_pos hA];simp -dsimp[hiz];and_intros;all_goals try first|omega|exact⟨by kernel_rfl⟩|rfl
 refine Fin.view 6 ?_;simp -dsimp;and_intros;all_goals try first|omega|exact⟨by kernel_rfl⟩|rfl|(simp[oW];done)
 refine Fin.of ?_;simp[oW]
end Go.Proofs
