/-
  What functions of the program compute, stated as contracts over plain data; the conditions of each stand in its own statement.
-/
import Derived.Test.YtboimfkommpglaaGreatDoorZB10
import Derived.Test.YtboimfkommpglaaGreatDoorZB05
import Derived.KernelRfl
import Derived.Test.YtboimfkommpglaaGreatDoorChecked
import Derived.Test.YtboimfkommpglaaGreatDoorZB13
import Derived.Test.YtboimfkommpglaaGreatDoorZB15
import Derived.Test.YtboimfkommpglaaGreatDoorZB14
import Derived.Test.YtboimfkommpglaaGreatDoorZB16
import Derived.Test.YtboimfkommpglaaGreatDoorZB21
import Derived.Test.YtboimfkommpglaaGreatDoorZB22
import Derived.Test.YtboimfkommpglaaGreatDoorZB18
import Derived.Test.YtboimfkommpglaaGreatDoorZB24
import Derived.Test.YtboimfkommpglaaGreatDoorZB30
import Derived.Test.YtboimfkommpglaaGreatDoorZB31
set_option linter.unusedVariables false
set_option linter.unusedSimpArgs false
namespace Go.Proofs
open Go Go.Tr
@[simp]theorem Zf:wL Tryz.prog 113 0=some (0,3):=by kernel_rfl
@[simp]theorem Zg:wL Tryz.prog 113 1=some (1,3):=by kernel_rfl
@[simp]theorem Zh:wL Tryz.prog 113 2=some (2,3):=by kernel_rfl
@[simp]theorem agL:dP Tryz.prog 55=true:=by kernel_rfl
@[simp]theorem agM:dP Tryz.prog 57=true:=by kernel_rfl
end Go.Proofs

set_option linter.unusedSimpArgs false
namespace Go.Tr
open Go
section
variable {A:jL}
end
theorem jq{es:List (List TV)}{xs:List (List D)}{k:Nat}{r:List TV}{x:List D}(h:iH es=some xs)(hr:rJ r=some x):iH (es.set k r)=some (xs.set k x):=by
 induction es generalizing xs k with
 | nil=>simp_all
 | cons e es ih=>
   simp only[iH]at h;split at h
   ·rename_i x' xs' h1 h2;simp only[aj]at h;subst h;cases k with
    | zero=>simp only[List.set_cons_zero,iH,hr,h2]
    | succ k=>simp only[List.set_cons_succ,iH,h1,ih h2]
   trivial
end Go.Tr

set_option maxRecDepth 100000
set_option maxHeartbeats 4000000
namespace Go.Proofs
open Go Go.Tr
section
variable {b:Tb}
end
theorem D9(b:Tb)(hb:b.rows.length≤1000000)(hn:∀x∈b.rows,x.nx.length≤1000000):Contract Tryz.prog 130 [gQ b] [] (.d (.int .i64 (chk b))) [] []:=Fh b (aY hb (by decide)) (fun x hx=>aY (hn x hx) (by decide))
end Go.Proofs

namespace Go.Proofs
open Go Go.Tr
theorem F5(b:Tb)(hb:b.rows.length≤1000000)(hn:∀x∈b.rows,x.nx.length≤1000000)(id:Int):Contract Tryz.prog 207 [gQ b,.d (.int .i64 id)] [] (rowT (rowOf b id)) [] []:=by
 refine aC Tryz.func207 rfl (fun E0=>?_);refine iK.sound (g:=.mk) (ow:=[]) (kp:=(kb 0x200877)) ?_;rw[Tryz.ntmps207];simp -dsimp[gQ,dZ];refine bY.of [] (kb 0x200877) (ι:={i:Nat // i≤b.rows.length∧∀a,a<i→∀x,b.rows[a]? = some x→decide (x.id=id)=false})
  (fun z=>[(.s 1,It.v (.d (.int .i64 id))),(.o 2,It.box [TV.d (.int .i64 b.r),TV.d (.int .i64 b.sd),TV.d (.int .i64 b.len),TV.d (dZ b.rows)]),(.s 2,It.v (.ptr (.o 2) 0)),(.o 4,It.box [TV.d (.int .i64 0),TV.c (Value.slice none 0 0)]),(.s 4,It.v (.ptr (.o 4) 0)),(.s 5,It.v (.d (.bool false))),(.s 6,It.v (.d (.int .i64 z.1)))]) (fun z=>b.rows.length-z.1) ⟨0,by omega,fun a h=>by omega⟩ ?_ ?_
 ·simp[GS.to,dZ]
 ·rintro⟨i,i1,i2⟩;by_cases hi:i<b.rows.length
  ·have hiz:(i:Int)<b.rows.length:=by omega
   have hg:b.rows[i]? = some b.rows[i]:=ah hi;have hx:=hn _ (aB hi);generalize b.rows[i]=x at hg hx;by_cases c1:x.id=id
   ·simp -dsimp[dZ,hg,hiz,Rw.cs,eq_true c1];and_intros;all_goals try first|rfl|omega|exact⟨by kernel_rfl⟩
    refine Fin.of ?_;simp[rowT,rowOf,Ih hg (by simpa using c1) i2,Bl,c1]
   ·simp -dsimp[dZ,hg,hiz,Rw.cs,c1,wrap_i64 (n:=(i:Int)+1) (by omega) (by omega)];and_intros;all_goals try first|rfl|omega|exact⟨by kernel_rfl⟩
    exact⟨⟨i+1,by omega,fun a ha y hy=>by
     by_cases e:a=i
     ·subst e;rw[hg]at hy;simp only[aj]at hy;subst hy;simpa using c1
     ·exact i2 a (by omega) y hy⟩,GS.to (by simp[dZ]),by simp;omega⟩
  ·have hiz :¬(i:Int)<b.rows.length:=by omega
   simp -dsimp[dZ,hiz];refine Fin.box (.o 4) rfl ?_;simp -dsimp;refine Fin.of ?_;simp[rowT,rowOf,Ii (q:=fun x=>decide (x.id=id)) (fun a ha=>i2 a (by omega)),Bl,ints]
theorem zO(b:Tb)(hb:b.Sm)(id p:Int)(hp:0≤p∧p≤7):Contract Tryz.prog 132 [gQ b,.d (.int .i64 id),.d (.int .i64 p)] [] (.d (.int .i64 (qc b id p))) [] []:=by
 refine aC Tryz.func132 rfl (fun E0=>?_);refine iK.sound (g:=.mk) (ow:=[]) (kp:=(kb 0x4001cf)) ?_;rw[Tryz.ntmps132];simp -dsimp[gQ];refine aF.of (F5 b hb.rows hb.nx id) [] 0 ?_;have hl:=ER hb id;unfold qc;cases hr:rowOf b id with
 | none=>
   simp -dsimp[gQ,rowT,Bl,hr];and_intros;all_goals try first|rfl|omega|exact⟨by kernel_rfl⟩
   refine Fin.of ?_;simp[tH]
 | some x=>
   rw[hr]at hl
   simp only[bf]at hl⊢;by_cases h0:x.nx.length=0
   ·have h0z:(x.nx.length:Int)=0:=by omega
    simp -dsimp[gQ,rowT,Bl,hr,ints,h0,h0z];and_intros;all_goals try first|rfl|omega|exact⟨by kernel_rfl⟩
    refine Fin.of ?_;simp[tH,h0]
   ·have h0z :¬(x.nx.length:Int)=0:=by omega
    have e:p.tmod x.nx.length=p%x.nx.length:=iw hp.1;have m1:=jP p (b:=(x.nx.length:Int)) (by omega);have m2:=iL p (b:=(x.nx.length:Int)) (by omega);have hlt:(p%x.nx.length).toNat<x.nx.length:=by omega
    have hg:x.nx[(p%x.nx.length).toNat]? = some x.nx[(p%x.nx.length).toNat]:=ah hlt;simp -dsimp[gQ,rowT,Bl,hr,ints,h0,h0z,e,hg];and_intros;all_goals try first|rfl|omega|exact⟨by kernel_rfl⟩
    refine Fin.of ?_;simp[tH,h0,hg]
theorem OY(l:List Int)(hl:l.length≤1000000)(n:Int):Contract Tryz.prog 141 [.d (ints l),.d (.int .i64 n)] [] (.d (ints (nT l n))) [] []:=by
 refine aC Tryz.func141 rfl (fun E0=>?_);refine iK.sound (g:=.mk) (ow:=[35]) (kp:=(kb 0x100040073)) ?_;rw[Tryz.ntmps141];simp -dsimp[ints]
 refine bY.of [] (kb 0x100040073) (ι:={p:Nat // p≤l.length∧insPos n l=p+insPos n (l.drop p)}) (fun z=>[(.s 0,It.v (.d (ints l))),(.s 1,It.v (.d (.int .i64 n))),(.s 4,It.v (.c (Value.slice none 0 0))),(.s 5,It.v (.d (.int .i64 z.1)))]) (fun z=>l.length-z.1) ⟨0,by omega,by simp⟩ ?_ ?_
 ·exact GS.to (by simp[ints])
 ·rintro⟨p,p1,p2⟩;by_cases hp:p<l.length
  ·have hd:l.drop p=l[p]::l.drop (p+1):=aU _;by_cases h:l[p]<n
   ·simp -dsimp[ints,hp,h,wrap_i64 (n:=(p:Int)+1) (by omega) (by omega)];try refine⟨?_,⟨by kernel_rfl⟩⟩
    exact⟨⟨p+1,by omega,by rw[p2,hd,insPos,if_pos h];omega⟩,GS.to (by simp[ints]),by simp;omega⟩
   ·have hq:insPos n l=p:=by rw[p2,hd,insPos,if_neg h];omega
    by_cases he:l[p]=n
    ·simp -dsimp[ints,hp,h,he];try refine⟨?_,⟨by kernel_rfl⟩⟩
     refine Fin.of ?_;have hI:nT l n=l:=by rw[nT,if_pos (by rw[hq,ah hp,he])]
     simp[hI]
    ·simp -dsimp[ints,hp,h,he];have dl:dLen 1 (l.map fun x=>[D.int .i64 x]):=mO 1 _ _ fun _=>rfl
     and_intros;all_goals try first|omega|exact⟨by kernel_rfl⟩|exact oP dl|exact xG (oP dl)|(simp;omega)
     refine Fin.view 4 ?_;simp -dsimp;and_intros;all_goals try first|omega|exact⟨by kernel_rfl⟩|(simp;omega)
     refine Fin.of ?_;have hI:nT l n=l.take p++[n]++l.drop p:=by rw[nT,hq,if_neg (by rw[ah hp];simpa using he)]
     simp[hI,ints,aW]
  ·have hq:insPos n l=p:=by rw[p2,dJ (by omega),insPos];omega
   simp -dsimp[ints,hp];have dl:dLen 1 (l.map fun x=>[D.int .i64 x]):=mO 1 _ _ fun _=>rfl
   and_intros;all_goals try first|omega|exact⟨by kernel_rfl⟩|exact oP dl|exact xG (oP dl)|(simp;omega)
   refine Fin.view 4 ?_;simp -dsimp;and_intros;all_goals try first|omega|exact⟨by kernel_rfl⟩|(simp;omega)
   refine Fin.of ?_;have hI:nT l n=l.take p++[n]++l.drop p:=by rw[nT,hq,if_neg (by rw[dK (by omega)];simp)]
   simp[hI,ints,aW]
theorem UH(T:Tp)(hT:dW T)(g:bV)(hg:0<g.rs.length∧g.rs.length≤100)(n:Int)(hn:0≤n∧n≤100):Contract Tryz.prog 126 [.ptr (.x 0) 0,d_ g,.d (.int .i64 n)] [iG T] (.d (ints (uK g.rs T n).1)) [iG (uK g.rs T n).2] []:=by
 refine aC Tryz.func126 rfl (fun E0=>?_);refine iK.sound (g:=.mk) (ow:=[]) (kp:=(kb 0x1001d7)) ?_;rw[Tryz.ntmps126];simp -dsimp[d_,wrap_i64 (n:=n+1) (by omega) (by omega)];try refine⟨?_,⟨by kernel_rfl⟩⟩
 refine aF.of (jR T hT (n+1) ⟨by omega,by omega⟩) [.x 0] 0 ?_;have kA:dW (bH T (n+1)).2:=by simpa using hT
 have a1:=eX T (n+1);have a2:=iR T (n:=n+1) (by omega);generalize hA:bH T (n+1)=a at kA a1 a2;obtain⟨m',T1⟩:=a;simp only at kA a1 a2;obtain⟨m,rfl⟩:∃m:Nat,m'=m:=⟨m'.toNat,by omega⟩
 have hgl:(0:Int)<g.rs.length:=by omega
 simp -dsimp[d_];refine bY.of [] (kb 0x1001d7) (ι:={i:Nat // i≤m})
  (fun z=>[(.s 0,It.v (.ptr (.x 0) 0)),(.s 2,It.v (.d (.int .i64 n))),(.o 4,It.box [TV.d (.sl (rts g.rs)),TV.d (.sl (pq g.ls))]),(.s 4,It.v (.ptr (.o 4) 0)),(.s 6,It.v (.c (Value.slice none 0 0))),(.x 0,iG (lM g.rs T1 z.1).1),(.s 7,It.v (.d (ints (lM g.rs T1 z.1).2))),(.s 8,It.v (.d (.int .i64 ((m:Int)-z.1))))])
  (fun z=>m-z.1) ⟨0,by omega⟩ ?_ ?_
 ·exact GS.Gm 7 (by simp[lM,ints])
 rintro⟨i,i1⟩;have kI:dW (lM g.rs T1 i).1:=by simpa using kA
 have hl:=yL g.rs T1 i;by_cases hi:i<m
 ·have hiz:(0:Int)<(m:Int)-i:=by omega
  have hp:=OY (lM g.rs T1 i).2 (by omega);have v1:=eX (lM g.rs T1 i).1 g.rs.length;have v2:=iR (lM g.rs T1 i).1 (n:=g.rs.length) (by omega);have hs:lM g.rs T1 (i+1)=((bH (lM g.rs T1 i).1 g.rs.length).2,nT (lM g.rs T1 i).2 (rid g.rs (bH (lM g.rs T1 i).1 g.rs.length).1.toNat)):=rfl
  have hc:=jR (lM g.rs T1 i).1 kI g.rs.length ⟨by omega,by omega⟩;generalize bH (lM g.rs T1 i).1 (g.rs.length:Int)=v at v1 v2 hs hc;obtain⟨k',T2⟩:=v;simp only at v1 v2 hs hc;obtain⟨k,rfl⟩:∃k:Nat,k'=k:=⟨k'.toNat,by omega⟩
  have hkr:g.rs[k]? = some (g.rs[k]'(by omega)):=ah (by omega);have Qd:rid g.rs k=(g.rs[k]'(by omega)).id:=by unfold rid;rw[ak,hkr];rfl
  rw[dV,Qd]at hs
  generalize g.rs[k]'(by omega)=x at hkr hs;simp -dsimp[hiz,hi,hgl,hg.1,d_,ints];and_intros;all_goals try first|omega|exact⟨by kernel_rfl⟩|rfl
  refine aF.of hc [.x 0] 0 ?_;simp -dsimp[hkr,rts,Rt.cs];and_intros;all_goals try first|omega|exact⟨by kernel_rfl⟩|rfl
  refine aF.of (hp x.id) [] 0 ?_;simp -dsimp[hkr,rts,Rt.cs,wrap_i64 (n:=(m:Int)-i-1) (by omega) (by omega)];and_intros;all_goals try first|omega|exact⟨by kernel_rfl⟩|rfl
  exact⟨⟨i+1,by omega⟩,GS.to (by simp[hs,ints,rts];omega),by simp;omega⟩
 have hiz :¬(0:Int)<(m:Int)-i:=by omega
 obtain rfl:i=m:=by omega
 simp -dsimp[hiz,hgl,hg.1];and_intros;all_goals try first|omega|exact⟨by kernel_rfl⟩|rfl
 refine Fin.of ?_;simp[uK,hA]
set_option maxHeartbeats 8000000
theorem yS:∀l:List D,rJ (l.map TV.d)=some l
 | []=>rfl
 | x::l=>by simp[rJ,I_,yS l]
theorem jq:∀(xs:List (List D)) (j:Nat) {e:List TV} {y:List D},rJ e=some y→iH ((dd xs).set j e)=some (xs.set j y)
 | [],_,_,_,_=>rfl
 | x::xs,0,e,y,h=>by simp[Fq,iH,h,show iH (dd xs)=some xs from zu xs]
 | x::xs,j+1,e,y,h=>by have ih:=jq xs j h;simp[Fq,iH,ih,yS]
def Gj(F:List Int):TV:=match F with
 | []=>.c (.slice none 0 0)
 | x::F=>.bK 83 (x::F).length
def Gl(e:TypeId)(F:List Int):List (Pl×It):=match F with
 | []=>[]
 | x::F=>[(.o 83,It.row e 1 (dd (fE .i64 (x::F))) false)]
theorem gK{po:Nat→Prop}{es:List (List TV)}{k:Nat}{r:List TV}(h:m_ po es)(g:TV.uw po r):m_ po (es.set k r):=by
 intro e he;rcases jQ he with h1|rfl
 ·exact h e h1
 ·exact g
theorem Np(T:Tp)(hT:dW T)(g:bV)(hg:0<g.rs.length∧g.rs.length≤100)(l:List Tb)(hl:UY l):Contract Tryz.prog 55 [.ptr (.x 0) 0,.d (.sl (ig l)),d_ g] [iG T] (.sZ [.d (.sl (ig (vT g.rs l T).1.1)),.d (.int .i64 (vT g.rs l T).1.2.1),.d (.int .i64 (vT g.rs l T).1.2.2)]) [iG (vT g.rs l T).2] []:=by
 have hn:=hl.n;have dl:dLen 4 (ig l):=mO 4 _ _ fun _=>rfl
 refine aC Tryz.func55 rfl (fun E0=>?_);refine iK.sound (g:=.mk) (ow:=[15,37]) (kp:=(kb 0x20080080f2000000400105fe7)) ?_;rw[Tryz.ntmps55];by_cases h0:l.length=0
 ·have hnil:l = []:=dB.1 h0;have h0z:(l.length:Int)=0:=by omega
  have hS:vT g.rs l T=((l,0,0),T):=by unfold vT;rw[if_pos h0]
  rw[hS];subst hnil;simp -dsimp[d_,ig];and_intros;all_goals try first|omega|exact⟨by kernel_rfl⟩|rfl
  refine Fin.view 6 ?_;simp -dsimp;and_intros;all_goals try first|omega|exact⟨by kernel_rfl⟩|rfl
  refine Fin.of ?_;simp
 have h0z :¬(l.length:Int)=0:=by omega
 have hnil :¬l = []:=fun e=>h0 (by rw[e];rfl)
 have k1:=eX T l.length;have k2:=iR T (n:=l.length) (by omega);have hc:=jR T hT l.length ⟨by omega,by omega⟩;have kK:dW (bH T l.length).2:=by simpa using hT
 have hS:vT g.rs l T=if(l.getD (bH T l.length).1.toNat tb0).rows.length=0 then((l,0,0),(bH T l.length).2)else
  (let b:=l.getD (bH T l.length).1.toNat tb0
   let j:=bH (bH T l.length).2 b.rows.length
   let x:=b.rows.getD j.1.toNat ⟨0,[]⟩
   let s:=CX g.rs b.r j.2
   ((l.set (bH T l.length).1.toNat ⟨b.r,b.sd,b.len,b.rows.set j.1.toNat ⟨x.id,s.1⟩⟩,b.r,x.id),s.2)):=by
  rw[vT,if_neg h0]
 generalize bH T (l.length:Int)=K at k1 k2 hc kK hS;obtain⟨k',T1⟩:=K;simp only at k1 k2 hc kK hS;obtain⟨k,rfl⟩:∃k:Nat,k'=k:=⟨k'.toNat,by omega⟩
 simp only[dV]at hS;have hk:k<l.length:=by omega
 have hge:l[k]? = some l[k]:=ah hk;have hgd:l.getD k tb0=l[k]:=by rw[ak,hge];rfl
 have hbs:=hl.t l[k] (aB hk);rw[hgd]at hS
 obtain⟨b,hb0⟩:∃b,l[k]=b:=⟨_,rfl⟩
 rw[hb0]at hge hbs hS
 simp -dsimp[d_,h0,h0z,hnil];and_intros;all_goals try first|omega|exact⟨by kernel_rfl⟩|rfl|exact dl
 refine aF.of hc [.x 0] 0 ?_;have htl:(dd (ig l)).length=l.length:=by simp[dd,ig]
 have hat:∀h:k<(dd (ig l)).length,(dd (ig l))[k] = [TV.d (.int .i64 b.r),TV.d (.int .i64 b.sd),TV.d (.int .i64 b.len),TV.d (dZ b.rows)]:=fun h=>by simp[dd,ig,Tb.cs,hb0]
 by_cases hr0:b.rows.length=0
 ·rw[if_pos hr0]at hS
  rw[hS];simp -dsimp[hk,hge,hb0,hr0,htl,hat,uz,dB.1 hr0];and_intros;all_goals try first|omega|exact⟨by kernel_rfl⟩|rfl
  refine Fin.view 6 ?_;simp -dsimp;and_intros;all_goals try first|omega|exact⟨by kernel_rfl⟩|rfl
  refine Fin.of ?_;simp
 rw[if_neg hr0]at hS
 have ZA :¬b.rows = []:=fun e=>hr0 (by rw[e];rfl)
 have hrl:=hbs.rows;have dl2:dLen 2 (rws b.rows):=mO 2 _ _ fun _=>rfl
 have j1:=eX T1 b.rows.length;have j2:=iR T1 (n:=b.rows.length) (by omega);have hd:=jR T1 kK b.rows.length ⟨by omega,by omega⟩;have kJ:dW (bH T1 b.rows.length).2:=by simpa using kK
 try simp only at hS
 generalize bH T1 (b.rows.length:Int)=J at j1 j2 hd kJ hS;obtain⟨j',T2⟩:=J;simp only at j1 j2 hd kJ hS;obtain⟨j,rfl⟩:∃j:Nat,j'=j:=⟨j'.toNat,by omega⟩
 simp only[dV]at hS;have hj:j<b.rows.length:=by omega
 obtain⟨x,hx0⟩:∃x,b.rows[j]=x:=⟨_,rfl⟩
 have hxd:b.rows.getD j ⟨0,[]⟩ = x:=by rw[ak,ah hj,hx0];rfl
 rw[hxd]at hS
 have Em:∀h:j<(dd (rws b.rows)).length,(dd (rws b.rows))[j] = [TV.d (.int .i64 x.id),TV.d (ints x.nx)]:=fun h=>by simp[dd,rws,Rw.cs,hx0]
 have hrl2:(dd (rws b.rows)).length=b.rows.length:=by simp[dd,rws]
 simp -dsimp[hk,hge,hb0,hr0,ZA,htl,hat,uz];and_intros;all_goals try first|omega|exact⟨by kernel_rfl⟩|rfl|exact dl2
 refine aF.of hd [.x 0] 0 ?_;have hN:CX g.rs b.r T2=if(bH T2 4).1=0 then([b.r],(bH T2 4).2)else if(bH T2 4).1=1 then([],(bH T2 4).2)else(DX b.r (uK g.rs (bH T2 4).2 2).1,(uK g.rs (bH T2 4).2 2).2):=rfl
 have h4:=jR T2 kJ 4 ⟨by omega,by omega⟩;have kS:dW (bH T2 4).2:=by simpa using kJ
 generalize bH T2 4=S at h4 kS hN;simp -dsimp[hk,hj,Em,hrl2,htl,hr0];and_intros;all_goals try first|omega|exact⟨by kernel_rfl⟩|rfl
 refine aF.of h4 [.x 0] 0 ?_;by_cases s0:S.1=0
 ·rw[if_pos s0]at hN
  rw[hN]at hS
  rw[hS];simp -dsimp[s0,hk,hj,Em,hrl2,htl];and_intros;all_goals try first|omega|exact⟨by kernel_rfl⟩|rfl
  refine Fin.wH 15 k 3 37 (e0:=65) (k0:=4) (es0:=(dd (ig l)).set k [TV.d (.int .i64 b.r),TV.d (.int .i64 b.sd),TV.d (.int .i64 b.len),TV.bK 37 b.rows.length]) (NJ:=false) (r:=[TV.d (.int .i64 b.r),TV.d (.int .i64 b.sd),TV.d (.int .i64 b.len),TV.bK 37 b.rows.length]) (n:=b.rows.length) (e:=167) (k:=2) (es:=(dd (rws b.rows)).set j [TV.d (.int .i64 x.id),TV.d (ints [b.r])]) (sh:=false) (xs:=(rws b.rows).set j [D.int .i64 x.id,ints [b.r]]) (by simp) (by omega) (by simp[hk,htl]) (by simp) (by simp[ints]) (by simp[hrl2]) (jq _ _ (by simp[rJ,I_,ints])) ?_
  have hx2:iH ((dd (ig l)).set k [TV.d (.int .i64 b.r),TV.d (.int .i64 b.sd),TV.d (.int .i64 b.len),TV.d (.sl ((rws b.rows).set j [D.int .i64 x.id,ints [b.r]]))])=some ((ig l).set k [D.int .i64 b.r,D.int .i64 b.sd,D.int .i64 b.len,D.sl ((rws b.rows).set j [D.int .i64 x.id,ints [b.r]])]):=jq _ _ (by simp[rJ,I_]);simp only[ints,aH,dY]at hx2;refine Fin.view 6 ?_
  simp -dsimp[hx2,htl,ints];and_intros;all_goals try first|omega|exact⟨by kernel_rfl⟩|rfl
  refine Fin.of ?_;simp[ig,Tb.cs,dZ,rws,Rw.cs,ints,jy]
 rw[if_neg s0]at hN
 by_cases s1:S.1=1
 ·rw[if_pos s1]at hN
  rw[hN]at hS
  rw[hS];simp -dsimp[s0,s1,hk,hj,Em,hrl2,htl];and_intros;all_goals try first|omega|exact⟨by kernel_rfl⟩|rfl
  refine Fin.wH 15 k 3 37 (e0:=65) (k0:=4) (es0:=(dd (ig l)).set k [TV.d (.int .i64 b.r),TV.d (.int .i64 b.sd),TV.d (.int .i64 b.len),TV.bK 37 b.rows.length]) (NJ:=false) (r:=[TV.d (.int .i64 b.r),TV.d (.int .i64 b.sd),TV.d (.int .i64 b.len),TV.bK 37 b.rows.length]) (n:=b.rows.length) (e:=167) (k:=2) (es:=(dd (rws b.rows)).set j [TV.d (.int .i64 x.id),TV.c (Value.slice none 0 0)]) (sh:=false) (xs:=(rws b.rows).set j [D.int .i64 x.id,ints []]) (by simp) (by omega) (by simp[hk,htl]) (by simp) (by simp[ints]) (by simp[hrl2]) (jq _ _ (by simp[rJ,I_,ints])) ?_
  have hx2:iH ((dd (ig l)).set k [TV.d (.int .i64 b.r),TV.d (.int .i64 b.sd),TV.d (.int .i64 b.len),TV.d (.sl ((rws b.rows).set j [D.int .i64 x.id,ints []]))])=some ((ig l).set k [D.int .i64 b.r,D.int .i64 b.sd,D.int .i64 b.len,D.sl ((rws b.rows).set j [D.int .i64 x.id,ints []])]):=jq _ _ (by simp[rJ,I_]);simp only[ints,aH,dY]at hx2;refine Fin.view 6 ?_
  simp -dsimp[hx2,htl,ints];and_intros;all_goals try first|omega|exact⟨by kernel_rfl⟩|rfl
  refine Fin.of ?_;simp[ig,Tb.cs,dZ,rws,Rw.cs,ints,jy]
 rw[if_neg s1]at hN
 rw[hN]at hS
 rw[hS];have hSo:=UH S.2 kS g hg 2 (by omega);simp only[d_]at hSo;have hUl:(uK g.rs S.2 2).1.length≤1000:=by have q1:=iR S.2 (n:=2+1) (by omega);have q2:=yL g.rs (bH S.2 (2+1)).2 (bH S.2 (2+1)).1.toNat;have:(uK g.rs S.2 2).1.length≤(bH S.2 (2+1)).1.toNat:=q2;omega
 generalize uK g.rs S.2 2=U at hSo hUl⊢;obtain⟨U,T5⟩:=U;simp only at hSo hUl⊢;simp -dsimp[s0,s1,hk,hj,Em,hrl2,htl];and_intros;all_goals try first|omega|exact⟨by kernel_rfl⟩|rfl
 refine aF.of hSo [.x 0] 0 ?_;simp -dsimp[ints];and_intros;all_goals try first|omega|exact⟨by kernel_rfl⟩|rfl
 refine bY.of [15,37] (kb 0x20080080f2000000400105fe7) (ι:={i:Nat // i≤U.length})
  (fun z=>(.s 0,It.v (.ptr (.x 0) 0))::(.x 0,iG T5)::(.s 6,It.v (.c (Value.slice none 0 0)))::(.s 9,It.v (.bK 15 l.length))::(.s 11,It.v (.tV 15 l.length k 0))::(.s 12,It.v (.tV 37 b.rows.length j 0))::(.s 64,It.v (.d (ints U)))::(.s 65,It.v (.d (.int .i64 U.length)))::(.s 66,It.v (.d (.int .i64 z.1))) ::
   (.o 15,It.row 65 4 ((dd (ig l)).set k [TV.d (.int .i64 b.r),TV.d (.int .i64 b.sd),TV.d (.int .i64 b.len),TV.bK 37 b.rows.length]) false)::(.o 37,It.row 167 2 ((dd (rws b.rows)).set j [TV.d (.int .i64 x.id),Gj (DX b.r (U.take z.1))]) false)::Gl 3 (DX b.r (U.take z.1)))
  (fun z=>U.length-z.1) ⟨0,by omega⟩ ?_ ?_
 ·exact GS.to (by simp[Gj,Gl,ints,DX];exact⟨gK (by simp) (by simp),gK (by simp) (by simp)⟩)
 rintro⟨i,i1⟩;by_cases hi:i<U.length
 ·have hiz:(i:Int)<U.length:=by omega
  have hgu:U[i]? = some U[i]:=ah hi;obtain⟨u,hu0⟩:∃u,U[i]=u:=⟨_,rfl⟩
  rw[hu0]at hgu
  have Qb:(DX b.r (U.take i)).length≤i:=aY (aQ _ _) (by rw[bF];omega);have hF:DX b.r (U.take (i+1))=DX b.r (U.take i)++if u=b.r then []else [u]:=by rw[aO,hgu,DX,bJ];by_cases e:u=b.r<;>simp[e,DX]
  by_cases hub:u=b.r
  ·rw[if_pos hub,aZ]at hF
   generalize DX b.r (U.take i)=F at Qb hF⊢;cases F with
   | nil=>
     simp -dsimp[hi,hiz,hgu,hu0,hub,hk,hj,htl,hrl2,ints,Gj,Gl,wrap_i64 (n:=(i:Int)+1) (by omega) (by omega)];and_intros;all_goals try first|omega|exact⟨by kernel_rfl⟩|rfl|exact hu0|(simp at Qb;omega)
     exact⟨⟨i+1,by omega⟩,GS.to (by simp[hF,Gj,Gl,ints,fE];exact⟨gK (by simp) (by simp),gK (by simp) (by simp)⟩),by simp;omega⟩
   | cons f F=>
     simp -dsimp[hi,hiz,hgu,hu0,hub,hk,hj,htl,hrl2,ints,Gj,Gl,wrap_i64 (n:=(i:Int)+1) (by omega) (by omega)];and_intros;all_goals try first|omega|exact⟨by kernel_rfl⟩|rfl|exact hu0|(simp at Qb;omega)
     exact⟨⟨i+1,by omega⟩,GS.to (by simp[hF,Gj,Gl,ints,fE];exact⟨gK (by simp) (by simp),gK (by simp) (by simp)⟩),by simp;omega⟩
  ·rw[if_neg hub]at hF
   generalize DX b.r (U.take i)=F at Qb hF⊢;cases F with
   | nil=>
     simp -dsimp[hi,hiz,hgu,hu0,hub,hk,hj,htl,hrl2,ints,Gj,Gl,wrap_i64 (n:=(i:Int)+1) (by omega) (by omega)];and_intros;all_goals try first|omega|exact⟨by kernel_rfl⟩|rfl|exact hu0|(simp at Qb;omega)
     exact⟨⟨i+1,by omega⟩,GS.to (by simp[hF,Gj,Gl,ints,fE];exact⟨gK (by simp) (by simp),gK (by simp) (by simp)⟩),by simp;omega⟩
   | cons f F=>
     simp -dsimp[hi,hiz,hgu,hu0,hub,hk,hj,htl,hrl2,ints,Gj,Gl,wrap_i64 (n:=(i:Int)+1) (by omega) (by omega)];and_intros;all_goals try first|omega|exact⟨by kernel_rfl⟩|rfl|exact hu0|(simp at Qb;omega)
     exact⟨⟨i+1,by omega⟩,GS.to (by simp[hF,Gj,Gl,ints,fE];exact⟨gK (by simp) (by simp),gK (by simp) (by simp)⟩),by simp;omega⟩
 ·have hiz :¬(i:Int)<U.length:=by omega
  obtain rfl:i=U.length:=by omega
  rw[bP];generalize DX b.r U=F;cases F with
  | nil=>
    simp -dsimp[hiz,hk,hj,Em,hrl2,htl,Gj,Gl];and_intros;all_goals try first|omega|exact⟨by kernel_rfl⟩|rfl
    refine Fin.wH 15 k 3 37 (e0:=65) (k0:=4) (es0:=(dd (ig l)).set k [TV.d (.int .i64 b.r),TV.d (.int .i64 b.sd),TV.d (.int .i64 b.len),TV.bK 37 b.rows.length]) (NJ:=false) (r:=[TV.d (.int .i64 b.r),TV.d (.int .i64 b.sd),TV.d (.int .i64 b.len),TV.bK 37 b.rows.length]) (n:=b.rows.length) (e:=167) (k:=2) (es:=(dd (rws b.rows)).set j [TV.d (.int .i64 x.id),TV.c (Value.slice none 0 0)]) (sh:=false) (xs:=(rws b.rows).set j [D.int .i64 x.id,ints []]) (by simp) (by omega) (by simp[hk,htl]) (by simp) (by simp[ints]) (by simp[hrl2]) (jq _ _ (by simp[rJ,I_,ints])) ?_
    have hx2:iH ((dd (ig l)).set k [TV.d (.int .i64 b.r),TV.d (.int .i64 b.sd),TV.d (.int .i64 b.len),TV.d (.sl ((rws b.rows).set j [D.int .i64 x.id,ints []]))])=some ((ig l).set k [D.int .i64 b.r,D.int .i64 b.sd,D.int .i64 b.len,D.sl ((rws b.rows).set j [D.int .i64 x.id,ints []])]):=jq _ _ (by simp[rJ,I_]);simp only[ints,aH,dY]at hx2;refine Fin.view 6 ?_
    simp -dsimp[hx2,htl,ints];and_intros;all_goals try first|omega|exact⟨by kernel_rfl⟩|rfl
    refine Fin.of ?_;simp[ig,Tb.cs,dZ,rws,Rw.cs,ints,jy]
  | cons f F=>
    simp -dsimp[hiz,hk,hj,Em,hrl2,htl,Gj,Gl];and_intros;all_goals try first|omega|exact⟨by kernel_rfl⟩|rfl
    refine Fin.wH 37 j 1 83 (e0:=167) (k0:=2) (es0:=(dd (rws b.rows)).set j [TV.d (.int .i64 x.id),TV.bK 83 (f::F).length]) (NJ:=false) (r:=[TV.d (.int .i64 x.id),TV.bK 83 (f::F).length]) (n:=(f::F).length) (e:=3) (k:=1) (es:=dd (fE .i64 (f::F))) (sh:=false) (xs:=fE .i64 (f::F)) (by simp) (by omega) (by simp[hj,hrl2]) (by simp) (by simp[fE]) (by simp[fE]) (zu _) ?_
    simp -dsimp[fE]
    refine Fin.wH 15 k 3 37 (e0:=65) (k0:=4) (es0:=(dd (ig l)).set k [TV.d (.int .i64 b.r),TV.d (.int .i64 b.sd),TV.d (.int .i64 b.len),TV.bK 37 b.rows.length]) (NJ:=false) (r:=[TV.d (.int .i64 b.r),TV.d (.int .i64 b.sd),TV.d (.int .i64 b.len),TV.bK 37 b.rows.length]) (n:=b.rows.length) (e:=167) (k:=2) (es:=(dd (rws b.rows)).set j [TV.d (.int .i64 x.id),TV.d (ints (f::F))]) (sh:=false) (xs:=(rws b.rows).set j [D.int .i64 x.id,ints (f::F)]) (by simp) (by omega) (by simp[hk,htl]) (by simp) (by simp[ints]) (by simp[hrl2]) (jq _ _ (by simp[rJ,I_,ints])) ?_
    have hx2:iH ((dd (ig l)).set k [TV.d (.int .i64 b.r),TV.d (.int .i64 b.sd),TV.d (.int .i64 b.len),TV.d (.sl ((rws b.rows).set j [D.int .i64 x.id,ints (f::F)]))])=some ((ig l).set k [D.int .i64 b.r,D.int .i64 b.sd,D.int .i64 b.len,D.sl ((rws b.rows).set j [D.int .i64 x.id,ints (f::F)])]):=jq _ _ (by simp[rJ,I_]);simp only[ints,aH,dY]at hx2
    refine Fin.view 6 ?_;simp -dsimp[hx2,htl,ints];and_intros;all_goals try first|omega|exact⟨by kernel_rfl⟩|rfl
    refine Fin.of ?_;simp[ig,Tb.cs,dZ,rws,Rw.cs,ints,jy]
set_option linter.unusedVariables false
theorem EL(p:Int):Contract Tryz.prog 131 [.d (.int .i64 p)] [] (.d (.bool (inB p 0 7))) [] []:=by
 refine aC Tryz.func131 rfl (fun E0=>?_);refine iK.sound (g:=.mk) (ow:=[]) (kp:=(kb 5)) ?_;rw[Tryz.ntmps131];by_cases h:0≤p
 ·simp -dsimp[h];refine Fin.of ?_;simp[inB,h];omega
 ·simp -dsimp[h];refine Fin.of ?_;simp[inB,h]
theorem Hy(b:Tb)(hb:b.Sm)(id p:Int):Contract Tryz.prog 57 [gQ b,.d (.int .i64 id),.d (.int .i64 p)] [] (.d (.int .i64 (jo b id p))) [] []:=by
 refine aC Tryz.func57 rfl (fun E0=>?_);refine iK.sound (g:=.mk) (ow:=[]) (kp:=(kb 0x404f)) ?_;rw[Tryz.ntmps57];simp -dsimp[gQ];refine aF.of (D9 b hb.rows hb.nx) [] 0 ?_;by_cases h0:chk b=0
 ·simp -dsimp[gQ,h0];refine aF.of (EL p) [] 0 ?_;by_cases hp:0≤p∧p≤7
  ·have e:inB p 0 7=true:=by simp[inB,hp]
   have hv:Ar b p 0=true:=qw.2 ⟨h0,hp,by omega,by omega⟩;simp -dsimp[gQ,h0,e];and_intros;all_goals try first|rfl|omega|exact⟨by kernel_rfl⟩
   refine aF.of (zO b hb id p hp) [] 0 ?_;simp -dsimp[gQ];and_intros;all_goals try first|rfl|omega|exact⟨by kernel_rfl⟩
   refine Fin.of ?_;simp[jo,hv]
  ·have e:inB p 0 7=false:=by
    cases h:inB p 0 7
    ·rfl
    ·exact absurd (by simpa[inB]using h) hp
   have hv :¬Ar b p 0=true:=fun h=>hp (qw.1 h).2.1
   simp -dsimp[gQ,h0,e];and_intros;all_goals try first|rfl|omega|exact⟨by kernel_rfl⟩
   refine Fin.of ?_;simp[jo,hv]
 ·have hv :¬Ar b p 0=true:=fun h=>h0 (qw.1 h).1
  simp -dsimp[gQ,h0];and_intros;all_goals try first|rfl|omega|exact⟨by kernel_rfl⟩
  refine Fin.of ?_;simp[jo,hv]
theorem KU{f h:Int→Int}:∀{n:Nat} {i:Int},dif f h n i=none↔∀j:Int,i≤j→j<i+n→f j=h j
 | 0,i=>by grind[dif]
 | n+1,i=>by
   unfold dif;split
   ·grind
   ·rw[KU]
    grind
theorem GN{f h:Int→Int}:∀{n:Nat} {i v:Int},dif f h n i=some v→∃j:Int,i≤j∧j<i+n∧v=f j∧f j≠h j∧∀k:Int,i≤k→k<j→f k=h k
 | 0,i,v,e=>by trivial
 | n+1,i,v,e=>by
   unfold dif at e;split at e
   ·grind
   ·obtain⟨j,a1,a2,a3,a4,a5⟩:=GN e
    grind
theorem WY(b:Tb)(es:List Ed):Bf b b es = []:=by unfold Bf;rw[List.filterMap_eq_nil_iff];intro x _;rw[KU.2 fun j _ _=>rfl];rfl
theorem aao{b:Tb}{j:Nat}{x:Rw}(hx:b.rows[j]? = some x)(nx:List Int){id:Int}(h:id≠x.id):rowOf ⟨b.r,b.sd,b.len,b.rows.set j ⟨x.id,nx⟩⟩ id=rowOf b id:=by
 unfold rowOf;generalize b.rows=l at hx
 induction l generalizing j with
 | nil=>rfl
 | cons y l ih=>
   cases j with
   | zero=>grind
   | succ j=>grind
theorem Z7{b:Tb}(hc:chk b=0){j:Nat}{x:Rw}(hx:b.rows[j]? = some x){nx:List Int}(hc':chk ⟨b.r,b.sd,b.len,b.rows.set j ⟨x.id,nx⟩⟩ = 0){id:Int}(h:id≠x.id)(pl:Int):
  jo ⟨b.r,b.sd,b.len,b.rows.set j ⟨x.id,nx⟩⟩ id pl=jo b id pl:=by
 grind[jo,Ar,qc,aao]
theorem agK{α β:Type}{f:α→Option β}:∀{l:List α} {a:α},l.Nodup→a∈l→(∀x∈l,x≠a→f x=none)→l.filterMap f=(f a).toList
 | x::l,a,hn,ha,h=>by
   rw[dG]at hn
   rcases aG.1 ha with rfl|ha'
   ·grind[List.filterMap_eq_nil_iff]
   ·have hx:f x=none:=by grind
    rw[List.filterMap_cons_none hx];exact agK hn.2 ha' fun y hy=>h y (by simp[*])
theorem agI{α β:Type}{f:α→List β}:∀{l:List α} {a:α},l.Nodup→a∈l→(∀x∈l,x≠a→f x = [])→l.flatMap f=f a
 | x::l,a,hn,ha,h=>by
   rw[dG]at hn
   rw[gV];rcases aG.1 ha with rfl|ha'
   ·have:l.flatMap f = []:=by grind[List.flatMap_eq_nil_iff]
    simp[*]
   ·rw[h x (by simp) fun e=>hn.1 (e▸ha'),gW];exact agI hn.2 ha' fun y hy=>h y (by simp[*])
theorem ajN{l:List Tb}(h:l.Pairwise fun x y=>x.r<y.r){k:Nat}{b b':Tb}(hk:l[k]? = some b)(hr:b'.r=b.r):(l.set k b').Pairwise fun x y=>x.r<y.r:=by
 have e:(l.set k b').map (·.r)=l.map (·.r):=by
  refine iV fun i=>?_
  grind
 have h2:(l.map (·.r)).Pairwise (· < ·):=by grind
 grind
theorem aht{l:List Tb}{es:List Ed}(hI:amo l es){k:Nat}{b:Tb}(hk:l[k]? = some b)(hc:chk b=0){j:Nat}{x:Rw}(hx:b.rows[j]? = some x){nx:List Int}
  (hc':chk ⟨b.r,b.sd,b.len,b.rows.set j ⟨x.id,nx⟩⟩ = 0) {e:Ed} (he:e∈es) (hid:e.id=x.id) :
  yA (l.set k ⟨b.r,b.sd,b.len,b.rows.set j ⟨x.id,nx⟩⟩) l es=((dif (jo ⟨b.r,b.sd,b.len,b.rows.set j ⟨x.id,nx⟩⟩ x.id) (jo b x.id) 8 0).map fun v=>[5,b.r,x.id,v]).toList:=by
 obtain⟨hkl,hkb⟩:=aA.1 hk;obtain⟨b',hb'⟩:∃b':Tb,b'=⟨b.r,b.sd,b.len,b.rows.set j ⟨x.id,nx⟩⟩:=⟨_,rfl⟩
 have hr:b'.r=b.r:=by simp_all
 rw[←hb']at hc'⊢
 have hasc:=ajN hI.NR hk hr;have hnd:l.Nodup:=hI.NR.imp fun {x y} h e=>by simp_all
 have hend:es.Nodup:=hI.ed.imp fun {x y} h e=>by simp_all
 have hbm:b∈l:=by grind
 have asl:b'∈l.set k b':=List.mem_set hkl b';unfold yA;rw[agI hnd hbm fun c hc0 hne=>?_]
 ·have hf:iq (l.set k b') b.r=some b':=by grind[iq,GX]
  rw[hf,bf];unfold Bf;rw[agK hend he fun y hy hne=>?_]
  ·rw[hid]
  ·have hy2:y.id≠x.id:=fun e2=>hne (by
    have hp:=hI.ed;clear hend
    induction es with
    | nil=>trivial
    | cons z es ih=>
      rw[fB]at hp
      rcases aG.1 he with rfl|he'<;>rcases aG.1 hy with rfl|hy'
      ·rfl
      ·grind
      ·grind
      ·exact ih ⟨hI.NR,hp.2⟩ he' hy' hp.2)
   grind[KU,Z7]
 ·have hcm:c∈l.set k b':=by
   obtain⟨i,hi,rfl⟩:=jC hc0
   grind[List.mem_iff_getElem]
  grind[GX,WY]
theorem ajS{g:bV}{p:Pn}{l:List Tb}(h:BH g p l)(T:Tp):
  let S:=(vT g.rs (tabs g p g.rs) T).1
  (S.1=tabs g p g.rs∧S.2=(0,0))∨
  ∃(k:Nat) (b:Tb) (j:Nat) (x:Rw) (nx:List Int) (e:Ed),(tabs g p g.rs)[k]? = some b∧b.rows[j]? = some x∧S.1=(tabs g p g.rs).set k ⟨b.r,b.sd,b.len,b.rows.set j ⟨x.id,nx⟩⟩∧S.2=(b.r,x.id)∧
   chk b=0∧chk ⟨b.r,b.sd,b.len,b.rows.set j ⟨x.id,nx⟩⟩ = 0∧e∈p.es∧e.id=x.id:=by
 intro S;obtain⟨l0,hl0⟩:∃l0,l0=tabs g p g.rs:=⟨_,rfl⟩
 have hV:=h.right;have hS2:=hV.tab.step h.ok (by have:=h.n;omega) T;have hS:S=(vT g.rs l0 T).1:=by grind
 rw[←hl0]at hV hS2⊢
 unfold vT at hS hS2;split at hS
 ·simp[*]
 ·rename_i hl;have k1:=eX T l0.length;have k2:=iR T (n:=l0.length) (by omega);rw[if_neg hl]at hS2
  simp only at hS hS2;split at hS
  ·rw[hS];exact .inl ⟨rfl,rfl⟩
  ·rename_i hr;rw[if_neg hr]at hS2
   obtain⟨k,hk⟩:∃k:Nat,(bH T l0.length).1=k:=⟨(bH T l0.length).1.toNat,by omega⟩
   simp only[hk,dV]at hr hS hS2;have hkl:k<l0.length:=by omega
   have hgd:l0.getD k tb0=l0[k]:=by rw[ak,ah hkl];rfl
   rw[hgd]at hr hS hS2
   have hbm:l0[k]∈l0:=aB hkl;obtain⟨b,hb0⟩:∃b,l0[k]=b:=⟨_,rfl⟩
   rw[hb0]at hr hS hS2 hbm
   have j1:=eX (bH T l0.length).2 b.rows.length;have j2:=iR (bH T l0.length).2 (n:=b.rows.length) (by omega);obtain⟨j,hj⟩:∃j:Nat,(bH (bH T l0.length).2 b.rows.length).1=j:=⟨(bH (bH T l0.length).2 b.rows.length).1.toNat,by omega⟩
   simp only[hj,dV]at hS hS2;have hjl:j<b.rows.length:=by omega
   have hx:b.rows[j]? = some b.rows[j]:=ah hjl;have hxd:b.rows.getD j ⟨0,[]⟩ = b.rows[j]:=by rw[ak,hx];rfl
   rw[hxd]at hS hS2
   have hxm:b.rows[j]∈b.rows:=aB hjl;have hgk:l0[k]? = some b:=by rw[ah hkl,hb0]
   have hnew:=hS2.ck _ (List.mem_set hkl _);have hbb:=hbm;rw[hl0]at hbb
   obtain⟨r0,_,_,hbe⟩:=Nu hbb;have hmem:=hxm;generalize b.rows[j]=x at hx hS hnew hmem;rw[hbe]at hmem
   obtain⟨e,he,hee⟩:=ay.1 hmem;exact .inr ⟨k,b,j,x,_,e,hgk,hx,by rw[hS],by rw[hS],hV.tab.ck b hbm,hnew,he,by rw[←hee];rfl⟩
set_option maxHeartbeats 16000000
def fI(Q:Nat→Bool)(f0:Bool):Nat→Bool
 | 0=>f0
 | n+1=>fI Q f0 n||Q n
def fO(r:Nat→Bool)(Q:Nat→Nat→Bool):Nat→Bool
 | 0=>false
 | i+1=>if r i=true then fI (Q i) (fO r Q i) 8 else fO r Q i
theorem acZ{Q:Nat→Bool}{f0:Bool}:∀n,fI Q f0 n=true↔f0=true∨∃k,k<n∧Q k=true
 | 0=>by simp[fI]
 | n+1=>by
   rw[fI,gJ,acZ n]
   grind
theorem ac0{r:Nat→Bool}{Q:Nat→Nat→Bool}:∀n,fO r Q n=true↔∃i,i<n∧r i=true∧∃k,k<8∧Q i k=true
 | 0=>by simp[fO]
 | n+1=>by
   rw[fO];have ih:=ac0 (r:=r) (Q:=Q) n
   grind[acZ]
theorem Qw{g:bV}(hg:jE g=0)(hA:yu g){p:Pn}(hp:iT p=true){l:List Tb}(h:Gq g p l):xQ g p l=(yA l (tabs g p g.rs) p.es,0):=by
 have hall:=(h.YA hg).all;have hlen:l.length=(tabs g p g.rs).length:=by have:=congrArg List.length h.rs;simp_all
 have heq:NH p (tabs g p g.rs) l=true:=RX hlen.symm fun i a b h1 h2=>by
  have hr:a.r=b.r:=by
   have e:=congrArg (fun m=>m[i]?) h.rs
   simp_all
  have hs:=h.sd b (bU h2)
  grind[Zc]
 have e:exV g p l=(tabs g p g.rs,0):=by unfold exV;rw[if_neg (by simp[*]),if_neg,if_neg (by simp[*])];rw[kY,dL];intro x hx;simp[hA x hx]
 unfold xQ;simp[*]
theorem Wi(l:List Tb)(ha:l.Pairwise fun x y=>x.r<y.r)(es:List Ed):yA l l es = []:=by unfold yA;rw[List.flatMap_eq_nil_iff];intro b hb;rw[GX ha hb,bf,WY]
theorem ZN{g:bV}{p:Pn}(hV:BH g p (tabs g p g.rs))(T:Tp):
  let S:=(vT g.rs (tabs g p g.rs) T).1
  let D:=fO (fun i=>decide (((tabs g p g.rs).getD i tb0).r=S.2.1)) (fun i k=>decide (jo ((tabs g p g.rs).getD i tb0) S.2.2 k≠jo (S.1.getD i tb0) S.2.2 k)) (tabs g p g.rs).length
  (D=false→yA S.1 (tabs g p g.rs) p.es = [])∧(D=true→∃v,yA S.1 (tabs g p g.rs) p.es = [[5,S.2.1,S.2.2,v]]):=by
 intro S D;have hasc:=hV.loc.NR;have hD:D=true↔_:=ac0 _;rcases ajS hV T with⟨h1,h2⟩|⟨k,b,j,x,nx,e,hk,hx,h1,h2,hc,hc',he,hid⟩
 ·have hf:D=false:=by grind
  grind[Wi]
 ·have hl:=aht hV.loc hk hc hx hc' he hid;have h1:S.1=_:=h1;have h2:S.2=_:=h2;rw[←h1]at hl
  obtain⟨hkl,hkb⟩:=aA.1 hk;have hgk:(tabs g p g.rs).getD k tb0=b:=by simp[*]
  have hsk:S.1.getD k tb0=⟨b.r,b.sd,b.len,b.rows.set j ⟨x.id,nx⟩⟩:=by simp[*]
  have hS1:S.2.1=b.r:=by simp_all
  have hS2:S.2.2=x.id:=by simp_all
  rw[hS1,hS2];have hDk:D=true↔∃pl:Nat,pl<8∧jo b x.id pl≠jo ⟨b.r,b.sd,b.len,b.rows.set j ⟨x.id,nx⟩⟩ x.id pl:=by grind
  cases hd:dif (jo ⟨b.r,b.sd,b.len,b.rows.set j ⟨x.id,nx⟩⟩ x.id) (jo b x.id) 8 0 with
  | none=>grind[KU]
  | some v=>
    rw[hd]at hl
    obtain⟨q,q1,q2,_,q4,_⟩:=GN hd;refine⟨fun h=>?_,fun _=>⟨v,by trivial⟩⟩;rw[←kY,hDk]at h
    exact absurd ⟨q.toNat,by omega,by grind⟩ h
theorem YF(L:List Int)(hL:∀x∈L,I64 x):Contract Tryz.prog 10 [.d (ints L)] [] (.d (.bool true)) [] []:=by
 have kT:dW (L.take 2000,0):=EZ L hL;have hc0:=TM L;generalize (L.take 2000,0)=T0 at kT hc0;obtain⟨h1,h2,h3,h4⟩:=BX T0 (most:=7) (by omega);have hc1:=Hw T0 kT 7 (by omega);have kA:dW (Az T0 7).2:=by simp[*]
 generalize Az T0 7=A at h1 h2 h3 h4 hc1 kA;obtain⟨g,T1⟩:=A;simp only at h1 h2 h3 h4 hc1 kA;obtain⟨p1,p2,p3,p4,p5,p6⟩:=y8 h1 (by omega) T1;have hc2:=MO T1 kA g (by omega);have kB:dW (rH g.rs T1).2:=by simp[*]
 generalize rH g.rs T1=B at p1 p2 p3 p4 p5 p6 hc2 kB;obtain⟨p,T2⟩:=B;simp only at p1 p2 p3 p4 p5 p6 hc2 kB;have hc3:=IC g (gY h1).sm p (by omega);rw[BI h1 p1]at hc3
 have hV:BH g p (tabs g p g.rs):=⟨h1,h2,⟨h3,by omega⟩,p1,p4,p6,⟨p2,p3⟩,p5,Gq.init h1 p1⟩
 have hsm:=hV.sm;have hgs:g.Sm:=(gY h1).sm;have hSp:=Np T2 kB g ⟨by omega,by omega⟩ (tabs g p g.rs) hsm;have aby:=ZN hV T2;have hS2:=hV.tab.step h1 (by omega) T2;simp only at aby;generalize (vT g.rs (tabs g p g.rs) T2).2=T3 at hSp;generalize (vT g.rs (tabs g p g.rs) T2).1=S at hSp aby hS2;obtain⟨bad,rt,id⟩:=S;simp only at hSp aby hS2
 have hL1:=ED g hgs p (by omega) bad (.inl (hS2.YA h1).sm);rw[Qw h1 h2 p1 hS2]at hL1
 have hL2:=ED g hgs p (by omega) (tabs g p g.rs) (.inl hsm);rw[Qw h1 h2 p1 hV.tab,Wi _ hV.loc.NR]at hL2
 have hbl:bad.length=(tabs g p g.rs).length:=by have:=congrArg List.length hS2.rs;simp_all
 have hbs:∀b∈bad,b.Sm:=fun b hb=>Fp (hS2.ck b hb)
 have hls:∀b∈tabs g p g.rs,b.Sm:=fun b hb=>Fp (hV.tab.ck b hb)
 have ag4:=fun (b:Tb) (hb:b.Sm) (k:Int)=>Hy b hb id k
 have haw:=D6;have hll:=hsm.n;generalize yA bad (tabs g p g.rs) p.es=F at aby hL1;generalize tabs g p g.rs=l at hc3 hsm hSp aby hL2 hbl hls hll;obtain⟨RF,hRF⟩:∃RF:Nat→Bool,RF=fun i=>decide ((l.getD i tb0).r=rt):=⟨_,rfl⟩
 obtain⟨QF,hQF⟩:∃QF:Nat→Nat→Bool,QF=fun i (k:Nat)=>decide (jo (l.getD i tb0) id k≠jo (bad.getD i tb0) id k):=⟨_,rfl⟩
 rw[←hRF,←hQF]at aby
 have hR1:∀i b,l[i]? = some b→RF i=decide (b.r=rt):=fun i b h=>by simp[*]
 have hQ1:∀i b c (k:Nat),l[i]? = some b→bad[i]? = some c→QF i k=decide (jo b id k≠jo c id k):=fun i b c k h h'=>by simp[*]
 clear hRF hQF;simp only[d_,iE]at hSp hL1 hL2;simp only[d_,iE,allT,ints]at hc0 hc1 hc2 hc3;rw[show ∀m:List Tb,List.map Tb.cs m=ig m from fun _=>rfl]at hc3
 refine aC Tryz.func10 rfl (fun E0=>?_);refine iK.sound (g:=.mk) (ow:=[]) (kp:=(kb 0x80000801f000000000007ff7d)) ?_;rw[Tryz.ntmps10];simp -dsimp[ints];refine aF.of hc0 [] 3000 ?_;simp -dsimp;and_intros;all_goals try first|rfl|omega|exact⟨by kernel_rfl⟩
 refine aF.of hc1 [.o 3009] 0 ?_;simp -dsimp;and_intros;all_goals try first|rfl|omega|exact⟨by kernel_rfl⟩
 refine aF.of hc2 [.o 3009] 0 ?_;simp -dsimp;and_intros;all_goals try first|rfl|omega|exact⟨by kernel_rfl⟩
 refine aF.of hc3 [] 0 ?_;simp -dsimp;and_intros;all_goals try first|rfl|omega|exact⟨by kernel_rfl⟩
 refine aF.of hSp [.o 3009] 0 ?_;simp -dsimp;and_intros;all_goals try first|rfl|omega|exact⟨by kernel_rfl⟩
 refine aF.of hL1 [] 0 ?_;simp -dsimp;and_intros;all_goals try first|rfl|omega|exact⟨by kernel_rfl⟩
 refine aF.of hL2 [] 0 ?_;simp -dsimp[lC];and_intros;all_goals try first|rfl|omega|exact⟨by kernel_rfl⟩
 refine bY.of [] (kb 0x80000801f000000000007ff7d) (ι:={i:Nat // i≤l.length})
  (fun z=>[(.s 6,It.v (.d (.sl (ig l)))),(.s 8,It.v (.d (.sl (ig bad)))),(.s 9,It.v (.d (.int .i64 rt))),(.s 10,It.v (.d (.int .i64 id))),(.s 11,It.v (.d (.sl (F.map fun x=>x.map (D.int .i64))))),(.s 15,It.v (.d (.bool (fO RF QF z.1)))),
   (.s 65,It.v (.d (.sl (ig l)))),(.s 66,It.v (.d (.int .i64 l.length))),(.s 67,It.v (.d (.int .i64 z.1)))])
  (fun z=>l.length-z.1) ⟨0,by omega⟩ ?_ ?_
 ·simp[GS.to,fO]
 rintro⟨i,i1⟩;by_cases hi:i<l.length
 ·have hiz:(i:Int)<l.length:=by omega
  have hx:l[i]? = some l[i]:=ah hi;have hm:=aB hi;have hy:bad[i]? = some (bad[i]'(by omega)):=ah (by omega);have hym:=aB (l:=bad) (n:=i) (by omega);generalize l[i]=b at hx hm;generalize bad[i]'(by omega)=c at hy hym;have hbm:=hls b hm;have hcm:=hbs c hym;have hx':(ig l)[i]? = some b.cs:=by grind[ig]
  have hy':(ig bad)[i]? = some c.cs:=by simp[ig,hy]
  have hfo:fO RF QF (i+1)=if b.r=rt then fI (QF i) (fO RF QF i) 8 else fO RF QF i:=by rw[fO,hR1 i b hx];simp
  have hq:=fun (k:Nat)=>hQ1 i b c k hx hy
  have w1:IntKind.i64.wrap ((i:Int)+1)=(i:Int)+1:=wrap_i64 (by omega) (by omega);have ak3:(i:Int)<bad.length:=by omega
  simp -dsimp[hiz,hx',Tb.cs];and_intros;all_goals try first|rfl|omega|exact⟨by kernel_rfl⟩
  refine bY.of [] (kb 0x80000801f000000000007ff7d) (ι:={k:Nat // k≤8∧(b.r≠rt→k=0)})
   (fun z=>[(.s 6,It.v (.d (.sl (ig l)))),(.s 8,It.v (.d (.sl (ig bad)))),(.s 9,It.v (.d (.int .i64 rt))),(.s 10,It.v (.d (.int .i64 id))),(.s 11,It.v (.d (.sl (F.map fun x=>x.map (D.int .i64))))),(.s 15,It.v (.d (.bool (fI (QF i) (fO RF QF i) z.1)))),
    (.s 65,It.v (.d (.sl (ig l)))),(.s 66,It.v (.d (.int .i64 l.length))),(.s 67,It.v (.d (.int .i64 i))),(.s 16,It.v (.d (.int .i64 i))),(.o 17,It.box [TV.d (.int .i64 b.r),TV.d (.int .i64 b.sd),TV.d (.int .i64 b.len),TV.d (dZ b.rows)]),(.s 17,It.v (.ptr (.o 17) 0)),(.s 18,It.v (.d (.int .i64 z.1)))])
   (fun z=>8-z.1) ⟨0,by omega,fun _=>rfl⟩ ?_ ?_
  ·exact GS.to (by simp[ig,fI,dZ])
  rintro⟨k,k1,k2⟩;by_cases hk:k<8
  ·have hkz:(k:Int)<8:=by omega
   have w2:IntKind.i64.wrap ((k:Int)+1)=(k:Int)+1:=wrap_i64 (by omega) (by omega);have hqk:=hq k;have hst:fI (QF i) (fO RF QF i) (k+1)=(fI (QF i) (fO RF QF i) k||QF i k):=rfl;have hnb:=ag4 b hbm k;have hnc:=ag4 c hcm k;generalize jo b id k=vb at hqk hnb;generalize jo c id k=vc at hqk hnc;generalize hf0:fI (QF i) (fO RF QF i) k=f0 at hst⊢;simp only[gQ,Tb.cs,List.map]at hnb hnc
   by_cases hr:b.r=rt
   ·cases f0 with
    | true=>
      simp -dsimp[hkz,eq_true hr,w2];and_intros;all_goals try first|rfl|omega|exact⟨by kernel_rfl⟩
      exact⟨⟨k+1,by omega,fun h=>absurd hr h⟩,GS.to (by simp[ig,dZ,hst]),by simp;omega⟩
    | false=>
      simp -dsimp[hkz,eq_true hr,w2];and_intros;all_goals try first|rfl|omega|exact⟨by kernel_rfl⟩
      refine aF.of hnb [] 0 ?_;simp -dsimp[hy',ak3,Tb.cs];and_intros;all_goals try first|rfl|omega|exact⟨by kernel_rfl⟩
      refine aF.of hnc [] 0 ?_;by_cases hv:vb=vc
      ·simp -dsimp[eq_true hv,w2];and_intros;all_goals try first|rfl|omega|exact⟨by kernel_rfl⟩
       exact⟨⟨k+1,by omega,fun h=>absurd hr h⟩,GS.to (by simp[ig,dZ,hst,hqk,hv]),by simp;omega⟩
      ·simp -dsimp[eq_false hv,w2];and_intros;all_goals try first|rfl|omega|exact⟨by kernel_rfl⟩
       exact⟨⟨k+1,by omega,fun h=>absurd hr h⟩,GS.to (by simp[ig,dZ,hst,hqk,hv]),by simp;omega⟩
   ·obtain rfl:=k2 hr;have hf1:fO RF QF (i+1)=f0:=by rw[hfo,if_neg hr];exact hf0
    simp -dsimp[hkz,eq_false hr,w1];and_intros;all_goals try first|rfl|omega|exact⟨by kernel_rfl⟩
    exact⟨⟨i+1,by omega⟩,GS.to (by simp[ig,hf1]),by simp;omega⟩
  have hkz :¬(k:Int)<8:=by omega
  obtain rfl:k=8:=by omega
  have hr:b.r=rt:=Classical.byContradiction fun h=>by have:=k2 h;omega
  rw[if_pos hr]at hfo
  simp -dsimp[hkz,w1];and_intros;all_goals try first|rfl|omega|exact⟨by kernel_rfl⟩
  exact⟨⟨i+1,by omega⟩,GS.to (by simp[ig,hfo]),by simp;omega⟩
 have hiz :¬(i:Int)<l.length:=by omega
 obtain rfl:i=l.length:=by omega
 obtain⟨a1,a2⟩:=aby;cases hD:fO RF QF l.length with
 | false=>
   have:=a1 hD;subst this;simp -dsimp[hiz,hD];and_intros;all_goals try first|rfl|omega|exact⟨by kernel_rfl⟩
   refine aF.of haw [] 0 ?_;simp -dsimp;and_intros;all_goals try first|rfl|omega|exact⟨by kernel_rfl⟩
   refine Fin.of ?_;simp
 | true=>
   obtain⟨v,hv⟩:=a2 hD;subst hv;simp -dsimp[hiz,hD];and_intros;all_goals try first|rfl|omega|exact⟨by kernel_rfl⟩
   refine aF.of haw [] 0 ?_;simp -dsimp;and_intros;all_goals try first|rfl|omega|exact⟨by kernel_rfl⟩
   refine Fin.of ?_;simp
end Go.Proofs
