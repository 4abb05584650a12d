/-
  What functions of the program compute, stated as contracts over plain data; the conditions of each stand in its own statement.
-/
import Derived.Test.YtboimfkommpglaaGreatDoorZB10
import Derived.Test.YtboimfkommpglaaGreatDoorZB05
import Derived.KernelRfl
import Derived.Test.YtboimfkommpglaaGreatDoorChecked
import Derived.Test.YtboimfkommpglaaGreatDoorZB13
import Derived.Test.YtboimfkommpglaaGreatDoorZB15
import Derived.Test.YtboimfkommpglaaGreatDoorZB14
import Derived.Test.YtboimfkommpglaaGreatDoorZB16
import Derived.Test.YtboimfkommpglaaGreatDoorZB21
import Derived.Test.YtboimfkommpglaaGreatDoorZB22
import Derived.Test.YtboimfkommpglaaGreatDoorZB18
import Derived.Test.YtboimfkommpglaaGreatDoorZB24
import Derived.Test.YtboimfkommpglaaGreatDoorZB30
import Derived.Test.YtboimfkommpglaaGreatDoorZB31
set_option linter.unusedVariables false
set_option linter.unusedSimpArgs false
namespace Go.Proofs
open Go Go.Tr
@[simp]theorem Zf:wL Tryz.prog 113 0=some (0,3):=by kernel_rfl
@[simp]theorem Zg:wL Tryz.prog 113 1=some (1,3):=by kernel_rfl
@[simp]theorem Zh:wL Tryz.prog 113 2=some (2,3):=by kernel_rfl
@[simp]theorem agL:dP Tryz.prog 55=true:=by kernel_rfl
@[simp]theorem agM:dP Tryz.prog 57=true:=by kernel_rfl
end Go.Proofs

set_option linter.unusedSimpArgs false
namespace Go.Tr
open Go
section
variable {A:jL}
end
theorem jq{es:List (List TV)}{xs:List (List D)}{k:Nat}{r:List TV}{x:List D}(h:iH es=some xs)(hr:rJ r=some x):iH (es.set k r)=some (xs.set k x):=by
 induction es generalizing xs k with
 | nil=>simp_all
 | cons e es ih=>
   simp only[iH]at h;split at h
   ·rename_i x' xs' h1 h2;simp only[aj]at h;subst h;cases k with
    | zero=>simp only[List.set_cons_zero,iH,hr,h2]
    | succ k=>simp only[List.set_cons_succ,iH,h1,ih h2]
   trivial
end Go.Tr

set_option maxRecDepth 100000
set_option maxHeartbeats 4000000
namespace Go.Proofs
open Go Go.Tr
section
variable {b:Tb}
end
theorem D9(b:Tb)(hb:b.rows.length≤1000000)(hn:∀x∈b.rows,x.nx.length≤1000000):Contract Tryz.prog 130 [gQ b] [] (.d (.int .i64 (chk b))) [] []:=Fh b (aY hb (by decide)) (fun x hx=>aY (hn x hx) (by decide))
end Go.Proofs

namespace Go.Proofs
open Go Go.Tr
theorem F5(b:Tb)(hb:b.rows.length≤1000000)(hn:∀x∈b.rows,x.nx.length≤1000000)(id:Int):Contract Tryz.prog 207 [gQ b,.d (.int .i64 id)] [] (rowT (rowOf b id)) [] []:=by
 refine aC Tryz.func207 rfl (fun E0=>?_);refine iK.sound (g:=.mk) (ow:=[]) (kp:=(kb 0x200877)) ?_;rw[Tryz.ntmps207];simp -dsimp[gQ,dZ];refine bY.of [] (kb 0x200877) (ι:={i:Nat // i≤b.rows.length∧∀a,a<i→∀x,b.rows[a]? = some x→decide (x.id=id)=false})
  (fun z=>[(.s 1,It.v (.d (.int .i64 id))),(.o 2,It.box [TV.d (.int .i64 b.r),TV.d (.int .i64 b.sd),TV.d (.int .i64 b.len),TV.d (dZ b.rows)]),(.s 2,It.v (.ptr (.o 2) 0)),(.o 4,It.box [TV.d (.int .i64 0),TV.c (Value.slice none 0 0)]),(.s 4,It.v (.ptr (.o 4) 0)),(.s 5,It.v (.d (.bool false))),(.s 6,It.v (.d (.int .i64 z.1)))]) (fun z=>b.rows.length-z.1) ⟨0,by omega,fun a h=>by omega⟩ ?_ ?_
 ·simp[GS.to,dZ]
 ·rintro⟨i,i1,i2⟩;by_cases hi:i<b.rows.length
  ·have hiz:(i:Int)<b.rows.length:=by omega
   have hg:b.rows[i]? = some b.rows[i]:=ah hi;have hx:=hn _ (aB hi);generalize b.rows[i]=x at hg hx;by_cases c1:x.id=id
   ·simp -dsimp[dZ,hg,hiz,Rw.cs,eq_true c1];and_intros;all_goals try first|rfl|omega|exact⟨by kernel_rfl⟩
    refine Fin.of ?_;simp[rowT,rowOf,Ih hg (by simpa using c1) i2,Bl,c1]
   ·simp -dsimp[dZ,hg,hiz,Rw.cs,c1,wrap_i64 (n:=(i:Int)+1) (by omega) (by omega)];and_intros;all_goals try first|rfl|omega|exact⟨by kernel_rfl⟩
    exact⟨⟨i+1,by omega,fun a ha y hy=>by
     by_cases e:a=i
     ·subst e;rw[hg]at hy;simp only[aj]at hy;subst hy;simpa using c1
     ·exact i2 a (by omega) y hy⟩,GS.to (by simp[dZ]),by simp;omega⟩
  ·have hiz :¬(i:Int)<b.rows.length:=by omega
   simp -dsimp[dZ,hiz];refine Fin.box (.o 4) rfl ?_;simp -dsimp;refine Fin.of ?_;simp[rowT,rowOf,Ii (q:=fun x=>decide (x.id=id)) (fun a ha=>i2 a (by omega)),Bl,ints]
theorem zO(b:Tb)(hb:b.Sm)(id p:Int)(hp:0≤p∧p≤7):Contract Tryz.prog 132 [gQ b,.d (.int .i64 id),.d (.int .i64 p)] [] (.d (.int .i64 (qc b id p))) [] []:=by
 refine aC Tryz.func132 rfl (fun E0=>?_);refine iK.sound (g:=.mk) (ow:=[]) (kp:=(kb 0x4001cf)) ?_;rw[Tryz.ntmps132];simp -dsimp[gQ];refine aF.of (F5 b hb.rows hb.nx id) [] 0 ?_;have hl:=ER hb id;unfold qc;cases hr:rowOf b id with
 | none=>
   simp -dsimp[gQ,rowT,Bl,hr];and_intros;all_goals try first|rfl|omega|exact⟨by kernel_rfl⟩
   refine Fin.of ?_;simp[tH]
 | some x=>
   rw[hr]at hl
   simp only[bf]at hl⊢;by_cases h0:x.nx.length=0
   ·have h0z:(x.nx.length:Int)=0:=by omega
    simp -dsimp[gQ,rowT,Bl,hr,ints,h0,h0z];and_intros;all_goals try first|rfl|omega|exact⟨by kernel_rfl⟩
    refine Fin.of ?_;simp[tH,h0]
   ·have h0z :¬(x.nx.length:Int)=0:=by omega
    have e:p.tmod x.nx.length=p%x.nx.length:=iw hp.1;have m1:=jP p (b:=(x.nx.length:Int)) (by omega);have m2:=iL p (b:=(x.nx.length:Int)) (by omega);have hlt:(p%x.nx.length).toNat<x.nx.length:=by omega
    have hg:x.nx[(p%x.nx.length).toNat]? = some x.nx[(p%x.nx.length).toNat]:=ah hlt;simp -dsimp[gQ,rowT,Bl,hr,ints,h0,h0z,e,hg];and_intros;all_goals try first|rfl|omega|exact⟨by kernel_rfl⟩
    refine Fin.of ?_;simp[tH,h0,hg]
theorem OY(l:List Int)(hl:l.length≤1000000)(n:Int):Contract Tryz.prog 141 [.d (ints l),.d (.int .i64 n)] [] (.d (ints (nT l n))) [] []:=by
 refine aC Tryz.func141 rfl (fun E0=>?_);refine iK.sound (g:=.mk) (ow:=[35]) (kp:=(kb 0x100040073)) ?_;rw[Tryz.ntmps141];simp -dsimp[ints]
 refine bY.of [] (kb 0x100040073) (ι:={p:Nat // p≤l.length∧insPos n l=p+insPos n (l.drop p)}) (fun z=>[(.s 0,It.v (.d (ints l))),(.s 1,It.v (.d (.int .i64 n))),(.s 4,It.v (.c (Value.slice none 0 0))),(.s 5,It.v (.d (.int .i64 z.1)))]) (fun z=>l.length-z.1) ⟨0,by omega,by simp⟩ ?_ ?_
 ·exact GS.to (by simp[ints])
 ·rintro⟨p,p1,p2⟩;by_cases hp:p<l.length
  ·have hd:l.drop p=l[p]::l.drop (p+1):=aU _;by_cases h:l[p]<n
   ·simp -dsimp[ints,hp,h,wrap_i64 (n:=(p:Int)+1) (by omega) (by omega)];try refine⟨?_,⟨by kernel_rfl⟩⟩
    exact⟨⟨p+1,by omega,by rw[p2,hd,insPos,if_pos h];omega⟩,GS.to (by simp[ints]),by simp;omega⟩
   ·have hq:insPos n l=p:=by rw[p2,hd,insPos,if_neg h];omega
    by_cases he:l[p]=n
    ·simp -dsimp[ints,hp,h,he];try refine⟨?_,⟨by kernel_rfl⟩⟩
     refine Fin.of ?_;have hI:nT l n=l:=by rw[nT,if_pos (by rw[hq,ah hp,he])]
     simp[hI]
    ·simp -dsimp[ints,hp,h,he];have dl:dLen 1 (l.map fun x=>[D.int .i64 x]):=mO 1 _ _ fun _=>rfl
     and_intros;all_goals try first|omega|exact⟨by kernel_rfl⟩|exact oP dl|exact xG (oP dl)|(simp;omega)
     refine Fin.view 4 ?_;simp -dsimp;and_intros;all_goals try first|omega|exact⟨by kernel_rfl⟩|(simp;omega)
     refine Fin.of ?_;have hI:nT l n=l.take p++[n]++l.drop p:=by rw[nT,hq,if_neg (by rw[ah hp];simpa using he)]
     simp[hI,ints,aW]
  ·have hq:insPos n l=p:=by rw[p2,dJ (by omega),insPos];omega
   simp -dsimp[ints,hp];have dl:dLen 1 (l.map fun x=>[D.int .i64 x]):=mO 1 _ _ fun _=>rfl
   and_intros;all_goals try first|omega|exact⟨by kernel_rfl⟩|exact oP dl|exact xG (oP dl)|(simp;omega)
   refine Fin.view 4 ?_;simp -dsimp;and_intros;all_goals try first|omega|exact⟨by kernel_rfl⟩|(simp;omega)
   refine Fin.of ?_;have hI:nT l n=l.take p++[n]++l.drop p:=by rw[nT,hq,if_neg (by rw[dK (by omega)];simp)]
   simp[hI,ints,aW]
theorem UH(T:Tp)(hT:dW T)(g:bV)(hg:0<g.rs.length∧g.rs.length≤100)(n:Int)(hn:0≤n∧n≤100):Contract Tryz.prog 126 [.ptr (.x 0) 0,d_ g,.d (.int .i64 n)] [iG T] (.d (ints (uK g.rs T n).1)) [iG (uK g.rs T n).2] []:=by
 refine aC Tryz.func126 rfl (fun E0=>?_);refine iK.sound (g:=.mk) (ow:=[]) (kp:=(kb 0x1001d7)) ?_;rw[Tryz.ntmps126];simp -dsimp[d_,wrap_i64 (n:=n+1) (by omega) (by omega)];try refine⟨?_,⟨by kernel_rfl⟩⟩
 refine aF.of (jR T hT (n+1) ⟨by omega,by omega⟩) [.x 0] 0 ?_;have kA:dW (bH T (n+1)).2:=by simpa using hT
 have a1:=eX T (n+1);have a2:=iR T (n:=n+1) (by omega);generalize hA:bH T (n+1)=a at kA a1 a2;obtain⟨m',T1⟩:=a;simp only at kA a1 a2;obtain⟨m,rfl⟩:∃m:Nat,m'=m:=⟨m'.toNat,by omega⟩
 have hgl:(0:Int)<g.rs.length:=by omega
 simp -dsimp[d_];refine bY.of [] (kb 0x1001d7) (ι:={i:Nat // i≤m})
  (fun z=>[(.s 0,It.v (.ptr (.x 0) 0)),(.s 2,It.v (.d (.int .i64 n))),(.o 4,It.box [TV.d (.sl (rts g.rs)),TV.d (.sl (pq g.ls))]),(.s 4,It.v (.ptr (.o 4) 0)),(.s 6,It.v (.c (Value.slice none 0 0))),(.x 0,iG (lM g.rs T1 z.1).1),(.s 7,It.v (.d (ints (lM g.rs T1 z.1).2))),(.s 8,It.v (.d (.int .i64 ((m:Int)-z.1))))])
  (fun z=>m-z.1) ⟨0,by omega⟩ ?_ ?_
 ·exact GS.Gm 7 (by simp[lM,ints])
 rintro⟨i,i1⟩;have kI:dW (lM g.rs T1 i).1:=by simpa using kA
 have hl:=yL g.rs T1 i;by_cases hi:i<m
 ·have hiz:(0:Int)<(m:Int)-i:=by omega
  have hp:=OY (lM g.rs T1 i).2 (by omega);have v1:=eX (lM g.rs T1 i).1 g.rs.length;have v2:=iR (lM g.rs T1 i).1 (n:=g.rs.length) (by omega);have hs:lM g.rs T1 (i+1)=((bH (lM g.rs T1 i).1 g.rs.length).2,nT (lM g.rs T1 i).2 (rid g.rs (bH (lM g.rs T1 i).1 g.rs.length).1.toNat)):=rfl
  have hc:=jR (lM g.rs T1 i).1 kI g.rs.length ⟨by omega,by omega⟩;generalize bH (lM g.rs T1 i).1 (g.rs.length:Int)=v at v1 v2 hs hc;obtain⟨k',T2⟩:=v;simp only at v1 v2 hs hc;obtain⟨k,rfl⟩:∃k:Nat,k'=k:=⟨k'.toNat,by omega⟩
  have hkr:g.rs[k]? = some (g.rs[k]'(by omega)):=ah (by omega);have Qd:rid g.rs k=(g.rs[k]'(by omega)).id:=by unfold rid;rw[ak,hkr];rfl
  rw[dV,Qd]at hs
  generalize g.rs[k]'(by omega)=x at hkr hs;simp -dsimp[hiz,hi,hgl,hg.1,d_,ints];and_intros;all_goals try first|omega|exact⟨by kernel_rfl⟩|rfl
  refine aF.of hc [.x 0] 0 ?_;simp -dsimp[hkr,rts,Rt.cs];and_intros;all_goals try first|omega|exact⟨by kernel_rfl⟩|rfl
  refine aF.of (hp x.id) [] 0 ?_;simp -dsimp[hkr,rts,Rt.cs,wrap_i64 (n:=(m:Int)-i-1) (by omega) (by omega)];and_intros;all_goals try first|omega|exact⟨by kernel_rfl⟩|rfl
  exact⟨⟨i+1,by omega⟩,GS.to (by simp[hs,ints,rts];omega),by simp;omega⟩
 have hiz :¬(0:Int)<(m:Int)-i:=by omega
 obtain rfl:i=m:=by omega
 simp -dsimp[hiz,hgl,hg.1];and_intros;all_goals try first|omega|exact⟨by kernel_rfl⟩|rfl
 refine Fin.of ?_;simp[uK,hA]
set_option maxHeartbeats 8000000
theorem yS:∀l:List D,rJ (l.map TV.d)=some l
 | []=>rfl
 | x::l=>by simp[rJ,I_,yS l]
theorem jq:∀(xs:List (List D)) (j:Nat) {e:List TV} {y:List D},rJ e=some y→iH ((dd xs).set j e)=some (xs.set j y)
 | [],_,_,_,_=>rfl
 | x::xs,0,e,y,h=>by simp[Fq,iH,h,show iH (dd xs)=some xs from zu xs]
 | x::xs,j+1,e,y,h=>by have ih:=jq xs j h;simp[Fq,iH,ih,yS]
def Gj(F:List Int):TV:=match F with
 | []=>.c (.slice none 0 0)
 | x::F=>.bK 83 (x::F).length
def Gl(e:TypeId)(F:List Int):List (Pl×It):=match F with
 | []=>[]
 | x::F=>[(.o 83,It.row e 1 (dd (fE .i64 (x::F))) false)]
theorem gK{po:Nat→Prop}{es:List (List TV)}{k:Nat}{r:List TV}(h:m_ po es)(g:TV.uw po r):m_ po (es.set k r):=by
 intro e he;rcases jQ he with h1|rfl
 ·exact h e h1
 ·exact g
theorem Np(T:Tp)(hT:dW T)(g:bV)(hg:0<g.rs.length∧g.rs.length≤100)(l:List Tb)(hl:UY l):Contract Tryz.prog 55 [.ptr (.x 0) 0,.d (.sl (ig l)),d_ g] [iG T] (.sZ [.d (.sl (ig (vT g.rs l T).1.1)),.d (.int .i64 (vT g.rs l T).1.2.1),.d (.int .i64 (vT g.rs l T).1.2.2)]) [iG (vT g.rs l T).2] []:=by
 have hn:=hl.n;have dl:dLen 4 (ig l):=mO 4 _ _ fun _=>rfl
 refine aC Tryz.func55 rfl (fun E0=>?_);refine iK.sound (g:=.mk) (ow:=[15,37]) (kp:=(kb 0x20080080f2000000400105fe7)) ?_;rw[Tryz.ntmps55];by_cases h0:l.length=0
 ·have hnil:l = []:=dB.1 h0;have h0z:(l.length:Int)=0:=by omega
  have hS:vT g.rs l T=((l,0,0),T):=by unfold vT;rw[if_pos h0]
  rw[hS];subst hnil;simp -dsimp[d_,ig];and_intros;all_goals try first|omega|exact⟨by kernel_rfl⟩|rfl
  refine Fin.view 6 ?_;simp -dsimp;and_intros;all_goals try first|omega|exact⟨by kernel_rfl⟩|rfl
  refine Fin.of ?_;simp
 have h0z :¬(l.length:Int)=0:=by omega
 have hnil :¬l = []:=fun e=>h0 (by rw[e];rfl)
 have k1:=eX T l.length;have k2:=iR T (n:=l.length) (by omega);have hc:=jR T hT l.length ⟨by omega,by omega⟩;have kK:dW (bH T l.length).2:=by simpa using hT
 have hS:vT g.rs l T=if(l.getD (bH T l.length).1.toNat tb0).rows.length=0 then((l,0,0),(bH T l.length).2)else
  (let b:=l.getD (bH T l.length).1.toNat tb0
   let j:=bH (bH T l.length).2 b.rows.length
   let x:=b.rows.getD j.1.toNat ⟨0,[]⟩
   let s:=CX g.rs b.r j.2
   ((l.set (bH T l.length).1.toNat ⟨b.r,b.sd,b.len,b.rows.set j.1.toNat ⟨x.id,s.1⟩⟩,b.r,x.id),s.2)):=by
  rw[vT,if_neg h0]
 generalize bH T (l.length:Int)=K at k1 k2 hc kK hS;obtain⟨k',T1⟩:=K;simp only at k1 k2 hc kK hS;obtain⟨k,rfl⟩:∃k:Nat,k'=k:=⟨k'.toNat,by omega⟩
 simp only[dV]at hS;have hk:k<l.length:=by omega
 have hge:l[k]? = some l[k]:=ah hk;have hgd:l.getD k tb0=l[k]:=by rw[ak,hge];rfl
 have hbs:=hl.t l[k] (aB hk);rw[hgd]at hS
 obtain⟨b,hb0⟩:∃b,l[k]=b:=⟨_,rfl⟩
 rw[hb0]at hge hbs hS
 simp -dsimp[d_,h0,h0z,hnil];and_intros;all_goals try first|omega|exact⟨by kernel_rfl⟩|rfl|exact dl
 refine aF.of hc [.x 0] 0 ?_;have htl:(dd (ig l)).length=l.length:=by simp[dd,ig]
 have hat:∀h:k<(dd (ig l)).length,(dd (ig l))[k] = [TV.d (.int .i64 b.r),TV.d (.int .i64 b.sd),TV.d (.int .i64 b.len),TV.d (dZ b.rows)]:=fun h=>by simp[dd,ig,Tb.cs,hb0]
 by_cases hr0:b.rows.length=0
 ·rw[if_pos hr0]at hS
  rw[hS];simp -dsimp[hk,hge,hb0,hr0,htl,hat,uz,dB.1 hr0];and_intros;all_goals try first|omega|exact⟨by kernel_rfl⟩|rfl
  refine Fin.view 6 ?_;simp -dsimp;and_intros;all_goals try first|omega|exact⟨by kernel_rfl⟩|rfl
  refine Fin.of ?_;simp
 rw[if_neg hr0]at hS
 have ZA :¬b.rows = []:=fun e=>hr0 (by rw[e];rfl)
 have hrl:=hbs.rows;have dl2:dLen 2 (rws b.rows):=mO 2 _ _ fun _=>rfl
 have j1:=eX T1 b.rows.length;have j2:=iR T1 (n:=b.rows.length) (by omega);have hd:=jR T1 kK b.rows.length ⟨by omega,by omega⟩;have kJ:dW (bH T1 b.rows.length).2:=by simpa using kK
 try simp only at hS
 generalize bH T1 (b.rows.length:Int)=J at j1 j2 hd kJ hS;obtain⟨j',T2⟩:=J;simp only at j1 j2 hd kJ hS;obtain⟨j,rfl⟩:∃j:Nat,j'=j:=⟨j'.toNat,by omega⟩
 simp only[dV]at hS;have hj:j<b.rows.length:=by omega
 obtain⟨x,hx0⟩:∃x,b.rows[j]=x:=⟨_,rfl⟩
 have hxd:b.rows.getD j ⟨0,[]⟩ = x:=by rw[ak,ah hj,hx0];rfl
 rw[hxd]at hS
 have Em:∀h:j<(dd (rws b.rows)).length,(dd (rws b.rows))[j] = [TV.d (.int .i64 x.id),TV.d (ints x.nx)]:=fun h=>by simp[dd,rws,Rw.cs,hx0]
 have hrl2:(dd (rws b.rows)).length=b.rows.length:=by simp[dd,rws]
 simp -dsimp[hk,hge,hb0,hr0,ZA,htl,hat,uz];and_intros;all_goals try first|omega|exact⟨by kernel_rfl⟩|rfl|exact dl2
 refine aF.of hd [.x 0] 0 ?_;have hN:CX g.rs b.r T2=if(bH T2 4).1=0 then([b.r],(bH T2 4).2)else if(bH T2 4).1=1 then([],(bH T2 4).2)else(DX b.r (uK g.rs (bH T2 4).2 2).1,(uK g.rs (bH T2 4).2 2).2):=rfl
 have h4:=jR T2 kJ 4 ⟨by omega,by omega⟩;have kS:dW (bH T2 4).2:=by simpa using kJ
 generalize bH T2 4=S at h4 kS hN;simp -dsimp[hk,hj,Em,hrl2,htl,hr0];and_intros;all_goals try first|omega|exact⟨by kernel_rfl⟩|rfl
 refine aF.of h4 [.x 0] 0 ?_;by_cases s0:S.1=0
 ·rw[if_pos s0]at hN
  rw[hN]at hS
  rw[hS];simp -dsimp[s0,hk,hj,Em,hrl2,htl];and_intros;all_goals try first|omega|exact⟨by kernel_rfl⟩|rfl
  refine Fin.wH 15 k 3 37 (e0:=65) (k0:=4) (es0:=(dd (ig l)).set k [TV.d (.int .i64 b.r),TV.d (.int .i64 b.sd),TV.d (.int .i64 b.len),TV.bK 37 b.rows.length]) (NJ:=false) (r:=[TV.d (.int .i64 b.r),TV.d (.int .i64 b.sd),TV.d (.int .i64 b.len),TV.bK 37 b.rows.length]) (n:=b.rows.length) (e:=167) (k:=2) (es:=(dd (rws b.rows)).set j [TV.d (.int .i64 x.id),TV.d (ints [b.r])]) (sh:=false) (xs:=(rws b.rows).set j [D.int .i64 x.id,ints [b.r]]) (by simp) (by omega) (by simp[hk,htl]) (by simp) (by simp[ints]) (by simp[hrl2]) (jq _ _ (by simp[rJ,I_,ints])) ?_
  have hx2:iH ((dd (ig l)).set k [TV.d (.int .i64 b.r),TV.d (.int .i64 b.sd),TV.d (.int .i64 b.len),TV.d (.sl ((rws b.rows).set j [D.int .i64 x.id,ints [b.r]]))])=some ((ig l).set k [D.int .i64 b.r,D.int .i64 b.sd,D.int .i64 b.len,D.sl ((rws b.rows).set j [D.int .i64 x.id,ints [b.r]])]):=jq _ _ (by simp[rJ,I_]);simp only[ints,aH,dY]at hx2;refine Fin.view 6 ?_
  simp -dsimp[hx2,htl,ints];and_intros;all_goals try first|omega|exact⟨by kernel_rfl⟩|rfl
  refine Fin.of ?_;simp[ig,Tb.cs,dZ,rws,Rw.cs,ints,jy]
 rw[if_neg s0]at hN
 by_cases s1:S.1=1
 ·rw[if_pos s1]at hN
  rw[hN]at hS
  rw[hS];simp -dsimp[s0,s1,hk,hj,Em,hrl2,htl];and_intros;all_goals try first|omega|exact⟨by kernel_rfl⟩|rfl
  refine Fin.wH 15 k 3 37 (e0:=65) (k0:=4) (es0:=(dd (ig l)).set k [TV.d (.int .i64 b.r),TV.d (.int .i64 b.sd),TV.d (.int .i64 b.len),TV.bK 37 b.rows.length]) (NJ:=false) (r:=[TV.d (.int .i64 b.r),TV.d (.int .i64 b.sd),TV.d (.int .i64 b.len),TV.bK 37 b.rows.length]) (n:=b.rows.length) (e:=167) (k:=2) (es:=(dd (rws b.rows)).set j [TV.d (.int .i64 x.id),TV.c (Value.slice none 0 0)]) (sh:=false) (xs:=(rws b.rows).set j [D.int .i64 x.id,ints []]) (by simp) (by omega) (by simp[hk,htl]) (by simp) (by simp[ints]) (by simp[hrl2]) (jq _ _ (by simp[rJ,I_,ints])) ?_
  have hx2:iH ((dd (ig l)).set k [TV.d (.int .i64 b.r),TV.d (.int .i64 b.sd),TV.d (.int .i64 b.len),TV.d (.sl ((rws b.rows).set j [D.int .i64 x.id,ints []]))])=some ((ig l).set k [D.int .i64 b.r,D.int .i64 b.sd,D.int .i64 b.len,D.sl ((rws b.rows).set j [D.int .i64 x.id,ints []])]):=jq _ _ (by simp[rJ,I_]);simp only[ints,aH,dY]at hx2;refine Fin.view 6 ?_
  simp -dsimp[hx2,htl,ints];and_intros;all_goals try first|omega|exact⟨by kernel_rfl⟩|rfl
  refine Fin.of ?_;simp[ig,Tb.cs,dZ,rws,Rw.cs,ints,jy]
 rw[if_neg s1]at hN
 rw[hN]at hS
 rw[hS];have hSo:=UH S.2 kS g hg 2 (by omega);simp only[d_]at hSo;have hUl:(uK g.rs S.2 2).1.length≤1000:=by have q1:=iR S.2 (n:=2+1) (by omega);have q2:=yL g.rs (bH S.2 (2+1)).2 (bH S.2 (2+1)).1.toNat;have:(uK g.rs S.2 2).1.length≤(bH S.2 (2+1)).1.toNat:=q2;omega
 generalize uK g.rs S.2 2=U at hSo hUl⊢;obtain⟨U,T5⟩:=U;simp only at hSo hUl⊢;simp -dsimp[s0,s1,hk,hj,Em,hrl2,htl];and_intros;all_goals try first|omega|exact⟨by kernel_rfl⟩|rfl
 refine aF.of hSo [.x 0] 0 ?_;simp -dsimp[ints];and_intros;all_goals try first|omega|exact⟨by kernel_rfl⟩|rfl
 refine bY.of [15,37] (kb 0x20080080f2000000400105fe7) (ι:={i:Nat // i≤U.length})
  (fun z=>(.s 0,It.v (.ptr (.x 0) 0))::(.x 0,iG T5)::(.s 6,It.v (.c (Value.slice none 0 0)))::(.s 9,It.v (.bK 15 l.length))::(.s 11,It.v (.tV 15 l.length k 0))::(.s 12,It.v (.tV 37 b.rows.length j 0))::(.s 64,It.v (.d (ints U)))::(.s 65,It.v (.d (.int .i64 U.length)))::(.s 66,It.v (.d (.int .i64 z.1))) ::
   (.o 15,It.row 65 4 ((dd (ig l)).set k [TV.d (.int .i64 b.r),TV.d (.int .i64 b.sd),TV.d (.int .i64 b.len),TV.bK 37 b.rows.length]) false)::(.o 37,It.row 167 2 ((dd (rws b.rows)).set j [TV.d (.int .i64 x.id),Gj (DX b.r (U.take z.1))]) false)::Gl 3 (DX b.r (U.take z.1)))
  (fun z=>U.length-z.1) ⟨0,by omega⟩ ?_ ?_
 ·exact GS.to (by simp[Gj,Gl,ints,DX];exact⟨gK (by simp) (by simp),gK (by simp) (by simp)⟩)
 rintro⟨i,i1⟩;by_cases hi:i<U.length
 ·have hiz:(i:Int)<U.length:=by omega
  have hgu:U[i]? = some U[i]:=ah hi;obtain⟨u,hu0⟩:∃u,U[i]=u:=⟨_,rfl⟩
  rw[hu0]at hgu
  have Qb:(DX b.r (U.take i)).length≤i:=aY (aQ _ _) (by rw[bF];omega);have hF:DX b.r (U.take (i+1))=DX b.r (U.take i)++if u=b.r then []else [u]:=by rw[aO,hgu,DX,bJ];by_cases e:u=b.r<;>simp[e,DX]
  by_cases hub:u=b.r
  ·rw[if_pos hub,aZ]at hF
   generalize DX b.r (U.take i)=F at Qb hF⊢;cases F with
   | nil=>
     simp -dsimp[hi,hiz,hgu,hu0,hub,hk,hj,htl,hrl2,ints,Gj,Gl,wrap_i64 (n:=(i:Int)+1) (by omega) (by omega)];and_intros;all_goals try first|omega|exact⟨by kernel_rfl⟩|rfl|exact hu0|(simp at Qb;omega)
     exact⟨⟨i+1,by omega⟩,GS.to (by simp[hF,Gj,Gl,ints,fE];exact⟨gK (by simp) (by simp),gK (by simp) (by simp)⟩),by simp;omega⟩
   | cons f F=>
     simp -dsimp[hi,hiz,hgu,hu0,hub,hk,hj,htl,hrl2,ints,Gj,Gl,wrap_i64 (n:=(i:Int)+1) (by omega) (by omega)];and_intros;all_goals try first|omega|exact⟨by kernel_rfl⟩|rfl|exact hu0|(simp at Qb;omega)
     exact⟨⟨i+1,by omega⟩,GS.to (by simp[hF,Gj,Gl,ints,fE];exact⟨gK (by simp) (by simp),gK (by simp) (by simp)⟩),by simp;omega⟩
  ·rw[if_neg hub]at hF
   generalize DX b.r (U.take i)=F at Qb hF⊢;cases F with
   | nil=>
     simp -dsimp[hi,hiz,hgu,hu0,hub,hk,hj,htl,hrl2,ints,Gj,Gl,wrap_i64 (n:=(i:Int)+1) (by omega) (by omega)];and_intros;all_goals try first|omega|exact⟨by kernel_rfl⟩|rfl|exact hu0|(simp at Qb;omega)
     exact⟨⟨i+1,by omega⟩,GS.to (by simp[hF,Gj,Gl,ints,fE];exact⟨gK (by simp) (by simp),gK (by simp) (by simp)⟩),by simp;omega⟩
   | cons f F=>
     simp -dsimp[hi,hiz,hgu,hu0,hub,hk,hj,htl,hrl2,ints,Gj,Gl,wrap_i64 (n:=(i:Int)+1) (by omega) (by omega)];and_intros;all_goals try first|omega|exact⟨by kernel_rfl⟩|rfl|exact hu0|(simp at Qb;omega)
     exact⟨⟨i+1,by omega⟩,GS.to (by simp[hF,Gj,Gl,ints,fE];exact⟨gK (by simp) (by simp),gK (by simp) (by simp)⟩),by simp;omega⟩
 ·have hiz :¬(i:Int)<U.length:=by omega
  obtain rfl:i=U.length:=by omega
  rw[bP];generalize DX b.r U=F;cases F with
  | nil=>
    simp -dsimp[hiz,hk,hj,Em,hrl2,htl,Gj,Gl];and_intros;all_goals try first|omega|exact⟨by kernel_rfl⟩|rfl
    refine Fin.wH 15 k 3 37 (e0:=65) (k0:=4) (es0:=(dd (ig l)).set k [TV.d (.int .i64 b.r),TV.d (.int .i64 b.sd),TV.d (.int .i64 b.len),TV.bK 37 b.rows.length]) (NJ:=false) (r:=[TV.d (.int .i64 b.r),TV.d (.int .i64 b.sd),TV.d (.int .i64 b.len),TV.bK 37 b.rows.length]) (n:=b.rows.length) (e:=167) (k:=2) (es:=(dd (rws b.rows)).set j [TV.d (.int .i64 x.id),TV.c (Value.slice none 0 0)]) (sh:=false) (xs:=(rws b.rows).set j [D.int .i64 x.id,ints []]) (by simp) (by omega) (by simp[hk,htl]) (by simp) (by simp[ints]) (by simp[hrl2]) (jq _ _ (by simp[rJ,I_,ints])) ?_
    have hx2:iH ((dd (ig l)).set k [TV.d (.int .i64 b.r),TV.d (.int .i64 b.sd),TV.d (.int .i64 b.len),TV.d (.sl ((rws b.rows).set j [D.int .i64 x.id,ints []]))])=some ((ig l).set k [D.int .i64 b.r,D.int .i64 b.sd,D.int .i64 b.len,D.sl ((rws b.rows).set j [D.int .i64 x.id,ints []])]):=jq _ _ (by simp[rJ,I_]);simp only[ints,aH,dY]at hx2;refine Fin.view 6 ?_
    simp -dsimp[hx2,htl,ints];and_intros;all_goals try first|omega|exact⟨by kernel_rfl⟩|rfl
    refine Fin.of ?_;simp[ig,Tb.cs,dZ,rws,Rw.cs,ints,jy]
  | cons f F=>
    simp -dsimp[hiz,hk,hj,Em,hrl2,htl,Gj,Gl];and_intros;all_goals try first|omega|exact⟨by kernel_rfl⟩|rfl
    refine Fin.wH 37 j 1 83 (e0:=167) (k0:=2) (es0:=(dd (rws b.rows)).set j [TV.d (.int .i64 x.id),TV.bK 83 (f::F).length]) (NJ:=false) (r:=[TV.d (.int .i64 x.id),TV.bK 83 (f::F).length]) (n:=(f::F).length) (e:=3) (k:=1) (es:=dd (fE .i64 (f::F))) (sh:=false) (xs:=fE .i64 (f::F)) (by simp) (by omega) (by simp[hj,hrl2]) (by simp) (by simp[fE]) (by simp[fE]) (zu _) ?_
    simp -dsimp[fE]
    refine Fin.wH 15 k 3 37 (e0:=65) (k0:=4) (es0:=(dd (ig l)).set k [TV.d (.int .i64 b.r),TV.d (.int .i64 b.sd),TV.d (.int .i64 b.len),TV.bK 37 b.rows.length]) (NJ:=false) (r:=[TV.d (.int .i64 b.r),TV.d (.int .i64 b.sd),TV.d (.int .i64 b.len),TV.bK 37 b.rows.length]) (n:=b.rows.length) (e:=167) (k:=2) (es:=(dd (rws b.rows)).set j [TV.d (.int .i64 x.id),TV.d (ints (f::F))]) (sh:=false) (xs:=(rws b.rows).set j [D.int .i64 x.id,ints (f::F)]) (by simp) (by omega) (by simp[hk,htl]) (by simp) (by simp[ints]) (by simp[hrl2]) (jq _ _ (by simp[rJ,I_,ints])) ?_
    have hx2:iH ((dd (ig l)).set k [TV.d (.int .i64 b.r),TV.d (.int .i64 b.sd),TV.d (.int .i64 b.len),TV.d (.sl ((rws b.rows).set j [D.int .i64 x.id,ints (f::F)]))])=some ((ig l).set k [D.int .i64 b.r,D.int .i64 b.sd,D.int .i64 b.len,D.sl ((rws b.rows).set j [D.int .i64 x.id,ints (f::F)])]):=jq _ _ (by simp[rJ,I_]);simp only[ints,aH,dY]at hx2
    refine Fin.view 6 ?_;simp -dsimp[hx2,htl,ints];and_intros;all_goals try first|omega|exact⟨by kernel_rfl⟩|rfl
    refine Fin.of ?_;simp[ig,Tb.cs,dZ,rws,Rw.cs,ints,jy]
set_option linter.unusedVariables false
theorem ahL{g:bV}(hg:jE g=0)(h0:0<g.rs.length){p:Pn}{l:List Tb}(h:Gq g p l)(T:Tp):∀i:Nat,Gq g p (Qe g.rs l T i).1
 | 0=>h
 | i+1=>(ahL hg h0 h T i).step hg h0 _
theorem EL(p:Int):Contract Tryz.prog 131 [.d (.int .i64 p)] [] (.d (.bool (inB p 0 7))) [] []:=by
 refine aC Tryz.func131 rfl (fun E0=>?_);refine iK.sound (g:=.mk) (ow:=[]) (kp:=(kb 5)) ?_;rw[Tryz.ntmps131];by_cases h:0≤p
 ·simp -dsimp[h];refine Fin.of ?_;simp[inB,h];omega
 ·simp -dsimp[h];refine Fin.of ?_;simp[inB,h]
theorem Hy(b:Tb)(hb:b.Sm)(id p:Int):Contract Tryz.prog 57 [gQ b,.d (.int .i64 id),.d (.int .i64 p)] [] (.d (.int .i64 (jo b id p))) [] []:=by
 refine aC Tryz.func57 rfl (fun E0=>?_);refine iK.sound (g:=.mk) (ow:=[]) (kp:=(kb 0x404f)) ?_;rw[Tryz.ntmps57];simp -dsimp[gQ];refine aF.of (D9 b hb.rows hb.nx) [] 0 ?_;by_cases h0:chk b=0
 ·simp -dsimp[gQ,h0];refine aF.of (EL p) [] 0 ?_;by_cases hp:0≤p∧p≤7
  ·have e:inB p 0 7=true:=by simp[inB,hp]
   have hv:Ar b p 0=true:=qw.2 ⟨h0,hp,by omega,by omega⟩;simp -dsimp[gQ,h0,e];and_intros;all_goals try first|rfl|omega|exact⟨by kernel_rfl⟩
   refine aF.of (zO b hb id p hp) [] 0 ?_;simp -dsimp[gQ];and_intros;all_goals try first|rfl|omega|exact⟨by kernel_rfl⟩
   refine Fin.of ?_;simp[jo,hv]
  ·have e:inB p 0 7=false:=by
    cases h:inB p 0 7
    ·rfl
    ·exact absurd (by simpa[inB]using h) hp
   have hv :¬Ar b p 0=true:=fun h=>hp (qw.1 h).2.1
   simp -dsimp[gQ,h0,e];and_intros;all_goals try first|rfl|omega|exact⟨by kernel_rfl⟩
   refine Fin.of ?_;simp[jo,hv]
 ·have hv :¬Ar b p 0=true:=fun h=>h0 (qw.1 h).1
  simp -dsimp[gQ,h0];and_intros;all_goals try first|rfl|omega|exact⟨by kernel_rfl⟩
  refine Fin.of ?_;simp[jo,hv]
theorem GN{f h:Int→Int}:∀{n:Nat} {i v:Int},dif f h n i=some v→∃j:Int,i≤j∧j<i+n∧v=f j∧f j≠h j∧∀k:Int,i≤k→k<j→f k=h k
 | 0,i,v,e=>by trivial
 | n+1,i,v,e=>by
   unfold dif at e;split at e
   ·grind
   ·obtain⟨j,a1,a2,a3,a4,a5⟩:=GN e
    grind
theorem aiS{b:Tb}(h:chk b=0):∀x∈b.rows,∀n∈x.nx,Df n 1 99:=by
 unfold chk at h;split at h
 ·simp at h
 split at h
 ·simp at h
 rename_i h2;intro x hx n hn;exact Classical.byContradiction fun hc=>h2 ⟨x,hx,.inr ⟨n,hn,hc⟩⟩
theorem ahN(b:Tb)(id pl:Int):0≤jo b id pl:=by
 unfold jo;split
 ·rename_i hv;have hc:=(qw.1 hv).1;unfold qc tH;split
  ·omega
  ·rename_i h0;cases hr:rowOf b id with
   | none=>simp
   | some x=>
     simp only[bf]at h0⊢;have hx:x∈b.rows:=gG hr;rw[ak];cases hg:x.nx[(pl%x.nx.length).toNat]? with
     | none=>simp
     | some v=>
       have hv2:=bU hg;have:=aiS hc x hx v hv2;unfold Df at this
       grind
 omega
theorem ahu{bad l:List Tb}(h:bad.map (·.r)=l.map (·.r))(ha:l.Pairwise fun x y=>x.r<y.r)(es:List Ed):yA bad l es=(l.zip bad).flatMap fun q=>Bf q.2 q.1 es:=by
 have hb:bad.Pairwise fun x y=>x.r<y.r:=by
  have h2:(l.map (·.r)).Pairwise (· < ·):=by grind
  grind
 have hlen:bad.length=l.length:=by simpa using congrArg List.length h
 have key:∀q∈l.zip bad,iq bad q.1.r=some q.2:=fun q hq=>by
  obtain⟨i,hi,rfl⟩:=jC hq;rw[List.length_zip]at hi
  have hr:(bad[i]'(by omega)).r=(l[i]'(by omega)).r:=by
   have h1:(bad.map (·.r))[i]? = some (bad[i]'(by omega)).r:=by grind
   grind
  grind[GX]
 have e:l=(l.zip bad).map (·.1):=by grind[List.map_fst_zip]
 unfold yA
 conv=>lhs;rw[e]
 rw[List.flatMap_map];have:∀(z:List (Tb×Tb)),(∀q∈z,iq bad q.1.r=some q.2)→(z.flatMap fun q=>Bf ((iq bad q.1.r).getD tb0) q.1 es)=z.flatMap fun q=>Bf q.2 q.1 es:=fun z=>by
  induction z with
  | nil=>simp
  | cons q z ih=>grind
 grind
set_option maxHeartbeats 16000000
theorem Qw{g:bV}(hg:jE g=0)(hA:yu g){p:Pn}(hp:iT p=true){l:List Tb}(h:Gq g p l):xQ g p l=(yA l (tabs g p g.rs) p.es,0):=by
 have hall:=(h.YA hg).all;have hlen:l.length=(tabs g p g.rs).length:=by have:=congrArg List.length h.rs;simp_all
 have heq:NH p (tabs g p g.rs) l=true:=RX hlen.symm fun i a b h1 h2=>by
  have hr:a.r=b.r:=by
   have e:=congrArg (fun m=>m[i]?) h.rs
   simp_all
  have hs:=h.sd b (bU h2)
  grind[Zc]
 have e:exV g p l=(tabs g p g.rs,0):=by unfold exV;rw[if_neg (by simp[*]),if_neg,if_neg (by simp[*])];rw[kY,dL];intro x hx;simp[hA x hx]
 unfold xQ;simp[*]
section
variable {α β γ:Type}
def Jf(G:α→β→Option γ)(Z:List α)(es:List β)(i k:Nat):Nat:=
 ((Z.take i).flatMap fun q=>es.filterMap (G q)).length+match Z[i]? with
   | some q=>((es.take k).filterMap (G q)).length
   | none=>0
variable {G:α→β→Option γ} {Z:List α} {es:List β}
theorem afb{i k:Nat}{q:α}{x:β}(hq:Z[i]? = some q)(hx:es[k]? = some x)(h:G q x=none):Jf G Z es i (k+1)=Jf G Z es i k:=by grind[Jf,List.take_add_one]
theorem afc{i k:Nat}{q:α}{x:β}{v:γ}(hq:Z[i]? = some q)(hx:es[k]? = some x)(h:G q x=some v):
  Jf G Z es i (k+1)=Jf G Z es i k+1∧(Z.flatMap fun q=>es.filterMap (G q))[Jf G Z es i k]? = some v:=by
 constructor
 ·grind[Jf,List.take_add_one]
 ·have e1:Z=Z.take i++q::Z.drop (i+1):=by
   obtain⟨hi,rfl⟩:=aA.1 hq;rw[←aU,lS]
  have e2:es=es.take k++x::es.drop (k+1):=by obtain⟨hi,rfl⟩:=aA.1 hx;rw[←aU,lS]
  have e3:es.filterMap (G q)=(es.take k).filterMap (G q)++v::(es.drop (k+1)).filterMap (G q):=by
   conv=>lhs;rw[e2]
   rw[List.filterMap_append,List.filterMap_cons,h]
  have e4:(Z.flatMap fun q=>es.filterMap (G q))=((Z.take i).flatMap fun q=>es.filterMap (G q))++((es.take k).filterMap (G q)++v::(es.drop (k+1)).filterMap (G q))++(Z.drop (i+1)).flatMap fun q=>es.filterMap (G q):=by
   conv=>lhs;rw[e1]
   rw[lG,gV,←e3,eU]
  rw[e4];unfold Jf;rw[hq];simp only;rw[eU,dh (by omega),eU,dh (by omega)];simp
theorem afa{i:Nat}{q:α}(hq:Z[i]? = some q):Jf G Z es (i+1) 0=Jf G Z es i es.length:=by grind[Jf,List.take_add_one]
theorem ahJ:Jf G Z es Z.length 0=(Z.flatMap fun q=>es.filterMap (G q)).length:=by simp[Jf]
theorem afd:Jf G Z es 0 0=0:=by grind[Jf]
theorem ac4:∀Z:List α,(Z.flatMap fun q=>es.filterMap (G q)).length≤Z.length*es.length
 | []=>by simp
 | q::Z=>by have:=ac4 Z;have h2:=List.length_filterMap_le (G q) es;rw[gV,aS,aT,dX];omega
end
theorem agp{f h:Int→Int}{j:Nat}(hj:j<8):(dif f h (j+1) (8-((j:Int)+1)))=if f (7-j)≠h (7-j)then some (f (7-j))else dif f h j (8-j):=by grind[dif]
theorem afQ(L:List Int)(hL:∀x∈L,I64 x):Contract Tryz.prog 11 [.d (ints L)] [] (.d (.bool true)) [] []:=by
 have kT:dW (L.take 2000,0):=EZ L hL;have hc0:=TM L;generalize (L.take 2000,0)=T0 at kT hc0;obtain⟨h1,h2,h3,h4⟩:=BX T0 (most:=6) (by omega);have hc1:=Hw T0 kT 6 (by omega);have kA:dW (Az T0 6).2:=by simp[*]
 generalize Az T0 6=A at h1 h2 h3 h4 hc1 kA;obtain⟨g,T1⟩:=A;simp only at h1 h2 h3 h4 hc1 kA;obtain⟨p1,p2,p3,p4,p5,p6⟩:=y8 h1 (by omega) T1;have hc2:=MO T1 kA g (by omega);have kB:dW (rH g.rs T1).2:=by simp[*]
 generalize rH g.rs T1=B at p1 p2 p3 p4 p5 p6 hc2 kB;obtain⟨p,T2⟩:=B;simp only at p1 p2 p3 p4 p5 p6 hc2 kB;have hc3:=IC g (gY h1).sm p (by omega);rw[BI h1 p1]at hc3
 have hV:BH g p (tabs g p g.rs):=⟨h1,h2,⟨h3,by omega⟩,p1,p4,p6,⟨p2,p3⟩,p5,Gq.init h1 p1⟩
 have hsm:=hV.sm;have hgs:g.Sm:=(gY h1).sm;have hN:=jR T2 kB 6 ⟨by omega,by omega⟩;have n1:=eX T2 6;have n2:=iR T2 (n:=6) (by omega);have kN:dW (bH T2 6).2:=by simp[*]
 generalize bH T2 6=N0 at hN n1 n2 kN;obtain⟨m',T3⟩:=N0;simp only at hN n1 n2 kN;obtain⟨m,rfl⟩:∃m:Nat,m'=m:=⟨m'.toNat,by omega⟩
 have hSv:=fun i=>ahL h1 (by omega) hV.tab T3 i
 have hSt:∀i,dW (Qe g.rs (tabs g p g.rs) T3 i).2:=fun i=>by simp[*]
 have hSc:=fun i=>Np (Qe g.rs (tabs g p g.rs) T3 i).2 (hSt i) g ⟨by omega,by omega⟩ (Qe g.rs (tabs g p g.rs) T3 i).1 ((hSv i).YA h1).sm
 have hS2:=hSv m;have hL1:=ED g hgs p (by omega) (Qe g.rs (tabs g p g.rs) T3 m).1 (.inl (hS2.YA h1).sm);rw[Qw h1 h2 p1 hS2,ahu hS2.rs hV.loc.NR]at hL1
 have hbl:(Qe g.rs (tabs g p g.rs) T3 m).1.length=(tabs g p g.rs).length:=by have:=congrArg List.length hS2.rs;simp_all
 have hbs:∀b∈(Qe g.rs (tabs g p g.rs) T3 m).1,b.Sm:=fun b hb=>Fp (hS2.ck b hb)
 have hls:∀b∈tabs g p g.rs,b.Sm:=fun b hb=>Fp (hV.tab.ck b hb)
 have ag4:=fun (b:Tb) (hb:b.Sm) (id k:Int)=>Hy b hb id k
 have haw:=D6;have hll:(tabs g p g.rs).length≤24:=(hV.tab.YA h1).n;obtain⟨SP,hSP⟩:∃SP:Nat→List Tb×Tp,SP=fun i=>Qe g.rs (tabs g p g.rs) T3 i:=⟨_,rfl⟩
 have anb:SP 0=(tabs g p g.rs,T3):=by rw[hSP];rfl
 have anf:∀i,dW (SP i).2∧∃u v,Contract Tryz.prog 55 [.ptr (.x 0) 0,.d (.sl (ig (SP i).1)),d_ g] [iG (SP i).2] (.sZ [.d (.sl (ig (SP (i+1)).1)),.d (.int .i64 u),.d (.int .i64 v)]) [iG (SP (i+1)).2] []:=fun i=>by rw[hSP];exact⟨hSt i,_,_,hSc i⟩
 have ane:Qe g.rs (tabs g p g.rs) T3 m=SP m:=by simp_all
 rw[ane]at hL1 hbl hbs
 clear hSP ane hSc hSt hSv hS2;generalize hbad:(SP m).1=bad at hL1 hbl hbs;generalize tabs g p g.rs=l at hc3 hsm hL1 hbl hls hll anb;obtain⟨G,hG⟩:∃G:Tb×Tb→Ed→Option (List Int),G=fun q x=>(dif (jo q.2 x.id) (jo q.1 x.id) 8 0).map fun v=>[5,q.1.r,x.id,v]:=⟨_,rfl⟩
 have hFe:((l.zip bad).flatMap fun q=>Bf q.2 q.1 p.es)=(l.zip bad).flatMap fun q=>p.es.filterMap (G q):=by rw[hG];rfl
 rw[hFe]at hL1
 have hGe:∀b c x,G (b,c) x=(dif (jo c x.id) (jo b x.id) 8 0).map fun v=>[5,b.r,x.id,v]:=fun b c x=>by rw[hG]
 have Qb:=ac4 (es:=p.es) (G:=G) (l.zip bad);have hzl:(l.zip bad).length=l.length:=by simp[*]
 rw[hzl]at Qb
 have avO:l.length*p.es.length≤24*7:=nK (by omega) p5;obtain⟨NP,hNP⟩:∃NP:Nat→Nat→Nat,NP=Jf G (l.zip bad) p.es:=⟨_,rfl⟩
 have hz:∀i b c,l[i]? = some b→bad[i]? = some c→(l.zip bad)[i]? = some (b,c):=fun i b c h h'=>by rw[List.getElem?_zip_eq_some];trivial
 have hP0:NP 0 0=0:=by rw[hNP];exact afd
 have hPn:∀i k b c x,l[i]? = some b→bad[i]? = some c→p.es[k]? = some x→dif (jo c x.id) (jo b x.id) 8 0=none→NP i (k+1)=NP i k:=fun i k b c x a1 a2 a3 a4=>by rw[hNP];grind[afb]
 have AP:∀i k b c x v,l[i]? = some b→bad[i]? = some c→p.es[k]? = some x→dif (jo c x.id) (jo b x.id) 8 0=some v→NP i (k+1)=NP i k+1∧((l.zip bad).flatMap fun q=>p.es.filterMap (G q))[NP i k]? = some [5,b.r,x.id,v]:=fun i k b c x v a1 a2 a3 a4=>by rw[hNP];grind[afc]
 have hPx:∀i b c,l[i]? = some b→bad[i]? = some c→NP (i+1) 0=NP i p.es.length:=fun i b c a1 a2=>by rw[hNP];grind[afa]
 have AO:NP l.length 0=((l.zip bad).flatMap fun q=>p.es.filterMap (G q)).length:=by rw[hNP,←hzl];exact ahJ
 clear hNP hGe hG hFe hz;generalize ((l.zip bad).flatMap fun q=>p.es.filterMap (G q))=F at hL1 Qb AP AO;simp only[d_,iE]at hL1 anf;simp only[d_,iE,allT,ints]at hc0 hc1 hc2 hc3;rw[show ∀m:List Tb,List.map Tb.cs m=ig m from fun _=>rfl]at hc3
 refine aC Tryz.func11 rfl (fun E0=>?_);refine iK.sound (g:=.mk) (ow:=[]) (kp:=(kb 0x20001200011e1f000020000f7f7d)) ?_;rw[Tryz.ntmps11];simp -dsimp[ints];refine aF.of hc0 [] 3000 ?_;simp -dsimp;and_intros
 all_goals try first|rfl|omega|exact⟨by kernel_rfl⟩
 refine aF.of hc1 [.o 3009] 0 ?_;simp -dsimp;and_intros;all_goals try first|rfl|omega|exact⟨by kernel_rfl⟩
 refine aF.of hc2 [.o 3009] 0 ?_;simp -dsimp;and_intros;all_goals try first|rfl|omega|exact⟨by kernel_rfl⟩
 refine aF.of hc3 [] 0 ?_;simp -dsimp;and_intros;all_goals try first|rfl|omega|exact⟨by kernel_rfl⟩
 refine aF.of hN [.o 3009] 0 ?_;simp -dsimp;and_intros;all_goals try first|rfl|omega|exact⟨by kernel_rfl⟩
 refine bY.of [] (kb 0x20001200011e1f000020000f7f7d) (ι:={i:Nat // i≤m})
  (fun z=>[(.o 3009,iG (SP z.1).2),(.s 3,It.v (.ptr (.o 3009) 0)),(.o 4,It.box [TV.d (.sl (rts g.rs)),TV.d (.sl (pq g.ls))]),(.s 4,It.v (.ptr (.o 4) 0)),(.o 5,It.box [TV.d (.int .i64 p.gU),TV.d (.int .i64 p.len),TV.d (.sl (lX p.es))]),(.s 5,It.v (.ptr (.o 5) 0)),(.s 6,It.v (.d (.sl (ig l)))),(.s 8,It.v (.d (.sl (ig (SP z.1).1)))),(.s 9,It.v (.d (.int .i64 ((m:Int)-z.1))))])
  (fun z=>m-z.1) ⟨0,by omega⟩ ?_ ?_
 ·exact GS.to (by simp[anb])
 rintro⟨i,i1⟩;by_cases hi:i<m
 ·obtain⟨kS,u,v,hc⟩:=anf i;have hmz:(0:Int)<(m:Int)-i:=by omega
  have w1:IntKind.i64.wrap ((m:Int)-i-1)=(m:Int)-i-1:=wrap_i64 (by omega) (by omega);simp -dsimp[hmz,hi];and_intros;all_goals try first|rfl|omega|exact⟨by kernel_rfl⟩
  refine aF.of hc [.o 3009] 0 ?_;simp -dsimp[w1];and_intros;all_goals try first|rfl|omega|exact⟨by kernel_rfl⟩
  have e1:(m:Int)-((i:Int)+1)=(m:Int)-i-1:=by omega
  exact⟨⟨i+1,by omega⟩,GS.to (by simp[e1]),by grind⟩
 obtain rfl:i=m:=by omega
 have hmz :¬(0:Int)<(i:Int)-i:=by omega
 rw[hbad];simp -dsimp[hmz];and_intros;all_goals try first|rfl|omega|exact⟨by kernel_rfl⟩
 refine aF.of hL1 [] 0 ?_;simp -dsimp;and_intros;all_goals try first|rfl|omega|exact⟨by kernel_rfl⟩
 refine bY.of [] (kb 0x20001200011e1f000020000f7f7d) (ι:={i:Nat // i≤l.length})
  (fun z=>[(.o 5,It.box [TV.d (.int .i64 p.gU),TV.d (.int .i64 p.len),TV.d (.sl (lX p.es))]),(.s 5,It.v (.ptr (.o 5) 0)),(.s 6,It.v (.d (.sl (ig l)))),(.s 8,It.v (.d (.sl (ig bad)))),(.s 10,It.v (.d (.sl (lC F)))),(.s 12,It.v (.d (.int .i64 (NP z.1 0)))),
   (.s 57,It.v (.d (.sl (ig l)))),(.s 58,It.v (.d (.int .i64 l.length))),(.s 59,It.v (.d (.int .i64 z.1)))])
  (fun z=>l.length-z.1) ⟨0,by omega⟩ ?_ ?_
 ·exact GS.to (by simp[ig,hP0])
 clear hi i1 hmz;rintro⟨i,i1⟩;by_cases hi:i<l.length
 ·have hiz:(i:Int)<l.length:=by omega
  have hx:l[i]? = some l[i]:=ah hi;have hm:=aB hi;have hy:bad[i]? = some (bad[i]'(by omega)):=ah (by omega);have hym:=aB (l:=bad) (n:=i) (by omega);generalize l[i]=b at hx hm;generalize bad[i]'(by omega)=c at hy hym;have hbm:=hls b hm;have hcm:=hbs c hym;have hx':(ig l)[i]? = some b.cs:=by simp[ig,hx]
  have hy':(ig bad)[i]? = some c.cs:=by simp[ig,hy]
  have w1:IntKind.i64.wrap ((i:Int)+1)=(i:Int)+1:=wrap_i64 (by omega) (by omega);have ak3:(i:Int)<bad.length:=by omega
  have hpx:=hPx i b c hx hy;have hpn:=fun k x=>hPn i k b c x hx hy
  have hps:=fun k x v=>AP i k b c x v hx hy
  simp -dsimp[hiz,hx',Tb.cs];and_intros;all_goals try first|rfl|omega|exact⟨by kernel_rfl⟩
  refine bY.of [] (kb 0x20001200011e1f000020000f7f7d) (ι:={k:Nat // k≤p.es.length})
   (fun z=>[(.o 5,It.box [TV.d (.int .i64 p.gU),TV.d (.int .i64 p.len),TV.d (.sl (lX p.es))]),(.s 5,It.v (.ptr (.o 5) 0)),(.s 6,It.v (.d (.sl (ig l)))),(.s 8,It.v (.d (.sl (ig bad)))),(.s 10,It.v (.d (.sl (lC F)))),(.s 12,It.v (.d (.int .i64 (NP i z.1)))),
    (.s 57,It.v (.d (.sl (ig l)))),(.s 58,It.v (.d (.int .i64 l.length))),(.s 59,It.v (.d (.int .i64 i))),(.s 13,It.v (.d (.int .i64 i))),(.o 14,It.box [TV.d (.int .i64 b.r),TV.d (.int .i64 b.sd),TV.d (.int .i64 b.len),TV.d (dZ b.rows)]),(.s 14,It.v (.ptr (.o 14) 0)),
    (.s 65,It.v (.d (.sl (lX p.es)))),(.s 66,It.v (.d (.int .i64 p.es.length))),(.s 67,It.v (.d (.int .i64 z.1)))])
   (fun z=>p.es.length-z.1) ⟨0,by omega⟩ ?_ ?_
  ·exact GS.to (by simp[ig,dZ])
  rintro⟨k,k1⟩;by_cases hk:k<p.es.length
  ·have hkz:(k:Int)<p.es.length:=by omega
   have he:p.es[k]? = some p.es[k]:=ah hk;generalize p.es[k]=e at he;have he':(lX p.es)[k]? = some [D.int .i64 e.r,D.int .i64 e.id]:=by simp[lX,he,Ed.cs]
   have w2:IntKind.i64.wrap ((k:Int)+1)=(k:Int)+1:=wrap_i64 (by omega) (by omega);have hpn:=hpn k e he;have hps:=fun v=>hps k e v he
   have hnb:=fun pl:Int=>ag4 b hbm e.id pl
   have hnc:=fun pl:Int=>ag4 c hcm e.id pl
   have hnn:=fun pl:Int=>ahN c e.id pl
   generalize jo b e.id=fb at hnb hpn hps;generalize jo c e.id=fc at hnc hpn hps hnn;simp only[gQ,Tb.cs,List.map]at hnb hnc;simp -dsimp[hkz,he'];and_intros;all_goals try first|rfl|omega|exact⟨by kernel_rfl⟩
   refine bY.of [] (kb 0x20001200011e1f000020000f7f7d) (ι:={j:Nat // j≤8})
    (fun z=>[(.o 5,It.box [TV.d (.int .i64 p.gU),TV.d (.int .i64 p.len),TV.d (.sl (lX p.es))]),(.s 5,It.v (.ptr (.o 5) 0)),(.s 6,It.v (.d (.sl (ig l)))),(.s 8,It.v (.d (.sl (ig bad)))),(.s 10,It.v (.d (.sl (lC F)))),(.s 12,It.v (.d (.int .i64 (NP i k)))),
     (.s 57,It.v (.d (.sl (ig l)))),(.s 58,It.v (.d (.int .i64 l.length))),(.s 59,It.v (.d (.int .i64 i))),(.s 13,It.v (.d (.int .i64 i))),(.o 14,It.box [TV.d (.int .i64 b.r),TV.d (.int .i64 b.sd),TV.d (.int .i64 b.len),TV.d (dZ b.rows)]),(.s 14,It.v (.ptr (.o 14) 0)),
     (.s 65,It.v (.d (.sl (lX p.es)))),(.s 66,It.v (.d (.int .i64 p.es.length))),(.s 67,It.v (.d (.int .i64 k))),(.o 16,It.box [TV.d (.int .i64 e.r),TV.d (.int .i64 e.id)]),(.s 16,It.v (.ptr (.o 16) 0)),(.s 17,It.v (.d (.int .i64 ((dif fc fb z.1 (8-(z.1:Int))).getD (-1))))),(.s 18,It.v (.d (.int .i64 (7-(z.1:Int)))))])
    (fun z=>8-z.1) ⟨0,by omega⟩ ?_ ?_
   ·exact GS.to (by simp[ig,dZ,lX,dif])
   rintro⟨j,j1⟩;by_cases hj:j<8
   ·have hjz:(0:Int)≤7-j:=by omega
    have w3:IntKind.i64.wrap ((7:Int)-j-1)=7-j-1:=wrap_i64 (by omega) (by omega);have e7:(7:Int)-((j:Int)+1)=7-j-1:=by omega
    have hst:=agp (f:=fc) (h:=fb) hj;have hb7:=hnb (7-j);have hc7:=hnc (7-j);generalize fb (7-(j:Int))=vb at hst hb7;generalize fc (7-(j:Int))=vc at hst hc7;have hj7:(j:Int)≤7:=by omega
    simp -dsimp[hjz,hj7,hy',ak3,Tb.cs];and_intros;all_goals try first|rfl|omega|exact⟨by kernel_rfl⟩
    refine aF.of hc7 [] 0 ?_;simp -dsimp;and_intros;all_goals try first|rfl|omega|exact⟨by kernel_rfl⟩
    refine aF.of hb7 [] 0 ?_;by_cases hv:vc=vb
    ·rw[if_neg (by simp[hv])]at hst
     simp -dsimp[eq_true hv,w3];and_intros;all_goals try first|rfl|omega|exact⟨by kernel_rfl⟩
     exact⟨⟨j+1,by omega⟩,GS.to (by simp[ig,dZ,lX,hst,e7]),by simp;omega⟩
    ·rw[if_pos hv]at hst
     simp -dsimp[eq_false hv,w3];and_intros;all_goals try first|rfl|omega|exact⟨by kernel_rfl⟩
     exact⟨⟨j+1,by omega⟩,GS.to (by simp[ig,dZ,lX,hst,e7]),by simp;omega⟩
   have hjz :¬(0:Int)≤7-j:=by omega
   obtain rfl:j=8:=by omega
   cases hd:dif fc fb 8 0 with
   | none=>
     have hpn:=hpn hd;simp -dsimp[hjz,hd,w2];and_intros;all_goals try first|rfl|omega|exact⟨by kernel_rfl⟩
     exact⟨⟨k+1,by omega⟩,GS.to (by simp[ig,dZ,lX,hpn]),by simp;omega⟩
   | some v=>
     obtain⟨hp1,hp2⟩:=hps v hd;have hv0:0≤v:=by obtain⟨q,_,_,e,_⟩:=GN hd;rw[e];exact hnn q
     have asz :¬v<0:=by omega
     have hlt:NP i k<F.length:=(aA.1 hp2).1;have asu :¬(F.length:Int)≤NP i k:=by omega
     have hltz:(NP i k:Int)<F.length:=by omega
     have hf':(lC F)[NP i k]? = some [D.int .i64 5,D.int .i64 b.r,D.int .i64 e.id,D.int .i64 v]:=by simp[lC,hp2]
     have abA:(lC F).length=F.length:=by simp[lC]
     have w4:IntKind.i64.wrap ((NP i k:Int)+1)=(NP i k:Int)+1:=wrap_i64 (by omega) (by omega);simp -dsimp[hjz,hd,w2,asz,asu,hltz,hf',abA,w4];and_intros;all_goals try first|rfl|omega|exact⟨by kernel_rfl⟩
     exact⟨⟨k+1,by omega⟩,GS.to (by simp[ig,dZ,lX,hp1]),by simp;omega⟩
  have hkz :¬(k:Int)<p.es.length:=by omega
  obtain rfl:k=p.es.length:=by omega
  simp -dsimp[hkz,w1];and_intros;all_goals try first|rfl|omega|exact⟨by kernel_rfl⟩
  exact⟨⟨i+1,by omega⟩,GS.to (by simp[ig,hpx]),by simp;omega⟩
 have hiz :¬(i:Int)<l.length:=by omega
 obtain rfl:i=l.length:=by omega
 have abA:(lC F).length=F.length:=by simp[lC]
 simp -dsimp[hiz,AO,abA];and_intros;all_goals try first|rfl|omega|exact⟨by kernel_rfl⟩
 refine aF.of haw [] 0 ?_;simp -dsimp;and_intros;all_goals try first|rfl|omega|exact⟨by kernel_rfl⟩
 refine Fin.of ?_;simp
end Go.Proofs
