/-
  What functions of the program compute, stated as contracts over plain data; the conditions of each stand in its own statement.
-/
import Derived.Test.YtboimfkommpglaaGreatDoorZB10
import Derived.Test.YtboimfkommpglaaGreatDoorZB05
import Derived.KernelRfl
import Derived.Test.YtboimfkommpglaaGreatDoorChecked
import Derived.Test.YtboimfkommpglaaGreatDoorZB11
import Derived.Below
import Derived.Test.YtboimfkommpglaaGreatDoorZB13
import Derived.Lib.SlicesCompact
import Derived.Test.YtboimfkommpglaaGreatDoorZB14
import Derived.Test.YtboimfkommpglaaGreatDoorZB15
import Derived.Test.YtboimfkommpglaaGreatDoorZB16
import Derived.Test.YtboimfkommpglaaGreatDoorZB18
import Derived.Test.YtboimfkommpglaaGreatDoorZB19
import Derived.Test.YtboimfkommpglaaGreatDoorZB21
set_option linter.unusedVariables false
set_option linter.unusedSimpArgs false
namespace Go.Proofs
open Go Go.Tr
@[simp]theorem au0:PY Tryz.prog 35=some [(0,1),(1,1)]:=by kernel_rfl
@[simp]theorem avj:qp Tryz.prog 53=some 1:=by kernel_rfl
@[simp]theorem avE:wS Tryz.prog 53=some (Value.slice none 0 0):=by kernel_rfl
@[simp]theorem Zf:wL Tryz.prog 113 0=some (0,3):=by kernel_rfl
@[simp]theorem Zg:wL Tryz.prog 113 1=some (1,3):=by kernel_rfl
@[simp]theorem Zh:wL Tryz.prog 113 2=some (2,3):=by kernel_rfl
@[simp]theorem as9:wI Tryz.prog 129=some 52:=by kernel_rfl
@[simp]theorem ata:wI Tryz.prog 130=some 22:=by kernel_rfl
@[simp]theorem atb:wI Tryz.prog 131=some 118:=by kernel_rfl
@[simp]theorem atc:wI Tryz.prog 134=some 35:=by kernel_rfl
@[simp]theorem atd:wI Tryz.prog 135=some 53:=by kernel_rfl
@[simp]theorem agL:dP Tryz.prog 55=true:=by kernel_rfl
@[simp]theorem agM:dP Tryz.prog 57=true:=by kernel_rfl
@[simp]theorem arM:dP Tryz.prog 63=true:=by kernel_rfl
@[simp]theorem arN:dP Tryz.prog 64=true:=by kernel_rfl
@[simp]theorem akM:dP Tryz.prog 65=true:=by kernel_rfl
@[simp]theorem arP:dP Tryz.prog 67=true:=by kernel_rfl
@[simp]theorem arR:dP Tryz.prog 69=true:=by kernel_rfl
@[simp]theorem arS:dP Tryz.prog 70=true:=by kernel_rfl
@[simp]theorem akN:dP Tryz.prog 71=true:=by kernel_rfl
@[simp]theorem arT:dP Tryz.prog 72=true:=by kernel_rfl
@[simp]theorem arU:dP Tryz.prog 73=true:=by kernel_rfl
@[simp]theorem apc:dP Tryz.prog 145=true:=by kernel_rfl
end Go.Proofs

set_option linter.unusedSimpArgs false
namespace Go.Tr
open Go Go.Proofs
section
variable {P:Program} {A:jL} {ops:Array Oper}
attribute [simp] aaD
end
end Go.Tr

namespace Go.Tr
open Go
section
variable {A:jL}
end
theorem jq{es:List (List TV)}{xs:List (List D)}{k:Nat}{r:List TV}{x:List D}(h:iH es=some xs)(hr:rJ r=some x):iH (es.set k r)=some (xs.set k x):=by
 induction es generalizing xs k with
 | nil=>simp_all
 | cons e es ih=>
   simp only[iH]at h;split at h
   ·rename_i x' xs' h1 h2;simp only[aj]at h;subst h;cases k with
    | zero=>simp only[List.set_cons_zero,iH,hr,h2]
    | succ k=>simp only[List.set_cons_succ,iH,h1,ih h2]
   trivial
end Go.Tr

namespace Go.Proofs
open Go Go.Lib
theorem Aq(zs:List Int):(zs.mergeSort fun x y=>decide (x≤y)).Pairwise (· ≤·):=by grind[List.pairwise_mergeSort]
theorem wO:∀(xs:List Int) (l:List Int),l.Pairwise (· < ·)→(xs.foldl nT l).Pairwise (· < ·)∧∀x,x∈xs.foldl nT l↔x∈l∨x∈xs
 | [],l,h=>⟨h,by simp⟩
 | y::xs,l,h=>by
   obtain⟨h1,h2⟩:=Ep y h;obtain⟨h3,h4⟩:=wO xs _ h1
   grind
end Go.Proofs

set_option maxRecDepth 100000
set_option maxHeartbeats 2000000
namespace Go.Proofs
open Go Go.Tr
theorem Nk{k:Int}(h:0≤k∧k<64):(1#64<<<k.toNat)=wV k:=by
 rw[wV,if_neg (by omega)]
 grind[BF]
theorem Jv(set bit len:Int):Contract Tryz.prog 194 [.d (.int .i64 set),.d (.int .i64 bit),.d (.int .i64 len)] [] (Gx set bit len) [] []:=by
 refine aC Tryz.func194 rfl (fun E0=>?_);refine iK.sound (g:=.mk) (ow:=[]) (kp:=(kb 0x808001c7)) ?_;rw[Tryz.ntmps194];simp -dsimp;refine aF.of (uJ len) [] 0 ?_;rcases (au (dQ len)).symm with a1|a1
 ·simp -dsimp[a1];try refine⟨?_,⟨by kernel_rfl⟩⟩
  refine Fin.of ?_;simp[Gx,Au,a1]
 ·have hl:len=8∨len=16∨len=32∨len=64:=by grind[dQ]
  simp -dsimp[a1,wrap_i64 (n:=len-1) (by omega) (by omega)];refine aF.of (wZ bit 0 (len-1)) [] 0 ?_;rcases (au (inB bit 0 (len-1))).symm with a2|a2
  ·simp -dsimp[a1,a2];try refine⟨?_,⟨by kernel_rfl⟩⟩
   refine Fin.of ?_;simp[Gx,Au,a1,a2]
  ·simp -dsimp[a1,a2];refine aF.of (wZ set 0 31) [] 0 ?_;rcases (au (inB set 0 31)).symm with a3|a3
   ·simp -dsimp[a1,a2,a3];try refine⟨?_,⟨by kernel_rfl⟩⟩
    refine Fin.of ?_;simp[Gx,Au,a1,a2,a3]
   ·have b2:0≤bit∧bit≤len-1:=by simpa[inB]using a2
    have b3:0≤set∧set≤31:=by simpa[inB]using a3
    have b4:0≤set*len∧set*len≤1984:=by rcases hl with rfl|rfl|rfl|rfl<;>omega
    by_cases a4:set*len+bit+1≤256
    ·have a5 :¬256<set*len+bit+1:=by omega
     simp -dsimp[a1,a2,a3,a4,a5,wrap_i64 (n:=set*len) (by omega) (by omega),wrap_i64 (n:=set*len+bit) (by omega) (by omega),wrap_i64 (n:=set*len+bit+1) (by omega) (by omega)];try refine⟨?_,⟨by kernel_rfl⟩⟩
     refine Fin.of ?_;simp[Gx,Au,a1,a2,a3,a4]
    ·have a5:256<set*len+bit+1:=by omega
     simp -dsimp[a1,a2,a3,a4,a5,wrap_i64 (n:=set*len) (by omega) (by omega),wrap_i64 (n:=set*len+bit) (by omega) (by omega),wrap_i64 (n:=set*len+bit+1) (by omega) (by omega)];try refine⟨?_,⟨by kernel_rfl⟩⟩
     refine Fin.of ?_;simp[Gx,Au,a1,a2,a3,a4]
theorem contains_c(l:List Int)(hl:l.length≤1000000)(v:Int):Contract Tryz.prog 139 [.d (ints l),.d (.int .i64 v)] [] (.d (.bool (pY l v))) [] []:=Dk l (aY hl (by decide)) v
set_option maxHeartbeats 4000000
section
variable {b:Tb}
end
theorem D9(b:Tb)(hb:b.rows.length≤1000000)(hn:∀x∈b.rows,x.nx.length≤1000000):Contract Tryz.prog 130 [gQ b] [] (.d (.int .i64 (chk b))) [] []:=Fh b (aY hb (by decide)) (fun x hx=>aY (hn x hx) (by decide))
end Go.Proofs

set_option maxHeartbeats 4000000
namespace Go.Proofs
open Go Go.Tr
theorem F5(b:Tb)(hb:b.rows.length≤1000000)(hn:∀x∈b.rows,x.nx.length≤1000000)(id:Int):Contract Tryz.prog 207 [gQ b,.d (.int .i64 id)] [] (rowT (rowOf b id)) [] []:=by
 refine aC Tryz.func207 rfl (fun E0=>?_);refine iK.sound (g:=.mk) (ow:=[]) (kp:=(kb 0x200877)) ?_;rw[Tryz.ntmps207];simp -dsimp[gQ,dZ];refine bY.of [] (kb 0x200877) (ι:={i:Nat // i≤b.rows.length∧∀a,a<i→∀x,b.rows[a]? = some x→decide (x.id=id)=false})
  (fun z=>[(.s 1,It.v (.d (.int .i64 id))),(.o 2,It.box [TV.d (.int .i64 b.r),TV.d (.int .i64 b.sd),TV.d (.int .i64 b.len),TV.d (dZ b.rows)]),(.s 2,It.v (.ptr (.o 2) 0)),(.o 4,It.box [TV.d (.int .i64 0),TV.c (Value.slice none 0 0)]),(.s 4,It.v (.ptr (.o 4) 0)),(.s 5,It.v (.d (.bool false))),(.s 6,It.v (.d (.int .i64 z.1)))]) (fun z=>b.rows.length-z.1) ⟨0,by omega,fun a h=>by omega⟩ ?_ ?_
 ·simp[GS.to,dZ]
 ·rintro⟨i,i1,i2⟩;by_cases hi:i<b.rows.length
  ·have hiz:(i:Int)<b.rows.length:=by omega
   have hg:b.rows[i]? = some b.rows[i]:=ah hi;have hx:=hn _ (aB hi);generalize b.rows[i]=x at hg hx;by_cases c1:x.id=id
   ·simp -dsimp[dZ,hg,hiz,Rw.cs,eq_true c1];and_intros;all_goals try first|rfl|omega|exact⟨by kernel_rfl⟩
    refine Fin.of ?_;simp[rowT,rowOf,Ih hg (by simpa using c1) i2,Bl,c1]
   ·simp -dsimp[dZ,hg,hiz,Rw.cs,c1,wrap_i64 (n:=(i:Int)+1) (by omega) (by omega)];and_intros;all_goals try first|rfl|omega|exact⟨by kernel_rfl⟩
    exact⟨⟨i+1,by omega,fun a ha y hy=>by
     by_cases e:a=i
     ·subst e;rw[hg]at hy;simp only[aj]at hy;subst hy;simpa using c1
     ·exact i2 a (by omega) y hy⟩,GS.to (by simp[dZ]),by simp;omega⟩
  ·have hiz :¬(i:Int)<b.rows.length:=by omega
   simp -dsimp[dZ,hiz];refine Fin.box (.o 4) rfl ?_;simp -dsimp;refine Fin.of ?_;simp[rowT,rowOf,Ii (q:=fun x=>decide (x.id=id)) (fun a ha=>i2 a (by omega)),Bl,ints]
theorem zO(b:Tb)(hb:b.Sm)(id p:Int)(hp:0≤p∧p≤7):Contract Tryz.prog 132 [gQ b,.d (.int .i64 id),.d (.int .i64 p)] [] (.d (.int .i64 (qc b id p))) [] []:=by
 refine aC Tryz.func132 rfl (fun E0=>?_);refine iK.sound (g:=.mk) (ow:=[]) (kp:=(kb 0x4001cf)) ?_;rw[Tryz.ntmps132];simp -dsimp[gQ];refine aF.of (F5 b hb.rows hb.nx id) [] 0 ?_;have hl:=ER hb id;unfold qc;cases hr:rowOf b id with
 | none=>
   simp -dsimp[gQ,rowT,Bl,hr];and_intros;all_goals try first|rfl|omega|exact⟨by kernel_rfl⟩
   refine Fin.of ?_;simp[tH]
 | some x=>
   rw[hr]at hl
   simp only[bf]at hl⊢;by_cases h0:x.nx.length=0
   ·have h0z:(x.nx.length:Int)=0:=by omega
    simp -dsimp[gQ,rowT,Bl,hr,ints,h0,h0z];and_intros;all_goals try first|rfl|omega|exact⟨by kernel_rfl⟩
    refine Fin.of ?_;simp[tH,h0]
   ·have h0z :¬(x.nx.length:Int)=0:=by omega
    have e:p.tmod x.nx.length=p%x.nx.length:=iw hp.1;have m1:=jP p (b:=(x.nx.length:Int)) (by omega);have m2:=iL p (b:=(x.nx.length:Int)) (by omega);have hlt:(p%x.nx.length).toNat<x.nx.length:=by omega
    have hg:x.nx[(p%x.nx.length).toNat]? = some x.nx[(p%x.nx.length).toNat]:=ah hlt;simp -dsimp[gQ,rowT,Bl,hr,ints,h0,h0z,e,hg];and_intros;all_goals try first|rfl|omega|exact⟨by kernel_rfl⟩
    refine Fin.of ?_;simp[tH,h0,hg]
theorem Q_(b:Tb)(hb:b.Sm)(p s n:Int)(hp:0≤p∧p≤7)(hl:b.len≤1000):Contract Tryz.prog 196 [gQ b,.d (.int .i64 p),.d (.int .i64 s),.d (.int .i64 n)] [] (.d (bv (qh b p s n b.len.toNat))) [] []:=by
 refine aC Tryz.func196 rfl (fun E0=>?_);refine iK.sound (g:=.mk) (ow:=[]) (kp:=(kb 0x8000011f1f)) ?_;rw[Tryz.ntmps196];simp -dsimp[gQ];refine bY.of [] (kb 0x8000011f1f) (ι:={k:Nat // k≤b.len.toNat})
  (fun z=>[(.s 1,It.v (.d (.int .i64 p))),(.s 2,It.v (.d (.int .i64 s))),(.s 3,It.v (.d (.int .i64 n))),
   (.o 4,It.box [TV.d (.int .i64 b.r),TV.d (.int .i64 b.sd),TV.d (.int .i64 b.len),TV.d (dZ b.rows)]),(.s 4,It.v (.ptr (.o 4) 0)),
   (.s 8,It.v (.d (.int IntKind.u64 0))),(.s 9,It.v (.d (bv (qh b p s n z.1)))),(.s 10,It.v (.d (.int .i64 z.1)))]) (fun z=>b.len.toNat-z.1) ⟨0,by omega⟩ ?_ ?_
 ·simp[GS.to,qh,bv]
 ·rintro⟨k,k1⟩;by_cases hk:(k:Int)<b.len
  ·simp -dsimp[bv,hk];refine aF.of (Jv s k b.len) [] 0 ?_;rcases (au (Au s k b.len)).symm with c1|c1
   ·have hs:qh b p s n (k+1)=qh b p s n k:=by grind[qh]
    simp -dsimp[bv,Gx,c1,wrap_i64 (n:=(k:Int)+1) (by omega) (by omega)];and_intros;all_goals try first|rfl|omega|exact⟨by kernel_rfl⟩
    exact⟨⟨k+1,by omega⟩,GS.to (by simp[hs,bv]),by grind⟩
   ·by_cases c2:0<n
    ·simp -dsimp[bv,Gx,c1,c2];and_intros;all_goals try first|rfl|omega|exact⟨by kernel_rfl⟩
     refine aF.of (zO b hb (s*b.len+k+1) p hp) [] 0 ?_;by_cases c3:qc b (s*b.len+k+1) p=n
     ·have hs:qh b p s n (k+1)=qh b p s n k|||wV k:=by simp[qh,c1,c2,c3]
      simp -dsimp[bv,gQ,Gx,c1,c2,c3];and_intros;all_goals try first|rfl|omega|exact⟨by kernel_rfl⟩
      refine aF.of (Q9 k) [] 0 ?_;simp -dsimp[bv,wrap_i64 (n:=(k:Int)+1) (by omega) (by omega)];and_intros;all_goals try first|rfl|omega|exact⟨by kernel_rfl⟩
      exact⟨⟨k+1,by omega⟩,GS.to (by simp[hs,bv]),by simp;omega⟩
     ·have hs:qh b p s n (k+1)=qh b p s n k:=by simp[qh,c3]
      simp -dsimp[bv,gQ,Gx,c1,c2,c3,wrap_i64 (n:=(k:Int)+1) (by omega) (by omega)];and_intros;all_goals try first|rfl|omega|exact⟨by kernel_rfl⟩
      exact⟨⟨k+1,by omega⟩,GS.to (by simp[hs,bv]),by simp;omega⟩
    ·have hs:qh b p s n (k+1)=qh b p s n k:=by simp[qh,c2]
     simp -dsimp[bv,Gx,c1,c2,wrap_i64 (n:=(k:Int)+1) (by omega) (by omega)];and_intros;all_goals try first|rfl|omega|exact⟨by kernel_rfl⟩
     exact⟨⟨k+1,by omega⟩,GS.to (by simp[hs,bv]),by simp;omega⟩
  ·have hkk:b.len.toNat=k:=by omega
   simp -dsimp[bv,hk];refine Fin.of ?_;simp[bv,hkk]
theorem JE(l:List Tb)(hl:UY l):Contract Tryz.prog 106 [.d (.sl (ig l))] [] (.d (.int .i64 (tK l))) [] []:=wW l hl.big
set_option maxHeartbeats 8000000
theorem OW(p:Pk):Contract Tryz.prog 195 [mM p] [] (.d (.int .i64 (lN p))) [] []:=by
 refine aC Tryz.func195 rfl (fun E0=>?_);refine iK.sound (g:=.mk) (ow:=[]) (kp:=(kb 0x27)) ?_;rw[Tryz.ntmps195];have hv:=DC p;simp only[mM,Pk.cs,List.map]at hv;simp -dsimp[mM,Pk.cs];refine aF.of hv [] 0 ?_;rcases (au p.ok).symm with a1|a1
 ·simp -dsimp[a1];refine Fin.of ?_;simp[lN,a1]
 ·have h:=ab1 a1;simp -dsimp[a1,wrap_i64 (n:=p.ent%8) (by omega) (by omega),iw h.1];refine Fin.of ?_;simp[lN,a1]
theorem JW(p:Pk)(m:BitVec 64):Contract Tryz.prog 197 [mM p,.d (bv m)] [] (.sZ [mM (sH p m).1,.d (.bool (sH p m).2)]) [] []:=by
 refine aC Tryz.func197 rfl (fun E0=>?_);refine iK.sound (g:=.mk) (ow:=[]) (kp:=(kb 0x100037)) ?_;rw[Tryz.ntmps197];have hv:=DC p;simp only[mM,Pk.cs,List.map,bv]at hv;simp -dsimp[mM,Pk.cs,bv];refine aF.of hv [] 0 ?_;rcases (au p.ok).symm with a1|a1
 ·simp -dsimp[a1];refine Fin.of ?_;simp[sH,a1,Yg,mM,Pk.cs,bv]
 ·have h:=yB a1;by_cases a2:p.ttl=0
  ·simp -dsimp[a1,a2];refine Fin.of ?_;simp[sH,a2,Yg,mM,Pk.cs,bv]
  by_cases a3:p.bits&&&m=0#64
  ·simp -dsimp[a1,a2,a3];refine Fin.of ?_;simp[sH,a3,Yg,mM,Pk.cs,bv]
  simp -dsimp[a1,a2,a3,wrap_i64 (n:=p.ttl-1) (by omega) (by omega)];refine Fin.of ?_;simp[sH,a1,a2,a3,rZ,mM,Pk.cs,bv]
def hasK(B:BitVec 64)(k:Int):Bool:=decide (0≤k)&&(decide (k<64)&&B.getLsbD k.toNat)
theorem Xo(B:BitVec 64)(k:Nat):(B>>>k&&&1#64=1#64)↔B.getLsbD k=true:=by rw[iU,mP,lW];cases B.getLsbD k<;>decide
theorem LJ(B:BitVec 64)(k:Int):Contract Tryz.prog 244 [.d (bv B),.d (.int .i64 k)] [] (.d (.bool (hasK B k))) [] []:=by
 refine aC Tryz.func244 rfl (fun E0=>?_);refine iK.sound (g:=.mk) (ow:=[]) (kp:=(kb 0x13)) ?_;rw[Tryz.ntmps244];by_cases a2:0≤k
 ·by_cases a3:k<64
  ·have hb:=Xo B k.toNat;simp -dsimp[bv,eq_true a2,eq_true a3];have hw:IntKind.u64.wrap k=k:=wrap_u64 (by omega) (by omega);refine⟨by rw[hw];exact a2,?_⟩;refine Fin.of ?_;rw[hw];simp[hasK,a2,a3,hb]
  ·simp -dsimp[bv,eq_true a2,a3];try refine⟨?_,⟨by kernel_rfl⟩⟩
   refine Fin.of ?_;simp[hasK,a3]
 ·simp -dsimp[bv,a2];try refine⟨?_,⟨by kernel_rfl⟩⟩
  refine Fin.of ?_;simp[hasK,a2]
def yY(B:BitVec 64)(k:Nat):List Int:=((List.range k).filter fun i=>B.getLsbD i).map Int.ofNat
theorem JA(B:BitVec 64)(k:Nat):yY B (k+1)=yY B k++(if B.getLsbD k=true then [(k:Int)]else []):=by unfold yY;rw[je,bJ,fH];cases h:B.getLsbD k<;>simp[h]
theorem NU(B:BitVec 64)(k:Nat):(yY B k).length≤k:=by unfold yY;rw[aN];exact aY (aQ _ _) (by simp)
theorem NT(B:BitVec 64):yY B 64=vW B:=rfl
theorem Hl(B:BitVec 64):Contract Tryz.prog 198 [.d (bv B)] [] (.d (ints (vW B))) [] []:=by
 refine aC Tryz.func198 rfl (fun E0=>?_);refine iK.sound (g:=.mk) (ow:=[]) (kp:=(kb 0x85d)) ?_;rw[Tryz.ntmps198];simp -dsimp[bv];refine bY.of [] (kb 0x85d) (ι:={k:Nat // k≤64})
  (fun z=>[(.s 0,It.v (.d (.int IntKind.u64 (tn B)))),(.s 2,It.v (.c (Value.slice none 0 0))),(.s 3,It.v (.bK 3 (yY B z.1).length)),(.o 3,.row 3 1 (dd (fE .i64 (yY B z.1))) false),(.s 4,It.v (.d (.int .i64 z.1)))])
  (fun z=>64-z.1) ⟨0,by omega⟩ ?_ ?_
 ·exact GS.own' (k:=3) 3 1 (by simp) (by simp) (by simp[fE,yY])
 ·rintro⟨k,k1⟩;have hll:=NU B k;by_cases hk:k<64
  ·have hkz:(k:Int)<64:=by omega
   have hh:=LJ B k;have hv:hasK B k=B.getLsbD k:=by simp[hasK,hk,hkz]
   rw[hv]at hh
   simp only[bv]at hh;have hn:=JA B k;simp -dsimp[hkz];try refine⟨?_,⟨by kernel_rfl⟩⟩
   refine aF.of hh [] 0 ?_;rcases (au (B.getLsbD k)).symm with b1|b1
   ·rw[b1]at hn⊢
    simp only[bI,if_false,aZ]at hn;simp -dsimp[wrap_i64 (n:=(k:Int)+1) (by omega) (by omega)];and_intros;all_goals try first|rfl|omega|exact⟨by kernel_rfl⟩
    exact⟨⟨k+1,by omega⟩,GS.to (by simp[hn]),by simp;omega⟩
   ·rw[b1]at hn⊢
    simp only[if_true]at hn;simp -dsimp[wrap_i64 (n:=(k:Int)+1) (by omega) (by omega)];and_intros;all_goals try first|rfl|omega|exact⟨by kernel_rfl⟩
    exact⟨⟨k+1,by omega⟩,GS.to (by simp[hn,fE]),by simp;omega⟩
  ·have hkz :¬(k:Int)<64:=by omega
   obtain rfl:k=64:=by omega
   have e:=NT B;simp -dsimp[hkz];refine Fin.view 2 ?_;simp -dsimp;refine Fin.of ?_;simp[←e,ints,fE]
theorem Oq(B:BitVec 64):Contract Tryz.prog 193 [.d (bv B)] [] (.d (.int .i64 (uI B))) [] []:=by
 have hl:=Hl B;have hlen:=tZ B;have hN:Contract Tryz.prog 243 [.d (bv B),.d (.int .i64 0)] [] (.d (.int .i64 (uI B))) [] []:=by
  refine aC Tryz.func243 rfl (fun E0=>?_);refine iK.sound (g:=.mk) (ow:=[]) (kp:=(kb 0x8033)) ?_;rw[Tryz.ntmps243];simp -dsimp;try refine⟨?_,⟨by kernel_rfl⟩⟩
  refine aF.of hl [] 0 ?_;by_cases h0:B=0#64
  ·have e:vW B = []:=by rw[h0];exact BN
   rw[e];simp -dsimp[ints];try refine⟨?_,⟨by kernel_rfl⟩⟩
   refine Fin.of ?_;simp[uI,h0]
  ·have e:=Jw h0;have ef:uI B=(tz B:Int):=by simp[uI,h0]
   rw[e,ef];rw[e]at hlen
   generalize vW (B&&&wu (tn B-1))=L at hlen⊢;simp -dsimp[ints];have hlz :¬(L.length:Int)+1≤0:=by omega
   simp -dsimp[hlz];try refine⟨?_,⟨by kernel_rfl⟩⟩
   refine Fin.of ?_;simp
 refine aC Tryz.func193 rfl (fun E0=>?_);refine iK.sound (g:=.mk) (ow:=[]) (kp:=(kb 5)) ?_;rw[Tryz.ntmps193];simp -dsimp;refine aF.of hN [] 0 ?_;simp -dsimp;refine Fin.of ?_;simp
theorem TR(p:Pk)(k:Int):Contract Tryz.prog 242 [mM p,.d (.int .i64 k)] [] (mM (pz p k)) [] []:=by
 refine aC Tryz.func242 rfl (fun E0=>?_);refine iK.sound (g:=.mk) (ow:=[]) (kp:=(kb 0x4017)) ?_;rw[Tryz.ntmps242];have hv:=DC p;have hh:=LJ p.bits k;have hb:=Q9 k;simp only[mM,Pk.cs,List.map]at hv;simp -dsimp[mM,Pk.cs];try refine⟨?_,⟨by kernel_rfl⟩⟩
 refine aF.of hv [] 0 ?_;rcases (au p.ok).symm with a1|a1
 ·simp -dsimp[a1];try refine⟨?_,⟨by kernel_rfl⟩⟩
  refine Fin.of ?_;simp[pz,a1,Yg,mM,Pk.cs,bv]
 ·simp -dsimp[a1];try refine⟨?_,⟨by kernel_rfl⟩⟩
  refine aF.of hh [] 0 ?_;rcases (au (hasK p.bits k)).symm with a2|a2
  ·have :¬(0≤k∧k≤63∧p.bits.getLsbD k.toNat=true):=fun⟨h1,h2,h3⟩=>by
    simp[hasK,h1,h3]at a2;omega
   simp -dsimp[a2];try refine⟨?_,⟨by kernel_rfl⟩⟩
   refine Fin.of ?_;simp[pz,this,Yg,mM,Pk.cs,bv]
  ·simp only[hasK,aP,decide_eq_true_eq]at a2;obtain⟨b1,b2,b3⟩:=a2;have b4:k≤63:=by omega
   have eb:wV k=1#64<<<k.toNat:=(Nk ⟨b1,b2⟩).symm;rw[eb]at hb
   have a2':hasK p.bits k=true:=by simp[hasK,b1,b2,b3]
   simp -dsimp[a2'];try refine⟨?_,⟨by kernel_rfl⟩⟩
   refine aF.of hb [] 0 ?_;simp -dsimp;try refine⟨?_,⟨by kernel_rfl⟩⟩
   refine Fin.of ?_;simp[pz,a1,b1,b4,b3,mM,Pk.cs,bv]
theorem Xl{p R X:BitVec 64}(hR:∀k<64,R.getLsbD k=true→p.getLsbD k=true):p&&&(R&&&X)=R&&&(R&&&X):=by grind
theorem ab9{p:Pk}{R:BitVec 64}(X:BitVec 64)(hp:p.ok=true)(hR:∀k<64,R.getLsbD k=true→p.bits.getLsbD k=true):sH p (R&&&X)=sH (p.setB R) (R&&&X):=by grind[Yd,Xl,sH,Pk.setB,rZ]
theorem aa_(b:Tb)(hb:b.Sm)(p:Pk)(h1:chk b=0)(h2:p.ok=true)(h5:b.len=p.len):Contract Tryz.prog 120 [gQ b,mM p] [] (outT (vX b p)) [] []:=by
 have hpl:=OW p;simp only[mM,Pk.cs,List.map]at hpl;have XU:=I8 p;have hlen:b.len≤1000:=by
  have:=(I5 h2).1;simp[dQ]at this
  omega
 refine aC Tryz.func120 rfl (fun E0=>?_);refine iK.sound (g:=.mk) (ow:=[]) (kp:=(kb 0x4040008000000023dff)) ?_;rw[Tryz.ntmps120];simp -dsimp[gQ,mM,Pk.cs];try refine⟨?_,⟨by kernel_rfl⟩⟩
 refine bY.of [] (kb 0x4040008000000023dff) (ι:={z:Nat×Out×BitVec 64 // vX b p=C_ b p z.1 z.2.1 z.2.2∧(jg z.2.2).length≤z.1∧z.2.1.qy.length+z.1≤64∧∀k<64,z.2.2.getLsbD k=true→p.bits.getLsbD k=true})
  (fun z=>[(.o 2,It.box [TV.d (.int .i64 b.r),TV.d (.int .i64 b.sd),TV.d (.int .i64 b.len),TV.d (dZ b.rows)]),(.s 2,It.v (.ptr (.o 2) 0)),
   (.o 3,It.box (p.cs.map .d)),(.s 3,It.v (.ptr (.o 3) 0)),
   (.o 4,It.box [TV.d (.int IntKind.u64 0),TV.d (.int IntKind.u64 0),TV.c (Value.slice none 0 0)]),(.s 4,It.v (.ptr (.o 4) 0)),
   (.o 5,It.box [TV.d (.int IntKind.u64 (tn z.1.2.1.loc)),TV.d (.int IntKind.u64 (tn z.1.2.1.lost)),TV.bK 50 z.1.2.1.qy.length]),(.s 5,It.v (.ptr (.o 5) 0)),
   (.o 50,It.row 29 12 (dd (z.1.2.1.qy.map Jb)) false),(.s 6,It.v (.d (.int IntKind.u64 (tn z.1.2.2))))])
  (fun z=>z.1.1) ⟨(64,vZ,p.bits),rfl,zF _,by simp[vZ],fun _ _ h=>h⟩ ?_ ?_
 ·exact GS.AV (.o 5) 2 50 (cs:=[TV.d (.int IntKind.u64 0),TV.d (.int IntKind.u64 0),TV.c (Value.slice none 0 0)]) 29 12 (by simp) (by simp) (by simp) (by simp) (by simp[vZ,Pk.cs,bv])
 ·rintro⟨⟨n,o,R⟩,i1,i2,i3,i4⟩;simp only at i1 i2 i3 i4;by_cases h0:R=0#64
  ·subst h0;have e:vX b p=o:=by rw[i1];cases n<;>simp[C_]
   simp -dsimp;try refine⟨?_,⟨by kernel_rfl⟩⟩
   refine Fin.box (.o 4) rfl ?_;simp -dsimp;refine Fin.of ?_;simp[outT,bv,e]
  ·have hf:=Oq R;have e:uI R=(tz R:Int):=by simp[uI,h0]
   rw[e]at hf
   simp only[bv]at hf;obtain⟨t1,t2,t3⟩:=zx h0;have hat:=Jv p.set (tz R) p.len;simp only[Gx]at hat;have hnx:=zO b hb (lT p (tz R)) (lN p) ⟨XU.1,XU.2⟩;have hho:qc b (lT p (tz R)) (lN p)=dU b p (tz R):=(abG h1 p _).symm;rw[hho]at hnx
   have hid:(if Au p.set (tz R) p.len=true then p.set*p.len+(tz R:Int)+1 else 0)=lT p (tz R):=rfl;simp only[hid]at hat;simp only[gQ]at hnx;have hbt:=Q9 (tz R);have ebt:wV (tz R)=1#64<<<tz R:=by rw[←Nk ⟨by omega,by omega⟩];simp
   rw[ebt]at hbt
   simp -dsimp[h0];try refine⟨?_,⟨by kernel_rfl⟩⟩
   refine aF.of hf [] 0 ?_;have hmb:=LD h1 h2 h5 i4 h0;have hpop:=MP t1 t2 hmb;have hto:rQ b p R (dU b p (tz R))=R&&&Ci b (lN p) p.set (dU b p (tz R)):=rfl;obtain⟨n,rfl⟩:∃j,n=j+1:=⟨n-1,by omega⟩
   have hstep:vX b p=C_ b p n (uO b p o R) (R &&& ~~~ vJ b p R):=by rw[i1,C_,if_neg h0]
   have hsub:∀k<64,(R &&& ~~~ vJ b p R).getLsbD k=true→p.bits.getLsbD k=true:=fun k hk hb=>by
    rw[fA]at hb
    simp only[aP]at hb;exact i4 k hk hb.1
   simp -dsimp[h0,Pk.cs];try refine⟨?_,⟨by kernel_rfl⟩⟩
   refine aF.of hat [] 0 ?_;simp -dsimp;try refine⟨?_,⟨by kernel_rfl⟩⟩
   refine aF.of hpl [] 0 ?_;simp -dsimp;try refine⟨?_,⟨by kernel_rfl⟩⟩
   refine aF.of hnx [] 0 ?_;simp -dsimp;try refine⟨?_,⟨by kernel_rfl⟩⟩
   refine aF.of hbt [] 0 ?_;by_cases c0:dU b p (tz R)=0
   ·have eM:vJ b p R=1#64<<<tz R:=by rw[vJ,if_pos (.inl c0)]
    have eO:uO b p o R=⟨o.loc,o.lost|||1#64<<<tz R,o.qy⟩:=by rw[uO,if_pos c0]
    rw[eM]at hpop hsub hstep
    rw[eO]at hstep
    simp -dsimp[eq_true c0,bv];try refine⟨?_,⟨by kernel_rfl⟩⟩
    exact⟨⟨(n,⟨o.loc,o.lost|||1#64<<<tz R,o.qy⟩,R &&& ~~~ (1#64<<<tz R)),hstep,by simp only;omega,by simp only;omega,hsub⟩,GS.to (by simp[Pk.cs,bv]),by simp⟩
   by_cases c1:dU b p (tz R)=b.r
   ·have eM:vJ b p R=1#64<<<tz R:=by rw[vJ,if_pos (.inr c1)]
    have eO:uO b p o R=⟨o.loc|||1#64<<<tz R,o.lost,o.qy⟩:=by rw[uO,if_neg c0,if_pos c1]
    rw[eM]at hpop hsub hstep
    rw[eO]at hstep
    rw[c1]at c0⊢
    simp -dsimp[c0,bv];try refine⟨?_,⟨by kernel_rfl⟩⟩
    exact⟨⟨(n,⟨o.loc|||1#64<<<tz R,o.lost,o.qy⟩,R &&& ~~~ (1#64<<<tz R)),hstep,by simp only;omega,by simp only;omega,hsub⟩,GS.to (by simp[Pk.cs,bv]),by simp⟩
   have eM:vJ b p R=rQ b p R (dU b p (tz R)):=by rw[vJ,if_neg (fun h=>h.elim c0 c1)]
   rw[eM]at hpop hsub hstep
   have hhr:1≤dU b p (tz R)∧dU b p (tz R)≤99:=by rw[←hho];exact IL h1 (by rw[hho];exact c0)
   have hmk:=Q_ b hb (lN p) p.set (dU b p (tz R)) ⟨XU.1,XU.2⟩ hlen;rw[←X8 h1 h2 hhr]at hmk
   simp only[gQ,bv]at hmk;have hms:=JW p (rQ b p R (dU b p (tz R)));have hpk:sH p (rQ b p R (dU b p (tz R)))=sH (p.setB R) (rQ b p R (dU b p (tz R))):=ab9 _ h2 i4;rw[hpk]at hms
   obtain⟨Q,hQ⟩:∃Q,sH (p.setB R) (rQ b p R (dU b p (tz R)))=Q:=⟨_,rfl⟩
   rw[hQ]at hms
   simp only[mM,Pk.cs,List.map,bv]at hms;simp -dsimp[c0,c1];try refine⟨?_,⟨by kernel_rfl⟩⟩
   refine aF.of hpl [] 0 ?_;simp -dsimp;try refine⟨?_,⟨by kernel_rfl⟩⟩
   refine aF.of hmk [] 0 ?_;simp -dsimp[←hto];try refine⟨?_,⟨by kernel_rfl⟩⟩
   have eO:uO b p o R=if(sH (p.setB R) (rQ b p R (dU b p (tz R)))).2=true then ⟨o.loc,o.lost,o.qy++[(dU b p (tz R),(sH (p.setB R) (rQ b p R (dU b p (tz R)))).1)]⟩else ⟨o.loc,o.lost|||rQ b p R (dU b p (tz R)),o.qy⟩:=by rw[uO,if_neg c0,if_neg c1]
   rw[eO]at hstep
   rw[hQ]at hstep
   clear hQ eO hpk;generalize rQ b p R (dU b p (tz R))=M at hms hstep hpop hsub⊢;refine aF.of hms [] 0 ?_;rcases (au Q.2).symm with q1|q1
   ·rw[if_neg (by rw[q1];simp)]at hstep
    simp -dsimp[q1];and_intros;all_goals try first|omega|exact rfl|exact⟨by kernel_rfl⟩
    exact⟨⟨(n,⟨o.loc,o.lost|||M,o.qy⟩,R &&& ~~~ M),hstep,by simp only;omega,by simp only;omega,hsub⟩,GS.to (by simp[Pk.cs,bv]),by simp⟩
   ·rw[if_pos q1]at hstep
    simp -dsimp[q1];and_intros;all_goals try first|omega|exact rfl|exact⟨by kernel_rfl⟩
    exact⟨⟨(n,⟨o.loc,o.lost,o.qy++[(dU b p (tz R),Q.1)]⟩,R &&& ~~~ M),hstep,by simp only;omega,by simp only[aS,aT,eY];omega,hsub⟩,GS.to (by simp[Pk.cs,bv,Jb]),by simp⟩
theorem OE(r:Int)(o:Out)(p:Pk):Contract Tryz.prog 192 [.d (.int .i64 r),outT o,mM p] [] (.d (.sl ((xU r o p).map uH))) [] []:=by
 have hl:=Hl o.loc;simp only[bv]at hl;refine aC Tryz.func192 rfl (fun E0=>?_);refine iK.sound (g:=.mk) (ow:=[]) (kp:=(kb 0x103f7)) ?_;rw[Tryz.ntmps192];simp -dsimp[outT,bv,mM,Pk.cs];try refine⟨?_,⟨by kernel_rfl⟩⟩
 refine aF.of hl [] 0 ?_;have hB:=tZ o.loc;unfold xU;generalize vW o.loc=L at hB⊢;simp -dsimp[ints];try refine⟨?_,⟨by kernel_rfl⟩⟩
 refine bY.of [] (kb 0x103f7) (ι:={i:Nat // i≤L.length})
  (fun z=>[(.o 5,It.box (p.cs.map .d)),(.s 5,It.v (.ptr (.o 5) 0)),(.s 0,It.v (.d (.int .i64 r))),(.s 6,It.v (.c (Value.slice none 0 0))),
   (.s 7,It.v (.d (.sl (L.map fun n=>[D.int .i64 n])))),
   (.s 8,It.v (.bK 8 z.1)),(.o 8,It.row 92 11 (dd (((L.take z.1).map fun k=>(r,pz p k)).map uH)) false),
   (.s 9,It.v (.d (.int .i64 z.1)))])
  (fun z=>L.length-z.1) ⟨0,by omega⟩ ?_ ?_
 ·exact GS.own' (k:=8) 92 11 (by simp) (by simp) (by simp[Pk.cs,bv])
 ·rintro⟨i,i1⟩;by_cases hi:i<L.length
  ·have hiz:(i:Int)<L.length:=by omega
   have hg:L[i]? = some L[i]:=ah hi;generalize L[i]=k at hg;have ho:=TR p k;have hn:dd (((L.take (i+1)).map fun k=>(r,pz p k)).map uH)=dd (((L.take i).map fun k=>(r,pz p k)).map uH)++[TV.d (.int .i64 r)::(pz p k).cs.map .d]:=by rw[aO,hg];simp[dd,uH]
   have hlen:(((L.take i).map fun k=>(r,pz p k)).map uH).length=i:=by simp;omega
   generalize pz p k=q at ho hn;simp[Pk.cs]at hn
   simp only[mM,Pk.cs,List.map]at ho;simp -dsimp[hg,hiz,Pk.cs];try refine⟨?_,⟨by kernel_rfl⟩⟩
   refine aF.of ho [] 0 ?_;simp -dsimp[wrap_i64 (n:=(i:Int)+1) (by omega) (by omega)];and_intros;all_goals try first|omega|exact⟨by kernel_rfl⟩
   exact⟨⟨i+1,by omega⟩,GS.to (by simp[hn,Pk.cs]),by simp;omega⟩
  ·have hiz :¬(i:Int)<L.length:=by omega
   obtain rfl:i=L.length:=by omega
   simp -dsimp[hiz];refine Fin.view 6 ?_;simp -dsimp;refine Fin.of ?_;simp
theorem Sj(l:List Tb)(hl:UY l)(p:Pk)(r:Int):Contract Tryz.prog 118 [.d (.sl (ig l)),mM p,.d (.int .i64 r)] [] (.d (.int .i64 (wK l p r))) [] []:=by
 have hck:=JE l hl;have hv:=DC p;have hf:=Ef l hl r;simp only[mM,Pk.cs,List.map]at hv;refine aC Tryz.func118 rfl (fun E0=>?_);refine iK.sound (g:=.mk) (ow:=[]) (kp:=(kb 0x80090101d7)) ?_;rw[Tryz.ntmps118];simp -dsimp[mM,Pk.cs];try refine⟨?_,⟨by kernel_rfl⟩⟩
 refine aF.of hck [] 0 ?_;by_cases h1:tK l=0
 rotate_left
 ·simp -dsimp[h1];try refine⟨?_,⟨by kernel_rfl⟩⟩
  refine Fin.of ?_;simp[wK,oh,h1]
 rcases (au p.ok).symm with h2|h2
 ·simp -dsimp[h1];try refine⟨?_,⟨by kernel_rfl⟩⟩
  refine aF.of hv [] 0 ?_;simp -dsimp[h2];try refine⟨?_,⟨by kernel_rfl⟩⟩
  refine Fin.of ?_;simp[wK,oh,h1,h2]
 simp -dsimp[h1];try refine⟨?_,⟨by kernel_rfl⟩⟩
 refine aF.of hv [] 0 ?_;cases hfd:iq l r with
 | none=>
   rw[hfd]at hf
   simp only[rY,jf,jK,tb0,gQ]at hf;simp -dsimp[h2];try refine⟨?_,⟨by kernel_rfl⟩⟩
   refine aF.of hf [] 0 ?_;simp -dsimp;try refine⟨?_,⟨by kernel_rfl⟩⟩
   refine Fin.of ?_;simp[wK,oh,h1,h2,hfd]
 | some b=>
   rw[hfd]at hf
   simp only[rY,bf,kU,gQ]at hf;simp -dsimp[h2];try refine⟨?_,⟨by kernel_rfl⟩⟩
   refine aF.of hf [] 0 ?_;by_cases h3:p.mode=2
   ·simp -dsimp[eq_true h3];try refine⟨?_,⟨by kernel_rfl⟩⟩
    refine Fin.of ?_;simp[wK,oh,h1,h2,hfd,h3]
   by_cases h4:p.gU=b.sd
   rotate_left
   ·simp -dsimp[h3,h4];try refine⟨?_,⟨by kernel_rfl⟩⟩
    refine Fin.of ?_;simp[wK,oh,h1,h2,hfd,h3,h4]
   by_cases h5:p.len=b.len
   rotate_left
   ·simp -dsimp[h3,eq_true h4,h5];try refine⟨?_,⟨by kernel_rfl⟩⟩
    refine Fin.of ?_;simp[wK,oh,h1,h2,hfd,h3,h4,h5]
   simp -dsimp[h3,eq_true h4,eq_true h5];try refine⟨?_,⟨by kernel_rfl⟩⟩
   refine Fin.of ?_;simp[wK,oh,h1,h2,hfd,h3,h4,h5]
def CP(t:uN):List (Nat×It):=[(900,.row 92 11 (dd (t.dl.map uH)) false),(901,.row 96 3 (dd (t.cr.map yH)) false),(902,.row 176 2 (dd (t.ls.map Bq)) false)]
def lY(t:uN)(r:Int)(p:Pk)(o:Out):uN:=⟨t.dl++xU r o p,t.cr++o.qy.map (fun c=>(r,c.1,c.2.bits)),if o.lost=0#64 then t.ls else t.ls++[(r,o.lost)]⟩
theorem Hz(t:uN)(h1:t.dl.length≤1000000)(h2:t.cr.length≤1000000)(h3:t.ls.length≤1000000)(r:Int)(p:Pk)(o:Out)(ho:o.qy.length≤64):
  wz Tryz.prog 119 [.agg [.bK 900 t.dl.length,.bK 901 t.cr.length,.bK 902 t.ls.length],.d (.int .i64 r),mM p,outT o] [] (CP t) (.agg [.bK 900 (lY t r p o).dl.length,.bK 901 (lY t r p o).cr.length,.bK 902 (lY t r p o).ls.length]) [] (CP (lY t r p o)):=by
 have hlc:=OE r o p;simp only[outT,mM,Pk.cs,List.map]at hlc;refine y5 Tryz.func119 rfl (fun E0=>?_);refine iK.sound (g:=.mk) (ow:=[]) (kp:=(kb 0x4001003df)) ?_;rw[Tryz.ntmps119];simp -dsimp[mM,Pk.cs,outT,CP];try refine⟨?_,⟨by kernel_rfl⟩⟩
 refine aF.of hlc [] 0 ?_;have hll:(xU r o p).length≤64:=by unfold xU;rw[aN];exact tZ _
 have hn0:lY t r p o=⟨t.dl++xU r o p,t.cr++o.qy.map (fun c=>(r,c.1,c.2.bits)),if o.lost=0#64 then t.ls else t.ls++[(r,o.lost)]⟩:=rfl;rw[hn0];clear hn0;generalize xU r o p=LV at hll⊢;have hdl:dLen 11 (LV.map uH):=mO 11 _ _ fun _=>rfl
 obtain⟨afj,Gh,jT⟩:=o;simp only at ho⊢;have hCl:(jT.map fun c=>(r,c.1,c.2.bits)).length=jT.length:=by simp
 have hCg:∀(j:Nat) (c:Int×Pk),jT[j]? = some c→(jT.map fun c=>(r,c.1,c.2.bits))[j]? = some (r,c.1,c.2.bits):=fun j c h=>by simp[h]
 generalize (jT.map fun c=>(r,c.1,c.2.bits))=Gf at hCl hCg⊢;by_cases c0:Gh=0#64
 ·simp -dsimp[c0,bv];and_intros;all_goals try first|omega|exact hdl|exact rfl|exact⟨by kernel_rfl⟩
  refine bY.of [] (kb 0x4001003df) (ι:={j:Nat // j≤jT.length})
   (fun j=>[(.s 1,It.v (.d (.int .i64 r))),
    (.o 900,It.row 92 11 (dd (t.dl.map uH)++dd (LV.map uH)) false),(.o 901,It.row 96 3 (dd (t.cr.map yH)++dd (List.take j.1 (Gf.map yH))) false),(.o 902,It.row 176 2 (dd (t.ls.map Bq)) false),
    (.o 4,It.box [TV.bK 900 (t.dl.length+LV.length),TV.bK 901 (t.cr.length+j.1),TV.bK 902 (t.ls.length)]),(.s 4,It.v (.ptr (.o 4) 0)),
    (.o 7,It.box [TV.d (.int IntKind.u64 (tn afj)),TV.d (.int IntKind.u64 (tn Gh)),TV.d (.sl (List.map Jb jT))]),(.s 7,It.v (.ptr (.o 7) 0)),
    (.o 8,It.box [TV.c (Value.slice none 0 0),TV.c (Value.slice none 0 0),TV.c (Value.slice none 0 0)]),(.s 8,It.v (.ptr (.o 8) 0)),(.s 9,It.v (.d (.int .i64 j.1)))])
   (fun j=>jT.length-j.1) ⟨0,by omega⟩ ?_ ?_
  ·exact GS.to (by simp[c0])
  ·rintro⟨j,j1⟩;by_cases hj:j<jT.length
   ·have hjz:(j:Int)<jT.length:=by omega
    have hg:jT[j]? = some jT[j]:=ah hj;have hcg:=hCg j _ hg;generalize jT[j]=c at hg hcg;obtain⟨c1,c2⟩:=c;have hn1:dd (List.take (j+1) (Gf.map yH))=dd (List.take j (Gf.map yH))++[[TV.d (.int .i64 r),TV.d (.int .i64 c1),TV.d (bv c2.bits)]]:=by rw[aO,bC,hcg];simp[dd,yH]
    have hm1:min j Gf.length=j:=by omega
    simp -dsimp[hg,hjz,Jb,Pk.cs,bv,hm1,wrap_i64 (n:=(j:Int)+1) (by omega) (by omega)];and_intros;all_goals try first|omega|exact⟨by kernel_rfl⟩
    exact⟨⟨j+1,by omega⟩,GS.to (by simp[hn1,bv,aX]),by simp;omega⟩
   ·have hjz :¬(j:Int)<jT.length:=by omega
    obtain rfl:j=jT.length:=by omega
    have ht1:List.take jT.length (Gf.map yH)=Gf.map yH:=aW (by simp;omega);simp -dsimp[hjz];try refine⟨?_,⟨by kernel_rfl⟩⟩
    refine Fin.of ?_;simp[ht1,c0,hCl,Bq,bv,CP]
 ·simp -dsimp[c0,bv];and_intros;all_goals try first|omega|exact hdl|exact rfl|exact⟨by kernel_rfl⟩
  refine bY.of [] (kb 0x4001003df) (ι:={j:Nat // j≤jT.length})
   (fun j=>[(.s 1,It.v (.d (.int .i64 r))),
    (.o 900,It.row 92 11 (dd (t.dl.map uH)++dd (LV.map uH)) false),(.o 901,It.row 96 3 (dd (t.cr.map yH)++dd (List.take j.1 (Gf.map yH))) false),(.o 902,It.row 176 2 (dd (t.ls.map Bq)++[[TV.d (.int .i64 r),TV.d (.int .u64 (tn Gh))]]) false),
    (.o 4,It.box [TV.bK 900 (t.dl.length+LV.length),TV.bK 901 (t.cr.length+j.1),TV.bK 902 (t.ls.length+1)]),(.s 4,It.v (.ptr (.o 4) 0)),
    (.o 7,It.box [TV.d (.int IntKind.u64 (tn afj)),TV.d (.int IntKind.u64 (tn Gh)),TV.d (.sl (List.map Jb jT))]),(.s 7,It.v (.ptr (.o 7) 0)),
    (.o 8,It.box [TV.c (Value.slice none 0 0),TV.c (Value.slice none 0 0),TV.c (Value.slice none 0 0)]),(.s 8,It.v (.ptr (.o 8) 0)),(.s 9,It.v (.d (.int .i64 j.1)))])
   (fun j=>jT.length-j.1) ⟨0,by omega⟩ ?_ ?_
  ·exact GS.to (by simp[c0])
  ·rintro⟨j,j1⟩;by_cases hj:j<jT.length
   ·have hjz:(j:Int)<jT.length:=by omega
    have hg:jT[j]? = some jT[j]:=ah hj;have hcg:=hCg j _ hg;generalize jT[j]=c at hg hcg;obtain⟨c1,c2⟩:=c;have hn1:dd (List.take (j+1) (Gf.map yH))=dd (List.take j (Gf.map yH))++[[TV.d (.int .i64 r),TV.d (.int .i64 c1),TV.d (bv c2.bits)]]:=by rw[aO,bC,hcg];simp[dd,yH]
    have hm1:min j Gf.length=j:=by omega
    simp -dsimp[hg,hjz,Jb,Pk.cs,bv,hm1,wrap_i64 (n:=(j:Int)+1) (by omega) (by omega)];and_intros;all_goals try first|omega|exact⟨by kernel_rfl⟩
    exact⟨⟨j+1,by omega⟩,GS.to (by simp[hn1,bv,aX]),by simp;omega⟩
   ·have hjz :¬(j:Int)<jT.length:=by omega
    obtain rfl:j=jT.length:=by omega
    have ht1:List.take jT.length (Gf.map yH)=Gf.map yH:=aW (by simp;omega);simp -dsimp[hjz];try refine⟨?_,⟨by kernel_rfl⟩⟩
    refine Fin.of ?_;simp[ht1,c0,hCl,Bq,bv,CP]
theorem J3{l:List Tb}{q:Int×Pk}{b:Tb}(hf:iq l q.1=some b)(t:uN):stepT l q t=lY t q.1 q.2 (yT b q.2).1:=by simp[stepT,hf,lY]
theorem JZ{l:List Tb}{q:Int×Pk}(hf:iq l q.1=none)(hq:q.2.bits≠0#64)(t:uN):stepT l q t=lY t q.1 q.2 ⟨0#64,q.2.bits,[]⟩:=by simp[stepT,hf,lY,hq,xU,BN]
theorem Yr(l:List Tb)(hl:UY l)(p:Pk)(r:Int):Contract Tryz.prog 44 [.d (.sl (ig l)),mM p,.d (.int .i64 r)] [] (.sZ [C9 (oh l p r).1,.d (.int .i64 (oh l p r).2)]) [] []:=by
 have hfi:=Sj l hl p r;simp only[mM,Pk.cs,List.map]at hfi;refine aC Tryz.func44 rfl (fun E0=>?_);refine iK.sound (g:=.mk) (ow:=[29,1000119]) (kp:=(kb 0x10000020041ffd7)) ?_;rw[Tryz.ntmps44];simp -dsimp[mM,Pk.cs];try refine⟨?_,⟨by kernel_rfl⟩⟩
 refine aF.of hfi [] 0 ?_;by_cases h1:wK l p r=0
 rotate_left
 ·simp -dsimp[h1];try refine⟨?_,⟨by kernel_rfl⟩⟩
  refine Fin.box (.o 6) rfl ?_;simp -dsimp;refine Fin.of ?_;simp[Sr h1,C9,o_]
 simp -dsimp[h1];try refine⟨?_,⟨by kernel_rfl⟩⟩
 obtain⟨hF,hfr,hr⟩:=Sl h1;have hwt:=adU hF.ok;rw[hr];have ZB:wR [(r,p)]=wt p:=by simp[wR]
 refine bY.of [29,1000119] (kb 0x10000020041ffd7) (ι:={z:Nat×Nat×List (Int×Pk)×uN // lK l (wt p) [(r,p)] o_=lK l z.1 (z.2.2.1.drop z.2.1) z.2.2.2∧wR (z.2.2.1.drop z.2.1)≤z.1∧z.2.1+z.1≤8129∧z.2.1≤z.2.2.1.length∧(∀q∈z.2.2.1.drop z.2.1,uU l q.2∧(iq l q.1=none→q.2.bits≠0#64))∧z.2.2.2.dl.length+64*z.1≤600000∧z.2.2.2.cr.length+64*z.1≤600000∧z.2.2.2.ls.length+z.1≤600000})
  (fun z=>[(.s 0,It.v (.d (.sl (ig l)))),(.o 6,It.box [TV.c (Value.slice none 0 0),TV.c (Value.slice none 0 0),TV.c (Value.slice none 0 0)]),(.s 6,It.v (.ptr (.o 6) 0)),(.s 7,It.v (.d (.int .i64 0))),
   (.o 10,It.box [TV.bK 70 z.1.2.2.2.dl.length,TV.bK 71 z.1.2.2.2.cr.length,TV.bK 72 z.1.2.2.2.ls.length]),(.s 10,It.v (.ptr (.o 10) 0)),
   (.o 70,It.row 92 11 (dd (z.1.2.2.2.dl.map uH)) false),(.o 71,It.row 96 3 (dd (z.1.2.2.2.cr.map yH)) false),(.o 72,It.row 176 2 (dd (z.1.2.2.2.ls.map Bq)) false),
   (.o 29,It.row 29 12 (dd (z.1.2.2.1.map Jb)) false),(.s 9,It.v (.bK 29 z.1.2.2.1.length)),(.s 11,It.v (.d (.int .i64 z.1.2.1)))])
  (fun z=>z.1.1) ⟨(wt p,0,[(r,p)],o_),rfl,by simp only[List.drop_zero,ZB];omega,by simp only;omega,by simp,by intro q hq;simp at hq;subst hq;exact⟨hF,fun e=>by simp[e]at hfr⟩,by simp[o_];omega,by simp[o_];omega,by simp[o_];omega⟩ ?_ ?_
 ·refine(GS.WB (.o 10) 0 70 (cs:=[.c (.slice none 0 0),.c (.slice none 0 0),.c (.slice none 0 0)]) 92 11 (by simp) (by simp) (by simp) (by simp)).trans ?_;simp only[oC,Pl.o.injEq,reduceCtorEq,if_false,if_true,Nat.reduceEqDiff,List.set];refine(GS.WB (.o 10) 1 71 (cs:=[.bK 70 0,.c (.slice none 0 0),.c (.slice none 0 0)]) 96 3 (by simp) (by simp) (by simp) (by simp)).trans ?_
  simp only[oC,Pl.o.injEq,reduceCtorEq,if_false,if_true,Nat.reduceEqDiff,List.set];exact GS.AV (.o 10) 2 72 (cs:=[.bK 70 0,.bK 71 0,.c (.slice none 0 0)]) 176 2 (by simp) (by simp) (by simp) (by simp) (by simp[o_,Jb,Pk.cs])
 ·rintro⟨⟨n,i,Q,t⟩,i1,i2,i3,i4,i5,i6,i7,i8⟩;simp only at i1 i2 i3 i4 i5 i6 i7 i8;by_cases hi:i<Q.length
  ·have hiz:(i:Int)<Q.length:=by omega
   have hg:Q[i]? = some Q[i]:=ah hi;have hd:Q.drop i=Q[i]::Q.drop (i+1):=aU hi;generalize Q[i]=q at hg hd;obtain⟨q1,q2⟩:=q;rw[hd]at i1 i2 i5
   rw[BG]at i2
   have hq:=MB l (q1,q2);have hQl:=Hg (Q.drop (i+1));rw[kZ]at hQl
   have hw1:1≤wt q2:=by unfold wt;omega
   simp only at i2 hq;obtain⟨n,rfl⟩:∃j,n=j+1:=⟨n-1,by omega⟩
   rw[lK]at i1
   have hFq:=(i5 (q1,q2) (by simp)).1;have hFb:=(i5 (q1,q2) (by simp)).2;have V5:=Ef l hl q1;have hgr:(dd (Q.map Jb))[i]? = some (TV.d (.int .i64 q1)::TV.d (.sl [])::q2.cs.map .d):=by simp[dd,hg,Jb]
   simp -dsimp[hiz,hgr,Pk.cs];and_intros;all_goals try first|omega|exact⟨by kernel_rfl⟩
   have step:∀(o:Out) (Q':List (Int×Pk)) (i':Int),GS {E0:=E0,N:=70}
     (Tr.look [(.s 0,It.v (.d (.sl (ig l)))),(.o 6,It.box [TV.c (Value.slice none 0 0),TV.c (Value.slice none 0 0),TV.c (Value.slice none 0 0)]),(.s 6,It.v (.ptr (.o 6) 0)),(.s 7,It.v (.d (.int .i64 0))),
      (.o 10,It.box [TV.bK 1900 (lY t q1 q2 o).dl.length,TV.bK 1901 (lY t q1 q2 o).cr.length,TV.bK 1902 (lY t q1 q2 o).ls.length]),(.s 10,It.v (.ptr (.o 10) 0)),
      (.o 1900,It.row 92 11 (dd ((lY t q1 q2 o).dl.map uH)) false),(.o 1901,It.row 96 3 (dd ((lY t q1 q2 o).cr.map yH)) false),(.o 1902,It.row 176 2 (dd ((lY t q1 q2 o).ls.map Bq)) false),
      (.o 29,It.row 29 12 (dd (Q'.map Jb)) false),(.s 9,It.v (.bK 29 Q'.length)),(.s 11,It.v (.d (.int .i64 i')))])
     (Tr.look [(.s 0,It.v (.d (.sl (ig l)))),(.o 6,It.box [TV.c (Value.slice none 0 0),TV.c (Value.slice none 0 0),TV.c (Value.slice none 0 0)]),(.s 6,It.v (.ptr (.o 6) 0)),(.s 7,It.v (.d (.int .i64 0))),
      (.o 10,It.box [TV.bK 70 (lY t q1 q2 o).dl.length,TV.bK 71 (lY t q1 q2 o).cr.length,TV.bK 72 (lY t q1 q2 o).ls.length]),(.s 10,It.v (.ptr (.o 10) 0)),
      (.o 70,It.row 92 11 (dd ((lY t q1 q2 o).dl.map uH)) false),(.o 71,It.row 96 3 (dd ((lY t q1 q2 o).cr.map yH)) false),(.o 72,It.row 176 2 (dd ((lY t q1 q2 o).ls.map Bq)) false),
      (.o 29,It.row 29 12 (dd (Q'.map Jb)) false),(.s 9,It.v (.bK 29 Q'.length)),(.s 11,It.v (.d (.int .i64 i')))]):=fun o Q' i'=>by
    refine GS.trans (GS.ren (a:=1900) (b:=70) (by decide) (by rw[Tr.OH];simp)) ?_;rw[BD (by decide) (by simp)];refine GS.trans (GS.ren (a:=1901) (b:=71) (by decide) (by rw[Tr.OH];simp)) ?_;rw[BD (by decide) (by simp)];exact GS.ren' 1902 72 (by decide) (by simp) (by simp)
   have rest:∀o:Out,o.qy.length≤64→lK l (wt p) [(r,p)] o_=lK l n (Q.drop (i+1)++o.qy) (lY t q1 q2 o)→wR o.qy+1≤wt q2→(∀c∈o.qy,uU l c.2∧(iq l c.1=none→c.2.bits≠0#64))→
     ∃j :{z:Nat×Nat×List (Int×Pk)×uN // lK l (wt p) [(r,p)] o_=lK l z.1 (z.2.2.1.drop z.2.1) z.2.2.2∧wR (z.2.2.1.drop z.2.1)≤z.1∧z.2.1+z.1≤8129∧z.2.1≤z.2.2.1.length∧(∀q∈z.2.2.1.drop z.2.1,uU l q.2∧(iq l q.1=none→q.2.bits≠0#64))∧z.2.2.2.dl.length+64*z.1≤600000∧z.2.2.2.cr.length+64*z.1≤600000∧z.2.2.2.ls.length+z.1≤600000},j.1=(n,i+1,Q++o.qy,lY t q1 q2 o):=fun o ho e1 e2 e3=>by
    have hdrop:(Q++o.qy).drop (i+1)=Q.drop (i+1)++o.qy:=List.drop_append_of_le_length (by omega);have hlv:(xU q1 o q2).length≤64:=by unfold xU;rw[aN];exact tZ _
    refine⟨⟨(n,i+1,Q++o.qy,lY t q1 q2 o),by simp only[hdrop];exact e1,by simp only[hdrop,Fa];omega,by simp only;omega,by simp only[aS];omega,?_,?_,?_,?_⟩,rfl⟩
    ·intro q hq;simp only[hdrop]at hq;rcases aJ.1 hq with hq|hq
     ·exact i5 q (by simp[hq])
     ·exact e3 q hq
    ·simp only[lY,aS];omega
    ·simp only[lY,aS,aN];omega
    ·simp only[lY];split<;>(try simp only[aS,aT,eY])<;>omega
   cases hfd:iq l q1 with
   | none=>
     have eN:nextQ l (q1,q2) = []:=by simp[nextQ,hfd]
     have eS:=JZ (q:=(q1,q2)) hfd (hFb hfd) t;rw[eN,eS]at i1
     obtain⟨jj,hjj⟩:=rest ⟨0#64,q2.bits,[]⟩ (by simp) i1 (by simp[wR];omega) (by simp);rw[hfd]at V5
     simp only[rY,jf,jK,tb0,gQ]at V5;have hnt:=Hz t (by omega) (by omega) (by omega) q1 q2 ⟨0#64,q2.bits,[]⟩ (by simp);simp only[mM,Pk.cs,List.map,outT,CP]at hnt;refine aF.of V5 [] 0 ?_;simp -dsimp[hiz];try refine⟨?_,⟨by kernel_rfl⟩⟩
     refine aF.view [63] ?_;simp -dsimp;try refine⟨?_,⟨by kernel_rfl⟩⟩
     refine aF.of2 hnt [] [(900,70),(901,71),(902,72)] 1000 ?_;simp -dsimp[bv,wrap_i64 (n:=(i:Int)+1) (by omega) (by omega)];and_intros;all_goals try first|omega|exact⟨by kernel_rfl⟩
     refine⟨jj,?_,by rw[hjj];simp⟩;rw[hjj];refine(GS.to ?_).trans (step ⟨0#64,q2.bits,[]⟩ (Q++[]) ((i:Int)+1));simp[bv,Pk.cs]
   | some b2=>
     have hb2:b2.Sm:=hl.t b2 (gG hfd);have hB2:=hFq.all b2 (nO hfd).1;obtain⟨hV1,hV2⟩:=BR hB2;have eN:nextQ l (q1,q2)=(vX b2 q2).qy:=by simp[nextQ,hfd,hV1]
     have eS:=J3 (q:=(q1,q2)) hfd t;have hnf:=MC (q:=(q1,q2)) hFq;have hRI:=(afW.step (l:=l) (q:=(q1,q2)) (Q:=[]) (t:=o_) ⟨fun c hc=>by simp at hc;subst hc;exact⟨hFq,hFb⟩,by simp[o_],by simp[o_],by simp[o_]⟩).fit;rw[gW]at hRI
     rw[eN]at i1 hq hRI
     rw[eS,hV1]at i1
     have hcl:=LG b2 q2;rw[hV1]at hcl
     simp only at hcl i1;have hdo:=aa_ b2 hb2 q2 hB2.ck hFq.ok hB2.len;rw[hfd]at V5
     simp only[rY,bf,kU,gQ]at V5;clear hV1 hV2 eN eS hnf;generalize vX b2 q2=o at i1 hq hRI hcl hdo;obtain⟨jj,hjj⟩:=rest o hcl i1 hq hRI;have hnt:=Hz t (by omega) (by omega) (by omega) q1 q2 o hcl;simp only[mM,Pk.cs,List.map,outT,CP,gQ]at hnt hdo;have hdl:dLen 12 (o.qy.map Jb):=mO 12 _ _ fun _=>rfl
     refine aF.of V5 [] 0 ?_;simp -dsimp[hiz];try refine⟨?_,⟨by kernel_rfl⟩⟩
     refine aF.of hdo [] 0 ?_;simp -dsimp;try refine⟨?_,⟨by kernel_rfl⟩⟩
     refine aF.of2 hnt [] [(900,70),(901,71),(902,72)] 1000 ?_;simp -dsimp[bv,wrap_i64 (n:=(i:Int)+1) (by omega) (by omega)];and_intros;all_goals try first|omega|exact hdl|exact⟨by kernel_rfl⟩
     refine⟨jj,?_,by rw[hjj];simp⟩;rw[hjj];refine(GS.to ?_).trans (step o (Q++o.qy) ((i:Int)+1));simp[bv,Pk.cs]
  ·have hiz :¬(i:Int)<Q.length:=by omega
   have e0:Q.drop i = []:=dJ (by omega);rw[e0,EW]at i1
   simp -dsimp[hiz];try refine⟨?_,⟨by kernel_rfl⟩⟩
   refine Fin.box (.o 6) rfl ?_;simp -dsimp;refine Fin.of ?_;simp[C9,i1]
end Go.Proofs
