/-
  What functions of the program compute, stated as contracts over plain data; the conditions of each stand in its own statement.
-/
import Derived.Test.YtboimfkommpglaaGreatDoorZB30
import Derived.Test.YtboimfkommpglaaGreatDoorZB21
import Derived.Test.YtboimfkommpglaaGreatDoorZB22
import Derived.Test.YtboimfkommpglaaGreatDoorZB24
import Derived.Test.YtboimfkommpglaaGreatDoorZB10
import Derived.Test.YtboimfkommpglaaGreatDoorRows
import Derived.OpenShut
import Derived.MakeChecks
import Derived.FnData
import Derived.LaidMore
import Derived.Test.YtboimfkommpglaaGreatDoorChecked
import Derived.Stop.Joined
import Derived.SevenTiedAt
import Derived.JoinedOf
set_option linter.unusedSimpArgs false
set_option linter.unusedVariables false
set_option maxRecDepth 100000
set_option maxHeartbeats 16000000
namespace Go.Proofs
open Go Go.Tr
def Vt(i:Nat):List Rt:=(List.range i).map fun (k:Nat)=>(⟨(k:Int)+1,true⟩:Rt)
def aiB:List (Int×Int):=[(1,2),(1,4),(2,3),(3,4)]
def Vs(i:Nat):List Lk:=(aiB.take i).map fun e=>⟨e.1,e.2,1,1,0⟩
def F8:bV:=⟨Vt 4,Vs 4⟩
def F9:Pn:=⟨0,8,[⟨3,1⟩]⟩
def Nz:List Tb:=tabs F8 F9 F8.rs
def afR:List Tb:=Nz.set 1 ⟨2,0,8,[⟨1,[1]⟩]⟩
theorem YH:iT F9=true:=H6 (by decide) (by decide) (fun i j hj hi=>by
 have hi:i<1:=hi;omega)
theorem YG:jE F8=0:=by decide+kernel
theorem aj3(k:Nat)(h:k<4):∃a b,aiB[k]? = some (a,b)∧([[D.int .i64 1,.int .i64 2],[.int .i64 1,.int .i64 4],[.int .i64 2,.int .i64 3],[.int .i64 3,.int .i64 4]]:List (List D))[k]? = some [.int .i64 a,.int .i64 b]∧Vs (k+1)=Vs k++[⟨a,b,1,1,0⟩]:=by
 match k,h with
 | 0,_=>exact⟨_,_,rfl,rfl,rfl⟩
 | 1,_=>exact⟨_,_,rfl,rfl,rfl⟩
 | 2,_=>exact⟨_,_,rfl,rfl,rfl⟩
 | 3,_=>exact⟨_,_,rfl,rfl,rfl⟩
theorem amz{l:List Tb}(h:tK l=0)(he:NH F9 Nz l=true)(hc:(F8.rs.any fun x=>!x.cap)=false):xQ F8 F9 l=(yA l Nz F9.es,0):=by
 have e:exV F8 F9 l=(Nz,0):=by unfold exV;rw[if_neg (by simp[YG,YH,h]),hc,if_neg (by simp)];rw[if_neg (by rw[show tabs F8 F9 F8.rs=Nz from rfl,he];simp)];rfl
 unfold xQ;rw[e,if_pos rfl];rfl
theorem abR:xQ F8 F9 Nz=([],0):=by rw[amz (by kernel_rfl) (by kernel_rfl) (by kernel_rfl)];exact congrArg (·,(0:Int)) (show yA Nz Nz F9.es = [] by kernel_rfl)
theorem ae3:xQ F8 F9 afR=([[5,2,1,1]],0):=by rw[amz (by kernel_rfl) (by kernel_rfl) (by kernel_rfl)];exact congrArg (·,(0:Int)) (show yA afR Nz F9.es = [[5,2,1,1]] by kernel_rfl)
theorem D6:Contract Tryz.prog 58 [] [] (.d (.bool true)) [] []:=by
 have hG:F8.Sm:=⟨by simp[F8,Vt],by simp[F8,Vs,aiB]⟩
 have hS:∀b∈Nz,chk b=0:=Nr YG YH;have hl4:Nz.length=4:=by kernel_rfl
 have hb4:afR.length=4:=by kernel_rfl
 have h1:=afZ F8 hG YG F9 YH (by simp[F9]);rw[show tabs F8 F9 F8.rs=Nz from rfl,hl4]at h1
 have h2:=ED F8 hG F9 (by simp[F9]) Nz (.inl ⟨by rw[hl4];omega,fun b hb=>Fp (hS b hb)⟩);rw[abR]at h2
 have h3:=ED F8 hG F9 (by simp[F9]) afR (.inl ⟨by rw[hb4];omega,fun b hb=>Fp ((by decide+kernel:∀b∈afR,chk b=0) b hb)⟩);rw[ae3]at h3
 have hW:ig Nz = [[.int .i64 1,.int .i64 0,.int .i64 8,.sl [[.int .i64 1,.sl [[.int .i64 2],[.int .i64 4]]]]],[.int .i64 2,.int .i64 0,.int .i64 8,.sl [[.int .i64 1,.sl [[.int .i64 3]]]]],[.int .i64 3,.int .i64 0,.int .i64 8,.sl [[.int .i64 1,.sl [[.int .i64 3]]]]],[.int .i64 4,.int .i64 0,.int .i64 8,.sl [[.int .i64 1,.sl [[.int .i64 3]]]]]]:=by kernel_rfl
 have hB:ig afR = [[.int .i64 1,.int .i64 0,.int .i64 8,.sl [[.int .i64 1,.sl [[.int .i64 2],[.int .i64 4]]]]],[.int .i64 2,.int .i64 0,.int .i64 8,.sl [[.int .i64 1,.sl [[.int .i64 1]]]]],[.int .i64 3,.int .i64 0,.int .i64 8,.sl [[.int .i64 1,.sl [[.int .i64 3]]]]],[.int .i64 4,.int .i64 0,.int .i64 8,.sl [[.int .i64 1,.sl [[.int .i64 3]]]]]]:=by kernel_rfl
 rw[hW]at h1 h2
 rw[hB]at h3
 simp only[d_,iE,F8,F9,lX,List.map,Ed.cs]at h1 h2 h3;refine aC Tryz.func58 rfl (fun E0=>?_);refine iK.sound (g:=.mk) (ow:=[1000056]) (kp:=(kb 0x400000000078002f77)) ?_;rw[Tryz.ntmps58];simp -dsimp
 refine bY.of [1000056] (kb 0x400000000078002f77) (ι:={i:Nat // i≤4})
  (fun z=>[(.s 0,It.v (.d (.bool false))),(.o 1,It.box [TV.bK 1000 z.1,TV.c (Value.slice none 0 0)]),(.s 1,It.v (.ptr (.o 1) 0)),(.s 2,It.v (.d (.int .i64 ((z.1:Int)+1)))),(.o 1000,.row 117 2 (dd (rts (Vt z.1))) false)])
  (fun z=>4-z.1) ⟨0,by omega⟩ ?_ ?_
 ·exact GS.AV (.o 1) 0 1000 (cs:=[TV.c (Value.slice none 0 0),TV.c (Value.slice none 0 0)]) 117 2 (by simp) (by simp) (by simp) (by simp) (by simp[Vt,rts])
 rintro⟨i,i1⟩;by_cases hi:i<4
 ·have hiz:(i:Int)+1≤4:=by omega
  have hl:(rts (Vt i)).length=i:=by simp[rts,Vt]
  have w1:IntKind.i64.wrap ((i:Int)+1+1)=(i:Int)+1+1:=wrap_i64 (by omega) (by omega);simp -dsimp[hiz,w1,hl];and_intros;all_goals try first|rfl|omega|exact⟨by kernel_rfl⟩
  exact⟨⟨i+1,by omega⟩,GS.to (by simp[rts,Vt,je,Rt.cs]),by simp;omega⟩
 have hiz :¬(i:Int)+1≤4:=by omega
 obtain rfl:i=4:=by omega
 have avT:(rts (Vt 4)).length=4:=by simp[rts,Vt]
 simp -dsimp[hiz];and_intros;all_goals try first|rfl|omega|exact⟨by kernel_rfl⟩
 refine bY.of [1000056] (kb 0x400000000078002f77) (ι:={i:Nat // i≤4})
  (fun z=>[(.s 0,It.v (.d (.bool false))),(.o 1,It.box [TV.bK 1000 4,TV.bK 1001 z.1]),(.s 1,It.v (.ptr (.o 1) 0)),(.o 1000,.row 117 2 (dd (rts (Vt 4))) false),(.o 1001,.row 142 5 (dd (pq (Vs z.1))) false),
   (.s 27,It.v (.d (.sl [[D.int .i64 1,.int .i64 2],[.int .i64 1,.int .i64 4],[.int .i64 2,.int .i64 3],[.int .i64 3,.int .i64 4]]))),(.s 28,It.v (.d (.int .i64 4))),(.s 29,It.v (.d (.int .i64 z.1)))])
  (fun z=>4-z.1) ⟨0,by omega⟩ ?_ ?_
 ·exact GS.AV (.o 1) 1 1001 (cs:=[TV.bK 1000 4,TV.c (Value.slice none 0 0)]) 142 5 (by simp) (by simp) (by simp) (by simp) (by simp[Vs,pq])
 rintro⟨i,i1⟩;by_cases hi:i<4
 ·have hiz:(i:Int)<4:=by omega
  have hl:(pq (Vs i)).length=i:=by simp[pq,Vs,aiB];omega
  obtain⟨a,b,ha,hb,hk⟩:=aj3 i hi;have w1:IntKind.i64.wrap ((i:Int)+1)=(i:Int)+1:=wrap_i64 (by omega) (by omega);simp -dsimp[hiz,w1,hl,hb];and_intros;all_goals try first|rfl|omega|exact⟨by kernel_rfl⟩
  exact⟨⟨i+1,by omega⟩,GS.to (by simp[pq,hk,Lk.cs]),by simp;omega⟩
 have hiz :¬(i:Int)<4:=by omega
 obtain rfl:i=4:=by omega
 have avS:(pq (Vs 4)).length=4:=by simp[pq,Vs,aiB]
 simp -dsimp[hiz];and_intros;all_goals try first|rfl|omega|exact⟨by kernel_rfl⟩
 refine aF.of h1 [] 2000 ?_;simp -dsimp;and_intros;all_goals try first|rfl|omega|exact⟨by kernel_rfl⟩
 refine aF.view [54,55] ?_;simp -dsimp;and_intros;all_goals try first|rfl|omega|exact⟨by kernel_rfl⟩
 refine aF.lend h2 56 ?_ ?_ ?_ ?_
 ·intro t0;simp[TV.rP,TV.pass,TV.sQ,TV.CJ]
 ·simp[TV.uy,TV.rows]
 ·intro E1 E2 u;simp only[aV,b_,Rep,lC,dY,eY];rintro⟨us,rfl,y,us',e1,h,e2⟩;refine⟨us,rfl,y,us',e1,h.imp id fun⟨b,o,c,k,e,hc,_⟩=>⟨b,o,c,k,e,hc,trivial⟩,e2⟩
 simp -dsimp;and_intros;all_goals try first|rfl|omega|exact⟨by kernel_rfl⟩
 refine aF.view [78,79,80] ?_;simp -dsimp;and_intros;all_goals try first|rfl|omega|exact⟨by kernel_rfl⟩
 refine aF.of h3 [] 0 ?_;simp -dsimp[lC];and_intros;all_goals try first|rfl|omega|exact⟨by kernel_rfl⟩
 refine Fin.of ?_;simp
end Go.Proofs

namespace Go.Proofs.YtboimfkommpglaaGreatDoor
open Go Go.Tr
set_option maxRecDepth 100000
def x9 : List (String × DataW Unit) := [("math/bits.deBruijn64tab", Rows.laid_math_bits_deBruijn64tab)]
theorem asi : Tryz.prog.globalNamed "math/bits.deBruijn64tab" = some 0 := by kernel_rfl
theorem atO:(Tryz.prog.globals[0]?).map (·.type)=some 280:=by kernel_rfl
theorem atP:Tryz.prog.underlying 280=some (.array 64 5):=by kernel_rfl
theorem an0:Tryz.prog.underlying 5=some (.int .u8):=by kernel_rfl
theorem amv:Tryz.prog.cellsOf 5=1:=by kernel_rfl
theorem aiX{H:Type}:(Rows.laid_math_bits_deBruijn64tab:DataW H) = .agg (deb.map fun n=>.lit (.int .u8 n)):=rfl
theorem zf{W:World}(h:laidMetH Tryz.prog x9 W):KA W:=by
 rw[MakeChecks.laidMetH_plain _ _ _ (by kernel_rfl)]at h
 obtain⟨ps,⟨g0,t0,cs0,f0,p0,q0,hg0,ht0,hv0,hd0,_⟩,_,_⟩:=h;obtain rfl:=Option.some.inj (asi.symm.trans hg0);obtain rfl:=Option.some.inj (atO.symm.trans ht0);obtain⟨xs,m1,rfl,hx1,hlen,hn,hel⟩:=DataW.trod_array atP hd0;simp only[aK,aiX,DataW.agg.injEq]at hx1;have hcell:∀i:Nat,i<64→cs0[i]? = some (.int .u8 (deb.getD i 0)):=fun i hi=>by
  have h1:=hel i hi;rw[amv,Nat.mul_one]at h1
  have h2:xs[i]? = some xs[i]:=ah (by omega);rw[h2]at h1
  obtain⟨n,e1,e2,_⟩:=DataW.trod_int an0 h1;have h3:(xs.map (·.1))[i]? = (deb.map fun n=>(DataW.lit (Lit.int .u8 n):DataW Unit))[i]? :=by rw[←hx1.1]
  rw[bC,h2,dF,e2,bC]at h3
  have h4:deb[i]? = some n:=by
   cases hd:deb[i]? with
   | none=>rw[hd]at h3;simp at h3
   | some k=>rw[hd]at h3;simp at h3;rw[h3]
  have h5:cs0.toList[i]? = some (.int .u8 n):=by have:=congrArg (fun l=>l[0]?) e1;simp only[eG,jv]at this;simpa using this
  rw[ak,h4,bf];simpa using h5
 have hbl:0<W.heap.size:=by
  have:=World.var?_cell hg0 hv0 0;rw[hcell 0 (by omega)]at this
  exact World.block_lt_of_cell? W ⟨0,0,none⟩ this
 intro y hy;simp only[Zt,bn]at hy;subst hy;refine gq.lq fun i x hx=>?_
 simp only[bC,fV]at hx;obtain⟨n,h1,rfl⟩:=hx;have hi:i<64:=(aA.1 h1).1;refine⟨hbl,.int .u8 n,?_,by simp only[Rep]⟩;have:=World.var?_cell hg0 hv0 i;rw[hcell i hi,ak,h1,bf]at this
 rw[dR];exact this
end Go.Proofs.YtboimfkommpglaaGreatDoor

namespace Go.Proofs
open Go Go.Tr
end Go.Proofs

namespace Go.Proofs.YtboimfkommpglaaGreatDoor.cf
open Go
theorem gX{a b:Bool}(h:a=true)(k:b=true):(a&&b)=true:=by rw[h,k];rfl
theorem own:ownKnob Tryz.prog.godebug=none:=by kernel_rfl
theorem laidOut:laidOutB Tryz.prog=true:=by kernel_rfl
theorem rowed:mapsRowed Tryz.prog=true:=by kernel_rfl
theorem heard:Tryz.prog.stopsHeard=true:=by kernel_rfl
theorem may:Tryz.prog.mayEnter=true:=by kernel_rfl
theorem main : Tryz.prog.mainIs = some (true, "22e48be9cd61c4ef9d5f14216729acba0b833e18762d81acefabb4729de81b78".toList) := by kernel_rfl
theorem looks:false=Tryz.prog.looks []:=by kernel_rfl
end Go.Proofs.YtboimfkommpglaaGreatDoor.cf
