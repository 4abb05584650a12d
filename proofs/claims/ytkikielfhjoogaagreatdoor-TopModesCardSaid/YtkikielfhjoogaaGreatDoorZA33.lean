/-
  What functions of the program compute, stated as contracts over plain data; the conditions of each stand in its own statement.
-/
import Derived.Test.YtkikielfhjoogaaGreatDoorZA26
import Derived.Test.YtkikielfhjoogaaGreatDoorZA15
import Derived.Shelf.SlGeneric
import Derived.Shelf.SortM.SortNone
import Derived.Shelf.SortM.Plain
import Derived.Shelf.SlicesG.CompactI
import Derived.Ground.SlgmProg
import Derived.Test.YtkikielfhjoogaaGreatDoorChecked
import Derived.Test.YtkikielfhjoogaaGreatDoorZA11
import Derived.Test.YtkikielfhjoogaaGreatDoorZA32
import Derived.Test.YtkikielfhjoogaaGreatDoorZA31
import Derived.Test.YtkikielfhjoogaaGreatDoorZA28
import Derived.Test.YtkikielfhjoogaaGreatDoorZA29
set_option linter.unusedSimpArgs false
set_option linter.unusedVariables false
set_option maxRecDepth 100000
set_option maxHeartbeats 8000000
namespace Go.Proofs
open Go Go.Tr
structure Nr(r:Int)(T:List (Int×Int)):Prop where
 rt:1≤r∧r≤99
 ls:∀h∈T,(1≤h.1∧h.1≤99)∧1≤h.2∧h.2≤99
 BP:T.Pairwise fun a b=>a.1<b.1∨(a.1=b.1∧a.2<b.2)
 nd:(r::T.map (·.2)).Nodup
 kn:∀h∈T,h.1∈Rn r T
 n:T.length≤1000
theorem XT:∀l:List (List Int×D),kV (l.map (·.1)) (l.map (·.2))=l.map fun x=>(x.1,.d x.2)
 | []=>rfl
 | x::l=>by have ih:=XT l;unfold kV at ih;simp only[kV,aC,mJ,ih]
theorem KC(r:Int)(T:List (Int×Int))(h:Nr r T):Contract Tryz.prog 104 [vw r T] [] (.d (.int .i64 0)) [] []:=by
 have hlen:=D7 T;have hn:=h.n;have hrc:=aeF r T hn;simp only[vw]at hrc;refine ay Tryz.func104 rfl (fun E0=>?_);refine iC.sound (g:=.mk) (ow:=[3000067]) (kp:=(kb 0x81e020f0400000104007a2df7)) ?_
 rw[Tryz.ntmps104];simp -dsimp[vw];refine aI.of (zD r) [] 0 ?_;simp -dsimp[h.rt];and_intros;all_goals try first|rfl|omega|exact⟨by kernel_rfl⟩
 refine dD.of [3000067] (kb 0x81e020f0400000104007a2df7) (ι:={i:Nat // i≤T.length}) (fun z=>[(.s 0,It.v (.agg [TV.d (.int .i64 r),TV.d (.sl (hps T))])),(.o 1,It.box [TV.d (.int .i64 r),TV.d (.sl (hps T))]),(.s 1,It.v (.ptr (.o 1) 0)),(.s 2,It.v (.d (.int .i64 0))),(.s 19,It.v (.d (.sl (hps T)))),(.s 20,It.v (.d (.int .i64 T.length))),(.s 21,It.v (.d (.int .i64 z.1)))]) (fun z=>T.length-z.1) ⟨0,by omega⟩ ?_ ?_
 ·exact GS.to (by simp[hlen])
 ·rintro⟨i,i1⟩;by_cases hi:i<T.length
  ·have hiz:(i:Int)<T.length:=by omega
   have hl:=aj hi;have hm:=aJ hi;have hg:=yT hl;generalize T[i]=a at hm hg;obtain⟨c1,c2⟩:=h.ls a hm;simp -dsimp[hiz,hg,hlen];refine aI.of (zD a.1) [] 0 ?_;simp -dsimp[c1];refine aI.of (zD a.2) [] 0 ?_;simp -dsimp[c2,wrap_i64 (n:=(i:Int)+1) (by omega) (by omega)];and_intros;all_goals try first|rfl|omega|exact⟨by kernel_rfl⟩
   exact⟨⟨i+1,by omega⟩,GS.to (by simp),by simp;omega⟩
  ·have hiz :¬(i:Int)<T.length:=by omega
   simp -dsimp[hiz]
   refine dD.of [3000067] (kb 0x81e020f0400000104007a2df7) (ι:={i:Nat // 1≤i∧i≤T.length+1}) (fun z=>[(.s 0,It.v (.agg [TV.d (.int .i64 r),TV.d (.sl (hps T))])),(.o 1,It.box [TV.d (.int .i64 r),TV.d (.sl (hps T))]),(.s 1,It.v (.ptr (.o 1) 0)),(.s 2,It.v (.d (.int .i64 0))),(.s 5,It.v (.d (.int .i64 z.1)))]) (fun z=>T.length+1-z.1) ⟨1,by omega⟩ ?_ ?_
   ·exact GS.to (by simp)
   ·rintro⟨i,i0,i1⟩;by_cases hi:i<T.length
    ·have hiz:(i:Int)<T.length:=by omega
     have hg:=yT (aj hi);have hp:=yT (aj (show i-1<T.length by omega));have hlt:=bC.1 h.BP (i-1) i (by omega) hi (by omega);have hw:((i:Int)-1).toNat=i-1:=by omega
     generalize T[i-1]=a at hp hlt;generalize T[i]=b at hg hlt;simp -dsimp[hiz,hg,hp,hw,hlen,wrap_i64 (n:=(i:Int)-1) (by omega) (by omega)];and_intros;all_goals try first|rfl|omega|exact⟨by kernel_rfl⟩
     refine aI.of (zJ a.1 b.1) [] 0 ?_;simp -dsimp;refine aI.of (zJ a.2 b.2) [] 0 ?_;simp -dsimp;have hc:=akF (xk a.1 b.1) (xk a.2 b.2);simp only[ints,List.map]at hc;have hcv:Jv (xk a.1 b.1) (xk a.2 b.2)<0:=by
      unfold Jv xk;rcases hlt with e|⟨e,e2⟩
      ·simp[e]
      ·have :¬a.1<b.1:=by omega
       have :¬b.1<a.1:=by omega
       simp[*]
     have n1 :¬(0≤Jv (xk a.1 b.1) (xk a.2 b.2)):=by omega
     refine aI.of hc [] 0 ?_;simp -dsimp[n1,wrap_i64 (n:=(i:Int)+1) (by omega) (by omega)];and_intros;all_goals try first|rfl|omega|exact⟨by kernel_rfl⟩
     exact⟨⟨i+1,by omega⟩,GS.to (by simp),by simp;omega⟩
    ·have hiz :¬(i:Int)<T.length:=by omega
     simp -dsimp[hiz,hlen];refine⟨fun y hy=>by simp at hy,?_⟩;and_intros;all_goals try first|rfl|omega|exact⟨by kernel_rfl⟩
     refine dD.of [3000067] (kb 0x81e020f0400000104007a2df7) (ι:={i:Nat // i≤T.length}) (fun z=>[(.s 0,It.v (.agg [TV.d (.int .i64 r),TV.d (.sl (hps T))])),(.o 1,It.box [TV.d (.int .i64 r),TV.d (.sl (hps T))]),(.s 1,It.v (.ptr (.o 1) 0)),(.s 2,It.v (.d (.int .i64 0))),(.o 67,It.fO (Aa (r::(T.take z.1).map (·.2))) 0 none none),(.s 8,It.v (.mref 67)),(.s 72,It.v (.d (.sl (hps T)))),(.s 73,It.v (.d (.int .i64 T.length))),(.s 74,It.v (.d (.int .i64 z.1)))]) (fun z=>T.length-z.1) ⟨0,by omega⟩ ?_ ?_
     ·exact GS.to (by simp[YG])
     ·rintro⟨i,i1⟩;by_cases hi:i<T.length
      ·have hiz:(i:Int)<T.length:=by omega
       have hl:=aj hi;have hg:=yT hl;have ht:T.take (i+1)=T.take i++[T[i]]:=by rw[aT,hl];rfl
       have hnew:T[i].2∉r::(T.take i).map (·.2):=by
        have h1:=h.nd;rw[←List.take_append_drop (i+1) T,ht,dP,gu,←bg]at h1
        have h2:=(fV.1 h1).2.2;exact fun hm=>h2 _ hm _ (eX (aN.2 (.inl (dH.2 rfl)))) rfl
       generalize T[i]=a at hg ht hnew;obtain⟨K,hK⟩:∃K,K=r::(T.take i).map (·.2):=⟨_,rfl⟩
       have hnx:Aa (r::(T.take (i+1)).map (·.2))=Aa K++[([a.2],.d (.bool true))]:=by rw[←Ut,ht,hK];simp
       rw[←hK]at hnew⊢
       have hk1:=Dx a.2 K;rw[if_neg hnew]at hk1
       have hk2:=fun v=>YH hnew v
       have hk3:=Qo K;simp -dsimp[hiz,hlen,hg,hk1,hk2,hk3,wrap_i64 (n:=(i:Int)+1) (by omega) (by omega)];and_intros;all_goals try first|rfl|omega|exact⟨by kernel_rfl⟩
       exact⟨⟨i+1,by omega⟩,GS.to (by simp[←hnx]),by simp;omega⟩
      ·have hiz :¬(i:Int)<T.length:=by omega
       simp -dsimp[hiz];refine aI.of hrc [] 0 ?_;simp -dsimp
       refine dD.of [3000067] (kb 0x81e020f0400000104007a2df7) (ι:={i:Nat // i≤T.length}) (fun z=>[(.s 0,It.v (.agg [TV.d (.int .i64 r),TV.d (.sl (hps T))])),(.o 1,It.box [TV.d (.int .i64 r),TV.d (.sl (hps T))]),(.s 1,It.v (.ptr (.o 1) 0)),(.s 2,It.v (.d (.int .i64 0))),(.s 11,It.v (.d (ah7 (Rn r T)))),(.s 89,It.v (.d (.sl (hps T)))),(.s 90,It.v (.d (.int .i64 T.length))),(.s 91,It.v (.d (.int .i64 z.1)))]) (fun z=>T.length-z.1) ⟨0,by omega⟩ ?_ ?_
       ·exact GS.to (by simp[hlen])
       ·rintro⟨i,i1⟩;by_cases hi:i<T.length
        ·have hiz:(i:Int)<T.length:=by omega
         have hl:=aj hi;have hm:=aJ hi;have hg:=yT hl;generalize T[i]=a at hm hg;have hk:=Dx a.1 (Rn r T);rw[if_pos (h.kn a hm)]at hk
         have hk3:=Qo (Rn r T);have hz:kV ((vI (Rn r T)).map (·.1)) ((vI (Rn r T)).map (·.2))=Aa (Rn r T):=XT _;simp -dsimp[hiz,hg,hlen,ah7,qj,hz,hk,hk3,wrap_i64 (n:=(i:Int)+1) (by omega) (by omega)];and_intros;all_goals try first|rfl|omega|exact⟨by kernel_rfl⟩
         exact⟨⟨i+1,by omega⟩,GS.to (by simp[ah7,qj]),by simp;omega⟩
        ·have hiz :¬(i:Int)<T.length:=by omega
         simp -dsimp[hiz];refine Fin.of ?_;simp
end Go.Proofs

namespace Go.Proofs
open Go.Shelf
def Tryz.ad5:Go.Shelf.Ren:=⟨fun|5=>129|8=>150|7=>159|19=>172|20=>173|10=>182|11=>183|12=>184|13=>185|14=>186|15=>187|16=>153|17=>188|18=>189|30=>206|31=>199|32=>200|33=>207|34=>208|35=>151|40=>214|n=>n,fun|23=>22|25=>3|3=>3|32=>236|22=>22|0=>0|44=>280|46=>53|4=>4|36=>274|35=>273|41=>125|5=>5|9=>9|53=>296|57=>300|63=>308|64=>309|n=>n,fun|n=>n⟩
theorem Tryz.aoy:Go.Proofs.SlLaysM.n5 Tryz.prog Tryz.ad5:={
 mixed:=by kernel_rfl
 f5:=⟨Tryz.f129.name,by decide,Tryz.func129.trans (congrArg some (by kernel_rfl))⟩
 f7:=⟨Tryz.f159.name,by decide,Tryz.func159.trans (congrArg some (by kernel_rfl))⟩
 f8:=Tryz.func150.trans (congrArg some (by kernel_rfl))
 f10:=⟨Tryz.f182.name,by decide,Tryz.func182.trans (congrArg some (by kernel_rfl))⟩
 f11:=⟨Tryz.f183.name,by decide,Tryz.func183.trans (congrArg some (by kernel_rfl))⟩
 f12:=⟨Tryz.f184.name,by decide,Tryz.func184.trans (congrArg some (by kernel_rfl))⟩
 f13:=⟨Tryz.f185.name,by decide,Tryz.func185.trans (congrArg some (by kernel_rfl))⟩
 f14:=⟨Tryz.f186.name,by decide,Tryz.func186.trans (congrArg some (by kernel_rfl))⟩
 f15:=⟨Tryz.f187.name,by decide,Tryz.func187.trans (congrArg some (by kernel_rfl))⟩
 f16:=⟨Tryz.f153.name,by decide,Tryz.func153.trans (congrArg some (by kernel_rfl))⟩
 f17:=⟨Tryz.f188.name,by decide,Tryz.func188.trans (congrArg some (by kernel_rfl))⟩
 f18:=⟨Tryz.f189.name,by decide,Tryz.func189.trans (congrArg some (by kernel_rfl))⟩
 f19:=Tryz.func172.trans (congrArg some (by kernel_rfl))
 f20:=Tryz.func173.trans (congrArg some (by kernel_rfl))
 f30:=⟨Tryz.f206.name,by decide,Tryz.func206.trans (congrArg some (by kernel_rfl))⟩
 f31:=Tryz.func199.trans (congrArg some (by kernel_rfl))
 f32:=Tryz.func200.trans (congrArg some (by kernel_rfl))
 f33:=⟨Tryz.f207.name,by decide,Tryz.func207.trans (congrArg some (by kernel_rfl))⟩
 f34:=⟨Tryz.f208.name,by decide,Tryz.func208.trans (congrArg some (by kernel_rfl))⟩
 f35:=⟨Tryz.f151.name,by decide,Tryz.func151.trans (congrArg some (by kernel_rfl))⟩
 f40:=⟨Tryz.f214.name,by decide,Tryz.func214.trans (congrArg some (by kernel_rfl))⟩
 t0:=Tryz.underlying0
 a0:=Tryz.isAgg0
 z0:=Tryz.sizeOf0
 v0:=Tryz.zeroValue0
 t3:=Tryz.underlying3
 a3:=Tryz.isAgg3
 z3:=Tryz.sizeOf3
 v3:=Tryz.zeroValue3
 t4:=Tryz.underlying4
 a4:=Tryz.isAgg4
 z4:=Tryz.sizeOf4
 v4:=Tryz.zeroValue4
 t5:=Tryz.underlying5
 a5:=Tryz.isAgg5
 z5:=Tryz.sizeOf5
 v5:=Tryz.zeroValue5
 t9:=Tryz.underlying9
 a9:=Tryz.isAgg9
 z9:=Tryz.sizeOf9
 v9:=Tryz.zeroValue9
 t22:=Tryz.underlying22
 a22:=Tryz.isAgg22
 z22:=Tryz.sizeOf22
 v22:=Tryz.zeroValue22
 t23:=Tryz.underlying22
 a23:=Tryz.isAgg22
 z23:=Tryz.sizeOf22
 v23:=Tryz.zeroValue22
 t25:=Tryz.underlying3
 a25:=Tryz.isAgg3
 z25:=Tryz.sizeOf3
 v25:=Tryz.zeroValue3
 t32:=Tryz.underlying236
 a32:=Tryz.isAgg236
 z32:=Tryz.sizeOf236
 v32:=Tryz.zeroValue236
 t35:=Tryz.underlying273
 a35:=Tryz.isAgg273
 z35:=Tryz.sizeOf273
 v35:=Tryz.zeroValue273
 t36:=Tryz.underlying274
 a36:=Tryz.isAgg274
 z36:=Tryz.sizeOf274
 v36:=Tryz.zeroValue274
 t41:=Tryz.underlying125
 a41:=Tryz.isAgg125
 z41:=Tryz.sizeOf125
 v41:=Tryz.zeroValue125
 t44:=Tryz.underlying280
 a44:=Tryz.isAgg280
 z44:=Tryz.sizeOf280
 v44:=Tryz.zeroValue280
 t46:=Tryz.underlying53
 a46:=Tryz.isAgg53
 z46:=Tryz.sizeOf53
 v46:=Tryz.zeroValue53
 t53:=Tryz.underlying296
 a53:=Tryz.isAgg296
 z53:=Tryz.sizeOf296
 v53:=Tryz.zeroValue296
 t57:=Tryz.underlying300
 a57:=Tryz.isAgg300
 z57:=Tryz.sizeOf300
 v57:=Tryz.zeroValue300
 t63:=Tryz.underlying308
 a63:=Tryz.isAgg308
 z63:=Tryz.sizeOf308
 v63:=Tryz.zeroValue308
 t64:=Tryz.underlying309
 a64:=Tryz.isAgg309
 z64:=Tryz.sizeOf309
 v64:=Tryz.zeroValue309}
theorem aa8:Go.Tr.RH Tryz.prog 129 .i64 (fun zs=>zs.mergeSort fun x y=>decide (x≤y)) none:=Go.Tr.RH.sort Tryz.aoy
end Go.Proofs

namespace Go.Proofs
open Go Go.Tr
theorem alM(a b:Int):Contract Tryz.prog 153 [.d (.int .i64 a),.d (.int .i64 b)] [] (.d (.bool (decide (a<b)))) [] []:=by
 refine ay Tryz.func153 rfl (fun E0=>?_);refine iC.sound (g:=.mk) (ow:=[]) (kp:=(kb 0x13)) ?_;rw[Tryz.ntmps153];simp -dsimp;refine aI.of (Vf a) [] 0 ?_;simp -dsimp;and_intros;all_goals try first|rfl|omega|exact⟨by kernel_rfl⟩
 refine Fin.of ?_;simp
theorem ak8(l:List Int)(hl:l.length≤1000000)(ha:l.Pairwise (· < ·))(k:Nat)(x:Int)(hk:l[k]? = some x):Contract Tryz.prog 106 [.d (ints l),.d (.int .i64 x)] [] (.qh [.d (.int .i64 k),.d (.bool true)]) [] []:=by
 obtain⟨k1,k2⟩:=aB.1 hk;refine ay Tryz.func106 rfl (fun E0=>?_);refine iC.sound (g:=.mk) (ow:=[]) (kp:=(kb 0x80083f3)) ?_;rw[Tryz.ntmps106];simp -dsimp[ints];refine dD.of [] (kb 0x80083f3) (ι:={z:Nat×Nat // z.1≤k∧k≤z.2∧z.2≤l.length})
  (fun z=>[(.s 0,It.v (.d (ints l))),(.s 1,It.v (.d (.int .i64 x))),(.s 6,It.v (.d (.int .i64 l.length))),(.s 7,It.v (.d (.int .i64 z.1.1))),(.s 8,It.v (.d (.int .i64 z.1.2)))])
  (fun z=>z.1.2-z.1.1) ⟨(0,l.length),by omega,by omega,by omega⟩ ?_ ?_
 ·exact GS.to (by simp[ints])
 ·rintro⟨⟨i,j⟩,j1,j2,j3⟩;simp only at j1 j2 j3;by_cases hi:i<j
  ·have hiz:(i:Int)<j:=by omega
   have hm:(i+j)/2<l.length:=by omega
   have hy:l[(i+j)/2]? = some l[(i+j)/2]:=aj hm;have hlt:∀(a b:Nat) (ha':a<l.length) (hb:b<l.length),a<b→l[a]<l[b]:=fun a b ha' hb hab=>bC.1 ha a b ha' hb hab
   have h1:=hlt ((i+j)/2) k hm k1;have h2:=hlt k ((i+j)/2) k1 hm;rw[k2]at h1 h2
   have h3:(i+j)/2=k→l[(i+j)/2]=x:=fun e=>by simp only[e];exact k2
   generalize l[(i+j)/2]=y at hy h1 h2 h3;have hmd:=aat (i:=i) (j:=j) (by omega);have hij:i≤(i+j)/2∧(i+j)/2<j:=by omega
   generalize (i+j)/2=m at hy hm hmd hij h1 h2 h3;have hmz:(m:Int)<l.length:=by omega
   simp -dsimp[ints,hiz,hmd,hy,hmz];refine aI.of (alM y x) [] 0 ?_;by_cases hc:y<x
   ·have hmk:m<k:=by
     refine Classical.byContradiction fun hn=>?_
     rcases Nat.lt_or_ge k m with c|c
     ·have:=h2 c;omega
     ·have:=h3 (by omega);omega
    simp -dsimp[hc,wrap_i64 (n:=(m:Int)+1) (by omega) (by omega)];and_intros;all_goals try first|rfl|omega|exact⟨by kernel_rfl⟩
    exact⟨⟨(m+1,j),by omega,by omega,by omega⟩,GS.to (by simp[ints]),by simp;omega⟩
   ·have hmk:k≤m:=by
     refine Classical.byContradiction fun hn=>?_
     have:=h1 (by omega);omega
    simp -dsimp[hc];and_intros;all_goals try first|rfl|omega|exact⟨by kernel_rfl⟩
    exact⟨⟨(i,m),by omega,by omega,by omega⟩,GS.to (by simp[ints]),by simp;omega⟩
  ·have hiz :¬(i:Int)<j:=by omega
   obtain rfl:i=k:=by omega
   have hlz:(i:Int)<l.length:=by omega
   simp -dsimp[ints,hiz,hlz,hk];refine Fin.of ?_;simp
def LH(r:Int)(T:List (Int×Int)):List Int:=(r::T.map (·.2)).mergeSort fun x y=>decide (x≤y)
theorem ajZ{r:Int}{T:List (Int×Int)}(h:Nr r T):(LH r T).Pairwise (· < ·):=by
 have h1:(LH r T).Pairwise fun x y=>decide (x≤y)=true:=jH (fun a b c=>by simp;omega) (fun a b=>by simp;omega) _
 have h2:(LH r T).Nodup:=(fU _ _).symm.nodup h.nd;exact(h1.and (gV.1 h2)).imp fun {a b} h=>by simp at h;omega
theorem YC{r:Int}{T:List (Int×Int)}{x:Int}:x∈LH r T↔x=r∨∃h∈T,h.2=x:=by rw[LH,(fU _ _).mem_iff,aF,ak]
theorem aaU(r:Int)(T:List (Int×Int))(h:Nr r T):Contract Tryz.prog 105 [vw r T] [] (.d (ints (LH r T))) [] []:=by
 have hlen:=D7 T;have hn:=h.n;have hct:=KC r T h;simp only[vw]at hct;refine ay Tryz.func105 rfl (fun E0=>?_);refine iC.sound (g:=.mk) (ow:=[11,1000129]) (kp:=(kb 0x1e12f)) ?_;rw[Tryz.ntmps105];simp -dsimp[vw];refine aI.of hct [] 0 ?_;simp -dsimp;and_intros;all_goals try first|rfl|omega|exact⟨by kernel_rfl⟩
 refine dD.of [11,1000129] (kb 0x1e12f) (ι:={i:Nat // i≤T.length}) (fun z=>[(.s 0,It.v (.agg [TV.d (.int .i64 r),TV.d (.sl (hps T))])),(.o 1,It.box [TV.d (.int .i64 r),TV.d (.sl (hps T))]),(.s 1,It.v (.ptr (.o 1) 0)),
  (.s 2,It.v (.c (Value.slice none 0 0))),(.s 3,It.v (.aW 11 (z.1+1))),(.o 11,It.row 3 1 (dd (((r::T.map (·.2)).take (z.1+1)).map fun x=>[D.int .i64 x])) false),
  (.s 13,It.v (.d (.sl (hps T)))),(.s 14,It.v (.d (.int .i64 T.length))),(.s 15,It.v (.d (.int .i64 z.1)))]) (fun z=>T.length-z.1) ⟨0,by omega⟩ ?_ ?_
 ·exact GS.to (by simp[hlen])
 ·rintro⟨i,i1⟩;by_cases hi:i<T.length
  ·have hiz:(i:Int)<T.length:=by omega
   have hl:=aj hi;have hg:=yT hl;have ht:(r::T.map (·.2)).take (i+1+1)=(r::T.map (·.2)).take (i+1)++[T[i].2]:=by rw[aT (i:=i+1)];simp[hl]
   have htl:((r::T.map (·.2)).take (i+1)).length=i+1:=by simp;omega
   generalize T[i]=a at hg ht;generalize (r::T.map (·.2)).take (i+1)=K at ht htl⊢;simp -dsimp[hiz,hg,hlen,htl,wrap_i64 (n:=(i:Int)+1) (by omega) (by omega)];and_intros;all_goals try first|rfl|omega|exact⟨by kernel_rfl⟩
   exact⟨⟨i+1,by omega⟩,GS.to (by simp[ht]),by simp;omega⟩
  ·have hiz :¬(i:Int)<T.length:=by omega
   have hK:(r::T.map (·.2)).take (i+1)=r::T.map (·.2):=aS (by simp;omega);rw[hK];have hS:LH r T=(r::T.map (·.2)).mergeSort fun x y=>decide (x≤y):=rfl
   have hKl:(r::T.map (·.2)).length=i+1:=by simp;omega
   rw[hS];generalize r::T.map (·.2)=K at hKl⊢;simp -dsimp[hiz];refine aI.agG aa8 K ?_;simp -dsimp[hKl];and_intros;all_goals try first|rfl|omega|exact⟨by kernel_rfl⟩
   refine Fin.view 2 ?_;simp -dsimp;refine⟨hKl.symm,?_⟩;refine Fin.of ?_;simp[ints,jR,hKl]
theorem aoS:Contract Tryz.prog 103 [.d (.sl [[.int .i64 0],[.int .i64 0]])] [] (.d (.int .i64 0)) [] []:=by
 refine ay Tryz.func103 rfl (fun E0=>?_);refine iC.sound (g:=.mk) (ow:=[]) (kp:=(kb 0x43ed)) ?_;rw[Tryz.ntmps103];simp -dsimp;refine dD.of [] (kb 0x43ed) (ι:={i:Nat // i≤2})
  (fun z=>[(.s 0,It.v (.d (.sl [[D.int .i64 0],[D.int .i64 0]]))),(.s 2,It.v (.d (.int .i64 0))),(.s 3,It.v (.d (.int .i64 0))),
   (.s 6,It.v (.d (.sl [[D.int .i64 0],[D.int .i64 0]]))),(.s 7,It.v (.d (.int .i64 2))),(.s 8,It.v (.d (.int .i64 z.1)))]) (fun z=>2-z.1) ⟨0,by omega⟩ ?_ ?_
 ·exact GS.to (by simp)
 ·rintro⟨i,i1⟩;rcases (by omega:i=0∨i=1∨i=2)with rfl|rfl|rfl
  ·simp -dsimp;and_intros;all_goals try first|rfl|omega|exact⟨by kernel_rfl⟩
   exact⟨⟨1,by omega⟩,GS.to (by simp[wrap_i64 (n:=1) (by omega) (by omega)]),by simp⟩
  ·simp -dsimp;and_intros;all_goals try first|rfl|omega|exact⟨by kernel_rfl⟩
   exact⟨⟨2,by omega⟩,GS.to (by simp[wrap_i64 (n:=2) (by omega) (by omega)]),by simp⟩
  ·simp -dsimp;refine Fin.of ?_;simp
def qF(rs:List Int)(T:List (Int×Int)):List (List Int):=rs.map (fun x=>[x,3,x])++T.map fun h=>[h.1,1,h.2]
def QL(l:List Ad)(k:List Int):Ad:=(l.find? fun a=>decide (a.tg=k)).getD ⟨0,0,0,0⟩
theorem LQ{l:List Ad}(hn:(l.map Ad.tg).Nodup){a:Ad}(ha:a∈l):QL l a.tg=a:=by
 induction l with
 | nil=>simp at ha
 | cons x l ih=>
   rw[aC,bG]at hn
   unfold QL at ih⊢;rw[fQ];by_cases e:x.tg=a.tg
   ·rw[decide_eq_true e];rcases aF.1 ha with rfl|ha
    ·rfl
    ·exact absurd (eX (f:=Ad.tg) ha) (by rw[←e];exact hn.1)
   ·rw[decide_eq_false e];rcases aF.1 ha with rfl|ha
    ·exact absurd rfl e
    ·exact ih hn.2 ha
def tK(l:List Ad)(ks:List (List Int)):BitVec 64:=ks.foldl (fun b k=>b|||1#64<<<(QL l k).b) 0#64
def Wj(ks:List (List Int)):List (List D):=ks.map fun k=>k.map (D.int .i64)
structure UC(l:List Ad)(r:Int)(T:List (Int×Int))(rs:List Int):Prop where
 BP:rs.Pairwise (· < ·)
 n:rs.length≤1000
 mem:∀x∈rs,x∈LH r T
 has:∀k∈qF rs T,∃a∈l,a.tg=k
theorem ak5(n:Int)(l:List Ad)(he:BR n l)(r:Int)(T:List (Int×Int))(hg:Nr r T)(rs:List Int)(hr:UC l r T rs):
  Contract Tryz.prog 43 [rX n l,vw r T,.d (ints rs)] [] (.qh [.d (bv (tK l (qF rs T))),.d (.int .i64 0)]) [] []:=by
 have hv:=Qw n l he;have hct:=KC r T hg;have hrt:=aaU r T hg;simp only[rX]at hv;simp only[vw]at hct hrt;have hlen:=D7 T;have hn:=hg.n;have hrn:=hr.n;refine ay Tryz.func43 rfl (fun E0=>?_)
 refine iC.sound (g:=.mk) (ow:=[]) (kp:=(kb 0x1007800f00803c80084076afdf)) ?_;rw[Tryz.ntmps43];simp -dsimp[rX,vw];refine aI.of hv [] 0 ?_;simp -dsimp;refine aI.of hct [] 0 ?_
 simp -dsimp;and_intros;all_goals try first|rfl|omega|exact⟨by kernel_rfl⟩
 refine aI.of aoS [] 0 ?_;simp -dsimp;and_intros;all_goals try first|rfl|omega|exact⟨by kernel_rfl⟩
 refine dD.of [] (kb 0x1007800f00803c80084076afdf) (ι:={i:Nat // 1≤i∧i≤rs.length+1}) (fun z=>[(.s 0,It.v (.agg [TV.d (.int .i64 n),TV.d (.sl (wZ l))])),(.s 1,It.v (.agg [TV.d (.int .i64 r),TV.d (.sl (hps T))])),(.s 2,It.v (.d (ints rs))),(.o 3,It.box [TV.d (.int .i64 n),TV.d (.sl (wZ l))]),(.s 3,It.v (.ptr (.o 3) 0)),(.o 4,It.box [TV.d (.int .i64 r),TV.d (.sl (hps T))]),(.s 4,It.v (.ptr (.o 4) 0)),(.s 6,It.v (.d (.int IntKind.u64 0))),(.s 7,It.v (.d (.int .i64 0))),(.s 9,It.v (.d (.int .i64 z.1)))]) (fun z=>rs.length+1-z.1) ⟨1,by omega⟩ ?_ ?_
 ·exact GS.to (by simp)
 ·rintro⟨i,i1,i2⟩;by_cases hi:i<rs.length
  ·have hiz:(i:Int)<rs.length:=by omega
   have hp:rs[i-1]? = some rs[i-1]:=aj (by omega);have hgt:rs[i]? = some rs[i]:=aj hi;have hlt:rs[i-1]<rs[i]:=bC.1 hr.BP (i-1) i (by omega) hi (by omega);have hw:((i:Int)-1).toNat=i-1:=by omega
   generalize rs[i-1]=u at hp hlt;generalize rs[i]=v at hgt hlt;have hnv :¬v≤u:=by omega
   simp -dsimp[ints,hiz,hgt,hp,hw,hnv,wrap_i64 (n:=(i:Int)-1) (by omega) (by omega),wrap_i64 (n:=(i:Int)+1) (by omega) (by omega)];and_intros;all_goals try first|rfl|omega|exact⟨by kernel_rfl⟩
   exact⟨⟨i+1,by omega⟩,GS.to (by simp[ints]),by simp;omega⟩
  ·have hiz :¬(i:Int)<rs.length:=by omega
   simp -dsimp[ints,hiz];refine aI.of hrt [] 0 ?_;simp -dsimp;obtain⟨ND,hND⟩:∃ND,ND=qF rs T:=⟨_,rfl⟩
   have hNl:ND.length=rs.length+T.length:=by rw[hND];simp[qF]
   have hN1:∀(i:Nat) (x:Int),rs[i]? = some x→ND[i]? = some [x,3,x]:=fun i x h=>by have hi:=(aB.1 h).1;rw[hND,qF,bW (by simpa using hi),bn,h];rfl
   have hN2:∀(i:Nat) (h:Int×Int),T[i]? = some h→ND[rs.length+i]? = some [h.1,1,h.2]:=fun i h e=>by rw[hND,qF,b_ (by simp),aV,Nat.add_sub_cancel_left,bn,e];rfl
   have hh:=hr.has;rw[←hND]at hh⊢
   refine dD.of [] (kb 0x1007800f00803c80084076afdf) (ι:={i:Nat // i≤rs.length}) (fun z=>[(.s 0,It.v (.agg [TV.d (.int .i64 n),TV.d (.sl (wZ l))])),(.s 1,It.v (.agg [TV.d (.int .i64 r),TV.d (.sl (hps T))])),(.s 2,It.v (.d (ints rs))),(.o 3,It.box [TV.d (.int .i64 n),TV.d (.sl (wZ l))]),(.s 3,It.v (.ptr (.o 3) 0)),(.o 4,It.box [TV.d (.int .i64 r),TV.d (.sl (hps T))]),(.s 4,It.v (.ptr (.o 4) 0)),(.s 6,It.v (.d (.int IntKind.u64 0))),(.s 7,It.v (.d (.int .i64 0))),(.s 10,It.v (.d (ints (LH r T)))),(.s 11,It.v (.aW 11 z.1)),(.o 11,It.row 212 3 (dd (Wj (ND.take z.1))) false),
    (.s 50,It.v (.d (ints rs))),(.s 51,It.v (.d (.int .i64 rs.length))),(.s 52,It.v (.d (.int .i64 z.1)))]) (fun z=>rs.length-z.1) ⟨0,by omega⟩ ?_ ?_
   ·exact GS.own' (k:=11) 212 3 (by simp) (by simp) (by simp[Wj,ints])
   ·rintro⟨i,i1⟩;by_cases hi:i<rs.length
    ·have hiz:(i:Int)<rs.length:=by omega
     have hgt:rs[i]? = some rs[i]:=aj hi;have hm:=hr.mem rs[i] (aJ hi);have hNi:=hN1 i rs[i] hgt;generalize rs[i]=x at hgt hm hNi;have ht:Wj (ND.take (i+1))=Wj (ND.take i)++[[D.int .i64 x,D.int .i64 3,D.int .i64 x]]:=by rw[aT,hNi];simp[Wj]
     obtain⟨k,hk,hkx⟩:=dW.1 hm;have hkl:(LH r T).length≤1000000:=by rw[LH,iO];simp;omega
     have hbs:=ak8 (LH r T) hkl (ajZ hg) k x (by rw[aj hk,hkx]);have hml:(Wj (ND.take i)).length=i:=by simp[Wj];omega
     simp only[ints]at hbs;simp -dsimp[ints,hiz,hgt];refine aI.of hbs [] 0 ?_;simp -dsimp[hml,wrap_i64 (n:=(i:Int)+1) (by omega) (by omega)];and_intros;all_goals try first|rfl|omega|exact⟨by kernel_rfl⟩
     exact⟨⟨i+1,by omega⟩,GS.to (by simp[ht,ints]),by simp;omega⟩
    ·have hiz :¬(i:Int)<rs.length:=by omega
     obtain rfl:i=rs.length:=by omega
     simp -dsimp[ints,hiz,hlen]
     refine dD.of [] (kb 0x1007800f00803c80084076afdf) (ι:={i:Nat // i≤T.length}) (fun z=>[(.s 0,It.v (.agg [TV.d (.int .i64 n),TV.d (.sl (wZ l))])),(.s 1,It.v (.agg [TV.d (.int .i64 r),TV.d (.sl (hps T))])),(.s 2,It.v (.d (ints rs))),(.o 3,It.box [TV.d (.int .i64 n),TV.d (.sl (wZ l))]),(.s 3,It.v (.ptr (.o 3) 0)),(.o 4,It.box [TV.d (.int .i64 r),TV.d (.sl (hps T))]),(.s 4,It.v (.ptr (.o 4) 0)),(.s 6,It.v (.d (.int IntKind.u64 0))),(.s 7,It.v (.d (.int .i64 0))),(.s 11,It.v (.aW 11 (rs.length+z.1))),(.o 11,It.row 212 3 (dd (Wj (ND.take (rs.length+z.1)))) false),
      (.s 72,It.v (.d (.sl (hps T)))),(.s 73,It.v (.d (.int .i64 T.length))),(.s 74,It.v (.d (.int .i64 z.1)))]) (fun z=>T.length-z.1) ⟨0,by omega⟩ ?_ ?_
     ·exact GS.to (by simp[ints])
     ·rintro⟨i,i1⟩;by_cases hi:i<T.length
      ·have hiz:(i:Int)<T.length:=by omega
       have hl:=aj hi;have hgt:=yT hl;have hNi:=hN2 i T[i] hl;generalize T[i]=h at hgt hNi;have ht:Wj (ND.take (rs.length+(i+1)))=Wj (ND.take (rs.length+i))++[[D.int .i64 h.1,D.int .i64 1,D.int .i64 h.2]]:=by rw[show rs.length+(i+1)=rs.length+i+1 by omega,aT,hNi];simp[Wj]
       have hml:(Wj (ND.take (rs.length+i))).length=rs.length+i:=by simp[Wj];omega
       simp -dsimp[hiz,hgt,hml,wrap_i64 (n:=(i:Int)+1) (by omega) (by omega)];and_intros;all_goals try first|rfl|omega|exact⟨by kernel_rfl⟩
       exact⟨⟨i+1,by omega⟩,GS.to (by simp[ht,iZ]),by simp;omega⟩
      ·have hiz :¬(i:Int)<T.length:=by omega
       have htk:ND.take (rs.length+i)=ND:=aS (by omega);have hti:rs.length+i=ND.length:=by omega
       rw[htk,hti];simp -dsimp[hiz];have htl:(Wj ND).length=ND.length:=by simp[Wj]
       refine⟨htl.symm,?_⟩;have hfa:=ai8 n l he;simp only[rX]at hfa;have hb64:∀a∈l,a.b<64:=fun a ha=>by have h1:=he.bit a ha;have h2:=he.len;simp[eP]at h2;omega
       refine dD.of [] (kb 0x1007800f00803c80084076afdf) (ι:={i:Nat // i≤ND.length}) (fun z=>[(.s 0,It.v (.agg [TV.d (.int .i64 n),TV.d (.sl (wZ l))])),(.s 1,It.v (.agg [TV.d (.int .i64 r),TV.d (.sl (hps T))])),(.s 2,It.v (.d (ints rs))),(.o 3,It.box [TV.d (.int .i64 n),TV.d (.sl (wZ l))]),(.s 3,It.v (.ptr (.o 3) 0)),(.o 4,It.box [TV.d (.int .i64 r),TV.d (.sl (hps T))]),(.s 4,It.v (.ptr (.o 4) 0)),(.s 6,It.v (.d (.int IntKind.u64 0))),(.s 7,It.v (.d (.int .i64 0))),(.o 11,It.row 212 3 (dd (Wj ND)) false),(.s 18,It.v (.d (bv (tK l (ND.take z.1))))),
        (.s 87,It.v (.aW 11 ND.length)),(.s 88,It.v (.d (.int .i64 ND.length))),(.s 89,It.v (.d (.int .i64 z.1)))]) (fun z=>ND.length-z.1) ⟨0,by omega⟩ ?_ ?_
       ·exact GS.to (by simp[tK,bv])
       ·rintro⟨i,i1⟩;by_cases hi:i<ND.length
        ·have hiz:(i:Int)<ND.length:=by omega
         have hl:=aj hi;obtain⟨a,ha,hak⟩:=hh ND[i] (aJ hi);have had:=LQ he.nd ha;have ht:tK l (ND.take (i+1))=tK l (ND.take i)|||1#64<<<a.b:=by rw[aT,hl,tK,iF,dZ,←hak];simp[tK,had]
         rw[←hak]at hl
         have hgt:(dd (Wj ND))[i]? = some [TV.d (.int .i64 a.r),TV.d (.int .i64 a.k),TV.d (.int .i64 a.to)]:=by simp[dd,Wj,hl,Ad.tg]
         have hf:=hfa a ha;simp only[Ad.tg,aC,dQ]at hf;have hab:=hb64 a ha;simp -dsimp[hiz,hgt,htl,bv];and_intros;all_goals try first|rfl|omega|exact⟨by kernel_rfl⟩
         refine aI.of hf [] 0 ?_;simp -dsimp[bv,wrap_i64 (n:=(i:Int)+1) (by omega) (by omega)];and_intros;all_goals try first|rfl|omega|exact⟨by kernel_rfl⟩
         exact⟨⟨i+1,by omega⟩,GS.to (by simp[ht,bv]),by simp;omega⟩
        ·have hiz :¬(i:Int)<ND.length:=by omega
         simp -dsimp[hiz];refine Fin.of ?_;rw[aS (by omega)];simp
def vV:Nat→List (Int×Int×Int)→List Ad
 | _,[]=>[]
 | n,x::l=>⟨n,x.1,x.2.1,x.2.2⟩::vV (n+1) l
theorem Pq:∀(a b:List (Int×Int×Int)) (n:Nat),vV n (a++b)=vV n a++vV (n+a.length) b
 | [],b,n=>by simp[vV]
 | x::a,b,n=>by simp[vV,Pq a b (n+1),iZ,Nat.add_comm 1]
theorem Ip:∀(l:List (Int×Int×Int)) (n:Nat),(vV n l).length=l.length
 | [],_=>rfl
 | x::l,n=>by simp[vV,Ip l (n+1)]
theorem Dc:∀(l:List (Int×Int×Int)) (n:Nat),(vV n l).map (fun a=>(a.r,a.k,a.to))=l
 | [],_=>rfl
 | x::l,n=>by simp[vV,Dc l (n+1)]
theorem aax:∀(l:List (Int×Int×Int)) (n:Nat),∀a∈vV n l,n≤a.b∧a.b<n+l.length
 | [],_,a,h=>by simp[vV]at h
 | x::l,n,a,h=>by
   rcases aF.1 h with rfl|h
   ·simp
   ·have:=aax l (n+1) a h;simp only[aH];omega
theorem acv:∀(l:List (Int×Int×Int)) (n:Nat),(vV n l).Pairwise fun a b=>a.b<b.b
 | [],_=>List.Pairwise.nil
 | x::l,n=>dM.2 ⟨fun a ha=>(aax l (n+1) a ha).1,acv l (n+1)⟩
def Le(g:aX)(r:Int):List (Int×Int×Int):=(r,3,r)::(near g r).map fun q=>(r,1,q)
def H6(g:aX):List (Int×Int×Int):=g.rs.flatMap fun x=>Le g x.id
theorem Tz(r:Int):∀(qs:List Int) (L:List (Int×Int×Int)),sW (vV 0 L) r qs=vV 0 (L++qs.map fun q=>(r,1,q))
 | [],L=>by simp[sW]
 | q::qs,L=>by
   have ih:=Tz r qs (L++[(r,1,q)]);have e:qY (vV 0 L) r 1 q=vV 0 (L++[(r,1,q)]):=by rw[Pq];simp[qY,vV,Ip]
   simp only[sW,bV]at ih⊢;rw[e,ih];simp
theorem adB(g:aX)(r:Int)(L:List (Int×Int×Int)):zN g (vV 0 L) r=vV 0 (L++Le g r):=by
 have e:qY (vV 0 L) r 3 r=vV 0 (L++[(r,3,r)]):=by rw[Pq];simp[qY,vV,Ip]
 rw[zN,e,Tz];simp[Le]
theorem H8(g:aX):jJ g=vV 0 (H6 g):=by
 have key:∀(rs:List Rt) (L:List (Int×Int×Int)),rs.foldl (fun l x=>zN g l x.id) (vV 0 L)=vV 0 (L++rs.flatMap fun x=>Le g x.id):=by
  intro rs
  induction rs with
  | nil=>intro L;simp
  | cons x rs ih=>intro L;rw[bV,adB,ih];simp
 have:=key g.rs [];simpa[jJ,H6,vV]using this
theorem ajF{g:aX}(hg:g.Ok)(r:Int):(near g r).Pairwise (· < ·):=by unfold near;rw[d_];exact hg.rpw.filter _
theorem avZ{l:List Int}(h:l.Pairwise (· < ·)):l.Nodup:=h.imp fun h e=>by omega
theorem mem_row{g:aX}(hg:g.Ok){r:Int}{x:Int×Int×Int}:x∈Le g r↔x.1=r∧((x.2.1=3∧x.2.2=r)∨(x.2.1=1∧∃c,price g.ls r x.2.2=some c)):=by
 obtain⟨a,k,t⟩:=x;simp only[Le,aF,aO,ak,Pg hg];constructor
 ·rintro (⟨rfl,rfl,rfl⟩|⟨q,h,rfl,rfl,rfl⟩)
  ·exact⟨rfl,.inl ⟨rfl,rfl⟩⟩
  ·exact⟨rfl,.inr ⟨rfl,h⟩⟩
 ·rintro⟨rfl,⟨rfl,rfl⟩|⟨rfl,h⟩⟩
  ·exact .inl ⟨rfl,rfl,rfl⟩
  ·exact .inr ⟨t,h,rfl,rfl,rfl⟩
theorem zU{g:aX}(hg:g.Ok){x:Int×Int×Int}:x∈H6 g↔dF g.rs x.1=true∧((x.2.1=3∧x.2.2=x.1)∨(x.2.1=1∧∃c,price g.ls x.1 x.2.2=some c)):=by
 simp only[H6,gJ,mem_row hg,dF,iG,decide_eq_true_eq];constructor
 ·rintro⟨y,hy,e,h⟩;rw[←e]at h
  exact⟨⟨y,hy,e.symm⟩,h⟩
 ·rintro⟨⟨y,hy,e⟩,h⟩;exact⟨y,hy,e.symm,by rw[e];exact h⟩
theorem ama{g:aX}(hg:g.Ok)(r:Int):(Le g r).Nodup:=by
 refine bG.2 ⟨fun h=>?_,?_⟩
 ·obtain⟨q,_,e⟩:=ak.1 h;simp at e
 ·rw[List.Nodup,d_];exact(ajF hg r).imp fun h e=>by simp at e;omega
theorem af9{g:aX}(hg:g.Ok):(H6 g).Nodup:=by
 have key:∀{rs:List Rt},rs.Pairwise (fun x y=>x.id<y.id)→(rs.flatMap fun x=>Le g x.id).Nodup:=by
  intro rs
  induction rs with
  | nil=>intro _;simp
  | cons x rs ih=>intro h;obtain⟨h1,h2⟩:=dM.1 h;rw[jf,fV];refine⟨ama hg _,ih h2,fun a ha b hb e=>?_⟩;subst e;obtain⟨y,hy,hb⟩:=gJ.1 hb;have e1:=((mem_row hg).1 ha).1;have e2:=((mem_row hg).1 hb).1;have:=h1 y hy;omega
 exact key hg.rpw
theorem wP{g:aX}(hg:g.Ok){a:Ad}(h:a∈jJ g):(dF g.rs a.r=true∧((a.k=3∧a.to=a.r)∨(a.k=1∧∃c,price g.ls a.r a.to=some c)))∧a.b<(jJ g).length:=by
 rw[H8]at h⊢
 have h1:=eX (f:=fun a:Ad=>(a.r,a.k,a.to)) h;rw[Dc]at h1
 have h2:=aax _ _ a h;exact⟨(zU hg).1 h1,by rw[Ip];omega⟩
theorem H7{g:aX}(hg:g.Ok){x:Int×Int×Int}(h:x∈H6 g):∃a∈jJ g,a.r=x.1∧a.k=x.2.1∧a.to=x.2.2:=by
 rw[←Dc (H6 g) 0]at h
 obtain⟨a,ha,e⟩:=ak.1 h;rw[H8];exact⟨a,ha,by rw[←e],by rw[←e],by rw[←e]⟩
theorem aja{g:aX}(hg:g.Ok):((jJ g).map Ad.tg).Nodup:=by
 have e:(jJ g).map Ad.tg=(H6 g).map fun x=>[x.1,x.2.1,x.2.2]:=by rw[H8,←Dc (H6 g) 0,aY,Dc];rfl
 rw[e,List.Nodup,d_];exact(af9 hg).imp fun h e=>h (by
  simp only[dR,and_true]at e;exact Prod.ext e.1 (Prod.ext e.2.1 e.2.2))
theorem aez{g:aX}(hg:g.Ok){f t c:Int}(h:price g.ls f t=some c):t≠f:=fun e=>ahA hg h e.symm
theorem abL{g:aX}(hg:g.Ok)(hl:(jJ g).length≤64):BR 64 (jJ g) where
 len:=rfl
 bit a ha:=by have:=(wP hg ha).2;omega
 rt a ha:=by
  obtain⟨⟨h1,h2⟩,_⟩:=wP hg ha;have r1:=hg.id h1;simp only[EU]at r1;rcases h2 with⟨_,e⟩|⟨_,c,hc⟩
  ·rw[e];simp_all
  ·have r2:=hg.id (mW hg hc).2;simp only[EU]at r2
   simp_all
 kd a ha:=by obtain⟨⟨_,h2⟩,_⟩:=wP hg ha;omega
 dv a ha:=by
  obtain⟨⟨_,h2⟩,_⟩:=wP hg ha;rcases h2 with⟨e1,e2⟩|⟨e1,c,hc⟩
  ·simp[e1,e2]
  ·have:=aez hg hc;simp[e1,this]
 BP:=by rw[H8];exact acv _ _
 nd:=aja hg
 sm:=hl
theorem RS(l:List Ad):∀(ks:List (List Int)) (B:BitVec 64) (k:Nat),(∀t∈ks,(QL l t).b<64)→((ks.foldl (fun b t=>b|||1#64<<<(QL l t).b) B).getLsbD k=true↔B.getLsbD k=true∨∃t∈ks,(QL l t).b=k)
 | [],B,k,_=>by simp
 | t::ks,B,k,h=>by
   rw[bV,RS l ks _ k fun x hx=>h x (by simp[hx])];have ht:=h t (by simp);have e:(1#64<<<(QL l t).b).getLsbD k=true↔(QL l t).b=k:=by rw[BitVec.getLsbD_shiftLeft];simp only[BitVec.getLsbD_one,aG,decide_eq_true_eq,fB,decide_eq_false_iff_not];omega
   rw[kX,bJ,e];simp only[aF,exists_eq_or_imp,or_assoc]
theorem alZ{l:List Ad}(hn:(l.map Ad.tg).Nodup){p:Ad→Bool}{t:List Int}(hp:∀a∈l,p a=true→a.tg=t):l.filter p=(l.filter p).take 1:=by
 induction l with
 | nil=>rfl
 | cons x l ih=>
   rw[aC,bG]at hn
   by_cases hx:p x=true
   ·have:l.filter p = []:=by
     rw[fJ];intro a ha h;have e1:=hp x (by simp) hx;have e2:=hp a (by simp[ha]) h;exact hn.1 (ak.2 ⟨a,ha,by rw[e1,e2]⟩)
    rw[List.filter_cons_of_pos hx,this];rfl
   ·rw[List.filter_cons_of_neg hx];exact ih hn.2 fun a ha=>hp a (by simp[ha])
theorem ali{l:List Ad}(hn:(l.map Ad.tg).Nodup)(v:Int):((l.filter fun a=>decide (a.r=v∧a.k=1)).map (·.to)).Nodup:=by
 rw[List.Nodup,d_,List.pairwise_filter];rw[List.Nodup,d_]at hn
 refine hn.imp fun {a b} h ha hb e=>h ?_
 simp only[decide_eq_true_eq]at ha hb;simp[Ad.tg,ha,hb,e]
theorem ahW{g:aX}{root:Int}{rs:List Int}{R:Int→List Int}{T:List (Int×Int)}(H:BH g root rs R T)(hl:(jJ g).length≤64):
  RJ g (jJ g) T rs root (g.rs.map Rt.id) (tK (jJ g) (qF rs T)):=by
 have hg:=H.ok;have hE:=abL hg hl;have agr:∀{x:Int},dF g.rs x=true→x∈g.rs.map Rt.id:=fun {x} h=>by simp only[dF,iG,decide_eq_true_eq]at h;obtain⟨y,hy,e⟩:=h;exact ak.2 ⟨y,hy,e⟩
 have hdl:∀v,dF g.rs v=true→∃a∈jJ g,a.r=v∧a.k=3∧a.to=v:=fun v hv=>H7 hg (x:=(v,3,v)) ((zU hg).2 ⟨hv,.inl ⟨rfl,rfl⟩⟩)
 have hlk:∀h∈T,∃a∈jJ g,a.r=h.1∧a.k=1∧a.to=h.2:=fun h hm=>by obtain⟨c,hc⟩:=gq.1 (H.price h hm);exact H7 hg (x:=(h.1,1,h.2)) ((zU hg).2 ⟨(mW hg hc).1,.inr ⟨rfl,c,hc⟩⟩)
 have hin:∀t∈qF rs T,∃a∈jJ g,a.tg=t∧QL (jJ g) t=a:=fun t ht=>by
  simp only[qF,aN,ak]at ht;rcases ht with⟨x,hx,rfl⟩|⟨h,hm,rfl⟩
  ·obtain⟨a,ha,e1,e2,e3⟩:=hdl x (H.has x hx);have e:a.tg = [x,3,x]:=by simp[Ad.tg,e1,e2,e3]
   exact⟨a,ha,e,by rw[←e];exact LQ hE.nd ha⟩
  ·obtain⟨a,ha,e1,e2,e3⟩:=hlk h hm;have e:a.tg = [h.1,1,h.2]:=by simp[Ad.tg,e1,e2,e3]
   exact⟨a,ha,e,by rw[←e];exact LQ hE.nd ha⟩
 have hb64:∀a∈jJ g,a.b<64:=fun a ha=>by have:=hE.bit a ha;omega
 have hbit:∀k,(tK (jJ g) (qF rs T)).getLsbD k=true↔∃t∈qF rs T,(QL (jJ g) t).b=k:=fun k=>by
  have:=RS (jJ g) (qF rs T) 0#64 k fun t ht=>by obtain⟨a,ha,_,e⟩:=hin t ht;rw[e];exact hb64 a ha
  simpa[tK]using this
 have hEv:acY (jJ g):=⟨hE.BP,hb64⟩
 exact {
  eng:=hEv
  kd:=fun a ha=>by have:=(wP hg ha).1.2;omega
  dl:=fun v hv=>alZ hE.nd (t:=[v,3,v]) fun a ha h=>by
   simp only[decide_eq_true_eq]at h;have:=(wP hg ha).1.2;have e:a.to=a.r:=by omega
   simp[Ad.tg,h,e]
  dr:=fun v hv=>by obtain⟨a,ha,e1,e2,_⟩:=hdl v (H.has v hv);exact⟨a,ha,e1,e2⟩
  lk:=hlk
  bits:=fun a ha=>by
   rw[hbit];constructor
   ·rintro⟨t,ht,e⟩;obtain⟨a',ha',e1,e2⟩:=hin t ht;rw[e2]at e
    obtain rfl:=hEv.inj ha' ha e;simp only[qF,aN,ak]at ht;rcases ht with⟨x,hx,rfl⟩|⟨h,hm,rfl⟩
    ·simp only[Ad.tg,dR,and_true]at e1;exact .inl ⟨e1.2.1,by rw[e1.1];exact hx⟩
    ·simp only[Ad.tg,dR,and_true]at e1;exact .inr ⟨e1.2.1,by rw[e1.1,e1.2.2];exact hm⟩
   ·intro h;refine⟨a.tg,?_,by rw[LQ hE.nd ha]⟩;simp only[qF,aN,ak];rcases h with⟨h1,h2⟩|⟨h1,h2⟩
    ·have e:a.to=a.r:=by have:=(wP hg ha).1.2;omega
     exact .inl ⟨a.r,h2,by simp[Ad.tg,h1,e]⟩
    ·exact .inr ⟨_,h2,by simp[Ad.tg,h1]⟩
  all:=fun k _ hk=>by obtain⟨t,ht,e⟩:=(hbit k).1 hk;obtain⟨a,ha,_,e2⟩:=hin t ht;exact⟨a,ha,by rw[←e,e2]⟩
  nd:=ali hE.nd
  price:=H.price
  one:=H.one
  no:=H.no
  sub:=fun h hm=>by obtain⟨_,_,_,e,_⟩:=H.pre hm;exact agr e
  root:=agr H.rt
  n:=by rw[aV];have:=hg.nr;omega
  leaf:=H.leaf
  atG:=fun v hv=>agr (H.has v hv)}
def Jh(K:List (Int×Int))(h:Int×Int):List (Int×Int):=if h∈K then K else K++[h]
def yY(K L:List (Int×Int)):List (Int×Int):=L.foldl Jh K
def rG(g:aX)(r:Int)(rs:List Int):List (Int×Int):=rs.foldl (fun K z=>yY K (sN r (tH g z r))) []
theorem aiC{K:List (Int×Int)}(h:K.Nodup)(x:Int×Int):(Jh K x).Nodup:=by
 unfold Jh;split
 ·exact h
 ·rename_i hx;exact fV.2 ⟨h,by simp,fun a ha b hb e=>by simp at hb;subst e hb;exact hx ha⟩
theorem afb{K:List (Int×Int)}{x y:Int×Int}:y∈Jh K x↔y∈K∨y=x:=by
 unfold Jh;split
 ·exact⟨.inl,fun h=>h.elim id fun e=>by rw[e];assumption⟩
 ·simp
theorem abn:∀(L:List (Int×Int)) {K:List (Int×Int)},K.Nodup→(yY K L).Nodup
 | [],_,h=>h
 | x::L,_,h=>abn L (aiC h x)
theorem Wy:∀(L:List (Int×Int)) {K:List (Int×Int)} {y:Int×Int},y∈yY K L↔y∈K∨y∈L
 | [],_,_=>by simp[yY]
 | x::L,K,y=>by have:=Wy L (K:=Jh K x) (y:=y);rw[yY,bV,←yY,this,afb,aF,or_assoc]
theorem XF(g:aX)(r:Int)(rs:List Int):(rG g r rs).Nodup:=by
 have key:∀(rs:List Int) {K:List (Int×Int)},K.Nodup→(rs.foldl (fun K z=>yY K (sN r (tH g z r))) K).Nodup:=by
  intro rs
  induction rs with
  | nil=>intro K h;exact h
  | cons z rs ih=>intro K h;exact ih (abn _ h)
 exact key rs List.nodup_nil
theorem adI(g:aX)(r:Int)(rs:List Int){y:Int×Int}:y∈rG g r rs↔∃z∈rs,y∈sN r (tH g z r):=by
 have key:∀(rs:List Int) {K:List (Int×Int)},y∈rs.foldl (fun K z=>yY K (sN r (tH g z r))) K↔y∈K∨∃z∈rs,y∈sN r (tH g z r):=by
  intro rs
  induction rs with
  | nil=>intro K;simp
  | cons z rs ih=>intro K;rw[bV,ih,Wy];simp[or_assoc]
 have:=key rs (K:=[]);simpa[rG]using this
theorem SS:∀(x:Int) (us:List Int) (y:Int),sN x (us++[y])=sN x us++[(us.getLastD x,y)]
 | x,[],y=>by simp[sN]
 | x,u::us,y=>by have:=SS u us y;rw[bg,sN,this,sN,oO];rfl
theorem ac5(K L:List (Int×Int))(x:Int×Int):yY K (L++[x])=Jh (yY K L) x:=by simp[yY]
theorem XB:∀(x:Int) (ws:List Int),(sN x ws).length=ws.length
 | _,[]=>rfl
 | x,y::ws=>by simp[sN,XB y ws]
theorem Wx:∀(L:List (Int×Int)) (K:List (Int×Int)),(yY K L).length≤K.length+L.length
 | [],K=>by simp[yY]
 | x::L,K=>by
   have:=Wx L (Jh K x);have h2:(Jh K x).length≤K.length+1:=by unfold Jh;split<;>simp
   rw[yY,bV,←yY,aH];omega
def JK(K:List (Int×Int)):List (List Int×TV):=K.map fun h=>([h.1,h.2],TV.d (.bool true))
theorem SV(K:List (Int×Int)):rQ 2 (JK K):=fun y hy=>by obtain⟨a,_,rfl⟩:=ak.1 hy;rfl
theorem XC:∀(K:List (Int×Int)) (x y:Int),oq (JK K) [x,y] (TV.d (.bool true))=JK (Jh K (x,y))
 | [],x,y=>by simp[JK,Jh,oq]
 | h::K,x,y=>by
   have ih:=XC K x y;simp only[JK,Jh]at ih⊢;by_cases e:h=(x,y)
   ·subst e;simp[oq]
   ·have e1 :¬[x,y] = [h.1,h.2]:=fun e2=>e (by simp at e2;exact Prod.ext e2.1.symm e2.2.symm)
    have e2 :¬(x,y)=h:=fun e3=>e e3.symm
    simp only[aC,oq,if_neg e1,ih,aF,e2,false_or];split<;>simp
@[simp]theorem amP{po:Nat→Prop}{K:List (Int×Int)}{c:Nat}{pd:Option (List Int)}{s:Option jB}:It.only po (It.fO (JK K) c pd s):=by
 intro x hx;obtain⟨y,_,rfl⟩:=ak.1 hx
 trivial
theorem aal(l:List Int)(a d:Int):(l++[a]).getLast?.getD d=a:=by simp
theorem adH(g:aX)(r:Int)(rs:List Int)(B:Nat)(h:∀z∈rs,(tH g z r).length≤B):(rG g r rs).length≤rs.length*B:=by
 have key:∀(rs:List Int),(∀z∈rs,(tH g z r).length≤B)→∀(K:List (Int×Int)),(rs.foldl (fun K z=>yY K (sN r (tH g z r))) K).length≤K.length+rs.length*B:=by
  intro rs
  induction rs with
  | nil=>intro _ K;simp
  | cons z rs ih=>
    intro h K;have h1:=ih (fun x hx=>h x (by simp[hx])) (yY K (sN r (tH g z r)));have h2:=Wx (sN r (tH g z r)) K;have h3:=h z (by simp);rw[XB]at h2
    rw[bV,aH,Nat.succ_mul];omega
 have:=key rs h [];simpa[rG]using this
theorem adG(K:List (Int×Int)):(JK K).map (·.1)=hz2 K:=by simp[JK,hz2,aY,Function.comp_def]
theorem aow{X J:Prop}(a:J→X)(b:J):X:=a b
theorem aa3(g:aX)(h0:jo g=0)(r:Int)(rs:List Int)(hr:dF g.rs r=true)(hl:rs.length≤24)(ha:rs.Pairwise (· < ·))(hh:∀x∈rs,dF g.rs x=true)(hd:∀x∈rs,dst g x r<far):
  Contract Tryz.prog 14 [eU g,.d (.int .i64 r),.d (ints rs)] [] (.qh [vw r (zu (rG g r rs)),.d (.int .i64 0)]) [] []:=by
 have hg:=dV h0;have hbg:=L6 g h0 r rs hr (by omega) ha hh;have hrt:=fun x hx=>ajX g h0 r x hr (hh x hx) (hd x hx)
 simp only[eU]at hbg hrt;have hKn:(zu (rG g r rs)).length≤1000000:=by
  have h1:=adH g r rs 24000 fun z hz=>by have h1:=(Eu hg (hh z hz) hr (hd z hz)).len hg;have h2:=Jy hg (hh z hz) hr (hd z hz);omega
  have h2:rs.length*24000≤24*24000:=dN _ hl;rw[zu,iO];omega
 refine ay Tryz.func14 rfl (fun E0=>?_);refine iC.sound (g:=.mk) (ow:=[3000024]) (kp:=(kb 0x1e4001e20bbcf)) ?_;rw[Tryz.ntmps14];simp -dsimp[eU];refine aI.of hbg [] 0 ?_;simp -dsimp[ints];and_intros;all_goals try first|rfl|omega|exact⟨by kernel_rfl⟩
 refine dD.of [3000024] (kb 0x1e4001e20bbcf) (ι:={i:Nat // i≤rs.length}) (fun z=>[(.s 1,It.v (.d (.int .i64 r))),(.o 3,It.box [TV.d (.sl (rts g.rs)),TV.d (.sl (nS g.ls))]),(.s 3,It.v (.ptr (.o 3) 0)),
  (.o 6,It.box [TV.d (.int .i64 0),TV.c (Value.slice none 0 0)]),(.s 6,It.v (.ptr (.o 6) 0)),(.s 7,It.v (.d (.int .i64 0))),
  (.o 24,It.fO (JK (rG g r (rs.take z.1))) 0 none none),(.s 9,It.v (.mref 24)),(.s 25,It.v (.d (ints rs))),(.s 26,It.v (.d (.int .i64 rs.length))),(.s 27,It.v (.d (.int .i64 z.1)))])
  (fun z=>rs.length-z.1) ⟨0,by omega⟩ ?_ ?_
 ·exact GS.to (by simp[ints,JK,rG])
 ·rintro⟨i,i1⟩;by_cases hi:i<rs.length
  ·have hiz:(i:Int)<rs.length:=by omega
   have hl2:=aj hi;have hm:=aJ hi;have ht:rG g r (rs.take (i+1))=yY (rG g r (rs.take i)) (sN r (tH g rs[i] r)):=by rw[aT,hl2,rG,iF,dZ];rfl
   have hlr:=Eu hg (hh _ hm) hr (hd _ hm);have ajj:=hrt _ hm;have hwl:=hlr.len hg;have hds:=Jy hg (hh _ hm) hr (hd _ hm);generalize rs[i]=x at hl2 ht hlr ajj hwl hds hm;generalize tH g x r=W at ht hlr ajj hwl;have hWn:W.length≤24000:=by omega
   have hne :¬x=r→¬W = []:=fun h=>by cases hlr with
    | nil=>exact absurd rfl h
    | cons _ _ _=>simp
   generalize rG g r (rs.take i)=K at ht⊢;have w1:IntKind.i64.wrap ((i:Int)+1)=(i:Int)+1:=wrap_i64 (by omega) (by omega);apply aow
   case a=>
    intro J;by_cases hxr :¬x=r
    ·have hz:=hne hxr;simp -dsimp[hiz,hl2,ints];refine aI.of ajj [] 0 ?_;simp -dsimp[hxr,hz,ints];exact J
    ·have hxr:x=r:=Classical.not_not.1 hxr;subst hxr;cases hlr with
     | cons h _ _=>exact absurd rfl h
     | nil=>simp -dsimp[hiz,hl2,ints];refine aI.of ajj [] 0 ?_;simp -dsimp[ints];exact J
   case b=>
    refine dD.of [3000024] (kb 0x1e4001e20bbcf) (ι:={k:Nat // k≤W.length}) (fun z=>[(.s 1,It.v (.d (.int .i64 r))),(.o 3,It.box [TV.d (.sl (rts g.rs)),TV.d (.sl (nS g.ls))]),(.s 3,It.v (.ptr (.o 3) 0)),
     (.o 6,It.box [TV.d (.int .i64 0),TV.c (Value.slice none 0 0)]),(.s 6,It.v (.ptr (.o 6) 0)),(.s 7,It.v (.d (.int .i64 0))),
     (.o 24,It.fO (JK (yY K (sN r (W.take z.1)))) 0 none none),(.s 9,It.v (.mref 24)),(.s 25,It.v (.d (ints rs))),(.s 26,It.v (.d (.int .i64 rs.length))),(.s 27,It.v (.d (.int .i64 i))),
     (.s 13,It.v (.d (.int .i64 ((W.take z.1).getLastD r)))),(.s 45,It.v (.d (ints W))),(.s 46,It.v (.d (.int .i64 W.length))),(.s 47,It.v (.d (.int .i64 z.1)))])
     (fun z=>W.length-z.1) ⟨0,by omega⟩ ?_ ?_
    ·exact GS.to (by simp[ints,yY,sN])
    ·rintro⟨k,k1⟩;by_cases hk:k<W.length
     ·have hkz:(k:Int)<W.length:=by omega
      have hlk:=aj hk;have htk:W.take (k+1)=W.take k++[W[k]]:=by rw[aT,hlk];rfl
      have hh1:=SS r (W.take k) W[k];have hh2:=ac5 K (sN r (W.take k)) ((W.take k).getLastD r,W[k]);have hla:(W.take (k+1)).getLast?.getD r=W[k]:=by rw[htk];exact aal _ _ _
      rw[←htk]at hh1
      rw[←hh1]at hh2
      generalize W[k]=y at hlk hh2 hla;generalize (W.take k).getLastD r=c at hh2⊢;generalize yY K (sN r (W.take k))=K1 at hh2⊢;have hp:=XC K1 c y;have hkl:=SV K1;rw[←hh2]at hp
      simp -dsimp[hkz,hlk,ints,hp,hkl,wrap_i64 (n:=(k:Int)+1) (by omega) (by omega)];and_intros;all_goals try first|rfl|omega|exact⟨by kernel_rfl⟩
      exact⟨⟨k+1,by omega⟩,GS.to (by simp[ints,hla]),by simp;omega⟩
     ·have hkz :¬(k:Int)<W.length:=by omega
      rw[show W.take k=W from aS (by omega),←ht];simp -dsimp[hkz,w1];and_intros;all_goals try first|rfl|omega|exact⟨by kernel_rfl⟩
      exact⟨⟨i+1,by omega⟩,GS.to (by simp),by simp;omega⟩
  ·have hiz :¬(i:Int)<rs.length:=by omega
   rw[show rs.take i=rs from aS (by omega)];have hkk:=adG (rG g r rs);have hkl:=SV (rG g r rs);have hT:dd (uj (BO (hz2 (rG g r rs))))=dd (hps (zu (rG g r rs))):=by rw[aic];simp[hz2,hps,uj,aY,Function.comp_def]
   have hsl:(JK (rG g r rs)).length=(zu (rG g r rs)).length:=by simp[JK,zu]
   have hsm:(zu (rG g r rs)).length≤1000000:=hKn;generalize rG g r rs=K at hkk hkl hT hsl hsm⊢;have hok:dB Tryz.prog 41=true:=by kernel_rfl
   have hok2:dB Tryz.prog 40=true:=by kernel_rfl
   simp -dsimp[hiz];refine aI.agM abT ?_;simp -dsimp[hok];refine aI.VZ abT ?_;simp -dsimp[hok2,hkk,hT];refine⟨fun a b hm=>hkl _ hm,by rw[hsl];exact hsm,?_⟩;refine Fin.box (.o 6) rfl ?_;simp -dsimp[hsl];refine⟨(D7 _).symm,?_⟩;refine Fin.of ?_;simp[vw]
end Go.Proofs
