/-
  What functions of the program compute, stated as contracts over plain data; the conditions of each stand in its own statement.
-/
import Derived.Test.YtboimfkommpglaaGreatDoorZB13
import Derived.Test.YtboimfkommpglaaGreatDoorZB14
import Derived.Test.YtboimfkommpglaaGreatDoorZB16
import Derived.Test.YtboimfkommpglaaGreatDoorZB18
import Derived.Test.YtboimfkommpglaaGreatDoorZB11
set_option linter.unusedVariables false
set_option linter.unusedSimpArgs false
namespace Go.Proofs
open Go Go.Tr
def tz(B:BitVec 64):Nat:=((List.range 64).find? fun i=>B.getLsbD i).getD 64
theorem zx{B:BitVec 64}(h:B≠0#64):tz B<64∧B.getLsbD (tz B)=true∧∀i<tz B,B.getLsbD i=false:=by
 unfold tz;cases hf:(List.range 64).find? fun i=>B.getLsbD i with
 | none=>exfalso;apply h;apply jc;intro i hi;have:=iW.1 hf i (by simpa using hi);simpa using this
 | some k=>
   have h1:=qG hf;have h2:=gG hf;refine⟨by simpa using h2,h1,fun i hi=>?_⟩;obtain⟨_,ps,qs,e,ha⟩:=List.find?_eq_some_iff_append.1 hf;have hi':i∈ps:=by
    have hk:ps.length=k:=by
     have h3:(List.range 64)[ps.length]? = some k:=by rw[e];simp
     have h4:ps.length<64:=by have:=congrArg List.length e;simp at this;omega
     rw[lI h4]at h3
     exact Option.some.inj h3
    have h5:(List.range 64)[i]? = some i:=lI (by simp at h2 hi;omega);rw[e,cZ (by simp at hi;omega)]at h5
    exact bU h5
   simpa using ha i hi'
theorem ajo{B:BitVec 64}(h:B≠0#64):B &&& -B=1#64<<<tz B:=by
 obtain⟨h1,h2,h3⟩:=zx h;apply jc;intro i hi;rw[fA,BitVec.getLsbD_neg];simp only[BitVec.getLsbD_shiftLeft,BitVec.getLsbD_one];rcases h_ i (tz B)with g|g|g
 ·simp[h3 i g,g]
 ·have :¬∃j<i,B.getLsbD j=true:=fun⟨j,hj,e⟩=>by rw[h3 j (by omega)]at e;cases e
  subst g;rw[h2];simp[this,h1]
 ·have:∃j<i,B.getLsbD j=true:=⟨_,g,h2⟩
  have e :¬i<tz B:=by omega
  have e' :¬i-tz B=0:=by omega
  simp[this,e,e',hi]
theorem akE:∀k:Nat,k<64→deb[(((1#64<<<k)*0x03f79d71b4ca8b09#64)>>>58).toNat]? = some (k:Int):=by decide
theorem al3(X:BitVec 64)(c:Int):wu (tn X*c)=X*wu c:=by rw[wu,BitVec.ofInt_mul];exact congrArg (· * wu c) (Iz X)
theorem al4(X:BitVec 64):wu (tn (wu (-tn X))) = -X:=by rw[Iz,wu,BitVec.ofInt_neg];exact congrArg (- ·) (Iz X)
theorem akD{B:BitVec 64}(h:B≠0#64):∃v:Nat,aaA IntKind.u64 (IntKind.u64.wrap (tn (B&&&wu (IntKind.u64.wrap (-tn B)))*285870213051353865)) 58=v∧v<64∧deb[v]? = some (tz B:Int):=by
 refine⟨(((1#64<<<tz B)*0x03f79d71b4ca8b09#64)>>>58).toNat,?_,?_,akE _ (zx h).1⟩
 ·rw[QO,QO,al4,ajo h,al3,adR];rfl
 ·rw[BitVec.toNat_ushiftRight,Nat.shiftRight_eq_div_pow];have:=((1#64<<<tz B)*0x03f79d71b4ca8b09#64).isLt;omega
theorem aiz(B:BitVec 64):Contract Tryz.prog 237 [.d (bv B)] [] (.d (.int .i64 (tz B))) [] []:=by
 refine aC Tryz.func237 rfl (fun E0=>?_);refine iK.sound (g:=.mk) (ow:=[]) (kp:=(kb 0x15)) ?_;rw[Tryz.ntmps237];by_cases h:B=0#64
 ·subst h;simp -dsimp[bv];refine Fin.of ?_;simp;decide
 ·obtain⟨v,e,hv,hd⟩:=akD h;have ht:=(zx h).1;simp -dsimp[bv,h,e,hd];refine⟨by omega,?_⟩;simp -dsimp[bv,h,e,hd,wrap_i64 (n:=(tz B:Int)) (by omega) (by omega)];refine Fin.of ?_;simp
def uI(B:BitVec 64):Int:=if B=0#64 then -1 else(tz B:Int)
theorem ac3(B:BitVec 64):Contract Tryz.prog 182 [.d (bv B)] [] (.d (.int .i64 (uI B))) [] []:=by
 refine aC Tryz.func182 rfl (fun E0=>?_);refine iK.sound (g:=.mk) (ow:=[]) (kp:=(kb 0x15)) ?_;rw[Tryz.ntmps182];by_cases h:B=0#64
 ·subst h;simp -dsimp[bv];refine Fin.of ?_;simp[uI]
 ·simp -dsimp[bv,h];refine aF.of (aiz B) [] 0 ?_;simp -dsimp;refine⟨rfl,Fin.of ?_⟩;simp[uI,h]
def jg(B:BitVec 64):List Nat:=(List.range 64).filter fun i=>B.getLsbD i
theorem Oa(B:BitVec 64)(i:Nat)(hi:i<64):(B&&&wu (tn B-1)).getLsbD i=(B.getLsbD i&&decide (∃j<i,B.getLsbD j=true)):=by
 have e:wu (tn B-1) = ~~~(-B):=by rw[BitVec.not_neg,wu,Int.sub_eq_add_neg,BitVec.ofInt_add];rw[show BitVec.ofInt 64 (tn B)=B from Iz B,show BitVec.ofInt 64 (-1) = -1#64 by decide,BitVec.sub_eq_add_neg]
 rw[e,fA,nG,BitVec.getLsbD_neg];cases h:B.getLsbD i
 ·simp
 ·simp[hi]
theorem Jy{B:BitVec 64}(h:B≠0#64):jg B=tz B::jg (B&&&wu (tn B-1)):=by
 obtain⟨h1,h2,h3⟩:=zx h;have e:List.range 64=List.range (tz B)++(tz B::(List.range' (tz B+1) (63-tz B))):=by rw[←rV,nS,nS,show 64=tz B+(63-tz B+1) by omega,←List.range'_append_1];simp
 have f1:∀(C:BitVec 64),(∀i<tz B,C.getLsbD i=false)→(List.range (tz B)).filter (fun i=>C.getLsbD i) = []:=fun C hC=>by rw[fU];intro i hi;simp[hC i (by simpa using hi)]
 have c0:∀i<tz B,(B&&&wu (tn B-1)).getLsbD i=false:=fun i hi=>by rw[Oa B i (by omega),h3 i hi];rfl
 have c1:(B&&&wu (tn B-1)).getLsbD (tz B)=false:=by
  rw[Oa B _ h1,h2];have :¬∃j<tz B,B.getLsbD j=true:=fun⟨j,hj,e⟩=>by rw[h3 j hj]at e;cases e
  simp[this]
 unfold jg;rw[e,bJ,bJ,f1 B h3,f1 _ c0,dD,dD,h2,c1];simp only[gW,if_true,bI,if_false,eH,true_and];apply eu;intro i hi;have hi':=List.mem_range'_1.1 hi;rw[Oa B i (by omega)];have:∃j<i,B.getLsbD j=true:=⟨tz B,by omega,h2⟩
 simp[this]
theorem Jz:jg 0#64 = []:=by simp[jg]
theorem zF(B:BitVec 64):(jg B).length≤64:=by have:=aQ (fun i=>B.getLsbD i) (List.range 64);simpa[jg]using this
def vW(B:BitVec 64):List Int:=(jg B).map Int.ofNat
theorem tZ(B:BitVec 64):(vW B).length≤64:=by simpa[vW]using zF B
theorem Jw{B:BitVec 64}(h:B≠0#64):vW B=(tz B:Int)::vW (B&&&wu (tn B-1)):=by simp[vW,Jy h]
theorem BN:vW 0#64 = []:=by simp[vW,Jz]
theorem alf(B:BitVec 64):Contract Tryz.prog 240 [.d (bv B)] [] (.d (ints (vW B))) [] []:=by
 have hB:=tZ B;refine aC Tryz.func240 rfl (fun E0=>?_);refine iK.sound (g:=.mk) (ow:=[]) (kp:=(kb 0x2d)) ?_;rw[Tryz.ntmps240];simp -dsimp[bv]
 refine bY.of [3] (kb 0x2d) (ι:={z:BitVec 64×List Int // vW B=z.2++vW z.1}) (fun z=>[(.s 0,It.v (.d (.int IntKind.u64 (tn z.1.1)))),(.s 2,It.v (.c (Value.slice none 0 0))),(.s 3,It.v (.bK 3 z.1.2.length)),(.o 3,.row 3 1 (dd (fE .i64 z.1.2)) false)]) (fun z=>(vW z.1.1).length) ⟨(B,[]),by simp⟩ ?_ ?_
 ·exact GS.own' (k:=3) 3 1 (by simp) (by simp) (by simp[fE])
 ·rintro⟨⟨R,l⟩,h⟩;simp only at h;have hl:=congrArg List.length h;simp only[aS]at hl;simp -dsimp;by_cases h0:R=0#64
  ·subst h0;simp -dsimp;refine Fin.view 2 ?_;simp -dsimp;refine Fin.of ?_;simp[h,BN,ints,fE]
  ·have hs:=Jw h0;have hf:=ac3 R;simp only[bv]at hf;have ht:=(zx h0).1;rw[hs]at hl
   simp only[aT]at hl;simp -dsimp[h0];refine aF.of hf [] 0 ?_;have e:uI R=(tz R:Int):=by simp[uI,h0]
   rw[e];simp -dsimp[h0];and_intros;all_goals try first|rfl|omega|exact⟨by kernel_rfl⟩
   refine⟨⟨(R&&&wu (tn R-1),l++[(tz R:Int)]),by simp[h,hs]⟩,GS.to (by simp[fE,QO]),by simp[hs]⟩
theorem akb(set bit len:Int):Contract Tryz.prog 183 [.d (.int .i64 set),.d (.int .i64 bit),.d (.int .i64 len)] [] (Gx set bit len) [] []:=by
 refine aC Tryz.func183 rfl (fun E0=>?_);refine iK.sound (g:=.mk) (ow:=[]) (kp:=(kb 0x808001c7)) ?_;rw[Tryz.ntmps183];simp -dsimp;refine aF.of (qN len) [] 0 ?_;rcases (au (dQ len)).symm with a1|a1
 ·simp -dsimp[a1];try refine⟨?_,⟨by kernel_rfl⟩⟩
  refine Fin.of ?_;simp[Gx,Au,a1]
 ·have hl:len=8∨len=16∨len=32∨len=64:=by simp[dQ]at a1;omega
  simp -dsimp[a1,wrap_i64 (n:=len-1) (by omega) (by omega)];refine aF.of (OD bit 0 (len-1)) [] 0 ?_;rcases (au (inB bit 0 (len-1))).symm with a2|a2
  ·simp -dsimp[a1,a2];try refine⟨?_,⟨by kernel_rfl⟩⟩
   refine Fin.of ?_;simp[Gx,Au,a1,a2]
  ·simp -dsimp[a1,a2];refine aF.of (OD set 0 31) [] 0 ?_;rcases (au (inB set 0 31)).symm with a3|a3
   ·simp -dsimp[a1,a2,a3];try refine⟨?_,⟨by kernel_rfl⟩⟩
    refine Fin.of ?_;simp[Gx,Au,a1,a2,a3]
   ·have b2:0≤bit∧bit≤len-1:=by simpa[inB]using a2
    have b3:0≤set∧set≤31:=by simpa[inB]using a3
    have b4:0≤set*len∧set*len≤1984:=by rcases hl with rfl|rfl|rfl|rfl<;>omega
    by_cases a4:set*len+bit+1≤256
    ·have a5 :¬256<set*len+bit+1:=by omega
     simp -dsimp[a1,a2,a3,a4,a5,wrap_i64 (n:=set*len) (by omega) (by omega),wrap_i64 (n:=set*len+bit) (by omega) (by omega),wrap_i64 (n:=set*len+bit+1) (by omega) (by omega)];try refine⟨?_,⟨by kernel_rfl⟩⟩
     refine Fin.of ?_;simp[Gx,Au,a1,a2,a3,a4]
    ·have a5:256<set*len+bit+1:=by omega
     simp -dsimp[a1,a2,a3,a4,a5,wrap_i64 (n:=set*len) (by omega) (by omega),wrap_i64 (n:=set*len+bit) (by omega) (by omega),wrap_i64 (n:=set*len+bit+1) (by omega) (by omega)];try refine⟨?_,⟨by kernel_rfl⟩⟩
     refine Fin.of ?_;simp[Gx,Au,a1,a2,a3,a4]
def lN(p:Pk):Int:=if p.ok=true then p.ent%8 else 0
theorem ab1{p:Pk}(h:p.ok=true):0≤p.ent∧p.ent≤1023:=by simp only[Pk.ok,yU,aP,decide_eq_true_eq]at h;omega
theorem ajC(p:Pk):Contract Tryz.prog 181 [mM p] [] (.d (.int .i64 (lN p))) [] []:=by
 refine aC Tryz.func181 rfl (fun E0=>?_);refine iK.sound (g:=.mk) (ow:=[]) (kp:=(kb 0x27)) ?_;rw[Tryz.ntmps181];have hv:=Iy p;simp only[mM,Pk.cs,List.map]at hv;simp -dsimp[mM,Pk.cs];refine aF.of hv [] 0 ?_;rcases (au p.ok).symm with a1|a1
 ·simp -dsimp[a1];refine Fin.of ?_;simp[lN,a1]
 ·have h:=ab1 a1;simp -dsimp[a1,wrap_i64 (n:=p.ent%8) (by omega) (by omega),iw h.1];refine Fin.of ?_;simp[lN,a1]
def rZ(p:Pk)(m:BitVec 64):Pk:=⟨p.mode,p.gU,p.set,p.len,p.ttl-1,p.ent,p.ing,p.proto,p.bits&&&m,p.pay⟩
def Yg:Pk:=⟨0,0,0,0,0,0,0,0,0#64,⟨#[]⟩⟩
def sH(p:Pk)(m:BitVec 64):Pk×Bool:=if p.ok=true∧p.ttl≠0∧p.bits&&&m≠0#64 then(rZ p m,true)else(Yg,false)
theorem yB{p:Pk}(h:p.ok=true):0≤p.ttl∧p.ttl≤63:=by simp only[Pk.ok,yU,aP,decide_eq_true_eq]at h;omega
theorem ahz(p:Pk)(m:BitVec 64):Contract Tryz.prog 185 [mM p,.d (bv m)] [] (.sZ [mM (sH p m).1,.d (.bool (sH p m).2)]) [] []:=by
 refine aC Tryz.func185 rfl (fun E0=>?_);refine iK.sound (g:=.mk) (ow:=[]) (kp:=(kb 0x100037)) ?_;rw[Tryz.ntmps185];have hv:=Iy p;simp only[mM,Pk.cs,List.map,bv]at hv;simp -dsimp[mM,Pk.cs,bv];refine aF.of hv [] 0 ?_;rcases (au p.ok).symm with a1|a1
 ·simp -dsimp[a1];refine Fin.of ?_;simp[sH,a1,Yg,mM,Pk.cs,bv]
 ·have h:=yB a1;by_cases a2:p.ttl=0
  ·simp -dsimp[a1,a2];refine Fin.of ?_;simp[sH,a2,Yg,mM,Pk.cs,bv]
  by_cases a3:p.bits&&&m=0#64
  ·simp -dsimp[a1,a2,a3];refine Fin.of ?_;simp[sH,a3,Yg,mM,Pk.cs,bv]
  simp -dsimp[a1,a2,a3,wrap_i64 (n:=p.ttl-1) (by omega) (by omega)];refine Fin.of ?_;simp[sH,a1,a2,a3,rZ,mM,Pk.cs,bv]
def pz(p:Pk)(k:Int):Pk:=if p.ok=true∧0≤k∧k≤63∧p.bits.getLsbD k.toNat=true then ⟨p.mode,p.gU,p.set,p.len,p.ttl,p.ent,p.ing,p.proto,1#64<<<k.toNat,p.pay⟩else Yg
theorem als(p:Pk)(k:Int):Contract Tryz.prog 241 [mM p,.d (.int .i64 k)] [] (mM (pz p k)) [] []:=by
 refine aC Tryz.func241 rfl (fun E0=>?_);refine iK.sound (g:=.mk) (ow:=[]) (kp:=(kb 0x800017)) ?_;rw[Tryz.ntmps241];have hv:=Iy p;simp only[mM,Pk.cs,List.map,bv]at hv;simp -dsimp[mM,Pk.cs,bv];refine aF.of hv [] 0 ?_;rcases (au p.ok).symm with a1|a1
 ·simp -dsimp[a1];refine Fin.of ?_;simp[pz,a1,Yg,mM,Pk.cs,bv]
 ·by_cases a2:k<0
  ·simp -dsimp[a1,a2];refine Fin.of ?_;have :¬0≤k:=by omega
   simp[pz,this,Yg,mM,Pk.cs,bv]
  by_cases a3:63<k
  ·simp -dsimp[a1,a2,a3];refine Fin.of ?_;have :¬k≤63:=by omega
   simp[pz,this,Yg,mM,Pk.cs,bv]
  have a4:0≤k:=by omega
  have a5:k≤63:=by omega
  simp -dsimp[a1,a2,a3,a4];have hb:(p.bits>>>k.toNat&&&1#64=0#64)↔p.bits.getLsbD k.toNat=false:=by rw[iU,mP,lW];cases p.bits.getLsbD k.toNat<;>decide
  refine PZ.dec (fun g=>?_) (fun g=>?_)
  ·simp -dsimp;refine Fin.of ?_;simp[pz,hb.1 g,Yg,mM,Pk.cs,bv]
  ·have g':p.bits.getLsbD k.toNat=true:=by
    cases h:p.bits.getLsbD k.toNat with
    | true=>rfl
    | false=>exact absurd (by simpa using hb.2 h) g
   simp -dsimp[a4];refine Fin.of ?_;simp[pz,a1,a4,a5,g',mM,Pk.cs,bv]
structure Out where
 loc:BitVec 64
 lost:BitVec 64
 qy:List (Int×Pk)
def vZ:Out:=⟨0#64,0#64,[]⟩
def lT(p:Pk)(k:Nat):Int:=if Au p.set k p.len=true then p.set*p.len+k+1 else 0
def Pk.setB(p:Pk)(R:BitVec 64):Pk:=⟨p.mode,p.gU,p.set,p.len,p.ttl,p.ent,p.ing,p.proto,R,p.pay⟩
def dU(b:Tb)(p:Pk)(k:Nat):Int:=jo b (lT p k) (lN p)
def rQ(b:Tb)(p:Pk)(R:BitVec 64)(n:Int):BitVec 64:=R&&&Ci b (lN p) p.set n
def uO(b:Tb)(p:Pk)(o:Out)(R:BitVec 64):Out:=
 if dU b p (tz R)=0 then ⟨o.loc,o.lost|||1#64<<<tz R,o.qy⟩
 else if dU b p (tz R)=b.r then ⟨o.loc|||1#64<<<tz R,o.lost,o.qy⟩
 else if(sH (p.setB R) (rQ b p R (dU b p (tz R)))).2=true then ⟨o.loc,o.lost,o.qy++[(dU b p (tz R),(sH (p.setB R) (rQ b p R (dU b p (tz R)))).1)]⟩
 else ⟨o.loc,o.lost|||rQ b p R (dU b p (tz R)),o.qy⟩
def vJ(b:Tb)(p:Pk)(R:BitVec 64):BitVec 64:=
 if dU b p (tz R)=0∨dU b p (tz R)=b.r then 1#64<<<tz R else rQ b p R (dU b p (tz R))
def C_(b:Tb)(p:Pk):Nat→Out→BitVec 64→Out
 | 0,o,_=>o
 | n+1,o,R=>if R=0#64 then o else C_ b p n (uO b p o R) (R &&& ~~~ vJ b p R)
def vX(b:Tb)(p:Pk):Out:=C_ b p 64 vZ p.bits
def yT(b:Tb)(p:Pk):Out×Int:=
 if chk b≠0∨p.ok=false then(vZ,1)else if p.mode=2 then(vZ,7)else if b.sd≠p.gU∨b.len≠p.len then(vZ,8)else(vX b p,0)
theorem MP{R m:BitVec 64}{k:Nat}(hk:k<64)(h1:R.getLsbD k=true)(h2:m.getLsbD k=true):(jg (R &&& ~~~ m)).length<(jg R).length:=by
 have e:jg (R &&& ~~~ m)=(jg R).filter fun i=>!m.getLsbD i:=by
  unfold jg;rw[iM]
  grind
 rw[e];refine List.length_filter_lt_length_iff_exists.2 ⟨k,?_,by simp[*]⟩
 grind[jg]
theorem aai{R:BitVec 64}(h:(jg R).length=0):R=0#64:=Classical.byContradiction fun g=>by grind[Jy]
theorem I5{p:Pk}(h:p.ok=true):dQ p.len=true∧∀k<64,p.bits.getLsbD k=true→(k:Int)<p.len:=by
 simp only[Pk.ok,aP,yD,decide_eq_true_eq]at h;obtain⟨_,_,_,_,⟨h1,h2⟩,_⟩:=h;refine⟨h1,fun k hk hb=>?_⟩;have hl:p.len=8∨p.len=16∨p.len=32∨p.len=64:=by grind[dQ]
 have h3:=congrArg (fun z=>z.getLsbD k) h2;simp only[fA,nG,hb,hk,decide_true,jZ,mX,Bool.not_eq_false',Ei,h1,if_true]at h3;rw[Ou hk _ (by omega)]at h3
 simp_all
theorem Zz{b:Tb}(h:chk b=0)(p:Int):qc b 0 p=0:=by
 have:rowOf b 0=none:=by
  rw[rowOf,iW];intro x hx;have:=(Ea h x hx).1
  grind
 grind[qc,tH]
theorem IL{b:Tb}(h:chk b=0){id p:Int}(h0:qc b id p≠0):1≤qc b id p∧qc b id p≤99:=by
 unfold qc at h0⊢;have hm:=Zy h0;cases hr:rowOf b id with
 | none=>simp_all
 | some x=>simp only[hr,bf]at hm⊢;exact(Ea h x (gG hr)).2 _ hm
theorem LD{b:Tb}{p:Pk}(hc:chk b=0)(hp:p.ok=true)(hl:b.len=p.len){R:BitVec 64}(hR:∀k<64,R.getLsbD k=true→p.bits.getLsbD k=true)(h0:R≠0#64):(vJ b p R).getLsbD (tz R)=true:=by
 obtain⟨t1,t2,_⟩:=zx h0;unfold vJ;split
 ·simp[*]
 ·have hn0:dU b p (tz R)≠0:=by omega
  have hpl:0≤lN p∧lN p≤7:=by grind[lN]
  have hs:0≤p.set∧p.set≤31:=by simp only[Pk.ok,yU,aP,decide_eq_true_eq]at hp;omega
  have v0:Ar b (lN p) 0=true:=by grind[Ar,lN,qw]
  have vs:Ar b (lN p) p.set=true:=qw.2 ⟨hc,hpl,hs⟩;have ha:Au p.set (tz R) p.len=true:=Classical.byContradiction fun g=>hn0 (by
   rw[dU,lT,if_neg g,jo,if_pos v0]
   grind[Zz])
  have hh:dU b p (tz R)=qc b (p.set*p.len+tz R+1) (lN p):=by rw[dU,lT,if_pos ha,jo,if_pos v0]
  have hr:=IL hc (hh▸hn0);rw[rQ,fA,t2,jZ,ZP,ads,if_pos ⟨vs,by omega⟩]
  grind[I5,dQ,IG]
set_option maxRecDepth 100000
set_option maxHeartbeats 8000000
def Jb(x:Int×Pk):List D:=.int .i64 x.1 :: .sl []::x.2.cs
def outT(o:Out):TV:=.agg [.d (bv o.loc),.d (bv o.lost),.d (.sl (o.qy.map Jb))]
theorem aeC(b:Tb)(hb:b.Sm)(p:Pk):Contract Tryz.prog 105 [gQ b,mM p] [] (.sZ [outT (yT b p).1,.d (.int .i64 (yT b p).2)]) [] []:=by
 have hck:=aaH b hb.1 hb.2;have hv:=Iy p;have hpl:=ajC p;simp only[gQ,mM,Pk.cs,List.map]at hck hv hpl;refine aC Tryz.func105 rfl (fun E0=>?_);refine iK.sound (g:=.mk) (ow:=[]) (kp:=(kb 0x4000000200c0001000021007efff)) ?_
 rw[Tryz.ntmps105];simp -dsimp[gQ,mM,Pk.cs];try refine⟨?_,⟨by kernel_rfl⟩⟩
 refine aF.of hck [] 0 ?_;by_cases h1:chk b=0
 ·simp -dsimp[h1];try refine⟨?_,⟨by kernel_rfl⟩⟩
  refine aF.of hv [] 0 ?_;rcases (au p.ok).symm with h2|h2
  ·simp -dsimp[h2];try refine⟨?_,⟨by kernel_rfl⟩⟩
   refine Fin.box (.o 4) rfl ?_;simp -dsimp;refine Fin.of ?_;simp[yT,vZ,outT,bv,h1,h2]
  ·by_cases h3:p.mode=2
   ·simp -dsimp[h2,eq_true h3];try refine⟨?_,⟨by kernel_rfl⟩⟩
    refine Fin.box (.o 4) rfl ?_;simp -dsimp;refine Fin.of ?_;simp[yT,vZ,outT,bv,h1,h2,h3]
   ·by_cases h4:b.sd=p.gU
    ·by_cases h5:b.len=p.len
     ·simp -dsimp[h2,h3,eq_true h4,eq_true h5];try refine⟨?_,⟨by kernel_rfl⟩⟩
      refine aF.of hpl [] 0 ?_;simp -dsimp;try refine⟨?_,⟨by kernel_rfl⟩⟩
      refine bY.of [] (kb 0x4000000200c0001000021007efff) (ι:={z:Nat×Out×BitVec 64 // vX b p=C_ b p z.1 z.2.1 z.2.2∧(jg z.2.2).length≤z.1∧z.2.1.qy.length+z.1≤64∧∀k<64,z.2.2.getLsbD k=true→p.bits.getLsbD k=true})
       (fun z=>[(.o 2,It.box [TV.d (.int .i64 b.r),TV.d (.int .i64 b.sd),TV.d (.int .i64 b.len),TV.d (dZ b.rows)]),(.s 2,It.v (.ptr (.o 2) 0)),
        (.o 3,It.box (p.cs.map .d)),(.s 3,It.v (.ptr (.o 3) 0)),
        (.o 4,It.box [TV.d (.int IntKind.u64 0),TV.d (.int IntKind.u64 0),TV.c (Value.slice none 0 0)]),(.s 4,It.v (.ptr (.o 4) 0)),(.s 5,It.v (.d (.int .i64 0))),
        (.s 6,It.v (.d (.int .i64 (lN p)))),
        (.o 7,It.box [TV.d (.int IntKind.u64 (tn z.1.2.1.loc)),TV.d (.int IntKind.u64 (tn z.1.2.1.lost)),TV.bK 50 z.1.2.1.qy.length]),(.s 7,It.v (.ptr (.o 7) 0)),
        (.o 50,It.row 29 12 (dd (z.1.2.1.qy.map Jb)) false),(.s 8,It.v (.d (.int IntKind.u64 (tn z.1.2.2))))])
       (fun z=>z.1.1) ⟨(64,vZ,p.bits),rfl,zF _,by simp[vZ],fun _ _ h=>h⟩ ?_ ?_
      ·exact GS.AV (.o 7) 2 50 (cs:=[TV.d (.int IntKind.u64 0),TV.d (.int IntKind.u64 0),TV.c (Value.slice none 0 0)]) 29 12 (by simp) (by simp) (by simp) (by simp) (by simp[vZ,Pk.cs,bv])
      ·rintro⟨⟨n,o,R⟩,i1,i2,i3,i4⟩;simp only at i1 i2 i3 i4;by_cases h0:R=0#64
       ·subst h0;have e:vX b p=o:=by rw[i1];cases n<;>simp[C_]
        have e2:yT b p=(o,0):=by simp[yT,h1,h2,h3,h4,h5,e]
        rw[e2];simp -dsimp;try refine⟨?_,⟨by kernel_rfl⟩⟩
        refine Fin.box (.o 4) rfl ?_;simp -dsimp;refine Fin.of ?_;simp[outT,bv]
       ·have hf:=ac3 R;have e:uI R=(tz R:Int):=by simp[uI,h0]
        rw[e]at hf
        simp only[bv]at hf;obtain⟨t1,t2,t3⟩:=zx h0;have hat:=akb p.set (tz R) p.len;simp only[Gx]at hat;have hnx:=adt b hb (lT p (tz R)) (lN p);have hho:jo b (lT p (tz R)) (lN p)=dU b p (tz R):=rfl;rw[hho]at hnx
        have hid:(if Au p.set (tz R) p.len=true then p.set*p.len+(tz R:Int)+1 else 0)=lT p (tz R):=rfl;simp only[hid]at hat;simp only[gQ]at hnx;simp -dsimp[h0];try refine⟨?_,⟨by kernel_rfl⟩⟩
        refine aF.of hf [] 0 ?_;have hmb:=LD h1 h2 h5 i4 h0;have hpop:=MP t1 t2 hmb;have hmk:=alg b hb (lN p) p.set (dU b p (tz R));have hto:rQ b p R (dU b p (tz R))=R&&&Ci b (lN p) p.set (dU b p (tz R)):=rfl;have hms:=ahz (p.setB R) (rQ b p R (dU b p (tz R)));simp only[gQ,bv]at hmk
        obtain⟨Q,hQ⟩:∃Q,sH (p.setB R) (rQ b p R (dU b p (tz R)))=Q:=⟨_,rfl⟩
        rw[hQ]at hms
        simp only[mM,Pk.cs,Pk.setB,List.map,bv]at hms;obtain⟨n,rfl⟩:∃j,n=j+1:=⟨n-1,by omega⟩
        have hstep:vX b p=C_ b p n (uO b p o R) (R &&& ~~~ vJ b p R):=by rw[i1,C_,if_neg h0]
        have hsub:∀k<64,(R &&& ~~~ vJ b p R).getLsbD k=true→p.bits.getLsbD k=true:=fun k hk hb=>by
         rw[fA]at hb
         simp only[aP]at hb;exact i4 k hk hb.1
        simp -dsimp[h0,Pk.cs];try refine⟨?_,⟨by kernel_rfl⟩⟩
        refine aF.of hat [] 0 ?_;simp -dsimp;try refine⟨?_,⟨by kernel_rfl⟩⟩
        refine aF.of hnx [] 0 ?_;by_cases c0:dU b p (tz R)=0
        ·have eM:vJ b p R=1#64<<<tz R:=by rw[vJ,if_pos (.inl c0)]
         have eO:uO b p o R=⟨o.loc,o.lost|||1#64<<<tz R,o.qy⟩:=by rw[uO,if_pos c0]
         rw[eM]at hpop hsub hstep
         rw[eO]at hstep
         simp -dsimp[eq_true c0];try refine⟨?_,⟨by kernel_rfl⟩⟩
         exact⟨⟨(n,⟨o.loc,o.lost|||1#64<<<tz R,o.qy⟩,R &&& ~~~ (1#64<<<tz R)),hstep,by simp only;omega,by simp only;omega,hsub⟩,GS.to (by simp[Pk.cs,bv]),by simp⟩
        by_cases c1:dU b p (tz R)=b.r
        ·have eM:vJ b p R=1#64<<<tz R:=by rw[vJ,if_pos (.inr c1)]
         have eO:uO b p o R=⟨o.loc|||1#64<<<tz R,o.lost,o.qy⟩:=by rw[uO,if_neg c0,if_pos c1]
         rw[eM]at hpop hsub hstep
         rw[eO]at hstep
         rw[c1]at c0⊢
         simp -dsimp[c0];try refine⟨?_,⟨by kernel_rfl⟩⟩
         exact⟨⟨(n,⟨o.loc|||1#64<<<tz R,o.lost,o.qy⟩,R &&& ~~~ (1#64<<<tz R)),hstep,by simp only;omega,by simp only;omega,hsub⟩,GS.to (by simp[Pk.cs,bv]),by simp⟩
        have eM:vJ b p R=rQ b p R (dU b p (tz R)):=by rw[vJ,if_neg (fun h=>h.elim c0 c1)]
        rw[eM]at hpop hsub hstep
        simp -dsimp[c0,c1];try refine⟨?_,⟨by kernel_rfl⟩⟩
        refine aF.of hmk [] 0 ?_;simp -dsimp[←hto];try refine⟨?_,⟨by kernel_rfl⟩⟩
        have eO:uO b p o R=if(sH (p.setB R) (rQ b p R (dU b p (tz R)))).2=true then ⟨o.loc,o.lost,o.qy++[(dU b p (tz R),(sH (p.setB R) (rQ b p R (dU b p (tz R)))).1)]⟩else ⟨o.loc,o.lost|||rQ b p R (dU b p (tz R)),o.qy⟩:=by rw[uO,if_neg c0,if_neg c1]
        rw[eO]at hstep
        rw[hQ]at hstep
        clear hQ eO;generalize rQ b p R (dU b p (tz R))=M at hms hstep hpop hsub⊢;refine aF.of hms [] 0 ?_;rcases (au Q.2).symm with q1|q1
        ·rw[if_neg (by rw[q1];simp)]at hstep
         simp -dsimp[q1];try refine⟨?_,⟨by kernel_rfl⟩⟩
         exact⟨⟨(n,⟨o.loc,o.lost|||M,o.qy⟩,R &&& ~~~ M),hstep,by simp only;omega,by simp only;omega,hsub⟩,GS.to (by simp[Pk.cs,bv]),by simp⟩
        ·rw[if_pos q1]at hstep
         simp -dsimp[q1];and_intros;all_goals try first|omega|exact⟨by kernel_rfl⟩
         exact⟨⟨(n,⟨o.loc,o.lost,o.qy++[(dU b p (tz R),Q.1)]⟩,R &&& ~~~ M),hstep,by simp only;omega,by simp only[aS,aT,eY];omega,hsub⟩,GS.to (by simp[Pk.cs,bv,Jb]),by simp⟩
     ·simp -dsimp[h2,h3,eq_true h4,h5];try refine⟨?_,⟨by kernel_rfl⟩⟩
      refine Fin.box (.o 4) rfl ?_;simp -dsimp;refine Fin.of ?_;simp[yT,vZ,outT,bv,h1,h2,h3,h4,h5]
    ·simp -dsimp[h2,h3,h4];try refine⟨?_,⟨by kernel_rfl⟩⟩
     refine Fin.box (.o 4) rfl ?_;simp -dsimp;refine Fin.of ?_;simp[yT,vZ,outT,bv,h1,h2,h3,h4]
 ·simp -dsimp[h1];try refine⟨?_,⟨by kernel_rfl⟩⟩
  refine Fin.box (.o 4) rfl ?_;simp -dsimp;refine Fin.of ?_;simp[yT,vZ,outT,bv,h1]
def uH(x:Int×Pk):List D:=.int .i64 x.1::x.2.cs
def xU(r:Int)(o:Out)(p:Pk):List (Int×Pk):=(vW o.loc).map fun k=>(r,pz p k)
theorem agJ(b:Tb)(r:Int)(o:Out)(p:Pk):Contract Tryz.prog 189 [gQ b,.d (.int .i64 r),outT o,mM p] [] (.d (.sl ((xU r o p).map uH))) [] []:=by
 have hl:=alf o.loc;simp only[bv]at hl;refine aC Tryz.func189 rfl (fun E0=>?_);refine iK.sound (g:=.mk) (ow:=[]) (kp:=(kb 0x3cbcf)) ?_;rw[Tryz.ntmps189];simp -dsimp[gQ,outT,bv,mM,Pk.cs];try refine⟨?_,⟨by kernel_rfl⟩⟩
 refine aF.of hl [] 0 ?_;have hB:=tZ o.loc;unfold xU;generalize vW o.loc=L at hB⊢;simp -dsimp[ints];try refine⟨?_,⟨by kernel_rfl⟩⟩
 refine bY.of [] (kb 0x3cbcf) (ι:={i:Nat // i≤L.length})
  (fun z=>[(.o 7,It.box (p.cs.map .d)),(.s 7,It.v (.ptr (.o 7) 0)),(.s 1,It.v (.d (.int .i64 r))),(.s 8,It.v (.c (Value.slice none 0 0))),
   (.s 9,It.v (.bK 9 z.1)),(.o 9,It.row 92 11 (dd (((L.take z.1).map fun k=>(r,pz p k)).map uH)) false),
   (.s 14,It.v (.d (.sl (L.map fun n=>[D.int .i64 n])))),(.s 15,It.v (.d (.int .i64 L.length))),(.s 16,It.v (.d (.int .i64 z.1)))])
  (fun z=>L.length-z.1) ⟨0,by omega⟩ ?_ ?_
 ·exact GS.own' (k:=9) 92 11 (by simp) (by simp) (by simp[Pk.cs,bv])
 ·rintro⟨i,i1⟩;by_cases hi:i<L.length
  ·have hiz:(i:Int)<L.length:=by omega
   have hg:L[i]? = some L[i]:=ah hi;generalize L[i]=k at hg;have ho:=als p k;have hn:dd (((L.take (i+1)).map fun k=>(r,pz p k)).map uH)=dd (((L.take i).map fun k=>(r,pz p k)).map uH)++[TV.d (.int .i64 r)::(pz p k).cs.map .d]:=by rw[aO,hg];simp[dd,uH]
   have hlen:(((L.take i).map fun k=>(r,pz p k)).map uH).length=i:=by simp;omega
   generalize pz p k=q at ho hn;simp[Pk.cs]at hn
   simp only[mM,Pk.cs,List.map]at ho;simp -dsimp[hg,hiz,Pk.cs];try refine⟨?_,⟨by kernel_rfl⟩⟩
   refine aF.of ho [] 0 ?_;simp -dsimp[wrap_i64 (n:=(i:Int)+1) (by omega) (by omega)];and_intros;all_goals try first|omega|exact⟨by kernel_rfl⟩
   exact⟨⟨i+1,by omega⟩,GS.to (by simp[hn,Pk.cs]),by simp;omega⟩
  ·have hiz :¬(i:Int)<L.length:=by omega
   obtain rfl:i=L.length:=by omega
   simp -dsimp[hiz];refine Fin.view 8 ?_;simp -dsimp;refine Fin.of ?_;simp
structure uN where
 dl:List (Int×Pk)
 cr:List (Int×Int×BitVec 64)
 ls:List (Int×BitVec 64)
def o_:uN:=⟨[],[],[]⟩
def nextQ(l:List Tb)(q:Int×Pk):List (Int×Pk):=
 match iq l q.1 with
 | none=>[]
 | some b=>(yT b q.2).1.qy
def stepT(l:List Tb)(q:Int×Pk)(t:uN):uN:=
 match iq l q.1 with
 | none=>⟨t.dl,t.cr,t.ls++[(q.1,q.2.bits)]⟩
 | some b=>⟨t.dl++xU q.1 (yT b q.2).1 q.2,t.cr++(yT b q.2).1.qy.map (fun c=>(q.1,c.1,c.2.bits)),if(yT b q.2).1.lost=0#64 then t.ls else t.ls++[(q.1,(yT b q.2).1.lost)]⟩
def lK(l:List Tb):Nat→List (Int×Pk)→uN→uN
 | 0,_,t=>t
 | _+1,[],t=>t
 | n+1,q::qs,t=>lK l n (qs++nextQ l q) (stepT l q t)
def pc(B:BitVec 64):Nat:=(jg B).length
def wt(p:Pk):Nat:=pc p.bits*(2*p.ttl.toNat+1)+1
def wR(l:List (Int×Pk)):Nat:=(l.map fun c=>wt c.2).sum
def oh(l:List Tb)(p:Pk)(r:Int):uN×Int:=
 if tK l≠0∨p.ok=false then(o_,1)else match iq l r with
  | none=>(o_,4)
  | some b=>if p.mode=2 then(o_,7)else if p.gU≠b.sd∨p.len≠b.len then(o_,8)else(lK l (wt p) [(r,p)] o_,0)
theorem Fa(a b:List (Int×Pk)):wR (a++b)=wR a+wR b:=by simp[wR]
theorem BG(q:Int×Pk)(b:List (Int×Pk)):wR (q::b)=wt q.2+wR b:=by rfl
theorem Hg:∀l:List (Int×Pk),l.length≤wR l
 | []=>by simp
 | q::l=>by
   have:=Hg l
   grind[BG,wt]
theorem Lr{α:Type}(p:α→Bool):∀l:List α,(l.filter p).length+(l.filter fun x=>!p x).length=l.length
 | []=>rfl
 | x::l=>by
   have:=Lr p l
   grind
theorem aeb(R M:BitVec 64):jg (R&&&M)=(jg R).filter fun i=>M.getLsbD i:=by simp[jg,ny]
theorem Xp(R M:BitVec 64):jg (R &&& ~~~ M)=(jg R).filter fun i=>!M.getLsbD i:=by
 unfold jg;rw[iM];apply eu;intro i hi;have:i<64:=by simpa using hi
 rw[fA,nG];simp[this,ny]
theorem ahX(R M:BitVec 64):pc (R&&&M)+pc (R &&& ~~~ M)=pc R:=by grind[pc,aeb,Xp,Lr]
theorem anP(B:BitVec 64):pc B≤64:=zF B
theorem aly{B:BitVec 64}(h:B≠0#64):1≤pc B:=by grind[pc,aai]
theorem aj6{p:Pk}{R M:BitVec 64}(h:(sH (p.setB R) M).2=true):wt (sH (p.setB R) M).1≤pc (R&&&M)*(2*p.ttl.toNat):=by
 unfold sH at h⊢;split at h
 ·rename_i hc;obtain⟨h1,h2,h3⟩:=hc;rw[if_pos ⟨h1,h2,h3⟩];have hp:=aly h3;have ht:=yB h1;simp only[Pk.setB]at hp h2 ht;have ht1:(p.ttl-1).toNat=p.ttl.toNat-1:=by omega
  simp only[wt,rZ,Pk.setB,ht1];obtain⟨T,hT⟩:∃T,p.ttl.toNat=T+1:=⟨p.ttl.toNat-1,by omega⟩
  rw[hT,show T+1-1=T by omega,show 2*(T+1)=(2*T+1)+1 by omega,Nat.mul_add _ (2*T+1) 1];omega
 trivial
theorem ac5(b:Tb)(p:Pk):∀(n:Nat) (o:Out) (R:BitVec 64),wR (C_ b p n o R).qy≤wR o.qy+pc R*(2*p.ttl.toNat)
 | 0,o,R=>by simp[C_]
 | n+1,o,R=>by
   rw[C_];split
   ·omega
   ·have ih:=ac5 b p n (uO b p o R) (R &&& ~~~ vJ b p R);refine aY ih ?_;have hs:=ahX R (vJ b p R);have hm:pc (R &&& ~~~ vJ b p R)*(2*p.ttl.toNat)+pc (R&&&vJ b p R)*(2*p.ttl.toNat)=pc R*(2*p.ttl.toNat):=by grind
    by_cases c0:dU b p (tz R)=0
    ·have eO:(uO b p o R).qy=o.qy:=by rw[uO,if_pos c0]
     grind
    by_cases c1:dU b p (tz R)=b.r
    ·have eO:(uO b p o R).qy=o.qy:=by rw[uO,if_neg c0,if_pos c1]
     grind
    have eM:vJ b p R=rQ b p R (dU b p (tz R)):=by rw[vJ,if_neg (fun h=>h.elim c0 c1)]
    by_cases c2:(sH (p.setB R) (rQ b p R (dU b p (tz R)))).2=true
    ·have eO:(uO b p o R).qy=o.qy++[(dU b p (tz R),(sH (p.setB R) (rQ b p R (dU b p (tz R)))).1)]:=by
      rw[uO,if_neg c0,if_neg c1,if_pos c2]
     have hw:=aj6 c2;rw[←eM]at hw
     rw[eO,Fa,BG,←eM];simp only[wR,dY,List.sum_nil]at *;omega
    ·have eO:(uO b p o R).qy=o.qy:=by rw[uO,if_neg c0,if_neg c1,if_neg c2]
     grind
theorem MB(l:List Tb)(q:Int×Pk):wR (nextQ l q)+1≤wt q.2:=by
 have h0:1≤wt q.2:=by simp[wt]
 unfold nextQ;split
 ·trivial
 ·rename_i b _;unfold yT;split
  ·trivial
  split
  ·trivial
  split
  ·trivial
  have h:=ac5 b q.2 64 vZ q.2.bits;have e0:wR vZ.qy=0:=rfl
  grind[vX,wt]
theorem adU{p:Pk}(h:p.ok=true):wt p≤8129:=by
 have h1:=yB h;have h2:=anP p.bits;unfold wt;have h3:2*p.ttl.toNat+1≤127:=by omega
 have:=nK h2 h3;omega
theorem EW(l:List Tb)(n:Nat)(t:uN):lK l n [] t=t:=by cases n<;>rfl
theorem Zk(b:Tb)(p:Pk):∀(n:Nat) (o:Out) (R:BitVec 64),(C_ b p n o R).qy.length≤o.qy.length+n
 | 0,o,R=>by simp[C_]
 | n+1,o,R=>by
   rw[C_];split
   ·omega
   ·have ih:=Zk b p n (uO b p o R) (R &&& ~~~ vJ b p R)
    grind[uO]
theorem LG(b:Tb)(p:Pk):(yT b p).1.qy.length≤64:=by grind[yT,vZ,Zk,vX]
theorem I8(p:Pk):0≤lN p∧lN p≤7:=by grind[lN]
theorem alr{p:Pk}(h:p.ok=true):0≤p.set∧p.set≤31:=by simp only[Pk.ok,yU,aP,decide_eq_true_eq]at h;omega
theorem abG{b:Tb}(hc:chk b=0)(p:Pk)(id:Int):jo b id (lN p)=qc b id (lN p):=by have:=I8 p;rw[jo,if_pos (qw.2 ⟨hc,this,by omega,by omega⟩)]
theorem X8{b:Tb}(hc:chk b=0){p:Pk}(hp:p.ok=true){n:Int}(hn:1≤n∧n≤99):Ci b (lN p) p.set n=qh b (lN p) p.set n b.len.toNat:=by have h1:=I8 p;have h2:=alr hp;rw[ZP,ads,if_pos ⟨qw.2 ⟨hc,h1,h2⟩,hn⟩]
theorem Yd{p:Pk}{R:BitVec 64}(hp:p.ok=true)(hR:∀k<64,R.getLsbD k=true→p.bits.getLsbD k=true):(p.setB R).ok=true:=by
 simp only[Pk.setB]at *;simp only[Pk.ok,aP,yD,decide_eq_true_eq]at hp⊢
 grind
end Go.Proofs

set_option maxRecDepth 100000
set_option maxHeartbeats 16000000
namespace Go.Tr
open Go
theorem GS.WB{A:jL}{l:List (Pl×It)}(p:Pl)(j id:Nat){cs:List TV}(e z:Nat)(hs:vY p=true)(hp:look l p = .box cs)(hj:cs[j]? = some (.c (.slice none 0 0)))(ho:look l (.o id) = .none):
  GS A (look l) (look (oC p (.box (cs.set j (.bK id 0))) (oC (.o id) (.row e z [] false) l))):=by
 have:=GS.ownB (A:=A) (id:=id) e z (fun k e=>by subst e;simp[vY]at hs) hp hj ho;rw[lZ,lZ]at this
 exact this
theorem GS.asL{A:jL}{l:List (Pl×It)}(id:Nat){k:Nat}{e:TypeId}{es:List (List TV)}(ht:look l (.o id) = .row e k es false)(hn:0<es.length):GS A (look l) (look (oC (.o id) (.yj e k es) l)):=by
 have:=GS.yj (A:=A) ht hn;rw[lZ]at this
 exact this
theorem It.ahQ(po:Nat→Prop)(e:TypeId)(k:Nat)(es:List (List TV)):It.only po (.yj e k es)=m_ po es:=rfl
attribute [simp] It.ahQ
theorem GS.cut'{A:jL}{l l':List (Pl×It)}(s id:Nat){n j k:Nat}{e:TypeId}(xs:List (List D))(hs:look l (.s s) = .v (.Qg id n j))(ht:look l (.o id) = .yj e k (dd xs))(hn:n=xs.length)(hj:j≤n)
  (h:Sub (look l) (Xy s id l')∧qE (Xy s id l')=qE l) (hid:id∉sG (Xy s id l'))
  (h':Sub (look (oC (.s s) (.v (.bK id (n-j))) (oC (.o id) (.yj e k (dd (xs.drop j))) (Xy s id l')))) l'∧qE l'=qE (oC (.s s) (.v (.bK id (n-j))) (oC (.o id) (.yj e k (dd (xs.drop j))) (Xy s id l')))):GS A (look l) (look l'):=
 GS.cut (Xy s id l') s id hs ht hn hj h hid h'
end Go.Tr
namespace Go.Proofs
open Go Go.Tr
def yH(x:Int×Int×BitVec 64):List D:=[.int .i64 x.1,.int .i64 x.2.1,bv x.2.2]
def Bq(x:Int×BitVec 64):List D:=[.int .i64 x.1,bv x.2]
def C9(t:uN):TV:=.agg [.d (.sl (t.dl.map uH)),.d (.sl (t.cr.map yH)),.d (.sl (t.ls.map Bq))]
theorem anT(l:List Tb)(hl:UY l)(p:Pk)(r:Int):Contract Tryz.prog 250 [.d (.sl (ig l)),mM p,.d (.int .i64 r)] [] (.sZ [C9 (oh l p r).1,.d (.int .i64 (oh l p r).2)]) [] []:=by
 have hck:=agj l hl;have hv:=Iy p;have hf:=abt l hl r;simp only[mM,Pk.cs,List.map]at hv;refine aC Tryz.func250 rfl (fun E0=>?_);refine iK.sound (g:=.mk) (ow:=[60]) (kp:=(kb 0x1e00200000002000800008440404ffd7)) ?_
 rw[Tryz.ntmps250];simp -dsimp[mM,Pk.cs];try refine⟨?_,⟨by kernel_rfl⟩⟩
 refine aF.of hck [] 0 ?_;by_cases h1:tK l=0
 rotate_left
 ·simp -dsimp[h1];try refine⟨?_,⟨by kernel_rfl⟩⟩
  refine Fin.box (.o 6) rfl ?_;simp -dsimp;refine Fin.of ?_;simp[oh,h1,C9,o_]
 simp -dsimp[h1];try refine⟨?_,⟨by kernel_rfl⟩⟩
 refine aF.of hv [] 0 ?_;rcases (au p.ok).symm with h2|h2
 ·simp -dsimp[h2];try refine⟨?_,⟨by kernel_rfl⟩⟩
  refine Fin.box (.o 6) rfl ?_;simp -dsimp;refine Fin.of ?_;simp[oh,C9,o_,h1,h2]
 cases hfd:iq l r with
 | none=>
   rw[hfd]at hf
   simp only[rY,jf,jK,tb0,gQ]at hf;simp -dsimp[h2];try refine⟨?_,⟨by kernel_rfl⟩⟩
   refine aF.of hf [] 0 ?_;simp -dsimp;try refine⟨?_,⟨by kernel_rfl⟩⟩
   refine Fin.box (.o 6) rfl ?_;simp -dsimp;refine Fin.of ?_;simp[oh,C9,o_,h1,h2,hfd]
 | some b=>
   rw[hfd]at hf
   simp only[rY,bf,kU,gQ]at hf;simp -dsimp[h2];try refine⟨?_,⟨by kernel_rfl⟩⟩
   refine aF.of hf [] 0 ?_;by_cases h3:p.mode=2
   ·simp -dsimp[eq_true h3];try refine⟨?_,⟨by kernel_rfl⟩⟩
    refine Fin.box (.o 6) rfl ?_;simp -dsimp;refine Fin.of ?_;simp[oh,C9,o_,h1,h2,hfd,h3]
   by_cases h4:p.gU=b.sd
   rotate_left
   ·simp -dsimp[h3,h4];try refine⟨?_,⟨by kernel_rfl⟩⟩
    refine Fin.box (.o 6) rfl ?_;simp -dsimp;refine Fin.of ?_;simp[oh,C9,o_,h1,h2,hfd,h3,h4]
   by_cases h5:p.len=b.len
   rotate_left
   ·simp -dsimp[h3,eq_true h4,h5];try refine⟨?_,⟨by kernel_rfl⟩⟩
    refine Fin.box (.o 6) rfl ?_;simp -dsimp;refine Fin.of ?_;simp[oh,C9,o_,h1,h2,hfd,h3,h4,h5]
   simp -dsimp[h3,eq_true h4,eq_true h5];try refine⟨?_,⟨by kernel_rfl⟩⟩
   have hr:oh l p r=(lK l (wt p) [(r,p)] o_,0):=by simp[oh,h1,h2,hfd,h3,h4,h5]
   have hwt:=adU h2;rw[hr];have ZB:wR [(r,p)]=wt p:=by simp[wR]
   refine bY.of [60] (kb 0x1e00200000002000800008440404ffd7) (ι:={z:Nat×List (Int×Pk)×uN // lK l (wt p) [(r,p)] o_=lK l z.1 z.2.1 z.2.2∧wR z.2.1≤z.1∧z.1≤8129∧z.2.2.dl.length+64*z.1≤600000∧z.2.2.cr.length+64*z.1≤600000∧z.2.2.ls.length+z.1≤600000})
    (fun z=>[(.s 0,It.v (.d (.sl (ig l)))),(.o 6,It.box [TV.c (Value.slice none 0 0),TV.c (Value.slice none 0 0),TV.c (Value.slice none 0 0)]),(.s 6,It.v (.ptr (.o 6) 0)),(.s 7,It.v (.d (.int .i64 0))),
     (.o 10,It.box [TV.bK 70 z.1.2.2.dl.length,TV.bK 71 z.1.2.2.cr.length,TV.bK 72 z.1.2.2.ls.length]),(.s 10,It.v (.ptr (.o 10) 0)),
     (.o 70,It.row 92 11 (dd (z.1.2.2.dl.map uH)) false),(.o 71,It.row 96 3 (dd (z.1.2.2.cr.map yH)) false),(.o 72,It.row 176 2 (dd (z.1.2.2.ls.map Bq)) false),
     (.o 60,It.yj 292 11 (dd (z.1.2.1.map uH))),(.s 11,It.v (.bK 60 z.1.2.1.length))])
    (fun z=>z.1.1) ⟨(wt p,[(r,p)],o_),rfl,by simp only[ZB];omega,hwt,by simp[o_];omega,by simp[o_];omega,by simp[o_];omega⟩ ?_ ?_
   ·have avK:∀(a b c:TV),[a,b,c].set 0 (TV.bK 70 0) = [TV.bK 70 0,b,c]:=fun _ _ _=>rfl
    refine(GS.asL 60 (e:=292) (k:=11) (es:=dd ([(r,p)].map uH)) (by simp[uH,Pk.cs]) (by simp)).trans ?_;simp only[oC,Pl.o.injEq,reduceCtorEq,if_false,if_true,Nat.reduceEqDiff];refine(GS.WB (.o 10) 0 70 (cs:=[.c (.slice none 0 0),.c (.slice none 0 0),.c (.slice none 0 0)]) 92 11 (by simp) (by simp) (by simp) (by simp)).trans ?_
    simp only[oC,Pl.o.injEq,reduceCtorEq,if_false,if_true,Nat.reduceEqDiff,List.set];refine(GS.WB (.o 10) 1 71 (cs:=[.bK 70 0,.c (.slice none 0 0),.c (.slice none 0 0)]) 96 3 (by simp) (by simp) (by simp) (by simp)).trans ?_;simp only[oC,Pl.o.injEq,reduceCtorEq,if_false,if_true,Nat.reduceEqDiff,List.set]
    exact GS.AV (.o 10) 2 72 (cs:=[.bK 70 0,.bK 71 0,.c (.slice none 0 0)]) 176 2 (by simp) (by simp) (by simp) (by simp) (by simp[o_])
   ·rintro⟨⟨n,Q,t⟩,i1,i2,i3,i4,i5,i6⟩;simp only at i1 i2 i3 i4 i5 i6;cases Q with
    | nil=>
      have e:lK l (wt p) [(r,p)] o_=t:=by rw[i1,EW]
      simp -dsimp;refine Fin.box (.o 6) rfl ?_;simp -dsimp;refine Fin.of ?_;simp[C9,e]
    | cons q Q=>
      obtain⟨q1,q2⟩:=q;rw[BG]at i2
      have hq:=MB l (q1,q2);have hw1:1≤wt q2:=by unfold wt;omega
      simp only at i2 hq;obtain⟨n,rfl⟩:∃j,n=j+1:=⟨n-1,by omega⟩
      rw[lK]at i1
      have hQl:=Hg Q;have V5:=abt l hl q1;simp -dsimp[uH,Pk.cs];and_intros;all_goals try first|omega|exact⟨by kernel_rfl⟩
      cases abz:iq l q1 with
      | none=>
        have eN:nextQ l (q1,q2) = []:=by simp[nextQ,abz]
        have eS:stepT l (q1,q2) t=⟨t.dl,t.cr,t.ls++[(q1,q2.bits)]⟩:=by simp[stepT,abz]
        rw[eN,eS,aZ]at i1
        rw[abz]at V5
        simp only[rY,jf,jK,tb0,gQ]at V5;refine aF.of V5 [] 0 ?_;simp -dsimp;and_intros;all_goals try first|omega|exact⟨by kernel_rfl⟩
        refine⟨⟨(n,Q,⟨t.dl,t.cr,t.ls++[(q1,q2.bits)]⟩),i1,by simp only;omega,by simp only;omega,by simp only;omega,by simp only;omega,by simp only[aS,aT,eY];omega⟩,?_,by simp⟩;refine GS.cut' 11 60 (n:=Q.length+1) (j:=1) (k:=11) (e:=292) (((q1,q2)::Q).map uH) (by simp) (by simp[uH,Pk.cs]) (by simp) (by simp) (by simp[Bq,bv]) (by simp) (by simp[Bq,bv])
      | some b2=>
        have hb2:b2.Sm:=hl.t b2 (gG abz);have eN:nextQ l (q1,q2)=(yT b2 q2).1.qy:=by simp[nextQ,abz]
        have eS:stepT l (q1,q2) t=⟨t.dl++xU q1 (yT b2 q2).1 q2,t.cr++(yT b2 q2).1.qy.map (fun c=>(q1,c.1,c.2.bits)),if(yT b2 q2).1.lost=0#64 then t.ls else t.ls++[(q1,(yT b2 q2).1.lost)]⟩:=by simp[stepT,abz]
        rw[eN,eS]at i1
        rw[eN]at hq
        have hcl:=LG b2 q2;have hfp:=aeC b2 hb2 q2;have hlc:=agJ b2 q1 (yT b2 q2).1 q2;have hll:(xU q1 (yT b2 q2).1 q2).length≤64:=by unfold xU;rw[aN];exact tZ _
        rw[abz]at V5
        simp only[rY,bf,kU,gQ]at V5;generalize yT b2 q2=F at i1 hq hcl hfp hlc hll;obtain⟨o,er⟩:=F;simp only at i1 hq hcl hfp hlc hll;generalize xU q1 o q2=LV at i1 hlc hll;have hdl:dLen 11 (LV.map uH):=mO 11 _ _ fun _=>rfl
        obtain⟨afj,Gh,jT⟩:=o;simp only at i1 hq hcl;have hCl:(jT.map fun c=>(q1,c.1,c.2.bits)).length=jT.length:=by simp
        have hCg:∀(j:Nat) (c:Int×Pk),jT[j]? = some c→(jT.map fun c=>(q1,c.1,c.2.bits))[j]? = some (q1,c.1,c.2.bits):=fun j c h=>by simp[h]
        generalize (jT.map fun c=>(q1,c.1,c.2.bits))=Gf at i1 hCl hCg;simp only[gQ,mM,Pk.cs,List.map,outT,bv]at hfp hlc;refine aF.of V5 [] 0 ?_;simp -dsimp;try refine⟨?_,⟨by kernel_rfl⟩⟩
        refine aF.of hfp [] 0 ?_;simp -dsimp;try refine⟨?_,⟨by kernel_rfl⟩⟩
        try refine⟨rfl,?_⟩
        try refine⟨?_,⟨by kernel_rfl⟩⟩
        refine aF.of hlc [] 0 ?_;by_cases c0:Gh=0#64
        ·simp -dsimp[c0];and_intros;all_goals try first|omega|exact hdl|exact rfl|exact⟨by kernel_rfl⟩
         refine bY.of [60] (kb 0x1e00200000002000800008440404ffd7) (ι:={j:Nat // j≤jT.length})
          (fun j=>[(.s 0,It.v (.d (.sl (ig l)))),(.o 6,It.box [TV.c (Value.slice none 0 0),TV.c (Value.slice none 0 0),TV.c (Value.slice none 0 0)]),(.s 6,It.v (.ptr (.o 6) 0)),(.s 7,It.v (.d (.int .i64 0))),
           (.o 10,It.box [TV.bK 70 (t.dl.length+LV.length),TV.bK 71 (t.cr.length+j.1),TV.bK 72 t.ls.length]),(.s 10,It.v (.ptr (.o 10) 0)),
           (.o 70,It.row 92 11 (dd (t.dl.map uH)++dd (LV.map uH)) false),(.o 71,It.row 96 3 (dd (t.cr.map yH)++dd (List.take j.1 (Gf.map yH))) false),(.o 72,It.row 176 2 (dd (t.ls.map Bq)) false),
           (.o 60,It.yj 292 11 (dd (Q.map uH)++dd (List.take j.1 (jT.map uH)))),(.s 11,It.v (.bK 60 (Q.length+j.1))),
           (.o 12,It.box (TV.d (.int .i64 q1)::q2.cs.map .d)),(.s 12,It.v (.ptr (.o 12) 0)),
           (.s 121,It.v (.d (.sl (List.map Jb jT)))),(.s 122,It.v (.d (.int .i64 jT.length))),(.s 123,It.v (.d (.int .i64 j.1)))])
          (fun j=>jT.length-j.1) ⟨0,by omega⟩ ?_ ?_
         ·exact GS.cut' 11 60 (n:=Q.length+1) (j:=1) (k:=11) (e:=292) (((q1,q2)::Q).map uH) (by simp) (by simp[uH,Pk.cs]) (by simp) (by simp) (by simp[Bq,bv,Pk.cs]) (by simp) (by simp[Bq,bv,Pk.cs])
         ·rintro⟨j,j1⟩;by_cases hj:j<jT.length
          ·have hjz:(j:Int)<jT.length:=by omega
           have hg:jT[j]? = some jT[j]:=ah hj;have hcg:=hCg j _ hg;generalize jT[j]=c at hg hcg;obtain⟨c1,c2⟩:=c;have hn1:dd (List.take (j+1) (Gf.map yH))=dd (List.take j (Gf.map yH))++[[TV.d (.int .i64 q1),TV.d (.int .i64 c1),TV.d (bv c2.bits)]]:=by rw[aO,bC,hcg];simp[dd,yH]
           have hn2:dd (List.take (j+1) (jT.map uH))=dd (List.take j (jT.map uH))++[TV.d (.int .i64 c1)::c2.cs.map .d]:=by rw[aO,bC,hg];simp[dd,uH]
           simp[Pk.cs]at hn2
           have hm1:min j Gf.length=j:=by omega
           have hm2:min j jT.length=j:=by omega
           simp -dsimp[hg,hjz,Jb,Pk.cs,hm1,hm2,wrap_i64 (n:=(j:Int)+1) (by omega) (by omega)];and_intros;all_goals try first|omega|exact⟨by kernel_rfl⟩
           exact⟨⟨j+1,by omega⟩,GS.to (by simp[hn1,hn2,Pk.cs,aX]),by simp;omega⟩
          ·have hjz :¬(j:Int)<jT.length:=by omega
           obtain rfl:j=jT.length:=by omega
           have ht1:List.take jT.length (Gf.map yH)=Gf.map yH:=aW (by simp;omega);have ht2:List.take jT.length (jT.map uH)=jT.map uH:=aW (by simp);simp -dsimp[hjz];try refine⟨?_,⟨by kernel_rfl⟩⟩
           exact⟨⟨(n,Q++jT,_),i1,by simp only[Fa];omega,by simp only;omega,by simp only[aS];omega,by simp only[aS,hCl];omega,by simp only[c0,if_true];omega⟩,GS.to (by simp[ht1,ht2,c0,hCl,Bq,bv]),by simp⟩
        ·simp -dsimp[c0];and_intros;all_goals try first|omega|exact hdl|exact rfl|exact⟨by kernel_rfl⟩
         refine bY.of [60] (kb 0x1e00200000002000800008440404ffd7) (ι:={j:Nat // j≤jT.length})
          (fun j=>[(.s 0,It.v (.d (.sl (ig l)))),(.o 6,It.box [TV.c (Value.slice none 0 0),TV.c (Value.slice none 0 0),TV.c (Value.slice none 0 0)]),(.s 6,It.v (.ptr (.o 6) 0)),(.s 7,It.v (.d (.int .i64 0))),
           (.o 10,It.box [TV.bK 70 (t.dl.length+LV.length),TV.bK 71 (t.cr.length+j.1),TV.bK 72 (t.ls.length+1)]),(.s 10,It.v (.ptr (.o 10) 0)),
           (.o 70,It.row 92 11 (dd (t.dl.map uH)++dd (LV.map uH)) false),(.o 71,It.row 96 3 (dd (t.cr.map yH)++dd (List.take j.1 (Gf.map yH))) false),(.o 72,It.row 176 2 (dd (t.ls.map Bq)++[[TV.d (.int .i64 q1),TV.d (bv Gh)]]) false),
           (.o 60,It.yj 292 11 (dd (Q.map uH)++dd (List.take j.1 (jT.map uH)))),(.s 11,It.v (.bK 60 (Q.length+j.1))),
           (.o 12,It.box (TV.d (.int .i64 q1)::q2.cs.map .d)),(.s 12,It.v (.ptr (.o 12) 0)),
           (.s 121,It.v (.d (.sl (List.map Jb jT)))),(.s 122,It.v (.d (.int .i64 jT.length))),(.s 123,It.v (.d (.int .i64 j.1)))])
          (fun j=>jT.length-j.1) ⟨0,by omega⟩ ?_ ?_
         ·exact GS.cut' 11 60 (n:=Q.length+1) (j:=1) (k:=11) (e:=292) (((q1,q2)::Q).map uH) (by simp) (by simp[uH,Pk.cs]) (by simp) (by simp) (by simp[Bq,bv,Pk.cs]) (by simp) (by simp[Bq,bv,Pk.cs])
         ·rintro⟨j,j1⟩;by_cases hj:j<jT.length
          ·have hjz:(j:Int)<jT.length:=by omega
           have hg:jT[j]? = some jT[j]:=ah hj;have hcg:=hCg j _ hg;generalize jT[j]=c at hg hcg;obtain⟨c1,c2⟩:=c;have hn1:dd (List.take (j+1) (Gf.map yH))=dd (List.take j (Gf.map yH))++[[TV.d (.int .i64 q1),TV.d (.int .i64 c1),TV.d (bv c2.bits)]]:=by rw[aO,bC,hcg];simp[dd,yH]
           have hn2:dd (List.take (j+1) (jT.map uH))=dd (List.take j (jT.map uH))++[TV.d (.int .i64 c1)::c2.cs.map .d]:=by rw[aO,bC,hg];simp[dd,uH]
           simp[Pk.cs]at hn2
           have hm1:min j Gf.length=j:=by omega
           have hm2:min j jT.length=j:=by omega
           simp -dsimp[hg,hjz,Jb,Pk.cs,hm1,hm2,wrap_i64 (n:=(j:Int)+1) (by omega) (by omega)];and_intros;all_goals try first|omega|exact⟨by kernel_rfl⟩
           exact⟨⟨j+1,by omega⟩,GS.to (by simp[hn1,hn2,Pk.cs,aX]),by simp;omega⟩
          ·have hjz :¬(j:Int)<jT.length:=by omega
           obtain rfl:j=jT.length:=by omega
           have ht1:List.take jT.length (Gf.map yH)=Gf.map yH:=aW (by simp;omega);have ht2:List.take jT.length (jT.map uH)=jT.map uH:=aW (by simp);simp -dsimp[hjz];try refine⟨?_,⟨by kernel_rfl⟩⟩
           exact⟨⟨(n,Q++jT,_),i1,by simp only[Fa];omega,by simp only;omega,by simp only[aS];omega,by simp only[aS,hCl];omega,by simp only[c0,if_false,aS,aT,eY];omega⟩,GS.to (by simp[ht1,ht2,c0,hCl,Bq,bv]),by simp⟩
end Go.Proofs
