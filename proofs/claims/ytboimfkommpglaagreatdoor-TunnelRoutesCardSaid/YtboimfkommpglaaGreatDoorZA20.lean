/-
  What functions of the program compute, stated as contracts over plain data; the conditions of each stand in its own statement.
-/
import Derived.Test.YtboimfkommpglaaGreatDoorZA14
import Derived.Test.YtboimfkommpglaaGreatDoorZA19
import Derived.Test.YtboimfkommpglaaGreatDoorZA17
import Derived.Test.YtboimfkommpglaaGreatDoorZA12
import Derived.Test.YtboimfkommpglaaGreatDoorZA11
set_option linter.unusedSimpArgs false
namespace Go.Proofs
open Go Go.Tr
theorem aj7(set bit len:Int):Contract Tryz.prog 183 [.d (.int .i64 set),.d (.int .i64 bit),.d (.int .i64 len)] [] (zD set bit len) [] []:=by
 refine aj Tryz.func183 rfl (fun E0=>?_);refine cO.sound (g:=.mk) (ow:=[]) (kp:=(fun k=>k==0||k==1||k==2||k==6||k==7||k==8||k==23||k==31)) ?_;rw[Tryz.ntmps183];simp -dsimp;refine ah.of (qH len) [] 0 ?_;rcases (Bool.eq_false_or_eq_true (aG len)).symm with a1|a1
 ·simp -dsimp[a1];try refine⟨?_,⟨by kernel_rfl⟩⟩
  refine Fin.of ?_;simp[zD,Ej,a1]
 ·have hl:len=8∨len=16∨len=32∨len=64:=by simp[aG]at a1;omega
  simp -dsimp[a1,wrap_i64 (n:=len-1) (by omega) (by omega)];refine ah.of (aat bit 0 (len-1)) [] 0 ?_;rcases (Bool.eq_false_or_eq_true (inB bit 0 (len-1))).symm with a2|a2
  ·simp -dsimp[a1,a2];try refine⟨?_,⟨by kernel_rfl⟩⟩
   refine Fin.of ?_;simp[zD,Ej,a1,a2]
  ·simp -dsimp[a1,a2];refine ah.of (aat set 0 31) [] 0 ?_;rcases (Bool.eq_false_or_eq_true (inB set 0 31)).symm with a3|a3
   ·simp -dsimp[a1,a2,a3];try refine⟨?_,⟨by kernel_rfl⟩⟩
    refine Fin.of ?_;simp[zD,Ej,a1,a2,a3]
   ·have b2:0≤bit∧bit≤len-1:=by simpa[inB]using a2
    have b3:0≤set∧set≤31:=by simpa[inB]using a3
    have b4:0≤set*len∧set*len≤1984:=by rcases hl with rfl|rfl|rfl|rfl<;>omega
    by_cases a4:set*len+bit+1≤256
    ·have a5 :¬256<set*len+bit+1:=by omega
     simp -dsimp[a1,a2,a3,a4,a5,wrap_i64 (n:=set*len) (by omega) (by omega),wrap_i64 (n:=set*len+bit) (by omega) (by omega),wrap_i64 (n:=set*len+bit+1) (by omega) (by omega)];try refine⟨?_,⟨by kernel_rfl⟩⟩
     refine Fin.of ?_;simp[zD,Ej,a1,a2,a3,a4]
    ·have a5:256<set*len+bit+1:=by omega
     simp -dsimp[a1,a2,a3,a4,a5,wrap_i64 (n:=set*len) (by omega) (by omega),wrap_i64 (n:=set*len+bit) (by omega) (by omega),wrap_i64 (n:=set*len+bit+1) (by omega) (by omega)];try refine⟨?_,⟨by kernel_rfl⟩⟩
     refine Fin.of ?_;simp[zD,Ej,a1,a2,a3,a4]
def kX(p:Pk):Int:=if p.ok=true then p.ent%8 else 0
theorem Tj{p:Pk}(h:p.ok=true):0≤p.ent∧p.ent≤1023:=by
 simp only[Pk.ok,wS,Bool.and_eq_true,decide_eq_true_eq]at h;omega
theorem ahu(p:Pk):Contract Tryz.prog 181 [dX p] [] (.d (.int .i64 (kX p))) [] []:=by
 refine aj Tryz.func181 rfl (fun E0=>?_);refine cO.sound (g:=.mk) (ow:=[]) (kp:=(fun k=>k==0||k==1||k==2||k==5)) ?_;rw[Tryz.ntmps181];have hv:=FU p;simp only[dX,Pk.cs,List.map]at hv;simp -dsimp[dX,Pk.cs];refine ah.of hv [] 0 ?_;rcases (Bool.eq_false_or_eq_true p.ok).symm with a1|a1
 ·simp -dsimp[a1];refine Fin.of ?_;simp[kX,a1]
 ·have h:=Tj a1;simp -dsimp[a1,wrap_i64 (n:=p.ent%8) (by omega) (by omega),Int.tmod_eq_emod_of_nonneg h.1];refine Fin.of ?_;simp[kX,a1]
def ji(p:Pk)(m:BitVec 64):Pk:=⟨p.mode,p.bF,p.set,p.len,p.ttl-1,p.ent,p.ing,p.proto,p.bits&&&m,p.pay⟩
def Bh:Pk:=⟨0,0,0,0,0,0,0,0,0#64,⟨#[]⟩⟩
def jg(p:Pk)(m:BitVec 64):Pk×Bool:=if p.ok=true∧p.ttl≠0∧p.bits&&&m≠0#64 then(ji p m,true)else(Bh,false)
theorem qA{p:Pk}(h:p.ok=true):0≤p.ttl∧p.ttl≤63:=by
 simp only[Pk.ok,wS,Bool.and_eq_true,decide_eq_true_eq]at h;omega
theorem afm(p:Pk)(m:BitVec 64):Contract Tryz.prog 185 [dX p,.d (bv m)] [] (.rG [dX (jg p m).1,.d (.bool (jg p m).2)]) [] []:=by
 refine aj Tryz.func185 rfl (fun E0=>?_);refine cO.sound (g:=.mk) (ow:=[]) (kp:=(fun k=>k==0||k==1||k==2||k==4||k==5||k==20)) ?_;rw[Tryz.ntmps185];have hv:=FU p;simp only[dX,Pk.cs,List.map,bv]at hv;simp -dsimp[dX,Pk.cs,bv];refine ah.of hv [] 0 ?_;rcases (Bool.eq_false_or_eq_true p.ok).symm with a1|a1
 ·simp -dsimp[a1];refine Fin.of ?_;simp[jg,a1,Bh,dX,Pk.cs,bv]
 ·have h:=qA a1;by_cases a2:p.ttl=0
  ·simp -dsimp[a1,a2];refine Fin.of ?_;simp[jg,a2,Bh,dX,Pk.cs,bv]
  by_cases a3:p.bits&&&m=0#64
  ·simp -dsimp[a1,a2,a3];refine Fin.of ?_;simp[jg,a3,Bh,dX,Pk.cs,bv]
  simp -dsimp[a1,a2,a3,wrap_i64 (n:=p.ttl-1) (by omega) (by omega)];refine Fin.of ?_;simp[jg,a1,a2,a3,ji,dX,Pk.cs,bv]
def f_(p:Pk)(k:Int):Pk:=if p.ok=true∧0≤k∧k≤63∧p.bits.getLsbD k.toNat=true then ⟨p.mode,p.bF,p.set,p.len,p.ttl,p.ent,p.ing,p.proto,1#64<<<k.toNat,p.pay⟩else Bh
theorem ai9(p:Pk)(k:Int):Contract Tryz.prog 241 [dX p,.d (.int .i64 k)] [] (dX (f_ p k)) [] []:=by
 refine aj Tryz.func241 rfl (fun E0=>?_);refine cO.sound (g:=.mk) (ow:=[]) (kp:=(fun k=>k==0||k==1||k==2||k==4||k==23)) ?_;rw[Tryz.ntmps241];have hv:=FU p;simp only[dX,Pk.cs,List.map,bv]at hv;simp -dsimp[dX,Pk.cs,bv];refine ah.of hv [] 0 ?_;rcases (Bool.eq_false_or_eq_true p.ok).symm with a1|a1
 ·simp -dsimp[a1];refine Fin.of ?_;simp[f_,a1,Bh,dX,Pk.cs,bv]
 ·by_cases a2:k<0
  ·simp -dsimp[a1,a2];refine Fin.of ?_;have :¬0≤k:=by omega
   simp[f_,this,Bh,dX,Pk.cs,bv]
  by_cases a3:63<k
  ·simp -dsimp[a1,a2,a3];refine Fin.of ?_;have :¬k≤63:=by omega
   simp[f_,this,Bh,dX,Pk.cs,bv]
  have a4:0≤k:=by omega
  have a5:k≤63:=by omega
  simp -dsimp[a1,a2,a3,a4];have hb:(p.bits>>>k.toNat&&&1#64=0#64)↔p.bits.getLsbD k.toNat=false:=by
   rw[BitVec.and_one_eq_setWidth_ofBool_getLsbD,BitVec.getLsbD_ushiftRight,Nat.add_zero];cases p.bits.getLsbD k.toNat<;>decide
  refine qM.dec (fun g=>?_) (fun g=>?_)
  ·simp -dsimp;refine Fin.of ?_;simp[f_,hb.1 g,Bh,dX,Pk.cs,bv]
  ·have g':p.bits.getLsbD k.toNat=true:=by
    cases h:p.bits.getLsbD k.toNat with
    | true=>rfl
    | false=>exact absurd (by simpa using hb.2 h) g
   simp -dsimp[a4];refine Fin.of ?_;simp[f_,a1,a4,a5,g',dX,Pk.cs,bv]
structure Out where
 loc:BitVec 64
 lost:BitVec 64
 g_:List (Int×Pk)
def iC:Out:=⟨0#64,0#64,[]⟩
def vZ(p:Pk)(k:Nat):Int:=if Ej p.set k p.len=true then p.set*p.len+k+1 else 0
def Pk.setB(p:Pk)(R:BitVec 64):Pk:=⟨p.mode,p.bF,p.set,p.len,p.ttl,p.ent,p.ing,p.proto,R,p.pay⟩
def aF(b:Tb)(p:Pk)(k:Nat):Int:=Aw b (vZ p k) (kX p)
def jR(b:Tb)(p:Pk)(R:BitVec 64)(n:Int):BitVec 64:=R&&&Bl b (kX p) p.set n
def mV(b:Tb)(p:Pk)(o:Out)(R:BitVec 64):Out:=
 if aF b p (tz R)=0 then ⟨o.loc,o.lost|||1#64<<<tz R,o.g_⟩
 else if aF b p (tz R)=b.r then ⟨o.loc|||1#64<<<tz R,o.lost,o.g_⟩
 else if(jg (p.setB R) (jR b p R (aF b p (tz R)))).2=true then ⟨o.loc,o.lost,o.g_++[(aF b p (tz R),(jg (p.setB R) (jR b p R (aF b p (tz R)))).1)]⟩
 else ⟨o.loc,o.lost|||jR b p R (aF b p (tz R)),o.g_⟩
def mQ(b:Tb)(p:Pk)(R:BitVec 64):BitVec 64:=
 if aF b p (tz R)=0∨aF b p (tz R)=b.r then 1#64<<<tz R else jR b p R (aF b p (tz R))
def yx(b:Tb)(p:Pk):Nat→Out→BitVec 64→Out
 | 0,o,_=>o
 | n+1,o,R=>if R=0#64 then o else yx b p n (mV b p o R) (R &&& ~~~ mQ b p R)
def iH(b:Tb)(p:Pk):Out:=yx b p 64 iC p.bits
def jC(b:Tb)(p:Pk):Out×Int:=
 if chk b≠0∨p.ok=false then(iC,1)else if p.mode=2 then(iC,7)else if b.sd≠p.bF∨b.len≠p.len then(iC,8)else(iH b p,0)
theorem Fv{R m:BitVec 64}{k:Nat}(hk:k<64)(h1:R.getLsbD k=true)(h2:m.getLsbD k=true):(ku (R &&& ~~~ m)).length<(ku R).length:=by
 have e:ku (R &&& ~~~ m)=(ku R).filter fun i=>!m.getLsbD i:=by
  unfold ku;rw[List.filter_filter];apply List.filter_congr;intro i hi;have:i<64:=by simpa using hi
  rw[BitVec.getLsbD_and,BitVec.getLsbD_not];simp[this,Bool.and_comm]
 rw[e];refine List.length_filter_lt_length_iff_exists.2 ⟨k,?_,by simp[h2]⟩;simp[ku,hk,h1]
theorem Y2{R:BitVec 64}(h:(ku R).length=0):R=0#64:=Classical.byContradiction fun g=>by
 rw[QN g]at h
 simp at h
theorem D8{p:Pk}(h:p.ok=true):aG p.len=true∧∀k<64,p.bits.getLsbD k=true→(k:Int)<p.len:=by
 simp only[Pk.ok,Bool.and_eq_true,nG,decide_eq_true_eq]at h;obtain⟨_,_,_,_,⟨h1,h2⟩,_⟩:=h;refine⟨h1,fun k hk hb=>?_⟩;have hl:p.len=8∨p.len=16∨p.len=32∨p.len=64:=by simp[aG]at h1;omega
 have h3:=congrArg (fun z=>z.getLsbD k) h2;simp only[BitVec.getLsbD_and,BitVec.getLsbD_not,hb,hk,decide_true,Bool.true_and,BitVec.getLsbD_zero,Bool.not_eq_false',tN,h1,if_true]at h3;rw[zK hk _ (by omega)]at h3
 have:=of_decide_eq_true h3;omega
theorem YD{b:Tb}(h:chk b=0)(p:Int):mG b 0 p=0:=by
 have:rowOf b 0=none:=by
  rw[rowOf,List.find?_eq_none];intro x hx;have:=(yG h x hx).1;simp;omega
 simp[mG,this,og]
theorem BL{b:Tb}(h:chk b=0){id p:Int}(h0:mG b id p≠0):1≤mG b id p∧mG b id p≤99:=by
 unfold mG at h0⊢;have hm:=YC h0;cases hr:rowOf b id with
 | none=>rw[hr]at h0;exact absurd (by simp[og]) h0
 | some x=>
   simp only[hr,Option.getD_some]at hm⊢;exact(yG h x (List.mem_of_find?_eq_some hr)).2 _ hm
theorem EP{b:Tb}{p:Pk}(hc:chk b=0)(hp:p.ok=true)(hl:b.len=p.len){R:BitVec 64}(hR:∀k<64,R.getLsbD k=true→p.bits.getLsbD k=true)(h0:R≠0#64):(mQ b p R).getLsbD (tz R)=true:=by
 obtain⟨t1,t2,_⟩:=xP h0;unfold mQ;split
 ·rw[j_ t1 t1];simp
 ·rename_i hn;have hn0:aF b p (tz R)≠0:=fun e=>hn (.inl e)
  have hk:((tz R:Nat):Int)<p.len:=(D8 hp).2 _ t1 (hR _ t1 t2);have hpl:0≤kX p∧kX p≤7:=by unfold kX;split<;>omega
  have hs:0≤p.set∧p.set≤31:=by
   simp only[Pk.ok,wS,Bool.and_eq_true,decide_eq_true_eq]at hp;omega
  have v0:JU b (kX p) 0=true:=Dy.2 ⟨hc,hpl,by omega,by omega⟩;have vs:JU b (kX p) p.set=true:=Dy.2 ⟨hc,hpl,hs⟩;have ha:Ej p.set (tz R) p.len=true:=Classical.byContradiction fun g=>hn0 (by
   rw[aF,vZ,if_neg g,Aw,if_pos v0];exact YD hc _)
  have hh:aF b p (tz R)=mG b (p.set*p.len+tz R+1) (kX p):=by rw[aF,vZ,if_pos ha,Aw,if_pos v0]
  have hr:=BL hc (hh▸hn0);rw[jR,BitVec.getLsbD_and,t2,Bool.true_and,YP,abW,if_pos ⟨vs,by rw[hh];exact hr⟩];have hlen:b.len≤64:=by
   have:=(D8 hp).1;simp[aG]at this
   omega
  rw[Jq b _ _ _ t1 _ (by omega)];exact⟨by omega,by rw[hl];exact ha,by rw[hh];omega,by rw[hl,hh]⟩
set_option maxRecDepth 100000
set_option maxHeartbeats 8000000
def DI(x:Int×Pk):List D:=.int .i64 x.1 :: .sl []::x.2.cs
def outT(o:Out):TV:=.agg [.d (bv o.loc),.d (bv o.lost),.d (.sl (o.g_.map DI))]
theorem acU(b:Tb)(hb:b.Sm)(p:Pk):Contract Tryz.prog 105 [bZ b,dX p] [] (.rG [outT (jC b p).1,.d (.int .i64 (jC b p).2)]) [] []:=by
 have hck:=Zk b hb.1 hb.2;have hv:=FU p;have hpl:=ahu p;simp only[bZ,dX,Pk.cs,List.map]at hck hv hpl;refine aj Tryz.func105 rfl (fun E0=>?_);refine cO.sound (g:=.mk) (ow:=[]) (kp:=(fun k=>k==0||k==1||k==2||k==3||k==4||k==5||k==6||k==7||k==8||k==9||k==10||k==11||k==13||k==14||k==15||k==16||k==17||k==18||k==28||k==33||k==52||k==70||k==71||k==81||k==110)) ?_
 rw[Tryz.ntmps105];simp -dsimp[bZ,dX,Pk.cs];try refine⟨?_,⟨by kernel_rfl⟩⟩
 refine ah.of hck [] 0 ?_;by_cases h1:chk b=0
 ·simp -dsimp[h1];try refine⟨?_,⟨by kernel_rfl⟩⟩
  refine ah.of hv [] 0 ?_;rcases (Bool.eq_false_or_eq_true p.ok).symm with h2|h2
  ·simp -dsimp[h2];try refine⟨?_,⟨by kernel_rfl⟩⟩
   refine Fin.box (.o 4) rfl ?_;simp -dsimp;refine Fin.of ?_;simp[jC,iC,outT,bv,h1,h2]
  ·by_cases h3:p.mode=2
   ·simp -dsimp[h2,eq_true h3];try refine⟨?_,⟨by kernel_rfl⟩⟩
    refine Fin.box (.o 4) rfl ?_;simp -dsimp;refine Fin.of ?_;simp[jC,iC,outT,bv,h1,h2,h3]
   ·by_cases h4:b.sd=p.bF
    ·by_cases h5:b.len=p.len
     ·simp -dsimp[h2,h3,eq_true h4,eq_true h5];try refine⟨?_,⟨by kernel_rfl⟩⟩
      refine ah.of hpl [] 0 ?_;simp -dsimp;try refine⟨?_,⟨by kernel_rfl⟩⟩
      refine aN.of [] (fun k=>k==0||k==1||k==2||k==3||k==4||k==5||k==6||k==7||k==8||k==9||k==10||k==11||k==13||k==14||k==15||k==16||k==17||k==18||k==28||k==33||k==52||k==70||k==71||k==81||k==110) (ι:={z:Nat×Out×BitVec 64 // iH b p=yx b p z.1 z.2.1 z.2.2∧(ku z.2.2).length≤z.1∧z.2.1.g_.length+z.1≤64∧∀k<64,z.2.2.getLsbD k=true→p.bits.getLsbD k=true})
       (fun z=>[(Pl.o 2,It.box [TV.d (.int .i64 b.r),TV.d (.int .i64 b.sd),TV.d (.int .i64 b.len),TV.d (bV b.rows)]),(Pl.s 2,It.v (.ptr (Pl.o 2) 0)),
        (Pl.o 3,It.box (p.cs.map .d)),(Pl.s 3,It.v (.ptr (Pl.o 3) 0)),
        (Pl.o 4,It.box [TV.d (.int IntKind.u64 0),TV.d (.int IntKind.u64 0),TV.c (Value.slice none 0 0)]),(Pl.s 4,It.v (.ptr (Pl.o 4) 0)),(Pl.s 5,It.v (.d (.int .i64 0))),
        (Pl.s 6,It.v (.d (.int .i64 (kX p)))),
        (Pl.o 7,It.box [TV.d (.int IntKind.u64 (tn z.1.2.1.loc)),TV.d (.int IntKind.u64 (tn z.1.2.1.lost)),TV.aB 50 z.1.2.1.g_.length]),(Pl.s 7,It.v (.ptr (Pl.o 7) 0)),
        (Pl.o 50,It.row 29 12 (dd (z.1.2.1.g_.map DI)) false),(Pl.s 8,It.v (.d (.int IntKind.u64 (tn z.1.2.2))))])
       (fun z=>z.1.1) ⟨(64,iC,p.bits),rfl,xY _,by simp[iC],fun _ _ h=>h⟩ ?_ ?_
      ·exact GS.gq (.o 7) 2 50 (cs:=[TV.d (.int IntKind.u64 0),TV.d (.int IntKind.u64 0),TV.c (Value.slice none 0 0)]) 29 12 (by simp) (by simp) (by simp) (by simp) (by simp[iC,Pk.cs,bv])
      ·rintro⟨⟨n,o,R⟩,i1,i2,i3,i4⟩;simp only at i1 i2 i3 i4;by_cases h0:R=0#64
       ·subst h0;have e:iH b p=o:=by rw[i1];cases n<;>simp[yx]
        have e2:jC b p=(o,0):=by simp[jC,h1,h2,h3,h4,h5,e]
        rw[e2];simp -dsimp;try refine⟨?_,⟨by kernel_rfl⟩⟩
        refine Fin.box (.o 4) rfl ?_;simp -dsimp;refine Fin.of ?_;simp[outT,bv]
       ·have hf:=abC R;have e:jF R=(tz R:Int):=by simp[jF,h0]
        rw[e]at hf
        simp only[bv]at hf;obtain⟨t1,t2,t3⟩:=xP h0;have hat:=aj7 p.set (tz R) p.len;simp only[zD]at hat;have hnx:=ahn b hb (vZ p (tz R)) (kX p);have hho:Aw b (vZ p (tz R)) (kX p)=aF b p (tz R):=rfl;rw[hho]at hnx
        have hid:(if Ej p.set (tz R) p.len=true then p.set*p.len+(tz R:Int)+1 else 0)=vZ p (tz R):=rfl;simp only[hid]at hat;simp only[bZ]at hnx;simp -dsimp[h0];try refine⟨?_,⟨by kernel_rfl⟩⟩
        refine ah.of hf [] 0 ?_;have hmb:=EP h1 h2 h5 i4 h0;have hpop:=Fv t1 t2 hmb;have hmk:=ai2 b hb (kX p) p.set (aF b p (tz R));have hto:jR b p R (aF b p (tz R))=R&&&Bl b (kX p) p.set (aF b p (tz R)):=rfl;have hms:=afm (p.setB R) (jR b p R (aF b p (tz R)));simp only[bZ,bv]at hmk
        obtain⟨Q,hQ⟩:∃Q,jg (p.setB R) (jR b p R (aF b p (tz R)))=Q:=⟨_,rfl⟩
        rw[hQ]at hms
        simp only[dX,Pk.cs,Pk.setB,List.map,bv]at hms;obtain⟨n,rfl⟩:∃j,n=j+1:=⟨n-1,by omega⟩
        have hstep:iH b p=yx b p n (mV b p o R) (R &&& ~~~ mQ b p R):=by rw[i1,yx,if_neg h0]
        have hsub:∀k<64,(R &&& ~~~ mQ b p R).getLsbD k=true→p.bits.getLsbD k=true:=fun k hk hb=>by
         rw[BitVec.getLsbD_and]at hb
         simp only[Bool.and_eq_true]at hb;exact i4 k hk hb.1
        simp -dsimp[h0,Pk.cs];try refine⟨?_,⟨by kernel_rfl⟩⟩
        refine ah.of hat [] 0 ?_;simp -dsimp;try refine⟨?_,⟨by kernel_rfl⟩⟩
        refine ah.of hnx [] 0 ?_;by_cases c0:aF b p (tz R)=0
        ·have eM:mQ b p R=1#64<<<tz R:=by rw[mQ,if_pos (.inl c0)]
         have eO:mV b p o R=⟨o.loc,o.lost|||1#64<<<tz R,o.g_⟩:=by rw[mV,if_pos c0]
         rw[eM]at hpop hsub hstep
         rw[eO]at hstep
         simp -dsimp[eq_true c0];try refine⟨?_,⟨by kernel_rfl⟩⟩
         exact⟨⟨(n,⟨o.loc,o.lost|||1#64<<<tz R,o.g_⟩,R &&& ~~~ (1#64<<<tz R)),hstep,by simp only;omega,by simp only;omega,hsub⟩,GS.to (by simp[Pk.cs,bv]),by simp⟩
        by_cases c1:aF b p (tz R)=b.r
        ·have eM:mQ b p R=1#64<<<tz R:=by rw[mQ,if_pos (.inr c1)]
         have eO:mV b p o R=⟨o.loc|||1#64<<<tz R,o.lost,o.g_⟩:=by rw[mV,if_neg c0,if_pos c1]
         rw[eM]at hpop hsub hstep
         rw[eO]at hstep
         rw[c1]at c0⊢
         simp -dsimp[c0];try refine⟨?_,⟨by kernel_rfl⟩⟩
         exact⟨⟨(n,⟨o.loc|||1#64<<<tz R,o.lost,o.g_⟩,R &&& ~~~ (1#64<<<tz R)),hstep,by simp only;omega,by simp only;omega,hsub⟩,GS.to (by simp[Pk.cs,bv]),by simp⟩
        have eM:mQ b p R=jR b p R (aF b p (tz R)):=by rw[mQ,if_neg (fun h=>h.elim c0 c1)]
        rw[eM]at hpop hsub hstep
        simp -dsimp[c0,c1];try refine⟨?_,⟨by kernel_rfl⟩⟩
        refine ah.of hmk [] 0 ?_;simp -dsimp[←hto];try refine⟨?_,⟨by kernel_rfl⟩⟩
        have eO:mV b p o R=if(jg (p.setB R) (jR b p R (aF b p (tz R)))).2=true then ⟨o.loc,o.lost,o.g_++[(aF b p (tz R),(jg (p.setB R) (jR b p R (aF b p (tz R)))).1)]⟩else ⟨o.loc,o.lost|||jR b p R (aF b p (tz R)),o.g_⟩:=by
         rw[mV,if_neg c0,if_neg c1]
        rw[eO]at hstep
        rw[hQ]at hstep
        clear hQ eO;generalize jR b p R (aF b p (tz R))=M at hms hstep hpop hsub⊢;refine ah.of hms [] 0 ?_;rcases (Bool.eq_false_or_eq_true Q.2).symm with q1|q1
        ·rw[if_neg (by rw[q1];simp)]at hstep
         simp -dsimp[q1];try refine⟨?_,⟨by kernel_rfl⟩⟩
         exact⟨⟨(n,⟨o.loc,o.lost|||M,o.g_⟩,R &&& ~~~ M),hstep,by simp only;omega,by simp only;omega,hsub⟩,GS.to (by simp[Pk.cs,bv]),by simp⟩
        ·rw[if_pos q1]at hstep
         simp -dsimp[q1];and_intros;all_goals try first|omega|exact⟨by kernel_rfl⟩
         exact⟨⟨(n,⟨o.loc,o.lost,o.g_++[(aF b p (tz R),Q.1)]⟩,R &&& ~~~ M),hstep,by simp only;omega,by simp only[List.length_append,List.length_cons,List.length_nil];omega,hsub⟩,GS.to (by simp[Pk.cs,bv,DI]),by simp⟩
     ·simp -dsimp[h2,h3,eq_true h4,h5];try refine⟨?_,⟨by kernel_rfl⟩⟩
      refine Fin.box (.o 4) rfl ?_;simp -dsimp;refine Fin.of ?_;simp[jC,iC,outT,bv,h1,h2,h3,h4,h5]
    ·simp -dsimp[h2,h3,h4];try refine⟨?_,⟨by kernel_rfl⟩⟩
     refine Fin.box (.o 4) rfl ?_;simp -dsimp;refine Fin.of ?_;simp[jC,iC,outT,bv,h1,h2,h3,h4]
 ·simp -dsimp[h1];try refine⟨?_,⟨by kernel_rfl⟩⟩
  refine Fin.box (.o 4) rfl ?_;simp -dsimp;refine Fin.of ?_;simp[jC,iC,outT,bv,h1]
def lT(x:Int×Pk):List D:=.int .i64 x.1::x.2.cs
def nI(r:Int)(o:Out)(p:Pk):List (Int×Pk):=(lg o.loc).map fun k=>(r,f_ p k)
structure dQ where
 dl:List (Int×Pk)
 cr:List (Int×Int×BitVec 64)
 ls:List (Int×BitVec 64)
def gX:dQ:=⟨[],[],[]⟩
def nextQ(l:List Tb)(q:Int×Pk):List (Int×Pk):=
 match bH l q.1 with
 | none=>[]
 | some b=>(jC b q.2).1.g_
def stepT(l:List Tb)(q:Int×Pk)(t:dQ):dQ:=
 match bH l q.1 with
 | none=>⟨t.dl,t.cr,t.ls++[(q.1,q.2.bits)]⟩
 | some b=>⟨t.dl++nI q.1 (jC b q.2).1 q.2,t.cr++(jC b q.2).1.g_.map (fun c=>(q.1,c.1,c.2.bits)),if(jC b q.2).1.lost=0#64 then t.ls else t.ls++[(q.1,(jC b q.2).1.lost)]⟩
def mY(l:List Tb):Nat→List (Int×Pk)→dQ→dQ
 | 0,_,t=>t
 | _+1,[],t=>t
 | n+1,q::qs,t=>mY l n (qs++nextQ l q) (stepT l q t)
def pc(B:BitVec 64):Nat:=(ku B).length
def wt(p:Pk):Nat:=pc p.bits*(2*p.ttl.toNat+1)+1
def kZ(l:List (Int×Pk)):Nat:=(l.map fun c=>wt c.2).sum
def nK(l:List Tb)(p:Pk)(r:Int):dQ×Int:=
 if nR l≠0∨p.ok=false then(gX,1)else match bH l r with
  | none=>(gX,4)
  | some b=>if p.mode=2 then(gX,7)else if p.bF≠b.sd∨p.len≠b.len then(gX,8)else(mY l (wt p) [(r,p)] gX,0)
theorem A_(a b:List (Int×Pk)):kZ (a++b)=kZ a+kZ b:=by simp[kZ]
theorem qV(q:Int×Pk)(b:List (Int×Pk)):kZ (q::b)=wt q.2+kZ b:=by simp[kZ]
theorem LX{α:Type}(p:α→Bool):∀l:List α,(l.filter p).length+(l.filter fun x=>!p x).length=l.length
 | []=>rfl
 | x::l=>by
   have:=LX p l;rw[List.filter_cons,List.filter_cons];cases h:p x<;>simp<;>omega
theorem acI(R M:BitVec 64):ku (R&&&M)=(ku R).filter fun i=>M.getLsbD i:=by
 unfold ku;rw[List.filter_filter];apply List.filter_congr;intro i _;rw[BitVec.getLsbD_and,Bool.and_comm]
theorem Wn(R M:BitVec 64):ku (R &&& ~~~ M)=(ku R).filter fun i=>!M.getLsbD i:=by
 unfold ku;rw[List.filter_filter];apply List.filter_congr;intro i hi;have:i<64:=by simpa using hi
 rw[BitVec.getLsbD_and,BitVec.getLsbD_not];simp[this,Bool.and_comm]
theorem afD(R M:BitVec 64):pc (R&&&M)+pc (R &&& ~~~ M)=pc R:=by
 unfold pc;rw[acI,Wn];exact LX (fun i=>M.getLsbD i) (ku R)
theorem ak6(B:BitVec 64):pc B≤64:=xY B
theorem ajd{B:BitVec 64}(h:B≠0#64):1≤pc B:=by
 unfold pc;rcases Nat.eq_zero_or_pos (ku B).length with h0|h0
 ·exact absurd (Y2 h0) h
 ·exact h0
theorem ahT{p:Pk}{R M:BitVec 64}(h:(jg (p.setB R) M).2=true):wt (jg (p.setB R) M).1≤pc (R&&&M)*(2*p.ttl.toNat):=by
 unfold jg at h⊢;split at h
 ·rename_i hc;obtain⟨h1,h2,h3⟩:=hc;rw[if_pos ⟨h1,h2,h3⟩];have hp:=ajd h3;have ht:=qA h1;simp only[Pk.setB]at hp h2 ht;have ht1:(p.ttl-1).toNat=p.ttl.toNat-1:=by omega
  have ht2:1≤p.ttl.toNat:=by omega
  simp only[wt,ji,Pk.setB,ht1];obtain⟨T,hT⟩:∃T,p.ttl.toNat=T+1:=⟨p.ttl.toNat-1,by omega⟩
  rw[hT,show T+1-1=T by omega,show 2*(T+1)=(2*T+1)+1 by omega,Nat.mul_add _ (2*T+1) 1];omega
 ·simp at h
theorem L_(b:Tb)(p:Pk):∀(n:Nat) (o:Out) (R:BitVec 64),kZ (yx b p n o R).g_≤kZ o.g_+pc R*(2*p.ttl.toNat)
 | 0,o,R=>by simp[yx]
 | n+1,o,R=>by
   rw[yx];split
   ·omega
   ·have ih:=L_ b p n (mV b p o R) (R &&& ~~~ mQ b p R);refine Nat.le_trans ih ?_;have hs:=afD R (mQ b p R);have hm:pc (R &&& ~~~ mQ b p R)*(2*p.ttl.toNat)+pc (R&&&mQ b p R)*(2*p.ttl.toNat)=pc R*(2*p.ttl.toNat):=by
     rw[←Nat.add_mul];congr 1;omega
    by_cases c0:aF b p (tz R)=0
    ·have eO:(mV b p o R).g_=o.g_:=by rw[mV,if_pos c0]
     rw[eO];omega
    by_cases c1:aF b p (tz R)=b.r
    ·have eO:(mV b p o R).g_=o.g_:=by rw[mV,if_neg c0,if_pos c1]
     rw[eO];omega
    have eM:mQ b p R=jR b p R (aF b p (tz R)):=by rw[mQ,if_neg (fun h=>h.elim c0 c1)]
    by_cases c2:(jg (p.setB R) (jR b p R (aF b p (tz R)))).2=true
    ·have eO:(mV b p o R).g_=o.g_++[(aF b p (tz R),(jg (p.setB R) (jR b p R (aF b p (tz R)))).1)]:=by
      rw[mV,if_neg c0,if_neg c1,if_pos c2]
     have hw:=ahT c2;rw[←eM]at hw
     rw[eO,A_,qV,←eM];simp only[kZ,List.map_nil,List.sum_nil]at *;omega
    ·have eO:(mV b p o R).g_=o.g_:=by rw[mV,if_neg c0,if_neg c1,if_neg c2]
     rw[eO];omega
theorem acs{p:Pk}(h:p.ok=true):wt p≤8129:=by
 have h1:=qA h;have h2:=ak6 p.bits;unfold wt;have h3:2*p.ttl.toNat+1≤127:=by omega
 have:=Nat.mul_le_mul h2 h3;omega
theorem Yq(b:Tb)(p:Pk):∀(n:Nat) (o:Out) (R:BitVec 64),(yx b p n o R).g_.length≤o.g_.length+n
 | 0,o,R=>by simp[yx]
 | n+1,o,R=>by
   rw[yx];split
   ·omega
   ·have ih:=Yq b p n (mV b p o R) (R &&& ~~~ mQ b p R);have:(mV b p o R).g_.length≤o.g_.length+1:=by
     unfold mV;split
     ·simp
     split
     ·simp
     split<;>simp
    omega
theorem CP(b:Tb)(p:Pk):(jC b p).1.g_.length≤64:=by
 unfold jC;split
 ·simp[iC]
 split
 ·simp[iC]
 split
 ·simp[iC]
 have:=Yq b p 64 iC p.bits;simpa[iH,iC]using this
theorem BO(p:Pk):0≤kX p∧kX p≤7:=by unfold kX;split<;>omega
theorem ai8{p:Pk}(h:p.ok=true):0≤p.set∧p.set≤31:=by
 simp only[Pk.ok,wS,Bool.and_eq_true,decide_eq_true_eq]at h;omega
theorem RU{b:Tb}(hc:chk b=0)(p:Pk)(id:Int):Aw b id (kX p)=mG b id (kX p):=by
 have:=BO p;rw[Aw,if_pos (Dy.2 ⟨hc,this,by omega,by omega⟩)]
theorem MR{b:Tb}(hc:chk b=0){p:Pk}(hp:p.ok=true){n:Int}(hn:1≤n∧n≤99):Bl b (kX p) p.set n=gu b (kX p) p.set n b.len.toNat:=by
 have h1:=BO p;have h2:=ai8 hp;rw[YP,abW,if_pos ⟨Dy.2 ⟨hc,h1,h2⟩,hn⟩]
theorem Nj{p:Pk}{R:BitVec 64}(hp:p.ok=true)(hR:∀k<64,R.getLsbD k=true→p.bits.getLsbD k=true):(p.setB R).ok=true:=by
 cases p
 simp only[Pk.setB]at *;simp only[Pk.ok,Bool.and_eq_true,nG,decide_eq_true_eq]at hp⊢;obtain⟨a1,a2,a3,a4,⟨h1,h2⟩,a5⟩:=hp;refine⟨a1,a2,a3,a4,⟨h1,?_⟩,a5⟩;apply BitVec.eq_of_getLsbD_eq;intro k hk;have h3:=congrArg (fun z=>z.getLsbD k) h2;simp only[BitVec.getLsbD_and,BitVec.getLsbD_not,hk,decide_true,Bool.true_and,BitVec.getLsbD_zero]at h3⊢;cases hr:R.getLsbD k with
 | false=>simp
 | true=>
   rw[hR k hk hr]at h3
   simpa using h3
end Go.Proofs

set_option maxRecDepth 100000
set_option maxHeartbeats 16000000
namespace Go.Tr
open Go
theorem GS.PL{A:eX}{l:List (Pl×It)}(p:Pl)(j id:Nat){cs:List TV}(e z:Nat)(hs:qw p=true)(hp:look l p = .box cs)(hj:cs[j]? = some (.c (.slice none 0 0)))(ho:look l (.o id) = .none):
  GS A (look l) (look (iI p (.box (cs.set j (.aB id 0))) (iI (.o id) (.row e z [] false) l))):=by
 have:=GS.ownB (A:=A) (id:=id) e z (fun k e=>by subst e;simp[qw]at hs) hp hj ho;rw[eU,eU]at this
 exact this
theorem GS.apd{A:eX}{l:List (Pl×It)}(id:Nat){k:Nat}{e:TypeId}{es:List (List TV)}(ht:look l (.o id) = .row e k es false)(hn:0<es.length):GS A (look l) (look (iI (.o id) (.wI e k es) l)):=by
 have:=GS.wI (A:=A) ht hn;rw[eU]at this
 exact this
theorem It.afw(po:Nat→Prop)(e:TypeId)(k:Nat)(es:List (List TV)):It.only po (.wI e k es)=rD po es:=rfl
attribute [simp] It.afw
theorem GS.cut'{A:eX}{l l':List (Pl×It)}(s id:Nat){n j k:Nat}{e:TypeId}(xs:List (List D))(hs:look l (.s s) = .v (.NS id n j))(ht:look l (.o id) = .wI e k (dd xs))(hn:n=xs.length)(hj:j≤n)
  (h:Sub (look l) (WC s id l')∧jP (WC s id l')=jP l) (hid:id∉jy (WC s id l'))
  (h':Sub (look (iI (.s s) (.v (.aB id (n-j))) (iI (.o id) (.wI e k (dd (xs.drop j))) (WC s id l')))) l'∧jP l'=jP (iI (.s s) (.v (.aB id (n-j))) (iI (.o id) (.wI e k (dd (xs.drop j))) (WC s id l')))):GS A (look l) (look l'):=
 GS.cut (WC s id l') s id hs ht hn hj h hid h'
end Go.Tr
namespace Go.Proofs
open Go Go.Tr
def lJ(x:Int×Int×BitVec 64):List D:=[.int .i64 x.1,.int .i64 x.2.1,bv x.2.2]
def qO(x:Int×BitVec 64):List D:=[.int .i64 x.1,bv x.2]
def qG(t:dQ):TV:=.agg [.d (.sl (t.dl.map lT)),.d (.sl (t.cr.map lJ)),.d (.sl (t.ls.map qO))]
end Go.Proofs

namespace Go.Proofs
def gB(x y:Lk):Prop:=x.a<y.a∨(x.a=y.a∧x.b<y.b)
theorem nC{x y z:Lk}(h1:gB x y)(h2:gB y z):gB x z:=by
 unfold gB at *;omega
theorem ZC{α:Type}{q:α→α→Bool}{r:α→α→Prop}(hr:∀x y,q x y=false→r x y)(ht:∀x y z,r x y→r y z→r x z):∀{l:List α},nO q l=false→l.Pairwise r
 | [],_=>List.Pairwise.nil
 | [x],_=>by simp
 | x::y::l,h=>by
   simp only[nO,Bool.or_eq_false_iff]at h;have ih:=ZC hr ht (l:=y::l) h.2;refine List.Pairwise.cons (fun z hz=>?_) ih;rcases List.mem_cons.1 hz with rfl|hz
   ·exact hr _ _ h.1
   ·exact ht _ _ _ (hr _ _ h.1) ((List.pairwise_cons.1 ih).1 z hz)
theorem ay.Ok.Zu{g:ay}(h:g.Ok):g.ls.Pairwise gB:=
 ZC (r:=gB) (fun x y h=>by simp only[Bool.or_eq_false_iff,decide_eq_false_iff_not,Bool.and_eq_false_iff]at h;unfold gB;omega) (fun _ _ _=>nC) h.ao_
theorem ay.Ok.rpw{g:ay}(h:g.Ok):g.rs.Pairwise (fun x y=>x.id<y.id):=
 ZC (r:=fun x y=>x.id<y.id) (fun x y h=>by simpa using h) (fun _ _ _=>Int.lt_trans) h.ord
theorem ay.Ok.lab{g:ay}(h:g.Ok){x:Lk}(hx:x∈g.ls):x.a<x.b:=by
 have:=List.any_eq_false.1 h.ab x hx;simpa using this
theorem ay.Ok.ends'{g:ay}(h:g.Ok){x:Lk}(hx:x∈g.ls):aY g.rs x.a=true∧aY g.rs x.b=true:=by
 have:=List.any_eq_false.1 h.ends x hx;simpa using this
theorem wU:∀{l:List Lk} {f t c:Int},price l f t=some c→∃x∈l,(x.a=f∧x.b=t∧x.ca=c)∨(x.b=f∧x.a=t∧x.cb=c)
 | [],_,_,_,h=>by simp[price]at h
 | x::l,f,t,c,h=>by
   rw[price]at h
   split at h
   ·rename_i hx;exact⟨x,by simp,.inl ⟨hx.1,hx.2,by simpa using h⟩⟩
   ·split at h
    ·rename_i hx;exact⟨x,by simp,.inr ⟨hx.1,hx.2,by simpa using h⟩⟩
    ·obtain⟨y,hy,h2⟩:=wU h;exact⟨y,by simp[hy],h2⟩
theorem Di:∀{l:List Lk},l.Pairwise gB→(∀x∈l,x.a<x.b)→∀{x:Lk},x∈l→price l x.a x.b=some x.ca∧price l x.b x.a=some x.cb
 | [],_,_,x,hx=>by simp at hx
 | y::l,hp,hab,x,hx=>by
   have hy:=hab y (by simp);rcases List.mem_cons.1 hx with rfl|hx'
   ·refine⟨by rw[price,if_pos ⟨rfl,rfl⟩],?_⟩;rw[price,if_neg (by omega),if_pos ⟨rfl,rfl⟩]
   ·have hlt:=(List.pairwise_cons.1 hp).1 x hx';have hx2:=hab x hx;have ih:=Di (List.pairwise_cons.1 hp).2 (fun z hz=>hab z (by simp[hz])) hx';unfold gB at hlt;refine⟨?_,?_⟩
    ·rw[price,if_neg (by omega),if_neg (by omega)];exact ih.1
    ·rw[price,if_neg (by omega),if_neg (by omega)];exact ih.2
theorem jA{g:ay}(hg:g.Ok){f t c:Int}(h:price g.ls f t=some c):aY g.rs f=true∧aY g.rs t=true:=by
 obtain⟨x,hx,h1⟩:=wU h;have h2:=hg.ends' hx;rcases h1 with⟨rfl,rfl,_⟩|⟨rfl,rfl,_⟩
 ·exact h2
 ·exact⟨h2.2,h2.1⟩
theorem oP{g:ay}(hg:g.Ok){f t c:Int}(h:price g.ls f t=some c):1≤c∧c≤1000:=by
 obtain⟨x,hx,h1⟩:=wU h;have h2:=hg.c hx;omega
theorem Nb{g:ay}(hg:g.Ok){r x:Int}:x∈near g r↔∃c,price g.ls r x=some c:=by
 simp only[near,List.mem_map,List.mem_filter];constructor
 ·rintro⟨y,⟨_,h⟩,rfl⟩;exact Option.isSome_iff_exists.1 h
 ·rintro⟨c,h⟩;obtain⟨y,hy,rfl⟩:=List.mem_map.1 (dH.1 (jA hg h).2);exact⟨y,⟨hy,by simp[h]⟩,rfl⟩
inductive Wk (g:ay) (to:Int):Nat→Int→Int→Prop
 | nil:Wk g to 0 to 0
 | cons {k:Nat} {x y c v:Int}:price g.ls x y=some c→Wk g to k y v→Wk g to (k+1) x (c+v)
theorem Wk.nonneg{g:ay}(hg:g.Ok){to:Int}{k:Nat}{x v:Int}(h:Wk g to k x v):(k:Int)≤v:=by
 induction h with
 | nil=>simp
 | cons hp _ ih=>have:=oP hg hp;omega
theorem Wk.le{g:ay}(hg:g.Ok){to:Int}{k:Nat}{x v:Int}(h:Wk g to k x v):v≤1000*k:=by
 induction h with
 | nil=>simp
 | cons hp _ ih=>have:=oP hg hp;omega
inductive Wa (g:ay) (to:Int) (S:List Int):Int→Int→Prop
 | nil:to∉S→Wa g to S to 0
 | cons {x y c v:Int}:x∉S→price g.ls x y=some c→Wa g to S y v→Wa g to S x (c+v)
theorem Wk.wa{g:ay}{to:Int}{k:Nat}{x v:Int}(h:Wk g to k x v):Wa g to [] x v:=by
 induction h with
 | nil=>exact .nil (by simp)
 | cons hp _ ih=>exact .cons (by simp) hp ih
theorem Wa.YX{g:ay}{to:Int}{S:List Int}{x v:Int}(h:Wa g to S x v):x∉S:=by
 cases h with
 | nil h=>exact h
 | cons h _ _=>exact h
theorem Wa.last{g:ay}(hg:g.Ok){to:Int}{S:List Int}(x:Int){z v:Int}(h:Wa g to S z v):
  Wa g to (x::S) z v∨x=to∨∃y c w,price g.ls x y=some c∧Wa g to (x::S) y w∧c+w≤v:=by
 induction h with
 | nil h=>
   by_cases e:x=to
   ·exact .inr (.inl e)
   ·exact .inl (.nil (by simp[h,Ne.symm e]))
 | @cons z y c v hz hp hw ih=>
   have hc:=oP hg hp;rcases ih with ih|ih|⟨y',c',w',h1,h2,h3⟩
   ·by_cases e:z=x
    ·subst e;exact .inr (.inr ⟨y,c,v,hp,ih,by omega⟩)
    ·exact .inl (.cons (by simp[hz,e]) hp ih)
   ·exact .inr (.inl ih)
   ·exact .inr (.inr ⟨y',c',w',h1,h2,by omega⟩)
theorem Wa.nonneg{g:ay}(hg:g.Ok){to:Int}{S:List Int}{x v:Int}(h:Wa g to S x v):0≤v:=by
 induction h with
 | nil=>simp
 | cons _ hp _ ih=>have:=oP hg hp;omega
theorem Wa.short{g:ay}(hg:g.Ok){to:Int}(hto:aY g.rs to=true):∀(m:Nat) {S:List Int} {x v:Int},Wa g to S x v→aY g.rs x=true→S.Nodup→(∀y∈S,aY g.rs y=true)→g.rs.length≤S.length+1+m→∃k w,k≤m∧w≤v∧Wk g to k x w:=by
 intro m
 induction m with
 | zero=>
   intro S x v h hx hS hh hm;rcases h.last hg x with h1|h1|⟨y,c,w,h1,h2,h3⟩
   ·exact absurd h1.YX (by simp)
   ·subst h1;exact⟨0,0,Nat.le_refl _,h.nonneg hg,.nil⟩
   ·exfalso;have hy:=jA hg h1;have hn:(y::x::S).Nodup:=List.nodup_cons.2 ⟨h2.YX,List.nodup_cons.2 ⟨h.YX,hS⟩⟩;have:=BG hn (g:=g) (fun z hz=>by
     simp only[List.mem_cons]at hz;rcases hz with rfl|rfl|hz
     ·exact hy.2
     ·exact hx
     ·exact hh z hz)
    simp at this;omega
 | succ m ih=>
   intro S x v h hx hS hh hm;rcases h.last hg x with h1|h1|⟨y,c,w,h1,h2,h3⟩
   ·exact absurd h1.YX (by simp)
   ·subst h1;exact⟨0,0,by omega,h.nonneg hg,.nil⟩
   ·have hy:=jA hg h1;obtain⟨k,w',k1,k2,k3⟩:=ih h2 hy.2 (List.nodup_cons.2 ⟨h.YX,hS⟩) (fun z hz=>by
     rcases List.mem_cons.1 hz with rfl|hz
     ·exact hx
     ·exact hh z hz) (by simp;omega)
    exact⟨k+1,c+w',by omega,by omega,.cons h1 k3⟩
theorem Wk.has{g:ay}(hg:g.Ok){to:Int}(hto:aY g.rs to=true){k:Nat}{x v:Int}(h:Wk g to k x v):aY g.rs x=true:=by
 cases h with
 | nil=>exact hto
 | cons hp _=>exact(jA hg hp).1
theorem ahc{g:ay}{x:Int}(h:aY g.rs x=true):1≤g.rs.length:=by
 cases hl:g.rs with
 | nil=>simp[aY,hl]at h
 | cons a l=>simp
theorem Wk.short{g:ay}(hg:g.Ok){to:Int}(hto:aY g.rs to=true){k:Nat}{x v:Int}(h:Wk g to k x v):∃j w,j+1≤g.rs.length∧w≤v∧Wk g to j x w:=by
 have hp:=ahc hto;obtain⟨j,w,h1,h2,h3⟩:=h.wa.short hg hto (g.rs.length-1) (h.has hg hto) List.nodup_nil (by simp) (by simp;omega);exact⟨j,w,by omega,h2,h3⟩
theorem AB:∀{l:List Rt} {r:Int},aY l r=true→∃i,jY l r=some i
 | [],r,h=>by simp[aY]at h
 | x::l,r,h=>by
   by_cases e:x.id=r
   ·exact⟨0,by rw[jY,if_pos e]⟩
   ·obtain⟨i,hi⟩:=AB (l:=l) (r:=r) (by simpa[aY,e]using h);exact⟨i+1,by rw[jY,if_neg e,hi];rfl⟩
theorem GK:∀{l:List Rt} {r:Int} {i:Nat},jY l r=some i→∃x,l[i]? = some x∧x.id=r
 | [],r,i,h=>by simp[jY]at h
 | x::l,r,i,h=>by
   rw[jY]at h
   split at h
   ·simp at h;subst h;exact⟨x,by simp,by assumption⟩
   ·cases hp:jY l r with
    | none=>simp[hp]at h
    | some j=>
      simp[hp]at h;subst h
      obtain⟨y,h1,h2⟩:=GK hp;exact⟨y,by simpa using h1,h2⟩
theorem aaT{l:List Rt}{r s:Int}{i:Nat}(h1:jY l r=some i)(h2:jY l s=some i):r=s:=by
 obtain⟨x,a1,rfl⟩:=GK h1;obtain⟨y,b1,rfl⟩:=GK h2;rw[a1]at b1;simp at b1;rw[b1]
theorem Qb{g:ay}{d:List Int}{r:Int}(h:aY g.rs r=true):atR g d r=d.getD (GN g r) 0:=by
 obtain⟨i,hi⟩:=AB h;simp[atR,GN,hi]
theorem Lp{g:ay}{d:List Int}(hd:g.rs.length≤d.length){r s v:Int}(hr:aY g.rs r=true)(hs:aY g.rs s=true):atR g (d.set (GN g r) v) s=if s=r then v else atR g d s:=by
 obtain⟨i,hi⟩:=AB hr;obtain⟨j,hj⟩:=AB hs;have hil:=OV hi;simp only[atR,GN,hi,hj,Option.getD_some];rw[List.getD_eq_getElem?_getD,List.getD_eq_getElem?_getD,List.getElem?_set];by_cases e:s=r
 ·subst e;rw[hi]at hj;simp at hj;subst hj
  rw[if_pos rfl,if_pos rfl,if_pos (by omega)];rfl
 ·rw[if_neg e,if_neg (fun h=>e (by subst h;exact aaT hj hi))]
theorem NZ{g:ay}(hg:g.Ok){d:List Int}(hd:g.rs.length≤d.length){l:Lk}(hl:l∈g.ls){s:Int}(hs:aY g.rs s=true):
  atR g (relax g d l) s=(if s=l.a then(if atR g d l.b<far then min (atR g d l.a) (l.ca+atR g d l.b)else atR g d l.a)
   else if s=l.b then
    (if(if atR g d l.b<far then min (atR g d l.a) (l.ca+atR g d l.b)else atR g d l.a)<far then min (atR g d l.b) (l.cb+(if atR g d l.b<far then min (atR g d l.a) (l.ca+atR g d l.b)else atR g d l.a))else atR g d l.b)
   else atR g d s):=by
 obtain⟨ha,hb⟩:=hg.ends' hl;have hab:=hg.lab hl;unfold relax;simp only;rw[←Qb hb,←Qb ha];have key:∀d1:List Int,g.rs.length≤d1.length→atR g d1 l.b=atR g d l.b→(∀s,aY g.rs s=true→atR g d1 s=if s=l.a then atR g d1 l.a else atR g d s)→
   atR g (if atR g d1 l.a<far then d1.set (GN g l.b) (min (d1.getD (GN g l.b) 0) (l.cb+atR g d1 l.a))else d1) s =
    if s=l.a then atR g d1 l.a else if s=l.b then(if atR g d1 l.a<far then min (atR g d l.b) (l.cb+atR g d1 l.a)else atR g d l.b)else atR g d s:=by
  intro d1 h1 h2 h3;rw[←Qb hb,h2];have h4:=h3 s hs;split
  ·rw[Lp h1 hb hs];by_cases e:s=l.b
   ·subst e;rw[if_pos rfl,if_neg (by omega),if_pos rfl]
   ·rw[if_neg e,h4,if_neg e]
  ·rw[h4];by_cases e:s=l.b
   ·subst e;rw[if_neg (by omega),if_pos rfl,if_neg (by omega)]
   ·rw[if_neg e]
 have e0:∀d1:List Int,d1.getD (GN g l.a) 0=atR g d1 l.a:=fun d1=>(Qb ha).symm
 rw[e0];by_cases hlt:atR g d l.b<far
 ·rw[if_pos hlt];have h5:atR g (d.set (GN g l.a) (min (atR g d l.a) (l.ca+atR g d l.b))) l.a=min (atR g d l.a) (l.ca+atR g d l.b):=by rw[Lp hd ha ha,if_pos rfl]
  have:=key (d.set (GN g l.a) (min (atR g d l.a) (l.ca+atR g d l.b))) (by simpa using hd) (by rw[Lp hd ha hb,if_neg (by omega)]) (fun s hs=>by
   rw[Lp hd ha hs,Lp hd ha ha,if_pos rfl])
  rw[this];simp only[h5,if_pos hlt]
 ·rw[if_neg hlt];have:=key d hd rfl (fun s hs=>by by_cases e:s=l.a<;>simp[e]);rw[this];simp only[if_neg hlt]
theorem afM{g:ay}(hg:g.Ok){d:List Int}(hd:g.rs.length≤d.length){l:Lk}(hl:l∈g.ls){s:Int}(hs:aY g.rs s=true):atR g (relax g d l) s≤atR g d s:=by
 rw[NZ hg hd hl hs];split
 ·rename_i e;subst e;split<;>omega
 ·split
  ·rename_i e;subst e;split<;>omega
  ·omega
theorem afL{g:ay}(hg:g.Ok){d:List Int}{x y c:Int}(h:price g.ls x y=some c)(hy:atR g d y<far):∃l∈g.ls,∀d':List Int,g.rs.length≤d'.length→atR g d' y≤atR g d y→atR g (relax g d' l) x≤c+atR g d y:=by
 obtain⟨l,hl,h1⟩:=wU h;have hx:=jA hg h;refine⟨l,hl,fun d' hd' hle=>?_⟩;rw[NZ hg hd' hl hx.1];have hab:=hg.lab hl;have hc:=hg.c hl;rcases h1 with⟨rfl,rfl,rfl⟩|⟨rfl,rfl,rfl⟩
 ·rw[if_pos rfl,if_pos (by omega)];omega
 ·rw[if_neg (by omega),if_pos rfl];have:(if atR g d' l.b<far then min (atR g d' l.a) (l.ca+atR g d' l.b)else atR g d' l.a)≤atR g d l.a:=by split<;>omega
  generalize (if atR g d' l.b<far then min (atR g d' l.a) (l.ca+atR g d' l.b)else atR g d' l.a)=m at this;rw[if_pos (by omega)];omega
theorem Ry(g:ay):∀(ls:List Lk) (d:List Int),(ls.foldl (relax g) d).length=d.length
 | [],_=>rfl
 | l::ls,d=>by rw[List.foldl_cons,Ry g ls,BP]
theorem Qj{g:ay}(hg:g.Ok){s:Int}(hs:aY g.rs s=true):∀(ls:List Lk) (d:List Int),(∀l∈ls,l∈g.ls)→g.rs.length≤d.length→atR g (ls.foldl (relax g) d) s≤atR g d s
 | [],_,_,_=>Int.le_refl _
 | l::ls,d,h,hd=>by
   rw[List.foldl_cons];exact Int.le_trans (Qj hg hs ls _ (fun x hx=>h x (by simp[hx])) (by rw[BP];exact hd)) (afM hg hd (h l (by simp)) hs)
theorem ady{g:ay}(hg:g.Ok){d:List Int}(hd:g.rs.length≤d.length){x y c:Int}(h:price g.ls x y=some c)(hy:atR g d y<far):atR g (GU g d) x≤c+atR g d y:=by
 obtain⟨l,hl,h1⟩:=afL hg h hy;have hx:=jA hg h;obtain⟨p,q,e⟩:=List.append_of_mem hl;have hp:∀z∈p,z∈g.ls:=fun z hz=>by rw[e];simp[hz]
 have hq:∀z∈q,z∈g.ls:=fun z hz=>by rw[e];simp[hz]
 rw[GU,e,List.foldl_append,List.foldl_cons];have hlp:g.rs.length≤(p.foldl (relax g) d).length:=by rw[Ry];exact hd
 refine Int.le_trans (Qj hg hx.1 q _ hq (by rw[BP];exact hlp)) (h1 _ hlp (Qj hg hx.2 p d hp hd))
theorem adz{g:ay}(hg:g.Ok){d:List Int}(hd:g.rs.length≤d.length){s:Int}(hs:aY g.rs s=true):atR g (GU g d) s≤atR g d s:=Qj hg hs g.ls d (fun _ h=>h) hd
theorem aa0(g:ay)(d:List Int):(GU g d).length=d.length:=Ry g g.ls d
def Known(g:ay)(to:Int)(k:Nat)(d:List Int):Prop:=∀j≤k,∀x v,Wk g to j x v→v<far→atR g d x≤v
theorem Known.next{g:ay}(hg:g.Ok){to:Int}(hto:aY g.rs to=true){k:Nat}{d:List Int}(hd:g.rs.length≤d.length)(h:Known g to k d):Known g to (k+1) (GU g d):=by
 intro j hj x v hw hv;cases hw with
 | nil=>exact Int.le_trans (adz hg hd hto) (h 0 (by omega) _ _ .nil (by unfold far;omega))
 | @cons k' _ y c w hp hw=>
   have hc:=oP hg hp;have h1:=h k' (by omega) y w hw (by omega);have h2:=ady hg hd hp (by omega);omega
theorem Known.rounds{g:ay}(hg:g.Ok){to:Int}(hto:aY g.rs to=true):∀(n k:Nat) (d:List Int),g.rs.length≤d.length→Known g to k d→Known g to (k+n) (Eb g n d)
 | 0,k,d,_,h=>h
 | n+1,k,d,hd,h=>by
   have:=Known.rounds hg hto n (k+1) (GU g d) (by rw[aa0];exact hd) (h.next hg hto hd);rw[Eb,show k+(n+1)=k+1+n by omega];exact this
theorem U4{g:ay}{to x:Int}(hx:aY g.rs x=true):atR g (DZ g to) x=if x=to then 0 else far:=by
 obtain⟨i,hi⟩:=AB hx;obtain⟨y,h1,rfl⟩:=GK hi;simp only[atR,hi,DZ];rw[List.getD_eq_getElem?_getD,List.getElem?_map,h1];rfl
def Real(g:ay)(to:Int)(d:List Int):Prop:=∀x,aY g.rs x=true→atR g d x=far∨∃k,Wk g to k x (atR g d x)
theorem Real.relax{g:ay}(hg:g.Ok){to:Int}{d:List Int}(hd:g.rs.length≤d.length)(hb:Bd d)(h:Real g to d){l:Lk}(hl:l∈g.ls):Real g to (relax g d l):=by
 intro x hx;obtain⟨ha,hb'⟩:=hg.ends' hl;have hpr:=Di hg.Zu (fun _ h=>hg.lab h) hl;have hB:=ZF (g:=g) hb;rw[NZ hg hd hl hx];have hA:(if atR g d l.b<far then min (atR g d l.a) (l.ca+atR g d l.b)else atR g d l.a)=far∨∃k,Wk g to k l.a (if atR g d l.b<far then min (atR g d l.a) (l.ca+atR g d l.b)else atR g d l.a):=by
  split
  ·rename_i hlt;by_cases hm:atR g d l.a≤l.ca+atR g d l.b
   ·rw[Int.min_eq_left hm];exact h _ ha
   ·rw[Int.min_eq_right (by omega)];rcases h _ hb' with h1|⟨k,h1⟩
    ·omega
    ·exact .inr ⟨k+1,.cons hpr.1 h1⟩
  ·exact h _ ha
 split
 ·rename_i e;subst e;exact hA
 split
 ·rename_i e;subst e;generalize (if atR g d l.b<far then min (atR g d l.a) (l.ca+atR g d l.b)else atR g d l.a)=m at hA;split
  ·by_cases hm:atR g d l.b≤l.cb+m
   ·rw[Int.min_eq_left hm];exact h _ hb'
   ·rw[Int.min_eq_right (by omega)];rcases hA with h1|⟨k,h1⟩
    ·omega
    ·exact .inr ⟨k+1,.cons hpr.2 h1⟩
  ·exact h _ hb'
 ·exact h _ hx
theorem ael(g:ay)(to:Int):Bd (DZ g to):=fun v hv=>by
 obtain⟨x,_,rfl⟩:=List.mem_map.1 hv;unfold far;split<;>omega
theorem acN{g:ay}(hg:g.Ok){to:Int}(hto:aY g.rs to=true):Real g to (dist g to):=by
 have:=BA (g:=g) (p:=fun d=>g.rs.length≤d.length∧Bd d∧Real g to d) (fun d l hl ⟨h1,h2,h3⟩=>⟨by rw[BP];exact h1,h2.relax (hg.c hl).1.1 (hg.c hl).2.1,h3.relax hg h1 h2 hl⟩) g.rs.length (DZ g to) ⟨by simp[DZ],ael g to,fun x hx=>by
  rw[U4 hx];split
  ·rename_i e;subst e;exact .inr ⟨0,.nil⟩
  ·exact .inl rfl⟩
 exact this.2.2
theorem ZN{g:ay}(hg:g.Ok){to:Int}(hto:aY g.rs to=true){k:Nat}{x v:Int}(h:Wk g to k x v)(hv:v<far):atR g (dist g to) x≤v:=by
 obtain⟨j,w,h1,h2,h3⟩:=h.short hg hto;have:=Known.rounds hg hto g.rs.length 0 (DZ g to) (by simp[DZ]) (fun i hi x v hw hv=>by
  obtain rfl:i=0:=by omega
  cases hw
  rw[U4 hto,if_pos rfl];omega)
 have:=this j (by omega) x w h3 (by omega);rw[dist];omega
def dst(g:ay)(to x:Int):Int:=atR g (dist g to) x
theorem rZ{g:ay}(hg:g.Ok)(to x:Int):0≤dst g to x∧dst g to x≤far:=ZF (LC hg to) x
theorem vO{g:ay}(hg:g.Ok){to:Int}(hto:aY g.rs to=true){k:Nat}{x v:Int}(h:Wk g to k x v):dst g to x≤v∧dst g to x<far:=by
 obtain⟨j,w,h1,h2,h3⟩:=h.short hg hto;have hl:=h3.le hg;have hn:=hg.nr;have:=ZN hg hto h3 (by unfold far;omega);unfold dst far at *;omega
theorem yI{g:ay}(hg:g.Ok){to:Int}(hto:aY g.rs to=true){x:Int}(hx:aY g.rs x=true)(h:dst g to x<far):∃k,Wk g to k x (dst g to x):=by
 rcases acN hg hto x hx with h1|h1
 ·exact absurd h1 (Int.ne_of_lt h)
 ·exact h1
theorem QY{g:ay}(hg:g.Ok){to:Int}(hto:aY g.rs to=true):dst g to to=0:=by
 have h1:=vO hg hto (Wk.nil (g:=g) (to:=to));have h2:=rZ hg to to;omega
theorem X9{g:ay}(hg:g.Ok){to:Int}(hto:aY g.rs to=true){x:Int}(hx:aY g.rs x=true)(h:dst g to x=0):x=to:=by
 obtain⟨k,hk⟩:=yI hg hto hx (by rw[h];unfold far;omega);rw[h]at hk
 have:=hk.nonneg hg;generalize hv:(0:Int)=v at hk this;cases hk with
 | nil=>rfl
 | cons hp hw=>omega
theorem CJ{g:ay}(hg:g.Ok){to:Int}(hto:aY g.rs to=true){x y c:Int}(h:price g.ls x y=some c)(hy:dst g to y<far):dst g to x≤c+dst g to y∧dst g to x<far:=by
 obtain⟨k,hk⟩:=yI hg hto (jA hg h).2 hy;exact vO hg hto (.cons h hk)
theorem aer{g:ay}(hg:g.Ok){to:Int}(hto:aY g.rs to=true){x:Int}(hx:aY g.rs x=true)(hne:x≠to)(h:dst g to x<far):∃y c,price g.ls x y=some c∧dst g to y<far∧c+dst g to y=dst g to x:=by
 obtain⟨k,hk⟩:=yI hg hto hx h;generalize hv:dst g to x=v at hk;cases hk with
 | nil=>exact absurd rfl hne
 | @cons k' _ y c w hp hw=>
   have h1:=vO hg hto hw;have h2:=CJ hg hto hp h1.2;exact⟨y,c,hp,h1.2,by omega⟩
theorem lM{g:ay}(hg:g.Ok){to:Int}{x y:Int}:y∈steps g (dist g to) x↔dst g to x≠far∧dst g to x≠0∧dst g to y<far∧∃c,price g.ls x y=some c∧c+dst g to y=dst g to x:=by
 unfold steps
 show y∈(if dst g to x=far∨dst g to x=0 then []else _)↔_
 split
 ·rename_i h;constructor
  ·simp
  ·rintro⟨h1,h2,_⟩;exact(h.elim h1 h2).elim
 ·rename_i h;rw[List.mem_filter,Nb hg];have e:ED g (dist g to) x y=(decide (dst g to y<far)&&decide ((price g.ls x y).getD 0+dst g to y=dst g to x)):=rfl;rw[e];simp only[Bool.and_eq_true,decide_eq_true_eq];constructor
  ·rintro⟨⟨c,hc⟩,h1,h2⟩;exact⟨fun a=>h (.inl a),fun a=>h (.inr a),h1,c,hc,by simpa[hc]using h2⟩
  ·rintro⟨_,_,h1,c,hc,h2⟩;exact⟨⟨c,hc⟩,h1,by simpa[hc]using h2⟩
theorem aa_{g:ay}(hg:g.Ok){to:Int}(hto:aY g.rs to=true){x:Int}(hx:aY g.rs x=true)(hne:x≠to)(h:dst g to x<far):∃y,y∈steps g (dist g to) x:=by
 obtain⟨y,c,h1,h2,h3⟩:=aer hg hto hx hne h;exact⟨y,(lM hg).2 ⟨by omega,fun e=>hne (X9 hg hto hx e),h2,c,h1,h3⟩⟩
end Go.Proofs
