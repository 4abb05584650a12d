/-
  What functions of the program compute, stated as contracts over plain data; the conditions of each stand in its own statement.
-/
import Derived.Test.YtkikielfhjoogaaGreatDoorZA28
import Derived.Test.YtkikielfhjoogaaGreatDoorZA20
import Derived.Test.YtkikielfhjoogaaGreatDoorZA25
import Derived.Test.YtkikielfhjoogaaGreatDoorZA00
import Derived.Test.YtkikielfhjoogaaGreatDoorZA24
import Derived.Test.YtkikielfhjoogaaGreatDoorZA27
set_option linter.unusedVariables false
set_option linter.unusedSimpArgs false
set_option maxRecDepth 100000
set_option maxHeartbeats 4000000
namespace Go.Proofs
open Go Go.Tr
theorem amf(l:List Int)(hl:l.length≤1000000)(h:l.Pairwise (· < ·)):Contract Tryz.prog 93 [.d (ints l)] [] (.d (.bool true)) [] []:=by
 refine ay Tryz.func93 rfl (fun E0=>?_);refine iC.sound (g:=.mk) (ow:=[]) (kp:=(kb 0x8008d)) ?_;rw[Tryz.ntmps93];simp -dsimp[ints]
 refine dD.of [] (kb 0x8008d) (ι:={i:Nat // 1≤i∧i≤l.length+1}) (fun z=>[(.s 0,It.v (.d (ints l))),(.s 2,It.v (.d (.bool false))),(.s 3,It.v (.d (.int .i64 z.1)))]) (fun z=>l.length+1-z.1) ⟨1,by omega⟩ ?_ ?_
 ·exact GS.to (by simp[ints])
 ·rintro⟨i,i1,i2⟩;by_cases hi:i<l.length
  ·have hiz:(i:Int)<l.length:=by omega
   have hp:l[i-1]? = some l[i-1]:=aj (by omega);have hg:l[i]? = some l[i]:=aj hi;have hlt:l[i-1]<l[i]:=bC.1 h (i-1) i (by omega) hi (by omega);have hw:((i:Int)-1).toNat=i-1:=by omega
   generalize l[i-1]=u at hp hlt;generalize l[i]=v at hg hlt;have hnv :¬v≤u:=by omega
   simp -dsimp[ints,hiz,hg,hp,hw,hnv,wrap_i64 (n:=(i:Int)-1) (by omega) (by omega),wrap_i64 (n:=(i:Int)+1) (by omega) (by omega)];and_intros;all_goals try first|rfl|omega|exact⟨by kernel_rfl⟩
   exact⟨⟨i+1,by omega⟩,GS.to (by simp[ints]),by simp;omega⟩
  ·have hiz :¬(i:Int)<l.length:=by omega
   simp -dsimp[ints,hiz];refine Fin.of ?_;simp
theorem L6(g:aX)(h0:jo g=0)(r:Int)(rs:List Int)(hr:dF g.rs r=true)(hl:rs.length≤1000000)(ha:rs.Pairwise (· < ·))(hh:∀x∈rs,dF g.rs x=true):
  Contract Tryz.prog 38 [eU g,.d (.int .i64 r),.d (ints rs)] [] (.d (.int .i64 0)) [] []:=by
 have hs:=(dV h0).sm;have hth:=fun x=>aip g hs x
 simp only[eU]at hth;refine ay Tryz.func38 rfl (fun E0=>?_);refine iC.sound (g:=.mk) (ow:=[16]) (kp:=(kb 0x83c494f)) ?_;rw[Tryz.ntmps38];simp -dsimp[eU];refine aI.of (xW g hs.r hs.l) [] 0 ?_;simp -dsimp[h0,eU];refine aI.of (amf rs hl ha) [] 0 ?_;simp -dsimp[ints]
 refine⟨zK 1 _ _ fun _=>rfl,?_⟩;and_intros;all_goals try first|rfl|omega|exact⟨by kernel_rfl⟩
 obtain⟨R,hR⟩:∃R,R=dd (List.map (fun n=>[D.int .i64 n]) (r::rs)):=⟨_,rfl⟩
 have hlen:R.length=rs.length+1:=by rw[hR];simp[dd]
 have hrow:∀(i:Nat) (x:Int),(r::rs)[i]? = some x→R[i]? = some [TV.d (.int .i64 x)]:=fun i x h=>by rw[hR,dd,bn,bn,h];rfl
 have hRo:∀po,lH po R:=fun po=>by rw[hR];simp
 refine dD.of [16] (kb 0x83c494f) (ι:={i:Nat // i≤rs.length+1})
  (fun z=>[(.s 0,It.v (.agg [TV.d (.sl (rts g.rs)),TV.d (.sl (nS g.ls))])),(.s 1,It.v (.d (.int .i64 r))),(.s 2,It.v (.d (.sl (List.map (fun n=>[D.int .i64 n]) rs)))),
   (.o 3,It.box [TV.d (.sl (rts g.rs)),TV.d (.sl (nS g.ls))]),(.s 3,It.v (.ptr (.o 3) 0)),(.s 6,It.v (.d (.int .i64 0))),
   (.o 16,It.row 3 1 R false),(.s 18,It.v (.aW 16 (rs.length+1))),(.s 19,It.v (.d (.int .i64 (rs.length+1)))),(.s 20,It.v (.d (.int .i64 z.1)))])
  (fun z=>rs.length+1-z.1) ⟨0,by omega⟩ ?_ ?_
 ·exact GS.to (by simp[hR,Nat.add_comm,Int.add_comm])
 ·rintro⟨i,i1⟩;by_cases hi:i<rs.length+1
  ·have hiz:(i:Int)<rs.length+1:=by omega
   have hg:(r::rs)[i]? = some (r::rs)[i]:=aj (by simp;omega);have hm:dF g.rs (r::rs)[i]=true:=by
    have:=aJ (l:=r::rs) (n:=i) (by simp;omega);rcases aF.1 this with e|h
    ·rw[e];exact hr
    ·exact hh _ h
   generalize (r::rs)[i]=x at hg hm;have JL:=hrow i x hg;simp -dsimp[hiz,JL,hlen];and_intros;all_goals try first|rfl|omega|exact⟨by kernel_rfl⟩
   refine aI.of (hth x) [] 0 ?_;simp -dsimp[h0,hm,wrap_i64 (n:=(i:Int)+1) (by omega) (by omega)];and_intros;all_goals try first|rfl|omega|exact⟨by kernel_rfl⟩
   exact⟨⟨i+1,by omega⟩,GS.to (by simp[hRo]),by simp;omega⟩
  ·have hiz :¬(i:Int)<rs.length+1:=by omega
   simp -dsimp[hiz];and_intros;all_goals try first|rfl|omega|exact⟨by kernel_rfl⟩
   refine Fin.of ?_;simp
end Go.Proofs

set_option linter.unusedVariables false
namespace Go.Proofs
structure Nq(g:aX)(l:List Ar):Prop where
 c:∀a∈l,price g.ls a.f a.t=some a.c
 all:∀x y c,price g.ls x y=some c→(⟨x,y,c⟩:Ar)∈l
def KT(a:Nat→Bool):Nat:=(a 0).toNat+(a 1).toNat*2+(a 2).toNat*4+(a 3).toNat*8+(a 4).toNat*16
theorem ajz:∀a0 a1 a2 a3 a4 b0 b1 b2 b3 b4:Bool,(a0&&b0)=false→(a1&&b1)=false→(a2&&b2)=false→(a3&&b3)=false→(a4&&b4)=false→
  (a0||b0).toNat+(a1||b1).toNat*2+(a2||b2).toNat*4+(a3||b3).toNat*8+(a4||b4).toNat*16=(a0.toNat+a1.toNat*2+a2.toNat*4+a3.toNat*8+a4.toNat*16)+(b0.toNat+b1.toNat*2+b2.toNat*4+b3.toNat*8+b4.toNat*16)∧
  (a0.toNat+a1.toNat*2+a2.toNat*4+a3.toNat*8+a4.toNat*16)&&&((a0.toNat+a1.toNat*2+a2.toNat*4+a3.toNat*8+a4.toNat*16)+(b0.toNat+b1.toNat*2+b2.toNat*4+b3.toNat*8+b4.toNat*16))=a0.toNat+a1.toNat*2+a2.toNat*4+a3.toNat*8+a4.toNat*16:=by decide+kernel
theorem acj{a b c:Nat→Bool}(h:∀i<5,c i=(a i||b i))(hd:∀i<5,(a i&&b i)=false):KT c=KT a+KT b∧KT a&&&(KT a+KT b)=KT a:=by unfold KT;rw[h 0 (by omega),h 1 (by omega),h 2 (by omega),h 3 (by omega),h 4 (by omega)];exact ajz _ _ _ _ _ _ _ _ _ _ (hd 0 (by omega)) (hd 1 (by omega)) (hd 2 (by omega)) (hd 3 (by omega)) (hd 4 (by omega))
theorem JV{a b:Nat→Bool}(h:∀i<5,a i=b i):KT a=KT b:=by unfold KT;rw[h 0 (by omega),h 1 (by omega),h 2 (by omega),h 3 (by omega),h 4 (by omega)]
theorem MV{a:Nat→Bool}{i:Nat}(hi:i<5)(h:a i=true):0<KT a:=by
 unfold KT;obtain rfl|rfl|rfl|rfl|rfl:i=0∨i=1∨i=2∨i=3∨i=4:=by omega
 all_goals rw[h];simp only[Bool.toNat_true];omega
theorem ajA{a:Nat→Bool}{j:Nat}(hj:j<5)(h:∀i<5,a i=decide (i=j)):KT a=2^j:=by
 unfold KT;rw[h 0 (by omega),h 1 (by omega),h 2 (by omega),h 3 (by omega),h 4 (by omega)];obtain rfl|rfl|rfl|rfl|rfl:j=0∨j=1∨j=2∨j=3∨j=4:=by omega
 all_goals rfl
def sB(B:BitVec 64):Nat:=KT fun i=>B.getLsbD (3*i)
structure Nu(g:aX)(l:List Tb)(ts:List Int)(c:Int×Pk):Prop where
 fit:wE l c.2
 bits:∀k<64,c.2.bits.getLsbD k=true→∃i<ts.length,k=3*i
 way:∀i,c.2.bits.getLsbD (3*i)=true→∃ws,Dl l (wL c.2 (3*i)) (pV c.2) c.1 ws∧(ws.length:Int)≤c.2.ttl∧ts[i]? = some (zT c.1 ws)∧(Ce g c.1 ws).isSome
theorem ZA{g:aX}{x h:Int}{ws:List Int}(e:(Ce g x (h::ws)).isSome):(∃c,price g.ls x h=some c)∧(Ce g h ws).isSome:=by
 rw[Ce]at e
 cases hp:price g.ls x h with
 | none=>simp[hp]at e
 | some c=>
   cases hc:Ce g h ws with
   | none=>simp[hp,hc]at e
   | some d=>exact⟨⟨c,rfl⟩,rfl⟩
theorem TA{g:aX}{l:List Tb}{ts:List Int}(hts:ts.length≤5){c:Int×Pk}(h:Nu g l ts c)(hB:c.2.bits≠0#64):∃b,lZ l c.1=some b∧b.r=c.1∧∃H:List Int,nextQ l c=H.map (fun x=>(x,DX b c.2 x))∧H.Nodup∧
  (∀x∈H,x≠0∧x≠c.1∧(∃w,price g.ls c.1 x=some w)∧Nu g l ts (x,DX b c.2 x)∧∃i<5,c.2.bits.getLsbD (3*i)=true∧dL b c.2 (3*i)=x)∧
  (∀x∈H,∀i<5,(DX b c.2 x).bits.getLsbD (3*i)=(c.2.bits.getLsbD (3*i)&&decide (dL b c.2 (3*i)=x)))∧
  ∀i<5,c.2.bits.getLsbD (3*i)=true→dL b c.2 (3*i)∈H∨(dL b c.2 (3*i)=c.1∧ts[i]? = some c.1):=by
 obtain⟨x,p⟩:=c;obtain⟨hF,h1,h2⟩:=h;simp only at *;have hk0:∃k,k<64∧p.bits.getLsbD k=true:=by
  refine Classical.byContradiction fun hn=>hB ?_
  apply fE;intro k hk;rw[gQ,←nV];exact fun e=>hn ⟨k,hk,e⟩
 obtain⟨k,hk,hb⟩:=hk0;obtain⟨i,hi,rfl⟩:=h1 k hk hb;obtain⟨ws,hD,_,_,_⟩:=h2 i hb;have hf:∃b,lZ l x=some b:=by cases hD<;>exact⟨_,by assumption⟩
 obtain⟨b,hf⟩:=hf;have hbr:=(mO hf).2;have hFb:=hF.all b (mO hf).1;obtain⟨e1,e2⟩:=zQ hFb;obtain⟨H,g1,g2,g3⟩:=e2.uJ;have hn:nextQ l (x,p)=H.map (fun y=>(y,DX b p y)):=by simp[nextQ,hf,e1,g1,wU]
 have ttl:∀y∈H,p.ttl≠0:=fun y hy=>((g3 y).1 hy).1
 have rng:∀y∈H,1≤y∧y≤99:=fun y hy=>by obtain⟨_,a1,_,j,_,_,rfl⟩:=(g3 y).1 hy;exact(wJ hFb.ck a1).2
 refine⟨b,hf,hbr,H,hn,g2,fun y hy=>?_,fun y hy j hj=>?_,fun j hj hb=>?_⟩
 ·obtain⟨a0,a1,a2,k,a3,a4,a5⟩:=(g3 y).1 hy;obtain⟨j,hj,rfl⟩:=h1 k a3 a4;have key:∀j,p.bits.getLsbD (3*j)=true→dL b p (3*j)=y→∃ws,Dl l (wL p (3*j)) (pV p) y ws∧(ws.length:Int)≤p.ttl-1∧ts[j]? = some (zT y ws)∧(Ce g y ws).isSome∧∃w,price g.ls x y=some w:=by
   intro j hb' hy';obtain⟨ws,hD,d1,d2,d3⟩:=h2 j hb';rw[wK hFb.ck]at hy'
   cases hD with
   | here f1 f2 f3=>
     rw[hf]at f1;simp at f1;subst f1
     exact absurd (hy'.symm.trans f2) (by rw[←hbr];exact a2)
   | @next _ y' _ ws' f1 f2 f3 f4 f5=>
     rw[hf]at f1;simp at f1;subst f1
     have ey:y'=y:=f2.symm.trans hy';subst ey;obtain⟨c1,c2⟩:=ZA d3;simp only[aH]at d1;exact⟨ws',f5,by omega,d2,c2,c1⟩
  refine⟨a1,by rw[←hbr];exact a2,?_,?_,j,by omega,a4,a5⟩
  ·obtain⟨ws,_,_,_,_,w⟩:=key j a4 a5;exact w
  ·refine⟨hF.mask a0 _,fun k hk hb=>h1 k hk ((yR hFb hk (rng y hy)).1 hb).1,fun j hb=>?_⟩;have atj:3*j<64:=Classical.byContradiction fun hn=>by
    rw[BitVec.getLsbD_of_ge _ _ (by omega)]at hb;simp at hb
   obtain⟨b1,b2⟩:=(yR hFb atj (rng y hy)).1 hb;obtain⟨ws,k1,k2,k3,k4,_⟩:=key j b1 b2;refine⟨ws,?_,?_,k3,k4⟩
   ·show Dl l (wL (DX b p y) (3*j)) (pV (DX b p y)) y ws
    rw[DX,S9,J9 hF.ok a0];exact k1
   ·simp only[DX,lX];exact k2
 ·rw[iE,yR hFb (by omega) (rng y hy)];simp
 ·obtain⟨ws,hD,d1,d2,d3⟩:=h2 j hb;have e:=wK (p:=p) hFb.ck (3*j);cases hD with
  | here f1 f2 f3=>
    rw[hf]at f1;simp at f1;subst f1
    exact .inr ⟨e.trans f2,d2⟩
  | @next _ y _ ws' f1 f2 f3 f4 f5=>
    rw[hf]at f1;simp at f1;subst f1
    have e2:=e.trans f2;simp only[aH]at d1;exact .inl ((g3 _).2 ⟨by omega,by rw[e2];exact f3,by rw[e2,hbr];exact f4,3*j,by omega,hb,rfl⟩)
def sZ(g:aX)(x y:Int):Int:=(price g.ls x y).getD 0
theorem P6{g:aX}(hg:g.Ok)(x y:Int):0≤sZ g x y:=by
 unfold sZ;cases h:price g.ls x y with
 | none=>simp
 | some c=>have:=qN hg h;simp;omega
def Jw(g:aX)(l:List (Int×Int×BitVec 64)):Int:=(l.map fun c=>sZ g c.1 c.2.1).sum
section
variable {g:aX} {l:List Tb} {ts:List Int} {zC:List Ar}
theorem afM(hA:Nq g zC)(ha:∀a∈zC,0≤a.c)(S:Nat){x y w:Int}(h:price g.ls x y=some w):zy zC ts S x≤sZ g x y+zy zC ts S y:=by have:=ale ha ts S (hA.all x y w h);simpa[sZ,h]using this
theorem NU(ha:∀a∈zC,0≤a.c)(x:Int)(f:Nat→Int)(B:Nat→Bool):∀{H:List Int},H≠[]→H.Nodup→(∀h∈H,∃i<5,B i=true∧f i=h)→
  zy zC ts (KT fun i=>B i&&decide (f i∈H)) x≤(H.map fun h=>zy zC ts (KT fun i=>B i&&decide (f i=h)) x).sum
 | [],h,_,_=>absurd rfl h
 | [h],_,_,hH=>by simp only[dH,aC,dQ,iY,List.sum_nil];omega
 | h::h'::H,_,hn,hH=>by
   rw[bG]at hn
   have ih:=NU ha x f B (H:=h'::H) (by simp) hn.2 (fun y hy=>hH y (by simp[aF.1 hy]));obtain⟨e1,e2⟩:=acj (a:=fun i=>B i&&decide (f i=h)) (b:=fun i=>B i&&decide (f i∈h'::H)) (c:=fun i=>B i&&decide (f i∈h::h'::H)) (fun i _=>by
    rw[iE];simp only[aF,aG,bJ,decide_eq_true_eq];constructor
    ·rintro⟨a,b⟩;rcases b with b|b
     ·exact .inl ⟨a,b⟩
     ·exact .inr ⟨a,b⟩
    ·rintro (⟨a,b⟩|⟨a,b⟩)
     ·exact⟨a,.inl b⟩
     ·exact⟨a,.inr b⟩) (fun i _=>by
    rw[←nV];simp only[aG,decide_eq_true_eq];rintro⟨⟨_,a⟩,_,b⟩;exact hn.1 (by rw[←a];exact b))
   obtain⟨i,i1,i2,i3⟩:=hH h (by simp);obtain⟨j,j1,j2,j3⟩:=hH h' (by simp);have p1:0<KT fun i=>B i&&decide (f i=h):=MV i1 (by simp[i2,i3])
   have p2:0<KT fun i=>B i&&decide (f i∈h'::H):=MV j1 (by simp[j2,j3])
   have:=afL ha ts p1 p2 e2 x;rw[e1,aC,iY];omega
theorem aii{f k:Int→Int}:∀{H:List Int},(∀h∈H,f h≤k h)→(H.map f).sum≤(H.map k).sum
 | [],_=>fM _
 | x::H,h=>by
   have:=aii (H:=H) fun y hy=>h y (by simp[hy])
   have:=h x (by simp);simp only[aC,iY];omega
theorem aiZ(hA:Nq g zC)(ha:∀a∈zC,0≤a.c)(hts:ts.length≤5)(hnd:ts.Nodup){c:Int×Pk}(h:Nu g l ts c)(hB:c.2.bits≠0#64):
  (∀d∈nextQ l c,Nu g l ts d∧d.2.bits≠0#64)∧zy zC ts (sB c.2.bits) c.1≤((nextQ l c).map fun d=>sZ g c.1 d.1+zy zC ts (sB d.2.bits) d.1).sum:=by
 obtain⟨b,hf,hbr,H,hn,h1,h2,h3,h4⟩:=TA hts h hB;have hbit:∀x∈H,sB (DX b c.2 x).bits=KT fun i=>c.2.bits.getLsbD (3*i)&&decide (dL b c.2 (3*i)=x):=fun x hx=>JV fun i hi=>h3 x hx i hi
 rw[hn];constructor
 ·intro d hd;obtain⟨x,hx,rfl⟩:=ak.1 hd;obtain⟨_,_,_,a4,i,i1,i2,i3⟩:=h2 x hx;refine⟨a4,fun e=>?_⟩;have:=h3 x hx i i1;simp only at e;rw[e,i2,i3]at this;simp at this
 ·rw[aY];have hs:(H.map fun x=>zy zC ts (KT fun i=>c.2.bits.getLsbD (3*i)&&decide (dL b c.2 (3*i)=x)) c.1).sum≤(H.map ((fun d=>sZ g c.1 d.1+zy zC ts (sB d.2.bits) d.1)∘fun x=>(x,DX b c.2 x))).sum:=by
   refine aii fun x hx=>?_
   obtain⟨_,_,⟨w,hw⟩,_,_⟩:=h2 x hx;rw[←hbit x hx];exact afM hA ha _ hw
  refine iK ?_ hs;by_cases hl:∃j<5,c.2.bits.getLsbD (3*j)=true∧dL b c.2 (3*j)∉H
  ·obtain⟨j,j1,j2,j3⟩:=hl;have hj:=((h4 j j1 j2).resolve_left j3).2;have aoq:∀i<5,(c.2.bits.getLsbD (3*i)&&decide (dL b c.2 (3*i)∉H))=decide (i=j):=by
    intro i hi;rw[iE];simp only[aG,decide_eq_true_eq];constructor
    ·rintro⟨q1,q2⟩;have hi2:=((h4 i hi q1).resolve_left q2).2;obtain⟨l1,l2⟩:=aB.1 hi2;exact(List.getElem?_inj l1 hnd).1 (hi2.trans hj.symm)
    ·rintro rfl;exact⟨j2,j3⟩
   have e1:=ajA j1 aoq;have d1:=alf ha (ts:=ts) hj;by_cases hH:H = []
   ·subst hH;have:sB c.2.bits=2^j:=by
     rw[←e1];exact JV fun i _=>by simp
    rw[this];simpa using d1
   ·obtain⟨e2,e3⟩:=acj (a:=fun i=>c.2.bits.getLsbD (3*i)&&decide (dL b c.2 (3*i)∉H)) (b:=fun i=>c.2.bits.getLsbD (3*i)&&decide (dL b c.2 (3*i)∈H)) (c:=fun i=>c.2.bits.getLsbD (3*i)) (fun i _=>by
     by_cases q:dL b c.2 (3*i)∈H<;>simp[q]) (fun i _=>by
     by_cases q:dL b c.2 (3*i)∈H<;>simp[q])
    have d2:=NU (ts:=ts) ha c.1 (fun i=>dL b c.2 (3*i)) (fun i=>c.2.bits.getLsbD (3*i)) hH h1 (fun x hx=>by
     obtain⟨_,_,_,_,i,i1,i2,i3⟩:=h2 x hx;exact⟨i,i1,i2,i3⟩)
    obtain⟨x,hx⟩:=List.exists_mem_of_ne_nil H hH;obtain⟨_,_,_,_,i,i1,i2,i3⟩:=h2 x hx;have p2:0<KT fun i=>c.2.bits.getLsbD (3*i)&&decide (dL b c.2 (3*i)∈H):=MV i1 (by simp[i2,i3,hx])
    have p1:0<KT fun i=>c.2.bits.getLsbD (3*i)&&decide (dL b c.2 (3*i)∉H):=MV j1 (by simp only[j2,j3];rfl)
    have d3:=afL ha ts p1 p2 e3 c.1;rw[e1]at d3 e2
    have:sB c.2.bits=2^j+KT fun i=>c.2.bits.getLsbD (3*i)&&decide (dL b c.2 (3*i)∈H):=e2
    rw[this];omega
  ·have hall:∀i<5,c.2.bits.getLsbD (3*i)=true→dL b c.2 (3*i)∈H:=fun i hi hb=>Classical.byContradiction fun hn=>hl ⟨i,hi,hb,hn⟩
   have hH:H≠[]:=by intro e;subst e;refine hB ?_;apply fE;intro k hk;rw[gQ,←nV];intro hb;obtain⟨i,hi,rfl⟩:=h.bits k hk hb;have:=hall i (by omega) hb;simp at this
   have d2:=NU (ts:=ts) ha c.1 (fun i=>dL b c.2 (3*i)) (fun i=>c.2.bits.getLsbD (3*i)) hH h1 (fun x hx=>by
    obtain⟨_,_,_,_,i,i1,i2,i3⟩:=h2 x hx;exact⟨i,i1,i2,i3⟩)
   have:sB c.2.bits=KT fun i=>c.2.bits.getLsbD (3*i)&&decide (dL b c.2 (3*i)∈H):=JV fun i hi=>by
    by_cases hb:c.2.bits.getLsbD (3*i)=true
    ·simp[hb,hall i hi hb]
    ·simp[hb]
   rw[this];exact d2
theorem aiT(a b:List (Int×Int×BitVec 64)):Jw g (a++b)=Jw g a+Jw g b:=by simp[Jw]
theorem amd(hA:Nq g zC)(ha:∀a∈zC,0≤a.c)(hts:ts.length≤5)(hnd:ts.Nodup){r:Int}{q:Pk}(h:Nu g l ts (r,q))(hB:q.bits≠0#64):
  zy zC ts (sB q.bits) r≤Jw g (sD l (wt q) [(r,q)] qV).cr:=by
 have:=Ql (l:=l) (I:=fun Q t=>(∀c∈Q,Nu g l ts c∧c.2.bits≠0#64)∧zy zC ts (sB q.bits) r≤Jw g t.cr+(Q.map fun c=>zy zC ts (sB c.2.bits) c.1).sum) (fun c Q t ⟨i1,i2⟩=>by
  obtain⟨c1,c2⟩:=i1 c (by simp);obtain⟨d1,d2⟩:=aiZ hA ha hts hnd c1 c2;refine⟨fun d hd=>?_,?_⟩
  ·rcases aN.1 hd with hd|hd
   ·exact i1 d (by simp[hd])
   ·exact d1 d hd
  ·obtain⟨b,hf,_⟩:=TA hts c1 c2;have e:(stepT l c t).cr=t.cr++(nextQ l c).map (fun d=>(c.1,d.1,d.2.bits)):=by simp[stepT,nextQ,hf]
   rw[e,aiT];have e2:Jw g ((nextQ l c).map fun d=>(c.1,d.1,d.2.bits))=((nextQ l c).map fun d=>sZ g c.1 d.1).sum:=by unfold Jw;rw[aY];rfl
   have e3:∀L:List (Int×Pk),(L.map fun d=>sZ g c.1 d.1+zy zC ts (sB d.2.bits) d.1).sum=(L.map fun d=>sZ g c.1 d.1).sum+(L.map fun d=>zy zC ts (sB d.2.bits) d.1).sum:=by
    intro L
    induction L with
    | nil=>rfl
    | cons d L ih=>simp only[aC,iY,ih];omega
   rw[e2];rw[e3]at d2
   simp only[aC,iY,gu,List.sum_append]at i2⊢;omega) (wt q) [(r,q)] qV (by simp[yN]) ⟨by simpa using⟨h,hB⟩,by simp[Jw,qV]⟩
 simpa using this.2
end
end Go.Proofs

set_option maxHeartbeats 8000000
namespace Go.Proofs
open Go Go.Tr
def rE(ls:List Lk):List Ar:=ls.flatMap fun x=>[⟨x.a,x.b,x.ca⟩,⟨x.b,x.a,x.cb⟩]
def aeW(l:List Ar):List Ar:=l.mergeSort fun a b=>!decide (Lr [b.f,b.t,b.c] [a.f,a.t,a.c]<0)
def az3(l:List Ar):List (List Int):=l.map fun a=>[a.f,a.t,a.c]
theorem amo(l:List Ar):BO (az3 l)=az3 (aeW l):=by unfold BO az3 aeW;exact(List.map_mergeSort (f:=fun a:Ar=>[a.f,a.t,a.c]) fun a _ b _=>rfl).symm
def lY(g:aX):List Ar:=aeW (rE g.ls)
theorem DK:∀ls:List Lk,(rE ls).length=2*ls.length
 | []=>rfl
 | x::ls=>by have:=DK ls;simp only[rE,jf,aU,aH,dh]at this⊢;omega
theorem Ze(ls:List Lk)(x:Lk):rE (ls++[x])=rE ls++[⟨x.a,x.b,x.ca⟩,⟨x.b,x.a,x.cb⟩]:=by simp[rE]
theorem O5{ls:List Lk}{a:Ar}:a∈rE ls↔∃x∈ls,a=⟨x.a,x.b,x.ca⟩∨a=⟨x.b,x.a,x.cb⟩:=by simp[rE,gJ]
theorem Fb{g:aX}(hg:g.Ok){a:Ar}(h:a∈rE g.ls):price g.ls a.f a.t=some a.c:=by
 obtain⟨x,hx,e⟩:=O5.1 h;have:=zY hg.lpw (fun x hx=>hg.lab hx) hx;rcases e with rfl|rfl
 ·exact this.1
 ·exact this.2
theorem ahm{g:aX}(hg:g.Ok):yX Lr (az3 (rE g.ls)):=J5 fun x hx y hy h1 h2=>by
 obtain⟨a,ha,rfl⟩:=ak.1 hx;obtain⟨b,hb,rfl⟩:=ak.1 hy;have e1:=Fb hg ha;have e2:=Fb hg hb;simp only[List.getD_cons_zero,List.getD_cons_succ]at h1 h2;rw[h1,h2,e2]at e1
 simp only[ah]at e1;simp[h1,h2,e1]
theorem alW(g:aX)(hg:g.Ok):Contract Tryz.prog 56 [eU g] [] (.d (.sl ((lY g).map oD))) [] []:=by
 have hnl:=hg.nl;have hpp:=ahm hg;have hal:=DK g.ls;have hR:dd ((rE g.ls).map oD)=dd (uj (az3 (rE g.ls))):=by simp[az3,uj,aY,Function.comp_def];rfl
 have hT:dd (uj (BO (az3 (rE g.ls))))=dd ((lY g).map oD):=by rw[amo];simp[az3,lY,uj,aY,Function.comp_def];rfl
 have hzl:(az3 (rE g.ls)).length=2*g.ls.length:=by simp[az3,hal]
 have hrl:(lY g).length=2*g.ls.length:=by simp[lY,aeW,hal]
 refine ay Tryz.func56 rfl (fun E0=>?_);refine iC.sound (g:=.mk) (ow:=[1000123]) (kp:=(kb 0x7af)) ?_;rw[Tryz.ntmps56];simp -dsimp[eU]
 refine dD.of [1000123] (kb 0x7af) (ι:={i:Nat // i≤g.ls.length}) (fun z=>[(.o 1,It.box [TV.d (.sl (rts g.rs)),TV.d (.sl (nS g.ls))]),(.s 1,It.v (.ptr (.o 1) 0)),
  (.s 3,It.v (.aW 3 (rE (g.ls.take z.1)).length)),(.o 3,It.row 232 3 (dd ((rE (g.ls.take z.1)).map oD)) false),
  (.s 7,It.v (.d (.sl (nS g.ls)))),(.s 8,It.v (.d (.int .i64 g.ls.length))),(.s 9,It.v (.d (.int .i64 z.1)))]) (fun z=>g.ls.length-z.1) ⟨0,by omega⟩ ?_ ?_
 ·exact GS.own' (k:=3) 232 3 (by simp) (by simp) (by simp[nS,rE])
 ·rintro⟨i,i1⟩;by_cases hi:i<g.ls.length
  ·have hiz:(i:Int)<g.ls.length:=by omega
   have hl:=aj hi;have ht:rE (g.ls.take (i+1))=rE (g.ls.take i)++[⟨g.ls[i].a,g.ls[i].b,g.ls[i].ca⟩,⟨g.ls[i].b,g.ls[i].a,g.ls[i].cb⟩]:=by rw[aT,hl];exact Ze _ _
   have hlen:(rE (g.ls.take i)).length≤1000:=by rw[DK];simp;omega
   generalize g.ls[i]=x at hl ht;generalize rE (g.ls.take i)=K at ht hlen⊢;simp -dsimp[hiz,hl,nS,Lk.cs,wrap_i64 (n:=(i:Int)+1) (by omega) (by omega)];and_intros;all_goals try first|rfl|omega|exact⟨by kernel_rfl⟩
   exact⟨⟨i+1,by omega⟩,GS.to (by simp[ht,oD,nS]),by simp;omega⟩
  ·have hiz :¬(i:Int)<g.ls.length:=by omega
   rw[show g.ls.take i=g.ls from aS (by omega)];rw[hR,hal];simp -dsimp[hiz];refine aI.YL aa4 (az3 (rE g.ls)) ?_;simp -dsimp[hzl,hpp];rw[hT];refine⟨by omega,?_⟩;refine Fin.view 2 ?_;simp -dsimp[hrl];refine Fin.of ?_;simp
theorem JU{g:aX}{a:Ar}:a∈lY g↔a∈rE g.ls:=(fU _ _).mem_iff
theorem BZ{g:aX}(hg:g.Ok):∀a∈lY g,1≤a.c∧a.c≤1000000000∧a.t≠0:=fun a ha=>by
 obtain⟨x,hx,e⟩:=O5.1 (JU.1 ha);have hc:=hg.c hx;have he:=hg.ends' hx;have h1:=hg.id he.1;have h2:=hg.id he.2;simp only[EU]at h1 h2;rcases e with rfl|rfl
 ·exact⟨hc.1.1,by have:=hc.1.2;simp only;omega,by simp only;omega⟩
 ·exact⟨hc.2.1,by have:=hc.2.2;simp only;omega,by simp only;omega⟩
theorem WA{g:aX}(hg:g.Ok):Nq g (lY g) where
 c a ha:=Fb hg (JU.1 ha)
 all x y c h:=by
  rw[JU,O5];obtain⟨z,hz,⟨rfl,rfl,rfl⟩|⟨rfl,rfl,rfl⟩⟩:=qQ h
  ·exact⟨z,hz,.inl rfl⟩
  ·exact⟨z,hz,.inr rfl⟩
theorem DN(g:aX):(lY g).length=2*g.ls.length:=by simp[lY,aeW,DK]
theorem afy(A:List Ar)(root:Int):Contract Tryz.prog 55 [.d (.sl (A.map oD)),.d (.int .i64 root),.d (ints [])] [] (.qh [.d (.sl []),.d (.int .i64 0),.d (.bool true)]) [] []:=by
 refine ay Tryz.func55 rfl (fun E0=>?_);refine iC.sound (g:=.mk) (ow:=[5000117,5000119,5000120,39,46,3000038,3000045,1000099]) (kp:=(kb 0x20000002800800081f00000007027ffc7)) ?_;rw[Tryz.ntmps55];simp -dsimp[ints]
 and_intros;all_goals try first|rfl|omega|exact⟨by kernel_rfl⟩
 refine Fin.view 6 ?_;simp -dsimp;refine Fin.of ?_;simp
section
variable (g:aX) (h0:jo g=0) (r:Int) (rs:List Int) (hr:dF g.rs r=true) (hl:rs.length≤6) (ha:rs.Pairwise (· < ·)) (hh:∀x∈rs,dF g.rs x=true)
include h0 hr hl ha hh
theorem aeP(hz:rs = []):Contract Tryz.prog 21 [eU g,.d (.int .i64 r),.d (ints rs)] [] (.qh [vw r [],.d (.int .i64 0),.d (.int .i64 0)]) [] []:=by
 have hbg:=L6 g h0 r rs hr (by omega) ha hh;have hof:=alW g (dV h0);subst hz;have hch:=afy (lY g) r;simp only[eU]at hbg hof;refine ay Tryz.func21 rfl (fun E0=>?_);refine iC.sound (g:=.mk) (ow:=[]) (kp:=(kb 0x800841fcf)) ?_;rw[Tryz.ntmps21];simp -dsimp[eU];refine aI.of hbg [] 0 ?_
 simp -dsimp[ints];refine aI.of hof [] 0 ?_;simp -dsimp;refine aI.of hch [] 0 ?_;simp -dsimp;and_intros;all_goals try first|rfl|omega|exact⟨by kernel_rfl⟩
 refine Fin.of ?_;simp[vw,hps]
theorem aeQ(hz:rs≠[])(hf:uO≤zy (lY g) rs (2^rs.length-1) r):Contract Tryz.prog 21 [eU g,.d (.int .i64 r),.d (ints rs)] [] (.qh [vw 0 [],.d (.int .i64 0),.d (.int .i64 9)]) [] []:=by
 have hg:=dV h0;have hnl:=hg.nl;have hbg:=L6 g h0 r rs hr (by omega) ha hh;have hof:=alW g hg;have hrl:=DN g;have hll :¬(6:Int)<rs.length:=by omega
 obtain⟨d,hd⟩:∃d,d=zy (lY g) rs (2^rs.length-1) r:=⟨_,rfl⟩
 have hch:=abw (lY g) (BZ hg) (by omega) r rs hl hz [] (fun h=>by omega);rw[←hd]at hf hch
 rw[NK,if_pos hf]at hch
 simp only[eU]at hbg hof;refine ay Tryz.func21 rfl (fun E0=>?_);refine iC.sound (g:=.mk) (ow:=[]) (kp:=(kb 0x800841fcf)) ?_;rw[Tryz.ntmps21];simp -dsimp[eU];refine aI.of hbg [] 0 ?_;simp -dsimp[ints,hll];refine aI.of hof [] 0 ?_;simp -dsimp;simp only[ints]at hch;refine aI.of hch [] 0 ?_
 simp -dsimp;and_intros;all_goals try first|rfl|omega|exact⟨by kernel_rfl⟩
 refine Fin.box (.o 6) rfl ?_;simp -dsimp;refine Fin.of ?_;simp[vw,hps]
theorem Uo(hz:rs≠[])(hf:zy (lY g) rs (2^rs.length-1) r<uO)(L:List (Int×Int))(hcl:vJ (kE (lY g) rs (2^rs.length)) (2^rs.length-1) r L)(atn:L.length≤100000):Contract Tryz.prog 21 [eU g,.d (.int .i64 r),.d (ints rs)] [] (.qh [vw r (zu L),.d (.int .i64 (zy (lY g) rs (2^rs.length-1) r)),.d (.int .i64 0)]) [] []:=by
 have hg:=dV h0;have hnl:=hg.nl;have hbg:=L6 g h0 r rs hr (by omega) ha hh;have hof:=alW g hg;have hrl:=DN g;have hll :¬(6:Int)<rs.length:=by omega
 obtain⟨d,hd⟩:∃d,d=zy (lY g) rs (2^rs.length-1) r:=⟨_,rfl⟩
 have hch:=abw (lY g) (BZ hg) (by omega) r rs hl hz L (fun _=>⟨hcl,atn⟩);rw[←hd]at hf hch⊢
 rw[NK,if_neg (by omega)]at hch
 simp only[eU]at hbg hof;refine ay Tryz.func21 rfl (fun E0=>?_);refine iC.sound (g:=.mk) (ow:=[]) (kp:=(kb 0x800841fcf)) ?_;rw[Tryz.ntmps21];simp -dsimp[eU];refine aI.of hbg [] 0 ?_;simp -dsimp[ints,hll];refine aI.of hof [] 0 ?_;simp -dsimp;simp only[ints]at hch;refine aI.of hch [] 0 ?_
 simp -dsimp;and_intros;all_goals try first|rfl|omega|exact⟨by kernel_rfl⟩
 refine Fin.of ?_;simp[vw]
omit hr ha hh in
theorem Zw(hz:rs≠[])(hf:zy (lY g) rs (2^rs.length-1) r<uO):∃L,vJ (kE (lY g) rs (2^rs.length)) (2^rs.length-1) r L∧L.length≤100000:=by
 have hg:=dV h0;have hnl:=hg.nl;have an7:2^rs.length≤64:=nP (n:=2) (by omega) hl;have hpos:0<2^rs.length:=Nat.two_pow_pos _;have hA:=BZ hg;rw[zy,←oN (lY g) rs (n:=2^rs.length) (by omega)]at hf
 cases e:((kE (lY g) rs (2^rs.length)).getD (2^rs.length-1) iP).1 r with
 | none=>rw[lC,e]at hf;simp at hf
 | some c=>obtain⟨L,h1,h2⟩:=afB (fun a ha=>⟨(hA a ha).1,(hA a ha).2.2⟩) (2^rs.length-1) (by omega) r c e;refine⟨L,h1,?_⟩;have h3:=Mc ((kE (lY g) rs (2^rs.length)).getD (2^rs.length-1) iP).1 c (lY g);have h4:(2*(2^rs.length-1)-2)*(lY g).length≤126*120:=lN (by omega) (by rw[DN];omega);have h5:=DN g;omega
end
end Go.Proofs

namespace Go.Proofs
open Go Go.Tr
theorem al7{g:aX}{A:List Ar}(hA:Nq g A){x t:Int}(h:RaC A x t):∃k u,Wk g t k x u:=by
 induction h with
 | nil=>exact⟨0,0,.nil⟩
 | @cons a t ha _ ih=>obtain⟨k,u,h⟩:=ih;exact⟨k+1,_,.cons (hA.c a ha) h⟩
theorem Zv{g:aX}(h0:jo g=0){r:Int}{rs:List Int}(hl:rs.length≤6)(hz:rs≠[])(hh:∀x∈rs,dF g.rs x=true)(hf:zy (lY g) rs (2^rs.length-1) r<uO):∀x∈rs,dst g x r<far:=fun x hx=>by
 have hg:=dV h0;have hpos:0<2^rs.length:=Nat.two_pow_pos _;have hA:=BZ hg;rw[zy,←oN (lY g) rs (n:=2^rs.length) (by omega)]at hf
 cases e:((kE (lY g) rs (2^rs.length)).getD (2^rs.length-1) iP).1 r with
 | none=>rw[lC,e]at hf;simp at hf
 | some c=>obtain⟨i,hi,hxi⟩:=dW.1 hx;have hr:=aeZ (fun a ha=>⟨(hA a ha).1,(hA a ha).2.2⟩) hl (S:=2^rs.length-1) (by omega) e i hi (by rw[Nat.testBit_two_pow_sub_one];simpa using hi) x (by rw[aj hi,hxi]);obtain⟨k,u,hw⟩:=al7 (WA hg) hr;exact(wH hg (hh x hx) hw).2
def WZ(rs:List Int):List Ed:=rs.zipIdx.map fun x=>⟨x.1,3*x.2+1⟩
def QI(rs:List Int):Pn:=⟨0,16,WZ rs⟩
def S_(n:Nat):List Int:=(List.range n).map fun (i:Nat)=>(3*(i:Int)+1)
def WG(n:Nat):BitVec 64:=(List.range n).foldl (fun B i=>B|||1#64<<<(3*i)) 0#64
def Aj(e:Int)(n:Nat):Pk:=⟨1,0,0,16,63,e,0,0,WG n,ByteArray.empty⟩
theorem Me(rs:List Int):(WZ rs).length=rs.length:=by simp[WZ]
theorem Md{rs:List Int}{i:Nat}(h:i<rs.length):(WZ rs)[i]? = some ⟨rs[i],3*i+1⟩:=by simp[WZ,h]
theorem ahv{g:aX}(hg:g.Ok){rs:List Int}(hl:rs.length≤5)(ha:rs.Pairwise (· < ·))(hh:∀x∈rs,dF g.rs x=true):oJ (QI rs)=true:=by
 have gi:∀i (hi:i<rs.length),gid (WZ rs) i=3*i+1∧OG (WZ rs) i=rs[i]:=fun i hi=>by have:=Md hi;simp[gid,OG,List.getD,this]
 have hin:∀i (hi:i<rs.length),1≤rs[i]∧rs[i]≤99:=fun i hi=>by have:=hg.id (hh rs[i] (aJ hi));simpa[EU]using this
 refine PZ ?_ (fun i hi=>?_) (fun i j hj hi=>?_)
 ·simp[yO,QI,Me,inB,eP];omega
 ·have hi':i<rs.length:=by simpa[QI,Me]using hi
  have h1:=gi i hi';have h2:=hin i hi';simp only[QI,edB,inB,h1.1,h1.2,aG,bJ,decide_eq_true_eq];refine⟨⟨by omega,by omega⟩,⟨by omega,by omega⟩,?_⟩;by_cases h0:i=0
  ·exact .inl h0
  ·have h3:=gi (i-1) (by omega);exact .inr (by rw[h3.1];omega)
 ·have hi':i<rs.length:=by simpa[QI,Me]using hi
  show OG (WZ rs) i≠OG (WZ rs) j
  rw[(gi i hi').2,(gi j (by omega)).2];have:=bC.1 ha j i (by omega) hi' hj;omega
theorem abW(n:Nat):(S_ n).length=n:=by simp[S_]
theorem ajq(rs:List Int):((S_ rs.length).all (FN (QI rs)))=true:=by
 rw[bM];intro x hx;obtain⟨i,hi,rfl⟩:=ak.1 hx;rw[bI]at hi
 rw[FN,List.find?_isSome];have:=Md hi;exact⟨_,bF this,by simp⟩
theorem am8(n:Nat):Zf (S_ n)=true:=by
 simp only[Zf,decide_eq_true_eq];intro i h0 hi;rw[abW]at hi
 have h1:i-1<n:=by omega
 simp[S_,List.getD,hi,h1];omega
theorem amk{n:Nat}(h:n≤5)(h0:0<n):z_ 16 (S_ n) [] = [⟨0,WG n⟩]:=by
 match n,h,h0 with
 | 1,_,_=>rfl
 | 2,_,_=>rfl
 | 3,_,_=>rfl
 | 4,_,_=>rfl
 | 5,_,_=>rfl
theorem ahu{n:Nat}(h:n≤5){e:Int}(he:0≤e∧e≤1023):(Aj e n).ok=true:=by
 have hv:wz (WG n) 16=true:=by
  match n,h with
  | 0,_=>decide+kernel
  | 1,_=>decide+kernel
  | 2,_=>decide+kernel
  | 3,_=>decide+kernel
  | 4,_=>decide+kernel
  | 5,_=>decide+kernel
 rw[Vr];simp[Aj,hv,he]
theorem al3{g:aX}(hg:g.Ok){rs:List Int}(hl:rs.length≤5)(ha:rs.Pairwise (· < ·))(hh:∀x∈rs,dF g.rs x=true){e:Int}(he:0≤e∧e≤1023):
  acz (QI rs) (S_ rs.length) ⟨1,0,0,0,63,e,0,0,0#64,ByteArray.empty⟩ = (if rs = []then []else [Aj e rs.length],0):=by
 have hs:xI (QI rs) (S_ rs.length)=(z_ 16 (S_ rs.length) [],0):=by unfold xI;rw[if_pos (ahv hg hl ha hh),if_pos (am8 _),if_pos (ajq rs)];rfl
 unfold acz;rw[hs];by_cases hz:rs = []
 ·subst hz;rfl
 ·rw[if_neg hz,amk hl (nZ.2 hz)];have e1:(Pk.with ⟨1,0,0,0,63,e,0,0,0#64,ByteArray.empty⟩ (QI rs) ⟨0,WG rs.length⟩)=Aj e rs.length:=rfl;simp only[if_true,Iy,e1,ahu hl he,dJ]
def tZ:List Int:=[1,1,1,2,5]
def sO(T:Tp):Nat→Tp×Int×List Rt
 | 0=>(T,0,[])
 | i+1=>let s:=sO T i;let w:=m_ s.1 tZ;(w.2,s.2.1+w.1,s.2.2++[⟨s.2.1+w.1,true⟩])
abbrev Mx:=Nat→Nat→Bool
def O8(M:Mx)(a b:Nat):Mx:=fun i j=>if i=a∧j=b then true else M i j
def qL(T:Tp):Nat→Tp×Mx
 | 0=>(T,fun _ _=>false)
 | i+1=>let s:=qL T i;let w:=eG s.1 12
   if w.1<11 then(let v:=eG w.2 ((i:Int)+1);(v.2,O8 s.2 v.1.toNat (i+1)))else(w.2,s.2)
def oH(n:Nat)(T:Tp)(M:Mx):Nat→Tp×Mx
 | 0=>(T,M)
 | k+1=>let s:=oH n T M k;let a:=eG s.1 n;let b:=eG a.2 n
   (b.2,if a.1=b.1 then s.2 else O8 s.2 (min a.1 b.1).toNat (max a.1 b.1).toNat)
def qo:List Int:=[0,1,2,3,5,10,1000]
def FC(flat:Bool)(x y:Int)(T:Tp):Lk×Tp:=
 let c:=m_ T qo
 if flat then(⟨x,y,1,1,c.1⟩,c.2)else
 let u:=ji c.2 1 20
 let v:=m_ u.2 [1,2,3,u.1,1000]
 let w:=ji v.2 1 20
 let z:=m_ w.2 [v.1,v.1,w.1]
 (⟨x,y,v.1,z.1,c.1⟩,z.2)
def rid(rs:List Rt)(i:Nat):Int:=(rs.getD i ⟨0,false⟩).id
def BD(flat:Bool)(rs:List Rt)(s:List Lk×Tp)(q:Nat×Nat):List Lk×Tp:=
 let r:=FC flat (rid rs q.1) (rid rs q.2) s.2;(s.1++[r.1],r.2)
def rowP(M:Mx)(a m:Nat):List (Nat×Nat):=((List.range m).filter (M a)).map fun b=>(a,b)
def QJ(M:Mx)(n a b:Nat):List (Nat×Nat):=((List.range a).flatMap fun x=>rowP M x n)++rowP M a b
def wQ(flat:Bool)(rs:List Rt)(M:Mx)(T:Tp)(n a b:Nat):List Lk×Tp:=(QJ M n a b).foldl (BD flat rs) ([],T)
theorem Ew(M:Mx)(a m:Nat):rowP M a (m+1)=rowP M a m++if M a m=true then [(a,m)]else []:=by
 unfold rowP;rw[jI,fP,gu]
 grind
theorem aed{flat:Bool}{rs:List Rt}{M:Mx}{T:Tp}{n a b:Nat}(h:M a b=false):wQ flat rs M T n a (b+1)=wQ flat rs M T n a b:=by grind[wQ,QJ,Ew]
theorem aec{flat:Bool}{rs:List Rt}{M:Mx}{T:Tp}{n a b:Nat}(h:M a b=true):wQ flat rs M T n a (b+1)=BD flat rs (wQ flat rs M T n a b) (a,b):=by unfold wQ QJ;rw[Ew,h,if_pos rfl,←dP,dZ];rfl
theorem ag2{flat:Bool}{rs:List Rt}{M:Mx}{T:Tp}{n a:Nat}:wQ flat rs M T n a n=wQ flat rs M T n (a+1) 0:=by simp[wQ,QJ,jI,rowP]
structure aq6 where
 n:Nat
 T1:Tp
 rs:List Rt
 T2:Tp
 M:Mx
 k:Nat
 T3:Tp
 M2:Mx
 flat:Bool
 T4:Tp
def iJ(T:Tp)(most:Int):aq6:=
 let a:=ji T 1 most
 let n:=a.1.toNat
 let r:=sO a.2 n
 let t:=qL r.1 (n-1)
 let k:=eG t.1 ((n:Int)+2)
 let m:=oH n k.2 t.2 k.1.toNat
 let f:=eG m.1 3
 ⟨n,a.2,r.2.2,r.1,t.2,k.1.toNat,k.2,m.2,decide (f.1=0),f.2⟩
def qK(T:Tp)(most:Int):aX×Tp:=
 let P:=iJ T most
 (⟨P.rs,(wQ P.flat P.rs P.M2 P.T4 P.n P.n 0).1⟩,(wQ P.flat P.rs P.M2 P.T4 P.n P.n 0).2)
theorem Iw(T:Tp){l:List Int}(h:0<l.length):(m_ T l).1∈l:=by have h2:=l7 T (n:=l.length) (by omega);unfold m_;simp[*]
theorem Tc(T:Tp):1≤(m_ T tZ).1∧(m_ T tZ).1≤5:=by grind[Iw,tZ]
theorem Vm(T:Tp):∀i:Nat,(sO T i).2.2.length=i∧(i:Int)≤(sO T i).2.1∧(sO T i).2.1≤5*i∧(∀x∈(sO T i).2.2,1≤x.id∧x.id≤(sO T i).2.1∧x.cap=true)∧(sO T i).2.2.Pairwise fun x y=>x.id<y.id
 | 0=>by simp[sO]
 | i+1=>by
   obtain⟨h1,h2,h3,h4,h5⟩:=Vm T i;have hp:=Tc (sO T i).1;simp only[sO]
   grind
def Up(n:Nat)(M:Mx):Prop:=∀i j,M i j=true→i<j∧j<n
theorem Up.set{n:Nat}{M:Mx}(h:Up n M){a b:Nat}(hab:a<b)(hb:b<n):Up n (O8 M a b):=by
 intro i j e;unfold O8 at e;split at e
 ·omega
 ·exact h i j e
theorem X_(T:Tp)(n:Nat):∀i:Nat,i≤n-1→Up n (qL T i).2
 | 0,_=>fun i j e=>by trivial
 | i+1,h=>by
   have ih:=X_ T n i (by omega);simp only[qL];split
   ·have h2:=l7 (eG (qL T i).1 12).2 (n:=(i:Int)+1) (by omega);exact ih.set (by omega) (by omega)
   omega
theorem X8{n:Nat}(hn:0<n)(T:Tp){M:Mx}(hM:Up n M):∀k:Nat,Up n (oH n T M k).2
 | 0=>hM
 | k+1=>by
   have ih:=X8 hn T hM k;simp only[oH];split
   ·omega
   ·have h1:=iT (oH n T M k).1 n;have h2:=l7 (oH n T M k).1 (n:=n) (by omega);have h3:=iT (eG (oH n T M k).1 n).2 n;have h4:=l7 (eG (oH n T M k).1 n).2 (n:=n) (by omega);exact ih.set (by omega) (by omega)
theorem Zt(T:Tp):0≤(m_ T qo).1∧(m_ T qo).1≤1000:=by have:=Iw T (l:=qo) (by trivial);generalize (m_ T qo).1=y at this⊢;simp[qo]at this;omega
theorem ajc(flat:Bool)(x y:Int)(T:Tp):(FC flat x y T).1.a=x∧(FC flat x y T).1.b=y∧(1≤(FC flat x y T).1.ca∧(FC flat x y T).1.ca≤1000)∧(1≤(FC flat x y T).1.cb∧(FC flat x y T).1.cb≤1000)∧0≤(FC flat x y T).1.cap∧(FC flat x y T).1.cap≤1000:=by
 have hc:=Zt T;unfold FC;simp only;split
 ·simp[*]
 ·generalize (m_ T qo).2=T1;have u1:=uD T1 1 20;have u2:=uz T1 (a:=1) (b:=20) (by omega);generalize ji T1 1 20=u at u1 u2⊢;have v1:=Iw u.2 (l:=[1,2,3,u.1,1000]) (by simp);generalize m_ u.2 [1,2,3,u.1,1000]=v at v1⊢;have w1:=uD v.2 1 20;have w2:=uz v.2 (a:=1) (b:=20) (by omega);generalize ji v.2 1 20=w at w1 w2⊢
  have z1:=Iw w.2 (l:=[v.1,v.1,w.1]) (by simp)
  grind
theorem Yo(flat:Bool)(rs:List Rt):∀(ps:List (Nat×Nat)) (s:List Lk×Tp),(ps.foldl (BD flat rs) s).1.map (fun x=>(x.a,x.b))=s.1.map (fun x=>(x.a,x.b))++ps.map (fun q=>(rid rs q.1,rid rs q.2))∧
  ((∀x∈s.1,(1≤x.ca∧x.ca≤1000)∧(1≤x.cb∧x.cb≤1000)∧0≤x.cap∧x.cap≤1000)→∀x∈(ps.foldl (BD flat rs) s).1,(1≤x.ca∧x.ca≤1000)∧(1≤x.cb∧x.cb≤1000)∧0≤x.cap∧x.cap≤1000)
 | [],s=>⟨by simp,fun h=>h⟩
 | q::ps,s=>by
   obtain⟨h1,h2⟩:=Yo flat rs ps (BD flat rs s q);have hk:=ajc flat (rid rs q.1) (rid rs q.2) s.2;rw[bV];refine⟨?_,fun h=>h2 fun x hx=>?_⟩
   ·grind[BD]
   ·rcases aN.1 hx with hx|hx
    ·exact h x hx
    ·obtain rfl:=dH.1 hx;exact hk.2.2
theorem X0{M:Mx}{a m:Nat}{q:Nat×Nat}:q∈rowP M a m↔q.1=a∧q.2<m∧M q.1 q.2=true:=by
 simp only[rowP,ak,bK,bI,aO]
 grind
theorem ajy{M:Mx}{n a:Nat}{q:Nat×Nat}(h:q∈QJ M n a 0):q.1<a∧q.2<n∧M q.1 q.2=true:=by
 simp only[QJ,rowP,List.range_zero,List.filter_nil,dQ,bQ,gJ,bI]at h
 grind
theorem al6(M:Mx)(n a:Nat):(QJ M n a 0).Pairwise fun q s=>q.1<s.1∨(q.1=s.1∧q.2<s.2):=by
 simp only[QJ];rw[show rowP M a 0 = [] from rfl,bQ]
 induction a with
 | zero=>simp
 | succ a ih=>
   rw[jI,List.flatMap_append,jC];refine⟨ih,?_,fun q hq s hs=>?_⟩
   ·simp only[jf,List.flatMap_nil,bQ,rowP,d_];refine List.Pairwise.imp ?_ ((List.pairwise_lt_range (n:=n)).filter _);intro x y h;exact .inr ⟨by first|rfl|trivial,h⟩
   ·obtain⟨x,hx,hq⟩:=gJ.1 hq;obtain⟨y,hy,hs⟩:=gJ.1 hs;have h1:=X0.1 hq;have h2:=X0.1 hs;have h3:=bI.1 hx;have h4:=dH.1 hy;left;omega
theorem Yy(M:Mx)(a m:Nat):(rowP M a m).length≤m:=by grind[rowP]
theorem ajP(M:Mx)(n a:Nat):(QJ M n a 0).length≤a*n:=by
 simp only[QJ];rw[show rowP M a 0 = [] from rfl,bQ]
 induction a with
 | zero=>simp
 | succ a ih=>
   rw[jI,List.flatMap_append,aU];have:=Yy M a n
   grind
theorem aeL{M:Mx}{n:Nat}(h:Up n M)(a m:Nat):(rowP M a (m+1)).length≤m:=by
 induction m with
 | zero=>
   have:M a 0=false:=by
    cases e:M a 0 with
    | false=>rfl
    | true=>have:=(h a 0 e).1;omega
   rw[Ew,this];simp[rowP]
 | succ m ih=>
   rw[Ew,aU];split
   ·simp only[aH,dh];omega
   ·simp only[dh];omega
theorem ahB{M:Mx}{n:Nat}(h:Up (n+1) M)(a:Nat):(QJ M (n+1) a 0).length≤a*n:=by
 simp only[QJ];rw[show rowP M a 0 = [] from rfl,bQ]
 induction a with
 | zero=>simp
 | succ a ih=>rw[jI,List.flatMap_append,aU,Nat.succ_mul];have:=aeL h a n;simp only[jf,List.flatMap_nil,bQ];omega
theorem aaS{rs:List Rt}(h:rs.Pairwise fun x y=>x.id<y.id){i j:Nat}(hij:i<j)(hj:j<rs.length):rid rs i<rid rs j:=by
 unfold rid
 grind[List.pairwise_iff_getElem]
theorem VF{rs:List Rt}{i:Nat}(hi:i<rs.length):dF rs (rid rs i)=true:=by refine jQ.2 (ak.2 ⟨rs[i],aJ hi,?_⟩);unfold rid;simp[*]
theorem Oz(T:Tp){most:Int}(hm:1≤most∧most≤8):jo (qK T most).1=0∧E_ (qK T most).1∧1≤(qK T most).1.rs.length∧((qK T most).1.rs.length:Int)≤most:=by
 have a1:=uD T 1 most;have a2:=uz T (a:=1) (b:=most) (by omega);obtain⟨r1,r2,r3,r4,r5⟩:=Vm (ji T 1 most).2 (ji T 1 most).1.toNat;have hn:0<(ji T 1 most).1.toNat:=by omega
 have hup:Up (ji T 1 most).1.toNat (iJ T most).M2:=X8 hn _ (X_ _ _ _ (au _)) _;have hrs:(iJ T most).rs=(sO (ji T 1 most).2 (ji T 1 most).1.toNat).2.2:=rfl;have hnn:(iJ T most).n=(ji T 1 most).1.toNat:=rfl;have e1:(qK T most).1.rs=(iJ T most).rs:=rfl
 have e2:(qK T most).1.ls=((QJ (iJ T most).M2 (iJ T most).n (iJ T most).n 0).foldl (BD (iJ T most).flat (iJ T most).rs) ([],(iJ T most).T4)).1:=rfl;obtain⟨g1,g2⟩:=Yo (iJ T most).flat (iJ T most).rs (QJ (iJ T most).M2 (iJ T most).n (iJ T most).n 0) ([],(iJ T most).T4);rw[←e2]at g1 g2
 simp only[dQ,dJ]at g1;have hlen:(qK T most).1.ls.length=(QJ (iJ T most).M2 (iJ T most).n (iJ T most).n 0).length:=by have:=congrArg List.length g1;grind
 have hn7:(iJ T most).n≤8:=by omega
 have hpl:(QJ (iJ T most).M2 (iJ T most).n (iJ T most).n 0).length≤56:=by
  obtain⟨k,hk⟩:∃k,(iJ T most).n=k+1:=⟨(iJ T most).n-1,by omega⟩
  rw[hnn.symm.trans hk]at hup
  rw[hk];exact dw (ahB hup (k+1)) (dw (lN (show k+1≤8 by omega) (show k≤7 by omega)) (by decide))
 have hmem:∀x∈(qK T most).1.ls,∃q∈QJ (iJ T most).M2 (iJ T most).n (iJ T most).n 0,x.a=rid (iJ T most).rs q.1∧x.b=rid (iJ T most).rs q.2:=fun x hx=>by
  have:(x.a,x.b)∈(qK T most).1.ls.map fun x=>(x.a,x.b):=eX hx
  grind
 have hq':∀q∈QJ (iJ T most).M2 (iJ T most).n (iJ T most).n 0,q.1<q.2∧q.2<(iJ T most).rs.length:=fun q hq=>by have:=ajy hq;have h2:=hup q.1 q.2 this.2.2;simp[*]
 have hpw:(iJ T most).rs.Pairwise fun x y=>x.id<y.id:=by trivial
 refine⟨aiN (by grind) (by omega) (fun x hx=>?_) (by trivial) (g2 (by simp)) (fun x hx=>?_) (fun x hx=>?_) ?_,fun x hx=>?_,by grind,by grind⟩
 ·grind
 ·grind[VF]
 ·obtain⟨q,hq,h1,h2⟩:=hmem x hx;have:=hq' q hq;rw[h1,h2];exact aaS hpw this.1 this.2
 ·have hpp:((qK T most).1.ls.map fun x=>(x.a,x.b)).Pairwise fun u v=>u.1<v.1∨(u.1=v.1∧u.2<v.2):=by
   rw[g1,d_];refine List.Pairwise.imp_of_mem ?_ (al6 _ _ _);intro q s hq hs h;have h1:=hq' q hq;have h2:=hq' s hs;rcases h with h|⟨h,h'⟩
   ·exact .inl (aaS hpw h (by omega))
   ·exact .inr ⟨by simp only[h],aaS hpw h' h2.2⟩
  rw[d_]at hpp
  exact hpp
 simp_all
theorem Ti(l:List Int)(n:Int):(yg l n).length≤l.length+1:=by grind[yg]
def aey:List Int:=[1,1,1,2,7,9]
def ag3(rs:List Rt)(ord:List Int)(T:Tp):Nat→Tp×Int×List Ed
 | 0=>(T,0,[])
 | i+1=>let s:=ag3 rs ord T i;let a:=eG s.1 4
   if a.1=0 then(a.2,s.2)else(let w:=m_ a.2 aey;(w.2,s.2.1+w.1,s.2.2++[⟨rid rs (ord.getD i 0).toNat,s.2.1+w.1⟩]))
@[simp]theorem aef(rs:List Rt)(ord:List Int)(T:Tp):∀i:Nat,iD (ag3 rs ord T i).1=iD T
 | 0=>rfl
 | i+1=>by have ih:=aef rs ord T i;simp only[ag3];split<;>simp[ih]
def qg(rs:List Rt)(T:Tp):Nat→Tp×List Int
 | 0=>(T,[])
 | i+1=>let s:=qg rs T i;let v:=eG s.1 rs.length;(v.2,yg s.2 (rid rs v.1.toNat))
def Ia(rs:List Rt)(T:Tp)(n:Int):List Int×Tp:=
 let k:=eG T (n+1)
 let s:=qg rs k.2 k.1.toNat
 (s.2,s.1)
@[simp]theorem aeg(rs:List Rt)(T:Tp):∀i:Nat,iD (qg rs T i).1=iD T
 | 0=>rfl
 | i+1=>by simp only[qg,SK];exact aeg rs T i
@[simp]theorem amO(rs:List Rt)(T:Tp)(n:Int):iD (Ia rs T n).2=iD T:=by simp[Ia]
theorem JY(rs:List Rt)(T:Tp):∀i:Nat,(qg rs T i).2.length≤i
 | 0=>by simp[qg]
 | i+1=>by have ih:=JY rs T i;have:=Ti (qg rs T i).2 (rid rs (eG (qg rs T i).1 rs.length).1.toNat);simp only[qg];omega
theorem amn(T:Tp)(hT:iD T)(g:aX)(hg:0<g.rs.length∧g.rs.length≤100)(n:Int)(hn:0≤n∧n≤100):Contract Tryz.prog 19 [.ptr (.x 0) 0,eU g,.d (.int .i64 n)] [kH T] (.d (ints (Ia g.rs T n).1)) [kH (Ia g.rs T n).2] []:=by
 refine ay Tryz.func19 rfl (fun E0=>?_);refine iC.sound (g:=.mk) (ow:=[]) (kp:=(kb 0x1001d7)) ?_;rw[Tryz.ntmps19];simp -dsimp[eU,wrap_i64 (n:=n+1) (by omega) (by omega)];try refine⟨?_,⟨by kernel_rfl⟩⟩
 refine aI.of (t_ T hT (n+1) ⟨by omega,by omega⟩) [.x 0] 0 ?_;have kA:iD (eG T (n+1)).2:=by simpa using hT
 have a1:=iT T (n+1);have a2:=l7 T (n:=n+1) (by omega);generalize hA:eG T (n+1)=a at kA a1 a2;obtain⟨m',T1⟩:=a;simp only at kA a1 a2;obtain⟨m,rfl⟩:∃m:Nat,m'=m:=⟨m'.toNat,by omega⟩
 have hgl:(0:Int)<g.rs.length:=by omega
 simp -dsimp[eU];refine dD.of [] (kb 0x1001d7) (ι:={i:Nat // i≤m})
  (fun z=>[(.s 0,It.v (.ptr (.x 0) 0)),(.s 2,It.v (.d (.int .i64 n))),(.o 4,It.box [TV.d (.sl (rts g.rs)),TV.d (.sl (nS g.ls))]),(.s 4,It.v (.ptr (.o 4) 0)),(.s 6,It.v (.c (Value.slice none 0 0))),(.x 0,kH (qg g.rs T1 z.1).1),(.s 7,It.v (.d (ints (qg g.rs T1 z.1).2))),(.s 8,It.v (.d (.int .i64 ((m:Int)-z.1))))])
  (fun z=>m-z.1) ⟨0,by omega⟩ ?_ ?_
 ·exact GS.aiy 7 (by simp[qg,ints])
 rintro⟨i,i1⟩;have kI:iD (qg g.rs T1 i).1:=by simpa using kA
 have hl:=JY g.rs T1 i;by_cases hi:i<m
 ·have hiz:(0:Int)<(m:Int)-i:=by omega
  have hp:=aaM (qg g.rs T1 i).2 (by omega);have v1:=iT (qg g.rs T1 i).1 g.rs.length;have v2:=l7 (qg g.rs T1 i).1 (n:=g.rs.length) (by omega);have hs:qg g.rs T1 (i+1)=((eG (qg g.rs T1 i).1 g.rs.length).2,yg (qg g.rs T1 i).2 (rid g.rs (eG (qg g.rs T1 i).1 g.rs.length).1.toNat)):=rfl
  have hc:=t_ (qg g.rs T1 i).1 kI g.rs.length ⟨by omega,by omega⟩;generalize eG (qg g.rs T1 i).1 (g.rs.length:Int)=v at v1 v2 hs hc;obtain⟨k',T2⟩:=v;simp only at v1 v2 hs hc;obtain⟨k,rfl⟩:∃k:Nat,k'=k:=⟨k'.toNat,by omega⟩
  have hkr:g.rs[k]? = some (g.rs[k]'(by omega)):=aj (by omega);have aji:rid g.rs k=(g.rs[k]'(by omega)).id:=by unfold rid;rw[aK,hkr];rfl
  rw[iL,aji]at hs
  generalize g.rs[k]'(by omega)=x at hkr hs;simp -dsimp[hiz,hi,hgl,hg.1,eU,ints];and_intros;all_goals try first|omega|exact⟨by kernel_rfl⟩|rfl
  refine aI.of hc [.x 0] 0 ?_;simp -dsimp[hkr,rts,Rt.cs];and_intros;all_goals try first|omega|exact⟨by kernel_rfl⟩|rfl
  refine aI.of (hp x.id) [] 0 ?_;simp -dsimp[hkr,rts,Rt.cs,wrap_i64 (n:=(m:Int)-i-1) (by omega) (by omega)];and_intros;all_goals try first|omega|exact⟨by kernel_rfl⟩|rfl
  exact⟨⟨i+1,by omega⟩,GS.to (by simp[hs,ints,rts];omega),by simp;omega⟩
 have hiz :¬(0:Int)<(m:Int)-i:=by omega
 obtain rfl:i=m:=by omega
 simp -dsimp[hiz,hgl,hg.1];and_intros;all_goals try first|omega|exact⟨by kernel_rfl⟩|rfl
 refine Fin.of ?_;simp[Ia,hA]
end Go.Proofs
