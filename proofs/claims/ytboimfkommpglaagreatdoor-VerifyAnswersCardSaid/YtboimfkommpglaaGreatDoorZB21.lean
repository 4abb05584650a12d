/-
  What functions of the program compute, stated as contracts over plain data; the conditions of each stand in its own statement.
-/
import Derived.Test.YtboimfkommpglaaGreatDoorZB20
import Derived.Test.YtboimfkommpglaaGreatDoorZB13
import Derived.Test.YtboimfkommpglaaGreatDoorZB19
set_option linter.unusedSimpArgs false
set_option linter.unusedVariables false
namespace Go.Proofs
theorem xu{p:Pn}(h:iT p=true):p.es.Pairwise (fun x y=>x.id<y.id):=by
 simp only[iT,decide_eq_true_eq]at h;obtain⟨_,h2,_⟩:=h;have hst:∀i (hi:i+1<p.es.length),p.es[i].id<p.es[i+1].id:=fun i hi=>by
  have h3:=h2 (i+1) hi;simp only[Oc,gid,G5,aP,gJ,decide_eq_true_eq,qx]at h3;have h4:=h3.2.2;rw[ak,ak,ah hi,ah (by omega)]at h4
  simpa using h4
 rw[bT];intro i j hi hj hij;obtain⟨d,rfl⟩:∃d,j=i+1+d:=⟨j-(i+1),by omega⟩
 clear hij
 induction d with
 | zero=>exact hst i hj
 | succ d ih=>exact Int.lt_trans (ih (by omega)) (hst (i+1+d) (by omega))
theorem wC{α:Type}{q:α→Bool}:∀{l:List α} {x:α},x∈l→q x=true→(∀y∈l,q y=true→y=x)→l.find? q=some x
 | [],x,h,_,_=>by trivial
 | a::l,x,h,hq,hu=>by
   rw[iC];cases ha:q a with
   | true=>rw[hu a (by simp) ha]
   | false=>
     rcases aG.1 h with rfl|h
     ·simp_all
     ·exact wC h hq (fun y hy=>hu y (by simp[*]))
theorem alE{g:bV}(hg:g.Ok){x y:Rt}(hx:x∈g.rs)(hy:y∈g.rs)(e:x.id=y.id):x=y:=by
 obtain⟨i,hi,rfl⟩:=cu.1 hx;obtain⟨j,hj,rfl⟩:=cu.1 hy;have hp:=bT.1 hg.rpw
 grind
theorem afB{g:bV}(hg:g.Ok){x:Rt}(hx:x∈g.rs):Nb g.rs x.id=some x:=
 wC hx (by simp) (fun y hy e=>alE hg hy hx (by simp_all))
theorem BO{g:bV}(hg:g.Ok){r:Int}:mZ g.rs r=true↔∃x∈g.rs,x.id=r∧x.cap=true:=by
 constructor
 ·intro h;unfold mZ at h;cases hr:Nb g.rs r with
  | none=>simp_all
  | some x=>simp only[hr,bf]at h;exact⟨x,gG hr,by simpa using qG hr,h⟩
 ·grind[mZ,afB]
theorem Nu{g:bV}{p:Pn}{b:Tb}(h:b∈tabs g p g.rs):∃x∈g.rs,x.cap=true∧b=nN g p x.id:=by
 obtain⟨z,hz,rfl⟩:=ay.1 h
 grind
theorem CZ(g:bV)(p:Pn):(tabs g p g.rs).length≤g.rs.length:=by simp[tabs,aQ]
def zY(s:List Int)(n:Int):List Int:=if pY s n=true then s else s++[n]
structure ArI(g:bV)(r:Int)(s:List Int):Prop where
 nd:s.Nodup
 all:∀x∈s,fM g.rs x=true∧∃k v,Wk g r k x v
theorem ArI.fold{g:bV}(hg:g.Ok){r:Int}{x:Int}{k:Nat}{v:Int}(hw:Wk g r k x v):∀(l s:List Int),(∀n∈l,n∈near g x)→ArI g r s→ArI g r (l.foldl zY s)
 | [],_,_,h=>h
 | n::l,s,hl,h=>by
   rw[cO];refine ArI.fold hg hw l _ (fun m hm=>hl m (by simp[*])) ?_;unfold zY;split
   ·omega
   ·rename_i hn;have hni:n∉s:=by grind[pY]
    refine⟨jh.2 ⟨h.nd,by simp,fun a ha b hb=>by grind⟩,fun y hy=>?_⟩;rcases aJ.1 hy with hy|hy
    ·exact h.all y hy
    ·simp at hy;subst hy;have hnr:=hl y (by simp);obtain⟨c,hc⟩:=(Me hg).1 hnr;obtain⟨c',hc'⟩:=EM hg hc;exact⟨TK hnr,k+1,_,.cons hc' hw⟩
theorem Wk.app{g:bV}{a b:Int}{j k:Nat}{x v w:Int}(h1:Wk g a j x v)(h2:Wk g b k a w):∃u,Wk g b (j+k) x u:=by
 induction h1 with
 | nil=>grind
 | @cons k' x y c v hp _ ih=>obtain⟨u,hu⟩:=ih;exact⟨c+u,by rw[show k'+1+k=k'+k+1 by omega];exact .cons hp hu⟩
def anv(x y:Lk):Prop:=¬(x.a=y.a∧x.b=y.b)
structure LkI(b a:Int)(l:List Lk):Prop where
 all:∀x∈l,(1≤x.a∧x.a<x.b∧(x.b<b∨(x.b=b∧x.a<a)))∧(1≤x.ca∧x.ca≤1000)∧(1≤x.cb∧x.cb≤1000)∧0≤x.cap∧x.cap≤1000
 ne:l.Pairwise anv
theorem LkI.step{b a cost tree:Int}{skip:Bool}{T:Tp}{l:List Lk}(h:LkI b a l)(ha:1≤a)(hab:a<b)(hc:1≤cost∧cost≤1000):LkI b (a+1) (SN cost tree skip b a T l).1:=by
 have hw:LkI b (a+1) l:=⟨fun x hx=>by have:=h.all x hx;omega,h.ne⟩
 unfold SN;simp only;generalize (if(decide (a=tree) && !skip)=true then(true,T)else Vl T 3)=c;cases c.1 with
 | false=>trivial
 | true=>
   simp only[if_true];have r1:=uZ c.2 1 cost;have r2:=uY c.2 (a:=1) (b:=cost) hc.1;generalize kD c.2 1 cost=X at r1 r2;have r3:=uZ X.2 1 cost;have r4:=uY X.2 (a:=1) (b:=cost) hc.1;generalize kD X.2 1 cost=Y at r3 r4;have r5:=eX Y.2 4;have r6:=iR Y.2 (n:=4) (by omega);generalize bH Y.2 4=Z at r5 r6;refine⟨fun x hx=>?_,?_⟩
   ·rcases aJ.1 hx with hx|hx
    ·exact hw.all x hx
    grind
   ·rw[jJ];refine⟨h.ne,by simp,fun x hx y hy=>?_⟩;simp at hy;subst hy;have:=h.all x hx;unfold anv;simp only;omega
theorem LkI.row{b cost tree:Int}{skip:Bool}(hc:1≤cost∧cost≤1000):∀(n:Nat) (a:Int) (T:Tp) (l:List Lk),LkI b a l→1≤a→a+n≤b→LkI b (a+n) (SL cost tree skip b n a T l).1
 | 0,a,T,l,h,_,_=>by grind[SL]
 | n+1,a,T,l,h,h1,h2=>by have:=LkI.row (tree:=tree) (skip:=skip) hc n (a+1) (SN cost tree skip b a T l).2 _ (h.step (tree:=tree) (skip:=skip) (T:=T) h1 (by omega) hc) (by omega) (by omega);rw[show a+((n+1:Nat):Int)=a+1+n by omega];exact this
theorem Yi{α:Type}{q:α→α→Bool}{r:α→α→Prop}(hr:∀x y,r x y→q x y=false):∀{l:List α},l.Pairwise r→pV q l=false
 | [],_=>rfl
 | [x],_=>rfl
 | x::y::l,h=>by
   rw[fB]at h
   rw[pV,hr x y (h.1 y (by simp)),Yi hr h.2];rfl
theorem aiR{g:bV}(h1:g.rs.length≤24)(h2:g.ls.length≤60)(h3:∀x∈g.rs,1≤x.id∧x.id≤99)(h4:g.rs.Pairwise fun x y=>x.id<y.id)
  (h5:∀x∈g.ls,(1≤x.ca∧x.ca≤1000)∧(1≤x.cb∧x.cb≤1000)∧0≤x.cap∧x.cap≤1000) (h6:∀x∈g.ls,fM g.rs x.a=true∧fM g.rs x.b=true) (h7:∀x∈g.ls,x.a<x.b) (h8:g.ls.Pairwise Jd):jE g=0:=by
 have a1:decide (24<g.rs.length)=false:=by simp[*]
 have a2:decide (60<g.ls.length)=false:=by simp[*]
 have a3:(g.rs.any fun x=>!inB x.id 1 99)=false:=by grind[inB,List.any_eq_false]
 have a4:pV (fun x y=>decide (y.id≤x.id)) g.rs=false:=by grind[pV,decide,Yi]
 have a5:g.ls.any Lk.bad=false:=by grind[Lk.bad,List.any_eq_false,inB]
 have a6:(g.ls.any fun x=>!fM g.rs x.a || !fM g.rs x.b)=false:=by simp_all
 have a7:(g.ls.any fun x=>decide (x.b≤x.a))=false:=by simp_all
 have a8:pV (fun x y=>decide (y.a<x.a)||decide (x.a=y.a)&&decide (y.b≤x.b)) g.ls=false:=by grind[pV,decide,Yi,Jd,Bool.or_eq_false_iff,Bool.and_eq_false_iff,decide_eq_false_iff_not]
 simp only[jE,oG,a1,a2,a3,a4,a5,a6,a7,a8,cond_false]
structure afW(l:List Tb)(Q:List (Int×Pk))(t:uN):Prop where
 fit:∀q∈Q,uU l q.2∧(iq l q.1=none→q.2.bits≠0#64)
 dl:∀d∈t.dl,∃k<64,d.2.bits=1#64<<<k
 ls:∀x∈t.ls,x.2≠0#64
 cr:∀c∈t.cr,c.2.2≠0#64
theorem afW.step{l:List Tb}{q:Int×Pk}{Q:List (Int×Pk)}{t:uN}(h:afW l (q::Q) t):afW l (Q++nextQ l q) (stepT l q t):=by
 have hq:=h.fit q (by simp);have hQ:∀c∈Q,uU l c.2∧(iq l c.1=none→c.2.bits≠0#64):=fun c hc=>h.fit c (by simp[*])
 cases hf:iq l q.1 with
 | none=>
   have hn:nextQ l q = []:=by grind[nextQ]
   rw[hn,aZ];refine⟨hQ,?_,?_,?_⟩<;>simp only[stepT,hf]
   ·exact h.dl
   ·intro x hx;rcases aJ.1 hx with hx|hx
    ·exact h.ls x hx
    simp_all
   ·exact h.cr
 | some b=>
   have hb:=hq.1.all b (nO hf).1;obtain⟨h1,h2⟩:=BR hb;have hn:nextQ l q=(vX b q.2).qy:=by grind[nextQ]
   obtain⟨H,h3,h4,h5⟩:=h2.qy;have hc:∀c∈(vX b q.2).qy,c.2.bits≠0#64:=fun c hc=>by
    rw[h3]at hc
    simp only[vZ,gW,ay]at hc;obtain⟨x,hx,rfl⟩:=hc;obtain⟨_,a1,a2,k,hk,a3,a4⟩:=(h5 x).1 hx;have hr:=(Ae hb.ck (k:=k) (p:=q.2) (by omega)).2;rw[a4]at hr
    have:=(IK hb hk hr).2 ⟨a3,a4⟩
    grind
   refine⟨fun c hm=>?_,?_,?_,?_⟩
   ·grind[MC]
   ·simp only[stepT,hf,h1];intro d hd;rcases aJ.1 hd with hd|hd
    ·exact h.dl d hd
    ·simp only[xU,vW,bQ,ay]at hd;obtain⟨k,hk,rfl⟩:=hd;obtain⟨k1,k2⟩:=nP.1 hk;have hpb:q.2.bits.getLsbD k=true:=by
      rcases (h2.loc k k1).1 k2 with a|a
      ·simp[vZ]at a
      ·exact a.1
     refine⟨k,k1,?_⟩
     show(pz q.2 (Int.ofNat k)).bits=_
     have:=MK hq.1.ok k1 hpb;rw[Int.ofNat_eq_natCast,this]
   ·simp only[stepT,hf,h1];intro x hx;split at hx
    ·exact h.ls x hx
    ·rename_i hne;rcases aJ.1 hx with hx|hx
     ·exact h.ls x hx
     ·simp at hx;subst hx;exact hne
   ·simp only[stepT,hf,h1];intro c hm;rcases aJ.1 hm with hm|hm
    ·exact h.cr c hm
    ·obtain⟨x,hx,rfl⟩:=ay.1 hm;exact hc x hx
theorem adI{l:List Tb}{p:Pk}(hF:uU l p)(r:Int){k:Nat}(hk:k<64):
  (((lK l (wt p) [(r,p)] o_).dl.filter fun d=>d.2.bits.getLsbD k).length+((lK l (wt p) [(r,p)] o_).ls.filter fun x=>x.2.getLsbD k).length=if p.bits.getLsbD k=true then 1 else 0)∧
  (((lK l (wt p) [(r,p)] o_).cr.filter fun c=>c.2.2.getLsbD k).length≤if p.bits.getLsbD k=true then p.ttl.toNat else 0):=by
 have e1:((lK l (wt p) [(r,p)] o_).dl.filter fun d=>d.2.bits.getLsbD k)=((lK l (wt p) [(r,p)] o_).at k).dl:=rfl;have e2:((lK l (wt p) [(r,p)] o_).ls.filter fun x=>x.2.getLsbD k)=((lK l (wt p) [(r,p)] o_).at k).ls:=rfl;have e3:((lK l (wt p) [(r,p)] o_).cr.filter fun c=>c.2.2.getLsbD k)=((lK l (wt p) [(r,p)] o_).at k).cr:=rfl;rw[e1,e2,e3];have ht:=yB hF.ok
 by_cases hb:p.bits.getLsbD k=true
 ·rw[acp hF r hk hb,if_pos hb,if_pos hb];rcases adT hk hF hb r with⟨ws,_,h2,h3⟩|⟨_,h3⟩
  ·refine⟨by rw[h3.dl,h3.ls];rfl,?_⟩;have:=congrArg List.length h3.cr
   grind[aew]
  ·refine⟨by rw[h3.dl,h3.ls];rfl,?_⟩;have:=h3.cr;omega
 ·rw[adJ hF r hk hb,if_neg hb,if_neg hb];exact⟨rfl,aI _⟩
theorem alF{l:List Tb}{p:Pk}(hF:uU l p)(r:Int){k:Nat}(hk:k<64)(d:Int×Pk):
  (d∈(lK l (wt p) [(r,p)] o_).dl∧d.2.bits.getLsbD k=true)↔p.bits.getLsbD k=true∧∃ws,Dl l (lT p k) (lN p) r ws∧(ws.length:Int)≤p.ttl∧d=(xg r ws,pkD p k ws.length):=by
 have e:(d∈(lK l (wt p) [(r,p)] o_).dl∧d.2.bits.getLsbD k=true)↔d∈((lK l (wt p) [(r,p)] o_).at k).dl:=by simp[uN.at]
 rw[e];by_cases hb:p.bits.getLsbD k=true
 ·rw[acp hF r hk hb];rcases adT hk hF hb r with⟨ws,h1,h2,h3⟩|⟨h1,h3⟩
  ·rw[h3.dl];constructor
   ·grind
   ·rintro⟨_,us,a1,a2,rfl⟩;rw[h1.det a1];simp
  ·rw[h3.dl];constructor
   ·intro h;simp at h
   ·rintro⟨_,us,a1,a2,rfl⟩;have:=h1 us a1;omega
 grind[adJ,o_]
def yu(g:bV):Prop:=∀x∈g.rs,x.cap=true
theorem yu.cap{g:bV}(hg:g.Ok)(h:yu g){r:Int}(hr:fM g.rs r=true):mZ g.rs r=true:=by obtain⟨x,hx,rfl⟩:=ay.1 (nI.1 hr);exact(BO hg).2 ⟨x,hx,rfl,h x hx⟩
set_option maxRecDepth 100000
set_option maxHeartbeats 2000000
open Go Go.Tr
theorem Jl:∀(n i:Nat) (T:Tp) (l:List Int),l.Nodup→(∀x∈l,x<(i:Int))→(xI n i T l).1.Nodup
 | 0,_,_,_,h,_=>h
 | n+1,i,T,l,h,hb=>by
   rw[xI];generalize (bH T (i+1)).1.toNat=k;have hs:(l.take k++l.drop k).Nodup:=by simp[*]
   have hi:(i:Int)∉l:=by grind
   refine Jl n (i+1) _ _ ?_ fun x hx=>?_
   ·grind
   grind
end Go.Proofs

set_option maxRecDepth 100000
namespace Go.Proofs
open Go Go.Tr
theorem BI{g:bV}(hg:jE g=0){p:Pn}(hp:iT p=true):yE g p=(tabs g p g.rs,0):=by unfold yE;simp[*]
theorem ajU{g:bV}{p:Pn}:∀b∈tabs g p g.rs,b.sd=p.gU∧b.len=p.len:=fun b hb=>by
 obtain⟨x,_,_,rfl⟩:=Nu hb
 trivial
theorem Nr{g:bV}(hg:jE g=0){p:Pn}(hp:iT p=true):∀b∈tabs g p g.rs,chk b=0:=fun b hb=>by
 obtain⟨x,hx,_,rfl⟩:=Nu hb
 grind[aeh,nI]
theorem UK{g:bV}(hg:g.Ok)(p:Pn):(tabs g p g.rs).Pairwise fun x y=>x.r<y.r:=by unfold tabs;rw[dA];exact(hg.rpw.sublist jB).imp fun h=>h
theorem aiQ{l:List Tb}(h1:l.length≤24)(h2:∀b∈l,chk b=0)(h3:l.Pairwise fun x y=>x.r<y.r)(h4:∀b∈l,∀c∈l,b.sd=c.sd∧b.len=c.len):tK l=0:=by
 have a1:decide (24<l.length)=false:=by simp[*]
 have a2:(l.any fun b=>decide (chk b≠0))=false:=by simp_all
 have a3:pV (fun x y:Tb=>decide (y.r≤x.r)) l=false:=by grind[pV,decide,Yi]
 have a4:(l.any fun b=>decide (b.sd≠(l.headD tb0).sd)||decide (b.len≠(l.headD tb0).len))=false:=by
  rw[dL];intro b hb;have:l.headD tb0∈l:=by
   cases l with
   | nil=>trivial
   | cons a l=>simp
  grind
 simp only[tK,oG,a1,a2,a3,a4,cond_false]
theorem abr{l:List Tb}{r:Int}:(iq l r).isSome↔r∈l.map (·.r):=by simp[iq]
structure aaS(p:Pn)(rs:List Int)(l:List Tb):Prop where
 all:tK l=0
 ck:∀b∈l,chk b=0
 sd:∀b∈l,b.sd=p.gU∧b.len=p.len
 rs:∀r,(iq l r).isSome↔r∈rs
 n:l.length≤24
set_option maxHeartbeats 4000000
theorem afZ(g:bV)(hg:g.Sm)(hc:jE g=0)(p:Pn)(a1:iT p=true)(hp:p.es.length≤1000):Contract Tryz.prog 54 [d_ g,iE p] [] (.sZ [.bK 6 (tabs g p g.rs).length,.d (.int .i64 0)]) [] [(6,.row 65 4 (dd (ig (tabs g p g.rs))) false)]:=by
 have hr:=hg.r;refine aC Tryz.func54 rfl (fun E0=>?_);refine iK.sound (g:=.mk) (ow:=[]) (kp:=(kb 0x101080ff)) ?_;rw[Tryz.ntmps54];simp -dsimp[d_,iE];refine aF.of (D8 g hg.r hg.l) [] 0 ?_;simp -dsimp[eq_true hc,d_];refine aF.of (DV p hp) [] 0 ?_;have hn:g.rs.length≤24:=(gY hc).nr
 simp -dsimp[eq_true hc,a1,iE];and_intros;all_goals try first|rfl|omega|exact⟨by kernel_rfl⟩
 refine bY.of [] (kb 0x101080ff) (ι:={i:Nat // i≤g.rs.length∧True}) (fun z=>[(.s 0,It.v (.agg [TV.d (.sl (rts g.rs)),TV.d (.sl (pq g.ls))])),(.s 1,It.v (.agg [TV.d (.int .i64 p.gU),TV.d (.int .i64 p.len),TV.d (.sl (lX p.es))])),(.o 2,It.box [TV.d (.sl (rts g.rs)),TV.d (.sl (pq g.ls))]),(.s 2,It.v (.ptr (.o 2) 0)),(.o 3,It.box [TV.d (.int .i64 p.gU),TV.d (.int .i64 p.len),TV.d (.sl (lX p.es))]),(.s 3,It.v (.ptr (.o 3) 0)),(.s 4,It.v (.c (Value.slice none 0 0))),(.s 5,It.v (.d (.int .i64 0))),(.s 6,It.v (.bK 6 (Nq g p (g.rs.take z.1)).length)),(.o 6,It.row 65 4 (dd (Nq g p (g.rs.take z.1))) false),(.s 7,It.v (.d (.int .i64 z.1)))]) (fun z=>g.rs.length-z.1) ⟨0,by omega,trivial⟩ ?_ ?_
 ·exact GS.own' (k:=6) 65 4 (by simp) (by simp) (by simp[Nq,tabs])
 rintro⟨i,i1,i2⟩;by_cases hi:i<g.rs.length
 ·have hiz:(i:Int)<g.rs.length:=by omega
  have hx:g.rs[i]? = some g.rs[i]:=ah hi;have ht:g.rs.take (i+1)=g.rs.take i++[g.rs[i]]:=by rw[aO,ah hi];rfl
  generalize g.rs[i]=x at hx ht;have hx':=r_ hx;have hta:=aaF g p (g.rs.take i) x;have htl:=aaG g p (g.rs.take i);rw[←ht]at hta
  simp at htl;rcases (au x.cap).symm with c1|c1
  ·rw[if_neg (by simp[c1])]at hta
   simp -dsimp[hiz,hx',Rt.cs,c1,wrap_i64 (n:=(i:Int)+1) (by omega) (by omega)];and_intros;all_goals try first|rfl|omega|exact⟨by kernel_rfl⟩
   exact⟨⟨i+1,by omega,trivial⟩,GS.to (by simp[hta]),by simp;omega⟩
  ·rw[if_pos c1]at hta
   simp -dsimp[hiz,hx',Rt.cs,c1];refine aF.of (VF g hg p (by omega) x.id) [] 0 ?_;simp -dsimp[hiz,hx',Rt.cs,c1,d_,iE,gQ,dZ,wrap_i64 (n:=(i:Int)+1) (by omega) (by omega)];and_intros;all_goals try first|rfl|omega|exact⟨by kernel_rfl⟩
   exact⟨⟨i+1,by omega,trivial⟩,GS.to (by simp[hta,Tb.cs,dZ]),by simp;omega⟩
 ·have hiz :¬(i:Int)<g.rs.length:=by omega
  obtain rfl:i=g.rs.length:=by omega
  simp -dsimp[hiz];refine Fin.of ?_;simp[Nq,ig]
def Pk.for(q:Pk)(gU len set:Int)(B:BitVec 64):Pk:=⟨1,gU,set,len,q.ttl,q.ent,q.ing,q.proto,B,q.pay⟩
def wK(l:List Tb)(p:Pk)(r:Int):Int:=(oh l p r).2
end Go.Proofs

namespace Go.Tr
open Go
theorem aF.view{P:Program}{A:jL}{ops:Array Oper}{i:Nat}{t:S}{k:List Pl→List (Pl×It)→Prop}{g:Tg k}(ss:List Nat)
  (h:(sF t (ss.map .tmp)).C∧aF P A ops i (over t (sF t (ss.map .tmp)).W) (fun rp W=>k ((sF t (ss.map .tmp)).rp++rp) (W++(sF t (ss.map .tmp)).W)) .mk):aF P A ops i t k g:=by
 obtain⟨h0,⟨rp,W,h1,h2⟩⟩:=h;exact⟨⟨_,_,h1.viewed _ h0,h2⟩⟩
end Go.Tr

set_option maxHeartbeats 8000000
namespace Go.Proofs
open Go Go.Tr
theorem Sl{l:List Tb}{p:Pk}{r:Int}(h:wK l p r=0):uU l p∧(iq l r).isSome∧oh l p r=(lK l (wt p) [(r,p)] o_,0):=by
 unfold wK oh at h;unfold oh;split at h
 ·simp at h
 rename_i h0;rw[if_neg h0];have h1:tK l=0:=Classical.byContradiction fun a=>h0 (.inl a)
 have h2:p.ok=true:=by
  cases hp:p.ok with
  | true=>rfl
  | false=>exact absurd (.inr hp) h0
 cases hf:iq l r with
 | none=>rw[hf]at h;simp at h
 | some b=>
   rw[hf]at h
   simp only at h⊢;split at h
   ·simp at h
   rename_i h3;rw[if_neg h3];split at h
   ·simp at h
   rename_i h4;rw[if_neg h4];have e1:p.gU=b.sd:=Classical.byContradiction fun a=>h4 (.inl a)
   have e2:p.len=b.len:=Classical.byContradiction fun a=>h4 (.inr a)
   have hall:=wX (l:=_) (by simp) h1;simp only[aG,fP,or_false,forall_eq_or_imp,forall_eq]at hall;have hd:∀c∈l,c.sd=(l.headD tb0).sd∧c.len=(l.headD tb0).len:=fun c hc=>by have:=dL.1 hall.2.2.2 c hc;simpa using this
   have hb:=hd b (nO hf).1;refine⟨⟨h2,fun c hc=>⟨GH h1 c hc,?_,?_,h2,h3⟩⟩,rfl,rfl⟩
   ·rw[(hd c hc).1,←hb.1,e1]
   ·rw[(hd c hc).2,←hb.2,e2]
theorem Sr{l:List Tb}{p:Pk}{r:Int}(h:wK l p r≠0):oh l p r=(o_,wK l p r):=by
 unfold wK oh at h⊢;split
 ·rfl
 rename_i h0;rw[if_neg h0]at h
 cases hf:iq l r with
 | none=>rfl
 | some b=>
   rw[hf]at h
   simp only at h⊢;split
   ·rfl
   rename_i h3;rw[if_neg h3]at h
   split
   ·rfl
   rename_i h4;rw[if_neg h4]at h
   simp at h
@[simp]theorem ale(T:Tp):isObj (iG T)=true:=rfl
theorem ahv(r:Int)(o:Out)(p:Pk):(xU r o p).length≤64:=by unfold xU;rw[aN];exact tZ _
theorem afI(l:List Tb)(q:Int×Pk)(t:uN):(stepT l q t).dl.length≤t.dl.length+64∧(stepT l q t).cr.length≤t.cr.length+64∧(stepT l q t).ls.length≤t.ls.length+64:=by
 unfold stepT;split
 ·simp
 ·rename_i b _;have h1:=ahv q.1 (yT b q.2).1 q.2;have h2:=LG b q.2;refine⟨by simp only[aS];omega,by simp only[aS,aN];omega,?_⟩;simp only;split
  ·omega
  ·simp
theorem aau(l:List Tb):∀(n:Nat) (Q:List (Int×Pk)) (t:uN),(lK l n Q t).dl.length≤t.dl.length+64*n∧(lK l n Q t).cr.length≤t.cr.length+64*n∧(lK l n Q t).ls.length≤t.ls.length+64*n
 | 0,Q,t=>by simp[lK]
 | n+1,[],t=>by rw[EW];omega
 | n+1,q::Q,t=>by have h1:=aau l n (Q++nextQ l q) (stepT l q t);have h2:=afI l q t;rw[lK];omega
theorem O5(l:List Tb)(p:Pk)(r:Int):(oh l p r).1.dl.length≤1000000∧(oh l p r).1.cr.length≤1000000∧(oh l p r).1.ls.length≤1000000:=by
 by_cases h:wK l p r=0
 ·obtain⟨h1,_,h2⟩:=Sl h;rw[h2];have h3:=aau l (wt p) [(r,p)] o_;have h4:=adU h1.ok;simp only[o_,eY]at h3⊢;omega
 ·rw[Sr h];simp[o_]
theorem zy{n:Int}(h:dQ n=true):n=8∨n=16∨n=32∨n=64:=by grind[dQ]
theorem abw{len:Int}(hl:dQ len=true){k:Nat}(hk:k<64):(Ei len).getLsbD k=decide ((k:Int)<len):=by have:=zy hl;rw[Ei,if_pos hl,Ou hk _ (by omega)];simp
theorem afP{B:BitVec 64}{len:Int}(hl:dQ len=true)(h:∀k<64,B.getLsbD k=true→(k:Int)<len):yD B len=true:=by
 simp only[yD,hl,jZ,decide_eq_true_eq];apply jc;intro k hk;rw[fA,nG,abw hl hk]
 simp_all
theorem Q8{j:Int}{k:Nat}(hk:k<64):(wV j).getLsbD k=true↔(k:Int)=j:=by grind[wV,wrap_u64]
theorem ahZ{id len:Int}(hl:dQ len=true):rC id len<len∧0≤rC id len:=by grind[zy,rC]
theorem Uh{id len:Int}(hl:dQ len=true):0≤sS id len∧sS id len≤31:=by
 have:=zy hl;unfold sS;split
 ·rename_i h;simp only[aP,inB,decide_eq_true_eq]at h
  grind
 omega
theorem alq(p:Pk):p.ok=true↔(1≤p.mode∧p.mode≤3)∧(0≤p.gU∧p.gU≤7)∧(0≤p.set∧p.set≤31)∧yD p.bits p.len=true∧(0≤p.ttl∧p.ttl≤63)∧(0≤p.ent∧p.ent≤1023)∧(0≤p.ing∧p.ing≤256)∧(0≤p.proto∧p.proto≤7)∧p.pay.size≤64:=by simp[Pk.ok,yU]
structure amn(p:Pn)(q:Pk):Prop where
 ok:q.ok=true
 mode:q.mode=1
 gU:q.gU=p.gU
 len:q.len=p.len
theorem aaS.fit{p:Pn}{rs:List Int}{l:List Tb}(h:aaS p rs l){q:Pk}(hq:amn p q):uU l q:=
 ⟨hq.ok,fun b hb=>⟨h.ck b hb,(h.sd b hb).1.trans hq.gU.symm,(h.sd b hb).2.trans hq.len.symm,hq.ok,by rw[hq.mode];decide⟩⟩
theorem aaS.run{p:Pn}{rs:List Int}{l:List Tb}(h:aaS p rs l){q:Pk}(hq:amn p q){r:Int}(hr:r∈rs):oh l q r=(lK l (wt q) [(r,q)] o_,0)∧(iq l r).isSome:=by have hs:=(h.rs r).2 hr;refine⟨?_,hs⟩;obtain⟨b,hb⟩:=nM.1 hs;have hsd:=h.sd b (nO hb).1;unfold oh;rw[if_neg (by simp[h.all,hq.ok]),hb];simp only;rw[if_neg (by rw[hq.mode];decide),if_neg (by rw[hsd.1,hsd.2,hq.gU,hq.len];simp)]
theorem aaS.sm{p:Pn}{rs:List Int}{l:List Tb}(h:aaS p rs l):UY l:=⟨by have:=h.n;omega,fun b hb=>Fp (h.ck b hb)⟩
end Go.Proofs

namespace Go.Tr
open Go
def sJ(b n:Nat)(f:Nat→It)(l:List (Pl×It)):List (Pl×It):=(List.range n).map (fun i=>(Pl.o (b+i),f i))++l
theorem zk{b:Nat}{f:Nat→It}{l:List (Pl×It)}{p:Pl}:∀{ks:List Nat},(∀i∈ks,p≠.o (b+i))→look (ks.map (fun i=>(Pl.o (b+i),f i))++l) p=look l p
 | [],_=>rfl
 | k::ks,h=>by rw[aH,fF,look,if_neg (h k (by simp))];exact zk fun i hi=>h i (by simp[*])
theorem PG{b:Nat}{f:Nat→It}{l:List (Pl×It)}{i:Nat}:∀{ks:List Nat},i∈ks→look (ks.map (fun i=>(Pl.o (b+i),f i))++l) (.o (b+i))=f i
 | [],h=>by trivial
 | k::ks,h=>by
   rw[aH,fF,look];by_cases e:i=k
   ·simp[*]
   ·rw[if_neg (by simp[*])];exact PG (by simp_all)
theorem zn{b:Nat}{f:Nat→It}{l:List (Pl×It)}{p:Pl}{v:It}:∀{ks:List Nat},(∀i∈ks,p≠.o (b+i))→oC p v (ks.map (fun i=>(Pl.o (b+i),f i))++l)=ks.map (fun i=>(Pl.o (b+i),f i))++oC p v l
 | [],_=>rfl
 | k::ks,h=>by rw[aH,fF,oC,if_neg (h k (by simp)),zn fun i hi=>h i (by simp[*])];rfl
theorem PW{b:Nat}{f:Nat→It}{l:List (Pl×It)}{v:It}{i:Nat}:∀{ks:List Nat},i∈ks→ks.Nodup→oC (.o (b+i)) v (ks.map (fun i=>(Pl.o (b+i),f i))++l)=ks.map (fun j=>(Pl.o (b+j),if j=i then v else f j))++l
 | [],h,_=>by trivial
 | k::ks,h,nd=>by
   have nd':=dG.1 nd;rw[aH,fF,oC,aH,fF];by_cases e:i=k
   ·subst e;rw[if_pos rfl,if_pos rfl]
    congr 2
    refine bW fun j hj=>?_
    grind
   ·rw[if_neg (by simp[*]),if_neg (fun h=>e h.symm),PW (by simp_all) nd'.2]
variable {b n:Nat} {f:Nat→It} {l:List (Pl×It)}
theorem abU(k:Nat):look (sJ b n f l) (.s k)=look l (.s k):=zk (by simp)
theorem abV(k:Nat):look (sJ b n f l) (.x k)=look l (.x k):=zk (by simp)
theorem abT{k:Nat}(h:k<b):look (sJ b n f l) (.o k)=look l (.o k):=zk (by grind)
theorem PE{k:Nat}(h:b+n≤k):look (sJ b n f l) (.o k)=look l (.o k):=zk (by grind)
theorem Ho{i:Nat}(h:i<n):look (sJ b n f l) (.o (b+i))=f i:=PG (bD.2 h)
theorem acd(k:Nat)(v:It):oC (.s k) v (sJ b n f l)=sJ b n f (oC (.s k) v l):=zn (by simp)
theorem ace(k:Nat)(v:It):oC (.x k) v (sJ b n f l)=sJ b n f (oC (.x k) v l):=zn (by simp)
theorem Kr{k:Nat}(v:It)(h:k<b):oC (.o k) v (sJ b n f l)=sJ b n f (oC (.o k) v l):=zn (by grind)
theorem aam{k:Nat}(v:It)(h:b+n≤k):oC (.o k) v (sJ b n f l)=sJ b n f (oC (.o k) v l):=zn (by grind)
theorem aal{i:Nat}(v:It)(h:i<n):oC (.o (b+i)) v (sJ b n f l)=sJ b n (fun j=>if j=i then v else f j) l:=PW (bD.2 h) List.nodup_range
theorem D7{P:Pl×It→Prop}:(∀x∈sJ b n f l,P x)↔(∀i,i<n→P (.o (b+i),f i))∧∀x∈l,P x:=by
 unfold sJ
 grind
theorem aea{P:Pl→It→Prop}:(∀p i,(p,i)∈sJ b n f l→P p i)↔(∀i,i<n→P (.o (b+i)) (f i))∧∀p i,(p,i)∈l→P p i:=by
 have h:=D7 (b:=b) (n:=n) (f:=f) (l:=l) (P:=fun x=>P x.1 x.2)
 simp_all
theorem MH:∀(a c:List (Pl×It)),sG (a++c)=sG a++sG c
 | [],_=>rfl
 | (.o k,i)::a,c=>by simp[sG,MH a c]
 | (.s k,i)::a,c=>by simp[sG,MH a c]
 | (.x k,i)::a,c=>by simp[sG,MH a c]
theorem NG:∀(a c:List (Pl×It)),qE (a++c)=qE a++qE c
 | [],_=>rfl
 | (.o k,i)::a,c=>by simp[qE,NG a c]
 | (.s k,i)::a,c=>by simp[qE,NG a c]
 | (.x k,i)::a,c=>by simp[qE,NG a c]
theorem IV(kp:Nat→Bool):∀(a c:List (Pl×It)),uM kp (a++c)=uM kp a++uM kp c
 | [],_=>rfl
 | (.o k,i)::a,c=>by simp[X0,IV kp a c]
 | (.s k,i)::a,c=>by
   simp only[fF,adl,IV kp a c]
   grind
 | (.x k,i)::a,c=>by simp[adn,IV kp a c]
theorem aac(b:Nat)(f:Nat→It):∀ks:List Nat,sG (ks.map fun i=>(Pl.o (b+i),f i))=ks.map (b + ·)
 | []=>rfl
 | k::ks=>by simp[sG,aac b f ks]
theorem aaN(b:Nat)(f:Nat→It):∀ks:List Nat,qE (ks.map fun i=>(Pl.o (b+i),f i)) = []
 | []=>rfl
 | k::ks=>by simp[qE,aaN b f ks]
theorem Wh(kp:Nat→Bool)(b:Nat)(f:Nat→It):∀ks:List Nat,uM kp (ks.map fun i=>(Pl.o (b+i),f i))=ks.map fun i=>(Pl.o (b+i),f i)
 | []=>rfl
 | k::ks=>by simp[X0,Wh kp b f ks]
theorem MI{k:Nat}:k∈sG (sJ b n f l)↔(b≤k∧k<b+n)∨k∈sG l:=by
 rw[sJ,MH,aac,aJ];refine or_congr ?_ Iff.rfl;rw[ay];constructor
 ·grind
 ·intro h;exact⟨k-b,bD.2 (by omega),by omega⟩
theorem aiD:qE (sJ b n f l)=qE l:=by rw[sJ,NG,aaN,gW]
theorem aeY(kp:Nat→Bool):uM kp (sJ b n f l)=sJ b n f (uM kp l):=by rw[sJ,IV,Wh,sJ]
theorem Zd:sJ b (n+1) f l=sJ b n f ((.o (b+n),f n)::l):=by simp[sJ,je]
theorem Ee:sJ b 0 f l=l:=rfl
theorem Ib{a c:Nat}(h:a<b):O1 a c (sJ b n f l)=sJ b n (fun i=>qU a c (f i)) (O1 a c l):=by
 unfold O1 sJ;rw[fH,bQ]
 congr 1
 refine bW fun i _=>?_
 simp only[Function.comp,yC,aK,and_true];simp only[wQ,if_neg (show ¬b+i=a by omega)]
theorem Ic(a c:Nat):O1 a c [] = []:=rfl
theorem EP(a c:Nat)(x:Pl×It)(l:List (Pl×It)):O1 a c (x::l)=(yC a c x.1,qU a c x.2)::O1 a c l:=rfl
theorem ji{a i k:Nat}(h:k<a):¬a+i=k:=by omega
theorem jk{a i k:Nat}(h:k<a):¬k=a+i:=by omega
theorem MZ(po:Nat→Prop)(n:Nat)(x:D):m_ po (List.replicate n [TV.d x])=True:=by simp only[m_,eq_iff_iff,iff_true];simp
theorem Sub.sJ{t:S}(h1:∀j,j<n→f j=t (.o (b+j)))(h2:∀x∈l,look (Tr.sJ b n f l) x.1=t x.1)(h3:∀j,j<n→(f j).only (· ∈sG (Tr.sJ b n f l)))(h4:∀x∈l,x.2.only (· ∈sG (Tr.sJ b n f l))):Sub t (Tr.sJ b n f l):=
 ⟨D7.2 ⟨fun j hj=>by grind[Ho],h2⟩,D7.2 ⟨h3,h4⟩⟩
attribute [simp] abU abV abT PE Ho acd ace Kr aam aal D7 aea MI aiD aeY
end Go.Tr

namespace Go.Proofs
open Go Go.Tr
def dW(T:Tp):Prop:=T.1.length≤2000∧∀x∈T.1,I64 x
@[simp]theorem SI(T:Tp):dW (Ox T).2=dW T:=by simp[dW,Oy]
@[simp]theorem VY(T:Tp)(n:Int):dW (bH T n).2=dW T:=SI T
@[simp]theorem akU(T:Tp)(a b:Int):dW (kD T a b).2=dW T:=SI T
@[simp]theorem aeE(T:Tp)(l:List Int):dW (jW T l).2=dW T:=SI T
theorem EZ(L:List Int)(hL:∀x∈L,I64 x):dW (L.take 2000,0):=⟨by simp;omega,fun x hx=>hL x (jI hx)⟩
theorem akC(x n:Int)(hn:I64 n):Contract Tryz.prog 133 [.d (.int .i64 x),.d (.int .i64 n)] [] (.d (.int .i64 (XO x n))) [] []:=by
 refine aC Tryz.func133 rfl (fun E0=>?_);refine iK.sound (g:=.mk) (ow:=[]) (kp:=(kb 0x853)) ?_;rw[Tryz.ntmps133];obtain⟨h1,h2⟩:=hn;simp -dsimp;refine PZ.dec (fun h=>?_) (fun h=>?_)
 ·simp -dsimp;refine Fin.of ?_;simp[XO,h]
 ·simp -dsimp;refine⟨by omega,PZ.dec (fun g=>?_) (fun g=>?_)⟩
  ·have:=ait (by omega) g;have:=jP x (b:=n) (by omega);have:=iL x (b:=n) (by omega);simp -dsimp(disch:=omega) [wrap_i64];refine Fin.of ?_;simp[XO,h];omega
  ·simp -dsimp;refine Fin.of ?_;simp[XO,h];exact ais (by omega) g
theorem alA(T:Tp)(hT:dW T):Contract Tryz.prog 134 [.ptr (.x 0) 0] [iG T] (.d (.int .i64 (Ox T).1)) [iG (Ox T).2] []:=by
 obtain⟨l,i⟩:=T;have hi:l.length≤2000:=hT.1;refine aC Tryz.func134 rfl (fun E0=>?_);refine iK.sound (g:=.mk) (ow:=[]) (kp:=(kb 0x1005)) ?_;rw[Tryz.ntmps134];simp -dsimp[iG,ints];refine⟨PZ.dec (fun h=>?_) (fun h=>?_),⟨by kernel_rfl⟩⟩
 ·simp -dsimp;refine Fin.of ?_;simp[iG,ints,h,Ox]
 ·have h1:i<l.length:=by omega
  simp -dsimp(disch:=omega) [wrap_i64,ah h1];refine⟨h1,?_,⟨by kernel_rfl⟩⟩;refine Fin.of ?_;simp[iG,ints,Ox,h,ah h1]
theorem jR(T:Tp)(hT:dW T)(n:Int)(hn:I64 n):Contract Tryz.prog 59 [.ptr (.x 0) 0,.d (.int .i64 n)] [iG T] (.d (.int .i64 (bH T n).1)) [iG (bH T n).2] []:=by refine aC Tryz.func59 rfl (fun E0=>?_);refine iK.sound (g:=.mk) (ow:=[]) (kp:=(kb 0x13)) ?_;rw[Tryz.ntmps59];simp -dsimp;refine aF.of (alA T hT) [.x 0] 0 ?_;simp -dsimp;refine aF.of (akC (Ox T).1 n hn) [] 0 ?_;simp -dsimp;refine Fin.of ?_;simp[bH]
theorem EN(T:Tp)(hT:dW T)(a b:Int)(_ha:I64 a)(hn:I64 (b-a))(hn1:I64 (b-a+1))(hb:I64 (kD T a b).1):Contract Tryz.prog 61 [.ptr (.x 0) 0,.d (.int .i64 a),.d (.int .i64 b)] [iG T] (.d (.int .i64 (kD T a b).1)) [iG (kD T a b).2] []:=by refine aC Tryz.func61 rfl (fun E0=>?_);refine iK.sound (g:=.mk) (ow:=[]) (kp:=(kb 0x47)) ?_;rw[Tryz.ntmps61];simp -dsimp[wrap_i64 hn.1 hn.2,wrap_i64 hn1.1 hn1.2];refine aF.of (jR T hT (b-a+1) hn1) [.x 0] 0 ?_;have hb':I64 (a+(bH T (b-a+1)).1):=hb;simp -dsimp[wrap_i64 hb'.1 hb'.2];refine Fin.of ?_;simp[kD]
theorem zS(T:Tp)(hT:dW T)(l:List Int)(hl:0<l.length)(hl2:l.length<1000):Contract Tryz.prog 66 [.ptr (.x 0) 0,.d (ints l)] [iG T] (.d (.int .i64 (jW T l).1)) [iG (jW T l).2] []:=by
 refine aC Tryz.func66 rfl (fun E0=>?_);refine iK.sound (g:=.mk) (ow:=[]) (kp:=(kb 0x13)) ?_;rw[Tryz.ntmps66];simp -dsimp[ints];refine aF.of (jR T hT l.length ⟨by omega,by omega⟩) [.x 0] 0 ?_;have h1:=eX T l.length;have h2:=iR T (n:=l.length) (by omega);have h3:(bH T l.length).1.toNat<l.length:=by omega
 simp -dsimp[ah h3];refine⟨by omega,by omega,?_⟩;refine Fin.of ?_;simp[jW,ints,ah h3]
theorem TM(l:List Int):Contract Tryz.prog 51 [.d (ints l)] [] (.ptr (.o 9) 0) [] [(9,iG (l.take 2000,0))]:=by
 have hm:TD IntKind.i64 l.length 2000 = .d (.int .i64 (min l.length 2000:Nat)):=by simp[TD];omega
 refine aC Tryz.func51 rfl (fun E0=>?_);refine iK.sound (g:=.mk) (ow:=[]) (kp:=(kb 5)) ?_;rw[Tryz.ntmps51];simp -dsimp[ints,hm];refine⟨by omega,?_⟩;refine Fin.of ?_;simp[iG,ints];exact Nat.min_comm _ _
theorem LH:∀(n i:Nat) (T:Tp) (l:List Int),(xI n i T l).2.1=T.1
 | 0,_,_,_=>rfl
 | n+1,i,T,l=>by rw[xI,LH];exact Oy T
@[simp]theorem akR(T:Tp)(n:Int):dW (yx T n).2=dW T:=by unfold yx dW;rw[LH]
theorem ahS(T:Tp)(hT:dW T)(n:Int)(hn:n≤1000):Contract Tryz.prog 123 [.ptr (.x 0) 0,.d (.int .i64 n)] [iG T] (.d (ints (yx T n).1)) [iG (yx T n).2] []:=by
 refine aC Tryz.func123 rfl (fun E0=>?_);refine iK.sound (g:=.mk) (ow:=[20]) (kp:=(kb 0x9f3)) ?_;rw[Tryz.ntmps123];simp -dsimp
 refine bY.of [20] (kb 0x9f3) (ι:={i:Nat×Tp×List Int // dW i.2.1∧i.2.2.length=i.1∧(i.1:Int)≤max n 0∧yx T n=xI (n.toNat-i.1) i.1 i.2.1 i.2.2}) (fun i=>[(.s 0,It.v (.ptr (.x 0) 0)),(.s 1,It.v (.d (.int .i64 n))),(.x 0,iG i.1.2.1),(.s 4,It.v (.c (Value.slice none 0 0))),(.s 5,It.v (.d (ints i.1.2.2))),(.s 6,It.v (.d (.int .i64 i.1.1)))]) (fun i=>n.toNat-i.1.1) ⟨(0,T,[]),hT,rfl,by simp;omega,rfl⟩ ?_ ?_
 ·exact GS.Gm 5 (by simp[ints])
 ·rintro⟨⟨i,T',out⟩,h1,h2,h3,h4⟩;simp only at h1 h2 h3 h4;simp -dsimp[ints];refine PZ.dec (fun h=>?_) (fun h=>?_)
  ·simp -dsimp[h2,wrap_i64 (n:=(i:Int)+1) (by omega) (by omega)];refine aF.of (jR T' h1 (i+1) ⟨by omega,by omega⟩) [.x 0] 0 ?_;have g1:=eX T' (i+1);have g2:=iR T' (n:=i+1) (by omega);simp -dsimp[h2,wrap_i64 (n:=(i:Int)+1) (by omega) (by omega)];have dl:dLen 1 (out.map fun x=>[D.int .i64 x]):=mO 1 _ _ fun _=>rfl
   and_intros;all_goals try first|omega|exact⟨by kernel_rfl⟩|exact oP dl|exact xG (oP dl)|(simp;omega)
   refine⟨⟨(i+1,(bH T' (i+1)).2,out.take (bH T' (i+1)).1.toNat++[(i:Int)]++out.drop (bH T' (i+1)).1.toNat),by simpa using h1,by simp;omega,by simp;omega,?_⟩,GS.Gm 5 ?_,by simp;omega⟩
   ·rw[h4,show n.toNat-i=n.toNat-(i+1)+1 by omega];rfl
   ·simp[ints];exact⟨by omega,by rw[aW (by simp;omega)]⟩
  ·simp -dsimp;refine Fin.view 4 ?_;simp -dsimp;refine Fin.of ?_;have:n.toNat-i=0:=by omega
   simp[h4,this,xI,ints]
def vN:List Int:=[1,1,1,2,5]
def xJ(T:Tp):Nat→Tp×Int×List Rt
 | 0=>(T,0,[])
 | i+1=>let s:=xJ T i;let w:=jW s.1 vN;(w.2,s.2.1+w.1,s.2.2++[⟨s.2.1+w.1,true⟩])
abbrev Mx:=Nat→Nat→Bool
def TG(M:Mx)(a b:Nat):Mx:=fun i j=>if i=a∧j=b then true else M i j
def vg(T:Tp):Nat→Tp×Mx
 | 0=>(T,fun _ _=>false)
 | i+1=>let s:=vg T i;let w:=bH s.1 12
   if w.1<11 then(let v:=bH w.2 ((i:Int)+1);(v.2,TG s.2 v.1.toNat (i+1)))else(w.2,s.2)
def sN(n:Nat)(T:Tp)(M:Mx):Nat→Tp×Mx
 | 0=>(T,M)
 | k+1=>let s:=sN n T M k;let a:=bH s.1 n;let b:=bH a.2 n
   (b.2,if a.1=b.1 then s.2 else TG s.2 (min a.1 b.1).toNat (max a.1 b.1).toNat)
def ug:List Int:=[0,1,2,3,5,10,1000]
def JL(flat:Bool)(x y:Int)(T:Tp):Lk×Tp:=
 let c:=jW T ug
 if flat then(⟨x,y,1,1,c.1⟩,c.2)else
 let u:=kD c.2 1 20
 let v:=jW u.2 [1,2,3,u.1,1000]
 let w:=kD v.2 1 20
 let z:=jW w.2 [v.1,v.1,w.1]
 (⟨x,y,v.1,z.1,c.1⟩,z.2)
def rid(rs:List Rt)(i:Nat):Int:=(rs.getD i ⟨0,false⟩).id
def Gi(flat:Bool)(rs:List Rt)(s:List Lk×Tp)(q:Nat×Nat):List Lk×Tp:=
 let r:=JL flat (rid rs q.1) (rid rs q.2) s.2;(s.1++[r.1],r.2)
def rowP(M:Mx)(a m:Nat):List (Nat×Nat):=((List.range m).filter (M a)).map fun b=>(a,b)
def Yh(M:Mx)(n a b:Nat):List (Nat×Nat):=((List.range a).flatMap fun x=>rowP M x n)++rowP M a b
def Ag(flat:Bool)(rs:List Rt)(M:Mx)(T:Tp)(n a b:Nat):List Lk×Tp:=(Yh M n a b).foldl (Gi flat rs) ([],T)
theorem W9(M:Mx)(a m:Nat):rowP M a (m+1)=rowP M a m++if M a m=true then [(a,m)]else []:=by
 unfold rowP;rw[je,bJ,fH]
 grind
theorem ae8{flat:Bool}{rs:List Rt}{M:Mx}{T:Tp}{n a b:Nat}(h:M a b=false):Ag flat rs M T n a (b+1)=Ag flat rs M T n a b:=by grind[Ag,Yh,W9]
theorem ae7{flat:Bool}{rs:List Rt}{M:Mx}{T:Tp}{n a b:Nat}(h:M a b=true):Ag flat rs M T n a (b+1)=Gi flat rs (Ag flat rs M T n a b) (a,b):=by unfold Ag Yh;rw[W9,h,if_pos rfl,←eU,g_];rfl
theorem ahI{flat:Bool}{rs:List Rt}{M:Mx}{T:Tp}{n a:Nat}:Ag flat rs M T n a n=Ag flat rs M T n (a+1) 0:=by simp[Ag,Yh,je,rowP]
structure aqX where
 n:Nat
 T1:Tp
 rs:List Rt
 T2:Tp
 M:Mx
 k:Nat
 T3:Tp
 M2:Mx
 flat:Bool
 T4:Tp
def lu(T:Tp)(most:Int):aqX:=
 let a:=kD T 1 most
 let n:=a.1.toNat
 let r:=xJ a.2 n
 let t:=vg r.1 (n-1)
 let k:=bH t.1 ((n:Int)+2)
 let m:=sN n k.2 t.2 k.1.toNat
 let f:=bH m.1 3
 ⟨n,a.2,r.2.2,r.1,t.2,k.1.toNat,k.2,m.2,decide (f.1=0),f.2⟩
def Az(T:Tp)(most:Int):bV×Tp:=
 let P:=lu T most
 (⟨P.rs,(Ag P.flat P.rs P.M2 P.T4 P.n P.n 0).1⟩,(Ag P.flat P.rs P.M2 P.T4 P.n P.n 0).2)
theorem EJ(T:Tp){l:List Int}(h:0<l.length):(jW T l).1∈l:=by have h2:=iR T (n:=l.length) (by omega);unfold jW;simp[*]
theorem V7(T:Tp):1≤(jW T vN).1∧(jW T vN).1≤5:=by grind[EJ,vN]
theorem Ya(T:Tp):∀i:Nat,(xJ T i).2.2.length=i∧(i:Int)≤(xJ T i).2.1∧(xJ T i).2.1≤5*i∧(∀x∈(xJ T i).2.2,1≤x.id∧x.id≤(xJ T i).2.1∧x.cap=true)∧(xJ T i).2.2.Pairwise fun x y=>x.id<y.id
 | 0=>by simp[xJ]
 | i+1=>by
   obtain⟨h1,h2,h3,h4,h5⟩:=Ya T i;have hp:=V7 (xJ T i).1;simp only[xJ]
   grind
def Up(n:Nat)(M:Mx):Prop:=∀i j,M i j=true→i<j∧j<n
theorem Up.set{n:Nat}{M:Mx}(h:Up n M){a b:Nat}(hab:a<b)(hb:b<n):Up n (TG M a b):=by
 intro i j e;unfold TG at e;split at e
 ·omega
 ·exact h i j e
theorem Z4(T:Tp)(n:Nat):∀i:Nat,i≤n-1→Up n (vg T i).2
 | 0,_=>fun i j e=>by trivial
 | i+1,h=>by
   have ih:=Z4 T n i (by omega);simp only[vg];split
   ·have h2:=iR (bH (vg T i).1 12).2 (n:=(i:Int)+1) (by omega);exact ih.set (by omega) (by omega)
   omega
theorem ZW{n:Nat}(hn:0<n)(T:Tp){M:Mx}(hM:Up n M):∀k:Nat,Up n (sN n T M k).2
 | 0=>hM
 | k+1=>by
   have ih:=ZW hn T hM k;simp only[sN];split
   ·omega
   ·have h1:=eX (sN n T M k).1 n;have h2:=iR (sN n T M k).1 (n:=n) (by omega);have h3:=eX (bH (sN n T M k).1 n).2 n;have h4:=iR (bH (sN n T M k).1 n).2 (n:=n) (by omega);exact ih.set (by omega) (by omega)
theorem aa3(T:Tp):0≤(jW T ug).1∧(jW T ug).1≤1000:=by have:=EJ T (l:=ug) (by trivial);generalize (jW T ug).1=y at this⊢;simp[ug]at this;omega
theorem ai8(flat:Bool)(x y:Int)(T:Tp):(JL flat x y T).1.a=x∧(JL flat x y T).1.b=y∧(1≤(JL flat x y T).1.ca∧(JL flat x y T).1.ca≤1000)∧(1≤(JL flat x y T).1.cb∧(JL flat x y T).1.cb≤1000)∧0≤(JL flat x y T).1.cap∧(JL flat x y T).1.cap≤1000:=by
 have hc:=aa3 T;unfold JL;simp only;split
 ·simp[*]
 ·generalize (jW T ug).2=T1;have u1:=uZ T1 1 20;have u2:=uY T1 (a:=1) (b:=20) (by omega);generalize kD T1 1 20=u at u1 u2⊢;have v1:=EJ u.2 (l:=[1,2,3,u.1,1000]) (by simp);generalize jW u.2 [1,2,3,u.1,1000]=v at v1⊢;have w1:=uZ v.2 1 20;have w2:=uY v.2 (a:=1) (b:=20) (by omega);generalize kD v.2 1 20=w at w1 w2⊢
  have z1:=EJ w.2 (l:=[v.1,v.1,w.1]) (by simp)
  grind
theorem aaj(flat:Bool)(rs:List Rt):∀(ps:List (Nat×Nat)) (s:List Lk×Tp),(ps.foldl (Gi flat rs) s).1.map (fun x=>(x.a,x.b))=s.1.map (fun x=>(x.a,x.b))++ps.map (fun q=>(rid rs q.1,rid rs q.2))∧
  ((∀x∈s.1,(1≤x.ca∧x.ca≤1000)∧(1≤x.cb∧x.cb≤1000)∧0≤x.cap∧x.cap≤1000)→∀x∈(ps.foldl (Gi flat rs) s).1,(1≤x.ca∧x.ca≤1000)∧(1≤x.cb∧x.cb≤1000)∧0≤x.cap∧x.cap≤1000)
 | [],s=>⟨by simp,fun h=>h⟩
 | q::ps,s=>by
   obtain⟨h1,h2⟩:=aaj flat rs ps (Gi flat rs s q);have hk:=ai8 flat (rid rs q.1) (rid rs q.2) s.2;rw[cO];refine⟨?_,fun h=>h2 fun x hx=>?_⟩
   ·grind[Gi]
   ·rcases aJ.1 hx with hx|hx
    ·exact h x hx
    ·obtain rfl:=bn.1 hx;exact hk.2.2
theorem TB{M:Mx}{a m:Nat}{q:Nat×Nat}:q∈rowP M a m↔q.1=a∧q.2<m∧M q.1 q.2=true:=by
 simp only[rowP,ay,bG,bD,aK]
 grind
theorem ajs{M:Mx}{n a:Nat}{q:Nat×Nat}(h:q∈Yh M n a 0):q.1<a∧q.2<n∧M q.1 q.2=true:=by
 simp only[Yh,rowP,List.range_zero,List.filter_nil,dY,aZ,fG,bD]at h
 grind
theorem alz(M:Mx)(n a:Nat):(Yh M n a 0).Pairwise fun q s=>q.1<s.1∨(q.1=s.1∧q.2<s.2):=by
 simp only[Yh];rw[show rowP M a 0 = [] from rfl,aZ]
 induction a with
 | zero=>simp
 | succ a ih=>
   rw[je,lG,jJ];refine⟨ih,?_,fun q hq s hs=>?_⟩
   ·simp only[gV,List.flatMap_nil,aZ,rowP,dA];refine List.Pairwise.imp ?_ ((List.pairwise_lt_range (n:=n)).filter _);intro x y h;exact .inr ⟨by first|rfl|trivial,h⟩
   ·obtain⟨x,hx,hq⟩:=fG.1 hq;obtain⟨y,hy,hs⟩:=fG.1 hs;have h1:=TB.1 hq;have h2:=TB.1 hs;have h3:=bD.1 hx;have h4:=bn.1 hy;left;omega
theorem aap(M:Mx)(a m:Nat):(rowP M a m).length≤m:=by grind[rowP]
theorem adF(M:Mx)(n a:Nat):(Yh M n a 0).length≤a*n:=by
 simp only[Yh];rw[show rowP M a 0 = [] from rfl,aZ]
 induction a with
 | zero=>simp
 | succ a ih=>
   rw[je,lG,aS];have:=aap M a n
   grind
theorem Ut{rs:List Rt}(h:rs.Pairwise fun x y=>x.id<y.id){i j:Nat}(hij:i<j)(hj:j<rs.length):rid rs i<rid rs j:=by
 unfold rid
 grind[List.pairwise_iff_getElem]
theorem QK{rs:List Rt}{i:Nat}(hi:i<rs.length):fM rs (rid rs i)=true:=by refine nI.2 (ay.2 ⟨rs[i],aB hi,?_⟩);unfold rid;simp[*]
theorem BX(T:Tp){most:Int}(hm:1≤most∧most≤7):jE (Az T most).1=0∧yu (Az T most).1∧1≤(Az T most).1.rs.length∧((Az T most).1.rs.length:Int)≤most:=by
 have a1:=uZ T 1 most;have a2:=uY T (a:=1) (b:=most) (by omega);obtain⟨r1,r2,r3,r4,r5⟩:=Ya (kD T 1 most).2 (kD T 1 most).1.toNat;have hn:0<(kD T 1 most).1.toNat:=by omega
 have hup:Up (kD T 1 most).1.toNat (lu T most).M2:=ZW hn _ (Z4 _ _ _ (aI _)) _;have hrs:(lu T most).rs=(xJ (kD T 1 most).2 (kD T 1 most).1.toNat).2.2:=rfl;have hnn:(lu T most).n=(kD T 1 most).1.toNat:=rfl;have e1:(Az T most).1.rs=(lu T most).rs:=rfl
 have e2:(Az T most).1.ls=((Yh (lu T most).M2 (lu T most).n (lu T most).n 0).foldl (Gi (lu T most).flat (lu T most).rs) ([],(lu T most).T4)).1:=rfl;obtain⟨g1,g2⟩:=aaj (lu T most).flat (lu T most).rs (Yh (lu T most).M2 (lu T most).n (lu T most).n 0) ([],(lu T most).T4);rw[←e2]at g1 g2
 simp only[dY,gW]at g1;have hlen:(Az T most).1.ls.length=(Yh (lu T most).M2 (lu T most).n (lu T most).n 0).length:=by have:=congrArg List.length g1;grind
 have hpl:=adF (lu T most).M2 (lu T most).n (lu T most).n;have hn7:(lu T most).n≤7:=by omega
 have hmul:(lu T most).n*(lu T most).n≤49:=nK hn7 hn7;have hmem:∀x∈(Az T most).1.ls,∃q∈Yh (lu T most).M2 (lu T most).n (lu T most).n 0,x.a=rid (lu T most).rs q.1∧x.b=rid (lu T most).rs q.2:=fun x hx=>by
  have:(x.a,x.b)∈(Az T most).1.ls.map fun x=>(x.a,x.b):=gB hx
  grind
 have hq':∀q∈Yh (lu T most).M2 (lu T most).n (lu T most).n 0,q.1<q.2∧q.2<(lu T most).rs.length:=fun q hq=>by have:=ajs hq;have h2:=hup q.1 q.2 this.2.2;simp[*]
 have hpw:(lu T most).rs.Pairwise fun x y=>x.id<y.id:=by trivial
 refine⟨aiR (by grind) (by omega) (fun x hx=>?_) (by trivial) (g2 (by simp)) (fun x hx=>?_) (fun x hx=>?_) ?_,fun x hx=>?_,by grind,by grind⟩
 ·grind
 ·grind[QK]
 ·obtain⟨q,hq,h1,h2⟩:=hmem x hx;have:=hq' q hq;rw[h1,h2];exact Ut hpw this.1 this.2
 ·have hpp:((Az T most).1.ls.map fun x=>(x.a,x.b)).Pairwise fun u v=>u.1<v.1∨(u.1=v.1∧u.2<v.2):=by
   rw[g1,dA];refine List.Pairwise.imp_of_mem ?_ (alz _ _ _);intro q s hq hs h;have h1:=hq' q hq;have h2:=hq' s hs;rcases h with h|⟨h,h'⟩
   ·exact .inl (Ut hpw h (by omega))
   ·exact .inr ⟨by simp only[h],Ut hpw h' h2.2⟩
  rw[dA]at hpp
  exact hpp
 simp_all
end Go.Proofs
