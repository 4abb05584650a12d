/-
  What functions of the program compute, stated as contracts over plain data; the conditions of each stand in its own statement.
-/
import Derived.Test.YtboimfkommpglaaGreatDoorZA20
import Derived.Test.YtboimfkommpglaaGreatDoorZA51
import Derived.Test.YtboimfkommpglaaGreatDoorZA19
import Derived.Test.YtboimfkommpglaaGreatDoorZA21
import Derived.Test.YtboimfkommpglaaGreatDoorZA26
import Derived.Test.YtboimfkommpglaaGreatDoorZA28
set_option linter.unusedSimpArgs false
set_option maxRecDepth 100000
set_option maxHeartbeats 8000000
namespace Go.Proofs
open Go Go.Tr
theorem Kt(b:Tb)(hb:b.Sm)(p:Pk)(h1:chk b=0)(h2:p.ok=true)(h5:b.len=p.len):Contract Tryz.prog 120 [bZ b,dX p] [] (outT (iH b p)) [] []:=by
 have hpl:=zX p;simp only[dX,Pk.cs,List.map]at hpl;have Gt:=BO p;have hlen:b.len≤1000:=by
  have:=(D8 h2).1;simp[aG]at this
  omega
 refine aj Tryz.func120 rfl (fun E0=>?_);refine cO.sound (g:=.mk) (ow:=[]) (kp:=(fun k=>k==0||k==1||k==2||k==3||k==4||k==5||k==6||k==7||k==8||k==10||k==11||k==12||k==13||k==17||k==51||k==66||k==74)) ?_;rw[Tryz.ntmps120];simp -dsimp[bZ,dX,Pk.cs];try refine⟨?_,⟨by kernel_rfl⟩⟩
 refine aN.of [] (fun k=>k==0||k==1||k==2||k==3||k==4||k==5||k==6||k==7||k==8||k==10||k==11||k==12||k==13||k==17||k==51||k==66||k==74) (ι:={z:Nat×Out×BitVec 64 // iH b p=yx b p z.1 z.2.1 z.2.2∧(ku z.2.2).length≤z.1∧z.2.1.g_.length+z.1≤64∧∀k<64,z.2.2.getLsbD k=true→p.bits.getLsbD k=true})
  (fun z=>[(Pl.o 2,It.box [TV.d (.int .i64 b.r),TV.d (.int .i64 b.sd),TV.d (.int .i64 b.len),TV.d (bV b.rows)]),(Pl.s 2,It.v (.ptr (Pl.o 2) 0)),
   (Pl.o 3,It.box (p.cs.map .d)),(Pl.s 3,It.v (.ptr (Pl.o 3) 0)),
   (Pl.o 4,It.box [TV.d (.int IntKind.u64 0),TV.d (.int IntKind.u64 0),TV.c (Value.slice none 0 0)]),(Pl.s 4,It.v (.ptr (Pl.o 4) 0)),
   (Pl.o 5,It.box [TV.d (.int IntKind.u64 (tn z.1.2.1.loc)),TV.d (.int IntKind.u64 (tn z.1.2.1.lost)),TV.aB 50 z.1.2.1.g_.length]),(Pl.s 5,It.v (.ptr (Pl.o 5) 0)),
   (Pl.o 50,It.row 29 12 (dd (z.1.2.1.g_.map DI)) false),(Pl.s 6,It.v (.d (.int IntKind.u64 (tn z.1.2.2))))])
  (fun z=>z.1.1) ⟨(64,iC,p.bits),rfl,xY _,by simp[iC],fun _ _ h=>h⟩ ?_ ?_
 ·exact GS.gq (.o 5) 2 50 (cs:=[TV.d (.int IntKind.u64 0),TV.d (.int IntKind.u64 0),TV.c (Value.slice none 0 0)]) 29 12 (by simp) (by simp) (by simp) (by simp) (by simp[iC,Pk.cs,bv])
 ·rintro⟨⟨n,o,R⟩,i1,i2,i3,i4⟩;simp only at i1 i2 i3 i4;by_cases h0:R=0#64
  ·subst h0;have e:iH b p=o:=by rw[i1];cases n<;>simp[yx]
   simp -dsimp;try refine⟨?_,⟨by kernel_rfl⟩⟩
   refine Fin.box (.o 4) rfl ?_;simp -dsimp;refine Fin.of ?_;simp[outT,bv,e]
  ·have hf:=zJ R;have e:jF R=(tz R:Int):=by simp[jF,h0]
   rw[e]at hf
   simp only[bv]at hf;obtain⟨t1,t2,t3⟩:=xP h0;have hat:=Ce p.set (tz R) p.len;simp only[zD]at hat;have hnx:=yS b hb (vZ p (tz R)) (kX p) ⟨Gt.1,Gt.2⟩;have hho:mG b (vZ p (tz R)) (kX p)=aF b p (tz R):=(RU h1 p _).symm;rw[hho]at hnx
   have hid:(if Ej p.set (tz R) p.len=true then p.set*p.len+(tz R:Int)+1 else 0)=vZ p (tz R):=rfl;simp only[hid]at hat;simp only[bZ]at hnx;have hbt:=uD (tz R);have ebt:lS (tz R)=1#64<<<tz R:=by
    rw[←Ad ⟨by omega,by omega⟩];simp
   rw[ebt]at hbt
   simp -dsimp[h0];try refine⟨?_,⟨by kernel_rfl⟩⟩
   refine ah.of hf [] 0 ?_;have hmb:=EP h1 h2 h5 i4 h0;have hpop:=Fv t1 t2 hmb;have hto:jR b p R (aF b p (tz R))=R&&&Bl b (kX p) p.set (aF b p (tz R)):=rfl;obtain⟨n,rfl⟩:∃j,n=j+1:=⟨n-1,by omega⟩
   have hstep:iH b p=yx b p n (mV b p o R) (R &&& ~~~ mQ b p R):=by rw[i1,yx,if_neg h0]
   have hsub:∀k<64,(R &&& ~~~ mQ b p R).getLsbD k=true→p.bits.getLsbD k=true:=fun k hk hb=>by
    rw[BitVec.getLsbD_and]at hb
    simp only[Bool.and_eq_true]at hb;exact i4 k hk hb.1
   simp -dsimp[h0,Pk.cs];try refine⟨?_,⟨by kernel_rfl⟩⟩
   refine ah.of hat [] 0 ?_;simp -dsimp;try refine⟨?_,⟨by kernel_rfl⟩⟩
   refine ah.of hpl [] 0 ?_;simp -dsimp;try refine⟨?_,⟨by kernel_rfl⟩⟩
   refine ah.of hnx [] 0 ?_;simp -dsimp;try refine⟨?_,⟨by kernel_rfl⟩⟩
   refine ah.of hbt [] 0 ?_;by_cases c0:aF b p (tz R)=0
   ·have eM:mQ b p R=1#64<<<tz R:=by rw[mQ,if_pos (.inl c0)]
    have eO:mV b p o R=⟨o.loc,o.lost|||1#64<<<tz R,o.g_⟩:=by rw[mV,if_pos c0]
    rw[eM]at hpop hsub hstep
    rw[eO]at hstep
    simp -dsimp[eq_true c0,bv];try refine⟨?_,⟨by kernel_rfl⟩⟩
    exact⟨⟨(n,⟨o.loc,o.lost|||1#64<<<tz R,o.g_⟩,R &&& ~~~ (1#64<<<tz R)),hstep,by simp only;omega,by simp only;omega,hsub⟩,GS.to (by simp[Pk.cs,bv]),by simp⟩
   by_cases c1:aF b p (tz R)=b.r
   ·have eM:mQ b p R=1#64<<<tz R:=by rw[mQ,if_pos (.inr c1)]
    have eO:mV b p o R=⟨o.loc|||1#64<<<tz R,o.lost,o.g_⟩:=by rw[mV,if_neg c0,if_pos c1]
    rw[eM]at hpop hsub hstep
    rw[eO]at hstep
    rw[c1]at c0⊢
    simp -dsimp[c0,bv];try refine⟨?_,⟨by kernel_rfl⟩⟩
    exact⟨⟨(n,⟨o.loc|||1#64<<<tz R,o.lost,o.g_⟩,R &&& ~~~ (1#64<<<tz R)),hstep,by simp only;omega,by simp only;omega,hsub⟩,GS.to (by simp[Pk.cs,bv]),by simp⟩
   have eM:mQ b p R=jR b p R (aF b p (tz R)):=by rw[mQ,if_neg (fun h=>h.elim c0 c1)]
   rw[eM]at hpop hsub hstep
   have hhr:1≤aF b p (tz R)∧aF b p (tz R)≤99:=by
    rw[←hho];exact BL h1 (by rw[hho];exact c0)
   have hmk:=Cj b hb (kX p) p.set (aF b p (tz R)) ⟨Gt.1,Gt.2⟩ hlen;rw[←MR h1 h2 hhr]at hmk
   simp only[bZ,bv]at hmk;have hms:=xU p (jR b p R (aF b p (tz R)));have hpk:jg p (jR b p R (aF b p (tz R)))=jg (p.setB R) (jR b p R (aF b p (tz R))):=KU _ h2 i4;rw[hpk]at hms
   obtain⟨Q,hQ⟩:∃Q,jg (p.setB R) (jR b p R (aF b p (tz R)))=Q:=⟨_,rfl⟩
   rw[hQ]at hms
   simp only[dX,Pk.cs,List.map,bv]at hms;simp -dsimp[c0,c1];try refine⟨?_,⟨by kernel_rfl⟩⟩
   refine ah.of hpl [] 0 ?_;simp -dsimp;try refine⟨?_,⟨by kernel_rfl⟩⟩
   refine ah.of hmk [] 0 ?_;simp -dsimp[←hto];try refine⟨?_,⟨by kernel_rfl⟩⟩
   have eO:mV b p o R=if(jg (p.setB R) (jR b p R (aF b p (tz R)))).2=true then ⟨o.loc,o.lost,o.g_++[(aF b p (tz R),(jg (p.setB R) (jR b p R (aF b p (tz R)))).1)]⟩else ⟨o.loc,o.lost|||jR b p R (aF b p (tz R)),o.g_⟩:=by
    rw[mV,if_neg c0,if_neg c1]
   rw[eO]at hstep
   rw[hQ]at hstep
   clear hQ eO hpk;generalize jR b p R (aF b p (tz R))=M at hms hstep hpop hsub⊢;refine ah.of hms [] 0 ?_;rcases (Bool.eq_false_or_eq_true Q.2).symm with q1|q1
   ·rw[if_neg (by rw[q1];simp)]at hstep
    simp -dsimp[q1];and_intros;all_goals try first|omega|exact rfl|exact⟨by kernel_rfl⟩
    exact⟨⟨(n,⟨o.loc,o.lost|||M,o.g_⟩,R &&& ~~~ M),hstep,by simp only;omega,by simp only;omega,hsub⟩,GS.to (by simp[Pk.cs,bv]),by simp⟩
   ·rw[if_pos q1]at hstep
    simp -dsimp[q1];and_intros;all_goals try first|omega|exact rfl|exact⟨by kernel_rfl⟩
    exact⟨⟨(n,⟨o.loc,o.lost,o.g_++[(aF b p (tz R),Q.1)]⟩,R &&& ~~~ M),hstep,by simp only;omega,by simp only[List.length_append,List.length_cons,List.length_nil];omega,hsub⟩,GS.to (by simp[Pk.cs,bv,DI]),by simp⟩
theorem OC(r:Int)(o:Out)(p:Pk):Contract Tryz.prog 192 [.d (.int .i64 r),outT o,dX p] [] (.d (.sl ((nI r o p).map lT))) [] []:=by
 have hl:=sK o.loc;simp only[bv]at hl;refine aj Tryz.func192 rfl (fun E0=>?_);refine cO.sound (g:=.mk) (ow:=[]) (kp:=(fun k=>k==0||k==1||k==2||k==4||k==5||k==6||k==7||k==8||k==9||k==16)) ?_;rw[Tryz.ntmps192];simp -dsimp[outT,bv,dX,Pk.cs];try refine⟨?_,⟨by kernel_rfl⟩⟩
 refine ah.of hl [] 0 ?_;have hB:=iT o.loc;unfold nI;generalize lg o.loc=L at hB⊢;simp -dsimp[ints];try refine⟨?_,⟨by kernel_rfl⟩⟩
 refine aN.of [] (fun k=>k==0||k==1||k==2||k==4||k==5||k==6||k==7||k==8||k==9||k==16) (ι:={i:Nat // i≤L.length})
  (fun z=>[(Pl.o 5,It.box (p.cs.map .d)),(Pl.s 5,It.v (.ptr (Pl.o 5) 0)),(Pl.s 0,It.v (.d (.int .i64 r))),(Pl.s 6,It.v (.c (Value.slice none 0 0))),
   (Pl.s 7,It.v (.d (.sl (L.map fun n=>[D.int .i64 n])))),
   (Pl.s 8,It.v (.aB 8 z.1)),(Pl.o 8,It.row 92 11 (dd (((L.take z.1).map fun k=>(r,f_ p k)).map lT)) false),
   (Pl.s 9,It.v (.d (.int .i64 z.1)))])
  (fun z=>L.length-z.1) ⟨0,by omega⟩ ?_ ?_
 ·exact GS.own' (k:=8) 92 11 (by simp) (by simp) (by simp[Pk.cs,bv])
 ·rintro⟨i,i1⟩;by_cases hi:i<L.length
  ·have hiz:(i:Int)<L.length:=by omega
   have hg:L[i]? = some L[i]:=List.getElem?_eq_getElem hi;generalize L[i]=k at hg;have ho:=IK p k;have hn:dd (((L.take (i+1)).map fun k=>(r,f_ p k)).map lT)=dd (((L.take i).map fun k=>(r,f_ p k)).map lT)++[TV.d (.int .i64 r)::(f_ p k).cs.map .d]:=by
    rw[List.take_add_one,hg];simp[dd,lT]
   have hlen:(((L.take i).map fun k=>(r,f_ p k)).map lT).length=i:=by simp;omega
   generalize f_ p k=q at ho hn;simp[Pk.cs]at hn
   simp only[dX,Pk.cs,List.map]at ho;simp -dsimp[hg,hiz,Pk.cs];try refine⟨?_,⟨by kernel_rfl⟩⟩
   refine ah.of ho [] 0 ?_;simp -dsimp[wrap_i64 (n:=(i:Int)+1) (by omega) (by omega)];and_intros;all_goals try first|omega|exact⟨by kernel_rfl⟩
   exact⟨⟨i+1,by omega⟩,GS.to (by simp[hn,Pk.cs]),by simp;omega⟩
  ·have hiz :¬(i:Int)<L.length:=by omega
   obtain rfl:i=L.length:=by omega
   simp -dsimp[hiz];refine Fin.view 6 ?_;simp -dsimp;refine Fin.of ?_;simp
end Go.Proofs

namespace Go.Proofs
theorem Fz{g:ay}(hg:g.Ok){f t c:Int}(h:price g.ls f t=some c):∃c',price g.ls t f=some c':=by
 obtain⟨x,hx,h1⟩:=wU h;have h2:=Di hg.Zu (fun _ h=>hg.lab h) hx;rcases h1 with⟨rfl,rfl,_⟩|⟨rfl,rfl,_⟩
 ·exact⟨_,h2.2⟩
 ·exact⟨_,h2.1⟩
theorem E5(g:ay)(s:List Int×List Int)(n:Int):∃r,(jS g s n).1=s.1++r:=by
 unfold jS;split
 ·exact⟨[],by simp⟩
 ·split
  ·exact⟨[],by simp⟩
  ·exact⟨[n],rfl⟩
theorem nT(g:ay):∀(l:List Int) (s:List Int×List Int),∃r,(l.foldl (jS g) s).1=s.1++r
 | [],s=>⟨[],by simp⟩
 | n::l,s=>by
   obtain⟨r1,h1⟩:=E5 g s n;obtain⟨r2,h2⟩:=nT g l (jS g s n);exact⟨r1++r2,by rw[List.foldl_cons,h2,h1,List.append_assoc]⟩
theorem uZ.fold{g:ay}{t f x:Int}(hx:Hr g t f x):∀(l:List Int) (s:List Int×List Int),(∀n∈l,n∈steps g (dist g t) x)→uZ g t f s→
  uZ g t f (l.foldl (jS g) s)∧(∀y∈s.2,y∈(l.foldl (jS g) s).2)∧∀n∈l,if dY g.rs n=true then n∈(l.foldl (jS g) s).2 else n∈(l.foldl (jS g) s).1
 | [],s,_,h=>⟨h,fun _ h=>h,by simp⟩
 | n::l,s,hl,h=>by
   obtain⟨h1,h2,h3⟩:=h.step hx (hl n (by simp));obtain⟨h4,h5,h6⟩:=uZ.fold hx l _ (fun m hm=>hl m (by simp[hm])) h1;rw[List.foldl_cons];refine⟨h4,fun y hy=>h5 y (h2 y hy),fun m hm=>?_⟩;rcases List.mem_cons.1 hm with rfl|hm
   ·split
    ·rename_i hc;rw[if_pos hc]at h3;exact h5 _ h3
    ·rename_i hc;rw[if_neg hc]at h3
     obtain⟨r,hr⟩:=nT g l (jS g s m);rw[hr];exact List.mem_append.2 (.inl h3)
   ·exact h6 m hm
def adZ(g:ay)(t:Int)(i:Nat)(s:List Int×List Int):Prop:=∀j<i,∀x,s.1[j]? = some x→∀n∈steps g (dist g t) x,if dY g.rs n=true then n∈s.2 else n∈s.1
theorem vY{g:ay}{t f:Int}:∀(k i:Nat) (s:List Int×List Int),uZ g t f s→adZ g t i s→i≤s.1.length→g.rs.length+1≤k+i→
  uZ g t f (qo g (dist g t) k i s)∧(∀x∈s.1,x∈(qo g (dist g t) k i s).1)∧∀x∈(qo g (dist g t) k i s).1,∀n∈steps g (dist g t) x,if dY g.rs n=true then n∈(qo g (dist g t) k i s).2 else n∈(qo g (dist g t) k i s).1
 | 0,i,s,h,_,hi,hk=>by
   have:=BG h.nd (fun x hx=>(h.seen x hx).2);omega
 | k+1,i,s,h,hc,hi,hk=>by
   rw[qo];split
   ·rename_i hlt;have hx:s.1[i]? = some s.1[i]:=List.getElem?_eq_getElem hlt;have hxm:=h.seen _ (List.getElem_mem hlt);have e:s.1.getD i 0=s.1[i]:=by rw[List.getD_eq_getElem?_getD,hx];rfl
    rw[e];generalize s.1[i]=x at hx hxm;obtain⟨h1,h2,h3⟩:=uZ.fold hxm.1 (steps g (dist g t) x) s (fun _ h=>h) h;obtain⟨r,hr⟩:=nT g (steps g (dist g t) x) s;have hsub:∀y∈s.1,y∈((steps g (dist g t) x).foldl (jS g) s).1:=fun y hy=>by rw[hr];exact List.mem_append.2 (.inl hy)
    obtain⟨h4,h5,h6⟩:=vY k (i+1) ((steps g (dist g t) x).foldl (jS g) s) h1 (fun j hj y hy n hn=>by
     rw[hr,List.getElem?_append_left (by omega)]at hy
     by_cases ej:j=i
     ·subst ej;rw[hx]at hy;simp at hy;subst hy
      exact h3 n hn
     ·have:=hc j (by omega) y hy n hn;split
      ·rename_i a;rw[if_pos a]at this;exact h2 n this
      ·rename_i a;rw[if_neg a]at this;exact hsub n this) (by rw[hr,List.length_append];omega) (by omega)
    exact⟨h4,fun y hy=>h5 y (hsub y hy),h6⟩
   ·rename_i hlt;refine⟨h,fun _ h=>h,fun x hx n hn=>?_⟩;obtain⟨j,hj,rfl⟩:=List.mem_iff_getElem.1 hx;exact hc j (by omega) _ (List.getElem?_eq_getElem hj) n hn
theorem wB{g:ay}(hg:cZ g=0){f t:Int}(hf:aY g.rs f=true)(ht:aY g.rs t=true)(hne:f≠t){n:Int}:n∈hops g f t↔zA g t f n:=by
 unfold hops;rw[if_pos ⟨hg,hf,ht,hne⟩];obtain⟨h1,h2,h3⟩:=vY (g:=g) (t:=t) (f:=f) (g.rs.length+1) 0 ([f],[]) ⟨by simp,fun x hx=>by simp at hx;subst hx;exact⟨.nil,hf⟩,by simp,by simp⟩ (fun j hj=>by omega) (by simp) (by omega);refine⟨h1.out n,fun⟨x,hx,hn,hc⟩=>?_⟩;have key:∀x,Hr g t f x→x∈(qo g (dist g t) (g.rs.length+1) 0 ([f],[])).1:=fun x hx=>by
  induction hx with
  | nil=>exact h2 f (by simp)
  | via _ hy hc ih=>
    have:=h3 _ ih _ hy
    rwa [if_neg (by simp[hc])]at this
 have:=h3 x (key x hx) n hn
 rwa [if_pos hc]at this
set_option linter.unusedVariables false
theorem adu{p:Pk}(h:p.ok=true)(ht:p.ttl≠0)(m:BitVec 64):kX (ji p m)=kX p:=by
 simp only[kX,Xd h ht m,h,if_true];rfl
theorem Jt(p:Pk)(m:BitVec 64)(k:Nat):vZ (ji p m) k=vZ p k:=rfl
theorem IV{p:Pn}(h:d_ p=true):p.es.Pairwise (fun x y=>x.id<y.id):=by
 simp only[d_,decide_eq_true_eq]at h;obtain⟨_,h2,_⟩:=h;have hst:∀i (hi:i+1<p.es.length),p.es[i].id<p.es[i+1].id:=fun i hi=>by
  have h3:=h2 (i+1) hi;simp only[LD,gid,KA,Bool.and_eq_true,Bool.or_eq_true,decide_eq_true_eq,Nat.add_sub_cancel]at h3;have h4:=h3.2.2;rw[List.getD_eq_getElem?_getD,List.getD_eq_getElem?_getD,List.getElem?_eq_getElem hi,List.getElem?_eq_getElem (by omega)]at h4
  simpa using h4
 rw[List.pairwise_iff_getElem];intro i j hi hj hij;obtain⟨d,rfl⟩:∃d,j=i+1+d:=⟨j-(i+1),by omega⟩
 clear hij
 induction d with
 | zero=>exact hst i hj
 | succ d ih=>
   exact Int.lt_trans (ih (by omega)) (hst (i+1+d) (by omega))
theorem Fq{p:Pn}(h:d_ p=true){x y:Ed}(hx:x∈p.es)(hy:y∈p.es)(e:x.id=y.id):x=y:=by
 obtain⟨i,hi,rfl⟩:=List.mem_iff_getElem.1 hx;obtain⟨j,hj,rfl⟩:=List.mem_iff_getElem.1 hy;have hp:=List.pairwise_iff_getElem.1 (IV h);rcases Nat.lt_trichotomy i j with hlt|rfl|hlt
 ·have:=hp i j hi hj hlt;omega
 ·rfl
 ·have:=hp j i hj hi hlt;omega
theorem wM{g:ay}(hg:g.Ok){r:Int}(h:dY g.rs r=true):aY g.rs r=true:=by
 obtain⟨x,hx,rfl,_⟩:=(xw hg).1 h;exact dH.2 (List.mem_map_of_mem hx)
theorem BX{g:ay}(hg:g.Ok)(p:Pn)(r:Int):bH (tabs g p g.rs) r=if dY g.rs r=true then some (jE g p r)else none:=by
 split
 ·rename_i h;obtain⟨x,hx,rfl,hc⟩:=(xw hg).1 h;refine r_ (x:=jE g p x.id) (List.mem_map.2 ⟨x,List.mem_filter.2 ⟨hx,hc⟩,rfl⟩) (by simp[jE]) (fun y hy e=>?_);obtain⟨z,hz,rfl⟩:=List.mem_map.1 hy;have:z.id=x.id:=of_decide_eq_true e;rw[this]
 ·rename_i h;rw[bH,List.find?_eq_none];intro y hy;obtain⟨z,hz,rfl⟩:=List.mem_map.1 hy;obtain⟨h1,h2⟩:=List.mem_filter.1 hz;intro e;exact h ((xw hg).2 ⟨z,h1,of_decide_eq_true e,h2⟩)
theorem EI{g:ay}{p:Pn}(hp:d_ p=true){e:Ed}(he:e∈p.es)(r:Int):rowOf (jE g p r) e.id=some (uS g r e):=
 r_ (List.mem_map_of_mem he) (by simp[uS]) (fun y hy h=>by
  obtain⟨z,hz,rfl⟩:=List.mem_map.1 hy;have:z.id=e.id:=of_decide_eq_true h;rw[Fq hp hz he this])
theorem zG{g:ay}{p:Pn}{id:Int}(h:∀e∈p.es,e.id≠id)(r:Int):rowOf (jE g p r) id=none:=by
 rw[rowOf,List.find?_eq_none];intro y hy;obtain⟨z,hz,rfl⟩:=List.mem_map.1 hy;exact fun a=>h z hz (of_decide_eq_true a)
theorem MG{x:Rw}{p:Int}(h:x.nx≠[])(hz:∀n∈x.nx,n≠0):og x p∈x.nx:=by
 have hl:x.nx.length≠0:=fun e=>h (List.length_eq_zero_iff.1 e)
 rw[og,if_neg hl];have h1:(p%x.nx.length).toNat<x.nx.length:=by
  have:=Int.emod_lt_of_pos p (b:=x.nx.length) (by omega);have:=Int.emod_nonneg p (b:=x.nx.length) (by omega);omega
 rw[List.getD_eq_getElem?_getD,List.getElem?_eq_getElem h1];exact List.getElem_mem h1
theorem BI{g:ay}(hg:cZ g=0){p:Pn}(hp:d_ p=true){e:Ed}(he:e∈p.es){r:Int}(hr:aY g.rs r=true)(pl:Int):
  (e.r=r∧mG (jE g p r) e.id pl=r)∨(e.r≠r∧dY g.rs e.r=true∧dst g e.r r<far∧zA g e.r r (mG (jE g p r) e.id pl))∨
  (e.r≠r∧(dY g.rs e.r=false∨dst g e.r r=far)∧mG (jE g p r) e.id pl=0):=by
 have hO:=aU hg;unfold mG;rw[EI hp he,Option.getD_some];by_cases e1:e.r=r
 ·refine .inl ⟨e1,?_⟩;simp only[uS,if_pos e1,og];simp
 ·by_cases hc:dY g.rs e.r=true
  ·have hh:=wM hO hc;have hrow:(uS g r e).nx=hops g r e.r:=by simp only[uS,if_neg e1,if_pos (show cZ g=0∧_ from⟨hg,hc⟩)]
   by_cases hd:dst g e.r r<far
   ·obtain⟨n,hn⟩:=zA.some hO hr hh hc (Ne.symm e1) hd;refine .inr (.inl ⟨e1,hc,hd,?_⟩);have hm:=MG (x:=uS g r e) (p:=pl) (by
     rw[hrow];exact List.ne_nil_of_mem ((wB hg hr hh (Ne.symm e1)).2 hn)) (fun x hx=>by
     rw[hrow]at hx
     have:=(Qn g r e.r).2 x hx;have:=hO.id this.1;unfold DJ at this;omega)
    rw[hrow]at hm
    exact(wB hg hr hh (Ne.symm e1)).1 hm
   ·refine .inr (.inr ⟨e1,.inr ?_,?_⟩)
    ·have:=rZ hO e.r r;omega
    ·have:hops g r e.r = []:=by
      cases hl:hops g r e.r with
      | nil=>rfl
      | cons n l=>
        have:=((wB hg hr hh (Ne.symm e1)).1 (show n∈hops g r e.r by rw[hl];simp)).near hO;exact absurd this.2.1 hd
     rw[og,hrow,this];rfl
  ·refine .inr (.inr ⟨e1,.inl (by simpa using hc),?_⟩);simp only[uS,if_neg e1,if_neg (show ¬(cZ g=0∧dY g.rs e.r=true) from fun a=>hc a.2),og];simp
def XP(s:List Int)(n:Int):List Int:=if mF s n=true then s else s++[n]
structure ArI(g:ay)(r:Int)(s:List Int):Prop where
 nd:s.Nodup
 all:∀x∈s,aY g.rs x=true∧∃k v,Wk g r k x v
theorem ArI.fold{g:ay}(hg:g.Ok){r:Int}{x:Int}{k:Nat}{v:Int}(hw:Wk g r k x v):∀(l s:List Int),(∀n∈l,n∈near g x)→ArI g r s→ArI g r (l.foldl XP s)
 | [],_,_,h=>h
 | n::l,s,hl,h=>by
   rw[List.foldl_cons];refine ArI.fold hg hw l _ (fun m hm=>hl m (by simp[hm])) ?_;unfold XP;split
   ·exact h
   ·rename_i hn;have hni:n∉s:=by simpa[mF]using hn
    refine⟨List.nodup_append.2 ⟨h.nd,by simp,fun a ha b hb=>by simp at hb;subst hb;exact fun e=>hni (e▸ha)⟩,fun y hy=>?_⟩;rcases List.mem_append.1 hy with hy|hy
    ·exact h.all y hy
    ·simp at hy;subst hy;have hnr:=hl y (by simp);obtain⟨c,hc⟩:=(Nb hg).1 hnr;obtain⟨c',hc'⟩:=Fz hg hc;exact⟨Na hnr,k+1,_,.cons hc' hw⟩
theorem jM(x:Lk):∀(l:List Lk),∀y∈l.take (bU x l),y.before x=true
 | []=>by simp
 | z::r=>by
   intro y hy;rw[bU]at hy
   split at hy
   ·rename_i hz;rw[List.take_succ_cons]at hy
    rcases List.mem_cons.1 hy with rfl|hy
    ·exact hz
    ·exact jM x r y hy
   ·simp at hy
theorem nU(x:Lk):∀(l:List Lk) (y:Lk),l[bU x l]? = some y→y.before x=false
 | [],y,h=>by simp at h
 | z::r,y,h=>by
   rw[bU]at h
   split at h
   ·exact nU x r y (by simpa using h)
   ·rename_i hz;simp at h;subst h;simpa using hz
theorem lI{x y:Lk}:y.before x=true↔gB y x:=by simp[Lk.before,gB]
theorem Iy{l:List Lk}(x:Lk)(h:l.Pairwise gB)(hd:∀y∈l,¬(y.a=x.a∧y.b=x.b)):(l.take (bU x l)++[x]++l.drop (bU x l)).Pairwise gB∧∀y,y∈l.take (bU x l)++[x]++l.drop (bU x l)↔y∈l∨y=x:=by
 have hl:l.take (bU x l)++l.drop (bU x l)=l:=List.take_append_drop _ _;have hp:(l.take (bU x l)++l.drop (bU x l)).Pairwise gB:=by rw[hl];exact h
 rw[List.pairwise_append]at hp
 have hdr:∀y∈l.drop (bU x l),gB x y:=fun y hy=>by
  cases hc:l.drop (bU x l)with
  | nil=>rw[hc]at hy;simp at hy
  | cons z r=>
    have hz:l[bU x l]? = some z:=by
     have:(l.drop (bU x l))[0]? = some z:=by rw[hc];rfl
     simpa using this
    have h1:=nU x l z hz;have h2:=hd z (List.mem_of_getElem? hz);have h3:gB x z:=by
     have :¬gB z x:=fun a=>by rw[lI.2 a]at h1;simp at h1
     unfold gB at *;omega
    rw[hc]at hy
    rcases List.mem_cons.1 hy with rfl|hy
    ·exact h3
    ·have:=hp.2.1;rw[hc,List.pairwise_cons]at this
     exact nC h3 (this.1 y hy)
 refine⟨?_,fun y=>?_⟩
 ·rw[List.append_assoc,List.pairwise_append];refine⟨hp.1,?_,fun a ha b hb=>?_⟩
  ·rw[List.singleton_append,List.pairwise_cons];exact⟨hdr,hp.2.1⟩
  ·have h1:=lI.1 (jM x l a ha);rcases List.mem_append.1 hb with hb|hb
   ·simp at hb;subst hb;exact h1
   ·exact nC h1 (hdr b hb)
 ·conv=>rhs;rw[←hl]
  simp only[List.mem_append,List.mem_singleton];constructor
  ·rintro ((a|a)|a)
   ·exact .inl (.inl a)
   ·exact .inr a
   ·exact .inl (.inr a)
  ·rintro ((a|a)|a)
   ·exact .inl (.inl a)
   ·exact .inr a
   ·exact .inl (.inr a)
theorem rC:∀(l out:List Lk),l.Pairwise MP→out.Pairwise gB→(∀x∈l,∀y∈out,MP x y)→(jO l out).Pairwise gB∧∀y,y∈jO l out↔y∈l∨y∈out
 | [],out,_,h,_=>⟨h,by simp[jO]⟩
 | x::l,out,hl,h,hd=>by
   rw[List.pairwise_cons]at hl
   obtain⟨h1,h2⟩:=Iy x h (fun y hy e=>hd x (by simp) y hy ⟨e.1.symm,e.2.symm⟩);obtain⟨h3,h4⟩:=rC l _ hl.2 h1 (fun z hz y hy=>by
    rcases (h2 y).1 hy with hy|rfl
    ·exact hd z (by simp[hz]) y hy
    ·exact fun e=>hl.1 z hz ⟨e.1.symm,e.2.symm⟩)
   refine⟨h3,fun y=>?_⟩;rw[jO,h4,h2];simp only[List.mem_cons];constructor
   ·rintro (a|a|a)
    ·exact .inl (.inr a)
    ·exact .inr a
    ·exact .inl (.inl a)
   ·rintro ((a|a)|a)
    ·exact .inr (.inr a)
    ·exact .inl a
    ·exact .inr (.inl a)
theorem zx.nP{cost:Int}(hc:1≤cost∧cost≤1000):∀(n:Nat) (b:Int) (T:Tp) (l:List Lk),zx b 1 l→2≤b→zx (b+n) 1 (dS cost n b T l).1
 | 0,b,T,l,h,_=>by simpa[dS]using h
 | n+1,b,T,l,h,hb=>by
   rw[dS];have h1:zx b b (gW cost b T l).1:=by
    unfold gW;simp only;have:=zx.row (b:=b) (tree:=(aT T 1 (b-1)).1) (skip:=(dD (aT T 1 (b-1)).2 9).1) hc (b-1).toNat 1 (dD (aT T 1 (b-1)).2 9).2 l h (by omega) (by omega);rw[show 1+(((b-1).toNat:Nat):Int)=b by omega]at this
    exact this
   have h2:zx (b+1) 1 (gW cost b T l).1:=⟨fun x hx=>by have:=h1.all x hx;omega,h1.ne⟩
   have:=zx.nP hc n (b+1) (gW cost b T l).2 _ h2 (by omega);rw[show b+((n+1:Nat):Int)=b+1+n by omega];exact this
theorem jJ(cost tree:Int)(skip:Bool)(b:Int):∀(n:Nat) (a:Int) (T:Tp) (l:List Lk),(dV cost tree skip b n a T l).1.length≤l.length+n
 | 0,_,_,_=>Nat.le_refl _
 | n+1,a,T,l=>by
   have h1:=jJ cost tree skip b n (a+1) (dI cost tree skip b a T l).2 (dI cost tree skip b a T l).1;have h2:=zN cost tree skip b a T l;rw[dV];omega
theorem jK(cost:Int)(m:Nat):∀(n:Nat) (b:Int) (T:Tp) (l:List Lk),1≤b→b+n≤m+2→(dS cost n b T l).1.length≤l.length+n*m
 | 0,_,_,_,_,_=>by simp[dS]
 | n+1,b,T,l,hb,hm=>by
   have h1:=jK cost m n (b+1) (gW cost b T l).2 (gW cost b T l).1 (by omega) (by omega);have h2:(gW cost b T l).1.length≤l.length+(b-1).toNat:=jJ _ _ _ _ _ _ _ _;rw[dS];have h3:(n+1)*m=n*m+m:=Nat.succ_mul _ _;omega
theorem oV{g:ay}(h1:g.rs.length≤24)(h2:g.ls.length≤60)(h3:∀x∈g.rs,1≤x.id∧x.id≤99)(h4:g.rs.Pairwise fun x y=>x.id<y.id)
  (h5:∀x∈g.ls,(1≤x.ca∧x.ca≤1000)∧(1≤x.cb∧x.cb≤1000)∧0≤x.cap∧x.cap≤1000) (h6:∀x∈g.ls,aY g.rs x.a=true∧aY g.rs x.b=true) (h7:∀x∈g.ls,x.a<x.b) (h8:g.ls.Pairwise gB):cZ g=0:=by
 have a1:decide (24<g.rs.length)=false:=by simp;omega
 have a2:decide (60<g.ls.length)=false:=by simp;omega
 have a3:(g.rs.any fun x=>!inB x.id 1 99)=false:=by
  rw[List.any_eq_false];intro x hx;have:=h3 x hx;simp[inB];omega
 have a4:nO (fun x y=>decide (y.id≤x.id)) g.rs=false:=y8 (r:=fun x y=>x.id<y.id) (fun x y h=>by simpa using h) h4;have a5:g.ls.any Lk.bad=false:=by
  rw[List.any_eq_false];intro x hx;have:=h5 x hx;simp[Lk.bad,inB];omega
 have a6:(g.ls.any fun x=>!aY g.rs x.a || !aY g.rs x.b)=false:=by
  rw[List.any_eq_false];intro x hx;have:=h6 x hx;simp[this.1,this.2]
 have a7:(g.ls.any fun x=>decide (x.b≤x.a))=false:=by
  rw[List.any_eq_false];intro x hx;have:=h7 x hx;simp;omega
 have a8:nO (fun x y=>decide (y.a<x.a)||decide (x.a=y.a)&&decide (y.b≤x.b)) g.ls=false:=y8 (r:=gB) (fun x y h=>by
  unfold gB at h;simp only[Bool.or_eq_false_iff,Bool.and_eq_false_iff,decide_eq_false_iff_not];omega) h8
 simp only[cZ,jc,a1,a2,a3,a4,a5,a6,a7,a8,cond_false]
theorem jr{k:Nat}{x:Rt}:x∈cu k↔x.cap=true∧1≤x.id∧x.id≤k:=by
 simp only[cu,List.mem_map,List.mem_range];constructor
 ·rintro⟨i,hi,rfl⟩;simp only;exact⟨trivial,by omega,by omega⟩
 ·rintro⟨h1,h2,h3⟩;refine⟨(x.id-1).toNat,by omega,?_⟩;cases x;simp only at *;subst h1;congr 1;omega
theorem yO(k:Nat):(cu k).Pairwise fun x y=>x.id<y.id:=by
 unfold cu;rw[List.pairwise_map];exact List.pairwise_lt_range.imp fun h=>by simp only;omega
structure zq(most:Int)(g:ay):Prop where
 n:1≤g.rs.length∧(g.rs.length:Int)≤most
 ids:g.rs.map (·.id)=(cu g.rs.length).map (·.id)
 ok:cZ g=0
theorem vU(T:Tp)(most:Int):(dG T most).1.rs=cu (aT T 1 most).1.toNat:=rfl
theorem qm(T:Tp){most:Int}(hm:1≤most∧most≤8):zq most (dG T most).1:=by
 have r1:=aS T 1 most;have r2:=aQ T (a:=1) (b:=most) hm.1;have e:=vU T most;have hlen:(dG T most).1.rs.length=(aT T 1 most).1.toNat:=by rw[e];simp[cu]
 refine⟨by omega,by rw[hlen,e],?_⟩;unfold dG;simp only;generalize aT T 1 most=R at r1 r2;have hc:=dA (T:=R.2) (l:=[1,2,2,5]) (p:=fun x=>1≤x∧x≤1000) (by simp) (by simp);generalize aK R.2 [1,2,2,5]=C at hc;have hI:=zx.nP hc (R.1+1-2).toNat 2 C.2 [] ⟨by simp,List.Pairwise.nil⟩ (by omega);have hl:=jK C.1 7 (R.1+1-2).toNat 2 C.2 [] (by omega) (by omega)
 generalize (dS C.1 (R.1+1-2).toNat 2 C.2 []).1=L at hI hl;obtain⟨h1,h2⟩:=rC L [] hI.ne List.Pairwise.nil (by simp);have hall:∀x∈jO L [],(1≤x.a∧x.a<x.b∧x.b≤R.1)∧(1≤x.ca∧x.ca≤1000)∧(1≤x.cb∧x.cb≤1000)∧0≤x.cap∧x.cap≤1000:=fun x hx=>by
  have:=hI.all x (by simpa using(h2 x).1 hx);omega
 have hol:∀(l out:List Lk),(jO l out).length=l.length+out.length:=fun l=>by
  induction l with
  | nil=>intro out;simp[jO]
  | cons x l ih=>
    intro out;have:=nV x out;rw[jO,ih];simp;omega
 refine oV (by simp[cu];omega) ?_ (fun x hx=>?_) (yO _) (fun x hx=>(hall x hx).2) (fun x hx=>?_) (fun x hx=>(hall x hx).1.2.1) h1
 ·simp only[hol,List.length_nil]at hl⊢;have:(R.1+1-2).toNat≤7:=by omega
  have:=Nat.mul_le_mul_right 7 this;omega
 ·have:=jr.1 hx;omega
 ·have:=(hall x hx).1;constructor
  ·exact dH.2 (List.mem_map.2 ⟨⟨x.a,true⟩,jr.2 ⟨rfl,by simp only;omega⟩,rfl⟩)
  ·exact dH.2 (List.mem_map.2 ⟨⟨x.b,true⟩,jr.2 ⟨rfl,by simp only;omega⟩,rfl⟩)
theorem zA.direct{g:ay}(hg:g.Ok)(hA:B_ g){t r n:Int}(h:zA g t r n):n∈steps g (dist g t) r:=by
 obtain⟨x,hx,hn,_⟩:=h;have:x=r:=by
  induction hx with
  | nil=>rfl
  | via _ hy hc _=>
    rw[hA.cap hg (zZ hy)]at hc;simp at hc
 rw[←this];exact hn
section
variable {nx:Int→List Int} {cp:Int→Bool} {R:Int→Prop}
theorem pq.fold{go:Int→List Int×List Int→List Int×List Int}:∀{ns:List Int} {s:List Int×List Int},(∀n∈ns,R n∧(cp n=false→∀s,pq nx cp R (nx n) s (go n s)))→pq nx cp R ns s (ns.foldl (aek cp go) s)
 | [],s,_=>pq.refl (by simp)
 | n::ns,s,h=>by
   have h1:=h n (by simp);exact pq.trans (a:=[n]) (pq.one h1.1 h1.2) (pq.fold fun m hm=>h m (by simp[hm]))
end
end Go.Proofs

set_option linter.unusedVariables false
namespace Go.Proofs
theorem vM{g:ay}{r:Int}{ws:List Int}{v:Int}(h:fH g r ws=some v):Wk g (jW r ws) ws.length r v:=by
 induction ws generalizing r v with
 | nil=>simp[fH]at h;subst h;exact .nil
 | cons w ws ih=>
   rw[fH]at h
   cases hp:price g.ls r w with
   | none=>simp[hp]at h
   | some c=>
     cases hc:fH g w ws with
     | none=>simp[hp,hc]at h
     | some u=>
       simp only[hp,hc,Option.some.injEq]at h;subst h;exact .cons hp (ih hc)
theorem Ah{g:ay}(hg:g.Ok){a:Int}(ha:aY g.rs a=true){r h:Int}{u:List Int}(hl:jW r (h::u)=a)(hc:fH g r (h::u)=some (dst g a r)):h∈steps g (dist g a) r∧fH g h u=some (dst g a h):=by
 rw[fH]at hc
 cases hp:price g.ls r h with
 | none=>simp[hp]at hc
 | some c=>
   cases hq:fH g h u with
   | none=>simp[hp,hq]at hc
   | some v=>
     simp only[hp,hq,Option.some.injEq]at hc;have w:=vM hq;simp only[jW]at hl;rw[hl]at w
     have h1:=vO hg ha w;have h2:=CJ hg ha hp h1.2;have h3:v=dst g a h:=by omega
     have h4:=oP hg hp;have h5:=rZ hg a h;exact⟨(lM hg).2 ⟨by omega,by omega,h1.2,c,hp,by omega⟩,by rw[h3]⟩
theorem together{l:List Tb}{k m:Nat}(hk:k<64)(hm:m<64){ik im pl b:Int}:∀(n:Nat) {p:Pk} {r:Int} {u v v':List Int},p.ttl.toNat+1≤n→vG l p→p.bits.getLsbD k=true→p.bits.getLsbD m=true→vZ p k=ik→vZ p m=im→kX p=pl→
  Dl l ik pl r (u++b::v)→Dl l im pl r (u++b::v')→((u++b::v).length:Int)≤p.ttl→∃Z,(jW r u,b,Z)∈(way l k n (r,p)).cr∧Z.getLsbD k=true∧Z.getLsbD m=true
 | 0,p,r,u,v,v',hn,_,_,_,_,_,_,_,_,_=>by omega
 | n+1,p,r,u,v,v',hn,hF,hb,hb',hik,him,hpl,hD,hD',hlen=>by
   have ht:=qA hF.ok;have key:∀(h:Int) (w w':List Int),Dl l ik pl r (h::w)→Dl l im pl r (h::w')→((h::w).length:Int)≤p.ttl→∃B,bH l r=some B∧Fits B p∧aF B p k=h∧aF B p m=h∧h≠0∧h≠B.r∧p.ttl≠0∧Dl l ik pl h w∧Dl l im pl h w'∧(1≤h∧h≤99):=by
    intro h w w' g1 g2 g3;simp only[List.length_cons]at g3;cases g1 with
    | @next _ _ B _ a1 a2 a3 a4 a5=>
      cases g2 with
      | next b1 b2 b3 b4 b5=>
        rw[a1]at b1;simp at b1;subst b1
        have hB:=hF.all _ (eY a1).1;have e1:aF B p k=h:=by rw[vX hB.ck,hik,hpl];exact a2
        have e2:aF B p m=h:=by rw[vX hB.ck,him,hpl];exact b2
        have hr:=(CX hB.ck (k:=k) (p:=p) (by rw[e1];exact a3)).2;rw[e1]at hr
        exact⟨_,a1,hB,e1,e2,a3,by rw[(eY a1).2];exact a4,by omega,a5,b5,hr⟩
   have akM:∀(h:Int) (B:Tb),bH l r=some B→aF B p k=h→h≠0→h≠B.r→p.ttl≠0→(way l k (n+1) (r,p)).cr=(r,h,(qJ B p h).bits)::(way l k n (h,qJ B p h)).cr:=by
    intro h B g1 g2 g3 g4 g5;rw[way];simp only[g1,g2];rw[if_neg g3,if_neg g4,if_neg g5];rfl
   cases u with
   | nil=>
     obtain⟨B,g1,g2,g3,g4,g5,g6,g7,g8,g9,g10⟩:=key b v v' hD hD' hlen;refine⟨(qJ B p b).bits,?_,(DY g2 hk g10).2 ⟨hb,g3⟩,(DY g2 hm g10).2 ⟨hb',g4⟩⟩;rw[akM b B g1 g3 g5 g6 g7];simp[jW]
   | cons h u=>
     obtain⟨B,g1,g2,g3,g4,g5,g6,g7,g8,g9,g10⟩:=key h (u++b::v) (u++b::v') hD hD' hlen;have hlen':((u++b::v).length:Int)≤(qJ B p h).ttl:=by
      simp only[qJ,ji];simp only[List.cons_append,List.length_cons]at hlen⊢;omega
     obtain⟨Z,z1,z2,z3⟩:=together hk hm n (p:=qJ B p h) (r:=h) (u:=u) (v:=v) (v':=v') (by simp only[qJ,ji];omega) (hF.mask g7 _) ((DY g2 hk g10).2 ⟨hb,g3⟩) ((DY g2 hm g10).2 ⟨hb',g4⟩)
      (by rw[qJ,Jt];exact hik) (by rw[qJ,Jt];exact him) (by rw[qJ,adu hF.ok g7];exact hpl) g8 g9 hlen'
     refine⟨Z,?_,z2,z3⟩;rw[akM h B g1 g3 g5 g6 g7];exact List.mem_cons_of_mem _ z1
open Go Go.Tr
structure qW(rs:List Rt)(p:Pn):Prop where
 bF:0≤p.bF∧p.bF≤7
 len:aG p.len=true
 n:p.es.length≤24
 rt:∀e∈p.es,1≤e.r∧e.r≤99
 ids:∀e∈p.es,1≤e.id∧e.id≤256
 xX:p.es.Pairwise fun a b=>a.id<b.id
 Fp:(p.es.map (·.r)).Nodup
theorem uI{rs:List Rt}{p:Pn}(h:qW rs p):d_ p=true:=by
 have gi:∀i (hi:i<p.es.length),gid p.es i=p.es[i].id∧KA p.es i=p.es[i].r:=fun i hi=>by simp[gid,KA,List.getD,hi]
 refine AL (by simp[yD,inB,h.bF,h.len,h.n]) (fun i hi=>?_) (fun i j hj hi=>?_)
 ·have h1:=h.ids p.es[i] (List.getElem_mem hi);have h2:=h.rt p.es[i] (List.getElem_mem hi);have h3:=gi i hi;by_cases h0:i=0
  ·simp[LD,inB,h3,h1,h2,h0];subst h0;simp[h3,h1,h2]
  ·have h4:=gi (i-1) (by omega);have h5:=List.pairwise_iff_getElem.1 h.xX (i-1) i (by omega) hi (by omega);simp[LD,inB,h3,h1,h2,h0,h4,h5]
 ·rw[(gi i hi).2,(gi j (by omega)).2];have:=List.pairwise_iff_getElem.1 h.Fp j i (by simp;omega) (by simpa using hi) hj;simp only[List.getElem_map]at this;exact fun e=>this e.symm
theorem gQ:∀(n i:Nat) (T:Tp) (l:List Int),l.Nodup→(∀x∈l,x<(i:Int))→(kY n i T l).1.Nodup
 | 0,_,_,_,h,_=>h
 | n+1,i,T,l,h,hb=>by
   rw[kY];generalize (au T (i+1)).1.toNat=k;have hs:(l.take k++l.drop k).Nodup:=by rw[List.take_append_drop];exact h
   have hi:(i:Int)∉l:=fun hm=>by have:=hb _ hm;omega
   refine gQ n (i+1) _ _ ?_ fun x hx=>?_
   ·rw[List.nodup_append]at hs⊢
    obtain⟨h1,h2,h3⟩:=hs;refine⟨?_,h2,fun a ha b hb'=>?_⟩
    ·rw[List.nodup_append];refine⟨h1,by simp,fun a ha b hb'=>?_⟩;simp at hb';subst hb';intro e;subst e;exact hi (List.mem_of_mem_take ha)
    ·rcases List.mem_append.1 ha with ha|ha
     ·exact h3 a ha b hb'
     ·simp at ha;subst ha;intro e;subst e;exact hi (List.mem_of_mem_drop hb')
   ·simp only[List.mem_append,List.mem_singleton]at hx;rcases hx with (hx|hx)|hx
    ·have:=hb x (List.mem_of_mem_take hx);omega
    ·omega
    ·have:=hb x (List.mem_of_mem_drop hx);omega
theorem vT(k:Nat){i:Nat}(h:i<k)(d:Rt):((cu k).getD i d).id=(i:Int)+1:=by
 simp[cu,List.getD,h]
structure QE(k:Nat)(o:List Int)(id:Int)(l:List Ed):Prop where
 pos:0≤id
 rt:∀e∈l,1≤e.r∧e.r≤k∧e.r-1∉o
 ids:∀e∈l,1≤e.id∧e.id≤256∧e.id≤id
 xX:l.Pairwise fun a b=>a.id<b.id
 Fp:(l.map (·.r)).Nodup
theorem nZ(k:Nat)(len:Int)(hl:8≤len):∀(o:List Int) (T:Tp) (id:Int) (l:List Ed),o.Nodup→(∀x∈o,0≤x∧x<(k:Int))→QE k o id l→
  QE k [] (aX (cu k) len o T id l).2.1 (aX (cu k) len o T id l).1
 | [],T,id,l,_,_,h=>h
 | x::o,T,id,l,hn,hb,h=>by
   rw[List.nodup_cons]at hn
   rw[aX];have hbx:=hb x (by simp);refine nZ k len hl o _ _ _ hn.2 (fun y hy=>hb y (by simp[hy])) ?_;unfold aV;simp only;have h0:QE k o id l:=⟨h.pos,fun e he=>by have:=h.rt e he;simp at this;exact⟨this.1,this.2.1,this.2.2.2⟩,h.ids,h.xX,h.Fp⟩
   split
   ·exact h0
   ·have bp:1≤(aK (au T 4).2 [1,1,1,2,len-1]).1:=dA (p:=fun x=>1≤x) (by simp) (by simp;omega);simp only;generalize aK (au T 4).2 [1,1,1,2,len-1]=p at bp⊢;split
    ·rename_i hid;have hr:((cu k).getD x.toNat ⟨0,false⟩).id=x+1:=by rw[vT k (by omega)];omega
     rw[hr];refine⟨by have:=h.pos;first|omega|(simp only;omega),fun e he=>?_,fun e he=>?_,?_,?_⟩
     ·simp only[List.mem_append,List.mem_singleton]at he;rcases he with he|rfl
      ·exact h0.rt e he
      ·refine⟨by first|omega|(simp only;omega),by first|omega|(simp only;omega),?_⟩;rw[show(x+1-1:Int)=x by omega];exact hn.1
     ·simp only[List.mem_append,List.mem_singleton]at he;rcases he with he|rfl
      ·have:=h.ids e he;first|omega|(simp only;omega)
      ·have:=h.pos;first|omega|(simp only;omega)
     ·rw[List.pairwise_append];refine⟨h.xX,by simp,fun a ha b hb'=>?_⟩;simp at hb';subst hb';have:=h.ids a ha;first|omega|(simp only;omega)
     ·rw[List.map_append,List.nodup_append];refine⟨h.Fp,by simp,fun a ha b hb'=>?_⟩;simp at hb';subst hb';obtain⟨e,he,rfl⟩:=List.mem_map.1 ha;have:=(h.rt e he).2.2;intro e1;apply this;rw[e1];simp
    ·exact⟨by have:=h.pos;first|omega|(simp only;omega),h0.rt,fun e he=>by have:=h.ids e he;first|omega|(simp only;omega),h.xX,h.Fp⟩
theorem l7(T:Tp){k:Nat}(hk:k≤24):qW (cu k) (bJ T (cu k)).1:=by
 have hl:((8:Int)≤(aK (au T 3).2 [8,8,16,32,64]).1)∧aG (aK (au T 3).2 [8,8,16,32,64]).1=true:=dA (p:=fun x=>(8:Int)≤x∧aG x=true) (by simp) (by simp;decide);have h1:=aC T 3;have h2:=bg T (n:=3) (by omega);have hln:=qh T (cu k);rw[EY]at hln
 have hord:=lZ (aK (au T 3).2 [8,8,16,32,64]).2 k;have hnd:(bT (aK (au T 3).2 [8,8,16,32,64]).2 k).1.Nodup:=gQ _ _ _ _ (by simp) (by simp);have hI:=nZ k _ hl.1 _ (bT (aK (au T 3).2 [8,8,16,32,64]).2 k).2 0 [] hnd hord ⟨by omega,by simp,by simp,by simp,by simp⟩;refine⟨by simp only[bJ];omega,hl.2,by omega,fun e he=>?_,fun e he=>?_,?_,?_⟩
 ·have he':e∈(aX (cu k) (aK (au T 3).2 [8,8,16,32,64]).1 (bT (aK (au T 3).2 [8,8,16,32,64]).2 k).1 (bT (aK (au T 3).2 [8,8,16,32,64]).2 k).2 0 []).1:=by simpa[bJ]using he
  have:=hI.rt e he';omega
 ·have he':e∈(aX (cu k) (aK (au T 3).2 [8,8,16,32,64]).1 (bT (aK (au T 3).2 [8,8,16,32,64]).2 k).1 (bT (aK (au T 3).2 [8,8,16,32,64]).2 k).2 0 []).1:=by simpa[bJ]using he
  have:=hI.ids e he';omega
 ·simpa[bJ]using hI.xX
 ·simpa[bJ]using hI.Fp
end Go.Proofs

namespace Go.Proofs
open Go Go.Tr
theorem kV(T:Tp)(rs:List Rt):dh T rs 0=((bJ T rs).1,(bJ T rs).2.2):=by
 simp[dh]
structure QC(most:Int)(g:ay)(p:Pn)(l:List Tb):Prop where
 top:zq most g
 plan:d_ p=true
 len:aG p.len=true
 bF:0≤p.bF∧p.bF≤7
 tab:l=tabs g p g.rs
theorem qj{rs rs':List Rt}(h:rs.map (·.id)=rs'.map (·.id))(len x:Int)(T:Tp)(id:Int)(l:List Ed):aV rs len x T id l=aV rs' len x T id l:=by
 have e:∀i:Nat,(rs.getD i ⟨0,false⟩).id=(rs'.getD i ⟨0,false⟩).id:=fun i=>by
  have:=congrArg (fun l=>l[i]?) h;simp only[List.getElem?_map]at this;rw[List.getD_eq_getElem?_getD,List.getD_eq_getElem?_getD];cases h1:rs[i]? with
  | none=>
    rw[h1]at this
    cases h2:rs'[i]? with
    | none=>rfl
    | some y=>rw[h2]at this;simp at this
  | some x=>
    rw[h1]at this
    cases h2:rs'[i]? with
    | none=>rw[h2]at this;simp at this
    | some y=>rw[h2]at this;simpa using this
 unfold aV;simp only[e]
theorem jG{rs rs':List Rt}(h:rs.map (·.id)=rs'.map (·.id))(len:Int):∀(o:List Int) (T:Tp) (id:Int) (l:List Ed),aX rs len o T id l=aX rs' len o T id l
 | [],_,_,_=>rfl
 | x::o,T,id,l=>by
   rw[aX,aX,qj h,jG h]
theorem qg{rs rs':List Rt}(h:rs.map (·.id)=rs'.map (·.id))(T:Tp):bJ T rs=bJ T rs':=by
 have hl:rs.length=rs'.length:=by have:=congrArg List.length h;simpa using this
 unfold bJ;simp only[hl,jG h]
theorem qE{most:Int}{g:ay}(h:zq most g)(hm:most≤24)(T:Tp):qW (cu g.rs.length) (dh T g.rs 0).1:=by
 rw[kV]
 show qW _ (bJ T g.rs).1
 rw[qg h.ids];exact l7 T (by have:=h.n;omega)
theorem aag(T:Tp){most:Int}(hm:1≤most∧most≤8):QC most (Hw T most).1 (Hw T most).2.1 (Hw T most).2.2.1∧B_ (Hw T most).1:=by
 have h:=qm T hm;have hp:=qE h (by omega) (dG T most).2;refine⟨⟨h,uI hp,hp.len,hp.bF,?_⟩,fun x hx=>?_⟩
 ·show(rY _ _).1=_
  rw[EG h.ok (uI hp)];rfl
 ·have hx:x∈cu (aT T 1 most).1.toNat:=hx;exact(jr.1 hx).1
theorem Dw{g:ay}(hg:cZ g=0){p:Pn}(hp:d_ p=true):nR (tabs g p g.rs)=0:=
 DW (Nat.le_trans (oU g p) (aU hg).nr) (m_ hg hp) (xH (aU hg) p) fun b hb c hc=>by
  have h1:=rW b hb;have h2:=rW c hc;exact⟨h1.1.trans h2.1.symm,h1.2.trans h2.2.symm⟩
end Go.Proofs
