/-
  What functions of the program compute, stated as contracts over plain data; the conditions of each stand in its own statement.
-/
import Derived.Test.YtboimfkommpglaaGreatDoorZA20
import Derived.Test.YtboimfkommpglaaGreatDoorZA39
import Derived.Test.YtboimfkommpglaaGreatDoorZA21
import Derived.Test.YtboimfkommpglaaGreatDoorZA26
import Derived.Test.YtboimfkommpglaaGreatDoorZA28
set_option linter.unusedSimpArgs false
namespace Go.Proofs
theorem E5(g:ay)(s:List Int×List Int)(n:Int):∃r,(jS g s n).1=s.1++r:=by
 unfold jS;split
 ·exact⟨[],by simp⟩
 ·split
  ·exact⟨[],by simp⟩
  ·exact⟨[n],rfl⟩
theorem nT(g:ay):∀(l:List Int) (s:List Int×List Int),∃r,(l.foldl (jS g) s).1=s.1++r
 | [],s=>⟨[],by simp⟩
 | n::l,s=>by
   obtain⟨r1,h1⟩:=E5 g s n;obtain⟨r2,h2⟩:=nT g l (jS g s n);exact⟨r1++r2,by rw[List.foldl_cons,h2,h1,List.append_assoc]⟩
theorem uZ.fold{g:ay}{t f x:Int}(hx:Hr g t f x):∀(l:List Int) (s:List Int×List Int),(∀n∈l,n∈steps g (dist g t) x)→uZ g t f s→
  uZ g t f (l.foldl (jS g) s)∧(∀y∈s.2,y∈(l.foldl (jS g) s).2)∧∀n∈l,if dY g.rs n=true then n∈(l.foldl (jS g) s).2 else n∈(l.foldl (jS g) s).1
 | [],s,_,h=>⟨h,fun _ h=>h,by simp⟩
 | n::l,s,hl,h=>by
   obtain⟨h1,h2,h3⟩:=h.step hx (hl n (by simp));obtain⟨h4,h5,h6⟩:=uZ.fold hx l _ (fun m hm=>hl m (by simp[hm])) h1;rw[List.foldl_cons];refine⟨h4,fun y hy=>h5 y (h2 y hy),fun m hm=>?_⟩;rcases List.mem_cons.1 hm with rfl|hm
   ·split
    ·rename_i hc;rw[if_pos hc]at h3;exact h5 _ h3
    ·rename_i hc;rw[if_neg hc]at h3
     obtain⟨r,hr⟩:=nT g l (jS g s m);rw[hr];exact List.mem_append.2 (.inl h3)
   ·exact h6 m hm
def adZ(g:ay)(t:Int)(i:Nat)(s:List Int×List Int):Prop:=∀j<i,∀x,s.1[j]? = some x→∀n∈steps g (dist g t) x,if dY g.rs n=true then n∈s.2 else n∈s.1
theorem vY{g:ay}{t f:Int}:∀(k i:Nat) (s:List Int×List Int),uZ g t f s→adZ g t i s→i≤s.1.length→g.rs.length+1≤k+i→
  uZ g t f (qo g (dist g t) k i s)∧(∀x∈s.1,x∈(qo g (dist g t) k i s).1)∧∀x∈(qo g (dist g t) k i s).1,∀n∈steps g (dist g t) x,if dY g.rs n=true then n∈(qo g (dist g t) k i s).2 else n∈(qo g (dist g t) k i s).1
 | 0,i,s,h,_,hi,hk=>by
   have:=BG h.nd (fun x hx=>(h.seen x hx).2);omega
 | k+1,i,s,h,hc,hi,hk=>by
   rw[qo];split
   ·rename_i hlt;have hx:s.1[i]? = some s.1[i]:=List.getElem?_eq_getElem hlt;have hxm:=h.seen _ (List.getElem_mem hlt);have e:s.1.getD i 0=s.1[i]:=by rw[List.getD_eq_getElem?_getD,hx];rfl
    rw[e];generalize s.1[i]=x at hx hxm;obtain⟨h1,h2,h3⟩:=uZ.fold hxm.1 (steps g (dist g t) x) s (fun _ h=>h) h;obtain⟨r,hr⟩:=nT g (steps g (dist g t) x) s;have hsub:∀y∈s.1,y∈((steps g (dist g t) x).foldl (jS g) s).1:=fun y hy=>by rw[hr];exact List.mem_append.2 (.inl hy)
    obtain⟨h4,h5,h6⟩:=vY k (i+1) ((steps g (dist g t) x).foldl (jS g) s) h1 (fun j hj y hy n hn=>by
     rw[hr,List.getElem?_append_left (by omega)]at hy
     by_cases ej:j=i
     ·subst ej;rw[hx]at hy;simp at hy;subst hy
      exact h3 n hn
     ·have:=hc j (by omega) y hy n hn;split
      ·rename_i a;rw[if_pos a]at this;exact h2 n this
      ·rename_i a;rw[if_neg a]at this;exact hsub n this) (by rw[hr,List.length_append];omega) (by omega)
    exact⟨h4,fun y hy=>h5 y (hsub y hy),h6⟩
   ·rename_i hlt;refine⟨h,fun _ h=>h,fun x hx n hn=>?_⟩;obtain⟨j,hj,rfl⟩:=List.mem_iff_getElem.1 hx;exact hc j (by omega) _ (List.getElem?_eq_getElem hj) n hn
theorem wB{g:ay}(hg:cZ g=0){f t:Int}(hf:aY g.rs f=true)(ht:aY g.rs t=true)(hne:f≠t){n:Int}:n∈hops g f t↔zA g t f n:=by
 unfold hops;rw[if_pos ⟨hg,hf,ht,hne⟩];obtain⟨h1,h2,h3⟩:=vY (g:=g) (t:=t) (f:=f) (g.rs.length+1) 0 ([f],[]) ⟨by simp,fun x hx=>by simp at hx;subst hx;exact⟨.nil,hf⟩,by simp,by simp⟩ (fun j hj=>by omega) (by simp) (by omega);refine⟨h1.out n,fun⟨x,hx,hn,hc⟩=>?_⟩;have key:∀x,Hr g t f x→x∈(qo g (dist g t) (g.rs.length+1) 0 ([f],[])).1:=fun x hx=>by
  induction hx with
  | nil=>exact h2 f (by simp)
  | via _ hy hc ih=>
    have:=h3 _ ih _ hy
    rwa [if_neg (by simp[hc])]at this
 have:=h3 x (key x hx) n hn
 rwa [if_pos hc]at this
set_option linter.unusedVariables false
theorem dQ.u_(t:dQ):t.app gX=t:=by simp[dQ.app,gX]
theorem dQ.zC(t u v:dQ):(t.app u).app v=t.app (u.app v):=by simp[dQ.app]
noncomputable def Dz(l:List Tb)(k:Nat):List (Int×Pk)→dQ
 | []=>gX
 | q::_=>way l k (q.2.ttl.toNat+1) q
theorem Af(B:BitVec 64):(ku B).Nodup:=List.nodup_range.sublist List.filter_sublist
theorem Gx{p:Pk}(h:p.ok=true){o:Out}(ho:∀k<64,o.loc.getLsbD k=true→p.bits.getLsbD k=true)(r:Int){k:Nat}(hk:k<64):
  (nI r o p).filter (fun d=>d.2.bits.getLsbD k)=if o.loc.getLsbD k=true then [(r,f_ p k)]else []:=by
 have e:(nI r o p).filter (fun d=>d.2.bits.getLsbD k)=((ku o.loc).filter fun j=>decide (j=k)).map fun (j:Nat)=>(r,f_ p j):=by
  unfold nI lg;rw[List.map_map,List.filter_map]
  congr 1
  apply List.filter_congr;intro j hj;obtain⟨h1,h2⟩:=sN.1 hj
  show(f_ p (Int.ofNat j)).bits.getLsbD k=_
  have:=IL h h1 (ho j h1 h2);simp only[Int.ofNat_eq_natCast]at *;rw[this]
  show(1#64<<<j).getLsbD k=_
  rw[j_ h1 hk];by_cases e:k=j
  ·subst e;simp
  ·simp[e,Ne.symm e]
 rw[e,wP (Af _)];by_cases hl:o.loc.getLsbD k=true
 ·rw[if_pos (sN.2 ⟨hk,hl⟩),if_pos hl];rfl
 ·rw[if_neg (fun a=>hl (sN.1 a).2),if_neg hl];rfl
theorem Gy(l:List (Int×BitVec 64))(r:Int)(B:BitVec 64)(k:Nat):
  (if B=0#64 then l else l++[(r,B)]).filter (fun x=>x.2.getLsbD k)=l.filter (fun x=>x.2.getLsbD k)++if B.getLsbD k=true then [(r,B)]else []:=by
 by_cases h:B=0#64
 ·subst h;simp
 ·rw[if_neg h,List.filter_append,List.filter_cons];split<;>simp
theorem step_some{l:List Tb}{q:Int×Pk}{b:Tb}(hF:vG l q.2)(hf:bH l q.1=some b)(t:dQ){k:Nat}(hk:k<64):
  (stepT l q t).at k=(t.at k).app ⟨if(iH b q.2).loc.getLsbD k=true then [(q.1,f_ q.2 k)]else [],((nextQ l q).filter fun c=>c.2.bits.getLsbD k).map (fun c=>(q.1,c.1,c.2.bits)),if(iH b q.2).lost.getLsbD k=true then [(q.1,(iH b q.2).lost)]else []⟩:=by
 have hb:=hF.all b (eY hf).1;obtain⟨h1,h2⟩:=pW hb;have hn:nextQ l q=(iH b q.2).g_:=by simp[nextQ,hf,h1]
 rw[hn];simp only[stepT,hf,h1,dQ.at,dQ.app,List.filter_append];rw[Gx hF.ok (fun k hk a=>by
  rcases (h2.loc k hk).1 a with a|a
  ·simp[iC]at a
  ·exact a.1) q.1 hk,Gy,List.filter_map]
 rfl
theorem XF{l:List Tb}{q:Int×Pk}(hF:vG l q.2)(t:dQ){k:Nat}(hk:k<64)(hq:q.2.bits.getLsbD k=true):
  ((nextQ l q).filter fun c=>c.2.bits.getLsbD k).length≤1∧((stepT l q t).at k).app (Dz l k ((nextQ l q).filter fun c=>c.2.bits.getLsbD k))=(t.at k).app (way l k (q.2.ttl.toNat+1) q):=by
 cases hf:bH l q.1 with
 | none=>
   have hn:nextQ l q = []:=by simp[nextQ,hf]
   rw[hn];refine⟨by simp,?_⟩;simp[stepT,hf,way,dQ.at,dQ.app,Dz,gX,List.filter_append,List.filter_cons,hq]
 | some b=>
   have hb:=hF.all b (eY hf).1;obtain⟨h1,h2⟩:=pW hb;have hn:nextQ l q=(iH b q.2).g_:=by simp[nextQ,hf,h1]
   rw[step_some hF hf t hk,hn,h2.hop hb hk,dQ.zC];have hl:=h2.loc k hk;have hs:=h2.lost k hk;simp only[iC,BitVec.getLsbD_zero,Bool.false_eq_true,false_or,hq,true_and]at hl hs;by_cases c0:aF b q.2 k=0
   ·have l1 :¬(iH b q.2).loc.getLsbD k=true:=fun a=>(hl.1 a).1 c0
    have l2:(iH b q.2).lost.getLsbD k=true:=hs.2 (.inl c0);rw[if_neg l1,if_neg (fun a=>a.2.2.1 c0),if_pos l2];refine⟨by simp,?_⟩;simp[way,hf,c0,Dz,dQ.app,gX]
   by_cases c1:aF b q.2 k=b.r
   ·have l1:(iH b q.2).loc.getLsbD k=true:=hl.2 ⟨c0,c1⟩;have l2 :¬(iH b q.2).lost.getLsbD k=true:=fun a=>by
     rcases hs.1 a with a|a
     ·exact c0 a
     ·exact a.1 c1
    rw[if_pos l1,if_neg (fun a=>a.2.2.2 c1),if_neg l2];refine⟨by simp,?_⟩;simp only[way,hf,if_neg c0,if_pos c1];simp[Dz,dQ.app,gX]
   have l1 :¬(iH b q.2).loc.getLsbD k=true:=fun a=>c1 (hl.1 a).2
   by_cases c2:q.2.ttl=0
   ·have l2:(iH b q.2).lost.getLsbD k=true:=hs.2 (.inr ⟨c1,c2⟩);rw[if_neg l1,if_neg (fun a=>a.2.1 c2),if_pos l2];refine⟨by simp,?_⟩;simp only[way,hf,if_neg c0,if_neg c1,if_pos c2];simp[Dz,dQ.app,gX]
   ·have l2 :¬(iH b q.2).lost.getLsbD k=true:=fun a=>by
     rcases hs.1 a with a|a
     ·exact c0 a
     ·exact c2 a.2
    rw[if_neg l1,if_pos ⟨hq,c2,c0,c1⟩,if_neg l2];refine⟨by simp,?_⟩;have ht:=qA hF.ok;have e:(qJ b q.2 (aF b q.2 k)).ttl.toNat+1=q.2.ttl.toNat:=by simp only[qJ,ji];omega
    rw[way];simp only[hf,if_neg c0,if_neg c1,if_neg c2,Dz,e,List.map_cons,List.map_nil]
theorem Uf{l:List Tb}{q:Int×Pk}(hF:vG l q.2)(t:dQ){k:Nat}(hk:k<64)(hq :¬q.2.bits.getLsbD k=true):
  ((nextQ l q).filter fun c=>c.2.bits.getLsbD k) = []∧(stepT l q t).at k=t.at k:=by
 cases hf:bH l q.1 with
 | none=>
   have hn:nextQ l q = []:=by simp[nextQ,hf]
   rw[hn];refine⟨by simp,?_⟩;simp[stepT,hf,dQ.at,List.filter_append,List.filter_cons,hq]
 | some b=>
   have hb:=hF.all b (eY hf).1;obtain⟨h1,h2⟩:=pW hb;have hn:nextQ l q=(iH b q.2).g_:=by simp[nextQ,hf,h1]
   have hl:=h2.loc k hk;have hs:=h2.lost k hk;simp only[iC,BitVec.getLsbD_zero,Bool.false_eq_true,false_or,hq,false_and,iff_false]at hl hs;rw[step_some hF hf t hk,hn,h2.hop hb hk,if_neg (fun a=>hq a.1),if_neg hl,if_neg hs];exact⟨rfl,dQ.u_ _⟩
theorem BD(l:List Tb){k:Nat}(hk:k<64):∀(n:Nat) (Q:List (Int×Pk)) (t:dQ),kZ Q≤n→(∀q∈Q,vG l q.2)→(Q.filter fun c=>c.2.bits.getLsbD k).length≤1→
  (mY l n Q t).at k=(t.at k).app (Dz l k (Q.filter fun c=>c.2.bits.getLsbD k))
 | 0,Q,t,h,_,_=>by
   have:=uG Q;obtain rfl:Q = []:=List.length_eq_zero_iff.1 (by omega);simp[rE,Dz,dQ.u_]
 | n+1,[],t,_,_,_=>by simp[rE,Dz,dQ.u_]
 | n+1,q::Q,t,h,hF,h1=>by
   have hq:=yX l q;rw[qV]at h
   have MB:=hF q (by simp);have hF':∀c∈Q++nextQ l q,vG l c.2:=fun c hc=>by
    rcases List.mem_append.1 hc with hc|hc
    ·exact hF c (by simp[hc])
    ·exact II MB c hc
   rw[mY];have hw:kZ (Q++nextQ l q)≤n:=by rw[A_];omega
   by_cases hb:q.2.bits.getLsbD k=true
   ·rw[List.filter_cons,if_pos hb]at h1⊢
    simp only[List.length_cons]at h1;have hQ:Q.filter (fun c=>c.2.bits.getLsbD k) = []:=List.length_eq_zero_iff.1 (by omega);obtain⟨a1,a2⟩:=XF MB t hk hb;rw[BD l hk n _ _ hw hF' (by rw[List.filter_append,hQ];simpa using a1),List.filter_append,hQ,List.nil_append,a2];rfl
   ·rw[List.filter_cons,if_neg hb]at h1⊢
    obtain⟨a1,a2⟩:=Uf MB t hk hb;rw[BD l hk n _ _ hw hF' (by rw[List.filter_append,a1,List.append_nil];exact h1),List.filter_append,a1,List.append_nil,a2]
theorem aa4{l:List Tb}{p:Pk}(hF:vG l p)(r:Int){k:Nat}(hk:k<64)(hb:p.bits.getLsbD k=true):(mY l (wt p) [(r,p)] gX).at k=way l k (p.ttl.toNat+1) (r,p):=by
 rw[BD l hk _ _ _ (by simp[kZ]) (by simpa using hF) (by simp[List.filter_cons];split<;>simp)];simp[List.filter_cons,hb,Dz,dQ.at,gX,dQ.app]
theorem XB{l:List Tb}{p:Pk}(hF:vG l p)(r:Int){k:Nat}(hk:k<64)(hb :¬p.bits.getLsbD k=true):(mY l (wt p) [(r,p)] gX).at k=gX:=by
 rw[BD l hk _ _ _ (by simp[kZ]) (by simpa using hF) (by simp[List.filter_cons,hb])];simp[List.filter_cons,hb,Dz,dQ.at,gX,dQ.app]
def edges(r:Int):List Int→List (Int×Int)
 | []=>[]
 | h::ws=>(r,h)::edges h ws
theorem IV{p:Pn}(h:d_ p=true):p.es.Pairwise (fun x y=>x.id<y.id):=by
 simp only[d_,decide_eq_true_eq]at h;obtain⟨_,h2,_⟩:=h;have hst:∀i (hi:i+1<p.es.length),p.es[i].id<p.es[i+1].id:=fun i hi=>by
  have h3:=h2 (i+1) hi;simp only[LD,gid,KA,Bool.and_eq_true,Bool.or_eq_true,decide_eq_true_eq,Nat.add_sub_cancel]at h3;have h4:=h3.2.2;rw[List.getD_eq_getElem?_getD,List.getD_eq_getElem?_getD,List.getElem?_eq_getElem hi,List.getElem?_eq_getElem (by omega)]at h4
  simpa using h4
 rw[List.pairwise_iff_getElem];intro i j hi hj hij;obtain⟨d,rfl⟩:∃d,j=i+1+d:=⟨j-(i+1),by omega⟩
 clear hij
 induction d with
 | zero=>exact hst i hj
 | succ d ih=>
   exact Int.lt_trans (ih (by omega)) (hst (i+1+d) (by omega))
theorem Fq{p:Pn}(h:d_ p=true){x y:Ed}(hx:x∈p.es)(hy:y∈p.es)(e:x.id=y.id):x=y:=by
 obtain⟨i,hi,rfl⟩:=List.mem_iff_getElem.1 hx;obtain⟨j,hj,rfl⟩:=List.mem_iff_getElem.1 hy;have hp:=List.pairwise_iff_getElem.1 (IV h);rcases Nat.lt_trichotomy i j with hlt|rfl|hlt
 ·have:=hp i j hi hj hlt;omega
 ·rfl
 ·have:=hp j i hj hi hlt;omega
theorem wM{g:ay}(hg:g.Ok){r:Int}(h:dY g.rs r=true):aY g.rs r=true:=by
 obtain⟨x,hx,rfl,_⟩:=(xw hg).1 h;exact dH.2 (List.mem_map_of_mem hx)
theorem BX{g:ay}(hg:g.Ok)(p:Pn)(r:Int):bH (tabs g p g.rs) r=if dY g.rs r=true then some (jE g p r)else none:=by
 split
 ·rename_i h;obtain⟨x,hx,rfl,hc⟩:=(xw hg).1 h;refine r_ (x:=jE g p x.id) (List.mem_map.2 ⟨x,List.mem_filter.2 ⟨hx,hc⟩,rfl⟩) (by simp[jE]) (fun y hy e=>?_);obtain⟨z,hz,rfl⟩:=List.mem_map.1 hy;have:z.id=x.id:=of_decide_eq_true e;rw[this]
 ·rename_i h;rw[bH,List.find?_eq_none];intro y hy;obtain⟨z,hz,rfl⟩:=List.mem_map.1 hy;obtain⟨h1,h2⟩:=List.mem_filter.1 hz;intro e;exact h ((xw hg).2 ⟨z,h1,of_decide_eq_true e,h2⟩)
theorem EI{g:ay}{p:Pn}(hp:d_ p=true){e:Ed}(he:e∈p.es)(r:Int):rowOf (jE g p r) e.id=some (uS g r e):=
 r_ (List.mem_map_of_mem he) (by simp[uS]) (fun y hy h=>by
  obtain⟨z,hz,rfl⟩:=List.mem_map.1 hy;have:z.id=e.id:=of_decide_eq_true h;rw[Fq hp hz he this])
theorem zG{g:ay}{p:Pn}{id:Int}(h:∀e∈p.es,e.id≠id)(r:Int):rowOf (jE g p r) id=none:=by
 rw[rowOf,List.find?_eq_none];intro y hy;obtain⟨z,hz,rfl⟩:=List.mem_map.1 hy;exact fun a=>h z hz (of_decide_eq_true a)
theorem MG{x:Rw}{p:Int}(h:x.nx≠[])(hz:∀n∈x.nx,n≠0):og x p∈x.nx:=by
 have hl:x.nx.length≠0:=fun e=>h (List.length_eq_zero_iff.1 e)
 rw[og,if_neg hl];have h1:(p%x.nx.length).toNat<x.nx.length:=by
  have:=Int.emod_lt_of_pos p (b:=x.nx.length) (by omega);have:=Int.emod_nonneg p (b:=x.nx.length) (by omega);omega
 rw[List.getD_eq_getElem?_getD,List.getElem?_eq_getElem h1];exact List.getElem_mem h1
theorem BI{g:ay}(hg:cZ g=0){p:Pn}(hp:d_ p=true){e:Ed}(he:e∈p.es){r:Int}(hr:aY g.rs r=true)(pl:Int):
  (e.r=r∧mG (jE g p r) e.id pl=r)∨(e.r≠r∧dY g.rs e.r=true∧dst g e.r r<far∧zA g e.r r (mG (jE g p r) e.id pl))∨
  (e.r≠r∧(dY g.rs e.r=false∨dst g e.r r=far)∧mG (jE g p r) e.id pl=0):=by
 have hO:=aU hg;unfold mG;rw[EI hp he,Option.getD_some];by_cases e1:e.r=r
 ·refine .inl ⟨e1,?_⟩;simp only[uS,if_pos e1,og];simp
 ·by_cases hc:dY g.rs e.r=true
  ·have hh:=wM hO hc;have hrow:(uS g r e).nx=hops g r e.r:=by simp only[uS,if_neg e1,if_pos (show cZ g=0∧_ from⟨hg,hc⟩)]
   by_cases hd:dst g e.r r<far
   ·obtain⟨n,hn⟩:=zA.some hO hr hh hc (Ne.symm e1) hd;refine .inr (.inl ⟨e1,hc,hd,?_⟩);have hm:=MG (x:=uS g r e) (p:=pl) (by
     rw[hrow];exact List.ne_nil_of_mem ((wB hg hr hh (Ne.symm e1)).2 hn)) (fun x hx=>by
     rw[hrow]at hx
     have:=(Qn g r e.r).2 x hx;have:=hO.id this.1;unfold DJ at this;omega)
    rw[hrow]at hm
    exact(wB hg hr hh (Ne.symm e1)).1 hm
   ·refine .inr (.inr ⟨e1,.inr ?_,?_⟩)
    ·have:=rZ hO e.r r;omega
    ·have:hops g r e.r = []:=by
      cases hl:hops g r e.r with
      | nil=>rfl
      | cons n l=>
        have:=((wB hg hr hh (Ne.symm e1)).1 (show n∈hops g r e.r by rw[hl];simp)).near hO;exact absurd this.2.1 hd
     rw[og,hrow,this];rfl
  ·refine .inr (.inr ⟨e1,.inl (by simpa using hc),?_⟩);simp only[uS,if_neg e1,if_neg (show ¬(cZ g=0∧dY g.rs e.r=true) from fun a=>hc a.2),og];simp
def XP(s:List Int)(n:Int):List Int:=if mF s n=true then s else s++[n]
structure ArI(g:ay)(r:Int)(s:List Int):Prop where
 nd:s.Nodup
 all:∀x∈s,aY g.rs x=true∧∃k v,Wk g r k x v
theorem ArI.fold{g:ay}(hg:g.Ok){r:Int}{x:Int}{k:Nat}{v:Int}(hw:Wk g r k x v):∀(l s:List Int),(∀n∈l,n∈near g x)→ArI g r s→ArI g r (l.foldl XP s)
 | [],_,_,h=>h
 | n::l,s,hl,h=>by
   rw[List.foldl_cons];refine ArI.fold hg hw l _ (fun m hm=>hl m (by simp[hm])) ?_;unfold XP;split
   ·exact h
   ·rename_i hn;have hni:n∉s:=by simpa[mF]using hn
    refine⟨List.nodup_append.2 ⟨h.nd,by simp,fun a ha b hb=>by simp at hb;subst hb;exact fun e=>hni (e▸ha)⟩,fun y hy=>?_⟩;rcases List.mem_append.1 hy with hy|hy
    ·exact h.all y hy
    ·simp at hy;subst hy;have hnr:=hl y (by simp);obtain⟨c,hc⟩:=(Nb hg).1 hnr;obtain⟨c',hc'⟩:=Fz hg hc;exact⟨Na hnr,k+1,_,.cons hc' hw⟩
theorem jM(x:Lk):∀(l:List Lk),∀y∈l.take (bU x l),y.before x=true
 | []=>by simp
 | z::r=>by
   intro y hy;rw[bU]at hy
   split at hy
   ·rename_i hz;rw[List.take_succ_cons]at hy
    rcases List.mem_cons.1 hy with rfl|hy
    ·exact hz
    ·exact jM x r y hy
   ·simp at hy
theorem nU(x:Lk):∀(l:List Lk) (y:Lk),l[bU x l]? = some y→y.before x=false
 | [],y,h=>by simp at h
 | z::r,y,h=>by
   rw[bU]at h
   split at h
   ·exact nU x r y (by simpa using h)
   ·rename_i hz;simp at h;subst h;simpa using hz
theorem lI{x y:Lk}:y.before x=true↔gB y x:=by simp[Lk.before,gB]
theorem Iy{l:List Lk}(x:Lk)(h:l.Pairwise gB)(hd:∀y∈l,¬(y.a=x.a∧y.b=x.b)):(l.take (bU x l)++[x]++l.drop (bU x l)).Pairwise gB∧∀y,y∈l.take (bU x l)++[x]++l.drop (bU x l)↔y∈l∨y=x:=by
 have hl:l.take (bU x l)++l.drop (bU x l)=l:=List.take_append_drop _ _;have hp:(l.take (bU x l)++l.drop (bU x l)).Pairwise gB:=by rw[hl];exact h
 rw[List.pairwise_append]at hp
 have hdr:∀y∈l.drop (bU x l),gB x y:=fun y hy=>by
  cases hc:l.drop (bU x l)with
  | nil=>rw[hc]at hy;simp at hy
  | cons z r=>
    have hz:l[bU x l]? = some z:=by
     have:(l.drop (bU x l))[0]? = some z:=by rw[hc];rfl
     simpa using this
    have h1:=nU x l z hz;have h2:=hd z (List.mem_of_getElem? hz);have h3:gB x z:=by
     have :¬gB z x:=fun a=>by rw[lI.2 a]at h1;simp at h1
     unfold gB at *;omega
    rw[hc]at hy
    rcases List.mem_cons.1 hy with rfl|hy
    ·exact h3
    ·have:=hp.2.1;rw[hc,List.pairwise_cons]at this
     exact nC h3 (this.1 y hy)
 refine⟨?_,fun y=>?_⟩
 ·rw[List.append_assoc,List.pairwise_append];refine⟨hp.1,?_,fun a ha b hb=>?_⟩
  ·rw[List.singleton_append,List.pairwise_cons];exact⟨hdr,hp.2.1⟩
  ·have h1:=lI.1 (jM x l a ha);rcases List.mem_append.1 hb with hb|hb
   ·simp at hb;subst hb;exact h1
   ·exact nC h1 (hdr b hb)
 ·conv=>rhs;rw[←hl]
  simp only[List.mem_append,List.mem_singleton];constructor
  ·rintro ((a|a)|a)
   ·exact .inl (.inl a)
   ·exact .inr a
   ·exact .inl (.inr a)
  ·rintro ((a|a)|a)
   ·exact .inl (.inl a)
   ·exact .inr a
   ·exact .inl (.inr a)
theorem rC:∀(l out:List Lk),l.Pairwise MP→out.Pairwise gB→(∀x∈l,∀y∈out,MP x y)→(jO l out).Pairwise gB∧∀y,y∈jO l out↔y∈l∨y∈out
 | [],out,_,h,_=>⟨h,by simp[jO]⟩
 | x::l,out,hl,h,hd=>by
   rw[List.pairwise_cons]at hl
   obtain⟨h1,h2⟩:=Iy x h (fun y hy e=>hd x (by simp) y hy ⟨e.1.symm,e.2.symm⟩);obtain⟨h3,h4⟩:=rC l _ hl.2 h1 (fun z hz y hy=>by
    rcases (h2 y).1 hy with hy|rfl
    ·exact hd z (by simp[hz]) y hy
    ·exact fun e=>hl.1 z hz ⟨e.1.symm,e.2.symm⟩)
   refine⟨h3,fun y=>?_⟩;rw[jO,h4,h2];simp only[List.mem_cons];constructor
   ·rintro (a|a|a)
    ·exact .inl (.inr a)
    ·exact .inr a
    ·exact .inl (.inl a)
   ·rintro ((a|a)|a)
    ·exact .inr (.inr a)
    ·exact .inl a
    ·exact .inr (.inl a)
theorem zx.nP{cost:Int}(hc:1≤cost∧cost≤1000):∀(n:Nat) (b:Int) (T:Tp) (l:List Lk),zx b 1 l→2≤b→zx (b+n) 1 (dS cost n b T l).1
 | 0,b,T,l,h,_=>by simpa[dS]using h
 | n+1,b,T,l,h,hb=>by
   rw[dS];have h1:zx b b (gW cost b T l).1:=by
    unfold gW;simp only;have:=zx.row (b:=b) (tree:=(aT T 1 (b-1)).1) (skip:=(dD (aT T 1 (b-1)).2 9).1) hc (b-1).toNat 1 (dD (aT T 1 (b-1)).2 9).2 l h (by omega) (by omega);rw[show 1+(((b-1).toNat:Nat):Int)=b by omega]at this
    exact this
   have h2:zx (b+1) 1 (gW cost b T l).1:=⟨fun x hx=>by have:=h1.all x hx;omega,h1.ne⟩
   have:=zx.nP hc n (b+1) (gW cost b T l).2 _ h2 (by omega);rw[show b+((n+1:Nat):Int)=b+1+n by omega];exact this
theorem jJ(cost tree:Int)(skip:Bool)(b:Int):∀(n:Nat) (a:Int) (T:Tp) (l:List Lk),(dV cost tree skip b n a T l).1.length≤l.length+n
 | 0,_,_,_=>Nat.le_refl _
 | n+1,a,T,l=>by
   have h1:=jJ cost tree skip b n (a+1) (dI cost tree skip b a T l).2 (dI cost tree skip b a T l).1;have h2:=zN cost tree skip b a T l;rw[dV];omega
theorem jK(cost:Int)(m:Nat):∀(n:Nat) (b:Int) (T:Tp) (l:List Lk),1≤b→b+n≤m+2→(dS cost n b T l).1.length≤l.length+n*m
 | 0,_,_,_,_,_=>by simp[dS]
 | n+1,b,T,l,hb,hm=>by
   have h1:=jK cost m n (b+1) (gW cost b T l).2 (gW cost b T l).1 (by omega) (by omega);have h2:(gW cost b T l).1.length≤l.length+(b-1).toNat:=jJ _ _ _ _ _ _ _ _;rw[dS];have h3:(n+1)*m=n*m+m:=Nat.succ_mul _ _;omega
theorem oV{g:ay}(h1:g.rs.length≤24)(h2:g.ls.length≤60)(h3:∀x∈g.rs,1≤x.id∧x.id≤99)(h4:g.rs.Pairwise fun x y=>x.id<y.id)
  (h5:∀x∈g.ls,(1≤x.ca∧x.ca≤1000)∧(1≤x.cb∧x.cb≤1000)∧0≤x.cap∧x.cap≤1000) (h6:∀x∈g.ls,aY g.rs x.a=true∧aY g.rs x.b=true) (h7:∀x∈g.ls,x.a<x.b) (h8:g.ls.Pairwise gB):cZ g=0:=by
 have a1:decide (24<g.rs.length)=false:=by simp;omega
 have a2:decide (60<g.ls.length)=false:=by simp;omega
 have a3:(g.rs.any fun x=>!inB x.id 1 99)=false:=by
  rw[List.any_eq_false];intro x hx;have:=h3 x hx;simp[inB];omega
 have a4:nO (fun x y=>decide (y.id≤x.id)) g.rs=false:=y8 (r:=fun x y=>x.id<y.id) (fun x y h=>by simpa using h) h4;have a5:g.ls.any Lk.bad=false:=by
  rw[List.any_eq_false];intro x hx;have:=h5 x hx;simp[Lk.bad,inB];omega
 have a6:(g.ls.any fun x=>!aY g.rs x.a || !aY g.rs x.b)=false:=by
  rw[List.any_eq_false];intro x hx;have:=h6 x hx;simp[this.1,this.2]
 have a7:(g.ls.any fun x=>decide (x.b≤x.a))=false:=by
  rw[List.any_eq_false];intro x hx;have:=h7 x hx;simp;omega
 have a8:nO (fun x y=>decide (y.a<x.a)||decide (x.a=y.a)&&decide (y.b≤x.b)) g.ls=false:=y8 (r:=gB) (fun x y h=>by
  unfold gB at h;simp only[Bool.or_eq_false_iff,Bool.and_eq_false_iff,decide_eq_false_iff_not];omega) h8
 simp only[cZ,jc,a1,a2,a3,a4,a5,a6,a7,a8,cond_false]
theorem jr{k:Nat}{x:Rt}:x∈cu k↔x.cap=true∧1≤x.id∧x.id≤k:=by
 simp only[cu,List.mem_map,List.mem_range];constructor
 ·rintro⟨i,hi,rfl⟩;simp only;exact⟨trivial,by omega,by omega⟩
 ·rintro⟨h1,h2,h3⟩;refine⟨(x.id-1).toNat,by omega,?_⟩;cases x;simp only at *;subst h1;congr 1;omega
theorem yO(k:Nat):(cu k).Pairwise fun x y=>x.id<y.id:=by
 unfold cu;rw[List.pairwise_map];exact List.pairwise_lt_range.imp fun h=>by simp only;omega
structure zq(most:Int)(g:ay):Prop where
 n:1≤g.rs.length∧(g.rs.length:Int)≤most
 ids:g.rs.map (·.id)=(cu g.rs.length).map (·.id)
 ok:cZ g=0
theorem qY{l m:List Rt}(h:l.map (·.id)=m.map (·.id))(r:Int):aY l r=aY m r:=by
 rw[Bool.eq_iff_iff,dH,dH,h]
theorem yF{rs rs':List Rt}{ls:List Lk}(h:rs.map (·.id)=rs'.map (·.id))(hc:cZ ⟨rs',ls⟩ = 0):cZ ⟨rs,ls⟩ = 0:=by
 have hO:=aU hc;have hl:rs.length=rs'.length:=by have:=congrArg List.length h;simpa using this
 refine oV (by have:=hO.nr;simp only at this⊢;omega) hO.nl (fun x hx=>?_) ?_ (fun x hx=>?_) (fun x hx=>?_) (fun x hx=>hO.lab hx) hO.Zu
 ·have:x.id∈rs'.map (·.id):=by rw[←h];exact List.mem_map_of_mem hx
  obtain⟨y,hy,e⟩:=List.mem_map.1 this;have:=List.any_eq_false.1 hO.ids y hy;simp[inB]at this
  omega
 ·have h1:=hO.rpw;have h2:(rs'.map (·.id)).Pairwise (· < ·):=by rw[List.pairwise_map];exact h1
  rw[←h,List.pairwise_map]at h2
  exact h2
 ·have:=List.any_eq_false.1 hO.cost x hx;simp[Lk.bad,inB]at this
  omega
 ·have:=hO.ends' hx;simp only at this⊢;rw[qY h,qY h];exact this
theorem vU(T:Tp)(most:Int):(dG T most).1.rs=cu (aT T 1 most).1.toNat:=rfl
theorem qm(T:Tp){most:Int}(hm:1≤most∧most≤8):zq most (dG T most).1:=by
 have r1:=aS T 1 most;have r2:=aQ T (a:=1) (b:=most) hm.1;have e:=vU T most;have hlen:(dG T most).1.rs.length=(aT T 1 most).1.toNat:=by rw[e];simp[cu]
 refine⟨by omega,by rw[hlen,e],?_⟩;unfold dG;simp only;generalize aT T 1 most=R at r1 r2;have hc:=dA (T:=R.2) (l:=[1,2,2,5]) (p:=fun x=>1≤x∧x≤1000) (by simp) (by simp);generalize aK R.2 [1,2,2,5]=C at hc;have hI:=zx.nP hc (R.1+1-2).toNat 2 C.2 [] ⟨by simp,List.Pairwise.nil⟩ (by omega);have hl:=jK C.1 7 (R.1+1-2).toNat 2 C.2 [] (by omega) (by omega)
 generalize (dS C.1 (R.1+1-2).toNat 2 C.2 []).1=L at hI hl;obtain⟨h1,h2⟩:=rC L [] hI.ne List.Pairwise.nil (by simp);have hall:∀x∈jO L [],(1≤x.a∧x.a<x.b∧x.b≤R.1)∧(1≤x.ca∧x.ca≤1000)∧(1≤x.cb∧x.cb≤1000)∧0≤x.cap∧x.cap≤1000:=fun x hx=>by
  have:=hI.all x (by simpa using(h2 x).1 hx);omega
 have hol:∀(l out:List Lk),(jO l out).length=l.length+out.length:=fun l=>by
  induction l with
  | nil=>intro out;simp[jO]
  | cons x l ih=>
    intro out;have:=nV x out;rw[jO,ih];simp;omega
 refine oV (by simp[cu];omega) ?_ (fun x hx=>?_) (yO _) (fun x hx=>(hall x hx).2) (fun x hx=>?_) (fun x hx=>(hall x hx).1.2.1) h1
 ·simp only[hol,List.length_nil]at hl⊢;have:(R.1+1-2).toNat≤7:=by omega
  have:=Nat.mul_le_mul_right 7 this;omega
 ·have:=jr.1 hx;omega
 ·have:=(hall x hx).1;constructor
  ·exact dH.2 (List.mem_map.2 ⟨⟨x.a,true⟩,jr.2 ⟨rfl,by simp only;omega⟩,rfl⟩)
  ·exact dH.2 (List.mem_map.2 ⟨⟨x.b,true⟩,jr.2 ⟨rfl,by simp only;omega⟩,rfl⟩)
theorem oD:∀(l:List Rt) (T:Tp),(iy l T).1.map (·.id)=l.map (·.id)
 | [],_=>rfl
 | x::l,T=>by
   simp only[iy,List.map_cons,oD l]
theorem uj(T:Tp){most:Int}(hm:1≤most∧most≤8):zq most (bW T most).1:=by
 have h:=qm T hm;have e:(bW T most).1.rs.map (·.id)=(dG T most).1.rs.map (·.id):=oD _ _;have hl:(bW T most).1.rs.length=(dG T most).1.rs.length:=by have:=congrArg List.length e;simpa using this
 refine⟨by rw[hl];exact h.n,by rw[e,hl];exact h.ids,?_⟩;have:=yF (rs:=(bW T most).1.rs) (rs':=(dG T most).1.rs) (ls:=(dG T most).1.ls) e h.ok;exact this
theorem I8{l:List Tb}{I:List (Int×Pk)→dQ→Prop}(hs:∀q Q t,I (q::Q) t→I (Q++nextQ l q) (stepT l q t)):∀(n:Nat) (Q:List (Int×Pk)) (t:dQ),kZ Q≤n→I Q t→I [] (mY l n Q t)
 | 0,Q,t,h,hI=>by
   have:=uG Q;obtain rfl:Q = []:=List.length_eq_zero_iff.1 (by omega);rw[rE];exact hI
 | n+1,[],t,_,hI=>by rw[rE];exact hI
 | n+1,q::Q,t,h,hI=>by
   have hq:=yX l q;rw[qV]at h
   rw[mY];exact I8 hs n _ _ (by rw[A_];omega) (hs q Q t hI)
theorem Xz{l:List Tb}{p:Pk}(hF:vG l p){r:Int}(hr:(bH l r).isSome):Wh l [] (mY l (wt p) [(r,p)] gX):=
 I8 (I:=Wh l) (fun q Q t h=>h.step) _ _ _ (by simp[kZ]) ⟨fun q hq=>by
  simp at hq;subst hq;exact⟨hF,fun e=>by simp[e]at hr⟩,by simp[gX],by simp[gX],by simp[gX]⟩
noncomputable def Ai:List (BitVec 64)→BitVec 64→Option (BitVec 64)
 | [],s=>some s
 | b::l,s=>if pc b≠1∨s&&&b≠0#64 then none else Ai l (s|||b)
noncomputable def oN:List (BitVec 64)→BitVec 64→Option (BitVec 64)
 | [],s=>some s
 | b::l,s=>if b=0#64∨s&&&b≠0#64 then none else oN l (s|||b)
noncomputable def EM(t:dQ)(B:BitVec 64):Bool:=match Ai (t.dl.map fun d=>d.2.bits) 0#64 with
 | none=>false
 | some s=>match oN (t.ls.map fun x=>x.2) s with
   | none=>false
   | some s=>decide (s=B)
theorem Ae{s b:BitVec 64}(h:∀k<64,¬(s.getLsbD k=true∧b.getLsbD k=true)):s&&&b=0#64:=by
 apply BitVec.eq_of_getLsbD_eq;intro k hk;have:=h k hk;rw[BitVec.getLsbD_and,BitVec.getLsbD_zero];cases h1:s.getLsbD k<;>cases h2:b.getLsbD k<;>simp_all
theorem aaR{k:Nat}(hk:k<64):pc (1#64<<<k)=1:=by
 have:ku (1#64<<<k) = [k]:=by
  have e:ku (1#64<<<k)=(List.range 64).filter fun i=>decide (i=k):=by
   unfold ku;apply List.filter_congr;intro i hi;rw[j_ hk (by simpa using hi)]
  rw[e,wP List.nodup_range,if_pos (by simpa using hk)]
 rw[pc,this];rfl
theorem Ie:∀(l:List (BitVec 64)) (s:BitVec 64),(∀b∈l,b≠0#64)→(∀k<64,(l.filter fun b=>b.getLsbD k).length+(if s.getLsbD k=true then 1 else 0)≤1)→∃s',oN l s=some s'∧∀k<64,s'.getLsbD k=true↔s.getLsbD k=true∨(l.filter fun b=>b.getLsbD k).length=1
 | [],s,_,_=>⟨s,rfl,by simp⟩
 | b::l,s,h0,h1=>by
   have hz:s&&&b=0#64:=Ae fun k hk ⟨a1,a2⟩=>by
    have:=h1 k hk;rw[if_pos a1,List.filter_cons,if_pos a2]at this
    simp at this
   have hk1:∀k<64,(l.filter fun b=>b.getLsbD k).length+(if(s|||b).getLsbD k=true then 1 else 0)≤1:=fun k hk=>by
    have:=h1 k hk;rw[List.filter_cons]at this
    by_cases a1:s.getLsbD k=true
    ·rw[if_pos (or_bit s b |>.2 (.inl a1))];rw[if_pos a1]at this;split at this<;>(try simp only[List.length_cons]at this)<;>omega
    ·by_cases a2:b.getLsbD k=true
     ·rw[if_pos (or_bit s b |>.2 (.inr a2))];rw[if_pos a2,if_neg a1]at this;simp only[List.length_cons]at this;omega
     ·rw[if_neg (fun a=>((or_bit s b).1 a).elim a1 a2)];rw[if_neg a2,if_neg a1]at this;omega
   obtain⟨s',h2,h3⟩:=Ie l (s|||b) (fun c hc=>h0 c (by simp[hc])) hk1;refine⟨s',by rw[oN,if_neg (fun a=>a.elim (h0 b (by simp)) (fun a=>a hz))];exact h2,fun k hk=>?_⟩;rw[h3 k hk,or_bit,List.filter_cons];have:=h1 k hk;rw[List.filter_cons]at this
   by_cases a2:b.getLsbD k=true
   ·rw[if_pos a2]at this⊢
    simp only[List.length_cons]at this⊢;simp only[a2,or_true,true_or,true_iff];exact .inr (by omega)
   ·rw[if_neg a2];simp[a2]
theorem Ic:∀(l:List (BitVec 64)) (s:BitVec 64),(∀b∈l,∃k<64,b=1#64<<<k)→Ai l s=oN l s
 | [],_,_=>rfl
 | b::l,s,h=>by
   obtain⟨k,hk,rfl⟩:=h b (by simp);have hnz:(1#64<<<k)≠0#64:=fun e=>by
    have:=congrArg (fun z=>z.getLsbD k) e;simp only[j_ hk hk]at this;simp at this
   rw[Ai,oN,Ic l _ (fun c hc=>h c (by simp[hc]))];simp only[aaR hk,ne_eq,not_true_eq_false,false_or,hnz]
theorem EL:∀(a b:List (BitVec 64)) (s:BitVec 64),oN (a++b) s=match oN a s with|none=>none|some s=>oN b s
 | [],b,s=>rfl
 | x::a,b,s=>by
   rw[List.cons_append,oN,oN];split
   ·rfl
   ·exact EL a b _
theorem WS{t:dQ}{B:BitVec 64}(h1:∀d∈t.dl,∃k<64,d.2.bits=1#64<<<k)(h2:∀x∈t.ls,x.2≠0#64)
  (h3:∀k<64,(t.dl.filter fun d=>d.2.bits.getLsbD k).length+(t.ls.filter fun x=>x.2.getLsbD k).length=if B.getLsbD k=true then 1 else 0):EM t B=true:=by
 have hd:∀b∈t.dl.map (fun d=>d.2.bits),∃k<64,b=1#64<<<k:=fun b hb=>by
  obtain⟨d,hd,rfl⟩:=List.mem_map.1 hb;exact h1 d hd
 have hall:∀b∈t.dl.map (fun d=>d.2.bits)++t.ls.map (fun x=>x.2),b≠0#64:=fun b hb=>by
  rcases List.mem_append.1 hb with hb|hb
  ·obtain⟨k,hk,rfl⟩:=hd b hb;intro e;have:=congrArg (fun z=>z.getLsbD k) e;simp only[j_ hk hk]at this;simp at this
  ·obtain⟨x,hx,rfl⟩:=List.mem_map.1 hb;exact h2 x hx
 have hlen:∀k,((t.dl.map (fun d=>d.2.bits)++t.ls.map (fun x=>x.2)).filter fun b=>b.getLsbD k).length=(t.dl.filter fun d=>d.2.bits.getLsbD k).length+(t.ls.filter fun x=>x.2.getLsbD k).length:=fun k=>by
  rw[List.filter_append,List.length_append,List.filter_map,List.filter_map,List.length_map,List.length_map];rfl
 obtain⟨s',g1,g2⟩:=Ie (t.dl.map (fun d=>d.2.bits)++t.ls.map (fun x=>x.2)) 0#64 hall (fun k hk=>by
  rw[hlen,h3 k hk];simp;split<;>omega)
 rw[EL]at g1
 unfold EM;rw[Ic _ _ hd];cases hx:oN (t.dl.map fun d=>d.2.bits) 0#64 with
 | none=>rw[hx]at g1;simp at g1
 | some s=>
   rw[hx]at g1
   simp only at g1⊢;rw[g1];simp only[decide_eq_true_eq];apply BitVec.eq_of_getLsbD_eq;intro k hk;have:=g2 k hk;rw[hlen,h3 k hk]at this
   rw[Bool.eq_iff_iff,this];simp
theorem CZ{α:Type}(f:α→BitVec 64):∀(l:List α),(∀x∈l,∃k<64,f x=1#64<<<k)→l.length=((List.range 64).map fun k=>(l.filter fun x=>(f x).getLsbD k).length).sum
 | [],_=>by
   have:∀ks:List Nat,(ks.map fun k=>(([]:List α).filter fun x=>(f x).getLsbD k).length).sum=0:=fun ks=>by induction ks<;>simp_all
   rw[this];rfl
 | x::l,h=>by
   have ih:=CZ f l (fun y hy=>h y (by simp[hy]));obtain⟨j,hj,e⟩:=h x (by simp);have hle:∀(ks:List Nat),ks.Nodup→(∀k∈ks,k<64)→(ks.map fun k=>((x::l).filter fun x=>(f x).getLsbD k).length).sum=(ks.map fun k=>(l.filter fun x=>(f x).getLsbD k).length).sum+(if j∈ks then 1 else 0):=by
    intro ks hn hk
    induction ks with
    | nil=>simp
    | cons k ks ih2=>
      rw[List.nodup_cons]at hn
      have ih2:=ih2 hn.2 (fun m hm=>hk m (by simp[hm]));have hkk:=hk k (by simp);simp only[List.map_cons,List.sum_cons,List.mem_cons];rw[ih2,List.filter_cons,e,j_ hj hkk];by_cases ek:j=k
      ·subst ek;simp only[decide_true,if_true,List.length_cons,true_or,if_neg hn.1];omega
      ·simp only[Ne.symm ek,decide_false,Bool.false_eq_true,if_false,ek,false_or];omega
   have:=hle (List.range 64) List.nodup_range (by simp);rw[if_pos (by simpa using hj)]at this
   rw[this,List.length_cons,ih]
section
variable {nx:Int→List Int} {cp:Int→Bool} {R:Int→Prop}
theorem pq.fold{go:Int→List Int×List Int→List Int×List Int}:∀{ns:List Int} {s:List Int×List Int},(∀n∈ns,R n∧(cp n=false→∀s,pq nx cp R (nx n) s (go n s)))→pq nx cp R ns s (ns.foldl (aek cp go) s)
 | [],s,_=>pq.refl (by simp)
 | n::ns,s,h=>by
   have h1:=h n (by simp);exact pq.trans (a:=[n]) (pq.one h1.1 h1.2) (pq.fold fun m hm=>h m (by simp[hm]))
end
end Go.Proofs

set_option linter.unusedVariables false
namespace Go.Proofs
theorem vM{g:ay}{r:Int}{ws:List Int}{v:Int}(h:fH g r ws=some v):Wk g (jW r ws) ws.length r v:=by
 induction ws generalizing r v with
 | nil=>simp[fH]at h;subst h;exact .nil
 | cons w ws ih=>
   rw[fH]at h
   cases hp:price g.ls r w with
   | none=>simp[hp]at h
   | some c=>
     cases hc:fH g w ws with
     | none=>simp[hp,hc]at h
     | some u=>
       simp only[hp,hc,Option.some.injEq]at h;subst h;exact .cons hp (ih hc)
theorem Ah{g:ay}(hg:g.Ok){a:Int}(ha:aY g.rs a=true){r h:Int}{u:List Int}(hl:jW r (h::u)=a)(hc:fH g r (h::u)=some (dst g a r)):h∈steps g (dist g a) r∧fH g h u=some (dst g a h):=by
 rw[fH]at hc
 cases hp:price g.ls r h with
 | none=>simp[hp]at hc
 | some c=>
   cases hq:fH g h u with
   | none=>simp[hp,hq]at hc
   | some v=>
     simp only[hp,hq,Option.some.injEq]at hc;have w:=vM hq;simp only[jW]at hl;rw[hl]at w
     have h1:=vO hg ha w;have h2:=CJ hg ha hp h1.2;have h3:v=dst g a h:=by omega
     have h4:=oP hg hp;have h5:=rZ hg a h;exact⟨(lM hg).2 ⟨by omega,by omega,h1.2,c,hp,by omega⟩,by rw[h3]⟩
set_option maxRecDepth 100000
set_option maxHeartbeats 2000000
open Go Go.Tr
structure qW(rs:List Rt)(p:Pn):Prop where
 bF:0≤p.bF∧p.bF≤7
 len:aG p.len=true
 n:p.es.length≤24
 rt:∀e∈p.es,1≤e.r∧e.r≤99
 ids:∀e∈p.es,1≤e.id∧e.id≤256
 xX:p.es.Pairwise fun a b=>a.id<b.id
 Fp:(p.es.map (·.r)).Nodup
theorem uI{rs:List Rt}{p:Pn}(h:qW rs p):d_ p=true:=by
 have gi:∀i (hi:i<p.es.length),gid p.es i=p.es[i].id∧KA p.es i=p.es[i].r:=fun i hi=>by simp[gid,KA,List.getD,hi]
 refine AL (by simp[yD,inB,h.bF,h.len,h.n]) (fun i hi=>?_) (fun i j hj hi=>?_)
 ·have h1:=h.ids p.es[i] (List.getElem_mem hi);have h2:=h.rt p.es[i] (List.getElem_mem hi);have h3:=gi i hi;by_cases h0:i=0
  ·simp[LD,inB,h3,h1,h2,h0];subst h0;simp[h3,h1,h2]
  ·have h4:=gi (i-1) (by omega);have h5:=List.pairwise_iff_getElem.1 h.xX (i-1) i (by omega) hi (by omega);simp[LD,inB,h3,h1,h2,h0,h4,h5]
 ·rw[(gi i hi).2,(gi j (by omega)).2];have:=List.pairwise_iff_getElem.1 h.Fp j i (by simp;omega) (by simpa using hi) hj;simp only[List.getElem_map]at this;exact fun e=>this e.symm
theorem gQ:∀(n i:Nat) (T:Tp) (l:List Int),l.Nodup→(∀x∈l,x<(i:Int))→(kY n i T l).1.Nodup
 | 0,_,_,_,h,_=>h
 | n+1,i,T,l,h,hb=>by
   rw[kY];generalize (au T (i+1)).1.toNat=k;have hs:(l.take k++l.drop k).Nodup:=by rw[List.take_append_drop];exact h
   have hi:(i:Int)∉l:=fun hm=>by have:=hb _ hm;omega
   refine gQ n (i+1) _ _ ?_ fun x hx=>?_
   ·rw[List.nodup_append]at hs⊢
    obtain⟨h1,h2,h3⟩:=hs;refine⟨?_,h2,fun a ha b hb'=>?_⟩
    ·rw[List.nodup_append];refine⟨h1,by simp,fun a ha b hb'=>?_⟩;simp at hb';subst hb';intro e;subst e;exact hi (List.mem_of_mem_take ha)
    ·rcases List.mem_append.1 ha with ha|ha
     ·exact h3 a ha b hb'
     ·simp at ha;subst ha;intro e;subst e;exact hi (List.mem_of_mem_drop hb')
   ·simp only[List.mem_append,List.mem_singleton]at hx;rcases hx with (hx|hx)|hx
    ·have:=hb x (List.mem_of_mem_take hx);omega
    ·omega
    ·have:=hb x (List.mem_of_mem_drop hx);omega
theorem vT(k:Nat){i:Nat}(h:i<k)(d:Rt):((cu k).getD i d).id=(i:Int)+1:=by
 simp[cu,List.getD,h]
structure QE(k:Nat)(o:List Int)(id:Int)(l:List Ed):Prop where
 pos:0≤id
 rt:∀e∈l,1≤e.r∧e.r≤k∧e.r-1∉o
 ids:∀e∈l,1≤e.id∧e.id≤256∧e.id≤id
 xX:l.Pairwise fun a b=>a.id<b.id
 Fp:(l.map (·.r)).Nodup
theorem nZ(k:Nat)(len:Int)(hl:8≤len):∀(o:List Int) (T:Tp) (id:Int) (l:List Ed),o.Nodup→(∀x∈o,0≤x∧x<(k:Int))→QE k o id l→
  QE k [] (aX (cu k) len o T id l).2.1 (aX (cu k) len o T id l).1
 | [],T,id,l,_,_,h=>h
 | x::o,T,id,l,hn,hb,h=>by
   rw[List.nodup_cons]at hn
   rw[aX];have hbx:=hb x (by simp);refine nZ k len hl o _ _ _ hn.2 (fun y hy=>hb y (by simp[hy])) ?_;unfold aV;simp only;have h0:QE k o id l:=⟨h.pos,fun e he=>by have:=h.rt e he;simp at this;exact⟨this.1,this.2.1,this.2.2.2⟩,h.ids,h.xX,h.Fp⟩
   split
   ·exact h0
   ·have bp:1≤(aK (au T 4).2 [1,1,1,2,len-1]).1:=dA (p:=fun x=>1≤x) (by simp) (by simp;omega);simp only;generalize aK (au T 4).2 [1,1,1,2,len-1]=p at bp⊢;split
    ·rename_i hid;have hr:((cu k).getD x.toNat ⟨0,false⟩).id=x+1:=by rw[vT k (by omega)];omega
     rw[hr];refine⟨by have:=h.pos;first|omega|(simp only;omega),fun e he=>?_,fun e he=>?_,?_,?_⟩
     ·simp only[List.mem_append,List.mem_singleton]at he;rcases he with he|rfl
      ·exact h0.rt e he
      ·refine⟨by first|omega|(simp only;omega),by first|omega|(simp only;omega),?_⟩;rw[show(x+1-1:Int)=x by omega];exact hn.1
     ·simp only[List.mem_append,List.mem_singleton]at he;rcases he with he|rfl
      ·have:=h.ids e he;first|omega|(simp only;omega)
      ·have:=h.pos;first|omega|(simp only;omega)
     ·rw[List.pairwise_append];refine⟨h.xX,by simp,fun a ha b hb'=>?_⟩;simp at hb';subst hb';have:=h.ids a ha;first|omega|(simp only;omega)
     ·rw[List.map_append,List.nodup_append];refine⟨h.Fp,by simp,fun a ha b hb'=>?_⟩;simp at hb';subst hb';obtain⟨e,he,rfl⟩:=List.mem_map.1 ha;have:=(h.rt e he).2.2;intro e1;apply this;rw[e1];simp
    ·exact⟨by have:=h.pos;first|omega|(simp only;omega),h0.rt,fun e he=>by have:=h.ids e he;first|omega|(simp only;omega),h.xX,h.Fp⟩
theorem l7(T:Tp){k:Nat}(hk:k≤24):qW (cu k) (bJ T (cu k)).1:=by
 have hl:((8:Int)≤(aK (au T 3).2 [8,8,16,32,64]).1)∧aG (aK (au T 3).2 [8,8,16,32,64]).1=true:=dA (p:=fun x=>(8:Int)≤x∧aG x=true) (by simp) (by simp;decide);have h1:=aC T 3;have h2:=bg T (n:=3) (by omega);have hln:=qh T (cu k);rw[EY]at hln
 have hord:=lZ (aK (au T 3).2 [8,8,16,32,64]).2 k;have hnd:(bT (aK (au T 3).2 [8,8,16,32,64]).2 k).1.Nodup:=gQ _ _ _ _ (by simp) (by simp);have hI:=nZ k _ hl.1 _ (bT (aK (au T 3).2 [8,8,16,32,64]).2 k).2 0 [] hnd hord ⟨by omega,by simp,by simp,by simp,by simp⟩;refine⟨by simp only[bJ];omega,hl.2,by omega,fun e he=>?_,fun e he=>?_,?_,?_⟩
 ·have he':e∈(aX (cu k) (aK (au T 3).2 [8,8,16,32,64]).1 (bT (aK (au T 3).2 [8,8,16,32,64]).2 k).1 (bT (aK (au T 3).2 [8,8,16,32,64]).2 k).2 0 []).1:=by simpa[bJ]using he
  have:=hI.rt e he';omega
 ·have he':e∈(aX (cu k) (aK (au T 3).2 [8,8,16,32,64]).1 (bT (aK (au T 3).2 [8,8,16,32,64]).2 k).1 (bT (aK (au T 3).2 [8,8,16,32,64]).2 k).2 0 []).1:=by simpa[bJ]using he
  have:=hI.ids e he';omega
 ·simpa[bJ]using hI.xX
 ·simpa[bJ]using hI.Fp
end Go.Proofs

set_option maxRecDepth 100000
namespace Go.Proofs
open Go Go.Tr
theorem kV(T:Tp)(rs:List Rt):dh T rs 0=((bJ T rs).1,(bJ T rs).2.2):=by
 simp[dh]
structure QC(most:Int)(g:ay)(p:Pn)(l:List Tb):Prop where
 top:zq most g
 plan:d_ p=true
 len:aG p.len=true
 bF:0≤p.bF∧p.bF≤7
 tab:l=tabs g p g.rs
theorem qj{rs rs':List Rt}(h:rs.map (·.id)=rs'.map (·.id))(len x:Int)(T:Tp)(id:Int)(l:List Ed):aV rs len x T id l=aV rs' len x T id l:=by
 have e:∀i:Nat,(rs.getD i ⟨0,false⟩).id=(rs'.getD i ⟨0,false⟩).id:=fun i=>by
  have:=congrArg (fun l=>l[i]?) h;simp only[List.getElem?_map]at this;rw[List.getD_eq_getElem?_getD,List.getD_eq_getElem?_getD];cases h1:rs[i]? with
  | none=>
    rw[h1]at this
    cases h2:rs'[i]? with
    | none=>rfl
    | some y=>rw[h2]at this;simp at this
  | some x=>
    rw[h1]at this
    cases h2:rs'[i]? with
    | none=>rw[h2]at this;simp at this
    | some y=>rw[h2]at this;simpa using this
 unfold aV;simp only[e]
theorem jG{rs rs':List Rt}(h:rs.map (·.id)=rs'.map (·.id))(len:Int):∀(o:List Int) (T:Tp) (id:Int) (l:List Ed),aX rs len o T id l=aX rs' len o T id l
 | [],_,_,_=>rfl
 | x::o,T,id,l=>by
   rw[aX,aX,qj h,jG h]
theorem qg{rs rs':List Rt}(h:rs.map (·.id)=rs'.map (·.id))(T:Tp):bJ T rs=bJ T rs':=by
 have hl:rs.length=rs'.length:=by have:=congrArg List.length h;simpa using this
 unfold bJ;simp only[hl,jG h]
theorem qE{most:Int}{g:ay}(h:zq most g)(hm:most≤24)(T:Tp):qW (cu g.rs.length) (dh T g.rs 0).1:=by
 rw[kV]
 show qW _ (bJ T g.rs).1
 rw[qg h.ids];exact l7 T (by have:=h.n;omega)
theorem Dw{g:ay}(hg:cZ g=0){p:Pn}(hp:d_ p=true):nR (tabs g p g.rs)=0:=
 DW (Nat.le_trans (oU g p) (aU hg).nr) (m_ hg hp) (xH (aU hg) p) fun b hb c hc=>by
  have h1:=rW b hb;have h2:=rW c hc;exact⟨h1.1.trans h2.1.symm,h1.2.trans h2.2.symm⟩
theorem ny{l:List Tb}{r:Int}:(bH l r).isSome↔r∈l.map (·.r):=by
 rw[bH,List.find?_isSome];simp
theorem Uh{g:ay}(hg:cZ g=0){p:Pn}(hp:d_ p=true):DN p ((tabs g p g.rs).map (·.r)) (tabs g p g.rs):=
 ⟨Dw hg hp,m_ hg hp,rW,fun r=>ny,Nat.le_trans (oU g p) (aU hg).nr⟩
theorem um(T:Tp):∃(L m d s t e i p y:Int) (B:BitVec 64) (w:List Int) (T':Tp),Bg T=(⟨m,d,s,L,t,e,i,p,B,strOf w⟩,T')∧(1≤m∧m≤3)∧(0≤t∧t≤63)∧(0≤e∧e≤1023)∧(0≤i∧i≤256)∧(0≤p∧p≤7)∧(strOf w).size≤6∧ak T'=ak T:=by
 unfold Bg;dsimp only;refine⟨_,_,_,_,_,_,_,_,0,_,_,_,rfl,⟨aS _ _ _,aQ _ (by omega)⟩,dA (p:=fun x=>0≤x∧x≤63) (by simp) (by simp),⟨aC _ _,?_⟩,dA (p:=fun x=>0≤x∧x≤256) (by simp) (by simp),⟨aC _ _,?_⟩,?_,by simp⟩
 ·have:=bg (aK (aK (aT (aT (aK T [8,8,16,32,64]).2 1 3).2 0 7).2 [0,0,1,2,31]).2 [0,1,2,5,63]).2 (n:=1024) (by omega);omega
 ·exact Int.le_of_lt_add_one (bg _ (n:=8) (by omega))
 ·exact xR _ (by omega)
end Go.Proofs
