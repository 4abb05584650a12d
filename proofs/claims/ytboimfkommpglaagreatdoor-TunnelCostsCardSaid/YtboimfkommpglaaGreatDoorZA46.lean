/-
  What functions of the program compute, stated as contracts over plain data; the conditions of each stand in its own statement.
-/
import Derived.Test.YtboimfkommpglaaGreatDoorZA21
import Derived.Test.YtboimfkommpglaaGreatDoorZA45
import Derived.Test.YtboimfkommpglaaGreatDoorZA26
import Derived.Test.YtboimfkommpglaaGreatDoorZA20
import Derived.Test.YtboimfkommpglaaGreatDoorZA28
import Derived.Test.YtboimfkommpglaaGreatDoorZA27
set_option linter.unusedSimpArgs false
set_option linter.unusedVariables false
namespace Go.Proofs
theorem jM(x:Lk):∀(l:List Lk),∀y∈l.take (bU x l),y.before x=true
 | []=>by simp
 | z::r=>by
   intro y hy;rw[bU]at hy
   split at hy
   ·rename_i hz;rw[List.take_succ_cons]at hy
    rcases List.mem_cons.1 hy with rfl|hy
    ·exact hz
    ·exact jM x r y hy
   ·simp at hy
theorem nU(x:Lk):∀(l:List Lk) (y:Lk),l[bU x l]? = some y→y.before x=false
 | [],y,h=>by simp at h
 | z::r,y,h=>by
   rw[bU]at h
   split at h
   ·exact nU x r y (by simpa using h)
   ·rename_i hz;simp at h;subst h;simpa using hz
theorem lI{x y:Lk}:y.before x=true↔gB y x:=by simp[Lk.before,gB]
theorem Iy{l:List Lk}(x:Lk)(h:l.Pairwise gB)(hd:∀y∈l,¬(y.a=x.a∧y.b=x.b)):(l.take (bU x l)++[x]++l.drop (bU x l)).Pairwise gB∧∀y,y∈l.take (bU x l)++[x]++l.drop (bU x l)↔y∈l∨y=x:=by
 have hl:l.take (bU x l)++l.drop (bU x l)=l:=List.take_append_drop _ _;have hp:(l.take (bU x l)++l.drop (bU x l)).Pairwise gB:=by rw[hl];exact h
 rw[List.pairwise_append]at hp
 have hdr:∀y∈l.drop (bU x l),gB x y:=fun y hy=>by
  cases hc:l.drop (bU x l)with
  | nil=>rw[hc]at hy;simp at hy
  | cons z r=>
    have hz:l[bU x l]? = some z:=by
     have:(l.drop (bU x l))[0]? = some z:=by rw[hc];rfl
     simpa using this
    have h1:=nU x l z hz;have h2:=hd z (List.mem_of_getElem? hz);have h3:gB x z:=by
     have :¬gB z x:=fun a=>by rw[lI.2 a]at h1;simp at h1
     unfold gB at *;omega
    rw[hc]at hy
    rcases List.mem_cons.1 hy with rfl|hy
    ·exact h3
    ·have:=hp.2.1;rw[hc,List.pairwise_cons]at this
     exact nC h3 (this.1 y hy)
 refine⟨?_,fun y=>?_⟩
 ·rw[List.append_assoc,List.pairwise_append];refine⟨hp.1,?_,fun a ha b hb=>?_⟩
  ·rw[List.singleton_append,List.pairwise_cons];exact⟨hdr,hp.2.1⟩
  ·have h1:=lI.1 (jM x l a ha);rcases List.mem_append.1 hb with hb|hb
   ·simp at hb;subst hb;exact h1
   ·exact nC h1 (hdr b hb)
 ·conv=>rhs;rw[←hl]
  simp only[List.mem_append,List.mem_singleton];constructor
  ·rintro ((a|a)|a)
   ·exact .inl (.inl a)
   ·exact .inr a
   ·exact .inl (.inr a)
  ·rintro ((a|a)|a)
   ·exact .inl (.inl a)
   ·exact .inr a
   ·exact .inl (.inr a)
theorem rC:∀(l out:List Lk),l.Pairwise MP→out.Pairwise gB→(∀x∈l,∀y∈out,MP x y)→(jO l out).Pairwise gB∧∀y,y∈jO l out↔y∈l∨y∈out
 | [],out,_,h,_=>⟨h,by simp[jO]⟩
 | x::l,out,hl,h,hd=>by
   rw[List.pairwise_cons]at hl
   obtain⟨h1,h2⟩:=Iy x h (fun y hy e=>hd x (by simp) y hy ⟨e.1.symm,e.2.symm⟩);obtain⟨h3,h4⟩:=rC l _ hl.2 h1 (fun z hz y hy=>by
    rcases (h2 y).1 hy with hy|rfl
    ·exact hd z (by simp[hz]) y hy
    ·exact fun e=>hl.1 z hz ⟨e.1.symm,e.2.symm⟩)
   refine⟨h3,fun y=>?_⟩;rw[jO,h4,h2];simp only[List.mem_cons];constructor
   ·rintro (a|a|a)
    ·exact .inl (.inr a)
    ·exact .inr a
    ·exact .inl (.inl a)
   ·rintro ((a|a)|a)
    ·exact .inr (.inr a)
    ·exact .inl a
    ·exact .inr (.inl a)
theorem zx.nP{cost:Int}(hc:1≤cost∧cost≤1000):∀(n:Nat) (b:Int) (T:Tp) (l:List Lk),zx b 1 l→2≤b→zx (b+n) 1 (dS cost n b T l).1
 | 0,b,T,l,h,_=>by simpa[dS]using h
 | n+1,b,T,l,h,hb=>by
   rw[dS];have h1:zx b b (gW cost b T l).1:=by
    unfold gW;simp only;have:=zx.row (b:=b) (tree:=(aT T 1 (b-1)).1) (skip:=(dD (aT T 1 (b-1)).2 9).1) hc (b-1).toNat 1 (dD (aT T 1 (b-1)).2 9).2 l h (by omega) (by omega);rw[show 1+(((b-1).toNat:Nat):Int)=b by omega]at this
    exact this
   have h2:zx (b+1) 1 (gW cost b T l).1:=⟨fun x hx=>by have:=h1.all x hx;omega,h1.ne⟩
   have:=zx.nP hc n (b+1) (gW cost b T l).2 _ h2 (by omega);rw[show b+((n+1:Nat):Int)=b+1+n by omega];exact this
theorem jJ(cost tree:Int)(skip:Bool)(b:Int):∀(n:Nat) (a:Int) (T:Tp) (l:List Lk),(dV cost tree skip b n a T l).1.length≤l.length+n
 | 0,_,_,_=>Nat.le_refl _
 | n+1,a,T,l=>by
   have h1:=jJ cost tree skip b n (a+1) (dI cost tree skip b a T l).2 (dI cost tree skip b a T l).1;have h2:=zN cost tree skip b a T l;rw[dV];omega
theorem jK(cost:Int)(m:Nat):∀(n:Nat) (b:Int) (T:Tp) (l:List Lk),1≤b→b+n≤m+2→(dS cost n b T l).1.length≤l.length+n*m
 | 0,_,_,_,_,_=>by simp[dS]
 | n+1,b,T,l,hb,hm=>by
   have h1:=jK cost m n (b+1) (gW cost b T l).2 (gW cost b T l).1 (by omega) (by omega);have h2:(gW cost b T l).1.length≤l.length+(b-1).toNat:=jJ _ _ _ _ _ _ _ _;rw[dS];have h3:(n+1)*m=n*m+m:=Nat.succ_mul _ _;omega
theorem oV{g:ay}(h1:g.rs.length≤24)(h2:g.ls.length≤60)(h3:∀x∈g.rs,1≤x.id∧x.id≤99)(h4:g.rs.Pairwise fun x y=>x.id<y.id)
  (h5:∀x∈g.ls,(1≤x.ca∧x.ca≤1000)∧(1≤x.cb∧x.cb≤1000)∧0≤x.cap∧x.cap≤1000) (h6:∀x∈g.ls,aY g.rs x.a=true∧aY g.rs x.b=true) (h7:∀x∈g.ls,x.a<x.b) (h8:g.ls.Pairwise gB):cZ g=0:=by
 have a1:decide (24<g.rs.length)=false:=by simp;omega
 have a2:decide (60<g.ls.length)=false:=by simp;omega
 have a3:(g.rs.any fun x=>!inB x.id 1 99)=false:=by
  rw[List.any_eq_false];intro x hx;have:=h3 x hx;simp[inB];omega
 have a4:nO (fun x y=>decide (y.id≤x.id)) g.rs=false:=y8 (r:=fun x y=>x.id<y.id) (fun x y h=>by simpa using h) h4;have a5:g.ls.any Lk.bad=false:=by
  rw[List.any_eq_false];intro x hx;have:=h5 x hx;simp[Lk.bad,inB];omega
 have a6:(g.ls.any fun x=>!aY g.rs x.a || !aY g.rs x.b)=false:=by
  rw[List.any_eq_false];intro x hx;have:=h6 x hx;simp[this.1,this.2]
 have a7:(g.ls.any fun x=>decide (x.b≤x.a))=false:=by
  rw[List.any_eq_false];intro x hx;have:=h7 x hx;simp;omega
 have a8:nO (fun x y=>decide (y.a<x.a)||decide (x.a=y.a)&&decide (y.b≤x.b)) g.ls=false:=y8 (r:=gB) (fun x y h=>by
  unfold gB at h;simp only[Bool.or_eq_false_iff,Bool.and_eq_false_iff,decide_eq_false_iff_not];omega) h8
 simp only[cZ,jc,a1,a2,a3,a4,a5,a6,a7,a8,cond_false]
theorem jr{k:Nat}{x:Rt}:x∈cu k↔x.cap=true∧1≤x.id∧x.id≤k:=by
 simp only[cu,List.mem_map,List.mem_range];constructor
 ·rintro⟨i,hi,rfl⟩;simp only;exact⟨trivial,by omega,by omega⟩
 ·rintro⟨h1,h2,h3⟩;refine⟨(x.id-1).toNat,by omega,?_⟩;cases x;simp only at *;subst h1;congr 1;omega
theorem yO(k:Nat):(cu k).Pairwise fun x y=>x.id<y.id:=by
 unfold cu;rw[List.pairwise_map];exact List.pairwise_lt_range.imp fun h=>by simp only;omega
structure zq(most:Int)(g:ay):Prop where
 n:1≤g.rs.length∧(g.rs.length:Int)≤most
 ids:g.rs.map (·.id)=(cu g.rs.length).map (·.id)
 ok:cZ g=0
theorem qY{l m:List Rt}(h:l.map (·.id)=m.map (·.id))(r:Int):aY l r=aY m r:=by
 rw[Bool.eq_iff_iff,dH,dH,h]
theorem yF{rs rs':List Rt}{ls:List Lk}(h:rs.map (·.id)=rs'.map (·.id))(hc:cZ ⟨rs',ls⟩ = 0):cZ ⟨rs,ls⟩ = 0:=by
 have hO:=aU hc;have hl:rs.length=rs'.length:=by have:=congrArg List.length h;simpa using this
 refine oV (by have:=hO.nr;simp only at this⊢;omega) hO.nl (fun x hx=>?_) ?_ (fun x hx=>?_) (fun x hx=>?_) (fun x hx=>hO.lab hx) hO.Zu
 ·have:x.id∈rs'.map (·.id):=by rw[←h];exact List.mem_map_of_mem hx
  obtain⟨y,hy,e⟩:=List.mem_map.1 this;have:=List.any_eq_false.1 hO.ids y hy;simp[inB]at this
  omega
 ·have h1:=hO.rpw;have h2:(rs'.map (·.id)).Pairwise (· < ·):=by rw[List.pairwise_map];exact h1
  rw[←h,List.pairwise_map]at h2
  exact h2
 ·have:=List.any_eq_false.1 hO.cost x hx;simp[Lk.bad,inB]at this
  omega
 ·have:=hO.ends' hx;simp only at this⊢;rw[qY h,qY h];exact this
theorem vU(T:Tp)(most:Int):(dG T most).1.rs=cu (aT T 1 most).1.toNat:=rfl
theorem qm(T:Tp){most:Int}(hm:1≤most∧most≤8):zq most (dG T most).1:=by
 have r1:=aS T 1 most;have r2:=aQ T (a:=1) (b:=most) hm.1;have e:=vU T most;have hlen:(dG T most).1.rs.length=(aT T 1 most).1.toNat:=by rw[e];simp[cu]
 refine⟨by omega,by rw[hlen,e],?_⟩;unfold dG;simp only;generalize aT T 1 most=R at r1 r2;have hc:=dA (T:=R.2) (l:=[1,2,2,5]) (p:=fun x=>1≤x∧x≤1000) (by simp) (by simp);generalize aK R.2 [1,2,2,5]=C at hc;have hI:=zx.nP hc (R.1+1-2).toNat 2 C.2 [] ⟨by simp,List.Pairwise.nil⟩ (by omega);have hl:=jK C.1 7 (R.1+1-2).toNat 2 C.2 [] (by omega) (by omega)
 generalize (dS C.1 (R.1+1-2).toNat 2 C.2 []).1=L at hI hl;obtain⟨h1,h2⟩:=rC L [] hI.ne List.Pairwise.nil (by simp);have hall:∀x∈jO L [],(1≤x.a∧x.a<x.b∧x.b≤R.1)∧(1≤x.ca∧x.ca≤1000)∧(1≤x.cb∧x.cb≤1000)∧0≤x.cap∧x.cap≤1000:=fun x hx=>by
  have:=hI.all x (by simpa using(h2 x).1 hx);omega
 have hol:∀(l out:List Lk),(jO l out).length=l.length+out.length:=fun l=>by
  induction l with
  | nil=>intro out;simp[jO]
  | cons x l ih=>
    intro out;have:=nV x out;rw[jO,ih];simp;omega
 refine oV (by simp[cu];omega) ?_ (fun x hx=>?_) (yO _) (fun x hx=>(hall x hx).2) (fun x hx=>?_) (fun x hx=>(hall x hx).1.2.1) h1
 ·simp only[hol,List.length_nil]at hl⊢;have:(R.1+1-2).toNat≤7:=by omega
  have:=Nat.mul_le_mul_right 7 this;omega
 ·have:=jr.1 hx;omega
 ·have:=(hall x hx).1;constructor
  ·exact dH.2 (List.mem_map.2 ⟨⟨x.a,true⟩,jr.2 ⟨rfl,by simp only;omega⟩,rfl⟩)
  ·exact dH.2 (List.mem_map.2 ⟨⟨x.b,true⟩,jr.2 ⟨rfl,by simp only;omega⟩,rfl⟩)
theorem oD:∀(l:List Rt) (T:Tp),(iy l T).1.map (·.id)=l.map (·.id)
 | [],_=>rfl
 | x::l,T=>by
   simp only[iy,List.map_cons,oD l]
theorem uj(T:Tp){most:Int}(hm:1≤most∧most≤8):zq most (bW T most).1:=by
 have h:=qm T hm;have e:(bW T most).1.rs.map (·.id)=(dG T most).1.rs.map (·.id):=oD _ _;have hl:(bW T most).1.rs.length=(dG T most).1.rs.length:=by have:=congrArg List.length e;simpa using this
 refine⟨by rw[hl];exact h.n,by rw[e,hl];exact h.ids,?_⟩;have:=yF (rs:=(bW T most).1.rs) (rs':=(dG T most).1.rs) (ls:=(dG T most).1.ls) e h.ok;exact this
theorem I8{l:List Tb}{I:List (Int×Pk)→dQ→Prop}(hs:∀q Q t,I (q::Q) t→I (Q++nextQ l q) (stepT l q t)):∀(n:Nat) (Q:List (Int×Pk)) (t:dQ),kZ Q≤n→I Q t→I [] (mY l n Q t)
 | 0,Q,t,h,hI=>by
   have:=uG Q;obtain rfl:Q = []:=List.length_eq_zero_iff.1 (by omega);rw[rE];exact hI
 | n+1,[],t,_,hI=>by rw[rE];exact hI
 | n+1,q::Q,t,h,hI=>by
   have hq:=yX l q;rw[qV]at h
   rw[mY];exact I8 hs n _ _ (by rw[A_];omega) (hs q Q t hI)
theorem Xz{l:List Tb}{p:Pk}(hF:vG l p){r:Int}(hr:(bH l r).isSome):Wh l [] (mY l (wt p) [(r,p)] gX):=
 I8 (I:=Wh l) (fun q Q t h=>h.step) _ _ _ (by simp[kZ]) ⟨fun q hq=>by
  simp at hq;subst hq;exact⟨hF,fun e=>by simp[e]at hr⟩,by simp[gX],by simp[gX],by simp[gX]⟩
theorem Ae{s b:BitVec 64}(h:∀k<64,¬(s.getLsbD k=true∧b.getLsbD k=true)):s&&&b=0#64:=by
 apply BitVec.eq_of_getLsbD_eq;intro k hk;have:=h k hk;rw[BitVec.getLsbD_and,BitVec.getLsbD_zero];cases h1:s.getLsbD k<;>cases h2:b.getLsbD k<;>simp_all
theorem CZ{α:Type}(f:α→BitVec 64):∀(l:List α),(∀x∈l,∃k<64,f x=1#64<<<k)→l.length=((List.range 64).map fun k=>(l.filter fun x=>(f x).getLsbD k).length).sum
 | [],_=>by
   have:∀ks:List Nat,(ks.map fun k=>(([]:List α).filter fun x=>(f x).getLsbD k).length).sum=0:=fun ks=>by induction ks<;>simp_all
   rw[this];rfl
 | x::l,h=>by
   have ih:=CZ f l (fun y hy=>h y (by simp[hy]));obtain⟨j,hj,e⟩:=h x (by simp);have hle:∀(ks:List Nat),ks.Nodup→(∀k∈ks,k<64)→(ks.map fun k=>((x::l).filter fun x=>(f x).getLsbD k).length).sum=(ks.map fun k=>(l.filter fun x=>(f x).getLsbD k).length).sum+(if j∈ks then 1 else 0):=by
    intro ks hn hk
    induction ks with
    | nil=>simp
    | cons k ks ih2=>
      rw[List.nodup_cons]at hn
      have ih2:=ih2 hn.2 (fun m hm=>hk m (by simp[hm]));have hkk:=hk k (by simp);simp only[List.map_cons,List.sum_cons,List.mem_cons];rw[ih2,List.filter_cons,e,j_ hj hkk];by_cases ek:j=k
      ·subst ek;simp only[decide_true,if_true,List.length_cons,true_or,if_neg hn.1];omega
      ·simp only[Ne.symm ek,decide_false,Bool.false_eq_true,if_false,ek,false_or];omega
   have:=hle (List.range 64) List.nodup_range (by simp);rw[if_pos (by simpa using hj)]at this
   rw[this,List.length_cons,ih]
section
variable {nx:Int→List Int} {cp:Int→Bool} {R:Int→Prop}
theorem pq.fold{go:Int→List Int×List Int→List Int×List Int}:∀{ns:List Int} {s:List Int×List Int},(∀n∈ns,R n∧(cp n=false→∀s,pq nx cp R (nx n) s (go n s)))→pq nx cp R ns s (ns.foldl (aek cp go) s)
 | [],s,_=>pq.refl (by simp)
 | n::ns,s,h=>by
   have h1:=h n (by simp);exact pq.trans (a:=[n]) (pq.one h1.1 h1.2) (pq.fold fun m hm=>h m (by simp[hm]))
end
end Go.Proofs

namespace Go.Proofs
theorem vM{g:ay}{r:Int}{ws:List Int}{v:Int}(h:fH g r ws=some v):Wk g (jW r ws) ws.length r v:=by
 induction ws generalizing r v with
 | nil=>simp[fH]at h;subst h;exact .nil
 | cons w ws ih=>
   rw[fH]at h
   cases hp:price g.ls r w with
   | none=>simp[hp]at h
   | some c=>
     cases hc:fH g w ws with
     | none=>simp[hp,hc]at h
     | some u=>
       simp only[hp,hc,Option.some.injEq]at h;subst h;exact .cons hp (ih hc)
theorem Ah{g:ay}(hg:g.Ok){a:Int}(ha:aY g.rs a=true){r h:Int}{u:List Int}(hl:jW r (h::u)=a)(hc:fH g r (h::u)=some (dst g a r)):h∈steps g (dist g a) r∧fH g h u=some (dst g a h):=by
 rw[fH]at hc
 cases hp:price g.ls r h with
 | none=>simp[hp]at hc
 | some c=>
   cases hq:fH g h u with
   | none=>simp[hp,hq]at hc
   | some v=>
     simp only[hp,hq,Option.some.injEq]at hc;have w:=vM hq;simp only[jW]at hl;rw[hl]at w
     have h1:=vO hg ha w;have h2:=CJ hg ha hp h1.2;have h3:v=dst g a h:=by omega
     have h4:=oP hg hp;have h5:=rZ hg a h;exact⟨(lM hg).2 ⟨by omega,by omega,h1.2,c,hp,by omega⟩,by rw[h3]⟩
set_option maxRecDepth 100000
set_option maxHeartbeats 2000000
open Go Go.Tr
structure qW(rs:List Rt)(p:Pn):Prop where
 bF:0≤p.bF∧p.bF≤7
 len:aG p.len=true
 n:p.es.length≤24
 rt:∀e∈p.es,1≤e.r∧e.r≤99
 ids:∀e∈p.es,1≤e.id∧e.id≤256
 xX:p.es.Pairwise fun a b=>a.id<b.id
 Fp:(p.es.map (·.r)).Nodup
theorem uI{rs:List Rt}{p:Pn}(h:qW rs p):d_ p=true:=by
 have gi:∀i (hi:i<p.es.length),gid p.es i=p.es[i].id∧KA p.es i=p.es[i].r:=fun i hi=>by simp[gid,KA,List.getD,hi]
 refine AL (by simp[yD,inB,h.bF,h.len,h.n]) (fun i hi=>?_) (fun i j hj hi=>?_)
 ·have h1:=h.ids p.es[i] (List.getElem_mem hi);have h2:=h.rt p.es[i] (List.getElem_mem hi);have h3:=gi i hi;by_cases h0:i=0
  ·simp[LD,inB,h3,h1,h2,h0];subst h0;simp[h3,h1,h2]
  ·have h4:=gi (i-1) (by omega);have h5:=List.pairwise_iff_getElem.1 h.xX (i-1) i (by omega) hi (by omega);simp[LD,inB,h3,h1,h2,h0,h4,h5]
 ·rw[(gi i hi).2,(gi j (by omega)).2];have:=List.pairwise_iff_getElem.1 h.Fp j i (by simp;omega) (by simpa using hi) hj;simp only[List.getElem_map]at this;exact fun e=>this e.symm
theorem gQ:∀(n i:Nat) (T:Tp) (l:List Int),l.Nodup→(∀x∈l,x<(i:Int))→(kY n i T l).1.Nodup
 | 0,_,_,_,h,_=>h
 | n+1,i,T,l,h,hb=>by
   rw[kY];generalize (au T (i+1)).1.toNat=k;have hs:(l.take k++l.drop k).Nodup:=by rw[List.take_append_drop];exact h
   have hi:(i:Int)∉l:=fun hm=>by have:=hb _ hm;omega
   refine gQ n (i+1) _ _ ?_ fun x hx=>?_
   ·rw[List.nodup_append]at hs⊢
    obtain⟨h1,h2,h3⟩:=hs;refine⟨?_,h2,fun a ha b hb'=>?_⟩
    ·rw[List.nodup_append];refine⟨h1,by simp,fun a ha b hb'=>?_⟩;simp at hb';subst hb';intro e;subst e;exact hi (List.mem_of_mem_take ha)
    ·rcases List.mem_append.1 ha with ha|ha
     ·exact h3 a ha b hb'
     ·simp at ha;subst ha;intro e;subst e;exact hi (List.mem_of_mem_drop hb')
   ·simp only[List.mem_append,List.mem_singleton]at hx;rcases hx with (hx|hx)|hx
    ·have:=hb x (List.mem_of_mem_take hx);omega
    ·omega
    ·have:=hb x (List.mem_of_mem_drop hx);omega
theorem vT(k:Nat){i:Nat}(h:i<k)(d:Rt):((cu k).getD i d).id=(i:Int)+1:=by
 simp[cu,List.getD,h]
structure QE(k:Nat)(o:List Int)(id:Int)(l:List Ed):Prop where
 pos:0≤id
 rt:∀e∈l,1≤e.r∧e.r≤k∧e.r-1∉o
 ids:∀e∈l,1≤e.id∧e.id≤256∧e.id≤id
 xX:l.Pairwise fun a b=>a.id<b.id
 Fp:(l.map (·.r)).Nodup
theorem nZ(k:Nat)(len:Int)(hl:8≤len):∀(o:List Int) (T:Tp) (id:Int) (l:List Ed),o.Nodup→(∀x∈o,0≤x∧x<(k:Int))→QE k o id l→
  QE k [] (aX (cu k) len o T id l).2.1 (aX (cu k) len o T id l).1
 | [],T,id,l,_,_,h=>h
 | x::o,T,id,l,hn,hb,h=>by
   rw[List.nodup_cons]at hn
   rw[aX];have hbx:=hb x (by simp);refine nZ k len hl o _ _ _ hn.2 (fun y hy=>hb y (by simp[hy])) ?_;unfold aV;simp only;have h0:QE k o id l:=⟨h.pos,fun e he=>by have:=h.rt e he;simp at this;exact⟨this.1,this.2.1,this.2.2.2⟩,h.ids,h.xX,h.Fp⟩
   split
   ·exact h0
   ·have bp:1≤(aK (au T 4).2 [1,1,1,2,len-1]).1:=dA (p:=fun x=>1≤x) (by simp) (by simp;omega);simp only;generalize aK (au T 4).2 [1,1,1,2,len-1]=p at bp⊢;split
    ·rename_i hid;have hr:((cu k).getD x.toNat ⟨0,false⟩).id=x+1:=by rw[vT k (by omega)];omega
     rw[hr];refine⟨by have:=h.pos;first|omega|(simp only;omega),fun e he=>?_,fun e he=>?_,?_,?_⟩
     ·simp only[List.mem_append,List.mem_singleton]at he;rcases he with he|rfl
      ·exact h0.rt e he
      ·refine⟨by first|omega|(simp only;omega),by first|omega|(simp only;omega),?_⟩;rw[show(x+1-1:Int)=x by omega];exact hn.1
     ·simp only[List.mem_append,List.mem_singleton]at he;rcases he with he|rfl
      ·have:=h.ids e he;first|omega|(simp only;omega)
      ·have:=h.pos;first|omega|(simp only;omega)
     ·rw[List.pairwise_append];refine⟨h.xX,by simp,fun a ha b hb'=>?_⟩;simp at hb';subst hb';have:=h.ids a ha;first|omega|(simp only;omega)
     ·rw[List.map_append,List.nodup_append];refine⟨h.Fp,by simp,fun a ha b hb'=>?_⟩;simp at hb';subst hb';obtain⟨e,he,rfl⟩:=List.mem_map.1 ha;have:=(h.rt e he).2.2;intro e1;apply this;rw[e1];simp
    ·exact⟨by have:=h.pos;first|omega|(simp only;omega),h0.rt,fun e he=>by have:=h.ids e he;first|omega|(simp only;omega),h.xX,h.Fp⟩
theorem l7(T:Tp){k:Nat}(hk:k≤24):qW (cu k) (bJ T (cu k)).1:=by
 have hl:((8:Int)≤(aK (au T 3).2 [8,8,16,32,64]).1)∧aG (aK (au T 3).2 [8,8,16,32,64]).1=true:=dA (p:=fun x=>(8:Int)≤x∧aG x=true) (by simp) (by simp;decide);have h1:=aC T 3;have h2:=bg T (n:=3) (by omega);have hln:=qh T (cu k);rw[EY]at hln
 have hord:=lZ (aK (au T 3).2 [8,8,16,32,64]).2 k;have hnd:(bT (aK (au T 3).2 [8,8,16,32,64]).2 k).1.Nodup:=gQ _ _ _ _ (by simp) (by simp);have hI:=nZ k _ hl.1 _ (bT (aK (au T 3).2 [8,8,16,32,64]).2 k).2 0 [] hnd hord ⟨by omega,by simp,by simp,by simp,by simp⟩;refine⟨by simp only[bJ];omega,hl.2,by omega,fun e he=>?_,fun e he=>?_,?_,?_⟩
 ·have he':e∈(aX (cu k) (aK (au T 3).2 [8,8,16,32,64]).1 (bT (aK (au T 3).2 [8,8,16,32,64]).2 k).1 (bT (aK (au T 3).2 [8,8,16,32,64]).2 k).2 0 []).1:=by simpa[bJ]using he
  have:=hI.rt e he';omega
 ·have he':e∈(aX (cu k) (aK (au T 3).2 [8,8,16,32,64]).1 (bT (aK (au T 3).2 [8,8,16,32,64]).2 k).1 (bT (aK (au T 3).2 [8,8,16,32,64]).2 k).2 0 []).1:=by simpa[bJ]using he
  have:=hI.ids e he';omega
 ·simpa[bJ]using hI.xX
 ·simpa[bJ]using hI.Fp
end Go.Proofs

set_option maxRecDepth 100000
namespace Go.Proofs
open Go Go.Tr
theorem kV(T:Tp)(rs:List Rt):dh T rs 0=((bJ T rs).1,(bJ T rs).2.2):=by
 simp[dh]
structure QC(most:Int)(g:ay)(p:Pn)(l:List Tb):Prop where
 top:zq most g
 plan:d_ p=true
 len:aG p.len=true
 bF:0≤p.bF∧p.bF≤7
 tab:l=tabs g p g.rs
theorem qj{rs rs':List Rt}(h:rs.map (·.id)=rs'.map (·.id))(len x:Int)(T:Tp)(id:Int)(l:List Ed):aV rs len x T id l=aV rs' len x T id l:=by
 have e:∀i:Nat,(rs.getD i ⟨0,false⟩).id=(rs'.getD i ⟨0,false⟩).id:=fun i=>by
  have:=congrArg (fun l=>l[i]?) h;simp only[List.getElem?_map]at this;rw[List.getD_eq_getElem?_getD,List.getD_eq_getElem?_getD];cases h1:rs[i]? with
  | none=>
    rw[h1]at this
    cases h2:rs'[i]? with
    | none=>rfl
    | some y=>rw[h2]at this;simp at this
  | some x=>
    rw[h1]at this
    cases h2:rs'[i]? with
    | none=>rw[h2]at this;simp at this
    | some y=>rw[h2]at this;simpa using this
 unfold aV;simp only[e]
theorem jG{rs rs':List Rt}(h:rs.map (·.id)=rs'.map (·.id))(len:Int):∀(o:List Int) (T:Tp) (id:Int) (l:List Ed),aX rs len o T id l=aX rs' len o T id l
 | [],_,_,_=>rfl
 | x::o,T,id,l=>by
   rw[aX,aX,qj h,jG h]
theorem qg{rs rs':List Rt}(h:rs.map (·.id)=rs'.map (·.id))(T:Tp):bJ T rs=bJ T rs':=by
 have hl:rs.length=rs'.length:=by have:=congrArg List.length h;simpa using this
 unfold bJ;simp only[hl,jG h]
theorem qE{most:Int}{g:ay}(h:zq most g)(hm:most≤24)(T:Tp):qW (cu g.rs.length) (dh T g.rs 0).1:=by
 rw[kV]
 show qW _ (bJ T g.rs).1
 rw[qg h.ids];exact l7 T (by have:=h.n;omega)
theorem Dw{g:ay}(hg:cZ g=0){p:Pn}(hp:d_ p=true):nR (tabs g p g.rs)=0:=
 DW (Nat.le_trans (oU g p) (aU hg).nr) (m_ hg hp) (xH (aU hg) p) fun b hb c hc=>by
  have h1:=rW b hb;have h2:=rW c hc;exact⟨h1.1.trans h2.1.symm,h1.2.trans h2.2.symm⟩
theorem ny{l:List Tb}{r:Int}:(bH l r).isSome↔r∈l.map (·.r):=by
 rw[bH,List.find?_isSome];simp
theorem Uh{g:ay}(hg:cZ g=0){p:Pn}(hp:d_ p=true):DN p ((tabs g p g.rs).map (·.r)) (tabs g p g.rs):=
 ⟨Dw hg hp,m_ hg hp,rW,fun r=>ny,Nat.le_trans (oU g p) (aU hg).nr⟩
theorem um(T:Tp):∃(L m d s t e i p y:Int) (B:BitVec 64) (w:List Int) (T':Tp),Bg T=(⟨m,d,s,L,t,e,i,p,B,strOf w⟩,T')∧(1≤m∧m≤3)∧(0≤t∧t≤63)∧(0≤e∧e≤1023)∧(0≤i∧i≤256)∧(0≤p∧p≤7)∧(strOf w).size≤6∧ak T'=ak T:=by
 unfold Bg;dsimp only;refine⟨_,_,_,_,_,_,_,_,0,_,_,_,rfl,⟨aS _ _ _,aQ _ (by omega)⟩,dA (p:=fun x=>0≤x∧x≤63) (by simp) (by simp),⟨aC _ _,?_⟩,dA (p:=fun x=>0≤x∧x≤256) (by simp) (by simp),⟨aC _ _,?_⟩,?_,by simp⟩
 ·have:=bg (aK (aK (aT (aT (aK T [8,8,16,32,64]).2 1 3).2 0 7).2 [0,0,1,2,31]).2 [0,1,2,5,63]).2 (n:=1024) (by omega);omega
 ·exact Int.le_of_lt_add_one (bg _ (n:=8) (by omega))
 ·exact xR _ (by omega)
set_option maxHeartbeats 4000000
theorem yC(g:ay)(hg:g.Sm)(hc:cZ g=0)(p:Pn)(a1:d_ p=true)(hp:p.es.length≤1000):Contract Tryz.prog 54 [aH g,bI p] [] (.rG [.aB 6 (tabs g p g.rs).length,.d (.int .i64 0)]) [] [(6,.row 65 4 (dd (oq (tabs g p g.rs))) false)]:=by
 have hr:=hg.r;refine aj Tryz.func54 rfl (fun E0=>?_);refine cO.sound (g:=.mk) (ow:=[]) (kp:=(fun k=>k==0||k==1||k==2||k==3||k==4||k==5||k==6||k==7||k==15||k==20||k==28)) ?_;rw[Tryz.ntmps54];simp -dsimp[aH,bI];refine ah.of (oz g hg.r hg.l) [] 0 ?_;simp -dsimp[eq_true hc,aH];refine ah.of (uQ p hp) [] 0 ?_;have hn:g.rs.length≤24:=(aU hc).nr
 simp -dsimp[eq_true hc,a1,bI];and_intros;all_goals try first|rfl|omega|exact⟨by kernel_rfl⟩
 refine aN.of [] (fun k=>k==0||k==1||k==2||k==3||k==4||k==5||k==6||k==7||k==15||k==20||k==28) (ι:={i:Nat // i≤g.rs.length∧True}) (fun z=>[(Pl.s 0,It.v (.agg [TV.d (.sl (rts g.rs)),TV.d (.sl (dO g.ls))])),(Pl.s 1,It.v (.agg [TV.d (.int .i64 p.bF),TV.d (.int .i64 p.len),TV.d (.sl (rJ p.es))])),(Pl.o 2,It.box [TV.d (.sl (rts g.rs)),TV.d (.sl (dO g.ls))]),(Pl.s 2,It.v (.ptr (Pl.o 2) 0)),(Pl.o 3,It.box [TV.d (.int .i64 p.bF),TV.d (.int .i64 p.len),TV.d (.sl (rJ p.es))]),(Pl.s 3,It.v (.ptr (Pl.o 3) 0)),(Pl.s 4,It.v (.c (Value.slice none 0 0))),(Pl.s 5,It.v (.d (.int .i64 0))),(Pl.s 6,It.v (.aB 6 (yA g p (g.rs.take z.1)).length)),(Pl.o 6,It.row 65 4 (dd (yA g p (g.rs.take z.1))) false),(Pl.s 7,It.v (.d (.int .i64 z.1)))]) (fun z=>g.rs.length-z.1) ⟨0,by omega,trivial⟩ ?_ ?_
 ·exact GS.own' (k:=6) 65 4 (by simp) (by simp) (by simp[yA,tabs])
 rintro⟨i,i1,i2⟩;by_cases hi:i<g.rs.length
 ·have hiz:(i:Int)<g.rs.length:=by omega
  have hx:g.rs[i]? = some g.rs[i]:=List.getElem?_eq_getElem hi;have ht:g.rs.take (i+1)=g.rs.take i++[g.rs[i]]:=by rw[List.take_add_one,List.getElem?_eq_getElem hi];rfl
  generalize g.rs[i]=x at hx ht;have hx':=fF hx;have hta:=FN g p (g.rs.take i) x;have htl:=FP g p (g.rs.take i);rw[←ht]at hta
  simp at htl;rcases (Bool.eq_false_or_eq_true x.cap).symm with c1|c1
  ·rw[if_neg (by simp[c1])]at hta
   simp -dsimp[hiz,hx',Rt.cs,c1,wrap_i64 (n:=(i:Int)+1) (by omega) (by omega)];and_intros;all_goals try first|rfl|omega|exact⟨by kernel_rfl⟩
   exact⟨⟨i+1,by omega,trivial⟩,GS.to (by simp[hta]),by simp;omega⟩
  ·rw[if_pos c1]at hta
   simp -dsimp[hiz,hx',Rt.cs,c1];refine ah.of (BH g hg p (by omega) x.id) [] 0 ?_;simp -dsimp[hiz,hx',Rt.cs,c1,aH,bI,bZ,bV,wrap_i64 (n:=(i:Int)+1) (by omega) (by omega)];and_intros;all_goals try first|rfl|omega|exact⟨by kernel_rfl⟩
   exact⟨⟨i+1,by omega,trivial⟩,GS.to (by simp[hta,Tb.cs,bV]),by simp;omega⟩
 ·have hiz :¬(i:Int)<g.rs.length:=by omega
  obtain rfl:i=g.rs.length:=by omega
  simp -dsimp[hiz];refine Fin.of ?_;simp[yA,oq]
def fA(len set:Int):List Ed→Tp→BitVec 64→BitVec 64×Tp
 | [],T,B=>(B,T)
 | e::es,T,B=>if fJ e.id len=set then(if 0<(au T 4).1 then fA len set es (au T 4).2 (B|||lS (gG e.id len))else fA len set es (au T 4).2 B)else fA len set es T B
def jB(T:Tp)(p:Pn):Int×Tp:=if p.es = []then(0,T)else(fJ (p.es.getD (au T p.es.length).1.toNat ⟨0,0⟩).id p.len,(au T p.es.length).2)
def mM(T:Tp)(p:Pn):Pk×Tp:=
 let q:=bY T 0
 let s:=jB q.2 p
 let b:=fA p.len s.1 p.es s.2 0#64
 let o:=dD b.2 6
 if o.1=true then(q.1.for p.bF p.len s.1 (b.1|||(kE o.2 p.len).1),(kE o.2 p.len).2)else(q.1.for p.bF p.len s.1 b.1,o.2)
theorem jq(len set:Int):∀(es:List Ed) (T:Tp) (B:BitVec 64),ak (fA len set es T B).2=ak T
 | [],_,_=>rfl
 | e::es,T,B=>by
   rw[fA];split
   ·split
    ·rw[jq];simp
    ·rw[jq];simp
   ·exact jq len set es T B
theorem yK(T:Tp)(p:Pn):ak (jB T p).2=ak T:=by
 unfold jB;split
 ·rfl
 ·simp
theorem yM(T:Tp)(p:Pn):ak (mM T p).2=ak T:=by
 unfold mM;simp only;split<;>simp[jq,yK]
theorem Ih(T:Tp)(hT:ak T)(p:Pn)(hp:p.es.length≤1000)(l0:p.len≠0)(hl:I64 p.len):Contract Tryz.prog 29 [.ptr (.x 0) 0,bI p] [aJ T] (dX (mM T p).1) [aJ (mM T p).2] []:=by
 refine aj Tryz.func29 rfl (fun E0=>?_);refine cO.sound (g:=.mk) (ow:=[]) (kp:=(fun k=>k==0||k==1||k==3||k==4||k==5||k==6||k==7||k==8||k==23||k==28||k==51||k==75||k==83)) ?_;rw[Tryz.ntmps29];simp -dsimp[bI];try refine⟨?_,⟨by kernel_rfl⟩⟩
 refine ah.of (wC T hT 0 ⟨by omega,by omega⟩) [.x 0] 0 ?_;have kQ:ak (bY T 0).2:=by simpa using hT
 unfold mM;simp only;generalize bY T 0=q at kQ⊢;obtain⟨q,T1⟩:=q;simp only at kQ⊢;simp only[dX,Pk.cs,List.map];by_cases e0:p.es = []
 ·have eS:jB T1 p=(0,T1):=by rw[jB,if_pos e0]
  rw[eS];simp -dsimp[l0,e0];try refine⟨?_,⟨by kernel_rfl⟩⟩
  refine aN.of [] (fun k=>k==0||k==1||k==3||k==4||k==5||k==6||k==7||k==8||k==23||k==28||k==51||k==75||k==83) (ι:={z:Nat×Tp×BitVec 64 // z.1≤p.es.length∧ak z.2.1∧fA p.len 0 p.es T1 0#64=fA p.len 0 (p.es.drop z.1) z.2.1 z.2.2})
   (fun z=>[(Pl.s 0,It.v (.ptr (Pl.x 0) 0)),(Pl.x 0,aJ z.1.2.1),(Pl.o 3,It.box [TV.d (.int .i64 p.bF),TV.d (.int .i64 p.len),TV.d (.sl (rJ p.es))]),(Pl.s 3,It.v (.ptr (Pl.o 3) 0)),
    (Pl.o 4,It.box [TV.d (.int .i64 0),TV.d (.int .i64 0),TV.d (.int .i64 0),TV.d (.int .i64 0),TV.d (.int .i64 0),TV.d (.int .i64 0),TV.d (.int .i64 0),TV.d (.int .i64 0),TV.d (.int IntKind.u64 0),TV.d (.str ⟨#[]⟩)]),
    (Pl.s 4,It.v (.ptr (Pl.o 4) 0)),
    (Pl.o 5,It.box [TV.d (.int .i64 1),TV.d (.int .i64 p.bF),TV.d (.int .i64 0),TV.d (.int .i64 p.len),TV.d (.int .i64 q.ttl),TV.d (.int .i64 q.ent),TV.d (.int .i64 q.ing),TV.d (.int .i64 q.proto),TV.d (.int IntKind.u64 (tn z.1.2.2)),TV.d (.str q.pay)]),
    (Pl.s 5,It.v (.ptr (Pl.o 5) 0)),(Pl.s 6,It.v (.d (.int .i64 z.1.1)))])
   (fun z=>p.es.length-z.1.1) ⟨(0,T1,0#64),by simp,kQ,rfl⟩ ?_ ?_
  ·exact GS.to (by simp[e0])
  generalize fA p.len 0 p.es T1 0#64=X;rintro⟨⟨i,T3,B⟩,i1,i2,i3⟩;simp only at i1 i2 i3;by_cases hi:i<p.es.length
  ·have hiz:(i:Int)<p.es.length:=by omega
   have hg:p.es[i]? = some p.es[i]:=List.getElem?_eq_getElem hi;have hd:p.es.drop i=p.es[i]::p.es.drop (i+1):=List.drop_eq_getElem_cons hi;generalize p.es[i]=y at hg hd;have hg':=mP hg;rw[hd,fA]at i3
   have pb:=plB y.id p.len;have hbc:=uD (gG y.id p.len);simp -dsimp[hiz,hg',Ed.cs];try refine⟨?_,⟨by kernel_rfl⟩⟩
   and_intros;all_goals try first|rfl|omega|exact⟨by kernel_rfl⟩
   refine ah.of (kU y.id p.len) [] 0 ?_;simp only[eH];generalize fJ y.id p.len=sy at i3 pb;generalize gG y.id p.len=QS at i3 pb hbc;by_cases c0:sy=0
   ·rw[if_pos c0]at i3
    simp -dsimp[hiz,hg',Ed.cs,eH,eq_true c0];try refine⟨?_,⟨by kernel_rfl⟩⟩
    refine ah.of (bn T3 i2 4 ⟨by omega,by omega⟩) [.x 0] 0 ?_;have n1:=aC T3 4;have kS:ak (au T3 4).2:=by simpa using i2
    generalize au T3 4=m4 at n1 kS i3⊢;obtain⟨m4,T4⟩:=m4;simp only at n1 kS i3⊢;by_cases c1:0<m4
    ·rw[if_pos c1]at i3
     simp -dsimp[c1];try refine⟨?_,⟨by kernel_rfl⟩⟩
     refine ah.of hbc [] 0 ?_;simp -dsimp[bv,wrap_i64 (n:=(i:Int)+1) (by omega) (by omega)];try refine⟨?_,⟨by kernel_rfl⟩⟩
     and_intros;all_goals try first|rfl|omega|exact⟨by kernel_rfl⟩
     exact⟨⟨(i+1,T4,B|||lS QS),by dsimp only;omega,kS,i3⟩,GS.to (by simp),by simp;omega⟩
    ·rw[if_neg c1]at i3
     simp -dsimp[c1,wrap_i64 (n:=(i:Int)+1) (by omega) (by omega)];try refine⟨?_,⟨by kernel_rfl⟩⟩
     and_intros;all_goals try first|rfl|omega|exact⟨by kernel_rfl⟩
     exact⟨⟨(i+1,T4,B),by dsimp only;omega,kS,i3⟩,GS.to (by simp),by simp;omega⟩
   ·rw[if_neg c0]at i3
    simp -dsimp[hiz,hg',Ed.cs,eH,eq_false c0,wrap_i64 (n:=(i:Int)+1) (by omega) (by omega)];try refine⟨?_,⟨by kernel_rfl⟩⟩
    and_intros;all_goals try first|rfl|omega|exact⟨by kernel_rfl⟩
    exact⟨⟨(i+1,T3,B),by dsimp only;omega,i2,i3⟩,GS.to (by simp),by simp;omega⟩
  ·have hiz :¬(i:Int)<p.es.length:=by omega
   have e1:p.es.drop i = []:=List.drop_eq_nil_of_le (by omega);rw[e1,fA]at i3
   subst i3;simp -dsimp[hiz];try refine⟨?_,⟨by kernel_rfl⟩⟩
   refine ah.of (gK T3 i2 6 ⟨by omega,by omega⟩ ⟨by omega,by omega⟩) [.x 0] 0 ?_;have kO:ak (dD T3 6).2:=by simpa using i2
   generalize dD T3 6=o at kO⊢;obtain⟨o,T5⟩:=o;simp only at kO⊢;rcases (Bool.eq_false_or_eq_true o).symm with ho|ho
   ·subst ho;simp -dsimp;try refine⟨?_,⟨by kernel_rfl⟩⟩
    refine Fin.box (.o 4) rfl ?_;simp -dsimp;try refine⟨?_,⟨by kernel_rfl⟩⟩
    refine Fin.of ?_;simp[Pk.for,bv]
   ·subst ho;simp -dsimp;try refine⟨?_,⟨by kernel_rfl⟩⟩
    refine ah.of (zF T5 kO p.len hl) [.x 0] 0 ?_;generalize kE T5 p.len=gb;simp -dsimp[bv];try refine⟨?_,⟨by kernel_rfl⟩⟩
    refine Fin.box (.o 4) rfl ?_;simp -dsimp;try refine⟨?_,⟨by kernel_rfl⟩⟩
    refine Fin.of ?_;simp[Pk.for,bv]
 ·have eS:jB T1 p=(fJ (p.es.getD (au T1 p.es.length).1.toNat ⟨0,0⟩).id p.len,(au T1 p.es.length).2):=by rw[jB,if_neg e0]
  have hlen:0<p.es.length:=List.length_pos_iff.2 e0;rw[eS];simp -dsimp[l0,e0,hlen];try refine⟨?_,⟨by kernel_rfl⟩⟩
  and_intros;all_goals try first|rfl|omega|exact⟨by kernel_rfl⟩
  refine ah.of (bn T1 kQ p.es.length ⟨by omega,by omega⟩) [.x 0] 0 ?_;have m1:=aC T1 p.es.length;have m2:=bg T1 (n:=p.es.length) (by omega);have kN:ak (au T1 p.es.length).2:=by simpa using kQ
  clear eS;generalize au T1 p.es.length=m at m1 m2 kN⊢;obtain⟨m,T2⟩:=m;simp only at m1 m2 kN⊢;obtain⟨j,rfl⟩:∃j:Nat,m=j:=⟨m.toNat,by omega⟩
  have hj:j<p.es.length:=by omega
  have hx:p.es[j]? = some p.es[j]:=List.getElem?_eq_getElem hj;have hgd:p.es.getD ((j:Int)).toNat ⟨0,0⟩ = p.es[j]:=by rw[List.getD_eq_getElem?_getD,show((j:Int)).toNat=j by omega,hx];rfl
  rw[hgd];generalize p.es[j]=x at hx;have hx':=mP hx;simp -dsimp[l0,e0,hlen,hx',Ed.cs];try refine⟨?_,⟨by kernel_rfl⟩⟩
  and_intros;all_goals try first|rfl|omega|exact⟨by kernel_rfl⟩
  refine ah.of (kU x.id p.len) [] 0 ?_;simp only[eH];generalize fJ x.id p.len=S;simp -dsimp[l0,e0,eH];try refine⟨?_,⟨by kernel_rfl⟩⟩
  refine aN.of [] (fun k=>k==0||k==1||k==3||k==4||k==5||k==6||k==7||k==8||k==23||k==28||k==51||k==75||k==83) (ι:={z:Nat×Tp×BitVec 64 // z.1≤p.es.length∧ak z.2.1∧fA p.len S p.es T2 0#64=fA p.len S (p.es.drop z.1) z.2.1 z.2.2})
   (fun z=>[(Pl.s 0,It.v (.ptr (Pl.x 0) 0)),(Pl.x 0,aJ z.1.2.1),(Pl.o 3,It.box [TV.d (.int .i64 p.bF),TV.d (.int .i64 p.len),TV.d (.sl (rJ p.es))]),(Pl.s 3,It.v (.ptr (Pl.o 3) 0)),
    (Pl.o 4,It.box [TV.d (.int .i64 0),TV.d (.int .i64 0),TV.d (.int .i64 0),TV.d (.int .i64 0),TV.d (.int .i64 0),TV.d (.int .i64 0),TV.d (.int .i64 0),TV.d (.int .i64 0),TV.d (.int IntKind.u64 0),TV.d (.str ⟨#[]⟩)]),
    (Pl.s 4,It.v (.ptr (Pl.o 4) 0)),
    (Pl.o 5,It.box [TV.d (.int .i64 1),TV.d (.int .i64 p.bF),TV.d (.int .i64 S),TV.d (.int .i64 p.len),TV.d (.int .i64 q.ttl),TV.d (.int .i64 q.ent),TV.d (.int .i64 q.ing),TV.d (.int .i64 q.proto),TV.d (.int IntKind.u64 (tn z.1.2.2)),TV.d (.str q.pay)]),
    (Pl.s 5,It.v (.ptr (Pl.o 5) 0)),(Pl.s 6,It.v (.d (.int .i64 z.1.1)))])
   (fun z=>p.es.length-z.1.1) ⟨(0,T2,0#64),by simp,kN,rfl⟩ ?_ ?_
  ·exact GS.to (by simp[e0])
  generalize fA p.len S p.es T2 0#64=X;rintro⟨⟨i,T3,B⟩,i1,i2,i3⟩;simp only at i1 i2 i3;by_cases hi:i<p.es.length
  ·have hiz:(i:Int)<p.es.length:=by omega
   have hg:p.es[i]? = some p.es[i]:=List.getElem?_eq_getElem hi;have hd:p.es.drop i=p.es[i]::p.es.drop (i+1):=List.drop_eq_getElem_cons hi;generalize p.es[i]=y at hg hd;have hg':=mP hg;rw[hd,fA]at i3
   have pb:=plB y.id p.len;have hbc:=uD (gG y.id p.len);simp -dsimp[hiz,hg',Ed.cs];try refine⟨?_,⟨by kernel_rfl⟩⟩
   and_intros;all_goals try first|rfl|omega|exact⟨by kernel_rfl⟩
   refine ah.of (kU y.id p.len) [] 0 ?_;simp only[eH];generalize fJ y.id p.len=sy at i3 pb;generalize gG y.id p.len=QS at i3 pb hbc;by_cases c0:sy=S
   ·rw[if_pos c0]at i3
    simp -dsimp[hiz,hg',Ed.cs,eH,eq_true c0];try refine⟨?_,⟨by kernel_rfl⟩⟩
    refine ah.of (bn T3 i2 4 ⟨by omega,by omega⟩) [.x 0] 0 ?_;have n1:=aC T3 4;have kS:ak (au T3 4).2:=by simpa using i2
    generalize au T3 4=m4 at n1 kS i3⊢;obtain⟨m4,T4⟩:=m4;simp only at n1 kS i3⊢;by_cases c1:0<m4
    ·rw[if_pos c1]at i3
     simp -dsimp[c1];try refine⟨?_,⟨by kernel_rfl⟩⟩
     refine ah.of hbc [] 0 ?_;simp -dsimp[bv,wrap_i64 (n:=(i:Int)+1) (by omega) (by omega)];try refine⟨?_,⟨by kernel_rfl⟩⟩
     and_intros;all_goals try first|rfl|omega|exact⟨by kernel_rfl⟩
     exact⟨⟨(i+1,T4,B|||lS QS),by dsimp only;omega,kS,i3⟩,GS.to (by simp),by simp;omega⟩
    ·rw[if_neg c1]at i3
     simp -dsimp[c1,wrap_i64 (n:=(i:Int)+1) (by omega) (by omega)];try refine⟨?_,⟨by kernel_rfl⟩⟩
     and_intros;all_goals try first|rfl|omega|exact⟨by kernel_rfl⟩
     exact⟨⟨(i+1,T4,B),by dsimp only;omega,kS,i3⟩,GS.to (by simp),by simp;omega⟩
   ·rw[if_neg c0]at i3
    simp -dsimp[hiz,hg',Ed.cs,eH,eq_false c0,wrap_i64 (n:=(i:Int)+1) (by omega) (by omega)];try refine⟨?_,⟨by kernel_rfl⟩⟩
    and_intros;all_goals try first|rfl|omega|exact⟨by kernel_rfl⟩
    exact⟨⟨(i+1,T3,B),by dsimp only;omega,i2,i3⟩,GS.to (by simp),by simp;omega⟩
  ·have hiz :¬(i:Int)<p.es.length:=by omega
   have e1:p.es.drop i = []:=List.drop_eq_nil_of_le (by omega);rw[e1,fA]at i3
   subst i3;simp -dsimp[hiz];try refine⟨?_,⟨by kernel_rfl⟩⟩
   refine ah.of (gK T3 i2 6 ⟨by omega,by omega⟩ ⟨by omega,by omega⟩) [.x 0] 0 ?_;have kO:ak (dD T3 6).2:=by simpa using i2
   generalize dD T3 6=o at kO⊢;obtain⟨o,T5⟩:=o;simp only at kO⊢;rcases (Bool.eq_false_or_eq_true o).symm with ho|ho
   ·subst ho;simp -dsimp;try refine⟨?_,⟨by kernel_rfl⟩⟩
    refine Fin.box (.o 4) rfl ?_;simp -dsimp;try refine⟨?_,⟨by kernel_rfl⟩⟩
    refine Fin.of ?_;simp[Pk.for,bv]
   ·subst ho;simp -dsimp;try refine⟨?_,⟨by kernel_rfl⟩⟩
    refine ah.of (zF T5 kO p.len hl) [.x 0] 0 ?_;generalize kE T5 p.len=gb;simp -dsimp[bv];try refine⟨?_,⟨by kernel_rfl⟩⟩
    refine Fin.box (.o 4) rfl ?_;simp -dsimp;try refine⟨?_,⟨by kernel_rfl⟩⟩
    refine Fin.of ?_;simp[Pk.for,bv]
noncomputable def jU(g:ay)(l:List Tb)(k:Nat):Nat→Int×Fr→dQ
 | 0,_=>gX
 | n+1,(r,⟨x::w,p⟩)=>if(price g.ls r x).isSome then(⟨[],[(r,x,p.bits)],[]⟩:dQ).app (jU g l k n (x,⟨w,p⟩))else ⟨[],[],[(r,p.bits)]⟩
 | n+1,(r,⟨[],p⟩)=>match bH l r with
   | none=>⟨[],[],[(r,p.bits)]⟩
   | some b=>if aF b p k=0 then ⟨[],[],[(r,(iD g l (r,⟨[],p⟩)).lost)]⟩
     else if aF b p k=b.r then ⟨[(r,f_ p k)],[],[]⟩
     else if p.ttl=0 then ⟨[],[],[(r,(iD g l (r,⟨[],p⟩)).lost)]⟩
     else match jZ g r (aF b p k,qJ b p (aF b p k))with
      | none=>⟨[],[],[(r,(iD g l (r,⟨[],p⟩)).lost)]⟩
      | some x=>(⟨[],[(r,x.1,x.2.pk.bits)],[]⟩:dQ).app (jU g l k n x)
theorem pU(g:ay)(l:List Tb)(k n:Nat)(r x:Int)(w:List Int)(p:Pk):jU g l k (n+1) (r,⟨x::w,p⟩) =
  if(price g.ls r x).isSome then(⟨[],[(r,x,p.bits)],[]⟩:dQ).app (jU g l k n (x,⟨w,p⟩))else ⟨[],[],[(r,p.bits)]⟩:=by rw[jU]
theorem oJ{g:ay}{l:List Tb}{k n:Nat}{r:Int}{p:Pk}(h:bH l r=none):jU g l k (n+1) (r,⟨[],p⟩)=⟨[],[],[(r,p.bits)]⟩:=by rw[jU];simp only[h]
theorem iU{g:ay}{l:List Tb}{k n:Nat}{r:Int}{p:Pk}{b:Tb}(h:bH l r=some b):jU g l k (n+1) (r,⟨[],p⟩) =
  if aF b p k=0 then ⟨[],[],[(r,(iD g l (r,⟨[],p⟩)).lost)]⟩
   else if aF b p k=b.r then ⟨[(r,f_ p k)],[],[]⟩
   else if p.ttl=0 then ⟨[],[],[(r,(iD g l (r,⟨[],p⟩)).lost)]⟩
   else match jZ g r (aF b p k,qJ b p (aF b p k))with
    | none=>⟨[],[],[(r,(iD g l (r,⟨[],p⟩)).lost)]⟩
    | some x=>(⟨[],[(r,x.1,x.2.pk.bits)],[]⟩:dQ).app (jU g l k n x):=by rw[jU];simp only[h]
def iJ(f:Fr):Nat:=f.pk.ttl.toNat*26+f.rt.length+1
noncomputable def alg(g:ay)(l:List Tb)(k:Nat):List (Int×Fr)→dQ
 | []=>gX
 | q::_=>jU g l k (iJ q.2) q
theorem AY{g:ay}{l:List Tb}{q:Int×Fr}(h:w_ g l q)(hloc:∀k<64,(iD g l q).loc.getLsbD k=true→q.2.pk.bits.getLsbD k=true)(t:dQ){k:Nat}(hk:k<64):
  (jw g l q t).at k=(t.at k).app ⟨if(iD g l q).loc.getLsbD k=true then [(q.1,f_ q.2.pk k)]else [],((eP g l q).filter fun c=>c.2.pk.bits.getLsbD k).map (fun c=>(q.1,c.1,c.2.pk.bits)),if(iD g l q).lost.getLsbD k=true then [(q.1,(iD g l q).lost)]else []⟩:=by
 simp only[jw,dQ.at,dQ.app,List.filter_append];rw[Au,Gx h.fit.ok hloc q.1 hk,Gy,List.filter_map];rfl
theorem Je{g:ay}{l:List Tb}{q:Int×Fr}(h:w_ g l q)(t:dQ){k:Nat}(hk:k<64)(hq:q.2.pk.bits.getLsbD k=true){m:Nat}(hm:iJ q.2≤m+1):
  ((eP g l q).filter fun c=>c.2.pk.bits.getLsbD k).length≤1∧(∀c∈(eP g l q).filter fun c=>c.2.pk.bits.getLsbD k,iJ c.2≤m)∧
  ((jw g l q t).at k).app (match (eP g l q).filter fun c=>c.2.pk.bits.getLsbD k with|[]=>gX|c::_=>jU g l k m c)=(t.at k).app (jU g l k (m+1) q):=by
 rw[AY h (Dh h) t hk,dQ.zC];obtain⟨r,f,p⟩:=q;cases f with
 | cons n w=>
   unfold eP;rw[pJ h];simp only at hq;rw[pU];unfold qP;split
   ·simp only[iJ,List.length_cons]at hm;simp[List.filter_cons,hq,dQ.app,gX,iJ];omega
   ·simp[hq,dQ.app,gX]
 | nil=>
   simp only at hq;cases hf:bH l r with
   | none=>
     unfold eP;rw[uO h hf,oJ hf];simp[hq,dQ.app,gX]
   | some b=>
     have hb:=h.fit.all b (eY hf).1;obtain⟨hl,hn,hs⟩:=Df h hf hk;simp only[hq,true_and]at hl hn hs;rw[hn,iU hf];by_cases c0:aF b p k=0
     ·have l1 :¬(iD g l (r,⟨[],p⟩)).loc.getLsbD k=true:=fun a=>(hl.1 a).1 c0
      have l2:(iD g l (r,⟨[],p⟩)).lost.getLsbD k=true:=hs.2 (.inl c0);rw[if_neg l1,if_neg (fun a=>a.2.1 c0),if_pos l2,if_pos c0];simp[dQ.app,gX]
     by_cases c1:aF b p k=b.r
     ·have l1:(iD g l (r,⟨[],p⟩)).loc.getLsbD k=true:=hl.2 ⟨c0,c1⟩;have l2 :¬(iD g l (r,⟨[],p⟩)).lost.getLsbD k=true:=fun a=>by
       rcases hs.1 a with a|a
       ·exact c0 a
       ·exact a.1 c1
      rw[if_pos l1,if_neg (fun a=>a.2.2 c1),if_neg l2,if_neg c0,if_pos c1];simp[dQ.app,gX]
     have l1 :¬(iD g l (r,⟨[],p⟩)).loc.getLsbD k=true:=fun a=>c1 (hl.1 a).2
     by_cases c2:p.ttl=0
     ·have l2:(iD g l (r,⟨[],p⟩)).lost.getLsbD k=true:=hs.2 (.inr ⟨c1,.inl c2⟩);rw[if_neg l1,if_neg (fun a=>a.1 c2),if_pos l2,if_neg c0,if_neg c1,if_pos c2];simp[dQ.app,gX]
     ·rw[if_neg l1,if_pos ⟨c2,c0,c1⟩,if_neg c0,if_neg c1,if_neg c2];cases hx:jZ g r (aF b p k,qJ b p (aF b p k))with
      | none=>
        have l2:(iD g l (r,⟨[],p⟩)).lost.getLsbD k=true:=hs.2 (.inr ⟨c1,.inr hx⟩);rw[if_pos l2];simp[dQ.app,gX]
      | some x=>
        have l2 :¬(iD g l (r,⟨[],p⟩)).lost.getLsbD k=true:=fun a=>by
         rcases hs.1 a with a|a
         ·exact c0 a
         ·rcases a.2 with a|a
          ·exact c2 a
          ·rw[hx]at a;simp at a
        rw[if_neg l2];have ht:=qA h.fit.ok;simp only at ht;obtain⟨x1,x2,x3⟩:=qU hx;have e:(qJ b p (aF b p k)).ttl.toNat+1=p.ttl.toNat:=by simp only[qJ,ji];omega
        simp only[Option.toList_some,List.length_singleton,List.mem_singleton,forall_eq,List.map_cons,List.map_nil];refine⟨by omega,?_,?_⟩
        ·simp only[iJ,x1,List.length_nil]at hm⊢;omega
        ·simp[dQ.app]
theorem FM{g:ay}{l:List Tb}{q:Int×Fr}(h:w_ g l q)(t:dQ){k:Nat}(hk:k<64)(hq :¬q.2.pk.bits.getLsbD k=true):
  ((eP g l q).filter fun c=>c.2.pk.bits.getLsbD k) = []∧(jw g l q t).at k=t.at k:=by
 rw[AY h (Dh h) t hk];obtain⟨r,f,p⟩:=q;simp only[Bool.not_eq_true]at hq;cases f with
 | cons n w=>
   unfold eP;rw[pJ h];unfold qP;split
   ·simp[List.filter_cons,hq,dQ.app]
   ·simp[hq,dQ.app]
 | nil=>
   cases hf:bH l r with
   | none=>
     unfold eP;rw[uO h hf];simp[hq,dQ.app]
   | some b=>
     obtain⟨hl,hn,hs⟩:=Df h hf hk;simp only[hq,Bool.false_eq_true,false_and,iff_false,if_false]at hl hn hs;rw[hn,if_neg hl,if_neg hs];exact⟨rfl,by simp[dQ.app]⟩
theorem vF(g:ay)(l:List Tb){k:Nat}(hk:k<64):∀(n:Nat) (Q:List (Int×Fr)) (t:dQ) (m:Nat),tH Q≤n→(∀q∈Q,w_ g l q)→(Q.filter fun c=>c.2.pk.bits.getLsbD k).length≤1→
  (∀q∈Q.filter (fun c=>c.2.pk.bits.getLsbD k),iJ q.2≤m)→
  (pR g l n Q t).at k=(t.at k).app (match Q.filter fun c=>c.2.pk.bits.getLsbD k with|[]=>gX|c::_=>jU g l k m c)
 | 0,Q,t,m,h,_,_,_=>by
   have:=xC Q;obtain rfl:Q = []:=List.length_eq_zero_iff.1 (by omega);simp[lN,dQ.u_]
 | n+1,[],t,m,_,_,_,_=>by simp[lN,dQ.u_]
 | n+1,q::Q,t,m,h,hF,h1,h2=>by
   have hq:=yY g l q;rw[tq]at h
   have MB:=hF q (by simp);have hF':∀c∈Q++eP g l q,w_ g l c:=fun c hc=>by
    rcases List.mem_append.1 hc with hc|hc
    ·exact hF c (by simp[hc])
    ·exact yZ MB c hc
   rw[pR];have hw:tH (Q++eP g l q)≤n:=by rw[xI];omega
   by_cases hb:q.2.pk.bits.getLsbD k=true
   ·rw[List.filter_cons,if_pos hb]at h1 h2⊢
    simp only[List.length_cons]at h1;have hQ:Q.filter (fun c=>c.2.pk.bits.getLsbD k) = []:=List.length_eq_zero_iff.1 (by omega);have hm:=h2 q (by simp);obtain⟨m',rfl⟩:∃m',m=m'+1:=⟨m-1,by unfold iJ at hm;omega⟩
    obtain⟨a1,a3,a2⟩:=Je MB t hk hb hm;rw[vF g l hk n _ _ m' hw hF' (by rw[List.filter_append,hQ];simpa using a1) (by rw[List.filter_append,hQ,List.nil_append];exact a3),List.filter_append,hQ,List.nil_append,a2]
   ·rw[List.filter_cons,if_neg hb]at h1 h2⊢
    obtain⟨a1,a2⟩:=FM MB t hk hb;rw[vF g l hk n _ _ m hw hF' (by rw[List.filter_append,a1,List.append_nil];exact h1) (by rw[List.filter_append,a1,List.append_nil];exact h2),List.filter_append,a1,List.append_nil,a2]
theorem GZ{g:ay}{l:List Tb}{r:Int}{p:Pk}(h:w_ g l (r,⟨[],p⟩)){k:Nat}(hk:k<64)(hb:p.bits.getLsbD k=true):(runT g l r p).at k=jU g l k (iJ ⟨[],p⟩) (r,⟨[],p⟩):=by
 unfold runT;rw[vF g l hk _ _ _ (iJ ⟨[],p⟩) (by simp[tH]) (by simpa using h) (by simp[List.filter_cons];split<;>simp) (by simp[List.filter_cons,hb])];simp[List.filter_cons,hb,dQ.at,gX,dQ.app]
theorem Dq{g:ay}{l:List Tb}{r:Int}{p:Pk}(h:w_ g l (r,⟨[],p⟩)){k:Nat}(hk:k<64)(hb :¬p.bits.getLsbD k=true):(runT g l r p).at k=gX:=by
 unfold runT;rw[vF g l hk _ _ _ (iJ ⟨[],p⟩) (by simp[tH]) (by simpa using h) (by simp[List.filter_cons,hb]) (by simp[List.filter_cons,hb])];simp[List.filter_cons,hb,dQ.at,gX,dQ.app]
end Go.Proofs
