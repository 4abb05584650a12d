/-
  What functions of the program compute, stated as contracts over plain data; the conditions of each stand in its own statement.
-/
import Derived.Test.YtboimfkommpglaaGreatDoorZA12
import Derived.Lib.SlicesCompact
import Derived.Test.YtboimfkommpglaaGreatDoorZA11
set_option linter.unusedSimpArgs false
namespace Go.Tr
open Go
section
variable {P:Program} {A:eX}
theorem GS.wI{t:S}{id k:Nat}{e:TypeId}{es:List (List TV)}(ht:t (.o id) = .row e k es false)(hn:0<es.length):GS A t (upd t (.o id) (.wI e k es)):=fun a w ⟨E,hw,hi⟩=>by
 obtain⟨h0,v,us,h1,h2,h3,_⟩:=Ec hi ht;have hit:zB E (.o id) (.wI e k es):=by
  rcases h2.2 with⟨_,h4⟩|⟨g,cap,cur,rfl,_,hg,hnc,hcm,hcs,htk⟩
  ·omega
  ·exact⟨h0,id,_,us,rfl,h1,⟨h2.1,g,0,cap,cur,rfl,hg,hnc,hcm,by rw[hcs,Nat.zero_add];exact Nat.le_refl _,by rw[List.drop_zero];exact htk⟩,h3⟩
 refine⟨E,hw,⟨⟨fun p hp=>?_,hi.h.frees,hi.h.inj,hi.h.size,hi.h.oQ,fun b o hb p hp=>?_,hi.h.gl⟩,hi.fr,fun j tv hj=>hi.sl j tv (by simpa[upd]using hj),hi.defers,hi.size⟩⟩
 ·by_cases e:p = .o id
  ·subst e;simpa only[upd,if_true]using hit
  ·simp only[upd,if_neg e];exact hi.h.item p hp
 ·obtain⟨e2,k2,es2,g1,g2⟩:=hi.h.sep b o hb p hp;have:p≠.o id:=fun e=>by subst e;rw[ht]at g1;simp at g1
  exact⟨e2,k2,es2,by simp only[upd,if_neg this];exact g1,g2⟩
theorem afR{E E':En}(hr:J_ E E'){us:List Value}{k j:Nat}{xs:List (List D)}(h:dK E us k 0 (dd xs)):dK E' (us.drop (j*k)) k 0 (dd (xs.drop j)):=by
 refine dK.fZ fun i c hc=>?_
 simp only[dd,List.getElem?_map,List.getElem?_drop,Option.map_eq_some_iff]at hc;obtain⟨d,h1,rfl⟩:=hc;obtain⟨h2,h3⟩:=h.get (i:=j+i) (e:=d.map .d) (by simp[dd,h1]);refine⟨h2,bG.fZ fun q tv hq=>?_⟩;obtain⟨u,h4,h5,h6⟩:=h3.get hq;refine⟨u,?_,h5,?_⟩
 ·rw[List.getElem?_drop,←h4];congr 1;rw[Nat.add_mul];omega
 ·simp only[List.getElem?_map,Option.map_eq_some_iff]at hq;obtain⟨x,_,rfl⟩:=hq;simp only[aA]at h6⊢;exact Rep.ext hr x u h6
def isS(k:Nat):Pl→Bool
 | .s j=>k==j
 | _=>false
def isO(k:Nat):Pl→Bool
 | .o j=>k==j
 | _=>false
def WC(s id:Nat):List (Pl×It)→List (Pl×It)
 | []=>[]
 | x::l=>if isS s x.1||isO id x.1 then WC s id l else x::WC s id l
theorem GS.cut{l l':List (Pl×It)}(l0:List (Pl×It))(s id:Nat){n j k:Nat}{e:TypeId}{xs:List (List D)}(hs:look l (.s s) = .v (.NS id n j))(ht:look l (.o id) = .wI e k (dd xs))(hn:n=xs.length)(hj:j≤n)
  (h:Sub (look l) l0∧jP l0=jP l) (hid:id∉jy l0)
  (h':Sub (look (iI (.s s) (.v (.aB id (n-j))) (iI (.o id) (.wI e k (dd (xs.drop j))) l0))) l'∧jP l'=jP (iI (.s s) (.v (.aB id (n-j))) (iI (.o id) (.wI e k (dd (xs.drop j))) l0))):GS A (look l) (look l'):=by
 refine GS.trans (u:=look (iI (.s s) (.v (.aB id (n-j))) (iI (.o id) (.wI e k (dd (xs.drop j))) l0))) (fun a w ⟨E,hw,hi⟩=>?_) (GS.forget h'.1 h'.2);have hi1:=hi.forget h.1 (abq h.1.1 h.2);obtain⟨hblk,v,us,hval,hown,hrel,_⟩:=JD hi ht;obtain⟨u,hu1,hu2⟩:=hi.sl s _ hs;have hlen:(dd xs).length=xs.length:=by simp[dd]
 rw[hlen]at hval hown
 subst hn;simp only[aA]at hu2;obtain⟨hone,k',c,v',hv',_,he⟩:=hu2;rw[hval]at hv'
 simp only[Option.some.injEq,Prod.mk.injEq]at hv';obtain⟨rfl,rfl,rfl⟩:=hv';obtain⟨b,of,cp,o2,rfl,_,ho2,hu⟩:=he rfl;obtain⟨hl0,g,of',cap,cur,hvv,hg,hnc,hcm,hcs,htk⟩:=hown;simp only[Value.slice.injEq,Option.some.injEq,Addr.mk.injEq]at hvv;obtain⟨⟨rfl,rfl,_⟩,_,rfl⟩:=hvv;have abL:E.own (.o id)=some b:=by simp[En.own,hblk,hval,Value.ownBlock]
 rw[←eU,←eU]
 let E1:=E.res (jy l0)
 have b1:E1.blk (.o id)=none:=by simp[E1,En.res,hid]
 have v1:E1.val id=none:=by simp[E1,En.res,hid]
 let E2:En:={E1 with val:=fun i=>if i=id then some (k,xs.length-j,u)else E1.val i}
 have v2:E2.val id=some (k,xs.length-j,u):=by simp[E2]
 have x12:qN E1 E2:=by
  refine⟨fun _ _ h=>h,fun _ _ _=>rfl,fun _ _ _ h=>h,fun _ _ h=>h,fun _ _ h=>h,fun i k' c u' _ hu'=>?_⟩;by_cases e:i=id
  ·subst e;rw[v1]at hu';simp at hu'
  ·exact⟨c,u',by simp[E2,e,hu'],Nat.le_refl _,fun _=>rfl⟩
 have afA:∀{p b'},E2.own p=some b'→(p = .o id∧b'=b)∨(p≠.o id∧E1.own p=some b'):=fun {p b'} hp=>by
  by_cases e:p = .o id
  ·subst e;refine .inl ⟨rfl,?_⟩;have:E2.own (.o id)=some b:=by simp[En.own,E2,b1,hu,Value.ownBlock]
   rw[this]at hp;simpa using hp.symm
  ·have h3:E2.own p=E1.own p:=En.lU rfl (fun i hi=>by subst hi;have:i≠id:=fun h=>e (by rw[h]);simp[E2,this]);exact .inr ⟨e,h3.symm.trans hp⟩
 have aia:∀{p b'},E1.own p=some b'→E.own p=some b':=fun h=>(En.res_own h).1
 have hbs:b<E.w.heap.size:=(Array.getElem?_eq_some_iff.1 hg).1;have hjk:j*k≤xs.length*k:=Nat.mul_le_mul_right _ (by omega);have akE:(cp-j)*k=cp*k-j*k:=Nat.sub_mul _ _ _;have hnk:(xs.length-j)*k=xs.length*k-j*k:=Nat.sub_mul _ _ _;have hcp:xs.length*k≤cp*k:=Nat.mul_le_mul_right _ hnc;have hq:Nl E2.w e k u (xs.length-j) (us.drop (j*k)):=by
  rcases ho2 with rfl|⟨rfl,hz⟩
  ·refine⟨by rw[List.length_drop,hl0,hnk],b,of+j*k,cp-j,cur,hu,hg,by omega,by omega,by rw[akE];omega,?_⟩;rw[←htk,List.drop_take,List.drop_drop,hnk]
  ·have hz2:xs.length-j=0:=by omega
   refine⟨by rw[List.length_drop,hl0,hnk],b,o2,cp-j,cur,hu,hg,by omega,by omega,by rw[hz];omega,?_⟩;rw[hz2,Nat.zero_mul,List.take_zero];refine(List.drop_eq_nil_of_le ?_).symm;rw[hl0];exact Nat.mul_le_mul_right _ (by omega)
 have hlen2:(dd (xs.drop j)).length=xs.length-j:=by simp[dd]
 have hH:jQ E2 (upd (look l0) (.o id) (.wI e k (dd (xs.drop j)))):=by
  refine⟨fun p hp=>?_,hi1.h.frees,fun p q b' g1 g2=>?_,fun p b' g1=>?_,hi1.h.oQ,fun b' o g1 p g2=>?_,fun y hy=>bQ.ext x12.r _ _ _ (hi1.h.gl y hy)⟩
  ·by_cases e:p = .o id
   ·subst e;simp only[upd,if_true];exact⟨b1,id,u,us.drop (j*k),rfl,by rw[hlen2];exact v2,by rw[hlen2];exact hq,afR (E:=E) (E':=E2) ⟨fun _ _ h=>h,fun _ _ _=>rfl⟩ hrel⟩
   ·simp only[upd,if_neg e];exact(hi1.h.item p hp).up x12 rfl (fun i hi=>by subst hi;have:i≠id:=fun h=>e (by rw[h]);simp[E2,this];rfl) (fun _ _=>rfl)
  ·rcases afA g1 with⟨rfl,rfl⟩|⟨n1,g1⟩<;>rcases afA g2 with⟨rfl,h2⟩|⟨n2,g2⟩
   ·rfl
   ·exact(hi.h.inj _ _ _ abL (aia g2))
   ·subst h2;exact(hi.h.inj _ _ _ (aia g1) abL)
   ·exact hi1.h.inj _ _ _ g1 g2
  ·rcases afA g1 with⟨rfl,rfl⟩|⟨_,g1⟩
   ·exact hbs
   ·exact hi1.h.size _ _ g1
  ·rcases afA g2 with⟨rfl,rfl⟩|⟨n2,g2⟩
   ·exact absurd abL (OX hi ht g1)
   ·obtain⟨e2,k2,es2,g3,g4⟩:=hi1.h.sep b' o g1 p g2;exact⟨e2,k2,es2,by simp only[upd,if_neg n2];exact g3,g4⟩
 refine⟨E2,hw,⟨hH.slot s _,⟨hi1.fr.os,hi1.fr.tape,hi1.fr.output,hi1.fr.size,hi1.fr.old,hi1.fr.xb,fun i b' g1=>?_,hi1.fr.st,hi1.fr.xg⟩,fun q tv hq'=>?_,hi1.defers,hi1.size⟩⟩
 ·rcases afA g1 with⟨g2,rfl⟩|⟨_,g2⟩
  ·exact hi.fr.new id _ abL
  ·exact hi1.fr.new i b' g2
 ·by_cases eq:q=s
  ·subst eq;simp only[upd,if_true,It.v.injEq]at hq';subst hq';exact⟨u,hu1,by simp only[aA];exact⟨hone,k,_,u,v2,Nat.le_refl _,fun _=>rfl⟩⟩
  ·simp only[upd,Pl.s.injEq,eq,if_false,reduceCtorEq]at hq';obtain⟨u',g1,g2⟩:=hi1.sl q tv hq';exact⟨u',g1,g2.up x12⟩
end
attribute [simp] isS isO WC
end Go.Tr

namespace Go.Proofs
open Go Go.Lib
theorem abu:∀{a b:List Int},a.Pairwise (· < ·)→b.Pairwise (· < ·)→(∀x,x∈a↔x∈b)→a=b
 | [],[],_,_,_=>rfl
 | [],y::b,_,_,h=>by have:=(h y).2 (by simp);simp at this
 | x::a,[],_,_,h=>by have:=(h x).1 (by simp);simp at this
 | x::a,y::b,ha,hb,h=>by
   rw[List.pairwise_cons]at ha hb
   have hxy:x=y:=by
    have h1:=(h x).1 (by simp);have h2:=(h y).2 (by simp);rcases List.mem_cons.1 h1 with e|h1
    ·exact e
    ·rcases List.mem_cons.1 h2 with e|h2
     ·exact e.symm
     ·have:=hb.1 x h1;have:=ha.1 y h2;omega
   subst hxy
   congr 1
   refine abu ha.2 hb.2 fun z=>?_
   have hz:=h z;simp only[List.mem_cons]at hz;constructor
   ·intro hm;rcases hz.1 (.inr hm)with e|h
    ·subst e;have:=ha.1 z hm;omega
    ·exact h
   ·intro hm;rcases hz.2 (.inr hm)with e|h
    ·subst e;have:=hb.1 z hm;omega
    ·exact h
theorem X3(zs:List Int)(hs:zs.Pairwise (· ≤·)):∀m,m≤zs.length→(compactUpTo zs.toArray m).Pairwise (· < ·)∧(∀x,x∈compactUpTo zs.toArray m↔∃j,j<m∧zs[j]? = some x)
 | 0,_=>by simp[compactUpTo]
 | m+1,hm=>by
   obtain⟨h1,h2⟩:=X3 zs hs m (by omega);have hget:∀j,j<zs.length→zs.toArray[j]! = zs.getD j 0:=fun j hj=>by simp[List.getD,hj]
   rw[compactUpTo_succ];have hmz:zs[m]? = some (zs.getD m 0):=by simp[List.getD,show m<zs.length by omega]
   have hle:∀j,j<m→zs.getD j 0≤zs.getD m 0:=fun j hj=>by
    have:=List.pairwise_iff_getElem.1 hs j m (by omega) (by omega) hj;simpa[List.getD,show m<zs.length by omega,show j<zs.length by omega]using this
   cases hk:keeps zs.toArray m with
   | false=>
     have h3:0<m∧zs.toArray[m]! = zs.toArray[m-1]! :=by
      have hk' :¬(m=0∨zs.toArray[m]! ≠zs.toArray[m-1]!):=by simpa only[keeps,decide_eq_false_iff_not]using hk
      exact⟨Nat.pos_of_ne_zero fun e=>hk' (.inl e),Classical.byContradiction fun e=>hk' (.inr e)⟩
     rw[if_neg (by simp),List.append_nil];refine⟨h1,fun x=>?_⟩;rw[h2];constructor
     ·rintro⟨j,hj,hx⟩;exact⟨j,by omega,hx⟩
     ·rintro⟨j,hj,hx⟩;by_cases e:j=m
      ·subst e;refine⟨j-1,by omega,?_⟩;have h4:=h3.2;rw[hget j (by omega),hget (j-1) (by omega)]at h4
       rw[hmz]at hx
       simp only[Option.some.injEq]at hx;rw[←hx,h4];simp[List.getD,show j-1<zs.length by omega]
      ·exact⟨j,by omega,hx⟩
   | true=>
     rw[if_pos rfl,hget m (by omega)];refine⟨?_,fun x=>?_⟩
     ·rw[List.pairwise_append];refine⟨h1,by simp,fun x hx y hy=>?_⟩;simp at hy;subst hy;obtain⟨j,hj,hjx⟩:=(h2 x).1 hx;have hxj:zs.getD j 0=x:=by simp[List.getD,hjx]
      have:=hle j hj;have hne:zs.getD (m-1) 0≠zs.getD m 0:=by
       simp only[keeps,Bool.or_eq_true,decide_eq_true_eq]at hk;rcases hk with h|h
       ·omega
       ·rw[hget m (by omega),hget (m-1) (by omega)]at h
        exact fun e=>h e.symm
      have hj1:zs.getD j 0≤zs.getD (m-1) 0:=by
       by_cases e:j=m-1
       ·subst e;omega
       ·have:=List.pairwise_iff_getElem.1 hs j (m-1) (by omega) (by omega) (by omega);simpa[List.getD,show m-1<zs.length by omega,show j<zs.length by omega]using this
      have h5:=hle (m-1) (by omega);rw[←hxj]
      show zs.getD j 0<zs.getD m 0
      omega
     ·rw[List.mem_append,h2];simp only[List.mem_singleton];constructor
      ·rintro (⟨j,hj,hx⟩|rfl)
       ·exact⟨j,by omega,hx⟩
       ·exact⟨m,by omega,hmz⟩
      ·rintro⟨j,hj,hx⟩;by_cases e:j=m
       ·subst e;rw[hmz]at hx;simp only[Option.some.injEq]at hx;exact .inr hx.symm
       ·exact .inl ⟨j,by omega,hx⟩
def insPos(n:Int):List Int→Nat
 | []=>0
 | y::r=>if y<n then insPos n r+1 else 0
def E8(l:List Int)(n:Int):List Int:=if l[insPos n l]? = some n then l else l.take (insPos n l)++[n]++l.drop (insPos n l)
theorem ac3(n:Int):∀l:List Int,insPos n l≤l.length
 | []=>Nat.le_refl _
 | y::r=>by
   have:=ac3 n r;simp only[insPos,List.length_cons];split<;>omega
theorem Py(n:Int):∀(l:List Int),∀x∈l.take (insPos n l),x<n
 | []=>by simp
 | y::r=>by
   simp only[insPos];split
   ·rename_i h;intro x hx;simp at hx;rcases hx with rfl|hx
    ·exact h
    ·exact Py n r x hx
   ·simp
theorem Vx(n:Int):∀(l:List Int) (x:Int),l[insPos n l]? = some x→n≤x
 | [],x,h=>by simp at h
 | y::r,x,h=>by
   simp only[insPos]at h;split at h
   ·exact Vx n r x (by simpa using h)
   ·simp at h;omega
theorem MK{l:List Int}(n:Int)(h:l.Pairwise (· < ·)):(E8 l n).Pairwise (· < ·)∧∀x,x∈E8 l n↔x∈l∨x=n:=by
 unfold E8;split
 ·rename_i he;refine⟨h,fun x=>⟨.inl,fun hx=>hx.elim id fun e=>by subst e;exact List.mem_of_getElem? he⟩⟩
 ·rename_i he;have hl:l.take (insPos n l)++l.drop (insPos n l)=l:=List.take_append_drop _ _;have hp:(l.take (insPos n l)++l.drop (insPos n l)).Pairwise (· < ·):=by rw[hl];exact h
  rw[List.pairwise_append]at hp
  have hd:∀x∈l.drop (insPos n l),n<x:=fun x hx=>by
   cases hc:l.drop (insPos n l)with
   | nil=>rw[hc]at hx;simp at hx
   | cons y r=>
     have hy:l[insPos n l]? = some y:=by
      have:(l.drop (insPos n l))[0]? = some y:=by rw[hc];rfl
      simpa using this
     have h1:=Vx n l y hy;have h2:y≠n:=fun e=>he (by rw[hy,e])
     rw[hc]at hx
     rcases List.mem_cons.1 hx with rfl|hx
     ·omega
     ·have:=hp.2.1;rw[hc,List.pairwise_cons]at this
      have:=this.1 x hx;omega
  refine⟨?_,fun x=>?_⟩
  ·rw[List.append_assoc,List.pairwise_append];refine⟨hp.1,by simpa using⟨hd,hp.2.1⟩,fun a ha b hb=>?_⟩;have h1:=Py n l a ha;simp at hb;rcases hb with rfl|hb
   ·exact h1
   ·have:=hd b hb;omega
  ·have:x∈l↔x∈l.take (insPos n l)∨x∈l.drop (insPos n l):=by rw[←List.mem_append,hl]
   rw[this];simp only[List.mem_append,List.mem_singleton];constructor
   ·rintro ((h|h)|h)
    ·exact .inl (.inl h)
    ·exact .inr h
    ·exact .inl (.inr h)
   ·rintro ((h|h)|h)
    ·exact .inl (.inl h)
    ·exact .inr h
    ·exact .inl (.inr h)
end Go.Proofs

namespace Go.Proofs
open Go Go.Tr
abbrev Tp:=List Int×Nat
def ints(l:List Int):D:=.sl (l.map fun n=>[.int .i64 n])
def aJ(T:Tp):It:=.box [.d (ints T.1),.d (.int .i64 T.2)]
def ak(T:Tp):Prop:=T.1.length≤600∧∀x∈T.1,I64 x
section
variable (t:S) (ν:List Pl) (b:Nat) (po:Nat→Prop) (T:Tp)
@[simp]theorem aj1:TG t ν (aJ T)=some (aJ T):=by simp[aJ]
@[simp]theorem ajy:KQ t (aJ T)=True:=by simp[aJ]
@[simp]theorem aj2:Nu (aJ T) = []:=rfl
@[simp]theorem ajZ:Lr ν b (aJ T)=aJ T:=rfl
@[simp]theorem alc:gU (aJ T)=true:=rfl
@[simp]theorem aj0:It.only po (aJ T)=True:=by simp[aJ]
end
def Et(T:Tp):Int×Tp:=if T.1.length≤T.2 then(0,T)else(T.1.getD T.2 0,T.1,T.2+1)
def WV(x n:Int):Int:=if n<1 then 0 else x%n
def au(T:Tp)(n:Int):Int×Tp:=(WV (Et T).1 n,(Et T).2)
def aT(T:Tp)(a b:Int):Int×Tp:=(a+(au T (b-a+1)).1,(au T (b-a+1)).2)
def dD(T:Tp)(n:Int):Bool×Tp:=(decide ((au T n).1=n-1),(au T n).2)
def aK(T:Tp)(l:List Int):Int×Tp:=(l.getD (au T l.length).1.toNat 0,(au T l.length).2)
def V9:List Int:=[-1,0,1,7,8,23,24,31,32,63,64,99,100,255,256,257,1000,1001,1023,1024,1000000,1000001,1099511627776,9223372036854775807,-9223372036854775808]
def iY(T:Tp):Int×Tp:=aK T V9
theorem EX(T:Tp):(Et T).2.1=T.1:=by unfold Et;split<;>rfl
@[simp]theorem Ql(T:Tp):ak (Et T).2=ak T:=by simp[ak,EX]
@[simp]theorem dP(T:Tp)(n:Int):ak (au T n).2=ak T:=Ql T
@[simp]theorem ajU(T:Tp)(a b:Int):ak (aT T a b).2=ak T:=Ql T
@[simp]theorem oW(T:Tp)(n:Int):ak (dD T n).2=ak T:=Ql T
@[simp]theorem Mc(T:Tp)(l:List Int):ak (aK T l).2=ak T:=Ql T
theorem Yr(x n:Int):0≤WV x n:=by
 unfold WV;split
 ·simp
 ·exact Int.emod_nonneg _ (by omega)
theorem ag9(x:Int){n:Int}(h:0<n):WV x n<n:=by
 unfold WV;split
 ·omega
 ·exact Int.emod_lt_of_pos _ h
theorem aC(T:Tp)(n:Int):0≤(au T n).1:=Yr _ _
theorem bg(T:Tp){n:Int}(h:0<n):(au T n).1<n:=ag9 _ h
theorem aS(T:Tp)(a b:Int):a≤(aT T a b).1:=by have:=aC T (b-a+1);simp only[aT];omega
theorem aQ(T:Tp){a b:Int}(h:a≤b):(aT T a b).1≤b:=by have:=bg T (n:=b-a+1) (by omega);simp only[aT];omega
theorem agk{x n:Int}(hn:0<n)(h:x.tmod n<0):x.tmod n+n=x%n:=by
 have e:=@Int.tmod_eq_emod x n;have h1:=Int.emod_nonneg x (b:=n) (by omega);split at e<;>rename_i g
 ·simp at e;omega
 ·omega
theorem agj{x n:Int}(hn:0<n)(h :¬x.tmod n<0):x.tmod n=x%n:=by
 have e:=@Int.tmod_eq_emod x n;have h1:=Int.emod_lt_of_pos x hn;split at e<;>rename_i g
 ·simp at e;omega
 ·omega
theorem cut_c(x n:Int)(hn:I64 n):Contract Tryz.prog 90 [.d (.int .i64 x),.d (.int .i64 n)] [] (.d (.int .i64 (WV x n))) [] []:=by
 refine aj Tryz.func90 rfl (fun E0=>?_);refine cO.sound (g:=.mk) (ow:=[]) (kp:=(fun k=>k==0||k==1||k==4||k==6||k==11)) ?_;rw[Tryz.ntmps90];obtain⟨h1,h2⟩:=hn;simp -dsimp;refine qM.dec (fun h=>?_) (fun h=>?_)
 ·simp -dsimp;refine Fin.of ?_;simp[WV,h]
 ·simp -dsimp;refine⟨by omega,qM.dec (fun g=>?_) (fun g=>?_)⟩
  ·have:=agk (by omega) g;have:=Int.emod_nonneg x (b:=n) (by omega);have:=Int.emod_lt_of_pos x (b:=n) (by omega);simp -dsimp(disch:=omega) [wrap_i64];refine Fin.of ?_;simp[WV,h];omega
  ·simp -dsimp;refine Fin.of ?_;simp[WV,h];exact agj (by omega) g
theorem afK(T:Tp)(hT:ak T):Contract Tryz.prog 91 [.ptr (.x 0) 0] [aJ T] (.d (.int .i64 (Et T).1)) [aJ (Et T).2] []:=by
 obtain⟨l,i⟩:=T;have hi:l.length≤600:=hT.1;refine aj Tryz.func91 rfl (fun E0=>?_);refine cO.sound (g:=.mk) (ow:=[]) (kp:=(fun k=>k==0||k==2||k==12)) ?_;rw[Tryz.ntmps91];simp -dsimp[aJ,ints];refine⟨qM.dec (fun h=>?_) (fun h=>?_),⟨by kernel_rfl⟩⟩
 ·simp -dsimp;refine Fin.of ?_;simp[aJ,ints,h,Et]
 ·have h1:i<l.length:=by omega
  simp -dsimp(disch:=omega) [wrap_i64,List.getElem?_eq_getElem h1];refine⟨h1,?_,⟨by kernel_rfl⟩⟩;refine Fin.of ?_;simp[aJ,ints,Et,h,List.getElem?_eq_getElem h1]
theorem bn(T:Tp)(hT:ak T)(n:Int)(hn:I64 n):Contract Tryz.prog 30 [.ptr (.x 0) 0,.d (.int .i64 n)] [aJ T] (.d (.int .i64 (au T n).1)) [aJ (au T n).2] []:=by
 refine aj Tryz.func30 rfl (fun E0=>?_);refine cO.sound (g:=.mk) (ow:=[]) (kp:=(fun k=>k==0||k==1||k==4)) ?_;rw[Tryz.ntmps30];simp -dsimp;refine ah.of (afK T hT) [.x 0] 0 ?_;simp -dsimp;refine ah.of (cut_c (Et T).1 n hn) [] 0 ?_;simp -dsimp;refine Fin.of ?_;simp[au]
theorem dw(T:Tp)(hT:ak T)(a b:Int)(_ha:I64 a)(hn:I64 (b-a))(hn1:I64 (b-a+1))(hb:I64 (aT T a b).1):Contract Tryz.prog 34 [.ptr (.x 0) 0,.d (.int .i64 a),.d (.int .i64 b)] [aJ T] (.d (.int .i64 (aT T a b).1)) [aJ (aT T a b).2] []:=by
 refine aj Tryz.func34 rfl (fun E0=>?_);refine cO.sound (g:=.mk) (ow:=[]) (kp:=(fun k=>k==0||k==1||k==2||k==6)) ?_;rw[Tryz.ntmps34];simp -dsimp[wrap_i64 hn.1 hn.2,wrap_i64 hn1.1 hn1.2];refine ah.of (bn T hT (b-a+1) hn1) [.x 0] 0 ?_;have hb':I64 (a+(au T (b-a+1)).1):=hb;simp -dsimp[wrap_i64 hb'.1 hb'.2];refine Fin.of ?_;simp[aT]
theorem gK(T:Tp)(hT:ak T)(n:Int)(hn:I64 n)(hn1:I64 (n-1)):Contract Tryz.prog 17 [.ptr (.x 0) 0,.d (.int .i64 n)] [aJ T] (.d (.bool (dD T n).1)) [aJ (dD T n).2] []:=by
 refine aj Tryz.func17 rfl (fun E0=>?_);refine cO.sound (g:=.mk) (ow:=[]) (kp:=(fun k=>k==0||k==1||k==4)) ?_;rw[Tryz.ntmps17];simp -dsimp;refine ah.of (bn T hT n hn) [.x 0] 0 ?_;simp -dsimp[wrap_i64 hn1.1 hn1.2];refine Fin.of ?_;simp[dD]
theorem fE(T:Tp)(hT:ak T)(l:List Int)(hl:0<l.length)(hl2:l.length<1000):Contract Tryz.prog 38 [.ptr (.x 0) 0,.d (ints l)] [aJ T] (.d (.int .i64 (aK T l).1)) [aJ (aK T l).2] []:=by
 refine aj Tryz.func38 rfl (fun E0=>?_);refine cO.sound (g:=.mk) (ow:=[]) (kp:=(fun k=>k==0||k==1||k==4)) ?_;rw[Tryz.ntmps38];simp -dsimp[ints];refine ah.of (bn T hT l.length ⟨by omega,by omega⟩) [.x 0] 0 ?_;have h1:=aC T l.length;have h2:=bg T (n:=l.length) (by omega);have h3:(au T l.length).1.toNat<l.length:=by omega
 simp -dsimp[List.getElem?_eq_getElem h3];refine⟨by omega,by omega,?_⟩;refine Fin.of ?_;simp[aK,ints,List.getElem?_eq_getElem h3]
theorem C9(T:Tp)(hT:ak T):Contract Tryz.prog 111 [.ptr (.x 0) 0] [aJ T] (.d (.int .i64 (aK T [8,8,16,32,64]).1)) [aJ (aK T [8,8,16,32,64]).2] []:=by
 refine aj Tryz.func111 rfl (fun E0=>?_);refine cO.sound (g:=.mk) (ow:=[]) (kp:=(fun k=>k==0||k==2)) ?_;rw[Tryz.ntmps111];simp -dsimp;refine ah.of (fE T hT [8,8,16,32,64] (by simp) (by simp)) [.x 0] 0 ?_;simp -dsimp[ints];refine Fin.of ?_;simp
theorem qI(T:Tp)(hT:ak T):Contract Tryz.prog 77 [.ptr (.x 0) 0] [aJ T] (.d (.int .i64 (iY T).1)) [aJ (iY T).2] []:=by
 refine aj Tryz.func77 rfl (fun E0=>?_);refine cO.sound (g:=.mk) (ow:=[]) (kp:=(fun k=>k==0||k==2)) ?_;rw[Tryz.ntmps77];simp -dsimp;refine ah.of (fE T hT V9 (by simp[V9]) (by simp[V9])) [.x 0] 0 ?_;simp -dsimp[ints,V9];refine Fin.of ?_;simp[iY,V9]
end Go.Proofs

namespace Go.Proofs
open Go Go.Tr
def bv(B:BitVec 64):D:=.int .u64 (tn B)
def aG(n:Int):Bool:=n==8||n==16||n==32||n==64
def lS(k:Int):BitVec 64:=if k<0∨k>63 then 0#64 else 1#64<<<(IntKind.u64.wrap k).toNat
theorem nM(n:Int):Contract Tryz.prog 167 [.d (.int .i64 n)] [] (.d (.bool (aG n))) [] []:=by
 refine aj Tryz.func167 rfl (fun E0=>?_);refine cO.sound (g:=.mk) (ow:=[]) (kp:=(fun k=>k==0||k==2)) ?_;rw[Tryz.ntmps167];by_cases h1:n=8<;>by_cases h2:n=16<;>by_cases h3:n=32<;>first
  | omega
  | (simp -dsimp[h1,h2,h3]
     refine Fin.of ?_;simp[aG,h1,h2,h3])
theorem qH(n:Int):Contract Tryz.prog 209 [.d (.int .i64 n)] [] (.d (.bool (aG n))) [] []:=by
 refine aj Tryz.func209 rfl (fun E0=>?_);refine cO.sound (g:=.mk) (ow:=[]) (kp:=(fun k=>k==0||k==2)) ?_;rw[Tryz.ntmps209];by_cases h1:n=8<;>by_cases h2:n=16<;>by_cases h3:n=32<;>first
  | omega
  | (simp -dsimp[h1,h2,h3]
     refine Fin.of ?_;simp[aG,h1,h2,h3])
theorem uD(k:Int):Contract Tryz.prog 88 [.d (.int .i64 k)] [] (.d (bv (lS k))) [] []:=by
 refine aj Tryz.func88 rfl (fun E0=>?_);refine cO.sound (g:=.mk) (ow:=[]) (kp:=(fun k=>k==0||k==2||k==8)) ?_;rw[Tryz.ntmps88];by_cases h:k<0
 ·simp -dsimp[h];refine Fin.of ?_;simp[lS,h,bv]
 ·simp -dsimp[h];refine qM.dec (fun g=>?_) (fun g=>?_)
  ·simp -dsimp;refine Fin.of ?_;simp[lS,g,bv]
  ·have h0:0≤IntKind.u64.wrap k:=by rw[yu];omega
   simp -dsimp[h0];refine Fin.of ?_;simp[lS,g,h,bv]
def Pq:Nat→BitVec 64
 | 0=>0#64
 | n+1=>Pq n|||lS n
def tN(n:Int):BitVec 64:=if aG n=true then Pq n.toNat else 0#64
theorem RF(k:Int):Contract Tryz.prog 169 [.d (.int .i64 k)] [] (.d (bv (tN k))) [] []:=by
 refine aj Tryz.func169 rfl (fun E0=>?_);refine cO.sound (g:=.mk) (ow:=[]) (kp:=(fun k=>k==0||k==2||k==3||k==4||k==7||k==10)) ?_;rw[Tryz.ntmps169];simp -dsimp;refine ah.of (nM k) [] 0 ?_;cases hv:aG k
 ·simp -dsimp[hv];refine Fin.of ?_;simp[tN,hv,bv]
 ·have hk:0≤k∧k≤64:=by simp[aG]at hv;omega
  simp -dsimp[hv];refine aN.of [] (fun k=>k==0||k==2||k==3||k==4||k==7||k==10) (ι:={i:Nat // (i:Int)≤k}) (fun i=>[(Pl.s 0,It.v (.d (.int .i64 k))),(Pl.s 2,It.v (.d (.int IntKind.u64 0))),
    (Pl.s 3,It.v (.d (bv (Pq i.1)))),(Pl.s 4,It.v (.d (.int .i64 i.1)))]) (fun i=>k.toNat-i.1) ⟨0,hk.1⟩ ?_ ?_
  ·exact GS.to (by simp[Pq,bv])
  ·rintro⟨i,hi⟩;simp -dsimp[bv];refine qM.dec (fun h=>?_) (fun h=>?_)
   ·simp -dsimp[bv];refine ah.of (uD i) [] 0 ?_;simp -dsimp[bv,wrap_i64 (n:=(i:Int)+1) (by omega) (by omega)];refine⟨⟨i+1,by omega⟩,GS.to (by simp[Pq,bv]),by simp;omega⟩
   ·simp -dsimp[bv];refine Fin.of ?_;have:k.toNat=i:=by omega
    simp[tN,hv,bv,this]
def CU:Nat→Tp→List Int×Tp
 | 0,T=>([],T)
 | n+1,T=>((au T 256).1::(CU n (au T 256).2).1,(CU n (au T 256).2).2)
def G_(T:Tp)(most:Int):List Int×Tp:=CU (aT T 0 most).1.toNat (aT T 0 most).2
theorem agf(T:Tp)(hT:ak T)(k:Int)(hk:0≤k∧k≤100):Contract Tryz.prog 112 [.ptr (.x 0) 0,.d (.int .i64 k)] [aJ T] (.d (.str (strOf (G_ T k).1))) [aJ (G_ T k).2] []:=by
 have hr:=aS T 0 k;have hr':=aQ T (a:=0) (b:=k) (by omega);refine aj Tryz.func112 rfl (fun E0=>?_);refine cO.sound (g:=.mk) (ow:=[]) (kp:=(fun k=>k==0||k==1||k==4||k==5||k==6||k==11)) ?_;rw[Tryz.ntmps112];simp -dsimp;refine ah.of (dw T hT 0 k ⟨by omega,by omega⟩ ⟨by omega,by omega⟩ ⟨by omega,by omega⟩ ⟨by omega,by omega⟩) [.x 0] 0 ?_;simp -dsimp
 refine aN.of [5] (fun k=>k==0||k==1||k==4||k==5||k==6||k==11) (ι:={i:Nat×Tp×List Int // ak i.2.1∧i.1≤100∧i.2.2.length+i.1≤100∧(G_ T k)=(i.2.2++(CU i.1 i.2.1).1,(CU i.1 i.2.1).2)}) (fun i=>[(Pl.s 0,It.v (.ptr (Pl.x 0) 0)),(Pl.s 1,It.v (.d (.int .i64 k))),
    (Pl.x 0,aJ i.1.2.1),(Pl.s 4,It.v (.d (.str ⟨#[]⟩))),
    (Pl.s 5,It.v (.aB 5 i.1.2.2.length)),(Pl.s 6,It.v (.d (.int .i64 i.1.1))),(.o 5,.row 5 1 (dd (i.1.2.2.map fun n=>[.int .u8 n])) false)]) (fun i=>i.1.1) ⟨((aT T 0 k).1.toNat,(aT T 0 k).2,[]),by simpa using hT,by simp;omega,by simp;omega,by simp[G_]⟩ ?_ ?_
 ·refine GS.own' (k:=5) 5 1 (by simp) (by simp) ?_;simp;omega
 ·rintro⟨⟨i,T',l⟩,h1,h2,h3,h4⟩;simp only at h1 h2 h3 h4;simp -dsimp;refine qM.dec (fun h=>?_) (fun h=>?_)
  ·obtain⟨i,rfl⟩:∃j,i=j+1:=⟨i-1,by omega⟩
   simp -dsimp;refine ah.of (bn T' h1 256 ⟨by omega,by omega⟩) [.x 0] 0 ?_;have g1:=aC T' 256;have g2:=bg T' (n:=256) (by omega);simp -dsimp[wrap_u8 g1 (show(au T' 256).1≤255 by omega),wrap_i64 (n:=(i:Int)) (by omega) (by omega)];and_intros;all_goals try first|omega|(simp;omega)
   refine⟨⟨(i,(au T' 256).2,l++[(au T' 256).1]),by simpa using h1,by omega,by simp;omega,by simp[h4,CU]⟩,GS.to (by simp),by simp⟩
  ·obtain rfl:i=0:=by omega
   simp -dsimp;refine Fin.of ?_;simp[h4,CU]
def kE(T:Tp)(k:Int):BitVec 64×Tp:=
 let r1:=Et T
 let r2:=Et r1.2
 let s:=au r2.2 6
 if s.1=0 then(0#64,s.2)
 else if s.1=1 then(lS (au s.2 k).1&&&tN k,(au s.2 k).2)
 else if s.1=2 then(~~~ 0#64&&&tN k,s.2)
 else((wu (tn (wu r1.1)*11400714819323198485) ^^^ wu r2.1)&&&tN k,s.2)
theorem zF(T:Tp)(hT:ak T)(k:Int)(hk:I64 k):Contract Tryz.prog 89 [.ptr (.x 0) 0,.d (.int .i64 k)] [aJ T] (.d (bv (kE T k).1)) [aJ (kE T k).2] []:=by
 refine aj Tryz.func89 rfl (fun E0=>?_);refine cO.sound (g:=.mk) (ow:=[]) (kp:=(fun k=>k==0||k==1||k==4||k==5||k==15||k==16||k==18||k==24)) ?_;rw[Tryz.ntmps89];simp -dsimp;refine ah.of (afK T hT) [.x 0] 0 ?_;simp -dsimp[xQ];refine ah.of (afK (Et T).2 (by simpa using hT)) [.x 0] 0 ?_;simp -dsimp[xQ]
 refine ah.of (bn (Et (Et T).2).2 (by simpa using hT) 6 ⟨by omega,by omega⟩) [.x 0] 0 ?_;simp -dsimp[xQ];refine qM.dec (fun h0=>?_) (fun h0=>?_)
 ·simp -dsimp[xQ];refine ah.of (RF k) [] 0 ?_;simp -dsimp[xQ,bv];refine Fin.of ?_;simp[kE,h0,bv]
 ·simp -dsimp[h0];refine qM.dec (fun h1=>?_) (fun h1=>?_)
  ·simp -dsimp[xQ];refine ah.of (bn (au (Et (Et T).2).2 6).2 (by simpa using hT) k hk) [.x 0] 0 ?_;simp -dsimp;refine ah.of (uD (au (au (Et (Et T).2).2 6).2 k).1) [] 0 ?_;simp -dsimp;refine ah.of (RF k) [] 0 ?_;simp -dsimp[xQ,bv];refine Fin.of ?_;simp[kE,h0,h1,bv]
  ·simp -dsimp[h1];refine qM.dec (fun h2=>?_) (fun h2=>?_)
   ·simp -dsimp;refine ah.of (RF k) [] 0 ?_;simp -dsimp[xQ,bv];refine Fin.of ?_;simp[kE,h0,h1,h2,bv];try rfl
   ·simp -dsimp;refine ah.of (RF k) [] 0 ?_;simp -dsimp[xQ,bv];refine Fin.of ?_;simp[kE,h0,h1,h2,bv]
def kY:Nat→Nat→Tp→List Int→List Int×Tp
 | 0,_,T,out=>(out,T)
 | n+1,i,T,out=>kY n (i+1) (au T (i+1)).2 (out.take (au T (i+1)).1.toNat++[(i:Int)]++out.drop (au T (i+1)).1.toNat)
def bT(T:Tp)(n:Int):List Int×Tp:=kY n.toNat 0 T []
theorem D9(T:Tp)(hT:ak T)(n:Int)(hn:n≤1000):Contract Tryz.prog 85 [.ptr (.x 0) 0,.d (.int .i64 n)] [aJ T] (.d (ints (bT T n).1)) [aJ (bT T n).2] []:=by
 refine aj Tryz.func85 rfl (fun E0=>?_);refine cO.sound (g:=.mk) (ow:=[]) (kp:=(fun k=>k==0||k==1||k==4||k==5||k==6||k==7||k==8||k==11)) ?_;rw[Tryz.ntmps85];simp -dsimp
 refine aN.of [] (fun k=>k==0||k==1||k==4||k==5||k==6||k==7||k==8||k==11) (ι:={i:Nat×Tp×List Int // ak i.2.1∧i.2.2.length=i.1∧(i.1:Int)≤max n 0∧bT T n=kY (n.toNat-i.1) i.1 i.2.1 i.2.2}) (fun i=>[(Pl.s 0,It.v (.ptr (Pl.x 0) 0)),(Pl.s 1,It.v (.d (.int .i64 n))),(Pl.x 0,aJ i.1.2.1),
    (Pl.s 4,It.v (.c (Value.slice none 0 0))),(Pl.s 5,It.v (.d (ints i.1.2.2))),
    (Pl.s 6,It.v (.d (.int .i64 i.1.1)))]) (fun i=>n.toNat-i.1.1) ⟨(0,T,[]),hT,rfl,by simp;omega,rfl⟩ ?_ ?_
 ·exact GS.J9 5 (by simp[ints])
 ·rintro⟨⟨i,T',out⟩,h1,h2,h3,h4⟩;simp only at h1 h2 h3 h4;simp -dsimp[ints];refine qM.dec (fun h=>?_) (fun h=>?_)
  ·simp -dsimp[wrap_i64 (n:=(i:Int)+1) (by omega) (by omega)];refine ah.of (bn T' h1 (i+1) ⟨by omega,by omega⟩) [.x 0] 0 ?_;have g1:=aC T' (i+1);have g2:=bg T' (n:=i+1) (by omega);simp -dsimp[wrap_i64 (n:=(i:Int)+1) (by omega) (by omega)];have dl:dLen 1 (out.map fun x=>[D.int .i64 x]):=iF 1 _ _ fun _=>rfl
   and_intros;all_goals try first|omega|exact kJ dl|exact ni (kJ dl)|(simp;omega)
   refine⟨⟨(i+1,(au T' (i+1)).2,out.take (au T' (i+1)).1.toNat++[(i:Int)]++out.drop (au T' (i+1)).1.toNat),by simpa using h1,by simp;omega,by simp;omega,?_⟩,GS.J9 5 ?_,by simp;omega⟩
   ·rw[h4,show n.toNat-i=n.toNat-(i+1)+1 by omega];rfl
   ·simp[ints];exact⟨by omega,by rw[List.take_of_length_le (by simp)]⟩
  ·simp -dsimp;refine Fin.view 4 ?_;simp -dsimp;refine Fin.of ?_;have:n.toNat-i=0:=by omega
   simp[h4,this,kY,ints]
structure Pk where
 mode:Int
 bF:Int
 set:Int
 len:Int
 ttl:Int
 ent:Int
 ing:Int
 proto:Int
 bits:BitVec 64
 pay:ByteArray
def Pk.cs(p:Pk):List D:=[.int .i64 p.mode,.int .i64 p.bF,.int .i64 p.set,.int .i64 p.len,.int .i64 p.ttl,.int .i64 p.ent,.int .i64 p.ing,.int .i64 p.proto,bv p.bits,.str p.pay]
def Bg(T:Tp):Pk×Tp:=
 let L:=aK T [8,8,16,32,64]
 let m:=aT L.2 1 3
 let d:=aT m.2 0 7
 let s:=aK d.2 [0,0,1,2,31]
 let t:=aK s.2 [0,1,2,5,63]
 let e:=au t.2 1024
 let i:=aK e.2 [0,1,8,255,256]
 let p:=au i.2 8
 let b:=kE p.2 L.1
 let y:=G_ b.2 6
 (⟨m.1,d.1,s.1,L.1,t.1,e.1,i.1,p.1,b.1,strOf y.1⟩,y.2)
theorem acV(T:Tp)(l:List Int)(h:∀x∈l,I64 x):I64 (aK T l).1:=by
 unfold aK;rw[List.getD_eq_getElem?_getD];cases hl:l[(au T l.length).1.toNat]? with
 | none=>simp[I64]
 | some x=>exact h x (List.mem_of_getElem? hl)
theorem Vq:∀(n:Nat) (T:Tp),ak (CU n T).2=ak T
 | 0,T=>rfl
 | n+1,T=>by simp[CU,Vq n]
@[simp]theorem akB(T:Tp)(k:Int):ak (G_ T k).2=ak T:=by simp[G_,Vq]
@[simp]theorem akA(T:Tp)(k:Int):ak (kE T k).2=ak T:=by
 simp only[kE];split
 ·simp
 ·split
  ·simp
  ·split<;>simp
theorem RQ:∀(n:Nat) (T:Tp),(CU n T).1.length=n
 | 0,T=>rfl
 | n+1,T=>by simp[CU,RQ n]
theorem abb(l:List Int):(strOf l).size=l.length:=by
 have:∀(l:List Int) (r:ByteArray),(l.foldl (fun r n=>r.push (UInt8.ofNat n.toNat)) r).size=r.size+l.length:=by
  intro l
  induction l with
  | nil=>intro r;simp
  | cons x l ih=>intro r;simp[ih];omega
 simpa[strOf]using this l ByteArray.empty
theorem xR(T:Tp){k:Int}(hk:0≤k):(strOf (G_ T k).1).size≤k.toNat:=by
 have:=aQ T (a:=0) (b:=k) hk;rw[abb,G_,RQ];omega
def abc:ByteArray:=⟨#[97,98,99]⟩
def grow:Nat→ByteArray→ByteArray
 | 0,s=>s
 | n+1,s=>if s.size<62 then grow n (s++abc)else s
def yP(T:Tp)(p:Pk):Pk×Tp:=
 let s:=au T 9
 if s.1=0 then(⟨(iY s.2).1,p.bF,p.set,p.len,p.ttl,p.ent,p.ing,p.proto,p.bits,p.pay⟩,(iY s.2).2)
 else if s.1=1 then(⟨p.mode,(iY s.2).1,p.set,p.len,p.ttl,p.ent,p.ing,p.proto,p.bits,p.pay⟩,(iY s.2).2)
 else if s.1=2 then(⟨p.mode,p.bF,(iY s.2).1,p.len,p.ttl,p.ent,p.ing,p.proto,p.bits,p.pay⟩,(iY s.2).2)
 else if s.1=3 then(⟨p.mode,p.bF,p.set,(aK s.2 [0,8,16,24,63,64,65,-8]).1,p.ttl,p.ent,p.ing,p.proto,p.bits,p.pay⟩,(aK s.2 [0,8,16,24,63,64,65,-8]).2)
 else if s.1=4 then(⟨p.mode,p.bF,p.set,p.len,(iY s.2).1,p.ent,p.ing,p.proto,p.bits,p.pay⟩,(iY s.2).2)
 else if s.1=5 then(⟨p.mode,p.bF,p.set,p.len,p.ttl,(iY s.2).1,p.ing,p.proto,p.bits,p.pay⟩,(iY s.2).2)
 else if s.1=6 then(⟨p.mode,p.bF,p.set,p.len,p.ttl,p.ent,(iY s.2).1,p.proto,p.bits,p.pay⟩,(iY s.2).2)
 else if s.1=7 then(⟨p.mode,p.bF,p.set,p.len,p.ttl,p.ent,p.ing,(iY s.2).1,p.bits,p.pay⟩,(iY s.2).2)
 else(⟨p.mode,p.bF,p.set,p.len,p.ttl,p.ent,p.ing,p.proto,p.bits,grow 62 p.pay++strOf (G_ s.2 4).1⟩,(G_ s.2 4).2)
def bY(T:Tp)(n:Int):Pk×Tp:=
 if 0<n then
  if(dD (Bg T).2 n).1 then yP (dD (Bg T).2 n).2 (Bg T).1 else((Bg T).1,(dD (Bg T).2 n).2)
 else Bg T
def dX(p:Pk):TV:=.agg (p.cs.map .d)
set_option maxHeartbeats 2000000 in
theorem wC(T:Tp)(hT:ak T)(n:Int)(hn:I64 n):Contract Tryz.prog 40 [.ptr (.x 0) 0,.d (.int .i64 n)] [aJ T] (dX (bY T n).1) [aJ (bY T n).2] []:=by
 refine aj Tryz.func40 rfl (fun E0=>?_);refine cO.sound (g:=.mk) (ow:=[]) (kp:=(fun k=>k==0||k==1||k==4||k==5||k==6||k==39||k==41||k==45||k==56||k==61||k==66||k==71||k==77||k==82||k==87||k==92)) ?_;rw[Tryz.ntmps40];simp -dsimp;refine ah.of (C9 T hT) [.x 0] 0 ?_;simp -dsimp;generalize hL:aK T [8,8,16,32,64]=L;have kL:ak L.2:=by rw[←hL];simpa using hT
 have iL:I64 L.1:=by rw[←hL];exact acV _ _ (by simp[I64])
 have b1:=aS L.2 1 3;have b2:=aQ L.2 (a:=1) (b:=3) (by omega);refine ah.of (dw L.2 kL 1 3 ⟨by omega,by omega⟩ ⟨by omega,by omega⟩ ⟨by omega,by omega⟩ ⟨by omega,by omega⟩) [.x 0] 0 ?_;simp -dsimp;generalize hm:aT L.2 1 3=m at b1 b2⊢;have km:ak m.2:=by rw[←hm];simpa using kL
 have b3:=aS m.2 0 7;have b4:=aQ m.2 (a:=0) (b:=7) (by omega);refine ah.of (dw m.2 km 0 7 ⟨by omega,by omega⟩ ⟨by omega,by omega⟩ ⟨by omega,by omega⟩ ⟨by omega,by omega⟩) [.x 0] 0 ?_;simp -dsimp;generalize hd:aT m.2 0 7=d at b3 b4⊢;have kd:ak d.2:=by rw[←hd];simpa using km
 refine ah.of (fE d.2 kd [0,0,1,2,31] (by simp) (by simp)) [.x 0] 0 ?_;simp -dsimp[ints];generalize hs:aK d.2 [0,0,1,2,31]=s;have ks:ak s.2:=by rw[←hs];simpa using kd
 refine ah.of (fE s.2 ks [0,1,2,5,63] (by simp) (by simp)) [.x 0] 0 ?_;simp -dsimp[ints];generalize ht:aK s.2 [0,1,2,5,63]=t;have kt:ak t.2:=by rw[←ht];simpa using ks
 refine ah.of (bn t.2 kt 1024 ⟨by omega,by omega⟩) [.x 0] 0 ?_;simp -dsimp;generalize he:au t.2 1024=e;have ke:ak e.2:=by rw[←he];simpa using kt
 refine ah.of (fE e.2 ke [0,1,8,255,256] (by simp) (by simp)) [.x 0] 0 ?_;simp -dsimp[ints];generalize hi:aK e.2 [0,1,8,255,256]=i;have ki:ak i.2:=by rw[←hi];simpa using ke
 refine ah.of (bn i.2 ki 8 ⟨by omega,by omega⟩) [.x 0] 0 ?_;simp -dsimp;generalize hp:au i.2 8=p;have kp:ak p.2:=by rw[←hp];simpa using ki
 refine ah.of (zF p.2 kp L.1 iL) [.x 0] 0 ?_;simp -dsimp;generalize hb:kE p.2 L.1=b;have kb:ak b.2:=by rw[←hb];simpa using kp
 refine ah.of (agf b.2 kb 6 (by omega)) [.x 0] 0 ?_;simp -dsimp;generalize hy:G_ b.2 6=y;have ky:ak y.2:=by rw[←hy];simpa using kb
 have g0:Bg T=(⟨m.1,d.1,s.1,L.1,t.1,e.1,i.1,p.1,b.1,strOf y.1⟩,y.2):=by
  simp only[Bg,hL,hm,hd,hs,ht,he,hi,hp,hb,hy]
 by_cases hn0:0<n
 ·simp -dsimp[hn0];refine ah.of (gK y.2 ky n hn ⟨by omega,by have:=hn.2;omega⟩) [.x 0] 0 ?_;simp -dsimp[hn0];generalize ho:dD y.2 n=o;have ko:ak o.2:=by rw[←ho];simpa using ky
  cases ho1:o.1
  ·simp -dsimp[ho1];refine Fin.of ?_;simp[bY,hn0,g0,ho,ho1,dX,Pk.cs]
  ·simp -dsimp[ho1];refine ah.of (bn o.2 ko 9 ⟨by omega,by omega⟩) [.x 0] 0 ?_;simp -dsimp;generalize hq:au o.2 9=q;have kq:ak q.2:=by rw[←hq];simpa using ko
   refine qM.dec (fun c0=>?_) (fun c0=>?_)
   ·simp -dsimp;refine ah.of (qI q.2 kq) [.x 0] 0 ?_;simp -dsimp[ints];refine Fin.of ?_;simp[bY,hn0,g0,ho,ho1,yP,hq,dX,Pk.cs,c0]
   ·simp -dsimp[c0];refine qM.dec (fun c1=>?_) (fun c1=>?_)
    ·simp -dsimp;refine ah.of (qI q.2 kq) [.x 0] 0 ?_;simp -dsimp[ints];refine Fin.of ?_;simp[bY,hn0,g0,ho,ho1,yP,hq,dX,Pk.cs,c0,c1]
    ·simp -dsimp[c1];refine qM.dec (fun c2=>?_) (fun c2=>?_)
     ·simp -dsimp;refine ah.of (qI q.2 kq) [.x 0] 0 ?_;simp -dsimp[ints];refine Fin.of ?_;simp[bY,hn0,g0,ho,ho1,yP,hq,dX,Pk.cs,c0,c1,c2]
     ·simp -dsimp[c2];refine qM.dec (fun c3=>?_) (fun c3=>?_)
      ·simp -dsimp;refine ah.of (fE q.2 kq [0,8,16,24,63,64,65,-8] (by simp) (by simp)) [.x 0] 0 ?_;simp -dsimp[ints];refine Fin.of ?_;simp[bY,hn0,g0,ho,ho1,yP,hq,dX,Pk.cs,c0,c1,c2,c3]
      ·simp -dsimp[c3];refine qM.dec (fun c4=>?_) (fun c4=>?_)
       ·simp -dsimp;refine ah.of (qI q.2 kq) [.x 0] 0 ?_;simp -dsimp[ints];refine Fin.of ?_;simp[bY,hn0,g0,ho,ho1,yP,hq,dX,Pk.cs,c0,c1,c2,c3,c4]
       ·simp -dsimp[c4];refine qM.dec (fun c5=>?_) (fun c5=>?_)
        ·simp -dsimp;refine ah.of (qI q.2 kq) [.x 0] 0 ?_;simp -dsimp[ints];refine Fin.of ?_;simp[bY,hn0,g0,ho,ho1,yP,hq,dX,Pk.cs,c0,c1,c2,c3,c4,c5]
        ·simp -dsimp[c5];refine qM.dec (fun c6=>?_) (fun c6=>?_)
         ·simp -dsimp;refine ah.of (qI q.2 kq) [.x 0] 0 ?_;simp -dsimp[ints];refine Fin.of ?_;simp[bY,hn0,g0,ho,ho1,yP,hq,dX,Pk.cs,c0,c1,c2,c3,c4,c5,c6]
         ·simp -dsimp[c6];refine qM.dec (fun c7=>?_) (fun c7=>?_)
          ·simp -dsimp;refine ah.of (qI q.2 kq) [.x 0] 0 ?_;simp -dsimp[ints];refine Fin.of ?_;simp[bY,hn0,g0,ho,ho1,yP,hq,dX,Pk.cs,c0,c1,c2,c3,c4,c5,c6,c7]
          ·simp -dsimp[c7];refine aN.of [] (fun k=>k==0||k==1||k==4||k==5||k==6||k==39||k==41||k==45||k==56||k==61||k==66||k==71||k==77||k==82||k==87||k==92) (ι:={z:Nat×ByteArray // z.2.size≤100∧62-z.2.size≤z.1∧grow 62 (strOf y.1)=grow z.1 z.2}) (fun z=>[(Pl.s 0,It.v (.ptr (Pl.x 0) 0)),(Pl.s 1,It.v (.d (.int .i64 n))),
             (Pl.x 0,aJ q.2),(Pl.o 6,It.box [TV.d (.int .i64 m.1),TV.d (.int .i64 d.1),TV.d (.int .i64 s.1),
              TV.d (.int .i64 L.1),TV.d (.int .i64 t.1),TV.d (.int .i64 e.1),TV.d (.int .i64 i.1),TV.d (.int .i64 p.1),TV.d (bv b.1),TV.d (.str z.1.2)]),
             (Pl.s 6,It.v (.ptr (Pl.o 6) 0)),(Pl.s 4,It.v (.ptr (Pl.o 4) 0)),(Pl.o 4,It.box [TV.d (.int .i64 0),TV.d (.int .i64 0),TV.d (.int .i64 0),
              TV.d (.int .i64 0),TV.d (.int .i64 0),TV.d (.int .i64 0),TV.d (.int .i64 0),TV.d (.int .i64 0),TV.d (.int IntKind.u64 0),TV.d (.str ⟨#[]⟩)])]) (fun z=>z.1.1) ⟨(62,strOf y.1),by have:=xR b.2 (k:=6) (by omega);rw[hy]at this;simp at *;omega,by simp,rfl⟩ ?_ ?_
           ·exact GS.to (by simp)
           ·rintro⟨⟨z,w⟩,z1,z2,z3⟩;simp only at z1 z2 z3;simp -dsimp;refine qM.dec (fun h=>?_) (fun h=>?_)
            ·obtain⟨z,rfl⟩:∃x,z=x+1:=⟨z-1,by omega⟩
             have hs3:(w++abc).size=w.size+3:=ByteArray.size_append;simp -dsimp;refine⟨show w.size+3≤_ by omega,⟨(z,w++abc),by simp only[hs3];omega,by simp only[hs3];omega,?_⟩,GS.to (by simp[abc]),by simp⟩;rw[z3,grow,if_pos (by omega)]
            ·have hg:grow 62 (strOf y.1)=w:=by
              rw[z3];cases z with
              | zero=>rfl
              | succ z=>rw[grow,if_neg (by omega)]
             simp -dsimp;refine ah.of (agf q.2 kq 4 (by omega)) [.x 0] 0 ?_;have hsz:=xR q.2 (k:=4) (by omega);simp -dsimp;refine⟨by simp at *;omega,?_,⟨by kernel_rfl⟩⟩;refine Fin.of ?_;simp[bY,hn0,g0,ho,ho1,yP,hq,dX,Pk.cs,c0,c1,c2,c3,c4,c5,c6,c7,hg]
 ·simp -dsimp[hn0];refine Fin.of ?_;simp[bY,hn0,g0,dX,Pk.cs]
theorem new_c(l:List Int):Contract Tryz.prog 15 [.d (ints l)] [] (.ptr (.o 10) 0) [] [(10,aJ (l.take 600,0))]:=by
 refine aj Tryz.func15 rfl (fun E0=>?_);refine cO.sound (g:=.mk) (ow:=[]) (kp:=(fun k=>k==0||k==2||k==5)) ?_;rw[Tryz.ntmps15];simp -dsimp[ints];refine qM.dec (fun h=>?_) (fun h=>?_)
 ·simp -dsimp;refine⟨by omega,?_⟩;refine Fin.of ?_;simp[aJ,ints]
 ·simp -dsimp;refine Fin.of ?_;simp[aJ,ints,List.take_of_length_le (show l.length≤600 by omega)]
set_option maxRecDepth 100000
structure Lk where
 a:Int
 b:Int
 ca:Int
 cb:Int
 cap:Int
def Lk.cs(x:Lk):List D:=[.int .i64 x.a,.int .i64 x.b,.int .i64 x.ca,.int .i64 x.cb,.int .i64 x.cap]
def dO(l:List Lk):List (List D):=l.map Lk.cs
def Lk.before(y x:Lk):Bool:=decide (y.a<x.a)||(decide (y.a=x.a)&&decide (y.b<x.b))
def bU(x:Lk):List Lk→Nat
 | []=>0
 | y::r=>if y.before x then bU x r+1 else 0
def jO:List Lk→List Lk→List Lk
 | [],out=>out
 | x::l,out=>jO l (out.take (bU x out)++[x]++out.drop (bU x out))
@[simp]theorem anK(l:List Lk):(dO l).length=l.length:=by simp[dO]
theorem o8{l:List Lk}{i:Nat}{x:Lk}(h:l[i]? = some x):(dO l)[i]? = some x.cs:=by simp[dO,h]
theorem MQ{l:List Lk}{i:Nat}{x:Lk}(h:l[i]? = some x)(hi:i<(dO l).length):(dO l)[i]=x.cs:=by
 have:=o8 h;rw[List.getElem?_eq_getElem hi]at this
 simpa using this
theorem jo(l:List Lk):dLen 5 (dO l):=iF 5 _ _ fun _=>rfl
theorem Tn(l:List Lk)(hl:l.length≤1000):Contract Tryz.prog 76 [.d (.sl (dO l))] [] (.d (.sl (dO (jO l [])))) [] []:=by
 refine aj Tryz.func76 rfl (fun E0=>?_);refine cO.sound (g:=.mk) (ow:=[]) (kp:=(fun k=>k==0||k==2||k==3||k==4||k==5||k==6||k==10||k==55)) ?_;rw[Tryz.ntmps76];simp -dsimp;refine aN.of [] (fun k=>k==0||k==2||k==3||k==4||k==5||k==6||k==10||k==55) (ι:={i:Nat×List Lk // i.1≤l.length∧i.2.length=i.1∧jO l []=jO (l.drop i.1) i.2}) (fun i=>[(Pl.s 0,It.v (.d (.sl (dO l)))),
    (Pl.s 2,It.v (.c (Value.slice none 0 0))),(Pl.s 3,It.v (.d (.sl (dO i.1.2)))),
    (Pl.s 4,It.v (.d (.int .i64 i.1.1)))]) (fun i=>l.length-i.1.1) ⟨(0,[]),by simp,rfl,rfl⟩ ?_ ?_
 ·exact GS.J9 3 (by simp[dO])
 ·rintro⟨⟨i,out⟩,h1,h2,h3⟩;simp only at h1 h2 h3;simp -dsimp;refine qM.dec (fun h=>?_) (fun h=>?_)
  ·have hi:i<l.length:=by simpa using h
   obtain⟨x,hx⟩:∃x,l[i]? = some x:=⟨l[i],List.getElem?_eq_getElem hi⟩
   have hx':=MQ hx;have hdl:l.drop i=x::l.drop (i+1):=by rw[List.getElem?_eq_some_iff]at hx;obtain⟨_,rfl⟩:=hx;exact List.drop_eq_getElem_cons _
   simp -dsimp;refine aN.of [] (fun k=>k==0||k==2||k==3||k==4||k==5||k==6||k==10||k==55) (ι:={p:Nat // p≤out.length∧bU x out=p+bU x (out.drop p)}) (fun p=>[(Pl.s 0,It.v (.d (.sl (dO l)))),
    (Pl.s 2,It.v (.c (Value.slice none 0 0))),(Pl.s 3,It.v (.d (.sl (dO out)))),(Pl.s 4,It.v (.d (.int .i64 i))),(Pl.s 5,It.v (.d (.int .i64 p.1)))]) (fun p=>out.length-p.1) ⟨0,by omega,by simp⟩ ?_ ?_
   ·exact GS.to (by simp)
   ·rintro⟨p,p1,p2⟩;by_cases hp:p<out.length
    ·obtain⟨y,hy⟩:∃y,out[p]? = some y:=⟨out[p],List.getElem?_eq_getElem hp⟩
     have hy':=MQ hy;have hd:out.drop p=y::out.drop (p+1):=by rw[List.getElem?_eq_some_iff]at hy;obtain⟨_,rfl⟩:=hy;exact List.drop_eq_getElem_cons _
     by_cases c1:y.a<x.a
     ·simp -dsimp[hp,hi,hy',hx',Lk.cs,c1,wrap_i64 (n:=(p:Int)+1) (by omega) (by omega)];refine⟨⟨⟨p+1,by omega,?_⟩,GS.to (by simp),by simp;omega⟩,⟨by kernel_rfl⟩⟩;rw[p2,hd,bU,if_pos (by simp[Lk.before,c1])];omega
     ·by_cases c2:y.a=x.a
      ·by_cases c3:y.b<x.b
       ·simp -dsimp[hp,hi,hy',hx',Lk.cs,c1,c2,c3,wrap_i64 (n:=(p:Int)+1) (by omega) (by omega)];refine⟨⟨⟨p+1,by omega,?_⟩,GS.to (by simp),by simp;omega⟩,⟨by kernel_rfl⟩⟩;rw[p2,hd,bU,if_pos (by simp[Lk.before,c2,c3])];omega
       ·have hq:bU x out=p:=by rw[p2,hd,bU,if_neg (by simp[Lk.before,c2,c3])];omega
        simp -dsimp[hp,hi,hy',c1,c2,c3,hx',Lk.cs,wrap_i64 (n:=(i:Int)+1) (by omega) (by omega)];and_intros;all_goals try first|omega|exact⟨by kernel_rfl⟩|exact jo out|exact kJ (jo out)|exact ni (jo out)|exact ni (kJ (jo out))|(simp;omega)
        refine⟨⟨(i+1,out.take p++[x]++out.drop p),by omega,by simp;omega,?_⟩,GS.J9 3 ?_,by simp;omega⟩
        ·rw[h3,hdl,jO,hq]
        ·simp;refine⟨by omega,?_⟩;simp[dO,Lk.cs,List.take_of_length_le]
      ·have hq:bU x out=p:=by rw[p2,hd,bU,if_neg (by simp[Lk.before,c1,c2])];omega
       simp -dsimp[hp,hi,hy',c1,c2,hx',Lk.cs,wrap_i64 (n:=(i:Int)+1) (by omega) (by omega)];and_intros;all_goals try first|omega|exact⟨by kernel_rfl⟩|exact jo out|exact kJ (jo out)|exact ni (jo out)|exact ni (kJ (jo out))|(simp;omega)
       refine⟨⟨(i+1,out.take p++[x]++out.drop p),by omega,by simp;omega,?_⟩,GS.J9 3 ?_,by simp;omega⟩
       ·rw[h3,hdl,jO,hq]
       ·simp;refine⟨by omega,?_⟩;simp[dO,Lk.cs,List.take_of_length_le]
    ·have hq:bU x out=p:=by rw[p2,List.drop_eq_nil_of_le (by omega),bU];omega
     simp -dsimp[hp,hi,hx',Lk.cs,wrap_i64 (n:=(i:Int)+1) (by omega) (by omega)];and_intros;all_goals try first|omega|exact⟨by kernel_rfl⟩|exact jo out|exact kJ (jo out)|exact ni (jo out)|exact ni (kJ (jo out))|(simp;omega)
     refine⟨⟨(i+1,out.take p++[x]++out.drop p),by omega,by simp;omega,?_⟩,GS.J9 3 ?_,by simp;omega⟩
     ·rw[h3,hdl,jO,hq]
     ·simp;refine⟨by omega,?_⟩;simp[dO,Lk.cs,List.take_of_length_le]
  ·simp -dsimp;refine Fin.of ?_;have:l.drop i = []:=List.drop_eq_nil_of_le (by simpa using h);simp[h3,this,jO]
end Go.Proofs
