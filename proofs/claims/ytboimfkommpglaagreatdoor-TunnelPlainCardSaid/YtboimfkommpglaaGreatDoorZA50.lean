/-
  What functions of the program compute, stated as contracts over plain data; the conditions of each stand in its own statement.
-/
import Derived.Test.YtboimfkommpglaaGreatDoorZA11
import Derived.Test.YtboimfkommpglaaGreatDoorZA06
import Derived.Test.YtboimfkommpglaaGreatDoorZA10
import Derived.KernelRfl
import Derived.Test.YtboimfkommpglaaGreatDoorChecked
import Derived.Test.YtboimfkommpglaaGreatDoorZA12
import Derived.Test.YtboimfkommpglaaGreatDoorZA13
namespace Go.Proofs
open Go Go.Tr
@[simp]theorem Rx:aZ Tryz.prog 29=true:=by kernel_rfl
@[simp]theorem aiI:aZ Tryz.prog 43=true:=by kernel_rfl
@[simp]theorem Z_:aZ Tryz.prog 44=true:=by kernel_rfl
@[simp]theorem aoA:aZ Tryz.prog 50=true:=by kernel_rfl
end Go.Proofs

set_option linter.unusedSimpArgs false
set_option linter.unusedVariables false
namespace Go.Tr
open Go
section
variable {P:Program} {A:eX}
def En.bf(E:En)(ν:List Pl)(rs:List (Nat×Nat)):En:=
 {w:=E.w,St:=E.St,blk:=fun p=>match p with|.x i=>(ν[i]?).bind E.blk|_=>none,val:=fun j=>(pO rs j).bind E.val}
theorem ng(E:En)(ν:List Pl)(rs:List (Nat×Nat)):J_ E (E.bf ν rs):=⟨fun _ _ h=>h,fun _ _ _=>rfl⟩
mutual
theorem sO{ν:List Pl}{rs:List (Nat×Nat)}{E:En}(hn:(rs.map (·.1)).Nodup):∀{v v':TV} {u:Value},v.iw ν rs=some v'→aA E v u→aA (E.bf ν rs) v' u
 | .junk,v',u,h,_=>by simp only[TV.iw,Option.some.injEq]at h;subst h;simp only[aA]
 | .d x,v',u,h,hr=>by
   simp only[TV.iw,Option.some.injEq]at h;subst h;simp only[aA]at hr⊢;exact Rep.ext (ng E ν rs) x u hr
 | .c v,v',u,h,hr=>by
   simp only[TV.iw,Option.some.injEq]at h;simp only[aA]at hr;subst hr;subst h;simp only[aA]
 | .agg vs,v',u,h,hr=>by
   simp only[TV.iw]at h;split at h
   ·rename_i vs' hv;simp only[Option.some.injEq]at h;subst h;simp only[aA]at hr⊢;obtain⟨us,hu,hs⟩:=hr;exact⟨us,hu,iV hn hv hs⟩
   ·simp at h
 | .rG vs,v',u,h,_=>by simp[TV.iw]at h
 | .aB id n,v',u,h,hr=>by
   simp only[TV.iw]at h;split at h
   ·rename_i j hj;simp only[Option.some.injEq]at h;subst h;simp only[aA]at hr⊢;obtain⟨h1,k,c,v,h2,h3⟩:=hr;exact⟨h1,k,c,v,by simp only[En.bf,GY hn (Dp hj),Option.bind_some];exact h2,h3⟩
   ·simp at h
 | .ptr p q,v',u,h,hr=>by
   simp only[TV.iw]at h;split at h
   ·rename_i i hi;simp only[Option.some.injEq]at h;subst h;simp only[aA]at hr⊢;obtain⟨b,hb,hu⟩:=hr;obtain⟨_,h2⟩:=zS hi;exact⟨b,by simpa[En.bf,h2]using(by simpa using h2:ν[i]? = some p)▸hb,hu⟩
   ·simp at h
 | .ep e q,v',u,h,hr=>by
   simp only[TV.iw,Option.some.injEq]at h;subst h;simp only[aA]at hr⊢;obtain⟨b,o,hu,hc⟩:=hr;exact⟨b,o,hu,bQ.ext (ng E ν rs) b o e hc⟩
 | .rQ _ _ _ _,v',u,h,_=>by simp[TV.iw]at h
 | .mref _,v',u,h,_=>by simp[TV.iw]at h
 | .sx _,v',u,h,_=>by simp[TV.iw]at h
 | .NS _ _ _,v',u,h,_=>by simp[TV.iw]at h
 | .clo f vs,v',u,h,hr=>by
   simp only[TV.iw]at h;split at h
   ·rename_i vs' hv;simp only[Option.some.injEq]at h;subst h;simp only[aA]at hr⊢;obtain⟨us,hu,hs⟩:=hr;exact⟨us,hu,iV hn hv hs⟩
   ·simp at h
theorem iV{ν:List Pl}{rs:List (Nat×Nat)}{E:En}(hn:(rs.map (·.1)).Nodup):∀{vs vs':List TV} {us:List Value},TV.fB ν rs vs=some vs'→aP E vs us→aP (E.bf ν rs) vs' us
 | [],vs',us,h,hr=>by
   simp only[TV.fB,Option.some.injEq]at h;subst h;simpa only[aP]using hr
 | v::vs,vs',us,h,hr=>by
   simp only[TV.fB]at h;split at h
   ·rename_i v1 vs1 h1 h2;simp only[Option.some.injEq]at h;subst h;simp only[aP]at hr⊢;obtain⟨u,us',hu,g1,g2⟩:=hr;exact⟨u,us',hu,sO hn h1 g1,iV hn h2 g2⟩
   ·simp at h
end
theorem iW{t:S}{ν:List Pl}{rs:List (Nat×Nat)}:∀{l:List Pl} {xs:List It},fD t ν rs l=some xs→xs.length=l.length∧∀(i:Nat) (p:Pl),l[i]? = some p→∃cs cs',t p = .box cs∧TV.fB ν rs cs=some cs'∧xs[i]? = some (.box cs')
 | [],xs,h=>by simp only[fD,Option.some.injEq]at h;subst h;simp
 | p::l,xs,h=>by
   simp only[fD]at h;split at h
   ·rename_i it is h1 h2;simp only[Option.some.injEq]at h;subst h;obtain⟨h3,h4⟩:=iW h2;refine⟨by simp[h3],fun i q hq=>?_⟩;cases i with
    | zero=>
      simp at hq;subst hq;unfold KR at h1;split at h1
      ·rename_i cs hcs;split at h1
       ·rename_i cs' hcs';simp only[Option.some.injEq]at h1;subst h1;exact⟨cs,cs',hcs,hcs',by simp⟩
       ·simp at h1
      ·simp at h1
    | succ i=>simpa using h4 i q (by simpa using hq)
   ·simp at h
theorem qB{t t':S}{ν:List Pl}{rs:List (Nat×Nat)}:∀{l:List Pl},(∀p∈l,t' p=t p)→fD t' ν rs l=fD t ν rs l
 | [],_=>rfl
 | p::l,h=>by simp only[fD];rw[h p (by simp),qB fun q hq=>h q (by simp[hq])]
theorem lF{ν:List Pl}{rs:List (Nat×Nat)}:∀{vs vs':List TV},TV.fB ν rs vs=some vs'→vs'.length=vs.length
 | [],vs',h=>by simp only[TV.fB,Option.some.injEq]at h;subst h;rfl
 | v::vs,vs',h=>by
   simp only[TV.fB]at h;split at h
   ·rename_i h1 h2;simp only[Option.some.injEq]at h;subst h;simp[lF h2]
   ·simp at h
theorem lD{ν:List Pl}{rs:List (Nat×Nat)}{E:En}(hn:(rs.map (·.1)).Nodup){us:List Value}:∀{o:Nat} {vs vs':List TV},TV.fB ν rs vs=some vs'→bG E us o vs→bG (E.bf ν rs) us o vs'
 | o,[],vs',h,_=>by simp only[TV.fB,Option.some.injEq]at h;subst h;trivial
 | o,v::vs,vs',h,⟨⟨u,h1,h2,h3⟩,hr⟩=>by
   simp only[TV.fB]at h;split at h
   ·rename_i v1 vs1 g1 g2;simp only[Option.some.injEq]at h;subst h;exact⟨⟨u,h1,h2,sO hn g1 h3⟩,lD hn g2 hr⟩
   ·simp at h
theorem qC{ν:List Pl}{rs:List (Nat×Nat)}{i i':It}(h:Ea ν rs i=some i'):∃e z es es',i = .row e z es false∧iG ν rs es=some es'∧i' = .row e z es' false:=by
 unfold Ea at h;split at h
 ·rename_i e z es;split at h
  ·rename_i es' hes;simp only[Option.some.injEq]at h;exact⟨e,z,es,es',rfl,hes,h.symm⟩
  ·simp at h
 ·simp at h
theorem lG{ν:List Pl}{rs:List (Nat×Nat)}:∀{es es':List (List TV)},iG ν rs es=some es'→es'.length=es.length
 | [],_,h=>by simp only[iG,Option.some.injEq]at h;subst h;rfl
 | e::es,_,h=>by
   simp only[iG]at h;split at h
   ·rename_i h1 h2;simp only[Option.some.injEq]at h;subst h;simp[lG h2]
   ·simp at h
theorem nY{ν:List Pl}{rs:List (Nat×Nat)}{E:En}(hn:(rs.map (·.1)).Nodup){us:List Value}{k:Nat}:∀{o:Nat} {es es':List (List TV)},iG ν rs es=some es'→dK E us k o es→dK (E.bf ν rs) us k o es'
 | _,[],_,h,_=>by simp only[iG,Option.some.injEq]at h;subst h;trivial
 | _,e::es,_,h,⟨h1,h2,hr⟩=>by
   simp only[iG]at h;split at h
   ·rename_i g1 g2;simp only[Option.some.injEq]at h;subst h;exact⟨by rw[lF g1];exact h1,lD hn g1 h2,nY hn g2 hr⟩
   ·simp at h
theorem sU{t:S}{ν:List Pl}{rs:List (Nat×Nat)}{j:Nat}:∀{l:List (Nat×Nat)} {ri:List (Nat×It)},oM t ν rs l=some ri→(pO l j=none→qx ri j = .none)∧∀k,pO l j=some k→Ea ν rs (t (.o k))=some (qx ri j)
 | [],ri,h=>by
   simp only[oM,Option.some.injEq]at h;subst h;exact⟨fun _=>rfl,fun k h=>by simp[pO]at h⟩
 | (a,b)::l,ri,h=>by
   simp only[oM]at h;split at h
   ·rename_i i r h1 h2;simp only[Option.some.injEq]at h;subst h;obtain⟨g1,g2⟩:=sU (j:=j) h2;simp only[pO,qx];by_cases e:j=a
    ·simp only[if_pos e];exact⟨fun h=>by simp at h,fun k h=>by simp only[Option.some.injEq]at h;subst h;exact h1⟩
    ·simp only[if_neg e];exact⟨g1,g2⟩
   ·simp at h
theorem qF{t:S}{ν:List Pl}{rs:List (Nat×Nat)}:∀{l:List (Nat×Nat)} {ri:List (Nat×It)},oM t ν rs l=some ri→∀x∈l,∃e z es,t (.o x.2) = .row e z es false
 | [],_,_,x,hx=>by simp at hx
 | (a,b)::l,ri,h,x,hx=>by
   simp only[oM]at h;split at h
   ·rename_i i r h1 h2;rcases List.mem_cons.1 hx with rfl|hx
    ·obtain⟨e,z,es,_,h3,_⟩:=qC h1;exact⟨e,z,es,h3⟩
    ·exact qF h2 x hx
   ·simp at h
theorem y9{t t':S}{ν:List Pl}{rs:List (Nat×Nat)}:∀{l:List (Nat×Nat)},(∀x∈l,t' (.o x.2)=t (.o x.2))→oM t' ν rs l=oM t ν rs l
 | [],_=>rfl
 | (a,b)::l,h=>by simp only[oM];rw[h (a,b) (by simp),y9 fun x hx=>h x (by simp[hx])]
theorem fM{E:En}{ν:List Pl}{rs:List (Nat×Nat)}{p:Pl}{b:Nat}(h:(E.bf ν rs).own p=some b):
  (∃i q,p = .x i∧ν[i]? = some q∧E.blk q=some b∧E.own q=some b)∨(∃j k x,p = .o j∧(j,k)∈rs∧pO rs j=some k∧E.val k=some x∧x.2.2.ownBlock=some b):=by
 cases p with
 | s k=>simp[En.own,En.bf]at h
 | x i=>
   left;unfold En.own at h;split at h
   ·rename_i b2 hb;simp only[Option.some.injEq]at h;subst h;have hb:(ν[i]?).bind E.blk=some b2:=hb;cases hp:ν[i]? with
    | none=>simp[hp]at hb
    | some p=>
      simp only[hp,Option.bind_some]at hb;exact⟨i,p,rfl,hp,hb,by simp[En.own,hb]⟩
   ·simp at h
 | o j=>
   right;simp only[En.own,En.bf]at h;cases hk:pO rs j with
   | none=>simp[hk]at h
   | some k=>
     simp only[hk,Option.bind_some]at h;cases hv:E.val k with
     | none=>simp[hv]at h
     | some x=>
       simp only[hv,Option.bind_some]at h;exact⟨j,k,x,rfl,FC hk,hk,hv,h⟩
theorem jQ.bf{t:S}{a:Act}{E:En}(hi:dL A t a E){ν:List Pl}{rs:List (Nat×Nat)}{qK:List It}(Aq:ν.Nodup)(hI:fD t ν rs ν=some qK)(sJ:∀p∈ν,qw p=true)
  (hr1:(rs.map (·.1)).Nodup) (hr2:(rs.map (·.2)).Nodup) {ri:List (Nat×It)} (hrs:oM t ν rs rs=some ri):jQ (E.bf ν rs) (h_ qK ri):=by
 obtain⟨hl0,hIs⟩:=iW hI;have hrow:∀{j k},(j,k)∈rs→∃e z es,t (.o k) = .row e z es false:=fun h=>qF hrs _ h
 have sF:∀{k x b},E.val k=some x→x.2.2.ownBlock=some b→(∃j,(j,k)∈rs)→E.own (.o k)=some b:=fun {k x b} h1 h2 ⟨j,h3⟩=>by
  obtain⟨e,z,es,h4⟩:=hrow h3;have:=hi.h.item (.o k) (by simp);rw[h4]at this
  simp[En.own,this.1,h1,h2]
 refine⟨fun p hps=>?_,fun k=>rfl,fun p q b' h1 h2=>?_,fun p b' h1=>?_,fun b' o h=>hi.h.oQ b' o h,fun b' o h p hp=>?_,fun y hy=>bQ.ext (ng E ν rs) _ _ _ (hi.h.gl y hy)⟩
 ·cases p with
  | s k=>exact absurd rfl (hps k)
  | o j=>
    simp only[h_];obtain⟨hl1,hl2⟩:=sU (j:=j) hrs;cases hk:pO rs j with
    | none=>rw[hl1 hk];exact fun id e=>by simp only[Pl.o.injEq]at e;subst e;exact⟨rfl,by simp[En.bf,hk]⟩
    | some k=>
      obtain⟨e,z,es,es',h4,h5,h6⟩:=qC (hl2 k hk);have hit:=hi.h.item (.o k) (by simp);rw[h6];simp only[h4]at hit;obtain⟨g0,id,v,us,g1,g2,g3,g4⟩:=hit;simp only[Pl.o.injEq]at g1;subst g1;refine⟨rfl,j,v,us,rfl,by simp only[En.bf,hk,Option.bind_some];rw[lG h5];exact g2,?_,nY hr1 h5 g4⟩;rw[lG h5];exact g3
  | x i=>
    cases hp:ν[i]? with
    | none=>
      have:qK.length≤i:=by rw[hl0];exact List.getElem?_eq_none_iff.1 hp
      simp only[h_,List.getD,List.getElem?_eq_none this,Option.getD_none];exact fun id h=>by simp at h
    | some p=>
      obtain⟨cs,cs',h1,h2,h3⟩:=hIs i p hp;have hpm:=List.mem_of_getElem? hp;simp only[h_,List.getD,h3,Option.getD_some];have RX:∀k,p≠.s k:=fun k e=>by subst e;have:=sJ _ hpm;simp[qw]at this
      have hit:=hi.h.item p RX;rw[h1]at hit
      obtain⟨_,b',ty,us,g1,g2,g3,g4⟩:=hit;refine⟨fun id h=>by simp at h,b',ty,us,?_,g2,by rw[g3,lF h2],lD hr1 h2 g4⟩
      show(ν[i]?).bind E.blk=some b'
      rw[hp];exact g1
 ·rcases fM h1 with⟨i,p',rfl,k1,_,k2⟩|⟨j,k,x,rfl,m1,_,v1,o1⟩<;>rcases fM h2 with⟨i',q',rfl,k3,_,k4⟩|⟨j',k',x',rfl,m2,_,v2,o2⟩
  ·have:=hi.h.inj p' q' b' k2 k4;subst this;have e1:=(List.getElem?_eq_some_iff.1 k1).2;have e2:=(List.getElem?_eq_some_iff.1 k3).2;rw[(List.getElem_inj Aq).1 (e1.trans e2.symm)]
  ·have:=hi.h.inj p' (.o k') b' k2 (sF v2 o2 ⟨_,m2⟩);subst this;obtain⟨cs,_,g1,_⟩:=hIs i _ k1;obtain⟨e,z,es,g2⟩:=hrow m2;rw[g1]at g2;simp at g2
  ·have:=hi.h.inj q' (.o k) b' k4 (sF v1 o1 ⟨_,m1⟩);subst this;obtain⟨cs,_,g1,_⟩:=hIs i' _ k3;obtain⟨e,z,es,g2⟩:=hrow m1;rw[g1]at g2;simp at g2
  ·have:=hi.h.inj (.o k) (.o k') b' (sF v1 o1 ⟨_,m1⟩) (sF v2 o2 ⟨_,m2⟩);simp only[Pl.o.injEq]at this;subst this;rw[JI hr2 m1 m2]
 ·rcases fM h1 with⟨i,p',rfl,k1,_,k2⟩|⟨j,k,x,rfl,m1,_,v1,o1⟩
  ·exact hi.h.size p' b' k2
  ·exact hi.h.size _ b' (sF v1 o1 ⟨_,m1⟩)
 ·rcases fM hp with⟨i,p',rfl,k1,_,k2⟩|⟨j,k,x,rfl,m1,_,v1,o1⟩
  ·obtain⟨e,k,es,k3,_⟩:=hi.h.sep b' o h p' k2;obtain⟨cs,_,h1,_⟩:=hIs i p' k1;rw[h1]at k3;simp at k3
  ·obtain⟨e,z,es,k3,_⟩:=hi.h.sep b' o h _ (sF v1 o1 ⟨_,m1⟩);obtain⟨e2,z2,es2,g2⟩:=hrow m1;rw[g2]at k3;simp at k3
theorem dL.F9{t:S}{a:Act}{E:En}(hi:dL A t a E){ν:List Pl}{rs:List (Nat×Nat)}{qK dF:List It}{ro:List (Nat×It)}{b:Nat}(Aq:ν.Nodup)(sJ:∀p∈ν,qw p=true)(hI:fD t ν rs ν=some qK)
  (hr1:(rs.map (·.1)).Nodup) (hr2:(rs.map (·.2)).Nodup) {ri:List (Nat×It)} (hrs:oM t ν rs rs=some ri)
  (hl:dF.length=ν.length) (hbox:∀i∈dF,gU i=true) (CW:∀x∈ro,isObj x.2=true) (hfree:∀x∈ro,t (.o (b+x.1)) = .none)
  {r:TV} {u:Value} {E':En} (hp:Post (E.bf ν rs) dF ro r u E') :
  ∃E2:En,E2.w=E'.w∧dL A (over t (wx ν b ν dF++(wo ν b ro++wr rs))) a E2∧aA E2 (r.back ν b) u:=by
 obtain⟨hl0,hIs⟩:=iW hI;have hrow:∀{k},k∈rs.map (·.2)→∃e z es,t (.o k) = .row e z es false:=fun h=>by
  obtain⟨x,hx,rfl⟩:=List.mem_map.1 h;exact qF hrs _ hx
 have Ip:∀{k},k∈rs.map (·.2)→E.blk (.o k)=none∧∃z c v,E.val k=some (z,c,v)∧E.own (.o k)=v.ownBlock:=fun {k} h=>by
  obtain⟨e,z,es,h4⟩:=hrow h;have hit:=hi.h.item (.o k) (by simp);rw[h4]at hit
  obtain⟨g0,id,v,us,g1,g2,_,_⟩:=hit;simp only[Pl.o.injEq]at g1;subst g1;exact⟨g0,_,_,v,g2,by simp[En.own,g0,g2]⟩
 have wR:∀{i:Nat} {p:Pl},ν[i]? = some p→∃cs,t p = .box cs:=fun h=>by
  obtain⟨cs,_,h1,_⟩:=hIs _ _ h;exact⟨cs,h1⟩
 have P5:∀{p:Pl},p∈ν→∀k,p≠.s k:=fun hp k e=>by subst e;have:=sJ _ hp;simp[qw]at this
 have JO:∀{k},k∈rs.map (·.2)→Pl.o k∉ν:=fun h hp=>by
  obtain⟨i,hi'⟩:=List.getElem?_of_mem hp;obtain⟨cs,g⟩:=wR hi';obtain⟨e,z,es,h4⟩:=hrow h;rw[g]at h4;simp at h4
 let nw:Nat→Option Nat:=fun k=>if b≤k∧(k-b)∈ro.map (·.1)then some (k-b)else none
 have hnw:∀{k j},nw k=some j↔k=b+j∧j∈ro.map (·.1):=fun {k j}=>by
  simp only[nw];constructor
  ·intro h;split at h
   ·rename_i h1;simp only[Option.some.injEq]at h;subst h;exact⟨by omega,h1.2⟩
   ·simp at h
  ·rintro⟨rfl,h⟩;rw[if_pos ⟨by omega,by rw[show b+j-b=j by omega];exact h⟩];simp
 have jV:∀{k j},nw k=some j→t (.o k) = .none:=fun h=>by
  obtain⟨rfl,h1⟩:=hnw.1 h;obtain⟨x,hx,rfl⟩:=List.mem_map.1 h1;exact hfree x hx
 have vW:∀{k j},nw k=some j→E.blk (.o k)=none∧E.val k=none:=fun {k j} h=>by
  have:=hi.h.item (.o k) (by simp);rw[jV h]at this
  exact this k rfl
 have hnr:∀{k j},nw k=some j→k∉rs.map (·.2):=fun h g=>by
  obtain⟨e,z,es,h4⟩:=hrow g;rw[jV h]at h4;simp at h4
 let E2:En:={w:=E'.w,St:=E'.St,blk:=fun p=>match p with|.o k=>(match nw k with|some j=>E'.blk (.o j)|none=>E.blk (.o k))|p=>E.blk p,
             val:=fun k=>match nw k with|some j=>E'.val j|none=>if k∈rs.map (·.2)then(E.val k).map (fun x=>(x.1,x.2.1+1,.slice none 0 0))else E.val k}
 have eG:∀{p:Pl},(∀k j,p = .o k→nw k≠some j)→E2.blk p=E.blk p:=fun {p} h=>by
  cases p with
  | o k=>
    simp only[E2];cases hn:nw k with
    | none=>rfl
    | some j=>exact absurd hn (h k j rfl)
  | s k=>rfl
  | x k=>rfl
 have iq:∀{k:Nat},(∀j,nw k≠some j)→k∉rs.map (·.2)→E2.val k=E.val k:=fun {k} h g=>by
  simp only[E2];cases hn:nw k with
  | none=>rw[if_neg g]
  | some j=>exact absurd hn (h j)
 have sH:∀{k:Nat},k∈rs.map (·.2)→E2.val k=(E.val k).map (fun x=>(x.1,x.2.1+1,.slice none 0 0)):=fun {k} g=>by
  simp only[E2];cases hn:nw k with
  | none=>rw[if_pos g]
  | some j=>exact absurd g (hnr hn)
 have ig:∀{k j:Nat},nw k=some j→E2.blk (.o k)=E'.blk (.o j)∧E2.val k=E'.val j:=fun {k j} h=>by simp only[E2,h,and_self]
 have dN:∀{p:Pl},(∀k j,p = .o k→nw k≠some j)→(∀k,p = .o k→k∉rs.map (·.2))→E2.own p=E.own p:=fun {p} h g=>
  En.lU (eG h) (fun id e=>iq (fun j=>h id j e) (g id e))
 have dM:∀{k j:Nat},nw k=some j→E2.own (.o k)=E'.own (.o j):=fun {k j} h=>by
  obtain⟨h1,h2⟩:=ig h;simp only[En.own,h1,h2]
 have fU:∀{k},k∈rs.map (·.2)→E2.own (.o k)=none:=fun {k} h=>by
  obtain⟨g1,z,c,v,g2,_⟩:=Ip h;have hb:E2.blk (.o k)=none:=by
   rw[eG (p:=.o k)]
   ·exact g1
   ·intro k' j e hn;simp only[Pl.o.injEq]at e;subst e;exact hnr hn h
  simp only[En.own,hb,sH h,g2,Option.map_some,Option.bind_some,Value.ownBlock]
 have hcx:∀i,(E.bf ν rs).blk (.x i)=(ν[i]?).bind E.blk:=fun i=>rfl
 have hown2:∀{j b'},(E.bf ν rs).own (.o j)=some b'→∃k,k∈rs.map (·.2)∧E.own (.o k)=some b':=fun {j b'} h=>by
  rcases fM h with⟨i,q,e,_⟩|⟨j',k,x,e,m,_,v,o⟩
  ·simp at e
  ·have hk:k∈rs.map (·.2):=List.mem_map.2 ⟨_,m,rfl⟩;obtain⟨_,z,c,v',g2,g3⟩:=Ip hk;rw[v]at g2;simp only[Option.some.injEq]at g2;subst g2
   exact⟨k,hk,g3.trans o⟩
 have lV:∀{i b'},(E.bf ν rs).blk (.x i)=some b'→∃p,ν[i]? = some p∧E.blk p=some b'∧E.own p=some b':=fun {i b'} h=>by
  rw[hcx]at h
  cases hp:ν[i]? with
  | none=>simp[hp]at h
  | some p=>
    simp only[hp,Option.bind_some]at h;exact⟨p,rfl,h,by simp[En.own,h]⟩
 have CY:∀{b' o},E.St b' o→E'.w.heap[b']? = E.w.heap[b']? :=fun {b' o} h=>hp.fr.old b' (hi.h.oQ _ _ h) (fun i hx=>by
  obtain⟨p,h1,h2,h3⟩:=lV hx;obtain⟨cs,h4⟩:=wR h1;obtain⟨e,k,es,h5,_⟩:=hi.h.sep _ _ h p h3;rw[h4]at h5;simp at h5) (fun j hj=>by
  obtain⟨k,h1,h2⟩:=hown2 hj;obtain⟨e,z,es,h5,_⟩:=hi.h.sep _ _ h _ h2;obtain⟨e',z',es',h6⟩:=hrow h1;rw[h6]at h5;simp at h5)
 have x:qN E E2:=by
  refine⟨fun b' o h=>hp.fr.st b' o h,fun b' o h=>fC (CY h),fun id b' _ h=>?_,fun i b' h=>h,fun i b' h=>h,fun id k c v _ h=>?_⟩
  ·rw[eG]
   ·exact h
   ·rintro k j e hn;simp only[Pl.o.injEq]at e;subst e;rw[(vW hn).1]at h;simp at h
  ·by_cases hr:id∈rs.map (·.2)
   ·exact⟨c+1,.slice none 0 0,by rw[sH hr,h];rfl,by omega,fun e=>by omega⟩
   ·refine⟨c,v,?_,Nat.le_refl _,fun _=>rfl⟩;rw[iq _ hr]
    ·exact h
    ·intro j hn;rw[(vW hn).2]at h;simp at h
 have hmem:∀{j:Nat},(E'.blk (.o j)≠none∨E'.val j≠none)→j∈ro.map (·.1):=fun {j} h=>by
  by_cases hj:j∈ro.map (·.1)
  ·exact hj
  ·have:=hp.h.item (.o j) (by simp);simp only[h_,zT hj]at this;obtain⟨h1,h2⟩:=this j rfl;rcases h with h|h
   ·exact absurd h1 h
   ·exact absurd h2 h
 have hback:∀{v:TV} {u:Value},aA E' v u→aA E2 (v.back ν b) u:=fun {v u} h=>by
  refine Ci (E':=E') (E2:=E2) ⟨fun _ _ h=>h,fun _ _ _=>rfl⟩ (fun i b' hb=>?_) (fun id b' hb=>?_) (fun id y hy=>?_) hp.h.frees h
  ·rw[hp.fr.xb]at hb
   obtain⟨p,h1,h2,h3⟩:=lV hb;have hg:ν.getD i (.s 0)=p:=by simp[List.getD,h1]
   rw[hg,eG]
   ·exact h2
   ·rintro k j rfl hn;rw[(vW hn).1]at h2;simp at h2
  ·have hj:=hmem (j:=id) (.inl (by rw[hb];simp));rw[(ig (hnw.2 ⟨rfl,hj⟩)).1];exact hb
  ·have hj:=hmem (j:=id) (.inr (by rw[hy];simp));rw[(ig (hnw.2 ⟨rfl,hj⟩)).2];exact hy
 have JM:∀{p:Pl},(∀k j,p = .o k→nw k≠some j)→∀j∈ro.map (·.1),p≠.o (b+j):=fun h j hj e=>h _ j e (hnw.2 ⟨rfl,hj⟩)
 have qp:∀{p:Pl},p∈ν→∀k j,p = .o k→nw k≠some j:=fun {p} gJ k j e hn=>by
  subst e;obtain⟨i,hi'⟩:=List.getElem?_of_mem gJ;obtain⟨cs,h⟩:=wR hi';rw[jV hn]at h;simp at h
 have oG:∀p,over t (wx ν b ν dF++(wo ν b ro++wr rs)) p=if p∈ν then over t (wx ν b ν dF) p else over (over t (wr rs)) (wo ν b ro) p:=fun p=>by
  rw[oO,oO];split
  ·rename_i h;obtain⟨i,h1⟩:=List.getElem?_of_mem h;have hil:i<dF.length:=by rw[hl];exact(List.getElem?_eq_some_iff.1 h1).1
   rw[uz Aq hl h1 (List.getElem?_eq_getElem hil),uz Aq hl h1 (List.getElem?_eq_getElem hil)]
  ·rename_i h;rw[DF h]
 have hold:∀{p:Pl},p∉ν→(∀k j,p = .o k→nw k≠some j)→(∀k,p = .o k→k∉rs.map (·.2))→over t (wx ν b ν dF++(wo ν b ro++wr rs)) p=t p:=fun h1 h2 h3=>by
  rw[oG,if_neg h1,uK (JM h2),FX (fun k hk e=>h3 k e hk)]
 have MC:∀{k},k∈rs.map (·.2)→over t (wx ν b ν dF++(wo ν b ro++wr rs)) (.o k) = .v .junk:=fun {k} h=>by
  rw[oG,if_neg (JO h),uK (JM (p:=.o k) (fun k' j e hn=>by simp only[Pl.o.injEq]at e;subst e;exact hnr hn h)),O9 h]
 have hH:jQ E2 (over t (wx ν b ν dF++(wo ν b ro++wr rs))):=by
  refine⟨fun p hps=>?_,fun k=>hi.h.frees k,fun p q b' h1 h2=>?_,fun p b' h1=>?_,fun b' o h1=>hp.h.oQ b' o h1,fun b' o h1 p h2=>?_,fun y hy=>bQ.ext x.r _ _ _ (hi.h.gl y hy)⟩
  ·by_cases gJ:p∈ν
   ·obtain⟨i,h1⟩:=List.getElem?_of_mem gJ;have hil:i<dF.length:=by rw[hl];exact(List.getElem?_eq_some_iff.1 h1).1
    rw[oG,if_pos gJ,uz Aq hl h1 (List.getElem?_eq_getElem hil)];have hb:=hbox dF[i] (List.getElem_mem hil);have hit:=hp.h.item (.x i) (by simp);have hr:h_ dF ro (.x i)=dF[i]:=by simp[h_,List.getD,hil]
    rw[hr]at hit
    cases hc:dF[i]with
    | box cs=>
      rw[hc]at hit
      obtain⟨_,b',ty,us,h2,h3,h4,h5⟩:=hit;rw[hp.fr.xb]at h2
      obtain⟨p',g1,g2,g3⟩:=lV h2;rw[h1]at g1;simp only[Option.some.injEq]at g1;subst g1
      refine⟨fun id e=>?_,b',ty,us,?_,h3,by rw[h4,jk],ou hback h5⟩
      ·subst e;rw[iq (fun j=>qp gJ id j rfl) (fun h=>JO h gJ)];obtain⟨cs0,g4⟩:=wR h1;have:=hi.h.item (.o id) (by simp);rw[g4]at this
       exact this.1 id rfl
      ·rw[eG (qp gJ)];exact g2
    | none=>rw[hc]at hb;simp[gU]at hb
    | v _=>rw[hc]at hb;simp[gU]at hb
    | row _ _ _ _=>rw[hc]at hb;simp[gU]at hb
    | wI _ _ _=>rw[hc]at hb;simp[gU]at hb
    | mp _=>rw[hc]at hb;simp[gU]at hb
    | jX _ _ _ _=>rw[hc]at hb;simp[gU]at hb
    | DK _ _ _ _=>rw[hc]at hb;simp[gU]at hb
    | IE _ _=>rw[hc]at hb;simp[gU]at hb
   ·by_cases hn:∃k j,p = .o k∧nw k=some j
    ·obtain⟨k,j,rfl,hn⟩:=hn;obtain⟨rfl,hj⟩:=hnw.1 hn;rw[oG,if_neg gJ,Aa hj];have ho:=BM CW hj;have hit:=hp.h.item (.o j) (by simp);simp only[h_]at hit;obtain⟨hb1,hv1⟩:=ig hn;cases hc:qx ro j with
     | box cs=>
       rw[hc]at hit
       obtain⟨h0,b',ty,us,h2,h3,h4,h5⟩:=hit;exact⟨fun id e=>by simp only[Pl.o.injEq]at e;subst e;rw[hv1];exact h0 j rfl,b',ty,us,hb1.trans h2,h3,by rw[h4,jk],ou hback h5⟩
     | row e k' es sh=>
       rw[hc]at hit
       obtain⟨h0,id,v,us,e1,h2,h3,h4⟩:=hit;simp only[Pl.o.injEq]at e1;subst e1;exact⟨hb1.trans h0,b+j,v,us,rfl,by rw[hv1,List.length_map];exact h2,by rw[List.length_map];exact h3,F6 hback h4⟩
     | mp es=>
       rw[hc]at hit
       obtain⟨h0,b',l,clock,h2,h3,h4,h5⟩:=hit;exact⟨fun id e=>by simp only[Pl.o.injEq]at e;subst e;rw[hv1];exact h0 j rfl,b',l,clock,hb1.trans h2,h3,pV.ext (E:=E') (E':=E2) ⟨fun _ _ h=>h,fun _ _ _=>rfl⟩ h4,h5⟩
     | jX es c pd s=>
       rw[hc]at hit
       obtain⟨id,b',l,clock,l',ty,v,e1,h2,h3,h4,h5,h6,h7,h8,h9⟩:=hit;simp only[Pl.o.injEq]at e1;subst e1;exact⟨b+j,b',l,clock,l',ty,v,rfl,hb1.trans h2,h3,h4,QL hback h5,h6,by rw[hv1];exact h7,h8,h9⟩
     | DK _ _ _ _=>rw[hc]at ho;simp[isObj]at ho
     | IE _ _=>rw[hc]at ho;simp[isObj]at ho
     | wI _ _ _=>rw[hc]at ho;simp[isObj]at ho
     | none=>rw[hc]at ho;simp[isObj]at ho
     | v _=>rw[hc]at ho;simp[isObj]at ho
    ·have hn':∀k j,p = .o k→nw k≠some j:=fun k j e h=>hn ⟨k,j,e,h⟩
     by_cases hg:∃k,p = .o k∧k∈rs.map (·.2)
     ·obtain⟨k,rfl,hk⟩:=hg;rw[MC hk];exact fU hk
     ·have hg':∀k,p = .o k→k∉rs.map (·.2):=fun k e h=>hg ⟨k,e,h⟩
      rw[hold gJ hn' hg'];refine(hi.h.item p hps).up x (eG hn') (fun id e=>iq (fun j=>hn' id j e) (hg' id e)) (fun b' hb'=>?_);refine hp.fr.old b' (hi.h.size p b' hb') (fun i hx=>?_) (fun j hj=>?_)
      ·obtain⟨q,g1,g2,g3⟩:=lV hx;have:=hi.h.inj p q b' hb' g3;subst this;exact gJ (List.mem_of_getElem? g1)
      ·obtain⟨k,g1,g2⟩:=hown2 hj;exact hg' k (hi.h.inj p _ b' hb' g2) g1
  ·have hgo:∀{p b'},E2.own p=some b'→∀k,p = .o k→k∉rs.map (·.2):=fun {p b'} h k e g=>by
    subst e;rw[fU g]at h;simp at h
   have yR:∀{j q},E'.own (.o j)=some b'→E.own q=some b'→(∀k,q = .o k→k∉rs.map (·.2))→False:=fun {j q} h1 h2 h3=>by
    have g2:=hi.h.size q b' h2;rcases hp.fr.new j b' h1 with g1|⟨i,g1⟩
    ·simp only[En.bf]at g1;omega
    ·obtain⟨k,g3,g4⟩:=hown2 g1;exact h3 k (hi.h.inj q _ b' h2 g4) g3
   by_cases n1:∃k j,p = .o k∧nw k=some j<;>by_cases n2:∃k j,q = .o k∧nw k=some j
   ·obtain⟨k,j,rfl,hn⟩:=n1;obtain⟨k',j',rfl,hn'⟩:=n2;rw[dM hn]at h1;rw[dM hn']at h2
    have:=hp.h.inj _ _ b' h1 h2;simp only[Pl.o.injEq]at this;subst this;rw[(hnw.1 hn).1,(hnw.1 hn').1]
   ·obtain⟨k,j,rfl,hn⟩:=n1;have hq:=hgo h2;rw[dM hn]at h1
    rw[dN (fun k j e h=>n2 ⟨k,j,e,h⟩) hq]at h2
    exact(yR h1 h2 hq).elim
   ·obtain⟨k,j,rfl,hn⟩:=n2;have hq:=hgo h1;rw[dM hn]at h2
    rw[dN (fun k j e h=>n1 ⟨k,j,e,h⟩) hq]at h1
    exact(yR h2 h1 hq).elim
   ·have hq1:=hgo h1;have hq2:=hgo h2;rw[dN (fun k j e h=>n1 ⟨k,j,e,h⟩) hq1]at h1
    rw[dN (fun k j e h=>n2 ⟨k,j,e,h⟩) hq2]at h2
    exact hi.h.inj p q b' h1 h2
  ·by_cases n1:∃k j,p = .o k∧nw k=some j
   ·obtain⟨k,j,rfl,hn⟩:=n1;rw[dM hn]at h1
    exact hp.h.size _ b' h1
   ·by_cases hg:∃k,p = .o k∧k∈rs.map (·.2)
    ·obtain⟨k,rfl,hk⟩:=hg;rw[fU hk]at h1;simp at h1
    ·rw[dN (fun k j e h=>n1 ⟨k,j,e,h⟩) (fun k e h=>hg ⟨k,e,h⟩)]at h1
     exact Nat.lt_of_lt_of_le (hi.h.size p b' h1) hp.fr.size
  ·by_cases n1:∃k j,p = .o k∧nw k=some j
   ·obtain⟨k,j,rfl,hn⟩:=n1;rw[dM hn]at h2
    obtain⟨e,k',es,g1,g2⟩:=hp.h.sep b' o h1 _ h2;obtain⟨rfl,hj⟩:=hnw.1 hn;have gJ:Pl.o (b+j)∉ν:=fun h=>qp h _ j rfl hn
    refine⟨e,k',es.map (TV.backs ν b),?_,by simpa using g2⟩;rw[oG,if_neg gJ,Aa hj];simp only[h_]at g1;rw[g1];rfl
   ·have n1':∀k j,p = .o k→nw k≠some j:=fun k j e h=>n1 ⟨k,j,e,h⟩
    by_cases hg:∃k,p = .o k∧k∈rs.map (·.2)
    ·obtain⟨k,rfl,hk⟩:=hg;rw[fU hk]at h2;simp at h2
    ·have hg':∀k,p = .o k→k∉rs.map (·.2):=fun k e h=>hg ⟨k,e,h⟩
     rw[dN n1' hg']at h2
     have hsz:=hi.h.size p b' h2;rcases hp.fr.xg b' o h1 with g1|g1|⟨i,g1⟩
     ·obtain⟨e,k,es,g2,g3⟩:=hi.h.sep b' o g1 p h2;refine⟨e,k,es,?_,g3⟩;rw[hold _ n1' hg',g2];intro gJ;obtain⟨i,hi'⟩:=List.getElem?_of_mem gJ;obtain⟨cs,h⟩:=wR hi';rw[h]at g2;simp at g2
     ·simp only[En.bf]at g1;omega
     ·obtain⟨k,g3,g4⟩:=hown2 g1;exact absurd g3 (hg' k (hi.h.inj p _ b' h2 g4))
 have hsl:∀k,over t (wx ν b ν dF++(wo ν b ro++wr rs)) (.s k)=t (.s k):=fun k=>
  hold (fun h=>P5 h k rfl) (fun _ _ e=>by simp at e) (fun _ e=>by simp at e)
 have hE0:∀{j b'},(E.bf ν rs).own (.o j)=some b'→A.E0.w.heap.size≤b'∨∃i,A.E0.own (.o i)=some b':=fun {j b'} h=>by
  obtain⟨k,_,g⟩:=hown2 h;exact hi.fr.new k b' g
 refine⟨E2,rfl,hi.step hH x (hi.fr.YV hp.fr.os hp.fr.tape hp.fr.output hp.fr.size (fun b' h1 h2 h3=>?_) (fun i=>rfl) (fun id b' h=>?_) (fun b' o h=>hp.fr.st b' o h) (fun b' o h=>?_)) hsl,hback hp.rel⟩
 ·refine hp.fr.old b' (Nat.lt_of_lt_of_le h1 hi.fr.size) (fun i hx=>?_) (fun j hj=>?_)
  ·obtain⟨q,g1,g2,g3⟩:=lV hx;cases q with
   | s k=>rw[hi.h.frees k]at g2;simp at g2
   | x j=>exact h2 j ((hi.fr.xb j).symm.trans g2)
   | o k=>exact(hi.fr.new k b' g3).elim (fun h=>by omega) (fun⟨j,h⟩=>h3 j h)
  ·exact(hE0 hj).elim (fun h=>by omega) (fun⟨j,h⟩=>h3 j h)
 ·cases hn:nw id with
  | some j=>
    rw[dM hn]at h
    rcases hp.fr.new j b' h with g|⟨i,g⟩
    ·exact .inr g
    ·obtain⟨k,_,g2⟩:=hown2 g;exact .inl ⟨k,g2⟩
  | none=>
    by_cases hk:id∈rs.map (·.2)
    ·rw[fU hk]at h;simp at h
    ·rw[dN (fun k j e h=>by simp only[Pl.o.injEq]at e;subst e;rw[hn]at h;simp at h) (fun k e=>by simp only[Pl.o.injEq]at e;subst e;exact hk)]at h
     exact .inl ⟨id,h⟩
 ·rcases hp.fr.xg b' o h with g|g|⟨i,g⟩
  ·exact .inl g
  ·exact .inr (.inl (Nat.le_trans hi.fr.size g))
  ·exact .inr (hE0 g)
variable {ops:Array Oper}
theorem Sum.call2{t:S}{i:Nat}{o:Oper}{gp:List Pl}{fo:Operand}{xs:List Operand}{tys:Array TypeId}{f:FuncId}{caps iR:List TV}{qK dF:List It}{ri:List (Nat×It)}{r:TV}{ro:List (Nat×It)}
  (ho:ops[i]? = some o) (hg:gv ops t o=some (gp,true)) (hd:pz A.N o=true) (hop:o.op = .call {callee:=.value fo,args:=xs.toArray,argTypes:=tys}) (hf:ev t fo = .clo f caps) (hfn:aZ P f=true)
  (C:jT P f iR qK ri r dF ro) (ν:List Pl) (rs:List (Nat×Nat)) (b:Nat) (Aq:ν.Nodup) (sJ:∀p∈ν,qw p=true) (hp:TV.fB ν rs (xs.map (ev t)++caps)=some iR) (hI:fD t ν rs ν=some qK)
  (hr1:(rs.map (·.1)).Nodup) (hr2:(rs.map (·.2)).Nodup) (RY:oM t ν rs rs=some ri)
  (hl:dF.length=ν.length) (hbox:∀i∈dF,gU i=true) (CW:∀x∈ro,isObj x.2=true) (hfree:∀x∈ro,t (.o (b+x.1)) = .none) :
  Sum P A ops i t (gp++(pl fo++(xs.flatMap pl++(ν++((rs.map fun x=>.o x.2)++ro.map fun x=>.o (b+x.1))))))
   (xA o (r.back ν b) (wx ν b ν dF++(wo ν b ro++wr rs))):=fun t' hr a w ⟨E,hw,hi⟩ K Q hK=>by
 subst hw;have hwant:=mD hg (aW hr) hi;have hr1':=aI hr;have hr2':=aI hr1';have hr3:=aI hr2';have hr4:=aI hr3;have hfo:ev t' fo = .clo f caps:=(dB (aW hr1')).trans hf;have hxs:xs.map (ev t')=xs.map (ev t):=Kz (aW hr2');have Si:∀p∈ν,t' p=t p:=aW hr3
 have aaq:∀x∈rs,t' (.o x.2)=t (.o x.2):=fun x hx=>(aW hr4) (.o x.2) (List.mem_map.2 ⟨x,hx,rfl⟩)
 have MF:∀x∈ro,t' (.o (b+x.1)) = .none:=fun x hx=>((aI hr4) (.o (b+x.1)) (List.mem_map.2 ⟨x,hx,rfl⟩)).trans (hfree x hx)
 have hI':fD t' ν rs ν=some qK:=(qB Si).trans hI;have RZ:oM t' ν rs rs=some ri:=(y9 aaq).trans RY;have hfr:=bM hi fo;rw[hfo]at hfr
 simp only[aA]at hfr;obtain⟨sZ,Gu,yT⟩:=hfr;have hxr:=Ac hi xs;rw[hxs]at hxr
 have happ:∀{ts ts':List TV} {us us':List Value},aP E ts us→aP E ts' us'→aP E (ts++ts') (us++us'):=by
  intro ts
  induction ts with
  | nil=>intro ts' us us' h g;simp only[aP]at h;subst h;simpa using g
  | cons v ts ih=>
    intro ts' us us' h g;simp only[aP]at h;obtain⟨u,Zq,rfl,h1,h2⟩:=h;simp only[List.cons_append,aP];exact⟨u,Zq++us',rfl,h1,ih h2 g⟩
 have hargs:=happ hxr yT;have CV:aP (E.bf ν rs) iR (xs.map a.eval++sZ.toList):=iV hr1 hp hargs;have hH0:jQ (E.bf ν rs) (h_ qK ri):=jQ.bf hi Aq hI' sJ hr1 hr2 RZ;have hcall:=C (E.bf ν rs) _ hH0 CV;have hwc:(E.bf ν rs).w=E.w:=rfl;rw[hwc]at hcall
 unfold wpOp;simp only[ho,hwant,if_true];refine .inl ?_;unfold Oper.wp;have hrun:(execOp a.eval o).run P E.w = .ok (.enter f (xs.map a.eval++sZ.toList).toArray) E.w:=by
  have harr:(List.map a.eval xs++sZ.toList).toArray=(List.map a.eval xs).toArray++sZ:=by simp
  simp only[execOp,hop,resolve,Gu,Deferred.ofValue,invoke,Sem.run_bind,Sem.run_pure,Result.andThen_ok,List.map_toArray,Array.empty_append,jv hfn,harr]
 rw[hrun];simp only[Oper.upon];refine hcall.mono fun e w' ⟨u,E',he,hw',hpost⟩=>?_
 subst he;obtain⟨E2,hw2,hi2,hr2'⟩:=hi.F9 Aq sJ hI' hr1 hr2 RZ hl hbox CW MF hpost;refine hK _ _ ⟨E2,hw2.trans hw',dL.dst ?_ hd hr2'⟩;exact hi2
theorem ah.of2{i:Nat}{t:S}{k:List Pl→List (Pl×It)→Prop}{g:Tg k}{f:FuncId}{iR:List TV}{qK dF:List It}{ri:List (Nat×It)}{r:TV}{ro:List (Nat×It)}(C:jT P f iR qK ri r dF ro)(ν:List Pl)(rs:List (Nat×Nat))(b:Nat)
  (h:Us k g (F8 P A.N t ops f iR qK ri r dF ro ν rs b ops[i]?)):ah P A ops i t k g:=by
 unfold Us at h;split at h
 ·rename_i D rp W hc;obtain⟨h1,h2⟩:=h;refine⟨rp,W,?_,h2⟩;unfold F8 at hc;split at hc
  ·rename_i o ho;split at hc
   ·rename_i gp g0 hg;unfold N_ at hc;split at hc
    ·rename_i fo xs tys hop;split at hc
     ·rename_i f' caps hf;split at hc
      ·rename_i c0 a0 r0 hI hp RY;simp only[Option.some.injEq,Prod.mk.injEq]at hc;obtain⟨rfl,rfl,rfl⟩:=hc;obtain⟨rfl,q1,rfl,q2,q3,q4,rfl,rfl,q5,q6,rfl,q8,q9,q10,q11⟩:=h1;exact Sum.call2 (xs:=xs.toList) ho hg q1 (by simpa using hop) hf q2 C ν rs b q3 q4 hp hI q5 q6 RY q8 q9 q10 q11
      ·simp at hc
     ·simp at hc
    ·simp at hc
   ·simp at hc
  ·simp at hc
 ·exact h.elim
end
end Go.Tr

namespace Go.Tr
open Go
section
variable {A:eX}
theorem GS.sV{t:S}{nH e0 k0:Nat}{es0:List (List TV)}{Ez:Bool}{i j:Nat}{r:List TV}{id n e k:Nat}{es:List (List TV)}{sh:Bool}{xs:List (List D)}(h0:t (.o nH) = .row e0 k0 es0 Ez)(hne:nH≠id)
  (hr:es0[i]? = some r) (hj:r[j]? = some (.aB id n)) (ht:t (.o id) = .row e k es sh) (hn:n=es.length) (hx:eu es=some xs) :
  GS A t (upd (upd t (.o id) (.row e k es true)) (.o nH) (.row e0 k0 (es0.set i (r.set j (.d (.sl xs)))) Ez)):=fun a w ⟨E,hw,hi⟩=>by
 subst hn;obtain⟨E',hw',x,hb,hv,hi',hr',_⟩:=hi.freeze ht hx;have hil:i<es0.length:=(List.getElem?_eq_some_iff.1 hr).1;refine⟨E',hw'.trans hw,hi'.KZ (es:=es0) (by simp only[upd,Pl.o.injEq,if_neg hne];exact h0) (by simp) fun us hrel=>dK.fZ fun i' el hel=>?_⟩;rw[kH hil]at hel
 by_cases ei:i'=i
 ·subst ei;rw[if_pos rfl]at hel
  simp only[Option.some.injEq]at hel;subst hel;obtain⟨g1,g2⟩:=hrel.get hr;have hjl:j<r.length:=(List.getElem?_eq_some_iff.1 hj).1;refine⟨by simpa using g1,bG.fZ fun m tv hm=>?_⟩;rw[kH hjl]at hm
  by_cases em:m=j
  ·subst em;rw[if_pos rfl]at hm
   simp only[Option.some.injEq]at hm;subst hm;obtain⟨u,k1,k2,k3⟩:=g2.get hj;refine⟨u,k1,k2,?_⟩;simp only[aA]at k3⊢;refine hr' u ?_;simp only[aA];rw[hv]at k3
   exact k3
  ·rw[if_neg em]at hm
   exact g2.get hm
 ·rw[if_neg ei]at hel
  exact hrel.get hel
theorem Fin.sV{P:Program}{A:eX}{fn:Func}{rv:TV}{xo:List It}{ro:List (Nat×It)}{l:List (Pl×It)}(nH i j id:Nat){e0 k0:Nat}{es0:List (List TV)}{Ez:Bool}{r:List TV}{n e k:Nat}{es:List (List TV)}{sh:Bool}{xs:List (List D)}(h0:look l (.o nH) = .row e0 k0 es0 Ez)(hne:nH≠id)
  (hr:es0[i]? = some r) (hj:r[j]? = some (.aB id n)) (ht:look l (.o id) = .row e k es sh) (hn:n=es.length) (hx:eu es=some xs)
  (h:Fin P A fn rv xo ro (look (iI (.o nH) (.row e0 k0 (es0.set i (r.set j (.d (.sl xs)))) Ez) (iI (.o id) (.row e k es true) l)))):Fin P A fn rv xo ro (look l):=by
 have:=GS.sV (A:=A) h0 hne hr hj ht hn hx;rw[eU,eU]at this
 exact h.ghost this
theorem iO{a b:Nat}(hab:a≠b):∀{l:List (Pl×It)},b∉jy l→vJ a b (look l)=look (uV a b l)
 | [],_=>by funext p;cases p<;>simp[vJ,look,uV,AO]
 | (q,i)::l,h=>by
   have hl:b∉jy l:=by cases q<;>simp_all [jy]
   have ih:=fun p=>congrFun (iO hab hl) p
   have hq:q≠.o b:=fun e=>by subst e;simp[jy]at h
   funext p
   have hp:=ih p;simp only[uV]at hp;simp only[uV,List.map_cons,look];cases p with
   | s k=>
     simp only[vJ,look]at hp⊢;cases q with
     | s j=>
       simp only[lX,Pl.s.injEq];by_cases e:k=j
       ·subst e;simp
       ·simp only[if_neg e];exact hp
     | x j=>simp only[lX,reduceCtorEq,if_false];exact hp
     | o j=>simp only[lX,reduceCtorEq,if_false];exact hp
   | x k=>
     simp only[vJ,look]at hp⊢;cases q with
     | x j=>
       simp only[lX,Pl.x.injEq];by_cases e:k=j
       ·subst e;simp
       ·simp only[if_neg e];exact hp
     | s j=>simp only[lX,reduceCtorEq,if_false];exact hp
     | o j=>simp only[lX,reduceCtorEq,if_false];exact hp
   | o k=>
     simp only[vJ,look]at hp⊢;cases q with
     | s j=>simp only[lX,reduceCtorEq,if_false];exact hp
     | x j=>simp only[lX,reduceCtorEq,if_false];exact hp
     | o j=>
       have hj:j≠b:=fun e=>hq (by rw[e])
       simp only[lX,Pl.o.injEq,DT];by_cases e1:k=b
       ·subst e1;simp only[if_true]at hp⊢;by_cases e2:j=a
        ·subst e2;simp
        ·simp only[if_neg e2,if_neg (fun h:a=j=>e2 h.symm),if_neg (fun h:k=j=>hj h.symm)];exact hp
       ·simp only[if_neg e1]at hp⊢;by_cases e2:k=a
        ·subst e2;simp only[if_true]at hp⊢;by_cases e3:j=k
         ·subst e3;simp only[if_true,if_neg e1];exact hp
         ·simp only[if_neg e3,if_neg (fun h:k=j=>e3 h.symm)];exact hp
        ·simp only[if_neg e2]at hp⊢;by_cases e3:j=a
         ·subst e3;simp only[if_true,if_neg e1,if_neg e2];exact hp
         ·simp only[if_neg e3];by_cases e4:k=j
          ·subst e4;simp
          ·simp only[if_neg e4];exact hp
theorem GS.ren'{l l':List (Pl×It)}(a b:Nat)(hab:a≠b)(hb:b∉jy l)(h:Sub (look (uV a b l)) l'∧jP l'=jP (uV a b l)):GS A (look l) (look l'):=by
 have:=GS.ren (A:=A) (t:=look l) hab (zU hb);rw[iO hab hb]at this
 exact this.trans (GS.forget h.1 h.2)
end
section
variable (a b:Nat) (cs:List TV) (e k:Nat) (es:List (List TV)) (sh:Bool) (t:TV) (m:List (Int×D))
end
end Go.Tr

set_option maxRecDepth 100000
namespace Go.Proofs
open Go Go.Tr
theorem nV(x:Lk):∀l:List Lk,bU x l≤l.length
 | []=>Nat.le_refl _
 | y::r=>by
   have:=nV x r;simp only[bU,List.length_cons];split<;>omega
end Go.Proofs
