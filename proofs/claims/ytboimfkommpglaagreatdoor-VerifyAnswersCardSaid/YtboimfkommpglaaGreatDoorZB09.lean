/-
  What functions of the program compute, stated as contracts over plain data; the conditions of each stand in its own statement.
-/
import Derived.Test.YtboimfkommpglaaGreatDoorZB08
set_option linter.unusedSimpArgs false
namespace Go.Tr
open Go
def look:List (Pl×It)→S
 | [],_=>.none
 | (q,i)::l,p=>if p=q then i else look l p
def oC(p:Pl)(i:It):List (Pl×It)→List (Pl×It)
 | []=>[(p,i)]
 | (q,j)::l=>if p=q then(p,i)::l else(q,j)::oC p i l
theorem lZ(p:Pl)(i:It):∀l:List (Pl×It),upd (look l) p i=look (oC p i l)
 | []=>by funext q;simp[upd,look,oC]
 | (q,j)::l=>by
   funext r
   have ih:=congrFun (lZ p i l) r;simp only[upd]at ih;simp only[oC,upd,look];by_cases e:p=q
   ·subst e;simp only[if_true,look];by_cases h:r=p
    ·simp[h]
    ·simp[h]
   ·simp only[if_neg e,look];by_cases h:r=q
    ·subst h;rw[if_neg (fun h=>e h.symm)];simp
    ·rw[if_neg h,if_neg h];exact ih
def uM(kp:Nat→Bool):List (Pl×It)→List (Pl×It)
 | []=>[]
 | (.s k,i)::l=>if kp k then(.s k,i)::uM kp l else uM kp l
 | x::l=>x::uM kp l
theorem IW(kp:Nat→Bool):∀l:List (Pl×It),kept kp (look l)=look (uM kp l)
 | []=>by funext q;cases q<;>simp[kept,look,uM]
 | (.s k,i)::l=>by
   funext r
   have ih:=congrFun (IW kp l) r;cases r with
   | s j=>
     simp only[kept]at ih;simp only[uM,kept,look];by_cases hk:kp k
     ·rw[if_pos hk];simp only[look];by_cases hj:Pl.s j=Pl.s k
      ·simp only[Pl.s.injEq]at hj;subst hj;simp[hk]
      ·rw[if_neg hj,if_neg hj];exact ih
     ·rw[if_neg hk];by_cases hj:Pl.s j=Pl.s k
      ·simp only[Pl.s.injEq]at hj;subst hj;rw[if_neg hk]at ih
       rw[if_neg hk,←ih]
      ·rw[if_neg hj];exact ih
   | o j=>
     simp only[kept]at ih⊢;simp only[uM,look,reduceCtorEq,if_false];split
     ·simp only[look,reduceCtorEq,if_false];exact ih
     ·exact ih
   | x j=>
     simp only[kept]at ih⊢;simp only[uM,look,reduceCtorEq,if_false];split
     ·simp only[look,reduceCtorEq,if_false];exact ih
     ·exact ih
 | (.o k,i)::l=>by
   funext r
   have ih:=congrFun (IW kp l) r;cases r with
   | s j=>simp only[uM,kept,look]at ih⊢;simpa using ih
   | o j=>simp only[uM,kept,look]at ih⊢;rw[ih]
   | x j=>simp only[uM,kept,look]at ih⊢;simpa using ih
 | (.x k,i)::l=>by
   funext r
   have ih:=congrFun (IW kp l) r;cases r with
   | s j=>simp only[uM,kept,look]at ih⊢;simpa using ih
   | o j=>simp only[uM,kept,look]at ih⊢;simpa using ih
   | x j=>simp only[uM,kept,look]at ih⊢;rw[ih]
def It.only(po:Nat→Prop):It→Prop
 | .none=>True
 | .v t=>t.only po
 | .box cs=>TV.uw po cs
 | .row _ _ es _=>∀e∈es,TV.uw po e
 | .yj _ _ es=>∀e∈es,TV.uw po e
 | .mp _=>True
 | .jA es _ _ _=>∀x∈es,x.2.only po
 | .Fb _ _ _ _=>True
 | .Mc es _=>∀x∈es,x.2.only po
def En.res(E:En)(ids:List Nat):En:=
 {E with blk:=fun p=>match p with|.o k=>if k∈ids then E.blk (.o k)else none|p=>E.blk p,val:=fun k=>if k∈ids then E.val k else none}
theorem En.Yn(E:En)(ids:List Nat):Ext (· ∈ids) E (E.res ids):=
 ⟨fun _ _ h=>h,fun _ _ _=>rfl,fun id b h hb=>by simp only[En.res,if_pos h];exact hb,fun _ _ h=>h,fun _ _ h=>h,fun id k c v h hv=>⟨c,v,by simp only[En.res,if_pos h];exact hv,aI _,fun _=>rfl⟩⟩
theorem En.res_own{E:En}{ids:List Nat}{p:Pl}{b:Nat}(h:(E.res ids).own p=some b):E.own p=some b∧∀k,p = .o k→k∈ids:=by
 cases p with
 | o k=>
   by_cases hk:k∈ids
   ·refine⟨?_,fun j e=>by simp only[Pl.o.injEq]at e;subst e;exact hk⟩;have:(E.res ids).own (.o k)=E.own (.o k):=En.qB (by simp only[En.res,if_pos hk]) (fun id e=>by simp only[Pl.o.injEq]at e;subst e;simp only[En.res,if_pos hk])
    rwa [this]at h
   ·simp[En.own,En.res,hk]at h
 | s k=>exact⟨h,fun _ e=>by simp at e⟩
 | x k=>exact⟨h,fun _ e=>by simp at e⟩
theorem eP.ext{po:Nat→Prop}{E E':En}(h:Ext po E E'){us:List Value}:∀{o:Nat} {ts:List TV},TV.uw po ts→eP E us o ts→eP E' us o ts
 | _,[],_,_=>trivial
 | _,_::_,hp,⟨⟨u,h1,h2,h3⟩,r⟩=>by simp only[TV.uw]at hp;exact⟨⟨u,h1,h2,aV.ext h _ _ hp.1 h3⟩,eP.ext h hp.2 r⟩
theorem iJ.ext{po:Nat→Prop}{E E':En}(h:Ext po E E'){us:List Value}{k:Nat}:∀{o:Nat} {es:List (List TV)},(∀e∈es,TV.uw po e)→iJ E us k o es→iJ E' us k o es
 | _,[],_,_=>trivial
 | _,_::_,hp,⟨h1,h2,r⟩=>⟨h1,eP.ext h (hp _ (by simp)) h2,iJ.ext h (fun e he=>hp e (by simp[he])) r⟩
theorem pX.res{E:En}{t t':S}{ids:List Nat}(h:pX E t)(ho:∀id,id∈ids→t' (.o id)=t (.o id))(hn:∀id,id∉ids→t' (.o id) = .none)(hx:∀i,t' (.x i)=t (.x i))
  (hc:∀p,(∀k,p≠.s k)→(t' p).only (· ∈ids)):pX (E.res ids) t':=by
 have x:=En.Yn E ids;refine⟨fun p hp=>?_,fun k=>h.frees k,fun p q b h1 h2=>h.inj p q b (En.res_own h1).1 (En.res_own h2).1,fun p b h1=>h.size p b (En.res_own h1).1,fun b o h1=>h.uP b o h1,fun b o h1 p h2=>?_,fun y hy=>gq.ext x.r _ _ _ (h.gl y hy)⟩
 ·have hcp:=hc p hp;have hit:=h.item p hp;cases p with
  | s k=>exact absurd rfl (hp k)
  | o k=>
    by_cases hk:k∈ids
    ·rw[ho k hk]at hcp⊢
     have hb:(E.res ids).blk (.o k)=E.blk (.o k):=by simp only[En.res,if_pos hk]
     have hv:(E.res ids).val k=E.val k:=by simp only[En.res,if_pos hk]
     cases hi:t (.o k)with
     | none=>rw[hi]at hit;exact fun id e=>by simp only[Pl.o.injEq]at e;subst e;rw[hb,hv];exact hit k rfl
     | v _=>rw[hi]at hit;exact(En.qB hb (fun id e=>by simp only[Pl.o.injEq]at e;subst e;exact hv)).trans hit
     | box cs=>
       rw[hi]at hit hcp
       obtain⟨h0,b,ty,us,h1,h2,h3,h4⟩:=hit;exact⟨fun id e=>by simp only[Pl.o.injEq]at e;subst e;rw[hv];exact h0 k rfl,b,ty,us,hb.trans h1,h2,h3,eP.ext x hcp h4⟩
     | row e k' es sh=>
       rw[hi]at hit hcp
       obtain⟨h0,id,v,us,e1,h1,h2,h3⟩:=hit;simp only[Pl.o.injEq]at e1;subst e1;exact⟨hb.trans h0,k,v,us,rfl,hv.trans h1,h2,iJ.ext x hcp h3⟩
     | yj e k' es=>
       rw[hi]at hit hcp
       obtain⟨h0,id,v,us,e1,h1,h2,h3⟩:=hit;simp only[Pl.o.injEq]at e1;subst e1;exact⟨hb.trans h0,k,v,us,rfl,hv.trans h1,h2,iJ.ext x hcp h3⟩
     | mp es=>
       rw[hi]at hit
       obtain⟨h0,b,l,clock,h1,h2,h3,h4⟩:=hit;exact⟨fun id e=>by simp only[Pl.o.injEq]at e;subst e;rw[hv];exact h0 k rfl,b,l,clock,hb.trans h1,h2,h3.ext x.r,h4⟩
     | jA es c pd s=>
       rw[hi]at hit hcp
       obtain⟨id,b,l,clock,l',ty,v,e1,h1,h2,h3,h4,h5,h6,h7,h8⟩:=hit;simp only[Pl.o.injEq]at e1;subst e1;exact⟨k,b,l,clock,l',ty,v,rfl,hb.trans h1,h2,h3,nH.ext x hcp h4,h5,hv.trans h6,h7,h8⟩
     | Mc es s=>
       rw[hi]at hit hcp
       obtain⟨h0,h1,h2,h3,l',h4,h5⟩:=hit;exact⟨(En.qB hb (fun id e=>by simp only[Pl.o.injEq]at e;subst e;exact hv)).trans h0,h1,h2,h3,l',h4,nH.ext x hcp h5⟩
     | Fb m s left cur=>
       rw[hi]at hit
       obtain⟨h0,r,seen,h1,h2,h3⟩:=hit;exact⟨fun id e=>by simp only[Pl.o.injEq]at e;subst e;rw[hv];exact h0 k rfl,r,seen,hb.trans h1,h2,h3⟩
    ·rw[hn k hk];exact fun id e=>by simp only[Pl.o.injEq]at e;subst e;simp[En.res,hk]
  | x k=>
    rw[hx k]at hcp⊢
    cases hi:t (.x k)with
    | none=>exact fun id e=>by simp at e
    | v _=>rw[hi]at hit;exact hit
    | box cs=>
      rw[hi]at hit hcp
      obtain⟨h0,b,ty,us,h1,h2,h3,h4⟩:=hit;exact⟨fun id e=>by simp at e,b,ty,us,h1,h2,h3,eP.ext x hcp h4⟩
    | row e k' es sh=>
      rw[hi]at hit
      obtain⟨_,id,_,_,e1,_⟩:=hit;simp at e1
    | yj e k' es=>
      rw[hi]at hit
      obtain⟨_,id,_,_,e1,_⟩:=hit;simp at e1
    | mp es=>
      rw[hi]at hit
      obtain⟨h0,b,l,clock,h1,h2,h3,h4⟩:=hit;exact⟨fun id e=>by simp at e,b,l,clock,h1,h2,h3.ext x.r,h4⟩
    | jA es c pd s=>
      rw[hi]at hit
      obtain⟨id,_,_,_,_,_,_,e1,_⟩:=hit;simp at e1
    | Mc es s=>
      rw[hi]at hit hcp
      obtain⟨h0,h1,h2,h3,l',h4,h5⟩:=hit;exact⟨h0,h1,h2,h3,l',h4,nH.ext x hcp h5⟩
    | Fb m s left cur=>
      rw[hi]at hit
      obtain⟨h0,r,seen,h1,h2,h3⟩:=hit;exact⟨fun id e=>by simp at e,r,seen,h1,h2,h3⟩
 ·obtain⟨g1,g2⟩:=En.res_own h2;obtain⟨e,k,es,g3,g4⟩:=h.sep b o h1 p g1;refine⟨e,k,es,?_,g4⟩;cases p with
  | o j=>rw[ho j (g2 j rfl)];exact g3
  | x j=>rw[hx j];exact g3
  | s j=>have:=h.frees j;simp[En.own,this]at g1
section
variable {P:Program} {A:jL}
theorem Fr.res{E0 E:En}(h:Fr E0 E)(ids:List Nat):Fr E0 (E.res ids):=
 ⟨h.os,h.tape,h.output,h.size,h.old,h.xb,fun id b hb=>h.new id b (En.res_own hb).1,h.st,h.AU⟩
def sG:List (Pl×It)→List Nat
 | []=>[]
 | (.o k,_)::l=>k::sG l
 | _::l=>sG l
def qE:List (Pl×It)→List Nat
 | []=>[]
 | (.x k,_)::l=>k::qE l
 | _::l=>qE l
theorem OH{l:List (Pl×It)}{k:Nat}:k∉sG l→look l (.o k) = .none:=by
 induction l with
 | nil=>intro _;rfl
 | cons x l ih=>
   obtain⟨p,i⟩:=x;intro h;cases p with
   | o j=>simp only[sG,aG,not_or]at h;simp only[look,Pl.o.injEq,if_neg h.1];exact ih h.2
   | s j=>simp only[sG]at h;simp only[look,reduceCtorEq,if_false];exact ih h
   | x j=>simp only[sG]at h;simp only[look,reduceCtorEq,if_false];exact ih h
theorem ahw{l:List (Pl×It)}{k:Nat}:k∉qE l→look l (.x k) = .none:=by
 induction l with
 | nil=>intro _;rfl
 | cons x l ih=>
   obtain⟨p,i⟩:=x;intro h;cases p with
   | x j=>simp only[qE,aG,not_or]at h;simp only[look,Pl.x.injEq,if_neg h.1];exact ih h.2
   | s j=>simp only[qE]at h;simp only[look,reduceCtorEq,if_false];exact ih h
   | o j=>simp only[qE]at h;simp only[look,reduceCtorEq,if_false];exact ih h
theorem ZO{l:List (Pl×It)}{p:Pl}:look l p = .none∨(p,look l p)∈l:=by
 induction l with
 | nil=>exact .inl rfl
 | cons x l ih=>
   obtain⟨q,i⟩:=x;simp only[look];by_cases e:p=q
   ·subst e;simp
   ·rw[if_neg e];exact ih.imp id fun h=>dM _ h
theorem ahB{l:List (Pl×It)}{k:Nat}(h:k∈qE l):∃i,(Pl.x k,i)∈l:=by
 induction l with
 | nil=>simp[qE]at h
 | cons x l ih=>
   obtain⟨q,j⟩:=x;cases q with
   | x m=>
     simp only[qE,aG]at h;rcases h with rfl|h
     ·exact⟨j,by simp⟩
     ·obtain⟨i,hi⟩:=ih h;exact⟨i,by simp[hi]⟩
   | s m=>simp only[qE]at h;obtain⟨i,hi⟩:=ih h;exact⟨i,by simp[hi]⟩
   | o m=>simp only[qE]at h;obtain⟨i,hi⟩:=ih h;exact⟨i,by simp[hi]⟩
def Sub(t:S)(l':List (Pl×It)):Prop:=(∀x∈l',look l' x.1=t x.1)∧∀x∈l',x.2.only (· ∈sG l')
theorem iI.forget{t:S}{l':List (Pl×It)}{a:Act}{E:En}(hi:iI A t a E)(h:Sub t l')(hx:∀i,look l' (.x i)=t (.x i)):iI A (look l') a (E.res (sG l')):=by
 have hget:∀p,look l' p = .none∨look l' p=t p:=fun p=>by
  rcases ZO (l:=l') (p:=p)with h1|h1
  ·exact .inl h1
  ·exact .inr (h.1 _ h1)
 have lD:∀p,(look l' p).only (· ∈sG l'):=fun p=>by
  rcases ZO (l:=l') (p:=p)with h1|h1
  ·rw[h1];trivial
  ·exact h.2 _ h1
 have asv:∀{k:Nat} {i:It} {l:List (Pl×It)},k∈sG l→∃i,(Pl.o k,i)∈l:=by
  intro k i l
  induction l with
  | nil=>intro h;simp[sG]at h
  | cons x l ih=>
    obtain⟨q,j⟩:=x;intro h;cases q with
    | o m=>
      simp only[sG,aG]at h;rcases h with rfl|h
      ·exact⟨j,by simp⟩
      ·obtain⟨i,hi⟩:=ih h;exact⟨i,by simp[hi]⟩
    | s m=>simp only[sG]at h;obtain⟨i,hi⟩:=ih h;exact⟨i,by simp[hi]⟩
    | x m=>simp only[sG]at h;obtain⟨i,hi⟩:=ih h;exact⟨i,by simp[hi]⟩
 refine⟨hi.h.res (fun id hid=>?_) (fun id hid=>OH hid) hx (fun p _=>lD p),hi.fr.res _,fun k tv hk=>?_,hi.defers,hi.size⟩
 ·obtain⟨i,hm⟩:=asv (i:=.none) hid;exact h.1 _ hm
 ·have h1:=hget (.s k);rw[hk]at h1
  rcases h1 with h1|h1
  ·simp at h1
  ·obtain⟨u,h2,h3⟩:=hi.sl k tv h1.symm;have h4:=lD (.s k);rw[hk]at h4
   exact⟨u,h2,aV.ext (En.Yn E _) _ _ h4 h3⟩
theorem acI{l l':List (Pl×It)}(hs:∀x∈l',look l' x.1=look l x.1)(hx:qE l'=qE l)(i:Nat):look l' (.x i)=look l (.x i):=by
 by_cases h:i∈qE l'
 ·obtain⟨it,hm⟩:=ahB h;exact hs _ hm
 ·rw[ahw h,ahw (by rwa [←hx])]
theorem GS.forget{l l':List (Pl×It)}(h:Sub (look l) l')(hx:qE l'=qE l):GS A (look l) (look l'):=fun _ _ ⟨E,hw,hi⟩=>⟨E.res (sG l'),hw,hi.forget h (acI h.1 hx)⟩
theorem GS.own{t:S}{k:Nat}(e z:Nat)(hk:t (.s k) = .v (.c (.slice none 0 0)))(ho:t (.o k) = .none):GS A t (upd (upd t (.o k) (.row e z [] false)) (.s k) (.v (.bK k 0))):=fun a w ⟨E,hw,hi⟩=>by
 obtain⟨u,h1,h2⟩:=hi.sl k _ hk;obtain⟨E',hw',x,hi',hv⟩:=hi.newRow ho e z;simp only[aV]at h2;refine⟨E',hw'.trans hw,⟨hi'.h.slot k _,hi'.fr,fun j tv hj=>?_,hi'.defers,hi'.size⟩⟩;by_cases ej:j=k
 ·subst ej;simp only[upd,if_true,It.v.injEq]at hj;subst hj;exact⟨u,h1,by simp only[aV];exact⟨by rw[h2];rfl,z,0,_,hv,aI _,fun _=>h2⟩⟩
 ·simp only[upd,Pl.s.injEq,ej,if_false,reduceCtorEq]at hj;exact hi'.sl j tv (by simpa[upd]using hj)
theorem GS.view{t:S}{s id n e k:Nat}{es:List (List TV)}{sh:Bool}{xs:List (List D)}(hs:t (.s s) = .v (.bK id n))(ht:t (.o id) = .row e k es sh)(hn:n=es.length)(hx:iH es=some xs):
  GS A t (upd (upd t (.o id) (.row e k es true)) (.s s) (.v (.d (.sl xs)))):=fun a w ⟨E,hw,hi⟩=>by
 obtain⟨u,h1,h2⟩:=hi.sl s _ hs;obtain⟨E',hw',x,_,_,hi',hr,_⟩:=hi.freeze ht hx;subst hn;refine⟨E',hw'.trans hw,⟨hi'.h.slot s _,hi'.fr,fun j tv hj=>?_,hi'.defers,hi'.size⟩⟩;by_cases ej:j=s
 ·subst ej;simp only[upd,if_true,It.v.injEq]at hj;subst hj;exact⟨u,h1,by simp only[aV];exact hr u h2⟩
 ·simp only[upd,Pl.s.injEq,ej,if_false,reduceCtorEq]at hj;exact hi'.sl j tv (by simpa[upd]using hj)
end
end Go.Tr

namespace Go.Tr
open Go
def Vj:List TV→Nat→List (Pl×It)
 | [],_=>[]
 | a::l,k=>(.s k,.v a)::Vj l (k+1)
def xL:List It→Nat→List (Pl×It)
 | [],_=>[]
 | i::l,k=>(.x k,i)::xL l (k+1)
def oL(ro:List (Nat×It)):List (Pl×It):=ro.map fun x=>(.o x.1,x.2)
theorem DL{l m:List (Pl×It)}{p:Pl}(h:∀x∈l,x.1≠p):look (l++m) p=look m p:=by
 induction l with
 | nil=>rfl
 | cons x l ih=>
   obtain⟨q,i⟩:=x;simp only[fF,look];rw[if_neg (fun e=>h (q,i) (by simp) e.symm)]
   simp_all
theorem abm{k:Nat}:∀{l:List TV} {n:Nat} {m:List (Pl×It)},look (Vj l n++m) (.s k)=if n≤k∧k<n+l.length then(match l[k-n]? with|some a=>.v a|none=>.none)else look m (.s k)
 | [],n,m=>by grind[Vj]
 | a::l,n,m=>by
   simp only[Vj,fF,look,Pl.s.injEq];by_cases e:k=n
   ·simp[*]
   ·rw[if_neg e,abm (l:=l) (n:=n+1)]
    grind
theorem RV{l:List TV}{n:Nat}{m:List (Pl×It)}{p:Pl}(h:∀k,p≠.s k):look (Vj l n++m) p=look m p:=by
 refine DL ?_
 induction l generalizing n with
 | nil=>simp[Vj]
 | cons a l ih=>
   intro x hx;simp only[Vj,aG]at hx
   grind
theorem aj8{i:Nat}:∀{l:List It} {n:Nat} {m:List (Pl×It)},look (xL l n++m) (.x i)=if n≤i∧i<n+l.length then l.getD (i-n) .none else look m (.x i)
 | [],n,m=>by grind[xL]
 | a::l,n,m=>by
   simp only[xL,fF,look,Pl.x.injEq];by_cases e:i=n
   ·simp[*]
   ·rw[if_neg e,aj8 (l:=l) (n:=n+1)]
    grind
theorem IB{l:List It}{n:Nat}{m:List (Pl×It)}{p:Pl}(h:∀k,p≠.x k):look (xL l n++m) p=look m p:=by
 refine DL ?_
 induction l generalizing n with
 | nil=>simp[xL]
 | cons a l ih=>
   intro x hx;simp only[xL,aG]at hx
   grind
theorem alo{k:Nat}:∀{ro:List (Nat×It)},look (oL ro) (.o k)=zi ro k
 | []=>rfl
 | (j,i)::ro=>by
   have ih:=alo (k:=k) (ro:=ro)
   grind[oL,look,zi]
theorem TP{ro:List (Nat×It)}{p:Pl}(h:∀k,p≠.o k):look (oL ro) p = .none:=by
 have:=DL (l:=oL ro) (m:=[]) (p:=p) (fun x hx=>by
  simp only[oL,ay]at hx
  grind)
 grind[look]
theorem pX.congr{E:En}{H H':S}(h:pX E H)(he:∀p,(∀k,p≠.s k)→H' p=H p):pX E H':=
 ⟨fun p hp=>by rw[he p hp];exact h.item p hp,h.frees,h.inj,h.size,h.uP,fun b o h1 p h2=>by
  obtain⟨e,k,es,h3,h4⟩:=h.sep b o h1 p h2;refine⟨e,k,es,?_,h4⟩;rw[he p ?_]
  ·omega
  ·rintro k rfl;simp[En.own,h.frees k]at h2,h.gl⟩
def resV(P:Program)(t:S):ResultVar→Option (Prop×TV)
 | .tmp k=>match t (.s k)with
   | .v x=>some (True,x)
   | _=>none
 | .cell k ty=>match ev t (.tmp k)with
   | .ptr p q=>match t p with
     | .box cs=>cellsOf P ty cs q
     | _=>none
   | _=>none
def WW(P:Program)(t:S):List ResultVar→Option (Prop×List TV)
 | []=>some (True,[])
 | x::l=>match resV P t x,WW P t l with
   | some (C,v),some (C',vs)=>some (C∧C',v::vs)
   | _,_=>none
def ajG(P:Program)(t:S)(l:List ResultVar):Option (Prop×TV):=
 match WW P t l with
 | some (C,[v])=>some (C,v)
 | some (C,vs)=>some (C,.sZ vs)
 | none=>none
def Fin(P:Program)(A:jL)(fn:Func)(r:TV)(xs:List It)(ro:List (Nat×It))(t:S):Prop:=
 ∀a w,Inv A t a w→∃u E',(results fn a.tmps).run P w = .ok u w∧E'.w=w∧Post A.E0 xs ro r u E'
def fin(P:Program)(A:jL)(fn:Func)(r:TV)(xs:List It)(ro:List (Nat×It)):Exit→S→Prop
 | .normal,t=>Fin P A fn r xs ro t
 | .ret,t=>Fin P A fn r xs ro t
 | _,_=>False
section
variable {P:Program} {A:jL}
theorem Fin.ghost{fn:Func}{r:TV}{xs:List It}{ro:List (Nat×It)}{t t':S}(h:Fin P A fn r xs ro t')(g:GS A t t'):Fin P A fn r xs ro t:=fun a w hi=>h a w (g a w hi)
def afw(a:Act):ResultVar→Sem Value
 | .tmp t=>Pure.pure (a.tmps.getD t undef)
 | .cell b t=>do loadVar t (←asAddr (a.tmps.getD b undef))
theorem aci(fn:Func)(a:Act):results fn a.tmps=(do
  let vs ←fn.results.mapM (afw a)
  pure (if h:vs.size=1 then vs[0]else .tuple vs)):=rfl
theorem ah7{t:S}{a:Act}{E:En}(hi:iI A t a E){x:ResultVar}{C:Prop}{v:TV}(h:resV P t x=some (C,v))(hC:C):
  ∃u,(afw a x).run P E.w = .ok u E.w∧aV E v u:=by
 unfold afw;cases x with
 | tmp k=>
   simp only[resV]at h;split at h
   ·rename_i tv ht;simp only[aj,aK]at h;obtain⟨_,rfl⟩:=h;obtain⟨u,h1,h2⟩:=hi.sl k tv ht
    simp_all
   trivial
 | cell k ty=>
   simp only[resV]at h;have hr:=dS hi (.tmp k);split at h
   ·rename_i p q hp;split at h
    ·rename_i cs ht;rw[hp]at hr
     obtain⟨b,ty',us,hu,hb,hh,hs,hc⟩:=Xq hi ht hr;have hu':a.tmps.getD k undef = .pointer (some ⟨b,q,none⟩):=hu;unfold cellsOf at h;split at h
     ·rename_i hsh;split at h
      ·rename_i tv hv;simp only[aj,aK]at h;obtain⟨_,rfl⟩:=h;obtain⟨u,h1,_,h2⟩:=hc.get hv
       grind[xE,asAddr,zq]
      trivial
     ·rename_i hsh;split at h
      ·rename_i z hz;simp only[aj,aK]at h;obtain⟨rfl,rfl⟩:=h;have hc':=(hc.sub q z).vals;simp only[dR]at hc';have hl:((cs.drop q).take z).length=z:=by grind
       rw[hl]at hc'
       have:=zo (P:=P) hsh hz hc'.2 (w:=E.w) (FY (b:=b) (fun j u hj=>by grind[xE]) q z);exact⟨.agg ((us.toList.drop q).take z).toArray,by grind[asAddr],by simp only[aV];simp[*]⟩
      trivial
     trivial
    trivial
   trivial
theorem O3{t:S}{a:Act}{E:En}(hi:iI A t a E):∀{l:List ResultVar} {C:Prop} {vs:List TV},WW P t l=some (C,vs)→C→
  ∃us,(l.mapM (afw a)).run P E.w = .ok us E.w∧b_ E vs us
 | [],C,vs,h,_=>by obtain⟨_,rfl⟩:=h;simp[b_]
 | x::l,C,vs,h,hC=>by
   simp only[WW]at h;split at h
   ·rename_i C1 v C2 vs' h1 h2;obtain⟨rfl,rfl⟩:=h;obtain⟨u,g1,g2⟩:=ah7 hi h1 hC.1;obtain⟨us,g3,g4⟩:=O3 hi h2 hC.2;refine⟨u::us,?_,by simp only[b_];grind⟩;simp[*]
   trivial
theorem Fin.done{fn:Func}{r:TV}{xs:List It}{ro:List (Nat×It)}{l:List (Pl×It)}{C:Prop}(hres:ajG P (look l) fn.results.toList=some (C,r))(hC:C)(hr:r.only (· ∈sG (oL ro)))
  (hs:Sub (look l) (xL xs 0++oL ro)) (hx:qE (xL xs 0++oL ro)=qE l) (ho:sG (xL xs 0++oL ro)=sG (oL ro)):Fin P A fn r xs ro (look l):=fun a w ⟨E,hw,hi⟩=>by
 subst hw;have hi2:=hi.forget hs (acI hs.1 hx);rw[ho]at hi2
 have hH:pX (E.res (sG (oL ro))) (tJ xs ro):=hi2.h.congr fun p hp=>by
  cases p with
  | s k=>simp_all
  | x i=>
    rw[aj8];simp only[tJ,og,true_and,dR,pW]
    grind[TP]
  | o k=>rw[IB (fun j e=>by trivial),alo];rfl
 have hrun:∃u,(results fn a.tmps).run P E.w = .ok u E.w∧aV E r u:=by
  unfold ajG at hres;rw[aci];have hm:∀l:List ResultVar,l.toArray.mapM (afw a)=Functor.map List.toArray (l.mapM (afw a)):=by simp
  have hfn:fn.results=fn.results.toList.toArray:=by simp
  rw[hfn,hm];split at hres
  ·rename_i C' v hv;obtain⟨rfl,rfl⟩:=hres;obtain⟨us,g1,g2⟩:=O3 hi hv hC;obtain⟨u,_,rfl,g3,rfl⟩:=g2
   simp_all
  ·rename_i C' vs hne hv;obtain⟨rfl,rfl⟩:=hres;obtain⟨us,g1,g2⟩:=O3 hi hv hC;refine⟨.tuple us.toArray,?_,by simp only[aV];simp[*]⟩;have hl:=g2.length;have hl1:vs.length≠1:=fun h=>by
    match vs,h with
    | [v],_=>simp[*]
   simp_all
  trivial
 obtain⟨u,h1,h2⟩:=hrun;exact⟨u,E.res (sG (oL ro)),h1,rfl,hH,hi2.fr,aV.ext (En.Yn E _) _ _ hr h2⟩
theorem aC{f:FuncId}{fn:Func}{c:Code}{args:List TV}{xs:List It}{r:TV}{xs':List It}{ro:List (Nat×It)}(hf:P.funcs[f]? = some fn)(hb:fn.body=some c)
  (h:∀E0,AW P ⟨E0,fn.ntmps⟩ c (fin P ⟨E0,fn.ntmps⟩ fn r xs' ro) (look (Vj args 0++xL xs 0))):Contract P f args xs r xs' ro:=fun E us hH hargs=>by
 refine calls_of_wp hf hb (Code.wp_mono (fun e a w hq=>?_) (h E {tmps:=us.toArray++Array.replicate (fn.ntmps-us.toArray.size) undef,defers:=[]} E.w ⟨E,rfl,⟨?_,?_,?_,rfl,?_⟩⟩))
 ·obtain⟨t,hi,hq⟩:=hq;have key:Fin P ⟨E,fn.ntmps⟩ fn r xs' ro t→a.defers = []∧∃v,(results fn a.tmps).run P w = .ok v w∧∃u E',Ending.returned v = .returned u∧E'.w=w∧Post E xs' ro r u E':=fun hF=>by
   obtain⟨u,E',h1,h2,h3⟩:=hF a w hi;obtain⟨E1,_,hi1⟩:=hi;exact⟨hi1.defers,u,h1,u,E',rfl,h2,h3⟩
  cases e<;>first
   | exact hq.elim
   | exact key hq
 ·refine hH.congr fun p hp=>?_
  rw[RV hp];cases p with
  | s k=>simp_all
  | x i=>
    have:=aj8 (i:=i) (l:=xs) (n:=0) (m:=[]);rw[aZ]at this
    rw[this];simp only[Js,og,true_and,dR,pW];split
    ·rfl
    ·rw[List.getD,dK (by omega)];rfl
  | o k=>
    have:=IB (l:=xs) (n:=0) (m:=[]) (p:=.o k) (fun j e=>by trivial);rw[aZ]at this
    trivial
 ·have hno:∀id,E.own (.o id)=none:=fun id=>by
   have:=hH.item (.o id) (by simp);obtain⟨h1,h2⟩:=this id rfl
   grind[En.own]
  exact⟨rfl,rfl,rfl,aI _,fun _ _ _ _=>rfl,fun _=>rfl,fun id b hb=>by simp_all,fun _ _ h=>h,fun _ _ h=>.inl h⟩
 ·intro k tv hk;rw[abm]at hk
  simp only[og,true_and,dR,pW]at hk;have hx:look (xL xs 0) (.s k) = .none:=by
   have:=IB (l:=xs) (n:=0) (m:=[]) (p:=.s k) (fun j e=>by trivial);rw[aZ]at this
   trivial
  split at hk
  ·rename_i hlt;have hak:args[k]? = some args[k]:=by simp
   rw[hak]at hk
   simp only[It.v.injEq]at hk;subst hk;obtain⟨u,h1,h2⟩:=hargs.get hak
   grind
  simp_all
 grind
end
end Go.Tr

namespace Go.Tr
open Go
theorem adV{N:Nat}{o:Oper}{gp:List Pl}{e:Eff}{k:List Pl→List (Pl×It)→Prop}{g:Tg k}:Xj N o gp (some e) k g=(qj N o=true∧e.C∧k (gp++e.rp) (wF o e.v e.W)):=rfl
theorem afU{N:Nat}{o:Oper}{gp:List Pl}{b:Bool}{X:List Pl→Prop}{k:List Pl→List (Pl×It)→Prop}{x:Tg X}{g:Tg k}:AGv N o (some (gp,b)) X k x g=PZ b (X gp) (qj N o=true∧k gp (wF o (.c undef) [])) .mk .mk:=rfl
theorem aaO{b:Bool}{X Y:Prop}{x:Tg X}{y:Tg Y}:afS (some b) X Y x y=PZ b X Y .mk .mk:=rfl
theorem look_nil(p:Pl):look [] p = .none:=rfl
theorem ae4(q:Pl)(i:It)(l:List (Pl×It))(p:Pl):look ((q,i)::l) p=if p=q then i else look l p:=rfl
theorem aeZ(kp:Nat→Bool):uM kp [] = []:=rfl
theorem adl(kp:Nat→Bool)(k:Nat)(i:It)(l:List (Pl×It)):uM kp ((.s k,i)::l)=if kp k then(.s k,i)::uM kp l else uM kp l:=rfl
theorem X0(kp:Nat→Bool)(k:Nat)(i:It)(l:List (Pl×It)):uM kp ((.o k,i)::l)=(.o k,i)::uM kp l:=rfl
theorem adn(kp:Nat→Bool)(k:Nat)(i:It)(l:List (Pl×It)):uM kp ((.x k,i)::l)=(.x k,i)::uM kp l:=rfl
theorem acA(K:S→Prop)(Q:Exit→S→Prop)(t:S):thn K Q .normal t=K t:=rfl
theorem ajV(K:S→Prop)(Q:Exit→S→Prop)(t:S):thn K Q .ret t=Q .ret t:=rfl
theorem air(K:S→Prop)(Q:Exit→S→Prop)(t:S)(n:Nat):thn K Q (.exit n) t=Q (.exit n) t:=rfl
theorem aav(Q:Exit→S→Prop)(t:S):alG Q .normal t=Q .normal t:=rfl
theorem aic(Q:Exit→S→Prop)(t:S):alG Q .ret t=Q .ret t:=rfl
theorem YP(Q:Exit→S→Prop)(t:S)(b:Nat):af9 b Q .normal t=Q .normal t:=rfl
theorem af_(Q:Exit→S→Prop)(t:S)(b:Nat):af9 b Q .ret t=Q .ret t:=rfl
theorem aee(Q:Exit→S→Prop)(t:S)(b n:Nat):af9 b Q (.exit n) t=if n=b then Q .normal t else Q (.exit n) t:=rfl
theorem aaQ{X:Prop}{Y:List Pl→List (Pl×It)→Prop}{x:Tg X}{y:Tg Y}:Vw .none X Y x y=X:=rfl
theorem aaR{C:Prop}{rp:List Pl}{W:List (Pl×It)}{X:Prop}{Y:List Pl→List (Pl×It)→Prop}{x:Tg X}{y:Tg Y}:Vw (.some C rp W) X Y x y=(C∧Y rp W):=rfl
theorem adY:VR.none.C=True:=rfl
theorem ad3:VR.none.W = []:=rfl
theorem adZ(C:Prop)(rp:List Pl)(W:List (Pl×It)):(VR.some C rp W).C=C:=rfl
theorem ad4(C:Prop)(rp:List Pl)(W:List (Pl×It)):(VR.some C rp W).W=W:=rfl
attribute [simp] aaQ aaR adY adZ ad3 ad4 sF Gn xM undef aaw Ip NH eqL u8s Gg
theorem adW{P:Program}{ops:Array Oper}{L:Log}{X:Prop}:akp P ops L X true=(X∧(P.follows .mixedOrders=true∧Dh ops (shapes L []))):=rfl
theorem aaP{P:Program}{ops:Array Oper}{L:Log}{X:Prop}:akp P ops L X false=X:=rfl
theorem aks{P:Program}{A:jL}{ow:List Nat}{ops:Array Oper}{o:Oper}{i:Nat}{t:S}{k:List Pl→List (Pl×It)→Prop}{g:Tg k}:AOp P A ow ops o i t k g =
  AGv A.N o (gv ops t o) (fun gp=>Vw (sF t (xM ow o.op)) (PZ (isGo o.op) (PZ (aeT ow o.op) (Fe P A ops i t k .mk) (aF P A ops i t k .mk) .mk .mk) (PZ (aeS o.op) (Fe P A ops i t k .mk) (Xj A.N o gp (eff P ow t o) k .mk) .mk .mk) .mk .mk)
  (fun rp0 W0=>PZ (isGo o.op) (aF P A ops i (over t W0) (fun rp W=>k (rp0++rp) (W++W0)) .mk)
  (Xj A.N o gp (eff P ow (over t W0) o) (fun rp W=>k (rp0++rp) (W++W0)) .mk) .mk .mk) .mk .mk) k .mk .mk:=rfl
attribute [simp] and_assoc List.getElem?_cons_zero List.getElem?_cons_succ adW aaP shapes adV afU aaO yV uT iK Gp aks gv isGo aeS aeT alm Vu QS eff ev pl look_nil ae4 oC lZ over wF qj agl acA ajV air YP af_ aee aav aic IW aeZ adl X0 adn Vj xL gev Zt XF abd af7 aiK aku QC Q7 agz unD XC abg Fz RG FB RH JI cellsOf XE RJ abf adN Og Ry abe Rz DJ RI Ol Eb XB JJ Oj FD Oi GU DK RD Oh mJ vO Vp Pz toKey afN FC lkV L9 OJ XD TV.cells TV.one setAt partT adw o7 o9 plO Xx Ju
set_option linter.unusedVariables false
def akq(P:Program)(fn:Func)(r:TV)(xs:List It)(ro:List (Nat×It))(l:List (Pl×It)):Option (Prop×TV)→Prop
 | some (C,r')=>C∧r'=r∧r.only (· ∈sG (oL ro))∧Sub (look l) (xL xs 0++oL ro)∧qE (xL xs 0++oL ro)=qE l∧sG (xL xs 0++oL ro)=sG (oL ro)
 | none=>False
theorem Fin.of{P:Program}{A:jL}{fn:Func}{r:TV}{xs:List It}{ro:List (Nat×It)}{l:List (Pl×It)}(h:akq P fn r xs ro l (ajG P (look l) fn.results.toList)):Fin P A fn r xs ro (look l):=by
 unfold akq at h;split at h
 ·grind[Fin.done]
 trivial
theorem ai4{P:Program}{A:jL}{fn:Func}{r:TV}{xs:List It}{ro:List (Nat×It)}{t:S}:fin P A fn r xs ro .ret t=Fin P A fn r xs ro t:=rfl
theorem abq{P:Program}{A:jL}{fn:Func}{r:TV}{xs:List It}{ro:List (Nat×It)}{t:S}:fin P A fn r xs ro .normal t=Fin P A fn r xs ro t:=rfl
attribute [simp] ai4 abq akq ajG WW resV Sub sG qE oL TV.only TV.uw
theorem PZ.dec{p:Prop}[Decidable p]{X Y:Prop}{x:Tg X}{y:Tg Y}(h:p→X)(g :¬p→Y):PZ (decide p) X Y x y:=⟨fun e=>h (by simp_all),fun e=>g (by simp_all)⟩
theorem wrap_i64{n:Int}(h1 :-9223372036854775808≤n)(h2:n≤9223372036854775807):IntKind.i64.wrap n=n:=by
 simp only[IntKind.wrap,show IntKind.i64.bits=64 from rfl,show IntKind.i64.signed=true from rfl,jZ]
 grind
theorem wrap_u64{n:Int}(h1:0≤n)(h2:n≤18446744073709551615):IntKind.u64.wrap n=n:=by
 simp only[IntKind.wrap,show IntKind.u64.bits=64 from rfl,show IntKind.u64.signed=false from rfl,lF]
 grind
def I64(n:Int):Prop:=-9223372036854775808≤n∧n≤9223372036854775807
theorem aqZ(a b:Int):(a==b)=decide (a=b):=by rfl
theorem aq1(a b:Int):(a != b) = !decide (a=b):=by rfl
def wu(n:Int):BitVec 64:=BitVec.ofInt 64 n
theorem NC(n:Int):IntKind.u64.wrap n=((wu n).toNat:Int):=by
 simp only[IntKind.wrap,show IntKind.u64.bits=64 from rfl,show IntKind.u64.signed=false from rfl,lF,wu]
 grind[BitVec.toNat_ofInt]
def tn(B:BitVec 64):Int:=(B.toNat:Int)
theorem Iz(B:BitVec 64):wu (tn B)=B:=by simp[BitVec.eq_of_toNat_eq,BitVec.toNat_ofInt,wu,tn]
theorem QO(n:Int):IntKind.u64.wrap n=tn (wu n):=NC n
theorem u64_and(a b:Int):aiF .u64 a b=tn (wu a&&&wu b):=by rw[aiF,NC];exact congrArg tn (Iz (wu a&&&wu b))
theorem u64_or(a b:Int):orI .u64 a b=tn (wu a|||wu b):=by rw[orI,NC];exact congrArg tn (Iz (wu a|||wu b))
theorem u64_andNot(a b:Int):Qj .u64 a b=tn (wu a &&& ~~~ wu b):=by rw[Qj,NC];exact congrArg tn (Iz (wu a &&& ~~~ wu b))
theorem BF(x:Int):IntKind.u64.wrap x=x%18446744073709551616:=by rfl
theorem aiC(x:Int):((wu x).toNat:Int)=x%18446744073709551616:=by rw[←NC,BF]
theorem aj0(a b:Int):ajO .u64 a b=tn (wu a<<<b.toNat):=by
 generalize hn:b.toNat=n;rw[ajO,tn,hn,BF,BitVec.toNat_shiftLeft,Nat.shiftLeft_eq,Int.natCast_emod,Int.natCast_mul,aiC,show(((2^64:Nat):Int))=18446744073709551616 by decide,Int.mul_emod (a%18446744073709551616),Int.emod_emod_of_dvd _ (Int.dvd_refl _),←Int.mul_emod,Int.natCast_pow]
 show a*2^min n 64%18446744073709551616=a*2^n%18446744073709551616
 by_cases h:n≤64
 ·rw[Nat.min_eq_left h]
 ·rw[Nat.min_eq_right (by omega),show n=64+(n-64) by omega,Int.pow_add,←Int.mul_assoc];rw[show(2:Int)^64=18446744073709551616 by decide];rw[Int.mul_emod_left,Int.mul_assoc,Int.mul_comm 18446744073709551616,←Int.mul_assoc,Int.mul_emod_left]
theorem adR(B:BitVec 64)(b:Int):aaA .u64 (tn B) b=tn (B>>>b.toNat):=by
 generalize hn:b.toNat=n;rw[aaA,tn,tn,hn,BitVec.toNat_ushiftRight,Nat.shiftRight_eq_div_pow,show IntKind.u64.bits=64 from rfl];have hb:B.toNat<2^64:=B.isLt;rw[show((2:Int)^min n 64)=((2^min n 64:Nat):Int) by simp,Int.fdiv_eq_ediv_of_nonneg _ (Int.natCast_nonneg _),←Int.natCast_ediv];by_cases h:n≤64
 ·rw[Nat.min_eq_left h]
 ·rw[Nat.min_eq_right (by omega),Nat.div_eq_of_lt hb,Nat.div_eq_of_lt (fC hb (Nat.pow_le_pow_right (by omega) (by omega)))]
theorem acB(A B:BitVec 64):(tn A=tn B)=(A=B):=propext ⟨fun h=>by grind[Iz],fun h=>h▸rfl⟩
theorem adP:tn 0#64=0:=rfl
theorem alX:tn 1#64=1:=rfl
theorem alV(A:BitVec 64):(tn A=0)=(A=0#64):=acB A 0#64
theorem alW(A:BitVec 64):(tn A=1)=(A=1#64):=acB A 1#64
theorem aj7:wu 0=0#64:=rfl
theorem al5:wu 1=1#64:=rfl
attribute [simp] aqZ aq1 Iz u64_and u64_or u64_andNot aj0 adR acB adP alX alV alW aj7 al5
def yt(k:Nat)(ys:List (List TV)):Prop:=∀e∈ys,e.length=k
theorem aar(k:Nat):yt k []=True:=by simp[yt]
theorem Yo(k:Nat)(e:List TV)(es:List (List TV)):yt k (e::es)=(e.length=k∧yt k es):=by simp[yt]
theorem aaq(k:Nat)(a b:List (List TV)):yt k (a++b)=(yt k a∧yt k b):=by
 simp only[yt,aJ,eq_iff_iff]
 grind
theorem aco(k:Nat)(ys:List (List D)):yt k (dd ys)=dLen k ys:=by simp[yt,dLen,dd]
theorem mO{α:Type}(k:Nat)(f:α→List D)(l:List α)(h:∀x,(f x).length=k):dLen k (l.map f):=by
 intro e he
 grind
theorem oP{k n:Nat}{l:List (List D)}(h:dLen k l):dLen k (l.take n):=fun e he=>h e (jI he)
theorem xG{k n:Nat}{l:List (List D)}(h:dLen k l):dLen k (l.drop n):=fun e he=>h e (List.mem_of_mem_drop he)
attribute [simp] aar Yo aaq aco
theorem af2(k b n:Nat)(ys:List (List TV)):KI k b n ys=(yt k ys∧(n+ys.length)*b≤140737488355328∧n+ys.length≤9223372036854775807):=rfl
theorem aj1(l:List Int):u8s (l.map fun n=>[D.int .u8 n])=some l:=by
 induction l with
 | nil=>rfl
 | cons n l ih=>simp[*]
attribute [simp] aj1 af2 Value.oneCell'
theorem aaI:∀l:List D,rJ (l.map .d)=some l
 | []=>rfl
 | x::l=>by simp only[aH,rJ,aaI l];rfl
@[simp]theorem zu:∀l:List (List D),iH (dd l)=some l
 | []=>rfl
 | x::l=>by have:=zu l;simp only[dd]at this;simp only[dd,aH,iH,aaI,this]
@[simp]theorem YD:∀a b:List (List TV),iH (a++b)=match iH a,iH b with
  | some x,some y=>some (x++y)
  | _,_=>none
 | [],b=>by cases h:iH b<;>simp[iH,h]
 | e::a,b=>by
   simp only[fF,iH,YD a b]
   grind
@[simp]theorem al8(l:List (List D)):(dd l).length=l.length:=by simp[dd]
@[simp]theorem ard:dd [] = []:=rfl
theorem Fq(e:List D)(b:List (List D)):dd (e::b)=e.map .d::dd b:=rfl
@[simp]theorem al7(a b:List (List D)):dd (a++b)=dd a++dd b:=by simp[dd]
section
variable {P:Program} {A:jL} {ops:Array Oper}
def agh(P:Program)(N:Nat)(t:S)(o:Oper)(f:FuncId)(mY:List TV)(Aw:List It)(r:TV)(lg:List It)(ro:List (Nat×It))(ν:List Pl)(b:Nat)(gp:List Pl)(g:Bool):Option (Prop×List Pl×List (Pl×It)):=
 match o.op with
 | .call {callee:=.value fo,args:=xs,argTypes:=_}=>
   match ev t fo with
   | .clo f' caps=>
     match zL t ν ν,TV.rP t ν (xs.toList.map (ev t)++caps)with
     | some c0,some a0=>
       some (g=true∧qj N o=true∧f'=f∧dP P f=true∧ν.Nodup∧(∀p∈ν,vY p=true)∧a0=mY∧TV.sQ t (xs.toList.map (ev t)++caps)∧c0=Aw∧(∀p∈ν,J9 t (t p))∧
        lg.length=ν.length∧(∀x∈lg,qM x=true)∧(∀x∈ro,isObj x.2=true)∧(∀x∈ro,t (.o (b+x.1)) = .none),
        gp++(pl fo++(xs.toList.flatMap pl++(ν++((TV.uy (xs.toList.map (ev t)++caps)++ν.flatMap (fun p=>MX (t p))).map .o++ro.map fun x=>.o (b+x.1))))),
        wF o (r.back ν b) (wx ν b ν lg++wo ν b ro))
     | _,_=>none
   | _=>none
 | _=>none
def UW(k:List Pl→List (Pl×It)→Prop)(_:Tg k):Option (Prop×List Pl×List (Pl×It))→Prop
 | some (C,rp,W)=>C∧k rp W
 | none=>False
def agf(P:Program)(N:Nat)(t:S)(ops:Array Oper)(f:FuncId)(mY:List TV)(Aw:List It)(r:TV)(lg:List It)(ro:List (Nat×It))(ν:List Pl)(b:Nat):Option Oper→Option (Prop×List Pl×List (Pl×It))
 | some o=>match gv ops t o with
   | some (gp,g)=>agh P N t o f mY Aw r lg ro ν b gp g
   | none=>none
 | none=>none
theorem aF.of{i:Nat}{t:S}{k:List Pl→List (Pl×It)→Prop}{g:Tg k}{f:FuncId}{mY:List TV}{Aw lg:List It}{r:TV}{ro:List (Nat×It)}(C:Contract P f mY Aw r lg ro)(ν:List Pl)(b:Nat)
  (h:UW k g (agf P A.N t ops f mY Aw r lg ro ν b ops[i]?)):aF P A ops i t k g:=by
 unfold UW at h;split at h
 ·rename_i D rp W hc;obtain⟨h1,h2⟩:=h;refine⟨rp,W,?_,h2⟩;unfold agf at hc;split at hc
  ·rename_i o ho;split at hc
   ·rename_i gp g0 hg;unfold agh at hc;split at hc
    ·rename_i fo xs tys hop;split at hc
     ·rename_i f' caps hf;split at hc
      ·rename_i c0 a0 hI hp;simp only[aj,aK]at hc;obtain⟨rfl,rfl,rfl⟩:=hc;obtain⟨rfl,q1,rfl,q2,q3,q4,rfl,q5,rfl,q6,q7,q8,q9,q10⟩:=h1;exact Sum.call (xs:=xs.toList) ho hg q1 (by simpa using hop) hf q2 C ν b q3 q4 hp q5 hI q6 q7 q8 q9 q10
      ·simp at hc
     ·simp at hc
    ·simp at hc
   trivial
  trivial
 trivial
end
theorem afT{k:List Pl→List (Pl×It)→Prop}{g:Tg k}{C:Prop}{rp:List Pl}{W:List (Pl×It)}:UW k g (some (C,rp,W))=(C∧k rp W):=rfl
structure aml{ι:Type}(A:jL)(st:ι→List (Pl×It))(μ:ι→Nat)(n:Nat)(_g:Tg st)(_f:Tg μ)(t:S):Prop where
 ex:∃j,GS A t (look (st j))∧μ j<n
theorem bY.of{P:Program}{A:jL}{ι:Type}{c:Code}{Q:Exit→S→Prop}{g:Tg Q}{t:S}(ow:List Nat)(kp:Nat→Bool)(st:ι→List (Pl×It))(μ:ι→Nat)(i0:ι)(h0:GS A t (look (st i0)))
  (round:∀i,iK P A ow kp c (thn (aml A st μ (μ i) .mk .mk) Q) .mk (look (st i))):bY P A c Q g t:=
 ⟨AW.loop (fun i=>look (st i)) μ i0 h0 fun i=>(iK.sound (round i)).mono fun e t h=>by cases e<;>first|exact h.ex|exact h⟩
theorem GS.own'{A:jL}{l l':List (Pl×It)}{k:Nat}(e z:Nat)(hk:look l (.s k) = .v (.c (.slice none 0 0)))(ho:look l (.o k) = .none)
  (h:Sub (look (oC (.s k) (.v (.bK k 0)) (oC (.o k) (.row e z [] false) l))) l'∧qE l'=qE (oC (.s k) (.v (.bK k 0)) (oC (.o k) (.row e z [] false) l))):GS A (look l) (look l'):=by
 have:=GS.own (A:=A) e z hk ho;rw[lZ,lZ]at this
 exact this.trans (GS.forget h.1 h.2)
def Wy:List (Pl×It)→List (Pl×It)→List (Pl×It)
 | [],l=>l
 | (p,i)::W,l=>oC p i (Wy W l)
theorem WA:∀(W l:List (Pl×It)),over (look l) W=look (Wy W l)
 | [],_=>rfl
 | (p,i)::W,l=>by simp only[over,Wy,WA W l,lZ]
theorem GS.Gm{A:jL}{l l':List (Pl×It)}(s:Nat)(h:(Gn (look l) (.tmp s)).C∧Sub (look (Wy (Gn (look l) (.tmp s)).W l)) l'∧qE l'=qE (Wy (Gn (look l) (.tmp s)).W l)):GS A (look l) (look l'):=
 fun a w hi=>by
  have:=UO h.1 (fun _ _=>rfl) hi;rw[WA]at this
  exact GS.forget h.2.1 h.2.2 a w this
attribute [simp] Wy
theorem GS.to{A:jL}{l l':List (Pl×It)}(h:Sub (look l) l'∧qE l'=qE l):GS A (look l) (look l'):=GS.forget h.1 h.2
def m_(po:Nat→Prop)(es:List (List TV)):Prop:=∀e∈es,TV.uw po e
theorem Yq(po:Nat→Prop):m_ po []=True:=by simp[m_]
theorem Vq(po:Nat→Prop)(e:List TV)(es:List (List TV)):m_ po (e::es)=(TV.uw po e∧m_ po es):=by simp[m_]
theorem Yp(po:Nat→Prop)(a b:List (List TV)):m_ po (a++b)=(m_ po a∧m_ po b):=by
 simp only[m_,aJ,eq_iff_iff]
 grind
theorem Ye(po:Nat→Prop):∀l:List D,TV.uw po (l.map .d)=True
 | []=>by rfl
 | x::l=>by simp only[aH,TV.uw,TV.only,Ye po l,and_self]
theorem aas(po:Nat→Prop)(xs:List (List D)):m_ po (dd xs)=True:=by simp only[m_,dd,ay,eq_iff_iff,iff_true];simp[Ye]
attribute [simp] Yq Vq Yp aas Ye Fq
section
variable (t:S) (ν:List Pl) (b:Nat) (po:Nat→Prop) (cs:List TV) (e k:Nat) (es:List (List TV)) (sh:Bool)
theorem afp:Ub t ν (.box cs)=match TV.rP t ν cs with|some cs=>some (.box cs)|none=>none:=rfl
theorem ab5:J9 t (.box cs)=TV.sQ t cs:=rfl
theorem afA:MX (.box cs)=TV.uy cs:=rfl
theorem ad8:KP ν b (.box cs) = .box (TV.backs ν b cs):=rfl
theorem ad_:KP ν b (.row e k es sh) = .row e k (es.map (TV.backs ν b)) sh:=rfl
theorem aeR:qM (.box cs)=true:=rfl
theorem aeV:isObj (.row e k es sh)=true:=rfl
theorem Fin.view{P:Program}{A:jL}{fn:Func}{r:TV}{xs:List It}{ro:List (Nat×It)}{l:List (Pl×It)}(s:Nat)(h:(Gn (look l) (.tmp s)).C∧Fin P A fn r xs ro (over (look l) (Gn (look l) (.tmp s)).W)):Fin P A fn r xs ro (look l):=
 fun a w hi=>h.2 a w (UO h.1 (fun _ _=>rfl) hi)
theorem aax(ps:List (Nat×Operand))(n:Nat):Ap ps n=(ps.map (·.1)==List.range' 0 n):=by rw[Ap,nS]
theorem anZ(x:D):I_ (.d x)=some x:=rfl
theorem av_:It.only po .none=True:=rfl
theorem alu(v:TV):It.only po (.v v)=v.only po:=rfl
theorem ahP:It.only po (.box cs)=TV.uw po cs:=rfl
theorem ahR:It.only po (.row e k es sh)=m_ po es:=rfl
theorem ajA(m:List (Int×D)):It.only po (.mp m)=True:=rfl
theorem ahm(m:List (Int×D)):isObj (.mp m)=true:=rfl
theorem af5(m:List (Int×D)):KP ν b (.mp m) = .mp m:=rfl
attribute [simp] ajA ahm af5
end
attribute [simp] anZ afp ab5 afA ad8 ad_ aeR aeV av_ alu ahP ahR
attribute [simp] aax rV afT agf agh TV.pass TV.rP TV.CJ TV.sQ TV.rows TV.uy TV.back TV.backs zL ZC vY wx wo iH rJ
end Go.Tr

namespace Go.Tr
open Go
section
variable {A:jL}
theorem iI.aiM{t:S}{a:Act}{E:En}{p:Pl}{cs:List TV}{j:Nat}{c c':TV}(hi:iI A t a E)(hs:∀k,p≠.s k)(hp:t p = .box cs)(hj:cs[j]? = some c)(hrel:∀u,aV E c u→aV E c' u):
  iI A (upd t p (.box (cs.set j c'))) a E:=by
 refine⟨⟨fun q hq=>?_,hi.h.frees,hi.h.inj,hi.h.size,hi.h.uP,fun b o h1 q h2=>?_,hi.h.gl⟩,hi.fr,fun k tv hk=>?_,hi.defers,hi.size⟩
 ·by_cases e:q=p
  ·subst e;have h:=hi.h.item q hq;rw[hp]at h
   simp only[upd,if_true];obtain⟨h1,b,ty,us,h2,h3,h4,h5⟩:=h;refine⟨h1,b,ty,us,h2,h3,by simp[*],eP.lq fun i x hx=>?_⟩;by_cases ei:i=j
   ·subst ei;have hlt:i<cs.length:=by grind
    rw[List.getElem?_set_self hlt]at hx
    simp only[aj]at hx;obtain⟨u,g1,g2,g3⟩:=h5.get hj
    simp_all
   ·rw[List.getElem?_set_ne (fun h=>ei h.symm)]at hx
    exact h5.get hx
  ·simp only[upd,if_neg e];exact hi.h.item q hq
 ·obtain⟨e,k,es,h3,h4⟩:=hi.h.sep b o h1 q h2;refine⟨e,k,es,?_,h4⟩;have:q≠p:=by grind
  simp only[upd,if_neg this];omega
 ·have:Pl.s k≠p:=by grind
  simp only[upd,if_neg this]at hk;exact hi.sl k tv hk
theorem GS.ownB{t:S}{p:Pl}{cs:List TV}{j id:Nat}(e z:Nat)(hs:∀k,p≠.s k)(hp:t p = .box cs)(hj:cs[j]? = some (.c (.slice none 0 0)))(ho:t (.o id) = .none):
  GS A t (upd (upd t (.o id) (.row e z [] false)) p (.box (cs.set j (.bK id 0)))):=fun a w ⟨E,hw,hi⟩=>by
 obtain⟨E',hw',x,hi',hv⟩:=hi.newRow ho e z;have hne:p≠.o id:=by grind
 refine⟨E',hw'.trans hw,hi'.aiM hs (cs:=cs) (by simp only[upd,if_neg hne];omega) hj fun u hu=>?_⟩;simp only[aV]at hu⊢;simp[*]
theorem GS.AV{l l':List (Pl×It)}(p:Pl)(j id:Nat){cs:List TV}(e z:Nat)(hs:vY p=true)(hp:look l p = .box cs)(hj:cs[j]? = some (.c (.slice none 0 0)))(ho:look l (.o id) = .none)
  (h:Sub (look (oC p (.box (cs.set j (.bK id 0))) (oC (.o id) (.row e z [] false) l))) l'∧qE l'=qE (oC p (.box (cs.set j (.bK id 0))) (oC (.o id) (.row e z [] false) l))):GS A (look l) (look l'):=by
 have:=GS.ownB (A:=A) (id:=id) e z (fun k e=>by simp_all) hp hj ho;rw[lZ,lZ]at this
 exact this.trans (GS.forget h.1 h.2)
end
end Go.Tr
