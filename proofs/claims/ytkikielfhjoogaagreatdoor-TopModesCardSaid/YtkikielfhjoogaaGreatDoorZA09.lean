/-
  What functions of the program compute, stated as contracts over plain data; the conditions of each stand in its own statement.
-/
import Derived.Test.YtkikielfhjoogaaGreatDoorZA08
set_option linter.unusedVariables false
set_option linter.unusedSimpArgs false
namespace Go.Tr
open Go
def look:List (Pl×It)→S
 | [],_=>.none
 | (q,i)::l,p=>if p=q then i else look l p
def jL(p:Pl)(i:It):List (Pl×It)→List (Pl×It)
 | []=>[(p,i)]
 | (q,j)::l=>if p=q then(p,i)::l else(q,j)::jL p i l
theorem je(p:Pl)(i:It):∀l:List (Pl×It),upd (look l) p i=look (jL p i l)
 | []=>by funext q;simp[upd,look,jL]
 | (q,j)::l=>by
   funext r
   have ih:=congrFun (je p i l) r;simp only[upd]at ih;simp only[jL,upd,look];by_cases e:p=q
   ·subst e;simp only[if_true,look];by_cases h:r=p
    ·simp[h]
    ·simp[h]
   ·simp only[if_neg e,look];by_cases h:r=q
    ·subst h;rw[if_neg (fun h=>e h.symm)];simp
    ·rw[if_neg h,if_neg h];exact ih
def pY(kp:Nat→Bool):List (Pl×It)→List (Pl×It)
 | []=>[]
 | (.s k,i)::l=>if kp k then(.s k,i)::pY kp l else pY kp l
 | x::l=>x::pY kp l
theorem Ea(kp:Nat→Bool):∀l:List (Pl×It),kept kp (look l)=look (pY kp l)
 | []=>by funext q;cases q<;>simp[kept,look,pY]
 | (.s k,i)::l=>by
   funext r
   have ih:=congrFun (Ea kp l) r;cases r with
   | s j=>
     simp only[kept]at ih;simp only[pY,kept,look];by_cases hk:kp k
     ·rw[if_pos hk];simp only[look];by_cases hj:Pl.s j=Pl.s k
      ·simp only[Pl.s.injEq]at hj;subst hj;simp[hk]
      ·rw[if_neg hj,if_neg hj];exact ih
     ·rw[if_neg hk];by_cases hj:Pl.s j=Pl.s k
      ·simp only[Pl.s.injEq]at hj;subst hj;rw[if_neg hk]at ih
       rw[if_neg hk,←ih]
      ·rw[if_neg hj];exact ih
   | o j=>
     simp only[kept]at ih⊢;simp only[pY,look,reduceCtorEq,if_false];split
     ·simp only[look,reduceCtorEq,if_false];exact ih
     ·exact ih
   | x j=>
     simp only[kept]at ih⊢;simp only[pY,look,reduceCtorEq,if_false];split
     ·simp only[look,reduceCtorEq,if_false];exact ih
     ·exact ih
 | (.o k,i)::l=>by
   funext r
   have ih:=congrFun (Ea kp l) r;cases r with
   | s j=>simp only[pY,kept,look]at ih⊢;simpa using ih
   | o j=>simp only[pY,kept,look]at ih⊢;rw[ih]
   | x j=>simp only[pY,kept,look]at ih⊢;simpa using ih
 | (.x k,i)::l=>by
   funext r
   have ih:=congrFun (Ea kp l) r;cases r with
   | s j=>simp only[pY,kept,look]at ih⊢;simpa using ih
   | o j=>simp only[pY,kept,look]at ih⊢;simpa using ih
   | x j=>simp only[pY,kept,look]at ih⊢;rw[ih]
def It.only(po:Nat→Prop):It→Prop
 | .none=>True
 | .v t=>t.only po
 | .box cs=>TV.rJ po cs
 | .row _ _ es _=>∀e∈es,TV.rJ po e
 | .sJ _ _ es=>∀e∈es,TV.rJ po e
 | .mp _=>True
 | .fO es _ _ _=>∀x∈es,x.2.only po
 | .yt _ _ _ _=>True
 | .BM es _=>∀x∈es,x.2.only po
def En.res(E:En)(ids:List Nat):En:=
 {E with blk:=fun p=>match p with|.o k=>if k∈ids then E.blk (.o k)else none|p=>E.blk p,val:=fun k=>if k∈ids then E.val k else none}
theorem En.VE(E:En)(ids:List Nat):Ext (· ∈ids) E (E.res ids):=
 ⟨fun _ _ h=>h,fun _ _ _=>rfl,fun id b h hb=>by simp only[En.res,if_pos h];exact hb,fun _ _ h=>h,fun _ _ h=>h,fun id k c v h hv=>⟨c,v,by simp only[En.res,if_pos h];exact hv,au _,fun _=>rfl⟩⟩
theorem En.res_own{E:En}{ids:List Nat}{p:Pl}{b:Nat}(h:(E.res ids).own p=some b):E.own p=some b∧∀k,p = .o k→k∈ids:=by
 cases p with
 | o k=>
   by_cases hk:k∈ids
   ·refine⟨?_,fun j e=>by simp only[Pl.o.injEq]at e;subst e;exact hk⟩;have:(E.res ids).own (.o k)=E.own (.o k):=En.mV (by simp only[En.res,if_pos hk]) (fun id e=>by simp only[Pl.o.injEq]at e;subst e;simp only[En.res,if_pos hk])
    rwa [this]at h
   ·simp[En.own,En.res,hk]at h
 | s k=>exact⟨h,fun _ e=>by simp at e⟩
 | x k=>exact⟨h,fun _ e=>by simp at e⟩
theorem cu.ext{po:Nat→Prop}{E E':En}(h:Ext po E E'){us:List Value}:∀{o:Nat} {ts:List TV},TV.rJ po ts→cu E us o ts→cu E' us o ts
 | _,[],_,_=>trivial
 | _,_::_,hp,⟨⟨u,h1,h2,h3⟩,r⟩=>by simp only[TV.rJ]at hp;exact⟨⟨u,h1,h2,aP.ext h _ _ hp.1 h3⟩,cu.ext h hp.2 r⟩
theorem fC.ext{po:Nat→Prop}{E E':En}(h:Ext po E E'){us:List Value}{k:Nat}:∀{o:Nat} {es:List (List TV)},(∀e∈es,TV.rJ po e)→fC E us k o es→fC E' us k o es
 | _,[],_,_=>trivial
 | _,_::_,hp,⟨h1,h2,r⟩=>⟨h1,cu.ext h (hp _ (by simp)) h2,fC.ext h (fun e he=>hp e (by simp[he])) r⟩
theorem lD.res{E:En}{t t':S}{ids:List Nat}(h:lD E t)(ho:∀id,id∈ids→t' (.o id)=t (.o id))(hn:∀id,id∉ids→t' (.o id) = .none)(hx:∀i,t' (.x i)=t (.x i))
  (hc:∀p,(∀k,p≠.s k)→(t' p).only (· ∈ids)):lD (E.res ids) t':=by
 have x:=En.VE E ids;refine⟨fun p hp=>?_,fun k=>h.frees k,fun p q b h1 h2=>h.inj p q b (En.res_own h1).1 (En.res_own h2).1,fun p b h1=>h.size p b (En.res_own h1).1,fun b o h1=>h.o_ b o h1,fun b o h1 p h2=>?_,fun y hy=>dU.ext x.r _ _ _ (h.gl y hy)⟩
 ·have hcp:=hc p hp;have hit:=h.item p hp;cases p with
  | s k=>exact absurd rfl (hp k)
  | o k=>
    by_cases hk:k∈ids
    ·rw[ho k hk]at hcp⊢
     have hb:(E.res ids).blk (.o k)=E.blk (.o k):=by simp only[En.res,if_pos hk]
     have hv:(E.res ids).val k=E.val k:=by simp only[En.res,if_pos hk]
     cases hi:t (.o k)with
     | none=>rw[hi]at hit;exact fun id e=>by simp only[Pl.o.injEq]at e;subst e;rw[hb,hv];exact hit k rfl
     | v _=>rw[hi]at hit;exact(En.mV hb (fun id e=>by simp only[Pl.o.injEq]at e;subst e;exact hv)).trans hit
     | box cs=>
       rw[hi]at hit hcp
       obtain⟨h0,b,ty,us,h1,h2,h3,h4⟩:=hit;exact⟨fun id e=>by simp only[Pl.o.injEq]at e;subst e;rw[hv];exact h0 k rfl,b,ty,us,hb.trans h1,h2,h3,cu.ext x hcp h4⟩
     | row e k' es sh=>
       rw[hi]at hit hcp
       obtain⟨h0,id,v,us,e1,h1,h2,h3⟩:=hit;simp only[Pl.o.injEq]at e1;subst e1;exact⟨hb.trans h0,k,v,us,rfl,hv.trans h1,h2,fC.ext x hcp h3⟩
     | sJ e k' es=>
       rw[hi]at hit hcp
       obtain⟨h0,id,v,us,e1,h1,h2,h3⟩:=hit;simp only[Pl.o.injEq]at e1;subst e1;exact⟨hb.trans h0,k,v,us,rfl,hv.trans h1,h2,fC.ext x hcp h3⟩
     | mp es=>
       rw[hi]at hit
       obtain⟨h0,b,l,clock,h1,h2,h3,h4⟩:=hit;exact⟨fun id e=>by simp only[Pl.o.injEq]at e;subst e;rw[hv];exact h0 k rfl,b,l,clock,hb.trans h1,h2,h3.ext x.r,h4⟩
     | fO es c pd s=>
       rw[hi]at hit hcp
       obtain⟨id,b,l,clock,l',ty,v,e1,h1,h2,h3,h4,h5,h6,h7,h8⟩:=hit;simp only[Pl.o.injEq]at e1;subst e1;exact⟨k,b,l,clock,l',ty,v,rfl,hb.trans h1,h2,h3,jW.ext x hcp h4,h5,hv.trans h6,h7,h8⟩
     | BM es s=>
       rw[hi]at hit hcp
       obtain⟨h0,h1,h2,h3,l',h4,h5⟩:=hit;exact⟨(En.mV hb (fun id e=>by simp only[Pl.o.injEq]at e;subst e;exact hv)).trans h0,h1,h2,h3,l',h4,jW.ext x hcp h5⟩
     | yt m s left cur=>
       rw[hi]at hit
       obtain⟨h0,r,seen,h1,h2,h3⟩:=hit;exact⟨fun id e=>by simp only[Pl.o.injEq]at e;subst e;rw[hv];exact h0 k rfl,r,seen,hb.trans h1,h2,h3⟩
    ·rw[hn k hk];exact fun id e=>by simp only[Pl.o.injEq]at e;subst e;simp[En.res,hk]
  | x k=>
    rw[hx k]at hcp⊢
    cases hi:t (.x k)with
    | none=>exact fun id e=>by simp at e
    | v _=>rw[hi]at hit;exact hit
    | box cs=>
      rw[hi]at hit hcp
      obtain⟨h0,b,ty,us,h1,h2,h3,h4⟩:=hit;exact⟨fun id e=>by simp at e,b,ty,us,h1,h2,h3,cu.ext x hcp h4⟩
    | row e k' es sh=>
      rw[hi]at hit
      obtain⟨_,id,_,_,e1,_⟩:=hit;simp at e1
    | sJ e k' es=>
      rw[hi]at hit
      obtain⟨_,id,_,_,e1,_⟩:=hit;simp at e1
    | mp es=>
      rw[hi]at hit
      obtain⟨h0,b,l,clock,h1,h2,h3,h4⟩:=hit;exact⟨fun id e=>by simp at e,b,l,clock,h1,h2,h3.ext x.r,h4⟩
    | fO es c pd s=>
      rw[hi]at hit
      obtain⟨id,_,_,_,_,_,_,e1,_⟩:=hit;simp at e1
    | BM es s=>
      rw[hi]at hit hcp
      obtain⟨h0,h1,h2,h3,l',h4,h5⟩:=hit;exact⟨h0,h1,h2,h3,l',h4,jW.ext x hcp h5⟩
    | yt m s left cur=>
      rw[hi]at hit
      obtain⟨h0,r,seen,h1,h2,h3⟩:=hit;exact⟨fun id e=>by simp at e,r,seen,h1,h2,h3⟩
 ·obtain⟨g1,g2⟩:=En.res_own h2;obtain⟨e,k,es,g3,g4⟩:=h.sep b o h1 p g1;refine⟨e,k,es,?_,g4⟩;cases p with
  | o j=>rw[ho j (g2 j rfl)];exact g3
  | x j=>rw[hx j];exact g3
  | s j=>have:=h.frees j;simp[En.own,this]at g1
section
variable {P:Program} {A:f_}
theorem Fr.res{E0 E:En}(h:Fr E0 E)(ids:List Nat):Fr E0 (E.res ids):=
 ⟨h.os,h.tape,h.output,h.size,h.old,h.xb,fun id b hb=>h.new id b (En.res_own hb).1,h.st,h.xE⟩
def oz:List (Pl×It)→List Nat
 | []=>[]
 | (.o k,_)::l=>k::oz l
 | _::l=>oz l
def lu:List (Pl×It)→List Nat
 | []=>[]
 | (.x k,_)::l=>k::lu l
 | _::l=>lu l
theorem agQ{l:List (Pl×It)}{k:Nat}:k∉oz l→look l (.o k) = .none:=by
 induction l with
 | nil=>intro _;rfl
 | cons x l ih=>
   obtain⟨p,i⟩:=x;intro h;cases p with
   | o j=>simp only[oz,aF,not_or]at h;simp only[look,Pl.o.injEq,if_neg h.1];exact ih h.2
   | s j=>simp only[oz]at h;simp only[look,reduceCtorEq,if_false];exact ih h
   | x j=>simp only[oz]at h;simp only[look,reduceCtorEq,if_false];exact ih h
theorem agR{l:List (Pl×It)}{k:Nat}:k∉lu l→look l (.x k) = .none:=by
 induction l with
 | nil=>intro _;rfl
 | cons x l ih=>
   obtain⟨p,i⟩:=x;intro h;cases p with
   | x j=>simp only[lu,aF,not_or]at h;simp only[look,Pl.x.injEq,if_neg h.1];exact ih h.2
   | s j=>simp only[lu]at h;simp only[look,reduceCtorEq,if_false];exact ih h
   | o j=>simp only[lu]at h;simp only[look,reduceCtorEq,if_false];exact ih h
theorem XW{l:List (Pl×It)}{p:Pl}:look l p = .none∨(p,look l p)∈l:=by
 induction l with
 | nil=>exact .inl rfl
 | cons x l ih=>
   obtain⟨q,i⟩:=x;simp only[look];by_cases e:p=q
   ·subst e;simp
   ·rw[if_neg e];exact ih.imp id fun h=>gY _ h
theorem agW{l:List (Pl×It)}{k:Nat}(h:k∈lu l):∃i,(Pl.x k,i)∈l:=by
 induction l with
 | nil=>simp[lu]at h
 | cons x l ih=>
   obtain⟨q,j⟩:=x;cases q with
   | x m=>
     simp only[lu,aF]at h;rcases h with rfl|h
     ·exact⟨j,by simp⟩
     ·obtain⟨i,hi⟩:=ih h;exact⟨i,by simp[hi]⟩
   | s m=>simp only[lu]at h;obtain⟨i,hi⟩:=ih h;exact⟨i,by simp[hi]⟩
   | o m=>simp only[lu]at h;obtain⟨i,hi⟩:=ih h;exact⟨i,by simp[hi]⟩
def Sub(t:S)(l':List (Pl×It)):Prop:=(∀x∈l',look l' x.1=t x.1)∧∀x∈l',x.2.only (· ∈oz l')
theorem eY.forget{t:S}{l':List (Pl×It)}{a:Act}{E:En}(hi:eY A t a E)(h:Sub t l')(hx:∀i,look l' (.x i)=t (.x i)):eY A (look l') a (E.res (oz l')):=by
 have hget:∀p,look l' p = .none∨look l' p=t p:=fun p=>by
  rcases XW (l:=l') (p:=p)with h1|h1
  ·exact .inl h1
  ·exact .inr (h.1 _ h1)
 have akP:∀p,(look l' p).only (· ∈oz l'):=fun p=>by
  rcases XW (l:=l') (p:=p)with h1|h1
  ·rw[h1];trivial
  ·exact h.2 _ h1
 have ato:∀{k:Nat} {i:It} {l:List (Pl×It)},k∈oz l→∃i,(Pl.o k,i)∈l:=by
  intro k i l
  induction l with
  | nil=>intro h;simp[oz]at h
  | cons x l ih=>
    obtain⟨q,j⟩:=x;intro h;cases q with
    | o m=>
      simp only[oz,aF]at h;rcases h with rfl|h
      ·exact⟨j,by simp⟩
      ·obtain⟨i,hi⟩:=ih h;exact⟨i,by simp[hi]⟩
    | s m=>simp only[oz]at h;obtain⟨i,hi⟩:=ih h;exact⟨i,by simp[hi]⟩
    | x m=>simp only[oz]at h;obtain⟨i,hi⟩:=ih h;exact⟨i,by simp[hi]⟩
 refine⟨hi.h.res (fun id hid=>?_) (fun id hid=>agQ hid) hx (fun p _=>akP p),hi.fr.res _,fun k tv hk=>?_,hi.defers,hi.size⟩
 ·obtain⟨i,hm⟩:=ato (i:=.none) hid;exact h.1 _ hm
 ·have h1:=hget (.s k);rw[hk]at h1
  rcases h1 with h1|h1
  ·simp at h1
  ·obtain⟨u,h2,h3⟩:=hi.sl k tv h1.symm;have h4:=akP (.s k);rw[hk]at h4
   exact⟨u,h2,aP.ext (En.VE E _) _ _ h4 h3⟩
theorem abj{l l':List (Pl×It)}(hs:∀x∈l',look l' x.1=look l x.1)(hx:lu l'=lu l)(i:Nat):look l' (.x i)=look l (.x i):=by
 by_cases h:i∈lu l'
 ·obtain⟨it,hm⟩:=agW h;exact hs _ hm
 ·rw[agR h,agR (by rwa [←hx])]
theorem GS.forget{l l':List (Pl×It)}(h:Sub (look l) l')(hx:lu l'=lu l):GS A (look l) (look l'):=fun _ _ ⟨E,hw,hi⟩=>⟨E.res (oz l'),hw,hi.forget h (abj h.1 hx)⟩
theorem GS.own{t:S}{k:Nat}(e z:Nat)(hk:t (.s k) = .v (.c (.slice none 0 0)))(ho:t (.o k) = .none):GS A t (upd (upd t (.o k) (.row e z [] false)) (.s k) (.v (.aW k 0))):=fun a w ⟨E,hw,hi⟩=>by
 obtain⟨u,h1,h2⟩:=hi.sl k _ hk;obtain⟨E',hw',x,hi',hv⟩:=hi.newRow ho e z;simp only[aP]at h2;refine⟨E',hw'.trans hw,⟨hi'.h.slot k _,hi'.fr,fun j tv hj=>?_,hi'.defers,hi'.size⟩⟩;by_cases ej:j=k
 ·subst ej;simp only[upd,if_true,It.v.injEq]at hj;subst hj;exact⟨u,h1,by simp only[aP];exact⟨by rw[h2];rfl,z,0,_,hv,au _,fun _=>h2⟩⟩
 ·simp only[upd,Pl.s.injEq,ej,if_false,reduceCtorEq]at hj;exact hi'.sl j tv (by simpa[upd]using hj)
theorem GS.view{t:S}{s id n e k:Nat}{es:List (List TV)}{sh:Bool}{xs:List (List D)}(hs:t (.s s) = .v (.aW id n))(ht:t (.o id) = .row e k es sh)(hn:n=es.length)(hx:jX es=some xs):
  GS A t (upd (upd t (.o id) (.row e k es true)) (.s s) (.v (.d (.sl xs)))):=fun a w ⟨E,hw,hi⟩=>by
 obtain⟨u,h1,h2⟩:=hi.sl s _ hs;obtain⟨E',hw',x,_,_,hi',hr,_⟩:=hi.freeze ht hx;subst hn;refine⟨E',hw'.trans hw,⟨hi'.h.slot s _,hi'.fr,fun j tv hj=>?_,hi'.defers,hi'.size⟩⟩;by_cases ej:j=s
 ·subst ej;simp only[upd,if_true,It.v.injEq]at hj;subst hj;exact⟨u,h1,by simp only[aP];exact hr u h2⟩
 ·simp only[upd,Pl.s.injEq,ej,if_false,reduceCtorEq]at hj;exact hi'.sl j tv (by simpa[upd]using hj)
end
end Go.Tr

namespace Go.Tr
open Go
def Q_:List TV→Nat→List (Pl×It)
 | [],_=>[]
 | a::l,k=>(.s k,.v a)::Q_ l (k+1)
def xL:List It→Nat→List (Pl×It)
 | [],_=>[]
 | i::l,k=>(.x k,i)::xL l (k+1)
def oL(ro:List (Nat×It)):List (Pl×It):=ro.map fun x=>(.o x.1,x.2)
theorem zk{l m:List (Pl×It)}{p:Pl}(h:∀x∈l,x.1≠p):look (l++m) p=look m p:=by
 induction l with
 | nil=>rfl
 | cons x l ih=>
   obtain⟨q,i⟩:=x;simp only[bg,look];rw[if_neg (fun e=>h (q,i) (by simp) e.symm)]
   simp_all
theorem ZN{k:Nat}:∀{l:List TV} {n:Nat} {m:List (Pl×It)},look (Q_ l n++m) (.s k)=if n≤k∧k<n+l.length then(match l[k-n]? with|some a=>.v a|none=>.none)else look m (.s k)
 | [],n,m=>by grind[Q_]
 | a::l,n,m=>by
   simp only[Q_,bg,look,Pl.s.injEq];by_cases e:k=n
   ·simp[*]
   ·rw[if_neg e,ZN (l:=l) (n:=n+1)]
    grind
theorem Oi{l:List TV}{n:Nat}{m:List (Pl×It)}{p:Pl}(h:∀k,p≠.s k):look (Q_ l n++m) p=look m p:=by
 refine zk ?_
 induction l generalizing n with
 | nil=>simp[Q_]
 | cons a l ih=>
   intro x hx;simp only[Q_,aF]at hx
   grind
theorem akx{i:Nat}:∀{l:List It} {n:Nat} {m:List (Pl×It)},look (xL l n++m) (.x i)=if n≤i∧i<n+l.length then l.getD (i-n) .none else look m (.x i)
 | [],n,m=>by grind[xL]
 | a::l,n,m=>by
   simp only[xL,bg,look,Pl.x.injEq];by_cases e:i=n
   ·simp[*]
   ·rw[if_neg e,akx (l:=l) (n:=n+1)]
    grind
theorem DC{l:List It}{n:Nat}{m:List (Pl×It)}{p:Pl}(h:∀k,p≠.x k):look (xL l n++m) p=look m p:=by
 refine zk ?_
 induction l generalizing n with
 | nil=>simp[xL]
 | cons a l ih=>
   intro x hx;simp only[xL,aF]at hx
   grind
theorem alV{k:Nat}:∀{ro:List (Nat×It)},look (oL ro) (.o k)=uU ro k
 | []=>rfl
 | (j,i)::ro=>by
   have ih:=alV (k:=k) (ro:=ro)
   grind[oL,look,uU]
theorem Pv{ro:List (Nat×It)}{p:Pl}(h:∀k,p≠.o k):look (oL ro) p = .none:=by
 have:=zk (l:=oL ro) (m:=[]) (p:=p) (fun x hx=>by
  simp only[oL,ak]at hx
  grind)
 grind[look]
theorem lD.congr{E:En}{H H':S}(h:lD E H)(he:∀p,(∀k,p≠.s k)→H' p=H p):lD E H':=
 ⟨fun p hp=>by rw[he p hp];exact h.item p hp,h.frees,h.inj,h.size,h.o_,fun b o h1 p h2=>by
  obtain⟨e,k,es,h3,h4⟩:=h.sep b o h1 p h2;refine⟨e,k,es,?_,h4⟩;rw[he p ?_]
  ·omega
  ·rintro k rfl;simp[En.own,h.frees k]at h2,h.gl⟩
def resV(P:Program)(t:S):ResultVar→Option (Prop×TV)
 | .tmp k=>match t (.s k)with
   | .v x=>some (True,x)
   | _=>none
 | .cell k ty=>match ev t (.tmp k)with
   | .ptr p q=>match t p with
     | .box cs=>cellsOf P ty cs q
     | _=>none
   | _=>none
def Yx(P:Program)(t:S):List ResultVar→Option (Prop×List TV)
 | []=>some (True,[])
 | x::l=>match resV P t x,Yx P t l with
   | some (C,v),some (C',vs)=>some (C∧C',v::vs)
   | _,_=>none
def ajW(P:Program)(t:S)(l:List ResultVar):Option (Prop×TV):=
 match Yx P t l with
 | some (C,[v])=>some (C,v)
 | some (C,vs)=>some (C,.qh vs)
 | none=>none
def Fin(P:Program)(A:f_)(fn:Func)(r:TV)(xs:List It)(ro:List (Nat×It))(t:S):Prop:=
 ∀a w,Inv A t a w→∃u E',(results fn a.tmps).run P w = .ok u w∧E'.w=w∧Post A.E0 xs ro r u E'
def fin(P:Program)(A:f_)(fn:Func)(r:TV)(xs:List It)(ro:List (Nat×It)):Exit→S→Prop
 | .normal,t=>Fin P A fn r xs ro t
 | .ret,t=>Fin P A fn r xs ro t
 | _,_=>False
section
variable {P:Program} {A:f_}
theorem Fin.ghost{fn:Func}{r:TV}{xs:List It}{ro:List (Nat×It)}{t t':S}(h:Fin P A fn r xs ro t')(g:GS A t t'):Fin P A fn r xs ro t:=fun a w hi=>h a w (g a w hi)
def aeG(a:Act):ResultVar→Sem Value
 | .tmp t=>Pure.pure (a.tmps.getD t undef)
 | .cell b t=>do loadVar t (←asAddr (a.tmps.getD b undef))
theorem aaR(fn:Func)(a:Act):results fn a.tmps=(do
  let vs ←fn.results.mapM (aeG a)
  pure (if h:vs.size=1 then vs[0]else .tuple vs)):=rfl
theorem ahP{t:S}{a:Act}{E:En}(hi:eY A t a E){x:ResultVar}{C:Prop}{v:TV}(h:resV P t x=some (C,v))(hC:C):
  ∃u,(aeG a x).run P E.w = .ok u E.w∧aP E v u:=by
 unfold aeG;cases x with
 | tmp k=>
   simp only[resV]at h;split at h
   ·rename_i tv ht;simp only[ah,aO]at h;obtain⟨_,rfl⟩:=h;obtain⟨u,h1,h2⟩:=hi.sl k tv ht
    simp_all
   trivial
 | cell k ty=>
   simp only[resV]at h;have hr:=bP hi (.tmp k);split at h
   ·rename_i p q hp;split at h
    ·rename_i cs ht;rw[hp]at hr
     obtain⟨b,ty',us,hu,hb,hh,hs,hc⟩:=UJ hi ht hr;have hu':a.tmps.getD k undef = .pointer (some ⟨b,q,none⟩):=hu;unfold cellsOf at h;split at h
     ·rename_i hsh;split at h
      ·rename_i tv hv;simp only[ah,aO]at h;obtain⟨_,rfl⟩:=h;obtain⟨u,h1,_,h2⟩:=hc.get hv
       grind[sK,asAddr,vg]
      trivial
     ·rename_i hsh;split at h
      ·rename_i z hz;simp only[ah,aO]at h;obtain⟨rfl,rfl⟩:=h;have hc':=(hc.sub q z).vals;simp only[bT]at hc';have hl:((cs.drop q).take z).length=z:=by grind
       rw[hl]at hc'
       have:=u_ (P:=P) hsh hz hc'.2 (w:=E.w) (A_ (b:=b) (fun j u hj=>by grind[sK]) q z);exact⟨.agg ((us.toList.drop q).take z).toArray,by grind[asAddr],by simp only[aP];simp[*]⟩
      trivial
     trivial
    trivial
   trivial
theorem Ku{t:S}{a:Act}{E:En}(hi:eY A t a E):∀{l:List ResultVar} {C:Prop} {vs:List TV},Yx P t l=some (C,vs)→C→
  ∃us,(l.mapM (aeG a)).run P E.w = .ok us E.w∧bD E vs us
 | [],C,vs,h,_=>by obtain⟨_,rfl⟩:=h;simp[bD]
 | x::l,C,vs,h,hC=>by
   simp only[Yx]at h;split at h
   ·rename_i C1 v C2 vs' h1 h2;obtain⟨rfl,rfl⟩:=h;obtain⟨u,g1,g2⟩:=ahP hi h1 hC.1;obtain⟨us,g3,g4⟩:=Ku hi h2 hC.2;refine⟨u::us,?_,by simp only[bD];grind⟩;simp[*]
   trivial
theorem Fin.done{fn:Func}{r:TV}{xs:List It}{ro:List (Nat×It)}{l:List (Pl×It)}{C:Prop}(hres:ajW P (look l) fn.results.toList=some (C,r))(hC:C)(hr:r.only (· ∈oz (oL ro)))
  (hs:Sub (look l) (xL xs 0++oL ro)) (hx:lu (xL xs 0++oL ro)=lu l) (ho:oz (xL xs 0++oL ro)=oz (oL ro)):Fin P A fn r xs ro (look l):=fun a w ⟨E,hw,hi⟩=>by
 subst hw;have hi2:=hi.forget hs (abj hs.1 hx);rw[ho]at hi2
 have hH:lD (E.res (oz (oL ro))) (oP xs ro):=hi2.h.congr fun p hp=>by
  cases p with
  | s k=>simp_all
  | x i=>
    rw[akx];simp only[oP,jk,true_and,bT,lW]
    grind[Pv]
  | o k=>rw[DC (fun j e=>by trivial),alV];rfl
 have hrun:∃u,(results fn a.tmps).run P E.w = .ok u E.w∧aP E r u:=by
  unfold ajW at hres;rw[aaR];have hm:∀l:List ResultVar,l.toArray.mapM (aeG a)=Functor.map List.toArray (l.mapM (aeG a)):=by simp
  have hfn:fn.results=fn.results.toList.toArray:=by simp
  rw[hfn,hm];split at hres
  ·rename_i C' v hv;obtain⟨rfl,rfl⟩:=hres;obtain⟨us,g1,g2⟩:=Ku hi hv hC;obtain⟨u,_,rfl,g3,rfl⟩:=g2
   simp_all
  ·rename_i C' vs hne hv;obtain⟨rfl,rfl⟩:=hres;obtain⟨us,g1,g2⟩:=Ku hi hv hC;refine⟨.tuple us.toArray,?_,by simp only[aP];simp[*]⟩;have hl:=g2.length;have hl1:vs.length≠1:=fun h=>by
    match vs,h with
    | [v],_=>simp[*]
   simp_all
  trivial
 obtain⟨u,h1,h2⟩:=hrun;exact⟨u,E.res (oz (oL ro)),h1,rfl,hH,hi2.fr,aP.ext (En.VE E _) _ _ hr h2⟩
theorem ay{f:FuncId}{fn:Func}{c:Code}{args:List TV}{xs:List It}{r:TV}{xs':List It}{ro:List (Nat×It)}(hf:P.funcs[f]? = some fn)(hb:fn.body=some c)
  (h:∀E0,AW P ⟨E0,fn.ntmps⟩ c (fin P ⟨E0,fn.ntmps⟩ fn r xs' ro) (look (Q_ args 0++xL xs 0))):Contract P f args xs r xs' ro:=fun E us hH hargs=>by
 refine calls_of_wp hf hb (Code.wp_mono (fun e a w hq=>?_) (h E {tmps:=us.toArray++Array.replicate (fn.ntmps-us.toArray.size) undef,defers:=[]} E.w ⟨E,rfl,⟨?_,?_,?_,rfl,?_⟩⟩))
 ·obtain⟨t,hi,hq⟩:=hq;have key:Fin P ⟨E,fn.ntmps⟩ fn r xs' ro t→a.defers = []∧∃v,(results fn a.tmps).run P w = .ok v w∧∃u E',Ending.returned v = .returned u∧E'.w=w∧Post E xs' ro r u E':=fun hF=>by
   obtain⟨u,E',h1,h2,h3⟩:=hF a w hi;obtain⟨E1,_,hi1⟩:=hi;exact⟨hi1.defers,u,h1,u,E',rfl,h2,h3⟩
  cases e<;>first
   | exact hq.elim
   | exact key hq
 ·refine hH.congr fun p hp=>?_
  rw[Oi hp];cases p with
  | s k=>simp_all
  | x i=>
    have:=akx (i:=i) (l:=xs) (n:=0) (m:=[]);rw[bQ]at this
    rw[this];simp only[BG,jk,true_and,bT,lW];split
    ·rfl
    ·rw[List.getD,dX (by omega)];rfl
  | o k=>
    have:=DC (l:=xs) (n:=0) (m:=[]) (p:=.o k) (fun j e=>by trivial);rw[bQ]at this
    trivial
 ·have hno:∀id,E.own (.o id)=none:=fun id=>by
   have:=hH.item (.o id) (by simp);obtain⟨h1,h2⟩:=this id rfl
   grind[En.own]
  exact⟨rfl,rfl,rfl,au _,fun _ _ _ _=>rfl,fun _=>rfl,fun id b hb=>by simp_all,fun _ _ h=>h,fun _ _ h=>.inl h⟩
 ·intro k tv hk;rw[ZN]at hk
  simp only[jk,true_and,bT,lW]at hk;have hx:look (xL xs 0) (.s k) = .none:=by
   have:=DC (l:=xs) (n:=0) (m:=[]) (p:=.s k) (fun j e=>by trivial);rw[bQ]at this
   trivial
  split at hk
  ·rename_i hlt;have hak:args[k]? = some args[k]:=by simp
   rw[hak]at hk
   simp only[It.v.injEq]at hk;subst hk;obtain⟨u,h1,h2⟩:=hargs.get hak
   grind
  simp_all
 grind
end
end Go.Tr

namespace Go.Tr
open Go
theorem acW{N:Nat}{o:Oper}{gp:List Pl}{e:Eff}{k:List Pl→List (Pl×It)→Prop}{g:Tg k}:UA N o gp (some e) k g=(mZ N o=true∧e.C∧k (gp++e.rp) (rM o e.v e.W)):=rfl
theorem ae6{N:Nat}{o:Oper}{gp:List Pl}{b:Bool}{X:List Pl→Prop}{k:List Pl→List (Pl×It)→Prop}{x:Tg X}{g:Tg k}:AGv N o (some (gp,b)) X k x g=QD b (X gp) (mZ N o=true∧k gp (rM o (.c undef) [])) .mk .mk:=rfl
theorem Y5{b:Bool}{X Y:Prop}{x:Tg X}{y:Tg Y}:Rz (some b) X Y x y=QD b X Y .mk .mk:=rfl
theorem look_nil(p:Pl):look [] p = .none:=rfl
theorem ad7(q:Pl)(i:It)(l:List (Pl×It))(p:Pl):look ((q,i)::l) p=if p=q then i else look l p:=rfl
theorem adZ(kp:Nat→Bool):pY kp [] = []:=rfl
theorem ab3(kp:Nat→Bool)(k:Nat)(i:It)(l:List (Pl×It)):pY kp ((.s k,i)::l)=if kp k then(.s k,i)::pY kp l else pY kp l:=rfl
theorem Vg(kp:Nat→Bool)(k:Nat)(i:It)(l:List (Pl×It)):pY kp ((.o k,i)::l)=(.o k,i)::pY kp l:=rfl
theorem ab4(kp:Nat→Bool)(k:Nat)(i:It)(l:List (Pl×It)):pY kp ((.x k,i)::l)=(.x k,i)::pY kp l:=rfl
theorem abb(K:S→Prop)(Q:Exit→S→Prop)(t:S):thn K Q .normal t=K t:=rfl
theorem akm(K:S→Prop)(Q:Exit→S→Prop)(t:S):thn K Q .ret t=Q .ret t:=rfl
theorem aiq(K:S→Prop)(Q:Exit→S→Prop)(t:S)(n:Nat):thn K Q (.exit n) t=Q (.exit n) t:=rfl
theorem ah1(Q:Exit→S→Prop)(t:S):aj3 Q .ret t=Q .ret t:=rfl
theorem WI(Q:Exit→S→Prop)(t:S)(b:Nat):UG b Q .normal t=Q .normal t:=rfl
theorem afs(Q:Exit→S→Prop)(t:S)(b:Nat):UG b Q .ret t=Q .ret t:=rfl
theorem adh(Q:Exit→S→Prop)(t:S)(b n:Nat):UG b Q (.exit n) t=if n=b then Q .normal t else Q (.exit n) t:=rfl
theorem Y7{X:Prop}{Y:List Pl→List (Pl×It)→Prop}{x:Tg X}{y:Tg Y}:RF .none X Y x y=X:=rfl
theorem Y8{C:Prop}{rp:List Pl}{W:List (Pl×It)}{X:Prop}{Y:List Pl→List (Pl×It)→Prop}{x:Tg X}{y:Tg Y}:RF (.some C rp W) X Y x y=(C∧Y rp W):=rfl
theorem ac1:VR.none.C=True:=rfl
theorem ac3:VR.none.W = []:=rfl
theorem ac2(C:Prop)(rp:List Pl)(W:List (Pl×It)):(VR.some C rp W).C=C:=rfl
theorem ac4(C:Prop)(rp:List Pl)(W:List (Pl×It)):(VR.some C rp W).W=W:=rfl
attribute [simp] Y7 Y8 ac1 ac2 ac3 ac4 og BF sS undef YE IX eqT eqL u8s Bo
theorem acX{P:Program}{ops:Array Oper}{L:Log}{X:Prop}:aiB P ops L X true=(X∧(P.follows .mixedOrders=true∧BQ ops (shapes L []))):=rfl
theorem Y6{P:Program}{ops:Array Oper}{L:Log}{X:Prop}:aiB P ops L X false=X:=rfl
theorem ak1{P:Program}{A:f_}{ow:List Nat}{ops:Array Oper}{o:Oper}{i:Nat}{t:S}{k:List Pl→List (Pl×It)→Prop}{g:Tg k}:AOp P A ow ops o i t k g =
  AGv A.N o (gv ops t o) (fun gp=>RF (og t (sS ow o.op)) (QD (isGo o.op) (QD (aaj ow o.op) (oG P A ops i t k .mk) (aI P A ops i t k .mk) .mk .mk) (QD (adT o.op) (oG P A ops i t k .mk) (UA A.N o gp (eff P ow t o) k .mk) .mk .mk) .mk .mk)
  (fun rp0 W0=>QD (isGo o.op) (aI P A ops i (over t W0) (fun rp W=>k (rp0++rp) (W++W0)) .mk)
  (UA A.N o gp (eff P ow (over t W0) o) (fun rp W=>k (rp0++rp) (W++W0)) .mk) .mk .mk) .mk .mk) k .mk .mk:=rfl
attribute [simp] and_assoc List.getElem?_cons_zero List.getElem?_cons_succ acX Y6 shapes acW ae6 Y5 tJ oZ iC xg ak1 gv isGo adT aaj ajI RD Np eff ev pl look_nil ad7 jL je over rM mZ NM abb akm aiq WI afs adh ah1 Ea adZ ab3 Vg ab4 Q_ xL gev Xz U1 ZF afp aiH ak4 MJ NH afP unD UY ZI Ap N8 Aq N9 Fp cellsOf U0 Oa ZH acO Jz NY ZG NZ y8 N_ JD zL UW Fq JC Aw JB Cm y9 N7 JA kJ oq MQ OV toKey ae2 Au lkV LD JW UZ TV.cells TV.one setAt partT TJ kK kS plO WX Ji
set_option linter.unusedVariables false
def ak0(P:Program)(fn:Func)(r:TV)(xs:List It)(ro:List (Nat×It))(l:List (Pl×It)):Option (Prop×TV)→Prop
 | some (C,r')=>C∧r'=r∧r.only (· ∈oz (oL ro))∧Sub (look l) (xL xs 0++oL ro)∧lu (xL xs 0++oL ro)=lu l∧oz (xL xs 0++oL ro)=oz (oL ro)
 | none=>False
theorem Fin.of{P:Program}{A:f_}{fn:Func}{r:TV}{xs:List It}{ro:List (Nat×It)}{l:List (Pl×It)}(h:ak0 P fn r xs ro l (ajW P (look l) fn.results.toList)):Fin P A fn r xs ro (look l):=by
 unfold ak0 at h;split at h
 ·grind[Fin.done]
 trivial
theorem ai6{P:Program}{A:f_}{fn:Func}{r:TV}{xs:List It}{ro:List (Nat×It)}{t:S}:fin P A fn r xs ro .ret t=Fin P A fn r xs ro t:=rfl
theorem ZQ{P:Program}{A:f_}{fn:Func}{r:TV}{xs:List It}{ro:List (Nat×It)}{t:S}:fin P A fn r xs ro .normal t=Fin P A fn r xs ro t:=rfl
attribute [simp] ai6 ZQ ak0 ajW Yx resV Sub oz lu oL TV.only TV.rJ
theorem QD.dec{p:Prop}[Decidable p]{X Y:Prop}{x:Tg X}{y:Tg Y}(h:p→X)(g :¬p→Y):QD (decide p) X Y x y:=⟨fun e=>h (by simp_all),fun e=>g (by simp_all)⟩
theorem wrap_i64{n:Int}(h1 :-9223372036854775808≤n)(h2:n≤9223372036854775807):IntKind.i64.wrap n=n:=by
 simp only[IntKind.wrap,show IntKind.i64.bits=64 from rfl,show IntKind.i64.signed=true from rfl,jq]
 grind
theorem wrap_u64{n:Int}(h1:0≤n)(h2:n≤18446744073709551615):IntKind.u64.wrap n=n:=by
 simp only[IntKind.wrap,show IntKind.u64.bits=64 from rfl,show IntKind.u64.signed=false from rfl,Bool.false_and]
 grind
def I64(n:Int):Prop:=-9223372036854775808≤n∧n≤9223372036854775807
theorem aq9(a b:Int):(a==b)=decide (a=b):=by rfl
theorem ara(a b:Int):(a != b) = !decide (a=b):=by rfl
def wu(n:Int):BitVec 64:=BitVec.ofInt 64 n
theorem Jc(n:Int):IntKind.u64.wrap n=((wu n).toNat:Int):=by
 simp only[IntKind.wrap,show IntKind.u64.bits=64 from rfl,show IntKind.u64.signed=false from rfl,Bool.false_and,wu]
 grind[BitVec.toNat_ofInt]
def tn(B:BitVec 64):Int:=(B.toNat:Int)
theorem E8(B:BitVec 64):wu (tn B)=B:=by simp[BitVec.eq_of_toNat_eq,BitVec.toNat_ofInt,wu,tn]
theorem Wh(n:Int):IntKind.u64.wrap n=tn (wu n):=Jc n
theorem u64_and(a b:Int):Lp .u64 a b=tn (wu a&&&wu b):=by rw[Lp,Jc];exact congrArg tn (E8 (wu a&&&wu b))
theorem u64_or(a b:Int):orI .u64 a b=tn (wu a|||wu b):=by rw[orI,Jc];exact congrArg tn (E8 (wu a|||wu b))
theorem u64_andNot(a b:Int):DI .u64 a b=tn (wu a &&& ~~~ wu b):=by rw[DI,Jc];exact congrArg tn (E8 (wu a &&& ~~~ wu b))
theorem ED(x:Int):IntKind.u64.wrap x=x%18446744073709551616:=by rfl
theorem aiz(x:Int):((wu x).toNat:Int)=x%18446744073709551616:=by rw[←Jc,ED]
theorem aks(a b:Int):ah8 .u64 a b=tn (wu a<<<b.toNat):=by
 generalize hn:b.toNat=n;rw[ah8,tn,hn,ED,BitVec.toNat_shiftLeft,Nat.shiftLeft_eq,Int.natCast_emod,Int.natCast_mul,aiz,show(((2^64:Nat):Int))=18446744073709551616 by decide,Int.mul_emod (a%18446744073709551616),Int.emod_emod_of_dvd _ (Int.dvd_refl _),←Int.mul_emod,Int.natCast_pow]
 show a*2^min n 64%18446744073709551616=a*2^n%18446744073709551616
 by_cases h:n≤64
 ·rw[Nat.min_eq_left h]
 ·rw[Nat.min_eq_right (by omega),show n=64+(n-64) by omega,Int.pow_add,←Int.mul_assoc];rw[show(2:Int)^64=18446744073709551616 by decide];rw[Int.mul_emod_left,Int.mul_assoc,Int.mul_comm 18446744073709551616,←Int.mul_assoc,Int.mul_emod_left]
theorem acU(B:BitVec 64)(b:Int):YJ .u64 (tn B) b=tn (B>>>b.toNat):=by
 generalize hn:b.toNat=n;rw[YJ,tn,tn,hn,BitVec.toNat_ushiftRight,Nat.shiftRight_eq_div_pow,show IntKind.u64.bits=64 from rfl];have hb:B.toNat<2^64:=B.isLt;rw[show((2:Int)^min n 64)=((2^min n 64:Nat):Int) by simp,Int.fdiv_eq_ediv_of_nonneg _ (Int.natCast_nonneg _),←Int.natCast_ediv];by_cases h:n≤64
 ·rw[Nat.min_eq_left h]
 ·rw[Nat.min_eq_right (by omega),Nat.div_eq_of_lt hb,Nat.div_eq_of_lt (dA hb (nP (by omega) (by omega)))]
theorem abd(A B:BitVec 64):(tn A=tn B)=(A=B):=propext ⟨fun h=>by grind[E8],fun h=>h▸rfl⟩
theorem acQ:tn 0#64=0:=rfl
theorem amC:tn 1#64=1:=rfl
theorem amA(A:BitVec 64):(tn A=0)=(A=0#64):=abd A 0#64
theorem amB(A:BitVec 64):(tn A=1)=(A=1#64):=abd A 1#64
theorem akw:wu 0=0#64:=rfl
theorem amI:wu 1=1#64:=rfl
attribute [simp] aq9 ara E8 u64_and u64_or u64_andNot aks acU abd acQ amC amA amB akw amI
def uf(k:Nat)(ys:List (List TV)):Prop:=∀e∈ys,e.length=k
theorem YA(k:Nat):uf k []=True:=by simp[uf]
theorem VG(k:Nat)(e:List TV)(es:List (List TV)):uf k (e::es)=(e.length=k∧uf k es):=by simp[uf]
theorem Yz(k:Nat)(a b:List (List TV)):uf k (a++b)=(uf k a∧uf k b):=by
 simp only[uf,aN,eq_iff_iff]
 grind
theorem aaW(k:Nat)(ys:List (List D)):uf k (dd ys)=dLen k ys:=by simp[uf,dLen,dd]
theorem zK{α:Type}(k:Nat)(f:α→List D)(l:List α)(h:∀x,(f x).length=k):dLen k (l.map f):=by
 intro e he
 grind
theorem DY{k n:Nat}{l:List (List D)}(h:dLen k l):dLen k (l.take n):=fun e he=>h e (iW he)
theorem Sl{k n:Nat}{l:List (List D)}(h:dLen k l):dLen k (l.drop n):=fun e he=>h e (List.mem_of_mem_drop he)
attribute [simp] YA VG Yz aaW
theorem afh(k b n:Nat)(ys:List (List TV)):Gx k b n ys=(uf k ys∧(n+ys.length)*b≤140737488355328∧n+ys.length≤9223372036854775807):=rfl
attribute [simp] afh Value.oneCell'
theorem YW:∀l:List D,LM (l.map .d)=some l
 | []=>rfl
 | x::l=>by simp only[aC,LM,YW l];rfl
@[simp]theorem I8:∀l:List (List D),jX (dd l)=some l
 | []=>rfl
 | x::l=>by have:=I8 l;simp only[dd]at this;simp only[dd,aC,jX,YW,this]
@[simp]theorem V8:∀a b:List (List TV),jX (a++b)=match jX a,jX b with
  | some x,some y=>some (x++y)
  | _,_=>none
 | [],b=>by cases h:jX b<;>simp[jX,h]
 | e::a,b=>by
   simp only[bg,jX,V8 a b]
   grind
@[simp]theorem amK(l:List (List D)):(dd l).length=l.length:=by simp[dd]
@[simp]theorem arB:dd [] = []:=rfl
theorem aiU(e:List D)(b:List (List D)):dd (e::b)=e.map .d::dd b:=rfl
@[simp]theorem amJ(a b:List (List D)):dd (a++b)=dd a++dd b:=by simp[dd]
section
variable {P:Program} {A:f_} {ops:Array Oper}
def afw(P:Program)(N:Nat)(t:S)(o:Oper)(f:FuncId)(nC:List TV)(w_:List It)(r:TV)(iH:List It)(ro:List (Nat×It))(ν:List Pl)(b:Nat)(gp:List Pl)(g:Bool):Option (Prop×List Pl×List (Pl×It)):=
 match o.op with
 | .call {callee:=.value fo,args:=xs,argTypes:=_}=>
   match ev t fo with
   | .clo f' caps=>
     match vW t ν ν,TV.n_ t ν (xs.toList.map (ev t)++caps)with
     | some c0,some a0=>
       some (g=true∧mZ N o=true∧f'=f∧dB P f=true∧ν.Nodup∧(∀p∈ν,rP p=true)∧a0=nC∧TV.pU t (xs.toList.map (ev t)++caps)∧c0=w_∧(∀p∈ν,F5 t (t p))∧
        iH.length=ν.length∧(∀x∈iH,nD x=true)∧(∀x∈ro,isObj x.2=true)∧(∀x∈ro,t (.o (b+x.1)) = .none),
        gp++(pl fo++(xs.toList.flatMap pl++(ν++((TV.qG (xs.toList.map (ev t)++caps)++ν.flatMap (fun p=>IK (t p))).map .o++ro.map fun x=>.o (b+x.1))))),
        rM o (r.back ν b) (wx ν b ν iH++wo ν b ro))
     | _,_=>none
   | _=>none
 | _=>none
def QC(k:List Pl→List (Pl×It)→Prop)(_:Tg k):Option (Prop×List Pl×List (Pl×It))→Prop
 | some (C,rp,W)=>C∧k rp W
 | none=>False
def afv(P:Program)(N:Nat)(t:S)(ops:Array Oper)(f:FuncId)(nC:List TV)(w_:List It)(r:TV)(iH:List It)(ro:List (Nat×It))(ν:List Pl)(b:Nat):Option Oper→Option (Prop×List Pl×List (Pl×It))
 | some o=>match gv ops t o with
   | some (gp,g)=>afw P N t o f nC w_ r iH ro ν b gp g
   | none=>none
 | none=>none
theorem aI.of{i:Nat}{t:S}{k:List Pl→List (Pl×It)→Prop}{g:Tg k}{f:FuncId}{nC:List TV}{w_ iH:List It}{r:TV}{ro:List (Nat×It)}(C:Contract P f nC w_ r iH ro)(ν:List Pl)(b:Nat)
  (h:QC k g (afv P A.N t ops f nC w_ r iH ro ν b ops[i]?)):aI P A ops i t k g:=by
 unfold QC at h;split at h
 ·rename_i D rp W hc;obtain⟨h1,h2⟩:=h;refine⟨rp,W,?_,h2⟩;unfold afv at hc;split at hc
  ·rename_i o ho;split at hc
   ·rename_i gp g0 hg;unfold afw at hc;split at hc
    ·rename_i fo xs tys hop;split at hc
     ·rename_i f' caps hf;split at hc
      ·rename_i c0 a0 hI hp;simp only[ah,aO]at hc;obtain⟨rfl,rfl,rfl⟩:=hc;obtain⟨rfl,q1,rfl,q2,q3,q4,rfl,q5,rfl,q6,q7,q8,q9,q10⟩:=h1;exact Sum.call (xs:=xs.toList) ho hg q1 (by simpa using hop) hf q2 C ν b q3 q4 hp q5 hI q6 q7 q8 q9 q10
      ·simp at hc
     ·simp at hc
    ·simp at hc
   trivial
  trivial
 trivial
end
theorem ae5{k:List Pl→List (Pl×It)→Prop}{g:Tg k}{C:Prop}{rp:List Pl}{W:List (Pl×It)}:QC k g (some (C,rp,W))=(C∧k rp W):=rfl
structure akz{ι:Type}(A:f_)(st:ι→List (Pl×It))(μ:ι→Nat)(n:Nat)(_g:Tg st)(_f:Tg μ)(t:S):Prop where
 ex:∃j,GS A t (look (st j))∧μ j<n
theorem dD.of{P:Program}{A:f_}{ι:Type}{c:Code}{Q:Exit→S→Prop}{g:Tg Q}{t:S}(ow:List Nat)(kp:Nat→Bool)(st:ι→List (Pl×It))(μ:ι→Nat)(i0:ι)(h0:GS A t (look (st i0)))
  (round:∀i,iC P A ow kp c (thn (akz A st μ (μ i) .mk .mk) Q) .mk (look (st i))):dD P A c Q g t:=
 ⟨AW.loop (fun i=>look (st i)) μ i0 h0 fun i=>(iC.sound (round i)).mono fun e t h=>by cases e<;>first|exact h.ex|exact h⟩
theorem GS.own'{A:f_}{l l':List (Pl×It)}{k:Nat}(e z:Nat)(hk:look l (.s k) = .v (.c (.slice none 0 0)))(ho:look l (.o k) = .none)
  (h:Sub (look (jL (.s k) (.v (.aW k 0)) (jL (.o k) (.row e z [] false) l))) l'∧lu l'=lu (jL (.s k) (.v (.aW k 0)) (jL (.o k) (.row e z [] false) l))):GS A (look l) (look l'):=by
 have:=GS.own (A:=A) e z hk ho;rw[je,je]at this
 exact this.trans (GS.forget h.1 h.2)
def TN:List (Pl×It)→List (Pl×It)→List (Pl×It)
 | [],l=>l
 | (p,i)::W,l=>jL p i (TN W l)
theorem TP:∀(W l:List (Pl×It)),over (look l) W=look (TN W l)
 | [],_=>rfl
 | (p,i)::W,l=>by simp only[over,TN,TP W l,je]
theorem GS.aiy{A:f_}{l l':List (Pl×It)}(s:Nat)(h:(BF (look l) (.tmp s)).C∧Sub (look (TN (BF (look l) (.tmp s)).W l)) l'∧lu l'=lu (TN (BF (look l) (.tmp s)).W l)):GS A (look l) (look l'):=
 fun a w hi=>by
  have:=Qy h.1 (fun _ _=>rfl) hi;rw[TP]at this
  exact GS.forget h.2.1 h.2.2 a w this
attribute [simp] TN
theorem GS.to{A:f_}{l l':List (Pl×It)}(h:Sub (look l) l'∧lu l'=lu l):GS A (look l) (look l'):=GS.forget h.1 h.2
def lH(po:Nat→Prop)(es:List (List TV)):Prop:=∀e∈es,TV.rJ po e
theorem VI(po:Nat→Prop):lH po []=True:=by simp[lH]
theorem Rq(po:Nat→Prop)(e:List TV)(es:List (List TV)):lH po (e::es)=(TV.rJ po e∧lH po es):=by simp[lH]
theorem VH(po:Nat→Prop)(a b:List (List TV)):lH po (a++b)=(lH po a∧lH po b):=by
 simp only[lH,aN,eq_iff_iff]
 grind
theorem Vt(po:Nat→Prop):∀l:List D,TV.rJ po (l.map .d)=True
 | []=>by rfl
 | x::l=>by simp only[aC,TV.rJ,TV.only,Vt po l,and_self]
theorem YB(po:Nat→Prop)(xs:List (List D)):lH po (dd xs)=True:=by simp only[lH,dd,ak,eq_iff_iff,iff_true];simp[Vt]
attribute [simp] VI Rq VH YB Vt aiU
section
variable (t:S) (ν:List Pl) (b:Nat) (po:Nat→Prop) (cs:List TV) (e k:Nat) (es:List (List TV)) (sh:Bool)
theorem aeu:PN t ν (.box cs)=match TV.n_ t ν cs with|some cs=>some (.box cs)|none=>none:=rfl
theorem aaD:F5 t (.box cs)=TV.pU t cs:=rfl
theorem aeM:IK (.box cs)=TV.qG cs:=rfl
theorem ada:GI ν b (.box cs) = .box (TV.backs ν b cs):=rfl
theorem ade:GI ν b (.row e k es sh) = .row e k (es.map (TV.backs ν b)) sh:=rfl
theorem adS:nD (.box cs)=true:=rfl
theorem adV:isObj (.row e k es sh)=true:=rfl
theorem Fin.view{P:Program}{A:f_}{fn:Func}{r:TV}{xs:List It}{ro:List (Nat×It)}{l:List (Pl×It)}(s:Nat)(h:(BF (look l) (.tmp s)).C∧Fin P A fn r xs ro (over (look l) (BF (look l) (.tmp s)).W)):Fin P A fn r xs ro (look l):=
 fun a w hi=>h.2 a w (Qy h.1 (fun _ _=>rfl) hi)
theorem YF(ps:List (Nat×Operand))(n:Nat):wX ps n=(ps.map (·.1)==List.range' 0 n):=by rw[wX,jD]
theorem ao8(x:D):toD (.d x)=some x:=rfl
theorem aek:It.only po .none=True:=rfl
theorem al0(v:TV):It.only po (.v v)=v.only po:=rfl
theorem ahd:It.only po (.box cs)=TV.rJ po cs:=rfl
theorem ahg:It.only po (.row e k es sh)=lH po es:=rfl
theorem ajL(m:List (Int×D)):It.only po (.mp m)=True:=rfl
theorem agK(m:List (Int×D)):isObj (.mp m)=true:=rfl
theorem afm(m:List (Int×D)):GI ν b (.mp m) = .mp m:=rfl
attribute [simp] ajL agK afm
end
attribute [simp] ao8 aeu aaD aeM ada ade adS adV aek al0 ahd ahg
attribute [simp] YF lS ae5 afv afw TV.pass TV.n_ TV.yU TV.pU TV.rows TV.qG TV.back TV.backs vW Z9 rP wx wo jX LM
end Go.Tr

namespace Go.Tr
open Go
section
variable {A:f_}
theorem eY.aiJ{t:S}{a:Act}{E:En}{p:Pl}{cs:List TV}{j:Nat}{c c':TV}(hi:eY A t a E)(hs:∀k,p≠.s k)(hp:t p = .box cs)(hj:cs[j]? = some c)(hrel:∀u,aP E c u→aP E c' u):
  eY A (upd t p (.box (cs.set j c'))) a E:=by
 refine⟨⟨fun q hq=>?_,hi.h.frees,hi.h.inj,hi.h.size,hi.h.o_,fun b o h1 q h2=>?_,hi.h.gl⟩,hi.fr,fun k tv hk=>?_,hi.defers,hi.size⟩
 ·by_cases e:q=p
  ·subst e;have h:=hi.h.item q hq;rw[hp]at h
   simp only[upd,if_true];obtain⟨h1,b,ty,us,h2,h3,h4,h5⟩:=h;refine⟨h1,b,ty,us,h2,h3,by simp[*],cu.iI fun i x hx=>?_⟩;by_cases ei:i=j
   ·subst ei;have hlt:i<cs.length:=by grind
    rw[List.getElem?_set_self hlt]at hx
    simp only[ah]at hx;obtain⟨u,g1,g2,g3⟩:=h5.get hj
    simp_all
   ·rw[List.getElem?_set_ne (fun h=>ei h.symm)]at hx
    exact h5.get hx
  ·simp only[upd,if_neg e];exact hi.h.item q hq
 ·obtain⟨e,k,es,h3,h4⟩:=hi.h.sep b o h1 q h2;refine⟨e,k,es,?_,h4⟩;have:q≠p:=by grind
  simp only[upd,if_neg this];omega
 ·have:Pl.s k≠p:=by grind
  simp only[upd,if_neg this]at hk;exact hi.sl k tv hk
theorem GS.ownB{t:S}{p:Pl}{cs:List TV}{j id:Nat}(e z:Nat)(hs:∀k,p≠.s k)(hp:t p = .box cs)(hj:cs[j]? = some (.c (.slice none 0 0)))(ho:t (.o id) = .none):
  GS A t (upd (upd t (.o id) (.row e z [] false)) p (.box (cs.set j (.aW id 0)))):=fun a w ⟨E,hw,hi⟩=>by
 obtain⟨E',hw',x,hi',hv⟩:=hi.newRow ho e z;have hne:p≠.o id:=by grind
 refine⟨E',hw'.trans hw,hi'.aiJ hs (cs:=cs) (by simp only[upd,if_neg hne];omega) hj fun u hu=>?_⟩;simp only[aP]at hu⊢;simp[*]
theorem GS.Df{l l':List (Pl×It)}(p:Pl)(j id:Nat){cs:List TV}(e z:Nat)(hs:rP p=true)(hp:look l p = .box cs)(hj:cs[j]? = some (.c (.slice none 0 0)))(ho:look l (.o id) = .none)
  (h:Sub (look (jL p (.box (cs.set j (.aW id 0))) (jL (.o id) (.row e z [] false) l))) l'∧lu l'=lu (jL p (.box (cs.set j (.aW id 0))) (jL (.o id) (.row e z [] false) l))):GS A (look l) (look l'):=by
 have:=GS.ownB (A:=A) (id:=id) e z (fun k e=>by simp_all) hp hj ho;rw[je,je]at this
 exact this.trans (GS.forget h.1 h.2)
end
end Go.Tr
