/-
  What functions of the program compute, stated as contracts over plain data; the conditions of each stand in its own statement.
-/
import Derived.Test.YtboimfkommpglaaGreatDoorZA08
set_option linter.unusedSimpArgs false
namespace Go.Tr
open Go
def look:List (Pl×It)→S
 | [],_=>.none
 | (q,i)::l,p=>if p=q then i else look l p
def iI(p:Pl)(i:It):List (Pl×It)→List (Pl×It)
 | []=>[(p,i)]
 | (q,j)::l=>if p=q then(p,i)::l else(q,j)::iI p i l
theorem eU(p:Pl)(i:It):∀l:List (Pl×It),upd (look l) p i=look (iI p i l)
 | []=>by funext q;simp[upd,look,iI]
 | (q,j)::l=>by
   funext r
   have ih:=congrFun (eU p i l) r;simp only[upd]at ih;simp only[iI,upd,look];by_cases e:p=q
   ·subst e;simp only[if_true,look];by_cases h:r=p
    ·simp[h]
    ·simp[h]
   ·simp only[if_neg e,look];by_cases h:r=q
    ·subst h;rw[if_neg (fun h=>e h.symm)];simp
    ·rw[if_neg h,if_neg h];exact ih
def rO(kp:Nat→Bool):List (Pl×It)→List (Pl×It)
 | []=>[]
 | (.s k,i)::l=>if kp k then(.s k,i)::rO kp l else rO kp l
 | x::l=>x::rO kp l
theorem Jw(kp:Nat→Bool):∀l:List (Pl×It),kept kp (look l)=look (rO kp l)
 | []=>by funext q;cases q<;>simp[kept,look,rO]
 | (.s k,i)::l=>by
   funext r
   have ih:=congrFun (Jw kp l) r;cases r with
   | s j=>
     simp only[kept]at ih;simp only[rO,kept,look];by_cases hk:kp k
     ·rw[if_pos hk];simp only[look];by_cases hj:Pl.s j=Pl.s k
      ·simp only[Pl.s.injEq]at hj;subst hj;simp[hk]
      ·rw[if_neg hj,if_neg hj];exact ih
     ·rw[if_neg hk];by_cases hj:Pl.s j=Pl.s k
      ·simp only[Pl.s.injEq]at hj;subst hj;rw[if_neg hk]at ih
       rw[if_neg hk,←ih]
      ·rw[if_neg hj];exact ih
   | o j=>
     simp only[kept]at ih⊢;simp only[rO,look,reduceCtorEq,if_false];split
     ·simp only[look,reduceCtorEq,if_false];exact ih
     ·exact ih
   | x j=>
     simp only[kept]at ih⊢;simp only[rO,look,reduceCtorEq,if_false];split
     ·simp only[look,reduceCtorEq,if_false];exact ih
     ·exact ih
 | (.o k,i)::l=>by
   funext r
   have ih:=congrFun (Jw kp l) r;cases r with
   | s j=>simp only[rO,kept,look]at ih⊢;simpa using ih
   | o j=>simp only[rO,kept,look]at ih⊢;rw[ih]
   | x j=>simp only[rO,kept,look]at ih⊢;simpa using ih
 | (.x k,i)::l=>by
   funext r
   have ih:=congrFun (Jw kp l) r;cases r with
   | s j=>simp only[rO,kept,look]at ih⊢;simpa using ih
   | o j=>simp only[rO,kept,look]at ih⊢;simpa using ih
   | x j=>simp only[rO,kept,look]at ih⊢;rw[ih]
def It.only(po:Nat→Prop):It→Prop
 | .none=>True
 | .v t=>t.only po
 | .box cs=>TV.xE po cs
 | .row _ _ es _=>∀e∈es,TV.xE po e
 | .wI _ _ es=>∀e∈es,TV.xE po e
 | .mp _=>True
 | .jX es _ _ _=>∀x∈es,x.2.only po
 | .DK _ _ _ _=>True
 | .IE es _=>∀x∈es,x.2.only po
def En.res(E:En)(ids:List Nat):En:=
 {E with blk:=fun p=>match p with|.o k=>if k∈ids then E.blk (.o k)else none|p=>E.blk p,val:=fun k=>if k∈ids then E.val k else none}
theorem En.Xq(E:En)(ids:List Nat):Ext (· ∈ids) E (E.res ids):=
 ⟨fun _ _ h=>h,fun _ _ _=>rfl,fun id b h hb=>by simp only[En.res,if_pos h];exact hb,fun _ _ h=>h,fun _ _ h=>h,fun id k c v h hv=>⟨c,v,by simp only[En.res,if_pos h];exact hv,Nat.le_refl _,fun _=>rfl⟩⟩
theorem En.res_own{E:En}{ids:List Nat}{p:Pl}{b:Nat}(h:(E.res ids).own p=some b):E.own p=some b∧∀k,p = .o k→k∈ids:=by
 cases p with
 | o k=>
   by_cases hk:k∈ids
   ·refine⟨?_,fun j e=>by simp only[Pl.o.injEq]at e;subst e;exact hk⟩;have:(E.res ids).own (.o k)=E.own (.o k):=En.lU (by simp only[En.res,if_pos hk]) (fun id e=>by simp only[Pl.o.injEq]at e;subst e;simp only[En.res,if_pos hk])
    rwa [this]at h
   ·simp[En.own,En.res,hk]at h
 | s k=>exact⟨h,fun _ e=>by simp at e⟩
 | x k=>exact⟨h,fun _ e=>by simp at e⟩
theorem bG.ext{po:Nat→Prop}{E E':En}(h:Ext po E E'){us:List Value}:∀{o:Nat} {ts:List TV},TV.xE po ts→bG E us o ts→bG E' us o ts
 | _,[],_,_=>trivial
 | _,_::_,hp,⟨⟨u,h1,h2,h3⟩,r⟩=>by
   simp only[TV.xE]at hp;exact⟨⟨u,h1,h2,aA.ext h _ _ hp.1 h3⟩,bG.ext h hp.2 r⟩
theorem dK.ext{po:Nat→Prop}{E E':En}(h:Ext po E E'){us:List Value}{k:Nat}:∀{o:Nat} {es:List (List TV)},(∀e∈es,TV.xE po e)→dK E us k o es→dK E' us k o es
 | _,[],_,_=>trivial
 | _,_::_,hp,⟨h1,h2,r⟩=>⟨h1,bG.ext h (hp _ (by simp)) h2,dK.ext h (fun e he=>hp e (by simp[he])) r⟩
theorem jQ.res{E:En}{t t':S}{ids:List Nat}(h:jQ E t)(ho:∀id,id∈ids→t' (.o id)=t (.o id))(hn:∀id,id∉ids→t' (.o id) = .none)(hx:∀i,t' (.x i)=t (.x i))
  (hc:∀p,(∀k,p≠.s k)→(t' p).only (· ∈ids)):jQ (E.res ids) t':=by
 have x:=En.Xq E ids;refine⟨fun p hp=>?_,fun k=>h.frees k,fun p q b h1 h2=>h.inj p q b (En.res_own h1).1 (En.res_own h2).1,fun p b h1=>h.size p b (En.res_own h1).1,fun b o h1=>h.oQ b o h1,fun b o h1 p h2=>?_,fun y hy=>bQ.ext x.r _ _ _ (h.gl y hy)⟩
 ·have hcp:=hc p hp;have hit:=h.item p hp;cases p with
  | s k=>exact absurd rfl (hp k)
  | o k=>
    by_cases hk:k∈ids
    ·rw[ho k hk]at hcp⊢
     have hb:(E.res ids).blk (.o k)=E.blk (.o k):=by simp only[En.res,if_pos hk]
     have hv:(E.res ids).val k=E.val k:=by simp only[En.res,if_pos hk]
     cases hi:t (.o k)with
     | none=>rw[hi]at hit;exact fun id e=>by simp only[Pl.o.injEq]at e;subst e;rw[hb,hv];exact hit k rfl
     | v _=>rw[hi]at hit;exact(En.lU hb (fun id e=>by simp only[Pl.o.injEq]at e;subst e;exact hv)).trans hit
     | box cs=>
       rw[hi]at hit hcp
       obtain⟨h0,b,ty,us,h1,h2,h3,h4⟩:=hit;exact⟨fun id e=>by simp only[Pl.o.injEq]at e;subst e;rw[hv];exact h0 k rfl,b,ty,us,hb.trans h1,h2,h3,bG.ext x hcp h4⟩
     | row e k' es sh=>
       rw[hi]at hit hcp
       obtain⟨h0,id,v,us,e1,h1,h2,h3⟩:=hit;simp only[Pl.o.injEq]at e1;subst e1;exact⟨hb.trans h0,k,v,us,rfl,hv.trans h1,h2,dK.ext x hcp h3⟩
     | wI e k' es=>
       rw[hi]at hit hcp
       obtain⟨h0,id,v,us,e1,h1,h2,h3⟩:=hit;simp only[Pl.o.injEq]at e1;subst e1;exact⟨hb.trans h0,k,v,us,rfl,hv.trans h1,h2,dK.ext x hcp h3⟩
     | mp es=>
       rw[hi]at hit
       obtain⟨h0,b,l,clock,h1,h2,h3,h4⟩:=hit;exact⟨fun id e=>by simp only[Pl.o.injEq]at e;subst e;rw[hv];exact h0 k rfl,b,l,clock,hb.trans h1,h2,h3.ext x.r,h4⟩
     | jX es c pd s=>
       rw[hi]at hit hcp
       obtain⟨id,b,l,clock,l',ty,v,e1,h1,h2,h3,h4,h5,h6,h7,h8⟩:=hit;simp only[Pl.o.injEq]at e1;subst e1;exact⟨k,b,l,clock,l',ty,v,rfl,hb.trans h1,h2,h3,jD.ext x hcp h4,h5,hv.trans h6,h7,h8⟩
     | IE es s=>
       rw[hi]at hit hcp
       obtain⟨h0,h1,h2,h3,l',h4,h5⟩:=hit;exact⟨(En.lU hb (fun id e=>by simp only[Pl.o.injEq]at e;subst e;exact hv)).trans h0,h1,h2,h3,l',h4,jD.ext x hcp h5⟩
     | DK m s left cur=>
       rw[hi]at hit
       obtain⟨h0,r,seen,h1,h2,h3⟩:=hit;exact⟨fun id e=>by simp only[Pl.o.injEq]at e;subst e;rw[hv];exact h0 k rfl,r,seen,hb.trans h1,h2,h3⟩
    ·rw[hn k hk];exact fun id e=>by simp only[Pl.o.injEq]at e;subst e;simp[En.res,hk]
  | x k=>
    rw[hx k]at hcp⊢
    cases hi:t (.x k)with
    | none=>exact fun id e=>by simp at e
    | v _=>rw[hi]at hit;exact hit
    | box cs=>
      rw[hi]at hit hcp
      obtain⟨h0,b,ty,us,h1,h2,h3,h4⟩:=hit;exact⟨fun id e=>by simp at e,b,ty,us,h1,h2,h3,bG.ext x hcp h4⟩
    | row e k' es sh=>
      rw[hi]at hit
      obtain⟨_,id,_,_,e1,_⟩:=hit;simp at e1
    | wI e k' es=>
      rw[hi]at hit
      obtain⟨_,id,_,_,e1,_⟩:=hit;simp at e1
    | mp es=>
      rw[hi]at hit
      obtain⟨h0,b,l,clock,h1,h2,h3,h4⟩:=hit;exact⟨fun id e=>by simp at e,b,l,clock,h1,h2,h3.ext x.r,h4⟩
    | jX es c pd s=>
      rw[hi]at hit
      obtain⟨id,_,_,_,_,_,_,e1,_⟩:=hit;simp at e1
    | IE es s=>
      rw[hi]at hit hcp
      obtain⟨h0,h1,h2,h3,l',h4,h5⟩:=hit;exact⟨h0,h1,h2,h3,l',h4,jD.ext x hcp h5⟩
    | DK m s left cur=>
      rw[hi]at hit
      obtain⟨h0,r,seen,h1,h2,h3⟩:=hit;exact⟨fun id e=>by simp at e,r,seen,h1,h2,h3⟩
 ·obtain⟨g1,g2⟩:=En.res_own h2;obtain⟨e,k,es,g3,g4⟩:=h.sep b o h1 p g1;refine⟨e,k,es,?_,g4⟩;cases p with
  | o j=>rw[ho j (g2 j rfl)];exact g3
  | x j=>rw[hx j];exact g3
  | s j=>have:=h.frees j;simp[En.own,this]at g1
section
variable {P:Program} {A:eX}
theorem Fr.res{E0 E:En}(h:Fr E0 E)(ids:List Nat):Fr E0 (E.res ids):=
 ⟨h.os,h.tape,h.output,h.size,h.old,h.xb,fun id b hb=>h.new id b (En.res_own hb).1,h.st,h.xg⟩
def jy:List (Pl×It)→List Nat
 | []=>[]
 | (.o k,_)::l=>k::jy l
 | _::l=>jy l
def jP:List (Pl×It)→List Nat
 | []=>[]
 | (.x k,_)::l=>k::jP l
 | _::l=>jP l
theorem zU{l:List (Pl×It)}{k:Nat}:k∉jy l→look l (.o k) = .none:=by
 induction l with
 | nil=>intro _;rfl
 | cons x l ih=>
   obtain⟨p,i⟩:=x;intro h;cases p with
   | o j=>
     simp only[jy,List.mem_cons,not_or]at h;simp only[look,Pl.o.injEq,if_neg h.1];exact ih h.2
   | s j=>simp only[jy]at h;simp only[look,reduceCtorEq,if_false];exact ih h
   | x j=>simp only[jy]at h;simp only[look,reduceCtorEq,if_false];exact ih h
theorem afj{l:List (Pl×It)}{k:Nat}:k∉jP l→look l (.x k) = .none:=by
 induction l with
 | nil=>intro _;rfl
 | cons x l ih=>
   obtain⟨p,i⟩:=x;intro h;cases p with
   | x j=>
     simp only[jP,List.mem_cons,not_or]at h;simp only[look,Pl.x.injEq,if_neg h.1];exact ih h.2
   | s j=>simp only[jP]at h;simp only[look,reduceCtorEq,if_false];exact ih h
   | o j=>simp only[jP]at h;simp only[look,reduceCtorEq,if_false];exact ih h
theorem YM{l:List (Pl×It)}{p:Pl}:look l p = .none∨(p,look l p)∈l:=by
 induction l with
 | nil=>exact .inl rfl
 | cons x l ih=>
   obtain⟨q,i⟩:=x;simp only[look];by_cases e:p=q
   ·subst e;simp
   ·rw[if_neg e];exact ih.imp id fun h=>List.mem_cons_of_mem _ h
theorem afo{l:List (Pl×It)}{k:Nat}(h:k∈jP l):∃i,(Pl.x k,i)∈l:=by
 induction l with
 | nil=>simp[jP]at h
 | cons x l ih=>
   obtain⟨q,j⟩:=x;cases q with
   | x m=>
     simp only[jP,List.mem_cons]at h;rcases h with rfl|h
     ·exact⟨j,by simp⟩
     ·obtain⟨i,hi⟩:=ih h;exact⟨i,by simp[hi]⟩
   | s m=>simp only[jP]at h;obtain⟨i,hi⟩:=ih h;exact⟨i,by simp[hi]⟩
   | o m=>simp only[jP]at h;obtain⟨i,hi⟩:=ih h;exact⟨i,by simp[hi]⟩
def Sub(t:S)(l':List (Pl×It)):Prop:=(∀x∈l',look l' x.1=t x.1)∧∀x∈l',x.2.only (· ∈jy l')
theorem dL.forget{t:S}{l':List (Pl×It)}{a:Act}{E:En}(hi:dL A t a E)(h:Sub t l')(hx:∀i,look l' (.x i)=t (.x i)):dL A (look l') a (E.res (jy l')):=by
 have hget:∀p,look l' p = .none∨look l' p=t p:=fun p=>by
  rcases YM (l:=l') (p:=p)with h1|h1
  ·exact .inl h1
  ·exact .inr (h.1 _ h1)
 have ah7:∀p,(look l' p).only (· ∈jy l'):=fun p=>by
  rcases YM (l:=l') (p:=p)with h1|h1
  ·rw[h1];trivial
  ·exact h.2 _ h1
 have ao3:∀{k:Nat} {i:It} {l:List (Pl×It)},k∈jy l→∃i,(Pl.o k,i)∈l:=by
  intro k i l
  induction l with
  | nil=>intro h;simp[jy]at h
  | cons x l ih=>
    obtain⟨q,j⟩:=x;intro h;cases q with
    | o m=>
      simp only[jy,List.mem_cons]at h;rcases h with rfl|h
      ·exact⟨j,by simp⟩
      ·obtain⟨i,hi⟩:=ih h;exact⟨i,by simp[hi]⟩
    | s m=>simp only[jy]at h;obtain⟨i,hi⟩:=ih h;exact⟨i,by simp[hi]⟩
    | x m=>simp only[jy]at h;obtain⟨i,hi⟩:=ih h;exact⟨i,by simp[hi]⟩
 refine⟨hi.h.res (fun id hid=>?_) (fun id hid=>zU hid) hx (fun p _=>ah7 p),hi.fr.res _,fun k tv hk=>?_,hi.defers,hi.size⟩
 ·obtain⟨i,hm⟩:=ao3 (i:=.none) hid;exact h.1 _ hm
 ·have h1:=hget (.s k);rw[hk]at h1
  rcases h1 with h1|h1
  ·simp at h1
  ·obtain⟨u,h2,h3⟩:=hi.sl k tv h1.symm;have h4:=ah7 (.s k);rw[hk]at h4
   exact⟨u,h2,aA.ext (En.Xq E _) _ _ h4 h3⟩
theorem abq{l l':List (Pl×It)}(hs:∀x∈l',look l' x.1=look l x.1)(hx:jP l'=jP l)(i:Nat):look l' (.x i)=look l (.x i):=by
 by_cases h:i∈jP l'
 ·obtain⟨it,hm⟩:=afo h;exact hs _ hm
 ·rw[afj h,afj (by rwa [←hx])]
theorem GS.forget{l l':List (Pl×It)}(h:Sub (look l) l')(hx:jP l'=jP l):GS A (look l) (look l'):=fun _ _ ⟨E,hw,hi⟩=>
 ⟨E.res (jy l'),hw,hi.forget h (abq h.1 hx)⟩
theorem GS.own{t:S}{k:Nat}(e z:Nat)(hk:t (.s k) = .v (.c (.slice none 0 0)))(ho:t (.o k) = .none):GS A t (upd (upd t (.o k) (.row e z [] false)) (.s k) (.v (.aB k 0))):=fun a w ⟨E,hw,hi⟩=>by
 obtain⟨u,h1,h2⟩:=hi.sl k _ hk;obtain⟨E',hw',x,hi',hv⟩:=hi.newRow ho e z;simp only[aA]at h2;refine⟨E',hw'.trans hw,⟨hi'.h.slot k _,hi'.fr,fun j tv hj=>?_,hi'.defers,hi'.size⟩⟩;by_cases ej:j=k
 ·subst ej;simp only[upd,if_true,It.v.injEq]at hj;subst hj;exact⟨u,h1,by simp only[aA];exact⟨by rw[h2];rfl,z,0,_,hv,Nat.le_refl _,fun _=>h2⟩⟩
 ·simp only[upd,Pl.s.injEq,ej,if_false,reduceCtorEq]at hj;exact hi'.sl j tv (by simpa[upd]using hj)
theorem GS.view{t:S}{s id n e k:Nat}{es:List (List TV)}{sh:Bool}{xs:List (List D)}(hs:t (.s s) = .v (.aB id n))(ht:t (.o id) = .row e k es sh)(hn:n=es.length)(hx:eu es=some xs):
  GS A t (upd (upd t (.o id) (.row e k es true)) (.s s) (.v (.d (.sl xs)))):=fun a w ⟨E,hw,hi⟩=>by
 obtain⟨u,h1,h2⟩:=hi.sl s _ hs;obtain⟨E',hw',x,_,_,hi',hr,_⟩:=hi.freeze ht hx;subst hn;refine⟨E',hw'.trans hw,⟨hi'.h.slot s _,hi'.fr,fun j tv hj=>?_,hi'.defers,hi'.size⟩⟩;by_cases ej:j=s
 ·subst ej;simp only[upd,if_true,It.v.injEq]at hj;subst hj;exact⟨u,h1,by simp only[aA];exact hr u h2⟩
 ·simp only[upd,Pl.s.injEq,ej,if_false,reduceCtorEq]at hj;exact hi'.sl j tv (by simpa[upd]using hj)
end
end Go.Tr

namespace Go.Tr
open Go
def UN:List TV→Nat→List (Pl×It)
 | [],_=>[]
 | a::l,k=>(.s k,.v a)::UN l (k+1)
def xL:List It→Nat→List (Pl×It)
 | [],_=>[]
 | i::l,k=>(.x k,i)::xL l (k+1)
def oL(ro:List (Nat×It)):List (Pl×It):=ro.map fun x=>(.o x.1,x.2)
theorem Ew{l m:List (Pl×It)}{p:Pl}(h:∀x∈l,x.1≠p):look (l++m) p=look m p:=by
 induction l with
 | nil=>rfl
 | cons x l ih=>
   obtain⟨q,i⟩:=x;simp only[List.cons_append,look];rw[if_neg (fun e=>h (q,i) (by simp) e.symm)]
   simp_all
theorem Z4{k:Nat}:∀{l:List TV} {n:Nat} {m:List (Pl×It)},look (UN l n++m) (.s k)=if n≤k∧k<n+l.length then(match l[k-n]? with|some a=>.v a|none=>.none)else look m (.s k)
 | [],n,m=>by grind[UN]
 | a::l,n,m=>by
   simp only[UN,List.cons_append,look,Pl.s.injEq];by_cases e:k=n
   ·simp[*]
   ·rw[if_neg e,Z4 (l:=l) (n:=n+1)]
    grind
theorem Rn{l:List TV}{n:Nat}{m:List (Pl×It)}{p:Pl}(h:∀k,p≠.s k):look (UN l n++m) p=look m p:=by
 refine Ew ?_
 induction l generalizing n with
 | nil=>simp[UN]
 | cons a l ih=>
   intro x hx;simp only[UN,List.mem_cons]at hx
   grind
theorem ahV{i:Nat}:∀{l:List It} {n:Nat} {m:List (Pl×It)},look (xL l n++m) (.x i)=if n≤i∧i<n+l.length then l.getD (i-n) .none else look m (.x i)
 | [],n,m=>by grind[xL]
 | a::l,n,m=>by
   simp only[xL,List.cons_append,look,Pl.x.injEq];by_cases e:i=n
   ·simp[*]
   ·rw[if_neg e,ahV (l:=l) (n:=n+1)]
    grind
theorem Jl{l:List It}{n:Nat}{m:List (Pl×It)}{p:Pl}(h:∀k,p≠.x k):look (xL l n++m) p=look m p:=by
 refine Ew ?_
 induction l generalizing n with
 | nil=>simp[xL]
 | cons a l ih=>
   intro x hx;simp only[xL,List.mem_cons]at hx
   grind
theorem ai7{k:Nat}:∀{ro:List (Nat×It)},look (oL ro) (.o k)=qx ro k
 | []=>rfl
 | (j,i)::ro=>by
   have ih:=ai7 (k:=k) (ro:=ro)
   grind[oL,look,qx]
theorem S_{ro:List (Nat×It)}{p:Pl}(h:∀k,p≠.o k):look (oL ro) p = .none:=by
 have:=Ew (l:=oL ro) (m:=[]) (p:=p) (fun x hx=>by
  simp only[oL,List.mem_map]at hx
  grind)
 grind[look]
theorem jQ.congr{E:En}{H H':S}(h:jQ E H)(he:∀p,(∀k,p≠.s k)→H' p=H p):jQ E H':=
 ⟨fun p hp=>by rw[he p hp];exact h.item p hp,h.frees,h.inj,h.size,h.oQ,fun b o h1 p h2=>by
  obtain⟨e,k,es,h3,h4⟩:=h.sep b o h1 p h2;refine⟨e,k,es,?_,h4⟩;rw[he p ?_]
  ·omega
  ·rintro k rfl;simp[En.own,h.frees k]at h2,h.gl⟩
def resV(P:Program)(t:S):ResultVar→Option (Prop×TV)
 | .tmp k=>match t (.s k)with
   | .v x=>some (True,x)
   | _=>none
 | .cell k ty=>match ev t (.tmp k)with
   | .ptr p q=>match t p with
     | .box cs=>cellsOf P ty cs q
     | _=>none
   | _=>none
def VU(P:Program)(t:S):List ResultVar→Option (Prop×List TV)
 | []=>some (True,[])
 | x::l=>match resV P t x,VU P t l with
   | some (C,v),some (C',vs)=>some (C∧C',v::vs)
   | _,_=>none
def ahy(P:Program)(t:S)(l:List ResultVar):Option (Prop×TV):=
 match VU P t l with
 | some (C,[v])=>some (C,v)
 | some (C,vs)=>some (C,.rG vs)
 | none=>none
def Fin(P:Program)(A:eX)(fn:Func)(r:TV)(xs:List It)(ro:List (Nat×It))(t:S):Prop:=
 ∀a w,Inv A t a w→∃u E',(results fn a.tmps).run P w = .ok u w∧E'.w=w∧Post A.E0 xs ro r u E'
def fin(P:Program)(A:eX)(fn:Func)(r:TV)(xs:List It)(ro:List (Nat×It)):Exit→S→Prop
 | .normal,t=>Fin P A fn r xs ro t
 | .ret,t=>Fin P A fn r xs ro t
 | _,_=>False
section
variable {P:Program} {A:eX}
theorem Fin.ghost{fn:Func}{r:TV}{xs:List It}{ro:List (Nat×It)}{t t':S}(h:Fin P A fn r xs ro t')(g:GS A t t'):Fin P A fn r xs ro t:=fun a w hi=>h a w (g a w hi)
def adx(a:Act):ResultVar→Sem Value
 | .tmp t=>Pure.pure (a.tmps.getD t undef)
 | .cell b t=>do loadVar t (←asAddr (a.tmps.getD b undef))
theorem aaZ(fn:Func)(a:Act):results fn a.tmps=(do
  let vs ←fn.results.mapM (adx a)
  pure (if h:vs.size=1 then vs[0]else .tuple vs)):=rfl
theorem afP{t:S}{a:Act}{E:En}(hi:dL A t a E){x:ResultVar}{C:Prop}{v:TV}(h:resV P t x=some (C,v))(hC:C):
  ∃u,(adx a x).run P E.w = .ok u E.w∧aA E v u:=by
 unfold adx;cases x with
 | tmp k=>
   simp only[resV]at h;split at h
   ·rename_i tv ht;simp only[Option.some.injEq,Prod.mk.injEq]at h;obtain⟨_,rfl⟩:=h;obtain⟨u,h1,h2⟩:=hi.sl k tv ht
    simp_all
   trivial
 | cell k ty=>
   simp only[resV]at h;have hr:=bM hi (.tmp k);split at h
   ·rename_i p q hp;split at h
    ·rename_i cs ht;rw[hp]at hr
     obtain⟨b,ty',us,hu,hb,hh,hs,hc⟩:=Wq hi ht hr;have hu':a.tmps.getD k undef = .pointer (some ⟨b,q,none⟩):=hu;unfold cellsOf at h;split at h
     ·rename_i hsh;split at h
      ·rename_i tv hv;simp only[Option.some.injEq,Prod.mk.injEq]at h;obtain⟨_,rfl⟩:=h;obtain⟨u,h1,_,h2⟩:=hc.get hv
       grind[BJ,asAddr,zi]
      trivial
     ·rename_i hsh;split at h
      ·rename_i z hz;simp only[Option.some.injEq,Prod.mk.injEq]at h;obtain⟨rfl,rfl⟩:=h;have hc':=(hc.sub q z).vals;simp only[Nat.zero_add]at hc';have hl:((cs.drop q).take z).length=z:=by grind
       rw[hl]at hc'
       have:=zh (P:=P) hsh hz hc'.2 (w:=E.w) (GR (b:=b) (fun j u hj=>by grind[BJ]) q z);exact⟨.agg ((us.toList.drop q).take z).toArray,by grind[asAddr],by simp only[aA];simp[*]⟩
      trivial
     trivial
    trivial
   trivial
theorem OZ{t:S}{a:Act}{E:En}(hi:dL A t a E):∀{l:List ResultVar} {C:Prop} {vs:List TV},VU P t l=some (C,vs)→C→
  ∃us,(l.mapM (adx a)).run P E.w = .ok us E.w∧aP E vs us
 | [],C,vs,h,_=>by
   obtain⟨_,rfl⟩:=h;simp[aP]
 | x::l,C,vs,h,hC=>by
   simp only[VU]at h;split at h
   ·rename_i C1 v C2 vs' h1 h2;obtain⟨rfl,rfl⟩:=h;obtain⟨u,g1,g2⟩:=afP hi h1 hC.1;obtain⟨us,g3,g4⟩:=OZ hi h2 hC.2;refine⟨u::us,?_,by simp only[aP];grind⟩;simp[*]
   trivial
theorem Fin.done{fn:Func}{r:TV}{xs:List It}{ro:List (Nat×It)}{l:List (Pl×It)}{C:Prop}(hres:ahy P (look l) fn.results.toList=some (C,r))(hC:C)(hr:r.only (· ∈jy (oL ro)))
  (hs:Sub (look l) (xL xs 0++oL ro)) (hx:jP (xL xs 0++oL ro)=jP l) (ho:jy (xL xs 0++oL ro)=jy (oL ro)):Fin P A fn r xs ro (look l):=fun a w ⟨E,hw,hi⟩=>by
 subst hw;have hi2:=hi.forget hs (abq hs.1 hx);rw[ho]at hi2
 have hH:jQ (E.res (jy (oL ro))) (h_ xs ro):=hi2.h.congr fun p hp=>by
  cases p with
  | s k=>simp_all
  | x i=>
    rw[ahV];simp only[h_,Nat.zero_le,true_and,Nat.zero_add,Nat.sub_zero]
    grind[S_]
  | o k=>rw[Jl (fun j e=>by trivial),ai7];rfl
 have hrun:∃u,(results fn a.tmps).run P E.w = .ok u E.w∧aA E r u:=by
  unfold ahy at hres;rw[aaZ];have hm:∀l:List ResultVar,l.toArray.mapM (adx a)=Functor.map List.toArray (l.mapM (adx a)):=by simp
  have hfn:fn.results=fn.results.toList.toArray:=by simp
  rw[hfn,hm];split at hres
  ·rename_i C' v hv;obtain⟨rfl,rfl⟩:=hres;obtain⟨us,g1,g2⟩:=OZ hi hv hC;obtain⟨u,_,rfl,g3,rfl⟩:=g2
   simp_all
  ·rename_i C' vs hne hv;obtain⟨rfl,rfl⟩:=hres;obtain⟨us,g1,g2⟩:=OZ hi hv hC;refine⟨.tuple us.toArray,?_,by simp only[aA];simp[*]⟩;have hl:=g2.length;have hl1:vs.length≠1:=fun h=>by
    match vs,h with
    | [v],_=>simp[*]
   simp_all
  trivial
 obtain⟨u,h1,h2⟩:=hrun;exact⟨u,E.res (jy (oL ro)),h1,rfl,hH,hi2.fr,aA.ext (En.Xq E _) _ _ hr h2⟩
theorem aj{f:FuncId}{fn:Func}{c:Code}{args:List TV}{xs:List It}{r:TV}{xs':List It}{ro:List (Nat×It)}(hf:P.funcs[f]? = some fn)(hb:fn.body=some c)
  (h:∀E0,AW P ⟨E0,fn.ntmps⟩ c (fin P ⟨E0,fn.ntmps⟩ fn r xs' ro) (look (UN args 0++xL xs 0))):Contract P f args xs r xs' ro:=fun E us hH hargs=>by
 refine calls_of_wp hf hb (Code.wp_mono (fun e a w hq=>?_) (h E {tmps:=us.toArray++Array.replicate (fn.ntmps-us.toArray.size) undef,defers:=[]} E.w ⟨E,rfl,⟨?_,?_,?_,rfl,?_⟩⟩))
 ·obtain⟨t,hi,hq⟩:=hq;have key:Fin P ⟨E,fn.ntmps⟩ fn r xs' ro t→a.defers = []∧∃v,(results fn a.tmps).run P w = .ok v w∧∃u E',Ending.returned v = .returned u∧E'.w=w∧Post E xs' ro r u E':=fun hF=>by
   obtain⟨u,E',h1,h2,h3⟩:=hF a w hi;obtain⟨E1,_,hi1⟩:=hi;exact⟨hi1.defers,u,h1,u,E',rfl,h2,h3⟩
  cases e<;>first
   | exact hq.elim
   | exact key hq
 ·refine hH.congr fun p hp=>?_
  rw[Rn hp];cases p with
  | s k=>simp_all
  | x i=>
    have:=ahV (i:=i) (l:=xs) (n:=0) (m:=[]);rw[List.append_nil]at this
    rw[this];simp only[NR,Nat.zero_le,true_and,Nat.zero_add,Nat.sub_zero];split
    ·rfl
    ·rw[List.getD,List.getElem?_eq_none (by omega)];rfl
  | o k=>
    have:=Jl (l:=xs) (n:=0) (m:=[]) (p:=.o k) (fun j e=>by trivial);rw[List.append_nil]at this
    trivial
 ·have hno:∀id,E.own (.o id)=none:=fun id=>by
   have:=hH.item (.o id) (by simp);obtain⟨h1,h2⟩:=this id rfl
   grind[En.own]
  exact⟨rfl,rfl,rfl,Nat.le_refl _,fun _ _ _ _=>rfl,fun _=>rfl,fun id b hb=>by simp_all,fun _ _ h=>h,fun _ _ h=>.inl h⟩
 ·intro k tv hk;rw[Z4]at hk
  simp only[Nat.zero_le,true_and,Nat.zero_add,Nat.sub_zero]at hk;have hx:look (xL xs 0) (.s k) = .none:=by
   have:=Jl (l:=xs) (n:=0) (m:=[]) (p:=.s k) (fun j e=>by trivial);rw[List.append_nil]at this
   trivial
  split at hk
  ·rename_i hlt;have hak:args[k]? = some args[k]:=by simp
   rw[hak]at hk
   simp only[It.v.injEq]at hk;subst hk;obtain⟨u,h1,h2⟩:=hargs.get hak
   grind
  simp_all
 grind
end
end Go.Tr

namespace Go.Tr
open Go
theorem acu{N:Nat}{o:Oper}{gp:List Pl}{e:Eff}{k:List Pl→List (Pl×It)→Prop}{g:Tg k}:V_ N o gp (some e) k g=(pz N o=true∧e.C∧k (gp++e.rp) (xA o e.v e.W)):=rfl
theorem adW{N:Nat}{o:Oper}{gp:List Pl}{b:Bool}{X:List Pl→Prop}{k:List Pl→List (Pl×It)→Prop}{x:Tg X}{g:Tg k}:AGv N o (some (gp,b)) X k x g=qM b (X gp) (pz N o=true∧k gp (xA o (.c undef) [])) .mk .mk:=rfl
theorem Zw{b:Bool}{X Y:Prop}{x:Tg X}{y:Tg Y}:adU (some b) X Y x y=qM b X Y .mk .mk:=rfl
theorem look_nil(p:Pl):look [] p = .none:=rfl
theorem adg(q:Pl)(i:It)(l:List (Pl×It))(p:Pl):look ((q,i)::l) p=if p=q then i else look l p:=rfl
theorem adb(kp:Nat→Bool):rO kp [] = []:=rfl
theorem abR(kp:Nat→Bool)(k:Nat)(i:It)(l:List (Pl×It)):rO kp ((.s k,i)::l)=if kp k then(.s k,i)::rO kp l else rO kp l:=rfl
theorem Xa(kp:Nat→Bool)(k:Nat)(i:It)(l:List (Pl×It)):rO kp ((.o k,i)::l)=(.o k,i)::rO kp l:=rfl
theorem abS(kp:Nat→Bool)(k:Nat)(i:It)(l:List (Pl×It)):rO kp ((.x k,i)::l)=(.x k,i)::rO kp l:=rfl
theorem abf(K:S→Prop)(Q:Exit→S→Prop)(t:S):thn K Q .normal t=K t:=rfl
theorem ahJ(K:S→Prop)(Q:Exit→S→Prop)(t:S):thn K Q .ret t=Q .ret t:=rfl
theorem agi(K:S→Prop)(Q:Exit→S→Prop)(t:S)(n:Nat):thn K Q (.exit n) t=Q (.exit n) t:=rfl
theorem afX(Q:Exit→S→Prop)(t:S):ak_ Q .ret t=Q .ret t:=rfl
theorem XV(Q:Exit→S→Prop)(t:S)(b:Nat):ad9 b Q .normal t=Q .normal t:=rfl
theorem ad_(Q:Exit→S→Prop)(t:S)(b:Nat):ad9 b Q .ret t=Q .ret t:=rfl
theorem acJ(Q:Exit→S→Prop)(t:S)(b n:Nat):ad9 b Q (.exit n) t=if n=b then Q .normal t else Q (.exit n) t:=rfl
theorem Zy{X:Prop}{Y:List Pl→List (Pl×It)→Prop}{x:Tg X}{y:Tg Y}:U2 .none X Y x y=X:=rfl
theorem Zz{C:Prop}{rp:List Pl}{W:List (Pl×It)}{X:Prop}{Y:List Pl→List (Pl×It)→Prop}{x:Tg X}{y:Tg Y}:U2 (.some C rp W) X Y x y=(C∧Y rp W):=rfl
theorem acy:VR.none.C=True:=rfl
theorem acA:VR.none.W = []:=rfl
theorem acz(C:Prop)(rp:List Pl)(W:List (Pl×It)):(VR.some C rp W).C=C:=rfl
theorem acB(C:Prop)(rp:List Pl)(W:List (Pl×It)):(VR.some C rp W).W=W:=rfl
attribute [simp] Zy Zz acy acz acA acB pF Hg wZ undef Zd Jb eqT eqL u8s G9
theorem acv{P:Program}{ops:Array Oper}{L:Log}{X:Prop}:aip P ops L X true=(X∧(P.follows .mixedOrders=true∧O_ ops (shapes L []))):=rfl
theorem Zx{P:Program}{ops:Array Oper}{L:Log}{X:Prop}:aip P ops L X false=X:=rfl
theorem ais{P:Program}{A:eX}{ow:List Nat}{ops:Array Oper}{o:Oper}{i:Nat}{t:S}{k:List Pl→List (Pl×It)→Prop}{g:Tg k}:AOp P A ow ops o i t k g =
  AGv A.N o (gv ops t o) (fun gp=>U2 (pF t (wZ ow o.op)) (qM (isGo o.op) (qM (ac6 ow o.op) (Ho P A ops i t k .mk) (ah P A ops i t k .mk) .mk .mk) (qM (ac5 o.op) (Ho P A ops i t k .mk) (V_ A.N o gp (eff P ow t o) k .mk) .mk .mk) .mk .mk)
  (fun rp0 W0=>qM (isGo o.op) (ah P A ops i (over t W0) (fun rp W=>k (rp0++rp) (W++W0)) .mk)
  (V_ A.N o gp (eff P ow (over t W0) o) (fun rp W=>k (rp0++rp) (W++W0)) .mk) .mk .mk) .mk .mk) k .mk .mk:=rfl
attribute [simp] and_assoc List.getElem?_cons_zero List.getElem?_cons_succ acv Zx shapes acu adW Zw yB rX cO Hq ais gv isGo ac5 ac6 ai5 U1 QB eff ev pl look_nil adg iI eU over xA pz aeg abf ahJ agi XV ad_ acJ afX Jw adb abR Xa abS UN xL gev Yx WL ZP ad7 agD aiu Qp QM aeu unD WH ZT Gh Q8 Gi Q9 Kv cellsOf WJ Rf ZR aci Oi QZ ZQ Q5 Eo Q_ Oo EK WG Kw Om Gl Ol Ia Ep Q7 Oj uq zu UW Pz toKey adQ Gj lkV JR OE WI TV.cells TV.one setAt partT ab3 lu lH NT WB Kq
set_option linter.unusedVariables false
def aiq(P:Program)(fn:Func)(r:TV)(xs:List It)(ro:List (Nat×It))(l:List (Pl×It)):Option (Prop×TV)→Prop
 | some (C,r')=>C∧r'=r∧r.only (· ∈jy (oL ro))∧Sub (look l) (xL xs 0++oL ro)∧jP (xL xs 0++oL ro)=jP l∧jy (xL xs 0++oL ro)=jy (oL ro)
 | none=>False
theorem Fin.of{P:Program}{A:eX}{fn:Func}{r:TV}{xs:List It}{ro:List (Nat×It)}{l:List (Pl×It)}(h:aiq P fn r xs ro l (ahy P (look l) fn.results.toList)):Fin P A fn r xs ro (look l):=by
 unfold aiq at h;split at h
 ·grind[Fin.done]
 trivial
theorem agR{P:Program}{A:eX}{fn:Func}{r:TV}{xs:List It}{ro:List (Nat×It)}{t:S}:fin P A fn r xs ro .ret t=Fin P A fn r xs ro t:=rfl
theorem Z7{P:Program}{A:eX}{fn:Func}{r:TV}{xs:List It}{ro:List (Nat×It)}{t:S}:fin P A fn r xs ro .normal t=Fin P A fn r xs ro t:=rfl
attribute [simp] agR Z7 aiq ahy VU resV Sub jy jP oL TV.only TV.xE
theorem qM.dec{p:Prop}[Decidable p]{X Y:Prop}{x:Tg X}{y:Tg Y}(h:p→X)(g :¬p→Y):qM (decide p) X Y x y:=⟨fun e=>h (by simp_all),fun e=>g (by simp_all)⟩
theorem wrap_i64{n:Int}(h1 :-9223372036854775808≤n)(h2:n≤9223372036854775807):IntKind.i64.wrap n=n:=by
 simp only[IntKind.wrap,show IntKind.i64.bits=64 from rfl,show IntKind.i64.signed=true from rfl,Bool.true_and]
 grind
theorem wrap_u64{n:Int}(h1:0≤n)(h2:n≤18446744073709551615):IntKind.u64.wrap n=n:=by
 simp only[IntKind.wrap,show IntKind.u64.bits=64 from rfl,show IntKind.u64.signed=false from rfl,Bool.false_and]
 grind
theorem wrap_u8{n:Int}(h1:0≤n)(h2:n≤255):IntKind.u8.wrap n=n:=by
 simp only[IntKind.wrap,show IntKind.u8.bits=8 from rfl,show IntKind.u8.signed=false from rfl,Bool.false_and]
 grind
def I64(n:Int):Prop:=-9223372036854775808≤n∧n≤9223372036854775807
theorem anT(a b:Int):(a==b)=decide (a=b):=by rfl
theorem anV(a b:Int):(a != b) = !decide (a=b):=by rfl
def wu(n:Int):BitVec 64:=BitVec.ofInt 64 n
theorem JL(n:Int):IntKind.u64.wrap n=((wu n).toNat:Int):=by
 simp only[IntKind.wrap,show IntKind.u64.bits=64 from rfl,show IntKind.u64.signed=false from rfl,Bool.false_and,wu]
 grind[BitVec.toNat_ofInt]
def tn(B:BitVec 64):Int:=(B.toNat:Int)
theorem Hl(B:BitVec 64):wu (tn B)=B:=by
 simp[BitVec.eq_of_toNat_eq,BitVec.toNat_ofInt,wu,tn]
theorem xQ(n:Int):IntKind.u64.wrap n=tn (wu n):=JL n
theorem u64_and(a b:Int):agy .u64 a b=tn (wu a&&&wu b):=by
 rw[agy,JL];exact congrArg tn (Hl (wu a&&&wu b))
theorem u64_or(a b:Int):orI .u64 a b=tn (wu a|||wu b):=by
 rw[orI,JL];exact congrArg tn (Hl (wu a|||wu b))
theorem u64_xor(a b:Int):ahW .u64 a b=tn (wu a ^^^ wu b):=by
 exact congrArg tn (Hl (wu a ^^^ wu b))
theorem u64_andNot(a b:Int):Qa .u64 a b=tn (wu a &&& ~~~ wu b):=by
 rw[Qa,JL];exact congrArg tn (Hl (wu a &&& ~~~ wu b))
theorem yu(x:Int):IntKind.u64.wrap x=x%18446744073709551616:=by
 rfl
theorem agv(x:Int):((wu x).toNat:Int)=x%18446744073709551616:=by rw[←JL,yu]
theorem ahP(a b:Int):ahD .u64 a b=tn (wu a<<<b.toNat):=by
 generalize hn:b.toNat=n;rw[ahD,tn,hn,yu,BitVec.toNat_shiftLeft,Nat.shiftLeft_eq,Int.natCast_emod,Int.natCast_mul,agv,show(((2^64:Nat):Int))=18446744073709551616 by decide,Int.mul_emod (a%18446744073709551616),Int.emod_emod_of_dvd _ (Int.dvd_refl _),←Int.mul_emod,Int.natCast_pow]
 show a*2^min n 64%18446744073709551616=a*2^n%18446744073709551616
 by_cases h:n≤64
 ·rw[Nat.min_eq_left h]
 ·rw[Nat.min_eq_right (by omega),show n=64+(n-64) by omega,Int.pow_add,←Int.mul_assoc];rw[show(2:Int)^64=18446744073709551616 by decide];rw[Int.mul_emod_left,Int.mul_assoc,Int.mul_comm 18446744073709551616,←Int.mul_assoc,Int.mul_emod_left]
theorem acr(B:BitVec 64)(b:Int):Zh .u64 (tn B) b=tn (B>>>b.toNat):=by
 generalize hn:b.toNat=n;rw[Zh,tn,tn,hn,BitVec.toNat_ushiftRight,Nat.shiftRight_eq_div_pow,show IntKind.u64.bits=64 from rfl];have hb:B.toNat<2^64:=B.isLt;rw[show((2:Int)^min n 64)=((2^min n 64:Nat):Int) by simp,Int.fdiv_eq_ediv_of_nonneg _ (Int.natCast_nonneg _),←Int.natCast_ediv];by_cases h:n≤64
 ·rw[Nat.min_eq_left h]
 ·rw[Nat.min_eq_right (by omega),Nat.div_eq_of_lt hb,Nat.div_eq_of_lt (Nat.lt_of_lt_of_le hb (Nat.pow_le_pow_right (by omega) (by omega)))]
theorem abg(A B:BitVec 64):(tn A=tn B)=(A=B):=propext ⟨fun h=>by grind[Hl],fun h=>h▸rfl⟩
theorem aco:tn 0#64=0:=rfl
theorem abh:tn 1#64=1:=rfl
theorem ajD(A:BitVec 64):(tn A=0)=(A=0#64):=abg A 0#64
theorem ajE(A:BitVec 64):(tn A=1)=(A=1#64):=abg A 1#64
theorem ahU:wu 0=0#64:=rfl
theorem ajL:wu 1=1#64:=rfl
attribute [simp] anT anV Hl u64_and u64_or u64_xor u64_andNot ahP acr abg aco abh ajD ajE ahU ajL
def xO(k:Nat)(ys:List (List TV)):Prop:=∀e∈ys,e.length=k
theorem Y8(k:Nat):xO k []=True:=by simp[xO]
theorem Xu(k:Nat)(e:List TV)(es:List (List TV)):xO k (e::es)=(e.length=k∧xO k es):=by simp[xO]
theorem Y7(k:Nat)(a b:List (List TV)):xO k (a++b)=(xO k a∧xO k b):=by
 simp only[xO,List.mem_append,eq_iff_iff]
 grind
theorem aa2(k:Nat)(ys:List (List D)):xO k (dd ys)=dLen k ys:=by simp[xO,dLen,dd]
theorem iF{α:Type}(k:Nat)(f:α→List D)(l:List α)(h:∀x,(f x).length=k):dLen k (l.map f):=by
 intro e he
 grind
theorem kJ{k n:Nat}{l:List (List D)}(h:dLen k l):dLen k (l.take n):=fun e he=>h e (List.mem_of_mem_take he)
theorem ni{k n:Nat}{l:List (List D)}(h:dLen k l):dLen k (l.drop n):=fun e he=>h e (List.mem_of_mem_drop he)
attribute [simp] Y8 Xu Y7 aa2
theorem ad4(k b n:Nat)(ys:List (List TV)):Ll k b n ys=(xO k ys∧(n+ys.length)*b≤140737488355328∧n+ys.length≤9223372036854775807):=rfl
theorem ahQ(l:List Int):u8s (l.map fun n=>[D.int .u8 n])=some l:=by
 induction l with
 | nil=>rfl
 | cons n l ih=>simp[*]
attribute [simp] ahQ ad4 Value.oneCell'
theorem Zl:∀l:List D,G7 (l.map .d)=some l
 | []=>rfl
 | x::l=>by simp only[List.map_cons,G7,Zl l];rfl
@[simp]theorem Jg:∀l:List (List D),eu (dd l)=some l
 | []=>rfl
 | x::l=>by
   have:=Jg l;simp only[dd]at this;simp only[dd,List.map_cons,eu,Zl,this]
@[simp]theorem XI:∀a b:List (List TV),eu (a++b)=match eu a,eu b with
  | some x,some y=>some (x++y)
  | _,_=>none
 | [],b=>by cases h:eu b<;>simp[eu,h]
 | e::a,b=>by
   simp only[List.cons_append,eu,XI a b]
   grind
@[simp]theorem ajS(l:List (List D)):(dd l).length=l.length:=by simp[dd]
@[simp]theorem an6:dd [] = []:=rfl
theorem agJ(e:List D)(b:List (List D)):dd (e::b)=e.map .d::dd b:=rfl
@[simp]theorem ajR(a b:List (List D)):dd (a++b)=dd a++dd b:=by simp[dd]
section
variable {P:Program} {A:eX} {ops:Array Oper}
def aee(P:Program)(N:Nat)(t:S)(o:Oper)(f:FuncId)(iR:List TV)(qK:List It)(r:TV)(dF:List It)(ro:List (Nat×It))(ν:List Pl)(b:Nat)(gp:List Pl)(g:Bool):Option (Prop×List Pl×List (Pl×It)):=
 match o.op with
 | .call {callee:=.value fo,args:=xs,argTypes:=_}=>
   match ev t fo with
   | .clo f' caps=>
     match zW t ν ν,TV.qQ t ν (xs.toList.map (ev t)++caps)with
     | some c0,some a0=>
       some (g=true∧pz N o=true∧f'=f∧aZ P f=true∧ν.Nodup∧(∀p∈ν,qw p=true)∧a0=iR∧TV.sQ t (xs.toList.map (ev t)++caps)∧c0=qK∧(∀p∈ν,KQ t (t p))∧
        dF.length=ν.length∧(∀x∈dF,gU x=true)∧(∀x∈ro,isObj x.2=true)∧(∀x∈ro,t (.o (b+x.1)) = .none),
        gp++(pl fo++(xs.toList.flatMap pl++(ν++((TV.tX (xs.toList.map (ev t)++caps)++ν.flatMap (fun p=>Nu (t p))).map .o++ro.map fun x=>.o (b+x.1))))),
        xA o (r.back ν b) (wx ν b ν dF++wo ν b ro))
     | _,_=>none
   | _=>none
 | _=>none
def Us(k:List Pl→List (Pl×It)→Prop)(_:Tg k):Option (Prop×List Pl×List (Pl×It))→Prop
 | some (C,rp,W)=>C∧k rp W
 | none=>False
def aed(P:Program)(N:Nat)(t:S)(ops:Array Oper)(f:FuncId)(iR:List TV)(qK:List It)(r:TV)(dF:List It)(ro:List (Nat×It))(ν:List Pl)(b:Nat):Option Oper→Option (Prop×List Pl×List (Pl×It))
 | some o=>match gv ops t o with
   | some (gp,g)=>aee P N t o f iR qK r dF ro ν b gp g
   | none=>none
 | none=>none
theorem ah.of{i:Nat}{t:S}{k:List Pl→List (Pl×It)→Prop}{g:Tg k}{f:FuncId}{iR:List TV}{qK dF:List It}{r:TV}{ro:List (Nat×It)}(C:Contract P f iR qK r dF ro)(ν:List Pl)(b:Nat)
  (h:Us k g (aed P A.N t ops f iR qK r dF ro ν b ops[i]?)):ah P A ops i t k g:=by
 unfold Us at h;split at h
 ·rename_i D rp W hc;obtain⟨h1,h2⟩:=h;refine⟨rp,W,?_,h2⟩;unfold aed at hc;split at hc
  ·rename_i o ho;split at hc
   ·rename_i gp g0 hg;unfold aee at hc;split at hc
    ·rename_i fo xs tys hop;split at hc
     ·rename_i f' caps hf;split at hc
      ·rename_i c0 a0 hI hp;simp only[Option.some.injEq,Prod.mk.injEq]at hc;obtain⟨rfl,rfl,rfl⟩:=hc;obtain⟨rfl,q1,rfl,q2,q3,q4,rfl,q5,rfl,q6,q7,q8,q9,q10⟩:=h1;exact Sum.call (xs:=xs.toList) ho hg q1 (by simpa using hop) hf q2 C ν b q3 q4 hp q5 hI q6 q7 q8 q9 q10
      ·simp at hc
     ·simp at hc
    ·simp at hc
   trivial
  trivial
 trivial
end
theorem adV{k:List Pl→List (Pl×It)→Prop}{g:Tg k}{C:Prop}{rp:List Pl}{W:List (Pl×It)}:Us k g (some (C,rp,W))=(C∧k rp W):=rfl
structure aj3{ι:Type}(A:eX)(st:ι→List (Pl×It))(μ:ι→Nat)(n:Nat)(_g:Tg st)(_f:Tg μ)(t:S):Prop where
 ex:∃j,GS A t (look (st j))∧μ j<n
theorem aN.of{P:Program}{A:eX}{ι:Type}{c:Code}{Q:Exit→S→Prop}{g:Tg Q}{t:S}(ow:List Nat)(kp:Nat→Bool)(st:ι→List (Pl×It))(μ:ι→Nat)(i0:ι)(h0:GS A t (look (st i0)))
  (round:∀i,cO P A ow kp c (thn (aj3 A st μ (μ i) .mk .mk) Q) .mk (look (st i))):aN P A c Q g t:=
 ⟨AW.loop (fun i=>look (st i)) μ i0 h0 fun i=>(cO.sound (round i)).mono fun e t h=>by cases e<;>first|exact h.ex|exact h⟩
theorem GS.own'{A:eX}{l l':List (Pl×It)}{k:Nat}(e z:Nat)(hk:look l (.s k) = .v (.c (.slice none 0 0)))(ho:look l (.o k) = .none)
  (h:Sub (look (iI (.s k) (.v (.aB k 0)) (iI (.o k) (.row e z [] false) l))) l'∧jP l'=jP (iI (.s k) (.v (.aB k 0)) (iI (.o k) (.row e z [] false) l))):GS A (look l) (look l'):=by
 have:=GS.own (A:=A) e z hk ho;rw[eU,eU]at this
 exact this.trans (GS.forget h.1 h.2)
def PK:List (Pl×It)→List (Pl×It)→List (Pl×It)
 | [],l=>l
 | (p,i)::W,l=>iI p i (PK W l)
theorem OM:∀(W l:List (Pl×It)),over (look l) W=look (PK W l)
 | [],_=>rfl
 | (p,i)::W,l=>by simp only[over,PK,OM W l,eU]
theorem GS.J9{A:eX}{l l':List (Pl×It)}(s:Nat)(h:(Hg (look l) (.tmp s)).C∧Sub (look (PK (Hg (look l) (.tmp s)).W l)) l'∧jP l'=jP (PK (Hg (look l) (.tmp s)).W l)):GS A (look l) (look l'):=
 fun a w hi=>by
  have:=Um h.1 (fun _ _=>rfl) hi;rw[OM]at this
  exact GS.forget h.2.1 h.2.2 a w this
attribute [simp] PK
theorem GS.to{A:eX}{l l':List (Pl×It)}(h:Sub (look l) l'∧jP l'=jP l):GS A (look l) (look l'):=GS.forget h.1 h.2
def rD(po:Nat→Prop)(es:List (List TV)):Prop:=∀e∈es,TV.xE po e
theorem Xw(po:Nat→Prop):rD po []=True:=by simp[rD]
theorem UZ(po:Nat→Prop)(e:List TV)(es:List (List TV)):rD po (e::es)=(TV.xE po e∧rD po es):=by simp[rD]
theorem Xv(po:Nat→Prop)(a b:List (List TV)):rD po (a++b)=(rD po a∧rD po b):=by
 simp only[rD,List.mem_append,eq_iff_iff]
 grind
theorem Xn(po:Nat→Prop):∀l:List D,TV.xE po (l.map .d)=True
 | []=>by rfl
 | x::l=>by simp only[List.map_cons,TV.xE,TV.only,Xn po l,and_self]
theorem Y9(po:Nat→Prop)(xs:List (List D)):rD po (dd xs)=True:=by
 simp only[rD,dd,List.mem_map,eq_iff_iff,iff_true];simp[Xn]
attribute [simp] Xw UZ Xv Y9 Xn agJ
section
variable (t:S) (ν:List Pl) (b:Nat) (po:Nat→Prop) (cs:List TV) (e k:Nat) (es:List (List TV)) (sh:Bool)
theorem ads:TG t ν (.box cs)=match TV.qQ t ν cs with|some cs=>some (.box cs)|none=>none:=rfl
theorem aaN:KQ t (.box cs)=TV.sQ t cs:=rfl
theorem adC:Nu (.box cs)=TV.tX cs:=rfl
theorem acD:Lr ν b (.box cs) = .box (TV.backs ν b cs):=rfl
theorem acF:Lr ν b (.row e k es sh) = .row e k (es.map (TV.backs ν b)) sh:=rfl
theorem ac4:gU (.box cs)=true:=rfl
theorem ac8:isObj (.row e k es sh)=true:=rfl
theorem Fin.view{P:Program}{A:eX}{fn:Func}{r:TV}{xs:List It}{ro:List (Nat×It)}{l:List (Pl×It)}(s:Nat)(h:(Hg (look l) (.tmp s)).C∧Fin P A fn r xs ro (over (look l) (Hg (look l) (.tmp s)).W)):Fin P A fn r xs ro (look l):=
 fun a w hi=>h.2 a w (Um h.1 (fun _ _=>rfl) hi)
theorem Ze(ps:List (Nat×Operand))(n:Nat):AX ps n=(ps.map (·.1)==List.range' 0 n):=by rw[AX,List.range_eq_range']
theorem ald(x:D):toD (.d x)=some x:=rfl
theorem ai_(v:TV):It.only po (.v v)=v.only po:=rfl
theorem afv:It.only po (.box cs)=TV.xE po cs:=rfl
theorem afx:It.only po (.row e k es sh)=rD po es:=rfl
theorem ahs(m:List (Int×D)):It.only po (.mp m)=True:=rfl
theorem afg(m:List (Int×D)):isObj (.mp m)=true:=rfl
theorem ad5(m:List (Int×D)):Lr ν b (.mp m) = .mp m:=rfl
attribute [simp] ahs afg ad5
end
attribute [simp] ald ads aaN adC acD acF ac4 ac8 ai_ afv afx
attribute [simp] Ze List.range'_succ adV aed aee TV.pass TV.qQ TV.D_ TV.sQ TV.rows TV.tX TV.back TV.backs zW YE qw wx wo eu G7
end Go.Tr

namespace Go.Tr
open Go
section
variable {A:eX}
theorem dL.agF{t:S}{a:Act}{E:En}{p:Pl}{cs:List TV}{j:Nat}{c c':TV}(hi:dL A t a E)(hs:∀k,p≠.s k)(hp:t p = .box cs)(hj:cs[j]? = some c)(hrel:∀u,aA E c u→aA E c' u):
  dL A (upd t p (.box (cs.set j c'))) a E:=by
 refine⟨⟨fun q hq=>?_,hi.h.frees,hi.h.inj,hi.h.size,hi.h.oQ,fun b o h1 q h2=>?_,hi.h.gl⟩,hi.fr,fun k tv hk=>?_,hi.defers,hi.size⟩
 ·by_cases e:q=p
  ·subst e;have h:=hi.h.item q hq;rw[hp]at h
   simp only[upd,if_true];obtain⟨h1,b,ty,us,h2,h3,h4,h5⟩:=h;refine⟨h1,b,ty,us,h2,h3,by simpa using h4,bG.fZ fun i x hx=>?_⟩;by_cases ei:i=j
   ·subst ei;have hlt:i<cs.length:=(List.getElem?_eq_some_iff.1 hj).1;rw[List.getElem?_set_self hlt]at hx
    simp only[Option.some.injEq]at hx;subst hx;obtain⟨u,g1,g2,g3⟩:=h5.get hj;exact⟨u,g1,g2,hrel u g3⟩
   ·rw[List.getElem?_set_ne (fun h=>ei h.symm)]at hx
    exact h5.get hx
  ·simp only[upd,if_neg e];exact hi.h.item q hq
 ·obtain⟨e,k,es,h3,h4⟩:=hi.h.sep b o h1 q h2;refine⟨e,k,es,?_,h4⟩;have:q≠p:=fun e=>by subst e;rw[hp]at h3;simp at h3
  simp only[upd,if_neg this];exact h3
 ·have:Pl.s k≠p:=fun e=>hs k e.symm
  simp only[upd,if_neg this]at hk;exact hi.sl k tv hk
theorem GS.ownB{t:S}{p:Pl}{cs:List TV}{j id:Nat}(e z:Nat)(hs:∀k,p≠.s k)(hp:t p = .box cs)(hj:cs[j]? = some (.c (.slice none 0 0)))(ho:t (.o id) = .none):
  GS A t (upd (upd t (.o id) (.row e z [] false)) p (.box (cs.set j (.aB id 0)))):=fun a w ⟨E,hw,hi⟩=>by
 obtain⟨E',hw',x,hi',hv⟩:=hi.newRow ho e z;have hne:p≠.o id:=fun e=>by subst e;rw[hp]at ho;simp at ho
 refine⟨E',hw'.trans hw,hi'.agF hs (cs:=cs) (by simp only[upd,if_neg hne];exact hp) hj fun u hu=>?_⟩;simp only[aA]at hu⊢;exact⟨by rw[hu];rfl,z,0,_,hv,Nat.le_refl _,fun _=>hu⟩
theorem GS.gq{l l':List (Pl×It)}(p:Pl)(j id:Nat){cs:List TV}(e z:Nat)(hs:qw p=true)(hp:look l p = .box cs)(hj:cs[j]? = some (.c (.slice none 0 0)))(ho:look l (.o id) = .none)
  (h:Sub (look (iI p (.box (cs.set j (.aB id 0))) (iI (.o id) (.row e z [] false) l))) l'∧jP l'=jP (iI p (.box (cs.set j (.aB id 0))) (iI (.o id) (.row e z [] false) l))):GS A (look l) (look l'):=by
 have:=GS.ownB (A:=A) (id:=id) e z (fun k e=>by subst e;simp[qw]at hs) hp hj ho;rw[eU,eU]at this
 exact this.trans (GS.forget h.1 h.2)
end
end Go.Tr
