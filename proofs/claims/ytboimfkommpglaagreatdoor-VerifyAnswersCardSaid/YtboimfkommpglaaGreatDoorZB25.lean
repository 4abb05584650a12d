/-
  What functions of the program compute, stated as contracts over plain data; the conditions of each stand in its own statement.
-/
import Derived.Test.YtboimfkommpglaaGreatDoorZB21
import Derived.Test.YtboimfkommpglaaGreatDoorZB14
import Derived.Test.YtboimfkommpglaaGreatDoorZB24
import Derived.Test.YtboimfkommpglaaGreatDoorZB20
set_option linter.unusedSimpArgs false
set_option linter.unusedVariables false
namespace Go.Tr
open Go
section
variable {A:jL}
theorem Tt{E:En}{v v':TV}(hr:∀u,aV E v u→aV E v' u){k:List Int}:∀{es:List (List Int×TV)} {i:Nat} {l:List MapEntry},es[i]? = some (k,v)→nH E es l→nH E (es.set i (k,v')) l
 | [],_,_,h,_=>by trivial
 | x::es,0,l,h,hm=>by grind[nH]
 | (k',w)::es,i+1,l,h,hm=>by obtain⟨a,l',h1,h2,h3,h4⟩:=hm;exact⟨a,l',h1,h2,h3,Tt hr h h4⟩
theorem iI.abW{t:S}{a:Act}{E:En}{id c:Nat}{es es':List (List Int×TV)}{pd:Option (List Int)}{s:Option oO}(hi:iI A t a E)(ht:t (.o id) = .jA es c pd s)(hrel:∀l',nH E es l'→∃l2,l2.Perm l'∧nH E es' l2):
  iI A (upd t (.o id) (.jA es' c pd s)) a E:=by
 refine⟨⟨fun q hq=>?_,hi.h.frees,hi.h.inj,hi.h.size,hi.h.uP,fun b o h1 q h2=>?_,hi.h.gl⟩,hi.fr,fun j tv hj=>?_,hi.defers,hi.size⟩
 ·by_cases eq:q = .o id
  ·subst eq;have h:=hi.h.item (.o id) hq;rw[ht]at h
   simp only[upd,if_true];obtain⟨id',b,l,clock,l',ty,v,h1,h2,h3,h4,h5,h6,h7,h8,h9⟩:=h;obtain⟨l2,g1,g2⟩:=hrel l' h5;exact⟨id',b,l,clock,l2,ty,v,h1,h2,h3,g1.trans h4,g2,h6,h7,h8,h9⟩
  ·simp only[upd,if_neg eq];exact hi.h.item q hq
 ·obtain⟨e2,k2,es2,h3,h4⟩:=hi.h.sep b o h1 q h2;have eq:q≠.o id:=by grind
  exact⟨e2,k2,es2,by simp only[upd,if_neg eq];omega,h4⟩
 ·exact hi.sl j tv hj
theorem GS.anN{t:S}{qL c:Nat}{es:List (List Int×TV)}{pd:Option (List Int)}{s:Option oO}{i id:Nat}{k:List Int}(e z:Nat)(h0:t (.o qL) = .jA es c pd s)(hi:es[i]? = some (k,.c (.slice none 0 0)))(ho:t (.o id) = .none):
  GS A t (upd (upd t (.o id) (.row e z [] false)) (.o qL) (.jA (es.set i (k,.bK id 0)) c pd s)):=fun a w ⟨E,hw,hE⟩=>by
 obtain⟨E',hw',x,hi',hv⟩:=hE.newRow ho e z;have hne:qL≠id:=by grind
 refine⟨E',hw'.trans hw,hi'.abW (es:=es) (by simp only[upd,Pl.o.injEq,if_neg hne];omega) fun l' hl=>⟨l',.refl _,Tt (fun u hu=>?_) hi hl⟩⟩;simp only[aV]at hu⊢;simp[*]
theorem GS.asM{t:S}{qL c:Nat}{es:List (List Int×TV)}{pd:Option (List Int)}{s:Option oO}{i id n e z:Nat}{rs:List (List TV)}{sh:Bool}{xs:List (List D)}{k:List Int}(h0:t (.o qL) = .jA es c pd s)(hi:es[i]? = some (k,.bK id n))(ht:t (.o id) = .row e z rs sh)(hn:n=rs.length)(hx:iH rs=some xs):
  GS A t (upd (upd t (.o id) (.row e z rs true)) (.o qL) (.jA (es.set i (k,.d (.sl xs))) c pd s)):=fun a w ⟨E,hw,hE⟩=>by
 obtain⟨E',hw',x,hb,hv,hi',hr',_⟩:=hE.freeze ht hx;have hne:qL≠id:=by grind
 refine⟨E',hw'.trans hw,hi'.abW (es:=es) (by simp only[upd,Pl.o.injEq,if_neg hne];omega) fun l' hl=>⟨l',.refl _,Tt (fun u hu=>?_) hi hl⟩⟩
 grind[aV]
theorem ae1{E:En}{es es':List (List Int×TV)}(h:es.Perm es'):∀{l:List MapEntry},nH E es l→∃l2,l2.Perm l∧nH E es' l2:=by
 induction h with
 | nil=>intro l h;exact⟨l,.refl _,h⟩
 | @cons x l1 l2 hp ih=>intro l h;obtain⟨a,l',rfl,h2,h3,h4⟩:=h;obtain⟨m,hm,hk⟩:=ih h4;exact⟨a::m,hm.cons a,by simp only[nH];simp[*]⟩
 | swap x y l1=>intro l h;obtain⟨a,l',rfl,h2,h3,b,l'',rfl,h5,h6,h7⟩:=h;exact⟨b::a::l'',List.Perm.swap _ _ _,by simp only[nH];simp[*]⟩
 | trans _ _ ih1 ih2=>intro l h;obtain⟨m,h1,h2⟩:=ih1 h;obtain⟨m2,h3,h4⟩:=ih2 h2;exact⟨m2,h3.trans h1,h4⟩
theorem GS.anQ{t:S}{qL c:Nat}{es es':List (List Int×TV)}{pd:Option (List Int)}{s:Option oO}(h0:t (.o qL) = .jA es c pd s)(hp:es.Perm es'):GS A t (upd t (.o qL) (.jA es' c pd s)):=fun a w ⟨E,hw,hE⟩=>⟨E,hw,hE.abW h0 fun l' hl=>ae1 hp hl⟩
theorem GS.ahY{l l':List (Pl×It)}(qL:Nat){c:Nat}{es es':List (List Int×TV)}{pd:Option (List Int)}{s:Option oO}(h0:look l (.o qL) = .jA es c pd s)(hp:es.Perm es')
  (h:Sub (look (oC (.o qL) (.jA es' c pd s) l)) l'∧qE l'=qE (oC (.o qL) (.jA es' c pd s) l)):GS A (look l) (look l'):=by
 have:=GS.anQ (A:=A) h0 hp;rw[lZ]at this
 exact this.trans (GS.forget h.1 h.2)
end
def iO(n b:Nat)(k:Nat→List Int)(f:Nat→Nat):List (List Int×TV):=(List.range n).map fun i=>(k i,.bK (b+i) (f i))
theorem EF{n b:Nat}{k:Nat→List Int}{f:Nat→Nat}(hk:∀i j,i<n→j<n→k i=k j→i=j){i:Nat}(hi:i<n):mJ (iO n b k f) (k i)=some (.bK (b+i) (f i)):=by
 refine ZG ?_ (ay.2 ⟨i,bD.2 hi,rfl⟩)
 grind[iO,List.Pairwise.imp_of_mem,List.nodup_range]
theorem ZH{k:Nat→List Int}{f:Nat→TV}{v:TV}{i:Nat}:∀{ks:List Nat},i∈ks→(∀a∈ks,∀c∈ks,k a=k c→a=c)→ks.Nodup→vO (ks.map fun i=>(k i,f i)) (k i) v=ks.map fun j=>(k j,if j=i then v else f j)
 | [],h,_,_=>by trivial
 | a::ks,h,hk,nd=>by
   have nd':=dG.1 nd;rw[aH,vO,aH];by_cases e:i=a
   ·subst e;rw[if_pos rfl,if_pos rfl]
    congr 1
    refine bW fun j hj=>?_
    grind
   ·rw[if_neg (fun g=>e (hk i h a (by simp) g)),if_neg (fun h=>e h.symm)]
    congr 1
    exact ZH (by simp_all) (fun x hx y hy=>hk x (by simp[*]) y (by simp[*])) nd'.2
theorem Hq{n b:Nat}{k:Nat→List Int}{f:Nat→Nat}(hk:∀i j,i<n→j<n→k i=k j→i=j){i m:Nat}(hi:i<n):vO (iO n b k f) (k i) (.bK (b+i) m)=iO n b k fun j=>if j=i then m else f j:=by
 unfold iO;rw[ZH (bD.2 hi) (fun a ha c hc=>hk a c (bD.1 ha) (bD.1 hc)) List.nodup_range]
 grind
theorem IZ(n b:Nat)(k:Nat→List Int)(f:Nat→Nat):iO (n+1) b k f=iO n b k f++[(k n,.bK (b+n) (f n))]:=by simp[iO,je]
end Go.Tr

namespace Go.Tr
open Go
theorem ahy(f:Pl→Pl){a1 a2 b1 b2:List Pl}(h:((qH (a2.map f) 0&&&(qH (b1.map f) 0|||qH (b2.map f) 0))|||(qH (b2.map f) 0&&&qH (a1.map f) 0))=0):
  ((qH a2 0&&&(qH b1 0|||qH b2 0))|||(qH b2 0&&&qH a1 0))=0:=by
 have hb:∀n,(((qH (a2.map f) 0&&&(qH (b1.map f) 0|||qH (b2.map f) 0))|||(qH (b2.map f) 0&&&qH (a1.map f) 0))).testBit n=false:=fun n=>by simp[*]
 have hm:∀{p:Pl} {l:List Pl},p∈l→(qH (l.map f) 0).testBit (plN (f p))=true:=fun hp=>ZU.2 (gB hp)
 have hex:∀{l:List Pl} {n:Nat},(qH l 0).testBit n=true→∃p∈l,plN p=n:=fun hl=>by grind[TI]
 refine Nat.eq_of_testBit_eq fun n=>?_
 rw[Nat.zero_testBit];cases hn:(((qH a2 0&&&(qH b1 0|||qH b2 0))|||(qH b2 0&&&qH a1 0))).testBit n with
 | false=>rfl
 | true=>
   exfalso;rw[lJ,Nat.testBit_and,Nat.testBit_and,lJ,gJ,aP,aP,gJ]at hn
   rcases hn with⟨h1,h2|h2⟩|⟨h1,h2⟩<;>obtain⟨p,hp,e1⟩:=hex h1<;>obtain⟨q,hq,e2⟩:=hex h2<;>obtain rfl:p=q:=adD (e1.trans e2.symm)
   ·have:=hb (plN (f p))
    grind
   ·have:=hb (plN (f p))
    grind
   ·have:=hb (plN (f p));rw[lJ,Nat.testBit_and,Nat.testBit_and,hm hp,hm hq]at this
    simp at this
def abY(f:Pl→Pl)(X:List (Nat×List Pl×List Pl)):List (Nat×Nat×Nat):=X.map fun x=>(x.1,qH (x.2.1.map f) 0,qH (x.2.2.map f) 0)
theorem Wv(f:Pl→Pl)(A:Nat)(R W:List Pl):∀X:List (Nat×List Pl×List Pl),TQ A (qH (R.map f) 0) (qH (W.map f) 0) (abY f X)=true→TQ A (qH (R.map id) 0) (qH (W.map id) 0) (abY id X)=true
 | [],_=>rfl
 | (i,r,w)::X,h=>by simp only[abY,aH,TQ,aP,gJ,beq_iff_eq]at h⊢;refine⟨h.1.imp id fun g=>?_,Wv f A R W X h.2⟩;rw[qP,qP,qP,qP];exact ahy f g
def zB(f:Pl→Pl)(x:List Pl×List Pl):List Pl×List Pl:=(x.1.map f,x.2.map f)
theorem Rq(f:Pl→Pl):∀(ops:List Oper) (L:List (List Pl×List Pl)) (j:Nat) (As:List Nat) (X:List (Nat×List Pl×List Pl)),JH ops (L.map (zB f)) j As (abY f X)=true→JH ops (L.map (zB id)) j As (abY id X)=true
 | [],_,_,_,_,_=>rfl
 | o::ops,L,j,As,X,h=>by
   have hd:∀g:Pl→Pl,(L.map (zB g)).headD ([],[])=((L.headD ([],[])).1.map g,(L.headD ([],[])).2.map g):=fun g=>by cases L<;>rfl
   have ht:∀g:Pl→Pl,(L.map (zB g)).tail=L.tail.map (zB g):=by simp
   have hc:∀g:Pl→Pl,∀(A:Nat),(j,qH ((L.headD ([],[])).1.map g) 0,qH ((L.headD ([],[])).2.map g) 0)::abY g X=abY g ((j,(L.headD ([],[])).1,(L.headD ([],[])).2)::X):=fun g A=>rfl
   simp only[JH,VQ,aP,hd,ht]at h⊢;refine⟨h.1,Wv f _ _ _ _ h.2.1,?_⟩;rw[hc f 0]at h
   exact Rq f ops L.tail (j+1) _ _ h.2.2
theorem Dh.ren(f:Pl→Pl){ops:Array Oper}{L:List (List Pl×List Pl)}(h:agt ops (L.map (zB f))=true):Dh ops L:=by
 have h1:=Rq f ops.toList L 0 [] [] h;have e:L.map (zB id)=L:=by
  conv=>rhs;rw[←qP L]
  refine bW fun x _=>?_
  obtain⟨a,b⟩:=x;simp[zB]
 rw[e]at h1
 exact⟨h1⟩
end Go.Tr

namespace Go.Proofs
open Go Go.Tr
abbrev IM:=List (Int×Int)
def gI:IM→Int→Option Int
 | [],_=>none
 | x::es,k=>if k=x.1 then some x.2 else gI es k
def pI:IM→Int→Int→IM
 | [],k,v=>[(k,v)]
 | x::es,k,v=>if k=x.1 then(k,v)::es else x::pI es k v
def rI(es:IM)(k:Int):IM:=es.filter fun x=>decide (x.1≠k)
def im(es:IM):List (List Int×TV):=es.map fun x=>([x.1],TV.d (.int .i64 x.2))
theorem jG:∀(es:IM) (k:Int),mJ (im es) [k]=(gI es k).map fun v=>TV.d (.int .i64 v)
 | [],_=>rfl
 | x::es,k=>by
   have ih:=jG es k;simp only[im]at ih;by_cases h:k=x.1
   ·simp[im,mJ,gI,h]
   ·simp[im,mJ,gI,h,ih]
theorem zQ:∀(es:IM) (k v:Int),vO (im es) [k] (TV.d (.int .i64 v))=im (pI es k v)
 | [],_,_=>rfl
 | x::es,k,v=>by
   have ih:=zQ es k v;simp only[im]at ih;by_cases h:k=x.1
   ·simp[im,vO,pI,h]
   ·simp[im,vO,pI,h,ih]
theorem adk(es:IM)(k:Int):abP (im es) [k]=im (rI es k):=by
 simp only[abP,im,rI,jw]
 congr 1
 refine eu fun x _=>?_
 simp
def FN(ls:List Lk)(x:Int):IM:=ls.flatMap fun l=>(if l.b=x then [(l.a,l.ca)]else [])++(if l.a=x then [(l.b,l.cb)]else [])
def Bv(ls:List Lk)(x:Int):IM:=ls.flatMap fun l=>(if l.a=x then [(l.b,l.ca)]else [])++(if l.b=x then [(l.a,l.cb)]else [])
end Go.Proofs

namespace Go.Tr
open Go
@[simp]theorem amc{po:Nat→Prop}{n b:Nat}{k:Nat→List Int}{f:Nat→Nat}{c:Nat}{pd:Option (List Int)}{s:Option oO}:It.only po (It.jA (iO n b k f) c pd s)↔∀i,i<n→po (b+i):=by
 constructor
 ·intro h i hi;exact h _ (ay.2 ⟨i,bD.2 hi,rfl⟩)
 ·intro h x hx;obtain⟨i,hi,rfl⟩:=ay.1 hx;exact h i (bD.1 hi)
@[simp]theorem ame{po:Nat→Prop}{c:Nat}{pd:Option (List Int)}{s:Option oO}:It.only po (It.jA [] c pd s):=by intro x hx;simp at hx
theorem Ew{es:List (List Int×TV)}{k:List Int}{v:TV}(h:∀x∈es,x.1≠k):vO es k v=es++[(k,v)]:=by
 induction es with
 | nil=>rfl
 | cons x es ih=>rw[vO,if_neg (fun e=>h x (by simp) e.symm),ih fun y hy=>h y (by simp[*]),fF]
theorem ahx{n b:Nat}{k:Nat→List Int}{f:Nat→Nat}(hk:∀i,i<n→k i≠k n)(v:TV):vO (iO n b k f) (k n) v=iO n b k f++[(k n,v)]:=by
 refine Ew fun x hx=>?_
 obtain⟨i,hi,rfl⟩:=ay.1 hx
 simp_all
theorem aaz{i b:Nat}{k:Nat→List Int}{f:Nat→Nat}{v:TV}(h:f i=0):(iO i b k f++[(k i,v)]).set i (k i,.bK (b+i) 0)=iO (i+1) b k f:=by rw[IZ,List.set_append_right _ _ (by simp[iO]),h];simp[iO]
theorem Zr{i b:Nat}{k:Nat→List Int}{f:Nat→Nat}{v:List Int×TV}:(iO i b k f++[v])[i]? = some v:=by simp[iO]
theorem GS.am_{A:jL}{i c0 c1:Nat}{pd0 pd1:Option (List Int)}{s0 s1:Option oO}{k:Nat→List Int}{l l':List (Pl×It)}(qL id1 b0 b1 e z:Nat)
  (h0:look l (.o qL) = .jA (iO i b0 k (fun _=>0)++[(k i,.c (.slice none 0 0))]) c0 pd0 s0) (h1:look l (.o id1) = .jA (iO i b1 k (fun _=>0)++[(k i,.c (.slice none 0 0))]) c1 pd1 s1)
  (o0:look l (.o (b0+i)) = .none) (o1:look l (.o (b1+i)) = .none) (n1:qL≠id1) (n2:qL≠b0+i) (n3:id1≠b0+i) (n4:qL≠b1+i) (n5:id1≠b1+i) (n6:b0+i≠b1+i)
  (h:Sub (look (oC (.o id1) (.jA (iO (i+1) b1 k fun _=>0) c1 pd1 s1) (oC (.o (b1+i)) (.row e z [] false) (oC (.o qL) (.jA (iO (i+1) b0 k fun _=>0) c0 pd0 s0) (oC (.o (b0+i)) (.row e z [] false) l))))) l'∧
   qE l'=qE (oC (.o id1) (.jA (iO (i+1) b1 k fun _=>0) c1 pd1 s1) (oC (.o (b1+i)) (.row e z [] false) (oC (.o qL) (.jA (iO (i+1) b0 k fun _=>0) c0 pd0 s0) (oC (.o (b0+i)) (.row e z [] false) l))))):GS A (look l) (look l'):=by
 have a1:=GS.anN (A:=A) (t:=look l) (id:=b0+i) e z h0 Zr o0;rw[aaz rfl,lZ,lZ]at a1
 refine a1.trans ?_;have a2:=GS.anN (A:=A) (t:=look (oC (.o qL) (.jA (iO (i+1) b0 k fun _=>0) c0 pd0 s0) (oC (.o (b0+i)) (.row e z [] false) l))) (qL:=id1) (id:=b1+i) (es:=iO i b1 k (fun _=>0)++[(k i,.c (.slice none 0 0))]) (i:=i) (k:=k i) (c:=c1) (pd:=pd1) (s:=s1) e z
  (by rw[←lZ,←lZ];simp only[upd,Pl.o.injEq,if_neg n1.symm,if_neg n3];omega) Zr (by rw[←lZ,←lZ];simp only[upd,Pl.o.injEq,if_neg n4.symm,if_neg n6.symm];omega)
 rw[aaz rfl,lZ,lZ]at a2
 exact a2.trans (GS.forget h.1 h.2)
theorem Ce{n b:Nat}{k:Nat→List Int}{f f':Nat→Nat}(h:∀i,i<n→f i=f' i):iO n b k f=iO n b k f':=by grind[iO,List.map_congr_left]
theorem Sub.agH{t:S}{b c n m:Nat}{f f':Nat→It}{l:List (Pl×It)}(hbc:b+n≤c)(h1:∀j,j<n→t (.o (b+j))=f j)(h2:∀j,j<m→t (.o (c+j))=f' j)
  (h3:∀x∈l,look (Tr.sJ b n f (Tr.sJ c m f' l)) x.1=t x.1) (h4:∀j,j<n→(f j).only (· ∈sG (Tr.sJ b n f (Tr.sJ c m f' l)))) (h5:∀j,j<m→(f' j).only (· ∈sG (Tr.sJ b n f (Tr.sJ c m f' l))))
  (h6:∀x∈l,x.2.only (· ∈sG (Tr.sJ b n f (Tr.sJ c m f' l)))):Sub t (Tr.sJ b n f (Tr.sJ c m f' l)):=by
 refine Sub.sJ (fun j hj=>(h1 j hj).symm) (D7.2 ⟨fun j hj=>?_,h3⟩) h4 (D7.2 ⟨h5,h6⟩)
 grind[PE,Ho]
theorem GS.Lu{A:jL}{t:S}{l':List (Pl×It)}(h:Sub t l')(hx:∀i,look l' (.x i)=t (.x i)):GS A t (look l'):=fun _ _ ⟨E,hw,hi⟩=>⟨E.res (sG l'),hw,hi.forget h hx⟩
def It.shd:It→It
 | .row e z rs _=>.row e z rs true
 | x=>x
def CU(t:S)(qL b n m:Nat)(k:Nat→List Int)(xs:Nat→List (List D))(c:Nat)(pd:Option (List Int))(s:Option oO):S:=fun p=>
 if p = .o qL then .jA ((List.range n).map fun i=>(k i,if i<m then TV.d (.sl (xs i))else TV.bK (b+i) (xs i).length)) c pd s
 else match p with
 | .o q=>if b≤q∧q<b+m then(t p).shd else t p
 | p=>t p
theorem afC{t:S}{qL b n c:Nat}{k:Nat→List Int}{xs:Nat→List (List D)}{pd:Option (List Int)}{s:Option oO}(h0:t (.o qL) = .jA (iO n b k fun j=>(xs j).length) c pd s):CU t qL b n 0 k xs c pd s=t:=by
 funext p
 unfold CU;by_cases e:p = .o qL
 ·subst e;rw[if_pos rfl,h0];rfl
 grind
theorem GS.ajL{A:jL}{t:S}{qL b n m c e z:Nat}{k:Nat→List Int}{xs:Nat→List (List D)}{pd:Option (List Int)}{s:Option oO}(hm:m<n)(hr:t (.o (b+m)) = .row e z (dd (xs m)) false)(hb:qL<b):
  GS A (CU t qL b n m k xs c pd s) (CU t qL b n (m+1) k xs c pd s):=by
 have h0:CU t qL b n m k xs c pd s (.o qL) = .jA ((List.range n).map fun i=>(k i,if i<m then TV.d (.sl (xs i))else TV.bK (b+i) (xs i).length)) c pd s:=by unfold CU;simp
 have hi:((List.range n).map fun i=>(k i,if i<m then TV.d (.sl (xs i))else TV.bK (b+i) (xs i).length))[m]? = some (k m,.bK (b+m) (xs m).length):=by simp[*]
 have ht:CU t qL b n m k xs c pd s (.o (b+m)) = .row e z (dd (xs m)) false:=by
  unfold CU
  grind
 have g:=GS.asM (A:=A) (xs:=xs m) h0 hi ht (by simp) (zu _);refine(show upd (upd (CU t qL b n m k xs c pd s) (.o (b+m)) (.row e z (dd (xs m)) true)) (.o qL) (.jA (((List.range n).map fun i=>(k i,if i<m then TV.d (.sl (xs i))else TV.bK (b+i) (xs i).length)).set m (k m,.d (.sl (xs m)))) c pd s)=CU t qL b n (m+1) k xs c pd s from ?_)▸g
 funext p
 by_cases e0:p = .o qL
 ·subst e0;simp only[upd,if_true];unfold CU;rw[if_pos rfl]
  congr 1
  refine iV fun i=>?_
  grind
 ·simp only[upd,if_neg e0];by_cases e1:p = .o (b+m)
  ·subst e1;rw[if_pos rfl];unfold CU;rw[if_neg e0];simp only;rw[if_pos (by omega),hr];rfl
  ·rw[if_neg e1];unfold CU
   grind
theorem GS.UD{A:jL}{t:S}{qL b n c e z:Nat}{k:Nat→List Int}{xs:Nat→List (List D)}{pd:Option (List Int)}{s:Option oO}(h0:t (.o qL) = .jA (iO n b k fun j=>(xs j).length) c pd s)(hr:∀i,i<n→t (.o (b+i)) = .row e z (dd (xs i)) false)(hb:qL<b):
  GS A t (CU t qL b n n k xs c pd s):=by
 have h:∀m,m≤n→GS A t (CU t qL b n m k xs c pd s):=by
  intro m
  induction m with
  | zero=>grind[afC,GS.refl]
  | succ m ih=>grind[trans,GS.ajL]
 simp[*]
theorem Io{t:S}{qL b n c:Nat}{k:Nat→List Int}{xs:Nat→List (List D)}{pd:Option (List Int)}{s:Option oO}:CU t qL b n n k xs c pd s (.o qL) = .jA ((List.range n).map fun i=>(k i,.d (.sl (xs i)))) c pd s:=by unfold CU;simp
theorem Am{t:S}{qL b n c:Nat}{k:Nat→List Int}{xs:Nat→List (List D)}{pd:Option (List Int)}{s:Option oO}{q:Nat}(h1:q≠qL)(h2:q<b∨b+n≤q):CU t qL b n n k xs c pd s (.o q)=t (.o q):=by
 unfold CU
 grind
theorem UE{t:S}{qL b n c:Nat}{k:Nat→List Int}{xs:Nat→List (List D)}{pd:Option (List Int)}{s:Option oO}{q:Nat}:CU t qL b n n k xs c pd s (.s q)=t (.s q):=by rfl
theorem UF{t:S}{qL b n c:Nat}{k:Nat→List Int}{xs:Nat→List (List D)}{pd:Option (List Int)}{s:Option oO}{q:Nat}:CU t qL b n n k xs c pd s (.x q)=t (.x q):=by rfl
@[simp]theorem amd{po:Nat→Prop}{m:Nat}{s:oO}{left:List (List Int)}{cur:Option (List Int)}:It.only po (It.Fb m s left cur):=trivial
@[simp]theorem TS{α:Type}{po:Nat→Prop}{k:α→List Int}{v:α→D}{l:List α}{c:Nat}{pd:Option (List Int)}{s:Option oO}:It.only po (It.jA (l.map fun i=>(k i,TV.d (v i))) c pd s):=by intro x hx;obtain⟨i,_,rfl⟩:=ay.1 hx;exact trivial
end Go.Tr

set_option maxRecDepth 100000
set_option maxHeartbeats 16000000
namespace Go.Proofs
open Go Go.Tr
def qo(rs:List Rt)(i:Nat):Int:=(rs.getD i ⟨0,false⟩).id
def wG(rs:List Rt)(i:Nat):List Int:=[qo rs i]
def Dy(l:IM):List (List D):=l.map fun x=>[.int .i64 x.1,.int .i64 x.2]
@[simp]theorem aqT(l:IM):(Dy l).length=l.length:=by simp[Dy]
theorem MW{rs:List Rt}(nd:(rs.map Rt.id).Nodup){i j:Nat}(hi:i<rs.length)(hj:j<rs.length)(h:qo rs i=qo rs j):i=j:=by
 unfold qo at h;rw[ak,ak,ah hi,ah hj]at h
 have h2:=bT.1 (dI.1 nd)
 grind
theorem ah8{rs:List Rt}{v:Int}(h:v∈rs.map Rt.id):∃i,i<rs.length∧qo rs i=v:=by obtain⟨r,hr,rfl⟩:=ay.1 h;obtain⟨i,hi,rfl⟩:=cu.1 hr;exact⟨i,hi,by grind[qo]⟩
theorem IX(n b:Nat)(rs:List Rt)(f:Nat→Nat):zh 1 (iO n b (wG rs) f):=fun y hy=>by obtain⟨i,hi,rfl⟩:=ay.1 hy;rfl
theorem ahT(ls:List Lk)(x:Lk)(v:Int):Bv (ls++[x]) v=Bv ls v++((if x.a=v then [(x.b,x.ca)]else [])++(if x.b=v then [(x.a,x.cb)]else [])):=by simp[Bv]
theorem ahi(ls:List Lk)(x:Lk)(v:Int):FN (ls++[x]) v=FN ls v++((if x.b=v then [(x.a,x.ca)]else [])++(if x.a=v then [(x.b,x.cb)]else [])):=by simp[FN]
theorem TT(v:Int):∀ls:List Lk,(Bv ls v).length≤2*ls.length
 | []=>by simp[Bv]
 | x::ls=>by
   have h:=TT v ls;rw[Bv,gV,aS,aS,←Bv,aT]
   grind
theorem XZ(v:Int):∀ls:List Lk,(FN ls v).length≤2*ls.length
 | []=>by simp[FN]
 | x::ls=>by
   have h:=XZ v ls;rw[FN,gV,aS,aS,←FN,aT]
   grind
theorem WT{α:Type}{rs:List Rt}(F:Int→α):(List.range rs.length).map (fun i=>F (qo rs i))=rs.map fun x=>F x.id:=by grind[List.ext_getElem,List.length_map,qo]
theorem alB(g:bV)(hn:g.rs.length≤256)(hl:g.ls.length≤1024)(nd:(g.rs.map Rt.id).Nodup)(he:∀x∈g.ls,x.a∈g.rs.map Rt.id∧x.b∈g.rs.map Rt.id)(hab:∀x∈g.ls,x.a≠x.b)(hpw:∀v,(Bv g.ls v).Pairwise fun a b=>a.1<b.1):Contract Tryz.prog 159 [d_ g] [] (.agg [.d (.mp (g.rs.map fun x=>[x.id]) (g.rs.map fun x=>.sl (Dy (Bv g.ls x.id)))),.d (.mp (g.rs.map fun x=>[x.id]) (g.rs.map fun x=>.sl (Dy (FN g.ls x.id))))]) [] []:=by
 refine aC Tryz.func159 rfl (fun E0=>?_);refine iK.sound (g:=.mk) (ow:=[3000009,3000010,1000226]) (kp:=(kb 0x1400000000000000001e001e1af)) ?_;rw[Tryz.ntmps159];simp -dsimp[d_];and_intros;all_goals try first|omega|exact⟨by kernel_rfl⟩|rfl
 refine bY.of [3000009,3000010,1000226] (kb 0x1400000000000000001e001e1af) (ι:={z:Nat×(Nat×Option (List Int))×Nat×Option (List Int) // z.1≤g.rs.length})
  (fun z=>sJ 9000 z.1.1 (fun _=>It.row 257 2 [] false) (sJ 19000 z.1.1 (fun _=>It.row 257 2 [] false) [(.o 1,It.box [TV.d (.sl (rts g.rs)),TV.d (.sl (pq g.ls))]),(.s 1,It.v (.ptr (.o 1) 0)),
    (.o 2,It.box [TV.c (Value.map none),TV.c (Value.map none)]),(.s 2,It.v (.ptr (.o 2) 0)),
    (.o 9,It.jA (iO z.1.1 9000 (wG g.rs) fun _=>0) z.1.2.1.1 z.1.2.1.2 none),(.o 10,It.jA (iO z.1.1 19000 (wG g.rs) fun _=>0) z.1.2.2.1 z.1.2.2.2 none),(.o 3,It.box [TV.mref 9,TV.mref 10]),
    (.s 3,It.v (.ptr (.o 3) 0)),(.s 13,It.v (.d (.sl (rts g.rs)))),
    (.s 14,It.v (.d (.int .i64 ↑g.rs.length))),(.s 15,It.v (.d (.int .i64 z.1.1)))]))
  (fun z=>g.rs.length-z.1.1) ⟨(0,(0,none),0,none),by omega⟩ ?_ ?_
 ·simp[GS.to,Ee,iO]
 ·rintro⟨⟨i,⟨c1,p1⟩,c2,p2⟩,i1⟩;simp only at i1;by_cases hi:i<g.rs.length
  ·have hiz:(i:Int)<g.rs.length:=by omega
   have hgi:g.rs[i]? = some g.rs[i]:=ah hi;have hid:g.rs[i].id=qo g.rs i:=by grind[qo]
   have hkn:=fun b f v=>ahx (n:=i) (b:=b) (f:=f) (k:=wG g.rs) (fun j hj e=>by have:=MW nd (i:=j) (j:=i) (by omega) hi (by grind[wG]);omega) v
   simp only[wG]at hkn;generalize g.rs[i]=y at hgi hid;have w1:IntKind.i64.wrap ((i:Int)+1)=(i:Int)+1:=wrap_i64 (by omega) (by omega);have ei:i≤10000:=by omega
   simp -dsimp[hiz,rts,hgi,hid,hkn,Rt.cs,w1];refine⟨IX _ _ _ _,IX _ _ _ _,⟨⟨(i+1,(c1,none),c2,none),by omega⟩,?_,by grind⟩,?_⟩
   ·refine GS.am_ (i:=i) (k:=wG g.rs) (c0:=c1) (c1:=c2) (pd0:=none) (pd1:=none) (s0:=none) (s1:=none) 9 10 9000 19000 257 2 (by simp[wG]) (by simp[wG]) (by simp(disch:=omega) [ji,jk]) (by simp[ji]) (by decide) (by omega) (by omega) (by omega) (by omega) (by omega) ?_;refine⟨Sub.agH (n:=i+1) (m:=i+1) (by omega) (fun j hj=>?_) (fun j hj=>?_) ?_ ?_ ?_ ?_,?_⟩
    ·rcases (by omega:j<i∨j=i)with h|h
     ·simp[*]
     ·subst h;simp(disch:=omega) [ji,jk]
    ·rcases (by omega:j<i∨j=i)with h|h
     ·simp(disch:=omega) [ji,jk,h]
     ·subst h;simp(disch:=omega) [ji,jk]
    ·simp(disch:=omega) [ji,jk,rts]
    ·simp
    ·simp
    ·simp_all
    ·simp(disch:=omega) [ji,jk]
   ·exact⟨by kernel_rfl⟩
  ·have hiz :¬(i:Int)<g.rs.length:=by omega
   obtain rfl:i=g.rs.length:=by omega
   simp -dsimp[hiz];and_intros;all_goals try first|omega|exact⟨by kernel_rfl⟩|rfl
   refine bY.of [3000009,3000010,1000226] (kb 0x1400000000000000001e001e1af) (ι:={z:Nat×(Nat×Option (List Int))×Nat×Option (List Int) // z.1≤g.ls.length})
    (fun z=>sJ 9000 g.rs.length (fun j=>It.row 257 2 (dd (Dy (Bv (g.ls.take z.1.1) (qo g.rs j)))) false) (sJ 19000 g.rs.length (fun j=>It.row 257 2 (dd (Dy (FN (g.ls.take z.1.1) (qo g.rs j)))) false) [
      (.o 2,It.box [TV.c (Value.map none),TV.c (Value.map none)]),(.s 2,It.v (.ptr (.o 2) 0)),
      (.o 9,It.jA (iO g.rs.length 9000 (wG g.rs) fun j=>(Bv (g.ls.take z.1.1) (qo g.rs j)).length) z.1.2.1.1 z.1.2.1.2 none),(.o 10,It.jA (iO g.rs.length 19000 (wG g.rs) fun j=>(FN (g.ls.take z.1.1) (qo g.rs j)).length) z.1.2.2.1 z.1.2.2.2 none),(.o 3,It.box [TV.mref 9,TV.mref 10]),
      (.s 3,It.v (.ptr (.o 3) 0)),(.s 29,It.v (.d (.sl (pq g.ls)))),
      (.s 30,It.v (.d (.int .i64 ↑g.ls.length))),(.s 31,It.v (.d (.int .i64 z.1.1)))]))
    (fun z=>g.ls.length-z.1.1) ⟨(0,(c1,p1),c2,p2),by omega⟩ ?_ ?_
   ·refine GS.to ⟨Sub.agH (n:=g.rs.length) (m:=g.rs.length) (by omega) (fun j hj=>?_) (fun j hj=>?_) ?_ ?_ ?_ ?_,?_⟩
    ·simp(disch:=omega) [ji,jk,hj,Bv,Dy]
    ·simp(disch:=omega) [ji,jk,hj,FN,Dy]
    ·simp[Bv,FN]
    ·simp
    ·simp
    ·simp_all
    simp
   ·rintro⟨⟨k,⟨c1,p1⟩,c2,p2⟩,k1⟩;simp only at k1;by_cases hk:k<g.ls.length
    ·have hkz:(k:Int)<g.ls.length:=by omega
     have hgk:g.ls[k]? = some g.ls[k]:=ah hk;have hx:=he g.ls[k] (aB hk);have hab:=hab g.ls[k] (aB hk);have htk:g.ls.take (k+1)=g.ls.take k++[g.ls[k]]:=by simp
     obtain⟨x,ex⟩:∃x,g.ls[k]=x:=⟨_,rfl⟩
     rw[ex]at hgk hx hab htk
     obtain⟨ia,hia,ea⟩:=ah8 hx.1;obtain⟨ib,hib,eb⟩:=ah8 hx.2;have hne:ia≠ib:=fun e=>hab (by rw[←ea,←eb,e])
     have hne':ib≠ia:=fun e=>hne e.symm
     have hinj:∀i j,i<g.rs.length→j<g.rs.length→wG g.rs i=wG g.rs j→i=j:=fun i j hi hj e=>MW nd hi hj (by grind[wG])
     have hga:∀b f,mJ (iO g.rs.length b (wG g.rs) f) [x.a]=some (.bK (b+ia) (f ia)):=fun b f=>by rw[←ea];exact EF hinj hia
     have hgb:∀b f,mJ (iO g.rs.length b (wG g.rs) f) [x.b]=some (.bK (b+ib) (f ib)):=fun b f=>by rw[←eb];exact EF hinj hib
     have hpa:∀b f m,vO (iO g.rs.length b (wG g.rs) f) [x.a] (.bK (b+ia) m)=iO g.rs.length b (wG g.rs) (fun j=>if j=ia then m else f j):=fun b f m=>by rw[←ea];exact Hq hinj hia
     have hpb:∀b f m,vO (iO g.rs.length b (wG g.rs) f) [x.b] (.bK (b+ib) m)=iO g.rs.length b (wG g.rs) (fun j=>if j=ib then m else f j):=fun b f m=>by rw[←eb];exact Hq hinj hib
     have w1:IntKind.i64.wrap ((k:Int)+1)=(k:Int)+1:=wrap_i64 (by omega) (by omega);have da1:9000+g.rs.length≤19000+ia:=by omega
     have da2:g.rs.length≤10000+ia:=by omega
     have db1:9000+g.rs.length≤19000+ib:=by omega
     have db2:g.rs.length≤10000+ib:=by omega
     simp -dsimp(maxSteps:=1000000) [hkz,pq,hgk,ex,Lk.cs,w1,hga,hgb,hpa,hpb,hia,hib,hne,hne',IX,ji,jk,da1,da2,db1,db2];have Qd:∀j,j<g.rs.length→(x.a=qo g.rs j↔j=ia)∧(x.b=qo g.rs j↔j=ib):=fun j hj=>by grind[MW]
     have hO:∀j,j<g.rs.length→Bv (g.ls.take (k+1)) (qo g.rs j)=if j=ib then Bv (g.ls.take k) (qo g.rs ib)++[(x.a,x.cb)]else if j=ia then Bv (g.ls.take k) (qo g.rs ia)++[(x.b,x.ca)]else Bv (g.ls.take k) (qo g.rs j):=fun j hj=>by
      obtain⟨r1,r2⟩:=Qd j hj;rw[htk,ahT]
      grind
     have hI:∀j,j<g.rs.length→FN (g.ls.take (k+1)) (qo g.rs j)=if j=ia then FN (g.ls.take k) (qo g.rs ia)++[(x.b,x.cb)]else if j=ib then FN (g.ls.take k) (qo g.rs ib)++[(x.a,x.ca)]else FN (g.ls.take k) (qo g.rs j):=fun j hj=>by
      obtain⟨r1,r2⟩:=Qd j hj;rw[htk,ahi]
      grind
     have hMO:(iO g.rs.length 9000 (wG g.rs) fun j=>(Bv (g.ls.take (k+1)) (qo g.rs j)).length)=iO g.rs.length 9000 (wG g.rs) fun j=>if j=ib then(Bv (g.ls.take k) (qo g.rs ib)).length+1 else if j=ia then(Bv (g.ls.take k) (qo g.rs ia)).length+1 else(Bv (g.ls.take k) (qo g.rs j)).length:=
      Ce fun j hj=>by grind
     have hMI:(iO g.rs.length 19000 (wG g.rs) fun j=>(FN (g.ls.take (k+1)) (qo g.rs j)).length)=iO g.rs.length 19000 (wG g.rs) fun j=>if j=ia then(FN (g.ls.take k) (qo g.rs ia)).length+1 else if j=ib then(FN (g.ls.take k) (qo g.rs ib)).length+1 else(FN (g.ls.take k) (qo g.rs j)).length:=
      Ce fun j hj=>by grind
     have lk:=List.length_take_le k g.ls;have l1:=TT (qo g.rs ia) (g.ls.take k);have l2:=TT (qo g.rs ib) (g.ls.take k);have l3:=XZ (qo g.rs ia) (g.ls.take k);have l4:=XZ (qo g.rs ib) (g.ls.take k);refine⟨by omega,by omega,by omega,by omega,by omega,by omega,by omega,by omega,⟨⟨(k+1,(c1,none),c2,none),by omega⟩,?_,by grind⟩,?_,?_,?_,?_⟩
     ·refine GS.to ⟨Sub.agH (n:=g.rs.length) (m:=g.rs.length) (by omega) (fun j hj=>?_) (fun j hj=>?_) ?_ ?_ ?_ ?_,?_⟩
      ·simp[hj,hO j hj]
       grind[Dy,dd]
      ·have e1:9000+g.rs.length≤19000+j:=by omega
       have e2:g.rs.length≤10000+j:=by omega
       simp[hj,hI j hj,e1,e2]
       grind[Dy,dd]
      ·simp[pq,hMO,hMI]
      ·simp
      ·simp
      ·simp
       grind
      simp
     ·refine Dh.ren (fun p=>if p = .o (19000+ia)then .o 9000 else p) ?_
      conv=>lhs;arg 2;simp[zB,ji,jk]
      kernel_rfl
     ·refine Dh.ren (fun p=>if p = .o (19000+ib)then .o 9000 else p) ?_
      conv=>lhs;arg 2;simp[zB,ji,jk]
      kernel_rfl
     ·refine Dh.ren (fun p=>if p = .o (9000+ib)then .o 9000 else p) ?_
      conv=>lhs;arg 2;simp[zB,ji,jk]
      kernel_rfl
     ·refine Dh.ren (fun p=>if p = .o (9000+ia)then .o 9000 else p) ?_
      conv=>lhs;arg 2;simp[zB,ji,jk]
      kernel_rfl
    ·have hkz :¬(k:Int)<g.ls.length:=by omega
     obtain rfl:k=g.ls.length:=by omega
     rw[bP];simp -dsimp[hkz];refine Fe.range ?_;simp -dsimp[Kz,O0];intro sn;refine bY.of [3000009,3000010,1000226] (kb 0x1400000000000000001e001e1af) (ι:={z:List (List Int)×Option (List Int) // ∀k∈z.1,∃i,i<g.rs.length∧k = [qo g.rs i]})
      (fun z=>sJ 9000 g.rs.length (fun j=>It.row 257 2 (dd (Dy (Bv g.ls (qo g.rs j)))) false) (sJ 19000 g.rs.length (fun j=>It.row 257 2 (dd (Dy (FN g.ls (qo g.rs j)))) false) [
        (.o 2,It.box [TV.c (Value.map none),TV.c (Value.map none)]),(.s 2,It.v (.ptr (.o 2) 0)),
        (.o 9,It.jA (iO g.rs.length 9000 (wG g.rs) fun j=>(Bv g.ls (qo g.rs j)).length) c1 p1 (some sn)),(.o 10,It.jA (iO g.rs.length 19000 (wG g.rs) fun j=>(FN g.ls (qo g.rs j)).length) c2 p2 none),(.o 3,It.box [TV.mref 9,TV.mref 10]),
        (.s 3,It.v (.ptr (.o 3) 0)),(.s 102,It.v (.ptr (.o 102) 0)),(.o 102,It.Fb 9 sn z.1.1 z.1.2)]))
      (fun z=>z.1.1.length) ⟨((iO g.rs.length 9000 (wG g.rs) fun j=>(Bv g.ls (qo g.rs j)).length).map (·.1),none),fun k hk=>?_⟩ ?_ ?_
     ·simp only[iO,bQ,ay,bD]at hk;obtain⟨i,hi,rfl⟩:=hk;exact⟨i,hi,rfl⟩
     ·refine GS.to ⟨Sub.agH (n:=g.rs.length) (m:=g.rs.length) (by omega) (fun j hj=>?_) (fun j hj=>?_) ?_ ?_ ?_ ?_,?_⟩
      ·simp[*]
      ·have e1:9000+g.rs.length≤19000+j:=by omega
       simp[*]
      ·simp
      ·simp
      ·simp
      ·simp_all
      simp
     ·rintro⟨⟨left,cur⟩,j1⟩;simp only at j1;simp -dsimp;refine Fe.next ?_;simp -dsimp[Wq];refine⟨fun hl0=>?_,fun x hx=>?_⟩
      ·subst hl0;refine Fin.ghost (t':=Tr.look [(.o 9,It.jA ((List.range g.rs.length).map fun i=>(wG g.rs i,TV.d (.sl (Dy (Bv g.ls (qo g.rs i)))))) c1 p1 (some sn)),(.o 10,It.jA ((List.range g.rs.length).map fun i=>(wG g.rs i,TV.d (.sl (Dy (FN g.ls (qo g.rs i)))))) c2 p2 none),(.o 2,It.box [TV.mref 9,TV.mref 10]),(.s 2,It.v (.ptr (.o 2) 0))]) ?_
        ((GS.UD (qL:=9) (b:=9000) (n:=g.rs.length) (e:=257) (z:=2) (k:=wG g.rs) (xs:=fun j=>Dy (Bv g.ls (qo g.rs j))) (c:=c1) (pd:=p1) (s:=some sn) (by simp) (fun i hi=>by simp[*]) (by omega)).trans
          ((GS.UD (qL:=10) (b:=19000) (n:=g.rs.length) (e:=257) (z:=2) (k:=wG g.rs) (xs:=fun j=>Dy (FN g.ls (qo g.rs j))) (c:=c2) (pd:=p2) (s:=none) ?_ (fun i hi=>?_) (by omega)).trans (GS.Lu ⟨?_,?_⟩ ?_)))
       ·have eO:((List.range g.rs.length).map fun i=>(wG g.rs i,TV.d (.sl (Dy (Bv g.ls (qo g.rs i))))))=(g.rs.map fun x=>([x.id],D.sl (Dy (Bv g.ls x.id)))).map fun x=>(x.1,TV.d x.2):=by
         exact(WT (rs:=g.rs) (fun v=>([v],TV.d (.sl (Dy (Bv g.ls v)))))).trans (by simp)
        have eI:((List.range g.rs.length).map fun i=>(wG g.rs i,TV.d (.sl (Dy (FN g.ls (qo g.rs i))))))=(g.rs.map fun x=>([x.id],D.sl (Dy (FN g.ls x.id)))).map fun x=>(x.1,TV.d x.2):=by exact(WT (rs:=g.rs) (fun v=>([v],TV.d (.sl (Dy (FN g.ls v)))))).trans (by simp)
        rw[eO,eI];refine Fin.yI 9 (g.rs.map fun x=>([x.id],D.sl (Dy (Bv g.ls x.id)))) rfl ?_;simp;refine Fin.yI 10 (g.rs.map fun x=>([x.id],D.sl (Dy (FN g.ls x.id)))) (c:=c2) (pd:=p2) (s:=none) (by simp) ?_;simp;refine Fin.of ?_;simp[Qa]
       ·simp[Am]
       ·rw[Am (by omega) (by omega)];have e1:9000+g.rs.length≤19000+i:=by omega
        simp[*]
       ·simp[Am,Io,UE]
       ·simp
       simp[UF]
      ·obtain⟨ia,hia,rfl⟩:=j1 x hx;have hinj:∀i j,i<g.rs.length→j<g.rs.length→wG g.rs i=wG g.rs j→i=j:=fun i j hi hj e=>MW nd hi hj (by simpa[wG]using e)
       have hga:∀b f,mJ (iO g.rs.length b (wG g.rs) f) [qo g.rs ia]=some (.bK (b+ia) (f ia)):=fun b f=>EF hinj hia
       simp -dsimp[hia,hga,IX,ji,jk];have hpw:=hpw (qo g.rs ia);have hle:=TT (qo g.rs ia) g.ls;obtain⟨zs,hzs⟩:∃zs,zs=(Bv g.ls (qo g.rs ia)).map fun x=>[x.1,x.2]:=⟨_,rfl⟩
       have hR:dd (Dy (Bv g.ls (qo g.rs ia)))=dd (oW zs):=by rw[hzs];simp[Dy,oW,dd]
       have hpz:zs.Pairwise fun x y=>x.getD 0 0<y.getD 0 0:=by rw[hzs,dA];exact hpw.imp fun {a b} h=>by simpa using h
       have hlz:zs.length=(Bv g.ls (qo g.rs ia)).length:=by rw[hzs,aN]
       have hpre:=afn hpz;have hS:=aij hpz;refine aF.adM acv zs ?_;simp -dsimp[hia,hR,hlz,hpre,hS];refine⟨by omega,⟨(left.erase [qo g.rs ia],some [qo g.rs ia]),fun y hy=>j1 y (List.mem_of_mem_erase hy)⟩,GS.to ⟨Sub.agH (n:=g.rs.length) (m:=g.rs.length) (by omega) (fun j hj=>?_) (fun j hj=>?_) ?_ ?_ ?_ ?_,?_⟩,?_⟩
       ·simp[hj];intro e;rw[e,hR]
       ·have e1:9000+g.rs.length≤19000+j:=by omega
        have e2:g.rs.length≤10000+j:=by omega
        simp[hj,e1,e2]
       ·simp
       ·simp
       ·simp
       ·simp;exact⟨fun j hj=>by omega,fun j hj=>by omega⟩
       ·simp
       ·simp only[List.length_erase_of_mem hx];have:=jr hx;omega
theorem Ov{es:IM}{k v:Int}(h:gI es k=some v):(k,v)∈es:=by
 induction es with
 | nil=>trivial
 | cons x es ih=>grind[gI]
theorem Jk{es:IM}(nd:(es.map (·.1)).Nodup){k v:Int}(h:(k,v)∈es):gI es k=some v:=by
 induction es with
 | nil=>trivial
 | cons x es ih=>
   rw[gI]
   grind
theorem ac6{es:IM}{k:Int}:gI es k=none↔k∉es.map (·.1):=by
 induction es with
 | nil=>simp[gI]
 | cons x es ih=>
   rw[gI]
   grind
theorem ahV{es:IM}(nd:(es.map (·.1)).Nodup){k v:Int}{x:Int×Int}:x∈pI es k v↔x=(k,v)∨(x∈es∧x.1≠k):=by
 induction es with
 | nil=>simp[pI]
 | cons y es ih=>
   rw[pI]
   grind
theorem adB{es:IM}{k v:Int}:∀x,x∈(pI es k v).map (·.1)↔x=k∨x∈es.map (·.1):=by
 induction es with
 | nil=>simp[pI]
 | cons y es ih=>
   rw[pI]
   grind
theorem akn{es:IM}(nd:(es.map (·.1)).Nodup)(k v:Int):((pI es k v).map (·.1)).Nodup:=by
 induction es with
 | nil=>simp[pI]
 | cons y es ih=>
   rw[aH,dG]at nd
   rw[pI];by_cases h:k=y.1
   ·simp[*]
   ·grind[adB]
theorem alv{es:IM}{k:Int}(h:k∉es.map (·.1))(v:Int):(pI es k v).length=es.length+1:=by
 induction es with
 | nil=>rfl
 | cons y es ih=>simp only[aH,aG,not_or]at h;rw[pI,if_neg h.1,aT,ih h.2,aT]
theorem acf{es:IM}{k:Int}{x:Int×Int}:x∈rI es k↔x∈es∧x.1≠k:=by simp[rI]
theorem anR{es:IM}(nd:(es.map (·.1)).Nodup)(k:Int):((rI es k).map (·.1)).Nodup:=by grind[rI]
structure Dj(g:bV)(to:Int)(out opn:IM):Prop where
 o1:∀x∈out,fM g.rs x.1=true∧x.2=dst g to x.1∧x.2<far
 o2:∀x∈opn,fM g.rs x.1=true∧x.1∉out.map (·.1)∧∃k,Wk g to k x.1 x.2
 o3:∀b∈out,∀y q,price g.ls y b.1=some q→y∈out.map (·.1)∨∃c,(y,c)∈opn∧c≤q+b.2
 o4:to∈out.map (·.1)∨(to,0)∈opn
 n1:(out.map (·.1)).Nodup
 n2:(opn.map (·.1)).Nodup
theorem Dj.init{g:bV}{to:Int}(hto:fM g.rs to=true):Dj g to [] [(to,0)]:=
 ⟨by simp,by simp only[bn];rintro x rfl;exact⟨hto,by simp,0,.nil⟩,by simp,.inr (by simp),by simp,by simp⟩
theorem Dj.low{g:bV}(hg:g.Ok){to:Int}{out opn:IM}(h:Dj g to out opn){k:Nat}{x v:Int}(hw:Wk g to k x v):x∉out.map (·.1)→∃y∈opn,y.2≤v:=by
 induction hw with
 | nil=>intro hx;exact⟨_,h.o4.resolve_left hx,Int.le_refl _⟩
 | @cons k x y c v hp hw ih=>
   intro hx;have hc:=xA hg hp;by_cases hy:y∈out.map (·.1)
   ·obtain⟨b,hb,rfl⟩:=ay.1 hy;have hv:=(h.o1 b hb).2.1;rcases h.o3 b hb x c hp with g1|⟨d,g1,g2⟩
    ·trivial
    ·refine⟨_,g1,?_⟩;have hto:fM g.rs to=true:=by
      rcases h.o4 with g3|g3
      ·obtain⟨z,hz,rfl⟩:=ay.1 g3;exact(h.o1 z hz).1
      ·exact(h.o2 _ g3).1
     have:=(Ac hg hto hw).1;omega
   grind
theorem Dj.acC{g:bV}{to:Int}{out opn:IM}(h:Dj g to out opn):fM g.rs to=true:=by
 rcases h.o4 with g3|g3
 ·obtain⟨z,hz,rfl⟩:=ay.1 g3;exact(h.o1 z hz).1
 ·exact(h.o2 _ g3).1
theorem Dj.pick{g:bV}(hg:g.Ok){to:Int}{out opn:IM}(h:Dj g to out opn){b:Int×Int}(hb:b∈opn)(hm:∀x∈opn,b.2≤x.2):b.2=dst g to b.1∧b.2<far:=by
 obtain⟨h1,h2,k,hw⟩:=h.o2 b hb;have hto:=h.acC;have hd:=Ac hg hto hw;obtain⟨k',hw'⟩:=Aa hg hto h1 hd.2;obtain⟨z,hz,hle⟩:=h.low hg hw' h2
 grind
structure DjM(g:bV)(to:Int)(b:Int×Int)(done:List Int)(out opn:IM):Prop where
 o1:∀x∈out,fM g.rs x.1=true∧x.2=dst g to x.1∧x.2<far
 o2:∀x∈opn,fM g.rs x.1=true∧x.1∉out.map (·.1)∧∃k,Wk g to k x.1 x.2
 o3:∀a∈out,a≠b→∀y q,price g.ls y a.1=some q→y∈out.map (·.1)∨∃c,(y,c)∈opn∧c≤q+a.2
 o5:∀y∈done,∀q,price g.ls y b.1=some q→y∈out.map (·.1)∨∃c,(y,c)∈opn∧c≤q+b.2
 o4:to∈out.map (·.1)∨(to,0)∈opn
 hb:b∈out
 n1:(out.map (·.1)).Nodup
 n2:(opn.map (·.1)).Nodup
theorem Dj.move{g:bV}(hg:g.Ok){to:Int}{out opn:IM}(h:Dj g to out opn){b:Int×Int}(hb:b∈opn)(hm:∀x∈opn,b.2≤x.2):DjM g to b [] (pI out b.1 b.2) (rI opn b.1):=by
 obtain⟨h1,h2,k,hw⟩:=h.o2 b hb;obtain⟨p1,p2⟩:=h.pick hg hb hm;have hmem:∀x,x∈pI out b.1 b.2↔x=b∨(x∈out∧x.1≠b.1):=fun x=>ahV h.n1
 refine⟨fun x hx=>?_,fun x hx=>?_,fun a ha hne y q hq=>?_,by simp,?_,(hmem b).2 (.inl rfl),akn h.n1 _ _,anR h.n2 _⟩
 ·rcases (hmem x).1 hx with rfl|⟨hx,_⟩
  ·trivial
  ·exact h.o1 x hx
 ·obtain⟨hx,hxb⟩:=acf.1 hx;obtain⟨q1,q2,q3⟩:=h.o2 x hx
  grind
 ·rcases (hmem a).1 ha with e|⟨ha,_⟩
  ·trivial
  ·rcases h.o3 a ha y q hq with e|⟨c,e1,e2⟩
   ·grind
   grind[acf]
 ·rcases h.o4 with e|e
  ·grind
  grind[acf]
def alC(out opn:IM)(cb:Int)(y q:Int):IM:=match gI out y with
 | some _=>opn
 | none=>match gI opn y with
   | some c=>if cb+q<c then pI opn y (cb+q)else opn
   | none=>pI opn y (cb+q)
theorem DjM.step{g:bV}(hg:g.Ok){to:Int}{b:Int×Int}{done:List Int}{out opn:IM}(h:DjM g to b done out opn){y q:Int}(hq:price g.ls y b.1=some q):DjM g to b (done++[y]) out (alC out opn b.2 y q):=by
 have hto:fM g.rs to=true:=by
  rcases h.o4 with g3|g3
  ·obtain⟨z,hz,rfl⟩:=ay.1 g3;exact(h.o1 z hz).1
  ·exact(h.o2 _ g3).1
 obtain⟨hb1,hb2,hb3⟩:=h.o1 b h.hb;obtain⟨kb,hwb⟩:=Aa hg hto hb1 (hb2▸hb3);rw[←hb2]at hwb
 have hwy:∃k,Wk g to k y (b.2+q):=⟨kb+1,by rw[Int.add_comm];exact .cons hq hwb⟩
 have hyr:=(vw hg hq).1;have hq1:=xA hg hq;have put:∀(hy:y∉out.map (·.1)),(∀c,(y,c)∈opn→b.2+q≤c)→DjM g to b (done++[y]) out (pI opn y (b.2+q)):=fun hy hle=>by
  have hm:∀x,x∈pI opn y (b.2+q)↔x=(y,b.2+q)∨(x∈opn∧x.1≠y):=fun x=>ahV h.n2
  refine⟨h.o1,fun x hx=>?_,fun a ha hne z p hp=>?_,fun z hz p hp=>?_,?_,h.hb,h.n1,akn h.n2 _ _⟩
  ·rcases (hm x).1 hx with rfl|⟨hx,_⟩
   ·trivial
   ·exact h.o2 x hx
  ·rcases h.o3 a ha hne z p hp with e|⟨c,e1,e2⟩
   ·simp[*]
   grind
  ·rcases aJ.1 hz with hz|hz
   ·rcases h.o5 z hz p hp with e|⟨c,e1,e2⟩
    ·simp[*]
    grind
   grind
  ·rcases h.o4 with e|e
   ·simp[*]
   ·by_cases ht:to=y
    ·subst ht;have h0:=hle 0 e;have hbz:0≤b.2:=by
      have:=(tN hg to b.1).1;omega
     omega
    simp_all
 unfold alC;cases ho:gI out y with
 | some v=>
   have hyo:y∈out.map (·.1):=ay.2 ⟨_,Ov ho,rfl⟩;refine⟨h.o1,h.o2,h.o3,fun z hz p hp=>?_,h.o4,h.hb,h.n1,h.n2⟩;rcases aJ.1 hz with hz|hz
   ·exact h.o5 z hz p hp
   simp_all
 | none=>
   have hyo:y∉out.map (·.1):=ac6.1 ho;cases hp:gI opn y with
   | none=>simp only;exact put hyo fun c hc=>absurd (ay.2 ⟨_,hc,rfl⟩) (ac6.1 hp)
   | some c=>
     simp only;have hcm:=Ov hp;split
     ·rename_i hlt;refine put hyo fun d hd=>?_
      have:=Jk h.n2 hd
      grind
     ·rename_i hlt;refine⟨h.o1,h.o2,h.o3,fun z hz p hpz=>?_,h.o4,h.hb,h.n1,h.n2⟩;rcases aJ.1 hz with hz|hz
      ·exact h.o5 z hz p hpz
      grind
theorem DjM.fin{g:bV}{to:Int}{b:Int×Int}{done:List Int}{out opn:IM}(h:DjM g to b done out opn)(hd:∀y q,price g.ls y b.1=some q→y∈done):Dj g to out opn:=
 ⟨h.o1,h.o2,fun a ha y q hq=>by
  by_cases e:a=b
  ·subst e;exact h.o5 y (hd y q hq) q hq
  ·exact h.o3 a ha e y q hq,h.o4,h.n1,h.n2⟩
theorem Dj.done{g:bV}(hg:g.Ok){to:Int}{out opn:IM}(h:Dj g to out opn)(he:opn = []∨∀r,fM g.rs r=true→r∈out.map (·.1))(r c:Int):gI out r=some c↔fM g.rs r=true∧dst g to r<far∧c=dst g to r:=by
 constructor
 ·intro hr;obtain⟨h1,h2,h3⟩:=h.o1 _ (Ov hr)
  simp_all
 ·rintro⟨h1,h2,rfl⟩;have hin:r∈out.map (·.1):=by
   rcases he with he|he
   ·obtain⟨k,hw⟩:=Aa hg h.acC h1 h2;refine Classical.byContradiction fun hx=>?_
    obtain⟨y,hy,_⟩:=h.low hg hw hx
    simp_all
   simp[*]
  obtain⟨x,hx,rfl⟩:=ay.1 hin;rw[←(h.o1 x hx).2.1];exact Jk h.n1 hx
theorem ajq{ls:List Lk}{x y q:Int}:(y,q)∈FN ls x↔∃l∈ls,(l.b=x∧l.a=y∧l.ca=q)∨(l.a=x∧l.b=y∧l.cb=q):=by
 unfold FN
 grind
theorem ajr{ls:List Lk}{x y q:Int}:(y,q)∈Bv ls x↔∃l∈ls,(l.a=x∧l.b=y∧l.ca=q)∨(l.b=x∧l.a=y∧l.cb=q):=by
 unfold Bv
 grind
theorem WR{g:bV}(hg:g.Ok){f t c:Int}:price g.ls f t=some c↔∃l∈g.ls,(l.a=f∧l.b=t∧l.ca=c)∨(l.b=f∧l.a=t∧l.cb=c):=by
 constructor
 ·exact Bz
 ·rintro⟨l,hl,h⟩;obtain⟨h1,h2⟩:=MQ hg.lpw (fun _ h=>hg.lab h) hl
  grind
theorem V9{g:bV}(hg:g.Ok){x y q:Int}:(y,q)∈FN g.ls x↔price g.ls y x=some q:=by
 rw[ajq,WR hg]
 grind
theorem OM{g:bV}(hg:g.Ok){x y q:Int}:(y,q)∈Bv g.ls x↔price g.ls x y=some q:=by rw[ajr,WR hg]
theorem QZ{f:Lk→IM}:∀{ls:List Lk},(∀l∈ls,(f l).Pairwise fun a b=>a.1<b.1)→ls.Pairwise Jd→(∀l∈ls,∀m∈ls,Jd l m→∀a∈f l,∀b∈f m,a.1<b.1)→(ls.flatMap f).Pairwise fun a b=>a.1<b.1
 | [],_,_,_=>by simp
 | l::ls,hf,h,hg=>by
   obtain⟨h1,h2⟩:=fB.1 h;rw[gV,jJ];refine⟨hf l (by simp),QZ (fun m hm=>hf m (by simp[*])) h2 fun l' hl' m hm=>hg l' (by simp[*]) m (by simp[*]),fun a ha b hb=>?_⟩
   grind
theorem adz{g:bV}(hg:g.Ok)(x:Int):(Bv g.ls x).Pairwise fun a b=>a.1<b.1:=by
 refine QZ (fun l hl=>?_) hg.lpw fun l hl m hm hlt a ha b hb=>?_
 ·have:=hg.lab hl;by_cases h1:l.a=x<;>by_cases h2:l.b=x<;>simp[h1,h2]<;>omega
 ·have m1:=hg.lab hm;unfold Jd at hlt
  grind
def nxG(costs ls:IM)(x:Int):List Int:=match gI costs x with
 | none=>[]
 | some all=>(ls.filter fun s=>match gI costs s.1 with
   | some c=>decide (s.2+c=all)
   | none=>false).map (·.1)
def amm(g:bV)(to:Int)(costs:IM):Prop:=∀r c,gI costs r=some c↔fM g.rs r=true∧dst g to r<far∧c=dst g to r
theorem afK{g:bV}(hg:g.Ok)(d:List Int)(x:Int):(steps g d x).Pairwise (· < ·):=by
 unfold steps near;split
 ·simp
 ·refine List.Pairwise.filter _ ?_;rw[dA];exact hg.rpw.filter _
theorem afg{g:bV}(hg:g.Ok){to:Int}(hto:fM g.rs to=true){costs:IM}(hD:amm g to costs){x:Int}(hx:fM g.rs x=true):nxG costs (Bv g.ls x) x=steps g (dist g to) x:=by
 refine Xn ?_ (afK hg _ x) fun y=>?_
 ·unfold nxG;split
  ·simp
  ·grind[adz]
 ·rw[zK hg];unfold nxG;cases hc:gI costs x with
  | none=>
    have :¬dst g to x<far:=fun h=>by
     have:=(hD x _).2 ⟨hx,h,rfl⟩
     simp_all
    have hb:=(tN hg to x).2
    grind
  | some all=>
    obtain⟨_,h1,rfl⟩:=(hD x all).1 hc;simp only[ay,bG];constructor
    ·rintro⟨s,⟨hs,hm⟩,rfl⟩;have hp:=(OM hg (y:=s.1) (q:=s.2)).1 hs;cases hg1:gI costs s.1 with
     | none=>simp_all
     | some c=>
       rw[hg1]at hm
       obtain⟨_,h2,rfl⟩:=(hD s.1 c).1 hg1;have:=xA hg hp;have:=(tN hg to s.1).1
       grind
    ·rintro⟨_,_,h2,q,hp,he⟩;refine⟨(y,q),⟨(OM hg).2 hp,?_⟩,rfl⟩;have:=(hD y _).2 ⟨(vw hg hp).2,h2,rfl⟩;simp[*]
structure Least(opn:IM)(b:Int×Int):Prop where
 mem:b∈opn
 min:∀x∈opn,b.2<x.2∨(b.2=x.2∧b.1≤x.1)
theorem Least.perm{o o':IM}(h:o.Perm o'){b:Int×Int}(hb:Least o b):Least o' b:=⟨h.mem_iff.1 hb.mem,fun x hx=>hb.min x (h.mem_iff.2 hx)⟩
theorem Least.snoc{dn:IM}{b x:Int×Int}(h:Least dn b):Least (dn++[x]) (if x.2<b.2∨(x.2=b.2∧x.1<b.1)then x else b):=by
 split
 ·refine⟨by simp,fun y hy=>?_⟩;rcases aJ.1 hy with hy|hy
  ·have:=h.min y hy;omega
  simp_all
 ·refine⟨aJ.2 (.inl h.mem),fun y hy=>?_⟩;rcases aJ.1 hy with hy|hy
  ·exact h.min y hy
  grind
theorem Least.one(x:Int×Int):Least [x] x:=⟨by simp,fun y hy=>by simp_all⟩
end Go.Proofs
