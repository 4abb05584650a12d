/-
  What functions of the program compute, stated as contracts over plain data; the conditions of each stand in its own statement.
-/
import Derived.Test.YtboimfkommpglaaGreatDoorZA21
import Derived.Test.YtboimfkommpglaaGreatDoorZA13
import Derived.Test.YtboimfkommpglaaGreatDoorZA11
import Derived.Shelf.SlSortCmp.NoneTotal
set_option linter.unusedSimpArgs false
set_option linter.unusedVariables false
namespace Go.Tr
open Go
def Bf(b n:Nat)(f:Nat→It)(l:List (Pl×It)):List (Pl×It):=(List.range n).map (fun i=>(Pl.o (b+i),f i))++l
theorem yV{b:Nat}{f:Nat→It}{l:List (Pl×It)}{p:Pl}:∀{ks:List Nat},(∀i∈ks,p≠.o (b+i))→look (ks.map (fun i=>(Pl.o (b+i),f i))++l) p=look l p
 | [],_=>rfl
 | k::ks,h=>by
   rw[List.map_cons,List.cons_append,look,if_neg (h k (by simp))];exact yV fun i hi=>h i (by simp[hi])
theorem PE{b:Nat}{f:Nat→It}{l:List (Pl×It)}{i:Nat}:∀{ks:List Nat},i∈ks→look (ks.map (fun i=>(Pl.o (b+i),f i))++l) (.o (b+i))=f i
 | [],h=>by simp at h
 | k::ks,h=>by
   rw[List.map_cons,List.cons_append,look];by_cases e:i=k
   ·subst e;rw[if_pos rfl]
   ·rw[if_neg (by simpa using e)];exact PE (by simpa[e]using h)
theorem wV{b:Nat}{f:Nat→It}{l:List (Pl×It)}{p:Pl}{v:It}:∀{ks:List Nat},(∀i∈ks,p≠.o (b+i))→iI p v (ks.map (fun i=>(Pl.o (b+i),f i))++l)=ks.map (fun i=>(Pl.o (b+i),f i))++iI p v l
 | [],_=>rfl
 | k::ks,h=>by
   rw[List.map_cons,List.cons_append,iI,if_neg (h k (by simp)),wV fun i hi=>h i (by simp[hi])];rfl
theorem PU{b:Nat}{f:Nat→It}{l:List (Pl×It)}{v:It}{i:Nat}:∀{ks:List Nat},i∈ks→ks.Nodup→iI (.o (b+i)) v (ks.map (fun i=>(Pl.o (b+i),f i))++l)=ks.map (fun j=>(Pl.o (b+j),if j=i then v else f j))++l
 | [],h,_=>by simp at h
 | k::ks,h,nd=>by
   have nd':=List.nodup_cons.1 nd;rw[List.map_cons,List.cons_append,iI,List.map_cons,List.cons_append];by_cases e:i=k
   ·subst e;rw[if_pos rfl,if_pos rfl]
    congr 2
    refine List.map_congr_left fun j hj=>?_
    rw[if_neg (fun e=>nd'.1 (by rw[←e];exact hj))]
   ·rw[if_neg (by simpa using e),if_neg (fun h=>e h.symm),PU (by simpa[e]using h) nd'.2]
variable {b n:Nat} {f:Nat→It} {l:List (Pl×It)}
theorem aaE(k:Nat):look (Bf b n f l) (.s k)=look l (.s k):=yV (by simp)
theorem aaF(k:Nat):look (Bf b n f l) (.x k)=look l (.x k):=yV (by simp)
theorem aaD{k:Nat}(h:k<b):look (Bf b n f l) (.o k)=look l (.o k):=yV (by intro i _ e;simp only[Pl.o.injEq]at e;omega)
theorem PD{k:Nat}(h:b+n≤k):look (Bf b n f l) (.o k)=look l (.o k):=yV (by intro i hi e;simp only[Pl.o.injEq]at e;have:=List.mem_range.1 hi;omega)
theorem Iz{i:Nat}(h:i<n):look (Bf b n f l) (.o (b+i))=f i:=PE (List.mem_range.2 h)
theorem aaW(k:Nat)(v:It):iI (.s k) v (Bf b n f l)=Bf b n f (iI (.s k) v l):=wV (by simp)
theorem KW(k:Nat)(v:It):iI (.x k) v (Bf b n f l)=Bf b n f (iI (.x k) v l):=wV (by simp)
theorem aaV{k:Nat}(v:It)(h:k<b):iI (.o k) v (Bf b n f l)=Bf b n f (iI (.o k) v l):=wV (by intro i _ e;simp only[Pl.o.injEq]at e;omega)
theorem Y4{k:Nat}(v:It)(h:b+n≤k):iI (.o k) v (Bf b n f l)=Bf b n f (iI (.o k) v l):=wV (by intro i hi e;simp only[Pl.o.injEq]at e;have:=List.mem_range.1 hi;omega)
theorem Y3{i:Nat}(v:It)(h:i<n):iI (.o (b+i)) v (Bf b n f l)=Bf b n (fun j=>if j=i then v else f j) l:=PU (List.mem_range.2 h) List.nodup_range
theorem EH{P:Pl×It→Prop}:(∀x∈Bf b n f l,P x)↔(∀i,i<n→P (.o (b+i),f i))∧∀x∈l,P x:=by
 unfold Bf;constructor
 ·intro h;exact⟨fun i hi=>h _ (List.mem_append.2 (.inl (List.mem_map.2 ⟨i,List.mem_range.2 hi,rfl⟩))),fun x hx=>h x (List.mem_append.2 (.inr hx))⟩
 ·rintro⟨h1,h2⟩ x hx;rcases List.mem_append.1 hx with hx|hx
  ·obtain⟨i,hi,rfl⟩:=List.mem_map.1 hx;exact h1 i (List.mem_range.1 hi)
  ·exact h2 x hx
theorem acG{P:Pl→It→Prop}:(∀p i,(p,i)∈Bf b n f l→P p i)↔(∀i,i<n→P (.o (b+i)) (f i))∧∀p i,(p,i)∈l→P p i:=by
 have h:=EH (b:=b) (n:=n) (f:=f) (l:=l) (P:=fun x=>P x.1 x.2);constructor
 ·intro g;have:=h.1 fun x hx=>g x.1 x.2 hx
  exact⟨this.1,fun p i hx=>this.2 _ hx⟩
 ·intro g p i hx;exact h.2 ⟨g.1,fun x hx=>g.2 _ _ hx⟩ _ hx
theorem Nh:∀(a c:List (Pl×It)),jy (a++c)=jy a++jy c
 | [],_=>rfl
 | (.o k,i)::a,c=>by simp[jy,Nh a c]
 | (.s k,i)::a,c=>by simp[jy,Nh a c]
 | (.x k,i)::a,c=>by simp[jy,Nh a c]
theorem NQ:∀(a c:List (Pl×It)),jP (a++c)=jP a++jP c
 | [],_=>rfl
 | (.o k,i)::a,c=>by simp[jP,NQ a c]
 | (.s k,i)::a,c=>by simp[jP,NQ a c]
 | (.x k,i)::a,c=>by simp[jP,NQ a c]
theorem Jv(kp:Nat→Bool):∀(a c:List (Pl×It)),rO kp (a++c)=rO kp a++rO kp c
 | [],_=>rfl
 | (.o k,i)::a,c=>by simp[Xa,Jv kp a c]
 | (.s k,i)::a,c=>by
   simp only[List.cons_append,abR,Jv kp a c];split<;>rfl
 | (.x k,i)::a,c=>by simp[abS,Jv kp a c]
theorem YZ(b:Nat)(f:Nat→It):∀ks:List Nat,jy (ks.map fun i=>(Pl.o (b+i),f i))=ks.map (b + ·)
 | []=>rfl
 | k::ks=>by simp[jy,YZ b f ks]
theorem Zt(b:Nat)(f:Nat→It):∀ks:List Nat,jP (ks.map fun i=>(Pl.o (b+i),f i)) = []
 | []=>rfl
 | k::ks=>by simp[jP,Zt b f ks]
theorem Vy(kp:Nat→Bool)(b:Nat)(f:Nat→It):∀ks:List Nat,rO kp (ks.map fun i=>(Pl.o (b+i),f i))=ks.map fun i=>(Pl.o (b+i),f i)
 | []=>rfl
 | k::ks=>by simp[Xa,Vy kp b f ks]
theorem aft{k:Nat}:k∈jy (Bf b n f l)↔(b≤k∧k<b+n)∨k∈jy l:=by
 rw[Bf,Nh,YZ,List.mem_append];refine or_congr ?_ Iff.rfl;rw[List.mem_map];constructor
 ·rintro⟨i,hi,rfl⟩;have:=List.mem_range.1 hi;omega
 ·intro h;exact⟨k-b,List.mem_range.2 (by omega),by omega⟩
theorem agw:jP (Bf b n f l)=jP l:=by rw[Bf,NQ,Zt,List.nil_append]
theorem ada(kp:Nat→Bool):rO kp (Bf b n f l)=Bf b n f (rO kp l):=by rw[Bf,Jv,Vy,Bf]
theorem aeC:Bf b 0 f l=l:=rfl
theorem uT{a i k:Nat}(h:k<a):¬a+i=k:=by omega
theorem uU{a i k:Nat}(h:k<a):¬k=a+i:=by omega
theorem Sub.Bf{t:S}(h1:∀j,j<n→f j=t (.o (b+j)))(h2:∀x∈l,look (Tr.Bf b n f l) x.1=t x.1)(h3:∀j,j<n→(f j).only (· ∈jy (Tr.Bf b n f l)))(h4:∀x∈l,x.2.only (· ∈jy (Tr.Bf b n f l))):Sub t (Tr.Bf b n f l):=
 ⟨EH.2 ⟨fun j hj=>by rw[Iz hj];exact h1 j hj,h2⟩,EH.2 ⟨h3,h4⟩⟩
attribute [simp] aaE aaF aaD PD Iz aaW KW aaV Y4 Y3 EH acG aft agw ada
end Go.Tr

namespace Go.Tr
open Go
section
variable {A:eX}
theorem SE{E:En}{v v':TV}(hr:∀u,aA E v u→aA E v' u){k:List Int}:∀{es:List (List Int×TV)} {i:Nat} {l:List MapEntry},es[i]? = some (k,v)→jD E es l→jD E (es.set i (k,v')) l
 | [],_,_,h,_=>by simp at h
 | x::es,0,l,h,hm=>by
   simp only[List.getElem?_cons_zero,Option.some.injEq]at h;subst h;simp only[jD]at hm;simp only[List.set_cons_zero,jD];obtain⟨a,l',h1,h2,h3,h4⟩:=hm;exact⟨a,l',h1,h2,hr _ h3,h4⟩
 | (k',w)::es,i+1,l,h,hm=>by
   simp only[List.getElem?_cons_succ]at h;simp only[jD]at hm;simp only[List.set_cons_succ,jD];obtain⟨a,l',h1,h2,h3,h4⟩:=hm;exact⟨a,l',h1,h2,h3,SE hr h h4⟩
theorem dL.aaG{t:S}{a:Act}{E:En}{id c:Nat}{es es':List (List Int×TV)}{pd:Option (List Int)}{s:Option mJ}(hi:dL A t a E)(ht:t (.o id) = .jX es c pd s)(hrel:∀l',jD E es l'→∃l2,l2.Perm l'∧jD E es' l2):
  dL A (upd t (.o id) (.jX es' c pd s)) a E:=by
 refine⟨⟨fun q hq=>?_,hi.h.frees,hi.h.inj,hi.h.size,hi.h.oQ,fun b o h1 q h2=>?_,hi.h.gl⟩,hi.fr,fun j tv hj=>?_,hi.defers,hi.size⟩
 ·by_cases eq:q = .o id
  ·subst eq;have h:=hi.h.item (.o id) hq;rw[ht]at h
   simp only[upd,if_true];obtain⟨id',b,l,clock,l',ty,v,h1,h2,h3,h4,h5,h6,h7,h8,h9⟩:=h;obtain⟨l2,g1,g2⟩:=hrel l' h5;exact⟨id',b,l,clock,l2,ty,v,h1,h2,h3,g1.trans h4,g2,h6,h7,h8,h9⟩
  ·simp only[upd,if_neg eq];exact hi.h.item q hq
 ·obtain⟨e2,k2,es2,h3,h4⟩:=hi.h.sep b o h1 q h2;have eq:q≠.o id:=fun e=>by subst e;rw[ht]at h3;simp at h3
  exact⟨e2,k2,es2,by simp only[upd,if_neg eq];exact h3,h4⟩
 ·simp only[upd,reduceCtorEq,if_false]at hj;exact hi.sl j tv hj
theorem GS.ak5{t:S}{nH c:Nat}{es:List (List Int×TV)}{pd:Option (List Int)}{s:Option mJ}{i id:Nat}{k:List Int}(e z:Nat)(h0:t (.o nH) = .jX es c pd s)(hi:es[i]? = some (k,.c (.slice none 0 0)))(ho:t (.o id) = .none):
  GS A t (upd (upd t (.o id) (.row e z [] false)) (.o nH) (.jX (es.set i (k,.aB id 0)) c pd s)):=fun a w ⟨E,hw,hE⟩=>by
 obtain⟨E',hw',x,hi',hv⟩:=hE.newRow ho e z;have hne:nH≠id:=fun e=>by subst e;rw[h0]at ho;simp at ho
 refine⟨E',hw'.trans hw,hi'.aaG (es:=es) (by simp only[upd,Pl.o.injEq,if_neg hne];exact h0) fun l' hl=>⟨l',.refl _,SE (fun u hu=>?_) hi hl⟩⟩;simp only[aA]at hu⊢;exact⟨by rw[hu];rfl,z,0,_,hv,Nat.le_refl _,fun _=>hu⟩
theorem GS.ape{t:S}{nH c:Nat}{es:List (List Int×TV)}{pd:Option (List Int)}{s:Option mJ}{i id n e z:Nat}{rs:List (List TV)}{sh:Bool}{xs:List (List D)}{k:List Int}(h0:t (.o nH) = .jX es c pd s)(hi:es[i]? = some (k,.aB id n))(ht:t (.o id) = .row e z rs sh)(hn:n=rs.length)(hx:eu rs=some xs):
  GS A t (upd (upd t (.o id) (.row e z rs true)) (.o nH) (.jX (es.set i (k,.d (.sl xs))) c pd s)):=fun a w ⟨E,hw,hE⟩=>by
 subst hn;obtain⟨E',hw',x,hb,hv,hi',hr',_⟩:=hE.freeze ht hx;have hne:nH≠id:=fun e=>by subst e;rw[h0]at ht;simp at ht
 refine⟨E',hw'.trans hw,hi'.aaG (es:=es) (by simp only[upd,Pl.o.injEq,if_neg hne];exact h0) fun l' hl=>⟨l',.refl _,SE (fun u hu=>?_) hi hl⟩⟩;simp only[aA];refine hr' u ?_;simp only[aA]at hu⊢;rw[hv]at hu
 exact hu
theorem adf{E:En}{es es':List (List Int×TV)}(h:es.Perm es'):∀{l:List MapEntry},jD E es l→∃l2,l2.Perm l∧jD E es' l2:=by
 induction h with
 | nil=>intro l h;exact⟨l,.refl _,h⟩
 | @cons x l1 l2 hp ih=>
   intro l h;obtain⟨k,v⟩:=x;simp only[jD]at h;obtain⟨a,l',rfl,h2,h3,h4⟩:=h;obtain⟨m,hm,hk⟩:=ih h4;exact⟨a::m,hm.cons a,by simp only[jD];exact⟨a,m,rfl,h2,h3,hk⟩⟩
 | swap x y l1=>
   intro l h;obtain⟨kx,vx⟩:=x;obtain⟨ky,vy⟩:=y;simp only[jD]at h;obtain⟨a,l',rfl,h2,h3,b,l'',rfl,h5,h6,h7⟩:=h;exact⟨b::a::l'',List.Perm.swap _ _ _,by simp only[jD];exact⟨b,_,rfl,h5,h6,a,l'',rfl,h2,h3,h7⟩⟩
 | trans _ _ ih1 ih2=>
   intro l h;obtain⟨m,h1,h2⟩:=ih1 h;obtain⟨m2,h3,h4⟩:=ih2 h2;exact⟨m2,h3.trans h1,h4⟩
theorem GS.ak7{t:S}{nH c:Nat}{es es':List (List Int×TV)}{pd:Option (List Int)}{s:Option mJ}(h0:t (.o nH) = .jX es c pd s)(hp:es.Perm es'):GS A t (upd t (.o nH) (.jX es' c pd s)):=fun a w ⟨E,hw,hE⟩=>
 ⟨E,hw,hE.aaG h0 fun l' hl=>adf hp hl⟩
theorem GS.afE{l l':List (Pl×It)}(nH:Nat){c:Nat}{es es':List (List Int×TV)}{pd:Option (List Int)}{s:Option mJ}(h0:look l (.o nH) = .jX es c pd s)(hp:es.Perm es')
  (h:Sub (look (iI (.o nH) (.jX es' c pd s) l)) l'∧jP l'=jP (iI (.o nH) (.jX es' c pd s) l)):GS A (look l) (look l'):=by
 have:=GS.ak7 (A:=A) h0 hp;rw[eU]at this
 exact this.trans (GS.forget h.1 h.2)
end
def oh(n b:Nat)(k:Nat→List Int)(f:Nat→Nat):List (List Int×TV):=(List.range n).map fun i=>(k i,.aB (b+i) (f i))
theorem SK{n b:Nat}{k:Nat→List Int}{f:Nat→Nat}(hk:∀i j,i<n→j<n→k i=k j→i=j){i:Nat}(hi:i<n):uq (oh n b k f) (k i)=some (.aB (b+i) (f i)):=by
 refine YF ?_ (List.mem_map.2 ⟨i,List.mem_range.2 hi,rfl⟩);rw[oh,List.map_map,List.nodup_iff_pairwise_ne,List.pairwise_map];refine List.Pairwise.imp_of_mem ?_ List.nodup_range;intro a c ha hc hne e;exact hne (hk a c (List.mem_range.1 ha) (List.mem_range.1 hc) e)
theorem YG{k:Nat→List Int}{f:Nat→TV}{v:TV}{i:Nat}:∀{ks:List Nat},i∈ks→(∀a∈ks,∀c∈ks,k a=k c→a=c)→ks.Nodup→zu (ks.map fun i=>(k i,f i)) (k i) v=ks.map fun j=>(k j,if j=i then v else f j)
 | [],h,_,_=>by simp at h
 | a::ks,h,hk,nd=>by
   have nd':=List.nodup_cons.1 nd;rw[List.map_cons,zu,List.map_cons];by_cases e:i=a
   ·subst e;rw[if_pos rfl,if_pos rfl]
    congr 1
    refine List.map_congr_left fun j hj=>?_
    rw[if_neg (fun e=>nd'.1 (by rw[←e];exact hj))]
   ·rw[if_neg (fun g=>e (hk i h a (by simp) g)),if_neg (fun h=>e h.symm)]
    congr 1
    exact YG (by simpa[e]using h) (fun x hx y hy=>hk x (by simp[hx]) y (by simp[hy])) nd'.2
theorem YO{n b:Nat}{k:Nat→List Int}{f:Nat→Nat}(hk:∀i j,i<n→j<n→k i=k j→i=j){i m:Nat}(hi:i<n):zu (oh n b k f) (k i) (.aB (b+i) m)=oh n b k fun j=>if j=i then m else f j:=by
 unfold oh;rw[YG (List.mem_range.2 hi) (fun a ha c hc=>hk a c (List.mem_range.1 ha) (List.mem_range.1 hc)) List.nodup_range];refine List.map_congr_left fun j _=>?_
 by_cases e:j=i
 ·subst e;simp
 ·simp[e]
theorem adh(n b:Nat)(k:Nat→List Int)(f:Nat→Nat):oh (n+1) b k f=oh n b k f++[(k n,.aB (b+n) (f n))]:=by
 simp[oh,List.range_succ]
end Go.Tr

namespace Go.Tr
open Go
theorem afl(f:Pl→Pl){a1 a2 b1 b2:List Pl}(h:((nJ (a2.map f) 0&&&(nJ (b1.map f) 0|||nJ (b2.map f) 0))|||(nJ (b2.map f) 0&&&nJ (a1.map f) 0))=0):
  ((nJ a2 0&&&(nJ b1 0|||nJ b2 0))|||(nJ b2 0&&&nJ a1 0))=0:=by
 have hb:∀n,(((nJ (a2.map f) 0&&&(nJ (b1.map f) 0|||nJ (b2.map f) 0))|||(nJ (b2.map f) 0&&&nJ (a1.map f) 0))).testBit n=false:=fun n=>by rw[h];exact Nat.zero_testBit _
 have hm:∀{p:Pl} {l:List Pl},p∈l→(nJ (l.map f) 0).testBit (Y1 (f p))=true:=fun hp=>YS.2 (List.mem_map_of_mem hp)
 have hex:∀{l:List Pl} {n:Nat},(nJ l 0).testBit n=true→∃p∈l,Y1 p=n:=fun hl=>by
  rw[SL]at hl
  exact hl.resolve_left (by simp)
 refine Nat.eq_of_testBit_eq fun n=>?_
 rw[Nat.zero_testBit];cases hn:(((nJ a2 0&&&(nJ b1 0|||nJ b2 0))|||(nJ b2 0&&&nJ a1 0))).testBit n with
 | false=>rfl
 | true=>
   exfalso;rw[Nat.testBit_or,Nat.testBit_and,Nat.testBit_and,Nat.testBit_or,Bool.or_eq_true,Bool.and_eq_true,Bool.and_eq_true,Bool.or_eq_true]at hn
   rcases hn with⟨h1,h2|h2⟩|⟨h1,h2⟩<;>obtain⟨p,hp,e1⟩:=hex h1<;>obtain⟨q,hq,e2⟩:=hex h2<;>obtain rfl:p=q:=ab9 (e1.trans e2.symm)
   ·have:=hb (Y1 (f p));rw[Nat.testBit_or,Nat.testBit_and,Nat.testBit_or,hm hp,hm hq]at this
    simp at this
   ·have:=hb (Y1 (f p));rw[Nat.testBit_or,Nat.testBit_and,Nat.testBit_or,hm hp,hm hq]at this
    simp at this
   ·have:=hb (Y1 (f p));rw[Nat.testBit_or,Nat.testBit_and,Nat.testBit_and,hm hp,hm hq]at this
    simp at this
def aaI(f:Pl→Pl)(X:List (Nat×List Pl×List Pl)):List (Nat×Nat×Nat):=X.map fun x=>(x.1,nJ (x.2.1.map f) 0,nJ (x.2.2.map f) 0)
theorem VF(f:Pl→Pl)(A:Nat)(R W:List Pl):∀X:List (Nat×List Pl×List Pl),Ti A (nJ (R.map f) 0) (nJ (W.map f) 0) (aaI f X)=true→Ti A (nJ (R.map id) 0) (nJ (W.map id) 0) (aaI id X)=true
 | [],_=>rfl
 | (i,r,w)::X,h=>by
   simp only[aaI,List.map_cons,Ti,Bool.and_eq_true,Bool.or_eq_true,beq_iff_eq]at h⊢;refine⟨h.1.imp id fun g=>?_,VF f A R W X h.2⟩;rw[List.map_id,List.map_id,List.map_id,List.map_id];exact afl f g
def He(f:Pl→Pl)(x:List Pl×List Pl):List Pl×List Pl:=(x.1.map f,x.2.map f)
theorem QX(f:Pl→Pl):∀(ops:List Oper) (L:List (List Pl×List Pl)) (j:Nat) (As:List Nat) (X:List (Nat×List Pl×List Pl)),Ku ops (L.map (He f)) j As (aaI f X)=true→Ku ops (L.map (He id)) j As (aaI id X)=true
 | [],_,_,_,_,_=>rfl
 | o::ops,L,j,As,X,h=>by
   have hd:∀g:Pl→Pl,(L.map (He g)).headD ([],[])=((L.headD ([],[])).1.map g,(L.headD ([],[])).2.map g):=fun g=>by cases L<;>rfl
   have ht:∀g:Pl→Pl,(L.map (He g)).tail=L.tail.map (He g):=fun g=>by cases L<;>rfl
   have hc:∀g:Pl→Pl,∀(A:Nat),(j,nJ ((L.headD ([],[])).1.map g) 0,nJ ((L.headD ([],[])).2.map g) 0)::aaI g X=aaI g ((j,(L.headD ([],[])).1,(L.headD ([],[])).2)::X):=fun g A=>rfl
   simp only[Ku,Vk,Bool.and_eq_true,hd,ht]at h⊢;refine⟨h.1,VF f _ _ _ _ h.2.1,?_⟩;rw[hc id 0];rw[hc f 0]at h
   exact QX f ops L.tail (j+1) _ _ h.2.2
theorem O_.ren(f:Pl→Pl){ops:Array Oper}{L:List (List Pl×List Pl)}(h:aeo ops (L.map (He f))=true):O_ ops L:=by
 have h1:=QX f ops.toList L 0 [] [] h;have e:L.map (He id)=L:=by
  conv=>rhs;rw[←List.map_id L]
  refine List.map_congr_left fun x _=>?_
  obtain⟨a,b⟩:=x;simp[He]
 rw[e]at h1
 exact⟨h1⟩
end Go.Tr

namespace Go.Proofs
open Go Go.Tr
abbrev IM:=List (Int×Int)
def gI:IM→Int→Option Int
 | [],_=>none
 | x::es,k=>if k=x.1 then some x.2 else gI es k
def pI:IM→Int→Int→IM
 | [],k,v=>[(k,v)]
 | x::es,k,v=>if k=x.1 then(k,v)::es else x::pI es k v
def rI(es:IM)(k:Int):IM:=es.filter fun x=>decide (x.1≠k)
def im(es:IM):List (List Int×TV):=es.map fun x=>([x.1],TV.d (.int .i64 x.2))
theorem uw:∀(es:IM) (k:Int),uq (im es) [k]=(gI es k).map fun v=>TV.d (.int .i64 v)
 | [],_=>rfl
 | x::es,k=>by
   have ih:=uw es k;simp only[im]at ih;by_cases h:k=x.1
   ·simp[im,uq,gI,h]
   ·simp[im,uq,gI,h,ih]
theorem Gw:∀(es:IM) (k v:Int),zu (im es) [k] (TV.d (.int .i64 v))=im (pI es k v)
 | [],_,_=>rfl
 | x::es,k,v=>by
   have ih:=Gw es k v;simp only[im]at ih;by_cases h:k=x.1
   ·simp[im,zu,pI,h]
   ·simp[im,zu,pI,h,ih]
theorem abQ(es:IM)(k:Int):aaB (im es) [k]=im (rI es k):=by
 simp only[aaB,im,rI,List.filter_map]
 congr 1
 refine List.filter_congr fun x _=>?_
 simp
def Gv(ls:List Lk)(x:Int):IM:=ls.flatMap fun l=>(if l.b=x then [(l.a,l.ca)]else [])++(if l.a=x then [(l.b,l.cb)]else [])
def BN(ls:List Lk)(x:Int):IM:=ls.flatMap fun l=>(if l.a=x then [(l.b,l.ca)]else [])++(if l.b=x then [(l.a,l.cb)]else [])
end Go.Proofs

namespace Go.Tr
open Go
@[simp]theorem ajV{po:Nat→Prop}{n b:Nat}{k:Nat→List Int}{f:Nat→Nat}{c:Nat}{pd:Option (List Int)}{s:Option mJ}:It.only po (It.jX (oh n b k f) c pd s)↔∀i,i<n→po (b+i):=by
 constructor
 ·intro h i hi;exact h _ (List.mem_map.2 ⟨i,List.mem_range.2 hi,rfl⟩)
 ·intro h x hx;obtain⟨i,hi,rfl⟩:=List.mem_map.1 hx;exact h i (List.mem_range.1 hi)
@[simp]theorem ajX{po:Nat→Prop}{c:Nat}{pd:Option (List Int)}{s:Option mJ}:It.only po (It.jX [] c pd s):=by
 intro x hx;simp at hx
theorem YH{es:List (List Int×TV)}{k:List Int}{v:TV}(h:∀x∈es,x.1≠k):zu es k v=es++[(k,v)]:=by
 induction es with
 | nil=>rfl
 | cons x es ih=>
   rw[zu,if_neg (fun e=>h x (by simp) e.symm),ih fun y hy=>h y (by simp[hy]),List.cons_append]
theorem afk{n b:Nat}{k:Nat→List Int}{f:Nat→Nat}(hk:∀i,i<n→k i≠k n)(v:TV):zu (oh n b k f) (k n) v=oh n b k f++[(k n,v)]:=by
 refine YH fun x hx=>?_
 obtain⟨i,hi,rfl⟩:=List.mem_map.1 hx;exact hk i (List.mem_range.1 hi)
theorem Zg{i b:Nat}{k:Nat→List Int}{f:Nat→Nat}{v:TV}(h:f i=0):(oh i b k f++[(k i,v)]).set i (k i,.aB (b+i) 0)=oh (i+1) b k f:=by
 rw[adh,List.set_append_right _ _ (by simp[oh]),h];simp[oh]
theorem Yw{i b:Nat}{k:Nat→List Int}{f:Nat→Nat}{v:List Int×TV}:(oh i b k f++[v])[i]? = some v:=by
 simp[oh]
theorem GS.akC{A:eX}{i c0 c1:Nat}{pd0 pd1:Option (List Int)}{s0 s1:Option mJ}{k:Nat→List Int}{l l':List (Pl×It)}(nH id1 b0 b1 e z:Nat)
  (h0:look l (.o nH) = .jX (oh i b0 k (fun _=>0)++[(k i,.c (.slice none 0 0))]) c0 pd0 s0) (h1:look l (.o id1) = .jX (oh i b1 k (fun _=>0)++[(k i,.c (.slice none 0 0))]) c1 pd1 s1)
  (o0:look l (.o (b0+i)) = .none) (o1:look l (.o (b1+i)) = .none) (n1:nH≠id1) (n2:nH≠b0+i) (n3:id1≠b0+i) (n4:nH≠b1+i) (n5:id1≠b1+i) (n6:b0+i≠b1+i)
  (h:Sub (look (iI (.o id1) (.jX (oh (i+1) b1 k fun _=>0) c1 pd1 s1) (iI (.o (b1+i)) (.row e z [] false) (iI (.o nH) (.jX (oh (i+1) b0 k fun _=>0) c0 pd0 s0) (iI (.o (b0+i)) (.row e z [] false) l))))) l'∧
   jP l'=jP (iI (.o id1) (.jX (oh (i+1) b1 k fun _=>0) c1 pd1 s1) (iI (.o (b1+i)) (.row e z [] false) (iI (.o nH) (.jX (oh (i+1) b0 k fun _=>0) c0 pd0 s0) (iI (.o (b0+i)) (.row e z [] false) l))))):GS A (look l) (look l'):=by
 have a1:=GS.ak5 (A:=A) (t:=look l) (id:=b0+i) e z h0 Yw o0;rw[Zg rfl,eU,eU]at a1
 refine a1.trans ?_;have a2:=GS.ak5 (A:=A) (t:=look (iI (.o nH) (.jX (oh (i+1) b0 k fun _=>0) c0 pd0 s0) (iI (.o (b0+i)) (.row e z [] false) l))) (nH:=id1) (id:=b1+i) (es:=oh i b1 k (fun _=>0)++[(k i,.c (.slice none 0 0))]) (i:=i) (k:=k i) (c:=c1) (pd:=pd1) (s:=s1) e z
  (by rw[←eU,←eU];simp only[upd,Pl.o.injEq,if_neg n1.symm,if_neg n3];exact h1) Yw (by rw[←eU,←eU];simp only[upd,Pl.o.injEq,if_neg n4.symm,if_neg n6.symm];exact o1)
 rw[Zg rfl,eU,eU]at a2
 exact a2.trans (GS.forget h.1 h.2)
theorem SI{n b:Nat}{k:Nat→List Int}{f f':Nat→Nat}(h:∀i,i<n→f i=f' i):oh n b k f=oh n b k f':=by
 unfold oh;exact List.map_congr_left fun i hi=>by rw[h i (List.mem_range.1 hi)]
theorem Sub.aeB{t:S}{b c n m:Nat}{f f':Nat→It}{l:List (Pl×It)}(hbc:b+n≤c)(h1:∀j,j<n→t (.o (b+j))=f j)(h2:∀j,j<m→t (.o (c+j))=f' j)
  (h3:∀x∈l,look (Tr.Bf b n f (Tr.Bf c m f' l)) x.1=t x.1) (h4:∀j,j<n→(f j).only (· ∈jy (Tr.Bf b n f (Tr.Bf c m f' l)))) (h5:∀j,j<m→(f' j).only (· ∈jy (Tr.Bf b n f (Tr.Bf c m f' l))))
  (h6:∀x∈l,x.2.only (· ∈jy (Tr.Bf b n f (Tr.Bf c m f' l)))):Sub t (Tr.Bf b n f (Tr.Bf c m f' l)):=by
 refine Sub.Bf (fun j hj=>(h1 j hj).symm) (EH.2 ⟨fun j hj=>?_,h3⟩) h4 (EH.2 ⟨h5,h6⟩);rw[PD (by omega),Iz hj,h2 j hj]
theorem GS.ag7{A:eX}{t:S}{l':List (Pl×It)}(h:Sub t l')(hx:∀i,look l' (.x i)=t (.x i)):GS A t (look l'):=fun _ _ ⟨E,hw,hi⟩=>
 ⟨E.res (jy l'),hw,hi.forget h hx⟩
def It.shd:It→It
 | .row e z rs _=>.row e z rs true
 | x=>x
def Dv(t:S)(nH b n m:Nat)(k:Nat→List Int)(xs:Nat→List (List D))(c:Nat)(pd:Option (List Int))(s:Option mJ):S:=fun p=>
 if p = .o nH then .jX ((List.range n).map fun i=>(k i,if i<m then TV.d (.sl (xs i))else TV.aB (b+i) (xs i).length)) c pd s
 else match p with
 | .o q=>if b≤q∧q<b+m then(t p).shd else t p
 | p=>t p
theorem adG{t:S}{nH b n c:Nat}{k:Nat→List Int}{xs:Nat→List (List D)}{pd:Option (List Int)}{s:Option mJ}(h0:t (.o nH) = .jX (oh n b k fun j=>(xs j).length) c pd s):Dv t nH b n 0 k xs c pd s=t:=by
 funext p
 unfold Dv;by_cases e:p = .o nH
 ·subst e;rw[if_pos rfl,h0];simp[oh]
 ·rw[if_neg e];split
  ·rw[if_neg (by omega)]
  ·rfl
theorem GS.ahC{A:eX}{t:S}{nH b n m c e z:Nat}{k:Nat→List Int}{xs:Nat→List (List D)}{pd:Option (List Int)}{s:Option mJ}(hm:m<n)(hr:t (.o (b+m)) = .row e z (dd (xs m)) false)(hb:nH<b):
  GS A (Dv t nH b n m k xs c pd s) (Dv t nH b n (m+1) k xs c pd s):=by
 have h0:Dv t nH b n m k xs c pd s (.o nH) = .jX ((List.range n).map fun i=>(k i,if i<m then TV.d (.sl (xs i))else TV.aB (b+i) (xs i).length)) c pd s:=by
  unfold Dv;rw[if_pos rfl]
 have hi:((List.range n).map fun i=>(k i,if i<m then TV.d (.sl (xs i))else TV.aB (b+i) (xs i).length))[m]? = some (k m,.aB (b+m) (xs m).length):=by
  rw[List.getElem?_map,List.getElem?_range hm];simp
 have ht:Dv t nH b n m k xs c pd s (.o (b+m)) = .row e z (dd (xs m)) false:=by
  unfold Dv;rw[if_neg (by simp;omega)];simp[hr]
 have g:=GS.ape (A:=A) (xs:=xs m) h0 hi ht (by simp[dd]) (Jg _);refine(show upd (upd (Dv t nH b n m k xs c pd s) (.o (b+m)) (.row e z (dd (xs m)) true)) (.o nH) (.jX (((List.range n).map fun i=>(k i,if i<m then TV.d (.sl (xs i))else TV.aB (b+i) (xs i).length)).set m (k m,.d (.sl (xs m)))) c pd s)=Dv t nH b n (m+1) k xs c pd s from ?_)▸g
 funext p
 by_cases e0:p = .o nH
 ·subst e0;simp only[upd,if_true];unfold Dv;rw[if_pos rfl]
  congr 1
  refine List.ext_getElem? fun i=>?_
  rw[List.getElem?_set,List.getElem?_map,List.getElem?_map,List.length_map,List.length_range];by_cases hin:i<n
  ·rw[List.getElem?_range hin];by_cases him:m=i
   ·subst him;simp[hin]
   ·simp only[if_neg him,Option.map_some];by_cases h1:i<m
    ·simp[h1,show i<m+1 by omega]
    ·simp[h1,show ¬i<m+1 by omega]
  ·have:(List.range n)[i]? = none:=by simp;omega
   rw[this,if_neg (by omega)];rfl
 ·simp only[upd,if_neg e0];by_cases e1:p = .o (b+m)
  ·subst e1;rw[if_pos rfl];unfold Dv;rw[if_neg e0];simp only;rw[if_pos (by omega),hr];rfl
  ·rw[if_neg e1];unfold Dv;rw[if_neg e0,if_neg e0];cases p with
   | o q=>
     simp only;by_cases h1:b≤q∧q<b+m
     ·rw[if_pos h1,if_pos (by omega)]
     ·rw[if_neg h1,if_neg (by intro h;exact e1 (by rw[show q=b+m by omega]))]
   | s q=>rfl
   | x q=>rfl
theorem GS.afY{A:eX}{t:S}{nH b n c e z:Nat}{k:Nat→List Int}{xs:Nat→List (List D)}{pd:Option (List Int)}{s:Option mJ}(h0:t (.o nH) = .jX (oh n b k fun j=>(xs j).length) c pd s)(hr:∀i,i<n→t (.o (b+i)) = .row e z (dd (xs i)) false)(hb:nH<b):
  GS A t (Dv t nH b n n k xs c pd s):=by
 have h:∀m,m≤n→GS A t (Dv t nH b n m k xs c pd s):=by
  intro m
  induction m with
  | zero=>intro _;rw[adG h0];exact GS.refl _
  | succ m ih=>intro hm;exact(ih (by omega)).trans (GS.ahC (by omega) (hr m (by omega)) hb)
 exact h n (Nat.le_refl _)
theorem Zc{t:S}{nH b n c:Nat}{k:Nat→List Int}{xs:Nat→List (List D)}{pd:Option (List Int)}{s:Option mJ}:Dv t nH b n n k xs c pd s (.o nH) = .jX ((List.range n).map fun i=>(k i,.d (.sl (xs i)))) c pd s:=by
 unfold Dv;rw[if_pos rfl]
 congr 1
 exact List.map_congr_left fun i hi=>by rw[if_pos (List.mem_range.1 hi)]
theorem Ja{t:S}{nH b n c:Nat}{k:Nat→List Int}{xs:Nat→List (List D)}{pd:Option (List Int)}{s:Option mJ}{q:Nat}(h1:q≠nH)(h2:q<b∨b+n≤q):Dv t nH b n n k xs c pd s (.o q)=t (.o q):=by
 unfold Dv;rw[if_neg (by simp[h1])];simp only;rw[if_neg (by omega)]
theorem afZ{t:S}{nH b n c:Nat}{k:Nat→List Int}{xs:Nat→List (List D)}{pd:Option (List Int)}{s:Option mJ}{q:Nat}:Dv t nH b n n k xs c pd s (.s q)=t (.s q):=by
 unfold Dv;rw[if_neg (by simp)]
theorem af0{t:S}{nH b n c:Nat}{k:Nat→List Int}{xs:Nat→List (List D)}{pd:Option (List Int)}{s:Option mJ}{q:Nat}:Dv t nH b n n k xs c pd s (.x q)=t (.x q):=by
 unfold Dv;rw[if_neg (by simp)]
@[simp]theorem ajW{po:Nat→Prop}{m:Nat}{s:mJ}{left:List (List Int)}{cur:Option (List Int)}:It.only po (It.DK m s left cur):=trivial
@[simp]theorem ak2{α:Type}{po:Nat→Prop}{k:α→List Int}{v:α→D}{l:List α}{c:Nat}{pd:Option (List Int)}{s:Option mJ}:It.only po (It.jX (l.map fun i=>(k i,TV.d (v i))) c pd s):=by
 intro x hx;obtain⟨i,_,rfl⟩:=List.mem_map.1 hx;exact trivial
def JQ(zs:List (List Int)):List (List D):=zs.map fun z=>z.map (.int .i64)
@[simp]theorem akP(zs:List (List Int)):(JQ zs).length=zs.length:=by simp[JQ]
@[simp]theorem Qg(zs:List (List Int)):(dd (JQ zs)).length=zs.length:=by simp[dd]
def flat(zs:List (List Int)):List Value:=zs.flatMap fun z=>z.map (.int .i64)
theorem EN(z:List Int)(zs:List (List Int)):flat (z::zs)=z.map (.int .i64)++flat zs:=rfl
theorem L6{k:Nat}:∀{zs:List (List Int)},(∀z∈zs,z.length=k)→(flat zs).length=zs.length*k
 | [],_=>by simp[flat]
 | z::zs,h=>by
   have h1:=h z (by simp);have h2:=L6 (zs:=zs) fun y hy=>h y (by simp[hy])
   rw[EN,List.length_append,List.length_map,h1,h2,List.length_cons,Nat.add_mul];omega
theorem JW{E:En}{us:List Value}:∀{z:List Int} {o:Nat},(∀j n,z[j]? = some n→us[o+j]? = some (.int .i64 n))→bG E us o ((z.map (D.int .i64)).map .d)
 | [],_,_=>trivial
 | n::z,o,h=>⟨⟨.int .i64 n,by simpa using h 0 n rfl,rfl,by simp[aA,Rep]⟩,JW fun j m hj=>by
   have:=h (j+1) m hj
   rwa [show o+(j+1)=o+1+j by omega]at this⟩
theorem PV{E:En}{k:Nat}{us:List Value}:∀{zs:List (List Int)} {o:Nat},(∀z∈zs,z.length=k)→(∀i v,(flat zs)[i]? = some v→us[o+i]? = some v)→dK E us k o (dd (JQ zs))
 | [],_,_,_=>trivial
 | z::zs,o,hl,h=>by
   have h1:=hl z (by simp);refine⟨by simp[h1],JW fun j n hj=>?_,PV (fun y hy=>hl y (by simp[hy])) fun i v hv=>?_⟩
   ·refine h j _ ?_;rw[EN,List.getElem?_append_left (by rw[List.length_map];exact(List.getElem?_eq_some_iff.1 hj).1)];simp[hj]
   ·have:=h (k+i) v (by rw[EN,List.getElem?_append_right (by simp;omega)];simpa[h1]using hv)
    rwa [show o+(k+i)=o+k+i by omega]at this
theorem J3{E:En}{us:List Value}:∀{z:List Int} {o:Nat},bG E us o ((z.map (D.int .i64)).map .d)→∀j n,z[j]? = some n→us[o+j]? = some (.int .i64 n)
 | n::z,o,⟨⟨u,h1,_,h3⟩,h4⟩,j,m,hj=>by
   cases j with
   | zero=>
     simp at hj;subst hj;simp only[aA,Rep]at h3;subst h3;simpa using h1
   | succ j=>
     have:=J3 h4 j m (by simpa using hj)
     rwa [show o+1+j=o+(j+1) by omega]at this
theorem Po{E:En}{k:Nat}{us:List Value}:∀{zs:List (List Int)} {o:Nat},dK E us k o (dd (JQ zs))→(∀z∈zs,z.length=k)∧∀i v,(flat zs)[i]? = some v→us[o+i]? = some v
 | [],_,_=>⟨by simp,by simp[flat]⟩
 | z::zs,o,h=>by
   obtain⟨h1,h2,h3⟩:((z.map (D.int .i64)).map TV.d).length=k∧bG E us o ((z.map (D.int .i64)).map .d)∧dK E us k (o+k) (dd (JQ zs)):=h;rw[List.length_map,List.length_map]at h1
   obtain⟨h4,h5⟩:=Po h3;refine⟨fun y hy=>by rcases List.mem_cons.1 hy with rfl|hy;exact h1;exact h4 y hy,fun i v hv=>?_⟩;rw[EN]at hv
   by_cases hi:i<z.length
   ·rw[List.getElem?_append_left (by simpa using hi),List.getElem?_map]at hv
    rw[List.getElem?_eq_getElem hi]at hv
    simp at hv;subst hv;exact J3 h2 i _ (List.getElem?_eq_getElem hi)
   ·rw[List.getElem?_append_right (by simp;omega)]at hv
    rw[List.length_map,h1]at hv
    have:=h5 (i-k) v hv
    rwa [show o+k+(i-k)=o+i by omega]at this
structure U3(P:Program)(f g:FuncId)(k:Nat)(pre:List (List Int)→Prop)(F:List (List Int)→List (List Int)):Prop where
 len:∀zs,(F zs).length=zs.length
 row:∀zs,(∀z∈zs,z.length=k)→∀z∈F zs,z.length=k
 run:∀(w:World) (b cap:Nat) (zs:List (List Int)) (cur:Array Value) (e:TypeId),w.heap[b]? = some (.cells cur e (0,0))→zs.length≤cap→cap≤maxLen→cur.size=cap*k→cur.toList.take (zs.length*k)=flat zs→(∀z∈zs,z.length=k)→pre zs→0<zs.length→zs.length<4611686018427387904→
  Calls P f #[.slice (some ⟨b,0,none⟩) zs.length cap,.func (.func g) #[] #[]] w fun e' w'=>e' = .returned (.tuple #[])∧w.grownBy w' (some b)∧
   ∃cur',w'.heap[b]? = some (.cells cur' e (0,0))∧cur'.size=cap*k∧cur'.toList.take (zs.length*k)=flat (F zs)
 none:∀p cap w,Calls P f #[.slice p 0 cap,.func (.func g) #[] #[]] w fun e' w'=>e' = .returned (.tuple #[])∧w'=w
section
variable {P:Program} {A:eX} {ops:Array Oper}
theorem Sum.af2{t:S}{i:Nat}{o:Oper}{gp:List Pl}{fo x y:Operand}{tys:Array TypeId}{f g:FuncId}{pre:List (List Int)→Prop}{F:List (List Int)→List (List Int)}{id n k:Nat}{e:TypeId}{zs:List (List Int)}
  (ho:ops[i]? = some o) (hg:gv ops t o=some (gp,true)) (hd:pz A.N o=true) (hop:o.op = .call {callee:=.value fo,args:=#[x,y],argTypes:=tys}) (hf:ev t fo = .clo f []) (hfn:aZ P f=true)
  (C:U3 P f g k pre F) (hpre:pre zs) (hx:ev t x = .aB id n) (hy:ev t y = .clo g []) (ht:t (.o id) = .row e k (dd (JQ zs)) false) (hn:n=zs.length) (hsz:zs.length<4611686018427387904) :
  Sum P A ops i t (gp++(pl fo++(pl x++(pl y++[.o id])))) (xA o (.rG []) [(.o id,.row e k (dd (JQ (F zs))) false)]):=fun t' hr a w ⟨E,hw,hi⟩ K Q hK=>by
 subst hw;have hwant:=mD hg (aW hr) hi;have hr1:=aI hr;have hr2:=aI hr1;have hr3:=aI hr2;have hfo:ev t' fo = .clo f []:=(dB (aW hr1)).trans hf;have hx':ev t' x = .aB id n:=(dB (aW hr2)).trans hx;have hy':ev t' y = .clo g []:=(dB (aW hr3)).trans hy;have ht':t' (.o id) = .row e k (dd (JQ zs)) false:=(aI hr3 _ (by simp)).trans ht
 have hfr:=bM hi fo;rw[hfo]at hfr
 simp only[aA,aP]at hfr;obtain⟨sZ,Gu,yT⟩:=hfr;obtain rfl:sZ = #[]:=by cases sZ;simpa using yT
 have lW:=bM hi y;rw[hy']at lW
 simp only[aA,aP]at lW;obtain⟨alh,huy,akN⟩:=lW;obtain rfl:alh = #[]:=by cases alh;simpa using akN
 have hxr:=bM hi x;rw[hx']at hxr
 obtain⟨hblk,v,us,hval,hown,hrel,hcur⟩:=Ec hi ht';have hnl:(dd (JQ zs)).length=zs.length:=Qg zs;rw[hn,←hnl]at hxr
 have hxv:=hcur _ hxr;rw[hnl]at hval hown
 unfold wpOp;simp only[ho,hwant,if_true];refine .inl ?_;unfold Oper.wp;have hrun:(execOp a.eval o).run P E.w = .ok (.enter f #[v,.func (.func g) #[] #[]]) E.w:=by
  simp only[execOp,hop,resolve,Gu,Deferred.ofValue,invoke,Sem.run_bind,Sem.run_pure,Result.andThen_ok,List.map_toArray,Array.empty_append,jv hfn,hxv,huy,Array.map,Array.append_empty];simp[hxv,huy,jv hfn]
 rw[hrun];simp only[Oper.upon];obtain⟨hlz,hnum⟩:=Po hrel;simp only[Nat.zero_add]at hnum;have lq:E.own (.o id)=v.ownBlock:=by simp[En.own,hblk,hval]
 have ao4:∀(b:Nat),E.own (.o id)=some b→∀o',¬E.St b o':=fun b hb o' hs=>by
  obtain⟨e2,k2,es2,h1,_⟩:=hi.h.sep b o' hs _ hb;rw[ht']at h1
  simp at h1
 have fin:∀(w':World) (us':List Value),E.w.grownBy w' v.ownBlock→w'.ownsRow 0 e k v zs.length us'→(∀(i:Nat) (u:Value),(flat (F zs))[i]? = some u→us'[i]? = some u)→K (a.put o.dst (.tuple #[])) w':=fun w' us' hgr hown' hcells=>by
  obtain⟨E',hw',x1,hi',hval'⟩:=hi.Xt ht' (es':=dd (JQ (F zs))) (sh':=false) (us':=us') (v':=v) (w':=w') (by rw[hnl];exact hval) hgr
   (by rw[Qg,C.len];exact hown') (by rw[Qg,Qg,C.len];exact Nat.le_refl _) (fun _=>rfl) (.inl rfl)
   (fun b o' hst=>by
    by_cases hb:v.ownBlock=some b
    ·exact absurd hst (ao4 b (by rw[lq,hb]) o')
    ·exact fC (hgr.block b (hi.h.oQ b o' hst) (fun e=>hb e.symm)))
   (fun h=>by simp at h) (fun E' hw' x=>PV (C.row zs hlz) (by simpa using hcells))
  refine hK _ _ ⟨E',hw',?_⟩;exact dL.dst (W:=[(.o id,.row e k (dd (JQ (F zs))) false)]) hi' hd (by simp only[aA];exact⟨#[],rfl,by simp[aP]⟩)
 have hsame:zs.length=0→∀(i:Nat) (u:Value),(flat (F zs))[i]? = some u→us[i]? = some u:=fun h0 i u hu=>by
  have:=C.len zs;rw[h0]at this
  rw[List.length_eq_zero_iff.1 this]at hu
  simp[flat]at hu
 rcases hown.2 with⟨hv,h0⟩|⟨b,cap,cur,hv,hb0,hgg,hnc,hcm,hcs,htake⟩
 ·subst hv;refine(C.none none 0 E.w).mono fun e' w' ⟨he,hw'⟩=>?_
  subst he hw';exact fin E.w us ⟨rfl,rfl,rfl,Nat.le_refl _,fun _ _ _=>rfl⟩ hown (hsame h0)
 ·by_cases h0:zs.length=0
  ·subst hv;have:=hsame h0;rw[h0];refine(C.none _ cap E.w).mono fun e' w' ⟨he,hw'⟩=>?_
   subst he hw';rw[h0]at fin hown
   exact fin E.w us ⟨rfl,rfl,rfl,Nat.le_refl _,fun _ _ _=>rfl⟩ hown this
  ·subst hv;have ao5:us=flat zs:=by
    apply List.ext_getElem?;intro i;by_cases hi2:i<(flat zs).length
    ·rw[hnum i _ (List.getElem?_eq_getElem hi2),List.getElem?_eq_getElem hi2]
    ·have h1:=hown.1;rw[←L6 hlz]at h1
     rw[List.getElem?_eq_none (by omega),List.getElem?_eq_none (by omega)]
   rw[ao5]at htake
   refine(C.run E.w b cap zs cur e hgg hnc hcm hcs htake hlz hpre (by omega) hsz).mono fun e' w' ⟨he,hgr,cur',h1,h2,h3⟩=>?_
   subst he;exact fin w' (flat (F zs)) hgr ⟨by rw[L6 (C.row zs hlz),C.len],.inr ⟨b,cap,cur',rfl,hb0,h1,hnc,hcm,h2,h3⟩⟩ fun i u hu=>hu
def aa7(P:Program)(N:Nat)(t:S)(o:Oper)(f g:FuncId)(k:Nat)(pre:List (List Int)→Prop)(F:List (List Int)→List (List Int))(zs:List (List Int))(gp:List Pl)(gd:Bool)(fo x y:Operand):Option (Prop×List Pl×List (Pl×It)):=
 match ev t x with
 | .aB id n=>match ev t fo with
   | .clo f' caps=>match ev t y with
     | .clo g' ah0=>match t (.o id)with
       | .row e z es sh=>some (gd=true∧pz N o=true∧f'=f∧caps = []∧g'=g∧ah0 = []∧aZ P f=true∧z=k∧sh=false∧es=dd (JQ zs)∧n=zs.length∧zs.length<4611686018427387904∧pre zs,gp++(pl fo++(pl x++(pl y++[.o id]))),xA o (.rG []) [(.o id,.row e z (dd (JQ (F zs))) false)])
       | _=>none
     | _=>none
   | _=>none
 | _=>none
def aa6(P:Program)(N:Nat)(t:S)(ops:Array Oper)(f g:FuncId)(k:Nat)(pre:List (List Int)→Prop)(F:List (List Int)→List (List Int))(zs:List (List Int)):Option Oper→Option (Prop×List Pl×List (Pl×It))
 | some o=>match gv ops t o with
   | some (gp,gd)=>match o.op with
     | .call {callee:=.value fo,args:=xs,argTypes:=_}=>match xs.toList with
       | [x,y]=>aa7 P N t o f g k pre F zs gp gd fo x y
       | _=>none
     | _=>none
   | none=>none
 | none=>none
theorem ah.af2{i:Nat}{t:S}{kk:List Pl→List (Pl×It)→Prop}{gt:Tg kk}{f g:FuncId}{k:Nat}{pre:List (List Int)→Prop}{F:List (List Int)→List (List Int)}(C:U3 P f g k pre F)(zs:List (List Int))
  (h:Us kk gt (aa6 P A.N t ops f g k pre F zs ops[i]?)):ah P A ops i t kk gt:=by
 unfold Us at h;split at h
 ·rename_i D rp W hc;obtain⟨h1,h2⟩:=h;refine⟨rp,W,?_,h2⟩;unfold aa6 at hc;split at hc
  ·rename_i o ho;split at hc
   ·rename_i gp g0 hg;split at hc
    ·rename_i fo xs tys hop;split at hc
     ·rename_i x y hxs;obtain rfl:xs = #[x,y]:=by cases xs;simpa using hxs
      unfold aa7 at hc;split at hc
      ·rename_i id n hx;split at hc
       ·rename_i f' caps hf;split at hc
        ·rename_i g' ah0 hy;split at hc
         ·rename_i e z es sh ht;simp only[Option.some.injEq,Prod.mk.injEq]at hc;obtain⟨rfl,rfl,rfl⟩:=hc;obtain⟨rfl,q1,rfl,rfl,rfl,rfl,q2,rfl,rfl,rfl,q3,q4,q5⟩:=h1;exact Sum.af2 ho hg q1 hop hf q2 C q5 hx hy ht q3 q4
         ·simp at hc
        ·simp at hc
       ·simp at hc
      ·simp at hc
     ·simp at hc
    ·simp at hc
   ·simp at hc
  ·simp at hc
 ·exact h.elim
attribute [simp] aa6 aa7
end
end Go.Tr

set_option linter.unusedSectionVars false
namespace Go.Tr
open Go Go.Proofs Go.Shelf Go.Sort Go.Lib
abbrev KL(zs:List (List Int)):={l:List Int // l∈zs}
def xB(zs:List (List Int))(x:KL zs):List Value:=x.1.map (Value.int .i64)
section
variable {zs:List (List Int)} [Inhabited (KL zs)] {k:Nat}
theorem Ve(hz:∀z∈zs,z.length=k)(x:KL zs):(xB zs x).length=k:=by simp[xB,hz x.1 x.2]
theorem Vh(hz:∀z∈zs,z.length=k)(hk:0<k):∀{ys:List (KL zs)} {t:Nat},t<ys.length*k→(flat (ys.map (·.1)))[t]? = some ((xB zs ys[t/k]!)[t%k]!)
 | [],t,h=>by simp at h
 | z::ys,t,h=>by
   have hz2:=hz z.1 z.2;rw[List.map_cons,EN];by_cases ht:t<k
   ·rw[List.getElem?_append_left (by simp[hz2];exact ht),Nat.div_eq_of_lt ht,Nat.mod_eq_of_lt ht];have:t<(z.1.map (Value.int .i64)).length:=by simp[hz2];exact ht
    rw[List.getElem?_eq_getElem this]
    show _=some ((xB zs z)[t]!)
    rw[getElem!_pos (xB zs z) t (by rw[Ve hz];exact ht)];rfl
   ·obtain⟨s,rfl⟩:∃s,t=s+k:=⟨t-k,by omega⟩
    rw[List.getElem?_append_right (by simp[hz2])];rw[List.length_map,hz2,Nat.add_sub_cancel];have h2:s<ys.length*k:=by rw[List.length_cons,Nat.add_mul]at h;omega
    rw[Vh hz hk h2,Nat.add_div_right _ hk,Nat.add_mod_right];rfl
theorem Yl(hz:∀z∈zs,z.length=k)(hk:0<k)(ys:List (KL zs)):(flatK (xB zs) k ys.toArray).toList=flat (ys.map (·.1)):=by
 apply List.ext_getElem?;intro t;have hl:(flat (ys.map (·.1))).length=ys.length*k:=by
  rw[L6 (k:=k) fun z hz'=>by obtain⟨y,_,rfl⟩:=List.mem_map.1 hz';exact hz y.1 y.2];simp
 by_cases ht:t<ys.length*k
 ·rw[Vh hz hk ht];have h2:t<(flatK (xB zs) k ys.toArray).size:=by simpa using ht
  have:=get_flatK (xB zs) k ys.toArray t (by simpa using ht);rw[getElem!_pos _ t h2]at this
  rw[Array.getElem?_toList,Array.getElem?_eq_getElem h2,this];simp
 ·rw[List.getElem?_eq_none (by simpa using ht),List.getElem?_eq_none (by omega)]
theorem aap(hz:∀z∈zs,z.length=k)(hk:0<k){w:World}{b:Nat}{ys:List (KL zs)}{cur:Array Value}{e:TypeId}(h1:w.heap[b]? = some (.cells cur e (0,0)))(h2:cur.toList.take (ys.length*k)=flat (ys.map (·.1))):HoldsK (xB zs) k w b 0 ys.toArray:=fun j hj=>by
 have hj':j<ys.length*k:=by simpa using hj
 have h3:cur[j]? = some ((flatK (xB zs) k ys.toArray)[j]!):=by
  have h4:(cur.toList.take (ys.length*k))[j]? = some ((flatK (xB zs) k ys.toArray)[j]!):=by
   rw[h2,←Yl hz hk ys,Array.getElem?_toList,Array.getElem?_eq_getElem hj,getElem!_pos _ j hj]
  rw[List.getElem?_take,if_pos hj']at h4
  simpa using h4
 constructor
 ·simp[World.cell?,h1,h3]
 ·simp[World.frozen?,h1]
theorem afS(hz:∀z∈zs,z.length=k)(hk:0<k){w:World}{b:Nat}{ys:List (KL zs)}{cur:Array Value}{e:TypeId}(n:Nat)(os:Array Obj)(h1:w.heap[b]? = some (.cells cur e (0,0)))(hc:ys.length*k≤cur.size):
  w.grownBy (sortWorldK (xB zs) k w b 0 n ys.toArray os) (some b)∧
   ∃cur',(sortWorldK (xB zs) k w b 0 n ys.toArray os).heap[b]? = some (.cells cur' e (0,0))∧cur'.size=cur.size∧cur'.toList.take (ys.length*k)=flat (ys.map (·.1)):=by
 have hg:b<w.heap.size:=(Array.getElem?_eq_some_iff.1 h1).1;have hsz:(putRowK (xB zs) k (Sort.ahead w n) b 0 ys.toArray).heap.size=w.heap.size:=by simp[Sort.ahead,putRowK]
 unfold sortWorldK;refine⟨⟨rfl,rfl,rfl,by rw[size_grow,hsz];omega,fun j hj hne=>?_⟩,putCells id 0 (flatK (xB zs) k ys.toArray) cur,?_,by simp[putCells],?_⟩
 ·rw[heap_grow_old _ _ (by rw[hsz];exact hj)];have :¬b=j:=fun e=>hne (by rw[e])
  simp[putRowK,putRow,mapBlock,Sort.ahead,Array.getElem?_modify,this]
 ·rw[heap_grow_old _ _ (by rw[hsz];exact hg)];simp[putRowK,putRow,mapBlock,Sort.ahead,Array.getElem?_modify,h1,onCells]
 ·rw[←Yl hz hk ys];apply List.ext_getElem?;intro i;rw[List.getElem?_take];by_cases hi:i<ys.length*k
  ·rw[if_pos hi];have hi3:i<cur.size:=by omega
   have hi4:i<(flatK (xB zs) k ys.toArray).size:=by simpa using hi
   simp only[putCells,Array.getElem?_toList,Array.getElem?_mapIdx];rw[Array.getElem?_eq_getElem hi3,Array.getElem?_eq_getElem hi4];simp[hi4,hi]
  ·rw[if_neg hi,List.getElem?_eq_none (by simpa using hi)]
end
theorem akU{zs:List (List Int)}:∀(xs:List (List Int)),(∀z∈xs,z∈zs)→∃ys:List (KL zs),ys.map (·.1)=xs
 | [],_=>⟨[],rfl⟩
 | z::xs,h=>by
   obtain⟨ys,hy⟩:=akU xs fun y hy=>h y (by simp[hy])
   exact⟨⟨z,h z (by simp)⟩::ys,by simp[hy]⟩
structure ZA(cf:List Int→List Int→Int)(zs:List (List Int)):Prop where
 irr:∀x∈zs,¬cf x x<0
 tr:∀x∈zs,∀y∈zs,∀z∈zs,cf x y<0→cf y z<0→cf x z<0
 ntr:∀x∈zs,∀y∈zs,∀z∈zs,¬cf x y<0→¬cf y z<0→¬cf x z<0
 one:∀x∈zs,∀y∈zs,¬cf x y<0→¬cf y x<0→x=y
theorem U3.of{P:Program}{ρ:Ren}(L:SlLaysF0.n6 P ρ){k:Nat}(hk:0<k)(aE:∀w,(isAgg (ρ.t 24)).run P w = .ok true w)(zE:∀w,(Go.sizeOf (ρ.t 24)).run P w = .ok k w)(cf:List Int→List Int→Int)(g:Nat)
  (eg:∀args w,(callFunc g args).run P w = .ok (.enter g args) w)
  (hcmp:∀(x y:List Int) (W:World),x.length=k→y.length=k→Calls P g #[.agg (x.map (Value.int .i64)).toArray,.agg (y.map (Value.int .i64)).toArray] W fun e w'=>e = .returned (.int .i64 (cf x y))∧∃q os',w'=grow (W.drewN q) os') :
  U3 P (ρ.f 6) g k (ZA cf) (fun zs=>zs.mergeSort fun x y=>!decide (cf y x<0)):=by
 refine⟨fun zs=>List.length_mergeSort _,fun zs h z hz=>h z (List.mem_mergeSort.1 hz),fun w b cap zs cur e h1 h2 h3 h4 h5 h6 hp h7 h8=>?_,fun p cap w=>AnyF.slices_SortFunc_none L p cap _ w⟩;obtain⟨ys,hys⟩:=akU (zs:=zs) zs fun _ h=>h
 have hl:ys.length=zs.length:=by
  have:=congrArg List.length hys;simpa using this
 have inh:Inhabited (KL zs):=⟨⟨zs[0],List.getElem_mem h7⟩⟩
 have hO:SWO (ltOf fun x y:KL zs=>cf x.1 y.1):=
  ⟨fun x=>by have:=hp.irr x.1 x.2;simpa[ltOf]using this,fun x y z h1 h2=>by
   have:=hp.tr x.1 x.2 y.1 y.2 z.1 z.2;simp only[ltOf,decide_eq_true_eq]at h1 h2⊢;exact this h1 h2,fun x y z h1 h2=>by
   have:=hp.ntr x.1 x.2 y.1 y.2 z.1 z.2;simp only[ltOf,decide_eq_false_iff_not]at h1 h2⊢;exact this h1 h2⟩
 have hT:∀x y:KL zs,(ltOf fun x y:KL zs=>cf x.1 y.1) x y=false→(ltOf fun x y:KL zs=>cf x.1 y.1) y x=false→x=y:=fun x y h1 h2=>by
  simp only[ltOf,decide_eq_false_iff_not]at h1 h2;exact Subtype.ext (hp.one x.1 x.2 y.1 y.2 h1 h2)
 rw[←hl]at h2 h5 h7 h8⊢
 have h5':cur.toList.take (ys.length*k)=flat (ys.map (·.1)):=by rw[h5,hys]
 have hcl:CmpLays P g #[] (xB zs) k (fun x y=>cf x.1 y.1) b 0 ys.toArray.size w:=fun m os dk _ x y=>by
  have:=hcmp x.1 y.1 (sortWorldK (xB zs) k w b 0 m dk os) (h6 _ x.2) (h6 _ y.2);simpa[xB]using this
 have hs:=AnyQ.slices_SortFunc_total L k aE zE (xB zs) (Ve h6) (fun x v hv=>by simp only[xB,List.mem_map]at hv;obtain⟨n,_,rfl⟩:=hv;rfl) (fun x y=>cf x.1 y.1) hO g #[] b 0 cap ys.toArray w eg hcl (aap h6 hk h1 h5') (Array.getElem?_eq_some_iff.1 h1).1 (by simpa using h8) hT;rw[show ys.toArray.size=ys.length from rfl]at hs
 refine hs.mono fun e' w' ⟨he,n,os,hw⟩=>?_
 subst hw;have hm:((ys.toArray.toList.mergeSort fun x y=>!(ltOf fun x y:KL zs=>cf x.1 y.1) y x).map (·.1))=zs.mergeSort fun x y=>!decide (cf y x<0):=by
  have:=List.map_mergeSort (f:=fun x:KL zs=>x.1) (l:=ys) (r:=fun x y=>!(ltOf fun x y:KL zs=>cf x.1 y.1) y x) (s:=fun x y=>!decide (cf y x<0)) fun a _ b _=>rfl
  rw[hys]at this
  exact this
 have hml:(ys.toArray.toList.mergeSort fun x y=>!(ltOf fun x y:KL zs=>cf x.1 y.1) y x).length=ys.length:=List.length_mergeSort _;obtain⟨k1,cur',k2,k3,k4⟩:=afS h6 hk (ys:=ys.toArray.toList.mergeSort fun x y=>!(ltOf fun x y:KL zs=>cf x.1 y.1) y x) n os h1 (by rw[hml,h4];exact Nat.mul_le_mul_right k h2);rw[hml,hm]at k4
 exact⟨he,k1,cur',k2,by omega,k4⟩
end Go.Tr
