/-
  What functions of the program compute, stated as contracts over plain data; the conditions of each stand in its own statement.
-/
import Derived.Test.YtboimfkommpglaaGreatDoorZA11
import Derived.Lib.SlicesCompact
import Derived.Test.YtboimfkommpglaaGreatDoorZA10
set_option linter.unusedSimpArgs false
set_option linter.unusedVariables false
namespace Go.Tr
open Go
section
variable {A:eX}
theorem dL.KZ{t:S}{a:Act}{E:En}{id e k:Nat}{es es':List (List TV)}{sh:Bool}(hi:dL A t a E)(ht:t (.o id) = .row e k es sh)(hl:es'.length=es.length)(hrel:∀us,dK E us k 0 es→dK E us k 0 es'):
  dL A (upd t (.o id) (.row e k es' sh)) a E:=by
 refine⟨⟨fun q hq=>?_,hi.h.frees,hi.h.inj,hi.h.size,hi.h.oQ,fun b o h1 q h2=>?_,hi.h.gl⟩,hi.fr,fun j tv hj=>?_,hi.defers,hi.size⟩
 ·by_cases eq:q = .o id
  ·subst eq;have h:=hi.h.item (.o id) hq;rw[ht]at h
   simp only[upd,if_true];obtain⟨h1,id',v,us,h2,h3,h4,h5⟩:=h;simp only[Pl.o.injEq]at h2;subst h2;exact⟨h1,id,v,us,rfl,by rw[hl];exact h3,by rw[hl];exact h4,hrel us h5⟩
  ·simp only[upd,if_neg eq];exact hi.h.item q hq
 ·obtain⟨e2,k2,es2,h3,h4⟩:=hi.h.sep b o h1 q h2;by_cases eq:q = .o id
  ·subst eq;rw[ht]at h3
   simp only[It.row.injEq]at h3;obtain⟨rfl,rfl,rfl,rfl⟩:=h3;exact⟨e,k,es',by simp[upd],by rw[hl];exact h4⟩
  ·exact⟨e2,k2,es2,by simp only[upd,if_neg eq];exact h3,h4⟩
 ·simp only[upd,reduceCtorEq,if_false]at hj;exact hi.sl j tv hj
theorem GS.sV{t:S}{nH e0 k0:Nat}{es0:List (List TV)}{Ez:Bool}{i j:Nat}{r:List TV}{id n e k:Nat}{es:List (List TV)}{sh:Bool}{xs:List (List D)}(h0:t (.o nH) = .row e0 k0 es0 Ez)(hne:nH≠id)
  (hr:es0[i]? = some r) (hj:r[j]? = some (.aB id n)) (ht:t (.o id) = .row e k es sh) (hn:n=es.length) (hx:eu es=some xs) :
  GS A t (upd (upd t (.o id) (.row e k es true)) (.o nH) (.row e0 k0 (es0.set i (r.set j (.d (.sl xs)))) Ez)):=fun a w ⟨E,hw,hi⟩=>by
 subst hn;obtain⟨E',hw',x,hb,hv,hi',hr',_⟩:=hi.freeze ht hx;have hil:i<es0.length:=(List.getElem?_eq_some_iff.1 hr).1;refine⟨E',hw'.trans hw,hi'.KZ (es:=es0) (by simp only[upd,Pl.o.injEq,if_neg hne];exact h0) (by simp) fun us hrel=>dK.fZ fun i' el hel=>?_⟩;rw[kH hil]at hel
 by_cases ei:i'=i
 ·subst ei;rw[if_pos rfl]at hel
  simp only[Option.some.injEq]at hel;subst hel;obtain⟨g1,g2⟩:=hrel.get hr;have hjl:j<r.length:=(List.getElem?_eq_some_iff.1 hj).1;refine⟨by simpa using g1,bG.fZ fun m tv hm=>?_⟩;rw[kH hjl]at hm
  by_cases em:m=j
  ·subst em;rw[if_pos rfl]at hm
   simp only[Option.some.injEq]at hm;subst hm;obtain⟨u,k1,k2,k3⟩:=g2.get hj;refine⟨u,k1,k2,?_⟩;simp only[aA]at k3⊢;refine hr' u ?_;simp only[aA];rw[hv]at k3
   exact k3
  ·rw[if_neg em]at hm
   exact g2.get hm
 ·rw[if_neg ei]at hel
  exact hrel.get hel
theorem Fin.sV{P:Program}{A:eX}{fn:Func}{rv:TV}{xo:List It}{ro:List (Nat×It)}{l:List (Pl×It)}(nH i j id:Nat){e0 k0:Nat}{es0:List (List TV)}{Ez:Bool}{r:List TV}{n e k:Nat}{es:List (List TV)}{sh:Bool}{xs:List (List D)}(h0:look l (.o nH) = .row e0 k0 es0 Ez)(hne:nH≠id)
  (hr:es0[i]? = some r) (hj:r[j]? = some (.aB id n)) (ht:look l (.o id) = .row e k es sh) (hn:n=es.length) (hx:eu es=some xs)
  (h:Fin P A fn rv xo ro (look (iI (.o nH) (.row e0 k0 (es0.set i (r.set j (.d (.sl xs)))) Ez) (iI (.o id) (.row e k es true) l)))):Fin P A fn rv xo ro (look l):=by
 have:=GS.sV (A:=A) h0 hne hr hj ht hn hx;rw[eU,eU]at this
 exact h.ghost this
def DT(a b k:Nat):Nat:=if k=a then b else k
def lX(a b:Nat):Pl→Pl
 | .o k=>.o (DT a b k)
 | p=>p
mutual
def TV.ren(a b:Nat):TV→TV
 | .agg vs=>.agg (TV.AP a b vs)
 | .rG vs=>.rG (TV.AP a b vs)
 | .clo f vs=>.clo f (TV.AP a b vs)
 | .aB id n=>.aB (DT a b id) n
 | .rQ id n i q=>.rQ (DT a b id) n i q
 | .mref id=>.mref (DT a b id)
 | .NS id n j=>.NS (DT a b id) n j
 | .ptr p q=>.ptr (lX a b p) q
 | v=>v
def TV.AP(a b:Nat):List TV→List TV
 | []=>[]
 | v::vs=>v.ren a b::TV.AP a b vs
end
def AO(a b:Nat):It→It
 | .v t=>.v (t.ren a b)
 | .box cs=>.box (TV.AP a b cs)
 | .row e k es sh=>.row e k (es.map (TV.AP a b)) sh
 | .wI e k es=>.wI e k (es.map (TV.AP a b))
 | .jX es c pd s=>.jX (es.map fun x=>(x.1,x.2.ren a b)) c pd s
 | .DK m s left cur=>.DK (if m=a then b else m) s left cur
 | .IE es s=>.IE (es.map fun x=>(x.1,x.2.ren a b)) s
 | i=>i
def En.ren(E:En)(a b:Nat):En:=
 {E with blk:=fun p=>match p with|.o k=>if k=b then E.blk (.o a)else if k=a then none else E.blk (.o k)|p=>E.blk p,
         val:=fun k=>if k=b then E.val a else if k=a then none else E.val k}
mutual
theorem Qx{E:En}{a b:Nat}(hab:a≠b)(hb:E.blk (.o b)=none)(hv:E.val b=none):∀{v:TV} {u:Value},aA E v u→aA (E.ren a b) (v.ren a b) u
 | .junk,u,_=>by simp only[TV.ren,aA]
 | .d x,u,h=>by simp only[TV.ren,aA]at h⊢;exact Rep.ext (E:=E) (E':=E.ren a b) ⟨fun _ _ h=>h,fun _ _ _=>rfl⟩ x u h
 | .c v,u,h=>by simp only[TV.ren,aA]at h⊢;exact h
 | .agg vs,u,h=>by
   simp only[TV.ren,aA]at h⊢;obtain⟨us,hu,h⟩:=h;exact⟨us,hu,Nq hab hb hv h⟩
 | .rG vs,u,h=>by
   simp only[TV.ren,aA]at h⊢;obtain⟨us,hu,h⟩:=h;exact⟨us,hu,Nq hab hb hv h⟩
 | .aB id n,u,h=>by
   simp only[TV.ren,aA]at h⊢;obtain⟨h1,k,c,v,h2,h3⟩:=h;have hne:id≠b:=fun e=>by subst e;rw[hv]at h2;simp at h2
   refine⟨h1,k,c,v,?_,h3⟩;by_cases e:id=a
   ·subst e;simp only[DT,En.ren,if_true];exact h2
   ·simp only[DT,En.ren,if_neg e,if_neg hne];exact h2
 | .ptr (.o id) q,u,h=>by
   simp only[TV.ren,lX,aA]at h⊢;obtain⟨b',h1,h2⟩:=h;have hne:id≠b:=fun e=>by subst e;rw[hb]at h1;simp at h1
   refine⟨b',?_,h2⟩;by_cases e:id=a
   ·subst e;simp only[DT,En.ren,if_true];exact h1
   ·simp only[DT,En.ren,if_neg e,if_neg hne];exact h1
 | .ptr (.x i) q,u,h=>by simp only[TV.ren,lX,aA]at h⊢;exact h
 | .ptr (.s i) q,u,h=>by simp only[TV.ren,lX,aA]at h⊢;exact h
 | .ep e q,u,h=>by
   simp only[TV.ren,aA]at h⊢;obtain⟨b',o,hu,hc⟩:=h;exact⟨b',o,hu,bQ.ext (E:=E) (E':=E.ren a b) ⟨fun _ _ h=>h,fun _ _ _=>rfl⟩ b' o e hc⟩
 | .rQ id n i q,u,h=>by
   simp only[TV.ren,aA]at h⊢;obtain⟨h1,k,c,v,h2,h3⟩:=h;have hne:id≠b:=fun e=>by subst e;rw[hv]at h2;simp at h2
   refine⟨h1,k,c,v,?_,h3⟩;by_cases e:id=a
   ·subst e;simp only[DT,En.ren,if_true];exact h2
   ·simp only[DT,En.ren,if_neg e,if_neg hne];exact h2
 | .NS id n i,u,h=>by
   simp only[TV.ren,aA]at h⊢;obtain⟨h1,k,c,v,h2,h3⟩:=h;have hne:id≠b:=fun e=>by subst e;rw[hv]at h2;simp at h2
   refine⟨h1,k,c,v,?_,h3⟩;by_cases e:id=a
   ·subst e;simp only[DT,En.ren,if_true];exact h2
   ·simp only[DT,En.ren,if_neg e,if_neg hne];exact h2
 | .mref id,u,h=>by
   simp only[TV.ren,aA]at h⊢;obtain⟨b',h1,h2⟩:=h;have hne:id≠b:=fun e=>by subst e;rw[hb]at h1;simp at h1
   refine⟨b',?_,h2⟩;by_cases e:id=a
   ·subst e;simp only[DT,En.ren,if_true];exact h1
   ·simp only[DT,En.ren,if_neg e,if_neg hne];exact h1
 | .sx xs,u,h=>by
   simp only[TV.ren,aA]at h⊢;exact⟨Rep.ext (E:=E) (E':=E.ren a b) ⟨fun _ _ h=>h,fun _ _ _=>rfl⟩ (.sl xs) u h.1,h.2⟩
 | .clo f vs,u,h=>by
   simp only[TV.ren,aA]at h⊢;obtain⟨us,hu,h⟩:=h;exact⟨us,hu,Nq hab hb hv h⟩
theorem Nq{E:En}{a b:Nat}(hab:a≠b)(hb:E.blk (.o b)=none)(hv:E.val b=none):∀{vs:List TV} {us:List Value},aP E vs us→aP (E.ren a b) (TV.AP a b vs) us
 | [],us,h=>by simpa only[TV.AP,aP]using h
 | v::vs,us,h=>by
   simp only[TV.AP,aP]at h⊢;obtain⟨u,us',hu,h1,h2⟩:=h;exact⟨u,us',hu,Qx hab hb hv h1,Nq hab hb hv h2⟩
end
theorem IX{a b:Nat}:∀vs:List TV,(TV.AP a b vs).length=vs.length
 | []=>by simp only[TV.AP]
 | v::vs=>by simp only[TV.AP,List.length_cons,IX vs]
theorem TS{E:En}{a b:Nat}(hab:a≠b)(hb:E.blk (.o b)=none)(hv:E.val b=none){us:List Value}:∀{o:Nat} {vs:List TV},bG E us o vs→bG (E.ren a b) us o (TV.AP a b vs)
 | _,[],_=>by simp only[TV.AP];trivial
 | _,_::_,⟨⟨u,h1,h2,h3⟩,r⟩=>by simp only[TV.AP];exact⟨⟨u,h1,h2,Qx hab hb hv h3⟩,TS hab hb hv r⟩
theorem aaY{E:En}{a b:Nat}(hab:a≠b)(hb:E.blk (.o b)=none)(hv:E.val b=none){us:List Value}{k:Nat}:∀{o:Nat} {es:List (List TV)},dK E us k o es→dK (E.ren a b) us k o (es.map (TV.AP a b))
 | _,[],_=>trivial
 | _,_::_,⟨h1,h2,r⟩=>⟨(IX _).trans h1,TS hab hb hv h2,aaY hab hb hv r⟩
theorem ajh{E:En}{a b:Nat}(hab:a≠b)(hb:E.blk (.o b)=none)(hv:E.val b=none):∀{es:List (List Int×TV)} {l:List MapEntry},jD E es l→jD (E.ren a b) (es.map fun x=>(x.1,x.2.ren a b)) l
 | [],_,h=>h
 | _::_,_,⟨e,l',rfl,h1,h2,h3⟩=>⟨e,l',rfl,h1,Qx hab hb hv h2,ajh hab hb hv h3⟩
theorem ahw{E:En}{a b:Nat}(hab:a≠b)(k:Nat):(E.ren a b).own (.o k)=if k=b then E.own (.o a)else if k=a then none else E.own (.o k):=by
 by_cases e1:k=b
 ·subst e1;simp[En.own,En.ren]
 ·by_cases e2:k=a
  ·subst e2;simp[En.own,En.ren,e1]
  ·simp[En.own,En.ren,e1,e2]
theorem TU{E:En}{a b:Nat}(hab:a≠b)(hb:E.blk (.o b)=none)(hv:E.val b=none){p p':Pl}{i:It}(h:zB E p i)(hp:∀k,p≠.s k)
  (h1:(E.ren a b).blk p'=E.blk p) (h2:(∀k,p' = .o k→(∃j,p = .o j∧(E.ren a b).val k=E.val j))∧∀j,p = .o j→∃k,p' = .o k):zB (E.ren a b) p' (AO a b i):=by
 cases i with
 | none=>
   intro k e;obtain⟨j,g1,g2⟩:=h2.1 k e;rw[h1,g2];exact h j g1
 | v t=>
   show(E.ren a b).own p'=none
   have h:E.own p=none:=h;cases p' with
   | o k=>
     obtain⟨j,rfl,g2⟩:=h2.1 k rfl;simp only[En.own]at h⊢;rw[h1,g2];exact h
   | s k=>cases p with
     | o j=>obtain⟨k',e⟩:=h2.2 j rfl;simp at e
     | s j=>simp only[En.own]at h⊢;rw[h1];exact h
     | x j=>simp only[En.own]at h⊢;rw[h1];exact h
   | x k=>cases p with
     | o j=>obtain⟨k',e⟩:=h2.2 j rfl;simp at e
     | s j=>simp only[En.own]at h⊢;rw[h1];exact h
     | x j=>simp only[En.own]at h⊢;rw[h1];exact h
 | box cs=>
   obtain⟨h0,b',ty,us,g1,g2,g3,g4⟩:=h;refine⟨fun k e=>?_,b',ty,us,h1.trans g1,g2,by rw[IX];exact g3,TS hab hb hv g4⟩;obtain⟨j,k1,k2⟩:=h2.1 k e;rw[k2];exact h0 j k1
 | row e k es sh=>
   obtain⟨h0,id,v,us,rfl,g2,g3,g4⟩:=h;obtain⟨k',e'⟩:=h2.2 id rfl;obtain⟨j,k1,k2⟩:=h2.1 k' e';simp only[Pl.o.injEq]at k1;subst k1;exact⟨h1.trans h0,k',v,us,e',by rw[k2,List.length_map];exact g2,by rw[List.length_map];exact g3,aaY hab hb hv g4⟩
 | wI e k es=>
   obtain⟨h0,id,v,us,rfl,g2,g3,g4⟩:=h;obtain⟨k',e'⟩:=h2.2 id rfl;obtain⟨j,k1,k2⟩:=h2.1 k' e';simp only[Pl.o.injEq]at k1;subst k1;exact⟨h1.trans h0,k',v,us,e',by rw[k2,List.length_map];exact g2,by rw[List.length_map];exact g3,aaY hab hb hv g4⟩
 | mp es=>
   obtain⟨h0,b',l,clock,g1,g2,g3,g4⟩:=h;refine⟨fun k e=>?_,b',l,clock,h1.trans g1,g2,pV.ext (E:=E) (E':=E.ren a b) ⟨fun _ _ h=>h,fun _ _ _=>rfl⟩ g3,g4⟩;obtain⟨j,k1,k2⟩:=h2.1 k e;rw[k2];exact h0 j k1
 | jX es c pd s=>
   obtain⟨id,b',l,clock,l',ty,v,rfl,g1,g2,g3,g4,g5,g6,g7,g8⟩:=h;obtain⟨k',e'⟩:=h2.2 id rfl;obtain⟨j,k1,k2⟩:=h2.1 k' e';simp only[Pl.o.injEq]at k1;subst k1;exact⟨k',b',l,clock,l',ty,v,e',h1.trans g1,g2,g3,ajh hab hb hv g4,g5,k2.trans g6,g7,g8⟩
 | IE es s=>
   obtain⟨h,g1,g2,g3,l',g4,g5⟩:=h;refine⟨?_,g1,g2,g3,l',g4,ajh hab hb hv g5⟩;cases p' with
   | o k=>
     obtain⟨j,rfl,g2⟩:=h2.1 k rfl;simp only[En.own]at h⊢;rw[h1,g2];exact h
   | s k=>cases p with
     | o j=>obtain⟨k',e⟩:=h2.2 j rfl;simp at e
     | s j=>simp only[En.own]at h⊢;rw[h1];exact h
     | x j=>simp only[En.own]at h⊢;rw[h1];exact h
   | x k=>cases p with
     | o j=>obtain⟨k',e⟩:=h2.2 j rfl;simp at e
     | s j=>simp only[En.own]at h⊢;rw[h1];exact h
     | x j=>simp only[En.own]at h⊢;rw[h1];exact h
 | DK m s left cur=>
   obtain⟨h0,r,seen,g1,g2,g3⟩:=h;refine⟨fun k e=>?_,r,seen,h1.trans g1,g2,g3⟩;obtain⟨j,k1,k2⟩:=h2.1 k e;rw[k2];exact h0 j k1
def vJ(a b:Nat)(t:S):S:=fun p=>match p with
 | .o k=>if k=b then AO a b (t (.o a))else if k=a then .none else AO a b (t (.o k))
 | p=>AO a b (t p)
theorem GS.ren{t:S}{a b:Nat}(hab:a≠b)(ho:t (.o b) = .none):GS A t (vJ a b t):=fun c w ⟨E,hw,hi⟩=>by
 have hbn:=hi.h.item (.o b) (by simp);rw[ho]at hbn
 obtain⟨hb,hv⟩:=hbn b rfl;have aql:E.own (.o b)=none:=by simp[En.own,hb,hv]
 have hox:∀i,(E.ren a b).own (.x i)=E.own (.x i):=fun i=>rfl
 have hos:∀i,(E.ren a b).own (.s i)=E.own (.s i):=fun i=>rfl
 have back:∀{p q},(E.ren a b).own p=some q→∃p',E.own p'=some q∧((p' = .o a∧p = .o b)∨(p'=p∧p≠.o a∧p≠.o b)):=fun {p q} h=>by
  cases p with
  | s k=>exact⟨.s k,h,.inr ⟨rfl,by simp,by simp⟩⟩
  | x k=>exact⟨.x k,h,.inr ⟨rfl,by simp,by simp⟩⟩
  | o k=>
    rw[ahw hab]at h
    split at h
    ·rename_i e;subst e;exact⟨.o a,h,.inl ⟨rfl,rfl⟩⟩
    ·rename_i e1;split at h
     ·simp at h
     ·rename_i e2;exact⟨.o k,h,.inr ⟨rfl,by simpa using e2,by simpa using e1⟩⟩
 refine⟨E.ren a b,hw,⟨⟨fun p hp=>?_,hi.h.frees,fun p q r h1 h2=>?_,fun p r h=>?_,hi.h.oQ,fun r o h1 p h2=>?_,fun y hy=>bQ.ext (E:=E) (E':=E.ren a b) ⟨fun _ _ h=>h,fun _ _ _=>rfl⟩ _ _ _ (hi.h.gl y hy)⟩,?_,fun k tv hk=>?_,hi.defers,hi.size⟩⟩
 ·cases p with
  | s k=>exact absurd rfl (hp k)
  | x k=>exact TU hab hb hv (hi.h.item (.x k) hp) hp rfl ⟨fun k e=>by simp at e,fun j e=>by simp at e⟩
  | o k=>
    simp only[vJ];split
    ·rename_i e;subst e;exact TU hab hb hv (hi.h.item (.o a) (by simp)) (by simp) (by simp[En.ren]) ⟨fun k e=>⟨a,rfl,by simp only[Pl.o.injEq]at e;subst e;simp[En.ren]⟩,fun j _=>⟨_,rfl⟩⟩
    ·rename_i e1;split
     ·rename_i e2;subst e2;exact fun j e=>by simp only[Pl.o.injEq]at e;subst e;simp[En.ren,e1]
     ·rename_i e2;exact TU hab hb hv (hi.h.item (.o k) hp) hp (by simp[En.ren,e1,e2]) ⟨fun j e=>⟨k,rfl,by simp only[Pl.o.injEq]at e;subst e;simp[En.ren,e1,e2]⟩,fun j _=>⟨_,rfl⟩⟩
 ·obtain⟨p',g1,g2⟩:=back h1;obtain⟨q',g3,g4⟩:=back h2;have:=hi.h.inj p' q' r g1 g3;subst this;rcases g2 with⟨e1,e2⟩|⟨e1,e2,e3⟩<;>rcases g4 with⟨e4,e5⟩|⟨e4,e5,e6⟩
  ·rw[e2,e5]
  ·exact absurd (e4.symm.trans e1) e5
  ·exact absurd (e1.symm.trans e4) e2
  ·rw[←e1,←e4]
 ·obtain⟨p',g1,_⟩:=back h;exact hi.h.size p' r g1
 ·obtain⟨p',g1,g2⟩:=back h2;obtain⟨e,k,es,g3,g4⟩:=hi.h.sep r o h1 p' g1;refine⟨e,k,es.map (TV.AP a b),?_,by simpa using g4⟩;rcases g2 with⟨rfl,rfl⟩|⟨rfl,e2,e3⟩
  ·simp only[vJ,if_true,g3];rfl
  ·cases p' with
   | s k=>have:=hi.h.frees k;simp[En.own,this]at g1
   | x k=>simp only[vJ,g3];rfl
   | o k=>
     have n1:k≠b:=by simpa using e3
     have n2:k≠a:=by simpa using e2
     simp only[vJ,if_neg n1,if_neg n2,g3];rfl
 ·refine⟨hi.fr.os,hi.fr.tape,hi.fr.output,hi.fr.size,hi.fr.old,hi.fr.xb,fun id r h=>?_,hi.fr.st,hi.fr.xg⟩;obtain⟨p',g1,g2⟩:=back h;rcases g2 with⟨rfl,_⟩|⟨rfl,_,_⟩
  ·exact hi.fr.new a r g1
  ·exact hi.fr.new id r g1
 ·simp only[vJ]at hk;cases ht:t (.s k)with
  | v tv'=>
    rw[ht]at hk
    simp only[AO,It.v.injEq]at hk;subst hk;obtain⟨u,h1,h2⟩:=hi.sl k tv' ht;exact⟨u,h1,Qx hab hb hv h2⟩
  | none=>rw[ht]at hk;simp[AO]at hk
  | box _=>rw[ht]at hk;simp[AO]at hk
  | row _ _ _ _=>rw[ht]at hk;simp[AO]at hk
  | wI _ _ _=>rw[ht]at hk;simp[AO]at hk
  | mp _=>rw[ht]at hk;simp[AO]at hk
  | jX _ _ _ _=>rw[ht]at hk;simp[AO]at hk
  | DK _ _ _ _=>rw[ht]at hk;simp[AO]at hk
  | IE _ _=>rw[ht]at hk;simp[AO]at hk
def uV(a b:Nat)(l:List (Pl×It)):List (Pl×It):=l.map fun x=>(lX a b x.1,AO a b x.2)
theorem iO{a b:Nat}(hab:a≠b):∀{l:List (Pl×It)},b∉jy l→vJ a b (look l)=look (uV a b l)
 | [],_=>by funext p;cases p<;>simp[vJ,look,uV,AO]
 | (q,i)::l,h=>by
   have hl:b∉jy l:=by cases q<;>simp_all [jy]
   have ih:=fun p=>congrFun (iO hab hl) p
   have hq:q≠.o b:=fun e=>by subst e;simp[jy]at h
   funext p
   have hp:=ih p;simp only[uV]at hp;simp only[uV,List.map_cons,look];cases p with
   | s k=>
     simp only[vJ,look]at hp⊢;cases q with
     | s j=>
       simp only[lX,Pl.s.injEq];by_cases e:k=j
       ·subst e;simp
       ·simp only[if_neg e];exact hp
     | x j=>simp only[lX,reduceCtorEq,if_false];exact hp
     | o j=>simp only[lX,reduceCtorEq,if_false];exact hp
   | x k=>
     simp only[vJ,look]at hp⊢;cases q with
     | x j=>
       simp only[lX,Pl.x.injEq];by_cases e:k=j
       ·subst e;simp
       ·simp only[if_neg e];exact hp
     | s j=>simp only[lX,reduceCtorEq,if_false];exact hp
     | o j=>simp only[lX,reduceCtorEq,if_false];exact hp
   | o k=>
     simp only[vJ,look]at hp⊢;cases q with
     | s j=>simp only[lX,reduceCtorEq,if_false];exact hp
     | x j=>simp only[lX,reduceCtorEq,if_false];exact hp
     | o j=>
       have hj:j≠b:=fun e=>hq (by rw[e])
       simp only[lX,Pl.o.injEq,DT];by_cases e1:k=b
       ·subst e1;simp only[if_true]at hp⊢;by_cases e2:j=a
        ·subst e2;simp
        ·simp only[if_neg e2,if_neg (fun h:a=j=>e2 h.symm),if_neg (fun h:k=j=>hj h.symm)];exact hp
       ·simp only[if_neg e1]at hp⊢;by_cases e2:k=a
        ·subst e2;simp only[if_true]at hp⊢;by_cases e3:j=k
         ·subst e3;simp only[if_true,if_neg e1];exact hp
         ·simp only[if_neg e3,if_neg (fun h:k=j=>e3 h.symm)];exact hp
        ·simp only[if_neg e2]at hp⊢;by_cases e3:j=a
         ·subst e3;simp only[if_true,if_neg e1,if_neg e2];exact hp
         ·simp only[if_neg e3];by_cases e4:k=j
          ·subst e4;simp
          ·simp only[if_neg e4];exact hp
theorem GS.ren'{l l':List (Pl×It)}(a b:Nat)(hab:a≠b)(hb:b∉jy l)(h:Sub (look (uV a b l)) l'∧jP l'=jP (uV a b l)):GS A (look l) (look l'):=by
 have:=GS.ren (A:=A) (t:=look l) hab (zU hb);rw[iO hab hb]at this
 exact this.trans (GS.forget h.1 h.2)
end
theorem Y6(a b:Nat):∀l:List D,TV.AP a b (l.map .d)=l.map .d
 | []=>rfl
 | x::l=>by simp[TV.AP,TV.ren,Y6 a b l]
theorem ahx(a b:Nat)(xs:List (List D)):(dd xs).map (TV.AP a b)=dd xs:=by
 simp only[dd,List.map_map];exact List.map_congr_left fun e _=>Y6 a b e
section
variable (a b:Nat) (cs:List TV) (e k:Nat) (es:List (List TV)) (sh:Bool) (t:TV) (m:List (Int×D))
theorem ajg:AO a b (.v t) = .v (t.ren a b):=rfl
theorem TT:AO a b (.box cs) = .box (TV.AP a b cs):=rfl
theorem afO:AO a b (.row e k es sh) = .row e k (es.map (TV.AP a b)) sh:=rfl
attribute [simp] ajg TT afO
end
attribute [simp] uV lX DT TV.ren TV.AP ahx
end Go.Tr

namespace Go.Tr
open Go
section
variable {A:eX}
theorem acp{E:En}{us:List Value}:∀{o:Nat} {ts:List TV} {xs:List D},G7 ts=some xs→bG E us o ts→bG E us o (xs.map .d)
 | _,[],_,h,_=>by simp only[G7,Option.some.injEq]at h;subst h;trivial
 | _,t::ts,xs,h,⟨⟨u,h1,h2,h3⟩,hr⟩=>by
   simp only[G7]at h;split at h
   ·rename_i x xs' g1 g2;simp only[Option.some.injEq]at h;subst h;exact⟨⟨u,h1,h2,by simp only[aA];exact XH g1 h3⟩,acp g2 hr⟩
   ·simp at h
theorem agl{ts:List TV}{xs:List D}(h:G7 ts=some xs):xs.length=ts.length:=(NH h).1
theorem V4{E:En}{us:List Value}{k:Nat}:∀{o:Nat} {es:List (List TV)} {xs:List (List D)},eu es=some xs→dK E us k o es→dK E us k o (dd xs)
 | _,[],_,h,_=>by simp only[eu,Option.some.injEq]at h;subst h;trivial
 | _,e::es,xs,h,⟨h1,h2,hr⟩=>by
   simp only[eu]at h;split at h
   ·rename_i x xs' g1 g2;simp only[Option.some.injEq]at h;subst h;exact⟨by rw[List.length_map,agl g1];exact h1,acp g1 h2,V4 g2 hr⟩
   ·simp at h
theorem GS.plain{t:S}{id e k:Nat}{es:List (List TV)}{sh:Bool}{xs:List (List D)}(ht:t (.o id) = .row e k es sh)(hx:eu es=some xs):GS A t (upd t (.o id) (.row e k (dd xs) sh)):=fun a w ⟨E,hw,hi⟩=>
 ⟨E,hw,hi.KZ ht (by rw[dd,List.length_map];exact(JK hx).1) fun _ h=>V4 hx h⟩
end
end Go.Tr

namespace Go.Tr
open Go
section
variable {P:Program} {A:eX}
theorem GS.wI{t:S}{id k:Nat}{e:TypeId}{es:List (List TV)}(ht:t (.o id) = .row e k es false)(hn:0<es.length):GS A t (upd t (.o id) (.wI e k es)):=fun a w ⟨E,hw,hi⟩=>by
 obtain⟨h0,v,us,h1,h2,h3,_⟩:=Ec hi ht;have hit:zB E (.o id) (.wI e k es):=by
  rcases h2.2 with⟨_,h4⟩|⟨g,cap,cur,rfl,_,hg,hnc,hcm,hcs,htk⟩
  ·omega
  ·exact⟨h0,id,_,us,rfl,h1,⟨h2.1,g,0,cap,cur,rfl,hg,hnc,hcm,by rw[hcs,Nat.zero_add];exact Nat.le_refl _,by rw[List.drop_zero];exact htk⟩,h3⟩
 refine⟨E,hw,⟨⟨fun p hp=>?_,hi.h.frees,hi.h.inj,hi.h.size,hi.h.oQ,fun b o hb p hp=>?_,hi.h.gl⟩,hi.fr,fun j tv hj=>hi.sl j tv (by simpa[upd]using hj),hi.defers,hi.size⟩⟩
 ·by_cases e:p = .o id
  ·subst e;simpa only[upd,if_true]using hit
  ·simp only[upd,if_neg e];exact hi.h.item p hp
 ·obtain⟨e2,k2,es2,g1,g2⟩:=hi.h.sep b o hb p hp;have:p≠.o id:=fun e=>by subst e;rw[ht]at g1;simp at g1
  exact⟨e2,k2,es2,by simp only[upd,if_neg this];exact g1,g2⟩
theorem afR{E E':En}(hr:J_ E E'){us:List Value}{k j:Nat}{xs:List (List D)}(h:dK E us k 0 (dd xs)):dK E' (us.drop (j*k)) k 0 (dd (xs.drop j)):=by
 refine dK.fZ fun i c hc=>?_
 simp only[dd,List.getElem?_map,List.getElem?_drop,Option.map_eq_some_iff]at hc;obtain⟨d,h1,rfl⟩:=hc;obtain⟨h2,h3⟩:=h.get (i:=j+i) (e:=d.map .d) (by simp[dd,h1]);refine⟨h2,bG.fZ fun q tv hq=>?_⟩;obtain⟨u,h4,h5,h6⟩:=h3.get hq;refine⟨u,?_,h5,?_⟩
 ·rw[List.getElem?_drop,←h4];congr 1;rw[Nat.add_mul];omega
 ·simp only[List.getElem?_map,Option.map_eq_some_iff]at hq;obtain⟨x,_,rfl⟩:=hq;simp only[aA]at h6⊢;exact Rep.ext hr x u h6
def isS(k:Nat):Pl→Bool
 | .s j=>k==j
 | _=>false
def isO(k:Nat):Pl→Bool
 | .o j=>k==j
 | _=>false
def WC(s id:Nat):List (Pl×It)→List (Pl×It)
 | []=>[]
 | x::l=>if isS s x.1||isO id x.1 then WC s id l else x::WC s id l
theorem GS.cut{l l':List (Pl×It)}(l0:List (Pl×It))(s id:Nat){n j k:Nat}{e:TypeId}{xs:List (List D)}(hs:look l (.s s) = .v (.NS id n j))(ht:look l (.o id) = .wI e k (dd xs))(hn:n=xs.length)(hj:j≤n)
  (h:Sub (look l) l0∧jP l0=jP l) (hid:id∉jy l0)
  (h':Sub (look (iI (.s s) (.v (.aB id (n-j))) (iI (.o id) (.wI e k (dd (xs.drop j))) l0))) l'∧jP l'=jP (iI (.s s) (.v (.aB id (n-j))) (iI (.o id) (.wI e k (dd (xs.drop j))) l0))):GS A (look l) (look l'):=by
 refine GS.trans (u:=look (iI (.s s) (.v (.aB id (n-j))) (iI (.o id) (.wI e k (dd (xs.drop j))) l0))) (fun a w ⟨E,hw,hi⟩=>?_) (GS.forget h'.1 h'.2);have hi1:=hi.forget h.1 (abq h.1.1 h.2);obtain⟨hblk,v,us,hval,hown,hrel,_⟩:=JD hi ht;obtain⟨u,hu1,hu2⟩:=hi.sl s _ hs;have hlen:(dd xs).length=xs.length:=by simp[dd]
 rw[hlen]at hval hown
 subst hn;simp only[aA]at hu2;obtain⟨hone,k',c,v',hv',_,he⟩:=hu2;rw[hval]at hv'
 simp only[Option.some.injEq,Prod.mk.injEq]at hv';obtain⟨rfl,rfl,rfl⟩:=hv';obtain⟨b,of,cp,o2,rfl,_,ho2,hu⟩:=he rfl;obtain⟨hl0,g,of',cap,cur,hvv,hg,hnc,hcm,hcs,htk⟩:=hown;simp only[Value.slice.injEq,Option.some.injEq,Addr.mk.injEq]at hvv;obtain⟨⟨rfl,rfl,_⟩,_,rfl⟩:=hvv;have abL:E.own (.o id)=some b:=by simp[En.own,hblk,hval,Value.ownBlock]
 rw[←eU,←eU]
 let E1:=E.res (jy l0)
 have b1:E1.blk (.o id)=none:=by simp[E1,En.res,hid]
 have v1:E1.val id=none:=by simp[E1,En.res,hid]
 let E2:En:={E1 with val:=fun i=>if i=id then some (k,xs.length-j,u)else E1.val i}
 have v2:E2.val id=some (k,xs.length-j,u):=by simp[E2]
 have x12:qN E1 E2:=by
  refine⟨fun _ _ h=>h,fun _ _ _=>rfl,fun _ _ _ h=>h,fun _ _ h=>h,fun _ _ h=>h,fun i k' c u' _ hu'=>?_⟩;by_cases e:i=id
  ·subst e;rw[v1]at hu';simp at hu'
  ·exact⟨c,u',by simp[E2,e,hu'],Nat.le_refl _,fun _=>rfl⟩
 have afA:∀{p b'},E2.own p=some b'→(p = .o id∧b'=b)∨(p≠.o id∧E1.own p=some b'):=fun {p b'} hp=>by
  by_cases e:p = .o id
  ·subst e;refine .inl ⟨rfl,?_⟩;have:E2.own (.o id)=some b:=by simp[En.own,E2,b1,hu,Value.ownBlock]
   rw[this]at hp;simpa using hp.symm
  ·have h3:E2.own p=E1.own p:=En.lU rfl (fun i hi=>by subst hi;have:i≠id:=fun h=>e (by rw[h]);simp[E2,this]);exact .inr ⟨e,h3.symm.trans hp⟩
 have aia:∀{p b'},E1.own p=some b'→E.own p=some b':=fun h=>(En.res_own h).1
 have hbs:b<E.w.heap.size:=(Array.getElem?_eq_some_iff.1 hg).1;have hjk:j*k≤xs.length*k:=Nat.mul_le_mul_right _ (by omega);have akE:(cp-j)*k=cp*k-j*k:=Nat.sub_mul _ _ _;have hnk:(xs.length-j)*k=xs.length*k-j*k:=Nat.sub_mul _ _ _;have hcp:xs.length*k≤cp*k:=Nat.mul_le_mul_right _ hnc;have hq:Nl E2.w e k u (xs.length-j) (us.drop (j*k)):=by
  rcases ho2 with rfl|⟨rfl,hz⟩
  ·refine⟨by rw[List.length_drop,hl0,hnk],b,of+j*k,cp-j,cur,hu,hg,by omega,by omega,by rw[akE];omega,?_⟩;rw[←htk,List.drop_take,List.drop_drop,hnk]
  ·have hz2:xs.length-j=0:=by omega
   refine⟨by rw[List.length_drop,hl0,hnk],b,o2,cp-j,cur,hu,hg,by omega,by omega,by rw[hz];omega,?_⟩;rw[hz2,Nat.zero_mul,List.take_zero];refine(List.drop_eq_nil_of_le ?_).symm;rw[hl0];exact Nat.mul_le_mul_right _ (by omega)
 have hlen2:(dd (xs.drop j)).length=xs.length-j:=by simp[dd]
 have hH:jQ E2 (upd (look l0) (.o id) (.wI e k (dd (xs.drop j)))):=by
  refine⟨fun p hp=>?_,hi1.h.frees,fun p q b' g1 g2=>?_,fun p b' g1=>?_,hi1.h.oQ,fun b' o g1 p g2=>?_,fun y hy=>bQ.ext x12.r _ _ _ (hi1.h.gl y hy)⟩
  ·by_cases e:p = .o id
   ·subst e;simp only[upd,if_true];exact⟨b1,id,u,us.drop (j*k),rfl,by rw[hlen2];exact v2,by rw[hlen2];exact hq,afR (E:=E) (E':=E2) ⟨fun _ _ h=>h,fun _ _ _=>rfl⟩ hrel⟩
   ·simp only[upd,if_neg e];exact(hi1.h.item p hp).up x12 rfl (fun i hi=>by subst hi;have:i≠id:=fun h=>e (by rw[h]);simp[E2,this];rfl) (fun _ _=>rfl)
  ·rcases afA g1 with⟨rfl,rfl⟩|⟨n1,g1⟩<;>rcases afA g2 with⟨rfl,h2⟩|⟨n2,g2⟩
   ·rfl
   ·exact(hi.h.inj _ _ _ abL (aia g2))
   ·subst h2;exact(hi.h.inj _ _ _ (aia g1) abL)
   ·exact hi1.h.inj _ _ _ g1 g2
  ·rcases afA g1 with⟨rfl,rfl⟩|⟨_,g1⟩
   ·exact hbs
   ·exact hi1.h.size _ _ g1
  ·rcases afA g2 with⟨rfl,rfl⟩|⟨n2,g2⟩
   ·exact absurd abL (OX hi ht g1)
   ·obtain⟨e2,k2,es2,g3,g4⟩:=hi1.h.sep b' o g1 p g2;exact⟨e2,k2,es2,by simp only[upd,if_neg n2];exact g3,g4⟩
 refine⟨E2,hw,⟨hH.slot s _,⟨hi1.fr.os,hi1.fr.tape,hi1.fr.output,hi1.fr.size,hi1.fr.old,hi1.fr.xb,fun i b' g1=>?_,hi1.fr.st,hi1.fr.xg⟩,fun q tv hq'=>?_,hi1.defers,hi1.size⟩⟩
 ·rcases afA g1 with⟨g2,rfl⟩|⟨_,g2⟩
  ·exact hi.fr.new id _ abL
  ·exact hi1.fr.new i b' g2
 ·by_cases eq:q=s
  ·subst eq;simp only[upd,if_true,It.v.injEq]at hq';subst hq';exact⟨u,hu1,by simp only[aA];exact⟨hone,k,_,u,v2,Nat.le_refl _,fun _=>rfl⟩⟩
  ·simp only[upd,Pl.s.injEq,eq,if_false,reduceCtorEq]at hq';obtain⟨u',g1,g2⟩:=hi1.sl q tv hq';exact⟨u',g1,g2.up x12⟩
end
attribute [simp] isS isO WC
end Go.Tr

namespace Go.Proofs
open Go Go.Lib
theorem abu:∀{a b:List Int},a.Pairwise (· < ·)→b.Pairwise (· < ·)→(∀x,x∈a↔x∈b)→a=b
 | [],[],_,_,_=>rfl
 | [],y::b,_,_,h=>by have:=(h y).2 (by simp);simp at this
 | x::a,[],_,_,h=>by have:=(h x).1 (by simp);simp at this
 | x::a,y::b,ha,hb,h=>by
   rw[List.pairwise_cons]at ha hb
   have hxy:x=y:=by
    have h1:=(h x).1 (by simp);have h2:=(h y).2 (by simp);rcases List.mem_cons.1 h1 with e|h1
    ·exact e
    ·rcases List.mem_cons.1 h2 with e|h2
     ·exact e.symm
     ·have:=hb.1 x h1;have:=ha.1 y h2;omega
   subst hxy
   congr 1
   refine abu ha.2 hb.2 fun z=>?_
   have hz:=h z;simp only[List.mem_cons]at hz;constructor
   ·intro hm;rcases hz.1 (.inr hm)with e|h
    ·subst e;have:=ha.1 z hm;omega
    ·exact h
   ·intro hm;rcases hz.2 (.inr hm)with e|h
    ·subst e;have:=hb.1 z hm;omega
    ·exact h
theorem X3(zs:List Int)(hs:zs.Pairwise (· ≤·)):∀m,m≤zs.length→(compactUpTo zs.toArray m).Pairwise (· < ·)∧(∀x,x∈compactUpTo zs.toArray m↔∃j,j<m∧zs[j]? = some x)
 | 0,_=>by simp[compactUpTo]
 | m+1,hm=>by
   obtain⟨h1,h2⟩:=X3 zs hs m (by omega);have hget:∀j,j<zs.length→zs.toArray[j]! = zs.getD j 0:=fun j hj=>by simp[List.getD,hj]
   rw[compactUpTo_succ];have hmz:zs[m]? = some (zs.getD m 0):=by simp[List.getD,show m<zs.length by omega]
   have hle:∀j,j<m→zs.getD j 0≤zs.getD m 0:=fun j hj=>by
    have:=List.pairwise_iff_getElem.1 hs j m (by omega) (by omega) hj;simpa[List.getD,show m<zs.length by omega,show j<zs.length by omega]using this
   cases hk:keeps zs.toArray m with
   | false=>
     have h3:0<m∧zs.toArray[m]! = zs.toArray[m-1]! :=by
      have hk' :¬(m=0∨zs.toArray[m]! ≠zs.toArray[m-1]!):=by simpa only[keeps,decide_eq_false_iff_not]using hk
      exact⟨Nat.pos_of_ne_zero fun e=>hk' (.inl e),Classical.byContradiction fun e=>hk' (.inr e)⟩
     rw[if_neg (by simp),List.append_nil];refine⟨h1,fun x=>?_⟩;rw[h2];constructor
     ·rintro⟨j,hj,hx⟩;exact⟨j,by omega,hx⟩
     ·rintro⟨j,hj,hx⟩;by_cases e:j=m
      ·subst e;refine⟨j-1,by omega,?_⟩;have h4:=h3.2;rw[hget j (by omega),hget (j-1) (by omega)]at h4
       rw[hmz]at hx
       simp only[Option.some.injEq]at hx;rw[←hx,h4];simp[List.getD,show j-1<zs.length by omega]
      ·exact⟨j,by omega,hx⟩
   | true=>
     rw[if_pos rfl,hget m (by omega)];refine⟨?_,fun x=>?_⟩
     ·rw[List.pairwise_append];refine⟨h1,by simp,fun x hx y hy=>?_⟩;simp at hy;subst hy;obtain⟨j,hj,hjx⟩:=(h2 x).1 hx;have hxj:zs.getD j 0=x:=by simp[List.getD,hjx]
      have:=hle j hj;have hne:zs.getD (m-1) 0≠zs.getD m 0:=by
       simp only[keeps,Bool.or_eq_true,decide_eq_true_eq]at hk;rcases hk with h|h
       ·omega
       ·rw[hget m (by omega),hget (m-1) (by omega)]at h
        exact fun e=>h e.symm
      have hj1:zs.getD j 0≤zs.getD (m-1) 0:=by
       by_cases e:j=m-1
       ·subst e;omega
       ·have:=List.pairwise_iff_getElem.1 hs j (m-1) (by omega) (by omega) (by omega);simpa[List.getD,show m-1<zs.length by omega,show j<zs.length by omega]using this
      have h5:=hle (m-1) (by omega);rw[←hxj]
      show zs.getD j 0<zs.getD m 0
      omega
     ·rw[List.mem_append,h2];simp only[List.mem_singleton];constructor
      ·rintro (⟨j,hj,hx⟩|rfl)
       ·exact⟨j,by omega,hx⟩
       ·exact⟨m,by omega,hmz⟩
      ·rintro⟨j,hj,hx⟩;by_cases e:j=m
       ·subst e;rw[hmz]at hx;simp only[Option.some.injEq]at hx;exact .inr hx.symm
       ·exact .inl ⟨j,by omega,hx⟩
def insPos(n:Int):List Int→Nat
 | []=>0
 | y::r=>if y<n then insPos n r+1 else 0
def E8(l:List Int)(n:Int):List Int:=if l[insPos n l]? = some n then l else l.take (insPos n l)++[n]++l.drop (insPos n l)
theorem ac3(n:Int):∀l:List Int,insPos n l≤l.length
 | []=>Nat.le_refl _
 | y::r=>by
   have:=ac3 n r;simp only[insPos,List.length_cons];split<;>omega
theorem Py(n:Int):∀(l:List Int),∀x∈l.take (insPos n l),x<n
 | []=>by simp
 | y::r=>by
   simp only[insPos];split
   ·rename_i h;intro x hx;simp at hx;rcases hx with rfl|hx
    ·exact h
    ·exact Py n r x hx
   ·simp
theorem Vx(n:Int):∀(l:List Int) (x:Int),l[insPos n l]? = some x→n≤x
 | [],x,h=>by simp at h
 | y::r,x,h=>by
   simp only[insPos]at h;split at h
   ·exact Vx n r x (by simpa using h)
   ·simp at h;omega
theorem MK{l:List Int}(n:Int)(h:l.Pairwise (· < ·)):(E8 l n).Pairwise (· < ·)∧∀x,x∈E8 l n↔x∈l∨x=n:=by
 unfold E8;split
 ·rename_i he;refine⟨h,fun x=>⟨.inl,fun hx=>hx.elim id fun e=>by subst e;exact List.mem_of_getElem? he⟩⟩
 ·rename_i he;have hl:l.take (insPos n l)++l.drop (insPos n l)=l:=List.take_append_drop _ _;have hp:(l.take (insPos n l)++l.drop (insPos n l)).Pairwise (· < ·):=by rw[hl];exact h
  rw[List.pairwise_append]at hp
  have hd:∀x∈l.drop (insPos n l),n<x:=fun x hx=>by
   cases hc:l.drop (insPos n l)with
   | nil=>rw[hc]at hx;simp at hx
   | cons y r=>
     have hy:l[insPos n l]? = some y:=by
      have:(l.drop (insPos n l))[0]? = some y:=by rw[hc];rfl
      simpa using this
     have h1:=Vx n l y hy;have h2:y≠n:=fun e=>he (by rw[hy,e])
     rw[hc]at hx
     rcases List.mem_cons.1 hx with rfl|hx
     ·omega
     ·have:=hp.2.1;rw[hc,List.pairwise_cons]at this
      have:=this.1 x hx;omega
  refine⟨?_,fun x=>?_⟩
  ·rw[List.append_assoc,List.pairwise_append];refine⟨hp.1,by simpa using⟨hd,hp.2.1⟩,fun a ha b hb=>?_⟩;have h1:=Py n l a ha;simp at hb;rcases hb with rfl|hb
   ·exact h1
   ·have:=hd b hb;omega
  ·have:x∈l↔x∈l.take (insPos n l)∨x∈l.drop (insPos n l):=by rw[←List.mem_append,hl]
   rw[this];simp only[List.mem_append,List.mem_singleton];constructor
   ·rintro ((h|h)|h)
    ·exact .inl (.inl h)
    ·exact .inr h
    ·exact .inl (.inr h)
   ·rintro ((h|h)|h)
    ·exact .inl (.inl h)
    ·exact .inr h
    ·exact .inl (.inr h)
end Go.Proofs

namespace Go.Proofs
open Go Go.Tr
abbrev Tp:=List Int×Nat
def ints(l:List Int):D:=.sl (l.map fun n=>[.int .i64 n])
def aJ(T:Tp):It:=.box [.d (ints T.1),.d (.int .i64 T.2)]
def ak(T:Tp):Prop:=T.1.length≤600∧∀x∈T.1,I64 x
section
variable (t:S) (ν:List Pl) (b:Nat) (po:Nat→Prop) (T:Tp)
@[simp]theorem aj1:TG t ν (aJ T)=some (aJ T):=by simp[aJ]
@[simp]theorem ajy:KQ t (aJ T)=True:=by simp[aJ]
@[simp]theorem aj2:Nu (aJ T) = []:=rfl
@[simp]theorem ajZ:Lr ν b (aJ T)=aJ T:=rfl
@[simp]theorem alc:gU (aJ T)=true:=rfl
@[simp]theorem aj0:It.only po (aJ T)=True:=by simp[aJ]
end
def Et(T:Tp):Int×Tp:=if T.1.length≤T.2 then(0,T)else(T.1.getD T.2 0,T.1,T.2+1)
def WV(x n:Int):Int:=if n<1 then 0 else x%n
def au(T:Tp)(n:Int):Int×Tp:=(WV (Et T).1 n,(Et T).2)
def aT(T:Tp)(a b:Int):Int×Tp:=(a+(au T (b-a+1)).1,(au T (b-a+1)).2)
def dD(T:Tp)(n:Int):Bool×Tp:=(decide ((au T n).1=n-1),(au T n).2)
def aK(T:Tp)(l:List Int):Int×Tp:=(l.getD (au T l.length).1.toNat 0,(au T l.length).2)
def V9:List Int:=[-1,0,1,7,8,23,24,31,32,63,64,99,100,255,256,257,1000,1001,1023,1024,1000000,1000001,1099511627776,9223372036854775807,-9223372036854775808]
def iY(T:Tp):Int×Tp:=aK T V9
theorem EX(T:Tp):(Et T).2.1=T.1:=by unfold Et;split<;>rfl
@[simp]theorem Ql(T:Tp):ak (Et T).2=ak T:=by simp[ak,EX]
@[simp]theorem dP(T:Tp)(n:Int):ak (au T n).2=ak T:=Ql T
@[simp]theorem ajU(T:Tp)(a b:Int):ak (aT T a b).2=ak T:=Ql T
@[simp]theorem oW(T:Tp)(n:Int):ak (dD T n).2=ak T:=Ql T
@[simp]theorem Mc(T:Tp)(l:List Int):ak (aK T l).2=ak T:=Ql T
theorem Yr(x n:Int):0≤WV x n:=by
 unfold WV;split
 ·simp
 ·exact Int.emod_nonneg _ (by omega)
theorem ag9(x:Int){n:Int}(h:0<n):WV x n<n:=by
 unfold WV;split
 ·omega
 ·exact Int.emod_lt_of_pos _ h
theorem aC(T:Tp)(n:Int):0≤(au T n).1:=Yr _ _
theorem bg(T:Tp){n:Int}(h:0<n):(au T n).1<n:=ag9 _ h
theorem aS(T:Tp)(a b:Int):a≤(aT T a b).1:=by have:=aC T (b-a+1);simp only[aT];omega
theorem aQ(T:Tp){a b:Int}(h:a≤b):(aT T a b).1≤b:=by have:=bg T (n:=b-a+1) (by omega);simp only[aT];omega
theorem agk{x n:Int}(hn:0<n)(h:x.tmod n<0):x.tmod n+n=x%n:=by
 have e:=@Int.tmod_eq_emod x n;have h1:=Int.emod_nonneg x (b:=n) (by omega);split at e<;>rename_i g
 ·simp at e;omega
 ·omega
theorem agj{x n:Int}(hn:0<n)(h :¬x.tmod n<0):x.tmod n=x%n:=by
 have e:=@Int.tmod_eq_emod x n;have h1:=Int.emod_lt_of_pos x hn;split at e<;>rename_i g
 ·simp at e;omega
 ·omega
theorem cut_c(x n:Int)(hn:I64 n):Contract Tryz.prog 90 [.d (.int .i64 x),.d (.int .i64 n)] [] (.d (.int .i64 (WV x n))) [] []:=by
 refine aj Tryz.func90 rfl (fun E0=>?_);refine cO.sound (g:=.mk) (ow:=[]) (kp:=(fun k=>k==0||k==1||k==4||k==6||k==11)) ?_;rw[Tryz.ntmps90];obtain⟨h1,h2⟩:=hn;simp -dsimp;refine qM.dec (fun h=>?_) (fun h=>?_)
 ·simp -dsimp;refine Fin.of ?_;simp[WV,h]
 ·simp -dsimp;refine⟨by omega,qM.dec (fun g=>?_) (fun g=>?_)⟩
  ·have:=agk (by omega) g;have:=Int.emod_nonneg x (b:=n) (by omega);have:=Int.emod_lt_of_pos x (b:=n) (by omega);simp -dsimp(disch:=omega) [wrap_i64];refine Fin.of ?_;simp[WV,h];omega
  ·simp -dsimp;refine Fin.of ?_;simp[WV,h];exact agj (by omega) g
theorem afK(T:Tp)(hT:ak T):Contract Tryz.prog 91 [.ptr (.x 0) 0] [aJ T] (.d (.int .i64 (Et T).1)) [aJ (Et T).2] []:=by
 obtain⟨l,i⟩:=T;have hi:l.length≤600:=hT.1;refine aj Tryz.func91 rfl (fun E0=>?_);refine cO.sound (g:=.mk) (ow:=[]) (kp:=(fun k=>k==0||k==2||k==12)) ?_;rw[Tryz.ntmps91];simp -dsimp[aJ,ints];refine⟨qM.dec (fun h=>?_) (fun h=>?_),⟨by kernel_rfl⟩⟩
 ·simp -dsimp;refine Fin.of ?_;simp[aJ,ints,h,Et]
 ·have h1:i<l.length:=by omega
  simp -dsimp(disch:=omega) [wrap_i64,List.getElem?_eq_getElem h1];refine⟨h1,?_,⟨by kernel_rfl⟩⟩;refine Fin.of ?_;simp[aJ,ints,Et,h,List.getElem?_eq_getElem h1]
theorem bn(T:Tp)(hT:ak T)(n:Int)(hn:I64 n):Contract Tryz.prog 30 [.ptr (.x 0) 0,.d (.int .i64 n)] [aJ T] (.d (.int .i64 (au T n).1)) [aJ (au T n).2] []:=by
 refine aj Tryz.func30 rfl (fun E0=>?_);refine cO.sound (g:=.mk) (ow:=[]) (kp:=(fun k=>k==0||k==1||k==4)) ?_;rw[Tryz.ntmps30];simp -dsimp;refine ah.of (afK T hT) [.x 0] 0 ?_;simp -dsimp;refine ah.of (cut_c (Et T).1 n hn) [] 0 ?_;simp -dsimp;refine Fin.of ?_;simp[au]
theorem dw(T:Tp)(hT:ak T)(a b:Int)(_ha:I64 a)(hn:I64 (b-a))(hn1:I64 (b-a+1))(hb:I64 (aT T a b).1):Contract Tryz.prog 34 [.ptr (.x 0) 0,.d (.int .i64 a),.d (.int .i64 b)] [aJ T] (.d (.int .i64 (aT T a b).1)) [aJ (aT T a b).2] []:=by
 refine aj Tryz.func34 rfl (fun E0=>?_);refine cO.sound (g:=.mk) (ow:=[]) (kp:=(fun k=>k==0||k==1||k==2||k==6)) ?_;rw[Tryz.ntmps34];simp -dsimp[wrap_i64 hn.1 hn.2,wrap_i64 hn1.1 hn1.2];refine ah.of (bn T hT (b-a+1) hn1) [.x 0] 0 ?_;have hb':I64 (a+(au T (b-a+1)).1):=hb;simp -dsimp[wrap_i64 hb'.1 hb'.2];refine Fin.of ?_;simp[aT]
theorem gK(T:Tp)(hT:ak T)(n:Int)(hn:I64 n)(hn1:I64 (n-1)):Contract Tryz.prog 17 [.ptr (.x 0) 0,.d (.int .i64 n)] [aJ T] (.d (.bool (dD T n).1)) [aJ (dD T n).2] []:=by
 refine aj Tryz.func17 rfl (fun E0=>?_);refine cO.sound (g:=.mk) (ow:=[]) (kp:=(fun k=>k==0||k==1||k==4)) ?_;rw[Tryz.ntmps17];simp -dsimp;refine ah.of (bn T hT n hn) [.x 0] 0 ?_;simp -dsimp[wrap_i64 hn1.1 hn1.2];refine Fin.of ?_;simp[dD]
theorem fE(T:Tp)(hT:ak T)(l:List Int)(hl:0<l.length)(hl2:l.length<1000):Contract Tryz.prog 38 [.ptr (.x 0) 0,.d (ints l)] [aJ T] (.d (.int .i64 (aK T l).1)) [aJ (aK T l).2] []:=by
 refine aj Tryz.func38 rfl (fun E0=>?_);refine cO.sound (g:=.mk) (ow:=[]) (kp:=(fun k=>k==0||k==1||k==4)) ?_;rw[Tryz.ntmps38];simp -dsimp[ints];refine ah.of (bn T hT l.length ⟨by omega,by omega⟩) [.x 0] 0 ?_;have h1:=aC T l.length;have h2:=bg T (n:=l.length) (by omega);have h3:(au T l.length).1.toNat<l.length:=by omega
 simp -dsimp[List.getElem?_eq_getElem h3];refine⟨by omega,by omega,?_⟩;refine Fin.of ?_;simp[aK,ints,List.getElem?_eq_getElem h3]
theorem C9(T:Tp)(hT:ak T):Contract Tryz.prog 111 [.ptr (.x 0) 0] [aJ T] (.d (.int .i64 (aK T [8,8,16,32,64]).1)) [aJ (aK T [8,8,16,32,64]).2] []:=by
 refine aj Tryz.func111 rfl (fun E0=>?_);refine cO.sound (g:=.mk) (ow:=[]) (kp:=(fun k=>k==0||k==2)) ?_;rw[Tryz.ntmps111];simp -dsimp;refine ah.of (fE T hT [8,8,16,32,64] (by simp) (by simp)) [.x 0] 0 ?_;simp -dsimp[ints];refine Fin.of ?_;simp
theorem qI(T:Tp)(hT:ak T):Contract Tryz.prog 77 [.ptr (.x 0) 0] [aJ T] (.d (.int .i64 (iY T).1)) [aJ (iY T).2] []:=by
 refine aj Tryz.func77 rfl (fun E0=>?_);refine cO.sound (g:=.mk) (ow:=[]) (kp:=(fun k=>k==0||k==2)) ?_;rw[Tryz.ntmps77];simp -dsimp;refine ah.of (fE T hT V9 (by simp[V9]) (by simp[V9])) [.x 0] 0 ?_;simp -dsimp[ints,V9];refine Fin.of ?_;simp[iY,V9]
end Go.Proofs

namespace Go.Proofs
open Go Go.Tr
def bv(B:BitVec 64):D:=.int .u64 (tn B)
def aG(n:Int):Bool:=n==8||n==16||n==32||n==64
def lS(k:Int):BitVec 64:=if k<0∨k>63 then 0#64 else 1#64<<<(IntKind.u64.wrap k).toNat
theorem nM(n:Int):Contract Tryz.prog 167 [.d (.int .i64 n)] [] (.d (.bool (aG n))) [] []:=by
 refine aj Tryz.func167 rfl (fun E0=>?_);refine cO.sound (g:=.mk) (ow:=[]) (kp:=(fun k=>k==0||k==2)) ?_;rw[Tryz.ntmps167];by_cases h1:n=8<;>by_cases h2:n=16<;>by_cases h3:n=32<;>first
  | omega
  | (simp -dsimp[h1,h2,h3]
     refine Fin.of ?_;simp[aG,h1,h2,h3])
theorem qH(n:Int):Contract Tryz.prog 209 [.d (.int .i64 n)] [] (.d (.bool (aG n))) [] []:=by
 refine aj Tryz.func209 rfl (fun E0=>?_);refine cO.sound (g:=.mk) (ow:=[]) (kp:=(fun k=>k==0||k==2)) ?_;rw[Tryz.ntmps209];by_cases h1:n=8<;>by_cases h2:n=16<;>by_cases h3:n=32<;>first
  | omega
  | (simp -dsimp[h1,h2,h3]
     refine Fin.of ?_;simp[aG,h1,h2,h3])
theorem uD(k:Int):Contract Tryz.prog 88 [.d (.int .i64 k)] [] (.d (bv (lS k))) [] []:=by
 refine aj Tryz.func88 rfl (fun E0=>?_);refine cO.sound (g:=.mk) (ow:=[]) (kp:=(fun k=>k==0||k==2||k==8)) ?_;rw[Tryz.ntmps88];by_cases h:k<0
 ·simp -dsimp[h];refine Fin.of ?_;simp[lS,h,bv]
 ·simp -dsimp[h];refine qM.dec (fun g=>?_) (fun g=>?_)
  ·simp -dsimp;refine Fin.of ?_;simp[lS,g,bv]
  ·have h0:0≤IntKind.u64.wrap k:=by rw[yu];omega
   simp -dsimp[h0];refine Fin.of ?_;simp[lS,g,h,bv]
def Pq:Nat→BitVec 64
 | 0=>0#64
 | n+1=>Pq n|||lS n
def tN(n:Int):BitVec 64:=if aG n=true then Pq n.toNat else 0#64
theorem RF(k:Int):Contract Tryz.prog 169 [.d (.int .i64 k)] [] (.d (bv (tN k))) [] []:=by
 refine aj Tryz.func169 rfl (fun E0=>?_);refine cO.sound (g:=.mk) (ow:=[]) (kp:=(fun k=>k==0||k==2||k==3||k==4||k==7||k==10)) ?_;rw[Tryz.ntmps169];simp -dsimp;refine ah.of (nM k) [] 0 ?_;cases hv:aG k
 ·simp -dsimp[hv];refine Fin.of ?_;simp[tN,hv,bv]
 ·have hk:0≤k∧k≤64:=by simp[aG]at hv;omega
  simp -dsimp[hv];refine aN.of [] (fun k=>k==0||k==2||k==3||k==4||k==7||k==10) (ι:={i:Nat // (i:Int)≤k}) (fun i=>[(Pl.s 0,It.v (.d (.int .i64 k))),(Pl.s 2,It.v (.d (.int IntKind.u64 0))),
    (Pl.s 3,It.v (.d (bv (Pq i.1)))),(Pl.s 4,It.v (.d (.int .i64 i.1)))]) (fun i=>k.toNat-i.1) ⟨0,hk.1⟩ ?_ ?_
  ·exact GS.to (by simp[Pq,bv])
  ·rintro⟨i,hi⟩;simp -dsimp[bv];refine qM.dec (fun h=>?_) (fun h=>?_)
   ·simp -dsimp[bv];refine ah.of (uD i) [] 0 ?_;simp -dsimp[bv,wrap_i64 (n:=(i:Int)+1) (by omega) (by omega)];refine⟨⟨i+1,by omega⟩,GS.to (by simp[Pq,bv]),by simp;omega⟩
   ·simp -dsimp[bv];refine Fin.of ?_;have:k.toNat=i:=by omega
    simp[tN,hv,bv,this]
def CU:Nat→Tp→List Int×Tp
 | 0,T=>([],T)
 | n+1,T=>((au T 256).1::(CU n (au T 256).2).1,(CU n (au T 256).2).2)
def G_(T:Tp)(most:Int):List Int×Tp:=CU (aT T 0 most).1.toNat (aT T 0 most).2
theorem agf(T:Tp)(hT:ak T)(k:Int)(hk:0≤k∧k≤100):Contract Tryz.prog 112 [.ptr (.x 0) 0,.d (.int .i64 k)] [aJ T] (.d (.str (strOf (G_ T k).1))) [aJ (G_ T k).2] []:=by
 have hr:=aS T 0 k;have hr':=aQ T (a:=0) (b:=k) (by omega);refine aj Tryz.func112 rfl (fun E0=>?_);refine cO.sound (g:=.mk) (ow:=[]) (kp:=(fun k=>k==0||k==1||k==4||k==5||k==6||k==11)) ?_;rw[Tryz.ntmps112];simp -dsimp;refine ah.of (dw T hT 0 k ⟨by omega,by omega⟩ ⟨by omega,by omega⟩ ⟨by omega,by omega⟩ ⟨by omega,by omega⟩) [.x 0] 0 ?_;simp -dsimp
 refine aN.of [5] (fun k=>k==0||k==1||k==4||k==5||k==6||k==11) (ι:={i:Nat×Tp×List Int // ak i.2.1∧i.1≤100∧i.2.2.length+i.1≤100∧(G_ T k)=(i.2.2++(CU i.1 i.2.1).1,(CU i.1 i.2.1).2)}) (fun i=>[(Pl.s 0,It.v (.ptr (Pl.x 0) 0)),(Pl.s 1,It.v (.d (.int .i64 k))),
    (Pl.x 0,aJ i.1.2.1),(Pl.s 4,It.v (.d (.str ⟨#[]⟩))),
    (Pl.s 5,It.v (.aB 5 i.1.2.2.length)),(Pl.s 6,It.v (.d (.int .i64 i.1.1))),(.o 5,.row 5 1 (dd (i.1.2.2.map fun n=>[.int .u8 n])) false)]) (fun i=>i.1.1) ⟨((aT T 0 k).1.toNat,(aT T 0 k).2,[]),by simpa using hT,by simp;omega,by simp;omega,by simp[G_]⟩ ?_ ?_
 ·refine GS.own' (k:=5) 5 1 (by simp) (by simp) ?_;simp;omega
 ·rintro⟨⟨i,T',l⟩,h1,h2,h3,h4⟩;simp only at h1 h2 h3 h4;simp -dsimp;refine qM.dec (fun h=>?_) (fun h=>?_)
  ·obtain⟨i,rfl⟩:∃j,i=j+1:=⟨i-1,by omega⟩
   simp -dsimp;refine ah.of (bn T' h1 256 ⟨by omega,by omega⟩) [.x 0] 0 ?_;have g1:=aC T' 256;have g2:=bg T' (n:=256) (by omega);simp -dsimp[wrap_u8 g1 (show(au T' 256).1≤255 by omega),wrap_i64 (n:=(i:Int)) (by omega) (by omega)];and_intros;all_goals try first|omega|(simp;omega)
   refine⟨⟨(i,(au T' 256).2,l++[(au T' 256).1]),by simpa using h1,by omega,by simp;omega,by simp[h4,CU]⟩,GS.to (by simp),by simp⟩
  ·obtain rfl:i=0:=by omega
   simp -dsimp;refine Fin.of ?_;simp[h4,CU]
end Go.Proofs
