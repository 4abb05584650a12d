/-
  What functions of the program compute, stated as contracts over plain data; the conditions of each stand in its own statement.
-/
import Derived.Test.YtkikielfhjoogaaGreatDoorZA12
set_option linter.unusedSimpArgs false
set_option linter.unusedVariables false
namespace Go.Tr
open Go
section
variable {A:f_}
theorem eY.aaV{t:S}{a:Act}{E:En}{id e k:Nat}{es es':List (List TV)}{sh:Bool}(hi:eY A t a E)(ht:t (.o id) = .row e k es sh)(hl:es'.length=es.length)(hrel:∀us,fC E us k 0 es→fC E us k 0 es'):
  eY A (upd t (.o id) (.row e k es' sh)) a E:=by
 refine⟨⟨fun q hq=>?_,hi.h.frees,hi.h.inj,hi.h.size,hi.h.o_,fun b o h1 q h2=>?_,hi.h.gl⟩,hi.fr,fun j tv hj=>?_,hi.defers,hi.size⟩
 ·by_cases eq:q = .o id
  ·subst eq;have h:=hi.h.item (.o id) hq;rw[ht]at h
   simp only[upd,if_true];obtain⟨h1,id',v,us,h2,h3,h4,h5⟩:=h;simp only[Pl.o.injEq]at h2;exact⟨h1,id,v,us,rfl,by simp[*],by simp[*],hrel us h5⟩
  ·simp only[upd,if_neg eq];exact hi.h.item q hq
 ·obtain⟨e2,k2,es2,h3,h4⟩:=hi.h.sep b o h1 q h2;by_cases eq:q = .o id
  ·subst eq;rw[ht]at h3
   grind[upd]
  ·exact⟨e2,k2,es2,by simp only[upd,if_neg eq];omega,h4⟩
 ·exact hi.sl j tv hj
theorem GS.aa2{t:S}{nR e0 k0:Nat}{es0:List (List TV)}{sh0:Bool}{i j:Nat}{r:List TV}{id n e k:Nat}{es:List (List TV)}{sh:Bool}{xs:List (List D)}(h0:t (.o nR) = .row e0 k0 es0 sh0)(hne:nR≠id)
  (hr:es0[i]? = some r) (hj:r[j]? = some (.aW id n)) (ht:t (.o id) = .row e k es sh) (hn:n=es.length) (hx:jX es=some xs) :
  GS A t (upd (upd t (.o id) (.row e k es true)) (.o nR) (.row e0 k0 (es0.set i (r.set j (.d (.sl xs)))) sh0)):=fun a w ⟨E,hw,hi⟩=>by
 obtain⟨E',hw',x,hb,hv,hi',hr',_⟩:=hi.freeze ht hx;have hil:i<es0.length:=by grind
 refine⟨E',hw'.trans hw,hi'.aaV (es:=es0) (by simp only[upd,Pl.o.injEq,if_neg hne];omega) (by simp) fun us hrel=>fC.iI fun i' el hel=>?_⟩;rw[wO hil]at hel
 by_cases ei:i'=i
 ·subst ei;rw[if_pos rfl]at hel
  simp only[ah]at hel;subst hel;obtain⟨g1,g2⟩:=hrel.get hr;have hjl:j<r.length:=by grind
  refine⟨by simp[*],cu.iI fun m tv hm=>?_⟩;rw[wO hjl]at hm
  by_cases em:m=j
  ·subst em;rw[if_pos rfl]at hm
   simp only[ah]at hm;obtain⟨u,k1,k2,k3⟩:=g2.get hj
   grind[aP]
  ·rw[if_neg em]at hm
   exact g2.get hm
 ·rw[if_neg ei]at hel
  exact hrel.get hel
theorem Fin.aa2{P:Program}{A:f_}{fn:Func}{rv:TV}{xo:List It}{ro:List (Nat×It)}{l:List (Pl×It)}(nR i j id:Nat){e0 k0:Nat}{es0:List (List TV)}{sh0:Bool}{r:List TV}{n e k:Nat}{es:List (List TV)}{sh:Bool}{xs:List (List D)}(h0:look l (.o nR) = .row e0 k0 es0 sh0)(hne:nR≠id)
  (hr:es0[i]? = some r) (hj:r[j]? = some (.aW id n)) (ht:look l (.o id) = .row e k es sh) (hn:n=es.length) (hx:jX es=some xs)
  (h:Fin P A fn rv xo ro (look (jL (.o nR) (.row e0 k0 (es0.set i (r.set j (.d (.sl xs)))) sh0) (jL (.o id) (.row e k es true) l)))):Fin P A fn rv xo ro (look l):=by
 have:=GS.aa2 (A:=A) h0 hne hr hj ht hn hx;rw[je,je]at this
 exact h.ghost this
def uo(a b k:Nat):Nat:=if k=a then b else k
def BN(a b:Nat):Pl→Pl
 | .o k=>.o (uo a b k)
 | p=>p
mutual
def TV.ren(a b:Nat):TV→TV
 | .agg vs=>.agg (TV.vH a b vs)
 | .qh vs=>.qh (TV.vH a b vs)
 | .clo f vs=>.clo f (TV.vH a b vs)
 | .aW id n=>.aW (uo a b id) n
 | .qH id n i q=>.qH (uo a b id) n i q
 | .mref id=>.mref (uo a b id)
 | .LG id n j=>.LG (uo a b id) n j
 | .ptr p q=>.ptr (BN a b p) q
 | v=>v
def TV.vH(a b:Nat):List TV→List TV
 | []=>[]
 | v::vs=>v.ren a b::TV.vH a b vs
end
def xw(a b:Nat):It→It
 | .v t=>.v (t.ren a b)
 | .box cs=>.box (TV.vH a b cs)
 | .row e k es sh=>.row e k (es.map (TV.vH a b)) sh
 | .sJ e k es=>.sJ e k (es.map (TV.vH a b))
 | .fO es c pd s=>.fO (es.map fun x=>(x.1,x.2.ren a b)) c pd s
 | .yt m s left cur=>.yt (if m=a then b else m) s left cur
 | .BM es s=>.BM (es.map fun x=>(x.1,x.2.ren a b)) s
 | i=>i
def En.ren(E:En)(a b:Nat):En:=
 {E with blk:=fun p=>match p with|.o k=>if k=b then E.blk (.o a)else if k=a then none else E.blk (.o k)|p=>E.blk p,
         val:=fun k=>if k=b then E.val a else if k=a then none else E.val k}
mutual
theorem Nb{E:En}{a b:Nat}(hab:a≠b)(hb:E.blk (.o b)=none)(hv:E.val b=none):∀{v:TV} {u:Value},aP E v u→aP (E.ren a b) (v.ren a b) u
 | .junk,u,_=>by trivial
 | .d x,u,h=>by exact Rep.ext (E:=E) (E':=E.ren a b) ⟨fun _ _ h=>h,fun _ _ _=>rfl⟩ x u h
 | .c v,u,h=>by trivial
 | .agg vs,u,h=>by obtain⟨us,hu,h⟩:=h;exact⟨us,hu,IG hab hb hv h⟩
 | .qh vs,u,h=>by obtain⟨us,hu,h⟩:=h;exact⟨us,hu,IG hab hb hv h⟩
 | .aW id n,u,h=>by
   obtain⟨h1,k,c,v,h2,h3⟩:=h;have hne:id≠b:=by grind
   refine⟨h1,k,c,v,?_,h3⟩;by_cases e:id=a
   ·subst e;simp only[uo,En.ren,if_true];omega
   ·simp only[uo,En.ren,if_neg e,if_neg hne];omega
 | .ptr (.o id) q,u,h=>by
   simp only[TV.ren,BN,aP]at h⊢;obtain⟨b',h1,h2⟩:=h;have hne:id≠b:=by grind
   refine⟨b',?_,h2⟩;by_cases e:id=a
   ·subst e;simp only[uo,En.ren,if_true];omega
   ·simp only[uo,En.ren,if_neg e,if_neg hne];omega
 | .ptr (.x i) q,u,h=>by trivial
 | .ptr (.s i) q,u,h=>by trivial
 | .ep e q,u,h=>by obtain⟨b',o,hu,hc⟩:=h;exact⟨b',o,hu,dU.ext (E:=E) (E':=E.ren a b) ⟨fun _ _ h=>h,fun _ _ _=>rfl⟩ b' o e hc⟩
 | .qH id n i q,u,h=>by
   obtain⟨h1,k,c,v,h2,h3⟩:=h;have hne:id≠b:=by grind
   refine⟨h1,k,c,v,?_,h3⟩;by_cases e:id=a
   ·subst e;simp only[uo,En.ren,if_true];omega
   ·simp only[uo,En.ren,if_neg e,if_neg hne];omega
 | .LG id n i,u,h=>by
   obtain⟨h1,k,c,v,h2,h3⟩:=h;have hne:id≠b:=by grind
   refine⟨h1,k,c,v,?_,h3⟩;by_cases e:id=a
   ·subst e;simp only[uo,En.ren,if_true];omega
   ·simp only[uo,En.ren,if_neg e,if_neg hne];omega
 | .mref id,u,h=>by
   simp only[TV.ren,aP]at h⊢;obtain⟨b',h1,h2⟩:=h;have hne:id≠b:=by grind
   refine⟨b',?_,h2⟩;by_cases e:id=a
   ·subst e;simp only[uo,En.ren,if_true];omega
   ·simp only[uo,En.ren,if_neg e,if_neg hne];omega
 | .sx xs,u,h=>by simp only[TV.ren,aP]at h⊢;exact⟨Rep.ext (E:=E) (E':=E.ren a b) ⟨fun _ _ h=>h,fun _ _ _=>rfl⟩ (.sl xs) u h.1,h.2⟩
 | .clo f vs,u,h=>by simp only[TV.ren,aP]at h⊢;obtain⟨us,hu,h⟩:=h;exact⟨us,hu,IG hab hb hv h⟩
theorem IG{E:En}{a b:Nat}(hab:a≠b)(hb:E.blk (.o b)=none)(hv:E.val b=none):∀{vs:List TV} {us:List Value},bD E vs us→bD (E.ren a b) (TV.vH a b vs) us
 | [],us,h=>by trivial
 | v::vs,us,h=>by simp only[TV.vH,bD]at h⊢;obtain⟨u,us',hu,h1,h2⟩:=h;exact⟨u,us',hu,Nb hab hb hv h1,IG hab hb hv h2⟩
end
theorem Dp{a b:Nat}:∀vs:List TV,(TV.vH a b vs).length=vs.length
 | []=>by rfl
 | v::vs=>by simp only[TV.vH,aH,Dp vs]
theorem P9{E:En}{a b:Nat}(hab:a≠b)(hb:E.blk (.o b)=none)(hv:E.val b=none){us:List Value}:∀{o:Nat} {vs:List TV},cu E us o vs→cu (E.ren a b) us o (TV.vH a b vs)
 | _,[],_=>by trivial
 | _,_::_,⟨⟨u,h1,h2,h3⟩,r⟩=>by exact⟨⟨u,h1,h2,Nb hab hb hv h3⟩,P9 hab hb hv r⟩
theorem aaQ{E:En}{a b:Nat}(hab:a≠b)(hb:E.blk (.o b)=none)(hv:E.val b=none){us:List Value}{k:Nat}:∀{o:Nat} {es:List (List TV)},fC E us k o es→fC (E.ren a b) us k o (es.map (TV.vH a b))
 | _,[],_=>trivial
 | _,_::_,⟨h1,h2,r⟩=>⟨(Dp _).trans h1,P9 hab hb hv h2,aaQ hab hb hv r⟩
theorem al_{E:En}{a b:Nat}(hab:a≠b)(hb:E.blk (.o b)=none)(hv:E.val b=none):∀{es:List (List Int×TV)} {l:List MapEntry},jW E es l→jW (E.ren a b) (es.map fun x=>(x.1,x.2.ren a b)) l
 | [],_,h=>h
 | _::_,_,⟨e,l',rfl,h1,h2,h3⟩=>⟨e,l',rfl,h1,Nb hab hb hv h2,al_ hab hb hv h3⟩
theorem ajU{E:En}{a b:Nat}(hab:a≠b)(k:Nat):(E.ren a b).own (.o k)=if k=b then E.own (.o a)else if k=a then none else E.own (.o k):=by
 by_cases e1:k=b
 ·subst e1;simp[En.own,En.ren]
 ·by_cases e2:k=a
  ·subst e2;simp[En.own,En.ren,e1]
  ·simp[En.own,En.ren,e1,e2]
theorem Qc{E:En}{a b:Nat}(hab:a≠b)(hb:E.blk (.o b)=none)(hv:E.val b=none){p p':Pl}{i:It}(h:vM E p i)(hp:∀k,p≠.s k)
  (h1:(E.ren a b).blk p'=E.blk p) (h2:(∀k,p' = .o k→(∃j,p = .o j∧(E.ren a b).val k=E.val j))∧∀j,p = .o j→∃k,p' = .o k):vM (E.ren a b) p' (xw a b i):=by
 cases i with
 | none=>intro k e;obtain⟨j,g1,g2⟩:=h2.1 k e;rw[h1,g2];exact h j g1
 | v t=>
   show(E.ren a b).own p'=none
   have h:E.own p=none:=h;cases p' with
   | o k=>grind[En.own]
   | s k=>cases p with
     | o j=>simp_all
     | s j=>simp_all
     | x j=>grind[En.own]
   | x k=>cases p with
     | o j=>simp_all
     | s j=>simp_all
     | x j=>grind[En.own]
 | box cs=>
   obtain⟨h0,b',ty,us,g1,g2,g3,g4⟩:=h;refine⟨fun k e=>?_,b',ty,us,h1.trans g1,g2,by grind[Dp],P9 hab hb hv g4⟩
   grind
 | row e k es sh=>obtain⟨h0,id,v,us,rfl,g2,g3,g4⟩:=h;obtain⟨k',e'⟩:=h2.2 id rfl;obtain⟨j,k1,k2⟩:=h2.1 k' e';simp only[Pl.o.injEq]at k1;subst k1;exact⟨h1.trans h0,k',v,us,e',by simp[*],by rw[aV];trivial,aaQ hab hb hv g4⟩
 | sJ e k es=>obtain⟨h0,id,v,us,rfl,g2,g3,g4⟩:=h;obtain⟨k',e'⟩:=h2.2 id rfl;obtain⟨j,k1,k2⟩:=h2.1 k' e';simp only[Pl.o.injEq]at k1;subst k1;exact⟨h1.trans h0,k',v,us,e',by simp[*],by rw[aV];trivial,aaQ hab hb hv g4⟩
 | mp es=>
   obtain⟨h0,b',l,clock,g1,g2,g3,g4⟩:=h;refine⟨fun k e=>?_,b',l,clock,h1.trans g1,g2,rW.ext (E:=E) (E':=E.ren a b) ⟨fun _ _ h=>h,fun _ _ _=>rfl⟩ g3,g4⟩
   grind
 | fO es c pd s=>obtain⟨id,b',l,clock,l',ty,v,rfl,g1,g2,g3,g4,g5,g6,g7,g8⟩:=h;obtain⟨k',e'⟩:=h2.2 id rfl;obtain⟨j,k1,k2⟩:=h2.1 k' e';simp only[Pl.o.injEq]at k1;subst k1;exact⟨k',b',l,clock,l',ty,v,e',h1.trans g1,g2,g3,al_ hab hb hv g4,g5,k2.trans g6,g7,g8⟩
 | BM es s=>
   obtain⟨h,g1,g2,g3,l',g4,g5⟩:=h;refine⟨?_,g1,g2,g3,l',g4,al_ hab hb hv g5⟩;cases p' with
   | o k=>grind[En.own]
   | s k=>cases p with
     | o j=>simp_all
     | s j=>simp_all
     | x j=>grind[En.own]
   | x k=>cases p with
     | o j=>simp_all
     | s j=>simp_all
     | x j=>grind[En.own]
 | yt m s left cur=>
   obtain⟨h0,r,seen,g1,g2,g3⟩:=h;refine⟨fun k e=>?_,r,seen,h1.trans g1,g2,g3⟩
   grind
def Qb(a b:Nat)(t:S):S:=fun p=>match p with
 | .o k=>if k=b then xw a b (t (.o a))else if k=a then .none else xw a b (t (.o k))
 | p=>xw a b (t p)
theorem GS.ren{t:S}{a b:Nat}(hab:a≠b)(ho:t (.o b) = .none):GS A t (Qb a b t):=fun c w ⟨E,hw,hi⟩=>by
 have hbn:=hi.h.item (.o b) (by simp);rw[ho]at hbn
 obtain⟨hb,hv⟩:=hbn b rfl;have hox:∀i,(E.ren a b).own (.x i)=E.own (.x i):=fun i=>rfl
 have hos:∀i,(E.ren a b).own (.s i)=E.own (.s i):=fun i=>rfl
 have back:∀{p q},(E.ren a b).own p=some q→∃p',E.own p'=some q∧((p' = .o a∧p = .o b)∨(p'=p∧p≠.o a∧p≠.o b)):=fun {p q} h=>by
  cases p with
  | s k=>simp_all
  | x k=>simp_all
  | o k=>
    rw[ajU hab]at h
    grind
 refine⟨E.ren a b,hw,⟨⟨fun p hp=>?_,hi.h.frees,fun p q r h1 h2=>?_,fun p r h=>?_,hi.h.o_,fun r o h1 p h2=>?_,fun y hy=>dU.ext (E:=E) (E':=E.ren a b) ⟨fun _ _ h=>h,fun _ _ _=>rfl⟩ _ _ _ (hi.h.gl y hy)⟩,?_,fun k tv hk=>?_,hi.defers,hi.size⟩⟩
 ·cases p with
  | s k=>simp_all
  | x k=>exact Qc hab hb hv (hi.h.item (.x k) hp) hp rfl ⟨fun k e=>by trivial,fun j e=>by trivial⟩
  | o k=>
    simp only[Qb];split
    ·rename_i e;subst e;exact Qc hab hb hv (hi.h.item (.o a) (by simp)) (by simp) (by simp[En.ren]) ⟨fun k e=>⟨a,rfl,by grind[En.ren]⟩,fun j _=>⟨_,rfl⟩⟩
    ·split
     ·rename_i e2;subst e2;exact fun j e=>by grind[En.ren]
     ·rename_i e2;exact Qc hab hb hv (hi.h.item (.o k) hp) hp (by grind[En.ren]) ⟨fun j e=>⟨k,rfl,by grind[En.ren]⟩,fun j _=>⟨_,rfl⟩⟩
 ·obtain⟨p',g1,g2⟩:=back h1;obtain⟨q',g3,g4⟩:=back h2;have:=hi.h.inj p' q' r g1 g3
  grind
 ·obtain⟨p',g1,_⟩:=back h;exact hi.h.size p' r g1
 ·obtain⟨p',g1,g2⟩:=back h2;obtain⟨e,k,es,g3,g4⟩:=hi.h.sep r o h1 p' g1;refine⟨e,k,es.map (TV.vH a b),?_,by simp[*]⟩;rcases g2 with⟨rfl,rfl⟩|⟨rfl,e2,e3⟩
  ·simp only[Qb,if_true,g3];rfl
  ·cases p' with
   | s k=>have:=hi.h.frees k;grind[En.own]
   | x k=>simp only[Qb,g3];rfl
   | o k=>
     have n1:k≠b:=by simp_all
     have n2:k≠a:=by simp_all
     simp only[Qb,if_neg n1,if_neg n2,g3];rfl
 ·refine⟨hi.fr.os,hi.fr.tape,hi.fr.output,hi.fr.size,hi.fr.old,hi.fr.xb,fun id r h=>?_,hi.fr.st,hi.fr.xE⟩;obtain⟨p',g1,g2⟩:=back h;rcases g2 with⟨rfl,_⟩|⟨rfl,_,_⟩
  ·exact hi.fr.new a r g1
  ·exact hi.fr.new id r g1
 ·simp only[Qb]at hk;cases ht:t (.s k)with
  | v tv'=>
    rw[ht]at hk
    simp only[xw,It.v.injEq]at hk;subst hk;obtain⟨u,h1,h2⟩:=hi.sl k tv' ht
    grind[Nb]
  | none=>grind[xw]
  | box _=>grind[xw]
  | row _ _ _ _=>grind[xw]
  | sJ _ _ _=>grind[xw]
  | mp _=>grind[xw]
  | fO _ _ _ _=>grind[xw]
  | yt _ _ _ _=>grind[xw]
  | BM _ _=>grind[xw]
def Kr(a b:Nat)(l:List (Pl×It)):List (Pl×It):=l.map fun x=>(BN a b x.1,xw a b x.2)
theorem Uh{a b:Nat}(hab:a≠b):∀{l:List (Pl×It)},b∉oz l→Qb a b (look l)=look (Kr a b l)
 | [],_=>by funext p;cases p<;>simp[Qb,look,Kr,xw]
 | (q,i)::l,h=>by
   have hl:b∉oz l:=by cases q<;>simp_all [oz]
   have ih:=fun p=>congrFun (Uh hab hl) p
   have hq:q≠.o b:=fun e=>by subst e;simp[oz]at h
   funext p
   have hp:=ih p;simp only[Kr]at hp;simp only[Kr,aC,look];cases p with
   | s k=>
     simp only[Qb,look]at hp⊢;cases q with
     | s j=>
       simp only[BN,Pl.s.injEq];by_cases e:k=j
       ·subst e;simp
       ·simp only[if_neg e];exact hp
     | x j=>simp only[BN,reduceCtorEq,if_false];exact hp
     | o j=>simp only[BN,reduceCtorEq,if_false];exact hp
   | x k=>
     simp only[Qb,look]at hp⊢;cases q with
     | x j=>
       simp only[BN,Pl.x.injEq];by_cases e:k=j
       ·subst e;simp
       ·simp only[if_neg e];exact hp
     | s j=>simp only[BN,reduceCtorEq,if_false];exact hp
     | o j=>simp only[BN,reduceCtorEq,if_false];exact hp
   | o k=>
     simp only[Qb,look]at hp⊢;cases q with
     | s j=>simp only[BN,reduceCtorEq,if_false];exact hp
     | x j=>simp only[BN,reduceCtorEq,if_false];exact hp
     | o j=>
       have hj:j≠b:=fun e=>hq (by rw[e])
       simp only[BN,Pl.o.injEq,uo];by_cases e1:k=b
       ·subst e1;simp only[if_true]at hp⊢;by_cases e2:j=a
        ·subst e2;simp
        ·simp only[if_neg e2,if_neg (fun h:a=j=>e2 h.symm),if_neg (fun h:k=j=>hj h.symm)];exact hp
       ·simp only[if_neg e1]at hp⊢;by_cases e2:k=a
        ·subst e2;simp only[if_true]at hp⊢;by_cases e3:j=k
         ·subst e3;simp only[if_true,if_neg e1];exact hp
         ·simp only[if_neg e3,if_neg (fun h:k=j=>e3 h.symm)];exact hp
        ·simp only[if_neg e2]at hp⊢;by_cases e3:j=a
         ·subst e3;simp only[if_true,if_neg e1,if_neg e2];exact hp
         ·simp only[if_neg e3];by_cases e4:k=j
          ·subst e4;simp
          ·simp only[if_neg e4];exact hp
theorem GS.ren'{l l':List (Pl×It)}(a b:Nat)(hab:a≠b)(hb:b∉oz l)(h:Sub (look (Kr a b l)) l'∧lu l'=lu (Kr a b l)):GS A (look l) (look l'):=by
 have:=GS.ren (A:=A) (t:=look l) hab (agQ hb);rw[Uh hab hb]at this
 exact this.trans (GS.forget h.1 h.2)
end
theorem Yw(a b:Nat):∀l:List D,TV.vH a b (l.map .d)=l.map .d
 | []=>rfl
 | x::l=>by simp[TV.vH,TV.ren,Yw a b l]
theorem ajV(a b:Nat)(xs:List (List D)):(dd xs).map (TV.vH a b)=dd xs:=by simp[dd,Yw]
section
variable (a b:Nat) (cs:List TV) (e k:Nat) (es:List (List TV)) (sh:Bool) (t:TV) (m:List (Int×D))
theorem ahN:xw a b (.v t) = .v (t.ren a b):=rfl
theorem P_:xw a b (.box cs) = .box (TV.vH a b cs):=rfl
theorem Qa:xw a b (.row e k es sh) = .row e k (es.map (TV.vH a b)) sh:=rfl
attribute [simp] ahN P_ Qa
end
attribute [simp] Kr BN uo TV.ren TV.vH ajV
end Go.Tr

namespace Go.Tr
open Go
section
variable {A:f_}
theorem acR{E:En}{us:List Value}:∀{o:Nat} {ts:List TV} {xs:List D},LM ts=some xs→cu E us o ts→cu E us o (xs.map .d)
 | _,[],_,h,_=>by simp_all
 | _,t::ts,xs,h,⟨⟨u,h1,h2,h3⟩,hr⟩=>by
   simp only[LM]at h;split at h
   ·rename_i x xs' g1 g2;simp only[ah]at h;subst h;exact⟨⟨u,h1,h2,by simp only[aP];exact V7 g1 h3⟩,acR g2 hr⟩
   trivial
theorem aiu{ts:List TV}{xs:List D}(h:LM ts=some xs):xs.length=ts.length:=(I7 h).1
theorem Uw{E:En}{us:List Value}{k:Nat}:∀{o:Nat} {es:List (List TV)} {xs:List (List D)},jX es=some xs→fC E us k o es→fC E us k o (dd xs)
 | _,[],_,h,_=>by simp_all
 | _,e::es,xs,h,⟨h1,h2,hr⟩=>by
   simp only[jX]at h;split at h
   ·rename_i x xs' g1 g2;simp only[ah]at h;subst h;exact⟨by grind[aiu],acR g1 h2,Uw g2 hr⟩
   trivial
theorem GS.plain{t:S}{id e k:Nat}{es:List (List TV)}{sh:Bool}{xs:List (List D)}(ht:t (.o id) = .row e k es sh)(hx:jX es=some xs):GS A t (upd t (.o id) (.row e k (dd xs) sh)):=fun a w ⟨E,hw,hi⟩=>⟨E,hw,hi.aaV ht (by grind[dd,Ey]) fun _ h=>Uw hx h⟩
end
end Go.Tr

namespace Go.Tr
open Go
section
variable {P:Program} {A:f_}
theorem GS.sJ{t:S}{id k:Nat}{e:TypeId}{es:List (List TV)}(ht:t (.o id) = .row e k es false)(hn:0<es.length):GS A t (upd t (.o id) (.sJ e k es)):=fun a w ⟨E,hw,hi⟩=>by
 obtain⟨h0,v,us,h1,h2,h3,_⟩:=xR hi ht;have hit:vM E (.o id) (.sJ e k es):=by
  rcases h2.2 with⟨_,h4⟩|⟨g,cap,cur,rfl,_,hg,hnc,hcm,hcs,htk⟩
  ·omega
  ·exact⟨h0,id,_,us,rfl,h1,⟨h2.1,g,0,cap,cur,rfl,hg,hnc,hcm,by omega,by trivial⟩,h3⟩
 refine⟨E,hw,⟨⟨fun p hp=>?_,hi.h.frees,hi.h.inj,hi.h.size,hi.h.o_,fun b o hb p hp=>?_,hi.h.gl⟩,hi.fr,fun j tv hj=>hi.sl j tv (by trivial),hi.defers,hi.size⟩⟩
 ·by_cases e:p = .o id
  ·subst e;simpa only[upd,if_true]using hit
  ·simp only[upd,if_neg e];exact hi.h.item p hp
 ·obtain⟨e2,k2,es2,g1,g2⟩:=hi.h.sep b o hb p hp;have:p≠.o id:=by grind
  exact⟨e2,k2,es2,by simp only[upd,if_neg this];omega,g2⟩
theorem ahT{E E':En}(hr:Fa E E'){us:List Value}{k j:Nat}{xs:List (List D)}(h:fC E us k 0 (dd xs)):fC E' (us.drop (j*k)) k 0 (dd (xs.drop j)):=by
 refine fC.iI fun i c hc=>?_
 simp only[dd,bn,mG,dO]at hc;obtain⟨d,h1,rfl⟩:=hc;obtain⟨h2,h3⟩:=h.get (i:=j+i) (e:=d.map .d) (by grind[dd]);refine⟨h2,cu.iI fun q tv hq=>?_⟩;obtain⟨u,h4,h5,h6⟩:=h3.get hq;refine⟨u,?_,h5,?_⟩
 ·grind
 ·simp only[bn,dO]at hq
  grind[aP,Rep.ext]
def isS(k:Nat):Pl→Bool
 | .s j=>k==j
 | _=>false
def isO(k:Nat):Pl→Bool
 | .o j=>k==j
 | _=>false
def UQ(s id:Nat):List (Pl×It)→List (Pl×It)
 | []=>[]
 | x::l=>if isS s x.1||isO id x.1 then UQ s id l else x::UQ s id l
theorem GS.cut{l l':List (Pl×It)}(l0:List (Pl×It))(s id:Nat){n j k:Nat}{e:TypeId}{xs:List (List D)}(hs:look l (.s s) = .v (.LG id n j))(ht:look l (.o id) = .sJ e k (dd xs))(hn:n=xs.length)(hj:j≤n)
  (h:Sub (look l) l0∧lu l0=lu l) (hid:id∉oz l0)
  (h':Sub (look (jL (.s s) (.v (.aW id (n-j))) (jL (.o id) (.sJ e k (dd (xs.drop j))) l0))) l'∧lu l'=lu (jL (.s s) (.v (.aW id (n-j))) (jL (.o id) (.sJ e k (dd (xs.drop j))) l0))):GS A (look l) (look l'):=by
 refine GS.trans (u:=look (jL (.s s) (.v (.aW id (n-j))) (jL (.o id) (.sJ e k (dd (xs.drop j))) l0))) (fun a w ⟨E,hw,hi⟩=>?_) (GS.forget h'.1 h'.2);have hi1:=hi.forget h.1 (abj h.1.1 h.2);obtain⟨hblk,v,us,hval,hown,hrel,_⟩:=Eo hi ht;obtain⟨u,hu1,hu2⟩:=hi.sl s _ hs;have hlen:(dd xs).length=xs.length:=by simp
 rw[hlen]at hval hown
 subst hn;simp only[aP]at hu2;obtain⟨hone,k',c,v',hv',_,he⟩:=hu2;rw[hval]at hv'
 simp only[ah,aO]at hv';obtain⟨rfl,rfl,rfl⟩:=hv';obtain⟨b,of,cp,o2,rfl,_,ho2,hu⟩:=he rfl;obtain⟨hl0,g,of',cap,cur,hvv,hg,hnc,hcm,hcs,htk⟩:=hown;simp only[Value.slice.injEq,ah,Addr.mk.injEq]at hvv;obtain⟨⟨rfl,rfl,_⟩,_,rfl⟩:=hvv;have abU:E.own (.o id)=some b:=by grind[En.own,Value.ownBlock]
 rw[←je,←je]
 let E1:=E.res (oz l0)
 have b1:E1.blk (.o id)=none:=by grind[En.res]
 have v1:E1.val id=none:=by grind[En.res]
 let E2:En:={E1 with val:=fun i=>if i=id then some (k,xs.length-j,u)else E1.val i}
 have v2:E2.val id=some (k,xs.length-j,u):=by grind
 have x12:oQ E1 E2:=by
  refine⟨fun _ _ h=>h,fun _ _ _=>rfl,fun _ _ _ h=>h,fun _ _ h=>h,fun _ _ h=>h,fun i k' c u' _ hu'=>?_⟩
  grind
 have ahj:∀{p b'},E2.own p=some b'→(p = .o id∧b'=b)∨(p≠.o id∧E1.own p=some b'):=fun {p b'} hp=>by
  by_cases e:p = .o id
  ·subst e;refine .inl ⟨rfl,?_⟩
   grind[En.own,Value.ownBlock]
  ·have h3:E2.own p=E1.own p:=En.mV rfl (fun i hi=>by grind)
   simp_all
 have akV:∀{p b'},E1.own p=some b'→E.own p=some b':=fun h=>(En.res_own h).1
 have hbs:b<E.w.heap.size:=(aZ.1 hg).1;have hjk:j*k≤xs.length*k:=dN _ (by omega);have avX:(cp-j)*k=cp*k-j*k:=Nat.sub_mul _ _ _;have hnk:(xs.length-j)*k=xs.length*k-j*k:=Nat.sub_mul _ _ _;have hcp:xs.length*k≤cp*k:=dN _ hnc;have hq:Ir E2.w e k u (xs.length-j) (us.drop (j*k)):=by
  rcases ho2 with rfl|⟨rfl,hz⟩
  ·refine⟨by rw[List.length_drop,hl0,hnk],b,of+j*k,cp-j,cur,hu,hg,by omega,by omega,by omega,?_⟩
   grind[List.drop_take,List.drop_drop]
  ·have hz2:xs.length-j=0:=by omega
   refine⟨by rw[List.length_drop,hl0,hnk],b,o2,cp-j,cur,hu,hg,by omega,by omega,by omega,?_⟩;rw[hz2,Nat.zero_mul,List.take_zero]
   grind
 have hlen2:(dd (xs.drop j)).length=xs.length-j:=by simp
 have hH:lD E2 (upd (look l0) (.o id) (.sJ e k (dd (xs.drop j)))):=by
  refine⟨fun p hp=>?_,hi1.h.frees,fun p q b' g1 g2=>?_,fun p b' g1=>?_,hi1.h.o_,fun b' o g1 p g2=>?_,fun y hy=>dU.ext x12.r _ _ _ (hi1.h.gl y hy)⟩
  ·by_cases e:p = .o id
   ·subst e;simp only[upd,if_true];exact⟨b1,id,u,us.drop (j*k),rfl,by simp[*],by simp_all,ahT (E:=E) (E':=E2) ⟨fun _ _ h=>h,fun _ _ _=>rfl⟩ hrel⟩
   ·simp only[upd,if_neg e];exact(hi1.h.item p hp).up x12 rfl (fun i hi=>by grind) (fun _ _=>rfl)
  ·rcases ahj g1 with⟨rfl,rfl⟩|⟨n1,g1⟩<;>rcases ahj g2 with⟨rfl,h2⟩|⟨n2,g2⟩
   ·rfl
   ·exact(hi.h.inj _ _ _ abU (akV g2))
   ·subst h2;exact(hi.h.inj _ _ _ (akV g1) abU)
   ·exact hi1.h.inj _ _ _ g1 g2
  ·rcases ahj g1 with⟨rfl,rfl⟩|⟨_,g1⟩
   ·exact hbs
   ·exact hi1.h.size _ _ g1
  ·rcases ahj g2 with⟨rfl,rfl⟩|⟨n2,g2⟩
   ·exact absurd abU (J_ hi ht g1)
   ·obtain⟨e2,k2,es2,g3,g4⟩:=hi1.h.sep b' o g1 p g2;exact⟨e2,k2,es2,by simp only[upd,if_neg n2];exact g3,g4⟩
 refine⟨E2,hw,⟨hH.slot s _,⟨hi1.fr.os,hi1.fr.tape,hi1.fr.output,hi1.fr.size,hi1.fr.old,hi1.fr.xb,fun i b' g1=>?_,hi1.fr.st,hi1.fr.xE⟩,fun q tv hq'=>?_,hi1.defers,hi1.size⟩⟩
 ·rcases ahj g1 with⟨g2,rfl⟩|⟨_,g2⟩
  ·exact hi.fr.new id _ abU
  ·exact hi1.fr.new i b' g2
 ·by_cases eq:q=s
  ·subst eq;simp only[upd,if_true,It.v.injEq]at hq';subst hq';exact⟨u,hu1,by simp only[aP];exact⟨hone,k,_,u,v2,au _,fun _=>rfl⟩⟩
  ·simp only[upd,Pl.s.injEq,eq,if_false,reduceCtorEq]at hq';obtain⟨u',g1,g2⟩:=hi1.sl q tv hq';exact⟨u',g1,g2.up x12⟩
end
attribute [simp] isS isO UQ
end Go.Tr

namespace Go.Tr
open Go
theorem aI.view{P:Program}{A:f_}{ops:Array Oper}{i:Nat}{t:S}{k:List Pl→List (Pl×It)→Prop}{g:Tg k}(ss:List Nat)
  (h:(og t (ss.map .tmp)).C∧aI P A ops i (over t (og t (ss.map .tmp)).W) (fun rp W=>k ((og t (ss.map .tmp)).rp++rp) (W++(og t (ss.map .tmp)).W)) .mk):aI P A ops i t k g:=by
 obtain⟨h0,⟨rp,W,h1,h2⟩⟩:=h;exact⟨⟨_,_,h1.viewed _ h0,h2⟩⟩
end Go.Tr
