/-
  What functions of the program compute, stated as contracts over plain data; the conditions of each stand in its own statement.
-/
import Derived.Test.YtboimfkommpglaaGreatDoorZB12
import Derived.Lib.SlicesCompact
import Derived.Test.YtboimfkommpglaaGreatDoorZB10
set_option linter.unusedSimpArgs false
set_option linter.unusedVariables false
namespace Go.Tr
open Go
section
variable {A:jL}
theorem iI.acn{t:S}{a:Act}{E:En}{id e k:Nat}{es es':List (List TV)}{sh:Bool}(hi:iI A t a E)(ht:t (.o id) = .row e k es sh)(hl:es'.length=es.length)(hrel:∀us,iJ E us k 0 es→iJ E us k 0 es'):
  iI A (upd t (.o id) (.row e k es' sh)) a E:=by
 refine⟨⟨fun q hq=>?_,hi.h.frees,hi.h.inj,hi.h.size,hi.h.uP,fun b o h1 q h2=>?_,hi.h.gl⟩,hi.fr,fun j tv hj=>?_,hi.defers,hi.size⟩
 ·by_cases eq:q = .o id
  ·subst eq;have h:=hi.h.item (.o id) hq;rw[ht]at h
   simp only[upd,if_true];obtain⟨h1,id',v,us,h2,h3,h4,h5⟩:=h;simp only[Pl.o.injEq]at h2;exact⟨h1,id,v,us,rfl,by simp[*],by simp[*],hrel us h5⟩
  ·simp only[upd,if_neg eq];exact hi.h.item q hq
 ·obtain⟨e2,k2,es2,h3,h4⟩:=hi.h.sep b o h1 q h2;by_cases eq:q = .o id
  ·subst eq;rw[ht]at h3
   grind[upd]
  ·exact⟨e2,k2,es2,by simp only[upd,if_neg eq];omega,h4⟩
 ·exact hi.sl j tv hj
theorem GS.wH{t:S}{qL e0 k0:Nat}{es0:List (List TV)}{NJ:Bool}{i j:Nat}{r:List TV}{id n e k:Nat}{es:List (List TV)}{sh:Bool}{xs:List (List D)}(h0:t (.o qL) = .row e0 k0 es0 NJ)(hne:qL≠id)
  (hr:es0[i]? = some r) (hj:r[j]? = some (.bK id n)) (ht:t (.o id) = .row e k es sh) (hn:n=es.length) (hx:iH es=some xs) :
  GS A t (upd (upd t (.o id) (.row e k es true)) (.o qL) (.row e0 k0 (es0.set i (r.set j (.d (.sl xs)))) NJ)):=fun a w ⟨E,hw,hi⟩=>by
 obtain⟨E',hw',x,hb,hv,hi',hr',_⟩:=hi.freeze ht hx;have hil:i<es0.length:=by grind
 refine⟨E',hw'.trans hw,hi'.acn (es:=es0) (by simp only[upd,Pl.o.injEq,if_neg hne];omega) (by simp) fun us hrel=>iJ.lq fun i' el hel=>?_⟩;rw[yK hil]at hel
 by_cases ei:i'=i
 ·subst ei;rw[if_pos rfl]at hel
  simp only[aj]at hel;subst hel;obtain⟨g1,g2⟩:=hrel.get hr;have hjl:j<r.length:=by grind
  refine⟨by simp[*],eP.lq fun m tv hm=>?_⟩;rw[yK hjl]at hm
  by_cases em:m=j
  ·subst em;rw[if_pos rfl]at hm
   simp only[aj]at hm;obtain⟨u,k1,k2,k3⟩:=g2.get hj
   grind[aV]
  ·rw[if_neg em]at hm
   exact g2.get hm
 ·rw[if_neg ei]at hel
  exact hrel.get hel
theorem Fin.wH{P:Program}{A:jL}{fn:Func}{rv:TV}{xo:List It}{ro:List (Nat×It)}{l:List (Pl×It)}(qL i j id:Nat){e0 k0:Nat}{es0:List (List TV)}{NJ:Bool}{r:List TV}{n e k:Nat}{es:List (List TV)}{sh:Bool}{xs:List (List D)}(h0:look l (.o qL) = .row e0 k0 es0 NJ)(hne:qL≠id)
  (hr:es0[i]? = some r) (hj:r[j]? = some (.bK id n)) (ht:look l (.o id) = .row e k es sh) (hn:n=es.length) (hx:iH es=some xs)
  (h:Fin P A fn rv xo ro (look (oC (.o qL) (.row e0 k0 (es0.set i (r.set j (.d (.sl xs)))) NJ) (oC (.o id) (.row e k es true) l)))):Fin P A fn rv xo ro (look l):=by
 have:=GS.wH (A:=A) h0 hne hr hj ht hn hx;rw[lZ,lZ]at this
 exact h.ghost this
def wQ(a b k:Nat):Nat:=if k=a then b else k
def yC(a b:Nat):Pl→Pl
 | .o k=>.o (wQ a b k)
 | p=>p
mutual
def TV.ren(a b:Nat):TV→TV
 | .agg vs=>.agg (TV.vP a b vs)
 | .sZ vs=>.sZ (TV.vP a b vs)
 | .clo f vs=>.clo f (TV.vP a b vs)
 | .bK id n=>.bK (wQ a b id) n
 | .tV id n i q=>.tV (wQ a b id) n i q
 | .mref id=>.mref (wQ a b id)
 | .Qg id n j=>.Qg (wQ a b id) n j
 | .ptr p q=>.ptr (yC a b p) q
 | v=>v
def TV.vP(a b:Nat):List TV→List TV
 | []=>[]
 | v::vs=>v.ren a b::TV.vP a b vs
end
def qU(a b:Nat):It→It
 | .v t=>.v (t.ren a b)
 | .box cs=>.box (TV.vP a b cs)
 | .row e k es sh=>.row e k (es.map (TV.vP a b)) sh
 | .yj e k es=>.yj e k (es.map (TV.vP a b))
 | .jA es c pd s=>.jA (es.map fun x=>(x.1,x.2.ren a b)) c pd s
 | .Fb m s left cur=>.Fb (if m=a then b else m) s left cur
 | .Mc es s=>.Mc (es.map fun x=>(x.1,x.2.ren a b)) s
 | i=>i
def En.ren(E:En)(a b:Nat):En:=
 {E with blk:=fun p=>match p with|.o k=>if k=b then E.blk (.o a)else if k=a then none else E.blk (.o k)|p=>E.blk p,
         val:=fun k=>if k=b then E.val a else if k=a then none else E.val k}
mutual
theorem QJ{E:En}{a b:Nat}(hab:a≠b)(hb:E.blk (.o b)=none)(hv:E.val b=none):∀{v:TV} {u:Value},aV E v u→aV (E.ren a b) (v.ren a b) u
 | .junk,u,_=>by trivial
 | .d x,u,h=>by exact Rep.ext (E:=E) (E':=E.ren a b) ⟨fun _ _ h=>h,fun _ _ _=>rfl⟩ x u h
 | .c v,u,h=>by trivial
 | .agg vs,u,h=>by obtain⟨us,hu,h⟩:=h;exact⟨us,hu,MV hab hb hv h⟩
 | .sZ vs,u,h=>by obtain⟨us,hu,h⟩:=h;exact⟨us,hu,MV hab hb hv h⟩
 | .bK id n,u,h=>by
   obtain⟨h1,k,c,v,h2,h3⟩:=h;have hne:id≠b:=by grind
   refine⟨h1,k,c,v,?_,h3⟩;by_cases e:id=a
   ·subst e;simp only[wQ,En.ren,if_true];omega
   ·simp only[wQ,En.ren,if_neg e,if_neg hne];omega
 | .ptr (.o id) q,u,h=>by
   simp only[TV.ren,yC,aV]at h⊢;obtain⟨b',h1,h2⟩:=h;have hne:id≠b:=by grind
   refine⟨b',?_,h2⟩;by_cases e:id=a
   ·subst e;simp only[wQ,En.ren,if_true];omega
   ·simp only[wQ,En.ren,if_neg e,if_neg hne];omega
 | .ptr (.x i) q,u,h=>by trivial
 | .ptr (.s i) q,u,h=>by trivial
 | .ep e q,u,h=>by obtain⟨b',o,hu,hc⟩:=h;exact⟨b',o,hu,gq.ext (E:=E) (E':=E.ren a b) ⟨fun _ _ h=>h,fun _ _ _=>rfl⟩ b' o e hc⟩
 | .tV id n i q,u,h=>by
   obtain⟨h1,k,c,v,h2,h3⟩:=h;have hne:id≠b:=by grind
   refine⟨h1,k,c,v,?_,h3⟩;by_cases e:id=a
   ·subst e;simp only[wQ,En.ren,if_true];omega
   ·simp only[wQ,En.ren,if_neg e,if_neg hne];omega
 | .Qg id n i,u,h=>by
   obtain⟨h1,k,c,v,h2,h3⟩:=h;have hne:id≠b:=by grind
   refine⟨h1,k,c,v,?_,h3⟩;by_cases e:id=a
   ·subst e;simp only[wQ,En.ren,if_true];omega
   ·simp only[wQ,En.ren,if_neg e,if_neg hne];omega
 | .mref id,u,h=>by
   simp only[TV.ren,aV]at h⊢;obtain⟨b',h1,h2⟩:=h;have hne:id≠b:=by grind
   refine⟨b',?_,h2⟩;by_cases e:id=a
   ·subst e;simp only[wQ,En.ren,if_true];omega
   ·simp only[wQ,En.ren,if_neg e,if_neg hne];omega
 | .sx xs,u,h=>by simp only[TV.ren,aV]at h⊢;exact⟨Rep.ext (E:=E) (E':=E.ren a b) ⟨fun _ _ h=>h,fun _ _ _=>rfl⟩ (.sl xs) u h.1,h.2⟩
 | .clo f vs,u,h=>by simp only[TV.ren,aV]at h⊢;obtain⟨us,hu,h⟩:=h;exact⟨us,hu,MV hab hb hv h⟩
theorem MV{E:En}{a b:Nat}(hab:a≠b)(hb:E.blk (.o b)=none)(hv:E.val b=none):∀{vs:List TV} {us:List Value},b_ E vs us→b_ (E.ren a b) (TV.vP a b vs) us
 | [],us,h=>by trivial
 | v::vs,us,h=>by simp only[TV.vP,b_]at h⊢;obtain⟨u,us',hu,h1,h2⟩:=h;exact⟨u,us',hu,QJ hab hb hv h1,MV hab hb hv h2⟩
end
theorem Ie{a b:Nat}:∀vs:List TV,(TV.vP a b vs).length=vs.length
 | []=>by rfl
 | v::vs=>by simp only[TV.vP,aT,Ie vs]
theorem Um{E:En}{a b:Nat}(hab:a≠b)(hb:E.blk (.o b)=none)(hv:E.val b=none){us:List Value}:∀{o:Nat} {vs:List TV},eP E us o vs→eP (E.ren a b) us o (TV.vP a b vs)
 | _,[],_=>by trivial
 | _,_::_,⟨⟨u,h1,h2,h3⟩,r⟩=>by exact⟨⟨u,h1,h2,QJ hab hb hv h3⟩,Um hab hb hv r⟩
theorem ach{E:En}{a b:Nat}(hab:a≠b)(hb:E.blk (.o b)=none)(hv:E.val b=none){us:List Value}{k:Nat}:∀{o:Nat} {es:List (List TV)},iJ E us k o es→iJ (E.ren a b) us k o (es.map (TV.vP a b))
 | _,[],_=>trivial
 | _,_::_,⟨h1,h2,r⟩=>⟨(Ie _).trans h1,Um hab hb hv h2,ach hab hb hv r⟩
theorem alD{E:En}{a b:Nat}(hab:a≠b)(hb:E.blk (.o b)=none)(hv:E.val b=none):∀{es:List (List Int×TV)} {l:List MapEntry},nH E es l→nH (E.ren a b) (es.map fun x=>(x.1,x.2.ren a b)) l
 | [],_,h=>h
 | _::_,_,⟨e,l',rfl,h1,h2,h3⟩=>⟨e,l',rfl,h1,QJ hab hb hv h2,alD hab hb hv h3⟩
theorem ajF{E:En}{a b:Nat}(hab:a≠b)(k:Nat):(E.ren a b).own (.o k)=if k=b then E.own (.o a)else if k=a then none else E.own (.o k):=by
 by_cases e1:k=b
 ·subst e1;simp[En.own,En.ren]
 ·by_cases e2:k=a
  ·subst e2;simp[En.own,En.ren,e1]
  ·simp[En.own,En.ren,e1,e2]
theorem Uo{E:En}{a b:Nat}(hab:a≠b)(hb:E.blk (.o b)=none)(hv:E.val b=none){p p':Pl}{i:It}(h:zD E p i)(hp:∀k,p≠.s k)
  (h1:(E.ren a b).blk p'=E.blk p) (h2:(∀k,p' = .o k→(∃j,p = .o j∧(E.ren a b).val k=E.val j))∧∀j,p = .o j→∃k,p' = .o k):zD (E.ren a b) p' (qU a b i):=by
 cases i with
 | none=>intro k e;obtain⟨j,g1,g2⟩:=h2.1 k e;rw[h1,g2];exact h j g1
 | v t=>
   show(E.ren a b).own p'=none
   have h:E.own p=none:=h;cases p' with
   | o k=>grind[En.own]
   | s k=>cases p with
     | o j=>simp_all
     | s j=>simp_all
     | x j=>grind[En.own]
   | x k=>cases p with
     | o j=>simp_all
     | s j=>simp_all
     | x j=>grind[En.own]
 | box cs=>
   obtain⟨h0,b',ty,us,g1,g2,g3,g4⟩:=h;refine⟨fun k e=>?_,b',ty,us,h1.trans g1,g2,by grind[Ie],Um hab hb hv g4⟩
   grind
 | row e k es sh=>obtain⟨h0,id,v,us,rfl,g2,g3,g4⟩:=h;obtain⟨k',e'⟩:=h2.2 id rfl;obtain⟨j,k1,k2⟩:=h2.1 k' e';simp only[Pl.o.injEq]at k1;subst k1;exact⟨h1.trans h0,k',v,us,e',by simp[*],by rw[aN];trivial,ach hab hb hv g4⟩
 | yj e k es=>obtain⟨h0,id,v,us,rfl,g2,g3,g4⟩:=h;obtain⟨k',e'⟩:=h2.2 id rfl;obtain⟨j,k1,k2⟩:=h2.1 k' e';simp only[Pl.o.injEq]at k1;subst k1;exact⟨h1.trans h0,k',v,us,e',by simp[*],by rw[aN];trivial,ach hab hb hv g4⟩
 | mp es=>
   obtain⟨h0,b',l,clock,g1,g2,g3,g4⟩:=h;refine⟨fun k e=>?_,b',l,clock,h1.trans g1,g2,uV.ext (E:=E) (E':=E.ren a b) ⟨fun _ _ h=>h,fun _ _ _=>rfl⟩ g3,g4⟩
   grind
 | jA es c pd s=>obtain⟨id,b',l,clock,l',ty,v,rfl,g1,g2,g3,g4,g5,g6,g7,g8⟩:=h;obtain⟨k',e'⟩:=h2.2 id rfl;obtain⟨j,k1,k2⟩:=h2.1 k' e';simp only[Pl.o.injEq]at k1;subst k1;exact⟨k',b',l,clock,l',ty,v,e',h1.trans g1,g2,g3,alD hab hb hv g4,g5,k2.trans g6,g7,g8⟩
 | Mc es s=>
   obtain⟨h,g1,g2,g3,l',g4,g5⟩:=h;refine⟨?_,g1,g2,g3,l',g4,alD hab hb hv g5⟩;cases p' with
   | o k=>grind[En.own]
   | s k=>cases p with
     | o j=>simp_all
     | s j=>simp_all
     | x j=>grind[En.own]
   | x k=>cases p with
     | o j=>simp_all
     | s j=>simp_all
     | x j=>grind[En.own]
 | Fb m s left cur=>
   obtain⟨h0,r,seen,g1,g2,g3⟩:=h;refine⟨fun k e=>?_,r,seen,h1.trans g1,g2,g3⟩
   grind
def Un(a b:Nat)(t:S):S:=fun p=>match p with
 | .o k=>if k=b then qU a b (t (.o a))else if k=a then .none else qU a b (t (.o k))
 | p=>qU a b (t p)
theorem GS.ren{t:S}{a b:Nat}(hab:a≠b)(ho:t (.o b) = .none):GS A t (Un a b t):=fun c w ⟨E,hw,hi⟩=>by
 have hbn:=hi.h.item (.o b) (by simp);rw[ho]at hbn
 obtain⟨hb,hv⟩:=hbn b rfl;have hox:∀i,(E.ren a b).own (.x i)=E.own (.x i):=fun i=>rfl
 have hos:∀i,(E.ren a b).own (.s i)=E.own (.s i):=fun i=>rfl
 have back:∀{p q},(E.ren a b).own p=some q→∃p',E.own p'=some q∧((p' = .o a∧p = .o b)∨(p'=p∧p≠.o a∧p≠.o b)):=fun {p q} h=>by
  cases p with
  | s k=>simp_all
  | x k=>simp_all
  | o k=>
    rw[ajF hab]at h
    grind
 refine⟨E.ren a b,hw,⟨⟨fun p hp=>?_,hi.h.frees,fun p q r h1 h2=>?_,fun p r h=>?_,hi.h.uP,fun r o h1 p h2=>?_,fun y hy=>gq.ext (E:=E) (E':=E.ren a b) ⟨fun _ _ h=>h,fun _ _ _=>rfl⟩ _ _ _ (hi.h.gl y hy)⟩,?_,fun k tv hk=>?_,hi.defers,hi.size⟩⟩
 ·cases p with
  | s k=>simp_all
  | x k=>exact Uo hab hb hv (hi.h.item (.x k) hp) hp rfl ⟨fun k e=>by trivial,fun j e=>by trivial⟩
  | o k=>
    simp only[Un];split
    ·rename_i e;subst e;exact Uo hab hb hv (hi.h.item (.o a) (by simp)) (by simp) (by simp[En.ren]) ⟨fun k e=>⟨a,rfl,by grind[En.ren]⟩,fun j _=>⟨_,rfl⟩⟩
    ·split
     ·rename_i e2;subst e2;exact fun j e=>by grind[En.ren]
     ·rename_i e2;exact Uo hab hb hv (hi.h.item (.o k) hp) hp (by grind[En.ren]) ⟨fun j e=>⟨k,rfl,by grind[En.ren]⟩,fun j _=>⟨_,rfl⟩⟩
 ·obtain⟨p',g1,g2⟩:=back h1;obtain⟨q',g3,g4⟩:=back h2;have:=hi.h.inj p' q' r g1 g3
  grind
 ·obtain⟨p',g1,_⟩:=back h;exact hi.h.size p' r g1
 ·obtain⟨p',g1,g2⟩:=back h2;obtain⟨e,k,es,g3,g4⟩:=hi.h.sep r o h1 p' g1;refine⟨e,k,es.map (TV.vP a b),?_,by simp[*]⟩;rcases g2 with⟨rfl,rfl⟩|⟨rfl,e2,e3⟩
  ·simp only[Un,if_true,g3];rfl
  ·cases p' with
   | s k=>have:=hi.h.frees k;grind[En.own]
   | x k=>simp only[Un,g3];rfl
   | o k=>
     have n1:k≠b:=by simp_all
     have n2:k≠a:=by simp_all
     simp only[Un,if_neg n1,if_neg n2,g3];rfl
 ·refine⟨hi.fr.os,hi.fr.tape,hi.fr.output,hi.fr.size,hi.fr.old,hi.fr.xb,fun id r h=>?_,hi.fr.st,hi.fr.AU⟩;obtain⟨p',g1,g2⟩:=back h;rcases g2 with⟨rfl,_⟩|⟨rfl,_,_⟩
  ·exact hi.fr.new a r g1
  ·exact hi.fr.new id r g1
 ·simp only[Un]at hk;cases ht:t (.s k)with
  | v tv'=>
    rw[ht]at hk
    simp only[qU,It.v.injEq]at hk;subst hk;obtain⟨u,h1,h2⟩:=hi.sl k tv' ht
    grind[QJ]
  | none=>grind[qU]
  | box _=>grind[qU]
  | row _ _ _ _=>grind[qU]
  | yj _ _ _=>grind[qU]
  | mp _=>grind[qU]
  | jA _ _ _ _=>grind[qU]
  | Fb _ _ _ _=>grind[qU]
  | Mc _ _=>grind[qU]
def O1(a b:Nat)(l:List (Pl×It)):List (Pl×It):=l.map fun x=>(yC a b x.1,qU a b x.2)
theorem BD{a b:Nat}(hab:a≠b):∀{l:List (Pl×It)},b∉sG l→Un a b (look l)=look (O1 a b l)
 | [],_=>by funext p;cases p<;>simp[Un,look,O1,qU]
 | (q,i)::l,h=>by
   have hl:b∉sG l:=by cases q<;>simp_all [sG]
   have ih:=fun p=>congrFun (BD hab hl) p
   have hq:q≠.o b:=fun e=>by subst e;simp[sG]at h
   funext p
   have hp:=ih p;simp only[O1]at hp;simp only[O1,aH,look];cases p with
   | s k=>
     simp only[Un,look]at hp⊢;cases q with
     | s j=>
       simp only[yC,Pl.s.injEq];by_cases e:k=j
       ·subst e;simp
       ·simp only[if_neg e];exact hp
     | x j=>simp only[yC,reduceCtorEq,if_false];exact hp
     | o j=>simp only[yC,reduceCtorEq,if_false];exact hp
   | x k=>
     simp only[Un,look]at hp⊢;cases q with
     | x j=>
       simp only[yC,Pl.x.injEq];by_cases e:k=j
       ·subst e;simp
       ·simp only[if_neg e];exact hp
     | s j=>simp only[yC,reduceCtorEq,if_false];exact hp
     | o j=>simp only[yC,reduceCtorEq,if_false];exact hp
   | o k=>
     simp only[Un,look]at hp⊢;cases q with
     | s j=>simp only[yC,reduceCtorEq,if_false];exact hp
     | x j=>simp only[yC,reduceCtorEq,if_false];exact hp
     | o j=>
       have hj:j≠b:=fun e=>hq (by rw[e])
       simp only[yC,Pl.o.injEq,wQ];by_cases e1:k=b
       ·subst e1;simp only[if_true]at hp⊢;by_cases e2:j=a
        ·subst e2;simp
        ·simp only[if_neg e2,if_neg (fun h:a=j=>e2 h.symm),if_neg (fun h:k=j=>hj h.symm)];exact hp
       ·simp only[if_neg e1]at hp⊢;by_cases e2:k=a
        ·subst e2;simp only[if_true]at hp⊢;by_cases e3:j=k
         ·subst e3;simp only[if_true,if_neg e1];exact hp
         ·simp only[if_neg e3,if_neg (fun h:k=j=>e3 h.symm)];exact hp
        ·simp only[if_neg e2]at hp⊢;by_cases e3:j=a
         ·subst e3;simp only[if_true,if_neg e1,if_neg e2];exact hp
         ·simp only[if_neg e3];by_cases e4:k=j
          ·subst e4;simp
          ·simp only[if_neg e4];exact hp
theorem GS.ren'{l l':List (Pl×It)}(a b:Nat)(hab:a≠b)(hb:b∉sG l)(h:Sub (look (O1 a b l)) l'∧qE l'=qE (O1 a b l)):GS A (look l) (look l'):=by
 have:=GS.ren (A:=A) (t:=look l) hab (OH hb);rw[BD hab hb]at this
 exact this.trans (GS.forget h.1 h.2)
end
theorem Ig(a b:Nat):∀l:List D,TV.vP a b (l.map .d)=l.map .d
 | []=>rfl
 | x::l=>by simp[TV.vP,TV.ren,Ig a b l]
theorem Yl(a b:Nat)(xs:List (List D)):(dd xs).map (TV.vP a b)=dd xs:=by simp[dd,Ig]
section
variable (a b:Nat) (cs:List TV) (e k:Nat) (es:List (List TV)) (sh:Bool) (t:TV) (m:List (Int×D))
theorem Yk:qU a b (.v t) = .v (t.ren a b):=rfl
theorem H_:qU a b (.box cs) = .box (TV.vP a b cs):=rfl
theorem Ia:qU a b (.row e k es sh) = .row e k (es.map (TV.vP a b)) sh:=rfl
attribute [simp] Yk H_ Ia
end
attribute [simp] O1 yC wQ TV.ren TV.vP Yl
end Go.Tr

namespace Go.Tr
open Go
section
variable {A:jL}
theorem adQ{E:En}{us:List Value}:∀{o:Nat} {ts:List TV} {xs:List D},rJ ts=some xs→eP E us o ts→eP E us o (xs.map .d)
 | _,[],_,h,_=>by simp_all
 | _,t::ts,xs,h,⟨⟨u,h1,h2,h3⟩,hr⟩=>by
   simp only[rJ]at h;split at h
   ·rename_i x xs' g1 g2;simp only[aj]at h;subst h;exact⟨⟨u,h1,h2,by simp only[aV];exact YC g1 h3⟩,adQ g2 hr⟩
   trivial
theorem aiu{ts:List TV}{xs:List D}(h:rJ ts=some xs):xs.length=ts.length:=(Nw h).1
theorem Xe{E:En}{us:List Value}{k:Nat}:∀{o:Nat} {es:List (List TV)} {xs:List (List D)},iH es=some xs→iJ E us k o es→iJ E us k o (dd xs)
 | _,[],_,h,_=>by simp_all
 | _,e::es,xs,h,⟨h1,h2,hr⟩=>by
   simp only[iH]at h;split at h
   ·rename_i x xs' g1 g2;simp only[aj]at h;subst h;exact⟨by grind[aiu],adQ g1 h2,Xe g2 hr⟩
   trivial
theorem GS.plain{t:S}{id e k:Nat}{es:List (List TV)}{sh:Bool}{xs:List (List D)}(ht:t (.o id) = .row e k es sh)(hx:iH es=some xs):GS A t (upd t (.o id) (.row e k (dd xs) sh)):=fun a w ⟨E,hw,hi⟩=>⟨E,hw,hi.acn ht (by grind[dd,Ja]) fun _ h=>Xe hx h⟩
end
end Go.Tr

namespace Go.Tr
open Go
section
variable {P:Program} {A:jL}
theorem GS.yj{t:S}{id k:Nat}{e:TypeId}{es:List (List TV)}(ht:t (.o id) = .row e k es false)(hn:0<es.length):GS A t (upd t (.o id) (.yj e k es)):=fun a w ⟨E,hw,hi⟩=>by
 obtain⟨h0,v,us,h1,h2,h3,_⟩:=Bg hi ht;have hit:zD E (.o id) (.yj e k es):=by
  rcases h2.2 with⟨_,h4⟩|⟨g,cap,cur,rfl,_,hg,hnc,hcm,hcs,htk⟩
  ·omega
  ·exact⟨h0,id,_,us,rfl,h1,⟨h2.1,g,0,cap,cur,rfl,hg,hnc,hcm,by omega,by trivial⟩,h3⟩
 refine⟨E,hw,⟨⟨fun p hp=>?_,hi.h.frees,hi.h.inj,hi.h.size,hi.h.uP,fun b o hb p hp=>?_,hi.h.gl⟩,hi.fr,fun j tv hj=>hi.sl j tv (by trivial),hi.defers,hi.size⟩⟩
 ·by_cases e:p = .o id
  ·subst e;simpa only[upd,if_true]using hit
  ·simp only[upd,if_neg e];exact hi.h.item p hp
 ·obtain⟨e2,k2,es2,g1,g2⟩:=hi.h.sep b o hb p hp;have:p≠.o id:=by grind
  exact⟨e2,k2,es2,by simp only[upd,if_neg this];omega,g2⟩
theorem ah9{E E':En}(hr:P6 E E'){us:List Value}{k j:Nat}{xs:List (List D)}(h:iJ E us k 0 (dd xs)):iJ E' (us.drop (j*k)) k 0 (dd (xs.drop j)):=by
 refine iJ.lq fun i c hc=>?_
 simp only[dd,bC,jv,fV]at hc;obtain⟨d,h1,rfl⟩:=hc;obtain⟨h2,h3⟩:=h.get (i:=j+i) (e:=d.map .d) (by grind[dd]);refine⟨h2,eP.lq fun q tv hq=>?_⟩;obtain⟨u,h4,h5,h6⟩:=h3.get hq;refine⟨u,?_,h5,?_⟩
 ·grind
 ·simp only[bC,fV]at hq
  grind[aV,Rep.ext]
def isS(k:Nat):Pl→Bool
 | .s j=>k==j
 | _=>false
def isO(k:Nat):Pl→Bool
 | .o j=>k==j
 | _=>false
def Xy(s id:Nat):List (Pl×It)→List (Pl×It)
 | []=>[]
 | x::l=>if isS s x.1||isO id x.1 then Xy s id l else x::Xy s id l
theorem GS.cut{l l':List (Pl×It)}(l0:List (Pl×It))(s id:Nat){n j k:Nat}{e:TypeId}{xs:List (List D)}(hs:look l (.s s) = .v (.Qg id n j))(ht:look l (.o id) = .yj e k (dd xs))(hn:n=xs.length)(hj:j≤n)
  (h:Sub (look l) l0∧qE l0=qE l) (hid:id∉sG l0)
  (h':Sub (look (oC (.s s) (.v (.bK id (n-j))) (oC (.o id) (.yj e k (dd (xs.drop j))) l0))) l'∧qE l'=qE (oC (.s s) (.v (.bK id (n-j))) (oC (.o id) (.yj e k (dd (xs.drop j))) l0))):GS A (look l) (look l'):=by
 refine GS.trans (u:=look (oC (.s s) (.v (.bK id (n-j))) (oC (.o id) (.yj e k (dd (xs.drop j))) l0))) (fun a w ⟨E,hw,hi⟩=>?_) (GS.forget h'.1 h'.2);have hi1:=hi.forget h.1 (acI h.1.1 h.2);obtain⟨hblk,v,us,hval,hown,hrel,_⟩:=I9 hi ht;obtain⟨u,hu1,hu2⟩:=hi.sl s _ hs;have hlen:(dd xs).length=xs.length:=by simp
 rw[hlen]at hval hown
 subst hn;simp only[aV]at hu2;obtain⟨hone,k',c,v',hv',_,he⟩:=hu2;rw[hval]at hv'
 simp only[aj,aK]at hv';obtain⟨rfl,rfl,rfl⟩:=hv';obtain⟨b,of,cp,o2,rfl,_,ho2,hu⟩:=he rfl;obtain⟨hl0,g,of',cap,cur,hvv,hg,hnc,hcm,hcs,htk⟩:=hown;simp only[Value.slice.injEq,aj,Addr.mk.injEq]at hvv;obtain⟨⟨rfl,rfl,_⟩,_,rfl⟩:=hvv;have ada:E.own (.o id)=some b:=by grind[En.own,Value.ownBlock]
 rw[←lZ,←lZ]
 let E1:=E.res (sG l0)
 have b1:E1.blk (.o id)=none:=by grind[En.res]
 have v1:E1.val id=none:=by grind[En.res]
 let E2:En:={E1 with val:=fun i=>if i=id then some (k,xs.length-j,u)else E1.val i}
 have v2:E2.val id=some (k,xs.length-j,u):=by grind
 have x12:uG E1 E2:=by
  refine⟨fun _ _ h=>h,fun _ _ _=>rfl,fun _ _ _ h=>h,fun _ _ h=>h,fun _ _ h=>h,fun i k' c u' _ hu'=>?_⟩
  grind
 have ahU:∀{p b'},E2.own p=some b'→(p = .o id∧b'=b)∨(p≠.o id∧E1.own p=some b'):=fun {p b'} hp=>by
  by_cases e:p = .o id
  ·subst e;refine .inl ⟨rfl,?_⟩
   grind[En.own,Value.ownBlock]
  ·have h3:E2.own p=E1.own p:=En.qB rfl (fun i hi=>by grind)
   simp_all
 have akm:∀{p b'},E1.own p=some b'→E.own p=some b':=fun h=>(En.res_own h).1
 have hbs:b<E.w.heap.size:=(bZ.1 hg).1;have hjk:j*k≤xs.length*k:=f_ _ (by omega);have anh:(cp-j)*k=cp*k-j*k:=Nat.sub_mul _ _ _;have hnk:(xs.length-j)*k=xs.length*k-j*k:=Nat.sub_mul _ _ _;have hcp:xs.length*k≤cp*k:=f_ _ hnc;have hq:ML E2.w e k u (xs.length-j) (us.drop (j*k)):=by
  rcases ho2 with rfl|⟨rfl,hz⟩
  ·refine⟨by rw[kZ,hl0,hnk],b,of+j*k,cp-j,cur,hu,hg,by omega,by omega,by omega,?_⟩
   grind[List.drop_take,List.drop_drop]
  ·have hz2:xs.length-j=0:=by omega
   refine⟨by rw[kZ,hl0,hnk],b,o2,cp-j,cur,hu,hg,by omega,by omega,by omega,?_⟩;rw[hz2,Nat.zero_mul,List.take_zero]
   grind
 have hlen2:(dd (xs.drop j)).length=xs.length-j:=by simp
 have hH:pX E2 (upd (look l0) (.o id) (.yj e k (dd (xs.drop j)))):=by
  refine⟨fun p hp=>?_,hi1.h.frees,fun p q b' g1 g2=>?_,fun p b' g1=>?_,hi1.h.uP,fun b' o g1 p g2=>?_,fun y hy=>gq.ext x12.r _ _ _ (hi1.h.gl y hy)⟩
  ·by_cases e:p = .o id
   ·subst e;simp only[upd,if_true];exact⟨b1,id,u,us.drop (j*k),rfl,by simp[*],by simp_all,ah9 (E:=E) (E':=E2) ⟨fun _ _ h=>h,fun _ _ _=>rfl⟩ hrel⟩
   ·simp only[upd,if_neg e];exact(hi1.h.item p hp).up x12 rfl (fun i hi=>by grind) (fun _ _=>rfl)
  ·rcases ahU g1 with⟨rfl,rfl⟩|⟨n1,g1⟩<;>rcases ahU g2 with⟨rfl,h2⟩|⟨n2,g2⟩
   ·rfl
   ·exact(hi.h.inj _ _ _ ada (akm g2))
   ·subst h2;exact(hi.h.inj _ _ _ (akm g1) ada)
   ·exact hi1.h.inj _ _ _ g1 g2
  ·rcases ahU g1 with⟨rfl,rfl⟩|⟨_,g1⟩
   ·exact hbs
   ·exact hi1.h.size _ _ g1
  ·rcases ahU g2 with⟨rfl,rfl⟩|⟨n2,g2⟩
   ·exact absurd ada (OZ hi ht g1)
   ·obtain⟨e2,k2,es2,g3,g4⟩:=hi1.h.sep b' o g1 p g2;exact⟨e2,k2,es2,by simp only[upd,if_neg n2];exact g3,g4⟩
 refine⟨E2,hw,⟨hH.slot s _,⟨hi1.fr.os,hi1.fr.tape,hi1.fr.output,hi1.fr.size,hi1.fr.old,hi1.fr.xb,fun i b' g1=>?_,hi1.fr.st,hi1.fr.AU⟩,fun q tv hq'=>?_,hi1.defers,hi1.size⟩⟩
 ·rcases ahU g1 with⟨g2,rfl⟩|⟨_,g2⟩
  ·exact hi.fr.new id _ ada
  ·exact hi1.fr.new i b' g2
 ·by_cases eq:q=s
  ·subst eq;simp only[upd,if_true,It.v.injEq]at hq';subst hq';exact⟨u,hu1,by simp only[aV];exact⟨hone,k,_,u,v2,aI _,fun _=>rfl⟩⟩
  ·simp only[upd,Pl.s.injEq,eq,if_false,reduceCtorEq]at hq';obtain⟨u',g1,g2⟩:=hi1.sl q tv hq';exact⟨u',g1,g2.up x12⟩
end
attribute [simp] isS isO Xy
end Go.Tr

namespace Go.Proofs
open Go Go.Lib
theorem Xn:∀{a b:List Int},a.Pairwise (· < ·)→b.Pairwise (· < ·)→(∀x,x∈a↔x∈b)→a=b
 | [],[],_,_,_=>rfl
 | [],y::b,_,_,h=>by have:=(h y).2 (by simp);trivial
 | x::a,[],_,_,h=>by have:=(h x).1 (by simp);trivial
 | x::a,y::b,ha,hb,h=>by
   rw[fB]at ha hb
   have hxy:x=y:=by
    have h1:=(h x).1 (by simp);have h2:=(h y).2 (by simp)
    grind
   subst hxy
   congr 1
   refine Xn ha.2 hb.2 fun z=>?_
   grind
theorem YW(zs:List Int)(hs:zs.Pairwise (· ≤·)):∀m,m≤zs.length→(compactUpTo zs.toArray m).Pairwise (· < ·)∧(∀x,x∈compactUpTo zs.toArray m↔∃j,j<m∧zs[j]? = some x)
 | 0,_=>by simp[compactUpTo]
 | m+1,hm=>by
   obtain⟨h1,h2⟩:=YW zs hs m (by omega);have hget:∀j,j<zs.length→zs.toArray[j]! = zs.getD j 0:=fun j hj=>by simp[List.getD,hj]
   rw[compactUpTo_succ];have hmz:zs[m]? = some (zs.getD m 0):=by simp[List.getD,show m<zs.length by omega]
   have hle:∀j,j<m→zs.getD j 0≤zs.getD m 0:=fun j hj=>by have:=bT.1 hs j m (by omega) (by omega) hj;simpa[List.getD,show m<zs.length by omega,show j<zs.length by omega]using this
   cases hk:keeps zs.toArray m with
   | false=>
     have h3:0<m∧zs.toArray[m]! = zs.toArray[m-1]! :=by
      have hk' :¬(m=0∨zs.toArray[m]! ≠zs.toArray[m-1]!):=by simpa only[keeps,decide_eq_false_iff_not]using hk
      exact⟨Nat.pos_of_ne_zero fun e=>hk' (.inl e),Classical.byContradiction fun e=>hk' (.inr e)⟩
     rw[if_neg (by simp),aZ];refine⟨h1,fun x=>?_⟩;rw[h2];constructor
     ·rintro⟨j,hj,hx⟩;exact⟨j,by omega,hx⟩
     ·rintro⟨j,hj,hx⟩;by_cases e:j=m
      ·subst e;refine⟨j-1,by omega,?_⟩;have h4:=h3.2;rw[hget j (by omega),hget (j-1) (by omega)]at h4
       rw[hmz]at hx
       simp only[aj]at hx;rw[←hx,h4];simp[List.getD,show j-1<zs.length by omega]
      ·exact⟨j,by omega,hx⟩
   | true=>
     rw[if_pos rfl,hget m (by omega)];refine⟨?_,fun x=>?_⟩
     ·rw[jJ];refine⟨h1,by simp,fun x hx y hy=>?_⟩;simp at hy;subst hy;obtain⟨j,hj,hjx⟩:=(h2 x).1 hx;have hxj:zs.getD j 0=x:=by simp[List.getD,hjx]
      have:=hle j hj;have hne:zs.getD (m-1) 0≠zs.getD m 0:=by
       simp only[keeps,gJ,decide_eq_true_eq]at hk;rcases hk with h|h
       ·omega
       ·rw[hget m (by omega),hget (m-1) (by omega)]at h
        exact fun e=>h e.symm
      have hj1:zs.getD j 0≤zs.getD (m-1) 0:=by
       by_cases e:j=m-1
       ·subst e;omega
       ·have:=bT.1 hs j (m-1) (by omega) (by omega) (by omega);simpa[List.getD,show m-1<zs.length by omega,show j<zs.length by omega]using this
      have h5:=hle (m-1) (by omega);rw[←hxj]
      show zs.getD j 0<zs.getD m 0
      omega
     ·rw[aJ,h2];simp only[bn];constructor
      ·rintro (⟨j,hj,hx⟩|rfl)
       ·exact⟨j,by omega,hx⟩
       ·exact⟨m,by omega,hmz⟩
      ·rintro⟨j,hj,hx⟩;by_cases e:j=m
       ·subst e;rw[hmz]at hx;simp only[aj]at hx;exact .inr hx.symm
       ·exact .inl ⟨j,by omega,hx⟩
def insPos(n:Int):List Int→Nat
 | []=>0
 | y::r=>if y<n then insPos n r+1 else 0
def nT(l:List Int)(n:Int):List Int:=if l[insPos n l]? = some n then l else l.take (insPos n l)++[n]++l.drop (insPos n l)
theorem aeQ(n:Int):∀l:List Int,insPos n l≤l.length
 | []=>aI _
 | y::r=>by
   have:=aeQ n r
   grind[insPos]
theorem Py(n:Int):∀(l:List Int),∀x∈l.take (insPos n l),x<n
 | []=>by simp
 | y::r=>by
   simp only[insPos];split
   ·rename_i h;intro x hx;simp at hx;rcases hx with rfl|hx
    ·exact h
    ·exact Py n r x hx
   simp
theorem V_(n:Int):∀(l:List Int) (x:Int),l[insPos n l]? = some x→n≤x
 | [],x,h=>by trivial
 | y::r,x,h=>by
   simp only[insPos]at h;split at h
   ·exact V_ n r x (by simpa using h)
   ·simp at h;omega
theorem Ep{l:List Int}(n:Int)(h:l.Pairwise (· < ·)):(nT l n).Pairwise (· < ·)∧∀x,x∈nT l n↔x∈l∨x=n:=by
 unfold nT;split
 ·rename_i he;refine⟨h,fun x=>⟨.inl,fun hx=>hx.elim id fun e=>by subst e;exact bU he⟩⟩
 ·rename_i he;have hl:l.take (insPos n l)++l.drop (insPos n l)=l:=lS _ _;have hp:(l.take (insPos n l)++l.drop (insPos n l)).Pairwise (· < ·):=by rw[hl];exact h
  rw[jJ]at hp
  have hd:∀x∈l.drop (insPos n l),n<x:=fun x hx=>by
   cases hc:l.drop (insPos n l)with
   | nil=>rw[hc]at hx;simp at hx
   | cons y r=>
     have hy:l[insPos n l]? = some y:=by
      have:(l.drop (insPos n l))[0]? = some y:=by rw[hc];rfl
      simpa using this
     have h1:=V_ n l y hy;have h2:y≠n:=fun e=>he (by rw[hy,e])
     rw[hc]at hx
     rcases aG.1 hx with rfl|hx
     ·omega
     ·have:=hp.2.1;rw[hc,fB]at this
      have:=this.1 x hx;omega
  refine⟨?_,fun x=>?_⟩
  ·rw[eU,jJ];refine⟨hp.1,by simpa using⟨hd,hp.2.1⟩,fun a ha b hb=>?_⟩;have h1:=Py n l a ha;simp at hb;rcases hb with rfl|hb
   ·exact h1
   ·have:=hd b hb;omega
  ·have:x∈l↔x∈l.take (insPos n l)∨x∈l.drop (insPos n l):=by rw[←aJ,hl]
   rw[this];simp only[aJ,bn];constructor
   ·rintro ((h|h)|h)
    ·exact .inl (.inl h)
    ·exact .inr h
    ·exact .inl (.inr h)
   ·rintro ((h|h)|h)
    ·exact .inl (.inl h)
    ·exact .inr h
    ·exact .inl (.inr h)
end Go.Proofs

namespace Go.Proofs
open Go Go.Tr
abbrev Tp:=List Int×Nat
def ints(l:List Int):D:=.sl (l.map fun n=>[.int .i64 n])
def iG(T:Tp):It:=.box [.d (ints T.1),.d (.int .i64 T.2)]
def mW(T:Tp):Prop:=T.1.length≤600∧∀x∈T.1,I64 x
section
variable (t:S) (ν:List Pl) (b:Nat) (po:Nat→Prop) (T:Tp)
@[simp]theorem amj:Ub t ν (iG T)=some (iG T):=by rfl
@[simp]theorem alQ:J9 t (iG T)=True:=by simp[iG]
@[simp]theorem amk:MX (iG T) = []:=rfl
@[simp]theorem amh:KP ν b (iG T)=iG T:=rfl
@[simp]theorem anX:qM (iG T)=true:=rfl
@[simp]theorem ami:It.only po (iG T)=True:=by simp[iG]
end
def Ox(T:Tp):Int×Tp:=if T.1.length≤T.2 then(0,T)else(T.1.getD T.2 0,T.1,T.2+1)
def XO(x n:Int):Int:=if n<1 then 0 else x%n
def bH(T:Tp)(n:Int):Int×Tp:=(XO (Ox T).1 n,(Ox T).2)
def kD(T:Tp)(a b:Int):Int×Tp:=(a+(bH T (b-a+1)).1,(bH T (b-a+1)).2)
def Vl(T:Tp)(n:Int):Bool×Tp:=(decide ((bH T n).1=n-1),(bH T n).2)
def jW(T:Tp)(l:List Int):Int×Tp:=(l.getD (bH T l.length).1.toNat 0,(bH T l.length).2)
def an2:List Int:=[-1,0,1,7,8,23,24,31,32,63,64,99,100,255,256,257,1000,1001,1023,1024,1000000,1000001,1099511627776,9223372036854775807,-9223372036854775808]
def AL(T:Tp):Int×Tp:=jW T an2
theorem Oy(T:Tp):(Ox T).2.1=T.1:=by grind[Ox]
@[simp]theorem Qz(T:Tp):mW (Ox T).2=mW T:=by simp[mW,Oy]
@[simp]theorem am5(T:Tp)(n:Int):mW (bH T n).2=mW T:=Qz T
@[simp]theorem ama(T:Tp)(a b:Int):mW (kD T a b).2=mW T:=Qz T
@[simp]theorem aqJ(T:Tp)(n:Int):mW (Vl T n).2=mW T:=Qz T
@[simp]theorem am6(T:Tp)(l:List Int):mW (jW T l).2=mW T:=Qz T
theorem Zm(x n:Int):0≤XO x n:=by
 unfold XO;split
 ·simp
 ·exact jP _ (by omega)
theorem ai7(x:Int){n:Int}(h:0<n):XO x n<n:=by
 unfold XO;split
 ·omega
 ·exact iL _ h
theorem eX(T:Tp)(n:Int):0≤(bH T n).1:=Zm _ _
theorem iR(T:Tp){n:Int}(h:0<n):(bH T n).1<n:=ai7 _ h
theorem uZ(T:Tp)(a b:Int):a≤(kD T a b).1:=by have:=eX T (b-a+1);grind[kD]
theorem uY(T:Tp){a b:Int}(h:a≤b):(kD T a b).1≤b:=by have:=iR T (n:=b-a+1) (by omega);grind[kD]
theorem ait{x n:Int}(hn:0<n)(h:x.tmod n<0):x.tmod n+n=x%n:=by
 have h1:=jP x (b:=n) (by omega)
 grind
theorem ais{x n:Int}(hn:0<n)(h :¬x.tmod n<0):x.tmod n=x%n:=by
 have h1:=iL x hn
 grind
end Go.Proofs

namespace Go.Proofs
open Go Go.Tr
def bv(B:BitVec 64):D:=.int .u64 (tn B)
def dQ(n:Int):Bool:=n==8||n==16||n==32||n==64
def wV(k:Int):BitVec 64:=if k<0∨k>63 then 0#64 else 1#64<<<(IntKind.u64.wrap k).toNat
theorem uJ(n:Int):Contract Tryz.prog 167 [.d (.int .i64 n)] [] (.d (.bool (dQ n))) [] []:=by
 refine aC Tryz.func167 rfl (fun E0=>?_);refine iK.sound (g:=.mk) (ow:=[]) (kp:=(kb 5)) ?_;rw[Tryz.ntmps167];by_cases h1:n=8<;>by_cases h2:n=16<;>by_cases h3:n=32<;>first
  | omega
  | (simp -dsimp[h1,h2,h3]
     refine Fin.of ?_;simp[dQ,h1,h2,h3])
theorem qN(n:Int):Contract Tryz.prog 209 [.d (.int .i64 n)] [] (.d (.bool (dQ n))) [] []:=by
 refine aC Tryz.func209 rfl (fun E0=>?_);refine iK.sound (g:=.mk) (ow:=[]) (kp:=(kb 5)) ?_;rw[Tryz.ntmps209];by_cases h1:n=8<;>by_cases h2:n=16<;>by_cases h3:n=32<;>first
  | omega
  | (simp -dsimp[h1,h2,h3]
     refine Fin.of ?_;simp[dQ,h1,h2,h3])
theorem Q9(k:Int):Contract Tryz.prog 88 [.d (.int .i64 k)] [] (.d (bv (wV k))) [] []:=by
 refine aC Tryz.func88 rfl (fun E0=>?_);refine iK.sound (g:=.mk) (ow:=[]) (kp:=(kb 0x105)) ?_;rw[Tryz.ntmps88];by_cases h:k<0
 ·simp -dsimp[h];refine Fin.of ?_;simp[wV,h,bv]
 ·simp -dsimp[h];refine PZ.dec (fun g=>?_) (fun g=>?_)
  ·simp -dsimp;refine Fin.of ?_;simp[wV,g,bv]
  ·have h0:0≤IntKind.u64.wrap k:=by rw[BF];omega
   simp -dsimp[h0];refine Fin.of ?_;simp[wV,g,h,bv]
def Pm:Nat→BitVec 64
 | 0=>0#64
 | n+1=>Pm n|||wV n
def Ei(n:Int):BitVec 64:=if dQ n=true then Pm n.toNat else 0#64
theorem akP(k:Int):Contract Tryz.prog 169 [.d (.int .i64 k)] [] (.d (bv (Ei k))) [] []:=by
 refine aC Tryz.func169 rfl (fun E0=>?_);refine iK.sound (g:=.mk) (ow:=[]) (kp:=(kb 0x49d)) ?_;rw[Tryz.ntmps169];simp -dsimp;refine aF.of (uJ k) [] 0 ?_;cases hv:dQ k
 ·simp -dsimp[hv];refine Fin.of ?_;simp[Ei,hv,bv]
 ·have hk:0≤k∧k≤64:=by simp[dQ]at hv;omega
  simp -dsimp[hv];refine bY.of [] (kb 0x49d) (ι:={i:Nat // (i:Int)≤k}) (fun i=>[(.s 0,It.v (.d (.int .i64 k))),(.s 2,It.v (.d (.int IntKind.u64 0))),
    (.s 3,It.v (.d (bv (Pm i.1)))),(.s 4,It.v (.d (.int .i64 i.1)))]) (fun i=>k.toNat-i.1) ⟨0,hk.1⟩ ?_ ?_
  ·exact GS.to (by simp[Pm,bv])
  ·rintro⟨i,hi⟩;simp -dsimp[bv];refine PZ.dec (fun h=>?_) (fun h=>?_)
   ·simp -dsimp[bv];refine aF.of (Q9 i) [] 0 ?_;simp -dsimp[bv,wrap_i64 (n:=(i:Int)+1) (by omega) (by omega)];refine⟨⟨i+1,by omega⟩,GS.to (by simp[Pm,bv]),by simp;omega⟩
   ·simp -dsimp[bv];refine Fin.of ?_;have:k.toNat=i:=by omega
    simp[Ei,hv,bv,this]
def SK:Nat→Tp→List Int×Tp
 | 0,T=>([],T)
 | n+1,T=>((bH T 256).1::(SK n (bH T 256).2).1,(SK n (bH T 256).2).2)
def Zo(T:Tp)(most:Int):List Int×Tp:=SK (kD T 0 most).1.toNat (kD T 0 most).2
def agP(T:Tp)(k:Int):BitVec 64×Tp:=
 let r1:=Ox T
 let r2:=Ox r1.2
 let s:=bH r2.2 6
 if s.1=0 then(0#64,s.2)
 else if s.1=1 then(wV (bH s.2 k).1&&&Ei k,(bH s.2 k).2)
 else if s.1=2 then(~~~ 0#64&&&Ei k,s.2)
 else((wu (tn (wu r1.1)*11400714819323198485) ^^^ wu r2.1)&&&Ei k,s.2)
def xI:Nat→Nat→Tp→List Int→List Int×Tp
 | 0,_,T,out=>(out,T)
 | n+1,i,T,out=>xI n (i+1) (bH T (i+1)).2 (out.take (bH T (i+1)).1.toNat++[(i:Int)]++out.drop (bH T (i+1)).1.toNat)
def yx(T:Tp)(n:Int):List Int×Tp:=xI n.toNat 0 T []
structure Pk where
 mode:Int
 gU:Int
 set:Int
 len:Int
 ttl:Int
 ent:Int
 ing:Int
 proto:Int
 bits:BitVec 64
 pay:ByteArray
def Pk.cs(p:Pk):List D:=[.int .i64 p.mode,.int .i64 p.gU,.int .i64 p.set,.int .i64 p.len,.int .i64 p.ttl,.int .i64 p.ent,.int .i64 p.ing,.int .i64 p.proto,bv p.bits,.str p.pay]
def Zn(T:Tp):Pk×Tp:=
 let L:=jW T [8,8,16,32,64]
 let m:=kD L.2 1 3
 let d:=kD m.2 0 7
 let s:=jW d.2 [0,0,1,2,31]
 let t:=jW s.2 [0,1,2,5,63]
 let e:=bH t.2 1024
 let i:=jW e.2 [0,1,8,255,256]
 let p:=bH i.2 8
 let b:=agP p.2 L.1
 let y:=Zo b.2 6
 (⟨m.1,d.1,s.1,L.1,t.1,e.1,i.1,p.1,b.1,strOf y.1⟩,y.2)
theorem VZ:∀(n:Nat) (T:Tp),mW (SK n T).2=mW T
 | 0,T=>rfl
 | n+1,T=>by simp[SK,VZ n]
@[simp]theorem am8(T:Tp)(k:Int):mW (Zo T k).2=mW T:=by simp[Zo,VZ]
@[simp]theorem am1(T:Tp)(k:Int):mW (agP T k).2=mW T:=by
 simp only[agP];split
 ·simp
 ·split
  ·simp
  ·split<;>simp
def abc:ByteArray:=⟨#[97,98,99]⟩
def grow:Nat→ByteArray→ByteArray
 | 0,s=>s
 | n+1,s=>if s.size<62 then grow n (s++abc)else s
def ac8(T:Tp)(p:Pk):Pk×Tp:=
 let s:=bH T 9
 if s.1=0 then(⟨(AL s.2).1,p.gU,p.set,p.len,p.ttl,p.ent,p.ing,p.proto,p.bits,p.pay⟩,(AL s.2).2)
 else if s.1=1 then(⟨p.mode,(AL s.2).1,p.set,p.len,p.ttl,p.ent,p.ing,p.proto,p.bits,p.pay⟩,(AL s.2).2)
 else if s.1=2 then(⟨p.mode,p.gU,(AL s.2).1,p.len,p.ttl,p.ent,p.ing,p.proto,p.bits,p.pay⟩,(AL s.2).2)
 else if s.1=3 then(⟨p.mode,p.gU,p.set,(jW s.2 [0,8,16,24,63,64,65,-8]).1,p.ttl,p.ent,p.ing,p.proto,p.bits,p.pay⟩,(jW s.2 [0,8,16,24,63,64,65,-8]).2)
 else if s.1=4 then(⟨p.mode,p.gU,p.set,p.len,(AL s.2).1,p.ent,p.ing,p.proto,p.bits,p.pay⟩,(AL s.2).2)
 else if s.1=5 then(⟨p.mode,p.gU,p.set,p.len,p.ttl,(AL s.2).1,p.ing,p.proto,p.bits,p.pay⟩,(AL s.2).2)
 else if s.1=6 then(⟨p.mode,p.gU,p.set,p.len,p.ttl,p.ent,(AL s.2).1,p.proto,p.bits,p.pay⟩,(AL s.2).2)
 else if s.1=7 then(⟨p.mode,p.gU,p.set,p.len,p.ttl,p.ent,p.ing,(AL s.2).1,p.bits,p.pay⟩,(AL s.2).2)
 else(⟨p.mode,p.gU,p.set,p.len,p.ttl,p.ent,p.ing,p.proto,p.bits,grow 62 p.pay++strOf (Zo s.2 4).1⟩,(Zo s.2 4).2)
def ac7(T:Tp)(n:Int):Pk×Tp:=
 if 0<n then
  if(Vl (Zn T).2 n).1 then ac8 (Vl (Zn T).2 n).2 (Zn T).1 else((Zn T).1,(Vl (Zn T).2 n).2)
 else Zn T
def mM(p:Pk):TV:=.agg (p.cs.map .d)
set_option maxRecDepth 100000
structure Lk where
 a:Int
 b:Int
 ca:Int
 cb:Int
 cap:Int
def Lk.cs(x:Lk):List D:=[.int .i64 x.a,.int .i64 x.b,.int .i64 x.ca,.int .i64 x.cb,.int .i64 x.cap]
def pq(l:List Lk):List (List D):=l.map Lk.cs
def Lk.before(y x:Lk):Bool:=decide (y.a<x.a)||(decide (y.a=x.a)&&decide (y.b<x.b))
def ahs(x:Lk):List Lk→Nat
 | []=>0
 | y::r=>if y.before x then ahs x r+1 else 0
def anL:List Lk→List Lk→List Lk
 | [],out=>out
 | x::l,out=>anL l (out.take (ahs x out)++[x]++out.drop (ahs x out))
@[simp]theorem aqN(l:List Lk):(pq l).length=l.length:=by simp[pq]
theorem A8{l:List Lk}{i:Nat}{x:Lk}(h:l[i]? = some x):(pq l)[i]? = some x.cs:=by grind[pq]
set_option maxHeartbeats 2000000
def yU(n m:Int):Bool:=decide (0≤n)&&decide (n≤m)
theorem Es(n m:Int):Contract Tryz.prog 190 [.d (.int .i64 n),.d (.int .i64 m)] [] (.d (.bool (yU n m))) [] []:=by
 refine aC Tryz.func190 rfl (fun E0=>?_);refine iK.sound (g:=.mk) (ow:=[]) (kp:=(kb 0x13)) ?_;rw[Tryz.ntmps190];by_cases h:0≤n
 ·simp -dsimp[h];refine Fin.of ?_;simp[yU,h]
 ·simp -dsimp[h];refine Fin.of ?_;simp[yU,h]
theorem aeL(n m:Int):Contract Tryz.prog 187 [.d (.int .i64 n),.d (.int .i64 m)] [] (.d (.bool (yU n m))) [] []:=by
 refine aC Tryz.func187 rfl (fun E0=>?_);refine iK.sound (g:=.mk) (ow:=[]) (kp:=(kb 0x13)) ?_;rw[Tryz.ntmps187];by_cases h:0≤n
 ·simp -dsimp[h];refine Fin.of ?_;simp[yU,h]
 ·simp -dsimp[h];refine Fin.of ?_;simp[yU,h]
def yD(b:BitVec 64)(n:Int):Bool:=dQ n&&decide (b &&& ~~~ Ei n=0#64)
theorem aiA(b:BitVec 64)(n:Int):Contract Tryz.prog 191 [.d (bv b),.d (.int .i64 n)] [] (.d (.bool (yD b n))) [] []:=by
 refine aC Tryz.func191 rfl (fun E0=>?_);refine iK.sound (g:=.mk) (ow:=[]) (kp:=(kb 0x13)) ?_;rw[Tryz.ntmps191];simp -dsimp[bv];refine aF.of (uJ n) [] 0 ?_;cases h:dQ n
 ·simp -dsimp[h,bv];refine Fin.of ?_;simp[yD,h]
 ·simp -dsimp[h,bv];refine aF.of (akP n) [] 0 ?_;simp -dsimp[h,bv];refine Fin.of ?_;simp[yD,h]
theorem ai6(n:Int):Contract Tryz.prog 239 [.d (.int .i64 n)] [] (.d (bv (Ei n))) [] []:=by
 refine aC Tryz.func239 rfl (fun E0=>?_);refine iK.sound (g:=.mk) (ow:=[]) (kp:=(kb 0x25)) ?_;rw[Tryz.ntmps239];simp -dsimp[bv];refine aF.of (qN n) [] 0 ?_;cases h:dQ n
 ·simp -dsimp[h,bv];refine Fin.of ?_;simp[Ei,h]
 ·have hk:n=8∨n=16∨n=32∨n=64:=by simp[dQ]at h;omega
  simp -dsimp[h,bv,wrap_i64 (n:=64-n) (by omega) (by omega)];refine⟨by omega,?_⟩;refine Fin.of ?_;simp[Ei,h];rcases hk with rfl|rfl|rfl|rfl<;>decide
theorem afO(b:BitVec 64)(n:Int):Contract Tryz.prog 188 [.d (bv b),.d (.int .i64 n)] [] (.d (.bool (yD b n))) [] []:=by
 refine aC Tryz.func188 rfl (fun E0=>?_);refine iK.sound (g:=.mk) (ow:=[]) (kp:=(kb 0x13)) ?_;rw[Tryz.ntmps188];simp -dsimp[bv];refine aF.of (qN n) [] 0 ?_;cases h:dQ n
 ·simp -dsimp[h,bv];refine Fin.of ?_;simp[yD,h]
 ·simp -dsimp[h,bv];refine aF.of (ai6 n) [] 0 ?_;simp -dsimp[h,bv];refine Fin.of ?_;simp[yD,h]
def Pk.ok(p:Pk):Bool:=decide (1≤p.mode)&&(decide (p.mode≤3)&&(yU p.gU 7&&(yU p.set 31&&(yD p.bits p.len&&(yU p.ttl 63&&(yU p.ent 1023&&(yU p.ing 256&&(yU p.proto 7&&decide (p.pay.size≤64)))))))))
theorem DC(p:Pk):Contract Tryz.prog 117 [mM p] [] (.d (.bool p.ok)) [] []:=by
 refine aC Tryz.func117 rfl (fun E0=>?_);refine iK.sound (g:=.mk) (ow:=[]) (kp:=(kb 7)) ?_;rw[Tryz.ntmps117];by_cases c1:1≤p.mode
 rotate_left
 ·simp -dsimp[mM,Pk.cs,c1];try refine⟨?_,⟨by kernel_rfl⟩⟩
  refine Fin.of ?_;simp[Pk.ok,c1]
 by_cases c2:p.mode≤3
 rotate_left
 ·simp -dsimp[mM,Pk.cs,c1,c2];try refine⟨?_,⟨by kernel_rfl⟩⟩
  refine Fin.of ?_;simp[Pk.ok,c1,c2]
 simp -dsimp[mM,Pk.cs,c1,c2];refine aF.of (Es p.gU 7) [] 0 ?_;cases d0:yU p.gU 7
 ·simp -dsimp[mM,Pk.cs,c1,c2,d0];try refine⟨?_,⟨by kernel_rfl⟩⟩
  refine Fin.of ?_;simp[Pk.ok,c1,c2,d0]
 simp -dsimp[mM,Pk.cs,c1,c2,d0];refine aF.of (Es p.set 31) [] 0 ?_;cases d1:yU p.set 31
 ·simp -dsimp[mM,Pk.cs,c1,c2,d0,d1];try refine⟨?_,⟨by kernel_rfl⟩⟩
  refine Fin.of ?_;simp[Pk.ok,c1,c2,d0,d1]
 simp -dsimp[mM,Pk.cs,c1,c2,d0,d1];refine aF.of (aiA p.bits p.len) [] 0 ?_;cases d2:yD p.bits p.len
 ·simp -dsimp[mM,Pk.cs,c1,c2,d0,d1,d2];try refine⟨?_,⟨by kernel_rfl⟩⟩
  refine Fin.of ?_;simp[Pk.ok,c1,c2,d0,d1,d2]
 simp -dsimp[mM,Pk.cs,c1,c2,d0,d1,d2];refine aF.of (Es p.ttl 63) [] 0 ?_;cases d3:yU p.ttl 63
 ·simp -dsimp[mM,Pk.cs,c1,c2,d0,d1,d2,d3];try refine⟨?_,⟨by kernel_rfl⟩⟩
  refine Fin.of ?_;simp[Pk.ok,c1,c2,d0,d1,d2,d3]
 simp -dsimp[mM,Pk.cs,c1,c2,d0,d1,d2,d3];refine aF.of (Es p.ent 1023) [] 0 ?_;cases d4:yU p.ent 1023
 ·simp -dsimp[mM,Pk.cs,c1,c2,d0,d1,d2,d3,d4];try refine⟨?_,⟨by kernel_rfl⟩⟩
  refine Fin.of ?_;simp[Pk.ok,c1,c2,d0,d1,d2,d3,d4]
 simp -dsimp[mM,Pk.cs,c1,c2,d0,d1,d2,d3,d4];refine aF.of (Es p.ing 256) [] 0 ?_;cases d5:yU p.ing 256
 ·simp -dsimp[mM,Pk.cs,c1,c2,d0,d1,d2,d3,d4,d5];try refine⟨?_,⟨by kernel_rfl⟩⟩
  refine Fin.of ?_;simp[Pk.ok,c1,c2,d0,d1,d2,d3,d4,d5]
 simp -dsimp[mM,Pk.cs,c1,c2,d0,d1,d2,d3,d4,d5];refine aF.of (Es p.proto 7) [] 0 ?_;cases d6:yU p.proto 7
 ·simp -dsimp[mM,Pk.cs,c1,c2,d0,d1,d2,d3,d4,d5,d6];try refine⟨?_,⟨by kernel_rfl⟩⟩
  refine Fin.of ?_;simp[Pk.ok,c1,c2,d0,d1,d2,d3,d4,d5,d6]
 simp -dsimp[mM,Pk.cs,c1,c2,d0,d1,d2,d3,d4,d5,d6];try refine⟨?_,⟨by kernel_rfl⟩⟩
 refine Fin.of ?_;simp[Pk.ok,c1,c2,d0,d1,d2,d3,d4,d5,d6];omega
theorem Iy(p:Pk):Contract Tryz.prog 113 [mM p] [] (.d (.bool p.ok)) [] []:=by
 refine aC Tryz.func113 rfl (fun E0=>?_);refine iK.sound (g:=.mk) (ow:=[]) (kp:=(kb 7)) ?_;rw[Tryz.ntmps113];by_cases c1:1≤p.mode
 rotate_left
 ·simp -dsimp[mM,Pk.cs,c1];try refine⟨?_,⟨by kernel_rfl⟩⟩
  refine Fin.of ?_;simp[Pk.ok,c1]
 by_cases c2:p.mode≤3
 rotate_left
 ·simp -dsimp[mM,Pk.cs,c1,c2];try refine⟨?_,⟨by kernel_rfl⟩⟩
  refine Fin.of ?_;simp[Pk.ok,c1,c2]
 simp -dsimp[mM,Pk.cs,c1,c2];refine aF.of (aeL p.gU 7) [] 0 ?_;cases d0:yU p.gU 7
 ·simp -dsimp[mM,Pk.cs,c1,c2,d0];try refine⟨?_,⟨by kernel_rfl⟩⟩
  refine Fin.of ?_;simp[Pk.ok,c1,c2,d0]
 simp -dsimp[mM,Pk.cs,c1,c2,d0];refine aF.of (aeL p.set 31) [] 0 ?_;cases d1:yU p.set 31
 ·simp -dsimp[mM,Pk.cs,c1,c2,d0,d1];try refine⟨?_,⟨by kernel_rfl⟩⟩
  refine Fin.of ?_;simp[Pk.ok,c1,c2,d0,d1]
 simp -dsimp[mM,Pk.cs,c1,c2,d0,d1];refine aF.of (afO p.bits p.len) [] 0 ?_;cases d2:yD p.bits p.len
 ·simp -dsimp[mM,Pk.cs,c1,c2,d0,d1,d2];try refine⟨?_,⟨by kernel_rfl⟩⟩
  refine Fin.of ?_;simp[Pk.ok,c1,c2,d0,d1,d2]
 simp -dsimp[mM,Pk.cs,c1,c2,d0,d1,d2];refine aF.of (aeL p.ttl 63) [] 0 ?_;cases d3:yU p.ttl 63
 ·simp -dsimp[mM,Pk.cs,c1,c2,d0,d1,d2,d3];try refine⟨?_,⟨by kernel_rfl⟩⟩
  refine Fin.of ?_;simp[Pk.ok,c1,c2,d0,d1,d2,d3]
 simp -dsimp[mM,Pk.cs,c1,c2,d0,d1,d2,d3];refine aF.of (aeL p.ent 1023) [] 0 ?_;cases d4:yU p.ent 1023
 ·simp -dsimp[mM,Pk.cs,c1,c2,d0,d1,d2,d3,d4];try refine⟨?_,⟨by kernel_rfl⟩⟩
  refine Fin.of ?_;simp[Pk.ok,c1,c2,d0,d1,d2,d3,d4]
 simp -dsimp[mM,Pk.cs,c1,c2,d0,d1,d2,d3,d4];refine aF.of (aeL p.ing 256) [] 0 ?_;cases d5:yU p.ing 256
 ·simp -dsimp[mM,Pk.cs,c1,c2,d0,d1,d2,d3,d4,d5];try refine⟨?_,⟨by kernel_rfl⟩⟩
  refine Fin.of ?_;simp[Pk.ok,c1,c2,d0,d1,d2,d3,d4,d5]
 simp -dsimp[mM,Pk.cs,c1,c2,d0,d1,d2,d3,d4,d5];refine aF.of (aeL p.proto 7) [] 0 ?_;cases d6:yU p.proto 7
 ·simp -dsimp[mM,Pk.cs,c1,c2,d0,d1,d2,d3,d4,d5,d6];try refine⟨?_,⟨by kernel_rfl⟩⟩
  refine Fin.of ?_;simp[Pk.ok,c1,c2,d0,d1,d2,d3,d4,d5,d6]
 simp -dsimp[mM,Pk.cs,c1,c2,d0,d1,d2,d3,d4,d5,d6];try refine⟨?_,⟨by kernel_rfl⟩⟩
 refine Fin.of ?_;simp[Pk.ok,c1,c2,d0,d1,d2,d3,d4,d5,d6];omega
structure Rt where
 id:Int
 cap:Bool
def Rt.cs(x:Rt):List D:=[.int .i64 x.id,.bool x.cap]
def rts(l:List Rt):List (List D):=l.map Rt.cs
@[simp]theorem aqR(l:List Rt):(rts l).length=l.length:=by simp[rts]
def akV(k:Nat):List Rt:=(List.range k).map fun (i:Nat)=>⟨(i:Int)+1,true⟩
@[simp]theorem am7(k:Nat):(akV k).length=k:=by simp[akV]
def SN(cost tree:Int)(skip:Bool)(b a:Int)(T:Tp)(l:List Lk):List Lk×Tp:=
 let c:=if decide (a=tree) && !skip then(true,T)else Vl T 3
 if c.1 then
  let x:=kD c.2 1 cost
  let y:=kD x.2 1 cost
  let z:=bH y.2 4
  (l++[⟨a,b,x.1,y.1,z.1⟩],z.2)
 else(l,c.2)
def SL(cost tree:Int)(skip:Bool)(b:Int):Nat→Int→Tp→List Lk→List Lk×Tp
 | 0,_,T,l=>(l,T)
 | n+1,a,T,l=>SL cost tree skip b n (a+1) (SN cost tree skip b a T l).2 (SN cost tree skip b a T l).1
def agQ(cost b:Int)(T:Tp)(l:List Lk):List Lk×Tp:=
 let t:=kD T 1 (b-1)
 let s:=Vl t.2 9
 SL cost t.1 s.1 b (b-1).toNat 1 s.2 l
def ac9(cost:Int):Nat→Int→Tp→List Lk→List Lk×Tp
 | 0,_,T,l=>(l,T)
 | n+1,b,T,l=>ac9 cost n (b+1) (agQ cost b T l).2 (agQ cost b T l).1
structure bV where
 rs:List Rt
 ls:List Lk
def d_(g:bV):TV:=.agg [.d (.sl (rts g.rs)),.d (.sl (pq g.ls))]
def akW(T:Tp)(most:Int):bV×Tp:=
 let R:=kD T 1 most
 let C:=jW R.2 [1,2,2,5]
 let X:=ac9 C.1 (R.1+1-2).toNat 2 C.2 []
 (⟨akV R.1.toNat,anL X.1 []⟩,X.2)
theorem agR(cost tree:Int)(skip:Bool)(b a:Int)(T:Tp)(l:List Lk):mW (SN cost tree skip b a T l).2=mW T:=by unfold SN;simp only;split<;>split<;>simp
end Go.Proofs
