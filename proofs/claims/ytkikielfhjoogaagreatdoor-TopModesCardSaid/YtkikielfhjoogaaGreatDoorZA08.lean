/-
  What functions of the program compute, stated as contracts over plain data; the conditions of each stand in its own statement.
-/
import Derived.Test.YtkikielfhjoogaaGreatDoorZA07
import Derived.Scope
set_option linter.unusedVariables false
set_option linter.unusedSimpArgs false
namespace Go.Tr
open Go
def lift(A:f_)(Q:Exit→S→Prop)(e:Exit)(a:Act)(w:World):Prop:=∃t,Inv A t a w∧Q e t
def AW(P:Program)(A:f_)(c:Code)(Q:Exit→S→Prop)(t:S):Prop:=∀a w,Inv A t a w→c.wp P (lift A Q) a w
def thn(K:S→Prop)(Q:Exit→S→Prop):Exit→S→Prop
 | .normal,t=>K t
 | e,t=>Q e t
def UG(id:Nat)(Q:Exit→S→Prop):Exit→S→Prop
 | .exit id',t=>if id'=id then Q .normal t else Q (.exit id') t
 | e,t=>Q e t
def aj3(Q:Exit→S→Prop):Exit→S→Prop
 | .goto _,_=>False
 | e,t=>Q e t
def NM:TV→Option Bool
 | .d (.bool b)=>some b
 | _=>none
def Rz(b:Option Bool)(X Y:Prop)(_:Tg X)(_:Tg Y):Prop:=
 match b with
 | some b=>QD b X Y .mk .mk
 | none=>False
def ae8(ow:List Nat)(ops:Array Oper)(X:Prop):Bool→Prop
 | true=>ajI ow ops=true∧X
 | false=>X
theorem RD{ow:List Nat}{ops:Array Oper}{X:Prop}:ae8 ow ops X true=(ajI ow ops=true∧X):=rfl
theorem Np{ow:List Nat}{ops:Array Oper}{X:Prop}:ae8 ow ops X false=X:=rfl
structure dD(P:Program)(A:f_)(c:Code)(Q:Exit→S→Prop)(_g:Tg Q)(t:S):Prop where
 aw:AW P A (.loop c) Q t
def kept(kp:Nat→Bool)(t:S):S:=fun p=>match p with
 | .s k=>if kp k then t p else .none
 | _=>t p
def iC(P:Program)(A:f_)(ow:List Nat)(kp:Nat→Bool):Code→(Q:Exit→S→Prop)→Tg Q→S→Prop
 | .skip,Q,_,t=>Q .normal t
 | .label _,Q,_,t=>Q .normal t
 | .seq x y,Q,g,t=>iC P A ow kp x (thn (iC P A ow kp y Q g) Q) .mk t
 | .cond c x y,Q,g,t=>Rz (NM (ev t c)) (iC P A ow kp x Q g t) (iC P A ow kp y Q g t) .mk .mk
 | .block id c,Q,_,t=>iC P A ow kp c (UG id Q) .mk t
 | .exit id,Q,_,t=>Q (.exit id) t
 | .goto l,Q,_,t=>Q (.goto l) t
 | .ret,Q,_,t=>Q .ret t
 | .region _ ops draw,Q,_,t=>ae8 ow ops (xg P A ow ops ops.toList 0 [] .mk t (fun L t'=>aiB P ops L (Q .normal (kept kp t')) draw) .mk) draw
 | .loop c,Q,g,t=>dD P A c Q g t
 | .scope c,Q,_,t=>iC P A ow kp c (aj3 Q) .mk t
 | _,_,_,_=>False
section
variable {P:Program} {A:f_}
theorem Inv.kept{t:S}{a:Act}{w:World}(h:Inv A t a w)(kp:Nat→Bool):Inv A (kept kp t) a w:=by
 obtain⟨E,hw,hi⟩:=h;refine⟨E,hw,⟨⟨fun p hp=>?_,hi.h.frees,hi.h.inj,hi.h.size,hi.h.o_,fun b o hst p hp=>?_,hi.h.gl⟩,hi.fr,fun k tv hk=>?_,hi.defers,hi.size⟩⟩
 ·have:Tr.kept kp t p=t p:=by cases p<;>first|rfl|simp_all
  rw[this];exact hi.h.item p hp
 ·obtain⟨e,k,es,h1,h2⟩:=hi.h.sep b o hst p hp;refine⟨e,k,es,?_,h2⟩;have hps:∀k,p≠.s k:=by
   rintro k rfl;simp[En.own,hi.h.frees k]at hp
  have:Tr.kept kp t p=t p:=by cases p<;>first|rfl|simp_all
  simp[*]
 ·simp only[Tr.kept]at hk;split at hk
  ·exact hi.sl k tv hk
  trivial
theorem AW.mono{c:Code}{Q Q':Exit→S→Prop}{t:S}(h:AW P A c Q t)(hq:∀e t,Q e t→Q' e t):AW P A c Q' t:=fun a w hi=>Code.wp_mono (fun _ _ _ ⟨t,h1,h2⟩=>⟨t,h1,hq _ _ h2⟩) (h a w hi)
theorem iC.sound{ow:List Nat}{kp:Nat→Bool}:∀{c:Code} {Q:Exit→S→Prop} {g:Tg Q} {t:S},iC P A ow kp c Q g t→AW P A c Q t
 | .skip,Q,_,t,h=>fun a w hi=>wp_skip ⟨t,hi,by trivial⟩
 | .label _,Q,_,t,h=>fun a w hi=>wp_label ⟨t,hi,by trivial⟩
 | .seq x y,Q,_,t,h=>fun a w hi=>by
   refine wp_seq (Code.wp_mono (fun e a w ⟨t',h1,h2⟩=>?_) (iC.sound (c:=x) h a w hi));cases e<;>first
    | exact iC.sound (c:=y) h2 a w h1
    | exact⟨t',h1,h2⟩
 | .cond c x y,Q,_,t,h=>fun a w hi=>by
   simp only[iC]at h;obtain⟨E,hw,hE⟩:=hi;have hr:=bP hE c;unfold NM at h;split at h
   ·rename_i b hb;rw[hb]at hr
    cases b
    ·exact wp_cond_false hr (iC.sound (c:=y) (h.no rfl) a w ⟨E,hw,hE⟩)
    ·exact wp_cond_true hr (iC.sound (c:=x) (h.yes rfl) a w ⟨E,hw,hE⟩)
   trivial
 | .block id c,Q,_,t,h=>fun a w hi=>by
   refine wp_block (Code.wp_mono (fun e a w ⟨t',h1,h2⟩=>?_) (iC.sound (c:=c) h a w hi));cases e<;>first
    | exact⟨t',h1,h2⟩
    | (simp only[Exit.inBlock]
       simp only[UG]at h2;split
       ·rename_i he;rw[if_pos he]at h2;exact⟨t',h1,h2⟩
       ·rename_i he;rw[if_neg he]at h2;exact⟨t',h1,h2⟩)
 | .exit id,Q,_,t,h=>fun a w hi=>wp_exit ⟨t,hi,by trivial⟩
 | .goto l,Q,_,t,h=>fun a w hi=>wp_goto ⟨t,hi,by trivial⟩
 | .ret,Q,_,t,h=>fun a w hi=>wp_ret ⟨t,hi,by trivial⟩
 | .region id ops draw,Q,_,t,h=>fun a w hi=>by
   simp only[iC]at h;cases draw
   ·refine wp_region ?_;have:=xg.wps (Q:=lift A Q) (fun j=>by simp) h (fun L t' h3 a w hi'=>⟨_,hi'.kept kp,h3⟩) a w hi
    grind[List.range_eq_range']
   ·obtain⟨hn,h⟩:=h;obtain⟨L,t',h1,h2,h3⟩:=xg.sound (fun o ho=>by
     have:=bM.1 hn o ho
     simp_all) (fun j o h=>by simpa using h) h
    obtain⟨h4,h5,h6⟩:=h3;have h7:=G7 h6.ok;rw[Am]at h7
    simp only[bQ,jE]at h7;exact La h5 h1 h2 h7 (fun a w hi'=>⟨_,hi'.kept kp,h4⟩) a w hi
 | .loop c,Q,_,t,h=>by exact h.aw
 | .rangeFunc ..,_,_,_,h=>by trivial
 | .scope c,Q,_,t,h=>fun a w hi=>by
   refine wp_scope_straight (Code.wp_mono (fun e a w ⟨t',h1,h2⟩=>?_) (iC.sound (c:=c) h a w hi));cases e<;>first
    | exact⟨t',h1,h2⟩
    | trivial
 | .refuse _,_,_,_,h=>by trivial
def GS(A:f_)(t t':S):Prop:=∀a w,Inv A t a w→Inv A t' a w
theorem GS.refl(t:S):GS A t t:=fun _ _ h=>h
theorem GS.trans{t u v:S}(h:GS A t u)(g:GS A u v):GS A t v:=fun a w x=>g a w (h a w x)
theorem AW.ghost{c:Code}{Q:Exit→S→Prop}{t t':S}(h:AW P A c Q t')(g:GS A t t'):AW P A c Q t:=fun a w hi=>h a w (g a w hi)
theorem least{p:Nat→Prop}(h:∃n,p n):∃n,p n∧∀m,p m→n≤m:=by
 obtain⟨n,hn⟩:=h
 induction n using Nat.strongRecOn with
 | _ n ih=>grind
theorem AW.loop{ι:Type}{c:Code}{Q:Exit→S→Prop}{t:S}(st:ι→S)(μ:ι→Nat)(i0:ι)(h0:GS A t (st i0))
  (round:∀i,AW P A c (thn (fun t'=>∃j,GS A t' (st j)∧μ j<μ i) Q) (st i)):AW P A (.loop c) Q t:=fun a w hi=>by
 let p:Act→World→Nat→Prop:=fun a w n=>∃i,Inv A (st i) a w∧n=μ i
 let m:Act→World→Nat:=fun a w=>Classical.epsilon fun n=>p a w n∧∀k,p a w k→n≤k
 have hm:∀a w,(∃i,Inv A (st i) a w)→p a w (m a w)∧∀k,p a w k→m a w≤k:=fun a w ⟨i,h⟩=>Classical.epsilon_spec (p:=fun n=>p a w n∧∀k,p a w k→n≤k) (least ⟨μ i,i,h,rfl⟩)
 refine wp_loop (fun a w=>∃i,Inv A (st i) a w) m ⟨i0,h0 a w hi⟩ fun a w hI=>?_
 obtain⟨⟨i,h1,h2⟩,_⟩:=hm a w hI;refine Code.wp_mono (fun e a' w' ⟨t',h3,h4⟩=>?_) (round i a w h1);cases e<;>first
  | exact⟨t',h3,h4⟩
  | (obtain⟨j,hj,hlt⟩:=h4
     have hj':=hj a' w' h3;refine⟨⟨j,hj'⟩,?_⟩;have:=(hm a' w' ⟨j,hj'⟩).2 (μ j) ⟨j,hj',rfl⟩;omega)
end
end Go.Tr

namespace Go.Tr
open Go
def uU:List (Nat×It)→Nat→It
 | [],_=>.none
 | (j,i)::l,id=>if id=j then i else uU l id
def BG(xs:List It):S:=fun p=>match p with
 | .x i=>xs.getD i .none
 | _=>.none
def oP(xs:List It)(ro:List (Nat×It)):S:=fun p=>match p with
 | .x i=>xs.getD i .none
 | .o id=>uU ro id
 | _=>.none
structure Post(E:En)(xs:List It)(ro:List (Nat×It))(r:TV)(u:Value)(E':En):Prop where
 h:lD E' (oP xs ro)
 fr:Fr E E'
 rel:aP E' r u
def Contract(P:Program)(f:FuncId)(args:List TV)(xs:List It)(r:TV)(xs':List It)(ro:List (Nat×It)):Prop:=
 ∀(E:En) (us:List Value),lD E (BG xs)→bD E args us→Calls P f us.toArray E.w fun e w'=>∃u E',e = .returned u∧E'.w=w'∧Post E xs' ro r u E'
def Z9(p:Pl):List Pl→Nat→Option Nat
 | [],_=>none
 | q::l,i=>if p=q then some i else Z9 p l (i+1)
theorem D8{p:Pl}:∀{l:List Pl} {i j:Nat},Z9 p l i=some j→i≤j∧l[j-i]? = some p
 | [],_,_,h=>by trivial
 | q::l,i,j,h=>by
   simp only[Z9]at h;split at h
   ·simp_all
   ·obtain⟨h1,h2⟩:=D8 h
    grind
mutual
def TV.pass(t:S)(ν:List Pl):TV→Option TV
 | .junk=>some .junk
 | .d x=>some (.d x)
 | .c v=>some (match v with|.slice none 0 0=>.d (.sl [])|v=>.c v)
 | .agg vs=>match TV.n_ t ν vs with|some vs=>some (.agg vs)|none=>none
 | .qh _=>none
 | .aW id _=>match t (.o id)with
   | .row _ _ es true=>match jX es with|some xs=>some (.d (.sl xs))|none=>none
   | _=>none
 | .ptr p q=>match Z9 p ν 0 with|some i=>some (.ptr (.x i) q)|none=>none
 | .ep e q=>some (.ep e q)
 | .qH _ _ _ _=>none
 | .mref _=>none
 | .sx _=>none
 | .LG _ _ _=>none
 | .clo f vs=>match TV.n_ t ν vs with|some vs=>some (.clo f vs)|none=>none
def TV.n_(t:S)(ν:List Pl):List TV→Option (List TV)
 | []=>some []
 | v::vs=>match TV.pass t ν v,TV.n_ t ν vs with
   | some v,some vs=>some (v::vs)
   | _,_=>none
end
mutual
def TV.yU(t:S):TV→Prop
 | .agg vs|.clo _ vs=>TV.pU t vs
 | .aW id n=>match t (.o id)with
   | .row _ _ es _=>n=es.length
   | _=>False
 | _=>True
def TV.pU(t:S):List TV→Prop
 | []=>True
 | v::vs=>v.yU t∧TV.pU t vs
end
mutual
def TV.rows:TV→List Nat
 | .agg vs|.clo _ vs=>TV.qG vs
 | .aW id _=>[id]
 | _=>[]
def TV.qG:List TV→List Nat
 | []=>[]
 | v::vs=>v.rows++TV.qG vs
end
section
variable {P:Program} {A:f_}
theorem eY.SG{t:S}{a:Act}:∀(ids:List Nat) {E:En},eY A t a E→(∀id∈ids,∃e k es xs,t (.o id) = .row e k es true∧jX es=some xs)→
  ∃E1:En,E1.w=E.w∧oQ E E1∧E1.blk=E.blk∧E1.val=E.val∧eY A t a E1∧
   ∀id∈ids,∀e k es xs,t (.o id) = .row e k es true→jX es=some xs→∀u,aP E1 (.aW id es.length) u→Rep E1 (.sl xs) u
 | [],E,hi,_=>⟨E,rfl,Ext.refl _ _,rfl,rfl,hi,fun _ h=>by trivial⟩
 | id::ids,E,hi,h=>by
   obtain⟨e,k,es,xs,h1,h2⟩:=h id (by simp);obtain⟨E',hw,x,hb,hv,hi',hr,_⟩:=hi.freeze h1 h2;have hsame:upd t (.o id) (.row e k es true)=t:=by grind[upd]
   rw[hsame]at hi'
   obtain⟨E1,hw1,x1,hb1,hv1,hi1,hr1⟩:=eY.SG ids hi' (fun i hi=>h i (by simp[*]));refine⟨E1,hw1.trans hw,x.trans x1,hb1.trans hb,hv1.trans hv,hi1,fun i hii e' k' es' xs' g1 g2 u hu=>?_⟩;rcases aF.1 hii with rfl|hii
   ·rw[h1]at g1
    obtain⟨rfl,rfl,rfl⟩:=g1;rw[h2]at g2;simp only[ah]at g2;subst g2
    refine(hr u ?_).up x1
    grind[aP]
   grind
def En.callee(E:En)(ν:List Pl):En:=
 {w:=E.w,St:=E.St,blk:=fun p=>match p with|.x i=>(ν[i]?).bind E.blk|_=>none,val:=fun _=>none}
mutual
theorem Yk{t:S}{ν:List Pl}{E:En}:∀{v v':TV} {u:Value},
  (∀id∈v.rows,∀e k es xs,t (.o id) = .row e k es true→jX es=some xs→∀u,aP E (.aW id es.length) u→Rep E (.sl xs) u)→v.pass t ν=some v'→v.yU t→aP E v u→aP (E.callee ν) v' u
 | .junk,v',u,_,h,_,_=>by grind[TV.pass,aP]
 | .d x,v',u,_,h,_,hr=>by simp only[TV.pass,ah]at h;subst h;exact Rep.ext (E:=E) (E':=E.callee ν) ⟨fun _ _ h=>h,fun _ _ _=>rfl⟩ x u hr
 | .c v,v',u,_,h,_,hr=>by
   simp only[TV.pass,ah]at h;subst hr;split at h
   ·subst h;simp only[aP,Rep];simp
   grind[aP]
 | .agg vs,v',u,hf,h,hc,hr=>by
   simp only[TV.pass]at h;split at h
   ·rename_i vs' hv;simp only[ah]at h;subst h;obtain⟨us,hu,hs⟩:=hr;exact⟨us,hu,Em (by trivial) hv hc hs⟩
   trivial
 | .qh vs,v',u,_,h,_,_=>by trivial
 | .aW id n,v',u,hf,h,hc,hr=>by
   simp only[TV.pass]at h;split at h
   ·rename_i e k es ht;split at h
    ·rename_i xs hx;simp only[ah]at h;subst h;simp only[TV.yU,ht]at hc;subst hc;have:=hf id (by simp[TV.rows]) e k es xs ht hx u hr;simp only[aP];exact Rep.ext (E:=E) (E':=E.callee ν) ⟨fun _ _ h=>h,fun _ _ _=>rfl⟩ _ u this
    trivial
   trivial
 | .ptr p q,v',u,_,h,_,hr=>by
   simp only[TV.pass]at h;split at h
   ·rename_i i hi;simp only[ah]at h;subst h;simp only[aP]at hr⊢;obtain⟨b,hb,hu⟩:=hr;obtain⟨_,h2⟩:=D8 hi
    grind[En.callee]
   trivial
 | .ep e q,v',u,_,h,_,hr=>by simp only[TV.pass,ah]at h;subst h;simp only[aP]at hr⊢;obtain⟨b,o,hu,hc⟩:=hr;exact⟨b,o,hu,dU.ext (E:=E) (E':=E.callee ν) ⟨fun _ _ h=>h,fun _ _ _=>rfl⟩ b o e hc⟩
 | .qH _ _ _ _,v',u,_,h,_,_=>by trivial
 | .mref _,v',u,_,h,_,_=>by trivial
 | .sx _,v',u,_,h,_,_=>by trivial
 | .LG _ _ _,v',u,_,h,_,_=>by trivial
 | .clo f vs,v',u,hf,h,hc,hr=>by
   simp only[TV.pass]at h;split at h
   ·rename_i vs' hv;simp only[ah]at h;subst h;simp only[aP,TV.yU]at hr hc⊢;obtain⟨us,hu,hs⟩:=hr;exact⟨us,hu,Em (by trivial) hv hc hs⟩
   trivial
theorem Em{t:S}{ν:List Pl}{E:En}:∀{vs vs':List TV} {us:List Value},
  (∀id∈TV.qG vs,∀e k es xs,t (.o id) = .row e k es true→jX es=some xs→∀u,aP E (.aW id es.length) u→Rep E (.sl xs) u)→TV.n_ t ν vs=some vs'→TV.pU t vs→bD E vs us→bD (E.callee ν) vs' us
 | [],vs',us,_,h,_,hr=>by grind[TV.n_,bD]
 | v::vs,vs',us,hf,h,hc,hr=>by
   simp only[TV.n_]at h;split at h
   ·rename_i v1 vs1 h1 h2;simp only[ah]at h;subst h;simp only[bD,TV.pU,TV.qG]at hr hc hf⊢;obtain⟨u,us',hu,g1,g2⟩:=hr;exact⟨u,us',hu,Yk (fun id hid=>hf id (kZ _ hid)) h1 hc.1 g1,Em (fun id hid=>hf id (jZ _ hid)) h2 hc.2 g2⟩
   trivial
end
def PN(t:S)(ν:List Pl):It→Option It
 | .box cs=>match TV.n_ t ν cs with|some cs=>some (.box cs)|none=>none
 | _=>none
def vW(t:S)(ν:List Pl):List Pl→Option (List It)
 | []=>some []
 | p::l=>match PN t ν (t p),vW t ν l with
   | some i,some is=>some (i::is)
   | _,_=>none
theorem wV{t:S}{ν:List Pl}:∀{l:List Pl} {xs:List It},vW t ν l=some xs→xs.length=l.length∧∀(i:Nat) (p:Pl),l[i]? = some p→∃cs cs',t p = .box cs∧TV.n_ t ν cs=some cs'∧xs[i]? = some (.box cs')
 | [],xs,h=>by grind[vW]
 | p::l,xs,h=>by
   simp only[vW]at h;split at h
   ·rename_i it is h1 h2;simp only[ah]at h;subst h;obtain⟨h3,h4⟩:=wV h2;refine⟨by simp[*],fun i q hq=>?_⟩;cases i with
    | zero=>
      simp at hq;subst hq;unfold PN at h1
      grind
    | succ i=>simp_all
   trivial
def IK:It→List Nat
 | .box cs=>TV.qG cs
 | _=>[]
def F5(t:S):It→Prop
 | .box cs=>TV.pU t cs
 | _=>True
theorem T_{t:S}{ν:List Pl}:∀{vs vs':List TV},TV.n_ t ν vs=some vs'→vs'.length=vs.length
 | [],vs',h=>by grind[TV.n_]
 | v::vs,vs',h=>by
   simp only[TV.n_]at h;split at h
   ·rename_i h1 h2;simp only[ah]at h;subst h;simp[T_ h2]
   trivial
theorem TW{t:S}{ν:List Pl}{E:En}{us:List Value}:∀{o:Nat} {vs vs':List TV},(∀id∈TV.qG vs,∀e k es xs,t (.o id) = .row e k es true→jX es=some xs→∀u,aP E (.aW id es.length) u→Rep E (.sl xs) u)→
  TV.n_ t ν vs=some vs'→TV.pU t vs→cu E us o vs→cu (E.callee ν) us o vs'
 | o,[],vs',_,h,_,_=>by simp only[TV.n_,ah]at h;subst h;trivial
 | o,v::vs,vs',hf,h,hc,⟨⟨u,h1,h2,h3⟩,hr⟩=>by
   simp only[TV.n_]at h;split at h
   ·rename_i v1 vs1 g1 g2;simp only[ah]at h;subst h;exact⟨⟨u,h1,h2,Yk (fun id hid=>hf id (kZ _ hid)) g1 hc.1 h3⟩,TW (fun id hid=>hf id (jZ _ hid)) g2 hc.2 hr⟩
   trivial
mutual
def TV.back(ν:List Pl)(b:Nat):TV→TV
 | .agg vs=>.agg (TV.backs ν b vs)
 | .qh vs=>.qh (TV.backs ν b vs)
 | .clo f vs=>.clo f (TV.backs ν b vs)
 | .aW id n=>.aW (b+id) n
 | .qH id n i q=>.qH (b+id) n i q
 | .mref id=>.mref (b+id)
 | .LG id n j=>.LG (b+id) n j
 | .ptr (.o id) q=>.ptr (.o (b+id)) q
 | .ptr (.x i) q=>.ptr (ν.getD i (.s 0)) q
 | v=>v
def TV.backs(ν:List Pl)(b:Nat):List TV→List TV
 | []=>[]
 | v::vs=>v.back ν b::TV.backs ν b vs
end
def GI(ν:List Pl)(b:Nat):It→It
 | .box cs=>.box (TV.backs ν b cs)
 | .row e k es sh=>.row e k (es.map (TV.backs ν b)) sh
 | .sJ e k es=>.sJ e k (es.map (TV.backs ν b))
 | .fO es c pd s=>.fO (es.map fun x=>(x.1,x.2.back ν b)) c pd s
 | i=>i
mutual
theorem GK{ν:List Pl}{b:Nat}{E' E2:En}(hr:Fa E' E2)(hx:∀i b',E'.blk (.x i)=some b'→E2.blk (ν.getD i (.s 0))=some b')(ho:∀id b',E'.blk (.o id)=some b'→E2.blk (.o (b+id))=some b')
  (hv:∀id y,E'.val id=some y→E2.val (b+id)=some y) (hs:∀k,E'.blk (.s k)=none):∀{v:TV} {u:Value},aP E' v u→aP E2 (v.back ν b) u
 | .junk,u,_=>by trivial
 | .d x,u,h=>by grind[TV.back,aP,Rep.ext]
 | .c v,u,h=>by trivial
 | .agg vs,u,h=>by obtain⟨us,hu,h⟩:=h;exact⟨us,hu,DR hr hx ho hv hs h⟩
 | .qh vs,u,h=>by obtain⟨us,hu,h⟩:=h;exact⟨us,hu,DR hr hx ho hv hs h⟩
 | .aW id n,u,h=>by grind[TV.back,aP]
 | .ptr (.o id) q,u,h=>by grind[TV.back,aP]
 | .ptr (.x i) q,u,h=>by grind[TV.back,aP]
 | .ptr (.s i) q,u,h=>by grind[aP]
 | .ep e q,u,h=>by grind[TV.back,aP,dU.ext]
 | .qH id n i q,u,h=>by grind[TV.back,aP]
 | .mref id,u,h=>by grind[TV.back,aP]
 | .sx xs,u,h=>by grind[TV.back,aP,Rep.ext]
 | .LG id n j,u,h=>by grind[TV.back,aP]
 | .clo f vs,u,h=>by obtain⟨us,hu,h⟩:=h;exact⟨us,hu,DR hr hx ho hv hs h⟩
theorem DR{ν:List Pl}{b:Nat}{E' E2:En}(hr:Fa E' E2)(hx:∀i b',E'.blk (.x i)=some b'→E2.blk (ν.getD i (.s 0))=some b')(ho:∀id b',E'.blk (.o id)=some b'→E2.blk (.o (b+id))=some b')
  (hv:∀id y,E'.val id=some y→E2.val (b+id)=some y) (hs:∀k,E'.blk (.s k)=none):∀{vs:List TV} {us:List Value},bD E' vs us→bD E2 (TV.backs ν b vs) us
 | [],us,h=>by trivial
 | v::vs,us,h=>by obtain⟨u,us',hu,h1,h2⟩:=h;exact⟨u,us',hu,GK hr hx ho hv hs h1,DR hr hx ho hv hs h2⟩
end
theorem o9{ν:List Pl}{b:Nat}:∀vs:List TV,(TV.backs ν b vs).length=vs.length
 | []=>by rfl
 | v::vs=>by simp only[TV.backs,aH,o9 vs]
theorem uw{ν:List Pl}{b:Nat}{E' E2:En}(hb:∀{v:TV} {u:Value},aP E' v u→aP E2 (v.back ν b) u){us:List Value}:∀{o:Nat} {vs:List TV},cu E' us o vs→cu E2 us o (TV.backs ν b vs)
 | _,[],_=>by trivial
 | _,_::_,⟨⟨u,h1,h2,h3⟩,r⟩=>by exact⟨⟨u,h1,h2,hb h3⟩,uw hb r⟩
theorem abt{ν:List Pl}{b:Nat}{E' E2:En}(hb:∀{v:TV} {u:Value},aP E' v u→aP E2 (v.back ν b) u):∀{es:List (List Int×TV)} {l:List MapEntry},jW E' es l→jW E2 (es.map fun x=>(x.1,x.2.back ν b)) l
 | [],l,h=>h
 | (k,v)::es,l,h=>by obtain⟨a,l',rfl,h1,h2,h3⟩:=h;exact⟨a,l',rfl,h1,hb h2,abt hb h3⟩
theorem LZ{ν:List Pl}{b:Nat}{E' E2:En}(hb:∀{v:TV} {u:Value},aP E' v u→aP E2 (v.back ν b) u){us:List Value}{k:Nat}:∀{o:Nat} {es:List (List TV)},fC E' us k o es→fC E2 us k o (es.map (TV.backs ν b))
 | _,[],_=>trivial
 | _,_::_,⟨h1,h2,r⟩=>⟨(o9 _).trans h1,uw hb h2,LZ hb r⟩
end
end Go.Tr

namespace Go.Tr
open Go
def isObj:It→Bool
 | .box _|.row _ _ _ _|.mp _|.fO _ _ _ _=>true
 | _=>false
def nD:It→Bool
 | .box _=>true
 | _=>false
def rP:Pl→Bool
 | .s _=>false
 | _=>true
def wx(ν':List Pl)(b:Nat):List Pl→List It→List (Pl×It)
 | p::ν,i::xs=>(p,GI ν' b i)::wx ν' b ν xs
 | _,_=>[]
def wo(ν':List Pl)(b:Nat):List (Nat×It)→List (Pl×It)
 | []=>[]
 | (j,i)::l=>(.o (b+j),GI ν' b i)::wo ν' b l
theorem zx{ν':List Pl}{b:Nat}{t:S}:∀{ν:List Pl} {xs:List It},ν.Nodup→xs.length=ν.length→∀{i:Nat} {p:Pl} {it:It},ν[i]? = some p→xs[i]? = some it→over t (wx ν' b ν xs) p=GI ν' b it
 | [],_,_,_,i,p,it,h,_=>by trivial
 | q::ν,[],_,hl,_,_,_,_,_=>by trivial
 | q::ν,x::xs,hn,hl,i,p,it,h,hx=>by
   simp only[wx,over];rw[bG]at hn
   cases i with
   | zero=>simp_all[upd]
   | succ i=>
     have hp:p∈ν:=bF (by trivial);have hne:p≠q:=fun e=>hn.1 (e▸hp)
     simp only[upd,if_neg hne];exact zx hn.2 (by simp_all) (by trivial) (by trivial)
theorem Jd{ν':List Pl}{b:Nat}{t:S}:∀{ν:List Pl} {xs:List It} {p:Pl},p∉ν→over t (wx ν' b ν xs) p=t p
 | [],_,_,_=>by rfl
 | _::_,[],_,_=>by rfl
 | q::ν,x::xs,p,h=>by simp only[aF,not_or]at h;simp only[wx,over,upd,if_neg h.1];exact Jd h.2
theorem Ec{j:Nat}:∀{ro:List (Nat×It)},j∉ro.map (·.1)→uU ro j = .none
 | [],_=>rfl
 | (k,i)::ro,h=>by simp only[aC,aF,not_or]at h;simp only[uU,if_neg h.1];exact Ec h.2
theorem Gm{ν':List Pl}{b:Nat}{t:S}:∀{ro:List (Nat×It)} {j:Nat},j∈ro.map (·.1)→over t (wo ν' b ro) (.o (b+j))=GI ν' b (uU ro j)
 | [],j,h=>by trivial
 | (k,i)::ro,j,h=>by
   simp only[wo,over,uU];by_cases e:j=k
   ·simp_all[upd]
   ·simp only[aC,aF,e,false_or]at h;rw[if_neg e,upd,if_neg (by simp[*])];exact Gm h
theorem Ah{ν':List Pl}{b:Nat}{t:S}:∀{ro:List (Nat×It)} {p:Pl},(∀j∈ro.map (·.1),p≠.o (b+j))→over t (wo ν' b ro) p=t p
 | [],_,_=>rfl
 | (k,i)::ro,p,h=>by have h1:=h k (by simp);simp only[wo,over,upd,if_neg h1];exact Ah fun j hj=>h j (by simp[*])
theorem JR{ro:List (Nat×It)}(h:∀x∈ro,isObj x.2=true){j:Nat}(hj:j∈ro.map (·.1)):isObj (uU ro j)=true:=by
 induction ro with
 | nil=>trivial
 | cons x ro ih=>
   obtain⟨k,i⟩:=x;simp only[uU];split
   ·exact h (k,i) (by simp)
   ·rename_i e;simp only[aC,aF,e,false_or]at hj;exact ih (fun x hx=>h x (by simp[hx])) hj
section
variable {P:Program} {A:f_}
theorem eY.called{t:S}{a:Act}{E:En}(hi:eY A t a E){ν:List Pl}{w_ iH:List It}{ro:List (Nat×It)}{b:Nat}(MI:ν.Nodup)(FK:∀p∈ν,rP p=true)(hI:vW t ν ν=some w_)
  (hl:iH.length=ν.length) (hbox:∀i∈iH,nD i=true) (OI:∀x∈ro,isObj x.2=true) (hfree:∀x∈ro,t (.o (b+x.1)) = .none)
  {r:TV} {u:Value} {E':En} (hp:Post (E.callee ν) iH ro r u E') :
  ∃E2:En,E2.w=E'.w∧eY A (over t (wx ν b ν iH++wo ν b ro)) a E2∧aP E2 (r.back ν b) u:=by
 obtain⟨hl0,hIs⟩:=wV hI;have Ib:∀{i:Nat} {p:Pl},ν[i]? = some p→∃cs,t p = .box cs:=fun h=>by grind
 have adK:∀{p:Pl},p∈ν→∀k,p≠.s k:=fun hp k e=>by grind[rP]
 let nw:Nat→Option Nat:=fun k=>if b≤k∧(k-b)∈ro.map (·.1)then some (k-b)else none
 have hnw:∀{k j},nw k=some j↔k=b+j∧j∈ro.map (·.1):=fun {k j}=>by grind
 have wI:∀{k j},nw k=some j→t (.o k) = .none:=fun h=>by grind
 have ET:∀{k j},nw k=some j→E.blk (.o k)=none∧E.val k=none:=fun {k j} h=>by
  have:=hi.h.item (.o k) (by simp);rw[wI h]at this
  exact this k rfl
 let E2:En:={w:=E'.w,St:=E'.St,blk:=fun p=>match p with|.o k=>(match nw k with|some j=>E'.blk (.o j)|none=>E.blk (.o k))|p=>E.blk p,
             val:=fun k=>match nw k with|some j=>E'.val j|none=>E.val k}
 have l9:∀{p:Pl},(∀k j,p = .o k→nw k≠some j)→E2.blk p=E.blk p:=fun {p} h=>by grind
 have qC:∀{k:Nat},(∀j,nw k≠some j)→E2.val k=E.val k:=fun {k} h=>by grind
 have qA:∀{k j:Nat},nw k=some j→E2.blk (.o k)=E'.blk (.o j)∧E2.val k=E'.val j:=fun {k j} h=>by grind
 have jG:∀{p:Pl},(∀k j,p = .o k→nw k≠some j)→E2.own p=E.own p:=fun {p} h=>En.mV (l9 h) (fun id e=>qC (fun j=>h id j e))
 have jF:∀{k j:Nat},nw k=some j→E2.own (.o k)=E'.own (.o j):=fun {k j} h=>by grind[En.own]
 have hcx:∀i,(E.callee ν).blk (.x i)=(ν[i]?).bind E.blk:=fun i=>rfl
 have hno:∀j b',(E.callee ν).own (.o j)≠some b':=fun j b' h=>by trivial
 have hnew1:∀{j b'},E'.own (.o j)=some b'→(E.callee ν).w.heap.size≤b':=fun {j b'} h=>(hp.fr.new j b' h).elim (fun h=>h) (fun⟨i,h⟩=>absurd h (hno i b'))
 have sU:∀{i b'},(E.callee ν).blk (.x i)=some b'→∃p,ν[i]? = some p∧E.blk p=some b'∧E.own p=some b':=fun {i b'} h=>by
  rw[hcx]at h
  cases hp:ν[i]? with
  | none=>simp_all
  | some p=>simp only[hp,bY]at h;exact⟨p,rfl,h,by grind[En.own]⟩
 have OO:∀{b' o},E.St b' o→E'.w.heap[b']? = E.w.heap[b']? :=fun {b' o} h=>hp.fr.old b' (hi.h.o_ _ _ h) (fun i hx=>by
  obtain⟨p,h1,h2,h3⟩:=sU hx;obtain⟨cs,h4⟩:=Ib h1;obtain⟨e,k,es,h5,_⟩:=hi.h.sep _ _ h p h3
  simp_all) (fun j=>hno j b')
 have x:oQ E E2:=by
  refine⟨fun b' o h=>hp.fr.st b' o h,fun b' o h=>h_ (OO h),fun id b' _ h=>?_,fun i b' h=>h,fun i b' h=>h,fun id k c v _ h=>⟨c,v,?_,au _,fun _=>rfl⟩⟩
  ·rw[l9]
   ·exact h
   ·rintro k j e hn;simp only[Pl.o.injEq]at e;subst e;rw[(ET hn).1]at h;simp at h
  grind
 have hmem:∀{j:Nat},(E'.blk (.o j)≠none∨E'.val j≠none)→j∈ro.map (·.1):=fun {j} h=>by
  by_cases hj:j∈ro.map (·.1)
  ·omega
  ·have:=hp.h.item (.o j) (by simp);simp only[oP,Ec hj]at this;obtain⟨h1,h2⟩:=this j rfl;rcases h with h|h
   ·exact absurd h1 h
   ·exact absurd h2 h
 have hback:∀{v:TV} {u:Value},aP E' v u→aP E2 (v.back ν b) u:=fun {v u} h=>by
  refine GK (E':=E') (E2:=E2) ⟨fun _ _ h=>h,fun _ _ _=>rfl⟩ (fun i b' hb=>?_) (fun id b' hb=>?_) (fun id y hy=>?_) hp.h.frees h
  ·rw[hp.fr.xb]at hb
   obtain⟨p,h1,h2,h3⟩:=sU hb;have hg:ν.getD i (.s 0)=p:=by simp[List.getD,h1]
   rw[hg,l9]
   ·exact h2
   ·rintro k j rfl hn;rw[(ET hn).1]at h2;simp at h2
  ·have hj:=hmem (j:=id) (.inl (by rw[hb];simp));rw[(qA (hnw.2 ⟨rfl,hj⟩)).1];exact hb
  ·have hj:=hmem (j:=id) (.inr (by rw[hy];simp));rw[(qA (hnw.2 ⟨rfl,hj⟩)).2];exact hy
 have Z4:∀{p:Pl},(∀k j,p = .o k→nw k≠some j)→∀j∈ro.map (·.1),p≠.o (b+j):=fun h j hj e=>h _ j e (hnw.2 ⟨rfl,hj⟩)
 have x9:∀{p:Pl},p∈ν→∀k j,p = .o k→nw k≠some j:=fun {p} mP k j e hn=>by subst e;obtain⟨i,hi'⟩:=bU mP;obtain⟨cs,h⟩:=Ib hi';rw[wI hn]at h;simp at h
 have xC:∀p,over t (wx ν b ν iH++wo ν b ro) p=if p∈ν then over t (wx ν b ν iH) p else over t (wo ν b ro) p:=fun p=>by
  rw[rZ];split
  ·rename_i h;obtain⟨i,h1⟩:=bU h;have hil:i<iH.length:=by rw[hl];exact(aB.1 h1).1
   rw[zx MI hl h1 (aj hil),zx MI hl h1 (aj hil)]
  ·rename_i h;rw[Jd h]
 have hold:∀{p:Pl},p∉ν→(∀k j,p = .o k→nw k≠some j)→over t (wx ν b ν iH++wo ν b ro) p=t p:=fun h1 h2=>by rw[xC,if_neg h1,Ah (Z4 h2)]
 have hH:lD E2 (over t (wx ν b ν iH++wo ν b ro)):=by
  refine⟨fun p hps=>?_,fun k=>hi.h.frees k,fun p q b' h1 h2=>?_,fun p b' h1=>?_,fun b' o h1=>hp.h.o_ b' o h1,fun b' o h1 p h2=>?_,fun y hy=>dU.ext x.r _ _ _ (hi.h.gl y hy)⟩
  ·by_cases mP:p∈ν
   ·obtain⟨i,h1⟩:=bU mP;have hil:i<iH.length:=by rw[hl];exact(aB.1 h1).1
    rw[xC,if_pos mP,zx MI hl h1 (aj hil)];have hb:=hbox iH[i] (aJ hil);have hit:=hp.h.item (.x i) (by simp);have hr:oP iH ro (.x i)=iH[i]:=by simp[oP,List.getD,hil]
    rw[hr]at hit
    cases hc:iH[i]with
    | box cs=>
      rw[hc]at hit
      obtain⟨_,b',ty,us,h2,h3,h4,h5⟩:=hit;rw[hp.fr.xb]at h2
      obtain⟨p',g1,g2,g3⟩:=sU h2;rw[h1]at g1;simp only[ah]at g1;subst g1
      refine⟨fun id e=>?_,b',ty,us,?_,h3,by rw[h4,o9],uw hback h5⟩
      ·subst e;rw[qC (fun j=>x9 mP id j rfl)];obtain⟨cs0,g4⟩:=Ib h1;have:=hi.h.item (.o id) (by simp);rw[g4]at this
       exact this.1 id rfl
      ·rw[l9 (x9 mP)];exact g2
    | none=>rw[hc]at hb;simp[nD]at hb
    | v _=>rw[hc]at hb;simp[nD]at hb
    | row _ _ _ _=>rw[hc]at hb;simp[nD]at hb
    | sJ _ _ _=>rw[hc]at hb;simp[nD]at hb
    | mp _=>rw[hc]at hb;simp[nD]at hb
    | fO _ _ _ _=>rw[hc]at hb;simp[nD]at hb
    | yt _ _ _ _=>rw[hc]at hb;simp[nD]at hb
    | BM _ _=>rw[hc]at hb;simp[nD]at hb
   ·by_cases hn:∃k j,p = .o k∧nw k=some j
    ·obtain⟨k,j,rfl,hn⟩:=hn;obtain⟨rfl,hj⟩:=hnw.1 hn;rw[xC,if_neg mP,Gm hj];have ho:=JR OI hj;have hit:=hp.h.item (.o j) (by simp);simp only[oP]at hit;obtain⟨hb1,hv1⟩:=qA hn;cases hc:uU ro j with
     | box cs=>
       rw[hc]at hit
       obtain⟨h0,b',ty,us,h2,h3,h4,h5⟩:=hit;exact⟨fun id e=>by simp only[Pl.o.injEq]at e;subst e;rw[hv1];exact h0 j rfl,b',ty,us,hb1.trans h2,h3,by rw[h4,o9],uw hback h5⟩
     | row e k' es sh=>
       rw[hc]at hit
       obtain⟨h0,id,v,us,e1,h2,h3,h4⟩:=hit;simp only[Pl.o.injEq]at e1;subst e1;exact⟨hb1.trans h0,b+j,v,us,rfl,by rw[hv1,aV];exact h2,by rw[aV];exact h3,LZ hback h4⟩
     | mp es=>
       rw[hc]at hit
       obtain⟨h0,b',l,clock,h2,h3,h4,h5⟩:=hit;exact⟨fun id e=>by simp only[Pl.o.injEq]at e;subst e;rw[hv1];exact h0 j rfl,b',l,clock,hb1.trans h2,h3,rW.ext (E:=E') (E':=E2) ⟨fun _ _ h=>h,fun _ _ _=>rfl⟩ h4,h5⟩
     | fO es c pd s=>
       rw[hc]at hit
       obtain⟨id,b',l,clock,l',ty,v,e1,h2,h3,h4,h5,h6,h7,h8,h9⟩:=hit;simp only[Pl.o.injEq]at e1;subst e1;exact⟨b+j,b',l,clock,l',ty,v,rfl,hb1.trans h2,h3,h4,abt hback h5,h6,by rw[hv1];exact h7,h8,h9⟩
     | yt _ _ _ _=>rw[hc]at ho;simp[isObj]at ho
     | BM _ _=>rw[hc]at ho;simp[isObj]at ho
     | sJ _ _ _=>rw[hc]at ho;simp[isObj]at ho
     | none=>rw[hc]at ho;simp[isObj]at ho
     | v _=>rw[hc]at ho;simp[isObj]at ho
    ·have hn':∀k j,p = .o k→nw k≠some j:=fun k j e h=>hn ⟨k,j,e,h⟩
     rw[hold mP hn'];refine(hi.h.item p hps).up x (l9 hn') (fun id e=>qC (fun j=>hn' id j e)) (fun b' hb'=>?_);refine hp.fr.old b' (hi.h.size p b' hb') (fun i hx=>?_) (fun j=>hno j b');obtain⟨q,g1,g2,g3⟩:=sU hx;have:=hi.h.inj p q b' hb' g3;subst this;exact mP (bF g1)
  ·by_cases n1:∃k j,p = .o k∧nw k=some j<;>by_cases n2:∃k j,q = .o k∧nw k=some j
   ·obtain⟨k,j,rfl,hn⟩:=n1;obtain⟨k',j',rfl,hn'⟩:=n2;rw[jF hn]at h1;rw[jF hn']at h2
    have:=hp.h.inj _ _ b' h1 h2;simp only[Pl.o.injEq]at this;subst this;rw[(hnw.1 hn).1,(hnw.1 hn').1]
   ·obtain⟨k,j,rfl,hn⟩:=n1;rw[jF hn]at h1
    rw[jG (fun k j e h=>n2 ⟨k,j,e,h⟩)]at h2
    have g1:=hnew1 h1;have g2:=hi.h.size q b' h2;simp only[En.callee]at g1;omega
   ·obtain⟨k,j,rfl,hn⟩:=n2;rw[jF hn]at h2
    rw[jG (fun k j e h=>n1 ⟨k,j,e,h⟩)]at h1
    have g1:=hnew1 h2;have g2:=hi.h.size p b' h1;simp only[En.callee]at g1;omega
   ·rw[jG (fun k j e h=>n1 ⟨k,j,e,h⟩)]at h1
    rw[jG (fun k j e h=>n2 ⟨k,j,e,h⟩)]at h2
    exact hi.h.inj p q b' h1 h2
  ·by_cases n1:∃k j,p = .o k∧nw k=some j
   ·obtain⟨k,j,rfl,hn⟩:=n1;rw[jF hn]at h1
    exact hp.h.size _ b' h1
   ·rw[jG (fun k j e h=>n1 ⟨k,j,e,h⟩)]at h1
    exact dA (hi.h.size p b' h1) hp.fr.size
  ·by_cases n1:∃k j,p = .o k∧nw k=some j
   ·obtain⟨k,j,rfl,hn⟩:=n1;rw[jF hn]at h2
    obtain⟨e,k',es,g1,g2⟩:=hp.h.sep b' o h1 _ h2;obtain⟨rfl,hj⟩:=hnw.1 hn;have mP:Pl.o (b+j)∉ν:=fun h=>x9 h _ j rfl hn
    refine⟨e,k',es.map (TV.backs ν b),?_,by simpa using g2⟩;rw[xC,if_neg mP,Gm hj];simp only[oP]at g1;rw[g1];rfl
   ·have n1':∀k j,p = .o k→nw k≠some j:=fun k j e h=>n1 ⟨k,j,e,h⟩
    rw[jG n1']at h2
    have hsz:=hi.h.size p b' h2;rcases hp.fr.xE b' o h1 with g1|g1|⟨i,g1⟩
    ·obtain⟨e,k,es,g2,g3⟩:=hi.h.sep b' o g1 p h2;refine⟨e,k,es,?_,g3⟩;rw[hold _ n1',g2];intro mP;obtain⟨i,hi'⟩:=bU mP;obtain⟨cs,h⟩:=Ib hi';rw[h]at g2;simp at g2
    ·simp only[En.callee]at g1;omega
    ·exact absurd g1 (hno i b')
 have hsl:∀k,over t (wx ν b ν iH++wo ν b ro) (.s k)=t (.s k):=fun k=>hold (fun h=>adK h k rfl) (fun _ _ e=>by simp at e)
 refine⟨E2,rfl,hi.step hH x (hi.fr.next hp.fr.os hp.fr.tape hp.fr.output hp.fr.size (fun b' h1 h2 h3=>?_) (fun i=>rfl) (fun id b' h=>?_) (fun b' o h=>hp.fr.st b' o h) (fun b' o h=>?_)) hsl,hback hp.rel⟩
 ·refine hp.fr.old b' (dA h1 hi.fr.size) (fun i hx=>?_) (fun j=>hno j b');obtain⟨q,g1,g2,g3⟩:=sU hx;cases q with
  | s k=>rw[hi.h.frees k]at g2;simp at g2
  | x j=>exact h2 j ((hi.fr.xb j).symm.trans g2)
  | o k=>exact(hi.fr.new k b' g3).elim (fun h=>by omega) (fun⟨j,h⟩=>h3 j h)
 ·cases hn:nw id with
  | some j=>
    rw[jF hn]at h
    exact .inr (hnew1 h)
  | none=>
    rw[jG (fun k j e h=>by simp only[Pl.o.injEq]at e;subst e;rw[hn]at h;simp at h)]at h
    exact .inl h
 ·rcases hp.fr.xE b' o h with g|g|⟨i,g⟩
  ·exact .inl g
  ·exact .inr (.inl (dw hi.fr.size g))
  ·exact absurd g (hno i b')
end
end Go.Tr

namespace Go.Tr
open Go
section
variable {P:Program} {A:f_} {ops:Array Oper}
theorem aew{t:S}{ν:List Pl}:∀{v v':TV},v.pass t ν=some v'→∀id∈v.rows,∃e k es xs,t (.o id) = .row e k es true∧jX es=some xs:=by
 intro v;exact(TV.rec (motive_1:=fun v=>∀{v':TV},v.pass t ν=some v'→∀id∈v.rows,∃e k es xs,t (.o id) = .row e k es true∧jX es=some xs)
  (motive_2:=fun vs=>∀{vs':List TV},TV.n_ t ν vs=some vs'→∀id∈TV.qG vs,∃e k es xs,t (.o id) = .row e k es true∧jX es=some xs)
  (by simp[TV.rows]) (by simp[TV.rows]) (by simp[TV.rows])
  (by
   grind[TV.pass,TV.rows])
  (by simp[TV.pass])
  (by
   grind[TV.rows,TV.pass])
  (by simp[TV.rows]) (by simp[TV.rows]) (by simp[TV.pass])
  (by
   grind[TV.pass,TV.rows])
  (by simp[TV.pass])
  (by simp[TV.pass])
  (by simp[TV.pass])
  (by simp[TV.qG])
  (by
   grind[TV.n_,TV.qG]) v)
theorem F7{t:S}{ν:List Pl}:∀{vs vs':List TV},TV.n_ t ν vs=some vs'→∀id∈TV.qG vs,∃e k es xs,t (.o id) = .row e k es true∧jX es=some xs
 | [],_,_,id,hid=>by trivial
 | v::vs,vs',h,id,hid=>by
   simp only[TV.n_]at h;split at h
   ·rename_i h1 h2;simp only[TV.qG,aN]at hid;rcases hid with hid|hid
    ·grind[aew]
    ·exact F7 h2 id hid
   trivial
theorem lD.callee{t:S}{a:Act}{E:En}(hi:eY A t a E){ν:List Pl}{w_:List It}(MI:ν.Nodup)(hI:vW t ν ν=some w_)(hIC:∀p∈ν,F5 t (t p))
  (hf:∀p∈ν,∀id∈IK (t p),∀e k es xs,t (.o id) = .row e k es true→jX es=some xs→∀u,aP E (.aW id es.length) u→Rep E (.sl xs) u) (FK:∀p∈ν,rP p=true) :
  lD (E.callee ν) (BG w_):=by
 obtain⟨hl0,hIs⟩:=wV hI;have sU:∀{i b'},(E.callee ν).blk (.x i)=some b'→∃p,ν[i]? = some p∧E.blk p=some b'∧E.own p=some b':=fun {i b'} h=>by
  have h:(ν[i]?).bind E.blk=some b':=h;cases hp:ν[i]? with
  | none=>simp_all
  | some p=>simp only[hp,bY]at h;exact⟨p,rfl,h,by simp[En.own,h]⟩
 have hown:∀{p b'},(E.callee ν).own p=some b'→∃i,p = .x i∧(E.callee ν).blk (.x i)=some b':=fun {p b'} h=>by
  cases p with
  | s k=>trivial
  | o k=>trivial
  | x i=>
    refine⟨i,rfl,?_⟩
    grind[En.own]
 refine⟨fun p hps=>?_,fun k=>rfl,fun p q b' h1 h2=>?_,fun p b' h1=>?_,fun b' o h=>hi.h.o_ b' o h,fun b' o h p hp=>?_,fun y hy=>dU.ext (E:=E) (E':=E.callee ν) ⟨fun _ _ h=>h,fun _ _ _=>rfl⟩ _ _ _ (hi.h.gl y hy)⟩
 ·cases p with
  | s k=>simp_all
  | o k=>exact fun id _=>⟨rfl,rfl⟩
  | x i=>
    cases hp:ν[i]? with
    | none=>
      have:w_.length≤i:=by simp_all
      simp only[BG,List.getD,dX this,lU];exact fun id h=>by trivial
    | some p=>
      obtain⟨cs,cs',h1,h2,h3⟩:=hIs i p hp;have hpm:=bF hp;simp only[BG,List.getD,h3,bZ];have agv:∀k,p≠.s k:=fun k e=>by subst e;have:=FK _ hpm;simp[rP]at this
      have hit:=hi.h.item p agv;rw[h1]at hit
      obtain⟨_,b',ty,us,g1,g2,g3,g4⟩:=hit;have hfc:=hf p hpm;have hcc:=hIC p hpm;rw[h1]at hfc hcc
      refine⟨fun id h=>by simp at h,b',ty,us,?_,g2,by rw[g3,T_ h2],TW hfc h2 hcc g4⟩
      show(ν[i]?).bind E.blk=some b'
      rw[hp];exact g1
 ·obtain⟨i,rfl,g1⟩:=hown h1;obtain⟨j,rfl,g2⟩:=hown h2;obtain⟨p,k1,_,k2⟩:=sU g1;obtain⟨q,k3,_,k4⟩:=sU g2;have:=hi.h.inj p q b' k2 k4;subst this;have hil:=(aB.1 k1).1;have hjl:=(aB.1 k3).1;have:i=j:=by
   have e1:=(aB.1 k1).2;have e2:=(aB.1 k3).2;exact(List.getElem_inj MI).1 (e1.trans e2.symm)
  rw[this]
 ·obtain⟨i,rfl,g1⟩:=hown h1;obtain⟨p,_,_,k2⟩:=sU g1;exact hi.h.size p b' k2
 ·obtain⟨i,rfl,g1⟩:=hown hp;obtain⟨p,k1,_,k2⟩:=sU g1;obtain⟨e,k,es,k3,_⟩:=hi.h.sep b' o h p k2;obtain⟨cs,_,h1,_⟩:=hIs i p k1;rw[h1]at k3;simp at k3
def dB(P:Program)(f:FuncId):Bool:=
 match P.funcs[f]? with
 | some fn => fn.body.isSome && !(fn.name == "runtime.NumGoroutine")
 | none=>false
theorem iU{f:FuncId}(h:dB P f=true)(args:Array Value)(w:World):(callFunc f args).run P w = .ok (.enter f args) w:=by
 unfold dB at h;cases hf:P.funcs[f]? with
 | none=>simp_all
 | some fn=>
   simp only[hf,aG,fB]at h;have h1:fn.body.isNone=false:=by simp[*]
   simp only[callFunc,Sem.run_bind,run_program,Result.andThen_ok,hf,h.2,h1,eu,if_false,Sem.run_pure]
theorem Sum.call{t:S}{i:Nat}{o:Oper}{gp:List Pl}{fo:Operand}{xs:List Operand}{tys:Array TypeId}{f:FuncId}{caps nC:List TV}{w_ iH:List It}{r:TV}{ro:List (Nat×It)}
  (ho:ops[i]? = some o) (hg:gv ops t o=some (gp,true)) (hd:mZ A.N o=true) (hop:o.op = .call {callee:=.value fo,args:=xs.toArray,argTypes:=tys}) (hf:ev t fo = .clo f caps) (hfn:dB P f=true)
  (C:Contract P f nC w_ r iH ro) (ν:List Pl) (b:Nat) (MI:ν.Nodup) (FK:∀p∈ν,rP p=true) (hp:TV.n_ t ν (xs.map (ev t)++caps)=some nC) (hc:TV.pU t (xs.map (ev t)++caps)) (hI:vW t ν ν=some w_) (hIC:∀p∈ν,F5 t (t p))
  (hl:iH.length=ν.length) (hbox:∀i∈iH,nD i=true) (OI:∀x∈ro,isObj x.2=true) (hfree:∀x∈ro,t (.o (b+x.1)) = .none) :
  Sum P A ops i t (gp++(pl fo++(xs.flatMap pl++(ν++((TV.qG (xs.map (ev t)++caps)++ν.flatMap (fun p=>IK (t p))).map .o++ro.map fun x=>.o (b+x.1))))))
   (rM o (r.back ν b) (wx ν b ν iH++wo ν b ro)):=fun t' hr a w ⟨E,hw,hi⟩ K Q hK=>by
 subst hw;have hwant:=kU hg (bf hr) hi;have hr1:=aQ hr;have hr2:=aQ hr1;have hr3:=aQ hr2;have hr4:=aQ hr3;have hfo:ev t' fo = .clo f caps:=(dK (bf hr1)).trans hf;have hxs:xs.map (ev t')=xs.map (ev t):=Oj (bf hr2);have agB:∀p∈ν,t' p=t p:=bf hr3
 have hrows:∀id,id∈TV.qG (xs.map (ev t)++caps)++ν.flatMap (fun p=>IK (t p))→t' (.o id)=t (.o id):=fun id hid=>
  (bf hr4) (.o id) (ak.2 ⟨id,hid,rfl⟩)
 have ags:∀x∈ro,t' (.o (b+x.1)) = .none:=fun x hx=>((aQ hr4) (.o (b+x.1)) (ak.2 ⟨x,hx,rfl⟩)).trans (hfree x hx)
 have arz:∀{v v':TV},(∀id∈v.rows,t' (.o id)=t (.o id))→v.pass t ν=some v'→v.pass t' ν=some v'∧(v.yU t→v.yU t'):=by
  intro v;exact(TV.rec (motive_1:=fun v=>∀{v':TV},(∀id∈v.rows,t' (.o id)=t (.o id))→v.pass t ν=some v'→v.pass t' ν=some v'∧(v.yU t→v.yU t'))
   (motive_2:=fun vs=>∀{vs':List TV},(∀id∈TV.qG vs,t' (.o id)=t (.o id))→TV.n_ t ν vs=some vs'→TV.n_ t' ν vs=some vs'∧(TV.pU t vs→TV.pU t' vs))
   (by intro _ _ h;exact⟨h,fun h=>h⟩) (by intro _ _ _ h;exact⟨h,fun h=>h⟩) (by intro _ _ _ h;exact⟨h,fun h=>h⟩)
   (by
    intro vs ih v' hr h;simp only[TV.pass]at h⊢;split at h
    ·rename_i hv;obtain⟨h1,h2⟩:=ih (by simpa only[TV.rows]using hr) hv;rw[h1];exact⟨h,by simpa only[TV.yU]using h2⟩
    ·simp at h)
   (by intro vs _ v' _ h;simp[TV.pass]at h)
   (by
    intro i n v' hr h;have:=hr i (by simp[TV.rows]);simp only[TV.pass,TV.yU,this]at h⊢;exact⟨h,fun h=>h⟩)
   (by intro _ _ _ _ h;exact⟨h,fun h=>h⟩) (by intro _ _ _ _ h;exact⟨h,fun h=>h⟩) (by intro _ _ _ _ _ _ h;simp[TV.pass]at h)
   (by
    intro f vs ih v' hr h;simp only[TV.pass]at h⊢;split at h
    ·rename_i hv;obtain⟨h1,h2⟩:=ih (by simpa only[TV.rows]using hr) hv;rw[h1];exact⟨h,by simpa only[TV.yU]using h2⟩
    ·simp at h)
   (by intro _ _ _ h;simp[TV.pass]at h)
   (by intro _ _ _ h;simp[TV.pass]at h)
   (by intro _ _ _ _ _ h;simp[TV.pass]at h)
   (by intro _ _ h;exact⟨h,fun h=>h⟩)
   (by
    intro v vs ih1 ih2 vs' hr h;simp only[TV.n_]at h⊢;simp only[TV.qG,aN]at hr;split at h
    ·rename_i g1 g2;obtain⟨h1,h2⟩:=ih1 (fun id hid=>hr id (.inl hid)) g1;obtain⟨h3,h4⟩:=ih2 (fun id hid=>hr id (.inr hid)) g2;rw[h1,h3];exact⟨h,by simp only[TV.pU];exact fun h=>⟨h2 h.1,h4 h.2⟩⟩
    ·simp at h) v)
 have afD:∀{vs vs':List TV},(∀id∈TV.qG vs,t' (.o id)=t (.o id))→TV.n_ t ν vs=some vs'→TV.n_ t' ν vs=some vs'∧(TV.pU t vs→TV.pU t' vs):=by
  intro vs
  induction vs with
  | nil=>exact fun _ h=>⟨h,fun h=>h⟩
  | cons v vs ih=>
    intro vs' hr h;simp only[TV.n_]at h⊢;simp only[TV.qG,aN]at hr;split at h
    ·rename_i g1 g2;obtain⟨h1,h2⟩:=arz (fun id hid=>hr id (.inl hid)) g1;obtain⟨h3,h4⟩:=ih (fun id hid=>hr id (.inr hid)) g2;rw[h1,h3];exact⟨h,by simp only[TV.pU];exact fun h=>⟨h2 h.1,h4 h.2⟩⟩
    ·simp at h
 obtain⟨hp',hc'⟩:=afD (fun id hid=>hrows id (kZ _ hid)) hp;have agy:∀p∈ν,∀id∈IK (t p),t' (.o id)=t (.o id):=fun p hp id hid=>hrows id (jZ _ (gJ.2 ⟨p,hp,hid⟩))
 have hI':vW t' ν ν=some w_:=by
  have go:∀{l:List Pl} {xs:List It},(∀p∈l,p∈ν)→vW t ν l=some xs→vW t' ν l=some xs:=by
   intro l
   induction l with
   | nil=>exact fun _ h=>h
   | cons p l ih=>
     intro xs hm h;simp only[vW]at h⊢;split at h
     ·rename_i g1 g2;rw[ih (fun q hq=>hm q (by simp[hq])) g2,agB p (hm p (by simp))];have:PN t' ν (t p)=PN t ν (t p):=by
       unfold PN at g1⊢;split
       ·rename_i cs hcs;rw[hcs]at g1
        simp only at g1;split at g1
        ·rename_i g3;rw[(afD (fun id hid=>agy p (hm p (by simp)) id (by rw[hcs];exact hid)) g3).1]
        ·simp at g1
       ·rfl
      rw[this,g1];exact h
     ·simp at h
  exact go (fun p hp=>hp) hI
 have as8:∀p∈ν,F5 t' (t' p):=fun p mP=>by
  rw[agB p mP];have h1:=hIC p mP;unfold F5 at h1⊢;split
  ·rename_i cs hcs;rw[hcs]at h1
   obtain⟨i,hi'⟩:=bU mP;obtain⟨cs0,cs',g1,g2,_⟩:=(wV hI).2 i p hi';rw[hcs]at g1;simp only[It.box.injEq]at g1;subst g1
   exact(afD (fun id hid=>agy p mP id (by rw[hcs];exact hid)) g2).2 h1
  ·trivial
 have hsh:∀id∈TV.qG (xs.map (ev t)++caps)++ν.flatMap (fun p=>IK (t p)),∃e k es xs,t' (.o id) = .row e k es true∧jX es=some xs:=fun id hid=>by
  rw[hrows id hid];rcases aN.1 hid with h|h
  ·exact F7 hp id h
  ·obtain⟨p,mP,h⟩:=gJ.1 h;obtain⟨i,hi'⟩:=bU mP;obtain⟨cs0,cs',g1,g2,_⟩:=(wV hI).2 i p hi';rw[g1]at h
   exact F7 g2 id h
 obtain⟨E1,hw1,x1,hb1,hv1,hi1,hfz⟩:=hi.SG _ hsh;have hfr:=bP hi1 fo;rw[hfo]at hfr
 simp only[aP]at hfr;obtain⟨rU,zf,uQ⟩:=hfr;have hxr:=AA hi1 xs;rw[hxs]at hxr
 have happ:∀{ts ts':List TV} {us us':List Value},bD E1 ts us→bD E1 ts' us'→bD E1 (ts++ts') (us++us'):=by
  intro ts
  induction ts with
  | nil=>intro ts' us us' h g;simp only[bD]at h;subst h;simpa using g
  | cons v ts ih=>intro ts' us us' h g;simp only[bD]at h;obtain⟨u,us0,rfl,h1,h2⟩:=h;simp only[bg,bD];exact⟨u,us0++us',rfl,h1,ih h2 g⟩
 have hargs:=happ hxr uQ;have hfz1:∀id,id∈TV.qG (xs.map (ev t)++caps)++ν.flatMap (fun p=>IK (t p))→∀e k es xs,t' (.o id) = .row e k es true→jX es=some xs→∀u,aP E1 (.aW id es.length) u→Rep E1 (.sl xs) u:=hfz;have FD:bD (E1.callee ν) nC (xs.map a.eval++rU.toList):=Em (fun id hid=>hfz1 id (kZ _ hid)) hp' (hc' hc) hargs
 have hH0:lD (E1.callee ν) (BG w_):=lD.callee hi1 MI hI' as8 (fun p mP id hid=>hfz1 id (jZ _ (gJ.2 ⟨p,mP,by rw[←agB p mP];exact hid⟩))) FK;have hcall:=C (E1.callee ν) _ hH0 FD;have hwc:(E1.callee ν).w=E.w:=hw1;rw[hwc]at hcall
 unfold wpOp;simp only[ho,hwant,if_true];refine .inl ?_;unfold Oper.wp;have hrun:(execOp a.eval o).run P E.w = .ok (.enter f (xs.map a.eval++rU.toList).toArray) E.w:=by
  have harr:(List.map a.eval xs++rU.toList).toArray=(List.map a.eval xs).toArray++rU:=by simp
  simp only[execOp,hop,resolve,zf,Deferred.ofValue,invoke,Sem.run_bind,Sem.run_pure,Result.andThen_ok,fA,fD,iU hfn,harr]
 rw[hrun];simp only[Oper.upon];refine hcall.mono fun e w' ⟨u,E',he,hw',hpost⟩=>?_
 subst he;have alB:∀x∈ro,t' (.o (b+x.1)) = .none:=ags;obtain⟨E2,hw2,hi2,hr2⟩:=hi1.called MI FK hI' hl hbox OI alB hpost;refine hK _ _ ⟨E2,hw2.trans hw',eY.dst ?_ hd hr2⟩;exact hi2
end
end Go.Tr
