/-
  What functions of the program compute, stated as contracts over plain data; the conditions of each stand in its own statement.
-/
import Derived.Test.YtboimfkommpglaaGreatDoorZA07
import Derived.Scope
set_option linter.unusedSimpArgs false
namespace Go.Tr
open Go
def lift(A:eX)(Q:Exit→S→Prop)(e:Exit)(a:Act)(w:World):Prop:=∃t,Inv A t a w∧Q e t
def AW(P:Program)(A:eX)(c:Code)(Q:Exit→S→Prop)(t:S):Prop:=∀a w,Inv A t a w→c.wp P (lift A Q) a w
def thn(K:S→Prop)(Q:Exit→S→Prop):Exit→S→Prop
 | .normal,t=>K t
 | e,t=>Q e t
def ad9(id:Nat)(Q:Exit→S→Prop):Exit→S→Prop
 | .exit id',t=>if id'=id then Q .normal t else Q (.exit id') t
 | e,t=>Q e t
def ak_(Q:Exit→S→Prop):Exit→S→Prop
 | .goto _,_=>False
 | e,t=>Q e t
def aeg:TV→Option Bool
 | .d (.bool b)=>some b
 | _=>none
def adU(b:Option Bool)(X Y:Prop)(_:Tg X)(_:Tg Y):Prop:=
 match b with
 | some b=>qM b X Y .mk .mk
 | none=>False
def air(ow:List Nat)(ops:Array Oper)(X:Prop):Bool→Prop
 | true=>ai5 ow ops=true∧X
 | false=>X
theorem U1{ow:List Nat}{ops:Array Oper}{X:Prop}:air ow ops X true=(ai5 ow ops=true∧X):=rfl
theorem QB{ow:List Nat}{ops:Array Oper}{X:Prop}:air ow ops X false=X:=rfl
structure aN(P:Program)(A:eX)(c:Code)(Q:Exit→S→Prop)(_g:Tg Q)(t:S):Prop where
 aw:AW P A (.loop c) Q t
def kept(kp:Nat→Bool)(t:S):S:=fun p=>match p with
 | .s k=>if kp k then t p else .none
 | _=>t p
def cO(P:Program)(A:eX)(ow:List Nat)(kp:Nat→Bool):Code→(Q:Exit→S→Prop)→Tg Q→S→Prop
 | .skip,Q,_,t=>Q .normal t
 | .label _,Q,_,t=>Q .normal t
 | .seq x y,Q,g,t=>cO P A ow kp x (thn (cO P A ow kp y Q g) Q) .mk t
 | .cond c x y,Q,g,t=>adU (aeg (ev t c)) (cO P A ow kp x Q g t) (cO P A ow kp y Q g t) .mk .mk
 | .block id c,Q,_,t=>cO P A ow kp c (ad9 id Q) .mk t
 | .exit id,Q,_,t=>Q (.exit id) t
 | .goto l,Q,_,t=>Q (.goto l) t
 | .ret,Q,_,t=>Q .ret t
 | .region _ ops draw,Q,_,t=>air ow ops (Hq P A ow ops ops.toList 0 [] .mk t (fun L t'=>aip P ops L (Q .normal (kept kp t')) draw) .mk) draw
 | .loop c,Q,g,t=>aN P A c Q g t
 | .scope c,Q,_,t=>cO P A ow kp c (ak_ Q) .mk t
 | _,_,_,_=>False
section
variable {P:Program} {A:eX}
theorem Inv.kept{t:S}{a:Act}{w:World}(h:Inv A t a w)(kp:Nat→Bool):Inv A (kept kp t) a w:=by
 obtain⟨E,hw,hi⟩:=h;refine⟨E,hw,⟨⟨fun p hp=>?_,hi.h.frees,hi.h.inj,hi.h.size,hi.h.oQ,fun b o hst p hp=>?_,hi.h.gl⟩,hi.fr,fun k tv hk=>?_,hi.defers,hi.size⟩⟩
 ·have:Tr.kept kp t p=t p:=by cases p<;>first|rfl|exact absurd rfl (hp _)
  rw[this];exact hi.h.item p hp
 ·obtain⟨e,k,es,h1,h2⟩:=hi.h.sep b o hst p hp;refine⟨e,k,es,?_,h2⟩;have hps:∀k,p≠.s k:=by
   rintro k rfl;simp[En.own,hi.h.frees k]at hp
  have:Tr.kept kp t p=t p:=by cases p<;>first|rfl|exact absurd rfl (hps _)
  rw[this];exact h1
 ·simp only[Tr.kept]at hk;split at hk
  ·exact hi.sl k tv hk
  ·simp at hk
theorem AW.mono{c:Code}{Q Q':Exit→S→Prop}{t:S}(h:AW P A c Q t)(hq:∀e t,Q e t→Q' e t):AW P A c Q' t:=fun a w hi=>
 Code.wp_mono (fun _ _ _ ⟨t,h1,h2⟩=>⟨t,h1,hq _ _ h2⟩) (h a w hi)
theorem cO.sound{ow:List Nat}{kp:Nat→Bool}:∀{c:Code} {Q:Exit→S→Prop} {g:Tg Q} {t:S},cO P A ow kp c Q g t→AW P A c Q t
 | .skip,Q,_,t,h=>fun a w hi=>wp_skip ⟨t,hi,by simpa only[cO]using h⟩
 | .label _,Q,_,t,h=>fun a w hi=>wp_label ⟨t,hi,by simpa only[cO]using h⟩
 | .seq x y,Q,_,t,h=>fun a w hi=>by
   simp only[cO]at h;refine wp_seq (Code.wp_mono (fun e a w ⟨t',h1,h2⟩=>?_) (cO.sound (c:=x) h a w hi));cases e<;>first
    | exact cO.sound (c:=y) h2 a w h1
    | exact⟨t',h1,h2⟩
 | .cond c x y,Q,_,t,h=>fun a w hi=>by
   simp only[cO]at h;obtain⟨E,hw,hE⟩:=hi;have hr:=bM hE c;unfold aeg at h;split at h
   ·rename_i b hb;rw[hb]at hr
    simp only[aA,Rep]at hr;unfold adU at h;cases b
    ·exact wp_cond_false hr (cO.sound (c:=y) (h.no rfl) a w ⟨E,hw,hE⟩)
    ·exact wp_cond_true hr (cO.sound (c:=x) (h.yes rfl) a w ⟨E,hw,hE⟩)
   ·exact h.elim
 | .block id c,Q,_,t,h=>fun a w hi=>by
   simp only[cO]at h;refine wp_block (Code.wp_mono (fun e a w ⟨t',h1,h2⟩=>?_) (cO.sound (c:=c) h a w hi));cases e<;>first
    | exact⟨t',h1,h2⟩
    | (simp only[Exit.inBlock]
       simp only[ad9]at h2;split
       ·rename_i he;rw[if_pos he]at h2;exact⟨t',h1,h2⟩
       ·rename_i he;rw[if_neg he]at h2;exact⟨t',h1,h2⟩)
 | .exit id,Q,_,t,h=>fun a w hi=>wp_exit ⟨t,hi,by simpa only[cO]using h⟩
 | .goto l,Q,_,t,h=>fun a w hi=>wp_goto ⟨t,hi,by simpa only[cO]using h⟩
 | .ret,Q,_,t,h=>fun a w hi=>wp_ret ⟨t,hi,by simpa only[cO]using h⟩
 | .region id ops draw,Q,_,t,h=>fun a w hi=>by
   simp only[cO]at h;cases draw
   ·rw[QB]at h
    refine wp_region ?_;have:=Hq.wps (Q:=lift A Q) (fun j=>by simp) h (fun L t' h3 a w hi'=>⟨_,hi'.kept kp,h3⟩) a w hi
    rwa [Array.length_toList,←List.range_eq_range']at this
   ·rw[U1]at h
    obtain⟨hn,h⟩:=h;obtain⟨L,t',h1,h2,h3⟩:=Hq.sound (fun o ho=>by
     have:=List.all_eq_true.1 hn o ho;simpa using this) (fun j=>by simp) h
    rw[Array.length_toList]at h2
    obtain⟨h4,h5,h6⟩:=h3;have h7:=aep h6.ok;rw[ZO]at h7
    simp only[List.append_nil,List.reverse_reverse]at h7;exact Y5 h5 h1 h2 h7 (fun a w hi'=>⟨_,hi'.kept kp,h4⟩) a w hi
 | .loop c,Q,_,t,h=>by simp only[cO]at h;exact h.aw
 | .rangeFunc ..,_,_,_,h=>by simp only[cO]at h
 | .scope c,Q,_,t,h=>fun a w hi=>by
   simp only[cO]at h;refine wp_scope_straight (Code.wp_mono (fun e a w ⟨t',h1,h2⟩=>?_) (cO.sound (c:=c) h a w hi));cases e<;>first
    | exact⟨t',h1,h2⟩
    | exact h2.elim
 | .refuse _,_,_,_,h=>by simp only[cO]at h
def GS(A:eX)(t t':S):Prop:=∀a w,Inv A t a w→Inv A t' a w
theorem GS.refl(t:S):GS A t t:=fun _ _ h=>h
theorem GS.trans{t u v:S}(h:GS A t u)(g:GS A u v):GS A t v:=fun a w x=>g a w (h a w x)
theorem AW.ghost{c:Code}{Q:Exit→S→Prop}{t t':S}(h:AW P A c Q t')(g:GS A t t'):AW P A c Q t:=fun a w hi=>h a w (g a w hi)
theorem least{p:Nat→Prop}(h:∃n,p n):∃n,p n∧∀m,p m→n≤m:=by
 obtain⟨n,hn⟩:=h
 induction n using Nat.strongRecOn with
 | _ n ih=>
   by_cases hm:∃m,m<n∧p m
   ·obtain⟨m,h1,h2⟩:=hm;exact ih m h1 h2
   ·exact⟨n,hn,fun m hm'=>Nat.le_of_not_lt fun h=>hm ⟨m,h,hm'⟩⟩
theorem AW.loop{ι:Type}{c:Code}{Q:Exit→S→Prop}{t:S}(st:ι→S)(μ:ι→Nat)(i0:ι)(h0:GS A t (st i0))
  (round:∀i,AW P A c (thn (fun t'=>∃j,GS A t' (st j)∧μ j<μ i) Q) (st i)):AW P A (.loop c) Q t:=fun a w hi=>by
 let p:Act→World→Nat→Prop:=fun a w n=>∃i,Inv A (st i) a w∧n=μ i
 let m:Act→World→Nat:=fun a w=>Classical.epsilon fun n=>p a w n∧∀k,p a w k→n≤k
 have hm:∀a w,(∃i,Inv A (st i) a w)→p a w (m a w)∧∀k,p a w k→m a w≤k:=fun a w ⟨i,h⟩=>
  Classical.epsilon_spec (p:=fun n=>p a w n∧∀k,p a w k→n≤k) (least ⟨μ i,i,h,rfl⟩)
 refine wp_loop (fun a w=>∃i,Inv A (st i) a w) m ⟨i0,h0 a w hi⟩ fun a w hI=>?_
 obtain⟨⟨i,h1,h2⟩,_⟩:=hm a w hI;refine Code.wp_mono (fun e a' w' ⟨t',h3,h4⟩=>?_) (round i a w h1);cases e<;>first
  | exact⟨t',h3,h4⟩
  | (obtain⟨j,hj,hlt⟩:=h4
     have hj':=hj a' w' h3;refine⟨⟨j,hj'⟩,?_⟩;have:=(hm a' w' ⟨j,hj'⟩).2 (μ j) ⟨j,hj',rfl⟩;omega)
end
end Go.Tr

namespace Go.Tr
open Go
def qx:List (Nat×It)→Nat→It
 | [],_=>.none
 | (j,i)::l,id=>if id=j then i else qx l id
def NR(xs:List It):S:=fun p=>match p with
 | .x i=>xs.getD i .none
 | _=>.none
def h_(xs:List It)(ro:List (Nat×It)):S:=fun p=>match p with
 | .x i=>xs.getD i .none
 | .o id=>qx ro id
 | _=>.none
structure Post(E:En)(xs:List It)(ro:List (Nat×It))(r:TV)(u:Value)(E':En):Prop where
 h:jQ E' (h_ xs ro)
 fr:Fr E E'
 rel:aA E' r u
def Contract(P:Program)(f:FuncId)(args:List TV)(xs:List It)(r:TV)(xs':List It)(ro:List (Nat×It)):Prop:=
 ∀(E:En) (us:List Value),jQ E (NR xs)→aP E args us→Calls P f us.toArray E.w fun e w'=>∃u E',e = .returned u∧E'.w=w'∧Post E xs' ro r u E'
def YE(p:Pl):List Pl→Nat→Option Nat
 | [],_=>none
 | q::l,i=>if p=q then some i else YE p l (i+1)
theorem zS{p:Pl}:∀{l:List Pl} {i j:Nat},YE p l i=some j→i≤j∧l[j-i]? = some p
 | [],_,_,h=>by trivial
 | q::l,i,j,h=>by
   simp only[YE]at h;split at h
   ·simp_all
   ·obtain⟨h1,h2⟩:=zS h
    grind
mutual
def TV.pass(t:S)(ν:List Pl):TV→Option TV
 | .junk=>some .junk
 | .d x=>some (.d x)
 | .c v=>some (match v with|.slice none 0 0=>.d (.sl [])|v=>.c v)
 | .agg vs=>match TV.qQ t ν vs with|some vs=>some (.agg vs)|none=>none
 | .rG _=>none
 | .aB id _=>match t (.o id)with
   | .row _ _ es true=>match eu es with|some xs=>some (.d (.sl xs))|none=>none
   | _=>none
 | .ptr p q=>match YE p ν 0 with|some i=>some (.ptr (.x i) q)|none=>none
 | .ep e q=>some (.ep e q)
 | .rQ _ _ _ _=>none
 | .mref _=>none
 | .sx _=>none
 | .NS _ _ _=>none
 | .clo f vs=>match TV.qQ t ν vs with|some vs=>some (.clo f vs)|none=>none
def TV.qQ(t:S)(ν:List Pl):List TV→Option (List TV)
 | []=>some []
 | v::vs=>match TV.pass t ν v,TV.qQ t ν vs with
   | some v,some vs=>some (v::vs)
   | _,_=>none
end
mutual
def TV.D_(t:S):TV→Prop
 | .agg vs|.clo _ vs=>TV.sQ t vs
 | .aB id n=>match t (.o id)with
   | .row _ _ es _=>n=es.length
   | _=>False
 | _=>True
def TV.sQ(t:S):List TV→Prop
 | []=>True
 | v::vs=>v.D_ t∧TV.sQ t vs
end
mutual
def TV.rows:TV→List Nat
 | .agg vs|.clo _ vs=>TV.tX vs
 | .aB id _=>[id]
 | _=>[]
def TV.tX:List TV→List Nat
 | []=>[]
 | v::vs=>v.rows++TV.tX vs
end
section
variable {P:Program} {A:eX}
theorem dL.Vl{t:S}{a:Act}:∀(ids:List Nat) {E:En},dL A t a E→(∀id∈ids,∃e k es xs,t (.o id) = .row e k es true∧eu es=some xs)→
  ∃E1:En,E1.w=E.w∧qN E E1∧E1.blk=E.blk∧E1.val=E.val∧dL A t a E1∧
   ∀id∈ids,∀e k es xs,t (.o id) = .row e k es true→eu es=some xs→∀u,aA E1 (.aB id es.length) u→Rep E1 (.sl xs) u
 | [],E,hi,_=>⟨E,rfl,Ext.refl _ _,rfl,rfl,hi,fun _ h=>by trivial⟩
 | id::ids,E,hi,h=>by
   obtain⟨e,k,es,xs,h1,h2⟩:=h id (by simp);obtain⟨E',hw,x,hb,hv,hi',hr,_⟩:=hi.freeze h1 h2;have hsame:upd t (.o id) (.row e k es true)=t:=by grind[upd]
   rw[hsame]at hi'
   obtain⟨E1,hw1,x1,hb1,hv1,hi1,hr1⟩:=dL.Vl ids hi' (fun i hi=>h i (by simp[*]));refine⟨E1,hw1.trans hw,x.trans x1,hb1.trans hb,hv1.trans hv,hi1,fun i hii e' k' es' xs' g1 g2 u hu=>?_⟩;rcases List.mem_cons.1 hii with rfl|hii
   ·rw[h1]at g1
    obtain⟨rfl,rfl,rfl⟩:=g1;rw[h2]at g2;simp only[Option.some.injEq]at g2;subst g2
    refine(hr u ?_).up x1
    grind[aA]
   grind
def En.callee(E:En)(ν:List Pl):En:=
 {w:=E.w,St:=E.St,blk:=fun p=>match p with|.x i=>(ν[i]?).bind E.blk|_=>none,val:=fun _=>none}
mutual
theorem Y0{t:S}{ν:List Pl}{E:En}:∀{v v':TV} {u:Value},
  (∀id∈v.rows,∀e k es xs,t (.o id) = .row e k es true→eu es=some xs→∀u,aA E (.aB id es.length) u→Rep E (.sl xs) u)→v.pass t ν=some v'→v.D_ t→aA E v u→aA (E.callee ν) v' u
 | .junk,v',u,_,h,_,_=>by grind[TV.pass,aA]
 | .d x,v',u,_,h,_,hr=>by
   simp only[TV.pass,Option.some.injEq]at h;subst h;exact Rep.ext (E:=E) (E':=E.callee ν) ⟨fun _ _ h=>h,fun _ _ _=>rfl⟩ x u hr
 | .c v,v',u,_,h,_,hr=>by
   simp only[TV.pass,Option.some.injEq]at h;subst hr;split at h
   ·subst h;simp only[aA,Rep];simp
   grind[aA]
 | .agg vs,v',u,hf,h,hc,hr=>by
   simp only[TV.pass]at h;split at h
   ·rename_i vs' hv;simp only[Option.some.injEq]at h;subst h;obtain⟨us,hu,hs⟩:=hr;exact⟨us,hu,JC (by trivial) hv hc hs⟩
   trivial
 | .rG vs,v',u,_,h,_,_=>by trivial
 | .aB id n,v',u,hf,h,hc,hr=>by
   simp only[TV.pass]at h;split at h
   ·rename_i e k es ht;split at h
    ·rename_i xs hx;simp only[Option.some.injEq]at h;subst h;simp only[TV.D_,ht]at hc;subst hc;have:=hf id (by simp[TV.rows]) e k es xs ht hx u hr;simp only[aA];exact Rep.ext (E:=E) (E':=E.callee ν) ⟨fun _ _ h=>h,fun _ _ _=>rfl⟩ _ u this
    trivial
   trivial
 | .ptr p q,v',u,_,h,_,hr=>by
   simp only[TV.pass]at h;split at h
   ·rename_i i hi;simp only[Option.some.injEq]at h;subst h;simp only[aA]at hr⊢;obtain⟨b,hb,hu⟩:=hr;obtain⟨_,h2⟩:=zS hi
    grind[En.callee]
   trivial
 | .ep e q,v',u,_,h,_,hr=>by
   simp only[TV.pass,Option.some.injEq]at h;subst h;simp only[aA]at hr⊢;obtain⟨b,o,hu,hc⟩:=hr;exact⟨b,o,hu,bQ.ext (E:=E) (E':=E.callee ν) ⟨fun _ _ h=>h,fun _ _ _=>rfl⟩ b o e hc⟩
 | .rQ _ _ _ _,v',u,_,h,_,_=>by trivial
 | .mref _,v',u,_,h,_,_=>by trivial
 | .sx _,v',u,_,h,_,_=>by trivial
 | .NS _ _ _,v',u,_,h,_,_=>by trivial
 | .clo f vs,v',u,hf,h,hc,hr=>by
   simp only[TV.pass]at h;split at h
   ·rename_i vs' hv;simp only[Option.some.injEq]at h;subst h;simp only[aA,TV.D_]at hr hc⊢;obtain⟨us,hu,hs⟩:=hr;exact⟨us,hu,JC (by trivial) hv hc hs⟩
   trivial
theorem JC{t:S}{ν:List Pl}{E:En}:∀{vs vs':List TV} {us:List Value},
  (∀id∈TV.tX vs,∀e k es xs,t (.o id) = .row e k es true→eu es=some xs→∀u,aA E (.aB id es.length) u→Rep E (.sl xs) u)→TV.qQ t ν vs=some vs'→TV.sQ t vs→aP E vs us→aP (E.callee ν) vs' us
 | [],vs',us,_,h,_,hr=>by
   grind[TV.qQ,aP]
 | v::vs,vs',us,hf,h,hc,hr=>by
   simp only[TV.qQ]at h;split at h
   ·rename_i v1 vs1 h1 h2;simp only[Option.some.injEq]at h;subst h;simp only[aP,TV.sQ,TV.tX]at hr hc hf⊢;obtain⟨u,us',hu,g1,g2⟩:=hr;exact⟨u,us',hu,Y0 (fun id hid=>hf id (List.mem_append_left _ hid)) h1 hc.1 g1,JC (fun id hid=>hf id (List.mem_append_right _ hid)) h2 hc.2 g2⟩
   trivial
end
def TG(t:S)(ν:List Pl):It→Option It
 | .box cs=>match TV.qQ t ν cs with|some cs=>some (.box cs)|none=>none
 | _=>none
def zW(t:S)(ν:List Pl):List Pl→Option (List It)
 | []=>some []
 | p::l=>match TG t ν (t p),zW t ν l with
   | some i,some is=>some (i::is)
   | _,_=>none
theorem AA{t:S}{ν:List Pl}:∀{l:List Pl} {xs:List It},zW t ν l=some xs→xs.length=l.length∧∀(i:Nat) (p:Pl),l[i]? = some p→∃cs cs',t p = .box cs∧TV.qQ t ν cs=some cs'∧xs[i]? = some (.box cs')
 | [],xs,h=>by grind[zW]
 | p::l,xs,h=>by
   simp only[zW]at h;split at h
   ·rename_i it is h1 h2;simp only[Option.some.injEq]at h;subst h;obtain⟨h3,h4⟩:=AA h2;refine⟨by simp[*],fun i q hq=>?_⟩;cases i with
    | zero=>
      simp at hq;subst hq;unfold TG at h1
      grind
    | succ i=>simp_all
   trivial
def Nu:It→List Nat
 | .box cs=>TV.tX cs
 | _=>[]
def KQ(t:S):It→Prop
 | .box cs=>TV.sQ t cs
 | _=>True
theorem VL{t:S}{ν:List Pl}:∀{vs vs':List TV},TV.qQ t ν vs=some vs'→vs'.length=vs.length
 | [],vs',h=>by grind[TV.qQ]
 | v::vs,vs',h=>by
   simp only[TV.qQ]at h;split at h
   ·rename_i h1 h2;simp only[Option.some.injEq]at h;subst h;simp[VL h2]
   trivial
theorem VJ{t:S}{ν:List Pl}{E:En}{us:List Value}:∀{o:Nat} {vs vs':List TV},(∀id∈TV.tX vs,∀e k es xs,t (.o id) = .row e k es true→eu es=some xs→∀u,aA E (.aB id es.length) u→Rep E (.sl xs) u)→
  TV.qQ t ν vs=some vs'→TV.sQ t vs→bG E us o vs→bG (E.callee ν) us o vs'
 | o,[],vs',_,h,_,_=>by simp only[TV.qQ,Option.some.injEq]at h;subst h;trivial
 | o,v::vs,vs',hf,h,hc,⟨⟨u,h1,h2,h3⟩,hr⟩=>by
   simp only[TV.qQ]at h;split at h
   ·rename_i v1 vs1 g1 g2;simp only[Option.some.injEq]at h;subst h;exact⟨⟨u,h1,h2,Y0 (fun id hid=>hf id (List.mem_append_left _ hid)) g1 hc.1 h3⟩,VJ (fun id hid=>hf id (List.mem_append_right _ hid)) g2 hc.2 hr⟩
   trivial
mutual
def TV.back(ν:List Pl)(b:Nat):TV→TV
 | .agg vs=>.agg (TV.backs ν b vs)
 | .rG vs=>.rG (TV.backs ν b vs)
 | .clo f vs=>.clo f (TV.backs ν b vs)
 | .aB id n=>.aB (b+id) n
 | .rQ id n i q=>.rQ (b+id) n i q
 | .mref id=>.mref (b+id)
 | .NS id n j=>.NS (b+id) n j
 | .ptr (.o id) q=>.ptr (.o (b+id)) q
 | .ptr (.x i) q=>.ptr (ν.getD i (.s 0)) q
 | v=>v
def TV.backs(ν:List Pl)(b:Nat):List TV→List TV
 | []=>[]
 | v::vs=>v.back ν b::TV.backs ν b vs
end
def Lr(ν:List Pl)(b:Nat):It→It
 | .box cs=>.box (TV.backs ν b cs)
 | .row e k es sh=>.row e k (es.map (TV.backs ν b)) sh
 | .wI e k es=>.wI e k (es.map (TV.backs ν b))
 | .jX es c pd s=>.jX (es.map fun x=>(x.1,x.2.back ν b)) c pd s
 | i=>i
mutual
theorem Ci{ν:List Pl}{b:Nat}{E' E2:En}(hr:J_ E' E2)(hx:∀i b',E'.blk (.x i)=some b'→E2.blk (ν.getD i (.s 0))=some b')(ho:∀id b',E'.blk (.o id)=some b'→E2.blk (.o (b+id))=some b')
  (hv:∀id y,E'.val id=some y→E2.val (b+id)=some y) (hs:∀k,E'.blk (.s k)=none):∀{v:TV} {u:Value},aA E' v u→aA E2 (v.back ν b) u
 | .junk,u,_=>by trivial
 | .d x,u,h=>by grind[TV.back,aA,Rep.ext]
 | .c v,u,h=>by trivial
 | .agg vs,u,h=>by
   obtain⟨us,hu,h⟩:=h;exact⟨us,hu,Jp hr hx ho hv hs h⟩
 | .rG vs,u,h=>by
   obtain⟨us,hu,h⟩:=h;exact⟨us,hu,Jp hr hx ho hv hs h⟩
 | .aB id n,u,h=>by
   grind[TV.back,aA]
 | .ptr (.o id) q,u,h=>by
   grind[TV.back,aA]
 | .ptr (.x i) q,u,h=>by
   grind[TV.back,aA]
 | .ptr (.s i) q,u,h=>by
   grind[aA]
 | .ep e q,u,h=>by
   grind[TV.back,aA,bQ.ext]
 | .rQ id n i q,u,h=>by
   grind[TV.back,aA]
 | .mref id,u,h=>by
   grind[TV.back,aA]
 | .sx xs,u,h=>by
   grind[TV.back,aA,Rep.ext]
 | .NS id n j,u,h=>by
   grind[TV.back,aA]
 | .clo f vs,u,h=>by
   obtain⟨us,hu,h⟩:=h;exact⟨us,hu,Jp hr hx ho hv hs h⟩
theorem Jp{ν:List Pl}{b:Nat}{E' E2:En}(hr:J_ E' E2)(hx:∀i b',E'.blk (.x i)=some b'→E2.blk (ν.getD i (.s 0))=some b')(ho:∀id b',E'.blk (.o id)=some b'→E2.blk (.o (b+id))=some b')
  (hv:∀id y,E'.val id=some y→E2.val (b+id)=some y) (hs:∀k,E'.blk (.s k)=none):∀{vs:List TV} {us:List Value},aP E' vs us→aP E2 (TV.backs ν b vs) us
 | [],us,h=>by trivial
 | v::vs,us,h=>by
   obtain⟨u,us',hu,h1,h2⟩:=h;exact⟨u,us',hu,Ci hr hx ho hv hs h1,Jp hr hx ho hv hs h2⟩
end
theorem jk{ν:List Pl}{b:Nat}:∀vs:List TV,(TV.backs ν b vs).length=vs.length
 | []=>by rfl
 | v::vs=>by simp only[TV.backs,List.length_cons,jk vs]
theorem ou{ν:List Pl}{b:Nat}{E' E2:En}(hb:∀{v:TV} {u:Value},aA E' v u→aA E2 (v.back ν b) u){us:List Value}:∀{o:Nat} {vs:List TV},bG E' us o vs→bG E2 us o (TV.backs ν b vs)
 | _,[],_=>by trivial
 | _,_::_,⟨⟨u,h1,h2,h3⟩,r⟩=>by exact⟨⟨u,h1,h2,hb h3⟩,ou hb r⟩
theorem QL{ν:List Pl}{b:Nat}{E' E2:En}(hb:∀{v:TV} {u:Value},aA E' v u→aA E2 (v.back ν b) u):∀{es:List (List Int×TV)} {l:List MapEntry},jD E' es l→jD E2 (es.map fun x=>(x.1,x.2.back ν b)) l
 | [],l,h=>h
 | (k,v)::es,l,h=>by
   obtain⟨a,l',rfl,h1,h2,h3⟩:=h;exact⟨a,l',rfl,h1,hb h2,QL hb h3⟩
theorem F6{ν:List Pl}{b:Nat}{E' E2:En}(hb:∀{v:TV} {u:Value},aA E' v u→aA E2 (v.back ν b) u){us:List Value}{k:Nat}:∀{o:Nat} {es:List (List TV)},dK E' us k o es→dK E2 us k o (es.map (TV.backs ν b))
 | _,[],_=>trivial
 | _,_::_,⟨h1,h2,r⟩=>⟨(jk _).trans h1,ou hb h2,F6 hb r⟩
end
end Go.Tr

namespace Go.Tr
open Go
def isObj:It→Bool
 | .box _|.row _ _ _ _|.mp _|.jX _ _ _ _=>true
 | _=>false
def gU:It→Bool
 | .box _=>true
 | _=>false
def qw:Pl→Bool
 | .s _=>false
 | _=>true
def wx(kD:List Pl)(b:Nat):List Pl→List It→List (Pl×It)
 | p::ν,i::xs=>(p,Lr kD b i)::wx kD b ν xs
 | _,_=>[]
def wo(kD:List Pl)(b:Nat):List (Nat×It)→List (Pl×It)
 | []=>[]
 | (j,i)::l=>(.o (b+j),Lr kD b i)::wo kD b l
theorem uz{kD:List Pl}{b:Nat}{t:S}:∀{ν:List Pl} {xs:List It},ν.Nodup→xs.length=ν.length→∀{i:Nat} {p:Pl} {it:It},ν[i]? = some p→xs[i]? = some it→over t (wx kD b ν xs) p=Lr kD b it
 | [],_,_,_,i,p,it,h,_=>by trivial
 | q::ν,[],_,hl,_,_,_,_,_=>by trivial
 | q::ν,x::xs,hn,hl,i,p,it,h,hx=>by
   simp only[wx,over];rw[List.nodup_cons]at hn
   cases i with
   | zero=>simp_all[upd]
   | succ i=>
     have hp:p∈ν:=List.mem_of_getElem? (by trivial);have hne:p≠q:=fun e=>hn.1 (e▸hp)
     simp only[upd,if_neg hne];exact uz hn.2 (by simp_all) (by trivial) (by trivial)
theorem DF{kD:List Pl}{b:Nat}{t:S}:∀{ν:List Pl} {xs:List It} {p:Pl},p∉ν→over t (wx kD b ν xs) p=t p
 | [],_,_,_=>by rfl
 | _::_,[],_,_=>by rfl
 | q::ν,x::xs,p,h=>by
   simp only[List.mem_cons,not_or]at h;simp only[wx,over,upd,if_neg h.1];exact DF h.2
theorem zT{j:Nat}:∀{ro:List (Nat×It)},j∉ro.map (·.1)→qx ro j = .none
 | [],_=>rfl
 | (k,i)::ro,h=>by
   simp only[List.map_cons,List.mem_cons,not_or]at h;simp only[qx,if_neg h.1];exact zT h.2
theorem Aa{kD:List Pl}{b:Nat}{t:S}:∀{ro:List (Nat×It)} {j:Nat},j∈ro.map (·.1)→over t (wo kD b ro) (.o (b+j))=Lr kD b (qx ro j)
 | [],j,h=>by trivial
 | (k,i)::ro,j,h=>by
   simp only[wo,over,qx];by_cases e:j=k
   ·simp_all[upd]
   ·simp only[List.map_cons,List.mem_cons,e,false_or]at h;rw[if_neg e,upd,if_neg (by simp[*])];exact Aa h
theorem uK{kD:List Pl}{b:Nat}{t:S}:∀{ro:List (Nat×It)} {p:Pl},(∀j∈ro.map (·.1),p≠.o (b+j))→over t (wo kD b ro) p=t p
 | [],_,_=>rfl
 | (k,i)::ro,p,h=>by
   have h1:=h k (by simp);simp only[wo,over,upd,if_neg h1];exact uK fun j hj=>h j (by simp[*])
theorem BM{ro:List (Nat×It)}(h:∀x∈ro,isObj x.2=true){j:Nat}(hj:j∈ro.map (·.1)):isObj (qx ro j)=true:=by
 induction ro with
 | nil=>trivial
 | cons x ro ih=>
   obtain⟨k,i⟩:=x;simp only[qx];split
   ·exact h (k,i) (by simp)
   ·rename_i e;simp only[List.map_cons,List.mem_cons,e,false_or]at hj;exact ih (fun x hx=>h x (by simp[hx])) hj
section
variable {P:Program} {A:eX}
theorem dL.called{t:S}{a:Act}{E:En}(hi:dL A t a E){ν:List Pl}{qK dF:List It}{ro:List (Nat×It)}{b:Nat}(Aq:ν.Nodup)(sJ:∀p∈ν,qw p=true)(hI:zW t ν ν=some qK)
  (hl:dF.length=ν.length) (hbox:∀i∈dF,gU i=true) (CW:∀x∈ro,isObj x.2=true) (hfree:∀x∈ro,t (.o (b+x.1)) = .none)
  {r:TV} {u:Value} {E':En} (hp:Post (E.callee ν) dF ro r u E') :
  ∃E2:En,E2.w=E'.w∧dL A (over t (wx ν b ν dF++wo ν b ro)) a E2∧aA E2 (r.back ν b) u:=by
 obtain⟨hl0,hIs⟩:=AA hI;have wR:∀{i:Nat} {p:Pl},ν[i]? = some p→∃cs,t p = .box cs:=fun h=>by
  grind
 have P5:∀{p:Pl},p∈ν→∀k,p≠.s k:=fun hp k e=>by grind[qw]
 let nw:Nat→Option Nat:=fun k=>if b≤k∧(k-b)∈ro.map (·.1)then some (k-b)else none
 have hnw:∀{k j},nw k=some j↔k=b+j∧j∈ro.map (·.1):=fun {k j}=>by
  grind
 have jV:∀{k j},nw k=some j→t (.o k) = .none:=fun h=>by
  grind
 have vW:∀{k j},nw k=some j→E.blk (.o k)=none∧E.val k=none:=fun {k j} h=>by
  have:=hi.h.item (.o k) (by simp);rw[jV h]at this
  exact this k rfl
 let E2:En:={w:=E'.w,St:=E'.St,blk:=fun p=>match p with|.o k=>(match nw k with|some j=>E'.blk (.o j)|none=>E.blk (.o k))|p=>E.blk p,
             val:=fun k=>match nw k with|some j=>E'.val j|none=>E.val k}
 have eG:∀{p:Pl},(∀k j,p = .o k→nw k≠some j)→E2.blk p=E.blk p:=fun {p} h=>by
  grind
 have iq:∀{k:Nat},(∀j,nw k≠some j)→E2.val k=E.val k:=fun {k} h=>by
  grind
 have ig:∀{k j:Nat},nw k=some j→E2.blk (.o k)=E'.blk (.o j)∧E2.val k=E'.val j:=fun {k j} h=>by grind
 have dN:∀{p:Pl},(∀k j,p = .o k→nw k≠some j)→E2.own p=E.own p:=fun {p} h=>
  En.lU (eG h) (fun id e=>iq (fun j=>h id j e))
 have dM:∀{k j:Nat},nw k=some j→E2.own (.o k)=E'.own (.o j):=fun {k j} h=>by
  grind[En.own]
 have hcx:∀i,(E.callee ν).blk (.x i)=(ν[i]?).bind E.blk:=fun i=>rfl
 have hno:∀j b',(E.callee ν).own (.o j)≠some b':=fun j b' h=>by trivial
 have hnew1:∀{j b'},E'.own (.o j)=some b'→(E.callee ν).w.heap.size≤b':=fun {j b'} h=>(hp.fr.new j b' h).elim (fun h=>h) (fun⟨i,h⟩=>absurd h (hno i b'))
 have lV:∀{i b'},(E.callee ν).blk (.x i)=some b'→∃p,ν[i]? = some p∧E.blk p=some b'∧E.own p=some b':=fun {i b'} h=>by
  rw[hcx]at h
  cases hp:ν[i]? with
  | none=>simp_all
  | some p=>
    simp only[hp,Option.bind_some]at h;exact⟨p,rfl,h,by grind[En.own]⟩
 have CY:∀{b' o},E.St b' o→E'.w.heap[b']? = E.w.heap[b']? :=fun {b' o} h=>hp.fr.old b' (hi.h.oQ _ _ h) (fun i hx=>by
  obtain⟨p,h1,h2,h3⟩:=lV hx;obtain⟨cs,h4⟩:=wR h1;obtain⟨e,k,es,h5,_⟩:=hi.h.sep _ _ h p h3
  simp_all) (fun j=>hno j b')
 have x:qN E E2:=by
  refine⟨fun b' o h=>hp.fr.st b' o h,fun b' o h=>fC (CY h),fun id b' _ h=>?_,fun i b' h=>h,fun i b' h=>h,fun id k c v _ h=>⟨c,v,?_,Nat.le_refl _,fun _=>rfl⟩⟩
  ·rw[eG]
   ·exact h
   ·rintro k j e hn;simp only[Pl.o.injEq]at e;subst e;rw[(vW hn).1]at h;simp at h
  grind
 have hmem:∀{j:Nat},(E'.blk (.o j)≠none∨E'.val j≠none)→j∈ro.map (·.1):=fun {j} h=>by
  by_cases hj:j∈ro.map (·.1)
  ·omega
  ·have:=hp.h.item (.o j) (by simp);simp only[h_,zT hj]at this;obtain⟨h1,h2⟩:=this j rfl;rcases h with h|h
   ·exact absurd h1 h
   ·exact absurd h2 h
 have hback:∀{v:TV} {u:Value},aA E' v u→aA E2 (v.back ν b) u:=fun {v u} h=>by
  refine Ci (E':=E') (E2:=E2) ⟨fun _ _ h=>h,fun _ _ _=>rfl⟩ (fun i b' hb=>?_) (fun id b' hb=>?_) (fun id y hy=>?_) hp.h.frees h
  ·rw[hp.fr.xb]at hb
   obtain⟨p,h1,h2,h3⟩:=lV hb;have hg:ν.getD i (.s 0)=p:=by simp[List.getD,h1]
   rw[hg,eG]
   ·exact h2
   ·rintro k j rfl hn;rw[(vW hn).1]at h2;simp at h2
  ·have hj:=hmem (j:=id) (.inl (by rw[hb];simp));rw[(ig (hnw.2 ⟨rfl,hj⟩)).1];exact hb
  ·have hj:=hmem (j:=id) (.inr (by rw[hy];simp));rw[(ig (hnw.2 ⟨rfl,hj⟩)).2];exact hy
 have JM:∀{p:Pl},(∀k j,p = .o k→nw k≠some j)→∀j∈ro.map (·.1),p≠.o (b+j):=fun h j hj e=>h _ j e (hnw.2 ⟨rfl,hj⟩)
 have qp:∀{p:Pl},p∈ν→∀k j,p = .o k→nw k≠some j:=fun {p} gJ k j e hn=>by
  subst e;obtain⟨i,hi'⟩:=List.getElem?_of_mem gJ;obtain⟨cs,h⟩:=wR hi';rw[jV hn]at h;simp at h
 have oG:∀p,over t (wx ν b ν dF++wo ν b ro) p=if p∈ν then over t (wx ν b ν dF) p else over t (wo ν b ro) p:=fun p=>by
  rw[oO];split
  ·rename_i h;obtain⟨i,h1⟩:=List.getElem?_of_mem h;have hil:i<dF.length:=by rw[hl];exact(List.getElem?_eq_some_iff.1 h1).1
   rw[uz Aq hl h1 (List.getElem?_eq_getElem hil),uz Aq hl h1 (List.getElem?_eq_getElem hil)]
  ·rename_i h;rw[DF h]
 have hold:∀{p:Pl},p∉ν→(∀k j,p = .o k→nw k≠some j)→over t (wx ν b ν dF++wo ν b ro) p=t p:=fun h1 h2=>by
  rw[oG,if_neg h1,uK (JM h2)]
 have hH:jQ E2 (over t (wx ν b ν dF++wo ν b ro)):=by
  refine⟨fun p hps=>?_,fun k=>hi.h.frees k,fun p q b' h1 h2=>?_,fun p b' h1=>?_,fun b' o h1=>hp.h.oQ b' o h1,fun b' o h1 p h2=>?_,fun y hy=>bQ.ext x.r _ _ _ (hi.h.gl y hy)⟩
  ·by_cases gJ:p∈ν
   ·obtain⟨i,h1⟩:=List.getElem?_of_mem gJ;have hil:i<dF.length:=by rw[hl];exact(List.getElem?_eq_some_iff.1 h1).1
    rw[oG,if_pos gJ,uz Aq hl h1 (List.getElem?_eq_getElem hil)];have hb:=hbox dF[i] (List.getElem_mem hil);have hit:=hp.h.item (.x i) (by simp);have hr:h_ dF ro (.x i)=dF[i]:=by simp[h_,List.getD,hil]
    rw[hr]at hit
    cases hc:dF[i]with
    | box cs=>
      rw[hc]at hit
      obtain⟨_,b',ty,us,h2,h3,h4,h5⟩:=hit;rw[hp.fr.xb]at h2
      obtain⟨p',g1,g2,g3⟩:=lV h2;rw[h1]at g1;simp only[Option.some.injEq]at g1;subst g1
      refine⟨fun id e=>?_,b',ty,us,?_,h3,by rw[h4,jk],ou hback h5⟩
      ·subst e;rw[iq (fun j=>qp gJ id j rfl)];obtain⟨cs0,g4⟩:=wR h1;have:=hi.h.item (.o id) (by simp);rw[g4]at this
       exact this.1 id rfl
      ·rw[eG (qp gJ)];exact g2
    | none=>rw[hc]at hb;simp[gU]at hb
    | v _=>rw[hc]at hb;simp[gU]at hb
    | row _ _ _ _=>rw[hc]at hb;simp[gU]at hb
    | wI _ _ _=>rw[hc]at hb;simp[gU]at hb
    | mp _=>rw[hc]at hb;simp[gU]at hb
    | jX _ _ _ _=>rw[hc]at hb;simp[gU]at hb
    | DK _ _ _ _=>rw[hc]at hb;simp[gU]at hb
    | IE _ _=>rw[hc]at hb;simp[gU]at hb
   ·by_cases hn:∃k j,p = .o k∧nw k=some j
    ·obtain⟨k,j,rfl,hn⟩:=hn;obtain⟨rfl,hj⟩:=hnw.1 hn;rw[oG,if_neg gJ,Aa hj];have ho:=BM CW hj;have hit:=hp.h.item (.o j) (by simp);simp only[h_]at hit;obtain⟨hb1,hv1⟩:=ig hn;cases hc:qx ro j with
     | box cs=>
       rw[hc]at hit
       obtain⟨h0,b',ty,us,h2,h3,h4,h5⟩:=hit;exact⟨fun id e=>by simp only[Pl.o.injEq]at e;subst e;rw[hv1];exact h0 j rfl,b',ty,us,hb1.trans h2,h3,by rw[h4,jk],ou hback h5⟩
     | row e k' es sh=>
       rw[hc]at hit
       obtain⟨h0,id,v,us,e1,h2,h3,h4⟩:=hit;simp only[Pl.o.injEq]at e1;subst e1;exact⟨hb1.trans h0,b+j,v,us,rfl,by rw[hv1,List.length_map];exact h2,by rw[List.length_map];exact h3,F6 hback h4⟩
     | mp es=>
       rw[hc]at hit
       obtain⟨h0,b',l,clock,h2,h3,h4,h5⟩:=hit;exact⟨fun id e=>by simp only[Pl.o.injEq]at e;subst e;rw[hv1];exact h0 j rfl,b',l,clock,hb1.trans h2,h3,pV.ext (E:=E') (E':=E2) ⟨fun _ _ h=>h,fun _ _ _=>rfl⟩ h4,h5⟩
     | jX es c pd s=>
       rw[hc]at hit
       obtain⟨id,b',l,clock,l',ty,v,e1,h2,h3,h4,h5,h6,h7,h8,h9⟩:=hit;simp only[Pl.o.injEq]at e1;subst e1;exact⟨b+j,b',l,clock,l',ty,v,rfl,hb1.trans h2,h3,h4,QL hback h5,h6,by rw[hv1];exact h7,h8,h9⟩
     | DK _ _ _ _=>rw[hc]at ho;simp[isObj]at ho
     | IE _ _=>rw[hc]at ho;simp[isObj]at ho
     | wI _ _ _=>rw[hc]at ho;simp[isObj]at ho
     | none=>rw[hc]at ho;simp[isObj]at ho
     | v _=>rw[hc]at ho;simp[isObj]at ho
    ·have hn':∀k j,p = .o k→nw k≠some j:=fun k j e h=>hn ⟨k,j,e,h⟩
     rw[hold gJ hn'];refine(hi.h.item p hps).up x (eG hn') (fun id e=>iq (fun j=>hn' id j e)) (fun b' hb'=>?_);refine hp.fr.old b' (hi.h.size p b' hb') (fun i hx=>?_) (fun j=>hno j b');obtain⟨q,g1,g2,g3⟩:=lV hx;have:=hi.h.inj p q b' hb' g3;subst this;exact gJ (List.mem_of_getElem? g1)
  ·by_cases n1:∃k j,p = .o k∧nw k=some j<;>by_cases n2:∃k j,q = .o k∧nw k=some j
   ·obtain⟨k,j,rfl,hn⟩:=n1;obtain⟨k',j',rfl,hn'⟩:=n2;rw[dM hn]at h1;rw[dM hn']at h2
    have:=hp.h.inj _ _ b' h1 h2;simp only[Pl.o.injEq]at this;subst this;rw[(hnw.1 hn).1,(hnw.1 hn').1]
   ·obtain⟨k,j,rfl,hn⟩:=n1;rw[dM hn]at h1
    rw[dN (fun k j e h=>n2 ⟨k,j,e,h⟩)]at h2
    have g1:=hnew1 h1;have g2:=hi.h.size q b' h2;simp only[En.callee]at g1;omega
   ·obtain⟨k,j,rfl,hn⟩:=n2;rw[dM hn]at h2
    rw[dN (fun k j e h=>n1 ⟨k,j,e,h⟩)]at h1
    have g1:=hnew1 h2;have g2:=hi.h.size p b' h1;simp only[En.callee]at g1;omega
   ·rw[dN (fun k j e h=>n1 ⟨k,j,e,h⟩)]at h1
    rw[dN (fun k j e h=>n2 ⟨k,j,e,h⟩)]at h2
    exact hi.h.inj p q b' h1 h2
  ·by_cases n1:∃k j,p = .o k∧nw k=some j
   ·obtain⟨k,j,rfl,hn⟩:=n1;rw[dM hn]at h1
    exact hp.h.size _ b' h1
   ·rw[dN (fun k j e h=>n1 ⟨k,j,e,h⟩)]at h1
    exact Nat.lt_of_lt_of_le (hi.h.size p b' h1) hp.fr.size
  ·by_cases n1:∃k j,p = .o k∧nw k=some j
   ·obtain⟨k,j,rfl,hn⟩:=n1;rw[dM hn]at h2
    obtain⟨e,k',es,g1,g2⟩:=hp.h.sep b' o h1 _ h2;obtain⟨rfl,hj⟩:=hnw.1 hn;have gJ:Pl.o (b+j)∉ν:=fun h=>qp h _ j rfl hn
    refine⟨e,k',es.map (TV.backs ν b),?_,by simpa using g2⟩;rw[oG,if_neg gJ,Aa hj];simp only[h_]at g1;rw[g1];rfl
   ·have n1':∀k j,p = .o k→nw k≠some j:=fun k j e h=>n1 ⟨k,j,e,h⟩
    rw[dN n1']at h2
    have hsz:=hi.h.size p b' h2;rcases hp.fr.xg b' o h1 with g1|g1|⟨i,g1⟩
    ·obtain⟨e,k,es,g2,g3⟩:=hi.h.sep b' o g1 p h2;refine⟨e,k,es,?_,g3⟩;rw[hold _ n1',g2];intro gJ;obtain⟨i,hi'⟩:=List.getElem?_of_mem gJ;obtain⟨cs,h⟩:=wR hi';rw[h]at g2;simp at g2
    ·simp only[En.callee]at g1;omega
    ·exact absurd g1 (hno i b')
 have hsl:∀k,over t (wx ν b ν dF++wo ν b ro) (.s k)=t (.s k):=fun k=>
  hold (fun h=>P5 h k rfl) (fun _ _ e=>by simp at e)
 refine⟨E2,rfl,hi.step hH x (hi.fr.next hp.fr.os hp.fr.tape hp.fr.output hp.fr.size (fun b' h1 h2 h3=>?_) (fun i=>rfl) (fun id b' h=>?_) (fun b' o h=>hp.fr.st b' o h) (fun b' o h=>?_)) hsl,hback hp.rel⟩
 ·refine hp.fr.old b' (Nat.lt_of_lt_of_le h1 hi.fr.size) (fun i hx=>?_) (fun j=>hno j b');obtain⟨q,g1,g2,g3⟩:=lV hx;cases q with
  | s k=>rw[hi.h.frees k]at g2;simp at g2
  | x j=>exact h2 j ((hi.fr.xb j).symm.trans g2)
  | o k=>exact(hi.fr.new k b' g3).elim (fun h=>by omega) (fun⟨j,h⟩=>h3 j h)
 ·cases hn:nw id with
  | some j=>
    rw[dM hn]at h
    exact .inr (hnew1 h)
  | none=>
    rw[dN (fun k j e h=>by simp only[Pl.o.injEq]at e;subst e;rw[hn]at h;simp at h)]at h
    exact .inl h
 ·rcases hp.fr.xg b' o h with g|g|⟨i,g⟩
  ·exact .inl g
  ·exact .inr (.inl (Nat.le_trans hi.fr.size g))
  ·exact absurd g (hno i b')
end
end Go.Tr

namespace Go.Tr
open Go
section
variable {P:Program} {A:eX} {ops:Array Oper}
theorem adt{t:S}{ν:List Pl}:∀{v v':TV},v.pass t ν=some v'→∀id∈v.rows,∃e k es xs,t (.o id) = .row e k es true∧eu es=some xs:=by
 intro v;exact(TV.rec (motive_1:=fun v=>∀{v':TV},v.pass t ν=some v'→∀id∈v.rows,∃e k es xs,t (.o id) = .row e k es true∧eu es=some xs)
  (motive_2:=fun vs=>∀{vs':List TV},TV.qQ t ν vs=some vs'→∀id∈TV.tX vs,∃e k es xs,t (.o id) = .row e k es true∧eu es=some xs)
  (by simp[TV.rows]) (by simp[TV.rows]) (by simp[TV.rows])
  (by
   grind[TV.pass,TV.rows])
  (by simp[TV.pass])
  (by
   grind[TV.rows,TV.pass])
  (by simp[TV.rows]) (by simp[TV.rows]) (by simp[TV.pass])
  (by
   grind[TV.pass,TV.rows])
  (by simp[TV.pass])
  (by simp[TV.pass])
  (by simp[TV.pass])
  (by simp[TV.tX])
  (by
   grind[TV.qQ,TV.tX]) v)
theorem KT{t:S}{ν:List Pl}:∀{vs vs':List TV},TV.qQ t ν vs=some vs'→∀id∈TV.tX vs,∃e k es xs,t (.o id) = .row e k es true∧eu es=some xs
 | [],_,_,id,hid=>by trivial
 | v::vs,vs',h,id,hid=>by
   simp only[TV.qQ]at h;split at h
   ·rename_i h1 h2;simp only[TV.tX,List.mem_append]at hid;rcases hid with hid|hid
    ·grind[adt]
    ·exact KT h2 id hid
   trivial
theorem jQ.callee{t:S}{a:Act}{E:En}(hi:dL A t a E){ν:List Pl}{qK:List It}(Aq:ν.Nodup)(hI:zW t ν ν=some qK)(hIC:∀p∈ν,KQ t (t p))
  (hf:∀p∈ν,∀id∈Nu (t p),∀e k es xs,t (.o id) = .row e k es true→eu es=some xs→∀u,aA E (.aB id es.length) u→Rep E (.sl xs) u) (sJ:∀p∈ν,qw p=true) :
  jQ (E.callee ν) (NR qK):=by
 obtain⟨hl0,hIs⟩:=AA hI;have lV:∀{i b'},(E.callee ν).blk (.x i)=some b'→∃p,ν[i]? = some p∧E.blk p=some b'∧E.own p=some b':=fun {i b'} h=>by
  have h:(ν[i]?).bind E.blk=some b':=h;cases hp:ν[i]? with
  | none=>simp_all
  | some p=>
    simp only[hp,Option.bind_some]at h;exact⟨p,rfl,h,by simp[En.own,h]⟩
 have hown:∀{p b'},(E.callee ν).own p=some b'→∃i,p = .x i∧(E.callee ν).blk (.x i)=some b':=fun {p b'} h=>by
  cases p with
  | s k=>trivial
  | o k=>trivial
  | x i=>
    refine⟨i,rfl,?_⟩
    grind[En.own]
 refine⟨fun p hps=>?_,fun k=>rfl,fun p q b' h1 h2=>?_,fun p b' h1=>?_,fun b' o h=>hi.h.oQ b' o h,fun b' o h p hp=>?_,fun y hy=>bQ.ext (E:=E) (E':=E.callee ν) ⟨fun _ _ h=>h,fun _ _ _=>rfl⟩ _ _ _ (hi.h.gl y hy)⟩
 ·cases p with
  | s k=>simp_all
  | o k=>exact fun id _=>⟨rfl,rfl⟩
  | x i=>
    cases hp:ν[i]? with
    | none=>
      have:qK.length≤i:=by simp_all
      simp only[NR,List.getD,List.getElem?_eq_none this,Option.getD_none];exact fun id h=>by trivial
    | some p=>
      obtain⟨cs,cs',h1,h2,h3⟩:=hIs i p hp;have hpm:=List.mem_of_getElem? hp;simp only[NR,List.getD,h3,Option.getD_some];have RX:∀k,p≠.s k:=fun k e=>by subst e;have:=sJ _ hpm;simp[qw]at this
      have hit:=hi.h.item p RX;rw[h1]at hit
      obtain⟨_,b',ty,us,g1,g2,g3,g4⟩:=hit;have hfc:=hf p hpm;have hcc:=hIC p hpm;rw[h1]at hfc hcc
      refine⟨fun id h=>by simp at h,b',ty,us,?_,g2,by rw[g3,VL h2],VJ hfc h2 hcc g4⟩
      show(ν[i]?).bind E.blk=some b'
      rw[hp];exact g1
 ·obtain⟨i,rfl,g1⟩:=hown h1;obtain⟨j,rfl,g2⟩:=hown h2;obtain⟨p,k1,_,k2⟩:=lV g1;obtain⟨q,k3,_,k4⟩:=lV g2;have:=hi.h.inj p q b' k2 k4;subst this;have hil:=(List.getElem?_eq_some_iff.1 k1).1;have hjl:=(List.getElem?_eq_some_iff.1 k3).1;have:i=j:=by
   have e1:=(List.getElem?_eq_some_iff.1 k1).2;have e2:=(List.getElem?_eq_some_iff.1 k3).2;exact(List.getElem_inj Aq).1 (e1.trans e2.symm)
  rw[this]
 ·obtain⟨i,rfl,g1⟩:=hown h1;obtain⟨p,_,_,k2⟩:=lV g1;exact hi.h.size p b' k2
 ·obtain⟨i,rfl,g1⟩:=hown hp;obtain⟨p,k1,_,k2⟩:=lV g1;obtain⟨e,k,es,k3,_⟩:=hi.h.sep b' o h p k2;obtain⟨cs,_,h1,_⟩:=hIs i p k1;rw[h1]at k3;simp at k3
def aZ(P:Program)(f:FuncId):Bool:=
 match P.funcs[f]? with
 | some fn => fn.body.isSome && !(fn.name == "runtime.NumGoroutine")
 | none=>false
theorem jv{f:FuncId}(h:aZ P f=true)(args:Array Value)(w:World):(callFunc f args).run P w = .ok (.enter f args) w:=by
 unfold aZ at h;cases hf:P.funcs[f]? with
 | none=>simp_all
 | some fn=>
   simp only[hf,Bool.and_eq_true,Bool.not_eq_true']at h;have h1:fn.body.isNone=false:=by simp[*]
   simp only[callFunc,Sem.run_bind,run_program,Result.andThen_ok,hf,h.2,h1,Bool.false_eq_true,if_false,Sem.run_pure]
theorem Sum.call{t:S}{i:Nat}{o:Oper}{gp:List Pl}{fo:Operand}{xs:List Operand}{tys:Array TypeId}{f:FuncId}{caps iR:List TV}{qK dF:List It}{r:TV}{ro:List (Nat×It)}
  (ho:ops[i]? = some o) (hg:gv ops t o=some (gp,true)) (hd:pz A.N o=true) (hop:o.op = .call {callee:=.value fo,args:=xs.toArray,argTypes:=tys}) (hf:ev t fo = .clo f caps) (hfn:aZ P f=true)
  (C:Contract P f iR qK r dF ro) (ν:List Pl) (b:Nat) (Aq:ν.Nodup) (sJ:∀p∈ν,qw p=true) (hp:TV.qQ t ν (xs.map (ev t)++caps)=some iR) (hc:TV.sQ t (xs.map (ev t)++caps)) (hI:zW t ν ν=some qK) (hIC:∀p∈ν,KQ t (t p))
  (hl:dF.length=ν.length) (hbox:∀i∈dF,gU i=true) (CW:∀x∈ro,isObj x.2=true) (hfree:∀x∈ro,t (.o (b+x.1)) = .none) :
  Sum P A ops i t (gp++(pl fo++(xs.flatMap pl++(ν++((TV.tX (xs.map (ev t)++caps)++ν.flatMap (fun p=>Nu (t p))).map .o++ro.map fun x=>.o (b+x.1))))))
   (xA o (r.back ν b) (wx ν b ν dF++wo ν b ro)):=fun t' hr a w ⟨E,hw,hi⟩ K Q hK=>by
 subst hw;have hwant:=mD hg (aW hr) hi;have hr1:=aI hr;have hr2:=aI hr1;have hr3:=aI hr2;have hr4:=aI hr3;have hfo:ev t' fo = .clo f caps:=(dB (aW hr1)).trans hf;have hxs:xs.map (ev t')=xs.map (ev t):=Kz (aW hr2);have Si:∀p∈ν,t' p=t p:=aW hr3
 have hrows:∀id,id∈TV.tX (xs.map (ev t)++caps)++ν.flatMap (fun p=>Nu (t p))→t' (.o id)=t (.o id):=fun id hid=>
  (aW hr4) (.o id) (List.mem_map.2 ⟨id,hid,rfl⟩)
 have MF:∀x∈ro,t' (.o (b+x.1)) = .none:=fun x hx=>((aI hr4) (.o (b+x.1)) (List.mem_map.2 ⟨x,hx,rfl⟩)).trans (hfree x hx)
 have an5:∀{v v':TV},(∀id∈v.rows,t' (.o id)=t (.o id))→v.pass t ν=some v'→v.pass t' ν=some v'∧(v.D_ t→v.D_ t'):=by
  intro v;exact(TV.rec (motive_1:=fun v=>∀{v':TV},(∀id∈v.rows,t' (.o id)=t (.o id))→v.pass t ν=some v'→v.pass t' ν=some v'∧(v.D_ t→v.D_ t'))
   (motive_2:=fun vs=>∀{vs':List TV},(∀id∈TV.tX vs,t' (.o id)=t (.o id))→TV.qQ t ν vs=some vs'→TV.qQ t' ν vs=some vs'∧(TV.sQ t vs→TV.sQ t' vs))
   (by intro _ _ h;exact⟨h,fun h=>h⟩) (by intro _ _ _ h;exact⟨h,fun h=>h⟩) (by intro _ _ _ h;exact⟨h,fun h=>h⟩)
   (by
    intro vs ih v' hr h;simp only[TV.pass]at h⊢;split at h
    ·rename_i hv;obtain⟨h1,h2⟩:=ih (by simpa only[TV.rows]using hr) hv;rw[h1];exact⟨h,by simpa only[TV.D_]using h2⟩
    ·simp at h)
   (by intro vs _ v' _ h;simp[TV.pass]at h)
   (by
    intro i n v' hr h;have:=hr i (by simp[TV.rows]);simp only[TV.pass,TV.D_,this]at h⊢;exact⟨h,fun h=>h⟩)
   (by intro _ _ _ _ h;exact⟨h,fun h=>h⟩) (by intro _ _ _ _ h;exact⟨h,fun h=>h⟩) (by intro _ _ _ _ _ _ h;simp[TV.pass]at h)
   (by
    intro f vs ih v' hr h;simp only[TV.pass]at h⊢;split at h
    ·rename_i hv;obtain⟨h1,h2⟩:=ih (by simpa only[TV.rows]using hr) hv;rw[h1];exact⟨h,by simpa only[TV.D_]using h2⟩
    ·simp at h)
   (by intro _ _ _ h;simp[TV.pass]at h)
   (by intro _ _ _ h;simp[TV.pass]at h)
   (by intro _ _ _ _ _ h;simp[TV.pass]at h)
   (by intro _ _ h;exact⟨h,fun h=>h⟩)
   (by
    intro v vs ih1 ih2 vs' hr h;simp only[TV.qQ]at h⊢;simp only[TV.tX,List.mem_append]at hr;split at h
    ·rename_i g1 g2;obtain⟨h1,h2⟩:=ih1 (fun id hid=>hr id (.inl hid)) g1;obtain⟨h3,h4⟩:=ih2 (fun id hid=>hr id (.inr hid)) g2;rw[h1,h3];exact⟨h,by simp only[TV.sQ];exact fun h=>⟨h2 h.1,h4 h.2⟩⟩
    ·simp at h) v)
 have aeh:∀{vs vs':List TV},(∀id∈TV.tX vs,t' (.o id)=t (.o id))→TV.qQ t ν vs=some vs'→TV.qQ t' ν vs=some vs'∧(TV.sQ t vs→TV.sQ t' vs):=by
  intro vs
  induction vs with
  | nil=>exact fun _ h=>⟨h,fun h=>h⟩
  | cons v vs ih=>
    intro vs' hr h;simp only[TV.qQ]at h⊢;simp only[TV.tX,List.mem_append]at hr;split at h
    ·rename_i g1 g2;obtain⟨h1,h2⟩:=an5 (fun id hid=>hr id (.inl hid)) g1;obtain⟨h3,h4⟩:=ih (fun id hid=>hr id (.inr hid)) g2;rw[h1,h3];exact⟨h,by simp only[TV.sQ];exact fun h=>⟨h2 h.1,h4 h.2⟩⟩
    ·simp at h
 obtain⟨hp',hc'⟩:=aeh (fun id hid=>hrows id (List.mem_append_left _ hid)) hp;have ae8:∀p∈ν,∀id∈Nu (t p),t' (.o id)=t (.o id):=fun p hp id hid=>hrows id (List.mem_append_right _ (List.mem_flatMap.2 ⟨p,hp,hid⟩))
 have hI':zW t' ν ν=some qK:=by
  have go:∀{l:List Pl} {xs:List It},(∀p∈l,p∈ν)→zW t ν l=some xs→zW t' ν l=some xs:=by
   intro l
   induction l with
   | nil=>exact fun _ h=>h
   | cons p l ih=>
     intro xs hm h;simp only[zW]at h⊢;split at h
     ·rename_i g1 g2;rw[ih (fun q hq=>hm q (by simp[hq])) g2,Si p (hm p (by simp))];have:TG t' ν (t p)=TG t ν (t p):=by
       unfold TG at g1⊢;split
       ·rename_i cs hcs;rw[hcs]at g1
        simp only at g1;split at g1
        ·rename_i g3;rw[(aeh (fun id hid=>ae8 p (hm p (by simp)) id (by rw[hcs];exact hid)) g3).1]
        ·simp at g1
       ·rfl
      rw[this,g1];exact h
     ·simp at h
  exact go (fun p hp=>hp) hI
 have aoY:∀p∈ν,KQ t' (t' p):=fun p gJ=>by
  rw[Si p gJ];have h1:=hIC p gJ;unfold KQ at h1⊢;split
  ·rename_i cs hcs;rw[hcs]at h1
   obtain⟨i,hi'⟩:=List.getElem?_of_mem gJ;obtain⟨cs0,cs',g1,g2,_⟩:=(AA hI).2 i p hi';rw[hcs]at g1;simp only[It.box.injEq]at g1;subst g1
   exact(aeh (fun id hid=>ae8 p gJ id (by rw[hcs];exact hid)) g2).2 h1
  ·trivial
 have hsh:∀id∈TV.tX (xs.map (ev t)++caps)++ν.flatMap (fun p=>Nu (t p)),∃e k es xs,t' (.o id) = .row e k es true∧eu es=some xs:=fun id hid=>by
  rw[hrows id hid];rcases List.mem_append.1 hid with h|h
  ·exact KT hp id h
  ·obtain⟨p,gJ,h⟩:=List.mem_flatMap.1 h;obtain⟨i,hi'⟩:=List.getElem?_of_mem gJ;obtain⟨cs0,cs',g1,g2,_⟩:=(AA hI).2 i p hi';rw[g1]at h
   exact KT g2 id h
 obtain⟨E1,hw1,x1,hb1,hv1,hi1,hfz⟩:=hi.Vl _ hsh;have hfr:=bM hi1 fo;rw[hfo]at hfr
 simp only[aA]at hfr;obtain⟨sZ,Gu,yT⟩:=hfr;have hxr:=Ac hi1 xs;rw[hxs]at hxr
 have happ:∀{ts ts':List TV} {us us':List Value},aP E1 ts us→aP E1 ts' us'→aP E1 (ts++ts') (us++us'):=by
  intro ts
  induction ts with
  | nil=>intro ts' us us' h g;simp only[aP]at h;subst h;simpa using g
  | cons v ts ih=>
    intro ts' us us' h g;simp only[aP]at h;obtain⟨u,Zq,rfl,h1,h2⟩:=h;simp only[List.cons_append,aP];exact⟨u,Zq++us',rfl,h1,ih h2 g⟩
 have hargs:=happ hxr yT;have hfz1:∀id,id∈TV.tX (xs.map (ev t)++caps)++ν.flatMap (fun p=>Nu (t p))→∀e k es xs,t' (.o id) = .row e k es true→eu es=some xs→∀u,aA E1 (.aB id es.length) u→Rep E1 (.sl xs) u:=hfz;have CV:aP (E1.callee ν) iR (xs.map a.eval++sZ.toList):=JC (fun id hid=>hfz1 id (List.mem_append_left _ hid)) hp' (hc' hc) hargs
 have hH0:jQ (E1.callee ν) (NR qK):=jQ.callee hi1 Aq hI' aoY (fun p gJ id hid=>hfz1 id (List.mem_append_right _ (List.mem_flatMap.2 ⟨p,gJ,by rw[←Si p gJ];exact hid⟩))) sJ;have hcall:=C (E1.callee ν) _ hH0 CV;have hwc:(E1.callee ν).w=E.w:=hw1;rw[hwc]at hcall
 unfold wpOp;simp only[ho,hwant,if_true];refine .inl ?_;unfold Oper.wp;have hrun:(execOp a.eval o).run P E.w = .ok (.enter f (xs.map a.eval++sZ.toList).toArray) E.w:=by
  have harr:(List.map a.eval xs++sZ.toList).toArray=(List.map a.eval xs).toArray++sZ:=by simp
  simp only[execOp,hop,resolve,Gu,Deferred.ofValue,invoke,Sem.run_bind,Sem.run_pure,Result.andThen_ok,List.map_toArray,Array.empty_append,jv hfn,harr]
 rw[hrun];simp only[Oper.upon];refine hcall.mono fun e w' ⟨u,E',he,hw',hpost⟩=>?_
 subst he;have aiU:∀x∈ro,t' (.o (b+x.1)) = .none:=MF;obtain⟨E2,hw2,hi2,hr2⟩:=hi1.called Aq sJ hI' hl hbox CW aiU hpost;refine hK _ _ ⟨E2,hw2.trans hw',dL.dst ?_ hd hr2⟩;exact hi2
end
end Go.Tr
