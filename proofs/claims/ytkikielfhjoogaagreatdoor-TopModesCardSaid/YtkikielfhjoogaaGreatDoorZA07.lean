/-
  What functions of the program compute, stated as contracts over plain data; the conditions of each stand in its own statement.
-/
import Derived.Test.YtkikielfhjoogaaGreatDoorZA06
set_option linter.unusedVariables false
set_option linter.unusedSimpArgs false
namespace Go.Tr
open Go
theorem r_{t:S}:∀{W:List (Pl×It)} {p:Pl},p∉W.map (·.1)→over t W p=t p
 | [],_,_=>rfl
 | (q,i)::W,p,h=>by simp only[aC,aF,not_or]at h;simp only[over,upd,if_neg h.1];exact r_ h.2
theorem uG{t t':S}:∀{W:List (Pl×It)} {p:Pl},p∈W.map (·.1)→over t W p=over t' W p
 | (q,i)::W,p,h=>by
   by_cases e:p=q
   ·simp_all[over,upd]
   ·simp only[aC,aF,e,false_or]at h;simp only[over,upd,if_neg e];exact uG h
theorem rZ{t:S}:∀{V W:List (Pl×It)},over t (V++W)=over (over t W) V
 | [],W=>rfl
 | (p,i)::V,W=>by simp only[bg,over,rZ (V:=V)]
def YE(t:S):TV→Option (Prop×List Pl×TV×List (Pl×It))
 | .aW id n=>match t (.o id)with
   | .row e k es _=>match jX es with
     | some xs=>some (n=es.length,[.o id],.d (.sl xs),[(.o id,.row e k es true)])
     | none=>none
   | _=>none
 | .c (.slice none 0 0)=>some (True,[],.d (.sl []),[])
 | _=>none
def IX(t:S):List TV→Option (Prop×List Pl×List TV×List (Pl×It))
 | []=>none
 | c::l=>match YE t c with
   | none=>match IX t l with
     | none=>none
     | some (C,rp,vs,W)=>some (C,rp,c::vs,W)
   | some (C,rp,c',W)=>match IX (over t W) l with
     | none=>some (C,rp,c'::l,W)
     | some (C',rp',vs,W')=>some (C∧C',rp++rp',c'::vs,W'++W)
section
variable {A:f_}
theorem acJ{t t':S}{c c':TV}{C:Prop}{rp:List Pl}{W:List (Pl×It)}(h:YE t c=some (C,rp,c',W))(hC:C)(hr:∀p∈rp,t' p=t p){a:Act}{E:En}(hi:eY A t' a E):
  ∃E',E'.w=E.w∧oQ E E'∧eY A (over t' W) a E'∧∀u,aP E c u→aP E' c' u:=by
 unfold YE at h;split at h
 ·split at h
  ·rename_i ht;split at h
   ·rename_i hx;obtain⟨rfl,rfl,rfl,rfl⟩:=h;obtain⟨E',hw',x,_,_,hi',hrr,_⟩:=hi.freeze ((hr _ (by simp)).trans ht) hx;exact⟨E',hw',x,hi',fun u hu=>by grind[aP]⟩
   trivial
  trivial
 ·obtain⟨rfl,rfl,rfl,rfl⟩:=h;exact⟨E,rfl,Ext.refl _ _,hi,fun u hu=>by simp only[aP]at hu;simp only[aP,Rep];simp[*]⟩
 trivial
theorem IY:∀{vs:List TV} {t t':S} {vs':List TV} {C:Prop} {rp:List Pl} {W:List (Pl×It)},IX t vs=some (C,rp,vs',W)→C→(∀p∈rp,t' p=t p)→∀{a:Act} {E:En},eY A t' a E→
  ∃E',E'.w=E.w∧oQ E E'∧eY A (over t' W) a E'∧∀us,bD E vs us→bD E' vs' us
 | [],_,_,_,_,_,_,h,_,_,_,_,_=>by trivial
 | c::l,t,t',vs',C,rp,W,h,hC,hr,a,E,hi=>by
   simp only[IX]at h;split at h
   ·split at h
    ·trivial
    ·rename_i hl;obtain⟨rfl,rfl,rfl,rfl⟩:=h;obtain⟨E',h1,h2,h3,h4⟩:=IY hl hC hr hi;refine⟨E',h1,h2,h3,fun us hu=>?_⟩;obtain⟨u,us',rfl,g1,g2⟩:=hu;exact⟨u,us',rfl,g1.up h2,h4 _ g2⟩
   ·rename_i C1 rp1 c1 W1 hc;split at h
    ·obtain⟨rfl,rfl,rfl,rfl⟩:=h;obtain⟨E',h1,h2,h3,h4⟩:=acJ hc hC hr hi;refine⟨E',h1,h2,h3,fun us hu=>?_⟩;obtain⟨u,us',rfl,g1,g2⟩:=hu;exact⟨u,us',rfl,h4 _ g1,g2.up h2⟩
    ·rename_i hl;simp only[ah,aO]at h;obtain⟨rfl,rfl,rfl,rfl⟩:=h;obtain⟨E1,h1,h2,h3,h4⟩:=acJ hc hC.1 (bf hr) hi;obtain⟨E2,k1,k2,k3,k4⟩:=IY hl hC.2 (fun p hp=>(by
      by_cases hm:p∈W1.map (·.1)
      ·grind[uG]
      simp_all[r_,aQ])) h3
     refine⟨E2,k1.trans h1,h2.trans k2,by simp_all[rZ],fun us hu=>?_⟩;simp only[bD]at hu⊢;obtain⟨u,us',rfl,g1,g2⟩:=hu;exact⟨u,us',rfl,(h4 _ g1).up k2,k4 _ (g2.up h2)⟩
end
inductive VR where
 | none
 | some (C:Prop) (rp:List Pl) (W:List (Pl×It))
def VR.C:VR→Prop
 | .none=>True
 | .some C _ _=>C
def VR.rp:VR→List Pl
 | .none=>[]
 | .some _ rp _=>rp
def VR.W:VR→List (Pl×It)
 | .none=>[]
 | .some _ _ W=>W
def BF(t:S):Operand→VR
 | .tmp s=>match t (.s s)with
   | .v (.aW id n)=>match t (.o id)with
     | .row e k es _=>match jX es with
       | some xs=>.some (n=es.length) [.s s,.o id] [(.s s,.v (.d (.sl xs))),(.o id,.row e k es true)]
       | none=>.none
     | _=>.none
   | .v (.c (.slice none 0 0))=>.some True [.s s] [(.s s,.v (.d (.sl [])))]
   | .v (.agg vs)=>match IX t vs with
     | some (C,rp,vs',W)=>.some C (.s s::rp) ((.s s,.v (.agg vs'))::W)
     | none=>.none
   | _=>.none
 | _=>.none
def og(t:S):List Operand→VR
 | []=>.none
 | x::l=>match BF t x with
   | .none=>og t l
   | .some C rp W=>match og (over t W) l with
     | .none=>.some C rp W
     | .some C' rp' W'=>.some (C∧C') (rp++rp') (W'++W)
def sS(ow:List Nat):Op→List Operand
 | .convert _ _ x=>[x]
 | .slice _ x _ _ _=>[x]
 | .buildSlice _ _ ps=>if ps.toList.any (fun x=>match x.2 with|.tmp k=>ow.any (fun n=>n==k+2000000)|_=>false)then []else ps.toList.map (·.2)
 | .call {callee:=.value (.func f),args:=xs,.. }=>if ow.any (fun n=>n==f+1000000)then []else xs.toList
 | .call {callee:=.value _,args:=xs,.. }=>xs.toList
 | _=>[]
theorem Inv.view{A:f_}{t:S}{s id n e k:Nat}{es:List (List TV)}{sh:Bool}{xs:List (List D)}{a:Act}{w:World}(h:Inv A t a w)(hs:t (.s s) = .v (.aW id n))(ht:t (.o id) = .row e k es sh)(hn:n=es.length)(hx:jX es=some xs):
  Inv A (over t [(.s s,.v (.d (.sl xs))),(.o id,.row e k es true)]) a w:=by
 obtain⟨E,hw,hi⟩:=h;obtain⟨u,h1,h2⟩:=hi.sl s _ hs;obtain⟨E',hw',x,_,_,hi',hr,_⟩:=hi.freeze ht hx;simp only[over];refine⟨E',hw'.trans hw,⟨hi'.h.slot s _,hi'.fr,fun j tv hj=>?_,hi'.defers,hi'.size⟩⟩;by_cases ej:j=s
 ·simp only[upd,if_true,It.v.injEq]at hj
  grind[aP]
 ·simp only[upd,Pl.s.injEq,ej,if_false,reduceCtorEq]at hj;exact hi'.sl j tv (by trivial)
theorem Qy{A:f_}{t t':S}{x:Operand}(hC:(BF t x).C)(hr:∀p∈(BF t x).rp,t' p=t p){a:Act}{w:World}(h:Inv A t' a w):Inv A (over t' (BF t x).W) a w:=by
 unfold BF at hC hr⊢;split
 ·split
  ·rename_i hs;split
   ·rename_i ht;split
    ·rename_i hx;simp only[hs,ht,hx,VR.C,VR.rp]at hC hr;exact h.view ((hr _ (by simp)).trans hs) ((hr _ (by simp)).trans ht) hC hx
    ·exact h
   trivial
  ·rename_i s _ hs;simp only[hs,VR.rp]at hr;obtain⟨E,hw,hi⟩:=h;obtain⟨u,h1,h2⟩:=hi.sl s _ ((hr _ (by simp)).trans hs);simp only[over,VR.W];refine⟨E,hw,⟨hi.h.slot s _,hi.fr,fun j tv hj=>?_,hi.defers,hi.size⟩⟩;by_cases ej:j=s
   ·subst ej;simp only[upd,if_true,It.v.injEq]at hj;subst hj;simp only[aP]at h2;exact⟨u,h1,by simp only[aP,Rep];exact .inl ⟨rfl,_,_,h2⟩⟩
   ·simp only[upd,Pl.s.injEq,ej,if_false]at hj;exact hi.sl j tv hj
  ·rename_i s _ vs hs;split
   ·rename_i C rp vs' W hv;simp only[hs,hv,VR.C,VR.rp]at hC hr;obtain⟨E,hw,hi⟩:=h;obtain⟨u,h1,h2⟩:=hi.sl s _ ((hr _ (by simp)).trans hs);obtain⟨E',k1,k2,k3,k4⟩:=IY hv hC (fun p hp=>hr p (by simp[hp])) hi;simp only[over,VR.W];refine⟨E',k1.trans hw,⟨k3.h.slot s _,k3.fr,fun j tv hj=>?_,k3.defers,k3.size⟩⟩;by_cases ej:j=s
    ·subst ej;simp only[upd,if_true,It.v.injEq]at hj;subst hj;simp only[aP]at h2⊢;obtain⟨us,rfl,g⟩:=h2;exact⟨_,h1,_,rfl,k4 _ g⟩
    ·simp only[upd,Pl.s.injEq,ej,if_false]at hj;exact k3.sl j tv hj
   ·exact h
  trivial
 trivial
theorem Jb{A:f_}:∀{l:List Operand} {t t':S},(og t l).C→(∀p∈(og t l).rp,t' p=t p)→∀{a:Act} {w:World},Inv A t' a w→Inv A (over t' (og t l).W) a w
 | [],_,_,_,_,_,_,h=>h
 | x::l,t,t',hC,hr,a,w,h=>by
   simp only[og]at hC hr⊢;have hX:=@Qy A t t' x;cases hv:BF t x with
   | none=>simp only[hv]at hC hr⊢;exact Jb hC hr h
   | some C rp W=>
     rw[hv]at hX
     simp only[hv,VR.C,VR.rp,VR.W]at hC hr hX⊢;have hL:=@Jb A l (over t W) (over t' W);cases hl:og (over t W) l with
     | none=>simp_all
     | some C' rp' W'=>
       rw[hl]at hL
       simp only[hl,VR.C,VR.rp,VR.W]at hC hr hL⊢;rw[rZ];refine hL hC.2 (fun p hp=>?_) (hX hC.1 (bf hr) h);by_cases hm:p∈W.map (·.1)
       ·exact uG hm
       ·rw[r_ hm,r_ hm];exact(aQ hr) p hp
def gv(ops:Array Oper)(t:S)(o:Oper):Option (List Pl×Bool):=
 match o.guard with
 | none=>some ([],true)
 | some (j,want)=>match (ops[j]?).bind (·.dst)with
   | some g=>match t (.s g)with
     | .v (.d (.bool b))=>some ([.s g],b==want)
     | .v (.c (.tuple _))=>some ([.s g],false)
     | _=>none
   | none=>none
def rM(o:Oper)(v:TV)(W:List (Pl×It)):List (Pl×It):=
 match o.dst with
 | some d=>(.s d,.v v)::W
 | none=>W
def mZ(N:Nat)(o:Oper):Bool:=
 match o.dst with
 | some d=>decide (d<N)
 | none=>true
def Sum(P:Program)(A:f_)(ops:Array Oper)(i:Nat)(t:S)(rp:List Pl)(W:List (Pl×It)):Prop:=
 ∀t',(∀p∈rp,t' p=t p)→∀a w,Inv A t' a w→∀(K:Act→World→Prop) (Q:Exit→Act→World→Prop),(∀a' w',Inv A (over t' W) a' w'→K a' w')→wpOp P ops Q i K a w
section
variable {P:Program} {A:f_} {ops:Array Oper}
theorem eY.dst{t:S}{a:Act}{E:En}{o:Oper}{W:List (Pl×It)}(h:eY A (over t W) a E)(hd:mZ A.N o=true){v:TV}{u:Value}(hr:aP E v u):eY A (over t (rM o v W)) (a.put o.dst u) E:=by
 unfold rM;unfold mZ at hd;cases hdst:o.dst with
 | none=>trivial
 | some d=>
   rw[hdst]at hd
   simp only[decide_eq_true_eq]at hd;exact h.put hd hr
theorem kU{t t':S}{o:Oper}{gp:List Pl}{g:Bool}(h:gv ops t o=some (gp,g))(hr:∀p∈gp,t' p=t p){a:Act}{E:En}(hi:eY A t' a E):Region.wanted o (yielded ops a.tmps)=g:=by
 unfold gv at h;unfold Region.wanted;split at h
 ·simp_all
 ·rename_i j want hg;rw[hg];split at h
  ·rename_i g' hd;split at h
   ·rename_i b ht;simp only[ah,aO]at h;obtain⟨rfl,rfl⟩:=h;have ht':t' (.s g') = .v (.d (.bool b)):=(hr _ (by simp)).trans ht;obtain⟨u,h1,h2⟩:=hi.sl _ _ ht'
    simp_all[aP,Rep,yielded,bY]
   ·rename_i vs ht;simp only[ah,aO]at h;obtain⟨rfl,rfl⟩:=h;have ht':t' (.s g') = .v (.c (.tuple vs)):=(hr _ (by simp)).trans ht;obtain⟨u,h1,h2⟩:=hi.sl _ _ ht';simp only[aP]at h2;subst h2;simp only[yielded,hd,bY,h1];cases want<;>rfl
   trivial
  trivial
theorem Sum.of_eff{ow:List Nat}{t:S}{i:Nat}{o:Oper}{gp:List Pl}{e:Eff}(ho:ops[i]? = some o)(hg:gv ops t o=some (gp,true))(hd:mZ A.N o=true)(he:eff P ow t o=some e)(hC:e.C):
  Sum P A ops i t (gp++e.rp) (rM o e.v e.W):=fun t' hr a w ⟨E,hw,hi⟩ K Q hK=>by
 subst hw;have hwant:=kU hg (bf hr) hi;obtain⟨nx,u,E',h1,h2,h3,h4⟩:=afT (A:=A) he hC t' (aQ hr) a E hi;unfold wpOp;simp only[ho,hwant,if_true];refine .inl ?_;unfold Oper.wp;rw[h1];rcases h2 with rfl|⟨rfl,rfl⟩
 ·exact hK _ _ ⟨E',rfl,h3.dst hd h4⟩
 ·exact hK _ _ ⟨E',rfl,h3.dst hd h4⟩
theorem Sum.acw{ow:List Nat}{t:S}{i:Nat}{o:Oper}{gp:List Pl}{e:Eff}(ho:ops[i]? = some o)(hg:gv ops t o=some (gp,true))(hd:mZ A.N o=true)(l:List Operand)(hv:(og t l).C)(he:eff P ow (over t (og t l).W) o=some e)(hC:e.C):
  Sum P A ops i t ((og t l).rp++(gp++e.rp)) (rM o e.v e.W++(og t l).W):=fun t' hr a w hinv K Q hK=>by
 have hwant:Region.wanted o (yielded ops a.tmps)=true:=by obtain⟨E,_,hi⟩:=hinv;exact kU hg (bf (aQ hr)) hi
 obtain⟨E,hw,hi⟩:=Jb hv (bf hr) hinv;subst hw;obtain⟨nx,u,E',h1,h2,h3,h4⟩:=afT (A:=A) he hC (over t' (og t l).W) (fun p hp=>by
  by_cases hm:p∈(og t l).W.map (·.1)
  ·exact uG hm
  ·rw[r_ hm,r_ hm];exact(aQ (aQ hr)) p hp) a E hi
 unfold wpOp;simp only[ho,hwant,if_true];refine .inl ?_;unfold Oper.wp;rw[h1];rw[rZ]at hK
 rcases h2 with rfl|⟨rfl,rfl⟩
 ·exact hK _ _ ⟨E',rfl,h3.dst hd h4⟩
 ·exact hK _ _ ⟨E',rfl,h3.dst hd h4⟩
theorem Sum.viewed{t:S}{i:Nat}{rp:List Pl}{W:List (Pl×It)}(l:List Operand)(hv:(og t l).C)(s:Sum P A ops i (over t (og t l).W) rp W):
  Sum P A ops i t ((og t l).rp++rp) (W++(og t l).W):=fun t' hr a w hinv K Q hK=>by
 refine s (over t' (og t l).W) (fun p hp=>?_) a w (Jb hv (bf hr) hinv) K Q fun a' w' hi'=>hK a' w' ?_
 ·by_cases hm:p∈(og t l).W.map (·.1)
  ·exact uG hm
  simp_all[r_,aQ]
 simp_all[rZ]
theorem Sum.skip{t:S}{i:Nat}{o:Oper}{gp:List Pl}(ho:ops[i]? = some o)(hg:gv ops t o=some (gp,false))(hd:mZ A.N o=true):Sum P A ops i t gp (rM o (.c undef) []):=fun t' hr a w ⟨E,hw,hi⟩ K Q hK=>by subst hw;have hwant:=kU hg hr hi;unfold wpOp;simp only[ho,hwant,eu,if_false];exact hK _ _ ⟨E,rfl,eY.dst (W:=[]) hi hd (by rfl)⟩
end
inductive Tg {α:Type} (a:α):Type
 | mk
structure QD(b:Bool)(X Y:Prop)(_x:Tg X)(_y:Tg Y):Prop where
 yes:b=true→X
 no:b=false→Y
theorem tJ(X Y:Prop)(x:Tg X)(y:Tg Y):QD true X Y x y=X:=propext ⟨fun h=>h.yes rfl,fun h=>⟨fun _=>h,fun e=>by trivial⟩⟩
theorem oZ(X Y:Prop)(x:Tg X)(y:Tg Y):QD false X Y x y=Y:=propext ⟨fun h=>h.no rfl,fun h=>⟨fun e=>by trivial,fun _=>h⟩⟩
structure aI(P:Program)(A:f_)(ops:Array Oper)(i:Nat)(t:S)(k:List Pl→List (Pl×It)→Prop)(_g:Tg k):Prop where
 ex:∃rp W,Sum P A ops i t rp W∧k rp W
def isGo:Op→Bool
 | .call {callee:=.value _,.. }=>true
 | _=>false
def adT:Op→Bool
 | .range _ _=>true
 | .next _ false=>true
 | _=>false
def aaj(ow:List Nat):Op→Bool
 | .call {callee:=.value (.tmp k),.. }=>ow.any (fun n=>n==k+4000000)
 | .call {callee:=.value (.func f),.. }=>ow.any (fun n=>n==f+5000000)
 | _=>false
def QK(P:Program)(A:f_)(ops:Array Oper)(i:Nat)(t:S){ι:Type}(W:ι→List (Pl×It)):Prop:=
 ∀a w,Inv A t a w→∀(K:Act→World→Prop) (Q:Exit→Act→World→Prop),(∀c a' w',Inv A (over t (W c)) a' w'→K a' w')→wpOp P ops Q i K a w
structure oG(P:Program)(A:f_)(ops:Array Oper)(i:Nat)(t:S)(k:List Pl→List (Pl×It)→Prop)(_g:Tg k):Prop where
 ex:∃(ι:Type) (rp:ι→List Pl) (W:ι→List (Pl×It)),QK P A ops i t W∧∀c,k (rp c) (W c)
def ajI(ow:List Nat)(ops:Array Oper):Bool:=ops.toList.all fun o=>!adT o.op && !aaj ow o.op
def UA(N:Nat)(o:Oper)(gp:List Pl)(e:Option Eff)(k:List Pl→List (Pl×It)→Prop)(_:Tg k):Prop:=
 match e with
 | some e=>mZ N o=true∧e.C∧k (gp++e.rp) (rM o e.v e.W)
 | none=>False
def AGv(N:Nat)(o:Oper)(x:Option (List Pl×Bool))(X:List Pl→Prop)(k:List Pl→List (Pl×It)→Prop)(_:Tg X)(_:Tg k):Prop:=
 match x with
 | none=>False
 | some (gp,g)=>QD g (X gp) (mZ N o=true∧k gp (rM o (.c undef) [])) .mk .mk
def RF(x:VR)(X:Prop)(Y:List Pl→List (Pl×It)→Prop)(_:Tg X)(_:Tg Y):Prop:=
 match x with
 | .none=>X
 | .some C rp W=>C∧Y rp W
def AOp(P:Program)(A:f_)(ow:List Nat)(ops:Array Oper)(o:Oper)(i:Nat)(t:S)(k:List Pl→List (Pl×It)→Prop)(_:Tg k):Prop:=
 AGv A.N o (gv ops t o) (fun gp=>RF (og t (sS ow o.op)) (QD (isGo o.op) (QD (aaj ow o.op) (oG P A ops i t k .mk) (aI P A ops i t k .mk) .mk .mk) (QD (adT o.op) (oG P A ops i t k .mk) (UA A.N o gp (eff P ow t o) k .mk) .mk .mk) .mk .mk)
  (fun rp0 W0=>QD (isGo o.op) (aI P A ops i (over t W0) (fun rp W=>k (rp0++rp) (W++W0)) .mk)
  (UA A.N o gp (eff P ow (over t W0) o) (fun rp W=>k (rp0++rp) (W++W0)) .mk) .mk .mk) .mk .mk) k .mk .mk
abbrev Log:=List (List Pl×List (Pl×It))
def xg(P:Program)(A:f_)(ow:List Nat)(ops:Array Oper):List Oper→Nat→(acc:Log)→Tg acc→S→(k:Log→S→Prop)→Tg k→Prop
 | [],_,acc,_,t,k,_=>k acc t
 | o::l,i,acc,_,t,k,g=>AOp P A ow ops o i t (fun rp W=>xg P A ow ops l (i+1) ((rp,W)::acc) .mk (over t W) k g) .mk
inductive Chain (P:Program) (A:f_) (ops:Array Oper):Nat→S→Log→S→Prop
 | nil (i:Nat) (t:S):Chain P A ops i t [] t
 | cons {i:Nat} {t t':S} {rp:List Pl} {W:List (Pl×It)} {L:Log} (h:Sum P A ops i t rp W) (c:Chain P A ops (i+1) (over t W) L t'):Chain P A ops i t ((rp,W)::L) t'
section
variable {P:Program} {A:f_} {ops:Array Oper} {ow:List Nat}
theorem xg.sound:∀{l:List Oper} {i:Nat} {acc:Log} {ga:Tg acc} {t:S} {k:Log→S→Prop} {g:Tg k},(∀o∈l,adT o.op=false∧aaj ow o.op=false)→(∀j o,l[j]? = some o→ops[i+j]? = some o)→xg P A ow ops l i acc ga t k g→
  ∃L t',Chain P A ops i t L t'∧L.length=l.length∧k (L.reverse++acc) t'
 | [],i,acc,_,t,k,_,_,_,h=>⟨[],t,.nil i t,rfl,by trivial⟩
 | o::l,i,acc,_,t,k,_,hn,hl,h=>by
   have ho:ops[i]? = some o:=hl 0 o rfl;have hl':∀j o,l[j]? = some o→ops[i+1+j]? = some o:=fun j o' h'=>by
    have:=hl (j+1) o' (by simpa using h')
    rwa [show i+(j+1)=i+1+j by omega]at this
   have go:∀{rp W},Sum P A ops i t rp W→xg P A ow ops l (i+1) ((rp,W)::acc) .mk (over t W) k .mk→∃L t',Chain P A ops i t L t'∧L.length=(o::l).length∧k (L.reverse++acc) t':=fun {rp W} hs hk=>by obtain⟨L,t',h1,h2,h3⟩:=xg.sound (fun o ho=>hn o (gY _ ho)) hl' hk;exact⟨(rp,W)::L,t',.cons hs h1,by simp[h2],by simpa using h3⟩
   simp only[xg,AOp,AGv]at h;split at h
   ·trivial
   ·rename_i gp g hg;cases g
    ·rw[oZ]at h
     exact go (.skip ho hg h.1) h.2
    ·rw[tJ]at h
     unfold RF at h;split at h
     ·cases hgo:isGo o.op
      ·rw[hgo,oZ,(hn o (List.mem_cons_self ..)).1,oZ]at h
       unfold UA at h;split at h
       ·rename_i e he;exact go (.of_eff ho hg h.1 he h.2.1) h.2.2
       trivial
      ·rw[hgo,tJ,(hn o (List.mem_cons_self ..)).2,oZ]at h
       obtain⟨rp,W,h1,h2⟩:=h.ex
       grind
     ·rename_i C rp0 W0 hv;obtain⟨hC,h⟩:=h;have e1:(og t (sS ow o.op)).W=W0:=by rw[hv];rfl
      have e2:(og t (sS ow o.op)).rp=rp0:=by rw[hv];rfl
      have e3:(og t (sS ow o.op)).C:=by rw[hv];exact hC
      subst e1;subst e2;cases hgo:isGo o.op
      ·rw[hgo,oZ]at h
       unfold UA at h;split at h
       ·rename_i e he;exact go (.acw ho hg h.1 (sS ow o.op) e3 he h.2.1) h.2.2
       ·exact h.elim
      ·rw[hgo,tJ]at h
       obtain⟨rp,W,h1,h2⟩:=h.ex;exact go (h1.viewed (sS ow o.op) e3) h2
theorem Sum.one{i:Nat}{t:S}{rp:List Pl}{W:List (Pl×It)}(s:Sum P A ops i t rp W):QK P A ops i t (fun _:Unit=>W):=fun a w hi K Q hK=>s t (fun _ _=>rfl) a w hi K Q fun a' w' hi'=>hK () a' w' hi'
theorem xg.wps{Q:Exit→Act→World→Prop}:∀{l:List Oper} {i:Nat} {acc:Log} {ga:Tg acc} {t:S} {k:Log→S→Prop} {g:Tg k},(∀j,l[j]? = ops[i+j]?)→xg P A ow ops l i acc ga t k g→(∀L t',k L t'→∀a w,Inv A t' a w→Q .normal a w)→
  ∀a w,Inv A t a w→wpOps P ops Q (List.range' i l.length) a w
 | [],i,acc,_,t,k,_,_,h,hQ,a,w,hi=>by grind[xg,wpOps]
 | o::l,i,acc,_,t,k,_,hl,h,hQ,a,w,hi=>by
   have ho:ops[i]? = some o:=by simpa using(hl 0).symm
   have hl':∀j,l[j]? = ops[i+1+j]? :=fun j=>by
    have:=hl (j+1)
    grind
   have goN:∀{ι:Type} {rp:ι→List Pl} {W:ι→List (Pl×It)},QK P A ops i t W→(∀c,xg P A ow ops l (i+1) ((rp c,W c)::acc) .mk (over t (W c)) k .mk)→wpOps P ops Q (List.range' i (o::l).length) a w:=fun {ι rp W} hs hk=>by simp only[aH,lS];rw[wpOps_cons];exact hs a w hi _ _ fun c a' w' hi'=>xg.wps hl' (hk c) hQ a' w' hi'
   have go:∀{rp W},Sum P A ops i t rp W→xg P A ow ops l (i+1) ((rp,W)::acc) .mk (over t W) k .mk→wpOps P ops Q (List.range' i (o::l).length) a w:=fun {rp W} hs hk=>goN (ι:=Unit) (rp:=fun _=>rp) (W:=fun _=>W) hs.one fun _=>hk
   simp only[xg,AOp,AGv]at h;split at h
   ·trivial
   ·rename_i gp g hg;cases g
    ·rw[oZ]at h
     exact go (.skip ho hg h.1) h.2
    ·rw[tJ]at h
     unfold RF at h;split at h
     ·cases hgo:isGo o.op
      ·rw[hgo,oZ]at h
       cases hnx:adT o.op
       ·rw[hnx,oZ]at h
        unfold UA at h;split at h
        ·rename_i e he;exact go (.of_eff ho hg h.1 he h.2.1) h.2.2
        trivial
       ·rw[hnx,tJ]at h
        obtain⟨ι,rp,W,h1,h2⟩:=h.ex;exact goN h1 h2
      ·rw[hgo,tJ]at h
       cases hoc:aaj ow o.op
       ·rw[hoc,oZ]at h
        obtain⟨rp,W,h1,h2⟩:=h.ex;exact go h1 h2
       ·rw[hoc,tJ]at h
        obtain⟨ι,rp,W,h1,h2⟩:=h.ex;exact goN h1 h2
     ·rename_i C rp0 W0 hv;obtain⟨hC,h⟩:=h;have e1:(og t (sS ow o.op)).W=W0:=by rw[hv];rfl
      have e2:(og t (sS ow o.op)).rp=rp0:=by rw[hv];rfl
      have e3:(og t (sS ow o.op)).C:=by rw[hv];exact hC
      subst e1;subst e2;cases hgo:isGo o.op
      ·rw[hgo,oZ]at h
       unfold UA at h;split at h
       ·rename_i e he;exact go (.acw ho hg h.1 (sS ow o.op) e3 he h.2.1) h.2.2
       ·exact h.elim
      ·rw[hgo,tJ]at h
       obtain⟨rp,W,h1,h2⟩:=h.ex;exact go (h1.viewed (sS ow o.op) e3) h2
theorem Chain.wps{Q:Exit→Act→World→Prop}:∀{i:Nat} {t t':S} {L:Log},Chain P A ops i t L t'→(∀a w,Inv A t' a w→Q .normal a w)→∀a w,Inv A t a w→wpOps P ops Q (List.range' i L.length) a w
 | i,t,_,[],.nil _ _,hQ,a,w,hi=>by simp_all[wpOps]
 | i,t,t',_::L,.cons hs c,hQ,a,w,hi=>by simp only[aH,lS];exact hs t (fun _ _=>rfl) a w hi _ _ fun a' w' hi'=>c.wps hQ a' w' hi'
def part(L:Log)(X:Nat→Bool)(t:S):Nat→S
 | 0=>t
 | k+1=>if X k then(match L[k]? with|some (_,W)=>over (part L X t k) W|none=>part L X t k)else part L X t k
def conflict(a b:List Pl×List (Pl×It)):Bool:=
 a.2.any (fun x=>b.1.contains x.1||b.2.any (fun y=>y.1==x.1))||b.2.any (fun x=>a.1.contains x.1)
def vO(a b:List Pl×List Pl):Bool:=
 a.2.any (fun x=>b.1.contains x||b.2.any (fun y=>y==x))||b.2.any (fun x=>a.1.contains x)
def shapes:Log→List (List Pl×List Pl)→List (List Pl×List Pl)
 | [],acc=>acc
 | (rp,W)::l,acc=>shapes l ((rp,W.map (·.1))::acc)
theorem Ae:∀{L:Log} {acc:List (List Pl×List Pl)},shapes L acc=L.reverse.map (fun x=>(x.1,x.2.map (·.1)))++acc
 | [],acc=>rfl
 | (rp,W)::l,acc=>by simp only[shapes,Ae (L:=l)];simp
theorem UM(a b:List Pl×List (Pl×It)):vO (a.1,a.2.map (·.1)) (b.1,b.2.map (·.1))=conflict a b:=by grind[vO,conflict,List.any_map]
theorem xY{a b:List Pl×List (Pl×It)}(h:conflict a b=false):(∀p∈a.2.map (·.1),p∉b.1∧p∉b.2.map (·.1))∧∀p∈b.2.map (·.1),p∉a.1:=by
 simp only[conflict,kY,iq,List.contains_eq_mem,decide_eq_true_eq,nV,decide_eq_false_iff_not,ak,not_exists,not_and]at h⊢
 grind
def qZ:List Oper→List (List Nat)→List (List Nat)
 | [],acc=>acc
 | o::l,acc=>qZ l (acc++[((o.after.toList.filter (Region.binds .any)).flatMap fun e=>e.on::acc.getD e.on [])])
def Fj(ops:Array Oper)(L:Log):Bool:=
 (List.range ops.size).all fun j=>match ops[j]? with
  | none=>false
  | some o=>
    (o.after.all fun e=>!Region.binds .any e||decide (e.on<j)) &&
    (((qZ ops.toList []).getD j []).all fun i=>o.after.any fun e=>Region.binds .any e&&(e.on==i||((qZ ops.toList []).getD e.on []).contains i)) &&
    (List.range j).all fun i=>!(conflict (L.getD i ([],[])) (L.getD j ([],[])))||((qZ ops.toList []).getD j []).contains i
def G8(ops:Array Oper)(L:List (List Pl×List Pl)):Bool:=
 (List.range ops.size).all fun j=>match ops[j]? with
  | none=>false
  | some o=>
    (o.after.all fun e=>!Region.binds .any e||decide (e.on<j)) &&
    (((qZ ops.toList []).getD j []).all fun i=>o.after.any fun e=>Region.binds .any e&&(e.on==i||((qZ ops.toList []).getD e.on []).contains i)) &&
    (List.range j).all fun i=>!(vO (L.getD i ([],[])) (L.getD j ([],[])))||((qZ ops.toList []).getD j []).contains i
theorem Am(L:Log):G8 ops (shapes L [])=Fj ops L.reverse:=by
 have hg:∀i,(shapes L []).getD i ([],[])=((L.reverse.getD i ([],[])).1,(L.reverse.getD i ([],[])).2.map (·.1)):=fun i=>by rw[Ae,bQ,aK,bn,aK];cases L.reverse[i]? <;> rfl
 unfold G8 Fj
 congr 1
 funext j
 cases ops[j]? with
 | none=>rfl
 | some o=>simp only[hg,UM]
def Yl:Pl→Nat
 | .s k=>3*k
 | .o k=>3*k+1
 | .x k=>3*k+2
theorem acB{p q:Pl}(h:Yl p=Yl q):p=q:=by cases p<;>cases q<;>simp only[Yl]at h<;>first|(congr 1;omega)|omega
def ng:List Pl→Nat→Nat
 | [],m=>m
 | p::l,m=>ng l (m|||1<<<Yl p)
theorem afr(m k n:Nat):(m|||1<<<k).testBit n=(m.testBit n||decide (n=k)):=by
 rw[pG,Nat.one_shiftLeft,Nat.testBit_two_pow]
 congr 1
 exact decide_eq_decide.2 ⟨fun h=>h.symm,fun h=>h.symm⟩
theorem O9(n:Nat):∀(l:List Pl) (m:Nat),(ng l m).testBit n=true↔m.testBit n=true∨∃p∈l,Yl p=n
 | [],m=>by simp[ng]
 | p::l,m=>by
   rw[ng,O9 n l,afr]
   grind
theorem X6{p:Pl}{l:List Pl}:(ng l 0).testBit (Yl p)=true↔p∈l:=by
 rw[O9];constructor
 ·grind[acB]
 grind
def Ou{β:Type}(n:Nat)(k:Nat→β):β:=match n with
 | 0=>k 0
 | m+1=>k (m+1)
theorem SE{β:Type}(n:Nat)(k:Nat→β):Ou n k=k n:=by cases n<;>rfl
def Za(As:List Nat)(j:Nat):List Edge→Nat→Nat
 | [],m=>m
 | e::l,m=>if Region.binds .any e then Za As j l ((m|||1<<<e.on)|||As.getD (j-1-e.on) 0)else Za As j l m
def Px(A R W:Nat):List (Nat×Nat×Nat)→Bool
 | []=>true
 | (i,r,w)::l=>(A.testBit i||((w&&&(R|||W))|||(W&&&r))==0)&&Px A R W l
def Fh:List Oper→List (List Pl×List Pl)→Nat→List Nat→List (Nat×Nat×Nat)→Bool
 | [],_,_,_,_=>true
 | o::ops,L,j,As,Ms=>
   (o.after.toList.all fun e=>!Region.binds .any e||Nat.blt e.on j) &&
   Ou (Za As j o.after.toList 0) fun A=>Ou (ng (L.headD ([],[])).1 0) fun R=>Ou (ng (L.headD ([],[])).2 0) fun W=>Px A R W Ms&&Ou (j+1) fun j'=>Fh ops L.tail j' (A::As) ((j,R,W)::Ms)
def NV(ops:Array Oper)(L:List (List Pl×List Pl)):Bool:=Fh ops.toList L 0 [] []
theorem UN{a b:List Pl×List Pl}(h:((ng a.2 0&&&(ng b.1 0|||ng b.2 0))|||(ng b.2 0&&&ng a.1 0))=0):vO a b=false:=by
 have hb:∀p,¬(((ng a.2 0).testBit (Yl p)=true∧((ng b.1 0).testBit (Yl p)=true∨(ng b.2 0).testBit (Yl p)=true))∨((ng b.2 0).testBit (Yl p)=true∧(ng a.1 0).testBit (Yl p)=true)):=fun p hp=>by
  have h0:(((ng a.2 0&&&(ng b.1 0|||ng b.2 0))|||(ng b.2 0&&&ng a.1 0))).testBit (Yl p)=false:=by simp[*]
  grind
 simp only[X6]at hb;unfold vO
 simp_all
theorem Ny:∀(l:List Oper) (acc:List (List Nat)),∃r,qZ l acc=acc++r∧r.length=l.length
 | [],acc=>⟨[],by simp[qZ]⟩
 | o::l,acc=>by
   obtain⟨r,h1,h2⟩:=Ny l (acc++[((o.after.toList.filter (Region.binds .any)).flatMap fun e=>e.on::acc.getD e.on [])])
   simp_all[qZ,dP]
theorem Nz:∀(l l2:List Oper) (acc:List (List Nat)),qZ (l++l2) acc=qZ l2 (qZ l acc)
 | [],_,_=>rfl
 | o::l,l2,acc=>by exact Nz l l2 _
theorem Nw(As:List Nat)(j n:Nat):∀(l:List Edge) (m:Nat),(Za As j l m).testBit n=true↔m.testBit n=true∨∃e∈l,Region.binds .any e=true∧(n=e.on∨(As.getD (j-1-e.on) 0).testBit n=true)
 | [],m=>by simp[Za]
 | e::l,m=>by
   rw[Za];split
   ·rename_i hb;rw[Nw As j n l,pG,afr];simp only[bJ,decide_eq_true_eq,aF,exists_eq_or_imp,hb,true_and,or_assoc]
   ·rename_i hb;rw[Nw As j n l];simp[hb]
theorem TK{A R W:Nat}:∀{l:List (Nat×Nat×Nat)},Px A R W l=true→∀i r w,(i,r,w)∈l→A.testBit i=true∨((w&&&(R|||W))|||(W&&&r))=0
 | [],_,_,_,_,hm=>by trivial
 | (i0,r0,w0)::l,h,i,r,w,hm=>by
   simp only[Px,aG,bJ,beq_iff_eq]at h;rcases aF.1 hm with e|hm
   ·simp_all
   ·exact TK h.2 i r w hm
theorem Sr(all:List Oper)(L0:List (List Pl×List Pl)):∀(rest pre:List Oper) (L:List (List Pl×List Pl)) (As:List Nat) (Ms:List (Nat×Nat×Nat)),all=pre++rest→L=L0.drop pre.length→
  (∀i n,i<pre.length→((As.getD (pre.length-1-i) 0).testBit n=true↔n∈(qZ pre []).getD i []))→(∀i,i<pre.length→(i,ng (L0.getD i ([],[])).1 0,ng (L0.getD i ([],[])).2 0)∈Ms)→
  Fh rest L pre.length As Ms=true→∀j o,pre.length≤j→all[j]? = some o→
   (∀e∈o.after.toList,Region.binds .any e=true→e.on<j)∧
   (∀i∈(qZ all []).getD j [],∃e∈o.after.toList,Region.binds .any e=true∧(e.on=i∨i∈(qZ all []).getD e.on []))∧
   ∀i,i<j→vO (L0.getD i ([],[])) (L0.getD j ([],[]))=true→i∈(qZ all []).getD j []
 | [],pre,L,As,Ms,hall,_,_,_,_,j,o,hj,ho=>by simp_all
 | o1::rest,pre,L,As,Ms,hall,hL,hA,hM,hgo,j,o,hj,ho=>by
   simp only[Fh,SE,aG]at hgo;obtain⟨h1,h2,h3⟩:=hgo;have he:∀e∈o1.after.toList,Region.binds .any e=true→e.on<pre.length:=fun e he hb=>by have:=bM.1 h1 e he;simpa[hb,Nat.blt_eq]using this
   obtain⟨r0,hr0,hl0⟩:=Ny pre [];have hlen:(qZ pre []).length=pre.length:=by rw[hr0];simp[hl0]
   have akL:all=(pre++[o1])++rest:=by rw[hall];simp
   let row:=(o1.after.toList.filter (Region.binds .any)).flatMap fun e=>e.on::(qZ pre []).getD e.on []
   have agi:qZ (pre++[o1]) []=qZ pre []++[row]:=by rw[Nz];rfl
   have akN:∀i,i<pre.length→(qZ (pre++[o1]) []).getD i []=(qZ pre []).getD i []:=fun i hi=>by rw[agi,aK,bW (by omega),←aK]
   have agp:(qZ (pre++[o1]) []).getD pre.length []=row:=by rw[agi,aK,b_ (by omega)];simp[hlen]
   have akK:∀n,(Za As pre.length o1.after.toList 0).testBit n=true↔n∈row:=fun n=>by
    rw[Nw];simp only[Nat.zero_testBit,eu,false_or,row,gJ,bK,aF];constructor
    ·rintro⟨e,h4,h5,h6⟩;refine⟨e,⟨h4,h5⟩,h6.imp id fun h6=>(hA e.on n (he e h4 h5)).1 h6⟩
    ·rintro⟨e,⟨h4,h5⟩,h6⟩;exact⟨e,h4,h5,h6.imp id fun h6=>(hA e.on n (he e h4 h5)).2 h6⟩
   have hLh:L.headD ([],[])=L0.getD pre.length ([],[]):=by
    rw[hL];cases h:L0.drop pre.length with
    | nil=>rw[aK,dX (by simpa using h)];rfl
    | cons x l=>
      have:L0[pre.length]? = some x:=by
       have h5:(L0.drop pre.length)[0]? = some x:=by rw[h];rfl
       simpa using h5
      rw[aK,this];rfl
   by_cases hjp:j=pre.length
   ·subst hjp;have ho1:o=o1:=by
     rw[hall,b_ (au _)]at ho
     simpa using ho.symm
    subst ho1;obtain⟨r2,hr2,_⟩:=Ny rest (qZ (pre++[o]) []);have hfin:∀i,i≤pre.length→(qZ all []).getD i []=(qZ (pre++[o]) []).getD i []:=fun i hi=>by rw[akL,Nz,hr2,aK,bW (by rw[agi];simp[hlen];omega),←aK]
    refine⟨he,fun i hi=>?_,fun i hi hc=>?_⟩
    ·rw[hfin _ (au _),agp]at hi
     simp only[row,gJ,bK,aF]at hi;obtain⟨e,⟨h4,h5⟩,h6⟩:=hi;refine⟨e,h4,h5,h6.imp (fun h=>h.symm) fun h6=>?_⟩;have:=he e h4 h5;rw[hfin _ (by omega),akN _ this];exact h6
    ·rw[hfin _ (au _),agp,←akK];rcases TK h2 i _ _ (hM i hi)with h|h
     ·exact h
     ·rw[hLh]at h
      rw[UN h]at hc
      simp at hc
   ·have hp1:(pre++[o1]).length=pre.length+1:=by simp
    refine Sr all L0 rest (pre++[o1]) L.tail _ _ akL (by rw[hL,hp1,List.tail_drop]) (fun i n hi=>?_) (fun i hi=>?_) (by rw[hp1];exact h3) j o (by rw[hp1];omega) ho
    ·rw[hp1]at hi⊢
     by_cases e:i=pre.length
     ·subst e;rw[agp,←akK];simp
     ·rw[akN i (by omega),←hA i n (by omega),show pre.length+1-1-i=(pre.length-1-i)+1 by omega];simp
    ·rw[hp1]at hi
     by_cases e:i=pre.length
     ·subst e;rw[hLh];simp
     ·exact gY _ (hM i (by omega))
theorem G7{ops:Array Oper}{L:List (List Pl×List Pl)}(h:NV ops L=true):G8 ops L=true:=by
 have H:=Sr ops.toList L ops.toList [] L [] [] rfl rfl (fun i n hi=>by simp at hi) (fun i hi=>by simp at hi) h;unfold G8;rw[bM];intro j hj;rw[bI]at hj
 have ho:ops[j]? = some ops[j]:=eH hj;obtain⟨h1,h2,h3⟩:=H j ops[j] (jk _) (by rw[Array.getElem?_toList];exact ho);rw[ho];simp only[aG];refine⟨⟨?_,?_⟩,?_⟩
 ·rw[eF];intro e he;cases hb:Region.binds .any e
  ·simp
  ·simp[h1 e (by simpa using he) hb]
 ·rw[bM];intro i hi;obtain⟨e,h4,h5,h6⟩:=h2 i hi;rw[←Array.any_toList,iG];refine⟨e,h4,?_⟩;rcases h6 with h6|h6
  ·simp[h5,h6]
  ·have h7:((qZ ops.toList []).getD e.on []).contains i=true:=by simpa using h6
   simp only[h5,h7,Bool.or_true,Bool.and_true]
 ·rw[bM];intro i hi;rw[bI]at hi
  cases hc:vO (L.getD i ([],[])) (L.getD j ([],[]))
  ·simp
  ·have:=h3 i hi hc;simpa using this
structure BQ(ops:Array Oper)(L:List (List Pl×List Pl)):Prop where
 ok:NV ops L=true
def aiB(P:Program)(ops:Array Oper)(L:Log)(X:Prop):Bool→Prop
 | true=>X∧(P.follows .mixedOrders=true∧BQ ops (shapes L []))
 | false=>X
theorem J4{x:List Pl×List (Pl×It)}{L:Log}{t:S}:∀k,part (x::L) (fun _=>true) t (k+1)=part L (fun _=>true) (over t x.2) k
 | 0=>by rfl
 | k+1=>by
   have ih:=J4 (x:=x) (L:=L) (t:=t) k
   simp_all[part,if_true,List.getElem?_cons_succ]
theorem Chain.sums:∀{i:Nat} {t t':S} {L:Log},Chain P A ops i t L t'→(∀k rp W,L[k]? = some (rp,W)→Sum P A ops (i+k) (part L (fun _=>true) t k) rp W)∧t'=part L (fun _=>true) t L.length
 | i,t,_,[],.nil _ _=>⟨fun k rp W h=>by trivial,rfl⟩
 | i,t,t',x::L,.cons hs c=>by
   obtain⟨h1,h2⟩:=c.sums;refine⟨fun k rp W h=>?_,?_⟩
   ·cases k with
    | zero=>simp at h;obtain⟨rfl,rfl⟩:=h;trivial
    | succ k=>grind[J4]
   simp_all[aH,J4]
section
variable {L:Log} {t:S} {X:Nat→Bool} {i n:Nat}
structure DOK(ops:Array Oper)(L:Log)(an:Nat→List Nat):Prop where
 lt:∀j o,ops[j]? = some o→∀e∈o.after,Region.binds .any e=true→e.on<j
 up:∀j o,ops[j]? = some o→∀i∈an j,∃e∈o.after,Region.binds .any e=true∧(e.on=i∨i∈an e.on)
 cf:∀i j,i<j→j<ops.size→conflict (L.getD i ([],[])) (L.getD j ([],[]))=true→i∈an j
theorem yS(h:Fj ops L=true):DOK ops L (fun j=>(qZ ops.toList []).getD j []):=by
 have hj:∀j,j<ops.size→∃o,ops[j]? = some o∧(∀e∈o.after,Region.binds .any e=true→e.on<j)∧
   (∀i∈(qZ ops.toList []).getD j [],∃e∈o.after,Region.binds .any e=true∧(e.on=i∨i∈(qZ ops.toList []).getD e.on []))∧
   (∀i,i<j→conflict (L.getD i ([],[])) (L.getD j ([],[]))=true→i∈(qZ ops.toList []).getD j []):=fun j hlt=>by
  have:=bM.1 h j (by simp[*]);split at this
  ·trivial
  ·rename_i o ho;simp only[aG,bM,eF,Array.any_eq_true']at this;obtain⟨⟨h1,h2⟩,h3⟩:=this;refine⟨o,ho,fun e he hb=>?_,fun i hi=>?_,fun i hi hc=>?_⟩
   ·have:=h1 e he;simpa[hb]using this
   ·obtain⟨e,he,hb⟩:=h2 i hi;refine⟨e,he,?_⟩;simpa using hb
   ·have:=h3 i (by simpa using hi);rw[hc]at this
    simpa using this
 refine⟨fun j o ho e he hb=>?_,fun j o ho i hi=>?_,fun i j hij hj' hc=>?_⟩
 ·obtain⟨o',ho',h1,_⟩:=hj j (aZ.1 ho).1;rw[ho]at ho';simp only[ah]at ho';subst ho'
  exact h1 e he hb
 ·obtain⟨o',ho',_,h1,_⟩:=hj j (aZ.1 ho).1;rw[ho]at ho';simp only[ah]at ho';subst ho'
  exact h1 i hi
 simp_all
def pJ(ops:Array Oper)(X:Nat→Bool):Prop:=∀j o,ops[j]? = some o→X j=true→∀e∈o.after,Region.binds .any e=true→X e.on=true
theorem pJ.anc{an:Nat→List Nat}(hd:DOK ops L an)(hx:pJ ops X):∀(j:Nat),j<ops.size→X j=true→∀i∈an j,X i=true:=by
 intro j
 induction j using Nat.strongRecOn with
 | _ j ih=>
   intro hj hxj i hi;obtain⟨o,ho⟩:∃o,ops[j]? = some o:=⟨ops[j],eH hj⟩
   obtain⟨e,he,hb,h1⟩:=hd.up j o ho i hi;have hxe:=hx j o ho hxj e he hb;have hlt:=hd.lt j o ho e he hb
   grind
theorem RN{an:Nat→List Nat}(hd:DOK ops L an)(hx:pJ ops X){i:Nat}{o:Oper}(ho:ops[i]? = some o)(hr:∀e∈o.after,Region.binds .any e=true→X e.on=true):∀j∈an i,X j=true:=by
 intro j hj;obtain⟨e,he,hb,h1⟩:=hd.up i o ho j hj;have hxe:=hr e he hb;rcases h1 with h1|h1
 ·simp_all
 ·exact hx.anc hd e.on (by have:=hd.lt i o ho e he hb;have:=(aZ.1 ho).1;omega) hxe j h1
theorem zW(L:Log)(X:Nat→Bool)(t:S)(k:Nat){p:Pl}(h:X k=true→p∉(L.getD k ([],[])).2.map (·.1)):part L X t (k+1) p=part L X t k p:=by
 rw[part];split
 ·rename_i hx;have:=h hx;cases hk:L[k]? with
  | none=>rfl
  | some x=>simp only[List.getD,hk,bZ]at this;exact r_ this
 rfl
theorem FV{an:Nat→List Nat}(hd:DOK ops L an)(hx:pJ ops X){i:Nat}{o:Oper}(ho:ops[i]? = some o)(hr:∀e∈o.after,Region.binds .any e=true→X e.on=true)(hxi:X i=false){rp:List Pl}{W:List (Pl×It)}(hL:L[i]? = some (rp,W))
  {p:Pl} (hp:p∈rp∨p∈W.map (·.1)):(∀k,k≤i→part L X t k p=part L (fun _=>true) t k p)∧∀k,i≤k→k≤ops.size→part L X t k p=part L X t i p:=by
 have hpre:=RN hd hx ho hr;have hi:i<ops.size:=(aZ.1 ho).1;have hgi:L.getD i ([],[])=(rp,W):=by simp[*]
 have h1:∀k,k<i→p∈(L.getD k ([],[])).2.map (·.1)→X k=true:=fun k hk hpk=>by
  refine hpre k (hd.cf k i hk hi ?_)
  grind[conflict,xY,absurd]
 have h2:∀k,i<k→k<ops.size→p∈(L.getD k ([],[])).2.map (·.1)→X k=false:=fun k hk hkn hpk=>by
  rcases hxk:X k with _|_
  ·rfl
  ·exfalso;have hik:i∈an k:=hd.cf i k hk hkn (by
    rcases hc:conflict (L.getD i ([],[])) (L.getD k ([],[]))with _|_
    ·have hcf:=xY hc;rw[hgi]at hcf
     rcases hp with hp|hp
     ·exact absurd hp (hcf.2 p hpk)
     ·exact absurd hpk (hcf.1 p hp).2
    ·rfl)
   have:=hx.anc hd k hkn hxk i hik;rw[hxi]at this;simp at this
 refine⟨fun k=>?_,fun k hik=>?_⟩
 ·induction k with
  | zero=>intro _;rfl
  | succ k ih=>
    intro hk;have ih':=ih (by omega);by_cases hpk:p∈(L.getD k ([],[])).2.map (·.1)
    ·have hxk:=h1 k (by omega) hpk;rw[part,part,hxk];simp only[if_true];cases hLk:L[k]? with
     | none=>exact ih'
     | some x=>
       have:x.2.map (·.1)=(L.getD k ([],[])).2.map (·.1):=by simp[List.getD,hLk]
       exact uG (by rw[this];exact hpk)
    ·rw[zW L X t k (fun _=>hpk),zW L _ t k (fun _=>hpk)];exact ih'
 ·induction k with
  | zero=>intro _;have:i=0:=by omega
          subst this;rfl
  | succ k ih=>
    intro hk;by_cases e:i=k+1
    ·rw[e]
    ·rw[←ih (by omega) (by omega)];refine zW L X t k fun hxk hpk=>?_
     by_cases e':i=k
     ·subst e';rw[hxi]at hxk;simp at hxk
     ·have:=h2 k (by omega) (by omega) hpk;rw[hxk]at this;simp at this
theorem ael{t:S}{V W:List (Pl×It)}(h:∀p∈V.map (·.1),p∉W.map (·.1)):over (over t V) W=over (over t W) V:=by grind[r_,uG,over]
theorem Ej{an:Nat→List Nat}(hd:DOK ops L an)(hx:pJ ops X){i:Nat}(hi:i<ops.size)(hxi:X i=false){rp:List Pl}{W:List (Pl×It)}(hL:L[i]? = some (rp,W)):
  ∀k,k≤ops.size→part L (fun j=>if j=i then true else X j) t k=if i<k then over (part L X t k) W else part L X t k
 | 0,_=>by rfl
 | k+1,hk=>by
   have ih:=Ej hd hx hi hxi hL k (by omega);rw[part,ih];by_cases e:k=i
   ·simp_all[part,if_pos,if_neg,Nat.lt_irrefl,Nat.lt_succ_self]
   ·rw[if_neg e];by_cases hik:i<k
    ·rw[if_pos hik,if_pos (by omega:i<k+1)];rcases hxk:X k with _|_
     ·simp_all[part]
     ·have h1:part L X t (k+1)=(match L[k]? with|some (_,W)=>over (part L X t k) W|none=>part L X t k):=by simp_all[part]
      rw[h1];simp only[if_true];cases hLk:L[k]? with
      | none=>rfl
      | some x=>
        obtain⟨rp',W'⟩:=x;refine ael fun p hp hp'=>?_
        have hc:conflict (L.getD i ([],[])) (L.getD k ([],[]))=false:=by
         rcases hc:conflict (L.getD i ([],[])) (L.getD k ([],[]))with _|_
         ·rfl
         ·have:=hx.anc hd k (by omega) hxk i (hd.cf i k hik (by omega) hc);rw[hxi]at this;simp at this
        have:=(xY hc).1 p (by simpa[List.getD,hL]using hp);exact this.2 (by simpa[List.getD,hLk]using hp')
    ·rw[if_neg hik,if_neg (by omega :¬i<k+1)];rw[part]
end
def todo(X:Nat→Bool):Nat→Nat
 | 0=>0
 | n+1=>todo X n+if X n then 0 else 1
theorem Ez{X:Nat→Bool}:∀{n:Nat},todo X n=0→∀k,k<n→X k=true
 | 0,_,k,hk=>by omega
 | n+1,h,k,hk=>by
   simp only[todo]at h;by_cases e:k=n
   ·simp_all
   ·exact Ez (n:=n) (by omega) k (by omega)
theorem I9{X:Nat→Bool}{i:Nat}(hx:X i=false):∀{n:Nat},(n≤i→todo (fun j=>if j=i then true else X j) n=todo X n)∧(i<n→todo (fun j=>if j=i then true else X j) n+1=todo X n)
 | 0=>⟨fun _=>rfl,fun h=>by omega⟩
 | n+1=>by
   obtain⟨h1,h2⟩:=I9 hx (n:=n);refine⟨fun h=>?_,fun h=>?_⟩
   ·have e :¬n=i:=by omega
    simp only[todo,h1 (by omega),e,if_false]
   ·by_cases e:n=i
    ·simp_all[todo,au,if_true]
    ·simp only[todo,e,if_false];omega
theorem La{Q:Exit→Act→World→Prop}{id:Nat}{t t':S}{L:Log}(hm:P.follows .mixedOrders=true)(c:Chain P A ops 0 t L t')(hl:L.length=ops.size)(hd:Fj ops L=true)
  (hQ:∀a w,Inv A t' a w→Q .normal a w) (a:Act) (w:World) (hi:Inv A t a w):(Code.region id ops true).wp P Q a w:=by
 have hD:=yS hd;obtain⟨hs,ht'⟩:=c.sums;rw[hl]at ht'
 have key:∀(fuel:Nat) (listed:Array Bool),listed.size=ops.size→pJ ops (fun i=>listed.getD i false)→todo (fun i=>listed.getD i false) ops.size≤fuel→
   ∀a w,Inv A (part L (fun i=>listed.getD i false) t ops.size) a w→wpAny P .any ops Q fuel listed a w:=by
  intro fuel;have full:∀(listed:Array Bool),(∀k,k<ops.size→listed.getD k false=true)→∀m,m≤ops.size→part L (fun i=>listed.getD i false) t m=part L (fun _=>true) t m:=by
   intro listed h m
   induction m with
   | zero=>intro _;rfl
   | succ m ih=>
     intro hm;have h1:=h m (by omega);have h2:=ih (by omega)
     simp_all[part,if_true]
  have last:∀(listed:Array Bool),listed.size=ops.size→Region.ready .any ops listed = []→∀k,k<ops.size→listed.getD k false=true:=by
   intro listed hsz hr k
   induction k using Nat.strongRecOn with
   | _ k ih=>
     intro hk;rcases hx:listed.getD k false with _|_
     ·exfalso;have hmem:k∈Region.ready .any ops listed:=by
       unfold Region.ready;rw[bK];refine⟨by simp[*],?_⟩;have ho:ops[k]? = some ops[k]:=eH hk;have hk':k<listed.size:=by omega
       have hx':listed[k]=false:=by simp_all
       simp only[ho,bH,bZ,aG,eF,bJ,fB];refine⟨by simp[*],fun e he=>?_⟩;rcases hb:Region.binds .any e with _|_
       ·simp
       ·have hlt:=hD.lt k _ ho e he hb
        grind
      simp_all
     rfl
  induction fuel with
  | zero=>
    intro listed hsz hdc hle a w hi;have hall:=Ez (X:=fun i=>listed.getD i false) (n:=ops.size) (by omega);refine⟨?_,?_⟩
    ·unfold Region.ready
     simp_all
    simp_all
  | succ fuel ih=>
    intro listed hsz hdc hle a w hi;refine⟨fun hr=>?_,fun i hir=>?_⟩
    ·simp_all
    ·unfold Region.ready at hir;rw[bK]at hir
     obtain⟨h1,h2⟩:=hir;have hin:i<ops.size:=by simpa using h1
     have ho:ops[i]? = some ops[i]:=eH hin;have hil:i<listed.size:=by omega
     simp only[ho,bH,bZ,aG,eF,bJ,fB]at h2;obtain⟨h3,h4⟩:=h2;have hxi:listed.getD i false=false:=by simpa[Array.getD,hil]using h3
     have AB:∀e∈(ops[i]).after,Region.binds .any e=true→(fun i=>listed.getD i false) e.on=true:=fun e he hb=>by
      rcases h4 e he with h5|h5
      ·rw[hb]at h5;simp at h5
      ·exact h5
     have hLi:i<L.length:=by omega
     have hLg:L[i]? = some (L[i].1,L[i].2):=aj hLi;have hsum:=hs i _ _ hLg;rw[bT]at hsum
     refine hsum (part L (fun i=>listed.getD i false) t ops.size) (fun p hp=>?_) a w hi _ Q fun a' w' hi'=>?_
     ·obtain⟨g1,g2⟩:=FV (t:=t) hD hdc ho AB hxi hLg (p:=p) (.inl hp);rw[g2 ops.size (by omega) (au _),g1 i (au _)]
     ·have hset:(fun j=>(listed.setIfInBounds i true).getD j false)=fun j=>if j=i then true else listed.getD j false:=by
       funext j
       by_cases e:j=i
       ·subst e;simp[Array.getD,hil]
       ·by_cases hj:j<listed.size
        ·simp[Array.getD,hj,e,jO,show ¬i=j from fun h=>e h.symm]
        ·simp[Array.getD,hj,e]
      refine ih (listed.setIfInBounds i true) (by simpa using hsz) ?_ ?_ a' w' ?_
      ·rw[hset];intro j o' ho' hxj e he hb;by_cases ej:j=i
       ·subst ej;rw[ho]at ho';simp only[ah]at ho';subst ho'
        have:=AB e he hb;by_cases ee:e.on=j
        ·simp[ee]
        ·simpa[ee]using this
       ·simp only[ej,if_false]at hxj;have:=hdc j o' ho' hxj e he hb;by_cases ee:e.on=i
        ·simp[ee]
        ·simpa[ee]using this
      ·rw[hset];have:=(I9 (X:=fun i=>listed.getD i false) hxi (n:=ops.size)).2 hin;omega
      ·rw[hset,Ej hD hdc hin hxi hLg ops.size (au _),if_pos hin];exact hi'
 refine wp_region_any hm ?_;have hinit:(fun i=>(Array.replicate ops.size false).getD i false)=fun _=>false:=by
  funext i
  by_cases h:i<ops.size<;>simp[Array.getD,h]
 refine key ops.size (Array.replicate ops.size false) (by simp) ?_ ?_ a _ ?_
 ·rw[hinit];intro j o _ hx;simp at hx
 ·rw[hinit];have:∀n,todo (fun _=>false) n=n:=fun n=>by induction n with
   | zero=>rfl
   | succ n ih=>simp[todo,ih]
  rw[this];exact au _
 ·rw[hinit];have:∀n,part L (fun _=>false) t n=t:=fun n=>by induction n with
   | zero=>rfl
   | succ n ih=>rw[part];simpa using ih
  rw[this];obtain⟨E,hw,hE⟩:=hi;subst hw
  let E':En:={E with w:={E.w with drawn:=E.w.drawn+1}}
  have x:oQ E E':=⟨fun _ _ h=>h,fun _ _ _=>rfl,fun _ _ _ h=>h,fun _ _ h=>h,fun _ _ h=>h,fun _ _ c v _ h=>⟨c,v,h,au _,fun _=>rfl⟩⟩
  exact⟨E',rfl,hE.step (hE.h.more x rfl rfl (au _) (fun _ _=>rfl) (fun b o h=>.inl h)) x
   (hE.fr.next rfl rfl rfl (au _) (fun _ _ _ _=>rfl) (fun _=>rfl) (fun _ _ h=>.inl h) (fun _ _ h=>h) (fun _ _ h=>.inl h)) (fun _=>rfl)⟩
end
end Go.Tr
