/-
  What functions of the program compute, stated as contracts over plain data; the conditions of each stand in its own statement.
-/
import Derived.Test.YtkikielfhjoogaaGreatDoorZA10
import Derived.Shelf.SortM.SortNone
import Derived.Shelf.SortM.Plain
import Derived.Shelf.SlicesG.CompactI
import Derived.Shelf.Spec.SlicesGrow
import Derived.Below
set_option linter.unusedVariables false
set_option linter.unusedSimpArgs false
namespace Go.Tr
open Go
theorem Contract.true{P:Program}{f:FuncId}{args:List TV}{ro:List (Nat×It)}(c:Contract P f args [] (.d (.bool true)) [] ro){w:World}(hg:Wn w){us:List Value}(h:bD (XG w) args us):
  Calls P f us.toArray w fun e w'=>e = .returned (.bool true)∧RowKit.Below w.heap.size w w':=
 (c.law hg h).mono fun e w' ⟨u,E',he,hr,hb⟩=>by grind[aP,Rep]
theorem agk{k:IntKind}{ds:List D}(h:(Ty.sl (.int k)).has ds):∃l:List Int,ds = [.sl (l.map fun n=>[.int k n])]∧l.length≤maxLen∧∀n∈l,(Lit.int k n).wf=true:=by
 obtain⟨xs,rfl,h1,h2⟩:=h;have:∀(xs:List (List D)),(∀x∈xs,∃n,x = [D.int k n]∧(Lit.int k n).wf=true)→∃l:List Int,xs=l.map (fun n=>[D.int k n])∧∀n∈l,(Lit.int k n).wf=true:=by
  intro xs
  induction xs with
  | nil=>simp
  | cons x xs ih=>
    intro h;obtain⟨n,rfl,hn⟩:=h x (by simp);obtain⟨l,rfl,hl⟩:=ih fun y hy=>h y (by simp[*])
    exact⟨n::l,rfl,by simp_all⟩
 obtain⟨l,rfl,hl⟩:=this xs h2
 grind
theorem wf_i64{n:Int}(h:(Lit.int .i64 n).wf=true):I64 n:=by
 simp only[Lit.wf,aG,decide_eq_true_eq]at h
 trivial
structure RH(P:Program)(f:FuncId)(k:IntKind)(F:List Int→List Int)(m:Option (List Int→Nat)):Prop where
 len:∀zs,(F zs).length=zs.length
 mle:∀m',m=some m'→∀zs,m' zs≤zs.length
 run:∀(w:World) (g cap:Nat) (zs:List Int) (cur:Array Value) (e:TypeId),w.heap[g]? = some (.cells cur e (0,0))→zs.length≤cap→cap≤maxLen→cur.size=cap→cur.toList.take zs.length=zs.map (.int k)→0<zs.length→zs.length<4611686018427387904→
  Calls P f #[.slice (some ⟨g,0,none⟩) zs.length cap] w fun e' w'=>e' = .returned (match m with|none=>.tuple #[]|some m'=>.slice (some ⟨g,0,none⟩) (m' zs) cap)∧w.grownBy w' (some g)∧
   ∃cur',w'.heap[g]? = some (.cells cur' e (0,0))∧cur'.size=cap∧cur'.toList.take zs.length=(F zs).map (.int k)
 none:∀p cap w,Calls P f #[.slice p 0 cap] w fun e' w'=>(∃p' c',e' = .returned (match m with|none=>.tuple #[]|some _=>.slice p' 0 c'))∧w'=w
def jR(k:IntKind)(zs:List Int):List (List D):=zs.map fun z=>[.int k z]
@[simp]theorem Po(k:IntKind)(zs:List Int):(jR k zs).length=zs.length:=by simp[jR]
@[simp]theorem G5(k:IntKind)(zs:List Int):(dd (jR k zs)).length=zs.length:=by simp
theorem abe(k:IntKind):∀zs:List Int,jX (dd (jR k zs))=some (jR k zs)
 | []=>rfl
 | z::zs=>by simp
theorem Dt{E:En}{k:IntKind}:∀{zs:List Int} {us:List Value} {o:Nat},(∀i z,zs[i]? = some z→us[o+i]? = some (.int k z))→fC E us 1 o (dd (jR k zs))
 | [],_,_,_=>trivial
 | z::zs,us,o,h=>by
   refine⟨rfl,⟨⟨.int k z,by simpa using h 0 z rfl,rfl,by rfl⟩,trivial⟩,Dt fun i z hz=>?_⟩;have:=h (i+1) z hz
   grind
theorem KW{E:En}{k:IntKind}:∀{zs:List Int} {us:List Value} {o:Nat},fC E us 1 o (dd (jR k zs))→∀i z,zs[i]? = some z→us[o+i]? = some (.int k z)
 | z::zs,us,o,⟨_,⟨⟨u,h1,_,h3⟩,_⟩,h4⟩,i,y,hy=>by
   cases i with
   | zero=>grind[aP,Rep]
   | succ i=>
     have:=KW h4 i y (by trivial)
     grind
def XH(k:IntKind)(F:List Int→List Int)(m:Option (List Int→Nat))(zs:List Int):TV:=
 match m with
 | none=>.qh []
 | some m'=>.d (.sl (jR k ((F zs).take (m' zs))))
section
variable {P:Program} {A:f_} {ops:Array Oper}
theorem Sum.agG{t:S}{i:Nat}{o:Oper}{gp:List Pl}{fo x:Operand}{tys:Array TypeId}{f:FuncId}{k:IntKind}{F:List Int→List Int}{m:Option (List Int→Nat)}{id n:Nat}{e:TypeId}{zs:List Int}
  (ho:ops[i]? = some o) (hg:gv ops t o=some (gp,true)) (hd:mZ A.N o=true) (hop:o.op = .call {callee:=.value fo,args:=#[x],argTypes:=tys}) (hf:ev t fo = .clo f []) (hfn:dB P f=true)
  (C:RH P f k F m) (hx:ev t x = .aW id n) (ht:t (.o id) = .row e 1 (dd (jR k zs)) false) (hn:n=zs.length) (hsz:zs.length<4611686018427387904) :
  Sum P A ops i t (gp++(pl fo++(pl x++[.o id]))) (rM o (XH k F m zs) [(.o id,.row e 1 (dd (jR k (F zs))) m.isSome)]):=fun t' hr a w ⟨E,hw,hi⟩ K Q hK=>by
 subst hw;have hwant:=kU hg (bf hr) hi;have hr1:=aQ hr;have hr2:=aQ hr1;have hfo:ev t' fo = .clo f []:=(dK (bf hr1)).trans hf;have hx':ev t' x = .aW id n:=(dK (bf hr2)).trans hx;have ht':t' (.o id) = .row e 1 (dd (jR k zs)) false:=(aQ hr2 _ (by simp)).trans ht;have hfr:=bP hi fo;rw[hfo]at hfr
 simp only[aP,bD]at hfr;obtain⟨rU,zf,uQ⟩:=hfr;obtain rfl:rU = #[]:=by simp_all
 have hxr:=bP hi x;rw[hx']at hxr
 obtain⟨hblk,v,us,hval,hown,hrel,hcur⟩:=xR hi ht';have hnl:(dd (jR k zs)).length=zs.length:=G5 k zs;rw[hn,←hnl]at hxr
 have hxv:=hcur _ hxr;rw[hnl]at hval hown
 unfold wpOp;simp only[ho,hwant,if_true];refine .inl ?_;unfold Oper.wp;have hrun:(execOp a.eval o).run P E.w = .ok (.enter f #[v]) E.w:=by simp only[execOp,hop,resolve,zf,Deferred.ofValue,invoke,Sem.run_bind,Sem.run_pure,Result.andThen_ok,fA,fD,iU hfn,hxv,Array.map,iR];simp[*]
 rw[hrun];simp only[Oper.upon];have hnum:=KW hrel;simp only[bT]at hnum;have nI:E.own (.o id)=v.ownBlock:=by grind[En.own]
 have aop:∀(b:Nat),E.own (.o id)=some b→∀o',¬E.St b o':=fun b hb o' hs=>by
  obtain⟨e2,k2,es2,h1,_⟩:=hi.h.sep b o' hs _ hb
  simp_all
 have fin:∀(w':World) (us':List Value) (u:Value),E.w.grownBy w' v.ownBlock→w'.ownsRow 0 e 1 v zs.length us'→(∀(i:Nat) (z:Int),(F zs)[i]? = some z→us'[i]? = some (Value.int k z))→(m=none→u = .tuple #[])→
   (∀m',m=some m'→∃p c,u = .slice p (m' zs) c∧(m' zs=0∨∃g cap,v = .slice (some ⟨g,0,none⟩) zs.length cap∧p=some ⟨g,0,none⟩∧c=cap))→
   K (a.put o.dst u) w':=fun w' us' u hgr hown' hcells hr0 hr1'=>by
  obtain⟨E',hw',x1,hi',hval'⟩:=hi.Nc ht' (es':=dd (jR k (F zs))) (sh':=false) (us':=us') (v':=v) (w':=w') (by simp[*]) hgr
   (by rw[G5,C.len];omega) (by rw[G5,G5,C.len];omega) (fun _=>rfl) (.inl rfl)
   (fun b o' hst=>by
    by_cases hb:v.ownBlock=some b
    ·simp_all
    ·exact h_ (hgr.block b (hi.h.o_ b o' hst) (fun e=>hb e.symm)))
   (fun h=>by omega) (fun E' hw' x=>Dt (by simp_all))
  cases m with
  | none=>refine hK _ _ ⟨E',hw',?_⟩;rw[hr0 rfl];exact eY.dst (W:=[(.o id,.row e 1 (dd (jR k (F zs))) false)]) hi' hd (by simp only[XH,aP];exact⟨#[],rfl,by rfl⟩)
  | some m'=>
    obtain⟨E2,hw2,x2,hb2,hv2,hi2,hrep,_⟩:=hi'.freeze (upd_same _ _ _) (abe k (F zs));have atu:upd (upd t' (.o id) (.row e 1 (dd (jR k (F zs))) false)) (.o id) (.row e 1 (dd (jR k (F zs))) true)=upd t' (.o id) (.row e 1 (dd (jR k (F zs))) true):=by funext p;simp only[upd];split<;>rfl
    rw[atu]at hi2
    refine hK _ _ ⟨E2,hw2.trans hw',?_⟩;obtain⟨p,c,hu,hp⟩:=hr1' m' rfl;subst hu;refine eY.dst (W:=[(.o id,.row e 1 (dd (jR k (F zs))) true)]) hi2 hd ?_;have hml:=C.mle m' rfl zs;have hlen:=C.len zs;have htl:(jR k ((F zs).take (m' zs))).length=m' zs:=by rw[Po,gG];omega
    simp only[XH,aP,Rep];rcases hp with h0|⟨g,cap,hv,hp1,hp2⟩
    ·exact .inl ⟨by rw[htl,h0],p,c,by rw[h0]⟩
    ·subst hp1 hp2;by_cases h0:m' zs=0
     ·exact .inl ⟨by rw[htl,h0],_,_,by rw[h0]⟩
     ·have hfull:=hrep v (by
       simp only[aP];refine⟨by rw[hv];rfl,1,_,v,hval',au _,fun _=>rfl⟩)
      simp only[Rep]at hfull;rcases hfull with⟨hz,_⟩|⟨b,o2,c2,k2,alI,hc2,hrows⟩
      ·rw[Po]at hz;omega
      ·rw[hv]at alI
       simp only[Value.slice.injEq,ah,Addr.mk.injEq,and_true]at alI;obtain⟨⟨rfl,rfl⟩,hl,rfl⟩:=alI;refine .inr ⟨g,0,_,k2,by rw[htl],by rw[htl];rw[Po]at hc2;omega,jK.iI fun i y hy=>?_⟩;refine hrows.get ?_;rw[show jR k ((F zs).take (m' zs))=(jR k (F zs)).take (m' zs) by simp[jR],gZ]at hy
       split at hy
       ·exact hy
       ·simp at hy
 rcases hown.2 with⟨hv,h0⟩|⟨g,cap,cur,hv,hb0,hgg,hnc,hcm,hcs,htake⟩
 ·-- no numbers
  have hz:zs = []:=dS.1 h0;subst hv;refine(C.none none 0 E.w).mono fun e' w' ⟨⟨p',c',he⟩,hw'⟩=>?_
  subst he hw';refine fin E.w us _ ⟨rfl,rfl,rfl,au _,fun _ _ _=>rfl⟩ hown (fun i z hz'=>?_) (fun hm=>by subst hm;rfl) (fun m' hm=>?_)
  ·have:=C.len zs;rw[h0]at this
   rw[dS.1 this]at hz'
   simp at hz'
  ·subst hm;have:=C.mle m' rfl zs;have e0:m' zs=0:=by omega
   exact⟨p',c',by rw[e0],.inl e0⟩
 ·by_cases h0:zs.length=0
  ·subst hv;have hz:zs = []:=dS.1 h0;rw[h0];refine(C.none _ cap E.w).mono fun e' w' ⟨⟨p',c',he⟩,hw'⟩=>?_
   subst he hw';rw[h0]at fin hown
   refine fin E.w us _ ⟨rfl,rfl,rfl,au _,fun _ _ _=>rfl⟩ hown (fun i z hz'=>?_) (fun hm=>by subst hm;rfl) (fun m' hm=>?_)
   ·have:=C.len zs;rw[h0]at this
    rw[dS.1 this]at hz'
    simp at hz'
   ·subst hm;have:=C.mle m' rfl zs;have e0:m' zs=0:=by omega
    exact⟨p',c',by rw[e0],.inl e0⟩
  ·subst hv;have alH:us=zs.map (.int k):=by
    apply iw;intro i;by_cases hi2:i<zs.length
    ·rw[hnum i zs[i] (aj hi2)];simp[hi2]
    ·have:=hown.1;rw[dX (by omega),dX (by simp;omega)]
   rw[Nat.mul_one]at htake hcs
   rw[alH]at htake
   refine(C.run E.w g cap zs cur e hgg hnc hcm hcs htake (by omega) hsz).mono fun e' w' ⟨he,hgr,cur',h1,h2,h3⟩=>?_
   subst he;refine fin w' ((F zs).map (.int k)) _ hgr ⟨by simp[C.len],.inr ⟨g,cap,cur',rfl,hb0,h1,hnc,hcm,by omega,by rw[Nat.mul_one];exact h3⟩⟩ (fun i z hz=>by simp[hz]) (fun hm=>by subst hm;rfl) (fun m' hm=>?_);subst hm;exact⟨_,_,rfl,.inr ⟨g,cap,rfl,rfl,rfl⟩⟩
def agI(P:Program)(N:Nat)(t:S)(o:Oper)(f:FuncId)(k:IntKind)(F:List Int→List Int)(m:Option (List Int→Nat))(zs:List Int)(gp:List Pl)(g:Bool)(fo x:Operand):Option (Prop×List Pl×List (Pl×It)):=
 match ev t x with
 | .aW id n=>match ev t fo with
   | .clo f' caps=>match t (.o id)with
     | .row e z es sh=>some (g=true∧mZ N o=true∧f'=f∧caps = []∧dB P f=true∧z=1∧sh=false∧es=dd (jR k zs)∧n=zs.length∧zs.length<4611686018427387904,gp++(pl fo++(pl x++[.o id])),rM o (XH k F m zs) [(.o id,.row e 1 (dd (jR k (F zs))) m.isSome)])
     | _=>none
   | _=>none
 | _=>none
def agH(P:Program)(N:Nat)(t:S)(ops:Array Oper)(f:FuncId)(k:IntKind)(F:List Int→List Int)(m:Option (List Int→Nat))(zs:List Int):Option Oper→Option (Prop×List Pl×List (Pl×It))
 | some o=>match gv ops t o with
   | some (gp,g)=>match o.op with
     | .call {callee:=.value fo,args:=xs,argTypes:=_}=>match xs.toList with
       | [x]=>agI P N t o f k F m zs gp g fo x
       | _=>none
     | _=>none
   | none=>none
 | none=>none
theorem aI.agG{i:Nat}{t:S}{k:List Pl→List (Pl×It)→Prop}{g:Tg k}{f:FuncId}{kd:IntKind}{F:List Int→List Int}{m:Option (List Int→Nat)}(C:RH P f kd F m)(zs:List Int)
  (h:QC k g (agH P A.N t ops f kd F m zs ops[i]?)):aI P A ops i t k g:=by
 unfold QC at h;split at h
 ·rename_i D rp W hc;obtain⟨h1,h2⟩:=h;refine⟨rp,W,?_,h2⟩;unfold agH at hc;split at hc
  ·split at hc
   ·rename_i gp g0 hg;split at hc
    ·rename_i fo xs tys hop;split at hc
     ·rename_i x hxs;obtain rfl:xs = #[x]:=by grind
      unfold agI at hc;split at hc
      ·rename_i id n hx;split at hc
       ·rename_i f' caps hf;split at hc
        ·rename_i e z es sh ht;simp only[ah,aO]at hc;obtain⟨rfl,rfl,rfl⟩:=hc;obtain⟨rfl,q1,rfl,rfl,q2,rfl,rfl,rfl,q3,q4⟩:=h1
         grind[Sum.agG]
        trivial
       trivial
      trivial
     trivial
    trivial
   trivial
  trivial
 trivial
attribute [simp] agH agI XH
end
end Go.Tr

namespace Go.Tr
open Go Go.Proofs Go.Shelf Go.Sort Go.Lib
theorem Contract.cases{P:Program}{f:FuncId}{args:List TV}{xs:List It}{r:TV}{xs':List It}{ro:List (Nat×It)}(h:∀E us,bD E args us→∃args',bD E args' us∧Contract P f args' xs r xs' ro):Contract P f args xs r xs' ro:=
 fun E us hH ha=>by obtain⟨args',h1,c⟩:=h E us ha;exact c E us hH h1
@[simp]theorem PW(t:S)(ν:List Pl):∀ds:List D,TV.n_ t ν (ds.map .d)=some (ds.map .d)
 | []=>rfl
 | d::ds=>by simp[TV.n_,TV.pass,PW t ν ds]
@[simp]theorem J8(t:S):∀ds:List D,TV.pU t (ds.map .d)=True
 | []=>by rfl
 | d::ds=>by simp[TV.pU,TV.yU,J8 t ds]
@[simp]theorem Qh:∀ds:List D,TV.qG (ds.map .d) = []
 | []=>rfl
 | d::ds=>by simp[TV.qG,TV.rows,Qh ds]
@[simp]theorem GL(ν:List Pl)(b:Nat):∀ds:List D,TV.backs ν b (ds.map .d)=ds.map .d
 | []=>rfl
 | d::ds=>by simp[TV.backs,TV.back,GL ν b ds]
@[simp]theorem ana(ν:List Pl)(b:Nat)(xs:List (List D)):(dd xs).map (TV.backs ν b)=dd xs:=by simp only[dd,aY];exact gU fun ds _=>GL ν b ds
section
variable {α:Type} (f:α→D)
end
theorem adE{w:World}{g:Nat}{zs:List Int}{cur:Array Value}{e:TypeId}(h1:w.heap[g]? = some (.cells cur e (0,0)))(h2:cur.toList.take zs.length=zs.map (.int .i64)):Holds (Value.int .i64) w g 0 zs.toArray:=fun j hj=>by
 have h3:cur[j]? = some (.int .i64 zs[j]):=by
  have:(cur.toList.take zs.length)[j]? = some (.int .i64 zs[j]):=by simp[*]
  grind
 grind[World.cell?,World.frozen?]
theorem ajY{w:World}{g:Nat}{ys zs:List Int}{cur:Array Value}{e:TypeId}(n:Nat)(os:Array Obj)(h1:w.heap[g]? = some (.cells cur e (0,0)))(hl:ys.length=zs.length)(hc:zs.length≤cur.size):
  w.grownBy (grow (putRow (Value.int .i64) (Sort.ahead w n) g 0 ys.toArray) os) (some g)∧
   ∃cur',(grow (putRow (Value.int .i64) (Sort.ahead w n) g 0 ys.toArray) os).heap[g]? = some (.cells cur' e (0,0))∧cur'.size=cur.size∧cur'.toList.take zs.length=ys.map (.int .i64):=by
 refine⟨⟨rfl,rfl,rfl,by simp,fun k hk hne=>?_⟩,putCells (Value.int .i64) 0 ys.toArray cur,?_,by simp[putCells],?_⟩
 ·grind[heap_grow_old,putRow,mapBlock,Sort.ahead]
 ·grind[heap_grow_old,putRow,mapBlock,Sort.ahead,onCells]
 ·apply iw;intro i;rw[gZ];by_cases hi:i<zs.length
  ·grind[putCells]
  simp[*]
theorem RH.sort{P:Program}{ρ:Ren}(Ly:SlLaysM.n5 P ρ):RH P (ρ.f 5) .i64 (fun zs=>zs.mergeSort fun x y=>decide (x≤y)) Option.none:=by
 refine⟨fun zs=>iO _,fun m' h=>by trivial,fun w g cap zs cur e h1 h2 h3 h4 h5 h6 h7=>?_,fun p cap w=>?_⟩
 ·refine(AnyM.slices_Sort_int Ly g 0 cap zs w (adE h1 h5) (aZ.1 h1).1 h7).mono fun e' w' ⟨he,n,os,hw⟩=>?_
  grind[ajY,List.length_mergeSort]
 grind[AnyM.slices_Sort_int_none]
end Go.Tr

namespace Go.Tr
open Go Go.Proofs Go.Shelf
structure akA(P:Program)(f:FuncId)(e:TypeId)(k N:Nat):Prop where
 run:∀(w:World) (n:Nat),n≤N→Calls P f #[.slice none 0 0,.int .i64 n] w fun e' w'=>∃v,e' = .returned v∧w.grownBy w' none∧w'.ownsRow w.heap.size e k v 0 []
section
variable {P:Program} {A:f_} {ops:Array Oper}
theorem Sum.grow{t:S}{i d:Nat}{o:Oper}{gp:List Pl}{fo x y:Operand}{tys:Array TypeId}{f:FuncId}{e:TypeId}{k N:Nat}{n:Int}
  (ho:ops[i]? = some o) (hg:gv ops t o=some (gp,true)) (hd:mZ A.N o=true) (hop:o.op = .call {callee:=.value fo,args:=#[x,y],argTypes:=tys}) (hf:ev t fo = .clo f []) (hfn:dB P f=true)
  (C:akA P f e k N) (hx:ev t x = .c (.slice none 0 0)) (hy:ev t y = .d (.int .i64 n)) (hn:0≤n) (hN:n≤N) (ht:t (.o d) = .none) :
  Sum P A ops i t (gp++(pl fo++(pl x++(pl y++[.o d])))) (rM o (.aW d 0) [(.o d,.row e k [] false)]):=fun t' hr a w ⟨E,hw,hi⟩ K Q hK=>by
 subst hw;have hwant:=kU hg (bf hr) hi;have hr1:=aQ hr;have hr2:=aQ hr1;have hr3:=aQ hr2;have hfo:ev t' fo = .clo f []:=(dK (bf hr1)).trans hf;have hx':ev t' x = .c (.slice none 0 0):=(dK (bf hr2)).trans hx;have hy':ev t' y = .d (.int .i64 n):=(dK (bf hr3)).trans hy;have ht':t' (.o d) = .none:=(aQ hr3 _ (by simp)).trans ht
 have hfr:=bP hi fo;rw[hfo]at hfr
 simp only[aP,bD]at hfr;obtain⟨rU,zf,uQ⟩:=hfr;obtain rfl:rU = #[]:=by cases rU;simpa using uQ
 have hxr:=bP hi x;rw[hx']at hxr
 simp only[aP]at hxr;have LC:=bP hi y;rw[hy']at LC
 simp only[aP,Rep]at LC;obtain⟨m,rfl⟩:∃m:Nat,n=m:=⟨n.toNat,by omega⟩
 unfold wpOp;simp only[ho,hwant,if_true];refine .inl ?_;unfold Oper.wp;have hrun:(execOp a.eval o).run P E.w = .ok (.enter f #[.slice none 0 0,.int .i64 m]) E.w:=by simp only[execOp,hop,resolve,zf,Deferred.ofValue,invoke,Sem.run_bind,Sem.run_pure,Result.andThen_ok,fA,fD,iU hfn,hxr,LC,Array.map,iR];simp[hxr,LC,iU hfn]
 rw[hrun];simp only[Oper.upon];refine(C.run E.w m (by omega)).mono fun e' w' ⟨v,he,hgr,hown⟩=>?_
 subst he;obtain⟨E',hw',x',hi',hval⟩:=hi.AO ht' (es:=[]) (v:=v) (us:=[]) (e:=e) (k:=k) (w':=w') hgr hown (fun E' _ _=>trivial);refine hK _ _ ⟨E',hw',?_⟩;refine eY.dst (W:=[(.o d,.row e k [] false)]) hi' hd ?_;simp only[aP];have h1:v.oneCell'=true:=by rcases hown.2 with⟨rfl,_⟩|⟨g,cap,cur,rfl,_⟩<;>rfl
 exact⟨h1,k,0,v,hval,au _,fun _=>rfl⟩
def akJ(P:Program)(N0:Nat)(t:S)(o:Oper)(f:FuncId)(e:TypeId)(k N:Nat)(gp:List Pl)(g:Bool)(fo x y:Operand):Option (Prop×List Pl×List (Pl×It)):=
 match ev t fo with
 | .clo f' caps=>match ev t x with
   | .c v=>match ev t y with
     | .d (.int .i64 n)=>match o.dst with
       | some d=>some (g=true∧mZ N0 o=true∧f'=f∧caps = []∧dB P f=true∧v = .slice none 0 0∧0≤n∧n≤N∧t (.o d) = .none,gp++(pl fo++(pl x++(pl y++[.o d]))),rM o (.aW d 0) [(.o d,.row e k [] false)])
       | none=>none
     | _=>none
   | _=>none
 | _=>none
def akI(P:Program)(N0:Nat)(t:S)(ops:Array Oper)(f:FuncId)(e:TypeId)(k N:Nat):Option Oper→Option (Prop×List Pl×List (Pl×It))
 | some o=>match gv ops t o with
   | some (gp,g)=>match o.op with
     | .call {callee:=.value fo,args:=xs,argTypes:=_}=>match xs.toList with
       | [x,y]=>akJ P N0 t o f e k N gp g fo x y
       | _=>none
     | _=>none
   | none=>none
 | none=>none
theorem aI.grow{i:Nat}{t:S}{k:List Pl→List (Pl×It)→Prop}{g:Tg k}{f:FuncId}{e:TypeId}{z N:Nat}(C:akA P f e z N)
  (h:QC k g (akI P A.N t ops f e z N ops[i]?)):aI P A ops i t k g:=by
 unfold QC at h;split at h
 ·rename_i D rp W hc;obtain⟨h1,h2⟩:=h;refine⟨rp,W,?_,h2⟩;unfold akI at hc;split at hc
  ·rename_i o ho;split at hc
   ·rename_i gp g0 hg;split at hc
    ·rename_i fo xs tys hop;split at hc
     ·rename_i x y hxs;obtain rfl:xs = #[x,y]:=by cases xs;simpa using hxs
      unfold akJ at hc;split at hc
      ·rename_i f' caps hf;split at hc
       ·rename_i v hx;split at hc
        ·rename_i n hy;split at hc
         ·rename_i d hod;simp only[ah,aO]at hc;obtain⟨rfl,rfl,rfl⟩:=hc;obtain⟨rfl,q1,rfl,rfl,q2,rfl,q3,q4,q5⟩:=h1;exact Sum.grow ho hg q1 hop hf q2 C hx hy q3 q4 q5
         ·simp at hc
        ·simp at hc
       ·simp at hc
      ·simp at hc
     trivial
    trivial
   trivial
  trivial
 trivial
end
end Go.Tr

namespace Go.Tr
open Go Go.Proofs
structure abl(P:Program)(fK fS g:FuncId)(e:TypeId):Prop where
 keys:∀(b:Nat) (w:World),Calls P fK #[.map (some b)] w fun e' w'=>∃ty,e' = .returned (.func (.func g) #[] #[.pointer (some ⟨w.heap.size,0,none⟩)])∧w'=w.alloc (.cells #[.map (some b)] ty)
 sorted:∀(Bm b:Nat) (l:Array MapEntry) (clock:Nat) (ks:List Int) (w:World),Bm<w.heap.size→w.cell? ⟨Bm,0,none⟩ = some (.map (some b))→w.heap[b]? = some (.map l clock)→MapKept.Stamped l clock→
  l.toList.map (·.key)=ks.map (Value.int .i64)→(∀k∈ks,(Lit.int .i64 k).wf=true)→ks.length≤1000000→
  Calls P fS #[.func (.func g) #[] #[.pointer (some ⟨Bm,0,none⟩)]] w fun e' w'=>∃v,e' = .returned v∧w'.ownsRow w.heap.size e 1 v ks.length ((ks.mergeSort fun x y=>decide (x≤y)).map (Value.int .i64))∧RowKit.Below w.heap.size w w'
theorem KR{E:En}:∀{es:List (Int×D)} {l:List MapEntry},rW E es l→l.map (·.key)=(es.map (·.1)).map (Value.int .i64)
 | [],l,h=>by grind[rW]
 | (k,d)::es,l,h=>by obtain⟨a,l',rfl,h1,_,_,h4⟩:=h;simp[h1,KR h4]
def Il(es:List (Int×D)):List Int:=(es.map (·.1)).mergeSort fun x y=>decide (x≤y)
theorem aea(es:List (Int×D)):(Il es).length=es.length:=by simp[Il]
section
variable {P:Program} {A:f_} {ops:Array Oper}
theorem Sum.keys{t:S}{i d:Nat}{o:Oper}{gp:List Pl}{fo x:Operand}{tys:Array TypeId}{f fS g:FuncId}{e:TypeId}{id:Nat}
  (ho:ops[i]? = some o) (hg:gv ops t o=some (gp,true)) (hd:mZ A.N o=true) (hop:o.op = .call {callee:=.value fo,args:=#[x],argTypes:=tys}) (hf:ev t fo = .clo f []) (hfn:dB P f=true)
  (C:abl P f fS g e) (hx:ev t x = .mref id) (ht:t (.o d) = .none) :
  Sum P A ops i t (gp++(pl fo++(pl x++[.o d]))) (rM o (.clo g [.ptr (.o d) 0]) [(.o d,.box [.mref id])]):=fun t' hr a w ⟨E,hw,hi⟩ K Q hK=>by
 subst hw;have hwant:=kU hg (bf hr) hi;have hr1:=aQ hr;have hr2:=aQ hr1;have hfo:ev t' fo = .clo f []:=(dK (bf hr1)).trans hf;have hx':ev t' x = .mref id:=(dK (bf hr2)).trans hx;have ht':t' (.o d) = .none:=(aQ hr2 _ (by simp)).trans ht;have hfr:=bP hi fo;rw[hfo]at hfr
 simp only[aP,bD]at hfr;obtain⟨rU,zf,uQ⟩:=hfr;obtain rfl:rU = #[]:=by cases rU;simpa using uQ
 have hxr:=bP hi x;rw[hx']at hxr
 have alJ:=hxr;simp only[aP]at hxr;obtain⟨b,hb,hu⟩:=hxr;unfold wpOp;simp only[ho,hwant,if_true];refine .inl ?_;unfold Oper.wp;have hrun:(execOp a.eval o).run P E.w = .ok (.enter f #[.map (some b)]) E.w:=by simp only[execOp,hop,resolve,zf,Deferred.ofValue,invoke,Sem.run_bind,Sem.run_pure,Result.andThen_ok,fA,fD,iU hfn,hu,Array.map,iR];simp[hu,iU hfn]
 rw[hrun];simp only[Oper.upon];refine(C.keys b E.w).mono fun e' w' ⟨ty,he,hw'⟩=>?_
 subst he hw';obtain⟨E',hw2,hinv,hrel⟩:=hi.Vo ht' (us:=#[.map (some b)]) (cs:=[.mref id]) rfl ⟨⟨_,rfl,rfl,by rw[←hu];exact alJ⟩,trivial⟩ ty;refine hK _ _ ⟨E',hw2,?_⟩;refine eY.dst (W:=[(.o d,.box [.mref id])]) hinv hd ?_;simp only[aP,bD]at hrel⊢;exact⟨_,rfl,_,_,rfl,hrel,rfl⟩
theorem Sum.sorted{t:S}{i d:Nat}{o:Oper}{gp:List Pl}{fo x:Operand}{tys:Array TypeId}{f fK g:FuncId}{e:TypeId}{id:Nat}{p:Pl}{es:List (Int×D)}
  (ho:ops[i]? = some o) (hg:gv ops t o=some (gp,true)) (hd:mZ A.N o=true) (hop:o.op = .call {callee:=.value fo,args:=#[x],argTypes:=tys}) (hf:ev t fo = .clo f []) (hfn:dB P f=true)
  (C:abl P fK f g e) (hx:ev t x = .clo g [.ptr p 0]) (hpl:rP p=true) (hp:t p = .box [.mref id]) (hm:t (.o id) = .mp es) (hk:∀x∈es,I64 x.1) (hl:es.length≤1000000) (ht:t (.o d) = .none) :
  Sum P A ops i t (gp++(pl fo++(pl x++[p,.o id,.o d]))) (rM o (.aW d es.length) [(.o d,.row e 1 (dd (jR .i64 (Il es))) false)]):=fun t' hr a w ⟨E,hw,hi⟩ K Q hK=>by
 subst hw;have hwant:=kU hg (bf hr) hi;have hr1:=aQ hr;have hr2:=aQ hr1;have hr3:=aQ hr2;have hfo:ev t' fo = .clo f []:=(dK (bf hr1)).trans hf;have hx':ev t' x = .clo g [.ptr p 0]:=(dK (bf hr2)).trans hx;have hp':t' p = .box [.mref id]:=(hr3 _ (by simp)).trans hp;have hm':t' (.o id) = .mp es:=(hr3 _ (by simp)).trans hm
 have ht':t' (.o d) = .none:=(hr3 _ (by simp)).trans ht;have hfr:=bP hi fo;rw[hfo]at hfr
 simp only[aP,bD]at hfr;obtain⟨rU,zf,uQ⟩:=hfr;obtain rfl:rU = #[]:=by cases rU;simpa using uQ
 have hxr:=bP hi x;rw[hx']at hxr
 simp only[aP,bD]at hxr;obtain⟨us,hu,u0,us',hus,⟨b0,hb0,hu0⟩,Vb⟩:=hxr;subst Vb hu0;obtain rfl:us = #[.pointer (some ⟨b0,0,none⟩)]:=by cases us;simpa using hus
 have hbox:=hi.h.item p (fun k e=>by subst e;simp[rP]at hpl);rw[hp']at hbox
 obtain⟨_,b1,ty,cs,hb1,hh1,hsz,hc1⟩:=hbox;rw[hb0]at hb1
 simp only[ah]at hb1;subst hb1;obtain⟨⟨u1,hg1,_,hr1'⟩,_⟩:=hc1;simp only[aP]at hr1';obtain⟨b2,hb2,hu1⟩:=hr1';subst hu1;obtain⟨_,b3,l,clock,hb3,hh3,hrel,hst⟩:=MR hi hm';rw[hb2]at hb3
 simp only[ah]at hb3;subst hb3;have hcell:E.w.cell? ⟨b0,0,none⟩ = some (.map (some b2)):=by rw[sK hh1];simpa using hg1
 have hlt:b0<E.w.heap.size:=(aZ.1 hh1).1;unfold wpOp;simp only[ho,hwant,if_true];refine .inl ?_;unfold Oper.wp;have hrun:(execOp a.eval o).run P E.w = .ok (.enter f #[.func (.func g) #[] #[.pointer (some ⟨b0,0,none⟩)]]) E.w:=by simp only[execOp,hop,resolve,zf,Deferred.ofValue,invoke,Sem.run_bind,Sem.run_pure,Result.andThen_ok,fA,fD,iU hfn,hu,Array.map,iR];simp[hu,iU hfn]
 rw[hrun];simp only[Oper.upon];have hwf:∀k∈es.map (·.1),(Lit.int .i64 k).wf=true:=fun k hk'=>by
  obtain⟨x,hx,rfl⟩:=ak.1 hk';have:=hk x hx;simp only[Lit.wf,aG,decide_eq_true_eq];have m1:IntKind.i64.min = -9223372036854775808:=by decide
  have m2:IntKind.i64.max=9223372036854775807:=by decide
  exact⟨by have:=this.1;omega,by have:=this.2;omega⟩
 refine(C.sorted b0 b2 l clock (es.map (·.1)) E.w hlt hcell hh3 hst (KR hrel) hwf (by simpa using hl)).mono fun e' w' ⟨v,he,hown,hbel⟩=>?_
 subst he;have hgr:E.w.grownBy w' none:=⟨hbel.os,hbel.tape,hbel.output,hbel.size,fun k hk _=>hbel.block k hk⟩
 have hkl:(dd (jR .i64 (Il es))).length=es.length:=by rw[G5,aea]
 obtain⟨E',hw2,x',hinv,hval⟩:=hi.AO ht' (es:=dd (jR .i64 (Il es))) (v:=v) (us:=(Il es).map (Value.int .i64)) (e:=e) (k:=1) (w':=w') hgr
  (by rw[hkl];simpa[Il]using hown) (fun E' _ _=>Dt (by simp))
 refine hK _ _ ⟨E',hw2,?_⟩;refine eY.dst (W:=[(.o d,.row e 1 (dd (jR .i64 (Il es))) false)]) hinv hd ?_;simp only[aP];have h1:v.oneCell'=true:=by rcases hown.2 with⟨rfl,_⟩|⟨g,cap,cur,rfl,_⟩<;>rfl
 rw[hkl]at hval
 exact⟨h1,1,es.length,v,hval,au _,fun _=>rfl⟩
def XJ(P:Program)(N0:Nat)(t:S)(o:Oper)(f g:FuncId)(gp:List Pl)(gd:Bool)(fo x:Operand):Option (Prop×List Pl×List (Pl×It)):=
 match ev t fo with
 | .clo f' caps=>match ev t x with
   | .mref id=>match o.dst with
     | some d=>some (gd=true∧mZ N0 o=true∧f'=f∧caps = []∧dB P f=true∧t (.o d) = .none,gp++(pl fo++(pl x++[.o d])),rM o (.clo g [.ptr (.o d) 0]) [(.o d,.box [.mref id])])
     | none=>none
   | _=>none
 | _=>none
def ah_(P:Program)(N0:Nat)(t:S)(o:Oper)(f g:FuncId)(e:TypeId)(gp:List Pl)(gd:Bool)(fo x:Operand):Option (Prop×List Pl×List (Pl×It)):=
 match ev t fo with
 | .clo f' caps=>match ev t x with
   | .clo g' [.ptr p 0]=>match t p with
     | .box [.mref id]=>match t (.o id)with
       | .mp es=>match o.dst with
         | some d=>some (gd=true∧mZ N0 o=true∧f'=f∧caps = []∧dB P f=true∧g'=g∧rP p=true∧(∀x∈es,I64 x.1)∧es.length≤1000000∧t (.o d) = .none,
           gp++(pl fo++(pl x++[p,.o id,.o d])),rM o (.aW d es.length) [(.o d,.row e 1 (dd (jR .i64 (Il es))) false)])
         | none=>none
       | _=>none
     | _=>none
   | _=>none
 | _=>none
def aei(t:S)(ops:Array Oper)(F:Oper→List Pl→Bool→Operand→Operand→Option (Prop×List Pl×List (Pl×It))):Option Oper→Option (Prop×List Pl×List (Pl×It))
 | some o=>match gv ops t o with
   | some (gp,g)=>match o.op with
     | .call {callee:=.value fo,args:=xs,argTypes:=_}=>match xs.toList with
       | [x]=>F o gp g fo x
       | _=>none
     | _=>none
   | none=>none
 | none=>none
theorem aI.one{i:Nat}{t:S}{k:List Pl→List (Pl×It)→Prop}{g:Tg k}{F:Oper→List Pl→Bool→Operand→Operand→Option (Prop×List Pl×List (Pl×It))}
  (hF:∀o gp gd fo x tys D rp W,ops[i]? = some o→gv ops t o=some (gp,gd)→o.op = .call {callee:=.value fo,args:=#[x],argTypes:=tys}→F o gp gd fo x=some (D,rp,W)→D→Sum P A ops i t rp W)
  (h:QC k g (aei t ops F ops[i]?)):aI P A ops i t k g:=by
 unfold QC at h;split at h
 ·rename_i D rp W hc;obtain⟨h1,h2⟩:=h;refine⟨rp,W,?_,h2⟩;unfold aei at hc;split at hc
  ·rename_i o ho;split at hc
   ·rename_i gp g0 hg;split at hc
    ·rename_i fo xs tys hop;split at hc
     ·rename_i x hxs;obtain rfl:xs = #[x]:=by cases xs;simpa using hxs
      exact hF o gp g0 fo x tys D rp W ho hg hop hc h1
     ·simp at hc
    ·simp at hc
   ·simp at hc
  ·simp at hc
 trivial
theorem aI.keys{i:Nat}{t:S}{k:List Pl→List (Pl×It)→Prop}{gt:Tg k}{f fS g:FuncId}{e:TypeId}(C:abl P f fS g e)
  (h:QC k gt (aei t ops (fun o gp gd fo x=>XJ P A.N t o f g gp gd fo x) ops[i]?)):aI P A ops i t k gt:=
 aI.one (fun o gp gd fo x tys D rp W ho hg hop hc h1=>by
  unfold XJ at hc;split at hc
  ·rename_i f' caps hf;split at hc
   ·rename_i id hx;split at hc
    ·rename_i d hod;simp only[ah,aO]at hc;obtain⟨rfl,rfl,rfl⟩:=hc;obtain⟨rfl,q1,rfl,rfl,q2,q3⟩:=h1;exact Sum.keys ho hg q1 hop hf q2 C hx q3
    ·simp at hc
   ·simp at hc
  trivial) h
theorem aI.sorted{i:Nat}{t:S}{k:List Pl→List (Pl×It)→Prop}{gt:Tg k}{f fK g:FuncId}{e:TypeId}(C:abl P fK f g e)
  (h:QC k gt (aei t ops (fun o gp gd fo x=>ah_ P A.N t o f g e gp gd fo x) ops[i]?)):aI P A ops i t k gt:=
 aI.one (fun o gp gd fo x tys D rp W ho hg hop hc h1=>by
  unfold ah_ at hc;split at hc
  ·rename_i f' caps hf;split at hc
   ·rename_i g' p hx;split at hc
    ·rename_i id hp;split at hc
     ·rename_i es hm;split at hc
      ·rename_i d hod;simp only[ah,aO]at hc;obtain⟨rfl,rfl,rfl⟩:=hc;obtain⟨rfl,q1,rfl,rfl,q2,rfl,q3,q4,q5,q6⟩:=h1;exact Sum.sorted ho hg q1 hop hf q2 C hx q3 hp hm q4 q5 q6
      ·simp at hc
     ·simp at hc
    ·simp at hc
   ·simp at hc
  ·simp at hc) h
attribute [simp] aei XJ ah_
end
end Go.Tr
