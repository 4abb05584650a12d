/-
  What functions of the program compute, stated as contracts over plain data; the conditions of each stand in its own statement.
-/
import Derived.Test.YtboimfkommpglaaGreatDoorZA10
import Derived.Shelf.SortM.SortNone
import Derived.Shelf.SortM.Plain
import Derived.Shelf.SlicesG.CompactI
import Derived.Shelf.Spec.SlicesGrow
import Derived.Below
set_option linter.unusedSimpArgs false
namespace Go.Tr
open Go
structure ahY(P:Program)(f:FuncId)(k:IntKind)(F:List Int→List Int)(m:Option (List Int→Nat)):Prop where
 len:∀zs,(F zs).length=zs.length
 mle:∀m',m=some m'→∀zs,m' zs≤zs.length
 run:∀(w:World) (g cap:Nat) (zs:List Int) (cur:Array Value) (e:TypeId),w.heap[g]? = some (.cells cur e (0,0))→zs.length≤cap→cap≤maxLen→cur.size=cap→cur.toList.take zs.length=zs.map (.int k)→0<zs.length→zs.length<4611686018427387904→
  Calls P f #[.slice (some ⟨g,0,none⟩) zs.length cap] w fun e' w'=>e' = .returned (match m with|none=>.tuple #[]|some m'=>.slice (some ⟨g,0,none⟩) (m' zs) cap)∧w.grownBy w' (some g)∧
   ∃cur',w'.heap[g]? = some (.cells cur' e (0,0))∧cur'.size=cap∧cur'.toList.take zs.length=(F zs).map (.int k)
 none:∀p cap w,Calls P f #[.slice p 0 cap] w fun e' w'=>(∃p' c',e' = .returned (match m with|none=>.tuple #[]|some _=>.slice p' 0 c'))∧w'=w
def dJ(k:IntKind)(zs:List Int):List (List D):=zs.map fun z=>[.int k z]
@[simp]theorem ak0(k:IntKind)(zs:List Int):(dJ k zs).length=zs.length:=by simp[dJ]
@[simp]theorem agK(k:IntKind)(zs:List Int):(dd (dJ k zs)).length=zs.length:=by simp
theorem PW{E:En}{k:IntKind}:∀{zs:List Int} {us:List Value} {o:Nat},(∀i z,zs[i]? = some z→us[o+i]? = some (.int k z))→dK E us 1 o (dd (dJ k zs))
 | [],_,_,_=>trivial
 | z::zs,us,o,h=>by
   refine⟨rfl,⟨⟨.int k z,by simpa using h 0 z rfl,rfl,by rfl⟩,trivial⟩,PW fun i z hz=>?_⟩;have:=h (i+1) z hz
   grind
def akO(k:IntKind)(F:List Int→List Int)(m:Option (List Int→Nat))(zs:List Int):TV:=
 match m with
 | none=>.rG []
 | some m'=>.d (.sl (dJ k ((F zs).take (m' zs))))
section
variable {P:Program} {A:eX} {ops:Array Oper}
attribute [simp] akO
end
end Go.Tr

namespace Go.Tr
open Go Go.Proofs Go.Shelf Go.Sort Go.Lib
theorem Contract.cases{P:Program}{f:FuncId}{args:List TV}{xs:List It}{r:TV}{xs':List It}{ro:List (Nat×It)}(h:∀E us,aP E args us→∃args',aP E args' us∧Contract P f args' xs r xs' ro):Contract P f args xs r xs' ro:=
 fun E us hH ha=>by obtain⟨args',h1,c⟩:=h E us ha;exact c E us hH h1
@[simp]theorem afC(t:S)(ν:List Pl):∀ds:List D,TV.qQ t ν (ds.map .d)=some (ds.map .d)
 | []=>rfl
 | d::ds=>by simp[TV.qQ,TV.pass,afC t ν ds]
@[simp]theorem adr(t:S):∀ds:List D,TV.sQ t (ds.map .d)=True
 | []=>by simp[TV.sQ]
 | d::ds=>by simp[TV.sQ,TV.D_,adr t ds]
@[simp]theorem afT:∀ds:List D,TV.tX (ds.map .d) = []
 | []=>rfl
 | d::ds=>by simp[TV.tX,TV.rows,afT ds]
@[simp]theorem XT(ν:List Pl)(b:Nat):∀ds:List D,TV.backs ν b (ds.map .d)=ds.map .d
 | []=>rfl
 | d::ds=>by simp[TV.backs,TV.back,XT ν b ds]
@[simp]theorem aj9(ν:List Pl)(b:Nat)(xs:List (List D)):(dd xs).map (TV.backs ν b)=dd xs:=by
 simp only[dd,List.map_map];exact List.map_congr_left fun ds _=>XT ν b ds
section
variable {α:Type} (f:α→D)
end
theorem acZ{w:World}{g:Nat}{zs:List Int}{cur:Array Value}{e:TypeId}(h1:w.heap[g]? = some (.cells cur e (0,0)))(h2:cur.toList.take zs.length=zs.map (.int .i64)):Holds (Value.int .i64) w g 0 zs.toArray:=fun j hj=>by
 have hj':j<zs.length:=by simpa using hj
 have h3:cur[j]? = some (.int .i64 zs[j]):=by
  have:(cur.toList.take zs.length)[j]? = some (.int .i64 zs[j]):=by rw[h2];simp[hj']
  rw[List.getElem?_take,if_pos hj']at this
  simpa using this
 constructor
 ·simp[World.cell?,h1,h3,hj']
 ·simp[World.frozen?,h1]
theorem ahz{w:World}{g:Nat}{ys zs:List Int}{cur:Array Value}{e:TypeId}(n:Nat)(os:Array Obj)(h1:w.heap[g]? = some (.cells cur e (0,0)))(hl:ys.length=zs.length)(hc:zs.length≤cur.size):
  w.grownBy (grow (putRow (Value.int .i64) (Sort.ahead w n) g 0 ys.toArray) os) (some g)∧
   ∃cur',(grow (putRow (Value.int .i64) (Sort.ahead w n) g 0 ys.toArray) os).heap[g]? = some (.cells cur' e (0,0))∧cur'.size=cur.size∧cur'.toList.take zs.length=ys.map (.int .i64):=by
 have hg:g<w.heap.size:=(Array.getElem?_eq_some_iff.1 h1).1;have hsz:(putRow (Value.int .i64) (Sort.ahead w n) g 0 ys.toArray).heap.size=w.heap.size:=by simp[Sort.ahead]
 refine⟨⟨rfl,rfl,rfl,by rw[size_grow,hsz];omega,fun k hk hne=>?_⟩,putCells (Value.int .i64) 0 ys.toArray cur,?_,by simp[putCells],?_⟩
 ·rw[heap_grow_old _ _ (by rw[hsz];exact hk)];have :¬g=k:=fun e=>hne (by rw[e])
  simp[putRow,mapBlock,Sort.ahead,Array.getElem?_modify,this]
 ·rw[heap_grow_old _ _ (by rw[hsz];exact hg)];simp[putRow,mapBlock,Sort.ahead,Array.getElem?_modify,h1,onCells]
 ·apply List.ext_getElem?;intro i;rw[List.getElem?_take];by_cases hi:i<zs.length
  ·rw[if_pos hi];have hi2:i<ys.length:=by omega
   have hi3:i<cur.size:=by omega
   simp[putCells,hi2,hi3]
  ·rw[if_neg hi,List.getElem?_eq_none (by simp;omega)]
theorem ahY.sort{P:Program}{ρ:Ren}(Ly:SlLaysM.n5 P ρ):ahY P (ρ.f 5) .i64 (fun zs=>zs.mergeSort fun x y=>decide (x≤y)) Option.none:=by
 refine⟨fun zs=>List.length_mergeSort _,fun m' h=>by simp at h,fun w g cap zs cur e h1 h2 h3 h4 h5 h6 h7=>?_,fun p cap w=>?_⟩
 ·refine(AnyM.slices_Sort_int Ly g 0 cap zs w (acZ h1 h5) (Array.getElem?_eq_some_iff.1 h1).1 h7).mono fun e' w' ⟨he,n,os,hw⟩=>?_
  subst hw;obtain⟨k1,cur',k2,k3,k4⟩:=ahz (zs:=zs) (ys:=zs.mergeSort fun x y=>decide (x≤y)) n os h1 (List.length_mergeSort _) (by omega);exact⟨he,k1,cur',k2,by omega,k4⟩
 ·exact(AnyM.slices_Sort_int_none Ly p cap w).mono fun e' w' ⟨he,hw⟩=>⟨⟨Option.none,0,he⟩,hw⟩
end Go.Tr

namespace Go.Tr
open Go Go.Proofs Go.Shelf
structure ahX(P:Program)(f:FuncId)(e:TypeId)(k N:Nat):Prop where
 run:∀(w:World) (n:Nat),n≤N→Calls P f #[.slice none 0 0,.int .i64 n] w fun e' w'=>∃v,e' = .returned v∧w.grownBy w' none∧w'.ownsRow w.heap.size e k v 0 []
section
variable {P:Program} {A:eX} {ops:Array Oper}
theorem Sum.grow{t:S}{i d:Nat}{o:Oper}{gp:List Pl}{fo x y:Operand}{tys:Array TypeId}{f:FuncId}{e:TypeId}{k N:Nat}{n:Int}
  (ho:ops[i]? = some o) (hg:gv ops t o=some (gp,true)) (hd:pz A.N o=true) (hop:o.op = .call {callee:=.value fo,args:=#[x,y],argTypes:=tys}) (hf:ev t fo = .clo f []) (hfn:aZ P f=true)
  (C:ahX P f e k N) (hx:ev t x = .c (.slice none 0 0)) (hy:ev t y = .d (.int .i64 n)) (hn:0≤n) (hN:n≤N) (ht:t (.o d) = .none) :
  Sum P A ops i t (gp++(pl fo++(pl x++(pl y++[.o d])))) (xA o (.aB d 0) [(.o d,.row e k [] false)]):=fun t' hr a w ⟨E,hw,hi⟩ K Q hK=>by
 subst hw;have hwant:=mD hg (aW hr) hi;have hr1:=aI hr;have hr2:=aI hr1;have hr3:=aI hr2;have hfo:ev t' fo = .clo f []:=(dB (aW hr1)).trans hf;have hx':ev t' x = .c (.slice none 0 0):=(dB (aW hr2)).trans hx;have hy':ev t' y = .d (.int .i64 n):=(dB (aW hr3)).trans hy;have ht':t' (.o d) = .none:=(aI hr3 _ (by simp)).trans ht
 have hfr:=bM hi fo;rw[hfo]at hfr
 simp only[aA,aP]at hfr;obtain⟨sZ,Gu,yT⟩:=hfr;obtain rfl:sZ = #[]:=by cases sZ;simpa using yT
 have hxr:=bM hi x;rw[hx']at hxr
 simp only[aA]at hxr;have lW:=bM hi y;rw[hy']at lW
 simp only[aA,Rep]at lW;obtain⟨m,rfl⟩:∃m:Nat,n=m:=⟨n.toNat,by omega⟩
 unfold wpOp;simp only[ho,hwant,if_true];refine .inl ?_;unfold Oper.wp;have hrun:(execOp a.eval o).run P E.w = .ok (.enter f #[.slice none 0 0,.int .i64 m]) E.w:=by
  simp only[execOp,hop,resolve,Gu,Deferred.ofValue,invoke,Sem.run_bind,Sem.run_pure,Result.andThen_ok,List.map_toArray,Array.empty_append,jv hfn,hxr,lW,Array.map,Array.append_empty];simp[hxr,lW,jv hfn]
 rw[hrun];simp only[Oper.upon];refine(C.run E.w m (by omega)).mono fun e' w' ⟨v,he,hgr,hown⟩=>?_
 subst he;obtain⟨E',hw',x',hi',hval⟩:=hi.Nc ht' (es:=[]) (v:=v) (us:=[]) (e:=e) (k:=k) (w':=w') hgr hown (fun E' _ _=>trivial);refine hK _ _ ⟨E',hw',?_⟩;refine dL.dst (W:=[(.o d,.row e k [] false)]) hi' hd ?_;simp only[aA];have h1:v.oneCell'=true:=by rcases hown.2 with⟨rfl,_⟩|⟨g,cap,cur,rfl,_⟩<;>rfl
 exact⟨h1,k,0,v,hval,Nat.le_refl _,fun _=>rfl⟩
def ah3(P:Program)(N0:Nat)(t:S)(o:Oper)(f:FuncId)(e:TypeId)(k N:Nat)(gp:List Pl)(g:Bool)(fo x y:Operand):Option (Prop×List Pl×List (Pl×It)):=
 match ev t fo with
 | .clo f' caps=>match ev t x with
   | .c v=>match ev t y with
     | .d (.int .i64 n)=>match o.dst with
       | some d=>some (g=true∧pz N0 o=true∧f'=f∧caps = []∧aZ P f=true∧v = .slice none 0 0∧0≤n∧n≤N∧t (.o d) = .none,gp++(pl fo++(pl x++(pl y++[.o d]))),xA o (.aB d 0) [(.o d,.row e k [] false)])
       | none=>none
     | _=>none
   | _=>none
 | _=>none
def ah2(P:Program)(N0:Nat)(t:S)(ops:Array Oper)(f:FuncId)(e:TypeId)(k N:Nat):Option Oper→Option (Prop×List Pl×List (Pl×It))
 | some o=>match gv ops t o with
   | some (gp,g)=>match o.op with
     | .call {callee:=.value fo,args:=xs,argTypes:=_}=>match xs.toList with
       | [x,y]=>ah3 P N0 t o f e k N gp g fo x y
       | _=>none
     | _=>none
   | none=>none
 | none=>none
theorem ah.grow{i:Nat}{t:S}{k:List Pl→List (Pl×It)→Prop}{g:Tg k}{f:FuncId}{e:TypeId}{z N:Nat}(C:ahX P f e z N)
  (h:Us k g (ah2 P A.N t ops f e z N ops[i]?)):ah P A ops i t k g:=by
 unfold Us at h;split at h
 ·rename_i D rp W hc;obtain⟨h1,h2⟩:=h;refine⟨rp,W,?_,h2⟩;unfold ah2 at hc;split at hc
  ·rename_i o ho;split at hc
   ·rename_i gp g0 hg;split at hc
    ·rename_i fo xs tys hop;split at hc
     ·rename_i x y hxs;obtain rfl:xs = #[x,y]:=by cases xs;simpa using hxs
      unfold ah3 at hc;split at hc
      ·rename_i f' caps hf;split at hc
       ·rename_i v hx;split at hc
        ·rename_i n hy;split at hc
         ·rename_i d hod;simp only[Option.some.injEq,Prod.mk.injEq]at hc;obtain⟨rfl,rfl,rfl⟩:=hc;obtain⟨rfl,q1,rfl,rfl,q2,rfl,q3,q4,q5⟩:=h1;exact Sum.grow ho hg q1 hop hf q2 C hx hy q3 q4 q5
         ·simp at hc
        ·simp at hc
       ·simp at hc
      ·simp at hc
     ·simp at hc
    ·simp at hc
   ·simp at hc
  ·simp at hc
 ·exact h.elim
end
end Go.Tr

namespace Go.Tr
open Go Go.Proofs
structure abr(P:Program)(fK fS g:FuncId)(e:TypeId):Prop where
 keys:∀(b:Nat) (w:World),Calls P fK #[.map (some b)] w fun e' w'=>∃ty,e' = .returned (.func (.func g) #[] #[.pointer (some ⟨w.heap.size,0,none⟩)])∧w'=w.alloc (.cells #[.map (some b)] ty)
 sorted:∀(Bm b:Nat) (l:Array MapEntry) (clock:Nat) (ks:List Int) (w:World),Bm<w.heap.size→w.cell? ⟨Bm,0,none⟩ = some (.map (some b))→w.heap[b]? = some (.map l clock)→MapKept.Stamped l clock→
  l.toList.map (·.key)=ks.map (Value.int .i64)→(∀k∈ks,(Lit.int .i64 k).wf=true)→ks.length≤1000000→
  Calls P fS #[.func (.func g) #[] #[.pointer (some ⟨Bm,0,none⟩)]] w fun e' w'=>∃v,e' = .returned v∧w'.ownsRow w.heap.size e 1 v ks.length ((ks.mergeSort fun x y=>decide (x≤y)).map (Value.int .i64))∧RowKit.Below w.heap.size w w'
theorem PI{E:En}:∀{es:List (Int×D)} {l:List MapEntry},pV E es l→l.map (·.key)=(es.map (·.1)).map (Value.int .i64)
 | [],l,h=>by simp only[pV]at h;subst h;rfl
 | (k,d)::es,l,h=>by
   simp only[pV]at h;obtain⟨a,l',rfl,h1,_,_,h4⟩:=h;simp[h1,PI h4]
def MV(es:List (Int×D)):List Int:=(es.map (·.1)).mergeSort fun x y=>decide (x≤y)
theorem adk(es:List (Int×D)):(MV es).length=es.length:=by simp[MV,List.length_mergeSort]
section
variable {P:Program} {A:eX} {ops:Array Oper}
theorem Sum.keys{t:S}{i d:Nat}{o:Oper}{gp:List Pl}{fo x:Operand}{tys:Array TypeId}{f fS g:FuncId}{e:TypeId}{id:Nat}
  (ho:ops[i]? = some o) (hg:gv ops t o=some (gp,true)) (hd:pz A.N o=true) (hop:o.op = .call {callee:=.value fo,args:=#[x],argTypes:=tys}) (hf:ev t fo = .clo f []) (hfn:aZ P f=true)
  (C:abr P f fS g e) (hx:ev t x = .mref id) (ht:t (.o d) = .none) :
  Sum P A ops i t (gp++(pl fo++(pl x++[.o d]))) (xA o (.clo g [.ptr (.o d) 0]) [(.o d,.box [.mref id])]):=fun t' hr a w ⟨E,hw,hi⟩ K Q hK=>by
 subst hw;have hwant:=mD hg (aW hr) hi;have hr1:=aI hr;have hr2:=aI hr1;have hfo:ev t' fo = .clo f []:=(dB (aW hr1)).trans hf;have hx':ev t' x = .mref id:=(dB (aW hr2)).trans hx;have ht':t' (.o d) = .none:=(aI hr2 _ (by simp)).trans ht;have hfr:=bM hi fo;rw[hfo]at hfr
 simp only[aA,aP]at hfr;obtain⟨sZ,Gu,yT⟩:=hfr;obtain rfl:sZ = #[]:=by cases sZ;simpa using yT
 have hxr:=bM hi x;rw[hx']at hxr
 have ao7:=hxr;simp only[aA]at hxr;obtain⟨b,hb,hu⟩:=hxr;unfold wpOp;simp only[ho,hwant,if_true];refine .inl ?_;unfold Oper.wp;have hrun:(execOp a.eval o).run P E.w = .ok (.enter f #[.map (some b)]) E.w:=by
  simp only[execOp,hop,resolve,Gu,Deferred.ofValue,invoke,Sem.run_bind,Sem.run_pure,Result.andThen_ok,List.map_toArray,Array.empty_append,jv hfn,hu,Array.map,Array.append_empty];simp[hu,jv hfn]
 rw[hrun];simp only[Oper.upon];refine(C.keys b E.w).mono fun e' w' ⟨ty,he,hw'⟩=>?_
 subst he hw';obtain⟨E',hw2,hinv,hrel⟩:=hi.aaK ht' (us:=#[.map (some b)]) (cs:=[.mref id]) rfl ⟨⟨_,rfl,rfl,by rw[←hu];exact ao7⟩,trivial⟩ ty;refine hK _ _ ⟨E',hw2,?_⟩;refine dL.dst (W:=[(.o d,.box [.mref id])]) hinv hd ?_;simp only[aA,aP]at hrel⊢;exact⟨_,rfl,_,_,rfl,hrel,rfl⟩
theorem Sum.sorted{t:S}{i d:Nat}{o:Oper}{gp:List Pl}{fo x:Operand}{tys:Array TypeId}{f fK g:FuncId}{e:TypeId}{id:Nat}{p:Pl}{es:List (Int×D)}
  (ho:ops[i]? = some o) (hg:gv ops t o=some (gp,true)) (hd:pz A.N o=true) (hop:o.op = .call {callee:=.value fo,args:=#[x],argTypes:=tys}) (hf:ev t fo = .clo f []) (hfn:aZ P f=true)
  (C:abr P fK f g e) (hx:ev t x = .clo g [.ptr p 0]) (hpl:qw p=true) (hp:t p = .box [.mref id]) (hm:t (.o id) = .mp es) (hk:∀x∈es,I64 x.1) (hl:es.length≤1000000) (ht:t (.o d) = .none) :
  Sum P A ops i t (gp++(pl fo++(pl x++[p,.o id,.o d]))) (xA o (.aB d es.length) [(.o d,.row e 1 (dd (dJ .i64 (MV es))) false)]):=fun t' hr a w ⟨E,hw,hi⟩ K Q hK=>by
 subst hw;have hwant:=mD hg (aW hr) hi;have hr1:=aI hr;have hr2:=aI hr1;have hr3:=aI hr2;have hfo:ev t' fo = .clo f []:=(dB (aW hr1)).trans hf;have hx':ev t' x = .clo g [.ptr p 0]:=(dB (aW hr2)).trans hx;have hp':t' p = .box [.mref id]:=(hr3 _ (by simp)).trans hp;have hm':t' (.o id) = .mp es:=(hr3 _ (by simp)).trans hm
 have ht':t' (.o d) = .none:=(hr3 _ (by simp)).trans ht;have hfr:=bM hi fo;rw[hfo]at hfr
 simp only[aA,aP]at hfr;obtain⟨sZ,Gu,yT⟩:=hfr;obtain rfl:sZ = #[]:=by cases sZ;simpa using yT
 have hxr:=bM hi x;rw[hx']at hxr
 simp only[aA,aP]at hxr;obtain⟨us,hu,u0,us',hus,⟨b0,hb0,hu0⟩,aar⟩:=hxr;subst aar hu0;obtain rfl:us = #[.pointer (some ⟨b0,0,none⟩)]:=by cases us;simpa using hus
 have hbox:=hi.h.item p (fun k e=>by subst e;simp[qw]at hpl);rw[hp']at hbox
 obtain⟨_,b1,ty,cs,hb1,hh1,hsz,hc1⟩:=hbox;rw[hb0]at hb1
 simp only[Option.some.injEq]at hb1;subst hb1;obtain⟨⟨u1,hg1,_,hr1'⟩,_⟩:=hc1;simp only[aA]at hr1';obtain⟨b2,hb2,hu1⟩:=hr1';subst hu1;obtain⟨_,b3,l,clock,hb3,hh3,hrel,hst⟩:=Qs hi hm';rw[hb2]at hb3
 simp only[Option.some.injEq]at hb3;subst hb3;have hcell:E.w.cell? ⟨b0,0,none⟩ = some (.map (some b2)):=by
  rw[BJ hh1];simpa using hg1
 have hlt:b0<E.w.heap.size:=(Array.getElem?_eq_some_iff.1 hh1).1;unfold wpOp;simp only[ho,hwant,if_true];refine .inl ?_;unfold Oper.wp;have hrun:(execOp a.eval o).run P E.w = .ok (.enter f #[.func (.func g) #[] #[.pointer (some ⟨b0,0,none⟩)]]) E.w:=by
  simp only[execOp,hop,resolve,Gu,Deferred.ofValue,invoke,Sem.run_bind,Sem.run_pure,Result.andThen_ok,List.map_toArray,Array.empty_append,jv hfn,hu,Array.map,Array.append_empty];simp[hu,jv hfn]
 rw[hrun];simp only[Oper.upon];have hwf:∀k∈es.map (·.1),(Lit.int .i64 k).wf=true:=fun k hk'=>by
  obtain⟨x,hx,rfl⟩:=List.mem_map.1 hk';have:=hk x hx;simp only[Lit.wf,Bool.and_eq_true,decide_eq_true_eq];have m1:IntKind.i64.min = -9223372036854775808:=by decide
  have m2:IntKind.i64.max=9223372036854775807:=by decide
  exact⟨by have:=this.1;omega,by have:=this.2;omega⟩
 refine(C.sorted b0 b2 l clock (es.map (·.1)) E.w hlt hcell hh3 hst (PI hrel) hwf (by simpa using hl)).mono fun e' w' ⟨v,he,hown,hbel⟩=>?_
 subst he;have hgr:E.w.grownBy w' none:=⟨hbel.os,hbel.tape,hbel.output,hbel.size,fun k hk _=>hbel.block k hk⟩
 have hkl:(dd (dJ .i64 (MV es))).length=es.length:=by rw[agK,adk]
 obtain⟨E',hw2,x',hinv,hval⟩:=hi.Nc ht' (es:=dd (dJ .i64 (MV es))) (v:=v) (us:=(MV es).map (Value.int .i64)) (e:=e) (k:=1) (w':=w') hgr
  (by rw[hkl];simpa[MV]using hown) (fun E' _ _=>PW (by simp))
 refine hK _ _ ⟨E',hw2,?_⟩;refine dL.dst (W:=[(.o d,.row e 1 (dd (dJ .i64 (MV es))) false)]) hinv hd ?_;simp only[aA];have h1:v.oneCell'=true:=by rcases hown.2 with⟨rfl,_⟩|⟨g,cap,cur,rfl,_⟩<;>rfl
 rw[hkl]at hval
 exact⟨h1,1,es.length,v,hval,Nat.le_refl _,fun _=>rfl⟩
def ah9(P:Program)(N0:Nat)(t:S)(o:Oper)(f g:FuncId)(gp:List Pl)(gd:Bool)(fo x:Operand):Option (Prop×List Pl×List (Pl×It)):=
 match ev t fo with
 | .clo f' caps=>match ev t x with
   | .mref id=>match o.dst with
     | some d=>some (gd=true∧pz N0 o=true∧f'=f∧caps = []∧aZ P f=true∧t (.o d) = .none,gp++(pl fo++(pl x++[.o d])),xA o (.clo g [.ptr (.o d) 0]) [(.o d,.box [.mref id])])
     | none=>none
   | _=>none
 | _=>none
def aij(P:Program)(N0:Nat)(t:S)(o:Oper)(f g:FuncId)(e:TypeId)(gp:List Pl)(gd:Bool)(fo x:Operand):Option (Prop×List Pl×List (Pl×It)):=
 match ev t fo with
 | .clo f' caps=>match ev t x with
   | .clo g' [.ptr p 0]=>match t p with
     | .box [.mref id]=>match t (.o id)with
       | .mp es=>match o.dst with
         | some d=>some (gd=true∧pz N0 o=true∧f'=f∧caps = []∧aZ P f=true∧g'=g∧qw p=true∧(∀x∈es,I64 x.1)∧es.length≤1000000∧t (.o d) = .none,
           gp++(pl fo++(pl x++[p,.o id,.o d])),xA o (.aB d es.length) [(.o d,.row e 1 (dd (dJ .i64 (MV es))) false)])
         | none=>none
       | _=>none
     | _=>none
   | _=>none
 | _=>none
def ahr(t:S)(ops:Array Oper)(F:Oper→List Pl→Bool→Operand→Operand→Option (Prop×List Pl×List (Pl×It))):Option Oper→Option (Prop×List Pl×List (Pl×It))
 | some o=>match gv ops t o with
   | some (gp,g)=>match o.op with
     | .call {callee:=.value fo,args:=xs,argTypes:=_}=>match xs.toList with
       | [x]=>F o gp g fo x
       | _=>none
     | _=>none
   | none=>none
 | none=>none
theorem ah.one{i:Nat}{t:S}{k:List Pl→List (Pl×It)→Prop}{g:Tg k}{F:Oper→List Pl→Bool→Operand→Operand→Option (Prop×List Pl×List (Pl×It))}
  (hF:∀o gp gd fo x tys D rp W,ops[i]? = some o→gv ops t o=some (gp,gd)→o.op = .call {callee:=.value fo,args:=#[x],argTypes:=tys}→F o gp gd fo x=some (D,rp,W)→D→Sum P A ops i t rp W)
  (h:Us k g (ahr t ops F ops[i]?)):ah P A ops i t k g:=by
 unfold Us at h;split at h
 ·rename_i D rp W hc;obtain⟨h1,h2⟩:=h;refine⟨rp,W,?_,h2⟩;unfold ahr at hc;split at hc
  ·rename_i o ho;split at hc
   ·rename_i gp g0 hg;split at hc
    ·rename_i fo xs tys hop;split at hc
     ·rename_i x hxs;obtain rfl:xs = #[x]:=by cases xs;simpa using hxs
      exact hF o gp g0 fo x tys D rp W ho hg hop hc h1
     ·simp at hc
    ·simp at hc
   ·simp at hc
  ·simp at hc
 ·exact h.elim
theorem ah.keys{i:Nat}{t:S}{k:List Pl→List (Pl×It)→Prop}{gt:Tg k}{f fS g:FuncId}{e:TypeId}(C:abr P f fS g e)
  (h:Us k gt (ahr t ops (fun o gp gd fo x=>ah9 P A.N t o f g gp gd fo x) ops[i]?)):ah P A ops i t k gt:=
 ah.one (fun o gp gd fo x tys D rp W ho hg hop hc h1=>by
  unfold ah9 at hc;split at hc
  ·rename_i f' caps hf;split at hc
   ·rename_i id hx;split at hc
    ·rename_i d hod;simp only[Option.some.injEq,Prod.mk.injEq]at hc;obtain⟨rfl,rfl,rfl⟩:=hc;obtain⟨rfl,q1,rfl,rfl,q2,q3⟩:=h1;exact Sum.keys ho hg q1 hop hf q2 C hx q3
    ·simp at hc
   ·simp at hc
  ·simp at hc) h
theorem ah.sorted{i:Nat}{t:S}{k:List Pl→List (Pl×It)→Prop}{gt:Tg k}{f fK g:FuncId}{e:TypeId}(C:abr P fK f g e)
  (h:Us k gt (ahr t ops (fun o gp gd fo x=>aij P A.N t o f g e gp gd fo x) ops[i]?)):ah P A ops i t k gt:=
 ah.one (fun o gp gd fo x tys D rp W ho hg hop hc h1=>by
  unfold aij at hc;split at hc
  ·rename_i f' caps hf;split at hc
   ·rename_i g' p hx;split at hc
    ·rename_i id hp;split at hc
     ·rename_i es hm;split at hc
      ·rename_i d hod;simp only[Option.some.injEq,Prod.mk.injEq]at hc;obtain⟨rfl,rfl,rfl⟩:=hc;obtain⟨rfl,q1,rfl,rfl,q2,rfl,q3,q4,q5,q6⟩:=h1;exact Sum.sorted ho hg q1 hop hf q2 C hx q3 hp hm q4 q5 q6
      ·simp at hc
     ·simp at hc
    ·simp at hc
   ·simp at hc
  ·simp at hc) h
end
end Go.Tr

set_option linter.unusedVariables false
namespace Go.Tr
open Go
def jT(P:Program)(f:FuncId)(args:List TV)(xs:List It)(ri:List (Nat×It))(r:TV)(xs':List It)(ro:List (Nat×It)):Prop:=
 ∀(E:En) (us:List Value),jQ E (h_ xs ri)→aP E args us→Calls P f us.toArray E.w fun e w'=>∃u E',e = .returned u∧E'.w=w'∧Post E xs' ro r u E'
def Xx:List (Nat×Nat)→Nat→Option Nat
 | [],_=>none
 | (j,k)::l,id=>if id=k then some j else Xx l id
def pO:List (Nat×Nat)→Nat→Option Nat
 | [],_=>none
 | (j,k)::l,id=>if id=j then some k else pO l id
theorem FC{j k:Nat}:∀{rs:List (Nat×Nat)},pO rs j=some k→(j,k)∈rs
 | [],h=>by simp[pO]at h
 | (a,b)::l,h=>by
   simp only[pO]at h;split at h
   ·simp only[Option.some.injEq]at h;subst h;rename_i e;subst e;simp
   ·exact List.mem_cons_of_mem _ (FC h)
theorem GY{j k:Nat}:∀{rs:List (Nat×Nat)},(rs.map (·.1)).Nodup→(j,k)∈rs→pO rs j=some k
 | [],_,h=>by simp at h
 | (a,b)::l,hn,h=>by
   simp only[List.map_cons,List.nodup_cons]at hn;simp only[pO];rcases List.mem_cons.1 h with h|h
   ·simp only[Prod.mk.injEq]at h;obtain⟨rfl,rfl⟩:=h;simp
   ·have:j≠a:=fun e=>hn.1 (List.mem_map.2 ⟨(j,k),h,e⟩)
    rw[if_neg this];exact GY hn.2 h
theorem Dp{j k:Nat}:∀{rs:List (Nat×Nat)},Xx rs k=some j→(j,k)∈rs
 | [],h=>by simp[Xx]at h
 | (a,b)::l,h=>by
   simp only[Xx]at h;split at h
   ·simp only[Option.some.injEq]at h;subst h;rename_i e;subst e;simp
   ·exact List.mem_cons_of_mem _ (Dp h)
theorem JI{j j' k:Nat}:∀{rs:List (Nat×Nat)},(rs.map (·.2)).Nodup→(j,k)∈rs→(j',k)∈rs→j=j'
 | [],_,h,_=>by simp at h
 | (a,b)::l,hn,h,g=>by
   simp only[List.map_cons,List.nodup_cons]at hn;rcases List.mem_cons.1 h with h|h<;>rcases List.mem_cons.1 g with g|g
   ·simp only[Prod.mk.injEq]at h g;rw[h.1,g.1]
   ·simp only[Prod.mk.injEq]at h;exact absurd (List.mem_map.2 ⟨(j',k),g,h.2⟩) hn.1
   ·simp only[Prod.mk.injEq]at g;exact absurd (List.mem_map.2 ⟨(j,k),h,g.2⟩) hn.1
   ·exact JI hn.2 h g
mutual
def TV.iw(ν:List Pl)(rs:List (Nat×Nat)):TV→Option TV
 | .junk=>some .junk
 | .d x=>some (.d x)
 | .c v=>some (.c v)
 | .agg vs=>match TV.fB ν rs vs with|some vs=>some (.agg vs)|none=>none
 | .rG _=>none
 | .aB id n=>match Xx rs id with|some j=>some (.aB j n)|none=>none
 | .ptr p q=>match YE p ν 0 with|some i=>some (.ptr (.x i) q)|none=>none
 | .ep e q=>some (.ep e q)
 | .rQ _ _ _ _=>none
 | .mref _=>none
 | .sx _=>none
 | .NS _ _ _=>none
 | .clo f vs=>match TV.fB ν rs vs with|some vs=>some (.clo f vs)|none=>none
def TV.fB(ν:List Pl)(rs:List (Nat×Nat)):List TV→Option (List TV)
 | []=>some []
 | v::vs=>match TV.iw ν rs v,TV.fB ν rs vs with
   | some v,some vs=>some (v::vs)
   | _,_=>none
end
section
variable {P:Program} {A:eX}
def KR(ν:List Pl)(rs:List (Nat×Nat)):It→Option It
 | .box cs=>match TV.fB ν rs cs with|some cs=>some (.box cs)|none=>none
 | _=>none
def fD(t:S)(ν:List Pl)(rs:List (Nat×Nat)):List Pl→Option (List It)
 | []=>some []
 | p::l=>match KR ν rs (t p),fD t ν rs l with
   | some i,some is=>some (i::is)
   | _,_=>none
def iG(ν:List Pl)(rs:List (Nat×Nat)):List (List TV)→Option (List (List TV))
 | []=>some []
 | e::es=>match TV.fB ν rs e,iG ν rs es with
   | some e,some es=>some (e::es)
   | _,_=>none
def Ea(ν:List Pl)(rs:List (Nat×Nat)):It→Option It
 | .row e z es false=>match iG ν rs es with|some es=>some (.row e z es false)|none=>none
 | _=>none
def oM(t:S)(ν:List Pl)(rs:List (Nat×Nat)):List (Nat×Nat)→Option (List (Nat×It))
 | []=>some []
 | (j,k)::l=>match Ea ν rs (t (.o k)),oM t ν rs l with
   | some i,some r=>some ((j,i)::r)
   | _,_=>none
theorem Fr.YV{E0 E E':En}(f:Fr E0 E)(os:E'.w.os=E.w.os)(tape:E'.w.tape=E.w.tape)(output:E'.w.output=E.w.output)(size:E.w.heap.size≤E'.w.heap.size)
  (old:∀b,b<E0.w.heap.size→(∀i,E0.blk (.x i)≠some b)→(∀j,E0.own (.o j)≠some b)→E'.w.heap[b]? = E.w.heap[b]?) (xb:∀i,E'.blk (.x i)=E.blk (.x i))
  (new:∀id b,E'.own (.o id)=some b→(∃j,E.own (.o j)=some b)∨E.w.heap.size≤b) (st:∀b o,E.St b o→E'.St b o)
  (xg:∀b o,E'.St b o→E.St b o∨(E0.w.heap.size≤b∨∃j,E0.own (.o j)=some b)):Fr E0 E':=
 ⟨os.trans f.os,tape.trans f.tape,output.trans f.output,Nat.le_trans f.size size,fun b h1 h2 h3=>(old b h1 h2 h3).trans (f.old b h1 h2 h3),fun i=>(xb i).trans (f.xb i),
  fun id b h=>(new id b h).elim (fun⟨j,h⟩=>f.new j b h) (fun h=>.inl (Nat.le_trans f.size h)),fun b o h=>st b o (f.st b o h),fun b o h=>(xg b o h).elim (f.xg b o) .inr⟩
def wr:List (Nat×Nat)→List (Pl×It)
 | []=>[]
 | (_,k)::l=>(.o k,.v .junk)::wr l
theorem O9{t:S}{k:Nat}:∀{rs:List (Nat×Nat)},k∈rs.map (·.2)→over t (wr rs) (.o k) = .v .junk
 | [],h=>by simp at h
 | (a,b)::l,h=>by
   simp only[wr,over];by_cases e:k=b
   ·subst e;simp[upd]
   ·simp only[List.map_cons,List.mem_cons,e,false_or]at h;rw[upd,if_neg (by simpa using e)];exact O9 h
theorem FX{t:S}{p:Pl}:∀{rs:List (Nat×Nat)},(∀k∈rs.map (·.2),p≠.o k)→over t (wr rs) p=t p
 | [],_=>rfl
 | (a,b)::l,h=>by
   simp only[wr,over,upd,if_neg (h b (by simp))];exact FX fun k hk=>h k (by simp only[List.map_cons,List.mem_cons];exact .inr hk)
variable {ops:Array Oper}
def N_(P:Program)(N:Nat)(t:S)(o:Oper)(f:FuncId)(iR:List TV)(qK:List It)(ri:List (Nat×It))(r:TV)(dF:List It)(ro:List (Nat×It))(ν:List Pl)(rs:List (Nat×Nat))(b:Nat)(gp:List Pl)(g:Bool):Option (Prop×List Pl×List (Pl×It)):=
 match o.op with
 | .call {callee:=.value fo,args:=xs,argTypes:=_}=>
   match ev t fo with
   | .clo f' caps=>
     match fD t ν rs ν,TV.fB ν rs (xs.toList.map (ev t)++caps),oM t ν rs rs with
     | some c0,some a0,some r0=>
       some (g=true∧pz N o=true∧f'=f∧aZ P f=true∧ν.Nodup∧(∀p∈ν,qw p=true)∧a0=iR∧c0=qK∧(rs.map (·.1)).Nodup∧(rs.map (·.2)).Nodup∧r0=ri∧
        dF.length=ν.length∧(∀x∈dF,gU x=true)∧(∀x∈ro,isObj x.2=true)∧(∀x∈ro,t (.o (b+x.1)) = .none),
        gp++(pl fo++(xs.toList.flatMap pl++(ν++((rs.map fun x=>.o x.2)++ro.map fun x=>.o (b+x.1))))),
        xA o (r.back ν b) (wx ν b ν dF++(wo ν b ro++wr rs)))
     | _,_,_=>none
   | _=>none
 | _=>none
def F8(P:Program)(N:Nat)(t:S)(ops:Array Oper)(f:FuncId)(iR:List TV)(qK:List It)(ri:List (Nat×It))(r:TV)(dF:List It)(ro:List (Nat×It))(ν:List Pl)(rs:List (Nat×Nat))(b:Nat):Option Oper→Option (Prop×List Pl×List (Pl×It))
 | some o=>match gv ops t o with
   | some (gp,g)=>N_ P N t o f iR qK ri r dF ro ν rs b gp g
   | none=>none
 | none=>none
theorem t_{f:FuncId}{fn:Func}{c:Code}{args:List TV}{xs:List It}{ri:List (Nat×It)}{r:TV}{xs':List It}{ro:List (Nat×It)}(hf:P.funcs[f]? = some fn)(hb:fn.body=some c)
  (h:∀E0,AW P ⟨E0,fn.ntmps⟩ c (fin P ⟨E0,fn.ntmps⟩ fn r xs' ro) (look (UN args 0++(xL xs 0++oL ri)))):jT P f args xs ri r xs' ro:=fun E us hH hargs=>by
 refine calls_of_wp hf hb (Code.wp_mono (fun e a w hq=>?_) (h E {tmps:=us.toArray++Array.replicate (fn.ntmps-us.toArray.size) undef,defers:=[]} E.w ⟨E,rfl,⟨?_,?_,?_,rfl,?_⟩⟩))
 ·obtain⟨t,hi,hq⟩:=hq;have key:Fin P ⟨E,fn.ntmps⟩ fn r xs' ro t→a.defers = []∧∃v,(results fn a.tmps).run P w = .ok v w∧∃u E',Ending.returned v = .returned u∧E'.w=w∧Post E xs' ro r u E':=fun hF=>by
   obtain⟨u,E',h1,h2,h3⟩:=hF a w hi;obtain⟨E1,_,hi1⟩:=hi;exact⟨hi1.defers,u,h1,u,E',rfl,h2,h3⟩
  cases e<;>first
   | exact hq.elim
   | exact key hq
 ·refine hH.congr fun p hp=>?_
  rw[Rn hp];cases p with
  | s k=>exact absurd rfl (hp k)
  | x i=>
    rw[ahV];simp only[h_,Nat.zero_le,true_and,Nat.zero_add,Nat.sub_zero];split
    ·rfl
    ·rename_i h;rw[S_ (fun k e=>by simp at e),List.getD,List.getElem?_eq_none (by omega)];rfl
  | o k=>rw[Jl (fun j e=>by simp at e),ai7];rfl
 ·exact⟨rfl,rfl,rfl,Nat.le_refl _,fun _ _ _ _=>rfl,fun _=>rfl,fun id b hb=>.inr ⟨id,hb⟩,fun _ _ h=>h,fun _ _ h=>.inl h⟩
 ·intro k tv hk;rw[Z4]at hk
  simp only[Nat.zero_le,true_and,Nat.zero_add,Nat.sub_zero]at hk;have hx:look (xL xs 0++oL ri) (.s k) = .none:=by
   rw[Jl (fun j e=>by simp at e),S_ (fun j e=>by simp at e)]
  split at hk
  ·rename_i hlt;have hak:args[k]? = some args[k]:=List.getElem?_eq_getElem hlt;rw[hak]at hk
   simp only[It.v.injEq]at hk;subst hk;obtain⟨u,h1,h2⟩:=hargs.get hak;refine⟨u,?_,h2⟩;have hl:k<us.length:=by rw[hargs.length];exact hlt
   rw[Array.getElem?_append_left (by simpa using hl)];simpa using h1
  ·rw[hx]at hk;simp at hk
 ·simp;omega
theorem TA(ν:List Pl)(rs:List (Nat×Nat)):∀l:List D,TV.fB ν rs (l.map .d)=some (l.map .d)
 | []=>rfl
 | x::l=>by simp[TV.fB,TV.iw,TA ν rs l]
theorem VK(ν:List Pl)(rs:List (Nat×Nat)):∀l:List (List D),iG ν rs (dd l)=some (dd l)
 | []=>rfl
 | x::l=>by
   have:=VK ν rs l;simp only[dd]at this;simp only[dd,List.map_cons,iG,TA,this]
theorem TF(ν:List Pl)(rs:List (Nat×Nat)):∀a b:List (List TV),iG ν rs (a++b)=match iG ν rs a,iG ν rs b with
  | some x,some y=>some (x++y)
  | _,_=>none
 | [],b=>by cases h:iG ν rs b<;>simp[iG,h]
 | e::a,b=>by
   simp only[List.cons_append,iG,TF ν rs a b];cases TV.fB ν rs e<;>cases iG ν rs a<;>cases iG ν rs b<;>rfl
theorem TI(ν:List Pl)(rs:List (Nat×Nat))(cs:List TV):KR ν rs (.box cs)=match TV.fB ν rs cs with|some cs=>some (.box cs)|none=>none:=rfl
attribute [simp] F8 N_ TV.iw TV.fB fD TI Xx pO oM wr Ea iG VK TF
end
end Go.Tr
