/-
  What functions of the program compute, stated as contracts over plain data; the conditions of each stand in its own statement.
-/
import Derived.Test.YtboimfkommpglaaGreatDoorZA11
import Derived.Shelf.Spec.SlicesGrow
import Derived.Below
set_option linter.unusedSimpArgs false
namespace Go.Tr
open Go Go.Proofs Go.Shelf
structure ahX(P:Program)(f:FuncId)(e:TypeId)(k N:Nat):Prop where
 run:∀(w:World) (n:Nat),n≤N→Calls P f #[.slice none 0 0,.int .i64 n] w fun e' w'=>∃v,e' = .returned v∧w.grownBy w' none∧w'.ownsRow w.heap.size e k v 0 []
section
variable {P:Program} {A:eX} {ops:Array Oper}
theorem Sum.grow{t:S}{i d:Nat}{o:Oper}{gp:List Pl}{fo x y:Operand}{tys:Array TypeId}{f:FuncId}{e:TypeId}{k N:Nat}{n:Int}
  (ho:ops[i]? = some o) (hg:gv ops t o=some (gp,true)) (hd:pz A.N o=true) (hop:o.op = .call {callee:=.value fo,args:=#[x,y],argTypes:=tys}) (hf:ev t fo = .clo f []) (hfn:aZ P f=true)
  (C:ahX P f e k N) (hx:ev t x = .c (.slice none 0 0)) (hy:ev t y = .d (.int .i64 n)) (hn:0≤n) (hN:n≤N) (ht:t (.o d) = .none) :
  Sum P A ops i t (gp++(pl fo++(pl x++(pl y++[.o d])))) (xA o (.aB d 0) [(.o d,.row e k [] false)]):=fun t' hr a w ⟨E,hw,hi⟩ K Q hK=>by
 subst hw;have hwant:=mD hg (aW hr) hi;have hr1:=aI hr;have hr2:=aI hr1;have hr3:=aI hr2;have hfo:ev t' fo = .clo f []:=(dB (aW hr1)).trans hf;have hx':ev t' x = .c (.slice none 0 0):=(dB (aW hr2)).trans hx;have hy':ev t' y = .d (.int .i64 n):=(dB (aW hr3)).trans hy;have ht':t' (.o d) = .none:=(aI hr3 _ (by simp)).trans ht
 have hfr:=bM hi fo;rw[hfo]at hfr
 simp only[aA,aP]at hfr;obtain⟨sZ,Gu,yT⟩:=hfr;obtain rfl:sZ = #[]:=by cases sZ;simpa using yT
 have hxr:=bM hi x;rw[hx']at hxr
 simp only[aA]at hxr;have hyr:=bM hi y;rw[hy']at hyr
 simp only[aA,Rep]at hyr;obtain⟨m,rfl⟩:∃m:Nat,n=m:=⟨n.toNat,by omega⟩
 unfold wpOp;simp only[ho,hwant,if_true];refine .inl ?_;unfold Oper.wp;have hrun:(execOp a.eval o).run P E.w = .ok (.enter f #[.slice none 0 0,.int .i64 m]) E.w:=by
  simp only[execOp,hop,resolve,Gu,Deferred.ofValue,invoke,Sem.run_bind,Sem.run_pure,Result.andThen_ok,List.map_toArray,Array.empty_append,jv hfn,hxr,hyr,Array.map,Array.append_empty];simp[hxr,hyr,jv hfn]
 rw[hrun];simp only[Oper.upon];refine(C.run E.w m (by omega)).mono fun e' w' ⟨v,he,hgr,hown⟩=>?_
 subst he;obtain⟨E',hw',x',hi',hval⟩:=hi.Nc ht' (es:=[]) (v:=v) (us:=[]) (e:=e) (k:=k) (w':=w') hgr hown (fun E' _ _=>trivial);refine hK _ _ ⟨E',hw',?_⟩;refine dL.dst (W:=[(.o d,.row e k [] false)]) hi' hd ?_;simp only[aA];have h1:v.oneCell'=true:=by rcases hown.2 with⟨rfl,_⟩|⟨g,cap,cur,rfl,_⟩<;>rfl
 exact⟨h1,k,0,v,hval,Nat.le_refl _,fun _=>rfl⟩
def ah3(P:Program)(N0:Nat)(t:S)(o:Oper)(f:FuncId)(e:TypeId)(k N:Nat)(gp:List Pl)(g:Bool)(fo x y:Operand):Option (Prop×List Pl×List (Pl×It)):=
 match ev t fo with
 | .clo f' caps=>match ev t x with
   | .c v=>match ev t y with
     | .d (.int .i64 n)=>match o.dst with
       | some d=>some (g=true∧pz N0 o=true∧f'=f∧caps = []∧aZ P f=true∧v = .slice none 0 0∧0≤n∧n≤N∧t (.o d) = .none,gp++(pl fo++(pl x++(pl y++[.o d]))),xA o (.aB d 0) [(.o d,.row e k [] false)])
       | none=>none
     | _=>none
   | _=>none
 | _=>none
def ah2(P:Program)(N0:Nat)(t:S)(ops:Array Oper)(f:FuncId)(e:TypeId)(k N:Nat):Option Oper→Option (Prop×List Pl×List (Pl×It))
 | some o=>match gv ops t o with
   | some (gp,g)=>match o.op with
     | .call {callee:=.value fo,args:=xs,argTypes:=_}=>match xs.toList with
       | [x,y]=>ah3 P N0 t o f e k N gp g fo x y
       | _=>none
     | _=>none
   | none=>none
 | none=>none
theorem ah.grow{i:Nat}{t:S}{k:List Pl→List (Pl×It)→Prop}{g:Tg k}{f:FuncId}{e:TypeId}{z N:Nat}(C:ahX P f e z N)
  (h:Us k g (ah2 P A.N t ops f e z N ops[i]?)):ah P A ops i t k g:=by
 unfold Us at h;split at h
 ·rename_i D rp W hc;obtain⟨h1,h2⟩:=h;refine⟨rp,W,?_,h2⟩;unfold ah2 at hc;split at hc
  ·rename_i o ho;split at hc
   ·rename_i gp g0 hg;split at hc
    ·rename_i fo xs tys hop;split at hc
     ·rename_i x y hxs;obtain rfl:xs = #[x,y]:=by cases xs;simpa using hxs
      unfold ah3 at hc;split at hc
      ·rename_i f' caps hf;split at hc
       ·rename_i v hx;split at hc
        ·rename_i n hy;split at hc
         ·rename_i d hod;simp only[Option.some.injEq,Prod.mk.injEq]at hc;obtain⟨rfl,rfl,rfl⟩:=hc;obtain⟨rfl,q1,rfl,rfl,q2,rfl,q3,q4,q5⟩:=h1;exact Sum.grow ho hg q1 hop hf q2 C hx hy q3 q4 q5
         ·simp at hc
        ·simp at hc
       ·simp at hc
      ·simp at hc
     ·simp at hc
    ·simp at hc
   ·simp at hc
  ·simp at hc
 ·exact h.elim
end
end Go.Tr

namespace Go.Tr
open Go Go.Proofs
structure abr(P:Program)(fK fS g:FuncId)(e:TypeId):Prop where
 keys:∀(b:Nat) (w:World),Calls P fK #[.map (some b)] w fun e' w'=>∃ty,e' = .returned (.func (.func g) #[] #[.pointer (some ⟨w.heap.size,0,none⟩)])∧w'=w.alloc (.cells #[.map (some b)] ty)
 sorted:∀(Bm b:Nat) (l:Array MapEntry) (clock:Nat) (ks:List Int) (w:World),Bm<w.heap.size→w.cell? ⟨Bm,0,none⟩ = some (.map (some b))→w.heap[b]? = some (.map l clock)→MapKept.Stamped l clock→
  l.toList.map (·.key)=ks.map (Value.int .i64)→(∀k∈ks,(Lit.int .i64 k).wf=true)→ks.length≤1000000→
  Calls P fS #[.func (.func g) #[] #[.pointer (some ⟨Bm,0,none⟩)]] w fun e' w'=>∃v,e' = .returned v∧w'.ownsRow w.heap.size e 1 v ks.length ((ks.mergeSort fun x y=>decide (x≤y)).map (Value.int .i64))∧RowKit.Below w.heap.size w w'
theorem PI{E:En}:∀{es:List (Int×D)} {l:List MapEntry},pV E es l→l.map (·.key)=(es.map (·.1)).map (Value.int .i64)
 | [],l,h=>by simp only[pV]at h;subst h;rfl
 | (k,d)::es,l,h=>by
   simp only[pV]at h;obtain⟨a,l',rfl,h1,_,_,h4⟩:=h;simp[h1,PI h4]
def MV(es:List (Int×D)):List Int:=(es.map (·.1)).mergeSort fun x y=>decide (x≤y)
theorem adk(es:List (Int×D)):(MV es).length=es.length:=by simp[MV,List.length_mergeSort]
section
variable {P:Program} {A:eX} {ops:Array Oper}
theorem Sum.keys{t:S}{i d:Nat}{o:Oper}{gp:List Pl}{fo x:Operand}{tys:Array TypeId}{f fS g:FuncId}{e:TypeId}{id:Nat}
  (ho:ops[i]? = some o) (hg:gv ops t o=some (gp,true)) (hd:pz A.N o=true) (hop:o.op = .call {callee:=.value fo,args:=#[x],argTypes:=tys}) (hf:ev t fo = .clo f []) (hfn:aZ P f=true)
  (C:abr P f fS g e) (hx:ev t x = .mref id) (ht:t (.o d) = .none) :
  Sum P A ops i t (gp++(pl fo++(pl x++[.o d]))) (xA o (.clo g [.ptr (.o d) 0]) [(.o d,.box [.mref id])]):=fun t' hr a w ⟨E,hw,hi⟩ K Q hK=>by
 subst hw;have hwant:=mD hg (aW hr) hi;have hr1:=aI hr;have hr2:=aI hr1;have hfo:ev t' fo = .clo f []:=(dB (aW hr1)).trans hf;have hx':ev t' x = .mref id:=(dB (aW hr2)).trans hx;have ht':t' (.o d) = .none:=(aI hr2 _ (by simp)).trans ht;have hfr:=bM hi fo;rw[hfo]at hfr
 simp only[aA,aP]at hfr;obtain⟨sZ,Gu,yT⟩:=hfr;obtain rfl:sZ = #[]:=by cases sZ;simpa using yT
 have hxr:=bM hi x;rw[hx']at hxr
 have ao7:=hxr;simp only[aA]at hxr;obtain⟨b,hb,hu⟩:=hxr;unfold wpOp;simp only[ho,hwant,if_true];refine .inl ?_;unfold Oper.wp;have hrun:(execOp a.eval o).run P E.w = .ok (.enter f #[.map (some b)]) E.w:=by
  simp only[execOp,hop,resolve,Gu,Deferred.ofValue,invoke,Sem.run_bind,Sem.run_pure,Result.andThen_ok,List.map_toArray,Array.empty_append,jv hfn,hu,Array.map,Array.append_empty];simp[hu,jv hfn]
 rw[hrun];simp only[Oper.upon];refine(C.keys b E.w).mono fun e' w' ⟨ty,he,hw'⟩=>?_
 subst he hw';obtain⟨E',hw2,hinv,hrel⟩:=hi.aaK ht' (us:=#[.map (some b)]) (cs:=[.mref id]) rfl ⟨⟨_,rfl,rfl,by rw[←hu];exact ao7⟩,trivial⟩ ty;refine hK _ _ ⟨E',hw2,?_⟩;refine dL.dst (W:=[(.o d,.box [.mref id])]) hinv hd ?_;simp only[aA,aP]at hrel⊢;exact⟨_,rfl,_,_,rfl,hrel,rfl⟩
theorem Sum.sorted{t:S}{i d:Nat}{o:Oper}{gp:List Pl}{fo x:Operand}{tys:Array TypeId}{f fK g:FuncId}{e:TypeId}{id:Nat}{p:Pl}{es:List (Int×D)}
  (ho:ops[i]? = some o) (hg:gv ops t o=some (gp,true)) (hd:pz A.N o=true) (hop:o.op = .call {callee:=.value fo,args:=#[x],argTypes:=tys}) (hf:ev t fo = .clo f []) (hfn:aZ P f=true)
  (C:abr P fK f g e) (hx:ev t x = .clo g [.ptr p 0]) (hpl:qw p=true) (hp:t p = .box [.mref id]) (hm:t (.o id) = .mp es) (hk:∀x∈es,I64 x.1) (hl:es.length≤1000000) (ht:t (.o d) = .none) :
  Sum P A ops i t (gp++(pl fo++(pl x++[p,.o id,.o d]))) (xA o (.aB d es.length) [(.o d,.row e 1 (dd (dJ .i64 (MV es))) false)]):=fun t' hr a w ⟨E,hw,hi⟩ K Q hK=>by
 subst hw;have hwant:=mD hg (aW hr) hi;have hr1:=aI hr;have hr2:=aI hr1;have hr3:=aI hr2;have hfo:ev t' fo = .clo f []:=(dB (aW hr1)).trans hf;have hx':ev t' x = .clo g [.ptr p 0]:=(dB (aW hr2)).trans hx;have hp':t' p = .box [.mref id]:=(hr3 _ (by simp)).trans hp;have hm':t' (.o id) = .mp es:=(hr3 _ (by simp)).trans hm
 have ht':t' (.o d) = .none:=(hr3 _ (by simp)).trans ht;have hfr:=bM hi fo;rw[hfo]at hfr
 simp only[aA,aP]at hfr;obtain⟨sZ,Gu,yT⟩:=hfr;obtain rfl:sZ = #[]:=by cases sZ;simpa using yT
 have hxr:=bM hi x;rw[hx']at hxr
 simp only[aA,aP]at hxr;obtain⟨us,hu,u0,us',hus,⟨b0,hb0,hu0⟩,aar⟩:=hxr;subst aar hu0;obtain rfl:us = #[.pointer (some ⟨b0,0,none⟩)]:=by cases us;simpa using hus
 have hbox:=hi.h.item p (fun k e=>by subst e;simp[qw]at hpl);rw[hp']at hbox
 obtain⟨_,b1,ty,cs,hb1,hh1,hsz,hc1⟩:=hbox;rw[hb0]at hb1
 simp only[Option.some.injEq]at hb1;subst hb1;obtain⟨⟨u1,hg1,_,hr1'⟩,_⟩:=hc1;simp only[aA]at hr1';obtain⟨b2,hb2,hu1⟩:=hr1';subst hu1;obtain⟨_,b3,l,clock,hb3,hh3,hrel,hst⟩:=Qs hi hm';rw[hb2]at hb3
 simp only[Option.some.injEq]at hb3;subst hb3;have hcell:E.w.cell? ⟨b0,0,none⟩ = some (.map (some b2)):=by
  rw[BJ hh1];simpa using hg1
 have hlt:b0<E.w.heap.size:=(Array.getElem?_eq_some_iff.1 hh1).1;unfold wpOp;simp only[ho,hwant,if_true];refine .inl ?_;unfold Oper.wp;have hrun:(execOp a.eval o).run P E.w = .ok (.enter f #[.func (.func g) #[] #[.pointer (some ⟨b0,0,none⟩)]]) E.w:=by
  simp only[execOp,hop,resolve,Gu,Deferred.ofValue,invoke,Sem.run_bind,Sem.run_pure,Result.andThen_ok,List.map_toArray,Array.empty_append,jv hfn,hu,Array.map,Array.append_empty];simp[hu,jv hfn]
 rw[hrun];simp only[Oper.upon];have hwf:∀k∈es.map (·.1),(Lit.int .i64 k).wf=true:=fun k hk'=>by
  obtain⟨x,hx,rfl⟩:=List.mem_map.1 hk';have:=hk x hx;simp only[Lit.wf,Bool.and_eq_true,decide_eq_true_eq];have m1:IntKind.i64.min = -9223372036854775808:=by decide
  have m2:IntKind.i64.max=9223372036854775807:=by decide
  exact⟨by have:=this.1;omega,by have:=this.2;omega⟩
 refine(C.sorted b0 b2 l clock (es.map (·.1)) E.w hlt hcell hh3 hst (PI hrel) hwf (by simpa using hl)).mono fun e' w' ⟨v,he,hown,hbel⟩=>?_
 subst he;have hgr:E.w.grownBy w' none:=⟨hbel.os,hbel.tape,hbel.output,hbel.size,fun k hk _=>hbel.block k hk⟩
 have hkl:(dd (dJ .i64 (MV es))).length=es.length:=by rw[agK,adk]
 obtain⟨E',hw2,x',hinv,hval⟩:=hi.Nc ht' (es:=dd (dJ .i64 (MV es))) (v:=v) (us:=(MV es).map (Value.int .i64)) (e:=e) (k:=1) (w':=w') hgr
  (by rw[hkl];simpa[MV]using hown) (fun E' _ _=>PW (by simp))
 refine hK _ _ ⟨E',hw2,?_⟩;refine dL.dst (W:=[(.o d,.row e 1 (dd (dJ .i64 (MV es))) false)]) hinv hd ?_;simp only[aA];have h1:v.oneCell'=true:=by rcases hown.2 with⟨rfl,_⟩|⟨g,cap,cur,rfl,_⟩<;>rfl
 rw[hkl]at hval
 exact⟨h1,1,es.length,v,hval,Nat.le_refl _,fun _=>rfl⟩
def ah9(P:Program)(N0:Nat)(t:S)(o:Oper)(f g:FuncId)(gp:List Pl)(gd:Bool)(fo x:Operand):Option (Prop×List Pl×List (Pl×It)):=
 match ev t fo with
 | .clo f' caps=>match ev t x with
   | .mref id=>match o.dst with
     | some d=>some (gd=true∧pz N0 o=true∧f'=f∧caps = []∧aZ P f=true∧t (.o d) = .none,gp++(pl fo++(pl x++[.o d])),xA o (.clo g [.ptr (.o d) 0]) [(.o d,.box [.mref id])])
     | none=>none
   | _=>none
 | _=>none
def aij(P:Program)(N0:Nat)(t:S)(o:Oper)(f g:FuncId)(e:TypeId)(gp:List Pl)(gd:Bool)(fo x:Operand):Option (Prop×List Pl×List (Pl×It)):=
 match ev t fo with
 | .clo f' caps=>match ev t x with
   | .clo g' [.ptr p 0]=>match t p with
     | .box [.mref id]=>match t (.o id)with
       | .mp es=>match o.dst with
         | some d=>some (gd=true∧pz N0 o=true∧f'=f∧caps = []∧aZ P f=true∧g'=g∧qw p=true∧(∀x∈es,I64 x.1)∧es.length≤1000000∧t (.o d) = .none,
           gp++(pl fo++(pl x++[p,.o id,.o d])),xA o (.aB d es.length) [(.o d,.row e 1 (dd (dJ .i64 (MV es))) false)])
         | none=>none
       | _=>none
     | _=>none
   | _=>none
 | _=>none
def ahr(t:S)(ops:Array Oper)(F:Oper→List Pl→Bool→Operand→Operand→Option (Prop×List Pl×List (Pl×It))):Option Oper→Option (Prop×List Pl×List (Pl×It))
 | some o=>match gv ops t o with
   | some (gp,g)=>match o.op with
     | .call {callee:=.value fo,args:=xs,argTypes:=_}=>match xs.toList with
       | [x]=>F o gp g fo x
       | _=>none
     | _=>none
   | none=>none
 | none=>none
theorem ah.one{i:Nat}{t:S}{k:List Pl→List (Pl×It)→Prop}{g:Tg k}{F:Oper→List Pl→Bool→Operand→Operand→Option (Prop×List Pl×List (Pl×It))}
  (hF:∀o gp gd fo x tys D rp W,ops[i]? = some o→gv ops t o=some (gp,gd)→o.op = .call {callee:=.value fo,args:=#[x],argTypes:=tys}→F o gp gd fo x=some (D,rp,W)→D→Sum P A ops i t rp W)
  (h:Us k g (ahr t ops F ops[i]?)):ah P A ops i t k g:=by
 unfold Us at h;split at h
 ·rename_i D rp W hc;obtain⟨h1,h2⟩:=h;refine⟨rp,W,?_,h2⟩;unfold ahr at hc;split at hc
  ·rename_i o ho;split at hc
   ·rename_i gp g0 hg;split at hc
    ·rename_i fo xs tys hop;split at hc
     ·rename_i x hxs;obtain rfl:xs = #[x]:=by cases xs;simpa using hxs
      exact hF o gp g0 fo x tys D rp W ho hg hop hc h1
     ·simp at hc
    ·simp at hc
   ·simp at hc
  ·simp at hc
 ·exact h.elim
theorem ah.keys{i:Nat}{t:S}{k:List Pl→List (Pl×It)→Prop}{gt:Tg k}{f fS g:FuncId}{e:TypeId}(C:abr P f fS g e)
  (h:Us k gt (ahr t ops (fun o gp gd fo x=>ah9 P A.N t o f g gp gd fo x) ops[i]?)):ah P A ops i t k gt:=
 ah.one (fun o gp gd fo x tys D rp W ho hg hop hc h1=>by
  unfold ah9 at hc;split at hc
  ·rename_i f' caps hf;split at hc
   ·rename_i id hx;split at hc
    ·rename_i d hod;simp only[Option.some.injEq,Prod.mk.injEq]at hc;obtain⟨rfl,rfl,rfl⟩:=hc;obtain⟨rfl,q1,rfl,rfl,q2,q3⟩:=h1;exact Sum.keys ho hg q1 hop hf q2 C hx q3
    ·simp at hc
   ·simp at hc
  ·simp at hc) h
theorem ah.sorted{i:Nat}{t:S}{k:List Pl→List (Pl×It)→Prop}{gt:Tg k}{f fK g:FuncId}{e:TypeId}(C:abr P fK f g e)
  (h:Us k gt (ahr t ops (fun o gp gd fo x=>aij P A.N t o f g e gp gd fo x) ops[i]?)):ah P A ops i t k gt:=
 ah.one (fun o gp gd fo x tys D rp W ho hg hop hc h1=>by
  unfold aij at hc;split at hc
  ·rename_i f' caps hf;split at hc
   ·rename_i g' p hx;split at hc
    ·rename_i id hp;split at hc
     ·rename_i es hm;split at hc
      ·rename_i d hod;simp only[Option.some.injEq,Prod.mk.injEq]at hc;obtain⟨rfl,rfl,rfl⟩:=hc;obtain⟨rfl,q1,rfl,rfl,q2,rfl,q3,q4,q5,q6⟩:=h1;exact Sum.sorted ho hg q1 hop hf q2 C hx q3 hp hm q4 q5 q6
      ·simp at hc
     ·simp at hc
    ·simp at hc
   ·simp at hc
  ·simp at hc) h
end
end Go.Tr

set_option linter.unusedVariables false
namespace Go.Tr
open Go
def jT(P:Program)(f:FuncId)(args:List TV)(xs:List It)(ri:List (Nat×It))(r:TV)(xs':List It)(ro:List (Nat×It)):Prop:=
 ∀(E:En) (us:List Value),jQ E (h_ xs ri)→aP E args us→Calls P f us.toArray E.w fun e w'=>∃u E',e = .returned u∧E'.w=w'∧Post E xs' ro r u E'
def Xx:List (Nat×Nat)→Nat→Option Nat
 | [],_=>none
 | (j,k)::l,id=>if id=k then some j else Xx l id
def pO:List (Nat×Nat)→Nat→Option Nat
 | [],_=>none
 | (j,k)::l,id=>if id=j then some k else pO l id
theorem FC{j k:Nat}:∀{rs:List (Nat×Nat)},pO rs j=some k→(j,k)∈rs
 | [],h=>by simp[pO]at h
 | (a,b)::l,h=>by
   simp only[pO]at h;split at h
   ·simp only[Option.some.injEq]at h;subst h;rename_i e;subst e;simp
   ·exact List.mem_cons_of_mem _ (FC h)
theorem GY{j k:Nat}:∀{rs:List (Nat×Nat)},(rs.map (·.1)).Nodup→(j,k)∈rs→pO rs j=some k
 | [],_,h=>by simp at h
 | (a,b)::l,hn,h=>by
   simp only[List.map_cons,List.nodup_cons]at hn;simp only[pO];rcases List.mem_cons.1 h with h|h
   ·simp only[Prod.mk.injEq]at h;obtain⟨rfl,rfl⟩:=h;simp
   ·have:j≠a:=fun e=>hn.1 (List.mem_map.2 ⟨(j,k),h,e⟩)
    rw[if_neg this];exact GY hn.2 h
theorem Dp{j k:Nat}:∀{rs:List (Nat×Nat)},Xx rs k=some j→(j,k)∈rs
 | [],h=>by simp[Xx]at h
 | (a,b)::l,h=>by
   simp only[Xx]at h;split at h
   ·simp only[Option.some.injEq]at h;subst h;rename_i e;subst e;simp
   ·exact List.mem_cons_of_mem _ (Dp h)
theorem JI{j j' k:Nat}:∀{rs:List (Nat×Nat)},(rs.map (·.2)).Nodup→(j,k)∈rs→(j',k)∈rs→j=j'
 | [],_,h,_=>by simp at h
 | (a,b)::l,hn,h,g=>by
   simp only[List.map_cons,List.nodup_cons]at hn;rcases List.mem_cons.1 h with h|h<;>rcases List.mem_cons.1 g with g|g
   ·simp only[Prod.mk.injEq]at h g;rw[h.1,g.1]
   ·simp only[Prod.mk.injEq]at h;exact absurd (List.mem_map.2 ⟨(j',k),g,h.2⟩) hn.1
   ·simp only[Prod.mk.injEq]at g;exact absurd (List.mem_map.2 ⟨(j,k),h,g.2⟩) hn.1
   ·exact JI hn.2 h g
mutual
def TV.iw(ν:List Pl)(rs:List (Nat×Nat)):TV→Option TV
 | .junk=>some .junk
 | .d x=>some (.d x)
 | .c v=>some (.c v)
 | .agg vs=>match TV.fB ν rs vs with|some vs=>some (.agg vs)|none=>none
 | .rG _=>none
 | .aB id n=>match Xx rs id with|some j=>some (.aB j n)|none=>none
 | .ptr p q=>match YE p ν 0 with|some i=>some (.ptr (.x i) q)|none=>none
 | .ep e q=>some (.ep e q)
 | .rQ _ _ _ _=>none
 | .mref _=>none
 | .sx _=>none
 | .NS _ _ _=>none
 | .clo f vs=>match TV.fB ν rs vs with|some vs=>some (.clo f vs)|none=>none
def TV.fB(ν:List Pl)(rs:List (Nat×Nat)):List TV→Option (List TV)
 | []=>some []
 | v::vs=>match TV.iw ν rs v,TV.fB ν rs vs with
   | some v,some vs=>some (v::vs)
   | _,_=>none
end
section
variable {P:Program} {A:eX}
def KR(ν:List Pl)(rs:List (Nat×Nat)):It→Option It
 | .box cs=>match TV.fB ν rs cs with|some cs=>some (.box cs)|none=>none
 | _=>none
def fD(t:S)(ν:List Pl)(rs:List (Nat×Nat)):List Pl→Option (List It)
 | []=>some []
 | p::l=>match KR ν rs (t p),fD t ν rs l with
   | some i,some is=>some (i::is)
   | _,_=>none
def iG(ν:List Pl)(rs:List (Nat×Nat)):List (List TV)→Option (List (List TV))
 | []=>some []
 | e::es=>match TV.fB ν rs e,iG ν rs es with
   | some e,some es=>some (e::es)
   | _,_=>none
def Ea(ν:List Pl)(rs:List (Nat×Nat)):It→Option It
 | .row e z es false=>match iG ν rs es with|some es=>some (.row e z es false)|none=>none
 | _=>none
def oM(t:S)(ν:List Pl)(rs:List (Nat×Nat)):List (Nat×Nat)→Option (List (Nat×It))
 | []=>some []
 | (j,k)::l=>match Ea ν rs (t (.o k)),oM t ν rs l with
   | some i,some r=>some ((j,i)::r)
   | _,_=>none
theorem Fr.YV{E0 E E':En}(f:Fr E0 E)(os:E'.w.os=E.w.os)(tape:E'.w.tape=E.w.tape)(output:E'.w.output=E.w.output)(size:E.w.heap.size≤E'.w.heap.size)
  (old:∀b,b<E0.w.heap.size→(∀i,E0.blk (.x i)≠some b)→(∀j,E0.own (.o j)≠some b)→E'.w.heap[b]? = E.w.heap[b]?) (xb:∀i,E'.blk (.x i)=E.blk (.x i))
  (new:∀id b,E'.own (.o id)=some b→(∃j,E.own (.o j)=some b)∨E.w.heap.size≤b) (st:∀b o,E.St b o→E'.St b o)
  (xg:∀b o,E'.St b o→E.St b o∨(E0.w.heap.size≤b∨∃j,E0.own (.o j)=some b)):Fr E0 E':=
 ⟨os.trans f.os,tape.trans f.tape,output.trans f.output,Nat.le_trans f.size size,fun b h1 h2 h3=>(old b h1 h2 h3).trans (f.old b h1 h2 h3),fun i=>(xb i).trans (f.xb i),
  fun id b h=>(new id b h).elim (fun⟨j,h⟩=>f.new j b h) (fun h=>.inl (Nat.le_trans f.size h)),fun b o h=>st b o (f.st b o h),fun b o h=>(xg b o h).elim (f.xg b o) .inr⟩
def wr:List (Nat×Nat)→List (Pl×It)
 | []=>[]
 | (_,k)::l=>(.o k,.v .junk)::wr l
theorem O9{t:S}{k:Nat}:∀{rs:List (Nat×Nat)},k∈rs.map (·.2)→over t (wr rs) (.o k) = .v .junk
 | [],h=>by simp at h
 | (a,b)::l,h=>by
   simp only[wr,over];by_cases e:k=b
   ·subst e;simp[upd]
   ·simp only[List.map_cons,List.mem_cons,e,false_or]at h;rw[upd,if_neg (by simpa using e)];exact O9 h
theorem FX{t:S}{p:Pl}:∀{rs:List (Nat×Nat)},(∀k∈rs.map (·.2),p≠.o k)→over t (wr rs) p=t p
 | [],_=>rfl
 | (a,b)::l,h=>by
   simp only[wr,over,upd,if_neg (h b (by simp))];exact FX fun k hk=>h k (by simp only[List.map_cons,List.mem_cons];exact .inr hk)
variable {ops:Array Oper}
def N_(P:Program)(N:Nat)(t:S)(o:Oper)(f:FuncId)(iR:List TV)(qK:List It)(ri:List (Nat×It))(r:TV)(dF:List It)(ro:List (Nat×It))(ν:List Pl)(rs:List (Nat×Nat))(b:Nat)(gp:List Pl)(g:Bool):Option (Prop×List Pl×List (Pl×It)):=
 match o.op with
 | .call {callee:=.value fo,args:=xs,argTypes:=_}=>
   match ev t fo with
   | .clo f' caps=>
     match fD t ν rs ν,TV.fB ν rs (xs.toList.map (ev t)++caps),oM t ν rs rs with
     | some c0,some a0,some r0=>
       some (g=true∧pz N o=true∧f'=f∧aZ P f=true∧ν.Nodup∧(∀p∈ν,qw p=true)∧a0=iR∧c0=qK∧(rs.map (·.1)).Nodup∧(rs.map (·.2)).Nodup∧r0=ri∧
        dF.length=ν.length∧(∀x∈dF,gU x=true)∧(∀x∈ro,isObj x.2=true)∧(∀x∈ro,t (.o (b+x.1)) = .none),
        gp++(pl fo++(xs.toList.flatMap pl++(ν++((rs.map fun x=>.o x.2)++ro.map fun x=>.o (b+x.1))))),
        xA o (r.back ν b) (wx ν b ν dF++(wo ν b ro++wr rs)))
     | _,_,_=>none
   | _=>none
 | _=>none
def F8(P:Program)(N:Nat)(t:S)(ops:Array Oper)(f:FuncId)(iR:List TV)(qK:List It)(ri:List (Nat×It))(r:TV)(dF:List It)(ro:List (Nat×It))(ν:List Pl)(rs:List (Nat×Nat))(b:Nat):Option Oper→Option (Prop×List Pl×List (Pl×It))
 | some o=>match gv ops t o with
   | some (gp,g)=>N_ P N t o f iR qK ri r dF ro ν rs b gp g
   | none=>none
 | none=>none
theorem t_{f:FuncId}{fn:Func}{c:Code}{args:List TV}{xs:List It}{ri:List (Nat×It)}{r:TV}{xs':List It}{ro:List (Nat×It)}(hf:P.funcs[f]? = some fn)(hb:fn.body=some c)
  (h:∀E0,AW P ⟨E0,fn.ntmps⟩ c (fin P ⟨E0,fn.ntmps⟩ fn r xs' ro) (look (UN args 0++(xL xs 0++oL ri)))):jT P f args xs ri r xs' ro:=fun E us hH hargs=>by
 refine calls_of_wp hf hb (Code.wp_mono (fun e a w hq=>?_) (h E {tmps:=us.toArray++Array.replicate (fn.ntmps-us.toArray.size) undef,defers:=[]} E.w ⟨E,rfl,⟨?_,?_,?_,rfl,?_⟩⟩))
 ·obtain⟨t,hi,hq⟩:=hq;have key:Fin P ⟨E,fn.ntmps⟩ fn r xs' ro t→a.defers = []∧∃v,(results fn a.tmps).run P w = .ok v w∧∃u E',Ending.returned v = .returned u∧E'.w=w∧Post E xs' ro r u E':=fun hF=>by
   obtain⟨u,E',h1,h2,h3⟩:=hF a w hi;obtain⟨E1,_,hi1⟩:=hi;exact⟨hi1.defers,u,h1,u,E',rfl,h2,h3⟩
  cases e<;>first
   | exact hq.elim
   | exact key hq
 ·refine hH.congr fun p hp=>?_
  rw[Rn hp];cases p with
  | s k=>exact absurd rfl (hp k)
  | x i=>
    rw[ahV];simp only[h_,Nat.zero_le,true_and,Nat.zero_add,Nat.sub_zero];split
    ·rfl
    ·rename_i h;rw[S_ (fun k e=>by simp at e),List.getD,List.getElem?_eq_none (by omega)];rfl
  | o k=>rw[Jl (fun j e=>by simp at e),ai7];rfl
 ·exact⟨rfl,rfl,rfl,Nat.le_refl _,fun _ _ _ _=>rfl,fun _=>rfl,fun id b hb=>.inr ⟨id,hb⟩,fun _ _ h=>h,fun _ _ h=>.inl h⟩
 ·intro k tv hk;rw[Z4]at hk
  simp only[Nat.zero_le,true_and,Nat.zero_add,Nat.sub_zero]at hk;have hx:look (xL xs 0++oL ri) (.s k) = .none:=by
   rw[Jl (fun j e=>by simp at e),S_ (fun j e=>by simp at e)]
  split at hk
  ·rename_i hlt;have hak:args[k]? = some args[k]:=List.getElem?_eq_getElem hlt;rw[hak]at hk
   simp only[It.v.injEq]at hk;subst hk;obtain⟨u,h1,h2⟩:=hargs.get hak;refine⟨u,?_,h2⟩;have hl:k<us.length:=by rw[hargs.length];exact hlt
   rw[Array.getElem?_append_left (by simpa using hl)];simpa using h1
  ·rw[hx]at hk;simp at hk
 ·simp;omega
theorem TA(ν:List Pl)(rs:List (Nat×Nat)):∀l:List D,TV.fB ν rs (l.map .d)=some (l.map .d)
 | []=>rfl
 | x::l=>by simp[TV.fB,TV.iw,TA ν rs l]
theorem VK(ν:List Pl)(rs:List (Nat×Nat)):∀l:List (List D),iG ν rs (dd l)=some (dd l)
 | []=>rfl
 | x::l=>by
   have:=VK ν rs l;simp only[dd]at this;simp only[dd,List.map_cons,iG,TA,this]
theorem TF(ν:List Pl)(rs:List (Nat×Nat)):∀a b:List (List TV),iG ν rs (a++b)=match iG ν rs a,iG ν rs b with
  | some x,some y=>some (x++y)
  | _,_=>none
 | [],b=>by cases h:iG ν rs b<;>simp[iG,h]
 | e::a,b=>by
   simp only[List.cons_append,iG,TF ν rs a b];cases TV.fB ν rs e<;>cases iG ν rs a<;>cases iG ν rs b<;>rfl
theorem TI(ν:List Pl)(rs:List (Nat×Nat))(cs:List TV):KR ν rs (.box cs)=match TV.fB ν rs cs with|some cs=>some (.box cs)|none=>none:=rfl
attribute [simp] F8 N_ TV.iw TV.fB fD TI Xx pO oM wr Ea iG VK TF
end
end Go.Tr

namespace Go.Tr
open Go
section
variable {A:eX}
theorem dL.KZ{t:S}{a:Act}{E:En}{id e k:Nat}{es es':List (List TV)}{sh:Bool}(hi:dL A t a E)(ht:t (.o id) = .row e k es sh)(hl:es'.length=es.length)(hrel:∀us,dK E us k 0 es→dK E us k 0 es'):
  dL A (upd t (.o id) (.row e k es' sh)) a E:=by
 refine⟨⟨fun q hq=>?_,hi.h.frees,hi.h.inj,hi.h.size,hi.h.oQ,fun b o h1 q h2=>?_,hi.h.gl⟩,hi.fr,fun j tv hj=>?_,hi.defers,hi.size⟩
 ·by_cases eq:q = .o id
  ·subst eq;have h:=hi.h.item (.o id) hq;rw[ht]at h
   simp only[upd,if_true];obtain⟨h1,id',v,us,h2,h3,h4,h5⟩:=h;simp only[Pl.o.injEq]at h2;subst h2;exact⟨h1,id,v,us,rfl,by rw[hl];exact h3,by rw[hl];exact h4,hrel us h5⟩
  ·simp only[upd,if_neg eq];exact hi.h.item q hq
 ·obtain⟨e2,k2,es2,h3,h4⟩:=hi.h.sep b o h1 q h2;by_cases eq:q = .o id
  ·subst eq;rw[ht]at h3
   simp only[It.row.injEq]at h3;obtain⟨rfl,rfl,rfl,rfl⟩:=h3;exact⟨e,k,es',by simp[upd],by rw[hl];exact h4⟩
  ·exact⟨e2,k2,es2,by simp only[upd,if_neg eq];exact h3,h4⟩
 ·simp only[upd,reduceCtorEq,if_false]at hj;exact hi.sl j tv hj
def DT(a b k:Nat):Nat:=if k=a then b else k
def lX(a b:Nat):Pl→Pl
 | .o k=>.o (DT a b k)
 | p=>p
mutual
def TV.ren(a b:Nat):TV→TV
 | .agg vs=>.agg (TV.AP a b vs)
 | .rG vs=>.rG (TV.AP a b vs)
 | .clo f vs=>.clo f (TV.AP a b vs)
 | .aB id n=>.aB (DT a b id) n
 | .rQ id n i q=>.rQ (DT a b id) n i q
 | .mref id=>.mref (DT a b id)
 | .NS id n j=>.NS (DT a b id) n j
 | .ptr p q=>.ptr (lX a b p) q
 | v=>v
def TV.AP(a b:Nat):List TV→List TV
 | []=>[]
 | v::vs=>v.ren a b::TV.AP a b vs
end
def AO(a b:Nat):It→It
 | .v t=>.v (t.ren a b)
 | .box cs=>.box (TV.AP a b cs)
 | .row e k es sh=>.row e k (es.map (TV.AP a b)) sh
 | .wI e k es=>.wI e k (es.map (TV.AP a b))
 | .jX es c pd s=>.jX (es.map fun x=>(x.1,x.2.ren a b)) c pd s
 | .DK m s left cur=>.DK (if m=a then b else m) s left cur
 | .IE es s=>.IE (es.map fun x=>(x.1,x.2.ren a b)) s
 | i=>i
def En.ren(E:En)(a b:Nat):En:=
 {E with blk:=fun p=>match p with|.o k=>if k=b then E.blk (.o a)else if k=a then none else E.blk (.o k)|p=>E.blk p,
         val:=fun k=>if k=b then E.val a else if k=a then none else E.val k}
mutual
theorem Qx{E:En}{a b:Nat}(hab:a≠b)(hb:E.blk (.o b)=none)(hv:E.val b=none):∀{v:TV} {u:Value},aA E v u→aA (E.ren a b) (v.ren a b) u
 | .junk,u,_=>by simp only[TV.ren,aA]
 | .d x,u,h=>by simp only[TV.ren,aA]at h⊢;exact Rep.ext (E:=E) (E':=E.ren a b) ⟨fun _ _ h=>h,fun _ _ _=>rfl⟩ x u h
 | .c v,u,h=>by simp only[TV.ren,aA]at h⊢;exact h
 | .agg vs,u,h=>by
   simp only[TV.ren,aA]at h⊢;obtain⟨us,hu,h⟩:=h;exact⟨us,hu,Nq hab hb hv h⟩
 | .rG vs,u,h=>by
   simp only[TV.ren,aA]at h⊢;obtain⟨us,hu,h⟩:=h;exact⟨us,hu,Nq hab hb hv h⟩
 | .aB id n,u,h=>by
   simp only[TV.ren,aA]at h⊢;obtain⟨h1,k,c,v,h2,h3⟩:=h;have hne:id≠b:=fun e=>by subst e;rw[hv]at h2;simp at h2
   refine⟨h1,k,c,v,?_,h3⟩;by_cases e:id=a
   ·subst e;simp only[DT,En.ren,if_true];exact h2
   ·simp only[DT,En.ren,if_neg e,if_neg hne];exact h2
 | .ptr (.o id) q,u,h=>by
   simp only[TV.ren,lX,aA]at h⊢;obtain⟨b',h1,h2⟩:=h;have hne:id≠b:=fun e=>by subst e;rw[hb]at h1;simp at h1
   refine⟨b',?_,h2⟩;by_cases e:id=a
   ·subst e;simp only[DT,En.ren,if_true];exact h1
   ·simp only[DT,En.ren,if_neg e,if_neg hne];exact h1
 | .ptr (.x i) q,u,h=>by simp only[TV.ren,lX,aA]at h⊢;exact h
 | .ptr (.s i) q,u,h=>by simp only[TV.ren,lX,aA]at h⊢;exact h
 | .ep e q,u,h=>by
   simp only[TV.ren,aA]at h⊢;obtain⟨b',o,hu,hc⟩:=h;exact⟨b',o,hu,bQ.ext (E:=E) (E':=E.ren a b) ⟨fun _ _ h=>h,fun _ _ _=>rfl⟩ b' o e hc⟩
 | .rQ id n i q,u,h=>by
   simp only[TV.ren,aA]at h⊢;obtain⟨h1,k,c,v,h2,h3⟩:=h;have hne:id≠b:=fun e=>by subst e;rw[hv]at h2;simp at h2
   refine⟨h1,k,c,v,?_,h3⟩;by_cases e:id=a
   ·subst e;simp only[DT,En.ren,if_true];exact h2
   ·simp only[DT,En.ren,if_neg e,if_neg hne];exact h2
 | .NS id n i,u,h=>by
   simp only[TV.ren,aA]at h⊢;obtain⟨h1,k,c,v,h2,h3⟩:=h;have hne:id≠b:=fun e=>by subst e;rw[hv]at h2;simp at h2
   refine⟨h1,k,c,v,?_,h3⟩;by_cases e:id=a
   ·subst e;simp only[DT,En.ren,if_true];exact h2
   ·simp only[DT,En.ren,if_neg e,if_neg hne];exact h2
 | .mref id,u,h=>by
   simp only[TV.ren,aA]at h⊢;obtain⟨b',h1,h2⟩:=h;have hne:id≠b:=fun e=>by subst e;rw[hb]at h1;simp at h1
   refine⟨b',?_,h2⟩;by_cases e:id=a
   ·subst e;simp only[DT,En.ren,if_true];exact h1
   ·simp only[DT,En.ren,if_neg e,if_neg hne];exact h1
 | .sx xs,u,h=>by
   simp only[TV.ren,aA]at h⊢;exact⟨Rep.ext (E:=E) (E':=E.ren a b) ⟨fun _ _ h=>h,fun _ _ _=>rfl⟩ (.sl xs) u h.1,h.2⟩
 | .clo f vs,u,h=>by
   simp only[TV.ren,aA]at h⊢;obtain⟨us,hu,h⟩:=h;exact⟨us,hu,Nq hab hb hv h⟩
theorem Nq{E:En}{a b:Nat}(hab:a≠b)(hb:E.blk (.o b)=none)(hv:E.val b=none):∀{vs:List TV} {us:List Value},aP E vs us→aP (E.ren a b) (TV.AP a b vs) us
 | [],us,h=>by simpa only[TV.AP,aP]using h
 | v::vs,us,h=>by
   simp only[TV.AP,aP]at h⊢;obtain⟨u,us',hu,h1,h2⟩:=h;exact⟨u,us',hu,Qx hab hb hv h1,Nq hab hb hv h2⟩
end
theorem IX{a b:Nat}:∀vs:List TV,(TV.AP a b vs).length=vs.length
 | []=>by simp only[TV.AP]
 | v::vs=>by simp only[TV.AP,List.length_cons,IX vs]
theorem TS{E:En}{a b:Nat}(hab:a≠b)(hb:E.blk (.o b)=none)(hv:E.val b=none){us:List Value}:∀{o:Nat} {vs:List TV},bG E us o vs→bG (E.ren a b) us o (TV.AP a b vs)
 | _,[],_=>by simp only[TV.AP];trivial
 | _,_::_,⟨⟨u,h1,h2,h3⟩,r⟩=>by simp only[TV.AP];exact⟨⟨u,h1,h2,Qx hab hb hv h3⟩,TS hab hb hv r⟩
theorem aaY{E:En}{a b:Nat}(hab:a≠b)(hb:E.blk (.o b)=none)(hv:E.val b=none){us:List Value}{k:Nat}:∀{o:Nat} {es:List (List TV)},dK E us k o es→dK (E.ren a b) us k o (es.map (TV.AP a b))
 | _,[],_=>trivial
 | _,_::_,⟨h1,h2,r⟩=>⟨(IX _).trans h1,TS hab hb hv h2,aaY hab hb hv r⟩
theorem ajh{E:En}{a b:Nat}(hab:a≠b)(hb:E.blk (.o b)=none)(hv:E.val b=none):∀{es:List (List Int×TV)} {l:List MapEntry},jD E es l→jD (E.ren a b) (es.map fun x=>(x.1,x.2.ren a b)) l
 | [],_,h=>h
 | _::_,_,⟨e,l',rfl,h1,h2,h3⟩=>⟨e,l',rfl,h1,Qx hab hb hv h2,ajh hab hb hv h3⟩
theorem ahw{E:En}{a b:Nat}(hab:a≠b)(k:Nat):(E.ren a b).own (.o k)=if k=b then E.own (.o a)else if k=a then none else E.own (.o k):=by
 by_cases e1:k=b
 ·subst e1;simp[En.own,En.ren]
 ·by_cases e2:k=a
  ·subst e2;simp[En.own,En.ren,e1]
  ·simp[En.own,En.ren,e1,e2]
theorem TU{E:En}{a b:Nat}(hab:a≠b)(hb:E.blk (.o b)=none)(hv:E.val b=none){p p':Pl}{i:It}(h:zB E p i)(hp:∀k,p≠.s k)
  (h1:(E.ren a b).blk p'=E.blk p) (h2:(∀k,p' = .o k→(∃j,p = .o j∧(E.ren a b).val k=E.val j))∧∀j,p = .o j→∃k,p' = .o k):zB (E.ren a b) p' (AO a b i):=by
 cases i with
 | none=>
   intro k e;obtain⟨j,g1,g2⟩:=h2.1 k e;rw[h1,g2];exact h j g1
 | v t=>
   show(E.ren a b).own p'=none
   have h:E.own p=none:=h;cases p' with
   | o k=>
     obtain⟨j,rfl,g2⟩:=h2.1 k rfl;simp only[En.own]at h⊢;rw[h1,g2];exact h
   | s k=>cases p with
     | o j=>obtain⟨k',e⟩:=h2.2 j rfl;simp at e
     | s j=>simp only[En.own]at h⊢;rw[h1];exact h
     | x j=>simp only[En.own]at h⊢;rw[h1];exact h
   | x k=>cases p with
     | o j=>obtain⟨k',e⟩:=h2.2 j rfl;simp at e
     | s j=>simp only[En.own]at h⊢;rw[h1];exact h
     | x j=>simp only[En.own]at h⊢;rw[h1];exact h
 | box cs=>
   obtain⟨h0,b',ty,us,g1,g2,g3,g4⟩:=h;refine⟨fun k e=>?_,b',ty,us,h1.trans g1,g2,by rw[IX];exact g3,TS hab hb hv g4⟩;obtain⟨j,k1,k2⟩:=h2.1 k e;rw[k2];exact h0 j k1
 | row e k es sh=>
   obtain⟨h0,id,v,us,rfl,g2,g3,g4⟩:=h;obtain⟨k',e'⟩:=h2.2 id rfl;obtain⟨j,k1,k2⟩:=h2.1 k' e';simp only[Pl.o.injEq]at k1;subst k1;exact⟨h1.trans h0,k',v,us,e',by rw[k2,List.length_map];exact g2,by rw[List.length_map];exact g3,aaY hab hb hv g4⟩
 | wI e k es=>
   obtain⟨h0,id,v,us,rfl,g2,g3,g4⟩:=h;obtain⟨k',e'⟩:=h2.2 id rfl;obtain⟨j,k1,k2⟩:=h2.1 k' e';simp only[Pl.o.injEq]at k1;subst k1;exact⟨h1.trans h0,k',v,us,e',by rw[k2,List.length_map];exact g2,by rw[List.length_map];exact g3,aaY hab hb hv g4⟩
 | mp es=>
   obtain⟨h0,b',l,clock,g1,g2,g3,g4⟩:=h;refine⟨fun k e=>?_,b',l,clock,h1.trans g1,g2,pV.ext (E:=E) (E':=E.ren a b) ⟨fun _ _ h=>h,fun _ _ _=>rfl⟩ g3,g4⟩;obtain⟨j,k1,k2⟩:=h2.1 k e;rw[k2];exact h0 j k1
 | jX es c pd s=>
   obtain⟨id,b',l,clock,l',ty,v,rfl,g1,g2,g3,g4,g5,g6,g7,g8⟩:=h;obtain⟨k',e'⟩:=h2.2 id rfl;obtain⟨j,k1,k2⟩:=h2.1 k' e';simp only[Pl.o.injEq]at k1;subst k1;exact⟨k',b',l,clock,l',ty,v,e',h1.trans g1,g2,g3,ajh hab hb hv g4,g5,k2.trans g6,g7,g8⟩
 | IE es s=>
   obtain⟨h,g1,g2,g3,l',g4,g5⟩:=h;refine⟨?_,g1,g2,g3,l',g4,ajh hab hb hv g5⟩;cases p' with
   | o k=>
     obtain⟨j,rfl,g2⟩:=h2.1 k rfl;simp only[En.own]at h⊢;rw[h1,g2];exact h
   | s k=>cases p with
     | o j=>obtain⟨k',e⟩:=h2.2 j rfl;simp at e
     | s j=>simp only[En.own]at h⊢;rw[h1];exact h
     | x j=>simp only[En.own]at h⊢;rw[h1];exact h
   | x k=>cases p with
     | o j=>obtain⟨k',e⟩:=h2.2 j rfl;simp at e
     | s j=>simp only[En.own]at h⊢;rw[h1];exact h
     | x j=>simp only[En.own]at h⊢;rw[h1];exact h
 | DK m s left cur=>
   obtain⟨h0,r,seen,g1,g2,g3⟩:=h;refine⟨fun k e=>?_,r,seen,h1.trans g1,g2,g3⟩;obtain⟨j,k1,k2⟩:=h2.1 k e;rw[k2];exact h0 j k1
def vJ(a b:Nat)(t:S):S:=fun p=>match p with
 | .o k=>if k=b then AO a b (t (.o a))else if k=a then .none else AO a b (t (.o k))
 | p=>AO a b (t p)
theorem GS.ren{t:S}{a b:Nat}(hab:a≠b)(ho:t (.o b) = .none):GS A t (vJ a b t):=fun c w ⟨E,hw,hi⟩=>by
 have hbn:=hi.h.item (.o b) (by simp);rw[ho]at hbn
 obtain⟨hb,hv⟩:=hbn b rfl;have aql:E.own (.o b)=none:=by simp[En.own,hb,hv]
 have hox:∀i,(E.ren a b).own (.x i)=E.own (.x i):=fun i=>rfl
 have hos:∀i,(E.ren a b).own (.s i)=E.own (.s i):=fun i=>rfl
 have back:∀{p q},(E.ren a b).own p=some q→∃p',E.own p'=some q∧((p' = .o a∧p = .o b)∨(p'=p∧p≠.o a∧p≠.o b)):=fun {p q} h=>by
  cases p with
  | s k=>exact⟨.s k,h,.inr ⟨rfl,by simp,by simp⟩⟩
  | x k=>exact⟨.x k,h,.inr ⟨rfl,by simp,by simp⟩⟩
  | o k=>
    rw[ahw hab]at h
    split at h
    ·rename_i e;subst e;exact⟨.o a,h,.inl ⟨rfl,rfl⟩⟩
    ·rename_i e1;split at h
     ·simp at h
     ·rename_i e2;exact⟨.o k,h,.inr ⟨rfl,by simpa using e2,by simpa using e1⟩⟩
 refine⟨E.ren a b,hw,⟨⟨fun p hp=>?_,hi.h.frees,fun p q r h1 h2=>?_,fun p r h=>?_,hi.h.oQ,fun r o h1 p h2=>?_,fun y hy=>bQ.ext (E:=E) (E':=E.ren a b) ⟨fun _ _ h=>h,fun _ _ _=>rfl⟩ _ _ _ (hi.h.gl y hy)⟩,?_,fun k tv hk=>?_,hi.defers,hi.size⟩⟩
 ·cases p with
  | s k=>exact absurd rfl (hp k)
  | x k=>exact TU hab hb hv (hi.h.item (.x k) hp) hp rfl ⟨fun k e=>by simp at e,fun j e=>by simp at e⟩
  | o k=>
    simp only[vJ];split
    ·rename_i e;subst e;exact TU hab hb hv (hi.h.item (.o a) (by simp)) (by simp) (by simp[En.ren]) ⟨fun k e=>⟨a,rfl,by simp only[Pl.o.injEq]at e;subst e;simp[En.ren]⟩,fun j _=>⟨_,rfl⟩⟩
    ·rename_i e1;split
     ·rename_i e2;subst e2;exact fun j e=>by simp only[Pl.o.injEq]at e;subst e;simp[En.ren,e1]
     ·rename_i e2;exact TU hab hb hv (hi.h.item (.o k) hp) hp (by simp[En.ren,e1,e2]) ⟨fun j e=>⟨k,rfl,by simp only[Pl.o.injEq]at e;subst e;simp[En.ren,e1,e2]⟩,fun j _=>⟨_,rfl⟩⟩
 ·obtain⟨p',g1,g2⟩:=back h1;obtain⟨q',g3,g4⟩:=back h2;have:=hi.h.inj p' q' r g1 g3;subst this;rcases g2 with⟨e1,e2⟩|⟨e1,e2,e3⟩<;>rcases g4 with⟨e4,e5⟩|⟨e4,e5,e6⟩
  ·rw[e2,e5]
  ·exact absurd (e4.symm.trans e1) e5
  ·exact absurd (e1.symm.trans e4) e2
  ·rw[←e1,←e4]
 ·obtain⟨p',g1,_⟩:=back h;exact hi.h.size p' r g1
 ·obtain⟨p',g1,g2⟩:=back h2;obtain⟨e,k,es,g3,g4⟩:=hi.h.sep r o h1 p' g1;refine⟨e,k,es.map (TV.AP a b),?_,by simpa using g4⟩;rcases g2 with⟨rfl,rfl⟩|⟨rfl,e2,e3⟩
  ·simp only[vJ,if_true,g3];rfl
  ·cases p' with
   | s k=>have:=hi.h.frees k;simp[En.own,this]at g1
   | x k=>simp only[vJ,g3];rfl
   | o k=>
     have n1:k≠b:=by simpa using e3
     have n2:k≠a:=by simpa using e2
     simp only[vJ,if_neg n1,if_neg n2,g3];rfl
 ·refine⟨hi.fr.os,hi.fr.tape,hi.fr.output,hi.fr.size,hi.fr.old,hi.fr.xb,fun id r h=>?_,hi.fr.st,hi.fr.xg⟩;obtain⟨p',g1,g2⟩:=back h;rcases g2 with⟨rfl,_⟩|⟨rfl,_,_⟩
  ·exact hi.fr.new a r g1
  ·exact hi.fr.new id r g1
 ·simp only[vJ]at hk;cases ht:t (.s k)with
  | v tv'=>
    rw[ht]at hk
    simp only[AO,It.v.injEq]at hk;subst hk;obtain⟨u,h1,h2⟩:=hi.sl k tv' ht;exact⟨u,h1,Qx hab hb hv h2⟩
  | none=>rw[ht]at hk;simp[AO]at hk
  | box _=>rw[ht]at hk;simp[AO]at hk
  | row _ _ _ _=>rw[ht]at hk;simp[AO]at hk
  | wI _ _ _=>rw[ht]at hk;simp[AO]at hk
  | mp _=>rw[ht]at hk;simp[AO]at hk
  | jX _ _ _ _=>rw[ht]at hk;simp[AO]at hk
  | DK _ _ _ _=>rw[ht]at hk;simp[AO]at hk
  | IE _ _=>rw[ht]at hk;simp[AO]at hk
def uV(a b:Nat)(l:List (Pl×It)):List (Pl×It):=l.map fun x=>(lX a b x.1,AO a b x.2)
end
theorem Y6(a b:Nat):∀l:List D,TV.AP a b (l.map .d)=l.map .d
 | []=>rfl
 | x::l=>by simp[TV.AP,TV.ren,Y6 a b l]
theorem ahx(a b:Nat)(xs:List (List D)):(dd xs).map (TV.AP a b)=dd xs:=by
 simp only[dd,List.map_map];exact List.map_congr_left fun e _=>Y6 a b e
section
variable (a b:Nat) (cs:List TV) (e k:Nat) (es:List (List TV)) (sh:Bool) (t:TV) (m:List (Int×D))
theorem ajg:AO a b (.v t) = .v (t.ren a b):=rfl
theorem TT:AO a b (.box cs) = .box (TV.AP a b cs):=rfl
theorem afO:AO a b (.row e k es sh) = .row e k (es.map (TV.AP a b)) sh:=rfl
attribute [simp] ajg TT afO
end
attribute [simp] uV lX DT TV.ren TV.AP ahx
end Go.Tr

namespace Go.Tr
open Go
section
variable {A:eX}
theorem acp{E:En}{us:List Value}:∀{o:Nat} {ts:List TV} {xs:List D},G7 ts=some xs→bG E us o ts→bG E us o (xs.map .d)
 | _,[],_,h,_=>by simp only[G7,Option.some.injEq]at h;subst h;trivial
 | _,t::ts,xs,h,⟨⟨u,h1,h2,h3⟩,hr⟩=>by
   simp only[G7]at h;split at h
   ·rename_i x xs' g1 g2;simp only[Option.some.injEq]at h;subst h;exact⟨⟨u,h1,h2,by simp only[aA];exact XH g1 h3⟩,acp g2 hr⟩
   ·simp at h
theorem agl{ts:List TV}{xs:List D}(h:G7 ts=some xs):xs.length=ts.length:=(NH h).1
theorem V4{E:En}{us:List Value}{k:Nat}:∀{o:Nat} {es:List (List TV)} {xs:List (List D)},eu es=some xs→dK E us k o es→dK E us k o (dd xs)
 | _,[],_,h,_=>by simp only[eu,Option.some.injEq]at h;subst h;trivial
 | _,e::es,xs,h,⟨h1,h2,hr⟩=>by
   simp only[eu]at h;split at h
   ·rename_i x xs' g1 g2;simp only[Option.some.injEq]at h;subst h;exact⟨by rw[List.length_map,agl g1];exact h1,acp g1 h2,V4 g2 hr⟩
   ·simp at h
theorem GS.plain{t:S}{id e k:Nat}{es:List (List TV)}{sh:Bool}{xs:List (List D)}(ht:t (.o id) = .row e k es sh)(hx:eu es=some xs):GS A t (upd t (.o id) (.row e k (dd xs) sh)):=fun a w ⟨E,hw,hi⟩=>
 ⟨E,hw,hi.KZ ht (by rw[dd,List.length_map];exact(JK hx).1) fun _ h=>V4 hx h⟩
end
end Go.Tr
