/-
  What functions of the program compute, stated as contracts over plain data; the conditions of each stand in its own statement.
-/
import Derived.Test.YtkikielfhjoogaaGreatDoorZA17
import Derived.Test.YtkikielfhjoogaaGreatDoorZA14
import Derived.Test.YtkikielfhjoogaaGreatDoorZA30
import Derived.Test.YtkikielfhjoogaaGreatDoorZA19
import Derived.Test.YtkikielfhjoogaaGreatDoorZA16
import Derived.Test.YtkikielfhjoogaaGreatDoorZA18
import Derived.WalkKit
import Derived.StillTailTactics
import Derived.Deep.QuietTactic
import Derived.BigQuiet
import Derived.LoopN
import Derived.KernelRfl
import Derived.Test.YtkikielfhjoogaaGreatDoorZA15
import Derived.Test.YtkikielfhjoogaaGreatDoorZA23
set_option linter.unusedSimpArgs false
set_option linter.unusedVariables false
namespace Go.Tr
open Go Go.Proofs
structure Wp(P:Program)(fK fS g cmp:FuncId)(e:TypeId)(F:List (List Int)→List (List Int)):Prop where
 keys:∀(b:Nat) (w:World),Calls P fK #[.map (some b)] w fun e' w'=>∃ty,e' = .returned (.func (.func g) #[] #[.pointer (some ⟨w.heap.size,0,none⟩)])∧w'=w.alloc (.cells #[.map (some b)] ty)
 sorted:∀(Bm b:Nat) (l:Array MapEntry) (clock:Nat) (ks:List (List Int)) (w:World),Bm<w.heap.size→w.cell? ⟨Bm,0,none⟩ = some (.map (some b))→w.heap[b]? = some (.map l clock)→MapKept.Stamped l clock→
  l.toList.map (·.key)=ks.map gW→(∀k∈ks,k.length=2)→ks.length≤1000000→
  Calls P fS #[.func (.func g) #[] #[.pointer (some ⟨Bm,0,none⟩)],.func (.func cmp) #[] #[]] w fun e' w'=>∃v,e' = .returned v∧w'.ownsRow w.heap.size e 2 v ks.length (flat (F ks))∧RowKit.Below w.heap.size w w'
 len:∀zs,(F zs).length=zs.length
 row:∀zs,(∀z∈zs,z.length=2)→∀z∈F zs,z.length=2
 perm:∀{a b:List (List Int)},(∀z∈a,z.length=2)→a.Perm b→F a=F b
theorem agO{E:En}{es:List (List Int×TV)}{l' l:List MapEntry}(hp:l'.Perm l)(h:jW E es l')(hk:∀x∈es,x.1.length=2):∃ks:List (List Int),l.map (·.key)=ks.map gW∧(∀k∈ks,k.length=2)∧ks.Perm (es.map (·.1)):=by
 have h1:=JO h
 let f:MapEntry→List Int:=fun a=>match a.key with|.agg vs=>(vs.toList.map fun v=>(match v with|.int _ n=>n|_=>0))|_=>[]
 have hf:∀k:List Int,k.length=2→∀a:MapEntry,a.key=gW k→f a=k:=fun k hk a ha=>by
  match k,hk with
  | [x,y],_=>simp[f,ha,gW]
 have h2:∀a∈l',(f a).length=2∧a.key=gW (f a):=fun a ha=>by
  have hm:a.key∈es.map fun x=>gW x.1:=by rw[←h1];exact eX (f:=fun a:MapEntry=>a.key) ha
  obtain⟨x,hx,e⟩:=ak.1 hm;have:=hf x.1 (hk x hx) a e.symm;rw[this];exact⟨hk x hx,e.symm⟩
 have h3:l'.map f=es.map (·.1):=by
  have e1:∀{es:List (List Int×TV)} {l':List MapEntry},(∀x∈es,x.1.length=2)→l'.map (·.key)=es.map (fun x=>gW x.1)→l'.map f=es.map (·.1):=by
   intro es
   induction es with
   | nil=>intro l' _ e;simp at e;simp[e]
   | cons y es ih=>
     intro l' hk e;cases l' with
     | nil=>simp at e
     | cons a l'=>simp only[aC,dR]at e⊢;exact⟨hf y.1 (hk y (by simp)) a e.1,ih (fun x hx=>hk x (by simp[hx])) e.2⟩
  exact e1 hk h1
 refine⟨l.map f,?_,fun k hk'=>?_,?_⟩
 ·rw[aY];exact gU fun a ha=>(h2 a (hp.mem_iff.2 ha)).2
 ·obtain⟨a,ha,rfl⟩:=ak.1 hk';exact(h2 a (hp.mem_iff.2 ha)).1
 ·rw[←h3];exact(hp.map f).symm
section
variable {P:Program} {A:f_} {ops:Array Oper}
theorem Sum.agM{t:S}{i d:Nat}{o:Oper}{gp:List Pl}{fo x:Operand}{tys:Array TypeId}{f fS g cmp:FuncId}{e:TypeId}{F:List (List Int)→List (List Int)}{id:Nat}
  (ho:ops[i]? = some o) (hg:gv ops t o=some (gp,true)) (hd:mZ A.N o=true) (hop:o.op = .call {callee:=.value fo,args:=#[x],argTypes:=tys}) (hf:ev t fo = .clo f []) (hfn:dB P f=true)
  (C:Wp P f fS g cmp e F) (hx:ev t x = .mref id) (ht:t (.o d) = .none) :
  Sum P A ops i t (gp++(pl fo++(pl x++[.o d]))) (rM o (.clo g [.ptr (.o d) 0]) [(.o d,.box [.mref id])]):=fun t' hr a w ⟨E,hw,hi⟩ K Q hK=>by
 subst hw;have hwant:=kU hg (bf hr) hi;have hr1:=aQ hr;have hr2:=aQ hr1;have hfo:ev t' fo = .clo f []:=(dK (bf hr1)).trans hf;have hx':ev t' x = .mref id:=(dK (bf hr2)).trans hx;have ht':t' (.o d) = .none:=(aQ hr2 _ (by simp)).trans ht;have hfr:=bP hi fo;rw[hfo]at hfr
 simp only[aP,bD]at hfr;obtain⟨rU,zf,uQ⟩:=hfr;obtain rfl:rU = #[]:=by cases rU;simpa using uQ
 have hxr:=bP hi x;rw[hx']at hxr
 have alJ:=hxr;simp only[aP]at hxr;obtain⟨b,hb,hu⟩:=hxr;unfold wpOp;simp only[ho,hwant,if_true];refine .inl ?_;unfold Oper.wp;have hrun:(execOp a.eval o).run P E.w = .ok (.enter f #[.map (some b)]) E.w:=by simp only[execOp,hop,resolve,zf,Deferred.ofValue,invoke,Sem.run_bind,Sem.run_pure,Result.andThen_ok,fA,fD,iU hfn,hu,Array.map,iR];simp[hu,iU hfn]
 rw[hrun];simp only[Oper.upon];refine(C.keys b E.w).mono fun e' w' ⟨ty,he,hw'⟩=>?_
 subst he hw';obtain⟨E',hw2,hinv,hrel⟩:=hi.Vo ht' (us:=#[.map (some b)]) (cs:=[.mref id]) rfl ⟨⟨_,rfl,rfl,by rw[←hu];exact alJ⟩,trivial⟩ ty;refine hK _ _ ⟨E',hw2,?_⟩;refine eY.dst (W:=[(.o d,.box [.mref id])]) hinv hd ?_;simp only[aP,bD]at hrel⊢;exact⟨_,rfl,_,_,rfl,hrel,rfl⟩
theorem Sum.VZ{t:S}{i d:Nat}{o:Oper}{gp:List Pl}{fo x y:Operand}{tys:Array TypeId}{f fK g cmp:FuncId}{e:TypeId}{F:List (List Int)→List (List Int)}{id:Nat}{p:Pl}{es:List (List Int×TV)}{c:Nat}{pd:Option (List Int)}{sn:Option jB}
  (ho:ops[i]? = some o) (hg:gv ops t o=some (gp,true)) (hd:mZ A.N o=true) (hop:o.op = .call {callee:=.value fo,args:=#[x,y],argTypes:=tys}) (hf:ev t fo = .clo f []) (hfn:dB P f=true)
  (C:Wp P fK f g cmp e F) (hx:ev t x = .clo g [.ptr p 0]) (hy:ev t y = .clo cmp []) (hpl:rP p=true) (hp:t p = .box [.mref id]) (hm:t (.o id) = .fO es c pd sn) (hk:∀x∈es,x.1.length=2) (hl:es.length≤1000000) (ht:t (.o d) = .none) :
  Sum P A ops i t (gp++(pl fo++(pl x++(pl y++[p,.o id,.o d])))) (rM o (.aW d es.length) [(.o d,.row e 2 (dd (uj (F (es.map (·.1))))) false)]):=fun t' hr a w ⟨E,hw,hi⟩ K Q hK=>by
 subst hw;have hwant:=kU hg (bf hr) hi;have hr1:=aQ hr;have hr2:=aQ hr1;have aog:=aQ hr2;have hr3:=aQ aog;have hfo:ev t' fo = .clo f []:=(dK (bf hr1)).trans hf;have hx':ev t' x = .clo g [.ptr p 0]:=(dK (bf hr2)).trans hx;have hy':ev t' y = .clo cmp []:=(dK (bf aog)).trans hy;have hp':t' p = .box [.mref id]:=(hr3 _ (by simp)).trans hp
 have hm':t' (.o id) = .fO es c pd sn:=(hr3 _ (by simp)).trans hm;have ht':t' (.o d) = .none:=(hr3 _ (by simp)).trans ht;have hfr:=bP hi fo;rw[hfo]at hfr
 simp only[aP,bD]at hfr;obtain⟨rU,zf,uQ⟩:=hfr;obtain rfl:rU = #[]:=by cases rU;simpa using uQ
 have LC:=bP hi y;rw[hy']at LC
 simp only[aP,bD]at LC;obtain⟨aky,huy,akQ⟩:=LC;obtain rfl:aky = #[]:=by cases aky;simpa using akQ
 have hxr:=bP hi x;rw[hx']at hxr
 simp only[aP,bD]at hxr;obtain⟨us,hu,u0,us',hus,⟨b0,hb0,hu0⟩,Vb⟩:=hxr;subst Vb hu0;obtain rfl:us = #[.pointer (some ⟨b0,0,none⟩)]:=by cases us;simpa using hus
 have hbox:=hi.h.item p (fun k e=>by subst e;simp[rP]at hpl);rw[hp']at hbox
 obtain⟨_,b1,ty,cs,hb1,hh1,hsz,hc1⟩:=hbox;rw[hb0]at hb1
 simp only[ah]at hb1;subst hb1;obtain⟨⟨u1,hg1,_,hr1'⟩,_⟩:=hc1;simp only[aP]at hr1';obtain⟨b2,hb2,hu1⟩:=hr1';subst hu1;have hit:=hi.h.item (.o id) (fun k e=>by simp at e);rw[hm']at hit
 obtain⟨id',b3,l,clock,l',_,_,hpe,hb3,hh3,hperm,hrel,hst,_⟩:=hit;obtain rfl:id=id':=by simpa using hpe
 rw[hb2]at hb3
 simp only[ah]at hb3;subst hb3;obtain⟨ks,hks,hk2,hkp⟩:=agO hperm hrel hk;have hcell:E.w.cell? ⟨b0,0,none⟩ = some (.map (some b2)):=by rw[sK hh1];simpa using hg1
 have hlt:b0<E.w.heap.size:=(aZ.1 hh1).1;unfold wpOp;simp only[ho,hwant,if_true];refine .inl ?_;unfold Oper.wp;have hrun:(execOp a.eval o).run P E.w = .ok (.enter f #[.func (.func g) #[] #[.pointer (some ⟨b0,0,none⟩)],.func (.func cmp) #[] #[]]) E.w:=by simp only[execOp,hop,resolve,zf,Deferred.ofValue,invoke,Sem.run_bind,Sem.run_pure,Result.andThen_ok,fA,fD,iU hfn,hu,huy,Array.map,iR];simp[hu,huy,iU hfn]
 rw[hrun];simp only[Oper.upon];have atl:ks.length=es.length:=by rw[hkp.length_eq,aV]
 have hF:F ks=F (es.map (·.1)):=C.perm hk2 hkp;have hrow2:∀z∈F (es.map (·.1)),z.length=2:=C.row _ fun z hz=>by obtain⟨x,hx,rfl⟩:=ak.1 hz;exact hk x hx
 refine(C.sorted b0 b2 l clock ks E.w hlt hcell hh3 hst hks hk2 (by omega)).mono fun e' w' ⟨v,he,hown,hbel⟩=>?_
 rw[hF,atl]at hown
 subst he;have hgr:E.w.grownBy w' none:=⟨hbel.os,hbel.tape,hbel.output,hbel.size,fun k hk _=>hbel.block k hk⟩
 have hkl:(dd (uj (F (es.map (·.1))))).length=es.length:=by rw[GZ,C.len,aV]
 obtain⟨E',hw2,x',hinv,hval⟩:=hi.AO ht' (es:=dd (uj (F (es.map (·.1))))) (v:=v) (us:=flat (F (es.map (·.1)))) (e:=e) (k:=2) (w':=w') hgr
  (by rw[hkl];exact hown) (fun E' _ _=>Dq hrow2 (by simp))
 refine hK _ _ ⟨E',hw2,?_⟩;refine eY.dst (W:=[(.o d,.row e 2 (dd (uj (F (es.map (·.1))))) false)]) hinv hd ?_;simp only[aP];have h1:v.oneCell'=true:=by rcases hown.2 with⟨rfl,_⟩|⟨g,cap,cur,rfl,_⟩<;>rfl
 rw[hkl]at hval
 exact⟨h1,2,es.length,v,hval,au _,fun _=>rfl⟩
def VX(P:Program)(N0:Nat)(t:S)(o:Oper)(f g cmp:FuncId)(e:TypeId)(F:List (List Int)→List (List Int))(gp:List Pl)(gd:Bool)(fo x y:Operand):Option (Prop×List Pl×List (Pl×It)):=
 match ev t fo with
 | .clo f' caps=>match ev t x with
   | .clo g' [.ptr p 0]=>match ev t y with
     | .clo c' WM=>match t p with
       | .box [.mref id]=>match t (.o id)with
         | .fO es _ _ _=>match o.dst with
           | some d=>some (gd=true∧mZ N0 o=true∧f'=f∧caps = []∧dB P f=true∧g'=g∧c'=cmp∧WM = []∧rP p=true∧(∀x∈es,x.1.length=2)∧es.length≤1000000∧t (.o d) = .none,
             gp++(pl fo++(pl x++(pl y++[p,.o id,.o d]))),rM o (.aW d es.length) [(.o d,.row e 2 (dd (uj (F (es.map (·.1))))) false)])
           | none=>none
         | _=>none
       | _=>none
     | _=>none
   | _=>none
 | _=>none
def amE(t:S)(ops:Array Oper)(F:Oper→List Pl→Bool→Operand→Operand→Operand→Option (Prop×List Pl×List (Pl×It))):Option Oper→Option (Prop×List Pl×List (Pl×It))
 | some o=>match gv ops t o with
   | some (gp,g)=>match o.op with
     | .call {callee:=.value fo,args:=xs,argTypes:=_}=>match xs.toList with
       | [x,y]=>F o gp g fo x y
       | _=>none
     | _=>none
   | none=>none
 | none=>none
theorem aI.agM{i:Nat}{t:S}{k:List Pl→List (Pl×It)→Prop}{gt:Tg k}{f fS g cmp:FuncId}{e:TypeId}{F:List (List Int)→List (List Int)}(C:Wp P f fS g cmp e F)
  (h:QC k gt (aei t ops (fun o gp gd fo x=>XJ P A.N t o f g gp gd fo x) ops[i]?)):aI P A ops i t k gt:=
 aI.one (fun o gp gd fo x tys D rp W ho hg hop hc h1=>by
  unfold XJ at hc;split at hc
  ·rename_i f' caps hf;split at hc
   ·rename_i id hx;split at hc
    ·rename_i d hod;simp only[ah,aO]at hc;obtain⟨rfl,rfl,rfl⟩:=hc;obtain⟨rfl,q1,rfl,rfl,q2,q3⟩:=h1;exact Sum.agM ho hg q1 hop hf q2 C hx q3
    ·simp at hc
   ·simp at hc
  trivial) h
theorem aI.VZ{i:Nat}{t:S}{k:List Pl→List (Pl×It)→Prop}{gt:Tg k}{f fK g cmp:FuncId}{e:TypeId}{F:List (List Int)→List (List Int)}(C:Wp P fK f g cmp e F)
  (h:QC k gt (amE t ops (fun o gp gd fo x y=>VX P A.N t o f g cmp e F gp gd fo x y) ops[i]?)):aI P A ops i t k gt:=by
 unfold QC at h;split at h
 ·rename_i D rp W hc;obtain⟨h1,h2⟩:=h;refine⟨rp,W,?_,h2⟩;unfold amE at hc;split at hc
  ·rename_i o ho;split at hc
   ·rename_i gp g0 hg;split at hc
    ·rename_i fo xs tys hop;split at hc
     ·rename_i x y hxs;obtain rfl:xs = #[x,y]:=by cases xs;simpa using hxs
      change VX P A.N t o f g cmp e F gp g0 fo x y=_ at hc
      unfold VX at hc;split at hc
      ·rename_i f' caps hf;split at hc
       ·rename_i g' p hx;split at hc
        ·rename_i c' WM hy;split at hc
         ·rename_i id hp;split at hc
          ·rename_i es cc pd sn hm;split at hc
           ·rename_i d hod;simp only[ah,aO]at hc;obtain⟨rfl,rfl,rfl⟩:=hc;obtain⟨rfl,q1,rfl,rfl,q2,rfl,rfl,rfl,q3,q4,q5,q6⟩:=h1;exact Sum.VZ ho hg q1 hop hf q2 C hx hy q3 hp hm q4 q5 q6
           ·simp at hc
          ·simp at hc
         ·simp at hc
        ·simp at hc
       ·simp at hc
      ·simp at hc
     ·simp at hc
    ·simp at hc
   ·simp at hc
  ·simp at hc
 ·exact h.elim
attribute [simp] amE VX
end
end Go.Tr

set_option maxRecDepth 100000
namespace Go.Proofs
open Go Go.Tr
theorem Ja:∀{ks:List (List Int)},(∀k∈ks,k.length=2)→∃L:List (Int×Int),ks=MH L
 | [],_=>⟨[],rfl⟩
 | k::ks,h=>by
   obtain⟨L,hL⟩:=Ja (ks:=ks) fun x hx=>h x (by simp[hx])
   match k,h k (by simp)with
   | [a,b],_=>exact⟨(a,b)::L,by rw[hL];rfl⟩
theorem abT:Wp Tryz.prog 41 40 100 42 131 BO where
 keys b w:=ajp b w
 sorted Bm b l clock ks w h1 h2 h3 h4 h5 h6 h7:=by
  obtain⟨L,rfl⟩:=Ja h6;have e:(MH L).map gW=L.map Az:=by simp[MH,aY,Function.comp_def,Az,gW]
  have hl:(MH L).length=L.length:=by simp[MH]
  rw[hl]at h7⊢
  exact YN Bm b l clock h4 L (by rw[h5,e]) h7 w h1 h2 h3
 len zs:=uq.len zs
 row zs h:=uq.row zs h
 perm {a b} ha hp:=by
  obtain⟨A,rfl⟩:=Ja ha;have hb:∀z∈b,z.length=2:=fun z hz=>ha z (hp.mem_iff.2 hz)
  obtain⟨B,rfl⟩:=Ja hb;refine YO ?_;have h:=hp.map fun z:List Int=>(z.getD 0 0,z.getD 1 0)
  simpa[MH,aY,Function.comp_def]using h
abbrev IM:=List (Int×Int)
def gI:IM→Int→Option Int
 | [],_=>none
 | x::es,k=>if k=x.1 then some x.2 else gI es k
def pI:IM→Int→Int→IM
 | [],k,v=>[(k,v)]
 | x::es,k,v=>if k=x.1 then(k,v)::es else x::pI es k v
def rI(es:IM)(k:Int):IM:=es.filter fun x=>decide (x.1≠k)
def im(es:IM):List (List Int×TV):=es.map fun x=>([x.1],TV.d (.int .i64 x.2))
theorem qI:∀(es:IM) (k:Int),kJ (im es) [k]=(gI es k).map fun v=>TV.d (.int .i64 v)
 | [],_=>rfl
 | x::es,k=>by
   have ih:=qI es k;simp only[im]at ih;by_cases h:k=x.1
   ·simp[im,kJ,gI,h]
   ·simp[im,kJ,gI,h,ih]
theorem AL:∀(es:IM) (k v:Int),oq (im es) [k] (TV.d (.int .i64 v))=im (pI es k v)
 | [],_,_=>rfl
 | x::es,k,v=>by
   have ih:=AL es k v;simp only[im]at ih;by_cases h:k=x.1
   ·simp[im,oq,pI,h]
   ·simp[im,oq,pI,h,ih]
theorem ab2(es:IM)(k:Int):aak (im es) [k]=im (rI es k):=by
 simp only[aak,im,rI,List.filter_map]
 congr 1
 refine iy fun x _=>?_
 simp
def Bv(ls:List Lk)(x:Int):IM:=ls.flatMap fun l=>(if l.b=x then [(l.a,l.ca)]else [])++(if l.a=x then [(l.b,l.cb)]else [])
def yB(ls:List Lk)(x:Int):IM:=ls.flatMap fun l=>(if l.a=x then [(l.b,l.ca)]else [])++(if l.b=x then [(l.a,l.cb)]else [])
end Go.Proofs

set_option maxHeartbeats 2000000
namespace Go.Proofs
open Go.Shelf Go.RowKit Go.Lib Go.Sort
theorem amq(x y:List Int)(W:World)(hx:x.length=2)(hy:y.length=2):Calls Tryz.prog 147 #[.agg (x.map (Value.int .i64)).toArray,.agg (y.map (Value.int .i64)).toArray] W fun e w'=>e = .returned (.int .i64 (Lib.compareInt (x.getD 0 0) (y.getD 0 0)))∧∃q os',w'=Go.Sort.grow (W.drewN q) os':=by
 obtain⟨x0,x1,rfl⟩:∃a b,x = [a,b]:=by
  match x,hx with
  | [a,b],_=>exact⟨a,b,rfl⟩
 obtain⟨y0,y1,rfl⟩:∃a b,y = [a,b]:=by
  match y,hy with
  | [a,b],_=>exact⟨a,b,rfl⟩
 have hcon:=fun W'=>AnyG.cmp_Compare_int Tryz.cmpInt x0 y0 W'
 change ∀W',Calls Tryz.prog 102 _ _ _ at hcon
 change Calls Tryz.prog 147 #[.agg #[.int .i64 x0,.int .i64 x1],.agg #[.int .i64 y0,.int .i64 y1]] W fun e w'=>e = .returned (.int .i64 (Lib.compareInt x0 y0))∧∃q os',w'=Go.Sort.grow (W.drewN q) os'
 generalize Lib.compareInt x0 y0=r at hcon⊢
 go_enter Tryz.func147,Tryz.ntmps147
 go_wp2_with (go_at_call 102;refine(hcon _).mono ?_;rintro e w' ⟨rfl,rfl⟩)
 go_ret
 exact⟨rfl,0,_,by rw[alloc_eq_grow,alloc_eq_grow,grow_grow];rfl⟩
end Go.Proofs

namespace Go.Proofs
open Go Go.Tr Go.Shelf
def cfS(x y:List Int):Int:=Lib.compareInt (x.getD 0 0) (y.getD 0 0)
theorem aa7:Bl Tryz.prog 146 147 2 (yX cfS) (fun zs=>zs.mergeSort fun x y=>!decide (cfS y x<0)):=
 Bl.of Tryz.ah9 (by omega) (fun w=>by kernel_rfl) (fun w=>by kernel_rfl) cfS 147 (enters_of Tryz.func147 (by kernel_rfl) rfl) (fun x y W hx hy=>amq x y W hx hy)
theorem aiR(x y:Int):Lib.compareInt x y<0↔x<y:=by unfold Lib.compareInt;split<;>(try split)<;>omega
theorem y5(x y:List Int):cfS x y<0↔x.getD 0 0<y.getD 0 0:=aiR _ _
theorem aer{zs:List (List Int)}(h:zs.Pairwise fun x y=>x.getD 0 0<y.getD 0 0):yX cfS zs:=
 ⟨fun x _=>by rw[y5];omega,fun x _ y _ z _=>by rw[y5,y5,y5];omega,fun x _ y _ z _=>by rw[y5,y5,y5];omega,
  fun x hx y hy=>by
   rw[y5,y5];intro h1 h2;have e:x.getD 0 0=y.getD 0 0:=by omega
   obtain⟨i,hi,rfl⟩:=dW.1 hx;obtain⟨j,hj,rfl⟩:=dW.1 hy;have hp:=bC.1 h;rcases lq i j with g|g|g
   ·have:=hp i j hi hj g;omega
   ·subst g;rfl
   ·have:=hp j i hj hi g;omega⟩
theorem aia{zs:List (List Int)}(h:zs.Pairwise fun x y=>x.getD 0 0<y.getD 0 0):(zs.mergeSort fun x y=>!decide (cfS y x<0))=zs:=by refine List.mergeSort_of_pairwise (h.imp fun {x y} hxy=>?_);rw[fB,decide_eq_false_iff_not,y5];omega
end Go.Proofs

set_option maxHeartbeats 16000000
namespace Go.Proofs
open Go Go.Tr
def mg(rs:List Rt)(i:Nat):Int:=(rs.getD i ⟨0,false⟩).id
def rD(rs:List Rt)(i:Nat):List Int:=[mg rs i]
def yV(l:IM):List (List D):=l.map fun x=>[.int .i64 x.1,.int .i64 x.2]
@[simp]theorem aq2(l:IM):(yV l).length=l.length:=by simp[yV]
theorem II{rs:List Rt}(nd:(rs.map Rt.id).Nodup){i j:Nat}(hi:i<rs.length)(hj:j<rs.length)(h:mg rs i=mg rs j):i=j:=by
 unfold mg at h;rw[aK,aK,aj hi,aj hj]at h
 simp only[bZ]at h;have h2:=bC.1 (gV.1 nd);rcases lq i j with e|e|e
 ·exact absurd (by rw[jv,jv];exact h) (h2 i j (by simpa using hi) (by simpa using hj) e)
 ·exact e
 ·exact absurd (by rw[jv,jv];exact h.symm) (h2 j i (by simpa using hj) (by simpa using hi) e)
theorem ahS{rs:List Rt}{v:Int}(h:v∈rs.map Rt.id):∃i,i<rs.length∧mg rs i=v:=by obtain⟨r,hr,rfl⟩:=ak.1 h;obtain⟨i,hi,rfl⟩:=dW.1 hr;exact⟨i,hi,by simp[mg,hi]⟩
theorem Eb(n b:Nat)(rs:List Rt)(f:Nat→Nat):rQ 1 (nT n b (rD rs) f):=fun y hy=>by obtain⟨i,hi,rfl⟩:=ak.1 hy;rfl
theorem ahi(ls:List Lk)(x:Lk)(v:Int):yB (ls++[x]) v=yB ls v++((if x.a=v then [(x.b,x.ca)]else [])++(if x.b=v then [(x.a,x.cb)]else [])):=by simp[yB]
theorem agE(ls:List Lk)(x:Lk)(v:Int):Bv (ls++[x]) v=Bv ls v++((if x.b=v then [(x.a,x.ca)]else [])++(if x.a=v then [(x.b,x.cb)]else [])):=by simp[Bv]
theorem Pz(v:Int):∀ls:List Lk,(yB ls v).length≤2*ls.length
 | []=>by simp[yB]
 | x::ls=>by have h:=Pz v ls;rw[yB,jf,aU,aU,←yB,aH];split<;>split<;>simp only[aH,dh]<;>omega
theorem Vd(v:Int):∀ls:List Lk,(Bv ls v).length≤2*ls.length
 | []=>by simp[Bv]
 | x::ls=>by have h:=Vd v ls;rw[Bv,jf,aU,aU,←Bv,aH];split<;>split<;>simp only[aH,dh]<;>omega
theorem Uf{α:Type}{rs:List Rt}(F:Int→α):(List.range rs.length).map (fun i=>F (mg rs i))=rs.map fun x=>F x.id:=by
 refine lQ (by simp) fun i h1 h2=>?_
 simp only[aV,pz]at h1;simp[mg,h1]
theorem ahJ(g:aX)(hn:g.rs.length≤256)(hl:g.ls.length≤1024)(nd:(g.rs.map Rt.id).Nodup)(he:∀x∈g.ls,x.a∈g.rs.map Rt.id∧x.b∈g.rs.map Rt.id)(hab:∀x∈g.ls,x.a≠x.b)(hpw:∀v,(yB g.ls v).Pairwise fun a b=>a.1<b.1):Contract Tryz.prog 95 [eU g] [] (.agg [.d (.mp (g.rs.map fun x=>[x.id]) (g.rs.map fun x=>.sl (yV (yB g.ls x.id)))),.d (.mp (g.rs.map fun x=>[x.id]) (g.rs.map fun x=>.sl (yV (Bv g.ls x.id))))]) [] []:=by
 refine ay Tryz.func95 rfl (fun E0=>?_);refine iC.sound (g:=.mk) (ow:=[3000009,3000010,1000146]) (kp:=(kb 0x1400000000000000001e001e1af)) ?_;rw[Tryz.ntmps95];simp -dsimp[eU];and_intros;all_goals try first|omega|exact⟨by kernel_rfl⟩|rfl
 refine dD.of [3000009,3000010,1000146] (kb 0x1400000000000000001e001e1af) (ι:={z:Nat×(Nat×Option (List Int))×Nat×Option (List Int) // z.1≤g.rs.length})
  (fun z=>qw 9000 z.1.1 (fun _=>It.row 254 2 [] false) (qw 19000 z.1.1 (fun _=>It.row 254 2 [] false) [(.o 1,It.box [TV.d (.sl (rts g.rs)),TV.d (.sl (nS g.ls))]),(.s 1,It.v (.ptr (.o 1) 0)),
    (.o 2,It.box [TV.c (Value.map none),TV.c (Value.map none)]),(.s 2,It.v (.ptr (.o 2) 0)),
    (.o 9,It.fO (nT z.1.1 9000 (rD g.rs) fun _=>0) z.1.2.1.1 z.1.2.1.2 none),(.o 10,It.fO (nT z.1.1 19000 (rD g.rs) fun _=>0) z.1.2.2.1 z.1.2.2.2 none),(.o 3,It.box [TV.mref 9,TV.mref 10]),
    (.s 3,It.v (.ptr (.o 3) 0)),(.s 13,It.v (.d (.sl (rts g.rs)))),
    (.s 14,It.v (.d (.int .i64 ↑g.rs.length))),(.s 15,It.v (.d (.int .i64 z.1.1)))]))
  (fun z=>g.rs.length-z.1.1) ⟨(0,(0,none),0,none),by omega⟩ ?_ ?_
 ·exact GS.to (by simp[Ol,nT])
 ·rintro⟨⟨i,⟨c1,p1⟩,c2,p2⟩,i1⟩;simp only at i1;by_cases hi:i<g.rs.length
  ·have hiz:(i:Int)<g.rs.length:=by omega
   have hgi:g.rs[i]? = some g.rs[i]:=aj hi;have hid:g.rs[i].id=mg g.rs i:=by simp[mg,hi]
   have hkn:=fun b f v=>agS (n:=i) (b:=b) (f:=f) (k:=rD g.rs) (fun j hj e=>by have:=II nd (i:=j) (j:=i) (by omega) hi (by simpa[rD]using e);omega) v
   simp only[rD]at hkn;generalize g.rs[i]=y at hgi hid;have w1:IntKind.i64.wrap ((i:Int)+1)=(i:Int)+1:=wrap_i64 (by omega) (by omega);have ei:i≤10000:=by omega
   simp -dsimp[hiz,rts,hgi,hid,hkn,Rt.cs,w1];refine⟨Eb _ _ _ _,Eb _ _ _ _,⟨⟨(i+1,(c1,none),c2,none),by omega⟩,?_,by simp;omega⟩,?_⟩
   ·refine GS.an6 (i:=i) (k:=rD g.rs) (c0:=c1) (c1:=c2) (pd0:=none) (pd1:=none) (s0:=none) (s1:=none) 9 10 9000 19000 254 2 (by simp[rD]) (by simp[rD]) (by simp(disch:=omega) [jS,jT]) (by simp(disch:=omega) [jS,jT]) (by decide) (by omega) (by omega) (by omega) (by omega) (by omega) ?_;refine⟨Sub.afX (n:=i+1) (m:=i+1) (by omega) (fun j hj=>?_) (fun j hj=>?_) ?_ ?_ ?_ ?_,?_⟩
    ·rcases (by omega:j<i∨j=i)with h|h
     ·simp(disch:=omega) [jS,jT,h]
     ·subst h;simp(disch:=omega) [jS,jT]
    ·rcases (by omega:j<i∨j=i)with h|h
     ·simp(disch:=omega) [jS,jT,h]
     ·subst h;simp(disch:=omega) [jS,jT]
    ·simp(disch:=omega) [jS,jT,rts]
    ·simp
    ·simp
    ·simp(disch:=omega);exact⟨fun j hj=>by omega,fun j hj=>by omega⟩
    ·simp(disch:=omega) [jS,jT]
   ·exact⟨by kernel_rfl⟩
  ·have hiz :¬(i:Int)<g.rs.length:=by omega
   obtain rfl:i=g.rs.length:=by omega
   simp -dsimp[hiz];and_intros;all_goals try first|omega|exact⟨by kernel_rfl⟩|rfl
   refine dD.of [3000009,3000010,1000146] (kb 0x1400000000000000001e001e1af) (ι:={z:Nat×(Nat×Option (List Int))×Nat×Option (List Int) // z.1≤g.ls.length})
    (fun z=>qw 9000 g.rs.length (fun j=>It.row 254 2 (dd (yV (yB (g.ls.take z.1.1) (mg g.rs j)))) false) (qw 19000 g.rs.length (fun j=>It.row 254 2 (dd (yV (Bv (g.ls.take z.1.1) (mg g.rs j)))) false) [
      (.o 2,It.box [TV.c (Value.map none),TV.c (Value.map none)]),(.s 2,It.v (.ptr (.o 2) 0)),
      (.o 9,It.fO (nT g.rs.length 9000 (rD g.rs) fun j=>(yB (g.ls.take z.1.1) (mg g.rs j)).length) z.1.2.1.1 z.1.2.1.2 none),(.o 10,It.fO (nT g.rs.length 19000 (rD g.rs) fun j=>(Bv (g.ls.take z.1.1) (mg g.rs j)).length) z.1.2.2.1 z.1.2.2.2 none),(.o 3,It.box [TV.mref 9,TV.mref 10]),
      (.s 3,It.v (.ptr (.o 3) 0)),(.s 29,It.v (.d (.sl (nS g.ls)))),
      (.s 30,It.v (.d (.int .i64 ↑g.ls.length))),(.s 31,It.v (.d (.int .i64 z.1.1)))]))
    (fun z=>g.ls.length-z.1.1) ⟨(0,(c1,p1),c2,p2),by omega⟩ ?_ ?_
   ·refine GS.to ⟨Sub.afX (n:=g.rs.length) (m:=g.rs.length) (by omega) (fun j hj=>?_) (fun j hj=>?_) ?_ ?_ ?_ ?_,?_⟩
    ·simp(disch:=omega) [jS,jT,hj,yB,yV]
    ·simp(disch:=omega) [jS,jT,hj,Bv,yV]
    ·simp(disch:=omega) [jS,jT,nS,yB,Bv]
    ·simp
    ·simp
    ·simp(disch:=omega);exact⟨fun j hj=>by omega,fun j hj=>by omega⟩
    ·simp(disch:=omega) [jS,jT]
   ·rintro⟨⟨k,⟨c1,p1⟩,c2,p2⟩,k1⟩;simp only at k1;by_cases hk:k<g.ls.length
    ·have hkz:(k:Int)<g.ls.length:=by omega
     have hgk:g.ls[k]? = some g.ls[k]:=aj hk;have hx:=he g.ls[k] (aJ hk);have hab:=hab g.ls[k] (aJ hk);have htk:g.ls.take (k+1)=g.ls.take k++[g.ls[k]]:=by rw[aT,hgk];rfl
     obtain⟨x,ex⟩:∃x,g.ls[k]=x:=⟨_,rfl⟩
     rw[ex]at hgk hx hab htk
     obtain⟨ia,hia,ea⟩:=ahS hx.1;obtain⟨ib,hib,eb⟩:=ahS hx.2;have hne:ia≠ib:=fun e=>hab (by rw[←ea,←eb,e])
     have hne':ib≠ia:=fun e=>hne e.symm
     have hinj:∀i j,i<g.rs.length→j<g.rs.length→rD g.rs i=rD g.rs j→i=j:=fun i j hi hj e=>II nd hi hj (by simpa[rD]using e)
     have hga:∀b f,kJ (nT g.rs.length b (rD g.rs) f) [x.a]=some (.aW (b+ia) (f ia)):=fun b f=>by rw[←ea];exact O4 hinj hia
     have hgb:∀b f,kJ (nT g.rs.length b (rD g.rs) f) [x.b]=some (.aW (b+ib) (f ib)):=fun b f=>by rw[←eb];exact O4 hinj hib
     have hpa:∀b f m,oq (nT g.rs.length b (rD g.rs) f) [x.a] (.aW (b+ia) m)=nT g.rs.length b (rD g.rs) (fun j=>if j=ia then m else f j):=fun b f m=>by rw[←ea];exact XY hinj hia
     have hpb:∀b f m,oq (nT g.rs.length b (rD g.rs) f) [x.b] (.aW (b+ib) m)=nT g.rs.length b (rD g.rs) (fun j=>if j=ib then m else f j):=fun b f m=>by rw[←eb];exact XY hinj hib
     have w1:IntKind.i64.wrap ((k:Int)+1)=(k:Int)+1:=wrap_i64 (by omega) (by omega);have da1:9000+g.rs.length≤19000+ia:=by omega
     have da2:g.rs.length≤10000+ia:=by omega
     have db1:9000+g.rs.length≤19000+ib:=by omega
     have db2:g.rs.length≤10000+ib:=by omega
     simp -dsimp(maxSteps:=1000000) [hkz,nS,hgk,ex,Lk.cs,w1,hga,hgb,hpa,hpb,hia,hib,hne,hne',Eb,jS,jT,da1,da2,db1,db2];have aji:∀j,j<g.rs.length→(x.a=mg g.rs j↔j=ia)∧(x.b=mg g.rs j↔j=ib):=fun j hj=>by rw[←ea,←eb];exact⟨⟨fun e=>(II nd hia hj e).symm,fun e=>by rw[e]⟩,⟨fun e=>(II nd hib hj e).symm,fun e=>by rw[e]⟩⟩
     have hO:∀j,j<g.rs.length→yB (g.ls.take (k+1)) (mg g.rs j)=if j=ib then yB (g.ls.take k) (mg g.rs ib)++[(x.a,x.cb)]else if j=ia then yB (g.ls.take k) (mg g.rs ia)++[(x.b,x.ca)]else yB (g.ls.take k) (mg g.rs j):=fun j hj=>by
      obtain⟨r1,r2⟩:=aji j hj;rw[htk,ahi];by_cases h1:j=ib
      ·have h2:j≠ia:=fun e=>hne (e.symm.trans h1)
       rw[if_neg (fun e=>h2 (r1.1 e)),if_pos (r2.2 h1),if_pos h1,h1];rfl
      ·rw[if_neg (fun e=>h1 (r2.1 e)),if_neg h1];by_cases h2:j=ia
       ·rw[if_pos (r1.2 h2),if_pos h2,h2];rfl
       ·rw[if_neg (fun e=>h2 (r1.1 e)),if_neg h2];simp
     have hI:∀j,j<g.rs.length→Bv (g.ls.take (k+1)) (mg g.rs j)=if j=ia then Bv (g.ls.take k) (mg g.rs ia)++[(x.b,x.cb)]else if j=ib then Bv (g.ls.take k) (mg g.rs ib)++[(x.a,x.ca)]else Bv (g.ls.take k) (mg g.rs j):=fun j hj=>by
      obtain⟨r1,r2⟩:=aji j hj;rw[htk,agE];by_cases h1:j=ia
      ·have h2:j≠ib:=fun e=>hne (h1.symm.trans e)
       rw[if_neg (fun e=>h2 (r2.1 e)),if_pos (r1.2 h1),if_pos h1,h1];rfl
      ·rw[if_neg (fun e=>h1 (r1.1 e)),if_neg h1];by_cases h2:j=ib
       ·rw[if_pos (r2.2 h2),if_pos h2,h2];rfl
       ·rw[if_neg (fun e=>h2 (r2.1 e)),if_neg h2];simp
     have hMO:(nT g.rs.length 9000 (rD g.rs) fun j=>(yB (g.ls.take (k+1)) (mg g.rs j)).length)=nT g.rs.length 9000 (rD g.rs) fun j=>if j=ib then(yB (g.ls.take k) (mg g.rs ib)).length+1 else if j=ia then(yB (g.ls.take k) (mg g.rs ia)).length+1 else(yB (g.ls.take k) (mg g.rs j)).length:=
      O3 fun j hj=>by rw[hO j hj];(split<;>try split)<;>simp
     have hMI:(nT g.rs.length 19000 (rD g.rs) fun j=>(Bv (g.ls.take (k+1)) (mg g.rs j)).length)=nT g.rs.length 19000 (rD g.rs) fun j=>if j=ia then(Bv (g.ls.take k) (mg g.rs ia)).length+1 else if j=ib then(Bv (g.ls.take k) (mg g.rs ib)).length+1 else(Bv (g.ls.take k) (mg g.rs j)).length:=
      O3 fun j hj=>by rw[hI j hj];(split<;>try split)<;>simp
     have lk:=List.length_take_le k g.ls;have l1:=Pz (mg g.rs ia) (g.ls.take k);have l2:=Pz (mg g.rs ib) (g.ls.take k);have l3:=Vd (mg g.rs ia) (g.ls.take k);have l4:=Vd (mg g.rs ib) (g.ls.take k);refine⟨by omega,by omega,by omega,by omega,by omega,by omega,by omega,by omega,⟨⟨(k+1,(c1,none),c2,none),by omega⟩,?_,by simp;omega⟩,?_,?_,?_,?_⟩
     ·refine GS.to ⟨Sub.afX (n:=g.rs.length) (m:=g.rs.length) (by omega) (fun j hj=>?_) (fun j hj=>?_) ?_ ?_ ?_ ?_,?_⟩
      ·simp[hj,hO j hj];split<;>try split
       all_goals simp[yV,dd]
      ·have e1:9000+g.rs.length≤19000+j:=by omega
       have e2:g.rs.length≤10000+j:=by omega
       simp[hj,hI j hj,e1,e2];split<;>try split
       all_goals simp[yV,dd]
      ·simp[nS,hMO,hMI]
      ·simp
      ·simp
      ·simp;exact⟨fun j hj=>by omega,fun j hj=>by omega⟩
      ·simp
     ·refine BQ.ren (fun p=>if p = .o (19000+ia)then .o 9000 else p) ?_
      conv=>lhs;arg 2;simp[yD,jS,jT]
      kernel_rfl
     ·refine BQ.ren (fun p=>if p = .o (19000+ib)then .o 9000 else p) ?_
      conv=>lhs;arg 2;simp[yD,jS,jT]
      kernel_rfl
     ·refine BQ.ren (fun p=>if p = .o (9000+ib)then .o 9000 else p) ?_
      conv=>lhs;arg 2;simp[yD,jS,jT]
      kernel_rfl
     ·refine BQ.ren (fun p=>if p = .o (9000+ia)then .o 9000 else p) ?_
      conv=>lhs;arg 2;simp[yD,jS,jT]
      kernel_rfl
    ·have hkz :¬(k:Int)<g.ls.length:=by omega
     obtain rfl:k=g.ls.length:=by omega
     rw[lT];simp -dsimp[hkz];refine oG.range ?_;simp -dsimp[Gp,F9];intro sn;refine dD.of [3000009,3000010,1000146] (kb 0x1400000000000000001e001e1af) (ι:={z:List (List Int)×Option (List Int) // ∀k∈z.1,∃i,i<g.rs.length∧k = [mg g.rs i]})
      (fun z=>qw 9000 g.rs.length (fun j=>It.row 254 2 (dd (yV (yB g.ls (mg g.rs j)))) false) (qw 19000 g.rs.length (fun j=>It.row 254 2 (dd (yV (Bv g.ls (mg g.rs j)))) false) [
        (.o 2,It.box [TV.c (Value.map none),TV.c (Value.map none)]),(.s 2,It.v (.ptr (.o 2) 0)),
        (.o 9,It.fO (nT g.rs.length 9000 (rD g.rs) fun j=>(yB g.ls (mg g.rs j)).length) c1 p1 (some sn)),(.o 10,It.fO (nT g.rs.length 19000 (rD g.rs) fun j=>(Bv g.ls (mg g.rs j)).length) c2 p2 none),(.o 3,It.box [TV.mref 9,TV.mref 10]),
        (.s 3,It.v (.ptr (.o 3) 0)),(.s 102,It.v (.ptr (.o 102) 0)),(.o 102,It.yt 9 sn z.1.1 z.1.2)]))
      (fun z=>z.1.1.length) ⟨((nT g.rs.length 9000 (rD g.rs) fun j=>(yB g.ls (mg g.rs j)).length).map (·.1),none),fun k hk=>?_⟩ ?_ ?_
     ·simp only[nT,aY,ak,bI]at hk;obtain⟨i,hi,rfl⟩:=hk;exact⟨i,hi,rfl⟩
     ·refine GS.to ⟨Sub.afX (n:=g.rs.length) (m:=g.rs.length) (by omega) (fun j hj=>?_) (fun j hj=>?_) ?_ ?_ ?_ ?_,?_⟩
      ·simp[hj]
      ·have e1:9000+g.rs.length≤19000+j:=by omega
       have e2:g.rs.length≤10000+j:=by omega
       simp[hj,e1,e2]
      ·simp
      ·simp
      ·simp
      ·simp;exact⟨fun j hj=>by omega,fun j hj=>by omega⟩
      ·simp
     ·rintro⟨⟨left,cur⟩,j1⟩;simp only at j1;simp -dsimp;refine oG.next ?_;simp -dsimp[Ph];refine⟨fun hl0=>?_,fun x hx=>?_⟩
      ·subst hl0;refine Fin.ghost (t':=Tr.look [(.o 9,It.fO ((List.range g.rs.length).map fun i=>(rD g.rs i,TV.d (.sl (yV (yB g.ls (mg g.rs i)))))) c1 p1 (some sn)),(.o 10,It.fO ((List.range g.rs.length).map fun i=>(rD g.rs i,TV.d (.sl (yV (Bv g.ls (mg g.rs i)))))) c2 p2 none),(.o 2,It.box [TV.mref 9,TV.mref 10]),(.s 2,It.v (.ptr (.o 2) 0))]) ?_
        ((GS.ah2 (nR:=9) (b:=9000) (n:=g.rs.length) (e:=254) (z:=2) (k:=rD g.rs) (xs:=fun j=>yV (yB g.ls (mg g.rs j))) (c:=c1) (pd:=p1) (s:=some sn) (by simp) (fun i hi=>by simp[hi]) (by omega)).trans
          ((GS.ah2 (nR:=10) (b:=19000) (n:=g.rs.length) (e:=254) (z:=2) (k:=rD g.rs) (xs:=fun j=>yV (Bv g.ls (mg g.rs j))) (c:=c2) (pd:=p2) (s:=none) ?_ (fun i hi=>?_) (by omega)).trans (GS.abI ⟨?_,?_⟩ ?_)))
       ·have eO:((List.range g.rs.length).map fun i=>(rD g.rs i,TV.d (.sl (yV (yB g.ls (mg g.rs i))))))=(g.rs.map fun x=>([x.id],D.sl (yV (yB g.ls x.id)))).map fun x=>(x.1,TV.d x.2):=by
         exact(Uf (rs:=g.rs) (fun v=>([v],TV.d (.sl (yV (yB g.ls v)))))).trans (by rw[aY];rfl)
        have eI:((List.range g.rs.length).map fun i=>(rD g.rs i,TV.d (.sl (yV (Bv g.ls (mg g.rs i))))))=(g.rs.map fun x=>([x.id],D.sl (yV (Bv g.ls x.id)))).map fun x=>(x.1,TV.d x.2):=by exact(Uf (rs:=g.rs) (fun v=>([v],TV.d (.sl (yV (Bv g.ls v)))))).trans (by rw[aY];rfl)
        rw[eO,eI];refine Fin.rO 9 (g.rs.map fun x=>([x.id],D.sl (yV (yB g.ls x.id)))) rfl ?_;simp;refine Fin.rO 10 (g.rs.map fun x=>([x.id],D.sl (yV (Bv g.ls x.id)))) (c:=c2) (pd:=p2) (s:=none) (by simp) ?_;simp;refine Fin.of ?_;simp[qj]
       ·rw[Dw (by omega) (by omega)];simp
       ·rw[Dw (by omega) (by omega)];have e1:9000+g.rs.length≤19000+i:=by omega
        have e2:g.rs.length≤10000+i:=by omega
        simp[hi,e1,e2]
       ·simp only[List.forall_mem_cons,List.not_mem_nil,false_imp_iff,implies_true,and_true];refine⟨?_,?_,?_,?_⟩
        ·rw[Dw (by omega) (by omega),YD];simp
        ·rw[YD];simp
        ·rw[Dw (by omega) (by omega),Dw (by omega) (by omega)];simp
        ·rw[ah3,ah3];simp
       ·simp
       ·intro i;rw[ah4,ah4];simp
      ·obtain⟨ia,hia,rfl⟩:=j1 x hx;have hinj:∀i j,i<g.rs.length→j<g.rs.length→rD g.rs i=rD g.rs j→i=j:=fun i j hi hj e=>II nd hi hj (by simpa[rD]using e)
       have hga:∀b f,kJ (nT g.rs.length b (rD g.rs) f) [mg g.rs ia]=some (.aW (b+ia) (f ia)):=fun b f=>O4 hinj hia
       simp -dsimp[hia,hga,Eb,jS,jT];have hpw:=hpw (mg g.rs ia);have hle:=Pz (mg g.rs ia) g.ls;obtain⟨zs,hzs⟩:∃zs,zs=(yB g.ls (mg g.rs ia)).map fun x=>[x.1,x.2]:=⟨_,rfl⟩
       have hR:dd (yV (yB g.ls (mg g.rs ia)))=dd (uj zs):=by rw[hzs];simp[yV,uj,dd]
       have hpz:zs.Pairwise fun x y=>x.getD 0 0<y.getD 0 0:=by rw[hzs,d_];exact hpw.imp fun {a b} h=>by simpa using h
       have hlz:zs.length=(yB g.ls (mg g.rs ia)).length:=by rw[hzs,aV]
       have hpre:=aer hpz;have hS:=aia hpz;refine aI.YL aa7 zs ?_;simp -dsimp[hia,hR,hlz,hpre,hS];refine⟨by omega,⟨(left.erase [mg g.rs ia],some [mg g.rs ia]),fun y hy=>j1 y (List.mem_of_mem_erase hy)⟩,GS.to ⟨Sub.afX (n:=g.rs.length) (m:=g.rs.length) (by omega) (fun j hj=>?_) (fun j hj=>?_) ?_ ?_ ?_ ?_,?_⟩,?_⟩
       ·simp[hj];intro e;rw[e,hR]
       ·have e1:9000+g.rs.length≤19000+j:=by omega
        have e2:g.rs.length≤10000+j:=by omega
        simp[hj,e1,e2]
       ·simp
       ·simp
       ·simp
       ·simp;exact⟨fun j hj=>by omega,fun j hj=>by omega⟩
       ·simp
       ·simp only[ig hx];have:=fZ hx;omega
theorem JG{es:IM}{k v:Int}(h:gI es k=some v):(k,v)∈es:=by
 induction es with
 | nil=>trivial
 | cons x es ih=>grind[gI]
theorem ES{es:IM}(nd:(es.map (·.1)).Nodup){k v:Int}(h:(k,v)∈es):gI es k=some v:=by
 induction es with
 | nil=>trivial
 | cons x es ih=>
   rw[gI]
   grind
theorem abN{es:IM}{k:Int}:gI es k=none↔k∉es.map (·.1):=by
 induction es with
 | nil=>simp[gI]
 | cons x es ih=>
   rw[gI]
   grind
theorem ahk{es:IM}(nd:(es.map (·.1)).Nodup){k v:Int}{x:Int×Int}:x∈pI es k v↔x=(k,v)∨(x∈es∧x.1≠k):=by
 induction es with
 | nil=>simp[pI]
 | cons y es ih=>
   rw[pI]
   grind
theorem ajM{es:IM}{k v:Int}:∀x,x∈(pI es k v).map (·.1)↔x=k∨x∈es.map (·.1):=by
 induction es with
 | nil=>simp[pI]
 | cons y es ih=>
   rw[pI]
   grind
theorem akW{es:IM}(nd:(es.map (·.1)).Nodup)(k v:Int):((pI es k v).map (·.1)).Nodup:=by
 induction es with
 | nil=>simp[pI]
 | cons y es ih=>
   rw[aC,bG]at nd
   rw[pI];by_cases h:k=y.1
   ·simp[*]
   ·grind[ajM]
theorem al2{es:IM}{k:Int}(h:k∉es.map (·.1))(v:Int):(pI es k v).length=es.length+1:=by
 induction es with
 | nil=>rfl
 | cons y es ih=>simp only[aC,aF,not_or]at h;rw[pI,if_neg h.1,aH,ih h.2,aH]
theorem aaN{es:IM}{k:Int}{x:Int×Int}:x∈rI es k↔x∈es∧x.1≠k:=by simp[rI]
theorem aoZ{es:IM}(nd:(es.map (·.1)).Nodup)(k:Int):((rI es k).map (·.1)).Nodup:=by grind[rI]
structure Dj(g:aX)(to:Int)(out opn:IM):Prop where
 o1:∀x∈out,dF g.rs x.1=true∧x.2=dst g to x.1∧x.2<far
 o2:∀x∈opn,dF g.rs x.1=true∧x.1∉out.map (·.1)∧∃k,Wk g to k x.1 x.2
 o3:∀b∈out,∀y q,price g.ls y b.1=some q→y∈out.map (·.1)∨∃c,(y,c)∈opn∧c≤q+b.2
 o4:to∈out.map (·.1)∨(to,0)∈opn
 n1:(out.map (·.1)).Nodup
 n2:(opn.map (·.1)).Nodup
theorem Dj.init{g:aX}{to:Int}(hto:dF g.rs to=true):Dj g to [] [(to,0)]:=
 ⟨by simp,by simp only[dH];rintro x rfl;exact⟨hto,by simp,0,.nil⟩,by simp,.inr (by simp),by simp,by simp⟩
theorem Dj.low{g:aX}(hg:g.Ok){to:Int}{out opn:IM}(h:Dj g to out opn){k:Nat}{x v:Int}(hw:Wk g to k x v):x∉out.map (·.1)→∃y∈opn,y.2≤v:=by
 induction hw with
 | nil=>intro hx;exact⟨_,h.o4.resolve_left hx,fM _⟩
 | @cons k x y c v hp hw ih=>
   intro hx;have hc:=qN hg hp;by_cases hy:y∈out.map (·.1)
   ·obtain⟨b,hb,rfl⟩:=ak.1 hy;have hv:=(h.o1 b hb).2.1;rcases h.o3 b hb x c hp with g1|⟨d,g1,g2⟩
    ·trivial
    ·refine⟨_,g1,?_⟩;have hto:dF g.rs to=true:=by
      rcases h.o4 with g3|g3
      ·obtain⟨z,hz,rfl⟩:=ak.1 g3;exact(h.o1 z hz).1
      ·exact(h.o2 _ g3).1
     have:=(wH hg hto hw).1;omega
   grind
theorem Dj.abf{g:aX}{to:Int}{out opn:IM}(h:Dj g to out opn):dF g.rs to=true:=by
 rcases h.o4 with g3|g3
 ·obtain⟨z,hz,rfl⟩:=ak.1 g3;exact(h.o1 z hz).1
 ·exact(h.o2 _ g3).1
theorem Dj.pick{g:aX}(hg:g.Ok){to:Int}{out opn:IM}(h:Dj g to out opn){b:Int×Int}(hb:b∈opn)(hm:∀x∈opn,b.2≤x.2):b.2=dst g to b.1∧b.2<far:=by
 obtain⟨h1,h2,k,hw⟩:=h.o2 b hb;have hto:=h.abf;have hd:=wH hg hto hw;obtain⟨k',hw'⟩:=uN hg hto h1 hd.2;obtain⟨z,hz,hle⟩:=h.low hg hw' h2
 grind
structure DjM(g:aX)(to:Int)(b:Int×Int)(done:List Int)(out opn:IM):Prop where
 o1:∀x∈out,dF g.rs x.1=true∧x.2=dst g to x.1∧x.2<far
 o2:∀x∈opn,dF g.rs x.1=true∧x.1∉out.map (·.1)∧∃k,Wk g to k x.1 x.2
 o3:∀a∈out,a≠b→∀y q,price g.ls y a.1=some q→y∈out.map (·.1)∨∃c,(y,c)∈opn∧c≤q+a.2
 o5:∀y∈done,∀q,price g.ls y b.1=some q→y∈out.map (·.1)∨∃c,(y,c)∈opn∧c≤q+b.2
 o4:to∈out.map (·.1)∨(to,0)∈opn
 hb:b∈out
 n1:(out.map (·.1)).Nodup
 n2:(opn.map (·.1)).Nodup
theorem Dj.move{g:aX}(hg:g.Ok){to:Int}{out opn:IM}(h:Dj g to out opn){b:Int×Int}(hb:b∈opn)(hm:∀x∈opn,b.2≤x.2):DjM g to b [] (pI out b.1 b.2) (rI opn b.1):=by
 obtain⟨h1,h2,k,hw⟩:=h.o2 b hb;obtain⟨p1,p2⟩:=h.pick hg hb hm;have hmem:∀x,x∈pI out b.1 b.2↔x=b∨(x∈out∧x.1≠b.1):=fun x=>ahk h.n1
 refine⟨fun x hx=>?_,fun x hx=>?_,fun a ha hne y q hq=>?_,by simp,?_,(hmem b).2 (.inl rfl),akW h.n1 _ _,aoZ h.n2 _⟩
 ·rcases (hmem x).1 hx with rfl|⟨hx,_⟩
  ·trivial
  ·exact h.o1 x hx
 ·obtain⟨hx,hxb⟩:=aaN.1 hx;obtain⟨q1,q2,q3⟩:=h.o2 x hx
  grind
 ·rcases (hmem a).1 ha with e|⟨ha,_⟩
  ·trivial
  ·rcases h.o3 a ha y q hq with e|⟨c,e1,e2⟩
   ·grind
   grind[aaN]
 ·rcases h.o4 with e|e
  ·grind
  grind[aaN]
def al9(out opn:IM)(cb:Int)(y q:Int):IM:=match gI out y with
 | some _=>opn
 | none=>match gI opn y with
   | some c=>if cb+q<c then pI opn y (cb+q)else opn
   | none=>pI opn y (cb+q)
theorem DjM.step{g:aX}(hg:g.Ok){to:Int}{b:Int×Int}{done:List Int}{out opn:IM}(h:DjM g to b done out opn){y q:Int}(hq:price g.ls y b.1=some q):DjM g to b (done++[y]) out (al9 out opn b.2 y q):=by
 have hto:dF g.rs to=true:=by
  rcases h.o4 with g3|g3
  ·obtain⟨z,hz,rfl⟩:=ak.1 g3;exact(h.o1 z hz).1
  ·exact(h.o2 _ g3).1
 obtain⟨hb1,hb2,hb3⟩:=h.o1 b h.hb;obtain⟨kb,hwb⟩:=uN hg hto hb1 (hb2▸hb3);rw[←hb2]at hwb
 have hwy:∃k,Wk g to k y (b.2+q):=⟨kb+1,by rw[Int.add_comm];exact .cons hq hwb⟩
 have LC:=(mW hg hq).1;have hq1:=qN hg hq;have put:∀(hy:y∉out.map (·.1)),(∀c,(y,c)∈opn→b.2+q≤c)→DjM g to b (done++[y]) out (pI opn y (b.2+q)):=fun hy hle=>by
  have hm:∀x,x∈pI opn y (b.2+q)↔x=(y,b.2+q)∨(x∈opn∧x.1≠y):=fun x=>ahk h.n2
  refine⟨h.o1,fun x hx=>?_,fun a ha hne z p hp=>?_,fun z hz p hp=>?_,?_,h.hb,h.n1,akW h.n2 _ _⟩
  ·rcases (hm x).1 hx with rfl|⟨hx,_⟩
   ·trivial
   ·exact h.o2 x hx
  ·rcases h.o3 a ha hne z p hp with e|⟨c,e1,e2⟩
   ·simp[*]
   grind
  ·rcases aN.1 hz with hz|hz
   ·rcases h.o5 z hz p hp with e|⟨c,e1,e2⟩
    ·simp[*]
    grind
   grind
  ·rcases h.o4 with e|e
   ·simp[*]
   ·by_cases ht:to=y
    ·subst ht;have h0:=hle 0 e;have hbz:0≤b.2:=by
      have:=(pK hg to b.1).1;omega
     omega
    simp_all
 unfold al9;cases ho:gI out y with
 | some v=>
   have hyo:y∈out.map (·.1):=ak.2 ⟨_,JG ho,rfl⟩;refine⟨h.o1,h.o2,h.o3,fun z hz p hp=>?_,h.o4,h.hb,h.n1,h.n2⟩;rcases aN.1 hz with hz|hz
   ·exact h.o5 z hz p hp
   simp_all
 | none=>
   have hyo:y∉out.map (·.1):=abN.1 ho;cases hp:gI opn y with
   | none=>simp only;exact put hyo fun c hc=>absurd (ak.2 ⟨_,hc,rfl⟩) (abN.1 hp)
   | some c=>
     simp only;have hcm:=JG hp;split
     ·rename_i hlt;refine put hyo fun d hd=>?_
      have:=ES h.n2 hd
      grind
     ·rename_i hlt;refine⟨h.o1,h.o2,h.o3,fun z hz p hpz=>?_,h.o4,h.hb,h.n1,h.n2⟩;rcases aN.1 hz with hz|hz
      ·exact h.o5 z hz p hpz
      grind
theorem DjM.fin{g:aX}{to:Int}{b:Int×Int}{done:List Int}{out opn:IM}(h:DjM g to b done out opn)(hd:∀y q,price g.ls y b.1=some q→y∈done):Dj g to out opn:=
 ⟨h.o1,h.o2,fun a ha y q hq=>by
  by_cases e:a=b
  ·subst e;exact h.o5 y (hd y q hq) q hq
  ·exact h.o3 a ha e y q hq,h.o4,h.n1,h.n2⟩
theorem Dj.done{g:aX}(hg:g.Ok){to:Int}{out opn:IM}(h:Dj g to out opn)(he:opn = []∨∀r,dF g.rs r=true→r∈out.map (·.1))(r c:Int):gI out r=some c↔dF g.rs r=true∧dst g to r<far∧c=dst g to r:=by
 constructor
 ·intro hr;obtain⟨h1,h2,h3⟩:=h.o1 _ (JG hr)
  simp_all
 ·rintro⟨h1,h2,rfl⟩;have hin:r∈out.map (·.1):=by
   rcases he with he|he
   ·obtain⟨k,hw⟩:=uN hg h.abf h1 h2;refine Classical.byContradiction fun hx=>?_
    obtain⟨y,hy,_⟩:=h.low hg hw hx
    simp_all
   simp[*]
  obtain⟨x,hx,rfl⟩:=ak.1 hin;rw[←(h.o1 x hx).2.1];exact ES h.n1 hx
theorem ajw{ls:List Lk}{x y q:Int}:(y,q)∈Bv ls x↔∃l∈ls,(l.b=x∧l.a=y∧l.ca=q)∨(l.a=x∧l.b=y∧l.cb=q):=by
 unfold Bv
 grind
theorem ajx{ls:List Lk}{x y q:Int}:(y,q)∈yB ls x↔∃l∈ls,(l.a=x∧l.b=y∧l.ca=q)∨(l.b=x∧l.a=y∧l.cb=q):=by
 unfold yB
 grind
theorem Ue{g:aX}(hg:g.Ok){f t c:Int}:price g.ls f t=some c↔∃l∈g.ls,(l.a=f∧l.b=t∧l.ca=c)∨(l.b=f∧l.a=t∧l.cb=c):=by
 constructor
 ·exact qQ
 ·rintro⟨l,hl,h⟩;obtain⟨h1,h2⟩:=zY hg.lpw (fun _ h=>hg.lab h) hl
  grind
theorem Td{g:aX}(hg:g.Ok){x y q:Int}:(y,q)∈Bv g.ls x↔price g.ls y x=some q:=by
 rw[ajw,Ue hg]
 grind
theorem J3{g:aX}(hg:g.Ok){x y q:Int}:(y,q)∈yB g.ls x↔price g.ls x y=some q:=by rw[ajx,Ue hg]
theorem WB{f:Lk→IM}:∀{ls:List Lk},(∀l∈ls,(f l).Pairwise fun a b=>a.1<b.1)→ls.Pairwise BL→(∀l∈ls,∀m∈ls,BL l m→∀a∈f l,∀b∈f m,a.1<b.1)→(ls.flatMap f).Pairwise fun a b=>a.1<b.1
 | [],_,_,_=>by simp
 | l::ls,hf,h,hg=>by
   obtain⟨h1,h2⟩:=dM.1 h;rw[jf,jC];refine⟨hf l (by simp),WB (fun m hm=>hf m (by simp[*])) h2 fun l' hl' m hm=>hg l' (by simp[*]) m (by simp[*]),fun a ha b hb=>?_⟩
   grind
theorem Vu{g:aX}(hg:g.Ok)(x:Int):(yB g.ls x).Pairwise fun a b=>a.1<b.1:=by
 refine WB (fun l hl=>?_) hg.lpw fun l hl m hm hlt a ha b hb=>?_
 ·have:=hg.lab hl;by_cases h1:l.a=x<;>by_cases h2:l.b=x<;>simp[h1,h2]<;>omega
 ·have m1:=hg.lab hm;unfold BL at hlt
  grind
def nxG(costs ls:IM)(x:Int):List Int:=match gI costs x with
 | none=>[]
 | some all=>(ls.filter fun s=>match gI costs s.1 with
   | some c=>decide (s.2+c=all)
   | none=>false).map (·.1)
def am3(g:aX)(to:Int)(costs:IM):Prop:=∀r c,gI costs r=some c↔dF g.rs r=true∧dst g to r<far∧c=dst g to r
theorem aeX{g:aX}(hg:g.Ok)(d:List Int)(x:Int):(steps g d x).Pairwise (· < ·):=by
 unfold steps near;split
 ·simp
 ·refine List.Pairwise.filter _ ?_;rw[d_];exact hg.rpw.filter _
theorem TI{g:aX}(hg:g.Ok){to:Int}(hto:dF g.rs to=true){costs:IM}(hD:am3 g to costs){x:Int}(hx:dF g.rs x=true):nxG costs (yB g.ls x) x=steps g (dist g to) x:=by
 refine UE ?_ (aeX hg _ x) fun y=>?_
 ·unfold nxG;split
  ·simp
  ·grind[Vu]
 ·rw[mQ hg];unfold nxG;cases hc:gI costs x with
  | none=>
    have :¬dst g to x<far:=fun h=>by
     have:=(hD x _).2 ⟨hx,h,rfl⟩
     simp_all
    have hb:=(pK hg to x).2
    grind
  | some all=>
    obtain⟨_,h1,rfl⟩:=(hD x all).1 hc;simp only[ak,bK];constructor
    ·rintro⟨s,⟨hs,hm⟩,rfl⟩;have hp:=(J3 hg (y:=s.1) (q:=s.2)).1 hs;cases hg1:gI costs s.1 with
     | none=>simp_all
     | some c=>
       rw[hg1]at hm
       obtain⟨_,h2,rfl⟩:=(hD s.1 c).1 hg1;have:=qN hg hp;have:=(pK hg to s.1).1
       grind
    ·rintro⟨_,_,h2,q,hp,he⟩;refine⟨(y,q),⟨(J3 hg).2 hp,?_⟩,rfl⟩;have:=(hD y _).2 ⟨(mW hg hp).2,h2,rfl⟩;simp[*]
structure Least(opn:IM)(b:Int×Int):Prop where
 mem:b∈opn
 min:∀x∈opn,b.2<x.2∨(b.2=x.2∧b.1≤x.1)
theorem Least.perm{o o':IM}(h:o.Perm o'){b:Int×Int}(hb:Least o b):Least o' b:=⟨h.mem_iff.1 hb.mem,fun x hx=>hb.min x (h.mem_iff.2 hx)⟩
theorem Least.snoc{dn:IM}{b x:Int×Int}(h:Least dn b):Least (dn++[x]) (if x.2<b.2∨(x.2=b.2∧x.1<b.1)then x else b):=by
 split
 ·refine⟨by simp,fun y hy=>?_⟩;rcases aN.1 hy with hy|hy
  ·have:=h.min y hy;omega
  simp_all
 ·refine⟨aN.2 (.inl h.mem),fun y hy=>?_⟩;rcases aN.1 hy with hy|hy
  ·exact h.min y hy
  grind
theorem Least.one(x:Int×Int):Least [x] x:=⟨by simp,fun y hy=>by simp_all⟩
end Go.Proofs
