/-
  What functions of the program compute, stated as contracts over plain data; the conditions of each stand in its own statement.
-/
import Derived.Test.YtkikielfhjoogaaGreatDoorZA16
import Derived.Test.YtkikielfhjoogaaGreatDoorZA14
import Derived.Test.YtkikielfhjoogaaGreatDoorZA15
import Derived.Test.YtkikielfhjoogaaGreatDoorZA00
set_option linter.unusedSimpArgs false
set_option linter.unusedVariables false
namespace Go.Tr
open Go
section
variable {A:f_}
theorem GS.atF{t:S}{nR e0 k0:Nat}{es0:List (List TV)}{sh0:Bool}{i j id:Nat}{r:List TV}(e z:Nat)(h0:t (.o nR) = .row e0 k0 es0 sh0)(hr:es0[i]? = some r)(hj:r[j]? = some (.c (.slice none 0 0)))(ho:t (.o id) = .none):
  GS A t (upd (upd t (.o id) (.row e z [] false)) (.o nR) (.row e0 k0 (es0.set i (r.set j (.aW id 0))) sh0)):=fun a w ⟨E,hw,hE⟩=>by
 obtain⟨E',hw',x,hi',hv⟩:=hE.newRow ho e z;have hne:nR≠id:=by grind
 have hil:i<es0.length:=by grind
 refine⟨E',hw'.trans hw,hi'.aaV (es:=es0) (by simp only[upd,Pl.o.injEq,if_neg hne];omega) (by simp) fun us hrel=>fC.iI fun i' el hel=>?_⟩;rw[wO hil]at hel
 by_cases ei:i'=i
 ·subst ei;rw[if_pos rfl]at hel
  simp only[ah]at hel;subst hel;obtain⟨g1,g2⟩:=hrel.get hr;have hjl:j<r.length:=by grind
  refine⟨by simp[*],cu.iI fun m tv hm=>?_⟩;rw[wO hjl]at hm
  by_cases em:m=j
  ·subst em;rw[if_pos rfl]at hm
   simp only[ah]at hm;subst hm;obtain⟨u,k1,k2,k3⟩:=g2.get hj;refine⟨u,k1,k2,?_⟩;simp only[aP]at k3⊢;simp[*]
  ·rw[if_neg em]at hm
   exact g2.get hm
 ·rw[if_neg ei]at hel
  exact hrel.get hel
theorem GS.aoW{l l':List (Pl×It)}(nR i j id:Nat){e0 k0:Nat}{es0:List (List TV)}{sh0:Bool}{r:List TV}(e z:Nat)(h0:look l (.o nR) = .row e0 k0 es0 sh0)(hr:es0[i]? = some r)(hj:r[j]? = some (.c (.slice none 0 0)))(ho:look l (.o id) = .none)
  (h:Sub (look (jL (.o nR) (.row e0 k0 (es0.set i (r.set j (.aW id 0))) sh0) (jL (.o id) (.row e z [] false) l))) l'∧lu l'=lu (jL (.o nR) (.row e0 k0 (es0.set i (r.set j (.aW id 0))) sh0) (jL (.o id) (.row e z [] false) l))):GS A (look l) (look l'):=by
 have:=GS.atF (A:=A) (id:=id) e z h0 hr hj ho;rw[je,je]at this
 exact this.trans (GS.forget h.1 h.2)
def Bf(t:S)(nR e0 z0 b n m:Nat)(pre:Nat→List TV)(xs:Nat→List (List D)):S:=fun p=>
 if p = .o nR then .row e0 z0 ((List.range n).map fun i=>pre i++[if i<m then TV.d (.sl (xs i))else TV.aW (b+i) (xs i).length]) false
 else match p with
 | .o q=>if b≤q∧q<b+m then(t p).shd else t p
 | p=>t p
theorem aeS{t:S}{nR e0 z0 b n:Nat}{pre:Nat→List TV}{xs:Nat→List (List D)}(h0:t (.o nR) = .row e0 z0 ((List.range n).map fun i=>pre i++[TV.aW (b+i) (xs i).length]) false):Bf t nR e0 z0 b n 0 pre xs=t:=by
 unfold Bf
 grind
theorem GS.ah5{t:S}{nR e0 z0 b n m e z:Nat}{pre:Nat→List TV}{xs:Nat→List (List D)}(hm:m<n)(hr:t (.o (b+m)) = .row e z (dd (xs m)) false)(hb:nR<b):
  GS A (Bf t nR e0 z0 b n m pre xs) (Bf t nR e0 z0 b n (m+1) pre xs):=by
 have h0:Bf t nR e0 z0 b n m pre xs (.o nR) = .row e0 z0 ((List.range n).map fun i=>pre i++[if i<m then TV.d (.sl (xs i))else TV.aW (b+i) (xs i).length]) false:=by unfold Bf;simp
 have hi:((List.range n).map fun i=>pre i++[if i<m then TV.d (.sl (xs i))else TV.aW (b+i) (xs i).length])[m]? = some (pre m++[.aW (b+m) (xs m).length]):=by simp[*]
 have hj:(pre m++[TV.aW (b+m) (xs m).length])[(pre m).length]? = some (.aW (b+m) (xs m).length):=by simp
 have ht:Bf t nR e0 z0 b n m pre xs (.o (b+m)) = .row e z (dd (xs m)) false:=by
  unfold Bf
  grind
 have g:=GS.aa2 (A:=A) (xs:=xs m) h0 (by omega) hi hj ht (by simp) (I8 _);have hset:(pre m++[TV.aW (b+m) (xs m).length]).set (pre m).length (TV.d (.sl (xs m)))=pre m++[TV.d (.sl (xs m))]:=by simp
 rw[hset]at g
 refine(show upd (upd (Bf t nR e0 z0 b n m pre xs) (.o (b+m)) (.row e z (dd (xs m)) true)) (.o nR) (.row e0 z0 (((List.range n).map fun i=>pre i++[if i<m then TV.d (.sl (xs i))else TV.aW (b+i) (xs i).length]).set m (pre m++[TV.d (.sl (xs m))])) false)=Bf t nR e0 z0 b n (m+1) pre xs from ?_)▸g
 funext p
 by_cases e0':p = .o nR
 ·subst e0';simp only[upd,if_true];unfold Bf;rw[if_pos rfl]
  congr 1
  refine iw fun i=>?_
  rw[List.getElem?_set,bn,bn,aV,pz];by_cases hin:i<n
  ·rw[lJ hin];by_cases him:m=i
   ·subst him;simp[hin]
   ·simp only[if_neg him,bH];by_cases h1:i<m
    ·simp[h1,show i<m+1 by omega]
    ·simp[h1,show ¬i<m+1 by omega]
  ·have:(List.range n)[i]? = none:=by simp;omega
   rw[this,if_neg (by omega)];rfl
 ·simp only[upd,if_neg e0'];by_cases e1:p = .o (b+m)
  ·subst e1;rw[if_pos rfl];unfold Bf;rw[if_neg e0'];simp only;rw[if_pos (by omega),hr];rfl
  ·rw[if_neg e1];unfold Bf;rw[if_neg e0',if_neg e0'];cases p with
   | o q=>
     simp only;by_cases h1:b≤q∧q<b+m
     ·rw[if_pos h1,if_pos (by omega)]
     ·rw[if_neg h1,if_neg (by intro h;exact e1 (by rw[show q=b+m by omega]))]
   | s q=>rfl
   | x q=>rfl
theorem GS.aj6{t:S}{nR e0 z0 b n e z:Nat}{pre:Nat→List TV}{xs:Nat→List (List D)}(h0:t (.o nR) = .row e0 z0 ((List.range n).map fun i=>pre i++[TV.aW (b+i) (xs i).length]) false)(hr:∀i,i<n→t (.o (b+i)) = .row e z (dd (xs i)) false)(hb:nR<b):
  GS A t (Bf t nR e0 z0 b n n pre xs):=by
 have h:∀m,m≤n→GS A t (Bf t nR e0 z0 b n m pre xs):=by
  intro m
  induction m with
  | zero=>grind[aeS,GS.refl]
  | succ m ih=>grind[trans,GS.ah5]
 simp[*]
theorem ah6{t:S}{nR e0 z0 b n:Nat}{pre:Nat→List TV}{xs:Nat→List (List D)}:Bf t nR e0 z0 b n n pre xs (.o nR) = .row e0 z0 ((List.range n).map fun i=>pre i++[.d (.sl (xs i))]) false:=by unfold Bf;simp
theorem amg{t:S}{nR e0 z0 b n:Nat}{pre:Nat→List TV}{xs:Nat→List (List D)}{q:Nat}:Bf t nR e0 z0 b n n pre xs (.s q)=t (.s q):=by rfl
theorem amh{t:S}{nR e0 z0 b n:Nat}{pre:Nat→List TV}{xs:Nat→List (List D)}{q:Nat}:Bf t nR e0 z0 b n n pre xs (.x q)=t (.x q):=by rfl
end
end Go.Tr

namespace Go.Tr
open Go Go.Proofs
section
variable {P:Program} {A:f_} {ops:Array Oper}
end
end Go.Tr

namespace Go.Tr
open Go
section
variable {P:Program} {A:f_} {ops:Array Oper}
end
end Go.Tr

namespace Go.Tr
open Go
def En.all(E:En):En:={w:=E.w,St:=fun b _=>b<E.w.heap.size,blk:=fun _=>none,val:=fun _=>none}
theorem En.LU{E:En}{H:S}(h:lD E H):Fa E E.all:=⟨fun b o hb=>h.o_ b o hb,fun _ _ _=>rfl⟩
theorem En.LW(E:En)(p:Pl):E.all.own p=none:=by unfold En.own En.all;cases p<;>rfl
theorem lD.all{E:En}{H:S}(h:lD E H):lD E.all (BG []) where
 item p hp:=by
  have:BG [] p = .none:=by cases p<;>simp[BG]
  rw[this];exact fun id _=>⟨rfl,rfl⟩
 frees k:=rfl
 inj p q b h1 _:=by rw[En.LW]at h1;cases h1
 size p b h1:=by rw[En.LW]at h1;cases h1
 o_ b o hb:=hb
 sep b o _ p h1:=by rw[En.LW]at h1;cases h1
 gl y hy:=dU.ext (En.LU h) _ _ _ (h.gl y hy)
section
variable {P:Program} {A:f_} {ops:Array Oper}
theorem Sum.peek{t:S}{i d:Nat}{o:Oper}{gp rp:List Pl}{fo:Operand}{xs:List Operand}{tys:Array TypeId}{f:FuncId}{nC:List TV}{r:TV}
  (ho:ops[i]? = some o) (hg:gv ops t o=some (gp,true)) (hd:mZ A.N o=true) (hop:o.op = .call {callee:=.value fo,args:=xs.toArray,argTypes:=tys}) (hf:ev t fo = .clo f []) (hfn:dB P f=true)
  (C:Contract P f nC [] r [] []) (abS:∀E1 E2 u,aP E1 r u→aP E2 r u) (hdn:t (.o d) = .none)
  (hv:∀(t':S) (a:Act) (E:En),(∀p∈rp,t' p=t p)→eY A t' a E→bD E.all nC (xs.map a.eval)) :
  Sum P A ops i t (gp++(pl fo++(rp++[.o d]))) (rM o r [(.o d,.row 0 1 [] false)]):=fun t' hr a w ⟨E,hw,hi⟩ K Q hK=>by
 subst hw;have hwant:=kU hg (bf hr) hi;have hr1:=aQ hr;have hr2:=aQ hr1;have hr3:=aQ hr2;have hfo:ev t' fo = .clo f []:=(dK (bf hr1)).trans hf;have hd':t' (.o d) = .none:=(hr3 _ (by simp)).trans hdn;have hfr:=bP hi fo;rw[hfo]at hfr
 simp only[aP,bD]at hfr;obtain⟨rU,zf,uQ⟩:=hfr;obtain rfl:rU = #[]:=by cases rU;simpa using uQ
 have FD:=hv t' a E (bf hr2) hi;unfold wpOp;simp only[ho,hwant,if_true];refine .inl ?_;unfold Oper.wp;have hrun:(execOp a.eval o).run P E.w = .ok (.enter f (xs.map a.eval).toArray) E.w:=by simp only[execOp,hop,resolve,zf,Deferred.ofValue,invoke,Sem.run_bind,Sem.run_pure,Result.andThen_ok,fA,fD,iU hfn,iR]
 rw[hrun];simp only[Oper.upon];have hcall:=C E.all _ hi.h.all FD;refine hcall.mono fun e' w' ⟨u,E',he,hw',hp⟩=>?_
 subst he hw';have hgr:E.w.grownBy E'.w none:=by have h1:=hp.fr;exact⟨h1.os,h1.tape,h1.output,h1.size,fun b hb _=>h1.old b hb (fun i=>by simp[En.all]) (fun j=>by simp[En.LW])⟩
 obtain⟨E2,hw2,x2,hinv,hval⟩:=hi.AO hd' (es:=[]) (v:=.slice none 0 0) (us:=[]) (e:=0) (k:=1) (w':=E'.w) hgr
  ⟨by simp,.inl ⟨rfl,rfl⟩⟩ (fun E' _ _=>fC.iI fun i el hel=>by simp at hel)
 refine hK _ _ ⟨E2,hw2,?_⟩;exact eY.dst (W:=[(.o d,.row 0 1 [] false)]) hinv hd (abS _ _ _ hp.rel)
theorem ajS{t:S}{a:Act}{E:En}(hi:eY A t a E){x:Operand}{d:D}(h:ev t x = .d d):aP E.all (.d d) (a.eval x):=by
 have:=bP hi x;rw[h]at this
 simp only[aP]at this⊢;exact Rep.ext (En.LU hi.h) _ _ this
theorem ahr{t:S}{a:Act}{E:En}(hi:eY A t a E){s i1 i2 e1 m c:Nat}{p:Pl}{x0:D}{rest:List TV}{C:List (List D)}{es:List (List Int×D)}{pd:Option (List Int)}{sn:Option jB}{sh:Bool}
  (hs:t (.s s) = .v (.ptr p 0)) (hp:rP p=true) (hb:t p = .box (.d x0 :: .aW i1 m::rest)) (hm:m=C.length+1) (hr:t (.o i1) = .row e1 1 (dd C++[[.mref i2]]) sh) (h2:t (.o i2) = .fO (es.map fun x=>(x.1,.d x.2)) c pd sn) (h12:i1≠i2) (hpo:p≠.o i2) (axE:p≠.o i1) :
  aP E.all (.ep [x0,.sl (C++[[qj es]])] 0) (a.eval (.tmp s)):=by
 obtain⟨E1,hw1,hi1⟩:=GS.rO (A:=A) h2 a E.w ⟨E,rfl,hi⟩;have h1s:CJ i2 (qj es) t (.s s) = .v (.ptr p 0):=by simp only[CJ,hs];simp[EG,TV.rO,hpo]
 obtain⟨rest',h1b⟩:∃rest',CJ i2 (qj es) t p = .box (.d x0 :: .aW i1 m::rest'):=by refine⟨TV.vF i2 (qj es) rest,?_⟩;simp only[CJ,if_neg hpo,hb];simp[EG,TV.rO,TV.vF,h12]
 have h1r:CJ i2 (qj es) t (.o i1) = .row e1 1 (dd C++[[.d (qj es)]]) sh:=by
  have as7:Pl.o i1≠.o i2:=by simpa using h12
  simp only[CJ,if_neg as7,hr];have key:∀l:List D,TV.vF i2 (qj es) (l.map .d)=l.map .d:=fun l=>by
   induction l with
   | nil=>rfl
   | cons y l ih=>simp[TV.vF,TV.rO,ih]
  simp[EG,TV.rO,TV.vF,dd,key]
 have hx:jX (dd C++[[TV.d (qj es)]])=some (C++[[qj es]]):=by
  have:dd C++[[TV.d (qj es)]]=dd (C++[[qj es]]):=by simp[dd]
  rw[this];exact I8 _
 obtain⟨E2,hw2,x2,_,_,hi2,hrel,_⟩:=hi1.freeze h1r hx;have hall:E.all=E2.all:=by simp only[En.all,hw2,hw1]
 have hbox:=hi1.h.item p (fun k e=>by subst e;simp[rP]at hp);rw[h1b]at hbox
 obtain⟨_,b,ty,us,hbb,hh,hsz,hc⟩:=hbox;simp only[cu]at hc;obtain⟨⟨u0,g0,_,r0⟩,⟨u1,g1,_,r1⟩,_⟩:=hc;have hu:=bP hi1 (.tmp s);have hev:ev (CJ i2 (qj es) t) (.tmp s) = .ptr p 0:=by simp[ev,h1s]
 rw[hev]at hu
 simp only[aP]at hu r0;obtain⟨b',hb',hu⟩:=hu;rw[hbb]at hb'
 obtain rfl:=Option.some.inj hb';have hlen:(dd C++[[TV.d (qj es)]]).length=m:=by simp[dd,hm]
 have q1:=hrel u1 (by rw[hlen];exact r1);rw[hall];simp only[aP];have hlt:b<E2.w.heap.size:=by rw[hw2];exact(aZ.1 hh).1
 refine⟨b,0,by simpa using hu,⟨hlt,u0,?_,?_⟩,⟨hlt,u1,?_,Rep.ext (En.LU hi2.h) _ _ q1⟩,trivial⟩
 ·show E2.w.cell? _=_
  rw[hw2,sK hh];simpa using g0
 ·exact Rep.ext (En.LU hi2.h) _ _ (Rep.ext x2.r _ _ r0)
 ·show E2.w.cell? _=_
  rw[hw2,sK hh];simpa using g1
def ahq(P:Program)(N:Nat)(t:S)(o:Oper)(f:FuncId)(r:TV)(p:Pl)(i1 i2:Nat)(x0:D)(C:List (List D))(es:List (List Int×D))(ds:List D)(gp:List Pl)(g:Bool):Option (Prop×List Pl×List (Pl×It)):=
 match o.op with
 | .call {callee:=.value fo,args:=xs,argTypes:=_}=>
   match ev t fo with
   | .clo f' caps=>match xs.toList with
     | .tmp s::ys=>match t p with
       | .box (.d x0' :: .aW i1' m::_)=>match t (.o i1)with
         | .row _ 1 rs _=>match t (.o i2),o.dst with
           | .fO es' _ _ _,some d=>some (g=true∧mZ N o=true∧f'=f∧caps = []∧dB P f=true∧t (.s s) = .v (.ptr p 0)∧rP p=true∧x0'=x0∧i1'=i1∧m=C.length+1∧rs=dd C++[[.mref i2]]∧es'=(es.map fun x=>(x.1,TV.d x.2))∧i1≠i2∧p≠.o i2∧p≠.o i1∧ys.map (ev t)=ds.map .d∧t (.o d) = .none,
             gp++(pl fo++((.s s::p :: .o i1 :: .o i2::ys.flatMap pl)++[.o d])),rM o r [(.o d,.row 0 1 [] false)])
           | _,_=>none
         | _=>none
       | _=>none
     | _=>none
   | _=>none
 | _=>none
def ahp(P:Program)(N:Nat)(t:S)(ops:Array Oper)(f:FuncId)(r:TV)(p:Pl)(i1 i2:Nat)(x0:D)(C:List (List D))(es:List (List Int×D))(ds:List D):Option Oper→Option (Prop×List Pl×List (Pl×It))
 | some o=>match gv ops t o with
   | some (gp,g)=>ahq P N t o f r p i1 i2 x0 C es ds gp g
   | none=>none
 | none=>none
theorem aI.peek{i:Nat}{t:S}{k:List Pl→List (Pl×It)→Prop}{g:Tg k}{f:FuncId}{K:IntKind}{z:Int}{x0:D}{C:List (List D)}{es:List (List Int×D)}{ds:List D}
  (H:Contract P f (.ep [x0,.sl (C++[[qj es]])] 0::ds.map .d) [] (.d (.int K z)) [] []) (p:Pl) (i1 i2:Nat)
  (h:QC k g (ahp P A.N t ops f (.d (.int K z)) p i1 i2 x0 C es ds ops[i]?)):aI P A ops i t k g:=by
 unfold QC at h;split at h
 ·rename_i D' rp W hc;obtain⟨h1,h2⟩:=h;refine⟨rp,W,?_,h2⟩;unfold ahp at hc;split at hc
  ·rename_i o ho;split at hc
   ·rename_i gp g0 hg;unfold ahq at hc;split at hc
    ·rename_i fo xs tys hop;split at hc
     ·rename_i f' caps hf;split at hc
      ·rename_i s ys hxs;split at hc
       ·rename_i x0' i1' m rest hb;split at hc
        ·rename_i e1 rs sh hr;split at hc
         ·rename_i es' c pd sn d hm hod;simp only[ah,aO]at hc;obtain⟨rfl,rfl,rfl⟩:=hc;obtain⟨rfl,q1,rfl,rfl,q2,q3,q4,rfl,rfl,q5,rfl,rfl,q6,q7,q8,q9,q10⟩:=h1;refine Sum.peek (xs:=xs.toList) ho hg q1 (by simpa using hop) hf q2 H (fun _ _ _ h=>h) q10 fun t' a E hag hi=>?_
          have e1':t' (.s s)=t (.s s):=hag _ (by simp);have e2:t' p=t p:=hag _ (by simp);have e3:t' (.o i1')=t (.o i1'):=hag _ (by simp);have e4:t' (.o i2)=t (.o i2):=hag _ (by simp);have e5:ys.map (ev t')=ds.map .d:=by rw[←q9];exact Oj fun q hq=>hag q (by simp only[aF];exact .inr (.inr (.inr (.inr hq))))
          rw[hxs,aC];refine⟨_,_,rfl,ahr hi (e1'.trans q3) q4 (e2.trans hb) q5 (e3.trans hr) (e4.trans hm) q6 q7 q8,?_⟩;have:∀(ys:List Operand) (ds:List D),ys.map (ev t')=ds.map .d→bD E.all (ds.map .d) (ys.map a.eval):=by
           intro ys
           induction ys with
           | nil=>
             intro ds h;cases ds with
             | nil=>rfl
             | cons _ _=>simp at h
           | cons y ys ih=>
             intro ds h;cases ds with
             | nil=>simp at h
             | cons d ds=>simp only[aC,dR]at h⊢;exact⟨_,_,rfl,ajS hi h.1,ih ds h.2⟩
          exact this ys ds e5
         ·simp at hc
        ·simp at hc
       ·simp at hc
      ·simp at hc
     ·simp at hc
    ·simp at hc
   ·simp at hc
  ·simp at hc
 ·exact h.elim
attribute [simp] ahp ahq
end
end Go.Tr
namespace Go.Tr
open Go
theorem dD.gs{P:Program}{A:f_}{c:Code}{Q:Exit→S→Prop}{g:Tg Q}{t t':S}(h:GS A t t')(l:dD P A c Q g t'):dD P A c Q g t:=⟨fun a w hi=>l.1 a w (h a w hi)⟩
end Go.Tr

set_option maxRecDepth 100000
set_option maxHeartbeats 16000000
namespace Go.Proofs
open Go Go.Tr
theorem akE(x0:D)(L:List (List D))(hL:L.length≤1000)(j:Nat)(ks:List (List Int))(vs:List D)(hj:L[j]? = some [.mp ks vs])(m:CM)(r:Int)(hm:kJ (kV ks vs) [r]=(m r).map fun c=>TV.d (.int .i64 c))(hk:rQ 1 (kV ks vs)):
  Contract Tryz.prog 118 (.ep [x0,.sl L] 0::[D.int .i64 j,D.int .i64 r].map .d) [] (.d (.int .i64 (lC m r))) [] []:=by
 have hjl:j<L.length:=(aB.1 hj).1;have hjz:(j:Int)<L.length:=by omega
 simp only[List.map];refine ay Tryz.func118 rfl (fun E0=>?_);refine iC.sound (g:=.mk) (ow:=[]) (kp:=(kb 0x2001c7)) ?_;rw[Tryz.ntmps118];cases he:m r with
 | none=>
   rw[he]at hm
   simp -dsimp[hm,hk,hjz,hj];and_intros;all_goals try first|rfl|omega|exact⟨by kernel_rfl⟩
   refine Fin.of ?_;simp[uO,lC,he]
 | some v=>
   rw[he]at hm
   simp -dsimp[hm,hk,hjz,hj];and_intros;all_goals try first|rfl|omega|exact⟨by kernel_rfl⟩
   refine Fin.of ?_;simp[lC,he]
def QN(l:List (Int×Int)):List (List Int×D):=l.map fun x=>([x.1],D.int .i64 x.2)
theorem Zy(l:List (Int×Int)):tY l=(QN l).map fun x=>(x.1,TV.d x.2):=by simp[tY,QN,aY]
theorem XU:∀l:List (List Int×D),kV (l.map (·.1)) (l.map (·.2))=l.map fun x=>(x.1,TV.d x.2)
 | []=>rfl
 | x::l=>by have:=XU l;simp only[kV]at this⊢;simp only[aC,mJ,this]
theorem MO(l:List (Int×Int)):kV ((QN l).map (·.1)) ((QN l).map (·.2))=tY l:=(XU _).trans (Zy l).symm
theorem am9(x0:D)(C:List (List D))(n:Nat)(hC:C.length=n)(hn:n≤900)(l:List (Int×Int))(r:Int):
  Contract Tryz.prog 118 (.ep [x0,.sl (C++[[qj (QN l)]])] 0::[D.int .i64 n,D.int .i64 r].map .d) [] (.d (.int .i64 (lC (nX l) r))) [] []:=
 akE x0 _ (by simp;omega) n ((QN l).map (·.1)) ((QN l).map (·.2)) (by rw[b_ (by omega)];simp[hC,qj]) (nX l) r (by rw[MO];exact ML l r) (by rw[MO];exact MN l)
abbrev RG:=List (Int×Int)×List (Int×Int×Int)
def EO(E:RG):CM×SM:=(nX E.1,nX E.2)
def yI(E:RG)(a:Ar):RG:=Ry E a.f (a.c+lC (nX E.1) a.t) (a.t,0)
theorem alj(E:RG)(a:Ar):EO (yI E a)=Gy (EO E) a:=V9 E _ _ _
def tC(A:List Ar)(E:RG):RG:=A.foldl yI E
theorem xZ:∀(A:List Ar) (E:RG),EO (tC A E)=tu A (EO E)
 | [],_=>rfl
 | a::A,E=>by
   have:=xZ A (yI E a);rw[alj]at this
   exact this
def Ro(A:List Ar):Nat→RG→RG
 | 0,E=>E
 | n+1,E=>if zI A (EO E)then Ro A n (tC A E)else tC A E
theorem af5(A:List Ar):∀(n:Nat) (E:RG),EO (Ro A n E)=VB A n (EO E)
 | 0,_=>rfl
 | n+1,E=>by
   rw[Ro,VB];split
   ·rw[af5 A n,xZ]
   ·exact xZ A E
theorem WQ:∀(l:List Ar) (a:Ar) (z:CM×SM),zI (l++[a]) z=(zI l z||decide (a.c+lC (tu l z).1 a.t<lC (tu l z).1 a.f))
 | [],a,z=>by simp only[zI,tu,dJ,List.foldl_nil,Bool.or_false,Bool.false_or];first|rfl|congr
 | b::l,a,z=>by have:=WQ l a (Gy z b);simp only[bg,zI,this,Bool.or_assoc,tu,bV];first|rfl|congr
theorem ajT(A:List Ar)(hA:∀a∈A,0≤a.c∧a.c≤1000000000)(hAl:A.length≤10000)(C S:List (List D))(n:Nat)(hC:C.length=n)(hS:S.length=n)(hn:n≤900)(E:RG)(hE:xK (nX E.1))(N:Nat)(hN:zl A (nX E.1)<N)(c1 c2:Nat):
  nH Tryz.prog 119 [.ptr (.x 0) 0,.d (.int .i64 n)] [It.box [.d (.sl (A.map oD)),.aW 900 (n+1),.aW 901 (n+1)]] [(900,.row 200 1 (dd C++[[.mref 902]]) false),(901,.row 224 1 (dd S++[[.mref 903]]) false),(902,.fO (tY E.1) c1 none none),(903,.fO (sF E.2) c2 none none)]
   (.qh []) [It.box [.d (.sl (A.map oD)),.aW 900 (n+1),.aW 901 (n+1)]] [(900,.row 200 1 (dd C++[[.mref 902]]) false),(901,.row 224 1 (dd S++[[.mref 903]]) false),(902,.fO (tY (Ro A N E).1) (c1+A.length*N) none none),(903,.fO (sF (Ro A N E).2) (c2+A.length*N) none none)]:=by
 have hok:dB Tryz.prog 118=true:=by kernel_rfl
 have hok2:dB Tryz.prog 117=true:=by kernel_rfl
 have hA0:∀a∈A,0≤a.c:=fun a ha=>(hA a ha).1
 refine kD Tryz.func119 rfl (fun E0=>?_);refine iC.sound (g:=.mk) (ow:=[5000117]) (kp:=(kb 0x8000078d3)) ?_;rw[Tryz.ntmps119];simp -dsimp
 refine dD.of [5000117] (kb 0x8000078d3) (ι:={z:Bool×Nat×RG×Nat×Nat // (if z.1 then Ro A N E=Ro A z.2.1 z.2.2.1∧zl A (nX z.2.2.1.1)<z.2.1 else Ro A N E=z.2.2.1)∧xK (nX z.2.2.1.1)∧z.2.2.2.1+A.length*z.2.1≤c1+A.length*N∧z.2.2.2.2+A.length*z.2.1≤c2+A.length*N})
  (fun z=>[(.s 0,It.v (.ptr (.x 0) 0)),(.s 1,It.v (.d (.int .i64 n))),(.x 0,It.box [.d (.sl (A.map oD)),.aW 900 (n+1),.aW 901 (n+1)]),(.o 900,.row 200 1 (dd C++[[.mref 902]]) false),(.o 901,.row 224 1 (dd S++[[.mref 903]]) false),(.o 902,.fO (tY z.1.2.2.1.1) z.1.2.2.2.1 none none),(.o 903,.fO (sF z.1.2.2.1.2) z.1.2.2.2.2 none none),(.s 4,It.v (.d (.bool z.1.1)))])
  (fun z=>if z.1.1 then z.1.2.1+1 else 0) ⟨(true,N,E,c1,c2),by simp;omega,hE,au _,au _⟩ ?_ ?_
 ·exact GS.to (by simp)
 ·rintro⟨⟨ch,k,E',d1,d2⟩,i1,i2,i3,i4⟩;simp only at i1 i2 i3 i4;cases ch with
  | false=>
    simp only[eu,if_false]at i1;simp -dsimp
    refine Fin.gs (GS.ado 902 (c1+A.length*N) (l':=[(.s 0,It.v (.ptr (.x 0) 0)),(.s 1,It.v (.d (.int .i64 n))),(.x 0,It.box [.d (.sl (A.map oD)),.aW 900 (n+1),.aW 901 (n+1)]),(.o 900,.row 200 1 (dd C++[[.mref 902]]) false),(.o 901,.row 224 1 (dd S++[[.mref 903]]) false),(.o 902,.fO (tY E'.1) (c1+A.length*N) none none),(.o 903,.fO (sF E'.2) d2 none none)]) rfl (by omega) (by simp)) ?_
    refine Fin.gs (GS.ado 903 (c2+A.length*N) (l':=[(.s 0,It.v (.ptr (.x 0) 0)),(.s 1,It.v (.d (.int .i64 n))),(.x 0,It.box [.d (.sl (A.map oD)),.aW 900 (n+1),.aW 901 (n+1)]),(.o 900,.row 200 1 (dd C++[[.mref 902]]) false),(.o 901,.row 224 1 (dd S++[[.mref 903]]) false),(.o 902,.fO (tY E'.1) (c1+A.length*N) none none),(.o 903,.fO (sF E'.2) (c2+A.length*N) none none)]) rfl (by omega) (by simp)) ?_
    refine Fin.of ?_;rw[i1];simp
  | true=>
    simp only[if_true]at i1;obtain⟨i1,ip⟩:=i1;obtain⟨k,rfl⟩:∃j,k=j+1:=⟨k-1,by omega⟩
    rw[Ro]at i1
    rw[Nat.mul_succ]at i3 i4
    simp -dsimp;and_intros;all_goals try first|rfl|omega|exact⟨by kernel_rfl⟩
    refine dD.ofL [5000117] (kb 0x8000078d3) (ι:={i:Nat // i≤A.length})
     (fun z=>[(.s 0,It.v (.ptr (.x 0) 0)),(.s 1,It.v (.d (.int .i64 n))),(.x 0,It.box [.d (.sl (A.map oD)),.aW 900 (n+1),.aW 901 (n+1)]),(.o 900,.row 200 1 (dd C++[[.mref 902]]) false),(.o 901,.row 224 1 (dd S++[[.mref 903]]) false),(.o 902,.fO (tY (tC (A.take z.1) E').1) (d1+z.1) none none),(.o 903,.fO (sF (tC (A.take z.1) E').2) (d2+z.1) none none),(.s 4,It.v (.d (.bool (zI (A.take z.1) (EO E'))))),
      (.s 11,It.v (.d (.sl (A.map oD)))),(.s 12,It.v (.d (.int .i64 A.length))),(.s 13,It.v (.d (.int .i64 z.1)))])
     (fun z=>A.length-z.1) ⟨0,by omega⟩ ?_ ?_
    ·exact GS.to (by simp[tC,zI])
    ·rintro⟨i,j1⟩;by_cases hi:i<A.length
     ·have hiz:(i:Int)<A.length:=by omega
      have hl:=aj hi;have ha:=hA _ (aJ hi);have ht:A.take (i+1)=A.take i++[A[i]]:=by rw[aT,hl];rfl
      have hbd:xK (nX (tC (A.take i) E').1):=by
       have:=tX (l:=A.take i) (fun a h=>hA0 a (iW h)) (z:=EO E') i2;rw[←xZ]at this
       exact this
      have hR:∀a,tC (A.take i++[a]) E'=yI (tC (A.take i) E') a:=fun a=>by simp[tC]
      have hch:∀a,zI (A.take i++[a]) (EO E')=(zI (A.take i) (EO E')||decide (a.c+lC (nX (tC (A.take i) E').1) a.t<(nX (tC (A.take i) E').1 a.f).getD uO)):=fun a=>by rw[WQ,←xZ];rfl
      generalize A[i]=a at hl ha ht;have hR:=hR a;have hch:=hch a;rw[←ht]at hR hch
      generalize zI (A.take i) (EO E')=ch0 at hch;generalize tC (A.take i) E'=E1 at hR hch hbd;have hat:=am9 (.sl (A.map oD)) C n hC hn E1.1 a.t;have hb1:=vN hbd a.t;have hw:IntKind.i64.wrap (a.c+lC (nX E1.1) a.t)=a.c+lC (nX E1.1) a.t:=wrap_i64 (by omega) (by simp[uO]at hb1;omega);have htr:=aix A C S n hC hS (by omega) E1 (d1+i) (d2+i) a.f (a.c+lC (nX E1.1) a.t) a.t 0
      have hg:(A.map oD)[i]? = some (oD a):=by simp[hl]
      simp -dsimp[hiz,hg,oD];and_intros;all_goals try first|rfl|omega|exact⟨by kernel_rfl⟩
      refine aI.peek hat (.x 0) 900 902 ?_;simp -dsimp[hok,oD,hC,Zy,hw];refine⟨?_,⟨by kernel_rfl,by kernel_rfl⟩⟩;rw[←Zy];refine oG.Y3 htr [.x 0] [(900,900),(901,901),(902,902),(903,903)] 1000 ?_;have wi:IntKind.i64.wrap ((i:Int)+1)=(i:Int)+1:=wrap_i64 (by omega) (by omega);by_cases hc:a.c+lC (nX E1.1) a.t<(nX E1.1 a.f).getD uO
      ·simp -dsimp[hok2,oD,hC,hw,hc,wi];refine⟨⟨i+1,by omega⟩,?_,by simp;omega⟩;refine(GS.to (l':=[(.s 0,It.v (.ptr (.x 0) 0)),(.s 1,It.v (.d (.int .i64 n))),(.x 0,It.box [.d (.sl (A.map oD)),.aW 2900 (n+1),.aW 2901 (n+1)]),(.s 11,It.v (.d (.sl (A.map oD)))),(.s 12,It.v (.d (.int .i64 A.length))),(.s 13,It.v (.d (.int .i64 ((i:Int)+1)))),(.s 4,It.v (.d (.bool true))),
         (.o 2900,.row 200 1 (dd C++[[.mref 2902]]) false),(.o 2901,.row 224 1 (dd S++[[.mref 2903]]) false),(.o 2902,.fO (tY (yI E1 a).1) (d1+i+1) none none),(.o 2903,.fO (sF (yI E1 a).2) (d2+i+1) none none)]) (by simp[yI,hc])).trans ?_
       refine(GS.ren' (l':=[(.s 0,It.v (.ptr (.x 0) 0)),(.s 1,It.v (.d (.int .i64 n))),(.x 0,It.box [.d (.sl (A.map oD)),.aW 900 (n+1),.aW 2901 (n+1)]),(.s 11,It.v (.d (.sl (A.map oD)))),(.s 12,It.v (.d (.int .i64 A.length))),(.s 13,It.v (.d (.int .i64 ((i:Int)+1)))),(.s 4,It.v (.d (.bool true))),
         (.o 900,.row 200 1 (dd C++[[.mref 2902]]) false),(.o 2901,.row 224 1 (dd S++[[.mref 2903]]) false),(.o 2902,.fO (tY (yI E1 a).1) (d1+i+1) none none),(.o 2903,.fO (sF (yI E1 a).2) (d2+i+1) none none)]) 2900 900 (by decide) (by simp) (by simp)).trans ?_
       refine(GS.ren' (l':=[(.s 0,It.v (.ptr (.x 0) 0)),(.s 1,It.v (.d (.int .i64 n))),(.x 0,It.box [.d (.sl (A.map oD)),.aW 900 (n+1),.aW 901 (n+1)]),(.s 11,It.v (.d (.sl (A.map oD)))),(.s 12,It.v (.d (.int .i64 A.length))),(.s 13,It.v (.d (.int .i64 ((i:Int)+1)))),(.s 4,It.v (.d (.bool true))),
         (.o 900,.row 200 1 (dd C++[[.mref 2902]]) false),(.o 901,.row 224 1 (dd S++[[.mref 2903]]) false),(.o 2902,.fO (tY (yI E1 a).1) (d1+i+1) none none),(.o 2903,.fO (sF (yI E1 a).2) (d2+i+1) none none)]) 2901 901 (by decide) (by simp) (by simp)).trans ?_
       refine(GS.ren' (l':=[(.s 0,It.v (.ptr (.x 0) 0)),(.s 1,It.v (.d (.int .i64 n))),(.x 0,It.box [.d (.sl (A.map oD)),.aW 900 (n+1),.aW 901 (n+1)]),(.s 11,It.v (.d (.sl (A.map oD)))),(.s 12,It.v (.d (.int .i64 A.length))),(.s 13,It.v (.d (.int .i64 ((i:Int)+1)))),(.s 4,It.v (.d (.bool true))),
         (.o 900,.row 200 1 (dd C++[[.mref 902]]) false),(.o 901,.row 224 1 (dd S++[[.mref 2903]]) false),(.o 902,.fO (tY (yI E1 a).1) (d1+i+1) none none),(.o 2903,.fO (sF (yI E1 a).2) (d2+i+1) none none)]) 2902 902 (by decide) (by simp) (by simp)).trans ?_
       exact GS.ren' 2903 903 (by decide) (by simp) (by simp[hR,hch,hc,iZ])
      ·simp -dsimp[hok2,oD,hC,hw,hc,wi];refine⟨⟨i+1,by omega⟩,?_,by simp;omega⟩;refine(GS.to (l':=[(.s 0,It.v (.ptr (.x 0) 0)),(.s 1,It.v (.d (.int .i64 n))),(.x 0,It.box [.d (.sl (A.map oD)),.aW 2900 (n+1),.aW 2901 (n+1)]),(.s 11,It.v (.d (.sl (A.map oD)))),(.s 12,It.v (.d (.int .i64 A.length))),(.s 13,It.v (.d (.int .i64 ((i:Int)+1)))),(.s 4,It.v (.d (.bool ch0))),
         (.o 2900,.row 200 1 (dd C++[[.mref 2902]]) false),(.o 2901,.row 224 1 (dd S++[[.mref 2903]]) false),(.o 2902,.fO (tY (yI E1 a).1) (d1+i+1) none none),(.o 2903,.fO (sF (yI E1 a).2) (d2+i+1) none none)]) (by simp[yI,hc])).trans ?_
       refine(GS.ren' (l':=[(.s 0,It.v (.ptr (.x 0) 0)),(.s 1,It.v (.d (.int .i64 n))),(.x 0,It.box [.d (.sl (A.map oD)),.aW 900 (n+1),.aW 2901 (n+1)]),(.s 11,It.v (.d (.sl (A.map oD)))),(.s 12,It.v (.d (.int .i64 A.length))),(.s 13,It.v (.d (.int .i64 ((i:Int)+1)))),(.s 4,It.v (.d (.bool ch0))),
         (.o 900,.row 200 1 (dd C++[[.mref 2902]]) false),(.o 2901,.row 224 1 (dd S++[[.mref 2903]]) false),(.o 2902,.fO (tY (yI E1 a).1) (d1+i+1) none none),(.o 2903,.fO (sF (yI E1 a).2) (d2+i+1) none none)]) 2900 900 (by decide) (by simp) (by simp)).trans ?_
       refine(GS.ren' (l':=[(.s 0,It.v (.ptr (.x 0) 0)),(.s 1,It.v (.d (.int .i64 n))),(.x 0,It.box [.d (.sl (A.map oD)),.aW 900 (n+1),.aW 901 (n+1)]),(.s 11,It.v (.d (.sl (A.map oD)))),(.s 12,It.v (.d (.int .i64 A.length))),(.s 13,It.v (.d (.int .i64 ((i:Int)+1)))),(.s 4,It.v (.d (.bool ch0))),
         (.o 900,.row 200 1 (dd C++[[.mref 2902]]) false),(.o 901,.row 224 1 (dd S++[[.mref 2903]]) false),(.o 2902,.fO (tY (yI E1 a).1) (d1+i+1) none none),(.o 2903,.fO (sF (yI E1 a).2) (d2+i+1) none none)]) 2901 901 (by decide) (by simp) (by simp)).trans ?_
       refine(GS.ren' (l':=[(.s 0,It.v (.ptr (.x 0) 0)),(.s 1,It.v (.d (.int .i64 n))),(.x 0,It.box [.d (.sl (A.map oD)),.aW 900 (n+1),.aW 901 (n+1)]),(.s 11,It.v (.d (.sl (A.map oD)))),(.s 12,It.v (.d (.int .i64 A.length))),(.s 13,It.v (.d (.int .i64 ((i:Int)+1)))),(.s 4,It.v (.d (.bool ch0))),
         (.o 900,.row 200 1 (dd C++[[.mref 902]]) false),(.o 901,.row 224 1 (dd S++[[.mref 2903]]) false),(.o 902,.fO (tY (yI E1 a).1) (d1+i+1) none none),(.o 2903,.fO (sF (yI E1 a).2) (d2+i+1) none none)]) 2902 902 (by decide) (by simp) (by simp)).trans ?_
       exact GS.ren' 2903 903 (by decide) (by simp) (by simp[hR,hch,hc,iZ])
     ·have hiz :¬(i:Int)<A.length:=by omega
      have hil:i=A.length:=by omega
      rw[show A.take i=A from aS (by omega)];simp -dsimp[hiz];and_intros;all_goals try first|rfl|omega|exact⟨by kernel_rfl⟩
      have hbd:xK (nX (tC A E').1):=by
       have:=tX (l:=A) hA0 (z:=EO E') i2;rw[←xZ]at this
       exact this
      cases hch:zI A (EO E')with
      | false=>
        rw[if_neg (by simp[hch])]at i1
        exact⟨⟨(false,k,tC A E',d1+i,d2+i),by simpa using i1,hbd,by simp only;omega,by simp only;omega⟩,GS.to (by simp),by simp⟩
      | true=>
        rw[if_pos hch]at i1
        have hp:=GV hA0 (z:=EO E') i2 hch;rw[←xZ]at hp
        simp only[EO]at hp;exact⟨⟨(true,k,tC A E',d1+i,d2+i),⟨i1,by simp only;omega⟩,hbd,by simp only;omega,by simp only;omega⟩,GS.to (by simp),by simp⟩
theorem Zb:((List.range 64).all fun S=>(List.range 64).all fun q=>!decide (q&&&S=q)||decide (DI .i64 (S:Int) (q:Int)=((S-q:Nat):Int)))=true:=by decide+kernel
theorem RP{S q:Nat}(hS:S<64)(hq:q<64)(h:q&&&S=q):DI .i64 (S:Int) (q:Int)=((S-q:Nat):Int):=by have h1:=bM.1 (bM.1 Zb S (bI.2 hS)) q (bI.2 hq);simpa[h]using h1
def Rj(x:Int×Int):List D:=[.int .i64 x.1,.int .i64 x.2]
theorem aku(M:List (Int×Int))(hM:M.length≤100000)(a b:Int):
  nH Tryz.prog 121 [.agg [.d (.int .i64 a),.d (.int .i64 b)],.ptr (.x 0) 0] [.box [.aW 900 M.length]] [(900,.row 131 2 (dd (M.map Rj)) false)]
   (.qh []) [.box [.aW 900 (M++[(a,b)]).length]] [(900,.row 131 2 (dd ((M++[(a,b)]).map Rj)) false)]:=by
 refine kD Tryz.func121 rfl (fun E0=>?_);refine iC.sound (g:=.mk) (ow:=[]) (kp:=(kb 7)) ?_;rw[Tryz.ntmps121];simp -dsimp;and_intros;all_goals try first|rfl|omega|exact⟨by kernel_rfl⟩
 refine Fin.of ?_;simp[Rj]
def Wu(T:List (CM×SM))(n:Nat)(L:List (List D)):Prop:=L.length=n∧∀S,S<n→∃ks vs,L[S]? = some [.mq ks vs]∧rQ 1 (CY ks vs)∧∀v,kJ (CY ks vs) [v]=((T.getD S iP).2 v).map fun x=>TV.agg [.d (.int .i64 x.1),.d (.int .i64 x.2)]
theorem Y9(T:List (CM×SM))(n:Nat)(hn:n≤64)(x0 x1:D)(L2:List (List D))(hV:Wu T n L2):∀{S:Nat} {v:Int} {L:List (Int×Int)},vJ T S v L→S<n→∀(M:List (Int×Int)),M.length+L.length≤100000→
  nH Tryz.prog 120 [.ptr (.x 0) 0,.d (.int .i64 S),.d (.int .i64 v),.clo 121 [.ptr (.x 1) 0]] [It.box [TV.d x0,TV.d x1,TV.d (.sl L2)],.box [.aW 900 M.length]] [(900,.row 131 2 (dd (M.map Rj)) false)]
   (.qh []) [It.box [TV.d x0,TV.d x1,TV.d (.sl L2)],.box [.aW 900 (M++L).length]] [(900,.row 131 2 (dd ((M++L).map Rj)) false)]:=by
 have hok1:dB Tryz.prog 121=true:=by kernel_rfl
 have hok2:dB Tryz.prog 120=true:=by kernel_rfl
 intro S v L h
 induction h with
 | none e=>
   rename_i S v;intro hS M hM;obtain⟨ks,vs,h1,h2,h3⟩:=hV.2 S hS;have h3:=h3 v;rw[e]at h3
   have hSz:(S:Int)<L2.length:=by have:=hV.1;omega
   refine kD Tryz.func120 rfl (fun E0=>?_);refine iC.sound (g:=.mk) (ow:=[4000022,5000120]) (kp:=(kb 0x40004010f)) ?_;rw[Tryz.ntmps120];simp -dsimp[hSz,h1,h2,h3];and_intros;all_goals try first|rfl|omega|exact⟨by kernel_rfl⟩
   refine Fin.of ?_;simp
 | base e=>
   rename_i S v;intro hS M hM;obtain⟨ks,vs,h1,h2,h3⟩:=hV.2 S hS;have h3:=h3 v;rw[e]at h3
   have hSz:(S:Int)<L2.length:=by have:=hV.1;omega
   refine kD Tryz.func120 rfl (fun E0=>?_);refine iC.sound (g:=.mk) (ow:=[4000022,5000120]) (kp:=(kb 0x40004010f)) ?_;rw[Tryz.ntmps120];simp -dsimp[hSz,h1,h2,h3];and_intros;all_goals try first|rfl|omega|exact⟨by kernel_rfl⟩
   refine Fin.of ?_;simp
 | arc e hu hc ih=>
   rename_i S v u p L;intro hS M hM;obtain⟨ks,vs,h1,h2,h3⟩:=hV.2 S hS;have h3:=h3 v;rw[e]at h3
   have hSz:(S:Int)<L2.length:=by have:=hV.1;omega
   have aor:=aku M (by omega) v u;have hih:=ih hS (M++[(v,u)]) (by simp at hM⊢;omega);have atb:M++[(v,u)]++L=M++(v,u)::L:=by simp
   rw[atb]at hih
   generalize M++[(v,u)]=M1 at aor hih;generalize M++(v,u)::L=M2 at hih⊢;refine kD Tryz.func120 rfl (fun E0=>?_);refine iC.sound (g:=.mk) (ow:=[4000022,5000120]) (kp:=(kb 0x40004010f)) ?_;rw[Tryz.ntmps120];simp -dsimp[hSz,h1,h2,h3,hu];refine oG.Y3 aor [.x 1] [(900,900)] 1000 ?_;simp -dsimp[hok1];refine oG.Y3 hih [.x 0,.x 1] [(900,1900)] 2000 ?_
   simp -dsimp[hok2];refine Fin.gs (GS.to (l':=[(.x 0,It.box [TV.d x0,TV.d x1,TV.d (.sl L2)]),(.x 1,It.box [TV.aW 2900 M2.length]),(.o 2900,It.row 131 2 (dd (M2.map Rj)) false)]) (by simp)) ?_
   refine Fin.gs (GS.ren' (l':=[(.x 0,It.box [TV.d x0,TV.d x1,TV.d (.sl L2)]),(.x 1,It.box [TV.aW 900 M2.length]),(.o 900,It.row 131 2 (dd (M2.map Rj)) false)]) 2900 900 (by decide) (by simp) (by simp)) ?_;refine Fin.of ?_;simp
 | part e hq hlt hsub hc1 hc2 ih1 ih2=>
   rename_i S q v L1 L3;intro hS M hM;obtain⟨ks,vs,h1,h2,h3⟩:=hV.2 S hS;have h3:=h3 v;rw[e]at h3
   have hSz:(S:Int)<L2.length:=by have:=hV.1;omega
   have han:=RP (by omega) (by omega) hsub;have hi1:=ih1 (by omega) M (by simp at hM⊢;omega);have hi2:=ih2 (by omega) (M++L1) (by simp at hM⊢;omega);rw[dP]at hi2
   generalize M++L1=M1 at hi1 hi2;generalize M++(L1++L3)=M2 at hi2⊢;refine kD Tryz.func120 rfl (fun E0=>?_);refine iC.sound (g:=.mk) (ow:=[4000022,5000120]) (kp:=(kb 0x40004010f)) ?_;rw[Tryz.ntmps120];simp -dsimp[hSz,h1,h2,h3,hq];refine oG.Y3 hi1 [.x 0,.x 1] [(900,900)] 1000 ?_;simp -dsimp[hok2,han]
   refine oG.Y3 hi2 [.x 0,.x 1] [(900,1900)] 2000 ?_;simp -dsimp[hok2];refine Fin.gs (GS.to (l':=[(.x 0,It.box [TV.d x0,TV.d x1,TV.d (.sl L2)]),(.x 1,It.box [TV.aW 2900 M2.length]),(.o 2900,It.row 131 2 (dd (M2.map Rj)) false)]) (by simp)) ?_
   refine Fin.gs (GS.ren' (l':=[(.x 0,It.box [TV.d x0,TV.d x1,TV.d (.sl L2)]),(.x 1,It.box [TV.aW 900 M2.length]),(.o 900,It.row 131 2 (dd (M2.map Rj)) false)]) 2900 900 (by decide) (by simp) (by simp)) ?_;refine Fin.of ?_;simp
end Go.Proofs

namespace Go.Proofs
def GX(m:CM)(c:Int):List Ar→Nat
 | []=>0
 | a::l=>(match m a.f with|some x=>if x≤c then 1 else 0|none=>0)+GX m c l
theorem Mc(m:CM)(c:Int):∀l,GX m c l≤l.length
 | []=>au _
 | a::l=>by
   have:=Mc m c l;simp only[GX,aH];split
   ·split<;>omega
   ·omega
theorem cnt_le(m:CM){c' c:Int}(h:c'≤c):∀l,GX m c' l≤GX m c l
 | []=>au _
 | a::l=>by
   have:=cnt_le m h l;simp only[GX];split
   ·rename_i x _;by_cases h1:x≤c'
    ·rw[if_pos h1,if_pos (by omega)];omega
    ·rw[if_neg h1];omega
   ·omega
theorem cnt_lt(m:CM){c' c:Int}(h:c'<c){a:Ar}(hm:m a.f=some c):∀l,a∈l→GX m c' l<GX m c l
 | [],ha=>by simp at ha
 | b::l,ha=>by
   rcases aF.1 ha with rfl|ha
   ·have:=cnt_le m (c':=c') (c:=c) (by omega) l;simp only[GX,hm];rw[if_neg (by omega),if_pos (fM _)];omega
   ·have:=cnt_lt m h hm l ha;simp only[GX];split
    ·rename_i x _;by_cases h1:x≤c'
     ·rw[if_pos h1,if_pos (by omega)];omega
     ·rw[if_neg h1];omega
    ·omega
theorem afB{l:List Ar}(hl:∀a∈l,1≤a.c∧a.t≠0){ts:List Int}{n:Nat}:∀(S:Nat),S<n→∀(v c:Int),((kE l ts n).getD S iP).1 v=some c→∃L,vJ (kE l ts n) S v L∧L.length≤GX ((kE l ts n).getD S iP).1 c l+(2*S-2)*l.length:=by
 have hl0:∀a∈l,0≤a.c:=fun a ha=>by have:=hl a ha;omega
 intro S
 induction S using Nat.strongRecOn with
 | _ S ihS=>
   intro hS;have part:∀{v c1 c2 u p:Int} {q:Nat},((kE l ts n).getD S iP).2 v=some (u,p)→u=0→p≠0→p=q→q<S→q&&&S=q→((kE l ts n).getD q iP).1 v=some c1→((kE l ts n).getD (S-q) iP).1 v=some c2→
     ∃L,vJ (kE l ts n) S v L∧L.length≤(2*S-2)*l.length:=by
    intro v c1 c2 u p q h3 hu hp h5 h6 h7 h8 h9;subst hu h5;obtain⟨L1,g1,m1⟩:=ihS q h6 (by omega) v c1 h8;obtain⟨L2,g2,m2⟩:=ihS (S-q) (by omega) (by omega) v c2 h9;refine⟨_,.part h3 (by omega) h6 h7 g1 g2,?_⟩;have k1:=Mc ((kE l ts n).getD q iP).1 c1 l;have k2:=Mc ((kE l ts n).getD (S-q) iP).1 c2 l
    have e:(2*S-2)*l.length=l.length+(2*q-2)*l.length+(l.length+(2*(S-q)-2)*l.length):=by
     have e1:2*S-2=1+(2*q-2)+(1+(2*(S-q)-2)):=by omega
     rw[e1];simp only[fF,Nat.one_mul]
    rw[aU];omega
   have key:∀(m:Nat) (v c:Int),c.toNat≤m→((kE l ts n).getD S iP).1 v=some c→∃L,vJ (kE l ts n) S v L∧L.length≤GX ((kE l ts n).getD S iP).1 c l+(2*S-2)*l.length:=by
    intro m
    induction m with
    | zero=>
      intro v c hc e;have hb:=vY hl0 ts n S v c e;obtain⟨u,p,h3,h4⟩:=V4 hl hS v c e;rcases h4 with⟨hu,c',h5,h6,a,h7,h8,h9⟩|⟨hu,hp,q,h5,h6,h7,⟨c1,h8⟩,c2,h9⟩|⟨h1,h2,_⟩
      ·have:=vY hl0 ts n S u c' h5;omega
      ·obtain⟨L,g,hg⟩:=part h3 hu hp h5 h6 h7 h8 h9;exact⟨L,g,by omega⟩
      ·subst h1 h2;exact⟨_,.base h3,by simp⟩
    | succ m ihm=>
      intro v c hc e;obtain⟨u,p,h3,h4⟩:=V4 hl hS v c e;rcases h4 with⟨hu,c',h5,h6,a,h7,h8,h9⟩|⟨hu,hp,q,h5,h6,h7,⟨c1,h8⟩,c2,h9⟩|⟨h1,h2,_⟩
      ·have:=vY hl0 ts n S u c' h5;obtain⟨L,g,hg⟩:=ihm u c' (by omega) h5;have:=cnt_lt ((kE l ts n).getD S iP).1 h6 (a:=a) (by rw[h8];exact e) l h7;refine⟨_,.arc h3 hu g,?_⟩;rw[aH];have h10:GX ((kE l ts n).getD S iP).1 c' l+1≤GX ((kE l ts n).getD S iP).1 c l:=this;generalize (2*S-2)*l.length=K at *;omega
      ·obtain⟨L,g,hg⟩:=part h3 hu hp h5 h6 h7 h8 h9;exact⟨L,g,by omega⟩
      ·subst h1 h2;exact⟨_,.base h3,by simp⟩
   intro v c e;exact key _ v c (au _) e
end Go.Proofs
