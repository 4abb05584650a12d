/-
  What functions of the program compute, stated as contracts over plain data; the conditions of each stand in its own statement.
-/
import Derived.Test.YtboimfkommpglaaGreatDoorZB11
import Derived.Test.YtboimfkommpglaaGreatDoorZB22
import Derived.Shelf.SlSortCmp.NoneTotal
import Derived.Test.YtboimfkommpglaaGreatDoorZB21
set_option linter.unusedVariables false
set_option linter.unusedSimpArgs false
namespace Go.Tr
open Go
def oW(zs:List (List Int)):List (List D):=zs.map fun z=>z.map (.int .i64)
@[simp]theorem ant(zs:List (List Int)):(oW zs).length=zs.length:=by simp[oW]
@[simp]theorem Qr(zs:List (List Int)):(dd (oW zs)).length=zs.length:=by simp
def flat(zs:List (List Int)):List Value:=zs.flatMap fun z=>z.map (.int .i64)
theorem Eh(z:List Int)(zs:List (List Int)):flat (z::zs)=z.map (.int .i64)++flat zs:=rfl
theorem Ls{k:Nat}:∀{zs:List (List Int)},(∀z∈zs,z.length=k)→(flat zs).length=zs.length*k
 | [],_=>by simp[flat]
 | z::zs,h=>by
   have h2:=Ls (zs:=zs) fun y hy=>h y (by simp[*])
   grind[Eh]
theorem Jh{E:En}{us:List Value}:∀{z:List Int} {o:Nat},(∀j n,z[j]? = some n→us[o+j]? = some (.int .i64 n))→eP E us o ((z.map (D.int .i64)).map .d)
 | [],_,_=>trivial
 | n::z,o,h=>⟨⟨.int .i64 n,by simpa using h 0 n rfl,rfl,by rfl⟩,Jh fun j m hj=>by
   have:=h (j+1) m hj
   grind⟩
theorem PX{E:En}{k:Nat}{us:List Value}:∀{zs:List (List Int)} {o:Nat},(∀z∈zs,z.length=k)→(∀i v,(flat zs)[i]? = some v→us[o+i]? = some v)→iJ E us k o (dd (oW zs))
 | [],_,_,_=>trivial
 | z::zs,o,hl,h=>by
   refine⟨by simp[*],Jh fun j n hj=>?_,PX (fun y hy=>hl y (by simp[*])) fun i v hv=>?_⟩
   ·grind[Eh]
   ·have:=h (k+i) v (by grind[Eh])
    grind
theorem Jm{E:En}{us:List Value}:∀{z:List Int} {o:Nat},eP E us o ((z.map (D.int .i64)).map .d)→∀j n,z[j]? = some n→us[o+j]? = some (.int .i64 n)
 | n::z,o,⟨⟨u,h1,_,h3⟩,h4⟩,j,m,hj=>by
   cases j with
   | zero=>grind[aV,Rep]
   | succ j=>
     have:=Jm h4 j m (by trivial)
     grind
theorem Pj{E:En}{k:Nat}{us:List Value}:∀{zs:List (List Int)} {o:Nat},iJ E us k o (dd (oW zs))→(∀z∈zs,z.length=k)∧∀i v,(flat zs)[i]? = some v→us[o+i]? = some v
 | [],_,_=>⟨by simp,by simp[flat]⟩
 | z::zs,o,h=>by
   obtain⟨h1,h2,h3⟩:((z.map (D.int .i64)).map TV.d).length=k∧eP E us o ((z.map (D.int .i64)).map .d)∧iJ E us k (o+k) (dd (oW zs)):=h;obtain⟨h4,h5⟩:=Pj h3
   grind[Eh,Jm]
structure O7(P:Program)(f g:FuncId)(k:Nat)(pre:List (List Int)→Prop)(F:List (List Int)→List (List Int)):Prop where
 len:∀zs,(F zs).length=zs.length
 row:∀zs,(∀z∈zs,z.length=k)→∀z∈F zs,z.length=k
 run:∀(w:World) (b cap:Nat) (zs:List (List Int)) (cur:Array Value) (e:TypeId),w.heap[b]? = some (.cells cur e (0,0))→zs.length≤cap→cap≤maxLen→cur.size=cap*k→cur.toList.take (zs.length*k)=flat zs→(∀z∈zs,z.length=k)→pre zs→0<zs.length→zs.length<4611686018427387904→
  Calls P f #[.slice (some ⟨b,0,none⟩) zs.length cap,.func (.func g) #[] #[]] w fun e' w'=>e' = .returned (.tuple #[])∧w.grownBy w' (some b)∧
   ∃cur',w'.heap[b]? = some (.cells cur' e (0,0))∧cur'.size=cap*k∧cur'.toList.take (zs.length*k)=flat (F zs)
 none:∀p cap w,Calls P f #[.slice p 0 cap,.func (.func g) #[] #[]] w fun e' w'=>e' = .returned (.tuple #[])∧w'=w
section
variable {P:Program} {A:jL} {ops:Array Oper}
theorem Sum.adM{t:S}{i:Nat}{o:Oper}{gp:List Pl}{fo x y:Operand}{tys:Array TypeId}{f g:FuncId}{pre:List (List Int)→Prop}{F:List (List Int)→List (List Int)}{id n k:Nat}{e:TypeId}{zs:List (List Int)}
  (ho:ops[i]? = some o) (hg:gv ops t o=some (gp,true)) (hd:qj A.N o=true) (hop:o.op = .call {callee:=.value fo,args:=#[x,y],argTypes:=tys}) (hf:ev t fo = .clo f []) (hfn:dP P f=true)
  (C:O7 P f g k pre F) (hpre:pre zs) (hx:ev t x = .bK id n) (hy:ev t y = .clo g []) (ht:t (.o id) = .row e k (dd (oW zs)) false) (hn:n=zs.length) (hsz:zs.length<4611686018427387904) :
  Sum P A ops i t (gp++(pl fo++(pl x++(pl y++[.o id])))) (wF o (.sZ []) [(.o id,.row e k (dd (oW (F zs))) false)]):=fun t' hr a w ⟨E,hw,hi⟩ K Q hK=>by
 subst hw;have hwant:=oQ hg (dw hr) hi;have hr1:=bg hr;have hr2:=bg hr1;have hr3:=bg hr2;have hfo:ev t' fo = .clo f []:=(fZ (dw hr1)).trans hf;have hx':ev t' x = .bK id n:=(fZ (dw hr2)).trans hx;have hy':ev t' y = .clo g []:=(fZ (dw hr3)).trans hy;have ht':t' (.o id) = .row e k (dd (oW zs)) false:=(bg hr3 _ (by simp)).trans ht
 have hfr:=dS hi fo;rw[hfo]at hfr
 simp only[aV,b_]at hfr;obtain⟨vF,Cb,wY⟩:=hfr;obtain rfl:vF = #[]:=by simp_all
 have hyr:=dS hi y;rw[hy']at hyr
 simp only[aV,b_]at hyr;obtain⟨an4,huy,anr⟩:=hyr;obtain rfl:an4 = #[]:=by simp_all
 have hxr:=dS hi x;rw[hx']at hxr
 obtain⟨hblk,v,us,hval,hown,hrel,hcur⟩:=Bg hi ht';have hnl:(dd (oW zs)).length=zs.length:=Qr zs;rw[hn,←hnl]at hxr
 have hxv:=hcur _ hxr;rw[hnl]at hval hown
 unfold wpOp;simp only[ho,hwant,if_true];refine .inl ?_;unfold Oper.wp;have hrun:(execOp a.eval o).run P E.w = .ok (.enter f #[v,.func (.func g) #[] #[]]) E.w:=by simp only[execOp,hop,resolve,Cb,Deferred.ofValue,invoke,Sem.run_bind,Sem.run_pure,Result.andThen_ok,iy,iF,jH hfn,hxv,huy,Array.map,kM];simp[*]
 rw[hrun];simp only[Oper.upon];obtain⟨hlz,hnum⟩:=Pj hrel;simp only[dR]at hnum;have oK:E.own (.o id)=v.ownBlock:=by grind[En.own]
 have ak_:∀(b:Nat),E.own (.o id)=some b→∀o',¬E.St b o':=fun b hb o' hs=>by
  obtain⟨e2,k2,es2,h1,_⟩:=hi.h.sep b o' hs _ hb
  grind
 have fin:∀(w':World) (us':List Value),E.w.grownBy w' v.ownBlock→w'.ownsRow 0 e k v zs.length us'→(∀(i:Nat) (u:Value),(flat (F zs))[i]? = some u→us'[i]? = some u)→K (a.put o.dst (.tuple #[])) w':=fun w' us' hgr hown' hcells=>by
  obtain⟨E',hw',x1,hi',hval'⟩:=hi.QL ht' (es':=dd (oW (F zs))) (sh':=false) (us':=us') (v':=v) (w':=w') (by rw[hnl];exact hval) hgr
   (by rw[Qr,C.len];exact hown') (by rw[Qr,Qr,C.len];exact aI _) (fun _=>rfl) (.inl rfl)
   (fun b o' hst=>by
    by_cases hb:v.ownBlock=some b
    ·exact absurd hst (ak_ b (by rw[oK,hb]) o')
    ·exact jV (hgr.block b (hi.h.uP b o' hst) (fun e=>hb e.symm)))
   (fun h=>by simp at h) (fun E' hw' x=>PX (C.row zs hlz) (by simpa using hcells))
  refine hK _ _ ⟨E',hw',?_⟩;exact iI.dst (W:=[(.o id,.row e k (dd (oW (F zs))) false)]) hi' hd (by simp only[aV];exact⟨#[],rfl,by simp[b_]⟩)
 have hsame:zs.length=0→∀(i:Nat) (u:Value),(flat (F zs))[i]? = some u→us[i]? = some u:=fun h0 i u hu=>by
  have:=C.len zs;rw[h0]at this
  rw[dB.1 this]at hu
  simp[flat]at hu
 rcases hown.2 with⟨hv,h0⟩|⟨b,cap,cur,hv,hb0,hgg,hnc,hcm,hcs,htake⟩
 ·subst hv;refine(C.none none 0 E.w).mono fun e' w' ⟨he,hw'⟩=>?_
  subst he hw';exact fin E.w us ⟨rfl,rfl,rfl,aI _,fun _ _ _=>rfl⟩ hown (hsame h0)
 ·by_cases h0:zs.length=0
  ·subst hv;have:=hsame h0;rw[h0];refine(C.none _ cap E.w).mono fun e' w' ⟨he,hw'⟩=>?_
   subst he hw';rw[h0]at fin hown
   exact fin E.w us ⟨rfl,rfl,rfl,aI _,fun _ _ _=>rfl⟩ hown this
  ·subst hv;have alb:us=flat zs:=by
    apply iV;intro i;by_cases hi2:i<(flat zs).length
    ·rw[hnum i _ (ah hi2),ah hi2]
    ·have h1:=hown.1;rw[←Ls hlz]at h1
     rw[dK (by omega),dK (by omega)]
   rw[alb]at htake
   refine(C.run E.w b cap zs cur e hgg hnc hcm hcs htake hlz hpre (by omega) hsz).mono fun e' w' ⟨he,hgr,cur',h1,h2,h3⟩=>?_
   subst he;exact fin w' (flat (F zs)) hgr ⟨by rw[Ls (C.row zs hlz),C.len],.inr ⟨b,cap,cur',rfl,hb0,h1,hnc,hcm,h2,h3⟩⟩ fun i u hu=>hu
def acu(P:Program)(N:Nat)(t:S)(o:Oper)(f g:FuncId)(k:Nat)(pre:List (List Int)→Prop)(F:List (List Int)→List (List Int))(zs:List (List Int))(gp:List Pl)(gd:Bool)(fo x y:Operand):Option (Prop×List Pl×List (Pl×It)):=
 match ev t x with
 | .bK id n=>match ev t fo with
   | .clo f' caps=>match ev t y with
     | .clo g' akc=>match t (.o id)with
       | .row e z es sh=>some (gd=true∧qj N o=true∧f'=f∧caps = []∧g'=g∧akc = []∧dP P f=true∧z=k∧sh=false∧es=dd (oW zs)∧n=zs.length∧zs.length<4611686018427387904∧pre zs,gp++(pl fo++(pl x++(pl y++[.o id]))),wF o (.sZ []) [(.o id,.row e z (dd (oW (F zs))) false)])
       | _=>none
     | _=>none
   | _=>none
 | _=>none
def acs(P:Program)(N:Nat)(t:S)(ops:Array Oper)(f g:FuncId)(k:Nat)(pre:List (List Int)→Prop)(F:List (List Int)→List (List Int))(zs:List (List Int)):Option Oper→Option (Prop×List Pl×List (Pl×It))
 | some o=>match gv ops t o with
   | some (gp,gd)=>match o.op with
     | .call {callee:=.value fo,args:=xs,argTypes:=_}=>match xs.toList with
       | [x,y]=>acu P N t o f g k pre F zs gp gd fo x y
       | _=>none
     | _=>none
   | none=>none
 | none=>none
theorem aF.adM{i:Nat}{t:S}{kk:List Pl→List (Pl×It)→Prop}{gt:Tg kk}{f g:FuncId}{k:Nat}{pre:List (List Int)→Prop}{F:List (List Int)→List (List Int)}(C:O7 P f g k pre F)(zs:List (List Int))
  (h:UW kk gt (acs P A.N t ops f g k pre F zs ops[i]?)):aF P A ops i t kk gt:=by
 unfold UW at h;split at h
 ·rename_i D rp W hc;obtain⟨h1,h2⟩:=h;refine⟨rp,W,?_,h2⟩;unfold acs at hc;split at hc
  ·rename_i o ho;split at hc
   ·rename_i gp g0 hg;split at hc
    ·rename_i fo xs tys hop;split at hc
     ·rename_i x y hxs;obtain rfl:xs = #[x,y]:=by grind
      unfold acu at hc;split at hc
      ·rename_i id n hx;split at hc
       ·rename_i f' caps hf;split at hc
        ·rename_i g' akc hy;split at hc
         ·rename_i e z es sh ht;simp only[aj,aK]at hc;obtain⟨rfl,rfl,rfl⟩:=hc;obtain⟨rfl,q1,rfl,rfl,rfl,rfl,q2,rfl,rfl,rfl,q3,q4,q5⟩:=h1
          grind[Sum.adM]
         trivial
        trivial
       trivial
      trivial
     trivial
    trivial
   trivial
  trivial
 trivial
attribute [simp] acs acu
end
end Go.Tr

set_option linter.unusedVariables false
set_option maxRecDepth 100000
set_option maxHeartbeats 4000000
namespace Go.Proofs
open Go Go.Tr
def jM(l:List Tb)(id pl:Int):Nat→Int→Bool×Int×Nat
 | 0,r=>match iq l r with
   | none=>(false,r,0)
   | some b=>if qc b id pl=0 then(false,r,0)else if qc b id pl=r then(true,r,0)else(false,r,0)
 | t+1,r=>match iq l r with
   | none=>(false,r,t+1)
   | some b=>if qc b id pl=0 then(false,r,t+1)else if qc b id pl=r then(true,r,t+1)else jM l id pl t (qc b id pl)
structure amr(k:Nat)(p:Pk)(e:Bool×Int×Nat)(t:uN):Prop where
 yes:e.1=true→t.dl = [(e.2.1,pkD p k (p.ttl-e.2.2))]∧t.ls = []
 no:e.1=false→t.dl = []∧∃B,t.ls = [(e.2.1,B)]
theorem aaL{l:List Tb}{k:Nat}(hk:k<64){id pl:Int}:∀(n:Nat) {p:Pk} {r:Int},p.ttl.toNat+1≤n→uU l p→p.bits.getLsbD k=true→lT p k=id→lN p=pl→amr k p (jM l id pl p.ttl.toNat r) (way l k n (r,p))
 | 0,p,r,hn,_,_,_,_=>by omega
 | n+1,p,r,hn,hF,hb,hid,hpl=>by
   have ht:=yB hF.ok;obtain⟨m,hm⟩:∃m:Nat,p.ttl=m:=⟨p.ttl.toNat,by omega⟩
   have hm2:p.ttl.toNat=m:=by omega
   rw[way,hm2];cases h1:iq l r with
   | none=>
     have e:jM l id pl m r=(false,r,m):=by cases m<;>simp[jM,h1]
     rw[e];exact⟨fun h=>by trivial,fun _=>⟨rfl,_,rfl⟩⟩
   | some b=>
     have hbr:=(nO h1).2;have hB:=hF.all b (nO h1).1;have e:dU b p k=qc b id pl:=by rw[B_ hB.ck,hid,hpl]
     simp only;by_cases c0:dU b p k=0
     ·have e2:jM l id pl m r=(false,r,m):=by cases m<;>simp[jM,h1,←e,c0]
      rw[if_pos c0,e2];exact⟨fun h=>by trivial,fun _=>⟨rfl,_,rfl⟩⟩
     by_cases c1:dU b p k=b.r
     ·have e2:jM l id pl m r=(true,r,m):=by
       have:qc b id pl=r:=by omega
       have h0 :¬qc b id pl=0:=by omega
       cases m<;>simp only[jM,h1]<;>rw[if_neg h0,if_pos this]
      rw[if_neg c0,if_pos c1,e2];refine⟨fun _=>⟨?_,rfl⟩,fun h=>by trivial⟩;rw[MK hF.ok hk hb]
      grind[pkD]
     by_cases c2:p.ttl=0
     ·obtain rfl:m=0:=by omega
      have e2:jM l id pl 0 r=(false,r,0):=by
       simp only[jM,h1]
       simp_all
      rw[if_neg c0,if_neg c1,if_pos c2,e2];exact⟨fun h=>by trivial,fun _=>⟨rfl,_,rfl⟩⟩
     rw[if_neg c0,if_neg c1,if_neg c2];obtain⟨j,rfl⟩:∃j,m=j+1:=⟨m-1,by omega⟩
     have e2:jM l id pl (j+1) r=jM l id pl j (dU b p k):=by
      simp only[jM,h1]
      simp_all
     have hr:=(Ae hB.ck c0).2;have et:(JG b p (dU b p k)).ttl=p.ttl-1:=rfl;have ih:=aaL hk n (p:=JG b p (dU b p k)) (r:=dU b p k) (by omega) (hF.mask c2 _) ((IK hB hk hr).2 ⟨hb,rfl⟩) (id:=id) (pl:=pl) (by trivial) (by rw[JG,OX hF.ok c2];omega);rw[show(JG b p (dU b p k)).ttl.toNat=j by omega]at ih
     rw[e2];refine⟨fun h=>?_,fun h=>?_⟩
     ·obtain⟨a1,a2⟩:=ih.yes h;refine⟨?_,by trivial⟩;simp only[uN.app,gW,a1];rw[JG,aag,show(rZ p (Ci b (lN p) p.set (dU b p k))).ttl=p.ttl-1 from rfl]
      grind
     ·obtain⟨a1,B,a2⟩:=ih.no h
      grind[uN.app]
theorem Ik{l:List Tb}{p:Pk}(hF:uU l p)(r:Int){k:Nat}(hk:k<64)(hb:p.bits.getLsbD k=true):
  amr k p (jM l (lT p k) (lN p) p.ttl.toNat r) ((lK l (wt p) [(r,p)] o_).at k):=by
 rw[acp hF r hk hb];exact aaL hk _ (aI _) hF hb rfl rfl
def U2(e:Bool×Int×Nat)(id:Int):List Int:=if e.1=true then [1,e.2.1,id,(e.2.2:Int)]else [2,e.2.1,id,0]
theorem acK(e:Bool×Int×Nat)(id:Int):(U2 e id).getD 2 0=id:=by grind[U2]
def zV(l:List Tb)(p:Pk)(r:Int)(k:Nat):List Int:=U2 (jM l (lT p k) (lN p) p.ttl.toNat r) (lT p k)
def KH(l:List Tb)(p:Pk)(r:Int):List (List Int):=(jg p.bits).map (zV l p r)
def yF(p:Pk):Bool:=(jg p.bits).all fun k=>Au p.set k p.len
def Iu(l:List Tb)(p:Pk)(r:Int):List (List Int)×Int:=
 if(oh l p r).2≠0 then([],(oh l p r).2)else if p.mode≠3 then([],7)else if yF p=true then(KH l p r,0)else([],2)
def akA(p:Pk)(U:uN):List (List Int):=U.dl.flatMap fun d=>(jg d.2.bits).map fun k=>[1,d.1,lT p k,d.2.ttl]
def colS(p:Pk)(U:uN):List (List Int):=U.ls.flatMap fun x=>(jg x.2).map fun k=>[2,x.1,lT p k,0]
def GI(p:Pk)(U:uN):List (List Int):=akA p U++colS p U
def YQ(x y:List Int):Int:=if x.getD 2 0<y.getD 2 0 then -1 else if y.getD 2 0<x.getD 2 0 then 1 else 0
theorem Qm(x y:List Int):YQ x y<0↔x.getD 2 0<y.getD 2 0:=by unfold YQ;omega
theorem JB:∀(L:List (BitVec 64)),(∀k<64,(L.filter fun B=>B.getLsbD k).length≤1)→(L.flatMap jg).Nodup
 | [],_=>by simp
 | B::L,h=>by
   have hr:∀k<64,(L.filter fun B=>B.getLsbD k).length≤1:=by grind
   rw[gV,jh];refine⟨O8 B,JB L hr,fun k hk j hj e=>?_⟩;obtain⟨h1,h2⟩:=nP.1 hk;obtain⟨C,hC,hkC⟩:=fG.1 hj;have h3:=(nP.1 hkC).2;have:=h k h1
   simp_all
theorem key_eq:∀{a b:List (List Int)},a.Pairwise (fun x y=>x.getD 2 0<y.getD 2 0)→b.Pairwise (fun x y=>x.getD 2 0<y.getD 2 0)→(∀x,x∈a↔x∈b)→a=b
 | [],[],_,_,_=>rfl
 | [],y::b,_,_,h=>by have:=(h y).2 (by simp);trivial
 | x::a,[],_,_,h=>by have:=(h x).1 (by simp);trivial
 | x::a,y::b,ha,hb,h=>by
   rw[fB]at ha hb
   have e:x=y:=by grind
   subst e;rw[key_eq ha.2 hb.2 fun z=>?_]
   grind
section
variable {l:List Tb} {p:Pk} {r:Int}
theorem XY{p:Pk}(hA:yF p=true){j k:Nat}(hj:j∈jg p.bits)(hk:k∈jg p.bits)(h:j<k):lT p j<lT p k:=by have h1:=dN.1 hA j hj;have h2:=dN.1 hA k hk;unfold lT;simp[*]
theorem af0(hA:yF p=true):(KH l p r).Pairwise fun x y=>x.getD 2 0<y.getD 2 0:=by
 unfold KH;rw[dA]
 grind[List.Pairwise.imp_of_mem,List.pairwise_lt_range,jg,zV,acK,XY]
theorem Qq(hF:uU l p)(k:Nat)(hk:k<64):(((lK l (wt p) [(r,p)] o_).dl.map (fun d=>d.2.bits)++(lK l (wt p) [(r,p)] o_).ls.map (fun x=>x.2)).filter fun B=>B.getLsbD k).length=if p.bits.getLsbD k=true then 1 else 0:=by
 have h:=(adI hF r hk).1;rw[bJ,aS,jw,jw,aN,aN]
 trivial
theorem ajp(hF:uU l p)(hs:(iq l r).isSome)(x:List Int):x∈GI p (lK l (wt p) [(r,p)] o_)↔x∈KH l p r:=by
 unfold GI akA colS KH;rw[aJ,fG,fG,ay];constructor
 ·rintro (⟨d,hd,hx⟩|⟨s,hs',hx⟩)
  ·obtain⟨k,hk,rfl⟩:=ay.1 hx;obtain⟨zA,hdk⟩:=nP.1 hk;have hp:=((alF hF r zA d).1 ⟨hd,hdk⟩).1;have hW:=Ik hF r zA hp;have hm:d∈((lK l (wt p) [(r,p)] o_).at k).dl:=bG.2 ⟨hd,hdk⟩;refine⟨k,nP.2 ⟨zA,hp⟩,?_⟩;cases he:(jM l (lT p k) (lN p) p.ttl.toNat r).1 with
   | false=>rw[(hW.no he).1]at hm;trivial
   | true=>
     rw[(hW.yes he).1]at hm
     simp only[bn]at hm;rw[zV,U2,if_pos he]
     grind[pkD]
  ·obtain⟨k,hk,rfl⟩:=ay.1 hx;obtain⟨zA,hdk⟩:=nP.1 hk;have hcnt:=(adI hF r zA).1;have hm:s∈(lK l (wt p) [(r,p)] o_).ls.filter fun x=>x.2.getLsbD k:=by simp[*]
   have hp:p.bits.getLsbD k=true:=by grind
   have hW:=Ik hF r zA hp;have hm2:s∈((lK l (wt p) [(r,p)] o_).at k).ls:=hm;refine⟨k,nP.2 ⟨zA,hp⟩,?_⟩;cases he:(jM l (lT p k) (lN p) p.ttl.toNat r).1 with
   | true=>rw[(hW.yes he).2]at hm2;trivial
   | false=>
     obtain⟨B,hB⟩:=(hW.no he).2;rw[hB]at hm2
     simp only[bn]at hm2;subst hm2;rw[zV,U2,if_neg (by simp[*])]
 ·rintro⟨k,hk,rfl⟩;obtain⟨zA,hp⟩:=nP.1 hk;have hW:=Ik hF r zA hp;cases he:(jM l (lT p k) (lN p) p.ttl.toNat r).1 with
  | true=>
    have hm:((jM l (lT p k) (lN p) p.ttl.toNat r).2.1,pkD p k (p.ttl-(jM l (lT p k) (lN p) p.ttl.toNat r).2.2))∈((lK l (wt p) [(r,p)] o_).at k).dl:=by rw[(hW.yes he).1];simp
    obtain⟨h1,h2⟩:=bG.1 hm;refine .inl ⟨_,h1,ay.2 ⟨k,nP.2 ⟨zA,h2⟩,?_⟩⟩;rw[zV,U2,if_pos he]
    grind[pkD]
  | false=>
    obtain⟨B,hB⟩:=(hW.no he).2;have hm:((jM l (lT p k) (lN p) p.ttl.toNat r).2.1,B)∈((lK l (wt p) [(r,p)] o_).at k).ls:=by simp[*]
    obtain⟨h1,h2⟩:=bG.1 hm;refine .inr ⟨_,h1,ay.2 ⟨k,nP.2 ⟨zA,h2⟩,?_⟩⟩;rw[zV,U2,if_neg (by simp[*])]
theorem Rh(hF:uU l p)(k:Nat):k∈(((lK l (wt p) [(r,p)] o_).dl.map (fun d=>d.2.bits)++(lK l (wt p) [(r,p)] o_).ls.map (fun x=>x.2)).flatMap jg)↔k∈jg p.bits:=by
 rw[fG];constructor
 ·rintro⟨B,hB,hk⟩;obtain⟨zA,hb⟩:=nP.1 hk;have h:=Qq (r:=r) hF k zA;refine nP.2 ⟨zA,?_⟩;cases hp:p.bits.getLsbD k with
  | true=>rfl
  | false=>
    rw[hp,if_neg (by simp)]at h
    have h0:=dB.1 h;have:B∈(((lK l (wt p) [(r,p)] o_).dl.map (fun d=>d.2.bits)++(lK l (wt p) [(r,p)] o_).ls.map (fun x=>x.2)).filter fun B=>B.getLsbD k):=by simp_all
    grind
 ·intro hk;obtain⟨zA,hp⟩:=nP.1 hk;have h:=Qq (r:=r) hF k zA;rw[if_pos hp]at h
  obtain⟨B,hB⟩:=List.exists_mem_of_length_pos (l:=(((lK l (wt p) [(r,p)] o_).dl.map (fun d=>d.2.bits)++(lK l (wt p) [(r,p)] o_).ls.map (fun x=>x.2)).filter fun B=>B.getLsbD k)) (by omega);obtain⟨h1,h2⟩:=bG.1 hB
  grind[nP]
theorem acU(p:Pk)(U:uN):(GI p U).map (fun x=>x.getD 2 0)=((U.dl.map (fun d=>d.2.bits)++U.ls.map (fun x=>x.2)).flatMap jg).map (lT p):=by unfold GI akA colS;simp[List.map_flatMap,List.flatMap_map,Function.comp_def]
theorem VI(hF:uU l p)(hA:yF p=true):((GI p (lK l (wt p) [(r,p)] o_)).map fun x=>x.getD 2 0).Nodup:=by
 rw[acU];have hn:=JB _ fun k hk=>by rw[Qq (r:=r) hF k hk];split<;>omega
 unfold List.Nodup at hn⊢;rw[dA];refine hn.imp_of_mem fun {a b} ha hb hab e=>?_
 have h1:=(Rh hF a).1 ha;have h2:=(Rh hF b).1 hb;rcases Nat.lt_or_gt_of_ne hab with h|h
 ·have:=XY hA h1 h2 h;omega
 ·have:=XY hA h2 h1 h;omega
theorem aiW(hF:uU l p)(hA:yF p=true):∀x∈GI p (lK l (wt p) [(r,p)] o_),∀y∈GI p (lK l (wt p) [(r,p)] o_),x.getD 2 0=y.getD 2 0→x=y:=by
 have hn:=VI (r:=r) hF hA;generalize GI p (lK l (wt p) [(r,p)] o_)=L at hn
 induction L with
 | nil=>simp
 | cons z L ih=>grind
theorem aa6(hF:uU l p)(hs:(iq l r).isSome)(hA:yF p=true):(GI p (lK l (wt p) [(r,p)] o_)).mergeSort (fun x y=>!decide (YQ y x<0))=KH l p r:=by
 have hn:=VI (r:=r) hF hA;have hm:=ajp hF hs;generalize GI p (lK l (wt p) [(r,p)] o_)=L at hn hm;have h1:=List.pairwise_mergeSort (le:=fun x y:List Int=>!decide (YQ y x<0)) (fun a b c h1 h2=>by simp[Qm]at *;omega) (fun a b=>by grind[Qm]) L;have hp:=jd L (fun x y:List Int=>!decide (YQ y x<0))
 have h2:((L.mergeSort (fun x y=>!decide (YQ y x<0))).map fun x=>x.getD 2 0).Nodup:=by grind
 unfold List.Nodup at h2;rw[dA]at h2
 refine key_eq ((h1.and h2).imp fun h=>?_) (af0 hA) fun x=>?_
 ·have h3:=h.1;rw[nZ,decide_eq_false_iff_not,Qm]at h3
  omega
 simp[*]
end
end Go.Proofs

namespace Go.Proofs
open Go Go.Tr
theorem aej{l:List Tb}(h:tK l=0):∀b∈l,∀c∈l,b.sd=c.sd∧b.len=c.len:=fun b hb c hc=>by
 have:=wX (l:=_) (by simp) h
 simp_all
theorem UA{l:List Tb}{p:Pk}{r:Int}(h:(oh l p r).2=0):uU l p∧(iq l r).isSome∧oh l p r=(lK l (wt p) [(r,p)] o_,0):=by
 unfold oh at h⊢;split at h
 ·omega
 have hA:tK l=0:=by omega
 have hp:p.ok=true:=by simp_all
 cases hf:iq l r with
 | none=>simp_all
 | some b=>
   simp only[hf]at h⊢;split at h
   ·omega
   rename_i h2;split at h
   ·omega
   have hb:=(nO hf).1;have e1:p.gU=b.sd:=by omega
   have e2:p.len=b.len:=by omega
   refine⟨⟨hp,fun c hc=>?_⟩,rfl,?_⟩
   ·have hl:=aej hA c hc b hb;exact⟨GH hA c hc,by rw[hl.1,e1],by rw[hl.2,e2],hp,h2⟩
   simp[*]
def xk(b:Tb)(id en ttl:Int):Pk:=⟨3,b.sd,sS id b.len,b.len,ttl,en,0,0,wV (rC id b.len),ByteArray.empty⟩
def a0:List Int:=[0,0,0,0]
theorem aec{k:Nat}(hk:k<64):jg (wV k) = [k]:=by
 have h:∀i,i∈jg (wV k)↔i=k:=fun i=>by
  unfold jg;rw[bG,bD];constructor
  ·grind[Q8]
  ·rintro rfl;exact⟨hk,(Q8 hk).2 rfl⟩
 have nd:(jg (wV k)).Nodup:=List.Pairwise.filter _ List.nodup_range;have h2:jg (wV k)≠[]:=fun e=>by simp_all
 match hb:jg (wV k),h,nd,h2 with
 | [],_,_,h2=>trivial
 | [x],h,_,_=>rw[(h x).1 (by simp)]
 | x::y::L,h,nd,_=>
   have e1:=(h x).1 (by simp)
   simp_all
theorem ab2{l:List Tb}{r id en ttl:Int}{b:Tb}(hA:tK l=0)(hf:iq l r=some b)(hv:(dQ b.len&&inB id 1 256)=true)(he:0≤en∧en≤1023)(ht:0≤ttl∧ttl≤63):
  Iu l (xk b id en ttl) r=([U2 (jM l id (en%8) ttl.toNat r) id],0):=by
 have hb:=(nO hf).1;have hvl:dQ b.len=true:=by simp_all
 have hid:1≤id∧id≤256:=by
  have:=(Bool.and_eq_true_iff.1 hv).2
  grind[inB]
 have hset:=Uh (id:=id) hvl;have hbit:=ahZ (id:=id) hvl;have hcs:=zy hvl;obtain⟨k,hk⟩:∃k:Nat,rC id b.len=k:=⟨(rC id b.len).toNat,by omega⟩
 have hsum:sS id b.len*b.len+k+1=id:=by
  rw[←hk];unfold sS rC
  grind
 have hck:=GH hA b hb;have hhd:=(zG hck).1;have hB:jg (xk b id en ttl).bits = [k]:=by grind[jg,xk,bits,wV,rC,aec]
 have hok:(xk b id en ttl).ok=true:=by
  refine(alq _).2 ⟨⟨by simp[xk],by simp[xk]⟩,?_,⟨hset.1,hset.2⟩,?_,ht,he,by simp[xk],by simp[xk],by simp[xk]⟩
  ·have:=hhd.2.1
   trivial
  ·exact afP hvl fun j hj hjb=>by
    have:(wV (rC id b.len)).getLsbD j=true:=hjb;rw[hk]at this
    have h2:=(Q8 hj).1 this
    show(j:Int)<b.len
    omega
 have hat:Au (sS id b.len) k b.len=true:=by
  unfold Au;simp only[hvl,inB,aP,decide_eq_true_eq]
  grind
 have asq:lT (xk b id en ttl) k=id:=by unfold lT;rw[if_pos (show Au (xk b id en ttl).set k (xk b id en ttl).len=true from hat)];trivial
 have hpl:lN (xk b id en ttl)=en%8:=by unfold lN;rw[if_pos hok];rfl
 have hall:yF (xk b id en ttl)=true:=by
  unfold yF;rw[hB];simp only[List.all_cons,List.all_nil,Bool.and_true]
  trivial
 have hrun:(oh l (xk b id en ttl) r).2=0:=by unfold oh;rw[if_neg (by simp[*]),hf];simp[xk]
 unfold Iu;rw[if_neg (by omega),if_neg (by simp[xk]),if_pos hall,KH,hB];simp only[aH,dY,zV,asq,hpl];rfl
end Go.Proofs

set_option linter.unusedSectionVars false
namespace Go.Tr
open Go Go.Proofs Go.Shelf Go.Sort Go.Lib
abbrev KL(zs:List (List Int)):={l:List Int // l∈zs}
def xY(zs:List (List Int))(x:KL zs):List Value:=x.1.map (Value.int .i64)
section
variable {zs:List (List Int)} [Inhabited (KL zs)] {k:Nat}
theorem VL(hz:∀z∈zs,z.length=k)(x:KL zs):(xY zs x).length=k:=by grind[xY]
theorem VP(hz:∀z∈zs,z.length=k)(hk:0<k):∀{ys:List (KL zs)} {t:Nat},t<ys.length*k→(flat (ys.map (·.1)))[t]? = some ((xY zs ys[t/k]!)[t%k]!)
 | [],t,h=>by simp_all
 | z::ys,t,h=>by
   have hz2:=hz z.1 z.2;rw[aH,Eh];by_cases ht:t<k
   ·rw[cZ (by simp[*]),Nat.div_eq_of_lt ht,Nat.mod_eq_of_lt ht];have:t<(z.1.map (Value.int .i64)).length:=by simp[*]
    rw[ah this]
    show _=some ((xY zs z)[t]!)
    rw[getElem!_pos (xY zs z) t (by trivial)];rfl
   ·obtain⟨s,rfl⟩:∃s,t=s+k:=⟨t-k,by omega⟩
    rw[dh (by simp[*])];rw[aN,hz2,qx];have h2:s<ys.length*k:=by grind[List.length_cons,Nat.add_mul]
    rw[VP hz hk h2,Nat.add_div_right _ hk,Nat.add_mod_right];rfl
theorem Ze(hz:∀z∈zs,z.length=k)(hk:0<k)(ys:List (KL zs)):(flatK (xY zs) k ys.toArray).toList=flat (ys.map (·.1)):=by
 apply iV;have hl:(flat (ys.map (·.1))).length=ys.length*k:=by rw[Ls (k:=k) fun z hz'=>by grind];simp
 grind[VP,flatK]
theorem abE(hz:∀z∈zs,z.length=k)(hk:0<k){w:World}{b:Nat}{ys:List (KL zs)}{cur:Array Value}{e:TypeId}(h1:w.heap[b]? = some (.cells cur e (0,0)))(h2:cur.toList.take (ys.length*k)=flat (ys.map (·.1))):HoldsK (xY zs) k w b 0 ys.toArray:=fun j hj=>by
 have h3:cur[j]? = some ((flatK (xY zs) k ys.toArray)[j]!):=by
  have h4:(cur.toList.take (ys.length*k))[j]? = some ((flatK (xY zs) k ys.toArray)[j]!):=by grind[flatK,xY,Ze,Array.getElem?_eq_getElem]
  grind
 grind[World.cell?,World.frozen?]
theorem ah_(hz:∀z∈zs,z.length=k)(hk:0<k){w:World}{b:Nat}{ys:List (KL zs)}{cur:Array Value}{e:TypeId}(n:Nat)(os:Array Obj)(h1:w.heap[b]? = some (.cells cur e (0,0)))(hc:ys.length*k≤cur.size):
  w.grownBy (sortWorldK (xY zs) k w b 0 n ys.toArray os) (some b)∧
   ∃cur',(sortWorldK (xY zs) k w b 0 n ys.toArray os).heap[b]? = some (.cells cur' e (0,0))∧cur'.size=cur.size∧cur'.toList.take (ys.length*k)=flat (ys.map (·.1)):=by
 have hsz:(putRowK (xY zs) k (Sort.ahead w n) b 0 ys.toArray).heap.size=w.heap.size:=by simp[putRowK]
 unfold sortWorldK;refine⟨⟨rfl,rfl,rfl,by simp[*],fun j hj hne=>?_⟩,putCells id 0 (flatK (xY zs) k ys.toArray) cur,?_,by simp[putCells],?_⟩
 ·grind[heap_grow_old,putRowK,putRow,mapBlock,Sort.ahead]
 ·grind[heap_grow_old,putRowK,putRow,mapBlock,Sort.ahead,onCells]
 ·rw[←Ze hz hk ys];apply iV;intro i;rw[eG];by_cases hi:i<ys.length*k
  ·rw[if_pos hi]
   grind[flatK,putCells]
  simp[*]
end
theorem anz{zs:List (List Int)}:∀(xs:List (List Int)),(∀z∈xs,z∈zs)→∃ys:List (KL zs),ys.map (·.1)=xs
 | [],_=>⟨[],rfl⟩
 | z::xs,h=>by
   obtain⟨ys,hy⟩:=anz xs fun y hy=>h y (by simp[*])
   exact⟨⟨z,h z (by simp)⟩::ys,by simp[*]⟩
structure NM(cf:List Int→List Int→Int)(zs:List (List Int)):Prop where
 irr:∀x∈zs,¬cf x x<0
 tr:∀x∈zs,∀y∈zs,∀z∈zs,cf x y<0→cf y z<0→cf x z<0
 ntr:∀x∈zs,∀y∈zs,∀z∈zs,¬cf x y<0→¬cf y z<0→¬cf x z<0
 one:∀x∈zs,∀y∈zs,¬cf x y<0→¬cf y x<0→x=y
theorem O7.of{P:Program}{ρ:Ren}(L:SlLaysF0.n6 P ρ){k:Nat}(hk:0<k)(aE:∀w,(isAgg (ρ.t 24)).run P w = .ok true w)(zE:∀w,(Go.sizeOf (ρ.t 24)).run P w = .ok k w)(cf:List Int→List Int→Int)(g:Nat)
  (eg:∀args w,(callFunc g args).run P w = .ok (.enter g args) w)
  (hcmp:∀(x y:List Int) (W:World),x.length=k→y.length=k→Calls P g #[.agg (x.map (Value.int .i64)).toArray,.agg (y.map (Value.int .i64)).toArray] W fun e w'=>e = .returned (.int .i64 (cf x y))∧∃q os',w'=grow (W.drewN q) os') :
  O7 P (ρ.f 6) g k (NM cf) (fun zs=>zs.mergeSort fun x y=>!decide (cf y x<0)):=by
 refine⟨fun zs=>gZ _,fun zs h z hz=>h z (List.mem_mergeSort.1 hz),fun w b cap zs cur e h1 h2 h3 h4 h5 h6 hp h7 h8=>?_,fun p cap w=>AnyF.slices_SortFunc_none L p cap _ w⟩;obtain⟨ys,hys⟩:=anz (zs:=zs) zs fun _ h=>h
 have hl:ys.length=zs.length:=by grind
 have inh:Inhabited (KL zs):=⟨⟨zs[0],aB h7⟩⟩
 have hO:SWO (ltOf fun x y:KL zs=>cf x.1 y.1):=
  ⟨fun x=>by have:=hp.irr x.1 x.2;grind[ltOf],fun x y z h1 h2=>by
   have:=hp.tr x.1 x.2 y.1 y.2 z.1 z.2;simp only[ltOf,decide_eq_true_eq]at h1 h2⊢;omega,fun x y z h1 h2=>by
   have:=hp.ntr x.1 x.2 y.1 y.2 z.1 z.2
   grind[ltOf]⟩
 have hT:∀x y:KL zs,(ltOf fun x y:KL zs=>cf x.1 y.1) x y=false→(ltOf fun x y:KL zs=>cf x.1 y.1) y x=false→x=y:=fun x y h1 h2=>by simp only[ltOf,decide_eq_false_iff_not]at h1 h2;exact Subtype.ext (hp.one x.1 x.2 y.1 y.2 h1 h2)
 rw[←hl]at h2 h5 h7 h8⊢
 have h5':cur.toList.take (ys.length*k)=flat (ys.map (·.1)):=by simp_all
 have hcl:CmpLays P g #[] (xY zs) k (fun x y=>cf x.1 y.1) b 0 ys.toArray.size w:=by grind[CmpLays,xY,sortWorldK]
 have hs:=AnyQ.slices_SortFunc_total L k aE zE (xY zs) (VL h6) (fun x v hv=>by simp only[xY,ay]at hv;obtain⟨n,_,rfl⟩:=hv;rfl) (fun x y=>cf x.1 y.1) hO g #[] b 0 cap ys.toArray w eg hcl (abE h6 hk h1 h5') (bZ.1 h1).1 (by omega) hT;refine hs.mono fun e' w' ⟨he,n,os,hw⟩=>?_
 have hm:((ys.toArray.toList.mergeSort fun x y=>!(ltOf fun x y:KL zs=>cf x.1 y.1) y x).map (·.1))=zs.mergeSort fun x y=>!decide (cf y x<0):=by
  have:=List.map_mergeSort (f:=fun x:KL zs=>x.1) (l:=ys) (r:=fun x y=>!(ltOf fun x y:KL zs=>cf x.1 y.1) y x) (s:=fun x y=>!decide (cf y x<0)) fun a _ b _=>rfl
  simp[*]
 have hml:(ys.toArray.toList.mergeSort fun x y=>!(ltOf fun x y:KL zs=>cf x.1 y.1) y x).length=ys.length:=gZ _;obtain⟨k1,cur',k2,k3,k4⟩:=ah_ h6 hk (ys:=ys.toArray.toList.mergeSort fun x y=>!(ltOf fun x y:KL zs=>cf x.1 y.1) y x) n os h1 (by rw[hml,h4];exact f_ k h2)
 simp_all
end Go.Tr

namespace Go.Tr
open Go
def ANo{ι:Type}(k:List Pl→List (Pl×It)→Prop)(_:Tg k)(X:ι→Prop):Option (Prop×(ι→List (Pl×It)))→Prop
 | some (C,W)=>C∧∀c,X c→k [] (W c)
 | none=>False
theorem Kz{ι:Type}{k:List Pl→List (Pl×It)→Prop}{g:Tg k}{X:ι→Prop}{C:Prop}{W:ι→List (Pl×It)}:ANo k g X (some (C,W))=(C∧∀c,X c→k [] (W c)):=rfl
section
variable {P:Program} {A:jL} {ops:Array Oper}
def O0(P:Program)(N:Nat)(t:S)(ops:Array Oper):Option Oper→Option (Prop×(oO→List (Pl×It)))
 | some o=>match gv ops t o with
   | some (_,g)=>match o.op with
     | .range ty x=>match ev t x with
       | .mref id=>match t (.o id)with
         | .jA es c pd _=>some (g=true∧qj N o=true∧Jo P ty=true∧t (.o (o.dst.getD 0)) = .none,fun s=>wF o (.ptr (.o (o.dst.getD 0)) 0) [(.o (o.dst.getD 0),.Fb id s (es.map (·.1)) none),(.o id,.jA es c pd (some s))])
         | _=>none
       | .d (.mp ks vs)=>some (g=true∧qj N o=true∧Jo P ty=true∧t (.o (o.dst.getD 0)) = .none∧t (.o (o.dst.getD 0+4000000)) = .none,
         fun s=>wF o (.ptr (.o (o.dst.getD 0)) 0) [(.o (o.dst.getD 0),.Fb (o.dst.getD 0+4000000) s ((wP ks vs).map (·.1)) none),(.o (o.dst.getD 0+4000000),.Mc (wP ks vs) s)])
       | _=>none
     | _=>none
   | none=>none
 | none=>none
theorem Fe.range{i:Nat}{t:S}{k:List Pl→List (Pl×It)→Prop}{g:Tg k}(h:ANo k g (fun _=>True) (O0 P A.N t ops ops[i]?)):Fe P A ops i t k g:=by
 unfold ANo at h;split at h
 ·rename_i C W hc;obtain⟨h1,h2⟩:=h;refine⟨oO,fun _=>[],W,?_,fun s=>h2 s trivial⟩;unfold O0 at hc;split at hc
  ·rename_i o ho;split at hc
   ·rename_i gp g0 hg;split at hc
    ·rename_i ty x hop;split at hc
     ·rename_i id hx;split at hc
      ·rename_i es c pd s0 ht;simp only[aj,aK]at hc;obtain⟨rfl,rfl⟩:=hc;obtain⟨rfl,q1,q2,q3⟩:=h1;intro a w hinv K Q hK;obtain⟨E,hw,hi⟩:=hinv;subst hw;have hwant:=oQ hg (fun _ _=>rfl) hi;obtain⟨kt,e,hu⟩:∃kt e,P.underlying ty=some (.map kt e):=by
        grind[Jo]
       obtain⟨s,u,E',r1,r2,r3⟩:=ah3 hop hu hx ht q3 t (fun _ _=>rfl) a E hi;unfold wpOp;simp only[ho,hwant,if_true];refine .inl ?_;unfold Oper.wp;rw[r1];exact hK s _ _ ⟨E',rfl,r2.dst q1 r3⟩
      trivial
     ·rename_i ks vs hx;simp only[aj,aK]at hc;obtain⟨rfl,rfl⟩:=hc;obtain⟨rfl,q1,q2,q3,q4⟩:=h1;intro a w hinv K Q hK;obtain⟨E,hw,hi⟩:=hinv;subst hw;have hwant:=oQ hg (fun _ _=>rfl) hi;obtain⟨kt,e,hu⟩:∃kt e,P.underlying ty=some (.map kt e):=by
       unfold Jo at q2;split at q2
       ·rename_i kt e hu;exact⟨kt,e,hu⟩
       ·simp at q2
      obtain⟨s,u,E',r1,r2,r3⟩:=aft hop hu hx q3 q4 (by omega) t (fun _ _=>rfl) a E hi;unfold wpOp;simp only[ho,hwant,if_true];refine .inl ?_;unfold Oper.wp;rw[r1];exact hK s _ _ ⟨E',rfl,r2.dst q1 r3⟩
     trivial
    trivial
   trivial
  trivial
 trivial
def Wq(N:Nat)(t:S)(ops:Array Oper):Option Oper→Option (List (List Int)×(Prop×(Option (List Int)→List (Pl×It))))
 | some o=>match gv ops t o with
   | some (_,g)=>match o.op with
     | .next x false=>match ev t x with
       | .ptr (.o d) off=>match t (.o d)with
         | .Fb id s left _=>match t (.o id)with
           | .jA _ _ _ (some s')=>some (left,(g=true∧qj N o=true∧off=0∧s'=s,fun k=>wF o (jo k) (Z8 d id s left k)))
           | .Mc _ s'=>some (left,(g=true∧qj N o=true∧off=0∧s'=s,fun k=>wF o (jo k) (Z8 d id s left k)))
           | _=>none
         | _=>none
       | _=>none
     | _=>none
   | none=>none
 | none=>none
def ANn(k:List Pl→List (Pl×It)→Prop)(_:Tg k):Option (List (List Int)×(Prop×(Option (List Int)→List (Pl×It))))→Prop
 | some (left,(C,W))=>C∧(left = []→k [] (W none))∧∀x,x∈left→k [] (W (some x))
 | none=>False
theorem afV{k:List Pl→List (Pl×It)→Prop}{g:Tg k}{left:List (List Int)}{C:Prop}{W:Option (List Int)→List (Pl×It)}:ANn k g (some (left,(C,W)))=(C∧(left = []→k [] (W none))∧∀x,x∈left→k [] (W (some x))):=rfl
theorem U1.next{i d id off:Nat}{t:S}{o:Oper}{gp:List Pl}{x:Operand}{es:List (List Int×TV)}{s:oO}{left:List (List Int)}{cur:Option (List Int)}(ho:ops[i]? = some o)(hg:gv ops t o=some (gp,true))(hop:o.op = .next x false)(hx:ev t x = .ptr (.o d) off)(hd:t (.o d) = .Fb id s left cur)
  (hm:TJ es s (t (.o id))) (q1:qj A.N o=true) (q2:off=0):U1 P A ops i t (ι:={k // Yb left k}) fun k=>wF o (jo k.1) (Z8 d id s left k.1):=fun a w hinv K Q hK=>by
 subst q2;obtain⟨E,hw,hi⟩:=hinv;subst hw;have hwant:=oQ hg (fun _ _=>rfl) hi;obtain⟨k,u,E',hk,r1,r2,r3⟩:=ajz (P:=P) hop hx hd hm t (fun _ _=>rfl) a E hi;unfold wpOp;simp only[ho,hwant,if_true];refine .inl ?_;unfold Oper.wp;rw[r1];exact hK ⟨k,hk⟩ _ _ ⟨E',rfl,r2.dst q1 r3⟩
theorem Fe.next{i:Nat}{t:S}{k:List Pl→List (Pl×It)→Prop}{g:Tg k}(h:ANn k g (Wq A.N t ops ops[i]?)):Fe P A ops i t k g:=by
 unfold ANn at h;split at h
 ·rename_i left C W hc;obtain⟨h1,h2,h3⟩:=h;refine⟨{k // Yb left k},fun _=>[],fun k=>W k.1,?_,fun⟨k,hk⟩=>?_⟩
  ·unfold Wq at hc;split at hc
   ·rename_i o ho;split at hc
    ·rename_i gp g0 hg;split at hc
     ·rename_i x hop;split at hc
      ·rename_i d off hx;split at hc
       ·rename_i id s left' cur hd;split at hc
        ·rename_i es c pd s' hm;simp only[aj,aK]at hc;obtain⟨rfl,rfl,rfl⟩:=hc;obtain⟨rfl,q1,q2,rfl⟩:=h1;exact U1.next ho hg hop hx hd (es:=es) (by rw[hm];trivial) q1 q2
        ·rename_i es s' hm;simp only[aj,aK]at hc;obtain⟨rfl,rfl,rfl⟩:=hc;obtain⟨rfl,q1,q2,rfl⟩:=h1;exact U1.next ho hg hop hx hd (es:=es) (by rw[hm];trivial) q1 q2
        trivial
       trivial
      trivial
     trivial
    trivial
   trivial
  ·cases k with
   | none=>exact h2 hk
   | some x=>exact h3 x hk
 trivial
attribute [simp] Kz afV O0 Wq jo Z8
end
mutual
def TV.yI(id:Nat)(v:D):TV→TV
 | .agg vs=>.agg (TV.FH id v vs)
 | .sZ vs=>.sZ (TV.FH id v vs)
 | .clo f vs=>.clo f (TV.FH id v vs)
 | .bK i n=>if i=id then .junk else .bK i n
 | .tV i n j q=>if i=id then .junk else .tV i n j q
 | .mref i=>if i=id then .d v else .mref i
 | .Qg i n j=>if i=id then .junk else .Qg i n j
 | .ptr p q=>if p = .o id then .junk else .ptr p q
 | t=>t
def TV.FH(id:Nat)(v:D):List TV→List TV
 | []=>[]
 | t::ts=>t.yI id v::TV.FH id v ts
end
def Ot(id:Nat)(v:D):It→It
 | .v t=>.v (t.yI id v)
 | .box cs=>.box (TV.FH id v cs)
 | .row e k es sh=>.row e k (es.map (TV.FH id v)) sh
 | .yj e k es=>.yj e k (es.map (TV.FH id v))
 | .jA es c pd s=>.jA (es.map fun x=>(x.1,x.2.yI id v)) c pd s
 | .Mc es s=>.Mc (es.map fun x=>(x.1,x.2.yI id v)) s
 | i=>i
def En.yI(E:En)(id b:Nat):En:=
 {E with St:=fun b' o=>E.St b' o∨(b'=b∧o=0),blk:=fun p=>if p = .o id then none else E.blk p,val:=fun k=>if k=id then none else E.val k}
theorem VW(E:En)(id b:Nat):P6 E (E.yI id b):=⟨fun _ _ h=>.inl h,fun _ _ _=>rfl⟩
section
variable {E:En} {id b:Nat} {v:D}
mutual
theorem Qy(hb:E.blk (.o id)=some b)(hv:Rep (E.yI id b) v (.map (some b))):∀{t:TV} {u:Value},aV E t u→aV (E.yI id b) (t.yI id v) u
 | .junk,u,_=>by trivial
 | .d x,u,h=>by grind[TV.yI,aV,Rep.ext,VW]
 | .c w,u,h=>by trivial
 | .agg vs,u,h=>by obtain⟨us,hu,h⟩:=h;exact⟨us,hu,LC hb hv h⟩
 | .sZ vs,u,h=>by obtain⟨us,hu,h⟩:=h;exact⟨us,hu,LC hb hv h⟩
 | .bK i n,u,h=>by
   simp only[TV.yI];split
   ·trivial
   ·rename_i e;obtain⟨h1,k,c,w,h2,h3⟩:=h;exact⟨h1,k,c,w,by simp only[En.yI,if_neg e];omega,h3⟩
 | .ptr p q,u,h=>by
   simp only[TV.yI];split
   ·trivial
   ·rename_i e;obtain⟨b',h1,h2⟩:=h;exact⟨b',by simp only[En.yI,if_neg e];omega,h2⟩
 | .ep e q,u,h=>by grind[TV.yI,aV,gq.ext,VW]
 | .tV i n j q,u,h=>by
   simp only[TV.yI];split
   ·trivial
   ·rename_i e;obtain⟨h1,k,c,w,h2,h3⟩:=h;exact⟨h1,k,c,w,by simp only[En.yI,if_neg e];omega,h3⟩
 | .Qg i n j,u,h=>by
   simp only[TV.yI];split
   ·trivial
   ·rename_i e;simp only[aV]at h⊢;obtain⟨h1,k,c,w,h2,h3⟩:=h;exact⟨h1,k,c,w,by simp only[En.yI,if_neg e];omega,h3⟩
 | .mref i,u,h=>by
   simp only[TV.yI];simp only[aV]at h;obtain⟨b',h1,h2⟩:=h;split
   ·grind[aV]
   ·rename_i e;simp only[aV];exact⟨b',by simp only[En.yI];simp[*],h2⟩
 | .sx xs,u,h=>by grind[TV.yI,aV,Rep.ext,VW]
 | .clo f vs,u,h=>by simp only[TV.yI,aV]at h⊢;obtain⟨us,hu,h⟩:=h;exact⟨us,hu,LC hb hv h⟩
theorem LC(hb:E.blk (.o id)=some b)(hv:Rep (E.yI id b) v (.map (some b))):∀{ts:List TV} {us:List Value},b_ E ts us→b_ (E.yI id b) (TV.FH id v ts) us
 | [],us,h=>by trivial
 | t::ts,us,h=>by simp only[TV.FH,b_]at h⊢;obtain⟨u,us',hu,h1,h2⟩:=h;exact⟨u,us',hu,Qy hb hv h1,LC hb hv h2⟩
end
theorem GY:∀ts:List TV,(TV.FH id v ts).length=ts.length
 | []=>by rfl
 | t::ts=>by simp only[TV.FH,aT,GY ts]
theorem SA(hb:E.blk (.o id)=some b)(hv:Rep (E.yI id b) v (.map (some b))){us:List Value}:∀{o:Nat} {cs:List TV},eP E us o cs→eP (E.yI id b) us o (TV.FH id v cs)
 | _,[],_=>by trivial
 | _,_::_,⟨⟨u,h1,h2,h3⟩,r⟩=>by exact⟨⟨u,h1,h2,Qy hb hv h3⟩,SA hb hv r⟩
theorem abv(hb:E.blk (.o id)=some b)(hv:Rep (E.yI id b) v (.map (some b))){us:List Value}{k:Nat}:∀{o:Nat} {es:List (List TV)},iJ E us k o es→iJ (E.yI id b) us k o (es.map (TV.FH id v))
 | _,[],_=>trivial
 | _,_::_,⟨h1,h2,r⟩=>⟨(GY _).trans h1,SA hb hv h2,abv hb hv r⟩
theorem akO(hb:E.blk (.o id)=some b)(hv:Rep (E.yI id b) v (.map (some b))):∀{es:List (List Int×TV)} {l:List MapEntry},nH E es l→nH (E.yI id b) (es.map fun x=>(x.1,x.2.yI id v)) l
 | [],_,h=>h
 | _::_,_,⟨e,l',rfl,h1,h2,h3⟩=>⟨e,l',rfl,h1,Qy hb hv h2,akO hb hv h3⟩
theorem agN(hb:E.blk (.o id)=some b)(hv:Rep (E.yI id b) v (.map (some b))){p:Pl}(hp:p≠.o id){i:It}(h:zD E p i):zD (E.yI id b) p (Ot id v i):=by
 have hblk:(E.yI id b).blk p=E.blk p:=by simp only[En.yI,if_neg hp]
 have hval:∀k,p = .o k→(E.yI id b).val k=E.val k:=fun k e=>by
  have:k≠id:=by simp_all
  simp only[En.yI,if_neg this]
 cases i with
 | none=>exact fun k e=>by rw[hblk,hval k e];exact h k e
 | v t=>exact(En.qB hblk hval).trans h
 | box cs=>obtain⟨h0,b',ty,us,g1,g2,g3,g4⟩:=h;exact⟨fun k e=>by simp[*],b',ty,us,hblk.trans g1,g2,by grind[GY],SA hb hv g4⟩
 | row e k es sh=>obtain⟨h0,i,w,us,rfl,g2,g3,g4⟩:=h;exact⟨hblk.trans h0,i,w,us,rfl,by simp[*],by rw[aN];trivial,abv hb hv g4⟩
 | yj e k es=>obtain⟨h0,i,w,us,rfl,g2,g3,g4⟩:=h;exact⟨hblk.trans h0,i,w,us,rfl,by simp[*],by rw[aN];trivial,abv hb hv g4⟩
 | mp es=>obtain⟨h0,b',l,clock,g1,g2,g3,g4⟩:=h;exact⟨fun k e=>by simp[*],b',l,clock,hblk.trans g1,g2,g3.ext (VW E id b),g4⟩
 | jA es c pd s=>obtain⟨i,b',l,clock,l',ty,w,rfl,g1,g2,g3,g4,g5,g6,g7,g8⟩:=h;exact⟨i,b',l,clock,l',ty,w,rfl,hblk.trans g1,g2,g3,akO hb hv g4,g5,(hval i rfl).trans g6,g7,g8⟩
 | Fb m s left cur=>obtain⟨h0,r,seen,g1,g2,g3⟩:=h;exact⟨fun k e=>by simp[*],r,seen,hblk.trans g1,g2,g3⟩
 | Mc es s=>obtain⟨h0,g1,g2,g3,l',g4,g5⟩:=h;exact⟨(En.qB hblk hval).trans h0,.inl g1,g2,g3,l',g4,akO hb hv g5⟩
end
def Zj(id:Nat)(v:D)(t:S):S:=fun p=>if p = .o id then .none else Ot id v (t p)
def Qa(es:List (List Int×D)):D:=.mp (es.map (·.1)) (es.map (·.2))
theorem GS.yI{A:jL}{t:S}{id c:Nat}{es:List (List Int×D)}{pd:Option (List Int)}{s:Option oO}(ht:t (.o id) = .jA (es.map fun x=>(x.1,.d x.2)) c pd s):GS A t (Zj id (Qa es) t):=fun a w ⟨E,hw,hi⟩=>by
 obtain⟨b,l,clock,l',ty,w0,hb,hg,hp,hrel,hs,hval,_⟩:=EG hi ht;have oK:E.own (.o id)=some b:=by grind[En.own]
 have hrep:Rep (E.yI id b) (Qa es) (.map (some b)):=by have h1:=Tq hrel;exact⟨b,l,clock,l',rfl,.inr ⟨rfl,rfl⟩,hg,hp,hs,h1.1,AB.ext (VW E id b) _ _ h1.2⟩
 have hown:∀{p q},(E.yI id b).own p=some q→E.own p=some q∧p≠.o id:=fun {p q} h=>by
  by_cases e:p = .o id
  ·subst e;simp[En.own,En.yI]at h
  ·rw[En.qB (E:=E) (by simp only[En.yI,if_neg e]) (fun k e2=>by
    have:k≠id:=by simp_all
    simp only[En.yI,if_neg this])]at h
   trivial
 refine⟨E.yI id b,hw,⟨⟨fun p hp=>?_,fun k=>?_,fun p q r h1 h2=>hi.h.inj p q r (hown h1).1 (hown h2).1,fun p r h=>hi.h.size p r (hown h).1,fun r o h=>?_,fun r o h1 p h2=>?_,fun y hy=>gq.ext (VW E id b) _ _ _ (hi.h.gl y hy)⟩,?_,fun k tv hk=>?_,hi.defers,hi.size⟩⟩
 ·unfold Zj;by_cases e:p = .o id
  ·subst e;simp only[if_true];exact fun k e=>by grind[En.yI]
  ·rw[if_neg e];exact agN hb hrep e (hi.h.item p hp)
 ·simp only[En.yI];rw[if_neg (by simp)];exact hi.h.frees k
 ·rcases h with h|⟨rfl,_⟩
  ·exact hi.h.uP r o h
  ·exact(bZ.1 hg).1
 ·obtain⟨g1,g2⟩:=hown h2;rcases h1 with h1|⟨rfl,_⟩
  ·obtain⟨e,k,es',g3,g4⟩:=hi.h.sep r o h1 p g1;refine⟨e,k,es'.map (TV.FH id (Qa es)),?_,by simp[*]⟩;simp only[Zj,if_neg g2,g3];rfl
  ·exact absurd (hi.h.inj _ _ _ g1 oK) g2
 ·refine⟨hi.fr.os,hi.fr.tape,hi.fr.output,hi.fr.size,hi.fr.old,fun i=>?_,fun i r h=>hi.fr.new i r (hown h).1,fun r o h=>.inl (hi.fr.st r o h),fun r o h=>?_⟩
  ·simp only[En.yI];rw[if_neg (by simp)];exact hi.fr.xb i
  ·rcases h with h|⟨rfl,_⟩
   ·exact hi.fr.AU r o h
   ·exact .inr (hi.fr.new id r oK)
 ·unfold Zj at hk;rw[if_neg (by simp)]at hk
  cases hsk:t (.s k)with
  | v tv'=>
    rw[hsk]at hk
    simp only[Ot,It.v.injEq]at hk;subst hk;obtain⟨u,h1,h2⟩:=hi.sl k tv' hsk
    grind[Qy]
  | none=>grind[Ot]
  | box _=>grind[Ot]
  | row _ _ _ _=>grind[Ot]
  | yj _ _ _=>grind[Ot]
  | mp _=>grind[Ot]
  | jA _ _ _ _=>grind[Ot]
  | Fb _ _ _ _=>grind[Ot]
  | Mc _ _=>grind[Ot]
def Vk(id:Nat)(v:D):List (Pl×It)→List (Pl×It)
 | []=>[]
 | (p,i)::l=>if p = .o id then Vk id v l else(p,Ot id v i)::Vk id v l
theorem abu(id:Nat)(v:D):∀l:List (Pl×It),look (Vk id v l) (.o id) = .none
 | []=>rfl
 | (p,i)::l=>by
   by_cases e:p = .o id
   ·simp only[Vk,if_pos e];exact abu id v l
   ·simp only[Vk,if_neg e,look];rw[if_neg (fun h:Pl.o id=p=>e h.symm)];exact abu id v l
theorem VU(id:Nat)(v:D):∀(l:List (Pl×It)),Zj id v (look l)=look (Vk id v l)
 | []=>by funext p;unfold Zj;split<;>rfl
 | (q,i)::l=>by
   have ih:=fun p=>congrFun (VU id v l) p
   funext p
   by_cases hp:p = .o id
   ·grind[abu,Zj]
   ·have h1:=ih p;simp only[Zj,if_neg hp]at h1⊢;by_cases hq:q = .o id
    ·simp only[Vk,if_pos hq,look];simp[*]
    ·simp only[Vk,if_neg hq,look]
     grind
theorem Fin.yI{P:Program}{A:jL}{fn:Func}{r:TV}{xs:List It}{ro:List (Nat×It)}{l:List (Pl×It)}(id:Nat)(es:List (List Int×D)){c:Nat}{pd:Option (List Int)}{s:Option oO}(ht:look l (.o id) = .jA (es.map fun x=>(x.1,.d x.2)) c pd s)
  (h:Fin P A fn r xs ro (look (Vk id (Qa es) l))):Fin P A fn r xs ro (look l):=by
 have:=GS.yI (A:=A) ht;rw[VU]at this
 exact h.ghost this
attribute [simp] Vk Ot TV.yI TV.FH
end Go.Tr
