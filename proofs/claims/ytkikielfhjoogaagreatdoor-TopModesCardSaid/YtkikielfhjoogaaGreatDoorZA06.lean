/-
  What functions of the program compute, stated as contracts over plain data; the conditions of each stand in its own statement.
-/
import Derived.Test.YtkikielfhjoogaaGreatDoorZA05
set_option linter.unusedVariables false
set_option linter.unusedSimpArgs false
namespace Go.Tr
open Go
def kV(ks:List (List Int))(vs:List D):List (List Int×TV):=(ks.zip vs).map fun x=>(x.1,.d x.2)
theorem Qd{E:En}:∀{ks:List (List Int)} {vs:List D} {l:List MapEntry},l.map (·.key)=ks.map gW→Bj E vs l→jW E (kV ks vs) l
 | [],vs,l,h1,h2=>by
   obtain rfl:l = []:=by simp_all
   rfl
 | k::ks,vs,l,h1,h2=>by
   obtain⟨a,l',rfl⟩:∃a l',l=a::l':=by cases l with
    | nil=>trivial
    | cons a l'=>simp
   simp only[aC,dR]at h1;cases vs with
   | nil=>trivial
   | cons d vs=>obtain⟨a',l'',h3,h4,h5⟩:=h2;obtain⟨rfl,rfl⟩:=h3;exact⟨a,l',rfl,h1.1,by trivial,Qd h1.2 h5⟩
theorem OW{E:En}:∀{es:List (List Int×D)} {l:List MapEntry},jW E (es.map fun x=>(x.1,.d x.2)) l→l.map (·.key)=(es.map (·.1)).map gW∧Bj E (es.map (·.2)) l
 | [],l,h=>by subst h;trivial
 | (k,d)::es,l,h=>by obtain⟨a,l',rfl,h1,h2,h3⟩:=h;obtain⟨h4,h5⟩:=OW h3;refine⟨by simp[*],?_⟩;exact⟨a,l',rfl,by trivial,h5⟩
section
variable {P:Program} {A:f_}
theorem VD{E:En}{ks:List (List Int)}{vs:List D}{u:Value}(h:Rep E (.mp ks vs) u):
  ∃(s:jB) (l':List MapEntry),u = .map (some s.m)∧E.St s.m 0∧E.w.heap[s.m]? = some (.map s.l s.clock)∧MapKept.Stamped s.l s.clock∧l'.Perm s.l.toList∧jW E (kV ks vs) l'∧l'.length=ks.length:=by
 obtain⟨b,l,clock,l',rfl,h1,h2,h3,h4,h5,h6⟩:=h;exact⟨⟨b,l,clock⟩,l',rfl,h1,h2,h4,h3,Qd h5 h6,by have:=congrArg List.length h5;grind⟩
theorem Xh{o:Oper}{t:S}{ty e:TypeId}{x ix:Operand}{ck:Bool}{ks:List (List Int)}{vs:List D}{k:List Int}{z:Value}(ho:o.op = .lookup ty x ix ck)(hm:QH P ty k.length=some e)(hz:qm P e=some z)
  (hx:ev t x = .d (.mp ks vs)) (hix:toKey (ev t ix)=some k):gB P A o t ⟨rQ k.length (kV ks vs),pl x++pl ix,[],MQ ck (kJ (kV ks vs) k) (kK z)⟩:=
 .pure fun hC t' hr a E hi=>by
  have hx':ev t' x = .d (.mp ks vs):=(dK (bf hr)).trans hx;have hix':toKey (ev t' ix)=some k:=by rw[dK (aQ hr)];omega
  obtain⟨kt,hu,hkt⟩:=zV hm;have h1:=bP hi x;rw[hx']at h1
  obtain⟨⟨b,l,clock⟩,l',hu1,_,hg,hs,hp,hrel,_⟩:=VD h1;have hu2:=KA hix' (bP hi ix);have hzero:=Jf hz E.w;have hck:=qR hkt l.isEmpty E.w;have hall:∀e∈l.toList,∃k':List Int,k'.length=k.length∧e.key=gW k':=fun e he=>by obtain⟨k',v',g1,g2,_⟩:=Ie hrel e (hp.mem_iff.2 he);exact⟨k',hC _ g1,g2⟩
  rcases Kw hkt rfl E.w l.toList hall with⟨g1,g2⟩|⟨j,a',g1,g2,g3⟩
  ·rcases wM (k:=k) hrel with⟨q1,_⟩|⟨v0,e,q1,q2,q3,_⟩
   ·refine⟨match ck with|true=>.tuple #[z,.bool false]|false=>z,?_,?_⟩
    ·cases ck<;>simp[execOp,ho,hu1,hu2,Instr.lookup,Sem.run_bind,run_underlying hu,MapKept.run_getObj_map hg,hck,g1,hzero]
    ·rw[q1];cases ck with
     | true=>simp only[MQ,aP];exact⟨#[z,.bool false],rfl,by simp only[bD];exact⟨_,_,rfl,oI E z,_,_,rfl,by rfl,rfl⟩⟩
     | false=>simp[MQ,oI]
   grind
  ·have hel:a'∈l.toList:=by grind
   rcases wM (k:=k) hrel with⟨q1,q2⟩|⟨v0,e2,q1,q2,q3,q4⟩
   ·grind
   ·have:e2=a':=by grind[qp,MapKept.stamped_iff]
    subst this;refine⟨match ck with|true=>.tuple #[e2.val,.bool true]|false=>e2.val,?_,?_⟩
    ·cases ck<;>simp[execOp,ho,hu1,hu2,Instr.lookup,Sem.run_bind,run_underlying hu,MapKept.run_getObj_map hg,hck,g1]
    ·rw[q1];cases ck with
     | true=>simp only[MQ,aP];exact⟨#[e2.val,.bool true],rfl,by simp only[bD];exact⟨_,_,rfl,q4,_,_,rfl,by rfl,rfl⟩⟩
     | false=>trivial
def CY(ks:List (List Int))(vs:List (List D)):List (List Int×TV):=(ks.zip vs).map fun x=>(x.1,.agg (x.2.map .d))
theorem Kt{E:En}:∀{ds:List D} {us:List Value},Bh E ds us↔bD E (ds.map .d) us
 | [],us=>by simp[Bh,bD]
 | d::ds,us=>by simp[Bh,bD,aP,Kt (ds:=ds)]
theorem Qe{E:En}:∀{ks:List (List Int)} {vs:List (List D)} {l:List MapEntry},l.map (·.key)=ks.map gW→zB E vs l→jW E (CY ks vs) l
 | [],vs,l,h1,h2=>by
   obtain rfl:l = []:=by simp_all
   rfl
 | k::ks,vs,l,h1,h2=>by
   obtain⟨a,l',rfl⟩:∃a l',l=a::l':=by cases l with
    | nil=>trivial
    | cons a l'=>simp
   simp only[aC,dR]at h1;cases vs with
   | nil=>simp[zB]at h2
   | cons d vs=>obtain⟨a',l'',h3,⟨us,h4,h6⟩,h5⟩:=h2;obtain⟨rfl,rfl⟩:=List.cons.inj h3;exact⟨a,l',rfl,h1.1,by simp only[aP];exact⟨us,h4,Kt.1 h6⟩,Qe h1.2 h5⟩
theorem OX{E:En}:∀{es:List (List Int×List D)} {l:List MapEntry},jW E (es.map fun x=>(x.1,.agg (x.2.map .d))) l→l.map (·.key)=(es.map (·.1)).map gW∧zB E (es.map (·.2)) l
 | [],l,h=>by subst h;exact⟨rfl,rfl⟩
 | (k,d)::es,l,h=>by obtain⟨a,l',rfl,h1,h2,h3⟩:=h;obtain⟨h4,h5⟩:=OX h3;refine⟨by simp[h1,h4],?_⟩;simp only[aP]at h2;obtain⟨us,h6,h7⟩:=h2;exact⟨a,l',rfl,⟨us,h6,Kt.2 h7⟩,h5⟩
theorem ahO{E:En}{ks:List (List Int)}{vs:List (List D)}{u:Value}(h:Rep E (.mq ks vs) u):
  ∃(s:jB) (l':List MapEntry),u = .map (some s.m)∧E.St s.m 0∧E.w.heap[s.m]? = some (.map s.l s.clock)∧MapKept.Stamped s.l s.clock∧l'.Perm s.l.toList∧jW E (CY ks vs) l':=by
 obtain⟨b,l,clock,l',rfl,h1,h2,h3,h4,h5,h6⟩:=h;exact⟨⟨b,l,clock⟩,l',rfl,h1,h2,h4,h3,Qe h5 h6⟩
theorem Xg{o:Oper}{t:S}{ty e:TypeId}{x ix:Operand}{ck:Bool}{ks:List (List Int)}{vs:List (List D)}{k:List Int}{z:Value}(ho:o.op = .lookup ty x ix ck)(hm:QH P ty k.length=some e)(hz:qm P e=some z)
  (hx:ev t x = .d (.mq ks vs)) (hix:toKey (ev t ix)=some k):gB P A o t ⟨rQ k.length (CY ks vs),pl x++pl ix,[],MQ ck (kJ (CY ks vs) k) (TJ z)⟩:=
 .pure fun hC t' hr a E hi=>by
  have hx':ev t' x = .d (.mq ks vs):=(dK (bf hr)).trans hx;have hix':toKey (ev t' ix)=some k:=by rw[dK (aQ hr)];omega
  obtain⟨kt,hu,hkt⟩:=zV hm;have h1:=bP hi x;rw[hx']at h1
  obtain⟨⟨b,l,clock⟩,l',hu1,_,hg,hs,hp,hrel⟩:=ahO h1;have hu2:=KA hix' (bP hi ix);have hzero:=Jf hz E.w;have hck:=qR hkt l.isEmpty E.w;have hall:∀e∈l.toList,∃k':List Int,k'.length=k.length∧e.key=gW k':=fun e he=>by obtain⟨k',v',g1,g2,_⟩:=Ie hrel e (hp.mem_iff.2 he);exact⟨k',hC _ g1,g2⟩
  rcases Kw hkt rfl E.w l.toList hall with⟨g1,g2⟩|⟨j,a',g1,g2,g3⟩
  ·rcases wM (k:=k) hrel with⟨q1,_⟩|⟨v0,e,q1,q2,q3,_⟩
   ·refine⟨match ck with|true=>.tuple #[z,.bool false]|false=>z,?_,?_⟩
    ·cases ck<;>simp[execOp,ho,hu1,hu2,Instr.lookup,Sem.run_bind,run_underlying hu,MapKept.run_getObj_map hg,hck,g1,hzero]
    ·rw[q1];cases ck with
     | true=>simp only[MQ,aP];exact⟨#[z,.bool false],rfl,by simp only[bD];exact⟨_,_,rfl,JZ E z,_,_,rfl,by rfl,rfl⟩⟩
     | false=>simp[MQ,JZ]
   grind
  ·have hel:a'∈l.toList:=by grind
   rcases wM (k:=k) hrel with⟨q1,q2⟩|⟨v0,e2,q1,q2,q3,q4⟩
   ·grind
   ·have:e2=a':=by grind[qp,MapKept.stamped_iff]
    subst this;refine⟨match ck with|true=>.tuple #[e2.val,.bool true]|false=>e2.val,?_,?_⟩
    ·cases ck<;>simp[execOp,ho,hu1,hu2,Instr.lookup,Sem.run_bind,run_underlying hu,MapKept.run_getObj_map hg,hck,g1]
    ·rw[q1];cases ck with
     | true=>simp only[MQ,aP];exact⟨#[e2.val,.bool true],rfl,by simp only[bD];exact⟨_,_,rfl,q4,_,_,rfl,by rfl,rfl⟩⟩
     | false=>trivial
theorem afS{o:Oper}{t:S}{x:Operand}{ty kt e:TypeId}{ks:List (List Int)}{vs:List D}(ho:o.op = .call {callee:=.builtin .len,args:=#[x],argTypes:=#[ty]})(he:P.underlying ty=some (.map kt e))(hx:ev t x = .d (.mp ks vs)):
  gB P A o t ⟨True,pl x,[],.d (.int .i64 ks.length)⟩:=
 .pure fun hC t' hr a E hi=>by
  have hx':=bP hi x;rw[dK hr,hx]at hx'
  obtain⟨⟨b,l,clock⟩,l',hu1,_,hg,hs,hp,hrel,hl⟩:=VD hx';have hl:l.size=ks.length:=by rw[←hl,hp.length_eq];simp
  refine⟨.int .i64 ks.length,?_,by rfl⟩;simp[execOp,ho,resolve,invoke,builtin,Builtin.len_,hu1,Sem.run_bind,run_underlying he,MapKept.run_getObj_map hg,hl,goInt]
theorem aeD{o:Oper}{t:S}{ty kt e:TypeId}{x:Operand}{d z:Nat}{ks:List (List Int)}{vs:List D}(ho:o.op = .range ty x)(hty:P.underlying ty=some (.map kt e))(hx:ev t x = .d (.mp ks vs))(hd:t (.o d) = .none)(hz:t (.o z) = .none)(hdz:d≠z):
  ∀t',(∀p∈pl x++[.o z,.o d],t' p=t p)→∀a E,eY A t' a E→∃(s:jB) (u:Value) (E':En),(execOp a.eval o).run P E.w = .ok (.value u) E'.w∧eY A (over t' [(.o d,.yt z s ((kV ks vs).map (·.1)) none),(.o z,.BM (kV ks vs) s)]) a E'∧aP E' (.ptr (.o d) 0) u:=fun t' hr a E hi=>by
 have hx':ev t' x = .d (.mp ks vs):=(dK (bf hr)).trans hx;have hz':t' (.o z) = .none:=by simp[*]
 have h1:=bP hi x;rw[hx']at h1
 obtain⟨s,l',hu1,hst,hg,hs,hp,hrel,_⟩:=VD h1;have hfree:=hi.h.item (.o z) (by simp);rw[hz']at hfree
 obtain⟨hb0,hv0⟩:=hfree z rfl;have hown:E.own (.o z)=none:=by grind[En.own]
 have hH:lD E (upd t' (.o z) (.BM (kV ks vs) s)):=by refine hi.h.change (by simp) (Ext.refl _ _) (fun b o h=>.inl h) (fun _ _=>rfl) (fun _ _=>rfl) (au _) (fun _ _ _ _=>rfl) (fun b' hb'=>by simp_all) ?_ (fun b' o' hs hb'=>by simp_all);exact⟨hown,hst,hg,hs,l',hp,hrel⟩
 have hi2:eY A (upd t' (.o z) (.BM (kV ks vs) s)) a E:=⟨hH,hi.fr,fun k tv hk=>hi.sl k tv (by trivial),hi.defers,hi.size⟩
 obtain⟨E',hw',hi3,hrl⟩:=hi2.aco (d:=d) (id:=z) (by grind[upd]) hs hp hrel;refine⟨s,_,E',?_,hi3,hrl⟩;have:=run_range_map (P:=P) E.w ty kt e s.m s.l s.clock hty hg;simp[execOp,ho,hu1,Sem.run_bind,this,hw']
end
end Go.Tr

namespace Go.Tr
open Go
def ZF(P:Program)(t:S)(op:BinOp)(ty:TypeId)(x y:Operand):Option Eff:=
 match ev t x,ev t y with
 | .agg vs,.agg ws=>match eqT P 4 ty (.agg vs) (.agg ws)with
   | some r=>match op with
     | .eql=>some ⟨afV P ty=true,pl x++pl y,[],.d (.bool r)⟩
     | .neq=>some ⟨afV P ty=true,pl x++pl y,[],.d (.bool !r)⟩
     | _=>none
   | none=>none
 | a,b=>match afp P op ty a b with
   | some (C,v)=>some ⟨C,pl x++pl y,[],v⟩
   | none=>none
def U1(t:S)(c x y:Operand):TV→Option Eff
 | .d (.bool g)=>some ⟨True,pl c++(pl x++pl y),[],bif g then ev t x else ev t y⟩
 | _=>none
def afP(t:S)(op:UnOp)(x:Operand):Option Eff:=
 match unD op (ev t x)with
 | some v=>some ⟨True,pl x,[],v⟩
 | none=>none
def UY(P:Program)(sr ds:TypeId)(x:Operand):TV→Option Eff
 | .d (.int _ n)=>match qE P sr,knd P ds with
   | some _,some k=>some ⟨True,pl x,[],.d (.int k (k.wrap n))⟩
   | _,_=>none
 | .d (.sl xs)=>match qO P sr,u8s xs with
   | some e,some ns=>some ⟨u8K P e=true∧isStr P ds=true,pl x,[],.d (.str (strOf ns))⟩
   | _,_=>none
 | _=>none
def ZI(t:S)(x:Operand):TV→Option Eff
 | .ptr p q=>some ⟨True,pl x,[],.ptr p q⟩
 | .ep e q=>some ⟨True,pl x,[],.ep e q⟩
 | .clo f c=>some ⟨True,pl x,[],.clo f c⟩
 | .qH id n i q=>match t (.o id)with
   | .row _ _ es _=>some ⟨n=es.length,pl x++[.o id],[],.qH id n i q⟩
   | _=>none
 | _=>none
def Ap(P:Program)(t:S)(s:TypeId)(f:Nat)(x:Operand)(v:TV):Option Eff:=
 match pO P s f with
 | none=>none
 | some (off,ft)=>match kM P ft with
   | none=>none
   | some z=>match v with
     | .ptr p q=>some ⟨z≠0,pl x,[],.ptr p (q+off)⟩
     | .ep e q=>some ⟨z≠0,pl x,[],.ep e (q+off)⟩
     | .qH id n i q=>match t (.o id)with
       | .row _ _ es _=>some ⟨z≠0∧n=es.length,pl x++[.o id],[],.qH id n i (q+off)⟩
       | _=>none
     | _=>none
def N8(P:Program)(ty:TypeId)(f:Nat)(x:Operand):TV→Option Eff
 | .agg vs=>match pO P ty f with
   | some (off,ft)=>match partT P ft vs off with
     | some v=>some ⟨True,pl x,[],v⟩
     | none=>none
   | none=>none
 | _=>none
def Aq(P:Program)(t:S)(ty:TypeId)(x ix:Operand)(v i:TV):Option Eff:=
 match i with
 | .d (.int _ i)=>match v with
   | .d (.sl xs)=>match qO P ty with
     | some e=>match kM P e with
       | some k=>some ⟨0≤i∧i<xs.length∧(xs.getD i.toNat []).length=k,pl x++pl ix,[],.ep (xs.getD i.toNat []) 0⟩
       | none=>none
     | none=>none
   | .aW id n=>match t (.o id)with
     | .row _ k es _=>match qO P ty with
       | some e=>some ⟨kM P e=some k∧n=es.length∧0≤i∧i<es.length,pl x++(pl ix++[.o id]),[],.qH id n i.toNat 0⟩
       | none=>none
     | .sJ _ k es=>match qO P ty with
       | some e=>some ⟨kM P e=some k∧n=es.length∧0≤i∧i<es.length,pl x++(pl ix++[.o id]),[],.qH id n i.toNat 0⟩
       | none=>none
     | _=>none
   | .ptr p q=>match arE P ty with
     | some (n,e)=>match kM P e with
       | some k=>some ⟨0≤i∧i<n,pl x++pl ix,[],.ptr p (q+i.toNat*k)⟩
       | none=>none
     | none=>none
   | .ep ds q=>match arE P ty with
     | some (n,e)=>match kM P e with
       | some k=>some ⟨0≤i∧i<n,pl x++pl ix,[],.ep ds (q+i.toNat*k)⟩
       | none=>none
     | none=>none
   | _=>none
 | _=>none
def N9(P:Program)(ty:TypeId)(x ix:Operand)(v i:TV):Option Eff:=
 match i with
 | .d (.int _ i)=>match v with
   | .agg vs=>match arE P ty with
     | some (n,e)=>match kM P e with
       | some k=>match partT P e vs (i.toNat*k)with
         | some v=>some ⟨0≤i∧i<n,pl x++pl ix,[],v⟩
         | none=>none
       | none=>none
     | none=>none
   | .d (.str s)=>some ⟨isStr P ty=true∧0≤i∧i<s.size,pl x++pl ix,[],.d (.int .u8 (s.data.getD i.toNat 0).toNat)⟩
   | _=>none
 | _=>none
def Fp(x:Operand)(i:Nat):TV→Option Eff
 | .qh vs=>match vs[i]? with
   | some v=>some ⟨True,pl x,[],v⟩
   | none=>none
 | _=>none
def cellsOf(P:Program)(ty:TypeId)(cs:List TV)(q:Nat):Option (Prop×TV):=
 match qE P ty with
 | some false=>match cs[q]? with
   | some v=>some (True,v)
   | none=>none
 | some true=>match kM P ty with
   | some z=>some (q+z≤cs.length,.agg ((cs.drop q).take z))
   | none=>none
 | none=>none
def U0(P:Program)(t:S)(ty:TypeId)(x:Operand):TV→Option Eff
 | .ptr p q=>match t p with
   | .box cs=>match cellsOf P ty cs q with
     | some (C,v)=>some ⟨C,pl x++[p],[],v⟩
     | none=>none
   | _=>none
 | .ep e q=>match cellsOf P ty (e.map .d) q with
   | some (C,v)=>some ⟨C,pl x,[],v⟩
   | none=>none
 | .qH id n i q=>match t (.o id)with
   | .row _ _ es _=>match cellsOf P ty (es.getD i []) q with
     | some (C,v)=>some ⟨C∧n=es.length∧i<es.length,pl x++[.o id],[],v⟩
     | none=>none
   | .sJ _ _ es=>match cellsOf P ty (es.getD i []) q with
     | some (C,v)=>some ⟨C∧n=es.length∧i<es.length,pl x++[.o id],[],v⟩
     | none=>none
   | _=>none
 | _=>none
def Oa(P:Program)(t:S)(ty:TypeId)(x y:Operand)(vs:List TV):TV→Option Eff
 | .ptr p q=>match t p with
   | .box cs=>some ⟨kM P ty=some vs.length∧q+vs.length≤cs.length∧∀c∈vs,c.one=true,pl x++(pl y++[p]),[(p,.box (setAt cs q vs))],.junk⟩
   | _=>none
 | .qH id n i q=>match t (.o id)with
   | .row e k es false=>some ⟨kM P ty=some vs.length∧n=es.length∧i<es.length∧q+vs.length≤(es.getD i []).length∧∀c∈vs,c.one=true,pl x++(pl y++[.o id]),[(.o id,.row e k (es.set i (setAt (es.getD i []) q vs)) false)],.junk⟩
   | _=>none
 | _=>none
def EX(P:Program)(ty:TypeId):Bool:=
 match P.underlying ty with
 | some (.map _ _)=>true
 | _=>false
def ZH(P:Program)(t:S)(ty:TypeId)(x:Operand):TV→Option Eff
 | .d (.sl xs)=>some ⟨(qO P ty).isSome=true,pl x,[],.d (.int .i64 xs.length)⟩
 | .c (.slice _ n _)=>some ⟨(qO P ty).isSome=true,pl x,[],.d (.int .i64 n)⟩
 | .d (.str s)=>some ⟨isStr P ty=true,pl x,[],.d (.int .i64 s.size)⟩
 | .aW id n=>match t (.o id)with
   | .row _ _ es _=>some ⟨(qO P ty).isSome=true∧n=es.length,pl x++[.o id],[],.d (.int .i64 n)⟩
   | .sJ _ _ es=>some ⟨(qO P ty).isSome=true∧n=es.length,pl x++[.o id],[],.d (.int .i64 n)⟩
   | _=>none
 | .mref id=>match t (.o id)with
   | .fO es _ _ _=>some ⟨EX P ty=true,pl x++[.o id],[],.d (.int .i64 es.length)⟩
   | _=>none
 | .d (.mp ks _)=>some ⟨EX P ty=true,pl x,[],.d (.int .i64 ks.length)⟩
 | _=>none
def acO(t:S):TV→Option (List Pl×List (List TV)×Prop)
 | .d (.sl ys)=>some ([],dd ys,True)
 | .c (.slice _ n _)=>some ([],[],n=0)
 | .aW id n=>match t (.o id)with
   | .row _ _ es _=>some ([.o id],es,n=es.length)
   | _=>none
 | _=>none
def Jz(P:Program)(t:S)(d:Nat)(sty:TypeId)(x y:Operand)(v:TV):Option Eff:=
 match qO P sty with
 | none=>none
 | some e=>match kM P e,BJ P e,qm P e with
   | some k,some b,some z=>match acO t (ev t y)with
     | some (rp,ys,Cs)=>match v with
       | .c (.slice none 0 0)=>some ⟨(Cs∧(kS z).length=k∧0<k)∧t (.o d) = .none∧Gx k b 0 ys,pl x++(pl y++(.o d::rp)),[(.o d,.row e k ys false)],.aW d ys.length⟩
       | .sx xs=>if ys.length=0 then some ⟨Cs∧ys.length=0,pl x++(pl y++rp),[],.d (.sl xs)⟩else some ⟨(Cs∧(kS z).length=k∧0<k)∧(t (.o d) = .none∧dLen k xs)∧0<ys.length∧Gx k b xs.length ys,pl x++(pl y++(.o d::rp)),[(.o d,.row e k (dd xs++ys) false)],.aW d (xs.length+ys.length)⟩
       | .aW id n=>match t (.o id)with
         | .row e' k' es sh=>some ⟨(Cs∧(kS z).length=k∧0<k∧e'=e∧k'=k)∧n=es.length∧Gx k b n ys,pl x++(pl y++(.o id::rp)),[(.o id,.row e k (es++ys) sh)],.aW id (n+ys.length)⟩
         | .sJ e' k' es=>some ⟨(Cs∧(kS z).length=k∧0<k∧e'=e∧k'=k)∧n=es.length∧Gx k b n ys,pl x++(pl y++(.o id::rp)),[(.o id,.sJ e k (es++ys))],.aW id (n+ys.length)⟩
         | _=>none
       | _=>none
     | none=>none
   | _,_,_=>none
def NY(P:Program)(t:S)(d:Nat)(ty:TypeId):Option Eff:=
 match qm P ty with
 | some z=>some ⟨(kS z).all (·.oneCell')=true∧t (.o d) = .none,[.o d],[(.o d,.box ((kS z).map kK))],.ptr (.o d) 0⟩
 | none=>none
def ZG(t:S)(d:Nat)(x:Operand):Option Eff:=
 some ⟨t (.o d) = .none∧∀c∈(ev t x).cells,c.one=true,pl x++[.o d],[(.o d,.box (ev t x).cells)],.ptr (.o d) 0⟩
def NZ(P:Program)(t:S)(ty:TypeId)(ps:List (Nat×Operand)):Option Eff:=
 match EI P ty with
 | some fs=>match qm P ty with
   | some z=>match Bo (fun i=>fs[i]?) ((kS z).map kK) (ps.map fun x=>(x.1,ev t x.2))with
     | some r=>some ⟨∀p∈ps.map (fun x=>(x.1,ev t x.2)),∀c∈p.2.cells,c.one=true,ps.flatMap (fun x=>pl x.2),[],.agg r⟩
     | none=>none
   | none=>none
 | none=>match arF P ty with
   | some k=>match qm P ty with
     | some z=>match Bo (fun i=>some (i*k,k)) ((kS z).map kK) (ps.map fun x=>(x.1,ev t x.2))with
       | some r=>some ⟨∀p∈ps.map (fun x=>(x.1,ev t x.2)),∀c∈p.2.cells,c.one=true,ps.flatMap (fun x=>pl x.2),[],.agg r⟩
       | none=>none
     | none=>none
   | none=>none
def y8(P:Program)(ow:List Nat)(t:S)(d:Nat)(ty:TypeId)(n:Nat)(ps:List (Nat×Operand)):Option Eff:=
 match qO P ty with
 | none=>none
 | some e=>match kM P e,qm P e with
   | some k,some _=>if ow.contains d then
     some ⟨wX ps n=true∧t (.o d) = .none∧(∀e∈ps.map (fun x=>(ev t x.2).cells),e.length=k∧∀c∈e,c.one=true)∧n*k≤16777216∧0<k,ps.flatMap (fun x=>pl x.2)++[.o d],[(.o d,.row e k (ps.map fun x=>(ev t x.2).cells) false)],.aW d n⟩
     else match jX (ps.map fun x=>(ev t x.2).cells)with
      | some xss=>some ⟨wX ps n=true∧(∀e∈ps.map (fun x=>(ev t x.2).cells),e.length=k∧∀c∈e,c.one=true)∧n*k≤16777216,ps.flatMap (fun x=>pl x.2),[],.d (.sl xss)⟩
      | none=>none
   | _,_=>none
def N_(P:Program)(t:S)(ty:TypeId)(x:Operand)(lo hi:Option Operand):TV→Option Eff
 | .d (.sl xs)=>match qO P ty with
   | some e=>match kM P e with
     | some k=>match WX xs.length (lo.map (ev t)) (hi.map (ev t))with
       | some (C,l,h)=>some ⟨C∧∀e∈xs,e.length=k,pl x++(plO lo++plO hi),[],.d (.sl ((xs.take h).drop l))⟩
       | none=>none
     | none=>none
   | none=>none
 | .d (.str s)=>match WX s.size (lo.map (ev t)) (hi.map (ev t))with
   | some (C,l,h)=>some ⟨isStr P ty=true∧C,pl x++(plO lo++plO hi),[],.d (.str (s.extract l h))⟩
   | none=>none
 | .aW id n=>match t (.o id)with
   | .sJ _ k es=>match qO P ty with
     | some e=>match lo,hi with
       | some lo,none=>match ev t lo with
         | .d (.int _ l)=>some ⟨kM P e=some k∧n=es.length∧0≤l∧l≤es.length,pl x++(pl lo++[.o id]),[],.LG id n l.toNat⟩
         | _=>none
       | _,_=>none
     | none=>none
   | _=>none
 | _=>none
def JD(P:Program)(ty:TypeId)(x hi mx:Operand):TV→TV→TV→Option Eff
 | .d (.sl xs),.d (.int _ h),.d (.int _ m)=>match qO P ty with
   | some e=>match kM P e with
     | some k=>some ⟨(0≤h∧h≤xs.length∧m=h)∧∀e∈xs,e.length=k,pl x++(pl hi++pl mx),[],.sx (xs.take h.toNat)⟩
     | none=>none
   | none=>none
 | _,_,_=>none
def zL(mx:Bool)(x y:Operand):TV→TV→Option Eff
 | .d (.int k a),.d (.int _ b)=>some ⟨True,pl x++pl y,[],if mx then ad9 k a b else X3 k a b⟩
 | _,_=>none
def JA(P:Program)(t:S)(ty:TypeId)(x ix:Operand)(vx vi:TV):Option Eff:=
 match vx with
 | .mref id=>match t (.o id)with
   | .fO es c _ _=>match toKey vi with
     | some k=>match QH P ty k.length with
       | some _=>some ⟨rQ k.length es,pl x++(pl ix++[.o id]),[(.o id,.fO (aak es k) c none none)],.qh []⟩
       | none=>none
     | none=>none
   | _=>none
 | _=>none
def UW(P:Program)(t:S)(d:Nat)(c:Call):Option Eff:=
 match c.callee,c.args.toList,c.argTypes.toList with
 | .builtin .len,[x],[ty]=>ZH P t ty x (ev t x)
 | .builtin .append,[x,y],[sty,ao5]=>if sty=ao5 then Jz P t d sty x y (ev t x)else none
 | .builtin .min,[x,y],_=>zL false x y (ev t x) (ev t y)
 | .builtin .max,[x,y],_=>zL true x y (ev t x) (ev t y)
 | .builtin .delete,[x,y],[ty,_]=>JA P t ty x y (ev t x) (ev t y)
 | _,_,_=>none
def UZ(t:S)(fn:Fn)(first captured:Array Operand):Option Eff:=
 match fn,first.toList with
 | .func f,[]=>some ⟨True,captured.toList.flatMap pl,[],.clo f (captured.toList.map (ev t))⟩
 | _,_=>none
def mpE(P:Program)(ty:TypeId):Option TypeId:=
 match P.underlying ty with
 | some (.map k e)=>match P.underlying k with
   | some (.int _)=>some e
   | _=>none
 | _=>none
def Fq(ow:List Nat)(t:S)(d:Nat):Option Operand→Option Eff
 | none=>if(ow.any fun n=>n==d+3000000)=true then some ⟨t (.o d) = .none,[.o d],[(.o d,.fO [] 0 none none)],.mref d⟩else some ⟨t (.o d) = .none,[.o d],[(.o d,.mp [])],.mref d⟩
 | some _=>none
def JC(P:Program)(t:S)(ty:TypeId)(x ix:Operand)(ck:Bool)(vx vi:TV):Option Eff:=
 match vx with
 | .mref id=>match t (.o id)with
   | .mp es=>match vi with
     | .d (.int kd k)=>match mpE P ty with
       | some e=>match qm P e with
         | some z=>some ⟨kd = .i64,pl x++(pl ix++[.o id]),[],lkV ck (LD es k) (kK z)⟩
         | none=>none
       | none=>none
     | _=>none
   | .fO es _ _ _=>match toKey vi with
     | some k=>match QH P ty k.length with
       | some e=>match qm P e with
         | some z=>some ⟨rQ k.length es,pl x++(pl ix++[.o id]),[],MQ ck (kJ es k) (kK z)⟩
         | none=>none
       | none=>none
     | none=>none
   | _=>none
 | .d (.mp ks vs)=>match toKey vi with
   | some k=>match QH P ty k.length with
     | some e=>match qm P e with
       | some z=>some ⟨rQ k.length (kV ks vs),pl x++pl ix,[],MQ ck (kJ (kV ks vs) k) (kK z)⟩
       | none=>none
     | none=>none
   | none=>none
 | .d (.mq ks vs)=>match toKey vi with
   | some k=>match QH P ty k.length with
     | some e=>match qm P e with
       | some z=>some ⟨rQ k.length (CY ks vs),pl x++pl ix,[],MQ ck (kJ (CY ks vs) k) (TJ z)⟩
       | none=>none
     | none=>none
   | none=>none
 | _=>none
def Aw(P:Program)(t:S)(ty:TypeId)(x ix y:Operand)(vx vi vy:TV):Option Eff:=
 match vx with
 | .mref id=>match t (.o id)with
   | .mp es=>match vi with
     | .d (.int kd k)=>match vy with
       | .d d=>match mpE P ty with
         | some _=>some ⟨kd = .i64,pl x++(pl ix++(pl y++[.o id])),[(.o id,.mp (JW es k d))],.junk⟩
         | none=>none
       | _=>none
     | _=>none
   | .fO es c _ _=>match toKey vi with
     | some k=>match QH P ty k.length with
       | some _=>some ⟨rQ k.length es,pl x++(pl ix++(pl y++[.o id])),[(.o id,.fO (oq es k vy) c none none)],.junk⟩
       | none=>none
     | none=>none
   | _=>none
 | _=>none
def JB(P:Program)(t:S)(ty:TypeId)(x ix y:Operand)(vx vi vy:TV):Option Eff:=
 match vx with
 | .mref id=>match t (.o id)with
   | .fO es c _ _=>match toKey vi with
     | some k=>match QH P ty k.length with
       | some _=>some ⟨rQ k.length es,pl x++(pl ix++(pl y++[.o id])),[(.o id,.fO (oq es k vy) c none none)],.junk⟩
       | none=>none
     | none=>none
   | _=>none
 | _=>none
def Cm(P:Program)(t:S)(ty:TypeId)(x ix:Operand)(vx vi:TV):Option Eff:=
 match vx with
 | .mref id=>match t (.o id)with
   | .fO es c _ _=>match toKey vi with
     | some k=>match QH P ty k.length with
       | some e=>match qm P e with
         | some z=>some ⟨rQ k.length es,pl x++(pl ix++[.o id]),[(.o id,.fO (oq es k (MQ false (kJ es k) (kK z))) (c+1) (some k) none)],.qh [MQ false (kJ es k) (kK z),.aW id (c+1)]⟩
         | none=>none
       | none=>none
     | none=>none
   | _=>none
 | _=>none
def y9(t:S)(x ix y:Operand)(vx vi vy:TV):Option Eff:=
 match vx with
 | .mref id=>match t (.o id)with
   | .fO es c (some k) _=>match vi with
     | .aW id' n=>some ⟨id'=id∧n=c,pl x++(pl ix++(pl y++[.o id])),[(.o id,.fO (oq es k vy) c (some k) none)],.junk⟩
     | _=>none
   | _=>none
 | _=>none
def N7(t:S)(x:Operand)(vx:TV):Option Eff:=
 match vx with
 | .ptr (.o d) off=>match t (.o d)with
   | .yt id s _ (some k)=>match t (.o id)with
     | .fO es _ _ (some s')=>match kJ es k with
       | some v=>some ⟨off=0∧s'=s,pl x++[.o d,.o id],[],.qh [OV k,v]⟩
       | none=>none
     | .BM es s'=>match kJ es k with
       | some v=>some ⟨off=0∧s'=s,pl x++[.o d,.o id],[],.qh [OV k,v]⟩
       | none=>none
     | _=>none
   | _=>none
 | _=>none
def Au(P:Program)(t:S)(d:Nat)(ty:TypeId)(lx cx:Operand):TV→TV→Option Eff
 | .d (.int kd n),.d (.int kd' n')=>match qO P ty with
   | some e=>match kM P e,BJ P e,qm P e with
     | some k,some b,some z=>some ⟨(kd = .i64∧kd' = .i64∧n'=n)∧t (.o d) = .none∧0≤n∧n≤1000000∧b*n≤281474976710656∧(kS z).length=k∧0<k∧(kS z).all (·.oneCell')=true,pl lx++(pl cx++[.o d]),
       [(.o d,.row e k (List.replicate n.toNat ((kS z).map kK)) false)],.aW d n.toNat⟩
     | _,_,_=>none
   | none=>none
 | _,_=>none
theorem X4{P:Program}{ty e:TypeId}(h:mpE P ty=some e):∃k kd,P.underlying ty=some (.map k e)∧P.underlying k=some (.int kd):=by grind[mpE,Option.some.injEq]
def eff(P:Program)(ow:List Nat)(t:S)(o:Oper):Option Eff:=
 match o.op with
 | .move x|.assign x=>some ⟨True,pl x,[],ev t x⟩
 | .pick c x y=>U1 t c x y (ev t c)
 | .binOp op ty x y _=>ZF P t op ty x y
 | .unOp op _ x=>afP t op x
 | .convert sr ds x=>UY P sr ds x (ev t x)
 | .nilCheck x=>ZI t x (ev t x)
 | .fieldAddr s x f=>Ap P t s f x (ev t x)
 | .field ty x f=>N8 P ty f x (ev t x)
 | .indexAddr ty x ix=>Aq P t ty x ix (ev t x) (ev t ix)
 | .index ty x ix=>N9 P ty x ix (ev t x) (ev t ix)
 | .extract x i=>Fp x i (ev t x)
 | .load ty x=>U0 P t ty x (ev t x)
 | .store ty x y=>Oa P t ty x y (ev t y).cells (ev t x)
 | .alloc ty=>NY P t (o.dst.getD 0) ty
 | .box _ x=>ZG t (o.dst.getD 0) x
 | .build ty ps=>NZ P t ty ps.toList
 | .buildSlice ty n ps=>y8 P ow t (o.dst.getD 0) ty n ps.toList
 | .slice ty x lo hi none=>N_ P t ty x lo hi (ev t x)
 | .slice ty x none (some hi) (some mx)=>JD P ty x hi mx (ev t x) (ev t hi) (ev t mx)
 | .makeFunc fn first captured=>UZ t fn first captured
 | .call c=>UW P t (o.dst.getD 0) c
 | .makeMap _ r=>Fq ow t (o.dst.getD 0) r
 | .lookup ty x ix ck=>JC P t ty x ix ck (ev t x) (ev t ix)
 | .mapUpdate ty x ix y=>Aw P t ty x ix y (ev t x) (ev t ix) (ev t y)
 | .makeSlice ty lx cx=>Au P t (o.dst.getD 0) ty lx cx (ev t lx) (ev t cx)
 | .insert ty x ix y=>JB P t ty x ix y (ev t x) (ev t ix) (ev t y)
 | .mapEntry ty x ix=>Cm P t ty x ix (ev t x) (ev t ix)
 | .entryStore _ x ix y=>y9 t x ix y (ev t x) (ev t ix) (ev t y)
 | .entry x=>N7 t x (ev t x)
 | _=>none
section
variable {P:Program} {A:f_}
theorem gB.weak{o:Oper}{t:S}{C C':Prop}{rp:List Pl}{W:List (Pl×It)}{v:TV}(h:gB P A o t ⟨C',rp,W,v⟩)(hC:C→C'):gB P A o t ⟨C,rp,W,v⟩:=fun c=>h (hC c)
theorem src_of{t:S}{y:TV}{rp:List Pl}{ys:List (List TV)}{C:Prop}(h:acO t y=some (rp,ys,C))(hC:C):Src t y rp ys:=by
 unfold acO at h;split at h
 ·obtain⟨rfl,rfl,rfl⟩:=h;exact .sl _
 ·obtain⟨rfl,rfl,rfl⟩:=h;subst hC;exact .nil _ _
 ·split at h
  ·rename_i hr;obtain⟨rfl,rfl,rfl⟩:=h;subst hC;exact .row _ _ _ _ _ hr
  trivial
 trivial
theorem D9{α:Type}{x:Option α}(h:x.isSome=true):∃a,x=some a:=gq.1 h
theorem afT{ow:List Nat}{t:S}{o:Oper}{e:Eff}(h:eff P ow t o=some e):gB P A o t e:=by
 unfold eff at h;split at h
 ·grind[Option.some.injEq,Xj]
 ·grind[Option.some.injEq,Xj]
 ·rename_i ho;unfold U1 at h
  grind[Option.some.injEq,afU]
 ·rename_i ho;unfold ZF at h;split at h
  ·rename_i hx hy;split at h
   ·rename_i r hr;split at h
    ·simp only[ah]at h;subst h;exact .of fun hg=>by simpa using abD ho (.inl rfl) hg hx hy hr
    ·simp only[ah]at h;subst h;exact .of fun hg=>by simpa using abD ho (.inr rfl) hg hx hy hr
    trivial
   trivial
  grind[Option.some.injEq,ai1]
 ·grind[afP,Option.some.injEq,alg]
 ·rename_i ho;unfold UY at h;split at h
  ·grind[Option.some.injEq,afQ]
  ·rename_i hx;split at h
   ·rename_i hs hk;simp only[ah]at h;subst h;exact .of fun hc=>adw ho hs hc.1 hc.2 hx hk
   trivial
  trivial
 ·rename_i ho;unfold ZI at h
  grind[Option.some.injEq,ai5,Xk]
 ·rename_i ho;unfold Ap at h;split at h
  ·trivial
  ·rename_i hf;split at h
   ·trivial
   ·rename_i hz;split at h
    ·rename_i hx;simp only[ah]at h;subst h;exact .of fun hz0=>EN ho hf hz hz0 (.inl ⟨_,_,hx,rfl⟩)
    ·rename_i hx;simp only[ah]at h;subst h;exact .of fun hz0=>EN ho hf hz hz0 (.inr ⟨_,_,hx,rfl⟩)
    ·rename_i hx;split at h
     ·rename_i ht;simp only[ah]at h;subst h;exact .of fun hc=>(He ho hf hz hc.1 hx ht).weak fun _=>hc.2
     trivial
    trivial
 ·rename_i ho;unfold N8 at h
  grind[Option.some.injEq,adx]
 ·rename_i ho;unfold Aq at h;split at h
  ·rename_i hi;split at h
   ·grind[Option.some.injEq,QU]
   ·rename_i hx;split at h
    ·rename_i ht;split at h
     ·rename_i he;simp only[ah]at h;subst h;exact .of fun hc=>(Hl ho he hc.1 hx hi ht).weak fun _=>hc.2
     trivial
    ·rename_i ht;split at h
     ·rename_i he;simp only[ah]at h;subst h;exact .of fun hc=>(Hg ho he hc.1 hx hi ht).weak fun _=>hc.2
     trivial
    trivial
   ·grind[Option.some.injEq,Hf]
   ·grind[Option.some.injEq,JE]
   trivial
  trivial
 ·rename_i ho;unfold N9 at h;split at h
  ·rename_i hi;split at h
   ·grind[Option.some.injEq,QV]
   ·rename_i hx;simp only[ah]at h;subst h;exact .of fun hc=>(QW ho hc.1 hx hi).weak fun _=>hc.2
   trivial
  trivial
 ·rename_i ho;unfold Fp at h
  grind[Option.some.injEq,Xa]
 ·rename_i ho;unfold U0 cellsOf at h;split at h
  ·rename_i hx;split at h
   ·rename_i ht;split at h
    ·rename_i hc;simp only[ah]at h;subst h;split at hc
     ·rename_i hs;split at hc
      ·rename_i hv;simp only[ah,aO]at hc;obtain⟨rfl,rfl⟩:=hc
       simp_all[Ho]
      trivial
     ·rename_i hs;split at hc
      ·rename_i hz;simp only[ah,aO]at hc;obtain⟨rfl,rfl⟩:=hc;exact .of fun hl=>Ho ho hx ht (.inr ⟨_,hs,hz,hl,rfl⟩)
      trivial
     trivial
    trivial
   trivial
  ·rename_i hx;split at h
   ·rename_i hc;simp only[ah]at h;subst h;split at hc
    ·rename_i hs;split at hc
     ·rename_i hv;simp only[ah,aO]at hc;obtain⟨rfl,rfl⟩:=hc
      grind[Option.map_eq_some_iff,KG]
     trivial
    ·rename_i hs;split at hc
     ·rename_i hz;simp only[ah,aO]at hc;obtain⟨rfl,rfl⟩:=hc;exact .of fun hl=>KG ho hx (.inr ⟨_,hs,hz,by simp_all,by simp⟩)
     trivial
    trivial
   trivial
  ·rename_i hx;split at h
   ·rename_i ht;split at h
    ·rename_i hc;simp only[ah]at h;subst h;split at hc
     ·rename_i hs;split at hc
      ·rename_i hv;simp only[ah,aO]at hc;obtain⟨rfl,rfl⟩:=hc
       grind[Hr]
      trivial
     ·rename_i hs;split at hc
      ·rename_i hz;simp only[ah,aO]at hc;obtain⟨rfl,rfl⟩:=hc;exact .of fun hl=>(Hr ho hx ht (.inr ⟨_,hs,hz,hl.1,rfl⟩)).weak fun _=>hl.2
      trivial
     trivial
    trivial
   ·rename_i ht;split at h
    ·rename_i hc;simp only[ah]at h;subst h;split at hc
     ·rename_i hs;split at hc
      ·rename_i hv;simp only[ah,aO]at hc;obtain⟨rfl,rfl⟩:=hc
       grind[Hq]
      trivial
     ·rename_i hs;split at hc
      ·rename_i hz;simp only[ah,aO]at hc;obtain⟨rfl,rfl⟩:=hc;exact .of fun hl=>(Hq ho hx ht (.inr ⟨_,hs,hz,hl.1,rfl⟩)).weak fun _=>hl.2
      trivial
     trivial
    trivial
   trivial
  trivial
 ·rename_i ho;unfold Oa at h;split at h
  ·rename_i hx;split at h
   ·rename_i ht;simp only[ah]at h;subst h;exact .of fun hc=>(Q8 ho hx ht rfl hc.1).weak fun _=>hc.2
   trivial
  ·rename_i hx;split at h
   ·rename_i ht;simp only[ah]at h;subst h;exact .of fun hc=>(Q9 ho hx ht rfl hc.1).weak fun _=>hc.2
   trivial
  trivial
 ·rename_i ho;unfold NY at h;split at h
  ·rename_i hz;simp only[ah]at h;subst h;exact .of fun hc=>(adu ho hz hc.1).weak fun _=>hc.2
  trivial
 ·grind[ZG,Option.some.injEq,ai2]
 ·rename_i ho;unfold NZ at h;split at h
  ·rename_i hf;split at h
   ·rename_i hz;split at h
    ·rename_i hr;simp only[ah]at h;subst h;exact adv (by rw[ho]) hf hz hr
    ·simp at h
   ·simp at h
  ·split at h
   ·rename_i hf;split at h
    ·rename_i hz;split at h
     ·rename_i hr;simp only[ah]at h;subst h;exact ZJ (by rw[ho]) hf hz hr
     ·simp at h
    ·simp at h
   ·simp at h
 ·rename_i ho;unfold y8 at h;split at h
  ·simp at h
  ·rename_i he;split at h
   ·rename_i hk hz;split at h
    ·simp only[ah]at h;subst h;exact .of fun hc=>(Fv (by rw[ho]) he hk hz hc.1).weak fun _=>hc.2
    ·split at h
     ·rename_i hx;simp only[ah]at h;subst h;exact .of fun hc=>(Oh (by rw[ho]) he hk hz hc.1 hx).weak fun _=>hc.2
     ·simp at h
   ·simp at h
 ·rename_i ho;unfold N_ at h;split at h
  ·rename_i hx;split at h
   ·rename_i he;split at h
    ·rename_i hk;split at h
     ·rename_i hc;simp only[ah]at h;subst h;exact U4 ho he hk hx hc
     ·simp at h
    ·simp at h
   ·simp at h
  ·rename_i hx;split at h
   ·rename_i hc;simp only[ah]at h;subst h;exact .of fun hC=>(Q7 ho hC.1 hx hc).weak fun _=>hC.2
   ·simp at h
  ·rename_i hx;split at h
   ·rename_i ht;split at h
    ·rename_i he;split at h
     ·split at h
      ·rename_i hl;simp only[ah]at h;subst h;exact .of fun hC=>(Q5 ho he hC.1 hx hl ht).weak fun _=>hC.2
      ·simp at h
     ·simp at h
    ·simp at h
   ·simp at h
  ·simp at h
 ·rename_i ho;unfold JD at h;split at h
  ·rename_i hx hh hm;split at h
   ·rename_i he;split at h
    ·rename_i hk;simp only[ah]at h;subst h;exact ZM ho he hk hx hh hm
    ·simp at h
   ·simp at h
  ·simp at h
 ·rename_i ho;unfold UZ at h;split at h
  ·rename_i caps hf;simp only[ah]at h;subst h;refine U2 ?_;rw[ho]
   congr 1
   exact Array.toList_eq_nil_iff.1 hf
  ·simp at h
 ·rename_i c ho;unfold UW at h;split at h
  ·rename_i x ty hc ha ht;have hcall:o.op = .call {callee:=.builtin .len,args:=#[x],argTypes:=#[ty]}:=by
    rw[ho];congr 1
    obtain⟨c1,c2,c3⟩:=c;simp only[Call.mk.injEq];exact⟨hc,jr.1 ha,jr.1 ht⟩
   unfold ZH at h;split at h
   ·rename_i hx;simp only[ah]at h;subst h;exact .of fun hs=>by obtain⟨e,he⟩:=D9 hs;exact ZK hcall he hx
   ·rename_i hx;simp only[ah]at h;subst h;exact .of fun hs=>by obtain⟨e,he⟩:=D9 hs;exact Xb hcall he hx
   ·rename_i hx;simp only[ah]at h;subst h;exact .of fun hs=>Xe hcall hs hx
   ·rename_i hx;split at h
    ·rename_i hr;simp only[ah]at h;subst h;exact .of fun hs=>by obtain⟨e,he⟩:=D9 hs.1;exact(Xd hcall he hx hr).weak fun _=>hs.2
    ·rename_i hr;simp only[ah]at h;subst h;exact .of fun hs=>by obtain⟨e,he⟩:=D9 hs.1;exact(Xc hcall he hx hr).weak fun _=>hs.2
    ·simp at h
   ·rename_i hx;split at h
    ·rename_i hr;simp only[ah]at h;subst h;exact .of fun hs=>by
      unfold EX at hs;split at hs
      ·rename_i hu;exact(afR hcall hu hx hr).weak fun _=>trivial
      ·simp at hs
    ·simp at h
   ·rename_i hx;simp only[ah]at h;subst h;exact .of fun hs=>by
     unfold EX at hs;split at hs
     ·rename_i hu;exact(afS hcall hu hx).weak fun _=>trivial
     ·simp at hs
   ·simp at h
  ·rename_i x y sty ao5 hc ha ht;split at h
   ·rename_i he;subst he;have hcall:o.op = .call {callee:=.builtin .append,args:=#[x,y],argTypes:=#[sty,sty]}:=by
     rw[ho];congr 1
     obtain⟨c1,c2,c3⟩:=c;simp only[Call.mk.injEq];exact⟨hc,jr.1 ha,jr.1 ht⟩
    unfold Jz at h;split at h
    ·simp at h
    ·rename_i he;split at h
     ·rename_i hk hb hz;split at h
      ·rename_i hs;split at h
       ·rename_i hx;simp only[ah]at h;subst h;exact .of fun hC=>(Ob hcall hx (src_of hs hC.1.1) he hk hb hz hC.1.2.1 hC.1.2.2).weak fun _=>hC.2
       ·rename_i hx;split at h
        ·simp only[ah]at h;subst h;exact .of fun hC=>(Og hcall hx (src_of hs hC.1) he hk).weak fun _=>hC.2
        simp only[ah]at h;subst h;exact .of fun hC=>(QT hcall hx (src_of hs hC.1.1) he hk hb hz hC.1.2.1 hC.1.2.2).weak fun _=>hC.2
       ·rename_i hx;split at h
        ·rename_i ht;simp only[ah]at h;subst h;refine .of fun hC=>?_
         obtain⟨⟨h1,h2,h3,h4,h5⟩,h6⟩:=hC;subst h4;subst h5;exact(Oe hcall hx ht (src_of hs h1) he hk hb hz h2 h3).weak fun _=>h6
        ·rename_i ht;simp only[ah]at h;subst h;refine .of fun hC=>?_
         obtain⟨⟨h1,h2,h3,h4,h5⟩,h6⟩:=hC;subst h4;subst h5;exact(Oc hcall hx ht (src_of hs h1) he hk hb hz h2 h3).weak fun _=>h6
        ·simp at h
       ·simp at h
      ·simp at h
     ·simp at h
   ·simp at h
  ·rename_i x y hc ha;have hcall:o.op = .call {callee:=.builtin .min,args:=#[x,y],argTypes:=c.argTypes}:=by
    rw[ho];congr 1
    obtain⟨c1,c2,c3⟩:=c;simp only[Call.mk.injEq,and_true];exact⟨hc,jr.1 ha⟩
   unfold zL at h;split at h
   ·rename_i hx hy;simp only[ah]at h;subst h;exact ai4 hcall hx hy
   ·simp at h
  ·rename_i x y hc ha;have hcall:o.op = .call {callee:=.builtin .max,args:=#[x,y],argTypes:=c.argTypes}:=by
    rw[ho];congr 1
    obtain⟨c1,c2,c3⟩:=c;simp only[Call.mk.injEq,and_true];exact⟨hc,jr.1 ha⟩
   unfold zL at h;split at h
   ·rename_i hx hy;simp only[ah]at h;subst h;exact ai3 hcall hx hy
   ·simp at h
  ·rename_i x y ty kty hc ha ht;have hcall:o.op = .call {callee:=.builtin .delete,args:=#[x,y],argTypes:=#[ty,kty]}:=by
    rw[ho];congr 1
    obtain⟨c1,c2,c3⟩:=c;simp only[Call.mk.injEq];exact⟨hc,jr.1 ha,jr.1 ht⟩
   unfold JA at h;split at h
   ·rename_i hx;split at h
    ·rename_i hm;split at h
     ·rename_i hk;split at h
      ·rename_i he;simp only[ah]at h;subst h;exact W_ hcall he hx hm hk
      ·simp at h
     ·simp at h
    ·simp at h
   ·simp at h
  ·simp at h
 ·rename_i ho;unfold Fq at h;split at h
  ·split at h
   ·simp only[ah]at h;subst h;exact U3 ho
   ·simp only[ah]at h;subst h;exact Xi ho
  ·simp at h
 ·rename_i ho;unfold JC at h;split at h
  ·rename_i hx;split at h
   ·rename_i ht;split at h
    ·rename_i hi;split at h
     ·rename_i he;split at h
      ·rename_i hz;simp only[ah]at h;subst h;obtain⟨k,kd,h1,h2⟩:=X4 he;exact .of fun hC=>by subst hC;exact(ZL ho h1 h2 hz hx ht hi).weak fun _=>trivial
      ·simp at h
     ·simp at h
    ·simp at h
   ·rename_i ht;split at h
    ·rename_i hi;split at h
     ·rename_i he;split at h
      ·rename_i hz;simp only[ah]at h;subst h;exact Xf ho he hz hx ht hi
      ·simp at h
     ·simp at h
    ·simp at h
   ·simp at h
  ·rename_i hx;split at h
   ·rename_i hi;split at h
    ·rename_i he;split at h
     ·rename_i hz;simp only[ah]at h;subst h;exact Xh ho he hz hx hi
     ·simp at h
    ·simp at h
   ·simp at h
  ·rename_i hx;split at h
   ·rename_i hi;split at h
    ·rename_i he;split at h
     ·rename_i hz;simp only[ah]at h;subst h;exact Xg ho he hz hx hi
     ·simp at h
    ·simp at h
   ·simp at h
  ·simp at h
 ·rename_i ho;unfold Aw at h;split at h
  ·rename_i hx;split at h
   ·rename_i ht;split at h
    ·rename_i hi;split at h
     ·rename_i hy;split at h
      ·rename_i he;simp only[ah]at h;subst h;obtain⟨k,kd,h1,h2⟩:=X4 he;exact .of fun hC=>by subst hC;exact(QZ ho h1 h2 hx ht hi hy).weak fun _=>trivial
      ·simp at h
     ·simp at h
    ·simp at h
   ·rename_i ht;split at h
    ·rename_i hi;split at h
     ·rename_i he;simp only[ah]at h;subst h;exact CB (.inl ho) he hx ht hi rfl
     ·simp at h
    ·simp at h
   ·simp at h
  ·simp at h
 ·rename_i ho;unfold Au at h;split at h
  ·rename_i hl hc;split at h
   ·rename_i he;split at h
    ·rename_i hk hb hz;simp only[ah]at h;subst h;exact .of fun hC=>by obtain⟨⟨rfl,rfl,rfl⟩,hC'⟩:=hC;exact(QX ho he hk hb hz hl hc).weak fun _=>hC'
    ·simp at h
   ·simp at h
  ·simp at h
 ·rename_i ho;unfold JB at h;split at h
  ·rename_i hx;split at h
   ·rename_i ht;split at h
    ·rename_i hi;split at h
     ·rename_i he;simp only[ah]at h;subst h;exact CB (.inr ho) he hx ht hi rfl
     ·simp at h
    ·simp at h
   ·simp at h
  ·simp at h
 ·rename_i ho;unfold Cm at h;split at h
  ·rename_i hx;split at h
   ·rename_i ht;split at h
    ·rename_i hi;split at h
     ·rename_i he;split at h
      ·rename_i hz;simp only[ah]at h;subst h;exact QY ho he hz hx ht hi
      ·simp at h
     ·simp at h
    ·simp at h
   ·simp at h
  ·simp at h
 ·rename_i ho;unfold y9 at h;split at h
  ·rename_i hx;split at h
   ·rename_i ht;split at h
    ·rename_i hi;simp only[ah]at h;subst h;exact .of fun hC=>by obtain⟨rfl,hC'⟩:=hC;exact(Lu ho hx ht hi rfl).weak fun _=>hC'
    ·simp at h
   ·simp at h
  ·simp at h
 ·rename_i ho;unfold N7 at h;split at h
  ·rename_i hx;split at h
   ·rename_i hd;split at h
    ·rename_i hm;split at h
     ·rename_i hk;simp only[ah]at h;subst h;exact .of fun hC=>by obtain⟨rfl,rfl⟩:=hC;exact Sv ho hx hd (by rw[hm];exact⟨rfl,rfl⟩) hk
     ·simp at h
    ·rename_i hm;split at h
     ·rename_i hk;simp only[ah]at h;subst h;exact .of fun hC=>by obtain⟨rfl,rfl⟩:=hC;exact Sv ho hx hd (by rw[hm];exact⟨rfl,rfl⟩) hk
     ·simp at h
    ·simp at h
   ·simp at h
  ·simp at h
 trivial
end
end Go.Tr
