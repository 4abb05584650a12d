/-
  What functions of the program compute, stated as contracts over plain data; the conditions of each stand in its own statement.
-/
import Derived.Test.YtboimfkommpglaaGreatDoorZA00
import Derived.Deep.MidRow
set_option linter.unusedSimpArgs false
namespace Go.Tr
open Go
section
variable {P:Program} {A:eX}
theorem Yi{o:Oper}{t:S}{x:Operand}(ho:o.op = .move x∨o.op = .assign x):fG P A o t ⟨True,pl x,[],ev t x⟩:=
 .pure fun _ t' hr a E hi=>⟨a.eval x,by rcases ho with ho|ho<;>simp[execOp,ho],dB hr▸bM hi x⟩
theorem aez{o:Oper}{t:S}{c x y:Operand}{g:Bool}(ho:o.op = .pick c x y)(hg:ev t c = .d (.bool g)):
  fG P A o t ⟨True,pl c++(pl x++pl y),[],bif g then ev t x else ev t y⟩:=
 .pure fun _ t' hr a E hi=>by
  have hc:=bM hi c;rw[dB (aW hr),hg]at hc
  simp only[aA,Rep]at hc;have hx:=bM hi x;rw[dB (aW (aI hr))]at hx
  have hy:=bM hi y;rw[dB (aI (aI hr))]at hy
  cases g
  ·exact⟨a.eval y,by simp[execOp,ho,hc,asBool],hy⟩
  ·exact⟨a.eval x,by simp[execOp,ho,hc,asBool],hx⟩
theorem agN{o:Oper}{t:S}{op:BinOp}{ty ty':TypeId}{x y:Operand}{C:Prop}{v:TV}(ho:o.op = .binOp op ty x y ty')(h:ad7 P op ty (ev t x) (ev t y)=some (C,v)):
  fG P A o t ⟨C,pl x++pl y,[],v⟩:=
 .pure fun hC t' hr a E hi=>by
  have hx:=bM hi x;rw[dB (aW hr)]at hx
  have hy:=bM hi y;rw[dB (aI hr)]at hy
  obtain⟨r,h1,h2⟩:=agC h hC hx hy x y E.w;refine⟨r,?_,h2⟩;simp only[execOp,ho];rw[Sem.run_bind,h1];rfl
def unD(op:UnOp):TV→Option TV
 | .d (.int k n)=>match op with
   | .neg=>some (.d (.int k (k.wrap (0-n))))
   | .xor=>some (.d (.int k (akZ k n)))
   | _=>none
 | .d (.bool b)=>match op with
   | .not=>some (.d (.bool !b))
   | _=>none
 | _=>none
theorem aiD{o:Oper}{t:S}{op:UnOp}{ty:TypeId}{x:Operand}{v:TV}(ho:o.op = .unOp op ty x)(h:unD op (ev t x)=some v):fG P A o t ⟨True,pl x,[],v⟩:=
 .pure fun _ t' hr a E hi=>by
  have hx:=bM hi x;rw[dB hr]at hx
  revert hx h
  generalize ev t x=tx;intro h hx;unfold unD at h;split at h
  ·simp only[aA,Rep]at hx;split at h
   ·simp only[Option.some.injEq]at h;subst h;refine⟨_,?_,rfl⟩;simp[execOp,ho,hx,Op.unary,Op.intArith]
   ·simp only[Option.some.injEq]at h;subst h;refine⟨_,?_,rfl⟩;simp only[execOp,ho,hx,Op.unary,Op.intBits,Sem.run_bind,Sem.run_pure,Result.andThen_ok,akZ]
   trivial
  ·simp only[aA,Rep]at hx;split at h
   ·simp only[Option.some.injEq]at h;subst h;refine⟨_,?_,rfl⟩;simp[execOp,ho,hx,Op.unary]
   ·simp at h
  trivial
theorem aev{o:Oper}{t:S}{sr ds:TypeId}{x:Operand}{k k':IntKind}{n:Int}(ho:o.op = .convert sr ds x)(hs:(uJ P sr).isSome=true)(hd:knd P ds=some k')(hx:ev t x = .d (.int k n)):
  fG P A o t ⟨True,pl x,[],.d (.int k' (k'.wrap n))⟩:=
 .pure fun _ t' hr a E hi=>by
  have hx':=bM hi x;rw[dB hr,hx]at hx'
  simp only[aA,Rep]at hx';refine⟨_,?_,rfl⟩;unfold knd at hd;split at hd
  ·rename_i q hq;simp only[Option.some.injEq]at hd;subst hd;unfold uJ at hs;cases hu:P.underlying sr with
   | none=>simp[hu]at hs
   | some d=>
     simp only[execOp,ho,hx',convert,Sem.run_bind,run_underlying hu,run_underlying hq,Result.andThen_ok,Conv.intToInt,Sem.run_pure]
  trivial
theorem WQ{o:Oper}{t:S}{x:Operand}(ho:o.op = .nilCheck x)(h:(∃p off,ev t x = .ptr p off)∨(∃e off,ev t x = .ep e off)∨(∃f c,ev t x = .clo f c)):
  fG P A o t ⟨True,pl x,[],ev t x⟩:=
 .pure fun _ t' hr a E hi=>by
  have hx:=bM hi x;rw[dB hr]at hx
  refine⟨a.eval x,?_,hx⟩;rcases h with⟨p,off,h⟩|⟨e,off,h⟩|⟨f,c,h⟩<;>rw[h]at hx<;>simp only[aA]at hx
  ·obtain⟨b,_,hu⟩:=hx;simp[execOp,ho,hu]
  ·obtain⟨b,_,hu,_⟩:=hx;simp[execOp,ho,hu]
  ·obtain⟨us,hu,_⟩:=hx;simp[execOp,ho,hu]
theorem I9{s f:Nat}{off:Nat}{ft:TypeId}(hf:qL P s f=some (off,ft)){z:Nat}(hz:lQ P ft=some z)(hz0:z≠0)(b o:Nat)(w:World):
  (Instr.fieldAt s (.pointer (some ⟨b,o,none⟩)) f).run P w = .ok (.pointer (some ⟨b,o+off,none⟩)) w:=by
 unfold qL at hf;split at hf
 ·rename_i fs hfs;cases hff:fs[f]? with
  | none=>simp_all
  | some g=>
    simp only[hff,Option.map_some,Option.some.injEq,Prod.mk.injEq]at hf;obtain⟨rfl,rfl⟩:=hf;unfold lQ at hz;cases hi:P.info? g.type with
    | none=>simp_all
    | some i=>
      simp only[hi,Option.map_some,Option.some.injEq]at hz;simp[Instr.fieldAt,run_underlying hfs,hff,Instr.sureAddr,fieldPlace,sizeOf,typeInfo,hi,hz,hz0,nN]
 trivial
theorem JY{o:Oper}{t:S}{s f:Nat}{x:Operand}{off:Nat}{ft:TypeId}{z:Nat}{v:TV}(ho:o.op = .fieldAddr s x f)(hf:qL P s f=some (off,ft))(hz:lQ P ft=some z)(hz0:z≠0)
  (h:(∃p q,ev t x = .ptr p q∧v = .ptr p (q+off))∨(∃e q,ev t x = .ep e q∧v = .ep e (q+off))):fG P A o t ⟨True,pl x,[],v⟩:=
 .pure fun _ t' hr a E hi=>by
  have hx:=bM hi x;rw[dB hr]at hx
  rcases h with⟨p,q,h,rfl⟩|⟨e,q,h,rfl⟩<;>rw[h]at hx<;>simp only[aA]at hx
  ·obtain⟨b,hb,hu⟩:=hx;refine⟨.pointer (some ⟨b,q+off,none⟩),?_,?_⟩
   ·simp[execOp,ho,hu,I9 hf hz hz0]
   ·simp only[aA];simp[*]
  ·obtain⟨b,p,hu,hc⟩:=hx;refine⟨.pointer (some ⟨b,p+q+off,none⟩),?_,?_⟩
   ·simp[execOp,ho,hu,I9 hf hz hz0]
   grind[aA]
theorem Ec{t:S}{a:Act}{E:En}(hi:dL A t a E){id k:Nat}{e:TypeId}{es:List (List TV)}{sh:Bool}(ht:t (.o id) = .row e k es sh):
  E.blk (.o id)=none∧∃v us,E.val id=some (k,es.length,v)∧E.w.ownsRow 0 e k v es.length us∧dK E us k 0 es∧(∀u,aA E (.aB id es.length) u→u=v):=by
 have:=hi.h.item (.o id) (by simp);rw[ht]at this
 obtain⟨h0,id',v,us,hid,h1,h2,h3⟩:=this;simp only[Pl.o.injEq]at hid;subst hid;refine⟨h0,v,us,h1,h2,h3,fun u hu=>?_⟩;simp only[aA]at hu
 grind
theorem LU{t:S}{a:Act}{E:En}(hi:dL A t a E){id k i off:Nat}{e:TypeId}{es:List (List TV)}{sh:Bool}(ht:t (.o id) = .row e k es sh){u:Value}
  (hu:aA E (.rQ id es.length i off) u):∃g cap us,E.val id=some (k,es.length,.slice (some ⟨g,0,none⟩) es.length cap)∧u = .pointer (some ⟨g,i*k+off,none⟩)∧
   E.w.ownsRow 0 e k (.slice (some ⟨g,0,none⟩) es.length cap) es.length us∧dK E us k 0 es:=by
 obtain⟨_,v,us,h1,h2,h3,_⟩:=Ec hi ht;obtain⟨_,k',c,v',hv,_,he⟩:=hu;rw[h1]at hv
 obtain⟨rfl,rfl,rfl⟩:=hv;rcases h2.2 with⟨h4,_⟩|⟨g,cap,cur,h4,rest⟩
 ·simp_all
 grind
theorem Yj{o:Oper}{t:S}{x:Operand}{id n i q k:Nat}{e:TypeId}{es:List (List TV)}{sh:Bool}(ho:o.op = .nilCheck x)(hx:ev t x = .rQ id n i q)(ht:t (.o id) = .row e k es sh):
  fG P A o t ⟨n=es.length,pl x++[.o id],[],.rQ id n i q⟩:=.pure fun hn t' hr a E hi=>by
 have hu:=bM hi x;rw[dB (aW hr),hx]at hu
 have ht':t' (.o id) = .row e k es sh:=(aI hr _ (by simp)).trans ht;subst hn;obtain⟨g,cap,us,_,hu',_⟩:=LU hi ht' hu;exact⟨a.eval x,by simp[execOp,ho,hu'],hu⟩
theorem LG{o:Oper}{t:S}{s f:Nat}{x:Operand}{off:Nat}{ft:TypeId}{z:Nat}{id n i q k:Nat}{e:TypeId}{es:List (List TV)}{sh:Bool}
  (ho:o.op = .fieldAddr s x f) (hf:qL P s f=some (off,ft)) (hz:lQ P ft=some z) (hz0:z≠0)
  (h:ev t x = .rQ id n i q) (ht:t (.o id) = .row e k es sh):fG P A o t ⟨n=es.length,pl x++[.o id],[],.rQ id n i (q+off)⟩:=
 .pure fun hC t' hr a E hi=>by
  have hx:=bM hi x;rw[dB (aW hr),h]at hx
  have ht':t' (.o id) = .row e k es sh:=by simp[*]
  subst hC;obtain⟨g,cap,us,h1,rfl',h2,h3⟩:=LU hi ht' hx;refine⟨.pointer (some ⟨g,i*k+q+off,none⟩),?_,?_⟩
  ·simp[execOp,ho,rfl',I9 hf hz hz0]
  ·exact⟨rfl,k,_,_,h1,Nat.le_refl _,fun _=>⟨g,0,cap,rfl,by grind⟩⟩
theorem Du{ty e k:Nat}(he:uY P ty=some e)(hk:lQ P e=some k)(a:Addr)(len cap:Nat)(ik:IntKind)(i:Int)(h0:0≤i)(h1:i<len)(w:World):
  (Instr.indexAt ty (.slice (some a) len cap) (.int ik i)).run P w = .ok (.pointer (some (a.add (i.toNat*k)))) w:=by
 unfold uY at he;split at he
 ·rename_i e' hu;simp only[Option.some.injEq]at he;subst he;unfold lQ at hk;cases hi:P.info? e' with
  | none=>simp[hi]at hk
  | some inf=>
    simp only[hi,Option.map_some,Option.some.injEq]at hk;simp[Instr.indexAt,run_underlying hu,asIntOf,h0,h1,sizeOf,typeInfo,hi,hk]
 trivial
theorem UC{o:Oper}{t:S}{ty:TypeId}{x ix:Operand}{e k:Nat}{xs:List (List D)}{ik:IntKind}{i:Int}(ho:o.op = .indexAddr ty x ix)(he:uY P ty=some e)(hk:lQ P e=some k)
  (hx:ev t x = .d (.sl xs)) (hix:ev t ix = .d (.int ik i)) :
  fG P A o t ⟨0≤i∧i<xs.length∧(xs.getD i.toNat []).length=k,pl x++pl ix,[],.ep (xs.getD i.toNat []) 0⟩:=
 .pure fun⟨h0,h1,h2⟩ t' hr a E hi=>by
  have hx':=bM hi x;rw[dB (aW hr),hx]at hx'
  have hix':=bM hi ix;rw[dB (aI hr),hix]at hix'
  simp only[aA,Rep]at hx' hix';have hlt:i.toNat<xs.length:=by omega
  have hg:xs[i.toNat]? = some (xs.getD i.toNat []):=by simp[*]
  rcases hx' with⟨h3,_⟩|⟨b,of,c,k',hu,hc,hrows⟩
  ·omega
  ·obtain⟨h4,h5⟩:=hrows.get hg;have hkk:k'=k:=by omega
   subst hkk;refine⟨.pointer (some ⟨b,of+i.toNat*k',none⟩),?_,?_⟩
   ·simp[execOp,ho,hu,hix',Du he hk _ _ _ _ _ h0 h1,nN]
   grind[aA]
theorem LK{o:Oper}{t:S}{ty:TypeId}{x ix:Operand}{e k id n:Nat}{e':TypeId}{es:List (List TV)}{sh:Bool}{ik:IntKind}{i:Int}(ho:o.op = .indexAddr ty x ix)(he:uY P ty=some e)(hk:lQ P e=some k)
  (hx:ev t x = .aB id n) (hix:ev t ix = .d (.int ik i)) (ht:t (.o id) = .row e' k es sh) :
  fG P A o t ⟨n=es.length∧0≤i∧i<es.length,pl x++(pl ix++[.o id]),[],.rQ id n i.toNat 0⟩:=
 .pure fun⟨hn,h0,h1⟩ t' hr a E hi=>by
  have hx':=bM hi x;rw[dB (aW hr),hx]at hx'
  have hix':=bM hi ix;rw[dB (aW (aI hr)),hix]at hix'
  simp only[aA,Rep]at hix';subst hn;have ht':t' (.o id) = .row e' k es sh:=by simp[*]
  obtain⟨_,v,us,h2,h3,h4,h5⟩:=Ec hi ht';have hu:=h5 _ hx';rcases h3.2 with⟨_,h6⟩|⟨g,cap,cur,h6,_⟩
  ·omega
  ·subst h6;refine⟨.pointer (some ⟨g,i.toNat*k,none⟩),?_,?_⟩
   ·simp[execOp,ho,hu,hix',Du he hk _ _ _ _ _ h0 h1,nN]
   ·exact⟨rfl,k,_,_,h2,Nat.le_refl _,fun _=>⟨g,0,cap,rfl,by simp⟩⟩
theorem LH{o:Oper}{t:S}{ty:TypeId}{x ix:Operand}{n e k:Nat}{p:Pl}{q:Nat}{ik:IntKind}{i:Int}(ho:o.op = .indexAddr ty x ix)(he:kN P ty=some (n,e))(hk:lQ P e=some k)
  (hx:ev t x = .ptr p q) (hix:ev t ix = .d (.int ik i)):fG P A o t ⟨0≤i∧i<n,pl x++pl ix,[],.ptr p (q+i.toNat*k)⟩:=
 .pure fun⟨h0,h1⟩ t' hr a E hi=>by
  have hx':=bM hi x;rw[dB (aW hr),hx]at hx'
  have hix':=bM hi ix;rw[dB (aI hr),hix]at hix'
  simp only[aA,Rep]at hx' hix';obtain⟨b,hb,hu⟩:=hx';unfold kN at he;split at he
  ·rename_i n' e' hun;simp only[Option.some.injEq,Prod.mk.injEq]at he;obtain⟨rfl,rfl⟩:=he;unfold lQ at hk;cases iQ:P.info? e' with
   | none=>simp_all
   | some inf=>
     simp only[iQ,Option.map_some,Option.some.injEq]at hk;refine⟨.pointer (some ⟨b,q+i.toNat*k,none⟩),?_,?_⟩
     ·simp[execOp,ho,hu,hix',Instr.indexAt,run_underlying hun,asIntOf,Instr.sureAddr,h0,h1,sizeOf,typeInfo,iQ,hk,nN]
     ·simp only[aA];simp[*]
  trivial
theorem Oq{o:Oper}{t:S}{ty:TypeId}{x ix:Operand}{n e k:Nat}{ds:List D}{q:Nat}{ik:IntKind}{i:Int}(ho:o.op = .indexAddr ty x ix)(he:kN P ty=some (n,e))(hk:lQ P e=some k)
  (hx:ev t x = .ep ds q) (hix:ev t ix = .d (.int ik i)):fG P A o t ⟨0≤i∧i<n,pl x++pl ix,[],.ep ds (q+i.toNat*k)⟩:=
 .pure fun⟨h0,h1⟩ t' hr a E hi=>by
  have hx':=bM hi x;rw[dB (aW hr),hx]at hx'
  have hix':=bM hi ix;rw[dB (aI hr),hix]at hix'
  simp only[aA,Rep]at hx' hix';obtain⟨b,o',hu,hc⟩:=hx';unfold kN at he;split at he
  ·rename_i n' e' hun;simp only[Option.some.injEq,Prod.mk.injEq]at he;obtain⟨rfl,rfl⟩:=he;unfold lQ at hk;cases iQ:P.info? e' with
   | none=>simp_all
   | some inf=>
     simp only[iQ,Option.map_some,Option.some.injEq]at hk;refine⟨.pointer (some ⟨b,o'+q+i.toNat*k,none⟩),?_,?_⟩
     ·simp[execOp,ho,hu,hix',Instr.indexAt,run_underlying hun,asIntOf,Instr.sureAddr,h0,h1,sizeOf,typeInfo,iQ,hk,nN]
     grind[aA]
  trivial
theorem Ya{o:Oper}{t:S}{x:Operand}{i:Nat}{vs:List TV}{v:TV}(ho:o.op = .extract x i)(hx:ev t x = .rG vs)(hv:vs[i]? = some v):fG P A o t ⟨True,pl x,[],v⟩:=
 .pure fun _ t' hr a E hi=>by
  have hx':=bM hi x;rw[dB hr,hx]at hx'
  simp only[aA]at hx';obtain⟨us,hu,hs⟩:=hx';obtain⟨u,h1,h2⟩:=hs.get hv;have h1':us[i]? = some u:=by simp_all
  exact⟨u,by simp[execOp,ho,hu,Instr.extract,h1'],h2⟩
theorem Ac{t:S}{a:Act}{E:En}(hi:dL A t a E):∀xs:List Operand,aP E (xs.map (ev t)) (xs.map a.eval)
 | []=>by rfl
 | x::xs=>by exact⟨_,_,rfl,bM hi x,Ac hi xs⟩
theorem Kz{t t':S}:∀{xs:List Operand},(∀p∈xs.flatMap pl,t' p=t p)→xs.map (ev t')=xs.map (ev t)
 | [],_=>rfl
 | x::xs,h=>by
   simp only[List.map_cons];rw[dB (fun p hp=>h p (by simp[*])),Kz (fun p hp=>h p (by simp[*]))]
theorem WM{o:Oper}{t:S}{f:FuncId}{caps:List Operand}(ho:o.op = .makeFunc (.func f) #[] caps.toArray):fG P A o t ⟨True,caps.flatMap pl,[],.clo f (caps.map (ev t))⟩:=
 .pure fun _ t' hr a E hi=>by
  have h:=Ac hi caps;rw[Kz hr]at h
  refine⟨.func (.func f) #[] (caps.map a.eval).toArray,by simp[execOp,ho,Instr.makeFunc],?_⟩;simp only[aA];simp[*]
end
end Go.Tr

namespace Go.Tr
open Go
section
variable {P:Program} {A:eX}
theorem zi{ty:TypeId}(h:uJ P ty=some false){a:Addr}{u:Value}{w:World}(hc:w.cell? a=some u):(loadVar ty a).run P w = .ok u w:=by
 unfold uJ at h;cases hu:P.underlying ty with
 | none=>simp_all
 | some d=>
   have:(isAgg ty).run P w = .ok false w:=by
    unfold isAgg;rw[Sem.run_bind,run_underlying hu w];cases d<;>simp_all
   simp[loadVar,this,hc]
theorem zh{ty z:Nat}(h:uJ P ty=some true)(hz:lQ P ty=some z){b o:Nat}{cs:List Value}(hl:cs.length=z){w:World}(hc:w.rangeAt b o cs):
  (loadVar ty ⟨b,o,none⟩).run P w = .ok (.agg cs.toArray) w:=by
 unfold uJ at h;cases hu:P.underlying ty with
 | none=>simp_all
 | some d=>
   refine run_loadVar_mid w b o ty cs d hc hu ?_ ?_
   ·cases d<;>simp_all
   ·subst hl;trivial
theorem bQ.range{E:En}{b o:Nat}{xs:List D}(h:bQ E b o xs):∃us:List Value,us.length=xs.length∧E.w.rangeAt b o us∧aP E (xs.map .d) us:=by
 induction xs generalizing o with
 | nil=>exact⟨[],rfl,fun j v hv=>by trivial,by rfl⟩
 | cons x xs ih=>
   obtain⟨⟨_,u,hu,hr⟩,h2⟩:=h;obtain⟨us,h3,h4,h5⟩:=ih h2;refine⟨u::us,by simp[*],fun j v hv=>?_,?_⟩
   ·cases j with
    | zero=>simp_all
    | succ j=>
      have:=h4 j v (by trivial)
      grind
   ·simp only[List.map_cons,aP,aA]
    grind
theorem bQ.sub{E:En}{b o:Nat}{xs:List D}(h:bQ E b o xs)(q z:Nat):bQ E b (o+q) ((xs.drop q).take z):=
 bQ.fZ fun i x hx=>by
  have hx':xs[q+i]? = some x:=by grind
  have:=h.get hx'
  grind
theorem bG.sub{E:En}{us:List Value}{o:Nat}{ts:List TV}(h:bG E us o ts)(q z:Nat):bG E us (o+q) ((ts.drop q).take z):=
 bG.fZ fun i x hx=>by
  have hx':ts[q+i]? = some x:=by grind
  have:=h.get hx'
  grind
theorem bG.vals{E:En}{us:List Value}{o:Nat}{ts:List TV}(h:bG E us o ts):aP E ts ((us.drop o).take ts.length)∧((us.drop o).take ts.length).length=ts.length:=by
 have hl:((us.drop o).take ts.length).length=ts.length:=by
  cases ts with
  | nil=>simp
  | cons t ts=>
    have:=h.get (i:=ts.length) (t:=(t::ts)[ts.length]) (by simp)
    grind
 refine⟨aP.fZ hl fun i t u ht hu=>?_,hl⟩;obtain⟨u',h1,_,h2⟩:=h.get ht
 grind
theorem GR{w:World}{b:Nat}{us:List Value}(h:∀j u,us[j]? = some u→w.cell? ⟨b,j,none⟩ = some u)(o n:Nat):w.rangeAt b o ((us.drop o).take n):=fun j v hv=>by
 grind
theorem Wq{t:S}{a:Act}{E:En}(hi:dL A t a E){p:Pl}{cs:List TV}(ht:t p = .box cs){q:Nat}{u:Value}(hu:aA E (.ptr p q) u):
  ∃b ty us,u = .pointer (some ⟨b,q,none⟩)∧E.blk p=some b∧E.w.heap[b]? = some (.cells us ty (0,0))∧us.size=cs.length∧bG E us.toList 0 cs:=by
 obtain⟨b,hb,hu⟩:=hu;have hp:∀k,p≠.s k:=by
  rintro k rfl;rw[hi.h.frees k]at hb;trivial
 have:=hi.h.item p hp;rw[ht]at this
 obtain⟨_,b',ty,us,h1,h2,h3,h4⟩:=this
 grind
theorem BJ{w:World}{b:Nat}{us:Array Value}{ty:TypeId}{f:Nat×Nat}(h:w.heap[b]? = some (.cells us ty f))(j:Nat):w.cell? ⟨b,j,none⟩ = us[j]? :=by
 grind[World.cell?]
theorem LM{o:Oper}{t:S}{ty:TypeId}{x:Operand}{p:Pl}{q:Nat}{cs:List TV}{v:TV}(ho:o.op = .load ty x)(hx:ev t x = .ptr p q)(ht:t p = .box cs)
  (h:(uJ P ty=some false∧cs[q]? = some v)∨(∃z,uJ P ty=some true∧lQ P ty=some z∧q+z≤cs.length∧v = .agg ((cs.drop q).take z))) :
  fG P A o t ⟨True,pl x++[p],[],v⟩:=
 .pure fun _ t' hr a E hi=>by
  have hx':=bM hi x;rw[dB (aW hr),hx]at hx'
  have ht':t' p = .box cs:=(aI hr _ (by simp)).trans ht;obtain⟨b,ty',us,hu,hb,hh,hs,hc⟩:=Wq hi ht' hx';rcases h with⟨h1,h2⟩|⟨z,h1,h2,h3,rfl⟩
  ·obtain⟨u,h4,h5,h6⟩:=hc.get h2;refine⟨u,?_,h6⟩;have hcell:E.w.cell? ⟨b,q,none⟩ = some u:=by grind[BJ]
   simp[execOp,ho,hu,Instr.loadAt,Instr.sureAddr,zi h1 hcell]
  ·have hc':=(hc.sub q z).vals;simp only[Nat.zero_add]at hc';have hl:((cs.drop q).take z).length=z:=by simp;omega
   rw[hl]at hc'
   refine⟨.agg ((us.toList.drop q).take z).toArray,?_,?_⟩
   ·have:=zh h1 h2 hc'.2 (w:=E.w) (GR (b:=b) (fun j u hj=>by rw[BJ hh];simpa using hj) q z);simp only[execOp,ho,hu,Instr.loadAt,Instr.sureAddr,Sem.run_bind,Sem.run_pure,Result.andThen_ok,this]
   ·simp only[aA];exact⟨_,rfl,hc'.1⟩
theorem Pm{o:Oper}{t:S}{ty:TypeId}{x:Operand}{e:List D}{q:Nat}{v:TV}(ho:o.op = .load ty x)(hx:ev t x = .ep e q)
  (h:(uJ P ty=some false∧∃y,e[q]? = some y∧v = .d y)∨(∃z,uJ P ty=some true∧lQ P ty=some z∧q+z≤e.length∧v = .agg (((e.drop q).take z).map .d))) :
  fG P A o t ⟨True,pl x,[],v⟩:=
 .pure fun _ t' hr a E hi=>by
  have hx':=bM hi x;rw[dB hr,hx]at hx'
  simp only[aA]at hx';obtain⟨b,of,hu,hc⟩:=hx';rcases h with⟨h1,y,h2,rfl⟩|⟨z,h1,h2,h3,rfl⟩
  ·obtain⟨_,u,h4,h5⟩:=hc.get h2;refine⟨u,?_,?_⟩
   ·simp[execOp,ho,hu,Instr.loadAt,Instr.sureAddr,zi h1 h4]
   trivial
  ·obtain⟨us,h4,h5,h6⟩:=(hc.sub q z).range;have hl:us.length=z:=by grind
   refine⟨.agg us.toArray,?_,?_⟩
   ·grind[execOp,Instr.loadAt,Instr.sureAddr,Sem.run_bind,Sem.run_pure,Result.andThen_ok,zh]
   ·simp only[aA];exact⟨_,rfl,h6⟩
theorem LQ{o:Oper}{t:S}{ty:TypeId}{x:Operand}{id n i q k:Nat}{e:TypeId}{es:List (List TV)}{sh:Bool}{v:TV}(ho:o.op = .load ty x)(hx:ev t x = .rQ id n i q)(ht:t (.o id) = .row e k es sh)
  (h:(uJ P ty=some false∧(es.getD i [])[q]? = some v)∨(∃z,uJ P ty=some true∧lQ P ty=some z∧q+z≤(es.getD i []).length∧v = .agg (((es.getD i []).drop q).take z))) :
  fG P A o t ⟨n=es.length∧i<es.length,pl x++[.o id],[],v⟩:=
 .pure fun⟨hn,hil⟩ t' hr a E hi=>by
  have hx':=bM hi x;rw[dB (aW hr),hx]at hx'
  have ht':t' (.o id) = .row e k es sh:=(aI hr _ (by simp)).trans ht;subst hn;obtain⟨g,cap,us,h1,hu,h2,h3⟩:=LU hi ht' hx';have hg:es[i]? = some (es.getD i []):=by simp[*]
  obtain⟨h4,h5⟩:=h3.get hg;simp only[Nat.zero_add]at h5;have hcell:∀j u,us[j]? = some u→E.w.cell? ⟨g,j,none⟩ = some u:=fun j u hj=>by
   rw[h2.cellAt j (by rw[←h2.1];grind)];omega
  rcases h with⟨h6,h7⟩|⟨z,h6,h7,h8,rfl⟩
  ·obtain⟨u,h8,h9,h10⟩:=h5.get h7;refine⟨u,?_,h10⟩;simp[execOp,ho,hu,Instr.loadAt,Instr.sureAddr,zi h6 (hcell _ _ h8)]
  ·have hc':=(h5.sub q z).vals;have hl:(((es.getD i []).drop q).take z).length=z:=by grind
   rw[hl]at hc'
   refine⟨.agg ((us.drop (i*k+q)).take z).toArray,?_,?_⟩
   ·simp only[execOp,ho,hu,Instr.loadAt,Instr.sureAddr,Sem.run_bind,Sem.run_pure,Result.andThen_ok,zh h6 h7 hc'.2 (GR hcell _ z)]
   ·simp only[aA];exact⟨_,rfl,hc'.1⟩
theorem ZV{o:Oper}{t:S}{x:Operand}{ty e:TypeId}{xs:List (List D)}(ho:o.op = .call {callee:=.builtin .len,args:=#[x],argTypes:=#[ty]})(he:uY P ty=some e)(hx:ev t x = .d (.sl xs)):
  fG P A o t ⟨True,pl x,[],.d (.int .i64 xs.length)⟩:=
 .pure fun _ t' hr a E hi=>by
  have hx':=bM hi x;rw[dB hr,hx]at hx'
  simp only[aA,Rep]at hx';unfold uY at he;split at he
  ·rename_i e' hu;have hlen:∃ad c,a.eval x = .slice ad xs.length c:=by grind
   obtain⟨ad,c,h⟩:=hlen;refine⟨_,?_,rfl⟩;simp[execOp,ho,resolve,invoke,builtin,h,Builtin.len_,run_underlying hu,goInt]
  trivial
theorem Yb{o:Oper}{t:S}{x:Operand}{ty e:TypeId}{ad:Option Addr}{n c:Nat}(ho:o.op = .call {callee:=.builtin .len,args:=#[x],argTypes:=#[ty]})(he:uY P ty=some e)(hx:ev t x = .c (.slice ad n c)):
  fG P A o t ⟨True,pl x,[],.d (.int .i64 n)⟩:=
 .pure fun _ t' hr a E hi=>by
  have hx':=bM hi x;rw[dB hr,hx]at hx'
  simp only[aA]at hx';unfold uY at he;split at he
  ·rename_i e' hu;refine⟨_,?_,rfl⟩;simp[execOp,ho,resolve,invoke,builtin,hx',Builtin.len_,run_underlying hu,goInt]
  trivial
theorem Yd{o:Oper}{t:S}{x:Operand}{ty e:TypeId}{id n k:Nat}{e':TypeId}{es:List (List TV)}{sh:Bool}(ho:o.op = .call {callee:=.builtin .len,args:=#[x],argTypes:=#[ty]})(he:uY P ty=some e)(hx:ev t x = .aB id n)
  (ht:t (.o id) = .row e' k es sh):fG P A o t ⟨n=es.length,pl x++[.o id],[],.d (.int .i64 n)⟩:=
 .pure fun hC t' hr a E hi=>by
  have hx':=bM hi x;rw[dB (aW hr),hx]at hx'
  have ht':t' (.o id) = .row e' k es sh:=by simp[*]
  subst hC;obtain⟨_,v,us,h2,h3,h4,h5⟩:=Ec hi ht';have hv:=h5 _ hx';unfold uY at he;split at he
  ·rename_i e' hu;have hlen:∃ad c,a.eval x = .slice ad es.length c:=by
    rcases h3.2 with⟨rfl,h0⟩|⟨g,cap,cur,rfl,_⟩
    ·simp[*]
    simp[*]
   obtain⟨ad,c,h⟩:=hlen;refine⟨_,?_,rfl⟩;simp[execOp,ho,resolve,invoke,builtin,h,Builtin.len_,run_underlying hu,goInt]
  trivial
theorem Ye{o:Oper}{t:S}{x:Operand}{ty:TypeId}{s:ByteArray}(ho:o.op = .call {callee:=.builtin .len,args:=#[x],argTypes:=#[ty]})(he:isStr P ty=true)(hx:ev t x = .d (.str s)):
  fG P A o t ⟨True,pl x,[],.d (.int .i64 s.size)⟩:=
 .pure fun _ t' hr a E hi=>by
  have hx':=bM hi x;rw[dB hr,hx]at hx'
  simp only[aA,Rep]at hx';unfold isStr at he;split at he
  ·rename_i hu;refine⟨_,?_,rfl⟩;simp[execOp,ho,resolve,invoke,builtin,hx',Builtin.len_,run_underlying hu,goInt]
  trivial
end
end Go.Tr

namespace Go.Tr
open Go
section
variable {P:Program} {A:eX}
theorem Fr.next{E0 E E':En}(f:Fr E0 E)(os:E'.w.os=E.w.os)(tape:E'.w.tape=E.w.tape)(output:E'.w.output=E.w.output)(size:E.w.heap.size≤E'.w.heap.size)
  (old:∀b,b<E0.w.heap.size→(∀i,E0.blk (.x i)≠some b)→(∀j,E0.own (.o j)≠some b)→E'.w.heap[b]? = E.w.heap[b]?) (xb:∀i,E'.blk (.x i)=E.blk (.x i))
  (new:∀id b,E'.own (.o id)=some b→E.own (.o id)=some b∨E.w.heap.size≤b) (st:∀b o,E.St b o→E'.St b o)
  (xg:∀b o,E'.St b o→E.St b o∨(E0.w.heap.size≤b∨∃j,E0.own (.o j)=some b)):Fr E0 E':=
 ⟨os.trans f.os,tape.trans f.tape,output.trans f.output,Nat.le_trans f.size size,fun b h1 h2 h3=>(old b h1 h2 h3).trans (f.old b h1 h2 h3),fun i=>(xb i).trans (f.xb i),
  fun id b h=>(new id b h).elim (f.new id b) (fun h=>.inl (Nat.le_trans f.size h)),fun b o h=>st b o (f.st b o h),fun b o h=>(xg b o h).elim (f.xg b o) .inr⟩
theorem dL.step{t t':S}{a:Act}{E E':En}(h:dL A t a E)(hH:jQ E' t')(x:qN E E')(fr:Fr A.E0 E')(hs:∀k,t' (.s k)=t (.s k)):dL A t' a E':=
 ⟨hH,fr,fun k tv hk=>by
  obtain⟨u,h1,h2⟩:=h.sl k tv (by simp_all);exact⟨u,h1,h2.up x⟩,h.defers,h.size⟩
theorem FT{t:S}{p:Pl}{i:It}(hp:∀k,p≠.s k)(k:Nat):upd t p i (.s k)=t (.s k):=by
 rw[upd,if_neg (fun e=>hp k e.symm)]
theorem dL.put{t:S}{a:Act}{E:En}(h:dL A t a E){d:Nat}(hd:d<A.N){tv:TV}{u:Value}(hr:aA E tv u):dL A (upd t (.s d) (.v tv)) (a.put (some d) u) E:=by
 have hsz:=h.size;refine⟨h.h.slot d _,h.fr,fun k tv' hk=>?_,h.defers,by grind[Act.put]⟩;by_cases e:k=d
 ·simp only[upd,if_true,It.v.injEq]at hk
  grind[Act.put]
 ·simp only[upd,Pl.s.injEq,e,if_false]at hk;obtain⟨u',h1,h2⟩:=h.sl k tv' hk
  grind[Act.put]
theorem upd_same(t:S)(p:Pl)(i:It):upd t p i p=i:=by simp[upd]
theorem dL.aaK{t:S}{a:Act}{E:En}(h:dL A t a E){d:Nat}(hd:t (.o d) = .none){us:Array Value}{cs:List TV}(hs:us.size=cs.length)(hc:bG E us.toList 0 cs)(ty:TypeId):
  ∃E':En,E'.w=E.w.alloc (.cells us ty)∧dL A (upd t (.o d) (.box cs)) a E'∧aA E' (.ptr (.o d) 0) (.pointer (some ⟨E.w.heap.size,0,none⟩)):=by
 have hfree:=h.h.item (.o d) (by simp);rw[hd]at hfree
 obtain⟨hb0,hv0⟩:=hfree d rfl
 let E':En:={w:=E.w.alloc (.cells us ty),St:=E.St,blk:=fun p=>if p = .o d then some E.w.heap.size else E.blk p,val:=E.val}
 have hold:∀b,b<E.w.heap.size→E'.w.heap[b]? = E.w.heap[b]? :=by grind[heap_alloc_old]
 have x:qN E E':=by
  refine⟨fun _ _ h=>h,fun b o hst=>fC (hold b (h.h.oQ b o hst)),fun id b _ he=>?_,fun i b he=>by trivial,fun i b he=>by trivial,fun _ _ c v _ hv=>⟨c,v,hv,Nat.le_refl _,fun _=>rfl⟩⟩
  grind
 have hown:E'.own (.o d)=some E.w.heap.size:=by grind[En.own]
 have RV:∀q,q≠.o d→E'.own q=E.own q:=fun q hq=>En.lU (by grind) (fun _ _=>rfl)
 have hH:jQ E' (upd t (.o d) (.box cs)):=by
  refine h.h.change (by simp) x (fun b o hst=>.inl hst) (fun q hq=>by grind) (fun id hid=>rfl) (by grind) (fun q b hq hb=>hold b (h.h.size q b hb)) (fun b hb=>?_) ?_ (fun b o hst hb=>?_)
  ·rw[hown]at hb;simp at hb;subst hb;exact⟨by simp[E'],.inr (Nat.le_refl _)⟩
  ·refine⟨fun id hid=>?_,E.w.heap.size,ty,us,by grind,heap_alloc_new E.w _,hs,hc.up x⟩
   grind
  ·rw[hown]at hb;simp at hb;subst hb
   exact absurd (h.h.oQ _ _ hst) (by omega)
 refine⟨E',rfl,h.step hH x (h.fr.next rfl rfl rfl (by grind) (fun b hb _ _=>hold b (Nat.lt_of_lt_of_le hb h.fr.size)) (fun i=>by rfl) (fun id b hb=>?_) (fun _ _ h=>h) (fun _ _ h=>.inl h)) (fun k=>FT (by simp) k),?_⟩
 ·grind
 ·simp only[aA];grind
theorem Wu(E:En)(us:List Value)(h:us.all (·.oneCell')=true):bG E us 0 (us.map lu):=
 (Az E us).cells (fun t ht=>by
  obtain⟨v,hv,rfl⟩:=List.mem_map.1 ht;have:=List.all_eq_true.1 h v hv;unfold lu;split<;>first|rfl|trivial)
def lH:Value→List Value
 | .agg cs=>cs.toList
 | v=>[v]
theorem tu(v:Value):lH v=v.cells.toList:=by cases v<;>rfl
theorem acO{o:Oper}{t:S}{ty d:Nat}{z:Value}(ho:o.op = .alloc ty)(hz:tC P ty=some z)(h1:(lH z).all (·.oneCell')=true):
  fG P A o t ⟨t (.o d) = .none,[.o d],[(.o d,.box ((lH z).map lu))],.ptr (.o d) 0⟩:=fun hC t' hr a E hi=>by
 have ht':t' (.o d) = .none:=(hr _ (by simp)).trans hC;rw[tu]at h1
 obtain⟨E',hw,hinv,hrel⟩:=hi.aaK ht' (us:=z.cells) (cs:=(lH z).map lu) (by simp[tu]) (by grind[tu,Wu]) ty;refine⟨_,_,E',?_,.inl rfl,hinv,hrel⟩;unfold tC at hz;cases iQ:P.info? ty with
 | none=>simp_all
 | some inf=>
   simp only[iQ,Option.bind_some]at hz;simp[execOp,ho,Instr.alloc,zeroValue,typeInfo,iQ,hz,newVar,newRow,hw]
theorem Js{E:En}:∀{v:TV} {u:Value},aA E v u→(∀c∈v.cells,c.one=true)→u.cells.size=v.cells.length∧bG E u.cells.toList 0 v.cells:=by
 intro v u hr h1;have single:v.cells = [v]→u.cells.size=v.cells.length∧bG E u.cells.toList 0 v.cells:=by
  intro hv;rw[hv]at h1⊢
  have ho:=hr.one (h1 v (by simp));have hu:u.cells = #[u]:=by cases u<;>first|rfl|trivial
  rw[hu];exact⟨rfl,⟨u,rfl,ho,hr⟩,trivial⟩
 cases v with
 | agg vs=>
   obtain⟨us,rfl,hs⟩:=hr;exact⟨by simpa[Value.cells,TV.cells]using hs.length,hs.cells h1⟩
 | _=>exact single rfl
theorem agO{o:Oper}{t:S}{ty d:Nat}{x:Operand}(ho:o.op = .box ty x):
  fG P A o t ⟨t (.o d) = .none∧∀c∈(ev t x).cells,c.one=true,pl x++[.o d],[(.o d,.box (ev t x).cells)],.ptr (.o d) 0⟩:=fun⟨hC,h1⟩ t' hr a E hi=>by
 have hx:=bM hi x;rw[dB (aW hr)]at hx
 have ht':t' (.o d) = .none:=by simp[*]
 obtain⟨hs,hc⟩:=Js hx h1;obtain⟨E',hw,hinv,hrel⟩:=hi.aaK ht' hs hc ty;refine⟨_,_,E',?_,.inl rfl,hinv,hrel⟩;simp[execOp,ho,Instr.box,newVar,newRow,hw]
def setAt(cs:List TV)(q:Nat)(vs:List TV):List TV:=cs.take q++(vs++cs.drop (q+vs.length))
theorem G6{cs vs:List TV}{q:Nat}(h:q+vs.length≤cs.length):(setAt cs q vs).length=cs.length:=by
 grind[setAt]
theorem O4{cs vs:List TV}{q:Nat}(h:q+vs.length≤cs.length)(i:Nat):(setAt cs q vs)[i]? = if i<q then cs[i]? else if i<q+vs.length then vs[i-q]? else cs[i]? :=by
 unfold setAt
 grind
theorem J7{w:World}{b q:Nat}{ty:TypeId}{cur:Array Value}{e:TypeId}(hh:w.heap[b]? = some (.cells cur e (0,0))){v:Value}{z:Nat}(hz:lQ P ty=some z)(hs:v.cells.size=z)
  (hl:q+z≤cur.size) (h1:∀u∈v.cells.toList,u.oneCell'=true) :
  (storeVar ty ⟨b,q,none⟩ v).run P w = .ok () (w.setRow b (cur.toList.take q++v.cells.toList++cur.toList.drop (q+v.cells.size)).toArray):=by
 have hst:=run_storeCells_at P b q e v.cells.toList 0 cur w hh (by simp[*]) h1;unfold lQ at hz;cases iQ:P.info? ty with
 | none=>simp_all
 | some inf=>
   simp only[iQ,Option.map_some,Option.some.injEq]at hz;simp only[storeVar,sizeOf,typeInfo,Sem.run_bind,run_program,Result.andThen_ok,iQ,Sem.run_pure,hs,hz,ne_eq,not_true_eq_false,if_false,pure_bind];simp[*]
theorem get_put{α:Type}{cur vs:List α}{q:Nat}(h:q+vs.length≤cur.length)(i:Nat):(cur.take q++vs++cur.drop (q+vs.length))[i]? = if i<q then cur[i]? else if i<q+vs.length then vs[i-q]? else cur[i]? :=by
 grind
theorem FI{w:World}{b:Nat}{cur:Array Value}{e:TypeId}(hh:w.heap[b]? = some (.cells cur e (0,0)))(cs:Array Value):(w.setRow b cs).heap[b]? = some (.cells cs e (0,0)):=
 setRow_heap w b cur cs e (0,0) hh
theorem UL{o:Oper}{t:S}{ty:TypeId}{x y:Operand}{p:Pl}{q:Nat}{cs vs:List TV}(ho:o.op = .store ty x y)(hx:ev t x = .ptr p q)(ht:t p = .box cs)(hv:(ev t y).cells=vs)(hz:lQ P ty=some vs.length):
  fG P A o t ⟨q+vs.length≤cs.length∧∀c∈vs,c.one=true,pl x++(pl y++[p]),[(p,.box (setAt cs q vs))],.junk⟩:=fun⟨hl,h1⟩ t' hr a E hi=>by
 have hx':=bM hi x;rw[dB (aW hr),hx]at hx'
 have hy':=bM hi y;rw[dB (aW (aI hr))]at hy'
 have ht':t' p = .box cs:=(aI (aI hr) _ (by simp)).trans ht;obtain⟨hs,hc⟩:=Js hy' (by simp_all);rw[hv]at hs hc
 obtain⟨b,ty',us,hu,hb,hh,hus,hcs⟩:=Wq hi ht' hx';have hp:∀k,p≠.s k:=by
  rintro k rfl;rw[hi.h.frees k]at hb;trivial
 have hob:E.own p=some b:=by simp[En.own,hb]
 have hone:∀u∈(a.eval y).cells.toList,u.oneCell'=true:=fun u hu=>by
  obtain⟨i,hi',rfl⟩:=List.getElem_of_mem hu;have hlt:i<vs.length:=by grind
  obtain⟨u',h2,h3,_⟩:=hc.get (i:=i) (t:=vs[i]) (by simp)
  simp_all
 let arr:Array Value:=(us.toList.take q++(a.eval y).cells.toList++us.toList.drop (q+(a.eval y).cells.size)).toArray
 have hrun:=J7 (P:=P) hh (b:=b) (q:=q) (v:=a.eval y) hz hs (by omega) hone
 let E':En:={E with w:=E.w.setRow b arr}
 have hother:∀b',b'≠b→E'.w.heap[b']? = E.w.heap[b']? :=fun b' hne=>setRow_other E.w b b' _ hne
 have akK:∀b' o',E.St b' o'→b'≠b:=fun b' o' hst e=>by
  subst e;obtain⟨e',k',es',h2,_⟩:=hi.h.sep _ _ hst p hob
  simp_all
 have x:qN E E':=⟨fun _ _ h=>h,fun b' o' hst=>fC (hother b' (akK b' o' hst)),fun _ _ _ h=>h,fun _ _ h=>h,fun _ _ h=>h,fun _ _ c v _ hv=>⟨c,v,hv,Nat.le_refl _,fun _=>rfl⟩⟩
 have harr:arr.size=us.size:=by grind
 have hsz:E'.w.heap.size=E.w.heap.size:=by grind[World.setRow]
 have hH:jQ E' (upd t' p (.box (setAt cs q vs))):=by
  refine hi.h.change hp x (fun b o hst=>.inl hst) (fun q hq=>rfl) (fun id hid=>rfl) (by omega) (fun q' b' hq hb'=>hother b' (fun e=>hq (hi.h.inj _ _ _ (e▸hb') hob)))
   (fun b' hb'=>?_) ?_ (fun b' o' hst hb'=>?_)
  ·have:E'.own p=E.own p:=rfl
   grind
  ·have hold:=hi.h.item p hp;rw[ht']at hold
   refine⟨hold.1,b,ty',arr,hb,FI hh arr,by rw[harr,hus,G6 hl],bG.fZ fun i tv hi'=>?_⟩;rw[O4 hl]at hi'
   have hget:=get_put (cur:=us.toList) (vs:=(a.eval y).cells.toList) (q:=q) (by simp[*]) i;simp only[Array.length_toList,hs]at hget;simp only[arr,Nat.zero_add,List.toList_toArray,hs,hget];by_cases h2:i<q
   ·rw[if_pos h2]at hi'⊢
    obtain⟨u,h3,h4,h5⟩:=hcs.get hi';exact⟨u,by simp_all,h4,h5.up x⟩
   ·rw[if_neg h2]at hi'⊢
    by_cases h3:i<q+vs.length
    ·rw[if_pos h3]at hi'⊢
     obtain⟨u,h3,h4,h5⟩:=hc.get hi';exact⟨u,by simpa using h3,h4,h5.up x⟩
    ·rw[if_neg h3]at hi'⊢
     obtain⟨u,h3,h4,h5⟩:=hcs.get hi';exact⟨u,by simpa using h3,h4,h5.up x⟩
  ·have he:E'.own p=E.own p:=rfl;rw[he,hob]at hb'
   exact absurd (Option.some.inj hb').symm (akK b' o' hst)
 refine⟨.skip,undef,E',?_,.inr ⟨rfl,rfl⟩,hi.step hH x (hi.fr.next rfl rfl rfl (by rw[hsz];exact Nat.le_refl _) (fun b' h2 h3 h4=>hother b' (fun e=>?_)) (fun _=>rfl) (fun id b' hb'=>.inl hb') (fun _ _ h=>h) (fun _ _ h=>.inl h)) (fun k=>FT hp k),by simp only[aA]⟩
 ·simp only[execOp,ho,hu,Instr.storeAt,Instr.sureAddr,Sem.run_bind,Sem.run_pure,Result.andThen_ok,hrun,E',arr]
 ·subst e;cases p with
  | s k=>exact hp k rfl
  | x k=>exact h3 k ((hi.fr.xb k).symm.trans hb)
  | o id=>exact(hi.fr.new id b' hob).elim (fun h=>by omega) (fun⟨j,h⟩=>h4 j h)
end
end Go.Tr

namespace Go.Tr
open Go
section
variable {P:Program} {A:eX}
theorem dL.Xt{t:S}{a:Act}{E:En}(hi:dL A t a E){id k:Nat}{e:TypeId}{es es':List (List TV)}{sh sh':Bool}(ht:t (.o id) = .row e k es sh)
  {v v':Value} {us':List Value} {w':World} (hval:E.val id=some (k,es.length,v)) (hg:E.w.grownBy w' v.ownBlock) (hown:w'.ownsRow 0 e k v' es'.length us')
  (hle:es.length≤es'.length) (heq:es.length=es'.length→v'=v) (hob:v'.ownBlock=v.ownBlock∨v'.ownBlock=some E.w.heap.size)
  (hst:∀b o,E.St b o→Ur w' b o=Ur E.w b o) (hsh:sh=true→sh'=true)
  (hrel:∀E':En,E'.w=w'→qN E E'→dK E' us' k 0 es') :
  ∃E':En,E'.w=w'∧qN E E'∧dL A (upd t (.o id) (.row e k es' sh')) a E'∧E'.val id=some (k,es'.length,v'):=by
 have hit:=hi.h.item (.o id) (by simp);rw[ht]at hit
 obtain⟨hb0,_⟩:=hit;have lq:E.own (.o id)=v.ownBlock:=by simp[En.own,hb0,hval]
 let E':En:={E with w:=w',val:=fun i=>if i=id then some (k,es'.length,v')else E.val i}
 have hv':E'.val id=some (k,es'.length,v'):=by simp[E']
 have KD:E'.own (.o id)=v'.ownBlock:=by simp[En.own,E',hb0]
 have x:qN E E':=by
  refine⟨fun _ _ h=>h,hst,fun _ _ _ h=>h,fun _ _ h=>h,fun _ _ h=>h,fun i k' c u _ hu=>?_⟩;by_cases e:i=id
  ·subst e;rw[hval]at hu
   simp only[Option.some.injEq,Prod.mk.injEq]at hu;obtain⟨rfl,rfl,rfl⟩:=hu;exact⟨_,_,hv',hle,heq⟩
  ·exact⟨c,u,by simp[E',e,hu],Nat.le_refl _,fun _=>rfl⟩
 have ae5:∀q b,q≠.o id→E.own q=some b→w'.heap[b]? = E.w.heap[b]? :=fun q b hq hb=>by
  refine hg.block b (hi.h.size q b hb) (fun e=>hq (hi.h.inj _ _ b hb ?_));rw[lq,←e]
 have hH:jQ E' (upd t (.o id) (.row e k es' sh')):=by
  refine hi.h.change (by simp) x (fun b o h=>.inl h) (fun q hq=>rfl) (fun i hne=>?_) hg.size ae5 (fun b hb=>?_) ⟨hb0,id,v',us',rfl,hv',hown,hrel E' rfl x⟩ (fun b o hs hb=>?_)
  ·have hne':i≠id:=fun e=>hne (by rw[e])
   simp[E',hne']
  ·rw[KD]at hb
   rw[lq];exact⟨(hown.lt b hb).2,hob.elim (fun e=>.inl (e▸hb)) (fun e=>.inr (by rw[e]at hb;simp at hb;omega))⟩
  ·rw[KD]at hb
   rcases hob with e'|e'
   ·obtain⟨e2,k2,es2,h1,h2⟩:=hi.h.sep b o hs (.o id) (by rw[lq,←e',hb]);rw[ht]at h1
    simp only[It.row.injEq]at h1;obtain⟨rfl,rfl,rfl,hs1⟩:=h1;exact⟨e,k,es',by rw[hsh hs1],Nat.lt_of_lt_of_le h2 (Nat.mul_le_mul_right _ hle)⟩
   ·rw[e']at hb;simp at hb
    have:=hi.h.oQ _ _ hs;omega
 refine⟨E',rfl,x,hi.step hH x (hi.fr.next hg.os hg.tape hg.output hg.size (fun b h1 h2 h3=>hg.block b (Nat.lt_of_lt_of_le h1 hi.fr.size) (fun e=>?_)) (fun _=>rfl) (fun i b hb=>?_) (fun _ _ h=>h) (fun _ _ h=>.inl h)) (fun k=>FT (by simp) k),hv'⟩
 ·exact(hi.fr.new id b (by rw[lq,←e])).elim (fun h=>by omega) (fun⟨j,h⟩=>h3 j h)
 ·by_cases e:i=id
  ·subst e;rw[KD]at hb
   rw[lq];exact hob.elim (fun e=>.inl (e▸hb)) (fun e=>.inr (by rw[e]at hb;simp at hb;omega))
  ·have:E'.own (.o i)=E.own (.o i):=En.lU rfl (fun j hj=>by simp only[Pl.o.injEq]at hj;subst hj;simp[E',e]);rw[this]at hb;exact .inl hb
theorem kH{α:Type}{l:List α}{i:Nat}(h:i<l.length)(v:α)(j:Nat):(l.set i v)[j]? = if j=i then some v else l[j]? :=by
 rw[List.getElem?_set];by_cases e:i=j
 ·subst e;simp[h]
 ·simp[e,show ¬j=i from fun h=>e h.symm]
theorem UM{o:Oper}{t:S}{ty:TypeId}{x y:Operand}{id n i q k:Nat}{e:TypeId}{es:List (List TV)}{vs:List TV}(ho:o.op = .store ty x y)(hx:ev t x = .rQ id n i q)(ht:t (.o id) = .row e k es false)
  (hv:(ev t y).cells=vs) (hz:lQ P ty=some vs.length) :
  fG P A o t ⟨n=es.length∧i<es.length∧q+vs.length≤(es.getD i []).length∧∀c∈vs,c.one=true,pl x++(pl y++[.o id]),[(.o id,.row e k (es.set i (setAt (es.getD i []) q vs)) false)],.junk⟩:=fun⟨hn,hil,hl,h1⟩ t' hr a E hi=>by
 have hx':=bM hi x;rw[dB (aW hr),hx]at hx'
 have hy':=bM hi y;rw[dB (aW (aI hr))]at hy'
 have ht':t' (.o id) = .row e k es false:=(aI (aI hr) _ (by simp)).trans ht;subst hn;obtain⟨hs,hc⟩:=Js hy' (by rw[hv];exact h1);rw[hv]at hs hc
 obtain⟨g,cap,us,hval,hu,hown,hrow⟩:=LU hi ht' hx';have hone:∀u∈(a.eval y).cells.toList,u.oneCell'=true:=fun u hu=>by
  obtain⟨i,hi',rfl⟩:=List.getElem_of_mem hu;have hlt:i<vs.length:=by rw[←hs];simpa using hi'
  obtain⟨u',h2,h3,_⟩:=hc.get (i:=i) (t:=vs[i]) (by simp[hlt]);simp only[Nat.zero_add,List.getElem?_eq_getElem hi',Option.some.injEq]at h2;subst h2;exact h3
 have ao0:es[i]? = some (es.getD i []):=by simp[List.getD,hil]
 obtain⟨hlen,hcell⟩:=hrow.get ao0;simp only[Nat.zero_add]at hcell;rcases hown.2 with⟨h4,_⟩|⟨g',cap',cur,h4,hg0,hgg,hnc,hcm,hcs,htake⟩
 ·simp at h4
 simp only[Value.slice.injEq,Option.some.injEq,Addr.mk.injEq,true_and,and_true]at h4;obtain⟨rfl,rfl⟩:=h4;have hmul:i*k+k≤es.length*k:=by
  have:(i+1)*k≤es.length*k:=Nat.mul_le_mul_right k hil
  rwa [Nat.add_mul,Nat.one_mul]at this
 have aqj:es.length*k≤cap*k:=Nat.mul_le_mul_right k hnc
 let arr:Array Value:=(cur.toList.take (i*k+q)++(a.eval y).cells.toList++cur.toList.drop (i*k+q+(a.eval y).cells.size)).toArray
 have hrun:=J7 (P:=P) hgg (q:=i*k+q) (v:=a.eval y) hz hs (by omega) hone;have harr:arr.size=cur.size:=by simp[arr];omega
 have hget:=get_put (cur:=cur.toList) (vs:=(a.eval y).cells.toList) (q:=i*k+q) (by simp;omega);simp only[Array.length_toList,hs]at hget
 let us':=arr.toList.take (es.length*k)
 have aar:∀j,j<es.length*k→us'[j]? = if j<i*k+q then us[j]? else if j<i*k+q+vs.length then(a.eval y).cells.toList[j-(i*k+q)]? else us[j]? :=fun j hj=>by
  have h6:us[j]? = cur.toList[j]? :=by rw[←htake,List.getElem?_take,if_pos hj]
  simp only[us',arr,List.toList_toArray,List.getElem?_take,if_pos hj,hs,hget,h6]
 have Oz:E.w.grownBy (E.w.setRow g arr) (Value.ownBlock (.slice (some ⟨g,0,none⟩) es.length cap)):=
  ⟨rfl,rfl,rfl,by simp[World.setRow],fun b _ hne=>setRow_other E.w g b _ (fun e=>hne (by simp[Value.ownBlock,e]))⟩
 have hes:(es.set i (setAt (es.getD i []) q vs)).length=es.length:=by simp
 have ahd:E.own (.o id)=some g:=by
  have hit:=hi.h.item (.o id) (by simp);rw[ht']at hit
  simp[En.own,hit.1,hval,Value.ownBlock]
 obtain⟨E',hw',x,hinv,hval'⟩:=hi.Xt ht' (v':=.slice (some ⟨g,0,none⟩) es.length cap) (us':=us') (es':=es.set i (setAt (es.getD i []) q vs)) (sh':=false) hval Oz
  (by
   rw[hes];refine⟨by simp[us',harr];omega,.inr ⟨g,cap,arr,rfl,hg0,FI hgg arr,hnc,hcm,by rw[harr,hcs],rfl⟩⟩)
  (by rw[hes];exact Nat.le_refl _) (fun _=>rfl) (.inl rfl)
  (fun b o' hst=>by
   by_cases e:b=g
   ·subst e;obtain⟨e',k',es',h2,_⟩:=hi.h.sep _ _ hst _ ahd;rw[ht']at h2;simp at h2
   ·exact fC (setRow_other E.w g b _ e))
  (fun h=>h)
  (fun E' hw' x=>dK.fZ fun i' el hel=>by
   rw[kH hil]at hel
   have hlt:i'<es.length:=by
    by_cases e:i'=i
    ·omega
    ·rw[if_neg e]at hel;exact(List.getElem?_eq_some_iff.1 hel).1
   have hm':i'*k+k≤es.length*k:=by
    have:(i'+1)*k≤es.length*k:=Nat.mul_le_mul_right k hlt
    rwa [Nat.add_mul,Nat.one_mul]at this
   by_cases e:i'=i
   ·subst e;rw[if_pos rfl]at hel
    simp only[Option.some.injEq]at hel;subst hel;refine⟨by rw[G6 hl,hlen],bG.fZ fun j tv hj=>?_⟩;rw[O4 hl]at hj
    have hjk:j<k:=by
     by_cases h2:j<q
     ·omega
     ·rw[if_neg h2]at hj
      by_cases h3:j<q+vs.length
      ·omega
      ·rw[if_neg h3]at hj;have:=(List.getElem?_eq_some_iff.1 hj).1;omega
    rw[Nat.zero_add,aar _ (by omega)];by_cases h2:j<q
    ·rw[if_pos h2]at hj
     rw[if_pos (by omega)];obtain⟨u,h5,h6,h7⟩:=hcell.get hj;exact⟨u,h5,h6,h7.up x⟩
    ·rw[if_neg h2]at hj
     rw[if_neg (by omega)];by_cases h3:j<q+vs.length
     ·rw[if_pos h3]at hj
      rw[if_pos (by omega)];obtain⟨u,h5,h6,h7⟩:=hc.get hj;refine⟨u,?_,h6,h7.up x⟩;rw[show i'*k+j-(i'*k+q)=j-q by omega];simpa using h5
     ·rw[if_neg h3]at hj
      rw[if_neg (by omega)];obtain⟨u,h5,h6,h7⟩:=hcell.get hj;exact⟨u,h5,h6,h7.up x⟩
   ·rw[if_neg e]at hel
    obtain⟨h8,h9⟩:=hrow.get hel;refine⟨h8,bG.fZ fun j tv hj=>?_⟩;have hjk:j<k:=by have:=(List.getElem?_eq_some_iff.1 hj).1;omega
    rw[Nat.zero_add,aar _ (by omega)];obtain⟨u,h5,h6,h7⟩:=h9.get hj;simp only[Nat.zero_add]at h5;refine⟨u,?_,h6,h7.up x⟩;by_cases h2:i'*k+j<i*k+q
    ·rw[if_pos h2];exact h5
    ·rw[if_neg h2,if_neg ?_]
     ·exact h5
     ·intro h3;rcases Nat.lt_or_gt_of_ne e with h4|h4
      ·have:(i'+1)*k≤i*k:=Nat.mul_le_mul_right k h4;rw[Nat.add_mul,Nat.one_mul]at this;omega
      ·have:(i+1)*k≤i'*k:=Nat.mul_le_mul_right k h4;rw[Nat.add_mul,Nat.one_mul]at this;omega)
 refine⟨.skip,undef,E',?_,.inr ⟨rfl,rfl⟩,hinv,by simp only[aA]⟩;simp only[execOp,ho,hu,Instr.storeAt,Instr.sureAddr,Sem.run_bind,Sem.run_pure,Result.andThen_ok,hrun,hw',arr]
end
end Go.Tr
