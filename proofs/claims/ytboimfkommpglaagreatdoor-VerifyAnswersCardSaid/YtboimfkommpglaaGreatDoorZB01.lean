/-
  What functions of the program compute, stated as contracts over plain data; the conditions of each stand in its own statement.
-/
import Derived.Test.YtboimfkommpglaaGreatDoorZB00
import Derived.Deep.MidRow
set_option linter.unusedSimpArgs false
namespace Go.Tr
open Go
section
variable {P:Program} {A:jL}
theorem Y_{o:Oper}{t:S}{x:Operand}(ho:o.op = .move x∨o.op = .assign x):jD P A o t ⟨True,pl x,[],ev t x⟩:=
 .pure fun _ t' hr a E hi=>⟨a.eval x,by rcases ho with ho|ho<;>simp[execOp,ho],fZ hr▸dS hi x⟩
theorem agE{o:Oper}{t:S}{c x y:Operand}{g:Bool}(ho:o.op = .pick c x y)(hg:ev t c = .d (.bool g)):
  jD P A o t ⟨True,pl c++(pl x++pl y),[],bif g then ev t x else ev t y⟩:=
 .pure fun _ t' hr a E hi=>by
  have hc:=dS hi c;rw[fZ (dw hr),hg]at hc
  simp only[aV,Rep]at hc;have hx:=dS hi x;rw[fZ (dw (bg hr))]at hx
  have hy:=dS hi y;rw[fZ (bg (bg hr))]at hy
  cases g
  ·exact⟨a.eval y,by simp[execOp,ho,hc,asBool],hy⟩
  ·exact⟨a.eval x,by simp[execOp,ho,hc,asBool],hx⟩
theorem aiZ{o:Oper}{t:S}{op:BinOp}{ty ty':TypeId}{x y:Operand}{C:Prop}{v:TV}(ho:o.op = .binOp op ty x y ty')(h:af7 P op ty (ev t x) (ev t y)=some (C,v)):
  jD P A o t ⟨C,pl x++pl y,[],v⟩:=
 .pure fun hC t' hr a E hi=>by
  have hx:=dS hi x;rw[fZ (dw hr)]at hx
  have hy:=dS hi y;rw[fZ (bg hr)]at hy
  obtain⟨r,h1,h2⟩:=aiJ h hC hx hy x y E.w;refine⟨r,?_,h2⟩;simp only[execOp,ho];rw[Sem.run_bind,h1];rfl
def unD(op:UnOp):TV→Option TV
 | .d (.int k n)=>match op with
   | .neg=>some (.d (.int k (k.wrap (0-n))))
   | .xor=>some (.d (.int k (anG k n)))
   | _=>none
 | .d (.bool b)=>match op with
   | .not=>some (.d (.bool !b))
   | _=>none
 | _=>none
theorem akG{o:Oper}{t:S}{op:UnOp}{ty:TypeId}{x:Operand}{v:TV}(ho:o.op = .unOp op ty x)(h:unD op (ev t x)=some v):jD P A o t ⟨True,pl x,[],v⟩:=
 .pure fun _ t' hr a E hi=>by
  have hx:=dS hi x;rw[fZ hr]at hx
  revert hx h
  generalize ev t x=tx;intro h hx;unfold unD at h;split at h
  ·simp only[aV,Rep]at hx;split at h
   ·simp only[aj]at h;subst h;refine⟨_,?_,rfl⟩;simp[execOp,ho,hx,Op.unary,Op.intArith]
   ·simp only[aj]at h;subst h;refine⟨_,?_,rfl⟩;simp only[execOp,ho,hx,Op.unary,Op.intBits,Sem.run_bind,Sem.run_pure,Result.andThen_ok,anG]
   trivial
  ·simp only[aV,Rep]at hx;split at h
   ·simp only[aj]at h;subst h;refine⟨_,?_,rfl⟩;simp[execOp,ho,hx,Op.unary]
   ·simp at h
  trivial
theorem agA{o:Oper}{t:S}{sr ds:TypeId}{x:Operand}{k k':IntKind}{n:Int}(ho:o.op = .convert sr ds x)(hs:(xW P sr).isSome=true)(hd:knd P ds=some k')(hx:ev t x = .d (.int k n)):
  jD P A o t ⟨True,pl x,[],.d (.int k' (k'.wrap n))⟩:=
 .pure fun _ t' hr a E hi=>by
  have hx':=dS hi x;rw[fZ hr,hx]at hx'
  simp only[aV,Rep]at hx';refine⟨_,?_,rfl⟩;unfold knd at hd;split at hd
  ·rename_i q hq;simp only[aj]at hd;subst hd;unfold xW at hs;cases hu:P.underlying sr with
   | none=>simp[hu]at hs
   | some d=>simp only[execOp,ho,hx',convert,Sem.run_bind,run_underlying hu,run_underlying hq,Result.andThen_ok,Conv.intToInt,Sem.run_pure]
  trivial
theorem XI{o:Oper}{t:S}{x:Operand}(ho:o.op = .nilCheck x)(h:(∃p off,ev t x = .ptr p off)∨(∃e off,ev t x = .ep e off)∨(∃f c,ev t x = .clo f c)):
  jD P A o t ⟨True,pl x,[],ev t x⟩:=
 .pure fun _ t' hr a E hi=>by
  have hx:=dS hi x;rw[fZ hr]at hx
  refine⟨a.eval x,?_,hx⟩;rcases h with⟨p,off,h⟩|⟨e,off,h⟩|⟨f,c,h⟩<;>rw[h]at hx<;>simp only[aV]at hx
  ·obtain⟨b,_,hu⟩:=hx;simp[execOp,ho,hu]
  ·obtain⟨b,_,hu,_⟩:=hx;simp[execOp,ho,hu]
  ·obtain⟨us,hu,_⟩:=hx;simp[execOp,ho,hu]
theorem Il{s f:Nat}{off:Nat}{ft:TypeId}(hf:wL P s f=some (off,ft)){z:Nat}(hz:qp P ft=some z)(hz0:z≠0)(b o:Nat)(w:World):
  (Instr.fieldAt s (.pointer (some ⟨b,o,none⟩)) f).run P w = .ok (.pointer (some ⟨b,o+off,none⟩)) w:=by
 unfold wL at hf;split at hf
 ·rename_i fs hfs;cases hff:fs[f]? with
  | none=>simp_all
  | some g=>
    simp only[hff,dF,aj,aK]at hf;obtain⟨rfl,rfl⟩:=hf;unfold qp at hz;cases hi:P.info? g.type with
    | none=>simp_all
    | some i=>simp only[hi,dF,aj]at hz;simp[Instr.fieldAt,run_underlying hfs,hff,Instr.sureAddr,fieldPlace,sizeOf,typeInfo,hi,hz,hz0,qK]
 trivial
theorem Ji{o:Oper}{t:S}{s f:Nat}{x:Operand}{off:Nat}{ft:TypeId}{z:Nat}{v:TV}(ho:o.op = .fieldAddr s x f)(hf:wL P s f=some (off,ft))(hz:qp P ft=some z)(hz0:z≠0)
  (h:(∃p q,ev t x = .ptr p q∧v = .ptr p (q+off))∨(∃e q,ev t x = .ep e q∧v = .ep e (q+off))):jD P A o t ⟨True,pl x,[],v⟩:=
 .pure fun _ t' hr a E hi=>by
  have hx:=dS hi x;rw[fZ hr]at hx
  rcases h with⟨p,q,h,rfl⟩|⟨e,q,h,rfl⟩<;>rw[h]at hx<;>simp only[aV]at hx
  ·obtain⟨b,hb,hu⟩:=hx;refine⟨.pointer (some ⟨b,q+off,none⟩),?_,?_⟩
   ·simp[execOp,ho,hu,Il hf hz hz0]
   ·simp only[aV];simp[*]
  ·obtain⟨b,p,hu,hc⟩:=hx;refine⟨.pointer (some ⟨b,p+q+off,none⟩),?_,?_⟩
   ·simp[execOp,ho,hu,Il hf hz hz0]
   grind[aV]
theorem Bg{t:S}{a:Act}{E:En}(hi:iI A t a E){id k:Nat}{e:TypeId}{es:List (List TV)}{sh:Bool}(ht:t (.o id) = .row e k es sh):
  E.blk (.o id)=none∧∃v us,E.val id=some (k,es.length,v)∧E.w.ownsRow 0 e k v es.length us∧iJ E us k 0 es∧(∀u,aV E (.bK id es.length) u→u=v):=by
 have:=hi.h.item (.o id) (by simp);rw[ht]at this
 obtain⟨h0,id',v,us,hid,h1,h2,h3⟩:=this;simp only[Pl.o.injEq]at hid;subst hid;refine⟨h0,v,us,h1,h2,h3,fun u hu=>?_⟩;simp only[aV]at hu
 grind
theorem Ll{t:S}{a:Act}{E:En}(hi:iI A t a E){id k i off:Nat}{e:TypeId}{es:List (List TV)}{sh:Bool}(ht:t (.o id) = .row e k es sh){u:Value}
  (hu:aV E (.tV id es.length i off) u):∃g cap us,E.val id=some (k,es.length,.slice (some ⟨g,0,none⟩) es.length cap)∧u = .pointer (some ⟨g,i*k+off,none⟩)∧
   E.w.ownsRow 0 e k (.slice (some ⟨g,0,none⟩) es.length cap) es.length us∧iJ E us k 0 es:=by
 obtain⟨_,v,us,h1,h2,h3,_⟩:=Bg hi ht;obtain⟨_,k',c,v',hv,_,he⟩:=hu;rw[h1]at hv
 obtain⟨rfl,rfl,rfl⟩:=hv;rcases h2.2 with⟨h4,_⟩|⟨g,cap,cur,h4,rest⟩
 ·simp_all
 grind
theorem Za{o:Oper}{t:S}{x:Operand}{id n i q k:Nat}{e:TypeId}{es:List (List TV)}{sh:Bool}(ho:o.op = .nilCheck x)(hx:ev t x = .tV id n i q)(ht:t (.o id) = .row e k es sh):
  jD P A o t ⟨n=es.length,pl x++[.o id],[],.tV id n i q⟩:=.pure fun hn t' hr a E hi=>by
 have hu:=dS hi x;rw[fZ (dw hr),hx]at hu
 have ht':t' (.o id) = .row e k es sh:=(bg hr _ (by simp)).trans ht;subst hn;obtain⟨g,cap,us,_,hu',_⟩:=Ll hi ht' hu;exact⟨a.eval x,by simp[execOp,ho,hu'],hu⟩
theorem KZ{o:Oper}{t:S}{s f:Nat}{x:Operand}{off:Nat}{ft:TypeId}{z:Nat}{id n i q k:Nat}{e:TypeId}{es:List (List TV)}{sh:Bool}
  (ho:o.op = .fieldAddr s x f) (hf:wL P s f=some (off,ft)) (hz:qp P ft=some z) (hz0:z≠0)
  (h:ev t x = .tV id n i q) (ht:t (.o id) = .row e k es sh):jD P A o t ⟨n=es.length,pl x++[.o id],[],.tV id n i (q+off)⟩:=
 .pure fun hC t' hr a E hi=>by
  have hx:=dS hi x;rw[fZ (dw hr),h]at hx
  have ht':t' (.o id) = .row e k es sh:=by simp[*]
  subst hC;obtain⟨g,cap,us,h1,rfl',h2,h3⟩:=Ll hi ht' hx;refine⟨.pointer (some ⟨g,i*k+q+off,none⟩),?_,?_⟩
  ·simp[execOp,ho,rfl',Il hf hz hz0]
  ·exact⟨rfl,k,_,_,h1,aI _,fun _=>⟨g,0,cap,rfl,by grind⟩⟩
theorem CS{ty e k:Nat}(he:wI P ty=some e)(hk:qp P e=some k)(a:Addr)(len cap:Nat)(ik:IntKind)(i:Int)(h0:0≤i)(h1:i<len)(w:World):
  (Instr.indexAt ty (.slice (some a) len cap) (.int ik i)).run P w = .ok (.pointer (some (a.add (i.toNat*k)))) w:=by
 unfold wI at he;split at he
 ·rename_i e' hu;simp only[aj]at he;subst he;unfold qp at hk;cases hi:P.info? e' with
  | none=>simp[hi]at hk
  | some inf=>simp only[hi,dF,aj]at hk;simp[Instr.indexAt,run_underlying hu,asIntOf,h0,h1,sizeOf,typeInfo,hi,hk]
 trivial
theorem U8{o:Oper}{t:S}{ty:TypeId}{x ix:Operand}{e k:Nat}{xs:List (List D)}{ik:IntKind}{i:Int}(ho:o.op = .indexAddr ty x ix)(he:wI P ty=some e)(hk:qp P e=some k)
  (hx:ev t x = .d (.sl xs)) (hix:ev t ix = .d (.int ik i)) :
  jD P A o t ⟨0≤i∧i<xs.length∧(xs.getD i.toNat []).length=k,pl x++pl ix,[],.ep (xs.getD i.toNat []) 0⟩:=
 .pure fun⟨h0,h1,h2⟩ t' hr a E hi=>by
  have hx':=dS hi x;rw[fZ (dw hr),hx]at hx'
  have hix':=dS hi ix;rw[fZ (bg hr),hix]at hix'
  simp only[aV,Rep]at hx' hix';have hlt:i.toNat<xs.length:=by omega
  have hg:xs[i.toNat]? = some (xs.getD i.toNat []):=by simp[*]
  rcases hx' with⟨h3,_⟩|⟨b,of,c,k',hu,hc,hrows⟩
  ·omega
  ·obtain⟨h4,h5⟩:=hrows.get hg;have hkk:k'=k:=by omega
   subst hkk;refine⟨.pointer (some ⟨b,of+i.toNat*k',none⟩),?_,?_⟩
   ·simp[execOp,ho,hu,hix',CS he hk _ _ _ _ _ h0 h1,qK]
   grind[aV]
theorem Lc{o:Oper}{t:S}{ty:TypeId}{x ix:Operand}{e k id n:Nat}{e':TypeId}{es:List (List TV)}{sh:Bool}{ik:IntKind}{i:Int}(ho:o.op = .indexAddr ty x ix)(he:wI P ty=some e)(hk:qp P e=some k)
  (hx:ev t x = .bK id n) (hix:ev t ix = .d (.int ik i)) (ht:t (.o id) = .row e' k es sh) :
  jD P A o t ⟨n=es.length∧0≤i∧i<es.length,pl x++(pl ix++[.o id]),[],.tV id n i.toNat 0⟩:=
 .pure fun⟨hn,h0,h1⟩ t' hr a E hi=>by
  have hx':=dS hi x;rw[fZ (dw hr),hx]at hx'
  have hix':=dS hi ix;rw[fZ (dw (bg hr)),hix]at hix'
  simp only[aV,Rep]at hix';subst hn;have ht':t' (.o id) = .row e' k es sh:=by simp[*]
  obtain⟨_,v,us,h2,h3,h4,h5⟩:=Bg hi ht';have hu:=h5 _ hx';rcases h3.2 with⟨_,h6⟩|⟨g,cap,cur,h6,_⟩
  ·omega
  ·subst h6;refine⟨.pointer (some ⟨g,i.toNat*k,none⟩),?_,?_⟩
   ·simp[execOp,ho,hu,hix',CS he hk _ _ _ _ _ h0 h1,qK]
   ·exact⟨rfl,k,_,_,h2,aI _,fun _=>⟨g,0,cap,rfl,by simp⟩⟩
theorem K_{o:Oper}{t:S}{ty:TypeId}{x ix:Operand}{n e k:Nat}{p:Pl}{q:Nat}{ik:IntKind}{i:Int}(ho:o.op = .indexAddr ty x ix)(he:arE P ty=some (n,e))(hk:qp P e=some k)
  (hx:ev t x = .ptr p q) (hix:ev t ix = .d (.int ik i)):jD P A o t ⟨0≤i∧i<n,pl x++pl ix,[],.ptr p (q+i.toNat*k)⟩:=
 .pure fun⟨h0,h1⟩ t' hr a E hi=>by
  have hx':=dS hi x;rw[fZ (dw hr),hx]at hx'
  have hix':=dS hi ix;rw[fZ (bg hr),hix]at hix'
  simp only[aV,Rep]at hx' hix';obtain⟨b,hb,hu⟩:=hx';unfold arE at he;split at he
  ·rename_i n' e' hun;simp only[aj,aK]at he;obtain⟨rfl,rfl⟩:=he;unfold qp at hk;cases mG:P.info? e' with
   | none=>simp_all
   | some inf=>
     simp only[mG,dF,aj]at hk;refine⟨.pointer (some ⟨b,q+i.toNat*k,none⟩),?_,?_⟩
     ·simp[execOp,ho,hu,hix',Instr.indexAt,run_underlying hun,asIntOf,Instr.sureAddr,h0,h1,sizeOf,typeInfo,mG,hk,qK]
     ·simp only[aV];simp[*]
  trivial
theorem Om{o:Oper}{t:S}{ty:TypeId}{x ix:Operand}{n e k:Nat}{ds:List D}{q:Nat}{ik:IntKind}{i:Int}(ho:o.op = .indexAddr ty x ix)(he:arE P ty=some (n,e))(hk:qp P e=some k)
  (hx:ev t x = .ep ds q) (hix:ev t ix = .d (.int ik i)):jD P A o t ⟨0≤i∧i<n,pl x++pl ix,[],.ep ds (q+i.toNat*k)⟩:=
 .pure fun⟨h0,h1⟩ t' hr a E hi=>by
  have hx':=dS hi x;rw[fZ (dw hr),hx]at hx'
  have hix':=dS hi ix;rw[fZ (bg hr),hix]at hix'
  simp only[aV,Rep]at hx' hix';obtain⟨b,o',hu,hc⟩:=hx';unfold arE at he;split at he
  ·rename_i n' e' hun;simp only[aj,aK]at he;obtain⟨rfl,rfl⟩:=he;unfold qp at hk;cases mG:P.info? e' with
   | none=>simp_all
   | some inf=>
     simp only[mG,dF,aj]at hk;refine⟨.pointer (some ⟨b,o'+q+i.toNat*k,none⟩),?_,?_⟩
     ·simp[execOp,ho,hu,hix',Instr.indexAt,run_underlying hun,asIntOf,Instr.sureAddr,h0,h1,sizeOf,typeInfo,mG,hk,qK]
     grind[aV]
  trivial
theorem Y2{o:Oper}{t:S}{x:Operand}{i:Nat}{vs:List TV}{v:TV}(ho:o.op = .extract x i)(hx:ev t x = .sZ vs)(hv:vs[i]? = some v):jD P A o t ⟨True,pl x,[],v⟩:=
 .pure fun _ t' hr a E hi=>by
  have hx':=dS hi x;rw[fZ hr,hx]at hx'
  simp only[aV]at hx';obtain⟨us,hu,hs⟩:=hx';obtain⟨u,h1,h2⟩:=hs.get hv;have h1':us[i]? = some u:=by simp_all
  exact⟨u,by simp[execOp,ho,hu,Instr.extract,h1'],h2⟩
theorem Dq{t:S}{a:Act}{E:En}(hi:iI A t a E):∀xs:List Operand,b_ E (xs.map (ev t)) (xs.map a.eval)
 | []=>by rfl
 | x::xs=>by exact⟨_,_,rfl,dS hi x,Dq hi xs⟩
theorem RY{t t':S}:∀{xs:List Operand},(∀p∈xs.flatMap pl,t' p=t p)→xs.map (ev t')=xs.map (ev t)
 | [],_=>rfl
 | x::xs,h=>by simp only[aH];rw[fZ (fun p hp=>h p (by simp[*])),RY (fun p hp=>h p (by simp[*]))]
theorem XG{o:Oper}{t:S}{f:FuncId}{caps:List Operand}(ho:o.op = .makeFunc (.func f) #[] caps.toArray):jD P A o t ⟨True,caps.flatMap pl,[],.clo f (caps.map (ev t))⟩:=
 .pure fun _ t' hr a E hi=>by
  have h:=Dq hi caps;rw[RY hr]at h
  refine⟨.func (.func f) #[] (caps.map a.eval).toArray,by simp[execOp,ho,Instr.makeFunc],?_⟩;simp only[aV];simp[*]
end
end Go.Tr

namespace Go.Tr
open Go
section
variable {P:Program} {A:jL}
theorem zq{ty:TypeId}(h:xW P ty=some false){a:Addr}{u:Value}{w:World}(hc:w.cell? a=some u):(loadVar ty a).run P w = .ok u w:=by
 unfold xW at h;cases hu:P.underlying ty with
 | none=>simp_all
 | some d=>
   have:(isAgg ty).run P w = .ok false w:=by unfold isAgg;rw[Sem.run_bind,run_underlying hu w];cases d<;>simp_all
   simp[loadVar,this,hc]
theorem zo{ty z:Nat}(h:xW P ty=some true)(hz:qp P ty=some z){b o:Nat}{cs:List Value}(hl:cs.length=z){w:World}(hc:w.rangeAt b o cs):
  (loadVar ty ⟨b,o,none⟩).run P w = .ok (.agg cs.toArray) w:=by
 unfold xW at h;cases hu:P.underlying ty with
 | none=>simp_all
 | some d=>
   refine run_loadVar_mid w b o ty cs d hc hu ?_ ?_
   ·cases d<;>simp_all
   ·subst hl;trivial
theorem gq.range{E:En}{b o:Nat}{xs:List D}(h:gq E b o xs):∃us:List Value,us.length=xs.length∧E.w.rangeAt b o us∧b_ E (xs.map .d) us:=by
 induction xs generalizing o with
 | nil=>exact⟨[],rfl,fun j v hv=>by trivial,by rfl⟩
 | cons x xs ih=>
   obtain⟨⟨_,u,hu,hr⟩,h2⟩:=h;obtain⟨us,h3,h4,h5⟩:=ih h2;refine⟨u::us,by simp[*],fun j v hv=>?_,?_⟩
   ·cases j with
    | zero=>simp_all
    | succ j=>
      have:=h4 j v (by trivial)
      grind
   ·simp only[aH,b_,aV]
    grind
theorem gq.sub{E:En}{b o:Nat}{xs:List D}(h:gq E b o xs)(q z:Nat):gq E b (o+q) ((xs.drop q).take z):=
 gq.lq fun i x hx=>by
  have hx':xs[q+i]? = some x:=by grind
  have:=h.get hx'
  grind
theorem eP.sub{E:En}{us:List Value}{o:Nat}{ts:List TV}(h:eP E us o ts)(q z:Nat):eP E us (o+q) ((ts.drop q).take z):=
 eP.lq fun i x hx=>by
  have hx':ts[q+i]? = some x:=by grind
  have:=h.get hx'
  grind
theorem eP.vals{E:En}{us:List Value}{o:Nat}{ts:List TV}(h:eP E us o ts):b_ E ts ((us.drop o).take ts.length)∧((us.drop o).take ts.length).length=ts.length:=by
 have hl:((us.drop o).take ts.length).length=ts.length:=by
  cases ts with
  | nil=>simp
  | cons t ts=>
    have:=h.get (i:=ts.length) (t:=(t::ts)[ts.length]) (by simp)
    grind
 refine⟨b_.lq hl fun i t u ht hu=>?_,hl⟩;obtain⟨u',h1,_,h2⟩:=h.get ht
 grind
theorem FY{w:World}{b:Nat}{us:List Value}(h:∀j u,us[j]? = some u→w.cell? ⟨b,j,none⟩ = some u)(o n:Nat):w.rangeAt b o ((us.drop o).take n):=fun j v hv=>by grind
theorem Xq{t:S}{a:Act}{E:En}(hi:iI A t a E){p:Pl}{cs:List TV}(ht:t p = .box cs){q:Nat}{u:Value}(hu:aV E (.ptr p q) u):
  ∃b ty us,u = .pointer (some ⟨b,q,none⟩)∧E.blk p=some b∧E.w.heap[b]? = some (.cells us ty (0,0))∧us.size=cs.length∧eP E us.toList 0 cs:=by
 obtain⟨b,hb,hu⟩:=hu;have hp:∀k,p≠.s k:=by rintro k rfl;rw[hi.h.frees k]at hb;trivial
 have:=hi.h.item p hp;rw[ht]at this
 obtain⟨_,b',ty,us,h1,h2,h3,h4⟩:=this
 grind
theorem xE{w:World}{b:Nat}{us:Array Value}{ty:TypeId}{f:Nat×Nat}(h:w.heap[b]? = some (.cells us ty f))(j:Nat):w.cell? ⟨b,j,none⟩ = us[j]? :=by grind[World.cell?]
theorem Ld{o:Oper}{t:S}{ty:TypeId}{x:Operand}{p:Pl}{q:Nat}{cs:List TV}{v:TV}(ho:o.op = .load ty x)(hx:ev t x = .ptr p q)(ht:t p = .box cs)
  (h:(xW P ty=some false∧cs[q]? = some v)∨(∃z,xW P ty=some true∧qp P ty=some z∧q+z≤cs.length∧v = .agg ((cs.drop q).take z))) :
  jD P A o t ⟨True,pl x++[p],[],v⟩:=
 .pure fun _ t' hr a E hi=>by
  have hx':=dS hi x;rw[fZ (dw hr),hx]at hx'
  have ht':t' p = .box cs:=(bg hr _ (by simp)).trans ht;obtain⟨b,ty',us,hu,hb,hh,hs,hc⟩:=Xq hi ht' hx';rcases h with⟨h1,h2⟩|⟨z,h1,h2,h3,rfl⟩
  ·obtain⟨u,h4,h5,h6⟩:=hc.get h2;refine⟨u,?_,h6⟩;have hcell:E.w.cell? ⟨b,q,none⟩ = some u:=by grind[xE]
   simp[execOp,ho,hu,Instr.loadAt,Instr.sureAddr,zq h1 hcell]
  ·have hc':=(hc.sub q z).vals;simp only[dR]at hc';have hl:((cs.drop q).take z).length=z:=by simp;omega
   rw[hl]at hc'
   refine⟨.agg ((us.toList.drop q).take z).toArray,?_,?_⟩
   ·have:=zo h1 h2 hc'.2 (w:=E.w) (FY (b:=b) (fun j u hj=>by rw[xE hh];simpa using hj) q z);simp only[execOp,ho,hu,Instr.loadAt,Instr.sureAddr,Sem.run_bind,Sem.run_pure,Result.andThen_ok,this]
   ·simp only[aV];exact⟨_,rfl,hc'.1⟩
theorem Ph{o:Oper}{t:S}{ty:TypeId}{x:Operand}{e:List D}{q:Nat}{v:TV}(ho:o.op = .load ty x)(hx:ev t x = .ep e q)
  (h:(xW P ty=some false∧∃y,e[q]? = some y∧v = .d y)∨(∃z,xW P ty=some true∧qp P ty=some z∧q+z≤e.length∧v = .agg (((e.drop q).take z).map .d))) :
  jD P A o t ⟨True,pl x,[],v⟩:=
 .pure fun _ t' hr a E hi=>by
  have hx':=dS hi x;rw[fZ hr,hx]at hx'
  simp only[aV]at hx';obtain⟨b,of,hu,hc⟩:=hx';rcases h with⟨h1,y,h2,rfl⟩|⟨z,h1,h2,h3,rfl⟩
  ·obtain⟨_,u,h4,h5⟩:=hc.get h2;refine⟨u,?_,?_⟩
   ·simp[execOp,ho,hu,Instr.loadAt,Instr.sureAddr,zq h1 h4]
   trivial
  ·obtain⟨us,h4,h5,h6⟩:=(hc.sub q z).range;have hl:us.length=z:=by grind
   refine⟨.agg us.toArray,?_,?_⟩
   ·grind[execOp,Instr.loadAt,Instr.sureAddr,Sem.run_bind,Sem.run_pure,Result.andThen_ok,zo]
   ·simp only[aV];exact⟨_,rfl,h6⟩
theorem Lh{o:Oper}{t:S}{ty:TypeId}{x:Operand}{id n i q k:Nat}{e:TypeId}{es:List (List TV)}{sh:Bool}{v:TV}(ho:o.op = .load ty x)(hx:ev t x = .tV id n i q)(ht:t (.o id) = .row e k es sh)
  (h:(xW P ty=some false∧(es.getD i [])[q]? = some v)∨(∃z,xW P ty=some true∧qp P ty=some z∧q+z≤(es.getD i []).length∧v = .agg (((es.getD i []).drop q).take z))) :
  jD P A o t ⟨n=es.length∧i<es.length,pl x++[.o id],[],v⟩:=
 .pure fun⟨hn,hil⟩ t' hr a E hi=>by
  have hx':=dS hi x;rw[fZ (dw hr),hx]at hx'
  have ht':t' (.o id) = .row e k es sh:=(bg hr _ (by simp)).trans ht;subst hn;obtain⟨g,cap,us,h1,hu,h2,h3⟩:=Ll hi ht' hx';have hg:es[i]? = some (es.getD i []):=by simp[*]
  obtain⟨h4,h5⟩:=h3.get hg;simp only[dR]at h5;have hcell:∀j u,us[j]? = some u→E.w.cell? ⟨g,j,none⟩ = some u:=fun j u hj=>by rw[h2.cellAt j (by rw[←h2.1];grind)];omega
  rcases h with⟨h6,h7⟩|⟨z,h6,h7,h8,rfl⟩
  ·obtain⟨u,h8,h9,h10⟩:=h5.get h7;refine⟨u,?_,h10⟩;simp[execOp,ho,hu,Instr.loadAt,Instr.sureAddr,zq h6 (hcell _ _ h8)]
  ·have hc':=(h5.sub q z).vals;have hl:(((es.getD i []).drop q).take z).length=z:=by grind
   rw[hl]at hc'
   refine⟨.agg ((us.drop (i*k+q)).take z).toArray,?_,?_⟩
   ·simp only[execOp,ho,hu,Instr.loadAt,Instr.sureAddr,Sem.run_bind,Sem.run_pure,Result.andThen_ok,zo h6 h7 hc'.2 (FY hcell _ z)]
   ·simp only[aV];exact⟨_,rfl,hc'.1⟩
theorem abj{o:Oper}{t:S}{x:Operand}{ty e:TypeId}{xs:List (List D)}(ho:o.op = .call {callee:=.builtin .len,args:=#[x],argTypes:=#[ty]})(he:wI P ty=some e)(hx:ev t x = .d (.sl xs)):
  jD P A o t ⟨True,pl x,[],.d (.int .i64 xs.length)⟩:=
 .pure fun _ t' hr a E hi=>by
  have hx':=dS hi x;rw[fZ hr,hx]at hx'
  simp only[aV,Rep]at hx';unfold wI at he;split at he
  ·rename_i e' hu;have hlen:∃ad c,a.eval x = .slice ad xs.length c:=by grind
   obtain⟨ad,c,h⟩:=hlen;refine⟨_,?_,rfl⟩;simp[execOp,ho,resolve,invoke,builtin,h,Builtin.len_,run_underlying hu,goInt]
  trivial
theorem Y3{o:Oper}{t:S}{x:Operand}{ty e:TypeId}{ad:Option Addr}{n c:Nat}(ho:o.op = .call {callee:=.builtin .len,args:=#[x],argTypes:=#[ty]})(he:wI P ty=some e)(hx:ev t x = .c (.slice ad n c)):
  jD P A o t ⟨True,pl x,[],.d (.int .i64 n)⟩:=
 .pure fun _ t' hr a E hi=>by
  have hx':=dS hi x;rw[fZ hr,hx]at hx'
  simp only[aV]at hx';unfold wI at he;split at he
  ·rename_i e' hu;refine⟨_,?_,rfl⟩;simp[execOp,ho,resolve,invoke,builtin,hx',Builtin.len_,run_underlying hu,goInt]
  trivial
theorem Y5{o:Oper}{t:S}{x:Operand}{ty e:TypeId}{id n k:Nat}{e':TypeId}{es:List (List TV)}{sh:Bool}(ho:o.op = .call {callee:=.builtin .len,args:=#[x],argTypes:=#[ty]})(he:wI P ty=some e)(hx:ev t x = .bK id n)
  (ht:t (.o id) = .row e' k es sh):jD P A o t ⟨n=es.length,pl x++[.o id],[],.d (.int .i64 n)⟩:=
 .pure fun hC t' hr a E hi=>by
  have hx':=dS hi x;rw[fZ (dw hr),hx]at hx'
  have ht':t' (.o id) = .row e' k es sh:=by simp[*]
  subst hC;obtain⟨_,v,us,h2,h3,h4,h5⟩:=Bg hi ht';have hv:=h5 _ hx';unfold wI at he;split at he
  ·rename_i e' hu;have hlen:∃ad c,a.eval x = .slice ad es.length c:=by
    rcases h3.2 with⟨rfl,h0⟩|⟨g,cap,cur,rfl,_⟩
    ·simp[*]
    simp[*]
   obtain⟨ad,c,h⟩:=hlen;refine⟨_,?_,rfl⟩;simp[execOp,ho,resolve,invoke,builtin,h,Builtin.len_,run_underlying hu,goInt]
  trivial
theorem Y6{o:Oper}{t:S}{x:Operand}{ty:TypeId}{s:ByteArray}(ho:o.op = .call {callee:=.builtin .len,args:=#[x],argTypes:=#[ty]})(he:isStr P ty=true)(hx:ev t x = .d (.str s)):
  jD P A o t ⟨True,pl x,[],.d (.int .i64 s.size)⟩:=
 .pure fun _ t' hr a E hi=>by
  have hx':=dS hi x;rw[fZ hr,hx]at hx'
  simp only[aV,Rep]at hx';unfold isStr at he;split at he
  ·rename_i hu;refine⟨_,?_,rfl⟩;simp[execOp,ho,resolve,invoke,builtin,hx',Builtin.len_,run_underlying hu,goInt]
  trivial
end
end Go.Tr

namespace Go.Tr
open Go
section
variable {P:Program} {A:jL}
theorem Fr.next{E0 E E':En}(f:Fr E0 E)(os:E'.w.os=E.w.os)(tape:E'.w.tape=E.w.tape)(output:E'.w.output=E.w.output)(size:E.w.heap.size≤E'.w.heap.size)
  (old:∀b,b<E0.w.heap.size→(∀i,E0.blk (.x i)≠some b)→(∀j,E0.own (.o j)≠some b)→E'.w.heap[b]? = E.w.heap[b]?) (xb:∀i,E'.blk (.x i)=E.blk (.x i))
  (new:∀id b,E'.own (.o id)=some b→E.own (.o id)=some b∨E.w.heap.size≤b) (st:∀b o,E.St b o→E'.St b o)
  (AU:∀b o,E'.St b o→E.St b o∨(E0.w.heap.size≤b∨∃j,E0.own (.o j)=some b)):Fr E0 E':=
 ⟨os.trans f.os,tape.trans f.tape,output.trans f.output,aY f.size size,fun b h1 h2 h3=>(old b h1 h2 h3).trans (f.old b h1 h2 h3),fun i=>(xb i).trans (f.xb i),
  fun id b h=>(new id b h).elim (f.new id b) (fun h=>.inl (aY f.size h)),fun b o h=>st b o (f.st b o h),fun b o h=>(AU b o h).elim (f.AU b o) .inr⟩
theorem iI.step{t t':S}{a:Act}{E E':En}(h:iI A t a E)(hH:pX E' t')(x:uG E E')(fr:Fr A.E0 E')(hs:∀k,t' (.s k)=t (.s k)):iI A t' a E':=
 ⟨hH,fr,fun k tv hk=>by
  obtain⟨u,h1,h2⟩:=h.sl k tv (by simp_all);exact⟨u,h1,h2.up x⟩,h.defers,h.size⟩
theorem E8{t:S}{p:Pl}{i:It}(hp:∀k,p≠.s k)(k:Nat):upd t p i (.s k)=t (.s k):=by rw[upd,if_neg (fun e=>hp k e.symm)]
theorem iI.put{t:S}{a:Act}{E:En}(h:iI A t a E){d:Nat}(hd:d<A.N){tv:TV}{u:Value}(hr:aV E tv u):iI A (upd t (.s d) (.v tv)) (a.put (some d) u) E:=by
 have hsz:=h.size;refine⟨h.h.slot d _,h.fr,fun k tv' hk=>?_,h.defers,by grind[Act.put]⟩;by_cases e:k=d
 ·simp only[upd,if_true,It.v.injEq]at hk
  grind[Act.put]
 ·simp only[upd,Pl.s.injEq,e,if_false]at hk;obtain⟨u',h1,h2⟩:=h.sl k tv' hk
  grind[Act.put]
theorem upd_same(t:S)(p:Pl)(i:It):upd t p i p=i:=by simp[upd]
theorem iI.abZ{t:S}{a:Act}{E:En}(h:iI A t a E){d:Nat}(hd:t (.o d) = .none){us:Array Value}{cs:List TV}(hs:us.size=cs.length)(hc:eP E us.toList 0 cs)(ty:TypeId):
  ∃E':En,E'.w=E.w.alloc (.cells us ty)∧iI A (upd t (.o d) (.box cs)) a E'∧aV E' (.ptr (.o d) 0) (.pointer (some ⟨E.w.heap.size,0,none⟩)):=by
 have hfree:=h.h.item (.o d) (by simp);rw[hd]at hfree
 obtain⟨hb0,hv0⟩:=hfree d rfl
 let E':En:={w:=E.w.alloc (.cells us ty),St:=E.St,blk:=fun p=>if p = .o d then some E.w.heap.size else E.blk p,val:=E.val}
 have hold:∀b,b<E.w.heap.size→E'.w.heap[b]? = E.w.heap[b]? :=by grind[heap_alloc_old]
 have x:uG E E':=by
  refine⟨fun _ _ h=>h,fun b o hst=>jV (hold b (h.h.uP b o hst)),fun id b _ he=>?_,fun i b he=>by trivial,fun i b he=>by trivial,fun _ _ c v _ hv=>⟨c,v,hv,aI _,fun _=>rfl⟩⟩
  grind
 have hown:E'.own (.o d)=some E.w.heap.size:=by grind[En.own]
 have S9:∀q,q≠.o d→E'.own q=E.own q:=fun q hq=>En.qB (by grind) (fun _ _=>rfl)
 have hH:pX E' (upd t (.o d) (.box cs)):=by
  refine h.h.change (by simp) x (fun b o hst=>.inl hst) (fun q hq=>by grind) (fun id hid=>rfl) (by grind) (fun q b hq hb=>hold b (h.h.size q b hb)) (fun b hb=>?_) ?_ (fun b o hst hb=>?_)
  ·rw[hown]at hb;simp at hb;subst hb;exact⟨by simp[E'],.inr (aI _)⟩
  ·refine⟨fun id hid=>?_,E.w.heap.size,ty,us,by grind,heap_alloc_new E.w _,hs,hc.up x⟩
   grind
  ·rw[hown]at hb;simp at hb;subst hb
   exact absurd (h.h.uP _ _ hst) (by omega)
 refine⟨E',rfl,h.step hH x (h.fr.next rfl rfl rfl (by grind) (fun b hb _ _=>hold b (fC hb h.fr.size)) (fun i=>by rfl) (fun id b hb=>?_) (fun _ _ h=>h) (fun _ _ h=>.inl h)) (fun k=>E8 (by simp) k),?_⟩
 ·grind
 ·simp only[aV];grind
theorem Xr(E:En)(us:List Value)(h:us.all (·.oneCell')=true):eP E us 0 (us.map o7):=
 (Ah E us).cells (fun t ht=>by
  obtain⟨v,hv,rfl⟩:=ay.1 ht;have:=dN.1 h v hv;unfold o7;split<;>first|rfl|trivial)
def o9:Value→List Value
 | .agg cs=>cs.toList
 | v=>[v]
theorem vH(v:Value):o9 v=v.cells.toList:=by cases v<;>rfl
theorem aex{o:Oper}{t:S}{ty d:Nat}{z:Value}(ho:o.op = .alloc ty)(hz:wS P ty=some z)(h1:(o9 z).all (·.oneCell')=true):
  jD P A o t ⟨t (.o d) = .none,[.o d],[(.o d,.box ((o9 z).map o7))],.ptr (.o d) 0⟩:=fun hC t' hr a E hi=>by
 have ht':t' (.o d) = .none:=(hr _ (by simp)).trans hC;rw[vH]at h1
 obtain⟨E',hw,hinv,hrel⟩:=hi.abZ ht' (us:=z.cells) (cs:=(o9 z).map o7) (by simp[vH]) (by grind[vH,Xr]) ty;refine⟨_,_,E',?_,.inl rfl,hinv,hrel⟩;unfold wS at hz;cases mG:P.info? ty with
 | none=>simp_all
 | some inf=>simp only[mG,dH]at hz;simp[execOp,ho,Instr.alloc,zeroValue,typeInfo,mG,hz,newVar,newRow,hw]
theorem II{E:En}:∀{v:TV} {u:Value},aV E v u→(∀c∈v.cells,c.one=true)→u.cells.size=v.cells.length∧eP E u.cells.toList 0 v.cells:=by
 intro v u hr h1;have single:v.cells = [v]→u.cells.size=v.cells.length∧eP E u.cells.toList 0 v.cells:=by
  intro hv;rw[hv]at h1⊢
  have ho:=hr.one (h1 v (by simp));have hu:u.cells = #[u]:=by cases u<;>first|rfl|trivial
  rw[hu];exact⟨rfl,⟨u,rfl,ho,hr⟩,trivial⟩
 cases v with
 | agg vs=>obtain⟨us,rfl,hs⟩:=hr;exact⟨by simpa[Value.cells,TV.cells]using hs.length,hs.cells h1⟩
 | _=>exact single rfl
theorem ai0{o:Oper}{t:S}{ty d:Nat}{x:Operand}(ho:o.op = .box ty x):
  jD P A o t ⟨t (.o d) = .none∧∀c∈(ev t x).cells,c.one=true,pl x++[.o d],[(.o d,.box (ev t x).cells)],.ptr (.o d) 0⟩:=fun⟨hC,h1⟩ t' hr a E hi=>by
 have hx:=dS hi x;rw[fZ (dw hr)]at hx
 have ht':t' (.o d) = .none:=by simp[*]
 obtain⟨hs,hc⟩:=II hx h1;obtain⟨E',hw,hinv,hrel⟩:=hi.abZ ht' hs hc ty;refine⟨_,_,E',?_,.inl rfl,hinv,hrel⟩;simp[execOp,ho,Instr.box,newVar,newRow,hw]
def setAt(cs:List TV)(q:Nat)(vs:List TV):List TV:=cs.take q++(vs++cs.drop (q+vs.length))
theorem F7{cs vs:List TV}{q:Nat}(h:q+vs.length≤cs.length):(setAt cs q vs).length=cs.length:=by grind[setAt]
theorem O6{cs vs:List TV}{q:Nat}(h:q+vs.length≤cs.length)(i:Nat):(setAt cs q vs)[i]? = if i<q then cs[i]? else if i<q+vs.length then vs[i-q]? else cs[i]? :=by
 unfold setAt
 grind
theorem Jq{w:World}{b q:Nat}{ty:TypeId}{cur:Array Value}{e:TypeId}(hh:w.heap[b]? = some (.cells cur e (0,0))){v:Value}{z:Nat}(hz:qp P ty=some z)(hs:v.cells.size=z)
  (hl:q+z≤cur.size) (h1:∀u∈v.cells.toList,u.oneCell'=true) :
  (storeVar ty ⟨b,q,none⟩ v).run P w = .ok () (w.setRow b (cur.toList.take q++v.cells.toList++cur.toList.drop (q+v.cells.size)).toArray):=by
 have hst:=run_storeCells_at P b q e v.cells.toList 0 cur w hh (by simp[*]) h1;unfold qp at hz;cases mG:P.info? ty with
 | none=>simp_all
 | some inf=>simp only[mG,dF,aj]at hz;simp only[storeVar,sizeOf,typeInfo,Sem.run_bind,run_program,Result.andThen_ok,mG,Sem.run_pure,hs,hz,ne_eq,not_true_eq_false,if_false,pure_bind];simp[*]
theorem get_put{α:Type}{cur vs:List α}{q:Nat}(h:q+vs.length≤cur.length)(i:Nat):(cur.take q++vs++cur.drop (q+vs.length))[i]? = if i<q then cur[i]? else if i<q+vs.length then vs[i-q]? else cur[i]? :=by grind
theorem EX{w:World}{b:Nat}{cur:Array Value}{e:TypeId}(hh:w.heap[b]? = some (.cells cur e (0,0)))(cs:Array Value):(w.setRow b cs).heap[b]? = some (.cells cs e (0,0)):=
 setRow_heap w b cur cs e (0,0) hh
theorem Vg{o:Oper}{t:S}{ty:TypeId}{x y:Operand}{p:Pl}{q:Nat}{cs vs:List TV}(ho:o.op = .store ty x y)(hx:ev t x = .ptr p q)(ht:t p = .box cs)(hv:(ev t y).cells=vs)(hz:qp P ty=some vs.length):
  jD P A o t ⟨q+vs.length≤cs.length∧∀c∈vs,c.one=true,pl x++(pl y++[p]),[(p,.box (setAt cs q vs))],.junk⟩:=fun⟨hl,h1⟩ t' hr a E hi=>by
 have hx':=dS hi x;rw[fZ (dw hr),hx]at hx'
 have hy':=dS hi y;rw[fZ (dw (bg hr))]at hy'
 have ht':t' p = .box cs:=(bg (bg hr) _ (by simp)).trans ht;obtain⟨hs,hc⟩:=II hy' (by simp_all);rw[hv]at hs hc
 obtain⟨b,ty',us,hu,hb,hh,hus,hcs⟩:=Xq hi ht' hx';have hp:∀k,p≠.s k:=by rintro k rfl;rw[hi.h.frees k]at hb;trivial
 have hob:E.own p=some b:=by simp[En.own,hb]
 have hone:∀u∈(a.eval y).cells.toList,u.oneCell'=true:=fun u hu=>by
  obtain⟨i,hi',rfl⟩:=jC hu;have hlt:i<vs.length:=by grind
  obtain⟨u',h2,h3,_⟩:=hc.get (i:=i) (t:=vs[i]) (by simp)
  simp_all
 let arr:Array Value:=(us.toList.take q++(a.eval y).cells.toList++us.toList.drop (q+(a.eval y).cells.size)).toArray
 have hrun:=Jq (P:=P) hh (b:=b) (q:=q) (v:=a.eval y) hz hs (by omega) hone
 let E':En:={E with w:=E.w.setRow b arr}
 have hother:∀b',b'≠b→E'.w.heap[b']? = E.w.heap[b']? :=fun b' hne=>setRow_other E.w b b' _ hne
 have ano:∀b' o',E.St b' o'→b'≠b:=fun b' o' hst e=>by
  subst e;obtain⟨e',k',es',h2,_⟩:=hi.h.sep _ _ hst p hob
  simp_all
 have x:uG E E':=⟨fun _ _ h=>h,fun b' o' hst=>jV (hother b' (ano b' o' hst)),fun _ _ _ h=>h,fun _ _ h=>h,fun _ _ h=>h,fun _ _ c v _ hv=>⟨c,v,hv,aI _,fun _=>rfl⟩⟩
 have harr:arr.size=us.size:=by grind
 have hsz:E'.w.heap.size=E.w.heap.size:=by grind[World.setRow]
 have hH:pX E' (upd t' p (.box (setAt cs q vs))):=by
  refine hi.h.change hp x (fun b o hst=>.inl hst) (fun q hq=>rfl) (fun id hid=>rfl) (by omega) (fun q' b' hq hb'=>hother b' (fun e=>hq (hi.h.inj _ _ _ (e▸hb') hob)))
   (fun b' hb'=>?_) ?_ (fun b' o' hst hb'=>?_)
  ·have:E'.own p=E.own p:=rfl
   grind
  ·have hold:=hi.h.item p hp;rw[ht']at hold
   refine⟨hold.1,b,ty',arr,hb,EX hh arr,by rw[harr,hus,F7 hl],eP.lq fun i tv hi'=>?_⟩;rw[O6 hl]at hi'
   have hget:=get_put (cur:=us.toList) (vs:=(a.eval y).cells.toList) (q:=q) (by simp[*]) i;simp only[iZ,hs]at hget;simp only[arr,dR,List.toList_toArray,hs,hget];by_cases h2:i<q
   ·rw[if_pos h2]at hi'⊢
    obtain⟨u,h3,h4,h5⟩:=hcs.get hi';exact⟨u,by simp_all,h4,h5.up x⟩
   ·rw[if_neg h2]at hi'⊢
    by_cases h3:i<q+vs.length
    ·rw[if_pos h3]at hi'⊢
     obtain⟨u,h3,h4,h5⟩:=hc.get hi';exact⟨u,by simpa using h3,h4,h5.up x⟩
    ·rw[if_neg h3]at hi'⊢
     obtain⟨u,h3,h4,h5⟩:=hcs.get hi';exact⟨u,by simpa using h3,h4,h5.up x⟩
  ·have he:E'.own p=E.own p:=rfl;rw[he,hob]at hb'
   exact absurd (Option.some.inj hb').symm (ano b' o' hst)
 refine⟨.skip,undef,E',?_,.inr ⟨rfl,rfl⟩,hi.step hH x (hi.fr.next rfl rfl rfl (by rw[hsz];exact aI _) (fun b' h2 h3 h4=>hother b' (fun e=>?_)) (fun _=>rfl) (fun id b' hb'=>.inl hb') (fun _ _ h=>h) (fun _ _ h=>.inl h)) (fun k=>E8 hp k),by simp only[aV]⟩
 ·simp only[execOp,ho,hu,Instr.storeAt,Instr.sureAddr,Sem.run_bind,Sem.run_pure,Result.andThen_ok,hrun,E',arr]
 ·subst e;cases p with
  | s k=>exact hp k rfl
  | x k=>exact h3 k ((hi.fr.xb k).symm.trans hb)
  | o id=>exact(hi.fr.new id b' hob).elim (fun h=>by omega) (fun⟨j,h⟩=>h4 j h)
end
end Go.Tr

namespace Go.Tr
open Go
section
variable {P:Program} {A:jL}
theorem iI.QL{t:S}{a:Act}{E:En}(hi:iI A t a E){id k:Nat}{e:TypeId}{es es':List (List TV)}{sh sh':Bool}(ht:t (.o id) = .row e k es sh)
  {v v':Value} {us':List Value} {w':World} (hval:E.val id=some (k,es.length,v)) (hg:E.w.grownBy w' v.ownBlock) (hown:w'.ownsRow 0 e k v' es'.length us')
  (hle:es.length≤es'.length) (heq:es.length=es'.length→v'=v) (hob:v'.ownBlock=v.ownBlock∨v'.ownBlock=some E.w.heap.size)
  (hst:∀b o,E.St b o→U0 w' b o=U0 E.w b o) (hsh:sh=true→sh'=true)
  (hrel:∀E':En,E'.w=w'→uG E E'→iJ E' us' k 0 es') :
  ∃E':En,E'.w=w'∧uG E E'∧iI A (upd t (.o id) (.row e k es' sh')) a E'∧E'.val id=some (k,es'.length,v'):=by
 have hit:=hi.h.item (.o id) (by simp);rw[ht]at hit
 obtain⟨hb0,_⟩:=hit;have oK:E.own (.o id)=v.ownBlock:=by grind[En.own]
 let E':En:={E with w:=w',val:=fun i=>if i=id then some (k,es'.length,v')else E.val i}
 have hv':E'.val id=some (k,es'.length,v'):=by grind
 have JO:E'.own (.o id)=v'.ownBlock:=by grind[En.own]
 have x:uG E E':=by
  refine⟨fun _ _ h=>h,hst,fun _ _ _ h=>h,fun _ _ h=>h,fun _ _ h=>h,fun i k' c u _ hu=>?_⟩
  grind
 have ag7:∀q b,q≠.o id→E.own q=some b→w'.heap[b]? = E.w.heap[b]? :=fun q b hq hb=>by refine hg.block b (hi.h.size q b hb) (fun e=>hq (hi.h.inj _ _ b hb ?_));simp[*]
 have hH:pX E' (upd t (.o id) (.row e k es' sh')):=by
  refine hi.h.change (by simp) x (fun b o h=>.inl h) (fun q hq=>rfl) (fun i hne=>?_) hg.size ag7 (fun b hb=>?_) ⟨hb0,id,v',us',rfl,hv',hown,hrel E' rfl x⟩ (fun b o hs hb=>?_)
  ·grind
  ·rw[JO]at hb
   rw[oK];exact⟨(hown.lt b hb).2,hob.elim (fun e=>.inl (e▸hb)) (fun e=>.inr (by simp_all))⟩
  ·rw[JO]at hb
   rcases hob with e'|e'
   ·obtain⟨e2,k2,es2,h1,h2⟩:=hi.h.sep b o hs (.o id) (by rw[oK,←e',hb]);rw[ht]at h1
    simp only[It.row.injEq]at h1;obtain⟨rfl,rfl,rfl,hs1⟩:=h1;exact⟨e,k,es',by rw[hsh hs1],fC h2 (f_ _ hle)⟩
   ·rw[e']at hb;simp at hb
    have:=hi.h.uP _ _ hs;omega
 refine⟨E',rfl,x,hi.step hH x (hi.fr.next hg.os hg.tape hg.output hg.size (fun b h1 h2 h3=>hg.block b (fC h1 hi.fr.size) (fun e=>?_)) (fun _=>rfl) (fun i b hb=>?_) (fun _ _ h=>h) (fun _ _ h=>.inl h)) (fun k=>E8 (by simp) k),hv'⟩
 ·exact(hi.fr.new id b (by rw[oK,←e])).elim (fun h=>by omega) (fun⟨j,h⟩=>h3 j h)
 ·by_cases e:i=id
  ·grind
  ·have:E'.own (.o i)=E.own (.o i):=En.qB rfl (fun j hj=>by grind)
   simp_all
theorem yK{α:Type}{l:List α}{i:Nat}(h:i<l.length)(v:α)(j:Nat):(l.set i v)[j]? = if j=i then some v else l[j]? :=by grind
theorem Vh{o:Oper}{t:S}{ty:TypeId}{x y:Operand}{id n i q k:Nat}{e:TypeId}{es:List (List TV)}{vs:List TV}(ho:o.op = .store ty x y)(hx:ev t x = .tV id n i q)(ht:t (.o id) = .row e k es false)
  (hv:(ev t y).cells=vs) (hz:qp P ty=some vs.length) :
  jD P A o t ⟨n=es.length∧i<es.length∧q+vs.length≤(es.getD i []).length∧∀c∈vs,c.one=true,pl x++(pl y++[.o id]),[(.o id,.row e k (es.set i (setAt (es.getD i []) q vs)) false)],.junk⟩:=fun⟨hn,hil,hl,h1⟩ t' hr a E hi=>by
 have hx':=dS hi x;rw[fZ (dw hr),hx]at hx'
 have hy':=dS hi y;rw[fZ (dw (bg hr))]at hy'
 have ht':t' (.o id) = .row e k es false:=(bg (bg hr) _ (by simp)).trans ht;subst hn;obtain⟨hs,hc⟩:=II hy' (by simp_all);rw[hv]at hs hc
 obtain⟨g,cap,us,hval,hu,hown,hrow⟩:=Ll hi ht' hx';have hone:∀u∈(a.eval y).cells.toList,u.oneCell'=true:=fun u hu=>by
  obtain⟨i,hi',rfl⟩:=jC hu;have hlt:i<vs.length:=by grind
  obtain⟨u',h2,h3,_⟩:=hc.get (i:=i) (t:=vs[i]) (by simp)
  simp_all
 have aso:es[i]? = some (es.getD i []):=by simp[*]
 obtain⟨hlen,hcell⟩:=hrow.get aso;simp only[dR]at hcell;rcases hown.2 with⟨h4,_⟩|⟨g',cap',cur,h4,hg0,hgg,hnc,hcm,hcs,htake⟩
 ·omega
 simp only[Value.slice.injEq,aj,Addr.mk.injEq,true_and,and_true]at h4;obtain⟨rfl,rfl⟩:=h4;have hmul:i*k+k≤es.length*k:=by
  have:(i+1)*k≤es.length*k:=f_ k hil
  grind
 have aun:es.length*k≤cap*k:=f_ k hnc
 let arr:Array Value:=(cur.toList.take (i*k+q)++(a.eval y).cells.toList++cur.toList.drop (i*k+q+(a.eval y).cells.size)).toArray
 have hrun:=Jq (P:=P) hgg (q:=i*k+q) (v:=a.eval y) hz hs (by omega) hone;have harr:arr.size=cur.size:=by grind
 have hget:=get_put (cur:=cur.toList) (vs:=(a.eval y).cells.toList) (q:=i*k+q) (by grind);simp only[iZ,hs]at hget
 let us':=arr.toList.take (es.length*k)
 have OB:∀j,j<es.length*k→us'[j]? = if j<i*k+q then us[j]? else if j<i*k+q+vs.length then(a.eval y).cells.toList[j-(i*k+q)]? else us[j]? :=fun j hj=>by grind
 have Oz:E.w.grownBy (E.w.setRow g arr) (Value.ownBlock (.slice (some ⟨g,0,none⟩) es.length cap)):=
  ⟨rfl,rfl,rfl,by simp,fun b _ hne=>setRow_other E.w g b _ (fun e=>hne (by grind[Value.ownBlock]))⟩
 have hes:(es.set i (setAt (es.getD i []) q vs)).length=es.length:=by simp
 have ajd:E.own (.o id)=some g:=by
  have hit:=hi.h.item (.o id) (by simp);rw[ht']at hit
  simp[En.own,hit.1,hval,Value.ownBlock]
 obtain⟨E',hw',x,hinv,hval'⟩:=hi.QL ht' (v':=.slice (some ⟨g,0,none⟩) es.length cap) (us':=us') (es':=es.set i (setAt (es.getD i []) q vs)) (sh':=false) hval Oz
  (by
   rw[hes];refine⟨by grind,.inr ⟨g,cap,arr,rfl,hg0,EX hgg arr,hnc,hcm,by rw[harr,hcs],rfl⟩⟩)
  (by omega) (fun _=>rfl) (.inl rfl)
  (fun b o' hst=>by
   by_cases e:b=g
   ·subst e;obtain⟨e',k',es',h2,_⟩:=hi.h.sep _ _ hst _ ajd;rw[ht']at h2;simp at h2
   grind[jV,setRow_other])
  (fun h=>h)
  (fun E' hw' x=>iJ.lq fun i' el hel=>by
   rw[yK hil]at hel
   have hlt:i'<es.length:=by
    by_cases e:i'=i
    ·omega
    ·rw[if_neg e]at hel;exact(aA.1 hel).1
   have hm':i'*k+k≤es.length*k:=by
    have:(i'+1)*k≤es.length*k:=f_ k hlt
    rwa [dX,Nat.one_mul]at this
   by_cases e:i'=i
   ·subst e;rw[if_pos rfl]at hel
    simp only[aj]at hel;subst hel;refine⟨by rw[F7 hl,hlen],eP.lq fun j tv hj=>?_⟩;rw[O6 hl]at hj
    have hjk:j<k:=by
     by_cases h2:j<q
     ·omega
     ·rw[if_neg h2]at hj
      by_cases h3:j<q+vs.length
      ·omega
      ·rw[if_neg h3]at hj;have:=(aA.1 hj).1;omega
    rw[dR,OB _ (by omega)];by_cases h2:j<q
    ·rw[if_pos h2]at hj
     rw[if_pos (by omega)];obtain⟨u,h5,h6,h7⟩:=hcell.get hj;exact⟨u,h5,h6,h7.up x⟩
    ·rw[if_neg h2]at hj
     rw[if_neg (by omega)];by_cases h3:j<q+vs.length
     ·rw[if_pos h3]at hj
      rw[if_pos (by omega)];obtain⟨u,h5,h6,h7⟩:=hc.get hj;refine⟨u,?_,h6,h7.up x⟩;rw[show i'*k+j-(i'*k+q)=j-q by omega];simpa using h5
     ·rw[if_neg h3]at hj
      rw[if_neg (by omega)];obtain⟨u,h5,h6,h7⟩:=hcell.get hj;exact⟨u,h5,h6,h7.up x⟩
   ·rw[if_neg e]at hel
    obtain⟨h8,h9⟩:=hrow.get hel;refine⟨h8,eP.lq fun j tv hj=>?_⟩;have hjk:j<k:=by have:=(aA.1 hj).1;omega
    rw[dR,OB _ (by omega)];obtain⟨u,h5,h6,h7⟩:=h9.get hj;simp only[dR]at h5;refine⟨u,?_,h6,h7.up x⟩;by_cases h2:i'*k+j<i*k+q
    ·rw[if_pos h2];exact h5
    ·rw[if_neg h2,if_neg ?_]
     ·exact h5
     ·intro h3;rcases Nat.lt_or_gt_of_ne e with h4|h4
      ·have:(i'+1)*k≤i*k:=f_ k h4;rw[dX,Nat.one_mul]at this;omega
      ·have:(i+1)*k≤i'*k:=f_ k h4;rw[dX,Nat.one_mul]at this;omega)
 refine⟨.skip,undef,E',?_,.inr ⟨rfl,rfl⟩,hinv,by simp only[aV]⟩
 grind[execOp,Instr.storeAt,Instr.sureAddr,Sem.run_bind,Sem.run_pure,Result.andThen_ok]
end
end Go.Tr
