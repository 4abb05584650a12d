/-
  What functions of the program compute, stated as contracts over plain data; the conditions of each stand in its own statement.
-/
import Derived.Test.YtboimfkommpglaaGreatDoorZB02
import Derived.Laws.IdiomStrings
import Derived.Laws.StructEq
import Derived.MapKept
set_option linter.unusedSimpArgs false
namespace Go.Tr
open Go
section
variable {P:Program} {A:jL}
theorem jD.of{o:Oper}{t:S}{C:Prop}{rp:List Pl}{W:List (Pl×It)}{v:TV}(h:C→jD P A o t ⟨True,rp,W,v⟩):jD P A o t ⟨C,rp,W,v⟩:=fun hC=>h hC trivial
def Ju :TV→Option (IntKind×Int)
 | .d (.int k n)=>some (k,n)
 | _=>none
def Xx(n:Nat)(lo hi:Option TV):Option (Prop×Nat×Nat):=
 match hi with
 | none=>match lo with
   | none=>some (True,0,n)
   | some l=>match Ju l with
     | some (_,l)=>some (0≤l∧l≤n,l.toNat,n)
     | none=>none
 | some h=>match Ju h with
   | none=>none
   | some (_,h)=>match lo with
     | none=>some (0≤h∧h≤n,0,h.toNat)
     | some l=>match Ju l with
       | some (_,l)=>some ((0≤h∧h≤n)∧0≤l∧l≤h,l.toNat,h.toNat)
       | none=>none
theorem NQ{E:En}{v:TV}{u:Value}{k:IntKind}{n:Int}(h:Ju v=some (k,n))(hr:aV E v u):u = .int k n:=by
 unfold Ju at h;split at h
 ·obtain⟨rfl,rfl⟩:=h
  trivial
 trivial
theorem vS{isS:Bool}{n cap:Nat}{lo hi:Option TV}{C:Prop}{l h:Nat}(hc:Xx n lo hi=some (C,l,h))(hC:C)(hn:n≤cap){E:En}{ulo uhi:Option Value}
  (h1:∀v,lo=some v→∃u,ulo=some u∧aV E v u) (h1':lo=none→ulo=none) (h2:∀v,hi=some v→∃u,uhi=some u∧aV E v u) (h2':hi=none→uhi=none) (w:World) :
  (Instr.sliceBounds isS n cap ulo uhi none).run P w = .ok (l,h,cap) w∧l≤h∧h≤n:=by
 unfold Xx at hc;split at hc
 ·rw[h2' rfl];split at hc
  ·simp only[aj,aK]at hc;obtain⟨_,rfl,rfl⟩:=hc;rw[h1' rfl];simp[Instr.sliceBounds]
  ·rename_i lv;split at hc
   ·rename_i k q hq;simp only[aj,aK]at hc;obtain⟨rfl,rfl,rfl⟩:=hc;obtain⟨u,hu,hr⟩:=h1 _ rfl;have:=NQ hq hr;subst this;rw[hu];exact⟨by simp[Instr.sliceBounds,Instr.sliceBound,asIntOf,hC.1,hC.2],by omega,by omega⟩
   trivial
 ·rename_i hv;obtain⟨uh,huh,Qc⟩:=h2 _ rfl;rw[huh];split at hc
  ·trivial
  ·rename_i k q hq;have:=NQ hq Qc;subst this;split at hc
   ·simp only[aj,aK]at hc;obtain⟨rfl,rfl,rfl⟩:=hc;rw[h1' rfl];have:q≤(cap:Int):=by omega
    exact⟨by simp[Instr.sliceBounds,Instr.sliceBound,asIntOf,hC.1,this],by omega,by omega⟩
   ·rename_i lv;split at hc
    ·rename_i k' q' hq';simp only[aj,aK]at hc;obtain⟨rfl,rfl,rfl⟩:=hc;obtain⟨u,hu,hr⟩:=h1 _ rfl;have:=NQ hq' hr;subst this;rw[hu];have h3:q≤(cap:Int):=by omega
     have h4:q'≤((q.toNat:Nat):Int):=by omega
     exact⟨by simp only[Instr.sliceBounds,Instr.sliceBound,asIntOf,Sem.run_bind,Sem.run_pure,Result.andThen_ok,Sem.run_ite,hC.1.1,h3,hC.2.1,h4,and_self,if_true,pure_bind],by omega,by omega⟩
    ·simp at hc
theorem QI{t:S}{a:Act}{E:En}(hi:iI A t a E)(x:Option Operand):(∀v,x.map (ev t)=some v→∃u,x.map a.eval=some u∧aV E v u)∧(x.map (ev t)=none→x.map a.eval=none):=by
 cases x with
 | none=>simp
 | some x=>grind[dS]
def plO:Option Operand→List Pl
 | some x=>pl x
 | none=>[]
theorem XM{t t':S}{x:Option Operand}(h:∀p∈plO x,t' p=t p):x.map (ev t')=x.map (ev t):=by
 cases x with
 | none=>rfl
 | some x=>simp[fZ h]
theorem XJ{o:Oper}{t:S}{ty e k:Nat}{x:Operand}{lo hi:Option Operand}{xs:List (List D)}{C:Prop}{l h:Nat}(ho:o.op = .slice ty x lo hi none)(he:wI P ty=some e)(hk:qp P e=some k)(hx:ev t x = .d (.sl xs))
  (hc:Xx xs.length (lo.map (ev t)) (hi.map (ev t))=some (C,l,h)):jD P A o t ⟨C∧∀e∈xs,e.length=k,pl x++(plO lo++plO hi),[],.d (.sl ((xs.take h).drop l))⟩:=
 .pure fun⟨hC,hlen⟩ t' hr a E hin=>by
  have hx':=dS hin x;rw[fZ (dw hr),hx]at hx'
  have hlo:=QI hin lo;rw[XM (dw (bg hr))]at hlo
  have hhi:=QI hin hi;rw[XM (bg (bg hr))]at hhi
  unfold wI at he;split at he
  rotate_left
  ·trivial
  rename_i e' hu;simp only[aj]at he;subst he;unfold qp at hk;cases mG:P.info? e' with
  | none=>simp_all
  | some inf=>
  simp only[mG,dF,aj]at hk;simp only[aV,Rep]at hx';rcases hx' with⟨h0,ad,c,Vm⟩|⟨b,of,c,k',Vm,hcc,hrows⟩
  ·rw[h0]at hc
   obtain⟨hb,hlh,hhn⟩:=vS (P:=P) (isS:=true) (cap:=c) hc hC (og _) hlo.1 hlo.2 hhi.1 hhi.2 E.w;have hl0:l=0:=by omega
   have hh0:h=0:=by omega
   subst hl0;subst hh0;refine⟨.slice (if c=0 then ad else ad.map (·.add (0*k))) 0 c,?_,?_⟩
   ·simp only[execOp,ho,Instr.sliceAt,Sem.run_bind,run_underlying hu,Result.andThen_ok,Vm,o8,Instr.slice,hb,sizeOf,typeInfo,run_program,mG,Sem.run_pure,hk,pW]
   ·simp only[aV,Rep];simp
  ·obtain⟨hb,hlh,hhn⟩:=vS (P:=P) (isS:=true) (cap:=c) hc hC hcc hlo.1 hlo.2 hhi.1 hhi.2 E.w;refine⟨.slice (if c=l then some ⟨b,of,none⟩else some ⟨b,of+l*k,none⟩) (h-l) (c-l),?_,?_⟩
   ·simp only[execOp,ho,Instr.sliceAt,Sem.run_bind,run_underlying hu,Result.andThen_ok,Vm,o8,Instr.slice,hb,sizeOf,typeInfo,run_program,mG,Sem.run_pure,hk,dF,qK]
   ·have hln:((xs.take h).drop l).length=h-l:=by simp[*]
    simp only[aV,Rep];by_cases hz:h-l=0
    ·simp[*]
    ·refine .inr ⟨b,of+l*k,c-l,k,?_,by omega,mV.lq fun i el hel=>?_⟩
     ·rw[if_neg (by omega),hln]
     ·have aje:xs[l+i]? = some el:=by
       rw[jv,eG]at hel
       split at hel
       ·exact hel
       ·simp at hel
      obtain⟨h3,h4⟩:=hrows.get aje;have hkk:el.length=k:=hlen el (bU aje);have:k'=k:=by omega
      subst this;refine⟨h3,?_⟩
      rwa [dX,←aX]at h4
theorem Vf{o:Oper}{t:S}{ty:Nat}{x:Operand}{lo hi:Option Operand}{s:ByteArray}{C:Prop}{l h:Nat}(ho:o.op = .slice ty x lo hi none)(he:isStr P ty=true)(hx:ev t x = .d (.str s))
  (hc:Xx s.size (lo.map (ev t)) (hi.map (ev t))=some (C,l,h)):jD P A o t ⟨C,pl x++(plO lo++plO hi),[],.d (.str (s.extract l h))⟩:=
 .pure fun hC t' hr a E hin=>by
  have hx':=dS hin x;rw[fZ (dw hr),hx]at hx'
  have hlo:=QI hin lo;rw[XM (dw (bg hr))]at hlo
  have hhi:=QI hin hi;rw[XM (bg (bg hr))]at hhi
  unfold isStr at he;split at he
  ·rename_i hu;simp only[aV,Rep]at hx';obtain⟨hb,hlh,hhn⟩:=vS (P:=P) (isS:=false) (cap:=s.size) hc hC (aI _) hlo.1 hlo.2 hhi.1 hhi.2 E.w;refine⟨.string (s.extract l h),?_,by rfl⟩;simp only[execOp,ho,Instr.sliceAt,Sem.run_bind,run_underlying hu,Result.andThen_ok,hx',o8,Instr.slice,jK,bI,if_false,hb,Sem.run_pure,pure_bind]
  trivial
def TD(k:IntKind)(a b:Int):TV:=.d (.int k (if b<a then b else a))
def abX(k:IntKind)(a b:Int):TV:=.d (.int k (if b>a then b else a))
theorem ai2{o:Oper}{t:S}{x y:Operand}{tys:Array TypeId}{k k':IntKind}{a b:Int}(ho:o.op = .call {callee:=.builtin .min,args:=#[x,y],argTypes:=tys})(hx:ev t x = .d (.int k a))(hy:ev t y = .d (.int k' b)):
  jD P A o t ⟨True,pl x++pl y,[],TD k a b⟩:=
 .pure fun _ t' hr ac E hi=>by
  have hx':=dS hi x;rw[fZ (dw hr),hx]at hx'
  have hy':=dS hi y;rw[fZ (bg hr),hy]at hy'
  simp only[aV,Rep]at hx' hy';refine⟨.int k (if b<a then b else a),?_,by rfl⟩;simp[execOp,ho,resolve,invoke,builtin,Builtin.min_,hx',hy',Builtin.min2]
theorem ai1{o:Oper}{t:S}{x y:Operand}{tys:Array TypeId}{k k':IntKind}{a b:Int}(ho:o.op = .call {callee:=.builtin .max,args:=#[x,y],argTypes:=tys})(hx:ev t x = .d (.int k a))(hy:ev t y = .d (.int k' b)):
  jD P A o t ⟨True,pl x++pl y,[],abX k a b⟩:=
 .pure fun _ t' hr ac E hi=>by
  have hx':=dS hi x;rw[fZ (dw hr),hx]at hx'
  have hy':=dS hi y;rw[fZ (bg hr),hy]at hy'
  simp only[aV,Rep]at hx' hy';refine⟨.int k (if b>a then b else a),?_,by rfl⟩;simp[execOp,ho,resolve,invoke,builtin,Builtin.max_,hx',hy',Builtin.max2]
theorem Nc{ty:TypeId}(h:xW P ty=some false){cs:Array Value}{q:Nat}{u:Value}(hc:cs[q]? = some u)(w:World):(part ty cs q).run P w = .ok u w:=by
 unfold xW at h;cases hu:P.underlying ty with
 | none=>simp_all
 | some d=>
   have:(isAgg ty).run P w = .ok false w:=by unfold isAgg;rw[Sem.run_bind,run_underlying hu w];cases d<;>simp_all
   simp[part,this,hc]
theorem Yv{ty z:Nat}(h:xW P ty=some true)(hz:qp P ty=some z){cs:Array Value}{q:Nat}(w:World):(part ty cs q).run P w = .ok (.agg (cs.extract q (q+z))) w:=by
 unfold xW at h;cases hu:P.underlying ty with
 | none=>simp_all
 | some d=>
   have:(isAgg ty).run P w = .ok true w:=by unfold isAgg;rw[Sem.run_bind,run_underlying hu w];cases d<;>simp_all
   unfold qp at hz;cases mG:P.info? ty with
   | none=>simp_all
   | some inf=>simp only[mG,dF,aj]at hz;simp[part,this,sizeOf,typeInfo,mG,hz]
def partT(P:Program)(ty:TypeId)(vs:List TV)(q:Nat):Option TV:=
 match xW P ty with
 | some false=>vs[q]?
 | some true=>match qp P ty with
   | some z=>some (.agg ((vs.drop q).take z))
   | none=>none
 | none=>none
theorem b_.sub{E:En}{ts:List TV}{us:List Value}(h:b_ E ts us)(q z:Nat):b_ E ((ts.drop q).take z) ((us.drop q).take z):=
 b_.lq (by simp[h.length]) fun i t u ht hu=>by
  rw[eG]at ht hu
  split at ht
  ·rename_i hi;rw[jv]at ht
   obtain⟨u',h1,h2⟩:=h.get ht
   simp_all
  trivial
theorem I7{ty:TypeId}{vs:List TV}{q:Nat}{v:TV}(h:partT P ty vs q=some v){E:En}{us:Array Value}(hr:b_ E vs us.toList):∃u,(part ty us q).run P E.w = .ok u E.w∧aV E v u:=by
 unfold partT at h;split at h
 ·obtain⟨u,h1,h2⟩:=hr.get h
  grind[Nc]
 ·rename_i hs;split at h
  ·rename_i z hz;simp only[aj]at h;subst h;refine⟨_,Yv hs hz _,?_⟩;refine⟨_,rfl,?_⟩;have:=hr.sub q z;simp[*]
  trivial
 trivial
theorem aeA{o:Oper}{t:S}{ty f off:Nat}{ft:TypeId}{x:Operand}{vs:List TV}{v:TV}(ho:o.op = .field ty x f)(hf:wL P ty f=some (off,ft))(hx:ev t x = .agg vs)(hv:partT P ft vs off=some v):
  jD P A o t ⟨True,pl x,[],v⟩:=
 .pure fun _ t' hr a E hi=>by
  have hx':=dS hi x;rw[fZ hr,hx]at hx'
  obtain⟨us,hu,hrs⟩:=hx';obtain⟨u,h1,h2⟩:=I7 hv hrs;refine⟨u,?_,h2⟩;unfold wL at hf;split at hf
  ·rename_i fs hfs;cases hff:fs[f]? with
   | none=>simp_all
   | some g=>simp only[hff,dF,aj,aK]at hf;obtain⟨rfl,rfl⟩:=hf;simp[execOp,ho,hu,Instr.field,run_underlying hfs,hff,asAgg,h1]
  trivial
theorem U9{o:Oper}{t:S}{ty n e k:Nat}{x ix:Operand}{vs:List TV}{v:TV}{ik:IntKind}{i:Int}(ho:o.op = .index ty x ix)(he:arE P ty=some (n,e))(hk:qp P e=some k)(hx:ev t x = .agg vs)(hix:ev t ix = .d (.int ik i))
  (hv:partT P e vs (i.toNat*k)=some v):jD P A o t ⟨0≤i∧i<n,pl x++pl ix,[],v⟩:=
 .pure fun⟨h0,h1⟩ t' hr a E hi=>by
  have hx':=dS hi x;rw[fZ (dw hr),hx]at hx'
  have hix':=dS hi ix;rw[fZ (bg hr),hix]at hix'
  simp only[aV,Rep]at hx' hix';obtain⟨us,hu,hrs⟩:=hx';obtain⟨u,h2,h3⟩:=I7 hv hrs;refine⟨u,?_,h3⟩;unfold arE at he;split at he
  ·rename_i n' e' hun;simp only[aj,aK]at he;obtain⟨rfl,rfl⟩:=he;unfold qp at hk;cases mG:P.info? e' with
   | none=>simp_all
   | some inf=>simp only[mG,dF,aj]at hk;simp[execOp,ho,hu,hix',Instr.index,asIntOf,run_underlying hun,h0,h1,sizeOf,typeInfo,mG,hk,h2]
  trivial
theorem U_{o:Oper}{t:S}{ty:Nat}{x ix:Operand}{s:ByteArray}{ik:IntKind}{i:Int}(ho:o.op = .index ty x ix)(he:isStr P ty=true)(hx:ev t x = .d (.str s))(hix:ev t ix = .d (.int ik i)):
  jD P A o t ⟨0≤i∧i<s.size,pl x++pl ix,[],.d (.int .u8 (s.data.getD i.toNat 0).toNat)⟩:=
 .pure fun⟨h0,h1⟩ t' hr a E hi=>by
  have hx':=dS hi x;rw[fZ (dw hr),hx]at hx'
  have hix':=dS hi ix;rw[fZ (bg hr),hix]at hix'
  simp only[aV,Rep]at hx' hix';unfold isStr at he;split at he
  ·rename_i hu;have hlt:i.toNat<s.size:=by omega
   refine⟨.int .u8 (s[i.toNat]).toNat,?_,?_⟩
   ·simp[execOp,ho,hx',hix',Instr.index,asIntOf,run_underlying hu,h0,hlt]
   ·simp only[aV,Rep];have hlt':i.toNat<s.data.size:=hlt;simp[Array.getD,hlt',hlt,ByteArray.getElem_eq_getElem_data]
  trivial
end
end Go.Tr

namespace Go.Tr
open Go
def u8s:List (List D)→Option (List Int)
 | []=>some []
 | [.int .u8 n]::l=>match u8s l with
   | some ns=>some (n::ns)
   | none=>none
 | _=>none
def strOf(ns:List Int):ByteArray:=ns.foldl (fun r n=>r.push (UInt8.ofNat n.toNat)) ByteArray.empty
def u8K(P:Program)(ty:TypeId):Bool:=
 match P.underlying ty with
 | some (.int .u8)=>true
 | _=>false
section
variable {P:Program} {A:jL}
theorem Xi{E:En}{b k:Nat}:∀{xs:List (List D)} {ns:List Int} {o:Nat},u8s xs=some ns→mV E b k o xs→xs.length=ns.length∧∀j n,ns[j]? = some n→E.w.cell? ⟨b,o+j,none⟩ = some (.int .u8 n)
 | [],ns,o,h,_=>by grind[u8s]
 | e::l,ns,o,h,hr=>by
   unfold u8s at h;split at h
   ·trivial
   ·rename_i n l' heq;obtain⟨rfl,rfl⟩:=heq;split at h
    ·rename_i ns' h';simp only[aj]at h;subst h;simp only[mV]at hr;obtain⟨h1,h2,h3⟩:=hr;simp only[aT,eY,dR]at h1;subst h1;obtain⟨g1,g2⟩:=Xi h' h3
     grind[gq,Rep]
    trivial
   trivial
theorem aez{o:Oper}{t:S}{sr ds e:TypeId}{x:Operand}{xs:List (List D)}{ns:List Int}(ho:o.op = .convert sr ds x)(hs:wI P sr=some e)(he:u8K P e=true)(hd:isStr P ds=true)(hx:ev t x = .d (.sl xs))(hn:u8s xs=some ns):
  jD P A o t ⟨True,pl x,[],.d (.str (strOf ns))⟩:=
 .pure fun _ t' hr a E hi=>by
  have hx':=dS hi x;rw[fZ hr,hx]at hx'
  unfold wI at hs;split at hs
  rotate_left
  ·trivial
  rename_i e' hu;simp only[aj]at hs;subst hs;unfold u8K at he;split at he
  rotate_left
  ·trivial
  rename_i he';have hd':P.underlying ds=some .string:=by grind[isStr]
  refine⟨.string (strOf ns),?_,by rfl⟩;simp only[execOp,ho,Sem.run_bind];rcases hx' with⟨h0,ad,c,Vm⟩|⟨b,of,c,k',Vm,hcc,hrows⟩
  ·have hxs:xs = []:=eF h0;subst hxs;simp only[u8s,aj]at hn;subst hn;rw[Vm,run_convert_bytes_string E.w sr ds e' ad 0 c hu he' hd'];cases ad with
   | none=>rfl
   | some a=>rfl
  ·obtain⟨h1,h2⟩:=Xi hn hrows;rw[Vm,run_convert_bytes_string E.w sr ds e' _ _ c hu he' hd'];have hl:=run_loadCells_list (P:=P) E.w ⟨b,of,none⟩ (ns.map (Value.int .u8)) (fun j v hj=>by
    grind[qK])
   rw[aN,←h1]at hl
   rw[run_bytesToString E.w _ _ c ns hl];rfl
def lf(P:Program)(ty:TypeId):Option Nat:=
 match P.underlying ty with
 | some (.int _)=>some 0
 | some .bool=>some 1
 | some .string=>some 2
 | _=>none
def abn(P:Program)(ty:TypeId):Option (List (Nat×TypeId)):=
 match P.underlying ty with
 | some (.struct fs) => if P.stoodInHeld ty = false ∧ (fs.toList.all fun f => f.name != "_") = true then some (fs.toList.map fun f => (f.offset, f.type)) else none
 | _=>none
def Zb(P:Program)(ty:TypeId):Bool:=!P.eqGuardType P.depth ty
def eqL(g:Nat×TypeId→Option Bool):List (Nat×TypeId)→Option Bool
 | []=>some true
 | f::l=>match g f,eqL g l with
   | some a,some b=>some (a&&b)
   | _,_=>none
def NH(P:Program):Nat→TypeId→TV→TV→Option Bool
 | 0,_,_,_=>none
 | d+1,ty,x,y=>match x,y with
   | .d (.int k a),.d (.int k' b)=>if lf P ty=some 0∧k=k' then some (a==b)else none
   | .d (.bool a),.d (.bool b)=>if lf P ty=some 1 then some (a==b)else none
   | .d (.str a),.d (.str b)=>if lf P ty=some 2 then some (a.toList==b.toList)else none
   | .agg vs,.agg ws=>match abn P ty with
     | some fs=>eqL (fun f=>match partT P f.2 vs f.1,partT P f.2 ws f.1 with
       | some a,some b=>NH P d f.2 a b
       | _,_=>none) fs
     | none=>none
   | _,_=>none
theorem L6{ty:TypeId}:(lf P ty=some 0→∃k,P.underlying ty=some (.int k))∧(lf P ty=some 1→P.underlying ty=some .bool)∧(lf P ty=some 2→P.underlying ty=some .string):=by grind[lf]
theorem agG:∀{d:Nat} {ty:TypeId} {x y:TV} {r:Bool},NH P d ty x y=some r→∀{E:En} {u u':Value},aV E x u→aV E y u'→∀D,d≤D→(Op.equalIn D ty u u').run P E.w = .ok r E.w
 | 0,_,_,_,_,h,_,_,_,_,_,_,_=>by trivial
 | d+1,ty,x,y,r,h,E,u,u',hu,hu',D,hD=>by
   obtain⟨D,rfl⟩:∃D',D=D'+1:=⟨D-1,by omega⟩
   unfold NH at h;split at h
   ·split at h
    ·rename_i k a k' b hc;simp only[aj]at h;subst h;obtain⟨h1,rfl⟩:=hc
     grind[L6,aV,Rep,run_equalIn_int]
    trivial
   ·grind[aV,Rep,run_equalIn_bool',L6]
   ·grind[aV,Rep,run_equalIn_string,L6]
   ·rename_i vs ws;split at h
    ·rename_i fs hfs;simp only[aV]at hu hu';obtain⟨us,rfl,hus⟩:=hu;obtain⟨us',rfl,OB⟩:=hu';unfold abn at hfs;split at hfs
     ·rename_i fs0 ala;split at hfs
      ·rename_i hc;simp only[aj]at hfs;subst hfs;have hfo:P.fieldsOf ty=fs0:=by grind[Program.fieldsOf]
       rw[run_equalIn_agg E.w D ty us us' (by simp[*]) hc.1,hfo];have hnm:=hc.2;clear ala hc hfo;generalize fs0.toList=l at hnm h
       induction l generalizing r with
       | nil=>simp only[dY,eqL,aj]at h;subst h;rfl
       | cons f l ih=>
         simp only[List.all_cons,aP,bne_iff_ne,ne_eq]at hnm;simp only[aH,eqL]at h;split at h
         ·rename_i a b h1 h2;simp only[aj]at h;subst h;split at h1
          ·rename_i p q hp hq;obtain⟨v,g1,g2⟩:=I7 hp hus;obtain⟨v',g3,g4⟩:=I7 hq OB;have g5:=agG h1 g2 g4 D (by omega);have g6:=ih _ hnm.2 h2;cases a
           ·simp[Op.eqFields,hnm.1,g1,g3,g5]
           ·simp[Op.eqFields,hnm.1,g1,g3,g5,g6]
          ·simp at h1
         trivial
      trivial
     trivial
    trivial
   trivial
theorem acX{o:Oper}{t:S}{op:BinOp}{ty ty':TypeId}{x y:Operand}{vs ws:List TV}{r:Bool}(ho:o.op = .binOp op ty x y ty')(hop:op = .eql∨op = .neq)(hg:Zb P ty=true)(hx:ev t x = .agg vs)(hy:ev t y = .agg ws)(h:NH P 4 ty (.agg vs) (.agg ws)=some r):
  jD P A o t ⟨True,pl x++pl y,[],.d (.bool (if op = .eql then r else !r))⟩:=
 .pure fun _ t' hr a E hi=>by
  have hx':=dS hi x;rw[fZ (dw hr),hx]at hx'
  have hy':=dS hi y;rw[fZ (bg hr),hy]at hy'
  have hq:=agG h hx' hy' 10000 (by omega);obtain⟨us,Vm,hus⟩:=hx';obtain⟨us',huy,OB⟩:=hy';rw[Vm,huy]at hq
  have hgd:P.eqGuardType P.depth ty=false:=by grind[Zb]
  rcases hop with rfl|rfl
  ·refine⟨.bool r,?_,by rfl⟩;simp only[execOp,ho,Sem.run_bind,Vm,huy,run_eqGuard_agg E.w _ ty x y us us' hgd,Result.andThen_ok,run_eql_struct,hq,Sem.run_pure]
  ·refine⟨.bool (!r),?_,by rfl⟩;simp only[execOp,ho,Sem.run_bind,Vm,huy,run_eqGuard_agg E.w _ ty x y us us' hgd,Result.andThen_ok,run_neq_struct,hq,Sem.run_pure]
end
end Go.Tr

namespace Go.Tr
open Go
def L9:List (Int×D)→Int→Option D
 | [],_=>none
 | (k',d)::es,k=>if k=k' then some d else L9 es k
def OJ:List (Int×D)→Int→D→List (Int×D)
 | [],k,d=>[(k,d)]
 | (k',d')::es,k,d=>if k=k' then(k,d)::es else(k',d')::OJ es k d
theorem Si{E:En}{k:Int}{kd:IntKind}:∀{es:List (Int×D)} {l:List MapEntry} {i:Nat},uV E es l→
  (L9 es k=none∧Instr.findNow (.int kd) (.int .i64 k) l i=some none∧∀d u born,u.oneCell'=true→Rep E d u→uV E (OJ es k d) (l++[⟨.int .i64 k,u,born⟩]))∨
  ∃d j a,L9 es k=some d∧Instr.findNow (.int kd) (.int .i64 k) l i=some (some (i+j,a.val))∧l[j]? = some a∧a.key = .int .i64 k∧a.val.oneCell'=true∧Rep E d a.val∧
   ∀d' u,u.oneCell'=true→Rep E d' u→uV E (OJ es k d') (l.modify j fun e=>{e with key:=.int .i64 k,val:=u})
 | [],l,i,h=>by subst h;exact .inl ⟨rfl,rfl,fun d u born h1 h2=>⟨_,[],rfl,rfl,h1,h2,rfl⟩⟩
 | (k',d)::es,l,i,h=>by
   obtain⟨a,l',rfl,h1,h2,h3,h4⟩:=h;by_cases e:k=k'
   ·subst e;refine .inr ⟨d,0,a,by simp[L9],by grind[Instr.findNow,Instr.sameNow],rfl,h1,h2,h3,fun d' u g1 g2=>?_⟩;simp only[OJ,if_true,List.modify_zero_cons];exact⟨_,l',rfl,rfl,g1,g2,h4⟩
   ·rcases Si (k:=k) (kd:=kd) (i:=i+1) h4 with⟨g1,g2,g3⟩|⟨d2,j,b,g1,g2,g3,g4,g5,g6,g7⟩
    ·refine .inl ⟨by grind[L9],by grind[Instr.findNow,Instr.sameNow],fun d2 u born q1 q2=>?_⟩;simp only[OJ,if_neg e];exact⟨a,_,rfl,h1,h2,h3,g3 d2 u born q1 q2⟩
    ·refine .inr ⟨d2,j+1,b,by grind[L9],?_,by trivial,g4,g5,g6,fun d' u q1 q2=>?_⟩
     ·grind[Instr.findNow,Instr.sameNow]
     ·simp only[OJ,if_neg e,List.modify_succ_cons];exact⟨a,_,rfl,h1,h2,h3,g7 d' u q1 q2⟩
theorem VO{k:Int}{kd:IntKind}:∀{l:List MapEntry} {i:Nat},Instr.findNow (.int kd) (.int .i64 k) l i=some none→∀x∈l,x.key≠.int .i64 k
 | [],_,_,x,hx=>by trivial
 | a::l,i,h,x,hx=>by
   intro e;rcases aG.1 hx with rfl|hx
   ·grind[Instr.findNow,Instr.sameNow]
   ·unfold Instr.findNow at h;cases hs:Instr.sameNow (.int kd) (.int .i64 k) a.key with
    | none=>simp_all
    | some b=>cases b with
      | true=>simp_all
      | false=>simp only[hs]at h;exact VO h x hx e
section
variable {P:Program} {A:jL}
theorem iI.alk{t:S}{a:Act}{E:En}(h:iI A t a E){d:Nat}(hd:t (.o d) = .none):
  ∃E':En,E'.w=E.w.alloc (.map #[] 0)∧iI A (upd t (.o d) (.mp [])) a E'∧aV E' (.mref d) (.map (some E.w.heap.size)):=by
 have hfree:=h.h.item (.o d) (by simp);rw[hd]at hfree
 obtain⟨hb0,hv0⟩:=hfree d rfl
 let E':En:={w:=E.w.alloc (.map #[] 0),St:=E.St,blk:=fun p=>if p = .o d then some E.w.heap.size else E.blk p,val:=E.val}
 have hold:∀b,b<E.w.heap.size→E'.w.heap[b]? = E.w.heap[b]? :=by grind[heap_alloc_old]
 have x:uG E E':=by
  refine⟨fun _ _ h=>h,fun b o hst=>jV (hold b (h.h.uP b o hst)),fun id b _ he=>?_,fun i b he=>by trivial,fun i b he=>by trivial,fun _ _ c v _ hv=>⟨c,v,hv,aI _,fun _=>rfl⟩⟩
  grind
 have hown:E'.own (.o d)=some E.w.heap.size:=by grind[En.own]
 have S9:∀q,q≠.o d→E'.own q=E.own q:=fun q hq=>En.qB (by grind) (fun _ _=>rfl)
 have hH:pX E' (upd t (.o d) (.mp [])):=by
  refine h.h.change (by simp) x (fun b o hst=>.inl hst) (fun q hq=>by grind) (fun id hid=>rfl) (by grind) (fun q b hq hb=>hold b (h.h.size q b hb)) (fun b hb=>?_) ?_ (fun b o hst hb=>?_)
  ·rw[hown]at hb;simp at hb;subst hb;exact⟨by simp[E'],.inr (aI _)⟩
  ·refine⟨fun id hid=>?_,E.w.heap.size,#[],0,by grind,heap_alloc_new E.w _,rfl,MapKept.stamped_empty 0⟩
   grind
  ·rw[hown]at hb;simp at hb;exact absurd (h.h.uP _ _ hst) (by omega)
 refine⟨E',rfl,h.step hH x (h.fr.next rfl rfl rfl (by grind) (fun b hb _ _=>hold b (fC hb h.fr.size)) (fun i=>by rfl) (fun id b hb=>?_) (fun _ _ h=>h) (fun _ _ h=>.inl h)) (fun k=>E8 (by simp) k),?_⟩
 ·grind
 ·simp only[aV];grind
theorem Y9{o:Oper}{t:S}{ty d:Nat}(ho:o.op = .makeMap ty none):jD P A o t ⟨t (.o d) = .none,[.o d],[(.o d,.mp [])],.mref d⟩:=fun hC t' hr a E hi=>by
 have ht':t' (.o d) = .none:=by simp_all
 obtain⟨E',hw,hinv,hrel⟩:=hi.alk ht';refine⟨_,_,E',?_,.inl rfl,hinv,hrel⟩;simp[execOp,ho,Instr.makeMap,hw]
theorem QG{t:S}{a:Act}{E:En}(hi:iI A t a E){id:Nat}{es:List (Int×D)}(ht:t (.o id) = .mp es):E.val id=none∧∃b l clock,E.blk (.o id)=some b∧E.w.heap[b]? = some (.map l clock)∧uV E es l.toList∧MapKept.Stamped l clock:=by
 have:=hi.h.item (.o id) (by simp);rw[ht]at this
 exact⟨this.1 id rfl,this.2⟩
theorem iI.mapStep{t:S}{a:Act}{E:En}(hi:iI A t a E){id b:Nat}{es es':List (Int×D)}{l l':Array MapEntry}{clock clock':Nat}(ht:t (.o id) = .mp es)(hb:E.blk (.o id)=some b)(hg:E.w.heap[b]? = some (.map l clock))(hm:uV E es' l'.toList)(hs:MapKept.Stamped l' clock'):
  ∃E':En,E'.w = {E.w with heap:=E.w.heap.setIfInBounds b (.map l' clock')}∧uG E E'∧iI A (upd t (.o id) (.mp es')) a E':=by
 obtain⟨hv0,_⟩:=QG hi ht;have oK:E.own (.o id)=some b:=by grind[En.own]
 let E':En:={E with w:={E.w with heap:=E.w.heap.setIfInBounds b (.map l' clock')}}
 have hoth:∀b',b'≠b→E'.w.heap[b']? = E.w.heap[b']? :=by grind
 have hst:∀b' o',E.St b' o'→b'≠b:=fun b' o' h e=>by
  subst e;obtain⟨e2,k2,es2,h1,_⟩:=hi.h.sep _ o' h _ oK
  simp_all
 have x:uG E E':=⟨fun _ _ h=>h,fun b' o' h=>jV (hoth b' (hst b' o' h)),fun _ _ _ h=>h,fun _ _ h=>h,fun _ _ h=>h,fun _ _ c v _ h=>⟨c,v,h,aI _,fun _=>rfl⟩⟩
 have hown:∀q,E'.own q=E.own q:=fun q=>En.qB rfl (fun _ _=>rfl)
 have hH:pX E' (upd t (.o id) (.mp es')):=by
  refine hi.h.change (by simp) x (fun b o h=>.inl h) (fun _ _=>rfl) (fun _ _=>rfl) (by grind) (fun q b' hq hb'=>hoth b' fun e=>hq (by subst e;exact hi.h.inj _ _ _ hb' oK)) (fun b' hb'=>?_) ?_ (fun b' o' hs hb'=>?_)
  ·grind
  ·exact⟨fun j hj=>by grind,b,l',clock',hb,by grind,hm.ext x.r,hs⟩
  grind
 refine⟨E',rfl,x,hi.step hH x (hi.fr.next rfl rfl rfl (by grind) (fun b' h1 _ h3=>hoth b' fun e=>?_) (fun _=>rfl) (fun j b' h=>.inl (by rwa [hown]at h)) (fun _ _ h=>h) (fun _ _ h=>.inl h)) (fun k=>E8 (by simp) k)⟩;subst e;exact(hi.fr.new id b' oK).elim (fun h=>by omega) (fun⟨j,h⟩=>h3 j h)
def lkV(ck:Bool)(m:Option D)(z:TV):TV:=
 match ck with
 | true=>.sZ [match m with|some d=>.d d|none=>z,.d (.bool m.isSome)]
 | false=>match m with|some d=>.d d|none=>z
theorem abk{o:Oper}{t:S}{ty kt e:TypeId}{x ix:Operand}{ck:Bool}{id:Nat}{es:List (Int×D)}{k:Int}{kd:IntKind}{z:Value}(ho:o.op = .lookup ty x ix ck)(hm:P.underlying ty=some (.map kt e))(hk:P.underlying kt=some (.int kd))(hz:wS P e=some z)
  (hx:ev t x = .mref id) (ht:t (.o id) = .mp es) (hix:ev t ix = .d (.int .i64 k)):jD P A o t ⟨True,pl x++(pl ix++[.o id]),[],lkV ck (L9 es k) (o7 z)⟩:=
 .pure fun _ t' hr a E hi=>by
  have hx':ev t' x = .mref id:=(fZ (dw hr)).trans hx;have hix':ev t' ix = .d (.int .i64 k):=(fZ (dw (bg hr))).trans hix;have ht':t' (.o id) = .mp es:=by simp[*]
  have h1:=dS hi x;rw[hx']at h1
  simp only[aV]at h1;obtain⟨b,hb,hu⟩:=h1;have h2:=dS hi ix;rw[hix']at h2
  simp only[aV,Rep]at h2;obtain⟨_,b',l,clock,hb',hg,hrel,_⟩:=QG hi ht';rw[hb]at hb'
  simp only[aj]at hb';subst hb';have hzero:(zeroValue e).run P E.w = .ok z E.w:=by
   unfold wS at hz;cases mG:P.info? e with
   | none=>simp_all
   | some inf=>simp only[mG,dH]at hz;simp[zeroValue,typeInfo,mG,hz]
  have hck:(Instr.checkKey l.isEmpty 10000 kt (.int .i64 k)).run P E.w = .ok () E.w:=by unfold Instr.checkKey;simp[Sem.run_bind,run_underlying hk]
  rcases Si (k:=k) (kd:=kd) (i:=0) hrel with⟨g1,g2,_⟩|⟨d,j,a',g1,g2,_,_,_,g6,_⟩
  ·refine⟨match ck with|true=>.tuple #[z,.bool false]|false=>z,?_,?_⟩
   ·cases ck<;>simp[execOp,ho,hu,h2,Instr.lookup,Sem.run_bind,run_underlying hm,run_underlying hk,MapKept.run_getObj_map hg,hck,Instr.findKey,g2,hzero]
   ·rw[g1];cases ck with
    | true=>simp only[lkV,aV];exact⟨#[z,.bool false],rfl,by simp only[b_];exact⟨_,_,rfl,sO E z,_,_,rfl,by rfl,rfl⟩⟩
    | false=>simp[lkV,sO]
  ·refine⟨match ck with|true=>.tuple #[a'.val,.bool true]|false=>a'.val,?_,?_⟩
   ·cases ck<;>simp[execOp,ho,hu,h2,Instr.lookup,Sem.run_bind,run_underlying hm,run_underlying hk,MapKept.run_getObj_map hg,hck,Instr.findKey,g2,hzero]
   ·rw[g1];cases ck with
    | true=>simp only[lkV,aV];exact⟨#[a'.val,.bool true],rfl,by simp only[b_];exact⟨_,_,rfl,by trivial,_,_,rfl,by rfl,rfl⟩⟩
    | false=>trivial
theorem Vd{o:Oper}{t:S}{ty kt e:TypeId}{x ix y:Operand}{id:Nat}{es:List (Int×D)}{k:Int}{kd:IntKind}{d:D}(ho:o.op = .mapUpdate ty x ix y)(hm:P.underlying ty=some (.map kt e))(hk:P.underlying kt=some (.int kd))
  (hx:ev t x = .mref id) (ht:t (.o id) = .mp es) (hix:ev t ix = .d (.int .i64 k)) (hy:ev t y = .d d):jD P A o t ⟨True,pl x++(pl ix++(pl y++[.o id])),[(.o id,.mp (OJ es k d))],.junk⟩:=fun _ t' hr a E hi=>by
 have hx':ev t' x = .mref id:=(fZ (dw hr)).trans hx;have hix':ev t' ix = .d (.int .i64 k):=(fZ (dw (bg hr))).trans hix;have hy':ev t' y = .d d:=(fZ (dw (bg (bg hr)))).trans hy;have ht':t' (.o id) = .mp es:=by simp[*]
 have h1:=dS hi x;rw[hx']at h1
 simp only[aV]at h1;obtain⟨b,hb,hu⟩:=h1;have h2:=dS hi ix;rw[hix']at h2
 simp only[aV,Rep]at h2;have h3:=dS hi y;rw[hy']at h3
 have hone:(a.eval y).oneCell'=true:=h3.one (by rfl);simp only[aV]at h3;obtain⟨_,b',l,clock,hb',hg,hrel,anp⟩:=QG hi ht';rw[hb]at hb'
 simp only[aj]at hb';subst hb';have hck:(Instr.checkKey false 10000 kt (.int .i64 k)).run P E.w = .ok () E.w:=by unfold Instr.checkKey;simp[Sem.run_bind,run_underlying hk]
 rcases Si (k:=k) (kd:=kd) (i:=0) hrel with⟨_,g2,g3⟩|⟨d',j,a',_,g2,g4,g5,_,_,g7⟩
 ·obtain⟨E',hw',x',hinv⟩:=hi.mapStep (l':=l.push ⟨.int .i64 k,a.eval y,clock⟩) (clock':=clock+1) ht' hb hg (by rw[Array.toList_push];exact g3 d (a.eval y) clock hone h3) (MapKept.stamped_push anp (VO g2));refine⟨.skip,undef,E',?_,.inr ⟨rfl,rfl⟩,hinv,by trivial⟩
  simp[execOp,ho,hu,h2,Instr.mapUpdate,Sem.run_bind,run_underlying hm,run_underlying hk,MapKept.run_getObj_map hg,MapKept.run_setObj_map _ hg,hck,Instr.findKey,g2,hw']
 ·obtain⟨E',hw',x',hinv⟩:=hi.mapStep (l':=l.modify j fun e=>{e with key:=.int .i64 k,val:=a.eval y}) (clock':=clock) ht' hb hg (by rw[Array.toList_modify];exact g7 d (a.eval y) hone h3) (MapKept.stamped_modify anp j _ (fun _ _=>rfl) (fun e _ he=>by simp_all));refine⟨.skip,undef,E',?_,.inr ⟨rfl,rfl⟩,hinv,by trivial⟩;have g4':l[j]? = some a':=by simp_all
  have hst:(Instr.keyThatStays (.int .i64 k) (.int .i64 k)).run P E.w = .ok (.int .i64 k) E.w:=by simp[Instr.keyThatStays,Instr.sameBits]
  simp[execOp,ho,hu,h2,Instr.mapUpdate,Sem.run_bind,run_underlying hm,run_underlying hk,MapKept.run_getObj_map hg,MapKept.run_setObj_map _ hg,hck,Instr.findKey,g2,g4',g5,hst,hw']
end
end Go.Tr

namespace Go.Tr
open Go
section
variable {P:Program} {A:jL}
theorem iI.A_{t:S}{a:Act}{E:En}(h:iI A t a E){d:Nat}(hd:t (.o d) = .none){e k:Nat}{es:List (List TV)}{w':World}{v:Value}{us:List Value}(hg:E.w.grownBy w' none)
  (hown:w'.ownsRow E.w.heap.size e k v es.length us) (hrel:∀E':En,E'.w=w'→uG E E'→iJ E' us k 0 es) :
  ∃E':En,E'.w=w'∧uG E E'∧iI A (upd t (.o d) (.row e k es false)) a E'∧E'.val d=some (k,es.length,v):=by
 have hfree:=h.h.item (.o d) (by simp);rw[hd]at hfree
 obtain⟨hb0,hv0⟩:=hfree d rfl
 let E':En:={E with w:=w',val:=fun i=>if i=d then some (k,es.length,v)else E.val i}
 have hv':E'.val d=some (k,es.length,v):=by grind
 have hown':E'.own (.o d)=v.ownBlock:=by grind[En.own]
 have hold:∀b,b<E.w.heap.size→E'.w.heap[b]? = E.w.heap[b]? :=fun b hb=>hg.block b hb (by simp)
 have x:uG E E':=by
  refine⟨fun _ _ h=>h,fun b o hst=>jV (hold b (h.h.uP b o hst)),fun _ _ _ h=>h,fun _ _ h=>h,fun _ _ h=>h,fun i k' c u _ hu=>?_⟩
  grind
 have hH:pX E' (upd t (.o d) (.row e k es false)):=by
  refine h.h.change (by simp) x (fun b o h=>.inl h) (fun q hq=>rfl) (fun i hne=>?_) hg.size (fun q b hq hb=>hold b (h.h.size q b hb)) (fun b hb=>?_) ⟨hb0,d,v,us,rfl,hv',⟨hown.1,hown.2.imp (fun h=>h) fun⟨g,cap,cur,h1,_,h3⟩=>⟨g,cap,cur,h1,og _,h3⟩⟩,hrel E' rfl x⟩ (fun b o hs hb=>?_)
  ·grind
  ·rw[hown']at hb
   exact⟨(hown.lt b hb).2,.inr (hown.lt b hb).1⟩
  ·rw[hown']at hb
   have:=(hown.lt b hb).1;have:=h.h.uP _ _ hs;omega
 refine⟨E',rfl,x,h.step hH x (h.fr.next hg.os hg.tape hg.output hg.size (fun b hb _ _=>hold b (fC hb h.fr.size)) (fun _=>rfl) (fun i b hb=>?_) (fun _ _ h=>h) (fun _ _ h=>.inl h)) (fun k=>E8 (by simp) k),hv'⟩;by_cases e:i=d
 ·subst e;rw[hown']at hb
  exact .inr (hown.lt b hb).1
 ·have:E'.own (.o i)=E.own (.o i):=En.qB rfl (fun j hj=>by grind)
  simp_all
theorem Va{o:Oper}{t:S}{ty e:TypeId}{k b d:Nat}{n:Int}{z:Value}{lx cx:Operand}(ho:o.op = .makeSlice ty lx cx)(he:wI P ty=some e)(hk:qp P e=some k)(hb:Ky P e=some b)(hz:wS P e=some z)
  (hl:ev t lx = .d (.int .i64 n)) (hc:ev t cx = .d (.int .i64 n)) :
  jD P A o t ⟨t (.o d) = .none∧0≤n∧n≤1000000∧b*n≤281474976710656∧(o9 z).length=k∧0<k∧(o9 z).all (·.oneCell')=true,pl lx++(pl cx++[.o d]),
   [(.o d,.row e k (List.replicate n.toNat ((o9 z).map o7)) false)],.bK d n.toNat⟩:=fun⟨hd,hn0,hn1,hnb,hzl,hk0,hz1⟩ t' hr a E hi=>by
 have hd':t' (.o d) = .none:=by simp[*]
 have hl':ev t' lx = .d (.int .i64 n):=(fZ (dw hr)).trans hl;have hc':ev t' cx = .d (.int .i64 n):=(fZ (dw (bg hr))).trans hc;have h1:=dS hi lx;rw[hl']at h1
 simp only[aV,Rep]at h1;have h2:=dS hi cx;rw[hc']at h2
 simp only[aV,Rep]at h2;rw[vH]at hzl hz1
 obtain⟨m,hm⟩:∃m:Nat,n=m:=⟨n.toNat,by omega⟩
 subst hm;rw[dV]
 let ru:Array Value:=(Array.range (m*k)).map fun i=>z.cells[i%z.cells.size]!
 have hrs:ru.size=m*k:=by grind
 have hln:(List.replicate m ((o9 z).map o7)).length=m:=by simp
 have hzs:z.cells.size=k:=by omega
 obtain⟨E',hw',x,hinv,hval⟩:=hi.A_ hd' (es:=List.replicate m ((o9 z).map o7)) (v:=.slice (some ⟨E.w.heap.size,0,none⟩) m m) (us:=ru.toList) (e:=e) (k:=k) (w':=E.w.alloc (.cells ru e))
  (World.grownBy_alloc _ _ _)
  (by
   rw[hln];refine⟨by omega,.inr ⟨E.w.heap.size,m,ru,rfl,aI _,heap_alloc_new E.w _,aI _,by grind[maxLen],by rw[hrs],?_⟩⟩
   grind[List.take_of_length_le])
  (fun E' hw' x=>by
   refine iJ.lq fun i el hel=>?_
   rw[List.getElem?_replicate]at hel
   split at hel
   ·rename_i him;simp only[aj]at hel;subst hel;refine⟨by simp_all,eP.lq fun j tv hj=>?_⟩;rw[vH,bC]at hj
    obtain⟨u,hu,rfl⟩:=fV.1 hj;have hjk:j<k:=by grind
    have hlt:i*k+j<m*k:=by
     have:(i+1)*k≤m*k:=f_ k him
     grind
    grind[Nat.add_mul_mod_self_right,Nat.mod_eq_of_lt,sO]
   trivial)
 refine⟨_,.slice (some ⟨E.w.heap.size,0,none⟩) m m,E',?_,.inl rfl,hinv,?_⟩
 ·unfold wI at he;split at he
  rotate_left
  ·trivial
  rename_i e' hu;simp only[aj]at he;subst he;unfold qp at hk;unfold wS at hz;unfold Ky at hb;cases mG:P.info? e' with
  | none=>simp_all
  | some inf=>
  simp only[mG,dF,aj,dH]at hk hz hb;have hw:IntKind.i64.wrap (m:Int)=m:=by grind[IntKind.wrap_i64]
  have hc1 :¬((m:Int)<0):=by omega
  have hc2 :¬(281474976710656<(b:Int)*(m:Int)):=by omega
  by_cases hmk:m*k=0
  ·have hru:ru = #[]:=by simp_all
   rw[hru]at hw'
   simp only[execOp,ho,h1,h2,Instr.makeSlice,Sem.run_bind,run_underlying hu,Result.andThen_ok,asInt,asIntOf,Sem.run_pure,typeInfo,sizeOf,run_program,mG,hk,hb,hw,Int.reducePow,gt_iff_lt,hc1,hc2,Int.lt_irrefl,decide_false,Bool.or_self,bI,if_false,run_askRoom,dV,hmk,if_true,newRow,run_newObj];rw[hw']
   exact congrArg (fun r=>Result.ok _ (E.w.alloc (.cells r e'))) (by simp)
  ·simp only[execOp,ho,h1,h2,Instr.makeSlice,Sem.run_bind,run_underlying hu,Result.andThen_ok,asInt,asIntOf,Sem.run_pure,typeInfo,sizeOf,run_program,mG,hk,hb,hw,Int.reducePow,gt_iff_lt,hc1,hc2,Int.lt_irrefl,decide_false,Bool.or_self,bI,if_false,run_askRoom,dV,hmk,zeroValue,hz,newRow,run_newObj];rw[hw'];rfl
 ·simp only[aV];rw[hln]at hval
  exact⟨rfl,k,m,_,hval,aI _,fun _=>rfl⟩
end
end Go.Tr

namespace Go.Tr
open Go
def dLen(k:Nat)(ys:List (List D)):Prop:=∀e∈ys,e.length=k
section
variable {P:Program} {A:jL}
theorem abl{o:Oper}{t:S}{ty e k:Nat}{x hi mx:Operand}{xs:List (List D)}{kh km:IntKind}{h m:Int}(ho:o.op = .slice ty x none (some hi) (some mx))(he:wI P ty=some e)(hk:qp P e=some k)(hx:ev t x = .d (.sl xs))
  (hh:ev t hi = .d (.int kh h)) (hm:ev t mx = .d (.int km m)):jD P A o t ⟨(0≤h∧h≤xs.length∧m=h)∧∀e∈xs,e.length=k,pl x++(pl hi++pl mx),[],.sx (xs.take h.toNat)⟩:=
 .pure fun⟨⟨hC1,hC2,hC3⟩,hlen⟩ t' hr a E hin=>by
  subst hC3;have hx':=dS hin x;rw[fZ (dw hr),hx]at hx'
  have hhi:=dS hin hi;rw[fZ (dw (bg hr)),hh]at hhi
  have hmx:=dS hin mx;rw[fZ (bg (bg hr)),hm]at hmx
  simp only[aV,Rep]at hhi hmx;unfold wI at he;split at he
  rotate_left
  ·simp at he
  rename_i e' hu;simp only[aj]at he;subst he;unfold qp at hk;cases mG:P.info? e' with
  | none=>simp[mG]at hk
  | some inf=>
  simp only[mG,dF,aj]at hk;obtain⟨n,rfl⟩:∃n:Nat,m=n:=⟨m.toNat,by omega⟩
  have hbd:∀len c:Nat,n≤c→(Instr.sliceBounds true len c none (some (.int kh n)) (some (.int km n))).run P E.w = .ok (0,n,n) E.w:=fun len c hc=>by
   have:(n:Int)≤(c:Int):=by omega
   have h0:(0:Int)≤(n:Int):=by omega
   simp only[Instr.sliceBounds,Instr.sliceBound,asIntOf,Sem.run_bind,Sem.run_pure,Result.andThen_ok,Sem.run_ite,h0,this,and_self,if_true,pure_bind,dV,Int.le_refl]
  simp only[aV,Rep]at hx';simp only[dV]at hC2⊢;have htl:(xs.take n).length=n:=by simp;omega
  rcases hx' with⟨h0,ad,c,Vm⟩|⟨b,of,c,k',Vm,hcc,hrows⟩
  ·have hn0:n=0:=by omega
   subst hn0;refine⟨.slice ad 0 0,?_,?_⟩
   ·simp only[execOp,ho,Instr.sliceAt,Sem.run_bind,run_underlying hu,Result.andThen_ok,Vm,o8,dF,Instr.slice,hhi,hmx,hbd _ _ (og _),sizeOf,typeInfo,run_program,mG,Sem.run_pure,hk,pW,if_true]
   ·simp only[aV,Rep];exact⟨.inl ⟨by simp,_,_,rfl⟩,ad,by simp⟩
  ·refine⟨.slice (some ⟨b,of,none⟩) n n,?_,?_⟩
   ·have hadd:(some (⟨b,of,none⟩:Addr)).map (·.add (0*k))=some ⟨b,of,none⟩:=by simp[qK]
    simp only[execOp,ho,Instr.sliceAt,Sem.run_bind,run_underlying hu,Result.andThen_ok,Vm,o8,dF,Instr.slice,hhi,hmx,hbd _ c (by omega),sizeOf,typeInfo,run_program,mG,Sem.run_pure,hk,pW];simp[qK]
   ·simp only[aV,Rep];refine⟨?_,some ⟨b,of,none⟩,by rw[htl]⟩;by_cases hz:n=0
    ·exact .inl ⟨by omega,_,_,by rw[hz]⟩
    ·refine .inr ⟨b,of,n,k',by rw[htl],by omega,mV.lq fun i el hel=>?_⟩;have aje:xs[i]? = some el:=by
      rw[eG]at hel
      split at hel
      ·exact hel
      ·simp at hel
     exact hrows.get aje
theorem U7{o:Oper}{t:S}{x y:Operand}{sty:TypeId}{d e k b:Nat}{xs:List (List D)}{ys:List (List TV)}{rp:List Pl}{z:Value}
  (ho:o.op = .call {callee:=.builtin .append,args:=#[x,y],argTypes:=#[sty,sty]}) (hx:ev t x = .sx xs) (hs:Src t (ev t y) rp ys)
  (he:wI P sty=some e) (hk:qp P e=some k) (hb:Ky P e=some b) (hz:wS P e=some z) (hzs:(o9 z).length=k) (_hk0:0<k) :
  jD P A o t ⟨(t (.o d) = .none∧dLen k xs)∧0<ys.length∧KI k b xs.length ys,pl x++(pl y++(.o d::rp)),[(.o d,.row e k (dd xs++ys) false)],.bK d (xs.length+ys.length)⟩:=fun⟨⟨hd,asA⟩,hpos,hlen,hroom,G8⟩ t' hr a E hi=>by
 have hxl:∀e∈dd xs,e.length=k:=fun e he=>by simp only[dd,ay]at he;obtain⟨e0,h0,rfl⟩:=he;simpa using asA e0 h0
 have hx':=dS hi x;rw[fZ (dw hr),hx]at hx'
 simp only[aV]at hx';obtain⟨hx1,ad1,Vm⟩:=hx';have hy':=dS hi y;rw[fZ (dw (bg hr))]at hy'
 have hr3:=bg (bg hr);have hd':t' (.o d) = .none:=(hr3 _ (by simp)).trans hd;obtain⟨ad,c,news,hu,hnl,hrow,hone,hsrc⟩:=hs.rel hlen (fun p hp=>hr3 p (by simp[hp])) hi hy';obtain⟨ad2,c2,olds,hu2,hol,hrow2,_,ahb⟩:=(Src.sl (t:=t') xs).rel hxl (fun p hp=>by simp at hp) hi (u:=a.eval x) (by simp only[aV];exact hx1);have hxn:(xs.map (·.map TV.d)).length=xs.length:=by simp
 rw[hxn]at hol hu2 ahb
 have had:ad2=ad1:=by rw[Vm]at hu2;simp only[Value.slice.injEq]at hu2;exact hu2.1.symm
 subst had;rcases hsrc with h0|⟨a0,rfl,hcells⟩
 ·omega
 unfold wI at he;split at he
 rotate_left
 ·simp at he
 rename_i e' hun;simp only[aj]at he;subst he;unfold qp at hk;unfold Ky at hb;unfold wS at hz;cases mG:P.info? e' with
 | none=>simp[mG]at hk
 | some inf=>
 simp only[mG,dF,aj,dH]at hk hb hz;subst hk hb;have hzc:z.cells.size=inf.size:=by rw[←hzs,vH];simp
 let cap:=grownCap E.w (xs.length+ys.length) xs.length e'
 let w':=E.w.drew.alloc (.cells (olds.toArray++news.toArray++Builtin.zeroCells z.cells (cap-(xs.length+ys.length))) e')
 have hge:xs.length+ys.length≤cap:=grownCap_ge E.w _ _ e';have hcm:cap≤maxLen:=grownCap_le_maxLen E.w _ _ e' (by simp only[maxLen];omega);have hrun:(Builtin.append_ #[sty,sty] o.type #[a.eval x,a.eval y]).run P E.w = .ok (.slice (some ⟨E.w.heap.size,0,none⟩) (xs.length+ys.length) cap) w':=by
  rw[Vm,hu];cases ad2 with
  | none=>
    have h0:xs.length=0:=by
     rcases ahb with h|⟨a1,h,_⟩
     ·exact h
     ·simp at h
    have ho0:olds = []:=eF (by rw[hol,h0];simp);have hr0:ys.length*inf.bytes≤140737488355328:=by rw[h0,dR]at hroom;exact hroom
    have:=run_append_nil (P:=P) E.w sty o.type e' inf z hun mG hz a0 ys.length c news hnl hcells hpos (by omega) (by omega);rw[h0,this];simp only[w',cap,h0,ho0,dR,iF]
  | some a1=>
    have holds:∀j v,olds[j]? = some v→E.w.cell? (a1.add j)=some v:=by
     rcases ahb with h|⟨a2,h1,h2⟩
     ·intro j v hj;rw[h]at hol
      have e0:olds = []:=eF (by rw[hol];simp);rw[e0]at hj
      simp at hj
     ·simp only[aj]at h1;subst h1;exact h2
    exact run_append_grow (P:=P) E.w sty o.type e' inf z hun mG hz a1 xs.length xs.length olds hol holds a0 ys.length c news hnl hcells (by omega) (by omega) (growslice_fits (by omega) hroom)
 have hgr:E.w.grownBy w' none:=⟨rfl,rfl,rfl,by simp[w'],fun k hk _=>(by first|exact heap_alloc_old E.w.drew _ k hk|exact heap_alloc_old E.w.drew _ hk)⟩
 have hdl:(dd xs++ys).length=xs.length+ys.length:=by simp[dd]
 obtain⟨E',hw',x',hinv,hval⟩:=hi.A_ hd' (es:=dd xs++ys) (v:=.slice (some ⟨E.w.heap.size,0,none⟩) (xs.length+ys.length) cap) (us:=olds++news) (e:=e') (k:=inf.size) (w':=w') hgr
  (by
   rw[hdl];refine⟨by rw[aS,hol,hnl,dX],.inr ⟨E.w.heap.size,cap,_,rfl,aI _,heap_alloc_new E.w.drew _,hge,hcm,?_,?_⟩⟩
   ·simp only[Array.size_append,qQ,size_zeroCells,hzc,hol,hnl,←dX]
    congr 1
    omega
   ·simp only[Array.toList_append,eU];rw[←eU,dX,←hol,←hnl,←aS];exact List.take_left)
  (fun E' hw' x'=>iJ.app (by rw[hol];simp[dd]) (hrow2.up x') (hrow.up x'))
 refine⟨_,.slice (some ⟨E.w.heap.size,0,none⟩) (xs.length+ys.length) cap,E',CQ ho (by rw[hw'];exact hrun),.inl rfl,hinv,?_⟩;simp only[aV];rw[hdl]at hval
 exact⟨rfl,inf.size,_,_,hval,aI _,fun _=>rfl⟩
theorem RS{o:Oper}{t:S}{x y:Operand}{sty:TypeId}{e k:Nat}{xs:List (List D)}{ys:List (List TV)}{rp:List Pl}
  (ho:o.op = .call {callee:=.builtin .append,args:=#[x,y],argTypes:=#[sty,sty]}) (hx:ev t x = .sx xs) (hs:Src t (ev t y) rp ys)
  (he:wI P sty=some e) (hk:qp P e=some k):jD P A o t ⟨ys.length=0,pl x++(pl y++rp),[],.d (.sl xs)⟩:=.pure fun h0 t' hr a E hi=>by
 have hx':=dS hi x;rw[fZ (dw hr),hx]at hx'
 simp only[aV]at hx';obtain⟨hx1,ad1,Vm⟩:=hx';have hy':=dS hi y;rw[fZ (dw (bg hr))]at hy'
 have hys:ys = []:=eF h0;obtain⟨ad,c,news,hu,hnl,_,_,_⟩:=hs.rel (k:=k) (fun e he=>by subst hys;simp at he) (fun p hp=>bg (bg hr) p hp) hi hy';rw[h0]at hu
 unfold wI at he;split at he
 rotate_left
 ·simp at he
 rename_i e' hun;simp only[aj]at he;subst he;unfold qp at hk;cases mG:P.info? e' with
 | none=>simp[mG]at hk
 | some inf=>
 refine⟨.slice ad1 xs.length xs.length,CQ ho ?_,by simp only[aV];rw[←Vm];exact hx1⟩;rw[Vm,hu];cases ad<;>cases ad1<;>simp[Builtin.append_,run_underlying hun,sizeOf,typeInfo,mG,Builtin.lenOf,Builtin.firstCells,storeCells,loadCells,loadCellsFrom]
theorem JK{o:Oper}{t:S}{ty e k n d:Nat}{ps:List (Nat×Operand)}{z:Value}(ho:o.op = .buildSlice ty n ps.toArray)(he:wI P ty=some e)(hk:qp P e=some k)(hz:wS P e=some z)
  (hseq:Ap ps n=true) :
  jD P A o t ⟨t (.o d) = .none∧(∀e∈ps.map (fun x=>(ev t x.2).cells),e.length=k∧∀c∈e,c.one=true)∧n*k≤16777216∧0<k,ps.flatMap (fun x=>pl x.2)++[.o d],[(.o d,.row e k (ps.map fun x=>(ev t x.2).cells) false)],.bK d n⟩:=fun⟨hd,hC,hsm,hk0⟩ t' hr a E hi=>by
 have S_:ps.map (·.1)=List.range n:=by simpa[Ap]using hseq
 have hn:ps.length=n:=by have:=congrArg List.length S_;simpa using this
 rw[nS,←hn]at S_
 have hd':t' (.o d) = .none:=(bg hr _ (by simp)).trans hd;have hr1:=dw hr;have hev:(ps.map fun x=>ev t' x.2)=ps.map fun x=>ev t x.2:=
  bW fun x hx=>fZ fun p hp=>hr1 p (fG.2 ⟨x,hx,hp⟩)
 let vs:=ps.map fun x=>ev t x.2
 let us:=ps.map fun x=>a.eval x.2
 have hrel:b_ E vs us:=by
  have:=Dq hi (ps.map (·.2));simp only[bQ]at this;have h2:(List.map (ev t'∘fun x=>x.2) ps)=vs:=hev;rw[h2]at this
  exact this
 have hCm:∀v∈vs,v.cells.length=k∧∀c∈v.cells,c.one=true:=fun v hv=>by simp only[vs,ay]at hv;obtain⟨x,hx,rfl⟩:=hv;exact hC _ (ay.2 ⟨x,hx,rfl⟩)
 have hvl:vs.length=n:=by simp[vs,hn]
 obtain⟨ru,hrun,hsz,ag_⟩:=run_buildSlice (P:=P) he hk hz hrel (fun v hv=>(hCm v hv).1) (fun v hv=>(hCm v hv).2) (by rw[hvl];exact hsm);have hmap:ps.map (fun x=>(ev t x.2).cells)=vs.map TV.cells:=by simp[vs,Function.comp_def]
 have hln:(vs.map TV.cells).length=n:=by simp[hvl]
 have hnk:n≤16777216:=aY (Nat.le_mul_of_pos_right n hk0) hsm;obtain⟨E',hw',x,hinv,hval⟩:=hi.A_ hd' (es:=vs.map TV.cells) (v:=.slice (some ⟨E.w.heap.size,0,none⟩) n n) (us:=ru.toList) (e:=e) (k:=k) (w':=E.w.alloc (.cells ru e)) (World.grownBy_alloc _ _ _)
  (by
   rw[hln];refine⟨by simp[hsz,hvl],.inr ⟨E.w.heap.size,n,ru,rfl,aI _,heap_alloc_new E.w _,aI _,by simp only[maxLen];omega,by rw[hsz,hvl],?_⟩⟩;rw[aW (by simp[hsz,hvl])])
  (fun E' hw' x=>by
   refine iJ.lq fun i el hel=>?_
   simp only[bC,fV]at hel;obtain⟨v,h3,rfl⟩:=hel;refine⟨(hCm v (bU h3)).1,eP.lq fun j tv hj=>?_⟩;have hfl:(vs.flatMap TV.cells)[i*k+j]? = some tv:=flat_get (fun v hv=>(hCm v hv).1) h3 hj;obtain⟨u,h6,h7⟩:=ag_.get hfl;refine⟨u,by simpa using h6,h7.one ((hCm v (bU h3)).2 tv (bU hj)),h7.up x⟩)
 refine⟨_,.slice (some ⟨E.w.heap.size,0,none⟩) n n,E',?_,.inl rfl,by rw[hmap];exact hinv,?_⟩
 ·have hz2:=OT (fun x=>a.eval x) ps 0 S_;simp only[execOp,ho,iy,hz2,Sem.run_bind,hw'];rw[←hvl,hrun];rfl
 ·simp only[aV];rw[hln]at hval
  exact⟨rfl,k,n,_,hval,aI _,fun _=>rfl⟩
end
end Go.Tr
