/-
  What functions of the program compute, stated as contracts over plain data; the conditions of each stand in its own statement.
-/
import Derived.Test.YtboimfkommpglaaGreatDoorZA02
import Derived.Laws.IdiomStrings
import Derived.Laws.StructEq
import Derived.MapKept
set_option linter.unusedSimpArgs false
namespace Go.Tr
open Go
section
variable {P:Program} {A:eX}
theorem fG.of{o:Oper}{t:S}{C:Prop}{rp:List Pl}{W:List (Pl×It)}{v:TV}(h:C→fG P A o t ⟨True,rp,W,v⟩):fG P A o t ⟨C,rp,W,v⟩:=fun hC=>h hC trivial
def Kq :TV→Option (IntKind×Int)
 | .d (.int k n)=>some (k,n)
 | _=>none
def WB(n:Nat)(lo hi:Option TV):Option (Prop×Nat×Nat):=
 match hi with
 | none=>match lo with
   | none=>some (True,0,n)
   | some l=>match Kq l with
     | some (_,l)=>some (0≤l∧l≤n,l.toNat,n)
     | none=>none
 | some h=>match Kq h with
   | none=>none
   | some (_,h)=>match lo with
     | none=>some (0≤h∧h≤n,0,h.toNat)
     | some l=>match Kq l with
       | some (_,l)=>some ((0≤h∧h≤n)∧0≤l∧l≤h,l.toNat,h.toNat)
       | none=>none
theorem NY{E:En}{v:TV}{u:Value}{k:IntKind}{n:Int}(h:Kq v=some (k,n))(hr:aA E v u):u = .int k n:=by
 unfold Kq at h;split at h
 ·obtain⟨rfl,rfl⟩:=h
  trivial
 trivial
theorem uy{isS:Bool}{n cap:Nat}{lo hi:Option TV}{C:Prop}{l h:Nat}(hc:WB n lo hi=some (C,l,h))(hC:C)(hn:n≤cap){E:En}{ulo uhi:Option Value}
  (h1:∀v,lo=some v→∃u,ulo=some u∧aA E v u) (h1':lo=none→ulo=none) (h2:∀v,hi=some v→∃u,uhi=some u∧aA E v u) (h2':hi=none→uhi=none) (w:World) :
  (Instr.sliceBounds isS n cap ulo uhi none).run P w = .ok (l,h,cap) w∧l≤h∧h≤n:=by
 unfold WB at hc;split at hc
 ·rw[h2' rfl];split at hc
  ·simp only[Option.some.injEq,Prod.mk.injEq]at hc;obtain⟨_,rfl,rfl⟩:=hc;rw[h1' rfl];simp[Instr.sliceBounds]
  ·rename_i lv;split at hc
   ·rename_i k q hq;simp only[Option.some.injEq,Prod.mk.injEq]at hc;obtain⟨rfl,rfl,rfl⟩:=hc;obtain⟨u,hu,hr⟩:=h1 _ rfl;have:=NY hq hr;subst this;rw[hu];exact⟨by simp[Instr.sliceBounds,Instr.sliceBound,asIntOf,hC.1,hC.2],by omega,by omega⟩
   trivial
 ·rename_i hv;obtain⟨uh,huh,hrh⟩:=h2 _ rfl;rw[huh];split at hc
  ·trivial
  ·rename_i k q hq;have:=NY hq hrh;subst this;split at hc
   ·simp only[Option.some.injEq,Prod.mk.injEq]at hc;obtain⟨rfl,rfl,rfl⟩:=hc;rw[h1' rfl];have:q≤(cap:Int):=by omega
    exact⟨by simp[Instr.sliceBounds,Instr.sliceBound,asIntOf,hC.1,this],by omega,by omega⟩
   ·rename_i lv;split at hc
    ·rename_i k' q' hq';simp only[Option.some.injEq,Prod.mk.injEq]at hc;obtain⟨rfl,rfl,rfl⟩:=hc;obtain⟨u,hu,hr⟩:=h1 _ rfl;have:=NY hq' hr;subst this;rw[hu];have h3:q≤(cap:Int):=by omega
     have h4:q'≤((q.toNat:Nat):Int):=by omega
     exact⟨by simp only[Instr.sliceBounds,Instr.sliceBound,asIntOf,Sem.run_bind,Sem.run_pure,Result.andThen_ok,Sem.run_ite,hC.1.1,h3,hC.2.1,h4,and_self,if_true,pure_bind],by omega,by omega⟩
    ·simp at hc
theorem Qw{t:S}{a:Act}{E:En}(hi:dL A t a E)(x:Option Operand):(∀v,x.map (ev t)=some v→∃u,x.map a.eval=some u∧aA E v u)∧(x.map (ev t)=none→x.map a.eval=none):=by
 cases x with
 | none=>simp
 | some x=>grind[bM]
def NT:Option Operand→List Pl
 | some x=>pl x
 | none=>[]
theorem WT{t t':S}{x:Option Operand}(h:∀p∈NT x,t' p=t p):x.map (ev t')=x.map (ev t):=by
 cases x with
 | none=>rfl
 | some x=>simp[dB h]
theorem WR{o:Oper}{t:S}{ty e k:Nat}{x:Operand}{lo hi:Option Operand}{xs:List (List D)}{C:Prop}{l h:Nat}(ho:o.op = .slice ty x lo hi none)(he:uY P ty=some e)(hk:lQ P e=some k)(hx:ev t x = .d (.sl xs))
  (hc:WB xs.length (lo.map (ev t)) (hi.map (ev t))=some (C,l,h)):fG P A o t ⟨C∧∀e∈xs,e.length=k,pl x++(NT lo++NT hi),[],.d (.sl ((xs.take h).drop l))⟩:=
 .pure fun⟨hC,hlen⟩ t' hr a E hin=>by
  have hx':=bM hin x;rw[dB (aW hr),hx]at hx'
  have hlo:=Qw hin lo;rw[WT (aW (aI hr))]at hlo
  have hhi:=Qw hin hi;rw[WT (aI (aI hr))]at hhi
  unfold uY at he;split at he
  rotate_left
  ·trivial
  rename_i e' hu;simp only[Option.some.injEq]at he;subst he;unfold lQ at hk;cases iQ:P.info? e' with
  | none=>simp_all
  | some inf=>
  simp only[iQ,Option.map_some,Option.some.injEq]at hk;simp only[aA,Rep]at hx';rcases hx' with⟨h0,ad,c,UR⟩|⟨b,of,c,k',UR,hcc,hrows⟩
  ·rw[h0]at hc
   obtain⟨hb,hlh,hhn⟩:=uy (P:=P) (isS:=true) (cap:=c) hc hC (Nat.zero_le _) hlo.1 hlo.2 hhi.1 hhi.2 E.w;have hl0:l=0:=by omega
   have hh0:h=0:=by omega
   subst hl0;subst hh0;refine⟨.slice (if c=0 then ad else ad.map (·.add (0*k))) 0 c,?_,?_⟩
   ·simp only[execOp,ho,Instr.sliceAt,Sem.run_bind,run_underlying hu,Result.andThen_ok,UR,Option.map_none,Instr.slice,hb,sizeOf,typeInfo,run_program,iQ,Sem.run_pure,hk,Nat.sub_zero]
   ·simp only[aA,Rep];simp
  ·obtain⟨hb,hlh,hhn⟩:=uy (P:=P) (isS:=true) (cap:=c) hc hC hcc hlo.1 hlo.2 hhi.1 hhi.2 E.w;refine⟨.slice (if c=l then some ⟨b,of,none⟩else some ⟨b,of+l*k,none⟩) (h-l) (c-l),?_,?_⟩
   ·simp only[execOp,ho,Instr.sliceAt,Sem.run_bind,run_underlying hu,Result.andThen_ok,UR,Option.map_none,Instr.slice,hb,sizeOf,typeInfo,run_program,iQ,Sem.run_pure,hk,Option.map_some,nN]
   ·have hln:((xs.take h).drop l).length=h-l:=by simp[*]
    simp only[aA,Rep];by_cases hz:h-l=0
    ·simp[*]
    ·refine .inr ⟨b,of+l*k,c-l,k,?_,by omega,jd.fZ fun i el hel=>?_⟩
     ·rw[if_neg (by omega),hln]
     ·have ahe:xs[l+i]? = some el:=by
       rw[List.getElem?_drop,List.getElem?_take]at hel
       split at hel
       ·exact hel
       ·simp at hel
      obtain⟨h3,h4⟩:=hrows.get ahe;have hkk:el.length=k:=hlen el (List.mem_of_getElem? ahe);have:k'=k:=by omega
      subst this;refine⟨h3,?_⟩
      rwa [Nat.add_mul,←Nat.add_assoc]at h4
theorem UK{o:Oper}{t:S}{ty:Nat}{x:Operand}{lo hi:Option Operand}{s:ByteArray}{C:Prop}{l h:Nat}(ho:o.op = .slice ty x lo hi none)(he:isStr P ty=true)(hx:ev t x = .d (.str s))
  (hc:WB s.size (lo.map (ev t)) (hi.map (ev t))=some (C,l,h)):fG P A o t ⟨C,pl x++(NT lo++NT hi),[],.d (.str (s.extract l h))⟩:=
 .pure fun hC t' hr a E hin=>by
  have hx':=bM hin x;rw[dB (aW hr),hx]at hx'
  have hlo:=Qw hin lo;rw[WT (aW (aI hr))]at hlo
  have hhi:=Qw hin hi;rw[WT (aI (aI hr))]at hhi
  unfold isStr at he;split at he
  ·rename_i hu;simp only[aA,Rep]at hx';obtain⟨hb,hlh,hhn⟩:=uy (P:=P) (isS:=false) (cap:=s.size) hc hC (Nat.le_refl _) hlo.1 hlo.2 hhi.1 hhi.2 E.w;refine⟨.string (s.extract l h),?_,by rfl⟩;simp only[execOp,ho,Instr.sliceAt,Sem.run_bind,run_underlying hu,Result.andThen_ok,hx',Option.map_none,Instr.slice,Option.isSome_none,Bool.false_eq_true,if_false,hb,Sem.run_pure,pure_bind]
  trivial
def aaH(k:IntKind)(a b:Int):TV:=.d (.int k (if b<a then b else a))
def afn(k:IntKind)(a b:Int):TV:=.d (.int k (if b>a then b else a))
theorem agQ{o:Oper}{t:S}{x y:Operand}{tys:Array TypeId}{k k':IntKind}{a b:Int}(ho:o.op = .call {callee:=.builtin .min,args:=#[x,y],argTypes:=tys})(hx:ev t x = .d (.int k a))(hy:ev t y = .d (.int k' b)):
  fG P A o t ⟨True,pl x++pl y,[],aaH k a b⟩:=
 .pure fun _ t' hr ac E hi=>by
  have hx':=bM hi x;rw[dB (aW hr),hx]at hx'
  have hy':=bM hi y;rw[dB (aI hr),hy]at hy'
  simp only[aA,Rep]at hx' hy';refine⟨.int k (if b<a then b else a),?_,by rfl⟩;simp[execOp,ho,resolve,invoke,builtin,Builtin.min_,hx',hy',Builtin.min2]
theorem agP{o:Oper}{t:S}{x y:Operand}{tys:Array TypeId}{k k':IntKind}{a b:Int}(ho:o.op = .call {callee:=.builtin .max,args:=#[x,y],argTypes:=tys})(hx:ev t x = .d (.int k a))(hy:ev t y = .d (.int k' b)):
  fG P A o t ⟨True,pl x++pl y,[],afn k a b⟩:=
 .pure fun _ t' hr ac E hi=>by
  have hx':=bM hi x;rw[dB (aW hr),hx]at hx'
  have hy':=bM hi y;rw[dB (aI hr),hy]at hy'
  simp only[aA,Rep]at hx' hy';refine⟨.int k (if b>a then b else a),?_,by rfl⟩;simp[execOp,ho,resolve,invoke,builtin,Builtin.max_,hx',hy',Builtin.max2]
theorem Ny{ty:TypeId}(h:uJ P ty=some false){cs:Array Value}{q:Nat}{u:Value}(hc:cs[q]? = some u)(w:World):(part ty cs q).run P w = .ok u w:=by
 unfold uJ at h;cases hu:P.underlying ty with
 | none=>simp_all
 | some d=>
   have:(isAgg ty).run P w = .ok false w:=by
    unfold isAgg;rw[Sem.run_bind,run_underlying hu w];cases d<;>simp_all
   simp[part,this,hc]
theorem XC{ty z:Nat}(h:uJ P ty=some true)(hz:lQ P ty=some z){cs:Array Value}{q:Nat}(w:World):(part ty cs q).run P w = .ok (.agg (cs.extract q (q+z))) w:=by
 unfold uJ at h;cases hu:P.underlying ty with
 | none=>simp_all
 | some d=>
   have:(isAgg ty).run P w = .ok true w:=by
    unfold isAgg;rw[Sem.run_bind,run_underlying hu w];cases d<;>simp_all
   unfold lQ at hz;cases iQ:P.info? ty with
   | none=>simp_all
   | some inf=>
     simp only[iQ,Option.map_some,Option.some.injEq]at hz;simp[part,this,sizeOf,typeInfo,iQ,hz]
def partT(P:Program)(ty:TypeId)(vs:List TV)(q:Nat):Option TV:=
 match uJ P ty with
 | some false=>vs[q]?
 | some true=>match lQ P ty with
   | some z=>some (.agg ((vs.drop q).take z))
   | none=>none
 | none=>none
theorem aP.sub{E:En}{ts:List TV}{us:List Value}(h:aP E ts us)(q z:Nat):aP E ((ts.drop q).take z) ((us.drop q).take z):=
 aP.fZ (by simp[h.length]) fun i t u ht hu=>by
  rw[List.getElem?_take]at ht hu
  split at ht
  ·rename_i hi;rw[List.getElem?_drop]at ht
   obtain⟨u',h1,h2⟩:=h.get ht
   simp_all
  trivial
theorem JB{ty:TypeId}{vs:List TV}{q:Nat}{v:TV}(h:partT P ty vs q=some v){E:En}{us:Array Value}(hr:aP E vs us.toList):∃u,(part ty us q).run P E.w = .ok u E.w∧aA E v u:=by
 unfold partT at h;split at h
 ·obtain⟨u,h1,h2⟩:=hr.get h
  grind[Ny]
 ·rename_i hs;split at h
  ·rename_i z hz;simp only[Option.some.injEq]at h;subst h;refine⟨_,XC hs hz _,?_⟩;refine⟨_,rfl,?_⟩;have:=hr.sub q z;simp[*]
  trivial
 trivial
theorem acR{o:Oper}{t:S}{ty f off:Nat}{ft:TypeId}{x:Operand}{vs:List TV}{v:TV}(ho:o.op = .field ty x f)(hf:qL P ty f=some (off,ft))(hx:ev t x = .agg vs)(hv:partT P ft vs off=some v):
  fG P A o t ⟨True,pl x,[],v⟩:=
 .pure fun _ t' hr a E hi=>by
  have hx':=bM hi x;rw[dB hr,hx]at hx'
  obtain⟨us,hu,hrs⟩:=hx';obtain⟨u,h1,h2⟩:=JB hv hrs;refine⟨u,?_,h2⟩;unfold qL at hf;split at hf
  ·rename_i fs hfs;cases hff:fs[f]? with
   | none=>simp_all
   | some g=>
     simp only[hff,Option.map_some,Option.some.injEq,Prod.mk.injEq]at hf;obtain⟨rfl,rfl⟩:=hf;simp[execOp,ho,hu,Instr.field,run_underlying hfs,hff,asAgg,h1]
  trivial
theorem UD{o:Oper}{t:S}{ty n e k:Nat}{x ix:Operand}{vs:List TV}{v:TV}{ik:IntKind}{i:Int}(ho:o.op = .index ty x ix)(he:kN P ty=some (n,e))(hk:lQ P e=some k)(hx:ev t x = .agg vs)(hix:ev t ix = .d (.int ik i))
  (hv:partT P e vs (i.toNat*k)=some v):fG P A o t ⟨0≤i∧i<n,pl x++pl ix,[],v⟩:=
 .pure fun⟨h0,h1⟩ t' hr a E hi=>by
  have hx':=bM hi x;rw[dB (aW hr),hx]at hx'
  have hix':=bM hi ix;rw[dB (aI hr),hix]at hix'
  simp only[aA,Rep]at hx' hix';obtain⟨us,hu,hrs⟩:=hx';obtain⟨u,h2,h3⟩:=JB hv hrs;refine⟨u,?_,h3⟩;unfold kN at he;split at he
  ·rename_i n' e' hun;simp only[Option.some.injEq,Prod.mk.injEq]at he;obtain⟨rfl,rfl⟩:=he;unfold lQ at hk;cases iQ:P.info? e' with
   | none=>simp_all
   | some inf=>
     simp only[iQ,Option.map_some,Option.some.injEq]at hk;simp[execOp,ho,hu,hix',Instr.index,asIntOf,run_underlying hun,h0,h1,sizeOf,typeInfo,iQ,hk,h2]
  trivial
theorem UE{o:Oper}{t:S}{ty:Nat}{x ix:Operand}{s:ByteArray}{ik:IntKind}{i:Int}(ho:o.op = .index ty x ix)(he:isStr P ty=true)(hx:ev t x = .d (.str s))(hix:ev t ix = .d (.int ik i)):
  fG P A o t ⟨0≤i∧i<s.size,pl x++pl ix,[],.d (.int .u8 (s.data.getD i.toNat 0).toNat)⟩:=
 .pure fun⟨h0,h1⟩ t' hr a E hi=>by
  have hx':=bM hi x;rw[dB (aW hr),hx]at hx'
  have hix':=bM hi ix;rw[dB (aI hr),hix]at hix'
  simp only[aA,Rep]at hx' hix';unfold isStr at he;split at he
  ·rename_i hu;have hlt:i.toNat<s.size:=by omega
   refine⟨.int .u8 (s[i.toNat]).toNat,?_,?_⟩
   ·simp[execOp,ho,hx',hix',Instr.index,asIntOf,run_underlying hu,h0,hlt]
   ·simp only[aA,Rep];have hlt':i.toNat<s.data.size:=hlt;simp[Array.getD,hlt',hlt,ByteArray.getElem_eq_getElem_data]
  trivial
end
end Go.Tr

namespace Go.Tr
open Go
def u8s:List (List D)→Option (List Int)
 | []=>some []
 | [.int .u8 n]::l=>match u8s l with
   | some ns=>some (n::ns)
   | none=>none
 | _=>none
def strOf(ns:List Int):ByteArray:=ns.foldl (fun r n=>r.push (UInt8.ofNat n.toNat)) ByteArray.empty
def u8K(P:Program)(ty:TypeId):Bool:=
 match P.underlying ty with
 | some (.int .u8)=>true
 | _=>false
section
variable {P:Program} {A:eX}
theorem V8{E:En}{b k:Nat}:∀{xs:List (List D)} {ns:List Int} {o:Nat},u8s xs=some ns→jd E b k o xs→xs.length=ns.length∧∀j n,ns[j]? = some n→E.w.cell? ⟨b,o+j,none⟩ = some (.int .u8 n)
 | [],ns,o,h,_=>by grind[u8s]
 | e::l,ns,o,h,hr=>by
   unfold u8s at h;split at h
   ·trivial
   ·rename_i n l' heq;obtain⟨rfl,rfl⟩:=heq;split at h
    ·rename_i ns' h';simp only[Option.some.injEq]at h;subst h;simp only[jd]at hr;obtain⟨h1,h2,h3⟩:=hr;simp only[List.length_cons,List.length_nil,Nat.zero_add]at h1;subst h1;obtain⟨g1,g2⟩:=V8 h' h3
     grind[bQ,Rep]
    trivial
   trivial
theorem acQ{o:Oper}{t:S}{sr ds e:TypeId}{x:Operand}{xs:List (List D)}{ns:List Int}(ho:o.op = .convert sr ds x)(hs:uY P sr=some e)(he:u8K P e=true)(hd:isStr P ds=true)(hx:ev t x = .d (.sl xs))(hn:u8s xs=some ns):
  fG P A o t ⟨True,pl x,[],.d (.str (strOf ns))⟩:=
 .pure fun _ t' hr a E hi=>by
  have hx':=bM hi x;rw[dB hr,hx]at hx'
  unfold uY at hs;split at hs
  rotate_left
  ·trivial
  rename_i e' hu;simp only[Option.some.injEq]at hs;subst hs;unfold u8K at he;split at he
  rotate_left
  ·trivial
  rename_i he';have hd':P.underlying ds=some .string:=by grind[isStr]
  refine⟨.string (strOf ns),?_,by rfl⟩;simp only[execOp,ho,Sem.run_bind];rcases hx' with⟨h0,ad,c,UR⟩|⟨b,of,c,k',UR,hcc,hrows⟩
  ·have hxs:xs = []:=List.eq_nil_of_length_eq_zero h0;subst hxs;simp only[u8s,Option.some.injEq]at hn;subst hn;rw[UR,run_convert_bytes_string E.w sr ds e' ad 0 c hu he' hd'];cases ad with
   | none=>rfl
   | some a=>
     rfl
  ·obtain⟨h1,h2⟩:=V8 hn hrows;rw[UR,run_convert_bytes_string E.w sr ds e' _ _ c hu he' hd'];have hl:=run_loadCells_list (P:=P) E.w ⟨b,of,none⟩ (ns.map (Value.int .u8)) (fun j v hj=>by
    grind[nN])
   rw[List.length_map,←h1]at hl
   rw[run_bytesToString E.w _ _ c ns hl];rfl
def lf(P:Program)(ty:TypeId):Option Nat:=
 match P.underlying ty with
 | some (.int _)=>some 0
 | some .bool=>some 1
 | some .string=>some 2
 | _=>none
def acS(P:Program)(ty:TypeId):Option (List (Nat×TypeId)):=
 match P.underlying ty with
 | some (.struct fs) => if P.stoodInHeld ty = false ∧ (fs.toList.all fun f => f.name != "_") = true then some (fs.toList.map fun f => (f.offset, f.type)) else none
 | _=>none
def Yk(P:Program)(ty:TypeId):Bool:=!P.eqGuardType P.depth ty
def eqL(g:Nat×TypeId→Option Bool):List (Nat×TypeId)→Option Bool
 | []=>some true
 | f::l=>match g f,eqL g l with
   | some a,some b=>some (a&&b)
   | _,_=>none
def eqT(P:Program):Nat→TypeId→TV→TV→Option Bool
 | 0,_,_,_=>none
 | d+1,ty,x,y=>match x,y with
   | .d (.int k a),.d (.int k' b)=>if lf P ty=some 0∧k=k' then some (a==b)else none
   | .d (.bool a),.d (.bool b)=>if lf P ty=some 1 then some (a==b)else none
   | .d (.str a),.d (.str b)=>if lf P ty=some 2 then some (a.toList==b.toList)else none
   | .agg vs,.agg ws=>match acS P ty with
     | some fs=>eqL (fun f=>match partT P f.2 vs f.1,partT P f.2 ws f.1 with
       | some a,some b=>eqT P d f.2 a b
       | _,_=>none) fs
     | none=>none
   | _,_=>none
theorem MO{ty:TypeId}:(lf P ty=some 0→∃k,P.underlying ty=some (.int k))∧(lf P ty=some 1→P.underlying ty=some .bool)∧(lf P ty=some 2→P.underlying ty=some .string):=by
 grind[lf]
theorem aeA:∀{d:Nat} {ty:TypeId} {x y:TV} {r:Bool},eqT P d ty x y=some r→∀{E:En} {u u':Value},aA E x u→aA E y u'→∀D,d≤D→(Op.equalIn D ty u u').run P E.w = .ok r E.w
 | 0,_,_,_,_,h,_,_,_,_,_,_,_=>by trivial
 | d+1,ty,x,y,r,h,E,u,u',hu,hu',D,hD=>by
   obtain⟨D,rfl⟩:∃D',D=D'+1:=⟨D-1,by omega⟩
   unfold eqT at h;split at h
   ·split at h
    ·rename_i k a k' b hc;simp only[Option.some.injEq]at h;subst h;obtain⟨h1,rfl⟩:=hc
     grind[MO,aA,Rep,run_equalIn_int]
    trivial
   ·grind[aA,Rep,run_equalIn_bool',MO]
   ·grind[aA,Rep,run_equalIn_string,MO]
   ·rename_i vs ws;split at h
    ·rename_i fs hfs;simp only[aA]at hu hu';obtain⟨us,rfl,hus⟩:=hu;obtain⟨us',rfl,aar⟩:=hu';unfold acS at hfs;split at hfs
     ·rename_i fs0 aiX;split at hfs
      ·rename_i hc;simp only[Option.some.injEq]at hfs;subst hfs;have hfo:P.fieldsOf ty=fs0:=by grind[Program.fieldsOf]
       rw[run_equalIn_agg E.w D ty us us' (by simp[*]) hc.1,hfo];have hnm:=hc.2;clear aiX hc hfo;generalize fs0.toList=l at hnm h
       induction l generalizing r with
       | nil=>simp only[List.map_nil,eqL,Option.some.injEq]at h;subst h;rfl
       | cons f l ih=>
         simp only[List.all_cons,Bool.and_eq_true,bne_iff_ne,ne_eq]at hnm;simp only[List.map_cons,eqL]at h;split at h
         ·rename_i a b h1 h2;simp only[Option.some.injEq]at h;subst h;split at h1
          ·rename_i p q hp hq;obtain⟨v,g1,g2⟩:=JB hp hus;obtain⟨v',g3,g4⟩:=JB hq aar;have g5:=aeA h1 g2 g4 D (by omega);have g6:=ih _ hnm.2 h2;cases a
           ·simp[Op.eqFields,hnm.1,g1,g3,g5]
           ·simp[Op.eqFields,hnm.1,g1,g3,g5,g6]
          ·simp at h1
         trivial
      trivial
     trivial
    trivial
   trivial
theorem abz{o:Oper}{t:S}{op:BinOp}{ty ty':TypeId}{x y:Operand}{vs ws:List TV}{r:Bool}(ho:o.op = .binOp op ty x y ty')(hop:op = .eql∨op = .neq)(hg:Yk P ty=true)(hx:ev t x = .agg vs)(hy:ev t y = .agg ws)(h:eqT P 4 ty (.agg vs) (.agg ws)=some r):
  fG P A o t ⟨True,pl x++pl y,[],.d (.bool (if op = .eql then r else !r))⟩:=
 .pure fun _ t' hr a E hi=>by
  have hx':=bM hi x;rw[dB (aW hr),hx]at hx'
  have hy':=bM hi y;rw[dB (aI hr),hy]at hy'
  have hq:=aeA h hx' hy' 10000 (by omega);obtain⟨us,UR,hus⟩:=hx';obtain⟨us',huy,aar⟩:=hy';rw[UR,huy]at hq
  have hgd:P.eqGuardType P.depth ty=false:=by grind[Yk]
  rcases hop with rfl|rfl
  ·refine⟨.bool r,?_,by rfl⟩;simp only[execOp,ho,Sem.run_bind,UR,huy,run_eqGuard_agg E.w _ ty x y us us' hgd,Result.andThen_ok,run_eql_struct,hq,Sem.run_pure]
  ·refine⟨.bool (!r),?_,by rfl⟩;simp only[execOp,ho,Sem.run_bind,UR,huy,run_eqGuard_agg E.w _ ty x y us us' hgd,Result.andThen_ok,run_neq_struct,hq,Sem.run_pure]
end
end Go.Tr

namespace Go.Tr
open Go
def JR:List (Int×D)→Int→Option D
 | [],_=>none
 | (k',d)::es,k=>if k=k' then some d else JR es k
def OE:List (Int×D)→Int→D→List (Int×D)
 | [],k,d=>[(k,d)]
 | (k',d')::es,k,d=>if k=k' then(k,d)::es else(k',d')::OE es k d
theorem Ru{E:En}{k:Int}{kd:IntKind}:∀{es:List (Int×D)} {l:List MapEntry} {i:Nat},pV E es l→
  (JR es k=none∧Instr.findNow (.int kd) (.int .i64 k) l i=some none∧∀d u born,u.oneCell'=true→Rep E d u→pV E (OE es k d) (l++[⟨.int .i64 k,u,born⟩]))∨
  ∃d j a,JR es k=some d∧Instr.findNow (.int kd) (.int .i64 k) l i=some (some (i+j,a.val))∧l[j]? = some a∧a.key = .int .i64 k∧a.val.oneCell'=true∧Rep E d a.val∧
   ∀d' u,u.oneCell'=true→Rep E d' u→pV E (OE es k d') (l.modify j fun e=>{e with key:=.int .i64 k,val:=u})
 | [],l,i,h=>by
   subst h;exact .inl ⟨rfl,rfl,fun d u born h1 h2=>⟨_,[],rfl,rfl,h1,h2,rfl⟩⟩
 | (k',d)::es,l,i,h=>by
   obtain⟨a,l',rfl,h1,h2,h3,h4⟩:=h;by_cases e:k=k'
   ·subst e;refine .inr ⟨d,0,a,by simp[JR],by grind[Instr.findNow,Instr.sameNow],rfl,h1,h2,h3,fun d' u g1 g2=>?_⟩;simp only[OE,if_true,List.modify_zero_cons];exact⟨_,l',rfl,rfl,g1,g2,h4⟩
   ·rcases Ru (k:=k) (kd:=kd) (i:=i+1) h4 with⟨g1,g2,g3⟩|⟨d2,j,b,g1,g2,g3,g4,g5,g6,g7⟩
    ·refine .inl ⟨by grind[JR],by grind[Instr.findNow,Instr.sameNow],fun d2 u born q1 q2=>?_⟩;simp only[OE,if_neg e];exact⟨a,_,rfl,h1,h2,h3,g3 d2 u born q1 q2⟩
    ·refine .inr ⟨d2,j+1,b,by grind[JR],?_,by trivial,g4,g5,g6,fun d' u q1 q2=>?_⟩
     ·grind[Instr.findNow,Instr.sameNow]
     ·simp only[OE,if_neg e,List.modify_succ_cons];exact⟨a,_,rfl,h1,h2,h3,g7 d' u q1 q2⟩
theorem Vg{k:Int}{kd:IntKind}:∀{l:List MapEntry} {i:Nat},Instr.findNow (.int kd) (.int .i64 k) l i=some none→∀x∈l,x.key≠.int .i64 k
 | [],_,_,x,hx=>by trivial
 | a::l,i,h,x,hx=>by
   intro e;rcases List.mem_cons.1 hx with rfl|hx
   ·grind[Instr.findNow,Instr.sameNow]
   ·unfold Instr.findNow at h;cases hs:Instr.sameNow (.int kd) (.int .i64 k) a.key with
    | none=>simp_all
    | some b=>cases b with
      | true=>simp_all
      | false=>simp only[hs]at h;exact Vg h x hx e
section
variable {P:Program} {A:eX}
theorem dL.ai4{t:S}{a:Act}{E:En}(h:dL A t a E){d:Nat}(hd:t (.o d) = .none):
  ∃E':En,E'.w=E.w.alloc (.map #[] 0)∧dL A (upd t (.o d) (.mp [])) a E'∧aA E' (.mref d) (.map (some E.w.heap.size)):=by
 have hfree:=h.h.item (.o d) (by simp);rw[hd]at hfree
 obtain⟨hb0,hv0⟩:=hfree d rfl
 let E':En:={w:=E.w.alloc (.map #[] 0),St:=E.St,blk:=fun p=>if p = .o d then some E.w.heap.size else E.blk p,val:=E.val}
 have hold:∀b,b<E.w.heap.size→E'.w.heap[b]? = E.w.heap[b]? :=by grind[heap_alloc_old]
 have x:qN E E':=by
  refine⟨fun _ _ h=>h,fun b o hst=>fC (hold b (h.h.oQ b o hst)),fun id b _ he=>?_,fun i b he=>by trivial,fun i b he=>by trivial,fun _ _ c v _ hv=>⟨c,v,hv,Nat.le_refl _,fun _=>rfl⟩⟩
  grind
 have hown:E'.own (.o d)=some E.w.heap.size:=by grind[En.own]
 have RV:∀q,q≠.o d→E'.own q=E.own q:=fun q hq=>En.lU (by grind) (fun _ _=>rfl)
 have hH:jQ E' (upd t (.o d) (.mp [])):=by
  refine h.h.change (by simp) x (fun b o hst=>.inl hst) (fun q hq=>by grind) (fun id hid=>rfl) (by grind) (fun q b hq hb=>hold b (h.h.size q b hb)) (fun b hb=>?_) ?_ (fun b o hst hb=>?_)
  ·rw[hown]at hb;simp at hb;subst hb;exact⟨by simp[E'],.inr (Nat.le_refl _)⟩
  ·refine⟨fun id hid=>?_,E.w.heap.size,#[],0,by grind,heap_alloc_new E.w _,rfl,MapKept.stamped_empty 0⟩
   grind
  ·rw[hown]at hb;simp at hb;exact absurd (h.h.oQ _ _ hst) (by omega)
 refine⟨E',rfl,h.step hH x (h.fr.next rfl rfl rfl (by grind) (fun b hb _ _=>hold b (Nat.lt_of_lt_of_le hb h.fr.size)) (fun i=>by rfl) (fun id b hb=>?_) (fun _ _ h=>h) (fun _ _ h=>.inl h)) (fun k=>FT (by simp) k),?_⟩
 ·grind
 ·simp only[aA];grind
theorem Yh{o:Oper}{t:S}{ty d:Nat}(ho:o.op = .makeMap ty none):fG P A o t ⟨t (.o d) = .none,[.o d],[(.o d,.mp [])],.mref d⟩:=fun hC t' hr a E hi=>by
 have ht':t' (.o d) = .none:=by simp_all
 obtain⟨E',hw,hinv,hrel⟩:=hi.ai4 ht';refine⟨_,_,E',?_,.inl rfl,hinv,hrel⟩;simp[execOp,ho,Instr.makeMap,hw]
theorem Qs{t:S}{a:Act}{E:En}(hi:dL A t a E){id:Nat}{es:List (Int×D)}(ht:t (.o id) = .mp es):E.val id=none∧∃b l clock,E.blk (.o id)=some b∧E.w.heap[b]? = some (.map l clock)∧pV E es l.toList∧MapKept.Stamped l clock:=by
 have:=hi.h.item (.o id) (by simp);rw[ht]at this
 exact⟨this.1 id rfl,this.2⟩
theorem dL.mapStep{t:S}{a:Act}{E:En}(hi:dL A t a E){id b:Nat}{es es':List (Int×D)}{l l':Array MapEntry}{clock clock':Nat}(ht:t (.o id) = .mp es)(hb:E.blk (.o id)=some b)(hg:E.w.heap[b]? = some (.map l clock))(hm:pV E es' l'.toList)(hs:MapKept.Stamped l' clock'):
  ∃E':En,E'.w = {E.w with heap:=E.w.heap.setIfInBounds b (.map l' clock')}∧qN E E'∧dL A (upd t (.o id) (.mp es')) a E':=by
 obtain⟨hv0,_⟩:=Qs hi ht;have lq:E.own (.o id)=some b:=by grind[En.own]
 let E':En:={E with w:={E.w with heap:=E.w.heap.setIfInBounds b (.map l' clock')}}
 have hoth:∀b',b'≠b→E'.w.heap[b']? = E.w.heap[b']? :=by grind
 have hst:∀b' o',E.St b' o'→b'≠b:=fun b' o' h e=>by
  subst e;obtain⟨e2,k2,es2,h1,_⟩:=hi.h.sep _ o' h _ lq
  simp_all
 have x:qN E E':=⟨fun _ _ h=>h,fun b' o' h=>fC (hoth b' (hst b' o' h)),fun _ _ _ h=>h,fun _ _ h=>h,fun _ _ h=>h,fun _ _ c v _ h=>⟨c,v,h,Nat.le_refl _,fun _=>rfl⟩⟩
 have hown:∀q,E'.own q=E.own q:=fun q=>En.lU rfl (fun _ _=>rfl)
 have hH:jQ E' (upd t (.o id) (.mp es')):=by
  refine hi.h.change (by simp) x (fun b o h=>.inl h) (fun _ _=>rfl) (fun _ _=>rfl) (by grind) (fun q b' hq hb'=>hoth b' fun e=>hq (by subst e;exact hi.h.inj _ _ _ hb' lq)) (fun b' hb'=>?_) ?_ (fun b' o' hs hb'=>?_)
  ·grind
  ·exact⟨fun j hj=>by grind,b,l',clock',hb,by grind,hm.ext x.r,hs⟩
  grind
 refine⟨E',rfl,x,hi.step hH x (hi.fr.next rfl rfl rfl (by grind) (fun b' h1 _ h3=>hoth b' fun e=>?_) (fun _=>rfl) (fun j b' h=>.inl (by rwa [hown]at h)) (fun _ _ h=>h) (fun _ _ h=>.inl h)) (fun k=>FT (by simp) k)⟩;subst e;exact(hi.fr.new id b' lq).elim (fun h=>by omega) (fun⟨j,h⟩=>h3 j h)
def lkV(ck:Bool)(m:Option D)(z:TV):TV:=
 match ck with
 | true=>.rG [match m with|some d=>.d d|none=>z,.d (.bool m.isSome)]
 | false=>match m with|some d=>.d d|none=>z
theorem ZW{o:Oper}{t:S}{ty kt e:TypeId}{x ix:Operand}{ck:Bool}{id:Nat}{es:List (Int×D)}{k:Int}{kd:IntKind}{z:Value}(ho:o.op = .lookup ty x ix ck)(hm:P.underlying ty=some (.map kt e))(hk:P.underlying kt=some (.int kd))(hz:tC P e=some z)
  (hx:ev t x = .mref id) (ht:t (.o id) = .mp es) (hix:ev t ix = .d (.int .i64 k)):fG P A o t ⟨True,pl x++(pl ix++[.o id]),[],lkV ck (JR es k) (lu z)⟩:=
 .pure fun _ t' hr a E hi=>by
  have hx':ev t' x = .mref id:=(dB (aW hr)).trans hx;have hix':ev t' ix = .d (.int .i64 k):=(dB (aW (aI hr))).trans hix;have ht':t' (.o id) = .mp es:=by simp[*]
  have h1:=bM hi x;rw[hx']at h1
  simp only[aA]at h1;obtain⟨b,hb,hu⟩:=h1;have h2:=bM hi ix;rw[hix']at h2
  simp only[aA,Rep]at h2;obtain⟨_,b',l,clock,hb',hg,hrel,_⟩:=Qs hi ht';rw[hb]at hb'
  simp only[Option.some.injEq]at hb';subst hb';have hzero:(zeroValue e).run P E.w = .ok z E.w:=by
   unfold tC at hz;cases iQ:P.info? e with
   | none=>simp_all
   | some inf=>
     simp only[iQ,Option.bind_some]at hz;simp[zeroValue,typeInfo,iQ,hz]
  have hck:(Instr.checkKey l.isEmpty 10000 kt (.int .i64 k)).run P E.w = .ok () E.w:=by
   unfold Instr.checkKey;simp[Sem.run_bind,run_underlying hk]
  rcases Ru (k:=k) (kd:=kd) (i:=0) hrel with⟨g1,g2,_⟩|⟨d,j,a',g1,g2,_,_,_,g6,_⟩
  ·refine⟨match ck with|true=>.tuple #[z,.bool false]|false=>z,?_,?_⟩
   ·cases ck<;>simp[execOp,ho,hu,h2,Instr.lookup,Sem.run_bind,run_underlying hm,run_underlying hk,MapKept.run_getObj_map hg,hck,Instr.findKey,g2,hzero]
   ·rw[g1];cases ck with
    | true=>
      simp only[lkV,aA];exact⟨#[z,.bool false],rfl,by simp only[aP];exact⟨_,_,rfl,qy E z,_,_,rfl,by rfl,rfl⟩⟩
    | false=>simp[lkV,qy]
  ·refine⟨match ck with|true=>.tuple #[a'.val,.bool true]|false=>a'.val,?_,?_⟩
   ·cases ck<;>simp[execOp,ho,hu,h2,Instr.lookup,Sem.run_bind,run_underlying hm,run_underlying hk,MapKept.run_getObj_map hg,hck,Instr.findKey,g2,hzero]
   ·rw[g1];cases ck with
    | true=>
      simp only[lkV,aA];exact⟨#[a'.val,.bool true],rfl,by simp only[aP];exact⟨_,_,rfl,by trivial,_,_,rfl,by rfl,rfl⟩⟩
    | false=>trivial
theorem UH{o:Oper}{t:S}{ty kt e:TypeId}{x ix y:Operand}{id:Nat}{es:List (Int×D)}{k:Int}{kd:IntKind}{d:D}(ho:o.op = .mapUpdate ty x ix y)(hm:P.underlying ty=some (.map kt e))(hk:P.underlying kt=some (.int kd))
  (hx:ev t x = .mref id) (ht:t (.o id) = .mp es) (hix:ev t ix = .d (.int .i64 k)) (hy:ev t y = .d d):fG P A o t ⟨True,pl x++(pl ix++(pl y++[.o id])),[(.o id,.mp (OE es k d))],.junk⟩:=fun _ t' hr a E hi=>by
 have hx':ev t' x = .mref id:=(dB (aW hr)).trans hx;have hix':ev t' ix = .d (.int .i64 k):=(dB (aW (aI hr))).trans hix;have hy':ev t' y = .d d:=(dB (aW (aI (aI hr)))).trans hy;have ht':t' (.o id) = .mp es:=by simp[*]
 have h1:=bM hi x;rw[hx']at h1
 simp only[aA]at h1;obtain⟨b,hb,hu⟩:=h1;have h2:=bM hi ix;rw[hix']at h2
 simp only[aA,Rep]at h2;have h3:=bM hi y;rw[hy']at h3
 have hone:(a.eval y).oneCell'=true:=h3.one (by rfl);simp only[aA]at h3;obtain⟨_,b',l,clock,hb',hg,hrel,akL⟩:=Qs hi ht';rw[hb]at hb'
 simp only[Option.some.injEq]at hb';subst hb';have hck:(Instr.checkKey false 10000 kt (.int .i64 k)).run P E.w = .ok () E.w:=by
  unfold Instr.checkKey;simp[Sem.run_bind,run_underlying hk]
 rcases Ru (k:=k) (kd:=kd) (i:=0) hrel with⟨_,g2,g3⟩|⟨d',j,a',_,g2,g4,g5,_,_,g7⟩
 ·obtain⟨E',hw',x',hinv⟩:=hi.mapStep (l':=l.push ⟨.int .i64 k,a.eval y,clock⟩) (clock':=clock+1) ht' hb hg (by rw[Array.toList_push];exact g3 d (a.eval y) clock hone h3) (MapKept.stamped_push akL (Vg g2));refine⟨.skip,undef,E',?_,.inr ⟨rfl,rfl⟩,hinv,by trivial⟩
  simp[execOp,ho,hu,h2,Instr.mapUpdate,Sem.run_bind,run_underlying hm,run_underlying hk,MapKept.run_getObj_map hg,MapKept.run_setObj_map _ hg,hck,Instr.findKey,g2,hw']
 ·obtain⟨E',hw',x',hinv⟩:=hi.mapStep (l':=l.modify j fun e=>{e with key:=.int .i64 k,val:=a.eval y}) (clock':=clock) ht' hb hg (by rw[Array.toList_modify];exact g7 d (a.eval y) hone h3) (MapKept.stamped_modify akL j _ (fun _ _=>rfl) (fun e _ he=>by simp_all));refine⟨.skip,undef,E',?_,.inr ⟨rfl,rfl⟩,hinv,by trivial⟩;have g4':l[j]? = some a':=by simp_all
  have hst:(Instr.keyThatStays (.int .i64 k) (.int .i64 k)).run P E.w = .ok (.int .i64 k) E.w:=by
   simp[Instr.keyThatStays,Instr.sameBits]
  simp[execOp,ho,hu,h2,Instr.mapUpdate,Sem.run_bind,run_underlying hm,run_underlying hk,MapKept.run_getObj_map hg,MapKept.run_setObj_map _ hg,hck,Instr.findKey,g2,g4',g5,hst,hw']
end
end Go.Tr

namespace Go.Tr
open Go
section
variable {P:Program} {A:eX}
theorem dL.Nc{t:S}{a:Act}{E:En}(h:dL A t a E){d:Nat}(hd:t (.o d) = .none){e k:Nat}{es:List (List TV)}{w':World}{v:Value}{us:List Value}(hg:E.w.grownBy w' none)
  (hown:w'.ownsRow E.w.heap.size e k v es.length us) (hrel:∀E':En,E'.w=w'→qN E E'→dK E' us k 0 es) :
  ∃E':En,E'.w=w'∧qN E E'∧dL A (upd t (.o d) (.row e k es false)) a E'∧E'.val d=some (k,es.length,v):=by
 have hfree:=h.h.item (.o d) (by simp);rw[hd]at hfree
 obtain⟨hb0,hv0⟩:=hfree d rfl
 let E':En:={E with w:=w',val:=fun i=>if i=d then some (k,es.length,v)else E.val i}
 have hv':E'.val d=some (k,es.length,v):=by grind
 have hown':E'.own (.o d)=v.ownBlock:=by grind[En.own]
 have hold:∀b,b<E.w.heap.size→E'.w.heap[b]? = E.w.heap[b]? :=fun b hb=>hg.block b hb (by simp)
 have x:qN E E':=by
  refine⟨fun _ _ h=>h,fun b o hst=>fC (hold b (h.h.oQ b o hst)),fun _ _ _ h=>h,fun _ _ h=>h,fun _ _ h=>h,fun i k' c u _ hu=>?_⟩
  grind
 have hH:jQ E' (upd t (.o d) (.row e k es false)):=by
  refine h.h.change (by simp) x (fun b o h=>.inl h) (fun q hq=>rfl) (fun i hne=>?_) hg.size (fun q b hq hb=>hold b (h.h.size q b hb)) (fun b hb=>?_) ⟨hb0,d,v,us,rfl,hv',⟨hown.1,hown.2.imp (fun h=>h) fun⟨g,cap,cur,h1,_,h3⟩=>⟨g,cap,cur,h1,Nat.zero_le _,h3⟩⟩,hrel E' rfl x⟩ (fun b o hs hb=>?_)
  ·grind
  ·rw[hown']at hb
   exact⟨(hown.lt b hb).2,.inr (hown.lt b hb).1⟩
  ·rw[hown']at hb
   have:=(hown.lt b hb).1;have:=h.h.oQ _ _ hs;omega
 refine⟨E',rfl,x,h.step hH x (h.fr.next hg.os hg.tape hg.output hg.size (fun b hb _ _=>hold b (Nat.lt_of_lt_of_le hb h.fr.size)) (fun _=>rfl) (fun i b hb=>?_) (fun _ _ h=>h) (fun _ _ h=>.inl h)) (fun k=>FT (by simp) k),hv'⟩;by_cases e:i=d
 ·subst e;rw[hown']at hb
  exact .inr (hown.lt b hb).1
 ·have:E'.own (.o i)=E.own (.o i):=En.lU rfl (fun j hj=>by grind)
  simp_all
theorem UF{o:Oper}{t:S}{ty e:TypeId}{k b d:Nat}{n:Int}{z:Value}{lx cx:Operand}(ho:o.op = .makeSlice ty lx cx)(he:uY P ty=some e)(hk:lQ P e=some k)(hb:Hy P e=some b)(hz:tC P e=some z)
  (hl:ev t lx = .d (.int .i64 n)) (hc:ev t cx = .d (.int .i64 n)) :
  fG P A o t ⟨t (.o d) = .none∧0≤n∧n≤1000000∧b*n≤281474976710656∧(lH z).length=k∧0<k∧(lH z).all (·.oneCell')=true,pl lx++(pl cx++[.o d]),
   [(.o d,.row e k (List.replicate n.toNat ((lH z).map lu)) false)],.aB d n.toNat⟩:=fun⟨hd,hn0,hn1,hnb,hzl,hk0,hz1⟩ t' hr a E hi=>by
 have hd':t' (.o d) = .none:=by simp[*]
 have hl':ev t' lx = .d (.int .i64 n):=(dB (aW hr)).trans hl;have hc':ev t' cx = .d (.int .i64 n):=(dB (aW (aI hr))).trans hc;have h1:=bM hi lx;rw[hl']at h1
 simp only[aA,Rep]at h1;have h2:=bM hi cx;rw[hc']at h2
 simp only[aA,Rep]at h2;rw[tu]at hzl hz1
 obtain⟨m,hm⟩:∃m:Nat,n=m:=⟨n.toNat,by omega⟩
 subst hm;rw[Int.toNat_natCast]
 let ru:Array Value:=(Array.range (m*k)).map fun i=>z.cells[i%z.cells.size]!
 have hrs:ru.size=m*k:=by grind
 have hln:(List.replicate m ((lH z).map lu)).length=m:=by simp
 have hzs:z.cells.size=k:=by omega
 obtain⟨E',hw',x,hinv,hval⟩:=hi.Nc hd' (es:=List.replicate m ((lH z).map lu)) (v:=.slice (some ⟨E.w.heap.size,0,none⟩) m m) (us:=ru.toList) (e:=e) (k:=k) (w':=E.w.alloc (.cells ru e))
  (World.grownBy_alloc _ _ _)
  (by
   rw[hln];refine⟨by omega,.inr ⟨E.w.heap.size,m,ru,rfl,Nat.le_refl _,heap_alloc_new E.w _,Nat.le_refl _,by grind[maxLen],by rw[hrs],?_⟩⟩
   grind[List.take_of_length_le])
  (fun E' hw' x=>by
   refine dK.fZ fun i el hel=>?_
   rw[List.getElem?_replicate]at hel
   split at hel
   ·rename_i him;simp only[Option.some.injEq]at hel;subst hel;refine⟨by simp_all,bG.fZ fun j tv hj=>?_⟩;rw[tu,List.getElem?_map]at hj
    obtain⟨u,hu,rfl⟩:=Option.map_eq_some_iff.1 hj;have hjk:j<k:=by grind
    have hlt:i*k+j<m*k:=by
     have:(i+1)*k≤m*k:=Nat.mul_le_mul_right k him
     grind
    grind[Nat.add_mul_mod_self_right,Nat.mod_eq_of_lt,qy]
   trivial)
 refine⟨_,.slice (some ⟨E.w.heap.size,0,none⟩) m m,E',?_,.inl rfl,hinv,?_⟩
 ·unfold uY at he;split at he
  rotate_left
  ·trivial
  rename_i e' hu;simp only[Option.some.injEq]at he;subst he;unfold lQ at hk;unfold tC at hz;unfold Hy at hb;cases iQ:P.info? e' with
  | none=>simp_all
  | some inf=>
  simp only[iQ,Option.map_some,Option.some.injEq,Option.bind_some]at hk hz hb;have hw:IntKind.i64.wrap (m:Int)=m:=by grind[IntKind.wrap_i64]
  have hc1 :¬((m:Int)<0):=by omega
  have hc2 :¬(281474976710656<(b:Int)*(m:Int)):=by omega
  by_cases hmk:m*k=0
  ·have hru:ru = #[]:=by simp_all
   rw[hru]at hw'
   simp only[execOp,ho,h1,h2,Instr.makeSlice,Sem.run_bind,run_underlying hu,Result.andThen_ok,asInt,asIntOf,Sem.run_pure,typeInfo,sizeOf,run_program,iQ,hk,hb,hw,Int.reducePow,gt_iff_lt,hc1,hc2,Int.lt_irrefl,decide_false,Bool.or_self,Bool.false_eq_true,if_false,run_askRoom,Int.toNat_natCast,hmk,if_true,newRow,run_newObj];rw[hw']
   exact congrArg (fun r=>Result.ok _ (E.w.alloc (.cells r e'))) (by simp)
  ·simp only[execOp,ho,h1,h2,Instr.makeSlice,Sem.run_bind,run_underlying hu,Result.andThen_ok,asInt,asIntOf,Sem.run_pure,typeInfo,sizeOf,run_program,iQ,hk,hb,hw,Int.reducePow,gt_iff_lt,hc1,hc2,Int.lt_irrefl,decide_false,Bool.or_self,Bool.false_eq_true,if_false,run_askRoom,Int.toNat_natCast,hmk,zeroValue,hz,newRow,run_newObj];rw[hw'];rfl
 ·simp only[aA];rw[hln]at hval
  exact⟨rfl,k,m,_,hval,Nat.le_refl _,fun _=>rfl⟩
end
end Go.Tr
