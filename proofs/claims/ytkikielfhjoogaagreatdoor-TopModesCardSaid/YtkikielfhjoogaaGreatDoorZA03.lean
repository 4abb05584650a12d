/-
  What functions of the program compute, stated as contracts over plain data; the conditions of each stand in its own statement.
-/
import Derived.Test.YtkikielfhjoogaaGreatDoorZA02
import Derived.Laws.IdiomStrings
import Derived.Laws.StructEq
import Derived.MapKept
set_option linter.unusedVariables false
set_option linter.unusedSimpArgs false
namespace Go.Tr
open Go
section
variable {P:Program} {A:f_}
theorem Xn:∀(vs:List Value) (n off:Nat) (cells:Array Value),off+n+vs.length≤cells.size→
  ((vs.zipIdx n).foldl (fun cs (x:Value×Nat)=>cs.setIfInBounds (off+x.2) x.1) cells).toList=cells.toList.take (off+n)++vs++cells.toList.drop (off+n+vs.length)
 | [],n,off,cells,_=>by simp
 | v::vs,n,off,cells,h=>by
   rw[List.zipIdx_cons,bV,Xn vs (n+1) off (cells.setIfInBounds (off+n) v) (by grind)];apply iw;intro j;rw[get_put (cur:=(cells.setIfInBounds (off+n) v).toList) (q:=off+(n+1)) (by grind),get_put (cur:=cells.toList) (vs:=v::vs) (q:=off+n) (by omega)]
   grind
def Bo(place:Nat→Option (Nat×Nat))(cells:List TV):List (Nat×TV)→Option (List TV)
 | []=>some cells
 | (i,v)::rest=>
   match place i with
   | none=>none
   | some (off,size)=>if v.cells.length≠size∨cells.length<off+v.cells.length then none else Bo place (setAt cells off v.cells) rest
theorem TV.aej{E:En}{v:TV}{u:Value}(hr:aP E v u)(h1:∀c∈v.cells,c.one=true):bD E v.cells u.cells.toList:=by
 cases v with
 | agg vs=>
   obtain⟨us,rfl,h⟩:=hr
   trivial
 | _=>
   have h2:=DV hr h1;refine bD.iI (by simpa using h2.1) fun i t u' ht hu=>?_
   obtain⟨u'',h3,_,h4⟩:=h2.2.get ht;rw[bT,hu]at h3
   simp only[ah]at h3;rw[h3];exact h4
theorem bD.setAt{E:En}{cs vs:List TV}{us ws:List Value}(h:bD E cs us)(g:bD E vs ws){off:Nat}(hl:off+vs.length≤cs.length):
  bD E (setAt cs off vs) (us.take off++ws++us.drop (off+ws.length)):=by
 have h1:=h.length;have h2:=g.length;refine bD.iI ?_ fun i t u ht hu=>?_
 ·grind[Bg]
 ·rw[Ky hl]at ht
  rw[get_put (by omega)]at hu
  by_cases h3:i<off
  ·rw[if_pos h3]at ht hu
   obtain⟨u',h4,h5⟩:=h.get ht
   simp_all
  ·rw[if_neg h3]at ht hu
   by_cases h4:i<off+vs.length
   ·rw[if_pos h4]at ht
    obtain⟨u',h4,h5⟩:=g.get ht
    simp_all
   ·rw[if_neg h4]at ht
    obtain⟨u',h4,h5⟩:=h.get ht
    simp_all
theorem Hu{E:En}{place:Nat→Option (Nat×Nat)}:∀{ps:List (Nat×TV)} {qs:List (Nat×Value)} {cells r:List TV} {us:Array Value},
  Bo place cells ps=some r→(∀p∈ps,∀c∈p.2.cells,c.one=true)→bD E cells us.toList→ps.length=qs.length→
  (∀(i:Nat) (p:Nat×TV) (q:Nat×Value),ps[i]? = some p→qs[i]? = some q→p.1=q.1∧aP E p.2 q.2)→
  ∃ru,Instr.fill place us qs=some ru∧bD E r ru.toList
 | [],[],cells,r,us,h,_,hr,_,_=>by simp only[Bo,ah]at h;subst h;exact⟨us,rfl,hr⟩
 | [],_::_,_,_,_,_,_,_,hl,_=>by trivial
 | _::_,[],_,_,_,_,_,_,hl,_=>by trivial
 | (i,v)::ps,(i',u)::qs,cells,r,us,h,h1,hr,hl,hp=>by
   obtain⟨hii,hv⟩:=hp 0 (i,v) (i',u) rfl rfl;simp only at hii hv;subst hii;simp only[Bo]at h;cases hpl:place i with
   | none=>simp_all
   | some os=>
     obtain⟨off,size⟩:=os;simp only[hpl]at h;split at h
     ·trivial
     ·rename_i hc;simp only[not_or,Decidable.not_not,Nat.not_lt]at hc;have hone:∀c∈v.cells,c.one=true:=h1 (i,v) (by simp);have hcr:=TV.aej hv hone;have hcs:u.cells.size=v.cells.length:=by simpa using hcr.length
      have hus:us.size=cells.length:=by simpa using hr.length
      have hput:=Xn u.cells.toList 0 off us (by grind);simp only[Nat.add_zero,gK]at hput;have hset:=hr.setAt hcr hc.2;simp only[gK]at hset;rw[←hput]at hset
      obtain⟨ru,h2,h3⟩:=Hu (qs:=qs) h (fun p hp=>h1 p (by simp[*])) hset (by simp_all) (fun j p q hj hq=>hp (j+1) p q (by trivial) (by trivial));refine⟨ru,?_,h3⟩;have hfold:u.cells.zipIdx.foldl (fun cs x=>cs.setIfInBounds (off+x.2) x.1) us=(u.cells.toList.zipIdx).foldl (fun cs (x:Value×Nat)=>cs.setIfInBounds (off+x.2) x.1) us:=by grind[Array.toList_zipIdx]
      have hn :¬(us.size<off+u.cells.size):=by omega
      simp only[Instr.fill,hpl,hcs,hc.1,ne_eq,not_true_eq_false,decide_false,Bool.false_or,gt_iff_lt,decide_eq_true_eq]
      grind
def EI(P:Program)(t:TypeId):Option (List (Nat×Nat)):=
 match P.underlying t with
 | some (.struct fs)=>fs.toList.mapM fun f=>(kM P f.type).map fun z=>(f.offset,z)
 | _=>none
theorem KQ{w:World}:∀(fs:List Field) (r:List (Nat×Nat)),fs.mapM (fun f=>(kM P f.type).map fun z=>(f.offset,z))=some r→
  (fs.mapM (fun f=>do pure (f.offset,←sizeOf f.type):Field→Sem (Nat×Nat))).run P w = .ok r w
 | [],r,h=>by simp_all
 | f::fs,r,h=>by
   simp only[List.mapM_cons,bind,Option.bind_eq_some_iff,dO,pure,ah]at h;obtain⟨_,⟨z,hz,rfl⟩,r',h2,rfl⟩:=h;have ih:=KQ (w:=w) fs r' h2;unfold kM at hz;cases hi:P.info? f.type with
   | none=>simp_all
   | some inf=>
     simp only[List.mapM_cons,sizeOf,typeInfo,Sem.run_bind,run_program,Result.andThen_ok,hi,Sem.run_pure,hz];simp only[sizeOf,typeInfo]at ih
     simp_all
theorem TT{t:S}{a:Act}{E:En}(hi:eY A t a E)(ps:List (Nat×Operand)):∀(i:Nat) (p:Nat×TV) (q:Nat×Value),(ps.map fun x=>(x.1,ev t x.2))[i]? = some p→(ps.map fun x=>(x.1,a.eval x.2))[i]? = some q→
  p.1=q.1∧aP E p.2 q.2:=fun i p q hp hq=>by
 simp only[bn,dO]at hp hq;obtain⟨x,h1,rfl⟩:=hp;obtain⟨y,h2,rfl⟩:=hq;rw[h1]at h2;simp only[ah]at h2;subst h2
 exact⟨rfl,bP hi _⟩
theorem parts_eq{t t':S}:∀{ps:List (Nat×Operand)},(∀p∈ps.flatMap (fun x=>pl x.2),t' p=t p)→(ps.map fun x=>(x.1,ev t' x.2))=ps.map fun x=>(x.1,ev t x.2)
 | [],_=>rfl
 | x::xs,h=>by simp only[aC];rw[dK (fun p hp=>h p (by simp[*])),parts_eq (fun p hp=>h p (by simp[*]))]
theorem adv{o:Oper}{t:S}{ty:TypeId}{ps:List (Nat×Operand)}{fs:List (Nat×Nat)}{z:Value}{r:List TV}(ho:o.op = .build ty ps.toArray)(hf:EI P ty=some fs)(hz:qm P ty=some z)
  (hr:Bo (fun i=>fs[i]?) ((kS z).map kK) (ps.map fun x=>(x.1,ev t x.2))=some r) :
  gB P A o t ⟨∀p∈ps.map (fun x=>(x.1,ev t x.2)),∀c∈p.2.cells,c.one=true,ps.flatMap (fun x=>pl x.2),[],.agg r⟩:=
 .pure fun hC t' hr' a E hi=>by
  have hpe:=parts_eq hr';have hp:=TT hi ps;rw[hpe]at hp
  have hz0:bD E ((kS z).map kK) z.cells.toList:=by simp[qW,wS]
  obtain⟨ru,h1,h2⟩:=Hu (qs:=ps.map fun x=>(x.1,a.eval x.2)) hr hC hz0 (by simp) hp;refine⟨.agg ru,?_,by simp only[aP];simp[*]⟩;unfold EI at hf;split at hf
  ·rename_i fs' hu;have hm:=KQ (P:=P) (w:=E.w) _ _ hf;have hm':(fs'.mapM (fun f=>do pure (f.offset,←sizeOf f.type):Field→Sem (Nat×Nat))).run P E.w = .ok fs.toArray E.w:=by
    rw[←Array.toArray_toList (xs:=fs'),List.mapM_toArray];rw[Sem.run_map,hm];rfl
   unfold qm at hz;cases jU:P.info? ty with
   | none=>simp[jU]at hz
   | some inf=>
     simp only[jU,bY]at hz;have alE:(fun i:Nat=>fs.toArray[i]?)=fun i:Nat=>fs[i]? :=by funext i;simp
     have hzero:(zeroValue ty).run P E.w = .ok z E.w:=by simp[zeroValue,typeInfo,jU,hz]
     have hrun:(Instr.build ty (ps.map fun x=>(x.1,a.eval x.2)).toArray).run P E.w = .ok (.agg ru) E.w:=by unfold Instr.build;simp only[Sem.run_bind,hzero,Result.andThen_ok,run_underlying hu,hm',alE,h1,Sem.run_pure]
     simp only[execOp,ho,fA,Sem.run_bind,hrun,Result.andThen_ok,Sem.run_pure]
  trivial
def arF(P:Program)(t:TypeId):Option Nat:=
 match P.underlying t with
 | some (.array _ e)=>kM P e
 | _=>none
theorem ZJ{o:Oper}{t:S}{ty:TypeId}{ps:List (Nat×Operand)}{k:Nat}{z:Value}{r:List TV}(ho:o.op = .build ty ps.toArray)(hf:arF P ty=some k)(hz:qm P ty=some z)
  (hr:Bo (fun i=>some (i*k,k)) ((kS z).map kK) (ps.map fun x=>(x.1,ev t x.2))=some r) :
  gB P A o t ⟨∀p∈ps.map (fun x=>(x.1,ev t x.2)),∀c∈p.2.cells,c.one=true,ps.flatMap (fun x=>pl x.2),[],.agg r⟩:=
 .pure fun hC t' hr' a E hi=>by
  have hpe:=parts_eq hr';have hp:=TT hi ps;rw[hpe]at hp
  have hz0:bD E ((kS z).map kK) z.cells.toList:=by simp[qW,wS]
  obtain⟨ru,h1,h2⟩:=Hu (qs:=ps.map fun x=>(x.1,a.eval x.2)) hr hC hz0 (by simp) hp;refine⟨.agg ru,?_,by simp only[aP];exact⟨ru,rfl,h2⟩⟩;unfold arF at hf;split at hf
  ·rename_i n e hu;unfold qm at hz;cases jU:P.info? ty with
   | none=>simp[jU]at hz
   | some inf=>
     simp only[jU,bY]at hz;have hzero:(zeroValue ty).run P E.w = .ok z E.w:=by simp[zeroValue,typeInfo,jU,hz]
     have hsz:(sizeOf e).run P E.w = .ok k E.w:=by
      unfold kM at hf;cases hie:P.info? e with
      | none=>simp[hie]at hf
      | some ie=>simp only[hie,bH,ah]at hf;simp[sizeOf,typeInfo,hie,hf]
     have hrun:(Instr.build ty (ps.map fun x=>(x.1,a.eval x.2)).toArray).run P E.w = .ok (.agg ru) E.w:=by unfold Instr.build;simp only[Sem.run_bind,hzero,Result.andThen_ok,run_underlying hu,hsz,h1,Sem.run_pure]
     simp only[execOp,ho,fA,Sem.run_bind,hrun,Result.andThen_ok,Sem.run_pure]
  trivial
end
end Go.Tr

namespace Go.Tr
open Go
section
variable {P:Program} {A:f_}
theorem Sz{k:Nat}:∀(vs:List TV) (i:Nat) (dn:List TV),dn.length=i*k→(∀v∈vs,v.cells.length=k)→
  Bo (fun i=>some (i*k,k)) (dn++List.replicate (vs.length*k) .junk) (vs.zipIdx i |>.map fun x=>(x.2,x.1))=some (dn++vs.flatMap TV.cells)
 | [],i,dn,_,_=>by simp[Bo]
 | v::vs,i,dn,hd,hv=>by
   have hvk:v.cells.length=k:=hv v (by simp);simp only[List.zipIdx_cons,aC,Bo,hvk,ne_eq,not_true_eq_false,false_or];rw[if_neg (by simp only[aU,List.length_replicate,aH,hd,hvk,fF];omega)];have:setAt (dn++List.replicate ((vs.length+1)*k) .junk) (i*k) v.cells=(dn++v.cells)++List.replicate (vs.length*k) .junk:=by unfold setAt;rw[←hd,List.take_left,List.drop_append,g_ (by omega)];simp[hvk,fF,dP]
   simp only[aH];rw[this,Sz vs (i+1) (dn++v.cells) (by simp[hd,hvk,fF]) (fun x hx=>hv x (by simp[hx]))];simp[dP]
theorem eY.alS{t:S}{a:Act}{E:En}(hi:eY A t a E){us:Array Value}{ty:TypeId}:
  ∃E':En,E'.w=E.w.alloc (.cells us ty)∧oQ E E'∧eY A t a E'∧(∀j,j<us.size→E'.St E.w.heap.size j):=by
 let E':En:={E with w:=E.w.alloc (.cells us ty),St:=fun b o=>E.St b o∨(b=E.w.heap.size∧o<us.size)}
 have hold:∀b,b<E.w.heap.size→E'.w.heap[b]? = E.w.heap[b]? :=by grind[heap_alloc_old]
 have x:oQ E E':=⟨fun _ _ h=>.inl h,fun b o hst=>h_ (hold b (hi.h.o_ b o hst)),fun _ _ _ h=>h,fun _ _ h=>h,fun _ _ h=>h,fun _ _ c u _ hu=>⟨c,u,hu,au _,fun _=>rfl⟩⟩
 have hH:lD E' t:=hi.h.more x rfl rfl (by grind) hold (fun b o hst=>hst.imp (fun h=>h) fun⟨h1,h2⟩=>⟨by simp[E',h1],fun p hp=>by
  have:=hi.h.size p b hp;omega⟩)
 exact⟨E',rfl,x,hi.step hH x (hi.fr.next rfl rfl rfl (by grind) (fun b hb _ _=>hold b (dA hb hi.fr.size)) (fun _=>rfl) (fun _ _ h=>.inl h) (fun _ _ h=>.inl h) (fun b o h=>h.imp (fun h=>h) fun⟨h1,_⟩=>.inl (by have:=hi.fr.size;omega))) (fun _=>rfl),
  fun j hj=>.inr ⟨rfl,hj⟩⟩
theorem flat_get{k:Nat}:∀{vs:List TV} (_:∀v∈vs,v.cells.length=k) {i:Nat} {v:TV} (_:vs[i]? = some v) {j:Nat} {tv:TV} (_:v.cells[j]? = some tv),(vs.flatMap TV.cells)[i*k+j]? = some tv
 | [],_,_,_,h,_,_,_=>by trivial
 | w::vs,hk,0,v,h,j,tv,hj=>by grind
 | w::vs,hk,i+1,v,h,j,tv,hj=>by
   have:=flat_get (vs:=vs) (fun v hv=>hk v (by simp[*])) (i:=i) (by trivial) hj
   grind
theorem ae1{vs:List TV}{xss:List (List D)}(h:jX (vs.map TV.cells)=some xss){k:Nat}(hk:∀v∈vs,v.cells.length=k){i:Nat}{e:List D}(he:xss[i]? = some e){j:Nat}{x:D}(hx:e[j]? = some x):
  ∃tv,(vs.flatMap TV.cells)[i*k+j]? = some tv∧toD tv=some x:=by
 obtain⟨hL,hg⟩:=Ey h;obtain⟨cs,h1,h2⟩:=hg i e he;obtain⟨h3,h4⟩:=I7 h2;obtain⟨tv,h5,h6⟩:=h4 j x hx;simp only[bn,dO]at h1;obtain⟨v,h7,rfl⟩:=h1
 grind[flat_get]
theorem run_buildSlice{ty e k:Nat}{z:Value}(he:qO P ty=some e)(hk:kM P e=some k)(hz:qm P e=some z){vs:List TV}{us:List Value}{E:En}(hr:bD E vs us)(hl:∀v∈vs,v.cells.length=k)(h1:∀v∈vs,∀c∈v.cells,c.one=true)
  (hsmall:vs.length*k≤16777216) :
  ∃ru:Array Value,(Instr.buildSlice ty vs.length ((us.zipIdx.map fun x=>(x.2,x.1)).toArray)).run P E.w = .ok (.slice (some ⟨E.w.heap.size,0,none⟩) vs.length vs.length) (E.w.alloc (.cells ru e))∧
   ru.size=vs.length*k∧bD E (vs.flatMap TV.cells) ru.toList:=by
 unfold qO at he;split at he
 rotate_left
 ·trivial
 rename_i e' hu;simp only[ah]at he;subst he;unfold kM at hk;unfold qm at hz;cases jU:P.info? e' with
 | none=>simp_all
 | some inf=>
 simp only[jU,bH,ah,bY]at hk hz;have akM:=Sz vs 0 [] (by simp) hl;have hbase:∀b:Array Value,b.size=vs.length*k→bD E (List.replicate (vs.length*k) .junk) b.toList:=fun b hb=>
  bD.iI (by simp[*]) fun i t u ht _=>by
   simp[List.getElem?_replicate]at ht
   obtain⟨_,rfl⟩:=ht
   trivial
 have go:∀b:Array Value,b.size=vs.length*k→∃ru,Instr.fill (fun i=>some (i*k,k)) b (us.zipIdx.map fun x=>(x.2,x.1))=some ru∧bD E (vs.flatMap TV.cells) ru.toList:=fun b hb=>by
  refine Hu (qs:=us.zipIdx.map fun x=>(x.2,x.1)) akM (fun p hp c hc=>?_) (hbase b hb) (by simp[hr.length]) (fun i p q hp hq=>?_)
  ·grind
  ·simp only[bn,List.getElem?_zipIdx,dO,bT]at hp hq;obtain⟨x,⟨v,h2,rfl⟩,rfl⟩:=hp;obtain⟨y,⟨u,h3,rfl⟩,rfl⟩:=hq;refine⟨rfl,?_⟩;obtain⟨u',h4,h5⟩:=hr.get h2
   simp_all
 have aoc:(vs.flatMap TV.cells).length=vs.length*k:=by
  clear akM hbase go hr hsmall h1
  induction vs with
  | nil=>simp
  | cons v vs ih=>grind
 have hns :¬(16777216<vs.length*k):=by omega
 by_cases h0:vs.length*k=0
 ·obtain⟨ru,h2,h3⟩:=go ((Array.range (vs.length*k)).map ((#[]:Array Value)[· % (#[]:Array Value).size]!)) (by simp);refine⟨ru,?_,by have:=h3.length;simp_all,h3⟩;simp only[Instr.buildSlice,Sem.run_bind,run_underlying hu,Result.andThen_ok,sizeOf,typeInfo,run_program,jU,Sem.run_pure,hk,gt_iff_lt,Nat.reducePow,hns,if_false,if_pos h0,newRow,run_newObj,h2,pure_bind];rfl
 ·obtain⟨ru,h2,h3⟩:=go ((Array.range (vs.length*k)).map (z.cells[· % z.cells.size]!)) (by simp);refine⟨ru,?_,by have:=h3.length;simp_all,h3⟩;simp only[Instr.buildSlice,Sem.run_bind,run_underlying hu,Result.andThen_ok,sizeOf,typeInfo,run_program,jU,Sem.run_pure,hk,gt_iff_lt,Nat.reducePow,hns,if_false,h0,zeroValue,hz,newRow,run_newObj,h2,pure_bind];rfl
def wX(ps:List (Nat×Operand))(n:Nat):Bool:=(ps.map (·.1))==List.range n
theorem J6{α:Type}(f:Operand→α):∀(ps:List (Nat×Operand)) (i:Nat),ps.map (·.1)=List.range' i ps.length→(ps.map fun x=>(x.1,f x.2))=((ps.map fun x=>f x.2).zipIdx i).map fun x=>(x.2,x.1)
 | [],_,_=>rfl
 | p::ps,i,h=>by simp only[aC,aH,lS,dR]at h;simp only[aC,List.zipIdx_cons,dR];exact⟨by rw[h.1],J6 f ps (i+1) h.2⟩
theorem Oh{o:Oper}{t:S}{ty e k n:Nat}{ps:List (Nat×Operand)}{z:Value}{xss:List (List D)}(ho:o.op = .buildSlice ty n ps.toArray)(he:qO P ty=some e)(hk:kM P e=some k)(hz:qm P e=some z)
  (hseq:wX ps n=true) (hx:jX (ps.map fun x=>(ev t x.2).cells)=some xss) :
  gB P A o t ⟨(∀e∈ps.map (fun x=>(ev t x.2).cells),e.length=k∧∀c∈e,c.one=true)∧n*k≤16777216,ps.flatMap (fun x=>pl x.2),[],.d (.sl xss)⟩:=fun⟨hC,hsm⟩ t' hr a E hi=>by
 have OM:ps.map (·.1)=List.range n:=by grind[wX]
 have hn:ps.length=n:=by have:=congrArg List.length OM;grind
 rw[jD,←hn]at OM
 have hev:(ps.map fun x=>ev t' x.2)=ps.map fun x=>ev t x.2:=by
  have:=parts_eq hr
  grind[List.map_congr_left,dK]
 let vs:=ps.map fun x=>ev t x.2
 let us:=ps.map fun x=>a.eval x.2
 have hrel:bD E vs us:=by
  have:=AA hi (ps.map (·.2));simp only[aY]at this;have h2:(List.map (ev t'∘fun x=>x.2) ps)=vs:=hev;rw[h2]at this
  trivial
 have hCm:∀v∈vs,v.cells.length=k∧∀c∈v.cells,c.one=true:=fun v hv=>by grind
 have hvl:vs.length=n:=by simp[vs,hn]
 obtain⟨ru,hrun,hsz,agx⟩:=run_buildSlice (P:=P) he hk hz hrel (fun v hv=>(hCm v hv).1) (fun v hv=>(hCm v hv).2) (by rw[hvl];exact hsm);obtain⟨E',hw,x,hinv,hst⟩:=hi.alS (us:=ru) (ty:=e);have hxx:jX (vs.map TV.cells)=some xss:=by rw[←hx];simp[vs,Function.comp_def]
 obtain⟨hxl,hxg⟩:=Ey hxx;refine⟨_,.slice (some ⟨E.w.heap.size,0,none⟩) n n,E',?_,.inl rfl,hinv,?_⟩
 ·have hz2:=J6 (fun x=>a.eval x) ps 0 OM;simp only[execOp,ho,fA,hz2,Sem.run_bind,hw];rw[←hvl,hrun];rfl
 ·simp only[aP,Rep];refine .inr ⟨E.w.heap.size,0,n,k,by rw[hxl];simp[hvl],by rw[hxl];simp[hvl],jK.iI fun i el hel=>?_⟩;have hil:i<n:=by have:=(aB.1 hel).1;rw[hxl]at this;simpa[hvl]using this
  have hmul:i*k+k≤n*k:=by
   have:(i+1)*k≤n*k:=dN k hil
   rwa [fF,Nat.one_mul]at this
  have hek:el.length=k:=by obtain⟨cs,h1,h2⟩:=hxg i el hel;rw[(I7 h2).1];simp only[bn,dO]at h1;obtain⟨v,h3,rfl⟩:=h1;exact(hCm v (bF h3)).1
  refine⟨hek,dU.iI fun j xx hj=>?_⟩;have hjk:j<k:=by rw[←hek];exact(aB.1 hj).1
  obtain⟨tv,h4,h5⟩:=ae1 hxx (fun v hv=>(hCm v hv).1) hel hj;obtain⟨u,h6,h7⟩:=agx.get h4;refine⟨hst _ (by rw[hsz,hvl];omega),u,?_,(V7 h5 h7).up x⟩;rw[hw,sK (heap_alloc_new E.w _)];simpa using h6
end
end Go.Tr

namespace Go.Tr
open Go
section
variable {P:Program} {A:f_}
theorem gB.of{o:Oper}{t:S}{C:Prop}{rp:List Pl}{W:List (Pl×It)}{v:TV}(h:C→gB P A o t ⟨True,rp,W,v⟩):gB P A o t ⟨C,rp,W,v⟩:=fun hC=>h hC trivial
def Ji :TV→Option (IntKind×Int)
 | .d (.int k n)=>some (k,n)
 | _=>none
def WX(n:Nat)(lo hi:Option TV):Option (Prop×Nat×Nat):=
 match hi with
 | none=>match lo with
   | none=>some (True,0,n)
   | some l=>match Ji l with
     | some (_,l)=>some (0≤l∧l≤n,l.toNat,n)
     | none=>none
 | some h=>match Ji h with
   | none=>none
   | some (_,h)=>match lo with
     | none=>some (0≤h∧h≤n,0,h.toNat)
     | some l=>match Ji l with
       | some (_,l)=>some ((0≤h∧h≤n)∧0≤l∧l≤h,l.toNat,h.toNat)
       | none=>none
theorem Jj{E:En}{v:TV}{u:Value}{k:IntKind}{n:Int}(h:Ji v=some (k,n))(hr:aP E v u):u = .int k n:=by
 unfold Ji at h;split at h
 ·obtain⟨rfl,rfl⟩:=h
  trivial
 trivial
theorem qJ{isS:Bool}{n cap:Nat}{lo hi:Option TV}{C:Prop}{l h:Nat}(hc:WX n lo hi=some (C,l,h))(hC:C)(hn:n≤cap){E:En}{ulo uhi:Option Value}
  (h1:∀v,lo=some v→∃u,ulo=some u∧aP E v u) (h1':lo=none→ulo=none) (h2:∀v,hi=some v→∃u,uhi=some u∧aP E v u) (h2':hi=none→uhi=none) (w:World) :
  (Instr.sliceBounds isS n cap ulo uhi none).run P w = .ok (l,h,cap) w∧l≤h∧h≤n:=by
 unfold WX at hc;split at hc
 ·rw[h2' rfl];split at hc
  ·simp only[ah,aO]at hc;obtain⟨_,rfl,rfl⟩:=hc;rw[h1' rfl];simp[Instr.sliceBounds]
  ·rename_i lv;split at hc
   ·rename_i k q hq;simp only[ah,aO]at hc;obtain⟨rfl,rfl,rfl⟩:=hc;obtain⟨u,hu,hr⟩:=h1 _ rfl;have:=Jj hq hr;subst this;rw[hu];exact⟨by simp[Instr.sliceBounds,Instr.sliceBound,asIntOf,hC.1,hC.2],by omega,by omega⟩
   trivial
 ·rename_i hv;obtain⟨uh,huh,hrh⟩:=h2 _ rfl;rw[huh];split at hc
  ·trivial
  ·rename_i k q hq;have:=Jj hq hrh;subst this;split at hc
   ·simp only[ah,aO]at hc;obtain⟨rfl,rfl,rfl⟩:=hc;rw[h1' rfl];have:q≤(cap:Int):=by omega
    exact⟨by simp[Instr.sliceBounds,Instr.sliceBound,asIntOf,hC.1,this],by omega,by omega⟩
   ·rename_i lv;split at hc
    ·rename_i k' q' hq';simp only[ah,aO]at hc;obtain⟨rfl,rfl,rfl⟩:=hc;obtain⟨u,hu,hr⟩:=h1 _ rfl;have:=Jj hq' hr;subst this;rw[hu];have h3:q≤(cap:Int):=by omega
     have h4:q'≤((q.toNat:Nat):Int):=by omega
     exact⟨by simp only[Instr.sliceBounds,Instr.sliceBound,asIntOf,Sem.run_bind,Sem.run_pure,Result.andThen_ok,Sem.run_ite,hC.1.1,h3,hC.2.1,h4,and_self,if_true,pure_bind],by omega,by omega⟩
    ·simp at hc
theorem MZ{t:S}{a:Act}{E:En}(hi:eY A t a E)(x:Option Operand):(∀v,x.map (ev t)=some v→∃u,x.map a.eval=some u∧aP E v u)∧(x.map (ev t)=none→x.map a.eval=none):=by
 cases x with
 | none=>simp
 | some x=>grind[bP]
def plO:Option Operand→List Pl
 | some x=>pl x
 | none=>[]
theorem U5{t t':S}{x:Option Operand}(h:∀p∈plO x,t' p=t p):x.map (ev t')=x.map (ev t):=by
 cases x with
 | none=>rfl
 | some x=>simp[dK h]
theorem U4{o:Oper}{t:S}{ty e k:Nat}{x:Operand}{lo hi:Option Operand}{xs:List (List D)}{C:Prop}{l h:Nat}(ho:o.op = .slice ty x lo hi none)(he:qO P ty=some e)(hk:kM P e=some k)(hx:ev t x = .d (.sl xs))
  (hc:WX xs.length (lo.map (ev t)) (hi.map (ev t))=some (C,l,h)):gB P A o t ⟨C∧∀e∈xs,e.length=k,pl x++(plO lo++plO hi),[],.d (.sl ((xs.take h).drop l))⟩:=
 .pure fun⟨hC,hlen⟩ t' hr a E hin=>by
  have hx':=bP hin x;rw[dK (bf hr),hx]at hx'
  have hlo:=MZ hin lo;rw[U5 (bf (aQ hr))]at hlo
  have hhi:=MZ hin hi;rw[U5 (aQ (aQ hr))]at hhi
  unfold qO at he;split at he
  rotate_left
  ·trivial
  rename_i e' hu;simp only[ah]at he;subst he;unfold kM at hk;cases jU:P.info? e' with
  | none=>simp_all
  | some inf=>
  simp only[jU,bH,ah]at hk;simp only[aP,Rep]at hx';rcases hx' with⟨h0,ad,c,Rk⟩|⟨b,of,c,k',Rk,hcc,hrows⟩
  ·rw[h0]at hc
   obtain⟨hb,hlh,hhn⟩:=qJ (P:=P) (isS:=true) (cap:=c) hc hC (jk _) hlo.1 hlo.2 hhi.1 hhi.2 E.w;have hl0:l=0:=by omega
   have hh0:h=0:=by omega
   subst hl0;subst hh0;refine⟨.slice (if c=0 then ad else ad.map (·.add (0*k))) 0 c,?_,?_⟩
   ·simp only[execOp,ho,Instr.sliceAt,Sem.run_bind,run_underlying hu,Result.andThen_ok,Rk,mY,Instr.slice,hb,sizeOf,typeInfo,run_program,jU,Sem.run_pure,hk,lW]
   ·simp only[aP,Rep];simp
  ·obtain⟨hb,hlh,hhn⟩:=qJ (P:=P) (isS:=true) (cap:=c) hc hC hcc hlo.1 hlo.2 hhi.1 hhi.2 E.w;refine⟨.slice (if c=l then some ⟨b,of,none⟩else some ⟨b,of+l*k,none⟩) (h-l) (c-l),?_,?_⟩
   ·simp only[execOp,ho,Instr.sliceAt,Sem.run_bind,run_underlying hu,Result.andThen_ok,Rk,mY,Instr.slice,hb,sizeOf,typeInfo,run_program,jU,Sem.run_pure,hk,bH,ny]
   ·have hln:((xs.take h).drop l).length=h-l:=by simp[*]
    simp only[aP,Rep];by_cases hz:h-l=0
    ·simp[*]
    ·refine .inr ⟨b,of+l*k,c-l,k,?_,by omega,jK.iI fun i el hel=>?_⟩
     ·rw[if_neg (by omega),hln]
     ·have ajf:xs[l+i]? = some el:=by
       rw[mG,gZ]at hel
       split at hel
       ·exact hel
       ·simp at hel
      obtain⟨h3,h4⟩:=hrows.get ajf;have hkk:el.length=k:=hlen el (bF ajf);have:k'=k:=by omega
      subst this;refine⟨h3,?_⟩
      rwa [fF,←iZ]at h4
theorem Q7{o:Oper}{t:S}{ty:Nat}{x:Operand}{lo hi:Option Operand}{s:ByteArray}{C:Prop}{l h:Nat}(ho:o.op = .slice ty x lo hi none)(he:isStr P ty=true)(hx:ev t x = .d (.str s))
  (hc:WX s.size (lo.map (ev t)) (hi.map (ev t))=some (C,l,h)):gB P A o t ⟨C,pl x++(plO lo++plO hi),[],.d (.str (s.extract l h))⟩:=
 .pure fun hC t' hr a E hin=>by
  have hx':=bP hin x;rw[dK (bf hr),hx]at hx'
  have hlo:=MZ hin lo;rw[U5 (bf (aQ hr))]at hlo
  have hhi:=MZ hin hi;rw[U5 (aQ (aQ hr))]at hhi
  unfold isStr at he;split at he
  ·rename_i hu;simp only[aP,Rep]at hx';obtain⟨hb,hlh,hhn⟩:=qJ (P:=P) (isS:=false) (cap:=s.size) hc hC (au _) hlo.1 hlo.2 hhi.1 hhi.2 E.w;refine⟨.string (s.extract l h),?_,by rfl⟩;simp only[execOp,ho,Instr.sliceAt,Sem.run_bind,run_underlying hu,Result.andThen_ok,hx',mY,Instr.slice,Option.isSome_none,eu,if_false,hb,Sem.run_pure,pure_bind]
  trivial
def X3(k:IntKind)(a b:Int):TV:=.d (.int k (if b<a then b else a))
def ad9(k:IntKind)(a b:Int):TV:=.d (.int k (if b>a then b else a))
theorem ai4{o:Oper}{t:S}{x y:Operand}{tys:Array TypeId}{k k':IntKind}{a b:Int}(ho:o.op = .call {callee:=.builtin .min,args:=#[x,y],argTypes:=tys})(hx:ev t x = .d (.int k a))(hy:ev t y = .d (.int k' b)):
  gB P A o t ⟨True,pl x++pl y,[],X3 k a b⟩:=
 .pure fun _ t' hr ac E hi=>by
  have hx':=bP hi x;rw[dK (bf hr),hx]at hx'
  have hy':=bP hi y;rw[dK (aQ hr),hy]at hy'
  simp only[aP,Rep]at hx' hy';refine⟨.int k (if b<a then b else a),?_,by rfl⟩;simp[execOp,ho,resolve,invoke,builtin,Builtin.min_,hx',hy',Builtin.min2]
theorem ai3{o:Oper}{t:S}{x y:Operand}{tys:Array TypeId}{k k':IntKind}{a b:Int}(ho:o.op = .call {callee:=.builtin .max,args:=#[x,y],argTypes:=tys})(hx:ev t x = .d (.int k a))(hy:ev t y = .d (.int k' b)):
  gB P A o t ⟨True,pl x++pl y,[],ad9 k a b⟩:=
 .pure fun _ t' hr ac E hi=>by
  have hx':=bP hi x;rw[dK (bf hr),hx]at hx'
  have hy':=bP hi y;rw[dK (aQ hr),hy]at hy'
  simp only[aP,Rep]at hx' hy';refine⟨.int k (if b>a then b else a),?_,by rfl⟩;simp[execOp,ho,resolve,invoke,builtin,Builtin.max_,hx',hy',Builtin.max2]
theorem IV{ty:TypeId}(h:qE P ty=some false){cs:Array Value}{q:Nat}{u:Value}(hc:cs[q]? = some u)(w:World):(part ty cs q).run P w = .ok u w:=by
 unfold qE at h;cases hu:P.underlying ty with
 | none=>simp_all
 | some d=>
   have:(isAgg ty).run P w = .ok false w:=by unfold isAgg;rw[Sem.run_bind,run_underlying hu w];cases d<;>simp_all
   simp[part,this,hc]
theorem VN{ty z:Nat}(h:qE P ty=some true)(hz:kM P ty=some z){cs:Array Value}{q:Nat}(w:World):(part ty cs q).run P w = .ok (.agg (cs.extract q (q+z))) w:=by
 unfold qE at h;cases hu:P.underlying ty with
 | none=>simp_all
 | some d=>
   have:(isAgg ty).run P w = .ok true w:=by unfold isAgg;rw[Sem.run_bind,run_underlying hu w];cases d<;>simp_all
   unfold kM at hz;cases jU:P.info? ty with
   | none=>simp_all
   | some inf=>simp only[jU,bH,ah]at hz;simp[part,this,sizeOf,typeInfo,jU,hz]
def partT(P:Program)(ty:TypeId)(vs:List TV)(q:Nat):Option TV:=
 match qE P ty with
 | some false=>vs[q]?
 | some true=>match kM P ty with
   | some z=>some (.agg ((vs.drop q).take z))
   | none=>none
 | none=>none
theorem bD.sub{E:En}{ts:List TV}{us:List Value}(h:bD E ts us)(q z:Nat):bD E ((ts.drop q).take z) ((us.drop q).take z):=
 bD.iI (by simp[h.length]) fun i t u ht hu=>by
  rw[gZ]at ht hu
  split at ht
  ·rename_i hi;rw[mG]at ht
   obtain⟨u',h1,h2⟩:=h.get ht
   simp_all
  trivial
theorem Ei{ty:TypeId}{vs:List TV}{q:Nat}{v:TV}(h:partT P ty vs q=some v){E:En}{us:Array Value}(hr:bD E vs us.toList):∃u,(part ty us q).run P E.w = .ok u E.w∧aP E v u:=by
 unfold partT at h;split at h
 ·obtain⟨u,h1,h2⟩:=hr.get h
  grind[IV]
 ·rename_i hs;split at h
  ·rename_i z hz;simp only[ah]at h;subst h;refine⟨_,VN hs hz _,?_⟩;refine⟨_,rfl,?_⟩;have:=hr.sub q z;simp[*]
  trivial
 trivial
theorem adx{o:Oper}{t:S}{ty f off:Nat}{ft:TypeId}{x:Operand}{vs:List TV}{v:TV}(ho:o.op = .field ty x f)(hf:pO P ty f=some (off,ft))(hx:ev t x = .agg vs)(hv:partT P ft vs off=some v):
  gB P A o t ⟨True,pl x,[],v⟩:=
 .pure fun _ t' hr a E hi=>by
  have hx':=bP hi x;rw[dK hr,hx]at hx'
  obtain⟨us,hu,hrs⟩:=hx';obtain⟨u,h1,h2⟩:=Ei hv hrs;refine⟨u,?_,h2⟩;unfold pO at hf;split at hf
  ·rename_i fs hfs;cases hff:fs[f]? with
   | none=>simp_all
   | some g=>simp only[hff,bH,ah,aO]at hf;obtain⟨rfl,rfl⟩:=hf;simp[execOp,ho,hu,Instr.field,run_underlying hfs,hff,asAgg,h1]
  trivial
theorem QV{o:Oper}{t:S}{ty n e k:Nat}{x ix:Operand}{vs:List TV}{v:TV}{ik:IntKind}{i:Int}(ho:o.op = .index ty x ix)(he:arE P ty=some (n,e))(hk:kM P e=some k)(hx:ev t x = .agg vs)(hix:ev t ix = .d (.int ik i))
  (hv:partT P e vs (i.toNat*k)=some v):gB P A o t ⟨0≤i∧i<n,pl x++pl ix,[],v⟩:=
 .pure fun⟨h0,h1⟩ t' hr a E hi=>by
  have hx':=bP hi x;rw[dK (bf hr),hx]at hx'
  have hix':=bP hi ix;rw[dK (aQ hr),hix]at hix'
  simp only[aP,Rep]at hx' hix';obtain⟨us,hu,hrs⟩:=hx';obtain⟨u,h2,h3⟩:=Ei hv hrs;refine⟨u,?_,h3⟩;unfold arE at he;split at he
  ·rename_i n' e' hun;simp only[ah,aO]at he;obtain⟨rfl,rfl⟩:=he;unfold kM at hk;cases jU:P.info? e' with
   | none=>simp_all
   | some inf=>simp only[jU,bH,ah]at hk;simp[execOp,ho,hu,hix',Instr.index,asIntOf,run_underlying hun,h0,h1,sizeOf,typeInfo,jU,hk,h2]
  trivial
theorem QW{o:Oper}{t:S}{ty:Nat}{x ix:Operand}{s:ByteArray}{ik:IntKind}{i:Int}(ho:o.op = .index ty x ix)(he:isStr P ty=true)(hx:ev t x = .d (.str s))(hix:ev t ix = .d (.int ik i)):
  gB P A o t ⟨0≤i∧i<s.size,pl x++pl ix,[],.d (.int .u8 (s.data.getD i.toNat 0).toNat)⟩:=
 .pure fun⟨h0,h1⟩ t' hr a E hi=>by
  have hx':=bP hi x;rw[dK (bf hr),hx]at hx'
  have hix':=bP hi ix;rw[dK (aQ hr),hix]at hix'
  simp only[aP,Rep]at hx' hix';unfold isStr at he;split at he
  ·rename_i hu;have hlt:i.toNat<s.size:=by omega
   refine⟨.int .u8 (s[i.toNat]).toNat,?_,?_⟩
   ·simp[execOp,ho,hx',hix',Instr.index,asIntOf,run_underlying hu,h0,hlt]
   ·simp only[aP,Rep];have hlt':i.toNat<s.data.size:=hlt;simp[Array.getD,hlt',hlt,ByteArray.getElem_eq_getElem_data]
  trivial
end
end Go.Tr

namespace Go.Tr
open Go
def u8s:List (List D)→Option (List Int)
 | []=>some []
 | [.int .u8 n]::l=>match u8s l with
   | some ns=>some (n::ns)
   | none=>none
 | _=>none
def strOf(ns:List Int):ByteArray:=ns.foldl (fun r n=>r.push (UInt8.ofNat n.toNat)) ByteArray.empty
def u8K(P:Program)(ty:TypeId):Bool:=
 match P.underlying ty with
 | some (.int .u8)=>true
 | _=>false
section
variable {P:Program} {A:f_}
theorem Uy{E:En}{b k:Nat}:∀{xs:List (List D)} {ns:List Int} {o:Nat},u8s xs=some ns→jK E b k o xs→xs.length=ns.length∧∀j n,ns[j]? = some n→E.w.cell? ⟨b,o+j,none⟩ = some (.int .u8 n)
 | [],ns,o,h,_=>by grind[u8s]
 | e::l,ns,o,h,hr=>by
   unfold u8s at h;split at h
   ·trivial
   ·rename_i n l' heq;obtain⟨rfl,rfl⟩:=heq;split at h
    ·rename_i ns' h';simp only[ah]at h;subst h;simp only[jK]at hr;obtain⟨h1,h2,h3⟩:=hr;simp only[aH,dh,bT]at h1;subst h1;obtain⟨g1,g2⟩:=Uy h' h3
     grind[dU,Rep]
    trivial
   trivial
theorem adw{o:Oper}{t:S}{sr ds e:TypeId}{x:Operand}{xs:List (List D)}{ns:List Int}(ho:o.op = .convert sr ds x)(hs:qO P sr=some e)(he:u8K P e=true)(hd:isStr P ds=true)(hx:ev t x = .d (.sl xs))(hn:u8s xs=some ns):
  gB P A o t ⟨True,pl x,[],.d (.str (strOf ns))⟩:=
 .pure fun _ t' hr a E hi=>by
  have hx':=bP hi x;rw[dK hr,hx]at hx'
  unfold qO at hs;split at hs
  rotate_left
  ·trivial
  rename_i e' hu;simp only[ah]at hs;subst hs;unfold u8K at he;split at he
  rotate_left
  ·trivial
  rename_i he';have hd':P.underlying ds=some .string:=by grind[isStr]
  refine⟨.string (strOf ns),?_,by rfl⟩;simp only[execOp,ho,Sem.run_bind];rcases hx' with⟨h0,ad,c,Rk⟩|⟨b,of,c,k',Rk,hcc,hrows⟩
  ·have hxs:xs = []:=cO h0;subst hxs;simp only[u8s,ah]at hn;subst hn;rw[Rk,run_convert_bytes_string E.w sr ds e' ad 0 c hu he' hd'];cases ad with
   | none=>rfl
   | some a=>rfl
  ·obtain⟨h1,h2⟩:=Uy hn hrows;rw[Rk,run_convert_bytes_string E.w sr ds e' _ _ c hu he' hd'];have hl:=run_loadCells_list (P:=P) E.w ⟨b,of,none⟩ (ns.map (Value.int .u8)) (fun j v hj=>by
    grind[ny])
   rw[aV,←h1]at hl
   rw[run_bytesToString E.w _ _ c ns hl];rfl
def lf(P:Program)(ty:TypeId):Option Nat:=
 match P.underlying ty with
 | some (.int _)=>some 0
 | some .bool=>some 1
 | some .string=>some 2
 | _=>none
def alh(P:Program)(ty:TypeId):Option (List (Nat×TypeId)):=
 match P.underlying ty with
 | some (.struct fs) => if P.stoodInHeld ty = false ∧ (fs.toList.all fun f => f.name != "_") = true then some (fs.toList.map fun f => (f.offset, f.type)) else none
 | _=>none
def afV(P:Program)(ty:TypeId):Bool:=!P.eqGuardType P.depth ty
def eqL(g:Nat×TypeId→Option Bool):List (Nat×TypeId)→Option Bool
 | []=>some true
 | f::l=>match g f,eqL g l with
   | some a,some b=>some (a&&b)
   | _,_=>none
def eqT(P:Program):Nat→TypeId→TV→TV→Option Bool
 | 0,_,_,_=>none
 | d+1,ty,x,y=>match x,y with
   | .d (.int k a),.d (.int k' b)=>if lf P ty=some 0∧k=k' then some (a==b)else none
   | .d (.bool a),.d (.bool b)=>if lf P ty=some 1 then some (a==b)else none
   | .d (.str a),.d (.str b)=>if lf P ty=some 2 then some (a.toList==b.toList)else none
   | .agg vs,.agg ws=>match alh P ty with
     | some fs=>eqL (fun f=>match partT P f.2 vs f.1,partT P f.2 ws f.1 with
       | some a,some b=>eqT P d f.2 a b
       | _,_=>none) fs
     | none=>none
   | _,_=>none
theorem Ii{ty:TypeId}:(lf P ty=some 0→∃k,P.underlying ty=some (.int k))∧(lf P ty=some 1→P.underlying ty=some .bool)∧(lf P ty=some 2→P.underlying ty=some .string):=by grind[lf]
theorem afW:∀{d:Nat} {ty:TypeId} {x y:TV} {r:Bool},eqT P d ty x y=some r→∀{E:En} {u u':Value},aP E x u→aP E y u'→∀D,d≤D→(Op.equalIn D ty u u').run P E.w = .ok r E.w
 | 0,_,_,_,_,h,_,_,_,_,_,_,_=>by trivial
 | d+1,ty,x,y,r,h,E,u,u',hu,hu',D,hD=>by
   obtain⟨D,rfl⟩:∃D',D=D'+1:=⟨D-1,by omega⟩
   unfold eqT at h;split at h
   ·split at h
    ·rename_i k a k' b hc;simp only[ah]at h;subst h;obtain⟨h1,rfl⟩:=hc
     grind[Ii,aP,Rep,run_equalIn_int]
    trivial
   ·grind[aP,Rep,run_equalIn_bool',Ii]
   ·grind[aP,Rep,run_equalIn_string,Ii]
   ·rename_i vs ws;split at h
    ·rename_i fs hfs;simp only[aP]at hu hu';obtain⟨us,rfl,hus⟩:=hu;obtain⟨us',rfl,Vb⟩:=hu';unfold alh at hfs;split at hfs
     ·rename_i fs0 att;split at hfs
      ·rename_i hc;simp only[ah]at hfs;subst hfs;have hfo:P.fieldsOf ty=fs0:=by grind[Program.fieldsOf]
       rw[run_equalIn_agg E.w D ty us us' (by simp[*]) hc.1,hfo];have hnm:=hc.2;clear att hc hfo;generalize fs0.toList=l at hnm h
       induction l generalizing r with
       | nil=>simp only[dQ,eqL,ah]at h;subst h;rfl
       | cons f l ih=>
         simp only[List.all_cons,aG,bne_iff_ne,ne_eq]at hnm;simp only[aC,eqL]at h;split at h
         ·rename_i a b h1 h2;simp only[ah]at h;subst h;split at h1
          ·rename_i p q hp hq;obtain⟨v,g1,g2⟩:=Ei hp hus;obtain⟨v',g3,g4⟩:=Ei hq Vb;have g5:=afW h1 g2 g4 D (by omega);have g6:=ih _ hnm.2 h2;cases a
           ·simp[Op.eqFields,hnm.1,g1,g3,g5]
           ·simp[Op.eqFields,hnm.1,g1,g3,g5,g6]
          ·simp at h1
         trivial
      trivial
     trivial
    trivial
   trivial
theorem abD{o:Oper}{t:S}{op:BinOp}{ty ty':TypeId}{x y:Operand}{vs ws:List TV}{r:Bool}(ho:o.op = .binOp op ty x y ty')(hop:op = .eql∨op = .neq)(hg:afV P ty=true)(hx:ev t x = .agg vs)(hy:ev t y = .agg ws)(h:eqT P 4 ty (.agg vs) (.agg ws)=some r):
  gB P A o t ⟨True,pl x++pl y,[],.d (.bool (if op = .eql then r else !r))⟩:=
 .pure fun _ t' hr a E hi=>by
  have hx':=bP hi x;rw[dK (bf hr),hx]at hx'
  have hy':=bP hi y;rw[dK (aQ hr),hy]at hy'
  have hq:=afW h hx' hy' 10000 (by omega);obtain⟨us,Rk,hus⟩:=hx';obtain⟨us',huy,Vb⟩:=hy';rw[Rk,huy]at hq
  have hgd:P.eqGuardType P.depth ty=false:=by grind[afV]
  rcases hop with rfl|rfl
  ·refine⟨.bool r,?_,by rfl⟩;simp only[execOp,ho,Sem.run_bind,Rk,huy,run_eqGuard_agg E.w _ ty x y us us' hgd,Result.andThen_ok,run_eql_struct,hq,Sem.run_pure]
  ·refine⟨.bool (!r),?_,by rfl⟩;simp only[execOp,ho,Sem.run_bind,Rk,huy,run_eqGuard_agg E.w _ ty x y us us' hgd,Result.andThen_ok,run_neq_struct,hq,Sem.run_pure]
end
end Go.Tr

namespace Go.Tr
open Go
def LD:List (Int×D)→Int→Option D
 | [],_=>none
 | (k',d)::es,k=>if k=k' then some d else LD es k
def JW:List (Int×D)→Int→D→List (Int×D)
 | [],k,d=>[(k,d)]
 | (k',d')::es,k,d=>if k=k' then(k,d)::es else(k',d')::JW es k d
theorem Oo{E:En}{k:Int}{kd:IntKind}:∀{es:List (Int×D)} {l:List MapEntry} {i:Nat},rW E es l→
  (LD es k=none∧Instr.findNow (.int kd) (.int .i64 k) l i=some none∧∀d u born,u.oneCell'=true→Rep E d u→rW E (JW es k d) (l++[⟨.int .i64 k,u,born⟩]))∨
  ∃d j a,LD es k=some d∧Instr.findNow (.int kd) (.int .i64 k) l i=some (some (i+j,a.val))∧l[j]? = some a∧a.key = .int .i64 k∧a.val.oneCell'=true∧Rep E d a.val∧
   ∀d' u,u.oneCell'=true→Rep E d' u→rW E (JW es k d') (l.modify j fun e=>{e with key:=.int .i64 k,val:=u})
 | [],l,i,h=>by subst h;exact .inl ⟨rfl,rfl,fun d u born h1 h2=>⟨_,[],rfl,rfl,h1,h2,rfl⟩⟩
 | (k',d)::es,l,i,h=>by
   obtain⟨a,l',rfl,h1,h2,h3,h4⟩:=h;by_cases e:k=k'
   ·subst e;refine .inr ⟨d,0,a,by simp[LD],by grind[Instr.findNow,Instr.sameNow],rfl,h1,h2,h3,fun d' u g1 g2=>?_⟩;simp only[JW,if_true,List.modify_zero_cons];exact⟨_,l',rfl,rfl,g1,g2,h4⟩
   ·rcases Oo (k:=k) (kd:=kd) (i:=i+1) h4 with⟨g1,g2,g3⟩|⟨d2,j,b,g1,g2,g3,g4,g5,g6,g7⟩
    ·refine .inl ⟨by grind[LD],by grind[Instr.findNow,Instr.sameNow],fun d2 u born q1 q2=>?_⟩;simp only[JW,if_neg e];exact⟨a,_,rfl,h1,h2,h3,g3 d2 u born q1 q2⟩
    ·refine .inr ⟨d2,j+1,b,by grind[LD],?_,by trivial,g4,g5,g6,fun d' u q1 q2=>?_⟩
     ·grind[Instr.findNow,Instr.sameNow]
     ·simp only[JW,if_neg e,List.modify_succ_cons];exact⟨a,_,rfl,h1,h2,h3,g7 d' u q1 q2⟩
theorem SA{k:Int}{kd:IntKind}:∀{l:List MapEntry} {i:Nat},Instr.findNow (.int kd) (.int .i64 k) l i=some none→∀x∈l,x.key≠.int .i64 k
 | [],_,_,x,hx=>by trivial
 | a::l,i,h,x,hx=>by
   intro e;rcases aF.1 hx with rfl|hx
   ·grind[Instr.findNow,Instr.sameNow]
   ·unfold Instr.findNow at h;cases hs:Instr.sameNow (.int kd) (.int .i64 k) a.key with
    | none=>simp_all
    | some b=>cases b with
      | true=>simp_all
      | false=>simp only[hs]at h;exact SA h x hx e
section
variable {P:Program} {A:f_}
theorem eY.alT{t:S}{a:Act}{E:En}(h:eY A t a E){d:Nat}(hd:t (.o d) = .none):
  ∃E':En,E'.w=E.w.alloc (.map #[] 0)∧eY A (upd t (.o d) (.mp [])) a E'∧aP E' (.mref d) (.map (some E.w.heap.size)):=by
 have hfree:=h.h.item (.o d) (by simp);rw[hd]at hfree
 obtain⟨hb0,hv0⟩:=hfree d rfl
 let E':En:={w:=E.w.alloc (.map #[] 0),St:=E.St,blk:=fun p=>if p = .o d then some E.w.heap.size else E.blk p,val:=E.val}
 have hold:∀b,b<E.w.heap.size→E'.w.heap[b]? = E.w.heap[b]? :=by grind[heap_alloc_old]
 have x:oQ E E':=by
  refine⟨fun _ _ h=>h,fun b o hst=>h_ (hold b (h.h.o_ b o hst)),fun id b _ he=>?_,fun i b he=>by trivial,fun i b he=>by trivial,fun _ _ c v _ hv=>⟨c,v,hv,au _,fun _=>rfl⟩⟩
  grind
 have hown:E'.own (.o d)=some E.w.heap.size:=by grind[En.own]
 have agu:∀q,q≠.o d→E'.own q=E.own q:=fun q hq=>En.mV (by grind) (fun _ _=>rfl)
 have hH:lD E' (upd t (.o d) (.mp [])):=by
  refine h.h.change (by simp) x (fun b o hst=>.inl hst) (fun q hq=>by grind) (fun id hid=>rfl) (by grind) (fun q b hq hb=>hold b (h.h.size q b hb)) (fun b hb=>?_) ?_ (fun b o hst hb=>?_)
  ·rw[hown]at hb;simp at hb;subst hb;exact⟨by simp[E'],.inr (au _)⟩
  ·refine⟨fun id hid=>?_,E.w.heap.size,#[],0,by grind,heap_alloc_new E.w _,rfl,MapKept.stamped_empty 0⟩
   grind
  ·rw[hown]at hb;simp at hb;exact absurd (h.h.o_ _ _ hst) (by omega)
 refine⟨E',rfl,h.step hH x (h.fr.next rfl rfl rfl (by grind) (fun b hb _ _=>hold b (dA hb h.fr.size)) (fun i=>by rfl) (fun id b hb=>?_) (fun _ _ h=>h) (fun _ _ h=>.inl h)) (fun k=>Ag (by simp) k),?_⟩
 ·grind
 ·simp only[aP];grind
theorem Xi{o:Oper}{t:S}{ty d:Nat}(ho:o.op = .makeMap ty none):gB P A o t ⟨t (.o d) = .none,[.o d],[(.o d,.mp [])],.mref d⟩:=fun hC t' hr a E hi=>by
 have ht':t' (.o d) = .none:=by simp_all
 obtain⟨E',hw,hinv,hrel⟩:=hi.alT ht';refine⟨_,_,E',?_,.inl rfl,hinv,hrel⟩;simp[execOp,ho,Instr.makeMap,hw]
theorem MR{t:S}{a:Act}{E:En}(hi:eY A t a E){id:Nat}{es:List (Int×D)}(ht:t (.o id) = .mp es):E.val id=none∧∃b l clock,E.blk (.o id)=some b∧E.w.heap[b]? = some (.map l clock)∧rW E es l.toList∧MapKept.Stamped l clock:=by
 have:=hi.h.item (.o id) (by simp);rw[ht]at this
 exact⟨this.1 id rfl,this.2⟩
theorem eY.mapStep{t:S}{a:Act}{E:En}(hi:eY A t a E){id b:Nat}{es es':List (Int×D)}{l l':Array MapEntry}{clock clock':Nat}(ht:t (.o id) = .mp es)(hb:E.blk (.o id)=some b)(hg:E.w.heap[b]? = some (.map l clock))(hm:rW E es' l'.toList)(hs:MapKept.Stamped l' clock'):
  ∃E':En,E'.w = {E.w with heap:=E.w.heap.setIfInBounds b (.map l' clock')}∧oQ E E'∧eY A (upd t (.o id) (.mp es')) a E':=by
 obtain⟨hv0,_⟩:=MR hi ht;have nI:E.own (.o id)=some b:=by grind[En.own]
 let E':En:={E with w:={E.w with heap:=E.w.heap.setIfInBounds b (.map l' clock')}}
 have hoth:∀b',b'≠b→E'.w.heap[b']? = E.w.heap[b']? :=by grind
 have hst:∀b' o',E.St b' o'→b'≠b:=fun b' o' h e=>by
  subst e;obtain⟨e2,k2,es2,h1,_⟩:=hi.h.sep _ o' h _ nI
  simp_all
 have x:oQ E E':=⟨fun _ _ h=>h,fun b' o' h=>h_ (hoth b' (hst b' o' h)),fun _ _ _ h=>h,fun _ _ h=>h,fun _ _ h=>h,fun _ _ c v _ h=>⟨c,v,h,au _,fun _=>rfl⟩⟩
 have hown:∀q,E'.own q=E.own q:=fun q=>En.mV rfl (fun _ _=>rfl)
 have hH:lD E' (upd t (.o id) (.mp es')):=by
  refine hi.h.change (by simp) x (fun b o h=>.inl h) (fun _ _=>rfl) (fun _ _=>rfl) (by grind) (fun q b' hq hb'=>hoth b' fun e=>hq (by subst e;exact hi.h.inj _ _ _ hb' nI)) (fun b' hb'=>?_) ?_ (fun b' o' hs hb'=>?_)
  ·grind
  ·exact⟨fun j hj=>by grind,b,l',clock',hb,by grind,hm.ext x.r,hs⟩
  grind
 refine⟨E',rfl,x,hi.step hH x (hi.fr.next rfl rfl rfl (by grind) (fun b' h1 _ h3=>hoth b' fun e=>?_) (fun _=>rfl) (fun j b' h=>.inl (by rwa [hown]at h)) (fun _ _ h=>h) (fun _ _ h=>.inl h)) (fun k=>Ag (by simp) k)⟩;subst e;exact(hi.fr.new id b' nI).elim (fun h=>by omega) (fun⟨j,h⟩=>h3 j h)
def lkV(ck:Bool)(m:Option D)(z:TV):TV:=
 match ck with
 | true=>.qh [match m with|some d=>.d d|none=>z,.d (.bool m.isSome)]
 | false=>match m with|some d=>.d d|none=>z
theorem ZL{o:Oper}{t:S}{ty kt e:TypeId}{x ix:Operand}{ck:Bool}{id:Nat}{es:List (Int×D)}{k:Int}{kd:IntKind}{z:Value}(ho:o.op = .lookup ty x ix ck)(hm:P.underlying ty=some (.map kt e))(hk:P.underlying kt=some (.int kd))(hz:qm P e=some z)
  (hx:ev t x = .mref id) (ht:t (.o id) = .mp es) (hix:ev t ix = .d (.int .i64 k)):gB P A o t ⟨True,pl x++(pl ix++[.o id]),[],lkV ck (LD es k) (kK z)⟩:=
 .pure fun _ t' hr a E hi=>by
  have hx':ev t' x = .mref id:=(dK (bf hr)).trans hx;have hix':ev t' ix = .d (.int .i64 k):=(dK (bf (aQ hr))).trans hix;have ht':t' (.o id) = .mp es:=by simp[*]
  have h1:=bP hi x;rw[hx']at h1
  simp only[aP]at h1;obtain⟨b,hb,hu⟩:=h1;have h2:=bP hi ix;rw[hix']at h2
  simp only[aP,Rep]at h2;obtain⟨_,b',l,clock,hb',hg,hrel,_⟩:=MR hi ht';rw[hb]at hb'
  simp only[ah]at hb';subst hb';have hzero:(zeroValue e).run P E.w = .ok z E.w:=by
   unfold qm at hz;cases jU:P.info? e with
   | none=>simp_all
   | some inf=>simp only[jU,bY]at hz;simp[zeroValue,typeInfo,jU,hz]
  have hck:(Instr.checkKey l.isEmpty 10000 kt (.int .i64 k)).run P E.w = .ok () E.w:=by unfold Instr.checkKey;simp[Sem.run_bind,run_underlying hk]
  rcases Oo (k:=k) (kd:=kd) (i:=0) hrel with⟨g1,g2,_⟩|⟨d,j,a',g1,g2,_,_,_,g6,_⟩
  ·refine⟨match ck with|true=>.tuple #[z,.bool false]|false=>z,?_,?_⟩
   ·cases ck<;>simp[execOp,ho,hu,h2,Instr.lookup,Sem.run_bind,run_underlying hm,run_underlying hk,MapKept.run_getObj_map hg,hck,Instr.findKey,g2,hzero]
   ·rw[g1];cases ck with
    | true=>simp only[lkV,aP];exact⟨#[z,.bool false],rfl,by simp only[bD];exact⟨_,_,rfl,oI E z,_,_,rfl,by rfl,rfl⟩⟩
    | false=>simp[lkV,oI]
  ·refine⟨match ck with|true=>.tuple #[a'.val,.bool true]|false=>a'.val,?_,?_⟩
   ·cases ck<;>simp[execOp,ho,hu,h2,Instr.lookup,Sem.run_bind,run_underlying hm,run_underlying hk,MapKept.run_getObj_map hg,hck,Instr.findKey,g2,hzero]
   ·rw[g1];cases ck with
    | true=>simp only[lkV,aP];exact⟨#[a'.val,.bool true],rfl,by simp only[bD];exact⟨_,_,rfl,by trivial,_,_,rfl,by rfl,rfl⟩⟩
    | false=>trivial
theorem QZ{o:Oper}{t:S}{ty kt e:TypeId}{x ix y:Operand}{id:Nat}{es:List (Int×D)}{k:Int}{kd:IntKind}{d:D}(ho:o.op = .mapUpdate ty x ix y)(hm:P.underlying ty=some (.map kt e))(hk:P.underlying kt=some (.int kd))
  (hx:ev t x = .mref id) (ht:t (.o id) = .mp es) (hix:ev t ix = .d (.int .i64 k)) (hy:ev t y = .d d):gB P A o t ⟨True,pl x++(pl ix++(pl y++[.o id])),[(.o id,.mp (JW es k d))],.junk⟩:=fun _ t' hr a E hi=>by
 have hx':ev t' x = .mref id:=(dK (bf hr)).trans hx;have hix':ev t' ix = .d (.int .i64 k):=(dK (bf (aQ hr))).trans hix;have hy':ev t' y = .d d:=(dK (bf (aQ (aQ hr)))).trans hy;have ht':t' (.o id) = .mp es:=by simp[*]
 have h1:=bP hi x;rw[hx']at h1
 simp only[aP]at h1;obtain⟨b,hb,hu⟩:=h1;have h2:=bP hi ix;rw[hix']at h2
 simp only[aP,Rep]at h2;have h3:=bP hi y;rw[hy']at h3
 have hone:(a.eval y).oneCell'=true:=h3.one (by rfl);simp only[aP]at h3;obtain⟨_,b',l,clock,hb',hg,hrel,aom⟩:=MR hi ht';rw[hb]at hb'
 simp only[ah]at hb';subst hb';have hck:(Instr.checkKey false 10000 kt (.int .i64 k)).run P E.w = .ok () E.w:=by unfold Instr.checkKey;simp[Sem.run_bind,run_underlying hk]
 rcases Oo (k:=k) (kd:=kd) (i:=0) hrel with⟨_,g2,g3⟩|⟨d',j,a',_,g2,g4,g5,_,_,g7⟩
 ·obtain⟨E',hw',x',hinv⟩:=hi.mapStep (l':=l.push ⟨.int .i64 k,a.eval y,clock⟩) (clock':=clock+1) ht' hb hg (by rw[Array.toList_push];exact g3 d (a.eval y) clock hone h3) (MapKept.stamped_push aom (SA g2));refine⟨.skip,undef,E',?_,.inr ⟨rfl,rfl⟩,hinv,by trivial⟩
  simp[execOp,ho,hu,h2,Instr.mapUpdate,Sem.run_bind,run_underlying hm,run_underlying hk,MapKept.run_getObj_map hg,MapKept.run_setObj_map _ hg,hck,Instr.findKey,g2,hw']
 ·obtain⟨E',hw',x',hinv⟩:=hi.mapStep (l':=l.modify j fun e=>{e with key:=.int .i64 k,val:=a.eval y}) (clock':=clock) ht' hb hg (by rw[Array.toList_modify];exact g7 d (a.eval y) hone h3) (MapKept.stamped_modify aom j _ (fun _ _=>rfl) (fun e _ he=>by simp_all));refine⟨.skip,undef,E',?_,.inr ⟨rfl,rfl⟩,hinv,by trivial⟩;have g4':l[j]? = some a':=by simp_all
  have hst:(Instr.keyThatStays (.int .i64 k) (.int .i64 k)).run P E.w = .ok (.int .i64 k) E.w:=by simp[Instr.keyThatStays,Instr.sameBits]
  simp[execOp,ho,hu,h2,Instr.mapUpdate,Sem.run_bind,run_underlying hm,run_underlying hk,MapKept.run_getObj_map hg,MapKept.run_setObj_map _ hg,hck,Instr.findKey,g2,g4',g5,hst,hw']
end
end Go.Tr
