/-
  What functions of the program compute, stated as contracts over plain data; the conditions of each stand in its own statement.
-/
import Derived.Test.YtkikielfhjoogaaGreatDoorZA01
set_option linter.unusedVariables false
set_option linter.unusedSimpArgs false
namespace Go.Tr
open Go
section
variable {P:Program} {A:f_}
theorem Fr.next{E0 E E':En}(f:Fr E0 E)(os:E'.w.os=E.w.os)(tape:E'.w.tape=E.w.tape)(output:E'.w.output=E.w.output)(size:E.w.heap.size≤E'.w.heap.size)
  (old:∀b,b<E0.w.heap.size→(∀i,E0.blk (.x i)≠some b)→(∀j,E0.own (.o j)≠some b)→E'.w.heap[b]? = E.w.heap[b]?) (xb:∀i,E'.blk (.x i)=E.blk (.x i))
  (new:∀id b,E'.own (.o id)=some b→E.own (.o id)=some b∨E.w.heap.size≤b) (st:∀b o,E.St b o→E'.St b o)
  (xE:∀b o,E'.St b o→E.St b o∨(E0.w.heap.size≤b∨∃j,E0.own (.o j)=some b)):Fr E0 E':=
 ⟨os.trans f.os,tape.trans f.tape,output.trans f.output,dw f.size size,fun b h1 h2 h3=>(old b h1 h2 h3).trans (f.old b h1 h2 h3),fun i=>(xb i).trans (f.xb i),
  fun id b h=>(new id b h).elim (f.new id b) (fun h=>.inl (dw f.size h)),fun b o h=>st b o (f.st b o h),fun b o h=>(xE b o h).elim (f.xE b o) .inr⟩
theorem eY.step{t t':S}{a:Act}{E E':En}(h:eY A t a E)(hH:lD E' t')(x:oQ E E')(fr:Fr A.E0 E')(hs:∀k,t' (.s k)=t (.s k)):eY A t' a E':=
 ⟨hH,fr,fun k tv hk=>by
  obtain⟨u,h1,h2⟩:=h.sl k tv (by simp_all);exact⟨u,h1,h2.up x⟩,h.defers,h.size⟩
theorem Ag{t:S}{p:Pl}{i:It}(hp:∀k,p≠.s k)(k:Nat):upd t p i (.s k)=t (.s k):=by rw[upd,if_neg (fun e=>hp k e.symm)]
theorem eY.put{t:S}{a:Act}{E:En}(h:eY A t a E){d:Nat}(hd:d<A.N){tv:TV}{u:Value}(hr:aP E tv u):eY A (upd t (.s d) (.v tv)) (a.put (some d) u) E:=by
 have hsz:=h.size;refine⟨h.h.slot d _,h.fr,fun k tv' hk=>?_,h.defers,by grind[Act.put]⟩;by_cases e:k=d
 ·simp only[upd,if_true,It.v.injEq]at hk
  grind[Act.put]
 ·simp only[upd,Pl.s.injEq,e,if_false]at hk;obtain⟨u',h1,h2⟩:=h.sl k tv' hk
  grind[Act.put]
theorem upd_same(t:S)(p:Pl)(i:It):upd t p i p=i:=by simp[upd]
theorem eY.Vo{t:S}{a:Act}{E:En}(h:eY A t a E){d:Nat}(hd:t (.o d) = .none){us:Array Value}{cs:List TV}(hs:us.size=cs.length)(hc:cu E us.toList 0 cs)(ty:TypeId):
  ∃E':En,E'.w=E.w.alloc (.cells us ty)∧eY A (upd t (.o d) (.box cs)) a E'∧aP E' (.ptr (.o d) 0) (.pointer (some ⟨E.w.heap.size,0,none⟩)):=by
 have hfree:=h.h.item (.o d) (by simp);rw[hd]at hfree
 obtain⟨hb0,hv0⟩:=hfree d rfl
 let E':En:={w:=E.w.alloc (.cells us ty),St:=E.St,blk:=fun p=>if p = .o d then some E.w.heap.size else E.blk p,val:=E.val}
 have hold:∀b,b<E.w.heap.size→E'.w.heap[b]? = E.w.heap[b]? :=by grind[heap_alloc_old]
 have x:oQ E E':=by
  refine⟨fun _ _ h=>h,fun b o hst=>h_ (hold b (h.h.o_ b o hst)),fun id b _ he=>?_,fun i b he=>by trivial,fun i b he=>by trivial,fun _ _ c v _ hv=>⟨c,v,hv,au _,fun _=>rfl⟩⟩
  grind
 have hown:E'.own (.o d)=some E.w.heap.size:=by grind[En.own]
 have agu:∀q,q≠.o d→E'.own q=E.own q:=fun q hq=>En.mV (by grind) (fun _ _=>rfl)
 have hH:lD E' (upd t (.o d) (.box cs)):=by
  refine h.h.change (by simp) x (fun b o hst=>.inl hst) (fun q hq=>by grind) (fun id hid=>rfl) (by grind) (fun q b hq hb=>hold b (h.h.size q b hb)) (fun b hb=>?_) ?_ (fun b o hst hb=>?_)
  ·rw[hown]at hb;simp at hb;subst hb;exact⟨by simp[E'],.inr (au _)⟩
  ·refine⟨fun id hid=>?_,E.w.heap.size,ty,us,by grind,heap_alloc_new E.w _,hs,hc.up x⟩
   grind
  ·rw[hown]at hb;simp at hb;subst hb
   exact absurd (h.h.o_ _ _ hst) (by omega)
 refine⟨E',rfl,h.step hH x (h.fr.next rfl rfl rfl (by grind) (fun b hb _ _=>hold b (dA hb h.fr.size)) (fun i=>by rfl) (fun id b hb=>?_) (fun _ _ h=>h) (fun _ _ h=>.inl h)) (fun k=>Ag (by simp) k),?_⟩
 ·grind
 ·simp only[aP];grind
theorem UK(E:En)(us:List Value)(h:us.all (·.oneCell')=true):cu E us 0 (us.map kK):=
 (wS E us).cells (fun t ht=>by
  obtain⟨v,hv,rfl⟩:=ak.1 ht;have:=bM.1 h v hv;unfold kK;split<;>first|rfl|trivial)
def kS:Value→List Value
 | .agg cs=>cs.toList
 | v=>[v]
theorem qW(v:Value):kS v=v.cells.toList:=by cases v<;>rfl
theorem adu{o:Oper}{t:S}{ty d:Nat}{z:Value}(ho:o.op = .alloc ty)(hz:qm P ty=some z)(h1:(kS z).all (·.oneCell')=true):
  gB P A o t ⟨t (.o d) = .none,[.o d],[(.o d,.box ((kS z).map kK))],.ptr (.o d) 0⟩:=fun hC t' hr a E hi=>by
 have ht':t' (.o d) = .none:=(hr _ (by simp)).trans hC;rw[qW]at h1
 obtain⟨E',hw,hinv,hrel⟩:=hi.Vo ht' (us:=z.cells) (cs:=(kS z).map kK) (by simp[qW]) (by grind[qW,UK]) ty;refine⟨_,_,E',?_,.inl rfl,hinv,hrel⟩;unfold qm at hz;cases jU:P.info? ty with
 | none=>simp_all
 | some inf=>simp only[jU,bY]at hz;simp[execOp,ho,Instr.alloc,zeroValue,typeInfo,jU,hz,newVar,newRow,hw]
theorem DV{E:En}:∀{v:TV} {u:Value},aP E v u→(∀c∈v.cells,c.one=true)→u.cells.size=v.cells.length∧cu E u.cells.toList 0 v.cells:=by
 intro v u hr h1;have single:v.cells = [v]→u.cells.size=v.cells.length∧cu E u.cells.toList 0 v.cells:=by
  intro hv;rw[hv]at h1⊢
  have ho:=hr.one (h1 v (by simp));have hu:u.cells = #[u]:=by cases u<;>first|rfl|trivial
  rw[hu];exact⟨rfl,⟨u,rfl,ho,hr⟩,trivial⟩
 cases v with
 | agg vs=>obtain⟨us,rfl,hs⟩:=hr;exact⟨by simpa[Value.cells,TV.cells]using hs.length,hs.cells h1⟩
 | _=>exact single rfl
theorem ai2{o:Oper}{t:S}{ty d:Nat}{x:Operand}(ho:o.op = .box ty x):
  gB P A o t ⟨t (.o d) = .none∧∀c∈(ev t x).cells,c.one=true,pl x++[.o d],[(.o d,.box (ev t x).cells)],.ptr (.o d) 0⟩:=fun⟨hC,h1⟩ t' hr a E hi=>by
 have hx:=bP hi x;rw[dK (bf hr)]at hx
 have ht':t' (.o d) = .none:=by simp[*]
 obtain⟨hs,hc⟩:=DV hx h1;obtain⟨E',hw,hinv,hrel⟩:=hi.Vo ht' hs hc ty;refine⟨_,_,E',?_,.inl rfl,hinv,hrel⟩;simp[execOp,ho,Instr.box,newVar,newRow,hw]
def setAt(cs:List TV)(q:Nat)(vs:List TV):List TV:=cs.take q++(vs++cs.drop (q+vs.length))
theorem Bg{cs vs:List TV}{q:Nat}(h:q+vs.length≤cs.length):(setAt cs q vs).length=cs.length:=by grind[setAt]
theorem Ky{cs vs:List TV}{q:Nat}(h:q+vs.length≤cs.length)(i:Nat):(setAt cs q vs)[i]? = if i<q then cs[i]? else if i<q+vs.length then vs[i-q]? else cs[i]? :=by
 unfold setAt
 grind
theorem EZ{w:World}{b q:Nat}{ty:TypeId}{cur:Array Value}{e:TypeId}(hh:w.heap[b]? = some (.cells cur e (0,0))){v:Value}{z:Nat}(hz:kM P ty=some z)(hs:v.cells.size=z)
  (hl:q+z≤cur.size) (h1:∀u∈v.cells.toList,u.oneCell'=true) :
  (storeVar ty ⟨b,q,none⟩ v).run P w = .ok () (w.setRow b (cur.toList.take q++v.cells.toList++cur.toList.drop (q+v.cells.size)).toArray):=by
 have hst:=run_storeCells_at P b q e v.cells.toList 0 cur w hh (by simp[*]) h1;unfold kM at hz;cases jU:P.info? ty with
 | none=>simp_all
 | some inf=>simp only[jU,bH,ah]at hz;simp only[storeVar,sizeOf,typeInfo,Sem.run_bind,run_program,Result.andThen_ok,jU,Sem.run_pure,hs,hz,ne_eq,not_true_eq_false,if_false,pure_bind];simp[*]
theorem get_put{α:Type}{cur vs:List α}{q:Nat}(h:q+vs.length≤cur.length)(i:Nat):(cur.take q++vs++cur.drop (q+vs.length))[i]? = if i<q then cur[i]? else if i<q+vs.length then vs[i-q]? else cur[i]? :=by grind
theorem Ac{w:World}{b:Nat}{cur:Array Value}{e:TypeId}(hh:w.heap[b]? = some (.cells cur e (0,0)))(cs:Array Value):(w.setRow b cs).heap[b]? = some (.cells cs e (0,0)):=
 setRow_heap w b cur cs e (0,0) hh
theorem Q8{o:Oper}{t:S}{ty:TypeId}{x y:Operand}{p:Pl}{q:Nat}{cs vs:List TV}(ho:o.op = .store ty x y)(hx:ev t x = .ptr p q)(ht:t p = .box cs)(hv:(ev t y).cells=vs)(hz:kM P ty=some vs.length):
  gB P A o t ⟨q+vs.length≤cs.length∧∀c∈vs,c.one=true,pl x++(pl y++[p]),[(p,.box (setAt cs q vs))],.junk⟩:=fun⟨hl,h1⟩ t' hr a E hi=>by
 have hx':=bP hi x;rw[dK (bf hr),hx]at hx'
 have hy':=bP hi y;rw[dK (bf (aQ hr))]at hy'
 have ht':t' p = .box cs:=(aQ (aQ hr) _ (by simp)).trans ht;obtain⟨hs,hc⟩:=DV hy' (by simp_all);rw[hv]at hs hc
 obtain⟨b,ty',us,hu,hb,hh,hus,hcs⟩:=UJ hi ht' hx';have hp:∀k,p≠.s k:=by rintro k rfl;rw[hi.h.frees k]at hb;trivial
 have hob:E.own p=some b:=by simp[En.own,hb]
 have hone:∀u∈(a.eval y).cells.toList,u.oneCell'=true:=fun u hu=>by
  obtain⟨i,hi',rfl⟩:=lK hu;have hlt:i<vs.length:=by grind
  obtain⟨u',h2,h3,_⟩:=hc.get (i:=i) (t:=vs[i]) (by simp)
  simp_all
 let arr:Array Value:=(us.toList.take q++(a.eval y).cells.toList++us.toList.drop (q+(a.eval y).cells.size)).toArray
 have hrun:=EZ (P:=P) hh (b:=b) (q:=q) (v:=a.eval y) hz hs (by omega) hone
 let E':En:={E with w:=E.w.setRow b arr}
 have hother:∀b',b'≠b→E'.w.heap[b']? = E.w.heap[b']? :=fun b' hne=>setRow_other E.w b b' _ hne
 have aol:∀b' o',E.St b' o'→b'≠b:=fun b' o' hst e=>by
  subst e;obtain⟨e',k',es',h2,_⟩:=hi.h.sep _ _ hst p hob
  simp_all
 have x:oQ E E':=⟨fun _ _ h=>h,fun b' o' hst=>h_ (hother b' (aol b' o' hst)),fun _ _ _ h=>h,fun _ _ h=>h,fun _ _ h=>h,fun _ _ c v _ hv=>⟨c,v,hv,au _,fun _=>rfl⟩⟩
 have harr:arr.size=us.size:=by grind
 have hsz:E'.w.heap.size=E.w.heap.size:=by grind[World.setRow]
 have hH:lD E' (upd t' p (.box (setAt cs q vs))):=by
  refine hi.h.change hp x (fun b o hst=>.inl hst) (fun q hq=>rfl) (fun id hid=>rfl) (by omega) (fun q' b' hq hb'=>hother b' (fun e=>hq (hi.h.inj _ _ _ (e▸hb') hob)))
   (fun b' hb'=>?_) ?_ (fun b' o' hst hb'=>?_)
  ·have:E'.own p=E.own p:=rfl
   grind
  ·have hold:=hi.h.item p hp;rw[ht']at hold
   refine⟨hold.1,b,ty',arr,hb,Ac hh arr,by rw[harr,hus,Bg hl],cu.iI fun i tv hi'=>?_⟩;rw[Ky hl]at hi'
   have hget:=get_put (cur:=us.toList) (vs:=(a.eval y).cells.toList) (q:=q) (by simp[*]) i;simp only[gK,hs]at hget;simp only[arr,bT,List.toList_toArray,hs,hget];by_cases h2:i<q
   ·rw[if_pos h2]at hi'⊢
    obtain⟨u,h3,h4,h5⟩:=hcs.get hi';exact⟨u,by simp_all,h4,h5.up x⟩
   ·rw[if_neg h2]at hi'⊢
    by_cases h3:i<q+vs.length
    ·rw[if_pos h3]at hi'⊢
     obtain⟨u,h3,h4,h5⟩:=hc.get hi';exact⟨u,by simpa using h3,h4,h5.up x⟩
    ·rw[if_neg h3]at hi'⊢
     obtain⟨u,h3,h4,h5⟩:=hcs.get hi';exact⟨u,by simpa using h3,h4,h5.up x⟩
  ·have he:E'.own p=E.own p:=rfl;rw[he,hob]at hb'
   exact absurd (Option.some.inj hb').symm (aol b' o' hst)
 refine⟨.skip,undef,E',?_,.inr ⟨rfl,rfl⟩,hi.step hH x (hi.fr.next rfl rfl rfl (by rw[hsz];exact au _) (fun b' h2 h3 h4=>hother b' (fun e=>?_)) (fun _=>rfl) (fun id b' hb'=>.inl hb') (fun _ _ h=>h) (fun _ _ h=>.inl h)) (fun k=>Ag hp k),by simp only[aP]⟩
 ·simp only[execOp,ho,hu,Instr.storeAt,Instr.sureAddr,Sem.run_bind,Sem.run_pure,Result.andThen_ok,hrun,E',arr]
 ·subst e;cases p with
  | s k=>exact hp k rfl
  | x k=>exact h3 k ((hi.fr.xb k).symm.trans hb)
  | o id=>exact(hi.fr.new id b' hob).elim (fun h=>by omega) (fun⟨j,h⟩=>h4 j h)
end
end Go.Tr

namespace Go.Tr
open Go
section
variable {P:Program} {A:f_}
theorem eY.Nc{t:S}{a:Act}{E:En}(hi:eY A t a E){id k:Nat}{e:TypeId}{es es':List (List TV)}{sh sh':Bool}(ht:t (.o id) = .row e k es sh)
  {v v':Value} {us':List Value} {w':World} (hval:E.val id=some (k,es.length,v)) (hg:E.w.grownBy w' v.ownBlock) (hown:w'.ownsRow 0 e k v' es'.length us')
  (hle:es.length≤es'.length) (heq:es.length=es'.length→v'=v) (hob:v'.ownBlock=v.ownBlock∨v'.ownBlock=some E.w.heap.size)
  (hst:∀b o,E.St b o→QE w' b o=QE E.w b o) (hsh:sh=true→sh'=true)
  (hrel:∀E':En,E'.w=w'→oQ E E'→fC E' us' k 0 es') :
  ∃E':En,E'.w=w'∧oQ E E'∧eY A (upd t (.o id) (.row e k es' sh')) a E'∧E'.val id=some (k,es'.length,v'):=by
 have hit:=hi.h.item (.o id) (by simp);rw[ht]at hit
 obtain⟨hb0,_⟩:=hit;have nI:E.own (.o id)=v.ownBlock:=by grind[En.own]
 let E':En:={E with w:=w',val:=fun i=>if i=id then some (k,es'.length,v')else E.val i}
 have hv':E'.val id=some (k,es'.length,v'):=by grind
 have OL:E'.own (.o id)=v'.ownBlock:=by grind[En.own]
 have x:oQ E E':=by
  refine⟨fun _ _ h=>h,hst,fun _ _ _ h=>h,fun _ _ h=>h,fun _ _ h=>h,fun i k' c u _ hu=>?_⟩
  grind
 have agt:∀q b,q≠.o id→E.own q=some b→w'.heap[b]? = E.w.heap[b]? :=fun q b hq hb=>by refine hg.block b (hi.h.size q b hb) (fun e=>hq (hi.h.inj _ _ b hb ?_));simp[*]
 have hH:lD E' (upd t (.o id) (.row e k es' sh')):=by
  refine hi.h.change (by simp) x (fun b o h=>.inl h) (fun q hq=>rfl) (fun i hne=>?_) hg.size agt (fun b hb=>?_) ⟨hb0,id,v',us',rfl,hv',hown,hrel E' rfl x⟩ (fun b o hs hb=>?_)
  ·grind
  ·rw[OL]at hb
   rw[nI];exact⟨(hown.lt b hb).2,hob.elim (fun e=>.inl (e▸hb)) (fun e=>.inr (by simp_all))⟩
  ·rw[OL]at hb
   rcases hob with e'|e'
   ·obtain⟨e2,k2,es2,h1,h2⟩:=hi.h.sep b o hs (.o id) (by rw[nI,←e',hb]);rw[ht]at h1
    simp only[It.row.injEq]at h1;obtain⟨rfl,rfl,rfl,hs1⟩:=h1;exact⟨e,k,es',by rw[hsh hs1],dA h2 (dN _ hle)⟩
   ·rw[e']at hb;simp at hb
    have:=hi.h.o_ _ _ hs;omega
 refine⟨E',rfl,x,hi.step hH x (hi.fr.next hg.os hg.tape hg.output hg.size (fun b h1 h2 h3=>hg.block b (dA h1 hi.fr.size) (fun e=>?_)) (fun _=>rfl) (fun i b hb=>?_) (fun _ _ h=>h) (fun _ _ h=>.inl h)) (fun k=>Ag (by simp) k),hv'⟩
 ·exact(hi.fr.new id b (by rw[nI,←e])).elim (fun h=>by omega) (fun⟨j,h⟩=>h3 j h)
 ·by_cases e:i=id
  ·grind
  ·have:E'.own (.o i)=E.own (.o i):=En.mV rfl (fun j hj=>by grind)
   simp_all
theorem wO{α:Type}{l:List α}{i:Nat}(h:i<l.length)(v:α)(j:Nat):(l.set i v)[j]? = if j=i then some v else l[j]? :=by grind
theorem Q9{o:Oper}{t:S}{ty:TypeId}{x y:Operand}{id n i q k:Nat}{e:TypeId}{es:List (List TV)}{vs:List TV}(ho:o.op = .store ty x y)(hx:ev t x = .qH id n i q)(ht:t (.o id) = .row e k es false)
  (hv:(ev t y).cells=vs) (hz:kM P ty=some vs.length) :
  gB P A o t ⟨n=es.length∧i<es.length∧q+vs.length≤(es.getD i []).length∧∀c∈vs,c.one=true,pl x++(pl y++[.o id]),[(.o id,.row e k (es.set i (setAt (es.getD i []) q vs)) false)],.junk⟩:=fun⟨hn,hil,hl,h1⟩ t' hr a E hi=>by
 have hx':=bP hi x;rw[dK (bf hr),hx]at hx'
 have hy':=bP hi y;rw[dK (bf (aQ hr))]at hy'
 have ht':t' (.o id) = .row e k es false:=(aQ (aQ hr) _ (by simp)).trans ht;subst hn;obtain⟨hs,hc⟩:=DV hy' (by simp_all);rw[hv]at hs hc
 obtain⟨g,cap,us,hval,hu,hown,hrow⟩:=Ht hi ht' hx';have hone:∀u∈(a.eval y).cells.toList,u.oneCell'=true:=fun u hu=>by
  obtain⟨i,hi',rfl⟩:=lK hu;have hlt:i<vs.length:=by grind
  obtain⟨u',h2,h3,_⟩:=hc.get (i:=i) (t:=vs[i]) (by simp)
  simp_all
 have atf:es[i]? = some (es.getD i []):=by simp[*]
 obtain⟨hlen,hcell⟩:=hrow.get atf;simp only[bT]at hcell;rcases hown.2 with⟨h4,_⟩|⟨g',cap',cur,h4,hg0,hgg,hnc,hcm,hcs,htake⟩
 ·omega
 simp only[Value.slice.injEq,ah,Addr.mk.injEq,true_and,and_true]at h4;obtain⟨rfl,rfl⟩:=h4;have hmul:i*k+k≤es.length*k:=by
  have:(i+1)*k≤es.length*k:=dN k hil
  grind
 have avY:es.length*k≤cap*k:=dN k hnc
 let arr:Array Value:=(cur.toList.take (i*k+q)++(a.eval y).cells.toList++cur.toList.drop (i*k+q+(a.eval y).cells.size)).toArray
 have hrun:=EZ (P:=P) hgg (q:=i*k+q) (v:=a.eval y) hz hs (by omega) hone;have harr:arr.size=cur.size:=by grind
 have hget:=get_put (cur:=cur.toList) (vs:=(a.eval y).cells.toList) (q:=i*k+q) (by grind);simp only[gK,hs]at hget
 let us':=arr.toList.take (es.length*k)
 have Vb:∀j,j<es.length*k→us'[j]? = if j<i*k+q then us[j]? else if j<i*k+q+vs.length then(a.eval y).cells.toList[j-(i*k+q)]? else us[j]? :=fun j hj=>by grind
 have JJ:E.w.grownBy (E.w.setRow g arr) (Value.ownBlock (.slice (some ⟨g,0,none⟩) es.length cap)):=
  ⟨rfl,rfl,rfl,by simp,fun b _ hne=>setRow_other E.w g b _ (fun e=>hne (by grind[Value.ownBlock]))⟩
 have hes:(es.set i (setAt (es.getD i []) q vs)).length=es.length:=by simp
 have aje:E.own (.o id)=some g:=by
  have hit:=hi.h.item (.o id) (by simp);rw[ht']at hit
  simp[En.own,hit.1,hval,Value.ownBlock]
 obtain⟨E',hw',x,hinv,hval'⟩:=hi.Nc ht' (v':=.slice (some ⟨g,0,none⟩) es.length cap) (us':=us') (es':=es.set i (setAt (es.getD i []) q vs)) (sh':=false) hval JJ
  (by
   rw[hes];refine⟨by grind,.inr ⟨g,cap,arr,rfl,hg0,Ac hgg arr,hnc,hcm,by rw[harr,hcs],rfl⟩⟩)
  (by omega) (fun _=>rfl) (.inl rfl)
  (fun b o' hst=>by
   by_cases e:b=g
   ·subst e;obtain⟨e',k',es',h2,_⟩:=hi.h.sep _ _ hst _ aje;rw[ht']at h2;simp at h2
   grind[h_,setRow_other])
  (fun h=>h)
  (fun E' hw' x=>fC.iI fun i' el hel=>by
   rw[wO hil]at hel
   have hlt:i'<es.length:=by
    by_cases e:i'=i
    ·omega
    ·rw[if_neg e]at hel;exact(aB.1 hel).1
   have hm':i'*k+k≤es.length*k:=by
    have:(i'+1)*k≤es.length*k:=dN k hlt
    rwa [fF,Nat.one_mul]at this
   by_cases e:i'=i
   ·subst e;rw[if_pos rfl]at hel
    simp only[ah]at hel;subst hel;refine⟨by rw[Bg hl,hlen],cu.iI fun j tv hj=>?_⟩;rw[Ky hl]at hj
    have hjk:j<k:=by
     by_cases h2:j<q
     ·omega
     ·rw[if_neg h2]at hj
      by_cases h3:j<q+vs.length
      ·omega
      ·rw[if_neg h3]at hj;have:=(aB.1 hj).1;omega
    rw[bT,Vb _ (by omega)];by_cases h2:j<q
    ·rw[if_pos h2]at hj
     rw[if_pos (by omega)];obtain⟨u,h5,h6,h7⟩:=hcell.get hj;exact⟨u,h5,h6,h7.up x⟩
    ·rw[if_neg h2]at hj
     rw[if_neg (by omega)];by_cases h3:j<q+vs.length
     ·rw[if_pos h3]at hj
      rw[if_pos (by omega)];obtain⟨u,h5,h6,h7⟩:=hc.get hj;refine⟨u,?_,h6,h7.up x⟩;rw[show i'*k+j-(i'*k+q)=j-q by omega];simpa using h5
     ·rw[if_neg h3]at hj
      rw[if_neg (by omega)];obtain⟨u,h5,h6,h7⟩:=hcell.get hj;exact⟨u,h5,h6,h7.up x⟩
   ·rw[if_neg e]at hel
    obtain⟨h8,h9⟩:=hrow.get hel;refine⟨h8,cu.iI fun j tv hj=>?_⟩;have hjk:j<k:=by have:=(aB.1 hj).1;omega
    rw[bT,Vb _ (by omega)];obtain⟨u,h5,h6,h7⟩:=h9.get hj;simp only[bT]at h5;refine⟨u,?_,h6,h7.up x⟩;by_cases h2:i'*k+j<i*k+q
    ·rw[if_pos h2];exact h5
    ·rw[if_neg h2,if_neg ?_]
     ·exact h5
     ·intro h3;rcases Nat.lt_or_gt_of_ne e with h4|h4
      ·have:(i'+1)*k≤i*k:=dN k h4;rw[fF,Nat.one_mul]at this;omega
      ·have:(i+1)*k≤i'*k:=dN k h4;rw[fF,Nat.one_mul]at this;omega)
 refine⟨.skip,undef,E',?_,.inr ⟨rfl,rfl⟩,hinv,by simp only[aP]⟩
 grind[execOp,Instr.storeAt,Instr.sureAddr,Sem.run_bind,Sem.run_pure,Result.andThen_ok]
end
end Go.Tr

namespace Go.Tr
open Go
section
variable {P:Program} {A:f_}
theorem eY.newRow{t:S}{a:Act}{E:En}(hi:eY A t a E){d:Nat}(hd:t (.o d) = .none)(e k:Nat):
  ∃E':En,E'.w=E.w∧oQ E E'∧eY A (upd t (.o d) (.row e k [] false)) a E'∧E'.val d=some (k,0,.slice none 0 0):=by
 have hfree:=hi.h.item (.o d) (by simp);rw[hd]at hfree
 obtain⟨hb0,hv0⟩:=hfree d rfl
 let E':En:={E with val:=fun i=>if i=d then some (k,0,.slice none 0 0)else E.val i}
 have hv':E'.val d=some (k,0,.slice none 0 0):=by simp[E']
 have x:oQ E E':=by
  refine⟨fun _ _ h=>h,fun _ _ _=>rfl,fun _ _ _ h=>h,fun _ _ h=>h,fun _ _ h=>h,fun i k' c u _ hu=>?_⟩;by_cases e:i=d
  ·subst e;rw[hv0]at hu;simp at hu
  ·exact⟨c,u,by simp[E',e,hu],au _,fun _=>rfl⟩
 have hown:E'.own (.o d)=none:=by simp[En.own,E',hb0,Value.ownBlock]
 have hH:lD E' (upd t (.o d) (.row e k [] false)):=by
  refine hi.h.change (by simp) x (fun b o h=>.inl h) (fun q hq=>rfl) (fun i hne=>?_) (au _) (fun q b hq hb=>rfl) (fun b hb=>?_) ⟨hb0,d,.slice none 0 0,[],rfl,hv',World.ownsRow_nil _ _ _ _,trivial⟩ (fun b o hs hb=>?_)
  ·have hne':i≠d:=fun e=>hne (by rw[e])
   simp[E',hne']
  ·rw[hown]at hb;simp at hb
  ·rw[hown]at hb;simp at hb
 refine⟨E',rfl,x,hi.step hH x (hi.fr.next rfl rfl rfl (au _) (fun _ _ _ _=>rfl) (fun _=>rfl) (fun i b hb=>?_) (fun _ _ h=>h) (fun _ _ h=>.inl h)) (fun k=>Ag (by simp) k),hv'⟩;by_cases e:i=d
 ·subst e;rw[hown]at hb;simp at hb
 ·have:E'.own (.o i)=E.own (.o i):=En.mV rfl (fun j hj=>by simp only[Pl.o.injEq]at hj;subst hj;simp[E',e]);rw[this]at hb;exact .inl hb
theorem LK{w:World}{base t e:Nat}{ty:TypeId}{inf:TypeInfo}(ht:P.underlying t=some (.slice e))(hi:P.info? e=some inf){v:Value}{n size:Nat}{xs:List Value}
  (hown:w.ownsRow base e size v n xs) (ad:Option Addr) (c:Nat):(Builtin.append_ #[t,t] ty #[v,.slice ad 0 c]).run P w = .ok v w:=by
 rcases hown.2 with⟨rfl,rfl⟩|⟨g,cap,cur,rfl,_,_,hnc,_⟩
 ·cases ad<;>simp[Builtin.append_,run_underlying ht,sizeOf,typeInfo,hi,Builtin.lenOf,Builtin.firstCells,loadCells,loadCellsFrom]
 ·cases ad<;>simp[Builtin.append_,run_underlying ht,sizeOf,typeInfo,hi,Builtin.lenOf,Builtin.firstCells,hnc,storeCells,loadCells,loadCellsFrom]
theorem cells_of_row{w:World}{base k n b:Nat}{e:TypeId}{v:Value}{xs:List Value}(h:w.ownsRow base e k v n xs)(hb:v.ownBlock=some b):∃cur,w.heap[b]? = some (.cells cur e (0,0)):=by
 rcases h.2 with⟨rfl,_⟩|⟨g,cap,cur,rfl,_,hg,_⟩
 ·simp[Value.ownBlock]at hb
 ·simp[Value.ownBlock]at hb;subst hb;exact⟨cur,hg⟩
inductive Src (t:S):TV→List Pl→List (List TV)→Prop
 | sl (ys:List (List D)):Src t (.d (.sl ys)) [] (ys.map (·.map .d))
 | nil (ad:Option Addr) (c:Nat):Src t (.c (.slice ad 0 c)) [] []
 | row (id e k:Nat) (es:List (List TV)) (sh:Bool) (h:t (.o id) = .row e k es sh):Src t (.aW id es.length) [.o id] es
theorem Src.rel{t:S}{y:TV}{rp:List Pl}{ys:List (List TV)}(h:Src t y rp ys){k:Nat}(hk:∀e∈ys,e.length=k){t':S}(hr:∀p∈rp,t' p=t p){a:Act}{E:En}(hi:eY A t' a E){u:Value}(hu:aP E y u):
  ∃ad c news,u = .slice ad ys.length c∧news.length=ys.length*k∧fC E news k 0 ys∧(∀v∈news,v.oneCell'=true)∧
   (ys.length=0∨∃a0,ad=some a0∧∀j v,news[j]? = some v→E.w.cell? (a0.add j)=some v):=by
 cases h with
 | sl ys=>
   simp only[aP,Rep]at hu;rcases hu with⟨h0,ad,c,rfl⟩|⟨b,o,c,k',rfl,hc,hrows⟩
   ·have:ys = []:=cO h0;subst this;exact⟨ad,c,[],rfl,by simp,trivial,by simp,.inl rfl⟩
   ·-- gather the values
    have key:∀(ys:List (List D)) (o:Nat),(∀e∈ys,e.length=k)→jK E b k' o ys→∃news:List Value,news.length=ys.length*k∧E.w.rangeAt b o news∧
      (∀us o',(∀j v,news[j]? = some v→us[o'+j]? = some v)→fC E us k o' (ys.map (·.map .d)))∧(∀v∈news,v.oneCell'=true):=by
     intro ys
     induction ys with
     | nil=>exact fun o _ _=>⟨[],by simp,fun j v h=>by simp at h,fun us o' _=>trivial,by simp⟩
     | cons y ys ih=>
       intro o hl hrow;simp only[jK]at hrow;obtain⟨hy,hcell,hrest⟩:=hrow;have hyk:y.length=k:=hl y (by simp);obtain⟨us0,h1,h2,h3⟩:=hcell.range;obtain⟨news,h4,h5,h6,h7⟩:=ih (o+k') (fun e he=>hl e (by simp[he])) hrest;refine⟨us0++news,by simp[h1,h4,hyk,fF];omega,fun j v hj=>?_,fun us o' hus=>⟨by simp[hyk],?_,?_⟩,fun v hv=>?_⟩
       ·by_cases hlt:j<us0.length
        ·rw[bW hlt]at hj;exact h2 j v hj
        ·rw[b_ (by omega)]at hj
         have:=h5 _ _ hj
         rwa [show o+k'+(j-us0.length)=o+j by omega]at this
       ·refine cu.iI fun i tv hi'=>?_
        obtain⟨u,h8,h9⟩:=h3.get hi';have hone:tv.one=true:=by simp only[bn,dO]at hi';obtain⟨x,_,rfl⟩:=hi';rfl
        exact⟨u,hus i u (by rw[bW (aB.1 h8).1];exact h8),h9.one hone,h9⟩
       ·refine h6 us (o'+k) fun j v hj=>?_
        have:=hus (us0.length+j) v (by rw[b_ (by omega)];simpa using hj)
        rwa [h1,hyk,←iZ]at this
       ·rcases aN.1 hv with hv|hv
        ·obtain⟨i,hi',rfl⟩:=lK hv;have hlt:i<(y.map TV.d).length:=by rw[aV,←h1];exact hi'
         obtain⟨u,h8,h9⟩:=h3.get (i:=i) (t:=(y.map TV.d)[i]) (by rw[aj hlt]);rw[aj hi']at h8
         simp only[ah]at h8;subst h8;exact h9.one (by simp[TV.one])
        ·exact h7 v hv
    obtain⟨news,h4,h5,h6,h7⟩:=key ys o (fun e he=>by simpa using hk (e.map .d) (by simp;exact⟨e,he,rfl⟩)) hrows;refine⟨some ⟨b,o,none⟩,c,news,by simp,by simpa using h4,h6 news 0 (fun j v h=>by simpa using h),h7,.inr ⟨_,rfl,fun j v hj=>?_⟩⟩;rw[ny];exact h5 j v hj
 | nil ad c=>simp only[aP]at hu;exact⟨ad,c,[],hu,by simp,trivial,by simp,.inl rfl⟩
 | row id e k' es sh h=>
   have ht':t' (.o id) = .row e k' ys sh:=(hr _ (by simp)).trans h;obtain⟨_,v,us,h1,h2,h3,h4⟩:=xR hi ht';have hv:=h4 _ hu;subst hv;rcases h2.2 with⟨rfl,h5⟩|⟨g,cap,cur,h6,hb,hg,hnc,hcm,hcs,htake⟩
   ·have:ys = []:=cO h5;subst this;exact⟨none,0,[],rfl,by simp,trivial,by simp,.inl rfl⟩
   ·subst h6;by_cases h0:ys.length=0
    ·have:ys = []:=cO h0;subst this;exact⟨_,cap,[],rfl,by simp,trivial,by simp,.inl rfl⟩
    ·have hkk:k'=k:=by
      have hm:0<ys.length:=by omega
      have:=(h3.get (i:=0) (e:=ys[0]) (by simp[hm])).1;rw[←this];exact hk _ (by simp)
     subst hkk;refine⟨_,cap,us,rfl,h2.1,h3,fun u hu'=>?_,.inr ⟨_,rfl,fun j v hj=>?_⟩⟩
     ·obtain⟨j,hj,rfl⟩:=lK hu';have hjl:j<ys.length*k':=by rw[←h2.1];exact hj
      have hk0:0<k':=by
       rcases jA k' with h|h
       ·subst h;simp at hjl
       ·exact h
      have hdiv:j/k'<ys.length:=(Nat.div_lt_iff_lt_mul hk0).2 hjl;obtain⟨hl,hc⟩:=h3.get (i:=j/k') (e:=ys[j/k']) (by simp[hdiv]);have hmod:j%k'<(ys[j/k']).length:=by rw[hl];exact Nat.mod_lt _ hk0
      obtain⟨u,h7,h8,_⟩:=hc.get (i:=j%k') (t:=(ys[j/k'])[j%k']) (by simp[hmod]);rw[show 0+j/k'*k'+j%k'=j by rw[bT,Nat.mul_comm];exact Nat.div_add_mod j k']at h7
      rw[aj hj]at h7
      simp only[ah]at h7;rw[h7];exact h8
     ·exact h2.cells (g:=g) (by simp[Value.ownBlock]) j v hj
theorem fC.app{E:En}{us vs:List Value}{k:Nat}:∀{o:Nat} {es ys:List (List TV)},us.length=o+es.length*k→fC E us k o es→fC E vs k 0 ys→fC E (us++vs) k o (es++ys):=by
 intro o es ys hl h1 h2;refine fC.iI fun i e he=>?_
 by_cases hi:i<es.length
 ·rw[bW hi]at he
  obtain⟨h3,h4⟩:=h1.get he;refine⟨h3,cu.iI fun j tv hj=>?_⟩;obtain⟨u,h5,h6⟩:=h4.get hj;exact⟨u,by rw[bW (aB.1 h5).1];exact h5,h6⟩
 ·rw[b_ (by omega)]at he
  obtain⟨h3,h4⟩:=h2.get he;refine⟨h3,cu.iI fun j tv hj=>?_⟩;obtain⟨u,h5,h6⟩:=h4.get hj;refine⟨u,?_,h6⟩;have hm:i*k=es.length*k+(i-es.length)*k:=by rw[←fF];congr 1;omega
  rw[b_ (by rw[hl,hm];omega),hl,hm];simp only[bT]at h5;rw[←h5];congr 1;omega
theorem LJ{w:World}{base t e:Nat}{ty:TypeId}{inf:TypeInfo}{z:Value}{size bytes:Nat}(ht:P.underlying t=some (.slice e))(hi:P.info? e=some inf)(hz:inf.zero=some z)
  (hsize:inf.size=size) (hby:inf.bytes=bytes) (hzs:z.cells.size=size) {v:Value} {n:Nat} {xs:List Value} (hown:w.ownsRow base e size v n xs)
  {a:Addr} {m c:Nat} {news:List Value} (hm:0<m) (hl:news.length=m*size) (hnews:∀j u,news[j]? = some u→w.cell? (a.add j)=some u) (h1:∀u∈news,u.oneCell'=true)
  (h63:n+m≤maxLen) (hbytes:(n+m)*bytes≤140737488355328) (hbase:base≤w.heap.size) :
  ∃v' w',(Builtin.append_ #[t,t] ty #[v,.slice (some a) m c]).run P w = .ok v' w'∧w'.ownsRow base e size v' (n+m) (xs++news)∧v'.oneCell'=true∧
   ((v'.ownBlock=v.ownBlock∧w.grownBy w' v.ownBlock)∨(v'.ownBlock=some w.heap.size∧w.grownBy w' none)):=by
 subst hsize;subst hby;have hsmall:n+m≤9223372036854775807:=by simp only[maxLen]at h63;omega
 have hlen:(xs++news).length=(n+m)*inf.size:=by rw[aU,hown.1,hl,fF]
 have grown:∀(old:Nat),old<n+m→
   (w.drew.alloc (.cells (xs.toArray++news.toArray++Builtin.zeroCells z.cells (grownCap w (n+m) old e-(n+m))) e)).ownsRow base e inf.size
    (.slice (some ⟨w.heap.size,0,none⟩) (n+m) (grownCap w (n+m) old e)) (n+m) (xs++news)∧
   w.grownBy (w.drew.alloc (.cells (xs.toArray++news.toArray++Builtin.zeroCells z.cells (grownCap w (n+m) old e-(n+m))) e)) none:=by
  intro old ho;have hge:=grownCap_ge w (n+m) old e;have hcm:grownCap w (n+m) old e≤maxLen:=grownCap_le_maxLen w (n+m) old e h63;refine⟨⟨hlen,.inr ⟨w.heap.size,_,_,rfl,hbase,heap_alloc_new w.drew _,hge,hcm,?_,?_⟩⟩,⟨rfl,rfl,rfl,by simp,fun k hk _=>(by first|exact heap_alloc_old w.drew _ k hk|exact heap_alloc_old w.drew _ hk)⟩⟩
  ·simp only[Array.size_append,jg,size_zeroCells,hzs,hown.1,hl,←fF]
   congr 1
   omega
  ·simp only[Array.toList_append,dP];rw[←dP,←hlen];exact List.take_left
 rcases hown.2 with⟨rfl,rfl⟩|⟨g,cap,cur,rfl,hbg,hg,hnc,hcm,hcs,htake⟩
 ·have hx:xs = []:=cO (by simpa using hown.1);subst hx;have hr:=run_append_nil (P:=P) w t ty e inf z ht hi hz a m c news hl hnews (by omega) (by omega) (by have hb:=hbytes;simp only[bT]at hb;omega);have hgr:=grown 0 (by omega);simp only[bT,dJ,fD]at hgr⊢;exact⟨_,_,hr,hgr.1,rfl,.inr ⟨rfl,hgr.2⟩⟩
 ·by_cases hroom:n+m≤cap
  ·have hfit:n*inf.size+news.length≤cur.size:=by rw[hl,hcs,←fF];exact dN _ hroom
   have hr:=run_append_room (P:=P) w t ty e inf ht hi g n cap cur hg a m c news hl hnews h1 hroom hfit;refine⟨_,_,hr,⟨hlen,.inr ⟨g,cap,_,rfl,hbg,setRow_heap w g cur _ e _ hg,hroom,hcm,?_,?_⟩⟩,rfl,.inl ⟨rfl,⟨rfl,rfl,rfl,by simp,fun k _ hk=>setRow_other w g k _ (fun e=>hk (by simp[Value.ownBlock,e]))⟩⟩⟩
   ·simp only[jg,aU,gG,List.length_drop,gK];omega
   ·rw[htake,←hlen];exact List.take_left
  ·have holds:∀j u,xs[j]? = some u→w.cell? ((⟨g,0,none⟩:Addr).add j)=some u:=hown.cells (g:=g) rfl;have hr:=run_append_grow (P:=P) w t ty e inf z ht hi hz ⟨g,0,none⟩ n cap xs hown.1 holds a m c news hl hnews (by omega) (by omega) (growslice_fits (by omega) hbytes);have hgr:=grown cap (by omega);exact⟨_,_,hr,hgr.1,rfl,.inr ⟨rfl,hgr.2⟩⟩
theorem eY.append{t:S}{a:Act}{E:En}(hi:eY A t a E){id e k b:Nat}{es:List (List TV)}{sh:Bool}(ht:t (.o id) = .row e k es sh){sty ty:TypeId}(he:qO P sty=some e)(hk:kM P e=some k)(hb:BJ P e=some b)
  {z:Value} (hz:qm P e=some z) (hzs:(kS z).length=k) (_hk0:0<k) {u:Value} (hu:aP E (.aW id es.length) u)
  {ys:List (List TV)} {ad:Option Addr} {c:Nat} {news:List Value} (hnl:news.length=ys.length*k) (hrow:fC E news k 0 ys) (hone:∀v∈news,v.oneCell'=true)
  (hsrc:ys.length=0∨∃a0,ad=some a0∧∀j v,news[j]? = some v→E.w.cell? (a0.add j)=some v)
  (hroom:(es.length+ys.length)*b≤140737488355328) (FI:es.length+ys.length≤9223372036854775807) :
  ∃(v':Value) (E':En),(Builtin.append_ #[sty,sty] ty #[u,.slice ad ys.length c]).run P E.w = .ok v' E'.w∧eY A (upd t (.o id) (.row e k (es++ys) sh)) a E'∧aP E' (.aW id (es.length+ys.length)) v':=by
 obtain⟨hblk,v,us,hval,hown,hrel,hcur⟩:=xR hi ht;have hv:=hcur _ hu;subst hv;unfold qO at he;split at he
 rotate_left
 ·simp at he
 rename_i e' hun;simp only[ah]at he;subst he;unfold kM at hk;unfold BJ at hb;unfold qm at hz;cases jU:P.info? e' with
 | none=>simp[jU]at hk
 | some inf=>
 simp only[jU,bH,ah,bY]at hk hb hz;have hzc:z.cells.size=k:=by rw[←hzs,qW];simp
 have nI:E.own (.o id)=u.ownBlock:=by simp[En.own,hblk,hval]
 have hone':∀(E':En) (v':Value),E'.val id=some (k,(es++ys).length,v')→v'.oneCell'=true→aP E' (.aW id (es.length+ys.length)) v':=fun E' v' h1 h2=>by simp only[aP];exact⟨h2,k,_,v',h1,by simp,fun _=>rfl⟩
 rcases jA ys.length with h0|hpos
 ·have hys:ys = []:=cO h0;subst hys;refine⟨u,E,by simpa using LK (P:=P) (ty:=ty) hun jU hown ad c,?_,by simpa using hu⟩;have:upd t (.o id) (.row e' k (es++[]) sh)=t:=by
   funext p;by_cases hp:p = .o id
   ·subst hp;simp[upd,ht]
   ·simp[upd,hp]
  rw[this];exact hi
 ·rcases hsrc with h0|⟨a0,rfl,hcells⟩
  ·omega
  obtain⟨v',w',hrun,hown',hv1,hob⟩:=LJ (P:=P) (ty:=ty) (c:=c) hun jU hz hk hb hzc hown hpos hnl hcells hone
   (by simp only[maxLen];omega) hroom (jk _)
  have JJ:E.w.grownBy w' u.ownBlock:=hob.elim (fun h=>h.2) (fun h=>⟨h.2.os,h.2.tape,h.2.output,h.2.size,fun i hi _=>h.2.block i hi (by simp)⟩);have aok:∀b o,E.St b o→QE w' b o=QE E.w b o:=fun b o hst=>by
   rcases hob with⟨hb',_⟩|⟨_,hg⟩
   ·by_cases e:E.own (.o id)=some b
    ·obtain⟨e2,k2,es2,h1,h2⟩:=hi.h.sep _ _ hst _ e;rw[ht]at h1
     simp only[It.row.injEq]at h1;obtain⟨rfl,rfl,rfl,_⟩:=h1;rw[nI]at e
     have hlt:o<us.length:=by rw[hown.1];exact h2
     have hold:=hown.cells e o _ (aj hlt);rw[ny,bT]at hold
     have hnew:=hown'.cells (hb'.trans e) o us[o] (by rw[bW hlt];exact aj hlt);rw[ny,bT]at hnew
     obtain⟨c1,q2⟩:=cells_of_row hown e;obtain⟨c2,q4⟩:=cells_of_row hown' (hb'.trans e);exact WC q2 q4 (by rw[hold,hnew])
    ·rw[nI]at e
     exact h_ (JJ.block b (hi.h.o_ _ _ hst) (fun e'=>e e'.symm))
   ·exact h_ (hg.block b (hi.h.o_ _ _ hst) (by simp))
  obtain⟨E',hw',x,hinv,hval'⟩:=hi.Nc ht (es':=es++ys) (sh':=sh) hval JJ (by simpa using hown') (by simp) (fun h=>by simp at h;subst h;simp at hpos) (hob.imp (fun h=>h.1) (fun h=>h.1))
   aok (fun h=>h) (fun E' _ x=>fC.app (by simpa using hown.1) (hrel.up x) (hrow.up x))
  exact⟨v',E',by rw[hw'];exact hrun,hinv,hone' E' v' hval' hv1⟩
end
end Go.Tr

namespace Go.Tr
open Go
section
variable {P:Program} {A:f_}
theorem akt(t:S)(p:Pl)(i j:It):upd (upd t p i) p j=upd t p j:=by grind[upd]
def Gx(k b n:Nat)(ys:List (List TV)):Prop:=(∀e∈ys,e.length=k)∧(n+ys.length)*b≤140737488355328∧n+ys.length≤9223372036854775807
theorem yE{o:Oper}{x y:Operand}{sty:TypeId}(ho:o.op = .call {callee:=.builtin .append,args:=#[x,y],argTypes:=#[sty,sty]}){a:Act}{w w':World}{v:Value}
  (h:(Builtin.append_ #[sty,sty] o.type #[a.eval x,a.eval y]).run P w = .ok v w'):(execOp a.eval o).run P w = .ok (.value v) w':=by
 simp[execOp,ho,resolve,invoke,builtin,h]
theorem Oe{o:Oper}{t:S}{x y:Operand}{sty:TypeId}{id n e k b:Nat}{es ys:List (List TV)}{sh:Bool}{rp:List Pl}{z:Value}
  (ho:o.op = .call {callee:=.builtin .append,args:=#[x,y],argTypes:=#[sty,sty]}) (hx:ev t x = .aW id n) (ht:t (.o id) = .row e k es sh) (hs:Src t (ev t y) rp ys)
  (he:qO P sty=some e) (hk:kM P e=some k) (hb:BJ P e=some b) (hz:qm P e=some z) (hzs:(kS z).length=k) (hk0:0<k) :
  gB P A o t ⟨n=es.length∧Gx k b n ys,pl x++(pl y++(.o id::rp)),[(.o id,.row e k (es++ys) sh)],.aW id (n+ys.length)⟩:=fun⟨hn,hlen,hroom,FI⟩ t' hr a E hi=>by
 have hx':=bP hi x;rw[dK (bf hr),hx]at hx'
 have hy':=bP hi y;rw[dK (bf (aQ hr))]at hy'
 have hr3:=aQ (aQ hr);have ht':t' (.o id) = .row e k es sh:=by simp[*]
 subst hn;obtain⟨ad,c,news,hu,hnl,hrow,hone,hsrc⟩:=hs.rel hlen (fun p hp=>hr3 p (by simp[*])) hi hy';obtain⟨v',E',hrun,hinv,hrel⟩:=hi.append ht' he hk hb hz hzs hk0 hx' (ty:=o.type) (c:=c) hnl hrow hone hsrc hroom FI;exact⟨_,v',E',yE ho (by simp[*]),.inl rfl,hinv,hrel⟩
theorem Ob{o:Oper}{t:S}{x y:Operand}{sty:TypeId}{d e k b:Nat}{ys:List (List TV)}{rp:List Pl}{z:Value}
  (ho:o.op = .call {callee:=.builtin .append,args:=#[x,y],argTypes:=#[sty,sty]}) (hx:ev t x = .c (.slice none 0 0)) (hs:Src t (ev t y) rp ys)
  (he:qO P sty=some e) (hk:kM P e=some k) (hb:BJ P e=some b) (hz:qm P e=some z) (hzs:(kS z).length=k) (hk0:0<k) :
  gB P A o t ⟨t (.o d) = .none∧Gx k b 0 ys,pl x++(pl y++(.o d::rp)),[(.o d,.row e k ys false)],.aW d ys.length⟩:=fun⟨hd,hlen,hroom,FI⟩ t' hr a E hi=>by
 have hx':=bP hi x;rw[dK (bf hr),hx]at hx'
 have hy':=bP hi y;rw[dK (bf (aQ hr))]at hy'
 have hr3:=aQ (aQ hr);have hd':t' (.o d) = .none:=by simp[*]
 obtain⟨ad,c,news,hu,hnl,hrow,hone,hsrc⟩:=hs.rel hlen (fun p hp=>hr3 p (by simp[*])) hi hy';obtain⟨E1,hw1,x1,hi1,hv1⟩:=hi.newRow hd' e k;have hnil:aP E1 (.aW d ([]:List (List TV)).length) (a.eval x):=by exact⟨by rw[hx'];rfl,k,0,_,hv1,au _,fun _=>hx'⟩
 obtain⟨v',E',hrun,hinv,hrel⟩:=hi1.append (upd_same _ _ _) he hk hb hz hzs hk0 hnil (ty:=o.type) (c:=c) hnl (hrow.up x1) hone (by rw[hw1];omega) (by omega) (by omega);rw[akt]at hinv
 refine⟨_,v',E',yE ho (by simp_all),.inl rfl,by trivial,by simp_all⟩
def toD:TV→Option D
 | .d x=>some x
 | .c (.slice none 0 0)=>some (.sl [])
 | _=>none
def LM:List TV→Option (List D)
 | []=>some []
 | t::ts=>match toD t,LM ts with
   | some x,some xs=>some (x::xs)
   | _,_=>none
def dd(xs:List (List D)):List (List TV):=xs.map (·.map .d)
def jX:List (List TV)→Option (List (List D))
 | []=>some []
 | e::es=>match LM e,jX es with
   | some x,some xs=>some (x::xs)
   | _,_=>none
theorem V7{E:En}{t:TV}{x:D}(h:toD t=some x){u:Value}(hr:aP E t u):Rep E x u:=by
 unfold toD at h;split at h
 ·grind[aP]
 ·simp only[ah]at h;subst h;simp only[aP]at hr;simp only[Rep];simp[*]
 trivial
theorem I7{ts:List TV}{xs:List D}(h:LM ts=some xs):xs.length=ts.length∧∀(i:Nat) (x:D),xs[i]? = some x→∃t,ts[i]? = some t∧toD t=some x:=by
 induction ts generalizing xs with
 | nil=>grind[LM]
 | cons t ts ih=>
   simp only[LM]at h
   grind
theorem Ey{es:List (List TV)}{xs:List (List D)}(h:jX es=some xs):xs.length=es.length∧∀(i:Nat) (x:List D),xs[i]? = some x→∃e,es[i]? = some e∧LM e=some x:=by
 induction es generalizing xs with
 | nil=>grind[jX]
 | cons t ts ih=>
   simp only[jX]at h
   grind
theorem eY.freeze{t:S}{a:Act}{E:En}(hi:eY A t a E){id e k:Nat}{es:List (List TV)}{sh:Bool}(ht:t (.o id) = .row e k es sh){xs:List (List D)}(hx:jX es=some xs):
  ∃E':En,E'.w=E.w∧oQ E E'∧E'.blk=E.blk∧E'.val=E.val∧eY A (upd t (.o id) (.row e k es true)) a E'∧(∀u,aP E (.aW id es.length) u→Rep E' (.sl xs) u)∧
   (∀b o,E'.St b o→E.St b o∨E.own (.o id)=some b):=by
 obtain⟨hblk,v,us,hval,hown,hrel,hcur⟩:=xR hi ht;have nI:E.own (.o id)=v.ownBlock:=by grind[En.own]
 obtain⟨hxl,hxg⟩:=Ey hx
 let E':En:={E with St:=fun b o=>E.St b o∨(v.ownBlock=some b∧o<es.length*k)}
 have x:oQ E E':=⟨fun _ _ h=>.inl h,fun _ _ _=>rfl,fun _ _ _ h=>h,fun _ _ h=>h,fun _ _ h=>h,fun _ _ c u _ hu=>⟨c,u,hu,au _,fun _=>rfl⟩⟩
 have hH1:lD E (upd t (.o id) (.row e k es true)):=by
  refine hi.h.change (by simp) (Ext.refl _ _) (fun b o h=>.inl h) (fun _ _=>rfl) (fun _ _=>rfl) (au _) (fun _ _ _ _=>rfl) (fun b hb=>⟨hi.h.size _ _ hb,.inl hb⟩) ?_ (fun b o hs hb=>?_)
  ·exact⟨hblk,id,v,us,rfl,hval,hown,hrel⟩
  ·obtain⟨e2,k2,es2,h1,h2⟩:=hi.h.sep b o hs _ hb
   grind
 have hH:lD E' (upd t (.o id) (.row e k es true)):=by
  refine hH1.more x rfl rfl (au _) (fun _ _=>rfl) (fun b o hst=>hst.imp (fun h=>h) fun⟨h1,h2⟩=>?_);refine⟨(hown.lt b h1).2,fun p hp=>?_⟩;have:p = .o id:=hi.h.inj p (.o id) b hp (by rw[nI,h1])
  grind[upd_same]
 refine⟨E',rfl,x,rfl,rfl,hi.step hH x (hi.fr.next rfl rfl rfl (au _) (fun _ _ _ _=>rfl) (fun _=>rfl) (fun i b hb=>.inl hb) (fun _ _ h=>.inl h) (fun b o h=>h.imp (fun h=>h) fun⟨h1,_⟩=>hi.fr.new id b (by rw[nI,h1]))) (fun k=>Ag (by simp) k),fun u hu=>?_,
  fun b o h=>h.imp (fun h=>h) fun⟨h1,_⟩=>by rw[nI,h1]⟩
 have hv:=hcur u hu;subst hv;simp only[Rep];rcases hown.2 with⟨rfl,h0⟩|⟨g,cap,cur,rfl,hb,hg,hnc,hcm,hcs,htake⟩
 ·simp[*]
 ·refine .inr ⟨g,0,cap,k,by rw[hxl],by omega,jK.iI fun i xe hxi=>?_⟩;obtain⟨el,h1,h2⟩:=hxg i xe hxi;obtain⟨h3,h4⟩:=I7 h2;obtain⟨h5,h6⟩:=hrel.get h1;have hil:i<es.length:=by grind
  have hmul:i*k+k≤es.length*k:=by
   have:(i+1)*k≤es.length*k:=dN k hil
   grind
  refine⟨by omega,dU.iI fun j y hy=>?_⟩;obtain⟨tv,h7,h8⟩:=h4 j y hy;have hj:j<k:=by grind
  obtain⟨u,h9,_,h10⟩:=h6.get h7;refine⟨.inr ⟨rfl,by omega⟩,u,?_,(V7 h8 h10).up x⟩;have:=hown.cells (g:=g) rfl _ _ h9
  rwa [ny,bT]at this
end
end Go.Tr
