/-
  What functions of the program compute, stated as contracts over plain data; the conditions of each stand in its own statement.
-/
import Derived.Test.YtboimfkommpglaaGreatDoorZB03
set_option linter.unusedSimpArgs false
namespace Go.Tr
open Go
section
variable {P:Program} {A:jL}
theorem I9{t:S}{a:Act}{E:En}(hi:iI A t a E){id k:Nat}{e:TypeId}{es:List (List TV)}(ht:t (.o id) = .yj e k es):
  E.blk (.o id)=none∧∃v us,E.val id=some (k,es.length,v)∧ML E.w e k v es.length us∧iJ E us k 0 es∧(∀u,aV E (.bK id es.length) u→u=v):=by
 have:=hi.h.item (.o id) (by simp);rw[ht]at this
 obtain⟨h0,id',v,us,hid,h1,h2,h3⟩:=this;simp only[Pl.o.injEq]at hid;subst hid;refine⟨h0,v,us,h1,h2,h3,fun u hu=>?_⟩;simp only[aV]at hu
 grind
theorem ah2{w:World}{e:TypeId}{k n g o:Nat}{cur:Array Value}{us:List Value}(hg:w.heap[g]? = some (.cells cur e (0,0)))(ht:(cur.toList.drop o).take (n*k)=us):
  ∀j u,us[j]? = some u→w.cell? ⟨g,o+j,none⟩ = some u:=fun j u hj=>by
 grind[cell_of_row]
theorem Y4{o:Oper}{t:S}{x:Operand}{ty e:TypeId}{id n k:Nat}{e':TypeId}{es:List (List TV)}(ho:o.op = .call {callee:=.builtin .len,args:=#[x],argTypes:=#[ty]})(he:wI P ty=some e)(hx:ev t x = .bK id n)
  (ht:t (.o id) = .yj e' k es):jD P A o t ⟨n=es.length,pl x++[.o id],[],.d (.int .i64 n)⟩:=
 .pure fun hC t' hr a E hi=>by
  have hx':=dS hi x;rw[fZ (dw hr),hx]at hx'
  have ht':t' (.o id) = .yj e' k es:=by simp[*]
  subst hC;obtain⟨_,v,us,h2,h3,h4,h5⟩:=I9 hi ht';have hv:=h5 _ hx';unfold wI at he;split at he
  ·rename_i e' hu;obtain⟨_,g,of,cap,cur,rfl,_⟩:=h3;refine⟨_,?_,rfl⟩;simp[execOp,ho,resolve,invoke,builtin,hv,Builtin.len_,run_underlying hu,goInt]
  trivial
theorem La{o:Oper}{t:S}{ty:TypeId}{x ix:Operand}{e k id n:Nat}{e':TypeId}{es:List (List TV)}{ik:IntKind}{i:Int}(ho:o.op = .indexAddr ty x ix)(he:wI P ty=some e)(hk:qp P e=some k)
  (hx:ev t x = .bK id n) (hix:ev t ix = .d (.int ik i)) (ht:t (.o id) = .yj e' k es) :
  jD P A o t ⟨n=es.length∧0≤i∧i<es.length,pl x++(pl ix++[.o id]),[],.tV id n i.toNat 0⟩:=
 .pure fun⟨hn,h0,h1⟩ t' hr a E hi=>by
  have hx':=dS hi x;rw[fZ (dw hr),hx]at hx'
  have hix':=dS hi ix;rw[fZ (dw (bg hr)),hix]at hix'
  simp only[aV,Rep]at hix';subst hn;have ht':t' (.o id) = .yj e' k es:=by simp[*]
  obtain⟨_,v,us,h2,h3,h4,h5⟩:=I9 hi ht';have hu:=h5 _ hx';obtain⟨_,g,of,cap,cur,rfl,_⟩:=h3;refine⟨.pointer (some ⟨g,of+i.toNat*k,none⟩),?_,?_⟩
  ·simp[execOp,ho,hu,hix',CS he hk _ _ _ _ _ h0 h1,qK]
  ·exact⟨rfl,k,_,_,h2,aI _,fun _=>⟨g,of,cap,rfl,by simp⟩⟩
theorem Le{o:Oper}{t:S}{ty:TypeId}{x:Operand}{id n i q k:Nat}{e:TypeId}{es:List (List TV)}{v:TV}(ho:o.op = .load ty x)(hx:ev t x = .tV id n i q)(ht:t (.o id) = .yj e k es)
  (h:(xW P ty=some false∧(es.getD i [])[q]? = some v)∨(∃z,xW P ty=some true∧qp P ty=some z∧q+z≤(es.getD i []).length∧v = .agg (((es.getD i []).drop q).take z))) :
  jD P A o t ⟨n=es.length∧i<es.length,pl x++[.o id],[],v⟩:=
 .pure fun⟨hn,hil⟩ t' hr a E hi=>by
  have hx':=dS hi x;rw[fZ (dw hr),hx]at hx'
  have ht':t' (.o id) = .yj e k es:=(bg hr _ (by simp)).trans ht;subst hn;obtain⟨_,v0,us,h1,h2,h3,_⟩:=I9 hi ht';simp only[aV]at hx';obtain⟨_,k',c,v',hv,_,he⟩:=hx';rw[h1]at hv
  simp only[aj,aK]at hv;obtain⟨rfl,rfl,rfl⟩:=hv;obtain⟨b,of,cp,rfl,hu⟩:=he rfl;obtain⟨hl0,g,of',cap,cur,hval,hg,hnc,hcm,hcs,htk⟩:=h2;simp only[Value.slice.injEq,aj,Addr.mk.injEq]at hval;obtain⟨⟨rfl,rfl,_⟩,_,rfl⟩:=hval;have hgt:es[i]? = some (es.getD i []):=by simp[*]
  obtain⟨h4,h5⟩:=h3.get hgt;simp only[dR]at h5;have hcell:=ah2 (n:=es.length) (k:=k) hg htk;rcases h with⟨h6,h7⟩|⟨z,h6,h7,h8,rfl⟩
  ·obtain⟨u,h8,h9,h10⟩:=h5.get h7;refine⟨u,?_,h10⟩;have hc1:=hcell _ _ h8;rw[←aX]at hc1
   simp[execOp,ho,hu,Instr.loadAt,Instr.sureAddr,zq h6 hc1]
  ·have hc':=(h5.sub q z).vals;have hl:(((es.getD i []).drop q).take z).length=z:=by simp at h8⊢;omega
   rw[hl]at hc'
   refine⟨.agg ((us.drop (i*k+q)).take z).toArray,?_,?_⟩
   ·have hra:E.w.rangeAt b (of+i*k+q) ((us.drop (i*k+q)).take z):=fun j v hj=>by
     rw[eG]at hj
     split at hj
     ·rw[jv]at hj
      have:=hcell _ _ hj;rw[show of+i*k+q+j=of+(i*k+q+j) by omega];exact this
     ·simp at hj
    simp only[execOp,ho,hu,Instr.loadAt,Instr.sureAddr,Sem.run_bind,Sem.run_pure,Result.andThen_ok,zo h6 h7 hc'.2 hra]
   ·simp only[aV];exact⟨_,rfl,hc'.1⟩
theorem Ve{o:Oper}{t:S}{ty e k id n:Nat}{e':TypeId}{x lo:Operand}{es:List (List TV)}{ik:IntKind}{l:Int}(ho:o.op = .slice ty x (some lo) none none)(he:wI P ty=some e)(hk:qp P e=some k)
  (hx:ev t x = .bK id n) (hl:ev t lo = .d (.int ik l)) (ht:t (.o id) = .yj e' k es) :
  jD P A o t ⟨n=es.length∧0≤l∧l≤es.length,pl x++(pl lo++[.o id]),[],.Qg id n l.toNat⟩:=
 .pure fun⟨hn,h0,h1⟩ t' hr a E hi=>by
  have hx':=dS hi x;rw[fZ (dw hr),hx]at hx'
  have hlo:=dS hi lo;rw[fZ (dw (bg hr)),hl]at hlo
  subst hn;have ht':t' (.o id) = .yj e' k es:=by simp[*]
  obtain⟨_,v,us,h2,h3,h4,h5⟩:=I9 hi ht';have hu:=h5 _ hx';obtain⟨hl0,g,of,cap,cur,rfl,hg,hnc,hcm,hcs,htk⟩:=h3;unfold wI at he;split at he
  rotate_left
  ·trivial
  rename_i e' hun;simp only[aj]at he;subst he;unfold qp at hk;cases mG:P.info? e' with
  | none=>simp_all
  | some inf=>
  have hcut:Xx es.length (some (.d (.int ik l))) none=some (0≤l∧l≤es.length,l.toNat,es.length):=by rfl
  obtain⟨hb,_,_⟩:=vS (P:=P) (isS:=true) (cap:=cap) hcut ⟨h0,by omega⟩ hnc (E:=E) (ulo:=some (a.eval lo)) (uhi:=none)
   (fun v hv=>⟨_,rfl,by simp_all⟩) (fun h=>by trivial) (fun v hv=>by trivial) (fun _=>rfl) E.w
  refine⟨.slice (some ⟨g,if cap-l.toNat=0 then of else of+l.toNat*k,none⟩) (es.length-l.toNat) (cap-l.toNat),?_,?_⟩
  ·simp only[execOp,ho,Instr.sliceAt,Sem.run_bind,run_underlying hun,Result.andThen_ok,hu,o8,dF,Instr.slice,hb,sizeOf,typeInfo,run_program,mG,Sem.run_pure,hk]
   grind[qK]
  ·simp only[aV];refine⟨rfl,k,_,_,h2,aI _,fun _=>⟨g,of,cap,_,rfl,by omega,?_,rfl⟩⟩
   grind
end
end Go.Tr

namespace Go.Tr
open Go
section
variable {P:Program} {A:jL}
theorem ML.lt{w:World}{e:TypeId}{k n:Nat}{v:Value}{xs:List Value}(h:ML w e k v n xs):∀b,v.ownBlock=some b→b<w.heap.size:=by
 obtain⟨_,g,o,cap,cur,rfl,hg,_⟩:=h
 grind[Value.ownBlock]
theorem OZ{t:S}{a:Act}{E:En}(hi:iI A t a E){id k:Nat}{e:TypeId}{es:List (List TV)}(ht:t (.o id) = .yj e k es){b o:Nat}(h:E.St b o):E.own (.o id)≠some b:=fun h2=>by
 obtain⟨e2,k2,es2,h1,_⟩:=hi.h.sep b o h _ h2
 simp_all
theorem iI.ajE{t:S}{a:Act}{E:En}(hi:iI A t a E){id k:Nat}{e:TypeId}{es es':List (List TV)}(ht:t (.o id) = .yj e k es)
  {v v':Value} {us':List Value} {w':World} (hval:E.val id=some (k,es.length,v)) (hg:E.w.grownBy w' v.ownBlock) (hown:ML w' e k v' es'.length us')
  (hle:es.length≤es'.length) (heq:es.length=es'.length→v'=v) (hob:v'.ownBlock=v.ownBlock∨v'.ownBlock=some E.w.heap.size)
  (hrel:∀E':En,E'.w=w'→uG E E'→iJ E' us' k 0 es') :
  ∃E':En,E'.w=w'∧uG E E'∧iI A (upd t (.o id) (.yj e k es')) a E'∧E'.val id=some (k,es'.length,v'):=by
 have hit:=hi.h.item (.o id) (by simp);rw[ht]at hit
 obtain⟨hb0,_⟩:=hit;have oK:E.own (.o id)=v.ownBlock:=by grind[En.own]
 have hst:∀b o,E.St b o→U0 w' b o=U0 E.w b o:=fun b o hs=>jV (hg.block b (hi.h.uP _ _ hs) (fun e'=>OZ hi ht hs (oK.trans e'.symm)))
 let E':En:={E with w:=w',val:=fun i=>if i=id then some (k,es'.length,v')else E.val i}
 have hv':E'.val id=some (k,es'.length,v'):=by grind
 have JO:E'.own (.o id)=v'.ownBlock:=by grind[En.own]
 have x:uG E E':=by
  refine⟨fun _ _ h=>h,hst,fun _ _ _ h=>h,fun _ _ h=>h,fun _ _ h=>h,fun i k' c u _ hu=>?_⟩
  grind
 have ag7:∀q b,q≠.o id→E.own q=some b→w'.heap[b]? = E.w.heap[b]? :=fun q b hq hb=>by refine hg.block b (hi.h.size q b hb) (fun e=>hq (hi.h.inj _ _ b hb ?_));simp[*]
 have hH:pX E' (upd t (.o id) (.yj e k es')):=by
  refine hi.h.change (by simp) x (fun b o h=>.inl h) (fun q hq=>rfl) (fun i hne=>?_) hg.size ag7 (fun b hb=>?_) ⟨hb0,id,v',us',rfl,hv',hown,hrel E' rfl x⟩ (fun b o hs hb=>?_)
  ·grind
  ·rw[JO]at hb
   rw[oK];exact⟨hown.lt b hb,hob.elim (fun e=>.inl (e▸hb)) (fun e=>.inr (by simp_all))⟩
  ·rw[JO]at hb
   rcases hob with e'|e'
   ·grind[OZ]
   ·rw[e']at hb;simp at hb
    have:=hi.h.uP _ _ hs;omega
 refine⟨E',rfl,x,hi.step hH x (hi.fr.next hg.os hg.tape hg.output hg.size (fun b h1 h2 h3=>hg.block b (fC h1 hi.fr.size) (fun e=>?_)) (fun _=>rfl) (fun i b hb=>?_) (fun _ _ h=>h) (fun _ _ h=>.inl h)) (fun k=>E8 (by simp) k),hv'⟩
 ·exact(hi.fr.new id b (by rw[oK,←e])).elim (fun h=>by omega) (fun⟨j,h⟩=>h3 j h)
 ·by_cases e:i=id
  ·grind
  ·have:E'.own (.o i)=E.own (.o i):=En.qB rfl (fun j hj=>by grind)
   simp_all
theorem Yu{w:World}{t e:Nat}{ty:TypeId}{inf:TypeInfo}{z:Value}{size bytes:Nat}(ht:P.underlying t=some (.slice e))(hi:P.info? e=some inf)(hz:inf.zero=some z)
  (hsize:inf.size=size) (hby:inf.bytes=bytes) (hzs:z.cells.size=size) {v:Value} {n:Nat} {xs:List Value} (hown:ML w e size v n xs)
  {a:Addr} {m c:Nat} {news:List Value} (hl:news.length=m*size) (hnews:∀j u,news[j]? = some u→w.cell? (a.add j)=some u) (h1:∀u∈news,u.oneCell'=true)
  (h63:n+m≤maxLen) (hbytes:(n+m)*bytes≤140737488355328) :
  ∃v' w',(Builtin.append_ #[t,t] ty #[v,.slice (some a) m c]).run P w = .ok v' w'∧ML w' e size v' (n+m) (xs++news)∧v'.oneCell'=true∧
   ((v'.ownBlock=v.ownBlock∧w.grownBy w' v.ownBlock)∨(v'.ownBlock=some w.heap.size∧w.grownBy w' none)):=by
 subst hsize;subst hby;have hsmall:n+m≤9223372036854775807:=by trivial
 have hlen:(xs++news).length=(n+m)*inf.size:=by rw[aS,hown.1,hl,dX]
 obtain⟨hx0,g,o,cap,cur,rfl,hg,hnc,hcm,hcs,htake⟩:=hown;by_cases hroom:n+m≤cap
 ·have hm:(n+m)*inf.size≤cap*inf.size:=f_ _ hroom;rw[dX]at hm
  have hfit:(o+n*inf.size)+0+news.length≤cur.size:=by omega
  have hf:=run_firstCells_some (P:=P) w inf.size m a m c news hl hnews;have hst:=run_storeCells_at P g (o+n*inf.size) e news 0 cur w hg hfit h1;simp only[lW]at hst
  refine⟨.slice (some ⟨g,o,none⟩) (n+m) cap,w.setRow g (cur.toList.take (o+n*inf.size)++news++cur.toList.drop (o+n*inf.size+news.length)).toArray,?_,⟨hlen,g,o,cap,_,rfl,setRow_heap w g cur _ e _ hg,hroom,hcm,?_,?_⟩,rfl,.inl ⟨rfl,⟨rfl,rfl,rfl,by simp,fun k _ hk=>setRow_other w g k _ (fun e=>hk (by grind[Value.ownBlock]))⟩⟩⟩
  ·simp[Builtin.append_,run_underlying ht,sizeOf,typeInfo,hi,Builtin.lenOf,hroom,hf,qK,hst]
  ·grind
  grind
 ·have holds:∀j u,xs[j]? = some u→w.cell? ((⟨g,o,none⟩:Addr).add j)=some u:=by grind[qK,ah2]
  have hr:=run_append_grow (P:=P) w t ty e inf z ht hi hz ⟨g,o,none⟩ n cap xs hx0 holds a m c news hl hnews (by omega) (by omega) (growslice_fits (by omega) hbytes);have hge:=grownCap_ge w (n+m) cap e;have hcm':grownCap w (n+m) cap e≤maxLen:=grownCap_le_maxLen w (n+m) cap e h63
  refine⟨_,_,hr,⟨hlen,w.heap.size,0,_,_,rfl,heap_alloc_new w.drew _,hge,hcm',?_,?_⟩,rfl,.inr ⟨rfl,⟨rfl,rfl,rfl,by simp,fun k hk _=>(by first|exact heap_alloc_old w.drew _ k hk|exact heap_alloc_old w.drew _ hk)⟩⟩⟩
  ·simp only[Array.size_append,qQ,size_zeroCells,hzs,hx0,hl,←dX,dR];simp[*]
  grind
theorem Vr{w:World}{t e:Nat}{ty:TypeId}{inf:TypeInfo}(ht:P.underlying t=some (.slice e))(hi:P.info? e=some inf){v:Value}{n size:Nat}{xs:List Value}
  (hown:ML w e size v n xs) (ad:Option Addr) (c:Nat):(Builtin.append_ #[t,t] ty #[v,.slice ad 0 c]).run P w = .ok v w:=by
 obtain⟨_,g,o,cap,cur,rfl,_,hnc,_⟩:=hown;cases ad<;>simp[Builtin.append_,run_underlying ht,sizeOf,typeInfo,hi,Builtin.lenOf,Builtin.firstCells,hnc,storeCells,loadCells,loadCellsFrom]
theorem iI.aiG{t:S}{a:Act}{E:En}(hi:iI A t a E){id e k b:Nat}{es:List (List TV)}(ht:t (.o id) = .yj e k es){sty ty:TypeId}(he:wI P sty=some e)(hk:qp P e=some k)(hb:Ky P e=some b)
  {z:Value} (hz:wS P e=some z) (hzs:(o9 z).length=k) (_hk0:0<k) {u:Value} (hu:aV E (.bK id es.length) u)
  {ys:List (List TV)} {ad:Option Addr} {c:Nat} {news:List Value} (hnl:news.length=ys.length*k) (hrow:iJ E news k 0 ys) (hone:∀v∈news,v.oneCell'=true)
  (hsrc:ys.length=0∨∃a0,ad=some a0∧∀j v,news[j]? = some v→E.w.cell? (a0.add j)=some v)
  (hroom:(es.length+ys.length)*b≤140737488355328) (G8:es.length+ys.length≤9223372036854775807) :
  ∃(v':Value) (E':En),(Builtin.append_ #[sty,sty] ty #[u,.slice ad ys.length c]).run P E.w = .ok v' E'.w∧iI A (upd t (.o id) (.yj e k (es++ys))) a E'∧aV E' (.bK id (es.length+ys.length)) v':=by
 obtain⟨hblk,v,us,hval,hown,hrel,hcur⟩:=I9 hi ht;have hv:=hcur _ hu;subst hv;unfold wI at he;split at he
 rotate_left
 ·trivial
 rename_i e' hun;simp only[aj]at he;subst he;unfold qp at hk;unfold Ky at hb;unfold wS at hz;cases mG:P.info? e' with
 | none=>simp_all
 | some inf=>
 simp only[mG,dF,aj,dH]at hk hb hz;have hzc:z.cells.size=k:=by grind[vH]
 have hone':∀(E':En) (v':Value),E'.val id=some (k,(es++ys).length,v')→v'.oneCell'=true→aV E' (.bK id (es.length+ys.length)) v':=fun E' v' h1 h2=>by
  simp only[aV]
  grind
 rcases Nat.eq_zero_or_pos ys.length with h0|hpos
 ·have hys:ys = []:=eF h0;subst hys;refine⟨u,E,by grind[Vr],?_,by omega⟩;have:upd t (.o id) (.yj e' k (es++[]))=t:=by grind[upd]
  simp_all
 ·rcases hsrc with h0|⟨a0,rfl,hcells⟩
  ·omega
  obtain⟨v',w',hrun,hown',hv1,hob⟩:=Yu (P:=P) (ty:=ty) (c:=c) hun mG hz hk hb hzc hown hnl hcells hone
   (by trivial) hroom
  have Oz:E.w.grownBy w' u.ownBlock:=hob.elim (fun h=>h.2) (fun h=>⟨h.2.os,h.2.tape,h.2.output,h.2.size,fun i hi _=>h.2.block i hi (by simp)⟩);obtain⟨E',hw',x,hinv,hval'⟩:=hi.ajE ht (es':=es++ys) hval Oz (by simp[*]) (by simp) (fun h=>by grind) (hob.imp (fun h=>h.1) (fun h=>h.1))
   (fun E' _ x=>iJ.app (by simpa using hown.1) (hrel.up x) (hrow.up x))
  grind
theorem RP{o:Oper}{t:S}{x y:Operand}{sty:TypeId}{id n e k b:Nat}{es ys:List (List TV)}{rp:List Pl}{z:Value}
  (ho:o.op = .call {callee:=.builtin .append,args:=#[x,y],argTypes:=#[sty,sty]}) (hx:ev t x = .bK id n) (ht:t (.o id) = .yj e k es) (hs:Src t (ev t y) rp ys)
  (he:wI P sty=some e) (hk:qp P e=some k) (hb:Ky P e=some b) (hz:wS P e=some z) (hzs:(o9 z).length=k) (hk0:0<k) :
  jD P A o t ⟨n=es.length∧KI k b n ys,pl x++(pl y++(.o id::rp)),[(.o id,.yj e k (es++ys))],.bK id (n+ys.length)⟩:=fun⟨hn,hlen,hroom,G8⟩ t' hr a E hi=>by
 have hx':=dS hi x;rw[fZ (dw hr),hx]at hx'
 have hy':=dS hi y;rw[fZ (dw (bg hr))]at hy'
 have hr3:=bg (bg hr);have ht':t' (.o id) = .yj e k es:=(hr3 _ (by simp)).trans ht;subst hn;obtain⟨ad,c,news,hu,hnl,hrow,hone,hsrc⟩:=hs.rel hlen (fun p hp=>hr3 p (by simp[*])) hi hy';obtain⟨v',E',hrun,hinv,hrel⟩:=hi.aiG ht' he hk hb hz hzs hk0 hx' (ty:=o.type) (c:=c) hnl hrow hone hsrc hroom G8;exact⟨_,v',E',CQ ho (by simp[*]),.inl rfl,hinv,hrel⟩
end
end Go.Tr

namespace Go.Tr
open Go
theorem LQ{a b:List Int}(h:jX a=jX b):a=b:=by
 have map_inj:∀{x y:List Int},x.map (Value.int .i64)=y.map (Value.int .i64)→x=y:=fun {x y} h=>by
  induction x generalizing y with
  | nil=>simp_all
  | cons n x ih=>cases y with
    | nil=>trivial
    | cons m y=>grind
 unfold jX at h
 grind
def mJ:List (List Int×TV)→List Int→Option TV
 | [],_=>none
 | (k',v)::es,k=>if k=k' then some v else mJ es k
def vO:List (List Int×TV)→List Int→TV→List (List Int×TV)
 | [],k,v=>[(k,v)]
 | (k',v')::es,k,v=>if k=k' then(k,v)::es else(k',v')::vO es k v
def abP(es:List (List Int×TV))(k:List Int):List (List Int×TV):=es.filter fun x=>decide (x.1≠k)
theorem Ey{E:En}{k:List Int}:∀{es:List (List Int×TV)} {l:List MapEntry},nH E es l→
  (mJ es k=none∧∀a∈l,a.key≠jX k)∨∃v a,mJ es k=some v∧a∈l∧a.key=jX k∧aV E v a.val
 | [],l,h=>by subst h;exact .inl ⟨rfl,by simp⟩
 | (k',v)::es,l,h=>by
   obtain⟨a,l',rfl,h1,h2,h3⟩:=h;by_cases e:k=k'
   ·simp_all[mJ]
   ·rcases Ey (k:=k) h3 with⟨g1,g2⟩|⟨v2,b,g1,g2,g3,g4⟩
    ·refine .inl ⟨by simp_all[mJ],fun b hb=>?_⟩;rcases aG.1 hb with rfl|hb
     ·grind[LQ]
     simp[*]
    grind[mJ,List.mem_cons_of_mem]
open Classical in
noncomputable def Iw(kv:Value)(f:MapEntry→MapEntry)(l:List MapEntry):List MapEntry:=l.map fun e=>if e.key=kv then f e else e
theorem afF{kv:Value}{f:MapEntry→MapEntry}{l:List MapEntry}(h:∀a∈l,a.key≠kv):Iw kv f l=l:=by simp_all[Iw,bW,id]
theorem Xb{kv:Value}{f:MapEntry→MapEntry}{a:MapEntry}{l:List MapEntry}(h :¬a.key=kv):Iw kv f (a::l)=a::Iw kv f l:=by simp_all[Iw]
theorem adL{kv:Value}{f:MapEntry→MapEntry}{a:MapEntry}{l:List MapEntry}(h:a.key=kv)(hn:∀b∈l,b.key≠kv):Iw kv f (a::l)=f a::l:=by
 have:Iw kv f (a::l)=f a::Iw kv f l:=by simp_all[Iw]
 simp_all[afF]
theorem JY{a:MapEntry}{l:List MapEntry}(h:((a::l).map (·.key)).Nodup):(∀b∈l,b.key≠a.key)∧(l.map (·.key)).Nodup:=by simp_all
theorem ZL{E:En}{k:List Int}{v:TV}{u:Value}(hr:aV E v u){f:MapEntry→MapEntry}(hf:∀a,(f a).key=jX k∧(f a).val=u):∀{es:List (List Int×TV)} {l:List MapEntry},nH E es l→(l.map (·.key)).Nodup→
  (∃a∈l,a.key=jX k)→nH E (vO es k v) (Iw (jX k) f l)
 | [],l,h,_,⟨a,ha,_⟩=>by simp_all[nH]
 | (k',v')::es,l,h,hn,hex=>by
   obtain⟨a,l',rfl,h1,h2,h3⟩:=h;obtain⟨n1,n2⟩:=JY hn;by_cases e:k=k'
   ·subst e;rw[adL h1 fun b hb=>by simp_all];simp only[vO,if_true];exact⟨f a,l',rfl,(hf a).1,by simp[*],h3⟩
   ·have hne :¬a.key=jX k:=by grind[LQ]
    rw[Xb hne];simp only[vO,if_neg e];obtain⟨b,hb,hbk⟩:=hex;refine⟨a,_,rfl,h1,h2,ZL hr hf h3 n2 ⟨b,?_,hbk⟩⟩
    grind
theorem ZK{E:En}{k:List Int}{v:TV}{a:MapEntry}(ha:a.key=jX k)(hr:aV E v a.val):∀{es:List (List Int×TV)} {l:List MapEntry},nH E es l→(∀b∈l,b.key≠jX k)→nH E (vO es k v) (l++[a])
 | [],l,h,_=>by subst h;exact⟨a,[],rfl,ha,hr,rfl⟩
 | (k',v')::es,l,h,hn=>by
   obtain⟨b,l',rfl,h1,h2,h3⟩:=h;have e :¬k=k':=fun e=>hn b (by simp) (by rw[h1,e])
   simp only[vO,if_neg e,fF];exact⟨b,_,rfl,h1,h2,ZK ha hr h3 fun c hc=>hn c (dM _ hc)⟩
open Classical in
theorem ZI{E:En}{k:List Int}:∀{es:List (List Int×TV)} {l:List MapEntry},nH E es l→nH E (abP es k) (l.filter fun a=>decide (a.key≠jX k))
 | [],l,h=>by subst h;rfl
 | (k',v')::es,l,h=>by
   obtain⟨b,l',rfl,h1,h2,h3⟩:=h;have ih:=ZI (k:=k) h3;by_cases e:k=k'
   ·simp_all[abP,dD,if_neg]
   ·have hne :¬b.key=jX k:=by grind[LQ]
    simp only[abP,dD]at ih⊢;rw[if_pos (by grind),if_pos (by simp_all)];exact⟨b,_,rfl,h1,h2,ih⟩
theorem ZJ{E:En}:∀{es:List (List Int×TV)} {l:List MapEntry},nH E es l→l.length=es.length
 | [],l,h=>by simp_all[nH]
 | _::es,l,h=>by obtain⟨a,l',rfl,_,_,h3⟩:=h;simp[ZJ h3]
theorem EC{E:En}:∀{es:List (List Int×TV)} {l:List MapEntry},nH E es l→l.map (·.key)=es.map fun x=>jX x.1
 | [],l,h=>by simp_all[nH]
 | _::es,l,h=>by obtain⟨a,l',rfl,h1,_,h3⟩:=h;simp[h1,EC h3]
theorem Tn{E:En}:∀{es:List (List Int×TV)} {l:List MapEntry},nH E es l→∀a∈l,∃k v,(k,v)∈es∧a.key=jX k∧aV E v a.val
 | [],l,h,a,ha=>by simp_all[nH]
 | (k,v)::es,l,h,a,ha=>by
   obtain⟨b,l',rfl,h1,h2,h3⟩:=h;rcases aG.1 ha with rfl|ha
   ·grind
   ·obtain⟨k',v',g1,g2,g3⟩:=Tn h3 a ha
    grind
theorem ZG:∀{es:List (List Int×TV)} {k:List Int} {v:TV},(es.map (·.1)).Nodup→(k,v)∈es→mJ es k=some v
 | (k',v')::es,k,v,hn,h=>by
   rw[aH,dG]at hn
   rcases aG.1 h with e|h
   ·obtain⟨rfl,rfl⟩:=e;simp[mJ]
   ·have :¬k=k':=fun e=>hn.1 (by simp_all)
    simp only[mJ,if_neg this];exact ZG hn.2 h
section
variable {P:Program}
def Vo(P:Program)(kt:TypeId)(n:Nat):Bool:=
 match P.underlying kt with
 | some (.int _)=>n==1
 | some (.struct fs) => n != 1 && (fs.toList.length == n && (!P.stoodInHeld kt && (fs.toList.zipIdx.all fun f => f.1.name != "_" && (f.1.offset == f.2 && (lf P f.1.type == some 0 && xW P f.1.type == some false)))))
 | _=>false
theorem anu{kt:TypeId}{n:Nat}{q:IntKind}(hk:P.underlying kt=some (.int q))(h:Vo P kt n=true):n=1:=by simp_all[Vo,beq_iff_eq]
theorem JU{kt:TypeId}{n:Nat}(h:Vo P kt n=true):(n=1∧∃q,P.underlying kt=some (.int q))∨(n≠1∧∃fs,P.underlying kt=some (.struct fs)∧fs.toList.length=n∧P.stoodInHeld kt=false∧
  ∀ (i : Nat) (f : Field), fs.toList[i]? = some f → f.name ≠ "_" ∧ f.offset = i ∧ lf P f.type = some 0 ∧ xW P f.type = some false) := by
 unfold Vo at h;split at h
 ·simp_all
 ·rename_i fs hfs;simp only[aP,bne_iff_ne,ne_eq,beq_iff_eq,nZ,dN]at h;obtain⟨h1,h2,h3,h4⟩:=h;refine .inr ⟨h1,fs,hfs,h2,h3,fun i f hf=>?_⟩;have hm:(f,i)∈fs.toList.zipIdx:=by
   rw[List.mem_zipIdx_iff_getElem?];simpa using hf
  obtain⟨g1,g2,g3,g4⟩:=h4 _ hm;exact⟨g1,g2,g3,g4⟩
 trivial
theorem G_{ks:List Int}(h:ks.length=1):∃k,ks = [k]∧jX ks = .int .i64 k:=by
 match ks,h with
 | [k],_=>exact⟨k,rfl,rfl⟩
theorem Et{ks:List Int}(h:ks.length≠1):jX ks = .agg (ks.map (Value.int .i64)).toArray:=by
 match ks,h with
 | [],_=>rfl
 | [_],h=>trivial
 | _::_::_,_=>rfl
theorem F6{ty:TypeId}(hs:xW P ty=some false){ks:List Int}{i:Nat}(hi:i<ks.length)(w:World):(part ty (ks.map (Value.int .i64)).toArray i).run P w = .ok (.int .i64 ks[i]) w:=
 Nc hs (by simp) w
theorem yg{kt:TypeId}{ks:List Int}(h:Vo P kt ks.length=true)(em:Bool)(w:World):(Instr.checkKey em 10000 kt (jX ks)).run P w = .ok () w:=by
 rcases JU h with⟨h1,q,hq⟩|⟨h1,fs,hfs,h2,_,h3⟩
 ·obtain⟨k,rfl,hv⟩:=G_ h1;rw[hv];unfold Instr.checkKey;simp[Sem.run_bind,run_underlying hq]
 ·rw[Et h1];rw[show(10000:Nat)=9999+1 from rfl,Instr.checkKey];simp only[Sem.run_bind,run_underlying hfs,Result.andThen_ok];rw[←Array.forIn_toList];have each : ∀ f ∈ fs.toList, f.name ≠ "_" ∧ (part f.type (ks.map (Value.int .i64)).toArray f.offset).run P w = .ok (.int .i64 (ks.getD f.offset 0)) w ∧ ∀ n, (Instr.checkKey em 9999 f.type (.int .i64 n)).run P w = .ok () w := fun f hf => by
   obtain⟨i,hi,he⟩:=jC hf;obtain⟨g1,g2,g3,g4⟩:=h3 i f (by rw[ah hi,he]);refine⟨g1,?_,fun n=>?_⟩
   ·have hil:i<ks.length:=by omega
    rw[g2,F6 g4 hil,ak,ah hil];rfl
   ·obtain⟨q,hq⟩:=L6.1 g3;rw[show(9999:Nat)=9998+1 from rfl,Instr.checkKey];simp[Sem.run_bind,run_underlying hq]
  generalize fs.toList=L at each;clear h2 h3 hfs
  induction L with
  | nil=>simp
  | cons f L ih=>obtain⟨hn,hp,hc⟩:=each f (by simp);simp only[List.forIn_cons,Sem.run_bind,hn,ne_eq,not_false_eq_true,if_true,Result.andThen_ok,hp,hc,Sem.run_pure];exact ih (fun y hy=>each y (by simp[hy]))
theorem acr{kt:TypeId}{n:Nat}(h:Vo P kt n=true){a b:List Int}(ha:a.length=n)(hb:b.length=n)(w:World):(Op.equal kt (jX a) (jX b)).run P w = .ok (decide (a=b)) w:=by
 rcases JU h with⟨rfl,q,hq⟩|⟨h1,fs,hfs,h2,hst,h3⟩
 ·obtain⟨k,rfl,hv⟩:=G_ ha;obtain⟨k',rfl,hv'⟩:=G_ hb;rw[hv,hv'];have:=run_equalIn_int (P:=P) w 9999 kt .i64 q k k' hq;rw[show(Op.equal kt (Value.int .i64 k) (.int .i64 k'))=Op.equalIn (9999+1) kt (.int .i64 k) (.int .i64 k') from rfl,this]
  congr 1
  grind
 ·rw[Et (by omega),Et (by omega)];rw[show(Op.equal kt (.agg (a.map (Value.int .i64)).toArray) (.agg (b.map (Value.int .i64)).toArray))=Op.equalIn (9999+1) kt (.agg (a.map (Value.int .i64)).toArray) (.agg (b.map (Value.int .i64)).toArray) from rfl];have hfo:P.fieldsOf kt=fs:=by simp_all[Program.fieldsOf]
  rw[run_equalIn_agg w 9999 kt _ _ (by simp[*]) hst,hfo];have key:∀(L:List Field) (i:Nat),(∀j f,L[j]? = some f→fs.toList[i+j]? = some f)→i+L.length=n→
    (Op.eqFields 9999 (a.map (Value.int .i64)).toArray (b.map (Value.int .i64)).toArray L).run P w = .ok (decide (a.drop i=b.drop i)) w:=fun L=>by
   induction L with
   | nil=>simp_all[eY,lW,dJ,Op.eqFields]
   | cons f L ih=>
     intro i hL hi;simp only[aT]at hi;obtain⟨g1,g2,g3,g4⟩:=h3 i f (by simpa using hL 0 f rfl);have hia:i<a.length:=by omega
     have hib:i<b.length:=by omega
     obtain⟨q,hq⟩:=L6.1 g3;have p1:=F6 g4 hia w;have p2:=F6 g4 hib w;have p3:=run_equalIn_int (P:=P) w 9998 f.type .i64 q a[i] b[i] hq;have p4:=ih (i+1) (fun j f hj=>by have:=hL (j+1) f (by simpa using hj);rwa [show i+(j+1)=i+1+j by omega]at this) (by omega);have e1:(decide (a.drop i=b.drop i))=(decide (a[i]=b[i])&&decide (a.drop (i+1)=b.drop (i+1))):=by rw[←Bool.decide_and];refine decide_eq_decide.2 ?_;rw[aU hia,aU hib,eH]
     rw[e1];generalize a[i]=x at p1 p3;generalize b[i]=y at p2 p3;rw[show(9998+1:Nat)=9999 from rfl]at p3
     by_cases e:x=y
     ·subst e;simp only[beq_self_eq_true]at p3;simp[Op.eqFields,g1,g2,p1,p2,p3,p4]
     ·have e2:(x==y)=false:=by simpa using e
      rw[e2]at p3
      simp[Op.eqFields,g1,g2,p1,p2,p3,e]
  have:=key fs.toList 0 (fun j f hj=>by simpa using hj) (by omega)
  trivial
theorem Xa{kt:TypeId}{n:Nat}(h:Vo P kt n=true){k:List Int}(hk:k.length=n)(w:World):∀(l:List MapEntry),(∀a∈l,∃k':List Int,k'.length=n∧a.key=jX k')→
  ((Instr.findKey kt (jX k) l).run P w = .ok none w∧∀a∈l,a.key≠jX k)∨∃j a,(Instr.findKey kt (jX k) l).run P w = .ok (some (j,a.val)) w∧l[j]? = some a∧a.key=jX k:=by
 have ask:∀(l:List MapEntry) (i:Nat),(∀a∈l,∃k':List Int,k'.length=n∧a.key=jX k')→
   ((Instr.findAsking kt (jX k) l i).run P w = .ok none w∧∀a∈l,a.key≠jX k)∨∃j a,(Instr.findAsking kt (jX k) l i).run P w = .ok (some (i+j,a.val)) w∧l[j]? = some a∧a.key=jX k:=fun l=>by
  induction l with
  | nil=>simp[Instr.findAsking]
  | cons a l ih=>
    intro i hl;obtain⟨k',h1,h2⟩:=hl a (by simp);have he:=acr h hk h1 w;rw[←h2]at he
    by_cases e:k=k'
    ·subst e;refine .inr ⟨0,a,?_,rfl,h2⟩
     simp_all[Instr.findAsking,Sem.run_bind]
    ·have hne:a.key≠jX k:=by grind[LQ]
     rcases ih (i+1) (fun b hb=>hl b (by simp[*]))with⟨g1,g2⟩|⟨j,b,g1,g2,g3⟩
     ·refine .inl ⟨?_,fun b hb=>?_⟩
      ·simp_all[Instr.findAsking,Sem.run_bind]
      grind
     ·refine .inr ⟨j+1,b,?_,by simpa using g2,g3⟩;unfold Instr.findAsking;simp only[Sem.run_bind,he,e,decide_false,Result.andThen_ok,bI,if_false,g1]
      congr 3
      omega
 intro l hl;unfold Instr.findKey;rcases JU h with⟨h1,q,hq⟩|⟨h1,fs,hfs,_⟩
 ·subst h1;obtain⟨x,rfl,hv⟩:=G_ hk;rw[hv];have now:∀(l:List MapEntry) (i:Nat),(∀a∈l,∃k':List Int,k'.length=1∧a.key=jX k')→
    (Instr.findNow (.int q) (.int .i64 x) l i=some none∧∀a∈l,a.key≠.int .i64 x)∨∃j a,Instr.findNow (.int q) (.int .i64 x) l i=some (some (i+j,a.val))∧l[j]? = some a∧a.key = .int .i64 x:=fun l=>by
   induction l with
   | nil=>intro i _;exact .inl ⟨rfl,by simp⟩
   | cons a l ih=>
     intro i hl;obtain⟨k',h1,h2⟩:=hl a (by simp);obtain⟨y,rfl,hv'⟩:=G_ h1;rw[hv']at h2
     by_cases e:x=y
     ·subst e;exact .inr ⟨0,a,by simp[Instr.findNow,Instr.sameNow,h2],rfl,h2⟩
     ·have hne:(x==y)=false:=by simpa using e
      have hk2:a.key≠.int .i64 x:=by rw[h2];simpa using fun h:y=x=>e h.symm
      rcases ih (i+1) (fun b hb=>hl b (by simp[hb]))with⟨g1,g2⟩|⟨j,b,g1,g2,g3⟩
      ·refine .inl ⟨by simp[Instr.findNow,Instr.sameNow,h2,hne,g1],fun b hb=>?_⟩;rcases aG.1 hb with rfl|hb
       ·exact hk2
       ·exact g2 b hb
      ·refine .inr ⟨j+1,b,?_,by simpa using g2,g3⟩;simp only[Instr.findNow,Instr.sameNow,h2,if_true,hne,g1]
       congr 3
       omega
  rcases now l 0 hl with⟨g1,g2⟩|⟨j,a,g1,g2,g3⟩
  ·exact .inl ⟨by simp[Sem.run_bind,run_underlying hq,g1],g2⟩
  ·exact .inr ⟨j,a,by simp[Sem.run_bind,run_underlying hq,g1],g2,g3⟩
 ·have hag:jX k = .agg (k.map (Value.int .i64)).toArray:=Et (by omega);rcases l with _|⟨a,l⟩
  ·exact .inl ⟨by simp[Sem.run_bind,run_underlying hfs,Instr.findNow],by simp⟩
  ·have hno:Instr.findNow (.struct fs) (jX k) (a::l) 0=none:=by
    simp[Instr.findNow,Instr.sameNow,hag]
   rcases ask (a::l) 0 hl with⟨g1,g2⟩|⟨j,b,g1,g2,g3⟩
   ·refine .inl ⟨?_,g2⟩;simp only[Sem.run_bind,run_underlying hfs,Result.andThen_ok,hno];exact g1
   ·refine .inr ⟨j,b,?_,g2,g3⟩;simp only[Sem.run_bind,run_underlying hfs,Result.andThen_ok,hno];simpa using g1
end
end Go.Tr

namespace Go.Tr
open Go
def Pz:List Int→TV
 | [k]=>.d (.int .i64 k)
 | ks=>.agg (ks.map fun n=>.d (.int .i64 n))
def afN:List TV→Option (List Int)
 | []=>some []
 | .d (.int k n)::l=>match afN l with
   | some ks=>if k = .i64 then some (n::ks)else none
   | none=>none
 | _::_=>none
def toKey:TV→Option (List Int)
 | .d (.int k n)=>if k = .i64 then some [n]else none
 | .agg vs=>match afN vs with
   | some ks=>if ks.length=1 then none else some ks
   | none=>none
 | _=>none
def ZR(P:Program)(ty:TypeId)(n:Nat):Option TypeId:=
 match P.underlying ty with
 | some (.map k e)=>if Vo P k n=true then some e else none
 | _=>none
theorem Hu{P:Program}{ty e:TypeId}{n:Nat}(h:ZR P ty n=some e):∃kt,P.underlying ty=some (.map kt e)∧Vo P kt n=true:=by grind[ZR]
theorem aaJ{E:En}:∀{vs:List TV} {ks:List Int} {us:List Value},afN vs=some ks→b_ E vs us→us=ks.map (Value.int .i64)
 | [],ks,us,h,hr=>by grind[afN,b_]
 | v::vs,ks,us,h,hr=>by
   obtain⟨u,us',rfl,h1,h2⟩:=hr;unfold afN at h;split at h
   ·trivial
   ·rename_i k n l heq;obtain⟨rfl,rfl⟩:=heq;split at h
    ·rename_i ks' hk;split at h
     ·rename_i hq;simp only[aj]at h;subst h;subst hq;rw[aaJ hk h2,h1];rfl
     trivial
    trivial
   trivial
theorem Xf{E:En}{v:TV}{ks:List Int}{u:Value}(h:toKey v=some ks)(hr:aV E v u):u=jX ks:=by
 unfold toKey at h;split at h
 ·split at h
  ·rename_i hq;simp only[aj]at h;subst h;subst hq
   trivial
  trivial
 ·split at h
  ·rename_i ks' hk;split at h
   ·trivial
   ·rename_i hl;simp only[aj]at h;subst h;obtain⟨us,rfl,hus⟩:=hr;rw[Et hl,←aaJ hk hus]
  trivial
 trivial
theorem ae0(E:En)(ks:List Int):aV E (Pz ks) (jX ks):=by
 have h:∀l:List Int,b_ E (l.map fun n=>.d (.int .i64 n)) (l.map (Value.int .i64)):=fun l=>by
  induction l with
  | nil=>rfl
  | cons n l ih=>exact⟨_,_,rfl,by rfl,ih⟩
 match ks with
 | [k]=>rfl
 | []=>simp only[Pz,jX,aV];grind
 | a::b::l=>simp only[Pz,jX,aV];grind
theorem Jr(ks:List Int):Instr.sameBits 10000 (jX ks) (jX ks)=true:=by
 match ks with
 | [k]=>simp[jX,Instr.sameBits]
 | []=>rfl
 | a::b::l=>
   rw[Et (by simp)];simp only[Instr.sameBits,beq_self_eq_true,jZ,dN];intro x hx
   grind[Instr.sameBits]
theorem xH:∀{l:List MapEntry},l.Pairwise (fun x y=>x.key≠y.key)→∀{x y:MapEntry},x∈l→y∈l→x.key=y.key→x=y
 | [],_,_,_,hx,_,_=>by trivial
 | a::r,hp,x,y,hx,hy,h=>by
   obtain⟨h1,h2⟩:=fB.1 hp;rcases aG.1 hx with ex|hx'
   ·grind
   ·rcases aG.1 hy with ey|hy'
    ·grind
    ·exact xH h2 hx' hy' h
section
variable {P:Program} {A:jL}
theorem iI.ajx{t:S}{a:Act}{E:En}(h:iI A t a E){d:Nat}(hd:t (.o d) = .none):
  ∃E':En,E'.w=E.w.alloc (.map #[] 0)∧iI A (upd t (.o d) (.jA [] 0 none none)) a E'∧aV E' (.mref d) (.map (some E.w.heap.size)):=by
 have hfree:=h.h.item (.o d) (by simp);rw[hd]at hfree
 obtain⟨hb0,hv0⟩:=hfree d rfl
 let E':En:={w:=E.w.alloc (.map #[] 0),St:=E.St,blk:=fun p=>if p = .o d then some E.w.heap.size else E.blk p,val:=fun i=>if i=d then some (0,0,undef)else E.val i}
 have hold:∀b,b<E.w.heap.size→E'.w.heap[b]? = E.w.heap[b]? :=by grind[heap_alloc_old]
 have x:uG E E':=by
  refine⟨fun _ _ h=>h,fun b o hst=>jV (hold b (h.h.uP b o hst)),fun id b _ he=>?_,fun i b he=>by trivial,fun i b he=>by trivial,fun id k c v _ hv=>⟨c,v,?_,aI _,fun _=>rfl⟩⟩
  ·grind
  grind
 have hown:E'.own (.o d)=some E.w.heap.size:=by grind[En.own]
 have S9:∀q,q≠.o d→E'.own q=E.own q:=by grind[En.qB]
 have hH:pX E' (upd t (.o d) (.jA [] 0 none none)):=by
  refine h.h.change (by simp) x (fun b o hst=>.inl hst) (fun q hq=>by grind) (fun id hid=>by
   grind) (by grind) (fun q b hq hb=>hold b (h.h.size q b hb)) (fun b hb=>?_) ?_ (fun b o hst hb=>?_)
  ·rw[hown]at hb;simp at hb;subst hb;exact⟨by simp[E'],.inr (aI _)⟩
  ·exact⟨d,E.w.heap.size,#[],0,[],0,undef,rfl,by grind,heap_alloc_new E.w _,.refl _,rfl,MapKept.stamped_empty 0,by grind,trivial,by simp⟩
  ·rw[hown]at hb;simp at hb;exact absurd (h.h.uP _ _ hst) (by omega)
 refine⟨E',rfl,h.step hH x (h.fr.next rfl rfl rfl (by grind) (fun b hb _ _=>hold b (fC hb h.fr.size)) (fun i=>by rfl) (fun id b hb=>?_) (fun _ _ h=>h) (fun _ _ h=>.inl h)) (fun k=>E8 (by simp) k),?_⟩
 ·grind
 ·simp only[aV];grind
theorem EG{t:S}{a:Act}{E:En}(hi:iI A t a E){id c:Nat}{es:List (List Int×TV)}{pd:Option (List Int)}{s:Option oO}(ht:t (.o id) = .jA es c pd s):
  ∃b l clock l' ty v,E.blk (.o id)=some b∧E.w.heap[b]? = some (.map l clock)∧l'.Perm l.toList∧nH E es l'∧MapKept.Stamped l clock∧E.val id=some (ty,c,v)∧ajB l pd v∧∀x,s=some x→x=⟨b,l,clock⟩:=by
 have:=hi.h.item (.o id) (by simp);rw[ht]at this
 obtain⟨id',b,l,clock,l',ty,v,hid,h⟩:=this
 grind
theorem iI.Tm{t:S}{a:Act}{E:En}(hi:iI A t a E){id b c c' ty:Nat}{v v':Value}{es es':List (List Int×TV)}{pd pd':Option (List Int)}{s:Option oO}{l l2:Array MapEntry}{l':List MapEntry}{clock clock2:Nat}(ht:t (.o id) = .jA es c pd s)
  (hb:E.blk (.o id)=some b) (hg:E.w.heap[b]? = some (.map l clock)) (hv:E.val id=some (ty,c,v)) (hp:l'.Perm l2.toList) (hm:nH E es' l') (hs:MapKept.Stamped l2 clock2) (hc:c≤c') (hcv:c=c'→v'=v) (hpd:ajB l2 pd' v') :
  ∃E':En,E'.w = {E.w with heap:=E.w.heap.setIfInBounds b (.map l2 clock2)}∧uG E E'∧iI A (upd t (.o id) (.jA es' c' pd' none)) a E'∧E'.val id=some (ty,c',v'):=by
 have oK:E.own (.o id)=some b:=by grind[En.own]
 let E':En:={E with w:={E.w with heap:=E.w.heap.setIfInBounds b (.map l2 clock2)},val:=fun i=>if i=id then some (ty,c',v')else E.val i}
 have hoth:∀b',b'≠b→E'.w.heap[b']? = E.w.heap[b']? :=by grind
 have hst:∀b' o',E.St b' o'→b'≠b:=fun b' o' h e=>by
  subst e;obtain⟨e2,k2,es2,h1,_⟩:=hi.h.sep _ o' h _ oK
  simp_all
 have x:uG E E':=⟨fun _ _ h=>h,fun b' o' h=>jV (hoth b' (hst b' o' h)),fun _ _ _ h=>h,fun _ _ h=>h,fun _ _ h=>h,fun i k c0 v0 _ h=>by
  grind⟩
 have hown:∀q,E'.own q=E.own q:=fun q=>by
  by_cases e:q = .o id
  ·grind[En.own]
  ·exact En.qB rfl (fun i hid=>by
    grind)
 have hH:pX E' (upd t (.o id) (.jA es' c' pd' none)):=by
  refine hi.h.change (by simp) x (fun b o h=>.inl h) (fun _ _=>rfl) (fun i hid=>by
   grind) (by grind) (fun q b' hq hb'=>hoth b' fun e=>hq (by subst e;exact hi.h.inj _ _ _ hb' oK)) (fun b' hb'=>?_) ?_ (fun b' o' hs hb'=>?_)
  ·grind
  ·exact⟨id,b,l2,clock2,l',ty,v',rfl,hb,by grind,hp,hm.up x,hs,by grind,hpd,by simp⟩
  grind
 refine⟨E',rfl,x,hi.step hH x (hi.fr.next rfl rfl rfl (by grind) (fun b' h1 _ h3=>hoth b' fun e=>?_) (fun _=>rfl) (fun j b' h=>.inl (by rwa [hown]at h)) (fun _ _ h=>h) (fun _ _ h=>.inl h)) (fun k=>E8 (by simp) k),by grind⟩;subst e;exact(hi.fr.new id b' oK).elim (fun h=>by omega) (fun⟨j,h⟩=>h3 j h)
theorem XH{o:Oper}{t:S}{ty d:Nat}(ho:o.op = .makeMap ty none):jD P A o t ⟨t (.o d) = .none,[.o d],[(.o d,.jA [] 0 none none)],.mref d⟩:=fun hC t' hr a E hi=>by
 have ht':t' (.o d) = .none:=by simp_all
 obtain⟨E',hw,hinv,hrel⟩:=hi.ajx ht';refine⟨_,_,E',?_,.inl rfl,hinv,hrel⟩;simp[execOp,ho,Instr.makeMap,hw]
def Vp(ck:Bool)(m:Option TV)(z:TV):TV:=
 match ck with
 | true=>.sZ [match m with|some v=>v|none=>z,.d (.bool m.isSome)]
 | false=>match m with|some v=>v|none=>z
theorem UU{e:TypeId}{z:Value}(hz:wS P e=some z)(w:World):(zeroValue e).run P w = .ok z w:=by
 unfold wS at hz;cases mG:P.info? e with
 | none=>simp_all
 | some inf=>simp only[mG,dH]at hz;simp[zeroValue,typeInfo,mG,hz]
theorem I4{t':S}{a:Act}{E:En}(hi:iI A t' a E){x ix:Operand}{id c:Nat}{es:List (List Int×TV)}{pd:Option (List Int)}{s:Option oO}{k:List Int}(hx:ev t' x = .mref id)(ht:t' (.o id) = .jA es c pd s)(hix:toKey (ev t' ix)=some k){kt:TypeId}(hkt:Vo P kt k.length=true)(hlen:∀y∈es,y.1.length=k.length):
  ∃b l clock l' ty v,a.eval x = .map (some b)∧a.eval ix=jX k∧E.blk (.o id)=some b∧E.w.heap[b]? = some (.map l clock)∧l'.Perm l.toList∧nH E es l'∧MapKept.Stamped l clock∧E.val id=some (ty,c,v)∧ajB l pd v∧
   (((Instr.findKey kt (jX k) l.toList).run P E.w = .ok none E.w∧mJ es k=none∧(∀b∈l.toList,b.key≠jX k)∧∀b∈l',b.key≠jX k)∨
     ∃j e v0,(Instr.findKey kt (jX k) l.toList).run P E.w = .ok (some (j,e.val)) E.w∧l[j]? = some e∧e.key=jX k∧mJ es k=some v0∧aV E v0 e.val∧e∈l'):=by
 have h1:=dS hi x;rw[hx]at h1
 simp only[aV]at h1;obtain⟨b0,hb0,hu⟩:=h1;have h2:=Xf hix (dS hi ix);obtain⟨b,l,clock,l',ty,v,hb,hg,hp,hm,hs,hv,hpd,_⟩:=EG hi ht;rw[hb]at hb0
 simp only[aj]at hb0;subst hb0;refine⟨b,l,clock,l',ty,v,hu,h2,hb,hg,hp,hm,hs,hv,hpd,?_⟩;have hall:∀e∈l.toList,∃k':List Int,k'.length=k.length∧e.key=jX k':=fun e he=>by obtain⟨k',v',g1,g2,_⟩:=Tn hm e (hp.mem_iff.2 he);exact⟨k',hlen _ g1,g2⟩
 rcases Xa hkt rfl E.w l.toList hall with⟨g1,g2⟩|⟨j,e,g1,g2,g3⟩
 ·rcases Ey (k:=k) hm with⟨q1,q2⟩|⟨v0,e,q1,q2,q3,_⟩
  ·exact .inl ⟨g1,q1,g2,q2⟩
  ·exact absurd q3 (g2 e (hp.mem_iff.1 q2))
 ·have hej:l[j]? = some e:=by simpa using g2
  have hel:e∈l.toList:=bU g2;rcases Ey (k:=k) hm with⟨q1,q2⟩|⟨v0,e2,q1,q2,q3,q4⟩
  ·exact absurd g3 (q2 e (hp.mem_iff.2 hel))
  ·have hnd:(l.toList.map (·.key)).Nodup:=hs.2.2;have:e2=e:=by
    have hpw:=((MapKept.stamped_iff l clock).1 hs).2.2;exact xH hpw (hp.mem_iff.1 q2) hel (q3.trans g3.symm)
   subst this;exact .inr ⟨j,e2,v0,g1,hej,g3,q1,q4,q2⟩
end
end Go.Tr
