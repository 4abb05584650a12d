/-
  What functions of the program compute, stated as contracts over plain data; the conditions of each stand in its own statement.
-/
import Derived.Test.YtkikielfhjoogaaGreatDoorZA03
set_option linter.unusedVariables false
set_option linter.unusedSimpArgs false
namespace Go.Tr
open Go
section
variable {P:Program} {A:f_}
theorem eY.AO{t:S}{a:Act}{E:En}(h:eY A t a E){d:Nat}(hd:t (.o d) = .none){e k:Nat}{es:List (List TV)}{w':World}{v:Value}{us:List Value}(hg:E.w.grownBy w' none)
  (hown:w'.ownsRow E.w.heap.size e k v es.length us) (hrel:∀E':En,E'.w=w'→oQ E E'→fC E' us k 0 es) :
  ∃E':En,E'.w=w'∧oQ E E'∧eY A (upd t (.o d) (.row e k es false)) a E'∧E'.val d=some (k,es.length,v):=by
 have hfree:=h.h.item (.o d) (by simp);rw[hd]at hfree
 obtain⟨hb0,hv0⟩:=hfree d rfl
 let E':En:={E with w:=w',val:=fun i=>if i=d then some (k,es.length,v)else E.val i}
 have hv':E'.val d=some (k,es.length,v):=by grind
 have hown':E'.own (.o d)=v.ownBlock:=by grind[En.own]
 have hold:∀b,b<E.w.heap.size→E'.w.heap[b]? = E.w.heap[b]? :=fun b hb=>hg.block b hb (by simp)
 have x:oQ E E':=by
  refine⟨fun _ _ h=>h,fun b o hst=>h_ (hold b (h.h.o_ b o hst)),fun _ _ _ h=>h,fun _ _ h=>h,fun _ _ h=>h,fun i k' c u _ hu=>?_⟩
  grind
 have hH:lD E' (upd t (.o d) (.row e k es false)):=by
  refine h.h.change (by simp) x (fun b o h=>.inl h) (fun q hq=>rfl) (fun i hne=>?_) hg.size (fun q b hq hb=>hold b (h.h.size q b hb)) (fun b hb=>?_) ⟨hb0,d,v,us,rfl,hv',⟨hown.1,hown.2.imp (fun h=>h) fun⟨g,cap,cur,h1,_,h3⟩=>⟨g,cap,cur,h1,jk _,h3⟩⟩,hrel E' rfl x⟩ (fun b o hs hb=>?_)
  ·grind
  ·rw[hown']at hb
   exact⟨(hown.lt b hb).2,.inr (hown.lt b hb).1⟩
  ·rw[hown']at hb
   have:=(hown.lt b hb).1;have:=h.h.o_ _ _ hs;omega
 refine⟨E',rfl,x,h.step hH x (h.fr.next hg.os hg.tape hg.output hg.size (fun b hb _ _=>hold b (dA hb h.fr.size)) (fun _=>rfl) (fun i b hb=>?_) (fun _ _ h=>h) (fun _ _ h=>.inl h)) (fun k=>Ag (by simp) k),hv'⟩;by_cases e:i=d
 ·subst e;rw[hown']at hb
  exact .inr (hown.lt b hb).1
 ·have:E'.own (.o i)=E.own (.o i):=En.mV rfl (fun j hj=>by grind)
  simp_all
theorem QX{o:Oper}{t:S}{ty e:TypeId}{k b d:Nat}{n:Int}{z:Value}{lx cx:Operand}(ho:o.op = .makeSlice ty lx cx)(he:qO P ty=some e)(hk:kM P e=some k)(hb:BJ P e=some b)(hz:qm P e=some z)
  (hl:ev t lx = .d (.int .i64 n)) (hc:ev t cx = .d (.int .i64 n)) :
  gB P A o t ⟨t (.o d) = .none∧0≤n∧n≤1000000∧b*n≤281474976710656∧(kS z).length=k∧0<k∧(kS z).all (·.oneCell')=true,pl lx++(pl cx++[.o d]),
   [(.o d,.row e k (List.replicate n.toNat ((kS z).map kK)) false)],.aW d n.toNat⟩:=fun⟨hd,hn0,hn1,hnb,hzl,hk0,hz1⟩ t' hr a E hi=>by
 have hd':t' (.o d) = .none:=by simp[*]
 have hl':ev t' lx = .d (.int .i64 n):=(dK (bf hr)).trans hl;have hc':ev t' cx = .d (.int .i64 n):=(dK (bf (aQ hr))).trans hc;have h1:=bP hi lx;rw[hl']at h1
 simp only[aP,Rep]at h1;have h2:=bP hi cx;rw[hc']at h2
 simp only[aP,Rep]at h2;rw[qW]at hzl hz1
 obtain⟨m,hm⟩:∃m:Nat,n=m:=⟨n.toNat,by omega⟩
 subst hm;rw[iL]
 let ru:Array Value:=(Array.range (m*k)).map fun i=>z.cells[i%z.cells.size]!
 have hrs:ru.size=m*k:=by grind
 have hln:(List.replicate m ((kS z).map kK)).length=m:=by simp
 have hzs:z.cells.size=k:=by omega
 obtain⟨E',hw',x,hinv,hval⟩:=hi.AO hd' (es:=List.replicate m ((kS z).map kK)) (v:=.slice (some ⟨E.w.heap.size,0,none⟩) m m) (us:=ru.toList) (e:=e) (k:=k) (w':=E.w.alloc (.cells ru e))
  (World.grownBy_alloc _ _ _)
  (by
   rw[hln];refine⟨by omega,.inr ⟨E.w.heap.size,m,ru,rfl,au _,heap_alloc_new E.w _,au _,by grind[maxLen],by rw[hrs],?_⟩⟩
   grind[List.take_of_length_le])
  (fun E' hw' x=>by
   refine fC.iI fun i el hel=>?_
   rw[List.getElem?_replicate]at hel
   split at hel
   ·rename_i him;simp only[ah]at hel;subst hel;refine⟨by simp_all,cu.iI fun j tv hj=>?_⟩;rw[qW,bn]at hj
    obtain⟨u,hu,rfl⟩:=dO.1 hj;have hjk:j<k:=by grind
    have hlt:i*k+j<m*k:=by
     have:(i+1)*k≤m*k:=dN k him
     grind
    grind[Nat.add_mul_mod_self_right,Nat.mod_eq_of_lt,oI]
   trivial)
 refine⟨_,.slice (some ⟨E.w.heap.size,0,none⟩) m m,E',?_,.inl rfl,hinv,?_⟩
 ·unfold qO at he;split at he
  rotate_left
  ·trivial
  rename_i e' hu;simp only[ah]at he;subst he;unfold kM at hk;unfold qm at hz;unfold BJ at hb;cases jU:P.info? e' with
  | none=>simp_all
  | some inf=>
  simp only[jU,bH,ah,bY]at hk hz hb;have hw:IntKind.i64.wrap (m:Int)=m:=by grind[IntKind.wrap_i64]
  have hc1 :¬((m:Int)<0):=by omega
  have hc2 :¬(281474976710656<(b:Int)*(m:Int)):=by omega
  by_cases hmk:m*k=0
  ·have hru:ru = #[]:=by simp_all
   rw[hru]at hw'
   simp only[execOp,ho,h1,h2,Instr.makeSlice,Sem.run_bind,run_underlying hu,Result.andThen_ok,asInt,asIntOf,Sem.run_pure,typeInfo,sizeOf,run_program,jU,hk,hb,hw,Int.reducePow,gt_iff_lt,hc1,hc2,Int.lt_irrefl,decide_false,Bool.or_self,eu,if_false,run_askRoom,iL,hmk,if_true,newRow,run_newObj];rw[hw']
   exact congrArg (fun r=>Result.ok _ (E.w.alloc (.cells r e'))) (by simp)
  ·simp only[execOp,ho,h1,h2,Instr.makeSlice,Sem.run_bind,run_underlying hu,Result.andThen_ok,asInt,asIntOf,Sem.run_pure,typeInfo,sizeOf,run_program,jU,hk,hb,hw,Int.reducePow,gt_iff_lt,hc1,hc2,Int.lt_irrefl,decide_false,Bool.or_self,eu,if_false,run_askRoom,iL,hmk,zeroValue,hz,newRow,run_newObj];rw[hw'];rfl
 ·simp only[aP];rw[hln]at hval
  exact⟨rfl,k,m,_,hval,au _,fun _=>rfl⟩
end
end Go.Tr

namespace Go.Tr
open Go
def dLen(k:Nat)(ys:List (List D)):Prop:=∀e∈ys,e.length=k
section
variable {P:Program} {A:f_}
theorem ZM{o:Oper}{t:S}{ty e k:Nat}{x hi mx:Operand}{xs:List (List D)}{kh km:IntKind}{h m:Int}(ho:o.op = .slice ty x none (some hi) (some mx))(he:qO P ty=some e)(hk:kM P e=some k)(hx:ev t x = .d (.sl xs))
  (hh:ev t hi = .d (.int kh h)) (hm:ev t mx = .d (.int km m)):gB P A o t ⟨(0≤h∧h≤xs.length∧m=h)∧∀e∈xs,e.length=k,pl x++(pl hi++pl mx),[],.sx (xs.take h.toNat)⟩:=
 .pure fun⟨⟨hC1,hC2,hC3⟩,hlen⟩ t' hr a E hin=>by
  subst hC3;have hx':=bP hin x;rw[dK (bf hr),hx]at hx'
  have hhi:=bP hin hi;rw[dK (bf (aQ hr)),hh]at hhi
  have hmx:=bP hin mx;rw[dK (aQ (aQ hr)),hm]at hmx
  simp only[aP,Rep]at hhi hmx;unfold qO at he;split at he
  rotate_left
  ·simp at he
  rename_i e' hu;simp only[ah]at he;subst he;unfold kM at hk;cases jU:P.info? e' with
  | none=>simp[jU]at hk
  | some inf=>
  simp only[jU,bH,ah]at hk;obtain⟨n,rfl⟩:∃n:Nat,m=n:=⟨m.toNat,by omega⟩
  have hbd:∀len c:Nat,n≤c→(Instr.sliceBounds true len c none (some (.int kh n)) (some (.int km n))).run P E.w = .ok (0,n,n) E.w:=fun len c hc=>by
   have:(n:Int)≤(c:Int):=by omega
   have h0:(0:Int)≤(n:Int):=by omega
   simp only[Instr.sliceBounds,Instr.sliceBound,asIntOf,Sem.run_bind,Sem.run_pure,Result.andThen_ok,Sem.run_ite,h0,this,and_self,if_true,pure_bind,iL,fM]
  simp only[aP,Rep]at hx';simp only[iL]at hC2⊢;have htl:(xs.take n).length=n:=by simp;omega
  rcases hx' with⟨h0,ad,c,Rk⟩|⟨b,of,c,k',Rk,hcc,hrows⟩
  ·have hn0:n=0:=by omega
   subst hn0;refine⟨.slice ad 0 0,?_,?_⟩
   ·simp only[execOp,ho,Instr.sliceAt,Sem.run_bind,run_underlying hu,Result.andThen_ok,Rk,mY,bH,Instr.slice,hhi,hmx,hbd _ _ (jk _),sizeOf,typeInfo,run_program,jU,Sem.run_pure,hk,lW,if_true]
   ·simp only[aP,Rep];exact⟨.inl ⟨by simp,_,_,rfl⟩,ad,by simp⟩
  ·refine⟨.slice (some ⟨b,of,none⟩) n n,?_,?_⟩
   ·have hadd:(some (⟨b,of,none⟩:Addr)).map (·.add (0*k))=some ⟨b,of,none⟩:=by simp[ny]
    simp only[execOp,ho,Instr.sliceAt,Sem.run_bind,run_underlying hu,Result.andThen_ok,Rk,mY,bH,Instr.slice,hhi,hmx,hbd _ c (by omega),sizeOf,typeInfo,run_program,jU,Sem.run_pure,hk,lW];simp[ny]
   ·simp only[aP,Rep];refine⟨?_,some ⟨b,of,none⟩,by rw[htl]⟩;by_cases hz:n=0
    ·exact .inl ⟨by omega,_,_,by rw[hz]⟩
    ·refine .inr ⟨b,of,n,k',by rw[htl],by omega,jK.iI fun i el hel=>?_⟩;have ajf:xs[i]? = some el:=by
      rw[gZ]at hel
      split at hel
      ·exact hel
      ·simp at hel
     exact hrows.get ajf
theorem QT{o:Oper}{t:S}{x y:Operand}{sty:TypeId}{d e k b:Nat}{xs:List (List D)}{ys:List (List TV)}{rp:List Pl}{z:Value}
  (ho:o.op = .call {callee:=.builtin .append,args:=#[x,y],argTypes:=#[sty,sty]}) (hx:ev t x = .sx xs) (hs:Src t (ev t y) rp ys)
  (he:qO P sty=some e) (hk:kM P e=some k) (hb:BJ P e=some b) (hz:qm P e=some z) (hzs:(kS z).length=k) (_hk0:0<k) :
  gB P A o t ⟨(t (.o d) = .none∧dLen k xs)∧0<ys.length∧Gx k b xs.length ys,pl x++(pl y++(.o d::rp)),[(.o d,.row e k (dd xs++ys) false)],.aW d (xs.length+ys.length)⟩:=fun⟨⟨hd,atv⟩,hpos,hlen,hroom,FI⟩ t' hr a E hi=>by
 have hxl:∀e∈dd xs,e.length=k:=fun e he=>by simp only[dd,ak]at he;obtain⟨e0,h0,rfl⟩:=he;simpa using atv e0 h0
 have hx':=bP hi x;rw[dK (bf hr),hx]at hx'
 simp only[aP]at hx';obtain⟨hx1,ad1,Rk⟩:=hx';have hy':=bP hi y;rw[dK (bf (aQ hr))]at hy'
 have hr3:=aQ (aQ hr);have hd':t' (.o d) = .none:=(hr3 _ (by simp)).trans hd;obtain⟨ad,c,news,hu,hnl,hrow,hone,hsrc⟩:=hs.rel hlen (fun p hp=>hr3 p (by simp[hp])) hi hy';obtain⟨ad2,c2,olds,hu2,hol,hrow2,_,agz⟩:=(Src.sl (t:=t') xs).rel hxl (fun p hp=>by simp at hp) hi (u:=a.eval x) (by simp only[aP];exact hx1);have hxn:(xs.map (·.map TV.d)).length=xs.length:=by simp
 rw[hxn]at hol hu2 agz
 have had:ad2=ad1:=by rw[Rk]at hu2;simp only[Value.slice.injEq]at hu2;exact hu2.1.symm
 subst had;rcases hsrc with h0|⟨a0,rfl,hcells⟩
 ·omega
 unfold qO at he;split at he
 rotate_left
 ·simp at he
 rename_i e' hun;simp only[ah]at he;subst he;unfold kM at hk;unfold BJ at hb;unfold qm at hz;cases jU:P.info? e' with
 | none=>simp[jU]at hk
 | some inf=>
 simp only[jU,bH,ah,bY]at hk hb hz;subst hk hb;have hzc:z.cells.size=inf.size:=by rw[←hzs,qW];simp
 let cap:=grownCap E.w (xs.length+ys.length) xs.length e'
 let w':=E.w.drew.alloc (.cells (olds.toArray++news.toArray++Builtin.zeroCells z.cells (cap-(xs.length+ys.length))) e')
 have hge:xs.length+ys.length≤cap:=grownCap_ge E.w _ _ e';have hcm:cap≤maxLen:=grownCap_le_maxLen E.w _ _ e' (by simp only[maxLen];omega);have hrun:(Builtin.append_ #[sty,sty] o.type #[a.eval x,a.eval y]).run P E.w = .ok (.slice (some ⟨E.w.heap.size,0,none⟩) (xs.length+ys.length) cap) w':=by
  rw[Rk,hu];cases ad2 with
  | none=>
    have h0:xs.length=0:=by
     rcases agz with h|⟨a1,h,_⟩
     ·exact h
     ·simp at h
    have ho0:olds = []:=cO (by rw[hol,h0];simp);have hr0:ys.length*inf.bytes≤140737488355328:=by rw[h0,bT]at hroom;exact hroom
    have:=run_append_nil (P:=P) E.w sty o.type e' inf z hun jU hz a0 ys.length c news hnl hcells hpos (by omega) (by omega);rw[h0,this];simp only[w',cap,h0,ho0,bT,fD]
  | some a1=>
    have holds:∀j v,olds[j]? = some v→E.w.cell? (a1.add j)=some v:=by
     rcases agz with h|⟨a2,h1,h2⟩
     ·intro j v hj;rw[h]at hol
      have e0:olds = []:=cO (by rw[hol];simp);rw[e0]at hj
      simp at hj
     ·simp only[ah]at h1;subst h1;exact h2
    exact run_append_grow (P:=P) E.w sty o.type e' inf z hun jU hz a1 xs.length xs.length olds hol holds a0 ys.length c news hnl hcells (by omega) (by omega) (growslice_fits (by omega) hroom)
 have hgr:E.w.grownBy w' none:=⟨rfl,rfl,rfl,by simp[w'],fun k hk _=>(by first|exact heap_alloc_old E.w.drew _ k hk|exact heap_alloc_old E.w.drew _ hk)⟩
 have hdl:(dd xs++ys).length=xs.length+ys.length:=by simp[dd]
 obtain⟨E',hw',x',hinv,hval⟩:=hi.AO hd' (es:=dd xs++ys) (v:=.slice (some ⟨E.w.heap.size,0,none⟩) (xs.length+ys.length) cap) (us:=olds++news) (e:=e') (k:=inf.size) (w':=w') hgr
  (by
   rw[hdl];refine⟨by rw[aU,hol,hnl,fF],.inr ⟨E.w.heap.size,cap,_,rfl,au _,heap_alloc_new E.w.drew _,hge,hcm,?_,?_⟩⟩
   ·simp only[Array.size_append,jg,size_zeroCells,hzc,hol,hnl,←fF]
    congr 1
    omega
   ·simp only[Array.toList_append,dP];rw[←dP,fF,←hol,←hnl,←aU];exact List.take_left)
  (fun E' hw' x'=>fC.app (by rw[hol];simp[dd]) (hrow2.up x') (hrow.up x'))
 refine⟨_,.slice (some ⟨E.w.heap.size,0,none⟩) (xs.length+ys.length) cap,E',yE ho (by rw[hw'];exact hrun),.inl rfl,hinv,?_⟩;simp only[aP];rw[hdl]at hval
 exact⟨rfl,inf.size,_,_,hval,au _,fun _=>rfl⟩
theorem Og{o:Oper}{t:S}{x y:Operand}{sty:TypeId}{e k:Nat}{xs:List (List D)}{ys:List (List TV)}{rp:List Pl}
  (ho:o.op = .call {callee:=.builtin .append,args:=#[x,y],argTypes:=#[sty,sty]}) (hx:ev t x = .sx xs) (hs:Src t (ev t y) rp ys)
  (he:qO P sty=some e) (hk:kM P e=some k):gB P A o t ⟨ys.length=0,pl x++(pl y++rp),[],.d (.sl xs)⟩:=.pure fun h0 t' hr a E hi=>by
 have hx':=bP hi x;rw[dK (bf hr),hx]at hx'
 simp only[aP]at hx';obtain⟨hx1,ad1,Rk⟩:=hx';have hy':=bP hi y;rw[dK (bf (aQ hr))]at hy'
 have hys:ys = []:=cO h0;obtain⟨ad,c,news,hu,hnl,_,_,_⟩:=hs.rel (k:=k) (fun e he=>by subst hys;simp at he) (fun p hp=>aQ (aQ hr) p hp) hi hy';rw[h0]at hu
 unfold qO at he;split at he
 rotate_left
 ·simp at he
 rename_i e' hun;simp only[ah]at he;subst he;unfold kM at hk;cases jU:P.info? e' with
 | none=>simp[jU]at hk
 | some inf=>
 refine⟨.slice ad1 xs.length xs.length,yE ho ?_,by simp only[aP];rw[←Rk];exact hx1⟩;rw[Rk,hu];cases ad<;>cases ad1<;>simp[Builtin.append_,run_underlying hun,sizeOf,typeInfo,jU,Builtin.lenOf,Builtin.firstCells,storeCells,loadCells,loadCellsFrom]
theorem Fv{o:Oper}{t:S}{ty e k n d:Nat}{ps:List (Nat×Operand)}{z:Value}(ho:o.op = .buildSlice ty n ps.toArray)(he:qO P ty=some e)(hk:kM P e=some k)(hz:qm P e=some z)
  (hseq:wX ps n=true) :
  gB P A o t ⟨t (.o d) = .none∧(∀e∈ps.map (fun x=>(ev t x.2).cells),e.length=k∧∀c∈e,c.one=true)∧n*k≤16777216∧0<k,ps.flatMap (fun x=>pl x.2)++[.o d],[(.o d,.row e k (ps.map fun x=>(ev t x.2).cells) false)],.aW d n⟩:=fun⟨hd,hC,hsm,hk0⟩ t' hr a E hi=>by
 have OM:ps.map (·.1)=List.range n:=by simpa[wX]using hseq
 have hn:ps.length=n:=by have:=congrArg List.length OM;simpa using this
 rw[jD,←hn]at OM
 have hd':t' (.o d) = .none:=(aQ hr _ (by simp)).trans hd;have hr1:=bf hr;have hev:(ps.map fun x=>ev t' x.2)=ps.map fun x=>ev t x.2:=
  gU fun x hx=>dK fun p hp=>hr1 p (gJ.2 ⟨x,hx,hp⟩)
 let vs:=ps.map fun x=>ev t x.2
 let us:=ps.map fun x=>a.eval x.2
 have hrel:bD E vs us:=by
  have:=AA hi (ps.map (·.2));simp only[aY]at this;have h2:(List.map (ev t'∘fun x=>x.2) ps)=vs:=hev;rw[h2]at this
  exact this
 have hCm:∀v∈vs,v.cells.length=k∧∀c∈v.cells,c.one=true:=fun v hv=>by simp only[vs,ak]at hv;obtain⟨x,hx,rfl⟩:=hv;exact hC _ (ak.2 ⟨x,hx,rfl⟩)
 have hvl:vs.length=n:=by simp[vs,hn]
 obtain⟨ru,hrun,hsz,agx⟩:=run_buildSlice (P:=P) he hk hz hrel (fun v hv=>(hCm v hv).1) (fun v hv=>(hCm v hv).2) (by rw[hvl];exact hsm);have hmap:ps.map (fun x=>(ev t x.2).cells)=vs.map TV.cells:=by simp[vs,Function.comp_def]
 have hln:(vs.map TV.cells).length=n:=by simp[hvl]
 have hnk:n≤16777216:=dw (Nat.le_mul_of_pos_right n hk0) hsm;obtain⟨E',hw',x,hinv,hval⟩:=hi.AO hd' (es:=vs.map TV.cells) (v:=.slice (some ⟨E.w.heap.size,0,none⟩) n n) (us:=ru.toList) (e:=e) (k:=k) (w':=E.w.alloc (.cells ru e)) (World.grownBy_alloc _ _ _)
  (by
   rw[hln];refine⟨by simp[hsz,hvl],.inr ⟨E.w.heap.size,n,ru,rfl,au _,heap_alloc_new E.w _,au _,by simp only[maxLen];omega,by rw[hsz,hvl],?_⟩⟩;rw[aS (by simp[hsz,hvl])])
  (fun E' hw' x=>by
   refine fC.iI fun i el hel=>?_
   simp only[bn,dO]at hel;obtain⟨v,h3,rfl⟩:=hel;refine⟨(hCm v (bF h3)).1,cu.iI fun j tv hj=>?_⟩;have hfl:(vs.flatMap TV.cells)[i*k+j]? = some tv:=flat_get (fun v hv=>(hCm v hv).1) h3 hj;obtain⟨u,h6,h7⟩:=agx.get hfl;refine⟨u,by simpa using h6,h7.one ((hCm v (bF h3)).2 tv (bF hj)),h7.up x⟩)
 refine⟨_,.slice (some ⟨E.w.heap.size,0,none⟩) n n,E',?_,.inl rfl,by rw[hmap];exact hinv,?_⟩
 ·have hz2:=J6 (fun x=>a.eval x) ps 0 OM;simp only[execOp,ho,fA,hz2,Sem.run_bind,hw'];rw[←hvl,hrun];rfl
 ·simp only[aP];rw[hln]at hval
  exact⟨rfl,k,n,_,hval,au _,fun _=>rfl⟩
end
end Go.Tr

namespace Go.Tr
open Go
section
variable {P:Program} {A:f_}
theorem Eo{t:S}{a:Act}{E:En}(hi:eY A t a E){id k:Nat}{e:TypeId}{es:List (List TV)}(ht:t (.o id) = .sJ e k es):
  E.blk (.o id)=none∧∃v us,E.val id=some (k,es.length,v)∧Ir E.w e k v es.length us∧fC E us k 0 es∧(∀u,aP E (.aW id es.length) u→u=v):=by
 have:=hi.h.item (.o id) (by simp);rw[ht]at this
 obtain⟨h0,id',v,us,hid,h1,h2,h3⟩:=this;simp only[Pl.o.injEq]at hid;subst hid;refine⟨h0,v,us,h1,h2,h3,fun u hu=>?_⟩;simp only[aP]at hu
 grind
theorem ahF{w:World}{e:TypeId}{k n g o:Nat}{cur:Array Value}{us:List Value}(hg:w.heap[g]? = some (.cells cur e (0,0)))(ht:(cur.toList.drop o).take (n*k)=us):
  ∀j u,us[j]? = some u→w.cell? ⟨g,o+j,none⟩ = some u:=fun j u hj=>by
 grind[cell_of_row]
theorem Xc{o:Oper}{t:S}{x:Operand}{ty e:TypeId}{id n k:Nat}{e':TypeId}{es:List (List TV)}(ho:o.op = .call {callee:=.builtin .len,args:=#[x],argTypes:=#[ty]})(he:qO P ty=some e)(hx:ev t x = .aW id n)
  (ht:t (.o id) = .sJ e' k es):gB P A o t ⟨n=es.length,pl x++[.o id],[],.d (.int .i64 n)⟩:=
 .pure fun hC t' hr a E hi=>by
  have hx':=bP hi x;rw[dK (bf hr),hx]at hx'
  have ht':t' (.o id) = .sJ e' k es:=by simp[*]
  subst hC;obtain⟨_,v,us,h2,h3,h4,h5⟩:=Eo hi ht';have hv:=h5 _ hx';unfold qO at he;split at he
  ·rename_i e' hu;obtain⟨_,g,of,cap,cur,rfl,_⟩:=h3;refine⟨_,?_,rfl⟩;simp[execOp,ho,resolve,invoke,builtin,hv,Builtin.len_,run_underlying hu,goInt]
  trivial
theorem Hg{o:Oper}{t:S}{ty:TypeId}{x ix:Operand}{e k id n:Nat}{e':TypeId}{es:List (List TV)}{ik:IntKind}{i:Int}(ho:o.op = .indexAddr ty x ix)(he:qO P ty=some e)(hk:kM P e=some k)
  (hx:ev t x = .aW id n) (hix:ev t ix = .d (.int ik i)) (ht:t (.o id) = .sJ e' k es) :
  gB P A o t ⟨n=es.length∧0≤i∧i<es.length,pl x++(pl ix++[.o id]),[],.qH id n i.toNat 0⟩:=
 .pure fun⟨hn,h0,h1⟩ t' hr a E hi=>by
  have hx':=bP hi x;rw[dK (bf hr),hx]at hx'
  have hix':=bP hi ix;rw[dK (bf (aQ hr)),hix]at hix'
  simp only[aP,Rep]at hix';subst hn;have ht':t' (.o id) = .sJ e' k es:=by simp[*]
  obtain⟨_,v,us,h2,h3,h4,h5⟩:=Eo hi ht';have hu:=h5 _ hx';obtain⟨_,g,of,cap,cur,rfl,_⟩:=h3;refine⟨.pointer (some ⟨g,of+i.toNat*k,none⟩),?_,?_⟩
  ·simp[execOp,ho,hu,hix',yF he hk _ _ _ _ _ h0 h1,ny]
  ·exact⟨rfl,k,_,_,h2,au _,fun _=>⟨g,of,cap,rfl,by simp⟩⟩
theorem Hq{o:Oper}{t:S}{ty:TypeId}{x:Operand}{id n i q k:Nat}{e:TypeId}{es:List (List TV)}{v:TV}(ho:o.op = .load ty x)(hx:ev t x = .qH id n i q)(ht:t (.o id) = .sJ e k es)
  (h:(qE P ty=some false∧(es.getD i [])[q]? = some v)∨(∃z,qE P ty=some true∧kM P ty=some z∧q+z≤(es.getD i []).length∧v = .agg (((es.getD i []).drop q).take z))) :
  gB P A o t ⟨n=es.length∧i<es.length,pl x++[.o id],[],v⟩:=
 .pure fun⟨hn,hil⟩ t' hr a E hi=>by
  have hx':=bP hi x;rw[dK (bf hr),hx]at hx'
  have ht':t' (.o id) = .sJ e k es:=(aQ hr _ (by simp)).trans ht;subst hn;obtain⟨_,v0,us,h1,h2,h3,_⟩:=Eo hi ht';simp only[aP]at hx';obtain⟨_,k',c,v',hv,_,he⟩:=hx';rw[h1]at hv
  simp only[ah,aO]at hv;obtain⟨rfl,rfl,rfl⟩:=hv;obtain⟨b,of,cp,rfl,hu⟩:=he rfl;obtain⟨hl0,g,of',cap,cur,hval,hg,hnc,hcm,hcs,htk⟩:=h2;simp only[Value.slice.injEq,ah,Addr.mk.injEq]at hval;obtain⟨⟨rfl,rfl,_⟩,_,rfl⟩:=hval;have hgt:es[i]? = some (es.getD i []):=by simp[*]
  obtain⟨h4,h5⟩:=h3.get hgt;simp only[bT]at h5;have hcell:=ahF (n:=es.length) (k:=k) hg htk;rcases h with⟨h6,h7⟩|⟨z,h6,h7,h8,rfl⟩
  ·obtain⟨u,h8,h9,h10⟩:=h5.get h7;refine⟨u,?_,h10⟩;have hc1:=hcell _ _ h8;rw[←iZ]at hc1
   simp[execOp,ho,hu,Instr.loadAt,Instr.sureAddr,vg h6 hc1]
  ·have hc':=(h5.sub q z).vals;have hl:(((es.getD i []).drop q).take z).length=z:=by simp at h8⊢;omega
   rw[hl]at hc'
   refine⟨.agg ((us.drop (i*k+q)).take z).toArray,?_,?_⟩
   ·have hra:E.w.rangeAt b (of+i*k+q) ((us.drop (i*k+q)).take z):=fun j v hj=>by
     rw[gZ]at hj
     split at hj
     ·rw[mG]at hj
      have:=hcell _ _ hj;rw[show of+i*k+q+j=of+(i*k+q+j) by omega];exact this
     ·simp at hj
    simp only[execOp,ho,hu,Instr.loadAt,Instr.sureAddr,Sem.run_bind,Sem.run_pure,Result.andThen_ok,u_ h6 h7 hc'.2 hra]
   ·simp only[aP];exact⟨_,rfl,hc'.1⟩
theorem Q5{o:Oper}{t:S}{ty e k id n:Nat}{e':TypeId}{x lo:Operand}{es:List (List TV)}{ik:IntKind}{l:Int}(ho:o.op = .slice ty x (some lo) none none)(he:qO P ty=some e)(hk:kM P e=some k)
  (hx:ev t x = .aW id n) (hl:ev t lo = .d (.int ik l)) (ht:t (.o id) = .sJ e' k es) :
  gB P A o t ⟨n=es.length∧0≤l∧l≤es.length,pl x++(pl lo++[.o id]),[],.LG id n l.toNat⟩:=
 .pure fun⟨hn,h0,h1⟩ t' hr a E hi=>by
  have hx':=bP hi x;rw[dK (bf hr),hx]at hx'
  have hlo:=bP hi lo;rw[dK (bf (aQ hr)),hl]at hlo
  subst hn;have ht':t' (.o id) = .sJ e' k es:=by simp[*]
  obtain⟨_,v,us,h2,h3,h4,h5⟩:=Eo hi ht';have hu:=h5 _ hx';obtain⟨hl0,g,of,cap,cur,rfl,hg,hnc,hcm,hcs,htk⟩:=h3;unfold qO at he;split at he
  rotate_left
  ·trivial
  rename_i e' hun;simp only[ah]at he;subst he;unfold kM at hk;cases jU:P.info? e' with
  | none=>simp_all
  | some inf=>
  have hcut:WX es.length (some (.d (.int ik l))) none=some (0≤l∧l≤es.length,l.toNat,es.length):=by rfl
  obtain⟨hb,_,_⟩:=qJ (P:=P) (isS:=true) (cap:=cap) hcut ⟨h0,by omega⟩ hnc (E:=E) (ulo:=some (a.eval lo)) (uhi:=none)
   (fun v hv=>⟨_,rfl,by simp_all⟩) (fun h=>by trivial) (fun v hv=>by trivial) (fun _=>rfl) E.w
  refine⟨.slice (some ⟨g,if cap-l.toNat=0 then of else of+l.toNat*k,none⟩) (es.length-l.toNat) (cap-l.toNat),?_,?_⟩
  ·simp only[execOp,ho,Instr.sliceAt,Sem.run_bind,run_underlying hun,Result.andThen_ok,hu,mY,bH,Instr.slice,hb,sizeOf,typeInfo,run_program,jU,Sem.run_pure,hk]
   grind[ny]
  ·simp only[aP];refine⟨rfl,k,_,_,h2,au _,fun _=>⟨g,of,cap,_,rfl,by omega,?_,rfl⟩⟩
   grind
end
end Go.Tr

namespace Go.Tr
open Go
section
variable {P:Program} {A:f_}
theorem Ir.lt{w:World}{e:TypeId}{k n:Nat}{v:Value}{xs:List Value}(h:Ir w e k v n xs):∀b,v.ownBlock=some b→b<w.heap.size:=by
 obtain⟨_,g,o,cap,cur,rfl,hg,_⟩:=h
 grind[Value.ownBlock]
theorem J_{t:S}{a:Act}{E:En}(hi:eY A t a E){id k:Nat}{e:TypeId}{es:List (List TV)}(ht:t (.o id) = .sJ e k es){b o:Nat}(h:E.St b o):E.own (.o id)≠some b:=fun h2=>by
 obtain⟨e2,k2,es2,h1,_⟩:=hi.h.sep b o h _ h2
 simp_all
theorem eY.ajQ{t:S}{a:Act}{E:En}(hi:eY A t a E){id k:Nat}{e:TypeId}{es es':List (List TV)}(ht:t (.o id) = .sJ e k es)
  {v v':Value} {us':List Value} {w':World} (hval:E.val id=some (k,es.length,v)) (hg:E.w.grownBy w' v.ownBlock) (hown:Ir w' e k v' es'.length us')
  (hle:es.length≤es'.length) (heq:es.length=es'.length→v'=v) (hob:v'.ownBlock=v.ownBlock∨v'.ownBlock=some E.w.heap.size)
  (hrel:∀E':En,E'.w=w'→oQ E E'→fC E' us' k 0 es') :
  ∃E':En,E'.w=w'∧oQ E E'∧eY A (upd t (.o id) (.sJ e k es')) a E'∧E'.val id=some (k,es'.length,v'):=by
 have hit:=hi.h.item (.o id) (by simp);rw[ht]at hit
 obtain⟨hb0,_⟩:=hit;have nI:E.own (.o id)=v.ownBlock:=by grind[En.own]
 have hst:∀b o,E.St b o→QE w' b o=QE E.w b o:=fun b o hs=>h_ (hg.block b (hi.h.o_ _ _ hs) (fun e'=>J_ hi ht hs (nI.trans e'.symm)))
 let E':En:={E with w:=w',val:=fun i=>if i=id then some (k,es'.length,v')else E.val i}
 have hv':E'.val id=some (k,es'.length,v'):=by grind
 have OL:E'.own (.o id)=v'.ownBlock:=by grind[En.own]
 have x:oQ E E':=by
  refine⟨fun _ _ h=>h,hst,fun _ _ _ h=>h,fun _ _ h=>h,fun _ _ h=>h,fun i k' c u _ hu=>?_⟩
  grind
 have agt:∀q b,q≠.o id→E.own q=some b→w'.heap[b]? = E.w.heap[b]? :=fun q b hq hb=>by refine hg.block b (hi.h.size q b hb) (fun e=>hq (hi.h.inj _ _ b hb ?_));simp[*]
 have hH:lD E' (upd t (.o id) (.sJ e k es')):=by
  refine hi.h.change (by simp) x (fun b o h=>.inl h) (fun q hq=>rfl) (fun i hne=>?_) hg.size agt (fun b hb=>?_) ⟨hb0,id,v',us',rfl,hv',hown,hrel E' rfl x⟩ (fun b o hs hb=>?_)
  ·grind
  ·rw[OL]at hb
   rw[nI];exact⟨hown.lt b hb,hob.elim (fun e=>.inl (e▸hb)) (fun e=>.inr (by simp_all))⟩
  ·rw[OL]at hb
   rcases hob with e'|e'
   ·grind[J_]
   ·rw[e']at hb;simp at hb
    have:=hi.h.o_ _ _ hs;omega
 refine⟨E',rfl,x,hi.step hH x (hi.fr.next hg.os hg.tape hg.output hg.size (fun b h1 h2 h3=>hg.block b (dA h1 hi.fr.size) (fun e=>?_)) (fun _=>rfl) (fun i b hb=>?_) (fun _ _ h=>h) (fun _ _ h=>.inl h)) (fun k=>Ag (by simp) k),hv'⟩
 ·exact(hi.fr.new id b (by rw[nI,←e])).elim (fun h=>by omega) (fun⟨j,h⟩=>h3 j h)
 ·by_cases e:i=id
  ·grind
  ·have:E'.own (.o i)=E.own (.o i):=En.mV rfl (fun j hj=>by grind)
   simp_all
theorem VK{w:World}{t e:Nat}{ty:TypeId}{inf:TypeInfo}{z:Value}{size bytes:Nat}(ht:P.underlying t=some (.slice e))(hi:P.info? e=some inf)(hz:inf.zero=some z)
  (hsize:inf.size=size) (hby:inf.bytes=bytes) (hzs:z.cells.size=size) {v:Value} {n:Nat} {xs:List Value} (hown:Ir w e size v n xs)
  {a:Addr} {m c:Nat} {news:List Value} (hl:news.length=m*size) (hnews:∀j u,news[j]? = some u→w.cell? (a.add j)=some u) (h1:∀u∈news,u.oneCell'=true)
  (h63:n+m≤maxLen) (hbytes:(n+m)*bytes≤140737488355328) :
  ∃v' w',(Builtin.append_ #[t,t] ty #[v,.slice (some a) m c]).run P w = .ok v' w'∧Ir w' e size v' (n+m) (xs++news)∧v'.oneCell'=true∧
   ((v'.ownBlock=v.ownBlock∧w.grownBy w' v.ownBlock)∨(v'.ownBlock=some w.heap.size∧w.grownBy w' none)):=by
 subst hsize;subst hby;have hsmall:n+m≤9223372036854775807:=by trivial
 have hlen:(xs++news).length=(n+m)*inf.size:=by rw[aU,hown.1,hl,fF]
 obtain⟨hx0,g,o,cap,cur,rfl,hg,hnc,hcm,hcs,htake⟩:=hown;by_cases hroom:n+m≤cap
 ·have hm:(n+m)*inf.size≤cap*inf.size:=dN _ hroom;rw[fF]at hm
  have hfit:(o+n*inf.size)+0+news.length≤cur.size:=by omega
  have hf:=run_firstCells_some (P:=P) w inf.size m a m c news hl hnews;have hst:=run_storeCells_at P g (o+n*inf.size) e news 0 cur w hg hfit h1;simp only[Nat.add_zero]at hst
  refine⟨.slice (some ⟨g,o,none⟩) (n+m) cap,w.setRow g (cur.toList.take (o+n*inf.size)++news++cur.toList.drop (o+n*inf.size+news.length)).toArray,?_,⟨hlen,g,o,cap,_,rfl,setRow_heap w g cur _ e _ hg,hroom,hcm,?_,?_⟩,rfl,.inl ⟨rfl,⟨rfl,rfl,rfl,by simp,fun k _ hk=>setRow_other w g k _ (fun e=>hk (by grind[Value.ownBlock]))⟩⟩⟩
  ·simp[Builtin.append_,run_underlying ht,sizeOf,typeInfo,hi,Builtin.lenOf,hroom,hf,ny,hst]
  ·grind
  grind
 ·have holds:∀j u,xs[j]? = some u→w.cell? ((⟨g,o,none⟩:Addr).add j)=some u:=by grind[ny,ahF]
  have hr:=run_append_grow (P:=P) w t ty e inf z ht hi hz ⟨g,o,none⟩ n cap xs hx0 holds a m c news hl hnews (by omega) (by omega) (growslice_fits (by omega) hbytes);have hge:=grownCap_ge w (n+m) cap e;have hcm':grownCap w (n+m) cap e≤maxLen:=grownCap_le_maxLen w (n+m) cap e h63
  refine⟨_,_,hr,⟨hlen,w.heap.size,0,_,_,rfl,heap_alloc_new w.drew _,hge,hcm',?_,?_⟩,rfl,.inr ⟨rfl,⟨rfl,rfl,rfl,by simp,fun k hk _=>(by first|exact heap_alloc_old w.drew _ k hk|exact heap_alloc_old w.drew _ hk)⟩⟩⟩
  ·simp only[Array.size_append,jg,size_zeroCells,hzs,hx0,hl,←fF,bT];simp[*]
  grind
theorem Rx{w:World}{t e:Nat}{ty:TypeId}{inf:TypeInfo}(ht:P.underlying t=some (.slice e))(hi:P.info? e=some inf){v:Value}{n size:Nat}{xs:List Value}
  (hown:Ir w e size v n xs) (ad:Option Addr) (c:Nat):(Builtin.append_ #[t,t] ty #[v,.slice ad 0 c]).run P w = .ok v w:=by
 obtain⟨_,g,o,cap,cur,rfl,_,hnc,_⟩:=hown;cases ad<;>simp[Builtin.append_,run_underlying ht,sizeOf,typeInfo,hi,Builtin.lenOf,Builtin.firstCells,hnc,storeCells,loadCells,loadCellsFrom]
theorem eY.aiE{t:S}{a:Act}{E:En}(hi:eY A t a E){id e k b:Nat}{es:List (List TV)}(ht:t (.o id) = .sJ e k es){sty ty:TypeId}(he:qO P sty=some e)(hk:kM P e=some k)(hb:BJ P e=some b)
  {z:Value} (hz:qm P e=some z) (hzs:(kS z).length=k) (_hk0:0<k) {u:Value} (hu:aP E (.aW id es.length) u)
  {ys:List (List TV)} {ad:Option Addr} {c:Nat} {news:List Value} (hnl:news.length=ys.length*k) (hrow:fC E news k 0 ys) (hone:∀v∈news,v.oneCell'=true)
  (hsrc:ys.length=0∨∃a0,ad=some a0∧∀j v,news[j]? = some v→E.w.cell? (a0.add j)=some v)
  (hroom:(es.length+ys.length)*b≤140737488355328) (FI:es.length+ys.length≤9223372036854775807) :
  ∃(v':Value) (E':En),(Builtin.append_ #[sty,sty] ty #[u,.slice ad ys.length c]).run P E.w = .ok v' E'.w∧eY A (upd t (.o id) (.sJ e k (es++ys))) a E'∧aP E' (.aW id (es.length+ys.length)) v':=by
 obtain⟨hblk,v,us,hval,hown,hrel,hcur⟩:=Eo hi ht;have hv:=hcur _ hu;subst hv;unfold qO at he;split at he
 rotate_left
 ·trivial
 rename_i e' hun;simp only[ah]at he;subst he;unfold kM at hk;unfold BJ at hb;unfold qm at hz;cases jU:P.info? e' with
 | none=>simp_all
 | some inf=>
 simp only[jU,bH,ah,bY]at hk hb hz;have hzc:z.cells.size=k:=by grind[qW]
 have hone':∀(E':En) (v':Value),E'.val id=some (k,(es++ys).length,v')→v'.oneCell'=true→aP E' (.aW id (es.length+ys.length)) v':=fun E' v' h1 h2=>by
  simp only[aP]
  grind
 rcases jA ys.length with h0|hpos
 ·have hys:ys = []:=cO h0;subst hys;refine⟨u,E,by grind[Rx],?_,by omega⟩;have:upd t (.o id) (.sJ e' k (es++[]))=t:=by grind[upd]
  simp_all
 ·rcases hsrc with h0|⟨a0,rfl,hcells⟩
  ·omega
  obtain⟨v',w',hrun,hown',hv1,hob⟩:=VK (P:=P) (ty:=ty) (c:=c) hun jU hz hk hb hzc hown hnl hcells hone
   (by trivial) hroom
  have JJ:E.w.grownBy w' u.ownBlock:=hob.elim (fun h=>h.2) (fun h=>⟨h.2.os,h.2.tape,h.2.output,h.2.size,fun i hi _=>h.2.block i hi (by simp)⟩);obtain⟨E',hw',x,hinv,hval'⟩:=hi.ajQ ht (es':=es++ys) hval JJ (by simp[*]) (by simp) (fun h=>by grind) (hob.imp (fun h=>h.1) (fun h=>h.1))
   (fun E' _ x=>fC.app (by simpa using hown.1) (hrel.up x) (hrow.up x))
  grind
theorem Oc{o:Oper}{t:S}{x y:Operand}{sty:TypeId}{id n e k b:Nat}{es ys:List (List TV)}{rp:List Pl}{z:Value}
  (ho:o.op = .call {callee:=.builtin .append,args:=#[x,y],argTypes:=#[sty,sty]}) (hx:ev t x = .aW id n) (ht:t (.o id) = .sJ e k es) (hs:Src t (ev t y) rp ys)
  (he:qO P sty=some e) (hk:kM P e=some k) (hb:BJ P e=some b) (hz:qm P e=some z) (hzs:(kS z).length=k) (hk0:0<k) :
  gB P A o t ⟨n=es.length∧Gx k b n ys,pl x++(pl y++(.o id::rp)),[(.o id,.sJ e k (es++ys))],.aW id (n+ys.length)⟩:=fun⟨hn,hlen,hroom,FI⟩ t' hr a E hi=>by
 have hx':=bP hi x;rw[dK (bf hr),hx]at hx'
 have hy':=bP hi y;rw[dK (bf (aQ hr))]at hy'
 have hr3:=aQ (aQ hr);have ht':t' (.o id) = .sJ e k es:=(hr3 _ (by simp)).trans ht;subst hn;obtain⟨ad,c,news,hu,hnl,hrow,hone,hsrc⟩:=hs.rel hlen (fun p hp=>hr3 p (by simp[*])) hi hy';obtain⟨v',E',hrun,hinv,hrel⟩:=hi.aiE ht' he hk hb hz hzs hk0 hx' (ty:=o.type) (c:=c) hnl hrow hone hsrc hroom FI;exact⟨_,v',E',yE ho (by simp[*]),.inl rfl,hinv,hrel⟩
end
end Go.Tr

namespace Go.Tr
open Go
theorem Ic{a b:List Int}(h:gW a=gW b):a=b:=by
 have map_inj:∀{x y:List Int},x.map (Value.int .i64)=y.map (Value.int .i64)→x=y:=fun {x y} h=>by
  induction x generalizing y with
  | nil=>simp_all
  | cons n x ih=>cases y with
    | nil=>trivial
    | cons m y=>grind
 unfold gW at h
 grind
def kJ:List (List Int×TV)→List Int→Option TV
 | [],_=>none
 | (k',v)::es,k=>if k=k' then some v else kJ es k
def oq:List (List Int×TV)→List Int→TV→List (List Int×TV)
 | [],k,v=>[(k,v)]
 | (k',v')::es,k,v=>if k=k' then(k,v)::es else(k',v')::oq es k v
def aak(es:List (List Int×TV))(k:List Int):List (List Int×TV):=es.filter fun x=>decide (x.1≠k)
theorem wM{E:En}{k:List Int}:∀{es:List (List Int×TV)} {l:List MapEntry},jW E es l→
  (kJ es k=none∧∀a∈l,a.key≠gW k)∨∃v a,kJ es k=some v∧a∈l∧a.key=gW k∧aP E v a.val
 | [],l,h=>by subst h;exact .inl ⟨rfl,by simp⟩
 | (k',v)::es,l,h=>by
   obtain⟨a,l',rfl,h1,h2,h3⟩:=h;by_cases e:k=k'
   ·simp_all[kJ]
   ·rcases wM (k:=k) h3 with⟨g1,g2⟩|⟨v2,b,g1,g2,g3,g4⟩
    ·refine .inl ⟨by simp_all[kJ],fun b hb=>?_⟩;rcases aF.1 hb with rfl|hb
     ·grind[Ic]
     simp[*]
    grind[kJ,List.mem_cons_of_mem]
open Classical in
noncomputable def vI(kv:Value)(f:MapEntry→MapEntry)(l:List MapEntry):List MapEntry:=l.map fun e=>if e.key=kv then f e else e
theorem aeT{kv:Value}{f:MapEntry→MapEntry}{l:List MapEntry}(h:∀a∈l,a.key≠kv):vI kv f l=l:=by simp_all[vI,gU,id]
theorem Us{kv:Value}{f:MapEntry→MapEntry}{a:MapEntry}{l:List MapEntry}(h :¬a.key=kv):vI kv f (a::l)=a::vI kv f l:=by simp_all[vI]
theorem acL{kv:Value}{f:MapEntry→MapEntry}{a:MapEntry}{l:List MapEntry}(h:a.key=kv)(hn:∀b∈l,b.key≠kv):vI kv f (a::l)=f a::l:=by
 have:vI kv f (a::l)=f a::vI kv f l:=by simp_all[vI]
 simp_all[aeT]
theorem FT{a:MapEntry}{l:List MapEntry}(h:((a::l).map (·.key)).Nodup):(∀b∈l,b.key≠a.key)∧(l.map (·.key)).Nodup:=by simp_all
theorem XR{E:En}{k:List Int}{v:TV}{u:Value}(hr:aP E v u){f:MapEntry→MapEntry}(hf:∀a,(f a).key=gW k∧(f a).val=u):∀{es:List (List Int×TV)} {l:List MapEntry},jW E es l→(l.map (·.key)).Nodup→
  (∃a∈l,a.key=gW k)→jW E (oq es k v) (vI (gW k) f l)
 | [],l,h,_,⟨a,ha,_⟩=>by simp_all[jW]
 | (k',v')::es,l,h,hn,hex=>by
   obtain⟨a,l',rfl,h1,h2,h3⟩:=h;obtain⟨n1,n2⟩:=FT hn;by_cases e:k=k'
   ·subst e;rw[acL h1 fun b hb=>by simp_all];simp only[oq,if_true];exact⟨f a,l',rfl,(hf a).1,by simp[*],h3⟩
   ·have hne :¬a.key=gW k:=by grind[Ic]
    rw[Us hne];simp only[oq,if_neg e];obtain⟨b,hb,hbk⟩:=hex;refine⟨a,_,rfl,h1,h2,XR hr hf h3 n2 ⟨b,?_,hbk⟩⟩
    grind
theorem XQ{E:En}{k:List Int}{v:TV}{a:MapEntry}(ha:a.key=gW k)(hr:aP E v a.val):∀{es:List (List Int×TV)} {l:List MapEntry},jW E es l→(∀b∈l,b.key≠gW k)→jW E (oq es k v) (l++[a])
 | [],l,h,_=>by subst h;exact⟨a,[],rfl,ha,hr,rfl⟩
 | (k',v')::es,l,h,hn=>by
   obtain⟨b,l',rfl,h1,h2,h3⟩:=h;have e :¬k=k':=fun e=>hn b (by simp) (by rw[h1,e])
   simp only[oq,if_neg e,bg];exact⟨b,_,rfl,h1,h2,XQ ha hr h3 fun c hc=>hn c (gY _ hc)⟩
open Classical in
theorem XO{E:En}{k:List Int}:∀{es:List (List Int×TV)} {l:List MapEntry},jW E es l→jW E (aak es k) (l.filter fun a=>decide (a.key≠gW k))
 | [],l,h=>by subst h;rfl
 | (k',v')::es,l,h=>by
   obtain⟨b,l',rfl,h1,h2,h3⟩:=h;have ih:=XO (k:=k) h3;by_cases e:k=k'
   ·simp_all[aak,dI,if_neg]
   ·have hne :¬b.key=gW k:=by grind[Ic]
    simp only[aak,dI]at ih⊢;rw[if_pos (by grind),if_pos (by simp_all)];exact⟨b,_,rfl,h1,h2,ih⟩
theorem XP{E:En}:∀{es:List (List Int×TV)} {l:List MapEntry},jW E es l→l.length=es.length
 | [],l,h=>by simp_all[jW]
 | _::es,l,h=>by obtain⟨a,l',rfl,_,_,h3⟩:=h;simp[XP h3]
theorem JO{E:En}:∀{es:List (List Int×TV)} {l:List MapEntry},jW E es l→l.map (·.key)=es.map fun x=>gW x.1
 | [],l,h=>by simp_all[jW]
 | _::es,l,h=>by obtain⟨a,l',rfl,h1,_,h3⟩:=h;simp[h1,JO h3]
theorem Ie{E:En}:∀{es:List (List Int×TV)} {l:List MapEntry},jW E es l→∀a∈l,∃k v,(k,v)∈es∧a.key=gW k∧aP E v a.val
 | [],l,h,a,ha=>by simp_all[jW]
 | (k,v)::es,l,h,a,ha=>by
   obtain⟨b,l',rfl,h1,h2,h3⟩:=h;rcases aF.1 ha with rfl|ha
   ·grind
   ·obtain⟨k',v',g1,g2,g3⟩:=Ie h3 a ha
    grind
theorem XL:∀{es:List (List Int×TV)} {k:List Int} {v:TV},(es.map (·.1)).Nodup→(k,v)∈es→kJ es k=some v
 | (k',v')::es,k,v,hn,h=>by
   rw[aC,bG]at hn
   rcases aF.1 h with e|h
   ·obtain⟨rfl,rfl⟩:=e;simp[kJ]
   ·have :¬k=k':=fun e=>hn.1 (by simp_all)
    simp only[kJ,if_neg this];exact XL hn.2 h
section
variable {P:Program}
def Rl(P:Program)(kt:TypeId)(n:Nat):Bool:=
 match P.underlying kt with
 | some (.int _)=>n==1
 | some (.struct fs) => n != 1 && (fs.toList.length == n && (!P.stoodInHeld kt && (fs.toList.zipIdx.all fun f => f.1.name != "_" && (f.1.offset == f.2 && (lf P f.1.type == some 0 && qE P f.1.type == some false)))))
 | _=>false
theorem aox{kt:TypeId}{n:Nat}{q:IntKind}(hk:P.underlying kt=some (.int q))(h:Rl P kt n=true):n=1:=by simp_all[Rl,beq_iff_eq]
theorem FM{kt:TypeId}{n:Nat}(h:Rl P kt n=true):(n=1∧∃q,P.underlying kt=some (.int q))∨(n≠1∧∃fs,P.underlying kt=some (.struct fs)∧fs.toList.length=n∧P.stoodInHeld kt=false∧
  ∀ (i : Nat) (f : Field), fs.toList[i]? = some f → f.name ≠ "_" ∧ f.offset = i ∧ lf P f.type = some 0 ∧ qE P f.type = some false) := by
 unfold Rl at h;split at h
 ·simp_all
 ·rename_i fs hfs;simp only[aG,bne_iff_ne,ne_eq,beq_iff_eq,fB,bM]at h;obtain⟨h1,h2,h3,h4⟩:=h;refine .inr ⟨h1,fs,hfs,h2,h3,fun i f hf=>?_⟩;have hm:(f,i)∈fs.toList.zipIdx:=by
   rw[List.mem_zipIdx_iff_getElem?];simpa using hf
  obtain⟨g1,g2,g3,g4⟩:=h4 _ hm;exact⟨g1,g2,g3,g4⟩
 trivial
theorem CW{ks:List Int}(h:ks.length=1):∃k,ks = [k]∧gW ks = .int .i64 k:=by
 match ks,h with
 | [k],_=>exact⟨k,rfl,rfl⟩
theorem zS{ks:List Int}(h:ks.length≠1):gW ks = .agg (ks.map (Value.int .i64)).toArray:=by
 match ks,h with
 | [],_=>rfl
 | [_],h=>trivial
 | _::_::_,_=>rfl
theorem Bc{ty:TypeId}(hs:qE P ty=some false){ks:List Int}{i:Nat}(hi:i<ks.length)(w:World):(part ty (ks.map (Value.int .i64)).toArray i).run P w = .ok (.int .i64 ks[i]) w:=
 IV hs (by simp) w
theorem qR{kt:TypeId}{ks:List Int}(h:Rl P kt ks.length=true)(em:Bool)(w:World):(Instr.checkKey em 10000 kt (gW ks)).run P w = .ok () w:=by
 rcases FM h with⟨h1,q,hq⟩|⟨h1,fs,hfs,h2,_,h3⟩
 ·obtain⟨k,rfl,hv⟩:=CW h1;rw[hv];unfold Instr.checkKey;simp[Sem.run_bind,run_underlying hq]
 ·rw[zS h1];rw[show(10000:Nat)=9999+1 from rfl,Instr.checkKey];simp only[Sem.run_bind,run_underlying hfs,Result.andThen_ok];rw[←Array.forIn_toList];have each : ∀ f ∈ fs.toList, f.name ≠ "_" ∧ (part f.type (ks.map (Value.int .i64)).toArray f.offset).run P w = .ok (.int .i64 (ks.getD f.offset 0)) w ∧ ∀ n, (Instr.checkKey em 9999 f.type (.int .i64 n)).run P w = .ok () w := fun f hf => by
   obtain⟨i,hi,he⟩:=lK hf;obtain⟨g1,g2,g3,g4⟩:=h3 i f (by rw[aj hi,he]);refine⟨g1,?_,fun n=>?_⟩
   ·have hil:i<ks.length:=by omega
    rw[g2,Bc g4 hil,aK,aj hil];rfl
   ·obtain⟨q,hq⟩:=Ii.1 g3;rw[show(9999:Nat)=9998+1 from rfl,Instr.checkKey];simp[Sem.run_bind,run_underlying hq]
  generalize fs.toList=L at each;clear h2 h3 hfs
  induction L with
  | nil=>simp
  | cons f L ih=>obtain⟨hn,hp,hc⟩:=each f (by simp);simp only[List.forIn_cons,Sem.run_bind,hn,ne_eq,not_false_eq_true,if_true,Result.andThen_ok,hp,hc,Sem.run_pure];exact ih (fun y hy=>each y (by simp[hy]))
theorem aa1{kt:TypeId}{n:Nat}(h:Rl P kt n=true){a b:List Int}(ha:a.length=n)(hb:b.length=n)(w:World):(Op.equal kt (gW a) (gW b)).run P w = .ok (decide (a=b)) w:=by
 rcases FM h with⟨rfl,q,hq⟩|⟨h1,fs,hfs,h2,hst,h3⟩
 ·obtain⟨k,rfl,hv⟩:=CW ha;obtain⟨k',rfl,hv'⟩:=CW hb;rw[hv,hv'];have:=run_equalIn_int (P:=P) w 9999 kt .i64 q k k' hq;rw[show(Op.equal kt (Value.int .i64 k) (.int .i64 k'))=Op.equalIn (9999+1) kt (.int .i64 k) (.int .i64 k') from rfl,this]
  congr 1
  grind
 ·rw[zS (by omega),zS (by omega)];rw[show(Op.equal kt (.agg (a.map (Value.int .i64)).toArray) (.agg (b.map (Value.int .i64)).toArray))=Op.equalIn (9999+1) kt (.agg (a.map (Value.int .i64)).toArray) (.agg (b.map (Value.int .i64)).toArray) from rfl];have hfo:P.fieldsOf kt=fs:=by simp_all[Program.fieldsOf]
  rw[run_equalIn_agg w 9999 kt _ _ (by simp[*]) hst,hfo];have key:∀(L:List Field) (i:Nat),(∀j f,L[j]? = some f→fs.toList[i+j]? = some f)→i+L.length=n→
    (Op.eqFields 9999 (a.map (Value.int .i64)).toArray (b.map (Value.int .i64)).toArray L).run P w = .ok (decide (a.drop i=b.drop i)) w:=fun L=>by
   induction L with
   | nil=>simp_all[dh,Nat.add_zero,g_,Op.eqFields]
   | cons f L ih=>
     intro i hL hi;simp only[aH]at hi;obtain⟨g1,g2,g3,g4⟩:=h3 i f (by simpa using hL 0 f rfl);have hia:i<a.length:=by omega
     have hib:i<b.length:=by omega
     obtain⟨q,hq⟩:=Ii.1 g3;have p1:=Bc g4 hia w;have p2:=Bc g4 hib w;have p3:=run_equalIn_int (P:=P) w 9998 f.type .i64 q a[i] b[i] hq;have p4:=ih (i+1) (fun j f hj=>by have:=hL (j+1) f (by simpa using hj);rwa [show i+(j+1)=i+1+j by omega]at this) (by omega);have e1:(decide (a.drop i=b.drop i))=(decide (a[i]=b[i])&&decide (a.drop (i+1)=b.drop (i+1))):=by rw[←Bool.decide_and];refine decide_eq_decide.2 ?_;rw[cZ hia,cZ hib,dR]
     rw[e1];generalize a[i]=x at p1 p3;generalize b[i]=y at p2 p3;rw[show(9998+1:Nat)=9999 from rfl]at p3
     by_cases e:x=y
     ·subst e;simp only[beq_self_eq_true]at p3;simp[Op.eqFields,g1,g2,p1,p2,p3,p4]
     ·have e2:(x==y)=false:=by simpa using e
      rw[e2]at p3
      simp[Op.eqFields,g1,g2,p1,p2,p3,e]
  have:=key fs.toList 0 (fun j f hj=>by simpa using hj) (by omega)
  trivial
theorem Kw{kt:TypeId}{n:Nat}(h:Rl P kt n=true){k:List Int}(hk:k.length=n)(w:World):∀(l:List MapEntry),(∀a∈l,∃k':List Int,k'.length=n∧a.key=gW k')→
  ((Instr.findKey kt (gW k) l).run P w = .ok none w∧∀a∈l,a.key≠gW k)∨∃j a,(Instr.findKey kt (gW k) l).run P w = .ok (some (j,a.val)) w∧l[j]? = some a∧a.key=gW k:=by
 have ask:∀(l:List MapEntry) (i:Nat),(∀a∈l,∃k':List Int,k'.length=n∧a.key=gW k')→
   ((Instr.findAsking kt (gW k) l i).run P w = .ok none w∧∀a∈l,a.key≠gW k)∨∃j a,(Instr.findAsking kt (gW k) l i).run P w = .ok (some (i+j,a.val)) w∧l[j]? = some a∧a.key=gW k:=fun l=>by
  induction l with
  | nil=>simp[Instr.findAsking]
  | cons a l ih=>
    intro i hl;obtain⟨k',h1,h2⟩:=hl a (by simp);have he:=aa1 h hk h1 w;rw[←h2]at he
    by_cases e:k=k'
    ·subst e;refine .inr ⟨0,a,?_,rfl,h2⟩
     simp_all[Instr.findAsking,Sem.run_bind]
    ·have hne:a.key≠gW k:=by grind[Ic]
     rcases ih (i+1) (fun b hb=>hl b (by simp[*]))with⟨g1,g2⟩|⟨j,b,g1,g2,g3⟩
     ·refine .inl ⟨?_,fun b hb=>?_⟩
      ·simp_all[Instr.findAsking,Sem.run_bind]
      grind
     ·refine .inr ⟨j+1,b,?_,by simpa using g2,g3⟩;unfold Instr.findAsking;simp only[Sem.run_bind,he,e,decide_false,Result.andThen_ok,eu,if_false,g1]
      congr 3
      omega
 intro l hl;unfold Instr.findKey;rcases FM h with⟨h1,q,hq⟩|⟨h1,fs,hfs,_⟩
 ·subst h1;obtain⟨x,rfl,hv⟩:=CW hk;rw[hv];have now:∀(l:List MapEntry) (i:Nat),(∀a∈l,∃k':List Int,k'.length=1∧a.key=gW k')→
    (Instr.findNow (.int q) (.int .i64 x) l i=some none∧∀a∈l,a.key≠.int .i64 x)∨∃j a,Instr.findNow (.int q) (.int .i64 x) l i=some (some (i+j,a.val))∧l[j]? = some a∧a.key = .int .i64 x:=fun l=>by
   induction l with
   | nil=>intro i _;exact .inl ⟨rfl,by simp⟩
   | cons a l ih=>
     intro i hl;obtain⟨k',h1,h2⟩:=hl a (by simp);obtain⟨y,rfl,hv'⟩:=CW h1;rw[hv']at h2
     by_cases e:x=y
     ·subst e;exact .inr ⟨0,a,by simp[Instr.findNow,Instr.sameNow,h2],rfl,h2⟩
     ·have hne:(x==y)=false:=by simpa using e
      have hk2:a.key≠.int .i64 x:=by rw[h2];simpa using fun h:y=x=>e h.symm
      rcases ih (i+1) (fun b hb=>hl b (by simp[hb]))with⟨g1,g2⟩|⟨j,b,g1,g2,g3⟩
      ·refine .inl ⟨by simp[Instr.findNow,Instr.sameNow,h2,hne,g1],fun b hb=>?_⟩;rcases aF.1 hb with rfl|hb
       ·exact hk2
       ·exact g2 b hb
      ·refine .inr ⟨j+1,b,?_,by simpa using g2,g3⟩;simp only[Instr.findNow,Instr.sameNow,h2,if_true,hne,g1]
       congr 3
       omega
  rcases now l 0 hl with⟨g1,g2⟩|⟨j,a,g1,g2,g3⟩
  ·exact .inl ⟨by simp[Sem.run_bind,run_underlying hq,g1],g2⟩
  ·exact .inr ⟨j,a,by simp[Sem.run_bind,run_underlying hq,g1],g2,g3⟩
 ·have hag:gW k = .agg (k.map (Value.int .i64)).toArray:=zS (by omega);rcases l with _|⟨a,l⟩
  ·exact .inl ⟨by simp[Sem.run_bind,run_underlying hfs,Instr.findNow],by simp⟩
  ·have hno:Instr.findNow (.struct fs) (gW k) (a::l) 0=none:=by
    simp[Instr.findNow,Instr.sameNow,hag]
   rcases ask (a::l) 0 hl with⟨g1,g2⟩|⟨j,b,g1,g2,g3⟩
   ·refine .inl ⟨?_,g2⟩;simp only[Sem.run_bind,run_underlying hfs,Result.andThen_ok,hno];exact g1
   ·refine .inr ⟨j,b,?_,g2,g3⟩;simp only[Sem.run_bind,run_underlying hfs,Result.andThen_ok,hno];simpa using g1
end
end Go.Tr
