/-
  What functions of the program compute, stated as contracts over plain data; the conditions of each stand in its own statement.
-/
import Derived.Test.YtboimfkommpglaaGreatDoorZB01
set_option linter.unusedSimpArgs false
namespace Go.Tr
open Go
section
variable {P:Program} {A:jL}
theorem iI.newRow{t:S}{a:Act}{E:En}(hi:iI A t a E){d:Nat}(hd:t (.o d) = .none)(e k:Nat):
  ∃E':En,E'.w=E.w∧uG E E'∧iI A (upd t (.o d) (.row e k [] false)) a E'∧E'.val d=some (k,0,.slice none 0 0):=by
 have hfree:=hi.h.item (.o d) (by simp);rw[hd]at hfree
 obtain⟨hb0,hv0⟩:=hfree d rfl
 let E':En:={E with val:=fun i=>if i=d then some (k,0,.slice none 0 0)else E.val i}
 have hv':E'.val d=some (k,0,.slice none 0 0):=by simp[E']
 have x:uG E E':=by
  refine⟨fun _ _ h=>h,fun _ _ _=>rfl,fun _ _ _ h=>h,fun _ _ h=>h,fun _ _ h=>h,fun i k' c u _ hu=>?_⟩;by_cases e:i=d
  ·subst e;rw[hv0]at hu;simp at hu
  ·exact⟨c,u,by simp[E',e,hu],aI _,fun _=>rfl⟩
 have hown:E'.own (.o d)=none:=by simp[En.own,E',hb0,Value.ownBlock]
 have hH:pX E' (upd t (.o d) (.row e k [] false)):=by
  refine hi.h.change (by simp) x (fun b o h=>.inl h) (fun q hq=>rfl) (fun i hne=>?_) (aI _) (fun q b hq hb=>rfl) (fun b hb=>?_) ⟨hb0,d,.slice none 0 0,[],rfl,hv',World.ownsRow_nil _ _ _ _,trivial⟩ (fun b o hs hb=>?_)
  ·have hne':i≠d:=fun e=>hne (by rw[e])
   simp[E',hne']
  ·rw[hown]at hb;simp at hb
  ·rw[hown]at hb;simp at hb
 refine⟨E',rfl,x,hi.step hH x (hi.fr.next rfl rfl rfl (aI _) (fun _ _ _ _=>rfl) (fun _=>rfl) (fun i b hb=>?_) (fun _ _ h=>h) (fun _ _ h=>.inl h)) (fun k=>E8 (by simp) k),hv'⟩;by_cases e:i=d
 ·subst e;rw[hown]at hb;simp at hb
 ·have:E'.own (.o i)=E.own (.o i):=En.qB rfl (fun j hj=>by simp only[Pl.o.injEq]at hj;subst hj;simp[E',e]);rw[this]at hb;exact .inl hb
theorem Qi{w:World}{base t e:Nat}{ty:TypeId}{inf:TypeInfo}(ht:P.underlying t=some (.slice e))(hi:P.info? e=some inf){v:Value}{n size:Nat}{xs:List Value}
  (hown:w.ownsRow base e size v n xs) (ad:Option Addr) (c:Nat):(Builtin.append_ #[t,t] ty #[v,.slice ad 0 c]).run P w = .ok v w:=by
 rcases hown.2 with⟨rfl,rfl⟩|⟨g,cap,cur,rfl,_,_,hnc,_⟩
 ·cases ad<;>simp[Builtin.append_,run_underlying ht,sizeOf,typeInfo,hi,Builtin.lenOf,Builtin.firstCells,loadCells,loadCellsFrom]
 ·cases ad<;>simp[Builtin.append_,run_underlying ht,sizeOf,typeInfo,hi,Builtin.lenOf,Builtin.firstCells,hnc,storeCells,loadCells,loadCellsFrom]
theorem cells_of_row{w:World}{base k n b:Nat}{e:TypeId}{v:Value}{xs:List Value}(h:w.ownsRow base e k v n xs)(hb:v.ownBlock=some b):∃cur,w.heap[b]? = some (.cells cur e (0,0)):=by
 rcases h.2 with⟨rfl,_⟩|⟨g,cap,cur,rfl,_,hg,_⟩
 ·simp[Value.ownBlock]at hb
 ·simp[Value.ownBlock]at hb;subst hb;exact⟨cur,hg⟩
inductive Src (t:S):TV→List Pl→List (List TV)→Prop
 | sl (ys:List (List D)):Src t (.d (.sl ys)) [] (ys.map (·.map .d))
 | nil (ad:Option Addr) (c:Nat):Src t (.c (.slice ad 0 c)) [] []
 | row (id e k:Nat) (es:List (List TV)) (sh:Bool) (h:t (.o id) = .row e k es sh):Src t (.bK id es.length) [.o id] es
theorem Src.rel{t:S}{y:TV}{rp:List Pl}{ys:List (List TV)}(h:Src t y rp ys){k:Nat}(hk:∀e∈ys,e.length=k){t':S}(hr:∀p∈rp,t' p=t p){a:Act}{E:En}(hi:iI A t' a E){u:Value}(hu:aV E y u):
  ∃ad c news,u = .slice ad ys.length c∧news.length=ys.length*k∧iJ E news k 0 ys∧(∀v∈news,v.oneCell'=true)∧
   (ys.length=0∨∃a0,ad=some a0∧∀j v,news[j]? = some v→E.w.cell? (a0.add j)=some v):=by
 cases h with
 | sl ys=>
   simp only[aV,Rep]at hu;rcases hu with⟨h0,ad,c,rfl⟩|⟨b,o,c,k',rfl,hc,hrows⟩
   ·have:ys = []:=eF h0;subst this;exact⟨ad,c,[],rfl,by simp,trivial,by simp,.inl rfl⟩
   ·-- gather the values
    have key:∀(ys:List (List D)) (o:Nat),(∀e∈ys,e.length=k)→mV E b k' o ys→∃news:List Value,news.length=ys.length*k∧E.w.rangeAt b o news∧
      (∀us o',(∀j v,news[j]? = some v→us[o'+j]? = some v)→iJ E us k o' (ys.map (·.map .d)))∧(∀v∈news,v.oneCell'=true):=by
     intro ys
     induction ys with
     | nil=>exact fun o _ _=>⟨[],by simp,fun j v h=>by simp at h,fun us o' _=>trivial,by simp⟩
     | cons y ys ih=>
       intro o hl hrow;simp only[mV]at hrow;obtain⟨hy,hcell,hrest⟩:=hrow;have hyk:y.length=k:=hl y (by simp);obtain⟨us0,h1,h2,h3⟩:=hcell.range;obtain⟨news,h4,h5,h6,h7⟩:=ih (o+k') (fun e he=>hl e (by simp[he])) hrest;refine⟨us0++news,by simp[h1,h4,hyk,dX];omega,fun j v hj=>?_,fun us o' hus=>⟨by simp[hyk],?_,?_⟩,fun v hv=>?_⟩
       ·by_cases hlt:j<us0.length
        ·rw[cZ hlt]at hj;exact h2 j v hj
        ·rw[dh (by omega)]at hj
         have:=h5 _ _ hj
         rwa [show o+k'+(j-us0.length)=o+j by omega]at this
       ·refine eP.lq fun i tv hi'=>?_
        obtain⟨u,h8,h9⟩:=h3.get hi';have hone:tv.one=true:=by simp only[bC,fV]at hi';obtain⟨x,_,rfl⟩:=hi';rfl
        exact⟨u,hus i u (by rw[cZ (aA.1 h8).1];exact h8),h9.one hone,h9⟩
       ·refine h6 us (o'+k) fun j v hj=>?_
        have:=hus (us0.length+j) v (by rw[dh (by omega)];simpa using hj)
        rwa [h1,hyk,←aX]at this
       ·rcases aJ.1 hv with hv|hv
        ·obtain⟨i,hi',rfl⟩:=jC hv;have hlt:i<(y.map TV.d).length:=by rw[aN,←h1];exact hi'
         obtain⟨u,h8,h9⟩:=h3.get (i:=i) (t:=(y.map TV.d)[i]) (by rw[ah hlt]);rw[ah hi']at h8
         simp only[aj]at h8;subst h8;exact h9.one (by simp[TV.one])
        ·exact h7 v hv
    obtain⟨news,h4,h5,h6,h7⟩:=key ys o (fun e he=>by simpa using hk (e.map .d) (by simp;exact⟨e,he,rfl⟩)) hrows;refine⟨some ⟨b,o,none⟩,c,news,by simp,by simpa using h4,h6 news 0 (fun j v h=>by simpa using h),h7,.inr ⟨_,rfl,fun j v hj=>?_⟩⟩;rw[qK];exact h5 j v hj
 | nil ad c=>simp only[aV]at hu;exact⟨ad,c,[],hu,by simp,trivial,by simp,.inl rfl⟩
 | row id e k' es sh h=>
   have ht':t' (.o id) = .row e k' ys sh:=(hr _ (by simp)).trans h;obtain⟨_,v,us,h1,h2,h3,h4⟩:=Bg hi ht';have hv:=h4 _ hu;subst hv;rcases h2.2 with⟨rfl,h5⟩|⟨g,cap,cur,h6,hb,hg,hnc,hcm,hcs,htake⟩
   ·have:ys = []:=eF h5;subst this;exact⟨none,0,[],rfl,by simp,trivial,by simp,.inl rfl⟩
   ·subst h6;by_cases h0:ys.length=0
    ·have:ys = []:=eF h0;subst this;exact⟨_,cap,[],rfl,by simp,trivial,by simp,.inl rfl⟩
    ·have hkk:k'=k:=by
      have hm:0<ys.length:=by omega
      have:=(h3.get (i:=0) (e:=ys[0]) (by simp[hm])).1;rw[←this];exact hk _ (by simp)
     subst hkk;refine⟨_,cap,us,rfl,h2.1,h3,fun u hu'=>?_,.inr ⟨_,rfl,fun j v hj=>?_⟩⟩
     ·obtain⟨j,hj,rfl⟩:=jC hu';have hjl:j<ys.length*k':=by rw[←h2.1];exact hj
      have hk0:0<k':=by
       rcases Nat.eq_zero_or_pos k' with h|h
       ·subst h;simp at hjl
       ·exact h
      have hdiv:j/k'<ys.length:=(Nat.div_lt_iff_lt_mul hk0).2 hjl;obtain⟨hl,hc⟩:=h3.get (i:=j/k') (e:=ys[j/k']) (by simp[hdiv]);have hmod:j%k'<(ys[j/k']).length:=by rw[hl];exact Nat.mod_lt _ hk0
      obtain⟨u,h7,h8,_⟩:=hc.get (i:=j%k') (t:=(ys[j/k'])[j%k']) (by simp[hmod]);rw[show 0+j/k'*k'+j%k'=j by rw[dR,Nat.mul_comm];exact Nat.div_add_mod j k']at h7
      rw[ah hj]at h7
      simp only[aj]at h7;rw[h7];exact h8
     ·exact h2.cells (g:=g) (by simp[Value.ownBlock]) j v hj
theorem iJ.app{E:En}{us vs:List Value}{k:Nat}:∀{o:Nat} {es ys:List (List TV)},us.length=o+es.length*k→iJ E us k o es→iJ E vs k 0 ys→iJ E (us++vs) k o (es++ys):=by
 intro o es ys hl h1 h2;refine iJ.lq fun i e he=>?_
 by_cases hi:i<es.length
 ·rw[cZ hi]at he
  obtain⟨h3,h4⟩:=h1.get he;refine⟨h3,eP.lq fun j tv hj=>?_⟩;obtain⟨u,h5,h6⟩:=h4.get hj;exact⟨u,by rw[cZ (aA.1 h5).1];exact h5,h6⟩
 ·rw[dh (by omega)]at he
  obtain⟨h3,h4⟩:=h2.get he;refine⟨h3,eP.lq fun j tv hj=>?_⟩;obtain⟨u,h5,h6⟩:=h4.get hj;refine⟨u,?_,h6⟩;have hm:i*k=es.length*k+(i-es.length)*k:=by rw[←dX];congr 1;omega
  rw[dh (by rw[hl,hm];omega),hl,hm];simp only[dR]at h5;rw[←h5];congr 1;omega
theorem Qh{w:World}{base t e:Nat}{ty:TypeId}{inf:TypeInfo}{z:Value}{size bytes:Nat}(ht:P.underlying t=some (.slice e))(hi:P.info? e=some inf)(hz:inf.zero=some z)
  (hsize:inf.size=size) (hby:inf.bytes=bytes) (hzs:z.cells.size=size) {v:Value} {n:Nat} {xs:List Value} (hown:w.ownsRow base e size v n xs)
  {a:Addr} {m c:Nat} {news:List Value} (hm:0<m) (hl:news.length=m*size) (hnews:∀j u,news[j]? = some u→w.cell? (a.add j)=some u) (h1:∀u∈news,u.oneCell'=true)
  (h63:n+m≤maxLen) (hbytes:(n+m)*bytes≤140737488355328) (hbase:base≤w.heap.size) :
  ∃v' w',(Builtin.append_ #[t,t] ty #[v,.slice (some a) m c]).run P w = .ok v' w'∧w'.ownsRow base e size v' (n+m) (xs++news)∧v'.oneCell'=true∧
   ((v'.ownBlock=v.ownBlock∧w.grownBy w' v.ownBlock)∨(v'.ownBlock=some w.heap.size∧w.grownBy w' none)):=by
 subst hsize;subst hby;have hsmall:n+m≤9223372036854775807:=by simp only[maxLen]at h63;omega
 have hlen:(xs++news).length=(n+m)*inf.size:=by rw[aS,hown.1,hl,dX]
 have grown:∀(old:Nat),old<n+m→
   (w.drew.alloc (.cells (xs.toArray++news.toArray++Builtin.zeroCells z.cells (grownCap w (n+m) old e-(n+m))) e)).ownsRow base e inf.size
    (.slice (some ⟨w.heap.size,0,none⟩) (n+m) (grownCap w (n+m) old e)) (n+m) (xs++news)∧
   w.grownBy (w.drew.alloc (.cells (xs.toArray++news.toArray++Builtin.zeroCells z.cells (grownCap w (n+m) old e-(n+m))) e)) none:=by
  intro old ho;have hge:=grownCap_ge w (n+m) old e;have hcm:grownCap w (n+m) old e≤maxLen:=grownCap_le_maxLen w (n+m) old e h63;refine⟨⟨hlen,.inr ⟨w.heap.size,_,_,rfl,hbase,heap_alloc_new w.drew _,hge,hcm,?_,?_⟩⟩,⟨rfl,rfl,rfl,by simp,fun k hk _=>(by first|exact heap_alloc_old w.drew _ k hk|exact heap_alloc_old w.drew _ hk)⟩⟩
  ·simp only[Array.size_append,qQ,size_zeroCells,hzs,hown.1,hl,←dX]
   congr 1
   omega
  ·simp only[Array.toList_append,eU];rw[←eU,←hlen];exact List.take_left
 rcases hown.2 with⟨rfl,rfl⟩|⟨g,cap,cur,rfl,hbg,hg,hnc,hcm,hcs,htake⟩
 ·have hx:xs = []:=eF (by simpa using hown.1);subst hx;have hr:=run_append_nil (P:=P) w t ty e inf z ht hi hz a m c news hl hnews (by omega) (by omega) (by have hb:=hbytes;simp only[dR]at hb;omega);have hgr:=grown 0 (by omega);simp only[dR,gW,iF]at hgr⊢;exact⟨_,_,hr,hgr.1,rfl,.inr ⟨rfl,hgr.2⟩⟩
 ·by_cases hroom:n+m≤cap
  ·have hfit:n*inf.size+news.length≤cur.size:=by rw[hl,hcs,←dX];exact f_ _ hroom
   have hr:=run_append_room (P:=P) w t ty e inf ht hi g n cap cur hg a m c news hl hnews h1 hroom hfit;refine⟨_,_,hr,⟨hlen,.inr ⟨g,cap,_,rfl,hbg,setRow_heap w g cur _ e _ hg,hroom,hcm,?_,?_⟩⟩,rfl,.inl ⟨rfl,⟨rfl,rfl,rfl,by simp,fun k _ hk=>setRow_other w g k _ (fun e=>hk (by simp[Value.ownBlock,e]))⟩⟩⟩
   ·simp only[qQ,aS,bF,kZ,iZ];omega
   ·rw[htake,←hlen];exact List.take_left
  ·have holds:∀j u,xs[j]? = some u→w.cell? ((⟨g,0,none⟩:Addr).add j)=some u:=hown.cells (g:=g) rfl;have hr:=run_append_grow (P:=P) w t ty e inf z ht hi hz ⟨g,0,none⟩ n cap xs hown.1 holds a m c news hl hnews (by omega) (by omega) (growslice_fits (by omega) hbytes);have hgr:=grown cap (by omega);exact⟨_,_,hr,hgr.1,rfl,.inr ⟨rfl,hgr.2⟩⟩
theorem iI.append{t:S}{a:Act}{E:En}(hi:iI A t a E){id e k b:Nat}{es:List (List TV)}{sh:Bool}(ht:t (.o id) = .row e k es sh){sty ty:TypeId}(he:wI P sty=some e)(hk:qp P e=some k)(hb:Ky P e=some b)
  {z:Value} (hz:wS P e=some z) (hzs:(o9 z).length=k) (_hk0:0<k) {u:Value} (hu:aV E (.bK id es.length) u)
  {ys:List (List TV)} {ad:Option Addr} {c:Nat} {news:List Value} (hnl:news.length=ys.length*k) (hrow:iJ E news k 0 ys) (hone:∀v∈news,v.oneCell'=true)
  (hsrc:ys.length=0∨∃a0,ad=some a0∧∀j v,news[j]? = some v→E.w.cell? (a0.add j)=some v)
  (hroom:(es.length+ys.length)*b≤140737488355328) (G8:es.length+ys.length≤9223372036854775807) :
  ∃(v':Value) (E':En),(Builtin.append_ #[sty,sty] ty #[u,.slice ad ys.length c]).run P E.w = .ok v' E'.w∧iI A (upd t (.o id) (.row e k (es++ys) sh)) a E'∧aV E' (.bK id (es.length+ys.length)) v':=by
 obtain⟨hblk,v,us,hval,hown,hrel,hcur⟩:=Bg hi ht;have hv:=hcur _ hu;subst hv;unfold wI at he;split at he
 rotate_left
 ·simp at he
 rename_i e' hun;simp only[aj]at he;subst he;unfold qp at hk;unfold Ky at hb;unfold wS at hz;cases mG:P.info? e' with
 | none=>simp[mG]at hk
 | some inf=>
 simp only[mG,dF,aj,dH]at hk hb hz;have hzc:z.cells.size=k:=by rw[←hzs,vH];simp
 have oK:E.own (.o id)=u.ownBlock:=by simp[En.own,hblk,hval]
 have hone':∀(E':En) (v':Value),E'.val id=some (k,(es++ys).length,v')→v'.oneCell'=true→aV E' (.bK id (es.length+ys.length)) v':=fun E' v' h1 h2=>by simp only[aV];exact⟨h2,k,_,v',h1,by simp,fun _=>rfl⟩
 rcases Nat.eq_zero_or_pos ys.length with h0|hpos
 ·have hys:ys = []:=eF h0;subst hys;refine⟨u,E,by simpa using Qi (P:=P) (ty:=ty) hun mG hown ad c,?_,by simpa using hu⟩;have:upd t (.o id) (.row e' k (es++[]) sh)=t:=by
   funext p;by_cases hp:p = .o id
   ·subst hp;simp[upd,ht]
   ·simp[upd,hp]
  rw[this];exact hi
 ·rcases hsrc with h0|⟨a0,rfl,hcells⟩
  ·omega
  obtain⟨v',w',hrun,hown',hv1,hob⟩:=Qh (P:=P) (ty:=ty) (c:=c) hun mG hz hk hb hzc hown hpos hnl hcells hone
   (by simp only[maxLen];omega) hroom (og _)
  have Oz:E.w.grownBy w' u.ownBlock:=hob.elim (fun h=>h.2) (fun h=>⟨h.2.os,h.2.tape,h.2.output,h.2.size,fun i hi _=>h.2.block i hi (by simp)⟩);have anm:∀b o,E.St b o→U0 w' b o=U0 E.w b o:=fun b o hst=>by
   rcases hob with⟨hb',_⟩|⟨_,hg⟩
   ·by_cases e:E.own (.o id)=some b
    ·obtain⟨e2,k2,es2,h1,h2⟩:=hi.h.sep _ _ hst _ e;rw[ht]at h1
     simp only[It.row.injEq]at h1;obtain⟨rfl,rfl,rfl,_⟩:=h1;rw[oK]at e
     have hlt:o<us.length:=by rw[hown.1];exact h2
     have hold:=hown.cells e o _ (ah hlt);rw[qK,dR]at hold
     have hnew:=hown'.cells (hb'.trans e) o us[o] (by rw[cZ hlt];exact ah hlt);rw[qK,dR]at hnew
     obtain⟨c1,q2⟩:=cells_of_row hown e;obtain⟨c2,q4⟩:=cells_of_row hown' (hb'.trans e);exact YL q2 q4 (by rw[hold,hnew])
    ·rw[oK]at e
     exact jV (Oz.block b (hi.h.uP _ _ hst) (fun e'=>e e'.symm))
   ·exact jV (hg.block b (hi.h.uP _ _ hst) (by simp))
  obtain⟨E',hw',x,hinv,hval'⟩:=hi.QL ht (es':=es++ys) (sh':=sh) hval Oz (by simpa using hown') (by simp) (fun h=>by simp at h;subst h;simp at hpos) (hob.imp (fun h=>h.1) (fun h=>h.1))
   anm (fun h=>h) (fun E' _ x=>iJ.app (by simpa using hown.1) (hrel.up x) (hrow.up x))
  exact⟨v',E',by rw[hw'];exact hrun,hinv,hone' E' v' hval' hv1⟩
end
end Go.Tr

namespace Go.Tr
open Go
section
variable {P:Program} {A:jL}
theorem aj2(t:S)(p:Pl)(i j:It):upd (upd t p i) p j=upd t p j:=by grind[upd]
def KI(k b n:Nat)(ys:List (List TV)):Prop:=(∀e∈ys,e.length=k)∧(n+ys.length)*b≤140737488355328∧n+ys.length≤9223372036854775807
theorem CQ{o:Oper}{x y:Operand}{sty:TypeId}(ho:o.op = .call {callee:=.builtin .append,args:=#[x,y],argTypes:=#[sty,sty]}){a:Act}{w w':World}{v:Value}
  (h:(Builtin.append_ #[sty,sty] o.type #[a.eval x,a.eval y]).run P w = .ok v w'):(execOp a.eval o).run P w = .ok (.value v) w':=by
 simp[execOp,ho,resolve,invoke,builtin,h]
theorem RQ{o:Oper}{t:S}{x y:Operand}{sty:TypeId}{id n e k b:Nat}{es ys:List (List TV)}{sh:Bool}{rp:List Pl}{z:Value}
  (ho:o.op = .call {callee:=.builtin .append,args:=#[x,y],argTypes:=#[sty,sty]}) (hx:ev t x = .bK id n) (ht:t (.o id) = .row e k es sh) (hs:Src t (ev t y) rp ys)
  (he:wI P sty=some e) (hk:qp P e=some k) (hb:Ky P e=some b) (hz:wS P e=some z) (hzs:(o9 z).length=k) (hk0:0<k) :
  jD P A o t ⟨n=es.length∧KI k b n ys,pl x++(pl y++(.o id::rp)),[(.o id,.row e k (es++ys) sh)],.bK id (n+ys.length)⟩:=fun⟨hn,hlen,hroom,G8⟩ t' hr a E hi=>by
 have hx':=dS hi x;rw[fZ (dw hr),hx]at hx'
 have hy':=dS hi y;rw[fZ (dw (bg hr))]at hy'
 have hr3:=bg (bg hr);have ht':t' (.o id) = .row e k es sh:=by simp[*]
 subst hn;obtain⟨ad,c,news,hu,hnl,hrow,hone,hsrc⟩:=hs.rel hlen (fun p hp=>hr3 p (by simp[*])) hi hy';obtain⟨v',E',hrun,hinv,hrel⟩:=hi.append ht' he hk hb hz hzs hk0 hx' (ty:=o.type) (c:=c) hnl hrow hone hsrc hroom G8;exact⟨_,v',E',CQ ho (by simp[*]),.inl rfl,hinv,hrel⟩
theorem RN{o:Oper}{t:S}{x y:Operand}{sty:TypeId}{d e k b:Nat}{ys:List (List TV)}{rp:List Pl}{z:Value}
  (ho:o.op = .call {callee:=.builtin .append,args:=#[x,y],argTypes:=#[sty,sty]}) (hx:ev t x = .c (.slice none 0 0)) (hs:Src t (ev t y) rp ys)
  (he:wI P sty=some e) (hk:qp P e=some k) (hb:Ky P e=some b) (hz:wS P e=some z) (hzs:(o9 z).length=k) (hk0:0<k) :
  jD P A o t ⟨t (.o d) = .none∧KI k b 0 ys,pl x++(pl y++(.o d::rp)),[(.o d,.row e k ys false)],.bK d ys.length⟩:=fun⟨hd,hlen,hroom,G8⟩ t' hr a E hi=>by
 have hx':=dS hi x;rw[fZ (dw hr),hx]at hx'
 have hy':=dS hi y;rw[fZ (dw (bg hr))]at hy'
 have hr3:=bg (bg hr);have hd':t' (.o d) = .none:=by simp[*]
 obtain⟨ad,c,news,hu,hnl,hrow,hone,hsrc⟩:=hs.rel hlen (fun p hp=>hr3 p (by simp[*])) hi hy';obtain⟨E1,hw1,x1,hi1,hv1⟩:=hi.newRow hd' e k;have hnil:aV E1 (.bK d ([]:List (List TV)).length) (a.eval x):=by exact⟨by rw[hx'];rfl,k,0,_,hv1,aI _,fun _=>hx'⟩
 obtain⟨v',E',hrun,hinv,hrel⟩:=hi1.append (upd_same _ _ _) he hk hb hz hzs hk0 hnil (ty:=o.type) (c:=c) hnl (hrow.up x1) hone (by rw[hw1];omega) (by omega) (by omega);rw[aj2]at hinv
 refine⟨_,v',E',CQ ho (by simp_all),.inl rfl,by trivial,by simp_all⟩
def I_:TV→Option D
 | .d x=>some x
 | .c (.slice none 0 0)=>some (.sl [])
 | _=>none
def rJ:List TV→Option (List D)
 | []=>some []
 | t::ts=>match I_ t,rJ ts with
   | some x,some xs=>some (x::xs)
   | _,_=>none
def dd(xs:List (List D)):List (List TV):=xs.map (·.map .d)
def iH:List (List TV)→Option (List (List D))
 | []=>some []
 | e::es=>match rJ e,iH es with
   | some x,some xs=>some (x::xs)
   | _,_=>none
theorem YC{E:En}{t:TV}{x:D}(h:I_ t=some x){u:Value}(hr:aV E t u):Rep E x u:=by
 unfold I_ at h;split at h
 ·grind[aV]
 ·simp only[aj]at h;subst h;simp only[aV]at hr;simp only[Rep];simp[*]
 trivial
theorem Nw{ts:List TV}{xs:List D}(h:rJ ts=some xs):xs.length=ts.length∧∀(i:Nat) (x:D),xs[i]? = some x→∃t,ts[i]? = some t∧I_ t=some x:=by
 induction ts generalizing xs with
 | nil=>grind[rJ]
 | cons t ts ih=>
   simp only[rJ]at h
   grind
theorem Ja{es:List (List TV)}{xs:List (List D)}(h:iH es=some xs):xs.length=es.length∧∀(i:Nat) (x:List D),xs[i]? = some x→∃e,es[i]? = some e∧rJ e=some x:=by
 induction es generalizing xs with
 | nil=>grind[iH]
 | cons t ts ih=>
   simp only[iH]at h
   grind
theorem iI.freeze{t:S}{a:Act}{E:En}(hi:iI A t a E){id e k:Nat}{es:List (List TV)}{sh:Bool}(ht:t (.o id) = .row e k es sh){xs:List (List D)}(hx:iH es=some xs):
  ∃E':En,E'.w=E.w∧uG E E'∧E'.blk=E.blk∧E'.val=E.val∧iI A (upd t (.o id) (.row e k es true)) a E'∧(∀u,aV E (.bK id es.length) u→Rep E' (.sl xs) u)∧
   (∀b o,E'.St b o→E.St b o∨E.own (.o id)=some b):=by
 obtain⟨hblk,v,us,hval,hown,hrel,hcur⟩:=Bg hi ht;have oK:E.own (.o id)=v.ownBlock:=by grind[En.own]
 obtain⟨hxl,hxg⟩:=Ja hx
 let E':En:={E with St:=fun b o=>E.St b o∨(v.ownBlock=some b∧o<es.length*k)}
 have x:uG E E':=⟨fun _ _ h=>.inl h,fun _ _ _=>rfl,fun _ _ _ h=>h,fun _ _ h=>h,fun _ _ h=>h,fun _ _ c u _ hu=>⟨c,u,hu,aI _,fun _=>rfl⟩⟩
 have hH1:pX E (upd t (.o id) (.row e k es true)):=by
  refine hi.h.change (by simp) (Ext.refl _ _) (fun b o h=>.inl h) (fun _ _=>rfl) (fun _ _=>rfl) (aI _) (fun _ _ _ _=>rfl) (fun b hb=>⟨hi.h.size _ _ hb,.inl hb⟩) ?_ (fun b o hs hb=>?_)
  ·exact⟨hblk,id,v,us,rfl,hval,hown,hrel⟩
  ·obtain⟨e2,k2,es2,h1,h2⟩:=hi.h.sep b o hs _ hb
   grind
 have hH:pX E' (upd t (.o id) (.row e k es true)):=by
  refine hH1.more x rfl rfl (aI _) (fun _ _=>rfl) (fun b o hst=>hst.imp (fun h=>h) fun⟨h1,h2⟩=>?_);refine⟨(hown.lt b h1).2,fun p hp=>?_⟩;have:p = .o id:=hi.h.inj p (.o id) b hp (by rw[oK,h1])
  grind[upd_same]
 refine⟨E',rfl,x,rfl,rfl,hi.step hH x (hi.fr.next rfl rfl rfl (aI _) (fun _ _ _ _=>rfl) (fun _=>rfl) (fun i b hb=>.inl hb) (fun _ _ h=>.inl h) (fun b o h=>h.imp (fun h=>h) fun⟨h1,_⟩=>hi.fr.new id b (by rw[oK,h1]))) (fun k=>E8 (by simp) k),fun u hu=>?_,
  fun b o h=>h.imp (fun h=>h) fun⟨h1,_⟩=>by rw[oK,h1]⟩
 have hv:=hcur u hu;subst hv;simp only[Rep];rcases hown.2 with⟨rfl,h0⟩|⟨g,cap,cur,rfl,hb,hg,hnc,hcm,hcs,htake⟩
 ·simp[*]
 ·refine .inr ⟨g,0,cap,k,by rw[hxl],by omega,mV.lq fun i xe hxi=>?_⟩;obtain⟨el,h1,h2⟩:=hxg i xe hxi;obtain⟨h3,h4⟩:=Nw h2;obtain⟨h5,h6⟩:=hrel.get h1;have hil:i<es.length:=by grind
  have hmul:i*k+k≤es.length*k:=by
   have:(i+1)*k≤es.length*k:=f_ k hil
   grind
  refine⟨by omega,gq.lq fun j y hy=>?_⟩;obtain⟨tv,h7,h8⟩:=h4 j y hy;have hj:j<k:=by grind
  obtain⟨u,h9,_,h10⟩:=h6.get h7;refine⟨.inr ⟨rfl,by omega⟩,u,?_,(YC h8 h10).up x⟩;have:=hown.cells (g:=g) rfl _ _ h9
  rwa [qK,dR]at this
end
end Go.Tr

namespace Go.Tr
open Go
section
variable {P:Program} {A:jL}
theorem Zi:∀(vs:List Value) (n off:Nat) (cells:Array Value),off+n+vs.length≤cells.size→
  ((vs.zipIdx n).foldl (fun cs (x:Value×Nat)=>cs.setIfInBounds (off+x.2) x.1) cells).toList=cells.toList.take (off+n)++vs++cells.toList.drop (off+n+vs.length)
 | [],n,off,cells,_=>by simp
 | v::vs,n,off,cells,h=>by
   rw[List.zipIdx_cons,cO,Zi vs (n+1) off (cells.setIfInBounds (off+n) v) (by grind)];apply iV;intro j;rw[get_put (cur:=(cells.setIfInBounds (off+n) v).toList) (q:=off+(n+1)) (by grind),get_put (cur:=cells.toList) (vs:=v::vs) (q:=off+n) (by omega)]
   grind
def Gg(place:Nat→Option (Nat×Nat))(cells:List TV):List (Nat×TV)→Option (List TV)
 | []=>some cells
 | (i,v)::rest=>
   match place i with
   | none=>none
   | some (off,size)=>if v.cells.length≠size∨cells.length<off+v.cells.length then none else Gg place (setAt cells off v.cells) rest
theorem TV.afk{E:En}{v:TV}{u:Value}(hr:aV E v u)(h1:∀c∈v.cells,c.one=true):b_ E v.cells u.cells.toList:=by
 cases v with
 | agg vs=>
   obtain⟨us,rfl,h⟩:=hr
   trivial
 | _=>
   have h2:=II hr h1;refine b_.lq (by simpa using h2.1) fun i t u' ht hu=>?_
   obtain⟨u'',h3,_,h4⟩:=h2.2.get ht;rw[dR,hu]at h3
   simp only[aj]at h3;rw[h3];exact h4
theorem b_.setAt{E:En}{cs vs:List TV}{us ws:List Value}(h:b_ E cs us)(g:b_ E vs ws){off:Nat}(hl:off+vs.length≤cs.length):
  b_ E (setAt cs off vs) (us.take off++ws++us.drop (off+ws.length)):=by
 have h1:=h.length;have h2:=g.length;refine b_.lq ?_ fun i t u ht hu=>?_
 ·grind[F7]
 ·rw[O6 hl]at ht
  rw[get_put (by omega)]at hu
  by_cases h3:i<off
  ·rw[if_pos h3]at ht hu
   obtain⟨u',h4,h5⟩:=h.get ht
   simp_all
  ·rw[if_neg h3]at ht hu
   by_cases h4:i<off+vs.length
   ·rw[if_pos h4]at ht
    obtain⟨u',h4,h5⟩:=g.get ht
    simp_all
   ·rw[if_neg h4]at ht
    obtain⟨u',h4,h5⟩:=h.get ht
    simp_all
theorem Lm{E:En}{place:Nat→Option (Nat×Nat)}:∀{ps:List (Nat×TV)} {qs:List (Nat×Value)} {cells r:List TV} {us:Array Value},
  Gg place cells ps=some r→(∀p∈ps,∀c∈p.2.cells,c.one=true)→b_ E cells us.toList→ps.length=qs.length→
  (∀(i:Nat) (p:Nat×TV) (q:Nat×Value),ps[i]? = some p→qs[i]? = some q→p.1=q.1∧aV E p.2 q.2)→
  ∃ru,Instr.fill place us qs=some ru∧b_ E r ru.toList
 | [],[],cells,r,us,h,_,hr,_,_=>by simp only[Gg,aj]at h;subst h;exact⟨us,rfl,hr⟩
 | [],_::_,_,_,_,_,_,_,hl,_=>by trivial
 | _::_,[],_,_,_,_,_,_,hl,_=>by trivial
 | (i,v)::ps,(i',u)::qs,cells,r,us,h,h1,hr,hl,hp=>by
   obtain⟨hii,hv⟩:=hp 0 (i,v) (i',u) rfl rfl;simp only at hii hv;subst hii;simp only[Gg]at h;cases hpl:place i with
   | none=>simp_all
   | some os=>
     obtain⟨off,size⟩:=os;simp only[hpl]at h;split at h
     ·trivial
     ·rename_i hc;simp only[not_or,Decidable.not_not,Nat.not_lt]at hc;have hone:∀c∈v.cells,c.one=true:=h1 (i,v) (by simp);have hcr:=TV.afk hv hone;have hcs:u.cells.size=v.cells.length:=by simpa using hcr.length
      have hus:us.size=cells.length:=by simpa using hr.length
      have hput:=Zi u.cells.toList 0 off us (by grind);simp only[lW,iZ]at hput;have hset:=hr.setAt hcr hc.2;simp only[iZ]at hset;rw[←hput]at hset
      obtain⟨ru,h2,h3⟩:=Lm (qs:=qs) h (fun p hp=>h1 p (by simp[*])) hset (by simp_all) (fun j p q hj hq=>hp (j+1) p q (by trivial) (by trivial));refine⟨ru,?_,h3⟩;have hfold:u.cells.zipIdx.foldl (fun cs x=>cs.setIfInBounds (off+x.2) x.1) us=(u.cells.toList.zipIdx).foldl (fun cs (x:Value×Nat)=>cs.setIfInBounds (off+x.2) x.1) us:=by grind[Array.toList_zipIdx]
      have hn :¬(us.size<off+u.cells.size):=by omega
      simp only[Instr.fill,hpl,hcs,hc.1,ne_eq,not_true_eq_false,decide_false,qF,gt_iff_lt,decide_eq_true_eq]
      grind
def PY(P:Program)(t:TypeId):Option (List (Nat×Nat)):=
 match P.underlying t with
 | some (.struct fs)=>fs.toList.mapM fun f=>(qp P f.type).map fun z=>(f.offset,z)
 | _=>none
theorem PI{w:World}:∀(fs:List Field) (r:List (Nat×Nat)),fs.mapM (fun f=>(qp P f.type).map fun z=>(f.offset,z))=some r→
  (fs.mapM (fun f=>do pure (f.offset,←sizeOf f.type):Field→Sem (Nat×Nat))).run P w = .ok r w
 | [],r,h=>by simp_all
 | f::fs,r,h=>by
   simp only[List.mapM_cons,bind,Option.bind_eq_some_iff,fV,pure,aj]at h;obtain⟨_,⟨z,hz,rfl⟩,r',h2,rfl⟩:=h;have ih:=PI (w:=w) fs r' h2;unfold qp at hz;cases hi:P.info? f.type with
   | none=>simp_all
   | some inf=>
     simp only[List.mapM_cons,sizeOf,typeInfo,Sem.run_bind,run_program,Result.andThen_ok,hi,Sem.run_pure,hz];simp only[sizeOf,typeInfo]at ih
     simp_all
theorem WE{t:S}{a:Act}{E:En}(hi:iI A t a E)(ps:List (Nat×Operand)):∀(i:Nat) (p:Nat×TV) (q:Nat×Value),(ps.map fun x=>(x.1,ev t x.2))[i]? = some p→(ps.map fun x=>(x.1,a.eval x.2))[i]? = some q→
  p.1=q.1∧aV E p.2 q.2:=fun i p q hp hq=>by
 simp only[bC,fV]at hp hq;obtain⟨x,h1,rfl⟩:=hp;obtain⟨y,h2,rfl⟩:=hq;rw[h1]at h2;simp only[aj]at h2;subst h2
 exact⟨rfl,dS hi _⟩
theorem parts_eq{t t':S}:∀{ps:List (Nat×Operand)},(∀p∈ps.flatMap (fun x=>pl x.2),t' p=t p)→(ps.map fun x=>(x.1,ev t' x.2))=ps.map fun x=>(x.1,ev t x.2)
 | [],_=>rfl
 | x::xs,h=>by simp only[aH];rw[fZ (fun p hp=>h p (by simp[*])),parts_eq (fun p hp=>h p (by simp[*]))]
theorem aey{o:Oper}{t:S}{ty:TypeId}{ps:List (Nat×Operand)}{fs:List (Nat×Nat)}{z:Value}{r:List TV}(ho:o.op = .build ty ps.toArray)(hf:PY P ty=some fs)(hz:wS P ty=some z)
  (hr:Gg (fun i=>fs[i]?) ((o9 z).map o7) (ps.map fun x=>(x.1,ev t x.2))=some r) :
  jD P A o t ⟨∀p∈ps.map (fun x=>(x.1,ev t x.2)),∀c∈p.2.cells,c.one=true,ps.flatMap (fun x=>pl x.2),[],.agg r⟩:=
 .pure fun hC t' hr' a E hi=>by
  have hpe:=parts_eq hr';have hp:=WE hi ps;rw[hpe]at hp
  have hz0:b_ E ((o9 z).map o7) z.cells.toList:=by simp[vH,Ah]
  obtain⟨ru,h1,h2⟩:=Lm (qs:=ps.map fun x=>(x.1,a.eval x.2)) hr hC hz0 (by simp) hp;refine⟨.agg ru,?_,by simp only[aV];simp[*]⟩;unfold PY at hf;split at hf
  ·rename_i fs' hu;have hm:=PI (P:=P) (w:=E.w) _ _ hf;have hm':(fs'.mapM (fun f=>do pure (f.offset,←sizeOf f.type):Field→Sem (Nat×Nat))).run P E.w = .ok fs.toArray E.w:=by
    rw[←Array.toArray_toList (xs:=fs'),List.mapM_toArray];rw[Sem.run_map,hm];rfl
   unfold wS at hz;cases mG:P.info? ty with
   | none=>simp[mG]at hz
   | some inf=>
     simp only[mG,dH]at hz;have ak8:(fun i:Nat=>fs.toArray[i]?)=fun i:Nat=>fs[i]? :=by funext i;simp
     have hzero:(zeroValue ty).run P E.w = .ok z E.w:=by simp[zeroValue,typeInfo,mG,hz]
     have hrun:(Instr.build ty (ps.map fun x=>(x.1,a.eval x.2)).toArray).run P E.w = .ok (.agg ru) E.w:=by unfold Instr.build;simp only[Sem.run_bind,hzero,Result.andThen_ok,run_underlying hu,hm',ak8,h1,Sem.run_pure]
     simp only[execOp,ho,iy,Sem.run_bind,hrun,Result.andThen_ok,Sem.run_pure]
  trivial
def arF(P:Program)(t:TypeId):Option Nat:=
 match P.underlying t with
 | some (.array _ e)=>qp P e
 | _=>none
theorem abh{o:Oper}{t:S}{ty:TypeId}{ps:List (Nat×Operand)}{k:Nat}{z:Value}{r:List TV}(ho:o.op = .build ty ps.toArray)(hf:arF P ty=some k)(hz:wS P ty=some z)
  (hr:Gg (fun i=>some (i*k,k)) ((o9 z).map o7) (ps.map fun x=>(x.1,ev t x.2))=some r) :
  jD P A o t ⟨∀p∈ps.map (fun x=>(x.1,ev t x.2)),∀c∈p.2.cells,c.one=true,ps.flatMap (fun x=>pl x.2),[],.agg r⟩:=
 .pure fun hC t' hr' a E hi=>by
  have hpe:=parts_eq hr';have hp:=WE hi ps;rw[hpe]at hp
  have hz0:b_ E ((o9 z).map o7) z.cells.toList:=by simp[vH,Ah]
  obtain⟨ru,h1,h2⟩:=Lm (qs:=ps.map fun x=>(x.1,a.eval x.2)) hr hC hz0 (by simp) hp;refine⟨.agg ru,?_,by simp only[aV];exact⟨ru,rfl,h2⟩⟩;unfold arF at hf;split at hf
  ·rename_i n e hu;unfold wS at hz;cases mG:P.info? ty with
   | none=>simp[mG]at hz
   | some inf=>
     simp only[mG,dH]at hz;have hzero:(zeroValue ty).run P E.w = .ok z E.w:=by simp[zeroValue,typeInfo,mG,hz]
     have hsz:(sizeOf e).run P E.w = .ok k E.w:=by
      unfold qp at hf;cases hie:P.info? e with
      | none=>simp[hie]at hf
      | some ie=>simp only[hie,dF,aj]at hf;simp[sizeOf,typeInfo,hie,hf]
     have hrun:(Instr.build ty (ps.map fun x=>(x.1,a.eval x.2)).toArray).run P E.w = .ok (.agg ru) E.w:=by unfold Instr.build;simp only[Sem.run_bind,hzero,Result.andThen_ok,run_underlying hu,hsz,h1,Sem.run_pure]
     simp only[execOp,ho,iy,Sem.run_bind,hrun,Result.andThen_ok,Sem.run_pure]
  trivial
end
end Go.Tr

namespace Go.Tr
open Go
section
variable {P:Program} {A:jL}
theorem VN{k:Nat}:∀(vs:List TV) (i:Nat) (dn:List TV),dn.length=i*k→(∀v∈vs,v.cells.length=k)→
  Gg (fun i=>some (i*k,k)) (dn++List.replicate (vs.length*k) .junk) (vs.zipIdx i |>.map fun x=>(x.2,x.1))=some (dn++vs.flatMap TV.cells)
 | [],i,dn,_,_=>by simp[Gg]
 | v::vs,i,dn,hd,hv=>by
   have hvk:v.cells.length=k:=hv v (by simp);simp only[List.zipIdx_cons,aH,Gg,hvk,ne_eq,not_true_eq_false,false_or];rw[if_neg (by simp only[aS,List.length_replicate,aT,hd,hvk,dX];omega)];have:setAt (dn++List.replicate ((vs.length+1)*k) .junk) (i*k) v.cells=(dn++v.cells)++List.replicate (vs.length*k) .junk:=by unfold setAt;rw[←hd,List.take_left,List.drop_append,dJ (by omega)];simp[hvk,dX,eU]
   simp only[aT];rw[this,VN vs (i+1) (dn++v.cells) (by simp[hd,hvk,dX]) (fun x hx=>hv x (by simp[hx]))];simp[eU]
theorem iI.alj{t:S}{a:Act}{E:En}(hi:iI A t a E){us:Array Value}{ty:TypeId}:
  ∃E':En,E'.w=E.w.alloc (.cells us ty)∧uG E E'∧iI A t a E'∧(∀j,j<us.size→E'.St E.w.heap.size j):=by
 let E':En:={E with w:=E.w.alloc (.cells us ty),St:=fun b o=>E.St b o∨(b=E.w.heap.size∧o<us.size)}
 have hold:∀b,b<E.w.heap.size→E'.w.heap[b]? = E.w.heap[b]? :=by grind[heap_alloc_old]
 have x:uG E E':=⟨fun _ _ h=>.inl h,fun b o hst=>jV (hold b (hi.h.uP b o hst)),fun _ _ _ h=>h,fun _ _ h=>h,fun _ _ h=>h,fun _ _ c u _ hu=>⟨c,u,hu,aI _,fun _=>rfl⟩⟩
 have hH:pX E' t:=hi.h.more x rfl rfl (by grind) hold (fun b o hst=>hst.imp (fun h=>h) fun⟨h1,h2⟩=>⟨by simp[E',h1],fun p hp=>by
  have:=hi.h.size p b hp;omega⟩)
 exact⟨E',rfl,x,hi.step hH x (hi.fr.next rfl rfl rfl (by grind) (fun b hb _ _=>hold b (fC hb hi.fr.size)) (fun _=>rfl) (fun _ _ h=>.inl h) (fun _ _ h=>.inl h) (fun b o h=>h.imp (fun h=>h) fun⟨h1,_⟩=>.inl (by have:=hi.fr.size;omega))) (fun _=>rfl),
  fun j hj=>.inr ⟨rfl,hj⟩⟩
theorem flat_get{k:Nat}:∀{vs:List TV} (_:∀v∈vs,v.cells.length=k) {i:Nat} {v:TV} (_:vs[i]? = some v) {j:Nat} {tv:TV} (_:v.cells[j]? = some tv),(vs.flatMap TV.cells)[i*k+j]? = some tv
 | [],_,_,_,h,_,_,_=>by trivial
 | w::vs,hk,0,v,h,j,tv,hj=>by grind
 | w::vs,hk,i+1,v,h,j,tv,hj=>by
   have:=flat_get (vs:=vs) (fun v hv=>hk v (by simp[*])) (i:=i) (by trivial) hj
   grind
theorem afM{vs:List TV}{xss:List (List D)}(h:iH (vs.map TV.cells)=some xss){k:Nat}(hk:∀v∈vs,v.cells.length=k){i:Nat}{e:List D}(he:xss[i]? = some e){j:Nat}{x:D}(hx:e[j]? = some x):
  ∃tv,(vs.flatMap TV.cells)[i*k+j]? = some tv∧I_ tv=some x:=by
 obtain⟨hL,hg⟩:=Ja h;obtain⟨cs,h1,h2⟩:=hg i e he;obtain⟨h3,h4⟩:=Nw h2;obtain⟨tv,h5,h6⟩:=h4 j x hx;simp only[bC,fV]at h1;obtain⟨v,h7,rfl⟩:=h1
 grind[flat_get]
theorem run_buildSlice{ty e k:Nat}{z:Value}(he:wI P ty=some e)(hk:qp P e=some k)(hz:wS P e=some z){vs:List TV}{us:List Value}{E:En}(hr:b_ E vs us)(hl:∀v∈vs,v.cells.length=k)(h1:∀v∈vs,∀c∈v.cells,c.one=true)
  (hsmall:vs.length*k≤16777216) :
  ∃ru:Array Value,(Instr.buildSlice ty vs.length ((us.zipIdx.map fun x=>(x.2,x.1)).toArray)).run P E.w = .ok (.slice (some ⟨E.w.heap.size,0,none⟩) vs.length vs.length) (E.w.alloc (.cells ru e))∧
   ru.size=vs.length*k∧b_ E (vs.flatMap TV.cells) ru.toList:=by
 unfold wI at he;split at he
 rotate_left
 ·trivial
 rename_i e' hu;simp only[aj]at he;subst he;unfold qp at hk;unfold wS at hz;cases mG:P.info? e' with
 | none=>simp_all
 | some inf=>
 simp only[mG,dF,aj,dH]at hk hz;have agZ:=VN vs 0 [] (by simp) hl;have hbase:∀b:Array Value,b.size=vs.length*k→b_ E (List.replicate (vs.length*k) .junk) b.toList:=fun b hb=>
  b_.lq (by simp[*]) fun i t u ht _=>by
   simp[List.getElem?_replicate]at ht
   obtain⟨_,rfl⟩:=ht
   trivial
 have go:∀b:Array Value,b.size=vs.length*k→∃ru,Instr.fill (fun i=>some (i*k,k)) b (us.zipIdx.map fun x=>(x.2,x.1))=some ru∧b_ E (vs.flatMap TV.cells) ru.toList:=fun b hb=>by
  refine Lm (qs:=us.zipIdx.map fun x=>(x.2,x.1)) agZ (fun p hp c hc=>?_) (hbase b hb) (by simp[hr.length]) (fun i p q hp hq=>?_)
  ·grind
  ·simp only[bC,List.getElem?_zipIdx,fV,dR]at hp hq;obtain⟨x,⟨v,h2,rfl⟩,rfl⟩:=hp;obtain⟨y,⟨u,h3,rfl⟩,rfl⟩:=hq;refine⟨rfl,?_⟩;obtain⟨u',h4,h5⟩:=hr.get h2
   simp_all
 have Zx:(vs.flatMap TV.cells).length=vs.length*k:=by
  clear agZ hbase go hr hsmall h1
  induction vs with
  | nil=>simp
  | cons v vs ih=>grind
 have hns :¬(16777216<vs.length*k):=by omega
 by_cases h0:vs.length*k=0
 ·obtain⟨ru,h2,h3⟩:=go ((Array.range (vs.length*k)).map ((#[]:Array Value)[· % (#[]:Array Value).size]!)) (by simp);refine⟨ru,?_,by have:=h3.length;simp_all,h3⟩;simp only[Instr.buildSlice,Sem.run_bind,run_underlying hu,Result.andThen_ok,sizeOf,typeInfo,run_program,mG,Sem.run_pure,hk,gt_iff_lt,Nat.reducePow,hns,if_false,if_pos h0,newRow,run_newObj,h2,pure_bind];rfl
 ·obtain⟨ru,h2,h3⟩:=go ((Array.range (vs.length*k)).map (z.cells[· % z.cells.size]!)) (by simp);refine⟨ru,?_,by have:=h3.length;simp_all,h3⟩;simp only[Instr.buildSlice,Sem.run_bind,run_underlying hu,Result.andThen_ok,sizeOf,typeInfo,run_program,mG,Sem.run_pure,hk,gt_iff_lt,Nat.reducePow,hns,if_false,h0,zeroValue,hz,newRow,run_newObj,h2,pure_bind];rfl
def Ap(ps:List (Nat×Operand))(n:Nat):Bool:=(ps.map (·.1))==List.range n
theorem OT{α:Type}(f:Operand→α):∀(ps:List (Nat×Operand)) (i:Nat),ps.map (·.1)=List.range' i ps.length→(ps.map fun x=>(x.1,f x.2))=((ps.map fun x=>f x.2).zipIdx i).map fun x=>(x.2,x.1)
 | [],_,_=>rfl
 | p::ps,i,h=>by simp only[aH,aT,rV,eH]at h;simp only[aH,List.zipIdx_cons,eH];exact⟨by rw[h.1],OT f ps (i+1) h.2⟩
theorem RU{o:Oper}{t:S}{ty e k n:Nat}{ps:List (Nat×Operand)}{z:Value}{xss:List (List D)}(ho:o.op = .buildSlice ty n ps.toArray)(he:wI P ty=some e)(hk:qp P e=some k)(hz:wS P e=some z)
  (hseq:Ap ps n=true) (hx:iH (ps.map fun x=>(ev t x.2).cells)=some xss) :
  jD P A o t ⟨(∀e∈ps.map (fun x=>(ev t x.2).cells),e.length=k∧∀c∈e,c.one=true)∧n*k≤16777216,ps.flatMap (fun x=>pl x.2),[],.d (.sl xss)⟩:=fun⟨hC,hsm⟩ t' hr a E hi=>by
 have S_:ps.map (·.1)=List.range n:=by grind[Ap]
 have hn:ps.length=n:=by have:=congrArg List.length S_;grind
 rw[nS,←hn]at S_
 have hev:(ps.map fun x=>ev t' x.2)=ps.map fun x=>ev t x.2:=by
  have:=parts_eq hr
  grind[List.map_congr_left,fZ]
 let vs:=ps.map fun x=>ev t x.2
 let us:=ps.map fun x=>a.eval x.2
 have hrel:b_ E vs us:=by
  have:=Dq hi (ps.map (·.2));simp only[bQ]at this;have h2:(List.map (ev t'∘fun x=>x.2) ps)=vs:=hev;rw[h2]at this
  trivial
 have hCm:∀v∈vs,v.cells.length=k∧∀c∈v.cells,c.one=true:=fun v hv=>by grind
 have hvl:vs.length=n:=by simp[vs,hn]
 obtain⟨ru,hrun,hsz,ag_⟩:=run_buildSlice (P:=P) he hk hz hrel (fun v hv=>(hCm v hv).1) (fun v hv=>(hCm v hv).2) (by rw[hvl];exact hsm);obtain⟨E',hw,x,hinv,hst⟩:=hi.alj (us:=ru) (ty:=e);have hxx:iH (vs.map TV.cells)=some xss:=by rw[←hx];simp[vs,Function.comp_def]
 obtain⟨hxl,hxg⟩:=Ja hxx;refine⟨_,.slice (some ⟨E.w.heap.size,0,none⟩) n n,E',?_,.inl rfl,hinv,?_⟩
 ·have hz2:=OT (fun x=>a.eval x) ps 0 S_;simp only[execOp,ho,iy,hz2,Sem.run_bind,hw];rw[←hvl,hrun];rfl
 ·simp only[aV,Rep];refine .inr ⟨E.w.heap.size,0,n,k,by rw[hxl];simp[hvl],by rw[hxl];simp[hvl],mV.lq fun i el hel=>?_⟩;have hil:i<n:=by have:=(aA.1 hel).1;rw[hxl]at this;simpa[hvl]using this
  have hmul:i*k+k≤n*k:=by
   have:(i+1)*k≤n*k:=f_ k hil
   rwa [dX,Nat.one_mul]at this
  have hek:el.length=k:=by obtain⟨cs,h1,h2⟩:=hxg i el hel;rw[(Nw h2).1];simp only[bC,fV]at h1;obtain⟨v,h3,rfl⟩:=h1;exact(hCm v (bU h3)).1
  refine⟨hek,gq.lq fun j xx hj=>?_⟩;have hjk:j<k:=by rw[←hek];exact(aA.1 hj).1
  obtain⟨tv,h4,h5⟩:=afM hxx (fun v hv=>(hCm v hv).1) hel hj;obtain⟨u,h6,h7⟩:=ag_.get h4;refine⟨hst _ (by rw[hsz,hvl];omega),u,?_,(YC h5 h7).up x⟩;rw[hw,xE (heap_alloc_new E.w _)];simpa using h6
end
end Go.Tr
