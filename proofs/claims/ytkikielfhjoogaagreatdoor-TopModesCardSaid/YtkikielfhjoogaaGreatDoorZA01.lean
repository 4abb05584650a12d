/-
  What functions of the program compute, stated as contracts over plain data; the conditions of each stand in its own statement.
-/
import Derived.Test.YtkikielfhjoogaaGreatDoorZA00
import Derived.Maps.AppendAt
import Derived.Laws.OwnMore
import Derived.Laws.StructEq
import Derived.Deep.MidRow
set_option linter.unusedVariables false
set_option linter.unusedSimpArgs false
namespace Go.Tr
open Go
theorem ny(b o n:Nat):(⟨b,o,none⟩:Addr).add n=⟨b,o+n,none⟩:=by simp[Addr.add]
theorem cu.up{E E':En}(h:oQ E E'){us:List Value}:∀{o:Nat} {ts:List TV},cu E us o ts→cu E' us o ts
 | _,[],_=>trivial
 | _,_::_,⟨⟨u,h1,h2,h3⟩,r⟩=>⟨⟨u,h1,h2,h3.up h⟩,r.up h⟩
theorem fC.up{E E':En}(h:oQ E E'){us:List Value}{k:Nat}:∀{o:Nat} {es:List (List TV)},fC E us k o es→fC E' us k o es
 | _,[],_=>trivial
 | _,_::_,⟨h1,h2,r⟩=>⟨h1,h2.up h,r.up h⟩
theorem cu.get{E:En}{us:List Value}:∀{o:Nat} {ts:List TV} (_:cu E us o ts) {i:Nat} {t:TV},ts[i]? = some t→
  ∃u,us[o+i]? = some u∧u.oneCell'=true∧aP E t u
 | _,[],_,_,_,h=>by trivial
 | o,t::ts,⟨h,r⟩,0,t',e=>by simp_all
 | o,t::ts,⟨_,r⟩,i+1,t',e=>by
   have:=cu.get r (i:=i) (t:=t') (by simpa using e)
   rwa [show o+(i+1)=o+1+i by omega]
theorem cu.iI{E:En}{us:List Value}:∀{o:Nat} {ts:List TV},(∀i t,ts[i]? = some t→∃u,us[o+i]? = some u∧u.oneCell'=true∧aP E t u)→cu E us o ts
 | _,[],_=>trivial
 | o,t::ts,h=>⟨by simpa using h 0 t rfl,cu.iI fun i t' e=>by
   have:=h (i+1) t' (by trivial)
   grind⟩
theorem fC.get{E:En}{us:List Value}{k:Nat}:∀{o:Nat} {es:List (List TV)} (_:fC E us k o es) {i:Nat} {e:List TV},es[i]? = some e→
  e.length=k∧cu E us (o+i*k) e
 | _,[],_,_,_,h=>by trivial
 | o,e::es,⟨h1,h2,r⟩,0,e',he=>by simp_all
 | o,e::es,⟨_,_,r⟩,i+1,e',he=>by
   have:=fC.get r (i:=i) (e:=e') (by trivial)
   grind
theorem fC.iI{E:En}{us:List Value}{k:Nat}:∀{o:Nat} {es:List (List TV)},(∀i e,es[i]? = some e→e.length=k∧cu E us (o+i*k) e)→fC E us k o es
 | _,[],_=>trivial
 | o,e::es,h=>⟨(h 0 e rfl).1,by simpa using(h 0 e rfl).2,fC.iI fun i e' he=>by
   have:=h (i+1) e' (by trivial)
   grind⟩
theorem jK.get{E:En}{b k:Nat}:∀{o:Nat} {xs:List (List D)} (_:jK E b k o xs) {i:Nat} {e:List D},xs[i]? = some e→
  e.length=k∧dU E b (o+i*k) e
 | _,[],_,_,_,h=>by trivial
 | o,e::es,h,0,e',he=>by grind[jK]
 | o,e::es,h,i+1,e',he=>by
   have:=jK.get h.2.2 (i:=i) (e:=e') (by simpa using he);refine⟨this.1,?_⟩;have h:=this.2
   rwa [show o+k+i*k=o+(i+1)*k by rw[fF];omega]at h
theorem jK.iI{E:En}{b k:Nat}:∀{o:Nat} {xs:List (List D)},(∀i e,xs[i]? = some e→e.length=k∧dU E b (o+i*k) e)→jK E b k o xs
 | _,[],_=>by trivial
 | o,e::es,h=>by
   exact⟨(h 0 e rfl).1,by simpa using(h 0 e rfl).2,jK.iI fun i e' he=>by
    have:=h (i+1) e' (by trivial)
    grind⟩
theorem dU.get{E:En}{b:Nat}:∀{o:Nat} {xs:List D} (_:dU E b o xs) {i:Nat} {x:D},xs[i]? = some x→
  E.St b (o+i)∧∃u,E.w.cell? ⟨b,o+i,none⟩ = some u∧Rep E x u
 | _,[],_,_,_,h=>by trivial
 | o,x::ds,h,0,x',he=>by grind[dU]
 | o,x::ds,h,i+1,x',he=>by
   have:=dU.get h.2 (i:=i) (x:=x') (by trivial)
   grind
theorem dU.iI{E:En}{b:Nat}:∀{o:Nat} {xs:List D},(∀i x,xs[i]? = some x→E.St b (o+i)∧∃u,E.w.cell? ⟨b,o+i,none⟩ = some u∧Rep E x u)→dU E b o xs
 | _,[],_=>by trivial
 | o,x::ds,h=>by
   exact⟨by simpa using h 0 x rfl,dU.iI fun i x' he=>by
    have:=h (i+1) x' (by trivial)
    grind⟩
theorem Rep.one{E:En}:∀{x:D} {u:Value},Rep E x u→u.oneCell'=true
 | .int k n,u,h=>by subst h;rfl
 | .bool b,u,h=>by subst h;rfl
 | .str s,u,h=>by subst h;rfl
 | .sl xs,u,h=>by rcases h with⟨_,a,c,rfl⟩|⟨b,o,c,k,rfl,_⟩<;>rfl
 | .mp ks vs,u,h=>by obtain⟨b,l,clock,l',rfl,_⟩:=h;rfl
 | .mq ks vs,u,h=>by obtain⟨b,l,clock,l',rfl,_⟩:=h;rfl
def TV.one:TV→Bool
 | .d _|.aW _ _|.ptr _ _|.ep _ _|.qH _ _ _ _|.clo _ _|.mref _|.sx _|.LG _ _ _=>true
 | .c v=>v.oneCell'
 | _=>false
theorem aP.one{E:En}:∀{t:TV} {u:Value},t.one=true→aP E t u→u.oneCell'=true
 | .d x,u,_,h=>by simp only[aP]at h;exact h.one
 | .c v,u,h1,h=>by grind[aP,TV.one]
 | .aW id n,u,_,h=>by grind[aP]
 | .ptr p off,u,_,h=>by obtain⟨b,_,rfl⟩:=h;rfl
 | .ep e off,u,_,h=>by obtain⟨b,o,rfl,_⟩:=h;rfl
 | .qH id n i off,u,_,h=>by grind[aP]
 | .LG id n j,u,_,h=>by grind[aP]
 | .mref id,u,_,h=>by obtain⟨b,_,rfl⟩:=h;rfl
 | .sx xs,u,_,h=>by obtain⟨_,b,rfl⟩:=h;rfl
 | .clo f caps,u,_,h=>by obtain⟨us,rfl,_⟩:=h;rfl
 | .junk,_,h,_=>by trivial
 | .agg _,_,h,_=>by trivial
 | .qh _,_,h,_=>by trivial
theorem bD.length{E:En}:∀{ts:List TV} {us:List Value},bD E ts us→us.length=ts.length
 | [],us,h=>by grind[bD]
 | t::ts,us,h=>by obtain⟨u,us',rfl,_,h2⟩:=h;simp[h2.length]
theorem bD.get{E:En}:∀{ts:List TV} {us:List Value},bD E ts us→∀{i:Nat} {t:TV},ts[i]? = some t→∃u,us[i]? = some u∧aP E t u
 | [],us,h,i,t,e=>by trivial
 | t::ts,us,h,i,t',e=>by
   obtain⟨u,us',rfl,h1,h2⟩:=h;cases i with
   | zero=>simp_all
   | succ i=>simpa using h2.get (i:=i) (by trivial)
theorem bD.iI{E:En}:∀{ts:List TV} {us:List Value},us.length=ts.length→(∀(i:Nat) (t:TV) (u:Value),ts[i]? = some t→us[i]? = some u→aP E t u)→bD E ts us
 | [],us,hl,_=>by grind[bD]
 | t::ts,[],hl,_=>by trivial
 | t::ts,u::us,hl,h=>by exact⟨u,us,rfl,h 0 t u rfl rfl,bD.iI (by simp_all) fun i t' u' e e'=>h (i+1) t' u' (by trivial) (by trivial)⟩
theorem bD.cells{E:En}{ts:List TV}{us:List Value}(h:bD E ts us)(h1:∀t∈ts,t.one=true):cu E us 0 ts:=
 cu.iI fun i t e=>by obtain⟨u,hu,hr⟩:=h.get e;exact⟨u,by simp[*],hr.one (h1 t (bF e)),hr⟩
theorem lD.slot{E:En}{H:S}(h:lD E H)(k:Nat)(i:It):lD E (upd H (.s k) i) where
 item p hp:=by rw[upd,if_neg (hp k)];exact h.item p hp
 frees:=h.frees
 inj:=h.inj
 size:=h.size
 o_:=h.o_
 gl:=h.gl
 sep b o hst p hp:=by
  obtain⟨e,k',es,h1,h2⟩:=h.sep b o hst p hp;refine⟨e,k',es,?_,h2⟩;rw[upd,if_neg]
  ·omega
  ·rintro rfl;simp[En.own,h.frees k]at hp
theorem En.mV{E E':En}{p:Pl}(hb:E'.blk p=E.blk p)(hv:∀id,p = .o id→E'.val id=E.val id):E'.own p=E.own p:=by
 unfold En.own
 grind
theorem vM.up{E E':En}{p:Pl}{it:It}(h:vM E p it)(x:oQ E E')(hb:E'.blk p=E.blk p)(hv:∀id,p = .o id→E'.val id=E.val id)
  (hh:∀b,E.own p=some b→E'.w.heap[b]? = E.w.heap[b]?):vM E' p it:=by
 cases it with
 | none=>exact fun id e=>by rw[hb,hv id e];exact h id e
 | v t=>exact(En.mV hb hv).trans h
 | box cs=>obtain⟨h0,b,ty,us,h1,h2,h3,h4⟩:=h;exact⟨fun id e=>by simp[*],b,ty,us,hb.trans h1,(hh b (by simp[En.own,h1])).trans h2,h3,h4.up x⟩
 | row e k es sh=>
   obtain⟨h0,id,v,us,rfl,h1,h2,h3⟩:=h;refine⟨hb.trans h0,id,v,us,rfl,(hv id rfl).trans h1,⟨h2.1,?_⟩,h3.up x⟩;rcases h2.2 with hn|⟨g,cap,cur,rfl,hg,hgg,rest⟩
   ·simp[*]
   ·exact .inr ⟨g,cap,cur,rfl,hg,(hh g (by grind[En.own,Value.ownBlock])).trans hgg,rest⟩
 | sJ e k es=>obtain⟨h0,id,v,us,rfl,h1,h2,h3⟩:=h;obtain⟨h4,g,o,cap,cur,rfl,hgg,rest⟩:=h2;exact⟨hb.trans h0,id,_,us,rfl,(hv id rfl).trans h1,⟨h4,g,o,cap,cur,rfl,(hh g (by grind[En.own,Value.ownBlock])).trans hgg,rest⟩,h3.up x⟩
 | mp es=>obtain⟨h0,b,l,clock,h1,h2,h3,h4⟩:=h;exact⟨fun id e=>by simp[*],b,l,clock,hb.trans h1,(hh b (by simp[En.own,h1])).trans h2,h3.ext x.r,h4⟩
 | fO es c pd s=>obtain⟨id,b,l,clock,l',ty,v,rfl,h1,h2,h3,h4,h5,h6,h7,h8⟩:=h;exact⟨id,b,l,clock,l',ty,v,rfl,hb.trans h1,(hh b (by grind[En.own])).trans h2,h3,h4.up x,h5,(hv id rfl).trans h6,h7,h8⟩
 | BM es s=>obtain⟨h0,h1,h2,h3,l',h4,h5⟩:=h;exact⟨(En.mV hb hv).trans h0,x.st _ _ h1,Ef (x.cell _ _ h1) h2,h3,l',h4,h5.up x⟩
 | yt m s left cur=>obtain⟨h0,r,seen,h1,h2,h3⟩:=h;exact⟨fun id e=>by simp[*],r,seen,hb.trans h1,(hh r (by simp[En.own,h1])).trans h2,h3⟩
theorem lD.change{E E':En}{H:S}{p:Pl}{it:It}(h:lD E H)(hp:∀k,p≠.s k)(x:oQ E E')
  (hSt:∀b o,E'.St b o→E.St b o∨(E'.own p≠some b∧E.w.heap.size≤b∧b<E'.w.heap.size)) (hblk:∀q,q≠p→E'.blk q=E.blk q) (hval:∀id,p≠.o id→E'.val id=E.val id)
  (hs:E.w.heap.size≤E'.w.heap.size) (hoth:∀q b,q≠p→E.own q=some b→E'.w.heap[b]? = E.w.heap[b]?)
  (hown:∀b,E'.own p=some b→b<E'.w.heap.size∧(E.own p=some b∨E.w.heap.size≤b))
  (hit:vM E' p it) (hsep:∀b o,E.St b o→E'.own p=some b→∃e k es,it = .row e k es true∧o<es.length*k):lD E' (upd H p it):=by
 have hq:∀q,q≠p→E'.own q=E.own q:=fun q hne=>En.mV (hblk q hne) (fun id e=>hval id (fun e'=>hne (e.trans e'.symm)))
 refine⟨fun q hqs=>?_,fun k=>?_,fun q r b h1 h2=>?_,fun q b h1=>?_,fun b o h1=>?_,fun b o h1 q h2=>?_,fun y hy=>dU.ext x.r _ _ _ (h.gl y hy)⟩
 ·by_cases e:q=p
  ·subst e;simpa only[upd,if_true]using hit
  ·rw[upd,if_neg e];exact(h.item q hqs).up x (hblk q e) (fun id e'=>hval id (fun e''=>e (e'.trans e''.symm))) (fun b hb=>hoth q b e hb)
 ·rw[hblk _ (fun e=>hp k e.symm)];exact h.frees k
 ·by_cases e1:q=p<;>by_cases e2:r=p
  ·rw[e1,e2]
  ·subst e1;rw[hq r e2]at h2
   rcases (hown b h1).2 with h3|h3
   ·exact h.inj _ _ b h3 h2
   grind
  ·subst e2;rw[hq q e1]at h1
   rcases (hown b h2).2 with h3|h3
   ·exact h.inj _ _ b h1 h3
   grind
  ·rw[hq q e1]at h1;rw[hq r e2]at h2;exact h.inj _ _ b h1 h2
 ·by_cases e:q=p
  ·simp_all
  ·rw[hq q e]at h1;exact dA (h.size q b h1) hs
 ·rcases hSt b o h1 with h2|⟨_,_,h2⟩
  ·exact dA (h.o_ b o h2) hs
  omega
 ·rcases hSt b o h1 with h3|⟨hb,h3,_⟩
  ·by_cases e:q=p
   ·subst e;obtain⟨e',k,es,h4,h5⟩:=hsep b o h3 h2;exact⟨e',k,es,by simpa only[upd,if_true]using h4,h5⟩
   ·rw[hq q e]at h2
    obtain⟨e',k,es,h4,h5⟩:=h.sep b o h3 q h2;exact⟨e',k,es,by rw[upd,if_neg e];exact h4,h5⟩
  ·by_cases e:q=p
   ·subst e;exact absurd h2 hb
   ·rw[hq q e]at h2
    have:=h.size q b h2;omega
theorem lD.more{E E':En}{H:S}(h:lD E H)(x:oQ E E')(hblk:E'.blk=E.blk)(hval:E'.val=E.val)(hs:E.w.heap.size≤E'.w.heap.size)
  (hoth:∀b,b<E.w.heap.size→E'.w.heap[b]? = E.w.heap[b]?)
  (hSt:∀b o,E'.St b o→E.St b o∨(b<E'.w.heap.size∧∀p,E.own p=some b→∃e k es,H p = .row e k es true∧o<es.length*k)):lD E' H:=by
 have hq:∀q,E'.own q=E.own q:=by grind[En.mV]
 refine⟨fun q hqs=>(h.item q hqs).up x (by rw[hblk]) (fun id _=>by rw[hval]) (fun b hb=>hoth b (h.size q b hb)),fun k=>by rw[hblk];exact h.frees k,
  fun q r b h1 h2=>h.inj q r b (by rwa [hq]at h1) (by rwa [hq]at h2),fun q b h1=>dA (h.size q b (by rwa [hq]at h1)) hs,fun b o h1=>?_,fun b o h1 q h2=>?_,fun y hy=>dU.ext x.r _ _ _ (h.gl y hy)⟩
 ·rcases hSt b o h1 with h2|h2
  ·exact dA (h.o_ b o h2) hs
  omega
 ·rcases hSt b o h1 with h3|h3
  ·exact h.sep b o h3 q (by rwa [hq]at h2)
  simp_all
set_option linter.unusedSimpArgs false
def qE(P:Program)(t:TypeId):Option Bool:=(P.underlying t).map fun|.struct _|.array _ _=>true|_=>false
def pO(P:Program)(t:TypeId)(f:Nat):Option (Nat×TypeId):=match P.underlying t with|some (.struct fs)=>(fs[f]?).map fun f=>(f.offset,f.type)|_=>none
def qO(P:Program)(t:TypeId):Option TypeId:=match P.underlying t with|some (.slice e)=>some e|_=>none
def arE(P:Program)(t:TypeId):Option (Nat×TypeId):=match P.underlying t with|some (.array n e)=>some (n,e)|_=>none
def kM(P:Program)(t:TypeId):Option Nat:=(P.info? t).map (·.size)
def BJ(P:Program)(t:TypeId):Option Nat:=(P.info? t).map (·.bytes)
def qm(P:Program)(t:TypeId):Option Value:=(P.info? t).bind (·.zero)
def knd(P:Program)(t:TypeId):Option IntKind:=match P.underlying t with|some (.int k)=>some k|_=>none
def isStr(P:Program)(t:TypeId):Bool:=match P.underlying t with|some .string=>true|_=>false
def kK:Value→TV
 | .int k n=>.d (.int k n)
 | .bool b=>.d (.bool b)
 | .string s=>.d (.str s)
 | v=>.c v
def TJ:Value→TV
 | .agg cs=>.agg (cs.toList.map kK)
 | v=>kK v
theorem oI(E:En)(v:Value):aP E (kK v) v:=by
 unfold kK
 grind[aP,Rep]
theorem wS(E:En):∀vs:List Value,bD E (vs.map kK) vs
 | []=>by rfl
 | v::vs=>by exact⟨v,vs,rfl,oI E v,wS E vs⟩
theorem JZ(E:En)(v:Value):aP E (TJ v) v:=by
 unfold TJ;split
 ·exact⟨_,rfl,wS E _⟩
 simp[oI]
def gev(g:Nat):TV:=match Xz.find? (fun y=>y.1==g)with|some y=>.ep y.2 0|none=>.junk
def ev(t:S):Operand→TV
 | .tmp k=>match t (.s k)with|.v x=>x|_=>.junk
 | .const v=>TJ v
 | .func f=>.clo f []
 | .global g=>gev g
def pl:Operand→List Pl
 | .tmp k=>[.s k]
 | _=>[]
theorem bP{A:f_}{t:S}{a:Act}{E:En}(h:eY A t a E)(x:Operand):aP E (ev t x) (a.eval x):=by
 cases x with
 | tmp k=>
   simp only[ev];split
   ·rename_i tv ht;obtain⟨u,hu,hr⟩:=h.sl k tv ht;simpa only[Act.eval,Array.getD_eq_getD_getElem?,hu,bZ]using hr
   trivial
 | const v=>exact JZ E v
 | global g=>
   simp only[ev,gev];split
   ·rename_i y hy;have h1:=h.h.gl y (fG hy);have h2:=mX hy;simp only[aP,Act.eval]
    grind
   trivial
 | func f=>simp only[ev,aP,bD,Act.eval];simp
theorem dK{t t':S}{x:Operand}(h:∀p∈pl x,t' p=t p):ev t' x=ev t x:=by
 cases x<;>simp only[ev]
 grind[pl]
structure Eff where
 C:Prop
 rp:List Pl
 W:List (Pl×It)
 v:TV
def aq5(nx:Next)(u:Value):Prop:=nx = .value u∨(nx = .skip∧u=undef)
def gB(P:Program)(A:f_)(o:Oper)(t:S)(e:Eff):Prop:=
 e.C→∀t',(∀p∈e.rp,t' p=t p)→∀a E,eY A t' a E→
  ∃nx u E',(execOp a.eval o).run P E.w = .ok nx E'.w∧aq5 nx u∧eY A (over t' e.W) a E'∧aP E' e.v u
theorem gB.pure{P:Program}{A:f_}{o:Oper}{t:S}{C:Prop}{rp:List Pl}{v:TV}
  (h:C→∀t',(∀p∈rp,t' p=t p)→∀a E,eY A t' a E→∃u,(execOp a.eval o).run P E.w = .ok (.value u) E.w∧aP E v u) :
  gB P A o t ⟨C,rp,[],v⟩:=fun hC t' hr a E hi=>by
 obtain⟨u,h1,h2⟩:=h hC t' hr a E hi;exact⟨_,u,E,h1,.inl rfl,hi,h2⟩
theorem bf{l r:List Pl}{t t':S}(h:∀p∈l++r,t' p=t p):∀p∈l,t' p=t p:=fun p hp=>h p (kZ _ hp)
theorem aQ{l r:List Pl}{t t':S}(h:∀p∈l++r,t' p=t p):∀p∈r,t' p=t p:=fun p hp=>h p (jZ _ hp)
def TV.cells:TV→List TV
 | .agg vs=>vs
 | v=>[v]
def Lp(k:IntKind)(a b:Int):Int:=k.wrap (BitVec.ofInt k.bits a&&&BitVec.ofInt k.bits b).toNat
def orI(k:IntKind)(a b:Int):Int:=k.wrap (BitVec.ofInt k.bits a|||BitVec.ofInt k.bits b).toNat
def ape(k:IntKind)(a b:Int):Int:=k.wrap (BitVec.ofInt k.bits a ^^^ BitVec.ofInt k.bits b).toNat
def DI(k:IntKind)(a b:Int):Int:=k.wrap (BitVec.ofInt k.bits a &&& ~~~ BitVec.ofInt k.bits b).toNat
def aoM(k:IntKind)(n:Int):Int:=k.wrap (BitVec.ofInt k.bits (if k.signed then -1 else k.max) ^^^ BitVec.ofInt k.bits n).toNat
def ah8(k:IntKind)(a b:Int):Int:=k.wrap (a*2^(min b.toNat k.bits))
def YJ(k:IntKind)(a b:Int):Int:=a.fdiv (2^(min b.toNat k.bits))
def aiH(op:BinOp)(k:IntKind)(a b:Int):Option (Prop×TV):=
 match op with
 | .add=>some (True,.d (.int k (k.wrap (a+b))))
 | .sub=>some (True,.d (.int k (k.wrap (a-b))))
 | .mul=>some (True,.d (.int k (k.wrap (a*b))))
 | .quo=>some (b≠0,.d (.int k (k.wrap (a.tdiv b))))
 | .rem=>some (b≠0,.d (.int k (a.tmod b)))
 | .and=>some (True,.d (.int k (Lp k a b)))
 | .or=>some (True,.d (.int k (orI k a b)))
 | .xor=>some (True,.d (.int k (ape k a b)))
 | .andNot=>some (True,.d (.int k (DI k a b)))
 | .eql=>some (True,.d (.bool (a==b)))
 | .neq=>some (True,.d (.bool (a != b)))
 | .lss=>some (True,.d (.bool (a<b)))
 | .leq=>some (True,.d (.bool (a≤b)))
 | .gtr=>some (True,.d (.bool (a>b)))
 | .geq=>some (True,.d (.bool (a ≥ b)))
 | _=>none
def ak4(op:BinOp)(k:IntKind)(a b:Int):Option (Prop×TV):=
 match op with
 | .shl=>some (0≤b,.d (.int k (ah8 k a b)))
 | .shr=>some (0≤b,.d (.int k (YJ k a b)))
 | _=>none
def NH(op:BinOp)(a b:ByteArray):Option (Prop×TV):=
 match op with
 | .add=>some (a.size+b.size≤9223372036854775807,.d (.str (a++b)))
 | .eql=>some (True,.d (.bool (a.toList==b.toList)))
 | .neq=>some (True,.d (.bool (!(a.toList==b.toList))))
 | .lss=>some (True,.d (.bool (Op.bytesLess a.toList b.toList)))
 | .gtr=>some (True,.d (.bool (!(Op.bytesLess a.toList b.toList||a.toList==b.toList))))
 | .leq=>some (True,.d (.bool (Op.bytesLess a.toList b.toList||a.toList==b.toList)))
 | .geq=>some (True,.d (.bool (!Op.bytesLess a.toList b.toList)))
 | _=>none
def MJ:BinOp→Bool
 | .shl|.shr=>true
 | _=>false
def afp(P:Program)(op:BinOp)(ty:TypeId):TV→TV→Option (Prop×TV)
 | .d (.int k a),.d (.int k' b)=>if MJ op then ak4 op k a b else if k=k' then aiH op k a b else none
 | .d (.str a),.d (.str b)=>NH op a b
 | .d (.bool a),.d (.bool b)=>match P.underlying ty,op with
   | some .bool,.eql=>some (True,.d (.bool (a==b)))
   | some .bool,.neq=>some (True,.d (.bool (!(a==b))))
   | _,_=>none
 | .d (.sl xs),.c (.slice none 0 0)=>match P.underlying ty,op with
   | some (.slice _),.eql=>some (0<xs.length,.d (.bool false))
   | some (.slice _),.neq=>some (0<xs.length,.d (.bool true))
   | _,_=>none
 | .c (.slice a _ _),.c (.slice none 0 0)=>match P.underlying ty,op with
   | some (.slice _),.eql=>some (True,.d (.bool a.isNone))
   | some (.slice _),.neq=>some (True,.d (.bool (!a.isNone)))
   | _,_=>none
 | .ep _ _,.c (.pointer none)=>match P.underlying ty,op with
   | some (.pointer _),.eql=>some (True,.d (.bool false))
   | some (.pointer _),.neq=>some (True,.d (.bool true))
   | _,_=>none
 | .ptr _ _,.c (.pointer none)=>match P.underlying ty,op with
   | some (.pointer _),.eql=>some (True,.d (.bool false))
   | some (.pointer _),.neq=>some (True,.d (.bool true))
   | _,_=>none
 | .c (.pointer a),.c (.pointer none)=>match P.underlying ty,op with
   | some (.pointer _),.eql=>some (True,.d (.bool a.isNone))
   | some (.pointer _),.neq=>some (True,.d (.bool (!a.isNone)))
   | _,_=>none
 | _,_=>none
theorem EY{P:Program}{ty e:TypeId}(h:P.underlying ty=some (.slice e))(a:Option Addr)(n c m d k:Nat)(w:World):(Op.equalIn (k+1) ty (.slice a n c) (.slice none m d)).run P w = .ok a.isNone w:=by cases a<;>simp[Op.equalIn,Sem.run_bind,run_underlying h]
theorem zo{P:Program}{ty e:TypeId}(h:P.underlying ty=some (.pointer e))(a:Option Addr)(k:Nat)(w:World):(Op.equalIn (k+1) ty (.pointer a) (.pointer none)).run P w = .ok a.isNone w:=by cases a<;>simp[Op.equalIn,Sem.run_bind,run_underlying h]
theorem aiG{P:Program}{op:BinOp}{ty:TypeId}{x y v:TV}{C:Prop}(h:afp P op ty x y=some (C,v))(hC:C){E:En}{u u':Value}(hx:aP E x u)(hy:aP E y u')
  (xo yo:Operand) (w:World):∃r,((do eqGuard op ty xo yo u u';binOp op ty u u':Sem Value)).run P w = .ok r w∧aP E v r:=by
 unfold afp at h;split at h
 ·rename_i k a k' b;simp only[aP,Rep]at hx hy;subst hx;subst hy;rw[eqGuard_at_int];split at h
  ·rename_i hs;cases op<;>first
    | (simp only[MJ,eu]at hs;done)
    | (simp only[ak4,ah,aO]at h
       obtain⟨rfl,rfl⟩:=h;simp[binOp,Op.shift,show ¬b<0 by omega,aP,Rep,ah8,YJ])
  ·rename_i hs;split at h
   ·rename_i hk;subst hk;cases op<;>first
     | (simp only[MJ,not_true_eq_false]at hs;done)
     | (simp only[aiH,ah,aO]at h
        obtain⟨rfl,rfl⟩:=h;simp[binOp,Op.intArith,Op.intDiv,Op.intBits,Op.intCmp,aP,Rep,Lp,orI,ape,DI]
        done)
     | (simp only[aiH,ah,aO]at h
        obtain⟨rfl,rfl⟩:=h;simp[binOp,Op.intArith,Op.intDiv,Op.intBits,Op.intCmp,aP,Rep,hC])
   trivial
 ·rename_i a b;simp only[aP,Rep]at hx hy;subst hx;subst hy;rw[eqGuard_at_string];cases op<;>first
   | (simp only[NH,reduceCtorEq]at h;done)
   | (simp only[NH,ah,aO]at h
      obtain⟨rfl,rfl⟩:=h;simp[binOp,Op.stringOp,aP,Rep]
      done)
   | (simp only[NH,ah,aO]at h
      obtain⟨rfl,rfl⟩:=h;have h1 :¬(9223372036854775807<(a.size:Int)+(b.size:Int)):=by omega
      simp[binOp,Op.stringOp,aP,Rep,h1])
 ·rename_i a b;simp only[aP,Rep]at hx hy;subst hx;subst hy;rw[eqGuard_at_bool];split at h
  ·rename_i hu;simp only[ah,aO]at h;obtain⟨rfl,rfl⟩:=h;have hb:=run_equalIn_bool (P:=P) w 9999 ty a b hu;simp only[binOp,Op.equal,Op.maxDepth,Sem.run_bind,Sem.run_pure,Result.andThen_ok,hb,Result.ok.injEq,and_true,exists_eq_left',aP,Rep]
  ·rename_i hu;simp only[ah,aO]at h;obtain⟨rfl,rfl⟩:=h;have hb:=run_equalIn_bool (P:=P) w 9999 ty a b hu;simp only[binOp,Op.equal,Op.maxDepth,Sem.run_bind,Sem.run_pure,Result.andThen_ok,hb,Result.ok.injEq,and_true,exists_eq_left',aP,Rep]
  trivial
 ·rename_i xs;simp only[aP,Rep]at hx hy;subst hy;split at h;all_goals first
   | (simp at h;done)
   | (rename_i hu
      simp only[ah,aO]at h;obtain⟨rfl,rfl⟩:=h;rcases hx with⟨h0,_⟩|⟨b,o,c,k,rfl,_⟩
      ·omega
      ·have hb:=EY hu (some ⟨b,o,none⟩) xs.length c 0 0 9999 w;rw[eqGuard_at_slice];simp only[binOp,Op.equal,Op.maxDepth,Sem.run_bind,Sem.run_pure,Result.andThen_ok,hb,Result.ok.injEq,and_true,exists_eq_left',aP,Rep];rfl)
 ·rename_i a n c;simp only[aP]at hx hy;subst hx;subst hy;split at h;all_goals first
   | (simp at h;done)
   | (rename_i hu
      simp only[ah,aO]at h;obtain⟨rfl,rfl⟩:=h;have hb:=EY hu a n c 0 0 9999 w;rw[eqGuard_at_slice];simp only[binOp,Op.equal,Op.maxDepth,Sem.run_bind,Sem.run_pure,Result.andThen_ok,hb,Result.ok.injEq,and_true,exists_eq_left',aP,Rep])
 ·simp only[aP]at hx hy;subst hy;obtain⟨b,o,rfl,_⟩:=hx;split at h;all_goals first
   | (simp at h;done)
   | (rename_i hu
      simp only[ah,aO]at h;obtain⟨rfl,rfl⟩:=h;have hb:=fun a=>zo hu a 9999 w
      rw[eqGuard_at_pointer];simp only[binOp,Op.equal,Op.maxDepth,Sem.run_bind,Sem.run_pure,Result.andThen_ok,hb,Result.ok.injEq,and_true,exists_eq_left',aP,Rep];rfl)
 ·simp only[aP]at hx hy;subst hy;obtain⟨b,_,rfl⟩:=hx;split at h;all_goals first
   | (simp at h;done)
   | (rename_i hu
      simp only[ah,aO]at h;obtain⟨rfl,rfl⟩:=h;have hb:=fun a=>zo hu a 9999 w
      rw[eqGuard_at_pointer];simp only[binOp,Op.equal,Op.maxDepth,Sem.run_bind,Sem.run_pure,Result.andThen_ok,hb,Result.ok.injEq,and_true,exists_eq_left',aP,Rep];rfl)
 ·rename_i a;simp only[aP]at hx hy;subst hx;subst hy;split at h;all_goals first
   | (simp at h;done)
   | (rename_i hu
      simp only[ah,aO]at h;obtain⟨rfl,rfl⟩:=h;have hb:=zo hu a 9999 w;rw[eqGuard_at_pointer];simp only[binOp,Op.equal,Op.maxDepth,Sem.run_bind,Sem.run_pure,Result.andThen_ok,hb,Result.ok.injEq,and_true,exists_eq_left',aP,Rep])
 trivial
section
variable {P:Program} {A:f_}
theorem Xj{o:Oper}{t:S}{x:Operand}(ho:o.op = .move x∨o.op = .assign x):gB P A o t ⟨True,pl x,[],ev t x⟩:=
 .pure fun _ t' hr a E hi=>⟨a.eval x,by rcases ho with ho|ho<;>simp[execOp,ho],dK hr▸bP hi x⟩
theorem afU{o:Oper}{t:S}{c x y:Operand}{g:Bool}(ho:o.op = .pick c x y)(hg:ev t c = .d (.bool g)):
  gB P A o t ⟨True,pl c++(pl x++pl y),[],bif g then ev t x else ev t y⟩:=
 .pure fun _ t' hr a E hi=>by
  have hc:=bP hi c;rw[dK (bf hr),hg]at hc
  simp only[aP,Rep]at hc;have hx:=bP hi x;rw[dK (bf (aQ hr))]at hx
  have hy:=bP hi y;rw[dK (aQ (aQ hr))]at hy
  cases g
  ·exact⟨a.eval y,by simp[execOp,ho,hc,asBool],hy⟩
  ·exact⟨a.eval x,by simp[execOp,ho,hc,asBool],hx⟩
theorem ai1{o:Oper}{t:S}{op:BinOp}{ty ty':TypeId}{x y:Operand}{C:Prop}{v:TV}(ho:o.op = .binOp op ty x y ty')(h:afp P op ty (ev t x) (ev t y)=some (C,v)):
  gB P A o t ⟨C,pl x++pl y,[],v⟩:=
 .pure fun hC t' hr a E hi=>by
  have hx:=bP hi x;rw[dK (bf hr)]at hx
  have hy:=bP hi y;rw[dK (aQ hr)]at hy
  obtain⟨r,h1,h2⟩:=aiG h hC hx hy x y E.w;refine⟨r,?_,h2⟩;simp only[execOp,ho];rw[Sem.run_bind,h1];rfl
def unD(op:UnOp):TV→Option TV
 | .d (.int k n)=>match op with
   | .neg=>some (.d (.int k (k.wrap (0-n))))
   | .xor=>some (.d (.int k (aoM k n)))
   | _=>none
 | .d (.bool b)=>match op with
   | .not=>some (.d (.bool !b))
   | _=>none
 | _=>none
theorem alg{o:Oper}{t:S}{op:UnOp}{ty:TypeId}{x:Operand}{v:TV}(ho:o.op = .unOp op ty x)(h:unD op (ev t x)=some v):gB P A o t ⟨True,pl x,[],v⟩:=
 .pure fun _ t' hr a E hi=>by
  have hx:=bP hi x;rw[dK hr]at hx
  revert hx h
  generalize ev t x=tx;intro h hx;unfold unD at h;split at h
  ·simp only[aP,Rep]at hx;split at h
   ·simp only[ah]at h;subst h;refine⟨_,?_,rfl⟩;simp[execOp,ho,hx,Op.unary,Op.intArith]
   ·simp only[ah]at h;subst h;refine⟨_,?_,rfl⟩;simp only[execOp,ho,hx,Op.unary,Op.intBits,Sem.run_bind,Sem.run_pure,Result.andThen_ok,aoM]
   trivial
  ·simp only[aP,Rep]at hx;split at h
   ·simp only[ah]at h;subst h;refine⟨_,?_,rfl⟩;simp[execOp,ho,hx,Op.unary]
   ·simp at h
  trivial
theorem afQ{o:Oper}{t:S}{sr ds:TypeId}{x:Operand}{k k':IntKind}{n:Int}(ho:o.op = .convert sr ds x)(hs:(qE P sr).isSome=true)(hd:knd P ds=some k')(hx:ev t x = .d (.int k n)):
  gB P A o t ⟨True,pl x,[],.d (.int k' (k'.wrap n))⟩:=
 .pure fun _ t' hr a E hi=>by
  have hx':=bP hi x;rw[dK hr,hx]at hx'
  simp only[aP,Rep]at hx';refine⟨_,?_,rfl⟩;unfold knd at hd;split at hd
  ·rename_i q hq;simp only[ah]at hd;subst hd;unfold qE at hs;cases hu:P.underlying sr with
   | none=>simp[hu]at hs
   | some d=>simp only[execOp,ho,hx',convert,Sem.run_bind,run_underlying hu,run_underlying hq,Result.andThen_ok,Conv.intToInt,Sem.run_pure]
  trivial
theorem ai5{o:Oper}{t:S}{x:Operand}(ho:o.op = .nilCheck x)(h:(∃p off,ev t x = .ptr p off)∨(∃e off,ev t x = .ep e off)∨(∃f c,ev t x = .clo f c)):
  gB P A o t ⟨True,pl x,[],ev t x⟩:=
 .pure fun _ t' hr a E hi=>by
  have hx:=bP hi x;rw[dK hr]at hx
  refine⟨a.eval x,?_,hx⟩;rcases h with⟨p,off,h⟩|⟨e,off,h⟩|⟨f,c,h⟩<;>rw[h]at hx<;>simp only[aP]at hx
  ·obtain⟨b,_,hu⟩:=hx;simp[execOp,ho,hu]
  ·obtain⟨b,_,hu,_⟩:=hx;simp[execOp,ho,hu]
  ·obtain⟨us,hu,_⟩:=hx;simp[execOp,ho,hu]
theorem Dv{s f:Nat}{off:Nat}{ft:TypeId}(hf:pO P s f=some (off,ft)){z:Nat}(hz:kM P ft=some z)(hz0:z≠0)(b o:Nat)(w:World):
  (Instr.fieldAt s (.pointer (some ⟨b,o,none⟩)) f).run P w = .ok (.pointer (some ⟨b,o+off,none⟩)) w:=by
 unfold pO at hf;split at hf
 ·rename_i fs hfs;cases hff:fs[f]? with
  | none=>simp_all
  | some g=>
    simp only[hff,bH,ah,aO]at hf;obtain⟨rfl,rfl⟩:=hf;unfold kM at hz;cases hi:P.info? g.type with
    | none=>simp_all
    | some i=>simp only[hi,bH,ah]at hz;simp[Instr.fieldAt,run_underlying hfs,hff,Instr.sureAddr,fieldPlace,sizeOf,typeInfo,hi,hz,hz0,ny]
 trivial
theorem EN{o:Oper}{t:S}{s f:Nat}{x:Operand}{off:Nat}{ft:TypeId}{z:Nat}{v:TV}(ho:o.op = .fieldAddr s x f)(hf:pO P s f=some (off,ft))(hz:kM P ft=some z)(hz0:z≠0)
  (h:(∃p q,ev t x = .ptr p q∧v = .ptr p (q+off))∨(∃e q,ev t x = .ep e q∧v = .ep e (q+off))):gB P A o t ⟨True,pl x,[],v⟩:=
 .pure fun _ t' hr a E hi=>by
  have hx:=bP hi x;rw[dK hr]at hx
  rcases h with⟨p,q,h,rfl⟩|⟨e,q,h,rfl⟩<;>rw[h]at hx<;>simp only[aP]at hx
  ·obtain⟨b,hb,hu⟩:=hx;refine⟨.pointer (some ⟨b,q+off,none⟩),?_,?_⟩
   ·simp[execOp,ho,hu,Dv hf hz hz0]
   ·simp only[aP];simp[*]
  ·obtain⟨b,p,hu,hc⟩:=hx;refine⟨.pointer (some ⟨b,p+q+off,none⟩),?_,?_⟩
   ·simp[execOp,ho,hu,Dv hf hz hz0]
   grind[aP]
theorem xR{t:S}{a:Act}{E:En}(hi:eY A t a E){id k:Nat}{e:TypeId}{es:List (List TV)}{sh:Bool}(ht:t (.o id) = .row e k es sh):
  E.blk (.o id)=none∧∃v us,E.val id=some (k,es.length,v)∧E.w.ownsRow 0 e k v es.length us∧fC E us k 0 es∧(∀u,aP E (.aW id es.length) u→u=v):=by
 have:=hi.h.item (.o id) (by simp);rw[ht]at this
 obtain⟨h0,id',v,us,hid,h1,h2,h3⟩:=this;simp only[Pl.o.injEq]at hid;subst hid;refine⟨h0,v,us,h1,h2,h3,fun u hu=>?_⟩;simp only[aP]at hu
 grind
theorem Ht{t:S}{a:Act}{E:En}(hi:eY A t a E){id k i off:Nat}{e:TypeId}{es:List (List TV)}{sh:Bool}(ht:t (.o id) = .row e k es sh){u:Value}
  (hu:aP E (.qH id es.length i off) u):∃g cap us,E.val id=some (k,es.length,.slice (some ⟨g,0,none⟩) es.length cap)∧u = .pointer (some ⟨g,i*k+off,none⟩)∧
   E.w.ownsRow 0 e k (.slice (some ⟨g,0,none⟩) es.length cap) es.length us∧fC E us k 0 es:=by
 obtain⟨_,v,us,h1,h2,h3,_⟩:=xR hi ht;obtain⟨_,k',c,v',hv,_,he⟩:=hu;rw[h1]at hv
 obtain⟨rfl,rfl,rfl⟩:=hv;rcases h2.2 with⟨h4,_⟩|⟨g,cap,cur,h4,rest⟩
 ·simp_all
 grind
theorem Xk{o:Oper}{t:S}{x:Operand}{id n i q k:Nat}{e:TypeId}{es:List (List TV)}{sh:Bool}(ho:o.op = .nilCheck x)(hx:ev t x = .qH id n i q)(ht:t (.o id) = .row e k es sh):
  gB P A o t ⟨n=es.length,pl x++[.o id],[],.qH id n i q⟩:=.pure fun hn t' hr a E hi=>by
 have hu:=bP hi x;rw[dK (bf hr),hx]at hu
 have ht':t' (.o id) = .row e k es sh:=(aQ hr _ (by simp)).trans ht;subst hn;obtain⟨g,cap,us,_,hu',_⟩:=Ht hi ht' hu;exact⟨a.eval x,by simp[execOp,ho,hu'],hu⟩
theorem He{o:Oper}{t:S}{s f:Nat}{x:Operand}{off:Nat}{ft:TypeId}{z:Nat}{id n i q k:Nat}{e:TypeId}{es:List (List TV)}{sh:Bool}
  (ho:o.op = .fieldAddr s x f) (hf:pO P s f=some (off,ft)) (hz:kM P ft=some z) (hz0:z≠0)
  (h:ev t x = .qH id n i q) (ht:t (.o id) = .row e k es sh):gB P A o t ⟨n=es.length,pl x++[.o id],[],.qH id n i (q+off)⟩:=
 .pure fun hC t' hr a E hi=>by
  have hx:=bP hi x;rw[dK (bf hr),h]at hx
  have ht':t' (.o id) = .row e k es sh:=by simp[*]
  subst hC;obtain⟨g,cap,us,h1,rfl',h2,h3⟩:=Ht hi ht' hx;refine⟨.pointer (some ⟨g,i*k+q+off,none⟩),?_,?_⟩
  ·simp[execOp,ho,rfl',Dv hf hz hz0]
  ·exact⟨rfl,k,_,_,h1,au _,fun _=>⟨g,0,cap,rfl,by grind⟩⟩
theorem yF{ty e k:Nat}(he:qO P ty=some e)(hk:kM P e=some k)(a:Addr)(len cap:Nat)(ik:IntKind)(i:Int)(h0:0≤i)(h1:i<len)(w:World):
  (Instr.indexAt ty (.slice (some a) len cap) (.int ik i)).run P w = .ok (.pointer (some (a.add (i.toNat*k)))) w:=by
 unfold qO at he;split at he
 ·rename_i e' hu;simp only[ah]at he;subst he;unfold kM at hk;cases hi:P.info? e' with
  | none=>simp[hi]at hk
  | some inf=>simp only[hi,bH,ah]at hk;simp[Instr.indexAt,run_underlying hu,asIntOf,h0,h1,sizeOf,typeInfo,hi,hk]
 trivial
theorem QU{o:Oper}{t:S}{ty:TypeId}{x ix:Operand}{e k:Nat}{xs:List (List D)}{ik:IntKind}{i:Int}(ho:o.op = .indexAddr ty x ix)(he:qO P ty=some e)(hk:kM P e=some k)
  (hx:ev t x = .d (.sl xs)) (hix:ev t ix = .d (.int ik i)) :
  gB P A o t ⟨0≤i∧i<xs.length∧(xs.getD i.toNat []).length=k,pl x++pl ix,[],.ep (xs.getD i.toNat []) 0⟩:=
 .pure fun⟨h0,h1,h2⟩ t' hr a E hi=>by
  have hx':=bP hi x;rw[dK (bf hr),hx]at hx'
  have hix':=bP hi ix;rw[dK (aQ hr),hix]at hix'
  simp only[aP,Rep]at hx' hix';have hlt:i.toNat<xs.length:=by omega
  have hg:xs[i.toNat]? = some (xs.getD i.toNat []):=by simp[*]
  rcases hx' with⟨h3,_⟩|⟨b,of,c,k',hu,hc,hrows⟩
  ·omega
  ·obtain⟨h4,h5⟩:=hrows.get hg;have hkk:k'=k:=by omega
   subst hkk;refine⟨.pointer (some ⟨b,of+i.toNat*k',none⟩),?_,?_⟩
   ·simp[execOp,ho,hu,hix',yF he hk _ _ _ _ _ h0 h1,ny]
   grind[aP]
theorem Hl{o:Oper}{t:S}{ty:TypeId}{x ix:Operand}{e k id n:Nat}{e':TypeId}{es:List (List TV)}{sh:Bool}{ik:IntKind}{i:Int}(ho:o.op = .indexAddr ty x ix)(he:qO P ty=some e)(hk:kM P e=some k)
  (hx:ev t x = .aW id n) (hix:ev t ix = .d (.int ik i)) (ht:t (.o id) = .row e' k es sh) :
  gB P A o t ⟨n=es.length∧0≤i∧i<es.length,pl x++(pl ix++[.o id]),[],.qH id n i.toNat 0⟩:=
 .pure fun⟨hn,h0,h1⟩ t' hr a E hi=>by
  have hx':=bP hi x;rw[dK (bf hr),hx]at hx'
  have hix':=bP hi ix;rw[dK (bf (aQ hr)),hix]at hix'
  simp only[aP,Rep]at hix';subst hn;have ht':t' (.o id) = .row e' k es sh:=by simp[*]
  obtain⟨_,v,us,h2,h3,h4,h5⟩:=xR hi ht';have hu:=h5 _ hx';rcases h3.2 with⟨_,h6⟩|⟨g,cap,cur,h6,_⟩
  ·omega
  ·subst h6;refine⟨.pointer (some ⟨g,i.toNat*k,none⟩),?_,?_⟩
   ·simp[execOp,ho,hu,hix',yF he hk _ _ _ _ _ h0 h1,ny]
   ·exact⟨rfl,k,_,_,h2,au _,fun _=>⟨g,0,cap,rfl,by simp⟩⟩
theorem Hf{o:Oper}{t:S}{ty:TypeId}{x ix:Operand}{n e k:Nat}{p:Pl}{q:Nat}{ik:IntKind}{i:Int}(ho:o.op = .indexAddr ty x ix)(he:arE P ty=some (n,e))(hk:kM P e=some k)
  (hx:ev t x = .ptr p q) (hix:ev t ix = .d (.int ik i)):gB P A o t ⟨0≤i∧i<n,pl x++pl ix,[],.ptr p (q+i.toNat*k)⟩:=
 .pure fun⟨h0,h1⟩ t' hr a E hi=>by
  have hx':=bP hi x;rw[dK (bf hr),hx]at hx'
  have hix':=bP hi ix;rw[dK (aQ hr),hix]at hix'
  simp only[aP,Rep]at hx' hix';obtain⟨b,hb,hu⟩:=hx';unfold arE at he;split at he
  ·rename_i n' e' hun;simp only[ah,aO]at he;obtain⟨rfl,rfl⟩:=he;unfold kM at hk;cases jU:P.info? e' with
   | none=>simp_all
   | some inf=>
     simp only[jU,bH,ah]at hk;refine⟨.pointer (some ⟨b,q+i.toNat*k,none⟩),?_,?_⟩
     ·simp[execOp,ho,hu,hix',Instr.indexAt,run_underlying hun,asIntOf,Instr.sureAddr,h0,h1,sizeOf,typeInfo,jU,hk,ny]
     ·simp only[aP];simp[*]
  trivial
theorem JE{o:Oper}{t:S}{ty:TypeId}{x ix:Operand}{n e k:Nat}{ds:List D}{q:Nat}{ik:IntKind}{i:Int}(ho:o.op = .indexAddr ty x ix)(he:arE P ty=some (n,e))(hk:kM P e=some k)
  (hx:ev t x = .ep ds q) (hix:ev t ix = .d (.int ik i)):gB P A o t ⟨0≤i∧i<n,pl x++pl ix,[],.ep ds (q+i.toNat*k)⟩:=
 .pure fun⟨h0,h1⟩ t' hr a E hi=>by
  have hx':=bP hi x;rw[dK (bf hr),hx]at hx'
  have hix':=bP hi ix;rw[dK (aQ hr),hix]at hix'
  simp only[aP,Rep]at hx' hix';obtain⟨b,o',hu,hc⟩:=hx';unfold arE at he;split at he
  ·rename_i n' e' hun;simp only[ah,aO]at he;obtain⟨rfl,rfl⟩:=he;unfold kM at hk;cases jU:P.info? e' with
   | none=>simp_all
   | some inf=>
     simp only[jU,bH,ah]at hk;refine⟨.pointer (some ⟨b,o'+q+i.toNat*k,none⟩),?_,?_⟩
     ·simp[execOp,ho,hu,hix',Instr.indexAt,run_underlying hun,asIntOf,Instr.sureAddr,h0,h1,sizeOf,typeInfo,jU,hk,ny]
     grind[aP]
  trivial
theorem Xa{o:Oper}{t:S}{x:Operand}{i:Nat}{vs:List TV}{v:TV}(ho:o.op = .extract x i)(hx:ev t x = .qh vs)(hv:vs[i]? = some v):gB P A o t ⟨True,pl x,[],v⟩:=
 .pure fun _ t' hr a E hi=>by
  have hx':=bP hi x;rw[dK hr,hx]at hx'
  simp only[aP]at hx';obtain⟨us,hu,hs⟩:=hx';obtain⟨u,h1,h2⟩:=hs.get hv;have h1':us[i]? = some u:=by simp_all
  exact⟨u,by simp[execOp,ho,hu,Instr.extract,h1'],h2⟩
theorem AA{t:S}{a:Act}{E:En}(hi:eY A t a E):∀xs:List Operand,bD E (xs.map (ev t)) (xs.map a.eval)
 | []=>by rfl
 | x::xs=>by exact⟨_,_,rfl,bP hi x,AA hi xs⟩
theorem Oj{t t':S}:∀{xs:List Operand},(∀p∈xs.flatMap pl,t' p=t p)→xs.map (ev t')=xs.map (ev t)
 | [],_=>rfl
 | x::xs,h=>by simp only[aC];rw[dK (fun p hp=>h p (by simp[*])),Oj (fun p hp=>h p (by simp[*]))]
theorem U2{o:Oper}{t:S}{f:FuncId}{caps:List Operand}(ho:o.op = .makeFunc (.func f) #[] caps.toArray):gB P A o t ⟨True,caps.flatMap pl,[],.clo f (caps.map (ev t))⟩:=
 .pure fun _ t' hr a E hi=>by
  have h:=AA hi caps;rw[Oj hr]at h
  refine⟨.func (.func f) #[] (caps.map a.eval).toArray,by simp[execOp,ho,Instr.makeFunc],?_⟩;simp only[aP];simp[*]
end
end Go.Tr

set_option linter.unusedSimpArgs false
namespace Go.Tr
open Go
section
variable {P:Program} {A:f_}
theorem vg{ty:TypeId}(h:qE P ty=some false){a:Addr}{u:Value}{w:World}(hc:w.cell? a=some u):(loadVar ty a).run P w = .ok u w:=by
 unfold qE at h;cases hu:P.underlying ty with
 | none=>simp_all
 | some d=>
   have:(isAgg ty).run P w = .ok false w:=by unfold isAgg;rw[Sem.run_bind,run_underlying hu w];cases d<;>simp_all
   simp[loadVar,this,hc]
theorem u_{ty z:Nat}(h:qE P ty=some true)(hz:kM P ty=some z){b o:Nat}{cs:List Value}(hl:cs.length=z){w:World}(hc:w.rangeAt b o cs):
  (loadVar ty ⟨b,o,none⟩).run P w = .ok (.agg cs.toArray) w:=by
 unfold qE at h;cases hu:P.underlying ty with
 | none=>simp_all
 | some d=>
   refine run_loadVar_mid w b o ty cs d hc hu ?_ ?_
   ·cases d<;>simp_all
   ·subst hl;trivial
theorem dU.range{E:En}{b o:Nat}{xs:List D}(h:dU E b o xs):∃us:List Value,us.length=xs.length∧E.w.rangeAt b o us∧bD E (xs.map .d) us:=by
 induction xs generalizing o with
 | nil=>exact⟨[],rfl,fun j v hv=>by trivial,by rfl⟩
 | cons x xs ih=>
   obtain⟨⟨_,u,hu,hr⟩,h2⟩:=h;obtain⟨us,h3,h4,h5⟩:=ih h2;refine⟨u::us,by simp[*],fun j v hv=>?_,?_⟩
   ·cases j with
    | zero=>simp_all
    | succ j=>
      have:=h4 j v (by trivial)
      grind
   ·simp only[aC,bD,aP]
    grind
theorem dU.sub{E:En}{b o:Nat}{xs:List D}(h:dU E b o xs)(q z:Nat):dU E b (o+q) ((xs.drop q).take z):=
 dU.iI fun i x hx=>by
  have hx':xs[q+i]? = some x:=by grind
  have:=h.get hx'
  grind
theorem cu.sub{E:En}{us:List Value}{o:Nat}{ts:List TV}(h:cu E us o ts)(q z:Nat):cu E us (o+q) ((ts.drop q).take z):=
 cu.iI fun i x hx=>by
  have hx':ts[q+i]? = some x:=by grind
  have:=h.get hx'
  grind
theorem cu.vals{E:En}{us:List Value}{o:Nat}{ts:List TV}(h:cu E us o ts):bD E ts ((us.drop o).take ts.length)∧((us.drop o).take ts.length).length=ts.length:=by
 have hl:((us.drop o).take ts.length).length=ts.length:=by
  cases ts with
  | nil=>simp
  | cons t ts=>
    have:=h.get (i:=ts.length) (t:=(t::ts)[ts.length]) (by simp)
    grind
 refine⟨bD.iI hl fun i t u ht hu=>?_,hl⟩;obtain⟨u',h1,_,h2⟩:=h.get ht
 grind
theorem A_{w:World}{b:Nat}{us:List Value}(h:∀j u,us[j]? = some u→w.cell? ⟨b,j,none⟩ = some u)(o n:Nat):w.rangeAt b o ((us.drop o).take n):=fun j v hv=>by grind
theorem UJ{t:S}{a:Act}{E:En}(hi:eY A t a E){p:Pl}{cs:List TV}(ht:t p = .box cs){q:Nat}{u:Value}(hu:aP E (.ptr p q) u):
  ∃b ty us,u = .pointer (some ⟨b,q,none⟩)∧E.blk p=some b∧E.w.heap[b]? = some (.cells us ty (0,0))∧us.size=cs.length∧cu E us.toList 0 cs:=by
 obtain⟨b,hb,hu⟩:=hu;have hp:∀k,p≠.s k:=by rintro k rfl;rw[hi.h.frees k]at hb;trivial
 have:=hi.h.item p hp;rw[ht]at this
 obtain⟨_,b',ty,us,h1,h2,h3,h4⟩:=this
 grind
theorem sK{w:World}{b:Nat}{us:Array Value}{ty:TypeId}{f:Nat×Nat}(h:w.heap[b]? = some (.cells us ty f))(j:Nat):w.cell? ⟨b,j,none⟩ = us[j]? :=by grind[World.cell?]
theorem Ho{o:Oper}{t:S}{ty:TypeId}{x:Operand}{p:Pl}{q:Nat}{cs:List TV}{v:TV}(ho:o.op = .load ty x)(hx:ev t x = .ptr p q)(ht:t p = .box cs)
  (h:(qE P ty=some false∧cs[q]? = some v)∨(∃z,qE P ty=some true∧kM P ty=some z∧q+z≤cs.length∧v = .agg ((cs.drop q).take z))) :
  gB P A o t ⟨True,pl x++[p],[],v⟩:=
 .pure fun _ t' hr a E hi=>by
  have hx':=bP hi x;rw[dK (bf hr),hx]at hx'
  have ht':t' p = .box cs:=(aQ hr _ (by simp)).trans ht;obtain⟨b,ty',us,hu,hb,hh,hs,hc⟩:=UJ hi ht' hx';rcases h with⟨h1,h2⟩|⟨z,h1,h2,h3,rfl⟩
  ·obtain⟨u,h4,h5,h6⟩:=hc.get h2;refine⟨u,?_,h6⟩;have hcell:E.w.cell? ⟨b,q,none⟩ = some u:=by grind[sK]
   simp[execOp,ho,hu,Instr.loadAt,Instr.sureAddr,vg h1 hcell]
  ·have hc':=(hc.sub q z).vals;simp only[bT]at hc';have hl:((cs.drop q).take z).length=z:=by simp;omega
   rw[hl]at hc'
   refine⟨.agg ((us.toList.drop q).take z).toArray,?_,?_⟩
   ·have:=u_ h1 h2 hc'.2 (w:=E.w) (A_ (b:=b) (fun j u hj=>by rw[sK hh];simpa using hj) q z);simp only[execOp,ho,hu,Instr.loadAt,Instr.sureAddr,Sem.run_bind,Sem.run_pure,Result.andThen_ok,this]
   ·simp only[aP];exact⟨_,rfl,hc'.1⟩
theorem KG{o:Oper}{t:S}{ty:TypeId}{x:Operand}{e:List D}{q:Nat}{v:TV}(ho:o.op = .load ty x)(hx:ev t x = .ep e q)
  (h:(qE P ty=some false∧∃y,e[q]? = some y∧v = .d y)∨(∃z,qE P ty=some true∧kM P ty=some z∧q+z≤e.length∧v = .agg (((e.drop q).take z).map .d))) :
  gB P A o t ⟨True,pl x,[],v⟩:=
 .pure fun _ t' hr a E hi=>by
  have hx':=bP hi x;rw[dK hr,hx]at hx'
  simp only[aP]at hx';obtain⟨b,of,hu,hc⟩:=hx';rcases h with⟨h1,y,h2,rfl⟩|⟨z,h1,h2,h3,rfl⟩
  ·obtain⟨_,u,h4,h5⟩:=hc.get h2;refine⟨u,?_,?_⟩
   ·simp[execOp,ho,hu,Instr.loadAt,Instr.sureAddr,vg h1 h4]
   trivial
  ·obtain⟨us,h4,h5,h6⟩:=(hc.sub q z).range;have hl:us.length=z:=by grind
   refine⟨.agg us.toArray,?_,?_⟩
   ·grind[execOp,Instr.loadAt,Instr.sureAddr,Sem.run_bind,Sem.run_pure,Result.andThen_ok,u_]
   ·simp only[aP];exact⟨_,rfl,h6⟩
theorem Hr{o:Oper}{t:S}{ty:TypeId}{x:Operand}{id n i q k:Nat}{e:TypeId}{es:List (List TV)}{sh:Bool}{v:TV}(ho:o.op = .load ty x)(hx:ev t x = .qH id n i q)(ht:t (.o id) = .row e k es sh)
  (h:(qE P ty=some false∧(es.getD i [])[q]? = some v)∨(∃z,qE P ty=some true∧kM P ty=some z∧q+z≤(es.getD i []).length∧v = .agg (((es.getD i []).drop q).take z))) :
  gB P A o t ⟨n=es.length∧i<es.length,pl x++[.o id],[],v⟩:=
 .pure fun⟨hn,hil⟩ t' hr a E hi=>by
  have hx':=bP hi x;rw[dK (bf hr),hx]at hx'
  have ht':t' (.o id) = .row e k es sh:=(aQ hr _ (by simp)).trans ht;subst hn;obtain⟨g,cap,us,h1,hu,h2,h3⟩:=Ht hi ht' hx';have hg:es[i]? = some (es.getD i []):=by simp[*]
  obtain⟨h4,h5⟩:=h3.get hg;simp only[bT]at h5;have hcell:∀j u,us[j]? = some u→E.w.cell? ⟨g,j,none⟩ = some u:=fun j u hj=>by rw[h2.cellAt j (by rw[←h2.1];grind)];omega
  rcases h with⟨h6,h7⟩|⟨z,h6,h7,h8,rfl⟩
  ·obtain⟨u,h8,h9,h10⟩:=h5.get h7;refine⟨u,?_,h10⟩;simp[execOp,ho,hu,Instr.loadAt,Instr.sureAddr,vg h6 (hcell _ _ h8)]
  ·have hc':=(h5.sub q z).vals;have hl:(((es.getD i []).drop q).take z).length=z:=by grind
   rw[hl]at hc'
   refine⟨.agg ((us.drop (i*k+q)).take z).toArray,?_,?_⟩
   ·simp only[execOp,ho,hu,Instr.loadAt,Instr.sureAddr,Sem.run_bind,Sem.run_pure,Result.andThen_ok,u_ h6 h7 hc'.2 (A_ hcell _ z)]
   ·simp only[aP];exact⟨_,rfl,hc'.1⟩
theorem ZK{o:Oper}{t:S}{x:Operand}{ty e:TypeId}{xs:List (List D)}(ho:o.op = .call {callee:=.builtin .len,args:=#[x],argTypes:=#[ty]})(he:qO P ty=some e)(hx:ev t x = .d (.sl xs)):
  gB P A o t ⟨True,pl x,[],.d (.int .i64 xs.length)⟩:=
 .pure fun _ t' hr a E hi=>by
  have hx':=bP hi x;rw[dK hr,hx]at hx'
  simp only[aP,Rep]at hx';unfold qO at he;split at he
  ·rename_i e' hu;have hlen:∃ad c,a.eval x = .slice ad xs.length c:=by grind
   obtain⟨ad,c,h⟩:=hlen;refine⟨_,?_,rfl⟩;simp[execOp,ho,resolve,invoke,builtin,h,Builtin.len_,run_underlying hu,goInt]
  trivial
theorem Xb{o:Oper}{t:S}{x:Operand}{ty e:TypeId}{ad:Option Addr}{n c:Nat}(ho:o.op = .call {callee:=.builtin .len,args:=#[x],argTypes:=#[ty]})(he:qO P ty=some e)(hx:ev t x = .c (.slice ad n c)):
  gB P A o t ⟨True,pl x,[],.d (.int .i64 n)⟩:=
 .pure fun _ t' hr a E hi=>by
  have hx':=bP hi x;rw[dK hr,hx]at hx'
  simp only[aP]at hx';unfold qO at he;split at he
  ·rename_i e' hu;refine⟨_,?_,rfl⟩;simp[execOp,ho,resolve,invoke,builtin,hx',Builtin.len_,run_underlying hu,goInt]
  trivial
theorem Xd{o:Oper}{t:S}{x:Operand}{ty e:TypeId}{id n k:Nat}{e':TypeId}{es:List (List TV)}{sh:Bool}(ho:o.op = .call {callee:=.builtin .len,args:=#[x],argTypes:=#[ty]})(he:qO P ty=some e)(hx:ev t x = .aW id n)
  (ht:t (.o id) = .row e' k es sh):gB P A o t ⟨n=es.length,pl x++[.o id],[],.d (.int .i64 n)⟩:=
 .pure fun hC t' hr a E hi=>by
  have hx':=bP hi x;rw[dK (bf hr),hx]at hx'
  have ht':t' (.o id) = .row e' k es sh:=by simp[*]
  subst hC;obtain⟨_,v,us,h2,h3,h4,h5⟩:=xR hi ht';have hv:=h5 _ hx';unfold qO at he;split at he
  ·rename_i e' hu;have hlen:∃ad c,a.eval x = .slice ad es.length c:=by
    rcases h3.2 with⟨rfl,h0⟩|⟨g,cap,cur,rfl,_⟩
    ·simp[*]
    simp[*]
   obtain⟨ad,c,h⟩:=hlen;refine⟨_,?_,rfl⟩;simp[execOp,ho,resolve,invoke,builtin,h,Builtin.len_,run_underlying hu,goInt]
  trivial
theorem Xe{o:Oper}{t:S}{x:Operand}{ty:TypeId}{s:ByteArray}(ho:o.op = .call {callee:=.builtin .len,args:=#[x],argTypes:=#[ty]})(he:isStr P ty=true)(hx:ev t x = .d (.str s)):
  gB P A o t ⟨True,pl x,[],.d (.int .i64 s.size)⟩:=
 .pure fun _ t' hr a E hi=>by
  have hx':=bP hi x;rw[dK hr,hx]at hx'
  simp only[aP,Rep]at hx';unfold isStr at he;split at he
  ·rename_i hu;refine⟨_,?_,rfl⟩;simp[execOp,ho,resolve,invoke,builtin,hx',Builtin.len_,run_underlying hu,goInt]
  trivial
end
end Go.Tr
