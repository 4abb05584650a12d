/-
  What functions of the program compute, stated as contracts over plain data; the conditions of each stand in its own statement.
-/
import Derived.Test.YtkikielfhjoogaaGreatDoorZA04
import Derived.Maps.RangeRun
set_option linter.unusedVariables false
set_option linter.unusedSimpArgs false
namespace Go.Tr
open Go
def OV:List Int→TV
 | [k]=>.d (.int .i64 k)
 | ks=>.agg (ks.map fun n=>.d (.int .i64 n))
def ae2:List TV→Option (List Int)
 | []=>some []
 | .d (.int k n)::l=>match ae2 l with
   | some ks=>if k = .i64 then some (n::ks)else none
   | none=>none
 | _::_=>none
def toKey:TV→Option (List Int)
 | .d (.int k n)=>if k = .i64 then some [n]else none
 | .agg vs=>match ae2 vs with
   | some ks=>if ks.length=1 then none else some ks
   | none=>none
 | _=>none
def QH(P:Program)(ty:TypeId)(n:Nat):Option TypeId:=
 match P.underlying ty with
 | some (.map k e)=>if Rl P k n=true then some e else none
 | _=>none
theorem zV{P:Program}{ty e:TypeId}{n:Nat}(h:QH P ty n=some e):∃kt,P.underlying ty=some (.map kt e)∧Rl P kt n=true:=by grind[QH]
theorem YX{E:En}:∀{vs:List TV} {ks:List Int} {us:List Value},ae2 vs=some ks→bD E vs us→us=ks.map (Value.int .i64)
 | [],ks,us,h,hr=>by grind[ae2,bD]
 | v::vs,ks,us,h,hr=>by
   obtain⟨u,us',rfl,h1,h2⟩:=hr;unfold ae2 at h;split at h
   ·trivial
   ·rename_i k n l heq;obtain⟨rfl,rfl⟩:=heq;split at h
    ·rename_i ks' hk;split at h
     ·rename_i hq;simp only[ah]at h;subst h;subst hq;rw[YX hk h2,h1];rfl
     trivial
    trivial
   trivial
theorem KA{E:En}{v:TV}{ks:List Int}{u:Value}(h:toKey v=some ks)(hr:aP E v u):u=gW ks:=by
 unfold toKey at h;split at h
 ·split at h
  ·rename_i hq;simp only[ah]at h;subst h;subst hq
   trivial
  trivial
 ·split at h
  ·rename_i ks' hk;split at h
   ·trivial
   ·rename_i hl;simp only[ah]at h;subst h;obtain⟨us,rfl,hus⟩:=hr;rw[zS hl,←YX hk hus]
  trivial
 trivial
theorem ad3(E:En)(ks:List Int):aP E (OV ks) (gW ks):=by
 have h:∀l:List Int,bD E (l.map fun n=>.d (.int .i64 n)) (l.map (Value.int .i64)):=fun l=>by
  induction l with
  | nil=>rfl
  | cons n l ih=>exact⟨_,_,rfl,by rfl,ih⟩
 match ks with
 | [k]=>rfl
 | []=>simp only[OV,gW,aP];grind
 | a::b::l=>simp only[OV,gW,aP];grind
theorem E5(ks:List Int):Instr.sameBits 10000 (gW ks) (gW ks)=true:=by
 match ks with
 | [k]=>simp[gW,Instr.sameBits]
 | []=>rfl
 | a::b::l=>
   rw[zS (by simp)];simp only[Instr.sameBits,beq_self_eq_true,jq,bM];intro x hx
   grind[Instr.sameBits]
theorem qp:∀{l:List MapEntry},l.Pairwise (fun x y=>x.key≠y.key)→∀{x y:MapEntry},x∈l→y∈l→x.key=y.key→x=y
 | [],_,_,_,hx,_,_=>by trivial
 | a::r,hp,x,y,hx,hy,h=>by
   obtain⟨h1,h2⟩:=dM.1 hp;rcases aF.1 hx with ex|hx'
   ·grind
   ·rcases aF.1 hy with ey|hy'
    ·grind
    ·exact qp h2 hx' hy' h
section
variable {P:Program} {A:f_}
theorem eY.ajG{t:S}{a:Act}{E:En}(h:eY A t a E){d:Nat}(hd:t (.o d) = .none):
  ∃E':En,E'.w=E.w.alloc (.map #[] 0)∧eY A (upd t (.o d) (.fO [] 0 none none)) a E'∧aP E' (.mref d) (.map (some E.w.heap.size)):=by
 have hfree:=h.h.item (.o d) (by simp);rw[hd]at hfree
 obtain⟨hb0,hv0⟩:=hfree d rfl
 let E':En:={w:=E.w.alloc (.map #[] 0),St:=E.St,blk:=fun p=>if p = .o d then some E.w.heap.size else E.blk p,val:=fun i=>if i=d then some (0,0,undef)else E.val i}
 have hold:∀b,b<E.w.heap.size→E'.w.heap[b]? = E.w.heap[b]? :=by grind[heap_alloc_old]
 have x:oQ E E':=by
  refine⟨fun _ _ h=>h,fun b o hst=>h_ (hold b (h.h.o_ b o hst)),fun id b _ he=>?_,fun i b he=>by trivial,fun i b he=>by trivial,fun id k c v _ hv=>⟨c,v,?_,au _,fun _=>rfl⟩⟩
  ·grind
  grind
 have hown:E'.own (.o d)=some E.w.heap.size:=by grind[En.own]
 have agu:∀q,q≠.o d→E'.own q=E.own q:=by grind[En.mV]
 have hH:lD E' (upd t (.o d) (.fO [] 0 none none)):=by
  refine h.h.change (by simp) x (fun b o hst=>.inl hst) (fun q hq=>by grind) (fun id hid=>by
   grind) (by grind) (fun q b hq hb=>hold b (h.h.size q b hb)) (fun b hb=>?_) ?_ (fun b o hst hb=>?_)
  ·rw[hown]at hb;simp at hb;subst hb;exact⟨by simp[E'],.inr (au _)⟩
  ·exact⟨d,E.w.heap.size,#[],0,[],0,undef,rfl,by grind,heap_alloc_new E.w _,.refl _,rfl,MapKept.stamped_empty 0,by grind,trivial,by simp⟩
  ·rw[hown]at hb;simp at hb;exact absurd (h.h.o_ _ _ hst) (by omega)
 refine⟨E',rfl,h.step hH x (h.fr.next rfl rfl rfl (by grind) (fun b hb _ _=>hold b (dA hb h.fr.size)) (fun i=>by rfl) (fun id b hb=>?_) (fun _ _ h=>h) (fun _ _ h=>.inl h)) (fun k=>Ag (by simp) k),?_⟩
 ·grind
 ·simp only[aP];grind
theorem yh{t:S}{a:Act}{E:En}(hi:eY A t a E){id c:Nat}{es:List (List Int×TV)}{pd:Option (List Int)}{s:Option jB}(ht:t (.o id) = .fO es c pd s):
  ∃b l clock l' ty v,E.blk (.o id)=some b∧E.w.heap[b]? = some (.map l clock)∧l'.Perm l.toList∧jW E es l'∧MapKept.Stamped l clock∧E.val id=some (ty,c,v)∧ajN l pd v∧∀x,s=some x→x=⟨b,l,clock⟩:=by
 have:=hi.h.item (.o id) (by simp);rw[ht]at this
 obtain⟨id',b,l,clock,l',ty,v,hid,h⟩:=this
 grind
theorem eY.KN{t:S}{a:Act}{E:En}(hi:eY A t a E){id b c c' ty:Nat}{v v':Value}{es es':List (List Int×TV)}{pd pd':Option (List Int)}{s:Option jB}{l l2:Array MapEntry}{l':List MapEntry}{clock clock2:Nat}(ht:t (.o id) = .fO es c pd s)
  (hb:E.blk (.o id)=some b) (hg:E.w.heap[b]? = some (.map l clock)) (hv:E.val id=some (ty,c,v)) (hp:l'.Perm l2.toList) (hm:jW E es' l') (hs:MapKept.Stamped l2 clock2) (hc:c≤c') (hcv:c=c'→v'=v) (Va:ajN l2 pd' v') :
  ∃E':En,E'.w = {E.w with heap:=E.w.heap.setIfInBounds b (.map l2 clock2)}∧oQ E E'∧eY A (upd t (.o id) (.fO es' c' pd' none)) a E'∧E'.val id=some (ty,c',v'):=by
 have nI:E.own (.o id)=some b:=by grind[En.own]
 let E':En:={E with w:={E.w with heap:=E.w.heap.setIfInBounds b (.map l2 clock2)},val:=fun i=>if i=id then some (ty,c',v')else E.val i}
 have hoth:∀b',b'≠b→E'.w.heap[b']? = E.w.heap[b']? :=by grind
 have hst:∀b' o',E.St b' o'→b'≠b:=fun b' o' h e=>by
  subst e;obtain⟨e2,k2,es2,h1,_⟩:=hi.h.sep _ o' h _ nI
  simp_all
 have x:oQ E E':=⟨fun _ _ h=>h,fun b' o' h=>h_ (hoth b' (hst b' o' h)),fun _ _ _ h=>h,fun _ _ h=>h,fun _ _ h=>h,fun i k c0 v0 _ h=>by
  grind⟩
 have hown:∀q,E'.own q=E.own q:=fun q=>by
  by_cases e:q = .o id
  ·grind[En.own]
  ·exact En.mV rfl (fun i hid=>by
    grind)
 have hH:lD E' (upd t (.o id) (.fO es' c' pd' none)):=by
  refine hi.h.change (by simp) x (fun b o h=>.inl h) (fun _ _=>rfl) (fun i hid=>by
   grind) (by grind) (fun q b' hq hb'=>hoth b' fun e=>hq (by subst e;exact hi.h.inj _ _ _ hb' nI)) (fun b' hb'=>?_) ?_ (fun b' o' hs hb'=>?_)
  ·grind
  ·exact⟨id,b,l2,clock2,l',ty,v',rfl,hb,by grind,hp,hm.up x,hs,by grind,Va,by simp⟩
  grind
 refine⟨E',rfl,x,hi.step hH x (hi.fr.next rfl rfl rfl (by grind) (fun b' h1 _ h3=>hoth b' fun e=>?_) (fun _=>rfl) (fun j b' h=>.inl (by rwa [hown]at h)) (fun _ _ h=>h) (fun _ _ h=>.inl h)) (fun k=>Ag (by simp) k),by grind⟩;subst e;exact(hi.fr.new id b' nI).elim (fun h=>by omega) (fun⟨j,h⟩=>h3 j h)
theorem U3{o:Oper}{t:S}{ty d:Nat}(ho:o.op = .makeMap ty none):gB P A o t ⟨t (.o d) = .none,[.o d],[(.o d,.fO [] 0 none none)],.mref d⟩:=fun hC t' hr a E hi=>by
 have ht':t' (.o d) = .none:=by simp_all
 obtain⟨E',hw,hinv,hrel⟩:=hi.ajG ht';refine⟨_,_,E',?_,.inl rfl,hinv,hrel⟩;simp[execOp,ho,Instr.makeMap,hw]
def MQ(ck:Bool)(m:Option TV)(z:TV):TV:=
 match ck with
 | true=>.qh [match m with|some v=>v|none=>z,.d (.bool m.isSome)]
 | false=>match m with|some v=>v|none=>z
theorem Jf{e:TypeId}{z:Value}(hz:qm P e=some z)(w:World):(zeroValue e).run P w = .ok z w:=by
 unfold qm at hz;cases jU:P.info? e with
 | none=>simp_all
 | some inf=>simp only[jU,bY]at hz;simp[zeroValue,typeInfo,jU,hz]
theorem Ee{t':S}{a:Act}{E:En}(hi:eY A t' a E){x ix:Operand}{id c:Nat}{es:List (List Int×TV)}{pd:Option (List Int)}{s:Option jB}{k:List Int}(hx:ev t' x = .mref id)(ht:t' (.o id) = .fO es c pd s)(hix:toKey (ev t' ix)=some k){kt:TypeId}(hkt:Rl P kt k.length=true)(hlen:∀y∈es,y.1.length=k.length):
  ∃b l clock l' ty v,a.eval x = .map (some b)∧a.eval ix=gW k∧E.blk (.o id)=some b∧E.w.heap[b]? = some (.map l clock)∧l'.Perm l.toList∧jW E es l'∧MapKept.Stamped l clock∧E.val id=some (ty,c,v)∧ajN l pd v∧
   (((Instr.findKey kt (gW k) l.toList).run P E.w = .ok none E.w∧kJ es k=none∧(∀b∈l.toList,b.key≠gW k)∧∀b∈l',b.key≠gW k)∨
     ∃j e v0,(Instr.findKey kt (gW k) l.toList).run P E.w = .ok (some (j,e.val)) E.w∧l[j]? = some e∧e.key=gW k∧kJ es k=some v0∧aP E v0 e.val∧e∈l'):=by
 have h1:=bP hi x;rw[hx]at h1
 simp only[aP]at h1;obtain⟨b0,hb0,hu⟩:=h1;have h2:=KA hix (bP hi ix);obtain⟨b,l,clock,l',ty,v,hb,hg,hp,hm,hs,hv,Va,_⟩:=yh hi ht;rw[hb]at hb0
 simp only[ah]at hb0;subst hb0;refine⟨b,l,clock,l',ty,v,hu,h2,hb,hg,hp,hm,hs,hv,Va,?_⟩;have hall:∀e∈l.toList,∃k':List Int,k'.length=k.length∧e.key=gW k':=fun e he=>by obtain⟨k',v',g1,g2,_⟩:=Ie hm e (hp.mem_iff.2 he);exact⟨k',hlen _ g1,g2⟩
 rcases Kw hkt rfl E.w l.toList hall with⟨g1,g2⟩|⟨j,e,g1,g2,g3⟩
 ·rcases wM (k:=k) hm with⟨q1,q2⟩|⟨v0,e,q1,q2,q3,_⟩
  ·exact .inl ⟨g1,q1,g2,q2⟩
  ·exact absurd q3 (g2 e (hp.mem_iff.1 q2))
 ·have hej:l[j]? = some e:=by simpa using g2
  have hel:e∈l.toList:=bF g2;rcases wM (k:=k) hm with⟨q1,q2⟩|⟨v0,e2,q1,q2,q3,q4⟩
  ·exact absurd g3 (q2 e (hp.mem_iff.2 hel))
  ·have hnd:(l.toList.map (·.key)).Nodup:=hs.2.2;have:e2=e:=by
    have hpw:=((MapKept.stamped_iff l clock).1 hs).2.2;exact qp hpw (hp.mem_iff.1 q2) hel (q3.trans g3.symm)
   subst this;exact .inr ⟨j,e2,v0,g1,hej,g3,q1,q4,q2⟩
end
end Go.Tr

namespace Go.Tr
open Go
def rQ(n:Nat)(es:List (List Int×TV)):Prop:=∀y∈es,y.1.length=n
section
variable {P:Program} {A:f_}
theorem Xf{o:Oper}{t:S}{ty e:TypeId}{x ix:Operand}{ck:Bool}{id c:Nat}{es:List (List Int×TV)}{pd:Option (List Int)}{s:Option jB}{k:List Int}{z:Value}(ho:o.op = .lookup ty x ix ck)(hm:QH P ty k.length=some e)(hz:qm P e=some z)
  (hx:ev t x = .mref id) (ht:t (.o id) = .fO es c pd s) (hix:toKey (ev t ix)=some k):gB P A o t ⟨rQ k.length es,pl x++(pl ix++[.o id]),[],MQ ck (kJ es k) (kK z)⟩:=
 .pure fun hC t' hr a E hi=>by
  have hx':ev t' x = .mref id:=(dK (bf hr)).trans hx;have hix':toKey (ev t' ix)=some k:=by rw[dK (bf (aQ hr))];omega
  have ht':t' (.o id) = .fO es c pd s:=(aQ (aQ hr) _ (by simp)).trans ht;obtain⟨kt,hu,hkt⟩:=zV hm;obtain⟨b,l,clock,l',ty',v,hu1,hu2,hb,hg,hp,hrel,hs,hv,Va,hf⟩:=Ee hi hx' ht' hix' hkt hC;have hzero:=Jf hz E.w;have hck:=qR hkt l.isEmpty E.w;rcases hf with⟨g1,g2,g3,_⟩|⟨j,a',v0,g1,g2,g3,g4,g5,_⟩
  ·refine⟨match ck with|true=>.tuple #[z,.bool false]|false=>z,?_,?_⟩
   ·cases ck<;>simp[execOp,ho,hu1,hu2,Instr.lookup,Sem.run_bind,run_underlying hu,MapKept.run_getObj_map hg,hck,g1,hzero]
   ·rw[g2];cases ck with
    | true=>simp only[MQ,aP];exact⟨#[z,.bool false],rfl,by simp only[bD];exact⟨_,_,rfl,oI E z,_,_,rfl,by rfl,rfl⟩⟩
    | false=>simp[MQ,oI]
  ·refine⟨match ck with|true=>.tuple #[a'.val,.bool true]|false=>a'.val,?_,?_⟩
   ·cases ck<;>simp[execOp,ho,hu1,hu2,Instr.lookup,Sem.run_bind,run_underlying hu,MapKept.run_getObj_map hg,hck,g1]
   ·rw[g4];cases ck with
    | true=>simp only[MQ,aP];exact⟨#[a'.val,.bool true],rfl,by simp only[bD];exact⟨_,_,rfl,g5,_,_,rfl,by rfl,rfl⟩⟩
    | false=>trivial
theorem C_{l:Array MapEntry}{clock:Nat}(hs:MapKept.Stamped l clock){j:Nat}{a:MapEntry}(hj:l[j]? = some a){kv:Value}(ha:a.key=kv)(f:MapEntry→MapEntry):(l.modify j f).toList=vI kv f l.toList:=by
 have hnd:(l.toList.map (·.key)).Nodup:=hs.2.2;have hj':l.toList[j]? = some a:=by simp[*]
 rw[Array.toList_modify];clear hj hs;generalize l.toList=L at hnd hj'
 induction L generalizing j with
 | nil=>trivial
 | cons b L ih=>grind[FT,List.modify_zero_cons,acL,List.mem_of_getElem?,List.modify_succ_cons,Us]
theorem aeU{kv:Value}{f:MapEntry→MapEntry}{l l':List MapEntry}(h:l.Perm l'):(vI kv f l).Perm (vI kv f l'):=h.map _
theorem abg{E:En}{es:List (List Int×TV)}{k:List Int}{v:TV}{u:Value}(hr:aP E v u){l:Array MapEntry}{l':List MapEntry}{clock:Nat}(hp:l'.Perm l.toList)(hm:jW E es l')(hs:MapKept.Stamped l clock){j:Nat}{a:MapEntry}(hj:l[j]? = some a)(ha:a.key=gW k):
  (vI (gW k) (fun e=>{e with key:=gW k,val:=u}) l').Perm (l.modify j fun e=>{e with key:=gW k,val:=u}).toList∧jW E (oq es k v) (vI (gW k) (fun e=>{e with key:=gW k,val:=u}) l')∧MapKept.Stamped (l.modify j fun e=>{e with key:=gW k,val:=u}) clock:=by
 refine⟨?_,?_,?_⟩
 ·rw[C_ hs hj ha];simp_all[aeU]
 ·refine XR (E:=E) (k:=k) (v:=v) (u:=u) (f:=fun e=>{e with key:=gW k,val:=u}) hr (fun a=>And.intro rfl rfl) hm ((hp.map _).nodup_iff.2 hs.2.2) ⟨a,hp.mem_iff.2 (bF (by simpa using hj)),ha⟩
 ·exact MapKept.stamped_modify hs j _ (fun _ _=>rfl) (fun e _ he=>by simp_all)
theorem acD{E:En}{es:List (List Int×TV)}{k:List Int}{v:TV}{u:Value}(hr:aP E v u){l:Array MapEntry}{l':List MapEntry}{clock:Nat}(hp:l'.Perm l.toList)(hm:jW E es l')(hs:MapKept.Stamped l clock)(h1:∀b∈l.toList,b.key≠gW k)(h2:∀b∈l',b.key≠gW k):
  (l'++[(⟨gW k,u,clock⟩:MapEntry)]).Perm (l.push ⟨gW k,u,clock⟩).toList∧jW E (oq es k v) (l'++[⟨gW k,u,clock⟩])∧MapKept.Stamped (l.push ⟨gW k,u,clock⟩) (clock+1):=by
 refine⟨?_,XQ rfl hr hm h2,MapKept.stamped_push hs h1⟩
 simp_all[Array.toList_push,List.Perm.append_right]
theorem CB{o:Oper}{t:S}{ty e:TypeId}{x ix y:Operand}{id c:Nat}{es:List (List Int×TV)}{pd:Option (List Int)}{s:Option jB}{k:List Int}{vy:TV}(ho:o.op = .mapUpdate ty x ix y∨o.op = .insert ty x ix y)(hm:QH P ty k.length=some e)
  (hx:ev t x = .mref id) (ht:t (.o id) = .fO es c pd s) (hix:toKey (ev t ix)=some k) (hy:ev t y=vy):gB P A o t ⟨rQ k.length es,pl x++(pl ix++(pl y++[.o id])),[(.o id,.fO (oq es k vy) c none none)],.junk⟩:=fun hC t' hr a E hi=>by
 have hx':ev t' x = .mref id:=(dK (bf hr)).trans hx;have hix':toKey (ev t' ix)=some k:=by rw[dK (bf (aQ hr))];omega
 have hy':ev t' y=vy:=(dK (bf (aQ (aQ hr)))).trans hy;have ht':t' (.o id) = .fO es c pd s:=(aQ (aQ (aQ hr)) _ (by simp)).trans ht;obtain⟨kt,hu,hkt⟩:=zV hm;obtain⟨b,l,clock,l',ty',v,hu1,hu2,hb,hg,hp,hrel,hs,hv,Va,hf⟩:=Ee hi hx' ht' hix' hkt hC;have h3:=bP hi y;rw[hy']at h3
 have hck:=qR hkt false E.w;rcases hf with⟨g1,g2,g3,g4⟩|⟨j,a',v0,g1,g2,g3,g4,g5,g6⟩
 ·obtain⟨q1,q2,q3⟩:=acD h3 hp hrel hs g3 g4;obtain⟨E',hw',x',hinv,_⟩:=hi.KN (l2:=l.push ⟨gW k,a.eval y,clock⟩) (clock2:=clock+1) (c':=c) (v':=v) (pd':=none) ht' hb hg hv q1 q2 q3 (au _) (fun _=>rfl) trivial;refine⟨.skip,undef,E',?_,.inr ⟨rfl,rfl⟩,hinv,by simp only[aP]⟩
  rcases ho with ho|ho<;>simp[execOp,ho,hu1,hu2,Instr.mapUpdate,Sem.run_bind,run_underlying hu,MapKept.run_getObj_map hg,MapKept.run_setObj_map _ hg,hck,g1,hw']
 ·obtain⟨q1,q2,q3⟩:=abg h3 hp hrel hs g2 g3;obtain⟨E',hw',x',hinv,_⟩:=hi.KN (l2:=l.modify j fun e=>{e with key:=gW k,val:=a.eval y}) (clock2:=clock) (c':=c) (v':=v) (pd':=none) ht' hb hg hv q1 q2 q3 (au _) (fun _=>rfl) trivial;refine⟨.skip,undef,E',?_,.inr ⟨rfl,rfl⟩,hinv,by simp only[aP]⟩;have hst:(Instr.keyThatStays (gW k) (gW k)).run P E.w = .ok (gW k) E.w:=by
   simp[Instr.keyThatStays,E5]
  rcases ho with ho|ho<;>simp[execOp,ho,hu1,hu2,Instr.mapUpdate,Sem.run_bind,run_underlying hu,MapKept.run_getObj_map hg,MapKept.run_setObj_map _ hg,hck,g1,g2,g3,hst,hw']
theorem QY{o:Oper}{t:S}{ty e:TypeId}{x ix:Operand}{id c:Nat}{es:List (List Int×TV)}{pd:Option (List Int)}{s:Option jB}{k:List Int}{z:Value}(ho:o.op = .mapEntry ty x ix)(hm:QH P ty k.length=some e)(hz:qm P e=some z)
  (hx:ev t x = .mref id) (ht:t (.o id) = .fO es c pd s) (hix:toKey (ev t ix)=some k):gB P A o t ⟨rQ k.length es,pl x++(pl ix++[.o id]),[(.o id,.fO (oq es k (MQ false (kJ es k) (kK z))) (c+1) (some k) none)],.qh [MQ false (kJ es k) (kK z),.aW id (c+1)]⟩:=fun hC t' hr a E hi=>by
 have hx':ev t' x = .mref id:=(dK (bf hr)).trans hx;have hix':toKey (ev t' ix)=some k:=by rw[dK (bf (aQ hr))];omega
 have ht':t' (.o id) = .fO es c pd s:=(aQ (aQ hr) _ (by simp)).trans ht;obtain⟨kt,hu,hkt⟩:=zV hm;obtain⟨b,l,clock,l',ty',v,hu1,hu2,hb,hg,hp,hrel,hs,hv,Va,hf⟩:=Ee hi hx' ht' hix' hkt hC;have hck:=qR hkt false E.w;have hzero:=Jf hz E.w;rcases hf with⟨g1,g2,g3,g4⟩|⟨j,a',v0,g1,g2,g3,g4,g5,g6⟩
 ·obtain⟨q1,q2,q3⟩:=acD (oI E z) hp hrel hs g3 g4;obtain⟨E',hw',x',hinv,hval⟩:=hi.KN (l2:=l.push ⟨gW k,z,clock⟩) (clock2:=clock+1) (c':=c+1) (v':=.int .i64 clock) (pd':=some k) ht' hb hg hv q1 q2 q3 (by omega) (fun h=>by omega) ⟨⟨gW k,z,clock⟩,by simp,rfl,rfl⟩;refine⟨.value (.tuple #[z,.int .i64 clock]),_,E',?_,.inl rfl,by simp_all[over,MQ],?_⟩
  ·simp[execOp,ho,hu1,hu2,Instr.mapEntry,Sem.run_bind,run_underlying hu,MapKept.run_getObj_map hg,MapKept.run_setObj_map _ hg,hck,g1,hw',hzero,goInt]
  ·simp only[g2,MQ,aP];refine⟨_,rfl,?_⟩;simp only[bD];exact⟨_,_,rfl,oI E' z,_,_,rfl,by simp only[aP];exact⟨rfl,_,_,_,hval,au _,fun _=>rfl⟩,rfl⟩
 ·have hst:(Instr.keyThatStays (gW k) (gW k)).run P E.w = .ok (gW k) E.w:=by
   simp[Instr.keyThatStays,E5]
  have hf:(l.modify j fun e=>{e with key:=gW k})=l.modify j fun e=>{e with key:=gW k,val:=a'.val}:=by
   apply Array.ext_getElem?;intro i;simp only[Array.getElem?_modify];by_cases hij:j=i
   ·subst hij;simp[g2]
   ·simp[hij]
  obtain⟨q1,q2,q3⟩:=abg g5 hp hrel hs g2 g3;obtain⟨E',hw',x',hinv,hval⟩:=hi.KN (l2:=l.modify j fun e=>{e with key:=gW k,val:=a'.val}) (clock2:=clock) (c':=c+1) (v':=.int .i64 a'.born) (pd':=some k) ht' hb hg hv q1 q2 q3 (by omega) (fun h=>by omega)
   ⟨⟨gW k,a'.val,a'.born⟩,by
     rw[C_ hs g2 g3];unfold vI;exact ak.2 ⟨a',bF (by simpa using g2),by simp[g3]⟩,rfl,rfl⟩
  refine⟨.value (.tuple #[a'.val,.int .i64 a'.born]),_,E',?_,.inl rfl,by simpa only[over,g4,MQ]using hinv,?_⟩
  ·simp[execOp,ho,hu1,hu2,Instr.mapEntry,Sem.run_bind,run_underlying hu,MapKept.run_getObj_map hg,MapKept.run_setObj_map _ hg,hck,g1,g2,g3,hst,hw',hf,goInt]
  ·simp only[g4,MQ,aP];refine⟨_,rfl,?_⟩;simp only[bD];exact⟨_,_,rfl,g5.up x',_,_,rfl,by simp only[aP];exact⟨rfl,_,_,_,hval,au _,fun _=>rfl⟩,rfl⟩
theorem RU:∀{l:List MapEntry},(l.map (·.born)).Nodup→∀{x y:MapEntry},x∈l→y∈l→x.born=y.born→x=y
 | [],_,_,_,hx,_,_=>by trivial
 | a::r,hn,x,y,hx,hy,h=>by
   rw[aC,bG]at hn
   rcases aF.1 hx with ex|hx'
   ·grind
   ·rcases aF.1 hy with ey|hy'
    ·simp_all
    ·exact RU hn.2 hx' hy' h
theorem Lu{o:Oper}{t:S}{ty:TypeId}{x ix y:Operand}{id c n:Nat}{es:List (List Int×TV)}{s:Option jB}{k:List Int}{vy:TV}(ho:o.op = .entryStore ty x ix y)
  (hx:ev t x = .mref id) (ht:t (.o id) = .fO es c (some k) s) (hix:ev t ix = .aW id n) (hy:ev t y=vy):gB P A o t ⟨n=c,pl x++(pl ix++(pl y++[.o id])),[(.o id,.fO (oq es k vy) c (some k) none)],.junk⟩:=fun hC t' hr a E hi=>by
 have hx':ev t' x = .mref id:=(dK (bf hr)).trans hx;have hix':ev t' ix = .aW id n:=(dK (bf (aQ hr))).trans hix;have hy':ev t' y=vy:=(dK (bf (aQ (aQ hr)))).trans hy;have ht':t' (.o id) = .fO es c (some k) s:=(aQ (aQ (aQ hr)) _ (by simp)).trans ht;subst hC;have h1:=bP hi x;rw[hx']at h1
 simp only[aP]at h1;obtain⟨b0,hb0,hu1⟩:=h1;have h2:=bP hi ix;rw[hix']at h2
 obtain⟨b,l,clock,l',ty',v,hb,hg,hp,hrel,hs,hv,⟨a',ha1,ha2,ha3⟩,_⟩:=yh hi ht';rw[hb]at hb0
 simp only[ah]at hb0;subst hb0;simp only[aP]at h2;obtain⟨_,k2,c2,v2,hv2,_,hcv⟩:=h2;rw[hv]at hv2
 simp only[ah,aO]at hv2;obtain⟨rfl,rfl,rfl⟩:=hv2;have hu2:a.eval ix = .int .i64 a'.born:=(hcv rfl).trans ha3;have h3:=bP hi y;rw[hy']at h3
 have hfi:∃j,l.findIdx? (fun e=>(e.born:Int)==(a'.born:Int))=some j∧l[j]? = some a':=by
  cases hj:l.findIdx? (fun e=>(e.born:Int)==(a'.born:Int))with
  | none=>
    rw[Array.findIdx?_eq_none_iff]at hj
    have:=hj a' (by simpa using ha1);simp at this
  | some j=>
    obtain⟨h4,h5,_⟩:=Array.findIdx?_eq_some_iff_getElem.1 hj;refine⟨j,rfl,?_⟩;have h6:(l[j]).born=a'.born:=by
     have:((l[j]).born:Int)=a'.born:=by simpa using h5
     omega
    have h7:=hs.2.1;have h8:l[j]=a':=by
     have hm:l[j]∈l.toList:=by simp
     exact RU h7 hm ha1 h6
    rw[eH h4,h8]
 obtain⟨j,hj1,hj2⟩:=hfi;have hf:(l.modify j fun e=>{e with val:=a.eval y})=l.modify j fun e=>{e with key:=gW k,val:=a.eval y}:=by
  apply Array.ext_getElem?;intro i;simp only[Array.getElem?_modify];by_cases hij:j=i
  ·subst hij;simp[hj2,←ha2]
  ·simp[hij]
 obtain⟨q1,q2,q3⟩:=abg h3 hp hrel hs hj2 ha2;obtain⟨E',hw',x',hinv,hval⟩:=hi.KN (l2:=l.modify j fun e=>{e with key:=gW k,val:=a.eval y}) (clock2:=clock) (c':=n) (v':=v) (pd':=some k) ht' hb hg hv q1 q2 q3 (au _) (fun _=>rfl)
  ⟨⟨gW k,a.eval y,a'.born⟩,by
    rw[C_ hs hj2 ha2];unfold vI;exact ak.2 ⟨a',ha1,by simp[ha2]⟩,rfl,ha3⟩
 refine⟨.skip,undef,E',?_,.inr ⟨rfl,rfl⟩,hinv,by simp only[aP]⟩;simp[execOp,ho,hu1,hu2,Instr.entryStore,Sem.run_bind,MapKept.run_getObj_map hg,MapKept.run_setObj_map _ hg,asInt,asIntOf,hj1,hw',hf]
theorem afR{o:Oper}{t:S}{x:Operand}{ty kt e:TypeId}{id c:Nat}{es:List (List Int×TV)}{pd:Option (List Int)}{s:Option jB}(ho:o.op = .call {callee:=.builtin .len,args:=#[x],argTypes:=#[ty]})(he:P.underlying ty=some (.map kt e))(hx:ev t x = .mref id)
  (ht:t (.o id) = .fO es c pd s):gB P A o t ⟨True,pl x++[.o id],[],.d (.int .i64 es.length)⟩:=
 .pure fun hC t' hr a E hi=>by
  have hx':=bP hi x;rw[dK (bf hr),hx]at hx'
  have ht':t' (.o id) = .fO es c pd s:=(aQ hr _ (by simp)).trans ht;simp only[aP]at hx';obtain⟨b0,hb0,hu1⟩:=hx';obtain⟨b,l,clock,l',ty',v,hb,hg,hp,hrel,hs,hv,_⟩:=yh hi ht';rw[hb]at hb0
  simp only[ah]at hb0;subst hb0;have hl:l.size=es.length:=by rw[←XP hrel,hp.length_eq];simp
  refine⟨.int .i64 es.length,?_,by rfl⟩;simp[execOp,ho,resolve,invoke,builtin,Builtin.len_,hu1,Sem.run_bind,run_underlying he,MapKept.run_getObj_map hg,hl,goInt]
open Classical in
theorem erase_filter{l:Array MapEntry}{clock:Nat}(hs:MapKept.Stamped l clock){j:Nat}{a:MapEntry}(hj:l[j]? = some a){kv:Value}(ha:a.key=kv):(l.eraseIdxIfInBounds j).toList=l.toList.filter fun e=>decide (e.key≠kv):=by
 have hnd:(l.toList.map (·.key)).Nodup:=hs.2.2;have hlt:j<l.size:=(aZ.1 hj).1;have hj':l.toList[j]? = some a:=by simp_all
 unfold Array.eraseIdxIfInBounds;rw[dif_pos hlt,Array.toList_eraseIdx];generalize l.toList=L at hnd hj';clear hlt hj
 induction L generalizing j with
 | nil=>rfl
 | cons b L ih=>
   obtain⟨n1,n2⟩:=FT hnd;cases j with
   | zero=>simp at hj';subst hj';rw[List.eraseIdx_cons_zero,dI,if_neg (by simp[ha])];rw[jP.2 fun c hc=>by simpa using fun e:c.key=kv=>n1 c hc (e.trans ha.symm)]
   | succ j=>
     have hj2:L[j]? = some a:=by simpa using hj'
     have hne :¬b.key=kv:=fun e=>n1 a (bF hj2) (ha.trans e.symm)
     rw[List.eraseIdx_cons_succ,ih n2 hj2,dI,if_pos (by simpa using hne)]
theorem W_{o:Oper}{t:S}{ty e kty:TypeId}{x ix:Operand}{id c:Nat}{es:List (List Int×TV)}{pd:Option (List Int)}{s:Option jB}{k:List Int}(ho:o.op = .call {callee:=.builtin .delete,args:=#[x,ix],argTypes:=#[ty,kty]})(hm:QH P ty k.length=some e)
  (hx:ev t x = .mref id) (ht:t (.o id) = .fO es c pd s) (hix:toKey (ev t ix)=some k):gB P A o t ⟨rQ k.length es,pl x++(pl ix++[.o id]),[(.o id,.fO (aak es k) c none none)],.qh []⟩:=fun hC t' hr a E hi=>by
 classical
 have hx':ev t' x = .mref id:=(dK (bf hr)).trans hx;have hix':toKey (ev t' ix)=some k:=by rw[dK (bf (aQ hr))];omega
 have ht':t' (.o id) = .fO es c pd s:=(aQ (aQ hr) _ (by simp)).trans ht;obtain⟨kt,hu,hkt⟩:=zV hm;obtain⟨b,l,clock,l',ty',v,hu1,hu2,hb,hg,hp,hrel,hs,hv,Va,hf⟩:=Ee hi hx' ht' hix' hkt hC;have hck:=qR hkt l.isEmpty E.w;have hdel:=XO (k:=k) hrel;rcases hf with⟨g1,g2,g3,g4⟩|⟨j,a',v0,g1,g2,g3,g4,g5,g6⟩
 ·have e1:l'.filter (fun a=>decide (a.key≠gW k))=l':=jP.2 fun a ha=>by simpa using g4 a ha
  rw[e1]at hdel
  obtain⟨E',hw',x',hinv,_⟩:=hi.KN (l2:=l) (clock2:=clock) (c':=c) (v':=v) (pd':=none) ht' hb hg hv hp hdel hs (au _) (fun _=>rfl) trivial;refine⟨.value (.tuple #[]),_,E',?_,.inl rfl,hinv,by simp only[aP];exact⟨#[],rfl,by simp[bD]⟩⟩
  simp[execOp,ho,resolve,invoke,builtin,Builtin.delete_,hu1,hu2,Sem.run_bind,run_underlying hu,MapKept.run_getObj_map hg,MapKept.run_setObj_map _ hg,hck,g1,hw']
 ·have hpf:(l'.filter fun a=>decide (a.key≠gW k)).Perm (l.eraseIdxIfInBounds j).toList:=by
   rw[erase_filter hs g2 g3];exact hp.filter _
  obtain⟨E',hw',x',hinv,_⟩:=hi.KN (l2:=l.eraseIdxIfInBounds j) (clock2:=clock) (c':=c) (v':=v) (pd':=none) ht' hb hg hv hpf hdel (MapKept.stamped_erase hs j) (au _) (fun _=>rfl) trivial;refine⟨.value (.tuple #[]),_,E',?_,.inl rfl,hinv,by simp only[aP];exact⟨#[],rfl,by simp[bD]⟩⟩
  simp[execOp,ho,resolve,invoke,builtin,Builtin.delete_,hu1,hu2,Sem.run_bind,run_underlying hu,MapKept.run_getObj_map hg,MapKept.run_setObj_map _ hg,hck,g1,hw']
end
end Go.Tr

namespace Go.Tr
open Go
section
variable {P:Program} {A:f_}
theorem eY.snap{t:S}{a:Act}{E:En}(hi:eY A t a E){id c:Nat}{es:List (List Int×TV)}{pd:Option (List Int)}{s0:Option jB}(ht:t (.o id) = .fO es c pd s0):
  ∃s:jB,eY A (upd t (.o id) (.fO es c pd (some s))) a E∧E.blk (.o id)=some s.m∧E.w.heap[s.m]? = some (.map s.l s.clock)∧MapKept.Stamped s.l s.clock∧∃l',l'.Perm s.l.toList∧jW E es l':=by
 obtain⟨b,l,clock,l',ty,v,hb,hg,hp,hrel,hs,hv,Va,_⟩:=yh hi ht;have nI:E.own (.o id)=some b:=by simp_all[En.own]
 have hst:∀b' o',E.St b' o'→b'≠b:=fun b' o' h e=>by
  subst e;obtain⟨e2,k2,es2,h1,_⟩:=hi.h.sep _ o' h _ nI
  simp_all
 have hH:lD E (upd t (.o id) (.fO es c pd (some ⟨b,l,clock⟩))):=by
  refine hi.h.change (by simp) (Ext.refl _ _) (fun b o h=>.inl h) (fun _ _=>rfl) (fun _ _=>rfl) (au _) (fun _ _ _ _=>rfl) (fun b' hb'=>⟨hi.h.size _ _ hb',.inl hb'⟩) ?_ (fun b' o' hs hb'=>?_)
  ·exact⟨id,b,l,clock,l',ty,v,rfl,hb,hg,hp,hrel,hs,hv,Va,fun x hx=>by simp_all⟩
  grind
 exact⟨⟨b,l,clock⟩,⟨hH,hi.fr,fun k tv hk=>hi.sl k tv (by trivial),hi.defers,hi.size⟩,hb,hg,hs,l',hp,hrel⟩
theorem eY.aco{t:S}{a:Act}{E:En}(h:eY A t a E){d id:Nat}(hd:t (.o d) = .none){s:jB}(hs:MapKept.Stamped s.l s.clock){es:List (List Int×TV)}{l':List MapEntry}(hp:l'.Perm s.l.toList)(hrel:jW E es l'):
  ∃E':En,E'.w=E.w.alloc (.mapIter (some s.m) s.clock #[] s.clock)∧eY A (upd t (.o d) (.yt id s (es.map (·.1)) none)) a E'∧aP E' (.ptr (.o d) 0) (.pointer (some ⟨E.w.heap.size,0,none⟩)):=by
 have hfree:=h.h.item (.o d) (by simp);rw[hd]at hfree
 obtain⟨hb0,hv0⟩:=hfree d rfl
 let E':En:={w:=E.w.alloc (.mapIter (some s.m) s.clock #[] s.clock),St:=E.St,blk:=fun p=>if p = .o d then some E.w.heap.size else E.blk p,val:=E.val}
 have hold:∀b,b<E.w.heap.size→E'.w.heap[b]? = E.w.heap[b]? :=fun b hb=>(MapKept.heap_alloc E.w _).2 b hb
 have x:oQ E E':=by
  refine⟨fun _ _ h=>h,fun b o hst=>h_ (hold b (h.h.o_ b o hst)),fun id b _ he=>?_,fun i b he=>by trivial,fun i b he=>by trivial,fun _ _ c v _ hv=>⟨c,v,hv,au _,fun _=>rfl⟩⟩
  grind
 have hown:E'.own (.o d)=some E.w.heap.size:=by grind[En.own]
 have agu:∀q,q≠.o d→E'.own q=E.own q:=fun q hq=>En.mV (by grind) (fun _ _=>rfl)
 have hH:lD E' (upd t (.o d) (.yt id s (es.map (·.1)) none)):=by
  refine h.h.change (by simp) x (fun b o hst=>.inl hst) (fun q hq=>by grind) (fun id hid=>rfl) (by grind) (fun q b hq hb=>hold b (h.h.size q b hb)) (fun b hb=>?_) ?_ (fun b o hst hb=>?_)
  ·rw[hown]at hb;simp at hb;subst hb;exact⟨by simp[E'],.inr (au _)⟩
  ·refine⟨fun id hid=>?_,E.w.heap.size,#[],by grind,(MapKept.heap_alloc E.w _).1,?_,hs.1,by simp⟩
   ·grind
   ·have h1:=(hp.map (·.key)).symm;rw[JO hrel]at h1
    have e1:(s.l.toList.filter fun x=>!(#[]:Array Nat).contains x.born)=s.l.toList:=jP.2 fun _ _=>by simp
    rw[e1,aY]
    trivial
  ·rw[hown]at hb;simp at hb;subst hb
   exact absurd (h.h.o_ _ _ hst) (by omega)
 refine⟨E',rfl,h.step hH x (h.fr.next rfl rfl rfl (by grind) (fun b hb _ _=>hold b (dA hb h.fr.size)) (fun i=>by rfl) (fun id b hb=>?_) (fun _ _ h=>h) (fun _ _ h=>.inl h)) (fun k=>Ag (by simp) k),?_⟩
 ·grind
 ·simp only[aP];grind
def O_(es:List (List Int×TV))(s:jB):It→Prop
 | .fO es' _ _ (some s')=>es'=es∧s'=s
 | .BM es' s'=>es'=es∧s'=s
 | _=>False
theorem TF{t:S}{a:Act}{E:En}(hi:eY A t a E){id:Nat}{es:List (List Int×TV)}{s:jB}(h:O_ es s (t (.o id))):
  E.w.heap[s.m]? = some (.map s.l s.clock)∧MapKept.Stamped s.l s.clock∧∃l',l'.Perm s.l.toList∧jW E es l':=by
 unfold O_ at h;split at h
 ·rename_i ht;obtain⟨b,l,clock,l',ty,v,hb,hg,hp,hrel,hs,hv,Va,hsn⟩:=yh hi ht
  grind
 ·rename_i ht;obtain⟨rfl,rfl⟩:=h;have:=hi.h.item (.o id) (by simp);rw[ht]at this
  exact⟨this.2.2.1,this.2.2.2.1,this.2.2.2.2⟩
 trivial
theorem ahG{o:Oper}{t:S}{ty kt e:TypeId}{x:Operand}{id c d:Nat}{es:List (List Int×TV)}{pd:Option (List Int)}{s0:Option jB}(ho:o.op = .range ty x)(hty:P.underlying ty=some (.map kt e))(hx:ev t x = .mref id)(ht:t (.o id) = .fO es c pd s0)(hd:t (.o d) = .none):
  ∀t',(∀p∈pl x++[.o id,.o d],t' p=t p)→∀a E,eY A t' a E→∃(s:jB) (u:Value) (E':En),(execOp a.eval o).run P E.w = .ok (.value u) E'.w∧eY A (over t' [(.o d,.yt id s (es.map (·.1)) none),(.o id,.fO es c pd (some s))]) a E'∧aP E' (.ptr (.o d) 0) u:=fun t' hr a E hi=>by
 have hx':ev t' x = .mref id:=(dK (bf hr)).trans hx;have ht':t' (.o id) = .fO es c pd s0:=(aQ hr _ (by simp)).trans ht;have hd':t' (.o d) = .none:=(aQ hr _ (by simp)).trans hd;have h1:=bP hi x;rw[hx']at h1
 simp only[aP]at h1;obtain⟨b0,hb0,hu1⟩:=h1;obtain⟨s,hi2,hb,hg,hs,l',hp,hrel⟩:=hi.snap ht';rw[hb]at hb0
 simp only[ah]at hb0;subst hb0;have hne:Pl.o d≠.o id:=fun e=>by rw[e,ht']at hd';simp at hd'
 obtain⟨E',hw',hi3,hrl⟩:=hi2.aco (d:=d) (id:=id) (by simp[upd,hne,hd']) hs hp hrel;refine⟨s,_,E',?_,hi3,hrl⟩;have:=run_range_map (P:=P) E.w ty kt e s.m s.l s.clock hty hg;simp[execOp,ho,hu1,Sem.run_bind,this,hw']
theorem OU{t:S}{a:Act}{E:En}(hi:eY A t a E){d id:Nat}{s:jB}{left:List (List Int)}{cur:Option (List Int)}(ht:t (.o d) = .yt id s left cur):E.val d=none∧∃r seen,E.blk (.o d)=some r∧E.w.heap[r]? = some (.mapIter (some s.m) s.clock seen s.clock)∧ajo s left cur seen:=by
 have:=hi.h.item (.o d) (by simp);rw[ht]at this
 exact⟨this.1 d rfl,this.2⟩
theorem eY.agL{t:S}{a:Act}{E:En}(hi:eY A t a E){d id r:Nat}{s:jB}{left left':List (List Int)}{cur cur':Option (List Int)}{seen seen':Array Nat}{w1:World}(ht:t (.o d) = .yt id s left cur)(hb:E.blk (.o d)=some r)(hg:E.w.heap[r]? = some (.mapIter (some s.m) s.clock seen s.clock))
  (hw1:w1=E.w∨w1=E.w.drew) (hok:ajo s left' cur' seen') :
  ∃E':En,E'.w=ChangeMaps.setBlock w1 r (.mapIter (some s.m) s.clock seen' s.clock)∧oQ E E'∧eY A (upd t (.o d) (.yt id s left' cur')) a E':=by
 obtain⟨hv0,_⟩:=OU hi ht;have hlt:r<E.w.heap.size:=(aZ.1 hg).1;have nI:E.own (.o d)=some r:=by simp_all[En.own]
 have hh:w1.heap=E.w.heap:=by rcases hw1 with rfl|rfl<;>rfl
 let E':En:={E with w:=ChangeMaps.setBlock w1 r (.mapIter (some s.m) s.clock seen' s.clock)}
 have hheap:E'.w.heap=E.w.heap.setIfInBounds r (.mapIter (some s.m) s.clock seen' s.clock):=by grind[ChangeMaps.setBlock]
 have hoth:∀b',b'≠r→E'.w.heap[b']? = E.w.heap[b']? :=fun b' hne=>by grind
 have hst:∀b' o',E.St b' o'→b'≠r:=fun b' o' h e=>by
  subst e;obtain⟨e2,k2,es2,h1,_⟩:=hi.h.sep _ o' h _ nI
  simp_all
 have x:oQ E E':=⟨fun _ _ h=>h,fun b' o' h=>h_ (hoth b' (hst b' o' h)),fun _ _ _ h=>h,fun _ _ h=>h,fun _ _ h=>h,fun _ _ c v _ h=>⟨c,v,h,au _,fun _=>rfl⟩⟩
 have hown:∀q,E'.own q=E.own q:=fun q=>En.mV rfl (fun _ _=>rfl)
 have hsz:E'.w.heap.size=E.w.heap.size:=by simp[*]
 have hH:lD E' (upd t (.o d) (.yt id s left' cur')):=by
  refine hi.h.change (by simp) x (fun b o h=>.inl h) (fun _ _=>rfl) (fun _ _=>rfl) (by omega) (fun q b' hq hb'=>hoth b' fun e=>hq (by subst e;exact hi.h.inj _ _ _ hb' nI)) (fun b' hb'=>?_) ?_ (fun b' o' hs hb'=>?_)
  ·simp_all
  ·exact⟨fun j hj=>by grind,r,seen',hb,by simp[*],hok⟩
  grind
 have hos:E'.w.os=E.w.os∧E'.w.tape=E.w.tape∧E'.w.output=E.w.output:=by rcases hw1 with rfl|rfl<;>exact⟨rfl,rfl,rfl⟩
 refine⟨E',rfl,x,hi.step hH x (hi.fr.next hos.1 hos.2.1 hos.2.2 (by omega) (fun b' h1 _ h3=>hoth b' fun e=>?_) (fun _=>rfl) (fun j b' h=>.inl (by rwa [hown]at h)) (fun _ _ h=>h) (fun _ _ h=>.inl h)) (fun k=>Ag (by simp) k)⟩;subst e;exact(hi.fr.new d b' nI).elim (fun h=>by omega) (fun⟨j,h⟩=>h3 j h)
def Yc(d id:Nat)(s:jB)(left:List (List Int)):Option (List Int)→List (Pl×It)
 | none=>[]
 | some k=>[(.o d,.yt id s (left.erase k) (some k))]
def wR:Option (List Int)→TV
 | none=>.qh [.d (.bool false)]
 | some _=>.qh [.d (.bool true),.junk,.junk]
def Vp(left:List (List Int)):Option (List Int)→Prop
 | none=>left = []
 | some k=>k∈left
theorem ZP{left:List (List Int)}{L:List MapEntry}(h:(L.map (·.key)).Perm (left.map gW)){e:MapEntry}(he:e∈L)(hb:(L.map (·.born)).Nodup):∃k∈left,e.key=gW k∧((L.filter fun x=>!(x.born==e.born)).map (·.key)).Perm ((left.erase k).map gW):=by
 obtain⟨k,hk,hke⟩:=ak.1 (h.mem_iff.1 (ak.2 ⟨e,he,rfl⟩));refine⟨k,hk,hke.symm,?_⟩;have hL:L.Perm (e::L.filter fun x=>!(x.born==e.born)):=by
  clear h
  induction L with
  | nil=>trivial
  | cons a L ih=>
    rw[aC,bG]at hb
    rcases aF.1 he with rfl|he
    ·rw[dI,if_neg (by simp)];rw[jP.2 fun x hx=>by simpa using fun e2:x.born=e.born=>hb.1 (ak.2 ⟨x,hx,e2⟩)]
    ·have hne:a.born≠e.born:=fun e2=>hb.1 (ak.2 ⟨e,he,e2.symm⟩)
     rw[dI,if_pos (by simpa using hne)];exact((ih he hb.2).cons a).trans (List.Perm.swap _ _ _)
 have hR:left.Perm (k::left.erase k):=lg hk;have h2:=(hL.map (·.key)).symm.trans (h.trans (hR.map gW))
 simp_all
theorem ajH{o:Oper}{t:S}{x:Operand}{d id:Nat}{es:List (List Int×TV)}{s:jB}{left:List (List Int)}{cur:Option (List Int)}(ho:o.op = .next x false)(hx:ev t x = .ptr (.o d) 0)(hd:t (.o d) = .yt id s left cur)(hm:O_ es s (t (.o id))):
  ∀t',(∀p∈pl x++[.o d,.o id],t' p=t p)→∀a E,eY A t' a E→∃(k:Option (List Int)) (u:Value) (E':En),Vp left k∧(execOp a.eval o).run P E.w = .ok (.value u) E'.w∧eY A (over t' (Yc d id s left k)) a E'∧aP E' (wR k) u:=fun t' hr a E hi=>by
 have hx':ev t' x = .ptr (.o d) 0:=(dK (bf hr)).trans hx;have hd':t' (.o d) = .yt id s left cur:=(aQ hr _ (by simp)).trans hd;have hm':O_ es s (t' (.o id)):=by simp[*]
 have h1:=bP hi x;rw[hx']at h1
 simp only[aP]at h1;obtain⟨r0,hr0,hu1⟩:=h1;obtain⟨_,r,seen,hb,hg,⟨o1,o2,o3⟩⟩:=OU hi hd';rw[hb]at hr0
 simp only[ah]at hr0;subst hr0;obtain⟨hmg,hs,l',hp,hrel⟩:=TF hi hm';obtain⟨b,l,clock⟩:=s;simp only at o1 o2 o3 hg hmg hs hp;rcases run_next_at (P:=P) E.w o.type r b clock clock seen l clock hg hmg o2 (au _)with⟨q1,q2⟩|⟨e,q1,w1,q2,q3⟩
 ·refine⟨none,.tuple #[.bool false],E,?_,?_,hi,by simp only[wR,aP];exact⟨_,rfl,by simp[bD,aP,Rep]⟩⟩
  ·have h0:(l.toList.filter fun x=>!seen.contains x.born) = []:=by
    simp_all[leftOf,Array.eq_empty_of_size_eq_zero]
   rw[h0]at o1
   simp_all[Vp]
  simp_all[execOp,Sem.run_bind]
 ·have heL:e∈l.toList.filter fun x=>!seen.contains x.born:=by simp_all[leftOf]
  have hel:=(bK.1 heL).1;have hnb:((l.toList.filter fun x=>!seen.contains x.born).map (·.born)).Nodup:=hs.2.1.sublist (lI.map _);obtain⟨k,hk,hke,hperm⟩:=ZP o1 heL hnb;have hok:ajo ⟨b,l,clock⟩ (left.erase k) (some k) (seen.push e.born):=by
   refine⟨?_,o2,fun k' hk'=>?_⟩
   ·have:(l.toList.filter fun x=>!(seen.push e.born).contains x.born)=(l.toList.filter fun x=>!seen.contains x.born).filter fun x=>!(x.born==e.born):=by
     rw[mF];refine iy fun x _=>?_
     rw[Array.contains_push,Bool.not_or,oC]
    simp only at this⊢;rw[this];exact hperm
   ·simp only[ah]at hk';subst hk';exact⟨e,hel,hke,by simp⟩
  obtain⟨E',hw',x',hi2⟩:=hi.agL hd' hb hg q2 hok;refine⟨some k,.tuple #[.bool true,e.key,e.val],E',hk,?_,hi2,by simp only[wR,aP];exact⟨_,rfl,by simp only[bD,aP,Rep];exact⟨_,_,rfl,rfl,_,_,rfl,trivial,_,_,rfl,trivial,rfl⟩⟩⟩
  simp_all[execOp,Sem.run_bind]
theorem Sv{o:Oper}{t:S}{x:Operand}{d id:Nat}{es:List (List Int×TV)}{s:jB}{left:List (List Int)}{k:List Int}{v:TV}(ho:o.op = .entry x)(hx:ev t x = .ptr (.o d) 0)(hd:t (.o d) = .yt id s left (some k))(hm:O_ es s (t (.o id)))(hk:kJ es k=some v):
  gB P A o t ⟨True,pl x++[.o d,.o id],[],.qh [OV k,v]⟩:=
 .pure fun _ t' hr a E hi=>by
  have hx':ev t' x = .ptr (.o d) 0:=(dK (bf hr)).trans hx;have hd':t' (.o d) = .yt id s left (some k):=(aQ hr _ (by simp)).trans hd;have hm':O_ es s (t' (.o id)):=by simp[*]
  have h1:=bP hi x;rw[hx']at h1
  simp only[aP]at h1;obtain⟨r0,hr0,hu1⟩:=h1;obtain⟨_,r,seen,hb,hg,⟨o1,o2,o3⟩⟩:=OU hi hd';rw[hb]at hr0
  simp only[ah]at hr0;subst hr0;obtain⟨hmg,hs,l',hp,hrel⟩:=TF hi hm';obtain⟨b,l,clock⟩:=s;simp only at o1 o2 o3 hg hmg hs hp;obtain⟨e,he1,he2,he3⟩:=o3 k rfl;obtain⟨ao3,aoj⟩:∃q:Array Nat,seen=q.push e.born:=by
   refine⟨seen.pop,?_⟩
   grind
  subst aoj;have hrun:=run_entry_at (P:=P) E.w r b clock ao3 l clock e hg hmg he1 hs.2.1;rcases wM (k:=k) hrel with⟨g1,_⟩|⟨v0,a0,g1,g2,g3,g4⟩
  ·simp_all
  ·rw[hk]at g1
   simp only[ah]at g1;subst g1;have:a0=e:=qp ((MapKept.stamped_iff l clock).1 hs).2.2 (hp.mem_iff.1 g2) he1 (g3.trans he2.symm);subst this;refine⟨.tuple #[a0.key,a0.val],by simp[execOp,ho,hu1,Sem.run_bind,hrun],?_⟩;simp only[aP];refine⟨_,rfl,?_⟩;simp only[bD];exact⟨_,_,rfl,by rw[he2];exact ad3 E k,_,_,rfl,g4,rfl⟩
end
end Go.Tr
