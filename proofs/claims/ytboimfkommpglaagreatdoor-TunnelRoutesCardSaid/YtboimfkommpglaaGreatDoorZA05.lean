/-
  What functions of the program compute, stated as contracts over plain data; the conditions of each stand in its own statement.
-/
import Derived.Test.YtboimfkommpglaaGreatDoorZA04
import Derived.Maps.RangeRun
set_option linter.unusedSimpArgs false
namespace Go.Tr
open Go
def Pz:List Int→TV
 | [k]=>.d (.int .i64 k)
 | ks=>.agg (ks.map fun n=>.d (.int .i64 n))
def adQ:List TV→Option (List Int)
 | []=>some []
 | .d (.int k n)::l=>match adQ l with
   | some ks=>if k = .i64 then some (n::ks)else none
   | none=>none
 | _::_=>none
def toKey:TV→Option (List Int)
 | .d (.int k n)=>if k = .i64 then some [n]else none
 | .agg vs=>match adQ vs with
   | some ks=>if ks.length=1 then none else some ks
   | none=>none
 | _=>none
def YR(P:Program)(ty:TypeId)(n:Nat):Option TypeId:=
 match P.underlying ty with
 | some (.map k e)=>if UU P k n=true then some e else none
 | _=>none
theorem IC{P:Program}{ty e:TypeId}{n:Nat}(h:YR P ty n=some e):∃kt,P.underlying ty=some (.map kt e)∧UU P kt n=true:=by
 grind[YR]
theorem Zm{E:En}:∀{vs:List TV} {ks:List Int} {us:List Value},adQ vs=some ks→aP E vs us→us=ks.map (Value.int .i64)
 | [],ks,us,h,hr=>by
   grind[adQ,aP]
 | v::vs,ks,us,h,hr=>by
   obtain⟨u,us',rfl,h1,h2⟩:=hr;unfold adQ at h;split at h
   ·trivial
   ·rename_i k n l heq;obtain⟨rfl,rfl⟩:=heq;split at h
    ·rename_i ks' hk;split at h
     ·rename_i hq;simp only[Option.some.injEq]at h;subst h;subst hq;rw[Zm hk h2,h1];rfl
     trivial
    trivial
   trivial
theorem V5{E:En}{v:TV}{ks:List Int}{u:Value}(h:toKey v=some ks)(hr:aA E v u):u=gY ks:=by
 unfold toKey at h;split at h
 ·split at h
  ·rename_i hq;simp only[Option.some.injEq]at h;subst h;subst hq
   trivial
  trivial
 ·split at h
  ·rename_i ks' hk;split at h
   ·trivial
   ·rename_i hl;simp only[Option.some.injEq]at h;subst h;obtain⟨us,rfl,hus⟩:=hr;rw[Fa hl,←Zm hk hus]
  trivial
 trivial
theorem ade(E:En)(ks:List Int):aA E (Pz ks) (gY ks):=by
 have h:∀l:List Int,aP E (l.map fun n=>.d (.int .i64 n)) (l.map (Value.int .i64)):=fun l=>by
  induction l with
  | nil=>rfl
  | cons n l ih=>exact⟨_,_,rfl,by rfl,ih⟩
 match ks with
 | [k]=>rfl
 | []=>simp only[Pz,gY,aA];grind
 | a::b::l=>simp only[Pz,gY,aA];grind
theorem J8(ks:List Int):Instr.sameBits 10000 (gY ks) (gY ks)=true:=by
 match ks with
 | [k]=>simp[gY,Instr.sameBits]
 | []=>rfl
 | a::b::l=>
   rw[Fa (by simp)];simp only[Instr.sameBits,beq_self_eq_true,Bool.true_and,List.all_eq_true];intro x hx
   grind[Instr.sameBits]
theorem wO:∀{l:List MapEntry},l.Pairwise (fun x y=>x.key≠y.key)→∀{x y:MapEntry},x∈l→y∈l→x.key=y.key→x=y
 | [],_,_,_,hx,_,_=>by trivial
 | a::r,hp,x,y,hx,hy,h=>by
   obtain⟨h1,h2⟩:=List.pairwise_cons.1 hp;rcases List.mem_cons.1 hx with ex|hx'
   ·grind
   ·rcases List.mem_cons.1 hy with ey|hy'
    ·grind
    ·exact wO h2 hx' hy' h
section
variable {P:Program} {A:eX}
theorem dL.aho{t:S}{a:Act}{E:En}(h:dL A t a E){d:Nat}(hd:t (.o d) = .none):
  ∃E':En,E'.w=E.w.alloc (.map #[] 0)∧dL A (upd t (.o d) (.jX [] 0 none none)) a E'∧aA E' (.mref d) (.map (some E.w.heap.size)):=by
 have hfree:=h.h.item (.o d) (by simp);rw[hd]at hfree
 obtain⟨hb0,hv0⟩:=hfree d rfl
 let E':En:={w:=E.w.alloc (.map #[] 0),St:=E.St,blk:=fun p=>if p = .o d then some E.w.heap.size else E.blk p,val:=fun i=>if i=d then some (0,0,undef)else E.val i}
 have hold:∀b,b<E.w.heap.size→E'.w.heap[b]? = E.w.heap[b]? :=by grind[heap_alloc_old]
 have x:qN E E':=by
  refine⟨fun _ _ h=>h,fun b o hst=>fC (hold b (h.h.oQ b o hst)),fun id b _ he=>?_,fun i b he=>by trivial,fun i b he=>by trivial,fun id k c v _ hv=>⟨c,v,?_,Nat.le_refl _,fun _=>rfl⟩⟩
  ·grind
  grind
 have hown:E'.own (.o d)=some E.w.heap.size:=by grind[En.own]
 have RV:∀q,q≠.o d→E'.own q=E.own q:=by grind[En.lU]
 have hH:jQ E' (upd t (.o d) (.jX [] 0 none none)):=by
  refine h.h.change (by simp) x (fun b o hst=>.inl hst) (fun q hq=>by grind) (fun id hid=>by
   grind) (by grind) (fun q b hq hb=>hold b (h.h.size q b hb)) (fun b hb=>?_) ?_ (fun b o hst hb=>?_)
  ·rw[hown]at hb;simp at hb;subst hb;exact⟨by simp[E'],.inr (Nat.le_refl _)⟩
  ·exact⟨d,E.w.heap.size,#[],0,[],0,undef,rfl,by grind,heap_alloc_new E.w _,.refl _,rfl,MapKept.stamped_empty 0,by grind,trivial,by simp⟩
  ·rw[hown]at hb;simp at hb;exact absurd (h.h.oQ _ _ hst) (by omega)
 refine⟨E',rfl,h.step hH x (h.fr.next rfl rfl rfl (by grind) (fun b hb _ _=>hold b (Nat.lt_of_lt_of_le hb h.fr.size)) (fun i=>by rfl) (fun id b hb=>?_) (fun _ _ h=>h) (fun _ _ h=>.inl h)) (fun k=>FT (by simp) k),?_⟩
 ·grind
 ·simp only[aA];grind
theorem Fg{t:S}{a:Act}{E:En}(hi:dL A t a E){id c:Nat}{es:List (List Int×TV)}{pd:Option (List Int)}{s:Option mJ}(ht:t (.o id) = .jX es c pd s):
  ∃b l clock l' ty v,E.blk (.o id)=some b∧E.w.heap[b]? = some (.map l clock)∧l'.Perm l.toList∧jD E es l'∧MapKept.Stamped l clock∧E.val id=some (ty,c,v)∧aht l pd v∧∀x,s=some x→x=⟨b,l,clock⟩:=by
 have:=hi.h.item (.o id) (by simp);rw[ht]at this
 obtain⟨id',b,l,clock,l',ty,v,hid,h⟩:=this
 grind
theorem dL.SA{t:S}{a:Act}{E:En}(hi:dL A t a E){id b c c' ty:Nat}{v v':Value}{es es':List (List Int×TV)}{pd pd':Option (List Int)}{s:Option mJ}{l l2:Array MapEntry}{l':List MapEntry}{clock clock2:Nat}(ht:t (.o id) = .jX es c pd s)
  (hb:E.blk (.o id)=some b) (hg:E.w.heap[b]? = some (.map l clock)) (hv:E.val id=some (ty,c,v)) (hp:l'.Perm l2.toList) (hm:jD E es' l') (hs:MapKept.Stamped l2 clock2) (hc:c≤c') (hcv:c=c'→v'=v) (Vt:aht l2 pd' v') :
  ∃E':En,E'.w = {E.w with heap:=E.w.heap.setIfInBounds b (.map l2 clock2)}∧qN E E'∧dL A (upd t (.o id) (.jX es' c' pd' none)) a E'∧E'.val id=some (ty,c',v'):=by
 have lq:E.own (.o id)=some b:=by grind[En.own]
 let E':En:={E with w:={E.w with heap:=E.w.heap.setIfInBounds b (.map l2 clock2)},val:=fun i=>if i=id then some (ty,c',v')else E.val i}
 have hoth:∀b',b'≠b→E'.w.heap[b']? = E.w.heap[b']? :=by grind
 have hst:∀b' o',E.St b' o'→b'≠b:=fun b' o' h e=>by
  subst e;obtain⟨e2,k2,es2,h1,_⟩:=hi.h.sep _ o' h _ lq
  simp_all
 have x:qN E E':=⟨fun _ _ h=>h,fun b' o' h=>fC (hoth b' (hst b' o' h)),fun _ _ _ h=>h,fun _ _ h=>h,fun _ _ h=>h,fun i k c0 v0 _ h=>by
  grind⟩
 have hown:∀q,E'.own q=E.own q:=fun q=>by
  by_cases e:q = .o id
  ·grind[En.own]
  ·exact En.lU rfl (fun i hid=>by
    grind)
 have hH:jQ E' (upd t (.o id) (.jX es' c' pd' none)):=by
  refine hi.h.change (by simp) x (fun b o h=>.inl h) (fun _ _=>rfl) (fun i hid=>by
   grind) (by grind) (fun q b' hq hb'=>hoth b' fun e=>hq (by subst e;exact hi.h.inj _ _ _ hb' lq)) (fun b' hb'=>?_) ?_ (fun b' o' hs hb'=>?_)
  ·grind
  ·exact⟨id,b,l2,clock2,l',ty,v',rfl,hb,by grind,hp,hm.up x,hs,by grind,Vt,by simp⟩
  grind
 refine⟨E',rfl,x,hi.step hH x (hi.fr.next rfl rfl rfl (by grind) (fun b' h1 _ h3=>hoth b' fun e=>?_) (fun _=>rfl) (fun j b' h=>.inl (by rwa [hown]at h)) (fun _ _ h=>h) (fun _ _ h=>.inl h)) (fun k=>FT (by simp) k),by grind⟩;subst e;exact(hi.fr.new id b' lq).elim (fun h=>by omega) (fun⟨j,h⟩=>h3 j h)
theorem WO{o:Oper}{t:S}{ty d:Nat}(ho:o.op = .makeMap ty none):fG P A o t ⟨t (.o d) = .none,[.o d],[(.o d,.jX [] 0 none none)],.mref d⟩:=fun hC t' hr a E hi=>by
 have ht':t' (.o d) = .none:=by simp_all
 obtain⟨E',hw,hinv,hrel⟩:=hi.aho ht';refine⟨_,_,E',?_,.inl rfl,hinv,hrel⟩;simp[execOp,ho,Instr.makeMap,hw]
def UW(ck:Bool)(m:Option TV)(z:TV):TV:=
 match ck with
 | true=>.rG [match m with|some v=>v|none=>z,.d (.bool m.isSome)]
 | false=>match m with|some v=>v|none=>z
theorem Uo{e:TypeId}{z:Value}(hz:tC P e=some z)(w:World):(zeroValue e).run P w = .ok z w:=by
 unfold tC at hz;cases iQ:P.info? e with
 | none=>simp_all
 | some inf=>
   simp only[iQ,Option.bind_some]at hz;simp[zeroValue,typeInfo,iQ,hz]
theorem JA{t':S}{a:Act}{E:En}(hi:dL A t' a E){x ix:Operand}{id c:Nat}{es:List (List Int×TV)}{pd:Option (List Int)}{s:Option mJ}{k:List Int}(hx:ev t' x = .mref id)(ht:t' (.o id) = .jX es c pd s)(hix:toKey (ev t' ix)=some k){kt:TypeId}(hkt:UU P kt k.length=true)(hlen:∀y∈es,y.1.length=k.length):
  ∃b l clock l' ty v,a.eval x = .map (some b)∧a.eval ix=gY k∧E.blk (.o id)=some b∧E.w.heap[b]? = some (.map l clock)∧l'.Perm l.toList∧jD E es l'∧MapKept.Stamped l clock∧E.val id=some (ty,c,v)∧aht l pd v∧
   (((Instr.findKey kt (gY k) l.toList).run P E.w = .ok none E.w∧uq es k=none∧(∀b∈l.toList,b.key≠gY k)∧∀b∈l',b.key≠gY k)∨
     ∃j e v0,(Instr.findKey kt (gY k) l.toList).run P E.w = .ok (some (j,e.val)) E.w∧l[j]? = some e∧e.key=gY k∧uq es k=some v0∧aA E v0 e.val∧e∈l'):=by
 have h1:=bM hi x;rw[hx]at h1
 simp only[aA]at h1;obtain⟨b0,hb0,hu⟩:=h1;have h2:=V5 hix (bM hi ix);obtain⟨b,l,clock,l',ty,v,hb,hg,hp,hm,hs,hv,Vt,_⟩:=Fg hi ht;rw[hb]at hb0
 simp only[Option.some.injEq]at hb0;subst hb0;refine⟨b,l,clock,l',ty,v,hu,h2,hb,hg,hp,hm,hs,hv,Vt,?_⟩;have hall:∀e∈l.toList,∃k':List Int,k'.length=k.length∧e.key=gY k':=fun e he=>by
  obtain⟨k',v',g1,g2,_⟩:=SB hm e (hp.mem_iff.2 he);exact⟨k',hlen _ g1,g2⟩
 rcases VX hkt rfl E.w l.toList hall with⟨g1,g2⟩|⟨j,e,g1,g2,g3⟩
 ·rcases Fb (k:=k) hm with⟨q1,q2⟩|⟨v0,e,q1,q2,q3,_⟩
  ·exact .inl ⟨g1,q1,g2,q2⟩
  ·exact absurd q3 (g2 e (hp.mem_iff.1 q2))
 ·have hej:l[j]? = some e:=by simpa using g2
  have hel:e∈l.toList:=List.mem_of_getElem? g2;rcases Fb (k:=k) hm with⟨q1,q2⟩|⟨v0,e2,q1,q2,q3,q4⟩
  ·exact absurd g3 (q2 e (hp.mem_iff.2 hel))
  ·have hnd:(l.toList.map (·.key)).Nodup:=hs.2.2;have:e2=e:=by
    have hpw:=((MapKept.stamped_iff l clock).1 hs).2.2;exact wO hpw (hp.mem_iff.1 q2) hel (q3.trans g3.symm)
   subst this;exact .inr ⟨j,e2,v0,g1,hej,g3,q1,q4,q2⟩
end
end Go.Tr

namespace Go.Tr
open Go
def DR(n:Nat)(es:List (List Int×TV)):Prop:=∀y∈es,y.1.length=n
section
variable {P:Program} {A:eX}
theorem Yf{o:Oper}{t:S}{ty e:TypeId}{x ix:Operand}{ck:Bool}{id c:Nat}{es:List (List Int×TV)}{pd:Option (List Int)}{s:Option mJ}{k:List Int}{z:Value}(ho:o.op = .lookup ty x ix ck)(hm:YR P ty k.length=some e)(hz:tC P e=some z)
  (hx:ev t x = .mref id) (ht:t (.o id) = .jX es c pd s) (hix:toKey (ev t ix)=some k):fG P A o t ⟨DR k.length es,pl x++(pl ix++[.o id]),[],UW ck (uq es k) (lu z)⟩:=
 .pure fun hC t' hr a E hi=>by
  have hx':ev t' x = .mref id:=(dB (aW hr)).trans hx;have hix':toKey (ev t' ix)=some k:=by rw[dB (aW (aI hr))];omega
  have ht':t' (.o id) = .jX es c pd s:=(aI (aI hr) _ (by simp)).trans ht;obtain⟨kt,hu,hkt⟩:=IC hm;obtain⟨b,l,clock,l',ty',v,hu1,hu2,hb,hg,hp,hrel,hs,hv,Vt,hf⟩:=JA hi hx' ht' hix' hkt hC;have hzero:=Uo hz E.w;have hck:=xG hkt l.isEmpty E.w;rcases hf with⟨g1,g2,g3,_⟩|⟨j,a',v0,g1,g2,g3,g4,g5,_⟩
  ·refine⟨match ck with|true=>.tuple #[z,.bool false]|false=>z,?_,?_⟩
   ·cases ck<;>simp[execOp,ho,hu1,hu2,Instr.lookup,Sem.run_bind,run_underlying hu,MapKept.run_getObj_map hg,hck,g1,hzero]
   ·rw[g2];cases ck with
    | true=>
      simp only[UW,aA];exact⟨#[z,.bool false],rfl,by simp only[aP];exact⟨_,_,rfl,qy E z,_,_,rfl,by rfl,rfl⟩⟩
    | false=>simp[UW,qy]
  ·refine⟨match ck with|true=>.tuple #[a'.val,.bool true]|false=>a'.val,?_,?_⟩
   ·cases ck<;>simp[execOp,ho,hu1,hu2,Instr.lookup,Sem.run_bind,run_underlying hu,MapKept.run_getObj_map hg,hck,g1]
   ·rw[g4];cases ck with
    | true=>
      simp only[UW,aA];exact⟨#[a'.val,.bool true],rfl,by simp only[aP];exact⟨_,_,rfl,g5,_,_,rfl,by rfl,rfl⟩⟩
    | false=>trivial
theorem IB{l:Array MapEntry}{clock:Nat}(hs:MapKept.Stamped l clock){j:Nat}{a:MapEntry}(hj:l[j]? = some a){kv:Value}(ha:a.key=kv)(f:MapEntry→MapEntry):(l.modify j f).toList=Jc kv f l.toList:=by
 have hnd:(l.toList.map (·.key)).Nodup:=hs.2.2;have hj':l.toList[j]? = some a:=by simp[*]
 rw[Array.toList_modify];clear hj hs;generalize l.toList=L at hnd hj'
 induction L generalizing j with
 | nil=>trivial
 | cons b L ih=>
   grind[KH,List.modify_zero_cons,ach,List.mem_of_getElem?,List.modify_succ_cons,VY]
theorem adI{kv:Value}{f:MapEntry→MapEntry}{l l':List MapEntry}(h:l.Perm l'):(Jc kv f l).Perm (Jc kv f l'):=h.map _
theorem abn{E:En}{es:List (List Int×TV)}{k:List Int}{v:TV}{u:Value}(hr:aA E v u){l:Array MapEntry}{l':List MapEntry}{clock:Nat}(hp:l'.Perm l.toList)(hm:jD E es l')(hs:MapKept.Stamped l clock){j:Nat}{a:MapEntry}(hj:l[j]? = some a)(ha:a.key=gY k):
  (Jc (gY k) (fun e=>{e with key:=gY k,val:=u}) l').Perm (l.modify j fun e=>{e with key:=gY k,val:=u}).toList∧jD E (zu es k v) (Jc (gY k) (fun e=>{e with key:=gY k,val:=u}) l')∧MapKept.Stamped (l.modify j fun e=>{e with key:=gY k,val:=u}) clock:=by
 refine⟨?_,?_,?_⟩
 ·rw[IB hs hj ha];simp_all[adI]
 ·refine YL (E:=E) (k:=k) (v:=v) (u:=u) (f:=fun e=>{e with key:=gY k,val:=u}) hr (fun a=>And.intro rfl rfl) hm ((hp.map _).nodup_iff.2 hs.2.2) ⟨a,hp.mem_iff.2 (List.mem_of_getElem? (by simpa using hj)),ha⟩
 ·exact MapKept.stamped_modify hs j _ (fun _ _=>rfl) (fun e _ he=>by simp_all)
theorem ab_{E:En}{es:List (List Int×TV)}{k:List Int}{v:TV}{u:Value}(hr:aA E v u){l:Array MapEntry}{l':List MapEntry}{clock:Nat}(hp:l'.Perm l.toList)(hm:jD E es l')(hs:MapKept.Stamped l clock)(h1:∀b∈l.toList,b.key≠gY k)(h2:∀b∈l',b.key≠gY k):
  (l'++[(⟨gY k,u,clock⟩:MapEntry)]).Perm (l.push ⟨gY k,u,clock⟩).toList∧jD E (zu es k v) (l'++[⟨gY k,u,clock⟩])∧MapKept.Stamped (l.push ⟨gY k,u,clock⟩) (clock+1):=by
 refine⟨?_,YK rfl hr hm h2,MapKept.stamped_push hs h1⟩
 simp_all[Array.toList_push,List.Perm.append_right]
theorem Ib{o:Oper}{t:S}{ty e:TypeId}{x ix y:Operand}{id c:Nat}{es:List (List Int×TV)}{pd:Option (List Int)}{s:Option mJ}{k:List Int}{vy:TV}(ho:o.op = .mapUpdate ty x ix y∨o.op = .insert ty x ix y)(hm:YR P ty k.length=some e)
  (hx:ev t x = .mref id) (ht:t (.o id) = .jX es c pd s) (hix:toKey (ev t ix)=some k) (hy:ev t y=vy):fG P A o t ⟨DR k.length es,pl x++(pl ix++(pl y++[.o id])),[(.o id,.jX (zu es k vy) c none none)],.junk⟩:=fun hC t' hr a E hi=>by
 have hx':ev t' x = .mref id:=(dB (aW hr)).trans hx;have hix':toKey (ev t' ix)=some k:=by rw[dB (aW (aI hr))];omega
 have hy':ev t' y=vy:=(dB (aW (aI (aI hr)))).trans hy;have ht':t' (.o id) = .jX es c pd s:=(aI (aI (aI hr)) _ (by simp)).trans ht;obtain⟨kt,hu,hkt⟩:=IC hm;obtain⟨b,l,clock,l',ty',v,hu1,hu2,hb,hg,hp,hrel,hs,hv,Vt,hf⟩:=JA hi hx' ht' hix' hkt hC;have h3:=bM hi y;rw[hy']at h3
 have hck:=xG hkt false E.w;rcases hf with⟨g1,g2,g3,g4⟩|⟨j,a',v0,g1,g2,g3,g4,g5,g6⟩
 ·obtain⟨q1,q2,q3⟩:=ab_ h3 hp hrel hs g3 g4;obtain⟨E',hw',x',hinv,_⟩:=hi.SA (l2:=l.push ⟨gY k,a.eval y,clock⟩) (clock2:=clock+1) (c':=c) (v':=v) (pd':=none) ht' hb hg hv q1 q2 q3 (Nat.le_refl _) (fun _=>rfl) trivial;refine⟨.skip,undef,E',?_,.inr ⟨rfl,rfl⟩,hinv,by simp only[aA]⟩
  rcases ho with ho|ho<;>simp[execOp,ho,hu1,hu2,Instr.mapUpdate,Sem.run_bind,run_underlying hu,MapKept.run_getObj_map hg,MapKept.run_setObj_map _ hg,hck,g1,hw']
 ·obtain⟨q1,q2,q3⟩:=abn h3 hp hrel hs g2 g3;obtain⟨E',hw',x',hinv,_⟩:=hi.SA (l2:=l.modify j fun e=>{e with key:=gY k,val:=a.eval y}) (clock2:=clock) (c':=c) (v':=v) (pd':=none) ht' hb hg hv q1 q2 q3 (Nat.le_refl _) (fun _=>rfl) trivial;refine⟨.skip,undef,E',?_,.inr ⟨rfl,rfl⟩,hinv,by simp only[aA]⟩;have hst:(Instr.keyThatStays (gY k) (gY k)).run P E.w = .ok (gY k) E.w:=by
   simp[Instr.keyThatStays,J8]
  rcases ho with ho|ho<;>simp[execOp,ho,hu1,hu2,Instr.mapUpdate,Sem.run_bind,run_underlying hu,MapKept.run_getObj_map hg,MapKept.run_setObj_map _ hg,hck,g1,g2,g3,hst,hw']
theorem UG{o:Oper}{t:S}{ty e:TypeId}{x ix:Operand}{id c:Nat}{es:List (List Int×TV)}{pd:Option (List Int)}{s:Option mJ}{k:List Int}{z:Value}(ho:o.op = .mapEntry ty x ix)(hm:YR P ty k.length=some e)(hz:tC P e=some z)
  (hx:ev t x = .mref id) (ht:t (.o id) = .jX es c pd s) (hix:toKey (ev t ix)=some k):fG P A o t ⟨DR k.length es,pl x++(pl ix++[.o id]),[(.o id,.jX (zu es k (UW false (uq es k) (lu z))) (c+1) (some k) none)],.rG [UW false (uq es k) (lu z),.aB id (c+1)]⟩:=fun hC t' hr a E hi=>by
 have hx':ev t' x = .mref id:=(dB (aW hr)).trans hx;have hix':toKey (ev t' ix)=some k:=by rw[dB (aW (aI hr))];omega
 have ht':t' (.o id) = .jX es c pd s:=(aI (aI hr) _ (by simp)).trans ht;obtain⟨kt,hu,hkt⟩:=IC hm;obtain⟨b,l,clock,l',ty',v,hu1,hu2,hb,hg,hp,hrel,hs,hv,Vt,hf⟩:=JA hi hx' ht' hix' hkt hC;have hck:=xG hkt false E.w;have hzero:=Uo hz E.w;rcases hf with⟨g1,g2,g3,g4⟩|⟨j,a',v0,g1,g2,g3,g4,g5,g6⟩
 ·obtain⟨q1,q2,q3⟩:=ab_ (qy E z) hp hrel hs g3 g4;obtain⟨E',hw',x',hinv,hval⟩:=hi.SA (l2:=l.push ⟨gY k,z,clock⟩) (clock2:=clock+1) (c':=c+1) (v':=.int .i64 clock) (pd':=some k) ht' hb hg hv q1 q2 q3 (by omega) (fun h=>by omega) ⟨⟨gY k,z,clock⟩,by simp,rfl,rfl⟩;refine⟨.value (.tuple #[z,.int .i64 clock]),_,E',?_,.inl rfl,by simp_all[over,UW],?_⟩
  ·simp[execOp,ho,hu1,hu2,Instr.mapEntry,Sem.run_bind,run_underlying hu,MapKept.run_getObj_map hg,MapKept.run_setObj_map _ hg,hck,g1,hw',hzero,goInt]
  ·simp only[g2,UW,aA];refine⟨_,rfl,?_⟩;simp only[aP];exact⟨_,_,rfl,qy E' z,_,_,rfl,by simp only[aA];exact⟨rfl,_,_,_,hval,Nat.le_refl _,fun _=>rfl⟩,rfl⟩
 ·have hst:(Instr.keyThatStays (gY k) (gY k)).run P E.w = .ok (gY k) E.w:=by
   simp[Instr.keyThatStays,J8]
  have hf:(l.modify j fun e=>{e with key:=gY k})=l.modify j fun e=>{e with key:=gY k,val:=a'.val}:=by
   apply Array.ext_getElem?;intro i;simp only[Array.getElem?_modify];by_cases hij:j=i
   ·subst hij;simp[g2]
   ·simp[hij]
  obtain⟨q1,q2,q3⟩:=abn g5 hp hrel hs g2 g3;obtain⟨E',hw',x',hinv,hval⟩:=hi.SA (l2:=l.modify j fun e=>{e with key:=gY k,val:=a'.val}) (clock2:=clock) (c':=c+1) (v':=.int .i64 a'.born) (pd':=some k) ht' hb hg hv q1 q2 q3 (by omega) (fun h=>by omega)
   ⟨⟨gY k,a'.val,a'.born⟩,by
     rw[IB hs g2 g3];unfold Jc;exact List.mem_map.2 ⟨a',List.mem_of_getElem? (by simpa using g2),by simp[g3]⟩,rfl,rfl⟩
  refine⟨.value (.tuple #[a'.val,.int .i64 a'.born]),_,E',?_,.inl rfl,by simpa only[over,g4,UW]using hinv,?_⟩
  ·simp[execOp,ho,hu1,hu2,Instr.mapEntry,Sem.run_bind,run_underlying hu,MapKept.run_getObj_map hg,MapKept.run_setObj_map _ hg,hck,g1,g2,g3,hst,hw',hf,goInt]
  ·simp only[g4,UW,aA];refine⟨_,rfl,?_⟩;simp only[aP];exact⟨_,_,rfl,g5.up x',_,_,rfl,by simp only[aA];exact⟨rfl,_,_,_,hval,Nat.le_refl _,fun _=>rfl⟩,rfl⟩
theorem U5:∀{l:List MapEntry},(l.map (·.born)).Nodup→∀{x y:MapEntry},x∈l→y∈l→x.born=y.born→x=y
 | [],_,_,_,hx,_,_=>by trivial
 | a::r,hn,x,y,hx,hy,h=>by
   rw[List.map_cons,List.nodup_cons]at hn
   rcases List.mem_cons.1 hx with ex|hx'
   ·grind
   ·rcases List.mem_cons.1 hy with ey|hy'
    ·simp_all
    ·exact U5 hn.2 hx' hy' h
theorem PY{o:Oper}{t:S}{ty:TypeId}{x ix y:Operand}{id c n:Nat}{es:List (List Int×TV)}{s:Option mJ}{k:List Int}{vy:TV}(ho:o.op = .entryStore ty x ix y)
  (hx:ev t x = .mref id) (ht:t (.o id) = .jX es c (some k) s) (hix:ev t ix = .aB id n) (hy:ev t y=vy):fG P A o t ⟨n=c,pl x++(pl ix++(pl y++[.o id])),[(.o id,.jX (zu es k vy) c (some k) none)],.junk⟩:=fun hC t' hr a E hi=>by
 have hx':ev t' x = .mref id:=(dB (aW hr)).trans hx;have hix':ev t' ix = .aB id n:=(dB (aW (aI hr))).trans hix;have hy':ev t' y=vy:=(dB (aW (aI (aI hr)))).trans hy;have ht':t' (.o id) = .jX es c (some k) s:=(aI (aI (aI hr)) _ (by simp)).trans ht;subst hC;have h1:=bM hi x;rw[hx']at h1
 simp only[aA]at h1;obtain⟨b0,hb0,hu1⟩:=h1;have h2:=bM hi ix;rw[hix']at h2
 obtain⟨b,l,clock,l',ty',v,hb,hg,hp,hrel,hs,hv,⟨a',ha1,ha2,ha3⟩,_⟩:=Fg hi ht';rw[hb]at hb0
 simp only[Option.some.injEq]at hb0;subst hb0;simp only[aA]at h2;obtain⟨_,k2,c2,v2,hv2,_,hcv⟩:=h2;rw[hv]at hv2
 simp only[Option.some.injEq,Prod.mk.injEq]at hv2;obtain⟨rfl,rfl,rfl⟩:=hv2;have hu2:a.eval ix = .int .i64 a'.born:=(hcv rfl).trans ha3;have h3:=bM hi y;rw[hy']at h3
 have hfi:∃j,l.findIdx? (fun e=>(e.born:Int)==(a'.born:Int))=some j∧l[j]? = some a':=by
  cases hj:l.findIdx? (fun e=>(e.born:Int)==(a'.born:Int))with
  | none=>
    rw[Array.findIdx?_eq_none_iff]at hj
    have:=hj a' (by simpa using ha1);simp at this
  | some j=>
    obtain⟨h4,h5,_⟩:=Array.findIdx?_eq_some_iff_getElem.1 hj;refine⟨j,rfl,?_⟩;have h6:(l[j]).born=a'.born:=by
     have:((l[j]).born:Int)=a'.born:=by simpa using h5
     omega
    have h7:=hs.2.1;have h8:l[j]=a':=by
     have hm:l[j]∈l.toList:=by simp
     exact U5 h7 hm ha1 h6
    rw[Array.getElem?_eq_getElem h4,h8]
 obtain⟨j,hj1,hj2⟩:=hfi;have hf:(l.modify j fun e=>{e with val:=a.eval y})=l.modify j fun e=>{e with key:=gY k,val:=a.eval y}:=by
  apply Array.ext_getElem?;intro i;simp only[Array.getElem?_modify];by_cases hij:j=i
  ·subst hij;simp[hj2,←ha2]
  ·simp[hij]
 obtain⟨q1,q2,q3⟩:=abn h3 hp hrel hs hj2 ha2;obtain⟨E',hw',x',hinv,hval⟩:=hi.SA (l2:=l.modify j fun e=>{e with key:=gY k,val:=a.eval y}) (clock2:=clock) (c':=n) (v':=v) (pd':=some k) ht' hb hg hv q1 q2 q3 (Nat.le_refl _) (fun _=>rfl)
  ⟨⟨gY k,a.eval y,a'.born⟩,by
    rw[IB hs hj2 ha2];unfold Jc;exact List.mem_map.2 ⟨a',ha1,by simp[ha2]⟩,rfl,ha3⟩
 refine⟨.skip,undef,E',?_,.inr ⟨rfl,rfl⟩,hinv,by simp only[aA]⟩;simp[execOp,ho,hu1,hu2,Instr.entryStore,Sem.run_bind,MapKept.run_getObj_map hg,MapKept.run_setObj_map _ hg,asInt,asIntOf,hj1,hw',hf]
theorem aew{o:Oper}{t:S}{x:Operand}{ty kt e:TypeId}{id c:Nat}{es:List (List Int×TV)}{pd:Option (List Int)}{s:Option mJ}(ho:o.op = .call {callee:=.builtin .len,args:=#[x],argTypes:=#[ty]})(he:P.underlying ty=some (.map kt e))(hx:ev t x = .mref id)
  (ht:t (.o id) = .jX es c pd s):fG P A o t ⟨True,pl x++[.o id],[],.d (.int .i64 es.length)⟩:=
 .pure fun hC t' hr a E hi=>by
  have hx':=bM hi x;rw[dB (aW hr),hx]at hx'
  have ht':t' (.o id) = .jX es c pd s:=(aI hr _ (by simp)).trans ht;simp only[aA]at hx';obtain⟨b0,hb0,hu1⟩:=hx';obtain⟨b,l,clock,l',ty',v,hb,hg,hp,hrel,hs,hv,_⟩:=Fg hi ht';rw[hb]at hb0
  simp only[Option.some.injEq]at hb0;subst hb0;have hl:l.size=es.length:=by rw[←YJ hrel,hp.length_eq];simp
  refine⟨.int .i64 es.length,?_,by rfl⟩;simp[execOp,ho,resolve,invoke,builtin,Builtin.len_,hu1,Sem.run_bind,run_underlying he,MapKept.run_getObj_map hg,hl,goInt]
open Classical in
theorem erase_filter{l:Array MapEntry}{clock:Nat}(hs:MapKept.Stamped l clock){j:Nat}{a:MapEntry}(hj:l[j]? = some a){kv:Value}(ha:a.key=kv):(l.eraseIdxIfInBounds j).toList=l.toList.filter fun e=>decide (e.key≠kv):=by
 have hnd:(l.toList.map (·.key)).Nodup:=hs.2.2;have hlt:j<l.size:=(Array.getElem?_eq_some_iff.1 hj).1;have hj':l.toList[j]? = some a:=by simp_all
 unfold Array.eraseIdxIfInBounds;rw[dif_pos hlt,Array.toList_eraseIdx];generalize l.toList=L at hnd hj';clear hlt hj
 induction L generalizing j with
 | nil=>rfl
 | cons b L ih=>
   obtain⟨n1,n2⟩:=KH hnd;cases j with
   | zero=>
     simp at hj';subst hj';rw[List.eraseIdx_cons_zero,List.filter_cons,if_neg (by simp[ha])];rw[List.filter_eq_self.2 fun c hc=>by simpa using fun e:c.key=kv=>n1 c hc (e.trans ha.symm)]
   | succ j=>
     have hj2:L[j]? = some a:=by simpa using hj'
     have hne :¬b.key=kv:=fun e=>n1 a (List.mem_of_getElem? hj2) (ha.trans e.symm)
     rw[List.eraseIdx_cons_succ,ih n2 hj2,List.filter_cons,if_pos (by simpa using hne)]
theorem X_{o:Oper}{t:S}{ty e kty:TypeId}{x ix:Operand}{id c:Nat}{es:List (List Int×TV)}{pd:Option (List Int)}{s:Option mJ}{k:List Int}(ho:o.op = .call {callee:=.builtin .delete,args:=#[x,ix],argTypes:=#[ty,kty]})(hm:YR P ty k.length=some e)
  (hx:ev t x = .mref id) (ht:t (.o id) = .jX es c pd s) (hix:toKey (ev t ix)=some k):fG P A o t ⟨DR k.length es,pl x++(pl ix++[.o id]),[(.o id,.jX (aaB es k) c none none)],.rG []⟩:=fun hC t' hr a E hi=>by
 classical
 have hx':ev t' x = .mref id:=(dB (aW hr)).trans hx;have hix':toKey (ev t' ix)=some k:=by rw[dB (aW (aI hr))];omega
 have ht':t' (.o id) = .jX es c pd s:=(aI (aI hr) _ (by simp)).trans ht;obtain⟨kt,hu,hkt⟩:=IC hm;obtain⟨b,l,clock,l',ty',v,hu1,hu2,hb,hg,hp,hrel,hs,hv,Vt,hf⟩:=JA hi hx' ht' hix' hkt hC;have hck:=xG hkt l.isEmpty E.w;have hdel:=YI (k:=k) hrel;rcases hf with⟨g1,g2,g3,g4⟩|⟨j,a',v0,g1,g2,g3,g4,g5,g6⟩
 ·have e1:l'.filter (fun a=>decide (a.key≠gY k))=l':=List.filter_eq_self.2 fun a ha=>by simpa using g4 a ha
  rw[e1]at hdel
  obtain⟨E',hw',x',hinv,_⟩:=hi.SA (l2:=l) (clock2:=clock) (c':=c) (v':=v) (pd':=none) ht' hb hg hv hp hdel hs (Nat.le_refl _) (fun _=>rfl) trivial;refine⟨.value (.tuple #[]),_,E',?_,.inl rfl,hinv,by simp only[aA];exact⟨#[],rfl,by simp[aP]⟩⟩
  simp[execOp,ho,resolve,invoke,builtin,Builtin.delete_,hu1,hu2,Sem.run_bind,run_underlying hu,MapKept.run_getObj_map hg,MapKept.run_setObj_map _ hg,hck,g1,hw']
 ·have hpf:(l'.filter fun a=>decide (a.key≠gY k)).Perm (l.eraseIdxIfInBounds j).toList:=by
   rw[erase_filter hs g2 g3];exact hp.filter _
  obtain⟨E',hw',x',hinv,_⟩:=hi.SA (l2:=l.eraseIdxIfInBounds j) (clock2:=clock) (c':=c) (v':=v) (pd':=none) ht' hb hg hv hpf hdel (MapKept.stamped_erase hs j) (Nat.le_refl _) (fun _=>rfl) trivial;refine⟨.value (.tuple #[]),_,E',?_,.inl rfl,hinv,by simp only[aA];exact⟨#[],rfl,by simp[aP]⟩⟩
  simp[execOp,ho,resolve,invoke,builtin,Builtin.delete_,hu1,hu2,Sem.run_bind,run_underlying hu,MapKept.run_getObj_map hg,MapKept.run_setObj_map _ hg,hck,g1,hw']
end
end Go.Tr

namespace Go.Tr
open Go
section
variable {P:Program} {A:eX}
theorem dL.snap{t:S}{a:Act}{E:En}(hi:dL A t a E){id c:Nat}{es:List (List Int×TV)}{pd:Option (List Int)}{s0:Option mJ}(ht:t (.o id) = .jX es c pd s0):
  ∃s:mJ,dL A (upd t (.o id) (.jX es c pd (some s))) a E∧E.blk (.o id)=some s.m∧E.w.heap[s.m]? = some (.map s.l s.clock)∧MapKept.Stamped s.l s.clock∧∃l',l'.Perm s.l.toList∧jD E es l':=by
 obtain⟨b,l,clock,l',ty,v,hb,hg,hp,hrel,hs,hv,Vt,_⟩:=Fg hi ht;have lq:E.own (.o id)=some b:=by simp_all[En.own]
 have hst:∀b' o',E.St b' o'→b'≠b:=fun b' o' h e=>by
  subst e;obtain⟨e2,k2,es2,h1,_⟩:=hi.h.sep _ o' h _ lq
  simp_all
 have hH:jQ E (upd t (.o id) (.jX es c pd (some ⟨b,l,clock⟩))):=by
  refine hi.h.change (by simp) (Ext.refl _ _) (fun b o h=>.inl h) (fun _ _=>rfl) (fun _ _=>rfl) (Nat.le_refl _) (fun _ _ _ _=>rfl) (fun b' hb'=>⟨hi.h.size _ _ hb',.inl hb'⟩) ?_ (fun b' o' hs hb'=>?_)
  ·exact⟨id,b,l,clock,l',ty,v,rfl,hb,hg,hp,hrel,hs,hv,Vt,fun x hx=>by simp_all⟩
  grind
 exact⟨⟨b,l,clock⟩,⟨hH,hi.fr,fun k tv hk=>hi.sl k tv (by trivial),hi.defers,hi.size⟩,hb,hg,hs,l',hp,hrel⟩
theorem dL.abZ{t:S}{a:Act}{E:En}(h:dL A t a E){d id:Nat}(hd:t (.o d) = .none){s:mJ}(hs:MapKept.Stamped s.l s.clock){es:List (List Int×TV)}{l':List MapEntry}(hp:l'.Perm s.l.toList)(hrel:jD E es l'):
  ∃E':En,E'.w=E.w.alloc (.mapIter (some s.m) s.clock #[] s.clock)∧dL A (upd t (.o d) (.DK id s (es.map (·.1)) none)) a E'∧aA E' (.ptr (.o d) 0) (.pointer (some ⟨E.w.heap.size,0,none⟩)):=by
 have hfree:=h.h.item (.o d) (by simp);rw[hd]at hfree
 obtain⟨hb0,hv0⟩:=hfree d rfl
 let E':En:={w:=E.w.alloc (.mapIter (some s.m) s.clock #[] s.clock),St:=E.St,blk:=fun p=>if p = .o d then some E.w.heap.size else E.blk p,val:=E.val}
 have hold:∀b,b<E.w.heap.size→E'.w.heap[b]? = E.w.heap[b]? :=fun b hb=>(MapKept.heap_alloc E.w _).2 b hb
 have x:qN E E':=by
  refine⟨fun _ _ h=>h,fun b o hst=>fC (hold b (h.h.oQ b o hst)),fun id b _ he=>?_,fun i b he=>by trivial,fun i b he=>by trivial,fun _ _ c v _ hv=>⟨c,v,hv,Nat.le_refl _,fun _=>rfl⟩⟩
  grind
 have hown:E'.own (.o d)=some E.w.heap.size:=by grind[En.own]
 have RV:∀q,q≠.o d→E'.own q=E.own q:=fun q hq=>En.lU (by grind) (fun _ _=>rfl)
 have hH:jQ E' (upd t (.o d) (.DK id s (es.map (·.1)) none)):=by
  refine h.h.change (by simp) x (fun b o hst=>.inl hst) (fun q hq=>by grind) (fun id hid=>rfl) (by grind) (fun q b hq hb=>hold b (h.h.size q b hb)) (fun b hb=>?_) ?_ (fun b o hst hb=>?_)
  ·rw[hown]at hb;simp at hb;subst hb;exact⟨by simp[E'],.inr (Nat.le_refl _)⟩
  ·refine⟨fun id hid=>?_,E.w.heap.size,#[],by grind,(MapKept.heap_alloc E.w _).1,?_,hs.1,by simp⟩
   ·grind
   ·have h1:=(hp.map (·.key)).symm;rw[Vz hrel]at h1
    have e1:(s.l.toList.filter fun x=>!(#[]:Array Nat).contains x.born)=s.l.toList:=List.filter_eq_self.2 fun _ _=>by simp
    rw[e1,List.map_map]
    trivial
  ·rw[hown]at hb;simp at hb;subst hb
   exact absurd (h.h.oQ _ _ hst) (by omega)
 refine⟨E',rfl,h.step hH x (h.fr.next rfl rfl rfl (by grind) (fun b hb _ _=>hold b (Nat.lt_of_lt_of_le hb h.fr.size)) (fun i=>by rfl) (fun id b hb=>?_) (fun _ _ h=>h) (fun _ _ h=>.inl h)) (fun k=>FT (by simp) k),?_⟩
 ·grind
 ·simp only[aA];grind
def SN(es:List (List Int×TV))(s:mJ):It→Prop
 | .jX es' _ _ (some s')=>es'=es∧s'=s
 | .IE es' s'=>es'=es∧s'=s
 | _=>False
theorem VA{t:S}{a:Act}{E:En}(hi:dL A t a E){id:Nat}{es:List (List Int×TV)}{s:mJ}(h:SN es s (t (.o id))):
  E.w.heap[s.m]? = some (.map s.l s.clock)∧MapKept.Stamped s.l s.clock∧∃l',l'.Perm s.l.toList∧jD E es l':=by
 unfold SN at h;split at h
 ·rename_i ht;obtain⟨b,l,clock,l',ty,v,hb,hg,hp,hrel,hs,hv,Vt,hsn⟩:=Fg hi ht
  grind
 ·rename_i ht;obtain⟨rfl,rfl⟩:=h;have:=hi.h.item (.o id) (by simp);rw[ht]at this
  exact⟨this.2.2.1,this.2.2.2.1,this.2.2.2.2⟩
 trivial
theorem afJ{o:Oper}{t:S}{ty kt e:TypeId}{x:Operand}{id c d:Nat}{es:List (List Int×TV)}{pd:Option (List Int)}{s0:Option mJ}(ho:o.op = .range ty x)(hty:P.underlying ty=some (.map kt e))(hx:ev t x = .mref id)(ht:t (.o id) = .jX es c pd s0)(hd:t (.o d) = .none):
  ∀t',(∀p∈pl x++[.o id,.o d],t' p=t p)→∀a E,dL A t' a E→∃(s:mJ) (u:Value) (E':En),(execOp a.eval o).run P E.w = .ok (.value u) E'.w∧dL A (over t' [(.o d,.DK id s (es.map (·.1)) none),(.o id,.jX es c pd (some s))]) a E'∧aA E' (.ptr (.o d) 0) u:=fun t' hr a E hi=>by
 have hx':ev t' x = .mref id:=(dB (aW hr)).trans hx;have ht':t' (.o id) = .jX es c pd s0:=(aI hr _ (by simp)).trans ht;have hd':t' (.o d) = .none:=(aI hr _ (by simp)).trans hd;have h1:=bM hi x;rw[hx']at h1
 simp only[aA]at h1;obtain⟨b0,hb0,hu1⟩:=h1;obtain⟨s,hi2,hb,hg,hs,l',hp,hrel⟩:=hi.snap ht';rw[hb]at hb0
 simp only[Option.some.injEq]at hb0;subst hb0;have hne:Pl.o d≠.o id:=fun e=>by rw[e,ht']at hd';simp at hd'
 obtain⟨E',hw',hi3,hrl⟩:=hi2.abZ (d:=d) (id:=id) (by simp[upd,hne,hd']) hs hp hrel;refine⟨s,_,E',?_,hi3,hrl⟩;have:=run_range_map (P:=P) E.w ty kt e s.m s.l s.clock hty hg;simp[execOp,ho,hu1,Sem.run_bind,this,hw']
theorem Sv{t:S}{a:Act}{E:En}(hi:dL A t a E){d id:Nat}{s:mJ}{left:List (List Int)}{cur:Option (List Int)}(ht:t (.o d) = .DK id s left cur):E.val d=none∧∃r seen,E.blk (.o d)=some r∧E.w.heap[r]? = some (.mapIter (some s.m) s.clock seen s.clock)∧ahj s left cur seen:=by
 have:=hi.h.item (.o d) (by simp);rw[ht]at this
 exact⟨this.1 d rfl,this.2⟩
theorem dL.afh{t:S}{a:Act}{E:En}(hi:dL A t a E){d id r:Nat}{s:mJ}{left left':List (List Int)}{cur cur':Option (List Int)}{seen seen':Array Nat}{w1:World}(ht:t (.o d) = .DK id s left cur)(hb:E.blk (.o d)=some r)(hg:E.w.heap[r]? = some (.mapIter (some s.m) s.clock seen s.clock))
  (hw1:w1=E.w∨w1=E.w.drew) (hok:ahj s left' cur' seen') :
  ∃E':En,E'.w=ChangeMaps.setBlock w1 r (.mapIter (some s.m) s.clock seen' s.clock)∧qN E E'∧dL A (upd t (.o d) (.DK id s left' cur')) a E':=by
 obtain⟨hv0,_⟩:=Sv hi ht;have hlt:r<E.w.heap.size:=(Array.getElem?_eq_some_iff.1 hg).1;have lq:E.own (.o d)=some r:=by simp_all[En.own]
 have hh:w1.heap=E.w.heap:=by rcases hw1 with rfl|rfl<;>rfl
 let E':En:={E with w:=ChangeMaps.setBlock w1 r (.mapIter (some s.m) s.clock seen' s.clock)}
 have hheap:E'.w.heap=E.w.heap.setIfInBounds r (.mapIter (some s.m) s.clock seen' s.clock):=by grind[ChangeMaps.setBlock]
 have hoth:∀b',b'≠r→E'.w.heap[b']? = E.w.heap[b']? :=fun b' hne=>by grind
 have hst:∀b' o',E.St b' o'→b'≠r:=fun b' o' h e=>by
  subst e;obtain⟨e2,k2,es2,h1,_⟩:=hi.h.sep _ o' h _ lq
  simp_all
 have x:qN E E':=⟨fun _ _ h=>h,fun b' o' h=>fC (hoth b' (hst b' o' h)),fun _ _ _ h=>h,fun _ _ h=>h,fun _ _ h=>h,fun _ _ c v _ h=>⟨c,v,h,Nat.le_refl _,fun _=>rfl⟩⟩
 have hown:∀q,E'.own q=E.own q:=fun q=>En.lU rfl (fun _ _=>rfl)
 have hsz:E'.w.heap.size=E.w.heap.size:=by simp[*]
 have hH:jQ E' (upd t (.o d) (.DK id s left' cur')):=by
  refine hi.h.change (by simp) x (fun b o h=>.inl h) (fun _ _=>rfl) (fun _ _=>rfl) (by omega) (fun q b' hq hb'=>hoth b' fun e=>hq (by subst e;exact hi.h.inj _ _ _ hb' lq)) (fun b' hb'=>?_) ?_ (fun b' o' hs hb'=>?_)
  ·simp_all
  ·exact⟨fun j hj=>by grind,r,seen',hb,by simp[*],hok⟩
  grind
 have hos:E'.w.os=E.w.os∧E'.w.tape=E.w.tape∧E'.w.output=E.w.output:=by rcases hw1 with rfl|rfl<;>exact⟨rfl,rfl,rfl⟩
 refine⟨E',rfl,x,hi.step hH x (hi.fr.next hos.1 hos.2.1 hos.2.2 (by omega) (fun b' h1 _ h3=>hoth b' fun e=>?_) (fun _=>rfl) (fun j b' h=>.inl (by rwa [hown]at h)) (fun _ _ h=>h) (fun _ _ h=>.inl h)) (fun k=>FT (by simp) k)⟩;subst e;exact(hi.fr.new d b' lq).elim (fun h=>by omega) (fun⟨j,h⟩=>h3 j h)
def YW(d id:Nat)(s:mJ)(left:List (List Int)):Option (List Int)→List (Pl×It)
 | none=>[]
 | some k=>[(.o d,.DK id s (left.erase k) (some k))]
def Aw:Option (List Int)→TV
 | none=>.rG [.d (.bool false)]
 | some _=>.rG [.d (.bool true),.junk,.junk]
def Xj(left:List (List Int)):Option (List Int)→Prop
 | none=>left = []
 | some k=>k∈left
theorem Z5{left:List (List Int)}{L:List MapEntry}(h:(L.map (·.key)).Perm (left.map gY)){e:MapEntry}(he:e∈L)(hb:(L.map (·.born)).Nodup):∃k∈left,e.key=gY k∧((L.filter fun x=>!(x.born==e.born)).map (·.key)).Perm ((left.erase k).map gY):=by
 obtain⟨k,hk,hke⟩:=List.mem_map.1 (h.mem_iff.1 (List.mem_map.2 ⟨e,he,rfl⟩));refine⟨k,hk,hke.symm,?_⟩;have hL:L.Perm (e::L.filter fun x=>!(x.born==e.born)):=by
  clear h
  induction L with
  | nil=>trivial
  | cons a L ih=>
    rw[List.map_cons,List.nodup_cons]at hb
    rcases List.mem_cons.1 he with rfl|he
    ·rw[List.filter_cons,if_neg (by simp)];rw[List.filter_eq_self.2 fun x hx=>by simpa using fun e2:x.born=e.born=>hb.1 (List.mem_map.2 ⟨x,hx,e2⟩)]
    ·have hne:a.born≠e.born:=fun e2=>hb.1 (List.mem_map.2 ⟨e,he,e2.symm⟩)
     rw[List.filter_cons,if_pos (by simpa using hne)];exact((ih he hb.2).cons a).trans (List.Perm.swap _ _ _)
 have hR:left.Perm (k::left.erase k):=List.perm_cons_erase hk;have h2:=(hL.map (·.key)).symm.trans (h.trans (hR.map gY))
 simp_all
theorem Qv{o:Oper}{t:S}{x:Operand}{d id:Nat}{es:List (List Int×TV)}{s:mJ}{left:List (List Int)}{cur:Option (List Int)}(ho:o.op = .next x false)(hx:ev t x = .ptr (.o d) 0)(hd:t (.o d) = .DK id s left cur)(hm:SN es s (t (.o id))):
  ∀t',(∀p∈pl x++[.o d,.o id],t' p=t p)→∀a E,dL A t' a E→∃(k:Option (List Int)) (u:Value) (E':En),Xj left k∧(execOp a.eval o).run P E.w = .ok (.value u) E'.w∧dL A (over t' (YW d id s left k)) a E'∧aA E' (Aw k) u:=fun t' hr a E hi=>by
 have hx':ev t' x = .ptr (.o d) 0:=(dB (aW hr)).trans hx;have hd':t' (.o d) = .DK id s left cur:=(aI hr _ (by simp)).trans hd;have hm':SN es s (t' (.o id)):=by simp[*]
 have h1:=bM hi x;rw[hx']at h1
 simp only[aA]at h1;obtain⟨r0,hr0,hu1⟩:=h1;obtain⟨_,r,seen,hb,hg,⟨o1,o2,o3⟩⟩:=Sv hi hd';rw[hb]at hr0
 simp only[Option.some.injEq]at hr0;subst hr0;obtain⟨hmg,hs,l',hp,hrel⟩:=VA hi hm';obtain⟨b,l,clock⟩:=s;simp only at o1 o2 o3 hg hmg hs hp;rcases run_next_at (P:=P) E.w o.type r b clock clock seen l clock hg hmg o2 (Nat.le_refl _)with⟨q1,q2⟩|⟨e,q1,w1,q2,q3⟩
 ·refine⟨none,.tuple #[.bool false],E,?_,?_,hi,by simp only[Aw,aA];exact⟨_,rfl,by simp[aP,aA,Rep]⟩⟩
  ·have h0:(l.toList.filter fun x=>!seen.contains x.born) = []:=by
    simp_all[leftOf,Array.eq_empty_of_size_eq_zero]
   rw[h0]at o1
   simp_all[Xj]
  simp_all[execOp,Sem.run_bind]
 ·have heL:e∈l.toList.filter fun x=>!seen.contains x.born:=by simp_all[leftOf]
  have hel:=(List.mem_filter.1 heL).1;have hnb:((l.toList.filter fun x=>!seen.contains x.born).map (·.born)).Nodup:=hs.2.1.sublist (List.filter_sublist.map _);obtain⟨k,hk,hke,hperm⟩:=Z5 o1 heL hnb;have hok:ahj ⟨b,l,clock⟩ (left.erase k) (some k) (seen.push e.born):=by
   refine⟨?_,o2,fun k' hk'=>?_⟩
   ·have:(l.toList.filter fun x=>!(seen.push e.born).contains x.born)=(l.toList.filter fun x=>!seen.contains x.born).filter fun x=>!(x.born==e.born):=by
     rw[List.filter_filter];refine List.filter_congr fun x _=>?_
     rw[Array.contains_push,Bool.not_or,Bool.and_comm]
    simp only at this⊢;rw[this];exact hperm
   ·simp only[Option.some.injEq]at hk';subst hk';exact⟨e,hel,hke,by simp⟩
  obtain⟨E',hw',x',hi2⟩:=hi.afh hd' hb hg q2 hok;refine⟨some k,.tuple #[.bool true,e.key,e.val],E',hk,?_,hi2,by simp only[Aw,aA];exact⟨_,rfl,by simp only[aP,aA,Rep];exact⟨_,_,rfl,rfl,_,_,rfl,trivial,_,_,rfl,trivial,rfl⟩⟩⟩
  simp_all[execOp,Sem.run_bind]
theorem Vd{o:Oper}{t:S}{x:Operand}{d id:Nat}{es:List (List Int×TV)}{s:mJ}{left:List (List Int)}{k:List Int}{v:TV}(ho:o.op = .entry x)(hx:ev t x = .ptr (.o d) 0)(hd:t (.o d) = .DK id s left (some k))(hm:SN es s (t (.o id)))(hk:uq es k=some v):
  fG P A o t ⟨True,pl x++[.o d,.o id],[],.rG [Pz k,v]⟩:=
 .pure fun _ t' hr a E hi=>by
  have hx':ev t' x = .ptr (.o d) 0:=(dB (aW hr)).trans hx;have hd':t' (.o d) = .DK id s left (some k):=(aI hr _ (by simp)).trans hd;have hm':SN es s (t' (.o id)):=by simp[*]
  have h1:=bM hi x;rw[hx']at h1
  simp only[aA]at h1;obtain⟨r0,hr0,hu1⟩:=h1;obtain⟨_,r,seen,hb,hg,⟨o1,o2,o3⟩⟩:=Sv hi hd';rw[hb]at hr0
  simp only[Option.some.injEq]at hr0;subst hr0;obtain⟨hmg,hs,l',hp,hrel⟩:=VA hi hm';obtain⟨b,l,clock⟩:=s;simp only at o1 o2 o3 hg hmg hs hp;obtain⟨e,he1,he2,he3⟩:=o3 k rfl;obtain⟨ala,akI⟩:∃q:Array Nat,seen=q.push e.born:=by
   refine⟨seen.pop,?_⟩
   grind
  subst akI;have hrun:=run_entry_at (P:=P) E.w r b clock ala l clock e hg hmg he1 hs.2.1;rcases Fb (k:=k) hrel with⟨g1,_⟩|⟨v0,a0,g1,g2,g3,g4⟩
  ·simp_all
  ·rw[hk]at g1
   simp only[Option.some.injEq]at g1;subst g1;have:a0=e:=wO ((MapKept.stamped_iff l clock).1 hs).2.2 (hp.mem_iff.1 g2) he1 (g3.trans he2.symm);subst this;refine⟨.tuple #[a0.key,a0.val],by simp[execOp,ho,hu1,Sem.run_bind,hrun],?_⟩;simp only[aA];refine⟨_,rfl,?_⟩;simp only[aP];exact⟨_,_,rfl,by rw[he2];exact ade E k,_,_,rfl,g4,rfl⟩
end
end Go.Tr

namespace Go.Tr
open Go
def vI(ks:List (List Int))(vs:List D):List (List Int×TV):=(ks.zip vs).map fun x=>(x.1,.d x.2)
theorem TY{E:En}:∀{ks:List (List Int)} {vs:List D} {l:List MapEntry},l.map (·.key)=ks.map gY→Bj E vs l→jD E (vI ks vs) l
 | [],vs,l,h1,h2=>by
   obtain rfl:l = []:=by cases l<;>simp at h1⊢
   simp[vI,jD]
 | k::ks,vs,l,h1,h2=>by
   obtain⟨a,l',rfl⟩:∃a l',l=a::l':=by cases l with
    | nil=>simp at h1
    | cons a l'=>exact⟨a,l',rfl⟩
   simp only[List.map_cons,List.cons.injEq]at h1;cases vs with
   | nil=>simp[Bj]at h2
   | cons d vs=>
     simp only[Bj]at h2;obtain⟨a',l'',h3,h4,h5⟩:=h2;simp only[List.cons.injEq]at h3;obtain⟨rfl,rfl⟩:=h3;exact⟨a,l',rfl,h1.1,by simp only[aA];exact h4,TY h1.2 h5⟩
theorem SC{E:En}:∀{es:List (List Int×D)} {l:List MapEntry},jD E (es.map fun x=>(x.1,.d x.2)) l→l.map (·.key)=(es.map (·.1)).map gY∧Bj E (es.map (·.2)) l
 | [],l,h=>by simp only[List.map_nil,jD]at h;subst h;exact⟨rfl,by simp[Bj]⟩
 | (k,d)::es,l,h=>by
   obtain⟨a,l',rfl,h1,h2,h3⟩:=h;obtain⟨h4,h5⟩:=SC h3;refine⟨by simp[h1,h4],?_⟩;simp only[List.map_cons,Bj];exact⟨a,l',rfl,by simpa only[aA]using h2,h5⟩
section
variable {P:Program} {A:eX}
theorem Xp{E:En}{ks:List (List Int)}{vs:List D}{u:Value}(h:Rep E (.mp ks vs) u):
  ∃(s:mJ) (l':List MapEntry),u = .map (some s.m)∧E.St s.m 0∧E.w.heap[s.m]? = some (.map s.l s.clock)∧MapKept.Stamped s.l s.clock∧l'.Perm s.l.toList∧jD E (vI ks vs) l'∧l'.length=ks.length:=by
 simp only[Rep]at h;obtain⟨b,l,clock,l',rfl,h1,h2,h3,h4,h5,h6⟩:=h;exact⟨⟨b,l,clock⟩,l',rfl,h1,h2,h4,h3,TY h5 h6,by have:=congrArg List.length h5;simpa using this⟩
theorem Yg{o:Oper}{t:S}{ty e:TypeId}{x ix:Operand}{ck:Bool}{ks:List (List Int)}{vs:List D}{k:List Int}{z:Value}(ho:o.op = .lookup ty x ix ck)(hm:YR P ty k.length=some e)(hz:tC P e=some z)
  (hx:ev t x = .d (.mp ks vs)) (hix:toKey (ev t ix)=some k):fG P A o t ⟨DR k.length (vI ks vs),pl x++pl ix,[],UW ck (uq (vI ks vs) k) (lu z)⟩:=
 .pure fun hC t' hr a E hi=>by
  have hx':ev t' x = .d (.mp ks vs):=(dB (aW hr)).trans hx;have hix':toKey (ev t' ix)=some k:=by rw[dB (aI hr)];exact hix
  obtain⟨kt,hu,hkt⟩:=IC hm;have h1:=bM hi x;rw[hx']at h1
  simp only[aA]at h1;obtain⟨⟨b,l,clock⟩,l',hu1,_,hg,hs,hp,hrel,_⟩:=Xp h1;simp only at hu1 hg hs hp;have hu2:=V5 hix' (bM hi ix);have hzero:=Uo hz E.w;have hck:=xG hkt l.isEmpty E.w;have hall:∀e∈l.toList,∃k':List Int,k'.length=k.length∧e.key=gY k':=fun e he=>by
   obtain⟨k',v',g1,g2,_⟩:=SB hrel e (hp.mem_iff.2 he);exact⟨k',hC _ g1,g2⟩
  rcases VX hkt rfl E.w l.toList hall with⟨g1,g2⟩|⟨j,a',g1,g2,g3⟩
  ·rcases Fb (k:=k) hrel with⟨q1,_⟩|⟨v0,e,q1,q2,q3,_⟩
   ·refine⟨match ck with|true=>.tuple #[z,.bool false]|false=>z,?_,?_⟩
    ·cases ck<;>simp[execOp,ho,hu1,hu2,Instr.lookup,Sem.run_bind,run_underlying hu,MapKept.run_getObj_map hg,hck,g1,hzero]
    ·rw[q1];cases ck with
     | true=>
       simp only[UW,aA];exact⟨#[z,.bool false],rfl,by simp only[aP];exact⟨_,_,rfl,qy E z,_,_,rfl,by simp[aA,Rep],rfl⟩⟩
     | false=>simp only[UW];exact qy E z
   ·exact absurd q3 (g2 e (hp.mem_iff.1 q2))
  ·have hel:a'∈l.toList:=List.mem_of_getElem? g2;rcases Fb (k:=k) hrel with⟨q1,q2⟩|⟨v0,e2,q1,q2,q3,q4⟩
   ·exact absurd g3 (q2 a' (hp.mem_iff.2 hel))
   ·have:e2=a':=wO ((MapKept.stamped_iff l clock).1 hs).2.2 (hp.mem_iff.1 q2) hel (q3.trans g3.symm);subst this;refine⟨match ck with|true=>.tuple #[e2.val,.bool true]|false=>e2.val,?_,?_⟩
    ·cases ck<;>simp[execOp,ho,hu1,hu2,Instr.lookup,Sem.run_bind,run_underlying hu,MapKept.run_getObj_map hg,hck,g1]
    ·rw[q1];cases ck with
     | true=>
       simp only[UW,aA];exact⟨#[e2.val,.bool true],rfl,by simp only[aP];exact⟨_,_,rfl,q4,_,_,rfl,by simp[aA,Rep],rfl⟩⟩
     | false=>simp only[UW];exact q4
theorem aex{o:Oper}{t:S}{x:Operand}{ty kt e:TypeId}{ks:List (List Int)}{vs:List D}(ho:o.op = .call {callee:=.builtin .len,args:=#[x],argTypes:=#[ty]})(he:P.underlying ty=some (.map kt e))(hx:ev t x = .d (.mp ks vs)):
  fG P A o t ⟨True,pl x,[],.d (.int .i64 ks.length)⟩:=
 .pure fun hC t' hr a E hi=>by
  have hx':=bM hi x;rw[dB hr,hx]at hx'
  simp only[aA]at hx';obtain⟨⟨b,l,clock⟩,l',hu1,_,hg,hs,hp,hrel,hl⟩:=Xp hx';simp only at hu1 hg hp;have hl:l.size=ks.length:=by rw[←hl,hp.length_eq];simp
  refine⟨.int .i64 ks.length,?_,by simp[aA,Rep]⟩;simp[execOp,ho,resolve,invoke,builtin,Builtin.len_,hu1,Sem.run_bind,run_underlying he,MapKept.run_getObj_map hg,hl,goInt]
theorem adw{o:Oper}{t:S}{ty kt e:TypeId}{x:Operand}{d z:Nat}{ks:List (List Int)}{vs:List D}(ho:o.op = .range ty x)(hty:P.underlying ty=some (.map kt e))(hx:ev t x = .d (.mp ks vs))(hd:t (.o d) = .none)(hz:t (.o z) = .none)(hdz:d≠z):
  ∀t',(∀p∈pl x++[.o z,.o d],t' p=t p)→∀a E,dL A t' a E→∃(s:mJ) (u:Value) (E':En),(execOp a.eval o).run P E.w = .ok (.value u) E'.w∧dL A (over t' [(.o d,.DK z s ((vI ks vs).map (·.1)) none),(.o z,.IE (vI ks vs) s)]) a E'∧aA E' (.ptr (.o d) 0) u:=fun t' hr a E hi=>by
 have hx':ev t' x = .d (.mp ks vs):=(dB (aW hr)).trans hx;have hz':t' (.o z) = .none:=(aI hr _ (by simp)).trans hz;have hd':t' (.o d) = .none:=(aI hr _ (by simp)).trans hd;have h1:=bM hi x;rw[hx']at h1
 simp only[aA]at h1;obtain⟨s,l',hu1,hst,hg,hs,hp,hrel,_⟩:=Xp h1;have hfree:=hi.h.item (.o z) (by simp);rw[hz']at hfree
 obtain⟨hb0,hv0⟩:=hfree z rfl;have hown:E.own (.o z)=none:=by simp[En.own,hb0,hv0]
 have hH:jQ E (upd t' (.o z) (.IE (vI ks vs) s)):=by
  refine hi.h.change (by simp) (Ext.refl _ _) (fun b o h=>.inl h) (fun _ _=>rfl) (fun _ _=>rfl) (Nat.le_refl _) (fun _ _ _ _=>rfl) (fun b' hb'=>by rw[hown]at hb';simp at hb') ?_ (fun b' o' hs hb'=>by rw[hown]at hb';simp at hb');exact⟨hown,hst,hg,hs,l',hp,hrel⟩
 have hi2:dL A (upd t' (.o z) (.IE (vI ks vs) s)) a E:=⟨hH,hi.fr,fun k tv hk=>hi.sl k tv (by simpa[upd]using hk),hi.defers,hi.size⟩
 obtain⟨E',hw',hi3,hrl⟩:=hi2.abZ (d:=d) (id:=z) (by simp[upd,hdz,hd']) hs hp hrel;refine⟨s,_,E',?_,hi3,hrl⟩;have:=run_range_map (P:=P) E.w ty kt e s.m s.l s.clock hty hg;simp[execOp,ho,hu1,Sem.run_bind,this,hw']
end
end Go.Tr
