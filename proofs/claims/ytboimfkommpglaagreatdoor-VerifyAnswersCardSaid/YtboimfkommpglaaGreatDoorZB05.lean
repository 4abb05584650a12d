/-
  What functions of the program compute, stated as contracts over plain data; the conditions of each stand in its own statement.
-/
import Derived.Test.YtboimfkommpglaaGreatDoorZB04
import Derived.Maps.RangeRun
set_option linter.unusedSimpArgs false
namespace Go.Tr
open Go
def zh(n:Nat)(es:List (List Int×TV)):Prop:=∀y∈es,y.1.length=n
section
variable {P:Program} {A:jL}
theorem Y7{o:Oper}{t:S}{ty e:TypeId}{x ix:Operand}{ck:Bool}{id c:Nat}{es:List (List Int×TV)}{pd:Option (List Int)}{s:Option oO}{k:List Int}{z:Value}(ho:o.op = .lookup ty x ix ck)(hm:ZR P ty k.length=some e)(hz:wS P e=some z)
  (hx:ev t x = .mref id) (ht:t (.o id) = .jA es c pd s) (hix:toKey (ev t ix)=some k):jD P A o t ⟨zh k.length es,pl x++(pl ix++[.o id]),[],Vp ck (mJ es k) (o7 z)⟩:=
 .pure fun hC t' hr a E hi=>by
  have hx':ev t' x = .mref id:=(fZ (dw hr)).trans hx;have hix':toKey (ev t' ix)=some k:=by rw[fZ (dw (bg hr))];omega
  have ht':t' (.o id) = .jA es c pd s:=(bg (bg hr) _ (by simp)).trans ht;obtain⟨kt,hu,hkt⟩:=Hu hm;obtain⟨b,l,clock,l',ty',v,hu1,hu2,hb,hg,hp,hrel,hs,hv,hpd,hf⟩:=I4 hi hx' ht' hix' hkt hC;have hzero:=UU hz E.w;have hck:=yg hkt l.isEmpty E.w;rcases hf with⟨g1,g2,g3,_⟩|⟨j,a',v0,g1,g2,g3,g4,g5,_⟩
  ·refine⟨match ck with|true=>.tuple #[z,.bool false]|false=>z,?_,?_⟩
   ·cases ck<;>simp[execOp,ho,hu1,hu2,Instr.lookup,Sem.run_bind,run_underlying hu,MapKept.run_getObj_map hg,hck,g1,hzero]
   ·rw[g2];cases ck with
    | true=>simp only[Vp,aV];exact⟨#[z,.bool false],rfl,by simp only[b_];exact⟨_,_,rfl,sO E z,_,_,rfl,by rfl,rfl⟩⟩
    | false=>simp[Vp,sO]
  ·refine⟨match ck with|true=>.tuple #[a'.val,.bool true]|false=>a'.val,?_,?_⟩
   ·cases ck<;>simp[execOp,ho,hu1,hu2,Instr.lookup,Sem.run_bind,run_underlying hu,MapKept.run_getObj_map hg,hck,g1]
   ·rw[g4];cases ck with
    | true=>simp only[Vp,aV];exact⟨#[a'.val,.bool true],rfl,by simp only[b_];exact⟨_,_,rfl,g5,_,_,rfl,by rfl,rfl⟩⟩
    | false=>trivial
theorem Ht{l:Array MapEntry}{clock:Nat}(hs:MapKept.Stamped l clock){j:Nat}{a:MapEntry}(hj:l[j]? = some a){kv:Value}(ha:a.key=kv)(f:MapEntry→MapEntry):(l.modify j f).toList=Iw kv f l.toList:=by
 have hnd:(l.toList.map (·.key)).Nodup:=hs.2.2;have hj':l.toList[j]? = some a:=by simp[*]
 rw[Array.toList_modify];clear hj hs;generalize l.toList=L at hnd hj'
 induction L generalizing j with
 | nil=>trivial
 | cons b L ih=>grind[JY,List.modify_zero_cons,adL,List.mem_of_getElem?,List.modify_succ_cons,Xb]
theorem afG{kv:Value}{f:MapEntry→MapEntry}{l l':List MapEntry}(h:l.Perm l'):(Iw kv f l).Perm (Iw kv f l'):=h.map _
theorem acE{E:En}{es:List (List Int×TV)}{k:List Int}{v:TV}{u:Value}(hr:aV E v u){l:Array MapEntry}{l':List MapEntry}{clock:Nat}(hp:l'.Perm l.toList)(hm:nH E es l')(hs:MapKept.Stamped l clock){j:Nat}{a:MapEntry}(hj:l[j]? = some a)(ha:a.key=jX k):
  (Iw (jX k) (fun e=>{e with key:=jX k,val:=u}) l').Perm (l.modify j fun e=>{e with key:=jX k,val:=u}).toList∧nH E (vO es k v) (Iw (jX k) (fun e=>{e with key:=jX k,val:=u}) l')∧MapKept.Stamped (l.modify j fun e=>{e with key:=jX k,val:=u}) clock:=by
 refine⟨?_,?_,?_⟩
 ·rw[Ht hs hj ha];simp_all[afG]
 ·refine ZL (E:=E) (k:=k) (v:=v) (u:=u) (f:=fun e=>{e with key:=jX k,val:=u}) hr (fun a=>And.intro rfl rfl) hm ((hp.map _).nodup_iff.2 hs.2.2) ⟨a,hp.mem_iff.2 (bU (by simpa using hj)),ha⟩
 ·exact MapKept.stamped_modify hs j _ (fun _ _=>rfl) (fun e _ he=>by simp_all)
theorem adG{E:En}{es:List (List Int×TV)}{k:List Int}{v:TV}{u:Value}(hr:aV E v u){l:Array MapEntry}{l':List MapEntry}{clock:Nat}(hp:l'.Perm l.toList)(hm:nH E es l')(hs:MapKept.Stamped l clock)(h1:∀b∈l.toList,b.key≠jX k)(h2:∀b∈l',b.key≠jX k):
  (l'++[(⟨jX k,u,clock⟩:MapEntry)]).Perm (l.push ⟨jX k,u,clock⟩).toList∧nH E (vO es k v) (l'++[⟨jX k,u,clock⟩])∧MapKept.Stamped (l.push ⟨jX k,u,clock⟩) (clock+1):=by
 refine⟨?_,ZK rfl hr hm h2,MapKept.stamped_push hs h1⟩
 simp_all[Array.toList_push,List.Perm.append_right]
theorem GV{o:Oper}{t:S}{ty e:TypeId}{x ix y:Operand}{id c:Nat}{es:List (List Int×TV)}{pd:Option (List Int)}{s:Option oO}{k:List Int}{vy:TV}(ho:o.op = .mapUpdate ty x ix y∨o.op = .insert ty x ix y)(hm:ZR P ty k.length=some e)
  (hx:ev t x = .mref id) (ht:t (.o id) = .jA es c pd s) (hix:toKey (ev t ix)=some k) (hy:ev t y=vy):jD P A o t ⟨zh k.length es,pl x++(pl ix++(pl y++[.o id])),[(.o id,.jA (vO es k vy) c none none)],.junk⟩:=fun hC t' hr a E hi=>by
 have hx':ev t' x = .mref id:=(fZ (dw hr)).trans hx;have hix':toKey (ev t' ix)=some k:=by rw[fZ (dw (bg hr))];omega
 have hy':ev t' y=vy:=(fZ (dw (bg (bg hr)))).trans hy;have ht':t' (.o id) = .jA es c pd s:=(bg (bg (bg hr)) _ (by simp)).trans ht;obtain⟨kt,hu,hkt⟩:=Hu hm;obtain⟨b,l,clock,l',ty',v,hu1,hu2,hb,hg,hp,hrel,hs,hv,hpd,hf⟩:=I4 hi hx' ht' hix' hkt hC;have h3:=dS hi y;rw[hy']at h3
 have hck:=yg hkt false E.w;rcases hf with⟨g1,g2,g3,g4⟩|⟨j,a',v0,g1,g2,g3,g4,g5,g6⟩
 ·obtain⟨q1,q2,q3⟩:=adG h3 hp hrel hs g3 g4;obtain⟨E',hw',x',hinv,_⟩:=hi.Tm (l2:=l.push ⟨jX k,a.eval y,clock⟩) (clock2:=clock+1) (c':=c) (v':=v) (pd':=none) ht' hb hg hv q1 q2 q3 (aI _) (fun _=>rfl) trivial;refine⟨.skip,undef,E',?_,.inr ⟨rfl,rfl⟩,hinv,by simp only[aV]⟩
  rcases ho with ho|ho<;>simp[execOp,ho,hu1,hu2,Instr.mapUpdate,Sem.run_bind,run_underlying hu,MapKept.run_getObj_map hg,MapKept.run_setObj_map _ hg,hck,g1,hw']
 ·obtain⟨q1,q2,q3⟩:=acE h3 hp hrel hs g2 g3;obtain⟨E',hw',x',hinv,_⟩:=hi.Tm (l2:=l.modify j fun e=>{e with key:=jX k,val:=a.eval y}) (clock2:=clock) (c':=c) (v':=v) (pd':=none) ht' hb hg hv q1 q2 q3 (aI _) (fun _=>rfl) trivial;refine⟨.skip,undef,E',?_,.inr ⟨rfl,rfl⟩,hinv,by simp only[aV]⟩;have hst:(Instr.keyThatStays (jX k) (jX k)).run P E.w = .ok (jX k) E.w:=by
   simp[Instr.keyThatStays,Jr]
  rcases ho with ho|ho<;>simp[execOp,ho,hu1,hu2,Instr.mapUpdate,Sem.run_bind,run_underlying hu,MapKept.run_getObj_map hg,MapKept.run_setObj_map _ hg,hck,g1,g2,g3,hst,hw']
theorem Vb{o:Oper}{t:S}{ty e:TypeId}{x ix:Operand}{id c:Nat}{es:List (List Int×TV)}{pd:Option (List Int)}{s:Option oO}{k:List Int}{z:Value}(ho:o.op = .mapEntry ty x ix)(hm:ZR P ty k.length=some e)(hz:wS P e=some z)
  (hx:ev t x = .mref id) (ht:t (.o id) = .jA es c pd s) (hix:toKey (ev t ix)=some k):jD P A o t ⟨zh k.length es,pl x++(pl ix++[.o id]),[(.o id,.jA (vO es k (Vp false (mJ es k) (o7 z))) (c+1) (some k) none)],.sZ [Vp false (mJ es k) (o7 z),.bK id (c+1)]⟩:=fun hC t' hr a E hi=>by
 have hx':ev t' x = .mref id:=(fZ (dw hr)).trans hx;have hix':toKey (ev t' ix)=some k:=by rw[fZ (dw (bg hr))];omega
 have ht':t' (.o id) = .jA es c pd s:=(bg (bg hr) _ (by simp)).trans ht;obtain⟨kt,hu,hkt⟩:=Hu hm;obtain⟨b,l,clock,l',ty',v,hu1,hu2,hb,hg,hp,hrel,hs,hv,hpd,hf⟩:=I4 hi hx' ht' hix' hkt hC;have hck:=yg hkt false E.w;have hzero:=UU hz E.w;rcases hf with⟨g1,g2,g3,g4⟩|⟨j,a',v0,g1,g2,g3,g4,g5,g6⟩
 ·obtain⟨q1,q2,q3⟩:=adG (sO E z) hp hrel hs g3 g4;obtain⟨E',hw',x',hinv,hval⟩:=hi.Tm (l2:=l.push ⟨jX k,z,clock⟩) (clock2:=clock+1) (c':=c+1) (v':=.int .i64 clock) (pd':=some k) ht' hb hg hv q1 q2 q3 (by omega) (fun h=>by omega) ⟨⟨jX k,z,clock⟩,by simp,rfl,rfl⟩;refine⟨.value (.tuple #[z,.int .i64 clock]),_,E',?_,.inl rfl,by simp_all[over,Vp],?_⟩
  ·simp[execOp,ho,hu1,hu2,Instr.mapEntry,Sem.run_bind,run_underlying hu,MapKept.run_getObj_map hg,MapKept.run_setObj_map _ hg,hck,g1,hw',hzero,goInt]
  ·simp only[g2,Vp,aV];refine⟨_,rfl,?_⟩;simp only[b_];exact⟨_,_,rfl,sO E' z,_,_,rfl,by simp only[aV];exact⟨rfl,_,_,_,hval,aI _,fun _=>rfl⟩,rfl⟩
 ·have hst:(Instr.keyThatStays (jX k) (jX k)).run P E.w = .ok (jX k) E.w:=by
   simp[Instr.keyThatStays,Jr]
  have hf:(l.modify j fun e=>{e with key:=jX k})=l.modify j fun e=>{e with key:=jX k,val:=a'.val}:=by
   apply Array.ext_getElem?;intro i;simp only[Array.getElem?_modify];by_cases hij:j=i
   ·subst hij;simp[g2]
   ·simp[hij]
  obtain⟨q1,q2,q3⟩:=acE g5 hp hrel hs g2 g3;obtain⟨E',hw',x',hinv,hval⟩:=hi.Tm (l2:=l.modify j fun e=>{e with key:=jX k,val:=a'.val}) (clock2:=clock) (c':=c+1) (v':=.int .i64 a'.born) (pd':=some k) ht' hb hg hv q1 q2 q3 (by omega) (fun h=>by omega)
   ⟨⟨jX k,a'.val,a'.born⟩,by
     rw[Ht hs g2 g3];unfold Iw;exact ay.2 ⟨a',bU (by simpa using g2),by simp[g3]⟩,rfl,rfl⟩
  refine⟨.value (.tuple #[a'.val,.int .i64 a'.born]),_,E',?_,.inl rfl,by simpa only[over,g4,Vp]using hinv,?_⟩
  ·simp[execOp,ho,hu1,hu2,Instr.mapEntry,Sem.run_bind,run_underlying hu,MapKept.run_getObj_map hg,MapKept.run_setObj_map _ hg,hck,g1,g2,g3,hst,hw',hf,goInt]
  ·simp only[g4,Vp,aV];refine⟨_,rfl,?_⟩;simp only[b_];exact⟨_,_,rfl,g5.up x',_,_,rfl,by simp only[aV];exact⟨rfl,_,_,_,hval,aI _,fun _=>rfl⟩,rfl⟩
theorem VA:∀{l:List MapEntry},(l.map (·.born)).Nodup→∀{x y:MapEntry},x∈l→y∈l→x.born=y.born→x=y
 | [],_,_,_,hx,_,_=>by trivial
 | a::r,hn,x,y,hx,hy,h=>by
   rw[aH,dG]at hn
   rcases aG.1 hx with ex|hx'
   ·grind
   ·rcases aG.1 hy with ey|hy'
    ·simp_all
    ·exact VA hn.2 hx' hy' h
theorem P_{o:Oper}{t:S}{ty:TypeId}{x ix y:Operand}{id c n:Nat}{es:List (List Int×TV)}{s:Option oO}{k:List Int}{vy:TV}(ho:o.op = .entryStore ty x ix y)
  (hx:ev t x = .mref id) (ht:t (.o id) = .jA es c (some k) s) (hix:ev t ix = .bK id n) (hy:ev t y=vy):jD P A o t ⟨n=c,pl x++(pl ix++(pl y++[.o id])),[(.o id,.jA (vO es k vy) c (some k) none)],.junk⟩:=fun hC t' hr a E hi=>by
 have hx':ev t' x = .mref id:=(fZ (dw hr)).trans hx;have hix':ev t' ix = .bK id n:=(fZ (dw (bg hr))).trans hix;have hy':ev t' y=vy:=(fZ (dw (bg (bg hr)))).trans hy;have ht':t' (.o id) = .jA es c (some k) s:=(bg (bg (bg hr)) _ (by simp)).trans ht;subst hC;have h1:=dS hi x;rw[hx']at h1
 simp only[aV]at h1;obtain⟨b0,hb0,hu1⟩:=h1;have h2:=dS hi ix;rw[hix']at h2
 obtain⟨b,l,clock,l',ty',v,hb,hg,hp,hrel,hs,hv,⟨a',ha1,ha2,ha3⟩,_⟩:=EG hi ht';rw[hb]at hb0
 simp only[aj]at hb0;subst hb0;simp only[aV]at h2;obtain⟨_,k2,c2,v2,hv2,_,hcv⟩:=h2;rw[hv]at hv2
 simp only[aj,aK]at hv2;obtain⟨rfl,rfl,rfl⟩:=hv2;have hu2:a.eval ix = .int .i64 a'.born:=(hcv rfl).trans ha3;have h3:=dS hi y;rw[hy']at h3
 have hfi:∃j,l.findIdx? (fun e=>(e.born:Int)==(a'.born:Int))=some j∧l[j]? = some a':=by
  cases hj:l.findIdx? (fun e=>(e.born:Int)==(a'.born:Int))with
  | none=>
    rw[Array.findIdx?_eq_none_iff]at hj
    have:=hj a' (by simpa using ha1);simp at this
  | some j=>
    obtain⟨h4,h5,_⟩:=Array.findIdx?_eq_some_iff_getElem.1 hj;refine⟨j,rfl,?_⟩;have h6:(l[j]).born=a'.born:=by
     have:((l[j]).born:Int)=a'.born:=by simpa using h5
     omega
    have h7:=hs.2.1;have h8:l[j]=a':=by
     have hm:l[j]∈l.toList:=by simp
     exact VA h7 hm ha1 h6
    rw[iQ h4,h8]
 obtain⟨j,hj1,hj2⟩:=hfi;have hf:(l.modify j fun e=>{e with val:=a.eval y})=l.modify j fun e=>{e with key:=jX k,val:=a.eval y}:=by
  apply Array.ext_getElem?;intro i;simp only[Array.getElem?_modify];by_cases hij:j=i
  ·subst hij;simp[hj2,←ha2]
  ·simp[hij]
 obtain⟨q1,q2,q3⟩:=acE h3 hp hrel hs hj2 ha2;obtain⟨E',hw',x',hinv,hval⟩:=hi.Tm (l2:=l.modify j fun e=>{e with key:=jX k,val:=a.eval y}) (clock2:=clock) (c':=n) (v':=v) (pd':=some k) ht' hb hg hv q1 q2 q3 (aI _) (fun _=>rfl)
  ⟨⟨jX k,a.eval y,a'.born⟩,by
    rw[Ht hs hj2 ha2];unfold Iw;exact ay.2 ⟨a',ha1,by simp[ha2]⟩,rfl,ha3⟩
 refine⟨.skip,undef,E',?_,.inr ⟨rfl,rfl⟩,hinv,by simp only[aV]⟩;simp[execOp,ho,hu1,hu2,Instr.entryStore,Sem.run_bind,MapKept.run_getObj_map hg,MapKept.run_setObj_map _ hg,asInt,asIntOf,hj1,hw',hf]
theorem agB{o:Oper}{t:S}{x:Operand}{ty kt e:TypeId}{id c:Nat}{es:List (List Int×TV)}{pd:Option (List Int)}{s:Option oO}(ho:o.op = .call {callee:=.builtin .len,args:=#[x],argTypes:=#[ty]})(he:P.underlying ty=some (.map kt e))(hx:ev t x = .mref id)
  (ht:t (.o id) = .jA es c pd s):jD P A o t ⟨True,pl x++[.o id],[],.d (.int .i64 es.length)⟩:=
 .pure fun hC t' hr a E hi=>by
  have hx':=dS hi x;rw[fZ (dw hr),hx]at hx'
  have ht':t' (.o id) = .jA es c pd s:=(bg hr _ (by simp)).trans ht;simp only[aV]at hx';obtain⟨b0,hb0,hu1⟩:=hx';obtain⟨b,l,clock,l',ty',v,hb,hg,hp,hrel,hs,hv,_⟩:=EG hi ht';rw[hb]at hb0
  simp only[aj]at hb0;subst hb0;have hl:l.size=es.length:=by rw[←ZJ hrel,hp.length_eq];simp
  refine⟨.int .i64 es.length,?_,by rfl⟩;simp[execOp,ho,resolve,invoke,builtin,Builtin.len_,hu1,Sem.run_bind,run_underlying he,MapKept.run_getObj_map hg,hl,goInt]
open Classical in
theorem erase_filter{l:Array MapEntry}{clock:Nat}(hs:MapKept.Stamped l clock){j:Nat}{a:MapEntry}(hj:l[j]? = some a){kv:Value}(ha:a.key=kv):(l.eraseIdxIfInBounds j).toList=l.toList.filter fun e=>decide (e.key≠kv):=by
 have hnd:(l.toList.map (·.key)).Nodup:=hs.2.2;have hlt:j<l.size:=(bZ.1 hj).1;have hj':l.toList[j]? = some a:=by simp_all
 unfold Array.eraseIdxIfInBounds;rw[dif_pos hlt,Array.toList_eraseIdx];generalize l.toList=L at hnd hj';clear hlt hj
 induction L generalizing j with
 | nil=>rfl
 | cons b L ih=>
   obtain⟨n1,n2⟩:=JY hnd;cases j with
   | zero=>simp at hj';subst hj';rw[List.eraseIdx_cons_zero,dD,if_neg (by simp[ha])];rw[su.2 fun c hc=>by simpa using fun e:c.key=kv=>n1 c hc (e.trans ha.symm)]
   | succ j=>
     have hj2:L[j]? = some a:=by simpa using hj'
     have hne :¬b.key=kv:=fun e=>n1 a (bU hj2) (ha.trans e.symm)
     rw[List.eraseIdx_cons_succ,ih n2 hj2,dD,if_pos (by simpa using hne)]
theorem Y1{o:Oper}{t:S}{ty e kty:TypeId}{x ix:Operand}{id c:Nat}{es:List (List Int×TV)}{pd:Option (List Int)}{s:Option oO}{k:List Int}(ho:o.op = .call {callee:=.builtin .delete,args:=#[x,ix],argTypes:=#[ty,kty]})(hm:ZR P ty k.length=some e)
  (hx:ev t x = .mref id) (ht:t (.o id) = .jA es c pd s) (hix:toKey (ev t ix)=some k):jD P A o t ⟨zh k.length es,pl x++(pl ix++[.o id]),[(.o id,.jA (abP es k) c none none)],.sZ []⟩:=fun hC t' hr a E hi=>by
 classical
 have hx':ev t' x = .mref id:=(fZ (dw hr)).trans hx;have hix':toKey (ev t' ix)=some k:=by rw[fZ (dw (bg hr))];omega
 have ht':t' (.o id) = .jA es c pd s:=(bg (bg hr) _ (by simp)).trans ht;obtain⟨kt,hu,hkt⟩:=Hu hm;obtain⟨b,l,clock,l',ty',v,hu1,hu2,hb,hg,hp,hrel,hs,hv,hpd,hf⟩:=I4 hi hx' ht' hix' hkt hC;have hck:=yg hkt l.isEmpty E.w;have hdel:=ZI (k:=k) hrel;rcases hf with⟨g1,g2,g3,g4⟩|⟨j,a',v0,g1,g2,g3,g4,g5,g6⟩
 ·have e1:l'.filter (fun a=>decide (a.key≠jX k))=l':=su.2 fun a ha=>by simpa using g4 a ha
  rw[e1]at hdel
  obtain⟨E',hw',x',hinv,_⟩:=hi.Tm (l2:=l) (clock2:=clock) (c':=c) (v':=v) (pd':=none) ht' hb hg hv hp hdel hs (aI _) (fun _=>rfl) trivial;refine⟨.value (.tuple #[]),_,E',?_,.inl rfl,hinv,by simp only[aV];exact⟨#[],rfl,by simp[b_]⟩⟩
  simp[execOp,ho,resolve,invoke,builtin,Builtin.delete_,hu1,hu2,Sem.run_bind,run_underlying hu,MapKept.run_getObj_map hg,MapKept.run_setObj_map _ hg,hck,g1,hw']
 ·have hpf:(l'.filter fun a=>decide (a.key≠jX k)).Perm (l.eraseIdxIfInBounds j).toList:=by
   rw[erase_filter hs g2 g3];exact hp.filter _
  obtain⟨E',hw',x',hinv,_⟩:=hi.Tm (l2:=l.eraseIdxIfInBounds j) (clock2:=clock) (c':=c) (v':=v) (pd':=none) ht' hb hg hv hpf hdel (MapKept.stamped_erase hs j) (aI _) (fun _=>rfl) trivial;refine⟨.value (.tuple #[]),_,E',?_,.inl rfl,hinv,by simp only[aV];exact⟨#[],rfl,by simp[b_]⟩⟩
  simp[execOp,ho,resolve,invoke,builtin,Builtin.delete_,hu1,hu2,Sem.run_bind,run_underlying hu,MapKept.run_getObj_map hg,MapKept.run_setObj_map _ hg,hck,g1,hw']
end
end Go.Tr

namespace Go.Tr
open Go
section
variable {P:Program} {A:jL}
theorem iI.snap{t:S}{a:Act}{E:En}(hi:iI A t a E){id c:Nat}{es:List (List Int×TV)}{pd:Option (List Int)}{s0:Option oO}(ht:t (.o id) = .jA es c pd s0):
  ∃s:oO,iI A (upd t (.o id) (.jA es c pd (some s))) a E∧E.blk (.o id)=some s.m∧E.w.heap[s.m]? = some (.map s.l s.clock)∧MapKept.Stamped s.l s.clock∧∃l',l'.Perm s.l.toList∧nH E es l':=by
 obtain⟨b,l,clock,l',ty,v,hb,hg,hp,hrel,hs,hv,hpd,_⟩:=EG hi ht;have oK:E.own (.o id)=some b:=by simp_all[En.own]
 have hst:∀b' o',E.St b' o'→b'≠b:=fun b' o' h e=>by
  subst e;obtain⟨e2,k2,es2,h1,_⟩:=hi.h.sep _ o' h _ oK
  simp_all
 have hH:pX E (upd t (.o id) (.jA es c pd (some ⟨b,l,clock⟩))):=by
  refine hi.h.change (by simp) (Ext.refl _ _) (fun b o h=>.inl h) (fun _ _=>rfl) (fun _ _=>rfl) (aI _) (fun _ _ _ _=>rfl) (fun b' hb'=>⟨hi.h.size _ _ hb',.inl hb'⟩) ?_ (fun b' o' hs hb'=>?_)
  ·exact⟨id,b,l,clock,l',ty,v,rfl,hb,hg,hp,hrel,hs,hv,hpd,fun x hx=>by simp_all⟩
  grind
 exact⟨⟨b,l,clock⟩,⟨hH,hi.fr,fun k tv hk=>hi.sl k tv (by trivial),hi.defers,hi.size⟩,hb,hg,hs,l',hp,hrel⟩
theorem iI.adu{t:S}{a:Act}{E:En}(h:iI A t a E){d id:Nat}(hd:t (.o d) = .none){s:oO}(hs:MapKept.Stamped s.l s.clock){es:List (List Int×TV)}{l':List MapEntry}(hp:l'.Perm s.l.toList)(hrel:nH E es l'):
  ∃E':En,E'.w=E.w.alloc (.mapIter (some s.m) s.clock #[] s.clock)∧iI A (upd t (.o d) (.Fb id s (es.map (·.1)) none)) a E'∧aV E' (.ptr (.o d) 0) (.pointer (some ⟨E.w.heap.size,0,none⟩)):=by
 have hfree:=h.h.item (.o d) (by simp);rw[hd]at hfree
 obtain⟨hb0,hv0⟩:=hfree d rfl
 let E':En:={w:=E.w.alloc (.mapIter (some s.m) s.clock #[] s.clock),St:=E.St,blk:=fun p=>if p = .o d then some E.w.heap.size else E.blk p,val:=E.val}
 have hold:∀b,b<E.w.heap.size→E'.w.heap[b]? = E.w.heap[b]? :=fun b hb=>(MapKept.heap_alloc E.w _).2 b hb
 have x:uG E E':=by
  refine⟨fun _ _ h=>h,fun b o hst=>jV (hold b (h.h.uP b o hst)),fun id b _ he=>?_,fun i b he=>by trivial,fun i b he=>by trivial,fun _ _ c v _ hv=>⟨c,v,hv,aI _,fun _=>rfl⟩⟩
  grind
 have hown:E'.own (.o d)=some E.w.heap.size:=by grind[En.own]
 have S9:∀q,q≠.o d→E'.own q=E.own q:=fun q hq=>En.qB (by grind) (fun _ _=>rfl)
 have hH:pX E' (upd t (.o d) (.Fb id s (es.map (·.1)) none)):=by
  refine h.h.change (by simp) x (fun b o hst=>.inl hst) (fun q hq=>by grind) (fun id hid=>rfl) (by grind) (fun q b hq hb=>hold b (h.h.size q b hb)) (fun b hb=>?_) ?_ (fun b o hst hb=>?_)
  ·rw[hown]at hb;simp at hb;subst hb;exact⟨by simp[E'],.inr (aI _)⟩
  ·refine⟨fun id hid=>?_,E.w.heap.size,#[],by grind,(MapKept.heap_alloc E.w _).1,?_,hs.1,by simp⟩
   ·grind
   ·have h1:=(hp.map (·.key)).symm;rw[EC hrel]at h1
    have e1:(s.l.toList.filter fun x=>!(#[]:Array Nat).contains x.born)=s.l.toList:=su.2 fun _ _=>by simp
    rw[e1,bQ]
    trivial
  ·rw[hown]at hb;simp at hb;subst hb
   exact absurd (h.h.uP _ _ hst) (by omega)
 refine⟨E',rfl,h.step hH x (h.fr.next rfl rfl rfl (by grind) (fun b hb _ _=>hold b (fC hb h.fr.size)) (fun i=>by rfl) (fun id b hb=>?_) (fun _ _ h=>h) (fun _ _ h=>.inl h)) (fun k=>E8 (by simp) k),?_⟩
 ·grind
 ·simp only[aV];grind
def TJ(es:List (List Int×TV))(s:oO):It→Prop
 | .jA es' _ _ (some s')=>es'=es∧s'=s
 | .Mc es' s'=>es'=es∧s'=s
 | _=>False
theorem Wn{t:S}{a:Act}{E:En}(hi:iI A t a E){id:Nat}{es:List (List Int×TV)}{s:oO}(h:TJ es s (t (.o id))):
  E.w.heap[s.m]? = some (.map s.l s.clock)∧MapKept.Stamped s.l s.clock∧∃l',l'.Perm s.l.toList∧nH E es l':=by
 unfold TJ at h;split at h
 ·rename_i ht;obtain⟨b,l,clock,l',ty,v,hb,hg,hp,hrel,hs,hv,hpd,hsn⟩:=EG hi ht
  grind
 ·rename_i ht;obtain⟨rfl,rfl⟩:=h;have:=hi.h.item (.o id) (by simp);rw[ht]at this
  exact⟨this.2.2.1,this.2.2.2.1,this.2.2.2.2⟩
 trivial
theorem ah3{o:Oper}{t:S}{ty kt e:TypeId}{x:Operand}{id c d:Nat}{es:List (List Int×TV)}{pd:Option (List Int)}{s0:Option oO}(ho:o.op = .range ty x)(hty:P.underlying ty=some (.map kt e))(hx:ev t x = .mref id)(ht:t (.o id) = .jA es c pd s0)(hd:t (.o d) = .none):
  ∀t',(∀p∈pl x++[.o id,.o d],t' p=t p)→∀a E,iI A t' a E→∃(s:oO) (u:Value) (E':En),(execOp a.eval o).run P E.w = .ok (.value u) E'.w∧iI A (over t' [(.o d,.Fb id s (es.map (·.1)) none),(.o id,.jA es c pd (some s))]) a E'∧aV E' (.ptr (.o d) 0) u:=fun t' hr a E hi=>by
 have hx':ev t' x = .mref id:=(fZ (dw hr)).trans hx;have ht':t' (.o id) = .jA es c pd s0:=(bg hr _ (by simp)).trans ht;have hd':t' (.o d) = .none:=(bg hr _ (by simp)).trans hd;have h1:=dS hi x;rw[hx']at h1
 simp only[aV]at h1;obtain⟨b0,hb0,hu1⟩:=h1;obtain⟨s,hi2,hb,hg,hs,l',hp,hrel⟩:=hi.snap ht';rw[hb]at hb0
 simp only[aj]at hb0;subst hb0;have hne:Pl.o d≠.o id:=fun e=>by rw[e,ht']at hd';simp at hd'
 obtain⟨E',hw',hi3,hrl⟩:=hi2.adu (d:=d) (id:=id) (by simp[upd,hne,hd']) hs hp hrel;refine⟨s,_,E',?_,hi3,hrl⟩;have:=run_range_map (P:=P) E.w ty kt e s.m s.l s.clock hty hg;simp[execOp,ho,hu1,Sem.run_bind,this,hw']
theorem Tj{t:S}{a:Act}{E:En}(hi:iI A t a E){d id:Nat}{s:oO}{left:List (List Int)}{cur:Option (List Int)}(ht:t (.o d) = .Fb id s left cur):E.val d=none∧∃r seen,E.blk (.o d)=some r∧E.w.heap[r]? = some (.mapIter (some s.m) s.clock seen s.clock)∧ajl s left cur seen:=by
 have:=hi.h.item (.o d) (by simp);rw[ht]at this
 exact⟨this.1 d rfl,this.2⟩
theorem iI.ahn{t:S}{a:Act}{E:En}(hi:iI A t a E){d id r:Nat}{s:oO}{left left':List (List Int)}{cur cur':Option (List Int)}{seen seen':Array Nat}{w1:World}(ht:t (.o d) = .Fb id s left cur)(hb:E.blk (.o d)=some r)(hg:E.w.heap[r]? = some (.mapIter (some s.m) s.clock seen s.clock))
  (hw1:w1=E.w∨w1=E.w.drew) (hok:ajl s left' cur' seen') :
  ∃E':En,E'.w=ChangeMaps.setBlock w1 r (.mapIter (some s.m) s.clock seen' s.clock)∧uG E E'∧iI A (upd t (.o d) (.Fb id s left' cur')) a E':=by
 obtain⟨hv0,_⟩:=Tj hi ht;have hlt:r<E.w.heap.size:=(bZ.1 hg).1;have oK:E.own (.o d)=some r:=by simp_all[En.own]
 have hh:w1.heap=E.w.heap:=by rcases hw1 with rfl|rfl<;>rfl
 let E':En:={E with w:=ChangeMaps.setBlock w1 r (.mapIter (some s.m) s.clock seen' s.clock)}
 have hheap:E'.w.heap=E.w.heap.setIfInBounds r (.mapIter (some s.m) s.clock seen' s.clock):=by grind[ChangeMaps.setBlock]
 have hoth:∀b',b'≠r→E'.w.heap[b']? = E.w.heap[b']? :=fun b' hne=>by grind
 have hst:∀b' o',E.St b' o'→b'≠r:=fun b' o' h e=>by
  subst e;obtain⟨e2,k2,es2,h1,_⟩:=hi.h.sep _ o' h _ oK
  simp_all
 have x:uG E E':=⟨fun _ _ h=>h,fun b' o' h=>jV (hoth b' (hst b' o' h)),fun _ _ _ h=>h,fun _ _ h=>h,fun _ _ h=>h,fun _ _ c v _ h=>⟨c,v,h,aI _,fun _=>rfl⟩⟩
 have hown:∀q,E'.own q=E.own q:=fun q=>En.qB rfl (fun _ _=>rfl)
 have hsz:E'.w.heap.size=E.w.heap.size:=by simp[*]
 have hH:pX E' (upd t (.o d) (.Fb id s left' cur')):=by
  refine hi.h.change (by simp) x (fun b o h=>.inl h) (fun _ _=>rfl) (fun _ _=>rfl) (by omega) (fun q b' hq hb'=>hoth b' fun e=>hq (by subst e;exact hi.h.inj _ _ _ hb' oK)) (fun b' hb'=>?_) ?_ (fun b' o' hs hb'=>?_)
  ·simp_all
  ·exact⟨fun j hj=>by grind,r,seen',hb,by simp[*],hok⟩
  grind
 have hos:E'.w.os=E.w.os∧E'.w.tape=E.w.tape∧E'.w.output=E.w.output:=by rcases hw1 with rfl|rfl<;>exact⟨rfl,rfl,rfl⟩
 refine⟨E',rfl,x,hi.step hH x (hi.fr.next hos.1 hos.2.1 hos.2.2 (by omega) (fun b' h1 _ h3=>hoth b' fun e=>?_) (fun _=>rfl) (fun j b' h=>.inl (by rwa [hown]at h)) (fun _ _ h=>h) (fun _ _ h=>.inl h)) (fun k=>E8 (by simp) k)⟩;subst e;exact(hi.fr.new d b' oK).elim (fun h=>by omega) (fun⟨j,h⟩=>h3 j h)
def Z8(d id:Nat)(s:oO)(left:List (List Int)):Option (List Int)→List (Pl×It)
 | none=>[]
 | some k=>[(.o d,.Fb id s (left.erase k) (some k))]
def jo:Option (List Int)→TV
 | none=>.sZ [.d (.bool false)]
 | some _=>.sZ [.d (.bool true),.junk,.junk]
def Yb(left:List (List Int)):Option (List Int)→Prop
 | none=>left = []
 | some k=>k∈left
theorem abo{left:List (List Int)}{L:List MapEntry}(h:(L.map (·.key)).Perm (left.map jX)){e:MapEntry}(he:e∈L)(hb:(L.map (·.born)).Nodup):∃k∈left,e.key=jX k∧((L.filter fun x=>!(x.born==e.born)).map (·.key)).Perm ((left.erase k).map jX):=by
 obtain⟨k,hk,hke⟩:=ay.1 (h.mem_iff.1 (ay.2 ⟨e,he,rfl⟩));refine⟨k,hk,hke.symm,?_⟩;have hL:L.Perm (e::L.filter fun x=>!(x.born==e.born)):=by
  clear h
  induction L with
  | nil=>trivial
  | cons a L ih=>
    rw[aH,dG]at hb
    rcases aG.1 he with rfl|he
    ·rw[dD,if_neg (by simp)];rw[su.2 fun x hx=>by simpa using fun e2:x.born=e.born=>hb.1 (ay.2 ⟨x,hx,e2⟩)]
    ·have hne:a.born≠e.born:=fun e2=>hb.1 (ay.2 ⟨e,he,e2.symm⟩)
     rw[dD,if_pos (by simpa using hne)];exact((ih he hb.2).cons a).trans (List.Perm.swap _ _ _)
 have hR:left.Perm (k::left.erase k):=List.perm_cons_erase hk;have h2:=(hL.map (·.key)).symm.trans (h.trans (hR.map jX))
 simp_all
theorem ajz{o:Oper}{t:S}{x:Operand}{d id:Nat}{es:List (List Int×TV)}{s:oO}{left:List (List Int)}{cur:Option (List Int)}(ho:o.op = .next x false)(hx:ev t x = .ptr (.o d) 0)(hd:t (.o d) = .Fb id s left cur)(hm:TJ es s (t (.o id))):
  ∀t',(∀p∈pl x++[.o d,.o id],t' p=t p)→∀a E,iI A t' a E→∃(k:Option (List Int)) (u:Value) (E':En),Yb left k∧(execOp a.eval o).run P E.w = .ok (.value u) E'.w∧iI A (over t' (Z8 d id s left k)) a E'∧aV E' (jo k) u:=fun t' hr a E hi=>by
 have hx':ev t' x = .ptr (.o d) 0:=(fZ (dw hr)).trans hx;have hd':t' (.o d) = .Fb id s left cur:=(bg hr _ (by simp)).trans hd;have hm':TJ es s (t' (.o id)):=by simp[*]
 have h1:=dS hi x;rw[hx']at h1
 simp only[aV]at h1;obtain⟨r0,hr0,hu1⟩:=h1;obtain⟨_,r,seen,hb,hg,⟨o1,o2,o3⟩⟩:=Tj hi hd';rw[hb]at hr0
 simp only[aj]at hr0;subst hr0;obtain⟨hmg,hs,l',hp,hrel⟩:=Wn hi hm';obtain⟨b,l,clock⟩:=s;simp only at o1 o2 o3 hg hmg hs hp;rcases run_next_at (P:=P) E.w o.type r b clock clock seen l clock hg hmg o2 (aI _)with⟨q1,q2⟩|⟨e,q1,w1,q2,q3⟩
 ·refine⟨none,.tuple #[.bool false],E,?_,?_,hi,by simp only[jo,aV];exact⟨_,rfl,by simp[b_,aV,Rep]⟩⟩
  ·have h0:(l.toList.filter fun x=>!seen.contains x.born) = []:=by
    simp_all[leftOf,Array.eq_empty_of_size_eq_zero]
   rw[h0]at o1
   simp_all[Yb]
  simp_all[execOp,Sem.run_bind]
 ·have heL:e∈l.toList.filter fun x=>!seen.contains x.born:=by simp_all[leftOf]
  have hel:=(bG.1 heL).1;have hnb:((l.toList.filter fun x=>!seen.contains x.born).map (·.born)).Nodup:=hs.2.1.sublist (jB.map _);obtain⟨k,hk,hke,hperm⟩:=abo o1 heL hnb;have hok:ajl ⟨b,l,clock⟩ (left.erase k) (some k) (seen.push e.born):=by
   refine⟨?_,o2,fun k' hk'=>?_⟩
   ·have:(l.toList.filter fun x=>!(seen.push e.born).contains x.born)=(l.toList.filter fun x=>!seen.contains x.born).filter fun x=>!(x.born==e.born):=by
     rw[iM];refine eu fun x _=>?_
     rw[Array.contains_push,Bool.not_or,ny]
    simp only at this⊢;rw[this];exact hperm
   ·simp only[aj]at hk';subst hk';exact⟨e,hel,hke,by simp⟩
  obtain⟨E',hw',x',hi2⟩:=hi.ahn hd' hb hg q2 hok;refine⟨some k,.tuple #[.bool true,e.key,e.val],E',hk,?_,hi2,by simp only[jo,aV];exact⟨_,rfl,by simp only[b_,aV,Rep];exact⟨_,_,rfl,rfl,_,_,rfl,trivial,_,_,rfl,trivial,rfl⟩⟩⟩
  simp_all[execOp,Sem.run_bind]
theorem VK{o:Oper}{t:S}{x:Operand}{d id:Nat}{es:List (List Int×TV)}{s:oO}{left:List (List Int)}{k:List Int}{v:TV}(ho:o.op = .entry x)(hx:ev t x = .ptr (.o d) 0)(hd:t (.o d) = .Fb id s left (some k))(hm:TJ es s (t (.o id)))(hk:mJ es k=some v):
  jD P A o t ⟨True,pl x++[.o d,.o id],[],.sZ [Pz k,v]⟩:=
 .pure fun _ t' hr a E hi=>by
  have hx':ev t' x = .ptr (.o d) 0:=(fZ (dw hr)).trans hx;have hd':t' (.o d) = .Fb id s left (some k):=(bg hr _ (by simp)).trans hd;have hm':TJ es s (t' (.o id)):=by simp[*]
  have h1:=dS hi x;rw[hx']at h1
  simp only[aV]at h1;obtain⟨r0,hr0,hu1⟩:=h1;obtain⟨_,r,seen,hb,hg,⟨o1,o2,o3⟩⟩:=Tj hi hd';rw[hb]at hr0
  simp only[aj]at hr0;subst hr0;obtain⟨hmg,hs,l',hp,hrel⟩:=Wn hi hm';obtain⟨b,l,clock⟩:=s;simp only at o1 o2 o3 hg hmg hs hp;obtain⟨e,he1,he2,he3⟩:=o3 k rfl;obtain⟨anV,anl⟩:∃q:Array Nat,seen=q.push e.born:=by
   refine⟨seen.pop,?_⟩
   grind
  subst anl;have hrun:=run_entry_at (P:=P) E.w r b clock anV l clock e hg hmg he1 hs.2.1;rcases Ey (k:=k) hrel with⟨g1,_⟩|⟨v0,a0,g1,g2,g3,g4⟩
  ·simp_all
  ·rw[hk]at g1
   simp only[aj]at g1;subst g1;have:a0=e:=xH ((MapKept.stamped_iff l clock).1 hs).2.2 (hp.mem_iff.1 g2) he1 (g3.trans he2.symm);subst this;refine⟨.tuple #[a0.key,a0.val],by simp[execOp,ho,hu1,Sem.run_bind,hrun],?_⟩;simp only[aV];refine⟨_,rfl,?_⟩;simp only[b_];exact⟨_,_,rfl,by rw[he2];exact ae0 E k,_,_,rfl,g4,rfl⟩
end
end Go.Tr

namespace Go.Tr
open Go
def wP(ks:List (List Int))(vs:List D):List (List Int×TV):=(ks.zip vs).map fun x=>(x.1,.d x.2)
theorem Us{E:En}:∀{ks:List (List Int)} {vs:List D} {l:List MapEntry},l.map (·.key)=ks.map jX→AB E vs l→nH E (wP ks vs) l
 | [],vs,l,h1,h2=>by
   obtain rfl:l = []:=by simp_all
   rfl
 | k::ks,vs,l,h1,h2=>by
   obtain⟨a,l',rfl⟩:∃a l',l=a::l':=by cases l with
    | nil=>trivial
    | cons a l'=>simp
   simp only[aH,eH]at h1;cases vs with
   | nil=>trivial
   | cons d vs=>obtain⟨a',l'',h3,h4,h5⟩:=h2;obtain⟨rfl,rfl⟩:=h3;exact⟨a,l',rfl,h1.1,by trivial,Us h1.2 h5⟩
theorem Tq{E:En}:∀{es:List (List Int×D)} {l:List MapEntry},nH E (es.map fun x=>(x.1,.d x.2)) l→l.map (·.key)=(es.map (·.1)).map jX∧AB E (es.map (·.2)) l
 | [],l,h=>by subst h;trivial
 | (k,d)::es,l,h=>by obtain⟨a,l',rfl,h1,h2,h3⟩:=h;obtain⟨h4,h5⟩:=Tq h3;refine⟨by simp[*],?_⟩;exact⟨a,l',rfl,by trivial,h5⟩
section
variable {P:Program} {A:jL}
theorem Ym{E:En}{ks:List (List Int)}{vs:List D}{u:Value}(h:Rep E (.mp ks vs) u):
  ∃(s:oO) (l':List MapEntry),u = .map (some s.m)∧E.St s.m 0∧E.w.heap[s.m]? = some (.map s.l s.clock)∧MapKept.Stamped s.l s.clock∧l'.Perm s.l.toList∧nH E (wP ks vs) l'∧l'.length=ks.length:=by
 obtain⟨b,l,clock,l',rfl,h1,h2,h3,h4,h5,h6⟩:=h;exact⟨⟨b,l,clock⟩,l',rfl,h1,h2,h4,h3,Us h5 h6,by have:=congrArg List.length h5;grind⟩
theorem Y8{o:Oper}{t:S}{ty e:TypeId}{x ix:Operand}{ck:Bool}{ks:List (List Int)}{vs:List D}{k:List Int}{z:Value}(ho:o.op = .lookup ty x ix ck)(hm:ZR P ty k.length=some e)(hz:wS P e=some z)
  (hx:ev t x = .d (.mp ks vs)) (hix:toKey (ev t ix)=some k):jD P A o t ⟨zh k.length (wP ks vs),pl x++pl ix,[],Vp ck (mJ (wP ks vs) k) (o7 z)⟩:=
 .pure fun hC t' hr a E hi=>by
  have hx':ev t' x = .d (.mp ks vs):=(fZ (dw hr)).trans hx;have hix':toKey (ev t' ix)=some k:=by rw[fZ (bg hr)];omega
  obtain⟨kt,hu,hkt⟩:=Hu hm;have h1:=dS hi x;rw[hx']at h1
  obtain⟨⟨b,l,clock⟩,l',hu1,_,hg,hs,hp,hrel,_⟩:=Ym h1;have hu2:=Xf hix' (dS hi ix);have hzero:=UU hz E.w;have hck:=yg hkt l.isEmpty E.w;have hall:∀e∈l.toList,∃k':List Int,k'.length=k.length∧e.key=jX k':=fun e he=>by obtain⟨k',v',g1,g2,_⟩:=Tn hrel e (hp.mem_iff.2 he);exact⟨k',hC _ g1,g2⟩
  rcases Xa hkt rfl E.w l.toList hall with⟨g1,g2⟩|⟨j,a',g1,g2,g3⟩
  ·rcases Ey (k:=k) hrel with⟨q1,_⟩|⟨v0,e,q1,q2,q3,_⟩
   ·refine⟨match ck with|true=>.tuple #[z,.bool false]|false=>z,?_,?_⟩
    ·cases ck<;>simp[execOp,ho,hu1,hu2,Instr.lookup,Sem.run_bind,run_underlying hu,MapKept.run_getObj_map hg,hck,g1,hzero]
    ·rw[q1];cases ck with
     | true=>simp only[Vp,aV];exact⟨#[z,.bool false],rfl,by simp only[b_];exact⟨_,_,rfl,sO E z,_,_,rfl,by rfl,rfl⟩⟩
     | false=>simp[Vp,sO]
   grind
  ·have hel:a'∈l.toList:=by grind
   rcases Ey (k:=k) hrel with⟨q1,q2⟩|⟨v0,e2,q1,q2,q3,q4⟩
   ·grind
   ·have:e2=a':=by grind[xH,MapKept.stamped_iff]
    subst this;refine⟨match ck with|true=>.tuple #[e2.val,.bool true]|false=>e2.val,?_,?_⟩
    ·cases ck<;>simp[execOp,ho,hu1,hu2,Instr.lookup,Sem.run_bind,run_underlying hu,MapKept.run_getObj_map hg,hck,g1]
    ·rw[q1];cases ck with
     | true=>simp only[Vp,aV];exact⟨#[e2.val,.bool true],rfl,by simp only[b_];exact⟨_,_,rfl,q4,_,_,rfl,by rfl,rfl⟩⟩
     | false=>trivial
theorem agC{o:Oper}{t:S}{x:Operand}{ty kt e:TypeId}{ks:List (List Int)}{vs:List D}(ho:o.op = .call {callee:=.builtin .len,args:=#[x],argTypes:=#[ty]})(he:P.underlying ty=some (.map kt e))(hx:ev t x = .d (.mp ks vs)):
  jD P A o t ⟨True,pl x,[],.d (.int .i64 ks.length)⟩:=
 .pure fun hC t' hr a E hi=>by
  have hx':=dS hi x;rw[fZ hr,hx]at hx'
  obtain⟨⟨b,l,clock⟩,l',hu1,_,hg,hs,hp,hrel,hl⟩:=Ym hx';have hl:l.size=ks.length:=by rw[←hl,hp.length_eq];simp
  refine⟨.int .i64 ks.length,?_,by rfl⟩;simp[execOp,ho,resolve,invoke,builtin,Builtin.len_,hu1,Sem.run_bind,run_underlying he,MapKept.run_getObj_map hg,hl,goInt]
theorem aft{o:Oper}{t:S}{ty kt e:TypeId}{x:Operand}{d z:Nat}{ks:List (List Int)}{vs:List D}(ho:o.op = .range ty x)(hty:P.underlying ty=some (.map kt e))(hx:ev t x = .d (.mp ks vs))(hd:t (.o d) = .none)(hz:t (.o z) = .none)(hdz:d≠z):
  ∀t',(∀p∈pl x++[.o z,.o d],t' p=t p)→∀a E,iI A t' a E→∃(s:oO) (u:Value) (E':En),(execOp a.eval o).run P E.w = .ok (.value u) E'.w∧iI A (over t' [(.o d,.Fb z s ((wP ks vs).map (·.1)) none),(.o z,.Mc (wP ks vs) s)]) a E'∧aV E' (.ptr (.o d) 0) u:=fun t' hr a E hi=>by
 have hx':ev t' x = .d (.mp ks vs):=(fZ (dw hr)).trans hx;have hz':t' (.o z) = .none:=by simp[*]
 have h1:=dS hi x;rw[hx']at h1
 obtain⟨s,l',hu1,hst,hg,hs,hp,hrel,_⟩:=Ym h1;have hfree:=hi.h.item (.o z) (by simp);rw[hz']at hfree
 obtain⟨hb0,hv0⟩:=hfree z rfl;have hown:E.own (.o z)=none:=by grind[En.own]
 have hH:pX E (upd t' (.o z) (.Mc (wP ks vs) s)):=by refine hi.h.change (by simp) (Ext.refl _ _) (fun b o h=>.inl h) (fun _ _=>rfl) (fun _ _=>rfl) (aI _) (fun _ _ _ _=>rfl) (fun b' hb'=>by simp_all) ?_ (fun b' o' hs hb'=>by simp_all);exact⟨hown,hst,hg,hs,l',hp,hrel⟩
 have hi2:iI A (upd t' (.o z) (.Mc (wP ks vs) s)) a E:=⟨hH,hi.fr,fun k tv hk=>hi.sl k tv (by trivial),hi.defers,hi.size⟩
 obtain⟨E',hw',hi3,hrl⟩:=hi2.adu (d:=d) (id:=z) (by grind[upd]) hs hp hrel;refine⟨s,_,E',?_,hi3,hrl⟩;have:=run_range_map (P:=P) E.w ty kt e s.m s.l s.clock hty hg;simp[execOp,ho,hu1,Sem.run_bind,this,hw']
end
end Go.Tr
