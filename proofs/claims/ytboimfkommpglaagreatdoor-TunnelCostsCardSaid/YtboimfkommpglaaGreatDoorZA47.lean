/-
  What functions of the program compute, stated as contracts over plain data; the conditions of each stand in its own statement.
-/
import Derived.Test.YtboimfkommpglaaGreatDoorZA28
import Derived.Test.YtboimfkommpglaaGreatDoorZA46
import Derived.Test.YtboimfkommpglaaGreatDoorZA21
import Derived.Test.YtboimfkommpglaaGreatDoorZA29
import Derived.Test.YtboimfkommpglaaGreatDoorZA12
import Derived.Test.YtboimfkommpglaaGreatDoorZA19
set_option linter.unusedSimpArgs false
set_option linter.unusedVariables false
namespace Go.Proofs
open Go Go.Tr
theorem AU{g:ay}{l:List Tb}{I:List (Int×Fr)→dQ→Prop}(hs:∀q Q t,I (q::Q) t→I (Q++eP g l q) (jw g l q t)):∀(n:Nat) (Q:List (Int×Fr)) (t:dQ),tH Q≤n→I Q t→I [] (pR g l n Q t)
 | 0,Q,t,h,hI=>by
   have:=xC Q;obtain rfl:Q = []:=List.length_eq_zero_iff.1 (by omega);rw[lN];exact hI
 | n+1,[],t,_,hI=>by rw[lN];exact hI
 | n+1,q::Q,t,h,hI=>by
   have hq:=yY g l q;rw[tq]at h
   rw[pR];exact AU hs n _ _ (by rw[xI];omega) (hs q Q t hI)
theorem zf{g:ay}{l:List Tb}{r:Int}{p:Pk}(h:w_ g l (r,⟨[],p⟩))(hr:(bH l r).isSome):Wi g l [] (runT g l r p):=
 AU (I:=Wi g l) (fun q Q t h=>h.step) _ _ _ (by simp[tH]) ⟨fun q hq=>by
  simp only[List.mem_singleton]at hq;subst hq;exact⟨h,fun e=>by rcases e with e|e<;>simp[e]at hr e⟩,by simp[gX],by simp[gX],by simp[gX]⟩
set_option maxRecDepth 100000
theorem dU{n:Int}(h:aG n=true):n=8∨n=16∨n=32∨n=64:=by
 simp[aG]at h;omega
theorem lY{len:Int}(hl:aG len=true){k:Nat}(hk:k<64):(tN len).getLsbD k=decide ((k:Int)<len):=by
 have:=dU hl;rw[tN,if_pos hl,zK hk _ (by omega)]
 congr 1
 rw[eq_iff_iff];omega
theorem wY{B:BitVec 64}{len:Int}(hl:aG len=true)(h:∀k<64,B.getLsbD k=true→(k:Int)<len):nG B len=true:=by
 simp only[nG,hl,Bool.true_and,decide_eq_true_eq];apply BitVec.eq_of_getLsbD_eq;intro k hk;rw[BitVec.getLsbD_and,BitVec.getLsbD_not,lY hl hk];simp only[hk,decide_true,Bool.true_and,BitVec.getLsbD_zero];cases hb:B.getLsbD k with
 | false=>rfl
 | true=>simp[h k hk hb]
theorem yE{j:Int}{k:Nat}(hk:k<64):(lS j).getLsbD k=true↔(k:Int)=j:=by
 unfold lS;split
 ·rename_i h;simp;omega
 ·rename_i h;rw[wrap_u64 (by omega) (by omega),j_ (by omega) hk];simp;omega
theorem y7{id len:Int}(hl:aG len=true):gG id len<len∧0≤gG id len:=by
 have:=dU hl;unfold gG;split
 ·have h1:=Int.emod_lt_of_pos (id-1) (b:=len) (by omega);have h2:=Int.emod_nonneg (id-1) (b:=len) (by omega);omega
 ·omega
theorem uH{id len:Int}(hl:aG len=true):0≤fJ id len∧fJ id len≤31:=by
 have:=dU hl;unfold fJ;split
 ·rename_i h;simp only[Bool.and_eq_true,inB,decide_eq_true_eq]at h;have h1:0≤(id-1)/len:=Int.ediv_nonneg (by omega) (by omega);have h2:(id-1)/len≤(id-1)/8:=by
   rcases this with rfl|rfl|rfl|rfl<;>omega
  omega
 ·omega
theorem iE{len set:Int}(hl:aG len=true):∀(es:List Ed) (T:Tp) (B:BitVec 64),(∀k<64,B.getLsbD k=true→(k:Int)<len)→∀k<64,(fA len set es T B).1.getLsbD k=true→(k:Int)<len
 | [],_,_,h=>h
 | e::es,T,B,h=>by
   rw[fA];split
   ·split
    ·refine iE hl es _ _ fun k hk hb=>?_
     rcases (or_bit B (lS (gG e.id len))).1 hb with hb|hb
     ·exact h k hk hb
     ·have:=(yE hk).1 hb;have:=(y7 (id:=e.id) hl).1;omega
    ·exact iE hl es _ _ h
   ·exact iE hl es _ _ h
theorem uf(T:Tp){len:Int}(hl:aG len=true):∀k<64,(kE T len).1.getLsbD k=true→(k:Int)<len:=fun k hk hb=>by
 have key:∀X:BitVec 64,(X&&&tN len).getLsbD k=true→(k:Int)<len:=fun X hX=>by
  rw[BitVec.getLsbD_and,Bool.and_eq_true,lY hl hk]at hX
  simpa using hX.2
 unfold kE at hb;dsimp only at hb;split at hb
 ·simp at hb
 split at hb
 ·exact key _ hb
 split at hb
 ·exact key _ hb
 ·exact key _ hb
theorem zV(p:Pk):p.ok=true↔(1≤p.mode∧p.mode≤3)∧(0≤p.bF∧p.bF≤7)∧(0≤p.set∧p.set≤31)∧nG p.bits p.len=true∧(0≤p.ttl∧p.ttl≤63)∧(0≤p.ent∧p.ent≤1023)∧(0≤p.ing∧p.ing≤256)∧(0≤p.proto∧p.proto≤7)∧p.pay.size≤64:=by
 simp[Pk.ok,wS,and_assoc]
theorem yL{p:Pn}{q:Pk}(hs:0≤p.bF∧p.bF≤7)(hl:aG p.len=true)(hq:(0≤q.ttl∧q.ttl≤63)∧(0≤q.ent∧q.ent≤1023)∧(0≤q.ing∧q.ing≤256)∧(0≤q.proto∧q.proto≤7)∧q.pay.size≤64){set:Int}(hset:0≤set∧set≤31)
  {B:BitVec 64} (hB:∀k<64,B.getLsbD k=true→(k:Int)<p.len):zo p (q.for p.bF p.len set B):=by
 have hv:=wY hl hB;exact⟨(zV _).2 ⟨⟨by show(1:Int)≤1;omega,by show(1:Int)≤3;omega⟩,hs,hset,hv,hq.1,hq.2.1,hq.2.2.1,hq.2.2.2.1,hq.2.2.2.2⟩,rfl,rfl,rfl⟩
theorem oZ(T:Tp):bY T 0=Bg T:=by
 simp[bY]
theorem ug(T:Tp){p:Pn}(hs:0≤p.bF∧p.bF≤7)(hl:aG p.len=true):zo p (mM T p).1:=by
 have hpk:∀q,q=(bY T 0).1→(0≤q.ttl∧q.ttl≤63)∧(0≤q.ent∧q.ent≤1023)∧(0≤q.ing∧q.ing≤256)∧(0≤q.proto∧q.proto≤7)∧q.pay.size≤64:=fun q hq=>by
  rw[oZ]at hq
  obtain⟨L,m,d,s,t,e,i,pr,y,B,w,T',h1,_,h2,h3,h4,h5,h6,_⟩:=um T;rw[h1]at hq
  subst hq;exact⟨h2,h3,h4,h5,by simp only;omega⟩
 have hset:∀T',0≤(jB T' p).1∧(jB T' p).1≤31:=fun T'=>by
  unfold jB;split
  ·simp
  ·exact uH hl
 unfold mM;simp only;have hq:=hpk _ rfl;have hb:=iE (set:=(jB (bY T 0).2 p).1) hl p.es (jB (bY T 0).2 p).2 0#64 (by simp);split
 ·refine yL hs hl hq (hset _) fun k hk hk2=>?_
  rcases (or_bit _ _).1 hk2 with hk2|hk2
  ·exact hb k hk hk2
  ·exact uf _ hl k hk hk2
 ·exact yL hs hl hq (hset _) hb
def Pk.live(q:Pk)(n:Int):Pk:=⟨q.mode,q.bF,q.set,q.len,n,q.ent,q.ing,q.proto,q.bits,q.pay⟩
theorem zo.live{p:Pn}{q:Pk}(h:zo p q){n:Int}(hn:0≤n∧n≤63):zo p (q.live n):=by
 obtain⟨h1,h2,h3,h4⟩:=h;obtain⟨a1,a2,a3,a4,a5,a6⟩:=(zV q).1 h1;exact⟨(zV _).2 ⟨a1,a2,a3,a4,hn,a6⟩,h2,h3,h4⟩
theorem and_one(X:BitVec 64){k:Nat}(hk:k<64):(X&&&1#64<<<k=0#64)↔X.getLsbD k=false:=by
 constructor
 ·intro h;have:=congrArg (fun z=>z.getLsbD k) h;simpa[j_ hk hk]using this
 ·intro h;refine Ae fun j hj ⟨a1,a2⟩=>?_
  have:=(Xm hk hj).1 a2;subst this;rw[h]at a1;simp at a1
theorem Wk.tri{g:ay}(hg:g.Ok){t n:Int}(ht:aY g.rs t=true)(hn:dst g t n<far){k:Nat}{x v:Int}(h:Wk g n k x v):dst g t x≤v+dst g t n∧dst g t x<far:=by
 induction h with
 | nil=>exact⟨by omega,hn⟩
 | cons hp _ ih=>
   have:=CJ hg ht hp ih.2;exact⟨by omega,this.2⟩
theorem Ik{g:ay}(hg:g.Ok){t f n:Int}(ht:aY g.rs t=true)(h:zA g t f n):∃w:List Int,w≠[]∧jW f w=n∧fH g f w=some (dst g n f)∧(∀y∈w,y=n∨dY g.rs y=false)∧dst g n f=dst g t f-dst g t n∧dst g n f<far∧aY g.rs f=true∧f≠n:=by
 obtain⟨_,_,h3,_,hn⟩:=h.near hg;have hne:f≠n:=fun e=>by have:=(h.near hg).1;rw[e]at this;omega
 obtain⟨x,hx,hs,hc⟩:=h;obtain⟨w,h1,h2,h4⟩:=hx.way hg;obtain⟨_,_,_,c,hp,hcd⟩:=(lM hg).1 hs;have hC:fH g f (w++[n])=some (dst g t f-dst g t n):=by
  rw[Bv h2 (show fH g (jW f w) [n]=some c by rw[h1];simp[fH,hp])]
  congr 1;omega
 have hl:jW f (w++[n])=n:=by rw[Jz];rfl
 have hw:=vM hC;rw[hl]at hw
 have d1:=vO hg hn hw;have hf:aY g.rs f=true:=by
  cases w with
  | nil=>simp only[jW]at h1;subst h1;exact(jA hg hp).1
  | cons y w=>
    simp only[fH]at h2;cases hp2:price g.ls f y with
    | none=>rw[hp2]at h2;simp at h2
    | some v=>exact(jA hg hp2).1
 obtain⟨k,hk⟩:=yI hg hn hf d1.2;have d2:=hk.tri hg ht h3;have e:dst g n f=dst g t f-dst g t n:=by omega
 refine⟨w++[n],by simp,hl,by rw[e];exact hC,fun y hy=>?_,e,d1.2,hf,hne⟩;rcases List.mem_append.1 hy with hy|hy
 ·exact .inr (h4 y hy)
 ·exact .inl (List.mem_singleton.1 hy)
theorem I5{cp:Int→Bool}{to:Int}{go:Int→List Int}:∀{l:List Int} {n:Int},n∈l→(n=to∨(cp n=false∧go n≠[]))→BU cp to go l≠[]
 | m::l,n,hn,h=>by
   unfold BU;split
   ·simp
   ·rename_i h1;rcases List.mem_cons.1 hn with rfl|hn
    ·rcases h with h|⟨h2,h3⟩
     ·exact absurd h h1
     ·rw[if_neg (by simp[h2]),if_neg h3];simp
    ·have ih:=I5 (go:=go) hn h;split
     ·exact ih
     ·split
      ·exact ih
      ·simp
theorem I7{g:ay}(hg:g.Ok){a:Int}(ha:aY g.rs a=true):∀(k:Nat) (r:Int) (w:List Int),(dst g a r).toNat<k→w≠[]→jW r w=a→fH g r w=some (dst g a r)→(∀y∈w,y=a∨dY g.rs y=false)→J5 (Hf g a) (dY g.rs) a k r≠[]
 | 0,_,_,h,_,_,_,_=>by omega
 | _+1,_,[],_,h,_,_,_=>absurd rfl h
 | k+1,r,h::u,hk,_,hl,hc,hi=>by
   obtain⟨h1,h2⟩:=Ah hg ha hl hc;rw[J5];refine I5 (show h∈Hf g a r from h1) ?_;by_cases hu:u = []
   ·subst hu;exact .inl hl
   rcases hi h (by simp)with e|e
   ·exact .inl e
   ·exact .inr ⟨e,I7 hg ha k h u (Ei hg hk h1).1 hu hl h2 fun y hy=>hi y (List.mem_cons_of_mem _ hy)⟩
theorem zO{g:ay}(h0:cZ g=0){t f n:Int}(ht:aY g.rs t=true)(h:zA g t f n):
  route g f n≠[]∧dst g n f=dst g t f-dst g t n∧aY g.rs f=true∧aY g.rs n=true:=by
 have hg:=aU h0;obtain⟨w,h1,h2,h3,h4,h5,h6,h7,h8⟩:=Ik hg ht h;have hn:=(h.near hg).2.2.2.2;refine⟨?_,h5,h7,hn⟩;unfold route;rw[if_pos ⟨h0,h7,hn,h8⟩];exact I7 hg hn _ f w (by omega) h1 h2 h3 h4
theorem z_{g:ay}{l:List Tb}{k:Nat}:∀(m n:Nat) (q:Int×Fr),w_ g l q→iJ q.2≤m→iJ q.2≤n→jU g l k m q=jU g l k n q
 | 0,_,q,_,h,_=>by unfold iJ at h;omega
 | _,0,q,_,_,h=>by unfold iJ at h;omega
 | m+1,n+1,(r,⟨x::w,p⟩),hI,h1,h2=>by
   rw[pU,pU];split
   ·rename_i hp;have hn:(x,(⟨w,p⟩:Fr))∈eP g l (r,⟨x::w,p⟩):=by
     unfold eP;rw[pJ hI];unfold qP;rw[if_pos hp];simp
    rw[z_ m n (x,⟨w,p⟩) (yZ hI _ hn) (by simp only[iJ,List.length_cons]at h1⊢;omega) (by simp only[iJ,List.length_cons]at h2⊢;omega)]
   ·rfl
 | m+1,n+1,(r,⟨[],p⟩),hI,h1,h2=>by
   cases hf:bH l r with
   | none=>rw[oJ hf,oJ hf]
   | some b=>
     rw[iU hf,iU hf];split
     ·rfl
     split
     ·rfl
     split
     ·rfl
     rename_i c2;cases hx:jZ g r (aF b p k,qJ b p (aF b p k))with
     | none=>rfl
     | some x=>
       obtain⟨x1,x2,x3⟩:=qU hx;have ht:=qA hI.fit.ok;simp only at ht;have e:(qJ b p (aF b p k)).ttl.toNat+1=p.ttl.toNat:=by simp only[qJ,ji];omega
       obtain⟨d,hg⟩:=BQ hx;have hn:=List.nodup_cons.1 (List.nodup_cons.1 d.nodup).2;have hF:w_ g l x:=⟨hI.top,hI.tab,by rw[x1];exact hI.fit.mask c2 _,d.has _ (by simp),hn.2,fun y hy=>d.has y (by simp[hy])⟩
       simp only;rw[z_ m n x hF (by simp only[iJ,x1,List.length_nil]at h1⊢;omega) (by simp only[iJ,x1,List.length_nil]at h2⊢;omega)]
def yJ(B:BitVec 64)(r:Int)(w:List Int):List (Int×Int×BitVec 64):=(edges r w).map fun e=>(e.1,e.2,B)
theorem IU{g:ay}{l:List Tb}{k:Nat}{p:Pk}:∀(w:List Int) (r:Int) (m:Nat) (C:Int),fH g r w=some C→jU g l k (w.length+m) (r,⟨w,p⟩)=(⟨[],yJ p.bits r w,[]⟩:dQ).app (jU g l k m (jW r w,⟨[],p⟩))
 | [],r,m,C,_=>by simp[yJ,edges,jW,dQ.app]
 | x::w,r,m,C,h=>by
   rw[fH]at h
   cases hp:price g.ls r x with
   | none=>simp[hp]at h
   | some c=>
     cases hc:fH g x w with
     | none=>simp[hp,hc]at h
     | some v=>
       have ih:=IU (l:=l) (k:=k) (p:=p) w x m v hc;rw[show(x::w).length+m=(w.length+m)+1 by simp;omega,pU,if_pos (by simp[hp]),ih];simp[yJ,edges,jW,dQ.app]
theorem NM{g:ay}{l:List Tb}{k:Nat}{r:Int}{p:Pk}{b:Tb}(hI:w_ g l (r,⟨[],p⟩))(hf:bH l r=some b)(c0:aF b p k≠0)(c1:aF b p k≠b.r)(c2:p.ttl≠0)
  (hr:route g r (aF b p k)≠[]) {m:Nat} (hm:iJ ⟨[],p⟩≤m) {n:Nat} (hn:iJ ⟨[],qJ b p (aF b p k)⟩≤n) :
  jU g l k m (r,⟨[],p⟩)=(⟨[],yJ (qJ b p (aF b p k)).bits r (route g r (aF b p k)),[]⟩:dQ).app (jU g l k n (aF b p k,⟨[],qJ b p (aF b p k)⟩))∧w_ g l (aF b p k,⟨[],qJ b p (aF b p k)⟩):=by
 obtain⟨d,hg⟩:=Dk hr;obtain⟨C,hC,_⟩:=d.cost;have hlast:=d.last;have hlen:=d.len hg;have hhas:aY g.rs (aF b p k)=true:=by
  unfold route at hr;split at hr
  ·rename_i h;exact h.2.2.1
  ·exact absurd rfl hr
 have ht:=qA hI.fit.ok;simp only at ht;have e:(qJ b p (aF b p k)).ttl.toNat+1=p.ttl.toNat:=by simp only[qJ,ji];omega
 have hF:w_ g l (aF b p k,⟨[],qJ b p (aF b p k)⟩):=⟨hI.top,hI.tab,hI.fit.mask c2 _,hhas,by simp,by simp⟩
 refine⟨?_,hF⟩;cases hw:route g r (aF b p k)with
 | nil=>exact absurd hw hr
 | cons x w=>
   rw[hw]at hC hlast hlen d
   rw[fH]at hC
   cases hp:price g.ls r x with
   | none=>simp[hp]at hC
   | some c=>
     cases hc:fH g x w with
     | none=>simp[hp,hc]at hC
     | some v=>
       have hx:jZ g r (aF b p k,qJ b p (aF b p k))=some (x,⟨w,qJ b p (aF b p k)⟩):=by unfold jZ;simp only[hw]
       have hnd:=List.nodup_cons.1 (List.nodup_cons.1 d.nodup).2;have hFx:w_ g l (x,⟨w,qJ b p (aF b p k)⟩):=⟨hI.top,hI.tab,hI.fit.mask c2 _,d.has _ (by simp),hnd.2,fun y hy=>d.has y (by simp[hy])⟩
       have h1:=IU (l:=l) (k:=k) (p:=qJ b p (aF b p k)) w x n v hc;simp only[jW]at hlast;rw[hlast]at h1
       have hlw:w.length≤23:=by simpa using hlen
       obtain⟨m',rfl⟩:∃m',m=m'+1:=⟨m-1,by unfold iJ at hm;omega⟩
       rw[iU hf,if_neg c0,if_neg c1,if_neg c2,hx];simp only;rw[z_ m' (w.length+n) (x,⟨w,qJ b p (aF b p k)⟩) hFx (by simp only[iJ,List.length_nil]at hm⊢;omega) (by simp only[iJ,List.length_nil]at hn⊢;omega),h1];simp[yJ,edges,dQ.app]
theorem zQ{g:ay}(h0:cZ g=0){p:Pn}(hp:d_ p=true){r:Int}{b:Tb}(hf:bH (tabs g p g.rs) r=some b)(id pl:Int):
  b.r=r∧(mG b id pl=0∨mG b id pl=b.r∨∃e∈p.es,e.id=id∧e.r≠r∧dY g.rs e.r=true∧zA g e.r r (mG b id pl)):=by
 have hg:=aU h0;rw[BX hg]at hf
 split at hf
 ·rename_i hc;simp only[Option.some.injEq]at hf;subst hf;refine⟨rfl,?_⟩;by_cases he:∃e∈p.es,e.id=id
  ·obtain⟨e,he,rfl⟩:=he;rcases BI h0 hp he (wM hg hc) pl with h|h|h
   ·exact .inr (.inl h.2)
   ·exact .inr (.inr ⟨e,he,rfl,h.1,h.2.1,h.2.2.2⟩)
   ·exact .inl h.2.2
  ·refine .inl ?_;unfold mG;rw[zG (fun e h1 h2=>he ⟨e,h1,h2⟩)];simp[og]
 ·simp at hf
theorem I_{g:ay}(h0:cZ g=0){p:Pn}(hp:d_ p=true){k:Nat}:∀(n:Nat) (q:Pk) (r:Int) (m:Nat),w_ g (tabs g p g.rs) (r,⟨[],q⟩)→q.ttl.toNat+1≤n→iJ ⟨[],q⟩≤m→
  (jU g (tabs g p g.rs) k m (r,⟨[],q⟩)).dl=(way (tabs g p g.rs) k n (r,q)).dl∧((jU g (tabs g p g.rs) k m (r,⟨[],q⟩)).ls = []↔(way (tabs g p g.rs) k n (r,q)).ls = [])
 | 0,q,r,m,_,h,_=>by omega
 | n+1,q,r,m,hI,hn,hm=>by
   have hg:=aU h0;obtain⟨m',rfl⟩:∃m',m=m'+1:=⟨m-1,by unfold iJ at hm;omega⟩
   cases hf:bH (tabs g p g.rs) r with
   | none=>rw[oJ hf,way];simp[hf]
   | some b=>
     have hb:=hI.fit.all b (eY hf).1;by_cases c0:aF b q k=0
     ·rw[iU hf,way];simp[hf,c0]
     by_cases c1:aF b q k=b.r
     ·rw[iU hf,way];simp only[hf,if_neg c0,if_pos c1];simp
     by_cases c2:q.ttl=0
     ·rw[iU hf,way];simp only[hf,if_neg c0,if_neg c1,if_pos c2];simp
     have hh:=(zQ h0 hp hf (vZ q k) (kX q)).2;rw[←vX hb.ck]at hh
     rcases hh with hh|hh|⟨e,he,_,_,hc,hR⟩
     ·exact absurd hh c0
     ·exact absurd hh c1
     have hr:=(zO h0 (wM hg hc) hR).1;obtain⟨h1,h2⟩:=NM hI hf c0 c1 c2 hr hm (n:=iJ ⟨[],qJ b q (aF b q k)⟩) (Nat.le_refl _);have ht:=qA hI.fit.ok;simp only at ht;have et:(qJ b q (aF b q k)).ttl.toNat+1=q.ttl.toNat:=by simp only[qJ,ji];omega
     have ih:=I_ h0 hp (k:=k) n (qJ b q (aF b q k)) (aF b q k) (iJ ⟨[],qJ b q (aF b q k)⟩) h2 (by omega) (Nat.le_refl _);rw[h1,way];simp only[hf,if_neg c0,if_neg c1,if_neg c2,dQ.app,List.nil_append];exact ih
def vg(g:ay)(cr:List (Int×Int×BitVec 64)):Int:=(cr.map fun c=>(price g.ls c.1 c.2.1).getD 0).sum
theorem Va(g:ay)(a b:List (Int×Int×BitVec 64)):vg g (a++b)=vg g a+vg g b:=by simp[vg]
theorem Pj{g:ay}{B:BitVec 64}:∀{w:List Int} {r C:Int},fH g r w=some C→vg g (yJ B r w)=C
 | [],r,C,h=>by simp[fH]at h;simp[yJ,edges,vg,h]
 | x::w,r,C,h=>by
   rw[fH]at h
   cases hp:price g.ls r x with
   | none=>simp[hp]at h
   | some c=>
     cases hc:fH g x w with
     | none=>simp[hp,hc]at h
     | some v=>
       simp only[hp,hc,Option.some.injEq]at h;have ih:=Pj (B:=B) hc;simp only[yJ,edges,List.map_cons,vg,List.sum_cons,hp,Option.getD_some]at ih⊢;omega
theorem X6{g:ay}(h0:cZ g=0){p:Pn}(hp:d_ p=true){k:Nat}:∀(n:Nat) (q:Pk) (r:Int) (m:Nat),w_ g (tabs g p g.rs) (r,⟨[],q⟩)→q.ttl.toNat+1≤n→iJ ⟨[],q⟩≤m→
  ∀d∈(jU g (tabs g p g.rs) k m (r,⟨[],q⟩)).dl,dst g d.1 r<far∧aY g.rs d.1=true∧vg g (jU g (tabs g p g.rs) k m (r,⟨[],q⟩)).cr=dst g d.1 r∧∃e∈p.es,e.id=vZ q k∧d.1=e.r
 | 0,q,r,m,_,h,_=>by omega
 | n+1,q,r,m,hI,hn,hm=>by
   have hg:=aU h0;obtain⟨m',rfl⟩:∃m',m=m'+1:=⟨m-1,by unfold iJ at hm;omega⟩
   cases hf:bH (tabs g p g.rs) r with
   | none=>rw[oJ hf];simp
   | some b=>
     have hb:=hI.fit.all b (eY hf).1;by_cases c0:aF b q k=0
     ·rw[iU hf];simp[c0]
     by_cases c1:aF b q k=b.r
     ·rw[iU hf];simp only[if_neg c0,if_pos c1];intro d hd;simp only[List.mem_singleton]at hd;subst hd;have h1:=QY hg hI.has;simp only at h1;refine⟨by simp only[h1];decide,hI.has,by simp[vg,h1],?_⟩;have hbr:=(zQ h0 hp hf (vZ q k) (kX q)).1;rw[BX hg]at hf
      split at hf
      ·rename_i hc;simp only[Option.some.injEq]at hf;by_cases he:∃e∈p.es,e.id=vZ q k
       ·obtain⟨e,he,hid⟩:=he;refine⟨e,he,hid,?_⟩;have hh:=BI h0 hp he (wM hg hc) (kX q);rw[hf,hid,←vX hb.ck]at hh
        rcases hh with h|h|h
        ·exact h.1.symm
        ·have:=h.2.2.2.near hg;rw[c1,hbr]at this
         omega
        ·exact absurd h.2.2 c0
       ·exfalso;apply c0;rw[vX hb.ck,←hf];unfold mG;rw[zG (fun e h1 h2=>he ⟨e,h1,h2⟩)];simp[og]
      ·simp at hf
     by_cases c2:q.ttl=0
     ·rw[iU hf];simp only[if_neg c0,if_neg c1,if_pos c2];simp
     have hh:=(zQ h0 hp hf (vZ q k) (kX q)).2;rw[←vX hb.ck]at hh
     rcases hh with hh|hh|⟨e,he,hid,_,hc,hR⟩
     ·exact absurd hh c0
     ·exact absurd hh c1
     have hr:=zO h0 (wM hg hc) hR;obtain⟨h1,h2⟩:=NM hI hf c0 c1 c2 hr.1 hm (n:=iJ ⟨[],qJ b q (aF b q k)⟩) (Nat.le_refl _);have ht:=qA hI.fit.ok;simp only at ht;have et:(qJ b q (aF b q k)).ttl.toNat+1=q.ttl.toNat:=by simp only[qJ,ji];omega
     have ih:=X6 h0 hp (k:=k) n (qJ b q (aF b q k)) (aF b q k) (iJ ⟨[],qJ b q (aF b q k)⟩) h2 (by omega) (Nat.le_refl _);rw[h1];simp only[dQ.app,List.nil_append,Va];intro d hd;obtain⟨i1,i2,i3,e',he',i4,i5⟩:=ih d hd;have ao1:e'.id=e.id:=by rw[i4,hid];exact Jt q _ k
     obtain rfl:=Fq hp he' he ao1;obtain⟨C,hC,hCd⟩:=(Dk hr.1).1.cost;rw[Pj hC,i3,hCd,hr.2.1,i5];have aqk:=hR.near hg;exact⟨by omega,by rw[←i5];exact i2,by omega,e',he,hid,rfl⟩
def D7(l:List (Int×BitVec 64)):BitVec 64:=l.foldl (fun B x=>B|||x.2) 0#64
theorem C_:∀(l:List (Int×BitVec 64)) (B:BitVec 64) (k:Nat),(l.foldl (fun B x=>B|||x.2) B).getLsbD k=(B.getLsbD k||l.any fun x=>x.2.getLsbD k)
 | [],B,k=>by simp
 | x::l,B,k=>by rw[List.foldl_cons,C_ l,List.any_cons,BitVec.getLsbD_or,Bool.or_assoc]
theorem Fe(l:List (Int×BitVec 64))(k:Nat):(D7 l).getLsbD k=true↔l.filter (fun x=>x.2.getLsbD k)≠[]:=by
 unfold D7;rw[C_];simp only[BitVec.getLsbD_zero,Bool.false_or,List.any_eq_true,ne_eq,List.filter_eq_nil_iff];constructor
 ·rintro⟨x,hx,h⟩ a;exact a x hx h
 ·intro a;refine Classical.byContradiction fun b=>a fun x hx h=>b ⟨x,hx,h⟩
theorem VW{g:ay}(h0:cZ g=0){p:Pn}(hp:d_ p=true){r:Int}{q:Pk}(hI:w_ g (tabs g p g.rs) (r,⟨[],q⟩))(hr:(bH (tabs g p g.rs) r).isSome):
  (runT g (tabs g p g.rs) r q).dl.length=(mY (tabs g p g.rs) (wt q) [(r,q)] gX).dl.length∧(∀d∈(mY (tabs g p g.rs) (wt q) [(r,q)] gX).dl,d∈(runT g (tabs g p g.rs) r q).dl)∧
  D7 (runT g (tabs g p g.rs) r q).ls=D7 (mY (tabs g p g.rs) (wt q) [(r,q)] gX).ls:=by
 have hF:=hI.fit;simp only at hF;have hA:=zf hI hr;have hB:=Xz hF hr;have key:∀k<64,((runT g (tabs g p g.rs) r q).at k).dl=((mY (tabs g p g.rs) (wt q) [(r,q)] gX).at k).dl∧(((runT g (tabs g p g.rs) r q).at k).ls = []↔((mY (tabs g p g.rs) (wt q) [(r,q)] gX).at k).ls = []):=fun k hk=>by
  by_cases hb:q.bits.getLsbD k=true
  ·rw[GZ hI hk hb,aa4 hF r hk hb];exact I_ h0 hp _ _ _ _ hI (Nat.le_refl _) (Nat.le_refl _)
  ·rw[Dq hI hk hb,XB hF r hk hb];exact⟨rfl,Iff.rfl⟩
 refine⟨?_,fun d hd=>?_,?_⟩
 ·rw[CZ (fun d:Int×Pk=>d.2.bits) _ hA.dl,CZ (fun d:Int×Pk=>d.2.bits) _ hB.dl]
  congr 1
  apply List.map_congr_left;intro k hk;have:=(key k (by simpa using hk)).1;simp only[dQ.at]at this;rw[this]
 ·obtain⟨k,hk,hbit⟩:=hB.dl d hd;have h1:d∈((mY (tabs g p g.rs) (wt q) [(r,q)] gX).at k).dl:=by
   simp only[dQ.at,List.mem_filter];exact⟨hd,by rw[hbit,j_ hk hk];simp⟩
  rw[←(key k hk).1]at h1
  simp only[dQ.at,List.mem_filter]at h1;exact h1.1
 ·apply BitVec.eq_of_getLsbD_eq;intro k hk;have:=(key k hk).2;simp only[dQ.at]at this;rw[Bool.eq_iff_iff,Fe,Fe,ne_eq,ne_eq,this]
theorem adE{g:ay}(h0:cZ g=0){p:Pn}(hp:d_ p=true){r:Int}{q:Pk}(hI:w_ g (tabs g p g.rs) (r,⟨[],q⟩))(hr:(bH (tabs g p g.rs) r).isSome):
  ∀d∈(runT g (tabs g p g.rs) r q).dl,dst g d.1 r<far∧aY g.rs d.1=true∧vg g ((runT g (tabs g p g.rs) r q).cr.filter fun c=>decide (c.2.2&&&d.2.bits≠0#64))=dst g d.1 r:=fun d hd=>by
 obtain⟨k,hk,hbit⟩:=(zf hI hr).dl d hd;have h1:d∈((runT g (tabs g p g.rs) r q).at k).dl:=by
  simp only[dQ.at,List.mem_filter];exact⟨hd,by rw[hbit,j_ hk hk];simp⟩
 have e:(runT g (tabs g p g.rs) r q).cr.filter (fun c=>decide (c.2.2&&&d.2.bits≠0#64))=((runT g (tabs g p g.rs) r q).at k).cr:=by
  simp only[dQ.at];apply List.filter_congr;intro c _;rw[hbit,Bool.eq_iff_iff,decide_eq_true_eq,ne_eq,and_one _ hk];simp
 have hb:q.bits.getLsbD k=true:=Classical.byContradiction fun hb=>by
  rw[Dq hI hk hb]at h1;simp[gX]at h1
 rw[e];rw[GZ hI hk hb]at h1⊢
 obtain⟨a1,a2,a3,_⟩:=X6 h0 hp (k:=k) (q.ttl.toNat+1) q r (iJ ⟨[],q⟩) hI (Nat.le_refl _) (Nat.le_refl _) d h1;exact⟨a1,a2,a3⟩
set_option maxHeartbeats 16000000
theorem wW(g:ay)(l:List Tb)(q:Int×Fr)(t:dQ):(jw g l q t).dl.length≤t.dl.length+64∧(jw g l q t).cr.length≤t.cr.length+64∧(jw g l q t).ls.length≤t.ls.length+64:=by
 have h1:(Au q.1 (iD g l q) q.2.pk).length≤64:=by unfold Au nI;rw[List.length_map];exact iT _
 have h2:=yh g l q;unfold jw;refine⟨by simp only[List.length_append];omega,by simp only[List.length_append,List.length_map];omega,?_⟩;simp only;split
 ·omega
 ·simp
theorem rF(g:ay)(l:List Tb):∀(n:Nat) (Q:List (Int×Fr)) (t:dQ),(pR g l n Q t).dl.length≤t.dl.length+64*n∧(pR g l n Q t).cr.length≤t.cr.length+64*n∧(pR g l n Q t).ls.length≤t.ls.length+64*n
 | 0,Q,t=>by simp[pR]
 | n+1,[],t=>by rw[lN];omega
 | n+1,q::Q,t=>by
   have h1:=rF g l n (Q++eP g l q) (jw g l q t);have h2:=wW g l q t;rw[pR];omega
theorem rH(g:ay)(l:List Tb)(p:Pk)(r:Int):(mZ g l p r).1.dl.length≤100000000∧(mZ g l p r).1.cr.length≤100000000∧(mZ g l p r).1.ls.length≤100000000:=by
 rw[xW];split
 ·simp[gX]
 ·rename_i h;split
  ·have h2:p.ok=true:=by
    cases hp:p.ok with
    | true=>rfl
    | false=>exact absurd (.inr (.inr hp)) h
   have h3:=rF g l (PX ⟨[],p⟩) [(r,⟨[],p⟩)] gX;have h4:=Le h2;simp only[runT,gX,List.length_nil]at h3⊢;omega
  ·simp[gX]
theorem rV(T:Tp)(hT:ak T)(most:Int)(hm:1≤most∧most≤24):Contract Tryz.prog 16 [.ptr (.x 0) 0,.d (.int .i64 most)] [aJ T] (aH (bW T most).1) [aJ (bW T most).2] []:=by
 refine aj Tryz.func16 rfl (fun E0=>?_);refine cO.sound (g:=.mk) (ow:=[]) (kp:=(fun k=>k==0||k==1||k==4||k==5||k==6||k==14)) ?_;rw[Tryz.ntmps16];simp -dsimp;refine ah.of (zl T hT most hm) [.x 0] 1000 ?_;have kG:ak (dG T most).2:=by simpa using hT
 have hlen:(dG T most).1.rs.length≤24:=by
  have:=aQ T (a:=1) (b:=most) (by omega);simp[dG,cu];omega
 generalize hG:dG T most=G at kG hlen⊢;simp -dsimp;refine aN.of [] (fun k=>k==0||k==1||k==4||k==5||k==6||k==14) (ι:={z:Nat×Tp×List Rt // z.1≤G.1.rs.length∧ak z.2.1∧z.2.2.length=G.1.rs.length∧iy G.1.rs G.2=(z.2.2.take z.1++(iy (z.2.2.drop z.1) z.2.1).1,(iy (z.2.2.drop z.1) z.2.1).2)})
  (fun z=>[(Pl.s 0,It.v (.ptr (Pl.x 0) 0)),(Pl.s 1,It.v (.d (.int .i64 most))),(Pl.x 0,aJ z.1.2.1),
   (Pl.o 4,It.box [TV.c (Value.slice none 0 0),TV.c (Value.slice none 0 0)]),(Pl.s 4,It.v (.ptr (Pl.o 4) 0)),
   (Pl.o 2000,It.row 117 2 (dd (rts z.1.2.2)) false),(Pl.o 5,It.box [TV.aB 2000 G.1.rs.length,TV.d (.sl (dO G.1.ls))]),(Pl.s 5,It.v (.ptr (Pl.o 5) 0)),
   (Pl.s 6,It.v (.d (.int .i64 z.1.1)))]) (fun z=>G.1.rs.length-z.1.1) ⟨(0,G.2,G.1.rs),by simp,kG,rfl,by simp⟩ ?_ ?_
 ·exact GS.to (by simp)
 ·rintro⟨⟨i,T1,L⟩,i1,i2,i3,i4⟩;simp only at i1 i2 i3 i4;have hrl:(rts L).length=G.1.rs.length:=by simp[rts,i3]
  by_cases hi:i<G.1.rs.length
  ·have hiz:(i:Int)<G.1.rs.length:=by omega
   have hil:i<L.length:=by omega
   have hg:L[i]? = some L[i]:=List.getElem?_eq_getElem hil;have hd:L.drop i=L[i]::L.drop (i+1):=List.drop_eq_getElem_cons _;generalize L[i]=x at hg hd;have hgr:(dd (rts L))[i]? = some [TV.d (.int .i64 x.id),TV.d (.bool x.cap)]:=by simp[dd,rts,hg,Rt.cs]
   simp -dsimp[hiz,i3,hrl];and_intros;all_goals try first|rfl|omega|exact⟨by kernel_rfl⟩
   refine ah.of (gK T1 i2 3 ⟨by omega,by omega⟩ ⟨by omega,by omega⟩) [.x 0] 0 ?_;generalize ho:dD T1 3=o;have ko:ak o.2:=by rw[←ho];simpa using i2
   simp -dsimp[hiz,i3,hrl,hgr,wrap_i64 (n:=(i:Int)+1) (by omega) (by omega)];and_intros;all_goals try first|rfl|omega|exact⟨by kernel_rfl⟩
   have hrow:(dd (rts L)).set i [TV.d (.int .i64 x.id),TV.d (.bool !o.1)]=dd (rts (L.set i ⟨x.id,!o.1⟩)):=by
    simp[dd,rts,List.map_set,Rt.cs]
   refine⟨⟨(i+1,o.2,L.set i ⟨x.id,!o.1⟩),by dsimp only;omega,ko,by simpa using i3,?_⟩,GS.to (by simp[hrow]),by simp;omega⟩;rw[i4,hd,iy];simp only[ho];have e1:(L.set i ⟨x.id,!o.1⟩).take (i+1)=L.take i++[⟨x.id,!o.1⟩]:=by
    rw[List.take_add_one,List.getElem?_set_self hil,List.take_set_of_le (Nat.le_refl _)];rfl
   have e2:(L.set i ⟨x.id,!o.1⟩).drop (i+1)=L.drop (i+1):=List.drop_set_of_lt (by omega);rw[e1,e2];simp
  ·obtain rfl:i=G.1.rs.length:=by omega
   simp -dsimp[hrl];refine Fin.box (.o 4) rfl ?_;simp -dsimp[hrl];refine Fin.of ?_;have e0:L.drop G.1.rs.length = []:=List.drop_eq_nil_of_le (by omega);have e1:L.take G.1.rs.length=L:=List.take_of_length_le (by omega);simp only[e0,e1,iy,List.append_nil]at i4;simp[bW,hG,i4,aH]
theorem uF(T:Tp){most:Int}(hm:1≤most∧most≤24):1≤(dG T most).1.rs.length∧(dG T most).1.rs.length≤24∧(dG T most).1.ls.length≤1000:=by
 have h1:=fO T hm;have h2:=aS T 1 most;have h3:(bW T most).1.rs.length=(dG T most).1.rs.length:=by simp[bW,fQ]
 have h4:(bW T most).1.ls=(dG T most).1.ls:=rfl;refine⟨?_,by omega,by rw[←h4];exact h1.2⟩;simp[dG,cu];omega
theorem vS(T:Tp){most:Int}(hm:1≤most∧most≤24):(bW T most).1.Fit:=by
 have h1:=uF T hm;have h3:(bW T most).1.rs.length=(dG T most).1.rs.length:=by simp[bW,fQ]
 have h4:(bW T most).1.ls=(dG T most).1.ls:=rfl;exact⟨by omega,by omega,by rw[h4];omega⟩
def bD(T:Tp)(most:Int):ay×Pn×List Tb×Tp:=
 ((bW T most).1,(dh (bW T most).2 (bW T most).1.rs 0).1,tabs (bW T most).1 (dh (bW T most).2 (bW T most).1.rs 0).1 (bW T most).1.rs,(dh (bW T most).2 (bW T most).1.rs 0).2)
theorem eF(T:Tp){most:Int}(hm:1≤most∧most≤8):QC most (bD T most).1 (bD T most).2.1 (bD T most).2.2.1:=by
 have h:=uj T hm;have hp:=qE h (by omega) (bW T most).2;exact⟨h,uI hp,hp.len,hp.bF,rfl⟩
theorem wQ(T:Tp){most:Int}(hm:1≤most∧most≤8):ak (bD T most).2.2.2=ak T∧(bD T most).2.1.es.length≤24∧1≤(bD T most).1.rs.length∧(bD T most).1.rs.length≤24∧(bD T most).1.Sm∧(bD T most).2.2.1.length≤24∧DL (bD T most).2.2.1:=by
 have hf:=vS T (most:=most) ⟨hm.1,by omega⟩;have hs:=fO T (most:=most) ⟨hm.1,by omega⟩;have hv:=eF T hm;obtain⟨h1,h2⟩:=fV (bW T most).2 (bW T most).1.rs;have ht:(bD T most).2.2.1.length≤24:=Nat.le_trans (oU _ _) hs.1;exact⟨h1.trans (by simp),Nat.le_trans h2 hs.1,hf.r1,hs.1,hf.sm,ht,⟨by omega,fun b hb=>Bc (by
  rw[hv.tab]at hb
  exact m_ hv.top.ok hv.plan b hb)⟩⟩
theorem CG(T:Tp)(hT:ak T)(most:Int)(hm:1≤most∧most≤8):Contract Tryz.prog 28 [.ptr (.x 0) 0,.d (.int .i64 most)] [aJ T] (.rG [aH (bD T most).1,bI (bD T most).2.1,.aB 6 (bD T most).2.2.1.length]) [aJ (bD T most).2.2.2] [(6,.row 65 4 (dd (oq (bD T most).2.2.1)) false)]:=by
 refine aj Tryz.func28 rfl (fun E0=>?_);refine cO.sound (g:=.mk) (ow:=[]) (kp:=(fun k=>k==0||k==1||k==4||k==5||k==6||k==7||k==8||k==9)) ?_;rw[Tryz.ntmps28];simp -dsimp;refine ah.of (rV T hT most ⟨hm.1,by omega⟩) [.x 0] 0 ?_;have kG:ak (bW T most).2:=by simpa using hT
 have hsm:=fO T (most:=most) ⟨hm.1,by omega⟩;have hD:=eF T hm;have hok:=hD.top.ok;have hpl:=hD.plan;clear hD;unfold bD at hok hpl⊢;simp only at hok hpl⊢;generalize bW T most=G at kG hsm hok hpl⊢;simp -dsimp[aH];and_intros;all_goals try first|rfl|omega|exact⟨by kernel_rfl⟩
 refine ah.of (xu G.2 kG G.1.rs G.1.ls (by omega) 0 (by omega)) [.x 0] 0 ?_;obtain⟨kP,lP⟩:=fV G.2 G.1.rs;have kG:ak (dh G.2 G.1.rs 0).2:=kP.symm▸kG;clear kP;generalize dh G.2 G.1.rs 0=p at kG lP hpl⊢;simp -dsimp[aH,bI];and_intros;all_goals try first|rfl|omega|exact⟨by kernel_rfl⟩
 refine ah.of (yC G.1 ⟨by omega,by omega⟩ hok p.1 hpl (by omega)) [] 0 ?_;generalize tabs G.1 p.1 G.1.rs=l;simp -dsimp[aH,bI];and_intros;all_goals try first|rfl|omega|exact⟨by kernel_rfl⟩
 refine Fin.of ?_;simp[aH,bI]
theorem vN(T:Tp)(hT:ak T)(most:Int)(hm:1≤most∧most≤8):Contract Tryz.prog 28 [.ptr (.x 0) 0,.d (.int .i64 most)] [aJ T] (.rG [aH (bD T most).1,bI (bD T most).2.1,.d (.sl (oq (bD T most).2.2.1))]) [aJ (bD T most).2.2.2] []:=by
 refine aj Tryz.func28 rfl (fun E0=>?_);refine cO.sound (g:=.mk) (ow:=[]) (kp:=(fun k=>k==0||k==1||k==4||k==5||k==6||k==7||k==8||k==9)) ?_;rw[Tryz.ntmps28];simp -dsimp;refine ah.of (rV T hT most ⟨hm.1,by omega⟩) [.x 0] 0 ?_;have kG:ak (bW T most).2:=by simpa using hT
 have hsm:=fO T (most:=most) ⟨hm.1,by omega⟩;have hD:=eF T hm;have hok:=hD.top.ok;have hpl:=hD.plan;clear hD;unfold bD at hok hpl⊢;simp only at hok hpl⊢;generalize bW T most=G at kG hsm hok hpl⊢;simp -dsimp[aH];and_intros;all_goals try first|rfl|omega|exact⟨by kernel_rfl⟩
 refine ah.of (xu G.2 kG G.1.rs G.1.ls (by omega) 0 (by omega)) [.x 0] 0 ?_;obtain⟨kP,lP⟩:=fV G.2 G.1.rs;have kG:ak (dh G.2 G.1.rs 0).2:=kP.symm▸kG;clear kP;generalize dh G.2 G.1.rs 0=p at kG lP hpl⊢;have hall:=FY G.1 ⟨by omega,by omega⟩ p.1 (by omega);rw[EG hok hpl]at hall
 simp only[aH,bI,allT]at hall;rw[show(tabs G.1 p.1 G.1.rs).map Tb.cs=oq (tabs G.1 p.1 G.1.rs) from rfl]at hall
 generalize tabs G.1 p.1 G.1.rs=l at hall⊢;simp -dsimp[aH,bI];and_intros;all_goals try first|rfl|omega|exact⟨by kernel_rfl⟩
 refine ah.of hall [] 0 ?_;simp -dsimp[aH,bI];and_intros;all_goals try first|rfl|omega|exact⟨by kernel_rfl⟩
 refine Fin.of ?_;simp[aH,bI]
theorem Jf{p:Pn}{rs:List Int}{l:List Tb}(h:DN p rs l){q:Pk}(hq:zo p q){r:Int}{b:Tb}(hb:bH l r=some b):q.mode≠2∧¬(q.bF≠b.sd∨q.len≠b.len):=by
 have hsd:=h.sd b (eY hb).1;refine⟨by rw[hq.mode];decide,?_⟩;rw[hsd.1,hsd.2,hq.bF,hq.len];simp
theorem Ub{g:ay}(h0:cZ g=0){p:Pn}{rs:List Int}{l:List Tb}(h:DN p rs l){q:Pk}(hq:zo p q)(r:Int):
  mZ g l q r=if aY g.rs r=true∧(bH l r).isSome=true then(runT g l r q,0)else(gX,4):=by
 unfold mZ;rw[if_neg (by simp[h0,h.all,hq.ok])];by_cases hr:aY g.rs r=true
 ·rw[if_neg (by simp[hr])];cases hf:bH l r with
  | none=>simp
  | some b=>
    obtain⟨h1,h2⟩:=Jf h hq hf;simp only;rw[if_neg h1,if_neg h2,if_pos ⟨hr,rfl⟩]
 ·rw[if_pos (by simpa using hr),if_neg (by simp[hr])]
theorem aej{g:ay}(h0:cZ g=0){p:Pn}(hp:d_ p=true){q:Pk}(hq:zo p q){r:Int}(hr:aY g.rs r=true):
  ((mZ g (tabs g p g.rs) q r).2≠0→dY g.rs r=false)∧
  ((mZ g (tabs g p g.rs) q r).2=0→∀d∈(mZ g (tabs g p g.rs) q r).1.dl,dst g d.1 r<far∧aY g.rs d.1=true∧vg g ((mZ g (tabs g p g.rs) q r).1.cr.filter fun c=>decide (c.2.2&&&d.2.bits≠0#64))=dst g d.1 r):=by
 have hT:=Uh h0 hp;rw[Ub h0 hT hq r];by_cases hf:(bH (tabs g p g.rs) r).isSome=true
 ·rw[if_pos ⟨hr,hf⟩];exact⟨fun e=>absurd rfl e,fun _=>adE h0 hp (w_.first h0 hT.all (hT.fit hq) hr) hf⟩
 ·rw[if_neg (fun a=>hf a.2)];refine⟨fun _=>Bool.eq_false_iff.2 fun hc=>hf (ny.2 ?_),fun e=>by simp at e⟩;obtain⟨x,hx,rfl⟩:=List.mem_map.1 (dH.1 hr);have hxc:x.cap=true:=by
   unfold dY at hc;have hro:O1 g.rs x.id=some x:=r_ hx (by simp) fun y hy e=>by
    simp only[decide_eq_true_eq]at e;have hpw:=(aU h0).rpw;obtain⟨i,hi,rfl⟩:=List.mem_iff_getElem.1 hx;obtain⟨j,hj,rfl⟩:=List.mem_iff_getElem.1 hy;have hp:=List.pairwise_iff_getElem.1 hpw;rcases Nat.lt_trichotomy i j with c|c|c
    ·have:=hp i j hi hj c;omega
    ·subst c;rfl
    ·have:=hp j i hj hi c;omega
   rw[hro]at hc
   simpa using hc
  exact List.mem_map.2 ⟨jE g p x.id,by unfold tabs;exact List.mem_map.2 ⟨x,List.mem_filter.2 ⟨hx,hxc⟩,rfl⟩,rfl⟩
theorem Dn{rs:List Rt}{a:Int}(h1:0≤a)(h2:a<rs.length):aY rs (rs.getD a.toNat ⟨0,false⟩).id=true:=by
 have hl:a.toNat<rs.length:=by omega
 have e:rs.getD a.toNat ⟨0,false⟩ = rs[a.toNat]:=by simp[hl]
 rw[e];exact dH.2 (List.mem_map_of_mem (List.getElem_mem hl))
open Classical in
noncomputable def H9(g:ay)(f t:Int):Option Int:=if cZ g=0∧aY g.rs f=true∧aY g.rs t=true∧dst g t f≠far then some (dst g t f)else none
theorem aei(g:ay)(hg:g.Sm)(f t:Int):Contract Tryz.prog 49 [aH g,.d (.int .i64 f),.d (.int .i64 t)] [] (mO (H9 g f t)) [] []:=by
 have h1:=sG g hg f;have h2:=sG g hg t;simp only[aH]at h1 h2;refine aj Tryz.func49 rfl (fun E0=>?_);refine cO.sound (g:=.mk) (ow:=[]) (kp:=(fun k=>k==0||k==1||k==2||k==3||k==6||k==7||k==8||k==18||k==26)) ?_;rw[Tryz.ntmps49];simp -dsimp[aH];try refine⟨?_,⟨by kernel_rfl⟩⟩
 refine ah.of h1 [] 0 ?_;rcases (Bool.eq_false_or_eq_true (decide (cZ g=0)&&aY g.rs f)).symm with a1|a1
 ·have e:H9 g f t=none:=by
   rw[H9,if_neg];rintro⟨h1,h2,_⟩;simp[h1,h2]at a1
  rw[e];simp -dsimp[a1];try refine⟨?_,⟨by kernel_rfl⟩⟩
  refine Fin.of ?_;simp[mO]
 have hc:cZ g=0:=by simp at a1;exact a1.1
 have hf:aY g.rs f=true:=by simp at a1;exact a1.2
 rcases (Bool.eq_false_or_eq_true (decide (cZ g=0)&&aY g.rs t)).symm with a2|a2
 ·have e:H9 g f t=none:=by
   rw[H9,if_neg];rintro⟨h1,_,h2,_⟩;simp[h1,h2]at a2
  rw[e];simp -dsimp[a1];try refine⟨?_,⟨by kernel_rfl⟩⟩
  refine ah.of h2 [] 0 ?_;simp -dsimp[a2];try refine⟨?_,⟨by kernel_rfl⟩⟩
  refine Fin.of ?_;simp[mO]
 have ht:aY g.rs t=true:=by simp at a2;exact a2.2
 have hO:=aU hc;have h3:=Uj g hO t;have h4:=Wl g hg (dist g t) (by rw[H_];exact Nat.le_refl _) f;have e3:atR g (dist g t) f=dst g t f:=rfl;rw[e3]at h4
 simp only[aH,ints]at h3 h4;simp -dsimp[a1];try refine⟨?_,⟨by kernel_rfl⟩⟩
 refine ah.of h2 [] 0 ?_;simp -dsimp[a2];try refine⟨?_,⟨by kernel_rfl⟩⟩
 refine ah.of h3 [] 0 ?_;simp -dsimp;try refine⟨?_,⟨by kernel_rfl⟩⟩
 refine ah.of h4 [] 0 ?_;by_cases hd:dst g t f=1073741824
 ·have e:H9 g f t=none:=by
   rw[H9,if_neg];rintro⟨_,_,_,h⟩;exact h hd
  rw[e];simp -dsimp[eq_true hd];try refine⟨?_,⟨by kernel_rfl⟩⟩
  refine Fin.of ?_;simp[mO]
 ·have e:H9 g f t=some (dst g t f):=by rw[H9,if_pos ⟨hc,hf,ht,hd⟩]
  rw[e];simp -dsimp[eq_false hd];try refine⟨?_,⟨by kernel_rfl⟩⟩
  refine Fin.of ?_;simp[mO]
theorem ZM{g:ay}{cr:List (Int×Int×BitVec 64)}{q:Int×Int×BitVec 64→Bool}{k:Nat}{c:Int×Int×BitVec 64}(h:cr[k]? = some c):vg g ((cr.take (k+1)).filter q)=vg g ((cr.take k).filter q)+if q c=true then(price g.ls c.1 c.2.1).getD 0 else 0:=by
 rw[List.take_add_one,h,Option.toList_some,List.filter_append,Va]
 congr 1
 rw[List.filter_cons];split<;>simp[vg]
theorem X5{g:ay}(hg:g.Ok):∀cr:List (Int×Int×BitVec 64),0≤vg g cr∧vg g cr≤1000*cr.length
 | []=>by simp[vg]
 | c::cr=>by
   have h1:=X5 hg cr;have h2:0≤(price g.ls c.1 c.2.1).getD 0∧(price g.ls c.1 c.2.1).getD 0≤1000:=by
    cases hp:price g.ls c.1 c.2.1 with
    | none=>simp
    | some v=>have:=oP hg hp;simp;omega
   have h3:vg g (c::cr)=(price g.ls c.1 c.2.1).getD 0+vg g cr:=by simp[vg]
   rw[h3,List.length_cons];omega
theorem abe(L:List Int)(hL:∀x∈L,I64 x):Contract Tryz.prog 7 [.d (ints L)] [] (.d (.bool true)) [] []:=by
 refine aj Tryz.func7 rfl (fun E0=>?_);refine cO.sound (g:=.mk) (ow:=[]) (kp:=(fun k=>k==0||k==2||k==3||k==4||k==5||k==6||k==7||k==8||k==9||k==10||k==11||k==12||k==13||k==14||k==15||k==16||k==17||k==18||k==43||k==67||k==74||k==104||k==126)) ?_;rw[Tryz.ntmps7];simp -dsimp[ints];refine ah.of (new_c L) [] 3000 ?_;simp -dsimp[ints];have kT:ak (L.take 600,0):=Dx L hL
 generalize (L.take 600,0)=T0 at kT⊢;try refine⟨rfl,?_⟩
 refine ah.of (vN T0 kT 7 (by omega)) [.o 3010] 0 ?_;have Am:=eF T0 (most:=7) (by omega);obtain⟨d1,d2,d3,d4,d5,d6,d7⟩:=wQ T0 (most:=7) (by omega);have kD:ak (bD T0 7).2.2.2:=d1.symm▸kT;clear d1;generalize bD T0 7=D0 at Am d2 d3 d4 d5 d6 d7 kD⊢;obtain⟨g,p,X,T1⟩:=D0;simp only at Am d2 d3 d4 d5 d6 d7 kD⊢;have hX:=Am.tab;have h0:=Am.top.ok
 have hp:=Am.plan;have hlen:=Am.len;have hl0:p.len≠0:=fun e=>by rw[e]at hlen;simp[aG]at hlen
 have hlI:I64 p.len:=by simp[aG]at hlen;unfold I64;omega
 simp -dsimp[aH,bI];try and_intros
 all_goals try first|rfl|omega|exact⟨by kernel_rfl⟩
 refine ah.of (Ih T1 kD p (by omega) hl0 hlI) [.o 3010] 0 ?_;have kF:ak (mM T1 p).2:=by rw[yM];exact kD
 have WX:=ug T1 Am.bF Am.len;generalize mM T1 p=F at kF WX⊢;obtain⟨q,T2⟩:=F;simp only at kF WX⊢;simp only[dX,Pk.cs,List.map];simp -dsimp[bI];try and_intros
 all_goals try first|rfl|omega|exact⟨by kernel_rfl⟩
 refine ah.of (uP T2 kF g.rs g.ls (by omega)) [.o 3010] 0 ?_;have m1:=aC T2 g.rs.length;have m2:=bg T2 (n:=g.rs.length) (by omega);generalize au T2 g.rs.length=A at m1 m2⊢;obtain⟨a,T3⟩:=A;simp only at m1 m2⊢;have hr:=Dn m1 m2;generalize (g.rs.getD a.toNat ⟨0,false⟩).id=r at hr⊢;have hQ:=WX.live (n:=63) ⟨by omega,by omega⟩
 have h1:=Lc g d5 X d7 (q.live 63) r;obtain⟨a1,a2⟩:=aej h0 hp hQ hr;rw[←hX]at a1 a2
 obtain⟨s1,s2,s3⟩:=rH g X (q.live 63) r;generalize mZ g X (q.live 63) r=U at h1 a1 a2 s1 s2 s3;obtain⟨U,e⟩:=U;simp only at a1 a2 s1 s2 s3;have hg:=aU h0;have h7:=fun f t=>yt g d5 f t
 have h8:=xZ g d5 r;have h9:=fun t=>aei g d5 r t
 simp only[aH,mO]at h7 h8 h9;simp only[aH,dX,Pk.live,Pk.cs,List.map,qG]at h1;simp -dsimp[aH,Pk.cs];and_intros;all_goals try first|rfl|omega|exact⟨by kernel_rfl⟩
 refine ah.of h1 [] 0 ?_;by_cases c0:e=0
 case neg=>
  have hcp:=a1 c0;simp only[h0,decide_true,Bool.true_and,hcp]at h8;simp -dsimp[c0];and_intros;all_goals try first|rfl|omega|exact⟨by kernel_rfl⟩
  refine ah.of h8 [] 0 ?_;simp -dsimp;and_intros;all_goals try first|rfl|omega|exact⟨by kernel_rfl⟩
  refine ah.of mg [] 0 ?_;simp -dsimp;and_intros;all_goals try first|rfl|omega|exact⟨by kernel_rfl⟩
  refine Fin.of ?_;simp
 have a2:=a2 c0;simp -dsimp[c0];and_intros;all_goals try first|rfl|omega|exact⟨by kernel_rfl⟩
 refine aN.of [] (fun k=>k==0||k==2||k==3||k==4||k==5||k==6||k==7||k==8||k==9||k==10||k==11||k==12||k==13||k==14||k==15||k==16||k==17||k==18||k==43||k==67||k==74||k==104||k==126) (ι:={i:Nat // i≤U.dl.length})
  (fun z=>[(Pl.o 4,It.box [TV.d (.sl (rts g.rs)),TV.d (.sl (dO g.ls))]),(Pl.s 4,It.v (.ptr (.o 4) 0)),(Pl.s 8,It.v (.d (.int .i64 r))),(Pl.o 9,It.box [TV.d (.sl (U.dl.map lT)),TV.d (.sl (U.cr.map lJ)),TV.d (.sl (U.ls.map qO))]),(Pl.s 9,It.v (.ptr (.o 9) 0)),(Pl.s 11,It.v (.d (.int .i64 z.1)))])
  (fun z=>U.dl.length-z.1) ⟨0,by omega⟩ ?_ ?_
 ·exact GS.to (by simp)
 rintro⟨i,i1⟩;by_cases hi:i<U.dl.length
 ·have hiz:(i:Int)<U.dl.length:=by omega
  have hx:U.dl[i]? = some U.dl[i]:=List.getElem?_eq_getElem hi;have hm:=a2 _ (List.getElem_mem hi);generalize U.dl[i]=d at hx hm;obtain⟨b1,b2,b3⟩:=hm;simp -dsimp[hiz];and_intros;all_goals try first|rfl|omega|exact⟨by kernel_rfl⟩
  obtain⟨CF,e0,eS,eE,eB⟩:∃CF:Nat→Int,CF 0=0∧(∀k c,U.cr[k]? = some c→CF (k+1)=CF k+if decide (c.2.2&&&d.2.bits≠0#64)=true then(price g.ls c.1 c.2.1).getD 0 else 0)∧CF U.cr.length=dst g d.1 r∧∀k,0≤CF k∧CF k≤1000*k:=by
   refine⟨fun k=>vg g ((U.cr.take k).filter fun c=>decide (c.2.2&&&d.2.bits≠0#64)),by simp[vg],fun k c h=>ZM h,?_,fun k=>?_⟩
   ·simp only[List.take_length];exact b3
   ·have h:=X5 (aU h0) ((U.cr.take k).filter fun c=>decide (c.2.2&&&d.2.bits≠0#64));have h2:=List.length_filter_le (fun c:Int×Int×BitVec 64=>decide (c.2.2&&&d.2.bits≠0#64)) (U.cr.take k);simp only[List.length_take]at h2
    show 0≤vg g _∧vg g _≤_
    omega
  refine aN.of [] (fun k=>k==0||k==2||k==3||k==4||k==5||k==6||k==7||k==8||k==9||k==10||k==11||k==12||k==13||k==14||k==15||k==16||k==17||k==18||k==43||k==67||k==74||k==104||k==126) (ι:={k:Nat // k≤U.cr.length})
   (fun z=>[(Pl.o 4,It.box [TV.d (.sl (rts g.rs)),TV.d (.sl (dO g.ls))]),(Pl.s 4,It.v (.ptr (.o 4) 0)),(Pl.s 8,It.v (.d (.int .i64 r))),(Pl.o 9,It.box [TV.d (.sl (U.dl.map lT)),TV.d (.sl (U.cr.map lJ)),TV.d (.sl (U.ls.map qO))]),(Pl.s 9,It.v (.ptr (.o 9) 0)),(Pl.s 11,It.v (.d (.int .i64 i))),
    (Pl.s 12,It.v (.d (.int .i64 (CF z.1)))),(Pl.s 13,It.v (.d (.int .i64 z.1)))])
   (fun z=>U.cr.length-z.1) ⟨0,by omega⟩ ?_ ?_
  ·exact GS.to (by simp[e0])
  rintro⟨k,k1⟩;by_cases hk:k<U.cr.length
  ·have hkz:(k:Int)<U.cr.length:=by omega
   have hy:U.cr[k]? = some U.cr[k]:=List.getElem?_eq_getElem hk;generalize U.cr[k]=c at hy;have hS:=eS k c hy;have hB:=eB k;have hB2:=eB (k+1);have w1:IntKind.i64.wrap ((k:Int)+1)=(k:Int)+1:=wrap_i64 (by omega) (by omega);have h10:=h7 c.1 c.2.1;cases hp:price g.ls c.1 c.2.1 with
   | none=>
     rw[hp]at h10 hS
     simp at hS;simp -dsimp[hiz,hkz,hx,hy,lJ];and_intros;all_goals try first|rfl|omega|exact⟨by kernel_rfl⟩
     refine ah.of h10 [] 0 ?_;simp -dsimp[w1];and_intros;all_goals try first|rfl|omega|exact⟨by kernel_rfl⟩
     exact⟨⟨k+1,by omega⟩,GS.to (by simp[hS]),by simp;omega⟩
   | some v=>
     rw[hp]at h10 hS
     simp only[Option.getD_some]at hS;by_cases hb:c.2.2&&&d.2.bits=0#64
     ·simp[hb]at hS
      simp -dsimp[hiz,hkz,hx,hy,lJ,bv];and_intros;all_goals try first|rfl|omega|exact⟨by kernel_rfl⟩
      refine ah.of h10 [] 0 ?_;simp -dsimp[hx,lT,Pk.cs,w1,bv,hb];and_intros;all_goals try first|rfl|omega|exact⟨by kernel_rfl⟩
      exact⟨⟨k+1,by omega⟩,GS.to (by simp[hS]),by simp;omega⟩
     ·simp[hb]at hS
      have w2:IntKind.i64.wrap (CF k+v)=CF (k+1):=by rw[hS];exact wrap_i64 (by omega) (by omega)
      simp -dsimp[hiz,hkz,hx,hy,lJ,bv];and_intros;all_goals try first|rfl|omega|exact⟨by kernel_rfl⟩
      refine ah.of h10 [] 0 ?_;simp -dsimp[hx,lT,Pk.cs,w1,w2,bv,hb];and_intros;all_goals try first|rfl|omega|exact⟨by kernel_rfl⟩
      exact⟨⟨k+1,by omega⟩,GS.to (by simp),by simp;omega⟩
  have hk0:k=U.cr.length:=by omega
  subst hk0;have hkz :¬((U.cr.length:Nat):Int)<U.cr.length:=by omega
  have h10:=h9 d.1;have hc:H9 g r d.1=some (dst g d.1 r):=by unfold H9;rw[if_pos ⟨h0,hr,b2,by omega⟩]
  rw[hc]at h10
  have w1:IntKind.i64.wrap ((i:Int)+1)=(i:Int)+1:=wrap_i64 (by omega) (by omega);simp -dsimp[hkz,hx,lT];and_intros;all_goals try first|rfl|omega|exact⟨by kernel_rfl⟩
  refine ah.of h10 [] 0 ?_;simp -dsimp[eE,w1];and_intros;all_goals try first|rfl|omega|exact⟨by kernel_rfl⟩
  exact⟨⟨i+1,by omega⟩,GS.to (by simp),by simp;omega⟩
 have hiz :¬(i:Int)<U.dl.length:=by omega
 simp -dsimp[hiz];and_intros;all_goals try first|rfl|omega|exact⟨by kernel_rfl⟩
 refine ah.of mg [] 0 ?_;simp -dsimp;and_intros;all_goals try first|rfl|omega|exact⟨by kernel_rfl⟩
 refine Fin.of ?_;simp
end Go.Proofs
