/-
  What functions of the program compute, stated as contracts over plain data; the conditions of each stand in its own statement.
-/
import Derived.Test.YtboimfkommpglaaGreatDoorZA28
import Derived.Test.YtboimfkommpglaaGreatDoorZA41
import Derived.Test.YtboimfkommpglaaGreatDoorZA21
import Derived.Test.YtboimfkommpglaaGreatDoorZA29
import Derived.Test.YtboimfkommpglaaGreatDoorZA20
import Derived.Test.YtboimfkommpglaaGreatDoorZA12
import Derived.Test.YtboimfkommpglaaGreatDoorZA19
set_option linter.unusedSimpArgs false
set_option linter.unusedVariables false
namespace Go.Proofs
open Go Go.Tr
theorem z_{g:ay}{l:List Tb}{k:Nat}:∀(m n:Nat) (q:Int×Fr),w_ g l q→iJ q.2≤m→iJ q.2≤n→jU g l k m q=jU g l k n q
 | 0,_,q,_,h,_=>by unfold iJ at h;omega
 | _,0,q,_,_,h=>by unfold iJ at h;omega
 | m+1,n+1,(r,⟨x::w,p⟩),hI,h1,h2=>by
   rw[pU,pU];split
   ·rename_i hp;have hn:(x,(⟨w,p⟩:Fr))∈eP g l (r,⟨x::w,p⟩):=by
     unfold eP;rw[pJ hI];unfold qP;rw[if_pos hp];simp
    rw[z_ m n (x,⟨w,p⟩) (yZ hI _ hn) (by simp only[iJ,List.length_cons]at h1⊢;omega) (by simp only[iJ,List.length_cons]at h2⊢;omega)]
   ·rfl
 | m+1,n+1,(r,⟨[],p⟩),hI,h1,h2=>by
   cases hf:bH l r with
   | none=>rw[oJ hf,oJ hf]
   | some b=>
     rw[iU hf,iU hf];split
     ·rfl
     split
     ·rfl
     split
     ·rfl
     rename_i c2;cases hx:jZ g r (aF b p k,qJ b p (aF b p k))with
     | none=>rfl
     | some x=>
       obtain⟨x1,x2,x3⟩:=qU hx;have ht:=qA hI.fit.ok;simp only at ht;have e:(qJ b p (aF b p k)).ttl.toNat+1=p.ttl.toNat:=by simp only[qJ,ji];omega
       obtain⟨d,hg⟩:=BQ hx;have hn:=List.nodup_cons.1 (List.nodup_cons.1 d.nodup).2;have hF:w_ g l x:=⟨hI.top,hI.tab,by rw[x1];exact hI.fit.mask c2 _,d.has _ (by simp),hn.2,fun y hy=>d.has y (by simp[hy])⟩
       simp only;rw[z_ m n x hF (by simp only[iJ,x1,List.length_nil]at h1⊢;omega) (by simp only[iJ,x1,List.length_nil]at h2⊢;omega)]
def yJ(B:BitVec 64)(r:Int)(w:List Int):List (Int×Int×BitVec 64):=(edges r w).map fun e=>(e.1,e.2,B)
theorem IU{g:ay}{l:List Tb}{k:Nat}{p:Pk}:∀(w:List Int) (r:Int) (m:Nat) (C:Int),fH g r w=some C→jU g l k (w.length+m) (r,⟨w,p⟩)=(⟨[],yJ p.bits r w,[]⟩:dQ).app (jU g l k m (jW r w,⟨[],p⟩))
 | [],r,m,C,_=>by simp[yJ,edges,jW,dQ.app]
 | x::w,r,m,C,h=>by
   rw[fH]at h
   cases hp:price g.ls r x with
   | none=>simp[hp]at h
   | some c=>
     cases hc:fH g x w with
     | none=>simp[hp,hc]at h
     | some v=>
       have ih:=IU (l:=l) (k:=k) (p:=p) w x m v hc;rw[show(x::w).length+m=(w.length+m)+1 by simp;omega,pU,if_pos (by simp[hp]),ih];simp[yJ,edges,jW,dQ.app]
theorem NM{g:ay}{l:List Tb}{k:Nat}{r:Int}{p:Pk}{b:Tb}(hI:w_ g l (r,⟨[],p⟩))(hf:bH l r=some b)(c0:aF b p k≠0)(c1:aF b p k≠b.r)(c2:p.ttl≠0)
  (hr:route g r (aF b p k)≠[]) {m:Nat} (hm:iJ ⟨[],p⟩≤m) {n:Nat} (hn:iJ ⟨[],qJ b p (aF b p k)⟩≤n) :
  jU g l k m (r,⟨[],p⟩)=(⟨[],yJ (qJ b p (aF b p k)).bits r (route g r (aF b p k)),[]⟩:dQ).app (jU g l k n (aF b p k,⟨[],qJ b p (aF b p k)⟩))∧w_ g l (aF b p k,⟨[],qJ b p (aF b p k)⟩):=by
 obtain⟨d,hg⟩:=Dk hr;obtain⟨C,hC,_⟩:=d.cost;have hlast:=d.last;have hlen:=d.len hg;have hhas:aY g.rs (aF b p k)=true:=by
  unfold route at hr;split at hr
  ·rename_i h;exact h.2.2.1
  ·exact absurd rfl hr
 have ht:=qA hI.fit.ok;simp only at ht;have e:(qJ b p (aF b p k)).ttl.toNat+1=p.ttl.toNat:=by simp only[qJ,ji];omega
 have hF:w_ g l (aF b p k,⟨[],qJ b p (aF b p k)⟩):=⟨hI.top,hI.tab,hI.fit.mask c2 _,hhas,by simp,by simp⟩
 refine⟨?_,hF⟩;cases hw:route g r (aF b p k)with
 | nil=>exact absurd hw hr
 | cons x w=>
   rw[hw]at hC hlast hlen d
   rw[fH]at hC
   cases hp:price g.ls r x with
   | none=>simp[hp]at hC
   | some c=>
     cases hc:fH g x w with
     | none=>simp[hp,hc]at hC
     | some v=>
       have hx:jZ g r (aF b p k,qJ b p (aF b p k))=some (x,⟨w,qJ b p (aF b p k)⟩):=by unfold jZ;simp only[hw]
       have hnd:=List.nodup_cons.1 (List.nodup_cons.1 d.nodup).2;have hFx:w_ g l (x,⟨w,qJ b p (aF b p k)⟩):=⟨hI.top,hI.tab,hI.fit.mask c2 _,d.has _ (by simp),hnd.2,fun y hy=>d.has y (by simp[hy])⟩
       have h1:=IU (l:=l) (k:=k) (p:=qJ b p (aF b p k)) w x n v hc;simp only[jW]at hlast;rw[hlast]at h1
       have hlw:w.length≤23:=by simpa using hlen
       obtain⟨m',rfl⟩:∃m',m=m'+1:=⟨m-1,by unfold iJ at hm;omega⟩
       rw[iU hf,if_neg c0,if_neg c1,if_neg c2,hx];simp only;rw[z_ m' (w.length+n) (x,⟨w,qJ b p (aF b p k)⟩) hFx (by simp only[iJ,List.length_nil]at hm⊢;omega) (by simp only[iJ,List.length_nil]at hn⊢;omega),h1];simp[yJ,edges,dQ.app]
theorem zQ{g:ay}(h0:cZ g=0){p:Pn}(hp:d_ p=true){r:Int}{b:Tb}(hf:bH (tabs g p g.rs) r=some b)(id pl:Int):
  b.r=r∧(mG b id pl=0∨mG b id pl=b.r∨∃e∈p.es,e.id=id∧e.r≠r∧dY g.rs e.r=true∧zA g e.r r (mG b id pl)):=by
 have hg:=aU h0;rw[BX hg]at hf
 split at hf
 ·rename_i hc;simp only[Option.some.injEq]at hf;subst hf;refine⟨rfl,?_⟩;by_cases he:∃e∈p.es,e.id=id
  ·obtain⟨e,he,rfl⟩:=he;rcases BI h0 hp he (wM hg hc) pl with h|h|h
   ·exact .inr (.inl h.2)
   ·exact .inr (.inr ⟨e,he,rfl,h.1,h.2.1,h.2.2.2⟩)
   ·exact .inl h.2.2
  ·refine .inl ?_;unfold mG;rw[zG (fun e h1 h2=>he ⟨e,h1,h2⟩)];simp[og]
 ·simp at hf
theorem I_{g:ay}(h0:cZ g=0){p:Pn}(hp:d_ p=true){k:Nat}:∀(n:Nat) (q:Pk) (r:Int) (m:Nat),w_ g (tabs g p g.rs) (r,⟨[],q⟩)→q.ttl.toNat+1≤n→iJ ⟨[],q⟩≤m→
  (jU g (tabs g p g.rs) k m (r,⟨[],q⟩)).dl=(way (tabs g p g.rs) k n (r,q)).dl∧((jU g (tabs g p g.rs) k m (r,⟨[],q⟩)).ls = []↔(way (tabs g p g.rs) k n (r,q)).ls = [])
 | 0,q,r,m,_,h,_=>by omega
 | n+1,q,r,m,hI,hn,hm=>by
   have hg:=aU h0;obtain⟨m',rfl⟩:∃m',m=m'+1:=⟨m-1,by unfold iJ at hm;omega⟩
   cases hf:bH (tabs g p g.rs) r with
   | none=>rw[oJ hf,way];simp[hf]
   | some b=>
     have hb:=hI.fit.all b (eY hf).1;by_cases c0:aF b q k=0
     ·rw[iU hf,way];simp[hf,c0]
     by_cases c1:aF b q k=b.r
     ·rw[iU hf,way];simp only[hf,if_neg c0,if_pos c1];simp
     by_cases c2:q.ttl=0
     ·rw[iU hf,way];simp only[hf,if_neg c0,if_neg c1,if_pos c2];simp
     have hh:=(zQ h0 hp hf (vZ q k) (kX q)).2;rw[←vX hb.ck]at hh
     rcases hh with hh|hh|⟨e,he,_,_,hc,hR⟩
     ·exact absurd hh c0
     ·exact absurd hh c1
     have hr:=(zO h0 (wM hg hc) hR).1;obtain⟨h1,h2⟩:=NM hI hf c0 c1 c2 hr hm (n:=iJ ⟨[],qJ b q (aF b q k)⟩) (Nat.le_refl _);have ht:=qA hI.fit.ok;simp only at ht;have et:(qJ b q (aF b q k)).ttl.toNat+1=q.ttl.toNat:=by simp only[qJ,ji];omega
     have ih:=I_ h0 hp (k:=k) n (qJ b q (aF b q k)) (aF b q k) (iJ ⟨[],qJ b q (aF b q k)⟩) h2 (by omega) (Nat.le_refl _);rw[h1,way];simp only[hf,if_neg c0,if_neg c1,if_neg c2,dQ.app,List.nil_append];exact ih
def D7(l:List (Int×BitVec 64)):BitVec 64:=l.foldl (fun B x=>B|||x.2) 0#64
theorem C_:∀(l:List (Int×BitVec 64)) (B:BitVec 64) (k:Nat),(l.foldl (fun B x=>B|||x.2) B).getLsbD k=(B.getLsbD k||l.any fun x=>x.2.getLsbD k)
 | [],B,k=>by simp
 | x::l,B,k=>by rw[List.foldl_cons,C_ l,List.any_cons,BitVec.getLsbD_or,Bool.or_assoc]
theorem Fe(l:List (Int×BitVec 64))(k:Nat):(D7 l).getLsbD k=true↔l.filter (fun x=>x.2.getLsbD k)≠[]:=by
 unfold D7;rw[C_];simp only[BitVec.getLsbD_zero,Bool.false_or,List.any_eq_true,ne_eq,List.filter_eq_nil_iff];constructor
 ·rintro⟨x,hx,h⟩ a;exact a x hx h
 ·intro a;refine Classical.byContradiction fun b=>a fun x hx h=>b ⟨x,hx,h⟩
theorem VW{g:ay}(h0:cZ g=0){p:Pn}(hp:d_ p=true){r:Int}{q:Pk}(hI:w_ g (tabs g p g.rs) (r,⟨[],q⟩))(hr:(bH (tabs g p g.rs) r).isSome):
  (runT g (tabs g p g.rs) r q).dl.length=(mY (tabs g p g.rs) (wt q) [(r,q)] gX).dl.length∧(∀d∈(mY (tabs g p g.rs) (wt q) [(r,q)] gX).dl,d∈(runT g (tabs g p g.rs) r q).dl)∧
  D7 (runT g (tabs g p g.rs) r q).ls=D7 (mY (tabs g p g.rs) (wt q) [(r,q)] gX).ls:=by
 have hF:=hI.fit;simp only at hF;have hA:=zf hI hr;have hB:=Xz hF hr;have key:∀k<64,((runT g (tabs g p g.rs) r q).at k).dl=((mY (tabs g p g.rs) (wt q) [(r,q)] gX).at k).dl∧(((runT g (tabs g p g.rs) r q).at k).ls = []↔((mY (tabs g p g.rs) (wt q) [(r,q)] gX).at k).ls = []):=fun k hk=>by
  by_cases hb:q.bits.getLsbD k=true
  ·rw[GZ hI hk hb,aa4 hF r hk hb];exact I_ h0 hp _ _ _ _ hI (Nat.le_refl _) (Nat.le_refl _)
  ·rw[Dq hI hk hb,XB hF r hk hb];exact⟨rfl,Iff.rfl⟩
 refine⟨?_,fun d hd=>?_,?_⟩
 ·rw[CZ (fun d:Int×Pk=>d.2.bits) _ hA.dl,CZ (fun d:Int×Pk=>d.2.bits) _ hB.dl]
  congr 1
  apply List.map_congr_left;intro k hk;have:=(key k (by simpa using hk)).1;simp only[dQ.at]at this;rw[this]
 ·obtain⟨k,hk,hbit⟩:=hB.dl d hd;have h1:d∈((mY (tabs g p g.rs) (wt q) [(r,q)] gX).at k).dl:=by
   simp only[dQ.at,List.mem_filter];exact⟨hd,by rw[hbit,j_ hk hk];simp⟩
  rw[←(key k hk).1]at h1
  simp only[dQ.at,List.mem_filter]at h1;exact h1.1
 ·apply BitVec.eq_of_getLsbD_eq;intro k hk;have:=(key k hk).2;simp only[dQ.at]at this;rw[Bool.eq_iff_iff,Fe,Fe,ne_eq,ne_eq,this]
set_option maxRecDepth 100000
set_option maxHeartbeats 16000000
theorem wW(g:ay)(l:List Tb)(q:Int×Fr)(t:dQ):(jw g l q t).dl.length≤t.dl.length+64∧(jw g l q t).cr.length≤t.cr.length+64∧(jw g l q t).ls.length≤t.ls.length+64:=by
 have h1:(Au q.1 (iD g l q) q.2.pk).length≤64:=by unfold Au nI;rw[List.length_map];exact iT _
 have h2:=yh g l q;unfold jw;refine⟨by simp only[List.length_append];omega,by simp only[List.length_append,List.length_map];omega,?_⟩;simp only;split
 ·omega
 ·simp
theorem rF(g:ay)(l:List Tb):∀(n:Nat) (Q:List (Int×Fr)) (t:dQ),(pR g l n Q t).dl.length≤t.dl.length+64*n∧(pR g l n Q t).cr.length≤t.cr.length+64*n∧(pR g l n Q t).ls.length≤t.ls.length+64*n
 | 0,Q,t=>by simp[pR]
 | n+1,[],t=>by rw[lN];omega
 | n+1,q::Q,t=>by
   have h1:=rF g l n (Q++eP g l q) (jw g l q t);have h2:=wW g l q t;rw[pR];omega
theorem rH(g:ay)(l:List Tb)(p:Pk)(r:Int):(mZ g l p r).1.dl.length≤100000000∧(mZ g l p r).1.cr.length≤100000000∧(mZ g l p r).1.ls.length≤100000000:=by
 rw[xW];split
 ·simp[gX]
 ·rename_i h;split
  ·have h2:p.ok=true:=by
    cases hp:p.ok with
    | true=>rfl
    | false=>exact absurd (.inr (.inr hp)) h
   have h3:=rF g l (PX ⟨[],p⟩) [(r,⟨[],p⟩)] gX;have h4:=Le h2;simp only[runT,gX,List.length_nil]at h3⊢;omega
  ·simp[gX]
theorem Og(B:BitVec 64):Contract Tryz.prog 121 [.d (bv B)] [] (.d (.int .i64 (pc B))) [] []:=by
 have hl:=sK B;refine aj Tryz.func121 rfl (fun E0=>?_);refine cO.sound (g:=.mk) (ow:=[]) (kp:=(fun k=>k==0||k==2)) ?_;rw[Tryz.ntmps121];simp -dsimp;refine ah.of hl [] 0 ?_;simp -dsimp[ints];refine Fin.of ?_;simp[pc,lg]
theorem KJ{l:List Tb}{q:Int×Pk}{b:Tb}(hf:bH l q.1=some b)(t:dQ):stepT l q t=iM t q.1 q.2 (jC b q.2).1:=by
 simp[stepT,hf,iM]
theorem KI{l:List Tb}{q:Int×Pk}(hf:bH l q.1=none)(hq:q.2.bits≠0#64)(t:dQ):stepT l q t=iM t q.1 q.2 ⟨0#64,q.2.bits,[]⟩:=by
 simp[stepT,hf,iM,hq,nI,vK]
theorem LY{l:List Tb}{p:Pk}{r:Int}(h:lK l p r=0):vG l p∧(bH l r).isSome∧nK l p r=(mY l (wt p) [(r,p)] gX,0):=by
 unfold lK nK at h;unfold nK;split at h
 ·simp at h
 rename_i h0;rw[if_neg h0];have h1:nR l=0:=Classical.byContradiction fun a=>h0 (.inl a)
 have h2:p.ok=true:=by
  cases hp:p.ok with
  | true=>rfl
  | false=>exact absurd (.inr hp) h0
 cases hf:bH l r with
 | none=>rw[hf]at h;simp at h
 | some b=>
   rw[hf]at h
   simp only at h⊢;split at h
   ·simp at h
   rename_i h3;rw[if_neg h3];split at h
   ·simp at h
   rename_i h4;rw[if_neg h4];have e1:p.bF=b.sd:=Classical.byContradiction fun a=>h4 (.inl a)
   have e2:p.len=b.len:=Classical.byContradiction fun a=>h4 (.inr a)
   have hall:=x9 (l:=_) (by simp) h1;simp only[List.mem_cons,List.not_mem_nil,or_false,forall_eq_or_imp,forall_eq]at hall;have hd:∀c∈l,c.sd=(l.headD tb0).sd∧c.len=(l.headD tb0).len:=fun c hc=>by
    have:=List.any_eq_false.1 hall.2.2.2 c hc;simpa using this
   have hb:=hd b (eY hf).1;refine⟨⟨h2,fun c hc=>⟨QU h1 c hc,?_,?_,h2,h3⟩⟩,rfl,rfl⟩
   ·rw[(hd c hc).1,←hb.1,e1]
   ·rw[(hd c hc).2,←hb.2,e2]
theorem LZ{l:List Tb}{p:Pk}{r:Int}(h:lK l p r≠0):nK l p r=(gX,lK l p r):=by
 unfold lK nK at h⊢;split
 ·rfl
 rename_i h0;rw[if_neg h0]at h
 cases hf:bH l r with
 | none=>rfl
 | some b=>
   rw[hf]at h
   simp only at h⊢;split
   ·rfl
   rename_i h3;rw[if_neg h3]at h
   split
   ·rfl
   rename_i h4;rw[if_neg h4]at h
   simp at h
theorem Xy(l:List Tb)(hl:DL l)(p:Pk)(r:Int):Contract Tryz.prog 44 [.d (.sl (oq l)),dX p,.d (.int .i64 r)] [] (.rG [qG (nK l p r).1,.d (.int .i64 (nK l p r).2)]) [] []:=by
 have hfi:=Ig l hl p r;simp only[dX,Pk.cs,List.map]at hfi;refine aj Tryz.func44 rfl (fun E0=>?_);refine cO.sound (g:=.mk) (ow:=[29,1000119]) (kp:=(fun k=>k==0||k==1||k==2||k==4||k==6||k==7||k==8||k==9||k==10||k==11||k==12||k==13||k==14||k==15||k==16||k==22||k==33||k==56)) ?_;rw[Tryz.ntmps44];simp -dsimp[dX,Pk.cs];try refine⟨?_,⟨by kernel_rfl⟩⟩
 refine ah.of hfi [] 0 ?_;by_cases h1:lK l p r=0
 rotate_left
 ·simp -dsimp[h1];try refine⟨?_,⟨by kernel_rfl⟩⟩
  refine Fin.box (.o 6) rfl ?_;simp -dsimp;refine Fin.of ?_;simp[LZ h1,qG,gX]
 simp -dsimp[h1];try refine⟨?_,⟨by kernel_rfl⟩⟩
 obtain⟨hF,hfr,hr⟩:=LY h1;have hwt:=acs hF.ok;rw[hr];have MH:kZ [(r,p)]=wt p:=by simp[kZ]
 refine aN.of [29,1000119] (fun k=>k==0||k==1||k==2||k==4||k==6||k==7||k==8||k==9||k==10||k==11||k==12||k==13||k==14||k==15||k==16||k==22||k==33||k==56) (ι:={z:Nat×Nat×List (Int×Pk)×dQ // mY l (wt p) [(r,p)] gX=mY l z.1 (z.2.2.1.drop z.2.1) z.2.2.2∧kZ (z.2.2.1.drop z.2.1)≤z.1∧z.2.1+z.1≤8129∧z.2.1≤z.2.2.1.length∧(∀q∈z.2.2.1.drop z.2.1,vG l q.2∧(bH l q.1=none→q.2.bits≠0#64))∧z.2.2.2.dl.length+64*z.1≤600000∧z.2.2.2.cr.length+64*z.1≤600000∧z.2.2.2.ls.length+z.1≤600000})
  (fun z=>[(Pl.s 0,It.v (.d (.sl (oq l)))),(Pl.o 6,It.box [TV.c (Value.slice none 0 0),TV.c (Value.slice none 0 0),TV.c (Value.slice none 0 0)]),(Pl.s 6,It.v (.ptr (Pl.o 6) 0)),(Pl.s 7,It.v (.d (.int .i64 0))),
   (Pl.o 10,It.box [TV.aB 70 z.1.2.2.2.dl.length,TV.aB 71 z.1.2.2.2.cr.length,TV.aB 72 z.1.2.2.2.ls.length]),(Pl.s 10,It.v (.ptr (Pl.o 10) 0)),
   (Pl.o 70,It.row 92 11 (dd (z.1.2.2.2.dl.map lT)) false),(Pl.o 71,It.row 96 3 (dd (z.1.2.2.2.cr.map lJ)) false),(Pl.o 72,It.row 176 2 (dd (z.1.2.2.2.ls.map qO)) false),
   (Pl.o 29,It.row 29 12 (dd (z.1.2.2.1.map DI)) false),(Pl.s 9,It.v (.aB 29 z.1.2.2.1.length)),(Pl.s 11,It.v (.d (.int .i64 z.1.2.1)))])
  (fun z=>z.1.1) ⟨(wt p,0,[(r,p)],gX),rfl,by simp only[List.drop_zero,MH];omega,by simp only;omega,by simp,by intro q hq;simp at hq;subst hq;exact⟨hF,fun e=>by simp[e]at hfr⟩,by simp[gX];omega,by simp[gX];omega,by simp[gX];omega⟩ ?_ ?_
 ·refine(GS.PL (.o 10) 0 70 (cs:=[.c (.slice none 0 0),.c (.slice none 0 0),.c (.slice none 0 0)]) 92 11 (by simp) (by simp) (by simp) (by simp)).trans ?_;simp only[iI,Pl.o.injEq,reduceCtorEq,if_false,if_true,Nat.reduceEqDiff,List.set];refine(GS.PL (.o 10) 1 71 (cs:=[.aB 70 0,.c (.slice none 0 0),.c (.slice none 0 0)]) 96 3 (by simp) (by simp) (by simp) (by simp)).trans ?_
  simp only[iI,Pl.o.injEq,reduceCtorEq,if_false,if_true,Nat.reduceEqDiff,List.set];exact GS.gq (.o 10) 2 72 (cs:=[.aB 70 0,.aB 71 0,.c (.slice none 0 0)]) 176 2 (by simp) (by simp) (by simp) (by simp) (by simp[gX,DI,Pk.cs])
 ·rintro⟨⟨n,i,Q,t⟩,i1,i2,i3,i4,i5,i6,i7,i8⟩;simp only at i1 i2 i3 i4 i5 i6 i7 i8;by_cases hi:i<Q.length
  ·have hiz:(i:Int)<Q.length:=by omega
   have hg:Q[i]? = some Q[i]:=List.getElem?_eq_getElem hi;have hd:Q.drop i=Q[i]::Q.drop (i+1):=List.drop_eq_getElem_cons hi;generalize Q[i]=q at hg hd;obtain⟨q1,q2⟩:=q;rw[hd]at i1 i2 i5
   rw[qV]at i2
   have hq:=yX l (q1,q2);have hQl:=uG (Q.drop (i+1));rw[List.length_drop]at hQl
   have hw1:1≤wt q2:=by unfold wt;omega
   simp only at i2 hq;obtain⟨n,rfl⟩:∃j,n=j+1:=⟨n-1,by omega⟩
   rw[mY]at i1
   have MB:=(i5 (q1,q2) (by simp)).1;have hFb:=(i5 (q1,q2) (by simp)).2;have hfq:=CO l hl q1;have hgr:(dd (Q.map DI))[i]? = some (TV.d (.int .i64 q1)::TV.d (.sl [])::q2.cs.map .d):=by simp[dd,hg,DI]
   simp -dsimp[hiz,hgr,Pk.cs];and_intros;all_goals try first|omega|exact⟨by kernel_rfl⟩
   have step:∀(o:Out) (Q':List (Int×Pk)) (i':Int),GS {E0:=E0,N:=70}
     (Tr.look [(Pl.s 0,It.v (.d (.sl (oq l)))),(Pl.o 6,It.box [TV.c (Value.slice none 0 0),TV.c (Value.slice none 0 0),TV.c (Value.slice none 0 0)]),(Pl.s 6,It.v (.ptr (Pl.o 6) 0)),(Pl.s 7,It.v (.d (.int .i64 0))),
      (Pl.o 10,It.box [TV.aB 1900 (iM t q1 q2 o).dl.length,TV.aB 1901 (iM t q1 q2 o).cr.length,TV.aB 1902 (iM t q1 q2 o).ls.length]),(Pl.s 10,It.v (.ptr (Pl.o 10) 0)),
      (Pl.o 1900,It.row 92 11 (dd ((iM t q1 q2 o).dl.map lT)) false),(Pl.o 1901,It.row 96 3 (dd ((iM t q1 q2 o).cr.map lJ)) false),(Pl.o 1902,It.row 176 2 (dd ((iM t q1 q2 o).ls.map qO)) false),
      (Pl.o 29,It.row 29 12 (dd (Q'.map DI)) false),(Pl.s 9,It.v (.aB 29 Q'.length)),(Pl.s 11,It.v (.d (.int .i64 i')))])
     (Tr.look [(Pl.s 0,It.v (.d (.sl (oq l)))),(Pl.o 6,It.box [TV.c (Value.slice none 0 0),TV.c (Value.slice none 0 0),TV.c (Value.slice none 0 0)]),(Pl.s 6,It.v (.ptr (Pl.o 6) 0)),(Pl.s 7,It.v (.d (.int .i64 0))),
      (Pl.o 10,It.box [TV.aB 70 (iM t q1 q2 o).dl.length,TV.aB 71 (iM t q1 q2 o).cr.length,TV.aB 72 (iM t q1 q2 o).ls.length]),(Pl.s 10,It.v (.ptr (Pl.o 10) 0)),
      (Pl.o 70,It.row 92 11 (dd ((iM t q1 q2 o).dl.map lT)) false),(Pl.o 71,It.row 96 3 (dd ((iM t q1 q2 o).cr.map lJ)) false),(Pl.o 72,It.row 176 2 (dd ((iM t q1 q2 o).ls.map qO)) false),
      (Pl.o 29,It.row 29 12 (dd (Q'.map DI)) false),(Pl.s 9,It.v (.aB 29 Q'.length)),(Pl.s 11,It.v (.d (.int .i64 i')))]):=fun o Q' i'=>by
    refine GS.trans (GS.ren (a:=1900) (b:=70) (by decide) (by rw[Tr.zU];simp)) ?_;rw[iO (by decide) (by simp)];refine GS.trans (GS.ren (a:=1901) (b:=71) (by decide) (by rw[Tr.zU];simp)) ?_;rw[iO (by decide) (by simp)];exact GS.ren' 1902 72 (by decide) (by simp) (by simp)
   have rest:∀o:Out,o.g_.length≤64→mY l (wt p) [(r,p)] gX=mY l n (Q.drop (i+1)++o.g_) (iM t q1 q2 o)→kZ o.g_+1≤wt q2→(∀c∈o.g_,vG l c.2∧(bH l c.1=none→c.2.bits≠0#64))→
     ∃j :{z:Nat×Nat×List (Int×Pk)×dQ // mY l (wt p) [(r,p)] gX=mY l z.1 (z.2.2.1.drop z.2.1) z.2.2.2∧kZ (z.2.2.1.drop z.2.1)≤z.1∧z.2.1+z.1≤8129∧z.2.1≤z.2.2.1.length∧(∀q∈z.2.2.1.drop z.2.1,vG l q.2∧(bH l q.1=none→q.2.bits≠0#64))∧z.2.2.2.dl.length+64*z.1≤600000∧z.2.2.2.cr.length+64*z.1≤600000∧z.2.2.2.ls.length+z.1≤600000},j.1=(n,i+1,Q++o.g_,iM t q1 q2 o):=fun o ho e1 e2 e3=>by
    have hdrop:(Q++o.g_).drop (i+1)=Q.drop (i+1)++o.g_:=List.drop_append_of_le_length (by omega);have hlv:(nI q1 o q2).length≤64:=by unfold nI;rw[List.length_map];exact iT _
    refine⟨⟨(n,i+1,Q++o.g_,iM t q1 q2 o),by simp only[hdrop];exact e1,by simp only[hdrop,A_];omega,by simp only;omega,by simp only[List.length_append];omega,?_,?_,?_,?_⟩,rfl⟩
    ·intro q hq;simp only[hdrop]at hq;rcases List.mem_append.1 hq with hq|hq
     ·exact i5 q (by simp[hq])
     ·exact e3 q hq
    ·simp only[iM,List.length_append];omega
    ·simp only[iM,List.length_append,List.length_map];omega
    ·simp only[iM];split<;>(try simp only[List.length_append,List.length_cons,List.length_nil])<;>omega
   cases hfd:bH l q1 with
   | none=>
     have eN:nextQ l (q1,q2) = []:=by simp[nextQ,hfd]
     have eS:=KI (q:=(q1,q2)) hfd (hFb hfd) t;rw[eN,eS]at i1
     obtain⟨jj,hjj⟩:=rest ⟨0#64,q2.bits,[]⟩ (by simp) i1 (by simp[kZ];omega) (by simp);rw[hfd]at hfq
     simp only[su,Option.getD_none,Option.isSome_none,tb0,bZ]at hfq;have hnt:=IJ t (by omega) (by omega) (by omega) q1 q2 ⟨0#64,q2.bits,[]⟩ (by simp);simp only[dX,Pk.cs,List.map,outT,wE]at hnt;refine ah.of hfq [] 0 ?_;simp -dsimp[hiz];try refine⟨?_,⟨by kernel_rfl⟩⟩
     refine ah.view [63] ?_;simp -dsimp;try refine⟨?_,⟨by kernel_rfl⟩⟩
     refine ah.of2 hnt [] [(900,70),(901,71),(902,72)] 1000 ?_;simp -dsimp[bv,wrap_i64 (n:=(i:Int)+1) (by omega) (by omega)];and_intros;all_goals try first|omega|exact⟨by kernel_rfl⟩
     refine⟨jj,?_,by rw[hjj];simp⟩;rw[hjj];refine(GS.to ?_).trans (step ⟨0#64,q2.bits,[]⟩ (Q++[]) ((i:Int)+1));simp[bv,Pk.cs]
   | some b2=>
     have hb2:b2.Sm:=hl.t b2 (List.mem_of_find?_eq_some hfd);have hB2:=MB.all b2 (eY hfd).1;obtain⟨hV1,hV2⟩:=pW hB2;have eN:nextQ l (q1,q2)=(iH b2 q2).g_:=by simp[nextQ,hfd,hV1]
     have eS:=KJ (q:=(q1,q2)) hfd t;have hnf:=II (q:=(q1,q2)) MB;have hRI:=(Wh.step (l:=l) (q:=(q1,q2)) (Q:=[]) (t:=gX) ⟨fun c hc=>by simp at hc;subst hc;exact⟨MB,hFb⟩,by simp[gX],by simp[gX],by simp[gX]⟩).fit;rw[List.nil_append]at hRI
     rw[eN]at i1 hq hRI
     rw[eS,hV1]at i1
     have hcl:=CP b2 q2;rw[hV1]at hcl
     simp only at hcl i1;have hdo:=Kt b2 hb2 q2 hB2.ck MB.ok hB2.len;rw[hfd]at hfq
     simp only[su,Option.getD_some,Option.isSome_some,bZ]at hfq;clear hV1 hV2 eN eS hnf;generalize iH b2 q2=o at i1 hq hRI hcl hdo;obtain⟨jj,hjj⟩:=rest o hcl i1 hq hRI;have hnt:=IJ t (by omega) (by omega) (by omega) q1 q2 o hcl;simp only[dX,Pk.cs,List.map,outT,wE,bZ]at hnt hdo;have hdl:dLen 12 (o.g_.map DI):=iF 12 _ _ fun _=>rfl
     refine ah.of hfq [] 0 ?_;simp -dsimp[hiz];try refine⟨?_,⟨by kernel_rfl⟩⟩
     refine ah.of hdo [] 0 ?_;simp -dsimp;try refine⟨?_,⟨by kernel_rfl⟩⟩
     refine ah.of2 hnt [] [(900,70),(901,71),(902,72)] 1000 ?_;simp -dsimp[bv,wrap_i64 (n:=(i:Int)+1) (by omega) (by omega)];and_intros;all_goals try first|omega|exact hdl|exact⟨by kernel_rfl⟩
     refine⟨jj,?_,by rw[hjj];simp⟩;rw[hjj];refine(GS.to ?_).trans (step o (Q++o.g_) ((i:Int)+1));simp[bv,Pk.cs]
  ·have hiz :¬(i:Int)<Q.length:=by omega
   have e0:Q.drop i = []:=List.drop_eq_nil_of_le (by omega);rw[e0,rE]at i1
   simp -dsimp[hiz];try refine⟨?_,⟨by kernel_rfl⟩⟩
   refine Fin.box (.o 6) rfl ?_;simp -dsimp;refine Fin.of ?_;simp[qG,i1]
theorem afi(r:Int)(o:Out)(p:Pk):(nI r o p).length≤64:=by unfold nI;rw[List.length_map];exact iT _
theorem adL(l:List Tb)(q:Int×Pk)(t:dQ):(stepT l q t).dl.length≤t.dl.length+64∧(stepT l q t).cr.length≤t.cr.length+64∧(stepT l q t).ls.length≤t.ls.length+64:=by
 unfold stepT;split
 ·simp
 ·rename_i b _;have h1:=afi q.1 (jC b q.2).1 q.2;have h2:=CP b q.2;refine⟨by simp only[List.length_append];omega,by simp only[List.length_append,List.length_map];omega,?_⟩;simp only;split
  ·omega
  ·simp
theorem Za(l:List Tb):∀(n:Nat) (Q:List (Int×Pk)) (t:dQ),(mY l n Q t).dl.length≤t.dl.length+64*n∧(mY l n Q t).cr.length≤t.cr.length+64*n∧(mY l n Q t).ls.length≤t.ls.length+64*n
 | 0,Q,t=>by simp[mY]
 | n+1,[],t=>by rw[rE];omega
 | n+1,q::Q,t=>by
   have h1:=Za l n (Q++nextQ l q) (stepT l q t);have h2:=adL l q t;rw[mY];omega
theorem adF(l:List Tb)(p:Pk)(r:Int):(nK l p r).1.dl.length≤1000000∧(nK l p r).1.cr.length≤1000000∧(nK l p r).1.ls.length≤1000000:=by
 by_cases h:lK l p r=0
 ·obtain⟨h1,_,h2⟩:=LY h;rw[h2];have h3:=Za l (wt p) [(r,p)] gX;have h4:=acs h1.ok;simp only[gX,List.length_nil]at h3⊢;omega
 ·rw[LZ h];simp[gX]
theorem rV(T:Tp)(hT:ak T)(most:Int)(hm:1≤most∧most≤24):Contract Tryz.prog 16 [.ptr (.x 0) 0,.d (.int .i64 most)] [aJ T] (aH (bW T most).1) [aJ (bW T most).2] []:=by
 refine aj Tryz.func16 rfl (fun E0=>?_);refine cO.sound (g:=.mk) (ow:=[]) (kp:=(fun k=>k==0||k==1||k==4||k==5||k==6||k==14)) ?_;rw[Tryz.ntmps16];simp -dsimp;refine ah.of (zl T hT most hm) [.x 0] 1000 ?_;have kG:ak (dG T most).2:=by simpa using hT
 have hlen:(dG T most).1.rs.length≤24:=by
  have:=aQ T (a:=1) (b:=most) (by omega);simp[dG,cu];omega
 generalize hG:dG T most=G at kG hlen⊢;simp -dsimp;refine aN.of [] (fun k=>k==0||k==1||k==4||k==5||k==6||k==14) (ι:={z:Nat×Tp×List Rt // z.1≤G.1.rs.length∧ak z.2.1∧z.2.2.length=G.1.rs.length∧iy G.1.rs G.2=(z.2.2.take z.1++(iy (z.2.2.drop z.1) z.2.1).1,(iy (z.2.2.drop z.1) z.2.1).2)})
  (fun z=>[(Pl.s 0,It.v (.ptr (Pl.x 0) 0)),(Pl.s 1,It.v (.d (.int .i64 most))),(Pl.x 0,aJ z.1.2.1),
   (Pl.o 4,It.box [TV.c (Value.slice none 0 0),TV.c (Value.slice none 0 0)]),(Pl.s 4,It.v (.ptr (Pl.o 4) 0)),
   (Pl.o 2000,It.row 117 2 (dd (rts z.1.2.2)) false),(Pl.o 5,It.box [TV.aB 2000 G.1.rs.length,TV.d (.sl (dO G.1.ls))]),(Pl.s 5,It.v (.ptr (Pl.o 5) 0)),
   (Pl.s 6,It.v (.d (.int .i64 z.1.1)))]) (fun z=>G.1.rs.length-z.1.1) ⟨(0,G.2,G.1.rs),by simp,kG,rfl,by simp⟩ ?_ ?_
 ·exact GS.to (by simp)
 ·rintro⟨⟨i,T1,L⟩,i1,i2,i3,i4⟩;simp only at i1 i2 i3 i4;have hrl:(rts L).length=G.1.rs.length:=by simp[rts,i3]
  by_cases hi:i<G.1.rs.length
  ·have hiz:(i:Int)<G.1.rs.length:=by omega
   have hil:i<L.length:=by omega
   have hg:L[i]? = some L[i]:=List.getElem?_eq_getElem hil;have hd:L.drop i=L[i]::L.drop (i+1):=List.drop_eq_getElem_cons _;generalize L[i]=x at hg hd;have hgr:(dd (rts L))[i]? = some [TV.d (.int .i64 x.id),TV.d (.bool x.cap)]:=by simp[dd,rts,hg,Rt.cs]
   simp -dsimp[hiz,i3,hrl];and_intros;all_goals try first|rfl|omega|exact⟨by kernel_rfl⟩
   refine ah.of (gK T1 i2 3 ⟨by omega,by omega⟩ ⟨by omega,by omega⟩) [.x 0] 0 ?_;generalize ho:dD T1 3=o;have ko:ak o.2:=by rw[←ho];simpa using i2
   simp -dsimp[hiz,i3,hrl,hgr,wrap_i64 (n:=(i:Int)+1) (by omega) (by omega)];and_intros;all_goals try first|rfl|omega|exact⟨by kernel_rfl⟩
   have hrow:(dd (rts L)).set i [TV.d (.int .i64 x.id),TV.d (.bool !o.1)]=dd (rts (L.set i ⟨x.id,!o.1⟩)):=by
    simp[dd,rts,List.map_set,Rt.cs]
   refine⟨⟨(i+1,o.2,L.set i ⟨x.id,!o.1⟩),by dsimp only;omega,ko,by simpa using i3,?_⟩,GS.to (by simp[hrow]),by simp;omega⟩;rw[i4,hd,iy];simp only[ho];have e1:(L.set i ⟨x.id,!o.1⟩).take (i+1)=L.take i++[⟨x.id,!o.1⟩]:=by
    rw[List.take_add_one,List.getElem?_set_self hil,List.take_set_of_le (Nat.le_refl _)];rfl
   have e2:(L.set i ⟨x.id,!o.1⟩).drop (i+1)=L.drop (i+1):=List.drop_set_of_lt (by omega);rw[e1,e2];simp
  ·obtain rfl:i=G.1.rs.length:=by omega
   simp -dsimp[hrl];refine Fin.box (.o 4) rfl ?_;simp -dsimp[hrl];refine Fin.of ?_;have e0:L.drop G.1.rs.length = []:=List.drop_eq_nil_of_le (by omega);have e1:L.take G.1.rs.length=L:=List.take_of_length_le (by omega);simp only[e0,e1,iy,List.append_nil]at i4;simp[bW,hG,i4,aH]
theorem uF(T:Tp){most:Int}(hm:1≤most∧most≤24):1≤(dG T most).1.rs.length∧(dG T most).1.rs.length≤24∧(dG T most).1.ls.length≤1000:=by
 have h1:=fO T hm;have h2:=aS T 1 most;have h3:(bW T most).1.rs.length=(dG T most).1.rs.length:=by simp[bW,fQ]
 have h4:(bW T most).1.ls=(dG T most).1.ls:=rfl;refine⟨?_,by omega,by rw[←h4];exact h1.2⟩;simp[dG,cu];omega
theorem vS(T:Tp){most:Int}(hm:1≤most∧most≤24):(bW T most).1.Fit:=by
 have h1:=uF T hm;have h3:(bW T most).1.rs.length=(dG T most).1.rs.length:=by simp[bW,fQ]
 have h4:(bW T most).1.ls=(dG T most).1.ls:=rfl;exact⟨by omega,by omega,by rw[h4];omega⟩
def bD(T:Tp)(most:Int):ay×Pn×List Tb×Tp:=
 ((bW T most).1,(dh (bW T most).2 (bW T most).1.rs 0).1,tabs (bW T most).1 (dh (bW T most).2 (bW T most).1.rs 0).1 (bW T most).1.rs,(dh (bW T most).2 (bW T most).1.rs 0).2)
theorem eF(T:Tp){most:Int}(hm:1≤most∧most≤8):QC most (bD T most).1 (bD T most).2.1 (bD T most).2.2.1:=by
 have h:=uj T hm;have hp:=qE h (by omega) (bW T most).2;exact⟨h,uI hp,hp.len,hp.bF,rfl⟩
theorem wQ(T:Tp){most:Int}(hm:1≤most∧most≤8):ak (bD T most).2.2.2=ak T∧(bD T most).2.1.es.length≤24∧1≤(bD T most).1.rs.length∧(bD T most).1.rs.length≤24∧(bD T most).1.Sm∧(bD T most).2.2.1.length≤24∧DL (bD T most).2.2.1:=by
 have hf:=vS T (most:=most) ⟨hm.1,by omega⟩;have hs:=fO T (most:=most) ⟨hm.1,by omega⟩;have hv:=eF T hm;obtain⟨h1,h2⟩:=fV (bW T most).2 (bW T most).1.rs;have ht:(bD T most).2.2.1.length≤24:=Nat.le_trans (oU _ _) hs.1;exact⟨h1.trans (by simp),Nat.le_trans h2 hs.1,hf.r1,hs.1,hf.sm,ht,⟨by omega,fun b hb=>Bc (by
  rw[hv.tab]at hb
  exact m_ hv.top.ok hv.plan b hb)⟩⟩
theorem CG(T:Tp)(hT:ak T)(most:Int)(hm:1≤most∧most≤8):Contract Tryz.prog 28 [.ptr (.x 0) 0,.d (.int .i64 most)] [aJ T] (.rG [aH (bD T most).1,bI (bD T most).2.1,.aB 6 (bD T most).2.2.1.length]) [aJ (bD T most).2.2.2] [(6,.row 65 4 (dd (oq (bD T most).2.2.1)) false)]:=by
 refine aj Tryz.func28 rfl (fun E0=>?_);refine cO.sound (g:=.mk) (ow:=[]) (kp:=(fun k=>k==0||k==1||k==4||k==5||k==6||k==7||k==8||k==9)) ?_;rw[Tryz.ntmps28];simp -dsimp;refine ah.of (rV T hT most ⟨hm.1,by omega⟩) [.x 0] 0 ?_;have kG:ak (bW T most).2:=by simpa using hT
 have hsm:=fO T (most:=most) ⟨hm.1,by omega⟩;have hD:=eF T hm;have hok:=hD.top.ok;have hpl:=hD.plan;clear hD;unfold bD at hok hpl⊢;simp only at hok hpl⊢;generalize bW T most=G at kG hsm hok hpl⊢;simp -dsimp[aH];and_intros;all_goals try first|rfl|omega|exact⟨by kernel_rfl⟩
 refine ah.of (xu G.2 kG G.1.rs G.1.ls (by omega) 0 (by omega)) [.x 0] 0 ?_;obtain⟨kP,lP⟩:=fV G.2 G.1.rs;have kG:ak (dh G.2 G.1.rs 0).2:=kP.symm▸kG;clear kP;generalize dh G.2 G.1.rs 0=p at kG lP hpl⊢;simp -dsimp[aH,bI];and_intros;all_goals try first|rfl|omega|exact⟨by kernel_rfl⟩
 refine ah.of (yC G.1 ⟨by omega,by omega⟩ hok p.1 hpl (by omega)) [] 0 ?_;generalize tabs G.1 p.1 G.1.rs=l;simp -dsimp[aH,bI];and_intros;all_goals try first|rfl|omega|exact⟨by kernel_rfl⟩
 refine Fin.of ?_;simp[aH,bI]
theorem vN(T:Tp)(hT:ak T)(most:Int)(hm:1≤most∧most≤8):Contract Tryz.prog 28 [.ptr (.x 0) 0,.d (.int .i64 most)] [aJ T] (.rG [aH (bD T most).1,bI (bD T most).2.1,.d (.sl (oq (bD T most).2.2.1))]) [aJ (bD T most).2.2.2] []:=by
 refine aj Tryz.func28 rfl (fun E0=>?_);refine cO.sound (g:=.mk) (ow:=[]) (kp:=(fun k=>k==0||k==1||k==4||k==5||k==6||k==7||k==8||k==9)) ?_;rw[Tryz.ntmps28];simp -dsimp;refine ah.of (rV T hT most ⟨hm.1,by omega⟩) [.x 0] 0 ?_;have kG:ak (bW T most).2:=by simpa using hT
 have hsm:=fO T (most:=most) ⟨hm.1,by omega⟩;have hD:=eF T hm;have hok:=hD.top.ok;have hpl:=hD.plan;clear hD;unfold bD at hok hpl⊢;simp only at hok hpl⊢;generalize bW T most=G at kG hsm hok hpl⊢;simp -dsimp[aH];and_intros;all_goals try first|rfl|omega|exact⟨by kernel_rfl⟩
 refine ah.of (xu G.2 kG G.1.rs G.1.ls (by omega) 0 (by omega)) [.x 0] 0 ?_;obtain⟨kP,lP⟩:=fV G.2 G.1.rs;have kG:ak (dh G.2 G.1.rs 0).2:=kP.symm▸kG;clear kP;generalize dh G.2 G.1.rs 0=p at kG lP hpl⊢;have hall:=FY G.1 ⟨by omega,by omega⟩ p.1 (by omega);rw[EG hok hpl]at hall
 simp only[aH,bI,allT]at hall;rw[show(tabs G.1 p.1 G.1.rs).map Tb.cs=oq (tabs G.1 p.1 G.1.rs) from rfl]at hall
 generalize tabs G.1 p.1 G.1.rs=l at hall⊢;simp -dsimp[aH,bI];and_intros;all_goals try first|rfl|omega|exact⟨by kernel_rfl⟩
 refine ah.of hall [] 0 ?_;simp -dsimp[aH,bI];and_intros;all_goals try first|rfl|omega|exact⟨by kernel_rfl⟩
 refine Fin.of ?_;simp[aH,bI]
theorem FH(t:dQ)(h1:t.dl.length≤100000000)(h2:t.cr.length≤100000000)(h3:t.ls.length≤100000000):Contract Tryz.prog 43 [qG t,qG t] [] (.d (.bool true)) [] []:=by
 refine aj Tryz.func43 rfl (fun E0=>?_);refine cO.sound (g:=.mk) (ow:=[]) (kp:=(fun k=>k==0||k==1||k==2||k==3||k==4||k==5||k==6||k==7||k==32||k==37||k==50||k==55||k==68||k==73||k==86)) ?_;rw[Tryz.ntmps43];simp -dsimp[qG];try refine⟨?_,⟨by kernel_rfl⟩⟩
 refine aN.of [] (fun k=>k==0||k==1||k==2||k==3||k==4||k==5||k==6||k==7||k==32||k==37||k==50||k==55||k==68||k==73||k==86) (ι:={i:Nat // i≤t.dl.length∧True}) (fun z=>[(Pl.o 2,It.box [TV.d (.sl (List.map lT t.dl)),TV.d (.sl (List.map lJ t.cr)),TV.d (.sl (List.map qO t.ls))]),(Pl.s 2,It.v (.ptr (Pl.o 2) 0)),(Pl.o 3,It.box [TV.d (.sl (List.map lT t.dl)),TV.d (.sl (List.map lJ t.cr)),TV.d (.sl (List.map qO t.ls))]),(Pl.s 3,It.v (.ptr (Pl.o 3) 0)),(Pl.s 4,It.v (.d (.bool false))),(Pl.s 5,It.v (.d (.int .i64 z.1)))]) (fun z=>t.dl.length-z.1) ⟨0,by omega,trivial⟩ ?_ ?_
 ·exact GS.to (by simp)
 rintro⟨i,i1,_⟩;by_cases hi:i<t.dl.length
 ·have hiz:(i:Int)<t.dl.length:=by omega
  have hg:t.dl[i]? = some t.dl[i]:=List.getElem?_eq_getElem hi;generalize t.dl[i]=x at hg;simp -dsimp[hg,hiz,lT,Pk.cs,bv,wrap_i64 (n:=(i:Int)+1) (by omega) (by omega)];and_intros;all_goals try first|omega|exact⟨by kernel_rfl⟩
  exact⟨⟨i+1,by omega,trivial⟩,GS.to (by simp[]),by simp;omega⟩
 have hiz :¬(i:Int)<t.dl.length:=by omega
 simp -dsimp[hiz];try refine⟨?_,⟨by kernel_rfl⟩⟩
 clear hi hiz i1
 refine aN.of [] (fun k=>k==0||k==1||k==2||k==3||k==4||k==5||k==6||k==7||k==32||k==37||k==50||k==55||k==68||k==73||k==86) (ι:={i:Nat // i≤t.cr.length∧True}) (fun z=>[(Pl.o 2,It.box [TV.d (.sl (List.map lT t.dl)),TV.d (.sl (List.map lJ t.cr)),TV.d (.sl (List.map qO t.ls))]),(Pl.s 2,It.v (.ptr (Pl.o 2) 0)),(Pl.o 3,It.box [TV.d (.sl (List.map lT t.dl)),TV.d (.sl (List.map lJ t.cr)),TV.d (.sl (List.map qO t.ls))]),(Pl.s 3,It.v (.ptr (Pl.o 3) 0)),(Pl.s 4,It.v (.d (.bool false))),(Pl.s 6,It.v (.d (.int .i64 z.1)))]) (fun z=>t.cr.length-z.1) ⟨0,by omega,trivial⟩ ?_ ?_
 ·exact GS.to (by simp)
 rintro⟨i,i1,_⟩;by_cases hi:i<t.cr.length
 ·have hiz:(i:Int)<t.cr.length:=by omega
  have hg:t.cr[i]? = some t.cr[i]:=List.getElem?_eq_getElem hi;generalize t.cr[i]=x at hg;simp -dsimp[hg,hiz,lJ,Pk.cs,bv,wrap_i64 (n:=(i:Int)+1) (by omega) (by omega)];and_intros;all_goals try first|omega|exact⟨by kernel_rfl⟩
  exact⟨⟨i+1,by omega,trivial⟩,GS.to (by simp[]),by simp;omega⟩
 have hiz :¬(i:Int)<t.cr.length:=by omega
 simp -dsimp[hiz];try refine⟨?_,⟨by kernel_rfl⟩⟩
 clear hi hiz i1
 refine aN.of [] (fun k=>k==0||k==1||k==2||k==3||k==4||k==5||k==6||k==7||k==32||k==37||k==50||k==55||k==68||k==73||k==86) (ι:={i:Nat // i≤t.ls.length∧True}) (fun z=>[(Pl.o 2,It.box [TV.d (.sl (List.map lT t.dl)),TV.d (.sl (List.map lJ t.cr)),TV.d (.sl (List.map qO t.ls))]),(Pl.s 2,It.v (.ptr (Pl.o 2) 0)),(Pl.o 3,It.box [TV.d (.sl (List.map lT t.dl)),TV.d (.sl (List.map lJ t.cr)),TV.d (.sl (List.map qO t.ls))]),(Pl.s 3,It.v (.ptr (Pl.o 3) 0)),(Pl.s 4,It.v (.d (.bool false))),(Pl.s 7,It.v (.d (.int .i64 z.1)))]) (fun z=>t.ls.length-z.1) ⟨0,by omega,trivial⟩ ?_ ?_
 ·exact GS.to (by simp)
 rintro⟨i,i1,_⟩;by_cases hi:i<t.ls.length
 ·have hiz:(i:Int)<t.ls.length:=by omega
  have hg:t.ls[i]? = some t.ls[i]:=List.getElem?_eq_getElem hi;generalize t.ls[i]=x at hg;simp -dsimp[hg,hiz,qO,Pk.cs,bv,wrap_i64 (n:=(i:Int)+1) (by omega) (by omega)];and_intros;all_goals try first|omega|exact⟨by kernel_rfl⟩
  exact⟨⟨i+1,by omega,trivial⟩,GS.to (by simp[]),by simp;omega⟩
 have hiz :¬(i:Int)<t.ls.length:=by omega
 simp -dsimp[hiz];try refine⟨?_,⟨by kernel_rfl⟩⟩
 clear hi hiz i1;refine Fin.of ?_;simp
theorem Qi(t:dQ)(h1:t.dl.length≤100000000)(h3:t.ls.length≤100000000)(B:BitVec 64):Contract Tryz.prog 46 [qG t,.d (bv B)] [] (.d (.bool (EM t B))) [] []:=by
 refine aj Tryz.func46 rfl (fun E0=>?_);refine cO.sound (g:=.mk) (ow:=[]) (kp:=(fun k=>k==0||k==1||k==2||k==4||k==5||k==6||k==7||k==8||k==13||k==31||k==39||k==59)) ?_;rw[Tryz.ntmps46];simp -dsimp[qG];try refine⟨?_,⟨by kernel_rfl⟩⟩
 unfold EM;refine aN.of [] (fun k=>k==0||k==1||k==2||k==4||k==5||k==6||k==7||k==8||k==13||k==31||k==39||k==59) (ι:={z:Nat×BitVec 64 // z.1≤t.dl.length∧Ai (t.dl.map fun d=>d.2.bits) 0#64=Ai ((t.dl.drop z.1).map fun d=>d.2.bits) z.2})
  (fun z=>[(Pl.s 1,It.v (.d (.int .u64 (tn B)))),(Pl.o 2,It.box [TV.d (.sl (List.map lT t.dl)),TV.d (.sl (List.map lJ t.cr)),TV.d (.sl (List.map qO t.ls))]),(Pl.s 2,It.v (.ptr (Pl.o 2) 0)),(Pl.s 4,It.v (.d (.bool false))),(Pl.s 5,It.v (.d (.int IntKind.u64 (tn z.1.2)))),(Pl.s 6,It.v (.d (.int .i64 z.1.1)))])
  (fun z=>t.dl.length-z.1.1) ⟨(0,0#64),by simp,rfl⟩ ?_ ?_
 ·exact GS.to (by simp[bv])
 rintro⟨⟨i,S⟩,i1,i2⟩;simp only at i1 i2;by_cases hi:i<t.dl.length
 ·have hiz:(i:Int)<t.dl.length:=by omega
  have hg:t.dl[i]? = some t.dl[i]:=List.getElem?_eq_getElem hi;have hd:t.dl.drop i=t.dl[i]::t.dl.drop (i+1):=List.drop_eq_getElem_cons hi;generalize t.dl[i]=x at hg hd;rw[hd,List.map_cons,Ai]at i2
  have hc:=Og x.2.bits;simp only[bv]at hc;simp -dsimp[hg,hiz,lT,Pk.cs,bv];and_intros;all_goals try first|omega|exact⟨by kernel_rfl⟩
  refine ah.of hc [] 0 ?_;by_cases c0:pc x.2.bits=1
  ·by_cases c1:S&&&x.2.bits=0#64
   ·rw[if_neg (by simp[c0,c1])]at i2
    simp -dsimp[hg,hiz,lT,Pk.cs,bv,c0,c1,wrap_i64 (n:=(i:Int)+1) (by omega) (by omega)];and_intros;all_goals try first|omega|exact⟨by kernel_rfl⟩
    exact⟨⟨(i+1,S|||x.2.bits),by dsimp only;omega,i2⟩,GS.to (by simp),by simp;omega⟩
   ·rw[if_pos (.inr c1)]at i2
    simp -dsimp[hg,hiz,lT,Pk.cs,bv,c0,c1];and_intros;all_goals try first|omega|exact⟨by kernel_rfl⟩
    refine Fin.of ?_;simp[i2]
  ·have Jr :¬(pc x.2.bits:Int)=1:=by omega
   rw[if_pos (.inl c0)]at i2
   simp -dsimp[hg,hiz,lT,Pk.cs,bv,c0,Jr];and_intros;all_goals try first|omega|exact⟨by kernel_rfl⟩
   refine Fin.of ?_;simp[i2]
 have hiz :¬(i:Int)<t.dl.length:=by omega
 have e0:t.dl.drop i = []:=List.drop_eq_nil_of_le (by omega);rw[e0,List.map_nil,Ai]at i2
 simp -dsimp[hiz];try refine⟨?_,⟨by kernel_rfl⟩⟩
 rw[i2];simp only;clear hi hiz i1 i2 e0;refine aN.of [] (fun k=>k==0||k==1||k==2||k==4||k==5||k==6||k==7||k==8||k==13||k==31||k==39||k==59) (ι:={z:Nat×BitVec 64 // z.1≤t.ls.length∧oN (t.ls.map fun d=>d.2) S=oN ((t.ls.drop z.1).map fun d=>d.2) z.2})
  (fun z=>[(Pl.s 1,It.v (.d (.int .u64 (tn B)))),(Pl.o 2,It.box [TV.d (.sl (List.map lT t.dl)),TV.d (.sl (List.map lJ t.cr)),TV.d (.sl (List.map qO t.ls))]),(Pl.s 2,It.v (.ptr (Pl.o 2) 0)),(Pl.s 4,It.v (.d (.bool false))),(Pl.s 5,It.v (.d (.int IntKind.u64 (tn z.1.2)))),(Pl.s 8,It.v (.d (.int .i64 z.1.1)))])
  (fun z=>t.ls.length-z.1.1) ⟨(0,S),by simp,rfl⟩ ?_ ?_
 ·exact GS.to (by simp)
 rintro⟨⟨i,R⟩,i1,i2⟩;simp only at i1 i2;by_cases hi:i<t.ls.length
 ·have hiz:(i:Int)<t.ls.length:=by omega
  have hg:t.ls[i]? = some t.ls[i]:=List.getElem?_eq_getElem hi;have hd:t.ls.drop i=t.ls[i]::t.ls.drop (i+1):=List.drop_eq_getElem_cons hi;generalize t.ls[i]=x at hg hd;rw[hd,List.map_cons,oN]at i2
  by_cases c0:x.2=0#64
  ·rw[if_pos (.inl c0)]at i2
   simp -dsimp[hg,hiz,qO,bv,c0];and_intros;all_goals try first|omega|exact⟨by kernel_rfl⟩
   refine Fin.of ?_;simp[i2]
  ·by_cases c1:R&&&x.2=0#64
   ·rw[if_neg (by simp[c0,c1])]at i2
    simp -dsimp[hg,hiz,qO,bv,c0,c1,wrap_i64 (n:=(i:Int)+1) (by omega) (by omega)];and_intros;all_goals try first|omega|exact⟨by kernel_rfl⟩
    exact⟨⟨(i+1,R|||x.2),by dsimp only;omega,i2⟩,GS.to (by simp),by simp;omega⟩
   ·rw[if_pos (.inr c1)]at i2
    simp -dsimp[hg,hiz,qO,bv,c0,c1];and_intros;all_goals try first|omega|exact⟨by kernel_rfl⟩
    refine Fin.of ?_;simp[i2]
 have hiz :¬(i:Int)<t.ls.length:=by omega
 have e0:t.ls.drop i = []:=List.drop_eq_nil_of_le (by omega);rw[e0,List.map_nil,oN]at i2
 simp -dsimp[hiz];try refine⟨?_,⟨by kernel_rfl⟩⟩
 rw[i2];refine Fin.of ?_;simp
theorem YN(t:dQ)(h:t.ls.length≤100000000):Contract Tryz.prog 45 [qG t] [] (.d (bv (D7 t.ls))) [] []:=by
 refine aj Tryz.func45 rfl (fun E0=>?_);refine cO.sound (g:=.mk) (ow:=[]) (kp:=(fun k=>k==0||k==1||k==2||k==3||k==4||k==9)) ?_;rw[Tryz.ntmps45];simp -dsimp[qG];and_intros;all_goals try first|rfl|omega|exact⟨by kernel_rfl⟩
 unfold D7;refine aN.of [] (fun k=>k==0||k==1||k==2||k==3||k==4||k==9) (ι:={z:Nat×BitVec 64 // z.1≤t.ls.length∧t.ls.foldl (fun B x=>B|||x.2) 0#64=(t.ls.drop z.1).foldl (fun B x=>B|||x.2) z.2})
  (fun z=>[(Pl.o 1,It.box [TV.d (.sl (List.map lT t.dl)),TV.d (.sl (List.map lJ t.cr)),TV.d (.sl (List.map qO t.ls))]),(Pl.s 1,It.v (.ptr (Pl.o 1) 0)),(Pl.s 3,It.v (.d (.int IntKind.u64 (tn z.1.2)))),(Pl.s 4,It.v (.d (.int .i64 z.1.1)))])
  (fun z=>t.ls.length-z.1.1) ⟨(0,0#64),by simp,by simp⟩ ?_ ?_
 ·exact GS.to (by simp)
 rintro⟨⟨i,S⟩,i1,i2⟩;simp only at i1 i2;by_cases hi:i<t.ls.length
 ·have hiz:(i:Int)<t.ls.length:=by omega
  have hg:t.ls[i]? = some t.ls[i]:=List.getElem?_eq_getElem hi;have hd:t.ls.drop i=t.ls[i]::t.ls.drop (i+1):=List.drop_eq_getElem_cons hi;generalize t.ls[i]=x at hg hd;rw[hd,List.foldl_cons]at i2
  simp -dsimp[hg,hiz,qO,bv,wrap_i64 (n:=(i:Int)+1) (by omega) (by omega)];and_intros;all_goals try first|omega|exact⟨by kernel_rfl⟩
  exact⟨⟨(i+1,S|||x.2),by dsimp only;omega,i2⟩,GS.to (by simp),by simp;omega⟩
 ·have hiz :¬(i:Int)<t.ls.length:=by omega
  rw[List.drop_eq_nil_of_le (show t.ls.length≤i by omega),List.foldl_nil]at i2
  simp -dsimp[hiz];and_intros;all_goals try first|rfl|omega|exact⟨by kernel_rfl⟩
  refine Fin.of ?_;simp[i2,bv]
theorem Jf{p:Pn}{rs:List Int}{l:List Tb}(h:DN p rs l){q:Pk}(hq:zo p q){r:Int}{b:Tb}(hb:bH l r=some b):q.mode≠2∧¬(q.bF≠b.sd∨q.len≠b.len):=by
 have hsd:=h.sd b (eY hb).1;refine⟨by rw[hq.mode];decide,?_⟩;rw[hsd.1,hsd.2,hq.bF,hq.len];simp
theorem Ub{g:ay}(h0:cZ g=0){p:Pn}{rs:List Int}{l:List Tb}(h:DN p rs l){q:Pk}(hq:zo p q)(r:Int):
  mZ g l q r=if aY g.rs r=true∧(bH l r).isSome=true then(runT g l r q,0)else(gX,4):=by
 unfold mZ;rw[if_neg (by simp[h0,h.all,hq.ok])];by_cases hr:aY g.rs r=true
 ·rw[if_neg (by simp[hr])];cases hf:bH l r with
  | none=>simp
  | some b=>
    obtain⟨h1,h2⟩:=Jf h hq hf;simp only;rw[if_neg h1,if_neg h2,if_pos ⟨hr,rfl⟩]
 ·rw[if_pos (by simpa using hr),if_neg (by simp[hr])]
theorem afW{g:ay}(h0:cZ g=0){p:Pn}(hp:d_ p=true){q:Pk}(hq:zo p q){r:Int}(hr:aY g.rs r=true):
  (mZ g (tabs g p g.rs) q r).2=(nK (tabs g p g.rs) q r).2∧(mZ g (tabs g p g.rs) q r).1.dl.length=(nK (tabs g p g.rs) q r).1.dl.length∧
  D7 (mZ g (tabs g p g.rs) q r).1.ls=D7 (nK (tabs g p g.rs) q r).1.ls∧((mZ g (tabs g p g.rs) q r).2=0→EM (mZ g (tabs g p g.rs) q r).1 q.bits=true)∧
  (∀d∈(nK (tabs g p g.rs) q r).1.dl,d∈(mZ g (tabs g p g.rs) q r).1.dl)∧(∀c∈(mZ g (tabs g p g.rs) q r).1.cr,(price g.ls c.1 c.2.1).isSome):=by
 have hT:=Uh h0 hp;rw[Ub h0 hT hq r];by_cases hf:(bH (tabs g p g.rs) r).isSome=true
 ·rw[if_pos ⟨hr,hf⟩,(hT.run hq ((hT.rs r).1 hf)).1];have hI:=w_.first h0 hT.all (hT.fit hq) hr;obtain⟨s1,s2,s3⟩:=VW h0 hp hI hf;exact⟨rfl,s1,s3,fun _=>O3 hI hf,s2,fun c hc=>((zf hI hf).cr c hc).2⟩
 ·rw[if_neg (fun a=>hf a.2),hT.lack hq (fun a=>hf ((hT.rs r).2 a))];exact⟨rfl,rfl,rfl,fun e=>by simp at e,by simp[gX],by simp[gX]⟩
theorem Dn{rs:List Rt}{a:Int}(h1:0≤a)(h2:a<rs.length):aY rs (rs.getD a.toNat ⟨0,false⟩).id=true:=by
 have hl:a.toNat<rs.length:=by omega
 have e:rs.getD a.toNat ⟨0,false⟩ = rs[a.toNat]:=by simp[hl]
 rw[e];exact dH.2 (List.mem_map_of_mem (List.getElem_mem hl))
end Go.Proofs
