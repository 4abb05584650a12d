/-
  What functions of the program compute, stated as contracts over plain data; the conditions of each stand in its own statement.
-/
import Derived.Test.YtkikielfhjoogaaGreatDoorZA23
set_option linter.unusedSimpArgs false
set_option linter.unusedVariables false
namespace Go.Proofs
structure Fits(b:Tb)(p:Pk):Prop where
 ck:chk b=0
 sd:b.sd=p.jd
 len:b.len=p.len
 ok:p.ok=true
 mode:p.mode≠2
theorem Fits.bit{b:Tb}{p:Pk}(h:Fits b p){k:Nat}(hk:k<64)(hb:p.bits.getLsbD k=true):(k:Int)<p.len:=(MX h.ok).2 k hk hb
theorem wK{b:Tb}{p:Pk}(hc:chk b=0)(k:Nat):dL b p k=xP b (wL p k) (pV p):=alD hc p _
theorem wJ{b:Tb}{p:Pk}(hc:chk b=0){k:Nat}(h0:dL b p k≠0):Y2 p.set k p.len=true∧1≤dL b p k∧dL b p k≤99:=by
 rw[wK hc]at h0⊢
 refine⟨Classical.byContradiction fun g=>h0 (by rw[wL,if_neg g];grind[XE]),SX hc h0⟩
theorem C9{b:Tb}{p:Pk}(h:Fits b p){k:Nat}(hk:k<64)(hb:p.bits.getLsbD k=true){n:Int}(hn:1≤n∧n≤99):(Bz b (pV p) p.set n).getLsbD k=true↔dL b p k=n:=by
 have hl:=(MX h.ok).1;have hlen:b.len≤64:=by rw[h.len];grind[eP]
 have hkl:=h.bit hk hb;rw[ajv h.ck h.ok hn,DU b _ _ _ hk _ (by omega),h.len];constructor
 ·rintro⟨h1,h2,h3,h4⟩;rw[wK h.ck,wL,if_pos h2];omega
 ·intro e;have h2:=wJ h.ck (k:=k) (p:=p) (by omega);rw[wK h.ck,wL,if_pos h2.1]at e
  grind
noncomputable def DX(b:Tb)(p:Pk)(h:Int):Pk:=lX p (Bz b (pV p) p.set h)
theorem yR{b:Tb}{p:Pk}(h:Fits b p){k:Nat}(hk:k<64){n:Int}(hn:1≤n∧n≤99):(DX b p n).bits.getLsbD k=true↔p.bits.getLsbD k=true∧dL b p k=n:=by
 simp only[DX,lX,dG,aG]
 grind[C9]
theorem MS{p:Pk}(h:p.ok=true)(ht:p.ttl≠0)(m:BitVec 64):(lX p m).ok=true:=by
 simp only[lX]at *;simp only[Pk.ok,aG,wz,decide_eq_true_eq,zh]at h⊢
 grind
theorem Fits.mask{b c:Tb}{p:Pk}(h:Fits b p)(hc:Fits c p)(ht:p.ttl≠0)(m:BitVec 64):Fits c (lX p m):=
 ⟨hc.ck,hc.sd,hc.len,MS h.ok ht m,h.mode⟩
theorem J9{p:Pk}(h:p.ok=true)(ht:p.ttl≠0)(m:BitVec 64):pV (lX p m)=pV p:=by simp only[pV,MS h ht m,h,if_true];rfl
theorem or_bit(R M:BitVec 64){k:Nat}:(R|||M).getLsbD k=true↔R.getLsbD k=true∨M.getLsbD k=true:=by simp
theorem Vs{j k:Nat}(hj:j<64)(hk:k<64):(1#64<<<j).getLsbD k=true↔k=j:=by grind
def Whole(b:Tb)(p:Pk)(R:BitVec 64):Prop:=(∀k<64,R.getLsbD k=true→p.bits.getLsbD k=true)∧
 ∀j k,j<64→k<64→p.bits.getLsbD j=true→dL b p j=dL b p k→dL b p k≠0→dL b p k≠b.r→R.getLsbD k=true→R.getLsbD j=true
structure ac0(b:Tb)(p:Pk)(o o':Out)(R:BitVec 64):Prop where
 loc:∀k<64,o'.loc.getLsbD k=true↔o.loc.getLsbD k=true∨(R.getLsbD k=true∧dL b p k≠0∧dL b p k=b.r)
 lost:∀k<64,o'.lost.getLsbD k=true↔o.lost.getLsbD k=true∨(R.getLsbD k=true∧(dL b p k=0∨(dL b p k≠b.r∧p.ttl=0)))
 uJ:∃H:List Int,o'.uJ=o.uJ++H.map (fun h=>(h,DX b p h))∧H.Nodup∧∀h,h∈H↔p.ttl≠0∧h≠0∧h≠b.r∧∃k<64,R.getLsbD k=true∧dL b p k=h
theorem ac0.nil{b:Tb}{p:Pk}(o:Out):ac0 b p o o 0#64:=⟨by simp,by simp,[],by simp,by simp,by simp⟩
theorem zO{b:Tb}{p:Pk}(h:Fits b p):∀(n:Nat) (o:Out) (R:BitVec 64),(pX R).length≤n→Whole b p R→ac0 b p o (H9 b p n o R) R
 | 0,o,R,hn,_=>by obtain rfl:=Yn (R:=R) (by omega);exact .nil o
 | n+1,o,R,hn,hW=>by
   rw[H9];by_cases h0:R=0#64
   ·subst h0;rw[if_pos rfl];exact .nil o
   rw[if_neg h0];obtain⟨t1,t2,t3⟩:=xU h0;have hmb:=Xr h.ck h.ok h.len hW.1 h0;have hpop:=Ym t1 t2 hmb;have hpz:=hW.1 _ t1 t2;generalize hj:tz R=j at t1 t2 t3 hmb hpop hpz;by_cases c0:dL b p j=0
   ·have eM:xO b p R=1#64<<<j:=by rw[xO,hj,if_pos (.inl c0)]
    have eO:vP b p o R=⟨o.loc,o.lost|||1#64<<<j,o.uJ⟩:=by rw[vP,hj,if_pos c0]
    rw[eM]at hpop
    rw[eM,eO];have hb:∀k<64,(R &&& ~~~ (1#64<<<j)).getLsbD k=true↔R.getLsbD k=true∧k≠j:=fun k hk=>by grind
    have ih:=zO h n ⟨o.loc,o.lost|||1#64<<<j,o.uJ⟩ (R &&& ~~~ (1#64<<<j)) (by omega)
     ⟨fun k hk hb'=>hW.1 k hk ((hb k hk).1 hb').1,fun i k hi hk hpi e e0 er hr=>(hb i hi).2 ⟨hW.2 i k hi hk hpi e e0 er ((hb k hk).1 hr).1,fun e'=>by simp_all⟩⟩
    refine⟨fun k hk=>?_,fun k hk=>?_,?_⟩
    ·rw[ih.loc k hk,hb k hk]
     grind
    ·rw[ih.lost k hk,hb k hk,or_bit,Vs t1 hk]
     grind
    ·obtain⟨H,h1,h2,h3⟩:=ih.uJ
     grind
   by_cases c1:dL b p j=b.r
   ·have eM:xO b p R=1#64<<<j:=by rw[xO,hj,if_pos (.inr c1)]
    have eO:vP b p o R=⟨o.loc|||1#64<<<j,o.lost,o.uJ⟩:=by rw[vP,hj,if_neg c0,if_pos c1]
    rw[eM]at hpop
    rw[eM,eO];have hb:∀k<64,(R &&& ~~~ (1#64<<<j)).getLsbD k=true↔R.getLsbD k=true∧k≠j:=fun k hk=>by grind
    have ih:=zO h n ⟨o.loc|||1#64<<<j,o.lost,o.uJ⟩ (R &&& ~~~ (1#64<<<j)) (by omega)
     ⟨fun k hk hb'=>hW.1 k hk ((hb k hk).1 hb').1,fun i k hi hk hpi e e0 er hr=>(hb i hi).2 ⟨hW.2 i k hi hk hpi e e0 er ((hb k hk).1 hr).1,fun e'=>by simp_all⟩⟩
    refine⟨fun k hk=>?_,fun k hk=>?_,?_⟩
    ·rw[ih.loc k hk,hb k hk,or_bit,Vs t1 hk]
     grind
    ·rw[ih.lost k hk,hb k hk]
     grind
    ·obtain⟨H,h1,h2,h3⟩:=ih.uJ
     grind
   have hr:=(wJ h.ck c0).2;have eM:xO b p R=vk b p R (dL b p j):=by rw[xO,hj,if_neg (fun h=>h.elim c0 c1)]
   rw[eM]at hpop⊢
   have alG:∀k<64,(vk b p R (dL b p j)).getLsbD k=true↔R.getLsbD k=true∧dL b p k=dL b p j:=fun k hk=>by
    rw[vk,dG,aG];constructor
    ·rintro⟨a1,a2⟩;exact⟨a1,(C9 h hk (hW.1 k hk a1) hr).1 a2⟩
    ·rintro⟨a1,a2⟩;exact⟨a1,(C9 h hk (hW.1 k hk a1) hr).2 a2⟩
   have hb:∀k<64,(R &&& ~~~ vk b p R (dL b p j)).getLsbD k=true↔R.getLsbD k=true∧dL b p k≠dL b p j:=fun k hk=>by grind
   have hW':Whole b p (R &&& ~~~ vk b p R (dL b p j)):=⟨fun k hk hb'=>hW.1 k hk ((hb k hk).1 hb').1,fun i k hi hk hpi e e0 er hr=>(hb i hi).2 ⟨hW.2 i k hi hk hpi e e0 er ((hb k hk).1 hr).1,by grind⟩⟩
   have an_:(p.setB R).bits&&&vk b p R (dL b p j)=p.bits&&&Bz b (pV p) p.set (dL b p j):=by
    apply fE;intro k hk
    show(R&&&vk b p R (dL b p j)).getLsbD k=_
    rw[iE,dG,aG,alG k hk,dG,aG];constructor
    ·rintro⟨_,a1,a2⟩;have:=hW.1 k hk a1;exact⟨this,(C9 h hk this hr).2 a2⟩
    ·rintro⟨a1,a2⟩;have e:=(C9 h hk a1 hr).1 a2;have:=hW.2 k j hk t1 a1 e c0 c1 t2;exact⟨this,this,e⟩
   have hnz:(p.setB R).bits&&&vk b p R (dL b p j)≠0#64:=fun e=>by
    have:=congrArg (fun z=>z.getLsbD j) e;simp only[gQ]at this
    change (R&&&vk b p R (dL b p j)).getLsbD j=false at this
    rw[dG,t2,(alG j t1).2 ⟨t2,rfl⟩]at this
    simp at this
   have hok:=ajK h.ok hW.1;by_cases ht:p.ttl=0
   ·have eC:(zX (p.setB R) (vk b p R (dL b p j))).2=false:=by
     rw[zX,if_neg (fun a=>a.2.1 ht)]
    have eO:vP b p o R=⟨o.loc,o.lost|||vk b p R (dL b p j),o.uJ⟩:=by rw[vP,hj,if_neg c0,if_neg c1,if_neg (by rw[eC];simp)]
    rw[eO];have ih:=zO h n ⟨o.loc,o.lost|||vk b p R (dL b p j),o.uJ⟩ _ (by omega) hW';refine⟨fun k hk=>?_,fun k hk=>?_,?_⟩
    ·rw[ih.loc k hk,hb k hk];constructor
     ·rintro (a|⟨⟨a1,a2⟩,a3⟩)
      ·exact .inl a
      ·exact .inr ⟨a1,a3⟩
     ·rintro (a|⟨a1,a3⟩)
      ·exact .inl a
      ·exact .inr ⟨⟨a1,fun e=>c1 (by rw[←e];exact a3.2)⟩,a3⟩
    ·rw[ih.lost k hk,hb k hk,or_bit,alG k hk];constructor
     ·rintro ((a|⟨a1,a2⟩)|⟨⟨a1,a2⟩,a3⟩)
      ·exact .inl a
      ·exact .inr ⟨a1,.inr ⟨by rw[a2];exact c1,ht⟩⟩
      ·exact .inr ⟨a1,a3⟩
     ·rintro (a|⟨a1,a3⟩)
      ·exact .inl (.inl a)
      ·by_cases e:dL b p k=dL b p j
       ·exact .inl (.inr ⟨a1,e⟩)
       ·exact .inr ⟨⟨a1,e⟩,a3⟩
    ·obtain⟨H,h1,h2,h3⟩:=ih.uJ;refine⟨H,h1,h2,fun x=>?_⟩;rw[h3];exact⟨fun a=>absurd ht a.1,fun a=>absurd ht a.1⟩
   ·have eC:zX (p.setB R) (vk b p R (dL b p j))=(DX b p (dL b p j),true):=by
     rw[zX,if_pos ⟨hok,ht,hnz⟩,lX,an_];rfl
    have eO:vP b p o R=⟨o.loc,o.lost,o.uJ++[(dL b p j,DX b p (dL b p j))]⟩:=by rw[vP,hj,if_neg c0,if_neg c1,eC];rfl
    rw[eO];have ih:=zO h n ⟨o.loc,o.lost,o.uJ++[(dL b p j,DX b p (dL b p j))]⟩ _ (by omega) hW';refine⟨fun k hk=>?_,fun k hk=>?_,?_⟩
    ·rw[ih.loc k hk,hb k hk];constructor
     ·rintro (a|⟨⟨a1,a2⟩,a3⟩)
      ·exact .inl a
      ·exact .inr ⟨a1,a3⟩
     ·rintro (a|⟨a1,a3⟩)
      ·exact .inl a
      ·exact .inr ⟨⟨a1,fun e=>c1 (by rw[←e];exact a3.2)⟩,a3⟩
    ·rw[ih.lost k hk,hb k hk];constructor
     ·rintro (a|⟨⟨a1,a2⟩,a3⟩)
      ·exact .inl a
      ·exact .inr ⟨a1,a3⟩
     ·rintro (a|⟨a1,a3⟩)
      ·exact .inl a
      ·refine .inr ⟨⟨a1,fun e=>?_⟩,a3⟩;rcases a3 with a3|a3
       ·exact c0 (by rw[←e];exact a3)
       ·exact ht a3.2
    ·obtain⟨H,h1,h2,h3⟩:=ih.uJ;refine⟨dL b p j::H,by rw[h1];simp,bG.2 ⟨fun hm=>?_,h2⟩,fun x=>?_⟩
     ·obtain⟨_,_,_,k,hk,a4,a5⟩:=(h3 _).1 hm;exact((hb k hk).1 a4).2 a5
     ·rw[aF,h3];constructor
      ·rintro (rfl|⟨a1,a2,a3,k,hk,a4,a5⟩)
       ·exact⟨ht,c0,c1,j,t1,t2,rfl⟩
       ·exact⟨a1,a2,a3,k,hk,((hb k hk).1 a4).1,a5⟩
      ·rintro⟨a1,a2,a3,k,hk,a4,a5⟩;by_cases e:x=dL b p j
       ·exact .inl e
       ·exact .inr ⟨a1,a2,a3,k,hk,(hb k hk).2 ⟨a4,fun e'=>e (by rw[←a5,e'])⟩,a5⟩
theorem zQ{b:Tb}{p:Pk}(h:Fits b p):vS b p=(vG b p,0)∧ac0 b p wU (vG b p) p.bits:=by refine⟨?_,zO h 64 wU p.bits (DT _) ⟨fun _ _ h=>h,fun j k _ _ h _ _ _ _=>h⟩⟩;rw[vS,if_neg (by simp[h.ck,h.ok]),if_neg h.mode,if_neg (by simp[h.sd,h.len])]
def sG.at(t:sG)(k:Nat):sG:=⟨t.dl.filter fun d=>d.2.bits.getLsbD k,t.cr.filter fun c=>c.2.2.getLsbD k,t.ls.filter fun x=>x.2.getLsbD k⟩
def sG.app(t u:sG):sG:=⟨t.dl++u.dl,t.cr++u.cr,t.ls++u.ls⟩
theorem sG.UD(t:sG):t.app qV=t:=by simp[sG.app,qV]
theorem sG.ac_(t u v:sG):(t.app u).app v=t.app (u.app v):=by simp[sG.app]
structure wE(l:List Tb)(p:Pk):Prop where
 ok:p.ok=true
 all:∀b∈l,Fits b p
theorem wE.mask{l:List Tb}{p:Pk}(h:wE l p)(ht:p.ttl≠0)(m:BitVec 64):wE l (lX p m):=⟨MS h.ok ht m,fun b hb=>(h.all b hb).mask (h.all b hb) ht m⟩
noncomputable def way(l:List Tb)(k:Nat):Nat→Int×Pk→sG
 | 0,_=>qV
 | n+1,q=>match lZ l q.1 with
   | none=>⟨[],[],[(q.1,q.2.bits)]⟩
   | some b=>if dL b q.2 k=0 then ⟨[],[],[(q.1,(vG b q.2).lost)]⟩
     else if dL b q.2 k=b.r then ⟨[(q.1,rY q.2 k)],[],[]⟩
     else if q.2.ttl=0 then ⟨[],[],[(q.1,(vG b q.2).lost)]⟩
     else(⟨[],[(q.1,dL b q.2 k,(DX b q.2 (dL b q.2 k)).bits)],[]⟩:sG).app (way l k n (dL b q.2 k,DX b q.2 (dL b q.2 k)))
noncomputable def Qz(l:List Tb)(k:Nat):List (Int×Pk)→sG
 | []=>qV
 | q::_=>way l k (q.2.ttl.toNat+1) q
theorem Hw{α:Type}[DecidableEq α]{l:List α}(h:l.Nodup)(a:α):l.filter (fun x=>decide (x=a))=if a∈l then [a]else []:=by
 induction l with
 | nil=>simp
 | cons x l ih=>grind
theorem WH(B:BitVec 64):(pX B).Nodup:=List.nodup_range.sublist lI
theorem Eh{B:BitVec 64}{k:Nat}:k∈pX B↔k<64∧B.getLsbD k=true:=by simp[pX]
theorem Py{p:Pk}(h:p.ok=true){j:Nat}(hj:j<64)(hb:p.bits.getLsbD j=true):rY p j=⟨p.mode,p.jd,p.set,p.len,p.ttl,p.ent,p.ing,p.proto,1#64<<<j,p.pay⟩:=by rw[rY,if_pos ⟨h,by omega,by omega,by trivial⟩];simp
theorem ajr{p:Pk}(h:p.ok=true){o:Out}(ho:∀k<64,o.loc.getLsbD k=true→p.bits.getLsbD k=true)(r:Int){k:Nat}(hk:k<64):
  (O1 r o p).filter (fun d=>d.2.bits.getLsbD k)=if o.loc.getLsbD k=true then [(r,rY p k)]else []:=by
 have e:(O1 r o p).filter (fun d=>d.2.bits.getLsbD k)=((pX o.loc).filter fun j=>decide (j=k)).map fun (j:Nat)=>(r,rY p j):=by
  unfold O1 xX;rw[aY,List.filter_map]
  congr 1
  apply iy;intro j hj;obtain⟨h1,h2⟩:=Eh.1 hj;have:=Py h h1 (ho j h1 h2)
  grind
 rw[e,Hw (WH _)];by_cases hl:o.loc.getLsbD k=true
 ·rw[if_pos (Eh.2 ⟨hk,hl⟩),if_pos hl];rfl
 ·rw[if_neg (fun a=>hl (Eh.1 a).2),if_neg hl];rfl
theorem ac0.hop{b:Tb}{p:Pk}(h:Fits b p){o:Out}(hF:ac0 b p wU o p.bits){k:Nat}(hk:k<64):
  o.uJ.filter (fun c=>c.2.bits.getLsbD k)=if p.bits.getLsbD k=true∧p.ttl≠0∧dL b p k≠0∧dL b p k≠b.r then [(dL b p k,DX b p (dL b p k))]else []:=by
 obtain⟨H,h1,h2,h3⟩:=hF.uJ;rw[h1];simp only[wU,dJ];rw[List.filter_map];by_cases hb:p.bits.getLsbD k=true
 ·have e:H.filter ((fun c:Int×Pk=>c.2.bits.getLsbD k)∘fun x=>(x,DX b p x))=H.filter fun x=>decide (x=dL b p k):=by
   apply iy;intro x hx;obtain⟨_,a1,a2,j,hj,a3,a4⟩:=(h3 x).1 hx;have hr:=(wJ h.ck (k:=j) (p:=p) (by omega)).2;rw[a4]at hr
   show(DX b p x).bits.getLsbD k=_
   rw[iE,yR h hk hr]
   grind
  rw[e,Hw h2]
  grind
 ·rw[if_neg (fun a=>hb a.1)];simp only[List.map_eq_nil_iff,fJ];intro x hx hc;obtain⟨_,a1,a2,j,hj,a3,a4⟩:=(h3 x).1 hx;have hr:=(wJ h.ck (k:=j) (p:=p) (by rw[a4];exact a1)).2
  grind[yR]
theorem ajt(l:List (Int×BitVec 64))(r:Int)(B:BitVec 64)(k:Nat):
  (if B=0#64 then l else l++[(r,B)]).filter (fun x=>x.2.getLsbD k)=l.filter (fun x=>x.2.getLsbD k)++if B.getLsbD k=true then [(r,B)]else []:=by
 grind
theorem step_some{l:List Tb}{q:Int×Pk}{b:Tb}(hF:wE l q.2)(hf:lZ l q.1=some b)(t:sG){k:Nat}(hk:k<64):
  (stepT l q t).at k=(t.at k).app ⟨if(vG b q.2).loc.getLsbD k=true then [(q.1,rY q.2 k)]else [],((nextQ l q).filter fun c=>c.2.bits.getLsbD k).map (fun c=>(q.1,c.1,c.2.bits)),if(vG b q.2).lost.getLsbD k=true then [(q.1,(vG b q.2).lost)]else []⟩:=by
 have hb:=hF.all b (mO hf).1;obtain⟨h1,h2⟩:=zQ hb;have hn:nextQ l q=(vG b q.2).uJ:=by grind[nextQ]
 rw[hn];simp only[stepT,hf,h1,sG.at,sG.app,fP];rw[ajr hF.ok (fun k hk a=>by
  rcases (h2.loc k hk).1 a with a|a
  ·grind[wU]
  simp[*]) q.1 hk,ajt,List.filter_map]
 rfl
theorem akf{l:List Tb}{q:Int×Pk}(hF:wE l q.2)(t:sG){k:Nat}(hk:k<64)(hq:q.2.bits.getLsbD k=true):
  ((nextQ l q).filter fun c=>c.2.bits.getLsbD k).length≤1∧((stepT l q t).at k).app (Qz l k ((nextQ l q).filter fun c=>c.2.bits.getLsbD k))=(t.at k).app (way l k (q.2.ttl.toNat+1) q):=by
 cases hf:lZ l q.1 with
 | none=>
   have hn:nextQ l q = []:=by grind[nextQ]
   grind[stepT,way,sG.at,sG.app,Qz,qV]
 | some b=>
   have hb:=hF.all b (mO hf).1;obtain⟨h1,h2⟩:=zQ hb;have hn:nextQ l q=(vG b q.2).uJ:=by grind[nextQ]
   rw[step_some hF hf t hk,hn,h2.hop hb hk,sG.ac_];have hl:=h2.loc k hk;have hs:=h2.lost k hk;simp only[wU,gQ,eu,false_or,hq,true_and]at hl hs;by_cases c0:dL b q.2 k=0
   ·have l1 :¬(vG b q.2).loc.getLsbD k=true:=fun a=>(hl.1 a).1 c0
    have l2:(vG b q.2).lost.getLsbD k=true:=hs.2 (.inl c0);rw[if_neg l1,if_neg (fun a=>a.2.2.1 c0),if_pos l2]
    grind[way,Qz,sG.app,qV]
   by_cases c1:dL b q.2 k=b.r
   ·have l1:(vG b q.2).loc.getLsbD k=true:=hl.2 ⟨c0,c1⟩;have l2 :¬(vG b q.2).lost.getLsbD k=true:=fun a=>by
     rcases hs.1 a with a|a
     ·exact c0 a
     ·exact a.1 c1
    rw[if_pos l1,if_neg (fun a=>a.2.2.2 c1),if_neg l2];refine⟨by simp,?_⟩;simp only[way,hf,if_neg c0,if_pos c1];simp[Qz,sG.app,qV]
   have l1 :¬(vG b q.2).loc.getLsbD k=true:=fun a=>c1 (hl.1 a).2
   by_cases c2:q.2.ttl=0
   ·have l2:(vG b q.2).lost.getLsbD k=true:=hs.2 (.inr ⟨c1,c2⟩);rw[if_neg l1,if_neg (fun a=>a.2.1 c2),if_pos l2];refine⟨by simp,?_⟩;simp only[way,hf,if_neg c0,if_neg c1,if_pos c2];simp[Qz,sG.app,qV]
   ·have l2 :¬(vG b q.2).lost.getLsbD k=true:=fun a=>by
     rcases hs.1 a with a|a
     ·exact c0 a
     ·exact c2 a.2
    rw[if_neg l1,if_pos ⟨hq,c2,c0,c1⟩,if_neg l2];refine⟨by simp,?_⟩;have ht:=AP hF.ok;have e:(DX b q.2 (dL b q.2 k)).ttl.toNat+1=q.2.ttl.toNat:=by simp only[DX,lX];omega
    rw[way];simp only[hf,if_neg c0,if_neg c1,if_neg c2,Qz,e,aC,dQ]
theorem aie{l:List Tb}{q:Int×Pk}(hF:wE l q.2)(t:sG){k:Nat}(hk:k<64)(hq :¬q.2.bits.getLsbD k=true):
  ((nextQ l q).filter fun c=>c.2.bits.getLsbD k) = []∧(stepT l q t).at k=t.at k:=by
 cases hf:lZ l q.1 with
 | none=>grind[nextQ,stepT,sG.at]
 | some b=>
   have hb:=hF.all b (mO hf).1;obtain⟨h1,h2⟩:=zQ hb;have hn:nextQ l q=(vG b q.2).uJ:=by grind[nextQ,vG]
   have hl:=h2.loc k hk;have hs:=h2.lost k hk;simp only[wU,gQ,eu,false_or,hq,false_and,iff_false]at hl hs;rw[step_some hF hf t hk,hn,h2.hop hb hk,if_neg (fun a=>hq a.1),if_neg hl,if_neg hs];exact⟨rfl,sG.UD _⟩
theorem Yd{l:List Tb}{q:Int×Pk}(hF:wE l q.2):∀c∈nextQ l q,wE l c.2:=fun c hc=>by
 cases hf:lZ l q.1 with
 | none=>grind[nextQ]
 | some b=>
   have hb:=hF.all b (mO hf).1;obtain⟨h1,h2⟩:=zQ hb;have hn:nextQ l q=(vG b q.2).uJ:=by grind[nextQ,vG]
   obtain⟨H,h3,h4,h5⟩:=h2.uJ;rw[hn,h3]at hc
   simp only[wU,dJ,ak]at hc;obtain⟨x,hx,rfl⟩:=hc;exact hF.mask ((h5 x).1 hx).1 _
theorem Nj(l:List Tb){k:Nat}(hk:k<64):∀(n:Nat) (Q:List (Int×Pk)) (t:sG),yN Q≤n→(∀q∈Q,wE l q.2)→(Q.filter fun c=>c.2.bits.getLsbD k).length≤1→
  (sD l n Q t).at k=(t.at k).app (Qz l k (Q.filter fun c=>c.2.bits.getLsbD k))
 | 0,Q,t,h,_,_=>by have:=Ih Q;obtain rfl:Q = []:=dS.1 (by omega);simp[Qm,Qz,sG.UD]
 | n+1,[],t,_,_,_=>by simp[Qm,Qz,sG.UD]
 | n+1,q::Q,t,h,hF,h1=>by
   have hq:=Pj l q;rw[Ai]at h
   have hFq:=hF q (by simp);have hF':∀c∈Q++nextQ l q,wE l c.2:=fun c hc=>by grind[Yd]
   rw[sD];have hw:yN (Q++nextQ l q)≤n:=by grind[Dz]
   by_cases hb:q.2.bits.getLsbD k=true
   ·rw[dI,if_pos hb]at h1⊢
    simp only[aH]at h1;have hQ:Q.filter (fun c=>c.2.bits.getLsbD k) = []:=dS.1 (by omega);obtain⟨a1,a2⟩:=akf hFq t hk hb;rw[Nj l hk n _ _ hw hF' (by rw[fP,hQ];simpa using a1),fP,hQ,dJ,a2];rfl
   ·rw[dI,if_neg hb]at h1⊢
    obtain⟨a1,a2⟩:=aie hFq t hk hb;rw[Nj l hk n _ _ hw hF' (by rw[fP,a1,bQ];exact h1),fP,a1,bQ,a2]
theorem aaZ{l:List Tb}{p:Pk}(hF:wE l p)(r:Int){k:Nat}(hk:k<64)(hb:p.bits.getLsbD k=true):(sD l (wt p) [(r,p)] qV).at k=way l k (p.ttl.toNat+1) (r,p):=by rw[Nj l hk _ _ _ (by simp[yN]) (by simp[*]) (by simp[*])];simp[dI,hb,Qz,sG.at,qV,sG.app]
theorem VL{l:List Tb}{p:Pk}(hF:wE l p)(r:Int){k:Nat}(hk:k<64)(hb :¬p.bits.getLsbD k=true):(sD l (wt p) [(r,p)] qV).at k=qV:=by grind[Nj,yN,Qz,sG.at,qV,sG.app]
inductive Dl (l:List Tb) (id pl:Int):Int→List Int→Prop
 | here {r:Int} {b:Tb}:lZ l r=some b→xP b id pl=r→r≠0→Dl l id pl r []
 | next {r h:Int} {b:Tb} {ws:List Int}:lZ l r=some b→xP b id pl=h→h≠0→h≠r→Dl l id pl h ws→Dl l id pl r (h::ws)
theorem Dl.det{l:List Tb}{id pl r:Int}{ws:List Int}(h:Dl l id pl r ws):∀{us:List Int},Dl l id pl r us→ws=us:=by
 induction h with
 | here h1 h2 h3=>
   intro us g;cases g with
   | here=>rfl
   | next g1 g2 g3 g4 _=>simp_all
 | next h1 h2 h3 h4 _ ih=>
   intro us g;cases g with
   | here g1 g2 g3=>simp_all
   | next g1 g2 g3 g4 g5=>grind
def zT(r:Int):List Int→Int
 | []=>r
 | h::ws=>zT h ws
def edges(r:Int):List Int→List (Int×Int)
 | []=>[]
 | h::ws=>(r,h)::edges h ws
theorem adt(r:Int)(ws:List Int):(edges r ws).length=ws.length:=by
 induction ws generalizing r with
 | nil=>rfl
 | cons h ws ih=>grind[edges]
theorem Dl.rest{l:List Tb}{id pl r:Int}{ws:List Int}(h:Dl l id pl r ws):∀{x:Int},x∈ws→∃us,Dl l id pl x us∧us.length<ws.length:=by
 induction h with
 | here=>simp
 | next h1 h2 h3 h4 h5 ih=>grind
theorem Dl.nodup{l:List Tb}{id pl r:Int}{ws:List Int}(h:Dl l id pl r ws):(r::ws).Nodup:=by
 induction h with
 | here=>simp
 | @next r h b ws h1 h2 h3 h4 h5 ih=>
   refine bG.2 ⟨fun hm=>?_,ih⟩;have hD:=Dl.next h1 h2 h3 h4 h5;obtain⟨us,g1,g2⟩:=hD.rest hm;have:=hD.det g1
   simp_all
theorem Dl.found{l:List Tb}{id pl r:Int}{ws:List Int}(h:Dl l id pl r ws):∀x∈r::ws,(lZ l x).isSome:=by
 induction h with
 | here h1=>simp[*]
 | next h1 _ _ _ _ ih=>simp_all
theorem Dl.len{l:List Tb}{id pl r:Int}{ws:List Int}(h:Dl l id pl r ws):ws.length+1≤l.length:=by have:=al4 h.nodup h.found;omega
def pkD(p:Pk)(k:Nat)(s:Int):Pk:=⟨p.mode,p.jd,p.set,p.len,p.ttl-s,p.ent,p.ing,p.proto,1#64<<<k,p.pay⟩
theorem aht(p:Pk)(m:BitVec 64)(k:Nat)(s:Int):pkD (lX p m) k s=pkD p k (s+1):=by grind[pkD,lX]
theorem S9(p:Pk)(m:BitVec 64)(k:Nat):wL (lX p m) k=wL p k:=rfl
structure am5(l:List Tb)(k:Nat)(p:Pk)(r:Int)(ws:List Int)(t:sG):Prop where
 dl:t.dl = [(zT r ws,pkD p k ws.length)]
 cr:t.cr.map (fun c=>(c.1,c.2.1))=edges r ws
 ls:t.ls = []
theorem acV{l:List Tb}{k:Nat}(hk:k<64){id pl:Int}:∀(n:Nat) {p:Pk} {r:Int} {ws:List Int},p.ttl.toNat+1≤n→wE l p→p.bits.getLsbD k=true→wL p k=id→pV p=pl→Dl l id pl r ws→(ws.length:Int)≤p.ttl→am5 l k p r ws (way l k n (r,p))
 | 0,p,r,ws,hn,_,_,_,_,_,_=>by omega
 | n+1,p,r,ws,hn,hF,hb,hid,hpl,hD,hlen=>by
   have ht:=AP hF.ok;cases hD with
   | @here _ b h1 h2 h3=>
     have hbr:=(mO h1).2;have hB:=hF.all b (mO h1).1;have e:dL b p k=r:=by rw[wK hB.ck,hid,hpl];omega
     rw[way];simp only[h1,e];rw[if_neg h3,if_pos hbr.symm];refine⟨?_,rfl,rfl⟩;simp only[zT];rw[Py hF.ok hk hb];simp[pkD]
   | @next _ h b ws h1 h2 h3 h4 h5=>
     have hbr:=(mO h1).2;have hB:=hF.all b (mO h1).1;have e:dL b p k=h:=by rw[wK hB.ck,hid,hpl];omega
     simp only[aH]at hlen;have ht0:p.ttl≠0:=by omega
     have hr:=(wJ hB.ck (k:=k) (p:=p) (by omega)).2;have ih:=acV hk n (p:=DX b p h) (r:=h) (ws:=ws) (by grind[DX,lX]) (hF.mask ht0 _) ((yR hB hk (by omega)).2 ⟨hb,e⟩) (by trivial) (by rw[DX,J9 hF.ok ht0];omega) h5 (by grind[DX,lX]);rw[way];simp only[h1,e];rw[if_neg h3,if_neg (by omega),if_neg ht0];refine⟨?_,?_,?_⟩
     ·have h6:=ih.dl
      grind[sG.app,zT,DX,aht]
     ·simp only[sG.app,bg,dJ,aC,ih.cr,edges]
     ·simp only[sG.app,dJ,ih.ls]
structure am6(k:Nat)(ttl:Int)(t:sG):Prop where
 dl:t.dl = []
 ls:t.ls.length=1
 cr:(t.cr.length:Int)≤ttl
theorem Y0{l:List Tb}{k:Nat}(hk:k<64){id pl:Int}:∀(n:Nat) {p:Pk} {r:Int},p.ttl.toNat+1≤n→wE l p→p.bits.getLsbD k=true→wL p k=id→pV p=pl→(∀ws,Dl l id pl r ws→p.ttl<ws.length)→am6 k p.ttl (way l k n (r,p))
 | 0,p,r,hn,_,_,_,_,_=>by omega
 | n+1,p,r,hn,hF,hb,hid,hpl,hD=>by
   have ht:=AP hF.ok;rw[way];cases h1:lZ l r with
   | none=>exact⟨rfl,rfl,by simp[*]⟩
   | some b=>
     have hbr:=(mO h1).2;have hB:=hF.all b (mO h1).1;have e:dL b p k=xP b id pl:=by rw[wK hB.ck,hid,hpl]
     simp only;by_cases c0:dL b p k=0
     ·rw[if_pos c0];exact⟨rfl,rfl,by simpa using ht.1⟩
     by_cases c1:dL b p k=b.r
     ·exfalso;have:=hD [] (.here h1 (by rw[←e,c1,hbr]) (by rw[←hbr,←c1];exact c0));simp at this;omega
     by_cases c2:p.ttl=0
     ·rw[if_neg c0,if_neg c1,if_pos c2];exact⟨rfl,rfl,by simpa using ht.1⟩
     rw[if_neg c0,if_neg c1,if_neg c2];have hr:=(wJ hB.ck c0).2;have ih:=Y0 hk n (p:=DX b p (dL b p k)) (r:=dL b p k) (by simp only[DX,lX];omega) (hF.mask c2 _) ((yR hB hk hr).2 ⟨hb,rfl⟩) (id:=id) (pl:=pl) (by rw[DX,S9];exact hid) (by rw[DX,J9 hF.ok c2];exact hpl) (fun ws hw=>by
      have:=hD (dL b p k::ws) (.next h1 e.symm c0 (by rw[←hbr];exact c1) hw);simp only[aH]at this;simp only[DX,lX];omega)
     refine⟨by simp[sG.app,ih.dl],by simp[sG.app,ih.ls],?_⟩;have:=ih.cr;have e2:(DX b p (dL b p k)).ttl=p.ttl-1:=rfl
     grind[sG.app]
theorem V_{l:List Tb}{k:Nat}(hk:k<64){p:Pk}(hF:wE l p)(hb:p.bits.getLsbD k=true)(r:Int):
  (∃ws,Dl l (wL p k) (pV p) r ws∧(ws.length:Int)≤p.ttl∧am5 l k p r ws (way l k (p.ttl.toNat+1) (r,p)))∨
  ((∀ws,Dl l (wL p k) (pV p) r ws→p.ttl<ws.length)∧am6 k p.ttl (way l k (p.ttl.toNat+1) (r,p))):=by
 by_cases h:∃ws,Dl l (wL p k) (pV p) r ws∧(ws.length:Int)≤p.ttl
 ·obtain⟨ws,h1,h2⟩:=h;exact .inl ⟨ws,h1,h2,acV hk _ (au _) hF hb rfl rfl h1 h2⟩
 ·have h':∀ws,Dl l (wL p k) (pV p) r ws→p.ttl<ws.length:=by simp_all
  exact .inr ⟨h',Y0 hk _ (au _) hF hb rfl rfl h'⟩
theorem ahx{p:Pn}(h:oJ p=true):p.es.Pairwise (fun x y=>x.id<y.id):=by
 simp only[oJ,decide_eq_true_eq]at h;obtain⟨_,h2,_⟩:=h;have hst:∀i (hi:i+1<p.es.length),p.es[i].id<p.es[i+1].id:=fun i hi=>by
  have h3:=h2 (i+1) hi;simp only[edB,gid,OG,aG,bJ,decide_eq_true_eq,mM]at h3;have h4:=h3.2.2;rw[aK,aK,aj hi,aj (by omega)]at h4
  simpa using h4
 rw[bC];intro i j hi hj hij;obtain⟨d,rfl⟩:∃d,j=i+1+d:=⟨j-(i+1),by omega⟩
 clear hij
 induction d with
 | zero=>exact hst i hj
 | succ d ih=>exact Int.lt_trans (ih (by omega)) (hst (i+1+d) (by omega))
theorem ahy{p:Pn}(h:oJ p=true){x y:Ed}(hx:x∈p.es)(hy:y∈p.es)(e:x.id=y.id):x=y:=by
 obtain⟨i,hi,rfl⟩:=dW.1 hx;obtain⟨j,hj,rfl⟩:=dW.1 hy;have hp:=bC.1 (ahx h)
 grind
theorem DZ{α:Type}{q:α→Bool}:∀{l:List α} {x:α},x∈l→q x=true→(∀y∈l,q y=true→y=x)→l.find? q=some x
 | [],x,h,_,_=>by trivial
 | a::l,x,h,hq,hu=>by
   rw[fQ];cases ha:q a with
   | true=>rw[hu a (by simp) ha]
   | false=>
     rcases aF.1 h with rfl|h
     ·simp_all
     ·exact DZ h hq (fun y hy=>hu y (by simp[*]))
theorem amb{g:aX}(hg:g.Ok){x y:Rt}(hx:x∈g.rs)(hy:y∈g.rs)(e:x.id=y.id):x=y:=by
 obtain⟨i,hi,rfl⟩:=dW.1 hx;obtain⟨j,hj,rfl⟩:=dW.1 hy;have hp:=bC.1 hg.rpw
 grind
theorem aeN{g:aX}(hg:g.Ok){x:Rt}(hx:x∈g.rs):Ru g.rs x.id=some x:=
 DZ hx (by simp) (fun y hy e=>amb hg hy hx (by simp_all))
theorem GN{g:aX}(hg:g.Ok){r:Int}:lF g.rs r=true↔∃x∈g.rs,x.id=r∧x.cap=true:=by
 constructor
 ·intro h;unfold lF at h;cases hr:Ru g.rs r with
  | none=>simp_all
  | some x=>simp only[hr,bZ]at h;exact⟨x,fG hr,by simpa using mX hr,h⟩
 ·grind[lF,aeN]
theorem yP{g:aX}(hg:g.Ok){r:Int}(h:lF g.rs r=true):dF g.rs r=true:=by
 obtain⟨x,hx,rfl,_⟩:=(GN hg).1 h
 grind[jQ]
theorem vZ{g:aX}(hg:g.Ok)(p:Pn)(r:Int):lZ (tabs g p g.rs) r=if lF g.rs r=true then some (oU g p r)else none:=by
 split
 ·rename_i h;obtain⟨x,hx,rfl,hc⟩:=(GN hg).1 h;refine DZ (x:=oU g p x.id) (ak.2 ⟨x,bK.2 ⟨hx,hc⟩,rfl⟩) (by simp[oU]) (fun y hy e=>?_);obtain⟨z,hz,rfl⟩:=ak.1 hy;have:z.id=x.id:=of_decide_eq_true e;simp[*]
 ·rename_i h;rw[lZ,jV];intro y hy;obtain⟨z,hz,rfl⟩:=ak.1 hy;obtain⟨h1,h2⟩:=bK.1 hz;intro e;exact h ((GN hg).2 ⟨z,h1,of_decide_eq_true e,h2⟩)
theorem YU{g:aX}{p:Pn}{b:Tb}(h:b∈tabs g p g.rs):∃x∈g.rs,x.cap=true∧b=oU g p x.id:=by
 obtain⟨z,hz,rfl⟩:=ak.1 h
 grind
theorem adk{g:aX}{p:Pn}(hp:oJ p=true){e:Ed}(he:e∈p.es)(r:Int):rowOf (oU g p r) e.id=some (xM g r e):=
 DZ (eX he) (by simp[xM]) (fun y hy h=>by
  obtain⟨z,hz,rfl⟩:=ak.1 hy;have:z.id=e.id:=of_decide_eq_true h
  grind[ahy])
theorem Zn{g:aX}{p:Pn}{id:Int}(h:∀e∈p.es,e.id≠id)(r:Int):rowOf (oU g p r) id=none:=by rw[rowOf,jV];intro y hy;obtain⟨z,hz,rfl⟩:=ak.1 hy;exact fun a=>h z hz (of_decide_eq_true a)
theorem ajg{x:Rw}{p:Int}(h:x.nx≠[])(hz:∀n∈x.nx,n≠0):vT x p∈x.nx:=by
 have hl:x.nx.length≠0:=fun e=>h (dS.1 e)
 rw[vT,if_neg hl];have h1:(p%x.nx.length).toNat<x.nx.length:=by have:=jy p (b:=x.nx.length) (by omega);omega
 simp[*]
theorem zH{g:aX}(hg:jo g=0){p:Pn}(hp:oJ p=true){e:Ed}(he:e∈p.es){r:Int}(hr:dF g.rs r=true)(pl:Int):
  (e.r=r∧xP (oU g p r) e.id pl=r)∨(e.r≠r∧lF g.rs e.r=true∧dst g e.r r<far∧Lm g e.r r (xP (oU g p r) e.id pl))∨
  (e.r≠r∧(lF g.rs e.r=false∨dst g e.r r=far)∧xP (oU g p r) e.id pl=0):=by
 have hO:=dV hg;unfold xP;rw[adk hp he,bZ];by_cases e1:e.r=r
 ·refine .inl ⟨e1,?_⟩;simp only[xM,if_pos e1,vT];simp
 ·by_cases hc:lF g.rs e.r=true
  ·have hh:=yP hO hc;have hrow:(xM g r e).nx=hops g r e.r:=by simp only[xM,if_neg e1,if_pos (show jo g=0∧_ from⟨hg,hc⟩)]
   by_cases hd:dst g e.r r<far
   ·obtain⟨n,hn⟩:=Lm.some hO hr hh hc (Ne.symm e1) hd;refine .inr (.inl ⟨e1,hc,hd,?_⟩);have hm:=ajg (x:=xM g r e) (p:=pl) (by
     rw[hrow];exact List.ne_nil_of_mem ((Ik hg hr hh (Ne.symm e1)).2 hn)) (fun x hx=>by
     rw[hrow]at hx
     have:=(U_ g r e.r).2 x hx;have:=hO.id this.1
     grind[EU])
    rw[hrow]at hm
    exact(Ik hg hr hh (Ne.symm e1)).1 hm
   ·refine .inr (.inr ⟨e1,.inr ?_,?_⟩)
    ·have:=pK hO e.r r;omega
    ·have:hops g r e.r = []:=by
      cases hl:hops g r e.r with
      | nil=>rfl
      | cons n l=>have:=((Ik hg hr hh (Ne.symm e1)).1 (show n∈hops g r e.r by simp[*])).near hO;omega
     grind[vT]
  ·refine .inr (.inr ⟨e1,.inl (by simp[*]),?_⟩);simp only[xM,if_neg e1,if_neg (show ¬(jo g=0∧lF g.rs e.r=true) from fun a=>hc a.2),vT];simp
theorem afH{g:aX}(hg:jo g=0){p:Pn}(hp:oJ p=true){e:Ed}(he:e∈p.es)(hc:lF g.rs e.r=true)(pl:Int):
  ∀(m:Nat) {r:Int},(dst g e.r r).toNat≤m→lF g.rs r=true→dst g e.r r<far→∃ws,Dl (tabs g p g.rs) e.id pl r ws∧zT r ws=e.r:=by
 have hO:=dV hg;intro m
 induction m with
 | zero=>
   intro r hm hr hd;have hrh:=yP hO hr;have:=pK hO e.r r;have e1:=Cj hO (yP hO hc) hrh (by omega);have hid:=hO.id hrh;unfold EU at hid;rcases zH hg hp he hrh pl with⟨_,h2⟩|⟨h1,_⟩|⟨h1,_⟩
   ·exact⟨[],.here (by rw[vZ hO,if_pos hr]) h2 (by omega),e1⟩
   ·exact absurd e1.symm h1
   omega
 | succ m ih=>
   intro r hm hr hd;have hrh:=yP hO hr;have hid:=hO.id hrh;unfold EU at hid;rcases zH hg hp he hrh pl with⟨h1,h2⟩|⟨h1,h2,h3,h4⟩|⟨h1,h2,h3⟩
   ·exact⟨[],.here (by rw[vZ hO,if_pos hr]) h2 (by omega),h1.symm⟩
   ·have hn:=h4.near hO;have ati:=hO.id hn.2.2.2.2;unfold EU at ati;have:=pK hO e.r (xP (oU g p r) e.id pl);obtain⟨ws,a1,a2⟩:=ih (by omega) hn.2.2.2.1 hn.2.2.1;refine⟨_::ws,.next (by rw[vZ hO,if_pos hr]) rfl (by omega) (fun h=>?_) a1,a2⟩;rw[h]at hn;omega
   ·rcases h2 with h2|h2
    ·rw[hc]at h2;simp at h2
    ·omega
theorem afI{g:aX}(hg:jo g=0){p:Pn}(hp:oJ p=true){id pl r:Int}{ws:List Int}(h:Dl (tabs g p g.rs) id pl r ws):
  ∃e∈p.es,e.id=id∧zT r ws=e.r∧lF g.rs e.r=true∧lF g.rs r=true∧dst g e.r r<far:=by
 have hO:=dV hg
 induction h with
 | @here r b h1 h2 h3=>
   rw[vZ hO]at h1
   split at h1
   ·rename_i hr;simp only[ah]at h1;subst h1;have hrh:=yP hO hr;by_cases hex:∃e∈p.es,e.id=id
    ·obtain⟨e,he,rfl⟩:=hex;rcases zH hg hp he hrh pl with⟨a1,a2⟩|⟨a1,a2,a3,a4⟩|⟨a1,a2,a3⟩
     ·refine⟨e,he,rfl,a1.symm,by rw[a1];exact hr,hr,?_⟩
      grind[G_,far]
     ·have:=a4.near hO;rw[h2]at this;omega
     omega
    grind[xP,Zn,vT]
   trivial
 | @next r h b ws h1 h2 h3 h4 h5 ih=>
   obtain⟨e,he,rfl,i1,i2,i3,i4⟩:=ih;refine⟨e,he,rfl,i1,i2,?_⟩;rw[vZ hO]at h1
   split at h1
   ·rename_i hr;simp only[ah]at h1;subst h1;have hrh:=yP hO hr;refine⟨hr,?_⟩;rcases zH hg hp he hrh pl with⟨a1,a2⟩|⟨a1,a2,a3,a4⟩|⟨a1,a2,a3⟩
    ·exact absurd (h2.symm.trans a2) h4
    ·exact a3
    ·omega
   ·simp at h1
theorem YT(g:aX)(p:Pn):(tabs g p g.rs).length≤g.rs.length:=by simp[tabs,dY]
def am7(s:List Int)(n:Int):List Int:=if Rh s n=true then s else s++[n]
structure ArI(g:aX)(r:Int)(s:List Int):Prop where
 nd:s.Nodup
 all:∀x∈s,dF g.rs x=true∧∃k v,Wk g r k x v
theorem ArI.fold{g:aX}(hg:g.Ok){r:Int}{x:Int}{k:Nat}{v:Int}(hw:Wk g r k x v):∀(l s:List Int),(∀n∈l,n∈near g x)→ArI g r s→ArI g r (l.foldl am7 s)
 | [],_,_,h=>h
 | n::l,s,hl,h=>by
   rw[bV];refine ArI.fold hg hw l _ (fun m hm=>hl m (by simp[*])) ?_;unfold am7;split
   ·omega
   ·rename_i hn;have hni:n∉s:=by grind[Rh]
    refine⟨fV.2 ⟨h.nd,by simp,fun a ha b hb=>by grind⟩,fun y hy=>?_⟩;rcases aN.1 hy with hy|hy
    ·exact h.all y hy
    ·simp at hy;subst hy;have hnr:=hl y (by simp);obtain⟨c,hc⟩:=(Pg hg).1 hnr;obtain⟨c',hc'⟩:=aeB hg hc;exact⟨Ya hnr,k+1,_,.cons hc' hw⟩
theorem Wk.app{g:aX}{a b:Int}{j k:Nat}{x v w:Int}(h1:Wk g a j x v)(h2:Wk g b k a w):∃u,Wk g b (j+k) x u:=by
 induction h1 with
 | nil=>grind
 | @cons k' x y c v hp _ ih=>obtain⟨u,hu⟩:=ih;exact⟨c+u,by rw[show k'+1+k=k'+k+1 by omega];exact .cons hp hu⟩
def aoz(x y:Lk):Prop:=¬(x.a=y.a∧x.b=y.b)
structure LkI(b a:Int)(l:List Lk):Prop where
 all:∀x∈l,(1≤x.a∧x.a<x.b∧(x.b<b∨(x.b=b∧x.a<a)))∧(1≤x.ca∧x.ca≤1000)∧(1≤x.cb∧x.cb≤1000)∧0≤x.cap∧x.cap≤1000
 ne:l.Pairwise aoz
theorem LkI.step{b a cost tree:Int}{skip:Bool}{T:Tp}{l:List Lk}(h:LkI b a l)(ha:1≤a)(hab:a<b)(hc:1≤cost∧cost≤1000):LkI b (a+1) (OD cost tree skip b a T l).1:=by
 have hw:LkI b (a+1) l:=⟨fun x hx=>by have:=h.all x hx;omega,h.ne⟩
 unfold OD;simp only;generalize (if(decide (a=tree) && !skip)=true then(true,T)else Rf T 3)=c;cases c.1 with
 | false=>trivial
 | true=>
   simp only[if_true];have r1:=uD c.2 1 cost;have r2:=uz c.2 (a:=1) (b:=cost) hc.1;generalize ji c.2 1 cost=X at r1 r2;have r3:=uD X.2 1 cost;have r4:=uz X.2 (a:=1) (b:=cost) hc.1;generalize ji X.2 1 cost=Y at r3 r4;have r5:=iT Y.2 4;have r6:=l7 Y.2 (n:=4) (by omega);generalize eG Y.2 4=Z at r5 r6;refine⟨fun x hx=>?_,?_⟩
   ·rcases aN.1 hx with hx|hx
    ·exact hw.all x hx
    grind
   ·rw[jC];refine⟨h.ne,by simp,fun x hx y hy=>?_⟩;simp at hy;subst hy;have:=h.all x hx;unfold aoz;simp only;omega
theorem LkI.row{b cost tree:Int}{skip:Bool}(hc:1≤cost∧cost≤1000):∀(n:Nat) (a:Int) (T:Tp) (l:List Lk),LkI b a l→1≤a→a+n≤b→LkI b (a+n) (SN cost tree skip b n a T l).1
 | 0,a,T,l,h,_,_=>by grind[SN]
 | n+1,a,T,l,h,h1,h2=>by have:=LkI.row (tree:=tree) (skip:=skip) hc n (a+1) (OD cost tree skip b a T l).2 _ (h.step (tree:=tree) (skip:=skip) (T:=T) h1 (by omega) hc) (by omega) (by omega);rw[show a+((n+1:Nat):Int)=a+1+n by omega];exact this
theorem Vy{α:Type}{q:α→α→Bool}{r:α→α→Prop}(hr:∀x y,r x y→q x y=false):∀{l:List α},l.Pairwise r→o8 q l=false
 | [],_=>rfl
 | [x],_=>rfl
 | x::y::l,h=>by
   rw[dM]at h
   rw[o8,hr x y (h.1 y (by simp)),Vy hr h.2];rfl
theorem aiN{g:aX}(h1:g.rs.length≤24)(h2:g.ls.length≤60)(h3:∀x∈g.rs,1≤x.id∧x.id≤99)(h4:g.rs.Pairwise fun x y=>x.id<y.id)
  (h5:∀x∈g.ls,(1≤x.ca∧x.ca≤1000)∧(1≤x.cb∧x.cb≤1000)∧0≤x.cap∧x.cap≤1000) (h6:∀x∈g.ls,dF g.rs x.a=true∧dF g.rs x.b=true) (h7:∀x∈g.ls,x.a<x.b) (h8:g.ls.Pairwise BL):jo g=0:=by
 have a1:decide (24<g.rs.length)=false:=by simp[*]
 have a2:decide (60<g.ls.length)=false:=by simp[*]
 have a3:(g.rs.any fun x=>!inB x.id 1 99)=false:=by grind[inB,List.any_eq_false]
 have a4:o8 (fun x y=>decide (y.id≤x.id)) g.rs=false:=by grind[o8,decide,Vy]
 have a5:g.ls.any Lk.bad=false:=by grind[Lk.bad,List.any_eq_false,inB]
 have a6:(g.ls.any fun x=>!dF g.rs x.a || !dF g.rs x.b)=false:=by simp_all
 have a7:(g.ls.any fun x=>decide (x.b≤x.a))=false:=by simp_all
 have a8:o8 (fun x y=>decide (y.a<x.a)||decide (x.a=y.a)&&decide (y.b≤x.b)) g.ls=false:=by grind[o8,decide,Vy,BL,Bool.or_eq_false_iff,Bool.and_eq_false_iff,decide_eq_false_iff_not]
 simp only[jo,lG,a1,a2,a3,a4,a5,a6,a7,a8,cond_false]
theorem Ql{l:List Tb}{I:List (Int×Pk)→sG→Prop}(hs:∀q Q t,I (q::Q) t→I (Q++nextQ l q) (stepT l q t)):∀(n:Nat) (Q:List (Int×Pk)) (t:sG),yN Q≤n→I Q t→I [] (sD l n Q t)
 | 0,Q,t,h,hI=>by
   have:=Ih Q;obtain rfl:Q = []:=dS.1 (by omega)
   trivial
 | n+1,[],t,_,hI=>by trivial
 | n+1,q::Q,t,h,hI=>by
   have hq:=Pj l q;rw[Ai]at h
   rw[sD];exact Ql hs n _ _ (by rw[Dz];omega) (hs q Q t hI)
structure afa(l:List Tb)(Q:List (Int×Pk))(t:sG):Prop where
 fit:∀q∈Q,wE l q.2∧(lZ l q.1=none→q.2.bits≠0#64)
 dl:∀d∈t.dl,∃k<64,d.2.bits=1#64<<<k
 ls:∀x∈t.ls,x.2≠0#64
 cr:∀c∈t.cr,c.2.2≠0#64
theorem afa.step{l:List Tb}{q:Int×Pk}{Q:List (Int×Pk)}{t:sG}(h:afa l (q::Q) t):afa l (Q++nextQ l q) (stepT l q t):=by
 have hq:=h.fit q (by simp);have hQ:∀c∈Q,wE l c.2∧(lZ l c.1=none→c.2.bits≠0#64):=fun c hc=>h.fit c (by simp[*])
 cases hf:lZ l q.1 with
 | none=>
   have hn:nextQ l q = []:=by grind[nextQ]
   rw[hn,bQ];refine⟨hQ,?_,?_,?_⟩<;>simp only[stepT,hf]
   ·exact h.dl
   ·intro x hx;rcases aN.1 hx with hx|hx
    ·exact h.ls x hx
    simp_all
   ·exact h.cr
 | some b=>
   have hb:=hq.1.all b (mO hf).1;obtain⟨h1,h2⟩:=zQ hb;have hn:nextQ l q=(vG b q.2).uJ:=by grind[nextQ]
   obtain⟨H,h3,h4,h5⟩:=h2.uJ;have hc:∀c∈(vG b q.2).uJ,c.2.bits≠0#64:=fun c hc=>by
    rw[h3]at hc
    simp only[wU,dJ,ak]at hc;obtain⟨x,hx,rfl⟩:=hc;obtain⟨_,a1,a2,k,hk,a3,a4⟩:=(h5 x).1 hx;have hr:=(wJ hb.ck (k:=k) (p:=q.2) (by omega)).2;rw[a4]at hr
    have:=(yR hb hk hr).2 ⟨a3,a4⟩
    grind
   refine⟨fun c hm=>?_,?_,?_,?_⟩
   ·grind[Yd]
   ·simp only[stepT,hf,h1];intro d hd;rcases aN.1 hd with hd|hd
    ·exact h.dl d hd
    ·simp only[O1,xX,aY,ak]at hd;obtain⟨k,hk,rfl⟩:=hd;obtain⟨k1,k2⟩:=Eh.1 hk;have hpb:q.2.bits.getLsbD k=true:=by
      rcases (h2.loc k k1).1 k2 with a|a
      ·simp[wU]at a
      ·exact a.1
     refine⟨k,k1,?_⟩
     show(rY q.2 (Int.ofNat k)).bits=_
     have:=Py hq.1.ok k1 hpb;rw[Int.ofNat_eq_natCast,this]
   ·simp only[stepT,hf,h1];intro x hx;split at hx
    ·exact h.ls x hx
    ·rename_i hne;rcases aN.1 hx with hx|hx
     ·exact h.ls x hx
     ·simp at hx;subst hx;exact hne
   ·simp only[stepT,hf,h1];intro c hm;rcases aN.1 hm with hm|hm
    ·exact h.cr c hm
    ·obtain⟨x,hx,rfl⟩:=ak.1 hm;exact hc x hx
theorem VJ{l:List Tb}{p:Pk}(hF:wE l p){r:Int}(hr:(lZ l r).isSome):afa l [] (sD l (wt p) [(r,p)] qV):=
 Ql (I:=afa l) (fun q Q t h=>h.step) _ _ _ (by simp[yN]) ⟨fun q hq=>by
  grind,by trivial,by trivial,by trivial⟩
theorem acg{α:Type}(f:α→BitVec 64):∀(l:List α),(∀x∈l,f x≠0#64)→l.length≤((List.range 64).map fun k=>(l.filter fun x=>(f x).getLsbD k).length).sum
 | [],_=>by simp
 | x::l,h=>by
   have ih:=acg f l (fun y hy=>h y (by simp[hy]));have hx:=h x (by simp);obtain⟨t1,t2,_⟩:=xU hx;have hle:∀(ks:List Nat),(ks.map fun k=>(l.filter fun x=>(f x).getLsbD k).length).sum+(if tz (f x)∈ks then 1 else 0)≤(ks.map fun k=>((x::l).filter fun x=>(f x).getLsbD k).length).sum:=by
    intro ks
    induction ks with
    | nil=>simp
    | cons k ks ih2=>
      simp only[aC,iY,aF,dI];by_cases e:tz (f x)=k
      ·subst e;rw[if_pos (.inl rfl),if_pos t2];simp only[aH];split at ih2<;>simp only[dI]at ih2<;>omega
      ·simp only[e,false_or];simp only[dI]at ih2;have:(l.filter fun x=>(f x).getLsbD k).length≤(if(f x).getLsbD k=true then x::l.filter fun x=>(f x).getLsbD k else l.filter fun x=>(f x).getLsbD k).length:=by split<;>simp
       omega
   grind
theorem YR{B:BitVec 64}{m:Nat}{f:Nat→Nat}(h:∀k<64,f k≤if B.getLsbD k=true then m else 0):((List.range 64).map f).sum≤pc B*m:=by
 have:∀ks:List Nat,(∀k∈ks,k<64)→(ks.map f).sum≤(ks.filter fun i=>B.getLsbD i).length*m:=by
  intro ks hk
  induction ks with
  | nil=>simp
  | cons k ks ih=>
    have h1:=ih (fun j hj=>hk j (by simp[hj]));have h2:=h k (hk k (by simp));simp only[aC,iY,dI];split
    ·rename_i hb;rw[if_pos hb]at h2
     simp only[aH,Nat.succ_mul];omega
    ·rename_i hb;rw[if_neg hb]at h2;omega
 exact this _ (by simp)
theorem acI{l:List Tb}{p:Pk}(hF:wE l p)(r:Int){k:Nat}(hk:k<64):
  (((sD l (wt p) [(r,p)] qV).dl.filter fun d=>d.2.bits.getLsbD k).length+((sD l (wt p) [(r,p)] qV).ls.filter fun x=>x.2.getLsbD k).length=if p.bits.getLsbD k=true then 1 else 0)∧
  (((sD l (wt p) [(r,p)] qV).cr.filter fun c=>c.2.2.getLsbD k).length≤if p.bits.getLsbD k=true then p.ttl.toNat else 0):=by
 have e1:((sD l (wt p) [(r,p)] qV).dl.filter fun d=>d.2.bits.getLsbD k)=((sD l (wt p) [(r,p)] qV).at k).dl:=rfl;have e2:((sD l (wt p) [(r,p)] qV).ls.filter fun x=>x.2.getLsbD k)=((sD l (wt p) [(r,p)] qV).at k).ls:=rfl;have e3:((sD l (wt p) [(r,p)] qV).cr.filter fun c=>c.2.2.getLsbD k)=((sD l (wt p) [(r,p)] qV).at k).cr:=rfl;rw[e1,e2,e3];have ht:=AP hF.ok
 by_cases hb:p.bits.getLsbD k=true
 ·rw[aaZ hF r hk hb,if_pos hb,if_pos hb];rcases V_ hk hF hb r with⟨ws,_,h2,h3⟩|⟨_,h3⟩
  ·refine⟨by rw[h3.dl,h3.ls];rfl,?_⟩;have:=congrArg List.length h3.cr
   grind[adt]
  ·refine⟨by rw[h3.dl,h3.ls];rfl,?_⟩;have:=h3.cr;omega
 ·rw[VL hF r hk hb,if_neg hb,if_neg hb];exact⟨rfl,au _⟩
theorem amc{l:List Tb}{p:Pk}(hF:wE l p){r:Int}(hr:(lZ l r).isSome):(sD l (wt p) [(r,p)] qV).cr.length≤pc p.bits*p.ttl.toNat:=
 dw (acg (fun c:Int×Int×BitVec 64=>c.2.2) _ (VJ hF hr).cr) (YR fun k hk=>(acI hF r hk).2)
theorem ahZ{l:List Tb}{p:Pk}(hF:wE l p)(r:Int){k:Nat}(hk:k<64)(d:Int×Pk):
  (d∈(sD l (wt p) [(r,p)] qV).dl∧d.2.bits.getLsbD k=true)↔p.bits.getLsbD k=true∧∃ws,Dl l (wL p k) (pV p) r ws∧(ws.length:Int)≤p.ttl∧d=(zT r ws,pkD p k ws.length):=by
 have e:(d∈(sD l (wt p) [(r,p)] qV).dl∧d.2.bits.getLsbD k=true)↔d∈((sD l (wt p) [(r,p)] qV).at k).dl:=by simp[sG.at]
 rw[e];by_cases hb:p.bits.getLsbD k=true
 ·rw[aaZ hF r hk hb];rcases V_ hk hF hb r with⟨ws,h1,h2,h3⟩|⟨h1,h3⟩
  ·rw[h3.dl];constructor
   ·grind
   ·rintro⟨_,us,a1,a2,rfl⟩;rw[h1.det a1];simp
  ·rw[h3.dl];constructor
   ·intro h;simp at h
   ·rintro⟨_,us,a1,a2,rfl⟩;have:=h1 us a1;omega
 grind[VL,qV]
theorem aa0{l:List Tb}{p:Pk}(hF:wE l p)(r:Int){k:Nat}(hk:k<64):
  ((sD l (wt p) [(r,p)] qV).dl.filter fun d=>d.2.bits.getLsbD k).length≤1:=by
 have:=(acI hF r hk).1
 grind
theorem ame{l:List Tb}{p:Pk}(hF:wE l p)(r:Int){k:Nat}(hk:k<64):
  (∃x∈(sD l (wt p) [(r,p)] qV).ls,x.2.getLsbD k=true)↔p.bits.getLsbD k=true∧∀ws,Dl l (wL p k) (pV p) r ws→p.ttl<ws.length:=by
 have e:(∃x∈(sD l (wt p) [(r,p)] qV).ls,x.2.getLsbD k=true)↔((sD l (wt p) [(r,p)] qV).at k).ls≠[]:=by simp only[sG.at,ne_eq,fJ];simp
 rw[e];by_cases hb:p.bits.getLsbD k=true
 ·rw[aaZ hF r hk hb];rcases V_ hk hF hb r with⟨ws,h1,h2,h3⟩|⟨h1,h3⟩
  ·rw[h3.ls]
   grind
  ·have:=h3.ls
   grind
 grind[VL,qV]
def Ce(g:aX):Int→List Int→Option Int
 | _,[]=>some 0
 | r,h::ws=>match price g.ls r h,Ce g h ws with
   | some c,some v=>some (c+v)
   | _,_=>none
def E_(g:aX):Prop:=∀x∈g.rs,x.cap=true
theorem E_.cap{g:aX}(hg:g.Ok)(h:E_ g){r:Int}(hr:dF g.rs r=true):lF g.rs r=true:=by obtain⟨x,hx,rfl⟩:=ak.1 (jQ.1 hr);exact(GN hg).2 ⟨x,hx,rfl,h x hx⟩
theorem Lm.direct{g:aX}(hg:g.Ok)(hA:E_ g){t r n:Int}(h:Lm g t r n):n∈steps g (dist g t) r:=by
 obtain⟨x,hx,hn,_⟩:=h;have:x=r:=by
  induction hx with
  | nil=>rfl
  | via _ hy hc _=>rw[hA.cap hg (qU hy)]at hc;trivial
 simp_all
theorem aiX{g:aX}(hg:jo g=0)(hA:E_ g){p:Pn}(hp:oJ p=true){id pl r:Int}{ws:List Int}(h:Dl (tabs g p g.rs) id pl r ws):
  ∃e∈p.es,e.id=id∧zT r ws=e.r∧Ce g r ws=some (dst g e.r r):=by
 have hO:=dV hg;obtain⟨e,he,rfl,hl,hc,hr,hd⟩:=afI hg hp h;refine⟨e,he,rfl,hl,?_⟩;clear hd hr
 induction h with
 | @here r b h1 h2 h3=>grind[zT,Ce,G_,yP]
 | @next r h b ws h1 h2 h3 h4 h5 ih=>
   have ih:=ih (by trivial);rw[vZ hO]at h1
   split at h1
   ·rename_i hr;simp only[ah]at h1;subst h1;have hrh:=yP hO hr;rcases zH hg hp he hrh pl with⟨a1,a2⟩|⟨a1,a2,a3,a4⟩|⟨a1,a2,a3⟩
    ·omega
    ·rw[h2]at a4
     obtain⟨_,_,_,c,b1,b2⟩:=(mQ hO).1 (a4.direct hO hA)
     grind[Ce]
    omega
   trivial
theorem Qv{α:Type}{q:α→Bool}:∀{l:List α} {i j:Nat} {x y:α},i<j→l[i]? = some x→l[j]? = some y→q x=true→q y=true→2≤(l.filter q).length
 | [],i,j,x,y,_,hx,_,_,_=>by trivial
 | a::l,0,j,x,y,hij,hx,hy,qx,qy=>by
   simp at hx;have:y∈l.filter q:=by grind
   grind
 | a::l,i+1,j,x,y,hij,hx,hy,qx,qy=>by
   obtain⟨j,rfl⟩:∃m,j=m+1:=⟨j-1,by omega⟩
   have:=Qv (l:=l) (i:=i) (j:=j) (by omega) (by trivial) (by trivial) qx qy
   grind
set_option maxRecDepth 100000
set_option maxHeartbeats 2000000
open Go Go.Tr
end Go.Proofs
