/-
  What functions of the program compute, stated as contracts over plain data; the conditions of each stand in its own statement.
-/
import Derived.Test.YtboimfkommpglaaGreatDoorZA20
import Derived.Test.YtboimfkommpglaaGreatDoorZA18
import Derived.Test.YtboimfkommpglaaGreatDoorZA17
import Derived.Test.YtboimfkommpglaaGreatDoorZA13
set_option linter.unusedSimpArgs false
set_option linter.unusedVariables false
namespace Go.Proofs
structure Fits(b:Tb)(p:Pk):Prop where
 ck:chk b=0
 sd:b.sd=p.bF
 len:b.len=p.len
 ok:p.ok=true
 mode:p.mode≠2
theorem Fits.bit{b:Tb}{p:Pk}(h:Fits b p){k:Nat}(hk:k<64)(hb:p.bits.getLsbD k=true):(k:Int)<p.len:=(D8 h.ok).2 k hk hb
theorem vX{b:Tb}{p:Pk}(hc:chk b=0)(k:Nat):aF b p k=mG b (vZ p k) (kX p):=RU hc p _
theorem CX{b:Tb}{p:Pk}(hc:chk b=0){k:Nat}(h0:aF b p k≠0):Ej p.set k p.len=true∧1≤aF b p k∧aF b p k≤99:=by
 rw[vX hc]at h0⊢
 refine⟨Classical.byContradiction fun g=>h0 (by rw[vZ,if_neg g];exact YD hc _),BL hc h0⟩
theorem Fh{b:Tb}{p:Pk}(h:Fits b p){k:Nat}(hk:k<64)(hb:p.bits.getLsbD k=true){n:Int}(hn:1≤n∧n≤99):(Bl b (kX p) p.set n).getLsbD k=true↔aF b p k=n:=by
 have hl:=(D8 h.ok).1;have hlen:b.len≤64:=by
  rw[h.len];simp[aG]at hl;omega
 have hkl:=h.bit hk hb;rw[MR h.ck h.ok hn,Jq b _ _ _ hk _ (by omega),h.len];constructor
 ·rintro⟨h1,h2,h3,h4⟩;rw[vX h.ck,vZ,if_pos h2];exact h4
 ·intro e;have h2:=CX h.ck (k:=k) (p:=p) (by omega);rw[vX h.ck,vZ,if_pos h2.1]at e
  exact⟨by omega,h2.1,by omega,e⟩
noncomputable def qJ(b:Tb)(p:Pk)(h:Int):Pk:=ji p (Bl b (kX p) p.set h)
theorem DY{b:Tb}{p:Pk}(h:Fits b p){k:Nat}(hk:k<64){n:Int}(hn:1≤n∧n≤99):(qJ b p n).bits.getLsbD k=true↔p.bits.getLsbD k=true∧aF b p k=n:=by
 simp only[qJ,ji,BitVec.getLsbD_and,Bool.and_eq_true];constructor
 ·rintro⟨h1,h2⟩;exact⟨h1,(Fh h hk h1 hn).1 h2⟩
 ·rintro⟨h1,h2⟩;exact⟨h1,(Fh h hk h1 hn).2 h2⟩
theorem Xd{p:Pk}(h:p.ok=true)(ht:p.ttl≠0)(m:BitVec 64):(ji p m).ok=true:=by
 have h2:=qA h;cases p
 simp only[ji]at *;simp only[Pk.ok,Bool.and_eq_true,nG,decide_eq_true_eq,wS]at h⊢;obtain⟨a1,a2,a3,a4,⟨b1,b2⟩,a5,a6⟩:=h;refine⟨a1,a2,a3,a4,⟨b1,?_⟩,⟨by omega,by omega⟩,a6⟩;apply BitVec.eq_of_getLsbD_eq;intro k hk;have h3:=congrArg (fun z=>z.getLsbD k) b2;simp only[BitVec.getLsbD_and,BitVec.getLsbD_not,hk,decide_true,Bool.true_and,BitVec.getLsbD_zero]at h3⊢
 revert h3
 generalize BitVec.getLsbD _ k=x;generalize BitVec.getLsbD _ k=y;generalize BitVec.getLsbD _ k=z;cases x<;>cases y<;>cases z<;>simp
theorem Fits.mask{b c:Tb}{p:Pk}(h:Fits b p)(hc:Fits c p)(ht:p.ttl≠0)(m:BitVec 64):Fits c (ji p m):=
 ⟨hc.ck,hc.sd,hc.len,Xd h.ok ht m,h.mode⟩
theorem Ko(R M:BitVec 64){k:Nat}(hk:k<64):(R &&& ~~~ M).getLsbD k=true↔R.getLsbD k=true∧M.getLsbD k=false:=by
 simp[hk]
theorem or_bit(R M:BitVec 64){k:Nat}:(R|||M).getLsbD k=true↔R.getLsbD k=true∨M.getLsbD k=true:=by
 simp
theorem Xm{j k:Nat}(hj:j<64)(hk:k<64):(1#64<<<j).getLsbD k=true↔k=j:=by rw[j_ hj hk];simp
def Whole(b:Tb)(p:Pk)(R:BitVec 64):Prop:=(∀k<64,R.getLsbD k=true→p.bits.getLsbD k=true)∧
 ∀j k,j<64→k<64→p.bits.getLsbD j=true→aF b p j=aF b p k→aF b p k≠0→aF b p k≠b.r→R.getLsbD k=true→R.getLsbD j=true
structure acw(b:Tb)(p:Pk)(o o':Out)(R:BitVec 64):Prop where
 loc:∀k<64,o'.loc.getLsbD k=true↔o.loc.getLsbD k=true∨(R.getLsbD k=true∧aF b p k≠0∧aF b p k=b.r)
 lost:∀k<64,o'.lost.getLsbD k=true↔o.lost.getLsbD k=true∨(R.getLsbD k=true∧(aF b p k=0∨(aF b p k≠b.r∧p.ttl=0)))
 g_:∃H:List Int,o'.g_=o.g_++H.map (fun h=>(h,qJ b p h))∧H.Nodup∧∀h,h∈H↔p.ttl≠0∧h≠0∧h≠b.r∧∃k<64,R.getLsbD k=true∧aF b p k=h
theorem acw.nil{b:Tb}{p:Pk}(o:Out):acw b p o o 0#64:=⟨by simp,by simp,[],by simp,by simp,by simp⟩
theorem EO{b:Tb}{p:Pk}(h:Fits b p):∀(n:Nat) (o:Out) (R:BitVec 64),(ku R).length≤n→Whole b p R→acw b p o (yx b p n o R) R
 | 0,o,R,hn,_=>by
   obtain rfl:=Y2 (R:=R) (by omega);exact .nil o
 | n+1,o,R,hn,hW=>by
   rw[yx];by_cases h0:R=0#64
   ·subst h0;rw[if_pos rfl];exact .nil o
   rw[if_neg h0];obtain⟨t1,t2,t3⟩:=xP h0;have hmb:=EP h.ck h.ok h.len hW.1 h0;have hpop:=Fv t1 t2 hmb;have hpz:=hW.1 _ t1 t2;generalize hj:tz R=j at t1 t2 t3 hmb hpop hpz;by_cases c0:aF b p j=0
   ·have eM:mQ b p R=1#64<<<j:=by rw[mQ,hj,if_pos (.inl c0)]
    have eO:mV b p o R=⟨o.loc,o.lost|||1#64<<<j,o.g_⟩:=by rw[mV,hj,if_pos c0]
    rw[eM]at hpop
    rw[eM,eO];have hb:∀k<64,(R &&& ~~~ (1#64<<<j)).getLsbD k=true↔R.getLsbD k=true∧k≠j:=fun k hk=>by rw[Ko _ _ hk,j_ t1 hk];simp
    have ih:=EO h n ⟨o.loc,o.lost|||1#64<<<j,o.g_⟩ (R &&& ~~~ (1#64<<<j)) (by omega)
     ⟨fun k hk hb'=>hW.1 k hk ((hb k hk).1 hb').1,fun i k hi hk hpi e e0 er hr=>(hb i hi).2 ⟨hW.2 i k hi hk hpi e e0 er ((hb k hk).1 hr).1,fun e'=>by subst e';rw[c0]at e;exact e0 e.symm⟩⟩
    refine⟨fun k hk=>?_,fun k hk=>?_,?_⟩
    ·rw[ih.loc k hk,hb k hk];constructor
     ·rintro (a|⟨⟨a1,a2⟩,a3⟩)
      ·exact .inl a
      ·exact .inr ⟨a1,a3⟩
     ·rintro (a|⟨a1,a3⟩)
      ·exact .inl a
      ·exact .inr ⟨⟨a1,fun e=>by subst e;exact a3.1 c0⟩,a3⟩
    ·rw[ih.lost k hk,hb k hk,or_bit,Xm t1 hk];constructor
     ·rintro ((a|rfl)|⟨⟨a1,a2⟩,a3⟩)
      ·exact .inl a
      ·exact .inr ⟨t2,.inl c0⟩
      ·exact .inr ⟨a1,a3⟩
     ·rintro (a|⟨a1,a3⟩)
      ·exact .inl (.inl a)
      ·by_cases e:k=j
       ·exact .inl (.inr e)
       ·exact .inr ⟨⟨a1,e⟩,a3⟩
    ·obtain⟨H,h1,h2,h3⟩:=ih.g_;refine⟨H,h1,h2,fun x=>?_⟩;rw[h3];constructor
     ·rintro⟨a1,a2,a3,k,hk,a4,a5⟩;exact⟨a1,a2,a3,k,hk,((hb k hk).1 a4).1,a5⟩
     ·rintro⟨a1,a2,a3,k,hk,a4,a5⟩;exact⟨a1,a2,a3,k,hk,(hb k hk).2 ⟨a4,fun e=>by subst e;rw[c0]at a5;exact a2 a5.symm⟩,a5⟩
   by_cases c1:aF b p j=b.r
   ·have eM:mQ b p R=1#64<<<j:=by rw[mQ,hj,if_pos (.inr c1)]
    have eO:mV b p o R=⟨o.loc|||1#64<<<j,o.lost,o.g_⟩:=by rw[mV,hj,if_neg c0,if_pos c1]
    rw[eM]at hpop
    rw[eM,eO];have hb:∀k<64,(R &&& ~~~ (1#64<<<j)).getLsbD k=true↔R.getLsbD k=true∧k≠j:=fun k hk=>by rw[Ko _ _ hk,j_ t1 hk];simp
    have ih:=EO h n ⟨o.loc|||1#64<<<j,o.lost,o.g_⟩ (R &&& ~~~ (1#64<<<j)) (by omega)
     ⟨fun k hk hb'=>hW.1 k hk ((hb k hk).1 hb').1,fun i k hi hk hpi e e0 er hr=>(hb i hi).2 ⟨hW.2 i k hi hk hpi e e0 er ((hb k hk).1 hr).1,fun e'=>by subst e';rw[c1]at e;exact er e.symm⟩⟩
    refine⟨fun k hk=>?_,fun k hk=>?_,?_⟩
    ·rw[ih.loc k hk,hb k hk,or_bit,Xm t1 hk];constructor
     ·rintro ((a|rfl)|⟨⟨a1,a2⟩,a3⟩)
      ·exact .inl a
      ·exact .inr ⟨t2,c0,c1⟩
      ·exact .inr ⟨a1,a3⟩
     ·rintro (a|⟨a1,a3⟩)
      ·exact .inl (.inl a)
      ·by_cases e:k=j
       ·exact .inl (.inr e)
       ·exact .inr ⟨⟨a1,e⟩,a3⟩
    ·rw[ih.lost k hk,hb k hk];constructor
     ·rintro (a|⟨⟨a1,a2⟩,a3⟩)
      ·exact .inl a
      ·exact .inr ⟨a1,a3⟩
     ·rintro (a|⟨a1,a3⟩)
      ·exact .inl a
      ·exact .inr ⟨⟨a1,fun e=>by subst e;exact a3.elim c0 fun a=>a.1 c1⟩,a3⟩
    ·obtain⟨H,h1,h2,h3⟩:=ih.g_;refine⟨H,h1,h2,fun x=>?_⟩;rw[h3];constructor
     ·rintro⟨a1,a2,a3,k,hk,a4,a5⟩;exact⟨a1,a2,a3,k,hk,((hb k hk).1 a4).1,a5⟩
     ·rintro⟨a1,a2,a3,k,hk,a4,a5⟩;exact⟨a1,a2,a3,k,hk,(hb k hk).2 ⟨a4,fun e=>by subst e;rw[c1]at a5;exact a3 a5.symm⟩,a5⟩
   have hr:=(CX h.ck c0).2;have eM:mQ b p R=jR b p R (aF b p j):=by rw[mQ,hj,if_neg (fun h=>h.elim c0 c1)]
   rw[eM]at hpop⊢
   have afa:∀k<64,(jR b p R (aF b p j)).getLsbD k=true↔R.getLsbD k=true∧aF b p k=aF b p j:=fun k hk=>by
    rw[jR,BitVec.getLsbD_and,Bool.and_eq_true];constructor
    ·rintro⟨a1,a2⟩;exact⟨a1,(Fh h hk (hW.1 k hk a1) hr).1 a2⟩
    ·rintro⟨a1,a2⟩;exact⟨a1,(Fh h hk (hW.1 k hk a1) hr).2 a2⟩
   have hb:∀k<64,(R &&& ~~~ jR b p R (aF b p j)).getLsbD k=true↔R.getLsbD k=true∧aF b p k≠aF b p j:=fun k hk=>by
    rw[Ko _ _ hk];constructor
    ·rintro⟨a1,a2⟩;exact⟨a1,fun e=>by rw[(afa k hk).2 ⟨a1,e⟩]at a2;simp at a2⟩
    ·rintro⟨a1,a2⟩;refine⟨a1,?_⟩;cases ht:(jR b p R (aF b p j)).getLsbD k with
     | false=>rfl
     | true=>exact absurd ((afa k hk).1 ht).2 a2
   have hW':Whole b p (R &&& ~~~ jR b p R (aF b p j)):=⟨fun k hk hb'=>hW.1 k hk ((hb k hk).1 hb').1,fun i k hi hk hpi e e0 er hr=>(hb i hi).2 ⟨hW.2 i k hi hk hpi e e0 er ((hb k hk).1 hr).1,by rw[e];exact((hb k hk).1 hr).2⟩⟩
   have akD:(p.setB R).bits&&&jR b p R (aF b p j)=p.bits&&&Bl b (kX p) p.set (aF b p j):=by
    apply BitVec.eq_of_getLsbD_eq;intro k hk
    show(R&&&jR b p R (aF b p j)).getLsbD k=_
    rw[Bool.eq_iff_iff,BitVec.getLsbD_and,Bool.and_eq_true,afa k hk,BitVec.getLsbD_and,Bool.and_eq_true];constructor
    ·rintro⟨_,a1,a2⟩;have:=hW.1 k hk a1;exact⟨this,(Fh h hk this hr).2 a2⟩
    ·rintro⟨a1,a2⟩;have e:=(Fh h hk a1 hr).1 a2;have:=hW.2 k j hk t1 a1 e c0 c1 t2;exact⟨this,this,e⟩
   have hnz:(p.setB R).bits&&&jR b p R (aF b p j)≠0#64:=fun e=>by
    have:=congrArg (fun z=>z.getLsbD j) e;simp only[BitVec.getLsbD_zero]at this
    change (R&&&jR b p R (aF b p j)).getLsbD j=false at this
    rw[BitVec.getLsbD_and,t2,(afa j t1).2 ⟨t2,rfl⟩]at this
    simp at this
   have hok:=Nj h.ok hW.1;by_cases ht:p.ttl=0
   ·have eC:(jg (p.setB R) (jR b p R (aF b p j))).2=false:=by
     rw[jg,if_neg (fun a=>a.2.1 ht)]
    have eO:mV b p o R=⟨o.loc,o.lost|||jR b p R (aF b p j),o.g_⟩:=by
     rw[mV,hj,if_neg c0,if_neg c1,if_neg (by rw[eC];simp)]
    rw[eO];have ih:=EO h n ⟨o.loc,o.lost|||jR b p R (aF b p j),o.g_⟩ _ (by omega) hW';refine⟨fun k hk=>?_,fun k hk=>?_,?_⟩
    ·rw[ih.loc k hk,hb k hk];constructor
     ·rintro (a|⟨⟨a1,a2⟩,a3⟩)
      ·exact .inl a
      ·exact .inr ⟨a1,a3⟩
     ·rintro (a|⟨a1,a3⟩)
      ·exact .inl a
      ·exact .inr ⟨⟨a1,fun e=>c1 (by rw[←e];exact a3.2)⟩,a3⟩
    ·rw[ih.lost k hk,hb k hk,or_bit,afa k hk];constructor
     ·rintro ((a|⟨a1,a2⟩)|⟨⟨a1,a2⟩,a3⟩)
      ·exact .inl a
      ·exact .inr ⟨a1,.inr ⟨by rw[a2];exact c1,ht⟩⟩
      ·exact .inr ⟨a1,a3⟩
     ·rintro (a|⟨a1,a3⟩)
      ·exact .inl (.inl a)
      ·by_cases e:aF b p k=aF b p j
       ·exact .inl (.inr ⟨a1,e⟩)
       ·exact .inr ⟨⟨a1,e⟩,a3⟩
    ·obtain⟨H,h1,h2,h3⟩:=ih.g_;refine⟨H,h1,h2,fun x=>?_⟩;rw[h3];exact⟨fun a=>absurd ht a.1,fun a=>absurd ht a.1⟩
   ·have eC:jg (p.setB R) (jR b p R (aF b p j))=(qJ b p (aF b p j),true):=by
     rw[jg,if_pos ⟨hok,ht,hnz⟩,ji,akD];rfl
    have eO:mV b p o R=⟨o.loc,o.lost,o.g_++[(aF b p j,qJ b p (aF b p j))]⟩:=by
     rw[mV,hj,if_neg c0,if_neg c1,eC];rfl
    rw[eO];have ih:=EO h n ⟨o.loc,o.lost,o.g_++[(aF b p j,qJ b p (aF b p j))]⟩ _ (by omega) hW';refine⟨fun k hk=>?_,fun k hk=>?_,?_⟩
    ·rw[ih.loc k hk,hb k hk];constructor
     ·rintro (a|⟨⟨a1,a2⟩,a3⟩)
      ·exact .inl a
      ·exact .inr ⟨a1,a3⟩
     ·rintro (a|⟨a1,a3⟩)
      ·exact .inl a
      ·exact .inr ⟨⟨a1,fun e=>c1 (by rw[←e];exact a3.2)⟩,a3⟩
    ·rw[ih.lost k hk,hb k hk];constructor
     ·rintro (a|⟨⟨a1,a2⟩,a3⟩)
      ·exact .inl a
      ·exact .inr ⟨a1,a3⟩
     ·rintro (a|⟨a1,a3⟩)
      ·exact .inl a
      ·refine .inr ⟨⟨a1,fun e=>?_⟩,a3⟩;rcases a3 with a3|a3
       ·exact c0 (by rw[←e];exact a3)
       ·exact ht a3.2
    ·obtain⟨H,h1,h2,h3⟩:=ih.g_;refine⟨aF b p j::H,by rw[h1];simp,List.nodup_cons.2 ⟨fun hm=>?_,h2⟩,fun x=>?_⟩
     ·obtain⟨_,_,_,k,hk,a4,a5⟩:=(h3 _).1 hm;exact((hb k hk).1 a4).2 a5
     ·rw[List.mem_cons,h3];constructor
      ·rintro (rfl|⟨a1,a2,a3,k,hk,a4,a5⟩)
       ·exact⟨ht,c0,c1,j,t1,t2,rfl⟩
       ·exact⟨a1,a2,a3,k,hk,((hb k hk).1 a4).1,a5⟩
      ·rintro⟨a1,a2,a3,k,hk,a4,a5⟩;by_cases e:x=aF b p j
       ·exact .inl e
       ·exact .inr ⟨a1,a2,a3,k,hk,(hb k hk).2 ⟨a4,fun e'=>e (by rw[←a5,e'])⟩,a5⟩
theorem pW{b:Tb}{p:Pk}(h:Fits b p):jC b p=(iH b p,0)∧acw b p iC (iH b p) p.bits:=by
 refine⟨?_,EO h 64 iC p.bits (xY _) ⟨fun _ _ h=>h,fun j k _ _ h _ _ _ _=>h⟩⟩;rw[jC,if_neg (by simp[h.ck,h.ok]),if_neg h.mode,if_neg (by simp[h.sd,h.len])]
def dQ.at(t:dQ)(k:Nat):dQ:=⟨t.dl.filter fun d=>d.2.bits.getLsbD k,t.cr.filter fun c=>c.2.2.getLsbD k,t.ls.filter fun x=>x.2.getLsbD k⟩
def dQ.app(t u:dQ):dQ:=⟨t.dl++u.dl,t.cr++u.cr,t.ls++u.ls⟩
structure vG(l:List Tb)(p:Pk):Prop where
 ok:p.ok=true
 all:∀b∈l,Fits b p
theorem vG.mask{l:List Tb}{p:Pk}(h:vG l p)(ht:p.ttl≠0)(m:BitVec 64):vG l (ji p m):=⟨Xd h.ok ht m,fun b hb=>(h.all b hb).mask (h.all b hb) ht m⟩
noncomputable def way(l:List Tb)(k:Nat):Nat→Int×Pk→dQ
 | 0,_=>gX
 | n+1,q=>match bH l q.1 with
   | none=>⟨[],[],[(q.1,q.2.bits)]⟩
   | some b=>if aF b q.2 k=0 then ⟨[],[],[(q.1,(iH b q.2).lost)]⟩
     else if aF b q.2 k=b.r then ⟨[(q.1,f_ q.2 k)],[],[]⟩
     else if q.2.ttl=0 then ⟨[],[],[(q.1,(iH b q.2).lost)]⟩
     else(⟨[],[(q.1,aF b q.2 k,(qJ b q.2 (aF b q.2 k)).bits)],[]⟩:dQ).app (way l k n (aF b q.2 k,qJ b q.2 (aF b q.2 k)))
theorem wP{α:Type}[DecidableEq α]{l:List α}(h:l.Nodup)(a:α):l.filter (fun x=>decide (x=a))=if a∈l then [a]else []:=by
 induction l with
 | nil=>simp
 | cons x l ih=>
   rw[List.nodup_cons]at h
   rw[List.filter_cons,ih h.2];by_cases e:x=a
   ·subst e;simp[h.1]
   ·simp[e,Ne.symm e]
theorem sN{B:BitVec 64}{k:Nat}:k∈ku B↔k<64∧B.getLsbD k=true:=by simp[ku]
theorem IL{p:Pk}(h:p.ok=true){j:Nat}(hj:j<64)(hb:p.bits.getLsbD j=true):f_ p j=⟨p.mode,p.bF,p.set,p.len,p.ttl,p.ent,p.ing,p.proto,1#64<<<j,p.pay⟩:=by
 rw[f_,if_pos ⟨h,by omega,by omega,by simpa using hb⟩];simp
theorem acw.hop{b:Tb}{p:Pk}(h:Fits b p){o:Out}(hF:acw b p iC o p.bits){k:Nat}(hk:k<64):
  o.g_.filter (fun c=>c.2.bits.getLsbD k)=if p.bits.getLsbD k=true∧p.ttl≠0∧aF b p k≠0∧aF b p k≠b.r then [(aF b p k,qJ b p (aF b p k))]else []:=by
 obtain⟨H,h1,h2,h3⟩:=hF.g_;rw[h1];simp only[iC,List.nil_append];rw[List.filter_map];by_cases hb:p.bits.getLsbD k=true
 ·have e:H.filter ((fun c:Int×Pk=>c.2.bits.getLsbD k)∘fun x=>(x,qJ b p x))=H.filter fun x=>decide (x=aF b p k):=by
   apply List.filter_congr;intro x hx;obtain⟨_,a1,a2,j,hj,a3,a4⟩:=(h3 x).1 hx;have hr:=(CX h.ck (k:=j) (p:=p) (by rw[a4];exact a1)).2;rw[a4]at hr
   show(qJ b p x).bits.getLsbD k=_
   rw[Bool.eq_iff_iff,DY h hk hr];simp[hb,eq_comm]
  rw[e,wP h2];by_cases hc:p.ttl≠0∧aF b p k≠0∧aF b p k≠b.r
  ·rw[if_pos ((h3 _).2 ⟨hc.1,hc.2.1,hc.2.2,k,hk,hb,rfl⟩),if_pos ⟨hb,hc⟩];rfl
  ·rw[if_neg (fun a=>hc ⟨((h3 _).1 a).1,((h3 _).1 a).2.1,((h3 _).1 a).2.2.1⟩),if_neg (fun a=>hc a.2)];rfl
 ·rw[if_neg (fun a=>hb a.1)];simp only[List.map_eq_nil_iff,List.filter_eq_nil_iff];intro x hx hc;obtain⟨_,a1,a2,j,hj,a3,a4⟩:=(h3 x).1 hx;have hr:=(CX h.ck (k:=j) (p:=p) (by rw[a4];exact a1)).2;rw[a4]at hr
  exact hb ((DY h hk hr).1 hc).1
theorem II{l:List Tb}{q:Int×Pk}(hF:vG l q.2):∀c∈nextQ l q,vG l c.2:=fun c hc=>by
 cases hf:bH l q.1 with
 | none=>simp[nextQ,hf]at hc
 | some b=>
   have hb:=hF.all b (eY hf).1;obtain⟨h1,h2⟩:=pW hb;have hn:nextQ l q=(iH b q.2).g_:=by simp[nextQ,hf,h1]
   obtain⟨H,h3,h4,h5⟩:=h2.g_;rw[hn,h3]at hc
   simp only[iC,List.nil_append,List.mem_map]at hc;obtain⟨x,hx,rfl⟩:=hc;exact hF.mask ((h5 x).1 hx).1 _
inductive Dl (l:List Tb) (id pl:Int):Int→List Int→Prop
 | here {r:Int} {b:Tb}:bH l r=some b→mG b id pl=r→r≠0→Dl l id pl r []
 | next {r h:Int} {b:Tb} {ws:List Int}:bH l r=some b→mG b id pl=h→h≠0→h≠r→Dl l id pl h ws→Dl l id pl r (h::ws)
theorem Dl.det{l:List Tb}{id pl r:Int}{ws:List Int}(h:Dl l id pl r ws):∀{us:List Int},Dl l id pl r us→ws=us:=by
 induction h with
 | here h1 h2 h3=>
   intro us g;cases g with
   | here=>rfl
   | next g1 g2 g3 g4 _=>
     rw[h1]at g1;simp at g1;subst g1
     exact absurd (g2.symm.trans h2) g4
 | next h1 h2 h3 h4 _ ih=>
   intro us g;cases g with
   | here g1 g2 g3=>
     rw[h1]at g1;simp at g1;subst g1
     exact absurd (h2.symm.trans g2) h4
   | next g1 g2 g3 g4 g5=>
     rw[h1]at g1;simp at g1;subst g1
     have e:=h2.symm.trans g2;subst e;rw[ih g5]
def jW(r:Int):List Int→Int
 | []=>r
 | h::ws=>jW h ws
theorem Dl.rest{l:List Tb}{id pl r:Int}{ws:List Int}(h:Dl l id pl r ws):∀{x:Int},x∈ws→∃us,Dl l id pl x us∧us.length<ws.length:=by
 induction h with
 | here=>intro x hx;simp at hx
 | next h1 h2 h3 h4 h5 ih=>
   intro x hx;rcases List.mem_cons.1 hx with rfl|hx
   ·exact⟨_,h5,by simp⟩
   ·obtain⟨us,g1,g2⟩:=ih hx;exact⟨us,g1,by simp;omega⟩
theorem Dl.nodup{l:List Tb}{id pl r:Int}{ws:List Int}(h:Dl l id pl r ws):(r::ws).Nodup:=by
 induction h with
 | here=>simp
 | @next r h b ws h1 h2 h3 h4 h5 ih=>
   refine List.nodup_cons.2 ⟨fun hm=>?_,ih⟩;have hD:=Dl.next h1 h2 h3 h4 h5;obtain⟨us,g1,g2⟩:=hD.rest hm;have:=hD.det g1;rw[←this]at g2;omega
theorem Dl.found{l:List Tb}{id pl r:Int}{ws:List Int}(h:Dl l id pl r ws):∀x∈r::ws,(bH l x).isSome:=by
 induction h with
 | here h1=>intro x hx;simp at hx;subst hx;simp[h1]
 | next h1 _ _ _ _ ih=>
   intro x hx;rcases List.mem_cons.1 hx with rfl|hx
   ·simp[h1]
   ·exact ih x hx
theorem Dl.len{l:List Tb}{id pl r:Int}{ws:List Int}(h:Dl l id pl r ws):ws.length+1≤l.length:=by
 have:=ajc h.nodup h.found;simpa using this
theorem r_{α:Type}{q:α→Bool}:∀{l:List α} {x:α},x∈l→q x=true→(∀y∈l,q y=true→y=x)→l.find? q=some x
 | [],x,h,_,_=>by simp at h
 | a::l,x,h,hq,hu=>by
   rw[List.find?_cons];cases ha:q a with
   | true=>rw[hu a (by simp) ha]
   | false=>
     rcases List.mem_cons.1 h with rfl|h
     ·rw[hq]at ha;simp at ha
     ·exact r_ h hq (fun y hy=>hu y (by simp[hy]))
theorem aji{g:ay}(hg:g.Ok){x y:Rt}(hx:x∈g.rs)(hy:y∈g.rs)(e:x.id=y.id):x=y:=by
 obtain⟨i,hi,rfl⟩:=List.mem_iff_getElem.1 hx;obtain⟨j,hj,rfl⟩:=List.mem_iff_getElem.1 hy;have hp:=List.pairwise_iff_getElem.1 hg.rpw;rcases Nat.lt_trichotomy i j with hlt|rfl|hlt
 ·have:=hp i j hi hj hlt;omega
 ·rfl
 ·have:=hp j i hj hi hlt;omega
theorem adD{g:ay}(hg:g.Ok){x:Rt}(hx:x∈g.rs):O1 g.rs x.id=some x:=
 r_ hx (by simp) (fun y hy e=>aji hg hy hx (by simpa using e))
theorem xw{g:ay}(hg:g.Ok){r:Int}:dY g.rs r=true↔∃x∈g.rs,x.id=r∧x.cap=true:=by
 constructor
 ·intro h;unfold dY at h;cases hr:O1 g.rs r with
  | none=>simp[hr]at h
  | some x=>
    simp only[hr,Option.getD_some]at h;exact⟨x,List.mem_of_find?_eq_some hr,by simpa using List.find?_some hr,h⟩
 ·rintro⟨x,hx,rfl,hc⟩;simp[dY,adD hg hx,hc]
theorem Zj{g:ay}{p:Pn}{b:Tb}(h:b∈tabs g p g.rs):∃x∈g.rs,x.cap=true∧b=jE g p x.id:=by
 obtain⟨z,hz,rfl⟩:=List.mem_map.1 h;obtain⟨h1,h2⟩:=List.mem_filter.1 hz;exact⟨z,h1,h2,rfl⟩
theorem oU(g:ay)(p:Pn):(tabs g p g.rs).length≤g.rs.length:=by
 simp only[tabs,List.length_map];exact List.length_filter_le _ _
theorem Wk.app{g:ay}{a b:Int}{j k:Nat}{x v w:Int}(h1:Wk g a j x v)(h2:Wk g b k a w):∃u,Wk g b (j+k) x u:=by
 induction h1 with
 | nil=>exact⟨w,by rw[Nat.zero_add];exact h2⟩
 | @cons k' x y c v hp _ ih=>
   obtain⟨u,hu⟩:=ih;exact⟨c+u,by rw[show k'+1+k=k'+k+1 by omega];exact .cons hp hu⟩
def MP(x y:Lk):Prop:=¬(x.a=y.a∧x.b=y.b)
structure zx(b a:Int)(l:List Lk):Prop where
 all:∀x∈l,(1≤x.a∧x.a<x.b∧(x.b<b∨(x.b=b∧x.a<a)))∧(1≤x.ca∧x.ca≤1000)∧(1≤x.cb∧x.cb≤1000)∧0≤x.cap∧x.cap≤1000
 ne:l.Pairwise MP
theorem zx.step{b a cost tree:Int}{skip:Bool}{T:Tp}{l:List Lk}(h:zx b a l)(ha:1≤a)(hab:a<b)(hc:1≤cost∧cost≤1000):zx b (a+1) (dI cost tree skip b a T l).1:=by
 have hw:zx b (a+1) l:=⟨fun x hx=>by have:=h.all x hx;omega,h.ne⟩
 unfold dI;simp only;generalize (if(decide (a=tree) && !skip)=true then(true,T)else dD T 3)=c;cases c.1 with
 | false=>simpa using hw
 | true=>
   simp only[if_true];have r1:=aS c.2 1 cost;have r2:=aQ c.2 (a:=1) (b:=cost) hc.1;generalize aT c.2 1 cost=X at r1 r2;have r3:=aS X.2 1 cost;have r4:=aQ X.2 (a:=1) (b:=cost) hc.1;generalize aT X.2 1 cost=Y at r3 r4;have r5:=aC Y.2 4;have r6:=bg Y.2 (n:=4) (by omega);generalize au Y.2 4=Z at r5 r6;refine⟨fun x hx=>?_,?_⟩
   ·rcases List.mem_append.1 hx with hx|hx
    ·exact hw.all x hx
    ·simp at hx;subst hx;exact⟨⟨ha,hab,.inr ⟨rfl,by show a<a+1;omega⟩⟩,⟨r1,Int.le_trans r2 hc.2⟩,⟨r3,Int.le_trans r4 hc.2⟩,r5,by show Z.1≤1000;omega⟩
   ·rw[List.pairwise_append];refine⟨h.ne,by simp,fun x hx y hy=>?_⟩;simp at hy;subst hy;have:=h.all x hx;unfold MP;simp only;omega
theorem zx.row{b cost tree:Int}{skip:Bool}(hc:1≤cost∧cost≤1000):∀(n:Nat) (a:Int) (T:Tp) (l:List Lk),zx b a l→1≤a→a+n≤b→zx b (a+n) (dV cost tree skip b n a T l).1
 | 0,a,T,l,h,_,_=>by simpa[dV]using h
 | n+1,a,T,l,h,h1,h2=>by
   rw[dV];have:=zx.row (tree:=tree) (skip:=skip) hc n (a+1) (dI cost tree skip b a T l).2 _ (h.step (tree:=tree) (skip:=skip) (T:=T) h1 (by omega) hc) (by omega) (by omega);rw[show a+((n+1:Nat):Int)=a+1+n by omega];exact this
theorem y8{α:Type}{q:α→α→Bool}{r:α→α→Prop}(hr:∀x y,r x y→q x y=false):∀{l:List α},l.Pairwise r→nO q l=false
 | [],_=>rfl
 | [x],_=>rfl
 | x::y::l,h=>by
   rw[List.pairwise_cons]at h
   rw[nO,hr x y (h.1 y (by simp)),y8 hr h.2];rfl
structure Wh(l:List Tb)(Q:List (Int×Pk))(t:dQ):Prop where
 fit:∀q∈Q,vG l q.2∧(bH l q.1=none→q.2.bits≠0#64)
 dl:∀d∈t.dl,∃k<64,d.2.bits=1#64<<<k
 ls:∀x∈t.ls,x.2≠0#64
 cr:∀c∈t.cr,c.2.2≠0#64
theorem Wh.step{l:List Tb}{q:Int×Pk}{Q:List (Int×Pk)}{t:dQ}(h:Wh l (q::Q) t):Wh l (Q++nextQ l q) (stepT l q t):=by
 have hq:=h.fit q (by simp);have hQ:∀c∈Q,vG l c.2∧(bH l c.1=none→c.2.bits≠0#64):=fun c hc=>h.fit c (by simp[hc])
 cases hf:bH l q.1 with
 | none=>
   have hn:nextQ l q = []:=by simp[nextQ,hf]
   rw[hn,List.append_nil];refine⟨hQ,?_,?_,?_⟩<;>simp only[stepT,hf]
   ·exact h.dl
   ·intro x hx;rcases List.mem_append.1 hx with hx|hx
    ·exact h.ls x hx
    ·simp at hx;subst hx;exact hq.2 hf
   ·exact h.cr
 | some b=>
   have hb:=hq.1.all b (eY hf).1;obtain⟨h1,h2⟩:=pW hb;have hn:nextQ l q=(iH b q.2).g_:=by simp[nextQ,hf,h1]
   obtain⟨H,h3,h4,h5⟩:=h2.g_;have hc:∀c∈(iH b q.2).g_,c.2.bits≠0#64:=fun c hc=>by
    rw[h3]at hc
    simp only[iC,List.nil_append,List.mem_map]at hc;obtain⟨x,hx,rfl⟩:=hc;obtain⟨_,a1,a2,k,hk,a3,a4⟩:=(h5 x).1 hx;have hr:=(CX hb.ck (k:=k) (p:=q.2) (by rw[a4];exact a1)).2;rw[a4]at hr
    have:=(DY hb hk hr).2 ⟨a3,a4⟩;intro e;simp only at e;rw[e]at this;simp at this
   refine⟨fun c hm=>?_,?_,?_,?_⟩
   ·rcases List.mem_append.1 hm with hm|hm
    ·exact hQ c hm
    ·exact⟨II hq.1 c hm,fun _=>hc c (by rw[←hn];exact hm)⟩
   ·simp only[stepT,hf,h1];intro d hd;rcases List.mem_append.1 hd with hd|hd
    ·exact h.dl d hd
    ·simp only[nI,lg,List.map_map,List.mem_map]at hd;obtain⟨k,hk,rfl⟩:=hd;obtain⟨k1,k2⟩:=sN.1 hk;have hpb:q.2.bits.getLsbD k=true:=by
      rcases (h2.loc k k1).1 k2 with a|a
      ·simp[iC]at a
      ·exact a.1
     refine⟨k,k1,?_⟩
     show(f_ q.2 (Int.ofNat k)).bits=_
     have:=IL hq.1.ok k1 hpb;rw[Int.ofNat_eq_natCast,this]
   ·simp only[stepT,hf,h1];intro x hx;split at hx
    ·exact h.ls x hx
    ·rename_i hne;rcases List.mem_append.1 hx with hx|hx
     ·exact h.ls x hx
     ·simp at hx;subst hx;exact hne
   ·simp only[stepT,hf,h1];intro c hm;rcases List.mem_append.1 hm with hm|hm
    ·exact h.cr c hm
    ·obtain⟨x,hx,rfl⟩:=List.mem_map.1 hm;exact hc x hx
def fH(g:ay):Int→List Int→Option Int
 | _,[]=>some 0
 | r,h::ws=>match price g.ls r h,fH g h ws with
   | some c,some v=>some (c+v)
   | _,_=>none
def B_(g:ay):Prop:=∀x∈g.rs,x.cap=true
theorem B_.cap{g:ay}(hg:g.Ok)(h:B_ g){r:Int}(hr:aY g.rs r=true):dY g.rs r=true:=by
 obtain⟨x,hx,rfl⟩:=List.mem_map.1 (dH.1 hr);exact(xw hg).2 ⟨x,hx,rfl,h x hx⟩
open Go Go.Tr
def BU(cp:Int→Bool)(to:Int)(go:Int→List Int):List Int→List Int
 | []=>[]
 | n::l=>if n=to then [to]else if cp n=true then BU cp to go l else if go n = []then BU cp to go l else n::go n
def J5(nx:Int→List Int)(cp:Int→Bool)(to:Int):Nat→Int→List Int
 | 0,_=>[]
 | k+1,r=>BU cp to (J5 nx cp to k) (nx r)
def Xk(l:List Int):TV:=match l with
 | []=>.c (.slice none 0 0)
 | _::_=>.d (ints l)
theorem SY{l:List Int}(h:l = []):Xk l = .c (.slice none 0 0):=by subst h;rfl
theorem ahq{l:List Int}(h:l≠[]):Xk l = .d (ints l):=by
 cases l with
 | nil=>exact absurd rfl h
 | cons x l=>rfl
def Hf(g:ay)(to r:Int):List Int:=steps g (dist g to) r
def route(g:ay)(f t:Int):List Int:=
 if cZ g=0∧aY g.rs f=true∧aY g.rs t=true∧¬f=t then J5 (Hf g t) (dY g.rs) t ((dst g t f).toNat+1) f else []
theorem XG{g:ay}(hg:g.Ok){to x y:Int}(h:y∈Hf g to x):∃c,price g.ls x y=some c∧c+dst g to y=dst g to x∧aY g.rs x=true∧aY g.rs y=true:=by
 obtain⟨_,_,_,c,hp,hc⟩:=(lM hg).1 h;exact⟨c,hp,hc,(jA hg hp).1,(jA hg hp).2⟩
theorem QA{g:ay}(hg:g.Ok)(to r:Int):(Hf g to r).length≤24:=by
 have:(Hf g to r).length≤g.rs.length:=by
  unfold Hf steps;split
  ·simp
  ·refine Nat.le_trans (List.length_filter_le _ _) ?_;unfold near;rw[List.length_map];exact List.length_filter_le _ _
 have:=hg.nr;omega
theorem Ei{g:ay}(hg:g.Ok){to r n:Int}{k:Nat}(hk:(dst g to r).toNat<k+1)(hn:n∈Hf g to r):(dst g to n).toNat<k∧aY g.rs n=true:=by
 have h1:=(zY hg hn).1;have h2:=(rZ hg to n).1;obtain⟨_,_,_,_,h⟩:=XG hg hn;exact⟨by omega,h⟩
structure Down(g:ay)(to:Int)(r:Int)(w:List Int):Prop where
 cost:∃C,fH g r w=some C∧C=dst g to r
 last:jW r w=to
 inn:∀x∈w,x=to∨dY g.rs x=false
 dsc:(r::w).Pairwise fun x y=>dst g to y<dst g to x
 has:∀x∈w,aY g.rs x=true
theorem Down.one{g:ay}(hg:g.Ok){to r:Int}(hto:aY g.rs to=true)(h:to∈Hf g to r):Down g to r [to]:=by
 obtain⟨c,hp,hc,_,_⟩:=XG hg h;have h0:=QY hg hto;have h1:=(zY hg h).1;exact⟨⟨c,by simp[fH,hp],by omega⟩,rfl,by simp,by simp;omega,by simpa using hto⟩
theorem Down.cons{g:ay}(hg:g.Ok){to r n:Int}{w:List Int}(h:n∈Hf g to r)(hc:dY g.rs n=false)(hw:Down g to n w):Down g to r (n::w):=by
 obtain⟨c,hp,hcd,_,hn⟩:=XG hg h;have h1:=(zY hg h).1;obtain⟨C,hC,hCd⟩:=hw.cost;refine⟨⟨c+C,by simp[fH,hp,hC],by omega⟩,hw.last,fun x hx=>?_,?_,fun x hx=>?_⟩
 ·rcases List.mem_cons.1 hx with rfl|hx
  ·exact .inr hc
  ·exact hw.inn x hx
 ·refine List.pairwise_cons.2 ⟨fun y hy=>?_,hw.dsc⟩;rcases List.mem_cons.1 hy with rfl|hy
  ·exact h1
  ·have:=(List.pairwise_cons.1 hw.dsc).1 y hy;omega
 ·rcases List.mem_cons.1 hx with rfl|hx
  ·exact hn
  ·exact hw.has x hx
theorem Y_{g:ay}(hg:g.Ok){to r:Int}(hto:aY g.rs to=true){go:Int→List Int}(hgo:∀n∈Hf g to r,n≠to→go n≠[]→Down g to n (go n)):
  ∀l:List Int,(∀n∈l,n∈Hf g to r)→BU (dY g.rs) to go l≠[]→Down g to r (BU (dY g.rs) to go l)
 | [],_,h=>absurd rfl h
 | n::l,hl,h=>by
   have ih:=Y_ hg hto hgo l fun x hx=>hl x (List.mem_cons_of_mem _ hx)
   have hn:=hl n (List.mem_cons_self ..);unfold BU at h⊢;split
   ·rename_i e;subst e;exact Down.one hg hto hn
   ·rename_i h1;rw[if_neg h1]at h
    split
    ·rename_i h2;rw[if_pos h2]at h;exact ih h
    ·rename_i h2;rw[if_neg h2]at h
     split
     ·rename_i h3;rw[if_pos h3]at h;exact ih h
     ·rename_i h3;exact Down.cons hg hn (by simpa using h2) (hgo n hn h1 h3)
theorem FD{g:ay}(hg:g.Ok){to:Int}(hto:aY g.rs to=true):∀(k:Nat) (r:Int),(dst g to r).toNat<k→J5 (Hf g to) (dY g.rs) to k r≠[]→Down g to r (J5 (Hf g to) (dY g.rs) to k r)
 | 0,_,h,_=>by omega
 | k+1,r,hk,h=>Y_ hg hto (fun n hn _ hne=>FD hg hto k n (Ei hg hk hn).1 hne) _ (fun _ h=>h) h
theorem Dk{g:ay}{f t:Int}(h:route g f t≠[]):Down g t f (route g f t)∧g.Ok:=by
 unfold route at h⊢;split
 ·rename_i hc;rw[if_pos hc]at h
  exact⟨FD (aU hc.1) hc.2.2.1 _ _ (by omega) h,aU hc.1⟩
 ·rename_i hc;rw[if_neg hc]at h;exact absurd rfl h
theorem Down.nodup{g:ay}{t r:Int}{w:List Int}(h:Down g t r w):(r::w).Nodup:=h.dsc.imp fun {x y} hlt e=>by subst e;omega
theorem Down.len{g:ay}(hg:g.Ok){t r:Int}{w:List Int}(h:Down g t r w):w.length≤24:=by
 have:=BG (g:=g) (List.nodup_cons.1 h.nodup).2 h.has;have:=hg.nr;omega
theorem pK(g:ay)(f t:Int):(route g f t).length≤24:=by
 by_cases h:route g f t = []
 ·simp[h]
 ·obtain⟨h1,h2⟩:=Dk h;exact h1.len h2
end Go.Proofs

set_option maxRecDepth 100000
set_option maxHeartbeats 16000000
namespace Go.Proofs
open Go Go.Tr
theorem Nw{cp:Int→Bool}{to:Int}{go:Int→List Int}{l:List Int}{i:Nat}{n:Int}(h:l[i]? = some n):BU cp to go (l.drop i)=if n=to then [to]else if cp n=true then BU cp to go (l.drop (i+1))else if go n = []then BU cp to go (l.drop (i+1))else n::go n:=by
 obtain⟨hi,rfl⟩:=List.getElem?_eq_some_iff.1 h;rw[List.drop_eq_getElem_cons hi,BU]
end Go.Proofs

namespace Go.Tr
open Go
theorem ah.view{P:Program}{A:eX}{ops:Array Oper}{i:Nat}{t:S}{k:List Pl→List (Pl×It)→Prop}{g:Tg k}(ss:List Nat)
  (h:(pF t (ss.map .tmp)).C∧ah P A ops i (over t (pF t (ss.map .tmp)).W) (fun rp W=>k ((pF t (ss.map .tmp)).rp++rp) (W++(pF t (ss.map .tmp)).W)) .mk):ah P A ops i t k g:=by
 obtain⟨h0,⟨rp,W,h1,h2⟩⟩:=h;exact⟨⟨_,_,h1.viewed _ h0,h2⟩⟩
def Bf(b n:Nat)(f:Nat→It)(l:List (Pl×It)):List (Pl×It):=(List.range n).map (fun i=>(Pl.o (b+i),f i))++l
theorem yV{b:Nat}{f:Nat→It}{l:List (Pl×It)}{p:Pl}:∀{ks:List Nat},(∀i∈ks,p≠.o (b+i))→look (ks.map (fun i=>(Pl.o (b+i),f i))++l) p=look l p
 | [],_=>rfl
 | k::ks,h=>by
   rw[List.map_cons,List.cons_append,look,if_neg (h k (by simp))];exact yV fun i hi=>h i (by simp[hi])
theorem PE{b:Nat}{f:Nat→It}{l:List (Pl×It)}{i:Nat}:∀{ks:List Nat},i∈ks→look (ks.map (fun i=>(Pl.o (b+i),f i))++l) (.o (b+i))=f i
 | [],h=>by simp at h
 | k::ks,h=>by
   rw[List.map_cons,List.cons_append,look];by_cases e:i=k
   ·subst e;rw[if_pos rfl]
   ·rw[if_neg (by simpa using e)];exact PE (by simpa[e]using h)
theorem wV{b:Nat}{f:Nat→It}{l:List (Pl×It)}{p:Pl}{v:It}:∀{ks:List Nat},(∀i∈ks,p≠.o (b+i))→iI p v (ks.map (fun i=>(Pl.o (b+i),f i))++l)=ks.map (fun i=>(Pl.o (b+i),f i))++iI p v l
 | [],_=>rfl
 | k::ks,h=>by
   rw[List.map_cons,List.cons_append,iI,if_neg (h k (by simp)),wV fun i hi=>h i (by simp[hi])];rfl
theorem PU{b:Nat}{f:Nat→It}{l:List (Pl×It)}{v:It}{i:Nat}:∀{ks:List Nat},i∈ks→ks.Nodup→iI (.o (b+i)) v (ks.map (fun i=>(Pl.o (b+i),f i))++l)=ks.map (fun j=>(Pl.o (b+j),if j=i then v else f j))++l
 | [],h,_=>by simp at h
 | k::ks,h,nd=>by
   have nd':=List.nodup_cons.1 nd;rw[List.map_cons,List.cons_append,iI,List.map_cons,List.cons_append];by_cases e:i=k
   ·subst e;rw[if_pos rfl,if_pos rfl]
    congr 2
    refine List.map_congr_left fun j hj=>?_
    rw[if_neg (fun e=>nd'.1 (by rw[←e];exact hj))]
   ·rw[if_neg (by simpa using e),if_neg (fun h=>e h.symm),PU (by simpa[e]using h) nd'.2]
variable {b n:Nat} {f:Nat→It} {l:List (Pl×It)}
theorem aaE(k:Nat):look (Bf b n f l) (.s k)=look l (.s k):=yV (by simp)
theorem aaF(k:Nat):look (Bf b n f l) (.x k)=look l (.x k):=yV (by simp)
theorem aaD{k:Nat}(h:k<b):look (Bf b n f l) (.o k)=look l (.o k):=yV (by intro i _ e;simp only[Pl.o.injEq]at e;omega)
theorem PD{k:Nat}(h:b+n≤k):look (Bf b n f l) (.o k)=look l (.o k):=yV (by intro i hi e;simp only[Pl.o.injEq]at e;have:=List.mem_range.1 hi;omega)
theorem Iz{i:Nat}(h:i<n):look (Bf b n f l) (.o (b+i))=f i:=PE (List.mem_range.2 h)
theorem aaW(k:Nat)(v:It):iI (.s k) v (Bf b n f l)=Bf b n f (iI (.s k) v l):=wV (by simp)
theorem aaV{k:Nat}(v:It)(h:k<b):iI (.o k) v (Bf b n f l)=Bf b n f (iI (.o k) v l):=wV (by intro i _ e;simp only[Pl.o.injEq]at e;omega)
theorem Y4{k:Nat}(v:It)(h:b+n≤k):iI (.o k) v (Bf b n f l)=Bf b n f (iI (.o k) v l):=wV (by intro i hi e;simp only[Pl.o.injEq]at e;have:=List.mem_range.1 hi;omega)
theorem Y3{i:Nat}(v:It)(h:i<n):iI (.o (b+i)) v (Bf b n f l)=Bf b n (fun j=>if j=i then v else f j) l:=PU (List.mem_range.2 h) List.nodup_range
theorem EH{P:Pl×It→Prop}:(∀x∈Bf b n f l,P x)↔(∀i,i<n→P (.o (b+i),f i))∧∀x∈l,P x:=by
 unfold Bf;constructor
 ·intro h;exact⟨fun i hi=>h _ (List.mem_append.2 (.inl (List.mem_map.2 ⟨i,List.mem_range.2 hi,rfl⟩))),fun x hx=>h x (List.mem_append.2 (.inr hx))⟩
 ·rintro⟨h1,h2⟩ x hx;rcases List.mem_append.1 hx with hx|hx
  ·obtain⟨i,hi,rfl⟩:=List.mem_map.1 hx;exact h1 i (List.mem_range.1 hi)
  ·exact h2 x hx
theorem acG{P:Pl→It→Prop}:(∀p i,(p,i)∈Bf b n f l→P p i)↔(∀i,i<n→P (.o (b+i)) (f i))∧∀p i,(p,i)∈l→P p i:=by
 have h:=EH (b:=b) (n:=n) (f:=f) (l:=l) (P:=fun x=>P x.1 x.2);constructor
 ·intro g;have:=h.1 fun x hx=>g x.1 x.2 hx
  exact⟨this.1,fun p i hx=>this.2 _ hx⟩
 ·intro g p i hx;exact h.2 ⟨g.1,fun x hx=>g.2 _ _ hx⟩ _ hx
theorem Nh:∀(a c:List (Pl×It)),jy (a++c)=jy a++jy c
 | [],_=>rfl
 | (.o k,i)::a,c=>by simp[jy,Nh a c]
 | (.s k,i)::a,c=>by simp[jy,Nh a c]
 | (.x k,i)::a,c=>by simp[jy,Nh a c]
theorem NQ:∀(a c:List (Pl×It)),jP (a++c)=jP a++jP c
 | [],_=>rfl
 | (.o k,i)::a,c=>by simp[jP,NQ a c]
 | (.s k,i)::a,c=>by simp[jP,NQ a c]
 | (.x k,i)::a,c=>by simp[jP,NQ a c]
theorem Jv(kp:Nat→Bool):∀(a c:List (Pl×It)),rO kp (a++c)=rO kp a++rO kp c
 | [],_=>rfl
 | (.o k,i)::a,c=>by simp[Xa,Jv kp a c]
 | (.s k,i)::a,c=>by
   simp only[List.cons_append,abR,Jv kp a c];split<;>rfl
 | (.x k,i)::a,c=>by simp[abS,Jv kp a c]
theorem YZ(b:Nat)(f:Nat→It):∀ks:List Nat,jy (ks.map fun i=>(Pl.o (b+i),f i))=ks.map (b + ·)
 | []=>rfl
 | k::ks=>by simp[jy,YZ b f ks]
theorem Zt(b:Nat)(f:Nat→It):∀ks:List Nat,jP (ks.map fun i=>(Pl.o (b+i),f i)) = []
 | []=>rfl
 | k::ks=>by simp[jP,Zt b f ks]
theorem Vy(kp:Nat→Bool)(b:Nat)(f:Nat→It):∀ks:List Nat,rO kp (ks.map fun i=>(Pl.o (b+i),f i))=ks.map fun i=>(Pl.o (b+i),f i)
 | []=>rfl
 | k::ks=>by simp[Xa,Vy kp b f ks]
theorem aft{k:Nat}:k∈jy (Bf b n f l)↔(b≤k∧k<b+n)∨k∈jy l:=by
 rw[Bf,Nh,YZ,List.mem_append];refine or_congr ?_ Iff.rfl;rw[List.mem_map];constructor
 ·rintro⟨i,hi,rfl⟩;have:=List.mem_range.1 hi;omega
 ·intro h;exact⟨k-b,List.mem_range.2 (by omega),by omega⟩
theorem agw:jP (Bf b n f l)=jP l:=by rw[Bf,NQ,Zt,List.nil_append]
theorem ada(kp:Nat→Bool):rO kp (Bf b n f l)=Bf b n f (rO kp l):=by rw[Bf,Jv,Vy,Bf]
theorem aeC:Bf b 0 f l=l:=rfl
theorem uT{a i k:Nat}(h:k<a):¬a+i=k:=by omega
theorem uU{a i k:Nat}(h:k<a):¬k=a+i:=by omega
theorem Sub.Bf{t:S}(h1:∀j,j<n→f j=t (.o (b+j)))(h2:∀x∈l,look (Tr.Bf b n f l) x.1=t x.1)(h3:∀j,j<n→(f j).only (· ∈jy (Tr.Bf b n f l)))(h4:∀x∈l,x.2.only (· ∈jy (Tr.Bf b n f l))):Sub t (Tr.Bf b n f l):=
 ⟨EH.2 ⟨fun j hj=>by rw[Iz hj];exact h1 j hj,h2⟩,EH.2 ⟨h3,h4⟩⟩
attribute [simp] aaE aaF aaD PD Iz aaW aaV Y4 Y3 EH acG aft agw ada
end Go.Tr

namespace Go.Tr
open Go
section
variable {A:eX}
theorem SE{E:En}{v v':TV}(hr:∀u,aA E v u→aA E v' u){k:List Int}:∀{es:List (List Int×TV)} {i:Nat} {l:List MapEntry},es[i]? = some (k,v)→jD E es l→jD E (es.set i (k,v')) l
 | [],_,_,h,_=>by simp at h
 | x::es,0,l,h,hm=>by
   simp only[List.getElem?_cons_zero,Option.some.injEq]at h;subst h;simp only[jD]at hm;simp only[List.set_cons_zero,jD];obtain⟨a,l',h1,h2,h3,h4⟩:=hm;exact⟨a,l',h1,h2,hr _ h3,h4⟩
 | (k',w)::es,i+1,l,h,hm=>by
   simp only[List.getElem?_cons_succ]at h;simp only[jD]at hm;simp only[List.set_cons_succ,jD];obtain⟨a,l',h1,h2,h3,h4⟩:=hm;exact⟨a,l',h1,h2,h3,SE hr h h4⟩
theorem dL.aaG{t:S}{a:Act}{E:En}{id c:Nat}{es es':List (List Int×TV)}{pd:Option (List Int)}{s:Option mJ}(hi:dL A t a E)(ht:t (.o id) = .jX es c pd s)(hrel:∀l',jD E es l'→∃l2,l2.Perm l'∧jD E es' l2):
  dL A (upd t (.o id) (.jX es' c pd s)) a E:=by
 refine⟨⟨fun q hq=>?_,hi.h.frees,hi.h.inj,hi.h.size,hi.h.oQ,fun b o h1 q h2=>?_,hi.h.gl⟩,hi.fr,fun j tv hj=>?_,hi.defers,hi.size⟩
 ·by_cases eq:q = .o id
  ·subst eq;have h:=hi.h.item (.o id) hq;rw[ht]at h
   simp only[upd,if_true];obtain⟨id',b,l,clock,l',ty,v,h1,h2,h3,h4,h5,h6,h7,h8,h9⟩:=h;obtain⟨l2,g1,g2⟩:=hrel l' h5;exact⟨id',b,l,clock,l2,ty,v,h1,h2,h3,g1.trans h4,g2,h6,h7,h8,h9⟩
  ·simp only[upd,if_neg eq];exact hi.h.item q hq
 ·obtain⟨e2,k2,es2,h3,h4⟩:=hi.h.sep b o h1 q h2;have eq:q≠.o id:=fun e=>by subst e;rw[ht]at h3;simp at h3
  exact⟨e2,k2,es2,by simp only[upd,if_neg eq];exact h3,h4⟩
 ·simp only[upd,reduceCtorEq,if_false]at hj;exact hi.sl j tv hj
theorem GS.ak5{t:S}{nH c:Nat}{es:List (List Int×TV)}{pd:Option (List Int)}{s:Option mJ}{i id:Nat}{k:List Int}(e z:Nat)(h0:t (.o nH) = .jX es c pd s)(hi:es[i]? = some (k,.c (.slice none 0 0)))(ho:t (.o id) = .none):
  GS A t (upd (upd t (.o id) (.row e z [] false)) (.o nH) (.jX (es.set i (k,.aB id 0)) c pd s)):=fun a w ⟨E,hw,hE⟩=>by
 obtain⟨E',hw',x,hi',hv⟩:=hE.newRow ho e z;have hne:nH≠id:=fun e=>by subst e;rw[h0]at ho;simp at ho
 refine⟨E',hw'.trans hw,hi'.aaG (es:=es) (by simp only[upd,Pl.o.injEq,if_neg hne];exact h0) fun l' hl=>⟨l',.refl _,SE (fun u hu=>?_) hi hl⟩⟩;simp only[aA]at hu⊢;exact⟨by rw[hu];rfl,z,0,_,hv,Nat.le_refl _,fun _=>hu⟩
theorem GS.ape{t:S}{nH c:Nat}{es:List (List Int×TV)}{pd:Option (List Int)}{s:Option mJ}{i id n e z:Nat}{rs:List (List TV)}{sh:Bool}{xs:List (List D)}{k:List Int}(h0:t (.o nH) = .jX es c pd s)(hi:es[i]? = some (k,.aB id n))(ht:t (.o id) = .row e z rs sh)(hn:n=rs.length)(hx:eu rs=some xs):
  GS A t (upd (upd t (.o id) (.row e z rs true)) (.o nH) (.jX (es.set i (k,.d (.sl xs))) c pd s)):=fun a w ⟨E,hw,hE⟩=>by
 subst hn;obtain⟨E',hw',x,hb,hv,hi',hr',_⟩:=hE.freeze ht hx;have hne:nH≠id:=fun e=>by subst e;rw[h0]at ht;simp at ht
 refine⟨E',hw'.trans hw,hi'.aaG (es:=es) (by simp only[upd,Pl.o.injEq,if_neg hne];exact h0) fun l' hl=>⟨l',.refl _,SE (fun u hu=>?_) hi hl⟩⟩;simp only[aA];refine hr' u ?_;simp only[aA]at hu⊢;rw[hv]at hu
 exact hu
theorem adf{E:En}{es es':List (List Int×TV)}(h:es.Perm es'):∀{l:List MapEntry},jD E es l→∃l2,l2.Perm l∧jD E es' l2:=by
 induction h with
 | nil=>intro l h;exact⟨l,.refl _,h⟩
 | @cons x l1 l2 hp ih=>
   intro l h;obtain⟨k,v⟩:=x;simp only[jD]at h;obtain⟨a,l',rfl,h2,h3,h4⟩:=h;obtain⟨m,hm,hk⟩:=ih h4;exact⟨a::m,hm.cons a,by simp only[jD];exact⟨a,m,rfl,h2,h3,hk⟩⟩
 | swap x y l1=>
   intro l h;obtain⟨kx,vx⟩:=x;obtain⟨ky,vy⟩:=y;simp only[jD]at h;obtain⟨a,l',rfl,h2,h3,b,l'',rfl,h5,h6,h7⟩:=h;exact⟨b::a::l'',List.Perm.swap _ _ _,by simp only[jD];exact⟨b,_,rfl,h5,h6,a,l'',rfl,h2,h3,h7⟩⟩
 | trans _ _ ih1 ih2=>
   intro l h;obtain⟨m,h1,h2⟩:=ih1 h;obtain⟨m2,h3,h4⟩:=ih2 h2;exact⟨m2,h3.trans h1,h4⟩
theorem GS.ak7{t:S}{nH c:Nat}{es es':List (List Int×TV)}{pd:Option (List Int)}{s:Option mJ}(h0:t (.o nH) = .jX es c pd s)(hp:es.Perm es'):GS A t (upd t (.o nH) (.jX es' c pd s)):=fun a w ⟨E,hw,hE⟩=>
 ⟨E,hw,hE.aaG h0 fun l' hl=>adf hp hl⟩
theorem GS.afE{l l':List (Pl×It)}(nH:Nat){c:Nat}{es es':List (List Int×TV)}{pd:Option (List Int)}{s:Option mJ}(h0:look l (.o nH) = .jX es c pd s)(hp:es.Perm es')
  (h:Sub (look (iI (.o nH) (.jX es' c pd s) l)) l'∧jP l'=jP (iI (.o nH) (.jX es' c pd s) l)):GS A (look l) (look l'):=by
 have:=GS.ak7 (A:=A) h0 hp;rw[eU]at this
 exact this.trans (GS.forget h.1 h.2)
end
def oh(n b:Nat)(k:Nat→List Int)(f:Nat→Nat):List (List Int×TV):=(List.range n).map fun i=>(k i,.aB (b+i) (f i))
theorem SK{n b:Nat}{k:Nat→List Int}{f:Nat→Nat}(hk:∀i j,i<n→j<n→k i=k j→i=j){i:Nat}(hi:i<n):uq (oh n b k f) (k i)=some (.aB (b+i) (f i)):=by
 refine YF ?_ (List.mem_map.2 ⟨i,List.mem_range.2 hi,rfl⟩);rw[oh,List.map_map,List.nodup_iff_pairwise_ne,List.pairwise_map];refine List.Pairwise.imp_of_mem ?_ List.nodup_range;intro a c ha hc hne e;exact hne (hk a c (List.mem_range.1 ha) (List.mem_range.1 hc) e)
theorem YG{k:Nat→List Int}{f:Nat→TV}{v:TV}{i:Nat}:∀{ks:List Nat},i∈ks→(∀a∈ks,∀c∈ks,k a=k c→a=c)→ks.Nodup→zu (ks.map fun i=>(k i,f i)) (k i) v=ks.map fun j=>(k j,if j=i then v else f j)
 | [],h,_,_=>by simp at h
 | a::ks,h,hk,nd=>by
   have nd':=List.nodup_cons.1 nd;rw[List.map_cons,zu,List.map_cons];by_cases e:i=a
   ·subst e;rw[if_pos rfl,if_pos rfl]
    congr 1
    refine List.map_congr_left fun j hj=>?_
    rw[if_neg (fun e=>nd'.1 (by rw[←e];exact hj))]
   ·rw[if_neg (fun g=>e (hk i h a (by simp) g)),if_neg (fun h=>e h.symm)]
    congr 1
    exact YG (by simpa[e]using h) (fun x hx y hy=>hk x (by simp[hx]) y (by simp[hy])) nd'.2
theorem YO{n b:Nat}{k:Nat→List Int}{f:Nat→Nat}(hk:∀i j,i<n→j<n→k i=k j→i=j){i m:Nat}(hi:i<n):zu (oh n b k f) (k i) (.aB (b+i) m)=oh n b k fun j=>if j=i then m else f j:=by
 unfold oh;rw[YG (List.mem_range.2 hi) (fun a ha c hc=>hk a c (List.mem_range.1 ha) (List.mem_range.1 hc)) List.nodup_range];refine List.map_congr_left fun j _=>?_
 by_cases e:j=i
 ·subst e;simp
 ·simp[e]
theorem adh(n b:Nat)(k:Nat→List Int)(f:Nat→Nat):oh (n+1) b k f=oh n b k f++[(k n,.aB (b+n) (f n))]:=by
 simp[oh,List.range_succ]
end Go.Tr
