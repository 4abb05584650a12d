/-
  What functions of the program compute, stated as contracts over plain data; the conditions of each stand in its own statement.
-/
import Derived.Test.YtkikielfhjoogaaGreatDoorZA20
set_option linter.unusedVariables false
set_option linter.unusedSimpArgs false
namespace Go.Proofs
open Go Go.Tr
theorem afo(m:Mk)(k n:Int)(d:BitVec 64):BI (Zl m k d) n=if n=k then d else BI m n:=by
 induction m with
 | nil=>by_cases e:n=k<;>simp[Zl,BI,e]
 | cons a m ih=>
   obtain⟨k',d'⟩:=a;simp only[Zl];by_cases e:k=k'
   ·subst e;rw[if_pos rfl];by_cases e2:n=k<;>simp[BI,e2]
   ·rw[if_neg e];by_cases e2:n=k'
    ·have e3 :¬n=k:=fun h=>e (by rw[←h,e2])
     simp only[BI,fQ,decide_eq_true e2,if_neg e3]
    ·simp only[BI,fQ,decide_eq_false e2]at ih⊢;exact ih
theorem Ak{j k:Nat}(hj:j<64)(hk:k<64):(1#64<<<j).getLsbD k=decide (k=j):=by
 rw[BitVec.getLsbD_shiftLeft];by_cases e:k=j
 ·subst e;simp[hk]
 ·simp[hk,e];omega
theorem WT(b:Tb)(p s n:Int){k:Nat}(hk:k<64):∀(l:List Rw) (m:Mk),(BI (l.foldl (ql b p s) m) n).getLsbD k=true↔(BI m n).getLsbD k=true∨∃x∈l,uX x.id b.len=s∧tV x.id b.len=k∧vT x p=n∧n≠0
 | [],m=>by simp
 | x::l,m=>by
   rw[bV,WT b p s n hk l];have hpl:=plB x.id b.len;have hs:(BI (ql b p s m x) n).getLsbD k=true↔(BI m n).getLsbD k=true∨(uX x.id b.len=s∧tV x.id b.len=k∧vT x p=n∧n≠0):=by
    unfold ql;split
    ·rename_i hc;rw[afo];by_cases e:n=vT x p
     ·rw[if_pos e,kX,Ak (by omega) hk,bJ,decide_eq_true_eq,←e];constructor
      ·rintro (h|h)
       ·exact .inl h
       ·exact .inr ⟨hc.1,by omega,rfl,by rw[e];exact hc.2⟩
      ·rintro (h|h)
       ·exact .inl h
       ·exact .inr (by omega)
     ·rw[if_neg e];constructor
      ·exact .inl
      ·rintro (h|h)
       ·exact h
       ·exact absurd h.2.2.1.symm e
    ·rename_i hc;constructor
     ·exact .inl
     ·rintro (h|h)
      ·exact h
      ·exact absurd ⟨h.1,by rw[h.2.2.1];exact h.2.2.2⟩ hc
   rw[hs];simp only[aF,exists_eq_or_imp,or_assoc]
theorem WE{k j:Nat}(hk:k<64)(hj:j<64):(Jl k).getLsbD j=decide (j=k):=by
 unfold Jl;rw[if_neg (by omega),ED];have:((k:Int)%18446744073709551616).toNat=k:=by omega
 rw[this,Ak hk hj]
theorem DU(b:Tb)(p s n:Int){j:Nat}(hj:j<64):∀K:Nat,K≤64→((NJ b p s n K).getLsbD j=true↔j<K∧Y2 s j b.len=true∧0<n∧xP b (s*b.len+j+1) p=n)
 | 0,_=>by simp[NJ]
 | K+1,hK=>by
   have ih:=DU b p s n hj K (by omega);rw[NJ];split
   ·rename_i hc;rw[kX,WE (by omega) hj,bJ,decide_eq_true_eq,ih];constructor
    ·rintro (h|h)
     ·exact⟨by omega,h.2⟩
     ·subst h;exact⟨by omega,hc⟩
    ·rintro⟨h1,h2⟩;by_cases e:j=K
     ·exact .inr e
     ·exact .inl ⟨by omega,h2⟩
   ·rename_i hc;rw[ih];constructor
    ·rintro⟨h1,h2⟩;exact⟨by omega,h2⟩
    ·rintro⟨h1,h2⟩;by_cases e:j=K
     ·subst e;exact absurd h2 hc
     ·exact⟨by omega,h2⟩
theorem aiO{b:Tb}(h:chk b=0):b.BP:=Classical.byContradiction fun g=>by
 unfold chk at h;split at h
 ·simp at h
 split at h
 ·simp at h
 split at h
 ·simp at h
 split at h
 ·simp at h
 simp at h
theorem aeK{b:Tb}(h:chk b=0){x:Rw}(hx:x∈b.rows):rowOf b x.id=some x:=by
 have hasc:=(aiO h).1;unfold rowOf;have:∀l:List Rw,(l.map (·.id)).Pairwise (· < ·)→x∈l→l.find? (fun y=>decide (y.id=x.id))=some x:=by
  intro l
  induction l with
  | nil=>intro _ h;simp at h
  | cons y l ih=>
    intro hp hm;rw[aC,dM]at hp
    by_cases e:y.id=x.id
    ·rcases aF.1 hm with rfl|hm
     ·simp
     ·have:=hp.1 x.id (eX hm);omega
    ·rw[fQ,decide_eq_false e];rcases aF.1 hm with rfl|hm
     ·exact absurd rfl e
     ·exact ih hp.2 hm
 exact this b.rows hasc hx
theorem XZ(b:Tb)(p s n:Int):Bz b p s n=aci b p s n:=by
 unfold Bz aci;by_cases hv:EJ b p s=true
 ·obtain⟨hc,hp,hs⟩:=yH.1 hv;have hl:=afA hc;rw[if_pos hv];apply fE;intro k hk;rw[iE,show coll b p s=b.rows.foldl (ql b p s) [] from rfl,WT b p s n hk];have h0 :¬(BI [] n).getLsbD k=true:=by simp[BI]
  by_cases hn:1≤n∧n≤99
  ·rw[if_pos ⟨hv,hn⟩,DU b p s n hk _ (by omega)];constructor
   ·rintro (h|⟨x,hx,h1,h2,h3,h4⟩)
    ·exact absurd h h0
    ·have hid:=(B_ hc x hx).1;have hvl:eP b.len=true:=by
      rcases aby hc with g|g
      ·exact g
      ·rw[dS.1 g.2]at hx;simp at hx
     have hin:inB x.id 1 256=true:=by simp[inB,hid]
     have hlp:0<b.len:=by simp[eP]at hvl;omega
     simp only[uX,tV,hvl,hin,Bool.and_self,if_true]at h1 h2;have hde:=Int.mul_ediv_add_emod (x.id-1) b.len;have hmul:b.len*((x.id-1)/b.len)=s*b.len:=by rw[h1,Int.mul_comm]
     have hml:=jy (x.id-1) hlp;have he:s*b.len+k+1=x.id:=by omega
     refine⟨by omega,?_,by omega,?_⟩
     ·simp only[Y2,hvl,inB,jq,aG,decide_eq_true_eq];exact⟨by omega,by omega,by omega⟩
     ·rw[he,xP,aeK hc hx];exact h3
   ·rintro⟨h1,h2,h3,h4⟩;refine .inr ?_;simp only[Y2,aG,decide_eq_true_eq,inB]at h2;obtain⟨hvl,⟨h5,h6⟩,_,h8⟩:=h2;unfold xP at h4;cases hr:rowOf b (s*b.len+k+1)with
    | none=>rw[hr]at h4;simp[vT]at h4;omega
    | some x=>
      rw[hr]at h4
      have hx:x∈b.rows:=fG hr;have hid:x.id=s*b.len+k+1:=by simpa using mX hr
      have hlp:0<b.len:=by simp[eP]at hvl;omega
      have hi0:x.id-1=k+s*b.len:=by omega
      have hin:inB x.id 1 256=true:=by have:=(B_ hc x hx).1;simp[inB,this]
      refine⟨x,hx,?_,?_,h4,by omega⟩
      ·simp only[uX,hvl,hin,Bool.and_self,if_true];rw[hi0,Int.add_mul_ediv_right _ _ (by omega),Int.ediv_eq_zero_of_lt (by omega) (by omega)];omega
      ·simp only[tV,hvl,hin,Bool.and_self,if_true];rw[hi0,Int.add_mul_emod_self_right];exact Int.emod_eq_of_lt (by omega) (by omega)
  ·rw[if_neg fun h=>hn h.2];constructor
   ·rintro (h|⟨x,hx,h1,h2,h3,h4⟩)
    ·exact absurd h h0
    ·have hm:=XD (x:=x) (p:=p) (by rw[h3];exact h4);rw[h3]at hm
     exact absurd ((B_ hc x hx).2 n hm) hn
   ·intro h;simp at h
 ·rw[if_neg hv,if_neg fun h=>hv h.1]
theorem JF{j:Nat}(hj:j<64):∀K:Nat,K≤64→((Xo K).getLsbD j=decide (j<K))
 | 0,_=>by simp[Xo]
 | K+1,hK=>by rw[Xo,kX,JF hj K (by omega),WE (by omega) hj,iE];simp;omega
set_option maxRecDepth 100000
set_option maxHeartbeats 2000000
def SI:List Rt→Tp→List Rt×Tp
 | [],T=>([],T)
 | x::l,T=>(⟨x.id,!(Rf T 3).1⟩::(SI l (Rf T 3).2).1,(SI l (Rf T 3).2).2)
def anZ(T:Tp)(most:Int):aX×Tp:=let g:=als T most;(⟨(SI g.1.rs g.2).1,g.1.ls⟩,(SI g.1.rs g.2).2)
section
variable {α:Type} {q:α→Bool} {l:List α} {i:Nat} {x:α}
theorem BX(hx:l[i]? = some x)(h:l.any q=(l.drop i).any q)(hq:q x=false):l.any q=(l.drop (i+1)).any q:=by obtain⟨hi,rfl⟩:=aB.1 hx;rw[h,cZ hi,List.any_cons,hq,Bool.false_or]
theorem DJ(hx:l[i]? = some x)(hq:q x=true):l.any q=true:=by rw[iG];exact⟨x,bF hx,hq⟩
theorem Gw(h:l.any q=(l.drop i).any q)(hi :¬i<l.length):l.any q=false:=by rw[h,g_ (by omega)];rfl
theorem adz(hx:l[i]? = some x)(h:l.find? q=(l.drop i).find? q)(hq:q x=false):l.find? q=(l.drop (i+1)).find? q:=by obtain⟨hi,rfl⟩:=aB.1 hx;rw[h,cZ hi,fQ,hq]
theorem af0(hx:l[i]? = some x)(h:l.find? q=(l.drop i).find? q)(hq:q x=true):l.find? q=some x:=by obtain⟨hi,rfl⟩:=aB.1 hx;rw[h,cZ hi,fQ,hq]
theorem afZ(h:l.find? q=(l.drop i).find? q)(hi :¬i<l.length):l.find? q=none:=by rw[h,g_ (by omega)];rfl
end
def o8{α:Type}(q:α→α→Bool):List α→Bool
 | x::y::r=>q x y||o8 q (y::r)
 | _=>false
section
variable {α:Type} {q:α→α→Bool} {l:List α} {i:Nat} {x y:α}
theorem BU(hx:l[i]? = some x)(hy:l[i+1]? = some y)(h:o8 q l=o8 q (l.drop i))(hq:q x y=false):o8 q l=o8 q (l.drop (i+1)):=by obtain⟨hi,rfl⟩:=aB.1 hx;obtain⟨hj,rfl⟩:=aB.1 hy;rw[h,cZ hi,cZ hj,o8,hq,Bool.false_or]
theorem Gt(hx:l[i]? = some x)(hy:l[i+1]? = some y)(h:o8 q l=o8 q (l.drop i))(hq:q x y=true):o8 q l=true:=by obtain⟨hi,rfl⟩:=aB.1 hx;obtain⟨hj,rfl⟩:=aB.1 hy;rw[h,cZ hi,cZ hj,o8,hq,Bool.true_or]
theorem Gs(h:o8 q l=o8 q (l.drop i))(hi :¬i+1<l.length):o8 q l=false:=by
 rw[h];cases h:l.drop i with
 | nil=>rfl
 | cons a r=>
   cases r with
   | nil=>rfl
   | cons b r=>have:=congrArg List.length h;simp at this;omega
end
def dF(l:List Rt)(r:Int):Bool:=l.any fun x=>decide (x.id=r)
theorem abR(g:aX)(hg:g.rs.length≤1000000)(r:Int):Contract Tryz.prog 115 [eU g,.d (.int .i64 r)] [] (.d (.bool (dF g.rs r))) [] []:=by
 refine ay Tryz.func115 rfl (fun E0=>?_);refine iC.sound (g:=.mk) (ow:=[]) (kp:=(kb 0x100437)) ?_;rw[Tryz.ntmps115];simp -dsimp[eU]
 refine dD.of [] (kb 0x100437) (ι:={i:Nat // i≤g.rs.length∧dF g.rs r=dF (g.rs.drop i) r}) (fun z=>[(.s 0,It.v (.agg [TV.d (.sl (rts g.rs)),TV.d (.sl (nS g.ls))])),(.s 1,It.v (.d (.int .i64 r))),(.o 2,It.box [TV.d (.sl (rts g.rs)),TV.d (.sl (nS g.ls))]),(.s 2,It.v (.ptr (.o 2) 0)),(.s 4,It.v (.d (.bool false))),(.s 5,It.v (.d (.int .i64 z.1)))]) (fun z=>g.rs.length-z.1) ⟨0,by omega,rfl⟩ ?_ ?_
 ·exact GS.to (by simp)
 ·rintro⟨i,i1,i2⟩;by_cases hi:i<g.rs.length
  ·have hiz:(i:Int)<g.rs.length:=by omega
   have hx:g.rs[i]? = some g.rs[i]:=aj hi;generalize g.rs[i]=x at hx;have hx':=uZ hx;by_cases h:x.id=r
   ·simp -dsimp[hiz,hx',Rt.cs,eq_true h];and_intros;all_goals try first|rfl|omega|exact⟨by kernel_rfl⟩
    refine Fin.of ?_;simp[show dF g.rs r=true from DJ hx (by simp[h])]
   ·simp -dsimp[hiz,hx',Rt.cs,eq_false h,wrap_i64 (n:=(i:Int)+1) (by omega) (by omega)];and_intros;all_goals try first|rfl|omega|exact⟨by kernel_rfl⟩
    exact⟨⟨i+1,by omega,BX hx i2 (by simp[h])⟩,GS.to (by simp[]),by simp;omega⟩
  ·have hiz :¬(i:Int)<g.rs.length:=by omega
   simp -dsimp[hiz];refine Fin.of ?_;simp[show dF g.rs r=false from Gw i2 hi]
theorem WW(n:Int):Contract Tryz.prog 114 [.d (.int .i64 n)] [] (.d (.bool (inB n 1 1000))) [] []:=by
 refine ay Tryz.func114 rfl (fun E0=>?_);refine iC.sound (g:=.mk) (ow:=[]) (kp:=(kb 5)) ?_;rw[Tryz.ntmps114];simp -dsimp;refine QD.dec (fun h=>?_) (fun h=>?_)
 ·simp -dsimp[eq_true h];refine Fin.of ?_;simp[inB,h]
 ·simp -dsimp[eq_false h];refine Fin.of ?_;simp[inB,h]
def Lk.bad(x:Lk):Bool:=!inB x.ca 1 1000 || !inB x.cb 1 1000 || !inB x.cap 0 1000
def lG:List (Bool×Int)→Int
 | []=>0
 | (c,e)::r=>bif c then e else lG r
def jo(g:aX):Int:=lG [
 (decide (24<g.rs.length),3),(decide (60<g.ls.length),3),
 (g.rs.any fun x=>!inB x.id 1 99,2),
 (o8 (fun x y=>decide (y.id≤x.id)) g.rs,25),
 (g.ls.any Lk.bad,2),
 (g.ls.any fun x=>!dF g.rs x.a || !dF g.rs x.b,4),
 (g.ls.any fun x=>decide (x.b≤x.a),8),
 (o8 (fun x y=>decide (y.a<x.a)||decide (x.a=y.a)&&decide (y.b≤x.b)) g.ls,25)]
theorem Js(g:aX)(hg:g.rs.length≤1000000)(hl:g.ls.length≤1000000):Contract Tryz.prog 52 [eU g] [] (.d (.int .i64 (jo g))) [] []:=by
 refine ay Tryz.func52 rfl (fun E0=>?_);refine iC.sound (g:=.mk) (ow:=[]) (kp:=(kb 0x2000000021000210000042000000420002100004200fff)) ?_;rw[Tryz.ntmps52];by_cases c1:24<g.rs.length
 ·have L8:(24:Int)<g.rs.length:=by omega
  simp -dsimp[eU,L8];refine Fin.of ?_;simp[jo,lG,c1]
 by_cases c2:60<g.ls.length
 ·have L8 :¬(24:Int)<g.rs.length:=by omega
  have c2z:(60:Int)<g.ls.length:=by omega
  simp -dsimp[eU,L8,c2z];refine Fin.of ?_;simp[jo,lG,c1,c2]
 have L8 :¬(24:Int)<g.rs.length:=by omega
 have c2z :¬(60:Int)<g.ls.length:=by omega
 simp -dsimp[eU,L8,c2z];clear L8 c2z
 as_aux_lemma=>
 refine dD.of [] (kb 0x2000000021000210000042000000420002100004200fff) (ι:={i:Nat // i≤g.rs.length∧(g.rs.any fun x=>!inB x.id 1 99)=(g.rs.drop i).any fun x=>!inB x.id 1 99}) (fun z=>[(.o 1,It.box [TV.d (.sl (rts g.rs)),TV.d (.sl (nS g.ls))]),(.s 1,It.v (.ptr (.o 1) 0)),(.s 2,It.v (.d (.int .i64 0))),(.s 3,It.v (.d (.int .i64 z.1)))]) (fun z=>g.rs.length-z.1) ⟨0,by omega,rfl⟩ ?_ ?_
 ·exact GS.to (by simp)
 ·rintro⟨i,i1,i2⟩;by_cases hi:i<g.rs.length
  ·have hiz:(i:Int)<g.rs.length:=by omega
   have hx:g.rs[i]? = some g.rs[i]:=aj hi;generalize g.rs[i]=x at hx;have hx':=uZ hx;by_cases a1:x.id<1
   ·simp -dsimp[hiz,hx',Rt.cs,a1];and_intros;all_goals try first|rfl|omega|exact⟨by kernel_rfl⟩
    refine Fin.of ?_;have e:(g.rs.any fun x=>!inB x.id 1 99)=true:=DJ hx (by simp[inB];omega);simp only[jo,lG,cond_true,cond_false,decide_eq_false c1,decide_eq_false c2,e];simp
   by_cases a2:99<x.id
   ·simp -dsimp[hiz,hx',Rt.cs,a1,a2];and_intros;all_goals try first|rfl|omega|exact⟨by kernel_rfl⟩
    refine Fin.of ?_;have e:(g.rs.any fun x=>!inB x.id 1 99)=true:=DJ hx (by simp[inB];omega);simp only[jo,lG,cond_true,cond_false,decide_eq_false c1,decide_eq_false c2,e];simp
   ·simp -dsimp[hiz,hx',Rt.cs,a1,a2,wrap_i64 (n:=(i:Int)+1) (by omega) (by omega)];and_intros;all_goals try first|rfl|omega|exact⟨by kernel_rfl⟩
    exact⟨⟨i+1,by omega,BX hx i2 (by simp[inB];omega)⟩,GS.to (by simp[]),by simp;omega⟩
  have e1:=Gw i2 hi;have hiz :¬(i:Int)<g.rs.length:=by omega
  simp -dsimp[hiz]
  as_aux_lemma=>
  refine dD.of [] (kb 0x2000000021000210000042000000420002100004200fff) (ι:={i:Nat // i≤g.rs.length∧o8 (fun x y=>decide (y.id≤x.id)) g.rs=o8 (fun (x y:Rt)=>decide (y.id≤x.id)) (g.rs.drop i)}) (fun z=>[(.o 1,It.box [TV.d (.sl (rts g.rs)),TV.d (.sl (nS g.ls))]),(.s 1,It.v (.ptr (.o 1) 0)),(.s 2,It.v (.d (.int .i64 0))),(.s 4,It.v (.d (.int .i64 ((z.1:Int)+1))))]) (fun z=>g.rs.length-z.1) ⟨0,by omega,rfl⟩ ?_ ?_
  ·exact GS.to (by simp)
  ·rintro⟨i,i1,i2⟩;by_cases hi:i+1<g.rs.length
   ·have hi0:i<g.rs.length:=by omega
    have hiz:(i:Int)+1<g.rs.length:=by omega
    have hx:g.rs[i]? = some g.rs[i]:=aj hi0;have hy:g.rs[i+1]? = some g.rs[i+1]:=aj hi;generalize g.rs[i]=x at hx;generalize g.rs[i+1]=y at hy;have hx':=uZ hx;have hy':=uZ hy;by_cases a1:y.id≤x.id
    ·simp -dsimp[hiz,hx',hy',Rt.cs,a1,pW,wrap_i64 (n:=(i:Int)) (by omega) (by omega)];and_intros;all_goals try first|rfl|omega|exact⟨by kernel_rfl⟩
     refine Fin.of ?_;have e:=Gt hx hy i2 (by simpa using a1);simp only[jo,lG,cond_true,cond_false,decide_eq_false c1,decide_eq_false c2,e1,e];simp
    ·simp -dsimp[hiz,hx',hy',Rt.cs,a1,pW,wrap_i64 (n:=(i:Int)) (by omega) (by omega),wrap_i64 (n:=(i:Int)+1+1) (by omega) (by omega)];and_intros;all_goals try first|rfl|omega|exact⟨by kernel_rfl⟩
     exact⟨⟨i+1,by omega,BU hx hy i2 (by simpa using a1)⟩,GS.to (by simp[]),by simp;omega⟩
   have e2:=Gs i2 hi;have hiz :¬(i:Int)+1<g.rs.length:=by omega
   simp -dsimp[hiz]
   as_aux_lemma=>
   refine dD.of [] (kb 0x2000000021000210000042000000420002100004200fff) (ι:={i:Nat // i≤g.ls.length∧g.ls.any Lk.bad=(g.ls.drop i).any Lk.bad}) (fun z=>[(.o 1,It.box [TV.d (.sl (rts g.rs)),TV.d (.sl (nS g.ls))]),(.s 1,It.v (.ptr (.o 1) 0)),(.s 2,It.v (.d (.int .i64 0))),(.s 5,It.v (.d (.int .i64 z.1)))]) (fun z=>g.ls.length-z.1) ⟨0,by omega,rfl⟩ ?_ ?_
   ·exact GS.to (by simp)
   ·rintro⟨i,i1,i2⟩;by_cases hi:i<g.ls.length
    ·have hiz:(i:Int)<g.ls.length:=by omega
     have hx:g.ls[i]? = some g.ls[i]:=aj hi;generalize g.ls[i]=x at hx;have hx':=uT hx;have hit:Lk.bad x=true→jo g=2:=fun h=>by have e:=DJ hx h;simp only[jo,lG,cond_true,cond_false,decide_eq_false c1,decide_eq_false c2,e1,e2,e]
     simp -dsimp[hiz,hx',Lk.cs];refine aI.of (WW x.ca) [] 0 ?_;rcases (aA (inB x.ca 1 1000)).symm with b1|b1
     ·simp -dsimp[hiz,hx',Lk.cs,b1];and_intros;all_goals try first|rfl|omega|exact⟨by kernel_rfl⟩
      refine Fin.of ?_;simp[hit (by simp[Lk.bad,b1])]
     simp -dsimp[hiz,hx',Lk.cs,b1];refine aI.of (WW x.cb) [] 0 ?_;rcases (aA (inB x.cb 1 1000)).symm with b2|b2
     ·simp -dsimp[hiz,hx',Lk.cs,b1,b2];and_intros;all_goals try first|rfl|omega|exact⟨by kernel_rfl⟩
      refine Fin.of ?_;simp[hit (by simp[Lk.bad,b2])]
     by_cases b3:x.cap<0
     ·simp -dsimp[hiz,hx',Lk.cs,b1,b2,b3];and_intros;all_goals try first|rfl|omega|exact⟨by kernel_rfl⟩
      refine Fin.of ?_;simp[hit (by simp[Lk.bad,inB,b1,b2];omega)]
     by_cases b4:1000<x.cap
     ·simp -dsimp[hiz,hx',Lk.cs,b1,b2,b3,b4];and_intros;all_goals try first|rfl|omega|exact⟨by kernel_rfl⟩
      refine Fin.of ?_;simp[hit (by simp[Lk.bad,inB,b1,b2];omega)]
     ·simp -dsimp[hiz,hx',Lk.cs,b1,b2,b3,b4,wrap_i64 (n:=(i:Int)+1) (by omega) (by omega)];and_intros;all_goals try first|rfl|omega|exact⟨by kernel_rfl⟩
      exact⟨⟨i+1,by omega,BX hx i2 (by simp[Lk.bad,b1,b2];simp[inB];omega)⟩,GS.to (by simp[]),by simp;omega⟩
    have e3:=Gw i2 hi;have hiz :¬(i:Int)<g.ls.length:=by omega
    simp -dsimp[hiz]
    as_aux_lemma=>
    refine dD.of [] (kb 0x2000000021000210000042000000420002100004200fff) (ι:={i:Nat // i≤g.ls.length∧(g.ls.any fun x=>!dF g.rs x.a || !dF g.rs x.b)=(g.ls.drop i).any fun x=>!dF g.rs x.a || !dF g.rs x.b}) (fun z=>[(.o 1,It.box [TV.d (.sl (rts g.rs)),TV.d (.sl (nS g.ls))]),(.s 1,It.v (.ptr (.o 1) 0)),(.s 2,It.v (.d (.int .i64 0))),(.s 7,It.v (.d (.int .i64 z.1)))]) (fun z=>g.ls.length-z.1) ⟨0,by omega,rfl⟩ ?_ ?_
    ·exact GS.to (by simp)
    ·rintro⟨i,i1,i2⟩;by_cases hi:i<g.ls.length
     ·have hiz:(i:Int)<g.ls.length:=by omega
      have hx:g.ls[i]? = some g.ls[i]:=aj hi;generalize g.ls[i]=x at hx;have hx':=uT hx;have hit:(!dF g.rs x.a || !dF g.rs x.b)=true→jo g=4:=fun h=>by have e:=DJ (q:=fun x:Lk=>!dF g.rs x.a || !dF g.rs x.b) hx h;simp only[jo,lG,cond_true,cond_false,decide_eq_false c1,decide_eq_false c2,e1,e2,e3,e]
      simp -dsimp[hiz,hx',Lk.cs];refine aI.of (abR g hg x.a) [] 0 ?_;rcases (aA (dF g.rs x.a)).symm with b1|b1
      ·simp -dsimp[hiz,hx',Lk.cs,b1];and_intros;all_goals try first|rfl|omega|exact⟨by kernel_rfl⟩
       refine Fin.of ?_;simp[hit (by simp[b1])]
      simp -dsimp[hiz,hx',Lk.cs,b1,eU];refine aI.of (abR g hg x.b) [] 0 ?_;rcases (aA (dF g.rs x.b)).symm with b2|b2
      ·simp -dsimp[hiz,hx',Lk.cs,b1,b2];and_intros;all_goals try first|rfl|omega|exact⟨by kernel_rfl⟩
       refine Fin.of ?_;simp[hit (by simp[b2])]
      ·simp -dsimp[hiz,hx',Lk.cs,b1,b2,wrap_i64 (n:=(i:Int)+1) (by omega) (by omega)];and_intros;all_goals try first|rfl|omega|exact⟨by kernel_rfl⟩
       exact⟨⟨i+1,by omega,BX hx i2 (by simp[b1,b2])⟩,GS.to (by simp[]),by simp;omega⟩
     have e4:=Gw i2 hi;have hiz :¬(i:Int)<g.ls.length:=by omega
     simp -dsimp[hiz]
     as_aux_lemma=>
     refine dD.of [] (kb 0x2000000021000210000042000000420002100004200fff) (ι:={i:Nat // i≤g.ls.length∧(g.ls.any fun x=>decide (x.b≤x.a))=(g.ls.drop i).any fun x=>decide (x.b≤x.a)}) (fun z=>[(.o 1,It.box [TV.d (.sl (rts g.rs)),TV.d (.sl (nS g.ls))]),(.s 1,It.v (.ptr (.o 1) 0)),(.s 2,It.v (.d (.int .i64 0))),(.s 8,It.v (.d (.int .i64 z.1)))]) (fun z=>g.ls.length-z.1) ⟨0,by omega,rfl⟩ ?_ ?_
     ·exact GS.to (by simp)
     ·rintro⟨i,i1,i2⟩;by_cases hi:i<g.ls.length
      ·have hiz:(i:Int)<g.ls.length:=by omega
       have hx:g.ls[i]? = some g.ls[i]:=aj hi;generalize g.ls[i]=x at hx;have hx':=uT hx;by_cases b1:x.b≤x.a
       ·simp -dsimp[hiz,hx',Lk.cs,b1];and_intros;all_goals try first|rfl|omega|exact⟨by kernel_rfl⟩
        refine Fin.of ?_;have e:=DJ (q:=fun x:Lk=>decide (x.b≤x.a)) hx (by simpa using b1);simp only[jo,lG,cond_true,cond_false,decide_eq_false c1,decide_eq_false c2,e1,e2,e3,e4,e];simp
       ·simp -dsimp[hiz,hx',Lk.cs,b1,wrap_i64 (n:=(i:Int)+1) (by omega) (by omega)];and_intros;all_goals try first|rfl|omega|exact⟨by kernel_rfl⟩
        exact⟨⟨i+1,by omega,BX hx i2 (by simpa using b1)⟩,GS.to (by simp[]),by simp;omega⟩
      have e5:=Gw i2 hi;have hiz :¬(i:Int)<g.ls.length:=by omega
      simp -dsimp[hiz]
      as_aux_lemma=>
      refine dD.of [] (kb 0x2000000021000210000042000000420002100004200fff) (ι:={i:Nat // i≤g.ls.length∧o8 (fun x y=>decide (y.a<x.a)||decide (x.a=y.a)&&decide (y.b≤x.b)) g.ls=o8 (fun (x y:Lk)=>decide (y.a<x.a)||decide (x.a=y.a)&&decide (y.b≤x.b)) (g.ls.drop i)}) (fun z=>[(.o 1,It.box [TV.d (.sl (rts g.rs)),TV.d (.sl (nS g.ls))]),(.s 1,It.v (.ptr (.o 1) 0)),(.s 2,It.v (.d (.int .i64 0))),(.s 9,It.v (.d (.int .i64 ((z.1:Int)+1))))]) (fun z=>g.ls.length-z.1) ⟨0,by omega,rfl⟩ ?_ ?_
      ·exact GS.to (by simp)
      ·rintro⟨i,i1,i2⟩;by_cases hi:i+1<g.ls.length
       ·have hi0:i<g.ls.length:=by omega
        have hiz:(i:Int)+1<g.ls.length:=by omega
        have hx:g.ls[i]? = some g.ls[i]:=aj hi0;have hy:g.ls[i+1]? = some g.ls[i+1]:=aj hi;generalize g.ls[i]=x at hx;generalize g.ls[i+1]=y at hy;have hx':=uT hx;have hy':=uT hy;have hit:(decide (y.a<x.a)||decide (x.a=y.a)&&decide (y.b≤x.b))=true→jo g=25:=fun h=>by have e:=Gt hx hy i2 h;simp only[jo,lG,cond_true,cond_false,decide_eq_false c1,decide_eq_false c2,e1,e2,e3,e4,e5,e]
        have go:(decide (y.a<x.a)||decide (x.a=y.a)&&decide (y.b≤x.b))=false→o8 (fun x y=>decide (y.a<x.a)||decide (x.a=y.a)&&decide (y.b≤x.b)) g.ls=o8 (fun (x y:Lk)=>decide (y.a<x.a)||decide (x.a=y.a)&&decide (y.b≤x.b)) (g.ls.drop (i+1)):=fun h=>BU hx hy i2 h
        by_cases b1:y.a<x.a
        ·simp -dsimp[hiz,hx',hy',Lk.cs,b1,pW,wrap_i64 (n:=(i:Int)) (by omega) (by omega)];and_intros;all_goals try first|rfl|omega|exact⟨by kernel_rfl⟩
         refine Fin.of ?_;simp[hit (by simp[b1])]
        by_cases b2:x.a=y.a
        ·by_cases b3:y.b≤x.b
         ·simp -dsimp[hiz,hx',hy',Lk.cs,b1,b2,b3,pW,wrap_i64 (n:=(i:Int)) (by omega) (by omega)];and_intros;all_goals try first|rfl|omega|exact⟨by kernel_rfl⟩
          refine Fin.of ?_;simp[hit (by simp[b2,b3])]
         ·simp -dsimp[hiz,hx',hy',Lk.cs,b1,b2,b3,pW,wrap_i64 (n:=(i:Int)) (by omega) (by omega),wrap_i64 (n:=(i:Int)+1+1) (by omega) (by omega)];and_intros;all_goals try first|rfl|omega|exact⟨by kernel_rfl⟩
          exact⟨⟨i+1,by omega,go (by simp[b1,b3])⟩,GS.to (by simp[]),by simp;omega⟩
        ·simp -dsimp[hiz,hx',hy',Lk.cs,b1,b2,pW,wrap_i64 (n:=(i:Int)) (by omega) (by omega),wrap_i64 (n:=(i:Int)+1+1) (by omega) (by omega)];and_intros;all_goals try first|rfl|omega|exact⟨by kernel_rfl⟩
         exact⟨⟨i+1,by omega,go (by simp[b1,b2])⟩,GS.to (by simp[]),by simp;omega⟩
       have e6:=Gs i2 hi;have hiz :¬(i:Int)+1<g.ls.length:=by omega
       simp -dsimp[hiz];refine Fin.of ?_;simp only[jo,lG,cond_true,cond_false,decide_eq_false c1,decide_eq_false c2,e1,e2,e3,e4,e5,e6];simp
end Go.Proofs

set_option maxRecDepth 100000
set_option maxHeartbeats 2000000
namespace Go.Proofs
open Go Go.Tr
structure aX.Sm(g:aX):Prop where
 r:g.rs.length≤1000000
 l:g.ls.length≤1000000
def Ru(l:List Rt)(r:Int):Option Rt:=l.find? fun x=>decide (x.id=r)
def lF(l:List Rt)(r:Int):Bool:=((Ru l r).getD ⟨0,false⟩).cap
def price:List Lk→Int→Int→Option Int
 | [],_,_=>none
 | x::l,f,t=>if x.a=f∧x.b=t then some x.ca else if x.b=f∧x.a=t then some x.cb else price l f t
def tq(o:Option Int):TV:=.qh [.d (.int .i64 (o.getD 0)),.d (.bool o.isSome)]
theorem Uc(g:aX)(hg:g.Sm)(f t:Int):Contract Tryz.prog 92 [eU g,.d (.int .i64 f),.d (.int .i64 t)] [] (tq (price g.ls f t)) [] []:=by
 have hl:=hg.l;refine ay Tryz.func92 rfl (fun E0=>?_);refine iC.sound (g:=.mk) (ow:=[]) (kp:=(kb 0x800800043cf)) ?_;rw[Tryz.ntmps92];simp -dsimp[eU]
 refine dD.of [] (kb 0x800800043cf) (ι:={i:Nat // i≤g.ls.length∧price g.ls f t=price (g.ls.drop i) f t}) (fun z=>[(.s 0,It.v (.agg [TV.d (.sl (rts g.rs)),TV.d (.sl (nS g.ls))])),(.s 1,It.v (.d (.int .i64 f))),(.s 2,It.v (.d (.int .i64 t))),(.o 3,It.box [TV.d (.sl (rts g.rs)),TV.d (.sl (nS g.ls))]),(.s 3,It.v (.ptr (.o 3) 0)),(.s 6,It.v (.d (.int .i64 0))),(.s 7,It.v (.d (.bool false))),(.s 8,It.v (.d (.int .i64 z.1)))]) (fun z=>g.ls.length-z.1) ⟨0,by omega,rfl⟩ ?_ ?_
 ·exact GS.to (by simp)
 ·rintro⟨i,i1,i2⟩;by_cases hi:i<g.ls.length
  ·have hiz:(i:Int)<g.ls.length:=by omega
   have hx:g.ls[i]? = some g.ls[i]:=aj hi;have hd:g.ls.drop i=g.ls[i]::g.ls.drop (i+1):=cZ hi;generalize g.ls[i]=x at hx hd;have hx':=uT hx;rw[hd,price]at i2
   by_cases a1:x.a=f
   ·by_cases a2:x.b=t
    ·simp -dsimp[hiz,hx',Lk.cs,eq_true a1,eq_true a2];and_intros;all_goals try first|rfl|omega|exact⟨by kernel_rfl⟩
     refine Fin.of ?_;rw[if_pos ⟨a1,a2⟩]at i2
     simp[i2,tq]
    ·by_cases a3:x.b=f
     ·by_cases a4:x.a=t
      ·exfalso;omega
      ·simp -dsimp[hiz,hx',Lk.cs,eq_true a1,eq_false a2,eq_true a3,eq_false a4,wrap_i64 (n:=(i:Int)+1) (by omega) (by omega)];and_intros;all_goals try first|rfl|omega|exact⟨by kernel_rfl⟩
       exact⟨⟨i+1,by omega,by rw[i2,if_neg (by omega),if_neg (by omega)]⟩,GS.to (by simp[]),by simp;omega⟩
     ·simp -dsimp[hiz,hx',Lk.cs,eq_true a1,eq_false a2,eq_false a3,wrap_i64 (n:=(i:Int)+1) (by omega) (by omega)];and_intros;all_goals try first|rfl|omega|exact⟨by kernel_rfl⟩
      exact⟨⟨i+1,by omega,by rw[i2,if_neg (by omega),if_neg (by omega)]⟩,GS.to (by simp[]),by simp;omega⟩
   ·by_cases a3:x.b=f
    ·by_cases a4:x.a=t
     ·simp -dsimp[hiz,hx',Lk.cs,eq_false a1,eq_true a3,eq_true a4];and_intros;all_goals try first|rfl|omega|exact⟨by kernel_rfl⟩
      refine Fin.of ?_;rw[if_neg (by omega),if_pos ⟨a3,a4⟩]at i2
      simp[i2,tq]
     ·simp -dsimp[hiz,hx',Lk.cs,eq_false a1,eq_true a3,eq_false a4,wrap_i64 (n:=(i:Int)+1) (by omega) (by omega)];and_intros;all_goals try first|rfl|omega|exact⟨by kernel_rfl⟩
      exact⟨⟨i+1,by omega,by rw[i2,if_neg (by omega),if_neg (by omega)]⟩,GS.to (by simp[]),by simp;omega⟩
    ·simp -dsimp[hiz,hx',Lk.cs,eq_false a1,eq_false a3,wrap_i64 (n:=(i:Int)+1) (by omega) (by omega)];and_intros;all_goals try first|rfl|omega|exact⟨by kernel_rfl⟩
     exact⟨⟨i+1,by omega,by rw[i2,if_neg (by omega),if_neg (by omega)]⟩,GS.to (by simp[]),by simp;omega⟩
  ·have hiz :¬(i:Int)<g.ls.length:=by omega
   simp -dsimp[hiz];refine Fin.of ?_;rw[g_ (by omega),price]at i2
   simp[i2,tq]
def near(g:aX)(r:Int):List Int:=(g.rs.filter fun x=>(price g.ls r x.id).isSome).map (·.id)
theorem ag6(g:aX)(hg:g.Sm)(r:Int):Contract Tryz.prog 116 [eU g,.d (.int .i64 r)] [] (.d (ints (near g r))) [] []:=by
 have hl:=hg.r;refine ay Tryz.func116 rfl (fun E0=>?_);refine iC.sound (g:=.mk) (ow:=[]) (kp:=(kb 0x10002177)) ?_;rw[Tryz.ntmps116];simp -dsimp[eU]
 refine dD.of [] (kb 0x10002177) (ι:={i:Nat // i≤g.rs.length∧True}) (fun z=>[(.s 0,It.v (.agg [TV.d (.sl (rts g.rs)),TV.d (.sl (nS g.ls))])),(.s 1,It.v (.d (.int .i64 r))),(.o 2,It.box [TV.d (.sl (rts g.rs)),TV.d (.sl (nS g.ls))]),(.s 2,It.v (.ptr (.o 2) 0)),(.s 4,It.v (.c (Value.slice none 0 0))),(.s 5,It.v (.aW 5 (near ⟨g.rs.take z.1,g.ls⟩ r).length)),(.o 5,It.row 3 1 (dd (jR .i64 (near ⟨g.rs.take z.1,g.ls⟩ r))) false),(.s 6,It.v (.d (.int .i64 z.1)))]) (fun z=>g.rs.length-z.1) ⟨0,by omega,trivial⟩ ?_ ?_
 ·exact GS.own' (k:=5) 3 1 (by simp) (by simp) (by simp[ints,jR,near])
 ·rintro⟨i,i1,i2⟩;by_cases hi:i<g.rs.length
  ·have hiz:(i:Int)<g.rs.length:=by omega
   have hx:g.rs[i]? = some g.rs[i]:=aj hi;have ht:g.rs.take (i+1)=g.rs.take i++[g.rs[i]]:=by rw[aT,aj hi];rfl
   generalize g.rs[i]=x at hx ht;have hx':=uZ hx;simp -dsimp[hiz,hx',Rt.cs,eU];refine aI.of (Uc g hg r x.id) [] 0 ?_;have hn:(near ⟨g.rs.take i,g.ls⟩ r).length≤1000000:=by simp only[near,aV];exact dw (dY _ _) (by simp;omega)
   have dl:dLen 1 ((near ⟨g.rs.take i,g.ls⟩ r).map fun x=>[D.int .i64 x]):=zK 1 _ _ fun _=>rfl
   rcases (aA (price g.ls r x.id).isSome).symm with h|h
   ·simp -dsimp[hiz,hx',Rt.cs,eU,tq,h,wrap_i64 (n:=(i:Int)+1) (by omega) (by omega)];and_intros;all_goals try first|rfl|omega|exact⟨by kernel_rfl⟩
    exact⟨⟨i+1,by omega,trivial⟩,GS.to (by simp[near,ht,h]),by simp;omega⟩
   ·simp -dsimp[hiz,hx',Rt.cs,eU,tq,h,ints,wrap_i64 (n:=(i:Int)+1) (by omega) (by omega)];and_intros;all_goals try first|rfl|omega|exact⟨by kernel_rfl⟩
    exact⟨⟨i+1,by omega,trivial⟩,GS.to (by simp[near,ht,h,jR]),by simp;omega⟩
  ·have hiz :¬(i:Int)<g.rs.length:=by omega
   simp -dsimp[hiz];refine Fin.view 4 ?_;simp -dsimp;refine Fin.of ?_;simp[aS (show g.rs.length≤i by omega),ints,jR]
def um:List Rt→Int→Option Nat
 | [],_=>none
 | x::l,r=>if x.id=r then some 0 else(um l r).map (· + 1)
theorem Ua:∀{l:List Rt} {r:Int} {i:Nat},um l r=some i→i<l.length
 | [],_,_,h=>by simp[um]at h
 | x::l,r,i,h=>by
   rw[um]at h
   split at h
   ·simp at h;subst h;simp
   ·cases hp:um l r with
    | none=>simp[hp]at h
    | some j=>simp[hp]at h;subst h;have:=Ua hp;simp;omega
def P5(g:aX)(r:Int):Nat:=(um g.rs r).getD 0
def atR(g:aX)(d:List Int)(r:Int):Int:=match um g.rs r with|some i=>d.getD i 0|none=>1073741824
theorem KH:∀{l:List (Bool×Int)},(∀x∈l,x.2≠0)→lG l=0→∀x∈l,x.1=false
 | [],_,_=>by simp
 | (c,e)::l,h,h0=>by
   cases c with
   | true=>exact absurd h0 (h (true,e) (by simp))
   | false=>
     intro x hx;rcases aF.1 hx with rfl|hx
     ·rfl
     ·exact KH (l:=l) (fun y hy=>h y (by simp[hy])) h0 x hx
structure aX.Ok(g:aX):Prop where
 nr:g.rs.length≤24
 nl:g.ls.length≤60
 ids:(g.rs.any fun x=>!inB x.id 1 99)=false
 ord:o8 (fun x y=>decide (y.id≤x.id)) g.rs=false
 cost:g.ls.any Lk.bad=false
 ends:(g.ls.any fun x=>!dF g.rs x.a || !dF g.rs x.b)=false
 ab:(g.ls.any fun x=>decide (x.b≤x.a))=false
 atz:o8 (fun x y=>decide (y.a<x.a)||decide (x.a=y.a)&&decide (y.b≤x.b)) g.ls=false
theorem dV{g:aX}(h:jo g=0):g.Ok:=by have:=KH (l:=_) (by simp) h;simp only[aF,List.not_mem_nil,or_false,forall_eq_or_imp,forall_eq]at this;obtain⟨h1,h2,h3,h4,h5,h6,h7,h8⟩:=this;exact⟨by simpa using h1,by simpa using h2,h3,h4,h5,h6,h7,h8⟩
theorem aX.Ok.sm{g:aX}(h:g.Ok):g.Sm:=⟨by have:=h.nr;omega,by have:=h.nl;omega⟩
theorem aX.Ok.c{g:aX}(h:g.Ok){x:Lk}(hx:x∈g.ls):(1≤x.ca∧x.ca≤1000)∧1≤x.cb∧x.cb≤1000:=by
 have:=iq.1 h.cost x hx;simp[Lk.bad,inB]at this
 omega
def far:Int:=1073741824
def relax(g:aX)(d:List Int)(l:Lk):List Int:=
 let a:=P5 g l.a
 let b:=P5 g l.b
 let d1:=if d.getD b 0<far then d.set a (min (d.getD a 0) (l.ca+d.getD b 0))else d
 if d1.getD a 0<far then d1.set b (min (d1.getD b 0) (l.cb+d1.getD a 0))else d1
theorem Et(g:aX)(d:List Int)(l:Lk):(relax g d l).length=d.length:=by unfold relax;simp only;split<;>split<;>simp
def Bd(d:List Int):Prop:=∀v∈d,0≤v∧v≤far
theorem Bd.get{d:List Int}(h:Bd d){i:Nat}{v:Int}(hv:d[i]? = some v):0≤v∧v≤far:=h v (bF hv)
theorem Bd.set{d:List Int}(h:Bd d)(i:Nat){v:Int}(hv:0≤v∧v≤far):Bd (d.set i v):=fun x hx=>by
 rcases List.mem_or_eq_of_mem_set hx with hx|rfl
 ·exact h x hx
 ·exact hv
theorem Bd.getD{d:List Int}(h:Bd d)(i:Nat):0≤d.getD i 0∧d.getD i 0≤far:=by
 rw[aK];cases hv:d[i]? with
 | none=>simp[far]
 | some v=>exact h.get hv
theorem Bd.relax{g:aX}{d:List Int}(h:Bd d){l:Lk}(h1:1≤l.ca)(h2:1≤l.cb):Bd (relax g d l):=by
 unfold Proofs.relax;simp only;have e:Bd (if d.getD (P5 g l.b) 0<far then d.set (P5 g l.a) (min (d.getD (P5 g l.a) 0) (l.ca+d.getD (P5 g l.b) 0))else d):=by
  split
  ·have:=h.getD (P5 g l.a);have:=h.getD (P5 g l.b);exact h.set _ (by omega)
  ·exact h
 generalize (if d.getD (P5 g l.b) 0<far then d.set (P5 g l.a) (min (d.getD (P5 g l.a) 0) (l.ca+d.getD (P5 g l.b) 0))else d)=d1 at e⊢;split
 ·have:=e.getD (P5 g l.a);have:=e.getD (P5 g l.b);exact e.set _ (by omega)
 ·exact e
def Gg(g:aX)(d:List Int):List Int:=g.ls.foldl (relax g) d
def IJ(g:aX):Nat→List Int→List Int
 | 0,d=>d
 | n+1,d=>IJ g n (Gg g d)
def KE(g:aX)(to:Int):List Int:=g.rs.map fun x=>if x.id=to then 0 else far
def dist(g:aX)(to:Int):List Int:=IJ g g.rs.length (KE g to)
@[simp]theorem apl:far=1073741824:=rfl
theorem Yb(g:aX)(r:Int):(near g r).length≤g.rs.length:=by simp only[near,aV];exact dY _ _
theorem afj{g:aX}{d:List Int}(h:Bd d)(r:Int):0≤atR g d r∧atR g d r≤1073741824:=by
 unfold atR;split
 ·exact h.getD _
 ·omega
def aa9(g:aX)(d:List Int)(f n:Int):Bool:=decide (atR g d n<1073741824)&&decide ((price g.ls f n).getD 0+atR g d n=atR g d f)
def steps(g:aX)(d:List Int)(f:Int):List Int:=if atR g d f=1073741824∨atR g d f=0 then []else(near g f).filter (aa9 g d f)
theorem Pm:∀{l m:List Int},l.Nodup→(∀x∈l,x∈m)→l.length≤m.length
 | [],_,_,_=>by simp
 | x::l,m,h,hs=>by
   have h1:=bG.1 h;have:=Pm (l:=l) (m:=m.erase x) h1.2 fun y hy=>(nO (fun e=>by subst e;exact h1.1 hy)).2 (hs y (by simp[hy]))
   rw[ig (hs x (by simp))]at this
   have:=fZ (hs x (by simp));simp;omega
theorem jQ{l:List Rt}{r:Int}:dF l r=true↔r∈l.map (·.id):=by simp[dF]
theorem VT{g:aX}{l:List Int}(h:l.Nodup)(hs:∀x∈l,dF g.rs x=true):l.length≤g.rs.length:=by
 have:=Pm h fun x hx=>jQ.1 (hs x hx)
 simpa using this
theorem Ya{g:aX}{r x:Int}(h:x∈near g r):dF g.rs x=true:=by simp only[near,ak,bK]at h;obtain⟨y,⟨hy,_⟩,rfl⟩:=h;exact jQ.2 (eX hy)
theorem qU{g:aX}{d:List Int}{r x:Int}(h:x∈steps g d r):dF g.rs x=true:=by
 unfold steps at h;split at h
 ·simp at h
 ·exact Ya (bK.1 h).1
def uP(g:aX)(s:List Int×List Int)(n:Int):List Int×List Int:=
 if lF g.rs n=true then(s.1,yg s.2 n)else if Rh s.1 n=true then s else(s.1++[n],s.2)
def CS(g:aX)(d:List Int):Nat→Nat→List Int×List Int→List Int×List Int
 | 0,_,s=>s
 | k+1,i,s=>if i<s.1.length then CS g d k (i+1) ((steps g d (s.1.getD i 0)).foldl (uP g) s)else s
def hops(g:aX)(f t:Int):List Int:=
 if jo g=0∧dF g.rs f=true∧dF g.rs t=true∧¬f=t then(CS g (dist g t) (g.rs.length+1) 0 ([f],[])).2 else []
theorem Ba{g:aX}{p:List Int→Prop}(h:∀d l,l∈g.ls→p d→p (relax g d l)):∀(n:Nat) (d:List Int),p d→p (IJ g n d)
 | 0,_,hd=>hd
 | n+1,d,hd=>by
   have:∀(ls:List Lk) (d:List Int),(∀x∈ls,x∈g.ls)→p d→p (ls.foldl (relax g) d):=by
    intro ls
    induction ls with
    | nil=>intro d _ hd;exact hd
    | cons x ls ih=>intro d hm hd;exact ih _ (fun y hy=>hm y (by simp[hy])) (h d x (hm x (by simp)) hd)
   exact Ba h n _ (this g.ls d (fun _ hx=>hx) hd)
theorem aiW{g:aX}(hg:g.Ok)(t:Int):Bd (dist g t):=by refine Ba (p:=Bd) (fun d l hl h=>h.relax (hg.c hl).1.1 (hg.c hl).2.1) _ _ ?_;intro v hv;obtain⟨x,_,rfl⟩:=ak.1 hv;split<;>simp
def xM(g:aX)(r:Int)(e:Ed):Rw:=⟨e.id,if e.r=r then [r]else if jo g=0∧lF g.rs e.r=true then hops g r e.r else []⟩
def oU(g:aX)(p:Pn)(r:Int):Tb:=⟨r,p.jd,p.len,p.es.map (xM g r)⟩
def Fe(g:aX)(r:Int)(es:List Ed):List (List D):=(es.map (xM g r)).map Rw.cs
@[simp]theorem afl(g:aX)(r:Int)(es:List Ed):(Fe g r es).length=es.length:=by simp[Fe]
theorem afk(g:aX)(r:Int)(es:List Ed)(x:Ed):Fe g r (es++[x])=Fe g r es++[(xM g r x).cs]:=by simp[Fe]
def Tb.cs(b:Tb):List D:=[.int .i64 b.r,.int .i64 b.sd,.int .i64 b.len,jM b.rows]
def tabs(g:aX)(p:Pn)(rs:List Rt):List Tb:=(rs.filter (·.cap)).map fun x=>oU g p x.id
def allT(l:List Tb)(e:Int):TV:=.qh [.d (.sl (l.map Tb.cs)),.d (.int .i64 e)]
open Classical in
noncomputable def EL(g:aX)(p:Pn):List Tb×Int:=if jo g=0∧oJ p=true then(tabs g p g.rs,0)else([],1)
theorem aeA{g:aX}(hg:g.Ok){f t c:Int}(h:price g.ls f t=some c):1≤c:=by
 have:∀l:List Lk,(∀x∈l,x∈g.ls)→price l f t=some c→1≤c:=by
  intro l
  induction l with
  | nil=>intro _ h;simp[price]at h
  | cons x l ih=>
    intro hm h;have hc:=hg.c (hm x (by simp));rw[price]at h
    split at h
    ·simp at h;omega
    ·split at h
     ·simp at h;omega
     ·exact ih (fun y hy=>hm y (by simp[hy])) h
 exact this g.ls (fun _ h=>h) h
theorem aif{g:aX}(hg:g.Ok){d:List Int}{f x:Int}(h:x∈steps g d f):atR g d x<atR g d f:=by
 unfold steps at h;split at h
 ·simp at h
 ·obtain⟨h1,h2⟩:=bK.1 h;simp only[near,ak,bK]at h1;obtain⟨y,⟨_,hy⟩,rfl⟩:=h1;obtain⟨c,hc⟩:=gq.1 hy;have:=aeA hg hc;simp only[aa9,hc,bZ,aG,decide_eq_true_eq]at h2;omega
structure Jg(g:aX)(d:List Int)(a:Int)(s:List Int×List Int):Prop where
 seen:∀x∈s.1,atR g d x≤a
 BP:s.2.Pairwise (· < ·)
 out:∀x∈s.2,atR g d x<a∧dF g.rs x=true∧lF g.rs x=true
theorem Jg.step{g:aX}{d:List Int}{a n:Int}{s:List Int×List Int}(h:Jg g d a s)(h1:atR g d n<a)(h2:dF g.rs n=true):Jg g d a (uP g s n):=by
 unfold uP;split
 ·rename_i hc;obtain⟨h3,h4⟩:=CV n h.BP;refine⟨h.seen,h3,fun x hx=>?_⟩;rcases (h4 x).1 hx with hx|rfl
  ·exact h.out x hx
  ·exact⟨h1,h2,hc⟩
 ·split
  ·exact h
  ·refine⟨fun x hx=>?_,h.BP,h.out⟩;rcases aN.1 hx with hx|hx
   ·exact h.seen x hx
   ·simp at hx;subst hx;omega
theorem Jg.steps{g:aX}{d:List Int}{a:Int}:∀(l:List Int) (s:List Int×List Int),(∀x∈l,atR g d x<a∧dF g.rs x=true)→Jg g d a s→Jg g d a (l.foldl (uP g) s)
 | [],_,_,h=>h
 | n::l,s,hl,h=>by rw[bV];exact Jg.steps l _ (fun x hx=>hl x (by simp[hx])) (h.step (hl n (by simp)).1 (hl n (by simp)).2)
theorem Jg.all{g:aX}(hg:g.Ok){d:List Int}{a:Int}:∀(k i:Nat) (s:List Int×List Int),Jg g d a s→Jg g d a (CS g d k i s)
 | 0,_,_,h=>h
 | k+1,i,s,h=>by
   rw[CS];split
   ·rename_i hi;refine Jg.all hg k (i+1) _ (Jg.steps _ _ (fun x hx=>?_) h);have h1:=aif hg hx;have h2:=h.seen (s.1.getD i 0) (by rw[aK,aj hi];exact aJ hi);exact⟨by omega,qU hx⟩
   ·exact h
theorem U_(g:aX)(f t:Int):(hops g f t).Pairwise (· < ·)∧∀x∈hops g f t,dF g.rs x=true∧lF g.rs x=true∧x≠f:=by
 unfold hops;split
 ·rename_i h;have:=Jg.all (dV h.1) (d:=dist g t) (a:=atR g (dist g t) f) (g.rs.length+1) 0 ([f],[]) ⟨by simp,by simp,by simp⟩;exact⟨this.BP,fun x hx=>⟨(this.out x hx).2.1,(this.out x hx).2.2,fun e=>by have:=(this.out x hx).1;subst e;omega⟩⟩
 ·simp
theorem aX.Ok.id{g:aX}(h:g.Ok){r:Int}(hr:dF g.rs r=true):EU r 1 99:=by
 obtain⟨x,hx,rfl⟩:=ak.1 (jQ.1 hr);have:=iq.1 h.ids x hx;simp[inB]at this
 exact this
theorem adi{g:aX}(hg:jo g=0){p:Pn}(hp:oJ p=true){r:Int}(hr:dF g.rs r=true):chk (oU g p r)=0:=by
 have hO:=dV hg;have JL:=hO.id hr;simp only[oJ,decide_eq_true_eq]at hp;obtain⟨hb,he,_⟩:=hp;simp only[yO,inB,aG,bJ,decide_eq_true_eq]at hb;obtain⟨b1,b2,b3⟩:=hb;have hed:∀{i:Nat} {e:Ed},p.es[i]? = some e→EU e.id 1 256∧(i=0∨∃e',p.es[i-1]? = some e'∧e'.id<e.id):=fun {i e} hi=>by
  obtain⟨h1,h2⟩:=aB.1 hi;have h3:=he i h1;have g1:p.es.getD i ⟨0,0⟩ = e:=by rw[aK,hi];rfl
  simp only[edB,gid,OG,g1,inB,aG,bJ,decide_eq_true_eq]at h3;refine⟨h3.1,h3.2.2.imp id fun h=>?_⟩;have h4:i-1<p.es.length:=by omega
  rw[aK,aj h4]at h
  exact⟨_,aj h4,h⟩
 have hnx:∀e:Ed,(∀n∈(xM g r e).nx,EU n 1 99)∧(xM g r e).nx.Pairwise (· < ·)∧(xM g r e).nx.length≤24∧¬(1<(xM g r e).nx.length∧r∈(xM g r e).nx):=fun e=>by
  unfold xM;simp only;split
  ·exact⟨by simpa using JL,by simp,by simp,by simp⟩
  ·split
   ·obtain⟨h1,h2⟩:=U_ g r e.r;refine⟨fun n hn=>hO.id (h2 n hn).1,h1,?_,fun h=>(h2 r h.2).2.2 rfl⟩;exact dw (VT (h1.imp fun h=>by omega) fun x hx=>(h2 x hx).1) hO.nr
   ·simp
 have hmem:∀{x:Rw},x∈(oU g p r).rows→∃(i:Nat) (e:Ed),p.es[i]? = some e∧x=xM g r e:=fun {x} hx=>by obtain⟨e,he,rfl⟩:=ak.1 hx;obtain⟨i,hi⟩:=bU he;exact⟨i,e,hi,rfl⟩
 refine Zx ⟨JL,b1,b2.imp id fun h=>⟨h.1,by simp[oU,h.2]⟩⟩ ?_ (by simp[oU];omega) ?_ (Zg (fun a x y hx hy=>?_) fun x hx=>?_) ?_
 ·rintro⟨x,hx,ho⟩;obtain⟨i,e,hi,rfl⟩:=hmem hx;rcases ho with ho|⟨n,hn,ho⟩
  ·exact ho (hed hi).1
  ·exact ho ((hnx e).1 n hn)
 ·rintro⟨x,hx,ho⟩;obtain⟨i,e,hi,rfl⟩:=hmem hx;have:=(hnx e).2.2.1;omega
 ·simp only[oU,bn,dO]at hx hy;obtain⟨e,h1,rfl⟩:=hx;obtain⟨e',h2,rfl⟩:=hy;rcases (hed h2).2 with h|⟨e2,h3,h4⟩
  ·simp at h
  ·simp only[mM]at h3;rw[h1]at h3
   simp only[ah]at h3;subst h3;exact h4
 ·obtain⟨i,e,hi,rfl⟩:=hmem hx;exact(hnx e).2.1
 ·rintro⟨x,hx,h1,h2⟩;obtain⟨i,e,hi,rfl⟩:=hmem hx;exact(hnx e).2.2.2 ⟨h1,h2⟩
end Go.Proofs
