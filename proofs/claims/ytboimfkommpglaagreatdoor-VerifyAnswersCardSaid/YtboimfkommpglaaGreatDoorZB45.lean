/-
  What functions of the program compute, stated as contracts over plain data; the conditions of each stand in its own statement.
-/
import Derived.Test.YtboimfkommpglaaGreatDoorZB30
import Derived.Test.YtboimfkommpglaaGreatDoorZB44
import Derived.Test.YtboimfkommpglaaGreatDoorZB10
import Derived.Test.YtboimfkommpglaaGreatDoorZB21
set_option linter.unusedSimpArgs false
set_option linter.unusedVariables false
set_option maxRecDepth 100000
set_option maxHeartbeats 16000000
namespace Go.Proofs
open Go Go.Tr
theorem MJ(l:List Tb)(hl:Good l)(r id en ttl:Int):Contract Tryz.prog 60 [.d (.sl (ig l)),.d (.int .i64 r),.d (.int .i64 id),.d (.int .i64 en),.d (.int .i64 ttl)] [] (.sZ [uX (decide (qI l r id en ttl=0)) (jM l id (en%8) ttl.toNat r) id,.d (.int .i64 (qI l r id en ttl))]) [] []:=by
 have hck:=wW l hl.big;refine aC Tryz.func60 rfl (fun E0=>?_);refine iK.sound (g:=.mk) (ow:=[]) (kp:=(kb 0x100000040000000804ffc1f)) ?_;rw[Tryz.ntmps60];simp -dsimp;and_intros;all_goals try first|omega|exact⟨by kernel_rfl⟩|rfl
 refine aF.of hck [] 0 ?_;by_cases hA :¬tK l=0
 ·have hB:qI l r id en ttl=1:=by unfold qI;rw[if_pos hA]
  rw[hB];simp -dsimp[hA];and_intros;all_goals try first|omega|exact⟨by kernel_rfl⟩|rfl
  refine Fin.of ?_;simp[uX]
 have hA:tK l=0:=Decidable.not_not.1 hA;have hf:=Ef l (hl.sm hA) r;cases Zw:iq l r with
 | none=>
   have hB:qI l r id en ttl=4:=by unfold qI;rw[if_neg (by simp[hA]),Zw]
   rw[hB];rw[Zw]at hf
   simp only[rY,jf,jK,gQ,tb0]at hf;simp -dsimp[hA];and_intros;all_goals try first|omega|exact⟨by kernel_rfl⟩|rfl
   refine aF.of hf [] 0 ?_;simp -dsimp;and_intros;all_goals try first|omega|exact⟨by kernel_rfl⟩|rfl
   refine Fin.of ?_;simp[uX]
 | some b=>
   rw[Zw]at hf
   simp only[rY,bf,kU,gQ]at hf;have hpl:=WM id b.len;simp only[AA]at hpl;have hB:qI l r id en ttl=if(dQ b.len&&inB id 1 256)=false∨31<sS id b.len∨en<0∨1023<en∨ttl<0∨63<ttl then 2 else 0:=by unfold qI;rw[if_neg (by simp[hA]),Zw]
   simp -dsimp[hA];and_intros;all_goals try first|omega|exact⟨by kernel_rfl⟩|rfl
   refine aF.of hf [] 0 ?_;simp -dsimp;and_intros;all_goals try first|omega|exact⟨by kernel_rfl⟩|rfl
   refine aF.of hpl [] 0 ?_;rcases (au (dQ b.len&&inB id 1 256)).symm with hv|hv
   ·rw[if_pos (by simp[hv])]at hB
    rw[hB];simp -dsimp[hv];and_intros;all_goals try first|omega|exact⟨by kernel_rfl⟩|rfl
    refine Fin.of ?_;simp[uX]
   ·by_cases hs:31<sS id b.len
    ·rw[if_pos (by simp[hv,hs])]at hB
     rw[hB];simp -dsimp[hv,hs];and_intros;all_goals try first|omega|exact⟨by kernel_rfl⟩|rfl
     refine Fin.of ?_;simp[uX]
    by_cases he0:en<0
    ·rw[if_pos (by simp[hv,hs,he0])]at hB
     rw[hB];simp -dsimp[hv,hs,he0];and_intros;all_goals try first|omega|exact⟨by kernel_rfl⟩|rfl
     refine Fin.of ?_;simp[uX]
    by_cases he1:1023<en
    ·rw[if_pos (by simp[hv,hs,he0,he1])]at hB
     rw[hB];simp -dsimp[hv,hs,he0,he1];and_intros;all_goals try first|omega|exact⟨by kernel_rfl⟩|rfl
     refine Fin.of ?_;simp[uX]
    by_cases ht0:ttl<0
    ·rw[if_pos (by simp[hv,hs,he0,he1,ht0])]at hB
     rw[hB];simp -dsimp[hv,hs,he0,he1,ht0];and_intros;all_goals try first|omega|exact⟨by kernel_rfl⟩|rfl
     refine Fin.of ?_;simp[uX]
    by_cases ht1:63<ttl
    ·rw[if_pos (by simp[hv,hs,he0,he1,ht0,ht1])]at hB
     rw[hB];simp -dsimp[hv,hs,he0,he1,ht0,ht1];and_intros;all_goals try first|omega|exact⟨by kernel_rfl⟩|rfl
     refine Fin.of ?_;simp[uX]
    rw[if_neg (by simp[hv];omega)]at hB
    rw[hB];have hS:=UG l hl (xk b id en ttl) r;rw[ab2 hA Zw hv ⟨by omega,by omega⟩ ⟨by omega,by omega⟩,KG]at hS
    simp only[mM,Pk.cs,xk,List.map,oW,bv]at hS;have hpb:=plB id b.len;have hsh:(1#64<<<(rC id b.len).toNat)=wV (rC id b.len):=by unfold wV;rw[if_neg (by omega),wrap_u64 (by omega) (by omega)]
    simp -dsimp[hv,hs,he0,he1,ht0,ht1,hsh,wrap_u64 (n:=rC id b.len) (by omega) (by omega)];and_intros;all_goals try first|omega|exact⟨by kernel_rfl⟩|rfl
    refine aF.of hS [] 0 ?_;simp -dsimp;and_intros;all_goals try first|omega|exact⟨by kernel_rfl⟩|rfl|exact hsh
    refine Fin.of ?_;simp[uX]
theorem afh(l:List Tb)(r id pl:Int):MG l r id pl=if qI l r id (max 0 (min pl 1023)) 1≠0 then(0,qI l r id (max 0 (min pl 1023)) 1)else if pl<0∨8≤pl then(0,2)else
  if(jM l id ((max 0 (min pl 1023))%8) 1 r).2.1≠r∨JR (jM l id ((max 0 (min pl 1023))%8) 1 r)=1 then((jM l id ((max 0 (min pl 1023))%8) 1 r).2.1,0)else(0,0):=by
 by_cases hp:0≤pl∧pl≤1023
 ·rw[show max 0 (min pl 1023)=pl by omega];unfold MG;by_cases h1:qI l r id pl 1≠0
  ·rw[if_pos h1,if_pos h1]
  ·rw[if_neg h1,if_neg h1];by_cases h2:pl<0∨8≤pl
   ·rw[if_pos h2,if_pos h2]
   ·rw[if_neg h2,if_neg h2];by_cases h3:(jM l id (pl%8) 1 r).2.1=r
    ·by_cases h4:JR (jM l id (pl%8) 1 r)=1
     ·simp[h3,h4]
     ·simp[h3,h4]
    ·simp[h3]
 ·have h8:pl<0∨8≤pl:=by omega
  have e:qI l r id pl 1≠0∧((qI l r id (max 0 (min pl 1023)) 1≠0∧qI l r id pl 1=qI l r id (max 0 (min pl 1023)) 1)∨(qI l r id (max 0 (min pl 1023)) 1=0∧qI l r id pl 1=2)):=by
   unfold qI;by_cases hA:tK l≠0
   ·simp[hA]
   ·rw[if_neg hA,if_neg hA];cases iq l r with
    | none=>simp
    | some b=>
      simp only;have hx:(dQ b.len&&inB id 1 256)=false∨31<sS id b.len∨pl<0∨1023<pl∨(1:Int)<0∨63<(1:Int):=by omega
      rw[if_pos hx];refine⟨by simp,?_⟩;split
      ·exact .inl ⟨by simp,rfl⟩
      ·exact .inr ⟨rfl,rfl⟩
  unfold MG;rw[if_pos e.1];rcases e.2 with⟨h1,h2⟩|⟨h1,h2⟩
  ·rw[if_pos h1,h2]
  ·rw[if_neg (by simp[h1]),if_pos h8,h2]
theorem ahM(l:List Tb)(hl:Good l)(r id pl:Int):Contract Tryz.prog 145 [.d (.sl (ig l)),.d (.int .i64 r),.d (.int .i64 id),.d (.int .i64 pl)] [] (.sZ [.d (.int .i64 (MG l r id pl).1),.d (.int .i64 (MG l r id pl).2)]) [] []:=by
 have h1:=MJ l hl r id (max 0 (min pl 1023)) 1;rw[show(1:Int).toNat=1 from rfl]at h1
 rw[afh];have hmn:TD IntKind.i64 pl 1023 = .d (.int .i64 (min pl 1023)):=by simp[TD];omega
 have hmx:abX IntKind.i64 0 (min pl 1023) = .d (.int .i64 (max 0 (min pl 1023))):=by simp[abX];omega
 generalize min pl 1023=m at hmn hmx h1;generalize max 0 m=c at hmx h1;generalize jM l id (c%8) 1 r=e at h1;generalize qI l r id c 1=o at h1;have hkd:=aho e;refine aC Tryz.func145 rfl (fun E0=>?_);refine iK.sound (g:=.mk) (ow:=[]) (kp:=(kb 0x8040800f0f)) ?_;rw[Tryz.ntmps145];by_cases ho:o=0
 ·subst ho;simp only[uX,decide_true,if_true]at h1;rw[if_neg (by simp)];simp -dsimp[hmn,hmx];and_intros;all_goals try first|omega|exact⟨by kernel_rfl⟩|rfl
  refine aF.of h1 [] 0 ?_;by_cases p0:pl<0
  ·rw[if_pos (.inl p0)];simp -dsimp[p0];and_intros;all_goals try first|omega|exact⟨by kernel_rfl⟩|rfl
   refine Fin.of ?_;simp
  by_cases p1:8≤pl
  ·rw[if_pos (.inr p1)];simp -dsimp[p0,p1];and_intros;all_goals try first|omega|exact⟨by kernel_rfl⟩|rfl
   refine Fin.of ?_;simp
  rw[if_neg (by omega)];by_cases c1:e.2.1=r
  ·by_cases c2:JR e=1
   ·rw[if_pos (.inr c2)];simp -dsimp[p0,p1,c1,c2];and_intros;all_goals try first|omega|exact⟨by kernel_rfl⟩|rfl
    refine Fin.of ?_;simp[c1]
   ·rw[if_neg (fun h=>h.elim (fun g=>g c1) c2)];simp -dsimp[p0,p1,c1,c2];and_intros;all_goals try first|omega|exact⟨by kernel_rfl⟩|rfl
    refine Fin.of ?_;simp
  ·rw[if_pos (.inl c1)];simp -dsimp[p0,p1,c1];and_intros;all_goals try first|omega|exact⟨by kernel_rfl⟩|rfl
   refine Fin.of ?_;simp
 ·simp only[uX,decide_eq_false ho,bI,if_false]at h1;rw[if_pos ho];simp -dsimp[hmn,hmx,ho];and_intros;all_goals try first|omega|exact⟨by kernel_rfl⟩|rfl
  refine aF.of h1 [] 0 ?_;simp -dsimp[ho];and_intros;all_goals try first|omega|exact⟨by kernel_rfl⟩|rfl
  refine Fin.of ?_;simp
def smR:List Rw→Int→Int
 | [],n=>n
 | x::xs,n=>if n<900 then smR xs (IntKind.i64.wrap (n+x.nx.length))else n
def smT:List Tb→Int→Int
 | [],n=>n
 | b::l,n=>if n<900 then smT l (smR b.rows (IntKind.i64.wrap (n+b.rows.length)))else n
def Yx(l:List Tb):Bool:=decide (smT l l.length≤600)
theorem alM:∀{l:List Tb} {n:Int},¬n<900→smT l n=n
 | [],_,_=>rfl
 | x::xs,n,h=>by rw[smT,if_neg h]
theorem ajQ(l:List Tb)(hl:l.length≤9223372036854775807)(hr:∀b∈l,b.rows.length≤9223372036854775807∧∀x∈b.rows,x.nx.length≤9223372036854775807):Contract Tryz.prog 64 [.d (.sl (ig l))] [] (.d (.bool (Yx l))) [] []:=by
 have hS:Yx l=decide (smT l l.length≤600):=rfl;rw[hS];have ltb:(ig l).length=l.length:=by simp[ig]
 refine aC Tryz.func64 rfl (fun E0=>?_);refine iK.sound (g:=.mk) (ow:=[]) (kp:=(kb 0x200000803d)) ?_;rw[Tryz.ntmps64];simp -dsimp[ltb];and_intros;all_goals try first|omega|exact⟨by kernel_rfl⟩|rfl|(show List.length _=_;simp[ig,Tb.cs,rws,Rw.cs];done)
 refine bY.of [] (kb 0x200000803d) (ι:={z:Nat×Int // z.1≤l.length∧smT l l.length=smT (l.drop z.1) z.2})
  (fun z=>[(.s 0,It.v (.d (.sl (ig l)))),(.s 2,It.v (.d (.bool false))),(.s 3,It.v (.d (.int .i64 z.1.2))),(.s 4,It.v (.d (.int .i64 z.1.1)))])
  (fun z=>l.length-z.1.1) ⟨(0,l.length),by omega,by simp⟩ ?_ ?_
 ·exact GS.to (by simp)
 rintro⟨⟨i,n⟩,i1,i2⟩;simp only at i1 i2;by_cases hi:i<l.length
 ·have hiz:(i:Int)<l.length:=by omega
  have hge:l[i]? = some l[i]:=ah hi;have hbm:l[i]∈l:=aB hi;have hd:l.drop i=l[i]::l.drop (i+1):=aU _;obtain⟨b,hb0⟩:∃b,l[i]=b:=⟨_,rfl⟩
  rw[hb0]at hge hbm hd
  obtain⟨hbr,hbx⟩:=hr b hbm;rw[hd,smT]at i2
  have hg2:(ig l)[i]? = some [D.int .i64 b.r,D.int .i64 b.sd,D.int .i64 b.len,dZ b.rows]:=by simp[ig,Tb.cs,hge]
  have hg4:∀h:i<(ig l).length,(ig l)[i] = [D.int .i64 b.r,D.int .i64 b.sd,D.int .i64 b.len,dZ b.rows]:=fun h=>by simp[ig,Tb.cs,hb0]
  have lrw:(rws b.rows).length=b.rows.length:=by simp[rws]
  by_cases hn:n<900
  ·rw[if_pos hn]at i2
   simp -dsimp[hi,hiz,hn,hg2,hg4,ltb,uz,lrw];and_intros;all_goals try first|omega|exact⟨by kernel_rfl⟩|rfl|(show List.length _=_;simp[ig,Tb.cs,rws,Rw.cs];done)
   refine bY.of [] (kb 0x200000803d) (ι:={z:Nat×Int // z.1≤b.rows.length∧smR b.rows (IntKind.i64.wrap (n+b.rows.length))=smR (b.rows.drop z.1) z.2})
    (fun z=>[(.s 0,It.v (.d (.sl (ig l)))),(.s 2,It.v (.d (.bool false))),(.s 3,It.v (.d (.int .i64 z.1.2))),(.s 4,It.v (.d (.int .i64 i))),(.s 5,It.v (.d (.int .i64 z.1.1)))])
    (fun z=>b.rows.length-z.1.1) ⟨(0,IntKind.i64.wrap (n+b.rows.length)),by omega,by simp⟩ ?_ ?_
   ·exact GS.to (by simp)
   rintro⟨⟨k,m⟩,k1,k2⟩;simp only at k1 k2;by_cases hk:k<b.rows.length
   ·have hkz:(k:Int)<b.rows.length:=by omega
    have hke:b.rows[k]? = some b.rows[k]:=ah hk;have hxm:b.rows[k]∈b.rows:=aB hk;have hd2:b.rows.drop k=b.rows[k]::b.rows.drop (k+1):=aU _;obtain⟨x,hx0⟩:∃x,b.rows[k]=x:=⟨_,rfl⟩
    rw[hx0]at hke hxm hd2
    have hxl:=hbx x hxm;rw[hd2,smR]at k2
    have hg3:(rws b.rows)[k]? = some [D.int .i64 x.id,ints x.nx]:=by simp[rws,Rw.cs,hke]
    have hg5:∀h:k<(rws b.rows).length,(rws b.rows)[k] = [D.int .i64 x.id,ints x.nx]:=fun h=>by simp[rws,Rw.cs,hx0]
    have lin:(x.nx.map fun n=>[D.int .i64 n]).length=x.nx.length:=by simp
    by_cases hm:m<900
    ·rw[if_pos hm]at k2
     simp -dsimp[hk,hkz,hm,hg2,hg4,hg3,hg5,hi,hiz,uz,lrw,ltb,ints,wrap_i64 (n:=(k:Int)+1) (by omega) (by omega)];and_intros;all_goals try first|omega|exact⟨by kernel_rfl⟩|rfl|(show List.length _=_;simp[ig,Tb.cs,rws,Rw.cs];done)
     exact⟨⟨(k+1,IntKind.i64.wrap (m+x.nx.length)),by omega,k2⟩,GS.to (by simp),by simp;omega⟩
    ·rw[if_neg hm]at k2
     have i3:smT l l.length=smT (l.drop (i+1)) m:=by rw[i2,k2]
     simp -dsimp[hk,hkz,hm,hg2,hg4,hg3,hg5,hi,hiz,uz,lrw,ltb,ints,wrap_i64 (n:=(i:Int)+1) (by omega) (by omega)];and_intros;all_goals try first|omega|exact⟨by kernel_rfl⟩|rfl|(show List.length _=_;simp[ig,Tb.cs,rws,Rw.cs];done)
     exact⟨⟨(i+1,m),by omega,i3⟩,GS.to (by simp),by simp;omega⟩
   ·have hkz :¬(k:Int)<b.rows.length:=by omega
    obtain rfl:k=b.rows.length:=by omega
    rw[dJ (aI _),smR]at k2
    have i3:smT l l.length=smT (l.drop (i+1)) m:=by rw[i2,k2]
    simp -dsimp[hkz,hg2,hg4,hi,hiz,uz,lrw,ltb,wrap_i64 (n:=(i:Int)+1) (by omega) (by omega)];and_intros;all_goals try first|omega|exact⟨by kernel_rfl⟩|rfl|(show List.length _=_;simp[ig,Tb.cs,rws,Rw.cs];done)
    exact⟨⟨(i+1,m),by omega,i3⟩,GS.to (by simp),by simp;omega⟩
  ·rw[if_neg hn]at i2
   simp -dsimp[hi,hiz,hn,ltb];and_intros;all_goals try first|omega|exact⟨by kernel_rfl⟩|rfl|(show List.length _=_;simp[ig,Tb.cs,rws,Rw.cs];done)
   refine Fin.of ?_;simp[i2]
 ·have hiz :¬(i:Int)<l.length:=by omega
  obtain rfl:i=l.length:=by omega
  rw[dJ (aI _),smT]at i2
  simp -dsimp[hiz,ltb];and_intros;all_goals try first|omega|exact⟨by kernel_rfl⟩|rfl|(show List.length _=_;simp[ig,Tb.cs,rws,Rw.cs];done)
  refine Fin.of ?_;simp[i2]
theorem rX{α β:Type}{q:α→Bool}{f:α→β}{l:List α}{i:Nat}{x:α}(h:l[i]? = some x):((l.take (i+1)).filter q).map f=((l.take i).filter q).map f++if q x=true then [f x]else []:=by
 rw[aO,h,bJ,fH]
 congr 1
 show List.map f ([x].filter q)=_
 rw[dD];split<;>rfl
theorem nV{α β:Type}(q:α→Bool)(f:α→β)(l:List α):((l.filter q).map f).length≤l.length:=by rw[aN];exact aQ _ _
theorem yX{l:List An}{i:Nat}{a:An}(h:l[i]? = some a):(ans l)[i]? = some (BJ a):=by simp[ans,h]
theorem aeu{l:List An}{i:Nat}{a:An}(h:l[i]? = some a):jS (l.take (i+1))=jS (l.take i)++if a.kd=1 then [a]else []:=by
 unfold jS;rw[aO,h,bJ]
 congr 1
 show [a].filter _=_
 rw[dD];by_cases e:a.kd=1<;>simp[e]
theorem aeF{l:List An}{i:Nat}{a:An}(h:l[i]? = some a):oz (l.take (i+1))=if a.kd=1 then nT (oz (l.take i)) a.id else oz (l.take i):=by unfold oz;rw[aeu h,g_];split<;>rfl
theorem LP(l:List Int)(n:Int):(nT l n).length≤l.length+1:=by
 unfold nT;split
 ·omega
 ·simp only[aS,bF,kZ,aT,eY];omega
theorem Ad(l:List An):(oz l).length≤l.length:=by
 have key:∀(d:List An) (s:List Int),(d.foldl (fun s a=>nT s a.id) s).length≤s.length+d.length:=fun d=>by
  induction d with
  | nil=>intro s;simp
  | cons a d ih=>intro s;have h1:=ih (nT s a.id);have h2:=LP s a.id;rw[cO,aT];omega
 have h1:=key (jS l) [];have h2:(jS l).length≤l.length:=aQ _ _;unfold oz;simp only[eY]at h1;omega
theorem adA(p:Pn)(hp:p.es.length≤1000)(id:Int):Contract Tryz.prog 142 [iE p,.d (.int .i64 id)] [] (.d (.int .i64 (own p id))) [] []:=by
 obtain⟨w,hw⟩:∃w,w=own p id:=⟨_,rfl⟩
 rw[←hw];unfold own at hw;refine aC Tryz.func142 rfl (fun E0=>?_);refine iK.sound (g:=.mk) (ow:=[]) (kp:=(kb 0x20f57)) ?_;rw[Tryz.ntmps142];simp -dsimp[iE];and_intros;all_goals try first|rfl|omega|exact⟨by kernel_rfl⟩
 refine bY.of [] (kb 0x20f57) (ι:={i:Nat // i≤p.es.length∧p.es.find? (fun e=>decide (e.id=id))=(p.es.drop i).find? (fun e=>decide (e.id=id))})
  (fun z=>[(.s 1,It.v (.d (.int .i64 id))),(.s 8,It.v (.d (.sl (lX p.es)))),(.s 9,It.v (.d (.int .i64 p.es.length))),(.s 10,It.v (.d (.int .i64 z.1)))])
  (fun z=>p.es.length-z.1) ⟨0,by omega,by simp⟩ ?_ ?_
 ·exact GS.to (by simp[lX])
 ·rintro⟨i,i1,i2⟩;by_cases hi:i<p.es.length
  ·have hiz:(i:Int)<p.es.length:=by omega
   have hx:p.es[i]? = some p.es[i]:=ah hi;have hd:p.es.drop i=p.es[i]::p.es.drop (i+1):=aU hi;generalize p.es[i]=x at hx hd;have w1:IntKind.i64.wrap ((i:Int)+1)=(i:Int)+1:=wrap_i64 (by omega) (by omega);rw[hd,iC]at i2
   by_cases c:x.id=id
   ·rw[i2]at hw
    simp only[c,decide_true,dF,bf]at hw;simp -dsimp[hiz,hx,lX,Ed.cs,eq_true c];and_intros;all_goals try first|rfl|omega|exact⟨by kernel_rfl⟩
    refine Fin.of ?_;simp[hw]
   ·simp only[c,decide_false]at i2;simp -dsimp[hiz,hx,lX,Ed.cs,eq_false c,w1];and_intros;all_goals try first|rfl|omega|exact⟨by kernel_rfl⟩
    exact⟨⟨i+1,by omega,i2⟩,GS.to (by simp[lX]),by simp;omega⟩
  ·have hiz :¬(i:Int)<p.es.length:=by omega
   rw[dJ (by omega)]at i2
   rw[i2]at hw
   simp only[List.find?_nil,o8,jf]at hw;simp -dsimp[hiz];and_intros;all_goals try first|rfl|omega|exact⟨by kernel_rfl⟩
   refine Fin.of ?_;simp[hw]
theorem alp(l:List An)(hl:l.length≤1000000)(id:Int):Contract Tryz.prog 143 [.d (.sl (ans l)),.d (.int .i64 id)] [] (.d (.sl (ans (jF l id)))) [] []:=by
 have eA:∀m:List An,jF m id=(m.filter fun a=>decide (a.kd=1)&&decide (a.id=id)).map fun a=>a:=fun m=>by unfold jF jS;rw[iM,List.map_id'];apply eu;intro a _;rw[ny]
 refine aC Tryz.func143 rfl (fun E0=>?_);refine iK.sound (g:=.mk) (ow:=[]) (kp:=(kb 0x400fb3)) ?_;rw[Tryz.ntmps143];simp -dsimp;and_intros;all_goals try first|rfl|omega|exact⟨by kernel_rfl⟩
 refine bY.of [] (kb 0x400fb3) (ι:={i:Nat // i≤l.length})
  (fun z=>[(.s 1,It.v (.d (.int .i64 id))),(.s 4,It.v (.c (.slice none 0 0))),(.s 5,It.v (.bK 5 (jF (l.take z.1) id).length)),(.o 5,It.row 120 4 (dd (ans (jF (l.take z.1) id))) false),
   (.s 8,It.v (.d (.sl (ans l)))),(.s 9,It.v (.d (.int .i64 l.length))),(.s 10,It.v (.d (.int .i64 z.1)))])
  (fun z=>l.length-z.1) ⟨0,by omega⟩ ?_ ?_
 ·exact GS.own' (k:=5) 120 4 (by simp) (by simp) (by simp[ans,jF,jS])
 ·rintro⟨i,i1⟩;have hle:(jF (l.take i) id).length≤l.length:=by
   rw[eA];exact aY (nV _ _ _) (by rw[bF];omega)
  by_cases hi:i<l.length
  ·have hiz:(i:Int)<l.length:=by omega
   have hx:l[i]? = some l[i]:=ah hi;have ht:jF (l.take (i+1)) id=jF (l.take i) id++if decide (l[i].kd=1)&&decide (l[i].id=id)then [l[i]]else []:=by rw[eA,eA,rX hx]
   generalize l[i]=a at hx ht;have hx':=yX hx;have w1:IntKind.i64.wrap ((i:Int)+1)=(i:Int)+1:=wrap_i64 (by omega) (by omega);by_cases c1:a.kd=1
   ·by_cases c2:a.id=id
    ·simp only[c1,c2,decide_true,l7,if_true]at ht;simp -dsimp[hiz,hx',BJ,eq_true c1,eq_true c2,w1];and_intros;all_goals try first|rfl|omega|exact⟨by kernel_rfl⟩
     exact⟨⟨i+1,by omega⟩,GS.to (by simp[ht,ans,BJ,c1,c2]),by simp;omega⟩
    ·simp only[c1,c2,decide_true,decide_false,pK,bI,if_false,aZ]at ht;simp -dsimp[hiz,hx',BJ,eq_true c1,eq_false c2,w1];and_intros;all_goals try first|rfl|omega|exact⟨by kernel_rfl⟩
     exact⟨⟨i+1,by omega⟩,GS.to (by simp[ht]),by simp;omega⟩
   ·simp only[c1,decide_false,lF,bI,if_false,aZ]at ht;simp -dsimp[hiz,hx',BJ,eq_false c1,w1];and_intros;all_goals try first|rfl|omega|exact⟨by kernel_rfl⟩
    exact⟨⟨i+1,by omega⟩,GS.to (by simp[ht]),by simp;omega⟩
  ·have hiz :¬(i:Int)<l.length:=by omega
   rw[aW (show l.length≤i by omega)];simp -dsimp[hiz];refine Fin.view 4 ?_;simp -dsimp;refine Fin.of ?_;simp[ans]
theorem adf(l:List Int)(hl:l.length≤1000000)(n:Int):Contract Tryz.prog 74 [.d (ints l),.d (.int .i64 n)] [] (.d (.bool (pY l n))) [] []:=by
 refine aC Tryz.func74 rfl (fun E0=>?_);refine iK.sound (g:=.mk) (ow:=[]) (kp:=(kb 0x20233)) ?_;rw[Tryz.ntmps74];simp -dsimp[ints];refine bY.of [] (kb 0x20233) (ι:={i:Nat // i≤l.length∧n∉l.take i})
  (fun z=>[(.s 0,It.v (.d (ints l))),(.s 1,It.v (.d (.int .i64 n))),(.s 5,It.v (.d (.int .i64 z.1)))]) (fun z=>l.length-z.1) ⟨0,by omega,by simp⟩ ?_ ?_
 ·exact GS.to (by simp[ints])
 ·rintro⟨i,i1,i2⟩;by_cases hi:i<l.length
  ·have hiz:(i:Int)<l.length:=by omega
   have hx:l[i]? = some l[i]:=ah hi;have hm:=aB hi;generalize l[i]=x at hx hm;have w1:IntKind.i64.wrap ((i:Int)+1)=(i:Int)+1:=wrap_i64 (by omega) (by omega);by_cases c:x=n
   ·simp -dsimp[hiz,hx,ints,eq_true c];and_intros;all_goals try first|rfl|omega|exact⟨by kernel_rfl⟩
    refine Fin.of ?_;simp[pY,←c,hm]
   ·simp -dsimp[hiz,hx,ints,eq_false c,w1];and_intros;all_goals try first|rfl|omega|exact⟨by kernel_rfl⟩
    refine⟨⟨i+1,by omega,fun hmem=>?_⟩,GS.to (by simp[ints]),by simp;omega⟩;rw[aO,hx,fJ]at hmem
    rcases aJ.1 hmem with e|e
    ·exact i2 e
    ·exact c (bn.1 e).symm
  ·have hiz :¬(i:Int)<l.length:=by omega
   rw[aW (by omega)]at i2
   simp -dsimp[hiz,ints];and_intros;all_goals try first|rfl|omega|exact⟨by kernel_rfl⟩
   refine Fin.of ?_;simp[pY,i2]
def asQ(l:List Int):Bool:=!pV (fun x y:Int=>decide (y≤x)) l
theorem aiH(l:List Int)(hl:l.length≤1000000):Contract Tryz.prog 216 [.d (ints l)] [] (.d (.bool (asQ l))) [] []:=by
 obtain⟨w,hw⟩:∃w,w=asQ l:=⟨_,rfl⟩
 rw[←hw];unfold asQ at hw;refine aC Tryz.func216 rfl (fun E0=>?_);refine iK.sound (g:=.mk) (ow:=[]) (kp:=(kb 0x8008d)) ?_;rw[Tryz.ntmps216];simp -dsimp[ints];refine bY.of [] (kb 0x8008d) (ι:={j:Nat // j≤l.length∧pV (fun x y:Int=>decide (y≤x)) l=pV (fun x y:Int=>decide (y≤x)) (l.drop j)})
  (fun z=>[(.s 0,It.v (.d (ints l))),(.s 3,It.v (.d (.int .i64 ((z.1:Int)+1))))]) (fun z=>l.length-z.1) ⟨0,by omega,by simp⟩ ?_ ?_
 ·exact GS.to (by simp[ints])
 ·rintro⟨j,j1,j2⟩;by_cases hj:j+1<l.length
  ·have hjz:(j:Int)+1<l.length:=by omega
   have hx:l[j]? = some l[j]:=ah (by omega);have hy:l[j+1]? = some l[j+1]:=ah hj;generalize l[j]=x at hx;generalize l[j+1]=y at hy;have w0:IntKind.i64.wrap (j:Int)=(j:Int):=wrap_i64 (by omega) (by omega);have jz:(j:Int)<l.length:=by omega
   have w1:IntKind.i64.wrap ((j:Int)+1+1)=(j:Int)+1+1:=wrap_i64 (by omega) (by omega);have t1:((j:Int)+1).toNat=j+1:=by omega
   by_cases c:y≤x
   ·rw[zN hx hy j2 (by simpa using c)]at hw
    simp -dsimp[hjz,jz,hx,hy,ints,w0,t1,c];and_intros;all_goals try first|omega|exact⟨by kernel_rfl⟩|rfl
    refine Fin.of ?_;simp[hw]
   ·simp -dsimp[hjz,hx,hy,ints,w0,w1,t1,c];and_intros;all_goals try first|omega|exact⟨by kernel_rfl⟩|rfl
    exact⟨⟨j+1,by omega,xX hx hy j2 (by simpa using c)⟩,GS.to (by simp[ints]),by simp;omega⟩
  ·have hjz :¬(j:Int)+1<l.length:=by omega
   rw[zM j2 hj]at hw
   simp -dsimp[hjz,ints];and_intros;all_goals try first|rfl|omega|exact⟨by kernel_rfl⟩
   refine Fin.of ?_;simp[hw]
noncomputable def Gy(p:Pn)(ids:List Int):Int:=if iT p=false then 1 else if asQ ids=false then 25 else if ids.any (fun id=>decide (own p id=0))=true then 4 else 0
theorem Vz(p:Pn)(hp:p.es.length≤1000)(ids:List Int)(hl:ids.length≤1000000):Contract Tryz.prog 140 [iE p,.d (ints ids)] [] (.d (.int .i64 (Gy p ids))) [] []:=by
 have h1:=DV p hp;have h2:=aiH ids hl;have h3:=fun id=>adA p hp id
 simp only[iE]at h1 h3;simp only[ints]at h2;obtain⟨w,hw⟩:∃w,w=Gy p ids:=⟨_,rfl⟩
 rw[←hw];unfold Gy at hw;generalize iT p=b1 at h1 hw;generalize asQ ids=b2 at h2 hw;generalize own p=o at h3 hw;refine aC Tryz.func140 rfl (fun E0=>?_);refine iK.sound (g:=.mk) (ow:=[]) (kp:=(kb 0x41f257)) ?_;rw[Tryz.ntmps140];simp -dsimp[iE,ints];refine aF.of h1 [] 0 ?_;cases b1 with
 | false=>
   simp -dsimp;and_intros;all_goals try first|rfl|omega|exact⟨by kernel_rfl⟩
   refine Fin.of ?_;simp[hw]
 | true=>
   simp -dsimp[ints];and_intros;all_goals try first|rfl|omega|exact⟨by kernel_rfl⟩
   refine aF.of h2 [] 0 ?_;cases b2 with
   | false=>
     simp -dsimp;and_intros;all_goals try first|rfl|omega|exact⟨by kernel_rfl⟩
     refine Fin.of ?_;simp[hw]
   | true=>
     simp only[oU,if_false]at hw;simp -dsimp[ints];and_intros;all_goals try first|rfl|omega|exact⟨by kernel_rfl⟩
     refine bY.of [] (kb 0x41f257) (ι:={i:Nat // i≤ids.length∧∀x∈ids.take i,¬o x=0})
      (fun z=>[(.o 2,It.box [TV.d (.int .i64 p.gU),TV.d (.int .i64 p.len),TV.d (.sl (lX p.es))]),(.s 2,It.v (.ptr (.o 2) 0)),(.s 13,It.v (.d (ints ids))),(.s 14,It.v (.d (.int .i64 ids.length))),(.s 15,It.v (.d (.int .i64 z.1)))])
      (fun z=>ids.length-z.1) ⟨0,by omega,by simp⟩ ?_ ?_
     ·exact GS.to (by simp[ints])
     ·rintro⟨i,i1,i2⟩;by_cases hi:i<ids.length
      ·have hiz:(i:Int)<ids.length:=by omega
       have hx:ids[i]? = some ids[i]:=ah hi;have hm:=aB hi;generalize ids[i]=x at hx hm;have w1:IntKind.i64.wrap ((i:Int)+1)=(i:Int)+1:=wrap_i64 (by omega) (by omega);have h4:=h3 x;simp -dsimp[hiz,hx,ints];and_intros;all_goals try first|rfl|omega|exact⟨by kernel_rfl⟩
       refine aF.of h4 [] 0 ?_;by_cases c:o x=0
       ·rw[if_pos (jU.2 ⟨x,hm,by simpa using c⟩)]at hw
        simp -dsimp[eq_true c];and_intros;all_goals try first|rfl|omega|exact⟨by kernel_rfl⟩
        refine Fin.of ?_;simp[hw]
       ·simp -dsimp[eq_false c,w1];and_intros;all_goals try first|rfl|omega|exact⟨by kernel_rfl⟩
        refine⟨⟨i+1,by omega,fun y hy=>?_⟩,GS.to (by simp[ints]),by simp;omega⟩;rw[aO,hx,fJ]at hy
        rcases aJ.1 hy with e|e
        ·exact i2 y e
        ·rw[bn.1 e];exact c
      ·have hiz :¬(i:Int)<ids.length:=by omega
       rw[aW (by omega)]at i2
       rw[if_neg (by rw[kY,dL];intro x hx;simpa using i2 x hx)]at hw
       simp -dsimp[hiz];and_intros;all_goals try first|rfl|omega|exact⟨by kernel_rfl⟩
       refine Fin.of ?_;simp[hw]
noncomputable def vI(p:Pn)(ids:List Int)(l:List An):List (List Int)×Int:=if Gy p ids=0 then(BP p ids l,0)else([],Gy p ids)
theorem Bo{l:List An}{id:Int}(h:id∈oz l):0<(jF l id).length:=by obtain⟨a,ha,e⟩:=ay.1 (sK.1 h);exact jr (a:=a) (bG.2 ⟨ha,by simpa using e⟩)
theorem ad6(l:List An)(id:Int):(jF l id).length≤l.length:=aY (aQ _ _) (aQ _ _)
theorem Pg(p:Pn)(hp:p.es.length≤1000)(ids:List Int)(hi0:ids.length≤1000000)(l:List An)(hl:l.length≤1000000):Contract Tryz.prog 68 [iE p,.d (ints ids),.d (.sl (ans l))] []
  (.sZ [.d (.sl (lC (vI p ids l).1)),.d (.int .i64 (vI p ids l).2)]) [] []:=by
 have h1:=Vz p hp ids hi0;have hO:=fun id=>adA p hp id
 have hOf:=fun id=>alp l hl id
 simp only[iE]at h1 hO;simp only[ints]at h1;obtain⟨w,hw⟩:∃w,w=vI p ids l:=⟨_,rfl⟩
 rw[←hw];unfold vI at hw;by_cases c0:Gy p ids=0
 case neg=>
  rw[if_neg c0]at hw
  generalize Gy p ids=e at h1 c0 hw;refine aC Tryz.func68 rfl (fun E0=>?_)
  refine iK.sound (g:=.mk) (ow:=[]) (kp:=(kb 0x10003c00203c008078020f043d0db5bcf)) ?_;rw[Tryz.ntmps68];simp -dsimp[iE,ints]
  refine aF.of h1 [] 0 ?_;simp -dsimp[c0];and_intros;all_goals try first|rfl|omega|exact⟨by kernel_rfl⟩
  refine Fin.view 6 ?_;simp -dsimp;refine Fin.of ?_;simp[hw,lC]
 rw[if_pos c0]at hw
 rw[c0]at h1
 obtain⟨o,ho⟩:∃o,o=own p:=⟨_,rfl⟩
 unfold BP at hw;rw[←ho]at hO hw
 refine aC Tryz.func68 rfl (fun E0=>?_);refine iK.sound (g:=.mk) (ow:=[]) (kp:=(kb 0x10003c00203c008078020f043d0db5bcf)) ?_
 rw[Tryz.ntmps68];simp -dsimp[iE,ints];refine aF.of h1 [] 0 ?_;simp -dsimp;and_intros;all_goals try first|rfl|omega|exact⟨by kernel_rfl⟩
 refine bY.of [] (kb 0x10003c00203c008078020f043d0db5bcf) (ι:={i:Nat // i≤l.length})
  (fun z=>[(.s 1,It.v (.d (ints ids))),(.s 2,It.v (.d (.sl (ans l)))),(.o 3,It.box [TV.d (.int .i64 p.gU),TV.d (.int .i64 p.len),TV.d (.sl (lX p.es))]),(.s 3,It.v (.ptr (.o 3) 0)),(.s 6,It.v (.c (.slice none 0 0))),(.s 7,It.v (.d (.int .i64 0))),(.s 9,It.v (.d (ints (oz (l.take z.1))))),(.s 30,It.v (.d (.sl (ans l)))),(.s 31,It.v (.d (.int .i64 l.length))),(.s 32,It.v (.d (.int .i64 z.1)))])
  (fun z=>l.length-z.1) ⟨0,by omega⟩ ?_ ?_
 ·exact GS.Gm 9 (by simp[ints,oz,jS])
 rintro⟨i,i1⟩;by_cases hi:i<l.length
 ·have hiz:(i:Int)<l.length:=by omega
  have hx:l[i]? = some l[i]:=ah hi;have ht:=aeF hx;have hgl:=Ad (l.take i);rw[bF]at hgl
  generalize l[i]=a at hx ht;have hx':=yX hx;have w1:IntKind.i64.wrap ((i:Int)+1)=(i:Int)+1:=wrap_i64 (by omega) (by omega);have hput:=OY (oz (l.take i)) (by omega) a.id;generalize oz (l.take i)=G at ht hput⊢;by_cases c1:a.kd=1
  ·rw[if_pos c1]at ht
   simp -dsimp[hiz,hx',BJ,eq_true c1];and_intros;all_goals try first|rfl|omega|exact⟨by kernel_rfl⟩
   refine aF.of hput [] 0 ?_;simp -dsimp[w1];and_intros;all_goals try first|rfl|omega|exact⟨by kernel_rfl⟩
   exact⟨⟨i+1,by omega⟩,GS.to (by simp[ht,ints]),by simp;omega⟩
  ·rw[if_neg c1]at ht
   simp -dsimp[hiz,hx',BJ,eq_false c1,w1];and_intros;all_goals try first|rfl|omega|exact⟨by kernel_rfl⟩
   exact⟨⟨i+1,by omega⟩,GS.to (by simp[ht,ints]),by simp;omega⟩
 have hiz :¬(i:Int)<l.length:=by omega
 rw[aW (show l.length≤i by omega)];have hGl:=Ad l;have hGm:∀id∈oz l,0<(jF l id).length:=fun id h=>Bo h
 have hAl:=ad6 l;generalize oz l=G at hGl hGm hw⊢;simp -dsimp[hiz,ints,ans];and_intros;all_goals try first|rfl|omega|exact⟨by kernel_rfl⟩
 have hDD:(jS l).filter (fun a=>decide (a.rt≠o a.id))=l.filter (fun a:An=>decide (a.kd=1)&&decide (a.rt≠o a.id)):=by unfold jS;rw[iM];apply eu;intro a _;rw[ny]
 rw[hDD]at hw
 obtain⟨PF,hP0,AP,hPl,AO⟩:∃PF:Nat→List (List Int),PF 0 = []∧(∀(i:Nat) x,(ids)[i]? = some x→PF (i+1)=PF i++if(fun id=>!decide (id∈G)) x=true then [(fun id=>[1,o id,id,0]) x]else [])∧(∀i,(PF i).length≤(ids).length)∧PF (ids).length=((ids).filter (fun id=>!decide (id∈G))).map (fun id=>[1,o id,id,0]):=
  ⟨fun i=>(((ids).take i).filter (fun id=>!decide (id∈G))).map (fun id=>[1,o id,id,0]),by simp,fun i x h=>rX h,fun i=>aY (nV _ _ _) (by rw[bF];omega),by simp only[bP]⟩
 refine bY.of [] (kb 0x10003c00203c008078020f043d0db5bcf) (ι:={i:Nat // i≤(ids).length})
  (fun z=>[(.s 1,It.v (.d (ints ids))),(.s 2,It.v (.d (.sl (ans l)))),(.o 3,It.box [TV.d (.int .i64 p.gU),TV.d (.int .i64 p.len),TV.d (.sl (lX p.es))]),(.s 3,It.v (.ptr (.o 3) 0)),(.s 6,It.v (.c (.slice none 0 0))),(.s 7,It.v (.d (.int .i64 0))),(.s 9,It.v (.d (ints G))),(.s 12,It.v (.bK 12 ((PF z.1).length))),(.o 12,It.row 113 4 (dd (lC (PF z.1))) false),(.s 44,It.v (.d (ints ids))),(.s 45,It.v (.d (.int .i64 (ids).length))),(.s 46,It.v (.d (.int .i64 z.1)))])
  (fun z=>(ids).length-z.1) ⟨0,by omega⟩ ?_ ?_
 ·exact GS.own' (k:=12) 113 4 (by simp) (by simp) (by simp[ints,ans,lC,hP0])
 rintro⟨i,i1⟩;have hpl:=hPl i;by_cases hi:i<(ids).length
 ·have hiz:(i:Int)<(ids).length:=by omega
  have hx:(ids)[i]? = some (ids)[i]:=ah hi;have hm:=aB hi;have ht:=AP i _ hx;dsimp only at ht;have w1:IntKind.i64.wrap ((i:Int)+1)=(i:Int)+1:=wrap_i64 (by omega) (by omega);generalize (ids)[i]=x at hx hm ht;generalize PF i=S at hpl ht⊢;have hin:=adf G (by omega) x;simp only[ints]at hin;by_cases c1:x∈G
  ·simp only[c1,decide_true,oq,bI,if_false,aZ]at ht;simp -dsimp[hiz,hx,ints];and_intros;all_goals try first|rfl|omega|exact⟨by kernel_rfl⟩
   refine aF.of hin [] 0 ?_;simp -dsimp[pY,c1,w1];and_intros;all_goals try first|rfl|omega|exact⟨by kernel_rfl⟩
   exact⟨⟨i+1,by omega⟩,GS.to (by simp[ht,ints,ans]),by simp;omega⟩
  ·simp only[c1,decide_false,j_,if_true]at ht;simp -dsimp[hiz,hx,ints];and_intros;all_goals try first|rfl|omega|exact⟨by kernel_rfl⟩
   refine aF.of hin [] 0 ?_;simp -dsimp[pY,c1];and_intros;all_goals try first|rfl|omega|exact⟨by kernel_rfl⟩
   refine aF.of (hO x) [] 0 ?_;simp -dsimp[w1,ng];and_intros;all_goals try first|rfl|omega|exact⟨by kernel_rfl⟩
   exact⟨⟨i+1,by omega⟩,GS.to (by simp[ht,ints,ans,lC]),by simp;omega⟩
 have hiz :¬(i:Int)<(ids).length:=by omega
 obtain rfl:i=(ids).length:=by omega
 obtain⟨A,hA⟩:∃A,A=PF (ids).length:=⟨_,rfl⟩
 rw[←hA];rw[AO]at hA
 rw[←hA]at hw
 have hA1:(A).length≤(ids).length:=by rw[hA];exact nV _ _ _
 clear hpl hP0 AP hPl AO hA;simp -dsimp[hiz,ints,ans];and_intros;all_goals try first|rfl|omega|exact⟨by kernel_rfl⟩
 obtain⟨PF,hP0,AP,hPl,AO⟩:∃PF:Nat→List (List Int),PF 0 = []∧(∀(i:Nat) x,(G)[i]? = some x→PF (i+1)=PF i++if(fun id=>!decide (id∈ids)) x=true then [(fun id=>[2,((jF l id).getD 0 ⟨0,0,0,0⟩).rt,id,0]) x]else [])∧(∀i,(PF i).length≤(G).length)∧PF (G).length=((G).filter (fun id=>!decide (id∈ids))).map (fun id=>[2,((jF l id).getD 0 ⟨0,0,0,0⟩).rt,id,0]):=
  ⟨fun i=>(((G).take i).filter (fun id=>!decide (id∈ids))).map (fun id=>[2,((jF l id).getD 0 ⟨0,0,0,0⟩).rt,id,0]),by simp,fun i x h=>rX h,fun i=>aY (nV _ _ _) (by rw[bF];omega),by simp only[bP]⟩
 refine bY.of [] (kb 0x10003c00203c008078020f043d0db5bcf) (ι:={i:Nat // i≤(G).length})
  (fun z=>[(.s 1,It.v (.d (ints ids))),(.s 2,It.v (.d (.sl (ans l)))),(.o 3,It.box [TV.d (.int .i64 p.gU),TV.d (.int .i64 p.len),TV.d (.sl (lX p.es))]),(.s 3,It.v (.ptr (.o 3) 0)),(.s 6,It.v (.c (.slice none 0 0))),(.s 7,It.v (.d (.int .i64 0))),(.s 9,It.v (.d (ints G))),(.s 12,It.v (.bK 12 ((A).length+(PF z.1).length))),(.o 12,It.row 113 4 (dd (lC (A))++dd (lC (PF z.1))) false),(.s 63,It.v (.d (ints G))),(.s 64,It.v (.d (.int .i64 (G).length))),(.s 65,It.v (.d (.int .i64 z.1)))])
  (fun z=>(G).length-z.1) ⟨0,by omega⟩ ?_ ?_
 ·exact GS.to (by simp[ints,ans,uS,lC,hP0,aX])
 rintro⟨i,i1⟩;have hpl:=hPl i;by_cases hi:i<(G).length
 ·have hiz:(i:Int)<(G).length:=by omega
  have hx:(G)[i]? = some (G)[i]:=ah hi;have hm:=aB hi;have ht:=AP i _ hx;dsimp only at ht;have w1:IntKind.i64.wrap ((i:Int)+1)=(i:Int)+1:=wrap_i64 (by omega) (by omega);generalize (G)[i]=x at hx hm ht;generalize PF i=S at hpl ht⊢;have hin:=adf ids hi0 x;have hof:=hOf x;have hpos:=hGm x hm;have hal:=hAl x;simp only[ints]at hin
  generalize jF l x=M at hof hpos hal ht;by_cases c1:x∈ids
  ·simp only[c1,decide_true,oq,bI,if_false,aZ]at ht;simp -dsimp[hiz,hx,ints];and_intros;all_goals try first|rfl|omega|exact⟨by kernel_rfl⟩
   refine aF.of hof [] 0 ?_;simp -dsimp[ints];and_intros;all_goals try first|rfl|omega|exact⟨by kernel_rfl⟩
   refine aF.of hin [] 0 ?_;simp -dsimp[pY,c1,w1];and_intros;all_goals try first|rfl|omega|exact⟨by kernel_rfl⟩
   exact⟨⟨i+1,by omega⟩,GS.to (by simp[ht,ints,ans]),by simp;omega⟩
  ·obtain⟨a,M,rfl⟩:∃a M',M=a::M':=by cases M with
    | nil=>simp at hpos
    | cons a M=>exact⟨a,M,rfl⟩
   simp only[c1,decide_false,j_,if_true,lH]at ht;simp -dsimp[hiz,hx,ints];and_intros;all_goals try first|rfl|omega|exact⟨by kernel_rfl⟩
   refine aF.of hof [] 0 ?_;simp -dsimp[ints];and_intros;all_goals try first|rfl|omega|exact⟨by kernel_rfl⟩
   refine aF.of hin [] 0 ?_;simp -dsimp[pY,c1,w1,ans,BJ,ng];and_intros;all_goals try first|rfl|omega|exact⟨by kernel_rfl⟩
   exact⟨⟨i+1,by omega⟩,GS.to (by simp[ht,ints,ans,lC,aX]),by simp;omega⟩
 have hiz :¬(i:Int)<(G).length:=by omega
 obtain rfl:i=(G).length:=by omega
 obtain⟨B,hB⟩:∃B,B=PF (G).length:=⟨_,rfl⟩
 rw[←hB];rw[AO]at hB
 rw[←hB]at hw
 have hB1:(B).length≤(G).length:=by rw[hB];exact nV _ _ _
 clear hpl hP0 AP hPl AO hB;simp -dsimp[hiz,ints,ans];and_intros;all_goals try first|rfl|omega|exact⟨by kernel_rfl⟩
 obtain⟨PF,hP0,AP,hPl,AO⟩:∃PF:Nat→List (List Int),PF 0 = []∧(∀(i:Nat) x,(G)[i]? = some x→PF (i+1)=PF i++if(fun id=>decide (1<(jF l id).length)) x=true then [(fun id=>[3,((jF l id).getD 1 ⟨0,0,0,0⟩).rt,id,((jF l id).length:Int)]) x]else [])∧(∀i,(PF i).length≤(G).length)∧PF (G).length=((G).filter (fun id=>decide (1<(jF l id).length))).map (fun id=>[3,((jF l id).getD 1 ⟨0,0,0,0⟩).rt,id,((jF l id).length:Int)]):=
  ⟨fun i=>(((G).take i).filter (fun id=>decide (1<(jF l id).length))).map (fun id=>[3,((jF l id).getD 1 ⟨0,0,0,0⟩).rt,id,((jF l id).length:Int)]),by simp,fun i x h=>rX h,fun i=>aY (nV _ _ _) (by rw[bF];omega),by simp only[bP]⟩
 refine bY.of [] (kb 0x10003c00203c008078020f043d0db5bcf) (ι:={i:Nat // i≤(G).length})
  (fun z=>[(.s 1,It.v (.d (ints ids))),(.s 2,It.v (.d (.sl (ans l)))),(.o 3,It.box [TV.d (.int .i64 p.gU),TV.d (.int .i64 p.len),TV.d (.sl (lX p.es))]),(.s 3,It.v (.ptr (.o 3) 0)),(.s 6,It.v (.c (.slice none 0 0))),(.s 7,It.v (.d (.int .i64 0))),(.s 9,It.v (.d (ints G))),(.s 12,It.v (.bK 12 ((A++B).length+(PF z.1).length))),(.o 12,It.row 113 4 (dd (lC (A++B))++dd (lC (PF z.1))) false),(.s 86,It.v (.d (ints G))),(.s 87,It.v (.d (.int .i64 (G).length))),(.s 88,It.v (.d (.int .i64 z.1)))])
  (fun z=>(G).length-z.1) ⟨0,by omega⟩ ?_ ?_
 ·exact GS.to (by simp[ints,ans,uS,lC,hP0,aX])
 rintro⟨i,i1⟩;have hpl:=hPl i;by_cases hi:i<(G).length
 ·have hiz:(i:Int)<(G).length:=by omega
  have hx:(G)[i]? = some (G)[i]:=ah hi;have hm:=aB hi;have ht:=AP i _ hx;dsimp only at ht;have w1:IntKind.i64.wrap ((i:Int)+1)=(i:Int)+1:=wrap_i64 (by omega) (by omega);generalize (G)[i]=x at hx hm ht;generalize PF i=S at hpl ht⊢;have hof:=hOf x;have hal:=hAl x;obtain⟨M,hM⟩:∃M,M=jF l x:=⟨_,rfl⟩
  have ht:PF (i+1)=S++if 1<M.length then [[3,(M.getD 1 ⟨0,0,0,0⟩).rt,x,(M.length:Int)]]else []:=by rw[ht,hM];simp
  rw[←hM]at hof hal
  clear hM;by_cases c1:1<M.length
  ·obtain⟨a,b,M,rfl⟩:∃a b M',M=a::b::M':=by
    match M,c1 with
    | a::b::M,_=>exact⟨a,b,M,rfl⟩
   simp only[c1,if_true,sD,lH]at ht;simp only[aT]at hal;have xB:(1:Int)<(M.length:Int)+1+1:=by omega
   simp -dsimp[hiz,hx,ints];and_intros;all_goals try first|rfl|omega|exact⟨by kernel_rfl⟩
   refine aF.of hof [] 0 ?_;simp -dsimp[w1,ans,BJ,xB,ng];and_intros;all_goals try first|rfl|omega|exact⟨by kernel_rfl⟩
   have e2:(M.length:Int)+2=(M.length:Int)+1+1:=by omega
   exact⟨⟨i+1,by omega⟩,GS.to (by simp[ht,ints,ans,lC,aX,e2]),by simp;omega⟩
  ·have xB :¬(1:Int)<M.length:=by omega
   rw[if_neg c1,aZ]at ht
   simp -dsimp[hiz,hx,ints];and_intros;all_goals try first|rfl|omega|exact⟨by kernel_rfl⟩
   refine aF.of hof [] 0 ?_;simp -dsimp[w1,ans,xB];and_intros;all_goals try first|rfl|omega|exact⟨by kernel_rfl⟩
   exact⟨⟨i+1,by omega⟩,GS.to (by simp[ht,ints,ans]),by simp;omega⟩
 have hiz :¬(i:Int)<(G).length:=by omega
 obtain rfl:i=(G).length:=by omega
 obtain⟨C,hC⟩:∃C,C=PF (G).length:=⟨_,rfl⟩
 rw[←hC];rw[AO]at hC
 rw[←hC]at hw
 have hC1:(C).length≤(G).length:=by rw[hC];exact nV _ _ _
 clear hpl hP0 AP hPl AO hC;simp -dsimp[hiz,ints,ans];and_intros;all_goals try first|rfl|omega|exact⟨by kernel_rfl⟩
 obtain⟨PF,hP0,AP,hPl,AO⟩:∃PF:Nat→List (List Int),PF 0 = []∧(∀(i:Nat) x,(l)[i]? = some x→PF (i+1)=PF i++if(fun a:An=>decide (a.kd=1)&&decide (a.rt≠o a.id)) x=true then [(fun a:An=>[4,o a.id,a.id,a.rt]) x]else [])∧(∀i,(PF i).length≤(l).length)∧PF (l).length=((l).filter (fun a:An=>decide (a.kd=1)&&decide (a.rt≠o a.id))).map (fun a:An=>[4,o a.id,a.id,a.rt]):=
  ⟨fun i=>(((l).take i).filter (fun a:An=>decide (a.kd=1)&&decide (a.rt≠o a.id))).map (fun a:An=>[4,o a.id,a.id,a.rt]),by simp,fun i x h=>rX h,fun i=>aY (nV _ _ _) (by rw[bF];omega),by simp only[bP]⟩
 refine bY.of [] (kb 0x10003c00203c008078020f043d0db5bcf) (ι:={i:Nat // i≤(l).length})
  (fun z=>[(.s 1,It.v (.d (ints ids))),(.s 2,It.v (.d (.sl (ans l)))),(.o 3,It.box [TV.d (.int .i64 p.gU),TV.d (.int .i64 p.len),TV.d (.sl (lX p.es))]),(.s 3,It.v (.ptr (.o 3) 0)),(.s 6,It.v (.c (.slice none 0 0))),(.s 7,It.v (.d (.int .i64 0))),(.s 9,It.v (.d (ints G))),(.s 12,It.v (.bK 12 ((A++(B++C)).length+(PF z.1).length))),(.o 12,It.row 113 4 (dd (lC (A++(B++C)))++dd (lC (PF z.1))) false),(.s 110,It.v (.d (.sl (ans l)))),(.s 111,It.v (.d (.int .i64 (l).length))),(.s 112,It.v (.d (.int .i64 z.1)))])
  (fun z=>(l).length-z.1) ⟨0,by omega⟩ ?_ ?_
 ·exact GS.to (by simp[ints,ans,uS,lC,hP0,aX])
 rintro⟨i,i1⟩;have hpl:=hPl i;by_cases hi:i<(l).length
 ·have hiz:(i:Int)<(l).length:=by omega
  have hx:(l)[i]? = some (l)[i]:=ah hi;have hm:=aB hi;have ht:=AP i _ hx;dsimp only at ht;have w1:IntKind.i64.wrap ((i:Int)+1)=(i:Int)+1:=wrap_i64 (by omega) (by omega);generalize (l)[i]=x at hx hm ht;generalize PF i=S at hpl ht⊢;have hx':=yX hx;have hox:=hO x.id;by_cases c1:x.kd=1
  ·by_cases c2:x.rt=o x.id
   ·simp only[c1,c2,decide_true,ne_eq,not_true_eq_false,decide_false,pK,bI,if_false,aZ]at ht;simp -dsimp[hiz,hx',BJ];and_intros;all_goals try first|rfl|omega|exact⟨by kernel_rfl⟩
    refine aF.of hox [] 0 ?_;simp -dsimp[eq_true c1,eq_true c2,w1];and_intros;all_goals try first|rfl|omega|exact⟨by kernel_rfl⟩
    exact⟨⟨i+1,by omega⟩,GS.to (by simp[ht,ints]),by simp;omega⟩
   ·simp only[c1,c2,decide_true,ne_eq,not_false_eq_true,l7,if_true]at ht;simp -dsimp[hiz,hx',BJ];and_intros;all_goals try first|rfl|omega|exact⟨by kernel_rfl⟩
    refine aF.of hox [] 0 ?_;simp -dsimp[eq_true c1,eq_false c2,w1,ng];and_intros;all_goals try first|rfl|omega|exact⟨by kernel_rfl⟩
    exact⟨⟨i+1,by omega⟩,GS.to (by simp[ht,ints,lC,aX,c1]),by simp;omega⟩
  ·simp only[c1,decide_false,lF,bI,if_false,aZ]at ht;simp -dsimp[hiz,hx',BJ];and_intros;all_goals try first|rfl|omega|exact⟨by kernel_rfl⟩
   refine aF.of hox [] 0 ?_;simp -dsimp[eq_false c1,w1];and_intros;all_goals try first|rfl|omega|exact⟨by kernel_rfl⟩
   exact⟨⟨i+1,by omega⟩,GS.to (by simp[ht,ints]),by simp;omega⟩
 have hiz :¬(i:Int)<(l).length:=by omega
 obtain rfl:i=(l).length:=by omega
 obtain⟨E,hE⟩:∃E,E=PF (l).length:=⟨_,rfl⟩
 rw[←hE];rw[AO]at hE
 rw[←hE]at hw
 have hE1:(E).length≤(l).length:=by rw[hE];exact nV _ _ _
 clear hpl hP0 AP hPl AO hE;simp -dsimp[hiz,ints,ans];and_intros;all_goals try first|rfl|omega|exact⟨by kernel_rfl⟩
 refine Fin.view 6 ?_;simp -dsimp[ng];refine Fin.of ?_;simp[hw,lC]
theorem UC(l:List (List Int))(hl:l.length≤1000000)(h4:∀x∈l,x.length=4):Contract Tryz.prog 69 [.d (.sl (lC l)),.d (.sl (lC l))] [] (.d (.bool true)) [] []:=by
 refine aC Tryz.func69 rfl (fun E0=>?_);refine iK.sound (g:=.mk) (ow:=[]) (kp:=(kb 0x1007433)) ?_;rw[Tryz.ntmps69];simp -dsimp;and_intros;all_goals try first|rfl|omega|exact⟨by kernel_rfl⟩
 refine bY.of [] (kb 0x1007433) (ι:={i:Nat // i≤l.length})
  (fun z=>[(.s 0,It.v (.d (.sl (lC l)))),(.s 1,It.v (.d (.sl (lC l)))),(.s 12,It.v (.d (.int .i64 l.length))),(.s 13,It.v (.d (.int .i64 z.1)))])
  (fun z=>l.length-z.1) ⟨0,by omega⟩ ?_ ?_
 ·exact GS.to (by simp)
 rintro⟨i,i1⟩;by_cases hi:i<l.length
 ·have hiz:(i:Int)<l.length:=by omega
  have hx:l[i]? = some l[i]:=ah hi;have hm:=h4 _ (aB hi);generalize l[i]=x at hx hm;obtain⟨a,b,c,d,rfl⟩:∃a b c d,x = [a,b,c,d]:=by
   rcases x with _|⟨a,_|⟨b,_|⟨c,_|⟨d,_|⟨e,x⟩⟩⟩⟩⟩<;>simp at hm
   exact⟨a,b,c,d,rfl⟩
  have hf:(lC l)[i]? = some [D.int .i64 a,D.int .i64 b,D.int .i64 c,D.int .i64 d]:=by simp[lC,hx]
  have w1:IntKind.i64.wrap ((i:Int)+1)=(i:Int)+1:=wrap_i64 (by omega) (by omega);simp -dsimp[hiz,hf,w1];and_intros;all_goals try first|rfl|omega|exact⟨by kernel_rfl⟩
  exact⟨⟨i+1,by omega⟩,GS.to (by simp),by simp;omega⟩
 have hiz :¬(i:Int)<l.length:=by omega
 simp -dsimp[hiz];and_intros;all_goals try first|rfl|omega|exact⟨by kernel_rfl⟩
 refine Fin.of ?_;simp
def y7:List Ed→List Int→Tp→List Int×Tp
 | [],out,T=>(out,T)
 | e::es,out,T=>y7 es (if 0<(bH T 3).1 then out++[e.id]else out) (bH T 3).2
theorem ahf(T:Tp)(hT:dW T)(p:Pn)(hp:p.es.length≤1000):Contract Tryz.prog 65 [.ptr (.x 0) 0,iE p] [iG T] (.d (ints (y7 p.es [] T).1)) [iG (y7 p.es [] T).2] []:=by
 refine aC Tryz.func65 rfl (fun E0=>?_);refine iK.sound (g:=.mk) (ow:=[5]) (kp:=(kb 0x21ebb)) ?_;rw[Tryz.ntmps65];simp -dsimp[iE];and_intros;all_goals try first|rfl|omega|exact⟨by kernel_rfl⟩
 refine bY.of [5] (kb 0x21ebb) (ι:={z:Nat×List Int×Tp // dW z.2.2∧z.1≤p.es.length∧z.2.1.length≤z.1∧y7 p.es [] T=y7 (p.es.drop z.1) z.2.1 z.2.2})
  (fun z=>[(.s 0,It.v (.ptr (.x 0) 0)),(.x 0,iG z.1.2.2),(.o 5,It.row 3 1 (dd (fE .i64 z.1.2.1)) false),(.s 5,It.v (.bK 5 z.1.2.1.length)),(.s 9,It.v (.d (.sl (lX p.es)))),(.s 10,It.v (.d (.int .i64 p.es.length))),(.s 11,It.v (.d (.int .i64 z.1.1)))])
  (fun z=>p.es.length-z.1.1) ⟨(0,[],T),hT,by omega,by simp,by simp⟩ ?_ ?_
 ·exact GS.own' (k:=5) 3 1 (by simp) (by simp) (by simp[iG,dd,fE])
 rintro⟨⟨i,out,T'⟩,h1,h2,h3,h4⟩;simp only at h1 h2 h3 h4;by_cases hi:i<p.es.length
 ·have hiz:(i:Int)<p.es.length:=by omega
  have hx:p.es[i]? = some p.es[i]:=ah hi;have hd:p.es.drop i=p.es[i]::p.es.drop (i+1):=aU hi;generalize p.es[i]=e at hx hd;have w1:IntKind.i64.wrap ((i:Int)+1)=(i:Int)+1:=wrap_i64 (by omega) (by omega);rw[hd,y7]at h4
  simp -dsimp[hiz,hx,lX,Ed.cs];and_intros;all_goals try first|rfl|omega|exact⟨by kernel_rfl⟩
  refine aF.of (jR T' h1 3 ⟨by omega,by omega⟩) [.x 0] 0 ?_;have k1:dW (bH T' 3).2:=by simpa using h1
  generalize bH T' 3=a at k1 h4⊢;obtain⟨a,T2⟩:=a;simp only at k1 h4⊢;by_cases ha:0<a
  ·rw[if_pos ha]at h4
   simp -dsimp[ha,w1];and_intros;all_goals try first|rfl|omega|exact⟨by kernel_rfl⟩
   exact⟨⟨(i+1,out++[e.id],T2),k1,by simp only;omega,by simp;omega,h4⟩,GS.to (by simp[lX,iG];simp[dd,fE]),by simp;omega⟩
  ·rw[if_neg ha]at h4
   simp -dsimp[ha,w1];and_intros;all_goals try first|rfl|omega|exact⟨by kernel_rfl⟩
   exact⟨⟨(i+1,out,T2),k1,by simp only;omega,by simp only;omega,h4⟩,GS.to (by simp[lX,iG]),by simp;omega⟩
 have hiz :¬(i:Int)<p.es.length:=by omega
 rw[oD (by omega),y7]at h4
 simp -dsimp[hiz];and_intros;all_goals try first|rfl|omega|exact⟨by kernel_rfl⟩
 refine Fin.view 4 ?_;simp -dsimp;refine Fin.of ?_;simp[h4,ints,dd,fE,iG]
end Go.Proofs
