/-
  What functions of the program compute, stated as contracts over plain data; the conditions of each stand in its own statement.
-/
import Derived.Test.YtkikielfhjoogaaGreatDoorZA22
import Derived.Test.YtkikielfhjoogaaGreatDoorZA13
import Derived.Test.YtkikielfhjoogaaGreatDoorZA11
set_option linter.unusedVariables false
set_option linter.unusedSimpArgs false
namespace Go.Proofs
open Go Go.Tr
structure sG where
 dl:List (Int×Pk)
 cr:List (Int×Int×BitVec 64)
 ls:List (Int×BitVec 64)
def qV:sG:=⟨[],[],[]⟩
def nextQ(l:List Tb)(q:Int×Pk):List (Int×Pk):=
 match lZ l q.1 with
 | none=>[]
 | some b=>(vS b q.2).1.uJ
def stepT(l:List Tb)(q:Int×Pk)(t:sG):sG:=
 match lZ l q.1 with
 | none=>⟨t.dl,t.cr,t.ls++[(q.1,q.2.bits)]⟩
 | some b=>⟨t.dl++O1 q.1 (vS b q.2).1 q.2,t.cr++(vS b q.2).1.uJ.map (fun c=>(q.1,c.1,c.2.bits)),if(vS b q.2).1.lost=0#64 then t.ls else t.ls++[(q.1,(vS b q.2).1.lost)]⟩
def sD(l:List Tb):Nat→List (Int×Pk)→sG→sG
 | 0,_,t=>t
 | _+1,[],t=>t
 | n+1,q::qs,t=>sD l n (qs++nextQ l q) (stepT l q t)
def pc(B:BitVec 64):Nat:=(pX B).length
def wt(p:Pk):Nat:=pc p.bits*(2*p.ttl.toNat+1)+1
def yN(l:List (Int×Pk)):Nat:=(l.map fun c=>wt c.2).sum
def xA(l:List Tb)(p:Pk)(r:Int):sG×Int:=
 if Jt l≠0∨p.ok=false then(qV,1)else match lZ l r with
  | none=>(qV,4)
  | some b=>if p.mode=2 then(qV,7)else if p.jd≠b.sd∨p.len≠b.len then(qV,8)else(sD l (wt p) [(r,p)] qV,0)
theorem Dz(a b:List (Int×Pk)):yN (a++b)=yN a+yN b:=by simp[yN]
theorem Ai(q:Int×Pk)(b:List (Int×Pk)):yN (q::b)=wt q.2+yN b:=by rfl
theorem Ih:∀l:List (Int×Pk),l.length≤yN l
 | []=>by simp
 | q::l=>by
   have:=Ih l
   grind[Ai,wt]
theorem Hy{α:Type}(p:α→Bool):∀l:List α,(l.filter p).length+(l.filter fun x=>!p x).length=l.length
 | []=>rfl
 | x::l=>by
   have:=Hy p l
   grind
theorem adg(R M:BitVec 64):pX (R&&&M)=(pX R).filter fun i=>M.getLsbD i:=by simp[pX,oC]
theorem UF(R M:BitVec 64):pX (R &&& ~~~ M)=(pX R).filter fun i=>!M.getLsbD i:=by
 unfold pX;rw[mF];apply iy;intro i hi;have:i<64:=by simpa using hi
 rw[dG,jw];simp[this,oC]
theorem aho(R M:BitVec 64):pc (R&&&M)+pc (R &&& ~~~ M)=pc R:=by grind[pc,adg,UF,Hy]
theorem akX(B:BitVec 64):pc B≤64:=DT B
theorem al5{B:BitVec 64}(h:B≠0#64):1≤pc B:=by grind[pc,Yn]
theorem akv{p:Pk}{R M:BitVec 64}(h:(zX (p.setB R) M).2=true):wt (zX (p.setB R) M).1≤pc (R&&&M)*(2*p.ttl.toNat):=by
 unfold zX at h⊢;split at h
 ·rename_i hc;obtain⟨h1,h2,h3⟩:=hc;rw[if_pos ⟨h1,h2,h3⟩];have hp:=al5 h3;have ht:=AP h1;simp only[Pk.setB]at hp h2 ht;have ht1:(p.ttl-1).toNat=p.ttl.toNat-1:=by omega
  simp only[wt,lX,Pk.setB,ht1];obtain⟨T,hT⟩:∃T,p.ttl.toNat=T+1:=⟨p.ttl.toNat-1,by omega⟩
  rw[hT,show T+1-1=T by omega,show 2*(T+1)=(2*T+1)+1 by omega,Nat.mul_add _ (2*T+1) 1];omega
 trivial
theorem abM(b:Tb)(p:Pk):∀(n:Nat) (o:Out) (R:BitVec 64),yN (H9 b p n o R).uJ≤yN o.uJ+pc R*(2*p.ttl.toNat)
 | 0,o,R=>by simp[H9]
 | n+1,o,R=>by
   rw[H9];split
   ·omega
   ·have ih:=abM b p n (vP b p o R) (R &&& ~~~ xO b p R);refine dw ih ?_;have hs:=aho R (xO b p R);have hm:pc (R &&& ~~~ xO b p R)*(2*p.ttl.toNat)+pc (R&&&xO b p R)*(2*p.ttl.toNat)=pc R*(2*p.ttl.toNat):=by grind
    by_cases c0:dL b p (tz R)=0
    ·have eO:(vP b p o R).uJ=o.uJ:=by rw[vP,if_pos c0]
     grind
    by_cases c1:dL b p (tz R)=b.r
    ·have eO:(vP b p o R).uJ=o.uJ:=by rw[vP,if_neg c0,if_pos c1]
     grind
    have eM:xO b p R=vk b p R (dL b p (tz R)):=by rw[xO,if_neg (fun h=>h.elim c0 c1)]
    by_cases c2:(zX (p.setB R) (vk b p R (dL b p (tz R)))).2=true
    ·have eO:(vP b p o R).uJ=o.uJ++[(dL b p (tz R),(zX (p.setB R) (vk b p R (dL b p (tz R)))).1)]:=by
      rw[vP,if_neg c0,if_neg c1,if_pos c2]
     have hw:=akv c2;rw[←eM]at hw
     rw[eO,Dz,Ai,←eM];simp only[yN,dQ,List.sum_nil]at *;omega
    ·have eO:(vP b p o R).uJ=o.uJ:=by rw[vP,if_neg c0,if_neg c1,if_neg c2]
     grind
theorem Pj(l:List Tb)(q:Int×Pk):yN (nextQ l q)+1≤wt q.2:=by
 have h0:1≤wt q.2:=by simp[wt]
 unfold nextQ;split
 ·trivial
 ·rename_i b _;unfold vS;split
  ·trivial
  split
  ·trivial
  split
  ·trivial
  have h:=abM b q.2 64 wU q.2.bits;have e0:yN wU.uJ=0:=rfl
  grind[vG,wt]
theorem apd{p:Pk}(h:p.ok=true):wt p≤8129:=by
 have h1:=AP h;have h2:=akX p.bits;unfold wt;have h3:2*p.ttl.toNat+1≤127:=by omega
 have:=lN h2 h3;omega
theorem Qm(l:List Tb)(n:Nat)(t:sG):sD l n [] t=t:=by cases n<;>rfl
theorem Xq(b:Tb)(p:Pk):∀(n:Nat) (o:Out) (R:BitVec 64),(H9 b p n o R).uJ.length≤o.uJ.length+n
 | 0,o,R=>by simp[H9]
 | n+1,o,R=>by
   rw[H9];split
   ·omega
   ·have ih:=Xq b p n (vP b p o R) (R &&& ~~~ xO b p R)
    grind[vP]
theorem aga(b:Tb)(p:Pk):(vS b p).1.uJ.length≤64:=by grind[vS,wU,Xq,vG]
set_option maxRecDepth 100000
set_option maxHeartbeats 8000000
theorem Ub(p:Pk):0≤pV p∧pV p≤7:=by grind[pV]
theorem alY{p:Pk}(h:p.ok=true):0≤p.set∧p.set≤31:=by simp only[Pk.ok,zh,aG,decide_eq_true_eq]at h;omega
theorem alD{b:Tb}(hc:chk b=0)(p:Pk)(id:Int):wR b id (pV p)=xP b id (pV p):=by have:=Ub p;rw[wR,if_pos (yH.2 ⟨hc,this,by omega,by omega⟩)]
theorem ajv{b:Tb}(hc:chk b=0){p:Pk}(hp:p.ok=true){n:Int}(hn:1≤n∧n≤99):Bz b (pV p) p.set n=NJ b (pV p) p.set n b.len.toNat:=by have h1:=Ub p;have h2:=alY hp;rw[XZ,aci,if_pos ⟨yH.2 ⟨hc,h1,h2⟩,hn⟩]
theorem ajK{p:Pk}{R:BitVec 64}(hp:p.ok=true)(hR:∀k<64,R.getLsbD k=true→p.bits.getLsbD k=true):(p.setB R).ok=true:=by
 simp only[Pk.setB]at *;simp only[Pk.ok,aG,wz,decide_eq_true_eq]at hp⊢
 grind
end Go.Proofs

set_option maxRecDepth 100000
set_option maxHeartbeats 16000000
namespace Go.Tr
open Go
theorem GS.TQ{A:f_}{l:List (Pl×It)}(p:Pl)(j id:Nat){cs:List TV}(e z:Nat)(hs:rP p=true)(hp:look l p = .box cs)(hj:cs[j]? = some (.c (.slice none 0 0)))(ho:look l (.o id) = .none):
  GS A (look l) (look (jL p (.box (cs.set j (.aW id 0))) (jL (.o id) (.row e z [] false) l))):=by
 have:=GS.ownB (A:=A) (id:=id) e z (fun k e=>by subst e;simp[rP]at hs) hp hj ho;rw[je,je]at this
 exact this
theorem GS.aoY{A:f_}{l:List (Pl×It)}(id:Nat){k:Nat}{e:TypeId}{es:List (List TV)}(ht:look l (.o id) = .row e k es false)(hn:0<es.length):GS A (look l) (look (jL (.o id) (.sJ e k es) l)):=by
 have:=GS.sJ (A:=A) ht hn;rw[je]at this
 exact this
theorem It.ahf(po:Nat→Prop)(e:TypeId)(k:Nat)(es:List (List TV)):It.only po (.sJ e k es)=lH po es:=rfl
attribute [simp] It.ahf
theorem GS.cut'{A:f_}{l l':List (Pl×It)}(s id:Nat){n j k:Nat}{e:TypeId}(xs:List (List D))(hs:look l (.s s) = .v (.LG id n j))(ht:look l (.o id) = .sJ e k (dd xs))(hn:n=xs.length)(hj:j≤n)
  (h:Sub (look l) (UQ s id l')∧lu (UQ s id l')=lu l) (hid:id∉oz (UQ s id l'))
  (h':Sub (look (jL (.s s) (.v (.aW id (n-j))) (jL (.o id) (.sJ e k (dd (xs.drop j))) (UQ s id l')))) l'∧lu l'=lu (jL (.s s) (.v (.aW id (n-j))) (jL (.o id) (.sJ e k (dd (xs.drop j))) (UQ s id l')))):GS A (look l) (look l'):=
 GS.cut (UQ s id l') s id hs ht hn hj h hid h'
end Go.Tr
namespace Go.Proofs
open Go Go.Tr
def Ci(x:Int×Int×BitVec 64):List D:=[.int .i64 x.1,.int .i64 x.2.1,bv x.2.2]
def lsC(x:Int×BitVec 64):List D:=[.int .i64 x.1,bv x.2]
def Gl(t:sG):TV:=.agg [.d (.sl (t.dl.map rF)),.d (.sl (t.cr.map Ci)),.d (.sl (t.ls.map lsC))]
theorem ao2(l:List Tb)(hl:SmL l)(p:Pk)(r:Int):Contract Tryz.prog 11 [.d (.sl (Gn l)),sH p,.d (.int .i64 r)] [] (.qh [Gl (xA l p r).1,.d (.int .i64 (xA l p r).2)]) [] []:=by
 have hck:=afz l hl;have hv:=wY p;have hf:=afY l hl r;simp only[sH,Pk.cs,List.map]at hv;refine ay Tryz.func11 rfl (fun E0=>?_);refine iC.sound (g:=.mk) (ow:=[60]) (kp:=(kb 0x1e00200000002000800008440404ffd7)) ?_;rw[Tryz.ntmps11]
 simp -dsimp[sH,Pk.cs];try refine⟨?_,⟨by kernel_rfl⟩⟩
 refine aI.of hck [] 0 ?_;by_cases h1:Jt l=0
 rotate_left
 ·simp -dsimp[h1];try refine⟨?_,⟨by kernel_rfl⟩⟩
  refine Fin.box (.o 6) rfl ?_;simp -dsimp;refine Fin.of ?_;simp[xA,h1,Gl,qV]
 simp -dsimp[h1];try refine⟨?_,⟨by kernel_rfl⟩⟩
 refine aI.of hv [] 0 ?_;rcases (aA p.ok).symm with h2|h2
 ·simp -dsimp[h2];try refine⟨?_,⟨by kernel_rfl⟩⟩
  refine Fin.box (.o 6) rfl ?_;simp -dsimp;refine Fin.of ?_;simp[xA,Gl,qV,h1,h2]
 cases hfd:lZ l r with
 | none=>
   rw[hfd]at hf
   simp only[FB,lU,Option.isSome_none,tb0,mD]at hf;simp -dsimp[h2];try refine⟨?_,⟨by kernel_rfl⟩⟩
   refine aI.of hf [] 0 ?_;simp -dsimp;try refine⟨?_,⟨by kernel_rfl⟩⟩
   refine Fin.box (.o 6) rfl ?_;simp -dsimp;refine Fin.of ?_;simp[xA,Gl,qV,h1,h2,hfd]
 | some b=>
   rw[hfd]at hf
   simp only[FB,bZ,Option.isSome_some,mD]at hf;simp -dsimp[h2];try refine⟨?_,⟨by kernel_rfl⟩⟩
   refine aI.of hf [] 0 ?_;by_cases h3:p.mode=2
   ·simp -dsimp[eq_true h3];try refine⟨?_,⟨by kernel_rfl⟩⟩
    refine Fin.box (.o 6) rfl ?_;simp -dsimp;refine Fin.of ?_;simp[xA,Gl,qV,h1,h2,hfd,h3]
   by_cases h4:p.jd=b.sd
   rotate_left
   ·simp -dsimp[h3,h4];try refine⟨?_,⟨by kernel_rfl⟩⟩
    refine Fin.box (.o 6) rfl ?_;simp -dsimp;refine Fin.of ?_;simp[xA,Gl,qV,h1,h2,hfd,h3,h4]
   by_cases h5:p.len=b.len
   rotate_left
   ·simp -dsimp[h3,eq_true h4,h5];try refine⟨?_,⟨by kernel_rfl⟩⟩
    refine Fin.box (.o 6) rfl ?_;simp -dsimp;refine Fin.of ?_;simp[xA,Gl,qV,h1,h2,hfd,h3,h4,h5]
   simp -dsimp[h3,eq_true h4,eq_true h5];try refine⟨?_,⟨by kernel_rfl⟩⟩
   have hr:xA l p r=(sD l (wt p) [(r,p)] qV,0):=by simp[xA,h1,h2,hfd,h3,h4,h5]
   have hwt:=apd h2;rw[hr];have aoo:yN [(r,p)]=wt p:=by simp[yN]
   refine dD.of [60] (kb 0x1e00200000002000800008440404ffd7) (ι:={z:Nat×List (Int×Pk)×sG // sD l (wt p) [(r,p)] qV=sD l z.1 z.2.1 z.2.2∧yN z.2.1≤z.1∧z.1≤8129∧z.2.2.dl.length+64*z.1≤600000∧z.2.2.cr.length+64*z.1≤600000∧z.2.2.ls.length+z.1≤600000})
    (fun z=>[(.s 0,It.v (.d (.sl (Gn l)))),(.o 6,It.box [TV.c (Value.slice none 0 0),TV.c (Value.slice none 0 0),TV.c (Value.slice none 0 0)]),(.s 6,It.v (.ptr (.o 6) 0)),(.s 7,It.v (.d (.int .i64 0))),
     (.o 10,It.box [TV.aW 70 z.1.2.2.dl.length,TV.aW 71 z.1.2.2.cr.length,TV.aW 72 z.1.2.2.ls.length]),(.s 10,It.v (.ptr (.o 10) 0)),
     (.o 70,It.row 87 11 (dd (z.1.2.2.dl.map rF)) false),(.o 71,It.row 124 3 (dd (z.1.2.2.cr.map Ci)) false),(.o 72,It.row 112 2 (dd (z.1.2.2.ls.map lsC)) false),
     (.o 60,It.sJ 109 11 (dd (z.1.2.1.map rF))),(.s 11,It.v (.aW 60 z.1.2.1.length))])
    (fun z=>z.1.1) ⟨(wt p,[(r,p)],qV),rfl,by simp only[aoo];omega,hwt,by simp[qV];omega,by simp[qV];omega,by simp[qV];omega⟩ ?_ ?_
   ·have axy:∀(a b c:TV),[a,b,c].set 0 (TV.aW 70 0) = [TV.aW 70 0,b,c]:=fun _ _ _=>rfl
    refine(GS.aoY 60 (e:=109) (k:=11) (es:=dd ([(r,p)].map rF)) (by simp[rF,Pk.cs]) (by simp)).trans ?_;simp only[jL,Pl.o.injEq,reduceCtorEq,if_false,if_true,Nat.reduceEqDiff];refine(GS.TQ (.o 10) 0 70 (cs:=[.c (.slice none 0 0),.c (.slice none 0 0),.c (.slice none 0 0)]) 87 11 (by simp) (by simp) (by simp) (by simp)).trans ?_
    simp only[jL,Pl.o.injEq,reduceCtorEq,if_false,if_true,Nat.reduceEqDiff,List.set];refine(GS.TQ (.o 10) 1 71 (cs:=[.aW 70 0,.c (.slice none 0 0),.c (.slice none 0 0)]) 124 3 (by simp) (by simp) (by simp) (by simp)).trans ?_;simp only[jL,Pl.o.injEq,reduceCtorEq,if_false,if_true,Nat.reduceEqDiff,List.set]
    exact GS.Df (.o 10) 2 72 (cs:=[.aW 70 0,.aW 71 0,.c (.slice none 0 0)]) 112 2 (by simp) (by simp) (by simp) (by simp) (by simp[qV])
   ·rintro⟨⟨n,Q,t⟩,i1,i2,i3,i4,i5,i6⟩;simp only at i1 i2 i3 i4 i5 i6;cases Q with
    | nil=>
      have e:sD l (wt p) [(r,p)] qV=t:=by rw[i1,Qm]
      simp -dsimp;refine Fin.box (.o 6) rfl ?_;simp -dsimp;refine Fin.of ?_;simp[Gl,e]
    | cons q Q=>
      obtain⟨q1,q2⟩:=q;rw[Ai]at i2
      have hq:=Pj l (q1,q2);have hw1:1≤wt q2:=by unfold wt;omega
      simp only at i2 hq;obtain⟨n,rfl⟩:∃j,n=j+1:=⟨n-1,by omega⟩
      rw[sD]at i1
      have hQl:=Ih Q;have hfq:=afY l hl q1;simp -dsimp[rF,Pk.cs];and_intros;all_goals try first|omega|exact⟨by kernel_rfl⟩
      cases ZX:lZ l q1 with
      | none=>
        have eN:nextQ l (q1,q2) = []:=by simp[nextQ,ZX]
        have eS:stepT l (q1,q2) t=⟨t.dl,t.cr,t.ls++[(q1,q2.bits)]⟩:=by simp[stepT,ZX]
        rw[eN,eS,bQ]at i1
        rw[ZX]at hfq
        simp only[FB,lU,Option.isSome_none,tb0,mD]at hfq;refine aI.of hfq [] 0 ?_;simp -dsimp;and_intros;all_goals try first|omega|exact⟨by kernel_rfl⟩
        refine⟨⟨(n,Q,⟨t.dl,t.cr,t.ls++[(q1,q2.bits)]⟩),i1,by simp only;omega,by simp only;omega,by simp only;omega,by simp only;omega,by simp only[aU,aH,dh];omega⟩,?_,by simp⟩;refine GS.cut' 11 60 (n:=Q.length+1) (j:=1) (k:=11) (e:=109) (((q1,q2)::Q).map rF) (by simp) (by simp[rF,Pk.cs]) (by simp) (by simp) (by simp[lsC,bv]) (by simp) (by simp[lsC,bv])
      | some b2=>
        have hb2:b2.Sm:=hl.t b2 (fG ZX);have eN:nextQ l (q1,q2)=(vS b2 q2).1.uJ:=by simp[nextQ,ZX]
        have eS:stepT l (q1,q2) t=⟨t.dl++O1 q1 (vS b2 q2).1 q2,t.cr++(vS b2 q2).1.uJ.map (fun c=>(q1,c.1,c.2.bits)),if(vS b2 q2).1.lost=0#64 then t.ls else t.ls++[(q1,(vS b2 q2).1.lost)]⟩:=by simp[stepT,ZX]
        rw[eN,eS]at i1
        rw[eN]at hq
        have hcl:=aga b2 q2;have hfp:=adA b2 hb2 q2;have hlc:=af4 b2 q1 (vS b2 q2).1 q2;have hll:(O1 q1 (vS b2 q2).1 q2).length≤64:=by unfold O1;rw[aV];exact Jm _
        rw[ZX]at hfq
        simp only[FB,bZ,Option.isSome_some,mD]at hfq;generalize vS b2 q2=F at i1 hq hcl hfp hlc hll;obtain⟨o,er⟩:=F;simp only at i1 hq hcl hfp hlc hll;generalize O1 q1 o q2=LV at i1 hlc hll;have hdl:dLen 11 (LV.map rF):=zK 11 _ _ fun _=>rfl
        obtain⟨axH,akT,oV⟩:=o;simp only at i1 hq hcl;have hCl:(oV.map fun c=>(q1,c.1,c.2.bits)).length=oV.length:=by simp
        have hCg:∀(j:Nat) (c:Int×Pk),oV[j]? = some c→(oV.map fun c=>(q1,c.1,c.2.bits))[j]? = some (q1,c.1,c.2.bits):=fun j c h=>by simp[h]
        generalize (oV.map fun c=>(q1,c.1,c.2.bits))=CRL at i1 hCl hCg;simp only[mD,sH,Pk.cs,List.map,outT,bv]at hfp hlc;refine aI.of hfq [] 0 ?_;simp -dsimp;try refine⟨?_,⟨by kernel_rfl⟩⟩
        refine aI.of hfp [] 0 ?_;simp -dsimp;try refine⟨?_,⟨by kernel_rfl⟩⟩
        try refine⟨rfl,?_⟩
        try refine⟨?_,⟨by kernel_rfl⟩⟩
        refine aI.of hlc [] 0 ?_;by_cases c0:akT=0#64
        ·simp -dsimp[c0];and_intros;all_goals try first|omega|exact hdl|exact rfl|exact⟨by kernel_rfl⟩
         refine dD.of [60] (kb 0x1e00200000002000800008440404ffd7) (ι:={j:Nat // j≤oV.length})
          (fun j=>[(.s 0,It.v (.d (.sl (Gn l)))),(.o 6,It.box [TV.c (Value.slice none 0 0),TV.c (Value.slice none 0 0),TV.c (Value.slice none 0 0)]),(.s 6,It.v (.ptr (.o 6) 0)),(.s 7,It.v (.d (.int .i64 0))),
           (.o 10,It.box [TV.aW 70 (t.dl.length+LV.length),TV.aW 71 (t.cr.length+j.1),TV.aW 72 t.ls.length]),(.s 10,It.v (.ptr (.o 10) 0)),
           (.o 70,It.row 87 11 (dd (t.dl.map rF)++dd (LV.map rF)) false),(.o 71,It.row 124 3 (dd (t.cr.map Ci)++dd (List.take j.1 (CRL.map Ci))) false),(.o 72,It.row 112 2 (dd (t.ls.map lsC)) false),
           (.o 60,It.sJ 109 11 (dd (Q.map rF)++dd (List.take j.1 (oV.map rF)))),(.s 11,It.v (.aW 60 (Q.length+j.1))),
           (.o 12,It.box (TV.d (.int .i64 q1)::q2.cs.map .d)),(.s 12,It.v (.ptr (.o 12) 0)),
           (.s 121,It.v (.d (.sl (List.map Wi oV)))),(.s 122,It.v (.d (.int .i64 oV.length))),(.s 123,It.v (.d (.int .i64 j.1)))])
          (fun j=>oV.length-j.1) ⟨0,by omega⟩ ?_ ?_
         ·exact GS.cut' 11 60 (n:=Q.length+1) (j:=1) (k:=11) (e:=109) (((q1,q2)::Q).map rF) (by simp) (by simp[rF,Pk.cs]) (by simp) (by simp) (by simp[lsC,bv,Pk.cs]) (by simp) (by simp[lsC,bv,Pk.cs])
         ·rintro⟨j,j1⟩;by_cases hj:j<oV.length
          ·have hjz:(j:Int)<oV.length:=by omega
           have hg:oV[j]? = some oV[j]:=aj hj;have hcg:=hCg j _ hg;generalize oV[j]=c at hg hcg;obtain⟨c1,c2⟩:=c;have hn1:dd (List.take (j+1) (CRL.map Ci))=dd (List.take j (CRL.map Ci))++[[TV.d (.int .i64 q1),TV.d (.int .i64 c1),TV.d (bv c2.bits)]]:=by rw[aT,bn,hcg];simp[dd,Ci]
           have hn2:dd (List.take (j+1) (oV.map rF))=dd (List.take j (oV.map rF))++[TV.d (.int .i64 c1)::c2.cs.map .d]:=by rw[aT,bn,hg];simp[dd,rF]
           simp[Pk.cs]at hn2
           have hm1:min j CRL.length=j:=by omega
           have hm2:min j oV.length=j:=by omega
           simp -dsimp[hg,hjz,Wi,Pk.cs,hm1,hm2,wrap_i64 (n:=(j:Int)+1) (by omega) (by omega)];and_intros;all_goals try first|omega|exact⟨by kernel_rfl⟩
           exact⟨⟨j+1,by omega⟩,GS.to (by simp[hn1,hn2,Pk.cs,iZ]),by simp;omega⟩
          ·have hjz :¬(j:Int)<oV.length:=by omega
           obtain rfl:j=oV.length:=by omega
           have ht1:List.take oV.length (CRL.map Ci)=CRL.map Ci:=aS (by simp;omega);have ht2:List.take oV.length (oV.map rF)=oV.map rF:=aS (by simp);simp -dsimp[hjz];try refine⟨?_,⟨by kernel_rfl⟩⟩
           exact⟨⟨(n,Q++oV,_),i1,by simp only[Dz];omega,by simp only;omega,by simp only[aU];omega,by simp only[aU,hCl];omega,by simp only[c0,if_true];omega⟩,GS.to (by simp[ht1,ht2,c0,hCl,lsC,bv]),by simp⟩
        ·simp -dsimp[c0];and_intros;all_goals try first|omega|exact hdl|exact rfl|exact⟨by kernel_rfl⟩
         refine dD.of [60] (kb 0x1e00200000002000800008440404ffd7) (ι:={j:Nat // j≤oV.length})
          (fun j=>[(.s 0,It.v (.d (.sl (Gn l)))),(.o 6,It.box [TV.c (Value.slice none 0 0),TV.c (Value.slice none 0 0),TV.c (Value.slice none 0 0)]),(.s 6,It.v (.ptr (.o 6) 0)),(.s 7,It.v (.d (.int .i64 0))),
           (.o 10,It.box [TV.aW 70 (t.dl.length+LV.length),TV.aW 71 (t.cr.length+j.1),TV.aW 72 (t.ls.length+1)]),(.s 10,It.v (.ptr (.o 10) 0)),
           (.o 70,It.row 87 11 (dd (t.dl.map rF)++dd (LV.map rF)) false),(.o 71,It.row 124 3 (dd (t.cr.map Ci)++dd (List.take j.1 (CRL.map Ci))) false),(.o 72,It.row 112 2 (dd (t.ls.map lsC)++[[TV.d (.int .i64 q1),TV.d (bv akT)]]) false),
           (.o 60,It.sJ 109 11 (dd (Q.map rF)++dd (List.take j.1 (oV.map rF)))),(.s 11,It.v (.aW 60 (Q.length+j.1))),
           (.o 12,It.box (TV.d (.int .i64 q1)::q2.cs.map .d)),(.s 12,It.v (.ptr (.o 12) 0)),
           (.s 121,It.v (.d (.sl (List.map Wi oV)))),(.s 122,It.v (.d (.int .i64 oV.length))),(.s 123,It.v (.d (.int .i64 j.1)))])
          (fun j=>oV.length-j.1) ⟨0,by omega⟩ ?_ ?_
         ·exact GS.cut' 11 60 (n:=Q.length+1) (j:=1) (k:=11) (e:=109) (((q1,q2)::Q).map rF) (by simp) (by simp[rF,Pk.cs]) (by simp) (by simp) (by simp[lsC,bv,Pk.cs]) (by simp) (by simp[lsC,bv,Pk.cs])
         ·rintro⟨j,j1⟩;by_cases hj:j<oV.length
          ·have hjz:(j:Int)<oV.length:=by omega
           have hg:oV[j]? = some oV[j]:=aj hj;have hcg:=hCg j _ hg;generalize oV[j]=c at hg hcg;obtain⟨c1,c2⟩:=c;have hn1:dd (List.take (j+1) (CRL.map Ci))=dd (List.take j (CRL.map Ci))++[[TV.d (.int .i64 q1),TV.d (.int .i64 c1),TV.d (bv c2.bits)]]:=by rw[aT,bn,hcg];simp[dd,Ci]
           have hn2:dd (List.take (j+1) (oV.map rF))=dd (List.take j (oV.map rF))++[TV.d (.int .i64 c1)::c2.cs.map .d]:=by rw[aT,bn,hg];simp[dd,rF]
           simp[Pk.cs]at hn2
           have hm1:min j CRL.length=j:=by omega
           have hm2:min j oV.length=j:=by omega
           simp -dsimp[hg,hjz,Wi,Pk.cs,hm1,hm2,wrap_i64 (n:=(j:Int)+1) (by omega) (by omega)];and_intros;all_goals try first|omega|exact⟨by kernel_rfl⟩
           exact⟨⟨j+1,by omega⟩,GS.to (by simp[hn1,hn2,Pk.cs,iZ]),by simp;omega⟩
          ·have hjz :¬(j:Int)<oV.length:=by omega
           obtain rfl:j=oV.length:=by omega
           have ht1:List.take oV.length (CRL.map Ci)=CRL.map Ci:=aS (by simp;omega);have ht2:List.take oV.length (oV.map rF)=oV.map rF:=aS (by simp);simp -dsimp[hjz];try refine⟨?_,⟨by kernel_rfl⟩⟩
           exact⟨⟨(n,Q++oV,_),i1,by simp only[Dz];omega,by simp only;omega,by simp only[aU];omega,by simp only[aU,hCl];omega,by simp only[c0,if_false,aU,aH,dh];omega⟩,GS.to (by simp[ht1,ht2,c0,hCl,lsC,bv]),by simp⟩
end Go.Proofs

namespace Go.Proofs
def BL(x y:Lk):Prop:=x.a<y.a∨(x.a=y.a∧x.b<y.b)
theorem aao{x y z:Lk}(h1:BL x y)(h2:BL y z):BL x z:=by grind[BL]
theorem Y_{α:Type}{q:α→α→Bool}{r:α→α→Prop}(hr:∀x y,q x y=false→r x y)(ht:∀x y z,r x y→r y z→r x z):∀{l:List α},o8 q l=false→l.Pairwise r
 | [],_=>List.Pairwise.nil
 | [x],_=>by simp
 | x::y::l,h=>by
   simp only[o8,kY]at h;have ih:=Y_ hr ht (l:=y::l) h.2;refine List.Pairwise.cons (fun z hz=>?_) ih;rcases aF.1 hz with rfl|hz
   ·simp[*]
   grind[List.pairwise_cons]
theorem aX.Ok.lpw{g:aX}(h:g.Ok):g.ls.Pairwise BL:=
 Y_ (r:=BL) (fun x y h=>by grind[BL]) (fun _ _ _=>aao) h.atz
theorem aX.Ok.rpw{g:aX}(h:g.Ok):g.rs.Pairwise (fun x y=>x.id<y.id):=
 Y_ (r:=fun x y=>x.id<y.id) (fun x y h=>by simp_all) (fun _ _ _=>Int.lt_trans) h.ord
theorem aX.Ok.lab{g:aX}(h:g.Ok){x:Lk}(hx:x∈g.ls):x.a<x.b:=by
 have:=iq.1 h.ab x hx
 simp_all
theorem aX.Ok.ends'{g:aX}(h:g.Ok){x:Lk}(hx:x∈g.ls):dF g.rs x.a=true∧dF g.rs x.b=true:=by
 have:=iq.1 h.ends x hx
 simp_all
theorem qQ:∀{l:List Lk} {f t c:Int},price l f t=some c→∃x∈l,(x.a=f∧x.b=t∧x.ca=c)∨(x.b=f∧x.a=t∧x.cb=c)
 | [],_,_,_,h=>by trivial
 | x::l,f,t,c,h=>by
   rw[price]at h
   split at h
   ·simp_all
   ·split at h
    ·simp_all
    ·obtain⟨y,hy,h2⟩:=qQ h
     grind
theorem zY:∀{l:List Lk},l.Pairwise BL→(∀x∈l,x.a<x.b)→∀{x:Lk},x∈l→price l x.a x.b=some x.ca∧price l x.b x.a=some x.cb
 | [],_,_,x,hx=>by trivial
 | y::l,hp,hab,x,hx=>by
   have hy:=hab y (by simp);rcases aF.1 hx with rfl|hx'
   ·refine⟨by rw[price,if_pos ⟨rfl,rfl⟩],?_⟩;rw[price,if_neg (by omega),if_pos ⟨rfl,rfl⟩]
   ·have hlt:=(dM.1 hp).1 x hx';have hx2:=hab x hx;have ih:=zY (dM.1 hp).2 (fun z hz=>hab z (by simp[*])) hx';unfold BL at hlt;refine⟨?_,?_⟩
    ·rw[price,if_neg (by omega),if_neg (by omega)];simp[*]
    ·rw[price,if_neg (by omega),if_neg (by omega)];simp[*]
theorem mW{g:aX}(hg:g.Ok){f t c:Int}(h:price g.ls f t=some c):dF g.rs f=true∧dF g.rs t=true:=by
 obtain⟨x,hx,h1⟩:=qQ h;have h2:=hg.ends' hx
 grind
theorem ahA{g:aX}(hg:g.Ok){f t c:Int}(h:price g.ls f t=some c):f≠t:=by obtain⟨x,hx,h1⟩:=qQ h;have h2:=hg.lab hx;omega
theorem qN{g:aX}(hg:g.Ok){f t c:Int}(h:price g.ls f t=some c):1≤c∧c≤1000:=by obtain⟨x,hx,h1⟩:=qQ h;have h2:=hg.c hx;omega
theorem aeB{g:aX}(hg:g.Ok){f t c:Int}(h:price g.ls f t=some c):∃c',price g.ls t f=some c':=by
 obtain⟨x,hx,h1⟩:=qQ h;have h2:=zY hg.lpw (fun _ h=>hg.lab h) hx
 grind
theorem Pg{g:aX}(hg:g.Ok){r x:Int}:x∈near g r↔∃c,price g.ls r x=some c:=by
 simp only[near,ak,bK];constructor
 ·grind[Option.isSome_iff_exists]
 ·rintro⟨c,h⟩;obtain⟨y,hy,rfl⟩:=ak.1 (jQ.1 (mW hg h).2)
  grind
inductive Wk (g:aX) (to:Int):Nat→Int→Int→Prop
 | nil:Wk g to 0 to 0
 | cons {k:Nat} {x y c v:Int}:price g.ls x y=some c→Wk g to k y v→Wk g to (k+1) x (c+v)
theorem Wk.nonneg{g:aX}(hg:g.Ok){to:Int}{k:Nat}{x v:Int}(h:Wk g to k x v):(k:Int)≤v:=by
 induction h with
 | nil=>simp
 | cons hp _ ih=>have:=qN hg hp;omega
theorem Wk.le{g:aX}(hg:g.Ok){to:Int}{k:Nat}{x v:Int}(h:Wk g to k x v):v≤1000*k:=by
 induction h with
 | nil=>simp
 | cons hp _ ih=>have:=qN hg hp;omega
inductive Wa (g:aX) (to:Int) (S:List Int):Int→Int→Prop
 | nil:to∉S→Wa g to S to 0
 | cons {x y c v:Int}:x∉S→price g.ls x y=some c→Wa g to S y v→Wa g to S x (c+v)
theorem Wk.wa{g:aX}{to:Int}{k:Nat}{x v:Int}(h:Wk g to k x v):Wa g to [] x v:=by
 induction h with
 | nil=>exact .nil (by simp)
 | cons hp _ ih=>exact .cons (by simp) hp ih
theorem Wa.Ye{g:aX}{to:Int}{S:List Int}{x v:Int}(h:Wa g to S x v):x∉S:=by
 cases h with
 | nil h=>omega
 | cons h _ _=>omega
theorem Wa.last{g:aX}(hg:g.Ok){to:Int}{S:List Int}(x:Int){z v:Int}(h:Wa g to S z v):
  Wa g to (x::S) z v∨x=to∨∃y c w,price g.ls x y=some c∧Wa g to (x::S) y w∧c+w≤v:=by
 induction h with
 | nil h=>
   by_cases e:x=to
   ·omega
   ·exact .inl (.nil (by grind))
 | @cons z y c v hz hp hw ih=>
   have hc:=qN hg hp;rcases ih with ih|ih|⟨y',c',w',h1,h2,h3⟩
   ·by_cases e:z=x
    ·grind
    ·exact .inl (.cons (by simp[*]) hp ih)
   ·omega
   grind
theorem Wa.nonneg{g:aX}(hg:g.Ok){to:Int}{S:List Int}{x v:Int}(h:Wa g to S x v):0≤v:=by
 induction h with
 | nil=>simp
 | cons _ hp _ ih=>have:=qN hg hp;omega
theorem Wa.short{g:aX}(hg:g.Ok){to:Int}(hto:dF g.rs to=true):∀(m:Nat) {S:List Int} {x v:Int},Wa g to S x v→dF g.rs x=true→S.Nodup→(∀y∈S,dF g.rs y=true)→g.rs.length≤S.length+1+m→∃k w,k≤m∧w≤v∧Wk g to k x w:=by
 intro m
 induction m with
 | zero=>
   intro S x v h hx hS hh hm;rcases h.last hg x with h1|h1|⟨y,c,w,h1,h2,h3⟩
   ·exact absurd h1.Ye (by simp)
   ·subst h1;exact⟨0,0,au _,h.nonneg hg,.nil⟩
   ·exfalso;have hy:=mW hg h1;have hn:(y::x::S).Nodup:=bG.2 ⟨h2.Ye,bG.2 ⟨h.Ye,hS⟩⟩;have:=VT hn (g:=g) (fun z hz=>by
     grind)
    grind
 | succ m ih=>
   intro S x v h hx hS hh hm;rcases h.last hg x with h1|h1|⟨y,c,w,h1,h2,h3⟩
   ·exact absurd h1.Ye (by simp)
   ·subst h1;exact⟨0,0,by omega,h.nonneg hg,.nil⟩
   ·have hy:=mW hg h1;obtain⟨k,w',k1,k2,k3⟩:=ih h2 hy.2 (bG.2 ⟨h.Ye,hS⟩) (fun z hz=>by
     grind) (by grind)
    exact⟨k+1,c+w',by omega,by omega,.cons h1 k3⟩
theorem Wk.has{g:aX}(hg:g.Ok){to:Int}(hto:dF g.rs to=true){k:Nat}{x v:Int}(h:Wk g to k x v):dF g.rs x=true:=by
 cases h with
 | nil=>omega
 | cons hp _=>exact(mW hg hp).1
theorem ajd{g:aX}{x:Int}(h:dF g.rs x=true):1≤g.rs.length:=by grind[dF]
theorem Wk.short{g:aX}(hg:g.Ok){to:Int}(hto:dF g.rs to=true){k:Nat}{x v:Int}(h:Wk g to k x v):∃j w,j+1≤g.rs.length∧w≤v∧Wk g to j x w:=by
 have hp:=ajd hto;obtain⟨j,w,h1,h2,h3⟩:=h.wa.short hg hto (g.rs.length-1) (h.has hg hto) List.nodup_nil (by simp) (by omega)
 grind
theorem wW:∀{l:List Rt} {r:Int},dF l r=true→∃i,um l r=some i
 | [],r,h=>by trivial
 | x::l,r,h=>by
   by_cases e:x.id=r
   ·exact⟨0,by rw[um,if_pos e]⟩
   ·obtain⟨i,hi⟩:=wW (l:=l) (r:=r) (by grind[dF]);exact⟨i+1,by rw[um,if_neg e,hi];rfl⟩
theorem AZ:∀{l:List Rt} {r:Int} {i:Nat},um l r=some i→∃x,l[i]? = some x∧x.id=r
 | [],r,i,h=>by trivial
 | x::l,r,i,h=>by
   rw[um]at h
   split at h
   ·grind
   ·cases hp:um l r with
    | none=>simp_all
    | some j=>
      simp[hp]at h;subst h
      obtain⟨y,h1,h2⟩:=AZ hp;simp[*]
theorem aaJ{l:List Rt}{r s:Int}{i:Nat}(h1:um l r=some i)(h2:um l s=some i):r=s:=by
 obtain⟨x,a1,rfl⟩:=AZ h1;obtain⟨y,b1,rfl⟩:=AZ h2
 simp_all
theorem LY{g:aX}{d:List Int}{r:Int}(h:dF g.rs r=true):atR g d r=d.getD (P5 g r) 0:=by grind[wW,atR,P5]
theorem GH{g:aX}{d:List Int}(hd:g.rs.length≤d.length){r s v:Int}(hr:dF g.rs r=true)(hs:dF g.rs s=true):atR g (d.set (P5 g r) v) s=if s=r then v else atR g d s:=by
 obtain⟨i,hi⟩:=wW hr;obtain⟨j,hj⟩:=wW hs;have hil:=Ua hi;simp only[atR,P5,hi,hj,bZ];rw[aK,aK,List.getElem?_set];by_cases e:s=r
 ·grind
 ·rw[if_neg e,if_neg (fun h=>e (by grind[aaJ]))]
theorem Jk{g:aX}(hg:g.Ok){d:List Int}(hd:g.rs.length≤d.length){l:Lk}(hl:l∈g.ls){s:Int}(hs:dF g.rs s=true):
  atR g (relax g d l) s=(if s=l.a then(if atR g d l.b<far then min (atR g d l.a) (l.ca+atR g d l.b)else atR g d l.a)
   else if s=l.b then
    (if(if atR g d l.b<far then min (atR g d l.a) (l.ca+atR g d l.b)else atR g d l.a)<far then min (atR g d l.b) (l.cb+(if atR g d l.b<far then min (atR g d l.a) (l.ca+atR g d l.b)else atR g d l.a))else atR g d l.b)
   else atR g d s):=by
 obtain⟨ha,hb⟩:=hg.ends' hl;have hab:=hg.lab hl;unfold relax;simp only;rw[←LY hb,←LY ha];have key:∀d1:List Int,g.rs.length≤d1.length→atR g d1 l.b=atR g d l.b→(∀s,dF g.rs s=true→atR g d1 s=if s=l.a then atR g d1 l.a else atR g d s)→
   atR g (if atR g d1 l.a<far then d1.set (P5 g l.b) (min (d1.getD (P5 g l.b) 0) (l.cb+atR g d1 l.a))else d1) s =
    if s=l.a then atR g d1 l.a else if s=l.b then(if atR g d1 l.a<far then min (atR g d l.b) (l.cb+atR g d1 l.a)else atR g d l.b)else atR g d s:=by
  intro d1 h1 h2 h3;rw[←LY hb,h2];have h4:=h3 s hs;split
  ·rw[GH h1 hb hs];by_cases e:s=l.b
   ·subst e;rw[if_pos rfl,if_neg (by omega),if_pos rfl]
   ·rw[if_neg e,h4,if_neg e]
  ·rw[h4];by_cases e:s=l.b
   ·subst e;rw[if_neg (by omega),if_pos rfl,if_neg (by omega)]
   ·rw[if_neg e]
 have e0:∀d1:List Int,d1.getD (P5 g l.a) 0=atR g d1 l.a:=fun d1=>(LY ha).symm
 rw[e0];by_cases hlt:atR g d l.b<far
 ·rw[if_pos hlt];have h5:atR g (d.set (P5 g l.a) (min (atR g d l.a) (l.ca+atR g d l.b))) l.a=min (atR g d l.a) (l.ca+atR g d l.b):=by rw[GH hd ha ha,if_pos rfl]
  have:=key (d.set (P5 g l.a) (min (atR g d l.a) (l.ca+atR g d l.b))) (by simpa using hd) (by rw[GH hd ha hb,if_neg (by omega)]) (fun s hs=>by
   rw[GH hd ha hs,GH hd ha ha,if_pos rfl])
  rw[this];simp only[h5,if_pos hlt]
 ·rw[if_neg hlt];have:=key d hd rfl (fun s hs=>by by_cases e:s=l.a<;>simp[e]);rw[this];simp only[if_neg hlt]
theorem ahL{g:aX}(hg:g.Ok){d:List Int}(hd:g.rs.length≤d.length){l:Lk}(hl:l∈g.ls){s:Int}(hs:dF g.rs s=true):atR g (relax g d l) s≤atR g d s:=by grind[Jk]
theorem ahK{g:aX}(hg:g.Ok){d:List Int}{x y c:Int}(h:price g.ls x y=some c)(hy:atR g d y<far):∃l∈g.ls,∀d':List Int,g.rs.length≤d'.length→atR g d' y≤atR g d y→atR g (relax g d' l) x≤c+atR g d y:=by
 obtain⟨l,hl,h1⟩:=qQ h;have hx:=mW hg h;refine⟨l,hl,fun d' hd' hle=>?_⟩;rw[Jk hg hd' hl hx.1];have hab:=hg.lab hl
 grind
theorem Ot(g:aX):∀(ls:List Lk) (d:List Int),(ls.foldl (relax g) d).length=d.length
 | [],_=>rfl
 | l::ls,d=>by rw[bV,Ot g ls,Et]
theorem MC{g:aX}(hg:g.Ok){s:Int}(hs:dF g.rs s=true):∀(ls:List Lk) (d:List Int),(∀l∈ls,l∈g.ls)→g.rs.length≤d.length→atR g (ls.foldl (relax g) d) s≤atR g d s
 | [],_,_,_=>fM _
 | l::ls,d,h,hd=>by exact iK (MC hg hs ls _ (fun x hx=>h x (by simp[*])) (by grind[Et])) (ahL hg hd (h l (by simp)) hs)
theorem aeH{g:aX}(hg:g.Ok){d:List Int}(hd:g.rs.length≤d.length){x y c:Int}(h:price g.ls x y=some c)(hy:atR g d y<far):atR g (Gg g d) x≤c+atR g d y:=by
 obtain⟨l,hl,h1⟩:=ahK hg h hy;have hx:=mW hg h;obtain⟨p,q,e⟩:=List.append_of_mem hl;have hp:∀z∈p,z∈g.ls:=fun z hz=>by rw[e];simp[hz]
 have hq:∀z∈q,z∈g.ls:=fun z hz=>by rw[e];simp[hz]
 rw[Gg,e,dZ,bV];have hlp:g.rs.length≤(p.foldl (relax g) d).length:=by rw[Ot];exact hd
 refine iK (MC hg hx.1 q _ hq (by rw[Et];exact hlp)) (h1 _ hlp (MC hg hx.2 p d hp hd))
theorem aeI{g:aX}(hg:g.Ok){d:List Int}(hd:g.rs.length≤d.length){s:Int}(hs:dF g.rs s=true):atR g (Gg g d) s≤atR g d s:=MC hg hs g.ls d (fun _ h=>h) hd
theorem aaT(g:aX)(d:List Int):(Gg g d).length=d.length:=Ot g g.ls d
def Known(g:aX)(to:Int)(k:Nat)(d:List Int):Prop:=∀j≤k,∀x v,Wk g to j x v→v<far→atR g d x≤v
theorem Known.next{g:aX}(hg:g.Ok){to:Int}(hto:dF g.rs to=true){k:Nat}{d:List Int}(hd:g.rs.length≤d.length)(h:Known g to k d):Known g to (k+1) (Gg g d):=by
 intro j hj x v hw hv;cases hw with
 | nil=>exact iK (aeI hg hd hto) (h 0 (by omega) _ _ .nil (by omega))
 | @cons k' _ y c w hp hw=>have hc:=qN hg hp;have h1:=h k' (by omega) y w hw (by omega);have h2:=aeH hg hd hp (by omega);omega
theorem Known.rounds{g:aX}(hg:g.Ok){to:Int}(hto:dF g.rs to=true):∀(n k:Nat) (d:List Int),g.rs.length≤d.length→Known g to k d→Known g to (k+n) (IJ g n d)
 | 0,k,d,_,h=>h
 | n+1,k,d,hd,h=>by
   have:=Known.rounds hg hto n (k+1) (Gg g d) (by grind[aaT]) (h.next hg hto hd)
   grind[IJ]
theorem RQ{g:aX}{to x:Int}(hx:dF g.rs x=true):atR g (KE g to) x=if x=to then 0 else far:=by
 obtain⟨i,hi⟩:=wW hx;obtain⟨y,h1,rfl⟩:=AZ hi
 grind[atR,KE]
def Real(g:aX)(to:Int)(d:List Int):Prop:=∀x,dF g.rs x=true→atR g d x=far∨∃k,Wk g to k x (atR g d x)
theorem Real.relax{g:aX}(hg:g.Ok){to:Int}{d:List Int}(hd:g.rs.length≤d.length)(hb:Bd d)(h:Real g to d){l:Lk}(hl:l∈g.ls):Real g to (relax g d l):=by
 intro x hx;obtain⟨ha,hb'⟩:=hg.ends' hl;have hpr:=zY hg.lpw (fun _ h=>hg.lab h) hl;have hB:=afj (g:=g) hb;rw[Jk hg hd hl hx];have hA:(if atR g d l.b<far then min (atR g d l.a) (l.ca+atR g d l.b)else atR g d l.a)=far∨∃k,Wk g to k l.a (if atR g d l.b<far then min (atR g d l.a) (l.ca+atR g d l.b)else atR g d l.a):=by
  split
  ·rename_i hlt;by_cases hm:atR g d l.a≤l.ca+atR g d l.b
   ·rw[Int.min_eq_left hm];exact h _ ha
   ·rw[Int.min_eq_right (by omega)];rcases h _ hb' with h1|⟨k,h1⟩
    ·omega
    ·exact .inr ⟨k+1,.cons hpr.1 h1⟩
  ·exact h _ ha
 split
 ·simp_all
 split
 ·rename_i e;subst e;generalize (if atR g d l.b<far then min (atR g d l.a) (l.ca+atR g d l.b)else atR g d l.a)=m at hA;split
  ·by_cases hm:atR g d l.b≤l.cb+m
   ·rw[Int.min_eq_left hm];exact h _ hb'
   ·rw[Int.min_eq_right (by omega)];rcases hA with h1|⟨k,h1⟩
    ·omega
    ·exact .inr ⟨k+1,.cons hpr.2 h1⟩
  ·exact h _ hb'
 ·exact h _ hx
theorem afG(g:aX)(to:Int):Bd (KE g to):=fun v hv=>by
 obtain⟨x,_,rfl⟩:=ak.1 hv
 grind[far]
theorem adr{g:aX}(hg:g.Ok){to:Int}(hto:dF g.rs to=true):Real g to (dist g to):=by
 have:=Ba (g:=g) (p:=fun d=>g.rs.length≤d.length∧Bd d∧Real g to d) (fun d l hl ⟨h1,h2,h3⟩=>⟨by grind[Et],h2.relax (hg.c hl).1.1 (hg.c hl).2.1,h3.relax hg h1 h2 hl⟩) g.rs.length (KE g to) ⟨by simp[KE],afG g to,fun x hx=>by
  rw[RQ hx];split
  ·rename_i e;subst e;exact .inr ⟨0,.nil⟩
  omega⟩
 exact this.2.2
theorem ZE{g:aX}(hg:g.Ok){to:Int}(hto:dF g.rs to=true){k:Nat}{x v:Int}(h:Wk g to k x v)(hv:v<far):atR g (dist g to) x≤v:=by
 obtain⟨j,w,h1,h2,h3⟩:=h.short hg hto;have:=Known.rounds hg hto g.rs.length 0 (KE g to) (by simp[KE]) (fun i hi x v hw hv=>by
  obtain rfl:i=0:=by omega
  cases hw
  rw[RQ hto,if_pos rfl];omega)
 have:=this j (by omega) x w h3 (by omega)
 grind[dist]
def dst(g:aX)(to x:Int):Int:=atR g (dist g to) x
theorem pK{g:aX}(hg:g.Ok)(to x:Int):0≤dst g to x∧dst g to x≤far:=afj (aiW hg to) x
theorem wH{g:aX}(hg:g.Ok){to:Int}(hto:dF g.rs to=true){k:Nat}{x v:Int}(h:Wk g to k x v):dst g to x≤v∧dst g to x<far:=by
 obtain⟨j,w,h1,h2,h3⟩:=h.short hg hto;have hl:=h3.le hg;have hn:=hg.nr;have:=ZE hg hto h3 (by grind[far])
 grind[dst,far]
theorem uN{g:aX}(hg:g.Ok){to:Int}(hto:dF g.rs to=true){x:Int}(hx:dF g.rs x=true)(h:dst g to x<far):∃k,Wk g to k x (dst g to x):=by
 rcases adr hg hto x hx with h1|h1
 ·exact absurd h1 (Int.ne_of_lt h)
 trivial
theorem G_{g:aX}(hg:g.Ok){to:Int}(hto:dF g.rs to=true):dst g to to=0:=by have h1:=wH hg hto (Wk.nil (g:=g) (to:=to));have h2:=pK hg to to;omega
theorem Cj{g:aX}(hg:g.Ok){to:Int}(hto:dF g.rs to=true){x:Int}(hx:dF g.rs x=true)(h:dst g to x=0):x=to:=by
 obtain⟨k,hk⟩:=uN hg hto hx (by simp[*]);rw[h]at hk
 have:=hk.nonneg hg;generalize hv:(0:Int)=v at hk this;cases hk with
 | nil=>rfl
 | cons hp hw=>omega
theorem G9{g:aX}(hg:g.Ok){to:Int}(hto:dF g.rs to=true){x y c:Int}(h:price g.ls x y=some c)(hy:dst g to y<far):dst g to x≤c+dst g to y∧dst g to x<far:=by obtain⟨k,hk⟩:=uN hg hto (mW hg h).2 hy;exact wH hg hto (.cons h hk)
theorem afN{g:aX}(hg:g.Ok){to:Int}(hto:dF g.rs to=true){x:Int}(hx:dF g.rs x=true)(hne:x≠to)(h:dst g to x<far):∃y c,price g.ls x y=some c∧dst g to y<far∧c+dst g to y=dst g to x:=by
 obtain⟨k,hk⟩:=uN hg hto hx h;generalize hv:dst g to x=v at hk;cases hk with
 | nil=>omega
 | @cons k' _ y c w hp hw=>
   have h1:=wH hg hto hw;have h2:=G9 hg hto hp h1.2
   grind
theorem mQ{g:aX}(hg:g.Ok){to:Int}{x y:Int}:y∈steps g (dist g to) x↔dst g to x≠far∧dst g to x≠0∧dst g to y<far∧∃c,price g.ls x y=some c∧c+dst g to y=dst g to x:=by
 show y∈(if dst g to x=far∨dst g to x=0 then []else _)↔_
 split
 ·grind
 ·rw[bK,Pg hg];have e:aa9 g (dist g to) x y=(decide (dst g to y<far)&&decide ((price g.ls x y).getD 0+dst g to y=dst g to x)):=rfl
  grind
theorem Qs{g:aX}(hg:g.Ok){to:Int}(hto:dF g.rs to=true){x:Int}(hx:dF g.rs x=true)(hne:x≠to)(h:dst g to x<far):∃y,y∈steps g (dist g to) x:=by obtain⟨y,c,h1,h2,h3⟩:=afN hg hto hx hne h;exact⟨y,(mQ hg).2 ⟨by omega,fun e=>hne (Cj hg hto hx e),h2,c,h1,h3⟩⟩
inductive Gq (g:aX) (t f:Int):Int→Prop
 | nil:Gq g t f f
 | via {x y:Int}:Gq g t f x→y∈steps g (dist g t) x→lF g.rs y=false→Gq g t f y
def Lm(g:aX)(t f n:Int):Prop:=∃x,Gq g t f x∧n∈steps g (dist g t) x∧lF g.rs n=true
structure EK(g:aX)(t f:Int)(s:List Int×List Int):Prop where
 nd:s.1.Nodup
 seen:∀x∈s.1,Gq g t f x∧dF g.rs x=true
 BP:s.2.Pairwise (· < ·)
 out:∀x∈s.2,Lm g t f x
theorem adF(g:aX)(s:List Int×List Int)(n:Int):∃r,(uP g s n).1=s.1++r:=by
 unfold uP;split
 ·simp
 ·split
  ·simp
  simp
theorem CQ(g:aX):∀(l:List Int) (s:List Int×List Int),∃r,(l.foldl (uP g) s).1=s.1++r
 | [],s=>⟨[],by simp⟩
 | n::l,s=>by obtain⟨r1,h1⟩:=adF g s n;obtain⟨r2,h2⟩:=CQ g l (uP g s n);exact⟨r1++r2,by rw[bV,h2,h1,dP]⟩
theorem EK.step{g:aX}{t f x n:Int}{s:List Int×List Int}(h:EK g t f s)(hx:Gq g t f x)(hn:n∈steps g (dist g t) x):EK g t f (uP g s n)∧(∀y∈s.2,y∈(uP g s n).2)∧(if lF g.rs n=true then n∈(uP g s n).2 else n∈(uP g s n).1):=by
 unfold uP;by_cases hc:lF g.rs n=true
 ·rw[if_pos hc,if_pos hc];obtain⟨h3,h4⟩:=CV n h.BP;refine⟨⟨h.nd,h.seen,h3,fun y hy=>?_⟩,fun y hy=>(h4 y).2 (.inl hy),(h4 n).2 (.inr rfl)⟩;rcases (h4 y).1 hy with hy|rfl
  ·exact h.out y hy
  ·exact⟨x,hx,hn,hc⟩
 ·rw[if_neg hc,if_neg hc];by_cases hh:Rh s.1 n=true
  ·grind[Rh]
  ·rw[if_neg hh];have hni:n∉s.1:=by grind[Rh]
   refine⟨⟨fV.2 ⟨h.nd,by simp,fun a ha b hb=>by grind⟩,fun y hy=>?_,h.BP,h.out⟩,fun _ h=>h,by simp⟩;rcases aN.1 hy with hy|hy
   ·exact h.seen y hy
   ·simp at hy;subst hy;exact⟨.via hx hn (by simp[*]),qU hn⟩
theorem EK.fold{g:aX}{t f x:Int}(hx:Gq g t f x):∀(l:List Int) (s:List Int×List Int),(∀n∈l,n∈steps g (dist g t) x)→EK g t f s→
  EK g t f (l.foldl (uP g) s)∧(∀y∈s.2,y∈(l.foldl (uP g) s).2)∧∀n∈l,if lF g.rs n=true then n∈(l.foldl (uP g) s).2 else n∈(l.foldl (uP g) s).1
 | [],s,_,h=>⟨h,fun _ h=>h,by simp⟩
 | n::l,s,hl,h=>by
   obtain⟨h1,h2,h3⟩:=h.step hx (hl n (by simp));obtain⟨h4,h5,h6⟩:=EK.fold hx l _ (fun m hm=>hl m (by simp[*])) h1;refine⟨h4,fun y hy=>h5 y (h2 y hy),fun m hm=>?_⟩;rcases aF.1 hm with rfl|hm
   ·split
    ·simp_all
    ·rename_i hc;rw[if_neg hc]at h3
     obtain⟨r,hr⟩:=CQ g l (uP g s m);simp[*]
   simp[*]
def aq4(g:aX)(t:Int)(i:Nat)(s:List Int×List Int):Prop:=∀j<i,∀x,s.1[j]? = some x→∀n∈steps g (dist g t) x,if lF g.rs n=true then n∈s.2 else n∈s.1
theorem OJ{g:aX}{t f:Int}:∀(k i:Nat) (s:List Int×List Int),EK g t f s→aq4 g t i s→i≤s.1.length→g.rs.length+1≤k+i→
  EK g t f (CS g (dist g t) k i s)∧(∀x∈s.1,x∈(CS g (dist g t) k i s).1)∧∀x∈(CS g (dist g t) k i s).1,∀n∈steps g (dist g t) x,if lF g.rs n=true then n∈(CS g (dist g t) k i s).2 else n∈(CS g (dist g t) k i s).1
 | 0,i,s,h,_,hi,hk=>by have:=VT h.nd (fun x hx=>(h.seen x hx).2);omega
 | k+1,i,s,h,hc,hi,hk=>by
   rw[CS];split
   ·rename_i hlt;have hx:s.1[i]? = some s.1[i]:=by simp
    have hxm:=h.seen _ (aJ hlt);have e:s.1.getD i 0=s.1[i]:=by simp[*]
    generalize s.1[i]=x at hx hxm;obtain⟨h1,h2,h3⟩:=EK.fold hxm.1 (steps g (dist g t) x) s (fun _ h=>h) h;obtain⟨r,hr⟩:=CQ g (steps g (dist g t) x) s;obtain⟨h4,h5,h6⟩:=OJ k (i+1) ((steps g (dist g t) x).foldl (uP g) s) h1 (fun j hj y hy n hn=>by
     rw[hr,bW (by omega)]at hy
     by_cases ej:j=i
     ·simp_all
     ·have:=hc j (by omega) y hy n hn
      grind) (by grind) (by omega)
    grind
   ·rename_i hlt;refine⟨h,fun _ h=>h,fun x hx n hn=>?_⟩;obtain⟨j,hj,rfl⟩:=dW.1 hx;exact hc j (by omega) _ (aj hj) n hn
theorem Ik{g:aX}(hg:jo g=0){f t:Int}(hf:dF g.rs f=true)(ht:dF g.rs t=true)(hne:f≠t){n:Int}:n∈hops g f t↔Lm g t f n:=by
 unfold hops;rw[if_pos ⟨hg,hf,ht,hne⟩];obtain⟨h1,h2,h3⟩:=OJ (g:=g) (t:=t) (f:=f) (g.rs.length+1) 0 ([f],[]) ⟨by simp,fun x hx=>by simp at hx;subst hx;exact⟨.nil,hf⟩,by simp,by simp⟩ (fun j hj=>by omega) (by simp) (by omega);refine⟨h1.out n,fun⟨x,hx,hn,hc⟩=>?_⟩;have key:∀x,Gq g t f x→x∈(CS g (dist g t) (g.rs.length+1) 0 ([f],[])).1:=fun x hx=>by
  induction hx with
  | nil=>simp[*]
  | via _ hy hc ih=>grind
 grind
theorem o7{g:aX}(hg:g.Ok){t x y:Int}(h:y∈steps g (dist g t) x):dst g t y<dst g t x∧dst g t x<far:=by obtain⟨h1,h2,h3,c,h4,h5⟩:=(mQ hg).1 h;have:=qN hg h4;have:=pK hg t x;omega
theorem Gq.le{g:aX}(hg:g.Ok){t f x:Int}(h:Gq g t f x):dst g t x≤dst g t f:=by
 induction h with
 | nil=>omega
 | via _ hy _ ih=>have:=o7 hg hy;omega
theorem Lm.near{g:aX}(hg:g.Ok){t f n:Int}(h:Lm g t f n):dst g t n<dst g t f∧dst g t f<far∧dst g t n<far∧lF g.rs n=true∧dF g.rs n=true:=by
 obtain⟨x,hx,hn,hc⟩:=h;have h1:=hx.le hg;have h2:=o7 hg hn;obtain⟨_,_,h3,_⟩:=(mQ hg).1 hn;refine⟨by omega,?_,h3,hc,qU hn⟩;cases hx with
 | nil=>omega
 | via h5 h6 h7=>
   have:∀z,Gq g t f z→z=f∨dst g t f<far:=fun z hz=>by
    induction hz with
    | nil=>omega
    | via a b _ ih=>
      rcases ih with e|e
      ·subst e;exact .inr (o7 hg b).2
      omega
   rcases this x (.via h5 h6 h7)with e|e
   ·simp_all
   omega
theorem Lm.some{g:aX}(hg:g.Ok){t f:Int}(hf:dF g.rs f=true)(ht:dF g.rs t=true)(hc:lF g.rs t=true)(hne:f≠t)(hd:dst g t f<far):∃n,Lm g t f n:=by
 have key:∀(m:Nat) (x:Int),(dst g t x).toNat≤m→Gq g t f x→dF g.rs x=true→x≠t→dst g t x<far→∃n,Lm g t f n:=by
  intro m
  induction m with
  | zero=>
    intro x hm hx hh hn hl;have:=pK hg t x
    grind[Cj]
  | succ m ih=>
    intro x hm hx hh hn hl;obtain⟨y,hy⟩:=Qs hg ht hh hn hl;by_cases hcy:lF g.rs y=true
    ·exact⟨y,x,hx,hy,hcy⟩
    ·have h1:=o7 hg hy;obtain⟨_,_,h3,_⟩:=(mQ hg).1 hy;have:=pK hg t y;exact ih y (by omega) (.via hx hy (by simpa using hcy)) (qU hy) (fun e=>by subst e;exact hcy hc) h3
 exact key _ f (au _) .nil hf hne hd
end Go.Proofs
