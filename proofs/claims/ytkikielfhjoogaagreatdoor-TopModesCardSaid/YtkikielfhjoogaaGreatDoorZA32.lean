/-
  What functions of the program compute, stated as contracts over plain data; the conditions of each stand in its own statement.
-/
import Derived.Test.YtkikielfhjoogaaGreatDoorZA31
import Derived.Test.YtkikielfhjoogaaGreatDoorZA28
import Derived.Test.YtkikielfhjoogaaGreatDoorZA23
import Derived.Test.YtkikielfhjoogaaGreatDoorZA18
set_option linter.unusedSimpArgs false
set_option linter.unusedVariables false
namespace Go.Proofs
open Go Go.Tr
def Tf(g:aX):D:=.mp (g.rs.map fun x=>[x.id]) (g.rs.map fun x=>.sl (yV (Bv g.ls x.id)))
def ouM(g:aX):D:=.mp (g.rs.map fun x=>[x.id]) (g.rs.map fun x=>.sl (yV (yB g.ls x.id)))
def grT(g:aX):TV:=.agg [.d (ouM g),.d (Tf g)]
def QF(l:IM):D:=.mp (l.map fun x=>[x.1]) (l.map fun x=>.int .i64 x.2)
def DM(g:aX)(to:Int):IM:=if dF g.rs to then(g.rs.filter fun r=>decide (dst g to r.id<far)).map fun r=>(r.id,dst g to r.id)else []
theorem Vj(F:Int→D)(x:Int):∀rs:List Rt,kJ (kV (rs.map fun r=>[r.id]) (rs.map fun r=>F r.id)) [x]=if dF rs x then some (.d (F x))else none
 | []=>rfl
 | r::rs=>by
   have ih:=Vj F x rs;unfold kV at ih;simp only[kV,aC,mJ,kJ,dR,and_true,dF,List.any_cons,bJ,decide_eq_true_eq];by_cases h:x=r.id
   ·simp[*]
   ·grind[dF]
theorem ab7(F:Int→D)(rs:List Rt):rQ 1 (kV (rs.map fun r=>[r.id]) (rs.map fun r=>F r.id)):=fun y hy=>by
 simp only[kV,ak]at hy
 grind
theorem rH(es:IM):rQ 1 (im es):=fun y hy=>by obtain⟨x,hx,rfl⟩:=ak.1 hy;rfl
theorem OQ(es:IM):(im es).length=es.length:=by simp[im]
theorem abY(es:IM):(im es).map (·.1)=es.map fun x=>[x.1]:=by simp[im]
@[simp]theorem aqV{po:Nat→Prop}{es:IM}{c:Nat}{pd:Option (List Int)}{s:Option jB}:It.only po (It.fO (im es) c pd s):=by intro x hx;obtain⟨y,_,rfl⟩:=ak.1 hx;exact trivial
theorem NT{g:aX}{to:Int}(hto:dF g.rs to=true){r c:Int}:(r,c)∈DM g to↔dF g.rs r=true∧dst g to r<far∧c=dst g to r:=by
 unfold DM;rw[if_pos hto,ak];constructor
 ·rintro⟨x,hx,e⟩;obtain⟨h1,h2⟩:=bK.1 hx;obtain⟨rfl,rfl⟩:=Prod.mk.inj e;exact⟨jQ.2 (ak.2 ⟨x,h1,rfl⟩),of_decide_eq_true h2,rfl⟩
 ·rintro⟨h1,h2,rfl⟩;obtain⟨x,hx,rfl⟩:=ak.1 (jQ.1 h1)
  grind
theorem akY{g:aX}(hg:g.Ok):(g.rs.map Rt.id).Nodup:=by rw[gV,d_];exact hg.rpw.imp fun {a b} h e=>by omega
theorem afK{g:aX}(hg:g.Ok)(to:Int):((DM g to).map (·.1)).Nodup:=by
 unfold DM;split
 ·rw[aY,gV,d_];exact(hg.rpw.filter _).imp fun {a b} h e=>by simp_all
 simp
theorem MK{l:IM}(h:(l.map (·.1)).Nodup):l.Nodup:=List.Pairwise.of_map (R:=(· ≠·)) (S:=(· ≠·)) (·.1) (fun a b h e=>h (by rw[e])) h
theorem abC{g:aX}(hg:g.Ok){to:Int}{out opn:IM}(h:Dj g to out opn)(he:opn = []∨∀r,dF g.rs r=true→r∈out.map (·.1)):out.Perm (DM g to):=by
 refine(List.perm_ext_iff_of_nodup (MK h.n1) (MK (afK hg to))).2 fun x=>?_
 rw[NT h.abf,←h.done hg he];exact⟨fun hx=>ES h.n1 hx,JG⟩
theorem afJ{g:aX}(hg:g.Ok){to:Int}(hto:dF g.rs to=true):am3 g to (DM g to):=fun r c=>by grind[NT,JG,ES,afK]
theorem Ig:∀{a b:List Int},a.Nodup→(∀x∈a,x∈b)→a.length≤b.length
 | [],_,_,_=>jk _
 | x::a,b,nd,h=>by
   have nd':=bG.1 nd;have:=Ig (a:=a) (b:=b.erase x) nd'.2 fun y hy=>(nO fun e=>nd'.1 (by simp_all)).2 (h y (by simp[*]))
   grind
theorem af_{a b:List Int}(nd:a.Nodup)(h:∀x∈a,x∈b)(hl:b.length≤a.length):∀x∈b,x∈a:=by
 intro x hx;refine Classical.byContradiction fun hn=>?_
 have:=Ig (a:=x::a) (b:=b) (bG.2 ⟨hn,nd⟩) fun y hy=>by grind
 grind
theorem Dj.len{g:aX}{to:Int}{out opn:IM}(h:Dj g to out opn):out.length≤g.rs.length:=by
 have:=Ig h.n1 (b:=g.rs.map Rt.id) fun x hx=>by obtain⟨y,hy,rfl⟩:=ak.1 hx;exact jQ.1 (h.o1 y hy).1
 simp_all
theorem DjM.len{g:aX}{to:Int}{b:Int×Int}{dn:List Int}{out opn:IM}(h:DjM g to b dn out opn):out.length≤g.rs.length:=by
 have:=Ig h.n1 (b:=g.rs.map Rt.id) fun x hx=>by obtain⟨y,hy,rfl⟩:=ak.1 hx;exact jQ.1 (h.o1 y hy).1
 simp_all
theorem DjM.all{g:aX}{to:Int}{b:Int×Int}{dn:List Int}{out opn:IM}(h:DjM g to b dn out opn)(hl:out.length=g.rs.length)(r:Int)(hr:dF g.rs r=true):r∈out.map (·.1):=by refine af_ h.n1 (b:=g.rs.map Rt.id) (fun x hx=>?_) (by simp[*]) r (jQ.1 hr);obtain⟨y,hy,rfl⟩:=ak.1 hx;exact jQ.1 (h.o1 y hy).1
theorem DjM.full{g:aX}{to:Int}{b:Int×Int}{dn:List Int}{out opn:IM}(h:DjM g to b dn out opn)(hl:out.length=g.rs.length)(hg:g.Ok):Dj g to out opn:=
 ⟨h.o1,h.o2,fun a ha y q hq=>.inl (h.all hl y (mW hg hq).1),h.o4,h.n1,h.n2⟩
theorem acA:∀{dn acc:IM},(dn.map fun x=>[x.1]).Perm (acc.map fun x=>[x.1])→(∀x∈dn,x∈acc)→(acc.map (·.1)).Nodup→dn.Perm acc:=by
 intro dn acc h hs nd;have h1:(dn.map (·.1)).Perm (acc.map (·.1)):=by have:=h.map (fun k:List Int=>k.headD 0);simpa[aY,Function.comp_def]using this
 have nd1:(dn.map (·.1)).Nodup:=by grind
 refine(List.perm_ext_iff_of_nodup (MK nd1) (MK nd)).2 fun x=>⟨hs x,fun hx=>?_⟩
 obtain⟨y,hy,e⟩:=ak.1 (h1.mem_iff.2 (eX (f:=(·.1)) hx));have h2:=ES nd (hs y hy);have h3:=ES nd (show(x.1,x.2)∈acc from hx)
 grind
set_option maxRecDepth 100000
set_option maxHeartbeats 16000000
theorem oh:rQ 1 []:=fun y hy=>by simp at hy
theorem aln{g:aX}(hg:g.Ok){to:Int}{out opn:IM}(h:Dj g to out opn){x:Int×Int}(hx:x∈opn):1≤x.1:=(hg.id (h.o2 x hx).1).1
theorem agD{opn:IM}{k:List Int}(h:k∈opn.map fun x=>[x.1]):∃x∈opn,k = [x.1]:=by obtain⟨x,hx,rfl⟩:=ak.1 h;exact⟨x,hx,rfl⟩
def Bst(dn:IM)(best:Int):Prop:=(dn = []∧best=0)∨∃b,Least dn b∧b.1=best
theorem KF(g:aX)(hg:g.Ok)(to:Int):Contract Tryz.prog 96 [.d (Tf g),.d (.int .i64 to)] [] (.d (QF (DM g to))) [] []:=by
 have hget:∀x,kJ (kV (g.rs.map fun r=>[r.id]) (g.rs.map fun r=>D.sl (yV (Bv g.ls r.id)))) [x]=if dF g.rs x then some (.d (.sl (yV (Bv g.ls x))))else none:=fun x=>Vj (fun x=>.sl (yV (Bv g.ls x))) x g.rs
 have hkl:rQ 1 (kV (g.rs.map fun r=>[r.id]) (g.rs.map fun r=>D.sl (yV (Bv g.ls r.id)))):=ab7 (fun x=>.sl (yV (Bv g.ls x))) g.rs;refine ay Tryz.func96 rfl (fun E0=>?_)
 refine iC.sound (g:=.mk) (ow:=[3000019,3000029]) (kp:=(kb 0x2000100790004000005408075fb3)) ?_;rw[Tryz.ntmps96];by_cases hto:dF g.rs to=true
 ·simp -dsimp[Tf,hget,hkl,hto];and_intros;all_goals try first|exact oh|omega|exact⟨by kernel_rfl⟩|rfl
  refine dD.of [3000019,3000029] (kb 0x2000100790004000005408075fb3) (ι:={z:IM×IM // Dj g to z.1 z.2})
   (fun z=>[(.s 0,It.v (.d (Tf g))),(.s 5,It.v (.mref 19)),(.o 19,It.fO (im z.1.1) 0 none none),(.s 8,It.v (.mref 29)),(.o 29,It.fO (im z.1.2) 0 none none)])
   (fun z=>g.rs.length+1-z.1.1.length) ⟨([],[(to,0)]),Dj.init hto⟩ ?_ ?_
  ·exact GS.to (by simp[Tf,im,It.only,TV.only])
  ·rintro⟨⟨out,opn⟩,hD⟩;simp only at hD;have kO:=rH out;have kP:=rH opn;have lo:=OQ opn
   have hfin:∀(t:List (Pl×It)) (A:f_) (fn:Func) (o:IM),o.Perm (DM g to)→Fin Tryz.prog A fn (.d (QF (DM g to))) [] [] (Tr.look [(.s 4,It.v (.mref 19)),(.o 19,It.fO (im (DM g to)) 0 none none)])→Fin Tryz.prog A fn (.d (QF (DM g to))) [] [] (Tr.look [(.s 4,It.v (.mref 19)),(.o 19,It.fO (im o) 0 none none)]):=fun t A fn o hp h=>Fin.ghost h (GS.ahs 19 (c:=0) (pd:=none) (s:=none) (es:=im o) (es':=im (DM g to)) (by simp) (hp.map _) (by simp))
   by_cases ho:opn = []
   ·subst ho;simp -dsimp[OQ];refine Fin.ghost (hfin [] _ _ out (abC hg hD (.inl rfl)) ?_) (GS.to (by simp));refine Fin.rO 19 ((DM g to).map fun x=>([x.1],D.int .i64 x.2)) (c:=0) (pd:=none) (s:=none) (by simp[im]) ?_;simp -dsimp;refine Fin.of ?_;simp[qj,QF]
   ·have hz:0<opn.length:=nZ.2 ho;simp -dsimp[OQ,hz];refine oG.range ?_;simp -dsimp[Gp,F9,abY];intro sn
    refine dD.of [3000019,3000029] (kb 0x2000100790004000005408075fb3) (ι:={z:(IM×Int)×List (List Int)×Option (List Int) // ((z.1.1.map fun x=>[x.1])++z.2.1).Perm (opn.map fun x=>[x.1])∧(∀x∈z.1.1,x∈opn)∧Bst z.1.1 z.1.2})
     (fun z=>[(.s 0,It.v (.d (Tf g))),(.s 5,It.v (.mref 19)),(.o 19,It.fO (im out) 0 none none),(.s 8,It.v (.mref 29)),(.o 29,It.fO (im opn) 0 none (some sn)),(.s 36,It.v (.ptr (.o 36) 0)),(.o 36,It.yt 29 sn z.1.2.1 z.1.2.2),(.s 9,It.v (.d (.int .i64 z.1.1.2)))])
     (fun z=>z.1.2.1.length) ⟨(([],0),opn.map (fun x=>[x.1]),none),by simp,by simp,.inl ⟨rfl,rfl⟩⟩ ?_ ?_
    ·exact GS.to (by simp[Tf])
    ·rintro⟨⟨⟨dn,best⟩,left,cur⟩,j1,j2,j3⟩;simp only at j1 j2 j3;simp -dsimp;refine oG.next ?_;simp -dsimp[Ph];refine⟨fun hl0=>?_,fun x hx=>?_⟩
     ·subst hl0;rw[bQ]at j1
      have hp:=acA j1 j2 hD.n2;rcases j3 with⟨e,_⟩|⟨b,hb,rfl⟩
      ·subst e;have:=hp.length_eq;simp at this;omega
      ·have hbo:=hb.perm hp;have hgb:gI opn b.1=some b.2:=ES hD.n2 hbo.mem;have hmin:∀x∈opn,b.2≤x.2:=fun x hx=>by have:=hbo.min x hx;omega
       have hM:=hD.move hg hbo.mem hmin;have hpk:=hD.pick hg hbo.mem hmin;have hb0:=(pK hg to b.1).1;have hbr:=(hD.o2 b hbo.mem).1;have hnew:=al2 (hD.o2 b hbo.mem).2.1 b.2;have hlen:=hM.len;unfold far at hpk;by_cases hfull:(pI out b.1 b.2).length=g.rs.length
       ·simp -dsimp[Tf,qI,hgb,ab2,AL,OQ,rH,hfull];and_intros;all_goals try first|exact oh|omega|exact⟨by kernel_rfl⟩|rfl
        refine Fin.ghost (hfin [] _ _ _ (abC hg (hM.full hfull hg) (.inr fun r hr=>hM.all hfull r hr)) ?_) (GS.to (by simp));refine Fin.rO 19 ((DM g to).map fun x=>([x.1],D.int .i64 x.2)) (c:=0) (pd:=none) (s:=none) (by simp[im]) ?_;simp -dsimp;refine Fin.of ?_;simp[qj,QF]
       ·have hfz :¬((pI out b.1 b.2).length:Int)=g.rs.length:=by omega
        obtain⟨I,hI⟩:∃I,I=Bv g.ls b.1:=⟨_,rfl⟩
        have hpr:∀s∈I,price g.ls s.1 b.1=some s.2:=fun s hs=>(Td hg (y:=s.1) (q:=s.2)).1 (by rw[←hI];exact hs)
        have hIl:=Vd b.1 g.ls;have hls:=hg.nl;rw[←hI]at hIl
        simp -dsimp[Tf,qI,hgb,ab2,AL,OQ,rH,hfz,hget,hkl,hbr,←hI];and_intros;all_goals try first|exact oh|omega|exact⟨by kernel_rfl⟩|rfl
        generalize pI out b.1 b.2=O at hM hnew hlen hfull;refine dD.of [3000019,3000029] (kb 0x2000100790004000005408075fb3) (ι:={z:IM×Nat // z.2≤I.length∧DjM g to b ((I.take z.2).map (·.1)) O z.1})
         (fun z=>[(.s 0,It.v (.d (Tf g))),(.s 5,It.v (.mref 19)),(.o 19,It.fO (im O) 0 none none),(.s 8,It.v (.mref 29)),(.o 29,It.fO (im z.1.1) 0 none none),(.s 12,It.v (.d (.int .i64 b.2))),
          (.s 79,It.v (.d (.sl (yV I)))),(.s 80,It.v (.d (.int .i64 I.length))),(.s 81,It.v (.d (.int .i64 z.1.2)))])
         (fun z=>I.length-z.1.2) ⟨(rI opn b.1,0),by omega,by simpa using hM⟩ ?_ ?_
        ·exact GS.to (by simp[Tf])
        ·rintro⟨⟨op,i⟩,k1,k2⟩;simp only at k1 k2;by_cases hi:i<I.length
         ·have hiz:(i:Int)<I.length:=by omega
          have hs:I[i]? = some I[i]:=aj hi;have hp1:=hpr I[i] (aJ hi);have ht:(I.take (i+1)).map (·.1)=(I.take i).map (·.1)++[I[i].1]:=by rw[aT,hs,gu];rfl
          generalize I[i]=s at hs hp1 ht;have hq:=qN hg hp1;have hs':(yV I)[i]? = some [.int .i64 s.1,.int .i64 s.2]:=by simp[yV,hs]
          have w1:IntKind.i64.wrap ((i:Int)+1)=(i:Int)+1:=wrap_i64 (by omega) (by omega);have w2:IntKind.i64.wrap (b.2+s.2)=b.2+s.2:=wrap_i64 (by omega) (by omega);have hst:=k2.step hg hp1;rw[←ht]at hst
          unfold al9 at hst;cases ho1:gI O s.1 with
          | some c0=>
            rw[ho1]at hst
            simp -dsimp[hiz,hs',qI,AL,rH,ho1,w1,w2];and_intros;all_goals try first|exact oh|omega|exact⟨by kernel_rfl⟩|rfl
            exact⟨⟨(op,i+1),by omega,hst⟩,GS.to (by simp),by simp;omega⟩
          | none=>
            rw[ho1]at hst
            simp only at hst;cases ho2:gI op s.1 with
            | none=>
              rw[ho2]at hst
              simp -dsimp[hiz,hs',qI,AL,rH,ho1,ho2,w1,w2];and_intros;all_goals try first|exact oh|omega|exact⟨by kernel_rfl⟩|rfl
              exact⟨⟨(_,i+1),by omega,hst⟩,GS.to (by simp),by simp;omega⟩
            | some c=>
              rw[ho2]at hst
              simp only at hst;by_cases hc:b.2+s.2<c
              ·rw[if_pos hc]at hst
               simp -dsimp[hiz,hs',qI,AL,rH,ho1,ho2,w1,w2,hc];and_intros;all_goals try first|exact oh|omega|exact⟨by kernel_rfl⟩|rfl
               exact⟨⟨(_,i+1),by omega,hst⟩,GS.to (by simp),by simp;omega⟩
              ·rw[if_neg hc]at hst
               simp -dsimp[hiz,hs',qI,AL,rH,ho1,ho2,w1,w2,hc];and_intros;all_goals try first|exact oh|omega|exact⟨by kernel_rfl⟩|rfl
               exact⟨⟨(op,i+1),by omega,hst⟩,GS.to (by simp),by simp;omega⟩
         ·have hiz :¬(i:Int)<I.length:=by omega
          obtain rfl:i=I.length:=by omega
          rw[lT]at k2
          have hdn:=k2.fin (fun y q hy=>ak.2 ⟨(y,q),by rw[hI];exact(Td hg).2 hy,rfl⟩);simp -dsimp[hiz];and_intros;all_goals try first|exact oh|omega|exact⟨by kernel_rfl⟩|rfl
          exact⟨⟨(O,op),hdn⟩,GS.to (by simp),by simp only;omega⟩
     ·have hxm:x∈opn.map fun x=>[x.1]:=j1.mem_iff.1 (aN.2 (.inr hx))
      obtain⟨y,hy,rfl⟩:=agD hxm;have hgy:gI opn y.1=some y.2:=ES hD.n2 (show(y.1,y.2)∈opn from hy);have jp:(((dn++[y]).map fun x=>[x.1])++left.erase [y.1]).Perm (opn.map fun x=>[x.1]):=by rw[gu,dP];exact(((lg hx).symm).append_left _).trans j1
      have jm:∀x∈dn++[y],x∈opn:=fun x hx=>by
       rcases aN.1 hx with h|h
       ·exact j2 x h
       ·rw[dH.1 h];exact hy
      have hlt:(left.erase [y.1]).length<left.length:=by rw[ig hx];have:=fZ hx;omega
      rcases j3 with⟨rfl,rfl⟩|⟨b,hb,rfl⟩
      ·simp -dsimp[qI,hgy,rH];and_intros;all_goals try first|exact oh|omega|exact⟨by kernel_rfl⟩|rfl
       exact⟨⟨(([]++[y],y.1),left.erase [y.1],some [y.1]),jp,jm,.inr ⟨y,Least.one y,rfl⟩⟩,GS.to (by simp),hlt⟩
      ·have hbm:=j2 b hb.mem;have hb1:=aln hg hD hbm;have hbz :¬b.1=0:=by omega
       have hgb:gI opn b.1=some b.2:=ES hD.n2 hbm;have hsn:=hb.snoc (x:=y);by_cases c1:y.2<b.2
       ·rw[if_pos (.inl c1)]at hsn
        simp -dsimp[qI,hgy,hgb,rH,hbz,c1];and_intros;all_goals try first|exact oh|omega|exact⟨by kernel_rfl⟩|rfl
        exact⟨⟨((dn++[y],y.1),left.erase [y.1],some [y.1]),jp,jm,.inr ⟨y,hsn,rfl⟩⟩,GS.to (by simp),hlt⟩
       ·by_cases c2:y.2=b.2
        ·by_cases c3:y.1<b.1
         ·rw[if_pos (.inr ⟨c2,c3⟩)]at hsn
          simp -dsimp[qI,hgy,hgb,rH,hbz,c1,c2,c3];and_intros;all_goals try first|exact oh|omega|exact⟨by kernel_rfl⟩|rfl
          exact⟨⟨((dn++[y],y.1),left.erase [y.1],some [y.1]),jp,jm,.inr ⟨y,hsn,rfl⟩⟩,GS.to (by simp),hlt⟩
         ·rw[if_neg (by omega)]at hsn
          simp -dsimp[qI,hgy,hgb,rH,hbz,c1,c2,c3];and_intros;all_goals try first|exact oh|omega|exact⟨by kernel_rfl⟩|rfl
          exact⟨⟨((dn++[y],b.1),left.erase [y.1],some [y.1]),jp,jm,.inr ⟨b,hsn,rfl⟩⟩,GS.to (by simp),hlt⟩
        ·rw[if_neg (by omega)]at hsn
         simp -dsimp[qI,hgy,hgb,rH,hbz,c1,c2];and_intros;all_goals try first|exact oh|omega|exact⟨by kernel_rfl⟩|rfl
         exact⟨⟨((dn++[y],b.1),left.erase [y.1],some [y.1]),jp,jm,.inr ⟨b,hsn,rfl⟩⟩,GS.to (by simp),hlt⟩
 ·simp -dsimp[Tf,hget,hkl,hto];refine Fin.rO 19 [] rfl ?_;simp -dsimp;refine Fin.of ?_;simp[qj,QF,DM,hto]
theorem MP:∀l:IM,kV (l.map fun x=>[x.1]) (l.map fun x=>D.int .i64 x.2)=im l
 | []=>rfl
 | x::l=>by have ih:=MP l;unfold kV im at ih;simp only[kV,im,aC,mJ,ih]
def nxF(costs:IM)(all:Int)(ls:IM):List Int:=(ls.filter fun s=>match gI costs s.1 with
  | some c=>decide (s.2+c=all)
  | none=>false).map (·.1)
theorem aha(costs:IM)(all:Int)(ls:IM)(s:Int×Int):nxF costs all (ls++[s])=nxF costs all ls++(match gI costs s.1 with|some c=>if s.2+c=all then [s.1]else []|none=>[]):=by
 unfold nxF;rw[fP,gu]
 congr 1
 cases h:gI costs s.1 with
 | none=>simp[List.filter,h]
 | some c=>by_cases e:s.2+c=all<;>simp[List.filter,h,e]
theorem alU(costs:IM)(all:Int)(ls:IM):(nxF costs all ls).length≤ls.length:=by unfold nxF;rw[aV];exact dY _ _
theorem anf{g:aX}(hg:g.Ok){to x c:Int}(h:gI (DM g to) x=some c):dF g.rs x=true∧0≤c∧c<far:=by
 by_cases hto:dF g.rs to=true
 ·obtain⟨h1,h2,rfl⟩:=(NT hto).1 (JG h);exact⟨h1,(pK hg to x).1,h2⟩
 ·unfold DM at h;rw[if_neg hto]at h
  simp[gI]at h
theorem acp(g:aX)(hg:g.Ok)(to x:Int):Contract Tryz.prog 97 [grT g,.d (QF (DM g to)),.d (.int .i64 x)] [] (.d (ints (nxG (DM g to) (yB g.ls x) x))) [] []:=by
 have hbd:=fun x c=>anf (g:=g) hg (to:=to) (x:=x) (c:=c)
 generalize DM g to=L at hbd⊢;have hget:∀k,kJ (kV (L.map fun x=>[x.1]) (L.map fun x=>D.int .i64 x.2)) [k]=(gI L k).map fun v=>TV.d (.int .i64 v):=fun k=>by rw[MP];exact qI L k
 have hkl:rQ 1 (kV (L.map fun x=>[x.1]) (L.map fun x=>D.int .i64 x.2)):=by rw[MP];exact rH L
 have aoa:∀x,kJ (kV (g.rs.map fun r=>[r.id]) (g.rs.map fun r=>D.sl (yV (yB g.ls r.id)))) [x]=if dF g.rs x then some (.d (.sl (yV (yB g.ls x))))else none:=fun x=>Vj (fun x=>.sl (yV (yB g.ls x))) x g.rs
 have atm:rQ 1 (kV (g.rs.map fun r=>[r.id]) (g.rs.map fun r=>D.sl (yV (yB g.ls r.id)))):=ab7 (fun x=>.sl (yV (yB g.ls x))) g.rs;cases hc:gI L x with
 | none=>
   refine ay Tryz.func97 rfl (fun E0=>?_);refine iC.sound (g:=.mk) (ow:=[]) (kp:=(kb 0x40001e203bcf)) ?_;rw[Tryz.ntmps97];simp -dsimp[grT,QF,hget,hkl,hc];and_intros;all_goals try first|omega|exact⟨by kernel_rfl⟩|rfl
   refine Fin.view 6 ?_;simp -dsimp;refine Fin.of ?_;simp[nxG,hc,ints]
 | some all=>
   obtain⟨hx,b1,b2⟩:=hbd x all hc;have hle:=Pz x g.ls;have hls:=hg.nl;obtain⟨O,hO⟩:∃O,O=yB g.ls x:=⟨_,rfl⟩
   have hpr:∀s∈O,1≤s.2∧s.2≤1000:=fun s hs=>qN hg ((J3 hg (y:=s.1) (q:=s.2)).1 (by rw[←hO];exact hs))
   have hnx:nxG L O x=nxF L all O:=by unfold nxG nxF;rw[hc];try rfl
   rw[←hO]at hle⊢
   rw[hnx];refine ay Tryz.func97 rfl (fun E0=>?_);refine iC.sound (g:=.mk) (ow:=[]) (kp:=(kb 0x40001e203bcf)) ?_;rw[Tryz.ntmps97];simp -dsimp[grT,QF,ouM,hget,hkl,hc,aoa,atm,hx,←hO];and_intros;all_goals try first|omega|exact⟨by kernel_rfl⟩|rfl
   refine dD.of [] (kb 0x40001e203bcf) (ι:={i:Nat // i≤O.length})
    (fun z=>[(.s 1,It.v (.d (QF L))),(.o 3,It.box [.d (ouM g),.d (Tf g)]),(.s 3,It.v (.ptr (.o 3) 0)),(.s 6,It.v (.c (Value.slice none 0 0))),(.s 7,It.v (.aW 7 (nxF L all (O.take z.1)).length)),(.o 7,It.row 3 1 (dd ((nxF L all (O.take z.1)).map fun x=>[D.int .i64 x])) false),(.s 8,It.v (.d (.int .i64 all))),
     (.s 25,It.v (.d (.sl (yV O)))),(.s 26,It.v (.d (.int .i64 O.length))),(.s 27,It.v (.d (.int .i64 z.1)))])
    (fun z=>O.length-z.1) ⟨0,by omega⟩ ?_ ?_
   ·exact GS.own' (k:=7) 3 1 (by simp) (by simp) (by simp[nxF,QF,ouM,Tf])
   ·rintro⟨i,i1⟩;by_cases hi:i<O.length
    ·have hiz:(i:Int)<O.length:=by omega
     have hs:O[i]? = some O[i]:=aj hi;have hm:=hpr O[i] (aJ hi);have ht:O.take (i+1)=O.take i++[O[i]]:=by rw[aT,aj hi];rfl
     generalize O[i]=s at hs hm ht;have hs':(yV O)[i]? = some [.int .i64 s.1,.int .i64 s.2]:=by simp[yV,hs]
     have hn:=aha L all (O.take i) s;rw[←ht]at hn
     have hnl:=alU L all (O.take i);rw[gG]at hnl
     have w1:IntKind.i64.wrap ((i:Int)+1)=(i:Int)+1:=wrap_i64 (by omega) (by omega);cases hcs:gI L s.1 with
     | none=>
       rw[hcs]at hn
       simp -dsimp[hiz,hs',QF,hget,hkl,hcs,w1];and_intros;all_goals try first|omega|exact⟨by kernel_rfl⟩|rfl
       exact⟨⟨i+1,by omega⟩,GS.to (by simp[hn,QF]),by simp;omega⟩
     | some c=>
       obtain⟨_,c1,c2⟩:=hbd s.1 c hcs;unfold far at c2;rw[hcs]at hn
       simp only at hn;have w2:IntKind.i64.wrap (s.2+c)=s.2+c:=wrap_i64 (by omega) (by omega);by_cases he:s.2+c=all
       ·rw[if_pos he]at hn
        have w3:IntKind.i64.wrap all=all:=by rw[he]at w2;exact w2
        simp -dsimp[hiz,hs',QF,hget,hkl,hcs,w1,w2,he,w3];and_intros;all_goals try first|omega|exact⟨by kernel_rfl⟩|rfl
        exact⟨⟨i+1,by omega⟩,GS.to (by simp[hn,QF]),by simp;omega⟩
       ·rw[if_neg he]at hn
        simp -dsimp[hiz,hs',QF,hget,hkl,hcs,w1,w2,he];and_intros;all_goals try first|omega|exact⟨by kernel_rfl⟩|rfl
        exact⟨⟨i+1,by omega⟩,GS.to (by simp[hn,QF]),by simp;omega⟩
    ·have hiz :¬(i:Int)<O.length:=by omega
     simp -dsimp[hiz];refine Fin.view 6 ?_;simp -dsimp;refine Fin.of ?_;simp[aS (show O.length≤i by omega),ints,jR]
theorem I5(g:aX)(hs:g.Sm):Contract Tryz.prog 94 [eU g] [] (.d (.bool (decide (jo g=0)))) [] []:=by
 refine ay Tryz.func94 rfl (fun E0=>?_);refine iC.sound (g:=.mk) (ow:=[]) (kp:=(kb 7)) ?_;rw[Tryz.ntmps94];simp -dsimp[eU];refine aI.of (xW g hs.r hs.l) [] 0 ?_;simp -dsimp[eU];and_intros;all_goals try first|omega|exact⟨by kernel_rfl⟩|rfl
 refine Fin.of ?_;simp
def Wl(g:aX)(to:Int)(l:IM):List (List Int×D):=l.map fun x=>([x.1],ints (steps g (dist g to) x.1))
def Y4(g:aX)(to:Int)(l:IM):List (List Int×TV):=(Wl g to l).map fun x=>(x.1,.d x.2)
def YZ(g:aX)(to:Int):D:=if jo g=0 then qj (Wl g to (DM g to))else .mp [] []
theorem akp(g:aX)(to:Int)(l:IM):rQ 1 (Y4 g to l):=fun y hy=>by simp only[Y4,Wl,aY,ak]at hy;obtain⟨x,_,rfl⟩:=hy;rfl
theorem akq{g:aX}{to:Int}{l:IM}{x:Int}(h:x∉l.map (·.1))(v:TV):oq (Y4 g to l) [x] v=Y4 g to l++[([x],v)]:=by
 refine CX fun y hy e=>?_
 simp only[Y4,Wl,aY,ak]at hy;obtain⟨z,hz,rfl⟩:=hy;simp only[Function.comp,dR,and_true]at e;exact h (ak.2 ⟨z,hz,e⟩)
@[simp]theorem aoR{po:Nat→Prop}{g:aX}{to:Int}{l:IM}{c:Nat}{pd:Option (List Int)}{s:Option jB}:It.only po (It.fO (Y4 g to l) c pd s):=by intro x hx;simp only[Y4,Wl,aY,ak]at hx;obtain⟨y,_,rfl⟩:=hx;exact trivial
@[simp]theorem akU{po:Nat→Prop}{l:IM}{s:jB}:It.only po (It.BM (im l) s):=by intro x hx;obtain⟨y,_,rfl⟩:=ak.1 hx;exact trivial
theorem aiv(g:aX)(hs:g.Sm)(to:Int):Contract Tryz.prog 70 [eU g,.d (.int .i64 to)] [] (.d (YZ g to)) [] []:=by
 refine ay Tryz.func70 rfl (fun E0=>?_);refine iC.sound (g:=.mk) (ow:=[3000009]) (kp:=(kb 0xa011f7)) ?_;rw[Tryz.ntmps70];by_cases h0:jo g=0
 ·have hg:=dV h0;have hrd:=ahJ g (by have:=hg.nr;omega) (by have:=hg.nl;omega) (akY hg) (fun x hx=>by
   obtain⟨h1,h2⟩:=hg.ends' hx;exact⟨jQ.1 h1,jQ.1 h2⟩) (fun x hx=>by have:=hg.lab hx;omega) (fun v=>Vu hg v)
  have hds:=KF g hg to;have hnx:=fun x=>acp g hg to x
  have hnd:=afK hg to;have hst:∀x∈DM g to,nxG (DM g to) (yB g.ls x.1) x.1=steps g (dist g to) x.1:=fun x hx=>by
   by_cases hto:dF g.rs to=true
   ·exact TI hg hto (afJ hg hto) ((NT hto).1 (show(x.1,x.2)∈_ from hx)).1
   ·unfold DM at hx;rw[if_neg hto]at hx;simp at hx
  have hD:YZ g to=qj (Wl g to (DM g to)):=by unfold YZ;rw[if_pos h0]
  rw[hD];obtain⟨L,hL⟩:∃L,L=DM g to:=⟨_,rfl⟩
  rw[←hL]at hds hnx hnd hst⊢
  simp only[Tf]at hds;simp only[grT,ouM,Tf]at hnx;simp -dsimp[eU];refine aI.of (I5 g hs) [] 0 ?_;simp -dsimp[eU,h0];refine aI.of hrd [] 0 ?_;simp -dsimp[eU,h0];and_intros;all_goals try first|omega|exact⟨by kernel_rfl⟩|rfl
  refine aI.of hds [] 0 ?_;simp -dsimp[eU,h0];and_intros;all_goals try first|omega|exact⟨by kernel_rfl⟩|rfl
  refine oG.range ?_;simp -dsimp[Gp,F9,QF,MP,abY];intro sn;refine dD.of [3000009] (kb 0xa011f7) (ι:={z:IM×List (List Int)×Option (List Int) // ((z.1.map fun x=>[x.1])++z.2.1).Perm (L.map fun x=>[x.1])∧∀x∈z.1,x∈L})
   (fun z=>[(.s 5,It.v (.mref 9)),(.o 9,It.fO (Y4 g to z.1.1) 0 none none),(.s 6,It.v (.ptr (.o 6) 0)),(.o 6,It.box [.d (ouM g),.d (Tf g)]),(.s 7,It.v (.d (QF L))),
    (.s 21,It.v (.ptr (.o 21) 0)),(.o 21,It.yt 4000021 sn z.1.2.1 z.1.2.2),(.o 4000021,It.BM (im L) sn)])
   (fun z=>z.1.2.1.length) ⟨([],L.map (fun x=>[x.1]),none),by simp,by simp⟩ ?_ ?_
  ·exact GS.to (by simp[Y4,Wl,ouM,Tf,QF])
  ·rintro⟨⟨dn,left,cur⟩,j1,j2⟩;simp only at j1 j2;simp -dsimp;refine oG.next ?_;simp -dsimp[Ph];refine⟨fun hl0=>?_,fun x hx=>?_⟩
   ·subst hl0;rw[bQ]at j1
    have hp:=acA j1 j2 hnd;refine Fin.ghost ?_ (GS.ahs (l':=[(.s 4,It.v (.mref 9)),(.o 9,It.fO (Y4 g to L) 0 none none)]) 9 (c:=0) (pd:=none) (s:=none) (es:=Y4 g to dn) (es':=Y4 g to L) (by simp) ((hp.map _).map _) (by simp));refine Fin.rO 9 (Wl g to L) (c:=0) (pd:=none) (s:=none) (by simp[Y4]) ?_;simp -dsimp;refine Fin.of ?_;simp
   ·have hxm:x∈L.map fun x=>[x.1]:=j1.mem_iff.1 (aN.2 (.inr hx))
    obtain⟨y,hy,rfl⟩:=agD hxm;have hgy:gI L y.1=some y.2:=ES hnd (show(y.1,y.2)∈L from hy);have hnk:y.1∉dn.map (·.1):=fun hm=>by
     obtain⟨z,hz,e⟩:=ak.1 hm;have nd:((dn.map fun x=>[x.1])++left).Nodup:=j1.symm.nodup (by
      rw[gV,d_]at hnd⊢
      exact hnd.imp fun h e=>h (by simpa using e))
     exact(fV.1 nd).2.2 [z.1] (ak.2 ⟨z,hz,rfl⟩) [y.1] hx (by rw[e])
    have hkp:=fun v=>akq (g:=g) (to:=to) hnk v
    have hkl:=akp g to dn;simp -dsimp[qI,hgy];refine aI.of (hnx y.1) [] 0 ?_;rw[hst y hy];simp -dsimp[qI,hgy,hkl,hkp];have jp:(((dn++[y]).map fun x=>[x.1])++left.erase [y.1]).Perm (L.map fun x=>[x.1]):=by rw[gu,dP];exact(((lg hx).symm).append_left _).trans j1
    have jm:∀x∈dn++[y],x∈L:=fun x hx=>by
     rcases aN.1 hx with h|h
     ·exact j2 x h
     ·rw[dH.1 h];exact hy
    have hlt:(left.erase [y.1]).length<left.length:=by rw[ig hx];have:=fZ hx;omega
    have hsn:Y4 g to (dn++[y])=Y4 g to dn++[([y.1],TV.d (ints (steps g (dist g to) y.1)))]:=by simp[Y4,Wl]
    exact⟨rfl,rfl,⟨⟨(dn++[y],left.erase [y.1],some [y.1]),jp,jm⟩,GS.to (by simp[←hsn]),hlt⟩⟩
 ·have hD:YZ g to = .mp [] []:=by unfold YZ;rw[if_neg h0]
  rw[hD];simp -dsimp[eU];refine aI.of (I5 g hs) [] 0 ?_;simp -dsimp[eU,h0];refine Fin.rO 9 [] rfl ?_;simp -dsimp;refine Fin.of ?_;simp[qj]
end Go.Proofs

namespace Go.Proofs
theorem Wk.app2{g:aX}{a b:Int}{k j:Nat}{x u v:Int}(h:Wk g a k x u)(h2:Wk g b j a v):Wk g b (k+j) x (u+v):=by
 induction h with
 | nil=>simpa using h2
 | @cons k x y c w hp _ ih=>rw[show k+1+j=k+j+1 by omega,Int.add_assoc];exact .cons hp ih
theorem UU{g:aX}(hg:g.Ok){r x z:Int}(hr:dF g.rs r=true)(hx:dF g.rs x=true)(hz:dF g.rs z=true)(h1:dst g x z<far)(h2:dst g r x<far):dst g r z≤dst g x z+dst g r x∧dst g r z<far:=by obtain⟨k,hk⟩:=uN hg hx hz h1;obtain⟨j,hj⟩:=uN hg hr hx h2;exact wH hg hr (hk.app2 hj)
inductive LR (g:aX) (to:Int):Int→List Int→Prop
 | nil:LR g to to []
 | cons {x y:Int} {l ws:List Int}:x≠to→steps g (dist g to) x=y::l→LR g to y ws→LR g to x (y::ws)
def rtN(g:aX)(to:Int):Nat→Int→List Int
 | 0,_=>[]
 | n+1,x=>if x=to then []else match steps g (dist g to) x with
   | []=>[]
   | y::_=>y::rtN g to n y
theorem YP{g:aX}(hg:g.Ok)(to x:Int):(steps g (dist g to) x).Pairwise (· < ·):=by
 unfold steps;split
 ·exact List.Pairwise.nil
 ·refine List.Pairwise.filter _ ?_;unfold near;rw[d_];exact(hg.rpw.filter _)
theorem ahV{g:aX}(hg:g.Ok){to:Int}(hto:dF g.rs to=true):∀(n:Nat) {x:Int},dF g.rs x=true→dst g to x<far→(dst g to x).toNat<n→LR g to x (rtN g to n x)
 | 0,_,_,_,h=>by omega
 | n+1,x,hx,hl,hn=>by
   rw[rtN];by_cases e:x=to
   ·subst e;rw[if_pos rfl];exact .nil
   ·rw[if_neg e];obtain⟨y,hy⟩:=Qs hg hto hx e hl;cases hs:steps g (dist g to) x with
    | nil=>rw[hs]at hy;simp at hy
    | cons z l=>
      have hz:z∈steps g (dist g to) x:=by rw[hs];simp
      have h1:=o7 hg hz;have h2:=pK hg to z;exact .cons e hs (ahV hg hto n (qU hz) (by omega) (by omega))
theorem LR.det{g:aX}{to x:Int}{ws:List Int}(h:LR g to x ws):∀{us:List Int},LR g to x us→ws=us:=by
 induction h with
 | nil=>intro us k;cases k with
   | nil=>rfl
   | cons h _ _=>exact absurd rfl h
 | cons h1 h2 _ ih=>intro us k;cases k with
   | nil=>exact absurd rfl h1
   | cons k1 k2 k3=>
     rw[h2]at k2
     obtain⟨rfl,rfl⟩:=List.cons.inj k2;rw[ih k3]
theorem LR.on{g:aX}(hg:g.Ok){r:Int}(hr:dF g.rs r=true){z:Int}{ws:List Int}(h:LR g r z ws)(hz:dF g.rs z=true)(hl:dst g r z<far):∀x∈ws,dF g.rs x=true∧dst g r x<dst g r z∧dst g x z<far∧dst g r z=dst g x z+dst g r x:=by
 induction h with
 | nil=>intro x hx;simp at hx
 | @cons z y l ws h1 h2 h3 ih=>
   have hy:y∈steps g (dist g r) z:=by rw[h2];simp
   have LC:=qU hy;obtain⟨_,_,h4,c,h5,h6⟩:=(mQ hg).1 hy;have h7:=o7 hg hy;have hself:=G_ hg LC;have h8:=G9 hg LC h5 (by rw[hself];unfold far;omega);have h9:=UU hg hr LC hz h8.2 h4;intro x hx;rcases aF.1 hx with rfl|hx
   ·exact⟨LC,h7.1,h8.2,by omega⟩
   ·obtain⟨i1,i2,i3,i4⟩:=ih LC h4 x hx;have j1:=G9 hg i1 h5 i3;have hb:=pK hg r x;have j2:=UU hg hr i1 hz j1.2 (by omega);exact⟨i1,by omega,j1.2,by omega⟩
theorem LR.pre{g:aX}(hg:g.Ok){r:Int}(hr:dF g.rs r=true){z:Int}{ws:List Int}(h:LR g r z ws)(hz:dF g.rs z=true)(hl:dst g r z<far):∀x∈ws,∃us vs,ws=us++x::vs∧LR g x z (us++[x])∧LR g r x vs:=by
 induction h with
 | nil=>intro x hx;simp at hx
 | @cons z y l ws h1 h2 h3 ih=>
   have hon:=(LR.cons h1 h2 h3).on hg hr hz hl;have hy:y∈steps g (dist g r) z:=by rw[h2];simp
   have LC:=qU hy;obtain⟨_,_,h4,c,h5,h6⟩:=(mQ hg).1 hy;have h7:=o7 hg hy;have key:∀x∈y::ws,(x=y∨(dF g.rs x=true∧dst g x y<far∧dst g r y=dst g x y+dst g r x))→∃l',steps g (dist g x) z=y::l':=by
    intro x hx hxy;obtain⟨o1,o2,o3,o4⟩:=hon x hx;have hxs:=G_ hg o1;have hmem:y∈steps g (dist g x) z:=by
     refine(mQ hg).2 ⟨by omega,fun e=>?_,?_,c,h5,?_⟩
     ·have:=Cj hg o1 hz e;subst this;omega
     ·rcases hxy with rfl|⟨_,h,_⟩
      ·rw[hxs];unfold far;omega
      ·exact h
     ·rcases hxy with rfl|⟨_,_,h⟩<;>omega
    have hmin:∀q∈steps g (dist g x) z,y≤q:=by
     intro q hq;obtain⟨a1,a2,a3,cq,a4,a5⟩:=(mQ hg).1 hq;have hqr:=qU hq;have hb:=pK hg r x;have t1:=UU hg hr o1 hqr a3 (by omega);have t2:=G9 hg hr a4 t1.2;have hq2:q∈steps g (dist g r) z:=(mQ hg).2 ⟨by omega,fun e=>h1 (Cj hg hr hz e),t1.2,cq,a4,by omega⟩;rw[h2]at hq2
     rcases aF.1 hq2 with rfl|hq2
     ·exact fM _
     ·have:=YP hg r z;rw[h2,dM]at this
      exact Int.le_of_lt (this.1 q hq2)
    cases hs:steps g (dist g x) z with
    | nil=>rw[hs]at hmem;simp at hmem
    | cons w l'=>
      have h8:=hmin w (by rw[hs];simp);have h9:=YP hg x z;rw[hs,dM]at h9
      rw[hs]at hmem
      rcases aF.1 hmem with rfl|h10
      ·exact⟨l',rfl⟩
      ·have:=h9.1 y h10;omega
   have hzx:∀x∈y::ws,z≠x:=fun x hx e=>by have:=(hon x hx).2.1;subst e;omega
   intro x hx;rcases aF.1 hx with rfl|hx'
   ·obtain⟨l',hl'⟩:=key x hx (.inl rfl);exact⟨[],ws,rfl,.cons (hzx x hx) hl' .nil,h3⟩
   ·obtain⟨us,vs,e,g1,g2⟩:=ih LC h4 x hx';obtain⟨i1,i2,i3,i4⟩:=h3.on hg hr LC h4 x hx';obtain⟨l',hl'⟩:=key x hx (.inr ⟨i1,i3,i4⟩);exact⟨y::us,vs,by rw[e];rfl,.cons (hzx x hx) hl' g1,g2⟩
theorem ad6{g:aX}{x z:Int}:∀{us vs:List Int},LR g x z (us++[x])→LR g x z (vs++[x])→us=vs:=fun h1 h2=>by have:=h1.det h2;exact List.append_cancel_right this
set_option maxRecDepth 100000
set_option maxHeartbeats 4000000
open Go Go.Tr
def tH(g:aX)(to x:Int):List Int:=rtN g to ((dst g to x).toNat+1) x
theorem Eu{g:aX}(hg:g.Ok){to x:Int}(hto:dF g.rs to=true)(hx:dF g.rs x=true)(hl:dst g to x<far):LR g to x (tH g to x):=ahV hg hto _ hx hl (by omega)
theorem LR.step{g:aX}{to x:Int}{ws:List Int}(h:LR g to x ws)(hn:x≠to):∃y l us,ws=y::us∧steps g (dist g to) x=y::l∧LR g to y us:=by
 cases h with
 | nil=>exact absurd rfl hn
 | cons _ h2 h3=>exact⟨_,_,_,rfl,h2,h3⟩
theorem LR.len{g:aX}(hg:g.Ok){to x:Int}{ws:List Int}(h:LR g to x ws):(ws.length:Int)≤dst g to x:=by
 induction h with
 | nil=>have:=pK hg to to;simpa using this.1
 | @cons x y l ws h1 h2 h3 ih=>
   have hy:y∈steps g (dist g to) x:=by rw[h2];simp
   have:=o7 hg hy;simp only[aH];omega
theorem Jy{g:aX}(hg:g.Ok){to x:Int}(hto:dF g.rs to=true)(hx:dF g.rs x=true)(h:dst g to x<far):dst g to x≤24000:=by obtain⟨k,hk⟩:=uN hg hto hx h;obtain⟨j,w,h1,h2,h3⟩:=hk.short hg hto;have:=(wH hg hto h3).1;have:=h3.le hg;have:=hg.nr;omega
theorem ajX(g:aX)(h0:jo g=0)(f to:Int)(hf:dF g.rs f=true)(hto:dF g.rs to=true)(hl:dst g to f<far):Contract Tryz.prog 39 [eU g,.d (.int .i64 f),.d (.int .i64 to)] [] (.d (ints (tH g to f))) [] []:=by
 have hg:=dV h0;have hs:=hg.sm;have hrd:Contract Tryz.prog 95 [eU g] [] (.agg [.d (ouM g),.d (Tf g)]) [] []:=ahJ g (by have:=hg.nr;omega) (by have:=hg.nl;omega) (akY hg) (fun x hx=>by
  obtain⟨h1,h2⟩:=hg.ends' hx;exact⟨jQ.1 h1,jQ.1 h2⟩) (fun x hx=>by have:=hg.lab hx;omega) (fun v=>Vu hg v)
 have hds:=KF g hg to;have hnx:∀x,dF g.rs x=true→Contract Tryz.prog 97 [grT g,.d (QF (DM g to)),.d (.int .i64 x)] [] (.d (ints (steps g (dist g to) x))) [] []:=fun x hx=>by rw[←TI hg hto (afJ hg hto) hx];exact acp g hg to x
 simp only[grT]at hnx;simp only[eU]at hrd;generalize QF (DM g to)=L at hds hnx;generalize Tf g=I at hds hnx hrd;generalize ouM g=O at hnx hrd;have hlr:=Eu hg hto hf hl;generalize tH g to f=W at hlr⊢;by_cases hft:f=to
 ·subst hft;cases hlr with
  | cons h _ _=>exact absurd rfl h
  | nil=>
    refine ay Tryz.func39 rfl (fun E0=>?_);refine iC.sound (g:=.mk) (ow:=[]) (kp:=(kb 0x40020080fcf)) ?_;rw[Tryz.ntmps39];simp -dsimp[eU];refine aI.of (I5 g hs) [] 0 ?_;simp -dsimp[eU,h0];and_intros;all_goals try first|rfl|omega|exact⟨by kernel_rfl⟩
    refine Fin.view 6 ?_;simp -dsimp;refine Fin.of ?_;simp[ints]
 ·refine ay Tryz.func39 rfl (fun E0=>?_);refine iC.sound (g:=.mk) (ow:=[]) (kp:=(kb 0x40020080fcf)) ?_;rw[Tryz.ntmps39];simp -dsimp[eU];refine aI.of (I5 g hs) [] 0 ?_;simp -dsimp[eU,h0,hft];and_intros;all_goals try first|rfl|omega|exact⟨by kernel_rfl⟩
  refine aI.of hrd [] 0 ?_;simp -dsimp[eU,h0,hft];refine aI.of hds [] 0 ?_;simp -dsimp[eU,h0,hft];have hWl:=hlr.len hg;have hdl:=Jy hg hto hf hl;refine dD.of [] (kb 0x40020080fcf) (ι:={z:List Int×Int×List Int // W=z.1++z.2.2∧LR g to z.2.1 z.2.2∧dF g.rs z.2.1=true∧dst g to z.2.1<far})
   (fun z=>[(.s 0,It.v (.agg [TV.d (.sl (rts g.rs)),TV.d (.sl (nS g.ls))])),(.s 1,It.v (.d (.int .i64 f))),(.s 2,It.v (.d (.int .i64 to))),
    (.o 3,It.box [TV.d (.sl (rts g.rs)),TV.d (.sl (nS g.ls))]),(.s 3,It.v (.ptr (.o 3) 0)),(.s 6,It.v (.c (Value.slice none 0 0))),
    (.o 7,It.box [TV.d O,TV.d I]),(.s 7,It.v (.ptr (.o 7) 0)),(.s 8,It.v (.d L)),
    (.s 9,It.v (.aW 9 z.1.1.length)),(.o 9,It.row 3 1 (dd (z.1.1.map fun x=>[D.int .i64 x])) false),(.s 10,It.v (.d (.int .i64 z.1.2.1)))])
   (fun z=>z.1.2.2.length) ⟨([],f,W),by simp,hlr,hf,hl⟩ ?_ ?_
  ·exact GS.own' (k:=9) 3 1 (by simp) (by simp) (by simp)
  ·rintro⟨⟨us,x,vs⟩,j1,j2,j3,j4⟩;simp only at j1 j2 j3 j4;have hll:us.length+vs.length≤24000:=by
    have:=congrArg List.length j1;rw[aU]at this
    omega
   cases j2 with
   | nil=>simp -dsimp;refine Fin.view 6 ?_;simp -dsimp;refine Fin.of ?_;simp[j1,ints]
   | @cons _ y l ws k1 k2 k3=>
     have hy:y∈steps g (dist g to) x:=by rw[k2];simp
     obtain⟨_,_,k4,_⟩:=(mQ hg).1 hy;have hn:=hnx x j3;rw[k2]at hn
     simp only[aH]at hll;simp -dsimp[k1];refine aI.of hn [] 0 ?_;have hne :¬(l.length:Int)+1=0:=by omega
     have hw:((us.length:Int)+1-1).toNat=us.length:=by omega
     have w1:IntKind.i64.wrap (us.length:Int)=(us.length:Int):=wrap_i64 (by omega) (by omega);have hrow:(dd (us.map fun x=>[D.int .i64 x])++[[TV.d (.int .i64 y)]])[us.length]? = some [TV.d (.int .i64 y)]:=by rw[b_ (by simp[dd])];simp[dd]
     simp -dsimp[ints,hne,w1,hrow];and_intros;all_goals try first|rfl|omega|exact⟨by kernel_rfl⟩
     exact⟨⟨(us++[y],y,ws),by simp[j1],k3,qU hy,k4⟩,GS.to (by simp),by simp⟩
end Go.Proofs

namespace Go.Proofs
def sN:Int→List Int→List (Int×Int)
 | _,[]=>[]
 | x,y::ws=>(x,y)::sN y ws
theorem FH:∀{x:Int} {ws:List Int} {h:Int×Int},h∈sN x ws→∃us vs,ws=us++h.2::vs∧h.1=us.getLastD x
 | _,[],_,e=>by simp[sN]at e
 | x,y::ws,h,e=>by
   rcases aF.1 e with rfl|e
   ·exact⟨[],ws,rfl,rfl⟩
   ·obtain⟨us,vs,e1,e2⟩:=FH e;exact⟨y::us,vs,by rw[e1];rfl,by rw[e2,oO]⟩
theorem U9:∀{x:Int} {us vs:List Int} {y:Int},(us.getLastD x,y)∈sN x (us++y::vs)
 | x,[],vs,y=>by simp[sN]
 | x,u::us,vs,y=>by rw[oO,bg,sN];exact gY _ U9
theorem LR.nd{g:aX}(hg:g.Ok){r:Int}(hr:dF g.rs r=true){z:Int}{ws:List Int}(h:LR g r z ws)(hz:dF g.rs z=true)(hl:dst g r z<far):(z::ws).Nodup:=by
 induction h with
 | nil=>simp
 | @cons z y l ws h1 h2 h3 ih=>have hk:=LR.cons h1 h2 h3;have ho:=hk.on hg hr hz hl;have hy:=ho y (by simp);refine bG.2 ⟨fun hm=>?_,ih hy.1 (by omega)⟩;have:=ho z hm;omega
theorem LR.price{g:aX}(hg:g.Ok){r:Int}{z:Int}{ws:List Int}(h:LR g r z ws):∀x∈sN z ws,(price g.ls x.1 x.2).isSome:=by
 induction h with
 | nil=>intro x hx;simp[sN]at hx
 | @cons z y l ws h1 h2 h3 ih=>
   intro x hx;rcases aF.1 hx with rfl|hx
   ·obtain⟨_,_,_,c,hc,_⟩:=(mQ hg).1 (show y∈steps g (dist g r) z by rw[h2];simp);rw[hc];rfl
   ·exact ih x hx
theorem LR.last{g:aX}{r:Int}{z:Int}{ws:List Int}(h:LR g r z ws):ws.getLastD z=r:=by
 induction h with
 | nil=>rfl
 | cons h1 h2 h3 ih=>rw[oO];exact ih
theorem KU{x:Int}:∀{a b c d:List Int},(a++x::b).Nodup→a++x::b=c++x::d→a=c
 | [],b,[],d,_,_=>rfl
 | [],b,y::c,d,h,e=>by simp only[dJ,bg,dR]at e;obtain⟨rfl,rfl⟩:=e;simp at h
 | y::a,b,[],d,h,e=>by simp only[dJ,bg,dR]at e;obtain⟨rfl,rfl⟩:=e;simp at h
 | y::a,b,w::c,d,h,e=>by simp only[bg,dR]at e;obtain⟨rfl,e⟩:=e;simp only[bg,bG]at h;rw[KU h.2 e]
structure BH(g:aX)(root:Int)(rs:List Int)(R:Int→List Int)(T:List (Int×Int)):Prop where
 ok:g.Ok
 rt:dF g.rs root=true
 has:∀z∈rs,dF g.rs z=true
 near:∀z∈rs,dst g z root<far
 lr:∀z∈rs,LR g z root (R z)
 mem:∀h,h∈T↔∃z∈rs,h∈sN root (R z)
section
variable {g:aX} {root:Int} {rs:List Int} {R:Int→List Int} {T:List (Int×Int)}
theorem BH.pre(H:BH g root rs R T){h:Int×Int}(hm:h∈T):∃us,LR g h.2 root (us++[h.2])∧h.1=us.getLastD root∧dF g.rs h.2=true∧h.2≠root:=by
 obtain⟨z,hz,hh⟩:=(H.mem h).1 hm;obtain⟨us,vs,e1,e2⟩:=FH hh;have hx:h.2∈R z:=by rw[e1];simp
 have hnd:=(H.lr z hz).nd H.ok (H.has z hz) H.rt (H.near z hz);have hn2:=(bG.1 hnd).2;obtain⟨us',vs',f1,f2,_⟩:=(H.lr z hz).pre H.ok (H.has z hz) H.rt (H.near z hz) h.2 hx;rw[e1]at hn2 f1
 obtain rfl:=KU hn2 f1;refine⟨us,f2,e2,((H.lr z hz).on H.ok (H.has z hz) H.rt (H.near z hz) h.2 hx).1,fun e=>?_⟩;rw[e]at hx
 exact(bG.1 hnd).1 hx
theorem BH.one(H:BH g root rs R T):∀u v w,(v,u)∈T→(w,u)∈T→v=w:=fun u v w h1 h2=>by obtain⟨us,a1,a2,_⟩:=H.pre h1;obtain⟨vs,b1,b2,_⟩:=H.pre h2;obtain rfl:=ad6 a1 b1;simp only at a2 b2;rw[a2,b2]
theorem BH.no(H:BH g root rs R T)(v:Int):(v,root)∉T:=fun h=>by obtain⟨_,_,_,_,e⟩:=H.pre h;exact e rfl
theorem BH.price(H:BH g root rs R T):∀h∈T,(price g.ls h.1 h.2).isSome:=fun h hm=>by obtain⟨z,hz,hh⟩:=(H.mem h).1 hm;exact(H.lr z hz).price H.ok h hh
theorem BH.leaf(H:BH g root rs R T):∀h∈T,h.2∈rs∨∃w,(h.2,w)∈T:=fun h hm=>by
 obtain⟨z,hz,hh⟩:=(H.mem h).1 hm;obtain⟨us,vs,e1,e2⟩:=FH hh;cases vs with
 | nil=>
   have:=(H.lr z hz).last;rw[e1]at this
   simp only[nU,List.getLast?_append,List.getLast?_singleton,Option.some_or,bZ]at this;exact .inl (this▸hz)
 | cons w vs=>
   refine .inr ⟨w,(H.mem _).2 ⟨z,hz,?_⟩⟩;have:=U9 (x:=root) (us:=us++[h.2]) (vs:=vs) (y:=w);rw[show(us++[h.2]).getLastD root=h.2 by simp[nU]]at this
   rw[e1];simpa using this
theorem Z7{K:List Int}{T:List (Int×Int)}(hK:∀h∈T,h.1∈K→h.2∈K):∀{x:Int} {ws:List Int},x∈K→(∀h∈sN x ws,h∈T)→∀h∈sN x ws,h.1∈K∧h.2∈K
 | _,[],_,_,_,hm=>by simp[sN]at hm
 | x,y::ws,hx,hs,h,hm=>by
   have hy:y∈K:=hK (x,y) (hs _ (by simp[sN])) hx;rcases aF.1 hm with rfl|hm
   ·exact⟨hx,hy⟩
   ·exact Z7 hK hy (fun h hh=>hs h (by simp[sN,hh])) h hm
theorem BH.kn(H:BH g root rs R T):∀h∈T,h.1∈Vz T (T.length+2) [root]:=fun h hm=>by have hc:=acE (T:=T) (B:=root::T.map (·.2)) (fun h hh=>by simp;exact .inr ⟨h.1,hh⟩) (T.length+2) (ks:=[root]) (by simp) (by simp) (by simp;omega);obtain⟨z,hz,hh⟩:=(H.mem h).1 hm;exact(Z7 hc.2 (hc.1 root (by simp)) (fun h hh=>(H.mem h).2 ⟨z,hz,hh⟩) h hh).1
theorem TG{α:Type}:∀{l:List (α×Int)},l.Nodup→(∀a∈l,∀b∈l,a.2=b.2→a=b)→(l.map (·.2)).Nodup
 | [],_,_=>by simp
 | x::l,hn,h=>by rw[aC,bG];refine⟨fun hm=>?_,TG (bG.1 hn).2 fun a ha b hb=>h a (by simp[ha]) b (by simp[hb])⟩;obtain⟨y,hy,e⟩:=ak.1 hm;have:=h y (by simp[hy]) x (by simp) e;exact(bG.1 hn).1 (this▸hy)
theorem BH.nds(H:BH g root rs R T)(hn:T.Nodup):(root::T.map (·.2)).Nodup:=by
 refine bG.2 ⟨fun hm=>?_,TG hn fun a ha b hb e=>?_⟩
 ·obtain⟨y,hy,e⟩:=ak.1 hm;exact H.no y.1 (by rw[←e];exact hy)
 ·obtain⟨a1,a2⟩:=a;obtain⟨b1,b2⟩:=b;simp only at e;subst e;rw[H.one a2 a1 b1 ha hb]
theorem BH.on(H:BH g root rs R T):∀z∈rs,z=root∨∃v,(v,z)∈T:=fun z hz=>by
 have h:=H.lr z hz;have hl:=h.last;rcases List.eq_nil_or_concat (R z)with e|⟨us,y,e⟩
 ·rw[e]at hl;exact .inl hl.symm
 ·rw[e]at hl
  have e2:y=z:=by simpa[nU]using hl
  subst e2;refine .inr ⟨us.getLastD root,(H.mem _).2 ⟨y,hz,?_⟩⟩;rw[e];simpa using U9 (x:=root) (us:=us) (vs:=[]) (y:=y)
end
end Go.Proofs
