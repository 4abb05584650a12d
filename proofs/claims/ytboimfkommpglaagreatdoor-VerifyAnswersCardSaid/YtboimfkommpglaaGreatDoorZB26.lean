/-
  What functions of the program compute, stated as contracts over plain data; the conditions of each stand in its own statement.
-/
import Derived.Test.YtboimfkommpglaaGreatDoorZB25
import Derived.Test.YtboimfkommpglaaGreatDoorZB17
set_option linter.unusedSimpArgs false
set_option linter.unusedVariables false
namespace Go.Proofs
open Go Go.Tr
def YI(g:bV):D:=.mp (g.rs.map fun x=>[x.id]) (g.rs.map fun x=>.sl (Dy (FN g.ls x.id)))
def ouM(g:bV):D:=.mp (g.rs.map fun x=>[x.id]) (g.rs.map fun x=>.sl (Dy (Bv g.ls x.id)))
def grT(g:bV):TV:=.agg [.d (ouM g),.d (YI g)]
def V8(l:IM):D:=.mp (l.map fun x=>[x.1]) (l.map fun x=>.int .i64 x.2)
def DM(g:bV)(to:Int):IM:=if fM g.rs to then(g.rs.filter fun r=>decide (dst g to r.id<far)).map fun r=>(r.id,dst g to r.id)else []
theorem X6(F:Int→D)(x:Int):∀rs:List Rt,mJ (wP (rs.map fun r=>[r.id]) (rs.map fun r=>F r.id)) [x]=if fM rs x then some (.d (F x))else none
 | []=>rfl
 | r::rs=>by
   have ih:=X6 F x rs;unfold wP at ih;simp only[wP,aH,List.zip_cons_cons,mJ,eH,and_true,fM,List.any_cons,gJ,decide_eq_true_eq];by_cases h:x=r.id
   ·simp[*]
   ·grind[fM]
theorem adp(F:Int→D)(rs:List Rt):zh 1 (wP (rs.map fun r=>[r.id]) (rs.map fun r=>F r.id)):=fun y hy=>by
 simp only[wP,ay]at hy
 grind
theorem iY(es:IM):zh 1 (im es):=fun y hy=>by obtain⟨x,hx,rfl⟩:=ay.1 hy;rfl
theorem Td(es:IM):(im es).length=es.length:=by simp[im]
theorem ade(es:IM):(im es).map (·.1)=es.map fun x=>[x.1]:=by simp[im]
@[simp]theorem aqQ{po:Nat→Prop}{es:IM}{c:Nat}{pd:Option (List Int)}{s:Option oO}:It.only po (It.jA (im es) c pd s):=by intro x hx;obtain⟨y,_,rfl⟩:=ay.1 hx;exact trivial
theorem Ro{g:bV}{to:Int}(hto:fM g.rs to=true){r c:Int}:(r,c)∈DM g to↔fM g.rs r=true∧dst g to r<far∧c=dst g to r:=by
 unfold DM;rw[if_pos hto,ay];constructor
 ·rintro⟨x,hx,e⟩;obtain⟨h1,h2⟩:=bG.1 hx;obtain⟨rfl,rfl⟩:=Prod.mk.inj e;exact⟨nI.2 (ay.2 ⟨x,h1,rfl⟩),of_decide_eq_true h2,rfl⟩
 ·rintro⟨h1,h2,rfl⟩;obtain⟨x,hx,rfl⟩:=ay.1 (nI.1 h1)
  grind
theorem anS{g:bV}(hg:g.Ok):(g.rs.map Rt.id).Nodup:=by rw[dI,dA];exact hg.rpw.imp fun {a b} h e=>by omega
theorem ags{g:bV}(hg:g.Ok)(to:Int):((DM g to).map (·.1)).Nodup:=by
 unfold DM;split
 ·rw[bQ,dI,dA];exact(hg.rpw.filter _).imp fun {a b} h e=>by simp_all
 simp
theorem QD{l:IM}(h:(l.map (·.1)).Nodup):l.Nodup:=List.Pairwise.of_map (R:=(· ≠·)) (S:=(· ≠·)) (·.1) (fun a b h e=>h (by rw[e])) h
theorem acW{g:bV}(hg:g.Ok){to:Int}{out opn:IM}(h:Dj g to out opn)(he:opn = []∨∀r,fM g.rs r=true→r∈out.map (·.1)):out.Perm (DM g to):=by
 refine(kV (QD h.n1) (QD (ags hg to))).2 fun x=>?_
 rw[Ro h.acC,←h.done hg he];exact⟨fun hx=>Jk h.n1 hx,Ov⟩
theorem akF{g:bV}(hg:g.Ok){to:Int}(hto:fM g.rs to=true):amm g to (DM g to):=fun r c=>by grind[Ro,Ov,Jk,ags]
theorem LZ:∀{a b:List Int},a.Nodup→(∀x∈a,x∈b)→a.length≤b.length
 | [],_,_,_=>og _
 | x::a,b,nd,h=>by
   have nd':=dG.1 nd;have:=LZ (a:=a) (b:=b.erase x) nd'.2 fun y hy=>(List.mem_erase_of_ne fun e=>nd'.1 (by simp_all)).2 (h y (by simp[*]))
   grind
theorem agO{a b:List Int}(nd:a.Nodup)(h:∀x∈a,x∈b)(hl:b.length≤a.length):∀x∈b,x∈a:=by
 intro x hx;refine Classical.byContradiction fun hn=>?_
 have:=LZ (a:=x::a) (b:=b) (dG.2 ⟨hn,nd⟩) fun y hy=>by grind
 grind
theorem Dj.len{g:bV}{to:Int}{out opn:IM}(h:Dj g to out opn):out.length≤g.rs.length:=by
 have:=LZ h.n1 (b:=g.rs.map Rt.id) fun x hx=>by obtain⟨y,hy,rfl⟩:=ay.1 hx;exact nI.1 (h.o1 y hy).1
 simp_all
theorem DjM.len{g:bV}{to:Int}{b:Int×Int}{dn:List Int}{out opn:IM}(h:DjM g to b dn out opn):out.length≤g.rs.length:=by
 have:=LZ h.n1 (b:=g.rs.map Rt.id) fun x hx=>by obtain⟨y,hy,rfl⟩:=ay.1 hx;exact nI.1 (h.o1 y hy).1
 simp_all
theorem DjM.all{g:bV}{to:Int}{b:Int×Int}{dn:List Int}{out opn:IM}(h:DjM g to b dn out opn)(hl:out.length=g.rs.length)(r:Int)(hr:fM g.rs r=true):r∈out.map (·.1):=by refine agO h.n1 (b:=g.rs.map Rt.id) (fun x hx=>?_) (by simp[*]) r (nI.1 hr);obtain⟨y,hy,rfl⟩:=ay.1 hx;exact nI.1 (h.o1 y hy).1
theorem DjM.full{g:bV}{to:Int}{b:Int×Int}{dn:List Int}{out opn:IM}(h:DjM g to b dn out opn)(hl:out.length=g.rs.length)(hg:g.Ok):Dj g to out opn:=
 ⟨h.o1,h.o2,fun a ha y q hq=>.inl (h.all hl y (vw hg hq).1),h.o4,h.n1,h.n2⟩
theorem adC:∀{dn acc:IM},(dn.map fun x=>[x.1]).Perm (acc.map fun x=>[x.1])→(∀x∈dn,x∈acc)→(acc.map (·.1)).Nodup→dn.Perm acc:=by
 intro dn acc h hs nd;have h1:(dn.map (·.1)).Perm (acc.map (·.1)):=by have:=h.map (fun k:List Int=>k.headD 0);simpa[bQ,Function.comp_def]using this
 have nd1:(dn.map (·.1)).Nodup:=by grind
 refine(kV (QD nd1) (QD nd)).2 fun x=>⟨hs x,fun hx=>?_⟩
 obtain⟨y,hy,e⟩:=ay.1 (h1.mem_iff.2 (gB (f:=(·.1)) hx));have h2:=Jk nd (hs y hy);have h3:=Jk nd (show(x.1,x.2)∈acc from hx)
 grind
set_option maxRecDepth 100000
set_option maxHeartbeats 16000000
theorem pU:zh 1 []:=fun y hy=>by simp at hy
theorem akQ{g:bV}(hg:g.Ok){to:Int}{out opn:IM}(h:Dj g to out opn){x:Int×Int}(hx:x∈opn):1≤x.1:=(hg.id (h.o2 x hx).1).1
theorem ahh{opn:IM}{k:List Int}(h:k∈opn.map fun x=>[x.1]):∃x∈opn,k = [x.1]:=by obtain⟨x,hx,rfl⟩:=ay.1 h;exact⟨x,hx,rfl⟩
def Bst(dn:IM)(best:Int):Prop:=(dn = []∧best=0)∨∃b,Least dn b∧b.1=best
theorem YZ(g:bV)(hg:g.Ok)(to:Int):Contract Tryz.prog 160 [.d (YI g),.d (.int .i64 to)] [] (.d (V8 (DM g to))) [] []:=by
 have hget:∀x,mJ (wP (g.rs.map fun r=>[r.id]) (g.rs.map fun r=>D.sl (Dy (FN g.ls r.id)))) [x]=if fM g.rs x then some (.d (.sl (Dy (FN g.ls x))))else none:=fun x=>X6 (fun x=>.sl (Dy (FN g.ls x))) x g.rs
 have hkl:zh 1 (wP (g.rs.map fun r=>[r.id]) (g.rs.map fun r=>D.sl (Dy (FN g.ls r.id)))):=adp (fun x=>.sl (Dy (FN g.ls x))) g.rs;refine aC Tryz.func160 rfl (fun E0=>?_)
 refine iK.sound (g:=.mk) (ow:=[3000019,3000029]) (kp:=(kb 0x2000100790004000005408075fb3)) ?_;rw[Tryz.ntmps160];by_cases hto:fM g.rs to=true
 ·simp -dsimp[YI,hget,hkl,hto];and_intros;all_goals try first|exact pU|omega|exact⟨by kernel_rfl⟩|rfl
  refine bY.of [3000019,3000029] (kb 0x2000100790004000005408075fb3) (ι:={z:IM×IM // Dj g to z.1 z.2})
   (fun z=>[(.s 0,It.v (.d (YI g))),(.s 5,It.v (.mref 19)),(.o 19,It.jA (im z.1.1) 0 none none),(.s 8,It.v (.mref 29)),(.o 29,It.jA (im z.1.2) 0 none none)])
   (fun z=>g.rs.length+1-z.1.1.length) ⟨([],[(to,0)]),Dj.init hto⟩ ?_ ?_
  ·exact GS.to (by simp[YI,im,It.only,TV.only])
  ·rintro⟨⟨out,opn⟩,hD⟩;simp only at hD;have kO:=iY out;have kP:=iY opn;have lo:=Td opn
   have hfin:∀(t:List (Pl×It)) (A:jL) (fn:Func) (o:IM),o.Perm (DM g to)→Fin Tryz.prog A fn (.d (V8 (DM g to))) [] [] (Tr.look [(.s 4,It.v (.mref 19)),(.o 19,It.jA (im (DM g to)) 0 none none)])→Fin Tryz.prog A fn (.d (V8 (DM g to))) [] [] (Tr.look [(.s 4,It.v (.mref 19)),(.o 19,It.jA (im o) 0 none none)]):=fun t A fn o hp h=>Fin.ghost h (GS.ahY 19 (c:=0) (pd:=none) (s:=none) (es:=im o) (es':=im (DM g to)) (by simp) (hp.map _) (by simp))
   by_cases ho:opn = []
   ·subst ho;simp -dsimp[Td];refine Fin.ghost (hfin [] _ _ out (acW hg hD (.inl rfl)) ?_) (GS.to (by simp));refine Fin.yI 19 ((DM g to).map fun x=>([x.1],D.int .i64 x.2)) (c:=0) (pd:=none) (s:=none) (by simp[im]) ?_;simp -dsimp;refine Fin.of ?_;simp[Qa,V8]
   ·have hz:0<opn.length:=List.length_pos_iff.2 ho;simp -dsimp[Td,hz];refine Fe.range ?_;simp -dsimp[Kz,O0,ade];intro sn
    refine bY.of [3000019,3000029] (kb 0x2000100790004000005408075fb3) (ι:={z:(IM×Int)×List (List Int)×Option (List Int) // ((z.1.1.map fun x=>[x.1])++z.2.1).Perm (opn.map fun x=>[x.1])∧(∀x∈z.1.1,x∈opn)∧Bst z.1.1 z.1.2})
     (fun z=>[(.s 0,It.v (.d (YI g))),(.s 5,It.v (.mref 19)),(.o 19,It.jA (im out) 0 none none),(.s 8,It.v (.mref 29)),(.o 29,It.jA (im opn) 0 none (some sn)),(.s 36,It.v (.ptr (.o 36) 0)),(.o 36,It.Fb 29 sn z.1.2.1 z.1.2.2),(.s 9,It.v (.d (.int .i64 z.1.1.2)))])
     (fun z=>z.1.2.1.length) ⟨(([],0),opn.map (fun x=>[x.1]),none),by simp,by simp,.inl ⟨rfl,rfl⟩⟩ ?_ ?_
    ·exact GS.to (by simp[YI])
    ·rintro⟨⟨⟨dn,best⟩,left,cur⟩,j1,j2,j3⟩;simp only at j1 j2 j3;simp -dsimp;refine Fe.next ?_;simp -dsimp[Wq];refine⟨fun hl0=>?_,fun x hx=>?_⟩
     ·subst hl0;rw[aZ]at j1
      have hp:=adC j1 j2 hD.n2;rcases j3 with⟨e,_⟩|⟨b,hb,rfl⟩
      ·subst e;have:=hp.length_eq;simp at this;omega
      ·have hbo:=hb.perm hp;have hgb:gI opn b.1=some b.2:=Jk hD.n2 hbo.mem;have hmin:∀x∈opn,b.2≤x.2:=fun x hx=>by have:=hbo.min x hx;omega
       have hM:=hD.move hg hbo.mem hmin;have hpk:=hD.pick hg hbo.mem hmin;have hb0:=(tN hg to b.1).1;have hbr:=(hD.o2 b hbo.mem).1;have hnew:=alv (hD.o2 b hbo.mem).2.1 b.2;have hlen:=hM.len;unfold far at hpk;by_cases hfull:(pI out b.1 b.2).length=g.rs.length
       ·simp -dsimp[YI,jG,hgb,adk,zQ,Td,iY,hfull];and_intros;all_goals try first|exact pU|omega|exact⟨by kernel_rfl⟩|rfl
        refine Fin.ghost (hfin [] _ _ _ (acW hg (hM.full hfull hg) (.inr fun r hr=>hM.all hfull r hr)) ?_) (GS.to (by simp));refine Fin.yI 19 ((DM g to).map fun x=>([x.1],D.int .i64 x.2)) (c:=0) (pd:=none) (s:=none) (by simp[im]) ?_;simp -dsimp;refine Fin.of ?_;simp[Qa,V8]
       ·have hfz :¬((pI out b.1 b.2).length:Int)=g.rs.length:=by omega
        obtain⟨I,hI⟩:∃I,I=FN g.ls b.1:=⟨_,rfl⟩
        have hpr:∀s∈I,price g.ls s.1 b.1=some s.2:=fun s hs=>(V9 hg (y:=s.1) (q:=s.2)).1 (by rw[←hI];exact hs)
        have hIl:=XZ b.1 g.ls;have hls:=hg.nl;rw[←hI]at hIl
        simp -dsimp[YI,jG,hgb,adk,zQ,Td,iY,hfz,hget,hkl,hbr,←hI];and_intros;all_goals try first|exact pU|omega|exact⟨by kernel_rfl⟩|rfl
        generalize pI out b.1 b.2=O at hM hnew hlen hfull;refine bY.of [3000019,3000029] (kb 0x2000100790004000005408075fb3) (ι:={z:IM×Nat // z.2≤I.length∧DjM g to b ((I.take z.2).map (·.1)) O z.1})
         (fun z=>[(.s 0,It.v (.d (YI g))),(.s 5,It.v (.mref 19)),(.o 19,It.jA (im O) 0 none none),(.s 8,It.v (.mref 29)),(.o 29,It.jA (im z.1.1) 0 none none),(.s 12,It.v (.d (.int .i64 b.2))),
          (.s 79,It.v (.d (.sl (Dy I)))),(.s 80,It.v (.d (.int .i64 I.length))),(.s 81,It.v (.d (.int .i64 z.1.2)))])
         (fun z=>I.length-z.1.2) ⟨(rI opn b.1,0),by omega,by simpa using hM⟩ ?_ ?_
        ·exact GS.to (by simp[YI])
        ·rintro⟨⟨op,i⟩,k1,k2⟩;simp only at k1 k2;by_cases hi:i<I.length
         ·have hiz:(i:Int)<I.length:=by omega
          have hs:I[i]? = some I[i]:=ah hi;have hp1:=hpr I[i] (aB hi);have ht:(I.take (i+1)).map (·.1)=(I.take i).map (·.1)++[I[i].1]:=by rw[aO,hs,fH];rfl
          generalize I[i]=s at hs hp1 ht;have hq:=xA hg hp1;have hs':(Dy I)[i]? = some [.int .i64 s.1,.int .i64 s.2]:=by simp[Dy,hs]
          have w1:IntKind.i64.wrap ((i:Int)+1)=(i:Int)+1:=wrap_i64 (by omega) (by omega);have w2:IntKind.i64.wrap (b.2+s.2)=b.2+s.2:=wrap_i64 (by omega) (by omega);have hst:=k2.step hg hp1;rw[←ht]at hst
          unfold alC at hst;cases ho1:gI O s.1 with
          | some c0=>
            rw[ho1]at hst
            simp -dsimp[hiz,hs',jG,zQ,iY,ho1,w1,w2];and_intros;all_goals try first|exact pU|omega|exact⟨by kernel_rfl⟩|rfl
            exact⟨⟨(op,i+1),by omega,hst⟩,GS.to (by simp),by simp;omega⟩
          | none=>
            rw[ho1]at hst
            simp only at hst;cases ho2:gI op s.1 with
            | none=>
              rw[ho2]at hst
              simp -dsimp[hiz,hs',jG,zQ,iY,ho1,ho2,w1,w2];and_intros;all_goals try first|exact pU|omega|exact⟨by kernel_rfl⟩|rfl
              exact⟨⟨(_,i+1),by omega,hst⟩,GS.to (by simp),by simp;omega⟩
            | some c=>
              rw[ho2]at hst
              simp only at hst;by_cases hc:b.2+s.2<c
              ·rw[if_pos hc]at hst
               simp -dsimp[hiz,hs',jG,zQ,iY,ho1,ho2,w1,w2,hc];and_intros;all_goals try first|exact pU|omega|exact⟨by kernel_rfl⟩|rfl
               exact⟨⟨(_,i+1),by omega,hst⟩,GS.to (by simp),by simp;omega⟩
              ·rw[if_neg hc]at hst
               simp -dsimp[hiz,hs',jG,zQ,iY,ho1,ho2,w1,w2,hc];and_intros;all_goals try first|exact pU|omega|exact⟨by kernel_rfl⟩|rfl
               exact⟨⟨(op,i+1),by omega,hst⟩,GS.to (by simp),by simp;omega⟩
         ·have hiz :¬(i:Int)<I.length:=by omega
          obtain rfl:i=I.length:=by omega
          rw[bP]at k2
          have hdn:=k2.fin (fun y q hy=>ay.2 ⟨(y,q),by rw[hI];exact(V9 hg).2 hy,rfl⟩);simp -dsimp[hiz];and_intros;all_goals try first|exact pU|omega|exact⟨by kernel_rfl⟩|rfl
          exact⟨⟨(O,op),hdn⟩,GS.to (by simp),by simp only;omega⟩
     ·have hxm:x∈opn.map fun x=>[x.1]:=j1.mem_iff.1 (aJ.2 (.inr hx))
      obtain⟨y,hy,rfl⟩:=ahh hxm;have hgy:gI opn y.1=some y.2:=Jk hD.n2 (show(y.1,y.2)∈opn from hy);have jp:(((dn++[y]).map fun x=>[x.1])++left.erase [y.1]).Perm (opn.map fun x=>[x.1]):=by rw[fH,eU];exact(((List.perm_cons_erase hx).symm).append_left _).trans j1
      have jm:∀x∈dn++[y],x∈opn:=fun x hx=>by
       rcases aJ.1 hx with h|h
       ·exact j2 x h
       ·rw[bn.1 h];exact hy
      have hlt:(left.erase [y.1]).length<left.length:=by rw[List.length_erase_of_mem hx];have:=jr hx;omega
      rcases j3 with⟨rfl,rfl⟩|⟨b,hb,rfl⟩
      ·simp -dsimp[jG,hgy,iY];and_intros;all_goals try first|exact pU|omega|exact⟨by kernel_rfl⟩|rfl
       exact⟨⟨(([]++[y],y.1),left.erase [y.1],some [y.1]),jp,jm,.inr ⟨y,Least.one y,rfl⟩⟩,GS.to (by simp),hlt⟩
      ·have hbm:=j2 b hb.mem;have hb1:=akQ hg hD hbm;have hbz :¬b.1=0:=by omega
       have hgb:gI opn b.1=some b.2:=Jk hD.n2 hbm;have hsn:=hb.snoc (x:=y);by_cases c1:y.2<b.2
       ·rw[if_pos (.inl c1)]at hsn
        simp -dsimp[jG,hgy,hgb,iY,hbz,c1];and_intros;all_goals try first|exact pU|omega|exact⟨by kernel_rfl⟩|rfl
        exact⟨⟨((dn++[y],y.1),left.erase [y.1],some [y.1]),jp,jm,.inr ⟨y,hsn,rfl⟩⟩,GS.to (by simp),hlt⟩
       ·by_cases c2:y.2=b.2
        ·by_cases c3:y.1<b.1
         ·rw[if_pos (.inr ⟨c2,c3⟩)]at hsn
          simp -dsimp[jG,hgy,hgb,iY,hbz,c1,c2,c3];and_intros;all_goals try first|exact pU|omega|exact⟨by kernel_rfl⟩|rfl
          exact⟨⟨((dn++[y],y.1),left.erase [y.1],some [y.1]),jp,jm,.inr ⟨y,hsn,rfl⟩⟩,GS.to (by simp),hlt⟩
         ·rw[if_neg (by omega)]at hsn
          simp -dsimp[jG,hgy,hgb,iY,hbz,c1,c2,c3];and_intros;all_goals try first|exact pU|omega|exact⟨by kernel_rfl⟩|rfl
          exact⟨⟨((dn++[y],b.1),left.erase [y.1],some [y.1]),jp,jm,.inr ⟨b,hsn,rfl⟩⟩,GS.to (by simp),hlt⟩
        ·rw[if_neg (by omega)]at hsn
         simp -dsimp[jG,hgy,hgb,iY,hbz,c1,c2];and_intros;all_goals try first|exact pU|omega|exact⟨by kernel_rfl⟩|rfl
         exact⟨⟨((dn++[y],b.1),left.erase [y.1],some [y.1]),jp,jm,.inr ⟨b,hsn,rfl⟩⟩,GS.to (by simp),hlt⟩
 ·simp -dsimp[YI,hget,hkl,hto];refine Fin.yI 19 [] rfl ?_;simp -dsimp;refine Fin.of ?_;simp[Qa,V8,DM,hto]
theorem QE:∀l:IM,wP (l.map fun x=>[x.1]) (l.map fun x=>D.int .i64 x.2)=im l
 | []=>rfl
 | x::l=>by have ih:=QE l;unfold wP im at ih;simp only[wP,im,aH,List.zip_cons_cons,ih]
def nxF(costs:IM)(all:Int)(ls:IM):List Int:=(ls.filter fun s=>match gI costs s.1 with
  | some c=>decide (s.2+c=all)
  | none=>false).map (·.1)
theorem ahO(costs:IM)(all:Int)(ls:IM)(s:Int×Int):nxF costs all (ls++[s])=nxF costs all ls++(match gI costs s.1 with|some c=>if s.2+c=all then [s.1]else []|none=>[]):=by
 unfold nxF;rw[bJ,fH]
 congr 1
 cases h:gI costs s.1 with
 | none=>simp[List.filter,h]
 | some c=>by_cases e:s.2+c=all<;>simp[List.filter,h,e]
theorem aln(costs:IM)(all:Int)(ls:IM):(nxF costs all ls).length≤ls.length:=by unfold nxF;rw[aN];exact aQ _ _
theorem amy{g:bV}(hg:g.Ok){to x c:Int}(h:gI (DM g to) x=some c):fM g.rs x=true∧0≤c∧c<far:=by
 by_cases hto:fM g.rs to=true
 ·obtain⟨h1,h2,rfl⟩:=(Ro hto).1 (Ov h);exact⟨h1,(tN hg to x).1,h2⟩
 ·unfold DM at h;rw[if_neg hto]at h
  simp[gI]at h
theorem ajy(g:bV)(hg:g.Ok)(to x:Int):Contract Tryz.prog 161 [grT g,.d (V8 (DM g to)),.d (.int .i64 x)] [] (.d (ints (nxG (DM g to) (Bv g.ls x) x))) [] []:=by
 have hbd:=fun x c=>amy (g:=g) hg (to:=to) (x:=x) (c:=c)
 generalize DM g to=L at hbd⊢;have hget:∀k,mJ (wP (L.map fun x=>[x.1]) (L.map fun x=>D.int .i64 x.2)) [k]=(gI L k).map fun v=>TV.d (.int .i64 v):=fun k=>by rw[QE];exact jG L k
 have hkl:zh 1 (wP (L.map fun x=>[x.1]) (L.map fun x=>D.int .i64 x.2)):=by rw[QE];exact iY L
 have anj:∀x,mJ (wP (g.rs.map fun r=>[r.id]) (g.rs.map fun r=>D.sl (Dy (Bv g.ls r.id)))) [x]=if fM g.rs x then some (.d (.sl (Dy (Bv g.ls x))))else none:=fun x=>X6 (fun x=>.sl (Dy (Bv g.ls x))) x g.rs
 have asr:zh 1 (wP (g.rs.map fun r=>[r.id]) (g.rs.map fun r=>D.sl (Dy (Bv g.ls r.id)))):=adp (fun x=>.sl (Dy (Bv g.ls x))) g.rs;cases hc:gI L x with
 | none=>
   refine aC Tryz.func161 rfl (fun E0=>?_);refine iK.sound (g:=.mk) (ow:=[]) (kp:=(kb 0x40001e203bcf)) ?_;rw[Tryz.ntmps161];simp -dsimp[grT,V8,hget,hkl,hc];and_intros;all_goals try first|omega|exact⟨by kernel_rfl⟩|rfl
   refine Fin.view 6 ?_;simp -dsimp;refine Fin.of ?_;simp[nxG,hc,ints]
 | some all=>
   obtain⟨hx,b1,b2⟩:=hbd x all hc;have hle:=TT x g.ls;have hls:=hg.nl;obtain⟨O,hO⟩:∃O,O=Bv g.ls x:=⟨_,rfl⟩
   have hpr:∀s∈O,1≤s.2∧s.2≤1000:=fun s hs=>xA hg ((OM hg (y:=s.1) (q:=s.2)).1 (by rw[←hO];exact hs))
   have hnx:nxG L O x=nxF L all O:=by unfold nxG nxF;rw[hc];try rfl
   rw[←hO]at hle⊢
   rw[hnx];refine aC Tryz.func161 rfl (fun E0=>?_);refine iK.sound (g:=.mk) (ow:=[]) (kp:=(kb 0x40001e203bcf)) ?_;rw[Tryz.ntmps161];simp -dsimp[grT,V8,ouM,hget,hkl,hc,anj,asr,hx,←hO];and_intros;all_goals try first|omega|exact⟨by kernel_rfl⟩|rfl
   refine bY.of [] (kb 0x40001e203bcf) (ι:={i:Nat // i≤O.length})
    (fun z=>[(.s 1,It.v (.d (V8 L))),(.o 3,It.box [.d (ouM g),.d (YI g)]),(.s 3,It.v (.ptr (.o 3) 0)),(.s 6,It.v (.c (Value.slice none 0 0))),(.s 7,It.v (.bK 7 (nxF L all (O.take z.1)).length)),(.o 7,It.row 3 1 (dd ((nxF L all (O.take z.1)).map fun x=>[D.int .i64 x])) false),(.s 8,It.v (.d (.int .i64 all))),
     (.s 25,It.v (.d (.sl (Dy O)))),(.s 26,It.v (.d (.int .i64 O.length))),(.s 27,It.v (.d (.int .i64 z.1)))])
    (fun z=>O.length-z.1) ⟨0,by omega⟩ ?_ ?_
   ·exact GS.own' (k:=7) 3 1 (by simp) (by simp) (by simp[nxF,V8,ouM,YI])
   ·rintro⟨i,i1⟩;by_cases hi:i<O.length
    ·have hiz:(i:Int)<O.length:=by omega
     have hs:O[i]? = some O[i]:=ah hi;have hm:=hpr O[i] (aB hi);have ht:O.take (i+1)=O.take i++[O[i]]:=by rw[aO,ah hi];rfl
     generalize O[i]=s at hs hm ht;have hs':(Dy O)[i]? = some [.int .i64 s.1,.int .i64 s.2]:=by simp[Dy,hs]
     have hn:=ahO L all (O.take i) s;rw[←ht]at hn
     have hnl:=aln L all (O.take i);rw[bF]at hnl
     have w1:IntKind.i64.wrap ((i:Int)+1)=(i:Int)+1:=wrap_i64 (by omega) (by omega);cases hcs:gI L s.1 with
     | none=>
       rw[hcs]at hn
       simp -dsimp[hiz,hs',V8,hget,hkl,hcs,w1];and_intros;all_goals try first|omega|exact⟨by kernel_rfl⟩|rfl
       exact⟨⟨i+1,by omega⟩,GS.to (by simp[hn,V8]),by simp;omega⟩
     | some c=>
       obtain⟨_,c1,c2⟩:=hbd s.1 c hcs;unfold far at c2;rw[hcs]at hn
       simp only at hn;have w2:IntKind.i64.wrap (s.2+c)=s.2+c:=wrap_i64 (by omega) (by omega);by_cases he:s.2+c=all
       ·rw[if_pos he]at hn
        have w3:IntKind.i64.wrap all=all:=by rw[he]at w2;exact w2
        simp -dsimp[hiz,hs',V8,hget,hkl,hcs,w1,w2,he,w3];and_intros;all_goals try first|omega|exact⟨by kernel_rfl⟩|rfl
        exact⟨⟨i+1,by omega⟩,GS.to (by simp[hn,V8]),by simp;omega⟩
       ·rw[if_neg he]at hn
        simp -dsimp[hiz,hs',V8,hget,hkl,hcs,w1,w2,he];and_intros;all_goals try first|omega|exact⟨by kernel_rfl⟩|rfl
        exact⟨⟨i+1,by omega⟩,GS.to (by simp[hn,V8]),by simp;omega⟩
    ·have hiz :¬(i:Int)<O.length:=by omega
     simp -dsimp[hiz];refine Fin.view 6 ?_;simp -dsimp;refine Fin.of ?_;simp[aW (show O.length≤i by omega),ints,fE]
def rtT(x:Rt):TV:=.agg (x.cs.map .d)
def YJ(x:Lk):TV:=.agg (x.cs.map .d)
theorem abM(l:List Rt)(hl:l.length≤9223372036854775807)(f:FuncId)(q:Rt→Bool)(hf:∀x,x∈l→Contract Tryz.prog f [rtT x] [] (.d (.bool (q x))) [] [])(hok:dP Tryz.prog f=true):
  Contract Tryz.prog 222 [.d (.sl (l.map Rt.cs)),.clo f []] [] (.d (.int .i64 (JQ q l))) [] []:=by
 refine aC Tryz.func222 rfl (fun E0=>?_);refine iK.sound (g:=.mk) (ow:=[]) (kp:=(kb 0x103b3)) ?_;rw[Tryz.ntmps222];simp -dsimp;refine bY.of [] (kb 0x103b3) (ι:={i:Nat // i≤l.length∧∀a,a<i→∀x,l[a]? = some x→q x=false})
  (fun z=>[(.s 0,It.v (.d (.sl (l.map Rt.cs)))),(.s 1,It.v (.clo f [])),(.s 4,It.v (.d (.int .i64 0))),(.s 7,It.v (.d (.int .i64 l.length))),(.s 8,It.v (.d (.int .i64 z.1)))]) (fun z=>l.length-z.1) ⟨0,by omega,fun a h=>by omega⟩ ?_ ?_
 ·exact GS.to (by simp)
 ·rintro⟨i,i1,i2⟩;by_cases hi:i<l.length
  ·have hiz:(i:Int)<l.length:=by omega
   have hx:l[i]? = some l[i]:=ah hi;have hm:l[i]∈l:=aB hi;generalize l[i]=x at hx hm;simp -dsimp[hiz,hx,Rt.cs,wrap_i64 (n:=(i:Int)+1) (by omega) (by omega)];and_intros;all_goals try first|rfl|omega|exact⟨by kernel_rfl⟩
   refine aF.of (hf x hm) [] 0 ?_;rcases (au (q x)).symm with h|h
   ·simp -dsimp[h,hok,rtT,wrap_i64 (n:=(i:Int)+1) (by omega) (by omega)];and_intros;all_goals try first|rfl|omega|exact⟨by kernel_rfl⟩
    exact⟨⟨i+1,by omega,fun a ha y hy=>by
     by_cases e:a=i
     ·subst e;rw[hx]at hy;simp only[aj]at hy;subst hy;exact h
     ·exact i2 a (by omega) y hy⟩,GS.to (by simp),by simp;omega⟩
   ·simp -dsimp[h,hok,rtT];and_intros;all_goals try first|rfl|omega|exact⟨by kernel_rfl⟩
    refine Fin.of ?_;simp[FK hx h i2]
  ·simp -dsimp[hi];refine Fin.of ?_;simp;exact(FM fun a ha=>i2 a (by omega)).symm
theorem Rl(l:List Rt)(hl:l.length≤9223372036854775807)(f:FuncId)(q:Rt→Bool)(hf:∀x,x∈l→Contract Tryz.prog f [rtT x] [] (.d (.bool (q x))) [] [])(hok:dP Tryz.prog f=true):
  Contract Tryz.prog 147 [.d (.sl (l.map Rt.cs)),.clo f []] [] (.d (.bool (l.any q))) [] []:=by
 refine aC Tryz.func147 rfl (fun E0=>?_);refine iK.sound (g:=.mk) (ow:=[]) (kp:=(kb 0x13)) ?_;rw[Tryz.ntmps147];simp -dsimp;refine aF.of (abM l hl f q hf hok) [] 0 ?_;simp -dsimp;refine Fin.of ?_;simp[AZ]
theorem abK(l:List Lk)(hl:l.length≤9223372036854775807)(f:FuncId)(q:Lk→Bool)(hf:∀x,x∈l→Contract Tryz.prog f [YJ x] [] (.d (.bool (q x))) [] [])(hok:dP Tryz.prog f=true):
  Contract Tryz.prog 224 [.d (.sl (l.map Lk.cs)),.clo f []] [] (.d (.int .i64 (JQ q l))) [] []:=by
 refine aC Tryz.func224 rfl (fun E0=>?_);refine iK.sound (g:=.mk) (ow:=[]) (kp:=(kb 0x103b3)) ?_;rw[Tryz.ntmps224];simp -dsimp;refine bY.of [] (kb 0x103b3) (ι:={i:Nat // i≤l.length∧∀a,a<i→∀x,l[a]? = some x→q x=false})
  (fun z=>[(.s 0,It.v (.d (.sl (l.map Lk.cs)))),(.s 1,It.v (.clo f [])),(.s 4,It.v (.d (.int .i64 0))),(.s 7,It.v (.d (.int .i64 l.length))),(.s 8,It.v (.d (.int .i64 z.1)))]) (fun z=>l.length-z.1) ⟨0,by omega,fun a h=>by omega⟩ ?_ ?_
 ·exact GS.to (by simp)
 ·rintro⟨i,i1,i2⟩;by_cases hi:i<l.length
  ·have hiz:(i:Int)<l.length:=by omega
   have hx:l[i]? = some l[i]:=ah hi;have hm:l[i]∈l:=aB hi;generalize l[i]=x at hx hm;simp -dsimp[hiz,hx,Lk.cs,wrap_i64 (n:=(i:Int)+1) (by omega) (by omega)];and_intros;all_goals try first|rfl|omega|exact⟨by kernel_rfl⟩
   refine aF.of (hf x hm) [] 0 ?_;rcases (au (q x)).symm with h|h
   ·simp -dsimp[h,hok,YJ,wrap_i64 (n:=(i:Int)+1) (by omega) (by omega)];and_intros;all_goals try first|rfl|omega|exact⟨by kernel_rfl⟩
    exact⟨⟨i+1,by omega,fun a ha y hy=>by
     by_cases e:a=i
     ·subst e;rw[hx]at hy;simp only[aj]at hy;subst hy;exact h
     ·exact i2 a (by omega) y hy⟩,GS.to (by simp),by simp;omega⟩
   ·simp -dsimp[h,hok,YJ];and_intros;all_goals try first|rfl|omega|exact⟨by kernel_rfl⟩
    refine Fin.of ?_;simp[FK hx h i2]
  ·simp -dsimp[hi];refine Fin.of ?_;simp;exact(FM fun a ha=>i2 a (by omega)).symm
theorem GK(l:List Lk)(hl:l.length≤9223372036854775807)(f:FuncId)(q:Lk→Bool)(hf:∀x,x∈l→Contract Tryz.prog f [YJ x] [] (.d (.bool (q x))) [] [])(hok:dP Tryz.prog f=true):
  Contract Tryz.prog 153 [.d (.sl (l.map Lk.cs)),.clo f []] [] (.d (.bool (l.any q))) [] []:=by
 refine aC Tryz.func153 rfl (fun E0=>?_);refine iK.sound (g:=.mk) (ow:=[]) (kp:=(kb 0x13)) ?_;rw[Tryz.ntmps153];simp -dsimp;refine aF.of (abK l hl f q hf hok) [] 0 ?_;simp -dsimp;refine Fin.of ?_;simp[AZ]
theorem abL(l:List Lk)(hl:l.length≤9223372036854775807)(f:FuncId)(u:FuncId)(ds:List D)(q:Lk→Bool)(hf:∀x,x∈l→Contract Tryz.prog f [YJ x,.ptr (.x 0) 0] [.box [.clo u [.ptr (.x 1) 0]],.box (ds.map .d)] (.d (.bool (q x))) [.box [.clo u [.ptr (.x 1) 0]],.box (ds.map .d)] [])(hok:dP Tryz.prog f=true):
  Contract Tryz.prog 224 [.d (.sl (l.map Lk.cs)),.clo f [.ptr (.x 0) 0]] [.box [.clo u [.ptr (.x 1) 0]],.box (ds.map .d)] (.d (.int .i64 (JQ q l))) [.box [.clo u [.ptr (.x 1) 0]],.box (ds.map .d)] []:=by
 refine aC Tryz.func224 rfl (fun E0=>?_);refine iK.sound (g:=.mk) (ow:=[]) (kp:=(kb 0x103b3)) ?_;rw[Tryz.ntmps224];simp -dsimp;refine bY.of [] (kb 0x103b3) (ι:={i:Nat // i≤l.length∧∀a,a<i→∀x,l[a]? = some x→q x=false})
  (fun z=>[(.s 0,It.v (.d (.sl (l.map Lk.cs)))),(.s 1,It.v (.clo f [TV.ptr (.x 0) 0])),(.x 0,It.box [TV.clo u [TV.ptr (.x 1) 0]]),(.x 1,It.box (List.map TV.d ds)),(.s 4,It.v (.d (.int .i64 0))),(.s 7,It.v (.d (.int .i64 l.length))),(.s 8,It.v (.d (.int .i64 z.1)))]) (fun z=>l.length-z.1) ⟨0,by omega,fun a h=>by omega⟩ ?_ ?_
 ·exact GS.to (by simp)
 ·rintro⟨i,i1,i2⟩;by_cases hi:i<l.length
  ·have hiz:(i:Int)<l.length:=by omega
   have hx:l[i]? = some l[i]:=ah hi;have hm:l[i]∈l:=aB hi;generalize l[i]=x at hx hm;simp -dsimp[hiz,hx,Lk.cs,wrap_i64 (n:=(i:Int)+1) (by omega) (by omega)];and_intros;all_goals try first|rfl|omega|exact⟨by kernel_rfl⟩
   refine aF.of (hf x hm) [.x 0,.x 1] 0 ?_;rcases (au (q x)).symm with h|h
   ·simp -dsimp[h,hok,YJ,wrap_i64 (n:=(i:Int)+1) (by omega) (by omega)];and_intros;all_goals try first|rfl|omega|exact⟨by kernel_rfl⟩
    exact⟨⟨i+1,by omega,fun a ha y hy=>by
     by_cases e:a=i
     ·subst e;rw[hx]at hy;simp only[aj]at hy;subst hy;exact h
     ·exact i2 a (by omega) y hy⟩,GS.to (by simp),by simp;omega⟩
   ·simp -dsimp[h,hok,YJ];and_intros;all_goals try first|rfl|omega|exact⟨by kernel_rfl⟩
    refine Fin.of ?_;simp[FK hx h i2]
  ·simp -dsimp[hi];refine Fin.of ?_;simp;exact(FM fun a ha=>i2 a (by omega)).symm
theorem Rk(l:List Lk)(hl:l.length≤9223372036854775807)(f:FuncId)(u:FuncId)(ds:List D)(q:Lk→Bool)(hf:∀x,x∈l→Contract Tryz.prog f [YJ x,.ptr (.x 0) 0] [.box [.clo u [.ptr (.x 1) 0]],.box (ds.map .d)] (.d (.bool (q x))) [.box [.clo u [.ptr (.x 1) 0]],.box (ds.map .d)] [])(hok:dP Tryz.prog f=true):
  Contract Tryz.prog 153 [.d (.sl (l.map Lk.cs)),.clo f [.ptr (.x 0) 0]] [.box [.clo u [.ptr (.x 1) 0]],.box (ds.map .d)] (.d (.bool (l.any q))) [.box [.clo u [.ptr (.x 1) 0]],.box (ds.map .d)] []:=by
 refine aC Tryz.func153 rfl (fun E0=>?_);refine iK.sound (g:=.mk) (ow:=[]) (kp:=(kb 0x13)) ?_;rw[Tryz.ntmps153];simp -dsimp;refine aF.of (abL l hl f u ds q hf hok) [.x 0,.x 1] 0 ?_;simp -dsimp;refine Fin.of ?_;simp[AZ]
def bsGo(p:Nat→Bool):Nat→Nat→Nat→Nat
 | 0,i,_=>i
 | k+1,i,j=>if i<j then(if p ((i+j)/2)=true then bsGo p k ((i+j)/2+1) j else bsGo p k i ((i+j)/2))else i
theorem bsGo_fuel{p:Nat→Bool}:∀(k i j:Nat),j-i≤k→bsGo p (k+1) i j=bsGo p k i j
 | 0,i,j,h=>by rw[show 0+1=Nat.succ 0 from rfl,bsGo,bsGo,if_neg (by omega)]
 | k+1,i,j,h=>by
   rw[bsGo]
   conv=>rhs;rw[bsGo]
   split
   ·split
    ·exact bsGo_fuel k _ _ (by omega)
    ·exact bsGo_fuel k _ _ (by omega)
   ·rfl
theorem NY{p:Nat→Bool}(i j:Nat):∀m k,j-i≤k→bsGo p (k+m) i j=bsGo p k i j
 | 0,_,_=>rfl
 | m+1,k,h=>(bsGo_fuel (k+m) i j (by omega)).trans (NY i j m k h)
theorem aeg{p:Nat→Bool}{i j:Nat}(h:i<j):bsGo p (j-i) i j=if p ((i+j)/2)=true then bsGo p (j-((i+j)/2+1)) ((i+j)/2+1) j else bsGo p ((i+j)/2-i) i ((i+j)/2):=by
 obtain⟨k,hk⟩:∃k,j-i=k+1:=⟨j-i-1,by omega⟩
 rw[hk,bsGo,if_pos h];split
 ·rw[show k=(j-((i+j)/2+1))+(k-(j-((i+j)/2+1))) by omega];exact NY _ _ _ _ (by omega)
 ·rw[show k=((i+j)/2-i)+(k-((i+j)/2-i)) by omega];exact NY _ _ _ _ (by omega)
theorem agb{p:Nat→Bool}{i j:Nat}(h :¬i<j):bsGo p (j-i) i j=i:=by rw[show j-i=0 by omega,bsGo]
def bsI(p:Nat→Bool)(n:Nat):Nat:=bsGo p n 0 n
theorem bsGo_spec{p:Nat→Bool}(hp:∀a b,a≤b→p b=true→p a=true):∀(k i j:Nat),i≤j→j-i≤k→(∀a,a<i→p a=true)→(i≤bsGo p k i j∧bsGo p k i j≤j)∧(∀a,a<bsGo p k i j→p a=true)∧∀a,bsGo p k i j≤a→a<j→p a=false
 | 0,i,j,h1,h2,h3=>by rw[bsGo];exact⟨⟨by omega,by omega⟩,h3,fun a _ _=>by omega⟩
 | k+1,i,j,h1,h2,h3=>by
   rw[bsGo];split
   ·rename_i h;split
    ·rename_i hm;obtain⟨g1,g2,g3⟩:=bsGo_spec hp k ((i+j)/2+1) j (by omega) (by omega) fun a ha=>hp a _ (by omega) hm
     exact⟨⟨by omega,by omega⟩,g2,g3⟩
    ·rename_i hm;obtain⟨g1,g2,g3⟩:=bsGo_spec hp k i ((i+j)/2) (by omega) (by omega) h3;refine⟨⟨by omega,by omega⟩,g2,fun a ha hj=>?_⟩;by_cases e:a<(i+j)/2
     ·exact g3 a ha e
     ·refine mQ.2 fun e2=>hm (hp _ a (by omega) e2)
   ·rename_i h;exact⟨⟨by omega,by omega⟩,h3,fun a _ _=>by omega⟩
def Kt(l:List Rt)(i:Nat):Int:=(l.getD i ⟨0,false⟩).id
def KT(a b:Int):Int:=if a<b then -1 else if b<a then 1 else 0
theorem acS(a b:Int):(KT a b<0)=(a<b):=by unfold KT;apply propext;split<;>(try split)<;>omega
theorem acR(a b:Int):(KT a b=0)=(a=b):=by unfold KT;apply propext;split<;>(try split)<;>omega
theorem adh(a:Int):Contract Tryz.prog 254 [.d (.int .i64 a)] [] (.d (.bool false)) [] []:=by refine aC Tryz.func254 rfl (fun E0=>?_);refine iK.sound (g:=.mk) (ow:=[]) (kp:=(kb 5)) ?_;rw[Tryz.ntmps254];simp -dsimp;refine Fin.of ?_;simp
theorem Ob(a b:Int):Contract Tryz.prog 223 [.d (.int .i64 a),.d (.int .i64 b)] [] (.d (.int .i64 (KT a b))) [] []:=by
 refine aC Tryz.func223 rfl (fun E0=>?_);refine iK.sound (g:=.mk) (ow:=[]) (kp:=(kb 0x93873)) ?_;rw[Tryz.ntmps223];simp -dsimp;refine aF.of (adh a) [] 0 ?_;simp -dsimp;refine aF.of (adh b) [] 0 ?_;by_cases h1:a<b
 ·simp -dsimp[h1];refine Fin.of ?_;simp[KT,h1]
 ·by_cases h2:b<a
  ·simp -dsimp[h1,h2];refine Fin.of ?_;simp[KT,h1,h2]
  ·simp -dsimp[h1,h2];refine Fin.of ?_;simp[KT,h1,h2]
theorem agc(x:Rt)(id:Int):Contract Tryz.prog 152 [rtT x,.d (.int .i64 id)] [] (.d (.int .i64 (KT x.id id))) [] []:=by
 refine aC Tryz.func152 rfl (fun E0=>?_);refine iK.sound (g:=.mk) (ow:=[]) (kp:=(kb 0x17)) ?_;rw[Tryz.ntmps152];simp -dsimp[rtT,Rt.cs];refine aF.of (Ob x.id id) [] 0 ?_;simp -dsimp;and_intros;all_goals try first|rfl|omega|exact⟨by kernel_rfl⟩
 refine Fin.of ?_;simp
theorem ajP(n:Nat):aaA .u64 (n:Int) 1=((n/2:Nat):Int):=by
 rw[aaA];have:min (Int.toNat 1) (IntKind.u64.bits)=1:=by decide
 rw[this,Int.fdiv_eq_ediv_of_nonneg _ (by decide)];omega
theorem alh{i j:Nat}(h:i+j≤2000000):IntKind.i64.wrap (aaA .u64 (IntKind.u64.wrap (IntKind.i64.wrap ((i:Int)+j))) 1)=(((i+j)/2:Nat):Int):=by rw[show(i:Int)+j=((i+j:Nat):Int) by omega,wrap_i64 (n:=((i+j:Nat):Int)) (by omega) (by omega),wrap_u64 (n:=((i+j:Nat):Int)) (by omega) (by omega),ajP,wrap_i64 (n:=(((i+j)/2:Nat):Int)) (by omega) (by omega)]
theorem VE(l:List Rt)(hl:l.length≤1000000)(id:Int):Contract Tryz.prog 151 [.d (.sl (rts l)),.d (.int .i64 id),.clo 152 []] []
  (.sZ [.d (.int .i64 (bsI (fun a=>decide (Kt l a<id)) l.length)),.d (.bool (decide (bsI (fun a=>decide (Kt l a<id)) l.length<l.length)&&decide (Kt l (bsI (fun a=>decide (Kt l a<id)) l.length)=id)))]) [] []:=by
 obtain⟨p,hp⟩:∃p:Nat→Bool,p=fun a=>decide (Kt l a<id):=⟨_,rfl⟩
 rw[←hp];have hok:dP Tryz.prog 152=true:=by kernel_rfl
 refine aC Tryz.func151 rfl (fun E0=>?_);refine iK.sound (g:=.mk) (ow:=[]) (kp:=(kb 0x80020fc7)) ?_;rw[Tryz.ntmps151];simp -dsimp[rts];refine bY.of [] (kb 0x80020fc7) (ι:={z:Nat×Nat // z.1≤z.2∧z.2≤l.length∧bsI p l.length=bsGo p (z.2-z.1) z.1 z.2})
  (fun z=>[(.s 0,It.v (.d (.sl (rts l)))),(.s 1,It.v (.d (.int .i64 id))),(.s 2,It.v (.clo 152 [])),(.s 8,It.v (.d (.int .i64 l.length))),(.s 9,It.v (.d (.int .i64 z.1.1))),(.s 10,It.v (.d (.int .i64 z.1.2)))])
  (fun z=>z.1.2-z.1.1) ⟨(0,l.length),by omega,by omega,rfl⟩ ?_ ?_
 ·exact GS.to (by simp[rts])
 ·rintro⟨⟨i,j⟩,j1,j2,j3⟩;simp only at j1 j2 j3;by_cases hi:i<j
  ·have hiz:(i:Int)<j:=by omega
   rw[aeg hi]at j3
   have hm:(i+j)/2<l.length:=by omega
   have hx:l[(i+j)/2]? = some l[(i+j)/2]:=ah hm;have hpm:p ((i+j)/2)=decide (l[(i+j)/2].id<id):=by rw[hp];simp[Kt,hm]
   generalize l[(i+j)/2]=x at hx hpm;have hx':=r_ hx;have hmd:=alh (i:=i) (j:=j) (by omega);have hij:i≤(i+j)/2∧(i+j)/2<j:=by omega
   generalize (i+j)/2=m at hx hpm hm hmd j3 hx' hij;have hmz:(m:Int)<l.length:=by omega
   have hb:=agc x id;simp only[rtT,Rt.cs,List.map]at hb;simp -dsimp[hiz,hmd,hx',Rt.cs,hmz];refine aF.of hb [] 0 ?_;by_cases hc:x.id<id
   ·rw[hpm,decide_eq_true hc,if_pos rfl]at j3
    simp -dsimp[hok,acS,hc,wrap_i64 (n:=(m:Int)+1) (by omega) (by omega)];and_intros;all_goals try first|rfl|omega|exact⟨by kernel_rfl⟩
    exact⟨⟨(m+1,j),by omega,by omega,j3⟩,GS.to (by simp),by simp;omega⟩
   ·rw[hpm,decide_eq_false hc,if_neg (by simp)]at j3
    simp -dsimp[hok,acS,hc];and_intros;all_goals try first|rfl|omega|exact⟨by kernel_rfl⟩
    exact⟨⟨(i,m),by omega,by omega,j3⟩,GS.to (by simp),by simp;omega⟩
  ·have hiz :¬(i:Int)<j:=by omega
   obtain rfl:i=j:=by omega
   rw[agb hi]at j3
   by_cases hl2:i<l.length
   ·have hlz:(i:Int)<l.length:=by omega
    have hx:l[i]? = some l[i]:=ah hl2;have hr:Kt l i=l[i].id:=by simp[Kt,hl2]
    generalize l[i]=x at hx hr;have hx':=r_ hx;have hb:=agc x id;simp only[rtT,Rt.cs,List.map]at hb;simp -dsimp[hiz,hlz,hx',Rt.cs,j3];refine aF.of hb [] 0 ?_;simp -dsimp[hok,acR,hl2,hlz,j3];and_intros;all_goals try first|rfl|omega|exact⟨by kernel_rfl⟩
    refine Fin.of ?_;simp[acR,hl2,j3,hr]
   ·have hlz :¬(i:Int)<l.length:=by omega
    simp -dsimp[hiz,hlz,j3];and_intros;all_goals try first|rfl|omega|exact⟨by kernel_rfl⟩
    refine Fin.of ?_;simp[hl2,j3]
def VB(l:List Rt)(id:Int):Nat:=bsI (fun a=>decide (Kt l a<id)) l.length
def bsF(l:List Rt)(id:Int):Bool:=decide (VB l id<l.length)&&decide (Kt l (VB l id)=id)
theorem akw{l:List Rt}{id:Int}(h:bsF l id=true):VB l id<l.length:=by simp only[bsF,aP,decide_eq_true_eq]at h;exact h.1
def bsX(l:List Rt)(id:Int):Rt:=if bsF l id=true then l.getD (VB l id) ⟨0,false⟩else ⟨0,false⟩
theorem acJ{α:Type}{q:α→α→Bool}{r:α→α→Prop}(hr:∀x y,q x y=false→r x y)(ht:∀x y z,r x y→r y z→r x z):∀{l:List α},pV q l=false→l.Pairwise r
 | [],_=>.nil
 | [x],_=>by simp
 | x::y::l,h=>by
   simp only[pV,Bool.or_eq_false_iff]at h;have ih:=acJ hr ht (l:=y::l) h.2;refine fB.2 ⟨fun z hz=>?_,ih⟩;rcases aG.1 hz with rfl|hz
   ·exact hr _ _ h.1
   ·exact ht _ _ _ (hr _ _ h.1) ((fB.1 ih).1 z hz)
theorem aib{l:List Rt}(h:pV (fun (x y:Rt)=>decide (y.id≤x.id)) l=false):l.Pairwise (fun x y=>x.id<y.id):=
 acJ (r:=fun x y=>x.id<y.id) (fun x y h=>by simpa using h) (fun _ _ _=>Int.lt_trans) h
theorem VD{l:List Rt}(h:l.Pairwise fun x y=>x.id<y.id)(id:Int):bsF l id=fM l id∧bsX l id=(Nb l id).getD ⟨0,false⟩:=by
 have hp:=bT.1 h;have hr:∀a,(ha:a<l.length)→Kt l a=l[a].id:=fun a ha=>by simp[Kt,ha]
 have h0:∀a,l.length≤a→Kt l a=0:=fun a ha=>by simp[Kt,ak,dK ha]
 obtain⟨p,hpd⟩:∃p:Nat→Bool,p=fun a=>decide (a<l.length∧Kt l a<id):=⟨_,rfl⟩
 have ani:∀(q q':Nat→Bool) (n:Nat),(∀a,a<n→q a=q' a)→∀k i j,j≤n→bsGo q k i j=bsGo q' k i j:=by
  intro q q' n hq k
  induction k with
  | zero=>intro i j _;rfl
  | succ k ih=>
    intro i j hj;rw[bsGo,bsGo];split
    ·rw[hq ((i+j)/2) (by omega),ih _ _ hj,ih i ((i+j)/2) (by omega)]
    ·rfl
 have hb:VB l id=bsGo p l.length 0 l.length:=ani _ _ l.length (fun a ha=>by rw[hpd];simp[ha]) _ _ _ (aI _);obtain⟨g1,g2,g3⟩:=bsGo_spec (p:=p) (fun a b hab hb=>by
  rw[hpd]at hb⊢
  simp only[decide_eq_true_eq]at hb⊢;obtain⟨h1,h2⟩:=hb;rcases Nat.eq_or_lt_of_le hab with e|e
  ·subst e;exact⟨h1,h2⟩
  ·have:=hp a b (by omega) h1 e;rw[hr b h1]at h2
   exact⟨by omega,by rw[hr a (by omega)];omega⟩) l.length 0 l.length (by omega) (by omega) (fun a ha=>by omega)
 rw[←hb]at g1 g2 g3
 have key:∀a,(ha:a<l.length)→l[a].id=id→a=VB l id:=fun a ha e=>by
  rcases h_ a (VB l id)with c|c|c
  ·have:=g2 a c;rw[hpd]at this
   simp only[decide_eq_true_eq]at this;rw[hr a ha]at this;omega
  ·exact c
  ·have:=g3 (VB l id) (aI _) (by omega);rw[hpd]at this
   simp only[decide_eq_false_iff_not,not_and]at this;have h1:=this (by omega);rw[hr _ (by omega)]at h1
   have:=hp (VB l id) a (by omega) ha c;omega
 by_cases hh:fM l id=true
 ·obtain⟨x,hx,e⟩:=jU.1 hh;obtain⟨a,ha,rfl⟩:=cu.1 hx;simp only[decide_eq_true_eq]at e;obtain rfl:=key a ha e;have hF:bsF l id=true:=by
   simp only[bsF,aP,decide_eq_true_eq];exact⟨ha,by rw[hr _ ha];exact e⟩
  refine⟨hF.trans hh.symm,?_⟩;unfold bsX;rw[if_pos hF];have:Nb l id=some l[VB l id]:=by unfold Nb;rw[List.find?_eq_some_iff_getElem];refine⟨by simpa using e,VB l id,ha,rfl,fun j hj=>?_⟩;have:=hp j (VB l id) (by omega) ha hj;simp;omega
  rw[this];simp[ha]
 ·have hh':fM l id=false:=by simpa using hh
  have hF:bsF l id=false:=by
   refine mQ.2 fun e=>hh ?_
   simp only[bsF,aP,decide_eq_true_eq]at e;rw[hr _ e.1]at e
   exact jU.2 ⟨_,aB e.1,by simpa using e.2⟩
  refine⟨hF.trans hh'.symm,?_⟩;unfold bsX;rw[hF];have:Nb l id=none:=by unfold Nb;rw[iW];intro x hx;have:=dL.1 hh' x hx;simpa using this
  rw[this];simp
theorem ai5(g:bV)(hs:g.Sm)(id:Int):Contract Tryz.prog 162 [d_ g,.d (.int .i64 id)] [] (.sZ [rtT (bsX g.rs id),.d (.bool (bsF g.rs id))]) [] []:=by
 have hb:=VE g.rs hs.r id;have hlt:=akw (l:=g.rs) (id:=id);simp only[bsX]
 change Contract Tryz.prog _ _ _ (.sZ [.d (.int .i64 (VB g.rs id)),.d (.bool (bsF g.rs id))]) [] []at hb
 refine aC Tryz.func162 rfl (fun E0=>?_);refine iK.sound (g:=.mk) (ow:=[]) (kp:=(kb 0x100f7)) ?_;rw[Tryz.ntmps162];simp -dsimp[d_];refine aF.of hb [] 0 ?_;rcases (au (bsF g.rs id)).symm with h|h
 ·simp -dsimp[h];and_intros;all_goals try first|rfl|omega|exact⟨by kernel_rfl⟩
  refine Fin.of ?_;simp[h,rtT,Rt.cs]
 ·have hl:=hlt h;have hx:g.rs[VB g.rs id]? = some g.rs[VB g.rs id]:=ah hl;have hgd:g.rs.getD (VB g.rs id) ⟨0,false⟩ = g.rs[VB g.rs id]:=by simp[hl]
  rw[hgd];generalize g.rs[VB g.rs id]=x at hx;have hx':=r_ hx;have hlz:(VB g.rs id:Int)<g.rs.length:=by omega
  simp -dsimp[h,hx',Rt.cs,hlz];and_intros;all_goals try first|rfl|omega|exact⟨by kernel_rfl⟩
  refine Fin.of ?_;simp[h,rtT,Rt.cs]
theorem adO(n lo hi:Int):Contract Tryz.prog 149 [.d (.int .i64 n),.d (.int .i64 lo),.d (.int .i64 hi)] [] (.d (.bool (inB n lo hi))) [] []:=by
 refine aC Tryz.func149 rfl (fun E0=>?_);refine iK.sound (g:=.mk) (ow:=[]) (kp:=(kb 0x47)) ?_;rw[Tryz.ntmps149];by_cases h:lo≤n
 ·simp -dsimp[h];refine Fin.of ?_;simp[inB,h]
 ·simp -dsimp[h];refine Fin.of ?_;simp[inB,h]
theorem alR(x:Rt):Contract Tryz.prog 148 [rtT x] [] (.d (.bool (!inB x.id 1 99))) [] []:=by
 refine aC Tryz.func148 rfl (fun E0=>?_);refine iK.sound (g:=.mk) (ow:=[]) (kp:=(kb 7)) ?_;rw[Tryz.ntmps148];simp -dsimp[rtT,Rt.cs];refine aF.of (adO x.id 1 99) [] 0 ?_;simp -dsimp;and_intros;all_goals try first|rfl|omega|exact⟨by kernel_rfl⟩
 refine Fin.of ?_;simp
theorem alS(x:Lk):Contract Tryz.prog 154 [YJ x] [] (.d (.bool x.bad)) [] []:=by
 refine aC Tryz.func154 rfl (fun E0=>?_);refine iK.sound (g:=.mk) (ow:=[]) (kp:=(kb 7)) ?_;rw[Tryz.ntmps154];simp -dsimp[YJ,Lk.cs];refine aF.of (adO x.ca 1 1000) [] 0 ?_;rcases (au (inB x.ca 1 1000)).symm with b1|b1
 ·simp -dsimp[b1];and_intros;all_goals try first|rfl|omega|exact⟨by kernel_rfl⟩
  refine Fin.of ?_;simp[Lk.bad,b1]
 simp -dsimp[b1];refine aF.of (adO x.cb 1 1000) [] 0 ?_;rcases (au (inB x.cb 1 1000)).symm with b2|b2
 ·simp -dsimp[b2];and_intros;all_goals try first|rfl|omega|exact⟨by kernel_rfl⟩
  refine Fin.of ?_;simp[Lk.bad,b1,b2]
 simp -dsimp[b2];refine aF.of (adO x.cap 0 1000) [] 0 ?_;simp -dsimp;and_intros;all_goals try first|rfl|omega|exact⟨by kernel_rfl⟩
 refine Fin.of ?_;simp[Lk.bad,b1,b2]
theorem alU(x:Lk):Contract Tryz.prog 156 [YJ x] [] (.d (.bool (decide (x.b≤x.a)))) [] []:=by
 refine aC Tryz.func156 rfl (fun E0=>?_);refine iK.sound (g:=.mk) (ow:=[]) (kp:=(kb 7)) ?_;rw[Tryz.ntmps156];simp -dsimp[YJ,Lk.cs];and_intros;all_goals try first|rfl|omega|exact⟨by kernel_rfl⟩
 refine Fin.of ?_;simp
theorem aiq(g:bV)(hs:g.Sm)(hp:g.rs.Pairwise fun x y=>x.id<y.id)(id:Int):Contract Tryz.prog 150 [.d (.int .i64 id),.ptr (.x 0) 0] [.box ([D.sl (rts g.rs),D.sl (pq g.ls)].map .d)] (.d (.bool (!fM g.rs id))) [.box ([D.sl (rts g.rs),D.sl (pq g.ls)].map .d)] []:=by
 have hb:=VE g.rs hs.r id
 change Contract Tryz.prog _ _ _ (.sZ [.d (.int .i64 (VB g.rs id)),.d (.bool (bsF g.rs id))]) [] []at hb
 rw[(VD hp id).1]at hb
 refine aC Tryz.func150 rfl (fun E0=>?_);refine iK.sound (g:=.mk) (ow:=[]) (kp:=(kb 0x2b)) ?_;rw[Tryz.ntmps150];simp -dsimp;refine aF.of hb [] 0 ?_;simp -dsimp;and_intros;all_goals try first|rfl|omega|exact⟨by kernel_rfl⟩
 refine Fin.of ?_;simp
theorem alT(g:bV)(hs:g.Sm)(hp:g.rs.Pairwise fun x y=>x.id<y.id)(x:Lk):Contract Tryz.prog 155 [YJ x,.ptr (.x 0) 0] [.box [.clo 150 [.ptr (.x 1) 0]],.box ([D.sl (rts g.rs),D.sl (pq g.ls)].map .d)] (.d (.bool (!fM g.rs x.a || !fM g.rs x.b)))
  [.box [.clo 150 [.ptr (.x 1) 0]],.box ([D.sl (rts g.rs),D.sl (pq g.ls)].map .d)] []:=by
 have hok:dP Tryz.prog 150=true:=by kernel_rfl
 refine aC Tryz.func155 rfl (fun E0=>?_);refine iK.sound (g:=.mk) (ow:=[]) (kp:=(kb 0xf)) ?_;rw[Tryz.ntmps155];simp -dsimp[YJ,Lk.cs];try refine⟨?_,⟨by kernel_rfl⟩⟩
 refine aF.of (aiq g hs hp x.a) [.x 1] 0 ?_;rcases (au (fM g.rs x.a)).symm with b1|b1
 ·simp -dsimp[b1,hok];and_intros;all_goals try first|rfl|omega|exact⟨by kernel_rfl⟩
  refine Fin.of ?_;simp[b1]
 simp -dsimp[b1,hok];refine aF.of (aiq g hs hp x.b) [.x 1] 0 ?_;simp -dsimp[b1,hok];and_intros;all_goals try first|rfl|omega|exact⟨by kernel_rfl⟩
 refine Fin.of ?_;simp[b1]
def aep(x y:Int):Int:=if x≠0 then x else y
theorem amx(x y:Int):Contract Tryz.prog 225 [.d (ints [x,y])] [] (.d (.int .i64 (aep x y))) [] []:=by
 refine aC Tryz.func225 rfl (fun E0=>?_);refine iK.sound (g:=.mk) (ow:=[]) (kp:=(kb 0x43ed)) ?_;rw[Tryz.ntmps225];simp -dsimp[ints];refine bY.of [] (kb 0x43ed) (ι:={i:Nat // i≤2∧(0<i→x=0)∧(1<i→y=0)})
  (fun z=>[(.s 0,It.v (.d (.sl [[D.int .i64 x],[D.int .i64 y]]))),(.s 2,It.v (.d (.int .i64 0))),(.s 3,It.v (.d (.int .i64 0))),
   (.s 6,It.v (.d (.sl [[D.int .i64 x],[D.int .i64 y]]))),(.s 7,It.v (.d (.int .i64 2))),(.s 8,It.v (.d (.int .i64 z.1)))]) (fun z=>2-z.1) ⟨0,by omega,by omega,by omega⟩ ?_ ?_
 ·exact GS.to (by simp)
 ·rintro⟨i,i1,i2,i3⟩;rcases (by omega:i=0∨i=1∨i=2)with rfl|rfl|rfl
  ·by_cases h:x=0
   ·simp -dsimp[h];try refine⟨?_,⟨by kernel_rfl⟩⟩
    exact⟨⟨1,by omega,fun _=>h,by omega⟩,GS.to (by simp[h,wrap_i64 (n:=1) (by omega) (by omega)]),by simp⟩
   ·simp -dsimp[h];try refine⟨?_,⟨by kernel_rfl⟩⟩
    refine Fin.of ?_;simp[aep,h]
  ·have hx:=i2 (by omega);by_cases h:y=0
   ·simp -dsimp[h];try refine⟨?_,⟨by kernel_rfl⟩⟩
    exact⟨⟨2,by omega,fun _=>hx,fun _=>h⟩,GS.to (by simp[h,wrap_i64 (n:=2) (by omega) (by omega)]),by simp⟩
   ·simp -dsimp[h];try refine⟨?_,⟨by kernel_rfl⟩⟩
    refine Fin.of ?_;simp[aep,hx]
  ·have hx:=i2 (by omega);have hy:=i3 (by omega);simp -dsimp;refine Fin.of ?_;simp[aep,hx,hy]
def cmpL(a b:Lk):Int:=aep (KT a.a b.a) (KT a.b b.b)
theorem aiU(a b:Lk):decide (0≤cmpL a b)=(decide (b.a<a.a)||decide (a.a=b.a)&&decide (b.b≤a.b)):=by
 unfold cmpL aep KT;rcases Int.lt_trichotomy a.a b.a with h|h|h
 ·have e1 :¬b.a<a.a:=by omega
  have e2 :¬a.a=b.a:=by omega
  simp[h,e1,e2]
 ·rcases Int.lt_trichotomy a.b b.b with k|k|k
  ·have e1 :¬b.b≤a.b:=by omega
   simp[h,k,e1]
  ·simp[h,k]
  ·have e1:b.b≤a.b:=by omega
   have e2 :¬a.b<b.b:=by omega
   simp[h,k,e1,e2]
 ·have e1 :¬a.a<b.a:=by omega
  simp[h,e1]
theorem acz(a b:Lk):Contract Tryz.prog 157 [YJ a,YJ b] [] (.d (.int .i64 (cmpL a b))) [] []:=by
 refine aC Tryz.func157 rfl (fun E0=>?_);refine iK.sound (g:=.mk) (ow:=[]) (kp:=(kb 0x1f)) ?_;rw[Tryz.ntmps157];simp -dsimp[YJ,Lk.cs];refine aF.of (Ob a.a b.a) [] 0 ?_;simp -dsimp;refine aF.of (Ob a.b b.b) [] 0 ?_;simp -dsimp;have hc:=amx (KT a.a b.a) (KT a.b b.b);simp only[ints,List.map]at hc;refine aF.of hc [] 0 ?_;simp -dsimp
 and_intros;all_goals try first|rfl|omega|exact⟨by kernel_rfl⟩
 refine Fin.of ?_;simp[cmpL]
end Go.Proofs
