/-
  What functions of the program compute, stated as contracts over plain data; the conditions of each stand in its own statement.
-/
import Derived.Test.YtboimfkommpglaaGreatDoorZA28
import Derived.Test.YtboimfkommpglaaGreatDoorZA20
import Derived.Test.YtboimfkommpglaaGreatDoorZA33
import Derived.Test.YtboimfkommpglaaGreatDoorZA29
import Derived.Test.YtboimfkommpglaaGreatDoorZA12
import Derived.Test.YtboimfkommpglaaGreatDoorZA19
import Derived.Test.YtboimfkommpglaaGreatDoorZA10
import Derived.Test.YtboimfkommpglaaGreatDoorZA14
import Derived.Test.YtboimfkommpglaaGreatDoorZA17
import Derived.Test.YtboimfkommpglaaGreatDoorZA27
set_option linter.unusedSimpArgs false
set_option linter.unusedVariables false
set_option maxRecDepth 100000
set_option maxHeartbeats 16000000
namespace Go.Proofs
open Go Go.Tr
theorem aaC(r:Int)(o:Out)(CS:List (List D))(p:Pk):Contract Tryz.prog 192 [.d (.int .i64 r),oLT o CS,dX p] [] (.d (.sl ((nI r o p).map lT))) [] []:=by
 have hl:=sK o.loc;simp only[bv]at hl;refine aj Tryz.func192 rfl (fun E0=>?_);refine cO.sound (g:=.mk) (ow:=[]) (kp:=(fun k=>k==0||k==1||k==2||k==4||k==5||k==6||k==7||k==8||k==9||k==16)) ?_;rw[Tryz.ntmps192];simp -dsimp[oLT,bv,dX,Pk.cs];try refine⟨?_,⟨by kernel_rfl⟩⟩
 refine ah.of hl [] 0 ?_;have hB:=iT o.loc;unfold nI;generalize lg o.loc=L at hB⊢;simp -dsimp[ints];try refine⟨?_,⟨by kernel_rfl⟩⟩
 refine aN.of [] (fun k=>k==0||k==1||k==2||k==4||k==5||k==6||k==7||k==8||k==9||k==16) (ι:={i:Nat // i≤L.length})
  (fun z=>[(Pl.o 5,It.box (p.cs.map .d)),(Pl.s 5,It.v (.ptr (Pl.o 5) 0)),(Pl.s 0,It.v (.d (.int .i64 r))),(Pl.s 6,It.v (.c (Value.slice none 0 0))),
   (Pl.s 7,It.v (.d (.sl (L.map fun n=>[D.int .i64 n])))),
   (Pl.s 8,It.v (.aB 8 z.1)),(Pl.o 8,It.row 92 11 (dd (((L.take z.1).map fun k=>(r,f_ p k)).map lT)) false),
   (Pl.s 9,It.v (.d (.int .i64 z.1)))])
  (fun z=>L.length-z.1) ⟨0,by omega⟩ ?_ ?_
 ·exact GS.own' (k:=8) 92 11 (by simp) (by simp) (by simp[Pk.cs,bv])
 ·rintro⟨i,i1⟩;by_cases hi:i<L.length
  ·have hiz:(i:Int)<L.length:=by omega
   have hg:L[i]? = some L[i]:=List.getElem?_eq_getElem hi;generalize L[i]=k at hg;have ho:=IK p k;have hn:dd (((L.take (i+1)).map fun k=>(r,f_ p k)).map lT)=dd (((L.take i).map fun k=>(r,f_ p k)).map lT)++[TV.d (.int .i64 r)::(f_ p k).cs.map .d]:=by
    rw[List.take_add_one,hg];simp[dd,lT]
   have hlen:(((L.take i).map fun k=>(r,f_ p k)).map lT).length=i:=by simp;omega
   generalize f_ p k=q at ho hn;simp[Pk.cs]at hn
   simp only[dX,Pk.cs,List.map]at ho;simp -dsimp[hg,hiz,Pk.cs];try refine⟨?_,⟨by kernel_rfl⟩⟩
   refine ah.of ho [] 0 ?_;simp -dsimp[wrap_i64 (n:=(i:Int)+1) (by omega) (by omega)];and_intros;all_goals try first|omega|exact⟨by kernel_rfl⟩
   exact⟨⟨i+1,by omega⟩,GS.to (by simp[hn,Pk.cs]),by simp;omega⟩
  ·have hiz :¬(i:Int)<L.length:=by omega
   obtain rfl:i=L.length:=by omega
   simp -dsimp[hiz];refine Fin.view 6 ?_;simp -dsimp;refine Fin.of ?_;simp
theorem ab2(t:dQ)(h1:t.dl.length≤100000000)(h2:t.cr.length≤100000000)(h3:t.ls.length≤100000000)(r:Int)(p:Pk)(o:Ox)(ho:o.g_.length≤1000000):
  jT Tryz.prog 119 [.agg [.aB 900 t.dl.length,.aB 901 t.cr.length,.aB 902 t.ls.length],.d (.int .i64 r),dX p,nD o] [] (wE t) (.agg [.aB 900 (rP t r p o).dl.length,.aB 901 (rP t r p o).cr.length,.aB 902 (rP t r p o).ls.length]) [] (wE (rP t r p o)):=by
 have hlc:=aaC r ⟨o.loc,o.lost,[]⟩ (o.g_.map n_) p;simp only[oLT,dX,Pk.cs,List.map]at hlc;rw[show nI r ⟨o.loc,o.lost,[]⟩ p=Au r o p from rfl]at hlc
 refine t_ Tryz.func119 rfl (fun E0=>?_);refine cO.sound (g:=.mk) (ow:=[]) (kp:=(fun k=>k==0||k==1||k==2||k==3||k==4||k==6||k==7||k==8||k==9||k==20||k==34)) ?_;rw[Tryz.ntmps119];simp -dsimp[dX,Pk.cs,nD,wE];try refine⟨?_,⟨by kernel_rfl⟩⟩
 refine ah.of hlc [] 0 ?_;have hll:(Au r o p).length≤64:=by unfold Au nI;rw[List.length_map];exact iT _
 have hn0:rP t r p o=⟨t.dl++Au r o p,t.cr++o.g_.map (fun c=>(r,c.1,c.2.pk.bits)),if o.lost=0#64 then t.ls else t.ls++[(r,o.lost)]⟩:=rfl;rw[hn0];clear hn0;generalize Au r o p=LV at hll⊢;have hdl:dLen 11 (LV.map lT):=iF 11 _ _ fun _=>rfl
 obtain⟨lC,fP,bP⟩:=o;simp only at ho⊢;have Yz:(bP.map fun c=>(r,c.1,c.2.pk.bits)).length=bP.length:=by simp
 have hCg:∀(j:Nat) (c:Int×Fr),bP[j]? = some c→(bP.map fun c=>(r,c.1,c.2.pk.bits))[j]? = some (r,c.1,c.2.pk.bits):=fun j c h=>by simp[h]
 generalize (bP.map fun c=>(r,c.1,c.2.pk.bits))=Ba at Yz hCg⊢;by_cases c0:fP=0#64
 ·simp -dsimp[c0,bv];and_intros;all_goals try first|omega|exact hdl|exact rfl|exact⟨by kernel_rfl⟩
  refine aN.of [] (fun k=>k==0||k==1||k==2||k==3||k==4||k==6||k==7||k==8||k==9||k==20||k==34) (ι:={j:Nat // j≤bP.length})
   (fun j=>[(Pl.s 1,It.v (.d (.int .i64 r))),
    (Pl.o 900,It.row 92 11 (dd (t.dl.map lT)++dd (LV.map lT)) false),(Pl.o 901,It.row 96 3 (dd (t.cr.map lJ)++dd (List.take j.1 (Ba.map lJ))) false),(Pl.o 902,It.row 176 2 (dd (t.ls.map qO)) false),
    (Pl.o 4,It.box [TV.aB 900 (t.dl.length+LV.length),TV.aB 901 (t.cr.length+j.1),TV.aB 902 (t.ls.length)]),(Pl.s 4,It.v (.ptr (Pl.o 4) 0)),
    (Pl.o 7,It.box [TV.d (.int IntKind.u64 (tn lC)),TV.d (.int IntKind.u64 (tn fP)),TV.d (.sl (List.map n_ bP))]),(Pl.s 7,It.v (.ptr (Pl.o 7) 0)),
    (Pl.o 8,It.box [TV.c (Value.slice none 0 0),TV.c (Value.slice none 0 0),TV.c (Value.slice none 0 0)]),(Pl.s 8,It.v (.ptr (Pl.o 8) 0)),(Pl.s 9,It.v (.d (.int .i64 j.1)))])
   (fun j=>bP.length-j.1) ⟨0,by omega⟩ ?_ ?_
  ·exact GS.to (by simp[c0])
  ·rintro⟨j,j1⟩;by_cases hj:j<bP.length
   ·have hjz:(j:Int)<bP.length:=by omega
    have hg:bP[j]? = some bP[j]:=List.getElem?_eq_getElem hj;have hcg:=hCg j _ hg;generalize bP[j]=c at hg hcg;obtain⟨c1,c2⟩:=c;have hn1:dd (List.take (j+1) (Ba.map lJ))=dd (List.take j (Ba.map lJ))++[[TV.d (.int .i64 r),TV.d (.int .i64 c1),TV.d (bv c2.pk.bits)]]:=by
     rw[List.take_add_one,List.getElem?_map,hcg];simp[dd,lJ]
    have hm1:min j Ba.length=j:=by omega
    simp -dsimp[hg,hjz,n_,ints,Pk.cs,bv,hm1,wrap_i64 (n:=(j:Int)+1) (by omega) (by omega)];and_intros;all_goals try first|omega|exact⟨by kernel_rfl⟩
    exact⟨⟨j+1,by omega⟩,GS.to (by simp[hn1,bv,Nat.add_assoc]),by simp;omega⟩
   ·have hjz :¬(j:Int)<bP.length:=by omega
    obtain rfl:j=bP.length:=by omega
    have ht1:List.take bP.length (Ba.map lJ)=Ba.map lJ:=List.take_of_length_le (by simp;omega);simp -dsimp[hjz];try refine⟨?_,⟨by kernel_rfl⟩⟩
    refine Fin.of ?_;simp[ht1,c0,Yz,qO,bv,wE]
 ·simp -dsimp[c0,bv];and_intros;all_goals try first|omega|exact hdl|exact rfl|exact⟨by kernel_rfl⟩
  refine aN.of [] (fun k=>k==0||k==1||k==2||k==3||k==4||k==6||k==7||k==8||k==9||k==20||k==34) (ι:={j:Nat // j≤bP.length})
   (fun j=>[(Pl.s 1,It.v (.d (.int .i64 r))),
    (Pl.o 900,It.row 92 11 (dd (t.dl.map lT)++dd (LV.map lT)) false),(Pl.o 901,It.row 96 3 (dd (t.cr.map lJ)++dd (List.take j.1 (Ba.map lJ))) false),(Pl.o 902,It.row 176 2 (dd (t.ls.map qO)++[[TV.d (.int .i64 r),TV.d (.int .u64 (tn fP))]]) false),
    (Pl.o 4,It.box [TV.aB 900 (t.dl.length+LV.length),TV.aB 901 (t.cr.length+j.1),TV.aB 902 (t.ls.length+1)]),(Pl.s 4,It.v (.ptr (Pl.o 4) 0)),
    (Pl.o 7,It.box [TV.d (.int IntKind.u64 (tn lC)),TV.d (.int IntKind.u64 (tn fP)),TV.d (.sl (List.map n_ bP))]),(Pl.s 7,It.v (.ptr (Pl.o 7) 0)),
    (Pl.o 8,It.box [TV.c (Value.slice none 0 0),TV.c (Value.slice none 0 0),TV.c (Value.slice none 0 0)]),(Pl.s 8,It.v (.ptr (Pl.o 8) 0)),(Pl.s 9,It.v (.d (.int .i64 j.1)))])
   (fun j=>bP.length-j.1) ⟨0,by omega⟩ ?_ ?_
  ·exact GS.to (by simp[c0])
  ·rintro⟨j,j1⟩;by_cases hj:j<bP.length
   ·have hjz:(j:Int)<bP.length:=by omega
    have hg:bP[j]? = some bP[j]:=List.getElem?_eq_getElem hj;have hcg:=hCg j _ hg;generalize bP[j]=c at hg hcg;obtain⟨c1,c2⟩:=c;have hn1:dd (List.take (j+1) (Ba.map lJ))=dd (List.take j (Ba.map lJ))++[[TV.d (.int .i64 r),TV.d (.int .i64 c1),TV.d (bv c2.pk.bits)]]:=by
     rw[List.take_add_one,List.getElem?_map,hcg];simp[dd,lJ]
    have hm1:min j Ba.length=j:=by omega
    simp -dsimp[hg,hjz,n_,ints,Pk.cs,bv,hm1,wrap_i64 (n:=(j:Int)+1) (by omega) (by omega)];and_intros;all_goals try first|omega|exact⟨by kernel_rfl⟩
    exact⟨⟨j+1,by omega⟩,GS.to (by simp[hn1,bv,Nat.add_assoc]),by simp;omega⟩
   ·have hjz :¬(j:Int)<bP.length:=by omega
    obtain rfl:j=bP.length:=by omega
    have ht1:List.take bP.length (Ba.map lJ)=Ba.map lJ:=List.take_of_length_le (by simp;omega);simp -dsimp[hjz];try refine⟨?_,⟨by kernel_rfl⟩⟩
    refine Fin.of ?_;simp[ht1,c0,Yz,qO,bv,wE]
theorem KN(b:Tb)(hb:b.Sm)(p:Pk):Contract Tryz.prog 110 [bZ b,dX p] [] (.rG [outT (jC b p).1,.d (.int .i64 (jC b p).2)]) [] []:=by
 have h1:=Ob b hb.1 hb.2;have h2:=o9 p;simp only[dX,Pk.cs,List.map]at h2;simp only[bZ]at h1;obtain⟨w,hw⟩:∃w,w=jC b p:=⟨_,rfl⟩
 rw[←hw];refine aj Tryz.func110 rfl (fun E0=>?_);refine cO.sound (g:=.mk) (ow:=[]) (kp:=(fun k=>k==0||k==1||k==2||k==3||k==4||k==5||k==13||k==17||k==30)) ?_;rw[Tryz.ntmps110];simp -dsimp[bZ,dX,Pk.cs];refine ah.of h1 [] 0 ?_;by_cases c1:chk b=0
 case neg=>
  have vw:w=(iC,1):=hw.trans (by unfold jC;rw[if_pos (.inl c1)]);simp -dsimp[c1];and_intros;all_goals try first|rfl|omega|exact⟨by kernel_rfl⟩
  refine Fin.box (.o 4) rfl ?_;simp -dsimp;refine Fin.of ?_;simp[vw,outT,iC,bv]
 simp -dsimp[c1];and_intros;all_goals try first|rfl|omega|exact⟨by kernel_rfl⟩
 refine ah.of h2 [] 0 ?_;rcases (Bool.eq_false_or_eq_true p.ok).symm with c2|c2
 ·have vw:w=(iC,1):=hw.trans (by unfold jC;rw[if_pos (.inr c2)]);simp -dsimp[c2];and_intros;all_goals try first|rfl|omega|exact⟨by kernel_rfl⟩
  refine Fin.box (.o 4) rfl ?_;simp -dsimp;refine Fin.of ?_;simp[vw,outT,iC,bv]
 by_cases c3:p.mode=2
 ·have vw:w=(iC,7):=hw.trans (by unfold jC;rw[if_neg (by simp[c1,c2]),if_pos c3]);simp -dsimp[c2,eq_true c3];and_intros;all_goals try first|rfl|omega|exact⟨by kernel_rfl⟩
  refine Fin.box (.o 4) rfl ?_;simp -dsimp;refine Fin.of ?_;simp[vw,outT,iC,bv]
 by_cases c4:p.bF=b.sd
 case neg=>
  have vw:w=(iC,8):=hw.trans (by unfold jC;rw[if_neg (by simp[c1,c2]),if_neg c3,if_pos (.inl fun e=>c4 e.symm)]);simp -dsimp[c2,eq_false c3,eq_false c4];and_intros;all_goals try first|rfl|omega|exact⟨by kernel_rfl⟩
  refine Fin.box (.o 4) rfl ?_;simp -dsimp;refine Fin.of ?_;simp[vw,outT,iC,bv]
 by_cases c5:p.len=b.len
 case neg=>
  have vw:w=(iC,8):=hw.trans (by unfold jC;rw[if_neg (by simp[c1,c2]),if_neg c3,if_pos (.inr fun e=>c5 e.symm)]);simp -dsimp[c2,eq_false c3,eq_true c4,eq_false c5];and_intros;all_goals try first|rfl|omega|exact⟨by kernel_rfl⟩
  refine Fin.box (.o 4) rfl ?_;simp -dsimp;refine Fin.of ?_;simp[vw,outT,iC,bv]
 have vw:w=(iH b p,0):=hw.trans (by unfold jC;rw[if_neg (by simp[c1,c2]),if_neg c3,if_neg (by simp[c4,c5])]);have h3:=Kt b hb p c1 c2 c5.symm;simp only[bZ,dX,Pk.cs,List.map]at h3;have e:w.1=iH b p:=by rw[vw]
 rw[←e]at h3
 have e2:w.2=0:=by rw[vw]
 rw[e2];generalize w.1=o at h3⊢;obtain⟨lC,fP,bP⟩:=o;simp only[outT]at h3;simp -dsimp[c2,eq_false c3,eq_true c4,eq_true c5];and_intros;all_goals try first|rfl|omega|exact⟨by kernel_rfl⟩
 refine ah.of h3 [] 0 ?_;simp -dsimp;and_intros;all_goals try first|rfl|omega|exact⟨by kernel_rfl⟩
 refine Fin.of ?_;simp[outT]
theorem dU{n:Int}(h:aG n=true):n=8∨n=16∨n=32∨n=64:=by
 simp[aG]at h;omega
theorem lY{len:Int}(hl:aG len=true){k:Nat}(hk:k<64):(tN len).getLsbD k=decide ((k:Int)<len):=by
 have:=dU hl;rw[tN,if_pos hl,zK hk _ (by omega)]
 congr 1
 rw[eq_iff_iff];omega
theorem wY{B:BitVec 64}{len:Int}(hl:aG len=true)(h:∀k<64,B.getLsbD k=true→(k:Int)<len):nG B len=true:=by
 simp only[nG,hl,Bool.true_and,decide_eq_true_eq];apply BitVec.eq_of_getLsbD_eq;intro k hk;rw[BitVec.getLsbD_and,BitVec.getLsbD_not,lY hl hk];simp only[hk,decide_true,Bool.true_and,BitVec.getLsbD_zero];cases hb:B.getLsbD k with
 | false=>rfl
 | true=>simp[h k hk hb]
theorem yE{j:Int}{k:Nat}(hk:k<64):(lS j).getLsbD k=true↔(k:Int)=j:=by
 unfold lS;split
 ·rename_i h;simp;omega
 ·rename_i h;rw[wrap_u64 (by omega) (by omega),j_ (by omega) hk];simp;omega
theorem y7{id len:Int}(hl:aG len=true):gG id len<len∧0≤gG id len:=by
 have:=dU hl;unfold gG;split
 ·have h1:=Int.emod_lt_of_pos (id-1) (b:=len) (by omega);have h2:=Int.emod_nonneg (id-1) (b:=len) (by omega);omega
 ·omega
theorem uH{id len:Int}(hl:aG len=true):0≤fJ id len∧fJ id len≤31:=by
 have:=dU hl;unfold fJ;split
 ·rename_i h;simp only[Bool.and_eq_true,inB,decide_eq_true_eq]at h;have h1:0≤(id-1)/len:=Int.ediv_nonneg (by omega) (by omega);have h2:(id-1)/len≤(id-1)/8:=by
   rcases this with rfl|rfl|rfl|rfl<;>omega
  omega
 ·omega
theorem iE{len set:Int}(hl:aG len=true):∀(es:List Ed) (T:Tp) (B:BitVec 64),(∀k<64,B.getLsbD k=true→(k:Int)<len)→∀k<64,(fA len set es T B).1.getLsbD k=true→(k:Int)<len
 | [],_,_,h=>h
 | e::es,T,B,h=>by
   rw[fA];split
   ·split
    ·refine iE hl es _ _ fun k hk hb=>?_
     rcases (or_bit B (lS (gG e.id len))).1 hb with hb|hb
     ·exact h k hk hb
     ·have:=(yE hk).1 hb;have:=(y7 (id:=e.id) hl).1;omega
    ·exact iE hl es _ _ h
   ·exact iE hl es _ _ h
theorem uf(T:Tp){len:Int}(hl:aG len=true):∀k<64,(kE T len).1.getLsbD k=true→(k:Int)<len:=fun k hk hb=>by
 have key:∀X:BitVec 64,(X&&&tN len).getLsbD k=true→(k:Int)<len:=fun X hX=>by
  rw[BitVec.getLsbD_and,Bool.and_eq_true,lY hl hk]at hX
  simpa using hX.2
 unfold kE at hb;dsimp only at hb;split at hb
 ·simp at hb
 split at hb
 ·exact key _ hb
 split at hb
 ·exact key _ hb
 ·exact key _ hb
theorem zV(p:Pk):p.ok=true↔(1≤p.mode∧p.mode≤3)∧(0≤p.bF∧p.bF≤7)∧(0≤p.set∧p.set≤31)∧nG p.bits p.len=true∧(0≤p.ttl∧p.ttl≤63)∧(0≤p.ent∧p.ent≤1023)∧(0≤p.ing∧p.ing≤256)∧(0≤p.proto∧p.proto≤7)∧p.pay.size≤64:=by
 simp[Pk.ok,wS,and_assoc]
theorem yL{p:Pn}{q:Pk}(hs:0≤p.bF∧p.bF≤7)(hl:aG p.len=true)(hq:(0≤q.ttl∧q.ttl≤63)∧(0≤q.ent∧q.ent≤1023)∧(0≤q.ing∧q.ing≤256)∧(0≤q.proto∧q.proto≤7)∧q.pay.size≤64){set:Int}(hset:0≤set∧set≤31)
  {B:BitVec 64} (hB:∀k<64,B.getLsbD k=true→(k:Int)<p.len):zo p (q.for p.bF p.len set B):=by
 have hv:=wY hl hB;exact⟨(zV _).2 ⟨⟨by show(1:Int)≤1;omega,by show(1:Int)≤3;omega⟩,hs,hset,hv,hq.1,hq.2.1,hq.2.2.1,hq.2.2.2.1,hq.2.2.2.2⟩,rfl,rfl,rfl⟩
theorem oZ(T:Tp):bY T 0=Bg T:=by
 simp[bY]
theorem ug(T:Tp){p:Pn}(hs:0≤p.bF∧p.bF≤7)(hl:aG p.len=true):zo p (mM T p).1:=by
 have hpk:∀q,q=(bY T 0).1→(0≤q.ttl∧q.ttl≤63)∧(0≤q.ent∧q.ent≤1023)∧(0≤q.ing∧q.ing≤256)∧(0≤q.proto∧q.proto≤7)∧q.pay.size≤64:=fun q hq=>by
  rw[oZ]at hq
  obtain⟨L,m,d,s,t,e,i,pr,y,B,w,T',h1,_,h2,h3,h4,h5,h6,_⟩:=um T;rw[h1]at hq
  subst hq;exact⟨h2,h3,h4,h5,by simp only;omega⟩
 have hset:∀T',0≤(jB T' p).1∧(jB T' p).1≤31:=fun T'=>by
  unfold jB;split
  ·simp
  ·exact uH hl
 unfold mM;simp only;have hq:=hpk _ rfl;have hb:=iE (set:=(jB (bY T 0).2 p).1) hl p.es (jB (bY T 0).2 p).2 0#64 (by simp);split
 ·refine yL hs hl hq (hset _) fun k hk hk2=>?_
  rcases (or_bit _ _).1 hk2 with hk2|hk2
  ·exact hb k hk hk2
  ·exact uf _ hl k hk hk2
 ·exact yL hs hl hq (hset _) hb
def Pk.live(q:Pk)(n:Int):Pk:=⟨q.mode,q.bF,q.set,q.len,n,q.ent,q.ing,q.proto,q.bits,q.pay⟩
theorem zo.live{p:Pn}{q:Pk}(h:zo p q){n:Int}(hn:0≤n∧n≤63):zo p (q.live n):=by
 obtain⟨h1,h2,h3,h4⟩:=h;obtain⟨a1,a2,a3,a4,a5,a6⟩:=(zV q).1 h1;exact⟨(zV _).2 ⟨a1,a2,a3,a4,hn,a6⟩,h2,h3,h4⟩
theorem wW(g:ay)(l:List Tb)(q:Int×Fr)(t:dQ):(jw g l q t).dl.length≤t.dl.length+64∧(jw g l q t).cr.length≤t.cr.length+64∧(jw g l q t).ls.length≤t.ls.length+64:=by
 have h1:(Au q.1 (iD g l q) q.2.pk).length≤64:=by unfold Au nI;rw[List.length_map];exact iT _
 have h2:=yh g l q;unfold jw;refine⟨by simp only[List.length_append];omega,by simp only[List.length_append,List.length_map];omega,?_⟩;simp only;split
 ·omega
 ·simp
theorem rF(g:ay)(l:List Tb):∀(n:Nat) (Q:List (Int×Fr)) (t:dQ),(pR g l n Q t).dl.length≤t.dl.length+64*n∧(pR g l n Q t).cr.length≤t.cr.length+64*n∧(pR g l n Q t).ls.length≤t.ls.length+64*n
 | 0,Q,t=>by simp[pR]
 | n+1,[],t=>by rw[lN];omega
 | n+1,q::Q,t=>by
   have h1:=rF g l n (Q++eP g l q) (jw g l q t);have h2:=wW g l q t;rw[pR];omega
theorem rH(g:ay)(l:List Tb)(p:Pk)(r:Int):(mZ g l p r).1.dl.length≤100000000∧(mZ g l p r).1.cr.length≤100000000∧(mZ g l p r).1.ls.length≤100000000:=by
 rw[xW];split
 ·simp[gX]
 ·rename_i h;split
  ·have h2:p.ok=true:=by
    cases hp:p.ok with
    | true=>rfl
    | false=>exact absurd (.inr (.inr hp)) h
   have h3:=rF g l (PX ⟨[],p⟩) [(r,⟨[],p⟩)] gX;have h4:=Le h2;simp only[runT,gX,List.length_nil]at h3⊢;omega
  ·simp[gX]
theorem TR(T:Tp)(hT:ak T)(a b:Int)(h :-1000≤a∧a≤b∧b≤1000):Contract Tryz.prog 34 [.ptr (.x 0) 0,.d (.int .i64 a),.d (.int .i64 b)] [aJ T] (.d (.int .i64 (aT T a b).1)) [aJ (aT T a b).2] []:=by
 have h1:=aS T a b;have h2:=aQ T (a:=a) (b:=b) (by omega);exact dw T hT a b ⟨by omega,by omega⟩ ⟨by omega,by omega⟩ ⟨by omega,by omega⟩ ⟨by omega,by omega⟩
theorem rV(T:Tp)(hT:ak T)(most:Int)(hm:1≤most∧most≤24):Contract Tryz.prog 16 [.ptr (.x 0) 0,.d (.int .i64 most)] [aJ T] (aH (bW T most).1) [aJ (bW T most).2] []:=by
 refine aj Tryz.func16 rfl (fun E0=>?_);refine cO.sound (g:=.mk) (ow:=[]) (kp:=(fun k=>k==0||k==1||k==4||k==5||k==6||k==14)) ?_;rw[Tryz.ntmps16];simp -dsimp;refine ah.of (zl T hT most hm) [.x 0] 1000 ?_;have kG:ak (dG T most).2:=by simpa using hT
 have hlen:(dG T most).1.rs.length≤24:=by
  have:=aQ T (a:=1) (b:=most) (by omega);simp[dG,cu];omega
 generalize hG:dG T most=G at kG hlen⊢;simp -dsimp;refine aN.of [] (fun k=>k==0||k==1||k==4||k==5||k==6||k==14) (ι:={z:Nat×Tp×List Rt // z.1≤G.1.rs.length∧ak z.2.1∧z.2.2.length=G.1.rs.length∧iy G.1.rs G.2=(z.2.2.take z.1++(iy (z.2.2.drop z.1) z.2.1).1,(iy (z.2.2.drop z.1) z.2.1).2)})
  (fun z=>[(Pl.s 0,It.v (.ptr (Pl.x 0) 0)),(Pl.s 1,It.v (.d (.int .i64 most))),(Pl.x 0,aJ z.1.2.1),
   (Pl.o 4,It.box [TV.c (Value.slice none 0 0),TV.c (Value.slice none 0 0)]),(Pl.s 4,It.v (.ptr (Pl.o 4) 0)),
   (Pl.o 2000,It.row 117 2 (dd (rts z.1.2.2)) false),(Pl.o 5,It.box [TV.aB 2000 G.1.rs.length,TV.d (.sl (dO G.1.ls))]),(Pl.s 5,It.v (.ptr (Pl.o 5) 0)),
   (Pl.s 6,It.v (.d (.int .i64 z.1.1)))]) (fun z=>G.1.rs.length-z.1.1) ⟨(0,G.2,G.1.rs),by simp,kG,rfl,by simp⟩ ?_ ?_
 ·exact GS.to (by simp)
 ·rintro⟨⟨i,T1,L⟩,i1,i2,i3,i4⟩;simp only at i1 i2 i3 i4;have hrl:(rts L).length=G.1.rs.length:=by simp[rts,i3]
  by_cases hi:i<G.1.rs.length
  ·have hiz:(i:Int)<G.1.rs.length:=by omega
   have hil:i<L.length:=by omega
   have hg:L[i]? = some L[i]:=List.getElem?_eq_getElem hil;have hd:L.drop i=L[i]::L.drop (i+1):=List.drop_eq_getElem_cons _;generalize L[i]=x at hg hd;have hgr:(dd (rts L))[i]? = some [TV.d (.int .i64 x.id),TV.d (.bool x.cap)]:=by simp[dd,rts,hg,Rt.cs]
   simp -dsimp[hiz,i3,hrl];and_intros;all_goals try first|rfl|omega|exact⟨by kernel_rfl⟩
   refine ah.of (gK T1 i2 3 ⟨by omega,by omega⟩ ⟨by omega,by omega⟩) [.x 0] 0 ?_;generalize ho:dD T1 3=o;have ko:ak o.2:=by rw[←ho];simpa using i2
   simp -dsimp[hiz,i3,hrl,hgr,wrap_i64 (n:=(i:Int)+1) (by omega) (by omega)];and_intros;all_goals try first|rfl|omega|exact⟨by kernel_rfl⟩
   have hrow:(dd (rts L)).set i [TV.d (.int .i64 x.id),TV.d (.bool !o.1)]=dd (rts (L.set i ⟨x.id,!o.1⟩)):=by
    simp[dd,rts,List.map_set,Rt.cs]
   refine⟨⟨(i+1,o.2,L.set i ⟨x.id,!o.1⟩),by dsimp only;omega,ko,by simpa using i3,?_⟩,GS.to (by simp[hrow]),by simp;omega⟩;rw[i4,hd,iy];simp only[ho];have e1:(L.set i ⟨x.id,!o.1⟩).take (i+1)=L.take i++[⟨x.id,!o.1⟩]:=by
    rw[List.take_add_one,List.getElem?_set_self hil,List.take_set_of_le (Nat.le_refl _)];rfl
   have e2:(L.set i ⟨x.id,!o.1⟩).drop (i+1)=L.drop (i+1):=List.drop_set_of_lt (by omega);rw[e1,e2];simp
  ·obtain rfl:i=G.1.rs.length:=by omega
   simp -dsimp[hrl];refine Fin.box (.o 4) rfl ?_;simp -dsimp[hrl];refine Fin.of ?_;have e0:L.drop G.1.rs.length = []:=List.drop_eq_nil_of_le (by omega);have e1:L.take G.1.rs.length=L:=List.take_of_length_le (by omega);simp only[e0,e1,iy,List.append_nil]at i4;simp[bW,hG,i4,aH]
theorem uF(T:Tp){most:Int}(hm:1≤most∧most≤24):1≤(dG T most).1.rs.length∧(dG T most).1.rs.length≤24∧(dG T most).1.ls.length≤1000:=by
 have h1:=fO T hm;have h2:=aS T 1 most;have h3:(bW T most).1.rs.length=(dG T most).1.rs.length:=by simp[bW,fQ]
 have h4:(bW T most).1.ls=(dG T most).1.ls:=rfl;refine⟨?_,by omega,by rw[←h4];exact h1.2⟩;simp[dG,cu];omega
theorem vS(T:Tp){most:Int}(hm:1≤most∧most≤24):(bW T most).1.Fit:=by
 have h1:=uF T hm;have h3:(bW T most).1.rs.length=(dG T most).1.rs.length:=by simp[bW,fQ]
 have h4:(bW T most).1.ls=(dG T most).1.ls:=rfl;exact⟨by omega,by omega,by rw[h4];omega⟩
def bD(T:Tp)(most:Int):ay×Pn×List Tb×Tp:=
 ((bW T most).1,(dh (bW T most).2 (bW T most).1.rs 0).1,tabs (bW T most).1 (dh (bW T most).2 (bW T most).1.rs 0).1 (bW T most).1.rs,(dh (bW T most).2 (bW T most).1.rs 0).2)
theorem eF(T:Tp){most:Int}(hm:1≤most∧most≤8):QC most (bD T most).1 (bD T most).2.1 (bD T most).2.2.1:=by
 have h:=uj T hm;have hp:=qE h (by omega) (bW T most).2;exact⟨h,uI hp,hp.len,hp.bF,rfl⟩
theorem wQ(T:Tp){most:Int}(hm:1≤most∧most≤8):ak (bD T most).2.2.2=ak T∧(bD T most).2.1.es.length≤24∧1≤(bD T most).1.rs.length∧(bD T most).1.rs.length≤24∧(bD T most).1.Sm∧(bD T most).2.2.1.length≤24∧DL (bD T most).2.2.1:=by
 have hf:=vS T (most:=most) ⟨hm.1,by omega⟩;have hs:=fO T (most:=most) ⟨hm.1,by omega⟩;have hv:=eF T hm;obtain⟨h1,h2⟩:=fV (bW T most).2 (bW T most).1.rs;have ht:(bD T most).2.2.1.length≤24:=Nat.le_trans (oU _ _) hs.1;exact⟨h1.trans (by simp),Nat.le_trans h2 hs.1,hf.r1,hs.1,hf.sm,ht,⟨by omega,fun b hb=>Bc (by
  rw[hv.tab]at hb
  exact m_ hv.top.ok hv.plan b hb)⟩⟩
theorem CG(T:Tp)(hT:ak T)(most:Int)(hm:1≤most∧most≤8):Contract Tryz.prog 28 [.ptr (.x 0) 0,.d (.int .i64 most)] [aJ T] (.rG [aH (bD T most).1,bI (bD T most).2.1,.aB 6 (bD T most).2.2.1.length]) [aJ (bD T most).2.2.2] [(6,.row 65 4 (dd (oq (bD T most).2.2.1)) false)]:=by
 refine aj Tryz.func28 rfl (fun E0=>?_);refine cO.sound (g:=.mk) (ow:=[]) (kp:=(fun k=>k==0||k==1||k==4||k==5||k==6||k==7||k==8||k==9)) ?_;rw[Tryz.ntmps28];simp -dsimp;refine ah.of (rV T hT most ⟨hm.1,by omega⟩) [.x 0] 0 ?_;have kG:ak (bW T most).2:=by simpa using hT
 have hsm:=fO T (most:=most) ⟨hm.1,by omega⟩;have hD:=eF T hm;have hok:=hD.top.ok;have hpl:=hD.plan;clear hD;unfold bD at hok hpl⊢;simp only at hok hpl⊢;generalize bW T most=G at kG hsm hok hpl⊢;simp -dsimp[aH];and_intros;all_goals try first|rfl|omega|exact⟨by kernel_rfl⟩
 refine ah.of (xu G.2 kG G.1.rs G.1.ls (by omega) 0 (by omega)) [.x 0] 0 ?_;obtain⟨kP,lP⟩:=fV G.2 G.1.rs;have kG:ak (dh G.2 G.1.rs 0).2:=kP.symm▸kG;clear kP;generalize dh G.2 G.1.rs 0=p at kG lP hpl⊢;simp -dsimp[aH,bI];and_intros;all_goals try first|rfl|omega|exact⟨by kernel_rfl⟩
 refine ah.of (yC G.1 ⟨by omega,by omega⟩ hok p.1 hpl (by omega)) [] 0 ?_;generalize tabs G.1 p.1 G.1.rs=l;simp -dsimp[aH,bI];and_intros;all_goals try first|rfl|omega|exact⟨by kernel_rfl⟩
 refine Fin.of ?_;simp[aH,bI]
theorem vN(T:Tp)(hT:ak T)(most:Int)(hm:1≤most∧most≤8):Contract Tryz.prog 28 [.ptr (.x 0) 0,.d (.int .i64 most)] [aJ T] (.rG [aH (bD T most).1,bI (bD T most).2.1,.d (.sl (oq (bD T most).2.2.1))]) [aJ (bD T most).2.2.2] []:=by
 refine aj Tryz.func28 rfl (fun E0=>?_);refine cO.sound (g:=.mk) (ow:=[]) (kp:=(fun k=>k==0||k==1||k==4||k==5||k==6||k==7||k==8||k==9)) ?_;rw[Tryz.ntmps28];simp -dsimp;refine ah.of (rV T hT most ⟨hm.1,by omega⟩) [.x 0] 0 ?_;have kG:ak (bW T most).2:=by simpa using hT
 have hsm:=fO T (most:=most) ⟨hm.1,by omega⟩;have hD:=eF T hm;have hok:=hD.top.ok;have hpl:=hD.plan;clear hD;unfold bD at hok hpl⊢;simp only at hok hpl⊢;generalize bW T most=G at kG hsm hok hpl⊢;simp -dsimp[aH];and_intros;all_goals try first|rfl|omega|exact⟨by kernel_rfl⟩
 refine ah.of (xu G.2 kG G.1.rs G.1.ls (by omega) 0 (by omega)) [.x 0] 0 ?_;obtain⟨kP,lP⟩:=fV G.2 G.1.rs;have kG:ak (dh G.2 G.1.rs 0).2:=kP.symm▸kG;clear kP;generalize dh G.2 G.1.rs 0=p at kG lP hpl⊢;have hall:=FY G.1 ⟨by omega,by omega⟩ p.1 (by omega);rw[EG hok hpl]at hall
 simp only[aH,bI,allT]at hall;rw[show(tabs G.1 p.1 G.1.rs).map Tb.cs=oq (tabs G.1 p.1 G.1.rs) from rfl]at hall
 generalize tabs G.1 p.1 G.1.rs=l at hall⊢;simp -dsimp[aH,bI];and_intros;all_goals try first|rfl|omega|exact⟨by kernel_rfl⟩
 refine ah.of hall [] 0 ?_;simp -dsimp[aH,bI];and_intros;all_goals try first|rfl|omega|exact⟨by kernel_rfl⟩
 refine Fin.of ?_;simp[aH,bI]
theorem FH(t:dQ)(h1:t.dl.length≤100000000)(h2:t.cr.length≤100000000)(h3:t.ls.length≤100000000):Contract Tryz.prog 43 [qG t,qG t] [] (.d (.bool true)) [] []:=by
 refine aj Tryz.func43 rfl (fun E0=>?_);refine cO.sound (g:=.mk) (ow:=[]) (kp:=(fun k=>k==0||k==1||k==2||k==3||k==4||k==5||k==6||k==7||k==32||k==37||k==50||k==55||k==68||k==73||k==86)) ?_;rw[Tryz.ntmps43];simp -dsimp[qG];try refine⟨?_,⟨by kernel_rfl⟩⟩
 refine aN.of [] (fun k=>k==0||k==1||k==2||k==3||k==4||k==5||k==6||k==7||k==32||k==37||k==50||k==55||k==68||k==73||k==86) (ι:={i:Nat // i≤t.dl.length∧True}) (fun z=>[(Pl.o 2,It.box [TV.d (.sl (List.map lT t.dl)),TV.d (.sl (List.map lJ t.cr)),TV.d (.sl (List.map qO t.ls))]),(Pl.s 2,It.v (.ptr (Pl.o 2) 0)),(Pl.o 3,It.box [TV.d (.sl (List.map lT t.dl)),TV.d (.sl (List.map lJ t.cr)),TV.d (.sl (List.map qO t.ls))]),(Pl.s 3,It.v (.ptr (Pl.o 3) 0)),(Pl.s 4,It.v (.d (.bool false))),(Pl.s 5,It.v (.d (.int .i64 z.1)))]) (fun z=>t.dl.length-z.1) ⟨0,by omega,trivial⟩ ?_ ?_
 ·exact GS.to (by simp)
 rintro⟨i,i1,_⟩;by_cases hi:i<t.dl.length
 ·have hiz:(i:Int)<t.dl.length:=by omega
  have hg:t.dl[i]? = some t.dl[i]:=List.getElem?_eq_getElem hi;generalize t.dl[i]=x at hg;simp -dsimp[hg,hiz,lT,Pk.cs,bv,wrap_i64 (n:=(i:Int)+1) (by omega) (by omega)];and_intros;all_goals try first|omega|exact⟨by kernel_rfl⟩
  exact⟨⟨i+1,by omega,trivial⟩,GS.to (by simp[]),by simp;omega⟩
 have hiz :¬(i:Int)<t.dl.length:=by omega
 simp -dsimp[hiz];try refine⟨?_,⟨by kernel_rfl⟩⟩
 clear hi hiz i1
 refine aN.of [] (fun k=>k==0||k==1||k==2||k==3||k==4||k==5||k==6||k==7||k==32||k==37||k==50||k==55||k==68||k==73||k==86) (ι:={i:Nat // i≤t.cr.length∧True}) (fun z=>[(Pl.o 2,It.box [TV.d (.sl (List.map lT t.dl)),TV.d (.sl (List.map lJ t.cr)),TV.d (.sl (List.map qO t.ls))]),(Pl.s 2,It.v (.ptr (Pl.o 2) 0)),(Pl.o 3,It.box [TV.d (.sl (List.map lT t.dl)),TV.d (.sl (List.map lJ t.cr)),TV.d (.sl (List.map qO t.ls))]),(Pl.s 3,It.v (.ptr (Pl.o 3) 0)),(Pl.s 4,It.v (.d (.bool false))),(Pl.s 6,It.v (.d (.int .i64 z.1)))]) (fun z=>t.cr.length-z.1) ⟨0,by omega,trivial⟩ ?_ ?_
 ·exact GS.to (by simp)
 rintro⟨i,i1,_⟩;by_cases hi:i<t.cr.length
 ·have hiz:(i:Int)<t.cr.length:=by omega
  have hg:t.cr[i]? = some t.cr[i]:=List.getElem?_eq_getElem hi;generalize t.cr[i]=x at hg;simp -dsimp[hg,hiz,lJ,Pk.cs,bv,wrap_i64 (n:=(i:Int)+1) (by omega) (by omega)];and_intros;all_goals try first|omega|exact⟨by kernel_rfl⟩
  exact⟨⟨i+1,by omega,trivial⟩,GS.to (by simp[]),by simp;omega⟩
 have hiz :¬(i:Int)<t.cr.length:=by omega
 simp -dsimp[hiz];try refine⟨?_,⟨by kernel_rfl⟩⟩
 clear hi hiz i1
 refine aN.of [] (fun k=>k==0||k==1||k==2||k==3||k==4||k==5||k==6||k==7||k==32||k==37||k==50||k==55||k==68||k==73||k==86) (ι:={i:Nat // i≤t.ls.length∧True}) (fun z=>[(Pl.o 2,It.box [TV.d (.sl (List.map lT t.dl)),TV.d (.sl (List.map lJ t.cr)),TV.d (.sl (List.map qO t.ls))]),(Pl.s 2,It.v (.ptr (Pl.o 2) 0)),(Pl.o 3,It.box [TV.d (.sl (List.map lT t.dl)),TV.d (.sl (List.map lJ t.cr)),TV.d (.sl (List.map qO t.ls))]),(Pl.s 3,It.v (.ptr (Pl.o 3) 0)),(Pl.s 4,It.v (.d (.bool false))),(Pl.s 7,It.v (.d (.int .i64 z.1)))]) (fun z=>t.ls.length-z.1) ⟨0,by omega,trivial⟩ ?_ ?_
 ·exact GS.to (by simp)
 rintro⟨i,i1,_⟩;by_cases hi:i<t.ls.length
 ·have hiz:(i:Int)<t.ls.length:=by omega
  have hg:t.ls[i]? = some t.ls[i]:=List.getElem?_eq_getElem hi;generalize t.ls[i]=x at hg;simp -dsimp[hg,hiz,qO,Pk.cs,bv,wrap_i64 (n:=(i:Int)+1) (by omega) (by omega)];and_intros;all_goals try first|omega|exact⟨by kernel_rfl⟩
  exact⟨⟨i+1,by omega,trivial⟩,GS.to (by simp[]),by simp;omega⟩
 have hiz :¬(i:Int)<t.ls.length:=by omega
 simp -dsimp[hiz];try refine⟨?_,⟨by kernel_rfl⟩⟩
 clear hi hiz i1;refine Fin.of ?_;simp
def nX(l:List (Int×Int))(a b:Int):Bool:=l.any fun x=>(decide (x.1=a)&&decide (x.2=b))||(decide (x.1=b)&&decide (x.2=a))
def xJ(g:ay)(fl:List (Int×Int))(fr:List Int):ay:=
 if cZ g=0 then ⟨g.rs.filter fun x=>!decide (x.id∈fr),g.ls.filter fun x=>!decide (x.a∈fr)&&(!decide (x.b∈fr) && !nX fl x.a x.b)⟩else ⟨[],[]⟩
theorem FV{g:ay}(h:cZ g=0)(fl:List (Int×Int))(fr:List Int):cZ (xJ g fl fr)=0:=by
 have hg:=aU h;have hr:=hg.rpw;have hl:=hg.Zu;unfold xJ;rw[if_pos h];have lk:∀x∈g.ls,((1≤x.ca∧x.ca≤1000)∧(1≤x.cb∧x.cb≤1000)∧0≤x.cap∧x.cap≤1000)∧(aY g.rs x.a=true∧aY g.rs x.b=true)∧x.a<x.b:=fun x hx=>by
  have c:=List.any_eq_false.1 hg.cost x hx;have e:=List.any_eq_false.1 hg.ends x hx;have a:=List.any_eq_false.1 hg.ab x hx;simp[Lk.bad,inB]at c
  simp at e a;refine⟨⟨?_,?_,?_⟩,⟨e.1,e.2⟩,a⟩<;>omega
 refine oV (Nat.le_trans (List.length_filter_le _ _) hg.nr) (Nat.le_trans (List.length_filter_le _ _) hg.nl) (fun x hx=>?_) (hr.sublist List.filter_sublist) (fun x hx=>(lk x (List.mem_filter.1 hx).1).1) (fun x hx=>?_) (fun x hx=>(lk x (List.mem_filter.1 hx).1).2.2) (hl.sublist List.filter_sublist)
 ·have:=List.any_eq_false.1 hg.ids x (List.mem_filter.1 hx).1;simp[inB]at this
  omega
 ·obtain⟨h1,h2⟩:=List.mem_filter.1 hx;have h3:=(lk x h1).2.1;simp only[Bool.and_eq_true,Bool.not_eq_true',decide_eq_false_iff_not]at h2;have sub:∀{r:Int},aY g.rs r=true→r∉fr→aY (g.rs.filter fun x=>!decide (x.id∈fr)) r=true:=fun {r} h4 h5=>by
   obtain⟨y,hy,rfl⟩:=List.mem_map.1 (dH.1 h4);exact dH.2 (List.mem_map.2 ⟨y,List.mem_filter.2 ⟨hy,by simpa using h5⟩,rfl⟩)
  exact⟨sub h3.1 h2.1,sub h3.2 h2.2.1⟩
def jL(x:Int×Int):List D:=[.int .i64 x.1,.int .i64 x.2]
abbrev Fl:=List (Int×Int)×List Int
def rM(f:Fl):TV:=.agg [.d (.sl (f.1.map jL)),.d (ints f.2)]
def pX(T:Tp)(g:ay):Fl×Tp:=if g.rs.length=0 then(([],[]),T)else(([],[(g.rs.getD (au T g.rs.length).1.toNat ⟨0,false⟩).id]),(au T g.rs.length).2)
def vP(T:Tp)(g:ay):Fl×Tp:=
 let b:=au T g.ls.length
 let c:=au b.2 2
 let x:=g.ls.getD b.1.toNat XM
 ((if c.1=0 then [(x.b,x.a)]else [(x.a,x.b)],[]),c.2)
def dW(T:Tp)(g:ay):Fl×Tp:=
 if 0<g.ls.length then(if 0<(au T 3).1 then vP (au T 3).2 g else pX (au T 3).2 g)else pX T g
theorem yg(T:Tp)(g:ay):ak (pX T g).2=ak T:=by
 unfold pX;split<;>simp[dP]
theorem ES(T:Tp)(g:ay):ak (vP T g).2=ak T:=by
 unfold vP;simp[dP]
theorem nS(T:Tp)(g:ay):ak (dW T g).2=ak T:=by
 unfold dW;split
 ·split
  ·rw[ES,dP]
  ·rw[yg,dP]
 ·rw[yg]
theorem oC(T:Tp)(g:ay):(dW T g).1.1.length≤1∧(dW T g).1.2.length≤1:=by
 unfold dW vP pX;split
 ·split
  ·simp only;split<;>simp
  ·split<;>simp
 ·split<;>simp
def tJ(f:Fl):List (Nat×It):=[(6,It.row 157 2 (dd (f.1.map jL)) false),(7,It.row 3 1 (dd (dJ .i64 f.2)) false)]
def tK(f:Fl):TV:=.agg [.aB 6 f.1.length,.aB 7 f.2.length]
theorem D5(T:Tp)(hT:ak T)(g:ay)(hs:g.Sm):Contract Tryz.prog 95 [.ptr (.x 0) 0,aH g] [aJ T] (tK (dW T g).1) [aJ (dW T g).2] (tJ (dW T g).1):=by
 have hr:=hs.r;have hl:=hs.l;have key:∀T':Tp,True:=fun _=>trivial
 obtain⟨w,hw⟩:∃w,w=dW T g:=⟨_,rfl⟩
 rw[←hw];refine aj Tryz.func95 rfl (fun E0=>?_);refine cO.sound (g:=.mk) (ow:=[32,39,56,2000032,2000039,2000056]) (kp:=(fun k=>k==0||k==1||k==3||k==4||k==5||k==14||k==26||k==44)) ?_;rw[Tryz.ntmps95];by_cases c0:0<g.ls.length
 ·have Jr:(0:Int)<g.ls.length:=by omega
  have n3:=bn T hT 3 ⟨by omega,by omega⟩;have a1:=aC T 3;have a2:=bg T (n:=3) (by omega);have aO:=dP T 3;unfold dW at hw;rw[if_pos c0]at hw
  generalize au T 3=a at n3 a1 a2 aO hw;obtain⟨a,Ta⟩:=a;simp only at a1 a2 aO hw;simp -dsimp[aH,Jr,c0];refine ah.of n3 [.x 0] 0 ?_;by_cases c1:0<a
  ·rw[if_pos c1]at hw
   have hTa:ak Ta:=by rw[aO];exact hT
   have n4:=bn Ta hTa g.ls.length ⟨by omega,by omega⟩;unfold vP at hw;have b1:=aC Ta g.ls.length;have b2:=bg Ta (n:=g.ls.length) (by omega);have bO:=dP Ta g.ls.length;generalize au Ta g.ls.length=b at n4 b1 b2 bO hw;obtain⟨b,Tb⟩:=b;simp only at b1 b2 bO hw;have hTb:ak Tb:=by rw[bO];exact hTa
   obtain⟨k,rfl⟩:∃k:Nat,b=k:=⟨b.toNat,by omega⟩
   have hkl:k<g.ls.length:=by omega
   have hx:g.ls[k]? = some g.ls[k]:=List.getElem?_eq_getElem hkl;have hxd:g.ls.getD k XM=g.ls[k]:=by simp[hkl]
   rw[Int.toNat_natCast,hxd]at hw
   generalize g.ls[k]=x at hx hw;have hx':=o8 hx;have n5:=bn Tb hTb 2 ⟨by omega,by omega⟩;generalize au Tb 2=c at n5 hw;obtain⟨c,Tc⟩:=c;simp only at hw;simp -dsimp[c1];and_intros;all_goals try first|rfl|omega|exact⟨by kernel_rfl⟩
   refine ah.of n4 [.x 0] 0 ?_;simp -dsimp[hx',Lk.cs];and_intros;all_goals try first|rfl|omega|exact⟨by kernel_rfl⟩
   refine ah.of n5 [.x 0] 0 ?_;by_cases c2:c=0
   ·rw[if_pos c2]at hw
    simp -dsimp[c2];and_intros;all_goals try first|rfl|omega|exact⟨by kernel_rfl⟩
    refine Fin.gs ((GS.gq (l':=[(Pl.x 0,aJ Tc),(Pl.o 4,It.box [TV.aB 32 1,TV.aB 7 0]),(Pl.s 4,It.v (.ptr (Pl.o 4) 0)),(Pl.o 32,It.row 157 2 [[TV.d (.int .i64 x.b),TV.d (.int .i64 x.a)]] false),(Pl.o 7,It.row 3 1 [] false)]) (.o 4) 1 7 (cs:=[TV.aB 32 1,TV.c (.slice none 0 0)]) 3 1 rfl (by simp) (by simp) (by simp) (by simp)).trans
     (GS.ren' (l':=[(Pl.x 0,aJ Tc),(Pl.o 4,It.box [TV.aB 6 1,TV.aB 7 0]),(Pl.s 4,It.v (.ptr (Pl.o 4) 0)),(Pl.o 6,It.row 157 2 [[TV.d (.int .i64 x.b),TV.d (.int .i64 x.a)]] false),(Pl.o 7,It.row 3 1 [] false)]) 32 6 (by decide) (by simp) (by simp[aJ]))) ?_
    refine Fin.of ?_;simp[hw,tK,tJ,jL,dJ]
   ·rw[if_neg c2]at hw
    simp -dsimp[c2];and_intros;all_goals try first|rfl|omega|exact⟨by kernel_rfl⟩
    refine Fin.gs ((GS.gq (l':=[(Pl.x 0,aJ Tc),(Pl.o 4,It.box [TV.aB 39 1,TV.aB 7 0]),(Pl.s 4,It.v (.ptr (Pl.o 4) 0)),(Pl.o 39,It.row 157 2 [[TV.d (.int .i64 x.a),TV.d (.int .i64 x.b)]] false),(Pl.o 7,It.row 3 1 [] false)]) (.o 4) 1 7 (cs:=[TV.aB 39 1,TV.c (.slice none 0 0)]) 3 1 rfl (by simp) (by simp) (by simp) (by simp)).trans
     (GS.ren' (l':=[(Pl.x 0,aJ Tc),(Pl.o 4,It.box [TV.aB 6 1,TV.aB 7 0]),(Pl.s 4,It.v (.ptr (Pl.o 4) 0)),(Pl.o 6,It.row 157 2 [[TV.d (.int .i64 x.a),TV.d (.int .i64 x.b)]] false),(Pl.o 7,It.row 3 1 [] false)]) 39 6 (by decide) (by simp) (by simp[aJ]))) ?_
    refine Fin.of ?_;simp[hw,tK,tJ,jL,dJ]
  ·have hTa:ak Ta:=by rw[aO];exact hT
   rw[if_neg c1]at hw
   unfold pX at hw;have hgr:g.rs.length=0∨0<g.rs.length:=by omega
   rcases hgr with hg0|hg0
   ·have hgn:g.rs = []:=List.length_eq_zero_iff.1 hg0;rw[if_pos hg0]at hw
    simp -dsimp[hgn,c1];and_intros;all_goals try first|rfl|omega|exact⟨by kernel_rfl⟩
    refine Fin.gs ((GS.gq (l':=[(Pl.x 0,aJ Ta),(Pl.o 4,It.box [TV.aB 6 0,TV.c (.slice none 0 0)]),(Pl.s 4,It.v (.ptr (Pl.o 4) 0)),(Pl.o 6,It.row 157 2 [] false)]) (.o 4) 0 6 (cs:=[TV.c (.slice none 0 0),TV.c (.slice none 0 0)]) 157 2 rfl (by simp) (by simp) (by simp) (by simp)).trans
     (GS.gq (l':=[(Pl.x 0,aJ Ta),(Pl.o 4,It.box [TV.aB 6 0,TV.aB 7 0]),(Pl.s 4,It.v (.ptr (Pl.o 4) 0)),(Pl.o 6,It.row 157 2 [] false),(Pl.o 7,It.row 3 1 [] false)]) (.o 4) 1 7 (cs:=[TV.aB 6 0,TV.c (.slice none 0 0)]) 3 1 rfl (by simp) (by simp) (by simp) (by simp))) ?_
    refine Fin.of ?_;simp[hw,tK,tJ,jL,dJ]
   ·have hgn :¬g.rs = []:=fun e=>by rw[e]at hg0;simp at hg0
    have hg0' :¬g.rs.length=0:=by omega
    rw[if_neg hg0']at hw
    have n6:=bn Ta hTa g.rs.length ⟨by omega,by omega⟩;have e1:=aC Ta g.rs.length;have e2:=bg Ta (n:=g.rs.length) (by omega);generalize au Ta g.rs.length=b at n6 e1 e2 hw;obtain⟨b,Tz⟩:=b;simp only at e1 e2 hw;obtain⟨k,rfl⟩:∃k:Nat,b=k:=⟨b.toNat,by omega⟩
    have hkl:k<g.rs.length:=by omega
    have hx:g.rs[k]? = some g.rs[k]:=List.getElem?_eq_getElem hkl;have hxd:g.rs.getD k ⟨0,false⟩ = g.rs[k]:=by simp[hkl]
    rw[Int.toNat_natCast,hxd]at hw
    generalize g.rs[k]=x at hx hw;have hx':=fF hx;simp -dsimp[hgn,c1];and_intros;all_goals try first|rfl|omega|exact⟨by kernel_rfl⟩
    refine ah.of n6 [.x 0] 0 ?_;simp -dsimp[hx',Rt.cs];and_intros;all_goals try first|rfl|omega|exact⟨by kernel_rfl⟩
    refine Fin.gs ((GS.gq (l':=[(Pl.x 0,aJ Tz),(Pl.o 4,It.box [TV.aB 6 0,TV.aB 56 1]),(Pl.s 4,It.v (.ptr (Pl.o 4) 0)),(Pl.o 56,It.row 3 1 [[TV.d (.int .i64 x.id)]] false),(Pl.o 6,It.row 157 2 [] false)]) (.o 4) 0 6 (cs:=[TV.c (.slice none 0 0),TV.aB 56 1]) 157 2 rfl (by simp) (by simp) (by simp) (by simp)).trans
     (GS.ren' (l':=[(Pl.x 0,aJ Tz),(Pl.o 4,It.box [TV.aB 6 0,TV.aB 7 1]),(Pl.s 4,It.v (.ptr (Pl.o 4) 0)),(Pl.o 7,It.row 3 1 [[TV.d (.int .i64 x.id)]] false),(Pl.o 6,It.row 157 2 [] false)]) 56 7 (by decide) (by simp) (by simp[aJ]))) ?_
    refine Fin.of ?_;simp[hw,tK,tJ,jL,dJ]
 ·have c0e:g.ls.length=0:=by omega
  have c0n:g.ls = []:=List.length_eq_zero_iff.1 c0e;unfold dW pX at hw;rw[if_neg c0]at hw
  have hgr:g.rs.length=0∨0<g.rs.length:=by omega
  rcases hgr with hg0|hg0
  ·have hgn:g.rs = []:=List.length_eq_zero_iff.1 hg0;rw[if_pos hg0]at hw
   simp -dsimp[hgn,c0n,aH];and_intros;all_goals try first|rfl|omega|exact⟨by kernel_rfl⟩
   refine Fin.gs ((GS.gq (l':=[(Pl.x 0,aJ T),(Pl.o 4,It.box [TV.aB 6 0,TV.c (.slice none 0 0)]),(Pl.s 4,It.v (.ptr (Pl.o 4) 0)),(Pl.o 6,It.row 157 2 [] false)]) (.o 4) 0 6 (cs:=[TV.c (.slice none 0 0),TV.c (.slice none 0 0)]) 157 2 rfl (by simp) (by simp) (by simp) (by simp)).trans
    (GS.gq (l':=[(Pl.x 0,aJ T),(Pl.o 4,It.box [TV.aB 6 0,TV.aB 7 0]),(Pl.s 4,It.v (.ptr (Pl.o 4) 0)),(Pl.o 6,It.row 157 2 [] false),(Pl.o 7,It.row 3 1 [] false)]) (.o 4) 1 7 (cs:=[TV.aB 6 0,TV.c (.slice none 0 0)]) 3 1 rfl (by simp) (by simp) (by simp) (by simp))) ?_
   refine Fin.of ?_;simp[hw,tK,tJ,jL,dJ]
  ·have hgn :¬g.rs = []:=fun e=>by rw[e]at hg0;simp at hg0
   have hg0' :¬g.rs.length=0:=by omega
   rw[if_neg hg0']at hw
   have n6:=bn T hT g.rs.length ⟨by omega,by omega⟩;have e1:=aC T g.rs.length;have e2:=bg T (n:=g.rs.length) (by omega);generalize au T g.rs.length=b at n6 e1 e2 hw;obtain⟨b,Tz⟩:=b;simp only at e1 e2 hw;obtain⟨k,rfl⟩:∃k:Nat,b=k:=⟨b.toNat,by omega⟩
   have hkl:k<g.rs.length:=by omega
   have hx:g.rs[k]? = some g.rs[k]:=List.getElem?_eq_getElem hkl;have hxd:g.rs.getD k ⟨0,false⟩ = g.rs[k]:=by simp[hkl]
   rw[Int.toNat_natCast,hxd]at hw
   generalize g.rs[k]=x at hx hw;have hx':=fF hx;simp -dsimp[hgn,c0n,aH];and_intros;all_goals try first|rfl|omega|exact⟨by kernel_rfl⟩
   refine ah.of n6 [.x 0] 0 ?_;simp -dsimp[hx',Rt.cs];and_intros;all_goals try first|rfl|omega|exact⟨by kernel_rfl⟩
   refine Fin.gs ((GS.gq (l':=[(Pl.x 0,aJ Tz),(Pl.o 4,It.box [TV.aB 6 0,TV.aB 56 1]),(Pl.s 4,It.v (.ptr (Pl.o 4) 0)),(Pl.o 56,It.row 3 1 [[TV.d (.int .i64 x.id)]] false),(Pl.o 6,It.row 157 2 [] false)]) (.o 4) 0 6 (cs:=[TV.c (.slice none 0 0),TV.aB 56 1]) 157 2 rfl (by simp) (by simp) (by simp) (by simp)).trans
    (GS.ren' (l':=[(Pl.x 0,aJ Tz),(Pl.o 4,It.box [TV.aB 6 0,TV.aB 7 1]),(Pl.s 4,It.v (.ptr (Pl.o 4) 0)),(Pl.o 7,It.row 3 1 [[TV.d (.int .i64 x.id)]] false),(Pl.o 6,It.row 157 2 [] false)]) 56 7 (by decide) (by simp) (by simp[aJ]))) ?_
   refine Fin.of ?_;simp[hw,tK,tJ,jL,dJ]
def gV(g:ay):Nat→Fl→Tp→Fl×Tp
 | 0,f,T=>(f,T)
 | k+1,f,T=>gV g k (f.1++(dW T g).1.1,f.2++(dW T g).1.2) (dW T g).2
def vk(f:Fl)(T:Tp):Fl×Tp:=
 let a:=au T 9
 let b:=au a.2 9
 let c:=aK b.2 [0,77,-1]
 ((f.1++[(a.1,b.1)],f.2++[c.1]),c.2)
def jh(T:Tp)(g:ay):Fl×Tp:=
 let f:=dW T g
 let k:=au f.2 3
 let x:=gV g k.1.toNat f.1 k.2
 let o:=dD x.2 6
 if o.1=true then vk x.1 o.2 else(x.1,o.2)
theorem pY(g:ay):∀(k:Nat) (f:Fl) (T:Tp),ak (gV g k f T).2=ak T
 | 0,_,_=>rfl
 | k+1,f,T=>by rw[gV,pY g k,nS]
theorem BK(T:Tp)(g:ay):ak (jh T g).2=ak T:=by
 unfold jh vk;simp only;split
 ·simp only[Mc,dP,oW,pY,nS]
 ·simp only[dP,oW,pY,nS]
theorem tV(g:ay):∀(k:Nat) (f:Fl) (T:Tp),(gV g k f T).1.1.length≤f.1.length+k∧(gV g k f T).1.2.length≤f.2.length+k
 | 0,_,_=>by simp[gV]
 | k+1,f,T=>by
   have h1:=tV g k (f.1++(dW T g).1.1,f.2++(dW T g).1.2) (dW T g).2;have h2:=oC T g;simp only[List.length_append]at h1;rw[gV];omega
theorem zL(T:Tp)(g:ay):(jh T g).1.1.length≤5∧(jh T g).1.2.length≤5:=by
 have h1:=oC T g;have h2:=tV g (au (dW T g).2 3).1.toNat (dW T g).1 (au (dW T g).2 3).2;have h3:=bg (dW T g).2 (n:=3) (by omega);have h4:=aC (dW T g).2 3;unfold jh vk;simp only;split
 ·simp only[List.length_append,List.length_cons,List.length_nil];omega
 ·simp only;omega
end Go.Proofs
