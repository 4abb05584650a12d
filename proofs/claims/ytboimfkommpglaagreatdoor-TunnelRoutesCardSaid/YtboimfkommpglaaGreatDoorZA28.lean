/-
  What functions of the program compute, stated as contracts over plain data; the conditions of each stand in its own statement.
-/
import Derived.Test.YtboimfkommpglaaGreatDoorZA27
import Derived.Test.YtboimfkommpglaaGreatDoorZA20
import Derived.Test.YtboimfkommpglaaGreatDoorZA21
set_option linter.unusedSimpArgs false
set_option linter.unusedVariables false
set_option maxRecDepth 100000
set_option maxHeartbeats 16000000
namespace Go.Proofs
open Go Go.Tr
def nD(o:Ox):TV:=.agg [.d (bv o.loc),.d (bv o.lost),.d (.sl (o.g_.map n_))]
theorem ahG(g:ay)(hs:g.Sm)(r n:Int):Contract Tryz.prog 103 [.d (.int .i64 n),.ptr (.x 0) 0,.ptr (.x 1) 0] [It.box [TV.d (.sl (rts g.rs)),TV.d (.sl (dO g.ls))],.box [.d (.int .i64 r)]] (.d (.bool (La g r n).isSome)) [It.box [TV.d (.sl (rts g.rs)),TV.d (.sl (dO g.ls))],.box [.d (.int .i64 r)]] []:=by
 have h1:=ahI g hs r n;simp only[aH,mO]at h1;refine aj Tryz.func103 rfl (fun E0=>?_);refine cO.sound (g:=.mk) (ow:=[]) (kp:=(fun k=>k==0||k==1||k==2||k==4||k==6)) ?_;rw[Tryz.ntmps103];simp -dsimp;refine ah.of h1 [] 0 ?_;simp -dsimp;and_intros;all_goals try first|rfl|omega|exact⟨by kernel_rfl⟩
 refine Fin.of ?_;simp
theorem ahL(g:ay)(hs:g.Sm)(r n:Int)(w:List Int)(hw:w.length≤1000000)(p:Pk):
  Contract Tryz.prog 102 [xK ⟨n::w,p⟩,.clo 103 [.ptr (.x 0) 0,.ptr (.x 1) 0]] [It.box [TV.d (.sl (rts g.rs)),TV.d (.sl (dO g.ls))],.box [.d (.int .i64 r)]]
   (nD (if(La g r n).isSome then ⟨0#64,0#64,[(n,⟨w,p⟩)]⟩else ⟨0#64,p.bits,[]⟩)) [It.box [TV.d (.sl (rts g.rs)),TV.d (.sl (dO g.ls))],.box [.d (.int .i64 r)]] []:=by
 have h1:=ahG g hs r n;have h2:=Wx w hw;have hok:aZ Tryz.prog 103=true:=by kernel_rfl
 simp only[ints]at h2;generalize (La g r n).isSome=q at h1⊢;refine aj Tryz.func102 rfl (fun E0=>?_);refine cO.sound (g:=.mk) (ow:=[]) (kp:=(fun k=>k==0||k==1||k==2||k==4||k==11)) ?_;rw[Tryz.ntmps102];simp -dsimp[xK,vH,ints,Pk.cs];refine ah.of h1 [.x 0,.x 1] 0 ?_;cases q with
 | false=>
   simp -dsimp[hok,ints,Pk.cs];and_intros;all_goals try first|rfl|omega|exact⟨by kernel_rfl⟩
   refine Fin.box (.o 4) rfl ?_;simp -dsimp;refine Fin.of ?_;simp[nD,bv]
 | true=>
   simp -dsimp[hok,ints,Pk.cs];and_intros;all_goals try first|rfl|omega|exact⟨by kernel_rfl⟩
   refine ah.of h2 [] 0 ?_;simp -dsimp[ints,Pk.cs];refine⟨List.take_of_length_le (by simp),?_,⟨by kernel_rfl⟩⟩;refine Fin.box (.o 4) rfl ?_;simp -dsimp;refine Fin.of ?_;simp[nD,n_,bv,Pk.cs,ints]
theorem Es{g:ay}{r:Int}{cs:List (Int×Pk)}{i:Nat}{c:Int×Pk}(h:cs[i]? = some c)(o:Ox):(cs.take (i+1)).foldl (wG g r) o=wG g r ((cs.take i).foldl (wG g r) o) c:=by
 rw[List.take_add_one,h,Option.toList_some,List.foldl_append];rfl
theorem O6{g:ay}{r:Int}{c:Int×Pk}{x:Int×Fr}(h:jZ g r c=some x)(o:Ox):wG g r o c=⟨o.loc,o.lost,o.g_++[x]⟩:=by unfold wG;rw[h]
theorem O5{g:ay}{r:Int}{c:Int×Pk}(h:jZ g r c=none)(o:Ox):wG g r o c=⟨o.loc,o.lost|||c.2.bits,o.g_⟩:=by unfold wG;rw[h]
theorem Qz(g:ay)(r:Int)(cs:List (Int×Pk))(o:Ox):(cs.foldl (wG g r) o).g_.length≤o.g_.length+cs.length:=by
 rw[(wH g r cs o).2.1,List.length_append];have:=List.length_filterMap_le (jZ g r) cs;omega
theorem NJ(g:ay)(hs:g.Sm)(l:List Tb)(hl:DL l)(r:Int)(f:Fr)(hf:f.rt.length≤100000):
  Contract Tryz.prog 35 [aH g,.d (.sl (oq l)),.d (.int .i64 r),xK f] [] (.rG [nD (iZ g l r f).1,.d (.int .i64 (iZ g l r f).2)]) [] []:=by
 obtain⟨rt,p⟩:=f;have h1:=FQ g hs.r hs.l;have h2:=XZ l hl;have h3:=agq ⟨rt,p⟩ (by simp only at hf⊢;omega);have h4:=aeD l hl r;have h5:=agh g hs r;simp only at hf;simp only[aH]at h1 h5;simp only[xK,vH,ints,Pk.cs,List.map]at h3;obtain⟨w,hw⟩:∃w,w=iZ g l r ⟨rt,p⟩:=⟨_,rfl⟩
 rw[←hw];refine aj Tryz.func35 rfl (fun E0=>?_);refine cO.sound (g:=.mk) (ow:=[]) (kp:=(fun k=>k==0||k==1||k==2||k==3||k==4||k==6||k==7||k==8||k==9||k==10||k==11||k==12||k==13||k==14||k==16||k==17||k==18||k==31||k==52||k==57||k==69||k==78||k==79||k==80||k==81||k==91)) ?_;rw[Tryz.ntmps35];simp -dsimp[aH,xK,vH,ints,Pk.cs];refine ah.of h1 [] 0 ?_;by_cases c0:cZ g=0
 case neg=>
  have vw:w=(zn,1):=hw.trans (by unfold iZ;rw[if_pos (.inl c0)]);simp -dsimp[c0];and_intros;all_goals try first|rfl|omega|exact⟨by kernel_rfl⟩
  refine Fin.box (.o 8) rfl ?_;simp -dsimp;refine Fin.of ?_;simp[vw,nD,zn,bv]
 simp -dsimp[c0];and_intros;all_goals try first|rfl|omega|exact⟨by kernel_rfl⟩
 refine ah.of h2 [] 0 ?_;by_cases c1:nR l=0
 case neg=>
  have vw:w=(zn,1):=hw.trans (by unfold iZ;rw[if_pos (.inr (.inl c1))]);simp -dsimp[c1];and_intros;all_goals try first|rfl|omega|exact⟨by kernel_rfl⟩
  refine Fin.box (.o 8) rfl ?_;simp -dsimp;refine Fin.of ?_;simp[vw,nD,zn,bv]
 simp -dsimp[c1,ints,Pk.cs];and_intros;all_goals try first|rfl|omega|exact⟨by kernel_rfl⟩
 refine ah.of h3 [] 0 ?_;rcases (Bool.eq_false_or_eq_true (frB ⟨rt,p⟩)).symm with c2|c2
 ·have vw:w=(zn,1):=hw.trans (by unfold iZ;rw[if_pos (.inr (.inr c2))]);simp -dsimp[c2];and_intros;all_goals try first|rfl|omega|exact⟨by kernel_rfl⟩
  refine Fin.box (.o 8) rfl ?_;simp -dsimp;refine Fin.of ?_;simp[vw,nD,zn,bv]
 have hw1:w=if aY g.rs r=false then(zn,4)
   else match rt with
    | n::w=>(qP g r n w p,0)
    | []=>match bH l r with
      | none=>(zn,4)
      | some b=>if(jC b p).2≠0 then(zn,(jC b p).2)else((jC b p).1.g_.foldl (wG g r) ⟨(jC b p).1.loc,(jC b p).1.lost,[]⟩,0):=
  hw.trans (by unfold iZ;rw[if_neg (by simp[c0,c1,c2])];rfl)
 simp -dsimp[c2];and_intros;all_goals try first|rfl|omega|exact⟨by kernel_rfl⟩
 simp only[su,bZ]at h4;refine ah.of h4 [] 0 ?_;simp -dsimp;and_intros;all_goals try first|rfl|omega|exact⟨by kernel_rfl⟩
 refine ah.of h5 [] 0 ?_;rcases (Bool.eq_false_or_eq_true (aY g.rs r)).symm with c3|c3
 ·have vw:w=(zn,4):=hw1.trans (if_pos c3);simp -dsimp[c0,c3];and_intros;all_goals try first|rfl|omega|exact⟨by kernel_rfl⟩
  refine Fin.box (.o 8) rfl ?_;simp -dsimp;refine Fin.of ?_;simp[vw,nD,zn,bv]
 rw[if_neg (by simp[c3])]at hw1
 cases rt with
 | cons n rt=>
   have h6:=ahL g hs r n rt (by simp at hf;omega) p;simp only[xK,vH,ints,Pk.cs,List.map,agd c0]at h6;have e:qP g r n rt p=if(price g.ls r n).isSome then ⟨0#64,0#64,[(n,⟨rt,p⟩)]⟩else ⟨0#64,p.bits,[]⟩:=rfl
   rw[←e]at h6
   simp only at hw1;generalize qP g r n rt p=o at h6 hw1;obtain⟨lC,fP,bP⟩:=o;simp only[nD]at h6;have hz :¬((rt.length:Int)+1=0):=by omega
   have hz2:(0:Int)<(rt.length:Int)+1:=by omega
   simp -dsimp[c0,c3,hz,hz2,ints,Pk.cs];and_intros;all_goals try first|rfl|omega|exact⟨by kernel_rfl⟩
   refine ah.of h6 [.o 4,.o 6] 0 ?_;simp -dsimp[ints,Pk.cs];and_intros;all_goals try first|rfl|omega|exact⟨by kernel_rfl⟩
   refine Fin.box (.o 8) rfl ?_;simp -dsimp;refine Fin.of ?_;simp[hw1,nD]
 | nil=>
   simp only at hw1;cases hfd:bH l r with
   | none=>
     rw[hfd]at hw1
     simp only at hw1;simp -dsimp[c0,c3,hfd];and_intros;all_goals try first|rfl|omega|exact⟨by kernel_rfl⟩
     refine Fin.box (.o 8) rfl ?_;simp -dsimp;refine Fin.of ?_;simp[hw1,nD,zn,bv]
   | some b=>
     have hb:b.Sm:=hl.t b (List.mem_of_find?_eq_some hfd);have h7:=acU b hb p;have h8:=CP b p;rw[hfd]at hw1
     simp only at hw1;generalize jC b p=F at h7 h8 hw1;obtain⟨o,er⟩:=F;obtain⟨lC,fP,bP⟩:=o;simp only at h8 hw1;simp only[bZ,dX,Pk.cs,List.map,outT]at h7;simp -dsimp[c0,c3,hfd,Pk.cs];and_intros;all_goals try first|rfl|omega|exact⟨by kernel_rfl⟩
     refine ah.of h7 [] 0 ?_;by_cases c4:er=0
     case neg=>
      rw[if_pos c4]at hw1
      simp -dsimp[c4];and_intros;all_goals try first|rfl|omega|exact⟨by kernel_rfl⟩
      refine Fin.box (.o 8) rfl ?_;simp -dsimp;refine Fin.of ?_;simp[hw1,nD,zn,bv]
     rw[if_neg (by simp[c4])]at hw1
     simp -dsimp[c4];and_intros;all_goals try first|rfl|omega|exact⟨by kernel_rfl⟩
     refine aN.of [] (fun k=>k==0||k==1||k==2||k==3||k==4||k==6||k==7||k==8||k==9||k==10||k==11||k==12||k==13||k==14||k==16||k==17||k==18||k==31||k==52||k==57||k==69||k==78||k==79||k==80||k==81||k==91) (ι:={i:Nat // i≤bP.length})
      (fun z=>[(Pl.o 4,It.box [TV.d (.sl (rts g.rs)),TV.d (.sl (dO g.ls))]),(Pl.s 4,It.v (.ptr (Pl.o 4) 0)),(Pl.o 6,It.box [.d (.int .i64 r)]),(Pl.s 6,It.v (.ptr (Pl.o 6) 0)),
       (Pl.o 8,It.box [TV.d (.int .u64 0),TV.d (.int .u64 0),TV.c (.slice none 0 0)]),(Pl.s 8,It.v (.ptr (Pl.o 8) 0)),(Pl.s 9,It.v (.d (.int .i64 0))),
       (Pl.o 14,It.box [TV.d (bv lC),TV.d (bv ((bP.take z.1).foldl (wG g r) ⟨lC,fP,[]⟩).lost),TV.aB 70 ((bP.take z.1).foldl (wG g r) ⟨lC,fP,[]⟩).g_.length]),(Pl.s 14,It.v (.ptr (Pl.o 14) 0)),
       (Pl.o 70,It.row 29 12 (dd (((bP.take z.1).foldl (wG g r) ⟨lC,fP,[]⟩).g_.map n_)) false),
       (Pl.s 78,It.v (.d (.sl (bP.map DI)))),(Pl.s 79,It.v (.d (.int .i64 bP.length))),(Pl.s 80,It.v (.d (.int .i64 z.1)))])
      (fun z=>bP.length-z.1) ⟨0,by omega⟩ ?_ ?_
     ·exact GS.gq (.o 14) 2 70 (cs:=[.d (bv lC),.d (bv fP),.c (.slice none 0 0)]) 29 12 (by simp) (by simp[bv]) (by simp) (by simp) (by simp[bv])
     ·rintro⟨i,i1⟩;have hcl:=Qz g r (bP.take i) ⟨lC,fP,[]⟩;rw[List.length_take]at hcl
      simp only[List.length_nil]at hcl;have hO:=(wH g r (bP.take i) ⟨lC,fP,[]⟩).1;by_cases hi:i<bP.length
      ·have hiz:(i:Int)<bP.length:=by omega
       have hx:bP[i]? = some bP[i]:=List.getElem?_eq_getElem hi;have ht:=Es (g:=g) (r:=r) hx ⟨lC,fP,[]⟩;have w1:IntKind.i64.wrap ((i:Int)+1)=(i:Int)+1:=wrap_i64 (by omega) (by omega);generalize bP[i]=c at hx ht;generalize (bP.take i).foldl (wG g r) ⟨lC,fP,[]⟩ = S at hcl hO ht⊢;obtain⟨Sl,So,Sc⟩:=S;simp only at hcl hO;obtain⟨c1,c2⟩:=c
       have hsd:=NI g hs r (c1,⟨[],c2⟩);simp only[aH,JX,n_,ints,Pk.cs,List.map]at hsd;cases hv:jZ g r (c1,c2)with
       | none=>
         rw[O5 hv]at ht
         simp only[hv,Option.getD_none,Option.isSome_none,Uu,Bh]at hsd;simp -dsimp[hiz,hx,DI,Pk.cs,bv];and_intros;all_goals try first|rfl|omega|exact⟨by kernel_rfl⟩
         refine ah.of hsd [] 0 ?_;simp -dsimp[hiz,w1,bv];and_intros;all_goals try first|omega|exact⟨by kernel_rfl⟩|rfl
         exact⟨⟨i+1,by omega⟩,GS.to (by simp[ht,bv]),by simp;omega⟩
       | some x=>
         rw[O6 hv]at ht
         obtain⟨x1,⟨xr,x2⟩⟩:=x;simp only[hv,Option.getD_some,Option.isSome_some]at hsd;simp -dsimp[hiz,hx,DI,Pk.cs,bv];and_intros;all_goals try first|rfl|omega|exact⟨by kernel_rfl⟩
         refine ah.of hsd [] 0 ?_;simp -dsimp[hiz,w1,bv];and_intros;all_goals try first|omega|exact⟨by kernel_rfl⟩|rfl
         exact⟨⟨i+1,by omega⟩,GS.to (by simp[ht,bv,n_,ints,Pk.cs]),by simp;omega⟩
      ·have hiz :¬(i:Int)<bP.length:=by omega
       rw[List.take_of_length_le (show bP.length≤i by omega)]at hcl hO⊢
       generalize bP.foldl (wG g r) ⟨lC,fP,[]⟩ = S at hcl hO hw1⊢;obtain⟨Sl,So,Sc⟩:=S;simp only at hO;subst hO;simp -dsimp[hiz];and_intros;all_goals try first|rfl|omega|exact⟨by kernel_rfl⟩
       refine Fin.box (.o 8) rfl ?_;simp -dsimp;refine Fin.of ?_;simp[hw1,nD,bv]
end Go.Proofs

namespace Go.Proofs
open Go Go.Tr
end Go.Proofs

namespace Go.Proofs
open Go Go.Tr
theorem EG{g:ay}(hg:cZ g=0){p:Pn}(hp:d_ p=true):rY g p=(tabs g p g.rs,0):=by
 unfold rY;rw[if_pos ⟨hg,hp⟩]
theorem rW{g:ay}{p:Pn}:∀b∈tabs g p g.rs,b.sd=p.bF∧b.len=p.len:=fun b hb=>by
 obtain⟨x,_,_,rfl⟩:=Zj hb;exact⟨rfl,rfl⟩
theorem m_{g:ay}(hg:cZ g=0){p:Pn}(hp:d_ p=true):∀b∈tabs g p g.rs,chk b=0:=fun b hb=>by
 obtain⟨x,hx,_,rfl⟩:=Zj hb;exact N9 hg hp (dH.2 (List.mem_map_of_mem hx))
theorem xH{g:ay}(hg:g.Ok)(p:Pn):(tabs g p g.rs).Pairwise fun x y=>x.r<y.r:=by
 unfold tabs;rw[List.pairwise_map];exact(hg.rpw.sublist List.filter_sublist).imp fun h=>h
theorem DW{l:List Tb}(h1:l.length≤24)(h2:∀b∈l,chk b=0)(h3:l.Pairwise fun x y=>x.r<y.r)(h4:∀b∈l,∀c∈l,b.sd=c.sd∧b.len=c.len):nR l=0:=by
 have a1:decide (24<l.length)=false:=by simp;omega
 have a2:(l.any fun b=>decide (chk b≠0))=false:=by
  rw[List.any_eq_false];intro b hb;simp[h2 b hb]
 have a3:nO (fun x y:Tb=>decide (y.r≤x.r)) l=false:=y8 (r:=fun x y=>x.r<y.r) (fun x y h=>by simpa using h) h3;have a4:(l.any fun b=>decide (b.sd≠(l.headD tb0).sd)||decide (b.len≠(l.headD tb0).len))=false:=by
  rw[List.any_eq_false];intro b hb;have:l.headD tb0∈l:=by
   cases l with
   | nil=>simp at hb
   | cons a l=>simp
  have:=h4 b hb _ this;simp[this.1,this.2]
 simp only[nR,jc,a1,a2,a3,a4,cond_false]
theorem ny{l:List Tb}{r:Int}:(bH l r).isSome↔r∈l.map (·.r):=by
 rw[bH,List.find?_isSome];simp
structure DN(p:Pn)(rs:List Int)(l:List Tb):Prop where
 all:nR l=0
 ck:∀b∈l,chk b=0
 sd:∀b∈l,b.sd=p.bF∧b.len=p.len
 rs:∀r,(bH l r).isSome↔r∈rs
 n:l.length≤24
def Pk.for(q:Pk)(bF len set:Int)(B:BitVec 64):Pk:=⟨1,bF,set,len,q.ttl,q.ent,q.ing,q.proto,B,q.pay⟩
def oLT(o:Out)(CS:List (List D)):TV:=.agg [.d (bv o.loc),.d (bv o.lost),.d (.sl CS)]
theorem acT(b:Tb)(r:Int)(o:Out)(CS:List (List D))(p:Pk):Contract Tryz.prog 189 [bZ b,.d (.int .i64 r),oLT o CS,dX p] [] (.d (.sl ((nI r o p).map lT))) [] []:=by
 have hl:=ai0 o.loc;simp only[bv]at hl;refine aj Tryz.func189 rfl (fun E0=>?_);refine cO.sound (g:=.mk) (ow:=[]) (kp:=(fun k=>k==0||k==1||k==2||k==3||k==6||k==7||k==8||k==9||k==11||k==14||k==15||k==16||k==17)) ?_;rw[Tryz.ntmps189];simp -dsimp[bZ,oLT,bv,dX,Pk.cs];try refine⟨?_,⟨by kernel_rfl⟩⟩
 refine ah.of hl [] 0 ?_;have hB:=iT o.loc;unfold nI;generalize lg o.loc=L at hB⊢;simp -dsimp[ints];try refine⟨?_,⟨by kernel_rfl⟩⟩
 refine aN.of [] (fun k=>k==0||k==1||k==2||k==3||k==6||k==7||k==8||k==9||k==11||k==14||k==15||k==16||k==17) (ι:={i:Nat // i≤L.length})
  (fun z=>[(Pl.o 7,It.box (p.cs.map .d)),(Pl.s 7,It.v (.ptr (Pl.o 7) 0)),(Pl.s 1,It.v (.d (.int .i64 r))),(Pl.s 8,It.v (.c (Value.slice none 0 0))),
   (Pl.s 9,It.v (.aB 9 z.1)),(Pl.o 9,It.row 92 11 (dd (((L.take z.1).map fun k=>(r,f_ p k)).map lT)) false),
   (Pl.s 14,It.v (.d (.sl (L.map fun n=>[D.int .i64 n])))),(Pl.s 15,It.v (.d (.int .i64 L.length))),(Pl.s 16,It.v (.d (.int .i64 z.1)))])
  (fun z=>L.length-z.1) ⟨0,by omega⟩ ?_ ?_
 ·exact GS.own' (k:=9) 92 11 (by simp) (by simp) (by simp[Pk.cs,bv])
 ·rintro⟨i,i1⟩;by_cases hi:i<L.length
  ·have hiz:(i:Int)<L.length:=by omega
   have hg:L[i]? = some L[i]:=List.getElem?_eq_getElem hi;generalize L[i]=k at hg;have ho:=ai9 p k;have hn:dd (((L.take (i+1)).map fun k=>(r,f_ p k)).map lT)=dd (((L.take i).map fun k=>(r,f_ p k)).map lT)++[TV.d (.int .i64 r)::(f_ p k).cs.map .d]:=by
    rw[List.take_add_one,hg];simp[dd,lT]
   have hlen:(((L.take i).map fun k=>(r,f_ p k)).map lT).length=i:=by simp;omega
   generalize f_ p k=q at ho hn;simp[Pk.cs]at hn
   simp only[dX,Pk.cs,List.map]at ho;simp -dsimp[hg,hiz,Pk.cs];try refine⟨?_,⟨by kernel_rfl⟩⟩
   refine ah.of ho [] 0 ?_;simp -dsimp[wrap_i64 (n:=(i:Int)+1) (by omega) (by omega)];and_intros;all_goals try first|omega|exact⟨by kernel_rfl⟩
   exact⟨⟨i+1,by omega⟩,GS.to (by simp[hn,Pk.cs]),by simp;omega⟩
  ·have hiz :¬(i:Int)<L.length:=by omega
   obtain rfl:i=L.length:=by omega
   simp -dsimp[hiz];refine Fin.view 8 ?_;simp -dsimp;refine Fin.of ?_;simp
def rP(t:dQ)(r:Int)(p:Pk)(o:Ox):dQ:=⟨t.dl++Au r o p,t.cr++o.g_.map (fun c=>(r,c.1,c.2.pk.bits)),if o.lost=0#64 then t.ls else t.ls++[(r,o.lost)]⟩
structure w_(g:ay)(l:List Tb)(q:Int×Fr):Prop where
 top:cZ g=0
 tab:nR l=0
 fit:vG l q.2.pk
 has:aY g.rs q.1=true
 nd:q.2.rt.Nodup
 rin:∀n∈q.2.rt,aY g.rs n=true
theorem w_.ok{g:ay}{l:List Tb}{q:Int×Fr}(h:w_ g l q):frB q.2=true:=by
 have hg:=aU h.top;have h1:=BG (g:=g) h.nd h.rin;have h2:=hg.nr;simp only[frB,Bool.and_eq_true,decide_eq_true_eq];exact⟨⟨by omega,h.nd,fun n hn=>hg.id (h.rin n hn)⟩,h.fit.ok⟩
theorem Vj(g:ay)(r:Int)(k:Nat):∀cs:List (Int×Pk),(cs.filterMap (jZ g r)).filter (fun x=>x.2.pk.bits.getLsbD k)=(cs.filter fun c=>c.2.bits.getLsbD k).filterMap (jZ g r)
 | []=>rfl
 | c::cs=>by
   have ih:=Vj g r k cs;cases h:jZ g r c with
   | none=>
     rw[List.filterMap_cons_none h,ih,List.filter_cons];split
     ·rw[List.filterMap_cons_none h]
     ·rfl
   | some x=>
     have h1:=(qU h).1;rw[List.filterMap_cons_some h,List.filter_cons,List.filter_cons,ih,h1];split
     ·rw[List.filterMap_cons_some h]
     ·rfl
theorem ab5(k:Nat):∀(cs:List (Int×Pk)) (B:BitVec 64),(cs.foldl (fun B c=>B|||c.2.bits) B).getLsbD k=(B.getLsbD k||cs.any fun c=>c.2.bits.getLsbD k)
 | [],B=>by simp
 | c::cs,B=>by
   rw[List.foldl_cons,ab5 k cs,List.any_cons,BitVec.getLsbD_or,Bool.or_assoc]
theorem Nk{g:ay}{l:List Tb}{r:Int}{p:Pk}(h:w_ g l (r,⟨[],p⟩)){b:Tb}(hf:bH l r=some b):
  iD g l (r,⟨[],p⟩)=(iH b p).g_.foldl (wG g r) ⟨(iH b p).loc,(iH b p).lost,[]⟩:=by
 have hb:=h.fit.all b (eY hf).1;obtain⟨h1,_⟩:=pW hb;have hs:iZ g l r ⟨[],p⟩ = ((iH b p).g_.foldl (wG g r) ⟨(iH b p).loc,(iH b p).lost,[]⟩,0):=by
  unfold iZ;rw[if_neg (by simp[h.top,h.tab,h.ok]),if_neg (by simp[h.has])];simp[hf,h1]
 unfold iD;simp only[hs,if_true]
theorem uO{g:ay}{l:List Tb}{r:Int}{p:Pk}(h:w_ g l (r,⟨[],p⟩))(hf:bH l r=none):iD g l (r,⟨[],p⟩)=⟨0#64,p.bits,[]⟩:=by
 have hs:iZ g l r ⟨[],p⟩ = (zn,4):=by
  unfold iZ;rw[if_neg (by simp[h.top,h.tab,h.ok]),if_neg (by simp[h.has])];simp[hf]
 unfold iD;simp only[hs];rfl
theorem pJ{g:ay}{l:List Tb}{r n:Int}{w:List Int}{p:Pk}(h:w_ g l (r,⟨n::w,p⟩)):iD g l (r,⟨n::w,p⟩)=qP g r n w p:=by
 have hs:iZ g l r ⟨n::w,p⟩ = (qP g r n w p,0):=by
  unfold iZ;rw[if_neg (by simp[h.top,h.tab,h.ok]),if_neg (by simp[h.has])]
 unfold iD;simp only[hs,if_true]
theorem Df{g:ay}{l:List Tb}{r:Int}{p:Pk}(h:w_ g l (r,⟨[],p⟩)){b:Tb}(hf:bH l r=some b){k:Nat}(hk:k<64):
  ((iD g l (r,⟨[],p⟩)).loc.getLsbD k=true↔p.bits.getLsbD k=true∧aF b p k≠0∧aF b p k=b.r)∧
  (eP g l (r,⟨[],p⟩)).filter (fun c=>c.2.pk.bits.getLsbD k)=(if p.bits.getLsbD k=true∧p.ttl≠0∧aF b p k≠0∧aF b p k≠b.r then(jZ g r (aF b p k,qJ b p (aF b p k))).toList else [])∧
  ((iD g l (r,⟨[],p⟩)).lost.getLsbD k=true↔p.bits.getLsbD k=true∧(aF b p k=0∨(aF b p k≠b.r∧(p.ttl=0∨jZ g r (aF b p k,qJ b p (aF b p k))=none)))):=by
 have hb:=h.fit.all b (eY hf).1;obtain⟨_,h2⟩:=pW hb;obtain⟨s1,s2,s3⟩:=wH g r (iH b p).g_ ⟨(iH b p).loc,(iH b p).lost,[]⟩;have ho:=Nk h hf;have akG:=h2.hop hb hk;refine⟨?_,?_,?_⟩
 ·rw[ho,s1,h2.loc k hk];simp[iC]
 ·unfold eP;rw[ho,s2,List.nil_append,Vj,akG];split
  ·cases hs:jZ g r (aF b p k,qJ b p (aF b p k))<;>simp[hs]
  ·rfl
 ·rw[ho,s3,ab5,Bool.or_eq_true,h2.lost k hk];have e:((iH b p).g_.filter fun c=>(jZ g r c).isNone).any (fun c=>c.2.bits.getLsbD k)=((iH b p).g_.filter fun c=>c.2.bits.getLsbD k).any (fun c=>(jZ g r c).isNone):=by
   rw[List.any_filter,List.any_filter]
   congr 1
   funext c
   rw[Bool.and_comm]
  rw[e,akG];simp only[iC,BitVec.getLsbD_zero,Bool.false_eq_true,false_or];by_cases hc:p.bits.getLsbD k=true∧p.ttl≠0∧aF b p k≠0∧aF b p k≠b.r
  ·rw[if_pos hc];obtain⟨c1,c2,c3,c4⟩:=hc;simp[c1,c2,c3,c4]
  ·rw[if_neg hc];simp only[List.any_nil,Bool.false_eq_true,or_false];constructor
   ·rintro⟨a,a1|⟨a1,a2⟩⟩
    ·exact⟨a,.inl a1⟩
    ·exact⟨a,.inr ⟨a1,.inl a2⟩⟩
   ·rintro⟨a,a1|⟨a1,a2|a2⟩⟩
    ·exact⟨a,.inl a1⟩
    ·exact⟨a,.inr ⟨a1,a2⟩⟩
    ·by_cases t0:p.ttl=0
     ·exact⟨a,.inr ⟨a1,t0⟩⟩
     ·by_cases h0:aF b p k=0
      ·exact⟨a,.inl h0⟩
      ·exact absurd ⟨a,t0,h0,a1⟩ hc
theorem BQ{g:ay}{r:Int}{c:Int×Pk}{x:Int×Fr}(h:jZ g r c=some x):Down g c.1 r (x.1::x.2.rt)∧g.Ok:=by
 have h1:=(qU h).2.1;have:=Dk (g:=g) (f:=r) (t:=c.1) (by rw[h1];simp);rw[h1]at this
 exact this
theorem yZ{g:ay}{l:List Tb}{q:Int×Fr}(h:w_ g l q):∀c∈eP g l q,w_ g l c:=fun c hc=>by
 obtain⟨r,f,p⟩:=q;unfold eP at hc;cases f with
 | cons n w=>
   rw[pJ h]at hc
   unfold qP at hc;split at hc
   ·rename_i hp;obtain⟨c',hc'⟩:=Option.isSome_iff_exists.1 hp;simp only[List.mem_singleton]at hc;subst hc;have hn:=List.nodup_cons.1 h.nd;exact⟨h.top,h.tab,h.fit,(jA (aU h.top) hc').2,hn.2,fun x hx=>h.rin x (List.mem_cons_of_mem _ hx)⟩
   ·simp at hc
 | nil=>
   cases hf:bH l r with
   | none=>rw[uO h hf]at hc;simp at hc
   | some b=>
     have hb:=h.fit.all b (eY hf).1;obtain⟨_,h2⟩:=pW hb;rw[Nk h hf,(wH g r _ _).2.1,List.nil_append]at hc
     obtain⟨y,hy,hs⟩:=List.mem_filterMap.1 hc;obtain⟨H,h3,h4,h5⟩:=h2.g_;rw[h3]at hy
     simp only[iC,List.nil_append,List.mem_map]at hy;obtain⟨x,hx,rfl⟩:=hy;obtain⟨d,hg⟩:=BQ hs;have hn:=List.nodup_cons.1 (List.nodup_cons.1 d.nodup).2;exact⟨h.top,h.tab,by rw[(qU hs).1];exact h.fit.mask ((h5 x).1 hx).1 _,d.has _ (by simp),hn.2,fun y hy=>d.has y (by simp[hy])⟩
theorem Dh{g:ay}{l:List Tb}{q:Int×Fr}(h:w_ g l q):∀k<64,(iD g l q).loc.getLsbD k=true→q.2.pk.bits.getLsbD k=true:=fun k hk a=>by
 obtain⟨r,f,p⟩:=q;cases f with
 | cons n w=>
   rw[pJ h]at a
   unfold qP at a;split at a<;>simp at a
 | nil=>
   cases hf:bH l r with
   | none=>rw[uO h hf]at a;simp at a
   | some b=>exact((Df h hf hk).1.1 a).1
def runT(g:ay)(l:List Tb)(r:Int)(p:Pk):dQ:=pR g l (PX ⟨[],p⟩) [(r,⟨[],p⟩)] gX
theorem w_.first{g:ay}{l:List Tb}{r:Int}{p:Pk}(h0:cZ g=0)(h1:nR l=0)(hF:vG l p)(hr:aY g.rs r=true):w_ g l (r,⟨[],p⟩):=⟨h0,h1,hF,hr,by simp,by simp⟩
structure Wi(g:ay)(l:List Tb)(Q:List (Int×Fr))(t:dQ):Prop where
 fit:∀q∈Q,w_ g l q∧(q.2.rt≠[]∨bH l q.1=none→q.2.pk.bits≠0#64)
 dl:∀d∈t.dl,∃k<64,d.2.bits=1#64<<<k
 ls:∀x∈t.ls,x.2≠0#64
 cr:∀c∈t.cr,c.2.2≠0#64∧(price g.ls c.1 c.2.1).isSome
theorem Qv{g:ay}{l:List Tb}{q:Int×Fr}(h:w_ g l q)(hq:q.2.rt≠[]→q.2.pk.bits≠0#64):∀c∈eP g l q,c.2.pk.bits≠0#64∧(price g.ls q.1 c.1).isSome:=fun c hc=>by
 obtain⟨r,f,p⟩:=q;unfold eP at hc;cases f with
 | cons n w=>
   rw[pJ h]at hc
   unfold qP at hc;split at hc
   ·rename_i hp;simp only[List.mem_singleton]at hc;subst hc;exact⟨hq (by simp),hp⟩
   ·simp at hc
 | nil=>
   cases hf:bH l r with
   | none=>rw[uO h hf]at hc;simp at hc
   | some b=>
     have hb:=h.fit.all b (eY hf).1;obtain⟨_,h2⟩:=pW hb;rw[Nk h hf,(wH g r _ _).2.1,List.nil_append]at hc
     obtain⟨y,hy,hs⟩:=List.mem_filterMap.1 hc;obtain⟨H,h3,h4,h5⟩:=h2.g_;rw[h3]at hy
     simp only[iC,List.nil_append,List.mem_map]at hy;obtain⟨x,hx,rfl⟩:=hy;obtain⟨d,hg⟩:=BQ hs;obtain⟨C,hC,_⟩:=d.cost;refine⟨?_,?_⟩
     ·rw[(qU hs).1];obtain⟨_,a1,a2,k,hk,a3,a4⟩:=(h5 x).1 hx;have hr:=(CX hb.ck (k:=k) (p:=p) (by rw[a4];exact a1)).2;rw[a4]at hr
      have:=(DY hb hk hr).2 ⟨a3,a4⟩;intro e;simp only at e;rw[e]at this;simp at this
     ·simp only[fH]at hC;cases hp:price g.ls r c.1 with
      | none=>rw[hp]at hC;simp at hC
      | some v=>rfl
theorem Wi.step{g:ay}{l:List Tb}{q:Int×Fr}{Q:List (Int×Fr)}{t:dQ}(h:Wi g l (q::Q) t):Wi g l (Q++eP g l q) (jw g l q t):=by
 obtain⟨hq,hz⟩:=h.fit q (by simp);have hn:=Qv hq fun e=>hz (.inl e)
 refine⟨fun c hc=>?_,fun d hd=>?_,fun x hx=>?_,fun c hc=>?_⟩
 ·rcases List.mem_append.1 hc with hc|hc
  ·exact h.fit c (by simp[hc])
  ·exact⟨yZ hq c hc,fun _=>(hn c hc).1⟩
 ·simp only[jw]at hd;rcases List.mem_append.1 hd with hd|hd
  ·exact h.dl d hd
  ·simp only[Au,nI,lg,List.map_map,List.mem_map]at hd;obtain⟨k,hk,rfl⟩:=hd;obtain⟨k1,k2⟩:=sN.1 hk;have hpb:=Dh hq k k1 k2;refine⟨k,k1,?_⟩
   show(f_ q.2.pk (Int.ofNat k)).bits=_
   have:=IL hq.fit.ok k1 hpb;rw[Int.ofNat_eq_natCast,this]
 ·simp only[jw]at hx;split at hx
  ·exact h.ls x hx
  ·rename_i hne;rcases List.mem_append.1 hx with hx|hx
   ·exact h.ls x hx
   ·simp at hx;subst hx;exact hne
 ·simp only[jw]at hc;rcases List.mem_append.1 hc with hc|hc
  ·exact h.cr c hc
  ·obtain⟨x,hx,rfl⟩:=List.mem_map.1 hc;exact hn x hx
theorem dU{n:Int}(h:aG n=true):n=8∨n=16∨n=32∨n=64:=by
 simp[aG]at h;omega
theorem uH{id len:Int}(hl:aG len=true):0≤fJ id len∧fJ id len≤31:=by
 have:=dU hl;unfold fJ;split
 ·rename_i h;simp only[Bool.and_eq_true,inB,decide_eq_true_eq]at h;have h1:0≤(id-1)/len:=Int.ediv_nonneg (by omega) (by omega);have h2:(id-1)/len≤(id-1)/8:=by
   rcases this with rfl|rfl|rfl|rfl<;>omega
  omega
 ·omega
structure zo(p:Pn)(q:Pk):Prop where
 ok:q.ok=true
 mode:q.mode=1
 bF:q.bF=p.bF
 len:q.len=p.len
theorem DN.fit{p:Pn}{rs:List Int}{l:List Tb}(h:DN p rs l){q:Pk}(hq:zo p q):vG l q:=
 ⟨hq.ok,fun b hb=>⟨h.ck b hb,(h.sd b hb).1.trans hq.bF.symm,(h.sd b hb).2.trans hq.len.symm,hq.ok,by rw[hq.mode];decide⟩⟩
theorem DN.run{p:Pn}{rs:List Int}{l:List Tb}(h:DN p rs l){q:Pk}(hq:zo p q){r:Int}(hr:r∈rs):nK l q r=(mY l (wt q) [(r,q)] gX,0)∧(bH l r).isSome:=by
 have hs:=(h.rs r).2 hr;refine⟨?_,hs⟩;obtain⟨b,hb⟩:=Option.isSome_iff_exists.1 hs;have hsd:=h.sd b (eY hb).1;unfold nK;rw[if_neg (by simp[h.all,hq.ok]),hb];simp only;rw[if_neg (by rw[hq.mode];decide),if_neg (by rw[hsd.1,hsd.2,hq.bF,hq.len];simp)]
theorem DN.sm{p:Pn}{rs:List Int}{l:List Tb}(h:DN p rs l):DL l:=⟨by have:=h.n;omega,fun b hb=>Bc (h.ck b hb)⟩
theorem Bv{g:ay}{u v:List Int}{r c1 c2:Int}(h1:fH g r u=some c1)(h2:fH g (jW r u) v=some c2):fH g r (u++v)=some (c1+c2):=by
 induction u generalizing r c1 with
 | nil=>simp[fH]at h1;subst h1;simpa[jW]using h2
 | cons w u ih=>
   rw[fH]at h1
   cases hp:price g.ls r w with
   | none=>simp[hp]at h1
   | some c0=>
     cases hq:fH g w u with
     | none=>simp[hp,hq]at h1
     | some c3=>
       simp only[hp,hq,Option.some.injEq]at h1;have:=ih hq (by simpa[jW]using h2);rw[List.cons_append,fH,hp,this];simp only[←h1,Int.add_assoc]
theorem Jz(r:Int)(u v:List Int):jW r (u++v)=jW (jW r u) v:=by
 induction u generalizing r with
 | nil=>rfl
 | cons w u ih=>simp only[List.cons_append,jW];exact ih w
theorem Hr.way{g:ay}(hg:g.Ok){t f x:Int}(h:Hr g t f x):∃w:List Int,jW f w=x∧fH g f w=some (dst g t f-dst g t x)∧∀y∈w,dY g.rs y=false:=by
 induction h with
 | nil=>exact⟨[],rfl,by simp[fH],by simp⟩
 | via _ hy hc ih=>
   rename_i x y _;obtain⟨w,h1,h2,h3⟩:=ih;obtain⟨_,_,_,c,hp,hcd⟩:=(lM hg).1 hy;refine⟨w++[y],by rw[Jz];rfl,?_,fun z hz=>?_⟩
   ·rw[Bv h2 (show fH g (jW f w) [y]=some c by rw[h1];simp[fH,hp])]
    congr 1;omega
   ·rcases List.mem_append.1 hz with hz|hz
    ·exact h3 z hz
    ·rw[List.mem_singleton.1 hz];exact hc
def mZ(g:ay)(l:List Tb)(p:Pk)(r:Int):dQ×Int:=
 if cZ g≠0∨nR l≠0∨p.ok=false then(gX,1)else if aY g.rs r=false then(gX,4)else match bH l r with
  | none=>(gX,4)
  | some b=>if p.mode=2 then(gX,7)else if p.bF≠b.sd∨p.len≠b.len then(gX,8)else(runT g l r p,0)
theorem ahB(g:ay)(hs:g.Sm)(l:List Tb)(hl:DL l)(r:Int)(f:Fr)(hf:f.rt.length≤100000):
  Contract Tryz.prog 116 [.d (.int .i64 r),xK f,.ptr (.x 0) 0,.ptr (.x 1) 0] [It.box [TV.d (.sl (rts g.rs)),TV.d (.sl (dO g.ls))],It.box [TV.d (.sl (oq l))]] (.rG [nD (iZ g l r f).1,.d (.bool (decide ((iZ g l r f).2=0)))]) [It.box [TV.d (.sl (rts g.rs)),TV.d (.sl (dO g.ls))],It.box [TV.d (.sl (oq l))]] []:=by
 have h1:=NJ g hs l hl r f hf;simp only[aH,xK,vH,ints,Pk.cs,List.map]at h1;generalize iZ g l r f=w at h1⊢;obtain⟨⟨lC,fP,bP⟩,e⟩:=w;simp only[nD]at h1;refine aj Tryz.func116 rfl (fun E0=>?_);refine cO.sound (g:=.mk) (ow:=[]) (kp:=(fun k=>k==0||k==1||k==2||k==3||k==5||k==6||k==7||k==8||k==9)) ?_;rw[Tryz.ntmps116];simp -dsimp[xK,vH,ints,Pk.cs];and_intros
 all_goals try first|rfl|omega|exact⟨by kernel_rfl⟩
 refine ah.of h1 [] 0 ?_;simp -dsimp;and_intros;all_goals try first|rfl|omega|exact⟨by kernel_rfl⟩
 refine Fin.of ?_;simp[nD]
theorem SX{g:ay}{l:List Tb}{q:Int×Fr}(h:q.2.rt.length≤24):∀c∈eP g l q,c.2.rt.length≤24:=by
 obtain⟨r,⟨rt,p⟩⟩:=q;unfold eP iD;split
 ·unfold iZ;split
  ·simp[zn]
  split
  ·simp[zn]
  cases rt with
  | cons n w=>
    intro c hc;simp only[qP]at hc;split at hc
    ·simp only[List.mem_singleton]at hc;subst hc;simp at h⊢;omega
    ·simp at hc
  | nil=>
    simp only;split
    ·simp[zn]
    ·split
     ·simp[zn]
     ·intro c hc;rw[(wH g r _ _).2.1]at hc
      simp only[List.nil_append,List.mem_filterMap]at hc;obtain⟨x,hx,e⟩:=hc;have hl:=pK g r x.1;unfold jZ at e;split at e
      ·simp at e
      ·rename_i n w hR;simp only[Option.some.injEq]at e;subst e;rw[hR]at hl;simp at hl⊢;omega
 ·simp
theorem yh(g:ay)(l:List Tb)(q:Int×Fr):(eP g l q).length≤64:=by
 obtain⟨r,⟨rt,p⟩⟩:=q;unfold eP iD;split
 ·unfold iZ;split
  ·simp[zn]
  split
  ·simp[zn]
  cases rt with
  | cons n w=>simp only[qP];split<;>simp
  | nil=>
    simp only;split
    ·simp[zn]
    ·rename_i b _;split
     ·simp[zn]
     ·have h1:=Qz g r (jC b p).1.g_ ⟨(jC b p).1.loc,(jC b p).1.lost,[]⟩;have h2:=CP b p;simp at h1 h2⊢;omega
 ·simp
theorem Le{p:Pk}(h:p.ok=true):PX ⟨[],p⟩≤211330:=by
 have h1:=acs h;unfold wt at h1;unfold PX;simp only[List.length_nil];have:pc p.bits*((2*p.ttl.toNat+1)*26)=pc p.bits*(2*p.ttl.toNat+1)*26:=by rw[Nat.mul_assoc]
 omega
theorem Ue(g:ay)(l:List Tb)(q:Int×Fr)(t:dQ):jw g l q t=rP t q.1 q.2.pk (iD g l q):=rfl
theorem ahS(g:ay)(hs:g.Sm)(l:List Tb)(hl:DL l)(p:Pk)(hp:p.ok=true)(r:Int):
  Contract Tryz.prog 115 [dX p,.d (.int .i64 r),.clo 116 [.ptr (.x 0) 0,.ptr (.x 1) 0]] [It.box [TV.d (.sl (rts g.rs)),TV.d (.sl (dO g.ls))],It.box [TV.d (.sl (oq l))]] (qG (runT g l r p)) [It.box [TV.d (.sl (rts g.rs)),TV.d (.sl (dO g.ls))],It.box [TV.d (.sl (oq l))]] []:=by
 have hok:aZ Tryz.prog 116=true:=by kernel_rfl
 have hwt:=Le hp;have MH:tH [(r,⟨[],p⟩)]=PX ⟨[],p⟩:=by simp[tH]
 unfold runT;obtain⟨n0,hn0⟩:∃n0,n0=PX ⟨[],p⟩:=⟨_,rfl⟩
 rw[←hn0]at hwt MH⊢
 obtain⟨w,hw⟩:∃w,w=pR g l n0 [(r,⟨[],p⟩)] gX:=⟨_,rfl⟩
 rw[←hw];refine aj Tryz.func115 rfl (fun E0=>?_);refine cO.sound (g:=.mk) (ow:=[18]) (kp:=(fun k=>k==0||k==1||k==2||k==3||k==6||k==7||k==8||k==9||k==10||k==11||k==13||k==21||k==37||k==42||k==69||k==81||k==82||k==83||k==84)) ?_;rw[Tryz.ntmps115];simp -dsimp[dX,Pk.cs];and_intros;all_goals try first|rfl|omega|exact⟨by kernel_rfl⟩
 refine aN.of [18] (fun k=>k==0||k==1||k==2||k==3||k==6||k==7||k==8||k==9||k==10||k==11||k==13||k==21||k==37||k==42||k==69||k==81||k==82||k==83||k==84) (ι:={z:Nat×List (Int×Fr)×dQ // w=pR g l z.1 z.2.1 z.2.2∧tH z.2.1≤z.1∧z.1≤211330∧(∀q∈z.2.1,q.2.rt.length≤24)∧z.2.2.dl.length+64*z.1≤20000000∧z.2.2.cr.length+64*z.1≤20000000∧z.2.2.ls.length+z.1≤20000000})
  (fun z=>[(Pl.s 2,It.v (.clo 116 [TV.ptr (Pl.x 0) 0,TV.ptr (Pl.x 1) 0])),(Pl.x 0,It.box [TV.d (.sl (rts g.rs)),TV.d (.sl (dO g.ls))]),(Pl.x 1,It.box [TV.d (.sl (oq l))]),
   (Pl.o 6,It.box [TV.c (Value.slice none 0 0),TV.c (Value.slice none 0 0),TV.c (Value.slice none 0 0)]),(Pl.s 6,It.v (.ptr (Pl.o 6) 0)),
   (Pl.o 7,It.box [TV.aB 70 z.1.2.2.dl.length,TV.aB 71 z.1.2.2.cr.length,TV.aB 72 z.1.2.2.ls.length]),(Pl.s 7,It.v (.ptr (Pl.o 7) 0)),
   (Pl.o 70,It.row 92 11 (dd (z.1.2.2.dl.map lT)) false),(Pl.o 71,It.row 96 3 (dd (z.1.2.2.cr.map lJ)) false),(Pl.o 72,It.row 176 2 (dd (z.1.2.2.ls.map qO)) false),
   (Pl.o 18,It.wI 236 12 (dd (z.1.2.1.map n_))),(Pl.s 8,It.v (.aB 18 z.1.2.1.length))])
  (fun z=>z.1.1) ⟨(n0,[(r,⟨[],p⟩)],gX),hw,by simp only[MH];omega,hwt,by simp,by simp[gX];omega,by simp[gX];omega,by simp[gX];omega⟩ ?_ ?_
 ·refine(GS.apd 18 (e:=236) (k:=12) (es:=dd ([(r,(⟨[],p⟩:Fr))].map n_)) (by simp[n_,ints,Pk.cs]) (by simp)).trans ?_;simp only[iI,Pl.o.injEq,reduceCtorEq,if_false,if_true,Nat.reduceEqDiff];refine(GS.PL (.o 7) 0 70 (cs:=[.c (.slice none 0 0),.c (.slice none 0 0),.c (.slice none 0 0)]) 92 11 (by simp) (by simp) (by simp) (by simp)).trans ?_
  simp only[iI,Pl.o.injEq,reduceCtorEq,if_false,if_true,Nat.reduceEqDiff,List.set];refine(GS.PL (.o 7) 1 71 (cs:=[.aB 70 0,.c (.slice none 0 0),.c (.slice none 0 0)]) 96 3 (by simp) (by simp) (by simp) (by simp)).trans ?_;simp only[iI,Pl.o.injEq,reduceCtorEq,if_false,if_true,Nat.reduceEqDiff,List.set]
  exact GS.gq (.o 7) 2 72 (cs:=[.aB 70 0,.aB 71 0,.c (.slice none 0 0)]) 176 2 (by simp) (by simp) (by simp) (by simp) (by simp[gX])
 ·rintro⟨⟨n,Q,t⟩,i1,i2,i3,i4,i5,i6,i7⟩;simp only at i1 i2 i3 i4 i5 i6 i7;cases Q with
  | nil=>
    have e:w=t:=by rw[i1,lN]
    simp -dsimp;refine Fin.box (.o 6) rfl ?_;simp -dsimp;refine Fin.of ?_;simp[qG,e]
  | cons q Q=>
    rw[tq]at i2
    have hq:=yY g l q;have hnl:=yh g l q;have hnr:=SX (g:=g) (l:=l) (i4 q (by simp));have hw1:1≤PX q.2:=by unfold PX;omega
    obtain⟨n,rfl⟩:∃j,n=j+1:=⟨n-1,by omega⟩
    rw[pR,Ue]at i1
    have hQl:=xC Q;have hst:=ahB g hs l hl q.1 q.2 (by have:=i4 q (by simp);omega);have hfr:xK q.2 = .agg ((vH q.2).map .d):=rfl;have XK:iD g l q=if(iZ g l q.1 q.2).2=0 then(iZ g l q.1 q.2).1 else ⟨0#64,q.2.pk.bits,[]⟩:=rfl
    have hnX:eP g l q=(iD g l q).g_:=rfl;generalize iZ g l q.1 q.2=S at hst XK;obtain⟨⟨lC,fP,bP⟩,er⟩:=S;obtain⟨q1,⟨qr,q2⟩⟩:=q;simp only[nD,bv]at hst;simp only[xK,vH,ints,Pk.cs,List.map,bv]at hst;simp only at XK i2 hq hw1 hnr;simp -dsimp[n_,ints,Pk.cs,bv];and_intros;all_goals try first|omega|exact⟨by kernel_rfl⟩
    refine ah.of hst [.x 0,.x 1] 0 ?_;by_cases her:er=0
    case neg=>
     rw[if_neg her]at XK
     have hN:eP g l (q1,⟨qr,q2⟩) = []:=by rw[hnX,XK]
     rw[hN,List.append_nil,XK]at i1
     have hnt:rP t q1 q2 ⟨0#64,q2.bits,[]⟩ = ⟨t.dl,t.cr,if q2.bits=0#64 then t.ls else t.ls++[(q1,q2.bits)]⟩:=by
      simp[rP,Au,nI,vK]
     simp only[hnt]at i1;by_cases cb:q2.bits=0#64
     ·rw[if_pos cb]at i1
      simp -dsimp[hok,her,cb];and_intros;all_goals try first|omega|exact⟨by kernel_rfl⟩|rfl
      refine⟨⟨(n,Q,t),i1,by simp only at i2⊢;omega,by simp only;omega,fun x hx=>i4 x (by simp[hx]),by simp only;omega,by simp only;omega,by simp only;omega⟩,?_,by simp⟩;refine GS.cut' 8 18 (n:=Q.length+1) (j:=1) (k:=12) (e:=236) (((q1,(⟨qr,q2⟩:Fr))::Q).map n_) (by simp) (by simp[n_,ints,Pk.cs,bv,cb]) (by simp) (by simp) (by simp[qO,bv]) (by simp) (by simp[qO,bv])
     ·rw[if_neg cb]at i1
      simp -dsimp[hok,her,cb];and_intros;all_goals try first|omega|exact⟨by kernel_rfl⟩|rfl
      refine⟨⟨(n,Q,⟨t.dl,t.cr,t.ls++[(q1,q2.bits)]⟩),i1,by simp only at i2⊢;omega,by simp only;omega,fun x hx=>i4 x (by simp[hx]),by simp only;omega,by simp only;omega,by simp only[List.length_append,List.length_cons,List.length_nil];omega⟩,?_,by simp⟩
      refine GS.cut' 8 18 (n:=Q.length+1) (j:=1) (k:=12) (e:=236) (((q1,(⟨qr,q2⟩:Fr))::Q).map n_) (by simp) (by simp[n_,ints,Pk.cs,bv]) (by simp) (by simp) (by simp[qO,bv]) (by simp) (by simp[qO,bv])
    rw[if_pos her]at XK
    have hN:eP g l (q1,⟨qr,q2⟩)=bP:=by rw[hnX,XK]
    have hnt:rP t q1 q2 ⟨lC,fP,bP⟩ = ⟨t.dl++nI q1 ⟨lC,fP,[]⟩ q2,t.cr++bP.map (fun c=>(q1,c.1,c.2.pk.bits)),if fP=0#64 then t.ls else t.ls++[(q1,fP)]⟩:=rfl;rw[hN,XK]at i1
    simp only[hnt]at i1;rw[hN]at hq hnl hnr
    have hlc:=acT tb0 q1 ⟨lC,fP,[]⟩ (bP.map n_) q2;have hll:(nI q1 ⟨lC,fP,[]⟩ q2).length≤64:=by unfold nI;rw[List.length_map];exact iT _
    generalize nI q1 ⟨lC,fP,[]⟩ q2=LV at i1 hlc hll;have hdl:dLen 11 (LV.map lT):=iF 11 _ _ fun _=>rfl
    have Yz:(bP.map fun c=>(q1,c.1,c.2.pk.bits)).length=bP.length:=by simp
    have hCg:∀(j:Nat) (c:Int×Fr),bP[j]? = some c→(bP.map fun c=>(q1,c.1,c.2.pk.bits))[j]? = some (q1,c.1,c.2.pk.bits):=fun j c h=>by simp[h]
    generalize (bP.map fun c=>(q1,c.1,c.2.pk.bits))=Ba at i1 Yz hCg;simp only[bZ,dX,Pk.cs,List.map,oLT,bv]at hlc;simp -dsimp[hok,her];refine ah.view [57] ?_;simp -dsimp;refine ah.of hlc [] 0 ?_;by_cases c0:fP=0#64
    ·simp -dsimp[c0];and_intros;all_goals try first|omega|exact hdl|exact rfl|exact⟨by kernel_rfl⟩
     refine aN.of [18] (fun k=>k==0||k==1||k==2||k==3||k==6||k==7||k==8||k==9||k==10||k==11||k==13||k==21||k==37||k==42||k==69||k==81||k==82||k==83||k==84) (ι:={j:Nat // j≤bP.length})
      (fun j=>[(Pl.s 2,It.v (.clo 116 [TV.ptr (Pl.x 0) 0,TV.ptr (Pl.x 1) 0])),(Pl.x 0,It.box [TV.d (.sl (rts g.rs)),TV.d (.sl (dO g.ls))]),(Pl.x 1,It.box [TV.d (.sl (oq l))]),
       (Pl.o 6,It.box [TV.c (Value.slice none 0 0),TV.c (Value.slice none 0 0),TV.c (Value.slice none 0 0)]),(Pl.s 6,It.v (.ptr (Pl.o 6) 0)),
       (Pl.o 7,It.box [TV.aB 70 (t.dl.length+LV.length),TV.aB 71 (t.cr.length+j.1),TV.aB 72 (t.ls.length)]),(Pl.s 7,It.v (.ptr (Pl.o 7) 0)),
       (Pl.o 70,It.row 92 11 (dd (t.dl.map lT)++dd (LV.map lT)) false),(Pl.o 71,It.row 96 3 (dd (t.cr.map lJ)++dd (List.take j.1 (Ba.map lJ))) false),(Pl.o 72,It.row 176 2 (dd (t.ls.map qO)) false),
       (Pl.o 18,It.wI 236 12 (dd (Q.map n_)++dd (List.take j.1 (bP.map n_)))),(Pl.s 8,It.v (.aB 18 (Q.length+j.1))),
       (Pl.o 9,It.box (TV.d (.int .i64 q1)::TV.d (ints qr)::q2.cs.map .d)),(Pl.s 9,It.v (.ptr (Pl.o 9) 0)),
       (Pl.s 81,It.v (.d (.sl (List.map n_ bP)))),(Pl.s 82,It.v (.d (.int .i64 bP.length))),(Pl.s 83,It.v (.d (.int .i64 j.1)))])
      (fun j=>bP.length-j.1) ⟨0,by omega⟩ ?_ ?_
     ·exact GS.cut' 8 18 (n:=Q.length+1) (j:=1) (k:=12) (e:=236) (((q1,(⟨qr,q2⟩:Fr))::Q).map n_) (by simp) (by simp[n_,ints,Pk.cs,bv]) (by simp) (by simp) (by simp[qO,bv,Pk.cs,ints]) (by simp) (by simp[qO,bv,Pk.cs,ints])
     ·rintro⟨j,j1⟩;by_cases hj:j<bP.length
      ·have hjz:(j:Int)<bP.length:=by omega
       have hg:bP[j]? = some bP[j]:=List.getElem?_eq_getElem hj;have hcg:=hCg j _ hg;generalize bP[j]=c at hg hcg;obtain⟨c1,⟨cr,c2⟩⟩:=c;have hn1:dd (List.take (j+1) (Ba.map lJ))=dd (List.take j (Ba.map lJ))++[[TV.d (.int .i64 q1),TV.d (.int .i64 c1),TV.d (bv c2.bits)]]:=by
        rw[List.take_add_one,List.getElem?_map,hcg];simp[dd,lJ]
       have hn2:dd (List.take (j+1) (bP.map n_))=dd (List.take j (bP.map n_))++[TV.d (.int .i64 c1)::TV.d (ints cr)::c2.cs.map .d]:=by
        rw[List.take_add_one,List.getElem?_map,hg];simp[dd,n_]
       simp[Pk.cs,bv,ints]at hn1 hn2
       have hm1:min j Ba.length=j:=by omega
       have hm2:min j bP.length=j:=by omega
       simp -dsimp[hg,hjz,n_,ints,Pk.cs,bv,hm1,hm2,wrap_i64 (n:=(j:Int)+1) (by omega) (by omega)];and_intros;all_goals try first|omega|exact⟨by kernel_rfl⟩
       exact⟨⟨j+1,by omega⟩,GS.to (by simp[hn1,hn2,Pk.cs,bv,ints,Nat.add_assoc]),by simp;omega⟩
      ·have hjz :¬(j:Int)<bP.length:=by omega
       obtain rfl:j=bP.length:=by omega
       have ht1:List.take bP.length (Ba.map lJ)=Ba.map lJ:=List.take_of_length_le (by simp;omega);have ht2:List.take bP.length (bP.map n_)=bP.map n_:=List.take_of_length_le (by simp);simp -dsimp[hjz];and_intros;all_goals try first|rfl|omega|exact⟨by kernel_rfl⟩
       refine⟨⟨(n,Q++bP,_),i1,by simp only[xI];omega,by simp only;omega,?_,by simp only[List.length_append];omega,by simp only[List.length_append,Yz];omega,by simp only[c0,if_true];omega⟩,GS.to (by simp[ht1,ht2,c0,Yz,qO,bv]),by simp⟩;intro x hx;rcases List.mem_append.1 hx with h|h
       ·exact i4 x (by simp[h])
       ·exact hnr x h
    ·simp -dsimp[c0];and_intros;all_goals try first|omega|exact hdl|exact rfl|exact⟨by kernel_rfl⟩
     refine aN.of [18] (fun k=>k==0||k==1||k==2||k==3||k==6||k==7||k==8||k==9||k==10||k==11||k==13||k==21||k==37||k==42||k==69||k==81||k==82||k==83||k==84) (ι:={j:Nat // j≤bP.length})
      (fun j=>[(Pl.s 2,It.v (.clo 116 [TV.ptr (Pl.x 0) 0,TV.ptr (Pl.x 1) 0])),(Pl.x 0,It.box [TV.d (.sl (rts g.rs)),TV.d (.sl (dO g.ls))]),(Pl.x 1,It.box [TV.d (.sl (oq l))]),
       (Pl.o 6,It.box [TV.c (Value.slice none 0 0),TV.c (Value.slice none 0 0),TV.c (Value.slice none 0 0)]),(Pl.s 6,It.v (.ptr (Pl.o 6) 0)),
       (Pl.o 7,It.box [TV.aB 70 (t.dl.length+LV.length),TV.aB 71 (t.cr.length+j.1),TV.aB 72 (t.ls.length+1)]),(Pl.s 7,It.v (.ptr (Pl.o 7) 0)),
       (Pl.o 70,It.row 92 11 (dd (t.dl.map lT)++dd (LV.map lT)) false),(Pl.o 71,It.row 96 3 (dd (t.cr.map lJ)++dd (List.take j.1 (Ba.map lJ))) false),(Pl.o 72,It.row 176 2 (dd (t.ls.map qO)++[[TV.d (.int .i64 q1),TV.d (.int .u64 (tn fP))]]) false),
       (Pl.o 18,It.wI 236 12 (dd (Q.map n_)++dd (List.take j.1 (bP.map n_)))),(Pl.s 8,It.v (.aB 18 (Q.length+j.1))),
       (Pl.o 9,It.box (TV.d (.int .i64 q1)::TV.d (ints qr)::q2.cs.map .d)),(Pl.s 9,It.v (.ptr (Pl.o 9) 0)),
       (Pl.s 81,It.v (.d (.sl (List.map n_ bP)))),(Pl.s 82,It.v (.d (.int .i64 bP.length))),(Pl.s 83,It.v (.d (.int .i64 j.1)))])
      (fun j=>bP.length-j.1) ⟨0,by omega⟩ ?_ ?_
     ·exact GS.cut' 8 18 (n:=Q.length+1) (j:=1) (k:=12) (e:=236) (((q1,(⟨qr,q2⟩:Fr))::Q).map n_) (by simp) (by simp[n_,ints,Pk.cs,bv]) (by simp) (by simp) (by simp[qO,bv,Pk.cs,ints]) (by simp) (by simp[qO,bv,Pk.cs,ints])
     ·rintro⟨j,j1⟩;by_cases hj:j<bP.length
      ·have hjz:(j:Int)<bP.length:=by omega
       have hg:bP[j]? = some bP[j]:=List.getElem?_eq_getElem hj;have hcg:=hCg j _ hg;generalize bP[j]=c at hg hcg;obtain⟨c1,⟨cr,c2⟩⟩:=c;have hn1:dd (List.take (j+1) (Ba.map lJ))=dd (List.take j (Ba.map lJ))++[[TV.d (.int .i64 q1),TV.d (.int .i64 c1),TV.d (bv c2.bits)]]:=by
        rw[List.take_add_one,List.getElem?_map,hcg];simp[dd,lJ]
       have hn2:dd (List.take (j+1) (bP.map n_))=dd (List.take j (bP.map n_))++[TV.d (.int .i64 c1)::TV.d (ints cr)::c2.cs.map .d]:=by
        rw[List.take_add_one,List.getElem?_map,hg];simp[dd,n_]
       simp[Pk.cs,bv,ints]at hn1 hn2
       have hm1:min j Ba.length=j:=by omega
       have hm2:min j bP.length=j:=by omega
       simp -dsimp[hg,hjz,n_,ints,Pk.cs,bv,hm1,hm2,wrap_i64 (n:=(j:Int)+1) (by omega) (by omega)];and_intros;all_goals try first|omega|exact⟨by kernel_rfl⟩
       exact⟨⟨j+1,by omega⟩,GS.to (by simp[hn1,hn2,Pk.cs,bv,ints,Nat.add_assoc]),by simp;omega⟩
      ·have hjz :¬(j:Int)<bP.length:=by omega
       obtain rfl:j=bP.length:=by omega
       have ht1:List.take bP.length (Ba.map lJ)=Ba.map lJ:=List.take_of_length_le (by simp;omega);have ht2:List.take bP.length (bP.map n_)=bP.map n_:=List.take_of_length_le (by simp);simp -dsimp[hjz];and_intros;all_goals try first|rfl|omega|exact⟨by kernel_rfl⟩
       refine⟨⟨(n,Q++bP,_),i1,by simp only[xI];omega,by simp only;omega,?_,by simp only[List.length_append];omega,by simp only[List.length_append,Yz];omega,by simp only[c0,if_false,List.length_append,List.length_cons,List.length_nil];omega⟩,GS.to (by simp[ht1,ht2,c0,Yz,qO,bv]),by simp⟩;intro x hx;rcases List.mem_append.1 hx with h|h
       ·exact i4 x (by simp[h])
       ·exact hnr x h
end Go.Proofs
