/-
  What functions of the program compute, stated as contracts over plain data; the conditions of each stand in its own statement.
-/
import Derived.Test.YtboimfkommpglaaGreatDoorZA21
import Derived.Test.YtboimfkommpglaaGreatDoorZA17
import Derived.Test.YtboimfkommpglaaGreatDoorZA18
import Derived.Test.YtboimfkommpglaaGreatDoorZA32
import Derived.Test.YtboimfkommpglaaGreatDoorZA27
import Derived.Test.YtboimfkommpglaaGreatDoorZA16
import Derived.Test.YtboimfkommpglaaGreatDoorZA28
import Derived.Test.YtboimfkommpglaaGreatDoorZA20
set_option linter.unusedSimpArgs false
set_option linter.unusedVariables false
set_option maxRecDepth 100000
set_option maxHeartbeats 16000000
namespace Go.Proofs
open Go Go.Tr
theorem A8(g:ay)(h0:cZ g=0)(to:Int)(hto:aY g.rs to=true):∀(k:Nat) (r:Int),(dst g to r).toNat<k→
  Contract Tryz.prog 83 [aH g,.d (ints (dist g to)),.d (.int .i64 r),.d (.int .i64 to)] [] (.d (ints (J5 (Hf g to) (dY g.rs) to k r))) [] []
 | 0,_,h=>by omega
 | k+1,r,hk=>by
   have hg:=aU h0;have hs:=hg.sm;have IH:=A8 g h0 to hto k;have hst:=JJ g hg (dist g to) (by rw[H_];exact Nat.le_refl _) (LC hg to) r;obtain⟨l,hl⟩:∃l,l=Hf g to r:=⟨_,rfl⟩
   have hll:l.length≤24:=hl▸QA hg to r;have hlm:∀n∈l,(dst g to n).toNat<k∧aY g.rs n=true:=fun n hn=>Ei hg hk (hl▸hn)
   rw[show steps g (dist g to) r=l from hl.symm]at hst
   obtain⟨go,hgo⟩:∃go,go=J5 (Hf g to) (dY g.rs) to k:=⟨_,rfl⟩
   have hS:J5 (Hf g to) (dY g.rs) to (k+1) r=BU (dY g.rs) to go l:=by rw[J5,hl,hgo]
   have hgl:∀n∈l,(go n).length≤24:=fun n hn=>by
    by_cases hne:go n = []
    ·simp[hne]
    ·rw[hgo]at hne⊢
     exact(FD hg hto k n (hlm n hn).1 hne).len hg
   rw[hS];obtain⟨w,hw⟩:∃w,w=BU (dY g.rs) to go l:=⟨_,rfl⟩
   rw[←hw];rw[←hgo]at IH
   generalize dist g to=d at IH hst⊢;simp only[aH]at IH hst;refine aj Tryz.func83 rfl (fun E0=>?_);refine cO.sound (g:=.mk) (ow:=[51]) (kp:=(fun k=>k==0||k==1||k==2||k==3||k==4||k==8||k==9||k==10||k==11||k==19||k==27||k==35||k==46)) ?_;rw[Tryz.ntmps83];simp -dsimp[aH];refine ah.of hst [] 0 ?_;simp -dsimp[aH,ints]
   refine aN.of [51] (fun k=>k==0||k==1||k==2||k==3||k==4||k==8||k==9||k==10||k==11||k==19||k==27||k==35||k==46) (ι:={i:Nat // i≤l.length∧BU (dY g.rs) to go l=BU (dY g.rs) to go (l.drop i)})
    (fun z=>[(Pl.s 1,It.v (.d (ints d))),(Pl.s 3,It.v (.d (.int .i64 to))),(Pl.o 4,It.box [.d (.sl (rts g.rs)),.d (.sl (dO g.ls))]),(Pl.s 4,It.v (.ptr (.o 4) 0)),(Pl.s 9,It.v (.d (ints l))),(Pl.s 10,It.v (.d (.int .i64 z.1)))])
    (fun z=>l.length-z.1) ⟨0,by omega,by simp⟩ ?_ ?_
   ·exact GS.to (by simp[ints])
   ·rintro⟨i,i1,i2⟩;by_cases hi:i<l.length
    ·have hiz:(i:Int)<l.length:=by omega
     have hx:l[i]? = some l[i]:=List.getElem?_eq_getElem hi;have hmem:=List.getElem_mem hi;have hd:=Nw (cp:=dY g.rs) (to:=to) (go:=go) hx;generalize l[i]=n at hx hmem hd;have hm:=hlm n hmem;have hgn:=hgl n hmem;have hcp:=xZ g hs n;simp only[aH,h0,decide_true,Bool.true_and]at hcp;have hx':(l.map fun n=>[D.int .i64 n])[i]? = some [.int .i64 n]:=by simp[hx]
     have w1:IntKind.i64.wrap ((i:Int)+1)=(i:Int)+1:=wrap_i64 (by omega) (by omega);by_cases hn:n=to
     ·have vw:w = [to]:=hw.trans (i2.trans (by rw[hd,if_pos hn]));simp -dsimp[hiz,hx,hx',ints,hn];and_intros;all_goals try first|omega|exact⟨by kernel_rfl⟩|rfl
      refine Fin.view 8 ?_;simp -dsimp;refine Fin.of ?_;simp[ints,vw]
     ·have hcz:w=if dY g.rs n=true then BU (dY g.rs) to go (l.drop (i+1))else if go n = []then BU (dY g.rs) to go (l.drop (i+1))else n::go n:=hw.trans (i2.trans (by rw[hd,if_neg hn]))
      simp -dsimp[hiz,hx,hx',ints,hn];and_intros;all_goals try first|omega|exact⟨by kernel_rfl⟩|rfl
      refine ah.of hcp [] 0 ?_;rcases (Bool.eq_false_or_eq_true (dY g.rs n)).symm with hc|hc
      ·rw[if_neg (by simp[hc])]at hcz
       simp -dsimp[hc,hiz,hx,hx',ints];and_intros;all_goals try first|omega|exact⟨by kernel_rfl⟩|rfl
       refine ah.of (IH n hm.1) [] 0 ?_;by_cases EZ:go n = []
       ·rw[EZ];simp -dsimp[ints,w1,hiz];and_intros;all_goals try first|omega|exact⟨by kernel_rfl⟩|rfl
        refine⟨⟨i+1,by omega,i2.trans (by rw[hd,if_neg hn,if_neg (by simp[hc]),if_pos EZ])⟩,GS.to (by simp[ints]),by simp;omega⟩
       ·have hgp:0<(go n).length:=List.length_pos_iff.2 EZ;have hgz:(0:Int)<(go n).length:=by omega
        rw[if_neg EZ]at hcz
        simp -dsimp[ints,hgz,hgp,hiz,hx,hx'];and_intros;all_goals try first|omega|exact⟨by kernel_rfl⟩|exact iF 1 _ _ (fun _=>rfl)|rfl
        refine Fin.view 8 ?_;simp -dsimp;refine⟨by omega,?_⟩;refine Fin.of ?_;simp[ints,hcz]
      ·simp -dsimp[hc,w1];and_intros;all_goals try first|omega|exact⟨by kernel_rfl⟩|rfl
       refine⟨⟨i+1,by omega,i2.trans (by rw[hd,if_neg hn,if_pos hc])⟩,GS.to (by simp[ints]),by simp;omega⟩
    ·have hiz :¬(i:Int)<l.length:=by omega
     have hdn:l.drop i = []:=List.drop_eq_nil_of_le (by omega);have vw:w = []:=hw.trans (i2.trans (by rw[hdn,BU]));simp -dsimp[hiz,ints];refine Fin.view 8 ?_;simp -dsimp;refine Fin.of ?_;simp[ints,vw]
theorem sS(g:ay)(hs:g.Sm)(f t:Int):Contract Tryz.prog 22 [aH g,.d (.int .i64 f),.d (.int .i64 t)] [] (.d (ints (route g f t))) [] []:=by
 have h1:=sG g hs f;have h2:=sG g hs t;simp only[aH]at h1 h2;by_cases h0:cZ g=0
 ·simp only[h0,decide_true,Bool.true_and]at h1 h2;rcases (Bool.eq_false_or_eq_true (aY g.rs f)).symm with hf|hf
  ·have e:route g f t = []:=by unfold route;rw[if_neg (by simp[hf])]
   rw[e];rw[hf]at h1
   refine aj Tryz.func22 rfl (fun E0=>?_);refine cO.sound (g:=.mk) (ow:=[]) (kp:=(fun k=>k==0||k==1||k==2||k==3||k==6||k==21)) ?_;rw[Tryz.ntmps22];simp -dsimp[aH];refine ah.of h1 [] 0 ?_;simp -dsimp[aH];and_intros;all_goals try first|omega|exact⟨by kernel_rfl⟩|rfl
   refine Fin.view 6 ?_;simp -dsimp;refine Fin.of ?_;simp[ints]
  rcases (Bool.eq_false_or_eq_true (aY g.rs t)).symm with ht|ht
  ·have e:route g f t = []:=by unfold route;rw[if_neg (by simp[ht])]
   rw[e];rw[hf]at h1
   rw[ht]at h2
   refine aj Tryz.func22 rfl (fun E0=>?_);refine cO.sound (g:=.mk) (ow:=[]) (kp:=(fun k=>k==0||k==1||k==2||k==3||k==6||k==21)) ?_;rw[Tryz.ntmps22];simp -dsimp[aH];refine ah.of h1 [] 0 ?_;simp -dsimp[aH];refine ah.of h2 [] 0 ?_;simp -dsimp[aH];and_intros;all_goals try first|omega|exact⟨by kernel_rfl⟩|rfl
   refine Fin.view 6 ?_;simp -dsimp;refine Fin.of ?_;simp[ints]
  rw[hf]at h1
  rw[ht]at h2
  by_cases hne:f=t
  ·have e:route g f t = []:=by unfold route;rw[if_neg (by simp[hne])]
   rw[e];refine aj Tryz.func22 rfl (fun E0=>?_);refine cO.sound (g:=.mk) (ow:=[]) (kp:=(fun k=>k==0||k==1||k==2||k==3||k==6||k==21)) ?_;rw[Tryz.ntmps22];simp -dsimp[aH];refine ah.of h1 [] 0 ?_;simp -dsimp[aH];refine ah.of h2 [] 0 ?_;simp -dsimp[aH,hne];and_intros;all_goals try first|omega|exact⟨by kernel_rfl⟩|rfl
   refine Fin.view 6 ?_;simp -dsimp;refine Fin.of ?_;simp[ints]
  ·have hg:=aU h0;have h3:=Uj g hg t;have h4:=A8 g h0 t ht ((dst g t f).toNat+1) f (by omega);have e:route g f t=J5 (Hf g t) (dY g.rs) t ((dst g t f).toNat+1) f:=by unfold route;rw[if_pos ⟨h0,hf,ht,hne⟩]
   rw[e];simp only[aH]at h3 h4;refine aj Tryz.func22 rfl (fun E0=>?_);refine cO.sound (g:=.mk) (ow:=[]) (kp:=(fun k=>k==0||k==1||k==2||k==3||k==6||k==21)) ?_;rw[Tryz.ntmps22];simp -dsimp[aH];refine ah.of h1 [] 0 ?_;simp -dsimp[aH];refine ah.of h2 [] 0 ?_;simp -dsimp[aH,hne];refine ah.of h3 [] 0 ?_;simp -dsimp[aH];refine ah.of h4 [] 0 ?_;simp -dsimp[aH];and_intros
   all_goals try first|omega|exact⟨by kernel_rfl⟩|rfl
   refine Fin.of ?_;simp
 ·have e:route g f t = []:=by unfold route;rw[if_neg (by simp[h0])]
  rw[e];simp only[h0,decide_false,Bool.false_and]at h1;refine aj Tryz.func22 rfl (fun E0=>?_);refine cO.sound (g:=.mk) (ow:=[]) (kp:=(fun k=>k==0||k==1||k==2||k==3||k==6||k==21)) ?_;rw[Tryz.ntmps22];simp -dsimp[aH];refine ah.of h1 [] 0 ?_;simp -dsimp[aH];and_intros;all_goals try first|omega|exact⟨by kernel_rfl⟩|rfl
  refine Fin.view 6 ?_;simp -dsimp;refine Fin.of ?_;simp[ints]
theorem AV(g:ay)(hs:g.Sm)(r:Int)(c:Int×Fr):Contract Tryz.prog 25 [aH g,.d (.int .i64 r),JX c] []
  (.rG [JX ((jZ g r (c.1,c.2.pk)).getD Uu),.d (.bool (jZ g r (c.1,c.2.pk)).isSome)]) [] []:=by
 have h1:=sS g hs r c.1;have hl:=pK g r c.1;simp only[aH]at h1;cases hR:route g r c.1 with
 | nil=>
   rw[NG (c:=(c.1,c.2.pk)) hR];rw[hR]at h1
   refine aj Tryz.func25 rfl (fun E0=>?_);refine cO.sound (g:=.mk) (ow:=[]) (kp:=(fun k=>k==0||k==1||k==2||k==3||k==5||k==6||k==7||k==8||k==16)) ?_;rw[Tryz.ntmps25];simp -dsimp[aH,JX,n_,Pk.cs];refine ah.of h1 [] 0 ?_;simp -dsimp[ints];and_intros;all_goals try first|rfl|omega|exact⟨by kernel_rfl⟩
   refine Fin.box (.o 6) rfl ?_;simp -dsimp;refine Fin.of ?_;simp[JX,n_,Uu,Bh,Pk.cs,ints,bv]
 | cons n w=>
   rw[JH (c:=(c.1,c.2.pk)) hR];rw[hR]at h1 hl
   refine aj Tryz.func25 rfl (fun E0=>?_);refine cO.sound (g:=.mk) (ow:=[]) (kp:=(fun k=>k==0||k==1||k==2||k==3||k==5||k==6||k==7||k==8||k==16)) ?_;rw[Tryz.ntmps25];simp -dsimp[aH,JX,n_,Pk.cs];refine ah.of h1 [] 0 ?_;have hz :¬((w.length:Int)+1=0):=by omega
   have ht:List.take w.length (List.map (fun n=>[D.int .i64 n]) w)=List.map (fun n=>[D.int .i64 n]) w:=List.take_of_length_le (by simp);simp -dsimp[ints,hz];and_intros;all_goals try first|rfl|omega|exact⟨by kernel_rfl⟩
   refine Fin.box (.o 6) rfl ?_;simp -dsimp;refine Fin.of ?_;simp[JX,n_,Uu,Bh,Pk.cs,ints,bv,ht]
theorem KX(l:List Int):UY l=decide (¬l.Nodup):=by
 rw[Bool.eq_iff_iff];simp only[UY,decide_eq_true_eq];have hg:∀i,(h:i<l.length)→l.getD i 0=l[i]:=fun i h=>by simp[h]
 constructor
 ·rintro⟨i,j,h1,h2,h3⟩ hn;rw[hg i h2,hg j (by omega)]at h3
  have:=(List.pairwise_iff_getElem.1 hn) j i (by omega) h2 h1;exact this h3.symm
 ·intro hn;refine Classical.byContradiction fun hc=>hn (List.pairwise_iff_getElem.2 fun j i hj hi hji e=>hc ⟨i,j,hji,hi,by rw[hg i hi,hg j hj,e]⟩)
theorem Ld(f:Fr)(hl:f.rt.length≤100000):Contract Tryz.prog 107 [xK f] [] (.d (.bool (frB f))) [] []:=by
 have h2:=JE f.rt hl;have h3:=o9 f.pk;simp only[dX,Pk.cs,List.map]at h3;simp only[ints,KX]at h2;obtain⟨w,hw⟩:∃w,w=frB f:=⟨_,rfl⟩
 rw[←hw];rw[aac]at hw
 generalize decide (¬f.rt.Nodup)=q2 at h2 hw;refine aj Tryz.func107 rfl (fun E0=>?_);refine cO.sound (g:=.mk) (ow:=[]) (kp:=(fun k=>k==0||k==1||k==2||k==3||k==12||k==17||k==33)) ?_;rw[Tryz.ntmps107];by_cases c1:f.rt.length≤24
 case neg=>
  have yw:(24:Int)<f.rt.length:=by omega
  simp -dsimp[xK,vH,ints,Pk.cs,yw];and_intros;all_goals try first|rfl|omega|exact⟨by kernel_rfl⟩
  refine Fin.of ?_;simp[hw,c1]
 have yw :¬(24:Int)<f.rt.length:=by omega
 simp -dsimp[xK,vH,ints,Pk.cs,yw];refine ah.of h2 [] 0 ?_;cases q2 with
 | true=>
   simp -dsimp[ints,Pk.cs];and_intros;all_goals try first|rfl|omega|exact⟨by kernel_rfl⟩
   refine Fin.of ?_;simp[hw]
 | false=>
   simp -dsimp[ints,Pk.cs];and_intros;all_goals try first|rfl|omega|exact⟨by kernel_rfl⟩
   refine aN.of [] (fun k=>k==0||k==1||k==2||k==3||k==12||k==17||k==33) (ι:={i:Nat // i≤f.rt.length∧∀n∈f.rt.take i,inB n 1 99=true})
    (fun z=>[(Pl.o 1,It.box (TV.d (ints f.rt)::f.pk.cs.map .d)),(Pl.s 1,It.v (.ptr (.o 1) 0)),(Pl.s 3,It.v (.d (.int .i64 z.1)))]) (fun z=>f.rt.length-z.1) ⟨0,by omega,by simp⟩ ?_ ?_
   ·exact GS.to (by simp[ints,Pk.cs])
   ·rintro⟨i,i1,i2⟩;by_cases hi:i<f.rt.length
    ·have hiz:(i:Int)<f.rt.length:=by omega
     have hx:f.rt[i]? = some f.rt[i]:=List.getElem?_eq_getElem hi;have hm:f.rt[i]∈f.rt:=List.getElem_mem hi;generalize f.rt[i]=n at hx hm;have hno:inB n 1 99=false→w=false:=fun h=>by
      rw[hw];have:(f.rt.any fun n=>!inB n 1 99)=true:=List.any_eq_true.2 ⟨n,hm,by simp[h]⟩;simp[this]
     have w1:IntKind.i64.wrap ((i:Int)+1)=(i:Int)+1:=wrap_i64 (by omega) (by omega);by_cases d1:n<1
     ·simp -dsimp[ints,Pk.cs,hiz,hx,d1];and_intros;all_goals try first|rfl|omega|exact⟨by kernel_rfl⟩
      refine Fin.of ?_;simp[hno (by simp[inB];omega)]
     by_cases d2:99<n
     ·simp -dsimp[ints,Pk.cs,hiz,hx,d1,d2];and_intros;all_goals try first|rfl|omega|exact⟨by kernel_rfl⟩
      refine Fin.of ?_;simp[hno (by simp[inB];omega)]
     simp -dsimp[ints,Pk.cs,hiz,hx,d1,d2,w1];and_intros;all_goals try first|rfl|omega|exact⟨by kernel_rfl⟩
     refine⟨⟨i+1,by omega,fun m hm=>?_⟩,GS.to (by simp[ints,Pk.cs]),by simp;omega⟩;rw[List.take_add_one,hx,Option.toList_some]at hm
     rcases List.mem_append.1 hm with h|h
     ·exact i2 m h
     ·rw[List.mem_singleton.1 h];simp[inB];omega
    ·have hiz :¬(i:Int)<f.rt.length:=by omega
     have hq:(f.rt.any fun n=>!inB n 1 99)=false:=List.any_eq_false.2 fun n hn=>by
      rw[List.take_of_length_le (by omega)]at i2
      simp[i2 n hn]
     simp -dsimp[ints,Pk.cs,hiz];refine ah.of h3 [] 0 ?_;simp -dsimp[ints,Pk.cs];and_intros;all_goals try first|rfl|omega|exact⟨by kernel_rfl⟩
     refine Fin.of ?_;simp[hw,hq,c1]
theorem Tv(g:ay)(hs:g.Sm)(r n:Int)(w:List Int)(p:Pk):
  Contract Tryz.prog 109 [aH g,.d (.int .i64 r),xK ⟨n::w,p⟩] [] (nD (qP g r n w p)) [] []:=by
 have h1:=yt g hs r n;simp only[aH,mO]at h1;unfold qP;generalize price g.ls r n=q at h1⊢;refine aj Tryz.func109 rfl (fun E0=>?_);refine cO.sound (g:=.mk) (ow:=[]) (kp:=(fun k=>k==0||k==1||k==2||k==3||k==5||k==6||k==8||k==20)) ?_;rw[Tryz.ntmps109];simp -dsimp[aH,xK,vH,ints,Pk.cs];refine ah.of h1 [] 0 ?_;cases q with
 | none=>
   simp -dsimp[ints,Pk.cs];and_intros;all_goals try first|rfl|omega|exact⟨by kernel_rfl⟩
   refine Fin.box (.o 6) rfl ?_;simp -dsimp;refine Fin.of ?_;simp[nD,bv]
 | some c=>
   simp -dsimp[ints,Pk.cs];and_intros;all_goals try first|rfl|omega|exact⟨by kernel_rfl⟩
   refine Fin.box (.o 6) rfl ?_;simp -dsimp;refine Fin.of ?_;have ht:List.take w.length (List.map (fun n=>[D.int .i64 n]) w)=List.map (fun n=>[D.int .i64 n]) w:=List.take_of_length_le (by simp);simp[nD,n_,bv,Pk.cs,ints,ht]
structure qW(rs:List Rt)(p:Pn):Prop where
 bF:0≤p.bF∧p.bF≤7
 len:aG p.len=true
 n:p.es.length≤24
 rt:∀e∈p.es,1≤e.r∧e.r≤99
 ids:∀e∈p.es,1≤e.id∧e.id≤256
 xX:p.es.Pairwise fun a b=>a.id<b.id
 Fp:(p.es.map (·.r)).Nodup
theorem uI{rs:List Rt}{p:Pn}(h:qW rs p):d_ p=true:=by
 have gi:∀i (hi:i<p.es.length),gid p.es i=p.es[i].id∧KA p.es i=p.es[i].r:=fun i hi=>by simp[gid,KA,List.getD,hi]
 refine AL (by simp[yD,inB,h.bF,h.len,h.n]) (fun i hi=>?_) (fun i j hj hi=>?_)
 ·have h1:=h.ids p.es[i] (List.getElem_mem hi);have h2:=h.rt p.es[i] (List.getElem_mem hi);have h3:=gi i hi;by_cases h0:i=0
  ·simp[LD,inB,h3,h1,h2,h0];subst h0;simp[h3,h1,h2]
  ·have h4:=gi (i-1) (by omega);have h5:=List.pairwise_iff_getElem.1 h.xX (i-1) i (by omega) hi (by omega);simp[LD,inB,h3,h1,h2,h0,h4,h5]
 ·rw[(gi i hi).2,(gi j (by omega)).2];have:=List.pairwise_iff_getElem.1 h.Fp j i (by simp;omega) (by simpa using hi) hj;simp only[List.getElem_map]at this;exact fun e=>this e.symm
theorem gQ:∀(n i:Nat) (T:Tp) (l:List Int),l.Nodup→(∀x∈l,x<(i:Int))→(kY n i T l).1.Nodup
 | 0,_,_,_,h,_=>h
 | n+1,i,T,l,h,hb=>by
   rw[kY];generalize (au T (i+1)).1.toNat=k;have hs:(l.take k++l.drop k).Nodup:=by rw[List.take_append_drop];exact h
   have hi:(i:Int)∉l:=fun hm=>by have:=hb _ hm;omega
   refine gQ n (i+1) _ _ ?_ fun x hx=>?_
   ·rw[List.nodup_append]at hs⊢
    obtain⟨h1,h2,h3⟩:=hs;refine⟨?_,h2,fun a ha b hb'=>?_⟩
    ·rw[List.nodup_append];refine⟨h1,by simp,fun a ha b hb'=>?_⟩;simp at hb';subst hb';intro e;subst e;exact hi (List.mem_of_mem_take ha)
    ·rcases List.mem_append.1 ha with ha|ha
     ·exact h3 a ha b hb'
     ·simp at ha;subst ha;intro e;subst e;exact hi (List.mem_of_mem_drop hb')
   ·simp only[List.mem_append,List.mem_singleton]at hx;rcases hx with (hx|hx)|hx
    ·have:=hb x (List.mem_of_mem_take hx);omega
    ·omega
    ·have:=hb x (List.mem_of_mem_drop hx);omega
theorem vT(k:Nat){i:Nat}(h:i<k)(d:Rt):((cu k).getD i d).id=(i:Int)+1:=by
 simp[cu,List.getD,h]
structure QE(k:Nat)(o:List Int)(id:Int)(l:List Ed):Prop where
 pos:0≤id
 rt:∀e∈l,1≤e.r∧e.r≤k∧e.r-1∉o
 ids:∀e∈l,1≤e.id∧e.id≤256∧e.id≤id
 xX:l.Pairwise fun a b=>a.id<b.id
 Fp:(l.map (·.r)).Nodup
theorem nZ(k:Nat)(len:Int)(hl:8≤len):∀(o:List Int) (T:Tp) (id:Int) (l:List Ed),o.Nodup→(∀x∈o,0≤x∧x<(k:Int))→QE k o id l→
  QE k [] (aX (cu k) len o T id l).2.1 (aX (cu k) len o T id l).1
 | [],T,id,l,_,_,h=>h
 | x::o,T,id,l,hn,hb,h=>by
   rw[List.nodup_cons]at hn
   rw[aX];have hbx:=hb x (by simp);refine nZ k len hl o _ _ _ hn.2 (fun y hy=>hb y (by simp[hy])) ?_;unfold aV;simp only;have h0:QE k o id l:=⟨h.pos,fun e he=>by have:=h.rt e he;simp at this;exact⟨this.1,this.2.1,this.2.2.2⟩,h.ids,h.xX,h.Fp⟩
   split
   ·exact h0
   ·have bp:1≤(aK (au T 4).2 [1,1,1,2,len-1]).1:=dA (p:=fun x=>1≤x) (by simp) (by simp;omega);simp only;generalize aK (au T 4).2 [1,1,1,2,len-1]=p at bp⊢;split
    ·rename_i hid;have hr:((cu k).getD x.toNat ⟨0,false⟩).id=x+1:=by rw[vT k (by omega)];omega
     rw[hr];refine⟨by have:=h.pos;first|omega|(simp only;omega),fun e he=>?_,fun e he=>?_,?_,?_⟩
     ·simp only[List.mem_append,List.mem_singleton]at he;rcases he with he|rfl
      ·exact h0.rt e he
      ·refine⟨by first|omega|(simp only;omega),by first|omega|(simp only;omega),?_⟩;rw[show(x+1-1:Int)=x by omega];exact hn.1
     ·simp only[List.mem_append,List.mem_singleton]at he;rcases he with he|rfl
      ·have:=h.ids e he;first|omega|(simp only;omega)
      ·have:=h.pos;first|omega|(simp only;omega)
     ·rw[List.pairwise_append];refine⟨h.xX,by simp,fun a ha b hb'=>?_⟩;simp at hb';subst hb';have:=h.ids a ha;first|omega|(simp only;omega)
     ·rw[List.map_append,List.nodup_append];refine⟨h.Fp,by simp,fun a ha b hb'=>?_⟩;simp at hb';subst hb';obtain⟨e,he,rfl⟩:=List.mem_map.1 ha;have:=(h.rt e he).2.2;intro e1;apply this;rw[e1];simp
    ·exact⟨by have:=h.pos;first|omega|(simp only;omega),h0.rt,fun e he=>by have:=h.ids e he;first|omega|(simp only;omega),h.xX,h.Fp⟩
theorem l7(T:Tp){k:Nat}(hk:k≤24):qW (cu k) (bJ T (cu k)).1:=by
 have hl:((8:Int)≤(aK (au T 3).2 [8,8,16,32,64]).1)∧aG (aK (au T 3).2 [8,8,16,32,64]).1=true:=dA (p:=fun x=>(8:Int)≤x∧aG x=true) (by simp) (by simp;decide);have h1:=aC T 3;have h2:=bg T (n:=3) (by omega);have hln:=qh T (cu k);rw[EY]at hln
 have hord:=lZ (aK (au T 3).2 [8,8,16,32,64]).2 k;have hnd:(bT (aK (au T 3).2 [8,8,16,32,64]).2 k).1.Nodup:=gQ _ _ _ _ (by simp) (by simp);have hI:=nZ k _ hl.1 _ (bT (aK (au T 3).2 [8,8,16,32,64]).2 k).2 0 [] hnd hord ⟨by omega,by simp,by simp,by simp,by simp⟩;refine⟨by simp only[bJ];omega,hl.2,by omega,fun e he=>?_,fun e he=>?_,?_,?_⟩
 ·have he':e∈(aX (cu k) (aK (au T 3).2 [8,8,16,32,64]).1 (bT (aK (au T 3).2 [8,8,16,32,64]).2 k).1 (bT (aK (au T 3).2 [8,8,16,32,64]).2 k).2 0 []).1:=by simpa[bJ]using he
  have:=hI.rt e he';omega
 ·have he':e∈(aX (cu k) (aK (au T 3).2 [8,8,16,32,64]).1 (bT (aK (au T 3).2 [8,8,16,32,64]).2 k).1 (bT (aK (au T 3).2 [8,8,16,32,64]).2 k).2 0 []).1:=by simpa[bJ]using he
  have:=hI.ids e he';omega
 ·simpa[bJ]using hI.xX
 ·simpa[bJ]using hI.Fp
theorem kV(T:Tp)(rs:List Rt):dh T rs 0=((bJ T rs).1,(bJ T rs).2.2):=by
 simp[dh]
structure QC(most:Int)(g:ay)(p:Pn)(l:List Tb):Prop where
 top:zq most g
 plan:d_ p=true
 len:aG p.len=true
 bF:0≤p.bF∧p.bF≤7
 tab:l=tabs g p g.rs
theorem qj{rs rs':List Rt}(h:rs.map (·.id)=rs'.map (·.id))(len x:Int)(T:Tp)(id:Int)(l:List Ed):aV rs len x T id l=aV rs' len x T id l:=by
 have e:∀i:Nat,(rs.getD i ⟨0,false⟩).id=(rs'.getD i ⟨0,false⟩).id:=fun i=>by
  have:=congrArg (fun l=>l[i]?) h;simp only[List.getElem?_map]at this;rw[List.getD_eq_getElem?_getD,List.getD_eq_getElem?_getD];cases h1:rs[i]? with
  | none=>
    rw[h1]at this
    cases h2:rs'[i]? with
    | none=>rfl
    | some y=>rw[h2]at this;simp at this
  | some x=>
    rw[h1]at this
    cases h2:rs'[i]? with
    | none=>rw[h2]at this;simp at this
    | some y=>rw[h2]at this;simpa using this
 unfold aV;simp only[e]
theorem jG{rs rs':List Rt}(h:rs.map (·.id)=rs'.map (·.id))(len:Int):∀(o:List Int) (T:Tp) (id:Int) (l:List Ed),aX rs len o T id l=aX rs' len o T id l
 | [],_,_,_=>rfl
 | x::o,T,id,l=>by
   rw[aX,aX,qj h,jG h]
theorem qg{rs rs':List Rt}(h:rs.map (·.id)=rs'.map (·.id))(T:Tp):bJ T rs=bJ T rs':=by
 have hl:rs.length=rs'.length:=by have:=congrArg List.length h;simpa using this
 unfold bJ;simp only[hl,jG h]
theorem qE{most:Int}{g:ay}(h:zq most g)(hm:most≤24)(T:Tp):qW (cu g.rs.length) (dh T g.rs 0).1:=by
 rw[kV]
 show qW _ (bJ T g.rs).1
 rw[qg h.ids];exact l7 T (by have:=h.n;omega)
theorem abo{r n:Int}(hn:1≤n∧n≤90)(hr:DJ r 1 99)(T:Tp)(x:Rw):(JV r n T x).1.id=x.id∧((JV r n T x).1.nx=x.nx∨
  ((∀y∈(JV r n T x).1.nx,DJ y 1 99)∧(JV r n T x).1.nx.length≤2∧(JV r n T x).1.nx.Pairwise (· < ·)∧¬(1<(JV r n T x).1.nx.length∧r∈(JV r n T x).1.nx))):=by
 unfold JV;simp only;split
 ·exact⟨rfl,.inl rfl⟩
 split
 ·exact⟨rfl,.inr ⟨by simp,by simp,by simp,by simp⟩⟩
 split
 ·exact⟨rfl,.inr ⟨by simpa using hr,by simp,by simp,by simp⟩⟩
 ·refine⟨rfl,?_⟩;simp only;have a1:=aC (au (dD T 3).2 4).2 (n+1);have a2:=bg (au (dD T 3).2 4).2 (n:=n+1) (by omega);generalize au (au (dD T 3).2 4).2 (n+1)=a at a1 a2;have m1:=aC a.2 n;have m2:=bg a.2 (n:=n) (by omega);generalize au a.2 n=m at m1 m2;split
  ·rename_i h;exact .inr ⟨by simp[DJ];omega,by simp,by simp;omega,by simp;omega⟩
  ·split
   ·exact .inr ⟨by simp[DJ];omega,by simp,by simp,by simp⟩
   ·exact .inl rfl
theorem Jh(r n:Int):∀(l:List Rw) (T:Tp),(o_ r n l T).1.map (·.id)=l.map (·.id)
 | [],_=>rfl
 | x::l,T=>by
   simp only[o_,List.map_cons,Jh r n l]
   congr 1
   unfold JV;simp only;split
   ·rfl
   split
   ·rfl
   split<;>rfl
theorem Jj{r n:Int}(hn:1≤n∧n≤90)(hr:DJ r 1 99):∀(l:List Rw) (T:Tp),∀y∈(o_ r n l T).1,(∃x∈l,y.id=x.id)∧((∃x∈l,y.nx=x.nx)∨
  ((∀z∈y.nx,DJ z 1 99)∧y.nx.length≤2∧y.nx.Pairwise (· < ·)∧¬(1<y.nx.length∧r∈y.nx)))
 | [],_,y,hy=>by simp[o_]at hy
 | x::l,T,y,hy=>by
   simp only[o_,List.mem_cons]at hy;rcases hy with rfl|hy
   ·obtain⟨h1,h2⟩:=abo hn hr T x;refine⟨⟨x,by simp,h1⟩,?_⟩;rcases h2 with h2|h2
    ·exact .inl ⟨x,by simp,h2⟩
    ·exact .inr h2
   ·obtain⟨⟨z,hz,e⟩,h2⟩:=Jj hn hr l _ y hy;refine⟨⟨z,by simp[hz],e⟩,?_⟩;rcases h2 with⟨w,hw,e2⟩|h2
    ·exact .inl ⟨w,by simp[hw],e2⟩
    ·exact .inr h2
theorem abp{n:Int}(hn:1≤n∧n≤90){b:Tb}(h:chk b=0)(T:Tp):chk ⟨b.r,b.sd,b.len,(o_ b.r n b.rows T).1⟩ = 0:=by
 obtain⟨h1,h2,h3,h4⟩:=uN h;have hN:=yG h;have hA:=Ls h;have hM:=Jj hn h1.1 b.rows T;have hl:=Ji b.r n b.rows T;refine Gf ⟨h1.1,h1.2.1,?_⟩ ?_ ?_ ?_ ⟨?_,fun x hx=>?_⟩ ?_
 ·simp only[hl];exact h1.2.2
 ·rintro⟨x,hx,ho⟩;obtain⟨⟨y,hy,e⟩,h5⟩:=hM x hx;rcases ho with ho|⟨z,hz,ho⟩
  ·apply ho;rw[e];exact(hN y hy).1
  ·apply ho;rcases h5 with⟨w,hw,e2⟩|h5
   ·rw[e2]at hz;exact(hN w hw).2 z hz
   ·exact h5.1 z hz
 ·simp only[hl];omega
 ·rintro⟨x,hx,hlx⟩;rcases (hM x hx).2 with⟨w,hw,e2⟩|h5
  ·rw[e2]at hlx;have:=h3 w hw;omega
  ·omega
 ·simp only[Jh];exact hA.1
 ·rcases (hM x hx).2 with⟨w,hw,e2⟩|h5
  ·rw[e2];exact hA.2 w hw
  ·exact h5.2.2.1
 ·rintro⟨x,hx,hc⟩;rcases (hM x hx).2 with⟨w,hw,e2⟩|h5
  ·rw[e2]at hc;exact h4 w hw hc
  ·exact h5.2.2.2 hc
theorem NP{n:Int}:∀(l:List Tb) (T:Tp),∀c∈(DU n l T).1,∃b∈l,∃T',c=⟨b.r,b.sd,b.len,(o_ b.r n b.rows T').1⟩
 | [],_,c,hc=>by simp[DU]at hc
 | b::l,T,c,hc=>by
   simp only[DU,List.mem_cons]at hc;rcases hc with rfl|hc
   ·exact⟨b,by simp,T,rfl⟩
   ·obtain⟨d,hd,T',e⟩:=NP l _ c hc;exact⟨d,by simp[hd],T',e⟩
theorem G8(n:Int):∀(l:List Tb) (T:Tp),(DU n l T).1.map (·.r)=l.map (·.r)
 | [],_=>rfl
 | b::l,T=>by simp only[DU,List.map_cons,G8 n l]
theorem ny{l:List Tb}{r:Int}:(bH l r).isSome↔r∈l.map (·.r):=by
 rw[bH,List.find?_isSome];simp
theorem agu{g:ay}(hg:cZ g=0){p:Pn}(hp:d_ p=true){n:Int}(hn:1≤n∧n≤90)(T:Tp):DN p ((tabs g p g.rs).map (·.r)) (DU n (tabs g p g.rs) T).1:=by
 have hM:=NP (n:=n) (tabs g p g.rs) T;have hc:∀b∈(DU n (tabs g p g.rs) T).1,chk b=0:=fun c hc=>by
  obtain⟨b,hb,T',rfl⟩:=hM c hc;exact abp hn (m_ hg hp b hb) T'
 have hs:∀b∈(DU n (tabs g p g.rs) T).1,b.sd=p.bF∧b.len=p.len:=fun c hc=>by
  obtain⟨b,hb,T',rfl⟩:=hM c hc;exact rW b hb
 have hl:(DU n (tabs g p g.rs) T).1.length≤24:=by
  have:=congrArg List.length (G8 n (tabs g p g.rs) T);simp only[List.length_map]at this;rw[this];exact Nat.le_trans (oU g p) (aU hg).nr
 refine⟨DW hl hc ?_ fun b hb c hc=>?_,hc,hs,fun r=>?_,hl⟩
 ·have h1:=xH (aU hg) p;have h2:((tabs g p g.rs).map (·.r)).Pairwise (· < ·):=by rw[List.pairwise_map];exact h1
  rw[←G8 n (tabs g p g.rs) T,List.pairwise_map]at h2
  exact h2
 ·have h1:=hs b hb;have h2:=hs c hc;exact⟨h1.1.trans h2.1.symm,h1.2.trans h2.2.symm⟩
 ·rw[ny,G8]
theorem um(T:Tp):∃(L m d s t e i p y:Int) (B:BitVec 64) (w:List Int) (T':Tp),Bg T=(⟨m,d,s,L,t,e,i,p,B,strOf w⟩,T')∧(1≤m∧m≤3)∧(0≤t∧t≤63)∧(0≤e∧e≤1023)∧(0≤i∧i≤256)∧(0≤p∧p≤7)∧(strOf w).size≤6∧ak T'=ak T:=by
 unfold Bg;dsimp only;refine⟨_,_,_,_,_,_,_,_,0,_,_,_,rfl,⟨aS _ _ _,aQ _ (by omega)⟩,dA (p:=fun x=>0≤x∧x≤63) (by simp) (by simp),⟨aC _ _,?_⟩,dA (p:=fun x=>0≤x∧x≤256) (by simp) (by simp),⟨aC _ _,?_⟩,?_,by simp⟩
 ·have:=bg (aK (aK (aT (aT (aK T [8,8,16,32,64]).2 1 3).2 0 7).2 [0,0,1,2,31]).2 [0,1,2,5,63]).2 (n:=1024) (by omega);omega
 ·exact Int.le_of_lt_add_one (bg _ (n:=8) (by omega))
 ·exact xR _ (by omega)
theorem yC(g:ay)(hg:g.Sm)(hc:cZ g=0)(p:Pn)(a1:d_ p=true)(hp:p.es.length≤1000):Contract Tryz.prog 54 [aH g,bI p] [] (.rG [.aB 6 (tabs g p g.rs).length,.d (.int .i64 0)]) [] [(6,.row 65 4 (dd (oq (tabs g p g.rs))) false)]:=by
 have hr:=hg.r;refine aj Tryz.func54 rfl (fun E0=>?_);refine cO.sound (g:=.mk) (ow:=[]) (kp:=(fun k=>k==0||k==1||k==2||k==3||k==4||k==5||k==6||k==7||k==15||k==20||k==28)) ?_;rw[Tryz.ntmps54];simp -dsimp[aH,bI];refine ah.of (oz g hg.r hg.l) [] 0 ?_;simp -dsimp[eq_true hc,aH];refine ah.of (uQ p hp) [] 0 ?_;have hn:g.rs.length≤24:=(aU hc).nr
 simp -dsimp[eq_true hc,a1,bI];and_intros;all_goals try first|rfl|omega|exact⟨by kernel_rfl⟩
 refine aN.of [] (fun k=>k==0||k==1||k==2||k==3||k==4||k==5||k==6||k==7||k==15||k==20||k==28) (ι:={i:Nat // i≤g.rs.length∧True}) (fun z=>[(Pl.s 0,It.v (.agg [TV.d (.sl (rts g.rs)),TV.d (.sl (dO g.ls))])),(Pl.s 1,It.v (.agg [TV.d (.int .i64 p.bF),TV.d (.int .i64 p.len),TV.d (.sl (rJ p.es))])),(Pl.o 2,It.box [TV.d (.sl (rts g.rs)),TV.d (.sl (dO g.ls))]),(Pl.s 2,It.v (.ptr (Pl.o 2) 0)),(Pl.o 3,It.box [TV.d (.int .i64 p.bF),TV.d (.int .i64 p.len),TV.d (.sl (rJ p.es))]),(Pl.s 3,It.v (.ptr (Pl.o 3) 0)),(Pl.s 4,It.v (.c (Value.slice none 0 0))),(Pl.s 5,It.v (.d (.int .i64 0))),(Pl.s 6,It.v (.aB 6 (yA g p (g.rs.take z.1)).length)),(Pl.o 6,It.row 65 4 (dd (yA g p (g.rs.take z.1))) false),(Pl.s 7,It.v (.d (.int .i64 z.1)))]) (fun z=>g.rs.length-z.1) ⟨0,by omega,trivial⟩ ?_ ?_
 ·exact GS.own' (k:=6) 65 4 (by simp) (by simp) (by simp[yA,tabs])
 rintro⟨i,i1,i2⟩;by_cases hi:i<g.rs.length
 ·have hiz:(i:Int)<g.rs.length:=by omega
  have hx:g.rs[i]? = some g.rs[i]:=List.getElem?_eq_getElem hi;have ht:g.rs.take (i+1)=g.rs.take i++[g.rs[i]]:=by rw[List.take_add_one,List.getElem?_eq_getElem hi];rfl
  generalize g.rs[i]=x at hx ht;have hx':=fF hx;have hta:=FN g p (g.rs.take i) x;have htl:=FP g p (g.rs.take i);rw[←ht]at hta
  simp at htl;rcases (Bool.eq_false_or_eq_true x.cap).symm with c1|c1
  ·rw[if_neg (by simp[c1])]at hta
   simp -dsimp[hiz,hx',Rt.cs,c1,wrap_i64 (n:=(i:Int)+1) (by omega) (by omega)];and_intros;all_goals try first|rfl|omega|exact⟨by kernel_rfl⟩
   exact⟨⟨i+1,by omega,trivial⟩,GS.to (by simp[hta]),by simp;omega⟩
  ·rw[if_pos c1]at hta
   simp -dsimp[hiz,hx',Rt.cs,c1];refine ah.of (BH g hg p (by omega) x.id) [] 0 ?_;simp -dsimp[hiz,hx',Rt.cs,c1,aH,bI,bZ,bV,wrap_i64 (n:=(i:Int)+1) (by omega) (by omega)];and_intros;all_goals try first|rfl|omega|exact⟨by kernel_rfl⟩
   exact⟨⟨i+1,by omega,trivial⟩,GS.to (by simp[hta,Tb.cs,bV]),by simp;omega⟩
 ·have hiz :¬(i:Int)<g.rs.length:=by omega
  obtain rfl:i=g.rs.length:=by omega
  simp -dsimp[hiz];refine Fin.of ?_;simp[yA,oq]
def fA(len set:Int):List Ed→Tp→BitVec 64→BitVec 64×Tp
 | [],T,B=>(B,T)
 | e::es,T,B=>if fJ e.id len=set then(if 0<(au T 4).1 then fA len set es (au T 4).2 (B|||lS (gG e.id len))else fA len set es (au T 4).2 B)else fA len set es T B
def jB(T:Tp)(p:Pn):Int×Tp:=if p.es = []then(0,T)else(fJ (p.es.getD (au T p.es.length).1.toNat ⟨0,0⟩).id p.len,(au T p.es.length).2)
def mM(T:Tp)(p:Pn):Pk×Tp:=
 let q:=bY T 0
 let s:=jB q.2 p
 let b:=fA p.len s.1 p.es s.2 0#64
 let o:=dD b.2 6
 if o.1=true then(q.1.for p.bF p.len s.1 (b.1|||(kE o.2 p.len).1),(kE o.2 p.len).2)else(q.1.for p.bF p.len s.1 b.1,o.2)
theorem jq(len set:Int):∀(es:List Ed) (T:Tp) (B:BitVec 64),ak (fA len set es T B).2=ak T
 | [],_,_=>rfl
 | e::es,T,B=>by
   rw[fA];split
   ·split
    ·rw[jq];simp
    ·rw[jq];simp
   ·exact jq len set es T B
theorem yK(T:Tp)(p:Pn):ak (jB T p).2=ak T:=by
 unfold jB;split
 ·rfl
 ·simp
theorem yM(T:Tp)(p:Pn):ak (mM T p).2=ak T:=by
 unfold mM;simp only;split<;>simp[jq,yK]
theorem Ih(T:Tp)(hT:ak T)(p:Pn)(hp:p.es.length≤1000)(l0:p.len≠0)(hl:I64 p.len):Contract Tryz.prog 29 [.ptr (.x 0) 0,bI p] [aJ T] (dX (mM T p).1) [aJ (mM T p).2] []:=by
 refine aj Tryz.func29 rfl (fun E0=>?_);refine cO.sound (g:=.mk) (ow:=[]) (kp:=(fun k=>k==0||k==1||k==3||k==4||k==5||k==6||k==7||k==8||k==23||k==28||k==51||k==75||k==83)) ?_;rw[Tryz.ntmps29];simp -dsimp[bI];try refine⟨?_,⟨by kernel_rfl⟩⟩
 refine ah.of (wC T hT 0 ⟨by omega,by omega⟩) [.x 0] 0 ?_;have kQ:ak (bY T 0).2:=by simpa using hT
 unfold mM;simp only;generalize bY T 0=q at kQ⊢;obtain⟨q,T1⟩:=q;simp only at kQ⊢;simp only[dX,Pk.cs,List.map];by_cases e0:p.es = []
 ·have eS:jB T1 p=(0,T1):=by rw[jB,if_pos e0]
  rw[eS];simp -dsimp[l0,e0];try refine⟨?_,⟨by kernel_rfl⟩⟩
  refine aN.of [] (fun k=>k==0||k==1||k==3||k==4||k==5||k==6||k==7||k==8||k==23||k==28||k==51||k==75||k==83) (ι:={z:Nat×Tp×BitVec 64 // z.1≤p.es.length∧ak z.2.1∧fA p.len 0 p.es T1 0#64=fA p.len 0 (p.es.drop z.1) z.2.1 z.2.2})
   (fun z=>[(Pl.s 0,It.v (.ptr (Pl.x 0) 0)),(Pl.x 0,aJ z.1.2.1),(Pl.o 3,It.box [TV.d (.int .i64 p.bF),TV.d (.int .i64 p.len),TV.d (.sl (rJ p.es))]),(Pl.s 3,It.v (.ptr (Pl.o 3) 0)),
    (Pl.o 4,It.box [TV.d (.int .i64 0),TV.d (.int .i64 0),TV.d (.int .i64 0),TV.d (.int .i64 0),TV.d (.int .i64 0),TV.d (.int .i64 0),TV.d (.int .i64 0),TV.d (.int .i64 0),TV.d (.int IntKind.u64 0),TV.d (.str ⟨#[]⟩)]),
    (Pl.s 4,It.v (.ptr (Pl.o 4) 0)),
    (Pl.o 5,It.box [TV.d (.int .i64 1),TV.d (.int .i64 p.bF),TV.d (.int .i64 0),TV.d (.int .i64 p.len),TV.d (.int .i64 q.ttl),TV.d (.int .i64 q.ent),TV.d (.int .i64 q.ing),TV.d (.int .i64 q.proto),TV.d (.int IntKind.u64 (tn z.1.2.2)),TV.d (.str q.pay)]),
    (Pl.s 5,It.v (.ptr (Pl.o 5) 0)),(Pl.s 6,It.v (.d (.int .i64 z.1.1)))])
   (fun z=>p.es.length-z.1.1) ⟨(0,T1,0#64),by simp,kQ,rfl⟩ ?_ ?_
  ·exact GS.to (by simp[e0])
  generalize fA p.len 0 p.es T1 0#64=X;rintro⟨⟨i,T3,B⟩,i1,i2,i3⟩;simp only at i1 i2 i3;by_cases hi:i<p.es.length
  ·have hiz:(i:Int)<p.es.length:=by omega
   have hg:p.es[i]? = some p.es[i]:=List.getElem?_eq_getElem hi;have hd:p.es.drop i=p.es[i]::p.es.drop (i+1):=List.drop_eq_getElem_cons hi;generalize p.es[i]=y at hg hd;have hg':=mP hg;rw[hd,fA]at i3
   have pb:=plB y.id p.len;have hbc:=uD (gG y.id p.len);simp -dsimp[hiz,hg',Ed.cs];try refine⟨?_,⟨by kernel_rfl⟩⟩
   and_intros;all_goals try first|rfl|omega|exact⟨by kernel_rfl⟩
   refine ah.of (kU y.id p.len) [] 0 ?_;simp only[eH];generalize fJ y.id p.len=sy at i3 pb;generalize gG y.id p.len=QS at i3 pb hbc;by_cases c0:sy=0
   ·rw[if_pos c0]at i3
    simp -dsimp[hiz,hg',Ed.cs,eH,eq_true c0];try refine⟨?_,⟨by kernel_rfl⟩⟩
    refine ah.of (bn T3 i2 4 ⟨by omega,by omega⟩) [.x 0] 0 ?_;have n1:=aC T3 4;have kS:ak (au T3 4).2:=by simpa using i2
    generalize au T3 4=m4 at n1 kS i3⊢;obtain⟨m4,T4⟩:=m4;simp only at n1 kS i3⊢;by_cases c1:0<m4
    ·rw[if_pos c1]at i3
     simp -dsimp[c1];try refine⟨?_,⟨by kernel_rfl⟩⟩
     refine ah.of hbc [] 0 ?_;simp -dsimp[bv,wrap_i64 (n:=(i:Int)+1) (by omega) (by omega)];try refine⟨?_,⟨by kernel_rfl⟩⟩
     and_intros;all_goals try first|rfl|omega|exact⟨by kernel_rfl⟩
     exact⟨⟨(i+1,T4,B|||lS QS),by dsimp only;omega,kS,i3⟩,GS.to (by simp),by simp;omega⟩
    ·rw[if_neg c1]at i3
     simp -dsimp[c1,wrap_i64 (n:=(i:Int)+1) (by omega) (by omega)];try refine⟨?_,⟨by kernel_rfl⟩⟩
     and_intros;all_goals try first|rfl|omega|exact⟨by kernel_rfl⟩
     exact⟨⟨(i+1,T4,B),by dsimp only;omega,kS,i3⟩,GS.to (by simp),by simp;omega⟩
   ·rw[if_neg c0]at i3
    simp -dsimp[hiz,hg',Ed.cs,eH,eq_false c0,wrap_i64 (n:=(i:Int)+1) (by omega) (by omega)];try refine⟨?_,⟨by kernel_rfl⟩⟩
    and_intros;all_goals try first|rfl|omega|exact⟨by kernel_rfl⟩
    exact⟨⟨(i+1,T3,B),by dsimp only;omega,i2,i3⟩,GS.to (by simp),by simp;omega⟩
  ·have hiz :¬(i:Int)<p.es.length:=by omega
   have e1:p.es.drop i = []:=List.drop_eq_nil_of_le (by omega);rw[e1,fA]at i3
   subst i3;simp -dsimp[hiz];try refine⟨?_,⟨by kernel_rfl⟩⟩
   refine ah.of (gK T3 i2 6 ⟨by omega,by omega⟩ ⟨by omega,by omega⟩) [.x 0] 0 ?_;have kO:ak (dD T3 6).2:=by simpa using i2
   generalize dD T3 6=o at kO⊢;obtain⟨o,T5⟩:=o;simp only at kO⊢;rcases (Bool.eq_false_or_eq_true o).symm with ho|ho
   ·subst ho;simp -dsimp;try refine⟨?_,⟨by kernel_rfl⟩⟩
    refine Fin.box (.o 4) rfl ?_;simp -dsimp;try refine⟨?_,⟨by kernel_rfl⟩⟩
    refine Fin.of ?_;simp[Pk.for,bv]
   ·subst ho;simp -dsimp;try refine⟨?_,⟨by kernel_rfl⟩⟩
    refine ah.of (zF T5 kO p.len hl) [.x 0] 0 ?_;generalize kE T5 p.len=gb;simp -dsimp[bv];try refine⟨?_,⟨by kernel_rfl⟩⟩
    refine Fin.box (.o 4) rfl ?_;simp -dsimp;try refine⟨?_,⟨by kernel_rfl⟩⟩
    refine Fin.of ?_;simp[Pk.for,bv]
 ·have eS:jB T1 p=(fJ (p.es.getD (au T1 p.es.length).1.toNat ⟨0,0⟩).id p.len,(au T1 p.es.length).2):=by rw[jB,if_neg e0]
  have hlen:0<p.es.length:=List.length_pos_iff.2 e0;rw[eS];simp -dsimp[l0,e0,hlen];try refine⟨?_,⟨by kernel_rfl⟩⟩
  and_intros;all_goals try first|rfl|omega|exact⟨by kernel_rfl⟩
  refine ah.of (bn T1 kQ p.es.length ⟨by omega,by omega⟩) [.x 0] 0 ?_;have m1:=aC T1 p.es.length;have m2:=bg T1 (n:=p.es.length) (by omega);have kN:ak (au T1 p.es.length).2:=by simpa using kQ
  clear eS;generalize au T1 p.es.length=m at m1 m2 kN⊢;obtain⟨m,T2⟩:=m;simp only at m1 m2 kN⊢;obtain⟨j,rfl⟩:∃j:Nat,m=j:=⟨m.toNat,by omega⟩
  have hj:j<p.es.length:=by omega
  have hx:p.es[j]? = some p.es[j]:=List.getElem?_eq_getElem hj;have hgd:p.es.getD ((j:Int)).toNat ⟨0,0⟩ = p.es[j]:=by rw[List.getD_eq_getElem?_getD,show((j:Int)).toNat=j by omega,hx];rfl
  rw[hgd];generalize p.es[j]=x at hx;have hx':=mP hx;simp -dsimp[l0,e0,hlen,hx',Ed.cs];try refine⟨?_,⟨by kernel_rfl⟩⟩
  and_intros;all_goals try first|rfl|omega|exact⟨by kernel_rfl⟩
  refine ah.of (kU x.id p.len) [] 0 ?_;simp only[eH];generalize fJ x.id p.len=S;simp -dsimp[l0,e0,eH];try refine⟨?_,⟨by kernel_rfl⟩⟩
  refine aN.of [] (fun k=>k==0||k==1||k==3||k==4||k==5||k==6||k==7||k==8||k==23||k==28||k==51||k==75||k==83) (ι:={z:Nat×Tp×BitVec 64 // z.1≤p.es.length∧ak z.2.1∧fA p.len S p.es T2 0#64=fA p.len S (p.es.drop z.1) z.2.1 z.2.2})
   (fun z=>[(Pl.s 0,It.v (.ptr (Pl.x 0) 0)),(Pl.x 0,aJ z.1.2.1),(Pl.o 3,It.box [TV.d (.int .i64 p.bF),TV.d (.int .i64 p.len),TV.d (.sl (rJ p.es))]),(Pl.s 3,It.v (.ptr (Pl.o 3) 0)),
    (Pl.o 4,It.box [TV.d (.int .i64 0),TV.d (.int .i64 0),TV.d (.int .i64 0),TV.d (.int .i64 0),TV.d (.int .i64 0),TV.d (.int .i64 0),TV.d (.int .i64 0),TV.d (.int .i64 0),TV.d (.int IntKind.u64 0),TV.d (.str ⟨#[]⟩)]),
    (Pl.s 4,It.v (.ptr (Pl.o 4) 0)),
    (Pl.o 5,It.box [TV.d (.int .i64 1),TV.d (.int .i64 p.bF),TV.d (.int .i64 S),TV.d (.int .i64 p.len),TV.d (.int .i64 q.ttl),TV.d (.int .i64 q.ent),TV.d (.int .i64 q.ing),TV.d (.int .i64 q.proto),TV.d (.int IntKind.u64 (tn z.1.2.2)),TV.d (.str q.pay)]),
    (Pl.s 5,It.v (.ptr (Pl.o 5) 0)),(Pl.s 6,It.v (.d (.int .i64 z.1.1)))])
   (fun z=>p.es.length-z.1.1) ⟨(0,T2,0#64),by simp,kN,rfl⟩ ?_ ?_
  ·exact GS.to (by simp[e0])
  generalize fA p.len S p.es T2 0#64=X;rintro⟨⟨i,T3,B⟩,i1,i2,i3⟩;simp only at i1 i2 i3;by_cases hi:i<p.es.length
  ·have hiz:(i:Int)<p.es.length:=by omega
   have hg:p.es[i]? = some p.es[i]:=List.getElem?_eq_getElem hi;have hd:p.es.drop i=p.es[i]::p.es.drop (i+1):=List.drop_eq_getElem_cons hi;generalize p.es[i]=y at hg hd;have hg':=mP hg;rw[hd,fA]at i3
   have pb:=plB y.id p.len;have hbc:=uD (gG y.id p.len);simp -dsimp[hiz,hg',Ed.cs];try refine⟨?_,⟨by kernel_rfl⟩⟩
   and_intros;all_goals try first|rfl|omega|exact⟨by kernel_rfl⟩
   refine ah.of (kU y.id p.len) [] 0 ?_;simp only[eH];generalize fJ y.id p.len=sy at i3 pb;generalize gG y.id p.len=QS at i3 pb hbc;by_cases c0:sy=S
   ·rw[if_pos c0]at i3
    simp -dsimp[hiz,hg',Ed.cs,eH,eq_true c0];try refine⟨?_,⟨by kernel_rfl⟩⟩
    refine ah.of (bn T3 i2 4 ⟨by omega,by omega⟩) [.x 0] 0 ?_;have n1:=aC T3 4;have kS:ak (au T3 4).2:=by simpa using i2
    generalize au T3 4=m4 at n1 kS i3⊢;obtain⟨m4,T4⟩:=m4;simp only at n1 kS i3⊢;by_cases c1:0<m4
    ·rw[if_pos c1]at i3
     simp -dsimp[c1];try refine⟨?_,⟨by kernel_rfl⟩⟩
     refine ah.of hbc [] 0 ?_;simp -dsimp[bv,wrap_i64 (n:=(i:Int)+1) (by omega) (by omega)];try refine⟨?_,⟨by kernel_rfl⟩⟩
     and_intros;all_goals try first|rfl|omega|exact⟨by kernel_rfl⟩
     exact⟨⟨(i+1,T4,B|||lS QS),by dsimp only;omega,kS,i3⟩,GS.to (by simp),by simp;omega⟩
    ·rw[if_neg c1]at i3
     simp -dsimp[c1,wrap_i64 (n:=(i:Int)+1) (by omega) (by omega)];try refine⟨?_,⟨by kernel_rfl⟩⟩
     and_intros;all_goals try first|rfl|omega|exact⟨by kernel_rfl⟩
     exact⟨⟨(i+1,T4,B),by dsimp only;omega,kS,i3⟩,GS.to (by simp),by simp;omega⟩
   ·rw[if_neg c0]at i3
    simp -dsimp[hiz,hg',Ed.cs,eH,eq_false c0,wrap_i64 (n:=(i:Int)+1) (by omega) (by omega)];try refine⟨?_,⟨by kernel_rfl⟩⟩
    and_intros;all_goals try first|rfl|omega|exact⟨by kernel_rfl⟩
    exact⟨⟨(i+1,T3,B),by dsimp only;omega,i2,i3⟩,GS.to (by simp),by simp;omega⟩
  ·have hiz :¬(i:Int)<p.es.length:=by omega
   have e1:p.es.drop i = []:=List.drop_eq_nil_of_le (by omega);rw[e1,fA]at i3
   subst i3;simp -dsimp[hiz];try refine⟨?_,⟨by kernel_rfl⟩⟩
   refine ah.of (gK T3 i2 6 ⟨by omega,by omega⟩ ⟨by omega,by omega⟩) [.x 0] 0 ?_;have kO:ak (dD T3 6).2:=by simpa using i2
   generalize dD T3 6=o at kO⊢;obtain⟨o,T5⟩:=o;simp only at kO⊢;rcases (Bool.eq_false_or_eq_true o).symm with ho|ho
   ·subst ho;simp -dsimp;try refine⟨?_,⟨by kernel_rfl⟩⟩
    refine Fin.box (.o 4) rfl ?_;simp -dsimp;try refine⟨?_,⟨by kernel_rfl⟩⟩
    refine Fin.of ?_;simp[Pk.for,bv]
   ·subst ho;simp -dsimp;try refine⟨?_,⟨by kernel_rfl⟩⟩
    refine ah.of (zF T5 kO p.len hl) [.x 0] 0 ?_;generalize kE T5 p.len=gb;simp -dsimp[bv];try refine⟨?_,⟨by kernel_rfl⟩⟩
    refine Fin.box (.o 4) rfl ?_;simp -dsimp;try refine⟨?_,⟨by kernel_rfl⟩⟩
    refine Fin.of ?_;simp[Pk.for,bv]
def lK(l:List Tb)(p:Pk)(r:Int):Int:=(nK l p r).2
theorem Ig(l:List Tb)(hl:DL l)(p:Pk)(r:Int):Contract Tryz.prog 118 [.d (.sl (oq l)),dX p,.d (.int .i64 r)] [] (.d (.int .i64 (lK l p r))) [] []:=by
 have hck:=tZ l hl;have hv:=o9 p;have hf:=CO l hl r;simp only[dX,Pk.cs,List.map]at hv;refine aj Tryz.func118 rfl (fun E0=>?_);refine cO.sound (g:=.mk) (ow:=[]) (kp:=(fun k=>k==0||k==1||k==2||k==4||k==6||k==7||k==8||k==16||k==24||k==27||k==39)) ?_;rw[Tryz.ntmps118];simp -dsimp[dX,Pk.cs];try refine⟨?_,⟨by kernel_rfl⟩⟩
 refine ah.of hck [] 0 ?_;by_cases h1:nR l=0
 rotate_left
 ·simp -dsimp[h1];try refine⟨?_,⟨by kernel_rfl⟩⟩
  refine Fin.of ?_;simp[lK,nK,h1]
 rcases (Bool.eq_false_or_eq_true p.ok).symm with h2|h2
 ·simp -dsimp[h1];try refine⟨?_,⟨by kernel_rfl⟩⟩
  refine ah.of hv [] 0 ?_;simp -dsimp[h2];try refine⟨?_,⟨by kernel_rfl⟩⟩
  refine Fin.of ?_;simp[lK,nK,h1,h2]
 simp -dsimp[h1];try refine⟨?_,⟨by kernel_rfl⟩⟩
 refine ah.of hv [] 0 ?_;cases hfd:bH l r with
 | none=>
   rw[hfd]at hf
   simp only[su,Option.getD_none,Option.isSome_none,tb0,bZ]at hf;simp -dsimp[h2];try refine⟨?_,⟨by kernel_rfl⟩⟩
   refine ah.of hf [] 0 ?_;simp -dsimp;try refine⟨?_,⟨by kernel_rfl⟩⟩
   refine Fin.of ?_;simp[lK,nK,h1,h2,hfd]
 | some b=>
   rw[hfd]at hf
   simp only[su,Option.getD_some,Option.isSome_some,bZ]at hf;simp -dsimp[h2];try refine⟨?_,⟨by kernel_rfl⟩⟩
   refine ah.of hf [] 0 ?_;by_cases h3:p.mode=2
   ·simp -dsimp[eq_true h3];try refine⟨?_,⟨by kernel_rfl⟩⟩
    refine Fin.of ?_;simp[lK,nK,h1,h2,hfd,h3]
   by_cases h4:p.bF=b.sd
   rotate_left
   ·simp -dsimp[h3,h4];try refine⟨?_,⟨by kernel_rfl⟩⟩
    refine Fin.of ?_;simp[lK,nK,h1,h2,hfd,h3,h4]
   by_cases h5:p.len=b.len
   rotate_left
   ·simp -dsimp[h3,eq_true h4,h5];try refine⟨?_,⟨by kernel_rfl⟩⟩
    refine Fin.of ?_;simp[lK,nK,h1,h2,hfd,h3,h4,h5]
   simp -dsimp[h3,eq_true h4,eq_true h5];try refine⟨?_,⟨by kernel_rfl⟩⟩
   refine Fin.of ?_;simp[lK,nK,h1,h2,hfd,h3,h4,h5]
def wE(t:dQ):List (Nat×It):=[(900,.row 92 11 (dd (t.dl.map lT)) false),(901,.row 96 3 (dd (t.cr.map lJ)) false),(902,.row 176 2 (dd (t.ls.map qO)) false)]
end Go.Proofs
