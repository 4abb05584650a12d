/-
  What functions of the program compute, stated as contracts over plain data; the conditions of each stand in its own statement.
-/
import Derived.Test.YtboimfkommpglaaGreatDoorZA29
import Derived.Test.YtboimfkommpglaaGreatDoorZA27
import Derived.Test.YtboimfkommpglaaGreatDoorZA13
import Derived.Test.YtboimfkommpglaaGreatDoorZA09
import Derived.Test.YtboimfkommpglaaGreatDoorZA10
import Derived.Test.YtboimfkommpglaaGreatDoorRows
import Derived.OpenShut
import Derived.MakeChecks
import Derived.FnData
import Derived.LaidMore
import Derived.Test.YtboimfkommpglaaGreatDoorZA28
import Derived.Test.YtboimfkommpglaaGreatDoorZA22
import Derived.Test.YtboimfkommpglaaGreatDoorZA23
import Derived.WalkKit
import Derived.StillTailTactics
import Derived.Deep.QuietTactic
import Derived.BigQuiet
import Derived.LoopN
import Derived.KernelRfl
import Derived.Test.YtboimfkommpglaaGreatDoorZA18
set_option linter.unusedSimpArgs false
set_option linter.unusedVariables false
set_option maxRecDepth 100000
set_option maxHeartbeats 16000000
namespace Go.Proofs
open Go Go.Tr
def kS:ay:=⟨[⟨1,true⟩,⟨2,false⟩,⟨3,true⟩],[⟨1,2,1,1,0⟩,⟨2,3,1,1,0⟩]⟩
def wkP:Pn:=⟨0,8,[⟨3,1⟩]⟩
def wkL:List Tb:=tabs kS wkP kS.rs
def wkQ:Pk:=⟨1,0,0,8,5,0,0,0,1#64,⟨#[]⟩⟩
def wkT:dQ:=⟨[(3,⟨1,0,0,8,4,0,0,0,1#64,⟨#[]⟩⟩)],[(1,2,1#64),(2,3,1#64)],[]⟩
theorem ags:d_ wkP=true:=AL (by decide) (by decide) (fun i j hj hi=>by
 have hi:i<1:=hi;omega)
theorem agr:cZ kS=0:=by decide+kernel
theorem ajI:mZ kS wkL wkQ 1=(wkT,0):=by kernel_rfl
theorem agt:route kS 1 3 = [2,3]:=by decide+kernel
theorem mg:Contract Tryz.prog 27 [] [] (.d (.bool true)) [] []:=by
 have hS:DL wkL:=⟨by decide+kernel,fun b hb=>Bc (m_ agr ags b hb)⟩
 have hG:kS.Sm:=⟨by simp[kS],by simp[kS]⟩
 have hr:=Lc kS hG wkL hS wkQ 1;rw[ajI]at hr
 have hro:=AZ kS hG 1 3;rw[agt]at hro
 have ha:=FY kS hG wkP (by simp[wkP]);rw[EG agr ags]at ha
 change Contract _ _ _ _ (allT wkL 0) _ _ at ha
 simp only[allT,aH,bI]at ha;rw[show List.map Tb.cs wkL=oq wkL from rfl]at ha
 have hi:=yU [2,3] [2,3] (by simp);simp only[dX,wkQ,Pk.cs,List.map,qG,wkT,lT,lJ,qO,bv,ints,aH]at hr hro hi;simp only[show tn 1#64=1 from rfl]at hr hro;generalize wkL=L at ha hr;simp only[kS,wkP,rts,dO,rJ,List.map,Rt.cs,Lk.cs,Ed.cs]at ha hr hro;refine aj Tryz.func27 rfl (fun E0=>?_);refine cO.sound (g:=.mk) (ow:=[]) (kp:=(fun k=>k==0||k==1||k==2||k==4||k==5)) ?_
 rw[Tryz.ntmps27];simp -dsimp;and_intros;all_goals try first|rfl|omega|exact⟨by kernel_rfl⟩
 refine ah.of ha [] 0 ?_;simp -dsimp;and_intros;all_goals try first|rfl|omega|exact⟨by kernel_rfl⟩
 refine ah.of hr [] 0 ?_;simp -dsimp;and_intros;all_goals try first|rfl|omega|exact⟨by kernel_rfl⟩
 refine ah.of hro [] 0 ?_;simp -dsimp;and_intros;all_goals try first|rfl|omega|exact⟨by kernel_rfl⟩
 refine ah.of hi [] 0 ?_;simp -dsimp;and_intros;all_goals try first|rfl|omega|exact⟨by kernel_rfl⟩
 refine Fin.of ?_;simp
def Ij(ord:List Int):Nat→List Int
 | 0=>[]
 | i+1=>(1+ord.getD (i+1) 0)::Ij ord i
theorem ET(ord:List Int):∀i,(Ij ord i).length=i
 | 0=>rfl
 | i+1=>by simp[Ij,ET ord i]
def je:List Int:=(List.range 25).map fun (i:Nat)=>50+(i:Int)
def RG(T:Tp):Fr×Tp:=
 let p:=bY T 0
 let o:=bT p.2 5
 let k:=au o.2 5
 (⟨Ij o.1 k.1.toNat,p.1⟩,k.2)
def UQ(f:Fr)(T:Tp):Fr×Tp:=
 let c:=au T 3
 if c.1=0 then(⟨f.rt,(bY c.2 1).1⟩,(bY c.2 1).2)
 else if c.1=1 then(⟨f.rt++[(aK c.2 [0,1,2,99,100]).1],f.pk⟩,(aK c.2 [0,1,2,99,100]).2)
 else(⟨f.rt++je,f.pk⟩,c.2)
def qc(T:Tp)(n:Int):Fr×Tp:=
 let f:=RG T
 if 0<n then(if(dD f.2 n).1=true then UQ f.1 (dD f.2 n).2 else(f.1,(dD f.2 n).2))else f
theorem Gn(T:Tp):ak (RG T).2=ak T:=by simp[RG]
theorem WW(f:Fr)(T:Tp):ak (UQ f T).2=ak T:=by
 unfold UQ;simp only;split
 ·simp
 ·split<;>simp
theorem EU(T:Tp)(n:Int):ak (qc T n).2=ak T:=by
 unfold qc;simp only;split
 ·split
  ·rw[WW,oW,Gn]
  ·rw[oW,Gn]
 ·rw[Gn]
theorem L8(T:Tp)(hT:ak T)(n:Int)(hn:I64 n)(hn1:I64 (n-1)):Contract Tryz.prog 23 [.ptr (.x 0) 0,.d (.int .i64 n)] [aJ T] (xK (qc T n).1) [aJ (qc T n).2] []:=by
 obtain⟨w,hw⟩:∃w,w=qc T n:=⟨_,rfl⟩
 rw[←hw];unfold qc RG at hw;have h1:=wC T hT 0 ⟨by omega,by omega⟩;have k1:ak (bY T 0).2:=by rw[RN];exact hT
 generalize bY T 0=a at h1 k1 hw;obtain⟨p,T1⟩:=a;simp only at k1 hw;simp only[dX,Pk.cs,List.map]at h1;have h2:=D9 T1 k1 5 (by omega);have k2:ak (bT T1 5).2:=by rw[Vp];exact k1
 have ol:(bT T1 5).1.length=5:=by have:=iK T1 5;simpa using this
 have om:∀x∈(bT T1 5).1,0≤x∧x<5:=by have:=lZ T1 5;simpa using this
 generalize bT T1 5=b at h2 k2 hw ol om;obtain⟨o,T2⟩:=b;simp only at k2 hw ol om;have h3:=bn T2 k2 5 ⟨by omega,by omega⟩;have k3:ak (au T2 5).2:=by rw[dP];exact k2
 have n1:=aC T2 5;have n2:=bg T2 (n:=5) (by omega);generalize au T2 5=c at h3 k3 hw n1 n2;obtain⟨k,T3⟩:=c;simp only at k3 hw n1 n2;obtain⟨k,rfl⟩:∃j:Nat,k=j:=⟨k.toNat,by omega⟩
 rw[Int.toNat_natCast]at hw
 refine aj Tryz.func23 rfl (fun E0=>?_);refine cO.sound (g:=.mk) (ow:=[]) (kp:=(fun k=>k==0||k==1||k==4||k==5||k==6||k==7||k==8||k==17||k==36||k==38||k==40||k==50||k==55)) ?_;rw[Tryz.ntmps23];simp -dsimp;refine ah.of h1 [.x 0] 0 ?_;simp -dsimp;and_intros;all_goals try first|rfl|omega|exact⟨by kernel_rfl⟩
 refine ah.of h2 [.x 0] 0 ?_;simp -dsimp;and_intros;all_goals try first|rfl|omega|exact⟨by kernel_rfl⟩
 refine ah.of h3 [.x 0] 0 ?_;simp -dsimp;and_intros;all_goals try first|rfl|omega|exact⟨by kernel_rfl⟩
 refine aN.of [] (fun k=>k==0||k==1||k==4||k==5||k==6||k==7||k==8||k==17||k==36||k==38||k==40||k==50||k==55) (ι:={z:Nat×List Int // z.1≤k∧Ij o k=z.2++Ij o z.1})
  (fun z=>[(Pl.s 0,It.v (.ptr (Pl.x 0) 0)),(Pl.x 0,aJ T3),(Pl.s 1,It.v (.d (.int .i64 n))),(Pl.o 4,It.box (TV.c (.slice none 0 0)::Bh.cs.map .d)),(Pl.s 4,It.v (.ptr (.o 4) 0)),
   (Pl.o 5,It.box (TV.aB 70 z.1.2.length::p.cs.map .d)),(Pl.s 5,It.v (.ptr (.o 5) 0)),(Pl.o 70,It.row 3 1 (dd (dJ .i64 z.1.2)) false),(Pl.s 6,It.v (.d (ints o))),(Pl.s 7,It.v (.d (.int .i64 z.1.1)))])
  (fun z=>z.1.1) ⟨(k,[]),by omega,by simp⟩ ?_ ?_
 ·exact GS.gq (.o 5) 0 70 (cs:=TV.c (.slice none 0 0)::p.cs.map .d) 3 1 (by simp) (by simp[Pk.cs]) (by simp) (by simp) (by simp[Pk.cs,Bh,bv,ints,dJ])
 ·rintro⟨⟨i,R⟩,i1,i2⟩;simp only at i1 i2;have hRl:R.length+i=k:=by have:=congrArg List.length i2;simp[ET]at this;omega
  by_cases hi:0<i
  ·obtain⟨i,rfl⟩:∃j,i=j+1:=⟨i-1,by omega⟩
   have hx:o[i+1]? = some (o[i+1]'(by omega)):=List.getElem?_eq_getElem (by omega);have hm:o[i+1]'(by omega)∈o:=List.getElem_mem _;have hd:o.getD (i+1) 0=o[i+1]'(by omega):=by simp[show i+1<o.length by omega]
   rw[Ij,hd]at i2
   generalize o[i+1]'(by omega)=x at hx hm i2;have hb:=om x hm;have w0:IntKind.i64.wrap (1+x)=1+x:=wrap_i64 (by omega) (by omega);have w1:IntKind.i64.wrap (i:Int)=(i:Int):=wrap_i64 (by omega) (by omega);have iz:(0:Int)<(i:Int)+1:=by omega
   have t1:((i:Int)+1).toNat=i+1:=by omega
   have iol:(i:Int)+1<o.length:=by omega
   simp -dsimp[ints,iz,hx,w0,w1,t1,iol];and_intros;all_goals try first|omega|exact⟨by kernel_rfl⟩|rfl
   refine⟨⟨(i,R++[1+x]),by simp only;omega,by simp only;rw[i2];simp⟩,GS.to (by simp[ints,dJ,Bh,bv,Pk.cs]),by simp⟩
  ·obtain rfl:i=0:=by omega
   simp only[Ij,List.append_nil]at i2;simp only[Nat.add_zero]at hRl;rw[i2]at hw
   have hF0:R.length≤4:=by omega
   by_cases n0:0<n
   case neg=>
    rw[if_neg n0]at hw
    simp -dsimp[n0,Pk.cs];and_intros;all_goals try first|rfl|omega|exact⟨by kernel_rfl⟩
    refine Fin.box (.o 4) rfl ?_;simp -dsimp[Pk.cs];refine Fin.of ?_;simp[hw,xK,vH,ints,Pk.cs,dJ]
   rw[if_pos n0]at hw
   have h4:=gK T3 k3 n hn hn1;have k4:ak (dD T3 n).2:=by rw[oW];exact k3
   generalize dD T3 n=d at h4 k4 hw;obtain⟨d,T4⟩:=d;simp only at k4 hw;simp -dsimp[n0,Pk.cs];and_intros;all_goals try first|rfl|omega|exact⟨by kernel_rfl⟩
   refine ah.of h4 [.x 0] 0 ?_;cases d with
   | false=>
     simp only[Bool.false_eq_true,if_false]at hw;simp -dsimp[Pk.cs];and_intros;all_goals try first|rfl|omega|exact⟨by kernel_rfl⟩
     refine Fin.box (.o 4) rfl ?_;simp -dsimp[Pk.cs];refine Fin.of ?_;simp[hw,xK,vH,ints,Pk.cs,dJ]
   | true=>
     simp only[if_true]at hw;unfold UQ at hw;have h5:=bn T4 k4 3 ⟨by omega,by omega⟩;have k5:ak (au T4 3).2:=by rw[dP];exact k4
     generalize au T4 3=e at h5 k5 hw;obtain⟨c,T5⟩:=e;simp only at k5 hw;by_cases c0:c=0
     ·rw[if_pos c0]at hw
      have h6:=wC T5 k5 1 ⟨by omega,by omega⟩;generalize bY T5 1=a at h6 hw;obtain⟨p1,T6⟩:=a;simp only[dX,Pk.cs,List.map]at h6;simp -dsimp[Pk.cs];and_intros;all_goals try first|rfl|omega|exact⟨by kernel_rfl⟩
      refine ah.of h5 [.x 0] 0 ?_;simp -dsimp[eq_true c0,Pk.cs];and_intros;all_goals try first|rfl|omega|exact⟨by kernel_rfl⟩
      refine ah.of h6 [.x 0] 0 ?_;simp -dsimp[Pk.cs];and_intros;all_goals try first|rfl|omega|exact⟨by kernel_rfl⟩
      refine Fin.box (.o 4) rfl ?_;simp -dsimp[Pk.cs];refine Fin.of ?_;simp[hw,xK,vH,ints,Pk.cs,dJ]
     rw[if_neg c0]at hw
     by_cases c1:c=1
     ·rw[if_pos c1]at hw
      have h6:=fE T5 k5 [0,1,2,99,100] (by simp) (by simp);generalize aK T5 [0,1,2,99,100]=a at h6 hw;obtain⟨v,T6⟩:=a;simp only[ints,List.map]at h6;simp -dsimp[Pk.cs];and_intros;all_goals try first|rfl|omega|exact⟨by kernel_rfl⟩
      refine ah.of h5 [.x 0] 0 ?_;simp -dsimp[eq_false c0,eq_true c1,Pk.cs];and_intros;all_goals try first|rfl|omega|exact⟨by kernel_rfl⟩
      refine ah.of h6 [.x 0] 0 ?_;simp -dsimp[Pk.cs];and_intros;all_goals try first|omega|exact⟨by kernel_rfl⟩|rfl
      refine Fin.box (.o 4) rfl ?_;simp -dsimp[Pk.cs];refine Fin.of ?_;simp[hw,xK,vH,ints,Pk.cs,dJ]
     rw[if_neg c1]at hw
     simp -dsimp[Pk.cs];and_intros;all_goals try first|rfl|omega|exact⟨by kernel_rfl⟩
     refine ah.of h5 [.x 0] 0 ?_;simp -dsimp[eq_false c0,eq_false c1,Pk.cs];and_intros;all_goals try first|rfl|omega|exact⟨by kernel_rfl⟩
     refine aN.of [] (fun k=>k==0||k==1||k==4||k==5||k==6||k==7||k==8||k==17||k==36||k==38||k==40||k==50||k==55) (ι:={i:Nat // i≤25})
      (fun z=>[(Pl.x 0,aJ T5),(Pl.o 4,It.box (TV.c (.slice none 0 0)::Bh.cs.map .d)),(Pl.s 4,It.v (.ptr (.o 4) 0)),
       (Pl.o 5,It.box (TV.aB 70 (R.length+z.1)::p.cs.map .d)),(Pl.s 5,It.v (.ptr (.o 5) 0)),(Pl.o 70,It.row 3 1 (dd (dJ .i64 R)++dd (dJ .i64 (je.take z.1))) false),(Pl.s 8,It.v (.d (.int .i64 z.1)))])
      (fun z=>25-z.1) ⟨0,by omega⟩ ?_ ?_
     ·exact GS.to (by simp[Pk.cs,Bh,bv,dJ])
     ·rintro⟨i,i1⟩;by_cases hi:i<25
      ·have hiz:(i:Int)<25:=by omega
       have ht:je.take (i+1)=je.take i++[50+(i:Int)]:=by
        rw[List.take_add_one];have:je[i]? = some (50+(i:Int)):=by unfold je;simp[hi]
        rw[this];rfl
       have hfl:(je.take i).length=i:=by rw[List.length_take];simp[je];omega
       have w0:IntKind.i64.wrap (50+(i:Int))=50+(i:Int):=wrap_i64 (by omega) (by omega);have w1:IntKind.i64.wrap ((i:Int)+1)=(i:Int)+1:=wrap_i64 (by omega) (by omega);simp -dsimp[hiz,w0,w1,hfl,Pk.cs];and_intros;all_goals try first|omega|exact⟨by kernel_rfl⟩|rfl
       exact⟨⟨i+1,by omega⟩,GS.to (by simp[ht,dJ,Bh,bv,Pk.cs,Nat.add_assoc]),by simp;omega⟩
      ·have hiz :¬(i:Int)<25:=by omega
       obtain rfl:i=25:=by omega
       have hfl:je.take 25=je:=List.take_of_length_le (by simp[je]);have hfn:je.length=25:=by simp[je]
       rw[hfl];generalize je=ff at hw hfn⊢;simp -dsimp[hiz,hfn,Pk.cs];and_intros;all_goals try first|rfl|omega|exact⟨by kernel_rfl⟩
       refine Fin.box (.o 4) rfl ?_;simp -dsimp[hfn,Pk.cs];refine Fin.of ?_;simp[hw,xK,vH,ints,Pk.cs,dJ]
end Go.Proofs

namespace Go.Proofs.YtboimfkommpglaaGreatDoor
open Go Go.Tr
set_option maxRecDepth 100000
def qZ : List (String × DataW Unit) := [("math/bits.deBruijn64tab", Rows.laid_math_bits_deBruijn64tab)]
theorem aoX : Tryz.prog.globalNamed "math/bits.deBruijn64tab" = some 0 := by kernel_rfl
theorem apX:(Tryz.prog.globals[0]?).map (·.type)=some 280:=by kernel_rfl
theorem apY:Tryz.prog.underlying 280=some (.array 64 5):=by kernel_rfl
theorem ale:Tryz.prog.underlying 5=some (.int .u8):=by kernel_rfl
theorem aj_:Tryz.prog.cellsOf 5=1:=by kernel_rfl
theorem agL{H:Type}:(Rows.laid_math_bits_deBruijn64tab:DataW H) = .agg (deb.map fun n=>.lit (.int .u8 n)):=rfl
theorem uo{W:World}(h:laidMetH Tryz.prog qZ W):Hz W:=by
 rw[MakeChecks.laidMetH_plain _ _ _ (by kernel_rfl)]at h
 obtain⟨ps,⟨g0,t0,cs0,f0,p0,q0,hg0,ht0,hv0,hd0,_⟩,_,_⟩:=h;obtain rfl:=Option.some.inj (aoX.symm.trans hg0);obtain rfl:=Option.some.inj (apX.symm.trans ht0);obtain⟨xs,m1,rfl,hx1,hlen,hn,hel⟩:=DataW.trod_array apY hd0;simp only[Prod.mk.injEq,agL,DataW.agg.injEq]at hx1;have hcell:∀i:Nat,i<64→cs0[i]? = some (.int .u8 (deb.getD i 0)):=fun i hi=>by
  have h1:=hel i hi;rw[aj_,Nat.mul_one]at h1
  have h2:xs[i]? = some xs[i]:=List.getElem?_eq_getElem (by omega);rw[h2]at h1
  obtain⟨n,e1,e2,_⟩:=DataW.trod_int ale h1;have h3:(xs.map (·.1))[i]? = (deb.map fun n=>(DataW.lit (Lit.int .u8 n):DataW Unit))[i]? :=by rw[←hx1.1]
  rw[List.getElem?_map,h2,Option.map_some,e2,List.getElem?_map]at h3
  have h4:deb[i]? = some n:=by
   cases hd:deb[i]? with
   | none=>rw[hd]at h3;simp at h3
   | some k=>rw[hd]at h3;simp at h3;rw[h3]
  have h5:cs0.toList[i]? = some (.int .u8 n):=by
   have:=congrArg (fun l=>l[0]?) e1;simp only[List.getElem?_take,List.getElem?_drop]at this;simpa using this
  rw[List.getD_eq_getElem?_getD,h4,Option.getD_some];simpa using h5
 have hbl:0<W.heap.size:=by
  have:=World.var?_cell hg0 hv0 0;rw[hcell 0 (by omega)]at this
  exact World.block_lt_of_cell? W ⟨0,0,none⟩ this
 intro y hy;simp only[Yx,List.mem_singleton]at hy;subst hy;refine bQ.fZ fun i x hx=>?_
 simp only[List.getElem?_map,Option.map_eq_some_iff]at hx;obtain⟨n,h1,rfl⟩:=hx;have hi:i<64:=(List.getElem?_eq_some_iff.1 h1).1;refine⟨hbl,.int .u8 n,?_,by simp only[Rep]⟩;have:=World.var?_cell hg0 hv0 i;rw[hcell i hi,List.getD_eq_getElem?_getD,h1,Option.getD_some]at this
 rw[Nat.zero_add];exact this
end Go.Proofs.YtboimfkommpglaaGreatDoor

namespace Go.Proofs
open Go Go.Tr
theorem Gq{ds:List D}(h:(Ty.int .i64).has ds):∃n,ds = [.int .i64 n]:=by
 simp only[Ty.has]at h;obtain⟨n,rfl,_⟩:=h;exact⟨n,rfl⟩
theorem ND(g:ay)(r:Int)(c:Int×Pk):((jZ g r c).getD Uu).2.rt.length≤24:=by
 have hl:=pK g r c.1;unfold jZ;split
 ·simp[Uu]
 ·rename_i n w hR;rw[hR]at hl
  simp at hl⊢;omega
theorem Zo(L:List Int)(hL:∀x∈L,I64 x)(x y:Int)(c:Int×Fr):Contract Tryz.prog 3 [.d (ints L),.d (.int .i64 x),.d (.int .i64 y),JX c] [] (.d (.bool true)) [] []:=by
 refine aj Tryz.func3 rfl (fun E0=>?_);refine cO.sound (g:=.mk) (ow:=[]) (kp:=(fun k=>k==0||k==1||k==2||k==3||k==7||k==8||k==9||k==10||k==11||k==12||k==13||k==14||k==15||k==16||k==17||k==18||k==19||k==20||k==21||k==22||k==28||k==50||k==74)) ?_;rw[Tryz.ntmps3];simp -dsimp[ints,JX,n_,Pk.cs];refine ah.of (new_c L) [] 3000 ?_;simp -dsimp[ints,JX,n_,Pk.cs]
 have kT:ak (L.take 600,0):=Dx L hL;generalize (L.take 600,0)=T0 at kT⊢;try refine⟨rfl,?_⟩
 refine ah.of (rV T0 kT 7 (by omega)) [.o 3010] 0 ?_;have f0:=vS T0 (most:=7) (by omega);have k1:ak (bW T0 7).2:=by simpa using kT
 generalize bW T0 7=G at f0 k1⊢;obtain⟨g0,T1⟩:=G;simp only at f0 k1⊢;simp -dsimp[aH];refine ah.of (gK T1 k1 8 ⟨by omega,by omega⟩ ⟨by omega,by omega⟩) [.o 3010] 0 ?_;have k2:ak (dD T1 8).2:=by simpa using k1
 generalize dD T1 8=o at k2⊢;obtain⟨ob,T2⟩:=o;simp only at k2⊢;rcases (Bool.eq_false_or_eq_true ob).symm with hob|hob
 ·subst hob;simp -dsimp;try and_intros
  all_goals try first|rfl|omega|exact⟨by kernel_rfl⟩
  obtain⟨g,hg,hf⟩:∃g,g=g0∧g.Fit:=⟨_,rfl,f0⟩
  obtain⟨T,hT,kk⟩:∃T,T=T2∧ak T:=⟨_,rfl,k2⟩
  rw[←hg,←hT];clear hg hT
  as_aux_lemma=>
  have r1:=hf.r1;have r2:=hf.r2;have hs:=hf.sm;refine ah.of (AQ T kk g.rs g.ls (by omega) 6 (by omega)) [.o 3010] 0 ?_;have ka:ak (o7 T g.rs 6).2:=by rw[zM];exact kk
  generalize o7 T g.rs 6=A at ka⊢;obtain⟨a,Ta⟩:=A;simp only at ka⊢;simp -dsimp;refine ah.of (AQ Ta ka g.rs g.ls (by omega) 6 (by omega)) [.o 3010] 0 ?_;have kb:ak (o7 Ta g.rs 6).2:=by rw[zM];exact ka
  generalize o7 Ta g.rs 6=B at kb⊢;obtain⟨b,Tb⟩:=B;simp only at kb⊢;simp -dsimp;refine ah.of (uP Tb kb g.rs g.ls (by omega)) [.o 3010] 0 ?_;have kc:ak (au Tb g.rs.length).2:=by rw[dP];exact kb
  generalize au Tb g.rs.length=C at kc⊢;obtain⟨c0,Tc⟩:=C;simp only at kc⊢;generalize (g.rs.getD c0.toNat ⟨0,false⟩).id=c1;simp -dsimp;refine ah.of (uP Tc kc g.rs g.ls (by omega)) [.o 3010] 0 ?_;have kd:ak (au Tc g.rs.length).2:=by rw[dP];exact kc
  generalize au Tc g.rs.length=C at kd⊢;obtain⟨d0,Td⟩:=C;simp only at kd⊢;generalize (g.rs.getD d0.toNat ⟨0,false⟩).id=d1;simp -dsimp;and_intros;all_goals try first|rfl|omega|exact⟨by kernel_rfl⟩
  refine aN.of [] (fun k=>k==0||k==1||k==2||k==3||k==7||k==8||k==9||k==10||k==11||k==12||k==13||k==14||k==15||k==16||k==17||k==18||k==19||k==20||k==21||k==22||k==28||k==50||k==74) (ι:={i:Nat // i≤3})
   (fun z=>[(Pl.s 1,It.v (.d (.int .i64 x))),(Pl.o 7,It.box ((n_ c).map .d)),(Pl.s 7,It.v (.ptr (.o 7) 0)),(Pl.s 9,It.v (.ptr (.o 3010) 0)),(Pl.o 3010,aJ Td),(Pl.o 10,It.box [TV.d (.sl (rts g.rs)),TV.d (.sl (dO g.ls))]),(Pl.s 10,It.v (.ptr (.o 10) 0)),
    (Pl.o 11,It.box [TV.d (.int .i64 x),TV.d (.int .i64 y),TV.d (.int .i64 a),TV.d (.int .i64 b),TV.d (.int .i64 c1),TV.d (.int .i64 d1)]),(Pl.s 11,It.v (.ptr (.o 11) 0)),(Pl.s 12,It.v (.d (.int .i64 z.1)))])
   (fun z=>3-z.1) ⟨0,by omega⟩ ?_ ?_
  ·exact GS.to (by simp[n_,ints,Pk.cs])
  rintro⟨i,i1⟩;have hcs:i=0∨i=1∨i=2∨i=3:=by omega
  rcases hcs with rfl|rfl|rfl|rfl
  ·as_aux_lemma=>
    have t1:=AZ g hs x y;have t2:=sS g hs x y;have t3:=yU (route g x y) (route g x y) (by have:=pK g x y;omega);rw[decide_eq_true rfl]at t3
    generalize route g x y=h at t1 t2 t3;simp only[aH]at t1 t2;simp -dsimp;and_intros;all_goals try first|omega|exact⟨by kernel_rfl⟩|rfl
    refine ah.of t1 [] 0 ?_;simp -dsimp;and_intros;all_goals try first|omega|exact⟨by kernel_rfl⟩|rfl
    refine ah.of t2 [] 0 ?_;simp -dsimp;and_intros;all_goals try first|omega|exact⟨by kernel_rfl⟩|rfl
    refine ah.of t3 [] 0 ?_;simp -dsimp;and_intros;all_goals try first|omega|exact⟨by kernel_rfl⟩|rfl
    exact⟨⟨1,by omega⟩,GS.to (by simp[n_,ints,Pk.cs,show IntKind.i64.wrap 1=1 by decide,show IntKind.i64.wrap 2=2 by decide,show IntKind.i64.wrap 3=3 by decide]),by simp⟩
  ·as_aux_lemma=>
    have t1:=AZ g hs a b;have t2:=sS g hs a b;have t3:=yU (route g a b) (route g a b) (by have:=pK g a b;omega);rw[decide_eq_true rfl]at t3
    generalize route g a b=h at t1 t2 t3;simp only[aH]at t1 t2;simp -dsimp;and_intros;all_goals try first|omega|exact⟨by kernel_rfl⟩|rfl
    refine ah.of t1 [] 0 ?_;simp -dsimp;and_intros;all_goals try first|omega|exact⟨by kernel_rfl⟩|rfl
    refine ah.of t2 [] 0 ?_;simp -dsimp;and_intros;all_goals try first|omega|exact⟨by kernel_rfl⟩|rfl
    refine ah.of t3 [] 0 ?_;simp -dsimp;and_intros;all_goals try first|omega|exact⟨by kernel_rfl⟩|rfl
    exact⟨⟨2,by omega⟩,GS.to (by simp[n_,ints,Pk.cs,show IntKind.i64.wrap 1=1 by decide,show IntKind.i64.wrap 2=2 by decide,show IntKind.i64.wrap 3=3 by decide]),by simp⟩
  ·as_aux_lemma=>
    have t1:=AZ g hs c1 d1;have t2:=sS g hs c1 d1;have t3:=yU (route g c1 d1) (route g c1 d1) (by have:=pK g c1 d1;omega);rw[decide_eq_true rfl]at t3
    generalize route g c1 d1=h at t1 t2 t3;simp only[aH]at t1 t2;simp -dsimp;and_intros;all_goals try first|omega|exact⟨by kernel_rfl⟩|rfl
    refine ah.of t1 [] 0 ?_;simp -dsimp;and_intros;all_goals try first|omega|exact⟨by kernel_rfl⟩|rfl
    refine ah.of t2 [] 0 ?_;simp -dsimp;and_intros;all_goals try first|omega|exact⟨by kernel_rfl⟩|rfl
    refine ah.of t3 [] 0 ?_;simp -dsimp;and_intros;all_goals try first|omega|exact⟨by kernel_rfl⟩|rfl
    exact⟨⟨3,by omega⟩,GS.to (by simp[n_,ints,Pk.cs,show IntKind.i64.wrap 1=1 by decide,show IntKind.i64.wrap 2=2 by decide,show IntKind.i64.wrap 3=3 by decide]),by simp⟩
  as_aux_lemma=>
  simp -dsimp;and_intros;all_goals try first|rfl|omega|exact⟨by kernel_rfl⟩
  refine ah.of (AQ Td kd g.rs g.ls (by omega) 4 (by omega)) [.o 3010] 0 ?_;have ke:ak (o7 Td g.rs 4).2:=by rw[zM];exact kd
  generalize o7 Td g.rs 4=E at ke⊢;obtain⟨e1,Te⟩:=E;simp only at ke⊢;simp -dsimp;and_intros;all_goals try first|rfl|omega|exact⟨by kernel_rfl⟩
  refine ah.of (L8 Te ke 0 ⟨by omega,by omega⟩ ⟨by omega,by omega⟩) [.o 3010] 0 ?_;have kf:ak (qc Te 0).2:=by rw[EU];exact ke
  generalize qc Te 0=F at kf⊢;obtain⟨⟨fr,fp⟩,Tf⟩:=F;simp only at kf⊢;simp only[xK,vH,ints,Pk.cs,List.map];simp -dsimp;and_intros;all_goals try first|rfl|omega|exact⟨by kernel_rfl⟩
  refine ah.of (AQ Tf kf g.rs g.ls (by omega) 4 (by omega)) [.o 3010] 0 ?_;generalize o7 Tf g.rs 4=E2;obtain⟨r1,Tg⟩:=E2;have s1:=NI g hs r1 (e1,⟨fr,fp⟩);have s2:=AV g hs r1 (e1,⟨fr,fp⟩);have s3:=NI g hs x c;have s4:=AV g hs x c;have b1:=ND g r1 (e1,fp);have b2:=ND g x (c.1,c.2.pk);simp only at s1 s2 s3 s4
  generalize (jZ g r1 (e1,fp)).isSome=q1 at s1 s2;generalize (jZ g r1 (e1,fp)).getD Uu=A at s1 s2 b1;generalize (jZ g x (c.1,c.2.pk)).isSome=q2 at s3 s4;generalize (jZ g x (c.1,c.2.pk)).getD Uu=B at s3 s4 b2;obtain⟨A1,⟨Ar,Ap⟩⟩:=A;obtain⟨B1,⟨Br,Bp⟩⟩:=B;simp only at b1 b2;have s5:=JG ⟨Ar,Ap⟩ (by simp only;omega);have s6:=JG ⟨Br,Bp⟩ (by simp only;omega)
  simp only[aH,JX,n_,xK,vH,ints,Pk.cs,List.map]at s1 s2 s3 s4 s5 s6;simp -dsimp[n_,ints,Pk.cs];and_intros;all_goals try first|rfl|omega|exact⟨by kernel_rfl⟩
  refine ah.of s1 [] 0 ?_;simp -dsimp[n_,ints,Pk.cs];and_intros;all_goals try first|rfl|omega|exact⟨by kernel_rfl⟩
  refine ah.of s2 [] 0 ?_;simp -dsimp[n_,ints,Pk.cs];and_intros;all_goals try first|rfl|omega|exact⟨by kernel_rfl⟩
  refine ah.of s3 [] 0 ?_;simp -dsimp[n_,ints,Pk.cs];and_intros;all_goals try first|rfl|omega|exact⟨by kernel_rfl⟩
  refine ah.of s4 [] 0 ?_;simp -dsimp[n_,ints,Pk.cs];and_intros;all_goals try first|rfl|omega|exact⟨by kernel_rfl⟩
  refine ah.of s5 [] 0 ?_;simp -dsimp[n_,ints,Pk.cs];and_intros;all_goals try first|rfl|omega|exact⟨by kernel_rfl⟩
  refine ah.of s6 [] 0 ?_;simp -dsimp[n_,ints,Pk.cs];and_intros;all_goals try first|rfl|omega|exact⟨by kernel_rfl⟩
  refine ah.of mg [] 0 ?_;simp -dsimp;and_intros;all_goals try first|rfl|omega|exact⟨by kernel_rfl⟩
  refine Fin.of ?_;simp
 ·subst hob;simp -dsimp;try and_intros
  all_goals try first|rfl|omega|exact⟨by kernel_rfl⟩
  refine ah.of (ahK T2 k2 6 (by omega) 2 (by omega)) [.o 3010] 0 ?_;obtain⟨f1,e1⟩:=acY T2 (most:=6) (by omega) 2;have k3:ak (Me T2 6 2).2:=e1▸k2;generalize Me T2 6 2=G at f1 k3⊢;obtain⟨g,T⟩:=G;simp only at f1 k3⊢;simp -dsimp[aH];have hf:=f1;have kk:=k3
  as_aux_lemma=>
  have r1:=hf.r1;have r2:=hf.r2;have hs:=hf.sm;refine ah.of (AQ T kk g.rs g.ls (by omega) 6 (by omega)) [.o 3010] 0 ?_;have ka:ak (o7 T g.rs 6).2:=by rw[zM];exact kk
  generalize o7 T g.rs 6=A at ka⊢;obtain⟨a,Ta⟩:=A;simp only at ka⊢;simp -dsimp;refine ah.of (AQ Ta ka g.rs g.ls (by omega) 6 (by omega)) [.o 3010] 0 ?_;have kb:ak (o7 Ta g.rs 6).2:=by rw[zM];exact ka
  generalize o7 Ta g.rs 6=B at kb⊢;obtain⟨b,Tb⟩:=B;simp only at kb⊢;simp -dsimp;refine ah.of (uP Tb kb g.rs g.ls (by omega)) [.o 3010] 0 ?_;have kc:ak (au Tb g.rs.length).2:=by rw[dP];exact kb
  generalize au Tb g.rs.length=C at kc⊢;obtain⟨c0,Tc⟩:=C;simp only at kc⊢;generalize (g.rs.getD c0.toNat ⟨0,false⟩).id=c1;simp -dsimp;refine ah.of (uP Tc kc g.rs g.ls (by omega)) [.o 3010] 0 ?_;have kd:ak (au Tc g.rs.length).2:=by rw[dP];exact kc
  generalize au Tc g.rs.length=C at kd⊢;obtain⟨d0,Td⟩:=C;simp only at kd⊢;generalize (g.rs.getD d0.toNat ⟨0,false⟩).id=d1;simp -dsimp;and_intros;all_goals try first|rfl|omega|exact⟨by kernel_rfl⟩
  refine aN.of [] (fun k=>k==0||k==1||k==2||k==3||k==7||k==8||k==9||k==10||k==11||k==12||k==13||k==14||k==15||k==16||k==17||k==18||k==19||k==20||k==21||k==22||k==28||k==50||k==74) (ι:={i:Nat // i≤3})
   (fun z=>[(Pl.s 1,It.v (.d (.int .i64 x))),(Pl.o 7,It.box ((n_ c).map .d)),(Pl.s 7,It.v (.ptr (.o 7) 0)),(Pl.s 9,It.v (.ptr (.o 3010) 0)),(Pl.o 3010,aJ Td),(Pl.o 10,It.box [TV.d (.sl (rts g.rs)),TV.d (.sl (dO g.ls))]),(Pl.s 10,It.v (.ptr (.o 10) 0)),
    (Pl.o 11,It.box [TV.d (.int .i64 x),TV.d (.int .i64 y),TV.d (.int .i64 a),TV.d (.int .i64 b),TV.d (.int .i64 c1),TV.d (.int .i64 d1)]),(Pl.s 11,It.v (.ptr (.o 11) 0)),(Pl.s 12,It.v (.d (.int .i64 z.1)))])
   (fun z=>3-z.1) ⟨0,by omega⟩ ?_ ?_
  ·exact GS.to (by simp[n_,ints,Pk.cs])
  rintro⟨i,i1⟩;have hcs:i=0∨i=1∨i=2∨i=3:=by omega
  rcases hcs with rfl|rfl|rfl|rfl
  ·as_aux_lemma=>
    have t1:=AZ g hs x y;have t2:=sS g hs x y;have t3:=yU (route g x y) (route g x y) (by have:=pK g x y;omega);rw[decide_eq_true rfl]at t3
    generalize route g x y=h at t1 t2 t3;simp only[aH]at t1 t2;simp -dsimp;and_intros;all_goals try first|omega|exact⟨by kernel_rfl⟩|rfl
    refine ah.of t1 [] 0 ?_;simp -dsimp;and_intros;all_goals try first|omega|exact⟨by kernel_rfl⟩|rfl
    refine ah.of t2 [] 0 ?_;simp -dsimp;and_intros;all_goals try first|omega|exact⟨by kernel_rfl⟩|rfl
    refine ah.of t3 [] 0 ?_;simp -dsimp;and_intros;all_goals try first|omega|exact⟨by kernel_rfl⟩|rfl
    exact⟨⟨1,by omega⟩,GS.to (by simp[n_,ints,Pk.cs,show IntKind.i64.wrap 1=1 by decide,show IntKind.i64.wrap 2=2 by decide,show IntKind.i64.wrap 3=3 by decide]),by simp⟩
  ·as_aux_lemma=>
    have t1:=AZ g hs a b;have t2:=sS g hs a b;have t3:=yU (route g a b) (route g a b) (by have:=pK g a b;omega);rw[decide_eq_true rfl]at t3
    generalize route g a b=h at t1 t2 t3;simp only[aH]at t1 t2;simp -dsimp;and_intros;all_goals try first|omega|exact⟨by kernel_rfl⟩|rfl
    refine ah.of t1 [] 0 ?_;simp -dsimp;and_intros;all_goals try first|omega|exact⟨by kernel_rfl⟩|rfl
    refine ah.of t2 [] 0 ?_;simp -dsimp;and_intros;all_goals try first|omega|exact⟨by kernel_rfl⟩|rfl
    refine ah.of t3 [] 0 ?_;simp -dsimp;and_intros;all_goals try first|omega|exact⟨by kernel_rfl⟩|rfl
    exact⟨⟨2,by omega⟩,GS.to (by simp[n_,ints,Pk.cs,show IntKind.i64.wrap 1=1 by decide,show IntKind.i64.wrap 2=2 by decide,show IntKind.i64.wrap 3=3 by decide]),by simp⟩
  ·as_aux_lemma=>
    have t1:=AZ g hs c1 d1;have t2:=sS g hs c1 d1;have t3:=yU (route g c1 d1) (route g c1 d1) (by have:=pK g c1 d1;omega);rw[decide_eq_true rfl]at t3
    generalize route g c1 d1=h at t1 t2 t3;simp only[aH]at t1 t2;simp -dsimp;and_intros;all_goals try first|omega|exact⟨by kernel_rfl⟩|rfl
    refine ah.of t1 [] 0 ?_;simp -dsimp;and_intros;all_goals try first|omega|exact⟨by kernel_rfl⟩|rfl
    refine ah.of t2 [] 0 ?_;simp -dsimp;and_intros;all_goals try first|omega|exact⟨by kernel_rfl⟩|rfl
    refine ah.of t3 [] 0 ?_;simp -dsimp;and_intros;all_goals try first|omega|exact⟨by kernel_rfl⟩|rfl
    exact⟨⟨3,by omega⟩,GS.to (by simp[n_,ints,Pk.cs,show IntKind.i64.wrap 1=1 by decide,show IntKind.i64.wrap 2=2 by decide,show IntKind.i64.wrap 3=3 by decide]),by simp⟩
  as_aux_lemma=>
  simp -dsimp;and_intros;all_goals try first|rfl|omega|exact⟨by kernel_rfl⟩
  refine ah.of (AQ Td kd g.rs g.ls (by omega) 4 (by omega)) [.o 3010] 0 ?_;have ke:ak (o7 Td g.rs 4).2:=by rw[zM];exact kd
  generalize o7 Td g.rs 4=E at ke⊢;obtain⟨e1,Te⟩:=E;simp only at ke⊢;simp -dsimp;and_intros;all_goals try first|rfl|omega|exact⟨by kernel_rfl⟩
  refine ah.of (L8 Te ke 0 ⟨by omega,by omega⟩ ⟨by omega,by omega⟩) [.o 3010] 0 ?_;have kf:ak (qc Te 0).2:=by rw[EU];exact ke
  generalize qc Te 0=F at kf⊢;obtain⟨⟨fr,fp⟩,Tf⟩:=F;simp only at kf⊢;simp only[xK,vH,ints,Pk.cs,List.map];simp -dsimp;and_intros;all_goals try first|rfl|omega|exact⟨by kernel_rfl⟩
  refine ah.of (AQ Tf kf g.rs g.ls (by omega) 4 (by omega)) [.o 3010] 0 ?_;generalize o7 Tf g.rs 4=E2;obtain⟨r1,Tg⟩:=E2;have s1:=NI g hs r1 (e1,⟨fr,fp⟩);have s2:=AV g hs r1 (e1,⟨fr,fp⟩);have s3:=NI g hs x c;have s4:=AV g hs x c;have b1:=ND g r1 (e1,fp);have b2:=ND g x (c.1,c.2.pk);simp only at s1 s2 s3 s4
  generalize (jZ g r1 (e1,fp)).isSome=q1 at s1 s2;generalize (jZ g r1 (e1,fp)).getD Uu=A at s1 s2 b1;generalize (jZ g x (c.1,c.2.pk)).isSome=q2 at s3 s4;generalize (jZ g x (c.1,c.2.pk)).getD Uu=B at s3 s4 b2;obtain⟨A1,⟨Ar,Ap⟩⟩:=A;obtain⟨B1,⟨Br,Bp⟩⟩:=B;simp only at b1 b2;have s5:=JG ⟨Ar,Ap⟩ (by simp only;omega);have s6:=JG ⟨Br,Bp⟩ (by simp only;omega)
  simp only[aH,JX,n_,xK,vH,ints,Pk.cs,List.map]at s1 s2 s3 s4 s5 s6;simp -dsimp[n_,ints,Pk.cs];and_intros;all_goals try first|rfl|omega|exact⟨by kernel_rfl⟩
  refine ah.of s1 [] 0 ?_;simp -dsimp[n_,ints,Pk.cs];and_intros;all_goals try first|rfl|omega|exact⟨by kernel_rfl⟩
  refine ah.of s2 [] 0 ?_;simp -dsimp[n_,ints,Pk.cs];and_intros;all_goals try first|rfl|omega|exact⟨by kernel_rfl⟩
  refine ah.of s3 [] 0 ?_;simp -dsimp[n_,ints,Pk.cs];and_intros;all_goals try first|rfl|omega|exact⟨by kernel_rfl⟩
  refine ah.of s4 [] 0 ?_;simp -dsimp[n_,ints,Pk.cs];and_intros;all_goals try first|rfl|omega|exact⟨by kernel_rfl⟩
  refine ah.of s5 [] 0 ?_;simp -dsimp[n_,ints,Pk.cs];and_intros;all_goals try first|rfl|omega|exact⟨by kernel_rfl⟩
  refine ah.of s6 [] 0 ?_;simp -dsimp[n_,ints,Pk.cs];and_intros;all_goals try first|rfl|omega|exact⟨by kernel_rfl⟩
  refine ah.of mg [] 0 ?_;simp -dsimp;and_intros;all_goals try first|rfl|omega|exact⟨by kernel_rfl⟩
  refine Fin.of ?_;simp
section
variable {l:List Tb} {p:Pk} {r:Int}
end
end Go.Proofs

namespace Go.Proofs
open Go Go.Tr
def a0:List Int:=[0,0,0,0]
def dZ(T:Tp):Prop:=T.1.length≤2000∧∀x∈T.1,I64 x
@[simp]theorem CQ(T:Tp):dZ (Et T).2=dZ T:=by simp[dZ,EX]
@[simp]theorem EW(T:Tp)(n:Int):dZ (au T n).2=dZ T:=CQ T
@[simp]theorem aak(T:Tp)(a b:Int):dZ (aT T a b).2=dZ T:=CQ T
@[simp]theorem Oy(T:Tp)(l:List Int):dZ (aK T l).2=dZ T:=CQ T
theorem yN:∀(n i:Nat) (T:Tp) (l:List Int),(kY n i T l).2.1=T.1
 | 0,_,_,_=>rfl
 | n+1,i,T,l=>by rw[kY,yN];exact EX T
@[simp]theorem aai(T:Tp)(n:Int):dZ (bT T n).2=dZ T:=by unfold bT dZ;rw[yN]
end Go.Proofs

namespace Go.Proofs
open Go.Shelf Go.RowKit Go.Lib Go.Sort
end Go.Proofs

namespace Go.Proofs
open Go Go.Tr Go.Shelf
end Go.Proofs

namespace Go.Proofs
open Go Go.Tr
variable {l:List Tb} {p:Pk} {r:Int}
end Go.Proofs

namespace Go.Proofs
open Go Go.Tr
def Good(l:List Tb):Prop:=DL l∨(ZB l∧nR l≠0)
theorem Good.big{l:List Tb}(h:Good l):ZB l:=h.elim DL.big And.left
theorem Good.sm{l:List Tb}(h:Good l)(hA:nR l=0):DL l:=h.elim id fun g=>absurd hA g.2
def afu(l:List Tb)(r id en ttl:Int):Int:=
 if nR l≠0 then 1 else match bH l r with
 | none=>4
 | some b=>if(aG b.len&&inB id 1 256)=false∨31<fJ id b.len∨en<0∨1023<en∨ttl<0∨63<ttl then 2 else 0
def W9:List Int:=[1,1,1,2,5]
def Xh(T:Tp):Nat→Tp×Int×List Rt
 | 0=>(T,0,[])
 | i+1=>let s:=Xh T i;let w:=aK s.1 W9;(w.2,s.2.1+w.1,s.2.2++[⟨s.2.1+w.1,true⟩])
abbrev Mx:=Nat→Nat→Bool
def Xg(M:Mx)(a b:Nat):Mx:=fun i j=>if i=a∧j=b then true else M i j
def MZ(T:Tp):Nat→Tp×Mx
 | 0=>(T,fun _ _=>false)
 | i+1=>let s:=MZ T i;let w:=au s.1 12
   if w.1<11 then(let v:=au w.2 ((i:Int)+1);(v.2,Xg s.2 v.1.toNat (i+1)))else(w.2,s.2)
def MW(n:Nat)(T:Tp)(M:Mx):Nat→Tp×Mx
 | 0=>(T,M)
 | k+1=>let s:=MW n T M k;let a:=au s.1 n;let b:=au a.2 n
   (b.2,if a.1=b.1 then s.2 else Xg s.2 (min a.1 b.1).toNat (max a.1 b.1).toNat)
def QT:List Int:=[0,1,2,3,5,10,1000]
def aah(flat:Bool)(x y:Int)(T:Tp):Lk×Tp:=
 let c:=aK T QT
 if flat then(⟨x,y,1,1,c.1⟩,c.2)else
 let u:=aT c.2 1 20
 let v:=aK u.2 [1,2,3,u.1,1000]
 let w:=aT v.2 1 20
 let z:=aK w.2 [v.1,v.1,w.1]
 (⟨x,y,v.1,z.1,c.1⟩,z.2)
def rid(rs:List Rt)(i:Nat):Int:=(rs.getD i ⟨0,false⟩).id
def TQ(flat:Bool)(rs:List Rt)(s:List Lk×Tp)(q:Nat×Nat):List Lk×Tp:=
 let r:=aah flat (rid rs q.1) (rid rs q.2) s.2;(s.1++[r.1],r.2)
def rowP(M:Mx)(a m:Nat):List (Nat×Nat):=((List.range m).filter (M a)).map fun b=>(a,b)
def prs(M:Mx)(n a b:Nat):List (Nat×Nat):=((List.range a).flatMap fun x=>rowP M x n)++rowP M a b
def Xi(flat:Bool)(rs:List Rt)(M:Mx)(T:Tp)(n a b:Nat):List Lk×Tp:=(prs M n a b).foldl (TQ flat rs) ([],T)
structure ait where
 n:Nat
 T1:Tp
 rs:List Rt
 T2:Tp
 M:Mx
 k:Nat
 T3:Tp
 M2:Mx
 flat:Bool
 T4:Tp
def Ak(T:Tp)(most:Int):ait:=
 let a:=aT T 1 most
 let n:=a.1.toNat
 let r:=Xh a.2 n
 let t:=MZ r.1 (n-1)
 let k:=au t.1 ((n:Int)+2)
 let m:=MW n k.2 t.2 k.1.toNat
 let f:=au m.1 3
 ⟨n,a.2,r.2.2,r.1,t.2,k.1.toNat,k.2,m.2,decide (f.1=0),f.2⟩
def aeU(T:Tp)(most:Int):ay×Tp:=
 let P:=Ak T most
 (⟨P.rs,(Xi P.flat P.rs P.M2 P.T4 P.n P.n 0).1⟩,(Xi P.flat P.rs P.M2 P.T4 P.n P.n 0).2)
def Up(n:Nat)(M:Mx):Prop:=∀i j,M i j=true→i<j∧j<n
theorem Up.set{n:Nat}{M:Mx}(h:Up n M){a b:Nat}(hab:a<b)(hb:b<n):Up n (Xg M a b):=by
 intro i j e;unfold Xg at e;split at e
 ·rename_i g;omega
 ·exact h i j e
theorem Xr{rs:List Rt}{i:Nat}(hi:i<rs.length):aY rs (rid rs i)=true:=by
 refine dH.2 (List.mem_map.2 ⟨rs[i],List.getElem_mem hi,?_⟩);unfold rid;rw[List.getD_eq_getElem?_getD,List.getElem?_eq_getElem hi];rfl
theorem OB(l:List Int)(n:Int):(E8 l n).length≤l.length+1:=by
 unfold E8;split
 ·omega
 ·simp;omega
def OW:List Int:=[1,1,1,2,7,9]
def MX(rs:List Rt)(ord:List Int)(T:Tp):Nat→Tp×Int×List Ed
 | 0=>(T,0,[])
 | i+1=>let s:=MX rs ord T i;let a:=au s.1 4
   if a.1=0 then(a.2,s.2)else(let w:=aK a.2 OW;(w.2,s.2.1+w.1,s.2.2++[⟨rid rs (ord.getD i 0).toNat,s.2.1+w.1⟩]))
def SG:List Int:=[8,8,16,32,64]
def RP(rs:List Rt)(T:Tp):Pn×Tp:=
 let a:=au T 3
 let o:=bT a.2 rs.length
 let s:=MX rs o.1 o.2 rs.length
 if 0<s.2.2.length then(let w:=aK s.1 SG;(⟨a.1,w.1,s.2.2⟩,w.2))else(⟨a.1,0,s.2.2⟩,s.1)
@[simp]theorem OH(rs:List Rt)(ord:List Int)(T:Tp):∀i:Nat,dZ (MX rs ord T i).1=dZ T
 | 0=>rfl
 | i+1=>by
   have ih:=OH rs ord T i;simp only[MX];split<;>simp[ih]
@[simp]theorem aaj(rs:List Rt)(T:Tp):dZ (RP rs T).2=dZ T:=by
 unfold RP;simp only;split<;>simp
def l9(rs:List Rt)(T:Tp):Nat→Tp×List Int
 | 0=>(T,[])
 | i+1=>let s:=l9 rs T i;let v:=au s.1 rs.length;(v.2,E8 s.2 (rid rs v.1.toNat))
def Md(rs:List Rt)(T:Tp)(n:Int):List Int×Tp:=
 let k:=au T (n+1)
 let s:=l9 rs k.2 k.1.toNat
 (s.2,s.1)
@[simp]theorem OI(rs:List Rt)(T:Tp):∀i:Nat,dZ (l9 rs T i).1=dZ T
 | 0=>rfl
 | i+1=>by simp only[l9,EW];exact OI rs T i
@[simp]theorem acW(rs:List Rt)(T:Tp)(n:Int):dZ (Md rs T n).2=dZ T:=by simp[Md]
theorem Fj(rs:List Rt)(T:Tp):∀i:Nat,(l9 rs T i).2.length≤i
 | 0=>by simp[l9]
 | i+1=>by
   have ih:=Fj rs T i;have:=OB (l9 rs T i).2 (rid rs (au (l9 rs T i).1 rs.length).1.toNat);simp only[l9];omega
def flR(r:Int)(L:List Int):List Int:=L.filter fun y=>decide (y≠r)
def zk(rs:List Rt)(r:Int)(T:Tp):List Int×Tp:=
 let s:=au T 4
 if s.1=0 then([r],s.2)else if s.1=1 then([],s.2)else(flR r (Md rs s.2 2).1,(Md rs s.2 2).2)
def O7(rs:List Rt)(l:List Tb)(T:Tp):(List Tb×Int×Int)×Tp:=
 if l.length=0 then((l,0,0),T)else
 let k:=au T l.length
 let b:=l.getD k.1.toNat tb0
 if b.rows.length=0 then((l,0,0),k.2)else
 let j:=au k.2 b.rows.length
 let x:=b.rows.getD j.1.toNat ⟨0,[]⟩
 let s:=zk rs b.r j.2
 ((l.set k.1.toNat ⟨b.r,b.sd,b.len,b.rows.set j.1.toNat ⟨x.id,s.1⟩⟩,b.r,x.id),s.2)
@[simp]theorem adJ(rs:List Rt)(r:Int)(T:Tp):dZ (zk rs r T).2=dZ T:=by
 unfold zk;simp only;split
 ·simp
 ·split<;>simp
@[simp]theorem Ud(rs:List Rt)(l:List Tb)(T:Tp):dZ (O7 rs l T).2=dZ T:=by
 unfold O7;split
 ·rfl
 ·simp only;split<;>simp
@[simp]theorem SQ(T:Tp):∀i:Nat,dZ (Xh T i).1=dZ T
 | 0=>rfl
 | i+1=>by simp only[Xh,Oy];exact SQ T i
@[simp]theorem OJ(T:Tp):∀i:Nat,dZ (MZ T i).1=dZ T
 | 0=>rfl
 | i+1=>by
   have ih:=OJ T i;simp only[MZ];split<;>simp[ih]
@[simp]theorem OG(n:Nat)(T:Tp)(M:Mx):∀i:Nat,dZ (MW n T M i).1=dZ T
 | 0=>rfl
 | i+1=>by
   have ih:=OG n T M i;simp only[MW,EW,ih]
@[simp]theorem aeT(flat:Bool)(x y:Int)(T:Tp):dZ (aah flat x y T).2=dZ T:=by
 unfold aah;simp only;split<;>simp
theorem IW(flat:Bool)(rs:List Rt):∀(ps:List (Nat×Nat)) (s:List Lk×Tp),dZ (ps.foldl (TQ flat rs) s).2=dZ s.2
 | [],_=>rfl
 | q::ps,s=>by rw[List.foldl_cons,IW flat rs ps];simp[TQ]
@[simp]theorem SS(flat:Bool)(rs:List Rt)(M:Mx)(T:Tp)(n a b:Nat):dZ (Xi flat rs M T n a b).2=dZ T:=IW _ _ _ _
@[simp]theorem agb(a b:Nat)(T:Tp):AO a b (aJ T)=aJ T:=by simp[aJ,TT,TV.AP,TV.ren]
end Go.Proofs
