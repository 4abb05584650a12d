/-
  What functions of the program compute, stated as contracts over plain data; the conditions of each stand in its own statement.
-/
import Derived.Test.YtboimfkommpglaaGreatDoorZA28
import Derived.Test.YtboimfkommpglaaGreatDoorZA20
import Derived.Test.YtboimfkommpglaaGreatDoorZA13
import Derived.Test.YtboimfkommpglaaGreatDoorZA17
import Derived.Test.YtboimfkommpglaaGreatDoorZA19
import Derived.Test.YtboimfkommpglaaGreatDoorZA21
import Derived.Test.YtboimfkommpglaaGreatDoorZA12
import Derived.Test.YtboimfkommpglaaGreatDoorZA10
import Derived.Test.YtboimfkommpglaaGreatDoorRows
import Derived.OpenShut
import Derived.MakeChecks
import Derived.FnData
import Derived.LaidMore
import Derived.Test.YtboimfkommpglaaGreatDoorZA11
import Derived.Test.YtboimfkommpglaaGreatDoorChecked
import Derived.Stop.Joined
import Derived.SevenTiedAt
import Derived.JoinedOf
set_option linter.unusedSimpArgs false
set_option linter.unusedVariables false
set_option maxRecDepth 100000
set_option maxHeartbeats 16000000
namespace Go.Proofs
open Go Go.Tr
def EC(g:ay)(l:List Tb)(p:Pk)(r:Int):Int:=match bH l r with
 | none=>4
 | some b=>if aY g.rs r=false then 4 else if p.mode=2 then 7 else if p.bF≠b.sd∨p.len≠b.len then 8 else 0
theorem xW(g:ay)(l:List Tb)(p:Pk)(r:Int):mZ g l p r=if cZ g≠0∨nR l≠0∨p.ok=false then(gX,1)else if EC g l p r=0 then(runT g l r p,0)else(gX,EC g l p r):=by
 unfold mZ EC;split
 ·rfl
 ·cases bH l r with
  | none=>simp
  | some b=>
    simp only;split
    ·simp
    ·split
     ·simp
     ·split<;>simp
theorem ahF(g:ay)(hs:g.Sm)(h0:cZ g=0)(l:List Tb)(hl:DL l)(p:Pk)(r:Int):
  Contract Tryz.prog 114 [aH g,.d (.sl (oq l)),dX p,.d (.int .i64 r)] [] (.d (.int .i64 (EC g l p r))) [] []:=by
 have h1:=aeD l hl r;have h2:=agh g hs r;simp only[aH,h0,decide_true,Bool.true_and]at h2;simp only[su,bZ]at h1;obtain⟨w,hw⟩:∃w,w=EC g l p r:=⟨_,rfl⟩
 rw[←hw];unfold EC at hw;refine aj Tryz.func114 rfl (fun E0=>?_);refine cO.sound (g:=.mk) (ow:=[]) (kp:=(fun k=>k==0||k==1||k==2||k==3||k==4||k==6||k==8||k==9||k==10||k==17||k==26||k==30)) ?_;rw[Tryz.ntmps114];simp -dsimp[aH,dX,Pk.cs];refine ah.of h1 [] 0 ?_;cases hfd:bH l r with
 | none=>
   rw[hfd]at hw
   simp only at hw;simp -dsimp;and_intros;all_goals try first|rfl|omega|exact⟨by kernel_rfl⟩
   refine Fin.of ?_;simp[hw]
 | some b=>
   rw[hfd]at hw
   simp only at hw;rcases (Bool.eq_false_or_eq_true (aY g.rs r)).symm with c3|c3
   ·rw[if_pos c3]at hw
    simp -dsimp;and_intros;all_goals try first|rfl|omega|exact⟨by kernel_rfl⟩
    refine ah.of h2 [] 0 ?_;simp -dsimp[c3];and_intros;all_goals try first|rfl|omega|exact⟨by kernel_rfl⟩
    refine Fin.of ?_;simp[hw]
   rw[if_neg (by simp[c3])]at hw
   simp -dsimp;and_intros;all_goals try first|rfl|omega|exact⟨by kernel_rfl⟩
   refine ah.of h2 [] 0 ?_;by_cases c4:p.mode=2
   ·rw[if_pos c4]at hw
    simp -dsimp[c3,eq_true c4];and_intros;all_goals try first|rfl|omega|exact⟨by kernel_rfl⟩
    refine Fin.of ?_;simp[hw]
   rw[if_neg c4]at hw
   by_cases c5:p.bF=b.sd
   case neg=>
    rw[if_pos (.inl c5)]at hw
    simp -dsimp[c3,eq_false c4,eq_false c5];and_intros;all_goals try first|rfl|omega|exact⟨by kernel_rfl⟩
    refine Fin.of ?_;simp[hw]
   by_cases c6:p.len=b.len
   case neg=>
    rw[if_pos (.inr c6)]at hw
    simp -dsimp[c3,eq_false c4,eq_true c5,eq_false c6];and_intros;all_goals try first|rfl|omega|exact⟨by kernel_rfl⟩
    refine Fin.of ?_;simp[hw]
   rw[if_neg (by simp[c5,c6])]at hw
   simp -dsimp[c3,eq_false c4,eq_true c5,eq_true c6];and_intros;all_goals try first|rfl|omega|exact⟨by kernel_rfl⟩
   refine Fin.of ?_;simp[hw]
theorem Lc(g:ay)(hs:g.Sm)(l:List Tb)(hl:DL l)(p:Pk)(r:Int):
  Contract Tryz.prog 41 [aH g,.d (.sl (oq l)),dX p,.d (.int .i64 r)] [] (.rG [qG (mZ g l p r).1,.d (.int .i64 (mZ g l p r).2)]) [] []:=by
 have h1:=FQ g hs.r hs.l;have h2:=XZ l hl;have h3:=FU p;simp only[aH]at h1;simp only[dX,Pk.cs,List.map]at h3;obtain⟨w,hw⟩:∃w,w=mZ g l p r:=⟨_,rfl⟩
 rw[←hw];rw[xW]at hw
 refine aj Tryz.func41 rfl (fun E0=>?_);refine cO.sound (g:=.mk) (ow:=[]) (kp:=(fun k=>k==0||k==1||k==2||k==3||k==4||k==5||k==6||k==8||k==9||k==10||k==23||k==31)) ?_;rw[Tryz.ntmps41];simp -dsimp[aH,dX,Pk.cs];refine ah.of h1 [] 0 ?_;by_cases c0:cZ g=0
 case neg=>
  rw[if_pos (.inl c0)]at hw
  simp -dsimp[c0];and_intros;all_goals try first|rfl|omega|exact⟨by kernel_rfl⟩
  refine Fin.box (.o 8) rfl ?_;simp -dsimp;refine Fin.of ?_;simp[hw,qG,gX]
 simp -dsimp[c0];and_intros;all_goals try first|rfl|omega|exact⟨by kernel_rfl⟩
 refine ah.of h2 [] 0 ?_;by_cases c1:nR l=0
 case neg=>
  rw[if_pos (.inr (.inl c1))]at hw
  simp -dsimp[c1];and_intros;all_goals try first|rfl|omega|exact⟨by kernel_rfl⟩
  refine Fin.box (.o 8) rfl ?_;simp -dsimp;refine Fin.of ?_;simp[hw,qG,gX]
 simp -dsimp[c1,Pk.cs];and_intros;all_goals try first|rfl|omega|exact⟨by kernel_rfl⟩
 refine ah.of h3 [] 0 ?_;rcases (Bool.eq_false_or_eq_true p.ok).symm with c2|c2
 ·rw[if_pos (.inr (.inr c2))]at hw
  simp -dsimp[c2];and_intros;all_goals try first|rfl|omega|exact⟨by kernel_rfl⟩
  refine Fin.box (.o 8) rfl ?_;simp -dsimp;refine Fin.of ?_;simp[hw,qG,gX]
 rw[if_neg (by simp[c0,c1,c2])]at hw
 have h4:=ahF g hs c0 l hl p r;have h5:=ahS g hs l hl p c2 r;simp only[aH,dX,Pk.cs,List.map]at h4 h5;generalize EC g l p r=sv at h4 hw;generalize runT g l r p=tr at h5 hw;simp only[qG]at h5;simp -dsimp[c2,Pk.cs];and_intros;all_goals try first|rfl|omega|exact⟨by kernel_rfl⟩
 refine ah.of h4 [] 0 ?_;by_cases c3:sv=0
 case neg=>
  rw[if_neg c3]at hw
  simp -dsimp[c3];and_intros;all_goals try first|rfl|omega|exact⟨by kernel_rfl⟩
  refine Fin.box (.o 8) rfl ?_;simp -dsimp;refine Fin.of ?_;simp[hw,qG,gX]
 rw[if_pos c3]at hw
 simp -dsimp[c3,Pk.cs];and_intros;all_goals try first|rfl|omega|exact⟨by kernel_rfl⟩
 refine ah.of h5 [.o 4,.o 5] 0 ?_;simp -dsimp;and_intros;all_goals try first|rfl|omega|exact⟨by kernel_rfl⟩
 refine Fin.of ?_;simp[hw,qG]
theorem uP(T:Tp)(hT:ak T)(rs:List Rt)(ls:List Lk)(hr:1≤rs.length∧rs.length≤1000):Contract Tryz.prog 19 [.ptr (.x 0) 0,.agg [.d (.sl (rts rs)),.d (.sl (dO ls))],.d (.int .i64 0)] [aJ T] (.d (.int .i64 (rs.getD (au T rs.length).1.toNat ⟨0,false⟩).id)) [aJ (au T rs.length).2] []:=by
 have hr0 :¬rs.length=0:=by omega
 have hrn :¬rs = []:=fun h=>by simp[h]at hr0
 refine aj Tryz.func19 rfl (fun E0=>?_);refine cO.sound (g:=.mk) (ow:=[]) (kp:=(fun k=>k==0||k==1||k==2||k==4||k==6||k==19)) ?_;rw[Tryz.ntmps19];simp -dsimp[hrn];try refine⟨?_,⟨by kernel_rfl⟩⟩
 refine ah.of (bn T hT rs.length ⟨by omega,by omega⟩) [.x 0] 0 ?_;have m1:=aC T rs.length;have m2:=bg T (n:=rs.length) (by omega);generalize au T rs.length=q at m1 m2⊢;obtain⟨k,hk⟩:∃k:Nat,q.1=k:=⟨q.1.toNat,by omega⟩
 have hkl:k<rs.length:=by omega
 have hx:rs[k]? = some rs[k]:=List.getElem?_eq_getElem hkl;generalize rs[k]=x at hx;have hx':=fF hx;rw[hk];simp -dsimp[hx',Rt.cs];and_intros;all_goals try first|rfl|omega|exact⟨by kernel_rfl⟩
 refine Fin.of ?_;simp[hx]
@[simp]theorem aiZ(T:Tp):isObj (aJ T)=true:=rfl
theorem Dx(L:List Int)(h:∀x∈L,I64 x):ak (L.take 600,0):=⟨by simp;omega,fun x hx=>h x (List.mem_of_mem_take hx)⟩
structure ay.Fit(g:ay):Prop where
 r1:1≤g.rs.length
 r2:g.rs.length≤60
 l2:g.ls.length≤1001
theorem ay.Fit.sm{g:ay}(h:g.Fit):g.Sm:=⟨by have:=h.r2;omega,by have:=h.l2;omega⟩
def wkG:ay:=⟨[⟨1,true⟩,⟨2,false⟩,⟨3,true⟩],[⟨1,2,1,1,0⟩,⟨2,3,1,1,0⟩]⟩
def wkP:Pn:=⟨0,8,[⟨3,1⟩]⟩
def wkL:List Tb:=tabs wkG wkP wkG.rs
def wkQ:Pk:=⟨1,0,0,8,5,0,0,0,1#64,⟨#[]⟩⟩
def wkT:dQ:=⟨[(3,⟨1,0,0,8,4,0,0,0,1#64,⟨#[]⟩⟩)],[(1,2,1#64),(2,3,1#64)],[]⟩
theorem ags:d_ wkP=true:=AL (by decide) (by decide) (fun i j hj hi=>by
 have hi:i<1:=hi;omega)
theorem agr:cZ wkG=0:=by decide+kernel
theorem ajI:mZ wkG wkL wkQ 1=(wkT,0):=by kernel_rfl
theorem agt:route wkG 1 3 = [2,3]:=by decide+kernel
theorem mg:Contract Tryz.prog 27 [] [] (.d (.bool true)) [] []:=by
 have hS:DL wkL:=⟨by decide+kernel,fun b hb=>Bc (m_ agr ags b hb)⟩
 have hG:wkG.Sm:=⟨by simp[wkG],by simp[wkG]⟩
 have hr:=Lc wkG hG wkL hS wkQ 1;rw[ajI]at hr
 have hro:=AZ wkG hG 1 3;rw[agt]at hro
 have ha:=FY wkG hG wkP (by simp[wkP]);rw[EG agr ags]at ha
 change Contract _ _ _ _ (allT wkL 0) _ _ at ha
 simp only[allT,aH,bI]at ha;rw[show List.map Tb.cs wkL=oq wkL from rfl]at ha
 have hi:=yU [2,3] [2,3] (by simp);simp only[dX,wkQ,Pk.cs,List.map,qG,wkT,lT,lJ,qO,bv,ints,aH]at hr hro hi;simp only[show tn 1#64=1 from rfl]at hr hro;generalize wkL=L at ha hr;simp only[wkG,wkP,rts,dO,rJ,List.map,Rt.cs,Lk.cs,Ed.cs]at ha hr hro;refine aj Tryz.func27 rfl (fun E0=>?_);refine cO.sound (g:=.mk) (ow:=[]) (kp:=(fun k=>k==0||k==1||k==2||k==4||k==5)) ?_
 rw[Tryz.ntmps27];simp -dsimp;and_intros;all_goals try first|rfl|omega|exact⟨by kernel_rfl⟩
 refine ah.of ha [] 0 ?_;simp -dsimp;and_intros;all_goals try first|rfl|omega|exact⟨by kernel_rfl⟩
 refine ah.of hr [] 0 ?_;simp -dsimp;and_intros;all_goals try first|rfl|omega|exact⟨by kernel_rfl⟩
 refine ah.of hro [] 0 ?_;simp -dsimp;and_intros;all_goals try first|rfl|omega|exact⟨by kernel_rfl⟩
 refine ah.of hi [] 0 ?_;simp -dsimp;and_intros;all_goals try first|rfl|omega|exact⟨by kernel_rfl⟩
 refine Fin.of ?_;simp
end Go.Proofs

namespace Go.Proofs.YtboimfkommpglaaGreatDoor
open Go Go.Tr
set_option maxRecDepth 100000
def qZ : List (String × DataW Unit) := [("math/bits.deBruijn64tab", Rows.laid_math_bits_deBruijn64tab)]
theorem aoX : Tryz.prog.globalNamed "math/bits.deBruijn64tab" = some 0 := by kernel_rfl
theorem apX:(Tryz.prog.globals[0]?).map (·.type)=some 280:=by kernel_rfl
theorem apY:Tryz.prog.underlying 280=some (.array 64 5):=by kernel_rfl
theorem ale:Tryz.prog.underlying 5=some (.int .u8):=by kernel_rfl
theorem aj_:Tryz.prog.cellsOf 5=1:=by kernel_rfl
theorem agL{H:Type}:(Rows.laid_math_bits_deBruijn64tab:DataW H) = .agg (deb.map fun n=>.lit (.int .u8 n)):=rfl
theorem uo{W:World}(h:laidMetH Tryz.prog qZ W):Hz W:=by
 rw[MakeChecks.laidMetH_plain _ _ _ (by kernel_rfl)]at h
 obtain⟨ps,⟨g0,t0,cs0,f0,p0,q0,hg0,ht0,hv0,hd0,_⟩,_,_⟩:=h;obtain rfl:=Option.some.inj (aoX.symm.trans hg0);obtain rfl:=Option.some.inj (apX.symm.trans ht0);obtain⟨xs,m1,rfl,hx1,hlen,hn,hel⟩:=DataW.trod_array apY hd0;simp only[Prod.mk.injEq,agL,DataW.agg.injEq]at hx1;have hcell:∀i:Nat,i<64→cs0[i]? = some (.int .u8 (deb.getD i 0)):=fun i hi=>by
  have h1:=hel i hi;rw[aj_,Nat.mul_one]at h1
  have h2:xs[i]? = some xs[i]:=List.getElem?_eq_getElem (by omega);rw[h2]at h1
  obtain⟨n,e1,e2,_⟩:=DataW.trod_int ale h1;have h3:(xs.map (·.1))[i]? = (deb.map fun n=>(DataW.lit (Lit.int .u8 n):DataW Unit))[i]? :=by rw[←hx1.1]
  rw[List.getElem?_map,h2,Option.map_some,e2,List.getElem?_map]at h3
  have h4:deb[i]? = some n:=by
   cases hd:deb[i]? with
   | none=>rw[hd]at h3;simp at h3
   | some k=>rw[hd]at h3;simp at h3;rw[h3]
  have h5:cs0.toList[i]? = some (.int .u8 n):=by
   have:=congrArg (fun l=>l[0]?) e1;simp only[List.getElem?_take,List.getElem?_drop]at this;simpa using this
  rw[List.getD_eq_getElem?_getD,h4,Option.getD_some];simpa using h5
 have hbl:0<W.heap.size:=by
  have:=World.var?_cell hg0 hv0 0;rw[hcell 0 (by omega)]at this
  exact World.block_lt_of_cell? W ⟨0,0,none⟩ this
 intro y hy;simp only[Yx,List.mem_singleton]at hy;subst hy;refine bQ.fZ fun i x hx=>?_
 simp only[List.getElem?_map,Option.map_eq_some_iff]at hx;obtain⟨n,h1,rfl⟩:=hx;have hi:i<64:=(List.getElem?_eq_some_iff.1 h1).1;refine⟨hbl,.int .u8 n,?_,by simp only[Rep]⟩;have:=World.var?_cell hg0 hv0 i;rw[hcell i hi,List.getD_eq_getElem?_getD,h1,Option.getD_some]at this
 rw[Nat.zero_add];exact this
end Go.Proofs.YtboimfkommpglaaGreatDoor

namespace Go.Proofs
open Go Go.Tr
end Go.Proofs

namespace Go.Proofs.YtboimfkommpglaaGreatDoor.cf
open Go
theorem bK{a b:Bool}(h:a=true)(k:b=true):(a&&b)=true:=by rw[h,k];rfl
theorem own:ownKnob Tryz.prog.godebug=none:=by kernel_rfl
theorem laidOut:laidOutB Tryz.prog=true:=by kernel_rfl
theorem rowed:mapsRowed Tryz.prog=true:=by kernel_rfl
theorem heard:Tryz.prog.stopsHeard=true:=by kernel_rfl
theorem may:Tryz.prog.mayEnter=true:=by kernel_rfl
theorem main : Tryz.prog.mainIs = some (true, "22e48be9cd61c4ef9d5f14216729acba0b833e18762d81acefabb4729de81b78".toList) := by kernel_rfl
theorem looks:false=Tryz.prog.looks []:=by kernel_rfl
end Go.Proofs.YtboimfkommpglaaGreatDoor.cf
