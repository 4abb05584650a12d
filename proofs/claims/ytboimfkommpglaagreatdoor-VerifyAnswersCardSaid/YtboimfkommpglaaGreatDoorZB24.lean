/-
  What functions of the program compute, stated as contracts over plain data; the conditions of each stand in its own statement.
-/
import Derived.Test.YtboimfkommpglaaGreatDoorZB23
import Derived.Shelf.SlGeneric
import Derived.Shelf.SlSortCmp.NoneTotal
import Derived.Shelf.SlicesG.Cmp
import Derived.Ground.SlsfProg
import Derived.Ground.SlgcProg
import Derived.Test.YtboimfkommpglaaGreatDoorChecked
import Derived.WalkKit
import Derived.StillTailTactics
import Derived.Deep.QuietTactic
import Derived.BigQuiet
import Derived.LoopN
import Derived.KernelRfl
import Derived.Test.YtboimfkommpglaaGreatDoorZB21
import Derived.Test.YtboimfkommpglaaGreatDoorZB22
set_option linter.unusedVariables false
set_option linter.unusedSimpArgs false
namespace Go.Proofs
open Go.Shelf
def Tryz.Yz:Go.Shelf.Ren:=⟨fun|6=>226|15=>249|14=>255|28=>268|29=>269|20=>271|21=>272|22=>273|23=>274|24=>275|25=>276|26=>277|27=>278|46=>293|47=>281|48=>282|49=>294|50=>295|57=>300|n=>n,fun|22=>255|24=>257|25=>259|3=>3|39=>193|0=>0|53=>290|55=>23|4=>4|46=>284|45=>283|50=>93|5=>5|9=>9|66=>302|70=>306|76=>315|77=>316|n=>n,fun|n=>n⟩
theorem Tryz.aii:Go.Proofs.SlLaysF0.n6 Tryz.prog Tryz.Yz:={
 mixed:=by kernel_rfl
 f6:=⟨Tryz.f226.name,by decide,Tryz.func226.trans (congrArg some (by kernel_rfl))⟩
 f14:=⟨Tryz.f255.name,by decide,Tryz.func255.trans (congrArg some (by kernel_rfl))⟩
 f15:=Tryz.func249.trans (congrArg some (by kernel_rfl))
 f20:=⟨Tryz.f271.name,by decide,Tryz.func271.trans (congrArg some (by kernel_rfl))⟩
 f21:=⟨Tryz.f272.name,by decide,Tryz.func272.trans (congrArg some (by kernel_rfl))⟩
 f22:=⟨Tryz.f273.name,by decide,Tryz.func273.trans (congrArg some (by kernel_rfl))⟩
 f23:=⟨Tryz.f274.name,by decide,Tryz.func274.trans (congrArg some (by kernel_rfl))⟩
 f24:=⟨Tryz.f275.name,by decide,Tryz.func275.trans (congrArg some (by kernel_rfl))⟩
 f25:=⟨Tryz.f276.name,by decide,Tryz.func276.trans (congrArg some (by kernel_rfl))⟩
 f26:=⟨Tryz.f277.name,by decide,Tryz.func277.trans (congrArg some (by kernel_rfl))⟩
 f27:=⟨Tryz.f278.name,by decide,Tryz.func278.trans (congrArg some (by kernel_rfl))⟩
 f28:=Tryz.func268.trans (congrArg some (by kernel_rfl))
 f29:=Tryz.func269.trans (congrArg some (by kernel_rfl))
 f46:=⟨Tryz.f293.name,by decide,Tryz.func293.trans (congrArg some (by kernel_rfl))⟩
 f47:=Tryz.func281.trans (congrArg some (by kernel_rfl))
 f48:=Tryz.func282.trans (congrArg some (by kernel_rfl))
 f49:=⟨Tryz.f294.name,by decide,Tryz.func294.trans (congrArg some (by kernel_rfl))⟩
 f50:=⟨Tryz.f295.name,by decide,Tryz.func295.trans (congrArg some (by kernel_rfl))⟩
 f57:=⟨Tryz.f300.name,by decide,Tryz.func300.trans (congrArg some (by kernel_rfl))⟩
 t0:=Tryz.underlying0
 a0:=Tryz.isAgg0
 z0:=Tryz.sizeOf0
 v0:=Tryz.zeroValue0
 t3:=Tryz.underlying3
 a3:=Tryz.isAgg3
 z3:=Tryz.sizeOf3
 v3:=Tryz.zeroValue3
 t4:=Tryz.underlying4
 a4:=Tryz.isAgg4
 z4:=Tryz.sizeOf4
 v4:=Tryz.zeroValue4
 t5:=Tryz.underlying5
 a5:=Tryz.isAgg5
 z5:=Tryz.sizeOf5
 v5:=Tryz.zeroValue5
 t9:=Tryz.underlying9
 a9:=Tryz.isAgg9
 z9:=Tryz.sizeOf9
 v9:=Tryz.zeroValue9
 t22:=Tryz.underlying255
 a22:=Tryz.isAgg255
 z22:=Tryz.sizeOf255
 v22:=Tryz.zeroValue255
 t25:=Tryz.underlying259
 a25:=Tryz.isAgg259
 z25:=Tryz.sizeOf259
 v25:=Tryz.zeroValue259
 t39:=Tryz.underlying193
 a39:=Tryz.isAgg193
 z39:=Tryz.sizeOf193
 v39:=Tryz.zeroValue193
 t45:=Tryz.underlying283
 a45:=Tryz.isAgg283
 z45:=Tryz.sizeOf283
 v45:=Tryz.zeroValue283
 t46:=Tryz.underlying284
 a46:=Tryz.isAgg284
 z46:=Tryz.sizeOf284
 v46:=Tryz.zeroValue284
 t50:=Tryz.underlying93
 a50:=Tryz.isAgg93
 z50:=Tryz.sizeOf93
 v50:=Tryz.zeroValue93
 t53:=Tryz.underlying290
 a53:=Tryz.isAgg290
 z53:=Tryz.sizeOf290
 v53:=Tryz.zeroValue290
 t55:=Tryz.underlying23
 a55:=Tryz.isAgg23
 z55:=Tryz.sizeOf23
 v55:=Tryz.zeroValue23
 t66:=Tryz.underlying302
 a66:=Tryz.isAgg302
 z66:=Tryz.sizeOf302
 v66:=Tryz.zeroValue302
 t70:=Tryz.underlying306
 a70:=Tryz.isAgg306
 z70:=Tryz.sizeOf306
 v70:=Tryz.zeroValue306
 t76:=Tryz.underlying315
 a76:=Tryz.isAgg315
 z76:=Tryz.sizeOf315
 v76:=Tryz.zeroValue315
 t77:=Tryz.underlying316
 a77:=Tryz.isAgg316
 z77:=Tryz.sizeOf316
 v77:=Tryz.zeroValue316}
def Tryz.aaC:Go.Shelf.Ren:=⟨fun|6=>252|15=>249|14=>270|28=>268|29=>269|20=>285|21=>286|22=>287|23=>288|24=>289|25=>290|26=>291|27=>292|46=>297|47=>281|48=>282|49=>298|50=>299|57=>301|n=>n,fun|22=>118|24=>120|25=>276|3=>3|39=>193|0=>0|53=>290|55=>23|4=>4|46=>284|45=>283|50=>93|5=>5|9=>9|66=>302|70=>306|76=>315|77=>316|n=>n,fun|n=>n⟩
theorem Tryz.ajR:Go.Proofs.SlLaysF0.n6 Tryz.prog Tryz.aaC:={
 mixed:=by kernel_rfl
 f6:=⟨Tryz.f252.name,by decide,Tryz.func252.trans (congrArg some (by kernel_rfl))⟩
 f14:=⟨Tryz.f270.name,by decide,Tryz.func270.trans (congrArg some (by kernel_rfl))⟩
 f15:=Tryz.func249.trans (congrArg some (by kernel_rfl))
 f20:=⟨Tryz.f285.name,by decide,Tryz.func285.trans (congrArg some (by kernel_rfl))⟩
 f21:=⟨Tryz.f286.name,by decide,Tryz.func286.trans (congrArg some (by kernel_rfl))⟩
 f22:=⟨Tryz.f287.name,by decide,Tryz.func287.trans (congrArg some (by kernel_rfl))⟩
 f23:=⟨Tryz.f288.name,by decide,Tryz.func288.trans (congrArg some (by kernel_rfl))⟩
 f24:=⟨Tryz.f289.name,by decide,Tryz.func289.trans (congrArg some (by kernel_rfl))⟩
 f25:=⟨Tryz.f290.name,by decide,Tryz.func290.trans (congrArg some (by kernel_rfl))⟩
 f26:=⟨Tryz.f291.name,by decide,Tryz.func291.trans (congrArg some (by kernel_rfl))⟩
 f27:=⟨Tryz.f292.name,by decide,Tryz.func292.trans (congrArg some (by kernel_rfl))⟩
 f28:=Tryz.func268.trans (congrArg some (by kernel_rfl))
 f29:=Tryz.func269.trans (congrArg some (by kernel_rfl))
 f46:=⟨Tryz.f297.name,by decide,Tryz.func297.trans (congrArg some (by kernel_rfl))⟩
 f47:=Tryz.func281.trans (congrArg some (by kernel_rfl))
 f48:=Tryz.func282.trans (congrArg some (by kernel_rfl))
 f49:=⟨Tryz.f298.name,by decide,Tryz.func298.trans (congrArg some (by kernel_rfl))⟩
 f50:=⟨Tryz.f299.name,by decide,Tryz.func299.trans (congrArg some (by kernel_rfl))⟩
 f57:=⟨Tryz.f301.name,by decide,Tryz.func301.trans (congrArg some (by kernel_rfl))⟩
 t0:=Tryz.underlying0
 a0:=Tryz.isAgg0
 z0:=Tryz.sizeOf0
 v0:=Tryz.zeroValue0
 t3:=Tryz.underlying3
 a3:=Tryz.isAgg3
 z3:=Tryz.sizeOf3
 v3:=Tryz.zeroValue3
 t4:=Tryz.underlying4
 a4:=Tryz.isAgg4
 z4:=Tryz.sizeOf4
 v4:=Tryz.zeroValue4
 t5:=Tryz.underlying5
 a5:=Tryz.isAgg5
 z5:=Tryz.sizeOf5
 v5:=Tryz.zeroValue5
 t9:=Tryz.underlying9
 a9:=Tryz.isAgg9
 z9:=Tryz.sizeOf9
 v9:=Tryz.zeroValue9
 t22:=Tryz.underlying118
 a22:=Tryz.isAgg118
 z22:=Tryz.sizeOf118
 v22:=Tryz.zeroValue118
 t25:=Tryz.underlying276
 a25:=Tryz.isAgg276
 z25:=Tryz.sizeOf276
 v25:=Tryz.zeroValue276
 t39:=Tryz.underlying193
 a39:=Tryz.isAgg193
 z39:=Tryz.sizeOf193
 v39:=Tryz.zeroValue193
 t45:=Tryz.underlying283
 a45:=Tryz.isAgg283
 z45:=Tryz.sizeOf283
 v45:=Tryz.zeroValue283
 t46:=Tryz.underlying284
 a46:=Tryz.isAgg284
 z46:=Tryz.sizeOf284
 v46:=Tryz.zeroValue284
 t50:=Tryz.underlying93
 a50:=Tryz.isAgg93
 z50:=Tryz.sizeOf93
 v50:=Tryz.zeroValue93
 t53:=Tryz.underlying290
 a53:=Tryz.isAgg290
 z53:=Tryz.sizeOf290
 v53:=Tryz.zeroValue290
 t55:=Tryz.underlying23
 a55:=Tryz.isAgg23
 z55:=Tryz.sizeOf23
 v55:=Tryz.zeroValue23
 t66:=Tryz.underlying302
 a66:=Tryz.isAgg302
 z66:=Tryz.sizeOf302
 v66:=Tryz.zeroValue302
 t70:=Tryz.underlying306
 a70:=Tryz.isAgg306
 z70:=Tryz.sizeOf306
 v70:=Tryz.zeroValue306
 t76:=Tryz.underlying315
 a76:=Tryz.isAgg315
 z76:=Tryz.sizeOf315
 v76:=Tryz.zeroValue315
 t77:=Tryz.underlying316
 a77:=Tryz.isAgg316
 z77:=Tryz.sizeOf316
 v77:=Tryz.zeroValue316}
def Tryz.aa5:Go.Shelf.Ren:=⟨fun|5=>223|7=>254|n=>n,fun|22=>3|3=>3|4=>4|n=>n,fun|n=>n⟩
theorem Tryz.cmpInt:Go.Proofs.SlLaysC2.n5 Tryz.prog Tryz.aa5:={
 mixed:=by kernel_rfl
 f5:=⟨Tryz.f223.name,by decide,Tryz.func223.trans (congrArg some (by kernel_rfl))⟩
 f7:=⟨Tryz.f254.name,by decide,Tryz.func254.trans (congrArg some (by kernel_rfl))⟩
 t3:=Tryz.underlying3
 a3:=Tryz.isAgg3
 z3:=Tryz.sizeOf3
 v3:=Tryz.zeroValue3
 t4:=Tryz.underlying4
 a4:=Tryz.isAgg4
 z4:=Tryz.sizeOf4
 v4:=Tryz.zeroValue4
 t22:=Tryz.underlying3
 a22:=Tryz.isAgg3
 z22:=Tryz.sizeOf3
 v22:=Tryz.zeroValue3}
end Go.Proofs

set_option linter.unusedSimpArgs false
set_option linter.unusedVariables false
set_option maxRecDepth 100000
set_option maxHeartbeats 2000000
namespace Go.Proofs
open Go.Shelf Go.RowKit Go.Lib Go.Sort
theorem ajM(x y:List Int)(W:World)(hx:x.length=4)(hy:y.length=4):Calls Tryz.prog 253 #[.agg (x.map (Value.int .i64)).toArray,.agg (y.map (Value.int .i64)).toArray] W fun e w'=>e = .returned (.int .i64 (Lib.compareInt (x.getD 2 0) (y.getD 2 0)))∧∃q os',w'=Go.Sort.grow (W.drewN q) os':=by
 obtain⟨x0,x1,x2,x3,rfl⟩:∃a b c d,x = [a,b,c,d]:=by
  match x,hx with
  | [a,b,c,d],_=>exact⟨a,b,c,d,rfl⟩
 obtain⟨y0,y1,y2,y3,rfl⟩:∃a b c d,y = [a,b,c,d]:=by
  match y,hy with
  | [a,b,c,d],_=>exact⟨a,b,c,d,rfl⟩
 have hcon:=fun W'=>AnyG.cmp_Compare_int Tryz.cmpInt x2 y2 W'
 change ∀W',Calls Tryz.prog 223 _ _ _ at hcon
 change Calls Tryz.prog 253 #[.agg #[.int .i64 x0,.int .i64 x1,.int .i64 x2,.int .i64 x3],.agg #[.int .i64 y0,.int .i64 y1,.int .i64 y2,.int .i64 y3]] W fun e w'=>e = .returned (.int .i64 (Lib.compareInt x2 y2))∧∃q os',w'=Go.Sort.grow (W.drewN q) os'
 generalize Lib.compareInt x2 y2=r at hcon⊢
 go_enter Tryz.func253,Tryz.ntmps253
 go_wp2_with (go_at_call 223;refine(hcon _).mono ?_;rintro e w' ⟨rfl,rfl⟩)
 go_ret
 exact⟨rfl,0,_,by rw[alloc_eq_grow,alloc_eq_grow,grow_grow];rfl⟩
theorem alO(x y:List Int)(W:World)(hx:x.length=2)(hy:y.length=2):Calls Tryz.prog 227 #[.agg (x.map (Value.int .i64)).toArray,.agg (y.map (Value.int .i64)).toArray] W fun e w'=>e = .returned (.int .i64 (Lib.compareInt (x.getD 0 0) (y.getD 0 0)))∧∃q os',w'=Go.Sort.grow (W.drewN q) os':=by
 obtain⟨x0,x1,rfl⟩:∃a b,x = [a,b]:=by
  match x,hx with
  | [a,b],_=>exact⟨a,b,rfl⟩
 obtain⟨y0,y1,rfl⟩:∃a b,y = [a,b]:=by
  match y,hy with
  | [a,b],_=>exact⟨a,b,rfl⟩
 have hcon:=fun W'=>AnyG.cmp_Compare_int Tryz.cmpInt x0 y0 W'
 change ∀W',Calls Tryz.prog 223 _ _ _ at hcon
 change Calls Tryz.prog 227 #[.agg #[.int .i64 x0,.int .i64 x1],.agg #[.int .i64 y0,.int .i64 y1]] W fun e w'=>e = .returned (.int .i64 (Lib.compareInt x0 y0))∧∃q os',w'=Go.Sort.grow (W.drewN q) os'
 generalize Lib.compareInt x0 y0=r at hcon⊢
 go_enter Tryz.func227,Tryz.ntmps227
 go_wp2_with (go_at_call 223;refine(hcon _).mono ?_;rintro e w' ⟨rfl,rfl⟩)
 go_ret
 exact⟨rfl,0,_,by rw[alloc_eq_grow,alloc_eq_grow,grow_grow];rfl⟩
end Go.Proofs

namespace Go.Proofs
open Go Go.Tr Go.Shelf
def cfS(x y:List Int):Int:=Lib.compareInt (x.getD 0 0) (y.getD 0 0)
theorem acv:O7 Tryz.prog 226 227 2 (NM cfS) (fun zs=>zs.mergeSort fun x y=>!decide (cfS y x<0)):=
 O7.of Tryz.aii (by omega) (fun w=>by kernel_rfl) (fun w=>by kernel_rfl) cfS 227 (enters_of Tryz.func227 (by kernel_rfl) rfl) (fun x y W hx hy=>alO x y W hx hy)
theorem acQ(x y:Int):Lib.compareInt x y<0↔x<y:=by unfold Lib.compareInt;split<;>(try split)<;>omega
theorem DI(x y:List Int):cfS x y<0↔x.getD 0 0<y.getD 0 0:=acQ _ _
theorem afn{zs:List (List Int)}(h:zs.Pairwise fun x y=>x.getD 0 0<y.getD 0 0):NM cfS zs:=
 ⟨fun x _=>by rw[DI];omega,fun x _ y _ z _=>by rw[DI,DI,DI];omega,fun x _ y _ z _=>by rw[DI,DI,DI];omega,
  fun x hx y hy=>by
   rw[DI,DI];intro h1 h2;have e:x.getD 0 0=y.getD 0 0:=by omega
   obtain⟨i,hi,rfl⟩:=cu.1 hx;obtain⟨j,hj,rfl⟩:=cu.1 hy;have hp:=bT.1 h;rcases h_ i j with g|g|g
   ·have:=hp i j hi hj g;omega
   ·subst g;rfl
   ·have:=hp j i hj hi g;omega⟩
theorem aij{zs:List (List Int)}(h:zs.Pairwise fun x y=>x.getD 0 0<y.getD 0 0):(zs.mergeSort fun x y=>!decide (cfS y x<0))=zs:=by refine List.mergeSort_of_pairwise (h.imp fun {x y} hxy=>?_);rw[nZ,decide_eq_false_iff_not,DI];omega
def cfA(x y:List Int):Int:=Lib.compareInt (x.getD 2 0) (y.getD 2 0)
theorem afH:O7 Tryz.prog 252 253 4 (NM cfA) (fun zs=>zs.mergeSort fun x y=>!decide (cfA y x<0)):=
 O7.of Tryz.ajR (by omega) (fun w=>by kernel_rfl) (fun w=>by kernel_rfl) cfA 253 (enters_of Tryz.func253 (by kernel_rfl) rfl) (fun x y W hx hy=>ajM x y W hx hy)
theorem DF(x y:List Int):cfA x y<0↔x.getD 2 0<y.getD 2 0:=acQ _ _
theorem afm{zs:List (List Int)}(h:∀x∈zs,∀y∈zs,x.getD 2 0=y.getD 2 0→x=y):NM cfA zs:=
 ⟨fun x _=>by rw[DF];omega,fun x _ y _ z _=>by rw[DF,DF,DF];omega,fun x _ y _ z _=>by rw[DF,DF,DF];omega,
  fun x hx y hy=>by
   rw[DF,DF];intro h1 h2;exact h x hx y hy (by omega)⟩
end Go.Proofs

set_option maxHeartbeats 4000000
namespace Go.Proofs
open Go Go.Tr
def SQ(p:Pk)(kd rt tl:Int)(L:List Nat):List (List Int):=(L.takeWhile fun k:Nat=>Au p.set k p.len).map fun k=>[kd,rt,lT p k,tl]
theorem aj_(p:Pk)(zs:List (List Int))(hz:zs.length≤1000000)(kd rt tl:Int)(B:BitVec 64):
  wz Tryz.prog 251 [.d (.int .i64 kd),.d (.int .i64 rt),.d (.int .i64 tl),.d (bv B),.ptr (.x 0) 0,.ptr (.x 1) 0] [.box (p.cs.map .d),.box [.bK 900 zs.length]] [(900,.row 120 4 (dd (oW zs)) false)]
   (.d (.bool ((jg B).all fun k:Nat=>Au p.set k p.len))) [.box (p.cs.map .d),.box [.bK 900 (zs++SQ p kd rt tl (jg B)).length]] [(900,.row 120 4 (dd (oW (zs++SQ p kd rt tl (jg B)))) false)]:=by
 have hBl:=zF B;refine y5 Tryz.func251 rfl (fun E0=>?_);refine iK.sound (g:=.mk) (ow:=[]) (kp:=(kb 0x40005c3f)) ?_;rw[Tryz.ntmps251];simp -dsimp[bv,Pk.cs]
 refine bY.of [] (kb 0x40005c3f) (ι:={z:BitVec 64×List (List Int) // zs++SQ p kd rt tl (jg B)=z.2++SQ p kd rt tl (jg z.1)∧(jg B).all (fun k:Nat=>Au p.set k p.len)=(jg z.1).all (fun k:Nat=>Au p.set k p.len)∧z.2.length+(jg z.1).length≤zs.length+(jg B).length})
  (fun z=>[(.s 0,It.v (.d (.int .i64 kd))),(.s 1,It.v (.d (.int .i64 rt))),(.s 2,It.v (.d (.int .i64 tl))),(.s 3,It.v (.d (.int IntKind.u64 (tn z.1.1)))),(.s 4,It.v (.ptr (.x 0) 0)),(.s 5,It.v (.ptr (.x 1) 0)),(.x 0,It.box (p.cs.map .d)),(.x 1,It.box [TV.bK 900 z.1.2.length]),(.o 900,It.row 120 4 (dd (oW z.1.2)) false),(.s 10,It.v (.d (.bool false)))])
  (fun z=>(jg z.1.1).length) ⟨(B,zs),rfl,rfl,aI _⟩ ?_ ?_
 ·exact GS.to (by simp[Pk.cs,bv])
 rintro⟨⟨R,ys⟩,h1,h2,h3⟩;simp only at h1 h2 h3;by_cases h0:R=0#64
 ·subst h0;have e1:zs++SQ p kd rt tl (jg B)=ys:=by rw[h1];simp[Jz,SQ]
  have e2:((jg B).all fun k:Nat=>Au p.set k p.len)=true:=by rw[h2];simp[Jz]
  simp -dsimp;and_intros;all_goals try first|omega|exact⟨by kernel_rfl⟩|rfl
  refine Fin.of ?_;have e3:=congrArg List.length e1;simp only[aS]at e3;simp only[e1,e2];simp[Pk.cs,e3]
 ·have hs:=Jy h0;have ht:=(zx h0).1;have hf:=aiz R;simp only[bv]at hf;have ha:=akb p.set (tz R) p.len;rw[hs]at h1 h2 h3
  simp only[aT]at h3;simp -dsimp[h0,Pk.cs];and_intros;all_goals try first|omega|exact⟨by kernel_rfl⟩|rfl
  refine aF.of hf [] 0 ?_;simp -dsimp[h0,Pk.cs];and_intros;all_goals try first|omega|exact⟨by kernel_rfl⟩|rfl
  refine aF.of ha [] 0 ?_;rcases (au (Au p.set (tz R) p.len)).symm with hat|hat
  ·have e1:zs++SQ p kd rt tl (jg B)=ys:=by rw[h1];simp[SQ,hat]
   have e2:((jg B).all fun k:Nat=>Au p.set k p.len)=false:=by rw[h2];simp[hat]
   simp -dsimp[h0,hat,Gx,Pk.cs];and_intros;all_goals try first|omega|exact⟨by kernel_rfl⟩|rfl
   refine Fin.of ?_;have e3:=congrArg List.length e1;simp only[aS]at e3;simp only[e1,e2];simp[Pk.cs,e3]
  ·have hid:lT p (tz R)=p.set*p.len+(tz R:Int)+1:=by unfold lT;rw[if_pos hat]
   simp -dsimp[h0,hat,Gx,Pk.cs];and_intros;all_goals try first|omega|exact⟨by kernel_rfl⟩|rfl|(simp[oW];omega)
   refine⟨⟨(R&&&wu (tn R-1),ys++[[kd,rt,lT p (tz R),tl]]),?_,?_,?_⟩,GS.to (by simp[oW,QO,Pk.cs,hid]),by simp[hs]⟩
   ·rw[h1];simp[SQ,hat]
   ·rw[h2];simp[hat]
   ·simp;omega
variable {l:List Tb} {p:Pk} {r:Int}
theorem aiV(hF:uU l p):(GI p (lK l (wt p) [(r,p)] o_)).length≤64:=by
 have h:=congrArg List.length (acU p (lK l (wt p) [(r,p)] o_));rw[aN,aN]at h
 rw[h];have hn:=JB _ fun k hk=>by rw[Qq (r:=r) hF k hk];grind
 generalize ((lK l (wt p) [(r,p)] o_).dl.map (fun d=>d.2.bits)++(lK l (wt p) [(r,p)] o_).ls.map (fun x=>x.2))=L at hn;have hn2:((L.flatMap jg).map fun k:Nat=>(k:Int)).Nodup:=by grind
 have:=MF (m:=(List.range 64).map fun k:Nat=>(k:Int)) hn2 fun k hk=>by obtain⟨j,hj,rfl⟩:=ay.1 hk;obtain⟨B,_,hB⟩:=fG.1 hj;exact ay.2 ⟨j,bD.2 (nP.1 hB).1,rfl⟩
 simp_all
theorem akB(hF:uU l p):yF p=true↔(∀d∈(lK l (wt p) [(r,p)] o_).dl,(jg d.2.bits).all (fun k=>Au p.set k p.len)=true)∧∀x∈(lK l (wt p) [(r,p)] o_).ls,(jg x.2).all (fun k=>Au p.set k p.len)=true:=by
 have hb:=Rh (r:=r) hF;constructor
 ·intro h;have hk:∀k,k∈jg p.bits→Au p.set k p.len=true:=fun k hk=>dN.1 h k hk
  grind
 ·rintro⟨h1,h2⟩;refine dN.2 fun k hk=>?_
  grind
theorem YU(hF:uU l p)(hs:(iq l r).isSome)(hA:yF p=true):(GI p (lK l (wt p) [(r,p)] o_)).mergeSort (fun x y=>!decide (cfA y x<0))=KH l p r:=by
 have:=aa6 hF hs hA
 trivial
end Go.Proofs

namespace Go.Proofs
open Go Go.Tr
def Good(l:List Tb):Prop:=UY l∨(afX l∧tK l≠0)
theorem Good.big{l:List Tb}(h:Good l):afX l:=h.elim UY.big And.left
theorem Good.sm{l:List Tb}(h:Good l)(hA:tK l=0):UY l:=h.elim id fun g=>absurd hA g.2
theorem anU(l:List Tb)(hl:Good l)(p:Pk)(r:Int):Contract Tryz.prog 250 [.d (.sl (ig l)),mM p,.d (.int .i64 r)] [] (.sZ [C9 (oh l p r).1,.d (.int .i64 (oh l p r).2)]) [] []:=by
 rcases hl with hl|⟨hb,hA⟩
 ·exact anT l hl p r
 have hck:=IJ l hb;have hR:oh l p r=(o_,1):=by unfold oh;rw[if_pos (.inl hA)]
 rw[hR];refine aC Tryz.func250 rfl (fun E0=>?_);refine iK.sound (g:=.mk) (ow:=[60]) (kp:=(kb 0x1e00200000002000800008440404ffd7)) ?_;rw[Tryz.ntmps250];simp -dsimp[mM,Pk.cs];try refine⟨?_,⟨by kernel_rfl⟩⟩
 refine aF.of hck [] 0 ?_;simp -dsimp[hA];try refine⟨?_,⟨by kernel_rfl⟩⟩
 refine Fin.box (.o 6) rfl ?_;simp -dsimp;refine Fin.of ?_;simp[C9,o_]
set_option maxHeartbeats 8000000
def cD(p:Pk)(L:List (Int×Pk)):List (List Int):=L.flatMap fun d=>(jg d.2.bits).map fun k=>[1,d.1,lT p k,d.2.ttl]
def cS(p:Pk)(L:List (Int×BitVec 64)):List (List Int):=L.flatMap fun x=>(jg x.2).map fun k=>[2,x.1,lT p k,0]
theorem acT(p:Pk)(U:uN):GI p U=cD p U.dl++cS p U.ls:=rfl
theorem akx(p:Pk)(L:List (Int×Pk))(i:Nat):(cD p (L.take i)).length≤(cD p L).length:=by
 have h:(cD p L).length=(cD p (L.take i++L.drop i)).length:=by rw[lS]
 rw[h];simp only[cD,lG,aS];omega
theorem aky(p:Pk)(L:List (Int×BitVec 64))(i:Nat):(cS p (L.take i)).length≤(cS p L).length:=by
 have h:(cS p L).length=(cS p (L.take i++L.drop i)).length:=by rw[lS]
 rw[h];simp only[cS,lG,aS];omega
theorem Zu{p:Pk}{kd rt tl:Int}{L:List Nat}(h:L.all (fun k:Nat=>Au p.set k p.len)=true):SQ p kd rt tl L=L.map fun k=>[kd,rt,lT p k,tl]:=by
 unfold SQ
 congr 1
 induction L with
 | nil=>rfl
 | cons x L ih=>
   rw[List.all_cons,aP]at h
   rw[List.takeWhile_cons,if_pos h.1,ih h.2]
theorem alL(l:List Tb)(hl:Good l)(p:Pk)(r:Int):Contract Tryz.prog 218 [.d (.sl (ig l)),mM p,.d (.int .i64 r)] [] (.sZ [.d (.sl (oW (Iu l p r).1)),.d (.int .i64 (Iu l p r).2)]) [] []:=by
 have h1:=anU l hl p r;have hfit:=UA (l:=l) (p:=p) (r:=r);have hsm:=O5 l p r;have hS:Iu l p r=if(oh l p r).2≠0 then([],(oh l p r).2)else if p.mode≠3 then([],7)else if yF p=true then(KH l p r,0)else([],2):=rfl
 rw[hS];simp only[mM,Pk.cs,List.map,C9]at h1;refine aC Tryz.func218 rfl (fun E0=>?_);refine iK.sound (g:=.mk) (ow:=[1000252]) (kp:=(kb 0x403c80079100afd7)) ?_;rw[Tryz.ntmps218];simp -dsimp[mM,Pk.cs];try refine⟨?_,⟨by kernel_rfl⟩⟩
 refine aF.of h1 [] 0 ?_;by_cases he :¬(oh l p r).2=0
 ·rw[if_pos he];simp -dsimp[he];and_intros;all_goals try first|omega|exact⟨by kernel_rfl⟩|rfl
  refine Fin.view 6 ?_;simp -dsimp;and_intros;all_goals try first|omega|exact⟨by kernel_rfl⟩|rfl
  refine Fin.of ?_;simp[oW]
 have he:(oh l p r).2=0:=Decidable.not_not.1 he;rw[if_neg (fun h=>h he)];by_cases hm :¬p.mode=3
 ·rw[if_pos hm];simp -dsimp[he,hm];and_intros;all_goals try first|omega|exact⟨by kernel_rfl⟩|rfl
  refine Fin.view 6 ?_;simp -dsimp;and_intros;all_goals try first|omega|exact⟨by kernel_rfl⟩|rfl
  refine Fin.of ?_;simp[oW]
 have hm:p.mode=3:=Decidable.not_not.1 hm;rw[if_neg (fun h=>h hm)];obtain⟨hF,hs,hR⟩:=hfit he;rw[hR]at hsm⊢
 have hcl:=aiV (r:=r) hF;have hca:=akB (r:=r) hF;have hcs:=YU hF hs;have hcp:=aiW (r:=r) hF;simp -dsimp[he,hm,hR];and_intros;all_goals try first|omega|exact⟨by kernel_rfl⟩|rfl
 generalize lK l (wt p) [(r,p)] o_=U at hsm hcl hca hcs hcp;simp only at hsm;have hlA:(GI p U).length=(cD p U.dl).length+(cS p U.ls).length:=by rw[acT,aS]
 refine bY.of [1000252] (kb 0x403c80079100afd7) (ι:={i:Nat // i≤U.dl.length∧∀d∈U.dl.take i,(jg d.2.bits).all (fun k:Nat=>Au p.set k p.len)=true})
  (fun z=>[(.o 4,It.box (p.cs.map .d)),(.s 4,It.v (.ptr (.o 4) 0)),(.s 6,It.v (.c (Value.slice none 0 0))),(.s 7,It.v (.d (.int .i64 0))),(.o 8,It.box [TV.d (.sl (U.dl.map uH)),TV.d (.sl (U.cr.map yH)),TV.d (.sl (U.ls.map Bq))]),(.s 8,It.v (.ptr (.o 8) 0)),(.s 10,It.v (.ptr (.o 10) 0)),(.s 11,It.v (.clo 251 [TV.ptr (.o 4) 0,TV.ptr (.o 10) 0])),(.o 10,It.box [TV.bK 50 (cD p (U.dl.take z.1)).length]),(.o 50,It.row 120 4 (dd (oW (cD p (U.dl.take z.1)))) false),(.s 31,It.v (.d (.sl (U.dl.map uH)))),(.s 32,It.v (.d (.int .i64 U.dl.length))),(.s 33,It.v (.d (.int .i64 z.1)))])
  (fun z=>U.dl.length-z.1) ⟨0,by omega,by simp⟩ ?_ ?_
 ·exact GS.AV (.o 10) 0 50 (cs:=[TV.c (Value.slice none 0 0)]) 120 4 rfl (by simp) (by simp) (by simp) (by simp[cD,oW,Pk.cs,hm])
 rintro⟨i,i1,i2⟩;have hli:=akx p U.dl i;by_cases hi:i<U.dl.length
 ·have hiz:(i:Int)<U.dl.length:=by omega
  have hge:U.dl[i]? = some U.dl[i]:=ah hi;have hdm:U.dl[i]∈U.dl:=aB hi;generalize U.dl[i]=d at hge hdm;have hst:cD p (U.dl.take (i+1))=cD p (U.dl.take i)++(jg d.2.bits).map fun k=>[1,d.1,lT p k,d.2.ttl]:=by rw[cD,cD,aO,hge];simp
  have hA:=aj_ p (cD p (U.dl.take i)) (by omega) 1 d.1 d.2.ttl d.2.bits;simp only[bv,Pk.cs,List.map]at hA;rcases (au ((jg d.2.bits).all fun k:Nat=>Au p.set k p.len)).symm with hat|hat
  ·have hno :¬yF p=true:=fun h=>by have:=(hca.1 h).1 d hdm;rw[hat]at this;simp at this
   rw[if_neg hno];rw[hat]at hA
   simp -dsimp[hiz,hge,uH,Pk.cs,bv];and_intros;all_goals try first|omega|exact⟨by kernel_rfl⟩|rfl
   refine aF.of2 hA [.o 4,.o 10] [(900,50)] 1000 ?_;simp -dsimp;and_intros;all_goals try first|omega|exact⟨by kernel_rfl⟩|rfl
   refine Fin.view 6 ?_;simp -dsimp;and_intros;all_goals try first|omega|exact⟨by kernel_rfl⟩|rfl
   refine Fin.of ?_;simp[oW]
  ·rw[Zu hat,←hst]at hA
   rw[hat]at hA
   simp -dsimp[hiz,hge,uH,Pk.cs,bv];and_intros;all_goals try first|omega|exact⟨by kernel_rfl⟩|rfl
   refine aF.of2 hA [.o 4,.o 10] [(900,50)] 1000 ?_;simp -dsimp[wrap_i64 (n:=(i:Int)+1) (by omega) (by omega)];and_intros;all_goals try first|omega|exact⟨by kernel_rfl⟩|rfl
   refine⟨⟨i+1,by omega,fun e he=>?_⟩,(GS.to (l':=[(.o 4,It.box (p.cs.map .d)),(.s 4,It.v (.ptr (.o 4) 0)),(.s 6,It.v (.c (Value.slice none 0 0))),(.s 7,It.v (.d (.int .i64 0))),(.o 8,It.box [TV.d (.sl (U.dl.map uH)),TV.d (.sl (U.cr.map yH)),TV.d (.sl (U.ls.map Bq))]),(.s 8,It.v (.ptr (.o 8) 0)),(.s 10,It.v (.ptr (.o 10) 0)),(.s 11,It.v (.clo 251 [TV.ptr (.o 4) 0,TV.ptr (.o 10) 0])),(.o 10,It.box [TV.bK 1900 (cD p (U.dl.take (i+1))).length]),(.o 1900,It.row 120 4 (dd (oW (cD p (U.dl.take (i+1))))) false),(.s 31,It.v (.d (.sl (U.dl.map uH)))),(.s 32,It.v (.d (.int .i64 U.dl.length))),(.s 33,It.v (.d (.int .i64 ((i:Int)+1))))]) (by simp[Pk.cs,bv])).trans (GS.ren' 1900 50 (by omega) (by simp) (by simp[yC,Ia,Yk,H_,wQ,TV.ren,TV.vP,Yl,Pk.cs,bv])),by simp;omega⟩
   rw[aO,hge]at he
   rcases aJ.1 he with he|he
   ·exact i2 e he
   ·obtain rfl:e=d:=by simpa using he
    exact hat
 have hiz :¬(i:Int)<U.dl.length:=by omega
 obtain rfl:i=U.dl.length:=by omega
 rw[bP]at i2
 simp only[bP];simp -dsimp[hiz];and_intros;all_goals try first|omega|exact⟨by kernel_rfl⟩|rfl
 refine bY.of [1000252] (kb 0x403c80079100afd7) (ι:={i:Nat // i≤U.ls.length∧∀d∈U.ls.take i,(jg d.2).all (fun k:Nat=>Au p.set k p.len)=true})
  (fun z=>[(.o 4,It.box (p.cs.map .d)),(.s 4,It.v (.ptr (.o 4) 0)),(.s 6,It.v (.c (Value.slice none 0 0))),(.s 7,It.v (.d (.int .i64 0))),(.o 8,It.box [TV.d (.sl (U.dl.map uH)),TV.d (.sl (U.cr.map yH)),TV.d (.sl (U.ls.map Bq))]),(.s 8,It.v (.ptr (.o 8) 0)),(.s 10,It.v (.ptr (.o 10) 0)),(.s 11,It.v (.clo 251 [TV.ptr (.o 4) 0,TV.ptr (.o 10) 0])),(.o 10,It.box [TV.bK 50 (cD p U.dl++cS p (U.ls.take z.1)).length]),(.o 50,It.row 120 4 (dd (oW (cD p U.dl++cS p (U.ls.take z.1)))) false),(.s 50,It.v (.d (.sl (U.ls.map Bq)))),(.s 51,It.v (.d (.int .i64 U.ls.length))),(.s 52,It.v (.d (.int .i64 z.1)))])
  (fun z=>U.ls.length-z.1) ⟨0,by omega,by simp⟩ ?_ ?_
 ·exact GS.to (by simp[cS,Pk.cs])
 rintro⟨i,i1,i3⟩;have hli:=aky p U.ls i;by_cases hi:i<U.ls.length
 ·have hiz:(i:Int)<U.ls.length:=by omega
  have hge:U.ls[i]? = some U.ls[i]:=ah hi;have hdm:U.ls[i]∈U.ls:=aB hi;generalize U.ls[i]=d at hge hdm;have hst:(cD p U.dl++cS p (U.ls.take (i+1)))=(cD p U.dl++cS p (U.ls.take i))++(jg d.2).map fun k=>[2,d.1,lT p k,0]:=by rw[cS,cS,aO,hge];simp
  have hA:=aj_ p (cD p U.dl++cS p (U.ls.take i)) (by rw[aS];omega) 2 d.1 0 d.2;simp only[bv,Pk.cs,List.map]at hA;rcases (au ((jg d.2).all fun k:Nat=>Au p.set k p.len)).symm with hat|hat
  ·have hno :¬yF p=true:=fun h=>by have:=(hca.1 h).2 d hdm;rw[hat]at this;simp at this
   rw[if_neg hno];rw[hat]at hA
   simp -dsimp[hiz,hge,Bq,Pk.cs,bv];and_intros;all_goals try first|omega|exact⟨by kernel_rfl⟩|rfl
   refine aF.of2 hA [.o 4,.o 10] [(900,50)] 1000 ?_;simp -dsimp;and_intros;all_goals try first|omega|exact⟨by kernel_rfl⟩|rfl
   refine Fin.view 6 ?_;simp -dsimp;and_intros;all_goals try first|omega|exact⟨by kernel_rfl⟩|rfl
   refine Fin.of ?_;simp[oW]
  ·rw[Zu hat,←hst]at hA
   rw[hat]at hA
   simp -dsimp[hiz,hge,Bq,Pk.cs,bv];and_intros;all_goals try first|omega|exact⟨by kernel_rfl⟩|rfl
   refine aF.of2 hA [.o 4,.o 10] [(900,50)] 1000 ?_;simp -dsimp[wrap_i64 (n:=(i:Int)+1) (by omega) (by omega)];and_intros;all_goals try first|omega|exact⟨by kernel_rfl⟩|rfl
   refine⟨⟨i+1,by omega,fun e he=>?_⟩,(GS.to (l':=[(.o 4,It.box (p.cs.map .d)),(.s 4,It.v (.ptr (.o 4) 0)),(.s 6,It.v (.c (Value.slice none 0 0))),(.s 7,It.v (.d (.int .i64 0))),(.o 8,It.box [TV.d (.sl (U.dl.map uH)),TV.d (.sl (U.cr.map yH)),TV.d (.sl (U.ls.map Bq))]),(.s 8,It.v (.ptr (.o 8) 0)),(.s 10,It.v (.ptr (.o 10) 0)),(.s 11,It.v (.clo 251 [TV.ptr (.o 4) 0,TV.ptr (.o 10) 0])),(.o 10,It.box [TV.bK 1900 (cD p U.dl++cS p (U.ls.take (i+1))).length]),(.o 1900,It.row 120 4 (dd (oW (cD p U.dl++cS p (U.ls.take (i+1))))) false),(.s 50,It.v (.d (.sl (U.ls.map Bq)))),(.s 51,It.v (.d (.int .i64 U.ls.length))),(.s 52,It.v (.d (.int .i64 ((i:Int)+1))))]) (by simp[Pk.cs,bv])).trans (GS.ren' 1900 50 (by omega) (by simp) (by simp[yC,Ia,Yk,H_,wQ,TV.ren,TV.vP,Yl,Pk.cs,bv])),by simp;omega⟩
   rw[aO,hge]at he
   rcases aJ.1 he with he|he
   ·exact i3 e he
   ·obtain rfl:e=d:=by simpa using he
    exact hat
 have hiz :¬(i:Int)<U.ls.length:=by omega
 obtain rfl:i=U.ls.length:=by omega
 rw[bP]at i3
 simp only[bP];have hA:yF p=true:=hca.2 ⟨i2,i3⟩;rw[if_pos hA];have hpre:NM cfA (GI p U):=afm (hcp hA);have hS:=hcs hA;have hlS:(KH l p r).length=(GI p U).length:=by rw[←hS,gZ]
 have hcA:=acT p U;simp -dsimp[hiz];and_intros;all_goals try first|omega|exact⟨by kernel_rfl⟩|rfl
 rw[←hcA];refine aF.adM afH (GI p U) ?_;simp -dsimp[hpre,hS,←aS,←hcA];and_intros;all_goals try first|omega|exact⟨by kernel_rfl⟩|rfl
 refine Fin.view 6 ?_;simp -dsimp[hlS];and_intros;all_goals try first|omega|exact⟨by kernel_rfl⟩|rfl
 refine Fin.of ?_;simp
def JR(e:Bool×Int×Nat):Int:=if e.1=true then 1 else 2
def ltE(e:Bool×Int×Nat):Int:=if e.1=true then(e.2.2:Int)else 0
theorem KG(e:Bool×Int×Nat)(id:Int):U2 e id = [JR e,e.2.1,id,ltE e]:=by grind[U2,JR,ltE]
def qI(l:List Tb)(r id en ttl:Int):Int:=
 if tK l≠0 then 1 else match iq l r with
 | none=>4
 | some b=>if(dQ b.len&&inB id 1 256)=false∨31<sS id b.len∨en<0∨1023<en∨ttl<0∨63<ttl then 2 else 0
theorem akH(l:List Tb)(id pl:Int)(r:Int):(jM l id pl 0 r).2.1=r:=by grind[jM]
def MG(l:List Tb)(r id pl:Int):Int×Int:=
 if qI l r id pl 1≠0 then(0,qI l r id pl 1)else if pl<0∨8≤pl then(0,2)else
 if(jM l id (pl%8) 1 r).2.1=r∧JR (jM l id (pl%8) 1 r)≠1 then(0,0)else((jM l id (pl%8) 1 r).2.1,0)
theorem Z_{l:List Tb}{r id pl:Int}{b:Tb}(hf:iq l r=some b)(hr:r≠0)(h0:qI l r id pl 1=0)(hp:0≤pl∧pl≤7):MG l r id pl=(qc b id pl,0):=by
 unfold MG;have hm:pl%8=pl:=by omega
 rw[if_neg (by omega),if_neg (by omega),hm,jM,hf];simp only;by_cases h1:qc b id pl=0
 ·grind[JR]
 ·by_cases h2:qc b id pl=r
  ·grind[JR]
  ·rw[if_neg h1,if_neg h2,akH];simp[*]
def uX(b:Bool)(e:Bool×Int×Nat)(id:Int):TV:=if b then .agg [.d (.int .i64 (JR e)),.d (.int .i64 e.2.1),.d (.int .i64 id),.d (.int .i64 (ltE e))]else .agg [.d (.int .i64 0),.d (.int .i64 0),.d (.int .i64 0),.d (.int .i64 0)]
theorem aho(e:Bool×Int×Nat):JR e=1∨JR e=2:=by unfold JR;split<;>simp
theorem H9(l:List Tb)(hl:Good l)(r id en ttl:Int):Contract Tryz.prog 144 [.d (.sl (ig l)),.d (.int .i64 r),.d (.int .i64 id),.d (.int .i64 en),.d (.int .i64 ttl)] [] (.sZ [uX (decide (qI l r id en ttl=0)) (jM l id (en%8) ttl.toNat r) id,.d (.int .i64 (qI l r id en ttl))]) [] []:=by
 have hck:=IJ l hl.big;refine aC Tryz.func144 rfl (fun E0=>?_);refine iK.sound (g:=.mk) (ow:=[]) (kp:=(kb 0x400000200000004027fc1f)) ?_;rw[Tryz.ntmps144];simp -dsimp;and_intros;all_goals try first|omega|exact⟨by kernel_rfl⟩|rfl
 refine aF.of hck [] 0 ?_;by_cases hA :¬tK l=0
 ·have hB:qI l r id en ttl=1:=by unfold qI;rw[if_pos hA]
  rw[hB];simp -dsimp[hA];and_intros;all_goals try first|omega|exact⟨by kernel_rfl⟩|rfl
  refine Fin.of ?_;simp[uX]
 have hA:tK l=0:=Decidable.not_not.1 hA;have hf:=abt l (hl.sm hA) r;cases Zw:iq l r with
 | none=>
   have hB:qI l r id en ttl=4:=by unfold qI;rw[if_neg (by simp[hA]),Zw]
   rw[hB];rw[Zw]at hf
   simp only[rY,jf,jK,gQ,tb0]at hf;simp -dsimp[hA];and_intros;all_goals try first|omega|exact⟨by kernel_rfl⟩|rfl
   refine aF.of hf [] 0 ?_;simp -dsimp;and_intros;all_goals try first|omega|exact⟨by kernel_rfl⟩|rfl
   refine Fin.of ?_;simp[uX]
 | some b=>
   rw[Zw]at hf
   simp only[rY,bf,kU,gQ]at hf;have hpl:=Ui id b.len;simp only[AA]at hpl;have hB:qI l r id en ttl=if(dQ b.len&&inB id 1 256)=false∨31<sS id b.len∨en<0∨1023<en∨ttl<0∨63<ttl then 2 else 0:=by unfold qI;rw[if_neg (by simp[hA]),Zw]
   simp -dsimp[hA];and_intros;all_goals try first|omega|exact⟨by kernel_rfl⟩|rfl
   refine aF.of hf [] 0 ?_;simp -dsimp;and_intros;all_goals try first|omega|exact⟨by kernel_rfl⟩|rfl
   refine aF.of hpl [] 0 ?_;rcases (au (dQ b.len&&inB id 1 256)).symm with hv|hv
   ·rw[if_pos (by simp[hv])]at hB
    rw[hB];simp -dsimp[hv];and_intros;all_goals try first|omega|exact⟨by kernel_rfl⟩|rfl
    refine Fin.of ?_;simp[uX]
   ·by_cases hs:31<sS id b.len
    ·rw[if_pos (by simp[hv,hs])]at hB
     rw[hB];simp -dsimp[hv,hs];and_intros;all_goals try first|omega|exact⟨by kernel_rfl⟩|rfl
     refine Fin.of ?_;simp[uX]
    by_cases he0:en<0
    ·rw[if_pos (by simp[hv,hs,he0])]at hB
     rw[hB];simp -dsimp[hv,hs,he0];and_intros;all_goals try first|omega|exact⟨by kernel_rfl⟩|rfl
     refine Fin.of ?_;simp[uX]
    by_cases he1:1023<en
    ·rw[if_pos (by simp[hv,hs,he0,he1])]at hB
     rw[hB];simp -dsimp[hv,hs,he0,he1];and_intros;all_goals try first|omega|exact⟨by kernel_rfl⟩|rfl
     refine Fin.of ?_;simp[uX]
    by_cases ht0:ttl<0
    ·rw[if_pos (by simp[hv,hs,he0,he1,ht0])]at hB
     rw[hB];simp -dsimp[hv,hs,he0,he1,ht0];and_intros;all_goals try first|omega|exact⟨by kernel_rfl⟩|rfl
     refine Fin.of ?_;simp[uX]
    by_cases ht1:63<ttl
    ·rw[if_pos (by simp[hv,hs,he0,he1,ht0,ht1])]at hB
     rw[hB];simp -dsimp[hv,hs,he0,he1,ht0,ht1];and_intros;all_goals try first|omega|exact⟨by kernel_rfl⟩|rfl
     refine Fin.of ?_;simp[uX]
    rw[if_neg (by simp[hv];omega)]at hB
    rw[hB];have hS:=alL l hl (xk b id en ttl) r;rw[ab2 hA Zw hv ⟨by omega,by omega⟩ ⟨by omega,by omega⟩,KG]at hS
    simp only[mM,Pk.cs,xk,List.map,oW,bv]at hS;have hpb:=plB id b.len;have hsh:(1#64<<<(rC id b.len).toNat)=wV (rC id b.len):=by unfold wV;rw[if_neg (by omega),wrap_u64 (by omega) (by omega)]
    simp -dsimp[hv,hs,he0,he1,ht0,ht1,hsh];and_intros;all_goals try first|omega|exact⟨by kernel_rfl⟩|rfl
    refine aF.of hS [] 0 ?_;simp -dsimp;and_intros;all_goals try first|omega|exact⟨by kernel_rfl⟩|rfl|exact hsh
    refine Fin.of ?_;simp[uX]
theorem ajD(l:List Tb)(hl:Good l)(r id pl:Int):Contract Tryz.prog 128 [.d (.sl (ig l)),.d (.int .i64 r),.d (.int .i64 id),.d (.int .i64 pl)] [] (.sZ [.d (.int .i64 (MG l r id pl).1),.d (.int .i64 (MG l r id pl).2)]) [] []:=by
 have h1:=H9 l hl r id pl 1;rw[show(1:Int).toNat=1 from rfl]at h1
 have hN:MG l r id pl=if qI l r id pl 1≠0 then(0,qI l r id pl 1)else if pl<0∨8≤pl then(0,2)else
  if(jM l id (pl%8) 1 r).2.1=r∧JR (jM l id (pl%8) 1 r)≠1 then(0,0)else((jM l id (pl%8) 1 r).2.1,0):=rfl
 rw[hN];generalize jM l id (pl%8) 1 r=e at h1;generalize qI l r id pl 1=o at h1;have hkd:=aho e;refine aC Tryz.func128 rfl (fun E0=>?_);refine iK.sound (g:=.mk) (ow:=[]) (kp:=(kb 0x2010200f0f)) ?_;rw[Tryz.ntmps128];by_cases ho:o=0
 ·subst ho;simp only[uX,decide_true,if_true]at h1;rw[if_neg (by simp)];simp -dsimp;and_intros;all_goals try first|omega|exact⟨by kernel_rfl⟩|rfl
  refine aF.of h1 [] 0 ?_;by_cases p0:pl<0
  ·rw[if_pos (.inl p0)];simp -dsimp[p0];and_intros;all_goals try first|omega|exact⟨by kernel_rfl⟩|rfl
   refine Fin.of ?_;simp
  by_cases p1:8≤pl
  ·rw[if_pos (.inr p1)];simp -dsimp[p0,p1];and_intros;all_goals try first|omega|exact⟨by kernel_rfl⟩|rfl
   refine Fin.of ?_;simp
  rw[if_neg (by omega)];by_cases c1:e.2.1=r
  ·by_cases c2:JR e=1
   ·rw[if_neg (by simp[c2])];simp -dsimp[p0,p1,c1,c2];and_intros;all_goals try first|omega|exact⟨by kernel_rfl⟩|rfl
    refine Fin.of ?_;simp[c1]
   ·rw[if_pos ⟨c1,c2⟩];simp -dsimp[p0,p1,c1,c2];and_intros;all_goals try first|omega|exact⟨by kernel_rfl⟩|rfl
    refine Fin.of ?_;simp
  ·rw[if_neg (fun h=>c1 h.1)];simp -dsimp[p0,p1,c1];and_intros;all_goals try first|omega|exact⟨by kernel_rfl⟩|rfl
   refine Fin.of ?_;simp
 ·simp only[uX,decide_eq_false ho,bI,if_false]at h1;rw[if_pos ho];simp -dsimp[ho];and_intros;all_goals try first|omega|exact⟨by kernel_rfl⟩|rfl
  refine aF.of h1 [] 0 ?_;simp -dsimp[ho];and_intros;all_goals try first|omega|exact⟨by kernel_rfl⟩|rfl
  refine Fin.of ?_;simp
theorem BH.find{g:bV}{p:Pn}{l:List Tb}(h:BH g p l){b:Tb}(hb:b∈l):iq l b.r=some b:=by
 have h1:=UK (gY h.ok) p;have h2:((tabs g p g.rs).map (·.r)).Pairwise (· < ·):=by rw[dA];exact h1
 rw[←h.tab.rs,dA]at h2
 refine wC hb (by simp) fun y hy e=>?_
 have e:y.r=b.r:=of_decide_eq_true e;obtain⟨i,hi,rfl⟩:=jC hb;obtain⟨j,hj,rfl⟩:=jC hy;have hp:=bT.1 h2;rcases h_ i j with hlt|rfl|hlt
 ·have:=hp i j hi hj hlt;omega
 ·rfl
 ·have:=hp j i hj hi hlt;omega
theorem BH.sm{g:bV}{p:Pn}{l:List Tb}(h:BH g p l):UY l:=(h.tab.YA h.ok).sm
theorem BH.rpos{g:bV}{p:Pn}{l:List Tb}(h:BH g p l){b:Tb}(hb:b∈l):b.r≠0:=by have h1:1≤b.r:=(zG (h.tab.ck b hb)).1.1.1;omega
theorem adE{p:Pn}(hp:iT p=true){e:Ed}(he:e∈p.es):1≤e.id∧e.id≤256:=by
 simp only[iT,decide_eq_true_eq]at hp;obtain⟨i,hi,rfl⟩:=jC he;have h3:=hp.2.1 i hi;simp only[Oc,gid,aP]at h3;have h4:=h3.1;rw[ak,ah hi]at h4
 simpa[inB]using h4
theorem BH.one{g:bV}{p:Pn}{l:List Tb}(h:BH g p l){b:Tb}(hb:b∈l){e:Ed}(he:e∈p.es){en ttl:Int}(hn:0≤en∧en≤1023)(ht:0≤ttl∧ttl≤63):qI l b.r e.id en ttl=0:=by
 have hT:=h.tab.YA h.ok;have hsd:=h.tab.sd b hb;have hne:p.len≠0:=fun z=>by rw[h.len.1 z]at he;simp at he
 have hv:dQ p.len=true:=h.val.resolve_left hne;have hid:=adE h.plan he;have hs:=Uh (id:=e.id) hv;unfold qI;rw[if_neg (by simp[hT.all]),h.find hb];simp only;rw[hsd.2,if_neg];have:inB e.id 1 256=true:=fQ hid;simp only[hv,this,l7,oU,false_or];omega
def dif(f h:Int→Int):Nat→Int→Option Int
 | 0,_=>none
 | n+1,i=>if f i≠h i then some (f i)else dif f h n (i+1)
def Bf(c b:Tb)(es:List Ed):List (List Int):=es.filterMap fun x=>(dif (jo c x.id) (jo b x.id) 8 0).map fun v=>[5,b.r,x.id,v]
def yA(bad want:List Tb)(es:List Ed):List (List Int):=want.flatMap fun b=>Bf ((iq bad b.r).getD tb0) b es
theorem GX{l:List Tb}(h:l.Pairwise fun x y=>x.r<y.r){b:Tb}(hb:b∈l):iq l b.r=some b:=by
 refine wC hb (by simp) fun y hy e=>?_
 induction l with
 | nil=>trivial
 | cons z l ih=>
   rw[fB]at h
   grind
structure amo(l:List Tb)(es:List Ed):Prop where
 NR:l.Pairwise fun x y=>x.r<y.r
 ed:es.Pairwise fun x y=>x.id<y.id
structure An where
 kd:Int
 rt:Int
 id:Int
 tl:Int
def own(p:Pn)(id:Int):Int:=((p.es.find? fun e=>decide (e.id=id)).map (·.r)).getD 0
theorem BH.nxt{g:bV}{p:Pn}{l:List Tb}(h:BH g p l){b:Tb}(hb:b∈l){e:Ed}(he:e∈p.es){pl:Int}(hp:0≤pl∧pl≤7):MG l b.r e.id pl=(jo b e.id pl,0):=by rw[Z_ (h.find hb) (h.rpos hb) (h.one hb he (by omega) (by omega)) hp,Ws (h.tab.ck b hb) hp]
theorem BH.loc{g:bV}{p:Pn}{l:List Tb}(h:BH g p l):amo (tabs g p g.rs) p.es:=⟨UK (gY h.ok) p,xu h.plan⟩
theorem BH.right{g:bV}{p:Pn}{l:List Tb}(h:BH g p l):BH g p (tabs g p g.rs):=⟨h.ok,h.cap,h.n,h.plan,h.len,h.val,h.gU,h.es,Gq.init h.ok h.plan⟩
def Zc(p:Pn)(a b:Tb):Bool:=decide (a.r=b.r)&&(decide (b.sd=p.gU)&&decide (b.len=p.len))
def NH(p:Pn):List Tb→List Tb→Bool
 | [],[]=>true
 | a::l,b::m=>Zc p a b&&NH p l m
 | _,_=>false
theorem Qv{p:Pn}:∀{l m:List Tb},NH p l m=true→l.length=m.length
 | [],[],_=>rfl
 | _::_,_::_,h=>by simp only[NH,aP]at h;simp[Qv h.2]
 | [],_::_,h=>by trivial
 | _::_,[],h=>by trivial
theorem XL{p:Pn}:∀{l m:List Tb} {i:Nat} {a b:Tb},NH p l m=true→l[i]? = some a→m[i]? = some b→Zc p a b=true
 | x::l,y::m,0,a,b,h,h1,h2=>by
   simp only[NH,aP]at h
   simp_all
 | x::l,y::m,i+1,a,b,h,h1,h2=>by simp only[NH,aP]at h;exact XL h.2 h1 h2
 | [],_,_,_,_,_,h1,_=>by trivial
 | _::_,[],_,_,_,_,_,h2=>by trivial
theorem RX{p:Pn}:∀{l m:List Tb},l.length=m.length→(∀(i:Nat) (a b:Tb),l[i]? = some a→m[i]? = some b→Zc p a b=true)→NH p l m=true
 | [],[],_,_=>rfl
 | x::l,y::m,h,k=>by simp only[NH,aP];exact⟨k 0 x y rfl rfl,RX (by simp_all) fun i a b h1 h2=>k (i+1) a b (by trivial) (by trivial)⟩
 | [],_::_,h,_=>by trivial
 | _::_,[],h,_=>by trivial
theorem agF{p:Pn}{l m:List Tb}{i:Nat}{a b:Tb}(h1:l[i]? = some a)(h2:m[i]? = some b)(h:Zc p a b=false):NH p l m=false:=
 mQ.2 fun e=>by grind[XL]
open Classical in
noncomputable def exV(g:bV)(p:Pn)(l:List Tb):List Tb×Int:=
 if ¬(jE g=0∧iT p=true)∨tK l≠0 then([],1)else if(g.rs.any fun x=>!x.cap)=true then([],26)else if NH p (tabs g p g.rs) l=false then([],8)else(tabs g p g.rs,0)
noncomputable def xQ(g:bV)(p:Pn)(l:List Tb):List (List Int)×Int:=if(exV g p l).2=0 then(yA l (tabs g p g.rs) p.es,0)else([],(exV g p l).2)
structure ExI(g:bV)(p:Pn)(l:List Tb):Prop where
 top:jE g=0
 plan:iT p=true
 all:tK l=0
 cap:∀x∈g.rs,x.cap=true
 eq:NH p (tabs g p g.rs) l=true
theorem acY{g:bV}{p:Pn}{l:List Tb}(h:(exV g p l).2=0):ExI g p l∧exV g p l=(tabs g p g.rs,0):=by
 unfold exV at h⊢;split at h
 ·omega
 rename_i h1;rw[if_neg h1];split at h
 ·omega
 rename_i h2;rw[if_neg h2];split at h
 ·omega
 rename_i h3;rw[if_neg h3];have a1:jE g=0∧iT p=true:=by simp_all
 have a2:tK l=0:=by omega
 refine⟨⟨a1.1,a1.2,a2,fun x hx=>?_,by simp[*]⟩,rfl⟩
 simp_all
theorem ExI.find{g:bV}{p:Pn}{l:List Tb}(h:ExI g p l){b:Tb}(hb:b∈tabs g p g.rs):∃c,iq l b.r=some c∧c.sd=p.gU∧c.len=p.len∧chk c=0:=by
 obtain⟨i,hi,rfl⟩:=cu.1 hb;have hl:=Qv h.eq;have h1:(tabs g p g.rs)[i]? = some (tabs g p g.rs)[i]:=by simp
 have h2:l[i]? = some (l[i]'(by omega)):=by simp
 have h3:=XL h.eq h1 h2;simp only[Zc,aP,decide_eq_true_eq]at h3;have hm:l[i]'(by omega)∈l:=by simp
 refine⟨_,?_,h3.2.1,h3.2.2,GH h.all _ hm⟩;rw[h3.1];refine GX ?_ hm;have hA:=wX (l:=_) (by simp) h.all;simp only[aG,fP,or_false,forall_eq_or_imp,forall_eq]at hA
 grind[Xk]
theorem ExI.nxt{g:bV}{p:Pn}{l:List Tb}(h:ExI g p l){b:Tb}(hb:b∈tabs g p g.rs){x:Ed}(hx:x∈p.es){pl:Int}(hp:0≤pl∧pl≤7):MG l b.r x.id pl=(jo ((iq l b.r).getD tb0) x.id pl,0):=by
 obtain⟨c,hf,h1,h2,h3⟩:=h.find hb;have hid:=adE h.plan hx;have hv:dQ p.len=true:=by
  have:=h.plan;simp only[iT,decide_eq_true_eq]at this;have hb:=this.1;have hne:p.es≠[]:=by grind
  simp only[vV,aP,gJ,decide_eq_true_eq]at hb
  simp_all
 have hs:=Uh (id:=x.id) hv;have hr:b.r≠0:=by
  obtain⟨y,hy,_,rfl⟩:=Nu hb;have:1≤y.id∧y.id≤99:=(gY h.top).id (nI.2 (gB hy))
  show y.id≠0
  omega
 have h0:qI l b.r x.id pl 1=0:=by
  unfold qI;rw[if_neg (by simp[h.all]),hf];simp only;have:inB x.id 1 256=true:=fQ hid
  grind
 rw[Z_ hf hr h0 hp,hf,bf,Ws h3 hp]
end Go.Proofs
