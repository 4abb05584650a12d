/-
  What functions of the program compute, stated as contracts over plain data; the conditions of each stand in its own statement.
-/
import Derived.Test.YtkikielfhjoogaaGreatDoorZA15
import Derived.Shelf.SlGeneric
import Derived.Shelf.SlSortCmp.NoneTotal
import Derived.Shelf.SlicesG.Cmp
import Derived.Ground.SlsfProg
import Derived.Ground.SlgcProg
import Derived.Test.YtkikielfhjoogaaGreatDoorChecked
import Derived.WalkKit
import Derived.StillTailTactics
import Derived.Deep.QuietTactic
import Derived.BigQuiet
import Derived.LoopN
import Derived.KernelRfl
import Derived.Handy
import Derived.Test.YtkikielfhjoogaaGreatDoorZA17
import Derived.Test.YtkikielfhjoogaaGreatDoorZA10
import Derived.Test.YtkikielfhjoogaaGreatDoorZA00
import Derived.Lib.SlicesCompact
import Derived.Test.YtkikielfhjoogaaGreatDoorZA13
set_option linter.unusedVariables false
set_option linter.unusedSimpArgs false
namespace Go.Proofs
open Go.Shelf
def Tryz.VY:Go.Shelf.Ren:=⟨fun|6=>146|15=>150|14=>163|28=>172|29=>173|20=>190|21=>191|22=>192|23=>193|24=>194|25=>195|26=>196|27=>197|46=>209|47=>199|48=>200|49=>210|50=>211|57=>215|n=>n,fun|22=>252|24=>254|25=>256|3=>3|39=>236|0=>0|53=>280|55=>53|4=>4|46=>274|45=>273|50=>125|5=>5|9=>9|66=>296|70=>300|76=>308|77=>309|n=>n,fun|n=>n⟩
theorem Tryz.ah9:Go.Proofs.SlLaysF0.n6 Tryz.prog Tryz.VY:={
 mixed:=by kernel_rfl
 f6:=⟨Tryz.f146.name,by decide,Tryz.func146.trans (congrArg some (by kernel_rfl))⟩
 f14:=⟨Tryz.f163.name,by decide,Tryz.func163.trans (congrArg some (by kernel_rfl))⟩
 f15:=Tryz.func150.trans (congrArg some (by kernel_rfl))
 f20:=⟨Tryz.f190.name,by decide,Tryz.func190.trans (congrArg some (by kernel_rfl))⟩
 f21:=⟨Tryz.f191.name,by decide,Tryz.func191.trans (congrArg some (by kernel_rfl))⟩
 f22:=⟨Tryz.f192.name,by decide,Tryz.func192.trans (congrArg some (by kernel_rfl))⟩
 f23:=⟨Tryz.f193.name,by decide,Tryz.func193.trans (congrArg some (by kernel_rfl))⟩
 f24:=⟨Tryz.f194.name,by decide,Tryz.func194.trans (congrArg some (by kernel_rfl))⟩
 f25:=⟨Tryz.f195.name,by decide,Tryz.func195.trans (congrArg some (by kernel_rfl))⟩
 f26:=⟨Tryz.f196.name,by decide,Tryz.func196.trans (congrArg some (by kernel_rfl))⟩
 f27:=⟨Tryz.f197.name,by decide,Tryz.func197.trans (congrArg some (by kernel_rfl))⟩
 f28:=Tryz.func172.trans (congrArg some (by kernel_rfl))
 f29:=Tryz.func173.trans (congrArg some (by kernel_rfl))
 f46:=⟨Tryz.f209.name,by decide,Tryz.func209.trans (congrArg some (by kernel_rfl))⟩
 f47:=Tryz.func199.trans (congrArg some (by kernel_rfl))
 f48:=Tryz.func200.trans (congrArg some (by kernel_rfl))
 f49:=⟨Tryz.f210.name,by decide,Tryz.func210.trans (congrArg some (by kernel_rfl))⟩
 f50:=⟨Tryz.f211.name,by decide,Tryz.func211.trans (congrArg some (by kernel_rfl))⟩
 f57:=⟨Tryz.f215.name,by decide,Tryz.func215.trans (congrArg some (by kernel_rfl))⟩
 t0:=Tryz.underlying0
 a0:=Tryz.isAgg0
 z0:=Tryz.sizeOf0
 v0:=Tryz.zeroValue0
 t3:=Tryz.underlying3
 a3:=Tryz.isAgg3
 z3:=Tryz.sizeOf3
 v3:=Tryz.zeroValue3
 t4:=Tryz.underlying4
 a4:=Tryz.isAgg4
 z4:=Tryz.sizeOf4
 v4:=Tryz.zeroValue4
 t5:=Tryz.underlying5
 a5:=Tryz.isAgg5
 z5:=Tryz.sizeOf5
 v5:=Tryz.zeroValue5
 t9:=Tryz.underlying9
 a9:=Tryz.isAgg9
 z9:=Tryz.sizeOf9
 v9:=Tryz.zeroValue9
 t22:=Tryz.underlying252
 a22:=Tryz.isAgg252
 z22:=Tryz.sizeOf252
 v22:=Tryz.zeroValue252
 t25:=Tryz.underlying256
 a25:=Tryz.isAgg256
 z25:=Tryz.sizeOf256
 v25:=Tryz.zeroValue256
 t39:=Tryz.underlying236
 a39:=Tryz.isAgg236
 z39:=Tryz.sizeOf236
 v39:=Tryz.zeroValue236
 t45:=Tryz.underlying273
 a45:=Tryz.isAgg273
 z45:=Tryz.sizeOf273
 v45:=Tryz.zeroValue273
 t46:=Tryz.underlying274
 a46:=Tryz.isAgg274
 z46:=Tryz.sizeOf274
 v46:=Tryz.zeroValue274
 t50:=Tryz.underlying125
 a50:=Tryz.isAgg125
 z50:=Tryz.sizeOf125
 v50:=Tryz.zeroValue125
 t53:=Tryz.underlying280
 a53:=Tryz.isAgg280
 z53:=Tryz.sizeOf280
 v53:=Tryz.zeroValue280
 t55:=Tryz.underlying53
 a55:=Tryz.isAgg53
 z55:=Tryz.sizeOf53
 v55:=Tryz.zeroValue53
 t66:=Tryz.underlying296
 a66:=Tryz.isAgg296
 z66:=Tryz.sizeOf296
 v66:=Tryz.zeroValue296
 t70:=Tryz.underlying300
 a70:=Tryz.isAgg300
 z70:=Tryz.sizeOf300
 v70:=Tryz.zeroValue300
 t76:=Tryz.underlying308
 a76:=Tryz.isAgg308
 z76:=Tryz.sizeOf308
 v76:=Tryz.zeroValue308
 t77:=Tryz.underlying309
 a77:=Tryz.isAgg309
 z77:=Tryz.sizeOf309
 v77:=Tryz.zeroValue309}
def Tryz.YM:Go.Shelf.Ren:=⟨fun|6=>99|15=>150|14=>149|28=>172|29=>173|20=>164|21=>165|22=>166|23=>167|24=>168|25=>169|26=>170|27=>171|46=>198|47=>199|48=>200|49=>201|50=>202|57=>212|n=>n,fun|22=>32|24=>131|25=>136|3=>3|39=>236|0=>0|53=>280|55=>53|4=>4|46=>274|45=>273|50=>125|5=>5|9=>9|66=>296|70=>300|76=>308|77=>309|n=>n,fun|n=>n⟩
theorem Tryz.acN:Go.Proofs.SlLaysF0.n6 Tryz.prog Tryz.YM:={
 mixed:=by kernel_rfl
 f6:=⟨Tryz.f99.name,by decide,Tryz.func99.trans (congrArg some (by kernel_rfl))⟩
 f14:=⟨Tryz.f149.name,by decide,Tryz.func149.trans (congrArg some (by kernel_rfl))⟩
 f15:=Tryz.func150.trans (congrArg some (by kernel_rfl))
 f20:=⟨Tryz.f164.name,by decide,Tryz.func164.trans (congrArg some (by kernel_rfl))⟩
 f21:=⟨Tryz.f165.name,by decide,Tryz.func165.trans (congrArg some (by kernel_rfl))⟩
 f22:=⟨Tryz.f166.name,by decide,Tryz.func166.trans (congrArg some (by kernel_rfl))⟩
 f23:=⟨Tryz.f167.name,by decide,Tryz.func167.trans (congrArg some (by kernel_rfl))⟩
 f24:=⟨Tryz.f168.name,by decide,Tryz.func168.trans (congrArg some (by kernel_rfl))⟩
 f25:=⟨Tryz.f169.name,by decide,Tryz.func169.trans (congrArg some (by kernel_rfl))⟩
 f26:=⟨Tryz.f170.name,by decide,Tryz.func170.trans (congrArg some (by kernel_rfl))⟩
 f27:=⟨Tryz.f171.name,by decide,Tryz.func171.trans (congrArg some (by kernel_rfl))⟩
 f28:=Tryz.func172.trans (congrArg some (by kernel_rfl))
 f29:=Tryz.func173.trans (congrArg some (by kernel_rfl))
 f46:=⟨Tryz.f198.name,by decide,Tryz.func198.trans (congrArg some (by kernel_rfl))⟩
 f47:=Tryz.func199.trans (congrArg some (by kernel_rfl))
 f48:=Tryz.func200.trans (congrArg some (by kernel_rfl))
 f49:=⟨Tryz.f201.name,by decide,Tryz.func201.trans (congrArg some (by kernel_rfl))⟩
 f50:=⟨Tryz.f202.name,by decide,Tryz.func202.trans (congrArg some (by kernel_rfl))⟩
 f57:=⟨Tryz.f212.name,by decide,Tryz.func212.trans (congrArg some (by kernel_rfl))⟩
 t0:=Tryz.underlying0
 a0:=Tryz.isAgg0
 z0:=Tryz.sizeOf0
 v0:=Tryz.zeroValue0
 t3:=Tryz.underlying3
 a3:=Tryz.isAgg3
 z3:=Tryz.sizeOf3
 v3:=Tryz.zeroValue3
 t4:=Tryz.underlying4
 a4:=Tryz.isAgg4
 z4:=Tryz.sizeOf4
 v4:=Tryz.zeroValue4
 t5:=Tryz.underlying5
 a5:=Tryz.isAgg5
 z5:=Tryz.sizeOf5
 v5:=Tryz.zeroValue5
 t9:=Tryz.underlying9
 a9:=Tryz.isAgg9
 z9:=Tryz.sizeOf9
 v9:=Tryz.zeroValue9
 t22:=Tryz.underlying32
 a22:=Tryz.isAgg32
 z22:=Tryz.sizeOf32
 v22:=Tryz.zeroValue32
 t25:=Tryz.underlying136
 a25:=Tryz.isAgg136
 z25:=Tryz.sizeOf136
 v25:=Tryz.zeroValue136
 t39:=Tryz.underlying236
 a39:=Tryz.isAgg236
 z39:=Tryz.sizeOf236
 v39:=Tryz.zeroValue236
 t45:=Tryz.underlying273
 a45:=Tryz.isAgg273
 z45:=Tryz.sizeOf273
 v45:=Tryz.zeroValue273
 t46:=Tryz.underlying274
 a46:=Tryz.isAgg274
 z46:=Tryz.sizeOf274
 v46:=Tryz.zeroValue274
 t50:=Tryz.underlying125
 a50:=Tryz.isAgg125
 z50:=Tryz.sizeOf125
 v50:=Tryz.zeroValue125
 t53:=Tryz.underlying280
 a53:=Tryz.isAgg280
 z53:=Tryz.sizeOf280
 v53:=Tryz.zeroValue280
 t55:=Tryz.underlying53
 a55:=Tryz.isAgg53
 z55:=Tryz.sizeOf53
 v55:=Tryz.zeroValue53
 t66:=Tryz.underlying296
 a66:=Tryz.isAgg296
 z66:=Tryz.sizeOf296
 v66:=Tryz.zeroValue296
 t70:=Tryz.underlying300
 a70:=Tryz.isAgg300
 z70:=Tryz.sizeOf300
 v70:=Tryz.zeroValue300
 t76:=Tryz.underlying308
 a76:=Tryz.isAgg308
 z76:=Tryz.sizeOf308
 v76:=Tryz.zeroValue308
 t77:=Tryz.underlying309
 a77:=Tryz.isAgg309
 z77:=Tryz.sizeOf309
 v77:=Tryz.zeroValue309}
def Tryz.YK:Go.Shelf.Ren:=⟨fun|6=>123|15=>150|14=>158|28=>172|29=>173|20=>174|21=>175|22=>176|23=>177|24=>178|25=>179|26=>180|27=>181|46=>203|47=>199|48=>200|49=>204|50=>205|57=>213|n=>n,fun|22=>161|24=>232|25=>234|3=>3|39=>236|0=>0|53=>280|55=>53|4=>4|46=>274|45=>273|50=>125|5=>5|9=>9|66=>296|70=>300|76=>308|77=>309|n=>n,fun|n=>n⟩
theorem Tryz.akd:Go.Proofs.SlLaysF0.n6 Tryz.prog Tryz.YK:={
 mixed:=by kernel_rfl
 f6:=⟨Tryz.f123.name,by decide,Tryz.func123.trans (congrArg some (by kernel_rfl))⟩
 f14:=⟨Tryz.f158.name,by decide,Tryz.func158.trans (congrArg some (by kernel_rfl))⟩
 f15:=Tryz.func150.trans (congrArg some (by kernel_rfl))
 f20:=⟨Tryz.f174.name,by decide,Tryz.func174.trans (congrArg some (by kernel_rfl))⟩
 f21:=⟨Tryz.f175.name,by decide,Tryz.func175.trans (congrArg some (by kernel_rfl))⟩
 f22:=⟨Tryz.f176.name,by decide,Tryz.func176.trans (congrArg some (by kernel_rfl))⟩
 f23:=⟨Tryz.f177.name,by decide,Tryz.func177.trans (congrArg some (by kernel_rfl))⟩
 f24:=⟨Tryz.f178.name,by decide,Tryz.func178.trans (congrArg some (by kernel_rfl))⟩
 f25:=⟨Tryz.f179.name,by decide,Tryz.func179.trans (congrArg some (by kernel_rfl))⟩
 f26:=⟨Tryz.f180.name,by decide,Tryz.func180.trans (congrArg some (by kernel_rfl))⟩
 f27:=⟨Tryz.f181.name,by decide,Tryz.func181.trans (congrArg some (by kernel_rfl))⟩
 f28:=Tryz.func172.trans (congrArg some (by kernel_rfl))
 f29:=Tryz.func173.trans (congrArg some (by kernel_rfl))
 f46:=⟨Tryz.f203.name,by decide,Tryz.func203.trans (congrArg some (by kernel_rfl))⟩
 f47:=Tryz.func199.trans (congrArg some (by kernel_rfl))
 f48:=Tryz.func200.trans (congrArg some (by kernel_rfl))
 f49:=⟨Tryz.f204.name,by decide,Tryz.func204.trans (congrArg some (by kernel_rfl))⟩
 f50:=⟨Tryz.f205.name,by decide,Tryz.func205.trans (congrArg some (by kernel_rfl))⟩
 f57:=⟨Tryz.f213.name,by decide,Tryz.func213.trans (congrArg some (by kernel_rfl))⟩
 t0:=Tryz.underlying0
 a0:=Tryz.isAgg0
 z0:=Tryz.sizeOf0
 v0:=Tryz.zeroValue0
 t3:=Tryz.underlying3
 a3:=Tryz.isAgg3
 z3:=Tryz.sizeOf3
 v3:=Tryz.zeroValue3
 t4:=Tryz.underlying4
 a4:=Tryz.isAgg4
 z4:=Tryz.sizeOf4
 v4:=Tryz.zeroValue4
 t5:=Tryz.underlying5
 a5:=Tryz.isAgg5
 z5:=Tryz.sizeOf5
 v5:=Tryz.zeroValue5
 t9:=Tryz.underlying9
 a9:=Tryz.isAgg9
 z9:=Tryz.sizeOf9
 v9:=Tryz.zeroValue9
 t22:=Tryz.underlying161
 a22:=Tryz.isAgg161
 z22:=Tryz.sizeOf161
 v22:=Tryz.zeroValue161
 t25:=Tryz.underlying234
 a25:=Tryz.isAgg234
 z25:=Tryz.sizeOf234
 v25:=Tryz.zeroValue234
 t39:=Tryz.underlying236
 a39:=Tryz.isAgg236
 z39:=Tryz.sizeOf236
 v39:=Tryz.zeroValue236
 t45:=Tryz.underlying273
 a45:=Tryz.isAgg273
 z45:=Tryz.sizeOf273
 v45:=Tryz.zeroValue273
 t46:=Tryz.underlying274
 a46:=Tryz.isAgg274
 z46:=Tryz.sizeOf274
 v46:=Tryz.zeroValue274
 t50:=Tryz.underlying125
 a50:=Tryz.isAgg125
 z50:=Tryz.sizeOf125
 v50:=Tryz.zeroValue125
 t53:=Tryz.underlying280
 a53:=Tryz.isAgg280
 z53:=Tryz.sizeOf280
 v53:=Tryz.zeroValue280
 t55:=Tryz.underlying53
 a55:=Tryz.isAgg53
 z55:=Tryz.sizeOf53
 v55:=Tryz.zeroValue53
 t66:=Tryz.underlying296
 a66:=Tryz.isAgg296
 z66:=Tryz.sizeOf296
 v66:=Tryz.zeroValue296
 t70:=Tryz.underlying300
 a70:=Tryz.isAgg300
 z70:=Tryz.sizeOf300
 v70:=Tryz.zeroValue300
 t76:=Tryz.underlying308
 a76:=Tryz.isAgg308
 z76:=Tryz.sizeOf308
 v76:=Tryz.zeroValue308
 t77:=Tryz.underlying309
 a77:=Tryz.isAgg309
 z77:=Tryz.sizeOf309
 v77:=Tryz.zeroValue309}
def Tryz.Zz:Go.Shelf.Ren:=⟨fun|5=>102|7=>151|n=>n,fun|22=>3|3=>3|4=>4|n=>n,fun|n=>n⟩
theorem Tryz.cmpInt:Go.Proofs.SlLaysC2.n5 Tryz.prog Tryz.Zz:={
 mixed:=by kernel_rfl
 f5:=⟨Tryz.f102.name,by decide,Tryz.func102.trans (congrArg some (by kernel_rfl))⟩
 f7:=⟨Tryz.f151.name,by decide,Tryz.func151.trans (congrArg some (by kernel_rfl))⟩
 t3:=Tryz.underlying3
 a3:=Tryz.isAgg3
 z3:=Tryz.sizeOf3
 v3:=Tryz.zeroValue3
 t4:=Tryz.underlying4
 a4:=Tryz.isAgg4
 z4:=Tryz.sizeOf4
 v4:=Tryz.zeroValue4
 t22:=Tryz.underlying3
 a22:=Tryz.isAgg3
 z22:=Tryz.sizeOf3
 v22:=Tryz.zeroValue3}
end Go.Proofs

set_option linter.unusedSimpArgs false
set_option linter.unusedVariables false
set_option maxRecDepth 100000
set_option maxHeartbeats 4000000
namespace Go.Proofs
open Go.Shelf Go.RowKit Go.Lib Go.Sort
theorem ahh(b:Nat)(x y:Int)(W:World)(h0:W.cell? ⟨b,0,none⟩ = some (.int .i64 x))(h1:W.cell? ⟨b,1,none⟩ = some (.int .i64 y)):Calls Tryz.prog 101 #[.slice (some ⟨b,0,none⟩) 2 2] W fun e w'=>e = .returned (.int .i64 (if x=0 then y else x))∧w'=W:=by
 go_enter Tryz.func101,Tryz.ntmps101
 by_cases hx:x=0
 ·by_cases hy:y=0
  ·go_wp2
   refine wp_loop_rounds 3 ?_;rw[rounds_succ]
   go_wp2
   rw[rounds_succ]
   go_wp2
   rw[rounds_succ]
   go_wp2
   go_ret
   simp[hx,hy]
  ·go_wp2
   refine wp_loop_rounds 3 ?_;rw[rounds_succ]
   go_wp2
   rw[rounds_succ]
   go_wp2
   go_ret
   simp[hx,hy]
 ·go_wp2
  refine wp_loop_rounds 3 ?_;rw[rounds_succ]
  go_wp2
  go_ret
  simp[hx]
theorem uy(W:World)(o o2:Obj)(i:Nat):(World.alloc (World.alloc W o) o2).cell? ⟨W.heap.size,i,none⟩ = (World.alloc W o).cell? ⟨W.heap.size,i,none⟩:=by unfold World.cell? World.alloc;simp only[Array.getElem?_push,iM];rw[if_neg (by omega)]
theorem iQ(W:World)(vs:Array Value)(t i:Nat)(v:Value)(h:vs[i]? = some v):(World.alloc W (.cells vs t)).cell? ⟨W.heap.size,i,none⟩ = some v:=by unfold World.cell? World.alloc;simp only[Array.getElem?_push,if_true];simpa using h
theorem akb(x y:List Int)(W:World)(hx:x.length=2)(hy:y.length=2):Calls Tryz.prog 42 #[.agg (x.map (Value.int .i64)).toArray,.agg (y.map (Value.int .i64)).toArray] W fun e w'=>e = .returned (.int .i64 (if Lib.compareInt (x.getD 0 0) (y.getD 0 0)=0 then Lib.compareInt (x.getD 1 0) (y.getD 1 0)else Lib.compareInt (x.getD 0 0) (y.getD 0 0)))∧∃q os',w'=Go.Sort.grow (W.drewN q) os':=by
 obtain⟨x0,x1,rfl⟩:∃a b,x = [a,b]:=by
  match x,hx with
  | [a,b],_=>exact⟨a,b,rfl⟩
 obtain⟨y0,y1,rfl⟩:∃a b,y = [a,b]:=by
  match y,hy with
  | [a,b],_=>exact⟨a,b,rfl⟩
 have hcon:=fun W'=>AnyG.cmp_Compare_int Tryz.cmpInt x0 y0 W'
 have CP:=fun W'=>AnyG.cmp_Compare_int Tryz.cmpInt x1 y1 W'
 change ∀W',Calls Tryz.prog 102 _ _ _ at hcon
 change ∀W',Calls Tryz.prog 102 _ _ _ at CP
 change Calls Tryz.prog 42 #[.agg #[.int .i64 x0,.int .i64 x1],.agg #[.int .i64 y0,.int .i64 y1]] W fun e w'=>e = .returned (.int .i64 (if Lib.compareInt x0 y0=0 then Lib.compareInt x1 y1 else Lib.compareInt x0 y0))∧∃q os',w'=Go.Sort.grow (W.drewN q) os'
 generalize Lib.compareInt x0 y0=r at hcon⊢;generalize Lib.compareInt x1 y1=s at CP⊢;have hor:=fun (b:Nat) (W':World) (h0:W'.cell? ⟨b,0,none⟩ = some (.int .i64 r)) (h1:W'.cell? ⟨b,1,none⟩ = some (.int .i64 s))=>ahh b r s W' h0 h1
 generalize (if r=0 then s else r)=v at hor⊢
 go_enter Tryz.func42,Tryz.ntmps42
 go_wp2_with fail
 obtain⟨W2,hW2⟩:∃W2,W2=((W.alloc (Obj.cells #[Value.int IntKind.i64 x0,Value.int IntKind.i64 x1] 131)).alloc (Obj.cells #[Value.int IntKind.i64 y0,Value.int IntKind.i64 y1] 131)):=⟨_,rfl⟩
 have hs1:(W.alloc (Obj.cells #[Value.int IntKind.i64 x0,Value.int IntKind.i64 x1] 131)).heap.size=W.heap.size+1:=iM _;have cx0:W2.cell? ⟨W.heap.size,0,none⟩ = some (.int .i64 x0):=by subst hW2;rw[uy];exact iQ _ _ _ _ _ rfl
 have cx1:W2.cell? ⟨W.heap.size,1,none⟩ = some (.int .i64 x1):=by subst hW2;rw[uy];exact iQ _ _ _ _ _ rfl
 have cy0:W2.cell? ⟨W.heap.size+1,0,none⟩ = some (.int .i64 y0):=by subst hW2;rw[←hs1];exact iQ _ _ _ _ _ rfl
 have cy1:W2.cell? ⟨W.heap.size+1,1,none⟩ = some (.int .i64 y1):=by subst hW2;rw[←hs1];exact iQ _ _ _ _ _ rfl
 have hsz:W2.heap.size=W.heap.size+2:=by subst hW2;exact(iM _).trans (congrArg (· + 1) (iM _))
 rw[←hW2];have HD:Hid (W2=((W.alloc (Obj.cells #[Value.int IntKind.i64 x0,Value.int IntKind.i64 x1] 131)).alloc (Obj.cells #[Value.int IntKind.i64 y0,Value.int IntKind.i64 y1] 131))):=hW2;clear hW2 hs1;refine wp_region_still_tail 10 (by kernel_rfl) (by kernel_rfl) ?_;simp only[lM,List.take_zero,List.drop_succ_cons,List.drop_zero]
 iterate 4 still_step
 refine wpStill_step (fun K hK=>?_)
 go_simp
 refine⟨_,hcon _,hK _ ?_⟩;clear hK K
 iterate 4 still_step
 refine wpStill_step (fun K hK=>?_)
 go_simp
 refine⟨_,CP _,hK _ ?_⟩;clear hK K;refine wpStill_nil ?_
 change wpList _ _ _ _ _ W2.drew
 obtain⟨W3,hW3⟩:∃W3,W3=W2.drew:=⟨_,rfl⟩
 have HE:Hid (W3=W2.drew):=hW3;rw[←hW3];clear hW3
 go_wp2_with fail
 refine(hor _ _ (iQ _ _ _ _ _ rfl) (iQ _ _ _ _ _ rfl)).mono ?_;rintro e w' ⟨rfl,rfl⟩
 go_wp2_with fail
 go_ret
 refine⟨rfl,?_⟩;have e3:=HE.out;have e2:=HD.out;subst e3 e2;refine⟨1,#[Obj.cells #[Value.int IntKind.i64 x0,Value.int IntKind.i64 x1] 131,Obj.cells #[Value.int IntKind.i64 y0,Value.int IntKind.i64 y1] 131,Obj.cells #[Value.int IntKind.i64 r,Value.int IntKind.i64 s] 3],?_⟩;rw[alloc_eq_grow,alloc_eq_grow,alloc_eq_grow,grow_grow];exact(grow_grow (W.drewN 1) #[_,_] #[_])
theorem aiP(x y:List Int)(W:World)(hx:x.length=2)(hy:y.length=2):Calls Tryz.prog 122 #[.agg (x.map (Value.int .i64)).toArray,.agg (y.map (Value.int .i64)).toArray] W fun e w'=>e = .returned (.int .i64 (if Lib.compareInt (x.getD 0 0) (y.getD 0 0)=0 then Lib.compareInt (x.getD 1 0) (y.getD 1 0)else Lib.compareInt (x.getD 0 0) (y.getD 0 0)))∧∃q os',w'=Go.Sort.grow (W.drewN q) os':=by
 obtain⟨x0,x1,rfl⟩:∃a b,x = [a,b]:=by
  match x,hx with
  | [a,b],_=>exact⟨a,b,rfl⟩
 obtain⟨y0,y1,rfl⟩:∃a b,y = [a,b]:=by
  match y,hy with
  | [a,b],_=>exact⟨a,b,rfl⟩
 have hcon:=fun W'=>AnyG.cmp_Compare_int Tryz.cmpInt x0 y0 W'
 have CP:=fun W'=>AnyG.cmp_Compare_int Tryz.cmpInt x1 y1 W'
 change ∀W',Calls Tryz.prog 102 _ _ _ at hcon
 change ∀W',Calls Tryz.prog 102 _ _ _ at CP
 change Calls Tryz.prog 122 #[.agg #[.int .i64 x0,.int .i64 x1],.agg #[.int .i64 y0,.int .i64 y1]] W fun e w'=>e = .returned (.int .i64 (if Lib.compareInt x0 y0=0 then Lib.compareInt x1 y1 else Lib.compareInt x0 y0))∧∃q os',w'=Go.Sort.grow (W.drewN q) os'
 generalize Lib.compareInt x0 y0=r at hcon⊢;generalize Lib.compareInt x1 y1=s at CP⊢;have hor:=fun (b:Nat) (W':World) (h0:W'.cell? ⟨b,0,none⟩ = some (.int .i64 r)) (h1:W'.cell? ⟨b,1,none⟩ = some (.int .i64 s))=>ahh b r s W' h0 h1
 generalize (if r=0 then s else r)=v at hor⊢
 go_enter Tryz.func122,Tryz.ntmps122
 go_wp2_with fail
 obtain⟨W2,hW2⟩:∃W2,W2=((W.alloc (Obj.cells #[Value.int IntKind.i64 x0,Value.int IntKind.i64 x1] 131)).alloc (Obj.cells #[Value.int IntKind.i64 y0,Value.int IntKind.i64 y1] 131)):=⟨_,rfl⟩
 have hs1:(W.alloc (Obj.cells #[Value.int IntKind.i64 x0,Value.int IntKind.i64 x1] 131)).heap.size=W.heap.size+1:=iM _;have cx0:W2.cell? ⟨W.heap.size,0,none⟩ = some (.int .i64 x0):=by subst hW2;rw[uy];exact iQ _ _ _ _ _ rfl
 have cx1:W2.cell? ⟨W.heap.size,1,none⟩ = some (.int .i64 x1):=by subst hW2;rw[uy];exact iQ _ _ _ _ _ rfl
 have cy0:W2.cell? ⟨W.heap.size+1,0,none⟩ = some (.int .i64 y0):=by subst hW2;rw[←hs1];exact iQ _ _ _ _ _ rfl
 have cy1:W2.cell? ⟨W.heap.size+1,1,none⟩ = some (.int .i64 y1):=by subst hW2;rw[←hs1];exact iQ _ _ _ _ _ rfl
 have hsz:W2.heap.size=W.heap.size+2:=by subst hW2;exact(iM _).trans (congrArg (· + 1) (iM _))
 rw[←hW2];have HD:Hid (W2=((W.alloc (Obj.cells #[Value.int IntKind.i64 x0,Value.int IntKind.i64 x1] 131)).alloc (Obj.cells #[Value.int IntKind.i64 y0,Value.int IntKind.i64 y1] 131))):=hW2;clear hW2 hs1;refine wp_region_still_tail 10 (by kernel_rfl) (by kernel_rfl) ?_;simp only[lM,List.take_zero,List.drop_succ_cons,List.drop_zero]
 iterate 4 still_step
 refine wpStill_step (fun K hK=>?_)
 go_simp
 refine⟨_,hcon _,hK _ ?_⟩;clear hK K
 iterate 4 still_step
 refine wpStill_step (fun K hK=>?_)
 go_simp
 refine⟨_,CP _,hK _ ?_⟩;clear hK K;refine wpStill_nil ?_
 change wpList _ _ _ _ _ W2.drew
 obtain⟨W3,hW3⟩:∃W3,W3=W2.drew:=⟨_,rfl⟩
 have HE:Hid (W3=W2.drew):=hW3;rw[←hW3];clear hW3
 go_wp2_with fail
 refine(hor _ _ (iQ _ _ _ _ _ rfl) (iQ _ _ _ _ _ rfl)).mono ?_;rintro e w' ⟨rfl,rfl⟩
 go_wp2_with fail
 go_ret
 refine⟨rfl,?_⟩;have e3:=HE.out;have e2:=HD.out;subst e3 e2;refine⟨1,#[Obj.cells #[Value.int IntKind.i64 x0,Value.int IntKind.i64 x1] 131,Obj.cells #[Value.int IntKind.i64 y0,Value.int IntKind.i64 y1] 131,Obj.cells #[Value.int IntKind.i64 r,Value.int IntKind.i64 s] 3],?_⟩;rw[alloc_eq_grow,alloc_eq_grow,alloc_eq_grow,grow_grow];exact(grow_grow (W.drewN 1) #[_,_] #[_])
theorem ajJ(x y:List Int)(W:World)(hx:x.length=3)(hy:y.length=3):Calls Tryz.prog 124 #[.agg (x.map (Value.int .i64)).toArray,.agg (y.map (Value.int .i64)).toArray] W fun e w'=>e = .returned (.int .i64 (if Lib.compareInt (x.getD 0 0) (y.getD 0 0)=0 then Lib.compareInt (x.getD 1 0) (y.getD 1 0)else Lib.compareInt (x.getD 0 0) (y.getD 0 0)))∧∃q os',w'=Go.Sort.grow (W.drewN q) os':=by
 obtain⟨x0,x1,x2,rfl⟩:∃a b c,x = [a,b,c]:=by
  match x,hx with
  | [a,b,c],_=>exact⟨a,b,c,rfl⟩
 obtain⟨y0,y1,y2,rfl⟩:∃a b c,y = [a,b,c]:=by
  match y,hy with
  | [a,b,c],_=>exact⟨a,b,c,rfl⟩
 have hcon:=fun W'=>AnyG.cmp_Compare_int Tryz.cmpInt x0 y0 W'
 have CP:=fun W'=>AnyG.cmp_Compare_int Tryz.cmpInt x1 y1 W'
 change ∀W',Calls Tryz.prog 102 _ _ _ at hcon
 change ∀W',Calls Tryz.prog 102 _ _ _ at CP
 change Calls Tryz.prog 124 #[.agg #[.int .i64 x0,.int .i64 x1,.int .i64 x2],.agg #[.int .i64 y0,.int .i64 y1,.int .i64 y2]] W fun e w'=>e = .returned (.int .i64 (if Lib.compareInt x0 y0=0 then Lib.compareInt x1 y1 else Lib.compareInt x0 y0))∧∃q os',w'=Go.Sort.grow (W.drewN q) os'
 generalize Lib.compareInt x0 y0=r at hcon⊢;generalize Lib.compareInt x1 y1=s at CP⊢;have hor:=fun (b:Nat) (W':World) (h0:W'.cell? ⟨b,0,none⟩ = some (.int .i64 r)) (h1:W'.cell? ⟨b,1,none⟩ = some (.int .i64 s))=>ahh b r s W' h0 h1
 generalize (if r=0 then s else r)=v at hor⊢
 go_enter Tryz.func124,Tryz.ntmps124
 go_wp2_with fail
 obtain⟨W2,hW2⟩:∃W2,W2=((W.alloc (Obj.cells #[Value.int IntKind.i64 x0,Value.int IntKind.i64 x1,Value.int IntKind.i64 x2] 232)).alloc (Obj.cells #[Value.int IntKind.i64 y0,Value.int IntKind.i64 y1,Value.int IntKind.i64 y2] 232)):=⟨_,rfl⟩
 have hs1:(W.alloc (Obj.cells #[Value.int IntKind.i64 x0,Value.int IntKind.i64 x1,Value.int IntKind.i64 x2] 232)).heap.size=W.heap.size+1:=iM _;have cx0:W2.cell? ⟨W.heap.size,0,none⟩ = some (.int .i64 x0):=by subst hW2;rw[uy];exact iQ _ _ _ _ _ rfl
 have cx1:W2.cell? ⟨W.heap.size,1,none⟩ = some (.int .i64 x1):=by subst hW2;rw[uy];exact iQ _ _ _ _ _ rfl
 have cy0:W2.cell? ⟨W.heap.size+1,0,none⟩ = some (.int .i64 y0):=by subst hW2;rw[←hs1];exact iQ _ _ _ _ _ rfl
 have cy1:W2.cell? ⟨W.heap.size+1,1,none⟩ = some (.int .i64 y1):=by subst hW2;rw[←hs1];exact iQ _ _ _ _ _ rfl
 have hsz:W2.heap.size=W.heap.size+2:=by subst hW2;exact(iM _).trans (congrArg (· + 1) (iM _))
 rw[←hW2];have HD:Hid (W2=((W.alloc (Obj.cells #[Value.int IntKind.i64 x0,Value.int IntKind.i64 x1,Value.int IntKind.i64 x2] 232)).alloc (Obj.cells #[Value.int IntKind.i64 y0,Value.int IntKind.i64 y1,Value.int IntKind.i64 y2] 232))):=hW2;clear hW2 hs1;refine wp_region_still_tail 14 (by kernel_rfl) (by kernel_rfl) ?_;simp only[lM,List.take_zero,List.drop_succ_cons,List.drop_zero]
 iterate 6 still_step
 refine wpStill_step (fun K hK=>?_)
 go_simp
 refine⟨_,hcon _,hK _ ?_⟩;clear hK K
 iterate 6 still_step
 refine wpStill_step (fun K hK=>?_)
 go_simp
 refine⟨_,CP _,hK _ ?_⟩;clear hK K;refine wpStill_nil ?_
 change wpList _ _ _ _ _ W2.drew
 obtain⟨W3,hW3⟩:∃W3,W3=W2.drew:=⟨_,rfl⟩
 have HE:Hid (W3=W2.drew):=hW3;rw[←hW3];clear hW3
 go_wp2_with fail
 refine(hor _ _ (iQ _ _ _ _ _ rfl) (iQ _ _ _ _ _ rfl)).mono ?_;rintro e w' ⟨rfl,rfl⟩
 go_wp2_with fail
 go_ret
 refine⟨rfl,?_⟩;have e3:=HE.out;have e2:=HD.out;subst e3 e2;refine⟨1,#[Obj.cells #[Value.int IntKind.i64 x0,Value.int IntKind.i64 x1,Value.int IntKind.i64 x2] 232,Obj.cells #[Value.int IntKind.i64 y0,Value.int IntKind.i64 y1,Value.int IntKind.i64 y2] 232,Obj.cells #[Value.int IntKind.i64 r,Value.int IntKind.i64 s] 3],?_⟩;rw[alloc_eq_grow,alloc_eq_grow,alloc_eq_grow,grow_grow]
 exact(grow_grow (W.drewN 1) #[_,_] #[_])
end Go.Proofs

namespace Go.Proofs
open Go Go.Tr Go.Shelf
def Lr(x y:List Int):Int:=if Lib.compareInt (x.getD 0 0) (y.getD 0 0)=0 then Lib.compareInt (x.getD 1 0) (y.getD 1 0)else Lib.compareInt (x.getD 0 0) (y.getD 0 0)
def BO(zs:List (List Int)):List (List Int):=zs.mergeSort fun x y=>!decide (Lr y x<0)
theorem uq:Bl Tryz.prog 99 42 2 (yX Lr) BO:=
 Bl.of Tryz.acN (by omega) (fun w=>by kernel_rfl) (fun w=>by kernel_rfl) Lr 42 (enters_of Tryz.func42 (by kernel_rfl) rfl) (fun x y W hx hy=>akb x y W hx hy)
theorem Qq:Bl Tryz.prog 99 122 2 (yX Lr) BO:=
 Bl.of Tryz.acN (by omega) (fun w=>by kernel_rfl) (fun w=>by kernel_rfl) Lr 122 (enters_of Tryz.func122 (by kernel_rfl) rfl) (fun x y W hx hy=>aiP x y W hx hy)
theorem aa4:Bl Tryz.prog 123 124 3 (yX Lr) BO:=
 Bl.of Tryz.akd (by omega) (fun w=>by kernel_rfl) (fun w=>by kernel_rfl) Lr 124 (enters_of Tryz.func124 (by kernel_rfl) rfl) (fun x y W hx hy=>ajJ x y W hx hy)
theorem WS(x y:Int):Lib.compareInt x y<0↔x<y:=by unfold Lib.compareInt;split<;>(try split)<;>omega
theorem aiQ(x y:Int):Lib.compareInt x y=0↔x=y:=by unfold Lib.compareInt;split<;>(try split)<;>omega
theorem yZ(x y:List Int):Lr x y<0↔x.getD 0 0<y.getD 0 0∨x.getD 0 0=y.getD 0 0∧x.getD 1 0<y.getD 1 0:=by
 have h1:=WS (x.getD 0 0) (y.getD 0 0);have h2:=aiQ (x.getD 0 0) (y.getD 0 0);have h3:=WS (x.getD 1 0) (y.getD 1 0);unfold Lr;split
 ·rw[h3];have:=h2.1 ‹_›;omega
 ·rw[h1];have :¬x.getD 0 0=y.getD 0 0:=fun h=>absurd (h2.2 h) ‹_›;omega
theorem J5{zs:List (List Int)}(h:∀x∈zs,∀y∈zs,x.getD 0 0=y.getD 0 0→x.getD 1 0=y.getD 1 0→x=y):yX Lr zs:=
 ⟨fun x _=>by rw[yZ];omega,fun x _ y _ z _=>by rw[yZ,yZ,yZ];omega,fun x _ y _ z _=>by rw[yZ,yZ,yZ];omega,
  fun x hx y hy=>by
   rw[yZ,yZ];intro h1 h2;exact h x hx y hy (by omega) (by omega)⟩
end Go.Proofs

namespace Go.Tr
open Go
section
variable {P:Program} {A:f_} {ops:Array Oper}
theorem oG.gs{i:Nat}{t:S}{k:List Pl→List (Pl×It)→Prop}{g:Tg k}(B:List (Pl×It))(hg:GS A t (over t B))(h:oG P A ops i (over t B) (fun rp W=>k rp (W++B)) .mk):oG P A ops i t k g:=by obtain⟨⟨ι,rp,W,h1,h2⟩⟩:=h;exact⟨⟨ι,rp,fun c=>W c++B,fun a w hi K Q hK=>h1 a w (hg a w hi) K Q (fun c a' w' h=>hK c a' w' (by rw[rZ];exact h)),h2⟩⟩
theorem oG.box{i:Nat}{t:S}{k:List Pl→List (Pl×It)→Prop}{g:Tg k}(p:Pl)(hs:rP p=true)(h:(UH t p).C∧oG P A ops i (over t (UH t p).W) (fun rp W=>k rp (W++(UH t p).W)) .mk):oG P A ops i t k g:=
 oG.gs _ (abv hs h.1) h.2
theorem oG.own{i:Nat}{t:S}{k:List Pl→List (Pl×It)→Prop}{g:Tg k}(p:Pl)(j id:Nat)(cs:List TV)(e z:Nat)(hs:rP p=true)(hp:t p = .box cs)(hj:cs[j]? = some (.c (.slice none 0 0)))(ho:t (.o id) = .none)
  (h:oG P A ops i (over t [(p,.box (cs.set j (.aW id 0))),(.o id,.row e z [] false)]) (fun rp W=>k rp (W++[(p,.box (cs.set j (.aW id 0))),(.o id,.row e z [] false)])) .mk):oG P A ops i t k g:=
 oG.gs [(p,.box (cs.set j (.aW id 0))),(.o id,.row e z [] false)] (GS.ownB e z (fun k e=>by subst e;simp[rP]at hs) hp hj ho) h
end
end Go.Tr

namespace Go.Proofs
def NG(ch:Int→List Int):Nat→List Int→List Int
 | 0,_=>[]
 | _+1,[]=>[]
 | n+1,v::Q=>v::NG ch n (Q++ch v)
structure abm(ch:Int→List Int)(root:Int)(N:List Int):Prop where
 one:∀u v w,u∈ch v→u∈ch w→v=w
 no:∀v,root∉ch v
 nd:∀v,(ch v).Nodup
 sub:∀v,v∈N→∀u∈ch v,u∈N
 root:root∈N
structure Wq(ch:Int→List Int)(root:Int)(N P Q:List Int):Prop where
 nd:(P++Q).Nodup
 cl:∀v∈P,∀u∈ch v,u∈P++Q
 fr:∀u∈P++Q,u=root∨∃v∈P,u∈ch v
 sub:∀u∈P++Q,u∈N
 rt:root∈P++Q
theorem Wq.step{ch:Int→List Int}{root:Int}{N P Q:List Int}{v:Int}(hT:abm ch root N)(h:Wq ch root N P (v::Q)):Wq ch root N (P++[v]) (Q++ch v):=by
 have hnd:=h.nd;have hvP:v∉P:=by intro hv;exact(fV.1 hnd).2.2 v hv v (by simp) rfl
 have hnew:∀u∈ch v,u∉P++v::Q:=by
  intro u hu hm;rcases h.fr u hm with rfl|⟨w,hw,hu'⟩
  ·exact hT.no v hu
  ·have:=hT.one u v w hu hu';subst this;exact hvP hw
 have e:P++[v]++(Q++ch v)=(P++v::Q)++ch v:=by simp
 refine⟨?_,?_,?_,?_,?_⟩
 ·rw[e];exact fV.2 ⟨hnd,hT.nd v,fun a ha b hb hab=>by subst hab;exact hnew a hb ha⟩
 ·intro w hw u hu;rw[e];rcases aN.1 hw with hw|hw
  ·exact aN.2 (.inl (h.cl w hw u hu))
  ·simp at hw;subst hw;exact aN.2 (.inr hu)
 ·intro u hu;rw[e]at hu
  rcases aN.1 hu with hu|hu
  ·rcases h.fr u hu with h1|⟨w,hw,h2⟩
   ·exact .inl h1
   ·exact .inr ⟨w,aN.2 (.inl hw),h2⟩
  ·exact .inr ⟨v,by simp,hu⟩
 ·intro u hu;rw[e]at hu
  rcases aN.1 hu with hu|hu
  ·exact h.sub u hu
  ·exact hT.sub v (h.sub v (by simp)) u hu
 ·rw[e];exact aN.2 (.inl h.rt)
theorem qP:∀{a b:List Int},a.Nodup→(∀x∈a,x∈b)→a.length≤b.length
 | [],_,_,_=>jk _
 | x::a,b,nd,h=>by
   have nd':=bG.1 nd;have hx:x∈b:=h x (by simp);have:=qP (a:=a) (b:=b.erase x) nd'.2 fun y hy=>(nO fun e=>nd'.1 (by rw[←e];exact hy)).2 (h y (by simp[hy]))
   rw[ig hx]at this
   have:=fZ hx;rw[aH];omega
theorem abu{ch:Int→List Int}{root:Int}{N:List Int}(hT:abm ch root N):∀(n:Nat) {P Q:List Int},Wq ch root N P Q→N.length≤P.length+n→Wq ch root N (P++NG ch n Q) []
 | 0,P,Q,h,hn=>by
   have h1:=qP h.nd h.sub;rw[aU]at h1
   obtain rfl:Q = []:=dS.1 (by omega);simpa[NG]using h
 | n+1,P,[],h,hn=>by simpa[NG]using h
 | n+1,P,v::Q,h,hn=>by have:=abu hT n (h.step hT) (by simp;omega);rw[NG];simpa[dP]using this
theorem afn{ch:Int→List Int}{root:Int}{N:List Int}(hT:abm ch root N):Wq ch root N (NG ch N.length [root]) []:=by have:=abu hT N.length (P:=[]) (Q:=[root]) ⟨by simp,by simp,by simp,by simpa using hT.root,by simp⟩ (by simp);simpa using this
inductive ChT (ch:Int→List Int):Int→Int→Prop
 | nil {v:Int}:ChT ch v v
 | cons {v u w:Int}:u∈ch v→ChT ch u w→ChT ch v w
theorem ChT.mem{ch:Int→List Int}{root:Int}{N P:List Int}(h:Wq ch root N P []){v w:Int}(hc:ChT ch v w)(hv:v∈P):w∈P:=by
 induction hc with
 | nil=>exact hv
 | cons h1 _ ih=>exact ih (by simpa using h.cl _ hv _ h1)
def yC(ks:List Int)(h:Int×Int):List Int:=if h.1∈ks∧h.2∉ks then ks++[h.2]else ks
def IB(T:List (Int×Int))(ks:List Int):List Int:=T.foldl yC ks
def Vz(T:List (Int×Int)):Nat→List Int→List Int
 | 0,ks=>ks
 | n+1,ks=>if(IB T ks).length=ks.length then ks else Vz T n (IB T ks)
theorem ajR{ks:List Int}(h:ks.Nodup)(x:Int×Int):(yC ks x).Nodup:=by
 unfold yC;split
 ·rename_i hx;exact fV.2 ⟨h,by simp,fun a ha b hb e=>by simp at hb;subst hb;subst e;exact hx.2 ha⟩
 ·exact h
theorem acF(ks:List Int)(x:Int×Int):ks.length≤(yC ks x).length:=by unfold yC;split<;>simp
theorem ahH{ks:List Int}{x:Int×Int}{y:Int}(h:y∈ks):y∈yC ks x:=by unfold yC;split<;>simp[h]
theorem Na:∀(T:List (Int×Int)) {ks:List Int},ks.Nodup→(IB T ks).Nodup
 | [],_,h=>h
 | x::T,ks,h=>Na T (ajR h x)
theorem IC:∀(T:List (Int×Int)) (ks:List Int),ks.length≤(IB T ks).length
 | [],_=>au _
 | x::T,ks=>dw (acF ks x) (IC T (yC ks x))
theorem Yt:∀(T:List (Int×Int)) {ks:List Int} {y:Int},y∈ks→y∈IB T ks
 | [],_,_,h=>h
 | x::T,_,_,h=>Yt T (ahH h)
theorem IE{B:List Int}:∀{T:List (Int×Int)} {ks:List Int},(∀y∈ks,y∈B)→(∀h∈T,h.2∈B)→∀y∈IB T ks,y∈B
 | [],_,h,_=>h
 | x::T,ks,h,hT=>IE (T:=T) (ks:=yC ks x) (fun y hy=>by
   unfold yC at hy;split at hy
   ·rcases aN.1 hy with hy|hy
    ·exact h y hy
    ·simp at hy;subst hy;exact hT x (by simp)
   ·exact h y hy) (fun z hz=>hT z (by simp[hz]))
theorem Ko:∀{T:List (Int×Int)} {ks:List Int},(IB T ks).length=ks.length→IB T ks=ks∧∀h∈T,h.1∈ks→h.2∈ks
 | [],_,_=>⟨rfl,by simp⟩
 | x::T,ks,h=>by
   have h1:=acF ks x;have h2:=IC T (yC ks x);have h3:(IB T (yC ks x)).length=ks.length:=h;have e:yC ks x=ks:=by
    unfold yC at h1 h2 h3⊢;split
    ·rename_i hx;rw[if_pos hx]at h1 h2 h3;simp at h1 h2 h3;omega
    ·rfl
   obtain⟨h4,h5⟩:=Ko (T:=T) (ks:=ks) (by rw[e]at h3;exact h3);refine⟨by show IB T (yC ks x)=ks;rw[e,h4],fun y hy hm=>?_⟩;rcases aF.1 hy with rfl|hy
   ·unfold yC at e;split at e
    ·exact absurd (congrArg List.length e) (by simp)
    ·rename_i hx;exact Classical.byContradiction fun hn=>hx ⟨hm,hn⟩
   ·exact h5 y hy hm
theorem acE{B:List Int}{T:List (Int×Int)}(hT:∀h∈T,h.2∈B):∀(n:Nat) {ks:List Int},ks.Nodup→(∀y∈ks,y∈B)→B.length<ks.length+n→
  (∀y∈ks,y∈Vz T n ks)∧∀h∈T,h.1∈Vz T n ks→h.2∈Vz T n ks
 | 0,ks,hn,hs,hl=>by have:=qP hn hs;omega
 | n+1,ks,hn,hs,hl=>by
   rw[Vz];split
   ·rename_i h;exact⟨fun y hy=>hy,(Ko h).2⟩
   ·rename_i h;have h1:=IC T ks;obtain⟨h2,h3⟩:=acE hT n (Na T hn) (IE hs hT) (by omega);exact⟨fun y hy=>h2 y (Yt T hy),h3⟩
open Go Go.Lib
theorem UE:∀{a b:List Int},a.Pairwise (· < ·)→b.Pairwise (· < ·)→(∀x,x∈a↔x∈b)→a=b
 | [],[],_,_,_=>rfl
 | [],y::b,_,_,h=>by have:=(h y).2 (by simp);trivial
 | x::a,[],_,_,h=>by have:=(h x).1 (by simp);trivial
 | x::a,y::b,ha,hb,h=>by
   rw[dM]at ha hb
   have hxy:x=y:=by
    have h1:=(h x).1 (by simp);have h2:=(h y).2 (by simp)
    grind
   subst hxy
   congr 1
   refine UE ha.2 hb.2 fun z=>?_
   grind
theorem WU(zs:List Int)(hs:zs.Pairwise (· ≤·)):∀m,m≤zs.length→(compactUpTo zs.toArray m).Pairwise (· < ·)∧(∀x,x∈compactUpTo zs.toArray m↔∃j,j<m∧zs[j]? = some x)
 | 0,_=>by simp[compactUpTo]
 | m+1,hm=>by
   obtain⟨h1,h2⟩:=WU zs hs m (by omega);have hget:∀j,j<zs.length→zs.toArray[j]! = zs.getD j 0:=fun j hj=>by simp[List.getD,hj]
   rw[compactUpTo_succ];have hmz:zs[m]? = some (zs.getD m 0):=by simp[List.getD,show m<zs.length by omega]
   have hle:∀j,j<m→zs.getD j 0≤zs.getD m 0:=fun j hj=>by have:=bC.1 hs j m (by omega) (by omega) hj;simpa[List.getD,show m<zs.length by omega,show j<zs.length by omega]using this
   cases hk:keeps zs.toArray m with
   | false=>
     have h3:0<m∧zs.toArray[m]! = zs.toArray[m-1]! :=by
      have hk' :¬(m=0∨zs.toArray[m]! ≠zs.toArray[m-1]!):=by simpa only[keeps,decide_eq_false_iff_not]using hk
      exact⟨Nat.pos_of_ne_zero fun e=>hk' (.inl e),Classical.byContradiction fun e=>hk' (.inr e)⟩
     rw[if_neg (by simp),bQ];refine⟨h1,fun x=>?_⟩;rw[h2];constructor
     ·rintro⟨j,hj,hx⟩;exact⟨j,by omega,hx⟩
     ·rintro⟨j,hj,hx⟩;by_cases e:j=m
      ·subst e;refine⟨j-1,by omega,?_⟩;have h4:=h3.2;rw[hget j (by omega),hget (j-1) (by omega)]at h4
       rw[hmz]at hx
       simp only[ah]at hx;rw[←hx,h4];simp[List.getD,show j-1<zs.length by omega]
      ·exact⟨j,by omega,hx⟩
   | true=>
     rw[if_pos rfl,hget m (by omega)];refine⟨?_,fun x=>?_⟩
     ·rw[jC];refine⟨h1,by simp,fun x hx y hy=>?_⟩;simp at hy;subst hy;obtain⟨j,hj,hjx⟩:=(h2 x).1 hx;have hxj:zs.getD j 0=x:=by simp[List.getD,hjx]
      have:=hle j hj;have hne:zs.getD (m-1) 0≠zs.getD m 0:=by
       simp only[keeps,bJ,decide_eq_true_eq]at hk;rcases hk with h|h
       ·omega
       ·rw[hget m (by omega),hget (m-1) (by omega)]at h
        exact fun e=>h e.symm
      have hj1:zs.getD j 0≤zs.getD (m-1) 0:=by
       by_cases e:j=m-1
       ·subst e;omega
       ·have:=bC.1 hs j (m-1) (by omega) (by omega) (by omega);simpa[List.getD,show m-1<zs.length by omega,show j<zs.length by omega]using this
      have h5:=hle (m-1) (by omega);rw[←hxj]
      show zs.getD j 0<zs.getD m 0
      omega
     ·rw[aN,h2];simp only[dH];constructor
      ·rintro (⟨j,hj,hx⟩|rfl)
       ·exact⟨j,by omega,hx⟩
       ·exact⟨m,by omega,hmz⟩
      ·rintro⟨j,hj,hx⟩;by_cases e:j=m
       ·subst e;rw[hmz]at hx;simp only[ah]at hx;exact .inr hx.symm
       ·exact .inl ⟨j,by omega,hx⟩
def insPos(n:Int):List Int→Nat
 | []=>0
 | y::r=>if y<n then insPos n r+1 else 0
def yg(l:List Int)(n:Int):List Int:=if l[insPos n l]? = some n then l else l.take (insPos n l)++[n]++l.drop (insPos n l)
theorem adR(n:Int):∀l:List Int,insPos n l≤l.length
 | []=>au _
 | y::r=>by
   have:=adR n r
   grind[insPos]
theorem KJ(n:Int):∀(l:List Int),∀x∈l.take (insPos n l),x<n
 | []=>by simp
 | y::r=>by
   simp only[insPos];split
   ·rename_i h;intro x hx;simp at hx;rcases hx with rfl|hx
    ·exact h
    ·exact KJ n r x hx
   simp
theorem Tj(n:Int):∀(l:List Int) (x:Int),l[insPos n l]? = some x→n≤x
 | [],x,h=>by trivial
 | y::r,x,h=>by
   simp only[insPos]at h;split at h
   ·exact Tj n r x (by simpa using h)
   ·simp at h;omega
theorem CV{l:List Int}(n:Int)(h:l.Pairwise (· < ·)):(yg l n).Pairwise (· < ·)∧∀x,x∈yg l n↔x∈l∨x=n:=by
 unfold yg;split
 ·rename_i he;refine⟨h,fun x=>⟨.inl,fun hx=>hx.elim id fun e=>by subst e;exact bF he⟩⟩
 ·rename_i he;have hl:l.take (insPos n l)++l.drop (insPos n l)=l:=List.take_append_drop _ _;have hp:(l.take (insPos n l)++l.drop (insPos n l)).Pairwise (· < ·):=by rw[hl];exact h
  rw[jC]at hp
  have hd:∀x∈l.drop (insPos n l),n<x:=fun x hx=>by
   cases hc:l.drop (insPos n l)with
   | nil=>rw[hc]at hx;simp at hx
   | cons y r=>
     have hy:l[insPos n l]? = some y:=by
      have:(l.drop (insPos n l))[0]? = some y:=by rw[hc];rfl
      simpa using this
     have h1:=Tj n l y hy;have h2:y≠n:=fun e=>he (by rw[hy,e])
     rw[hc]at hx
     rcases aF.1 hx with rfl|hx
     ·omega
     ·have:=hp.2.1;rw[hc,dM]at this
      have:=this.1 x hx;omega
  refine⟨?_,fun x=>?_⟩
  ·rw[dP,jC];refine⟨hp.1,by simpa using⟨hd,hp.2.1⟩,fun a ha b hb=>?_⟩;have h1:=KJ n l a ha;simp at hb;rcases hb with rfl|hb
   ·exact h1
   ·have:=hd b hb;omega
  ·have:x∈l↔x∈l.take (insPos n l)∨x∈l.drop (insPos n l):=by rw[←aN,hl]
   rw[this];simp only[aN,dH];constructor
   ·rintro ((h|h)|h)
    ·exact .inl (.inl h)
    ·exact .inr h
    ·exact .inl (.inr h)
   ·rintro ((h|h)|h)
    ·exact .inl (.inl h)
    ·exact .inr h
    ·exact .inl (.inr h)
theorem abZ:∀(xs:List Int) (l:List Int),l.Pairwise (· < ·)→(xs.foldl yg l).Pairwise (· < ·)∧∀x,x∈xs.foldl yg l↔x∈l∨x∈xs
 | [],l,h=>⟨h,by simp⟩
 | y::xs,l,h=>by
   obtain⟨h1,h2⟩:=CV y h;obtain⟨h3,h4⟩:=abZ xs _ h1
   grind
end Go.Proofs

namespace Go.Proofs
open Go Go.Tr
abbrev Tp:=List Int×Nat
def ints(l:List Int):D:=.sl (l.map fun n=>[.int .i64 n])
def kH(T:Tp):It:=.box [.d (ints T.1),.d (.int .i64 T.2)]
def jh(T:Tp):Prop:=T.1.length≤600∧∀x∈T.1,I64 x
section
variable (t:S) (ν:List Pl) (b:Nat) (po:Nat→Prop) (T:Tp)
@[simp]theorem am0:PN t ν (kH T)=some (kH T):=by simp[kH]
@[simp]theorem amu:F5 t (kH T)=True:=by simp[kH]
@[simp]theorem am1:IK (kH T) = []:=rfl
@[simp]theorem amY:GI ν b (kH T)=kH T:=rfl
@[simp]theorem ao6:nD (kH T)=true:=rfl
@[simp]theorem amZ:It.only po (kH T)=True:=by simp[kH]
end
def JH(T:Tp):Int×Tp:=if T.1.length≤T.2 then(0,T)else(T.1.getD T.2 0,T.1,T.2+1)
def U6(x n:Int):Int:=if n<1 then 0 else x%n
def eG(T:Tp)(n:Int):Int×Tp:=(U6 (JH T).1 n,(JH T).2)
def ji(T:Tp)(a b:Int):Int×Tp:=(a+(eG T (b-a+1)).1,(eG T (b-a+1)).2)
def Rf(T:Tp)(n:Int):Bool×Tp:=(decide ((eG T n).1=n-1),(eG T n).2)
def m_(T:Tp)(l:List Int):Int×Tp:=(l.getD (eG T l.length).1.toNat 0,(eG T l.length).2)
def apc:List Int:=[-1,0,1,7,8,23,24,31,32,63,64,99,100,255,256,257,1000,1001,1023,1024,1000000,1000001,1099511627776,9223372036854775807,-9223372036854775808]
def xB(T:Tp):Int×Tp:=m_ T apc
theorem JI(T:Tp):(JH T).2.1=T.1:=by unfold JH;split<;>rfl
@[simp]theorem MG(T:Tp):jh (JH T).2=jh T:=by simp[jh,JI]
@[simp]theorem an1(T:Tp)(n:Int):jh (eG T n).2=jh T:=MG T
@[simp]theorem amN(T:Tp)(a b:Int):jh (ji T a b).2=jh T:=MG T
@[simp]theorem aqO(T:Tp)(n:Int):jh (Rf T n).2=jh T:=MG T
@[simp]theorem an2(T:Tp)(l:List Int):jh (m_ T l).2=jh T:=MG T
theorem Xt(x n:Int):0≤U6 x n:=by
 unfold U6;split
 ·simp
 ·exact oK _ (by omega)
theorem ajb(x:Int){n:Int}(h:0<n):U6 x n<n:=by
 unfold U6;split
 ·omega
 ·exact jy _ h
theorem iT(T:Tp)(n:Int):0≤(eG T n).1:=Xt _ _
theorem l7(T:Tp){n:Int}(h:0<n):(eG T n).1<n:=ajb _ h
theorem uD(T:Tp)(a b:Int):a≤(ji T a b).1:=by have:=iT T (b-a+1);simp only[ji];omega
theorem uz(T:Tp){a b:Int}(h:a≤b):(ji T a b).1≤b:=by have:=l7 T (n:=b-a+1) (by omega);simp only[ji];omega
theorem ais{x n:Int}(hn:0<n)(h:x.tmod n<0):x.tmod n+n=x%n:=by
 have e:=@Int.tmod_eq_emod x n;have h1:=oK x (b:=n) (by omega);split at e<;>rename_i g
 ·simp at e;omega
 ·omega
theorem air{x n:Int}(hn:0<n)(h :¬x.tmod n<0):x.tmod n=x%n:=by
 have e:=@Int.tmod_eq_emod x n;have h1:=jy x hn;split at e<;>rename_i g
 ·simp at e;omega
 ·omega
end Go.Proofs

namespace Go.Proofs
open Go Go.Tr
def bv(B:BitVec 64):D:=.int .u64 (tn B)
def eP(n:Int):Bool:=n==8||n==16||n==32||n==64
def Jl(k:Int):BitVec 64:=if k<0∨k>63 then 0#64 else 1#64<<<(IntKind.u64.wrap k).toNat
theorem jY(n:Int):Contract Tryz.prog 30 [.d (.int .i64 n)] [] (.d (.bool (eP n))) [] []:=by
 refine ay Tryz.func30 rfl (fun E0=>?_);refine iC.sound (g:=.mk) (ow:=[]) (kp:=(kb 5)) ?_;rw[Tryz.ntmps30];by_cases h1:n=8<;>by_cases h2:n=16<;>by_cases h3:n=32<;>first
  | omega
  | (simp -dsimp[h1,h2,h3]
     refine Fin.of ?_;simp[eP,h1,h2,h3])
def Xo:Nat→BitVec 64
 | 0=>0#64
 | n+1=>Xo n|||Jl n
def EP(n:Int):BitVec 64:=if eP n=true then Xo n.toNat else 0#64
def OC:Nat→Tp→List Int×Tp
 | 0,T=>([],T)
 | n+1,T=>((eG T 256).1::(OC n (eG T 256).2).1,(OC n (eG T 256).2).2)
def Xv(T:Tp)(most:Int):List Int×Tp:=OC (ji T 0 most).1.toNat (ji T 0 most).2
def agb(T:Tp)(k:Int):BitVec 64×Tp:=
 let r1:=JH T
 let r2:=JH r1.2
 let s:=eG r2.2 6
 if s.1=0 then(0#64,s.2)
 else if s.1=1 then(Jl (eG s.2 k).1&&&EP k,(eG s.2 k).2)
 else if s.1=2 then(~~~ 0#64&&&EP k,s.2)
 else((wu (tn (wu r1.1)*11400714819323198485) ^^^ wu r2.1)&&&EP k,s.2)
def D6:Nat→Nat→Tp→List Int→List Int×Tp
 | 0,_,T,out=>(out,T)
 | n+1,i,T,out=>D6 n (i+1) (eG T (i+1)).2 (out.take (eG T (i+1)).1.toNat++[(i:Int)]++out.drop (eG T (i+1)).1.toNat)
def ZW(T:Tp)(n:Int):List Int×Tp:=D6 n.toNat 0 T []
structure Pk where
 mode:Int
 jd:Int
 set:Int
 len:Int
 ttl:Int
 ent:Int
 ing:Int
 proto:Int
 bits:BitVec 64
 pay:ByteArray
def Pk.cs(p:Pk):List D:=[.int .i64 p.mode,.int .i64 p.jd,.int .i64 p.set,.int .i64 p.len,.int .i64 p.ttl,.int .i64 p.ent,.int .i64 p.ing,.int .i64 p.proto,bv p.bits,.str p.pay]
def Xu(T:Tp):Pk×Tp:=
 let L:=m_ T [8,8,16,32,64]
 let m:=ji L.2 1 3
 let d:=ji m.2 0 7
 let s:=m_ d.2 [0,0,1,2,31]
 let t:=m_ s.2 [0,1,2,5,63]
 let e:=eG t.2 1024
 let i:=m_ e.2 [0,1,8,255,256]
 let p:=eG i.2 8
 let b:=agb p.2 L.1
 let y:=Xv b.2 6
 (⟨m.1,d.1,s.1,L.1,t.1,e.1,i.1,p.1,b.1,strOf y.1⟩,y.2)
theorem SL:∀(n:Nat) (T:Tp),jh (OC n T).2=jh T
 | 0,T=>rfl
 | n+1,T=>by simp[OC,SL n]
@[simp]theorem an4(T:Tp)(k:Int):jh (Xv T k).2=jh T:=by simp[Xv,SL]
@[simp]theorem anX(T:Tp)(k:Int):jh (agb T k).2=jh T:=by
 simp only[agb];split
 ·simp
 ·split
  ·simp
  ·split<;>simp
def abc:ByteArray:=⟨#[97,98,99]⟩
def grow:Nat→ByteArray→ByteArray
 | 0,s=>s
 | n+1,s=>if s.size<62 then grow n (s++abc)else s
def abP(T:Tp)(p:Pk):Pk×Tp:=
 let s:=eG T 9
 if s.1=0 then(⟨(xB s.2).1,p.jd,p.set,p.len,p.ttl,p.ent,p.ing,p.proto,p.bits,p.pay⟩,(xB s.2).2)
 else if s.1=1 then(⟨p.mode,(xB s.2).1,p.set,p.len,p.ttl,p.ent,p.ing,p.proto,p.bits,p.pay⟩,(xB s.2).2)
 else if s.1=2 then(⟨p.mode,p.jd,(xB s.2).1,p.len,p.ttl,p.ent,p.ing,p.proto,p.bits,p.pay⟩,(xB s.2).2)
 else if s.1=3 then(⟨p.mode,p.jd,p.set,(m_ s.2 [0,8,16,24,63,64,65,-8]).1,p.ttl,p.ent,p.ing,p.proto,p.bits,p.pay⟩,(m_ s.2 [0,8,16,24,63,64,65,-8]).2)
 else if s.1=4 then(⟨p.mode,p.jd,p.set,p.len,(xB s.2).1,p.ent,p.ing,p.proto,p.bits,p.pay⟩,(xB s.2).2)
 else if s.1=5 then(⟨p.mode,p.jd,p.set,p.len,p.ttl,(xB s.2).1,p.ing,p.proto,p.bits,p.pay⟩,(xB s.2).2)
 else if s.1=6 then(⟨p.mode,p.jd,p.set,p.len,p.ttl,p.ent,(xB s.2).1,p.proto,p.bits,p.pay⟩,(xB s.2).2)
 else if s.1=7 then(⟨p.mode,p.jd,p.set,p.len,p.ttl,p.ent,p.ing,(xB s.2).1,p.bits,p.pay⟩,(xB s.2).2)
 else(⟨p.mode,p.jd,p.set,p.len,p.ttl,p.ent,p.ing,p.proto,p.bits,grow 62 p.pay++strOf (Xv s.2 4).1⟩,(Xv s.2 4).2)
def abO(T:Tp)(n:Int):Pk×Tp:=
 if 0<n then
  if(Rf (Xu T).2 n).1 then abP (Rf (Xu T).2 n).2 (Xu T).1 else((Xu T).1,(Rf (Xu T).2 n).2)
 else Xu T
def sH(p:Pk):TV:=.agg (p.cs.map .d)
structure Lk where
 a:Int
 b:Int
 ca:Int
 cb:Int
 cap:Int
def Lk.cs(x:Lk):List D:=[.int .i64 x.a,.int .i64 x.b,.int .i64 x.ca,.int .i64 x.cb,.int .i64 x.cap]
def nS(l:List Lk):List (List D):=l.map Lk.cs
def Lk.before(y x:Lk):Bool:=decide (y.a<x.a)||(decide (y.a=x.a)&&decide (y.b<x.b))
def agP(x:Lk):List Lk→Nat
 | []=>0
 | y::r=>if y.before x then agP x r+1 else 0
def aoU:List Lk→List Lk→List Lk
 | [],out=>out
 | x::l,out=>aoU l (out.take (agP x out)++[x]++out.drop (agP x out))
@[simp]theorem aqR(l:List Lk):(nS l).length=l.length:=by simp[nS]
theorem uT{l:List Lk}{i:Nat}{x:Lk}(h:l[i]? = some x):(nS l)[i]? = some x.cs:=by simp[nS,h]
def pks(l:List Pk):List (List D):=l.map Pk.cs
@[simp]theorem aqX(l:List Pk):(pks l).length=l.length:=by simp[pks]
end Go.Proofs
