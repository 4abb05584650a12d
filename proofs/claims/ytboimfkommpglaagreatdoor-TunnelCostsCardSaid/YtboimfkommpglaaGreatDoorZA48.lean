/-
  What functions of the program compute, stated as contracts over plain data; the conditions of each stand in its own statement.
-/
import Derived.Test.YtboimfkommpglaaGreatDoorZA29
import Derived.Test.YtboimfkommpglaaGreatDoorZA47
import Derived.LaidMore
import Derived.Stop.Joined
import Derived.SevenTiedAt
import Derived.JoinedOf
namespace Go.Proofs.YtboimfkommpglaaGreatDoor.tunnelCosts
open Go
theorem j10:(Rows.tunnelCostsRow.inPlace==Tryz.prog.inPlace 7)=true:=by kernel_rfl
theorem j11:(Rows.tunnelCostsRow.unfollowed==Tryz.prog.unfollowed 7)=true:=by kernel_rfl
theorem j12:(Rows.tunnelCostsRow.recurses==Tryz.prog.recurses 7)=true:=by kernel_rfl
theorem j13:(Rows.tunnelCostsRow.named==Tryz.prog.varsNamed 7)=true:=by kernel_rfl
theorem j23:(Rows.tunnelCostsRow.plainKeys==Tryz.prog.plainKeys)=true:=by kernel_rfl
theorem j27:(Rows.tunnelCostsRow.lifted==Tryz.prog.liftsFinal)=true:=by kernel_rfl
theorem j28:(Tryz.prog.make==some Rows.tunnelCostsRow.make)=true:=by kernel_rfl
theorem goes:false=Rows.tunnelCostsRow.goesBy Tryz.prog:=by kernel_rfl
theorem VB : Tryz.prog.funcNamed "bitcast/bitcastlaw16.TunnelCosts" = some 7 := by kernel_rfl
set_option maxRecDepth 100000 in
theorem closed:joinedFacts Tryz.prog 7 Tryz.f7 Rows.tunnelCostsSpec Rows.tunnelCostsRow=true:=by
 delta joinedFacts
 exact(cf.bK (cf.bK (cf.bK (cf.bK (cf.bK (cf.bK (cf.bK (cf.bK (cf.bK (cf.bK (cf.bK (cf.bK (cf.bK (cf.bK (cf.bK (cf.bK (cf.bK (cf.bK (cf.bK (cf.bK (cf.bK (cf.bK (cf.bK (cf.bK (cf.bK (cf.bK (cf.bK (cf.bK (cf.bK (cf.bK (cf.bK (by kernel_rfl) cf.laidOut) cf.rowed) (by kernel_rfl)) (by kernel_rfl)) (by kernel_rfl)) (by kernel_rfl)) (by kernel_rfl)) (by kernel_rfl)) j10) j11) j12) j13) (by kernel_rfl)) (by kernel_rfl)) (by kernel_rfl)) (by kernel_rfl)) (by kernel_rfl)) (by kernel_rfl)) (by kernel_rfl)) (by kernel_rfl)) (by kernel_rfl)) j23) (by kernel_rfl)) cf.heard) cf.may) j27) j28) (by kernel_rfl)) (by kernel_rfl)) (by kernel_rfl)) (by kernel_rfl))
theorem inst:Tryz.f7.isInstance Tryz.prog Rows.tunnelCostsRow.origin Rows.tunnelCostsRow.targs:=of_decide_eq_true (by kernel_rfl)
theorem wrap:Tryz.f7.isWrapper Tryz.prog Rows.tunnelCostsRow.wrapper Rows.tunnelCostsRow.mainSum:=by unfold Func.isWrapper;first|(rw[if_pos (by decide+kernel)];kernel_rfl)|(rw[if_neg (by decide+kernel)];exact⟨rfl,rfl⟩)
end Go.Proofs.YtboimfkommpglaaGreatDoor.tunnelCosts
