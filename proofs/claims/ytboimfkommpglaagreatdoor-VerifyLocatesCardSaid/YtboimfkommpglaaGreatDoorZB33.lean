/-
  What functions of the program compute, stated as contracts over plain data; the conditions of each stand in its own statement.
-/
import Derived.Test.YtboimfkommpglaaGreatDoorZB31
import Derived.Test.YtboimfkommpglaaGreatDoorZB32
import Derived.LaidMore
import Derived.Stop.Joined
import Derived.SevenTiedAt
import Derived.JoinedOf
set_option linter.unusedVariables false
set_option linter.unusedSimpArgs false
namespace Go.Proofs.YtboimfkommpglaaGreatDoor.verifyLocates
open Go
theorem j10:(Rows.verifyLocatesRow.inPlace==Tryz.prog.inPlace 10)=true:=by kernel_rfl
theorem j11:(Rows.verifyLocatesRow.unfollowed==Tryz.prog.unfollowed 10)=true:=by kernel_rfl
theorem j12:(Rows.verifyLocatesRow.recurses==Tryz.prog.recurses 10)=true:=by kernel_rfl
theorem j13:(Rows.verifyLocatesRow.named==Tryz.prog.varsNamed 10)=true:=by kernel_rfl
theorem j23:(Rows.verifyLocatesRow.plainKeys==Tryz.prog.plainKeys)=true:=by kernel_rfl
theorem j27:(Rows.verifyLocatesRow.lifted==Tryz.prog.liftsFinal)=true:=by kernel_rfl
theorem j28:(Tryz.prog.make==some Rows.verifyLocatesRow.make)=true:=by kernel_rfl
theorem goes:false=Rows.verifyLocatesRow.goesBy Tryz.prog:=by kernel_rfl
theorem nam : Tryz.prog.funcNamed "bitcast/bitcastlaw36.VerifyLocates" = some 10 := by kernel_rfl
set_option maxRecDepth 100000 in
theorem closed:joinedFacts Tryz.prog 10 Tryz.f10 Rows.verifyLocatesSpec Rows.verifyLocatesRow=true:=by
 delta joinedFacts
 exact(cf.gX (cf.gX (cf.gX (cf.gX (cf.gX (cf.gX (cf.gX (cf.gX (cf.gX (cf.gX (cf.gX (cf.gX (cf.gX (cf.gX (cf.gX (cf.gX (cf.gX (cf.gX (cf.gX (cf.gX (cf.gX (cf.gX (cf.gX (cf.gX (cf.gX (cf.gX (cf.gX (cf.gX (cf.gX (cf.gX (cf.gX (by kernel_rfl) cf.laidOut) cf.rowed) (by kernel_rfl)) (by kernel_rfl)) (by kernel_rfl)) (by kernel_rfl)) (by kernel_rfl)) (by kernel_rfl)) j10) j11) j12) j13) (by kernel_rfl)) (by kernel_rfl)) (by kernel_rfl)) (by kernel_rfl)) (by kernel_rfl)) (by kernel_rfl)) (by kernel_rfl)) (by kernel_rfl)) (by kernel_rfl)) j23) (by kernel_rfl)) cf.heard) cf.may) j27) j28) (by kernel_rfl)) (by kernel_rfl)) (by kernel_rfl)) (by kernel_rfl))
theorem inst:Tryz.f10.isInstance Tryz.prog Rows.verifyLocatesRow.origin Rows.verifyLocatesRow.targs:=of_decide_eq_true (by kernel_rfl)
theorem wrap:Tryz.f10.isWrapper Tryz.prog Rows.verifyLocatesRow.wrapper Rows.verifyLocatesRow.mainSum:=by unfold Func.isWrapper;first|(rw[if_pos (by decide+kernel)];kernel_rfl)|(rw[if_neg (by decide+kernel)];exact⟨rfl,rfl⟩)
end Go.Proofs.YtboimfkommpglaaGreatDoor.verifyLocates
