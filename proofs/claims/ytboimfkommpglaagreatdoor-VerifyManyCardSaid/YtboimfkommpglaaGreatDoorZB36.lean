/-
  What functions of the program compute, stated as contracts over plain data; the conditions of each stand in its own statement.
-/
import Derived.Test.YtboimfkommpglaaGreatDoorZB31
import Derived.Test.YtboimfkommpglaaGreatDoorZB35
import Derived.LaidMore
import Derived.Stop.Joined
import Derived.SevenTiedAt
import Derived.JoinedOf
set_option linter.unusedVariables false
set_option linter.unusedSimpArgs false
namespace Go.Proofs.YtboimfkommpglaaGreatDoor.verifyMany
open Go
theorem j10:(Rows.verifyManyRow.inPlace==Tryz.prog.inPlace 11)=true:=by kernel_rfl
theorem j11:(Rows.verifyManyRow.unfollowed==Tryz.prog.unfollowed 11)=true:=by kernel_rfl
theorem j12:(Rows.verifyManyRow.recurses==Tryz.prog.recurses 11)=true:=by kernel_rfl
theorem j13:(Rows.verifyManyRow.named==Tryz.prog.varsNamed 11)=true:=by kernel_rfl
theorem j23:(Rows.verifyManyRow.plainKeys==Tryz.prog.plainKeys)=true:=by kernel_rfl
theorem j27:(Rows.verifyManyRow.lifted==Tryz.prog.liftsFinal)=true:=by kernel_rfl
theorem j28:(Tryz.prog.make==some Rows.verifyManyRow.make)=true:=by kernel_rfl
theorem goes:false=Rows.verifyManyRow.goesBy Tryz.prog:=by kernel_rfl
theorem nam : Tryz.prog.funcNamed "bitcast/bitcastlaw36.VerifyMany" = some 11 := by kernel_rfl
set_option maxRecDepth 100000 in
theorem closed:joinedFacts Tryz.prog 11 Tryz.f11 Rows.verifyManySpec Rows.verifyManyRow=true:=by
 delta joinedFacts
 exact(cf.gX (cf.gX (cf.gX (cf.gX (cf.gX (cf.gX (cf.gX (cf.gX (cf.gX (cf.gX (cf.gX (cf.gX (cf.gX (cf.gX (cf.gX (cf.gX (cf.gX (cf.gX (cf.gX (cf.gX (cf.gX (cf.gX (cf.gX (cf.gX (cf.gX (cf.gX (cf.gX (cf.gX (cf.gX (cf.gX (cf.gX (by kernel_rfl) cf.laidOut) cf.rowed) (by kernel_rfl)) (by kernel_rfl)) (by kernel_rfl)) (by kernel_rfl)) (by kernel_rfl)) (by kernel_rfl)) j10) j11) j12) j13) (by kernel_rfl)) (by kernel_rfl)) (by kernel_rfl)) (by kernel_rfl)) (by kernel_rfl)) (by kernel_rfl)) (by kernel_rfl)) (by kernel_rfl)) (by kernel_rfl)) j23) (by kernel_rfl)) cf.heard) cf.may) j27) j28) (by kernel_rfl)) (by kernel_rfl)) (by kernel_rfl)) (by kernel_rfl))
theorem inst:Tryz.f11.isInstance Tryz.prog Rows.verifyManyRow.origin Rows.verifyManyRow.targs:=of_decide_eq_true (by kernel_rfl)
theorem wrap:Tryz.f11.isWrapper Tryz.prog Rows.verifyManyRow.wrapper Rows.verifyManyRow.mainSum:=by unfold Func.isWrapper;first|(rw[if_pos (by decide+kernel)];kernel_rfl)|(rw[if_neg (by decide+kernel)];exact⟨rfl,rfl⟩)
end Go.Proofs.YtboimfkommpglaaGreatDoor.verifyMany
