/-
  Laws of the layer between the model and plain data (states, operations, calls, loops); none has a condition beyond those that stand in its own statement.
-/
import Derived.Test.YtkhneohilohhiaaT20
set_option linter.unusedSimpArgs false
namespace Go.Tr
open Go

/-! ### how a text is reckoned by simp -/
theorem AEff_some {N : Nat} {o : Oper} {gp : List Pl} {e : Eff} {k : List Pl → List (Pl × It) → Prop} {g : Tg k} : AEff N o gp (some e) k g = (dstOK N o = true ∧ e.C ∧ k (gp ++ e.rp) (dstW o e.v e.W)) := rfl
theorem AGv_some {N : Nat} {o : Oper} {gp : List Pl} {b : Bool} {X : List Pl → Prop} {k : List Pl → List (Pl × It) → Prop} {x : Tg X} {g : Tg k} : AGv N o (some (gp, b)) X k x g = AIf b (X gp) (dstOK N o = true ∧ k gp (dstW o (.c undef) [])) .mk .mk := rfl
theorem ACond_some {b : Bool} {X Y : Prop} {x : Tg X} {y : Tg Y} : ACond (some b) X Y x y = AIf b X Y .mk .mk := rfl
theorem look_nil (p : Pl) : look [] p = .none := rfl
theorem look_cons (q : Pl) (i : It) (l : List (Pl × It)) (p : Pl) : look ((q, i) :: l) p = if p = q then i else look l p := rfl
theorem keptL_nil (kp : Nat → Bool) : keptL kp [] = [] := rfl
theorem keptL_s (kp : Nat → Bool) (k : Nat) (i : It) (l : List (Pl × It)) : keptL kp ((.s k, i) :: l) = if kp k then (.s k, i) :: keptL kp l else keptL kp l := rfl
theorem keptL_o (kp : Nat → Bool) (k : Nat) (i : It) (l : List (Pl × It)) : keptL kp ((.o k, i) :: l) = (.o k, i) :: keptL kp l := rfl
theorem keptL_x (kp : Nat → Bool) (k : Nat) (i : It) (l : List (Pl × It)) : keptL kp ((.x k, i) :: l) = (.x k, i) :: keptL kp l := rfl
theorem thn_normal (K : S → Prop) (Q : Exit → S → Prop) (t : S) : thn K Q .normal t = K t := rfl
theorem thn_ret (K : S → Prop) (Q : Exit → S → Prop) (t : S) : thn K Q .ret t = Q .ret t := rfl
theorem thn_exit (K : S → Prop) (Q : Exit → S → Prop) (t : S) (n : Nat) : thn K Q (.exit n) t = Q (.exit n) t := rfl
theorem thn_goto (K : S → Prop) (Q : Exit → S → Prop) (t : S) (n : Nat) : thn K Q (.goto n) t = Q (.goto n) t := rfl
theorem blkQ_normal (Q : Exit → S → Prop) (t : S) (b : Nat) : blkQ b Q .normal t = Q .normal t := rfl
theorem blkQ_ret (Q : Exit → S → Prop) (t : S) (b : Nat) : blkQ b Q .ret t = Q .ret t := rfl
theorem blkQ_goto (Q : Exit → S → Prop) (t : S) (b n : Nat) : blkQ b Q (.goto n) t = Q (.goto n) t := rfl
theorem blkQ_exit (Q : Exit → S → Prop) (t : S) (b n : Nat) : blkQ b Q (.exit n) t = if n = b then Q .normal t else Q (.exit n) t := rfl
theorem AView_none {X : Prop} {Y : List Pl → List (Pl × It) → Prop} {x : Tg X} {y : Tg Y} : AView .none X Y x y = X := rfl
theorem AView_some {C : Prop} {rp : List Pl} {W : List (Pl × It)} {X : Prop} {Y : List Pl → List (Pl × It) → Prop} {x : Tg X} {y : Tg Y} : AView (.some C rp W) X Y x y = (C ∧ Y rp W) := rfl
theorem VR_C_none : VR.none.C = True := rfl
theorem VR_W_none : VR.none.W = [] := rfl
theorem VR_C_some (C : Prop) (rp : List Pl) (W : List (Pl × It)) : (VR.some C rp W).C = C := rfl
theorem VR_W_some (C : Prop) (rp : List Pl) (W : List (Pl × It)) : (VR.some C rp W).W = W := rfl
attribute [simp] AView_none AView_some VR_C_none VR_C_some VR_W_none VR_W_some viewL viewX viewsOf undef seeV seeVs eqT eqL u8s fillT
theorem AEnd_true {P : Program} {ops : Array Oper} {L : Log} {X : Prop} : AEnd P ops L X true = (X ∧ (P.follows .mixedOrders = true ∧ ADraw ops (shapes L []))) := rfl
theorem AEnd_false {P : Program} {ops : Array Oper} {L : Log} {X : Prop} : AEnd P ops L X false = X := rfl
theorem AOp_eq {P : Program} {A : Actv} {ow : List Nat} {ops : Array Oper} {o : Oper} {i : Nat} {t : S} {k : List Pl → List (Pl × It) → Prop} {g : Tg k} : AOp P A ow ops o i t k g =
    AGv A.N o (gv ops t o) (fun gp => AView (viewL t (viewsOf ow o.op)) (AIf (isGo o.op) (ACall P A ops i t k .mk) (AEff A.N o gp (eff P ow t o) k .mk) .mk .mk)
    (fun rp0 W0 => AIf (isGo o.op) (ACall P A ops i (over t W0) (fun rp W => k (rp0 ++ rp) (W ++ W0)) .mk)
    (AEff A.N o gp (eff P ow (over t W0) o) (fun rp W => k (rp0 ++ rp) (W ++ W0)) .mk) .mk .mk) .mk .mk) k .mk .mk := rfl
attribute [simp] and_assoc List.getElem?_cons_zero List.getElem?_cons_succ AEnd_true AEnd_false shapes AEff_some AGv_some ACond_some AIf_true AIf_false awp AOps AOp_eq gv isGo eff ev pl look_nil look_cons put1 upd_look over dstW dstOK condB thn_normal thn_ret thn_exit thn_goto blkQ_normal blkQ_ret blkQ_goto blkQ_exit kept_look keptL_nil keptL_s keptL_o keptL_x entL xL
  effPick effBin binD binI binS isShift binStr effUn unD effConv effNil effFieldAddr effField effIndexAddr effIndex effExtract cellsOf effLoad effStore effLen srcOf effAppend effAlloc effBox effBuild effBuildSlice effSlice effSlice3 effMinMax effCall effMakeMap effLookup effMapUpdate effMakeSlice lkV mget mput effFunc TV.cells TV.one setAt partT ofVal ofCell zcells plO cutB asInt?

end Go.Tr
