/-
  What functions of the program compute, stated as contracts over plain data; the conditions of each stand in its own statement.
-/
import Derived.Test.YtkikielfhjoogaaGreatDoorZA37
import Derived.Test.YtkikielfhjoogaaGreatDoorRows
import Derived.Test.YtkikielfhjoogaaGreatDoorTie
import Derived.Test.YtkikielfhjoogaaGreatDoorCards
import Derived.WalkKit
import Derived.ProofKit
import Derived.OpenShut
import Derived.ShutString
import Derived.ChangeOld
import Derived.Below
import Derived.LaidMore
import Derived.Stop.Joined
import Derived.SevenTiedAt
set_option linter.unusedVariables false
namespace Go.Proofs.YtkikielfhjoogaaGreatDoor.topModes
open Go.ChangeShapes Go.WideShapes Go.ChangeAt Go.RowKit Go.Tr
open Go.ChangeMaps (open_string shut_string)
def ty0:Ty:=.sl (.int .i64)
theorem walk{ds0:List D}{v0:Value}{w:World}(hg:Wn w)(h0:ty0.has ds0)(r0:aP (XG w) (ty0.tv ds0) v0):
  Calls Tryz.prog 3 #[v0] w fun e w'=>e = .returned (.bool true)∧Below w.heap.size w w':=by
 obtain⟨a0,rfl,_,k0⟩:=agk h0;exact(aeb a0 (fun n hn=>wf_i64 (k0 n hn))).true hg (us:=[v0]) ⟨_,_,rfl,r0,rfl⟩
theorem door_met(os:Os)(args:Array Value):laidMetH Tryz.prog XV ((World.doorLaid Tryz.prog 400 os).forCall (fun _ _=>0) ⟨#[],args,[]⟩).memory:=
 laidMetH_of_parts3 (fuel:=8) (laidMet_of_run' 8 (by kernel_rfl) (by kernel_rfl)) (by kernel_rfl) (by kernel_rfl)
set_option maxRecDepth 100000 in
theorem lifted(os:Os)(started:os.Started)(H:Type)(enc:TypeId×Value→H):
  ReturnsInHanded {} Tryz.checked os 3 .any (fun w args=>(Rows.topModesSpec.pre enc Tryz.prog Tryz.f3 [] false w args∧laidMetH Tryz.prog XV w)∧sizedMet enc Tryz.prog Tryz.f3 (OpenSpec.ofChange Rows.topModesSpec) false w args)
   (Rows.topModesSpec.post enc Tryz.prog Tryz.f3 false true false false):=by
 refine returnsInHanded_of_change_and (C:=Tryz.checked) (X:=fun w _=>laidMetH Tryz.prog XV w) (fun _ _ _ hh h=>h.of_heap hh) cf.own started (by kernel_rfl) Tryz.func3
  (ChangeSpec.witness_shaped (enc:=enc) (C:=Tryz.checked) (os:=os) (X:=fun w _=>laidMetH Tryz.prog XV w) false (World.doorLaid Tryz.prog 400 os) #[.slice none 0 0] 8 rfl (World.shaped_of_RefB (by kernel_rfl) (by kernel_rfl)) (by kernel_rfl) (by kernel_rfl) (by kernel_rfl) (door_met os _)) ?_
 intro W base args ds gs before hval0 hW _ _ hL _;have hg:=U7 hL;have hval:∀(j:Nat) t v,Tryz.f3.params[j]? = some t→args[j]? = some v→Value.okWide Tryz.prog W .any base t v:=hval0;have hW':=hW;obtain⟨p,q,hA0,hV,rfl,hfz,hnd⟩:=hW;have hA:DataW.TrodAll enc Tryz.prog W 0 (fun _=>true) true Tryz.f3.params.toList args.toList ds p:=hA0;rw[Tryz.params3]at hA hval
 obtain⟨v0,vs0,d0,ds0,p0,q0,hargs,rfl,rfl,h0,r0⟩:=trodAll_cons hA;obtain⟨rfl,rfl,rfl⟩:=trodAll_nil r0;obtain rfl:args = #[v0]:=by cases args;simp_all
 obtain⟨rfl,rfl⟩:=trodVars_none hV;have lt0:∀x∈p0,x.block<W.heap.size:=by obtain⟨m,hm⟩:=h0;exact DataW.trod_lt m _ _ _ hm
 obtain⟨b0,t0,e0⟩:=aiF ty0 (by kernel_rfl) (hval 0 22 v0 rfl rfl) h0;clear hA0 hval0;refine(walk hg t0 e0).mono fun e W' ⟨he,bel⟩=>?_
 subst he;exact⟨_,rfl,_,_,_,[],_,[],hW',trodAll_mk1 (shut_bool Tryz.underlying4 _),(trodAll_cons_mk (Below.trod cf.laidOut (by kernel_rfl) (of_decide_eq_true (by kernel_rfl)) h0 bel lt0) trodAll_mk0),rfl,bel.frame _,fun h=>by cases h⟩
theorem over:Rows.topModesRow.holds Tryz.pinned (OpenSpec.ofChange Rows.topModesSpec):=
 OpenClaim.holds_of_wide 3 Tryz.f3 rfl rfl rfl rfl rfl rfl rfl ⟨rfl,rfl,rfl,rfl,rfl⟩ rfl rfl rfl rfl rfl nam Tryz.func3 closed
  inst wrap
  (fun os started H enc _=>lifted os started H enc)
theorem proved:Rows.TopModesCardSaid:=
 Claim7.holds_tied_plain_at .later [] [.data] true (true, "03433fd13d130b1aade41679ccafe5e967f7ffe02d1cd6a59bbcd7a36c7c4c8e") false
  over (fun _ h=>by cases h) (by kernel_rfl) (fun _ h=>by cases h) topModes_row_tie rfl ⟨rfl,rfl⟩ cf.main rfl
  (fun f fn hf hfn=>by
   obtain rfl:f=3:=Option.some.inj (nam.symm.trans hf) |>.symm;obtain rfl:fn=Tryz.f3:=(Option.some.inj (Tryz.func3.symm.trans hfn)).symm;exact⟨cf.looks,fun j t ht=>by
    rw[Tryz.params3]at ht
    have hm:t∈[22]:=by simpa using Array.mem_of_getElem? ht
    have hall:([22].all fun u=>!Tryz.prog.wantsStandIn u)=true:=by kernel_rfl
    exact(show Tryz.prog.wantsStandIn t=false by simpa using bM.1 hall t hm)⟩)
  goes
#print axioms proved
end Go.Proofs.YtkikielfhjoogaaGreatDoor.topModes
