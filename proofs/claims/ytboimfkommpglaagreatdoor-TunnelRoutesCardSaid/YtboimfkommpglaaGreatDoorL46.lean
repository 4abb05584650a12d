/-
  What functions of the program compute, stated as contracts over plain data; the conditions of each stand in its own statement.
-/
import Derived.Test.YtboimfkommpglaaGreatDoorZA31
import Derived.Test.YtboimfkommpglaaGreatDoorZA30
import Derived.Test.YtboimfkommpglaaGreatDoorRows
import Derived.Test.YtboimfkommpglaaGreatDoorTie
import Derived.Test.YtboimfkommpglaaGreatDoorCards
import Derived.WalkKit
import Derived.ProofKit
import Derived.OpenShut
import Derived.ShutString
import Derived.ChangeOld
import Derived.Below
import Derived.LaidMore
import Derived.Stop.Joined
import Derived.SevenTiedAt
/-
 Every call of TunnelRoutes returns true,whatever the arguments are,and changes nothing that was there before.
 The package-level table of math/bits is as the program's text lays it (the card's tie,which is given). The statement is the given one,Rows.TunnelRoutesCardSaid.
-/
set_option linter.unusedVariables false
namespace Go.Proofs.YtboimfkommpglaaGreatDoor.tunnelRoutes
open Go.ChangeShapes Go.WideShapes Go.ChangeAt Go.RowKit Go.Tr
open Go.ChangeMaps (open_string shut_string)
def ty0:Ty:=.sl (.int .i64)
def ty1:Ty:=.int .i64
def ty2:Ty:=.int .i64
def ty3:Ty:=.st [.int .i64,.st [.sl (.int .i64),.st [.int .i64,.int .i64,.int .i64,.int .i64,.int .i64,.int .i64,.int .i64,.int .i64,.int .u64,.str]]]
theorem walk{ds0:List D}{v0:Value}{ds1:List D}{v1:Value}{ds2:List D}{v2:Value}{ds3:List D}{v3:Value}{w:World}(hg:Hz w)(h0:ty0.has ds0)(h1:ty1.has ds1)(h2:ty2.has ds2)(h3:ty3.has ds3)(r0:aA (MJ w) (ty0.tv ds0) v0)(r1:aA (MJ w) (ty1.tv ds1) v1)(r2:aA (MJ w) (ty2.tv ds2) v2)(r3:aA (MJ w) (ty3.tv ds3) v3):
  Calls Tryz.prog 3 #[v0,v1,v2,v3] w fun e w'=>e = .returned (.bool true)∧Below w.heap.size w w':=by
 obtain⟨a0,rfl,_,k0⟩:=yQ h0;obtain⟨a1,rfl⟩:=Gq h1;obtain⟨a2,rfl⟩:=Gq h2;obtain⟨a3,rfl⟩:=aiQ h3;exact(Zo a0 (fun n hn=>wf_i64 (k0 n hn)) a1 a2 a3).true hg (us:=[v0,v1,v2,v3]) ⟨_,_,rfl,r0,_,_,rfl,r1,_,_,rfl,r2,_,_,rfl,r3,rfl⟩
theorem door_met(os:Os)(args:Array Value):laidMetH Tryz.prog qZ ((World.doorLaid Tryz.prog 400 os).forCall (fun _ _=>0) ⟨#[],args,[]⟩).memory:=
 laidMetH_of_parts3 (fuel:=8) (laidMet_of_run' 8 (by kernel_rfl) (by kernel_rfl)) (by kernel_rfl) (by kernel_rfl)
set_option maxRecDepth 100000 in
theorem lifted(os:Os)(started:os.Started)(H:Type)(enc:TypeId×Value→H):
  ReturnsInHanded {} Tryz.checked os 3 .any (fun w args=>(Rows.tunnelRoutesSpec.pre enc Tryz.prog Tryz.f3 [] false w args∧laidMetH Tryz.prog qZ w)∧sizedMet enc Tryz.prog Tryz.f3 (OpenSpec.ofChange Rows.tunnelRoutesSpec) false w args)
   (Rows.tunnelRoutesSpec.post enc Tryz.prog Tryz.f3 false true false false):=by
 refine returnsInHanded_of_change_and (C:=Tryz.checked) (X:=fun w _=>laidMetH Tryz.prog qZ w) (fun _ _ _ hh h=>h.of_heap hh) cf.own started (by kernel_rfl) Tryz.func3
  (ChangeSpec.witness_shaped (enc:=enc) (C:=Tryz.checked) (os:=os) (X:=fun w _=>laidMetH Tryz.prog qZ w) false (World.doorLaid Tryz.prog 400 os) #[.slice none 0 0,.int .i64 0,.int .i64 0,.agg #[.int .i64 0,.slice none 0 0,.int .i64 0,.int .i64 0,.int .i64 0,.int .i64 0,.int .i64 0,.int .i64 0,.int .i64 0,.int .i64 0,.int .u64 0,.string ByteArray.empty]] 8 rfl (World.shaped_of_RefB (by kernel_rfl) (by kernel_rfl)) (by kernel_rfl) (by kernel_rfl) (by kernel_rfl) (door_met os _)) ?_
 intro W base args ds gs before hval0 hW _ _ hL _;have hg:=uo hL;have hval:∀(j:Nat) t v,Tryz.f3.params[j]? = some t→args[j]? = some v→Value.okWide Tryz.prog W .any base t v:=hval0;have hW':=hW;obtain⟨p,q,hA0,hV,rfl,hfz,hnd⟩:=hW;have hA:DataW.TrodAll enc Tryz.prog W 0 (fun _=>true) true Tryz.f3.params.toList args.toList ds p:=hA0;rw[Tryz.params3]at hA hval
 obtain⟨v0,vs0,d0,ds0,p0,q0,hargs,rfl,rfl,h0,r0⟩:=trodAll_cons hA;obtain⟨v1,vs1,d1,ds1,p1,q1,rfl,rfl,rfl,h1,r1⟩:=trodAll_cons r0;obtain⟨v2,vs2,d2,ds2,p2,q2,rfl,rfl,rfl,h2,r2⟩:=trodAll_cons r1;obtain⟨v3,vs3,d3,ds3,p3,q3,rfl,rfl,rfl,h3,r3⟩:=trodAll_cons r2;obtain⟨rfl,rfl,rfl⟩:=trodAll_nil r3;obtain rfl:args = #[v0,v1,v2,v3]:=by cases args;simp_all
 obtain⟨rfl,rfl⟩:=trodVars_none hV;have lt0:∀x∈p0,x.block<W.heap.size:=by obtain⟨m,hm⟩:=h0;exact DataW.trod_lt m _ _ _ hm
 obtain⟨b0,t0,e0⟩:=wJ ty0 (by kernel_rfl) (hval 0 22 v0 rfl rfl) h0;have lt1:∀x∈p1,x.block<W.heap.size:=by obtain⟨m,hm⟩:=h1;exact DataW.trod_lt m _ _ _ hm
 obtain⟨b1,t1,e1⟩:=wJ ty1 (by kernel_rfl) (hval 1 3 v1 rfl rfl) h1;have lt2:∀x∈p2,x.block<W.heap.size:=by obtain⟨m,hm⟩:=h2;exact DataW.trod_lt m _ _ _ hm
 obtain⟨b2,t2,e2⟩:=wJ ty2 (by kernel_rfl) (hval 2 3 v2 rfl rfl) h2;have lt3:∀x∈p3,x.block<W.heap.size:=by obtain⟨m,hm⟩:=h3;exact DataW.trod_lt m _ _ _ hm
 obtain⟨b3,t3,e3⟩:=wJ ty3 (by kernel_rfl) (hval 3 29 v3 rfl rfl) h3;clear hA0 hval0;refine(walk hg t0 t1 t2 t3 e0 e1 e2 e3).mono fun e W' ⟨he,bel⟩=>?_
 subst he
 exact⟨_,rfl,_,_,_,[],_,[],hW',trodAll_mk1 (shut_bool Tryz.underlying4 _),(trodAll_cons_mk (Below.trod cf.laidOut (by kernel_rfl) (of_decide_eq_true (by kernel_rfl)) h0 bel lt0) (trodAll_cons_mk (Below.trod cf.laidOut (by kernel_rfl) (of_decide_eq_true (by kernel_rfl)) h1 bel lt1) (trodAll_cons_mk (Below.trod cf.laidOut (by kernel_rfl) (of_decide_eq_true (by kernel_rfl)) h2 bel lt2) (trodAll_cons_mk (Below.trod cf.laidOut (by kernel_rfl) (of_decide_eq_true (by kernel_rfl)) h3 bel lt3) trodAll_mk0)))),rfl,bel.frame _,fun h=>by cases h⟩
theorem over:Rows.tunnelRoutesRow.holds Tryz.pinned (OpenSpec.ofChange Rows.tunnelRoutesSpec):=
 OpenClaim.holds_of_wide 3 Tryz.f3 rfl rfl rfl rfl rfl rfl rfl ⟨rfl,rfl,rfl,rfl,rfl⟩ rfl rfl rfl rfl rfl VB Tryz.func3 closed
  inst wrap
  (fun os started H enc _=>lifted os started H enc)
theorem proved:Rows.TunnelRoutesCardSaid:=
 Claim7.holds_tied_plain_at .later [] [.data] true (true, "22e48be9cd61c4ef9d5f14216729acba0b833e18762d81acefabb4729de81b78") false
  over (fun _ h=>by cases h) (by kernel_rfl) (fun _ h=>by cases h) tunnelRoutes_row_tie rfl ⟨rfl,rfl⟩ cf.main rfl
  (fun f fn hf hfn=>by
   obtain rfl:f=3:=Option.some.inj (VB.symm.trans hf) |>.symm;obtain rfl:fn=Tryz.f3:=(Option.some.inj (Tryz.func3.symm.trans hfn)).symm;exact⟨cf.looks,fun j t ht=>by
    rw[Tryz.params3]at ht
    have hm:t∈[22,3,3,29]:=by simpa using Array.mem_of_getElem? ht
    have hall:([22,3,3,29].all fun u=>!Tryz.prog.wantsStandIn u)=true:=by kernel_rfl
    exact(show Tryz.prog.wantsStandIn t=false by simpa using List.all_eq_true.1 hall t hm)⟩)
  goes
#print axioms proved
end Go.Proofs.YtboimfkommpglaaGreatDoor.tunnelRoutes
