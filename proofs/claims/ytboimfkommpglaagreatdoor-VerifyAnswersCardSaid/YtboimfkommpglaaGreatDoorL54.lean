/-
  What functions of the program compute, stated as contracts over plain data; the conditions of each stand in its own statement.
-/
import Derived.Test.YtboimfkommpglaaGreatDoorZB49
import Derived.Test.YtboimfkommpglaaGreatDoorZB31
import Derived.Test.YtboimfkommpglaaGreatDoorZB30
import Derived.Test.YtboimfkommpglaaGreatDoorZB21
import Derived.Test.YtboimfkommpglaaGreatDoorZB22
import Derived.Test.YtboimfkommpglaaGreatDoorZB24
import Derived.Test.YtboimfkommpglaaGreatDoorRows
import Derived.Test.YtboimfkommpglaaGreatDoorTie
import Derived.Test.YtboimfkommpglaaGreatDoorCards
import Derived.WalkKit
import Derived.ProofKit
import Derived.OpenShut
import Derived.ShutString
import Derived.ChangeOld
import Derived.Below
import Derived.LaidMore
import Derived.Stop.Joined
import Derived.SevenTiedAt
set_option linter.unusedVariables false
namespace Go.Proofs.YtboimfkommpglaaGreatDoor.verifyAnswers
open Go.ChangeShapes Go.WideShapes Go.ChangeAt Go.RowKit Go.Tr
open Go.ChangeMaps (open_string shut_string)
def ty0:Ty:=.sl (.int .i64)
def ty1:Ty:=aiy
def ty2:Ty:=acD
def ty3:Ty:=.sl tyT
def ty4:Ty:=.sl ajZ
def ty5:Ty:=.sl (.int .i64)
def ty6:Ty:=.int .i64
def ty7:Ty:=.int .i64
theorem walk{ds0:List D}{v0:Value}{ds1:List D}{v1:Value}{ds2:List D}{v2:Value}{ds3:List D}{v3:Value}{ds4:List D}{v4:Value}{ds5:List D}{v5:Value}{ds6:List D}{v6:Value}{ds7:List D}{v7:Value}{w:World}(hg:KA w)(h0:ty0.has ds0)(h1:ty1.has ds1)(h2:ty2.has ds2)(h3:ty3.has ds3)(h4:ty4.has ds4)(h5:ty5.has ds5)(h6:ty6.has ds6)(h7:ty7.has ds7)(r0:aV (NI w) (ty0.tv ds0) v0)(r1:aV (NI w) (ty1.tv ds1) v1)(r2:aV (NI w) (ty2.tv ds2) v2)(r3:aV (NI w) (ty3.tv ds3) v3)(r4:aV (NI w) (ty4.tv ds4) v4)(r5:aV (NI w) (ty5.tv ds5) v5)(r6:aV (NI w) (ty6.tv ds6) v6)(r7:aV (NI w) (ty7.tv ds7) v7):
  Calls Tryz.prog 13 #[v0,v1,v2,v3,v4,v5,v6,v7] w fun e w'=>e = .returned (.bool true)∧Below w.heap.size w w':=by
 obtain⟨a0,rfl,_,k0⟩:=BZ h0;obtain⟨g1,rfl⟩:=ajc h1;obtain⟨p2,rfl⟩:=agW h2;obtain⟨l3,rfl,e3,f3⟩:=agX h3;obtain⟨a4,rfl,k4⟩:=agV h4;obtain⟨a5,rfl,_,k5⟩:=BZ h5;obtain⟨a6,rfl⟩:=ac_ h6;obtain⟨a7,rfl⟩:=ac_ h7
 exact(YE a0 (fun n hn=>wf_i64 (k0 n hn)) g1 p2 l3 e3 f3 a4 k4 a5 (fun n hn=>wf_i64 (k5 n hn)) a6 a7).true hg (us:=[v0,v1,v2,v3,v4,v5,v6,v7]) ⟨_,_,rfl,r0,_,_,rfl,r1,_,_,rfl,r2,_,_,rfl,r3,_,_,rfl,r4,_,_,rfl,r5,_,_,rfl,r6,_,_,rfl,r7,rfl⟩
theorem door_met(os:Os)(args:Array Value):laidMetH Tryz.prog x9 ((World.doorLaid Tryz.prog 400 os).forCall (fun _ _=>0) ⟨#[],args,[]⟩).memory:=
 laidMetH_of_parts3 (fuel:=8) (laidMet_of_run' 8 (by kernel_rfl) (by kernel_rfl)) (by kernel_rfl) (by kernel_rfl)
set_option maxRecDepth 100000 in
theorem lifted(os:Os)(started:os.Started)(H:Type)(enc:TypeId×Value→H):
  ReturnsInHanded {} Tryz.checked os 13 .any (fun w args=>(Rows.verifyAnswersSpec.pre enc Tryz.prog Tryz.f13 [] false w args∧laidMetH Tryz.prog x9 w)∧sizedMet enc Tryz.prog Tryz.f13 (OpenSpec.ofChange Rows.verifyAnswersSpec) false w args)
   (Rows.verifyAnswersSpec.post enc Tryz.prog Tryz.f13 false true false false):=by
 refine returnsInHanded_of_change_and (C:=Tryz.checked) (X:=fun w _=>laidMetH Tryz.prog x9 w) (fun _ _ _ hh h=>h.of_heap hh) cf.own started (by kernel_rfl) Tryz.func13
  (ChangeSpec.witness_shaped (enc:=enc) (C:=Tryz.checked) (os:=os) (X:=fun w _=>laidMetH Tryz.prog x9 w) false (World.doorLaid Tryz.prog 400 os) #[.slice none 0 0,.agg #[.slice none 0 0,.slice none 0 0],.agg #[.int .i64 0,.int .i64 0,.slice none 0 0],.slice none 0 0,.slice none 0 0,.slice none 0 0,.int .i64 0,.int .i64 0] 8 rfl (World.shaped_of_RefB (by kernel_rfl) (by kernel_rfl)) (by kernel_rfl) (by kernel_rfl) (by kernel_rfl) (door_met os _)) ?_
 intro W base args ds gs before hval0 hW _ _ hL _;have hg:=zf hL;have hval:∀(j:Nat) t v,Tryz.f13.params[j]? = some t→args[j]? = some v→Value.okWide Tryz.prog W .any base t v:=hval0;have hW':=hW;obtain⟨p,q,hA0,hV,rfl,hfz,hnd⟩:=hW;have hA:DataW.TrodAll enc Tryz.prog W 0 (fun _=>true) true Tryz.f13.params.toList args.toList ds p:=hA0;rw[Tryz.params13]at hA hval
 obtain⟨v0,vs0,d0,ds0,p0,q0,hargs,rfl,rfl,h0,r0⟩:=trodAll_cons hA;obtain⟨v1,vs1,d1,ds1,p1,q1,rfl,rfl,rfl,h1,r1⟩:=trodAll_cons r0;obtain⟨v2,vs2,d2,ds2,p2,q2,rfl,rfl,rfl,h2,r2⟩:=trodAll_cons r1;obtain⟨v3,vs3,d3,ds3,p3,q3,rfl,rfl,rfl,h3,r3⟩:=trodAll_cons r2;obtain⟨v4,vs4,d4,ds4,p4,q4,rfl,rfl,rfl,h4,r4⟩:=trodAll_cons r3;obtain⟨v5,vs5,d5,ds5,p5,q5,rfl,rfl,rfl,h5,r5⟩:=trodAll_cons r4
 obtain⟨v6,vs6,d6,ds6,p6,q6,rfl,rfl,rfl,h6,r6⟩:=trodAll_cons r5;obtain⟨v7,vs7,d7,ds7,p7,q7,rfl,rfl,rfl,h7,r7⟩:=trodAll_cons r6;obtain⟨rfl,rfl,rfl⟩:=trodAll_nil r7;obtain rfl:args = #[v0,v1,v2,v3,v4,v5,v6,v7]:=by cases args;simp_all
 obtain⟨rfl,rfl⟩:=trodVars_none hV;have lt0:∀x∈p0,x.block<W.heap.size:=by obtain⟨m,hm⟩:=h0;exact DataW.trod_lt m _ _ _ hm
 obtain⟨b0,t0,e0⟩:=yh ty0 (by kernel_rfl) (hval 0 22 v0 rfl rfl) h0;have lt1:∀x∈p1,x.block<W.heap.size:=by obtain⟨m,hm⟩:=h1;exact DataW.trod_lt m _ _ _ hm
 obtain⟨b1,t1,e1⟩:=yh ty1 (by kernel_rfl) (hval 1 35 v1 rfl rfl) h1;have lt2:∀x∈p2,x.block<W.heap.size:=by obtain⟨m,hm⟩:=h2;exact DataW.trod_lt m _ _ _ hm
 obtain⟨b2,t2,e2⟩:=yh ty2 (by kernel_rfl) (hval 2 52 v2 rfl rfl) h2;have lt3:∀x∈p3,x.block<W.heap.size:=by obtain⟨m,hm⟩:=h3;exact DataW.trod_lt m _ _ _ hm
 obtain⟨b3,t3,e3⟩:=yh ty3 (by kernel_rfl) (hval 3 53 v3 rfl rfl) h3;have lt4:∀x∈p4,x.block<W.heap.size:=by obtain⟨m,hm⟩:=h4;exact DataW.trod_lt m _ _ _ hm
 obtain⟨b4,t4,e4⟩:=yh ty4 (by kernel_rfl) (hval 4 118 v4 rfl rfl) h4;have lt5:∀x∈p5,x.block<W.heap.size:=by obtain⟨m,hm⟩:=h5;exact DataW.trod_lt m _ _ _ hm
 obtain⟨b5,t5,e5⟩:=yh ty5 (by kernel_rfl) (hval 5 22 v5 rfl rfl) h5;have lt6:∀x∈p6,x.block<W.heap.size:=by obtain⟨m,hm⟩:=h6;exact DataW.trod_lt m _ _ _ hm
 obtain⟨b6,t6,e6⟩:=yh ty6 (by kernel_rfl) (hval 6 3 v6 rfl rfl) h6;have lt7:∀x∈p7,x.block<W.heap.size:=by obtain⟨m,hm⟩:=h7;exact DataW.trod_lt m _ _ _ hm
 obtain⟨b7,t7,e7⟩:=yh ty7 (by kernel_rfl) (hval 7 3 v7 rfl rfl) h7;clear hA0 hval0;refine(walk hg t0 t1 t2 t3 t4 t5 t6 t7 e0 e1 e2 e3 e4 e5 e6 e7).mono fun e W' ⟨he,bel⟩=>?_
 subst he
 exact⟨_,rfl,_,_,_,[],_,[],hW',trodAll_mk1 (shut_bool Tryz.underlying4 _),(trodAll_cons_mk (Below.trod cf.laidOut (by kernel_rfl) (of_decide_eq_true (by kernel_rfl)) h0 bel lt0) (trodAll_cons_mk (Below.trod cf.laidOut (by kernel_rfl) (of_decide_eq_true (by kernel_rfl)) h1 bel lt1) (trodAll_cons_mk (Below.trod cf.laidOut (by kernel_rfl) (of_decide_eq_true (by kernel_rfl)) h2 bel lt2) (trodAll_cons_mk (Below.trod cf.laidOut (by kernel_rfl) (of_decide_eq_true (by kernel_rfl)) h3 bel lt3) (trodAll_cons_mk (Below.trod cf.laidOut (by kernel_rfl) (of_decide_eq_true (by kernel_rfl)) h4 bel lt4) (trodAll_cons_mk (Below.trod cf.laidOut (by kernel_rfl) (of_decide_eq_true (by kernel_rfl)) h5 bel lt5) (trodAll_cons_mk (Below.trod cf.laidOut (by kernel_rfl) (of_decide_eq_true (by kernel_rfl)) h6 bel lt6) (trodAll_cons_mk (Below.trod cf.laidOut (by kernel_rfl) (of_decide_eq_true (by kernel_rfl)) h7 bel lt7) trodAll_mk0)))))))),rfl,bel.frame _,fun h=>by cases h⟩
theorem over:Rows.verifyAnswersRow.holds Tryz.pinned (OpenSpec.ofChange Rows.verifyAnswersSpec):=
 OpenClaim.holds_of_wide 13 Tryz.f13 rfl rfl rfl rfl rfl rfl rfl ⟨rfl,rfl,rfl,rfl,rfl⟩ rfl rfl rfl rfl rfl nam Tryz.func13 closed
  inst wrap
  (fun os started H enc _=>lifted os started H enc)
theorem proved:Rows.VerifyAnswersCardSaid:=
 Claim7.holds_tied_plain_at .later [] [.data] true (true, "22e48be9cd61c4ef9d5f14216729acba0b833e18762d81acefabb4729de81b78") false
  over (fun _ h=>by cases h) (by kernel_rfl) (fun _ h=>by cases h) verifyAnswers_row_tie rfl ⟨rfl,rfl⟩ cf.main rfl
  (fun f fn hf hfn=>by
   obtain rfl:f=13:=Option.some.inj (nam.symm.trans hf) |>.symm;obtain rfl:fn=Tryz.f13:=(Option.some.inj (Tryz.func13.symm.trans hfn)).symm;exact⟨cf.looks,fun j t ht=>by
    rw[Tryz.params13]at ht
    have hm:t∈[22,35,52,53,118,22,3,3]:=by simpa using oV ht
    have hall:([22,35,52,53,118,22,3,3].all fun u=>!Tryz.prog.wantsStandIn u)=true:=by kernel_rfl
    exact(show Tryz.prog.wantsStandIn t=false by simpa using dN.1 hall t hm)⟩)
  goes
#print axioms proved
end Go.Proofs.YtboimfkommpglaaGreatDoor.verifyAnswers
