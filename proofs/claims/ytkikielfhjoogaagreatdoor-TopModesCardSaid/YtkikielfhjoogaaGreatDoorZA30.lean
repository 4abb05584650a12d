/-
  What functions of the program compute, stated as contracts over plain data; the conditions of each stand in its own statement.
-/
import Derived.Test.YtkikielfhjoogaaGreatDoorZA29
import Derived.Test.YtkikielfhjoogaaGreatDoorZA25
import Derived.Test.YtkikielfhjoogaaGreatDoorZA23
import Derived.Test.YtkikielfhjoogaaGreatDoorZA24
import Derived.Test.YtkikielfhjoogaaGreatDoorZA10
import Derived.RangeFuncNested
import Derived.RangeFuncSeq
import Derived.Sort.MapsRangeIn
import Derived.WalkKit
import Derived.OwnWalkIn
import Derived.TacticsInMore
import Derived.RegionIn
import Derived.LoopNIn
import Derived.LoopIn
import Derived.Maps.RangeRun
import Derived.Maps.AppendAt
import Derived.Sort.OwnSorted
import Derived.RangeFuncKeeps
import Derived.Maps.OwnIn
import Derived.Shelf.SlIter.Collect
import Derived.Test.YtkikielfhjoogaaGreatDoorZA18
set_option linter.unusedSimpArgs false
set_option linter.unusedVariables false
set_option maxRecDepth 100000
set_option maxHeartbeats 8000000
namespace Go.Proofs
open Go Go.Tr
def Iz(l:List Int):List Int:=l.foldl yg []
theorem aeC(l:List Int)(x:Int):Iz (l++[x])=yg (Iz l) x:=by simp[Iz]
theorem ahC:∀l:List Int,(Iz l).length≤l.length:=by
 intro l;have key:∀(l K:List Int),(l.foldl yg K).length≤K.length+l.length:=by
  intro l
  induction l with
  | nil=>intro K;simp
  | cons x l ih=>intro K;have h1:=ih (yg K x);have h2:=Ti K x;rw[bV,aH];omega
 simpa[Iz]using key l []
theorem afE(g:aX)(l:List (Int×Int×BitVec 64))(x:Int×Int×BitVec 64):Jw g (l++[x])=Jw g l+sZ g x.1 x.2.1:=by simp[Jw]
theorem Ud{g:aX}(hg:g.Ok)(x y:Int):sZ g x y≤1000:=by
 unfold sZ;cases e:price g.ls x y with
 | none=>simp
 | some c=>
   obtain⟨z,hz,⟨_,_,rfl⟩|⟨_,_,rfl⟩⟩:=qQ e
   ·exact(hg.c hz).1.2
   ·exact(hg.c hz).2.2
theorem ZB{g:aX}(hg:g.Ok):∀l:List (Int×Int×BitVec 64),0≤Jw g l∧Jw g l≤1000*l.length
 | []=>by simp[Jw]
 | x::l=>by have h1:=ZB hg l;have h2:=P6 hg x.1 x.2.1;have h3:=Ud hg x.1 x.2.1;simp only[Jw,aC,iY,aH]at h1⊢;omega
theorem acC(g:aX)(h0:jo g=0)(t:sG)(hc:t.cr.length≤1000000)(hd:t.dl.length≤1000000):
  Contract Tryz.prog 12 [eU g,Gl t] [] (.qh [.d (.int .i64 (Jw g t.cr)),.d (ints (Iz (t.dl.map (·.1))))]) [] []:=by
 have hg:=dV h0;have hco:=fun f x=>adq g h0 f x
 simp only[eU]at hco;obtain⟨dl,cr,ls⟩:=t;simp only at hc hd⊢;have hcl:(cr.map Ci).length=cr.length:=by simp
 have hdl:(dl.map rF).length=dl.length:=by simp
 refine ay Tryz.func12 rfl (fun E0=>?_);refine iC.sound (g:=.mk) (ow:=[]) (kp:=(kb 0x780007a6ff)) ?_;rw[Tryz.ntmps12];simp -dsimp[eU,Gl];and_intros;all_goals try first|rfl|omega|exact⟨by kernel_rfl⟩
 refine dD.of [] (kb 0x780007a6ff) (ι:={i:Nat // i≤cr.length}) (fun z=>[(.o 2,It.box [TV.d (.sl (rts g.rs)),TV.d (.sl (nS g.ls))]),(.s 2,It.v (.ptr (.o 2) 0)),
  (.o 3,It.box [TV.d (.sl (dl.map rF)),TV.d (.sl (cr.map Ci)),TV.d (.sl (ls.map lsC))]),(.s 3,It.v (.ptr (.o 3) 0)),
  (.s 6,It.v (.d (.int .i64 (Jw g (cr.take z.1))))),(.s 7,It.v (.c (Value.slice none 0 0))),
  (.s 15,It.v (.d (.sl (cr.map Ci)))),(.s 16,It.v (.d (.int .i64 cr.length))),(.s 17,It.v (.d (.int .i64 z.1)))]) (fun z=>cr.length-z.1) ⟨0,by omega⟩ ?_ ?_
 ·exact GS.to (by simp[Jw])
 ·rintro⟨i,i1⟩;by_cases hi:i<cr.length
  ·have hiz:(i:Int)<cr.length:=by omega
   have hl:=aj hi;have ht:Jw g (cr.take (i+1))=Jw g (cr.take i)+sZ g cr[i].1 cr[i].2.1:=by rw[aT,hl];exact afE g _ _
   have hb:=ZB hg (cr.take i);have hb2:(cr.take i).length≤1000000:=by simp;omega
   have p1:=P6 hg cr[i].1 cr[i].2.1;have p2:=Ud hg cr[i].1 cr[i].2.1;have hpt:tq (price g.ls cr[i].1 cr[i].2.1) = .qh [.d (.int .i64 (sZ g cr[i].1 cr[i].2.1)),.d (.bool (price g.ls cr[i].1 cr[i].2.1).isSome)]:=rfl;generalize cr[i]=x at hl ht p1 p2 hpt;have hcx:=hco x.1 x.2.1;rw[hpt]at hcx
   generalize (price g.ls x.1 x.2.1).isSome=bb at hcx;generalize sZ g x.1 x.2.1=px at ht p1 p2 hcx;generalize Jw g (cr.take i)=sm at ht hb⊢;have wp:IntKind.i64.wrap (sm+px)=sm+px:=wrap_i64 (by omega) (by omega);obtain⟨x1,x2,x3⟩:=x;simp only at hcx;simp -dsimp[hiz,hl,Ci,bv];and_intros;all_goals try first|rfl|omega|exact⟨by kernel_rfl⟩
   refine aI.of hcx [] 0 ?_;simp -dsimp[wp,Ci,wrap_i64 (n:=(i:Int)+1) (by omega) (by omega)];and_intros;all_goals try first|rfl|omega|exact⟨by kernel_rfl⟩
   exact⟨⟨i+1,by omega⟩,GS.to (by simp[ht,Ci]),by simp;omega⟩
  ·have hiz :¬(i:Int)<cr.length:=by omega
   rw[show cr.take i=cr from aS (by omega)];simp -dsimp[hiz];and_intros;all_goals try first|rfl|omega|exact⟨by kernel_rfl⟩
   refine dD.of [] (kb 0x780007a6ff) (ι:={i:Nat // i≤dl.length}) (fun z=>[
    (.s 6,It.v (.d (.int .i64 (Jw g cr)))),(.s 7,It.v (.d (ints (Iz ((dl.take z.1).map (·.1)))))),
    (.s 35,It.v (.d (.sl (dl.map rF)))),(.s 36,It.v (.d (.int .i64 dl.length))),(.s 37,It.v (.d (.int .i64 z.1)))]) (fun z=>dl.length-z.1) ⟨0,by omega⟩ ?_ ?_
   ·exact GS.aiy 7 (by simp[ints,Iz])
   ·rintro⟨j,j1⟩;by_cases hj:j<dl.length
    ·have hjz:(j:Int)<dl.length:=by omega
     have hl:=aj hj;have ht:Iz ((dl.take (j+1)).map (·.1))=yg (Iz ((dl.take j).map (·.1))) dl[j].1:=by rw[aT,hl,gu];exact aeC _ _
     have hpl:=ahC ((dl.take j).map (·.1));have hpl2:((dl.take j).map (·.1)).length≤1000000:=by simp;omega
     generalize dl[j]=x at hl ht;have hpf:=aaM (Iz ((dl.take j).map (·.1))) (by omega) x.1;rw[←ht]at hpf
     simp only[ints]at hpf;generalize Iz ((dl.take j).map (·.1))=K1 at hpf⊢;obtain⟨x1,x2⟩:=x;simp only at hpf;simp -dsimp[hjz,hl,rF,Pk.cs,bv,ints];and_intros;all_goals try first|rfl|omega|exact⟨by kernel_rfl⟩
     refine aI.of hpf [] 0 ?_;simp -dsimp[wrap_i64 (n:=(j:Int)+1) (by omega) (by omega)];and_intros;all_goals try first|rfl|omega|exact⟨by kernel_rfl⟩
     exact⟨⟨j+1,by omega⟩,GS.to (by simp[ints]),by simp;omega⟩
    ·have hjz :¬(j:Int)<dl.length:=by omega
     rw[show dl.take j=dl from aS (by omega)];simp -dsimp[hjz,ints];and_intros;all_goals try first|rfl|omega|exact⟨by kernel_rfl⟩
     refine Fin.of ?_;simp[ints]
theorem afq:((List.range 6).all fun n=>(List.range 64).all fun k=>(WG n).getLsbD k==(decide (k%3=0)&&decide (k/3<n)))=true:=by decide+kernel
theorem zG{n k:Nat}(hn:n≤5)(hk:k<64):(WG n).getLsbD k=true↔∃i<n,k=3*i:=by
 have h:=bM.1 (bM.1 afq n (bI.2 (by omega))) k (bI.2 hk);rw[beq_iff_eq]at h
 rw[h];simp only[aG,decide_eq_true_eq];constructor
 ·rintro⟨h1,h2⟩;exact⟨k/3,h2,by omega⟩
 ·rintro⟨i,h1,rfl⟩;exact⟨by omega,by omega⟩
theorem atH{n:Nat}(hn:n≤5):sB (WG n)=2^n-1:=by
 match n,hn with
 | 0,_=>decide+kernel
 | 1,_=>decide+kernel
 | 2,_=>decide+kernel
 | 3,_=>decide+kernel
 | 4,_=>decide+kernel
 | 5,_=>decide+kernel
theorem alK(e:Int){n i:Nat}(hi:i<5):wL (Aj e n) (3*i)=3*i+1:=by
 have h:Y2 0 (3*i:Nat) 16=true:=by
  match i,hi with
  | 0,_=>decide
  | 1,_=>decide
  | 2,_=>decide
  | 3,_=>decide
  | 4,_=>decide
 unfold wL;rw[if_pos (by simpa[Aj]using h)];simp[Aj]
section
variable {g:aX} {r:Int} {rs:List Int} {e:Int}
structure qX(g:aX)(r:Int)(rs:List Int)(e:Int):Prop where
 h0:jo g=0
 cap:E_ g
 n:g.rs.length≤8
 rt:dF g.rs r=true
 l:rs.length≤5
 BP:rs.Pairwise (· < ·)
 has:∀x∈rs,dF g.rs x=true
 near:∀x∈rs,dst g x r<far
 ent:0≤e∧e≤1023
def tbM(g:aX)(rs:List Int):List Tb:=tabs g (QI rs) g.rs
theorem qX.plan(H:qX g r rs e):oJ (QI rs)=true:=ahv (dV H.h0) H.l H.BP H.has
theorem qX.tab(H:qX g r rs e):Wv (QI rs) ((tbM g rs).map (·.r)) (tbM g rs):=amr H.h0 H.plan
theorem qX.for(H:qX g r rs e):acZ (QI rs) (Aj e rs.length):=⟨ahu H.l H.ent,rfl,rfl,rfl⟩
theorem qX.fit(H:qX g r rs e):wE (tbM g rs) (Aj e rs.length):=H.tab.fit H.for
theorem qX.run(H:qX g r rs e):xA (tbM g rs) (Aj e rs.length) r=(sD (tbM g rs) (wt (Aj e rs.length)) [(r,Aj e rs.length)] qV,0)∧(lZ (tbM g rs) r).isSome:=
 H.tab.run H.for ((aki (dV H.h0) _ r).2 (H.cap.cap (dV H.h0) H.rt))
theorem qX.way(H:qX g r rs e){i:Nat}(hi:i<rs.length):∃ws,Dl (tbM g rs) (wL (Aj e rs.length) (3*i)) (pV (Aj e rs.length)) r ws∧(ws.length:Int)≤(Aj e rs.length).ttl∧rs[i]=zT r ws∧(Ce g r ws).isSome:=by
 have hg:=dV H.h0;have hl:=H.l;have hm:rs[i]∈rs:=aJ hi;have he:(⟨rs[i],3*i+1⟩:Ed)∈(QI rs).es:=bF (Md hi);obtain⟨ws,h1,h2⟩:=afH H.h0 H.plan he (H.cap.cap hg (H.has _ hm)) (pV (Aj e rs.length)) _ (au _) (H.cap.cap hg H.rt) (H.near _ hm);obtain⟨_,_,_,_,h5⟩:=aiX H.h0 H.cap H.plan h1;have h6:=h1.len;have h7:=H.tab.n
 refine⟨ws,by rw[alK e (by omega)];exact h1,?_,h2.symm,by rw[h5];rfl⟩;have h8:ws.length+1≤(tbM g rs).length:=h6;simp only[Aj];omega
theorem qX.live(H:qX g r rs e):Nu g (tbM g rs) rs (r,Aj e rs.length) where
 fit:=H.fit
 bits k hk hb:=(zG H.l hk).1 hb
 way i hb:=by
  have hk:3*i<64:=by
   refine Classical.byContradiction fun h=>?_
   rw[BitVec.getLsbD_of_ge _ _ (by omega)]at hb
   cases hb
  obtain⟨j,hj,hij⟩:=(zG H.l hk).1 hb;obtain rfl:i=j:=by omega
  obtain⟨ws,h1,h2,h3,h4⟩:=H.way hj;exact⟨ws,h1,h2,by rw[aj hj,h3],h4⟩
theorem qX.ls(H:qX g r rs e):(xA (tbM g rs) (Aj e rs.length) r).1.ls = []:=by
 rw[H.run.1];refine List.eq_nil_iff_forall_not_mem.2 fun x hx=>?_
 have h1:=(VJ H.fit H.run.2).ls x hx;have h2:∃k<64,x.2.getLsbD k=true:=by
  refine Classical.byContradiction fun hno=>h1 (fE fun k hk=>?_)
  cases hb:x.2.getLsbD k with
  | true=>exact absurd ⟨k,hk,hb⟩ hno
  | false=>simp
 obtain⟨k,hk,hb⟩:=h2;obtain⟨h3,h4⟩:=(ame H.fit r hk).1 ⟨x,hx,hb⟩;obtain⟨i,hi,rfl⟩:=(zG H.l hk).1 h3;obtain⟨ws,w1,w2,_⟩:=H.way hi;have:=h4 ws w1;omega
theorem qX.at(H:qX g r rs e){d:Int×Pk}(hd:d∈(xA (tbM g rs) (Aj e rs.length) r).1.dl):∃i,∃hi:i<rs.length,d.1=rs[i]∧d.2.bits.getLsbD (3*i)=true:=by
 rw[H.run.1]at hd
 obtain⟨k,hk,hb⟩:=(VJ H.fit H.run.2).dl d hd;have hbk:d.2.bits.getLsbD k=true:=by rw[hb,Vs hk hk]
 obtain⟨h1,ws,h2,h3,h4⟩:=(ahZ H.fit r hk d).1 ⟨hd,hbk⟩;obtain⟨i,hi,rfl⟩:=(zG H.l hk).1 h1;obtain⟨us,w1,_,w3,_⟩:=H.way hi;obtain rfl:=h2.det w1;exact⟨i,hi,by rw[h4,w3],hbk⟩
theorem qX.mem(H:qX g r rs e)(x:Int):x∈(xA (tbM g rs) (Aj e rs.length) r).1.dl.map (·.1)↔x∈rs:=by
 constructor
 ·intro hx;obtain⟨d,hd,rfl⟩:=ak.1 hx;obtain⟨i,hi,h,_⟩:=H.at hd;rw[h];exact aJ hi
 ·intro hx;obtain⟨i,hi,rfl⟩:=dW.1 hx;have hl:=H.l;have hk:3*i<64:=by omega
  obtain⟨ws,w1,w2,w3,_⟩:=H.way hi;have:=(ahZ H.fit r hk (zT r ws,pkD (Aj e rs.length) (3*i) ws.length)).2 ⟨(zG hl hk).2 ⟨i,hi,rfl⟩,ws,w1,w2,rfl⟩;rw[w3,H.run.1];exact ak.2 ⟨_,this.1,rfl⟩
theorem qX.nd(H:qX g r rs e):((xA (tbM g rs) (Aj e rs.length) r).1.dl.map (·.1)).Nodup:=by
 rw[List.Nodup,d_,bC];intro a b ha hb hab he;obtain⟨i,hi,h1,h2⟩:=H.at (aJ ha);obtain⟨j,hj,h3,h4⟩:=H.at (aJ hb);have hij:i=j:=by
  rw[h1,h3]at he
  rcases lq i j with h|h|h
  ·have:=bC.1 H.BP i j hi hj h;omega
  ·exact h
  ·have:=bC.1 H.BP j i hj hi h;omega
 subst hij;have hl:=H.l;have h5:=Qv (q:=fun d:Int×Pk=>d.2.bits.getLsbD (3*i)) hab (aj ha) (aj hb) h2 h4;have h6:=aa0 H.fit r (show 3*i<64 by omega);rw[H.run.1]at h5
 exact absurd (dw h5 h6) (by omega)
theorem qX.cost(H:qX g r rs e)(hz:rs≠[]):zy (lY g) rs (2^rs.length-1) r≤Jw g (xA (tbM g rs) (Aj e rs.length) r).1.cr:=by
 have hg:=dV H.h0;have h:=amd (WA hg) (fun a ha=>by have:=(BZ hg a ha).1;omega) H.l (H.BP.imp fun h e=>by omega) H.live (by
  intro h;have h1:=(zG (k:=0) H.l (by omega)).2 ⟨0,nZ.2 hz,rfl⟩;have h2:WG rs.length=0#64:=h;rw[h2]at h1
  simp at h1)
 rw[H.run.1];have e2:sB (Aj e rs.length).bits=2^rs.length-1:=atH H.l;rw[e2]at h
 exact h
end
end Go.Proofs

namespace Go.Proofs
open Go Go.RowKit Go.Maps Go.Sort
def Az(h:Int×Int):Value:=.agg #[.int .i64 h.1,.int .i64 h.2]
structure uK(b r:Nat)(l:Array MapEntry)(clock:Nat)(left:List (Int×Int))(W:World):Prop where
 m:W.heap[b]? = some (.map l clock)
 it:∃seen:Array Nat,W.heap[r]? = some (.mapIter (some b) clock seen clock)∧((l.toList.filter fun x=>!seen.contains x.born).map (·.key)).Perm (left.map Az)
theorem uK.kept{b r:Nat}{l:Array MapEntry}{clock:Nat}{left:List (Int×Int)}{W W':World}(h:uK b r l clock left W)(hk:KeepsWalks W W'):uK b r l clock left W':=by obtain⟨hm,seen,hi,hp⟩:=h;exact⟨hk.same b _ hm rfl,seen,hk.same r _ hi rfl,hp⟩
theorem uK.walk{b r:Nat}{l:Array MapEntry}{clock:Nat}{left:List (Int×Int)}{W:World}(h:uK b r l clock left W):∃o:Obj,W.heap[r]? = some o∧o.isWalk=true:=by obtain⟨_,seen,hi,_⟩:=h;exact⟨_,hi,rfl⟩
theorem ZO{left:List (Int×Int)}{L:List MapEntry}(h:(L.map (·.key)).Perm (left.map Az)){e:MapEntry}(he:e∈L)(hb:(L.map (·.born)).Nodup):∃k∈left,e.key=Az k∧((L.filter fun x=>!(x.born==e.born)).map (·.key)).Perm ((left.erase k).map Az):=by
 obtain⟨k,hk,hke⟩:=ak.1 (h.mem_iff.1 (ak.2 ⟨e,he,rfl⟩));refine⟨k,hk,hke.symm,?_⟩;have hL:L.Perm (e::L.filter fun x=>!(x.born==e.born)):=by
  clear h
  induction L with
  | nil=>simp at he
  | cons a L ih=>
    rw[aC,bG]at hb
    rcases aF.1 he with rfl|he
    ·rw[dI,if_neg (by simp)];rw[jP.2 fun x hx=>by simpa using fun e2:x.born=e.born=>hb.1 (ak.2 ⟨x,hx,e2⟩)]
    ·have hne:a.born≠e.born:=fun e2=>hb.1 (ak.2 ⟨e,he,e2.symm⟩)
     rw[dI,if_pos (by simpa using hne)];exact((ih he hb.2).cons a).trans (List.Perm.swap _ _ _)
 have hR:left.Perm (k::left.erase k):=lg hk;have h2:=(hL.map (·.key)).symm.trans (h.trans (hR.map Az));simp only[aC,hke]at h2;exact(List.perm_cons _).1 h2
theorem uK.next{P:Program}{b r:Nat}{l:Array MapEntry}{clock:Nat}{left:List (Int×Int)}{W:World}(h:uK b r l clock left W)(hs:MapKept.Stamped l clock)(ty:TypeId)(hr:r≠b):
  (left = []∧(Instr.next (.pointer (some ⟨r,0,none⟩)) false ty).run P W = .ok (.tuple #[.bool false]) W)∨
  ∃k∈left,∃(v:Value) (W':World),(Instr.next (.pointer (some ⟨r,0,none⟩)) false ty).run P W = .ok (.tuple #[.bool true,Az k,v]) W'∧uK b r l clock (left.erase k) W'∧W.grownBy W' (some r)∧W'.heap.size=W.heap.size∧(Instr.entry (.pointer (some ⟨r,0,none⟩))).run P W' = .ok (.tuple #[Az k,v]) W':=by
 obtain⟨hm,seen,hi,hp⟩:=h;have hst:=(MapKept.stamped_iff l clock).1 hs;rcases run_next_at (P:=P) W ty r b clock clock seen l clock hi hm (fun x hx=>hst.1 x hx) (au _)with⟨q1,q2⟩|⟨e,q1,w1,q2,q3⟩
 ·refine .inl ⟨?_,q2⟩;have h0:(l.toList.filter fun x=>!seen.contains x.born) = []:=by
   simp_all [leftOf,Array.eq_empty_of_size_eq_zero]
  rw[h0]at hp
  simpa using hp
 ·refine .inr ?_;have heL:e∈l.toList.filter fun x=>!seen.contains x.born:=by simp_all [leftOf]
  have hel:=(bK.1 heL).1;have hnb:((l.toList.filter fun x=>!seen.contains x.born).map (·.born)).Nodup:=hst.2.1.sublist (lI.map _);obtain⟨k,hk,hke,hperm⟩:=ZO hp heL hnb;have hsz:w1.heap=W.heap:=by rcases q2 with rfl|rfl<;>rfl
  have hrl:r<W.heap.size:=(aZ.1 hi).1;have g1:(Go.ChangeMaps.setBlock w1 r (.mapIter (some b) clock (seen.push e.born) clock)).heap[r]? = some (.mapIter (some b) clock (seen.push e.born) clock):=by simp[Go.ChangeMaps.setBlock,hsz,hrl]
  have g2:∀j,j≠r→(Go.ChangeMaps.setBlock w1 r (.mapIter (some b) clock (seen.push e.born) clock)).heap[j]? = W.heap[j]? :=fun j hj=>by simp[Go.ChangeMaps.setBlock,hsz,Array.getElem?_setIfInBounds_ne (Ne.symm hj)]
  refine⟨k,hk,e.val,_,by rw[←hke];exact q3,⟨(g2 b (Ne.symm hr)).trans hm,_,g1,?_⟩,?_,by simp[Go.ChangeMaps.setBlock,hsz],?_⟩
  ·have:(l.toList.filter fun x=>!(seen.push e.born).contains x.born)=(l.toList.filter fun x=>!seen.contains x.born).filter fun x=>!(x.born==e.born):=by
    rw[mF];refine iy fun x _=>?_
    rw[Array.contains_push,Bool.not_or,oC]
   rw[this];exact hperm
  ·refine⟨?_,?_,?_,by simp[Go.ChangeMaps.setBlock,hsz],fun j hj hne=>g2 j fun e=>hne (by rw[e])⟩<;>rcases q2 with rfl|rfl<;>rfl
  ·rw[←hke];exact run_entry_at (P:=P) _ r b clock seen l clock e g1 ((g2 b (Ne.symm hr)).trans hm) hel hst.2.1
section
variable {F:Fence} {n:Nat} {P:Program}
theorem LP{ops:Array Oper}{rest:List Oper}{o:Oper}{a:Act}{w:World}{Q:Exit→Act→World→Prop}(hg:o.guard=none)(m:Operand)(t:TypeId)(hop:o.op=Op.range t m)(k e:TypeId)(ht:P.underlying t=some (.map k e))(b:Nat)(l:Array MapEntry)(clock:Nat)
  (hm:a.eval m = .map (some b)) (hb:w.heap[b]? = some (.map l clock))
  (hK:wpListIn F n P ops Q rest (a.put o.dst (.pointer (some ⟨w.heap.size,0,none⟩))) (w.alloc (.mapIter (some b) clock #[] clock))) :
  wpListIn F n P ops Q (o::rest) a w:=by
 refine wpListIn_plain hg fun K' hK'=>?_
 have hrun:=run_range_map (P:=P) w t k e b l clock ht hb;unfold Oper.wpIn;refine⟨?_,?_⟩
 ·simp[Oper.about,hop]
 ·rw[Oper.semAt_plain F _ _ (by rw[hop];intro c hc';cases hc')];simp[execOp,hop,hm,hrun,Result.andThen];exact hK' _ _ hK
theorem QA{ops:Array Oper}{rest:List Oper}{o:Oper}{a:Act}{w:World}{Q:Exit→Act→World→Prop}(hg:o.guard=none)(it:Operand)(hop:o.op=Op.next it false)(b r:Nat)(l:Array MapEntry)(clock:Nat)(left:List (Int×Int))(hs:MapKept.Stamped l clock)
  (hrb:r≠b) (hit:a.eval it = .pointer (some ⟨r,0,none⟩)) (h:uK b r l clock left w)
  (hDone:left = []→wpListIn F n P ops Q rest (a.put o.dst (.tuple #[.bool false])) w)
  (hMore:∀k∈left,∀(v:Value) (w':World),uK b r l clock (left.erase k) w'→w.grownBy w' (some r)→w'.heap.size=w.heap.size→(Instr.entry (.pointer (some ⟨r,0,none⟩))).run P w' = .ok (.tuple #[Az k,v]) w'→wpListIn F n P ops Q rest (a.put o.dst (.tuple #[.bool true,Az k,v])) w') :
  wpListIn F n P ops Q (o::rest) a w:=by
 refine wpListIn_plain hg fun K' hK'=>?_
 unfold Oper.wpIn;refine⟨by simp[Oper.about,hop],?_⟩;rw[Oper.semAt_plain F _ _ (by rw[hop];intro c hc';cases hc')];rcases h.next hs o.type hrb with⟨h0,hrun⟩|⟨k,hk,v,w',hrun,hw,hgr,hsz,hen⟩
 ·simp[execOp,hop,hit,Result.andThen];rw[hrun];exact hK' _ _ (hDone h0)
 ·simp[execOp,hop,hit,Result.andThen];rw[hrun];exact hK' _ _ (hMore k hk v w' hw hgr hsz hen)
end
end Go.Proofs

namespace Go.Proofs
open Go Go.RowKit Go.Maps Go.Sort
theorem uMH:Tryz.prog.underlying 128=some (.map 131 4):=by kernel_rfl
theorem uK.left_eq{b r:Nat}{l:Array MapEntry}{clock:Nat}{left:List (Int×Int)}{W:World}(h:uK b r l clock left W):W.rangeLeft b r=left.length:=by obtain⟨hm,seen,hi,hp⟩:=h;have h1:=hp.length_eq;simp only[aV]at h1;simp only[World.rangeLeft,hm,hi,leftOf];rw[←h1,←gK,Array.toList_filter]
theorem agN(n:Nat)(hn:1≤n)(Bm b:Nat)(l:Array MapEntry)(clock:Nat)(hs:MapKept.Stamped l clock)(ks:List (Int×Int))(hk:l.toList.map (·.key)=ks.map Az)(w:World)(hBm:Bm<w.heap.size)
  (hm:w.cell? ⟨Bm,0,none⟩ = some (.map (some b))) (hb:w.heap[b]? = some (.map l clock)) :
  SeqStopsK Fence.wide n Tryz.prog 100 #[.pointer (some ⟨Bm,0,none⟩)] (fun x=>#[Az x]) KeepsWalks (fun ss=>ss.Perm ks) (fun _=>True) ks.length w:=by
 intro l0 J Jx W hW hJ hJx hY h0;have hblt:b<w.heap.size:=(aZ.1 hb).1;have hm':W.cell? ⟨Bm,0,none⟩ = some (.map (some b)):=(hW.cell (p:=⟨Bm,0,none⟩) hBm).trans hm;have hb':W.heap[b]? = some (.map l clock):=(hW.block b hblt).trans hb;have ata:b<W.heap.size:=(aZ.1 hb').1;have hst:=(MapKept.stamped_iff l clock).1 hs
 refine callsIn_of_wp Tryz.func100 rfl trivial ?_ rfl;simp only[Tryz.ntmps100,jg,aH,dh,Nat.reduceAdd,Nat.reduceSub,nK,nM,pF,nY,dJ,bg]
 gi_wp2_with (first
  | (gi_at_range;refine LP rfl _ 128 rfl 131 4 uMH b l clock rfl hb' ?_)
  | gi_in)
 try go_frame
 have hne:W.heap.size≠b:=by omega
 gi_loopw [3] (fun _ wr=>∃(left ss:List (Int×Int)),uK b W.heap.size l clock left wr∧(ss++left).Perm ks∧J ss wr)
  (fun _ wr=>wr.rangeLeft b W.heap.size)
 case atStart=>refine⟨ks,[],⟨(Below.heap_alloc _ _ b ata).trans hb',#[],World.alloc_heap_new W _,?_⟩,by simp,hJ [] W _ none h0 (World.grownBy_alloc W _ none) (fun r e=>by cases e)⟩;have e:(l.toList.filter fun x=>!(#[]:Array Nat).contains x.born)=l.toList:=jP.2 (by simp);rw[e,hk]
 case round=>
  obtain⟨left,ss,hrg,hcs,hJs⟩:=hrel
  gi_wp2_with (first
   | (gi_at_next;refine QA rfl _ rfl b W.heap.size l clock left hs hne rfl hrg ?_ ?_)
   | gi_in)
  ·intro hl0
   gi_wp2
   go_end0
   subst hl0;exact⟨⟨_,rfl⟩,.inl ⟨ss,by simpa using hcs,hJs⟩⟩
  ·intro k1 k2 hk v w2 hrg2 hg2 hs2 hen;have hJ2:J ss w2:=hJ ss wr w2 (some W.heap.size) hJs hg2 (fun r e=>by cases e;exact⟨au _,hrg.walk⟩);clear hs2;have hlen:ss.length<ks.length:=by
    have h1:=hcs.length_eq;have h2:=fZ hk;rw[aU]at h1;omega
   have hJ3:J ss (w2.alloc (Obj.cells #[Value.int IntKind.i64 k1,Value.int IntKind.i64 k2] 131)):=hJ ss w2 _ none hJ2 (World.grownBy_alloc w2 _ none) (fun r e=>by cases e);have hrg3:uK b W.heap.size l clock (left.erase (k1,k2)) (w2.alloc (Obj.cells #[Value.int IntKind.i64 k1,Value.int IntKind.i64 k2] 131)):=hrg2.kept (KeepsWalks.alloc _ _)
   obtain⟨fn,tmps,assign,body,hy,hR⟩:=hY ss (k1,k2) _ hJ3 hlen;simp only[Az]at hen hy⊢
   gi_wp2
   refine hR.mono ?_;rintro e W3 (⟨rfl,hJ4,hk4⟩|⟨rfl,hJ4⟩)
   ·gi_wp2
    have hrg4:=hrg3.kept hk4
    go_roundw
    case rel=>refine⟨_,ss++[(k1,k2)],hrg4,?_,hJ4⟩;have h1:left.Perm ((k1,k2)::left.erase (k1,k2)):=lg hk;refine List.Perm.trans ?_ hcs;rw[dP];exact(h1.symm).append_left ss
    case measure=>rw[hrg4.left_eq,hrg.left_eq,ig hk];have:=fZ hk;omega
   ·gi_wp2
    (try simp only[Exit.inBlock,Exit.then])
    refine bodyPost_ret (results_none rfl _ _ _) rfl ?_;exact⟨⟨_,rfl⟩,.inr ⟨_,trivial,hJ4⟩⟩
end Go.Proofs

namespace Go.Proofs
open Go Go.RowKit Go.Maps Go.Sort Go.Shelf
theorem cells2{W:World}{B:Nat}{x y:Value}{t:TypeId}(h:W.heap[B]? = some (.cells #[x,y] t (0,0))):W.cell? ⟨B,0,none⟩ = some x∧W.cell? ⟨B,1,none⟩ = some y:=by constructor<;>simp[World.cell?,h]
theorem aot:∃i:TypeInfo,Tryz.prog.info? 131=some i∧i.zero=some (.agg #[.int .i64 0,.int .i64 0])∧i.size=2∧i.bytes=16:=by
 obtain⟨i,hi⟩:∃i,Tryz.prog.info? 131=some i:=by
  cases h:Tryz.prog.info? 131 with
  | some i=>exact⟨i,rfl⟩
  | none=>exact absurd (show(Tryz.prog.info? 131).isSome=true from by kernel_rfl) (by simp[h])
 have h1:(Tryz.prog.info? 131).map (fun i=>(i.zero,i.size,i.bytes))=some (some (.agg #[.int .i64 0,.int .i64 0]),2,16):=by kernel_rfl
 rw[hi]at h1
 simp only[bH,ah,aO]at h1;exact⟨i,hi,h1.1,h1.2.1,h1.2.2⟩
theorem cell_two_new(w:World)(x y:Value)(t:TypeId):∀j u,[x,y][j]? = some u→(w.alloc (.cells #[x,y] t)).cell? ((⟨w.heap.size,0,none⟩:Addr).add j)=some u:=by
 intro j u hj
 match j,hj with
 | 0,hj=>simp at hj;subst hj;simp[Addr.add]
 | 1,hj=>simp at hj;subst hj;simp[Addr.add]
theorem afg{W w3:World}{B:Nat}{v:Value}{k:Nat}{xs:List Value}{o:Obj}(hv:W.heap[B]? = some (.cells #[v] 32 (0,0))){base:Nat}(hrow:W.ownsRow base 131 2 v k xs)(hg:(W.alloc o).grownBy w3 v.ownBlock):
  w3.heap[B]? = some (.cells #[v] 32 (0,0))∧w3.cell? ⟨B,0,none⟩ = some v∧w3.frozen? ⟨B,0,none⟩ = false:=by
 have hlt:=(aZ.1 hv).1;have h1:w3.heap[B]? = some (.cells #[v] 32 (0,0)):=by
  refine(hg.block B (by simp;omega) ?_).trans ((Below.heap_alloc _ _ B hlt).trans hv);rcases ownsRow_ne_a hrow hv (fun cur e=>by cases e)with e|e
  ·rw[e];simp
  ·exact fun e'=>e e'.symm
 exact⟨h1,cell_of_box_a h1⟩
theorem ac8{W:World}{base k:Nat}{v:Value}{xs:List Value}(h:W.ownsRow base 131 2 v (k+1) xs):∃g cap,v = .slice (some ⟨g,0,none⟩) (k+1) cap:=by
 rcases h.2 with⟨_,h0⟩|⟨g,cap,cur,rfl,_⟩
 ·omega
 ·exact⟨g,cap,rfl⟩
theorem Zc{W:World}{base k:Nat}{v:Value}{xs:List Value}{ob:Obj}(h:W.ownsRow base 131 2 v k xs):∀j o,v.ownBlock=some j→(W.alloc ob).heap[j]? = some o→o.isCells=true:=by
 intro j o hj ho;rcases h.2 with⟨rfl,_⟩|⟨g,cap,cur,rfl,_,hg,_⟩
 ·cases hj
 ·simp only[Value.ownBlock,ah]at hj;subst hj;rw[Below.heap_alloc _ _ g (aZ.1 hg).1,hg]at ho
  cases ho
  rfl
theorem cells_kept{W W':World}{row:Option Nat}{B:Nat}(hg:W.grownBy W' row)(hr:∀r,row=some r→B≤r∧∃o:Obj,W.heap[r]? = some o∧o.isCells=false){j:Nat}{cs:Array Value}{t:TypeId}(h:W.heap[j]? = some (.cells cs t (0,0))):W'.heap[j]? = some (.cells cs t (0,0)):=
 (grownBy_keeps_cells hg (fun r e=>(hr r e).2) h rfl).trans h
theorem ac9{W W':World}{row:Option Nat}{B:Nat}(hg:W.grownBy W' row)(hr:∀r,row=some r→B≤r∧∃o:Obj,W.heap[r]? = some o∧o.isCells=false){base k:Nat}{v:Value}{xs:List Value}(h:W.ownsRow base 131 2 v k xs):W'.ownsRow base 131 2 v k xs:=by
 refine h.kept hg ?_;cases hrow:row with
 | none=>cases v.ownBlock<;>simp
 | some r=>obtain⟨_,o,ho,hc⟩:=hr r hrow;exact ownsRow_ne_a h ho (fun cur e=>by subst e;cases hc)
theorem Zd(n:Nat)(hn:3≤n)(Bm b:Nat)(l:Array MapEntry)(clock:Nat)(hs:MapKept.Stamped l clock)(ks:List (Int×Int))(hk:l.toList.map (·.key)=ks.map Az)(hkl:ks.length≤1000000)(w:World)(hBm:Bm<w.heap.size)
  (hm:w.cell? ⟨Bm,0,none⟩ = some (.map (some b))) (hb:w.heap[b]? = some (.map l clock)) :
  CallsIn Fence.wide n Tryz.prog 148 #[.slice none 0 0,.func (.func 100) #[] #[.pointer (some ⟨Bm,0,none⟩)]] w fun e w'=>∃(v:Value) (ss:List (Int×Int)),e = .returned v∧ss.Perm ks∧
   w'.ownsRow w.heap.size 131 2 v ss.length (ss.flatMap fun h=>[.int .i64 h.1,.int .i64 h.2])∧Below w.heap.size w w':=by
 refine callsIn_of_wp_marks Tryz.func148 rfl trivial ?_ rfl;simp only[Tryz.ntmps148,jg,aH,dh,Nat.reduceAdd,Nat.reduceSub,nK,nM,pF,nY,dJ,bg]
 gi_wp2
 obtain⟨W0,hW0⟩:∃W0,w.alloc (.cells #[.slice none 0 0] 32)=W0:=⟨_,rfl⟩
 have hs0:W0.heap.size=w.heap.size+1:=by rw[←hW0];simp
 have hv0:W0.heap[w.heap.size]? = some (.cells #[.slice none 0 0] 32 (0,0)):=by rw[←hW0];exact World.alloc_heap_new w _
 have hb0:Below w.heap.size w W0:=by rw[←hW0];exact(Below.refl _ w).alloc (au _) _
 have hblt:b<w.heap.size:=(aZ.1 hb).1;rw[hW0];refine wpIn_rangeFunc_ownH rfl (by omega) (gf:=100) (lb:=#[.pointer (some ⟨Bm,0,none⟩)]) rfl trivial (enters_of Tryz.func100 (by kernel_rfl) rfl)
  (agN (n-1) (by omega) Bm b l clock hs ks hk W0 (by omega) ((hb0.cell (p:=⟨Bm,0,none⟩) hBm).trans hm) ((hb0.block b hblt).trans hb)) walksK_t walksK_b (Below.refl _ _) (fun _=>rfl)
  (fun pre W=>∃v,W.heap[w.heap.size]? = some (.cells #[v] 32 (0,0))∧W.ownsRow w.heap.size 131 2 v pre.length (pre.flatMap fun h=>[.int .i64 h.1,.int .i64 h.2])∧Below w.heap.size w W)
  (fun _ _ _=>False) ?hI ?hIx ⟨_,hv0,⟨rfl,.inl ⟨rfl,rfl⟩⟩,hb0⟩
  (fun x a' W=>∃A v,a' = {tmps:=#[.slice none 0 0,.func (.func 100) #[] #[.pointer (some ⟨Bm,0,none⟩)],.pointer (some ⟨w.heap.size,0,none⟩),undef,.slice none 0 0,.pointer (some ⟨A,0,none⟩),.func (.func 100) #[] #[.pointer (some ⟨Bm,0,none⟩)],Az x,undef,undef,undef,undef,undef],defers:=[]}∧
   W.heap[A]? = some (.cells #[.int .i64 x.1,.int .i64 x.2] 131 (0,0))∧W.heap[w.heap.size]? = some (.cells #[v] 32 (0,0))∧v.ownBlock≠some A) ?hAx ?assign ?body ?done ?stop
 case hI=>exact fun s X Y row ⟨v,hv,hrow,hbel⟩ hg hr=>⟨v,cells_kept hg hr hv,ac9 hg hr hrow,hbel.grown hg hbel.size (fun k e=>by have:=(hr k e).1;omega)⟩
 case hIx=>exact fun _ _ _ _ _ h=>h.elim
 case hAx=>exact fun x a' s X Y row ⟨A,v,e,hA,hv,hne⟩ hg hr=>⟨A,v,e,cells_kept hg hr hA,cells_kept hg hr hv,hne⟩
 case assign=>
  rintro l1 pre x W K ⟨v,hv,hrow,hbel⟩ hK;simp only[Az]
  gi_wp2_with (rw[Oper.semAt_eq _ _ _ (fun c h=>by cases h)];go_simp;try go_bits)
  have hbs:W.heap.size ≥ w.heap.size+1:=by have:=(aZ.1 hv).1;omega
  have hko:=KeepsOthers.alloc W (Obj.cells #[Value.int IntKind.i64 x.fst,Value.int IntKind.i64 x.snd] 131);have hv2:=(Below.heap_alloc W (Obj.cells #[Value.int IntKind.i64 x.fst,Value.int IntKind.i64 x.snd] 131) w.heap.size (by omega)).trans hv;refine hK _ _ (hko.from _) hko.walks ⟨v,hv2,hrow.alloc _,hbel.alloc (by omega) _⟩ ⟨W.heap.size,v,rfl,World.alloc_heap_new W _,hv2,fun e=>?_⟩
  have:=(hrow.lt _ e).2;omega
 case body=>
  rintro l1 pre x a' W hl1 ⟨rc,hrc⟩ ⟨v,hv,hrow,hbel⟩ ⟨A,v',rfl,hA,hv',hne⟩ hpl;rw[hv]at hv'
  obtain rfl:v=v':=by simpa using hv'
  obtain⟨hc,hf⟩:=cell_of_box_a hv;obtain⟨c0,c1⟩:=cells2 hA;obtain⟨i0,hi,hz0,hz1,hz2⟩:=aot;have hbs:W.heap.size ≥ w.heap.size+1:=by have:=(aZ.1 hv).1;omega
  have atr:Tryz.prog.underlying 32=some (.slice 131):=by kernel_rfl
  have hone:∀u∈[Value.int .i64 x.1,Value.int .i64 x.2],u.oneCell'=true:=by simp[Value.oneCell']
  have hml:pre.length+1≤maxLen:=by have:(1000001:Nat)≤maxLen:=by decide
                                   omega
  have hmb:(pre.length+1)*16≤140737488355328:=by omega
  have hbb:w.heap.size≤(W.alloc (Obj.cells #[Value.int .i64 x.1,Value.int .i64 x.2] 131)).heap.size:=by simp;omega
  gi_wp2_with (first
   | (gi_at_builtin;refine wpListIn_append_own_at _ rfl _ _ 32 rfl w.heap.size 131 i0 (.agg #[.int .i64 0,.int .i64 0]) 2 16 atr hi hz0 hz1 hz2 rfl (by decide) v pre.length _ rfl (hrow.alloc _) ⟨W.heap.size,0,none⟩ 1 1 [.int .i64 x.1,.int .i64 x.2] rfl rfl (cell_two_new _ _ _ _) hone hml hmb hbb ?_;intro v2 w3 hown3 hg3 hnil3 axD;obtain⟨hb3,hc3,hf3⟩:=afg hv hrow hg3;obtain⟨g',cap',rfl⟩:=ac8 hown3;go_frame)
   | (rw[Oper.semAt_eq _ _ _ (fun c h=>by cases h)];go_simp;try go_bits))
  have hold:∀j o,v.ownBlock=some j→(W.alloc (Obj.cells #[Value.int .i64 x.1,Value.int .i64 x.2] 131)).heap[j]? = some o→o.isCells=true:=Zc hrow;have hko:KeepsOthers W (w3.setCell ⟨w.heap.size,0,none⟩ (.slice (some ⟨g',0,none⟩) (pre.length+1) cap')):=
   ((KeepsOthers.alloc W _).trans (KeepsOthers.of_grownBy hg3 hold)).trans (KeepsOthers.setCell _ _ _)
  refine⟨hko.from _,hko.walks,_,heap_setCell_box_a _ hb3,?_,?_⟩
  ·have h1:=hown3.kept (grownBy_setCell0_a w3 w.heap.size (.slice (some ⟨g',0,none⟩) (pre.length+1) cap')) (ownsRow_ne_a hown3 hb3 (fun cur e=>by cases e));simpa using h1
  ·exact((hbel.alloc (by omega) _).grown hg3 (by simp;omega) (fun k e=>(hrow.lt k e).1)).setCell (p:=⟨w.heap.size,0,none⟩) (au _) _
 case done=>
  rintro D xs W hD hperm ⟨v,hv,hrow,hbel⟩ hKD;obtain⟨hc,hf⟩:=cell_of_box_a hv
  gi_wp2
  refine⟨by simp,.inl ⟨_,_,rfl,run_takeDeferred hKD,?_⟩⟩;refine⟨_,results_tmp rfl _ _ _,v,xs,rfl,hperm,hrow.kept (grownBy_putObj_a _ _ _) (ownsRow_ne_a hrow hKD (fun cur e=>by cases e)),hbel.grown (grownBy_putObj_a _ _ _) hbel.size (fun k e=>by cases e;omega)⟩
 case stop=>exact fun _ _ _ _ _ _ h=>h.elim
end Go.Proofs

namespace Go.Proofs
open Go Go.RowKit Go.Maps Go.Sort Go.Shelf Go.Tr
theorem afC(n:Nat)(hn:4≤n)(Bm b:Nat)(l:Array MapEntry)(clock:Nat)(hs:MapKept.Stamped l clock)(ks:List (Int×Int))(hk:l.toList.map (·.key)=ks.map Az)(hkl:ks.length≤1000000)(w:World)(hBm:Bm<w.heap.size)
  (hm:w.cell? ⟨Bm,0,none⟩ = some (.map (some b))) (hb:w.heap[b]? = some (.map l clock)) :
  CallsIn Fence.wide n Tryz.prog 98 #[.func (.func 100) #[] #[.pointer (some ⟨Bm,0,none⟩)]] w fun e w'=>∃(v:Value) (ss:List (Int×Int)),e = .returned v∧ss.Perm ks∧
   w'.ownsRow w.heap.size 131 2 v ss.length (ss.flatMap fun h=>[.int .i64 h.1,.int .i64 h.2])∧Below w.heap.size w w':=by
 have hF:Fence.wide.fn 148:=trivial;have h1:1≤n:=by omega
 have hap:=Zd (n-1) (by omega) Bm b l clock hs ks hk hkl w hBm hm hb;refine callsIn_of_wp Tryz.func98 rfl trivial ?_ rfl;simp only[Tryz.ntmps98,jg,aH,dh,Nat.reduceAdd,Nat.reduceSub,nK,nM,pF,nY,dJ,bg]
 gi_wp2_with (gi_at_call 148;refine hap.mono ?_;rintro e w' ⟨v,ss,rfl,hS,hrow,hb⟩)
 go_ret
 exact⟨v,ss,rfl,hS,hrow,hb⟩
def MH(L:List (Int×Int)):List (List Int):=L.map fun h=>[h.1,h.2]
theorem af2(L:List (Int×Int)):flat (MH L)=L.flatMap fun h=>[.int .i64 h.1,.int .i64 h.2]:=by simp[flat,MH,List.flatMap_map]
theorem aes(L:List (Int×Int)):yX Lr (MH L):=J5 fun x hx y hy h1 h2=>by obtain⟨a,_,rfl⟩:=ak.1 hx;obtain⟨b,_,rfl⟩:=ak.1 hy;simp at h1 h2;simp[h1,h2]
theorem L9{a b:List Int}:(!decide (Lr b a<0))=true↔a.getD 0 0<b.getD 0 0∨a.getD 0 0=b.getD 0 0∧a.getD 1 0≤b.getD 1 0:=by rw[fB,decide_eq_false_iff_not,yZ];omega
theorem YO{a b:List (Int×Int)}(h:a.Perm b):BO (MH a)=BO (MH b):=by
 have tr:∀x y z:List Int,(!decide (Lr y x<0))=true→(!decide (Lr z y<0))=true→(!decide (Lr z x<0))=true:=fun x y z=>by simp only[L9];omega
 have tot:∀x y:List Int,((!decide (Lr y x<0))||(!decide (Lr x y<0)))=true:=fun x y=>by rw[bJ];simp only[L9];omega
 have p1:=jH tr tot (MH a);have p2:=jH tr tot (MH b);refine List.Perm.eq_of_pairwise (le:=fun x y=>(!decide (Lr y x<0))=true) (fun x y hx hy h1 h2=>?_) p1 p2 (((fU _ _).trans (h.map _)).trans (fU _ _).symm);have hx':x∈MH a:=(fU _ _).mem_iff.1 hx;have hy':y∈MH b:=(fU _ _).mem_iff.1 hy
 obtain⟨p,_,rfl⟩:=ak.1 hx';obtain⟨q,_,rfl⟩:=ak.1 hy';simp only[L9,List.getD_cons_zero,List.getD_cons_succ]at h1 h2;have e1:p.1=q.1:=by omega
 have e2:p.2=q.2:=by omega
 rw[e1,e2]
theorem YN(Bm b:Nat)(l:Array MapEntry)(clock:Nat)(hs:MapKept.Stamped l clock)(ks:List (Int×Int))(hk:l.toList.map (·.key)=ks.map Az)(hkl:ks.length≤1000000)(w:World)(hBm:Bm<w.heap.size)
  (hm:w.cell? ⟨Bm,0,none⟩ = some (.map (some b))) (hb:w.heap[b]? = some (.map l clock)) :
  Calls Tryz.prog 40 #[.func (.func 100) #[] #[.pointer (some ⟨Bm,0,none⟩)],.func (.func 42) #[] #[]] w fun e w'=>∃v:Value,e = .returned v∧
   w'.ownsRow w.heap.size 131 2 v ks.length (flat (BO (MH ks)))∧Below w.heap.size w w':=by
 refine(callsIn_wide (n:=5)).1 ?_;have hF1:Fence.wide.fn 98:=trivial;have hF2:Fence.wide.fn 99:=trivial;have hco:=afC 4 (by omega) Bm b l clock hs ks hk hkl w hBm hm hb;refine callsIn_of_wp Tryz.func40 rfl trivial ?_ rfl
 simp only[Tryz.ntmps40,jg,aH,dh,Nat.reduceAdd,Nat.reduceSub,nK,nM,pF,nY,dJ,bg]
 gi_wp2_with (gi_at_call 98;refine hco.mono ?_;rintro e W ⟨v,ss,rfl,hS,hrow,hb⟩)
 have hlen:ss.length=ks.length:=List.Perm.length_eq hS;rcases hrow.2 with⟨rfl,hz⟩|⟨gb,cap,cur,rfl,hbase,hgb,r1,r2,r3,r4⟩
 ·have hss:ss = []:=cO hz;subst hss;have hks:ks = []:=cO (by simpa using hlen.symm);subst hks
  gi_wp2_with (gi_at_call 99;refine(callsIn_wide.2 (uq.none none 0 W)).mono ?_;rintro e w' ⟨rfl,rfl⟩)
  go_ret
  exact⟨.slice none 0 0,rfl,by simpa[BO,MH,flat]using hrow,hb⟩
 ·have hl2:(MH ss).length=ss.length:=by simp[MH]
  by_cases hss:ss = []
  ·subst hss;have hks:ks = []:=cO (by simpa using hlen.symm);subst hks
   gi_wp2_with (gi_at_call 99;refine(callsIn_wide.2 (uq.none (some ⟨gb,0,none⟩) cap W)).mono ?_;rintro e w' ⟨rfl,rfl⟩)
   go_ret
   exact⟨_,rfl,by simpa[BO,MH,flat]using hrow,hb⟩
  ·have hpos:0<(MH ss).length:=by rw[hl2];exact nZ.2 hss
   have hst:=callsIn_wide (n:=4).2 (uq.run W gb cap (MH ss) cur 131 hgb (by rw[hl2];exact r1) r2 r3 (by rw[hl2,af2];exact r4) (fun z hz=>by obtain⟨a,_,rfl⟩:=ak.1 hz;rfl) (aes ss) hpos (by omega));rw[hl2]at hst
   gi_wp2_with (gi_at_call 99;refine hst.mono ?_;rintro e w' ⟨rfl,hg,cur',k1,k2,k3⟩)
   go_ret
   have hfl:(flat (BO (MH ks))).length=ks.length*2:=by rw[CG (k:=2) (uq.row _ fun z hz=>by obtain⟨a,_,rfl⟩:=ak.1 hz;rfl),uq.len];simp[MH]
   exact⟨_,rfl,⟨hfl,.inr ⟨gb,cap,cur',by first|rfl|rw[hlen],hbase,k1,by omega,r2,k2,by rw[←YO hS,←hlen];exact k3⟩⟩,hb.grown hg hb.size (fun j hj=>by cases hj;exact hbase)⟩
theorem ajp(b:Nat)(w:World):Calls Tryz.prog 41 #[.map (some b)] w fun e' w'=>∃ty,e' = .returned (.func (.func 100) #[] #[.pointer (some ⟨w.heap.size,0,none⟩)])∧w'=w.alloc (.cells #[.map (some b)] ty):=by
 go_enter Tryz.func41,Tryz.ntmps41
 go_wp2
 go_ret
 exact⟨_,rfl,rfl⟩
end Go.Proofs
