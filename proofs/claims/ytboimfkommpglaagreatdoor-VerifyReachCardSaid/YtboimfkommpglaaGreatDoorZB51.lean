/-
  What functions of the program compute, stated as contracts over plain data; the conditions of each stand in its own statement.
-/
import Derived.Test.YtboimfkommpglaaGreatDoorZB10
import Derived.Test.YtboimfkommpglaaGreatDoorZB05
import Derived.KernelRfl
import Derived.Test.YtboimfkommpglaaGreatDoorChecked
import Derived.Test.YtboimfkommpglaaGreatDoorZB11
import Derived.Below
import Derived.Test.YtboimfkommpglaaGreatDoorZB13
import Derived.Lib.SlicesCompact
import Derived.Test.YtboimfkommpglaaGreatDoorZB14
import Derived.Test.YtboimfkommpglaaGreatDoorZB20
import Derived.Test.YtboimfkommpglaaGreatDoorZB21
import Derived.Test.YtboimfkommpglaaGreatDoorZB22
import Derived.Test.YtboimfkommpglaaGreatDoorZB24
import Derived.Test.YtboimfkommpglaaGreatDoorZB29
import Derived.Shelf.SlGeneric
import Derived.Shelf.SortM.SortNone
import Derived.Shelf.SortM.Plain
import Derived.Shelf.SlicesG.CompactI
import Derived.Shelf.SlIterI.Nil
import Derived.Ground.GgzProg
import Derived.Ground.SlgmProg
import Derived.Test.YtboimfkommpglaaGreatDoorZB30
import Derived.Test.YtboimfkommpglaaGreatDoorZB25
set_option linter.unusedVariables false
set_option linter.unusedSimpArgs false
namespace Go.Proofs
open Go Go.Tr
@[simp]theorem akM:dP Tryz.prog 65=true:=by kernel_rfl
@[simp]theorem akN:dP Tryz.prog 71=true:=by kernel_rfl
@[simp]theorem arW:dP Tryz.prog 75=true:=by kernel_rfl
end Go.Proofs

set_option linter.unusedSimpArgs false
namespace Go.Tr
open Go Go.Proofs
section
variable {P:Program} {A:jL} {ops:Array Oper}
attribute [simp] aaD
end
end Go.Tr

namespace Go.Proofs
open Go Go.Lib
theorem Aq(zs:List Int):(zs.mergeSort fun x y=>decide (x≤y)).Pairwise (· ≤·):=by grind[List.pairwise_mergeSort]
theorem wO:∀(xs:List Int) (l:List Int),l.Pairwise (· < ·)→(xs.foldl nT l).Pairwise (· < ·)∧∀x,x∈xs.foldl nT l↔x∈l∨x∈xs
 | [],l,h=>⟨h,by simp⟩
 | y::xs,l,h=>by
   obtain⟨h1,h2⟩:=Ep y h;obtain⟨h3,h4⟩:=wO xs _ h1
   grind
end Go.Proofs

set_option maxRecDepth 100000
set_option maxHeartbeats 1000000
namespace Go.Proofs
open Go Go.Tr
theorem contains_c(l:List Int)(hl:l.length≤1000000)(v:Int):Contract Tryz.prog 139 [.d (ints l),.d (.int .i64 v)] [] (.d (.bool (pY l v))) [] []:=Dk l (aY hl (by decide)) v
end Go.Proofs

namespace Go.Proofs
theorem Ru{g:bV}(hg:g.Ok){to:Int}(hto:fM g.rs to=true):dst g to to=0:=by have h1:=Ac hg hto (Wk.nil (g:=g) (to:=to));have h2:=tN hg to to;omega
set_option linter.unusedVariables false
theorem xw{p:Pn}(h:iT p=true){x y:Ed}(hx:x∈p.es)(hy:y∈p.es)(e:x.id=y.id):x=y:=by
 obtain⟨i,hi,rfl⟩:=cu.1 hx;obtain⟨j,hj,rfl⟩:=cu.1 hy;have hp:=bT.1 (xu h)
 grind
theorem vM{g:bV}(hg:g.Ok){r:Int}(h:mZ g.rs r=true):fM g.rs r=true:=by
 obtain⟨x,hx,rfl,_⟩:=(BO hg).1 h
 grind[nI]
theorem vC{g:bV}(hg:g.Ok)(p:Pn)(r:Int):iq (tabs g p g.rs) r=if mZ g.rs r=true then some (nN g p r)else none:=by
 split
 ·rename_i h;obtain⟨x,hx,rfl,hc⟩:=(BO hg).1 h;refine wC (x:=nN g p x.id) (ay.2 ⟨x,bG.2 ⟨hx,hc⟩,rfl⟩) (by simp[nN]) (fun y hy e=>?_);obtain⟨z,hz,rfl⟩:=ay.1 hy;have:z.id=x.id:=of_decide_eq_true e;simp[*]
 ·rename_i h;rw[iq,iW];intro y hy;obtain⟨z,hz,rfl⟩:=ay.1 hy;obtain⟨h1,h2⟩:=bG.1 hz;intro e;exact h ((BO hg).2 ⟨z,h1,of_decide_eq_true e,h2⟩)
theorem NZ{g:bV}{p:Pn}(hp:iT p=true){e:Ed}(he:e∈p.es)(r:Int):rowOf (nN g p r) e.id=some (wE g r e):=
 wC (gB he) (by simp[wE]) (fun y hy h=>by
  obtain⟨z,hz,rfl⟩:=ay.1 hy;have:z.id=e.id:=of_decide_eq_true h
  grind[xw])
theorem JC{g:bV}{p:Pn}{id:Int}(h:∀e∈p.es,e.id≠id)(r:Int):rowOf (nN g p r) id=none:=by rw[rowOf,iW];intro y hy;obtain⟨z,hz,rfl⟩:=ay.1 hy;exact fun a=>h z hz (of_decide_eq_true a)
theorem XT{x:Rw}{p:Int}(h:x.nx≠[])(hz:∀n∈x.nx,n≠0):tH x p∈x.nx:=by
 have hl:x.nx.length≠0:=fun e=>h (dB.1 e)
 rw[tH,if_neg hl];have h1:(p%x.nx.length).toNat<x.nx.length:=by have:=iL p (b:=x.nx.length) (by omega);omega
 simp[*]
theorem xC{g:bV}(hg:jE g=0){p:Pn}(hp:iT p=true){e:Ed}(he:e∈p.es){r:Int}(hr:fM g.rs r=true)(pl:Int):
  (e.r=r∧qc (nN g p r) e.id pl=r)∨(e.r≠r∧mZ g.rs e.r=true∧dst g e.r r<far∧P7 g e.r r (qc (nN g p r) e.id pl))∨
  (e.r≠r∧(mZ g.rs e.r=false∨dst g e.r r=far)∧qc (nN g p r) e.id pl=0):=by
 have hO:=gY hg;unfold qc;rw[NZ hp he,bf];by_cases e1:e.r=r
 ·refine .inl ⟨e1,?_⟩;simp only[wE,if_pos e1,tH];simp
 ·by_cases hc:mZ g.rs e.r=true
  ·have hh:=vM hO hc;have hrow:(wE g r e).nx=hops g r e.r:=by simp only[wE,if_neg e1,if_pos (show jE g=0∧_ from⟨hg,hc⟩)]
   by_cases hd:dst g e.r r<far
   ·obtain⟨n,hn⟩:=P7.some hO hr hh hc (Ne.symm e1) hd;refine .inr (.inl ⟨e1,hc,hd,?_⟩);have hm:=XT (x:=wE g r e) (p:=pl) (by
     rw[hrow];exact List.ne_nil_of_mem ((Cm hg hr hh (Ne.symm e1)).2 hn)) (fun x hx=>by
     rw[hrow]at hx
     have:=(QA g r e.r).2 x hx;have:=hO.id this.1
     grind[Df])
    rw[hrow]at hm
    exact(Cm hg hr hh (Ne.symm e1)).1 hm
   ·refine .inr (.inr ⟨e1,.inr ?_,?_⟩)
    ·have:=tN hO e.r r;omega
    ·have:hops g r e.r = []:=by
      cases hl:hops g r e.r with
      | nil=>rfl
      | cons n l=>have:=((Cm hg hr hh (Ne.symm e1)).1 (show n∈hops g r e.r by simp[*])).near hO;omega
     grind[tH]
  ·refine .inr (.inr ⟨e1,.inl (by simp[*]),?_⟩);simp only[wE,if_neg e1,if_neg (show ¬(jE g=0∧mZ g.rs e.r=true) from fun a=>hc a.2),tH];simp
theorem Rn{g:bV}(hg:jE g=0){p:Pn}(hp:iT p=true){e:Ed}(he:e∈p.es)(hc:mZ g.rs e.r=true)(pl:Int):
  ∀(m:Nat) {r:Int},(dst g e.r r).toNat≤m→mZ g.rs r=true→dst g e.r r<far→∃ws,Dl (tabs g p g.rs) e.id pl r ws∧xg r ws=e.r:=by
 have hO:=gY hg;intro m
 induction m with
 | zero=>
   intro r hm hr hd;have Qc:=vM hO hr;have:=tN hO e.r r;have e1:=KY hO (vM hO hc) Qc (by omega);have hid:=hO.id Qc;unfold Df at hid;rcases xC hg hp he Qc pl with⟨_,h2⟩|⟨h1,_⟩|⟨h1,_⟩
   ·exact⟨[],.here (by rw[vC hO,if_pos hr]) h2 (by omega),e1⟩
   ·exact absurd e1.symm h1
   omega
 | succ m ih=>
   intro r hm hr hd;have Qc:=vM hO hr;have hid:=hO.id Qc;unfold Df at hid;rcases xC hg hp he Qc pl with⟨h1,h2⟩|⟨h1,h2,h3,h4⟩|⟨h1,h2,h3⟩
   ·exact⟨[],.here (by rw[vC hO,if_pos hr]) h2 (by omega),h1.symm⟩
   ·have hn:=h4.near hO;have ak4:=hO.id hn.2.2.2.2;unfold Df at ak4;have:=tN hO e.r (qc (nN g p r) e.id pl);obtain⟨ws,a1,a2⟩:=ih (by omega) hn.2.2.2.1 hn.2.2.1;refine⟨_::ws,.next (by rw[vC hO,if_pos hr]) rfl (by omega) (fun h=>?_) a1,a2⟩;rw[h]at hn;omega
   ·rcases h2 with h2|h2
    ·rw[hc]at h2;simp at h2
    ·omega
theorem GR{g:bV}(hg:jE g=0){p:Pn}(hp:iT p=true){id pl r:Int}{ws:List Int}(h:Dl (tabs g p g.rs) id pl r ws):
  ∃e∈p.es,e.id=id∧xg r ws=e.r∧mZ g.rs e.r=true∧mZ g.rs r=true∧dst g e.r r<far:=by
 have hO:=gY hg
 induction h with
 | @here r b h1 h2 h3=>
   rw[vC hO]at h1
   split at h1
   ·rename_i hr;simp only[aj]at h1;subst h1;have Qc:=vM hO hr;by_cases hex:∃e∈p.es,e.id=id
    ·obtain⟨e,he,rfl⟩:=hex;rcases xC hg hp he Qc pl with⟨a1,a2⟩|⟨a1,a2,a3,a4⟩|⟨a1,a2,a3⟩
     ·refine⟨e,he,rfl,a1.symm,by rw[a1];exact hr,hr,?_⟩
      grind[Ru,far]
     ·have:=a4.near hO;rw[h2]at this;omega
     omega
    grind[qc,JC,tH]
   trivial
 | @next r h b ws h1 h2 h3 h4 h5 ih=>
   obtain⟨e,he,rfl,i1,i2,i3,i4⟩:=ih;refine⟨e,he,rfl,i1,i2,?_⟩;rw[vC hO]at h1
   split at h1
   ·rename_i hr;simp only[aj]at h1;subst h1;have Qc:=vM hO hr;refine⟨hr,?_⟩;rcases xC hg hp he Qc pl with⟨a1,a2⟩|⟨a1,a2,a3,a4⟩|⟨a1,a2,a3⟩
    ·exact absurd (h2.symm.trans a2) h4
    ·exact a3
    ·omega
   ·simp at h1
theorem aa9{g:bV}(hg:jE g=0){p:Pn}(hp:iT p=true){e:Ed}(he:e∈p.es){pl r:Int}:
  (∃ws,Dl (tabs g p g.rs) e.id pl r ws)↔mZ g.rs e.r=true∧mZ g.rs r=true∧dst g e.r r<far:=by
 constructor
 ·grind[GR,xw]
 ·rintro⟨h1,h2,h3⟩;obtain⟨ws,h4,_⟩:=Rn hg hp he h1 pl _ (aI _) h2 h3
  grind
def UZ(g:bV):Nat→Nat→List Int→List Int
 | 0,_,s=>s
 | k+1,i,s=>if i<s.length then UZ g k (i+1) ((near g (s.getD i 0)).foldl zY s)else s
def AY(g:bV)(r:Int):List Int:=UZ g (g.rs.length+1) 0 [r]
def around(g:bV)(r:Int):List Int:=(AY g r).foldl nT []
open Classical in
noncomputable def conn(g:bV)(a b:Int):Bool:=decide (jE g=0)&&fM g.rs a&&fM g.rs b&&pY (around g a) b
theorem QY(s:List Int)(n:Int):∃r,zY s n=s++r:=by
 unfold zY;split
 ·simp
 simp
theorem yw:∀(l s:List Int),∃r,l.foldl zY s=s++r
 | [],s=>⟨[],by simp⟩
 | n::l,s=>by obtain⟨r1,h1⟩:=QY s n;obtain⟨r2,h2⟩:=yw l (zY s n);exact⟨r1++r2,by rw[cO,h2,h1,eU]⟩
theorem BL:∀(l s:List Int),∀n∈l,n∈l.foldl zY s
 | [],_,n,h=>by trivial
 | m::l,s,n,h=>by
   rcases aG.1 h with rfl|h
   ·obtain⟨r,hr⟩:=yw l (zY s n)
    grind[zY,pY]
   ·exact BL l _ n h
theorem Gv{g:bV}(hg:g.Ok){r:Int}:∀(k i:Nat) (s:List Int),ArI g r s→(∀j<i,∀x,s[j]? = some x→∀n∈near g x,n∈s)→i≤s.length→g.rs.length+1≤k+i→
  ArI g r (UZ g k i s)∧(∀x∈s,x∈UZ g k i s)∧∀x∈UZ g k i s,∀n∈near g x,n∈UZ g k i s
 | 0,i,s,h,_,hi,hk=>by have:=zT h.nd (fun x hx=>(h.all x hx).1);omega
 | k+1,i,s,h,hc,hi,hk=>by
   rw[UZ];split
   ·rename_i hlt;have hx:s[i]? = some s[i]:=ah hlt;have hxm:=h.all _ (aB hlt);have e:s.getD i 0=s[i]:=by rw[ak,hx];rfl
    rw[e];generalize s[i]=x at hx hxm;obtain⟨_,m,v,hw⟩:=hxm;obtain⟨q,hq⟩:=yw (near g x) s;have hsub:∀y∈s,y∈(near g x).foldl zY s:=fun y hy=>by rw[hq];exact aJ.2 (.inl hy)
    obtain⟨h4,h5,h6⟩:=Gv hg k (i+1) ((near g x).foldl zY s) (ArI.fold hg hw _ _ (fun _ h=>h) h) (fun j hj y hy n hn=>by
     rw[hq,cZ (by omega)]at hy
     by_cases ej:j=i
     ·subst ej;rw[hx]at hy;simp at hy;subst hy
      exact BL _ _ n hn
     ·exact hsub n (hc j (by omega) y hy n hn)) (by rw[hq,aS];omega) (by omega)
    grind
   ·rename_i hlt;refine⟨h,fun _ h=>h,fun x hx n hn=>?_⟩;obtain⟨j,hj,rfl⟩:=cu.1 hx;exact hc j (by omega) _ (ah hj) n hn
theorem zJ{g:bV}(hg:g.Ok){r x:Int}(hr:fM g.rs r=true):x∈around g r↔∃k v,Wk g r k x v:=by
 obtain⟨h1,h2,h3⟩:=Gv hg (r:=r) (g.rs.length+1) 0 [r] ⟨by simp,fun y hy=>by simp at hy;subst hy;exact⟨hr,0,0,.nil⟩⟩ (fun j hj=>by omega) (by simp) (by omega);have e:x∈around g r↔x∈AY g r:=by simp[around,wO]
 rw[e];constructor
 ·intro h;exact(h1.all x h).2
 ·rintro⟨k,v,hw⟩;have key:∀{k:Nat} {y v:Int},Wk g r k y v→y∈UZ g (g.rs.length+1) 0 [r]:=fun hw=>by
   induction hw with
   | nil=>exact h2 r (by simp)
   | cons hp _ ih=>obtain⟨c',hc'⟩:=EM hg hp;exact h3 _ ih _ ((Me hg).2 ⟨c',hc'⟩)
  exact key hw
theorem Wk.rev{g:bV}(hg:g.Ok){a:Int}{k:Nat}{x v:Int}(h:Wk g a k x v):∃u,Wk g x k a u:=by
 induction h with
 | nil=>exact⟨0,.nil⟩
 | @cons k x y c v hp _ ih=>obtain⟨u,hu⟩:=ih;obtain⟨c',hc'⟩:=EM hg hp;have:=hu.app (.cons hc' .nil);omega
theorem KX{g:bV}(hg:g.Ok){to x:Int}(hto:fM g.rs to=true)(hx:fM g.rs x=true):dst g to x<far↔∃k v,Wk g to k x v:=by
 constructor
 ·grind[Aa]
 ·rintro⟨k,v,h⟩;exact(Ac hg hto h).2
theorem Ri{g:bV}(hg:jE g=0){a b:Int}:conn g a b=true↔fM g.rs a=true∧fM g.rs b=true∧dst g b a<far:=by
 have hO:=gY hg;simp only[conn,hg,decide_true,jZ,aP];constructor
 ·rintro⟨⟨h1,h2⟩,h3⟩;refine⟨h1,h2,?_⟩;obtain⟨k,v,hw⟩:=(zJ hO h1).1 (by simpa[pY]using h3);obtain⟨u,hu⟩:=hw.rev hO;exact(KX hO h2 h1).2 ⟨k,u,hu⟩
 ·rintro⟨h1,h2,h3⟩;refine⟨⟨h1,h2⟩,?_⟩;obtain⟨k,v,hw⟩:=(KX hO h2 h1).1 h3;obtain⟨u,hu⟩:=hw.rev hO;simpa[pY]using(zJ hO h1).2 ⟨k,u,hu⟩
set_option maxHeartbeats 4000000
open Go Go.Tr
theorem aaU(g:bV)(hg:g.Ok)(r:Int)(hr:fM g.rs r=true):Contract Tryz.prog 146 [d_ g,.d (.int .i64 r)] [] (.d (ints (around g r))) [] []:=by
 refine aC Tryz.func146 rfl (fun E0=>?_);refine iK.sound (g:=.mk) (ow:=[12]) (kp:=(kb 0x10020100107f7)) ?_;rw[Tryz.ntmps146];simp -dsimp[d_];try refine⟨?_,⟨by kernel_rfl⟩⟩
 unfold around AY;have asw:=hg.nr
 as_aux_lemma=>
 refine bY.of [12] (kb 0x10020100107f7) (ι:={w:(Nat×List Int)×Bool // w.1.1≤w.1.2.length∧w.1.2.Nodup∧(∀x∈w.1.2,fM g.rs x=true)∧UZ g (g.rs.length+1) 0 [r]=UZ g (g.rs.length+1-w.1.1) w.1.1 w.1.2})
  (fun z=>[(.o 2,It.box [TV.d (.sl (rts g.rs)),TV.d (.sl (pq g.ls))]),(.s 2,It.v (.ptr (.o 2) 0)),(.s 4,It.v (.c (Value.slice none 0 0))),(.s 5,It.v (.bK 12 z.1.1.2.length)),(.o 12,It.row 3 1 (dd (fE .i64 z.1.1.2)) z.1.2),(.s 6,It.v (.d (.int .i64 z.1.1.1)))]) (fun z=>g.rs.length+1-z.1.1.1) ⟨((0,[r]),false),by simp,by simp,by simpa using hr,rfl⟩ ?_ ?_
 ·exact GS.to (by simp[dd,fE])
 generalize UZ g (g.rs.length+1) 0 [r]=H;rintro⟨⟨⟨i,seen⟩,sh⟩,i1,i2,i3,i5⟩;simp only at i1 i2 i3 i5;have hsl:=zT i2 i3;by_cases hi:i<seen.length
 ·have hiz:(i:Int)<seen.length:=by omega
  have hx:seen[i]? = some seen[i]:=ah hi;generalize seen[i]=x at hx;rw[show g.rs.length+1-i=(g.rs.length-i)+1 by omega,UZ,if_pos hi,Dt hx]at i5
  have hsn:=TL g x;have hsh:∀y∈near g x,fM g.rs y=true:=fun y hy=>TK hy
  simp -dsimp[hiz,Bh hx];and_intros;all_goals try first|rfl|omega|exact⟨by kernel_rfl⟩
  refine aF.of (Z5 g hg.sm x) [] 0 ?_;simp -dsimp[d_];and_intros;all_goals try first|rfl|omega|exact⟨by kernel_rfl⟩
  generalize near g x=n at hsn hsh i5;refine bY.of [12] (kb 0x10020100107f7) (ι:={w:(Nat×List Int)×Bool // w.1.1≤n.length∧i<w.1.2.length∧w.1.2.Nodup∧(∀x∈w.1.2,fM g.rs x=true)∧n.foldl zY seen=(n.drop w.1.1).foldl zY w.1.2})
   (fun z=>[(.o 2,It.box [TV.d (.sl (rts g.rs)),TV.d (.sl (pq g.ls))]),(.s 2,It.v (.ptr (.o 2) 0)),(.s 4,It.v (.c (Value.slice none 0 0))),(.s 5,It.v (.bK 12 z.1.1.2.length)),(.o 12,It.row 3 1 (dd (fE .i64 z.1.1.2)) z.1.2),(.s 6,It.v (.d (.int .i64 i))),(.s 7,It.v (.d (ints n))),(.s 8,It.v (.d (.int .i64 z.1.1.1)))]) (fun z=>n.length-z.1.1.1) ⟨((0,seen),sh),by simp,hi,i2,i3,rfl⟩ ?_ ?_
  ·exact GS.to (by simp)
  generalize hR:n.foldl zY seen=R at i5;rintro⟨⟨⟨k,seen⟩,sh⟩,k1,k2,k3,k4,k6⟩;simp only at k1 k2 k3 k4 k6;have hsl:=zT k3 k4;by_cases hk:k<n.length
  ·have hkz:(k:Int)<n.length:=by omega
   have hy:n[k]? = some n[k]:=ah hk;have hym:=hsh _ (aB hk);have hdr:n.drop k=n[k]::n.drop (k+1):=aU hk;generalize n[k]=y at hy hym hdr;rw[hdr,cO,zY]at k6
   simp -dsimp[hkz,hy,ints];and_intros;all_goals try first|rfl|omega|exact⟨by kernel_rfl⟩
   refine aF.of (XP seen (by omega) y) [] 0 ?_;rcases (au (pY seen y)).symm with c2|c2
   ·rw[if_neg (by simp[c2])]at k6
    simp -dsimp[c2,ints,hy,hkz,d_,wrap_i64 (n:=(k:Int)+1) (by omega) (by omega)];and_intros;all_goals try first|rfl|omega|exact⟨by kernel_rfl⟩
    have hnd:(seen++[y]).Nodup:=by rw[jh];refine⟨k3,by simp,fun a ha b hb e=>?_⟩;simp at hb;subst hb;subst e;simp[pY,ha]at c2
    exact⟨⟨((k+1,seen++[y]),true),by simp;omega,by simp;omega,hnd,fun x hx=>by
     rcases aJ.1 hx with hx|hx
     ·exact k4 x hx
     ·simp at hx;subst hx;exact hym,k6⟩,GS.to (by simp[fE,ints]),by simp;omega⟩
   ·rw[if_pos c2]at k6
    simp -dsimp[c2,ints,hy,hkz,d_,wrap_i64 (n:=(k:Int)+1) (by omega) (by omega)];and_intros;all_goals try first|rfl|omega|exact⟨by kernel_rfl⟩
    exact⟨⟨((k+1,seen),true),by simp;omega,k2,k3,k4,k6⟩,GS.to (by simp[ints]),by simp;omega⟩
  ·have hkz :¬(k:Int)<n.length:=by omega
   rw[dJ (by omega),rD]at k6
   simp -dsimp[hkz,ints,wrap_i64 (n:=(i:Int)+1) (by omega) (by omega)];try refine⟨?_,⟨by kernel_rfl⟩⟩
   exact⟨⟨((i+1,seen),sh),by simp;omega,k3,k4,by rw[i5,k6,show g.rs.length+1-(i+1)=g.rs.length-i by omega]⟩,GS.to (by simp[ints]),by simp;omega⟩
 ·have hiz :¬(i:Int)<seen.length:=by omega
  have e:H=seen:=by
   rw[i5];cases hm:g.rs.length+1-i with
   | zero=>rfl
   | succ m=>rw[UZ,if_neg hi]
  subst e;simp -dsimp[hiz];try refine⟨?_,⟨by kernel_rfl⟩⟩
  clear i5 i1 hi hiz;refine bY.of [12] (kb 0x10020100107f7) (ι:={w:Nat×List Int // w.1≤H.length∧w.2.length≤w.1∧H.foldl nT []=(H.drop w.1).foldl nT w.2})
   (fun z=>[(.s 4,It.v (.c (Value.slice none 0 0))),(.s 5,It.v (.bK 12 H.length)),(.o 12,It.row 3 1 (dd (fE .i64 H)) sh),(.s 9,It.v (.d (ints z.1.2))),(.s 10,It.v (.d (.int .i64 z.1.1)))]) (fun z=>H.length-z.1.1) ⟨(0,[]),by simp,by simp,rfl⟩ ?_ ?_
  ·exact GS.Gm 9 (by simp[ints])
  generalize H.foldl nT []=R;rintro⟨⟨i,l⟩,i1,i2,i3⟩;simp only at i1 i2 i3;by_cases hi:i<H.length
  ·have hiz:(i:Int)<H.length:=by omega
   have hx:H[i]? = some H[i]:=ah hi;have hdr:H.drop i=H[i]::H.drop (i+1):=aU hi;generalize H[i]=x at hx hdr;rw[hdr,cO]at i3
   have hl:=ZF l x;have hins:=Tf l (by omega) x;simp only[ints]at hins;simp -dsimp[hiz,Bh hx,ints];and_intros;all_goals try first|rfl|omega|exact⟨by kernel_rfl⟩
   refine aF.of hins [] 0 ?_;simp -dsimp[wrap_i64 (n:=(i:Int)+1) (by omega) (by omega)];and_intros;all_goals try first|rfl|omega|exact⟨by kernel_rfl⟩
   exact⟨⟨(i+1,nT l x),by simp;omega,by simp;omega,i3⟩,GS.to (by simp[ints]),by simp;omega⟩
  ·have hiz :¬(i:Int)<H.length:=by omega
   rw[dJ (by omega),rD]at i3
   simp -dsimp[hiz];try refine⟨?_,⟨by kernel_rfl⟩⟩
   refine Fin.view 4 ?_;simp -dsimp;refine Fin.of ?_;simp[i3]
theorem U4(g:bV)(hg:g.Sm)(a b:Int):Contract Tryz.prog 75 [d_ g,.d (.int .i64 a),.d (.int .i64 b)] [] (.d (.bool (conn g a b))) [] []:=by
 have h1:=LK g hg a;have h2:=LK g hg b;simp only[d_]at h1 h2;refine aC Tryz.func75 rfl (fun E0=>?_);refine iK.sound (g:=.mk) (ow:=[]) (kp:=(kb 0x4f)) ?_;rw[Tryz.ntmps75];simp -dsimp[d_];try refine⟨?_,⟨by kernel_rfl⟩⟩
 refine aF.of h1 [] 0 ?_;rcases (au (decide (jE g=0)&&fM g.rs a)).symm with a1|a1
 ·have e:conn g a b=false:=by simp only[conn,a1,lF]
  simp -dsimp[a1];try refine⟨?_,⟨by kernel_rfl⟩⟩
  refine Fin.of ?_;simp[e]
 rcases (au (decide (jE g=0)&&fM g.rs b)).symm with a2|a2
 ·have e:conn g a b=false:=by
   simp only[aP,decide_eq_true_eq]at a1;simp only[a1.1,decide_true,jZ]at a2;simp only[conn,a2,pK,lF]
  simp -dsimp[a1];try refine⟨?_,⟨by kernel_rfl⟩⟩
  refine aF.of h2 [] 0 ?_;simp -dsimp[a2];try refine⟨?_,⟨by kernel_rfl⟩⟩
  refine Fin.of ?_;simp[e]
 have hc:jE g=0:=by simp at a1;exact a1.1
 have ha:fM g.rs a=true:=by simp at a1;exact a1.2
 have hb:fM g.rs b=true:=by simp at a2;exact a2.2
 have h3:=aaU g (gY hc) a ha;have hl:(around g a).length≤1000000:=by
  have h4:=(gY hc).nr;have h5:=(wO (AY g a) [] (by simp)).1;have h6:∀x∈around g a,fM g.rs x=true:=fun x hx=>by obtain⟨k,v,hw⟩:=(zJ (gY hc) ha).1 hx;exact hw.has (gY hc) ha
  have:=zT (g:=g) (l:=around g a) (h5.imp fun h=>by omega) h6;omega
 have h7:=XP (around g a) hl b;have e:conn g a b=pY (around g a) b:=by simp[conn,hc,ha,hb]
 rw[e];simp only[d_,ints]at h3 h7;simp -dsimp[a1];try refine⟨?_,⟨by kernel_rfl⟩⟩
 refine aF.of h2 [] 0 ?_;simp -dsimp[a2];try refine⟨?_,⟨by kernel_rfl⟩⟩
 refine aF.of h3 [] 0 ?_;simp -dsimp;try refine⟨?_,⟨by kernel_rfl⟩⟩
 refine aF.of h7 [] 0 ?_;simp -dsimp;try refine⟨?_,⟨by kernel_rfl⟩⟩
 refine Fin.of ?_;simp
end Go.Proofs

set_option linter.unusedVariables false
namespace Go.Proofs
open Go Go.Tr
theorem H8{p:Pn}(h:iT p=true){e:Ed}(he:e∈p.es):1≤e.id∧e.id≤256:=by
 simp only[iT,decide_eq_true_eq]at h;obtain⟨_,h2,_⟩:=h;obtain⟨i,hi,rfl⟩:=cu.1 he;have h3:=h2 i hi;have e:gid p.es i=p.es[i].id:=by grind[gid,List.getElem?_eq_getElem]
 simp only[Oc,inB,aP,decide_eq_true_eq]at h3;omega
def agx(p:Pn)(id:Int):Option Ed:=p.es.find? fun e=>decide (e.id=id)
theorem Oe{p:Pn}(h:iT p=true){e:Ed}(he:e∈p.es):agx p e.id=some e:=
 wC he (by simp) fun y hy hq=>xw h hy he (of_decide_eq_true hq)
theorem XK{l:List Tb}{id pl:Int}:∀{r:Int} {ws:List Int},Dl l id pl r ws→∀t:Nat,jM l id pl t r=if ws.length≤t then(true,xg r ws,t-ws.length)else(false,xg r (ws.take t),0):=by
 intro r ws h
 induction h with
 | @here r b h1 h2 h3=>
   intro t;cases t with
   | zero=>grind[jM,xg]
   | succ t=>grind[jM,xg]
 | @next r h b ws h1 h2 h3 h4 h5 ih=>
   intro t;cases t with
   | zero=>grind[jM,xg]
   | succ t=>rw[jM,h1];simp only[h2,if_neg h3,if_neg h4];rw[ih t];simp[xg]
def jS(l:List An):List An:=l.filter fun a=>decide (a.kd=1)
def jF(l:List An)(id:Int):List An:=(jS l).filter fun a=>decide (a.id=id)
def oz(l:List An):List Int:=(jS l).foldl (fun s a=>nT s a.id) []
def BP(p:Pn)(ids:List Int)(l:List An):List (List Int):=
 (ids.filter fun id=>!decide (id∈oz l)).map (fun id=>[1,own p id,id,0]) ++
 (((oz l).filter fun id=>!decide (id∈ids)).map (fun id=>[2,((jF l id).getD 0 ⟨0,0,0,0⟩).rt,id,0]) ++
 (((oz l).filter fun id=>decide (1<(jF l id).length)).map (fun id=>[3,((jF l id).getD 1 ⟨0,0,0,0⟩).rt,id,((jF l id).length:Int)]) ++
 ((jS l).filter fun a=>decide (a.rt≠own p a.id)).map (fun a=>[4,own p a.id,a.id,a.rt])))
theorem Du(l:List An):oz l=((jS l).map (·.id)).foldl nT []:=by simp[oz,List.foldl_map]
theorem sK{l:List An}{x:Int}:x∈oz l↔x∈(jS l).map (·.id):=by simp[Du,wO]
theorem JF{p:Pn}{ids:List Int}{l:List An}(h1:∀a∈jS l,a.id∈ids∧a.rt=own p a.id)(h2:((jS l).map (·.id)).Nodup):
  BP p ids l=(ids.filter fun id=>!decide (id∈(jS l).map (·.id))).map fun id=>[1,own p id,id,0]:=by
 have e1:((oz l).filter fun id=>!decide (id∈ids)) = []:=fU.2 fun x hx=>by obtain⟨a,ha,rfl⟩:=ay.1 (sK.1 hx);simp[*]
 have hc:∀x,(jF l x).length≤1:=fun x=>by
  unfold jF;generalize jS l=d at h2
  induction d with
  | nil=>simp
  | cons a d ih=>
    rw[aH,dG]at h2
    rw[dD];split
    ·simp_all
    simp[*]
 have e2:((oz l).filter fun id=>decide (1<(jF l id).length)) = []:=by simp[*]
 have e3:((jS l).filter fun a=>decide (a.rt≠own p a.id)) = []:=by simp_all
 unfold BP;rw[e1,e2,e3];simp[sK]
end Go.Proofs

namespace Go.Proofs
open Go.Shelf
def Tryz.yJ:Go.Shelf.Ren:=⟨fun|7=>138|10=>214|n=>n,fun|23=>146|26=>3|3=>22|28=>199|0=>0|27=>198|33=>37|4=>4|n=>n,fun|n=>n⟩
theorem Tryz.PD:Go.Proofs.SlLaysZI.n7 Tryz.prog Tryz.yJ:={
 mixed:=by kernel_rfl
 f7:=⟨Tryz.f138.name,by decide,Tryz.func138.trans (congrArg some (by kernel_rfl))⟩
 f10:=⟨Tryz.f214.name,by decide,Tryz.func214.trans (congrArg some (by kernel_rfl))⟩
 t0:=Tryz.underlying0
 a0:=Tryz.isAgg0
 z0:=Tryz.sizeOf0
 v0:=Tryz.zeroValue0
 t4:=Tryz.underlying4
 a4:=Tryz.isAgg4
 z4:=Tryz.sizeOf4
 v4:=Tryz.zeroValue4
 t23:=Tryz.underlying146
 a23:=Tryz.isAgg146
 z23:=Tryz.sizeOf146
 v23:=Tryz.zeroValue146
 t26:=Tryz.underlying3
 a26:=Tryz.isAgg3
 z26:=Tryz.sizeOf3
 v26:=Tryz.zeroValue3
 t27:=Tryz.underlying198
 a27:=Tryz.isAgg198
 z27:=Tryz.sizeOf198
 v27:=Tryz.zeroValue198
 t28:=Tryz.underlying199
 a28:=Tryz.isAgg199
 z28:=Tryz.sizeOf199
 v28:=Tryz.zeroValue199
 t33:=Tryz.underlying37
 a33:=Tryz.isAgg37
 z33:=Tryz.sizeOf37
 v33:=Tryz.zeroValue37}
def Tryz.vK:Go.Shelf.Ren:=⟨fun|6=>137|8=>212|9=>213|11=>247|13=>249|12=>248|23=>268|24=>269|14=>259|15=>260|16=>261|17=>262|18=>263|19=>264|20=>265|21=>266|22=>267|25=>280|26=>281|27=>282|28=>283|29=>284|30=>254|31=>296|n=>n,fun|26=>3|28=>199|24=>22|0=>0|3=>3|37=>193|48=>290|50=>23|4=>4|40=>284|39=>283|45=>93|5=>5|9=>9|51=>302|55=>306|57=>315|58=>316|33=>37|n=>n,fun|n=>n⟩
theorem Tryz.LY:Go.Proofs.SlLaysZI.n6 Tryz.prog Tryz.vK:={
 mixed:=by kernel_rfl
 f6:=⟨Tryz.f137.name,by decide,Tryz.func137.trans (congrArg some (by kernel_rfl))⟩
 f8:=⟨Tryz.f212.name,by decide,Tryz.func212.trans (congrArg some (by kernel_rfl))⟩
 f11:=⟨Tryz.f247.name,by decide,Tryz.func247.trans (congrArg some (by kernel_rfl))⟩
 t0:=Tryz.underlying0
 a0:=Tryz.isAgg0
 z0:=Tryz.sizeOf0
 v0:=Tryz.zeroValue0
 t24:=Tryz.underlying22
 a24:=Tryz.isAgg22
 z24:=Tryz.sizeOf22
 v24:=Tryz.zeroValue22
 t26:=Tryz.underlying3
 a26:=Tryz.isAgg3
 z26:=Tryz.sizeOf3
 v26:=Tryz.zeroValue3
 t28:=Tryz.underlying199
 a28:=Tryz.isAgg199
 z28:=Tryz.sizeOf199
 v28:=Tryz.zeroValue199
 i26:=by kernel_rfl}
open Go.Tr
end Go.Proofs

set_option maxHeartbeats 16000000
namespace Go.Proofs
open Go Go.Tr
theorem rX{α β:Type}{q:α→Bool}{f:α→β}{l:List α}{i:Nat}{x:α}(h:l[i]? = some x):((l.take (i+1)).filter q).map f=((l.take i).filter q).map f++if q x=true then [f x]else []:=by
 rw[aO,h,bJ,fH]
 congr 1
 show List.map f ([x].filter q)=_
 rw[dD];split<;>rfl
theorem nV{α β:Type}(q:α→Bool)(f:α→β)(l:List α):((l.filter q).map f).length≤l.length:=by rw[aN];exact aQ _ _
theorem yX{l:List An}{i:Nat}{a:An}(h:l[i]? = some a):(ans l)[i]? = some (BJ a):=by simp[ans,h]
theorem LP(l:List Int)(n:Int):(nT l n).length≤l.length+1:=by
 unfold nT;split
 ·omega
 ·simp only[aS,bF,kZ,aT,eY];omega
theorem Ad(l:List An):(oz l).length≤l.length:=by
 have key:∀(d:List An) (s:List Int),(d.foldl (fun s a=>nT s a.id) s).length≤s.length+d.length:=fun d=>by
  induction d with
  | nil=>intro s;simp
  | cons a d ih=>intro s;have h1:=ih (nT s a.id);have h2:=LP s a.id;rw[cO,aT];omega
 have h1:=key (jS l) [];have h2:(jS l).length≤l.length:=aQ _ _;unfold oz;simp only[eY]at h1;omega
theorem adf(l:List Int)(hl:l.length≤1000000)(n:Int):Contract Tryz.prog 74 [.d (ints l),.d (.int .i64 n)] [] (.d (.bool (pY l n))) [] []:=by
 refine aC Tryz.func74 rfl (fun E0=>?_);refine iK.sound (g:=.mk) (ow:=[]) (kp:=(kb 0x20233)) ?_;rw[Tryz.ntmps74];simp -dsimp[ints];refine bY.of [] (kb 0x20233) (ι:={i:Nat // i≤l.length∧n∉l.take i})
  (fun z=>[(.s 0,It.v (.d (ints l))),(.s 1,It.v (.d (.int .i64 n))),(.s 5,It.v (.d (.int .i64 z.1)))]) (fun z=>l.length-z.1) ⟨0,by omega,by simp⟩ ?_ ?_
 ·exact GS.to (by simp[ints])
 ·rintro⟨i,i1,i2⟩;by_cases hi:i<l.length
  ·have hiz:(i:Int)<l.length:=by omega
   have hx:l[i]? = some l[i]:=ah hi;have hm:=aB hi;generalize l[i]=x at hx hm;have w1:IntKind.i64.wrap ((i:Int)+1)=(i:Int)+1:=wrap_i64 (by omega) (by omega);by_cases c:x=n
   ·simp -dsimp[hiz,hx,ints,eq_true c];and_intros;all_goals try first|rfl|omega|exact⟨by kernel_rfl⟩
    refine Fin.of ?_;simp[pY,←c,hm]
   ·simp -dsimp[hiz,hx,ints,eq_false c,w1];and_intros;all_goals try first|rfl|omega|exact⟨by kernel_rfl⟩
    refine⟨⟨i+1,by omega,fun hmem=>?_⟩,GS.to (by simp[ints]),by simp;omega⟩;rw[aO,hx,fJ]at hmem
    rcases aJ.1 hmem with e|e
    ·exact i2 e
    ·exact c (bn.1 e).symm
  ·have hiz :¬(i:Int)<l.length:=by omega
   rw[aW (by omega)]at i2
   simp -dsimp[hiz,ints];and_intros;all_goals try first|rfl|omega|exact⟨by kernel_rfl⟩
   refine Fin.of ?_;simp[pY,i2]
def asQ(l:List Int):Bool:=!pV (fun x y:Int=>decide (y≤x)) l
noncomputable def Gy(p:Pn)(ids:List Int):Int:=if iT p=false then 1 else if asQ ids=false then 25 else if ids.any (fun id=>decide (own p id=0))=true then 4 else 0
noncomputable def vI(p:Pn)(ids:List Int)(l:List An):List (List Int)×Int:=if Gy p ids=0 then(BP p ids l,0)else([],Gy p ids)
theorem Bo{l:List An}{id:Int}(h:id∈oz l):0<(jF l id).length:=by obtain⟨a,ha,e⟩:=ay.1 (sK.1 h);exact jr (a:=a) (bG.2 ⟨ha,by simpa using e⟩)
def y7:List Ed→List Int→Tp→List Int×Tp
 | [],out,T=>(out,T)
 | e::es,out,T=>y7 es (if 0<(bH T 3).1 then out++[e.id]else out) (bH T 3).2
theorem ahf(T:Tp)(hT:dW T)(p:Pn)(hp:p.es.length≤1000):Contract Tryz.prog 65 [.ptr (.x 0) 0,iE p] [iG T] (.d (ints (y7 p.es [] T).1)) [iG (y7 p.es [] T).2] []:=by
 refine aC Tryz.func65 rfl (fun E0=>?_);refine iK.sound (g:=.mk) (ow:=[5]) (kp:=(kb 0x21ebb)) ?_;rw[Tryz.ntmps65];simp -dsimp[iE];and_intros;all_goals try first|rfl|omega|exact⟨by kernel_rfl⟩
 refine bY.of [5] (kb 0x21ebb) (ι:={z:Nat×List Int×Tp // dW z.2.2∧z.1≤p.es.length∧z.2.1.length≤z.1∧y7 p.es [] T=y7 (p.es.drop z.1) z.2.1 z.2.2})
  (fun z=>[(.s 0,It.v (.ptr (.x 0) 0)),(.x 0,iG z.1.2.2),(.o 5,It.row 3 1 (dd (fE .i64 z.1.2.1)) false),(.s 5,It.v (.bK 5 z.1.2.1.length)),(.s 9,It.v (.d (.sl (lX p.es)))),(.s 10,It.v (.d (.int .i64 p.es.length))),(.s 11,It.v (.d (.int .i64 z.1.1)))])
  (fun z=>p.es.length-z.1.1) ⟨(0,[],T),hT,by omega,by simp,by simp⟩ ?_ ?_
 ·exact GS.own' (k:=5) 3 1 (by simp) (by simp) (by simp[iG,dd,fE])
 rintro⟨⟨i,out,T'⟩,h1,h2,h3,h4⟩;simp only at h1 h2 h3 h4;by_cases hi:i<p.es.length
 ·have hiz:(i:Int)<p.es.length:=by omega
  have hx:p.es[i]? = some p.es[i]:=ah hi;have hd:p.es.drop i=p.es[i]::p.es.drop (i+1):=aU hi;generalize p.es[i]=e at hx hd;have w1:IntKind.i64.wrap ((i:Int)+1)=(i:Int)+1:=wrap_i64 (by omega) (by omega);rw[hd,y7]at h4
  simp -dsimp[hiz,hx,lX,Ed.cs];and_intros;all_goals try first|rfl|omega|exact⟨by kernel_rfl⟩
  refine aF.of (jR T' h1 3 ⟨by omega,by omega⟩) [.x 0] 0 ?_;have k1:dW (bH T' 3).2:=by simpa using h1
  generalize bH T' 3=a at k1 h4⊢;obtain⟨a,T2⟩:=a;simp only at k1 h4⊢;by_cases ha:0<a
  ·rw[if_pos ha]at h4
   simp -dsimp[ha,w1];and_intros;all_goals try first|rfl|omega|exact⟨by kernel_rfl⟩
   exact⟨⟨(i+1,out++[e.id],T2),k1,by simp only;omega,by simp;omega,h4⟩,GS.to (by simp[lX,iG];simp[dd,fE]),by simp;omega⟩
  ·rw[if_neg ha]at h4
   simp -dsimp[ha,w1];and_intros;all_goals try first|rfl|omega|exact⟨by kernel_rfl⟩
   exact⟨⟨(i+1,out,T2),k1,by simp only;omega,by simp only;omega,h4⟩,GS.to (by simp[lX,iG]),by simp;omega⟩
 have hiz :¬(i:Int)<p.es.length:=by omega
 rw[oD (by omega),y7]at h4
 simp -dsimp[hiz];and_intros;all_goals try first|rfl|omega|exact⟨by kernel_rfl⟩
 refine Fin.view 4 ?_;simp -dsimp;refine Fin.of ?_;simp[h4,ints,dd,fE,iG]
end Go.Proofs

namespace Go.Tr
open Go Go.Proofs
theorem Eu(es:List (List Int×TV)):(qW es).length=es.length:=by simp[qW]
theorem yN{a b:List Int}(h:a.Perm b):(a.mergeSort fun x y=>decide (x≤y))=b.mergeSort fun x y=>decide (x≤y):=by grind[List.Perm.eq_of_pairwise,List.pairwise_mergeSort,List.mergeSort_perm]
theorem Ez{E:En}{es:List (List Int×TV)}{l' l:List MapEntry}(hp:l'.Perm l)(h:nH E es l')(hk:∀x∈es,x.1.length=1):∃ks:List Int,l.map (·.key)=ks.map (Value.int .i64)∧ks.Perm (es.map fun x=>x.1.headD 0):=by
 have key:∀x∈es,jX x.1=Value.int .i64 (x.1.headD 0):=fun x hx=>by
  have:=hk x hx
  match e:x.1,this with
  | [k],_=>rfl
 have h1:=EC h
 let f:MapEntry→Int:=fun a=>match a.key with|.int _ n=>n|_=>0
 have h2:∀a∈l',a.key=Value.int .i64 (f a):=by grind[List.mem_map_of_mem]
 refine⟨l.map f,?_,?_⟩
 ·grind[List.map_congr_left]
 ·have h3:l'.map (fun a=>Value.int .i64 (f a))=es.map fun x=>Value.int .i64 (x.1.headD 0):=by grind[List.map_congr_left]
  have h4:=congrArg (List.map fun v:Value=>match v with|.int _ n=>n|_=>0) h3
  grind[Function.comp_def]
section
variable {P:Program} {A:jL} {ops:Array Oper}
theorem Sum.sortedK{t:S}{i d:Nat}{o:Oper}{gp:List Pl}{fo x:Operand}{tys:Array TypeId}{f fK g:FuncId}{e:TypeId}{id:Nat}{p:Pl}{es:List (List Int×TV)}{c:Nat}{pd:Option (List Int)}{sn:Option oO}
  (ho:ops[i]? = some o) (hg:gv ops t o=some (gp,true)) (hd:qj A.N o=true) (hop:o.op = .call {callee:=.value fo,args:=#[x],argTypes:=tys}) (hf:ev t fo = .clo f []) (hfn:dP P f=true)
  (C:DY P fK f g e) (hx:ev t x = .clo g [.ptr p 0]) (hpl:vY p=true) (hp:t p = .box [.mref id]) (hm:t (.o id) = .jA es c pd sn) (hk:∀x∈es,x.1.length=1∧I64 (x.1.headD 0)) (hl:es.length≤1000000) (ht:t (.o d) = .none) :
  Sum P A ops i t (gp++(pl fo++(pl x++[p,.o id,.o d]))) (wF o (.bK d es.length) [(.o d,.row e 1 (dd (fE .i64 (qW es))) false)]):=fun t' hr a w ⟨E,hw,hi⟩ K Q hK=>by
 subst hw;have hwant:=oQ hg (dw hr) hi;have hr1:=bg hr;have hr2:=bg hr1;have hr3:=bg hr2;have hfo:ev t' fo = .clo f []:=(fZ (dw hr1)).trans hf;have hx':ev t' x = .clo g [.ptr p 0]:=(fZ (dw hr2)).trans hx;have hp':t' p = .box [.mref id]:=(hr3 _ (by simp)).trans hp;have hm':t' (.o id) = .jA es c pd sn:=(hr3 _ (by simp)).trans hm
 have ht':t' (.o d) = .none:=(hr3 _ (by simp)).trans ht;have hfr:=dS hi fo;rw[hfo]at hfr
 simp only[aV,b_]at hfr;obtain⟨vF,Cb,wY⟩:=hfr;obtain rfl:vF = #[]:=by cases vF;simpa using wY
 have hxr:=dS hi x;rw[hx']at hxr
 simp only[aV,b_]at hxr;obtain⟨us,hu,u0,us',hus,⟨b0,hb0,hu0⟩,OB⟩:=hxr;subst OB hu0;obtain rfl:us = #[.pointer (some ⟨b0,0,none⟩)]:=by cases us;simpa using hus
 have hbox:=hi.h.item p (fun k e=>by subst e;simp[vY]at hpl);rw[hp']at hbox
 obtain⟨_,b1,ty,cs,hb1,hh1,hsz,hc1⟩:=hbox;rw[hb0]at hb1
 simp only[aj]at hb1;subst hb1;obtain⟨⟨u1,hg1,_,hr1'⟩,_⟩:=hc1;simp only[aV]at hr1';obtain⟨b2,hb2,hu1⟩:=hr1';subst hu1;have hit:=hi.h.item (.o id) (fun k e=>by simp at e);rw[hm']at hit
 obtain⟨id',b3,l,clock,l',_,_,hpe,hb3,hh3,hperm,hrel,hst,_⟩:=hit;obtain rfl:id=id':=by simpa using hpe
 rw[hb2]at hb3
 simp only[aj]at hb3;subst hb3;obtain⟨ks,hks,hkp⟩:=Ez hperm hrel fun x hx=>(hk x hx).1
 have hcell:E.w.cell? ⟨b0,0,none⟩ = some (.map (some b2)):=by rw[xE hh1];simpa using hg1
 have hlt:b0<E.w.heap.size:=(bZ.1 hh1).1;unfold wpOp;simp only[ho,hwant,if_true];refine .inl ?_;unfold Oper.wp;have hrun:(execOp a.eval o).run P E.w = .ok (.enter f #[.func (.func g) #[] #[.pointer (some ⟨b0,0,none⟩)]]) E.w:=by simp only[execOp,hop,resolve,Cb,Deferred.ofValue,invoke,Sem.run_bind,Sem.run_pure,Result.andThen_ok,iy,iF,jH hfn,hu,Array.map,kM];simp[hu,jH hfn]
 rw[hrun];simp only[Oper.upon];have hwf:∀k∈ks,(Lit.int .i64 k).wf=true:=fun k hk'=>by
  obtain⟨x,hx,rfl⟩:=ay.1 (hkp.mem_iff.1 hk');have:=(hk x hx).2;simp only[Lit.wf,aP,decide_eq_true_eq];have m1:IntKind.i64.min = -9223372036854775808:=by decide
  have m2:IntKind.i64.max=9223372036854775807:=by decide
  exact⟨by have:=this.1;omega,by have:=this.2;omega⟩
 have ag2:ks.length=es.length:=by rw[hkp.length_eq,aN]
 refine(C.sorted b0 b2 l clock ks E.w hlt hcell hh3 hst hks hwf (by omega)).mono fun e' w' ⟨v,he,hown,hbel⟩=>?_
 rw[show(ks.mergeSort fun x y=>decide (x≤y))=qW es from yN hkp,ag2]at hown
 subst he;have hgr:E.w.grownBy w' none:=⟨hbel.os,hbel.tape,hbel.output,hbel.size,fun k hk _=>hbel.block k hk⟩
 have hkl:(dd (fE .i64 (qW es))).length=es.length:=by rw[Dn,Eu]
 obtain⟨E',hw2,x',hinv,hval⟩:=hi.A_ ht' (es:=dd (fE .i64 (qW es))) (v:=v) (us:=(qW es).map (Value.int .i64)) (e:=e) (k:=1) (w':=w') hgr
  (by rw[hkl];simpa[qW]using hown) (fun E' _ _=>yO (by simp))
 refine hK _ _ ⟨E',hw2,?_⟩;refine iI.dst (W:=[(.o d,.row e 1 (dd (fE .i64 (qW es))) false)]) hinv hd ?_;simp only[aV];have h1:v.oneCell'=true:=by rcases hown.2 with⟨rfl,_⟩|⟨g,cap,cur,rfl,_⟩<;>rfl
 rw[hkl]at hval
 exact⟨h1,1,es.length,v,hval,aI _,fun _=>rfl⟩
theorem aF.sortedK{i:Nat}{t:S}{k:List Pl→List (Pl×It)→Prop}{gt:Tg k}{f fK g:FuncId}{e:TypeId}(C:DY P fK f g e)
  (h:UW k gt (aad t ops (fun o gp gd fo x=>sortK P A.N t o f g e gp gd fo x) ops[i]?)):aF P A ops i t k gt:=
 aF.one (fun o gp gd fo x tys D rp W ho hg hop hc h1=>by
  unfold sortK at hc;split at hc
  ·rename_i f' caps hf;split at hc
   ·rename_i g' p hx;split at hc
    ·rename_i id hp;split at hc
     ·rename_i es cc pd sn hm;split at hc
      ·rename_i d hod;simp only[aj,aK]at hc;obtain⟨rfl,rfl,rfl⟩:=hc;obtain⟨rfl,q1,rfl,rfl,q2,rfl,q3,q4,q5,q6⟩:=h1;exact Sum.sortedK ho hg q1 hop hf q2 C hx q3 hp hm q4 q5 q6
      trivial
     trivial
    trivial
   trivial
  trivial) h
end
end Go.Tr

namespace Go.Proofs
open Go Go.Tr
def RM(es:List Ed):IM:=es.foldl (fun m e=>pI m e.id e.r) []
theorem KD{es:List Ed}{k:Nat}{e:Ed}(h:es[k]? = some e):RM (es.take (k+1))=pI (RM (es.take k)) e.id e.r:=by unfold RM;rw[aO,h,fJ,g_];rfl
theorem Po:∀(m:IM) (k v q:Int),gI (pI m k v) q=if q=k then some v else gI m q
 | [],k,v,q=>by rfl
 | x::m,k,v,q=>by
   have ih:=Po m k v q;by_cases h:k=x.1
   ·grind[pI,gI]
   ·by_cases h2:q=k
    ·grind[pI,gI]
    ·grind[pI,gI]
theorem Gu:∀(es:List Ed) (m:IM) (q:Int),(es.map (·.id)).Nodup→gI (es.foldl (fun m e=>pI m e.id e.r) m) q=((es.find? fun e=>decide (e.id=q)).map (·.r)).or (gI m q)
 | [],m,q,_=>by simp
 | e::es,m,q,h=>by
   rw[aH,dG]at h
   rw[cO,Gu es _ q h.2,Po,iC]
   grind
theorem QU{p:Pn}(h:(p.es.map (·.id)).Nodup)(id:Int):(gI (RM p.es) id).getD 0=own p id:=by grind[RM,own,Gu,gI]
def dO(l:List An):List Int:=(jS l).foldl (fun s a=>if a.id∈s then s else s++[a.id]) []
theorem sW{l:List An}{i:Nat}{a:An}(h:l[i]? = some a):dO (l.take (i+1))=if a.kd=1 then(if a.id∈dO (l.take i)then dO (l.take i)else dO (l.take i)++[a.id])else dO (l.take i):=by
 unfold dO jS;rw[aO,h,bJ,fJ,g_]
 grind
theorem sV:∀(d:List An) (s:List Int),s.Nodup→(d.foldl (fun s a=>if a.id∈s then s else s++[a.id]) s).Nodup∧∀x,x∈d.foldl (fun s a=>if a.id∈s then s else s++[a.id]) s↔x∈s∨x∈d.map (·.id)
 | [],s,h=>⟨h,by simp⟩
 | a::d,s,h=>by
   have h1:(if a.id∈s then s else s++[a.id]).Nodup∧∀x,x∈(if a.id∈s then s else s++[a.id])↔x∈s∨x=a.id:=by grind
   obtain⟨h2,h3⟩:=sV d _ h1.1
   grind
theorem uD(l:List An):(dO l).Nodup:=(sV (jS l) [] oN).1
theorem qY{l:List An}{x:Int}:x∈dO l↔x∈(jS l).map (·.id):=by simp[sV,dO]
theorem yQ(l:List An):(dO l).length≤l.length:=by
 have key:∀(d:List An) (s:List Int),(d.foldl (fun s a=>if a.id∈s then s else s++[a.id]) s).length≤s.length+d.length:=fun d=>by
  induction d with
  | nil=>simp
  | cons a d ih=>grind
 grind[jS,dO]
theorem Gw{a b:List Int}(ha:a.Pairwise (· < ·))(hb:b.Pairwise (· < ·))(h:∀x,x∈a↔x∈b):a=b:=by
 have na:a.Nodup:=ha.imp fun h=>by omega
 have nb:b.Nodup:=hb.imp fun h=>by omega
 have hp:a.Perm b:=by grind
 exact hp.eq_of_pairwise (le:=(· < ·)) (fun x y _ _ h1 h2=>by omega) ha hb
theorem GZ(l:List An):(oz l).Pairwise (· < ·):=by simp[Du,wO]
theorem CW(l:List An):((dO l).mergeSort fun x y=>decide (x≤y))=oz l:=by
 have hp:=jd (dO l) fun x y=>decide (x≤y)
 have hn:((dO l).mergeSort fun x y=>decide (x≤y)).Nodup:=hp.nodup_iff.2 (uD l);have hs:=Aq (dO l);refine Gw ?_ (GZ l) fun x=>by rw[hp.mem_iff,qY,sK]
 have:=hs.and (dI.1 hn)
 grind
def iP(l:List An)(id:Int):List Int:=(jF l id).map (·.rt)
theorem sU{l:List An}{i:Nat}{a:An}(h:l[i]? = some a)(id:Int):iP (l.take (i+1)) id=iP (l.take i) id++if a.kd=1∧a.id=id then [a.rt]else []:=by
 unfold iP jF jS;rw[aO,h,fJ,bJ,bJ,fH]
 grind
theorem EU{l:List An}{id:Int}(h:id∉dO l):iP l id = []:=by
 have:jF l id = []:=fU.2 fun a ha=>by simp only[decide_eq_true_eq];intro e;exact h (qY.2 (ay.2 ⟨a,ha,e⟩))
 grind[iP]
theorem yP(l:List An)(id:Int):(iP l id).length≤l.length:=by simp only[iP,aN];exact aY (aQ _ _) (aQ _ _)
theorem ET(l:List An)(id:Int)(k:Nat):(iP l id).getD k 0=((jF l id).getD k ⟨0,0,0,0⟩).rt:=by
 simp only[iP,ak,bC]
 grind
theorem Nj{l:List An}{i:Nat}{a:An}(h:l[i]? = some a)(hk :¬a.kd=1):dO (l.take (i+1))=dO (l.take i)∧∀x,iP (l.take (i+1)) x=iP (l.take i) x:=
 ⟨by rw[sW h,if_neg hk],fun x=>by rw[sU h,if_neg (fun e=>hk e.1),aZ]⟩
theorem Ir{l:List An}{i:Nat}{a:An}(h:l[i]? = some a)(hk:a.kd=1)(hm:a.id∈dO (l.take i)):
  dO (l.take (i+1))=dO (l.take i)∧∃j0,j0<(dO (l.take i)).length∧(dO (l.take i)).getD j0 0=a.id∧
   ∀j,j<(dO (l.take i)).length→iP (l.take (i+1)) ((dO (l.take i)).getD j 0)=if j=j0 then iP (l.take i) ((dO (l.take i)).getD j0 0)++[a.rt]else iP (l.take i) ((dO (l.take i)).getD j 0):=by
 refine⟨by rw[sW h,if_pos hk,if_pos hm],?_⟩;have hnd:=uD (l.take i);generalize dO (l.take i)=ks at hm hnd;obtain⟨j0,hj0,e0⟩:=cu.1 hm;have hg:∀j (hj:j<ks.length),ks.getD j 0=ks[j]:=by simp_all
 refine⟨j0,hj0,by rw[hg j0 hj0,e0],fun j hj=>?_⟩;rw[sU h];by_cases e:j=j0
 ·simp[*]
 ·rw[if_neg e,if_neg,aZ];rintro⟨_,e2⟩;have h2:=bT.1 (dI.1 hnd)
  grind
theorem Iq{l:List An}{i:Nat}{a:An}(h:l[i]? = some a)(hk:a.kd=1)(hm:a.id∉dO (l.take i)):
  dO (l.take (i+1))=dO (l.take i)++[a.id]∧(∀j,j<(dO (l.take i)).length→(dO (l.take (i+1))).getD j 0=(dO (l.take i)).getD j 0)∧(dO (l.take (i+1))).getD (dO (l.take i)).length 0=a.id∧
   (∀j,j<(dO (l.take i)).length→iP (l.take (i+1)) ((dO (l.take i)).getD j 0)=iP (l.take i) ((dO (l.take i)).getD j 0))∧iP (l.take (i+1)) a.id = [a.rt]:=by
 have e:dO (l.take (i+1))=dO (l.take i)++[a.id]:=by rw[sW h,if_pos hk,if_neg hm]
 have hn:=EU hm;have hr:=fun x=>sU h x
 grind
end Go.Proofs

namespace Go.Proofs
open Go Go.Tr Go.RowKit Go.Maps Go.Sort Go.Shelf
theorem Nl(m:Nat):AnyZI.SortsIn Tryz.prog Tryz.vK Fence.wide m:=
 ⟨fun blk off cap ss W hH hblk hsz=>callsIn_wide.2 (AnyM.slices_Sort_int Tryz.Tz blk off cap ss W hH hblk hsz),
  fun p cap W=>callsIn_wide.2 (AnyM.slices_Sort_int_none Tryz.Tz p cap W)⟩
def zX:Value→Option (DataW Unit×List MemPlace):=fun _=>some (.nil,[])
theorem Hr{k:TypeId}(hk:Tryz.prog.underlying k=some (.int .i64)):∀{l:List MapEntry} {ks:List Int},l.map (·.key)=ks.map (Value.int .i64)→(∀k∈ks,(Lit.int .i64 k).wf=true)→
  (∀x∈l,∃y,Go.WideElems.rd Tryz.prog k zX x=some y)∧l.map (Go.WideElems.rg Tryz.prog k zX)=ks.map fun n=>(Lit.int .i64 n,DataW.nil)
 | [],[],_,_=>⟨by simp,rfl⟩
 | [],_::_,h,_=>by simp at h
 | _::_,[],h,_=>by simp at h
 | a::l,n::ks,h,hw=>by
   simp only[aH,eH]at h;obtain⟨ih1,ih2⟩:=Hr hk h.2 fun k hk=>hw k (dM _ hk)
   have hr:Go.WideElems.rd Tryz.prog k zX a=some (Lit.int .i64 n,DataW.nil):=by unfold Go.WideElems.rd;rw[h.1,keyOf_int_mk hk (hw n (by simp))];rfl
   refine⟨fun x hx=>?_,?_⟩
   ·rcases aG.1 hx with rfl|hx
    ·exact⟨_,hr⟩
    ·exact ih1 x hx
   ·simp only[aH,ih2,Go.WideElems.rg_of hr]
theorem He:DY Tryz.prog 138 137 214 3:=by
 refine⟨fun b w=>(callsIn_wide.1 (AnyZI.keys_in Tryz.PD Fence.wide 5 trivial rfl (some b) w)).mono fun e' w' ⟨h1,h2⟩=>⟨_,h1,h2⟩,fun Bm b l clock ks w hlt hcell hh hst hkeys hwf hlen=>?_⟩;obtain⟨hrd,hrg⟩:=Hr (k:=3) Tryz.underlying3 hkeys hwf;have hl:l.size=ks.length:=by have:=congrArg List.length hkeys;simpa using this
 let D0:DataW Unit:=.map ((l.toList.map (Go.WideElems.rg Tryz.prog 3 zX)).foldr DataW.insert [])
 have hperm:(intKeys D0).Perm ks:=by
  have h1:=(Go.WideShapes.sorted_perm (l.toList.map (Go.WideElems.rg Tryz.prog 3 zX))).map fun p:Lit×DataW Unit=>Go.intOf p.1
  rw[hrg]at h1
  simp only[bQ]at h1;have h2:ks.map ((fun p:Lit×DataW Unit=>Go.intOf p.1)∘fun n=>(Lit.int .i64 n,DataW.nil))=ks:=by
   conv=>rhs;rw[←qP ks]
   exact bW fun _ _=>rfl
  rw[h2]at h1
  show(List.map (fun p:Lit×DataW Unit=>Go.intOf p.1) ((l.toList.map (Go.WideElems.rg Tryz.prog 3 zX)).foldr DataW.insert [])).Perm ks
  rw[hrg];exact h1
 have hsz:Maps.size D0=ks.length:=by
  show((l.toList.map (Go.WideElems.rg Tryz.prog 3 zX)).foldr DataW.insert []).length=_
  rw[length_sorted];simp[hl]
 have hown:w.ownsMap Tryz.prog 3 zX b l.size D0:=⟨l,clock,hh,⟨by simp only[maxLen];omega,hst,hrd⟩,aI _,rfl⟩
 have hseq:SeqGives Fence.wide 2 Tryz.prog 214 #[.pointer (some ⟨Bm,0,none⟩)] encZ (fun ss=>ss.Perm (intKeys D0)) (Maps.size D0) w:=
  AnyZI.keys_gives (ρ:=Tryz.yJ) {Tryz.PD with} Fence.wide _ trivial rfl (by omega) Bm b l.size D0 _ hlt hcell hown
 have cS:=AnyZI.sorted_in Tryz.LY Fence.wide 5 trivial trivial trivial trivial rfl (by omega) (Nl _) (enters_of Tryz.func213 (by kernel_rfl) rfl) 214 #[.pointer (some ⟨Bm,0,none⟩)] trivial (enters_of Tryz.func214 (by kernel_rfl) rfl) _ _ (by rw[hsz];simp only[maxLen];omega) (by rw[hsz];omega) _ hseq;refine(callsIn_wide.1 cS).mono fun e' w' ⟨v,ss,he,hS,hrow,_,hb⟩=>⟨v,he,?_,hb⟩
 have hp:ss.Perm ks:=hS.trans hperm;have hm:(ss.mergeSort fun x y=>decide (x≤y))=ks.mergeSort fun x y=>decide (x≤y):=yN hp
 rw[hp.length_eq,hm]at hrow
 exact hrow
end Go.Proofs
