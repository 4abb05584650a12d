/-
  What functions of the program compute, stated as contracts over plain data; the conditions of each stand in its own statement.
-/
import Derived.Test.YtboimfkommpglaaGreatDoorZB27
import Derived.Test.YtboimfkommpglaaGreatDoorZB28
import Derived.Test.YtboimfkommpglaaGreatDoorZB11
import Derived.Shelf.SlGeneric
import Derived.Shelf.SortM.SortNone
import Derived.Shelf.SortM.Plain
import Derived.Shelf.SlicesG.CompactI
import Derived.Shelf.SlIterI.Nil
import Derived.Ground.GgzProg
import Derived.Ground.SlgmProg
import Derived.Test.YtboimfkommpglaaGreatDoorChecked
import Derived.Test.YtboimfkommpglaaGreatDoorZB25
import Derived.Test.YtboimfkommpglaaGreatDoorZB18
set_option linter.unusedSimpArgs false
set_option linter.unusedVariables false
set_option maxRecDepth 100000
set_option maxHeartbeats 16000000
namespace Go.Proofs
open Go Go.Tr
def bm(l:List Int):List (List Int×TV):=l.map fun n=>([n],TV.d (.bool true))
theorem X5:∀(l:List Int) (n:Int),mJ (bm l) [n]=if n∈l then some (TV.d (.bool true))else none
 | [],_=>rfl
 | x::l,n=>by
   have ih:=X5 l n;simp only[bm]at ih;by_cases h:n=x
   ·simp[bm,mJ,h]
   ·simp[bm,mJ,h,ih]
theorem adr{l:List Int}{n:Int}(h:n∉l):vO (bm l) [n] (TV.d (.bool true))=bm (l++[n]):=by
 have:vO (bm l) [n] (TV.d (.bool true))=bm l++[([n],TV.d (.bool true))]:=Ew fun y hy e=>by obtain⟨x,hx,rfl⟩:=ay.1 hy;simp only[eH,and_true]at e;exact h (e▸hx)
 rw[this];simp[bm]
theorem ado(l:List Int):zh 1 (bm l):=fun y hy=>by obtain⟨x,hx,rfl⟩:=ay.1 hy;rfl
@[simp]theorem aqP{po:Nat→Prop}{l:List Int}{c:Nat}{pd:Option (List Int)}{s:Option oO}:It.only po (It.jA (bm l) c pd s):=by intro x hx;obtain⟨y,_,rfl⟩:=ay.1 hx;exact trivial
@[simp]theorem amf(ν:List Pl)(rs:List (Nat×Nat))(l:List Int):DN ν rs (bm l)=some (bm l):=Ko ν rs (fun n=>[n]) (fun _=>D.bool true) l
@[simp]theorem an5(ν:List Pl)(b:Nat)(l:List Int):((bm l).map fun x=>(x.1,x.2.back ν b))=bm l:=by simp[bm,bQ,TV.back]
@[simp]theorem aq0(a b:Nat)(l:List Int):((bm l).map fun x=>(x.1,x.2.ren a b))=bm l:=by simp[bm,bQ,TV.ren]
theorem X7(g:bV)(to x:Int):∀L:IM,mJ (wP ((YK g to L).map (·.1)) ((YK g to L).map (·.2))) [x]=if x∈L.map (·.1)then some (.d (ints (steps g (dist g to) x)))else none
 | []=>rfl
 | y::L=>by
   have ih:=X7 g to x L;have e:wP ((YK g to (y::L)).map (·.1)) ((YK g to (y::L)).map (·.2))=([y.1],TV.d (ints (steps g (dist g to) y.1)))::wP ((YK g to L).map (·.1)) ((YK g to L).map (·.2)):=rfl;rw[e,mJ,ih];by_cases h:x=y.1
   ·subst h;simp
   ·have:(x∈(y::L).map (·.1))=(x∈L.map (·.1)):=by simp[h]
    simp only[eH,and_true,h,if_false,this]
theorem adq(g:bV)(to:Int):∀L:IM,zh 1 (wP ((YK g to L).map (·.1)) ((YK g to L).map (·.2))):=fun L y hy=>by simp only[wP,ay]at hy;obtain⟨x,hx,rfl⟩:=hy;obtain⟨h1,h2⟩:=List.of_mem_zip (show(x.1,x.2)∈_ from hx);simp only[YK,bQ,ay]at h1;obtain⟨r,_,e⟩:=h1;simp only;rw[←e];rfl
theorem CY{g:bV}(hg:g.Ok){to x y:Int}(h:y∈steps g (dist g to) x):fM g.rs x=true∧fM g.rs y=true:=by obtain⟨_,_,_,c,hp,_⟩:=(zK hg).1 h;exact vw hg hp
theorem UJ{g:bV}(hg:g.Ok){to x:Int}(hto:fM g.rs to=true)(h:x∉(DM g to).map (·.1)):steps g (dist g to) x = []:=by
 refine List.eq_nil_iff_forall_not_mem.2 fun y hy=>h ?_
 obtain⟨h1,_⟩:=(zK hg).1 hy;have hb:=(tN hg to x).2;exact ay.2 ⟨(x,dst g to x),(Ro hto).2 ⟨(CY hg hy).1,by omega,rfl⟩,rfl⟩
structure P5(g:bV)(s:List Int×List Int):Prop where
 nd:s.1.Nodup
 has:∀x∈s.1,fM g.rs x=true
 len:s.2.length≤s.1.length
theorem P5.le{g:bV}(hg:g.Ok){s:List Int×List Int}(h:P5 g s):s.1.length≤24∧s.2.length≤24:=by
 have h1:=LZ h.nd (b:=g.rs.map Rt.id) fun x hx=>nI.1 (h.has x hx)
 rw[aN]at h1
 have:=hg.nr;have:=h.len;omega
theorem P5.ok{g:bV}{nx:Int→List Int}{cp:Int→Bool}{ns:List Int}{s s':List Int×List Int}(h:P5 g s)(k:wU nx cp (fun n=>fM g.rs n=true) ns s s'):P5 g s':=by
 refine⟨k.nd h.nd,fun x hx=>?_,by have:=k.len;have:=h.len;omega⟩;rcases k.via x hx with h1|h1
 ·exact h.has x h1
 ·exact h1
theorem Xz{g:bV}(hg:g.Ok){to:Int}(k:Nat)(r:Int)(hk:(dst g to r).toNat<k)(s:List Int×List Int):wU (steps g (dist g to)) (mZ g.rs) (fun n=>fM g.rs n=true) (steps g (dist g to) r) s (Qs (steps g (dist g to)) (mZ g.rs) k r s):=
 aa7 (fun x=>(dst g to x).toNat) (fun r n hn=>by
  have h1:=(yR hg hn).1;have h2:=(tN hg to n).1;omega) (fun n _ _ m hm=>(CY hg hm).2) k r hk (fun n hn=>(CY hg hn).2) s
theorem adb(g:bV)(h0:jE g=0)(to:Int)(hto:fM g.rs to=true):∀(k:Nat) (r:Int),(dst g to r).toNat<k→∀s:List Int×List Int,P5 g s→
  wz Tryz.prog 279 [.d (.int .i64 r),.ptr (.x 0) 0,.ptr (.x 1) 0,.ptr (.x 2) 0,.ptr (.x 3) 0,.ptr (.x 4) 0] [.box [.d (twD g to)],.box [.mref 901],It.box [TV.d (.sl (rts g.rs)),TV.d (.sl (pq g.ls))],.box [.bK 900 s.2.length],.box [TV.clo 279 [TV.ptr (.x 0) 0,TV.ptr (.x 1) 0,TV.ptr (.x 2) 0,TV.ptr (.x 3) 0,TV.ptr (.x 4) 0]]]
   [(900,.row 3 1 (dd (fE .i64 s.2)) false),(901,.jA (bm s.1) 0 none none)] (.sZ [])
   [.box [.d (twD g to)],.box [.mref 901],It.box [TV.d (.sl (rts g.rs)),TV.d (.sl (pq g.ls))],.box [.bK 900 (Qs (steps g (dist g to)) (mZ g.rs) k r s).2.length],.box [TV.clo 279 [TV.ptr (.x 0) 0,TV.ptr (.x 1) 0,TV.ptr (.x 2) 0,TV.ptr (.x 3) 0,TV.ptr (.x 4) 0]]]
   [(900,.row 3 1 (dd (fE .i64 (Qs (steps g (dist g to)) (mZ g.rs) k r s).2)) false),(901,.jA (bm (Qs (steps g (dist g to)) (mZ g.rs) k r s).1) 0 none none)]
 | 0,_,h,_,_=>by omega
 | k+1,r,hk,s,hI=>by
   have hg:=gY h0;have IH:=adb g h0 to hto k;obtain⟨ks,vs,hD,hget,hkl⟩:∃ks vs,twD g to = .mp ks vs∧(∀x,mJ (wP ks vs) [x]=if x∈(DM g to).map (·.1)then some (.d (ints (steps g (dist g to) x)))else none)∧zh 1 (wP ks vs):=
    ⟨_,_,by unfold twD;rw[if_pos h0];rfl,fun x=>X7 g to x (DM g to),adq g to (DM g to)⟩
   have hok:dP Tryz.prog 279=true:=by kernel_rfl
   simp only[hD]at IH⊢;obtain⟨l,hl⟩:∃l,l=steps g (dist g to) r:=⟨_,rfl⟩
   have hll:l.length≤1000000:=by
    rw[hl];have:(steps g (dist g to) r).length≤g.rs.length:=by
     unfold steps;split
     ·simp
     ·refine aY (aQ _ _) ?_;unfold near;rw[aN];exact aQ _ _
    have:=hg.nr;omega
   have hlm:∀n∈l,(dst g to n).toNat<k∧fM g.rs n=true:=fun n hn=>by
    rw[hl]at hn
    have h1:=(yR hg hn).1;have h2:=(tN hg to n).1;exact⟨by omega,(CY hg hn).2⟩
   obtain⟨F,hF⟩:∃F:List Int×List Int→Int→List Int×List Int,F=P9 (mZ g.rs) (Qs (steps g (dist g to)) (mZ g.rs) k):=⟨_,rfl⟩
   have hS:Qs (steps g (dist g to)) (mZ g.rs) (k+1) r s=l.foldl F s:=by rw[Qs,←hl,←hF]
   rw[hS];have hinv:∀i,P5 g ((l.take i).foldl F s):=fun i=>by rw[hF];exact hI.ok (wU.fold fun n hn=>⟨(hlm n (jI hn)).2,fun _ s=>Xz hg k n (hlm n (jI hn)).1 s⟩)
   refine y5 Tryz.func279 rfl (fun E0=>?_);refine iK.sound (g:=.mk) (ow:=[4000029]) (kp:=(kb 0x108793f)) ?_;rw[Tryz.ntmps279];by_cases hr:r∈(DM g to).map (·.1)
   ·simp -dsimp[hget,hkl,hr,←hl,ints];and_intros;all_goals try first|omega|exact⟨by kernel_rfl⟩|rfl
    refine bY.of [4000029] (kb 0x108793f) (ι:={i:Nat // i≤l.length})
     (fun z=>[(.s 0,It.v (.d (.int .i64 r))),(.s 1,It.v (.ptr (.x 0) 0)),(.s 2,It.v (.ptr (.x 1) 0)),(.s 3,It.v (.ptr (.x 2) 0)),(.s 4,It.v (.ptr (.x 3) 0)),(.s 5,It.v (.ptr (.x 4) 0)),
      (.x 0,It.box [.d (.mp ks vs)]),(.x 1,It.box [.mref 901]),(.x 2,It.box [TV.d (.sl (rts g.rs)),TV.d (.sl (pq g.ls))]),(.x 3,It.box [.bK 900 ((l.take z.1).foldl F s).2.length]),(.x 4,It.box [TV.clo 279 [TV.ptr (.x 0) 0,TV.ptr (.x 1) 0,TV.ptr (.x 2) 0,TV.ptr (.x 3) 0,TV.ptr (.x 4) 0]]),
      (.o 900,.row 3 1 (dd (fE .i64 ((l.take z.1).foldl F s).2)) false),(.o 901,.jA (bm ((l.take z.1).foldl F s).1) 0 none none),
      (.s 11,It.v (.d (ints l))),(.s 12,It.v (.d (.int .i64 l.length))),(.s 13,It.v (.d (.int .i64 z.1)))])
     (fun z=>l.length-z.1) ⟨0,by omega⟩ ?_ ?_
    ·exact GS.to (by simp[ints])
    ·rintro⟨i,i1⟩;have hi2:=hinv i;by_cases hi:i<l.length
     ·have hiz:(i:Int)<l.length:=by omega
      have hx:l[i]? = some l[i]:=ah hi;have hm:=hlm l[i] (aB hi);have ht:(l.take (i+1)).foldl F s=F ((l.take i).foldl F s) l[i]:=by rw[aO,hx,fJ,g_];rfl
      have hi3:=hinv (i+1);rw[ht]at hi3
      generalize l[i]=n at hx hm ht hi3;generalize (l.take i).foldl F s=S at hi2 ht hi3;obtain⟨sn,ou⟩:=S;have w1:IntKind.i64.wrap ((i:Int)+1)=(i:Int)+1:=wrap_i64 (by omega) (by omega);have hgb:=X5 sn n;have hkb:=ado sn;by_cases hs:n∈sn
      ·have hf:F (sn,ou) n=(sn,ou):=by rw[hF];simp[P9,hs]
       simp -dsimp[hiz,hx,ints,hgb,hkb,hs,w1];and_intros;all_goals try first|omega|exact⟨by kernel_rfl⟩|rfl
       refine⟨⟨i+1,by omega⟩,GS.to (by simp[ht,hf,ints]),by simp;omega⟩
      ·have hpb:=adr hs;simp -dsimp[hiz,hx,ints,hgb,hkb,hs,hpb,w1];and_intros;all_goals try first|omega|exact⟨by kernel_rfl⟩|rfl
       refine aF.of (Kv g hg.sm n) [] 0 ?_;rcases (au (mZ g.rs n)).symm with hc|hc
       ·have hf:F (sn,ou) n=Qs (steps g (dist g to)) (mZ g.rs) k n (sn++[n],ou):=by rw[hF];simp[P9,hs,hc]
        rw[hf]at ht
        have hI':P5 g (sn++[n],ou):=⟨CB hi2.nd hs,fun x hx=>by
         rcases aJ.1 hx with h|h
         ·exact hi2.has x h
         ·rw[bn.1 h];exact hm.2,by have:=hi2.len;simp at this⊢;omega⟩
        have agY:=IH n hm.1 (sn++[n],ou) hI';obtain⟨S',hS'⟩:∃S',S'=Qs (steps g (dist g to)) (mZ g.rs) k n (sn++[n],ou):=⟨_,rfl⟩
        rw[←hS']at agY ht
        simp -dsimp[h0,hc];refine⟨rfl,?_⟩;refine Fe.of3 agY [.x 0,.x 1,.x 2,.x 3,.x 4] [(900,900),(901,901)] 1000 ?_;simp -dsimp[hok,w1]
        refine⟨⟨i+1,by omega⟩,(GS.to (l':=[(.s 0,It.v (.d (.int .i64 r))),(.s 1,It.v (.ptr (.x 0) 0)),(.s 2,It.v (.ptr (.x 1) 0)),(.s 3,It.v (.ptr (.x 2) 0)),(.s 4,It.v (.ptr (.x 3) 0)),(.s 5,It.v (.ptr (.x 4) 0)),(.x 0,It.box [.d (.mp ks vs)]),(.x 1,It.box [.mref 1901]),(.x 2,It.box [TV.d (.sl (rts g.rs)),TV.d (.sl (pq g.ls))]),(.x 3,It.box [.bK 1900 S'.2.length]),(.x 4,It.box [TV.clo 279 [TV.ptr (.x 0) 0,TV.ptr (.x 1) 0,TV.ptr (.x 2) 0,TV.ptr (.x 3) 0,TV.ptr (.x 4) 0]]),(.o 1900,.row 3 1 (dd (fE .i64 S'.2)) false),(.o 1901,.jA (bm S'.1) 0 none none),(.s 11,It.v (.d (ints l))),(.s 12,It.v (.d (.int .i64 l.length))),(.s 13,It.v (.d (.int .i64 ((i:Int)+1))))]) (by simp[ints])).trans
         ((GS.ren' (l':=[(.s 0,It.v (.d (.int .i64 r))),(.s 1,It.v (.ptr (.x 0) 0)),(.s 2,It.v (.ptr (.x 1) 0)),(.s 3,It.v (.ptr (.x 2) 0)),(.s 4,It.v (.ptr (.x 3) 0)),(.s 5,It.v (.ptr (.x 4) 0)),(.x 0,It.box [.d (.mp ks vs)]),(.x 1,It.box [.mref 1901]),(.x 2,It.box [TV.d (.sl (rts g.rs)),TV.d (.sl (pq g.ls))]),(.x 3,It.box [.bK 900 S'.2.length]),(.x 4,It.box [TV.clo 279 [TV.ptr (.x 0) 0,TV.ptr (.x 1) 0,TV.ptr (.x 2) 0,TV.ptr (.x 3) 0,TV.ptr (.x 4) 0]]),(.o 900,.row 3 1 (dd (fE .i64 S'.2)) false),(.o 1901,.jA (bm S'.1) 0 none none),(.s 11,It.v (.d (ints l))),(.s 12,It.v (.d (.int .i64 l.length))),(.s 13,It.v (.d (.int .i64 ((i:Int)+1))))]) 1900 900 (by decide) (by simp) (by simp)).trans
         (GS.ren' 1901 901 (by decide) (by simp) (by simp[ht]))),by simp;omega⟩
       ·have hf:F (sn,ou) n=(sn++[n],ou++[n]):=by rw[hF];simp[P9,hs,hc]
        have hle:=hi2.le hg;simp -dsimp[h0,hc,w1];refine⟨rfl,by simp at hle;omega,by simp at hle;omega,⟨i+1,by omega⟩,GS.to (by simp[ht,hf,ints,fE]),by simp;omega⟩
     ·have hiz :¬(i:Int)<l.length:=by omega
      obtain rfl:i=l.length:=by omega
      rw[bP];simp -dsimp[hiz];refine Fin.of ?_;simp
   ·have hl0:l = []:=hl.trans (UJ hg hto hr);subst hl0;simp -dsimp[hget,hkl,hr];and_intros;all_goals try first|omega|exact⟨by kernel_rfl⟩|rfl
    refine bY.of [4000029] (kb 0x108793f) (ι:=Unit)
     (fun z=>[(.s 0,It.v (.d (.int .i64 r))),(.s 1,It.v (.ptr (.x 0) 0)),(.s 2,It.v (.ptr (.x 1) 0)),(.s 3,It.v (.ptr (.x 2) 0)),(.s 4,It.v (.ptr (.x 3) 0)),(.s 5,It.v (.ptr (.x 4) 0)),(.x 0,It.box [.d (.mp ks vs)]),(.x 1,It.box [.mref 901]),(.x 2,It.box [TV.d (.sl (rts g.rs)),TV.d (.sl (pq g.ls))]),(.x 3,It.box [.bK 900 s.2.length]),(.x 4,It.box [TV.clo 279 [TV.ptr (.x 0) 0,TV.ptr (.x 1) 0,TV.ptr (.x 2) 0,TV.ptr (.x 3) 0,TV.ptr (.x 4) 0]]),(.o 900,.row 3 1 (dd (fE .i64 s.2)) false),(.o 901,.jA (bm s.1) 0 none none),(.s 12,It.v (.d (.int .i64 0))),(.s 13,It.v (.d (.int .i64 0)))])
     (fun z=>0) () ?_ ?_
    ·exact GS.to (by simp)
    ·rintro⟨⟩;simp -dsimp;refine Fin.of ?_;simp
end Go.Proofs

namespace Go.Proofs
open Go.Shelf
def Tryz.ae2:Go.Shelf.Ren:=⟨fun|5=>213|8=>249|7=>248|19=>268|20=>269|10=>259|11=>260|12=>261|13=>262|14=>263|15=>264|16=>265|17=>266|18=>267|30=>280|31=>281|32=>282|33=>283|34=>284|35=>254|40=>296|n=>n,fun|23=>22|25=>3|3=>3|32=>193|22=>22|0=>0|44=>290|46=>23|4=>4|36=>284|35=>283|41=>93|5=>5|9=>9|53=>302|57=>306|63=>315|64=>316|n=>n,fun|n=>n⟩
theorem Tryz.Tz:Go.Proofs.SlLaysM.n5 Tryz.prog Tryz.ae2:={
 mixed:=by kernel_rfl
 f5:=⟨Tryz.f213.name,by decide,Tryz.func213.trans (congrArg some (by kernel_rfl))⟩
 f7:=⟨Tryz.f248.name,by decide,Tryz.func248.trans (congrArg some (by kernel_rfl))⟩
 f8:=Tryz.func249.trans (congrArg some (by kernel_rfl))
 f10:=⟨Tryz.f259.name,by decide,Tryz.func259.trans (congrArg some (by kernel_rfl))⟩
 f11:=⟨Tryz.f260.name,by decide,Tryz.func260.trans (congrArg some (by kernel_rfl))⟩
 f12:=⟨Tryz.f261.name,by decide,Tryz.func261.trans (congrArg some (by kernel_rfl))⟩
 f13:=⟨Tryz.f262.name,by decide,Tryz.func262.trans (congrArg some (by kernel_rfl))⟩
 f14:=⟨Tryz.f263.name,by decide,Tryz.func263.trans (congrArg some (by kernel_rfl))⟩
 f15:=⟨Tryz.f264.name,by decide,Tryz.func264.trans (congrArg some (by kernel_rfl))⟩
 f16:=⟨Tryz.f265.name,by decide,Tryz.func265.trans (congrArg some (by kernel_rfl))⟩
 f17:=⟨Tryz.f266.name,by decide,Tryz.func266.trans (congrArg some (by kernel_rfl))⟩
 f18:=⟨Tryz.f267.name,by decide,Tryz.func267.trans (congrArg some (by kernel_rfl))⟩
 f19:=Tryz.func268.trans (congrArg some (by kernel_rfl))
 f20:=Tryz.func269.trans (congrArg some (by kernel_rfl))
 f30:=⟨Tryz.f280.name,by decide,Tryz.func280.trans (congrArg some (by kernel_rfl))⟩
 f31:=Tryz.func281.trans (congrArg some (by kernel_rfl))
 f32:=Tryz.func282.trans (congrArg some (by kernel_rfl))
 f33:=⟨Tryz.f283.name,by decide,Tryz.func283.trans (congrArg some (by kernel_rfl))⟩
 f34:=⟨Tryz.f284.name,by decide,Tryz.func284.trans (congrArg some (by kernel_rfl))⟩
 f35:=⟨Tryz.f254.name,by decide,Tryz.func254.trans (congrArg some (by kernel_rfl))⟩
 f40:=⟨Tryz.f296.name,by decide,Tryz.func296.trans (congrArg some (by kernel_rfl))⟩
 t0:=Tryz.underlying0
 a0:=Tryz.isAgg0
 z0:=Tryz.sizeOf0
 v0:=Tryz.zeroValue0
 t3:=Tryz.underlying3
 a3:=Tryz.isAgg3
 z3:=Tryz.sizeOf3
 v3:=Tryz.zeroValue3
 t4:=Tryz.underlying4
 a4:=Tryz.isAgg4
 z4:=Tryz.sizeOf4
 v4:=Tryz.zeroValue4
 t5:=Tryz.underlying5
 a5:=Tryz.isAgg5
 z5:=Tryz.sizeOf5
 v5:=Tryz.zeroValue5
 t9:=Tryz.underlying9
 a9:=Tryz.isAgg9
 z9:=Tryz.sizeOf9
 v9:=Tryz.zeroValue9
 t22:=Tryz.underlying22
 a22:=Tryz.isAgg22
 z22:=Tryz.sizeOf22
 v22:=Tryz.zeroValue22
 t23:=Tryz.underlying22
 a23:=Tryz.isAgg22
 z23:=Tryz.sizeOf22
 v23:=Tryz.zeroValue22
 t25:=Tryz.underlying3
 a25:=Tryz.isAgg3
 z25:=Tryz.sizeOf3
 v25:=Tryz.zeroValue3
 t32:=Tryz.underlying193
 a32:=Tryz.isAgg193
 z32:=Tryz.sizeOf193
 v32:=Tryz.zeroValue193
 t35:=Tryz.underlying283
 a35:=Tryz.isAgg283
 z35:=Tryz.sizeOf283
 v35:=Tryz.zeroValue283
 t36:=Tryz.underlying284
 a36:=Tryz.isAgg284
 z36:=Tryz.sizeOf284
 v36:=Tryz.zeroValue284
 t41:=Tryz.underlying93
 a41:=Tryz.isAgg93
 z41:=Tryz.sizeOf93
 v41:=Tryz.zeroValue93
 t44:=Tryz.underlying290
 a44:=Tryz.isAgg290
 z44:=Tryz.sizeOf290
 v44:=Tryz.zeroValue290
 t46:=Tryz.underlying23
 a46:=Tryz.isAgg23
 z46:=Tryz.sizeOf23
 v46:=Tryz.zeroValue23
 t53:=Tryz.underlying302
 a53:=Tryz.isAgg302
 z53:=Tryz.sizeOf302
 v53:=Tryz.zeroValue302
 t57:=Tryz.underlying306
 a57:=Tryz.isAgg306
 z57:=Tryz.sizeOf306
 v57:=Tryz.zeroValue306
 t63:=Tryz.underlying315
 a63:=Tryz.isAgg315
 z63:=Tryz.sizeOf315
 v63:=Tryz.zeroValue315
 t64:=Tryz.underlying316
 a64:=Tryz.isAgg316
 z64:=Tryz.sizeOf316
 v64:=Tryz.zeroValue316}
open Go.Tr
theorem alN:Vx Tryz.prog 213 .i64 (fun zs=>zs.mergeSort fun x y=>decide (x≤y)) none:=Vx.sort Tryz.Tz
end Go.Proofs

namespace Go.Proofs
open Go Go.Tr
theorem ahd(g:bV)(h0:jE g=0)(to:Int)(hto:fM g.rs to=true)(k:Nat)(r:Int)(hk:(dst g to r).toNat<k+1):
  wz Tryz.prog 279 [.d (.int .i64 r),.ptr (.x 0) 0,.ptr (.x 1) 0,.ptr (.x 2) 0,.ptr (.x 3) 0,.ptr (.x 4) 0] [.box [.d (twD g to)],.box [.mref 901],It.box [TV.d (.sl (rts g.rs)),TV.d (.sl (pq g.ls))],.box [.c (.slice none 0 0)],.box [TV.clo 279 [TV.ptr (.x 0) 0,TV.ptr (.x 1) 0,TV.ptr (.x 2) 0,TV.ptr (.x 3) 0,TV.ptr (.x 4) 0]]]
   [(901,.jA [] 0 none none)] (.sZ [])
   [.box [.d (twD g to)],.box [.mref 901],It.box [TV.d (.sl (rts g.rs)),TV.d (.sl (pq g.ls))],.box [.bK 900 (Qs (steps g (dist g to)) (mZ g.rs) (k+1) r ([],[])).2.length],.box [TV.clo 279 [TV.ptr (.x 0) 0,TV.ptr (.x 1) 0,TV.ptr (.x 2) 0,TV.ptr (.x 3) 0,TV.ptr (.x 4) 0]]]
   [(900,.row 3 1 (dd (fE .i64 (Qs (steps g (dist g to)) (mZ g.rs) (k+1) r ([],[])).2)) false),(901,.jA (bm (Qs (steps g (dist g to)) (mZ g.rs) (k+1) r ([],[])).1) 0 none none)]:=by
  obtain⟨s,hs0⟩:∃s:List Int×List Int,s=([],[]):=⟨_,rfl⟩
  have hI:P5 g s:=by subst hs0;exact⟨by simp,by simp,by simp⟩
  rw[←hs0];have hg:=gY h0;have IH:=adb g h0 to hto k;obtain⟨ks,vs,hD,hget,hkl⟩:∃ks vs,twD g to = .mp ks vs∧(∀x,mJ (wP ks vs) [x]=if x∈(DM g to).map (·.1)then some (.d (ints (steps g (dist g to) x)))else none)∧zh 1 (wP ks vs):=
   ⟨_,_,by unfold twD;rw[if_pos h0];rfl,fun x=>X7 g to x (DM g to),adq g to (DM g to)⟩
  have hok:dP Tryz.prog 279=true:=by kernel_rfl
  simp only[hD]at IH⊢;obtain⟨l,hl⟩:∃l,l=steps g (dist g to) r:=⟨_,rfl⟩
  have hll:l.length≤1000000:=by
   rw[hl];have:(steps g (dist g to) r).length≤g.rs.length:=by
    unfold steps;split
    ·simp
    ·refine aY (aQ _ _) ?_;unfold near;rw[aN];exact aQ _ _
   have:=hg.nr;omega
  have hlm:∀n∈l,(dst g to n).toNat<k∧fM g.rs n=true:=fun n hn=>by
   rw[hl]at hn
   have h1:=(yR hg hn).1;have h2:=(tN hg to n).1;exact⟨by omega,(CY hg hn).2⟩
  obtain⟨F,hF⟩:∃F:List Int×List Int→Int→List Int×List Int,F=P9 (mZ g.rs) (Qs (steps g (dist g to)) (mZ g.rs) k):=⟨_,rfl⟩
  have hS:Qs (steps g (dist g to)) (mZ g.rs) (k+1) r s=l.foldl F s:=by rw[Qs,←hl,←hF]
  rw[hS];have hinv:∀i,P5 g ((l.take i).foldl F s):=fun i=>by rw[hF];exact hI.ok (wU.fold fun n hn=>⟨(hlm n (jI hn)).2,fun _ s=>Xz hg k n (hlm n (jI hn)).1 s⟩)
  refine y5 Tryz.func279 rfl (fun E0=>?_);refine iK.sound (g:=.mk) (ow:=[4000029]) (kp:=(kb 0x108793f)) ?_;rw[Tryz.ntmps279];by_cases hr:r∈(DM g to).map (·.1)
  ·simp -dsimp[hget,hkl,hr,←hl,ints];and_intros;all_goals try first|omega|exact⟨by kernel_rfl⟩|rfl
   refine bY.of [4000029] (kb 0x108793f) (ι:={i:Nat // i≤l.length})
    (fun z=>[(.s 0,It.v (.d (.int .i64 r))),(.s 1,It.v (.ptr (.x 0) 0)),(.s 2,It.v (.ptr (.x 1) 0)),(.s 3,It.v (.ptr (.x 2) 0)),(.s 4,It.v (.ptr (.x 3) 0)),(.s 5,It.v (.ptr (.x 4) 0)),
     (.x 0,It.box [.d (.mp ks vs)]),(.x 1,It.box [.mref 901]),(.x 2,It.box [TV.d (.sl (rts g.rs)),TV.d (.sl (pq g.ls))]),(.x 3,It.box [.bK 900 ((l.take z.1).foldl F s).2.length]),(.x 4,It.box [TV.clo 279 [TV.ptr (.x 0) 0,TV.ptr (.x 1) 0,TV.ptr (.x 2) 0,TV.ptr (.x 3) 0,TV.ptr (.x 4) 0]]),
     (.o 900,.row 3 1 (dd (fE .i64 ((l.take z.1).foldl F s).2)) false),(.o 901,.jA (bm ((l.take z.1).foldl F s).1) 0 none none),
     (.s 11,It.v (.d (ints l))),(.s 12,It.v (.d (.int .i64 l.length))),(.s 13,It.v (.d (.int .i64 z.1)))])
    (fun z=>l.length-z.1) ⟨0,by omega⟩ ?_ ?_
   ·exact GS.AV (cs:=[.c (.slice none 0 0)]) (.x 3) 0 900 3 1 rfl (by simp) (by simp) (by simp) (by simp[ints,bm,fE,hs0])
   ·rintro⟨i,i1⟩;have hi2:=hinv i;by_cases hi:i<l.length
    ·have hiz:(i:Int)<l.length:=by omega
     have hx:l[i]? = some l[i]:=ah hi;have hm:=hlm l[i] (aB hi);have ht:(l.take (i+1)).foldl F s=F ((l.take i).foldl F s) l[i]:=by rw[aO,hx,fJ,g_];rfl
     have hi3:=hinv (i+1);rw[ht]at hi3
     generalize l[i]=n at hx hm ht hi3;generalize (l.take i).foldl F s=S at hi2 ht hi3;obtain⟨sn,ou⟩:=S;have w1:IntKind.i64.wrap ((i:Int)+1)=(i:Int)+1:=wrap_i64 (by omega) (by omega);have hgb:=X5 sn n;have hkb:=ado sn;by_cases hs:n∈sn
     ·have hf:F (sn,ou) n=(sn,ou):=by rw[hF];simp[P9,hs]
      simp -dsimp[hiz,hx,ints,hgb,hkb,hs,w1];and_intros;all_goals try first|omega|exact⟨by kernel_rfl⟩|rfl
      refine⟨⟨i+1,by omega⟩,GS.to (by simp[ht,hf,ints]),by simp;omega⟩
     ·have hpb:=adr hs;simp -dsimp[hiz,hx,ints,hgb,hkb,hs,hpb,w1];and_intros;all_goals try first|omega|exact⟨by kernel_rfl⟩|rfl
      refine aF.of (Kv g hg.sm n) [] 0 ?_;rcases (au (mZ g.rs n)).symm with hc|hc
      ·have hf:F (sn,ou) n=Qs (steps g (dist g to)) (mZ g.rs) k n (sn++[n],ou):=by rw[hF];simp[P9,hs,hc]
       rw[hf]at ht
       have hI':P5 g (sn++[n],ou):=⟨CB hi2.nd hs,fun x hx=>by
        rcases aJ.1 hx with h|h
        ·exact hi2.has x h
        ·rw[bn.1 h];exact hm.2,by have:=hi2.len;simp at this⊢;omega⟩
       have agY:=IH n hm.1 (sn++[n],ou) hI';obtain⟨S',hS'⟩:∃S',S'=Qs (steps g (dist g to)) (mZ g.rs) k n (sn++[n],ou):=⟨_,rfl⟩
       rw[←hS']at agY ht
       simp -dsimp[h0,hc];refine⟨rfl,?_⟩;refine Fe.of3 agY [.x 0,.x 1,.x 2,.x 3,.x 4] [(900,900),(901,901)] 1000 ?_;simp -dsimp[hok,w1]
       refine⟨⟨i+1,by omega⟩,(GS.to (l':=[(.s 0,It.v (.d (.int .i64 r))),(.s 1,It.v (.ptr (.x 0) 0)),(.s 2,It.v (.ptr (.x 1) 0)),(.s 3,It.v (.ptr (.x 2) 0)),(.s 4,It.v (.ptr (.x 3) 0)),(.s 5,It.v (.ptr (.x 4) 0)),(.x 0,It.box [.d (.mp ks vs)]),(.x 1,It.box [.mref 1901]),(.x 2,It.box [TV.d (.sl (rts g.rs)),TV.d (.sl (pq g.ls))]),(.x 3,It.box [.bK 1900 S'.2.length]),(.x 4,It.box [TV.clo 279 [TV.ptr (.x 0) 0,TV.ptr (.x 1) 0,TV.ptr (.x 2) 0,TV.ptr (.x 3) 0,TV.ptr (.x 4) 0]]),(.o 1900,.row 3 1 (dd (fE .i64 S'.2)) false),(.o 1901,.jA (bm S'.1) 0 none none),(.s 11,It.v (.d (ints l))),(.s 12,It.v (.d (.int .i64 l.length))),(.s 13,It.v (.d (.int .i64 ((i:Int)+1))))]) (by simp[ints])).trans
        ((GS.ren' (l':=[(.s 0,It.v (.d (.int .i64 r))),(.s 1,It.v (.ptr (.x 0) 0)),(.s 2,It.v (.ptr (.x 1) 0)),(.s 3,It.v (.ptr (.x 2) 0)),(.s 4,It.v (.ptr (.x 3) 0)),(.s 5,It.v (.ptr (.x 4) 0)),(.x 0,It.box [.d (.mp ks vs)]),(.x 1,It.box [.mref 1901]),(.x 2,It.box [TV.d (.sl (rts g.rs)),TV.d (.sl (pq g.ls))]),(.x 3,It.box [.bK 900 S'.2.length]),(.x 4,It.box [TV.clo 279 [TV.ptr (.x 0) 0,TV.ptr (.x 1) 0,TV.ptr (.x 2) 0,TV.ptr (.x 3) 0,TV.ptr (.x 4) 0]]),(.o 900,.row 3 1 (dd (fE .i64 S'.2)) false),(.o 1901,.jA (bm S'.1) 0 none none),(.s 11,It.v (.d (ints l))),(.s 12,It.v (.d (.int .i64 l.length))),(.s 13,It.v (.d (.int .i64 ((i:Int)+1))))]) 1900 900 (by decide) (by simp) (by simp)).trans
        (GS.ren' 1901 901 (by decide) (by simp) (by simp[ht]))),by simp;omega⟩
      ·have hf:F (sn,ou) n=(sn++[n],ou++[n]):=by rw[hF];simp[P9,hs,hc]
       have hle:=hi2.le hg;simp -dsimp[h0,hc,w1];refine⟨rfl,by simp at hle;omega,by simp at hle;omega,⟨i+1,by omega⟩,GS.to (by simp[ht,hf,ints,fE]),by simp;omega⟩
    ·have hiz :¬(i:Int)<l.length:=by omega
     obtain rfl:i=l.length:=by omega
     rw[bP];simp -dsimp[hiz];refine Fin.of ?_;simp
  ·have hl0:l = []:=hl.trans (UJ hg hto hr);subst hl0;simp -dsimp[hget,hkl,hr];and_intros;all_goals try first|omega|exact⟨by kernel_rfl⟩|rfl
   refine bY.of [4000029] (kb 0x108793f) (ι:=Unit)
    (fun z=>[(.s 0,It.v (.d (.int .i64 r))),(.s 1,It.v (.ptr (.x 0) 0)),(.s 2,It.v (.ptr (.x 1) 0)),(.s 3,It.v (.ptr (.x 2) 0)),(.s 4,It.v (.ptr (.x 3) 0)),(.s 5,It.v (.ptr (.x 4) 0)),(.x 0,It.box [.d (.mp ks vs)]),(.x 1,It.box [.mref 901]),(.x 2,It.box [TV.d (.sl (rts g.rs)),TV.d (.sl (pq g.ls))]),(.x 3,It.box [.bK 900 s.2.length]),(.x 4,It.box [TV.clo 279 [TV.ptr (.x 0) 0,TV.ptr (.x 1) 0,TV.ptr (.x 2) 0,TV.ptr (.x 3) 0,TV.ptr (.x 4) 0]]),(.o 900,.row 3 1 (dd (fE .i64 s.2)) false),(.o 901,.jA (bm s.1) 0 none none),(.s 12,It.v (.d (.int .i64 0))),(.s 13,It.v (.d (.int .i64 0)))])
    (fun z=>0) () ?_ ?_
   ·exact GS.AV (cs:=[.c (.slice none 0 0)]) (.x 3) 0 900 3 1 rfl (by simp) (by simp) (by simp) (by simp[ints,bm,fE,hs0])
   ·rintro⟨⟩;simp -dsimp;refine Fin.of ?_;simp
theorem U3{l m:List Int}(hl:l.Nodup)(hm:m.Pairwise (· < ·))(h:∀x,x∈l↔x∈m):(l.mergeSort fun x y=>decide (x≤y))=m:=by
 refine Xn ?_ hm fun x=>by rw[List.mem_mergeSort];exact h x
 have h1:(l.mergeSort fun x y=>decide (x≤y)).Pairwise fun x y=>decide (x≤y)=true:=List.pairwise_mergeSort (fun a b c=>by simp;omega) (fun a b=>by simp;omega) l
 have h2:(l.mergeSort fun x y=>decide (x≤y)).Nodup:=(jd l _).symm.nodup hl;exact(h1.and (dI.1 h2)).imp fun {a b} h=>by simp at h;omega
theorem ajW(g:bV)(h0:jE g=0)(f t:Int)(hf:fM g.rs f=true)(ht:fM g.rs t=true)(hne:f≠t):Contract Tryz.prog 258 [d_ g,.d (twD g t),.d (.int .i64 f)] [] (.d (ints (hops g f t))) [] []:=by
 have hg:=gY h0;obtain⟨k,hk⟩:∃k,k=(dst g t f).toNat:=⟨_,rfl⟩
 have hw:=ahd g h0 t ht k f (by omega);obtain⟨h1,h2⟩:=agn hg (t:=t) (f:=f) (k:=k+1) (by omega);have hS:=U3 h1 (QA g f t).1 fun n=>(h2 n).trans (Cm h0 hf ht hne).symm
 have hI:=(show P5 g ([],[]) from⟨by simp,by simp,by simp⟩).ok (Xz hg (to:=t) (k+1) f (by omega) ([],[]));have hle:=(hI.le hg).2;generalize Qs (steps g (dist g t)) (mZ g.rs) (k+1) f ([],[])=S at hw hS hle;obtain⟨ks,vs,hD⟩:∃ks vs,twD g t = .mp ks vs:=⟨_,_,by unfold twD;rw[if_pos h0];rfl⟩
 rw[hD]at hw⊢
 have hok:dP Tryz.prog 279=true:=by kernel_rfl
 refine aC Tryz.func258 rfl (fun E0=>?_);refine iK.sound (g:=.mk) (ow:=[3000010,4000012,1000213]) (kp:=(kb 0x3df)) ?_;rw[Tryz.ntmps258];simp -dsimp[d_];refine Fe.of3 hw [.o 4,.o 8,.o 3,.o 7,.o 9] [(901,10)] 1000 ?_;simp -dsimp[hok];refine aF.ald alN S.2 ?_;simp -dsimp[hS];and_intros
 all_goals try first|omega|exact⟨by kernel_rfl⟩|rfl
 have hlen:S.2.length=(hops g f t).length:=by rw[←hS,gZ]
 rw[hlen];refine Fin.view 6 ?_;simp -dsimp;refine Fin.of ?_;simp[ints,fE]
end Go.Proofs

namespace Go.Tr
open Go
section
variable {A:jL}
theorem GS.asK{t:S}{qL e0 k0:Nat}{es0:List (List TV)}{NJ:Bool}{i j id:Nat}{r:List TV}(e z:Nat)(h0:t (.o qL) = .row e0 k0 es0 NJ)(hr:es0[i]? = some r)(hj:r[j]? = some (.c (.slice none 0 0)))(ho:t (.o id) = .none):
  GS A t (upd (upd t (.o id) (.row e z [] false)) (.o qL) (.row e0 k0 (es0.set i (r.set j (.bK id 0))) NJ)):=fun a w ⟨E,hw,hE⟩=>by
 obtain⟨E',hw',x,hi',hv⟩:=hE.newRow ho e z;have hne:qL≠id:=by grind
 have hil:i<es0.length:=by grind
 refine⟨E',hw'.trans hw,hi'.acn (es:=es0) (by simp only[upd,Pl.o.injEq,if_neg hne];omega) (by simp) fun us hrel=>iJ.lq fun i' el hel=>?_⟩;rw[yK hil]at hel
 by_cases ei:i'=i
 ·subst ei;rw[if_pos rfl]at hel
  simp only[aj]at hel;subst hel;obtain⟨g1,g2⟩:=hrel.get hr;have hjl:j<r.length:=by grind
  refine⟨by simp[*],eP.lq fun m tv hm=>?_⟩;rw[yK hjl]at hm
  by_cases em:m=j
  ·subst em;rw[if_pos rfl]at hm
   simp only[aj]at hm;subst hm;obtain⟨u,k1,k2,k3⟩:=g2.get hj;refine⟨u,k1,k2,?_⟩;simp only[aV]at k3⊢;simp[*]
  ·rw[if_neg em]at hm
   exact g2.get hm
 ·rw[if_neg ei]at hel
  exact hrel.get hel
theorem GS.anO{l l':List (Pl×It)}(qL i j id:Nat){e0 k0:Nat}{es0:List (List TV)}{NJ:Bool}{r:List TV}(e z:Nat)(h0:look l (.o qL) = .row e0 k0 es0 NJ)(hr:es0[i]? = some r)(hj:r[j]? = some (.c (.slice none 0 0)))(ho:look l (.o id) = .none)
  (h:Sub (look (oC (.o qL) (.row e0 k0 (es0.set i (r.set j (.bK id 0))) NJ) (oC (.o id) (.row e z [] false) l))) l'∧qE l'=qE (oC (.o qL) (.row e0 k0 (es0.set i (r.set j (.bK id 0))) NJ) (oC (.o id) (.row e z [] false) l))):GS A (look l) (look l'):=by
 have:=GS.asK (A:=A) (id:=id) e z h0 hr hj ho;rw[lZ,lZ]at this
 exact this.trans (GS.forget h.1 h.2)
def DT(t:S)(qL e0 z0 b n m:Nat)(pre:Nat→List TV)(xs:Nat→List (List D)):S:=fun p=>
 if p = .o qL then .row e0 z0 ((List.range n).map fun i=>pre i++[if i<m then TV.d (.sl (xs i))else TV.bK (b+i) (xs i).length]) false
 else match p with
 | .o q=>if b≤q∧q<b+m then(t p).shd else t p
 | p=>t p
theorem afD{t:S}{qL e0 z0 b n:Nat}{pre:Nat→List TV}{xs:Nat→List (List D)}(h0:t (.o qL) = .row e0 z0 ((List.range n).map fun i=>pre i++[TV.bK (b+i) (xs i).length]) false):DT t qL e0 z0 b n 0 pre xs=t:=by
 unfold DT
 grind
theorem GS.aie{t:S}{qL e0 z0 b n m e z:Nat}{pre:Nat→List TV}{xs:Nat→List (List D)}(hm:m<n)(hr:t (.o (b+m)) = .row e z (dd (xs m)) false)(hb:qL<b):
  GS A (DT t qL e0 z0 b n m pre xs) (DT t qL e0 z0 b n (m+1) pre xs):=by
 have h0:DT t qL e0 z0 b n m pre xs (.o qL) = .row e0 z0 ((List.range n).map fun i=>pre i++[if i<m then TV.d (.sl (xs i))else TV.bK (b+i) (xs i).length]) false:=by unfold DT;simp
 have hi:((List.range n).map fun i=>pre i++[if i<m then TV.d (.sl (xs i))else TV.bK (b+i) (xs i).length])[m]? = some (pre m++[.bK (b+m) (xs m).length]):=by simp[*]
 have hj:(pre m++[TV.bK (b+m) (xs m).length])[(pre m).length]? = some (.bK (b+m) (xs m).length):=by simp
 have ht:DT t qL e0 z0 b n m pre xs (.o (b+m)) = .row e z (dd (xs m)) false:=by
  unfold DT
  grind
 have g:=GS.wH (A:=A) (xs:=xs m) h0 (by omega) hi hj ht (by simp) (zu _);have hset:(pre m++[TV.bK (b+m) (xs m).length]).set (pre m).length (TV.d (.sl (xs m)))=pre m++[TV.d (.sl (xs m))]:=by simp
 rw[hset]at g
 refine(show upd (upd (DT t qL e0 z0 b n m pre xs) (.o (b+m)) (.row e z (dd (xs m)) true)) (.o qL) (.row e0 z0 (((List.range n).map fun i=>pre i++[if i<m then TV.d (.sl (xs i))else TV.bK (b+i) (xs i).length]).set m (pre m++[TV.d (.sl (xs m))])) false)=DT t qL e0 z0 b n (m+1) pre xs from ?_)▸g
 funext p
 by_cases e0':p = .o qL
 ·subst e0';simp only[upd,if_true];unfold DT;rw[if_pos rfl]
  congr 1
  refine iV fun i=>?_
  rw[jY,bC,bC,aN,List.length_range];by_cases hin:i<n
  ·rw[lI hin];by_cases him:m=i
   ·subst him;simp[hin]
   ·simp only[if_neg him,dF];by_cases h1:i<m
    ·simp[h1,show i<m+1 by omega]
    ·simp[h1,show ¬i<m+1 by omega]
  ·have:(List.range n)[i]? = none:=by simp;omega
   rw[this,if_neg (by omega)];rfl
 ·simp only[upd,if_neg e0'];by_cases e1:p = .o (b+m)
  ·subst e1;rw[if_pos rfl];unfold DT;rw[if_neg e0'];simp only;rw[if_pos (by omega),hr];rfl
  ·rw[if_neg e1];unfold DT;rw[if_neg e0',if_neg e0'];cases p with
   | o q=>
     simp only;by_cases h1:b≤q∧q<b+m
     ·rw[if_pos h1,if_pos (by omega)]
     ·rw[if_neg h1,if_neg (by intro h;exact e1 (by rw[show q=b+m by omega]))]
   | s q=>rfl
   | x q=>rfl
theorem GS.ajK{t:S}{qL e0 z0 b n e z:Nat}{pre:Nat→List TV}{xs:Nat→List (List D)}(h0:t (.o qL) = .row e0 z0 ((List.range n).map fun i=>pre i++[TV.bK (b+i) (xs i).length]) false)(hr:∀i,i<n→t (.o (b+i)) = .row e z (dd (xs i)) false)(hb:qL<b):
  GS A t (DT t qL e0 z0 b n n pre xs):=by
 have h:∀m,m≤n→GS A t (DT t qL e0 z0 b n m pre xs):=by
  intro m
  induction m with
  | zero=>grind[afD,GS.refl]
  | succ m ih=>grind[trans,GS.aie]
 simp[*]
theorem aif{t:S}{qL e0 z0 b n:Nat}{pre:Nat→List TV}{xs:Nat→List (List D)}:DT t qL e0 z0 b n n pre xs (.o qL) = .row e0 z0 ((List.range n).map fun i=>pre i++[.d (.sl (xs i))]) false:=by unfold DT;simp
theorem alH{t:S}{qL e0 z0 b n:Nat}{pre:Nat→List TV}{xs:Nat→List (List D)}{q:Nat}:DT t qL e0 z0 b n n pre xs (.s q)=t (.s q):=by rfl
theorem alI{t:S}{qL e0 z0 b n:Nat}{pre:Nat→List TV}{xs:Nat→List (List D)}{q:Nat}:DT t qL e0 z0 b n n pre xs (.x q)=t (.x q):=by rfl
end
end Go.Tr

namespace Go.Proofs
open Go Go.Tr
def Na(l:List Int)(i:Nat):Int:=l.getD i 0
def mtC(rr:Nat→Int)(sd len:Int)(i:Nat):List TV:=[.d (.int .i64 (rr i)),.d (.int .i64 sd),.d (.int .i64 len)]
def OL(n:Nat)(rr:Nat→Int)(sd len:Int)(f:Nat→Nat):List (List TV):=(List.range n).map fun i=>[.d (.int .i64 (rr i)),.d (.int .i64 sd),.d (.int .i64 len),.bK (9000+i) (f i)]
@[simp]theorem aqO(n:Nat)(rr:Nat→Int)(sd len:Int)(f:Nat→Nat):(OL n rr sd len f).length=n:=by simp[OL]
theorem ajv{n:Nat}{rr:Nat→Int}{sd len:Int}{f:Nat→Nat}{i:Nat}(h:i<n):(OL n rr sd len f)[i]? = some [.d (.int .i64 (rr i)),.d (.int .i64 sd),.d (.int .i64 len),.bK (9000+i) (f i)]:=by rw[OL,bC,lI h];rfl
theorem ajw{n:Nat}{rr:Nat→Int}{sd len:Int}{f:Nat→Nat}{i m:Nat}:(OL n rr sd len f).set i [.d (.int .i64 (rr i)),.d (.int .i64 sd),.d (.int .i64 len),.bK (9000+i) m]=OL n rr sd len fun j=>if j=i then m else f j:=by
 refine iV fun j=>?_
 rw[jY,OL,OL,bC,bC,aN,List.length_range];by_cases hj:j<n
 ·rw[lI hj];by_cases e:i=j
  ·subst e;simp[hj]
  ·rw[if_neg e];simp[show ¬j=i from fun h=>e h.symm]
 ·have:(List.range n)[j]? = none:=by simp;omega
  rw[this];by_cases e:i=j
  ·subst e;simp[hj]
  ·simp[e]
theorem ahE{n:Nat}{rr:Nat→Int}{sd len:Int}{f:Nat→Nat}:OL (n+1) rr sd len f=OL n rr sd len f++[[.d (.int .i64 (rr n)),.d (.int .i64 sd),.d (.int .i64 len),.bK (9000+n) (f n)]]:=by simp[OL,je]
theorem aju{n:Nat}{rr:Nat→Int}{sd len:Int}{f:Nat→Nat}{v:TV}(h:f n=0):(OL n rr sd len f++[[.d (.int .i64 (rr n)),.d (.int .i64 sd),.d (.int .i64 len),v]]).set n [.d (.int .i64 (rr n)),.d (.int .i64 sd),.d (.int .i64 len),.bK (9000+n) 0]=OL (n+1) rr sd len f:=by rw[ahE,List.set_append_right _ _ (by simp),h];simp
theorem ahD{n:Nat}{rr:Nat→Int}{sd len:Int}{f:Nat→Nat}{v:List TV}:(OL n rr sd len f++[v])[n]? = some v:=by rw[dh (by simp)];simp
theorem Wl{n:Nat}{rr:Nat→Int}{sd len:Int}{f f':Nat→Nat}(h:∀i,i<n→f i=f' i):OL n rr sd len f=OL n rr sd len f':=
 bW fun i hi=>by rw[h i (bD.1 hi)]
@[simp]theorem anI{po:Nat→Prop}{n:Nat}{rr:Nat→Int}{sd len:Int}{f:Nat→Nat}:m_ po (OL n rr sd len f)↔∀i,i<n→po (9000+i):=by
 constructor
 ·intro h i hi;have:=h _ (ay.2 ⟨i,bD.2 hi,rfl⟩);simp only[TV.uw,TV.only,and_true,true_and]at this;exact this
 ·intro h x hx;obtain⟨i,hi,rfl⟩:=ay.1 hx;simp only[TV.uw,TV.only,and_true,true_and];exact h i (bD.1 hi)
theorem aaX(g:bV)(r:Int)(es:List Ed)(k:Nat)(h:es.length≤1000):(Gs g r (es.take k)).length≤1000:=by rw[af4,bF];omega
theorem afu{α:Type}(F:Int→α)(l:List Int):(List.range l.length).map (fun i=>F (Na l i))=l.map F:=by
 refine lU (by simp) fun i h1 h2=>?_
 simp only[aN,List.length_range]at h1;simp[Na,h1]
theorem ali(g:bV)(p:Pn)(rs:List Int):((List.range rs.length).map fun i=>mtC (Na rs) p.gU p.len i++[TV.d (.sl (Gs g (Na rs i) p.es))])=dd (ig (rs.map (nN g p))):=by refine(afu (fun r=>[TV.d (.int .i64 r),TV.d (.int .i64 p.gU),TV.d (.int .i64 p.len),TV.d (.sl (Gs g r p.es))]) rs).trans ?_;simp[dd,ig,Tb.cs,nN,dZ,Gs]
theorem agi{l:List Rt}{r:Int}(h:mZ l r=true):fM l r=true:=by
 unfold mZ at h;cases hr:Nb l r with
 | none=>rw[hr]at h;simp at h
 | some x=>unfold Nb at hr;have h1:=gG hr;have h2:=qG hr;exact jU.2 ⟨x,h1,h2⟩
theorem aip(g:bV)(h0:jE g=0)(p:Pn)(hp:p.es.length≤1000)(rs:List Int)(hrs:rs.length≤24)(hr:∀r∈rs,fM g.rs r=true):
  Contract Tryz.prog 245 [d_ g,iE p,.d (ints rs)] [] (.d (.sl (ig (rs.map (nN g p))))) [] []:=by
 have hg:=gY h0;refine aC Tryz.func245 rfl (fun E0=>?_);refine iK.sound (g:=.mk) (ow:=[29,2000028]) (kp:=(kb 0x2020781e000ffadf)) ?_;rw[Tryz.ntmps245];simp -dsimp[d_,iE,ints]
 refine bY.of [29,2000028] (kb 0x2020781e000ffadf) (ι:={i:Nat // i≤rs.length})
  (fun z=>sJ 9000 z.1 (fun _=>It.row 167 2 [] false) [(.s 2,It.v (.d (ints rs))),(.o 3,It.box [TV.d (.sl (rts g.rs)),TV.d (.sl (pq g.ls))]),(.s 3,It.v (.ptr (.o 3) 0)),(.o 4,It.box [TV.d (.int .i64 p.gU),TV.d (.int .i64 p.len),TV.d (.sl (lX p.es))]),(.s 4,It.v (.ptr (.o 4) 0)),(.s 6,It.v (.c (Value.slice none 0 0))),(.s 7,It.v (.bK 7 z.1)),(.o 7,It.row 65 4 (OL z.1 (Na rs) p.gU p.len fun _=>0) false),(.s 16,It.v (.d (ints rs))),(.s 17,It.v (.d (.int .i64 rs.length))),(.s 18,It.v (.d (.int .i64 z.1)))])
  (fun z=>rs.length-z.1) ⟨0,by omega⟩ ?_ ?_
 ·exact GS.own' (k:=7) 65 4 (by simp) (by simp) (by simp[Ee,OL,ints])
 ·rintro⟨i,i1⟩;by_cases hi:i<rs.length
  ·have hiz:(i:Int)<rs.length:=by omega
   have hx:rs[i]? = some rs[i]:=ah hi;have XV:rs[i]=Na rs i:=by simp[Na,hi]
   generalize rs[i]=x at hx XV;subst XV;have w1:IntKind.i64.wrap ((i:Int)+1)=(i:Int)+1:=wrap_i64 (by omega) (by omega);simp -dsimp[hiz,hx,ints,w1];and_intros;all_goals try first|omega|exact⟨by kernel_rfl⟩|rfl
   refine⟨⟨i+1,by omega⟩,?_,by simp;omega⟩
   refine GS.anO (e0:=65) (k0:=4) (NJ:=false) (es0:=(OL i (Na rs) p.gU p.len fun _=>0)++[[.d (.int .i64 (Na rs i)),.d (.int .i64 p.gU),.d (.int .i64 p.len),.c (.slice none 0 0)]]) (r:=[.d (.int .i64 (Na rs i)),.d (.int .i64 p.gU),.d (.int .i64 p.len),.c (.slice none 0 0)]) 7 i 3 (9000+i) 167 2 (by simp) ahD (by simp) (by simp(disch:=omega) [ji,jk]) ⟨Sub.sJ (n:=i+1) (fun j hj=>?_) ?_ ?_ ?_,?_⟩
   ·rcases (by omega:j<i∨j=i)with h|h
    ·simp(disch:=omega) [ji,jk,h]
    ·subst h;simp(disch:=omega) [ji,jk]
   ·simp(disch:=omega) [ji,jk,ints,aju]
   ·simp
   ·simp(disch:=omega);exact fun j hj=>by omega
   ·simp(disch:=omega) [ji,jk]
  ·have hiz :¬(i:Int)<rs.length:=by omega
   obtain rfl:i=rs.length:=by omega
   have XV:∀i,i<rs.length→fM g.rs (Na rs i)=true:=fun i hi=>by
    have:Na rs i=rs[i]'(by omega):=by simp[Na,show i<rs.length by omega]
    rw[this];exact hr _ (aB _)
   simp -dsimp[hiz];refine bY.of [29,2000028] (kb 0x2020781e000ffadf) (ι:={k:Nat // k≤p.es.length})
    (fun z=>sJ 9000 rs.length (fun j=>It.row 167 2 (dd (Gs g (Na rs j) (p.es.take z.1))) false) [(.s 2,It.v (.d (ints rs))),(.o 3,It.box [TV.d (.sl (rts g.rs)),TV.d (.sl (pq g.ls))]),(.s 3,It.v (.ptr (.o 3) 0)),(.o 4,It.box [TV.d (.int .i64 p.gU),TV.d (.int .i64 p.len),TV.d (.sl (lX p.es))]),(.s 4,It.v (.ptr (.o 4) 0)),(.s 6,It.v (.c (Value.slice none 0 0))),(.s 7,It.v (.bK 7 rs.length)),(.o 7,It.row 65 4 (OL rs.length (Na rs) p.gU p.len fun _=>z.1) false),(.s 33,It.v (.d (.sl (lX p.es)))),(.s 34,It.v (.d (.int .i64 p.es.length))),(.s 35,It.v (.d (.int .i64 z.1)))])
    (fun z=>p.es.length-z.1) ⟨0,by omega⟩ ?_ ?_
   ·refine GS.to ⟨Sub.sJ (n:=rs.length) (fun j hj=>?_) ?_ ?_ ?_,?_⟩
    ·simp(disch:=omega) [hj,Gs]
    ·simp(disch:=omega) [lX]
    ·simp
    ·simp(disch:=omega);exact fun j hj=>by omega
    ·simp
   ·rintro⟨k,k1⟩;by_cases hk:k<p.es.length
    ·have hkz:(k:Int)<p.es.length:=by omega
     have hx:p.es[k]? = some p.es[k]:=ah hk;have ht:p.es.take (k+1)=p.es.take k++[p.es[k]]:=by rw[aO,ah hk];rfl
     generalize p.es[k]=x at hx ht;have hx':=Fv hx;have htw:=aiv g hg.sm x.r;simp only[d_]at htw;have w1:IntKind.i64.wrap ((k:Int)+1)=(k:Int)+1:=wrap_i64 (by omega) (by omega);simp -dsimp[hkz,hx',Ed.cs];refine aF.of htw [] 0 ?_;simp -dsimp[hkz,hx',Ed.cs,ints];and_intros;all_goals try first|omega|exact⟨by kernel_rfl⟩|rfl
     refine bY.of [29,2000028] (kb 0x2020781e000ffadf) (ι:={i:Nat // i≤rs.length})
      (fun z=>sJ 9000 rs.length (fun j=>It.row 167 2 (dd (Gs g (Na rs j) (p.es.take (if j<z.1 then k+1 else k)))) false) [(.s 2,It.v (.d (ints rs))),(.o 3,It.box [TV.d (.sl (rts g.rs)),TV.d (.sl (pq g.ls))]),(.s 3,It.v (.ptr (.o 3) 0)),(.o 4,It.box [TV.d (.int .i64 p.gU),TV.d (.int .i64 p.len),TV.d (.sl (lX p.es))]),(.s 4,It.v (.ptr (.o 4) 0)),(.s 6,It.v (.c (Value.slice none 0 0))),(.s 7,It.v (.bK 7 rs.length)),(.o 7,It.row 65 4 (OL rs.length (Na rs) p.gU p.len fun j=>if j<z.1 then k+1 else k) false),(.s 33,It.v (.d (.sl (lX p.es)))),(.s 34,It.v (.d (.int .i64 p.es.length))),(.s 35,It.v (.d (.int .i64 k))),
       (.o 11,It.box [.d (.int .i64 x.r),.d (.int .i64 x.id)]),(.s 11,It.v (.ptr (.o 11) 0)),(.s 12,It.v (.d (twD g x.r))),(.s 43,It.v (.d (ints rs))),(.s 44,It.v (.d (.int .i64 rs.length))),(.s 45,It.v (.d (.int .i64 z.1)))])
      (fun z=>rs.length-z.1) ⟨0,by omega⟩ ?_ ?_
     ·refine GS.to ⟨Sub.sJ (n:=rs.length) (fun j hj=>?_) ?_ ?_ ?_,?_⟩
      ·simp(disch:=omega) [hj]
      ·simp(disch:=omega) [ints,lX]
      ·simp
      ·simp(disch:=omega);exact fun j hj=>by omega
      ·simp
     ·rintro⟨i,i1⟩;by_cases hi:i<rs.length
      ·have hiz:(i:Int)<rs.length:=by omega
       have hy:rs[i]? = some (Na rs i):=by simp[Na,hi]
       have XV:=XV i hi;have w2:IntKind.i64.wrap ((i:Int)+1)=(i:Int)+1:=wrap_i64 (by omega) (by omega);have hmg:(OL rs.length (Na rs) p.gU p.len fun j=>if j<i then k+1 else k)[i]? = some [.d (.int .i64 (Na rs i)),.d (.int .i64 p.gU),.d (.int .i64 p.len),.bK (9000+i) k]:=by rw[ajv hi];simp
       have hbl:=aaX g (Na rs i) p.es k hp;obtain⟨r,hr0⟩:∃r,Na rs i=r:=⟨_,rfl⟩
       rw[hr0]at hy XV hmg hbl
       have aeG:(OL rs.length (Na rs) p.gU p.len fun j=>if j<i then k+1 else k)[i]'(by simp[hi]) = [.d (.int .i64 r),.d (.int .i64 p.gU),.d (.int .i64 p.len),.bK (9000+i) k]:=(List.getElem_eq_iff _).2 hmg;have aeJ:rs[i]=r:=by rw[←hr0];simp[Na,hi]
       have hms:((OL rs.length (Na rs) p.gU p.len fun j=>if j<i then k+1 else k).set i [.d (.int .i64 r),.d (.int .i64 p.gU),.d (.int .i64 p.len),.bK (9000+i) (k+1)])=OL rs.length (Na rs) p.gU p.len fun j=>if j<i+1 then k+1 else k:=by
        rw[←hr0,ajw];refine Wl fun j hj=>?_
        by_cases e:j=i
        ·subst e;simp
        ·have e2:(j<i+1)=(j<i):=propext ⟨fun h=>by omega,fun h=>by omega⟩;simp[e,e2]
       have hB:Gs g r (p.es.take (k+1))=Gs g r (p.es.take k)++[(wE g r x).cs]:=by rw[ht,KO]
       have hmin:min k p.es.length=k:=by omega
       by_cases c1:r=x.r
       ·have hRc:(wE g r x).cs = [.int .i64 x.id,.sl [[.int .i64 r]]]:=by simp[wE,Rw.cs,c1,ints]
        subst c1;simp -dsimp(maxSteps:=1000000) [hi,aeJ,ints,w2,aeG,hr0,ji,jk,hmin];refine⟨by omega,by omega,⟨⟨i+1,by omega⟩,GS.to ⟨Sub.sJ (n:=rs.length) (fun j hj=>?_) ?_ ?_ ?_,?_⟩,by simp;omega⟩,?_⟩
        ·by_cases e:j=i
         ·subst e;simp(disch:=omega) [hj,hr0,hB,hRc,ints]
         ·have e2:(j<i+1)=(j<i):=propext ⟨fun h=>by omega,fun h=>by omega⟩;simp(disch:=omega) [hj,e,e2]
        ·simp(disch:=omega) [ints,lX,hms]
        ·simp
        ·simp(disch:=omega);exact fun j hj=>by omega
        ·simp
        ·refine Dh.ren (fun p=>if p = .o (9000+i)then .o 9000 else p) ?_
         conv=>lhs;arg 2;simp[zB,ji,jk]
         kernel_rfl
       ·have hcp:=Kv g hg.sm x.r;simp only[h0,decide_true,jZ]at hcp;rcases (au (mZ g.rs x.r)).symm with hc|hc
        ·rw[hc]at hcp
         have hRc:(wE g r x).cs = [.int .i64 x.id,.sl []]:=by simp[wE,Rw.cs,show ¬x.r=r from fun h=>c1 h.symm,hc,ints]
         simp -dsimp(maxSteps:=1000000) [hi,aeJ,ints,w2,c1,aeG,hr0,ji,jk,hmin];refine aF.of hcp [] 0 ?_;simp -dsimp(maxSteps:=1000000) [hi,aeJ,ints,w2,c1,aeG,hr0,ji,jk,hmin];refine⟨rfl,?_⟩;refine⟨by omega,by omega,⟨⟨i+1,by omega⟩,GS.to ⟨Sub.sJ (n:=rs.length) (fun j hj=>?_) ?_ ?_ ?_,?_⟩,by simp;omega⟩,?_⟩
         ·by_cases e:j=i
          ·subst e;simp(disch:=omega) [hj,hr0,hB,hRc,ints]
          ·have e2:(j<i+1)=(j<i):=propext ⟨fun h=>by omega,fun h=>by omega⟩;simp(disch:=omega) [hj,e,e2]
         ·simp(disch:=omega) [ints,lX,hms]
         ·simp
         ·simp(disch:=omega);exact fun j hj=>by omega
         ·simp
         ·refine Dh.ren (fun p=>if p = .o (9000+i)then .o 9000 else p) ?_
          conv=>lhs;arg 2;simp[zB,ji,jk]
          kernel_rfl
        ·rw[hc]at hcp
         have hhp:=ajW g h0 r x.r XV (agi hc) c1;simp only[d_]at hhp;have hRc:(wE g r x).cs = [.int .i64 x.id,ints (hops g r x.r)]:=by simp[wE,Rw.cs,show ¬x.r=r from fun h=>c1 h.symm,hc,h0]
         simp -dsimp(maxSteps:=1000000) [hi,aeJ,ints,w2,c1,aeG,hr0,ji,jk,hmin];refine aF.of hcp [] 0 ?_;simp -dsimp(maxSteps:=1000000) [hi,aeJ,ints,w2,c1,aeG,hr0,ji,jk,hmin];refine⟨rfl,?_⟩;refine aF.of hhp [] 0 ?_;simp -dsimp(maxSteps:=1000000) [hi,aeJ,ints,w2,c1,aeG,hr0,ji,jk,hmin]
         refine⟨by omega,by omega,⟨⟨i+1,by omega⟩,GS.to ⟨Sub.sJ (n:=rs.length) (fun j hj=>?_) ?_ ?_ ?_,?_⟩,by simp;omega⟩,?_⟩
         ·by_cases e:j=i
          ·subst e;simp(disch:=omega) [hj,hr0,hB,hRc,ints]
          ·have e2:(j<i+1)=(j<i):=propext ⟨fun h=>by omega,fun h=>by omega⟩;simp(disch:=omega) [hj,e,e2]
         ·simp(disch:=omega) [ints,lX,hms]
         ·simp
         ·simp(disch:=omega);exact fun j hj=>by omega
         ·simp
         ·refine Dh.ren (fun p=>if p = .o (9000+i)then .o 9000 else p) ?_
          conv=>lhs;arg 2;simp[zB,ji,jk]
          kernel_rfl
      ·have hiz :¬(i:Int)<rs.length:=by omega
       obtain rfl:i=rs.length:=by omega
       simp -dsimp[hiz,w1];refine⟨⟨k+1,by omega⟩,GS.to ⟨Sub.sJ (n:=rs.length) (fun j hj=>?_) ?_ ?_ ?_,?_⟩,by simp;omega⟩
       ·simp(disch:=omega) [hj]
       ·simp(disch:=omega) [Wl (n:=rs.length) (f:=fun j=>if j<rs.length then k+1 else k) (f':=fun _=>k+1) (fun i hi=>if_pos hi)]
       ·simp
       ·simp(disch:=omega);exact fun j hj=>by omega
       ·simp
    ·have hkz :¬(k:Int)<p.es.length:=by omega
     obtain rfl:k=p.es.length:=by omega
     rw[bP];simp -dsimp[hkz];refine Fin.ghost (t':=Tr.look [(.s 6,It.v (.bK 7 rs.length)),(.o 7,It.row 65 4 (dd (ig (rs.map (nN g p)))) false)]) ?_
      ((GS.ajK (qL:=7) (e0:=65) (z0:=4) (b:=9000) (n:=rs.length) (e:=167) (z:=2) (pre:=mtC (Na rs) p.gU p.len) (xs:=fun i=>Gs g (Na rs i) p.es) (by simp[OL,mtC]) (fun i hi=>by simp[hi]) (by omega)).trans (GS.Lu ⟨?_,?_⟩ ?_))
     ·refine Fin.view 6 ?_;simp -dsimp[ig];refine Fin.of ?_;simp[ig]
     ·simp only[pF,fP,false_imp_iff,implies_true,and_true];refine⟨?_,?_⟩
      ·rw[alH];simp
      ·rw[aif,ali];simp
     ·simp
     ·intro i;rw[alI];simp
end Go.Proofs
