/-
  What functions of the program compute, stated as contracts over plain data; the conditions of each stand in its own statement.
-/
import Derived.Test.YtkikielfhjoogaaGreatDoorZA23
import Derived.Test.YtkikielfhjoogaaGreatDoorZA32
import Derived.Test.YtkikielfhjoogaaGreatDoorZA14
import Derived.Test.YtkikielfhjoogaaGreatDoorZA33
import Derived.Test.YtkikielfhjoogaaGreatDoorZA17
import Derived.Test.YtkikielfhjoogaaGreatDoorZA21
import Derived.Test.YtkikielfhjoogaaGreatDoorZA22
import Derived.Test.YtkikielfhjoogaaGreatDoorZA13
import Derived.Test.YtkikielfhjoogaaGreatDoorZA25
import Derived.Test.YtkikielfhjoogaaGreatDoorZA24
import Derived.Test.YtkikielfhjoogaaGreatDoorZA26
set_option linter.unusedSimpArgs false
set_option linter.unusedVariables false
namespace Go.Proofs
def Ls(cp:Int→Bool)(go:Int→List Int×List Int→List Int×List Int)(s:List Int×List Int)(n:Int):List Int×List Int:=
 if n∈s.1 then s else if cp n=true then(s.1++[n],s.2++[n])else go n (s.1++[n],s.2)
def NS(nx:Int→List Int)(cp:Int→Bool):Nat→Int→List Int×List Int→List Int×List Int
 | 0,_,s=>s
 | k+1,r,s=>(nx r).foldl (Ls cp (NS nx cp k)) s
structure rV(nx:Int→List Int)(cp:Int→Bool)(R:Int→Prop)(ns:List Int)(s s':List Int×List Int):Prop where
 sub:∀x∈s.1,x∈s'.1
 dn:∀n∈ns,n∈s'.1
 cl:∀x∈s'.1,x∈s.1∨cp x=true∨∀n∈nx x,n∈s'.1
 out:∀n,n∈s'.2↔n∈s.2∨(n∈s'.1∧n∉s.1∧cp n=true)
 nd:s.1.Nodup→s'.1.Nodup
 ndo:s.2.Nodup→(∀x∈s.2,x∈s.1)→s'.2.Nodup∧(∀x∈s'.2,x∈s'.1)
 via:∀x∈s'.1,x∈s.1∨R x
 len:s'.2.length+s.1.length≤s'.1.length+s.2.length
section
variable {nx:Int→List Int} {cp:Int→Bool} {R:Int→Prop}
theorem rV.refl{ns:List Int}{s:List Int×List Int}(h:∀n∈ns,n∈s.1):rV nx cp R ns s s:=
 ⟨fun _ h=>h,h,fun _ h=>.inl h,fun n=>⟨.inl,fun h=>h.elim id fun h=>absurd h.1 h.2.1⟩,id,fun h g=>⟨h,g⟩,fun _ h=>.inl h,by omega⟩
theorem rV.trans{a b:List Int}{s t u:List Int×List Int}(h:rV nx cp R a s t)(g:rV nx cp R b t u):rV nx cp R (a++b) s u:=by
 refine⟨fun x hx=>g.sub x (h.sub x hx),fun n hn=>?_,fun x hx=>?_,fun n=>?_,fun hn=>g.nd (h.nd hn),fun h1 h2=>?_,fun x hx=>?_,?_⟩
 ·rcases aN.1 hn with hn|hn
  ·exact g.sub n (h.dn n hn)
  ·exact g.dn n hn
 ·rcases g.cl x hx with h1|h1
  ·rcases h.cl x h1 with h2|h2|h2
   ·simp[*]
   ·simp[*]
   ·exact .inr (.inr fun n hn=>g.sub n (h2 n hn))
  simp[*]
 ·rw[g.out,h.out];have hs:=h.sub n;have hg:=g.sub n
  grind
 ·obtain⟨h3,h4⟩:=h.ndo h1 h2;exact g.ndo h3 h4
 ·rcases g.via x hx with h1|h1
  ·exact h.via x h1
  simp[*]
 ·have:=h.len;have:=g.len;omega
theorem yu{l:List Int}{n:Int}(h:l.Nodup)(hn:n∉l):(l++[n]).Nodup:=by grind
theorem rV.one{go:Int→List Int×List Int→List Int×List Int}{n:Int}{s:List Int×List Int}(hR:R n)(hgo:cp n=false→∀s,rV nx cp R (nx n) s (go n s)):rV nx cp R [n] s (Ls cp go s n):=by
 unfold Ls;split
 ·exact rV.refl fun m hm=>by simp_all
 ·rename_i h;split
  ·refine⟨fun x hx=>by simp[*],fun m hm=>by simp_all,fun x hx=>?_,fun m=>?_,fun hn=>yu hn h,fun h1 h2=>⟨yu h1 fun e=>h (h2 n e),fun x hx=>?_⟩,fun x hx=>?_,?_⟩
   ·grind
   ·grind
   ·grind
   ·grind
   grind
  ·have hcf:cp n=false:=by simp[*]
   have g:=hgo hcf (s.1++[n],s.2);refine⟨fun x hx=>g.sub x (by simp[*]),fun m hm=>?_,fun x hx=>?_,fun m=>?_,fun hn=>g.nd (yu hn h),fun h1 h2=>g.ndo h1 fun x hx=>by simp[*],fun x hx=>?_,?_⟩
   ·obtain rfl:=dH.1 hm;exact g.sub _ (by simp)
   ·rcases g.cl x hx with h1|h1
    ·rcases aN.1 h1 with h1|h1
     ·simp[*]
     ·obtain rfl:=dH.1 h1;exact .inr (.inr g.dn)
    simp[*]
   ·rw[g.out]
    grind
   ·rcases g.via x hx with h1|h1
    ·grind
    simp[*]
   ·have:=g.len
    grind
theorem rV.fold{go:Int→List Int×List Int→List Int×List Int}:∀{ns:List Int} {s:List Int×List Int},(∀n∈ns,R n∧(cp n=false→∀s,rV nx cp R (nx n) s (go n s)))→rV nx cp R ns s (ns.foldl (Ls cp go) s)
 | [],s,_=>rV.refl (by simp)
 | n::ns,s,h=>by have h1:=h n (by simp);exact rV.trans (a:=[n]) (rV.one h1.1 h1.2) (rV.fold fun m hm=>h m (by simp[hm]))
theorem ZC(d:Int→Nat)(hd:∀r,∀n∈nx r,d n<d r)(hR:∀n,R n→cp n=false→∀m∈nx n,R m):∀(k:Nat) (r:Int),d r<k→(∀n∈nx r,R n)→∀s,rV nx cp R (nx r) s (NS nx cp k r s)
 | 0,_,h,_,_=>by omega
 | k+1,r,h,hr,s=>by exact rV.fold fun n hn=>⟨hr n hn,fun hc s=>ZC d hd hR k n (by grind) (hR n (hr n hn) hc) s⟩
end
theorem afF{g:aX}(hg:g.Ok){t f:Int}{k:Nat}(hk:(dst g t f).toNat<k):
  (NS (steps g (dist g t)) (lF g.rs) k f ([],[])).2.Nodup∧∀n,n∈(NS (steps g (dist g t)) (lF g.rs) k f ([],[])).2↔Lm g t f n:=by
 have hd:∀r,∀n∈steps g (dist g t) r,(dst g t n).toNat<(dst g t r).toNat:=fun r n hn=>by have h1:=(o7 hg hn).1;have h2:=(pK hg t n).1;omega
 have h:=ZC (nx:=steps g (dist g t)) (cp:=lF g.rs) (R:=fun n=>∃x,Gq g t f x∧n∈steps g (dist g t) x) (fun x=>(dst g t x).toNat) hd (fun n hn hc m hm=>by
  obtain⟨x,hx,hnx⟩:=hn;exact⟨n,.via hx hnx hc,hm⟩) k f hk (fun n hn=>⟨f,.nil,hn⟩) ([],[])
 refine⟨(h.ndo (by simp) (by simp)).1,fun n=>?_⟩;rw[h.out];simp only[List.not_mem_nil,false_or,not_false_iff,true_and];constructor
 ·rintro⟨h1,h2⟩;rcases h.via n h1 with h3|⟨x,hx,hn⟩
  ·trivial
  ·exact⟨x,hx,hn,h2⟩
 ·rintro⟨x,hx,hn,hc⟩;have key:∀x,Gq g t f x→∀n∈steps g (dist g t) x,n∈(NS (steps g (dist g t)) (lF g.rs) k f ([],[])).1:=by
   intro x hx
   induction hx with
   | nil=>exact h.dn
   | via _ hm hcm ih=>
     intro n hn;rcases h.cl _ (ih _ hm)with h3|h3|h3
     ·trivial
     ·simp_all
     simp[*]
  grind
end Go.Proofs

set_option maxRecDepth 100000
set_option maxHeartbeats 16000000
namespace Go.Proofs
open Go Go.Tr
def bm(l:List Int):List (List Int×TV):=l.map fun n=>([n],TV.d (.bool true))
theorem Vh:∀(l:List Int) (n:Int),kJ (bm l) [n]=if n∈l then some (TV.d (.bool true))else none
 | [],_=>rfl
 | x::l,n=>by
   have ih:=Vh l n;simp only[bm]at ih;by_cases h:n=x
   ·simp[bm,kJ,h]
   ·simp[bm,kJ,h,ih]
theorem ab_{l:List Int}{n:Int}(h:n∉l):oq (bm l) [n] (TV.d (.bool true))=bm (l++[n]):=by
 have:oq (bm l) [n] (TV.d (.bool true))=bm l++[([n],TV.d (.bool true))]:=CX fun y hy e=>by obtain⟨x,hx,rfl⟩:=ak.1 hy;simp only[dR,and_true]at e;exact h (e▸hx)
 rw[this];simp[bm]
theorem ab6(l:List Int):rQ 1 (bm l):=fun y hy=>by obtain⟨x,hx,rfl⟩:=ak.1 hy;rfl
@[simp]theorem aqT{po:Nat→Prop}{l:List Int}{c:Nat}{pd:Option (List Int)}{s:Option jB}:It.only po (It.fO (bm l) c pd s):=by intro x hx;obtain⟨y,_,rfl⟩:=ak.1 hx;exact trivial
@[simp]theorem amV(ν:List Pl)(rs:List (Nat×Nat))(l:List Int):vX ν rs (bm l)=some (bm l):=AY ν rs (fun n=>[n]) (fun _=>D.bool true) l
@[simp]theorem apf(ν:List Pl)(b:Nat)(l:List Int):((bm l).map fun x=>(x.1,x.2.back ν b))=bm l:=by simp[bm,aY,TV.back]
@[simp]theorem aq_(a b:Nat)(l:List Int):((bm l).map fun x=>(x.1,x.2.ren a b))=bm l:=by simp[bm,aY,TV.ren]
theorem Vk(g:aX)(to x:Int):∀L:IM,kJ (kV ((Wl g to L).map (·.1)) ((Wl g to L).map (·.2))) [x]=if x∈L.map (·.1)then some (.d (ints (steps g (dist g to) x)))else none
 | []=>rfl
 | y::L=>by
   have ih:=Vk g to x L;have e:kV ((Wl g to (y::L)).map (·.1)) ((Wl g to (y::L)).map (·.2))=([y.1],TV.d (ints (steps g (dist g to) y.1)))::kV ((Wl g to L).map (·.1)) ((Wl g to L).map (·.2)):=rfl;rw[e,kJ,ih];by_cases h:x=y.1
   ·subst h;simp
   ·have:(x∈(y::L).map (·.1))=(x∈L.map (·.1)):=by simp[h]
    simp only[dR,and_true,h,if_false,this]
theorem ab9(g:aX)(to:Int):∀L:IM,rQ 1 (kV ((Wl g to L).map (·.1)) ((Wl g to L).map (·.2))):=fun L y hy=>by simp only[kV,ak]at hy;obtain⟨x,hx,rfl⟩:=hy;obtain⟨h1,h2⟩:=List.of_mem_zip (show(x.1,x.2)∈_ from hx);simp only[Wl,aY,ak]at h1;obtain⟨r,_,e⟩:=h1;simp only;rw[←e];rfl
theorem yG{g:aX}(hg:g.Ok){to x y:Int}(h:y∈steps g (dist g to) x):dF g.rs x=true∧dF g.rs y=true:=by obtain⟨_,_,_,c,hp,_⟩:=(mQ hg).1 h;exact mW hg hp
theorem Qr{g:aX}(hg:g.Ok){to x:Int}(hto:dF g.rs to=true)(h:x∉(DM g to).map (·.1)):steps g (dist g to) x = []:=by
 refine List.eq_nil_iff_forall_not_mem.2 fun y hy=>h ?_
 obtain⟨h1,_⟩:=(mQ hg).1 hy;have hb:=(pK hg to x).2;exact ak.2 ⟨(x,dst g to x),(NT hto).2 ⟨(yG hg hy).1,by omega,rfl⟩,rfl⟩
structure Ll(g:aX)(s:List Int×List Int):Prop where
 nd:s.1.Nodup
 has:∀x∈s.1,dF g.rs x=true
 len:s.2.length≤s.1.length
theorem Ll.le{g:aX}(hg:g.Ok){s:List Int×List Int}(h:Ll g s):s.1.length≤24∧s.2.length≤24:=by
 have h1:=Ig h.nd (b:=g.rs.map Rt.id) fun x hx=>jQ.1 (h.has x hx)
 rw[aV]at h1
 have:=hg.nr;have:=h.len;omega
theorem Ll.ok{g:aX}{nx:Int→List Int}{cp:Int→Bool}{ns:List Int}{s s':List Int×List Int}(h:Ll g s)(k:rV nx cp (fun n=>dF g.rs n=true) ns s s'):Ll g s':=by
 refine⟨k.nd h.nd,fun x hx=>?_,by have:=k.len;have:=h.len;omega⟩;rcases k.via x hx with h1|h1
 ·exact h.has x h1
 ·exact h1
theorem UR{g:aX}(hg:g.Ok){to:Int}(k:Nat)(r:Int)(hk:(dst g to r).toNat<k)(s:List Int×List Int):rV (steps g (dist g to)) (lF g.rs) (fun n=>dF g.rs n=true) (steps g (dist g to) r) s (NS (steps g (dist g to)) (lF g.rs) k r s):=
 ZC (fun x=>(dst g to x).toNat) (fun r n hn=>by
  have h1:=(o7 hg hn).1;have h2:=(pK hg to n).1;omega) (fun n _ _ m hm=>(yG hg hm).2) k r hk (fun n hn=>(yG hg hn).2) s
theorem abV(g:aX)(h0:jo g=0)(to:Int)(hto:dF g.rs to=true):∀(k:Nat) (r:Int),(dst g to r).toNat<k→∀s:List Int×List Int,Ll g s→
  nH Tryz.prog 128 [.d (.int .i64 r),.ptr (.x 0) 0,.ptr (.x 1) 0,.ptr (.x 2) 0,.ptr (.x 3) 0,.ptr (.x 4) 0] [.box [.d (YZ g to)],.box [.mref 901],It.box [TV.d (.sl (rts g.rs)),TV.d (.sl (nS g.ls))],.box [.aW 900 s.2.length],.box [TV.clo 128 [TV.ptr (.x 0) 0,TV.ptr (.x 1) 0,TV.ptr (.x 2) 0,TV.ptr (.x 3) 0,TV.ptr (.x 4) 0]]]
   [(900,.row 3 1 (dd (jR .i64 s.2)) false),(901,.fO (bm s.1) 0 none none)] (.qh [])
   [.box [.d (YZ g to)],.box [.mref 901],It.box [TV.d (.sl (rts g.rs)),TV.d (.sl (nS g.ls))],.box [.aW 900 (NS (steps g (dist g to)) (lF g.rs) k r s).2.length],.box [TV.clo 128 [TV.ptr (.x 0) 0,TV.ptr (.x 1) 0,TV.ptr (.x 2) 0,TV.ptr (.x 3) 0,TV.ptr (.x 4) 0]]]
   [(900,.row 3 1 (dd (jR .i64 (NS (steps g (dist g to)) (lF g.rs) k r s).2)) false),(901,.fO (bm (NS (steps g (dist g to)) (lF g.rs) k r s).1) 0 none none)]
 | 0,_,h,_,_=>by omega
 | k+1,r,hk,s,hI=>by
   have hg:=dV h0;have IH:=abV g h0 to hto k;obtain⟨ks,vs,hD,hget,hkl⟩:∃ks vs,YZ g to = .mp ks vs∧(∀x,kJ (kV ks vs) [x]=if x∈(DM g to).map (·.1)then some (.d (ints (steps g (dist g to) x)))else none)∧rQ 1 (kV ks vs):=
    ⟨_,_,by unfold YZ;rw[if_pos h0];rfl,fun x=>Vk g to x (DM g to),ab9 g to (DM g to)⟩
   have hok:dB Tryz.prog 128=true:=by kernel_rfl
   simp only[hD]at IH⊢;obtain⟨l,hl⟩:∃l,l=steps g (dist g to) r:=⟨_,rfl⟩
   have hll:l.length≤1000000:=by
    rw[hl];have:(steps g (dist g to) r).length≤g.rs.length:=by
     unfold steps;split
     ·simp
     ·refine dw (dY _ _) ?_;unfold near;rw[aV];exact dY _ _
    have:=hg.nr;omega
   have hlm:∀n∈l,(dst g to n).toNat<k∧dF g.rs n=true:=fun n hn=>by
    rw[hl]at hn
    have h1:=(o7 hg hn).1;have h2:=(pK hg to n).1;exact⟨by omega,(yG hg hn).2⟩
   obtain⟨F,hF⟩:∃F:List Int×List Int→Int→List Int×List Int,F=Ls (lF g.rs) (NS (steps g (dist g to)) (lF g.rs) k):=⟨_,rfl⟩
   have hS:NS (steps g (dist g to)) (lF g.rs) (k+1) r s=l.foldl F s:=by rw[NS,←hl,←hF]
   rw[hS];have hinv:∀i,Ll g ((l.take i).foldl F s):=fun i=>by rw[hF];exact hI.ok (rV.fold fun n hn=>⟨(hlm n (iW hn)).2,fun _ s=>UR hg k n (hlm n (iW hn)).1 s⟩)
   refine kD Tryz.func128 rfl (fun E0=>?_);refine iC.sound (g:=.mk) (ow:=[4000029]) (kp:=(kb 0x108793f)) ?_;rw[Tryz.ntmps128];by_cases hr:r∈(DM g to).map (·.1)
   ·simp -dsimp[hget,hkl,hr,←hl,ints];and_intros;all_goals try first|omega|exact⟨by kernel_rfl⟩|rfl
    refine dD.of [4000029] (kb 0x108793f) (ι:={i:Nat // i≤l.length})
     (fun z=>[(.s 0,It.v (.d (.int .i64 r))),(.s 1,It.v (.ptr (.x 0) 0)),(.s 2,It.v (.ptr (.x 1) 0)),(.s 3,It.v (.ptr (.x 2) 0)),(.s 4,It.v (.ptr (.x 3) 0)),(.s 5,It.v (.ptr (.x 4) 0)),
      (.x 0,It.box [.d (.mp ks vs)]),(.x 1,It.box [.mref 901]),(.x 2,It.box [TV.d (.sl (rts g.rs)),TV.d (.sl (nS g.ls))]),(.x 3,It.box [.aW 900 ((l.take z.1).foldl F s).2.length]),(.x 4,It.box [TV.clo 128 [TV.ptr (.x 0) 0,TV.ptr (.x 1) 0,TV.ptr (.x 2) 0,TV.ptr (.x 3) 0,TV.ptr (.x 4) 0]]),
      (.o 900,.row 3 1 (dd (jR .i64 ((l.take z.1).foldl F s).2)) false),(.o 901,.fO (bm ((l.take z.1).foldl F s).1) 0 none none),
      (.s 11,It.v (.d (ints l))),(.s 12,It.v (.d (.int .i64 l.length))),(.s 13,It.v (.d (.int .i64 z.1)))])
     (fun z=>l.length-z.1) ⟨0,by omega⟩ ?_ ?_
    ·exact GS.to (by simp[ints])
    ·rintro⟨i,i1⟩;have hi2:=hinv i;by_cases hi:i<l.length
     ·have hiz:(i:Int)<l.length:=by omega
      have hx:l[i]? = some l[i]:=aj hi;have hm:=hlm l[i] (aJ hi);have ht:(l.take (i+1)).foldl F s=F ((l.take i).foldl F s) l[i]:=by rw[aT,hx,iF,dZ];rfl
      have hi3:=hinv (i+1);rw[ht]at hi3
      generalize l[i]=n at hx hm ht hi3;generalize (l.take i).foldl F s=S at hi2 ht hi3;obtain⟨sn,ou⟩:=S;have w1:IntKind.i64.wrap ((i:Int)+1)=(i:Int)+1:=wrap_i64 (by omega) (by omega);have hgb:=Vh sn n;have hkb:=ab6 sn;by_cases hs:n∈sn
      ·have hf:F (sn,ou) n=(sn,ou):=by rw[hF];simp[Ls,hs]
       simp -dsimp[hiz,hx,ints,hgb,hkb,hs,w1];and_intros;all_goals try first|omega|exact⟨by kernel_rfl⟩|rfl
       refine⟨⟨i+1,by omega⟩,GS.to (by simp[ht,hf,ints]),by simp;omega⟩
      ·have hpb:=ab_ hs;simp -dsimp[hiz,hx,ints,hgb,hkb,hs,hpb,w1];and_intros;all_goals try first|omega|exact⟨by kernel_rfl⟩|rfl
       refine aI.of (Gi g hg.sm n) [] 0 ?_;rcases (aA (lF g.rs n)).symm with hc|hc
       ·have hf:F (sn,ou) n=NS (steps g (dist g to)) (lF g.rs) k n (sn++[n],ou):=by rw[hF];simp[Ls,hs,hc]
        rw[hf]at ht
        have hI':Ll g (sn++[n],ou):=⟨yu hi2.nd hs,fun x hx=>by
         rcases aN.1 hx with h|h
         ·exact hi2.has x h
         ·rw[dH.1 h];exact hm.2,by have:=hi2.len;simp at this⊢;omega⟩
        have agl:=IH n hm.1 (sn++[n],ou) hI';obtain⟨S',hS'⟩:∃S',S'=NS (steps g (dist g to)) (lF g.rs) k n (sn++[n],ou):=⟨_,rfl⟩
        rw[←hS']at agl ht
        simp -dsimp[h0,hc];refine⟨rfl,?_⟩;refine oG.Y3 agl [.x 0,.x 1,.x 2,.x 3,.x 4] [(900,900),(901,901)] 1000 ?_;simp -dsimp[hok,w1]
        refine⟨⟨i+1,by omega⟩,(GS.to (l':=[(.s 0,It.v (.d (.int .i64 r))),(.s 1,It.v (.ptr (.x 0) 0)),(.s 2,It.v (.ptr (.x 1) 0)),(.s 3,It.v (.ptr (.x 2) 0)),(.s 4,It.v (.ptr (.x 3) 0)),(.s 5,It.v (.ptr (.x 4) 0)),(.x 0,It.box [.d (.mp ks vs)]),(.x 1,It.box [.mref 1901]),(.x 2,It.box [TV.d (.sl (rts g.rs)),TV.d (.sl (nS g.ls))]),(.x 3,It.box [.aW 1900 S'.2.length]),(.x 4,It.box [TV.clo 128 [TV.ptr (.x 0) 0,TV.ptr (.x 1) 0,TV.ptr (.x 2) 0,TV.ptr (.x 3) 0,TV.ptr (.x 4) 0]]),(.o 1900,.row 3 1 (dd (jR .i64 S'.2)) false),(.o 1901,.fO (bm S'.1) 0 none none),(.s 11,It.v (.d (ints l))),(.s 12,It.v (.d (.int .i64 l.length))),(.s 13,It.v (.d (.int .i64 ((i:Int)+1))))]) (by simp[ints])).trans
         ((GS.ren' (l':=[(.s 0,It.v (.d (.int .i64 r))),(.s 1,It.v (.ptr (.x 0) 0)),(.s 2,It.v (.ptr (.x 1) 0)),(.s 3,It.v (.ptr (.x 2) 0)),(.s 4,It.v (.ptr (.x 3) 0)),(.s 5,It.v (.ptr (.x 4) 0)),(.x 0,It.box [.d (.mp ks vs)]),(.x 1,It.box [.mref 1901]),(.x 2,It.box [TV.d (.sl (rts g.rs)),TV.d (.sl (nS g.ls))]),(.x 3,It.box [.aW 900 S'.2.length]),(.x 4,It.box [TV.clo 128 [TV.ptr (.x 0) 0,TV.ptr (.x 1) 0,TV.ptr (.x 2) 0,TV.ptr (.x 3) 0,TV.ptr (.x 4) 0]]),(.o 900,.row 3 1 (dd (jR .i64 S'.2)) false),(.o 1901,.fO (bm S'.1) 0 none none),(.s 11,It.v (.d (ints l))),(.s 12,It.v (.d (.int .i64 l.length))),(.s 13,It.v (.d (.int .i64 ((i:Int)+1))))]) 1900 900 (by decide) (by simp) (by simp)).trans
         (GS.ren' 1901 901 (by decide) (by simp) (by simp[ht]))),by simp;omega⟩
       ·have hf:F (sn,ou) n=(sn++[n],ou++[n]):=by rw[hF];simp[Ls,hs,hc]
        have hle:=hi2.le hg;simp -dsimp[h0,hc,w1];refine⟨rfl,by simp at hle;omega,by simp at hle;omega,⟨i+1,by omega⟩,GS.to (by simp[ht,hf,ints,jR]),by simp;omega⟩
     ·have hiz :¬(i:Int)<l.length:=by omega
      obtain rfl:i=l.length:=by omega
      rw[lT];simp -dsimp[hiz];refine Fin.of ?_;simp
   ·have hl0:l = []:=hl.trans (Qr hg hto hr);subst hl0;simp -dsimp[hget,hkl,hr];and_intros;all_goals try first|omega|exact⟨by kernel_rfl⟩|rfl
    refine dD.of [4000029] (kb 0x108793f) (ι:=Unit)
     (fun z=>[(.s 0,It.v (.d (.int .i64 r))),(.s 1,It.v (.ptr (.x 0) 0)),(.s 2,It.v (.ptr (.x 1) 0)),(.s 3,It.v (.ptr (.x 2) 0)),(.s 4,It.v (.ptr (.x 3) 0)),(.s 5,It.v (.ptr (.x 4) 0)),(.x 0,It.box [.d (.mp ks vs)]),(.x 1,It.box [.mref 901]),(.x 2,It.box [TV.d (.sl (rts g.rs)),TV.d (.sl (nS g.ls))]),(.x 3,It.box [.aW 900 s.2.length]),(.x 4,It.box [TV.clo 128 [TV.ptr (.x 0) 0,TV.ptr (.x 1) 0,TV.ptr (.x 2) 0,TV.ptr (.x 3) 0,TV.ptr (.x 4) 0]]),(.o 900,.row 3 1 (dd (jR .i64 s.2)) false),(.o 901,.fO (bm s.1) 0 none none),(.s 12,It.v (.d (.int .i64 0))),(.s 13,It.v (.d (.int .i64 0)))])
     (fun z=>0) () ?_ ?_
    ·exact GS.to (by simp)
    ·rintro⟨⟩;simp -dsimp;refine Fin.of ?_;simp
theorem agA(g:aX)(h0:jo g=0)(to:Int)(hto:dF g.rs to=true)(k:Nat)(r:Int)(hk:(dst g to r).toNat<k+1):
  nH Tryz.prog 128 [.d (.int .i64 r),.ptr (.x 0) 0,.ptr (.x 1) 0,.ptr (.x 2) 0,.ptr (.x 3) 0,.ptr (.x 4) 0] [.box [.d (YZ g to)],.box [.mref 901],It.box [TV.d (.sl (rts g.rs)),TV.d (.sl (nS g.ls))],.box [.c (.slice none 0 0)],.box [TV.clo 128 [TV.ptr (.x 0) 0,TV.ptr (.x 1) 0,TV.ptr (.x 2) 0,TV.ptr (.x 3) 0,TV.ptr (.x 4) 0]]]
   [(901,.fO [] 0 none none)] (.qh [])
   [.box [.d (YZ g to)],.box [.mref 901],It.box [TV.d (.sl (rts g.rs)),TV.d (.sl (nS g.ls))],.box [.aW 900 (NS (steps g (dist g to)) (lF g.rs) (k+1) r ([],[])).2.length],.box [TV.clo 128 [TV.ptr (.x 0) 0,TV.ptr (.x 1) 0,TV.ptr (.x 2) 0,TV.ptr (.x 3) 0,TV.ptr (.x 4) 0]]]
   [(900,.row 3 1 (dd (jR .i64 (NS (steps g (dist g to)) (lF g.rs) (k+1) r ([],[])).2)) false),(901,.fO (bm (NS (steps g (dist g to)) (lF g.rs) (k+1) r ([],[])).1) 0 none none)]:=by
  obtain⟨s,hs0⟩:∃s:List Int×List Int,s=([],[]):=⟨_,rfl⟩
  have hI:Ll g s:=by subst hs0;exact⟨by simp,by simp,by simp⟩
  rw[←hs0];have hg:=dV h0;have IH:=abV g h0 to hto k;obtain⟨ks,vs,hD,hget,hkl⟩:∃ks vs,YZ g to = .mp ks vs∧(∀x,kJ (kV ks vs) [x]=if x∈(DM g to).map (·.1)then some (.d (ints (steps g (dist g to) x)))else none)∧rQ 1 (kV ks vs):=
   ⟨_,_,by unfold YZ;rw[if_pos h0];rfl,fun x=>Vk g to x (DM g to),ab9 g to (DM g to)⟩
  have hok:dB Tryz.prog 128=true:=by kernel_rfl
  simp only[hD]at IH⊢;obtain⟨l,hl⟩:∃l,l=steps g (dist g to) r:=⟨_,rfl⟩
  have hll:l.length≤1000000:=by
   rw[hl];have:(steps g (dist g to) r).length≤g.rs.length:=by
    unfold steps;split
    ·simp
    ·refine dw (dY _ _) ?_;unfold near;rw[aV];exact dY _ _
   have:=hg.nr;omega
  have hlm:∀n∈l,(dst g to n).toNat<k∧dF g.rs n=true:=fun n hn=>by
   rw[hl]at hn
   have h1:=(o7 hg hn).1;have h2:=(pK hg to n).1;exact⟨by omega,(yG hg hn).2⟩
  obtain⟨F,hF⟩:∃F:List Int×List Int→Int→List Int×List Int,F=Ls (lF g.rs) (NS (steps g (dist g to)) (lF g.rs) k):=⟨_,rfl⟩
  have hS:NS (steps g (dist g to)) (lF g.rs) (k+1) r s=l.foldl F s:=by rw[NS,←hl,←hF]
  rw[hS];have hinv:∀i,Ll g ((l.take i).foldl F s):=fun i=>by rw[hF];exact hI.ok (rV.fold fun n hn=>⟨(hlm n (iW hn)).2,fun _ s=>UR hg k n (hlm n (iW hn)).1 s⟩)
  refine kD Tryz.func128 rfl (fun E0=>?_);refine iC.sound (g:=.mk) (ow:=[4000029]) (kp:=(kb 0x108793f)) ?_;rw[Tryz.ntmps128];by_cases hr:r∈(DM g to).map (·.1)
  ·simp -dsimp[hget,hkl,hr,←hl,ints];and_intros;all_goals try first|omega|exact⟨by kernel_rfl⟩|rfl
   refine dD.of [4000029] (kb 0x108793f) (ι:={i:Nat // i≤l.length})
    (fun z=>[(.s 0,It.v (.d (.int .i64 r))),(.s 1,It.v (.ptr (.x 0) 0)),(.s 2,It.v (.ptr (.x 1) 0)),(.s 3,It.v (.ptr (.x 2) 0)),(.s 4,It.v (.ptr (.x 3) 0)),(.s 5,It.v (.ptr (.x 4) 0)),
     (.x 0,It.box [.d (.mp ks vs)]),(.x 1,It.box [.mref 901]),(.x 2,It.box [TV.d (.sl (rts g.rs)),TV.d (.sl (nS g.ls))]),(.x 3,It.box [.aW 900 ((l.take z.1).foldl F s).2.length]),(.x 4,It.box [TV.clo 128 [TV.ptr (.x 0) 0,TV.ptr (.x 1) 0,TV.ptr (.x 2) 0,TV.ptr (.x 3) 0,TV.ptr (.x 4) 0]]),
     (.o 900,.row 3 1 (dd (jR .i64 ((l.take z.1).foldl F s).2)) false),(.o 901,.fO (bm ((l.take z.1).foldl F s).1) 0 none none),
     (.s 11,It.v (.d (ints l))),(.s 12,It.v (.d (.int .i64 l.length))),(.s 13,It.v (.d (.int .i64 z.1)))])
    (fun z=>l.length-z.1) ⟨0,by omega⟩ ?_ ?_
   ·exact GS.Df (cs:=[.c (.slice none 0 0)]) (.x 3) 0 900 3 1 rfl (by simp) (by simp) (by simp) (by simp[ints,bm,jR,hs0])
   ·rintro⟨i,i1⟩;have hi2:=hinv i;by_cases hi:i<l.length
    ·have hiz:(i:Int)<l.length:=by omega
     have hx:l[i]? = some l[i]:=aj hi;have hm:=hlm l[i] (aJ hi);have ht:(l.take (i+1)).foldl F s=F ((l.take i).foldl F s) l[i]:=by rw[aT,hx,iF,dZ];rfl
     have hi3:=hinv (i+1);rw[ht]at hi3
     generalize l[i]=n at hx hm ht hi3;generalize (l.take i).foldl F s=S at hi2 ht hi3;obtain⟨sn,ou⟩:=S;have w1:IntKind.i64.wrap ((i:Int)+1)=(i:Int)+1:=wrap_i64 (by omega) (by omega);have hgb:=Vh sn n;have hkb:=ab6 sn;by_cases hs:n∈sn
     ·have hf:F (sn,ou) n=(sn,ou):=by rw[hF];simp[Ls,hs]
      simp -dsimp[hiz,hx,ints,hgb,hkb,hs,w1];and_intros;all_goals try first|omega|exact⟨by kernel_rfl⟩|rfl
      refine⟨⟨i+1,by omega⟩,GS.to (by simp[ht,hf,ints]),by simp;omega⟩
     ·have hpb:=ab_ hs;simp -dsimp[hiz,hx,ints,hgb,hkb,hs,hpb,w1];and_intros;all_goals try first|omega|exact⟨by kernel_rfl⟩|rfl
      refine aI.of (Gi g hg.sm n) [] 0 ?_;rcases (aA (lF g.rs n)).symm with hc|hc
      ·have hf:F (sn,ou) n=NS (steps g (dist g to)) (lF g.rs) k n (sn++[n],ou):=by rw[hF];simp[Ls,hs,hc]
       rw[hf]at ht
       have hI':Ll g (sn++[n],ou):=⟨yu hi2.nd hs,fun x hx=>by
        rcases aN.1 hx with h|h
        ·exact hi2.has x h
        ·rw[dH.1 h];exact hm.2,by have:=hi2.len;simp at this⊢;omega⟩
       have agl:=IH n hm.1 (sn++[n],ou) hI';obtain⟨S',hS'⟩:∃S',S'=NS (steps g (dist g to)) (lF g.rs) k n (sn++[n],ou):=⟨_,rfl⟩
       rw[←hS']at agl ht
       simp -dsimp[h0,hc];refine⟨rfl,?_⟩;refine oG.Y3 agl [.x 0,.x 1,.x 2,.x 3,.x 4] [(900,900),(901,901)] 1000 ?_;simp -dsimp[hok,w1]
       refine⟨⟨i+1,by omega⟩,(GS.to (l':=[(.s 0,It.v (.d (.int .i64 r))),(.s 1,It.v (.ptr (.x 0) 0)),(.s 2,It.v (.ptr (.x 1) 0)),(.s 3,It.v (.ptr (.x 2) 0)),(.s 4,It.v (.ptr (.x 3) 0)),(.s 5,It.v (.ptr (.x 4) 0)),(.x 0,It.box [.d (.mp ks vs)]),(.x 1,It.box [.mref 1901]),(.x 2,It.box [TV.d (.sl (rts g.rs)),TV.d (.sl (nS g.ls))]),(.x 3,It.box [.aW 1900 S'.2.length]),(.x 4,It.box [TV.clo 128 [TV.ptr (.x 0) 0,TV.ptr (.x 1) 0,TV.ptr (.x 2) 0,TV.ptr (.x 3) 0,TV.ptr (.x 4) 0]]),(.o 1900,.row 3 1 (dd (jR .i64 S'.2)) false),(.o 1901,.fO (bm S'.1) 0 none none),(.s 11,It.v (.d (ints l))),(.s 12,It.v (.d (.int .i64 l.length))),(.s 13,It.v (.d (.int .i64 ((i:Int)+1))))]) (by simp[ints])).trans
        ((GS.ren' (l':=[(.s 0,It.v (.d (.int .i64 r))),(.s 1,It.v (.ptr (.x 0) 0)),(.s 2,It.v (.ptr (.x 1) 0)),(.s 3,It.v (.ptr (.x 2) 0)),(.s 4,It.v (.ptr (.x 3) 0)),(.s 5,It.v (.ptr (.x 4) 0)),(.x 0,It.box [.d (.mp ks vs)]),(.x 1,It.box [.mref 1901]),(.x 2,It.box [TV.d (.sl (rts g.rs)),TV.d (.sl (nS g.ls))]),(.x 3,It.box [.aW 900 S'.2.length]),(.x 4,It.box [TV.clo 128 [TV.ptr (.x 0) 0,TV.ptr (.x 1) 0,TV.ptr (.x 2) 0,TV.ptr (.x 3) 0,TV.ptr (.x 4) 0]]),(.o 900,.row 3 1 (dd (jR .i64 S'.2)) false),(.o 1901,.fO (bm S'.1) 0 none none),(.s 11,It.v (.d (ints l))),(.s 12,It.v (.d (.int .i64 l.length))),(.s 13,It.v (.d (.int .i64 ((i:Int)+1))))]) 1900 900 (by decide) (by simp) (by simp)).trans
        (GS.ren' 1901 901 (by decide) (by simp) (by simp[ht]))),by simp;omega⟩
      ·have hf:F (sn,ou) n=(sn++[n],ou++[n]):=by rw[hF];simp[Ls,hs,hc]
       have hle:=hi2.le hg;simp -dsimp[h0,hc,w1];refine⟨rfl,by simp at hle;omega,by simp at hle;omega,⟨i+1,by omega⟩,GS.to (by simp[ht,hf,ints,jR]),by simp;omega⟩
    ·have hiz :¬(i:Int)<l.length:=by omega
     obtain rfl:i=l.length:=by omega
     rw[lT];simp -dsimp[hiz];refine Fin.of ?_;simp
  ·have hl0:l = []:=hl.trans (Qr hg hto hr);subst hl0;simp -dsimp[hget,hkl,hr];and_intros;all_goals try first|omega|exact⟨by kernel_rfl⟩|rfl
   refine dD.of [4000029] (kb 0x108793f) (ι:=Unit)
    (fun z=>[(.s 0,It.v (.d (.int .i64 r))),(.s 1,It.v (.ptr (.x 0) 0)),(.s 2,It.v (.ptr (.x 1) 0)),(.s 3,It.v (.ptr (.x 2) 0)),(.s 4,It.v (.ptr (.x 3) 0)),(.s 5,It.v (.ptr (.x 4) 0)),(.x 0,It.box [.d (.mp ks vs)]),(.x 1,It.box [.mref 901]),(.x 2,It.box [TV.d (.sl (rts g.rs)),TV.d (.sl (nS g.ls))]),(.x 3,It.box [.aW 900 s.2.length]),(.x 4,It.box [TV.clo 128 [TV.ptr (.x 0) 0,TV.ptr (.x 1) 0,TV.ptr (.x 2) 0,TV.ptr (.x 3) 0,TV.ptr (.x 4) 0]]),(.o 900,.row 3 1 (dd (jR .i64 s.2)) false),(.o 901,.fO (bm s.1) 0 none none),(.s 12,It.v (.d (.int .i64 0))),(.s 13,It.v (.d (.int .i64 0)))])
    (fun z=>0) () ?_ ?_
   ·exact GS.Df (cs:=[.c (.slice none 0 0)]) (.x 3) 0 900 3 1 rfl (by simp) (by simp) (by simp) (by simp[ints,bm,jR,hs0])
   ·rintro⟨⟩;simp -dsimp;refine Fin.of ?_;simp
theorem QM{l m:List Int}(hl:l.Nodup)(hm:m.Pairwise (· < ·))(h:∀x,x∈l↔x∈m):(l.mergeSort fun x y=>decide (x≤y))=m:=by
 refine UE ?_ hm fun x=>by rw[List.mem_mergeSort];exact h x
 have h1:(l.mergeSort fun x y=>decide (x≤y)).Pairwise fun x y=>decide (x≤y)=true:=jH (fun a b c=>by simp;omega) (fun a b=>by simp;omega) l
 have h2:(l.mergeSort fun x y=>decide (x≤y)).Nodup:=(fU l _).symm.nodup hl;exact(h1.and (gV.1 h2)).imp fun {a b} h=>by simp at h;omega
theorem akn(g:aX)(h0:jo g=0)(f t:Int)(hf:dF g.rs f=true)(ht:dF g.rs t=true)(hne:f≠t):Contract Tryz.prog 72 [eU g,.d (YZ g t),.d (.int .i64 f)] [] (.d (ints (hops g f t))) [] []:=by
 have hg:=dV h0;obtain⟨k,hk⟩:∃k,k=(dst g t f).toNat:=⟨_,rfl⟩
 have hw:=agA g h0 t ht k f (by omega);obtain⟨h1,h2⟩:=afF hg (t:=t) (f:=f) (k:=k+1) (by omega);have hS:=QM h1 (U_ g f t).1 fun n=>(h2 n).trans (Ik h0 hf ht hne).symm
 have hI:=(show Ll g ([],[]) from⟨by simp,by simp,by simp⟩).ok (UR hg (to:=t) (k+1) f (by omega) ([],[]));have hle:=(hI.le hg).2;generalize NS (steps g (dist g t)) (lF g.rs) (k+1) f ([],[])=S at hw hS hle;obtain⟨ks,vs,hD⟩:∃ks vs,YZ g t = .mp ks vs:=⟨_,_,by unfold YZ;rw[if_pos h0];rfl⟩
 rw[hD]at hw⊢
 have hok:dB Tryz.prog 128=true:=by kernel_rfl
 refine ay Tryz.func72 rfl (fun E0=>?_);refine iC.sound (g:=.mk) (ow:=[3000010,4000012,1000129]) (kp:=(kb 0x3df)) ?_;rw[Tryz.ntmps72];simp -dsimp[eU];refine oG.Y3 hw [.o 4,.o 8,.o 3,.o 7,.o 9] [(901,10)] 1000 ?_;simp -dsimp[hok];refine aI.agG aa8 S.2 ?_;simp -dsimp[hS];and_intros
 all_goals try first|omega|exact⟨by kernel_rfl⟩|rfl
 have hlen:S.2.length=(hops g f t).length:=by rw[←hS,iO]
 rw[hlen];refine Fin.view 6 ?_;simp -dsimp;refine Fin.of ?_;simp[ints,jR]
def IU(l:List Int)(i:Nat):Int:=l.getD i 0
def mtC(rr:Nat→Int)(sd len:Int)(i:Nat):List TV:=[.d (.int .i64 (rr i)),.d (.int .i64 sd),.d (.int .i64 len)]
def JX(n:Nat)(rr:Nat→Int)(sd len:Int)(f:Nat→Nat):List (List TV):=(List.range n).map fun i=>[.d (.int .i64 (rr i)),.d (.int .i64 sd),.d (.int .i64 len),.aW (9000+i) (f i)]
@[simp]theorem aqS(n:Nat)(rr:Nat→Int)(sd len:Int)(f:Nat→Nat):(JX n rr sd len f).length=n:=by simp[JX]
theorem ajD{n:Nat}{rr:Nat→Int}{sd len:Int}{f:Nat→Nat}{i:Nat}(h:i<n):(JX n rr sd len f)[i]? = some [.d (.int .i64 (rr i)),.d (.int .i64 sd),.d (.int .i64 len),.aW (9000+i) (f i)]:=by rw[JX,bn,lJ h];rfl
theorem ajE{n:Nat}{rr:Nat→Int}{sd len:Int}{f:Nat→Nat}{i m:Nat}:(JX n rr sd len f).set i [.d (.int .i64 (rr i)),.d (.int .i64 sd),.d (.int .i64 len),.aW (9000+i) m]=JX n rr sd len fun j=>if j=i then m else f j:=by
 refine iw fun j=>?_
 rw[List.getElem?_set,JX,JX,bn,bn,aV,pz];by_cases hj:j<n
 ·rw[lJ hj];by_cases e:i=j
  ·subst e;simp[hj]
  ·rw[if_neg e];simp[show ¬j=i from fun h=>e h.symm]
 ·have:(List.range n)[j]? = none:=by simp;omega
  rw[this];by_cases e:i=j
  ·subst e;simp[hj]
  ·simp[e]
theorem agY{n:Nat}{rr:Nat→Int}{sd len:Int}{f:Nat→Nat}:JX (n+1) rr sd len f=JX n rr sd len f++[[.d (.int .i64 (rr n)),.d (.int .i64 sd),.d (.int .i64 len),.aW (9000+n) (f n)]]:=by simp[JX,jI]
theorem ajC{n:Nat}{rr:Nat→Int}{sd len:Int}{f:Nat→Nat}{v:TV}(h:f n=0):(JX n rr sd len f++[[.d (.int .i64 (rr n)),.d (.int .i64 sd),.d (.int .i64 len),v]]).set n [.d (.int .i64 (rr n)),.d (.int .i64 sd),.d (.int .i64 len),.aW (9000+n) 0]=JX (n+1) rr sd len f:=by rw[agY,ni _ _ (by simp),h];simp
theorem agX{n:Nat}{rr:Nat→Int}{sd len:Int}{f:Nat→Nat}{v:List TV}:(JX n rr sd len f++[v])[n]? = some v:=by rw[b_ (by simp)];simp
theorem TD{n:Nat}{rr:Nat→Int}{sd len:Int}{f f':Nat→Nat}(h:∀i,i<n→f i=f' i):JX n rr sd len f=JX n rr sd len f':=
 gU fun i hi=>by rw[h i (bI.1 hi)]
@[simp]theorem aoP{po:Nat→Prop}{n:Nat}{rr:Nat→Int}{sd len:Int}{f:Nat→Nat}:lH po (JX n rr sd len f)↔∀i,i<n→po (9000+i):=by
 constructor
 ·intro h i hi;have:=h _ (ak.2 ⟨i,bI.2 hi,rfl⟩);simp only[TV.rJ,TV.only,and_true,true_and]at this;exact this
 ·intro h x hx;obtain⟨i,hi,rfl⟩:=ak.1 hx;simp only[TV.rJ,TV.only,and_true,true_and];exact h i (bI.1 hi)
theorem Zh(g:aX)(r:Int)(es:List Ed)(k:Nat)(h:es.length≤1000):(Fe g r (es.take k)).length≤1000:=by rw[afl,gG];omega
theorem aeE{α:Type}(F:Int→α)(l:List Int):(List.range l.length).map (fun i=>F (IU l i))=l.map F:=by
 refine lQ (by simp) fun i h1 h2=>?_
 simp only[aV,pz]at h1;simp[IU,h1]
theorem alQ(g:aX)(p:Pn)(rs:List Int):((List.range rs.length).map fun i=>mtC (IU rs) p.jd p.len i++[TV.d (.sl (Fe g (IU rs i) p.es))])=dd (Gn (rs.map (oU g p))):=by refine(aeE (fun r=>[TV.d (.int .i64 r),TV.d (.int .i64 p.jd),TV.d (.int .i64 p.len),TV.d (.sl (Fe g r p.es))]) rs).trans ?_;simp[dd,Gn,Tb.cs,oU,jM,Fe]
theorem afx{l:List Rt}{r:Int}(h:lF l r=true):dF l r=true:=by
 unfold lF at h;cases hr:Ru l r with
 | none=>rw[hr]at h;simp at h
 | some x=>unfold Ru at hr;have h1:=fG hr;have h2:=mX hr;exact iG.2 ⟨x,h1,h2⟩
theorem ail(g:aX)(h0:jo g=0)(p:Pn)(hp:p.es.length≤1000)(rs:List Int)(hrs:rs.length≤24)(hr:∀r∈rs,dF g.rs r=true):
  Contract Tryz.prog 24 [eU g,su p,.d (ints rs)] [] (.d (.sl (Gn (rs.map (oU g p))))) [] []:=by
 have hg:=dV h0;refine ay Tryz.func24 rfl (fun E0=>?_);refine iC.sound (g:=.mk) (ow:=[29,2000028]) (kp:=(kb 0x2020781e000ffadf)) ?_;rw[Tryz.ntmps24];simp -dsimp[eU,su,ints]
 refine dD.of [29,2000028] (kb 0x2020781e000ffadf) (ι:={i:Nat // i≤rs.length})
  (fun z=>qw 9000 z.1 (fun _=>It.row 174 2 [] false) [(.s 2,It.v (.d (ints rs))),(.o 3,It.box [TV.d (.sl (rts g.rs)),TV.d (.sl (nS g.ls))]),(.s 3,It.v (.ptr (.o 3) 0)),(.o 4,It.box [TV.d (.int .i64 p.jd),TV.d (.int .i64 p.len),TV.d (.sl (zA p.es))]),(.s 4,It.v (.ptr (.o 4) 0)),(.s 6,It.v (.c (Value.slice none 0 0))),(.s 7,It.v (.aW 7 z.1)),(.o 7,It.row 105 4 (JX z.1 (IU rs) p.jd p.len fun _=>0) false),(.s 16,It.v (.d (ints rs))),(.s 17,It.v (.d (.int .i64 rs.length))),(.s 18,It.v (.d (.int .i64 z.1)))])
  (fun z=>rs.length-z.1) ⟨0,by omega⟩ ?_ ?_
 ·exact GS.own' (k:=7) 105 4 (by simp) (by simp) (by simp[Ol,JX,ints])
 ·rintro⟨i,i1⟩;by_cases hi:i<rs.length
  ·have hiz:(i:Int)<rs.length:=by omega
   have hx:rs[i]? = some rs[i]:=aj hi;have JL:rs[i]=IU rs i:=by simp[IU,hi]
   generalize rs[i]=x at hx JL;subst JL;have w1:IntKind.i64.wrap ((i:Int)+1)=(i:Int)+1:=wrap_i64 (by omega) (by omega);simp -dsimp[hiz,hx,ints,w1];and_intros;all_goals try first|omega|exact⟨by kernel_rfl⟩|rfl
   refine⟨⟨i+1,by omega⟩,?_,by simp;omega⟩
   refine GS.aoW (e0:=105) (k0:=4) (sh0:=false) (es0:=(JX i (IU rs) p.jd p.len fun _=>0)++[[.d (.int .i64 (IU rs i)),.d (.int .i64 p.jd),.d (.int .i64 p.len),.c (.slice none 0 0)]]) (r:=[.d (.int .i64 (IU rs i)),.d (.int .i64 p.jd),.d (.int .i64 p.len),.c (.slice none 0 0)]) 7 i 3 (9000+i) 174 2 (by simp) agX (by simp) (by simp(disch:=omega) [jS,jT]) ⟨Sub.qw (n:=i+1) (fun j hj=>?_) ?_ ?_ ?_,?_⟩
   ·rcases (by omega:j<i∨j=i)with h|h
    ·simp(disch:=omega) [jS,jT,h]
    ·subst h;simp(disch:=omega) [jS,jT]
   ·simp(disch:=omega) [jS,jT,ints,ajC]
   ·simp
   ·simp(disch:=omega);exact fun j hj=>by omega
   ·simp(disch:=omega) [jS,jT]
  ·have hiz :¬(i:Int)<rs.length:=by omega
   obtain rfl:i=rs.length:=by omega
   have JL:∀i,i<rs.length→dF g.rs (IU rs i)=true:=fun i hi=>by
    have:IU rs i=rs[i]'(by omega):=by simp[IU,show i<rs.length by omega]
    rw[this];exact hr _ (aJ _)
   simp -dsimp[hiz];refine dD.of [29,2000028] (kb 0x2020781e000ffadf) (ι:={k:Nat // k≤p.es.length})
    (fun z=>qw 9000 rs.length (fun j=>It.row 174 2 (dd (Fe g (IU rs j) (p.es.take z.1))) false) [(.s 2,It.v (.d (ints rs))),(.o 3,It.box [TV.d (.sl (rts g.rs)),TV.d (.sl (nS g.ls))]),(.s 3,It.v (.ptr (.o 3) 0)),(.o 4,It.box [TV.d (.int .i64 p.jd),TV.d (.int .i64 p.len),TV.d (.sl (zA p.es))]),(.s 4,It.v (.ptr (.o 4) 0)),(.s 6,It.v (.c (Value.slice none 0 0))),(.s 7,It.v (.aW 7 rs.length)),(.o 7,It.row 105 4 (JX rs.length (IU rs) p.jd p.len fun _=>z.1) false),(.s 33,It.v (.d (.sl (zA p.es)))),(.s 34,It.v (.d (.int .i64 p.es.length))),(.s 35,It.v (.d (.int .i64 z.1)))])
    (fun z=>p.es.length-z.1) ⟨0,by omega⟩ ?_ ?_
   ·refine GS.to ⟨Sub.qw (n:=rs.length) (fun j hj=>?_) ?_ ?_ ?_,?_⟩
    ·simp(disch:=omega) [hj,Fe]
    ·simp(disch:=omega) [zA]
    ·simp
    ·simp(disch:=omega);exact fun j hj=>by omega
    ·simp
   ·rintro⟨k,k1⟩;by_cases hk:k<p.es.length
    ·have hkz:(k:Int)<p.es.length:=by omega
     have hx:p.es[k]? = some p.es[k]:=aj hk;have ht:p.es.take (k+1)=p.es.take k++[p.es[k]]:=by rw[aT,aj hk];rfl
     generalize p.es[k]=x at hx ht;have hx':=MB hx;have htw:=aiv g hg.sm x.r;simp only[eU]at htw;have w1:IntKind.i64.wrap ((k:Int)+1)=(k:Int)+1:=wrap_i64 (by omega) (by omega);simp -dsimp[hkz,hx',Ed.cs];refine aI.of htw [] 0 ?_;simp -dsimp[hkz,hx',Ed.cs,ints];and_intros;all_goals try first|omega|exact⟨by kernel_rfl⟩|rfl
     refine dD.of [29,2000028] (kb 0x2020781e000ffadf) (ι:={i:Nat // i≤rs.length})
      (fun z=>qw 9000 rs.length (fun j=>It.row 174 2 (dd (Fe g (IU rs j) (p.es.take (if j<z.1 then k+1 else k)))) false) [(.s 2,It.v (.d (ints rs))),(.o 3,It.box [TV.d (.sl (rts g.rs)),TV.d (.sl (nS g.ls))]),(.s 3,It.v (.ptr (.o 3) 0)),(.o 4,It.box [TV.d (.int .i64 p.jd),TV.d (.int .i64 p.len),TV.d (.sl (zA p.es))]),(.s 4,It.v (.ptr (.o 4) 0)),(.s 6,It.v (.c (Value.slice none 0 0))),(.s 7,It.v (.aW 7 rs.length)),(.o 7,It.row 105 4 (JX rs.length (IU rs) p.jd p.len fun j=>if j<z.1 then k+1 else k) false),(.s 33,It.v (.d (.sl (zA p.es)))),(.s 34,It.v (.d (.int .i64 p.es.length))),(.s 35,It.v (.d (.int .i64 k))),
       (.o 11,It.box [.d (.int .i64 x.r),.d (.int .i64 x.id)]),(.s 11,It.v (.ptr (.o 11) 0)),(.s 12,It.v (.d (YZ g x.r))),(.s 43,It.v (.d (ints rs))),(.s 44,It.v (.d (.int .i64 rs.length))),(.s 45,It.v (.d (.int .i64 z.1)))])
      (fun z=>rs.length-z.1) ⟨0,by omega⟩ ?_ ?_
     ·refine GS.to ⟨Sub.qw (n:=rs.length) (fun j hj=>?_) ?_ ?_ ?_,?_⟩
      ·simp(disch:=omega) [hj]
      ·simp(disch:=omega) [ints,zA]
      ·simp
      ·simp(disch:=omega);exact fun j hj=>by omega
      ·simp
     ·rintro⟨i,i1⟩;by_cases hi:i<rs.length
      ·have hiz:(i:Int)<rs.length:=by omega
       have hy:rs[i]? = some (IU rs i):=by simp[IU,hi]
       have JL:=JL i hi;have w2:IntKind.i64.wrap ((i:Int)+1)=(i:Int)+1:=wrap_i64 (by omega) (by omega);have hmg:(JX rs.length (IU rs) p.jd p.len fun j=>if j<i then k+1 else k)[i]? = some [.d (.int .i64 (IU rs i)),.d (.int .i64 p.jd),.d (.int .i64 p.len),.aW (9000+i) k]:=by rw[ajD hi];simp
       have hbl:=Zh g (IU rs i) p.es k hp;obtain⟨r,hr0⟩:∃r,IU rs i=r:=⟨_,rfl⟩
       rw[hr0]at hy JL hmg hbl
       have adD:(JX rs.length (IU rs) p.jd p.len fun j=>if j<i then k+1 else k)[i]'(by simp[hi]) = [.d (.int .i64 r),.d (.int .i64 p.jd),.d (.int .i64 p.len),.aW (9000+i) k]:=(List.getElem_eq_iff _).2 hmg;have adJ:rs[i]=r:=by rw[←hr0];simp[IU,hi]
       have hms:((JX rs.length (IU rs) p.jd p.len fun j=>if j<i then k+1 else k).set i [.d (.int .i64 r),.d (.int .i64 p.jd),.d (.int .i64 p.len),.aW (9000+i) (k+1)])=JX rs.length (IU rs) p.jd p.len fun j=>if j<i+1 then k+1 else k:=by
        rw[←hr0,ajE];refine TD fun j hj=>?_
        by_cases e:j=i
        ·subst e;simp
        ·have e2:(j<i+1)=(j<i):=propext ⟨fun h=>by omega,fun h=>by omega⟩;simp[e,e2]
       have hB:Fe g r (p.es.take (k+1))=Fe g r (p.es.take k)++[(xM g r x).cs]:=by rw[ht,afk]
       have hmin:min k p.es.length=k:=by omega
       by_cases c1:r=x.r
       ·have hRc:(xM g r x).cs = [.int .i64 x.id,.sl [[.int .i64 r]]]:=by simp[xM,Rw.cs,c1,ints]
        subst c1;simp -dsimp(maxSteps:=1000000) [hi,adJ,ints,w2,adD,hr0,jS,jT,hmin];refine⟨by omega,by omega,⟨⟨i+1,by omega⟩,GS.to ⟨Sub.qw (n:=rs.length) (fun j hj=>?_) ?_ ?_ ?_,?_⟩,by simp;omega⟩,?_⟩
        ·by_cases e:j=i
         ·subst e;simp(disch:=omega) [hj,hr0,hB,hRc,ints]
         ·have e2:(j<i+1)=(j<i):=propext ⟨fun h=>by omega,fun h=>by omega⟩;simp(disch:=omega) [hj,e,e2]
        ·simp(disch:=omega) [ints,zA,hms]
        ·simp
        ·simp(disch:=omega);exact fun j hj=>by omega
        ·simp
        ·refine BQ.ren (fun p=>if p = .o (9000+i)then .o 9000 else p) ?_
         conv=>lhs;arg 2;simp[yD,jS,jT]
         kernel_rfl
       ·have hcp:=Gi g hg.sm x.r;simp only[h0,decide_true,jq]at hcp;rcases (aA (lF g.rs x.r)).symm with hc|hc
        ·rw[hc]at hcp
         have hRc:(xM g r x).cs = [.int .i64 x.id,.sl []]:=by simp[xM,Rw.cs,show ¬x.r=r from fun h=>c1 h.symm,hc,ints]
         simp -dsimp(maxSteps:=1000000) [hi,adJ,ints,w2,c1,adD,hr0,jS,jT,hmin];refine aI.of hcp [] 0 ?_;simp -dsimp(maxSteps:=1000000) [hi,adJ,ints,w2,c1,adD,hr0,jS,jT,hmin];refine⟨rfl,?_⟩;refine⟨by omega,by omega,⟨⟨i+1,by omega⟩,GS.to ⟨Sub.qw (n:=rs.length) (fun j hj=>?_) ?_ ?_ ?_,?_⟩,by simp;omega⟩,?_⟩
         ·by_cases e:j=i
          ·subst e;simp(disch:=omega) [hj,hr0,hB,hRc,ints]
          ·have e2:(j<i+1)=(j<i):=propext ⟨fun h=>by omega,fun h=>by omega⟩;simp(disch:=omega) [hj,e,e2]
         ·simp(disch:=omega) [ints,zA,hms]
         ·simp
         ·simp(disch:=omega);exact fun j hj=>by omega
         ·simp
         ·refine BQ.ren (fun p=>if p = .o (9000+i)then .o 9000 else p) ?_
          conv=>lhs;arg 2;simp[yD,jS,jT]
          kernel_rfl
        ·rw[hc]at hcp
         have hhp:=akn g h0 r x.r JL (afx hc) c1;simp only[eU]at hhp;have hRc:(xM g r x).cs = [.int .i64 x.id,ints (hops g r x.r)]:=by simp[xM,Rw.cs,show ¬x.r=r from fun h=>c1 h.symm,hc,h0]
         simp -dsimp(maxSteps:=1000000) [hi,adJ,ints,w2,c1,adD,hr0,jS,jT,hmin];refine aI.of hcp [] 0 ?_;simp -dsimp(maxSteps:=1000000) [hi,adJ,ints,w2,c1,adD,hr0,jS,jT,hmin];refine⟨rfl,?_⟩;refine aI.of hhp [] 0 ?_;simp -dsimp(maxSteps:=1000000) [hi,adJ,ints,w2,c1,adD,hr0,jS,jT,hmin]
         refine⟨by omega,by omega,⟨⟨i+1,by omega⟩,GS.to ⟨Sub.qw (n:=rs.length) (fun j hj=>?_) ?_ ?_ ?_,?_⟩,by simp;omega⟩,?_⟩
         ·by_cases e:j=i
          ·subst e;simp(disch:=omega) [hj,hr0,hB,hRc,ints]
          ·have e2:(j<i+1)=(j<i):=propext ⟨fun h=>by omega,fun h=>by omega⟩;simp(disch:=omega) [hj,e,e2]
         ·simp(disch:=omega) [ints,zA,hms]
         ·simp
         ·simp(disch:=omega);exact fun j hj=>by omega
         ·simp
         ·refine BQ.ren (fun p=>if p = .o (9000+i)then .o 9000 else p) ?_
          conv=>lhs;arg 2;simp[yD,jS,jT]
          kernel_rfl
      ·have hiz :¬(i:Int)<rs.length:=by omega
       obtain rfl:i=rs.length:=by omega
       simp -dsimp[hiz,w1];refine⟨⟨k+1,by omega⟩,GS.to ⟨Sub.qw (n:=rs.length) (fun j hj=>?_) ?_ ?_ ?_,?_⟩,by simp;omega⟩
       ·simp(disch:=omega) [hj]
       ·simp(disch:=omega) [TD (n:=rs.length) (f:=fun j=>if j<rs.length then k+1 else k) (f':=fun _=>k+1) (fun i hi=>if_pos hi)]
       ·simp
       ·simp(disch:=omega);exact fun j hj=>by omega
       ·simp
    ·have hkz :¬(k:Int)<p.es.length:=by omega
     obtain rfl:k=p.es.length:=by omega
     rw[lT];simp -dsimp[hkz];refine Fin.ghost (t':=Tr.look [(.s 6,It.v (.aW 7 rs.length)),(.o 7,It.row 105 4 (dd (Gn (rs.map (oU g p)))) false)]) ?_
      ((GS.aj6 (nR:=7) (e0:=105) (z0:=4) (b:=9000) (n:=rs.length) (e:=174) (z:=2) (pre:=mtC (IU rs) p.jd p.len) (xs:=fun i=>Fe g (IU rs i) p.es) (by simp[JX,mtC]) (fun i hi=>by simp[hi]) (by omega)).trans (GS.abI ⟨?_,?_⟩ ?_))
     ·refine Fin.view 6 ?_;simp -dsimp[Gn];refine Fin.of ?_;simp[Gn]
     ·simp only[List.forall_mem_cons,List.not_mem_nil,false_imp_iff,implies_true,and_true];refine⟨?_,?_⟩
      ·rw[amg];simp
      ·rw[ah6,alQ];simp
     ·simp
     ·intro i;rw[amh];simp
theorem aex{p:Pn}(h:oJ p=true):p.es.length≤24:=by
 simp only[oJ,decide_eq_true_eq]at h;have:=h.1;simp[yO,inB]at this
 omega
end Go.Proofs
