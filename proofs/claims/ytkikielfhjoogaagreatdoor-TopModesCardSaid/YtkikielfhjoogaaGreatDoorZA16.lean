/-
  What functions of the program compute, stated as contracts over plain data; the conditions of each stand in its own statement.
-/
import Derived.Test.YtkikielfhjoogaaGreatDoorZA14
import Derived.Test.YtkikielfhjoogaaGreatDoorZA15
import Derived.Test.YtkikielfhjoogaaGreatDoorZA13
import Derived.Test.YtkikielfhjoogaaGreatDoorZA00
import Derived.Test.YtkikielfhjoogaaGreatDoorZA10
set_option linter.unusedSimpArgs false
set_option linter.unusedVariables false
namespace Go.Tr
open Go
section
variable {P:Program} {A:f_} {ops:Array Oper} {L:Log}
theorem TS(L:Log){t:S}{X:Nat→Bool}:∀{m:Nat},L.length≤m→part L X t m=part L X t L.length
 | 0,h=>by
   have:L.length=0:=by omega
   rw[this]
 | m+1,h=>by
   by_cases e:L.length=m+1
   ·rw[e]
   ·rw[part,dX (by omega)];have:=TS L (t:=t) (X:=X) (m:=m) (by omega);split<;>exact this
theorem Yi{t:S}{X:Nat→Bool}(h:∀k,k<L.length→X k=true):∀{m:Nat},m≤L.length→part L X t m=part L (fun _=>true) t m
 | 0,_=>rfl
 | m+1,hm=>by rw[part,part,h m (by omega),Yi h (by omega)]
theorem Kq{Q:Exit→Act→World→Prop}{id:Nat}{t t':S}(hm:P.follows .mixedOrders=true)(c:Chain P A ops 0 t L t')(hl:L.length+1=ops.size)(hd:Fj ops L=true)
  (ha:∀i,i<L.length→i∈(qZ ops.toList []).getD L.length []) (hS:∀a w,Inv A t' a w→wpOp P ops Q L.length (fun a w=>Q .normal a w) a w) (a:Act) (w:World) (hi:Inv A t a w):(Code.region id ops true).wp P Q a w:=by
 have hD:=yS hd;obtain⟨hs,ht'⟩:=c.sums;have hfin:∀(fuel:Nat) (listed:Array Bool),listed.size=ops.size→(∀k,k<ops.size→listed.getD k false=true)→∀a w,Q .normal a w→wpAny P .any ops Q fuel listed a w:=by
  intro fuel listed hsz hall a w hq;have hr:Region.ready .any ops listed = []:=by
   unfold Region.ready;rw[fJ];intro i hi;have hi':i<ops.size:=by simpa using hi
   have h0:=hall i hi';have h2:i<listed.size:=by omega
   have h3:listed.getD i true=true:=by simpa[Array.getD,h2]using h0
   simp[h3]
  cases fuel with
  | zero=>exact⟨hr,hq⟩
  | succ f=>exact⟨fun _=>hq,fun i hi=>by rw[hr]at hi;simp at hi⟩
 have key:∀(fuel:Nat) (listed:Array Bool),listed.size=ops.size→pJ ops (fun i=>listed.getD i false)→todo (fun i=>listed.getD i false) ops.size≤fuel→listed.getD L.length false=false→
   ∀a w,Inv A (part L (fun i=>listed.getD i false) t ops.size) a w→wpAny P .any ops Q fuel listed a w:=by
  intro fuel;have last:∀(listed:Array Bool),listed.size=ops.size→Region.ready .any ops listed = []→∀k,k<ops.size→listed.getD k false=true:=by
   intro listed hsz hr k
   induction k using Nat.strongRecOn with
   | _ k ih=>
     intro hk;rcases hx:listed.getD k false with _|_
     ·exfalso;have hmem:k∈Region.ready .any ops listed:=by
       unfold Region.ready;rw[bK];refine⟨by simp[hk],?_⟩;have ho:ops[k]? = some ops[k]:=eH hk;have hk':k<listed.size:=by omega
       have hx':listed[k]=false:=by simpa[Array.getD,hk']using hx
       simp only[ho,bH,bZ,aG,eF,bJ,fB];refine⟨by simp[Array.getD,hk',hx'],fun e he=>?_⟩;rcases hb:Region.binds .any e with _|_
       ·simp
       ·have hlt:=hD.lt k _ ho e he hb;exact .inr (ih e.on hlt (by omega))
      rw[hr]at hmem;simp at hmem
     ·rfl
  induction fuel with
  | zero=>intro listed hsz hdc hle hlast a w hi;have hall:=Ez (X:=fun i=>listed.getD i false) (n:=ops.size) (by omega);have:=hall L.length (by omega);rw[hlast]at this;simp at this
  | succ fuel ih=>
    intro listed hsz hdc hle hlast a w hi;refine⟨fun hr=>?_,fun i hir=>?_⟩
    ·have:=last listed hsz hr L.length (by omega);rw[hlast]at this;simp at this
    ·unfold Region.ready at hir;rw[bK]at hir
     obtain⟨h1,h2⟩:=hir;have hin:i<ops.size:=by simpa using h1
     have ho:ops[i]? = some ops[i]:=eH hin;have hil:i<listed.size:=by omega
     simp only[ho,bH,bZ,aG,eF,bJ,fB]at h2;obtain⟨h3,h4⟩:=h2;have hxi:listed.getD i false=false:=by simpa[Array.getD,hil]using h3
     have AB:∀e∈(ops[i]).after,Region.binds .any e=true→(fun i=>listed.getD i false) e.on=true:=fun e he hb=>by
      rcases h4 e he with h5|h5
      ·rw[hb]at h5;simp at h5
      ·exact h5
     have hset:(fun j=>(listed.setIfInBounds i true).getD j false)=fun j=>if j=i then true else listed.getD j false:=by
      funext j
      by_cases e:j=i
      ·subst e;simp[Array.getD,hil]
      ·by_cases hj:j<listed.size
       ·simp[Array.getD,hj,e,jO,show ¬i=j from fun h=>e h.symm]
       ·simp[Array.getD,hj,e]
     by_cases hLi:i<L.length
     ·have hLg:L[i]? = some (L[i].1,L[i].2):=aj hLi;have hsum:=hs i _ _ hLg;rw[bT]at hsum
      refine hsum (part L (fun i=>listed.getD i false) t ops.size) (fun p hp=>?_) a w hi _ Q fun a' w' hi'=>?_
      ·obtain⟨g1,g2⟩:=FV (t:=t) hD hdc ho AB hxi hLg (p:=p) (.inl hp);rw[g2 ops.size (by omega) (au _),g1 i (au _)]
      ·refine ih (listed.setIfInBounds i true) (by simpa using hsz) ?_ ?_ ?_ a' w' ?_
       ·rw[hset];intro j o' ho' hxj e he hb;by_cases ej:j=i
        ·subst ej;rw[ho]at ho';simp only[ah]at ho';subst ho'
         have:=AB e he hb;by_cases ee:e.on=j
         ·simp[ee]
         ·simpa[ee]using this
        ·simp only[ej,if_false]at hxj;have:=hdc j o' ho' hxj e he hb;by_cases ee:e.on=i
         ·simp[ee]
         ·simpa[ee]using this
       ·rw[hset];have:=(I9 (X:=fun i=>listed.getD i false) hxi (n:=ops.size)).2 hin;omega
       ·rw[show(listed.setIfInBounds i true).getD L.length false=_ from congrFun hset L.length,if_neg (by omega)];exact hlast
       ·rw[hset,Ej hD hdc hin hxi hLg ops.size (au _),if_pos hin];exact hi'
     ·have hiL:i=L.length:=by omega
      subst hiL;have hpre:=RN hD hdc ho AB;have hall:∀k,k<L.length→(fun i=>listed.getD i false) k=true:=fun k hk=>hpre k (ha k hk)
      have e1:part L (fun i=>listed.getD i false) t ops.size=t':=by rw[TS L (by omega),Yi hall (au _),ht']
      rw[e1]at hi
      refine wpOp_mono (fun a' w' hq=>?_) (hS a w hi);refine hfin fuel _ (by simpa using hsz) (fun k hk=>?_) a' w' hq;rw[show(listed.setIfInBounds L.length true).getD k false=_ from congrFun hset k];by_cases ek:k=L.length
      ·rw[if_pos ek]
      ·rw[if_neg ek];exact hall k (by omega)
 refine wp_region_any hm ?_;have hinit:(fun i=>(Array.replicate ops.size false).getD i false)=fun _=>false:=by
  funext i
  by_cases h:i<ops.size<;>simp[Array.getD,h]
 refine key ops.size (Array.replicate ops.size false) (by simp) ?_ ?_ ?_ a _ ?_
 ·rw[hinit];intro j o _ hx;simp at hx
 ·rw[hinit];have:∀n,todo (fun _=>false) n=n:=fun n=>by induction n with
   | zero=>rfl
   | succ n ih=>simp[todo,ih]
  rw[this];exact au _
 ·exact congrFun hinit L.length
 ·rw[hinit];have:∀n,part L (fun _=>false) t n=t:=fun n=>by induction n with
   | zero=>rfl
   | succ n ih=>rw[part];simpa using ih
  rw[this];obtain⟨E,hw,hE⟩:=hi;subst hw
  let E':En:={E with w:={E.w with drawn:=E.w.drawn+1}}
  have x:oQ E E':=⟨fun _ _ h=>h,fun _ _ _=>rfl,fun _ _ _ h=>h,fun _ _ h=>h,fun _ _ h=>h,fun _ _ c v _ h=>⟨c,v,h,au _,fun _=>rfl⟩⟩
  exact⟨E',rfl,hE.step (hE.h.more x rfl rfl (au _) (fun _ _=>rfl) (fun b o h=>.inl h)) x
   (hE.fr.next rfl rfl rfl (au _) (fun _ _ _ _=>rfl) (fun _=>rfl) (fun _ _ h=>.inl h) (fun _ _ h=>h) (fun _ _ h=>.inl h)) (fun _=>rfl)⟩
end
structure akZ(ops:Array Oper)(L:List (List Pl×List Pl)):Prop where
 ok:NV ops L=true
 last:((List.range L.length).all fun i=>((qZ ops.toList []).getD L.length []).contains i)=true
def ae9(P:Program)(A:f_)(ow:List Nat)(ops:Array Oper)(t:S)(X:S→Prop)(gX:Tg X):Option Oper→Prop
 | none=>False
 | some o=>ajI ow ops.pop=true∧xg P A ow ops ops.pop.toList 0 [] .mk t (fun L t'=>xg P A ow ops [o] (ops.size-1) [] .mk t' (fun _ t''=>X t'') .mk∧(P.follows .mixedOrders=true∧akZ ops (shapes L []))) .mk
def aam(ow:List Nat)(ops:Array Oper):Bool:=match ops.back? with
 | some o=>aaj ow o.op
 | none=>false
def uI(P:Program)(A:f_)(ow:List Nat)(kp:Nat→Bool):Code→(Q:Exit→S→Prop)→Tg Q→S→Prop
 | .skip,Q,_,t=>Q .normal t
 | .label _,Q,_,t=>Q .normal t
 | .seq x y,Q,g,t=>uI P A ow kp x (thn (uI P A ow kp y Q g) Q) .mk t
 | .cond c x y,Q,g,t=>Rz (NM (ev t c)) (uI P A ow kp x Q g t) (uI P A ow kp y Q g t) .mk .mk
 | .block id c,Q,_,t=>uI P A ow kp c (UG id Q) .mk t
 | .exit id,Q,_,t=>Q (.exit id) t
 | .goto l,Q,_,t=>Q (.goto l) t
 | .ret,Q,_,t=>Q .ret t
 | .region _ ops draw,Q,_,t=>QD (draw&&aam ow ops) (ae9 P A ow ops t (fun t'=>Q .normal (kept kp t')) .mk ops.back?)
   (ae8 ow ops (xg P A ow ops ops.toList 0 [] .mk t (fun L t'=>aiB P ops L (Q .normal (kept kp t')) draw) .mk) draw) .mk .mk
 | .loop c,Q,g,t=>dD P A c Q g t
 | .scope c,Q,_,t=>uI P A ow kp c (aj3 Q) .mk t
 | _,_,_,_=>False
section
variable {P:Program} {A:f_}
theorem aaO{ow:List Nat}{ops:Array Oper}{t:S}{X:S→Prop}{gX:Tg X}{Q:Exit→Act→World→Prop}{id:Nat}(h:ae9 P A ow ops t X gX ops.back?)(hX:∀t' a w,X t'→Inv A t' a w→Q .normal a w)(a:Act)(w:World)(hi:Inv A t a w):(Code.region id ops true).wp P Q a w:=by
 cases hb:ops.back? with
 | none=>rw[hb]at h;exact h.elim
 | some o=>
   rw[hb]at h
   obtain⟨hn,h⟩:=h;have hpos:0<ops.size:=by
    rcases jA ops.size with h0|h0
    ·rw[Array.back?_eq_getElem?,Array.getElem?_eq_none (by omega)]at hb;simp at hb
    ·exact h0
   have hbo:ops[ops.size-1]? = some o:=by rw[←Array.back?_eq_getElem?];exact hb
   obtain⟨L,t',h1,h2,h3,h4,h5⟩:=xg.sound (ops:=ops) (fun o ho=>by
    have:=bM.1 hn o ho;simpa using this) (fun j o h=>by
    rw[bT];simp only[Array.getElem?_toList,Array.getElem?_pop]at h;split at h
    ·exact h
    ·simp at h) h
   have hLn:L.length+1=ops.size:=by simp only[gK,Array.size_pop]at h2;omega
   have as9:ops.size-1=L.length:=by omega
   simp only[bQ]at h5;have h6:=G7 h5.ok;rw[Am,jE]at h6
   have hsh:(shapes L.reverse []).length=L.length:=by rw[Ae];simp
   refine Kq h4 h1 hLn h6 (fun i hi=>?_) (fun a w hi'=>?_) a w hi
   ·have:=bM.1 h5.last i (by rw[hsh];exact bI.2 hi);rw[hsh]at this
    simpa using this
   ·have:=xg.wps (Q:=Q) (ops:=ops) (l:=[o]) (i:=ops.size-1) (fun j=>by
     cases j with
     | zero=>simp[hbo]
     | succ j=>simp[Array.getElem?_eq_none,show ops.size≤ops.size-1+(j+1) by omega]) h3 (fun L t'' h a w hi=>hX t'' a w h hi) a w hi'
    simp only[aH,dh,lS,List.range'_zero]at this;rw[wpOps_cons,as9]at this
    exact this
theorem uI.sound{ow:List Nat}{kp:Nat→Bool}:∀{c:Code} {Q:Exit→S→Prop} {g:Tg Q} {t:S},uI P A ow kp c Q g t→AW P A c Q t
 | .skip,Q,_,t,h=>fun a w hi=>wp_skip ⟨t,hi,by simpa only[uI]using h⟩
 | .label _,Q,_,t,h=>fun a w hi=>wp_label ⟨t,hi,by simpa only[uI]using h⟩
 | .seq x y,Q,_,t,h=>fun a w hi=>by
   simp only[uI]at h;refine wp_seq (Code.wp_mono (fun e a w ⟨t',h1,h2⟩=>?_) (uI.sound (c:=x) h a w hi));cases e<;>first
    | exact uI.sound (c:=y) h2 a w h1
    | exact⟨t',h1,h2⟩
 | .cond c x y,Q,_,t,h=>fun a w hi=>by
   simp only[uI]at h;obtain⟨E,hw,hE⟩:=hi;have hr:=bP hE c;unfold NM at h;split at h
   ·rename_i b hb;rw[hb]at hr
    simp only[aP,Rep]at hr;unfold Rz at h;cases b
    ·exact wp_cond_false hr (uI.sound (c:=y) (h.no rfl) a w ⟨E,hw,hE⟩)
    ·exact wp_cond_true hr (uI.sound (c:=x) (h.yes rfl) a w ⟨E,hw,hE⟩)
   ·exact h.elim
 | .block id c,Q,_,t,h=>fun a w hi=>by
   simp only[uI]at h;refine wp_block (Code.wp_mono (fun e a w ⟨t',h1,h2⟩=>?_) (uI.sound (c:=c) h a w hi));cases e<;>first
    | exact⟨t',h1,h2⟩
    | (simp only[Exit.inBlock]
       simp only[UG]at h2;split
       ·rename_i he;rw[if_pos he]at h2;exact⟨t',h1,h2⟩
       ·rename_i he;rw[if_neg he]at h2;exact⟨t',h1,h2⟩)
 | .exit id,Q,_,t,h=>fun a w hi=>wp_exit ⟨t,hi,by simpa only[uI]using h⟩
 | .goto l,Q,_,t,h=>fun a w hi=>wp_goto ⟨t,hi,by simpa only[uI]using h⟩
 | .ret,Q,_,t,h=>fun a w hi=>wp_ret ⟨t,hi,by simpa only[uI]using h⟩
 | .region id ops draw,Q,_,t,h=>fun a w hi=>by
   simp only[uI]at h;cases hc:(draw&&aam ow ops)
   ·rw[hc,oZ]at h
    exact iC.sound (c:=.region id ops draw) (Q:=Q) (g:=.mk) (ow:=ow) (kp:=kp) (by simpa only[iC]using h) a w hi
   ·rw[hc,tJ]at h
    simp only[aG]at hc;obtain⟨rfl,_⟩:=hc;exact aaO h (fun t' a w hx hi'=>⟨_,hi'.kept kp,hx⟩) a w hi
 | .loop c,Q,_,t,h=>by simp only[uI]at h;exact h.aw
 | .rangeFunc ..,_,_,_,h=>by simp only[uI]at h
 | .scope c,Q,_,t,h=>fun a w hi=>by
   simp only[uI]at h;refine wp_scope_straight (Code.wp_mono (fun e a w ⟨t',h1,h2⟩=>?_) (uI.sound (c:=c) h a w hi));cases e<;>first
    | exact⟨t',h1,h2⟩
    | exact h2.elim
 | .refuse _,_,_,_,h=>by simp only[uI]at h
theorem dD.ofL{ι:Type}{c:Code}{Q:Exit→S→Prop}{g:Tg Q}{t:S}(ow:List Nat)(kp:Nat→Bool)(st:ι→List (Pl×It))(μ:ι→Nat)(i0:ι)(h0:GS A t (look (st i0)))
  (round:∀i,uI P A ow kp c (thn (akz A st μ (μ i) .mk .mk) Q) .mk (look (st i))):dD P A c Q g t:=
 ⟨AW.loop (fun i=>look (st i)) μ i0 h0 fun i=>(uI.sound (round i)).mono fun e t h=>by cases e<;>first|exact h.ex|exact h⟩
end
attribute [simp] uI ae9 aam
end Go.Tr

namespace Go.Tr
open Go
def qw(b n:Nat)(f:Nat→It)(l:List (Pl×It)):List (Pl×It):=(List.range n).map (fun i=>(Pl.o (b+i),f i))++l
theorem uV{b:Nat}{f:Nat→It}{l:List (Pl×It)}{p:Pl}:∀{ks:List Nat},(∀i∈ks,p≠.o (b+i))→look (ks.map (fun i=>(Pl.o (b+i),f i))++l) p=look l p
 | [],_=>rfl
 | k::ks,h=>by rw[aC,bg,look,if_neg (h k (by simp))];exact uV fun i hi=>h i (by simp[*])
theorem KP{b:Nat}{f:Nat→It}{l:List (Pl×It)}{i:Nat}:∀{ks:List Nat},i∈ks→look (ks.map (fun i=>(Pl.o (b+i),f i))++l) (.o (b+i))=f i
 | [],h=>by trivial
 | k::ks,h=>by
   rw[aC,bg,look];by_cases e:i=k
   ·simp[*]
   ·rw[if_neg (by simp[*])];exact KP (by simp_all)
theorem uY{b:Nat}{f:Nat→It}{l:List (Pl×It)}{p:Pl}{v:It}:∀{ks:List Nat},(∀i∈ks,p≠.o (b+i))→jL p v (ks.map (fun i=>(Pl.o (b+i),f i))++l)=ks.map (fun i=>(Pl.o (b+i),f i))++jL p v l
 | [],_=>rfl
 | k::ks,h=>by rw[aC,bg,jL,if_neg (h k (by simp)),uY fun i hi=>h i (by simp[*])];rfl
theorem K_{b:Nat}{f:Nat→It}{l:List (Pl×It)}{v:It}{i:Nat}:∀{ks:List Nat},i∈ks→ks.Nodup→jL (.o (b+i)) v (ks.map (fun i=>(Pl.o (b+i),f i))++l)=ks.map (fun j=>(Pl.o (b+j),if j=i then v else f j))++l
 | [],h,_=>by trivial
 | k::ks,h,nd=>by
   have nd':=bG.1 nd;rw[aC,bg,jL,aC,bg];by_cases e:i=k
   ·subst e;rw[if_pos rfl,if_pos rfl]
    congr 2
    refine gU fun j hj=>?_
    grind
   ·rw[if_neg (by simp[*]),if_neg (fun h=>e h.symm),K_ (by simp_all) nd'.2]
variable {b n:Nat} {f:Nat→It} {l:List (Pl×It)}
theorem aaq(k:Nat):look (qw b n f l) (.s k)=look l (.s k):=uV (by simp)
theorem aar(k:Nat):look (qw b n f l) (.x k)=look l (.x k):=uV (by simp)
theorem aap{k:Nat}(h:k<b):look (qw b n f l) (.o k)=look l (.o k):=uV (by grind)
theorem KO{k:Nat}(h:b+n≤k):look (qw b n f l) (.o k)=look l (.o k):=uV (by grind)
theorem CZ{i:Nat}(h:i<n):look (qw b n f l) (.o (b+i))=f i:=KP (bI.2 h)
theorem aaK(k:Nat)(v:It):jL (.s k) v (qw b n f l)=qw b n f (jL (.s k) v l):=uY (by simp)
theorem aaL(k:Nat)(v:It):jL (.x k) v (qw b n f l)=qw b n f (jL (.x k) v l):=uY (by simp)
theorem F8{k:Nat}(v:It)(h:k<b):jL (.o k) v (qw b n f l)=qw b n f (jL (.o k) v l):=uY (by grind)
theorem Yr{k:Nat}(v:It)(h:b+n≤k):jL (.o k) v (qw b n f l)=qw b n f (jL (.o k) v l):=uY (by grind)
theorem Yq{i:Nat}(v:It)(h:i<n):jL (.o (b+i)) v (qw b n f l)=qw b n (fun j=>if j=i then v else f j) l:=K_ (bI.2 h) List.nodup_range
theorem zF{P:Pl×It→Prop}:(∀x∈qw b n f l,P x)↔(∀i,i<n→P (.o (b+i),f i))∧∀x∈l,P x:=by
 unfold qw
 grind
theorem adf{P:Pl→It→Prop}:(∀p i,(p,i)∈qw b n f l→P p i)↔(∀i,i<n→P (.o (b+i)) (f i))∧∀p i,(p,i)∈l→P p i:=by
 have h:=zF (b:=b) (n:=n) (f:=f) (l:=l) (P:=fun x=>P x.1 x.2)
 simp_all
theorem Iq:∀(a c:List (Pl×It)),oz (a++c)=oz a++oz c
 | [],_=>rfl
 | (.o k,i)::a,c=>by simp[oz,Iq a c]
 | (.s k,i)::a,c=>by simp[oz,Iq a c]
 | (.x k,i)::a,c=>by simp[oz,Iq a c]
theorem Je:∀(a c:List (Pl×It)),lu (a++c)=lu a++lu c
 | [],_=>rfl
 | (.o k,i)::a,c=>by simp[lu,Je a c]
 | (.s k,i)::a,c=>by simp[lu,Je a c]
 | (.x k,i)::a,c=>by simp[lu,Je a c]
theorem D_(kp:Nat→Bool):∀(a c:List (Pl×It)),pY kp (a++c)=pY kp a++pY kp c
 | [],_=>rfl
 | (.o k,i)::a,c=>by simp[Vg,D_ kp a c]
 | (.s k,i)::a,c=>by
   simp only[bg,ab3,D_ kp a c]
   grind
 | (.x k,i)::a,c=>by simp[ab4,D_ kp a c]
theorem Yf(b:Nat)(f:Nat→It):∀ks:List Nat,oz (ks.map fun i=>(Pl.o (b+i),f i))=ks.map (b + ·)
 | []=>rfl
 | k::ks=>by simp[oz,Yf b f ks]
theorem Y1(b:Nat)(f:Nat→It):∀ks:List Nat,lu (ks.map fun i=>(Pl.o (b+i),f i)) = []
 | []=>rfl
 | k::ks=>by simp[lu,Y1 b f ks]
theorem Tm(kp:Nat→Bool)(b:Nat)(f:Nat→It):∀ks:List Nat,pY kp (ks.map fun i=>(Pl.o (b+i),f i))=ks.map fun i=>(Pl.o (b+i),f i)
 | []=>rfl
 | k::ks=>by simp[Vg,Tm kp b f ks]
theorem ahb{k:Nat}:k∈oz (qw b n f l)↔(b≤k∧k<b+n)∨k∈oz l:=by
 rw[qw,Iq,Yf,aN];refine or_congr ?_ Iff.rfl;rw[ak];constructor
 ·grind
 ·intro h;exact⟨k-b,bI.2 (by omega),by omega⟩
theorem aiA:lu (qw b n f l)=lu l:=by rw[qw,Je,Y1,dJ]
theorem adY(kp:Nat→Bool):pY kp (qw b n f l)=qw b n f (pY kp l):=by rw[qw,D_,Tm,qw]
theorem Xl:qw b (n+1) f l=qw b n f ((.o (b+n),f n)::l):=by simp[qw,jI]
theorem Ol:qw b 0 f l=l:=rfl
theorem Yu{a c:Nat}(h:a<b):Kr a c (qw b n f l)=qw b n (fun i=>xw a c (f i)) (Kr a c l):=by
 unfold Kr qw;rw[gu,aY]
 congr 1
 refine gU fun i _=>?_
 simp only[Function.comp,BN,aO,and_true];simp only[uo,if_neg (show ¬b+i=a by omega)]
theorem Yv(a c:Nat):Kr a c [] = []:=rfl
theorem Ug(a c:Nat)(x:Pl×It)(l:List (Pl×It)):Kr a c (x::l)=(BN a c x.1,xw a c x.2)::Kr a c l:=rfl
theorem jS{a i k:Nat}(h:k<a):¬a+i=k:=by omega
theorem jT{a i k:Nat}(h:k<a):¬k=a+i:=by omega
theorem IL(po:Nat→Prop)(n:Nat)(x:D):lH po (List.replicate n [TV.d x])=True:=by simp only[lH,eq_iff_iff,iff_true];simp
theorem Sub.qw{t:S}(h1:∀j,j<n→f j=t (.o (b+j)))(h2:∀x∈l,look (Tr.qw b n f l) x.1=t x.1)(h3:∀j,j<n→(f j).only (· ∈oz (Tr.qw b n f l)))(h4:∀x∈l,x.2.only (· ∈oz (Tr.qw b n f l))):Sub t (Tr.qw b n f l):=
 ⟨zF.2 ⟨fun j hj=>by grind[CZ],h2⟩,zF.2 ⟨h3,h4⟩⟩
attribute [simp] aaq aar aap KO CZ aaK aaL F8 Yr Yq zF adf ahb aiA adY
end Go.Tr

namespace Go.Tr
open Go
section
variable {A:f_}
theorem OY{E:En}{v v':TV}(hr:∀u,aP E v u→aP E v' u){k:List Int}:∀{es:List (List Int×TV)} {i:Nat} {l:List MapEntry},es[i]? = some (k,v)→jW E es l→jW E (es.set i (k,v')) l
 | [],_,_,h,_=>by trivial
 | x::es,0,l,h,hm=>by grind[jW]
 | (k',w)::es,i+1,l,h,hm=>by obtain⟨a,l',h1,h2,h3,h4⟩:=hm;exact⟨a,l',h1,h2,h3,OY hr h h4⟩
theorem eY.aas{t:S}{a:Act}{E:En}{id c:Nat}{es es':List (List Int×TV)}{pd:Option (List Int)}{s:Option jB}(hi:eY A t a E)(ht:t (.o id) = .fO es c pd s)(hrel:∀l',jW E es l'→∃l2,l2.Perm l'∧jW E es' l2):
  eY A (upd t (.o id) (.fO es' c pd s)) a E:=by
 refine⟨⟨fun q hq=>?_,hi.h.frees,hi.h.inj,hi.h.size,hi.h.o_,fun b o h1 q h2=>?_,hi.h.gl⟩,hi.fr,fun j tv hj=>?_,hi.defers,hi.size⟩
 ·by_cases eq:q = .o id
  ·subst eq;have h:=hi.h.item (.o id) hq;rw[ht]at h
   simp only[upd,if_true];obtain⟨id',b,l,clock,l',ty,v,h1,h2,h3,h4,h5,h6,h7,h8,h9⟩:=h;obtain⟨l2,g1,g2⟩:=hrel l' h5;exact⟨id',b,l,clock,l2,ty,v,h1,h2,h3,g1.trans h4,g2,h6,h7,h8,h9⟩
  ·simp only[upd,if_neg eq];exact hi.h.item q hq
 ·obtain⟨e2,k2,es2,h3,h4⟩:=hi.h.sep b o h1 q h2;have eq:q≠.o id:=by grind
  exact⟨e2,k2,es2,by simp only[upd,if_neg eq];omega,h4⟩
 ·exact hi.sl j tv hj
theorem GS.aoV{t:S}{nR c:Nat}{es:List (List Int×TV)}{pd:Option (List Int)}{s:Option jB}{i id:Nat}{k:List Int}(e z:Nat)(h0:t (.o nR) = .fO es c pd s)(hi:es[i]? = some (k,.c (.slice none 0 0)))(ho:t (.o id) = .none):
  GS A t (upd (upd t (.o id) (.row e z [] false)) (.o nR) (.fO (es.set i (k,.aW id 0)) c pd s)):=fun a w ⟨E,hw,hE⟩=>by
 obtain⟨E',hw',x,hi',hv⟩:=hE.newRow ho e z;have hne:nR≠id:=by grind
 refine⟨E',hw'.trans hw,hi'.aas (es:=es) (by simp only[upd,Pl.o.injEq,if_neg hne];omega) fun l' hl=>⟨l',.refl _,OY (fun u hu=>?_) hi hl⟩⟩;simp only[aP]at hu⊢;simp[*]
theorem GS.atI{t:S}{nR c:Nat}{es:List (List Int×TV)}{pd:Option (List Int)}{s:Option jB}{i id n e z:Nat}{rs:List (List TV)}{sh:Bool}{xs:List (List D)}{k:List Int}(h0:t (.o nR) = .fO es c pd s)(hi:es[i]? = some (k,.aW id n))(ht:t (.o id) = .row e z rs sh)(hn:n=rs.length)(hx:jX rs=some xs):
  GS A t (upd (upd t (.o id) (.row e z rs true)) (.o nR) (.fO (es.set i (k,.d (.sl xs))) c pd s)):=fun a w ⟨E,hw,hE⟩=>by
 obtain⟨E',hw',x,hb,hv,hi',hr',_⟩:=hE.freeze ht hx;have hne:nR≠id:=by grind
 refine⟨E',hw'.trans hw,hi'.aas (es:=es) (by simp only[upd,Pl.o.injEq,if_neg hne];omega) fun l' hl=>⟨l',.refl _,OY (fun u hu=>?_) hi hl⟩⟩
 grind[aP]
theorem ad4{E:En}{es es':List (List Int×TV)}(h:es.Perm es'):∀{l:List MapEntry},jW E es l→∃l2,l2.Perm l∧jW E es' l2:=by
 induction h with
 | nil=>intro l h;exact⟨l,.refl _,h⟩
 | @cons x l1 l2 hp ih=>intro l h;obtain⟨a,l',rfl,h2,h3,h4⟩:=h;obtain⟨m,hm,hk⟩:=ih h4;exact⟨a::m,hm.cons a,by simp only[jW];simp[*]⟩
 | swap x y l1=>intro l h;obtain⟨a,l',rfl,h2,h3,b,l'',rfl,h5,h6,h7⟩:=h;exact⟨b::a::l'',List.Perm.swap _ _ _,by simp only[jW];simp[*]⟩
 | trans _ _ ih1 ih2=>intro l h;obtain⟨m,h1,h2⟩:=ih1 h;obtain⟨m2,h3,h4⟩:=ih2 h2;exact⟨m2,h3.trans h1,h4⟩
theorem GS.aoX{t:S}{nR c:Nat}{es es':List (List Int×TV)}{pd:Option (List Int)}{s:Option jB}(h0:t (.o nR) = .fO es c pd s)(hp:es.Perm es'):GS A t (upd t (.o nR) (.fO es' c pd s)):=fun a w ⟨E,hw,hE⟩=>⟨E,hw,hE.aas h0 fun l' hl=>ad4 hp hl⟩
theorem GS.ahs{l l':List (Pl×It)}(nR:Nat){c:Nat}{es es':List (List Int×TV)}{pd:Option (List Int)}{s:Option jB}(h0:look l (.o nR) = .fO es c pd s)(hp:es.Perm es')
  (h:Sub (look (jL (.o nR) (.fO es' c pd s) l)) l'∧lu l'=lu (jL (.o nR) (.fO es' c pd s) l)):GS A (look l) (look l'):=by
 have:=GS.aoX (A:=A) h0 hp;rw[je]at this
 exact this.trans (GS.forget h.1 h.2)
end
def nT(n b:Nat)(k:Nat→List Int)(f:Nat→Nat):List (List Int×TV):=(List.range n).map fun i=>(k i,.aW (b+i) (f i))
theorem O4{n b:Nat}{k:Nat→List Int}{f:Nat→Nat}(hk:∀i j,i<n→j<n→k i=k j→i=j){i:Nat}(hi:i<n):kJ (nT n b k f) (k i)=some (.aW (b+i) (f i)):=by
 refine XL ?_ (ak.2 ⟨i,bI.2 hi,rfl⟩)
 grind[nT,List.Pairwise.imp_of_mem,List.nodup_range]
theorem XM{k:Nat→List Int}{f:Nat→TV}{v:TV}{i:Nat}:∀{ks:List Nat},i∈ks→(∀a∈ks,∀c∈ks,k a=k c→a=c)→ks.Nodup→oq (ks.map fun i=>(k i,f i)) (k i) v=ks.map fun j=>(k j,if j=i then v else f j)
 | [],h,_,_=>by trivial
 | a::ks,h,hk,nd=>by
   have nd':=bG.1 nd;rw[aC,oq,aC];by_cases e:i=a
   ·subst e;rw[if_pos rfl,if_pos rfl]
    congr 1
    refine gU fun j hj=>?_
    grind
   ·rw[if_neg (fun g=>e (hk i h a (by simp) g)),if_neg (fun h=>e h.symm)]
    congr 1
    exact XM (by simp_all) (fun x hx y hy=>hk x (by simp[*]) y (by simp[*])) nd'.2
theorem XY{n b:Nat}{k:Nat→List Int}{f:Nat→Nat}(hk:∀i j,i<n→j<n→k i=k j→i=j){i m:Nat}(hi:i<n):oq (nT n b k f) (k i) (.aW (b+i) m)=nT n b k fun j=>if j=i then m else f j:=by
 unfold nT;rw[XM (bI.2 hi) (fun a ha c hc=>hk a c (bI.1 ha) (bI.1 hc)) List.nodup_range]
 grind
theorem ad8(n b:Nat)(k:Nat→List Int)(f:Nat→Nat):nT (n+1) b k f=nT n b k f++[(k n,.aW (b+n) (f n))]:=by simp[nT,jI]
end Go.Tr

namespace Go.Tr
open Go
theorem GS.clk{A:f_}{t:S}{id c c':Nat}{es:List (List Int×TV)}{pd:Option (List Int)}{s:Option jB}(ht:t (.o id) = .fO es c pd s)(hc:c≤c'):GS A t (upd t (.o id) (.fO es c' none none)):=fun a w ⟨E,hw,hi⟩=>by
 obtain⟨b,l,clock,l',ty,v,hb,hg,hp,hrel,hs,hval,_⟩:=yh hi ht;obtain⟨E',hw',_,hi',_⟩:=hi.KN (l2:=l) (clock2:=clock) (c':=c') (v':=v) (pd':=none) ht hb hg hval hp hrel hs hc (fun _=>rfl) trivial;refine⟨E',?_,hi'⟩;rw[hw',←hw];have:E.w.heap.setIfInBounds b (.map l clock)=E.w.heap:=by
  apply Array.ext (by simp);intro i h1 h2;rw[jO];split
  ·rename_i e;subst e;rw[eH h2]at hg
   exact(Option.some.inj hg).symm
  ·rfl
 rw[this]
theorem GS.ado{A:f_}{l l':List (Pl×It)}(id c':Nat){c:Nat}{es:List (List Int×TV)}{pd:Option (List Int)}{s:Option jB}(ht:look l (.o id) = .fO es c pd s)(hc:c≤c')
  (h:Sub (look (jL (.o id) (.fO es c' none none) l)) l'∧lu l'=lu (jL (.o id) (.fO es c' none none) l)):GS A (look l) (look l'):=by
 have:=GS.clk (A:=A) ht hc;rw[je]at this
 exact this.trans (GS.forget h.1 h.2)
theorem Tq:∀(es:List (List Int×TV)) (k:List Int) (v v':TV),oq (oq es k v) k v'=oq es k v'
 | [],k,v,v'=>by simp[oq]
 | (a,x)::es,k,v,v'=>by
   have ih:=Tq es k v v';by_cases h:k=a
   ·simp[oq,h]
   ·simp[oq,h,ih]
end Go.Tr

set_option maxRecDepth 100000
set_option maxHeartbeats 16000000
namespace Go.Proofs
open Go Go.Tr
def tY(l:List (Int×Int)):List (List Int×TV):=l.map fun x=>([x.1],TV.d (.int .i64 x.2))
def sF(l:List (Int×Int×Int)):List (List Int×TV):=l.map fun x=>([x.1],TV.agg [.d (.int .i64 x.2.1),.d (.int .i64 x.2.2)])
def nX{α:Type}(l:List (Int×α))(r:Int):Option α:=(l.find? fun x=>decide (x.1=r)).map (·.2)
theorem ML:∀(l:List (Int×Int)) (r:Int),kJ (tY l) [r]=(nX l r).map fun c=>TV.d (.int .i64 c)
 | [],_=>rfl
 | x::l,r=>by
   have ih:=ML l r;simp only[tY]at ih;by_cases h:x.1=r
   ·simp[tY,nX,kJ,h]
   ·have h' :¬r=x.1:=fun e=>h e.symm
    simp[tY,nX,kJ,h,h',fQ]at ih⊢
    exact ih
theorem MN(l:List (Int×Int)):rQ 1 (tY l):=by simp only[tY,rQ,ak];rintro x ⟨y,_,rfl⟩;rfl
@[simp]theorem aqU{po:Nat→Prop}{l:List (Int×Int)}{c:Nat}{pd:Option (List Int)}{s:Option jB}:It.only po (It.fO (tY l) c pd s):=by
 intro x hx;obtain⟨y,_,rfl⟩:=ak.1 hx
 trivial
@[simp]theorem aqW{po:Nat→Prop}{l:List (Int×Int×Int)}{c:Nat}{pd:Option (List Int)}{s:Option jB}:It.only po (It.fO (sF l) c pd s):=by intro x hx;obtain⟨y,_,rfl⟩:=ak.1 hx;simp[TV.only,TV.rJ]
@[simp]theorem amW(ν:List Pl)(rs:List (Nat×Nat))(l:List (Int×Int)):vX ν rs (tY l)=some (tY l):=AY ν rs (fun x:Int×Int=>[x.1]) (fun x=>D.int .i64 x.2) l
@[simp]theorem aev(ν:List Pl)(rs:List (Nat×Nat)):∀l:List (Int×Int×Int),vX ν rs (sF l)=some (sF l)
 | []=>rfl
 | x::l=>by have:=aev ν rs l;simp only[sF]at this;simp[sF,vX,TV.xH,TV.oW,this]
@[simp]theorem apg(ν:List Pl)(b:Nat)(l:List (Int×Int)):((tY l).map fun x=>(x.1,x.2.back ν b))=tY l:=by simp[tY,aY,TV.back]
@[simp]theorem arx(a b:Nat)(l:List (Int×Int)):((tY l).map fun x=>(x.1,x.2.ren a b))=tY l:=by simp[tY,aY,TV.ren]
@[simp]theorem aq1(ν:List Pl)(b:Nat)(l:List (Int×Int×Int)):((sF l).map fun x=>(x.1,x.2.back ν b))=sF l:=by simp[sF,aY,TV.back,TV.backs]
@[simp]theorem auA(a b:Nat)(l:List (Int×Int×Int)):((sF l).map fun x=>(x.1,x.2.ren a b))=sF l:=by simp[sF,aY,TV.ren,TV.vH]
def oD(a:Ar):List D:=[.int .i64 a.f,.int .i64 a.t,.int .i64 a.c]
theorem aq8(A:List Ar)(C S:List (List D))(n:Nat)(hC:C.length=n)(hS:S.length=n)(hn:n≤1000)(E1:List (Int×Int))(E2:List (Int×Int×Int))(c1 c2:Nat)(r:Int):
  nH Tryz.prog 118 [.ptr (.x 0) 0,.d (.int .i64 n),.d (.int .i64 r)] [.box [.d (.sl (A.map oD)),.aW 900 (n+1),.aW 901 (n+1)]] [(900,.row 200 1 (dd C++[[.mref 902]]) false),(901,.row 224 1 (dd S++[[.mref 903]]) false),(902,.fO (tY E1) c1 none none),(903,.fO (sF E2) c2 none none)]
   (.d (.int .i64 ((nX E1 r).getD uO))) [.box [.d (.sl (A.map oD)),.aW 900 (n+1),.aW 901 (n+1)]] [(900,.row 200 1 (dd C++[[.mref 902]]) false),(901,.row 224 1 (dd S++[[.mref 903]]) false),(902,.fO (tY E1) c1 none none),(903,.fO (sF E2) c2 none none)]:=by
 have hg:=ML E1 r;have hk:=MN E1;refine kD Tryz.func118 rfl (fun E0=>?_);refine iC.sound (g:=.mk) (ow:=[]) (kp:=(kb 0x2001c7)) ?_;rw[Tryz.ntmps118];cases he:nX E1 r with
 | none=>
   rw[he]at hg
   simp -dsimp[hg,hk,hC,hS];and_intros;all_goals try first|rfl|omega|exact⟨by kernel_rfl⟩
   refine Fin.of ?_;simp[uO]
 | some v=>
   rw[he]at hg
   simp -dsimp[hg,hk,hC,hS];and_intros;all_goals try first|rfl|omega|exact⟨by kernel_rfl⟩
   refine Fin.of ?_;simp
def yJ{α:Type}:List (Int×α)→Int→α→List (Int×α)
 | [],k,v=>[(k,v)]
 | x::l,k,v=>if k=x.1 then(k,v)::l else x::yJ l k v
theorem OE{α:Type}:∀(l:List (Int×α)) (k:Int) (v:α) (x:Int),nX (yJ l k v) x=if x=k then some v else nX l x
 | [],k,v,x=>by
   by_cases h:k=x
   ·simp[yJ,nX,h]
   ·have h' :¬x=k:=fun e=>h e.symm
    simp[yJ,nX,h,h']
 | y::l,k,v,x=>by
   have ih:=OE l k v x;by_cases hk:k=y.1
   ·by_cases h:k=x
    ·simp[yJ,nX,hk,←h]
    ·have h' :¬x=k:=fun e=>h e.symm
     simp[yJ,nX,hk]at h h'⊢
     simp[h,h',fQ]
   ·by_cases h:y.1=x
    ·have h' :¬x=k:=fun e=>hk (by rw[h,e])
     have h2 :¬k=x:=fun e=>h' e.symm
     simp[yJ,nX,h,h',h2,fQ]
    ·simp only[yJ,if_neg hk,nX,fQ,h,decide_false]at ih⊢;exact ih
theorem acd:∀(l:List (Int×Int)) (k v:Int),oq (tY l) [k] (TV.d (.int .i64 v))=tY (yJ l k v)
 | [],_,_=>rfl
 | x::l,k,v=>by
   have ih:=acd l k v;simp only[tY]at ih;by_cases h:k=x.1
   ·simp[tY,oq,yJ,h]
   ·simp[tY,oq,yJ,h,ih]
theorem ace:∀(l:List (Int×Int×Int)) (k:Int) (v:Int×Int),oq (sF l) [k] (TV.agg [.d (.int .i64 v.1),.d (.int .i64 v.2)])=sF (yJ l k v)
 | [],_,_=>rfl
 | x::l,k,v=>by
   have ih:=ace l k v;simp only[sF]at ih;by_cases h:k=x.1
   ·simp[sF,oq,yJ,h]
   ·simp[sF,oq,yJ,h,ih]
theorem ab8(l:List (Int×Int×Int)):rQ 1 (sF l):=by simp only[sF,rQ,ak];rintro x ⟨y,_,rfl⟩;rfl
def Ry(E:List (Int×Int)×List (Int×Int×Int))(r c:Int)(x:Int×Int):List (Int×Int)×List (Int×Int×Int):=if(nX E.1 r).getD uO≤c then E else(yJ E.1 r c,yJ E.2 r x)
theorem V9(E:List (Int×Int)×List (Int×Int×Int))(r c:Int)(x:Int×Int):((nX (Ry E r c x).1,nX (Ry E r c x).2):CM×SM)=yL (nX E.1,nX E.2) r c x:=by
 unfold Ry yL lC;simp only;split
 ·rfl
 ·simp only[yM]
  congr 1
  ·funext q;exact OE _ _ _ _
  ·funext q;exact OE _ _ _ _
theorem aix(A:List Ar)(C S:List (List D))(n:Nat)(hC:C.length=n)(hS:S.length=n)(hn:n≤1000)(E:List (Int×Int)×List (Int×Int×Int))(c1 c2:Nat)(r c:Int)(u p:Int):
  nH Tryz.prog 117 [.ptr (.x 0) 0,.d (.int .i64 n),.d (.int .i64 r),.d (.int .i64 c),.agg [.d (.int .i64 u),.d (.int .i64 p)]] [.box [.d (.sl (A.map oD)),.aW 900 (n+1),.aW 901 (n+1)]] [(900,.row 200 1 (dd C++[[.mref 902]]) false),(901,.row 224 1 (dd S++[[.mref 903]]) false),(902,.fO (tY E.1) c1 none none),(903,.fO (sF E.2) c2 none none)]
   (.d (.bool (decide (c<(nX E.1 r).getD uO)))) [.box [.d (.sl (A.map oD)),.aW 1900 (n+1),.aW 1901 (n+1)]] [(1900,.row 200 1 (dd C++[[.mref 1902]]) false),(1901,.row 224 1 (dd S++[[.mref 1903]]) false),(1902,.fO (tY (Ry E r c (u,p)).1) (c1+1) none none),(1903,.fO (sF (Ry E r c (u,p)).2) (c2+1) none none)]:=by
 obtain⟨E1,E2⟩:=E;simp only;have hat:=aq8 A C S n hC hS hn E1 E2 c1 c2 r;have hk:=MN E1;have hk2:=ab8 E2;have hp1:=acd E1 r c;have hp2:=ace E2 r (u,p);simp only at hp2;have hok:dB Tryz.prog 118=true:=by kernel_rfl
 refine kD Tryz.func117 rfl (fun E0=>?_);refine iC.sound (g:=.mk) (ow:=[5000118]) (kp:=(kb 0x1061f)) ?_;rw[Tryz.ntmps117];simp -dsimp;refine oG.Y3 hat [.x 0] [(900,900),(901,901),(902,902),(903,903)] 1000 ?_;simp -dsimp[hok];by_cases hc:(nX E1 r).getD uO≤c
 ·have hc' :¬c<(nX E1 r).getD uO:=by omega
  have ht:Ry (E1,E2) r c (u,p)=(E1,E2):=if_pos hc;simp -dsimp[hc,hc',ht];and_intros;all_goals try first|rfl|omega|exact⟨by kernel_rfl⟩
  refine Fin.gs (GS.ado 1902 (c1+1) (l':=[(.x 0,It.box [TV.d (.sl (List.map oD A)),TV.aW 1900 (n+1),TV.aW 1901 (n+1)]),(.o 1903,It.fO (sF E2) c2 none none),(.o 1902,It.fO (tY E1) (c1+1) none none),(.o 1901,It.row 224 1 (dd S++[[TV.mref 1903]]) false),(.o 1900,It.row 200 1 (dd C++[[TV.mref 1902]]) false),(.s 10,It.v (.d (.bool false)))]) rfl (by omega) (by simp)) ?_
  refine Fin.gs (GS.ado 1903 (c2+1) (l':=[(.x 0,It.box [TV.d (.sl (List.map oD A)),TV.aW 1900 (n+1),TV.aW 1901 (n+1)]),(.o 1903,It.fO (sF E2) (c2+1) none none),(.o 1902,It.fO (tY E1) (c1+1) none none),(.o 1901,It.row 224 1 (dd S++[[TV.mref 1903]]) false),(.o 1900,It.row 200 1 (dd C++[[TV.mref 1902]]) false),(.s 10,It.v (.d (.bool false)))]) rfl (by omega) (by simp)) ?_
  refine Fin.of ?_;simp[hc',ht]
 ·have hc':c<(nX E1 r).getD uO:=by omega
  have ht:Ry (E1,E2) r c (u,p)=(yJ E1 r c,yJ E2 r (u,p)):=if_neg hc;simp -dsimp[hc,hc',ht,hC,hS,hk,hk2,Tq,hp1,hp2];and_intros;all_goals try first|rfl|omega|exact⟨by kernel_rfl⟩
  refine Fin.gs (GS.ado 1902 (c1+1) (l':=[(.x 0,It.box [TV.d (.sl (List.map oD A)),TV.aW 1900 (n+1),TV.aW 1901 (n+1)]),(.o 1903,It.fO (sF (yJ E2 r (u,p))) (c2+1) (some [r]) none),(.o 1902,It.fO (tY (yJ E1 r c)) (c1+1) none none),(.o 1901,It.row 224 1 (dd S++[[TV.mref 1903]]) false),(.o 1900,It.row 200 1 (dd C++[[TV.mref 1902]]) false),(.s 10,It.v (.d (.bool true)))]) rfl (by omega) (by simp)) ?_
  refine Fin.gs (GS.ado 1903 (c2+1) (l':=[(.x 0,It.box [TV.d (.sl (List.map oD A)),TV.aW 1900 (n+1),TV.aW 1901 (n+1)]),(.o 1903,It.fO (sF (yJ E2 r (u,p))) (c2+1) none none),(.o 1902,It.fO (tY (yJ E1 r c)) (c1+1) none none),(.o 1901,It.row 224 1 (dd S++[[TV.mref 1903]]) false),(.o 1900,It.row 200 1 (dd C++[[TV.mref 1902]]) false),(.s 10,It.v (.d (.bool true)))]) rfl (by omega) (by simp)) ?_
  refine Fin.of ?_;simp[hc',ht]
end Go.Proofs

namespace Go.Tr
open Go
theorem agT(f:Pl→Pl){a1 a2 b1 b2:List Pl}(h:((ng (a2.map f) 0&&&(ng (b1.map f) 0|||ng (b2.map f) 0))|||(ng (b2.map f) 0&&&ng (a1.map f) 0))=0):
  ((ng a2 0&&&(ng b1 0|||ng b2 0))|||(ng b2 0&&&ng a1 0))=0:=by
 have hb:∀n,(((ng (a2.map f) 0&&&(ng (b1.map f) 0|||ng (b2.map f) 0))|||(ng (b2.map f) 0&&&ng (a1.map f) 0))).testBit n=false:=fun n=>by simp[*]
 have hm:∀{p:Pl} {l:List Pl},p∈l→(ng (l.map f) 0).testBit (Yl (f p))=true:=fun hp=>X6.2 (eX hp)
 have hex:∀{l:List Pl} {n:Nat},(ng l 0).testBit n=true→∃p∈l,Yl p=n:=fun hl=>by grind[O9]
 refine Nat.eq_of_testBit_eq fun n=>?_
 rw[Nat.zero_testBit];cases hn:(((ng a2 0&&&(ng b1 0|||ng b2 0))|||(ng b2 0&&&ng a1 0))).testBit n with
 | false=>rfl
 | true=>
   exfalso;rw[pG,Nat.testBit_and,Nat.testBit_and,pG,bJ,aG,aG,bJ]at hn
   rcases hn with⟨h1,h2|h2⟩|⟨h1,h2⟩<;>obtain⟨p,hp,e1⟩:=hex h1<;>obtain⟨q,hq,e2⟩:=hex h2<;>obtain rfl:p=q:=acB (e1.trans e2.symm)
   ·have:=hb (Yl (f p))
    grind
   ·have:=hb (Yl (f p))
    grind
   ·have:=hb (Yl (f p));rw[pG,Nat.testBit_and,Nat.testBit_and,hm hp,hm hq]at this
    simp at this
def aav(f:Pl→Pl)(X:List (Nat×List Pl×List Pl)):List (Nat×Nat×Nat):=X.map fun x=>(x.1,ng (x.2.1.map f) 0,ng (x.2.2.map f) 0)
theorem TL(f:Pl→Pl)(A:Nat)(R W:List Pl):∀X:List (Nat×List Pl×List Pl),Px A (ng (R.map f) 0) (ng (W.map f) 0) (aav f X)=true→Px A (ng (R.map id) 0) (ng (W.map id) 0) (aav id X)=true
 | [],_=>rfl
 | (i,r,w)::X,h=>by simp only[aav,aC,Px,aG,bJ,beq_iff_eq]at h⊢;refine⟨h.1.imp id fun g=>?_,TL f A R W X h.2⟩;rw[List.map_id,List.map_id,List.map_id,List.map_id];exact agT f g
def yD(f:Pl→Pl)(x:List Pl×List Pl):List Pl×List Pl:=(x.1.map f,x.2.map f)
theorem NW(f:Pl→Pl):∀(ops:List Oper) (L:List (List Pl×List Pl)) (j:Nat) (As:List Nat) (X:List (Nat×List Pl×List Pl)),Fh ops (L.map (yD f)) j As (aav f X)=true→Fh ops (L.map (yD id)) j As (aav id X)=true
 | [],_,_,_,_,_=>rfl
 | o::ops,L,j,As,X,h=>by
   have hd:∀g:Pl→Pl,(L.map (yD g)).headD ([],[])=((L.headD ([],[])).1.map g,(L.headD ([],[])).2.map g):=fun g=>by cases L<;>rfl
   have ht:∀g:Pl→Pl,(L.map (yD g)).tail=L.tail.map (yD g):=by simp
   have hc:∀g:Pl→Pl,∀(A:Nat),(j,ng ((L.headD ([],[])).1.map g) 0,ng ((L.headD ([],[])).2.map g) 0)::aav g X=aav g ((j,(L.headD ([],[])).1,(L.headD ([],[])).2)::X):=fun g A=>rfl
   simp only[Fh,SE,aG,hd,ht]at h⊢;refine⟨h.1,TL f _ _ _ _ h.2.1,?_⟩;rw[hc f 0]at h
   exact NW f ops L.tail (j+1) _ _ h.2.2
theorem BQ.ren(f:Pl→Pl){ops:Array Oper}{L:List (List Pl×List Pl)}(h:NV ops (L.map (yD f))=true):BQ ops L:=by
 have h1:=NW f ops.toList L 0 [] [] h;have e:L.map (yD id)=L:=by
  conv=>rhs;rw[←List.map_id L]
  refine gU fun x _=>?_
  obtain⟨a,b⟩:=x;simp[yD]
 rw[e]at h1
 exact⟨h1⟩
@[simp]theorem amR{po:Nat→Prop}{n b:Nat}{k:Nat→List Int}{f:Nat→Nat}{c:Nat}{pd:Option (List Int)}{s:Option jB}:It.only po (It.fO (nT n b k f) c pd s)↔∀i,i<n→po (b+i):=by
 constructor
 ·intro h i hi;exact h _ (ak.2 ⟨i,bI.2 hi,rfl⟩)
 ·intro h x hx;obtain⟨i,hi,rfl⟩:=ak.1 hx;exact h i (bI.1 hi)
@[simp]theorem amT{po:Nat→Prop}{c:Nat}{pd:Option (List Int)}{s:Option jB}:It.only po (It.fO [] c pd s):=by intro x hx;simp at hx
theorem CX{es:List (List Int×TV)}{k:List Int}{v:TV}(h:∀x∈es,x.1≠k):oq es k v=es++[(k,v)]:=by
 induction es with
 | nil=>rfl
 | cons x es ih=>rw[oq,if_neg (fun e=>h x (by simp) e.symm),ih fun y hy=>h y (by simp[*]),bg]
theorem agS{n b:Nat}{k:Nat→List Int}{f:Nat→Nat}(hk:∀i,i<n→k i≠k n)(v:TV):oq (nT n b k f) (k n) v=nT n b k f++[(k n,v)]:=by
 refine CX fun x hx=>?_
 obtain⟨i,hi,rfl⟩:=ak.1 hx
 simp_all
theorem YI{i b:Nat}{k:Nat→List Int}{f:Nat→Nat}{v:TV}(h:f i=0):(nT i b k f++[(k i,v)]).set i (k i,.aW (b+i) 0)=nT (i+1) b k f:=by rw[ad8,ni _ _ (by simp[nT]),h];simp[nT]
theorem Xy{i b:Nat}{k:Nat→List Int}{f:Nat→Nat}{v:List Int×TV}:(nT i b k f++[v])[i]? = some v:=by simp[nT]
theorem GS.an6{A:f_}{i c0 c1:Nat}{pd0 pd1:Option (List Int)}{s0 s1:Option jB}{k:Nat→List Int}{l l':List (Pl×It)}(nR id1 b0 b1 e z:Nat)
  (h0:look l (.o nR) = .fO (nT i b0 k (fun _=>0)++[(k i,.c (.slice none 0 0))]) c0 pd0 s0) (h1:look l (.o id1) = .fO (nT i b1 k (fun _=>0)++[(k i,.c (.slice none 0 0))]) c1 pd1 s1)
  (o0:look l (.o (b0+i)) = .none) (o1:look l (.o (b1+i)) = .none) (n1:nR≠id1) (n2:nR≠b0+i) (n3:id1≠b0+i) (n4:nR≠b1+i) (n5:id1≠b1+i) (n6:b0+i≠b1+i)
  (h:Sub (look (jL (.o id1) (.fO (nT (i+1) b1 k fun _=>0) c1 pd1 s1) (jL (.o (b1+i)) (.row e z [] false) (jL (.o nR) (.fO (nT (i+1) b0 k fun _=>0) c0 pd0 s0) (jL (.o (b0+i)) (.row e z [] false) l))))) l'∧
   lu l'=lu (jL (.o id1) (.fO (nT (i+1) b1 k fun _=>0) c1 pd1 s1) (jL (.o (b1+i)) (.row e z [] false) (jL (.o nR) (.fO (nT (i+1) b0 k fun _=>0) c0 pd0 s0) (jL (.o (b0+i)) (.row e z [] false) l))))):GS A (look l) (look l'):=by
 have a1:=GS.aoV (A:=A) (t:=look l) (id:=b0+i) e z h0 Xy o0;rw[YI rfl,je,je]at a1
 refine a1.trans ?_;have a2:=GS.aoV (A:=A) (t:=look (jL (.o nR) (.fO (nT (i+1) b0 k fun _=>0) c0 pd0 s0) (jL (.o (b0+i)) (.row e z [] false) l))) (nR:=id1) (id:=b1+i) (es:=nT i b1 k (fun _=>0)++[(k i,.c (.slice none 0 0))]) (i:=i) (k:=k i) (c:=c1) (pd:=pd1) (s:=s1) e z
  (by rw[←je,←je];simp only[upd,Pl.o.injEq,if_neg n1.symm,if_neg n3];omega) Xy (by rw[←je,←je];simp only[upd,Pl.o.injEq,if_neg n4.symm,if_neg n6.symm];omega)
 rw[YI rfl,je,je]at a2
 exact a2.trans (GS.forget h.1 h.2)
theorem O3{n b:Nat}{k:Nat→List Int}{f f':Nat→Nat}(h:∀i,i<n→f i=f' i):nT n b k f=nT n b k f':=by grind[nT,List.map_congr_left]
theorem Sub.afX{t:S}{b c n m:Nat}{f f':Nat→It}{l:List (Pl×It)}(hbc:b+n≤c)(h1:∀j,j<n→t (.o (b+j))=f j)(h2:∀j,j<m→t (.o (c+j))=f' j)
  (h3:∀x∈l,look (Tr.qw b n f (Tr.qw c m f' l)) x.1=t x.1) (h4:∀j,j<n→(f j).only (· ∈oz (Tr.qw b n f (Tr.qw c m f' l)))) (h5:∀j,j<m→(f' j).only (· ∈oz (Tr.qw b n f (Tr.qw c m f' l))))
  (h6:∀x∈l,x.2.only (· ∈oz (Tr.qw b n f (Tr.qw c m f' l)))):Sub t (Tr.qw b n f (Tr.qw c m f' l)):=by
 refine Sub.qw (fun j hj=>(h1 j hj).symm) (zF.2 ⟨fun j hj=>?_,h3⟩) h4 (zF.2 ⟨h5,h6⟩)
 grind[KO,CZ]
theorem GS.abI{A:f_}{t:S}{l':List (Pl×It)}(h:Sub t l')(hx:∀i,look l' (.x i)=t (.x i)):GS A t (look l'):=fun _ _ ⟨E,hw,hi⟩=>⟨E.res (oz l'),hw,hi.forget h hx⟩
def It.shd:It→It
 | .row e z rs _=>.row e z rs true
 | x=>x
def zq(t:S)(nR b n m:Nat)(k:Nat→List Int)(xs:Nat→List (List D))(c:Nat)(pd:Option (List Int))(s:Option jB):S:=fun p=>
 if p = .o nR then .fO ((List.range n).map fun i=>(k i,if i<m then TV.d (.sl (xs i))else TV.aW (b+i) (xs i).length)) c pd s
 else match p with
 | .o q=>if b≤q∧q<b+m then(t p).shd else t p
 | p=>t p
theorem aeR{t:S}{nR b n c:Nat}{k:Nat→List Int}{xs:Nat→List (List D)}{pd:Option (List Int)}{s:Option jB}(h0:t (.o nR) = .fO (nT n b k fun j=>(xs j).length) c pd s):zq t nR b n 0 k xs c pd s=t:=by
 funext p
 unfold zq;by_cases e:p = .o nR
 ·subst e;rw[if_pos rfl,h0];rfl
 grind
theorem GS.aj7{A:f_}{t:S}{nR b n m c e z:Nat}{k:Nat→List Int}{xs:Nat→List (List D)}{pd:Option (List Int)}{s:Option jB}(hm:m<n)(hr:t (.o (b+m)) = .row e z (dd (xs m)) false)(hb:nR<b):
  GS A (zq t nR b n m k xs c pd s) (zq t nR b n (m+1) k xs c pd s):=by
 have h0:zq t nR b n m k xs c pd s (.o nR) = .fO ((List.range n).map fun i=>(k i,if i<m then TV.d (.sl (xs i))else TV.aW (b+i) (xs i).length)) c pd s:=by unfold zq;simp
 have hi:((List.range n).map fun i=>(k i,if i<m then TV.d (.sl (xs i))else TV.aW (b+i) (xs i).length))[m]? = some (k m,.aW (b+m) (xs m).length):=by simp[*]
 have ht:zq t nR b n m k xs c pd s (.o (b+m)) = .row e z (dd (xs m)) false:=by
  unfold zq
  grind
 have g:=GS.atI (A:=A) (xs:=xs m) h0 hi ht (by simp) (I8 _);refine(show upd (upd (zq t nR b n m k xs c pd s) (.o (b+m)) (.row e z (dd (xs m)) true)) (.o nR) (.fO (((List.range n).map fun i=>(k i,if i<m then TV.d (.sl (xs i))else TV.aW (b+i) (xs i).length)).set m (k m,.d (.sl (xs m)))) c pd s)=zq t nR b n (m+1) k xs c pd s from ?_)▸g
 funext p
 by_cases e0:p = .o nR
 ·subst e0;simp only[upd,if_true];unfold zq;rw[if_pos rfl]
  congr 1
  refine iw fun i=>?_
  grind
 ·simp only[upd,if_neg e0];by_cases e1:p = .o (b+m)
  ·subst e1;rw[if_pos rfl];unfold zq;rw[if_neg e0];simp only;rw[if_pos (by omega),hr];rfl
  ·rw[if_neg e1];unfold zq
   grind
theorem GS.ah2{A:f_}{t:S}{nR b n c e z:Nat}{k:Nat→List Int}{xs:Nat→List (List D)}{pd:Option (List Int)}{s:Option jB}(h0:t (.o nR) = .fO (nT n b k fun j=>(xs j).length) c pd s)(hr:∀i,i<n→t (.o (b+i)) = .row e z (dd (xs i)) false)(hb:nR<b):
  GS A t (zq t nR b n n k xs c pd s):=by
 have h:∀m,m≤n→GS A t (zq t nR b n m k xs c pd s):=by
  intro m
  induction m with
  | zero=>grind[aeR,GS.refl]
  | succ m ih=>grind[trans,GS.aj7]
 simp[*]
theorem YD{t:S}{nR b n c:Nat}{k:Nat→List Int}{xs:Nat→List (List D)}{pd:Option (List Int)}{s:Option jB}:zq t nR b n n k xs c pd s (.o nR) = .fO ((List.range n).map fun i=>(k i,.d (.sl (xs i)))) c pd s:=by unfold zq;simp
theorem Dw{t:S}{nR b n c:Nat}{k:Nat→List Int}{xs:Nat→List (List D)}{pd:Option (List Int)}{s:Option jB}{q:Nat}(h1:q≠nR)(h2:q<b∨b+n≤q):zq t nR b n n k xs c pd s (.o q)=t (.o q):=by
 unfold zq
 grind
theorem ah3{t:S}{nR b n c:Nat}{k:Nat→List Int}{xs:Nat→List (List D)}{pd:Option (List Int)}{s:Option jB}{q:Nat}:zq t nR b n n k xs c pd s (.s q)=t (.s q):=by rfl
theorem ah4{t:S}{nR b n c:Nat}{k:Nat→List Int}{xs:Nat→List (List D)}{pd:Option (List Int)}{s:Option jB}{q:Nat}:zq t nR b n n k xs c pd s (.x q)=t (.x q):=by rfl
@[simp]theorem amS{po:Nat→Prop}{m:Nat}{s:jB}{left:List (List Int)}{cur:Option (List Int)}:It.only po (It.yt m s left cur):=trivial
@[simp]theorem aoO{α:Type}{po:Nat→Prop}{k:α→List Int}{v:α→D}{l:List α}{c:Nat}{pd:Option (List Int)}{s:Option jB}:It.only po (It.fO (l.map fun i=>(k i,TV.d (v i))) c pd s):=by intro x hx;obtain⟨i,_,rfl⟩:=ak.1 hx;exact trivial
end Go.Tr
