/-
  What functions of the program compute, stated as contracts over plain data; the conditions of each stand in its own statement.
-/
import Derived.Test.YtboimfkommpglaaGreatDoorZB18
import Derived.Test.YtboimfkommpglaaGreatDoorZB19
set_option linter.unusedVariables false
set_option linter.unusedSimpArgs false
namespace Go.Proofs
def Jd(x y:Lk):Prop:=x.a<y.a∨(x.a=y.a∧x.b<y.b)
theorem abQ{x y z:Lk}(h1:Jd x y)(h2:Jd y z):Jd x z:=by grind[Jd]
theorem Xk{α:Type}{q:α→α→Bool}{r:α→α→Prop}(hr:∀x y,q x y=false→r x y)(ht:∀x y z,r x y→r y z→r x z):∀{l:List α},pV q l=false→l.Pairwise r
 | [],_=>List.Pairwise.nil
 | [x],_=>by simp
 | x::y::l,h=>by
   simp only[pV,Bool.or_eq_false_iff]at h;have ih:=Xk hr ht (l:=y::l) h.2;refine List.Pairwise.cons (fun z hz=>?_) ih;rcases aG.1 hz with rfl|hz
   ·simp[*]
   grind[List.pairwise_cons]
theorem bV.Ok.lpw{g:bV}(h:g.Ok):g.ls.Pairwise Jd:=
 Xk (r:=Jd) (fun x y h=>by grind[Jd]) (fun _ _ _=>abQ) h.asF
theorem bV.Ok.rpw{g:bV}(h:g.Ok):g.rs.Pairwise (fun x y=>x.id<y.id):=
 Xk (r:=fun x y=>x.id<y.id) (fun x y h=>by simp_all) (fun _ _ _=>Int.lt_trans) h.ord
theorem bV.Ok.lab{g:bV}(h:g.Ok){x:Lk}(hx:x∈g.ls):x.a<x.b:=by
 have:=dL.1 h.ab x hx
 simp_all
theorem bV.Ok.ends'{g:bV}(h:g.Ok){x:Lk}(hx:x∈g.ls):fM g.rs x.a=true∧fM g.rs x.b=true:=by
 have:=dL.1 h.ends x hx
 simp_all
theorem Bz:∀{l:List Lk} {f t c:Int},price l f t=some c→∃x∈l,(x.a=f∧x.b=t∧x.ca=c)∨(x.b=f∧x.a=t∧x.cb=c)
 | [],_,_,_,h=>by trivial
 | x::l,f,t,c,h=>by
   rw[price]at h
   split at h
   ·simp_all
   ·split at h
    ·simp_all
    ·obtain⟨y,hy,h2⟩:=Bz h
     grind
theorem MQ:∀{l:List Lk},l.Pairwise Jd→(∀x∈l,x.a<x.b)→∀{x:Lk},x∈l→price l x.a x.b=some x.ca∧price l x.b x.a=some x.cb
 | [],_,_,x,hx=>by trivial
 | y::l,hp,hab,x,hx=>by
   have hy:=hab y (by simp);rcases aG.1 hx with rfl|hx'
   ·refine⟨by rw[price,if_pos ⟨rfl,rfl⟩],?_⟩;rw[price,if_neg (by omega),if_pos ⟨rfl,rfl⟩]
   ·have hlt:=(fB.1 hp).1 x hx';have hx2:=hab x hx;have ih:=MQ (fB.1 hp).2 (fun z hz=>hab z (by simp[*])) hx';unfold Jd at hlt;refine⟨?_,?_⟩
    ·rw[price,if_neg (by omega),if_neg (by omega)];simp[*]
    ·rw[price,if_neg (by omega),if_neg (by omega)];simp[*]
theorem vw{g:bV}(hg:g.Ok){f t c:Int}(h:price g.ls f t=some c):fM g.rs f=true∧fM g.rs t=true:=by
 obtain⟨x,hx,h1⟩:=Bz h;have h2:=hg.ends' hx
 grind
theorem xA{g:bV}(hg:g.Ok){f t c:Int}(h:price g.ls f t=some c):1≤c∧c≤1000:=by obtain⟨x,hx,h1⟩:=Bz h;have h2:=hg.c hx;omega
theorem EM{g:bV}(hg:g.Ok){f t c:Int}(h:price g.ls f t=some c):∃c',price g.ls t f=some c':=by
 obtain⟨x,hx,h1⟩:=Bz h;have h2:=MQ hg.lpw (fun _ h=>hg.lab h) hx
 grind
theorem Me{g:bV}(hg:g.Ok){r x:Int}:x∈near g r↔∃c,price g.ls r x=some c:=by
 simp only[near,ay,bG];constructor
 ·grind[Option.isSome_iff_exists]
 ·rintro⟨c,h⟩;obtain⟨y,hy,rfl⟩:=ay.1 (nI.1 (vw hg h).2)
  grind
inductive Wk (g:bV) (to:Int):Nat→Int→Int→Prop
 | nil:Wk g to 0 to 0
 | cons {k:Nat} {x y c v:Int}:price g.ls x y=some c→Wk g to k y v→Wk g to (k+1) x (c+v)
theorem Wk.nonneg{g:bV}(hg:g.Ok){to:Int}{k:Nat}{x v:Int}(h:Wk g to k x v):(k:Int)≤v:=by
 induction h with
 | nil=>simp
 | cons hp _ ih=>have:=xA hg hp;omega
theorem Wk.le{g:bV}(hg:g.Ok){to:Int}{k:Nat}{x v:Int}(h:Wk g to k x v):v≤1000*k:=by
 induction h with
 | nil=>simp
 | cons hp _ ih=>have:=xA hg hp;omega
inductive Wa (g:bV) (to:Int) (S:List Int):Int→Int→Prop
 | nil:to∉S→Wa g to S to 0
 | cons {x y c v:Int}:x∉S→price g.ls x y=some c→Wa g to S y v→Wa g to S x (c+v)
theorem Wk.wa{g:bV}{to:Int}{k:Nat}{x v:Int}(h:Wk g to k x v):Wa g to [] x v:=by
 induction h with
 | nil=>exact .nil (by simp)
 | cons hp _ ih=>exact .cons (by simp) hp ih
theorem Wa.Z9{g:bV}{to:Int}{S:List Int}{x v:Int}(h:Wa g to S x v):x∉S:=by
 cases h with
 | nil h=>omega
 | cons h _ _=>omega
theorem Wa.last{g:bV}(hg:g.Ok){to:Int}{S:List Int}(x:Int){z v:Int}(h:Wa g to S z v):
  Wa g to (x::S) z v∨x=to∨∃y c w,price g.ls x y=some c∧Wa g to (x::S) y w∧c+w≤v:=by
 induction h with
 | nil h=>
   by_cases e:x=to
   ·omega
   ·exact .inl (.nil (by grind))
 | @cons z y c v hz hp hw ih=>
   have hc:=xA hg hp;rcases ih with ih|ih|⟨y',c',w',h1,h2,h3⟩
   ·by_cases e:z=x
    ·grind
    ·exact .inl (.cons (by simp[*]) hp ih)
   ·omega
   grind
theorem Wa.nonneg{g:bV}(hg:g.Ok){to:Int}{S:List Int}{x v:Int}(h:Wa g to S x v):0≤v:=by
 induction h with
 | nil=>simp
 | cons _ hp _ ih=>have:=xA hg hp;omega
theorem Wa.short{g:bV}(hg:g.Ok){to:Int}(hto:fM g.rs to=true):∀(m:Nat) {S:List Int} {x v:Int},Wa g to S x v→fM g.rs x=true→S.Nodup→(∀y∈S,fM g.rs y=true)→g.rs.length≤S.length+1+m→∃k w,k≤m∧w≤v∧Wk g to k x w:=by
 intro m
 induction m with
 | zero=>
   intro S x v h hx hS hh hm;rcases h.last hg x with h1|h1|⟨y,c,w,h1,h2,h3⟩
   ·exact absurd h1.Z9 (by simp)
   ·subst h1;exact⟨0,0,aI _,h.nonneg hg,.nil⟩
   ·exfalso;have hy:=vw hg h1;have hn:(y::x::S).Nodup:=dG.2 ⟨h2.Z9,dG.2 ⟨h.Z9,hS⟩⟩;have:=zT hn (g:=g) (fun z hz=>by
     grind)
    grind
 | succ m ih=>
   intro S x v h hx hS hh hm;rcases h.last hg x with h1|h1|⟨y,c,w,h1,h2,h3⟩
   ·exact absurd h1.Z9 (by simp)
   ·subst h1;exact⟨0,0,by omega,h.nonneg hg,.nil⟩
   ·have hy:=vw hg h1;obtain⟨k,w',k1,k2,k3⟩:=ih h2 hy.2 (dG.2 ⟨h.Z9,hS⟩) (fun z hz=>by
     grind) (by grind)
    exact⟨k+1,c+w',by omega,by omega,.cons h1 k3⟩
theorem Wk.has{g:bV}(hg:g.Ok){to:Int}(hto:fM g.rs to=true){k:Nat}{x v:Int}(h:Wk g to k x v):fM g.rs x=true:=by
 cases h with
 | nil=>omega
 | cons hp _=>exact(vw hg hp).1
theorem aja{g:bV}{x:Int}(h:fM g.rs x=true):1≤g.rs.length:=by grind[fM]
theorem Wk.short{g:bV}(hg:g.Ok){to:Int}(hto:fM g.rs to=true){k:Nat}{x v:Int}(h:Wk g to k x v):∃j w,j+1≤g.rs.length∧w≤v∧Wk g to j x w:=by
 have hp:=aja hto;obtain⟨j,w,h1,h2,h3⟩:=h.wa.short hg hto (g.rs.length-1) (h.has hg hto) oN (by simp) (by omega)
 grind
theorem Ak:∀{l:List Rt} {r:Int},fM l r=true→∃i,oH l r=some i
 | [],r,h=>by trivial
 | x::l,r,h=>by
   by_cases e:x.id=r
   ·exact⟨0,by rw[oH,if_pos e]⟩
   ·obtain⟨i,hi⟩:=Ak (l:=l) (r:=r) (by grind[fM]);exact⟨i+1,by rw[oH,if_neg e,hi];rfl⟩
theorem FW:∀{l:List Rt} {r:Int} {i:Nat},oH l r=some i→∃x,l[i]? = some x∧x.id=r
 | [],r,i,h=>by trivial
 | x::l,r,i,h=>by
   rw[oH]at h
   split at h
   ·grind
   ·cases hp:oH l r with
    | none=>simp_all
    | some j=>
      simp[hp]at h;subst h
      obtain⟨y,h1,h2⟩:=FW hp;simp[*]
theorem ab_{l:List Rt}{r s:Int}{i:Nat}(h1:oH l r=some i)(h2:oH l s=some i):r=s:=by
 obtain⟨x,a1,rfl⟩:=FW h1;obtain⟨y,b1,rfl⟩:=FW h2
 simp_all
theorem Qk{g:bV}{d:List Int}{r:Int}(h:fM g.rs r=true):atR g d r=d.getD (FX g r) 0:=by grind[Ak,atR,FX]
theorem KN{g:bV}{d:List Int}(hd:g.rs.length≤d.length){r s v:Int}(hr:fM g.rs r=true)(hs:fM g.rs s=true):atR g (d.set (FX g r) v) s=if s=r then v else atR g d s:=by
 obtain⟨i,hi⟩:=Ak hr;obtain⟨j,hj⟩:=Ak hs;have hil:=OV hi;simp only[atR,FX,hi,hj,bf];rw[ak,ak,jY];by_cases e:s=r
 ·grind
 ·rw[if_neg e,if_neg (fun h=>e (by grind[ab_]))]
theorem NS{g:bV}(hg:g.Ok){d:List Int}(hd:g.rs.length≤d.length){l:Lk}(hl:l∈g.ls){s:Int}(hs:fM g.rs s=true):
  atR g (relax g d l) s=(if s=l.a then(if atR g d l.b<far then min (atR g d l.a) (l.ca+atR g d l.b)else atR g d l.a)
   else if s=l.b then
    (if(if atR g d l.b<far then min (atR g d l.a) (l.ca+atR g d l.b)else atR g d l.a)<far then min (atR g d l.b) (l.cb+(if atR g d l.b<far then min (atR g d l.a) (l.ca+atR g d l.b)else atR g d l.a))else atR g d l.b)
   else atR g d s):=by
 obtain⟨ha,hb⟩:=hg.ends' hl;have hab:=hg.lab hl;unfold relax;simp only;rw[←Qk hb,←Qk ha];have key:∀d1:List Int,g.rs.length≤d1.length→atR g d1 l.b=atR g d l.b→(∀s,fM g.rs s=true→atR g d1 s=if s=l.a then atR g d1 l.a else atR g d s)→
   atR g (if atR g d1 l.a<far then d1.set (FX g l.b) (min (d1.getD (FX g l.b) 0) (l.cb+atR g d1 l.a))else d1) s =
    if s=l.a then atR g d1 l.a else if s=l.b then(if atR g d1 l.a<far then min (atR g d l.b) (l.cb+atR g d1 l.a)else atR g d l.b)else atR g d s:=by
  intro d1 h1 h2 h3;rw[←Qk hb,h2];have h4:=h3 s hs;split
  ·rw[KN h1 hb hs];by_cases e:s=l.b
   ·subst e;rw[if_pos rfl,if_neg (by omega),if_pos rfl]
   ·rw[if_neg e,h4,if_neg e]
  ·rw[h4];by_cases e:s=l.b
   ·subst e;rw[if_neg (by omega),if_pos rfl,if_neg (by omega)]
   ·rw[if_neg e]
 have e0:∀d1:List Int,d1.getD (FX g l.a) 0=atR g d1 l.a:=fun d1=>(Qk ha).symm
 rw[e0];by_cases hlt:atR g d l.b<far
 ·rw[if_pos hlt];have h5:atR g (d.set (FX g l.a) (min (atR g d l.a) (l.ca+atR g d l.b))) l.a=min (atR g d l.a) (l.ca+atR g d l.b):=by rw[KN hd ha ha,if_pos rfl]
  have:=key (d.set (FX g l.a) (min (atR g d l.a) (l.ca+atR g d l.b))) (by simpa using hd) (by rw[KN hd ha hb,if_neg (by omega)]) (fun s hs=>by
   rw[KN hd ha hs,KN hd ha ha,if_pos rfl])
  rw[this];simp only[h5,if_pos hlt]
 ·rw[if_neg hlt];have:=key d hd rfl (fun s hs=>by by_cases e:s=l.a<;>simp[e]);rw[this];simp only[if_neg hlt]
theorem ah5{g:bV}(hg:g.Ok){d:List Int}(hd:g.rs.length≤d.length){l:Lk}(hl:l∈g.ls){s:Int}(hs:fM g.rs s=true):atR g (relax g d l) s≤atR g d s:=by grind[NS]
theorem ah4{g:bV}(hg:g.Ok){d:List Int}{x y c:Int}(h:price g.ls x y=some c)(hy:atR g d y<far):∃l∈g.ls,∀d':List Int,g.rs.length≤d'.length→atR g d' y≤atR g d y→atR g (relax g d' l) x≤c+atR g d y:=by
 obtain⟨l,hl,h1⟩:=Bz h;have hx:=vw hg h;refine⟨l,hl,fun d' hd' hle=>?_⟩;rw[NS hg hd' hl hx.1];have hab:=hg.lab hl
 grind
theorem Sv(g:bV):∀(ls:List Lk) (d:List Int),(ls.foldl (relax g) d).length=d.length
 | [],_=>rfl
 | l::ls,d=>by rw[cO,Sv g ls,BA]
theorem Qx{g:bV}(hg:g.Ok){s:Int}(hs:fM g.rs s=true):∀(ls:List Lk) (d:List Int),(∀l∈ls,l∈g.ls)→g.rs.length≤d.length→atR g (ls.foldl (relax g) d) s≤atR g d s
 | [],_,_,_=>Int.le_refl _
 | l::ls,d,h,hd=>by exact Int.le_trans (Qx hg hs ls _ (fun x hx=>h x (by simp[*])) (by grind[BA])) (ah5 hg hd (h l (by simp)) hs)
theorem afx{g:bV}(hg:g.Ok){d:List Int}(hd:g.rs.length≤d.length){x y c:Int}(h:price g.ls x y=some c)(hy:atR g d y<far):atR g (FZ g d) x≤c+atR g d y:=by
 obtain⟨l,hl,h1⟩:=ah4 hg h hy;have hx:=vw hg h;obtain⟨p,q,e⟩:=List.append_of_mem hl;have hp:∀z∈p,z∈g.ls:=fun z hz=>by rw[e];simp[hz]
 have hq:∀z∈q,z∈g.ls:=fun z hz=>by rw[e];simp[hz]
 rw[FZ,e,g_,cO];have hlp:g.rs.length≤(p.foldl (relax g) d).length:=by rw[Sv];exact hd
 refine Int.le_trans (Qx hg hx.1 q _ hq (by rw[BA];exact hlp)) (h1 _ hlp (Qx hg hx.2 p d hp hd))
theorem afy{g:bV}(hg:g.Ok){d:List Int}(hd:g.rs.length≤d.length){s:Int}(hs:fM g.rs s=true):atR g (FZ g d) s≤atR g d s:=Qx hg hs g.ls d (fun _ h=>h) hd
theorem acj(g:bV)(d:List Int):(FZ g d).length=d.length:=Sv g g.ls d
def Known(g:bV)(to:Int)(k:Nat)(d:List Int):Prop:=∀j≤k,∀x v,Wk g to j x v→v<far→atR g d x≤v
theorem Known.next{g:bV}(hg:g.Ok){to:Int}(hto:fM g.rs to=true){k:Nat}{d:List Int}(hd:g.rs.length≤d.length)(h:Known g to k d):Known g to (k+1) (FZ g d):=by
 intro j hj x v hw hv;cases hw with
 | nil=>exact Int.le_trans (afy hg hd hto) (h 0 (by omega) _ _ .nil (by omega))
 | @cons k' _ y c w hp hw=>have hc:=xA hg hp;have h1:=h k' (by omega) y w hw (by omega);have h2:=afx hg hd hp (by omega);omega
theorem Known.rounds{g:bV}(hg:g.Ok){to:Int}(hto:fM g.rs to=true):∀(n k:Nat) (d:List Int),g.rs.length≤d.length→Known g to k d→Known g to (k+n) (Dw g n d)
 | 0,k,d,_,h=>h
 | n+1,k,d,hd,h=>by
   have:=Known.rounds hg hto n (k+1) (FZ g d) (by grind[acj]) (h.next hg hto hd)
   grind[Dw]
theorem Vy{g:bV}{to x:Int}(hx:fM g.rs x=true):atR g (Dp g to) x=if x=to then 0 else far:=by
 obtain⟨i,hi⟩:=Ak hx;obtain⟨y,h1,rfl⟩:=FW hi
 grind[atR,Dp]
def Real(g:bV)(to:Int)(d:List Int):Prop:=∀x,fM g.rs x=true→atR g d x=far∨∃k,Wk g to k x (atR g d x)
theorem Real.relax{g:bV}(hg:g.Ok){to:Int}{d:List Int}(hd:g.rs.length≤d.length)(hb:Bd d)(h:Real g to d){l:Lk}(hl:l∈g.ls):Real g to (relax g d l):=by
 intro x hx;obtain⟨ha,hb'⟩:=hg.ends' hl;have hpr:=MQ hg.lpw (fun _ h=>hg.lab h) hl;have hB:=aaW (g:=g) hb;rw[NS hg hd hl hx];have hA:(if atR g d l.b<far then min (atR g d l.a) (l.ca+atR g d l.b)else atR g d l.a)=far∨∃k,Wk g to k l.a (if atR g d l.b<far then min (atR g d l.a) (l.ca+atR g d l.b)else atR g d l.a):=by
  split
  ·rename_i hlt;by_cases hm:atR g d l.a≤l.ca+atR g d l.b
   ·rw[Int.min_eq_left hm];exact h _ ha
   ·rw[Int.min_eq_right (by omega)];rcases h _ hb' with h1|⟨k,h1⟩
    ·omega
    ·exact .inr ⟨k+1,.cons hpr.1 h1⟩
  ·exact h _ ha
 split
 ·simp_all
 split
 ·rename_i e;subst e;generalize (if atR g d l.b<far then min (atR g d l.a) (l.ca+atR g d l.b)else atR g d l.a)=m at hA;split
  ·by_cases hm:atR g d l.b≤l.cb+m
   ·rw[Int.min_eq_left hm];exact h _ hb'
   ·rw[Int.min_eq_right (by omega)];rcases hA with h1|⟨k,h1⟩
    ·omega
    ·exact .inr ⟨k+1,.cons hpr.2 h1⟩
  ·exact h _ hb'
 ·exact h _ hx
theorem agq(g:bV)(to:Int):Bd (Dp g to):=fun v hv=>by
 obtain⟨x,_,rfl⟩:=ay.1 hv
 grind[far]
theorem aev{g:bV}(hg:g.Ok){to:Int}(hto:fM g.rs to=true):Real g to (dist g to):=by
 have:=Bc (g:=g) (p:=fun d=>g.rs.length≤d.length∧Bd d∧Real g to d) (fun d l hl ⟨h1,h2,h3⟩=>⟨by grind[BA],h2.relax (hg.c hl).1.1 (hg.c hl).2.1,h3.relax hg h1 h2 hl⟩) g.rs.length (Dp g to) ⟨by simp[Dp],agq g to,fun x hx=>by
  rw[Vy hx];split
  ·rename_i e;subst e;exact .inr ⟨0,.nil⟩
  omega⟩
 exact this.2.2
theorem aa8{g:bV}(hg:g.Ok){to:Int}(hto:fM g.rs to=true){k:Nat}{x v:Int}(h:Wk g to k x v)(hv:v<far):atR g (dist g to) x≤v:=by
 obtain⟨j,w,h1,h2,h3⟩:=h.short hg hto;have:=Known.rounds hg hto g.rs.length 0 (Dp g to) (by simp[Dp]) (fun i hi x v hw hv=>by
  obtain rfl:i=0:=by omega
  cases hw
  rw[Vy hto,if_pos rfl];omega)
 have:=this j (by omega) x w h3 (by omega)
 grind[dist]
def dst(g:bV)(to x:Int):Int:=atR g (dist g to) x
theorem tN{g:bV}(hg:g.Ok)(to x:Int):0≤dst g to x∧dst g to x≤far:=aaW (acV hg to) x
theorem Ac{g:bV}(hg:g.Ok){to:Int}(hto:fM g.rs to=true){k:Nat}{x v:Int}(h:Wk g to k x v):dst g to x≤v∧dst g to x<far:=by
 obtain⟨j,w,h1,h2,h3⟩:=h.short hg hto;have hl:=h3.le hg;have hn:=hg.nr;have:=aa8 hg hto h3 (by grind[far])
 grind[dst,far]
theorem Aa{g:bV}(hg:g.Ok){to:Int}(hto:fM g.rs to=true){x:Int}(hx:fM g.rs x=true)(h:dst g to x<far):∃k,Wk g to k x (dst g to x):=by
 rcases aev hg hto x hx with h1|h1
 ·exact absurd h1 (Int.ne_of_lt h)
 trivial
theorem KY{g:bV}(hg:g.Ok){to:Int}(hto:fM g.rs to=true){x:Int}(hx:fM g.rs x=true)(h:dst g to x=0):x=to:=by
 obtain⟨k,hk⟩:=Aa hg hto hx (by simp[*]);rw[h]at hk
 have:=hk.nonneg hg;generalize hv:(0:Int)=v at hk this;cases hk with
 | nil=>rfl
 | cons hp hw=>omega
theorem agv{g:bV}(hg:g.Ok){to:Int}(hto:fM g.rs to=true){x y c:Int}(h:price g.ls x y=some c)(hy:dst g to y<far):dst g to x≤c+dst g to y∧dst g to x<far:=by obtain⟨k,hk⟩:=Aa hg hto (vw hg h).2 hy;exact Ac hg hto (.cons h hk)
theorem agw{g:bV}(hg:g.Ok){to:Int}(hto:fM g.rs to=true){x:Int}(hx:fM g.rs x=true)(hne:x≠to)(h:dst g to x<far):∃y c,price g.ls x y=some c∧dst g to y<far∧c+dst g to y=dst g to x:=by
 obtain⟨k,hk⟩:=Aa hg hto hx h;generalize hv:dst g to x=v at hk;cases hk with
 | nil=>omega
 | @cons k' _ y c w hp hw=>
   have h1:=Ac hg hto hw;have h2:=agv hg hto hp h1.2
   grind
theorem zK{g:bV}(hg:g.Ok){to:Int}{x y:Int}:y∈steps g (dist g to) x↔dst g to x≠far∧dst g to x≠0∧dst g to y<far∧∃c,price g.ls x y=some c∧c+dst g to y=dst g to x:=by
 show y∈(if dst g to x=far∨dst g to x=0 then []else _)↔_
 split
 ·grind
 ·rw[bG,Me hg];have e:DU g (dist g to) x y=(decide (dst g to y<far)&&decide ((price g.ls x y).getD 0+dst g to y=dst g to x)):=rfl
  grind
theorem acw{g:bV}(hg:g.Ok){to:Int}(hto:fM g.rs to=true){x:Int}(hx:fM g.rs x=true)(hne:x≠to)(h:dst g to x<far):∃y,y∈steps g (dist g to) x:=by obtain⟨y,c,h1,h2,h3⟩:=agw hg hto hx hne h;exact⟨y,(zK hg).2 ⟨by omega,fun e=>hne (KY hg hto hx e),h2,c,h1,h3⟩⟩
inductive KE (g:bV) (t f:Int):Int→Prop
 | nil:KE g t f f
 | via {x y:Int}:KE g t f x→y∈steps g (dist g t) x→mZ g.rs y=false→KE g t f y
def P7(g:bV)(t f n:Int):Prop:=∃x,KE g t f x∧n∈steps g (dist g t) x∧mZ g.rs n=true
structure Jg(g:bV)(t f:Int)(s:List Int×List Int):Prop where
 nd:s.1.Nodup
 seen:∀x∈s.1,KE g t f x∧fM g.rs x=true
 NR:s.2.Pairwise (· < ·)
 out:∀x∈s.2,P7 g t f x
theorem aeI(g:bV)(s:List Int×List Int)(n:Int):∃r,(wM g s n).1=s.1++r:=by
 unfold wM;split
 ·simp
 ·split
  ·simp
  simp
theorem G7(g:bV):∀(l:List Int) (s:List Int×List Int),∃r,(l.foldl (wM g) s).1=s.1++r
 | [],s=>⟨[],by simp⟩
 | n::l,s=>by obtain⟨r1,h1⟩:=aeI g s n;obtain⟨r2,h2⟩:=G7 g l (wM g s n);exact⟨r1++r2,by rw[cO,h2,h1,eU]⟩
theorem Jg.step{g:bV}{t f x n:Int}{s:List Int×List Int}(h:Jg g t f s)(hx:KE g t f x)(hn:n∈steps g (dist g t) x):Jg g t f (wM g s n)∧(∀y∈s.2,y∈(wM g s n).2)∧(if mZ g.rs n=true then n∈(wM g s n).2 else n∈(wM g s n).1):=by
 unfold wM;by_cases hc:mZ g.rs n=true
 ·rw[if_pos hc,if_pos hc];obtain⟨h3,h4⟩:=Ep n h.NR;refine⟨⟨h.nd,h.seen,h3,fun y hy=>?_⟩,fun y hy=>(h4 y).2 (.inl hy),(h4 n).2 (.inr rfl)⟩;rcases (h4 y).1 hy with hy|rfl
  ·exact h.out y hy
  ·exact⟨x,hx,hn,hc⟩
 ·rw[if_neg hc,if_neg hc];by_cases hh:pY s.1 n=true
  ·grind[pY]
  ·rw[if_neg hh];have hni:n∉s.1:=by grind[pY]
   refine⟨⟨jh.2 ⟨h.nd,by simp,fun a ha b hb=>by grind⟩,fun y hy=>?_,h.NR,h.out⟩,fun _ h=>h,by simp⟩;rcases aJ.1 hy with hy|hy
   ·exact h.seen y hy
   ·simp at hy;subst hy;exact⟨.via hx hn (by simp[*]),EY hn⟩
theorem Jg.fold{g:bV}{t f x:Int}(hx:KE g t f x):∀(l:List Int) (s:List Int×List Int),(∀n∈l,n∈steps g (dist g t) x)→Jg g t f s→
  Jg g t f (l.foldl (wM g) s)∧(∀y∈s.2,y∈(l.foldl (wM g) s).2)∧∀n∈l,if mZ g.rs n=true then n∈(l.foldl (wM g) s).2 else n∈(l.foldl (wM g) s).1
 | [],s,_,h=>⟨h,fun _ h=>h,by simp⟩
 | n::l,s,hl,h=>by
   obtain⟨h1,h2,h3⟩:=h.step hx (hl n (by simp));obtain⟨h4,h5,h6⟩:=Jg.fold hx l _ (fun m hm=>hl m (by simp[*])) h1;refine⟨h4,fun y hy=>h5 y (h2 y hy),fun m hm=>?_⟩;rcases aG.1 hm with rfl|hm
   ·split
    ·simp_all
    ·rename_i hc;rw[if_neg hc]at h3
     obtain⟨r,hr⟩:=G7 g l (wM g s m);simp[*]
   simp[*]
def aqV(g:bV)(t:Int)(i:Nat)(s:List Int×List Int):Prop:=∀j<i,∀x,s.1[j]? = some x→∀n∈steps g (dist g t) x,if mZ g.rs n=true then n∈s.2 else n∈s.1
theorem SY{g:bV}{t f:Int}:∀(k i:Nat) (s:List Int×List Int),Jg g t f s→aqV g t i s→i≤s.1.length→g.rs.length+1≤k+i→
  Jg g t f (Af g (dist g t) k i s)∧(∀x∈s.1,x∈(Af g (dist g t) k i s).1)∧∀x∈(Af g (dist g t) k i s).1,∀n∈steps g (dist g t) x,if mZ g.rs n=true then n∈(Af g (dist g t) k i s).2 else n∈(Af g (dist g t) k i s).1
 | 0,i,s,h,_,hi,hk=>by have:=zT h.nd (fun x hx=>(h.seen x hx).2);omega
 | k+1,i,s,h,hc,hi,hk=>by
   rw[Af];split
   ·rename_i hlt;have hx:s.1[i]? = some s.1[i]:=by simp
    have hxm:=h.seen _ (aB hlt);have e:s.1.getD i 0=s.1[i]:=by simp[*]
    generalize s.1[i]=x at hx hxm;obtain⟨h1,h2,h3⟩:=Jg.fold hxm.1 (steps g (dist g t) x) s (fun _ h=>h) h;obtain⟨r,hr⟩:=G7 g (steps g (dist g t) x) s;obtain⟨h4,h5,h6⟩:=SY k (i+1) ((steps g (dist g t) x).foldl (wM g) s) h1 (fun j hj y hy n hn=>by
     rw[hr,cZ (by omega)]at hy
     by_cases ej:j=i
     ·simp_all
     ·have:=hc j (by omega) y hy n hn
      grind) (by grind) (by omega)
    grind
   ·rename_i hlt;refine⟨h,fun _ h=>h,fun x hx n hn=>?_⟩;obtain⟨j,hj,rfl⟩:=cu.1 hx;exact hc j (by omega) _ (ah hj) n hn
theorem Cm{g:bV}(hg:jE g=0){f t:Int}(hf:fM g.rs f=true)(ht:fM g.rs t=true)(hne:f≠t){n:Int}:n∈hops g f t↔P7 g t f n:=by
 unfold hops;rw[if_pos ⟨hg,hf,ht,hne⟩];obtain⟨h1,h2,h3⟩:=SY (g:=g) (t:=t) (f:=f) (g.rs.length+1) 0 ([f],[]) ⟨by simp,fun x hx=>by simp at hx;subst hx;exact⟨.nil,hf⟩,by simp,by simp⟩ (fun j hj=>by omega) (by simp) (by omega);refine⟨h1.out n,fun⟨x,hx,hn,hc⟩=>?_⟩;have key:∀x,KE g t f x→x∈(Af g (dist g t) (g.rs.length+1) 0 ([f],[])).1:=fun x hx=>by
  induction hx with
  | nil=>simp[*]
  | via _ hy hc ih=>grind
 grind
theorem yR{g:bV}(hg:g.Ok){t x y:Int}(h:y∈steps g (dist g t) x):dst g t y<dst g t x∧dst g t x<far:=by obtain⟨h1,h2,h3,c,h4,h5⟩:=(zK hg).1 h;have:=xA hg h4;have:=tN hg t x;omega
theorem KE.le{g:bV}(hg:g.Ok){t f x:Int}(h:KE g t f x):dst g t x≤dst g t f:=by
 induction h with
 | nil=>omega
 | via _ hy _ ih=>have:=yR hg hy;omega
theorem P7.near{g:bV}(hg:g.Ok){t f n:Int}(h:P7 g t f n):dst g t n<dst g t f∧dst g t f<far∧dst g t n<far∧mZ g.rs n=true∧fM g.rs n=true:=by
 obtain⟨x,hx,hn,hc⟩:=h;have h1:=hx.le hg;have h2:=yR hg hn;obtain⟨_,_,h3,_⟩:=(zK hg).1 hn;refine⟨by omega,?_,h3,hc,EY hn⟩;cases hx with
 | nil=>omega
 | via h5 h6 h7=>
   have:∀z,KE g t f z→z=f∨dst g t f<far:=fun z hz=>by
    induction hz with
    | nil=>omega
    | via a b _ ih=>
      rcases ih with e|e
      ·subst e;exact .inr (yR hg b).2
      omega
   rcases this x (.via h5 h6 h7)with e|e
   ·simp_all
   omega
theorem P7.some{g:bV}(hg:g.Ok){t f:Int}(hf:fM g.rs f=true)(ht:fM g.rs t=true)(hc:mZ g.rs t=true)(hne:f≠t)(hd:dst g t f<far):∃n,P7 g t f n:=by
 have key:∀(m:Nat) (x:Int),(dst g t x).toNat≤m→KE g t f x→fM g.rs x=true→x≠t→dst g t x<far→∃n,P7 g t f n:=by
  intro m
  induction m with
  | zero=>
    intro x hm hx hh hn hl;have:=tN hg t x
    grind[KY]
  | succ m ih=>
    intro x hm hx hh hn hl;obtain⟨y,hy⟩:=acw hg ht hh hn hl;by_cases hcy:mZ g.rs y=true
    ·exact⟨y,x,hx,hy,hcy⟩
    ·have h1:=yR hg hy;obtain⟨_,_,h3,_⟩:=(zK hg).1 hy;have:=tN hg t y;exact ih y (by omega) (.via hx hy (by simpa using hcy)) (EY hy) (fun e=>by subst e;exact hcy hc) h3
 exact key _ f (aI _) .nil hf hne hd
set_option linter.unusedVariables false
structure Fits(b:Tb)(p:Pk):Prop where
 ck:chk b=0
 sd:b.sd=p.gU
 len:b.len=p.len
 ok:p.ok=true
 mode:p.mode≠2
theorem Fits.bit{b:Tb}{p:Pk}(h:Fits b p){k:Nat}(hk:k<64)(hb:p.bits.getLsbD k=true):(k:Int)<p.len:=(I5 h.ok).2 k hk hb
theorem B_{b:Tb}{p:Pk}(hc:chk b=0)(k:Nat):dU b p k=qc b (lT p k) (lN p):=abG hc p _
theorem Ae{b:Tb}{p:Pk}(hc:chk b=0){k:Nat}(h0:dU b p k≠0):Au p.set k p.len=true∧1≤dU b p k∧dU b p k≤99:=by
 rw[B_ hc]at h0⊢
 refine⟨Classical.byContradiction fun g=>h0 (by rw[lT,if_neg g];grind[Zz]),IL hc h0⟩
theorem EH{b:Tb}{p:Pk}(h:Fits b p){k:Nat}(hk:k<64)(hb:p.bits.getLsbD k=true){n:Int}(hn:1≤n∧n≤99):(Ci b (lN p) p.set n).getLsbD k=true↔dU b p k=n:=by
 have hl:=(I5 h.ok).1;have hlen:b.len≤64:=by rw[h.len];grind[dQ]
 have hkl:=h.bit hk hb;rw[X8 h.ck h.ok hn,IG b _ _ _ hk _ (by omega),h.len];constructor
 ·rintro⟨h1,h2,h3,h4⟩;rw[B_ h.ck,lT,if_pos h2];omega
 ·intro e;have h2:=Ae h.ck (k:=k) (p:=p) (by omega);rw[B_ h.ck,lT,if_pos h2.1]at e
  grind
noncomputable def JG(b:Tb)(p:Pk)(h:Int):Pk:=rZ p (Ci b (lN p) p.set h)
theorem IK{b:Tb}{p:Pk}(h:Fits b p){k:Nat}(hk:k<64){n:Int}(hn:1≤n∧n≤99):(JG b p n).bits.getLsbD k=true↔p.bits.getLsbD k=true∧dU b p k=n:=by
 simp only[JG,rZ,fA,aP]
 grind[EH]
theorem X9{p:Pk}(h:p.ok=true)(ht:p.ttl≠0)(m:BitVec 64):(rZ p m).ok=true:=by
 simp only[rZ]at *;simp only[Pk.ok,aP,yD,decide_eq_true_eq,yU]at h⊢
 grind
theorem Fits.mask{b c:Tb}{p:Pk}(h:Fits b p)(hc:Fits c p)(ht:p.ttl≠0)(m:BitVec 64):Fits c (rZ p m):=
 ⟨hc.ck,hc.sd,hc.len,X9 h.ok ht m,h.mode⟩
theorem OX{p:Pk}(h:p.ok=true)(ht:p.ttl≠0)(m:BitVec 64):lN (rZ p m)=lN p:=by simp only[lN,X9 h ht m,h,if_true];rfl
theorem or_bit(R M:BitVec 64){k:Nat}:(R|||M).getLsbD k=true↔R.getLsbD k=true∨M.getLsbD k=true:=by simp
theorem ady{j k:Nat}(hj:j<64)(hk:k<64):(1#64<<<j).getLsbD k=true↔k=j:=by grind
def Whole(b:Tb)(p:Pk)(R:BitVec 64):Prop:=(∀k<64,R.getLsbD k=true→p.bits.getLsbD k=true)∧
 ∀j k,j<64→k<64→p.bits.getLsbD j=true→dU b p j=dU b p k→dU b p k≠0→dU b p k≠b.r→R.getLsbD k=true→R.getLsbD j=true
structure adX(b:Tb)(p:Pk)(o o':Out)(R:BitVec 64):Prop where
 loc:∀k<64,o'.loc.getLsbD k=true↔o.loc.getLsbD k=true∨(R.getLsbD k=true∧dU b p k≠0∧dU b p k=b.r)
 lost:∀k<64,o'.lost.getLsbD k=true↔o.lost.getLsbD k=true∨(R.getLsbD k=true∧(dU b p k=0∨(dU b p k≠b.r∧p.ttl=0)))
 qy:∃H:List Int,o'.qy=o.qy++H.map (fun h=>(h,JG b p h))∧H.Nodup∧∀h,h∈H↔p.ttl≠0∧h≠0∧h≠b.r∧∃k<64,R.getLsbD k=true∧dU b p k=h
theorem adX.nil{b:Tb}{p:Pk}(o:Out):adX b p o o 0#64:=⟨by simp,by simp,[],by simp,by simp,by simp⟩
theorem Ej{b:Tb}{p:Pk}(h:Fits b p):∀(n:Nat) (o:Out) (R:BitVec 64),(jg R).length≤n→Whole b p R→adX b p o (C_ b p n o R) R
 | 0,o,R,hn,_=>by obtain rfl:=aai (R:=R) (by omega);exact .nil o
 | n+1,o,R,hn,hW=>by
   rw[C_];by_cases h0:R=0#64
   ·subst h0;rw[if_pos rfl];exact .nil o
   rw[if_neg h0];obtain⟨t1,t2,t3⟩:=zx h0;have hmb:=LD h.ck h.ok h.len hW.1 h0;have hpop:=MP t1 t2 hmb;have hpz:=hW.1 _ t1 t2;generalize hj:tz R=j at t1 t2 t3 hmb hpop hpz;by_cases c0:dU b p j=0
   ·have eM:vJ b p R=1#64<<<j:=by rw[vJ,hj,if_pos (.inl c0)]
    have eO:uO b p o R=⟨o.loc,o.lost|||1#64<<<j,o.qy⟩:=by rw[uO,hj,if_pos c0]
    rw[eM]at hpop
    rw[eM,eO];have hb:∀k<64,(R &&& ~~~ (1#64<<<j)).getLsbD k=true↔R.getLsbD k=true∧k≠j:=fun k hk=>by grind
    have ih:=Ej h n ⟨o.loc,o.lost|||1#64<<<j,o.qy⟩ (R &&& ~~~ (1#64<<<j)) (by omega)
     ⟨fun k hk hb'=>hW.1 k hk ((hb k hk).1 hb').1,fun i k hi hk hpi e e0 er hr=>(hb i hi).2 ⟨hW.2 i k hi hk hpi e e0 er ((hb k hk).1 hr).1,fun e'=>by simp_all⟩⟩
    refine⟨fun k hk=>?_,fun k hk=>?_,?_⟩
    ·rw[ih.loc k hk,hb k hk]
     grind
    ·rw[ih.lost k hk,hb k hk,or_bit,ady t1 hk]
     grind
    ·obtain⟨H,h1,h2,h3⟩:=ih.qy
     grind
   by_cases c1:dU b p j=b.r
   ·have eM:vJ b p R=1#64<<<j:=by rw[vJ,hj,if_pos (.inr c1)]
    have eO:uO b p o R=⟨o.loc|||1#64<<<j,o.lost,o.qy⟩:=by rw[uO,hj,if_neg c0,if_pos c1]
    rw[eM]at hpop
    rw[eM,eO];have hb:∀k<64,(R &&& ~~~ (1#64<<<j)).getLsbD k=true↔R.getLsbD k=true∧k≠j:=fun k hk=>by grind
    have ih:=Ej h n ⟨o.loc|||1#64<<<j,o.lost,o.qy⟩ (R &&& ~~~ (1#64<<<j)) (by omega)
     ⟨fun k hk hb'=>hW.1 k hk ((hb k hk).1 hb').1,fun i k hi hk hpi e e0 er hr=>(hb i hi).2 ⟨hW.2 i k hi hk hpi e e0 er ((hb k hk).1 hr).1,fun e'=>by simp_all⟩⟩
    refine⟨fun k hk=>?_,fun k hk=>?_,?_⟩
    ·rw[ih.loc k hk,hb k hk,or_bit,ady t1 hk]
     grind
    ·rw[ih.lost k hk,hb k hk]
     grind
    ·obtain⟨H,h1,h2,h3⟩:=ih.qy
     grind
   have hr:=(Ae h.ck c0).2;have eM:vJ b p R=rQ b p R (dU b p j):=by rw[vJ,hj,if_neg (fun h=>h.elim c0 c1)]
   rw[eM]at hpop⊢
   have ahc:∀k<64,(rQ b p R (dU b p j)).getLsbD k=true↔R.getLsbD k=true∧dU b p k=dU b p j:=fun k hk=>by
    rw[rQ,fA,aP];constructor
    ·rintro⟨a1,a2⟩;exact⟨a1,(EH h hk (hW.1 k hk a1) hr).1 a2⟩
    ·rintro⟨a1,a2⟩;exact⟨a1,(EH h hk (hW.1 k hk a1) hr).2 a2⟩
   have hb:∀k<64,(R &&& ~~~ rQ b p R (dU b p j)).getLsbD k=true↔R.getLsbD k=true∧dU b p k≠dU b p j:=fun k hk=>by grind
   have hW':Whole b p (R &&& ~~~ rQ b p R (dU b p j)):=⟨fun k hk hb'=>hW.1 k hk ((hb k hk).1 hb').1,fun i k hi hk hpi e e0 er hr=>(hb i hi).2 ⟨hW.2 i k hi hk hpi e e0 er ((hb k hk).1 hr).1,by grind⟩⟩
   have ang:(p.setB R).bits&&&rQ b p R (dU b p j)=p.bits&&&Ci b (lN p) p.set (dU b p j):=by
    apply jc;intro k hk
    show(R&&&rQ b p R (dU b p j)).getLsbD k=_
    rw[jO,fA,aP,ahc k hk,fA,aP];constructor
    ·rintro⟨_,a1,a2⟩;have:=hW.1 k hk a1;exact⟨this,(EH h hk this hr).2 a2⟩
    ·rintro⟨a1,a2⟩;have e:=(EH h hk a1 hr).1 a2;have:=hW.2 k j hk t1 a1 e c0 c1 t2;exact⟨this,this,e⟩
   have hnz:(p.setB R).bits&&&rQ b p R (dU b p j)≠0#64:=fun e=>by
    have:=congrArg (fun z=>z.getLsbD j) e;simp only[mX]at this
    change (R&&&rQ b p R (dU b p j)).getLsbD j=false at this
    rw[fA,t2,(ahc j t1).2 ⟨t2,rfl⟩]at this
    simp at this
   have hok:=Yd h.ok hW.1;by_cases ht:p.ttl=0
   ·have eC:(sH (p.setB R) (rQ b p R (dU b p j))).2=false:=by
     rw[sH,if_neg (fun a=>a.2.1 ht)]
    have eO:uO b p o R=⟨o.loc,o.lost|||rQ b p R (dU b p j),o.qy⟩:=by rw[uO,hj,if_neg c0,if_neg c1,if_neg (by rw[eC];simp)]
    rw[eO];have ih:=Ej h n ⟨o.loc,o.lost|||rQ b p R (dU b p j),o.qy⟩ _ (by omega) hW';refine⟨fun k hk=>?_,fun k hk=>?_,?_⟩
    ·rw[ih.loc k hk,hb k hk];constructor
     ·rintro (a|⟨⟨a1,a2⟩,a3⟩)
      ·exact .inl a
      ·exact .inr ⟨a1,a3⟩
     ·rintro (a|⟨a1,a3⟩)
      ·exact .inl a
      ·exact .inr ⟨⟨a1,fun e=>c1 (by rw[←e];exact a3.2)⟩,a3⟩
    ·rw[ih.lost k hk,hb k hk,or_bit,ahc k hk];constructor
     ·rintro ((a|⟨a1,a2⟩)|⟨⟨a1,a2⟩,a3⟩)
      ·exact .inl a
      ·exact .inr ⟨a1,.inr ⟨by rw[a2];exact c1,ht⟩⟩
      ·exact .inr ⟨a1,a3⟩
     ·rintro (a|⟨a1,a3⟩)
      ·exact .inl (.inl a)
      ·by_cases e:dU b p k=dU b p j
       ·exact .inl (.inr ⟨a1,e⟩)
       ·exact .inr ⟨⟨a1,e⟩,a3⟩
    ·obtain⟨H,h1,h2,h3⟩:=ih.qy;refine⟨H,h1,h2,fun x=>?_⟩;rw[h3];exact⟨fun a=>absurd ht a.1,fun a=>absurd ht a.1⟩
   ·have eC:sH (p.setB R) (rQ b p R (dU b p j))=(JG b p (dU b p j),true):=by
     rw[sH,if_pos ⟨hok,ht,hnz⟩,rZ,ang];rfl
    have eO:uO b p o R=⟨o.loc,o.lost,o.qy++[(dU b p j,JG b p (dU b p j))]⟩:=by rw[uO,hj,if_neg c0,if_neg c1,eC];rfl
    rw[eO];have ih:=Ej h n ⟨o.loc,o.lost,o.qy++[(dU b p j,JG b p (dU b p j))]⟩ _ (by omega) hW';refine⟨fun k hk=>?_,fun k hk=>?_,?_⟩
    ·rw[ih.loc k hk,hb k hk];constructor
     ·rintro (a|⟨⟨a1,a2⟩,a3⟩)
      ·exact .inl a
      ·exact .inr ⟨a1,a3⟩
     ·rintro (a|⟨a1,a3⟩)
      ·exact .inl a
      ·exact .inr ⟨⟨a1,fun e=>c1 (by rw[←e];exact a3.2)⟩,a3⟩
    ·rw[ih.lost k hk,hb k hk];constructor
     ·rintro (a|⟨⟨a1,a2⟩,a3⟩)
      ·exact .inl a
      ·exact .inr ⟨a1,a3⟩
     ·rintro (a|⟨a1,a3⟩)
      ·exact .inl a
      ·refine .inr ⟨⟨a1,fun e=>?_⟩,a3⟩;rcases a3 with a3|a3
       ·exact c0 (by rw[←e];exact a3)
       ·exact ht a3.2
    ·obtain⟨H,h1,h2,h3⟩:=ih.qy;refine⟨dU b p j::H,by rw[h1];simp,dG.2 ⟨fun hm=>?_,h2⟩,fun x=>?_⟩
     ·obtain⟨_,_,_,k,hk,a4,a5⟩:=(h3 _).1 hm;exact((hb k hk).1 a4).2 a5
     ·rw[aG,h3];constructor
      ·rintro (rfl|⟨a1,a2,a3,k,hk,a4,a5⟩)
       ·exact⟨ht,c0,c1,j,t1,t2,rfl⟩
       ·exact⟨a1,a2,a3,k,hk,((hb k hk).1 a4).1,a5⟩
      ·rintro⟨a1,a2,a3,k,hk,a4,a5⟩;by_cases e:x=dU b p j
       ·exact .inl e
       ·exact .inr ⟨a1,a2,a3,k,hk,(hb k hk).2 ⟨a4,fun e'=>e (by rw[←a5,e'])⟩,a5⟩
theorem BR{b:Tb}{p:Pk}(h:Fits b p):yT b p=(vX b p,0)∧adX b p vZ (vX b p) p.bits:=by refine⟨?_,Ej h 64 vZ p.bits (zF _) ⟨fun _ _ h=>h,fun j k _ _ h _ _ _ _=>h⟩⟩;rw[yT,if_neg (by simp[h.ck,h.ok]),if_neg h.mode,if_neg (by simp[h.sd,h.len])]
def uN.at(t:uN)(k:Nat):uN:=⟨t.dl.filter fun d=>d.2.bits.getLsbD k,t.cr.filter fun c=>c.2.2.getLsbD k,t.ls.filter fun x=>x.2.getLsbD k⟩
def uN.app(t u:uN):uN:=⟨t.dl++u.dl,t.cr++u.cr,t.ls++u.ls⟩
theorem uN.Xm(t:uN):t.app o_=t:=by simp[uN.app,o_]
theorem uN.ad7(t u v:uN):(t.app u).app v=t.app (u.app v):=by simp[uN.app]
structure uU(l:List Tb)(p:Pk):Prop where
 ok:p.ok=true
 all:∀b∈l,Fits b p
theorem uU.mask{l:List Tb}{p:Pk}(h:uU l p)(ht:p.ttl≠0)(m:BitVec 64):uU l (rZ p m):=⟨X9 h.ok ht m,fun b hb=>(h.all b hb).mask (h.all b hb) ht m⟩
noncomputable def way(l:List Tb)(k:Nat):Nat→Int×Pk→uN
 | 0,_=>o_
 | n+1,q=>match iq l q.1 with
   | none=>⟨[],[],[(q.1,q.2.bits)]⟩
   | some b=>if dU b q.2 k=0 then ⟨[],[],[(q.1,(vX b q.2).lost)]⟩
     else if dU b q.2 k=b.r then ⟨[(q.1,pz q.2 k)],[],[]⟩
     else if q.2.ttl=0 then ⟨[],[],[(q.1,(vX b q.2).lost)]⟩
     else(⟨[],[(q.1,dU b q.2 k,(JG b q.2 (dU b q.2 k)).bits)],[]⟩:uN).app (way l k n (dU b q.2 k,JG b q.2 (dU b q.2 k)))
noncomputable def UQ(l:List Tb)(k:Nat):List (Int×Pk)→uN
 | []=>o_
 | q::_=>way l k (q.2.ttl.toNat+1) q
theorem Lp{α:Type}[DecidableEq α]{l:List α}(h:l.Nodup)(a:α):l.filter (fun x=>decide (x=a))=if a∈l then [a]else []:=by
 induction l with
 | nil=>simp
 | cons x l ih=>grind
theorem O8(B:BitVec 64):(jg B).Nodup:=List.nodup_range.sublist jB
theorem nP{B:BitVec 64}{k:Nat}:k∈jg B↔k<64∧B.getLsbD k=true:=by simp[jg]
theorem MK{p:Pk}(h:p.ok=true){j:Nat}(hj:j<64)(hb:p.bits.getLsbD j=true):pz p j=⟨p.mode,p.gU,p.set,p.len,p.ttl,p.ent,p.ing,p.proto,1#64<<<j,p.pay⟩:=by rw[pz,if_pos ⟨h,by omega,by omega,by trivial⟩];simp
theorem ajm{p:Pk}(h:p.ok=true){o:Out}(ho:∀k<64,o.loc.getLsbD k=true→p.bits.getLsbD k=true)(r:Int){k:Nat}(hk:k<64):
  (xU r o p).filter (fun d=>d.2.bits.getLsbD k)=if o.loc.getLsbD k=true then [(r,pz p k)]else []:=by
 have e:(xU r o p).filter (fun d=>d.2.bits.getLsbD k)=((jg o.loc).filter fun j=>decide (j=k)).map fun (j:Nat)=>(r,pz p j):=by
  unfold xU vW;rw[bQ,jw]
  congr 1
  apply eu;intro j hj;obtain⟨h1,h2⟩:=nP.1 hj;have:=MK h h1 (ho j h1 h2)
  grind
 rw[e,Lp (O8 _)];by_cases hl:o.loc.getLsbD k=true
 ·rw[if_pos (nP.2 ⟨hk,hl⟩),if_pos hl];rfl
 ·rw[if_neg (fun a=>hl (nP.1 a).2),if_neg hl];rfl
theorem adX.hop{b:Tb}{p:Pk}(h:Fits b p){o:Out}(hF:adX b p vZ o p.bits){k:Nat}(hk:k<64):
  o.qy.filter (fun c=>c.2.bits.getLsbD k)=if p.bits.getLsbD k=true∧p.ttl≠0∧dU b p k≠0∧dU b p k≠b.r then [(dU b p k,JG b p (dU b p k))]else []:=by
 obtain⟨H,h1,h2,h3⟩:=hF.qy;rw[h1];simp only[vZ,gW];rw[jw];by_cases hb:p.bits.getLsbD k=true
 ·have e:H.filter ((fun c:Int×Pk=>c.2.bits.getLsbD k)∘fun x=>(x,JG b p x))=H.filter fun x=>decide (x=dU b p k):=by
   apply eu;intro x hx;obtain⟨_,a1,a2,j,hj,a3,a4⟩:=(h3 x).1 hx;have hr:=(Ae h.ck (k:=j) (p:=p) (by omega)).2;rw[a4]at hr
   show(JG b p x).bits.getLsbD k=_
   rw[jO,IK h hk hr]
   grind
  rw[e,Lp h2]
  grind
 ·rw[if_neg (fun a=>hb a.1)];simp only[List.map_eq_nil_iff,fU];intro x hx hc;obtain⟨_,a1,a2,j,hj,a3,a4⟩:=(h3 x).1 hx;have hr:=(Ae h.ck (k:=j) (p:=p) (by rw[a4];exact a1)).2
  grind[IK]
theorem ajn(l:List (Int×BitVec 64))(r:Int)(B:BitVec 64)(k:Nat):
  (if B=0#64 then l else l++[(r,B)]).filter (fun x=>x.2.getLsbD k)=l.filter (fun x=>x.2.getLsbD k)++if B.getLsbD k=true then [(r,B)]else []:=by
 grind
theorem step_some{l:List Tb}{q:Int×Pk}{b:Tb}(hF:uU l q.2)(hf:iq l q.1=some b)(t:uN){k:Nat}(hk:k<64):
  (stepT l q t).at k=(t.at k).app ⟨if(vX b q.2).loc.getLsbD k=true then [(q.1,pz q.2 k)]else [],((nextQ l q).filter fun c=>c.2.bits.getLsbD k).map (fun c=>(q.1,c.1,c.2.bits)),if(vX b q.2).lost.getLsbD k=true then [(q.1,(vX b q.2).lost)]else []⟩:=by
 have hb:=hF.all b (nO hf).1;obtain⟨h1,h2⟩:=BR hb;have hn:nextQ l q=(vX b q.2).qy:=by grind[nextQ]
 rw[hn];simp only[stepT,hf,h1,uN.at,uN.app,bJ];rw[ajm hF.ok (fun k hk a=>by
  rcases (h2.loc k hk).1 a with a|a
  ·grind[vZ]
  simp[*]) q.1 hk,ajn,jw]
 rfl
theorem ajT{l:List Tb}{q:Int×Pk}(hF:uU l q.2)(t:uN){k:Nat}(hk:k<64)(hq:q.2.bits.getLsbD k=true):
  ((nextQ l q).filter fun c=>c.2.bits.getLsbD k).length≤1∧((stepT l q t).at k).app (UQ l k ((nextQ l q).filter fun c=>c.2.bits.getLsbD k))=(t.at k).app (way l k (q.2.ttl.toNat+1) q):=by
 cases hf:iq l q.1 with
 | none=>
   have hn:nextQ l q = []:=by grind[nextQ]
   grind[stepT,way,uN.at,uN.app,UQ,o_]
 | some b=>
   have hb:=hF.all b (nO hf).1;obtain⟨h1,h2⟩:=BR hb;have hn:nextQ l q=(vX b q.2).qy:=by grind[nextQ]
   rw[step_some hF hf t hk,hn,h2.hop hb hk,uN.ad7];have hl:=h2.loc k hk;have hs:=h2.lost k hk;simp only[vZ,mX,bI,false_or,hq,true_and]at hl hs;by_cases c0:dU b q.2 k=0
   ·have l1 :¬(vX b q.2).loc.getLsbD k=true:=fun a=>(hl.1 a).1 c0
    have l2:(vX b q.2).lost.getLsbD k=true:=hs.2 (.inl c0);rw[if_neg l1,if_neg (fun a=>a.2.2.1 c0),if_pos l2]
    grind[way,UQ,uN.app,o_]
   by_cases c1:dU b q.2 k=b.r
   ·have l1:(vX b q.2).loc.getLsbD k=true:=hl.2 ⟨c0,c1⟩;have l2 :¬(vX b q.2).lost.getLsbD k=true:=fun a=>by
     rcases hs.1 a with a|a
     ·exact c0 a
     ·exact a.1 c1
    rw[if_pos l1,if_neg (fun a=>a.2.2.2 c1),if_neg l2];refine⟨by simp,?_⟩;simp only[way,hf,if_neg c0,if_pos c1];simp[UQ,uN.app,o_]
   have l1 :¬(vX b q.2).loc.getLsbD k=true:=fun a=>c1 (hl.1 a).2
   by_cases c2:q.2.ttl=0
   ·have l2:(vX b q.2).lost.getLsbD k=true:=hs.2 (.inr ⟨c1,c2⟩);rw[if_neg l1,if_neg (fun a=>a.2.1 c2),if_pos l2];refine⟨by simp,?_⟩;simp only[way,hf,if_neg c0,if_neg c1,if_pos c2];simp[UQ,uN.app,o_]
   ·have l2 :¬(vX b q.2).lost.getLsbD k=true:=fun a=>by
     rcases hs.1 a with a|a
     ·exact c0 a
     ·exact c2 a.2
    rw[if_neg l1,if_pos ⟨hq,c2,c0,c1⟩,if_neg l2];refine⟨by simp,?_⟩;have ht:=yB hF.ok;have e:(JG b q.2 (dU b q.2 k)).ttl.toNat+1=q.2.ttl.toNat:=by simp only[JG,rZ];omega
    rw[way];simp only[hf,if_neg c0,if_neg c1,if_neg c2,UQ,e,aH,dY]
theorem ain{l:List Tb}{q:Int×Pk}(hF:uU l q.2)(t:uN){k:Nat}(hk:k<64)(hq :¬q.2.bits.getLsbD k=true):
  ((nextQ l q).filter fun c=>c.2.bits.getLsbD k) = []∧(stepT l q t).at k=t.at k:=by
 cases hf:iq l q.1 with
 | none=>grind[nextQ,stepT,uN.at]
 | some b=>
   have hb:=hF.all b (nO hf).1;obtain⟨h1,h2⟩:=BR hb;have hn:nextQ l q=(vX b q.2).qy:=by grind[nextQ,vX]
   have hl:=h2.loc k hk;have hs:=h2.lost k hk;simp only[vZ,mX,bI,false_or,hq,false_and,iff_false]at hl hs;rw[step_some hF hf t hk,hn,h2.hop hb hk,if_neg (fun a=>hq a.1),if_neg hl,if_neg hs];exact⟨rfl,uN.Xm _⟩
theorem MC{l:List Tb}{q:Int×Pk}(hF:uU l q.2):∀c∈nextQ l q,uU l c.2:=fun c hc=>by
 cases hf:iq l q.1 with
 | none=>grind[nextQ]
 | some b=>
   have hb:=hF.all b (nO hf).1;obtain⟨h1,h2⟩:=BR hb;have hn:nextQ l q=(vX b q.2).qy:=by grind[nextQ,vX]
   obtain⟨H,h3,h4,h5⟩:=h2.qy;rw[hn,h3]at hc
   simp only[vZ,gW,ay]at hc;obtain⟨x,hx,rfl⟩:=hc;exact hF.mask ((h5 x).1 hx).1 _
theorem QN(l:List Tb){k:Nat}(hk:k<64):∀(n:Nat) (Q:List (Int×Pk)) (t:uN),wR Q≤n→(∀q∈Q,uU l q.2)→(Q.filter fun c=>c.2.bits.getLsbD k).length≤1→
  (lK l n Q t).at k=(t.at k).app (UQ l k (Q.filter fun c=>c.2.bits.getLsbD k))
 | 0,Q,t,h,_,_=>by have:=Hg Q;obtain rfl:Q = []:=dB.1 (by omega);simp[EW,UQ,uN.Xm]
 | n+1,[],t,_,_,_=>by simp[EW,UQ,uN.Xm]
 | n+1,q::Q,t,h,hF,h1=>by
   have hq:=MB l q;rw[BG]at h
   have hFq:=hF q (by simp);have hF':∀c∈Q++nextQ l q,uU l c.2:=fun c hc=>by grind[MC]
   rw[lK];have hw:wR (Q++nextQ l q)≤n:=by grind[Fa]
   by_cases hb:q.2.bits.getLsbD k=true
   ·rw[dD,if_pos hb]at h1⊢
    simp only[aT]at h1;have hQ:Q.filter (fun c=>c.2.bits.getLsbD k) = []:=dB.1 (by omega);obtain⟨a1,a2⟩:=ajT hFq t hk hb;rw[QN l hk n _ _ hw hF' (by rw[bJ,hQ];simpa using a1),bJ,hQ,gW,a2];rfl
   ·rw[dD,if_neg hb]at h1⊢
    obtain⟨a1,a2⟩:=ain hFq t hk hb;rw[QN l hk n _ _ hw hF' (by rw[bJ,a1,aZ];exact h1),bJ,a1,aZ,a2]
theorem acp{l:List Tb}{p:Pk}(hF:uU l p)(r:Int){k:Nat}(hk:k<64)(hb:p.bits.getLsbD k=true):(lK l (wt p) [(r,p)] o_).at k=way l k (p.ttl.toNat+1) (r,p):=by rw[QN l hk _ _ _ (by simp[wR]) (by simp[*]) (by simp[*])];simp[dD,hb,UQ,uN.at,o_,uN.app]
theorem adJ{l:List Tb}{p:Pk}(hF:uU l p)(r:Int){k:Nat}(hk:k<64)(hb :¬p.bits.getLsbD k=true):(lK l (wt p) [(r,p)] o_).at k=o_:=by grind[QN,wR,UQ,uN.at,o_,uN.app]
inductive Dl (l:List Tb) (id pl:Int):Int→List Int→Prop
 | here {r:Int} {b:Tb}:iq l r=some b→qc b id pl=r→r≠0→Dl l id pl r []
 | next {r h:Int} {b:Tb} {ws:List Int}:iq l r=some b→qc b id pl=h→h≠0→h≠r→Dl l id pl h ws→Dl l id pl r (h::ws)
theorem Dl.det{l:List Tb}{id pl r:Int}{ws:List Int}(h:Dl l id pl r ws):∀{us:List Int},Dl l id pl r us→ws=us:=by
 induction h with
 | here h1 h2 h3=>
   intro us g;cases g with
   | here=>rfl
   | next g1 g2 g3 g4 _=>simp_all
 | next h1 h2 h3 h4 _ ih=>
   intro us g;cases g with
   | here g1 g2 g3=>simp_all
   | next g1 g2 g3 g4 g5=>grind
def xg(r:Int):List Int→Int
 | []=>r
 | h::ws=>xg h ws
def edges(r:Int):List Int→List (Int×Int)
 | []=>[]
 | h::ws=>(r,h)::edges h ws
theorem aew(r:Int)(ws:List Int):(edges r ws).length=ws.length:=by
 induction ws generalizing r with
 | nil=>rfl
 | cons h ws ih=>grind[edges]
theorem Dl.rest{l:List Tb}{id pl r:Int}{ws:List Int}(h:Dl l id pl r ws):∀{x:Int},x∈ws→∃us,Dl l id pl x us∧us.length<ws.length:=by
 induction h with
 | here=>simp
 | next h1 h2 h3 h4 h5 ih=>grind
theorem Dl.nodup{l:List Tb}{id pl r:Int}{ws:List Int}(h:Dl l id pl r ws):(r::ws).Nodup:=by
 induction h with
 | here=>simp
 | @next r h b ws h1 h2 h3 h4 h5 ih=>
   refine dG.2 ⟨fun hm=>?_,ih⟩;have hD:=Dl.next h1 h2 h3 h4 h5;obtain⟨us,g1,g2⟩:=hD.rest hm;have:=hD.det g1
   simp_all
theorem Dl.found{l:List Tb}{id pl r:Int}{ws:List Int}(h:Dl l id pl r ws):∀x∈r::ws,(iq l x).isSome:=by
 induction h with
 | here h1=>simp[*]
 | next h1 _ _ _ _ ih=>simp_all
theorem Dl.len{l:List Tb}{id pl r:Int}{ws:List Int}(h:Dl l id pl r ws):ws.length+1≤l.length:=by have:=alx h.nodup h.found;omega
def pkD(p:Pk)(k:Nat)(s:Int):Pk:=⟨p.mode,p.gU,p.set,p.len,p.ttl-s,p.ent,p.ing,p.proto,1#64<<<k,p.pay⟩
theorem aag(p:Pk)(m:BitVec 64)(k:Nat)(s:Int):pkD (rZ p m) k s=pkD p k (s+1):=by grind[pkD,rZ]
theorem OC(p:Pk)(m:BitVec 64)(k:Nat):lT (rZ p m) k=lT p k:=rfl
structure amq(l:List Tb)(k:Nat)(p:Pk)(r:Int)(ws:List Int)(t:uN):Prop where
 dl:t.dl = [(xg r ws,pkD p k ws.length)]
 cr:t.cr.map (fun c=>(c.1,c.2.1))=edges r ws
 ls:t.ls = []
theorem adS{l:List Tb}{k:Nat}(hk:k<64){id pl:Int}:∀(n:Nat) {p:Pk} {r:Int} {ws:List Int},p.ttl.toNat+1≤n→uU l p→p.bits.getLsbD k=true→lT p k=id→lN p=pl→Dl l id pl r ws→(ws.length:Int)≤p.ttl→amq l k p r ws (way l k n (r,p))
 | 0,p,r,ws,hn,_,_,_,_,_,_=>by omega
 | n+1,p,r,ws,hn,hF,hb,hid,hpl,hD,hlen=>by
   have ht:=yB hF.ok;cases hD with
   | @here _ b h1 h2 h3=>
     have hbr:=(nO h1).2;have hB:=hF.all b (nO h1).1;have e:dU b p k=r:=by rw[B_ hB.ck,hid,hpl];omega
     rw[way];simp only[h1,e];rw[if_neg h3,if_pos hbr.symm];refine⟨?_,rfl,rfl⟩;simp only[xg];rw[MK hF.ok hk hb];simp[pkD]
   | @next _ h b ws h1 h2 h3 h4 h5=>
     have hbr:=(nO h1).2;have hB:=hF.all b (nO h1).1;have e:dU b p k=h:=by rw[B_ hB.ck,hid,hpl];omega
     simp only[aT]at hlen;have ht0:p.ttl≠0:=by omega
     have hr:=(Ae hB.ck (k:=k) (p:=p) (by omega)).2;have ih:=adS hk n (p:=JG b p h) (r:=h) (ws:=ws) (by grind[JG,rZ]) (hF.mask ht0 _) ((IK hB hk (by omega)).2 ⟨hb,e⟩) (by trivial) (by rw[JG,OX hF.ok ht0];omega) h5 (by grind[JG,rZ]);rw[way];simp only[h1,e];rw[if_neg h3,if_neg (by omega),if_neg ht0];refine⟨?_,?_,?_⟩
     ·have h6:=ih.dl
      grind[uN.app,xg,JG,aag]
     ·simp only[uN.app,fF,gW,aH,ih.cr,edges]
     ·simp only[uN.app,gW,ih.ls]
structure ams(k:Nat)(ttl:Int)(t:uN):Prop where
 dl:t.dl = []
 ls:t.ls.length=1
 cr:(t.cr.length:Int)≤ttl
theorem aaM{l:List Tb}{k:Nat}(hk:k<64){id pl:Int}:∀(n:Nat) {p:Pk} {r:Int},p.ttl.toNat+1≤n→uU l p→p.bits.getLsbD k=true→lT p k=id→lN p=pl→(∀ws,Dl l id pl r ws→p.ttl<ws.length)→ams k p.ttl (way l k n (r,p))
 | 0,p,r,hn,_,_,_,_,_=>by omega
 | n+1,p,r,hn,hF,hb,hid,hpl,hD=>by
   have ht:=yB hF.ok;rw[way];cases h1:iq l r with
   | none=>exact⟨rfl,rfl,by simp[*]⟩
   | some b=>
     have hbr:=(nO h1).2;have hB:=hF.all b (nO h1).1;have e:dU b p k=qc b id pl:=by rw[B_ hB.ck,hid,hpl]
     simp only;by_cases c0:dU b p k=0
     ·rw[if_pos c0];exact⟨rfl,rfl,by simpa using ht.1⟩
     by_cases c1:dU b p k=b.r
     ·exfalso;have:=hD [] (.here h1 (by rw[←e,c1,hbr]) (by rw[←hbr,←c1];exact c0));simp at this;omega
     by_cases c2:p.ttl=0
     ·rw[if_neg c0,if_neg c1,if_pos c2];exact⟨rfl,rfl,by simpa using ht.1⟩
     rw[if_neg c0,if_neg c1,if_neg c2];have hr:=(Ae hB.ck c0).2;have ih:=aaM hk n (p:=JG b p (dU b p k)) (r:=dU b p k) (by simp only[JG,rZ];omega) (hF.mask c2 _) ((IK hB hk hr).2 ⟨hb,rfl⟩) (id:=id) (pl:=pl) (by rw[JG,OC];exact hid) (by rw[JG,OX hF.ok c2];exact hpl) (fun ws hw=>by
      have:=hD (dU b p k::ws) (.next h1 e.symm c0 (by rw[←hbr];exact c1) hw);simp only[aT]at this;simp only[JG,rZ];omega)
     refine⟨by simp[uN.app,ih.dl],by simp[uN.app,ih.ls],?_⟩;have:=ih.cr;have e2:(JG b p (dU b p k)).ttl=p.ttl-1:=rfl
     grind[uN.app]
theorem adT{l:List Tb}{k:Nat}(hk:k<64){p:Pk}(hF:uU l p)(hb:p.bits.getLsbD k=true)(r:Int):
  (∃ws,Dl l (lT p k) (lN p) r ws∧(ws.length:Int)≤p.ttl∧amq l k p r ws (way l k (p.ttl.toNat+1) (r,p)))∨
  ((∀ws,Dl l (lT p k) (lN p) r ws→p.ttl<ws.length)∧ams k p.ttl (way l k (p.ttl.toNat+1) (r,p))):=by
 by_cases h:∃ws,Dl l (lT p k) (lN p) r ws∧(ws.length:Int)≤p.ttl
 ·obtain⟨ws,h1,h2⟩:=h;exact .inl ⟨ws,h1,h2,adS hk _ (aI _) hF hb rfl rfl h1 h2⟩
 ·have h':∀ws,Dl l (lT p k) (lN p) r ws→p.ttl<ws.length:=by simp_all
  exact .inr ⟨h',aaM hk _ (aI _) hF hb rfl rfl h'⟩
end Go.Proofs
