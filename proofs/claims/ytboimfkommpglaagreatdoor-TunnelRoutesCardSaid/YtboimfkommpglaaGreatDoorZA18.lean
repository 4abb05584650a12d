/-
  What functions of the program compute, stated as contracts over plain data; the conditions of each stand in its own statement.
-/
import Derived.Test.YtboimfkommpglaaGreatDoorZA17
set_option linter.unusedSimpArgs false
set_option maxRecDepth 100000
set_option maxHeartbeats 2000000
namespace Go.Proofs
open Go Go.Tr
def jY:List Rt→Int→Option Nat
 | [],_=>none
 | x::l,r=>if x.id=r then some 0 else(jY l r).map (· + 1)
theorem OV:∀{l:List Rt} {r:Int} {i:Nat},jY l r=some i→i<l.length
 | [],_,_,h=>by simp[jY]at h
 | x::l,r,i,h=>by
   rw[jY]at h
   split at h
   ·simp at h;subst h;simp
   ·cases hp:jY l r with
    | none=>simp[hp]at h
    | some j=>simp[hp]at h;subst h;have:=OV hp;simp;omega
def GN(g:ay)(r:Int):Nat:=(jY g.rs r).getD 0
theorem afG{g:ay}(r:Int)(h:0<g.rs.length):GN g r<g.rs.length:=by
 unfold GN;cases hp:jY g.rs r with
 | none=>simpa using h
 | some i=>simpa using OV hp
theorem PS{l:List Rt}{r:Int}{i:Nat}{x:Rt}(hx:l[i]? = some x)(h:jY l r=(jY (l.drop i) r).map (· + i))(hq :¬x.id=r):jY l r=(jY (l.drop (i+1)) r).map (· + (i+1)):=by
 obtain⟨hi,rfl⟩:=List.getElem?_eq_some_iff.1 hx;rw[h,List.drop_eq_getElem_cons hi,jY,if_neg hq,Option.map_map]
 congr 1;funext k;simp only[Function.comp_apply];omega
theorem TN{l:List Rt}{r:Int}{i:Nat}{x:Rt}(hx:l[i]? = some x)(h:jY l r=(jY (l.drop i) r).map (· + i))(hq:x.id=r):jY l r=some i:=by
 obtain⟨hi,rfl⟩:=List.getElem?_eq_some_iff.1 hx;rw[h,List.drop_eq_getElem_cons hi,jY,if_pos hq];simp
theorem TM{l:List Rt}{r:Int}{i:Nat}(h:jY l r=(jY (l.drop i) r).map (· + i))(hi :¬i<l.length):jY l r=none:=by
 rw[h,List.drop_eq_nil_of_le (by omega)];rfl
theorem VN(g:ay)(hg:g.Sm)(r:Int):Contract Tryz.prog 166 [aH g,.d (.int .i64 r)] [] (.d (.int .i64 (GN g r))) [] []:=by
 have hr:=hg.r;refine aj Tryz.func166 rfl (fun E0=>?_);refine cO.sound (g:=.mk) (ow:=[]) (kp:=(fun k=>k==0||k==1||k==2||k==4||k==5||k==10||k==20)) ?_;rw[Tryz.ntmps166];simp -dsimp[aH]
 refine aN.of [] (fun k=>k==0||k==1||k==2||k==4||k==5||k==10||k==20) (ι:={i:Nat // i≤g.rs.length∧jY g.rs r=(jY (g.rs.drop i) r).map (· + i)}) (fun z=>[(Pl.s 0,It.v (.agg [TV.d (.sl (rts g.rs)),TV.d (.sl (dO g.ls))])),(Pl.s 1,It.v (.d (.int .i64 r))),(Pl.o 2,It.box [TV.d (.sl (rts g.rs)),TV.d (.sl (dO g.ls))]),(Pl.s 2,It.v (.ptr (Pl.o 2) 0)),(Pl.s 4,It.v (.d (.int .i64 0))),(Pl.s 5,It.v (.d (.int .i64 z.1)))]) (fun z=>g.rs.length-z.1) ⟨0,by omega,by simp⟩ ?_ ?_
 ·exact GS.to (by simp)
 ·rintro⟨i,i1,i2⟩;by_cases hi:i<g.rs.length
  ·have hiz:(i:Int)<g.rs.length:=by omega
   have hx:g.rs[i]? = some g.rs[i]:=List.getElem?_eq_getElem hi;generalize g.rs[i]=x at hx;have hx':=fF hx;by_cases h:x.id=r
   ·simp -dsimp[hiz,hx',Rt.cs,eq_true h];and_intros;all_goals try first|rfl|omega|exact⟨by kernel_rfl⟩
    refine Fin.of ?_;simp[GN,TN hx i2 h]
   ·simp -dsimp[hiz,hx',Rt.cs,eq_false h,wrap_i64 (n:=(i:Int)+1) (by omega) (by omega)];and_intros;all_goals try first|rfl|omega|exact⟨by kernel_rfl⟩
    exact⟨⟨i+1,by omega,PS hx i2 h⟩,GS.to (by simp[]),by simp;omega⟩
  ·have hiz :¬(i:Int)<g.rs.length:=by omega
   simp -dsimp[hiz];refine Fin.of ?_;simp[GN,TM i2 hi]
def atR(g:ay)(d:List Int)(r:Int):Int:=match jY g.rs r with|some i=>d.getD i 0|none=>1073741824
theorem Wl(g:ay)(hg:g.Sm)(d:List Int)(hd:g.rs.length≤d.length)(r:Int):Contract Tryz.prog 122 [aH g,.d (ints d),.d (.int .i64 r)] [] (.d (.int .i64 (atR g d r))) [] []:=by
 have hr:=hg.r;refine aj Tryz.func122 rfl (fun E0=>?_);refine cO.sound (g:=.mk) (ow:=[]) (kp:=(fun k=>k==0||k==1||k==2||k==3||k==6||k==7||k==12||k==22)) ?_;rw[Tryz.ntmps122];simp -dsimp[aH]
 refine aN.of [] (fun k=>k==0||k==1||k==2||k==3||k==6||k==7||k==12||k==22) (ι:={i:Nat // i≤g.rs.length∧jY g.rs r=(jY (g.rs.drop i) r).map (· + i)}) (fun z=>[(Pl.s 0,It.v (.agg [TV.d (.sl (rts g.rs)),TV.d (.sl (dO g.ls))])),(Pl.s 1,It.v (.d (ints d))),(Pl.s 2,It.v (.d (.int .i64 r))),(Pl.o 3,It.box [TV.d (.sl (rts g.rs)),TV.d (.sl (dO g.ls))]),(Pl.s 3,It.v (.ptr (Pl.o 3) 0)),(Pl.s 6,It.v (.d (.int .i64 0))),(Pl.s 7,It.v (.d (.int .i64 z.1)))]) (fun z=>g.rs.length-z.1) ⟨0,by omega,by simp⟩ ?_ ?_
 ·exact GS.to (by simp)
 ·rintro⟨i,i1,i2⟩;by_cases hi:i<g.rs.length
  ·have hiz:(i:Int)<g.rs.length:=by omega
   have hx:g.rs[i]? = some g.rs[i]:=List.getElem?_eq_getElem hi;generalize g.rs[i]=x at hx;have hx':=fF hx;by_cases h:x.id=r
   ·have hq:d[i]? = some d[i]:=List.getElem?_eq_getElem (by omega);generalize d[i]=y at hq;simp -dsimp[hiz,hx',Rt.cs,eq_true h,ints,hq];and_intros;all_goals try first|rfl|omega|exact⟨by kernel_rfl⟩
    refine Fin.of ?_;simp[atR,TN hx i2 h,hq]
   ·simp -dsimp[hiz,hx',Rt.cs,eq_false h,wrap_i64 (n:=(i:Int)+1) (by omega) (by omega)];and_intros;all_goals try first|rfl|omega|exact⟨by kernel_rfl⟩
    exact⟨⟨i+1,by omega,PS hx i2 h⟩,GS.to (by simp[]),by simp;omega⟩
  ·have hiz :¬(i:Int)<g.rs.length:=by omega
   simp -dsimp[hiz];refine Fin.of ?_;simp[atR,TM i2 hi]
theorem x9:∀{l:List (Bool×Int)},(∀x∈l,x.2≠0)→jc l=0→∀x∈l,x.1=false
 | [],_,_=>by simp
 | (c,e)::l,h,h0=>by
   cases c with
   | true=>exact absurd h0 (h (true,e) (by simp))
   | false=>
     intro x hx;rcases List.mem_cons.1 hx with rfl|hx
     ·rfl
     ·exact x9 (l:=l) (fun y hy=>h y (by simp[hy])) h0 x hx
structure ay.Ok(g:ay):Prop where
 nr:g.rs.length≤24
 nl:g.ls.length≤60
 ids:(g.rs.any fun x=>!inB x.id 1 99)=false
 ord:nO (fun x y=>decide (y.id≤x.id)) g.rs=false
 cost:g.ls.any Lk.bad=false
 ends:(g.ls.any fun x=>!aY g.rs x.a || !aY g.rs x.b)=false
 ab:(g.ls.any fun x=>decide (x.b≤x.a))=false
 ao_:nO (fun x y=>decide (y.a<x.a)||decide (x.a=y.a)&&decide (y.b≤x.b)) g.ls=false
theorem aU{g:ay}(h:cZ g=0):g.Ok:=by
 have:=x9 (l:=_) (by simp) h;simp only[List.mem_cons,List.not_mem_nil,or_false,forall_eq_or_imp,forall_eq]at this;obtain⟨h1,h2,h3,h4,h5,h6,h7,h8⟩:=this;exact⟨by simpa using h1,by simpa using h2,h3,h4,h5,h6,h7,h8⟩
theorem ay.Ok.sm{g:ay}(h:g.Ok):g.Sm:=⟨by have:=h.nr;omega,by have:=h.nl;omega⟩
theorem ay.Ok.c{g:ay}(h:g.Ok){x:Lk}(hx:x∈g.ls):(1≤x.ca∧x.ca≤1000)∧1≤x.cb∧x.cb≤1000:=by
 have:=List.any_eq_false.1 h.cost x hx;simp[Lk.bad,inB]at this
 omega
def far:Int:=1073741824
def relax(g:ay)(d:List Int)(l:Lk):List Int:=
 let a:=GN g l.a
 let b:=GN g l.b
 let d1:=if d.getD b 0<far then d.set a (min (d.getD a 0) (l.ca+d.getD b 0))else d
 if d1.getD a 0<far then d1.set b (min (d1.getD b 0) (l.cb+d1.getD a 0))else d1
theorem BP(g:ay)(d:List Int)(l:Lk):(relax g d l).length=d.length:=by
 unfold relax;simp only;split<;>split<;>simp
def Bd(d:List Int):Prop:=∀v∈d,0≤v∧v≤far
theorem Bd.get{d:List Int}(h:Bd d){i:Nat}{v:Int}(hv:d[i]? = some v):0≤v∧v≤far:=h v (List.mem_of_getElem? hv)
theorem Bd.set{d:List Int}(h:Bd d)(i:Nat){v:Int}(hv:0≤v∧v≤far):Bd (d.set i v):=fun x hx=>by
 rcases List.mem_or_eq_of_mem_set hx with hx|rfl
 ·exact h x hx
 ·exact hv
theorem Bd.getD{d:List Int}(h:Bd d)(i:Nat):0≤d.getD i 0∧d.getD i 0≤far:=by
 rw[List.getD_eq_getElem?_getD];cases hv:d[i]? with
 | none=>simp[far]
 | some v=>exact h.get hv
theorem Bd.relax{g:ay}{d:List Int}(h:Bd d){l:Lk}(h1:1≤l.ca)(h2:1≤l.cb):Bd (relax g d l):=by
 unfold Proofs.relax;simp only;have e:Bd (if d.getD (GN g l.b) 0<far then d.set (GN g l.a) (min (d.getD (GN g l.a) 0) (l.ca+d.getD (GN g l.b) 0))else d):=by
  split
  ·have:=h.getD (GN g l.a);have:=h.getD (GN g l.b);exact h.set _ (by omega)
  ·exact h
 generalize (if d.getD (GN g l.b) 0<far then d.set (GN g l.a) (min (d.getD (GN g l.a) 0) (l.ca+d.getD (GN g l.b) 0))else d)=d1 at e⊢;split
 ·have:=e.getD (GN g l.a);have:=e.getD (GN g l.b);exact e.set _ (by omega)
 ·exact e
def GU(g:ay)(d:List Int):List Int:=g.ls.foldl (relax g) d
def Eb(g:ay):Nat→List Int→List Int
 | 0,d=>d
 | n+1,d=>Eb g n (GU g d)
def DZ(g:ay)(to:Int):List Int:=g.rs.map fun x=>if x.id=to then 0 else far
def dist(g:ay)(to:Int):List Int:=Eb g g.rs.length (DZ g to)
theorem Qu(k:IntKind)(a b:Int):aaH k a b = .d (.int k (min a b)):=by
 unfold aaH;by_cases h:b<a
 ·rw[if_pos h,Int.min_eq_right (by omega)]
 ·rw[if_neg h,Int.min_eq_left (by omega)]
@[simp]theorem abA:far=1073741824:=rfl
theorem GX{d:List Int}{i:Nat}{v:Int}(h:d[i]? = some v):(dd (dJ .i64 d))[i]? = some [TV.d (.int .i64 v)]:=by simp[dd,dJ,h]
theorem Ee(d:List Int)(i:Nat)(v:Int):(dd (dJ .i64 d)).set i [TV.d (.int .i64 v)]=dd (dJ .i64 (d.set i v)):=by simp[dd,dJ,List.map_set]
theorem Gp{d:List Int}{i:Nat}{v:Int}(h:d[i]? = some v):d.getD i 0=v:=by rw[List.getD_eq_getElem?_getD,h];rfl
theorem Uj(g:ay)(hg:g.Ok)(to:Int):Contract Tryz.prog 84 [aH g,.d (.int .i64 to)] [] (.d (ints (dist g to))) [] []:=by
 have hr:=hg.sm.r;have hl:=hg.sm.l;have hsm:=hg.sm;refine aj Tryz.func84 rfl (fun E0=>?_);refine cO.sound (g:=.mk) (ow:=[]) (kp:=(fun k=>k==0||k==1||k==2||k==4||k==5||k==6||k==7||k==8||k==9||k==10||k==11||k==19||k==32||k==39||k==46||k==66||k==86)) ?_;rw[Tryz.ntmps84];simp -dsimp[aH];refine⟨by omega,by omega,?_⟩
 rw[show List.replicate g.rs.length [TV.d (.int .i64 0)]=dd (dJ .i64 (List.replicate g.rs.length 0)) by simp[dd,dJ]]
 refine aN.of [] (fun k=>k==0||k==1||k==2||k==4||k==5||k==6||k==7||k==8||k==9||k==10||k==11||k==19||k==32||k==39||k==46||k==66||k==86) (ι:={z:Nat×List Int // z.1≤g.rs.length∧z.2.length=g.rs.length∧∀k,k<z.1→z.2[k]? = (DZ g to)[k]? }) (fun z=>[(Pl.s 0,It.v (.agg [TV.d (.sl (rts g.rs)),TV.d (.sl (dO g.ls))])),(Pl.s 1,It.v (.d (.int .i64 to))),(Pl.o 2,It.box [TV.d (.sl (rts g.rs)),TV.d (.sl (dO g.ls))]),(Pl.s 2,It.v (.ptr (Pl.o 2) 0)),(Pl.s 4,It.v (.c (Value.slice none 0 0))),(Pl.s 5,It.v (.aB 15 g.rs.length)),(Pl.o 15,It.row 3 1 (dd (dJ .i64 z.1.2)) false),(Pl.s 6,It.v (.d (.int .i64 z.1.1)))]) (fun z=>g.rs.length-z.1.1) ⟨(0,List.replicate g.rs.length 0),by simp,by simp,by simp⟩ ?_ ?_
 ·exact GS.to (by simp)
 ·rintro⟨⟨i,d⟩,i1,i2,i3⟩;simp only at i1 i2 i3;by_cases hi:i<g.rs.length
  ·have hiz:(i:Int)<g.rs.length:=by omega
   have hx:g.rs[i]? = some g.rs[i]:=List.getElem?_eq_getElem hi;generalize g.rs[i]=x at hx;have hx':=fF hx;obtain⟨v,hv⟩:∃v,d[i]? = some v:=⟨d[i],List.getElem?_eq_getElem (by omega)⟩
   have hw:=GX hv;have hu:(dd (dJ .i64 (d.set i 1073741824)))[i]? = some [TV.d (.int .i64 1073741824)]:=GX (by rw[List.getElem?_set];simp;omega);by_cases h:x.id=to
   ·simp -dsimp[hiz,i2,hw,Ee,hu,hx',Rt.cs,eq_true h,wrap_i64 (n:=(i:Int)+1) (by omega) (by omega)];and_intros;all_goals try first|rfl|omega|exact⟨by kernel_rfl⟩
    refine⟨⟨(i+1,(d.set i far).set i 0),by omega,by simp[i2],fun k hk=>?_⟩,GS.to (by simp[Ee,far]),by simp;omega⟩;by_cases e:k=i
    ·subst e;rw[List.getElem?_set_self (by simp;omega)];simp[DZ,hx,h]
    ·rw[List.getElem?_set_ne (by omega),List.getElem?_set_ne (by omega)];exact i3 k (by omega)
   ·simp -dsimp[hiz,i2,hw,Ee,hu,hx',Rt.cs,eq_false h,wrap_i64 (n:=(i:Int)+1) (by omega) (by omega)];and_intros;all_goals try first|rfl|omega|exact⟨by kernel_rfl⟩
    refine⟨⟨(i+1,d.set i far),by omega,by simp[i2],fun k hk=>?_⟩,GS.to (by simp[Ee,far]),by simp;omega⟩;by_cases e:k=i
    ·subst e;rw[List.getElem?_set_self (by omega)];simp[DZ,hx,h]
    ·rw[List.getElem?_set_ne (by omega)];exact i3 k (by omega)
  have hiz :¬(i:Int)<g.rs.length:=by omega
  have hd:d=DZ g to:=List.ext_getElem? fun k=>by
   by_cases hk:k<i
   ·exact i3 k hk
   ·rw[List.getElem?_eq_none (by omega),List.getElem?_eq_none (by simp[DZ];omega)]
  simp -dsimp[hiz];refine⟨by omega,?_⟩
  as_aux_lemma=>
  have hd0:d.length=g.rs.length:=i2;have hb0:Bd d:=by
   rw[hd];intro v hv;obtain⟨x,_,rfl⟩:=List.mem_map.1 hv;split<;>simp
  refine aN.of [] (fun k=>k==0||k==1||k==2||k==4||k==5||k==6||k==7||k==8||k==9||k==10||k==11||k==19||k==32||k==39||k==46||k==66||k==86) (ι:={z:Nat×List Int // z.1≤g.rs.length∧z.2.length=g.rs.length∧Bd z.2∧dist g to=Eb g (g.rs.length-z.1) z.2}) (fun z=>[(Pl.s 0,It.v (.agg [TV.d (.sl (rts g.rs)),TV.d (.sl (dO g.ls))])),(Pl.s 1,It.v (.d (.int .i64 to))),(Pl.o 2,It.box [TV.d (.sl (rts g.rs)),TV.d (.sl (dO g.ls))]),(Pl.s 2,It.v (.ptr (Pl.o 2) 0)),(Pl.s 4,It.v (.c (Value.slice none 0 0))),(Pl.s 5,It.v (.aB 15 g.rs.length)),(Pl.o 15,It.row 3 1 (dd (dJ .i64 z.1.2)) false),(Pl.s 7,It.v (.d (.int .i64 z.1.1)))]) (fun z=>g.rs.length-z.1.1) ⟨(0,d),by simp,hd0,hb0,by simp[dist,hd]⟩ ?_ ?_
  ·exact GS.to (by simp)
  clear i1 i3 hi hiz hd hd0 hb0 i2;rintro⟨⟨k,d⟩,k1,k2,k3,k4⟩;simp only at k1 k2 k3 k4;by_cases hk:k<g.rs.length
  ·have hkz:(k:Int)<g.rs.length:=by omega
   simp -dsimp[hkz,k2]
   refine aN.of [] (fun k=>k==0||k==1||k==2||k==4||k==5||k==6||k==7||k==8||k==9||k==10||k==11||k==19||k==32||k==39||k==46||k==66||k==86) (ι:={z:Nat×List Int // z.1≤g.ls.length∧z.2.length=g.rs.length∧Bd z.2∧GU g d=(g.ls.drop z.1).foldl (relax g) z.2}) (fun z=>[(Pl.s 0,It.v (.agg [TV.d (.sl (rts g.rs)),TV.d (.sl (dO g.ls))])),(Pl.s 1,It.v (.d (.int .i64 to))),(Pl.o 2,It.box [TV.d (.sl (rts g.rs)),TV.d (.sl (dO g.ls))]),(Pl.s 2,It.v (.ptr (Pl.o 2) 0)),(Pl.s 4,It.v (.c (Value.slice none 0 0))),(Pl.s 5,It.v (.aB 15 g.rs.length)),(Pl.o 15,It.row 3 1 (dd (dJ .i64 z.1.2)) false),(Pl.s 7,It.v (.d (.int .i64 k))),(Pl.s 8,It.v (.d (.int .i64 z.1.1)))]) (fun z=>g.ls.length-z.1.1) ⟨(0,d),by simp,k2,k3,rfl⟩ ?_ ?_
   ·exact GS.to (by simp)
   rintro⟨⟨i,e⟩,j1,j2,j3,j4⟩;simp only at j1 j2 j3 j4;by_cases hi:i<g.ls.length
   ·have hiz:(i:Int)<g.ls.length:=by omega
    have hx:g.ls[i]? = some g.ls[i]:=List.getElem?_eq_getElem hi;have hm:g.ls[i]∈g.ls:=List.getElem_mem hi;have hdr:g.ls.drop i=g.ls[i]::g.ls.drop (i+1):=List.drop_eq_getElem_cons hi;generalize g.ls[i]=x at hx hm hdr;have hx':=o8 hx;have hc:=hg.c hm;have pa:=afG (g:=g) x.a (by omega);have pb:=afG (g:=g) x.b (by omega);simp -dsimp[hiz,hx',Lk.cs]
    refine ah.of (VN g hsm x.a) [] 0 ?_;simp -dsimp[aH];refine ah.of (VN g hsm x.b) [] 0 ?_;obtain⟨va,hva⟩:∃v,e[GN g x.a]? = some v:=⟨e[GN g x.a],List.getElem?_eq_getElem (by omega)⟩
    obtain⟨vb,hvb⟩:∃v,e[GN g x.b]? = some v:=⟨e[GN g x.b],List.getElem?_eq_getElem (by omega)⟩
    have wa:=GX hva;have wb:=GX hvb;have ba:=j3.get hva;have bb:=j3.get hvb;rw[abA]at ba bb
    have hrx:relax g e x=(let d1:=if vb<1073741824 then e.set (GN g x.a) (min va (x.ca+vb))else e
     if d1.getD (GN g x.a) 0<1073741824 then d1.set (GN g x.b) (min (d1.getD (GN g x.b) 0) (x.cb+d1.getD (GN g x.a) 0))else d1):=by
     rw[relax,abA,Gp hva,Gp hvb]
    have hnl:=BP g e x;have hnb:=j3.relax (g:=g) (l:=x) hc.1.1 hc.2.1;rw[hdr,List.foldl_cons]at j4
    generalize relax g e x=e2 at hrx hnl hnb j4;clear hdr hm hx;generalize GN g x.a=a at *;generalize GN g x.b=b at *;have nx:∀e',e'=e2→(⟨i+1,e'⟩:Nat×List Int).1≤g.ls.length∧e'.length=g.rs.length∧Bd e'∧GU g d=(g.ls.drop (i+1)).foldl (relax g) e':=fun e' h=>by subst h;exact⟨by simp;omega,by omega,hnb,j4⟩
    by_cases c1:vb<1073741824
    ·have wv:x.ca+vb=IntKind.i64.wrap (x.ca+vb):=(wrap_i64 (by omega) (by omega)).symm;have hs1:(e.set a (min va (x.ca+vb)))[a]? = some (min va (x.ca+vb)):=by rw[List.getElem?_set_self (by omega)]
     obtain⟨v2,hv2⟩:∃v,(e.set a (min va (x.ca+vb)))[b]? = some v:=⟨(e.set a (min va (x.ca+vb)))[b]'(by simp;omega),List.getElem?_eq_getElem (by simp;omega)⟩
     have ws1:=GX hs1;have ws2:=GX hv2;simp only[if_pos c1,Gp hs1,Gp hv2]at hrx;simp -dsimp[wa,wb,j2,aH,c1,Qu,Ee,ws1,ws2,wrap_i64 (n:=x.ca+vb) (by omega) (by omega)];by_cases c2:min va (x.ca+vb)<1073741824
     ·rw[if_pos c2]at hrx
      and_intros;all_goals try first|rfl|omega|exact⟨by kernel_rfl⟩
      simp -dsimp[wa,wb,j2,aH,c1,c2,Qu,Ee,ws1,ws2,wrap_i64 (n:=x.cb+min va (x.ca+vb)) (by omega) (by omega),wrap_i64 (n:=(i:Int)+1) (by omega) (by omega)];and_intros;all_goals try first|rfl|omega|exact⟨by kernel_rfl⟩
      exact⟨⟨(i+1,((e.set a (min va (x.ca+vb))).set b (min v2 (x.cb+min va (x.ca+vb))))),nx _ hrx.symm⟩,GS.to (by simp),by simp;omega⟩
     ·rw[if_neg c2]at hrx
      and_intros;all_goals try first|rfl|omega|exact⟨by kernel_rfl⟩
      simp -dsimp[wa,wb,j2,aH,c1,c2,Qu,Ee,ws1,ws2,wrap_i64 (n:=(i:Int)+1) (by omega) (by omega)];and_intros;all_goals try first|rfl|omega|exact⟨by kernel_rfl⟩
      exact⟨⟨(i+1,(e.set a (min va (x.ca+vb)))),nx _ hrx.symm⟩,GS.to (by simp),by simp;omega⟩
    ·simp only[if_neg c1,Gp hva,Gp hvb]at hrx;by_cases c2:va<1073741824
     ·rw[if_pos c2]at hrx
      simp -dsimp[wa,wb,j2,aH,c1,c2,Qu,Ee,wrap_i64 (n:=x.cb+va) (by omega) (by omega),wrap_i64 (n:=(i:Int)+1) (by omega) (by omega)];and_intros;all_goals try first|rfl|omega|exact⟨by kernel_rfl⟩
      exact⟨⟨(i+1,(e.set b (min vb (x.cb+va)))),nx _ hrx.symm⟩,GS.to (by simp),by simp;omega⟩
     ·rw[if_neg c2]at hrx
      simp -dsimp[wa,wb,j2,aH,c1,c2,wrap_i64 (n:=(i:Int)+1) (by omega) (by omega)];and_intros;all_goals try first|rfl|omega|exact⟨by kernel_rfl⟩
      exact⟨⟨(i+1,e),nx _ hrx.symm⟩,GS.to (by simp),by simp;omega⟩
   ·have hiz :¬(i:Int)<g.ls.length:=by omega
    simp -dsimp[hiz,wrap_i64 (n:=(k:Int)+1) (by omega) (by omega)];rw[List.drop_eq_nil_of_le (by omega),List.foldl_nil]at j4
    exact⟨⟨(k+1,e),by simp;omega,j2,j3,by rw[k4,show g.rs.length-k=(g.rs.length-(k+1))+1 by omega,Eb,j4]⟩,GS.to (by simp),by simp;omega⟩
  ·have hkz :¬(k:Int)<g.rs.length:=by omega
   rw[show g.rs.length-k=0 by omega,Eb]at k4
   simp -dsimp[hkz,k2];refine Fin.view 4 ?_;simp -dsimp[k2];refine Fin.of ?_;simp[k4,ints,dJ]
theorem YU(g:ay)(r:Int):(near g r).length≤g.rs.length:=by
 simp only[near,List.length_map];exact List.length_filter_le _ _
theorem ZF{g:ay}{d:List Int}(h:Bd d)(r:Int):0≤atR g d r∧atR g d r≤1073741824:=by
 unfold atR;split
 ·exact h.getD _
 ·omega
theorem afH{g:ay}(hg:g.Ok)(f t:Int):0≤(price g.ls f t).getD 0∧(price g.ls f t).getD 0≤1000:=by
 have:∀l:List Lk,(∀x∈l,x∈g.ls)→0≤(price l f t).getD 0∧(price l f t).getD 0≤1000:=by
  intro l
  induction l with
  | nil=>intro _;simp[price]
  | cons x l ih=>
    intro hm;have hc:=hg.c (hm x (by simp));rw[price];split
    ·simp;omega
    ·split
     ·simp;omega
     ·exact ih fun y hy=>hm y (by simp[hy])
 exact this g.ls fun _ h=>h
def ED(g:ay)(d:List Int)(f n:Int):Bool:=decide (atR g d n<1073741824)&&decide ((price g.ls f n).getD 0+atR g d n=atR g d f)
def steps(g:ay)(d:List Int)(f:Int):List Int:=if atR g d f=1073741824∨atR g d f=0 then []else(near g f).filter (ED g d f)
theorem adN(g:ay)(d:List Int)(f:Int):(steps g d f).length≤g.rs.length:=by
 unfold steps;split
 ·simp
 ·exact Nat.le_trans (List.length_filter_le _ _) (YU g f)
theorem JJ(g:ay)(hg:g.Ok)(d:List Int)(hd:g.rs.length≤d.length)(hb:Bd d)(f:Int):Contract Tryz.prog 165 [aH g,.d (ints d),.d (.int .i64 f)] [] (.d (ints (steps g d f))) [] []:=by
 have hr:=hg.sm.r;have hsm:=hg.sm;refine aj Tryz.func165 rfl (fun E0=>?_);refine cO.sound (g:=.mk) (ow:=[]) (kp:=(fun k=>k==0||k==1||k==2||k==3||k==6||k==7||k==8||k==9||k==10||k==11||k==22||k==29||k==62)) ?_;rw[Tryz.ntmps165];simp -dsimp[aH];refine ah.of (Wl g hsm d hd f) [] 0 ?_;by_cases c1:atR g d f=1073741824
 ·simp -dsimp[aH,eq_true c1];and_intros;all_goals try first|rfl|omega|exact⟨by kernel_rfl⟩
  refine Fin.view 6 ?_;simp -dsimp;refine Fin.of ?_;simp[steps,c1,ints]
 by_cases c2:atR g d f=0
 ·simp -dsimp[aH,eq_false c1,eq_true c2];and_intros;all_goals try first|rfl|omega|exact⟨by kernel_rfl⟩
  refine Fin.view 6 ?_;simp -dsimp;refine Fin.of ?_;simp[steps,c2,ints]
 simp -dsimp[aH,eq_false c1,eq_false c2];refine ah.of (afr g hsm f) [] 0 ?_;simp -dsimp[aH];have hst:steps g d f=(near g f).filter (ED g d f):=by rw[steps,if_neg (by omega)]
 have hnl:=YU g f;rw[hst];clear hst;generalize near g f=n at hnl;have hn1:n.length≤1000000:=by omega
 refine aN.of [] (fun k=>k==0||k==1||k==2||k==3||k==6||k==7||k==8||k==9||k==10||k==11||k==22||k==29||k==62) (ι:={i:Nat // i≤n.length∧True}) (fun z=>[(Pl.s 0,It.v (.agg [TV.d (.sl (rts g.rs)),TV.d (.sl (dO g.ls))])),(Pl.s 1,It.v (.d (ints d))),(Pl.s 2,It.v (.d (.int .i64 f))),(Pl.o 3,It.box [TV.d (.sl (rts g.rs)),TV.d (.sl (dO g.ls))]),(Pl.s 3,It.v (.ptr (Pl.o 3) 0)),(Pl.s 6,It.v (.c (Value.slice none 0 0))),(Pl.s 8,It.v (.d (.int .i64 (atR g d f)))),(Pl.s 7,It.v (.aB 7 ((n.take z.1).filter (ED g d f)).length)),(Pl.o 7,It.row 3 1 (dd (dJ .i64 ((n.take z.1).filter (ED g d f)))) false),(Pl.s 9,It.v (.d (ints n))),(Pl.s 10,It.v (.d (.int .i64 z.1)))]) (fun z=>n.length-z.1) ⟨0,by omega,trivial⟩ ?_ ?_
 ·exact GS.own' (k:=7) 3 1 (by simp) (by simp) (by simp[ints,dJ])
 ·rintro⟨i,i1,i2⟩;by_cases hi:i<n.length
  ·have hiz:(i:Int)<n.length:=by omega
   have hx:n[i]? = some n[i]:=List.getElem?_eq_getElem hi;have ht:n.take (i+1)=n.take i++[n[i]]:=by rw[List.take_add_one,List.getElem?_eq_getElem hi];rfl
   generalize n[i]=x at hx ht;have hp:=afH hg f x;have hfl:((n.take i).filter (ED g d f)).length≤1000000:=Nat.le_trans (List.length_filter_le _ _) (by simp;omega);have ha:=ZF (g:=g) hb x;simp -dsimp[hiz,ints,hx];refine ah.of (yt g hsm f x) [] 0 ?_;simp -dsimp[mO,aH,hx,ints];and_intros;all_goals try first|rfl|omega|exact⟨by kernel_rfl⟩
   refine ah.of (Wl g hsm d hd x) [] 0 ?_;by_cases b1:atR g d x<1073741824
   ·simp -dsimp[mO,aH,hx,ints,b1];and_intros;all_goals try first|rfl|omega|exact⟨by kernel_rfl⟩
    refine ah.of (Wl g hsm d hd x) [] 0 ?_;by_cases b2:(price g.ls f x).getD 0+atR g d x=atR g d f
    ·simp -dsimp[mO,aH,hx,ints,b1,eq_true b2,wrap_i64 (n:=(price g.ls f x).getD 0+atR g d x) (by omega) (by omega),wrap_i64 (n:=(i:Int)+1) (by omega) (by omega)];and_intros;all_goals try first|rfl|omega|exact⟨by kernel_rfl⟩
     exact⟨⟨i+1,by omega,trivial⟩,GS.to (by simp[ht,ED,b1,b2,dJ,ints]),by simp;omega⟩
    ·simp -dsimp[mO,aH,hx,ints,b1,eq_false b2,wrap_i64 (n:=(price g.ls f x).getD 0+atR g d x) (by omega) (by omega),wrap_i64 (n:=(i:Int)+1) (by omega) (by omega)];and_intros;all_goals try first|rfl|omega|exact⟨by kernel_rfl⟩
     exact⟨⟨i+1,by omega,trivial⟩,GS.to (by simp[ht,ED,b1,b2,dJ,ints]),by simp;omega⟩
   ·simp -dsimp[mO,aH,hx,ints,b1,wrap_i64 (n:=(i:Int)+1) (by omega) (by omega)];and_intros;all_goals try first|rfl|omega|exact⟨by kernel_rfl⟩
    exact⟨⟨i+1,by omega,trivial⟩,GS.to (by simp[ht,ED,b1,dJ,ints]),by simp;omega⟩
  ·have hiz :¬(i:Int)<n.length:=by omega
   simp -dsimp[hiz,ints];refine Fin.view 6 ?_;simp -dsimp;refine Fin.of ?_;simp[List.take_of_length_le (show n.length≤i by omega),ints,dJ]
theorem S9:∀{l m:List Int},l.Nodup→(∀x∈l,x∈m)→l.length≤m.length
 | [],_,_,_=>by simp
 | x::l,m,h,hs=>by
   have h1:=List.nodup_cons.1 h;have:=S9 (l:=l) (m:=m.erase x) h1.2 fun y hy=>(List.mem_erase_of_ne (fun e=>by subst e;exact h1.1 hy)).2 (hs y (by simp[hy]))
   rw[List.length_erase_of_mem (hs x (by simp))]at this
   have:=List.length_pos_of_mem (hs x (by simp));simp;omega
theorem dH{l:List Rt}{r:Int}:aY l r=true↔r∈l.map (·.id):=by simp[aY]
theorem BG{g:ay}{l:List Int}(h:l.Nodup)(hs:∀x∈l,aY g.rs x=true):l.length≤g.rs.length:=by
 have:=S9 h fun x hx=>dH.1 (hs x hx)
 simpa using this
theorem Na{g:ay}{r x:Int}(h:x∈near g r):aY g.rs x=true:=by
 simp only[near,List.mem_map,List.mem_filter]at h;obtain⟨y,⟨hy,_⟩,rfl⟩:=h;exact dH.2 (List.mem_map_of_mem hy)
theorem zZ{g:ay}{d:List Int}{r x:Int}(h:x∈steps g d r):aY g.rs x=true:=by
 unfold steps at h;split at h
 ·simp at h
 ·exact Na (List.mem_filter.1 h).1
def jS(g:ay)(s:List Int×List Int)(n:Int):List Int×List Int:=
 if dY g.rs n=true then(s.1,E8 s.2 n)else if mF s.1 n=true then s else(s.1++[n],s.2)
def qo(g:ay)(d:List Int):Nat→Nat→List Int×List Int→List Int×List Int
 | 0,_,s=>s
 | k+1,i,s=>if i<s.1.length then qo g d k (i+1) ((steps g d (s.1.getD i 0)).foldl (jS g) s)else s
def hops(g:ay)(f t:Int):List Int:=
 if cZ g=0∧aY g.rs f=true∧aY g.rs t=true∧¬f=t then(qo g (dist g t) (g.rs.length+1) 0 ([f],[])).2 else []
theorem aff(l:List Int)(n:Int):(E8 l n).length≤l.length+1:=by
 unfold E8;split<;>simp<;>omega
theorem BA{g:ay}{p:List Int→Prop}(h:∀d l,l∈g.ls→p d→p (relax g d l)):∀(n:Nat) (d:List Int),p d→p (Eb g n d)
 | 0,_,hd=>hd
 | n+1,d,hd=>by
   have:∀(ls:List Lk) (d:List Int),(∀x∈ls,x∈g.ls)→p d→p (ls.foldl (relax g) d):=by
    intro ls
    induction ls with
    | nil=>intro d _ hd;exact hd
    | cons x ls ih=>intro d hm hd;exact ih _ (fun y hy=>hm y (by simp[hy])) (h d x (hm x (by simp)) hd)
   exact BA h n _ (this g.ls d (fun _ hx=>hx) hd)
theorem H_(g:ay)(t:Int):(dist g t).length=g.rs.length:=by
 refine BA (p:=fun d=>d.length=g.rs.length) (fun d l _ h=>by rw[BP,h]) _ _ (by simp[DZ])
theorem LC{g:ay}(hg:g.Ok)(t:Int):Bd (dist g t):=by
 refine BA (p:=Bd) (fun d l hl h=>h.relax (hg.c hl).1.1 (hg.c hl).2.1) _ _ ?_;intro v hv;obtain⟨x,_,rfl⟩:=List.mem_map.1 hv;split<;>simp
theorem ae4(g:ay)(hg:g.Sm)(f t:Int):Contract Tryz.prog 199 [aH g,.d (.int .i64 f),.d (.int .i64 t)] [] (.d (ints (hops g f t))) [] []:=by
 have hr:=hg.r;refine aj Tryz.func199 rfl (fun E0=>?_);refine cO.sound (g:=.mk) (ow:=[32]) (kp:=(fun k=>k==0||k==1||k==2||k==3||k==6||k==7||k==8||k==9||k==10||k==11||k==12||k==27||k==36||k==49||k==57||k==70)) ?_;rw[Tryz.ntmps199];simp -dsimp[aH];refine ah.of (sG g hg f) [] 0 ?_;rcases (Bool.eq_false_or_eq_true (decide (cZ g=0)&&aY g.rs f)).symm with a1|a1
 ·simp -dsimp[a1,aH];refine Fin.view 6 ?_;simp -dsimp;refine Fin.of ?_;have e:hops g f t = []:=by
   rw[hops,if_neg];rintro⟨h1,h2,_⟩;simp[h1,h2]at a1
  simp[e,ints]
 have hc:cZ g=0:=by simp at a1;exact a1.1
 have hf:aY g.rs f=true:=by simp at a1;exact a1.2
 have hO:=aU hc;simp -dsimp[a1,aH];refine ah.of (sG g hg t) [] 0 ?_;rcases (Bool.eq_false_or_eq_true (decide (cZ g=0)&&aY g.rs t)).symm with a2|a2
 ·simp -dsimp[a1,a2,aH];refine Fin.view 6 ?_;simp -dsimp;refine Fin.of ?_;have e:hops g f t = []:=by
   rw[hops,if_neg];rintro⟨h1,_,h2,_⟩;simp[h1,h2]at a2
  simp[e,ints]
 have ht:aY g.rs t=true:=by simp at a2;exact a2.2
 by_cases a3:f=t
 ·simp -dsimp[a1,a2,eq_true a3,aH];refine Fin.view 6 ?_;simp -dsimp;refine Fin.of ?_;have e:hops g f t = []:=by
   rw[hops,if_neg];rintro⟨_,_,_,h⟩;exact h a3
  simp[e,ints]
 have hh:hops g f t=(qo g (dist g t) (g.rs.length+1) 0 ([f],[])).2:=by rw[hops,if_pos ⟨hc,hf,ht,a3⟩]
 have hdl:=H_ g t;have hbd:=LC hO t;simp -dsimp[a1,a2,eq_false a3,aH];refine ah.of (Uj g hO t) [] 0 ?_;simp -dsimp[a1,a2,a3,aH];rw[hh];generalize dist g t=d at hdl hbd;have arU:=hO.nr
 as_aux_lemma=>
 refine aN.of [32] (fun k=>k==0||k==1||k==2||k==3||k==6||k==7||k==8||k==9||k==10||k==11||k==12||k==27||k==36||k==49||k==57||k==70) (ι:={w:(Nat×List Int×List Int)×Bool // w.1.1≤w.1.2.1.length∧w.1.2.1.Nodup∧(∀x∈w.1.2.1,aY g.rs x=true)∧w.1.2.2.length≤24*w.1.1∧qo g d (g.rs.length+1) 0 ([f],[])=qo g d (g.rs.length+1-w.1.1) w.1.1 w.1.2})
  (fun z=>[(Pl.s 0,It.v (.agg [TV.d (.sl (rts g.rs)),TV.d (.sl (dO g.ls))])),(Pl.s 1,It.v (.d (.int .i64 f))),(Pl.s 2,It.v (.d (.int .i64 t))),(Pl.o 3,It.box [TV.d (.sl (rts g.rs)),TV.d (.sl (dO g.ls))]),(Pl.s 3,It.v (.ptr (Pl.o 3) 0)),(Pl.s 6,It.v (.c (Value.slice none 0 0))),(Pl.s 7,It.v (.d (ints d))),(Pl.s 8,It.v (.aB 32 z.1.1.2.1.length)),(Pl.o 32,It.row 3 1 (dd (dJ .i64 z.1.1.2.1)) z.1.2),(Pl.s 9,It.v (.d (ints z.1.1.2.2))),(Pl.s 10,It.v (.d (.int .i64 z.1.1.1)))]) (fun z=>g.rs.length+1-z.1.1.1) ⟨((0,[f],[]),false),by simp,by simp,by simpa using hf,by simp,rfl⟩ ?_ ?_
 ·exact GS.J9 9 (by simp[ints,dd,dJ])
 generalize qo g d (g.rs.length+1) 0 ([f],[])=H;rintro⟨⟨⟨i,seen,out⟩,sh⟩,i1,i2,i3,i4,i5⟩;simp only at i1 i2 i3 i4 i5;have hsl:=BG i2 i3;by_cases hi:i<seen.length
 ·have hiz:(i:Int)<seen.length:=by omega
  have hx:seen[i]? = some seen[i]:=List.getElem?_eq_getElem hi;generalize seen[i]=x at hx;rw[show g.rs.length+1-i=(g.rs.length-i)+1 by omega,qo,if_pos hi,Gp hx]at i5
  have hsn:=adN g d x;have hsh:∀y∈steps g d x,aY g.rs y=true:=fun y hy=>zZ hy
  simp -dsimp[hiz,GX hx];and_intros;all_goals try first|rfl|omega|exact⟨by kernel_rfl⟩
  refine ah.of (JJ g hO d (by omega) hbd x) [] 0 ?_;simp -dsimp[aH];and_intros;all_goals try first|rfl|omega|exact⟨by kernel_rfl⟩
  generalize steps g d x=n at hsn hsh i5;refine aN.of [32] (fun k=>k==0||k==1||k==2||k==3||k==6||k==7||k==8||k==9||k==10||k==11||k==12||k==27||k==36||k==49||k==57||k==70) (ι:={w:(Nat×List Int×List Int)×Bool // w.1.1≤n.length∧i<w.1.2.1.length∧w.1.2.1.Nodup∧(∀x∈w.1.2.1,aY g.rs x=true)∧w.1.2.2.length≤24*i+w.1.1∧n.foldl (jS g) (seen,out)=(n.drop w.1.1).foldl (jS g) w.1.2})
   (fun z=>[(Pl.s 0,It.v (.agg [TV.d (.sl (rts g.rs)),TV.d (.sl (dO g.ls))])),(Pl.s 1,It.v (.d (.int .i64 f))),(Pl.s 2,It.v (.d (.int .i64 t))),(Pl.o 3,It.box [TV.d (.sl (rts g.rs)),TV.d (.sl (dO g.ls))]),(Pl.s 3,It.v (.ptr (Pl.o 3) 0)),(Pl.s 6,It.v (.c (Value.slice none 0 0))),(Pl.s 7,It.v (.d (ints d))),(Pl.s 8,It.v (.aB 32 z.1.1.2.1.length)),(Pl.o 32,It.row 3 1 (dd (dJ .i64 z.1.1.2.1)) z.1.2),(Pl.s 9,It.v (.d (ints z.1.1.2.2))),(Pl.s 10,It.v (.d (.int .i64 i))),(Pl.s 11,It.v (.d (ints n))),(Pl.s 12,It.v (.d (.int .i64 z.1.1.1)))]) (fun z=>n.length-z.1.1.1) ⟨((0,seen,out),sh),by simp,hi,i2,i3,by simpa using i4,rfl⟩ ?_ ?_
  ·exact GS.to (by simp)
  generalize hR:n.foldl (jS g) (seen,out)=R at i5;rintro⟨⟨⟨k,seen,out⟩,sh⟩,k1,k2,k3,k4,k5,k6⟩;simp only at k1 k2 k3 k4 k5 k6;have hsl:=BG k3 k4;by_cases hk:k<n.length
  ·have hkz:(k:Int)<n.length:=by omega
   have hy:n[k]? = some n[k]:=List.getElem?_eq_getElem hk;have hym:=hsh _ (List.getElem_mem hk);have hdr:n.drop k=n[k]::n.drop (k+1):=List.drop_eq_getElem_cons hk;generalize n[k]=y at hy hym hdr;rw[hdr,List.foldl_cons,jS]at k6
   simp -dsimp[hkz,hy,ints];refine ah.of (xZ g hg y) [] 0 ?_;rcases (Bool.eq_false_or_eq_true (dY g.rs y)).symm with c1|c1
   ·rw[if_neg (by simp[c1])]at k6
    simp -dsimp[eq_true hc,c1,ints,hy,aH];and_intros;all_goals try first|rfl|omega|exact⟨by kernel_rfl⟩
    refine ah.of (Qm seen (by omega) y) [] 0 ?_;rcases (Bool.eq_false_or_eq_true (mF seen y)).symm with c2|c2
    ·rw[if_neg (by simp[c2])]at k6
     simp -dsimp[eq_true hc,c1,c2,ints,hy,aH,wrap_i64 (n:=(k:Int)+1) (by omega) (by omega)];and_intros;all_goals try first|rfl|omega|exact⟨by kernel_rfl⟩
     have hnd:(seen++[y]).Nodup:=by
      rw[List.nodup_append];refine⟨k3,by simp,fun a ha b hb e=>?_⟩;simp at hb;subst hb;subst e;simp[mF,ha]at c2
     exact⟨⟨((k+1,seen++[y],out),true),by simp;omega,by simp;omega,hnd,fun x hx=>by
      rcases List.mem_append.1 hx with hx|hx
      ·exact k4 x hx
      ·simp at hx;subst hx;exact hym,by simp;omega,k6⟩,GS.to (by simp[dJ,ints]),by simp;omega⟩
    ·rw[if_pos c2]at k6
     simp -dsimp[eq_true hc,c1,c2,ints,hy,aH,wrap_i64 (n:=(k:Int)+1) (by omega) (by omega)];and_intros;all_goals try first|rfl|omega|exact⟨by kernel_rfl⟩
     exact⟨⟨((k+1,seen,out),true),by simp;omega,k2,k3,k4,by simp;omega,k6⟩,GS.to (by simp[ints]),by simp;omega⟩
   ·rw[if_pos c1]at k6
    simp -dsimp[eq_true hc,c1,ints,hy,aH];and_intros;all_goals try first|rfl|omega|exact⟨by kernel_rfl⟩
    refine ah.of (aaA out (by omega) y) [] 0 ?_;simp -dsimp[eq_true hc,c1,ints,hy,aH,wrap_i64 (n:=(k:Int)+1) (by omega) (by omega)];and_intros;all_goals try first|rfl|omega|exact⟨by kernel_rfl⟩
    have:=aff out y;exact⟨⟨((k+1,seen,E8 out y),sh),by simp;omega,k2,k3,k4,by simp;omega,k6⟩,GS.to (by simp[ints]),by simp;omega⟩
  ·have hkz :¬(k:Int)<n.length:=by omega
   rw[List.drop_eq_nil_of_le (by omega),List.foldl_nil]at k6
   simp -dsimp[hkz,ints,wrap_i64 (n:=(i:Int)+1) (by omega) (by omega)];exact⟨⟨((i+1,seen,out),sh),by simp;omega,k3,k4,by simp;omega,by rw[i5,k6,show g.rs.length+1-(i+1)=g.rs.length-i by omega]⟩,GS.to (by simp[ints]),by simp;omega⟩
 ·have hiz :¬(i:Int)<seen.length:=by omega
  have e:H=(seen,out):=by
   rw[i5];cases g.rs.length+1-i with
   | zero=>rfl
   | succ k=>rw[qo,if_neg hi]
  simp -dsimp[hiz];refine Fin.of ?_;simp[e]
def uS(g:ay)(r:Int)(e:Ed):Rw:=⟨e.id,if e.r=r then [r]else if cZ g=0∧dY g.rs e.r=true then hops g r e.r else []⟩
def jE(g:ay)(p:Pn)(r:Int):Tb:=⟨r,p.bF,p.len,p.es.map (uS g r)⟩
def XR(g:ay)(r:Int)(es:List Ed):List (List D):=(es.map (uS g r)).map Rw.cs
@[simp]theorem aj8(g:ay)(r:Int)(es:List Ed):(XR g r es).length=es.length:=by simp[XR]
theorem QK(g:ay)(r:Int)(es:List Ed)(x:Ed):XR g r (es++[x])=XR g r es++[(uS g r x).cs]:=by simp[XR]
theorem BH(g:ay)(hg:g.Sm)(p:Pn)(hp:p.es.length≤1000000)(r:Int):Contract Tryz.prog 125 [aH g,bI p,.d (.int .i64 r)] [] (bZ (jE g p r)) [] []:=by
 have hr:=hg.r;refine aj Tryz.func125 rfl (fun E0=>?_);refine cO.sound (g:=.mk) (ow:=[]) (kp:=(fun k=>k==0||k==1||k==2||k==3||k==4||k==6||k==7||k==8||k==9||k==20||k==37||k==48)) ?_;rw[Tryz.ntmps125];simp -dsimp[aH,bI]
 refine aN.of [] (fun k=>k==0||k==1||k==2||k==3||k==4||k==6||k==7||k==8||k==9||k==20||k==37||k==48) (ι:={i:Nat // i≤p.es.length}) (fun z=>[(Pl.s 0,It.v (.agg [TV.d (.sl (rts g.rs)),TV.d (.sl (dO g.ls))])),(Pl.s 1,It.v (.agg [TV.d (.int .i64 p.bF),TV.d (.int .i64 p.len),TV.d (.sl (rJ p.es))])),(Pl.s 2,It.v (.d (.int .i64 r))),(Pl.o 3,It.box [TV.d (.sl (rts g.rs)),TV.d (.sl (dO g.ls))]),(Pl.s 3,It.v (.ptr (Pl.o 3) 0)),(Pl.o 4,It.box [TV.d (.int .i64 p.bF),TV.d (.int .i64 p.len),TV.d (.sl (rJ p.es))]),(Pl.s 4,It.v (.ptr (Pl.o 4) 0)),(Pl.o 6,It.box [TV.d (.int .i64 0),TV.d (.int .i64 0),TV.d (.int .i64 0),TV.c (Value.slice none 0 0)]),(Pl.s 6,It.v (.ptr (Pl.o 6) 0)),(Pl.s 7,It.v (.ptr (Pl.o 7) 0)),(Pl.o 7,It.box [TV.d (.int .i64 r),TV.d (.int .i64 p.bF),TV.d (.int .i64 p.len),TV.aB 1000 z.1]),(Pl.o 1000,It.row 167 2 (dd (XR g r (p.es.take z.1))) false),(Pl.s 8,It.v (.d (.int .i64 z.1)))]) (fun z=>p.es.length-z.1) ⟨0,by omega⟩ ?_ ?_
 ·exact GS.gq (.o 7) 3 1000 (cs:=[TV.d (.int .i64 r),TV.d (.int .i64 p.bF),TV.d (.int .i64 p.len),TV.c (Value.slice none 0 0)]) 167 2 (by simp) (by simp) (by simp) (by simp) (by simp[XR])
 rintro⟨i,i1⟩;by_cases hi:i<p.es.length
 ·have hiz:(i:Int)<p.es.length:=by omega
  have hx:p.es[i]? = some p.es[i]:=List.getElem?_eq_getElem hi;have ht:p.es.take (i+1)=p.es.take i++[p.es[i]]:=by rw[List.take_add_one,List.getElem?_eq_getElem hi];rfl
  generalize p.es[i]=x at hx ht;have hx':=mP hx;by_cases a1:x.r=r
  ·simp -dsimp[hiz,hx',Ed.cs,eq_true a1,wrap_i64 (n:=(i:Int)+1) (by omega) (by omega)];and_intros;all_goals try first|rfl|omega|exact⟨by kernel_rfl⟩
   have hb:uS g r x=⟨x.id,[r]⟩:=by simp[uS,a1]
   exact⟨⟨i+1,by omega⟩,GS.to (by simp[ht,QK,hb,Rw.cs,ints]),by simp;omega⟩
  simp -dsimp[hiz,hx',Ed.cs,eq_false a1,aH];refine ah.of (xZ g hg x.r) [] 0 ?_;rcases (Bool.eq_false_or_eq_true (decide (cZ g=0)&&dY g.rs x.r)).symm with a2|a2
  ·simp -dsimp[hiz,hx',Ed.cs,eq_false a1,aH,a2,wrap_i64 (n:=(i:Int)+1) (by omega) (by omega)];and_intros;all_goals try first|rfl|omega|exact⟨by kernel_rfl⟩
   have hb:uS g r x=⟨x.id,[]⟩:=by simp[uS,a1];intro h1 h2;simp[h1,h2]at a2
   exact⟨⟨i+1,by omega⟩,GS.to (by simp[ht,QK,hb,Rw.cs,ints]),by simp;omega⟩
  ·simp -dsimp[hiz,hx',Ed.cs,eq_false a1,aH,a2];and_intros;all_goals try first|rfl|omega|exact⟨by kernel_rfl⟩
   refine ah.of (ae4 g hg r x.r) [] 0 ?_;simp -dsimp[hiz,hx',Ed.cs,eq_false a1,aH,a2,wrap_i64 (n:=(i:Int)+1) (by omega) (by omega)];and_intros;all_goals try first|rfl|omega|exact⟨by kernel_rfl⟩
   have hb:uS g r x=⟨x.id,hops g r x.r⟩:=by simp at a2;simp[uS,a1,a2]
   exact⟨⟨i+1,by omega⟩,GS.to (by simp[ht,QK,hb,Rw.cs,ints]),by simp;omega⟩
 ·have hiz :¬(i:Int)<p.es.length:=by omega
  obtain rfl:i=p.es.length:=by omega
  simp -dsimp[hiz];refine Fin.box (.o 6) rfl ?_;simp -dsimp;refine Fin.of ?_;simp[bZ,jE,bV,XR]
def Tb.cs(b:Tb):List D:=[.int .i64 b.r,.int .i64 b.sd,.int .i64 b.len,bV b.rows]
def tabs(g:ay)(p:Pn)(rs:List Rt):List Tb:=(rs.filter (·.cap)).map fun x=>jE g p x.id
def yA(g:ay)(p:Pn)(rs:List Rt):List (List D):=(tabs g p rs).map Tb.cs
theorem FP(g:ay)(p:Pn)(rs:List Rt):(yA g p rs).length≤rs.length:=by
 simp only[yA,tabs,List.length_map];exact List.length_filter_le _ _
theorem FN(g:ay)(p:Pn)(rs:List Rt)(x:Rt):yA g p (rs++[x])=if x.cap then yA g p rs++[(jE g p x.id).cs]else yA g p rs:=by
 simp only[yA,tabs,List.filter_append,List.map_append];cases h:x.cap<;>simp[h]
def allT(l:List Tb)(e:Int):TV:=.rG [.d (.sl (l.map Tb.cs)),.d (.int .i64 e)]
open Classical in
noncomputable def rY(g:ay)(p:Pn):List Tb×Int:=if cZ g=0∧d_ p=true then(tabs g p g.rs,0)else([],1)
theorem FY(g:ay)(hg:g.Sm)(p:Pn)(hp:p.es.length≤1000):Contract Tryz.prog 54 [aH g,bI p] [] (allT (rY g p).1 (rY g p).2) [] []:=by
 have hr:=hg.r;refine aj Tryz.func54 rfl (fun E0=>?_);refine cO.sound (g:=.mk) (ow:=[]) (kp:=(fun k=>k==0||k==1||k==2||k==3||k==4||k==5||k==6||k==7||k==15||k==20||k==28)) ?_;rw[Tryz.ntmps54];simp -dsimp[aH,bI];refine ah.of (oz g hg.r hg.l) [] 0 ?_;by_cases hc:cZ g=0
 ·simp -dsimp[eq_true hc,aH];refine ah.of (uQ p hp) [] 0 ?_;rcases (Bool.eq_false_or_eq_true (d_ p)).symm with a1|a1
  ·simp -dsimp[eq_true hc,a1,bI];and_intros;all_goals try first|rfl|omega|exact⟨by kernel_rfl⟩
   refine Fin.view 4 ?_;simp -dsimp;refine Fin.of ?_;simp[rY,a1,allT]
  ·have he:rY g p=(tabs g p g.rs,0):=by rw[rY,if_pos ⟨hc,a1⟩]
   have hn:g.rs.length≤24:=(aU hc).nr;rw[he];clear he;simp -dsimp[eq_true hc,a1,bI];and_intros;all_goals try first|rfl|omega|exact⟨by kernel_rfl⟩
   as_aux_lemma=>
   refine aN.of [] (fun k=>k==0||k==1||k==2||k==3||k==4||k==5||k==6||k==7||k==15||k==20||k==28) (ι:={i:Nat // i≤g.rs.length∧True}) (fun z=>[(Pl.s 0,It.v (.agg [TV.d (.sl (rts g.rs)),TV.d (.sl (dO g.ls))])),(Pl.s 1,It.v (.agg [TV.d (.int .i64 p.bF),TV.d (.int .i64 p.len),TV.d (.sl (rJ p.es))])),(Pl.o 2,It.box [TV.d (.sl (rts g.rs)),TV.d (.sl (dO g.ls))]),(Pl.s 2,It.v (.ptr (Pl.o 2) 0)),(Pl.o 3,It.box [TV.d (.int .i64 p.bF),TV.d (.int .i64 p.len),TV.d (.sl (rJ p.es))]),(Pl.s 3,It.v (.ptr (Pl.o 3) 0)),(Pl.s 4,It.v (.c (Value.slice none 0 0))),(Pl.s 5,It.v (.d (.int .i64 0))),(Pl.s 6,It.v (.aB 6 (yA g p (g.rs.take z.1)).length)),(Pl.o 6,It.row 65 4 (dd (yA g p (g.rs.take z.1))) false),(Pl.s 7,It.v (.d (.int .i64 z.1)))]) (fun z=>g.rs.length-z.1) ⟨0,by omega,trivial⟩ ?_ ?_
   ·exact GS.own' (k:=6) 65 4 (by simp) (by simp) (by simp[yA,tabs])
   rintro⟨i,i1,i2⟩;by_cases hi:i<g.rs.length
   ·have hiz:(i:Int)<g.rs.length:=by omega
    have hx:g.rs[i]? = some g.rs[i]:=List.getElem?_eq_getElem hi;have ht:g.rs.take (i+1)=g.rs.take i++[g.rs[i]]:=by rw[List.take_add_one,List.getElem?_eq_getElem hi];rfl
    generalize g.rs[i]=x at hx ht;have hx':=fF hx;have hta:=FN g p (g.rs.take i) x;have htl:=FP g p (g.rs.take i);rw[←ht]at hta
    simp at htl;rcases (Bool.eq_false_or_eq_true x.cap).symm with c1|c1
    ·rw[if_neg (by simp[c1])]at hta
     simp -dsimp[hiz,hx',Rt.cs,c1,wrap_i64 (n:=(i:Int)+1) (by omega) (by omega)];and_intros;all_goals try first|rfl|omega|exact⟨by kernel_rfl⟩
     exact⟨⟨i+1,by omega,trivial⟩,GS.to (by simp[hta]),by simp;omega⟩
    ·rw[if_pos c1]at hta
     simp -dsimp[hiz,hx',Rt.cs,c1];refine ah.of (BH g hg p (by omega) x.id) [] 0 ?_;simp -dsimp[hiz,hx',Rt.cs,c1,aH,bI,bZ,bV,wrap_i64 (n:=(i:Int)+1) (by omega) (by omega)];and_intros;all_goals try first|rfl|omega|exact⟨by kernel_rfl⟩
     exact⟨⟨i+1,by omega,trivial⟩,GS.to (by simp[hta,Tb.cs,bV]),by simp;omega⟩
   ·have hiz :¬(i:Int)<g.rs.length:=by omega
    obtain rfl:i=g.rs.length:=by omega
    simp -dsimp[hiz];refine Fin.view 4 ?_;simp -dsimp;refine Fin.of ?_;simp[allT,yA]
 ·simp -dsimp[eq_false hc,aH];and_intros;all_goals try first|rfl|omega|exact⟨by kernel_rfl⟩
  refine Fin.view 4 ?_;simp -dsimp;refine Fin.of ?_;simp[rY,hc,allT]
end Go.Proofs
