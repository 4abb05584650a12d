/-
  What functions of the program compute, stated as contracts over plain data; the conditions of each stand in its own statement.
-/
import Derived.Test.YtboimfkommpglaaGreatDoorZA18
import Derived.Test.YtboimfkommpglaaGreatDoorZA12
set_option linter.unusedSimpArgs false
set_option maxRecDepth 100000
set_option maxHeartbeats 2000000
namespace Go.Proofs
open Go Go.Tr
theorem adv{g:ay}(hg:g.Ok){f t c:Int}(h:price g.ls f t=some c):1≤c:=by
 have:∀l:List Lk,(∀x∈l,x∈g.ls)→price l f t=some c→1≤c:=by
  intro l
  induction l with
  | nil=>intro _ h;simp[price]at h
  | cons x l ih=>
    intro hm h;have hc:=hg.c (hm x (by simp));rw[price]at h
    split at h
    ·simp at h;omega
    ·split at h
     ·simp at h;omega
     ·exact ih (fun y hy=>hm y (by simp[hy])) h
 exact this g.ls (fun _ h=>h) h
theorem af8{g:ay}(hg:g.Ok){d:List Int}{f x:Int}(h:x∈steps g d f):atR g d x<atR g d f:=by
 unfold steps at h;split at h
 ·simp at h
 ·obtain⟨h1,h2⟩:=List.mem_filter.1 h;simp only[near,List.mem_map,List.mem_filter]at h1;obtain⟨y,⟨_,hy⟩,rfl⟩:=h1;obtain⟨c,hc⟩:=Option.isSome_iff_exists.1 hy;have:=adv hg hc;simp only[ED,hc,Option.getD_some,Bool.and_eq_true,decide_eq_true_eq]at h2;omega
structure NV(g:ay)(d:List Int)(a:Int)(s:List Int×List Int):Prop where
 seen:∀x∈s.1,atR g d x≤a
 xX:s.2.Pairwise (· < ·)
 out:∀x∈s.2,atR g d x<a∧aY g.rs x=true∧dY g.rs x=true
theorem NV.step{g:ay}{d:List Int}{a n:Int}{s:List Int×List Int}(h:NV g d a s)(h1:atR g d n<a)(h2:aY g.rs n=true):NV g d a (jS g s n):=by
 unfold jS;split
 ·rename_i hc;obtain⟨h3,h4⟩:=MK n h.xX;refine⟨h.seen,h3,fun x hx=>?_⟩;rcases (h4 x).1 hx with hx|rfl
  ·exact h.out x hx
  ·exact⟨h1,h2,hc⟩
 ·split
  ·exact h
  ·refine⟨fun x hx=>?_,h.xX,h.out⟩;rcases List.mem_append.1 hx with hx|hx
   ·exact h.seen x hx
   ·simp at hx;subst hx;omega
theorem NV.steps{g:ay}{d:List Int}{a:Int}:∀(l:List Int) (s:List Int×List Int),(∀x∈l,atR g d x<a∧aY g.rs x=true)→NV g d a s→NV g d a (l.foldl (jS g) s)
 | [],_,_,h=>h
 | n::l,s,hl,h=>by
   rw[List.foldl_cons];exact NV.steps l _ (fun x hx=>hl x (by simp[hx])) (h.step (hl n (by simp)).1 (hl n (by simp)).2)
theorem NV.all{g:ay}(hg:g.Ok){d:List Int}{a:Int}:∀(k i:Nat) (s:List Int×List Int),NV g d a s→NV g d a (qo g d k i s)
 | 0,_,_,h=>h
 | k+1,i,s,h=>by
   rw[qo];split
   ·rename_i hi;refine NV.all hg k (i+1) _ (NV.steps _ _ (fun x hx=>?_) h);have h1:=af8 hg hx;have h2:=h.seen (s.1.getD i 0) (by rw[List.getD_eq_getElem?_getD,List.getElem?_eq_getElem hi];exact List.getElem_mem hi);exact⟨by omega,zZ hx⟩
   ·exact h
theorem Qn(g:ay)(f t:Int):(hops g f t).Pairwise (· < ·)∧∀x∈hops g f t,aY g.rs x=true∧dY g.rs x=true∧x≠f:=by
 unfold hops;split
 ·rename_i h;have:=NV.all (aU h.1) (d:=dist g t) (a:=atR g (dist g t) f) (g.rs.length+1) 0 ([f],[]) ⟨by simp,by simp,by simp⟩;exact⟨this.xX,fun x hx=>⟨(this.out x hx).2.1,(this.out x hx).2.2,fun e=>by have:=(this.out x hx).1;subst e;omega⟩⟩
 ·simp
theorem ay.Ok.id{g:ay}(h:g.Ok){r:Int}(hr:aY g.rs r=true):DJ r 1 99:=by
 obtain⟨x,hx,rfl⟩:=List.mem_map.1 (dH.1 hr);have:=List.any_eq_false.1 h.ids x hx;simp[inB]at this
 exact this
theorem N9{g:ay}(hg:cZ g=0){p:Pn}(hp:d_ p=true){r:Int}(hr:aY g.rs r=true):chk (jE g p r)=0:=by
 have hO:=aU hg;have RY:=hO.id hr;simp only[d_,decide_eq_true_eq]at hp;obtain⟨hb,he,_⟩:=hp;simp only[yD,inB,Bool.and_eq_true,Bool.or_eq_true,decide_eq_true_eq]at hb;obtain⟨b1,b2,b3⟩:=hb;have hed:∀{i:Nat} {e:Ed},p.es[i]? = some e→DJ e.id 1 256∧(i=0∨∃e',p.es[i-1]? = some e'∧e'.id<e.id):=fun {i e} hi=>by
  obtain⟨h1,h2⟩:=List.getElem?_eq_some_iff.1 hi;have h3:=he i h1;have g1:p.es.getD i ⟨0,0⟩ = e:=by rw[List.getD_eq_getElem?_getD,hi];rfl
  simp only[LD,gid,KA,g1,inB,Bool.and_eq_true,Bool.or_eq_true,decide_eq_true_eq]at h3;refine⟨h3.1,h3.2.2.imp id fun h=>?_⟩;have h4:i-1<p.es.length:=by omega
  rw[List.getD_eq_getElem?_getD,List.getElem?_eq_getElem h4]at h
  exact⟨_,List.getElem?_eq_getElem h4,h⟩
 have hnx:∀e:Ed,(∀n∈(uS g r e).nx,DJ n 1 99)∧(uS g r e).nx.Pairwise (· < ·)∧(uS g r e).nx.length≤24∧¬(1<(uS g r e).nx.length∧r∈(uS g r e).nx):=fun e=>by
  unfold uS;simp only;split
  ·exact⟨by simpa using RY,by simp,by simp,by simp⟩
  ·split
   ·obtain⟨h1,h2⟩:=Qn g r e.r;refine⟨fun n hn=>hO.id (h2 n hn).1,h1,?_,fun h=>(h2 r h.2).2.2 rfl⟩;exact Nat.le_trans (BG (h1.imp fun h=>by omega) fun x hx=>(h2 x hx).1) hO.nr
   ·simp
 have hmem:∀{x:Rw},x∈(jE g p r).rows→∃(i:Nat) (e:Ed),p.es[i]? = some e∧x=uS g r e:=fun {x} hx=>by
  obtain⟨e,he,rfl⟩:=List.mem_map.1 hx;obtain⟨i,hi⟩:=List.getElem?_of_mem he;exact⟨i,e,hi,rfl⟩
 refine Gf ⟨RY,b1,b2.imp id fun h=>⟨h.1,by simp[jE,h.2]⟩⟩ ?_ (by simp[jE];omega) ?_ (QJ (fun a x y hx hy=>?_) fun x hx=>?_) ?_
 ·rintro⟨x,hx,ho⟩;obtain⟨i,e,hi,rfl⟩:=hmem hx;rcases ho with ho|⟨n,hn,ho⟩
  ·exact ho (hed hi).1
  ·exact ho ((hnx e).1 n hn)
 ·rintro⟨x,hx,ho⟩;obtain⟨i,e,hi,rfl⟩:=hmem hx;have:=(hnx e).2.2.1;omega
 ·simp only[jE,List.getElem?_map,Option.map_eq_some_iff]at hx hy;obtain⟨e,h1,rfl⟩:=hx;obtain⟨e',h2,rfl⟩:=hy;rcases (hed h2).2 with h|⟨e2,h3,h4⟩
  ·simp at h
  ·simp only[Nat.add_sub_cancel]at h3;rw[h1]at h3
   simp only[Option.some.injEq]at h3;subst h3;exact h4
 ·obtain⟨i,e,hi,rfl⟩:=hmem hx;exact(hnx e).2.1
 ·rintro⟨x,hx,h1,h2⟩;obtain⟨i,e,hi,rfl⟩:=hmem hx;exact(hnx e).2.2.2 ⟨h1,h2⟩
theorem ac1(l:List Tb)(hl:l.length≤1000000)(f:FuncId)(q:Tb→Bool)(hf:∀x,x∈l→Contract Tryz.prog f [bZ x] [] (.d (.bool (q x))) [] [])(hok:aZ Tryz.prog f=true):
  Contract Tryz.prog 228 [.d (.sl (l.map Tb.cs)),.clo f []] [] (.d (.int .i64 (MI q l))) [] []:=by
 refine aj Tryz.func228 rfl (fun E0=>?_);refine cO.sound (g:=.mk) (ow:=[]) (kp:=(fun k=>k==0||k==1||k==4||k==5||k==7||k==8||k==9||k==16)) ?_;rw[Tryz.ntmps228];simp -dsimp;refine aN.of [] (fun k=>k==0||k==1||k==4||k==5||k==7||k==8||k==9||k==16) (ι:={i:Nat // i≤l.length∧∀a,a<i→∀x,l[a]? = some x→q x=false})
  (fun z=>[(Pl.s 0,It.v (.d (.sl (l.map Tb.cs)))),(Pl.s 1,It.v (.clo f [])),(Pl.s 4,It.v (.d (.int .i64 0))),(Pl.s 7,It.v (.d (.int .i64 l.length))),(Pl.s 8,It.v (.d (.int .i64 z.1)))]) (fun z=>l.length-z.1) ⟨0,by omega,fun a h=>by omega⟩ ?_ ?_
 ·exact GS.to (by simp)
 ·rintro⟨i,i1,i2⟩;by_cases hi:i<l.length
  ·have hiz:(i:Int)<l.length:=by omega
   have hx:l[i]? = some l[i]:=List.getElem?_eq_getElem hi;have hm:l[i]∈l:=List.getElem_mem hi;generalize l[i]=x at hx hm;simp -dsimp[hiz,hx,Tb.cs,bV,wrap_i64 (n:=(i:Int)+1) (by omega) (by omega)];and_intros;all_goals try first|rfl|omega|exact⟨by kernel_rfl⟩
   refine ah.of (hf x hm) [] 0 ?_;rcases (Bool.eq_false_or_eq_true (q x)).symm with h|h
   ·simp -dsimp[h,hok,bZ,bV,wrap_i64 (n:=(i:Int)+1) (by omega) (by omega)];and_intros;all_goals try first|rfl|omega|exact⟨by kernel_rfl⟩
    exact⟨⟨i+1,by omega,fun a ha y hy=>by
     by_cases e:a=i
     ·subst e;rw[hx]at hy;simp only[Option.some.injEq]at hy;subst hy;exact h
     ·exact i2 a (by omega) y hy⟩,GS.to (by simp),by simp;omega⟩
   ·simp -dsimp[h,hok,bZ,bV];and_intros;all_goals try first|rfl|omega|exact⟨by kernel_rfl⟩
    refine Fin.of ?_;simp[Iq hx h i2]
  ·simp -dsimp[hi];refine Fin.of ?_;simp;exact(Ir fun a ha=>i2 a (by omega)).symm
theorem Ux(l:List Tb)(hl:l.length≤1000000)(f:FuncId)(q:Tb→Bool)(hf:∀x,x∈l→Contract Tryz.prog f [bZ x] [] (.d (.bool (q x))) [] [])(hok:aZ Tryz.prog f=true):
  Contract Tryz.prog 171 [.d (.sl (l.map Tb.cs)),.clo f []] [] (.d (.bool (l.any q))) [] []:=by
 refine aj Tryz.func171 rfl (fun E0=>?_);refine cO.sound (g:=.mk) (ow:=[]) (kp:=(fun k=>k==0||k==1||k==4)) ?_;rw[Tryz.ntmps171];simp -dsimp;refine ah.of (ac1 l hl f q hf hok) [] 0 ?_;simp -dsimp;refine Fin.of ?_;simp[D6]
theorem ac2(l:List Tb)(hl:l.length≤1000000)(f:FuncId)(ds:List D)(q:Tb→Bool)(hf:∀x,x∈l→Contract Tryz.prog f [bZ x,.ptr (.x 0) 0] [.box (ds.map .d)] (.d (.bool (q x))) [.box (ds.map .d)] [])(hok:aZ Tryz.prog f=true):
  Contract Tryz.prog 228 [.d (.sl (l.map Tb.cs)),.clo f [.ptr (.x 0) 0]] [.box (ds.map .d)] (.d (.int .i64 (MI q l))) [.box (ds.map .d)] []:=by
 refine aj Tryz.func228 rfl (fun E0=>?_);refine cO.sound (g:=.mk) (ow:=[]) (kp:=(fun k=>k==0||k==1||k==4||k==5||k==7||k==8||k==9||k==16)) ?_;rw[Tryz.ntmps228];simp -dsimp;refine aN.of [] (fun k=>k==0||k==1||k==4||k==5||k==7||k==8||k==9||k==16) (ι:={i:Nat // i≤l.length∧∀a,a<i→∀x,l[a]? = some x→q x=false})
  (fun z=>[(Pl.s 0,It.v (.d (.sl (l.map Tb.cs)))),(Pl.s 1,It.v (.clo f [TV.ptr (Pl.x 0) 0])),(Pl.x 0,It.box (List.map TV.d ds)),(Pl.s 4,It.v (.d (.int .i64 0))),(Pl.s 7,It.v (.d (.int .i64 l.length))),(Pl.s 8,It.v (.d (.int .i64 z.1)))]) (fun z=>l.length-z.1) ⟨0,by omega,fun a h=>by omega⟩ ?_ ?_
 ·exact GS.to (by simp)
 ·rintro⟨i,i1,i2⟩;by_cases hi:i<l.length
  ·have hiz:(i:Int)<l.length:=by omega
   have hx:l[i]? = some l[i]:=List.getElem?_eq_getElem hi;have hm:l[i]∈l:=List.getElem_mem hi;generalize l[i]=x at hx hm;simp -dsimp[hiz,hx,Tb.cs,bV,wrap_i64 (n:=(i:Int)+1) (by omega) (by omega)];and_intros;all_goals try first|rfl|omega|exact⟨by kernel_rfl⟩
   refine ah.of (hf x hm) [.x 0] 0 ?_;rcases (Bool.eq_false_or_eq_true (q x)).symm with h|h
   ·simp -dsimp[h,hok,bZ,bV,wrap_i64 (n:=(i:Int)+1) (by omega) (by omega)];and_intros;all_goals try first|rfl|omega|exact⟨by kernel_rfl⟩
    exact⟨⟨i+1,by omega,fun a ha y hy=>by
     by_cases e:a=i
     ·subst e;rw[hx]at hy;simp only[Option.some.injEq]at hy;subst hy;exact h
     ·exact i2 a (by omega) y hy⟩,GS.to (by simp),by simp;omega⟩
   ·simp -dsimp[h,hok,bZ,bV];and_intros;all_goals try first|rfl|omega|exact⟨by kernel_rfl⟩
    refine Fin.of ?_;simp[Iq hx h i2]
  ·simp -dsimp[hi];refine Fin.of ?_;simp;exact(Ir fun a ha=>i2 a (by omega)).symm
theorem Uy(l:List Tb)(hl:l.length≤1000000)(f:FuncId)(ds:List D)(q:Tb→Bool)(hf:∀x,x∈l→Contract Tryz.prog f [bZ x,.ptr (.x 0) 0] [.box (ds.map .d)] (.d (.bool (q x))) [.box (ds.map .d)] [])(hok:aZ Tryz.prog f=true):
  Contract Tryz.prog 171 [.d (.sl (l.map Tb.cs)),.clo f [.ptr (.x 0) 0]] [.box (ds.map .d)] (.d (.bool (l.any q))) [.box (ds.map .d)] []:=by
 refine aj Tryz.func171 rfl (fun E0=>?_);refine cO.sound (g:=.mk) (ow:=[]) (kp:=(fun k=>k==0||k==1||k==4)) ?_;rw[Tryz.ntmps171];simp -dsimp;refine ah.of (ac2 l hl f ds q hf hok) [.x 0] 0 ?_;simp -dsimp;refine Fin.of ?_;simp[D6]
def oq(l:List Tb):List (List D):=l.map Tb.cs
def rws(l:List Rw):List (List D):=l.map Rw.cs
theorem Nz{l:List Rw}{i:Nat}{x:Rw}(h:l[i]? = some x):(rws l)[i]? = some [.int .i64 x.id,ints x.nx]:=by simp[rws,h,Rw.cs]
@[simp]theorem anO(l:List Rw):(rws l).length=l.length:=by simp[rws]
theorem JF(l:List Rw)(x:Rw):rws (l++[x])=rws l++[[.int .i64 x.id,ints x.nx]]:=by simp[rws,Rw.cs]
theorem jf(l:List Rw):bV l = .sl (rws l):=rfl
theorem wX{l:List Tb}{i:Nat}{b:Tb}(h:l[i]? = some b):(oq l)[i]? = some [.int .i64 b.r,.int .i64 b.sd,.int .i64 b.len,.sl (rws b.rows)]:=by simp[oq,h,Tb.cs,jf]
@[simp]theorem anQ(l:List Tb):(oq l).length=l.length:=by simp[oq]
structure DL(l:List Tb):Prop where
 n:l.length≤1000
 t:∀b∈l,b.Sm
structure Tb.SmB(b:Tb):Prop where
 rows:b.rows.length≤9223372036854775807
 nx:∀x∈b.rows,x.nx.length≤9223372036854775807
theorem Tb.Sm.big{b:Tb}(h:b.Sm):b.SmB:=⟨Nat.le_trans h.rows (by decide),fun x hx=>Nat.le_trans (h.nx x hx) (by decide)⟩
structure ZB(l:List Tb):Prop where
 n:l.length≤1000
 t:∀b∈l,b.SmB
theorem DL.big{l:List Tb}(h:DL l):ZB l:=⟨h.n,fun b hb=>(h.t b hb).big⟩
def tb0:Tb:=⟨0,0,0,[]⟩
def nR(l:List Tb):Int:=jc [(decide (24<l.length),3),(l.any fun b=>decide (chk b≠0),1),(nO (fun x y=>decide (y.r≤x.r)) l,25),
 (l.any fun b=>decide (b.sd≠(l.headD tb0).sd)||decide (b.len≠(l.headD tb0).len),8)]
def bH(l:List Tb)(r:Int):Option Tb:=l.find? fun b=>decide (b.r=r)
def su(o:Option Tb):TV:=.rG [bZ (o.getD tb0),.d (.bool o.isSome)]
theorem CO(l:List Tb)(hl:DL l)(r:Int):Contract Tryz.prog 108 [.d (.sl (oq l)),.d (.int .i64 r)] [] (su (bH l r)) [] []:=by
 have hn:=hl.n;refine aj Tryz.func108 rfl (fun E0=>?_);refine cO.sound (g:=.mk) (ow:=[]) (kp:=(fun k=>k==0||k==1||k==4||k==5||k==6||k==10||k==19)) ?_;rw[Tryz.ntmps108];simp -dsimp
 refine aN.of [] (fun k=>k==0||k==1||k==4||k==5||k==6||k==10||k==19) (ι:={i:Nat // i≤l.length∧bH l r=bH (l.drop i) r}) (fun z=>[(Pl.s 0,It.v (.d (.sl (oq l)))),(Pl.s 1,It.v (.d (.int .i64 r))),(Pl.o 4,It.box [TV.d (.int .i64 0),TV.d (.int .i64 0),TV.d (.int .i64 0),TV.c (Value.slice none 0 0)]),(Pl.s 4,It.v (.ptr (Pl.o 4) 0)),(Pl.s 5,It.v (.d (.bool false))),(Pl.s 6,It.v (.d (.int .i64 z.1)))]) (fun z=>l.length-z.1) ⟨0,by omega,rfl⟩ ?_ ?_
 ·exact GS.to (by simp)
 rintro⟨i,i1,i2⟩;by_cases hi:i<l.length
 ·have hiz:(i:Int)<l.length:=by omega
  have hx:l[i]? = some l[i]:=List.getElem?_eq_getElem hi;generalize l[i]=b at hx;have hx':=wX hx;by_cases hr:b.r=r
  ·have e:bH l r=some b:=Rq hx i2 (by simpa using hr);simp -dsimp[hiz,hx',eq_true hr];and_intros;all_goals try first|rfl|omega|exact⟨by kernel_rfl⟩
   refine Fin.of ?_;simp[su,e,bZ,jf]
  ·have e:bH l r=bH (l.drop (i+1)) r:=Ot hx i2 (by simpa using hr);simp -dsimp[hiz,hx',eq_false hr,wrap_i64 (n:=(i:Int)+1) (by omega) (by omega)];and_intros;all_goals try first|rfl|omega|exact⟨by kernel_rfl⟩
   exact⟨⟨i+1,by omega,e⟩,GS.to (by simp[]),by simp;omega⟩
 ·have e:bH l r=none:=Ro i2 hi;have hiz :¬(i:Int)<l.length:=by omega
  simp -dsimp[hiz];refine Fin.box (.o 4) rfl ?_;simp -dsimp;refine Fin.of ?_;simp[su,e,bZ,jf,tb0,rws]
theorem DV(l:List Tb)(hl:ZB l):Contract Tryz.prog 106 [.d (.sl (oq l))] [] (.d (.int .i64 (nR l))) [] []:=by
 have hn:=hl.n;refine aj Tryz.func106 rfl (fun E0=>?_);refine cO.sound (g:=.mk) (ow:=[]) (kp:=(fun k=>k==0||k==2||k==3||k==4||k==5||k==8||k==12||k==20||k==24||k==38||k==42||k==66)) ?_;rw[Tryz.ntmps106];by_cases c1:24<l.length
 ·have yw:(24:Int)<l.length:=by omega
  simp -dsimp[yw];refine Fin.of ?_;simp[nR,jc,c1]
 have yw :¬(24:Int)<l.length:=by omega
 simp -dsimp[yw];clear yw;refine aN.of [] (fun k=>k==0||k==2||k==3||k==4||k==5||k==8||k==12||k==20||k==24||k==38||k==42||k==66) (ι:={i:Nat // i≤l.length∧(l.any fun b=>decide (chk b≠0))=(l.drop i).any fun b=>decide (chk b≠0)}) (fun z=>[(Pl.s 0,It.v (.d (.sl (oq l)))),(Pl.s 2,It.v (.d (.int .i64 0))),(Pl.s 3,It.v (.d (.int .i64 z.1)))]) (fun z=>l.length-z.1) ⟨0,by omega,rfl⟩ ?_ ?_
 ·exact GS.to (by simp)
 rintro⟨i,i1,i2⟩;by_cases hi:i<l.length
 ·have hiz:(i:Int)<l.length:=by omega
  have hx:l[i]? = some l[i]:=List.getElem?_eq_getElem hi;have hm:=hl.t l[i] (List.getElem_mem hi);generalize l[i]=b at hx hm;have hx':=wX hx;simp -dsimp[hiz,hx'];and_intros;all_goals try first|rfl|omega|exact⟨by kernel_rfl⟩
  refine ah.of (Kr b hm.rows hm.nx) [] 0 ?_;by_cases a1:chk b=0
  ·simp -dsimp[hiz,hx',bZ,jf,eq_true a1,wrap_i64 (n:=(i:Int)+1) (by omega) (by omega)];and_intros;all_goals try first|rfl|omega|exact⟨by kernel_rfl⟩
   exact⟨⟨i+1,by omega,Cb hx i2 (by simpa using a1)⟩,GS.to (by simp[]),by simp;omega⟩
  ·simp -dsimp[hiz,hx',bZ,jf,eq_false a1];and_intros;all_goals try first|rfl|omega|exact⟨by kernel_rfl⟩
   refine Fin.of ?_;have e:(l.any fun b=>decide (chk b≠0))=true:=Bo hx (by simpa using a1);simp only[nR,jc,cond_true,cond_false,decide_eq_false c1,e];simp
 have e1:=F5 i2 hi;have hiz :¬(i:Int)<l.length:=by omega
 simp -dsimp[hiz]
 as_aux_lemma=>
 refine aN.of [] (fun k=>k==0||k==2||k==3||k==4||k==5||k==8||k==12||k==20||k==24||k==38||k==42||k==66) (ι:={i:Nat // i≤l.length∧nO (fun x y=>decide (y.r≤x.r)) l=nO (fun (x y:Tb)=>decide (y.r≤x.r)) (l.drop i)}) (fun z=>[(Pl.s 0,It.v (.d (.sl (oq l)))),(Pl.s 2,It.v (.d (.int .i64 0))),(Pl.s 4,It.v (.d (.int .i64 ((z.1:Int)+1))))]) (fun z=>l.length-z.1) ⟨0,by omega,rfl⟩ ?_ ?_
 ·exact GS.to (by simp)
 rintro⟨i,i1,i2⟩;by_cases hi:i+1<l.length
 ·have hi0:i<l.length:=by omega
  have hiz:(i:Int)+1<l.length:=by omega
  have hx:l[i]? = some l[i]:=List.getElem?_eq_getElem hi0;have hy:l[i+1]? = some l[i+1]:=List.getElem?_eq_getElem hi;generalize l[i]=x at hx;generalize l[i+1]=y at hy;have hx':=wX hx;have hy':=wX hy;by_cases a1:y.r≤x.r
  ·simp -dsimp[hiz,hx',hy',a1,gZ,wrap_i64 (n:=(i:Int)) (by omega) (by omega)];and_intros;all_goals try first|rfl|omega|exact⟨by kernel_rfl⟩
   refine Fin.of ?_;have e:=Jo hx hy i2 (by simpa using a1);simp only[nR,jc,cond_true,cond_false,decide_eq_false c1,e1,e];simp
  ·simp -dsimp[hiz,hx',hy',a1,gZ,wrap_i64 (n:=(i:Int)) (by omega) (by omega),wrap_i64 (n:=(i:Int)+1+1) (by omega) (by omega)];and_intros;all_goals try first|rfl|omega|exact⟨by kernel_rfl⟩
   exact⟨⟨i+1,by omega,EF hx hy i2 (by simpa using a1)⟩,GS.to (by simp[]),by simp;omega⟩
 have e2:=Jm i2 hi;have hiz :¬(i:Int)+1<l.length:=by omega
 simp -dsimp[hiz]
 as_aux_lemma=>
 have hcf:(l.any fun b=>decide (b.sd≠(l.headD tb0).sd)||decide (b.len≠(l.headD tb0).len))=((l.drop 1).any fun b=>decide (b.sd≠(l.headD tb0).sd)||decide (b.len≠(l.headD tb0).len)):=by
  cases l with
  | nil=>rfl
  | cons c m=>
    have:(decide (c.sd≠c.sd)||decide (c.len≠c.len))=false:=by simp
    exact(congrArg (· || _) this).trans (Bool.false_or _)
 have hget:∀(i:Nat) (b:Tb),l[i]? = some b→l[0]? = some (l.headD tb0):=fun i b h=>by
  have hi:=(List.getElem?_eq_some_iff.1 h).1;obtain⟨c,m,e⟩:=List.exists_cons_of_length_pos (show 0<l.length by omega);rw[e];rfl
 have hck:nR l=bif (l.any fun b=>decide (b.sd≠(l.headD tb0).sd)||decide (b.len≠(l.headD tb0).len))then 8 else 0:=by
  simp only[nR,jc,cond_true,cond_false,decide_eq_false c1,e1,e2]
 generalize l.headD tb0=c at hcf hget hck
 refine aN.of [] (fun k=>k==0||k==2||k==3||k==4||k==5||k==8||k==12||k==20||k==24||k==38||k==42||k==66) (ι:={i:Nat // (l.any fun b=>decide (b.sd≠c.sd)||decide (b.len≠c.len))=(l.drop (i+1)).any fun b=>decide (b.sd≠c.sd)||decide (b.len≠c.len)}) (fun z=>[(Pl.s 0,It.v (.d (.sl (oq l)))),(Pl.s 2,It.v (.d (.int .i64 0))),(Pl.s 5,It.v (.d (.int .i64 ((z.1:Int)+1))))]) (fun z=>l.length-z.1) ⟨0,hcf⟩ ?_ ?_
 ·exact GS.to (by simp)
 rintro⟨i,i2⟩;by_cases hi:i+1<l.length
 ·have hiz:(i:Int)+1<l.length:=by omega
  have hx:l[i+1]? = some l[i+1]:=List.getElem?_eq_getElem hi;have h0:=hget _ _ hx;generalize l[i+1]=b at hx;have hx':=wX hx;have h0':=wX h0;by_cases a1:b.sd=c.sd
  ·by_cases a2:b.len=c.len
   ·simp -dsimp[hiz,hx',h0',eq_true a1,eq_true a2,gZ,wrap_i64 (n:=(i:Int)+1+1) (by omega) (by omega)];and_intros;all_goals try first|rfl|omega|exact⟨by kernel_rfl⟩
    exact⟨⟨i+1,Cb hx i2 (by simp[a1,a2])⟩,GS.to (by simp),by simp;omega⟩
   ·simp -dsimp[hiz,hx',h0',eq_true a1,eq_false a2,gZ];and_intros;all_goals try first|rfl|omega|exact⟨by kernel_rfl⟩
    refine Fin.of ?_;have e:=Bo (q:=fun b=>decide (b.sd≠c.sd)||decide (b.len≠c.len)) hx (by simp[a2]);rw[hck,e];simp
  ·simp -dsimp[hiz,hx',h0',eq_false a1,gZ];and_intros;all_goals try first|rfl|omega|exact⟨by kernel_rfl⟩
   refine Fin.of ?_;have e:=Bo (q:=fun b=>decide (b.sd≠c.sd)||decide (b.len≠c.len)) hx (by simp[a1]);rw[hck,e];simp
 ·have e3:=F5 i2 hi;have hiz :¬(i:Int)+1<l.length:=by omega
  simp -dsimp[hiz];refine Fin.of ?_;rw[hck,e3];simp
theorem aiz(b:Tb)(hb:b.SmB):Contract Tryz.prog 172 [bZ b] [] (.d (.bool (decide (chk b≠0)))) [] []:=by
 refine aj Tryz.func172 rfl (fun E0=>?_);refine cO.sound (g:=.mk) (ow:=[]) (kp:=(fun k=>k==0||k==1||k==2)) ?_;rw[Tryz.ntmps172];simp -dsimp[bZ];refine ah.of (V3 b hb.rows hb.nx) [] 0 ?_;simp -dsimp[bZ];refine Fin.of ?_;simp
theorem akb(l:List Tb)(c:Tb)(h0:l[0]? = some c)(b:Tb):Contract Tryz.prog 174 [bZ b,.ptr (.x 0) 0] [.box ([D.sl (oq l)].map .d)] (.d (.bool (decide (b.sd≠c.sd)||decide (b.len≠c.len)))) [.box ([D.sl (oq l)].map .d)] []:=by
 have h0':=wX h0;have hl:0<l.length:=(List.getElem?_eq_some_iff.1 h0).1;refine aj Tryz.func174 rfl (fun E0=>?_);refine cO.sound (g:=.mk) (ow:=[]) (kp:=(fun k=>k==0||k==1||k==2||k==3)) ?_;rw[Tryz.ntmps174];by_cases a1:b.sd=c.sd
 ·simp -dsimp[bZ,h0',eq_true a1];and_intros;all_goals try first|rfl|omega|exact⟨by kernel_rfl⟩
  refine Fin.of ?_;simp
 ·simp -dsimp[bZ,h0',eq_false a1];and_intros;all_goals try first|rfl|omega|exact⟨by kernel_rfl⟩
  refine Fin.of ?_;simp[a1]
theorem acK(l:List Tb)(hl:ZB l):Contract Tryz.prog 98 [.d (.sl (oq l))] [] (.d (.int .i64 (nR l))) [] []:=by
 have hn:=hl.n;refine aj Tryz.func98 rfl (fun E0=>?_);refine cO.sound (g:=.mk) (ow:=[]) (kp:=(fun k=>k==0||k==1||k==2||k==3||k==4||k==8||k==12||k==13||k==14||k==31||k==35)) ?_;rw[Tryz.ntmps98];by_cases c1:24<l.length
 ·have yw:(24:Int)<l.length:=by omega
  simp -dsimp[yw];refine Fin.of ?_;simp[nR,jc,c1]
 have yw :¬(24:Int)<l.length:=by omega
 simp -dsimp[yw];have hA:=Ux l (by omega) 172 (fun b=>decide (chk b≠0)) (fun b hb=>aiz b (hl.t b hb)) (by simp);refine ah.of hA [] 0 ?_;rcases Bool.eq_false_or_eq_true (l.any fun b=>decide (chk b≠0))with e1|e1
 ·rw[e1];simp -dsimp[yw,oq];refine Fin.of ?_;simp only[nR,jc,cond_true,cond_false,decide_eq_false c1,e1];simp
 rw[e1];simp -dsimp[yw,oq]
 as_aux_lemma=>
 refine aN.of [] (fun k=>k==0||k==1||k==2||k==3||k==4||k==8||k==12||k==13||k==14||k==31||k==35) (ι:={i:Nat // i≤l.length∧nO (fun x y=>decide (y.r≤x.r)) l=nO (fun (x y:Tb)=>decide (y.r≤x.r)) (l.drop (i-1))}) (fun z=>[(Pl.s 0,It.v (.d (.sl (oq l)))),(Pl.o 1,It.box [TV.d (.sl (oq l))]),(Pl.s 1,It.v (.ptr (Pl.o 1) 0)),(Pl.s 2,It.v (.d (.int .i64 0))),(Pl.s 12,It.v (.d (.int .i64 l.length))),(Pl.s 13,It.v (.d (.int .i64 z.1)))]) (fun z=>l.length-z.1) ⟨0,by omega,rfl⟩ ?_ ?_
 ·exact GS.to (by simp[oq])
 rintro⟨i,i1,i2⟩;by_cases hi:i<l.length
 ·have hiz:(i:Int)<l.length:=by omega
  have hy:l[i]? = some l[i]:=List.getElem?_eq_getElem hi;generalize l[i]=y at hy;have hy':=wX hy;by_cases h0:i=0
  ·have h0z :¬0<i:=by omega
   simp -dsimp[hiz,hy',h0z,wrap_i64 (n:=(i:Int)+1) (by omega) (by omega)];and_intros;all_goals try first|rfl|omega|exact⟨by kernel_rfl⟩
   exact⟨⟨i+1,by omega,by simp[h0]⟩,GS.to (by simp),by simp;omega⟩
  ·have h0z:0<i:=by omega
   have hx:l[i-1]? = some l[i-1]:=List.getElem?_eq_getElem (by omega);have hi1:((i:Int)-1).toNat=i-1:=by omega
   have hy2:l[i-1+1]? = some y:=by rw[show i-1+1=i by omega];exact hy
   generalize l[i-1]=x at hx;have hx':=wX hx;by_cases a1:y.r≤x.r
   ·simp -dsimp[hiz,hx',hy',h0z,hi1,a1,wrap_i64 (n:=(i:Int)-1) (by omega) (by omega)];and_intros;all_goals try first|rfl|omega|exact⟨by kernel_rfl⟩
    refine Fin.of ?_;have e:=Jo hx hy2 i2 (by simpa using a1);simp only[nR,jc,cond_true,cond_false,decide_eq_false c1,e1,e];simp
   ·simp -dsimp[hiz,hx',hy',h0z,hi1,a1,wrap_i64 (n:=(i:Int)-1) (by omega) (by omega),wrap_i64 (n:=(i:Int)+1) (by omega) (by omega)];and_intros;all_goals try first|rfl|omega|exact⟨by kernel_rfl⟩
    have e:=EF hx hy2 i2 (by simpa using a1);rw[show i-1+1=i by omega]at e
    exact⟨⟨i+1,by omega,e⟩,GS.to (by simp),by simp;omega⟩
 have e2:nO (fun x y=>decide (y.r≤x.r)) l=false:=Jm i2 (by omega);have hiz :¬(i:Int)<l.length:=by omega
 simp -dsimp[hiz];have hget:∀b∈l,l[0]? = some (l.headD tb0):=fun b h=>by
  have hi:=List.length_pos_of_mem h;obtain⟨c,m,e⟩:=List.exists_cons_of_length_pos hi;rw[e];rfl
 have hck:nR l=bif (l.any fun b=>decide (b.sd≠(l.headD tb0).sd)||decide (b.len≠(l.headD tb0).len))then 8 else 0:=by
  simp only[nR,jc,cond_true,cond_false,decide_eq_false c1,e1,e2]
 have hB:=Uy l (by omega) 174 [D.sl (oq l)] (fun b=>decide (b.sd≠(l.headD tb0).sd)||decide (b.len≠(l.headD tb0).len)) (fun b hb=>akb l _ (hget b hb) b) (by simp);rw[hck];generalize (l.any fun b=>decide (b.sd≠(l.headD tb0).sd)||decide (b.len≠(l.headD tb0).len))=B at hB⊢;have hT:l.map Tb.cs=oq l:=rfl;rw[hT]at hB
 refine ah.of hB [.o 1] 0 ?_;cases B
 ·simp -dsimp;refine Fin.of ?_;simp
 ·simp -dsimp;refine Fin.of ?_;simp
theorem XZ(l:List Tb)(hl:DL l):Contract Tryz.prog 98 [.d (.sl (oq l))] [] (.d (.int .i64 (nR l))) [] []:=acK l hl.big
theorem aeD(l:List Tb)(hl:DL l)(r:Int):Contract Tryz.prog 100 [.d (.sl (oq l)),.d (.int .i64 r)] [] (su (bH l r)) [] []:=by
 have hn:=hl.n;refine aj Tryz.func100 rfl (fun E0=>?_);refine cO.sound (g:=.mk) (ow:=[]) (kp:=(fun k=>k==0||k==1||k==4||k==5||k==7||k==8||k==10||k==11||k==12||k==13||k==14||k==20||k==24||k==25||k==26||k==27)) ?_;rw[Tryz.ntmps100];simp -dsimp
 refine aN.of [] (fun k=>k==0||k==1||k==4||k==5||k==7||k==8||k==10||k==11||k==12||k==13||k==14||k==20||k==24||k==25||k==26||k==27) (ι:={i:Nat // i≤l.length∧bH l r=bH (l.drop i) r}) (fun z=>[(Pl.s 0,It.v (.d (.sl (oq l)))),(Pl.s 1,It.v (.d (.int .i64 r))),(Pl.o 4,It.box [TV.d (.int .i64 0),TV.d (.int .i64 0),TV.d (.int .i64 0),TV.c (Value.slice none 0 0)]),(Pl.s 4,It.v (.ptr (Pl.o 4) 0)),(Pl.s 5,It.v (.d (.bool false))),(Pl.s 11,It.v (.d (.sl (oq l)))),(Pl.s 12,It.v (.d (.int .i64 l.length))),(Pl.s 13,It.v (.d (.int .i64 z.1)))]) (fun z=>l.length-z.1) ⟨0,by omega,rfl⟩ ?_ ?_
 ·exact GS.to (by simp)
 rintro⟨i,i1,i2⟩;by_cases hi:i<l.length
 ·have hiz:(i:Int)<l.length:=by omega
  have hx:l[i]? = some l[i]:=List.getElem?_eq_getElem hi;have hm:=hl.t l[i] (List.getElem_mem hi);generalize l[i]=b at hx hm;have hx':=wX hx;by_cases hr:b.r=r
  ·have e:bH l r=some b:=Rq hx i2 (by simpa using hr);have hrl:=hm.rows;simp -dsimp[hiz,hx',eq_true hr];and_intros;all_goals try first|rfl|omega|exact⟨by kernel_rfl⟩
   as_aux_lemma=>
   refine aN.of [] (fun k=>k==0||k==1||k==4||k==5||k==7||k==8||k==10||k==11||k==12||k==13||k==14||k==20||k==24||k==25||k==26||k==27) (ι:={k:Nat // k≤b.rows.length}) (fun z=>[(Pl.o 4,It.box [TV.d (.int .i64 0),TV.d (.int .i64 0),TV.d (.int .i64 0),TV.c (Value.slice none 0 0)]),(Pl.s 4,It.v (.ptr (Pl.o 4) 0)),(Pl.s 5,It.v (.d (.bool false))),(Pl.o 8,It.box [TV.d (.int .i64 b.r),TV.d (.int .i64 b.sd),TV.d (.int .i64 b.len),TV.aB 1000 z.1]),(Pl.s 8,It.v (.ptr (Pl.o 8) 0)),(Pl.o 1000,.row 167 2 (dd (rws (b.rows.take z.1))) false),(Pl.s 24,It.v (.d (.sl (rws b.rows)))),(Pl.s 25,It.v (.d (.int .i64 b.rows.length))),(Pl.s 26,It.v (.d (.int .i64 z.1)))]) (fun z=>b.rows.length-z.1) ⟨0,by omega⟩ ?_ ?_
   ·exact GS.gq (.o 8) 3 1000 (cs:=[TV.d (.int .i64 b.r),TV.d (.int .i64 b.sd),TV.d (.int .i64 b.len),TV.c (Value.slice none 0 0)]) 167 2 (by simp) (by simp) (by simp) (by simp) (by simp[rws])
   rintro⟨k,k1⟩;by_cases hk:k<b.rows.length
   ·have hkz:(k:Int)<b.rows.length:=by omega
    have hy:b.rows[k]? = some b.rows[k]:=List.getElem?_eq_getElem hk;have ht:b.rows.take (k+1)=b.rows.take k++[b.rows[k]]:=by rw[List.take_add_one,List.getElem?_eq_getElem hk];rfl
    have hnx:=hm.nx b.rows[k] (List.getElem_mem hk);generalize b.rows[k]=y at hy ht hnx;have hy':=Nz hy;simp -dsimp[hkz,hy'];and_intros;all_goals try first|rfl|omega|exact⟨by kernel_rfl⟩
    refine ah.of (Wx y.nx (by omega)) [] 0 ?_;simp -dsimp[hkz,hy',ints,wrap_i64 (n:=(k:Int)+1) (by omega) (by omega)];and_intros;all_goals try first|rfl|omega|exact⟨by kernel_rfl⟩
    exact⟨⟨k+1,by omega⟩,GS.to (by simp[ht,JF,ints]),by simp;omega⟩
   ·have hkz :¬(k:Int)<b.rows.length:=by omega
    obtain rfl:k=b.rows.length:=by omega
    simp -dsimp[hkz];refine Fin.box (.o 4) rfl ?_;simp -dsimp;refine Fin.of ?_;simp[su,e,bZ,jf]
  ·have e:bH l r=bH (l.drop (i+1)) r:=Ot hx i2 (by simpa using hr);simp -dsimp[hiz,hx',eq_false hr,wrap_i64 (n:=(i:Int)+1) (by omega) (by omega)];and_intros;all_goals try first|rfl|omega|exact⟨by kernel_rfl⟩
   exact⟨⟨i+1,by omega,e⟩,GS.to (by simp[]),by simp;omega⟩
 ·have e:bH l r=none:=Ro i2 hi;have hiz :¬(i:Int)<l.length:=by omega
  simp -dsimp[hiz];refine Fin.box (.o 4) rfl ?_;simp -dsimp;refine Fin.of ?_;simp[su,e,bZ,jf,tb0,rws]
theorem uN{b:Tb}(h:chk b=0):b.head∧b.rows.length≤256∧(∀x∈b.rows,x.nx.length≤24)∧∀x∈b.rows,¬(1<x.nx.length∧b.r∈x.nx):=by
 unfold chk at h;split at h
 ·simp at h
 rename_i h1;split at h
 ·simp at h
 split at h
 ·simp at h
 rename_i h2;split at h
 ·simp at h
 rename_i h3;split at h
 ·simp at h
 split at h
 ·simp at h
 rename_i h4;exact⟨Classical.byContradiction fun g=>h1 g,by omega,fun x hx=>Nat.le_of_not_lt fun g=>h3 ⟨x,hx,g⟩,fun x hx g=>h4 ⟨x,hx,g⟩⟩
theorem Bc{b:Tb}(h:chk b=0):b.Sm:=⟨by have:=(uN h).2.1;omega,fun x hx=>by have:=(uN h).2.2.1 x hx;omega⟩
theorem Vr(cost tree:Int)(skip:Bool)(b:Int):∀(n:Nat) (a:Int) (T:Tp) (l:List Lk),(dV cost tree skip b n a T l).1.length≤l.length+n
 | 0,_,_,_=>Nat.le_refl _
 | n+1,a,T,l=>by
   have h1:=Vr cost tree skip b n (a+1) (dI cost tree skip b a T l).2 (dI cost tree skip b a T l).1;have h2:=zN cost tree skip b a T l;rw[dV];omega
theorem Vs(cost:Int):∀(n:Nat) (b:Int) (T:Tp) (l:List Lk),0≤b→(dS cost n b T l).1.length≤l.length+n*(b+n).toNat
 | 0,_,_,_,_=>by simp[dS]
 | n+1,b,T,l,hb=>by
   have h1:=Vs cost n (b+1) (gW cost b T l).2 (gW cost b T l).1 (by omega);have h2:(gW cost b T l).1.length≤l.length+(b-1).toNat:=Vr _ _ _ _ _ _ _ _;rw[dS];have e:(b+1+n).toNat=(b+(n+1:Nat)).toNat:=by omega
   rw[e]at h1
   have h3:(n+1)*(b+(n+1:Nat)).toNat=n*(b+(n+1:Nat)).toNat+(b+(n+1:Nat)).toNat:=Nat.succ_mul _ _;omega
theorem Tm:∀(l out:List Lk),(jO l out).length=l.length+out.length
 | [],_=>by simp[jO]
 | x::l,out=>by
   rw[jO,Tm l];simp;omega
theorem vV(T:Tp){most:Int}(hm:1≤most∧most≤24):(dG T most).1.rs.length≤24∧(dG T most).1.ls.length≤1000:=by
 have b1:=aS T 1 most;have b2:=aQ T (a:=1) (b:=most) (by omega);simp only[dG,Tm];generalize aT T 1 most=R at b1 b2⊢;have h:=Vs (aK R.2 [1,2,2,5]).1 (R.1+1-2).toNat 2 (aK R.2 [1,2,2,5]).2 [] (by omega);have h1:(R.1+1-2).toNat≤23:=by omega
 have h2:(2+((R.1+1-2).toNat:Int)).toNat≤25:=by omega
 have h3:=Nat.mul_le_mul h1 h2;simp only[List.length_nil]at h⊢;exact⟨by simp[cu];omega,by omega⟩
theorem RI:∀(l:List Rt) (T:Tp),ak (iy l T).2=ak T
 | [],_=>rfl
 | x::l,T=>by simp[iy,RI l]
@[simp]theorem ajT(T:Tp)(most:Int):ak (bW T most).2=ak T:=by simp[bW,RI]
theorem fO(T:Tp){most:Int}(hm:1≤most∧most≤24):(bW T most).1.rs.length≤24∧(bW T most).1.ls.length≤1000:=by
 have:=vV T hm;simpa[bW,fQ]using this
def xq(l:List Rw)(k:Nat)(y:Rw)(id:Nat):List (List TV):=dd (rws (l.take k))++[TV.d (.int .i64 y.id),TV.aB id y.nx.length]::dd (rws (l.drop (k+1)))
@[simp]theorem ak1(po:Nat→Prop)(l:List Rw)(k:Nat)(y:Rw)(id:Nat):rD po (xq l k y id)=po id:=by simp[xq,TV.xE,TV.only]
@[simp]theorem aic(ν:List Pl)(rs:List (Nat×Nat))(T:Tp):KR ν rs (aJ T)=some (aJ T):=by simp[aJ,ints,TI]
@[simp]theorem ajQ(ν:List Pl)(c:Nat)(l:List Rw)(k:Nat)(y:Rw)(id:Nat):(xq l k y id).map (TV.backs ν c)=xq l k y (c+id):=by simp[xq]
theorem eY{l:List Tb}{r:Int}{b:Tb}(h:bH l r=some b):b∈l∧b.r=r:=⟨List.mem_of_find?_eq_some h,by simpa using List.find?_some h⟩
theorem ajc{l:List Tb}{pr:List Int}(h:pr.Nodup)(hf:∀x∈pr,(bH l x).isSome):pr.length≤l.length:=by
 have:=S9 (m:=l.map (·.r)) h fun x hx=>by
  obtain⟨b,hb⟩:=Option.isSome_iff_exists.1 (hf x hx);obtain⟨h1,h2⟩:=eY hb;exact List.mem_map.2 ⟨b,h1,h2⟩
 simpa using this
def o7(T:Tp)(rs:List Rt)(n:Int):Int×Tp:=
 let o:=dD T n
 if o.1=true then aK o.2 [0,1,2,7,77,-1]else((rs.getD (au o.2 rs.length).1.toNat ⟨0,false⟩).id,(au o.2 rs.length).2)
theorem AQ(T:Tp)(hT:ak T)(rs:List Rt)(ls:List Lk)(hr:1≤rs.length∧rs.length≤1000)(n:Int)(hn:1≤n∧n≤1000):Contract Tryz.prog 19 [.ptr (.x 0) 0,.agg [.d (.sl (rts rs)),.d (.sl (dO ls))],.d (.int .i64 n)] [aJ T] (.d (.int .i64 (o7 T rs n).1)) [aJ (o7 T rs n).2] []:=by
 have hn0:0<n:=by omega
 have hr0 :¬rs.length=0:=by omega
 have hrn :¬rs = []:=fun h=>by simp[h]at hr0
 refine aj Tryz.func19 rfl (fun E0=>?_);refine cO.sound (g:=.mk) (ow:=[]) (kp:=(fun k=>k==0||k==1||k==2||k==4||k==6||k==19)) ?_;rw[Tryz.ntmps19];simp -dsimp[hn0];refine ah.of (gK T hT n ⟨by omega,by omega⟩ ⟨by omega,by omega⟩) [.x 0] 0 ?_;have kO:ak (dD T n).2:=by simpa using hT
 unfold o7;generalize dD T n=o at kO⊢;rcases (Bool.eq_false_or_eq_true o.1).symm with ho|ho
 ·simp only[ho];simp -dsimp[hn0,ho,hrn];refine ah.of (bn o.2 kO rs.length ⟨by omega,by omega⟩) [.x 0] 0 ?_;have m1:=aC o.2 rs.length;have m2:=bg o.2 (n:=rs.length) (by omega);generalize au o.2 rs.length=q at m1 m2⊢;obtain⟨k,hk⟩:∃k:Nat,q.1=k:=⟨q.1.toNat,by omega⟩
  have hkl:k<rs.length:=by omega
  have hx:rs[k]? = some rs[k]:=List.getElem?_eq_getElem hkl;generalize rs[k]=x at hx;have hx':=fF hx;rw[hk];simp -dsimp[hx',Rt.cs];and_intros;all_goals try first|rfl|omega|exact⟨by kernel_rfl⟩
  refine Fin.of ?_;simp[hx,ho]
 ·simp only[ho];simp -dsimp[hn0,ho,hrn];refine ah.of (fE o.2 kO [0,1,2,7,77,-1] (by simp) (by simp)) [.x 0] 0 ?_;simp -dsimp[ints];refine Fin.of ?_;simp[ho]
def tz(B:BitVec 64):Nat:=((List.range 64).find? fun i=>B.getLsbD i).getD 64
theorem xP{B:BitVec 64}(h:B≠0#64):tz B<64∧B.getLsbD (tz B)=true∧∀i<tz B,B.getLsbD i=false:=by
 unfold tz;cases hf:(List.range 64).find? fun i=>B.getLsbD i with
 | none=>
   exfalso;apply h;apply BitVec.eq_of_getLsbD_eq;intro i hi;have:=List.find?_eq_none.1 hf i (by simpa using hi);simpa using this
 | some k=>
   have h1:=List.find?_some hf;have h2:=List.mem_of_find?_eq_some hf;refine⟨by simpa using h2,h1,fun i hi=>?_⟩;obtain⟨_,ps,qs,e,ha⟩:=List.find?_eq_some_iff_append.1 hf;have hi':i∈ps:=by
    have hk:ps.length=k:=by
     have h3:(List.range 64)[ps.length]? = some k:=by rw[e];simp
     have h4:ps.length<64:=by
      have:=congrArg List.length e;simp at this;omega
     rw[List.getElem?_range h4]at h3
     exact Option.some.inj h3
    have h5:(List.range 64)[i]? = some i:=List.getElem?_range (by simp at h2 hi;omega);rw[e,List.getElem?_append_left (by simp at hi;omega)]at h5
    exact List.mem_of_getElem? h5
   simpa using ha i hi'
theorem ahk{B:BitVec 64}(h:B≠0#64):B &&& -B=1#64<<<tz B:=by
 obtain⟨h1,h2,h3⟩:=xP h;apply BitVec.eq_of_getLsbD_eq;intro i hi;rw[BitVec.getLsbD_and,BitVec.getLsbD_neg];simp only[BitVec.getLsbD_shiftLeft,BitVec.getLsbD_one];rcases Nat.lt_trichotomy i (tz B)with g|g|g
 ·simp[h3 i g,g]
 ·have :¬∃j<i,B.getLsbD j=true:=fun⟨j,hj,e⟩=>by rw[h3 j (by omega)]at e;cases e
  subst g;rw[h2];simp[this,h1]
 ·have:∃j<i,B.getLsbD j=true:=⟨_,g,h2⟩
  have e :¬i<tz B:=by omega
  have e' :¬i-tz B=0:=by omega
  simp[this,e,e',hi]
theorem aiB:∀k:Nat,k<64→deb[(((1#64<<<k)*0x03f79d71b4ca8b09#64)>>>58).toNat]? = some (k:Int):=by decide
theorem ajJ(X:BitVec 64)(c:Int):wu (tn X*c)=X*wu c:=by
 rw[wu,BitVec.ofInt_mul];exact congrArg (· * wu c) (Hl X)
theorem ajK(X:BitVec 64):wu (tn (wu (-tn X))) = -X:=by
 rw[Hl,wu,BitVec.ofInt_neg];exact congrArg (- ·) (Hl X)
theorem aiA{B:BitVec 64}(h:B≠0#64):∃v:Nat,Zh IntKind.u64 (IntKind.u64.wrap (tn (B&&&wu (IntKind.u64.wrap (-tn B)))*285870213051353865)) 58=v∧v<64∧deb[v]? = some (tz B:Int):=by
 refine⟨(((1#64<<<tz B)*0x03f79d71b4ca8b09#64)>>>58).toNat,?_,?_,aiB _ (xP h).1⟩
 ·rw[xQ,xQ,ajK,ahk h,ajJ,acr];rfl
 ·rw[BitVec.toNat_ushiftRight,Nat.shiftRight_eq_div_pow];have:=((1#64<<<tz B)*0x03f79d71b4ca8b09#64).isLt;omega
theorem ajH(B:BitVec 64):Contract Tryz.prog 237 [.d (bv B)] [] (.d (.int .i64 (tz B))) [] []:=by
 refine aj Tryz.func237 rfl (fun E0=>?_);refine cO.sound (g:=.mk) (ow:=[]) (kp:=(fun k=>k==0||k==2||k==4)) ?_;rw[Tryz.ntmps237];by_cases h:B=0#64
 ·subst h;simp -dsimp[bv];refine Fin.of ?_;simp;decide
 ·obtain⟨v,e,hv,hd⟩:=aiA h;have ht:=(xP h).1;simp -dsimp[bv,h,e,hd];refine⟨by omega,?_⟩;simp -dsimp[bv,h,e,hd,wrap_i64 (n:=(tz B:Int)) (by omega) (by omega)];refine Fin.of ?_;simp
def jF(B:BitVec 64):Int:=if B=0#64 then -1 else(tz B:Int)
theorem abC(B:BitVec 64):Contract Tryz.prog 182 [.d (bv B)] [] (.d (.int .i64 (jF B))) [] []:=by
 refine aj Tryz.func182 rfl (fun E0=>?_);refine cO.sound (g:=.mk) (ow:=[]) (kp:=(fun k=>k==0||k==2||k==4)) ?_;rw[Tryz.ntmps182];by_cases h:B=0#64
 ·subst h;simp -dsimp[bv];refine Fin.of ?_;simp[jF]
 ·simp -dsimp[bv,h];refine ah.of (ajH B) [] 0 ?_;simp -dsimp;refine⟨rfl,Fin.of ?_⟩;simp[jF,h]
def ku(B:BitVec 64):List Nat:=(List.range 64).filter fun i=>B.getLsbD i
theorem Oc(B:BitVec 64)(i:Nat)(hi:i<64):(B&&&wu (tn B-1)).getLsbD i=(B.getLsbD i&&decide (∃j<i,B.getLsbD j=true)):=by
 have e:wu (tn B-1) = ~~~(-B):=by
  rw[BitVec.not_neg,wu,Int.sub_eq_add_neg,BitVec.ofInt_add];rw[show BitVec.ofInt 64 (tn B)=B from Hl B,show BitVec.ofInt 64 (-1) = -1#64 by decide,BitVec.sub_eq_add_neg]
 rw[e,BitVec.getLsbD_and,BitVec.getLsbD_not,BitVec.getLsbD_neg];cases h:B.getLsbD i
 ·simp
 ·simp[hi]
theorem QN{B:BitVec 64}(h:B≠0#64):ku B=tz B::ku (B&&&wu (tn B-1)):=by
 obtain⟨h1,h2,h3⟩:=xP h;have e:List.range 64=List.range (tz B)++(tz B::(List.range' (tz B+1) (63-tz B))):=by
  rw[←List.range'_succ,List.range_eq_range',List.range_eq_range',show 64=tz B+(63-tz B+1) by omega,←List.range'_append_1];simp
 have f1:∀(C:BitVec 64),(∀i<tz B,C.getLsbD i=false)→(List.range (tz B)).filter (fun i=>C.getLsbD i) = []:=fun C hC=>by
  rw[List.filter_eq_nil_iff];intro i hi;simp[hC i (by simpa using hi)]
 have c0:∀i<tz B,(B&&&wu (tn B-1)).getLsbD i=false:=fun i hi=>by rw[Oc B i (by omega),h3 i hi];rfl
 have c1:(B&&&wu (tn B-1)).getLsbD (tz B)=false:=by
  rw[Oc B _ h1,h2];have :¬∃j<tz B,B.getLsbD j=true:=fun⟨j,hj,e⟩=>by rw[h3 j hj]at e;cases e
  simp[this]
 unfold ku;rw[e,List.filter_append,List.filter_append,f1 B h3,f1 _ c0,List.filter_cons,List.filter_cons,h2,c1];simp only[List.nil_append,if_true,Bool.false_eq_true,if_false,List.cons.injEq,true_and];apply List.filter_congr;intro i hi;have hi':=List.mem_range'_1.1 hi;rw[Oc B i (by omega)];have:∃j<i,B.getLsbD j=true:=⟨tz B,by omega,h2⟩
 simp[this]
theorem QO:ku 0#64 = []:=by simp[ku]
theorem xY(B:BitVec 64):(ku B).length≤64:=by
 have:=List.length_filter_le (fun i=>B.getLsbD i) (List.range 64);simpa[ku]using this
def lg(B:BitVec 64):List Int:=(ku B).map Int.ofNat
theorem iT(B:BitVec 64):(lg B).length≤64:=by simpa[lg]using xY B
theorem Cm{B:BitVec 64}(h:B≠0#64):lg B=(tz B:Int)::lg (B&&&wu (tn B-1)):=by simp[lg,QN h]
theorem vK:lg 0#64 = []:=by simp[lg,QO]
theorem ai0(B:BitVec 64):Contract Tryz.prog 240 [.d (bv B)] [] (.d (ints (lg B))) [] []:=by
 have hB:=iT B;refine aj Tryz.func240 rfl (fun E0=>?_);refine cO.sound (g:=.mk) (ow:=[]) (kp:=(fun k=>k==0||k==2||k==3||k==5)) ?_;rw[Tryz.ntmps240];simp -dsimp[bv]
 refine aN.of [3] (fun k=>k==0||k==2||k==3||k==5) (ι:={z:BitVec 64×List Int // lg B=z.2++lg z.1}) (fun z=>[(Pl.s 0,It.v (.d (.int IntKind.u64 (tn z.1.1)))),(Pl.s 2,It.v (.c (Value.slice none 0 0))),(Pl.s 3,It.v (.aB 3 z.1.2.length)),(Pl.o 3,.row 3 1 (dd (dJ .i64 z.1.2)) false)]) (fun z=>(lg z.1.1).length) ⟨(B,[]),by simp⟩ ?_ ?_
 ·exact GS.own' (k:=3) 3 1 (by simp) (by simp) (by simp[dJ])
 ·rintro⟨⟨R,l⟩,h⟩;simp only at h;have hl:=congrArg List.length h;simp only[List.length_append]at hl;simp -dsimp;by_cases h0:R=0#64
  ·subst h0;simp -dsimp;refine Fin.view 2 ?_;simp -dsimp;refine Fin.of ?_;simp[h,vK,ints,dJ]
  ·have hs:=Cm h0;have hf:=abC R;simp only[bv]at hf;have ht:=(xP h0).1;rw[hs]at hl
   simp only[List.length_cons]at hl;simp -dsimp[h0];refine ah.of hf [] 0 ?_;have e:jF R=(tz R:Int):=by simp[jF,h0]
   rw[e];simp -dsimp[h0];and_intros;all_goals try first|rfl|omega|exact⟨by kernel_rfl⟩
   refine⟨⟨(R&&&wu (tn R-1),l++[(tz R:Int)]),by simp[h,hs]⟩,GS.to (by simp[dJ,xQ]),by simp[hs]⟩
end Go.Proofs
