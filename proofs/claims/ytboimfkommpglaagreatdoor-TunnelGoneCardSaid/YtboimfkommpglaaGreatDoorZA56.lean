/-
  What functions of the program compute, stated as contracts over plain data; the conditions of each stand in its own statement.
-/
import Derived.Test.YtboimfkommpglaaGreatDoorZA11
import Derived.Test.YtboimfkommpglaaGreatDoorZA06
import Derived.Test.YtboimfkommpglaaGreatDoorZA10
import Derived.KernelRfl
import Derived.Test.YtboimfkommpglaaGreatDoorChecked
import Derived.Test.YtboimfkommpglaaGreatDoorZA12
import Derived.Test.YtboimfkommpglaaGreatDoorZA13
import Derived.Test.YtboimfkommpglaaGreatDoorZA14
import Derived.Test.YtboimfkommpglaaGreatDoorZA17
import Derived.Test.YtboimfkommpglaaGreatDoorZA19
namespace Go.Proofs
open Go Go.Tr
@[simp]theorem aie:uJ Tryz.prog 59=some false:=by kernel_rfl
@[simp]theorem ail:lQ Tryz.prog 59=some 1:=by kernel_rfl
@[simp]theorem aii:uY Tryz.prog 59=some 157:=by kernel_rfl
@[simp]theorem aif:uJ Tryz.prog 61=some true:=by kernel_rfl
@[simp]theorem ain:lQ Tryz.prog 61=some 2:=by kernel_rfl
@[simp]theorem abD:qL Tryz.prog 61 0=some (0,59):=by kernel_rfl
@[simp]theorem abH:qL Tryz.prog 61 1=some (1,22):=by kernel_rfl
@[simp]theorem aik:Jd Tryz.prog 61=some [(0,1),(1,1)]:=by kernel_rfl
@[simp]theorem aio:tC Tryz.prog 61=some (Value.agg #[.slice none 0 0,.slice none 0 0]):=by kernel_rfl
@[simp]theorem abG:qL Tryz.prog 96 0=some (0,3):=by kernel_rfl
@[simp]theorem abI:qL Tryz.prog 96 1=some (1,3):=by kernel_rfl
@[simp]theorem af_:lQ Tryz.prog 157=some 2:=by kernel_rfl
@[simp]theorem Ym:qL Tryz.prog 157 0=some (0,3):=by kernel_rfl
@[simp]theorem Yn:qL Tryz.prog 157 1=some (1,3):=by kernel_rfl
@[simp]theorem af6:Jd Tryz.prog 157=some [(0,1),(1,1)]:=by kernel_rfl
@[simp]theorem aec:Hy Tryz.prog 157=some 16:=by kernel_rfl
@[simp]theorem agx:tC Tryz.prog 157=some (Value.agg #[.int .i64 0,.int .i64 0]):=by kernel_rfl
@[simp]theorem WU:aZ Tryz.prog 28=true:=by kernel_rfl
@[simp]theorem Rx:aZ Tryz.prog 29=true:=by kernel_rfl
@[simp]theorem aeL:aZ Tryz.prog 31=true:=by kernel_rfl
@[simp]theorem aeM:aZ Tryz.prog 32=true:=by kernel_rfl
@[simp]theorem aiH:aZ Tryz.prog 39=true:=by kernel_rfl
@[simp]theorem aiJ:aZ Tryz.prog 46=true:=by kernel_rfl
@[simp]theorem aeN:aZ Tryz.prog 94=true:=by kernel_rfl
@[simp]theorem aeO:aZ Tryz.prog 95=true:=by kernel_rfl
end Go.Proofs

set_option linter.unusedSimpArgs false
set_option linter.unusedVariables false
namespace Go.Tr
open Go
section
variable {A:eX}
theorem GS.sV{t:S}{nH e0 k0:Nat}{es0:List (List TV)}{Ez:Bool}{i j:Nat}{r:List TV}{id n e k:Nat}{es:List (List TV)}{sh:Bool}{xs:List (List D)}(h0:t (.o nH) = .row e0 k0 es0 Ez)(hne:nH≠id)
  (hr:es0[i]? = some r) (hj:r[j]? = some (.aB id n)) (ht:t (.o id) = .row e k es sh) (hn:n=es.length) (hx:eu es=some xs) :
  GS A t (upd (upd t (.o id) (.row e k es true)) (.o nH) (.row e0 k0 (es0.set i (r.set j (.d (.sl xs)))) Ez)):=fun a w ⟨E,hw,hi⟩=>by
 subst hn;obtain⟨E',hw',x,hb,hv,hi',hr',_⟩:=hi.freeze ht hx;have hil:i<es0.length:=(List.getElem?_eq_some_iff.1 hr).1;refine⟨E',hw'.trans hw,hi'.KZ (es:=es0) (by simp only[upd,Pl.o.injEq,if_neg hne];exact h0) (by simp) fun us hrel=>dK.fZ fun i' el hel=>?_⟩;rw[kH hil]at hel
 by_cases ei:i'=i
 ·subst ei;rw[if_pos rfl]at hel
  simp only[Option.some.injEq]at hel;subst hel;obtain⟨g1,g2⟩:=hrel.get hr;have hjl:j<r.length:=(List.getElem?_eq_some_iff.1 hj).1;refine⟨by simpa using g1,bG.fZ fun m tv hm=>?_⟩;rw[kH hjl]at hm
  by_cases em:m=j
  ·subst em;rw[if_pos rfl]at hm
   simp only[Option.some.injEq]at hm;subst hm;obtain⟨u,k1,k2,k3⟩:=g2.get hj;refine⟨u,k1,k2,?_⟩;simp only[aA]at k3⊢;refine hr' u ?_;simp only[aA];rw[hv]at k3
   exact k3
  ·rw[if_neg em]at hm
   exact g2.get hm
 ·rw[if_neg ei]at hel
  exact hrel.get hel
theorem Fin.sV{P:Program}{A:eX}{fn:Func}{rv:TV}{xo:List It}{ro:List (Nat×It)}{l:List (Pl×It)}(nH i j id:Nat){e0 k0:Nat}{es0:List (List TV)}{Ez:Bool}{r:List TV}{n e k:Nat}{es:List (List TV)}{sh:Bool}{xs:List (List D)}(h0:look l (.o nH) = .row e0 k0 es0 Ez)(hne:nH≠id)
  (hr:es0[i]? = some r) (hj:r[j]? = some (.aB id n)) (ht:look l (.o id) = .row e k es sh) (hn:n=es.length) (hx:eu es=some xs)
  (h:Fin P A fn rv xo ro (look (iI (.o nH) (.row e0 k0 (es0.set i (r.set j (.d (.sl xs)))) Ez) (iI (.o id) (.row e k es true) l)))):Fin P A fn rv xo ro (look l):=by
 have:=GS.sV (A:=A) h0 hne hr hj ht hn hx;rw[eU,eU]at this
 exact h.ghost this
theorem iO{a b:Nat}(hab:a≠b):∀{l:List (Pl×It)},b∉jy l→vJ a b (look l)=look (uV a b l)
 | [],_=>by funext p;cases p<;>simp[vJ,look,uV,AO]
 | (q,i)::l,h=>by
   have hl:b∉jy l:=by cases q<;>simp_all [jy]
   have ih:=fun p=>congrFun (iO hab hl) p
   have hq:q≠.o b:=fun e=>by subst e;simp[jy]at h
   funext p
   have hp:=ih p;simp only[uV]at hp;simp only[uV,List.map_cons,look];cases p with
   | s k=>
     simp only[vJ,look]at hp⊢;cases q with
     | s j=>
       simp only[lX,Pl.s.injEq];by_cases e:k=j
       ·subst e;simp
       ·simp only[if_neg e];exact hp
     | x j=>simp only[lX,reduceCtorEq,if_false];exact hp
     | o j=>simp only[lX,reduceCtorEq,if_false];exact hp
   | x k=>
     simp only[vJ,look]at hp⊢;cases q with
     | x j=>
       simp only[lX,Pl.x.injEq];by_cases e:k=j
       ·subst e;simp
       ·simp only[if_neg e];exact hp
     | s j=>simp only[lX,reduceCtorEq,if_false];exact hp
     | o j=>simp only[lX,reduceCtorEq,if_false];exact hp
   | o k=>
     simp only[vJ,look]at hp⊢;cases q with
     | s j=>simp only[lX,reduceCtorEq,if_false];exact hp
     | x j=>simp only[lX,reduceCtorEq,if_false];exact hp
     | o j=>
       have hj:j≠b:=fun e=>hq (by rw[e])
       simp only[lX,Pl.o.injEq,DT];by_cases e1:k=b
       ·subst e1;simp only[if_true]at hp⊢;by_cases e2:j=a
        ·subst e2;simp
        ·simp only[if_neg e2,if_neg (fun h:a=j=>e2 h.symm),if_neg (fun h:k=j=>hj h.symm)];exact hp
       ·simp only[if_neg e1]at hp⊢;by_cases e2:k=a
        ·subst e2;simp only[if_true]at hp⊢;by_cases e3:j=k
         ·subst e3;simp only[if_true,if_neg e1];exact hp
         ·simp only[if_neg e3,if_neg (fun h:k=j=>e3 h.symm)];exact hp
        ·simp only[if_neg e2]at hp⊢;by_cases e3:j=a
         ·subst e3;simp only[if_true,if_neg e1,if_neg e2];exact hp
         ·simp only[if_neg e3];by_cases e4:k=j
          ·subst e4;simp
          ·simp only[if_neg e4];exact hp
theorem GS.ren'{l l':List (Pl×It)}(a b:Nat)(hab:a≠b)(hb:b∉jy l)(h:Sub (look (uV a b l)) l'∧jP l'=jP (uV a b l)):GS A (look l) (look l'):=by
 have:=GS.ren (A:=A) (t:=look l) hab (zU hb);rw[iO hab hb]at this
 exact this.trans (GS.forget h.1 h.2)
end
section
variable (a b:Nat) (cs:List TV) (e k:Nat) (es:List (List TV)) (sh:Bool) (t:TV) (m:List (Int×D))
end
end Go.Tr

namespace Go.Tr
open Go
section
variable {A:eX}
theorem GS.aaU{l l':List (Pl×It)}(id:Nat){e k:Nat}{es:List (List TV)}{sh:Bool}{xs:List (List D)}(ht:look l (.o id) = .row e k es sh)(hx:eu es=some xs)
  (h:Sub (look (iI (.o id) (.row e k (dd xs) sh) l)) l'∧jP l'=jP (iI (.o id) (.row e k (dd xs) sh) l)):GS A (look l) (look l'):=by
 have:=GS.plain (A:=A) ht hx;rw[eU]at this
 exact this.trans (GS.forget h.1 h.2)
end
theorem O8{es:List (List TV)}{xs:List (List D)}{k:Nat}{r:List TV}{x:List D}(h:eu es=some xs)(hr:G7 r=some x):eu (es.set k r)=some (xs.set k x):=by
 induction es generalizing xs k with
 | nil=>simp[eu]at h;subst h;rfl
 | cons e es ih=>
   simp only[eu]at h;split at h
   ·rename_i x' xs' h1 h2;simp only[Option.some.injEq]at h;subst h;cases k with
    | zero=>simp only[List.set_cons_zero,eu,hr,h2]
    | succ k=>simp only[List.set_cons_succ,eu,h1,ih h2]
   ·simp at h
end Go.Tr

set_option maxRecDepth 100000
namespace Go.Proofs
open Go Go.Tr
theorem nV(x:Lk):∀l:List Lk,bU x l≤l.length
 | []=>Nat.le_refl _
 | y::r=>by
   have:=nV x r;simp only[bU,List.length_cons];split<;>omega
set_option maxHeartbeats 2000000
theorem wF{l:List Rt}{i:Nat}{x:Rt}(h:l[i]? = some x)(hi:i<(rts l).length):(rts l)[i]=x.cs:=by
 have:=fF h;rw[List.getElem?_eq_getElem hi]at this
 simpa using this
def aV(rs:List Rt)(len:Int)(x:Int)(T:Tp)(id:Int)(l:List Ed):List Ed×Int×Tp:=
 let c:=au T 4
 if c.1=0 then(l,id,c.2)else
  let p:=aK c.2 [1,1,1,2,len-1]
  (if id+p.1≤256 then l++[⟨(rs.getD x.toNat ⟨0,false⟩).id,id+p.1⟩]else l,id+p.1,p.2)
def aX(rs:List Rt)(len:Int):List Int→Tp→Int→List Ed→List Ed×Int×Tp
 | [],T,id,l=>(l,id,T)
 | x::o,T,id,l=>aX rs len o (aV rs len x T id l).2.2 (aV rs len x T id l).2.1 (aV rs len x T id l).1
def bJ(T:Tp)(rs:List Rt):Pn×Int×Tp:=
 let s:=au T 3
 let L:=aK s.2 [8,8,16,32,64]
 let o:=bT L.2 rs.length
 let X:=aX rs L.1 o.1 o.2 0 []
 (⟨s.1,L.1,X.1⟩,X.2)
def dR(T:Tp)(p:Pn)(id:Int):Pn×Tp:=
 let s:=au T 5
 if s.1=0 then(⟨(iY s.2).1,p.len,p.es⟩,(iY s.2).2)
 else if s.1=1 then(⟨p.bF,(aK s.2 [0,8,24,64,128]).1,p.es⟩,(aK s.2 [0,8,24,64,128]).2)
 else if s.1=2 then
  let a:=aK s.2 [0,1,99,100]
  let b:=aK a.2 [0,1,256,257]
  (⟨p.bF,p.len,p.es++[⟨a.1,b.1⟩]⟩,b.2)
 else if s.1=3 then(match p.es with
  | []=>(p,s.2)
  | e::l=>(⟨p.bF,p.len,⟨e.r,(iY s.2).1⟩::l⟩,(iY s.2).2))
 else(⟨p.bF,p.len,p.es++[⟨50,id+1⟩]⟩,s.2)
def dh(T:Tp)(rs:List Rt)(n:Int):Pn×Tp:=
 let X:=bJ T rs
 if 0<n then
  if(dD X.2.2 n).1 then dR (dD X.2.2 n).2 X.1 X.2.1 else(X.1,(dD X.2.2 n).2)
 else(X.1,X.2.2)
theorem xu(T:Tp)(hT:ak T)(rs:List Rt)(ls:List Lk)(hr:rs.length≤500)(n:Int)(hn:0≤n∧n≤1000):Contract Tryz.prog 86 [.ptr (.x 0) 0,.agg [.d (.sl (rts rs)),.d (.sl (dO ls))],.d (.int .i64 n)] [aJ T] (bI (dh T rs n).1) [aJ (dh T rs n).2] []:=by
 refine aj Tryz.func86 rfl (fun E0=>?_);refine cO.sound (g:=.mk) (ow:=[]) (kp:=(fun k=>k==0||k==1||k==2||k==4||k==6||k==7||k==8||k==9||k==10||k==24||k==29||k==39||k==62||k==64||k==73||k==78||k==84||k==98||k==103)) ?_;rw[Tryz.ntmps86];simp -dsimp;refine ah.of (bn T hT 3 ⟨by omega,by omega⟩) [.x 0] 0 ?_;simp -dsimp;generalize hs:au T 3=s
 have ks:ak s.2:=by rw[←hs];simpa using hT
 refine ah.of (C9 s.2 ks) [.x 0] 0 ?_;simp -dsimp;generalize hL:aK s.2 [8,8,16,32,64]=L;have kL:ak L.2:=by rw[←hL];simpa using ks
 have bL:8≤L.1∧L.1≤64:=by rw[←hL];exact dA (p:=fun x=>8≤x∧x≤64) (by simp) (by simp)
 refine ah.of (D9 L.2 kL rs.length (by omega)) [.x 0] 0 ?_;simp -dsimp;generalize ho:bT L.2 rs.length=o;have ko:ak o.2:=by rw[←ho];simpa using kL
 have mo:=lZ L.2 rs.length;rw[ho]at mo
 have lo:=iK L.2 rs.length;rw[ho]at lo
 refine aN.of [] (fun k=>k==0||k==1||k==2||k==4||k==6||k==7||k==8||k==9||k==10||k==24||k==29||k==39||k==62||k==64||k==73||k==78||k==84||k==98||k==103) (ι:={z:Nat×Tp×Int×List Ed // z.1≤o.1.length∧ak z.2.1∧0≤z.2.2.1∧z.2.2.1≤100*z.1∧z.2.2.2.length≤z.1∧aX rs L.1 o.1 o.2 0 []=aX rs L.1 (o.1.drop z.1) z.2.1 z.2.2.1 z.2.2.2})
  (fun z=>[(Pl.s 0,It.v (.ptr (Pl.x 0) 0)),(Pl.s 1,It.v (.agg [TV.d (.sl (rts rs)),TV.d (.sl (dO ls))])),(Pl.s 2,It.v (.d (.int .i64 n))),(Pl.x 0,aJ z.1.2.1),
   (Pl.o 4,It.box [TV.d (.sl (rts rs)),TV.d (.sl (dO ls))]),(Pl.s 4,It.v (.ptr (Pl.o 4) 0)),
   (Pl.o 6,It.box [TV.d (.int .i64 0),TV.d (.int .i64 0),TV.c (Value.slice none 0 0)]),(Pl.s 6,It.v (.ptr (Pl.o 6) 0)),
   (Pl.o 7,It.box [TV.d (.int .i64 s.1),TV.d (.int .i64 L.1),TV.aB 1000 z.1.2.2.2.length]),(Pl.s 7,It.v (.ptr (Pl.o 7) 0)),(Pl.s 8,It.v (.d (.int .i64 z.1.2.2.1))),(Pl.s 9,It.v (.d (ints o.1))),
   (Pl.o 1000,.row 115 2 (dd (rJ z.1.2.2.2)) false),(Pl.s 10,It.v (.d (.int .i64 z.1.1)))]) (fun z=>o.1.length-z.1.1) ⟨(0,o.2,0,[]),by simp,ko,by simp,by simp,by simp,rfl⟩ ?_ ?_
 ·exact GS.gq (.o 7) 2 1000 (cs:=[TV.d (.int .i64 s.1),TV.d (.int .i64 L.1),TV.c (Value.slice none 0 0)]) 115 2 (by simp) (by simp) (by simp) (by simp) (by simp[rJ])
 ·rintro⟨⟨i,T',id,l⟩,i1,i2,i3,i4,i5,i6⟩;simp only at i1 i2 i3 i4 i5 i6;by_cases hi:i<o.1.length
  ·obtain⟨x,hx⟩:∃x,o.1[i]? = some x:=⟨o.1[i],List.getElem?_eq_getElem hi⟩
   have hx':o.1[i]=x:=by rw[List.getElem?_eq_getElem hi]at hx;simpa using hx
   have hd:o.1.drop i=x::o.1.drop (i+1):=by rw[←hx'];exact List.drop_eq_getElem_cons _
   have bx:=mo x (List.mem_of_getElem? hx);have hxr:x.toNat<rs.length:=by omega
   obtain⟨r,hr1⟩:∃r,rs[x.toNat]? = some r:=⟨rs[x.toNat],List.getElem?_eq_getElem hxr⟩
   have hr2:=wF hr1;have hr3:rs.getD x.toNat ⟨0,false⟩ = r:=by simp[List.getD,hr1]
   simp -dsimp[ints,hi];refine ah.of (bn T' i2 4 ⟨by omega,by omega⟩) [.x 0] 0 ?_;simp -dsimp;generalize hc:au T' 4=c;have kc:ak c.2:=by rw[←hc];simpa using i2
   refine qM.dec (fun h0=>?_) (fun h0=>?_)
   ·simp -dsimp[wrap_i64 (n:=(i:Int)+1) (by omega) (by omega)];have e:aV rs L.1 x T' id l=(l,id,c.2):=by simp[aV,hc,h0]
    exact⟨⟨(i+1,c.2,id,l),by dsimp only;omega,kc,by dsimp only;omega,by dsimp only;omega,by dsimp only;omega,by dsimp only;rw[i6,hd,aX,e]⟩,GS.to (by simp[ints]),by simp;omega⟩
   ·simp -dsimp[wrap_i64 (n:=L.1-1) (by omega) (by omega)];refine ah.of (fE c.2 kc [1,1,1,2,L.1-1] (by simp) (by simp)) [.x 0] 0 ?_;have bp:1≤(aK c.2 [1,1,1,2,L.1-1]).1∧(aK c.2 [1,1,1,2,L.1-1]).1≤63:=dA (p:=fun x=>1≤x∧x≤63) (by simp) (by simp;omega);simp -dsimp[ints];generalize hp:aK c.2 [1,1,1,2,L.1-1]=p at bp⊢;have kp:ak p.2:=by rw[←hp];simpa using kc
    simp -dsimp[wrap_i64 (n:=id+p.1) (by omega) (by omega)];refine qM.dec (fun h1=>?_) (fun h1=>?_)
    ·simp -dsimp[ints,hi,hx',fF hr1,Rt.cs,wrap_i64 (n:=id+p.1) (by omega) (by omega),wrap_i64 (n:=(i:Int)+1) (by omega) (by omega)];and_intros;all_goals try first|omega|exact⟨by kernel_rfl⟩
     have e:aV rs L.1 x T' id l=(l++[⟨r.id,id+p.1⟩],id+p.1,p.2):=by simp only[aV,hc,h0,hp,h1,hr3,if_true,if_false]
     exact⟨⟨(i+1,p.2,id+p.1,l++[⟨r.id,id+p.1⟩]),by dsimp only;omega,kp,by dsimp only;omega,by dsimp only;omega,by simp;omega,by dsimp only;rw[i6,hd,aX,e]⟩,GS.to (by simp[ints,rJ,Ed.cs]),by simp;omega⟩
    ·simp -dsimp[wrap_i64 (n:=id+p.1) (by omega) (by omega),wrap_i64 (n:=(i:Int)+1) (by omega) (by omega)];have e:aV rs L.1 x T' id l=(l,id+p.1,p.2):=by simp[aV,hc,h0,hp,h1]
     exact⟨⟨(i+1,p.2,id+p.1,l),by dsimp only;omega,kp,by dsimp only;omega,by dsimp only;omega,by dsimp only;omega,by dsimp only;rw[i6,hd,aX,e]⟩,GS.to (by simp[ints]),by simp;omega⟩
  ·have hX:aX rs L.1 o.1 o.2 0 []=(l,id,T'):=by rw[i6,List.drop_eq_nil_of_le (by omega)];rfl
   have h0:bJ T rs=(⟨s.1,L.1,l⟩,id,T'):=by simp[bJ,hs,hL,ho,hX]
   by_cases hn0:0<n
   ·simp -dsimp[ints,hi,hn0];refine ah.of (gK T' i2 n ⟨by omega,by omega⟩ ⟨by omega,by omega⟩) [.x 0] 0 ?_;simp -dsimp;generalize hq:dD T' n=q;have kq:ak q.2:=by rw[←hq];simpa using i2
    rcases (Bool.eq_false_or_eq_true q.1).symm with hq1|hq1
    ·simp -dsimp[hq1];refine Fin.box (.o 6) rfl ?_;simp -dsimp;refine Fin.of ?_;simp[dh,h0,hn0,bI,hq,hq1]
    ·simp -dsimp[hq1];refine ah.of (bn q.2 kq 5 ⟨by omega,by omega⟩) [.x 0] 0 ?_;simp -dsimp;generalize hz:au q.2 5=z;have kz:ak z.2:=by rw[←hz];simpa using kq
     have hg:dh T rs n=dR q.2 ⟨s.1,L.1,l⟩ id:=by simp[dh,h0,hn0,hq,hq1]
     rw[hg];refine qM.dec (fun c0=>?_) (fun c0=>?_)
     ·simp -dsimp;refine ah.of (qI z.2 kz) [.x 0] 0 ?_;simp -dsimp;refine Fin.box (.o 6) rfl ?_;simp -dsimp;refine Fin.of ?_;simp[dR,hz,c0,bI]
     ·simp -dsimp[c0];refine qM.dec (fun c1=>?_) (fun c1=>?_)
      ·simp -dsimp;refine ah.of (fE z.2 kz [0,8,24,64,128] (by simp) (by simp)) [.x 0] 0 ?_;simp -dsimp[ints];refine Fin.box (.o 6) rfl ?_;simp -dsimp;refine Fin.of ?_;simp[dR,hz,c0,c1,bI]
      ·simp -dsimp[c1];refine qM.dec (fun c2=>?_) (fun c2=>?_)
       ·simp -dsimp;refine ah.of (fE z.2 kz [0,1,99,100] (by simp) (by simp)) [.x 0] 0 ?_;simp -dsimp[ints];generalize hv:aK z.2 [0,1,99,100]=v;have kv:ak v.2:=by rw[←hv];simpa using kz
        refine ah.of (fE v.2 kv [0,1,256,257] (by simp) (by simp)) [.x 0] 0 ?_;simp -dsimp[ints];and_intros;all_goals try first|omega|exact⟨by kernel_rfl⟩
        refine Fin.box (.o 6) rfl ?_;simp -dsimp;refine Fin.of ?_;simp[dR,hz,c0,c1,c2,bI,rJ,Ed.cs,hv]
       ·simp -dsimp[c2];refine qM.dec (fun c3=>?_) (fun c3=>?_)
        ·rcases l with _|⟨ed,l'⟩
         ·simp -dsimp;refine Fin.box (.o 6) rfl ?_;simp -dsimp;refine Fin.of ?_;simp[dR,hz,c0,c1,c2,c3,bI,rJ]
         ·simp -dsimp;refine ah.of (qI z.2 kz) [.x 0] 0 ?_;simp -dsimp[rJ,Ed.cs];refine⟨?_,⟨by kernel_rfl⟩⟩;refine Fin.box (.o 6) rfl ?_;simp -dsimp;refine Fin.of ?_;simp[dR,hz,c0,c1,c2,c3,bI,rJ,Ed.cs]
        ·simp -dsimp[c3,wrap_i64 (n:=id+1) (by omega) (by omega)];and_intros;all_goals try first|omega|exact⟨by kernel_rfl⟩
         refine Fin.box (.o 6) rfl ?_;simp -dsimp;refine Fin.of ?_;simp[dR,hz,c0,c1,c2,c3,bI,rJ,Ed.cs]
   ·simp -dsimp[ints,hi,hn0];refine Fin.box (.o 6) rfl ?_;simp -dsimp;refine Fin.of ?_;simp[dh,h0,hn0,bI]
theorem jH(rs:List Rt)(len:Int):∀(o:List Int) (T:Tp) (id:Int) (l:List Ed),(aX rs len o T id l).1.length≤l.length+o.length
 | [],_,_,_=>by simp[aX]
 | x::o,T,id,l=>by
   have h1:=jH rs len o (aV rs len x T id l).2.2 (aV rs len x T id l).2.1 (aV rs len x T id l).1;have h2:(aV rs len x T id l).1.length≤l.length+1:=by
    unfold aV;simp only;split
    ·simp
    ·simp only;split<;>simp
   simp only[aX,List.length_cons];omega
theorem qh(T:Tp)(rs:List Rt):(bJ T rs).1.es.length≤rs.length:=by
 have:=jH rs (aK (au T 3).2 [8,8,16,32,64]).1 (bT (aK (au T 3).2 [8,8,16,32,64]).2 rs.length).1 (bT (aK (au T 3).2 [8,8,16,32,64]).2 rs.length).2 0 [];rw[iK]at this
 simpa[bJ]using this
theorem zl(T:Tp)(hT:ak T)(most:Int)(hm:1≤most∧most≤24):Contract Tryz.prog 18 [.ptr (.x 0) 0,.d (.int .i64 most),.d (.int .i64 0)] [aJ T] (.agg [.aB 1000 (dG T most).1.rs.length,.d (.sl (dO (dG T most).1.ls))]) [aJ (dG T most).2] [(1000,.row 117 2 (dd (rts (dG T most).1.rs)) false)]:=by
 have b1:=aS T 1 most;have b2:=aQ T (a:=1) (b:=most) (by omega);refine aj Tryz.func18 rfl (fun E0=>?_);refine cO.sound (g:=.mk) (ow:=[]) (kp:=(fun k=>k==0||k==1||k==2||k==6||k==7||k==8||k==9||k==10||k==11||k==12||k==13||k==14||k==15||k==21||k==36||k==47||k==60||k==87||k==89||k==91||k==101||k==112||k==124||k==129||k==141||k==146||k==158||k==163||k==175||k==180)) ?_
 rw[Tryz.ntmps18];simp -dsimp;refine ah.of (dw T hT 1 most ⟨by omega,by omega⟩ ⟨by omega,by omega⟩ ⟨by omega,by omega⟩ ⟨by omega,by omega⟩) [.x 0] 0 ?_;simp -dsimp;generalize hR:aT T 1 most=R at b1 b2⊢;have kR:ak R.2:=by rw[←hR];simpa using hT
 refine aN.of [] (fun k=>k==0||k==1||k==2||k==6||k==7||k==8||k==9||k==10||k==11||k==12||k==13||k==14||k==15||k==21||k==36||k==47||k==60||k==87||k==89||k==91||k==101||k==112||k==124||k==129||k==141||k==146||k==158||k==163||k==175||k==180) (ι:={i:Nat // (i:Int)≤R.1}) (fun i=>[(Pl.s 0,It.v (.ptr (Pl.x 0) 0)),(Pl.s 1,It.v (.d (.int .i64 most))),(Pl.s 2,It.v (.d (.int .i64 0))),(Pl.x 0,aJ R.2),
  (Pl.o 6,It.box [TV.c (Value.slice none 0 0),TV.c (Value.slice none 0 0)]),(Pl.s 6,It.v (.ptr (Pl.o 6) 0)),(Pl.o 7,It.box [TV.aB 1000 i.1,TV.c (Value.slice none 0 0)]),(Pl.s 7,It.v (.ptr (Pl.o 7) 0)),
  (Pl.s 8,It.v (.d (.int .i64 R.1))),(Pl.s 9,It.v (.d (.int .i64 (i.1+1)))),(Pl.o 1000,.row 117 2 (dd (rts (cu i.1))) false)]) (fun i=>R.1.toNat-i.1) ⟨0,by omega⟩ ?_ ?_
 ·exact GS.gq (.o 7) 0 1000 (cs:=[TV.c (Value.slice none 0 0),TV.c (Value.slice none 0 0)]) 117 2 (by simp) (by simp) (by simp) (by simp) (by simp[cu,rts])
 ·rintro⟨i,hi⟩;simp -dsimp;refine qM.dec (fun h=>?_) (fun h=>?_)
  ·simp -dsimp[wrap_i64 (n:=(i:Int)+1+1) (by omega) (by omega)];and_intros;all_goals try omega
   exact⟨⟨⟨i+1,by omega⟩,GS.to (by simp[cu,rts,List.range_succ,Rt.cs]),by simp;omega⟩⟩
  ·have hk:R.1=i:=by omega
   simp -dsimp;refine ah.of (fE R.2 kR [1,2,2,5] (by simp) (by simp)) [.x 0] 0 ?_;simp -dsimp[ints];generalize hC:aK R.2 [1,2,2,5]=C;have kC:ak C.2:=by rw[←hC];simpa using kR
   have bC:1≤C.1∧C.1≤5:=by rw[←hC];exact dA (p:=fun x=>1≤x∧x≤5) (by simp) (by simp)
   refine aN.of [] (fun k=>k==0||k==1||k==2||k==6||k==7||k==8||k==9||k==10||k==11||k==12||k==13||k==14||k==15||k==21||k==36||k==47||k==60||k==87||k==89||k==91||k==101||k==112||k==124||k==129||k==141||k==146||k==158||k==163||k==175||k==180) (ι:={z:Int×Tp×List Lk // 2≤z.1∧z.1≤R.1+1∧ak z.2.1∧z.2.2.length≤24*(z.1.toNat-2)∧dS C.1 (R.1+1-2).toNat 2 C.2 []=dS C.1 (R.1+1-z.1).toNat z.1 z.2.1 z.2.2})
    (fun z=>[(Pl.s 0,It.v (.ptr (Pl.x 0) 0)),(Pl.s 1,It.v (.d (.int .i64 most))),(Pl.s 2,It.v (.d (.int .i64 0))),(Pl.x 0,aJ z.1.2.1),
     (Pl.o 6,It.box [TV.c (Value.slice none 0 0),TV.c (Value.slice none 0 0)]),(Pl.s 6,It.v (.ptr (Pl.o 6) 0)),(Pl.o 7,It.box [TV.aB 1000 i,TV.aB 1001 z.1.2.2.length]),(Pl.s 7,It.v (.ptr (Pl.o 7) 0)),
     (Pl.s 8,It.v (.d (.int .i64 R.1))),(Pl.o 1000,.row 117 2 (dd (rts (cu i))) false),(Pl.o 1001,.row 142 5 (dd (dO z.1.2.2)) false),
     (Pl.s 10,It.v (.d (.int .i64 C.1))),(Pl.s 11,It.v (.d (.int .i64 z.1.1)))]) (fun z=>(R.1+1-z.1.1).toNat) ⟨(2,C.2,[]),by omega,by omega,kC,by simp,rfl⟩ ?_ ?_
   ·exact GS.gq (.o 7) 1 1001 (cs:=[TV.aB 1000 i,TV.c (Value.slice none 0 0)]) 142 5 (by simp) (by simp) (by simp) (by simp) (by simp[dO])
   ·rintro⟨⟨b,T0,l0⟩,i1,i2,i3,i4,i5⟩;simp only at i1 i2 i3 i4 i5;simp -dsimp;refine qM.dec (fun hb=>?_) (fun hb=>?_)
    ·have t1:=aS T0 1 (b-1);have t2:=aQ T0 (a:=1) (b:=b-1) (by omega);simp -dsimp[wrap_i64 (n:=b-1) (by omega) (by omega)];refine ah.of (dw T0 i3 1 (b-1) ⟨by omega,by omega⟩ ⟨by omega,by omega⟩ ⟨by omega,by omega⟩ ⟨by omega,by omega⟩) [.x 0] 0 ?_;simp -dsimp;generalize ht:aT T0 1 (b-1)=t at t1 t2⊢;have kt:ak t.2:=by rw[←ht];simpa using i3
     refine ah.of (gK t.2 kt 9 ⟨by omega,by omega⟩ ⟨by omega,by omega⟩) [.x 0] 0 ?_;simp -dsimp;generalize hs:dD t.2 9=s;have ks:ak s.2:=by rw[←hs];simpa using kt
     refine aN.of [] (fun k=>k==0||k==1||k==2||k==6||k==7||k==8||k==9||k==10||k==11||k==12||k==13||k==14||k==15||k==21||k==36||k==47||k==60||k==87||k==89||k==91||k==101||k==112||k==124||k==129||k==141||k==146||k==158||k==163||k==175||k==180) (ι:={z:Int×Tp×List Lk // 1≤z.1∧z.1≤b∧ak z.2.1∧z.2.2.length≤24*(b.toNat-2)+(z.1.toNat-1)∧dV C.1 t.1 s.1 b (b-1).toNat 1 s.2 l0=dV C.1 t.1 s.1 b (b-z.1).toNat z.1 z.2.1 z.2.2})
      (fun z=>[(Pl.s 0,It.v (.ptr (Pl.x 0) 0)),(Pl.s 1,It.v (.d (.int .i64 most))),(Pl.s 2,It.v (.d (.int .i64 0))),(Pl.x 0,aJ z.1.2.1),
       (Pl.o 6,It.box [TV.c (Value.slice none 0 0),TV.c (Value.slice none 0 0)]),(Pl.s 6,It.v (.ptr (Pl.o 6) 0)),(Pl.o 7,It.box [TV.aB 1000 i,TV.aB 1001 z.1.2.2.length]),(Pl.s 7,It.v (.ptr (Pl.o 7) 0)),
       (Pl.s 8,It.v (.d (.int .i64 R.1))),(Pl.o 1000,.row 117 2 (dd (rts (cu i))) false),(Pl.o 1001,.row 142 5 (dd (dO z.1.2.2)) false),
       (Pl.s 10,It.v (.d (.int .i64 C.1))),(Pl.s 11,It.v (.d (.int .i64 b))),(Pl.s 12,It.v (.d (.int .i64 t.1))),(Pl.s 13,It.v (.d (.bool s.1))),(Pl.s 14,It.v (.d (.int .i64 z.1.1)))]) (fun z=>(b-z.1.1).toNat) ⟨(1,s.2,l0),by omega,by omega,ks,by simpa using i4,rfl⟩ ?_ ?_
     ·exact GS.to (by simp)
     ·rintro⟨⟨a,T1,l⟩,j1,j2,j3,j4,j5⟩;simp only at j1 j2 j3 j4 j5;by_cases hab:a<b
      ·have hab':decide (a<b)=true:=by simpa using hab
       by_cases ha:a=t.1
       ·have ha':decide (a=t.1)=true:=by simpa using ha
        rcases (Bool.eq_false_or_eq_true s.1).symm with hs1|hs1
        ·simp -dsimp[hab',ha',hs1];have x1:=aS T1 1 C.1;have x2:=aQ T1 (a:=1) (b:=C.1) (by omega);refine ah.of (dw T1 j3 1 C.1 ⟨by omega,by omega⟩ ⟨by omega,by omega⟩ ⟨by omega,by omega⟩ ⟨by omega,by omega⟩) [.x 0] 0 ?_;simp -dsimp;generalize hx:aT T1 1 C.1=x at x1 x2⊢;have kx:ak x.2:=by rw[←hx];simpa using j3
         have y1:=aS x.2 1 C.1;have y2:=aQ x.2 (a:=1) (b:=C.1) (by omega);refine ah.of (dw x.2 kx 1 C.1 ⟨by omega,by omega⟩ ⟨by omega,by omega⟩ ⟨by omega,by omega⟩ ⟨by omega,by omega⟩) [.x 0] 0 ?_;simp -dsimp;generalize hy:aT x.2 1 C.1=y at y1 y2⊢;have ky:ak y.2:=by rw[←hy];simpa using kx
         refine ah.of (bn y.2 ky 4 ⟨by omega,by omega⟩) [.x 0] 0 ?_;simp -dsimp[wrap_i64 (n:=a+1) (by omega) (by omega)];have e:dI C.1 t.1 s.1 b a T1 l=(l++[⟨a,b,x.1,y.1,(au y.2 4).1⟩],(au y.2 4).2):=by simp[dI,ha',hs1,hx,hy]
         and_intros;all_goals try first|omega|exact⟨by kernel_rfl⟩|(simp;omega)
         exact⟨⟨(a+1,(au y.2 4).2,l++[⟨a,b,x.1,y.1,(au y.2 4).1⟩]),by omega,by omega,by simpa using ky,by simp;omega,by rw[j5,show(b-a).toNat=(b-(a+1)).toNat+1 by omega,dV,e]⟩,GS.to (by simp[dO,Lk.cs,ha',hs1]),by simp;omega⟩
        ·simp -dsimp[hab',ha',hs1];refine ah.of (gK T1 j3 3 ⟨by omega,by omega⟩ ⟨by omega,by omega⟩) [.x 0] 0 ?_;generalize ho:dD T1 3=o;have ko:ak o.2:=by rw[←ho];simpa using j3
         rcases (Bool.eq_false_or_eq_true o.1).symm with ho1|ho1
         ·simp -dsimp[ho1,wrap_i64 (n:=a+1) (by omega) (by omega)];have e:dI C.1 t.1 s.1 b a T1 l=(l,o.2):=by simp[dI,ha',hs1,ho,ho1]
          and_intros;all_goals try first|omega|exact⟨by kernel_rfl⟩|(simp;omega)
          exact⟨⟨(a+1,o.2,l),by omega,by omega,ko,by simp;omega,by rw[j5,show(b-a).toNat=(b-(a+1)).toNat+1 by omega,dV,e]⟩,GS.to (by simp[ha',hs1]),by simp;omega⟩
         ·simp -dsimp[ho1];have x1:=aS o.2 1 C.1;have x2:=aQ o.2 (a:=1) (b:=C.1) (by omega);refine ah.of (dw o.2 ko 1 C.1 ⟨by omega,by omega⟩ ⟨by omega,by omega⟩ ⟨by omega,by omega⟩ ⟨by omega,by omega⟩) [.x 0] 0 ?_;simp -dsimp;generalize hx:aT o.2 1 C.1=x at x1 x2⊢;have kx:ak x.2:=by rw[←hx];simpa using ko
          have y1:=aS x.2 1 C.1;have y2:=aQ x.2 (a:=1) (b:=C.1) (by omega);refine ah.of (dw x.2 kx 1 C.1 ⟨by omega,by omega⟩ ⟨by omega,by omega⟩ ⟨by omega,by omega⟩ ⟨by omega,by omega⟩) [.x 0] 0 ?_;simp -dsimp;generalize hy:aT x.2 1 C.1=y at y1 y2⊢;have ky:ak y.2:=by rw[←hy];simpa using kx
          refine ah.of (bn y.2 ky 4 ⟨by omega,by omega⟩) [.x 0] 0 ?_;simp -dsimp[wrap_i64 (n:=a+1) (by omega) (by omega)];have e:dI C.1 t.1 s.1 b a T1 l=(l++[⟨a,b,x.1,y.1,(au y.2 4).1⟩],(au y.2 4).2):=by simp[dI,ha',hs1,ho,ho1,hx,hy]
          and_intros;all_goals try first|omega|exact⟨by kernel_rfl⟩|(simp;omega)
          exact⟨⟨(a+1,(au y.2 4).2,l++[⟨a,b,x.1,y.1,(au y.2 4).1⟩]),by omega,by omega,by simpa using ky,by simp;omega,by rw[j5,show(b-a).toNat=(b-(a+1)).toNat+1 by omega,dV,e]⟩,GS.to (by simp[dO,Lk.cs,ha',hs1,ho,ho1]),by simp;omega⟩
       ·have ha':decide (a=t.1)=false:=by simpa using ha
        simp -dsimp[hab',ha'];refine ah.of (gK T1 j3 3 ⟨by omega,by omega⟩ ⟨by omega,by omega⟩) [.x 0] 0 ?_;generalize ho:dD T1 3=o;have ko:ak o.2:=by rw[←ho];simpa using j3
        rcases (Bool.eq_false_or_eq_true o.1).symm with ho1|ho1
        ·simp -dsimp[ho1,wrap_i64 (n:=a+1) (by omega) (by omega)];have e:dI C.1 t.1 s.1 b a T1 l=(l,o.2):=by simp[dI,ha',ho,ho1]
         and_intros;all_goals try first|omega|exact⟨by kernel_rfl⟩|(simp;omega)
         exact⟨⟨(a+1,o.2,l),by omega,by omega,ko,by simp;omega,by rw[j5,show(b-a).toNat=(b-(a+1)).toNat+1 by omega,dV,e]⟩,GS.to (by simp[ha']),by simp;omega⟩
        ·simp -dsimp[ho1];have x1:=aS o.2 1 C.1;have x2:=aQ o.2 (a:=1) (b:=C.1) (by omega);refine ah.of (dw o.2 ko 1 C.1 ⟨by omega,by omega⟩ ⟨by omega,by omega⟩ ⟨by omega,by omega⟩ ⟨by omega,by omega⟩) [.x 0] 0 ?_;simp -dsimp;generalize hx:aT o.2 1 C.1=x at x1 x2⊢;have kx:ak x.2:=by rw[←hx];simpa using ko
         have y1:=aS x.2 1 C.1;have y2:=aQ x.2 (a:=1) (b:=C.1) (by omega);refine ah.of (dw x.2 kx 1 C.1 ⟨by omega,by omega⟩ ⟨by omega,by omega⟩ ⟨by omega,by omega⟩ ⟨by omega,by omega⟩) [.x 0] 0 ?_;simp -dsimp;generalize hy:aT x.2 1 C.1=y at y1 y2⊢;have ky:ak y.2:=by rw[←hy];simpa using kx
         refine ah.of (bn y.2 ky 4 ⟨by omega,by omega⟩) [.x 0] 0 ?_;simp -dsimp[wrap_i64 (n:=a+1) (by omega) (by omega)];have e:dI C.1 t.1 s.1 b a T1 l=(l++[⟨a,b,x.1,y.1,(au y.2 4).1⟩],(au y.2 4).2):=by simp[dI,ha',ho,ho1,hx,hy]
         and_intros;all_goals try first|omega|exact⟨by kernel_rfl⟩|(simp;omega)
         exact⟨⟨(a+1,(au y.2 4).2,l++[⟨a,b,x.1,y.1,(au y.2 4).1⟩]),by omega,by omega,by simpa using ky,by simp;omega,by rw[j5,show(b-a).toNat=(b-(a+1)).toNat+1 by omega,dV,e]⟩,GS.to (by simp[dO,Lk.cs,ha',ho,ho1]),by simp;omega⟩
      ·have hab':decide (a<b)=false:=by simpa using hab
       obtain rfl:a=b:=by omega
       simp -dsimp[hab',wrap_i64 (n:=a+1) (by omega) (by omega)];have e:gW C.1 a T0 l0=(l,T1):=by unfold gW;simp only[ht,hs];rw[j5];simp[dV]
       exact⟨⟨(a+1,T1,l),by omega,by omega,j3,by simp;omega,by rw[i5,show(R.1+1-a).toNat=(R.1+1-(a+1)).toNat+1 by omega,dS,e]⟩,GS.to (by simp),by simp;omega⟩
    ·obtain rfl:b=R.1+1:=by omega
     simp -dsimp;refine ah.of (Tn l0 (by omega)) [] 0 ?_;simp -dsimp;refine Fin.of ?_;have hX:dS C.1 (R.1+1-2).toNat 2 C.2 []=(l0,T0):=by rw[i5];simp[dS]
     simp only[dG,hR,hC,hX];simp[hk,cu]
theorem fQ:∀(l:List Rt) (T:Tp),(iy l T).1.length=l.length
 | [],_=>rfl
 | x::l,T=>by simp[iy,fQ l]
theorem EJ(b:Tb)(hb:b.rows.length≤1000000)(hn:∀x∈b.rows,x.nx.length≤1000000):Contract Tryz.prog 96 [bZ b] [] (.agg [TV.d (.int .i64 b.r),TV.d (.int .i64 b.sd),TV.d (.int .i64 b.len),.aB 3 b.rows.length]) [] [(3,.row 167 2 (dd (rws b.rows)) false)]:=by
 refine aj Tryz.func96 rfl (fun E0=>?_);refine cO.sound (g:=.mk) (ow:=[19]) (kp:=(fun k=>k==0||k==1||k==2||k==3||k==4||k==9)) ?_;rw[Tryz.ntmps96];simp -dsimp[bZ,jf]
 refine aN.of [19] (fun k=>k==0||k==1||k==2||k==3||k==4||k==9) (ι:={i:Nat // i≤b.rows.length}) (fun z=>[(Pl.s 0,It.v (.agg [TV.d (.int .i64 b.r),TV.d (.int .i64 b.sd),TV.d (.int .i64 b.len),TV.d (.sl (rws b.rows))])),(Pl.o 1,It.box [TV.d (.int .i64 b.r),TV.d (.int .i64 b.sd),TV.d (.int .i64 b.len),TV.d (.sl (rws b.rows))]),(Pl.s 1,It.v (.ptr (Pl.o 1) 0)),(Pl.o 2,It.box [TV.d (.int .i64 0),TV.d (.int .i64 0),TV.d (.int .i64 0),TV.c (Value.slice none 0 0)]),(Pl.s 2,It.v (.ptr (Pl.o 2) 0)),(Pl.s 3,It.v (.aB 3 z.1)),(Pl.o 3,It.row 167 2 (dd (rws (b.rows.take z.1))) false),(Pl.s 4,It.v (.d (.int .i64 z.1)))]) (fun z=>b.rows.length-z.1) ⟨0,by omega⟩ ?_ ?_
 ·exact GS.own' (k:=3) 167 2 (by simp) (by simp) (by simp[rws])
 rintro⟨i,i1⟩;by_cases hi:i<b.rows.length
 ·have hiz:(i:Int)<b.rows.length:=by omega
  have hx:b.rows[i]? = some b.rows[i]:=List.getElem?_eq_getElem hi;have ht:b.rows.take (i+1)=b.rows.take i++[b.rows[i]]:=by rw[List.take_add_one,List.getElem?_eq_getElem hi];rfl
  have hnx:=hn b.rows[i] (List.getElem_mem hi);generalize b.rows[i]=x at hx ht hnx;have hx':=Nz hx;simp -dsimp[hiz,hx',ints,wrap_i64 (n:=(i:Int)+1) (by omega) (by omega)];and_intros;all_goals try first|rfl|omega|exact⟨by kernel_rfl⟩|exact iF 1 _ _ fun _=>rfl
  exact⟨⟨i+1,by omega⟩,GS.to (by simp[ht,JF,ints]),by simp;omega⟩
 ·have hiz :¬(i:Int)<b.rows.length:=by omega
  obtain rfl:i=b.rows.length:=by omega
  simp -dsimp[hiz];refine Fin.of ?_;simp
theorem fO(T:Tp){most:Int}(hm:1≤most∧most≤24):(bW T most).1.rs.length≤24∧(bW T most).1.ls.length≤1000:=by
 have:=vV T hm;simpa[bW,fQ]using this
theorem sD(rs:List Rt)(len x:Int)(T:Tp)(id:Int)(l:List Ed):ak (aV rs len x T id l).2.2=ak T∧(aV rs len x T id l).1.length≤l.length+1:=by
 unfold aV;simp only;split
 ·simp
 ·split<;>simp
theorem jI(rs:List Rt)(len:Int):∀(o:List Int) (T:Tp) (id:Int) (l:List Ed),ak (aX rs len o T id l).2.2=ak T∧(aX rs len o T id l).1.length≤l.length+o.length
 | [],_,_,_=>⟨rfl,Nat.le_refl _⟩
 | x::o,T,id,l=>by
   rw[aX];obtain⟨h1,h2⟩:=sD rs len x T id l;obtain⟨h3,h4⟩:=jI rs len o (aV rs len x T id l).2.2 (aV rs len x T id l).2.1 (aV rs len x T id l).1;exact⟨h3.trans h1,by simp only[List.length_cons];omega⟩
theorem fV(T:Tp)(rs:List Rt):ak (dh T rs 0).2=ak T∧(dh T rs 0).1.es.length≤rs.length:=by
 have h:=jI rs (aK (au T 3).2 [8,8,16,32,64]).1 (bT (aK (au T 3).2 [8,8,16,32,64]).2 rs.length).1 (bT (aK (au T 3).2 [8,8,16,32,64]).2 rs.length).2 0 [];simp only[dh,bJ,Int.lt_irrefl,if_false];refine⟨h.1.trans (by simp),?_⟩;have h2:=h.2;rw[iK]at h2
 simpa using h2
end Go.Proofs
