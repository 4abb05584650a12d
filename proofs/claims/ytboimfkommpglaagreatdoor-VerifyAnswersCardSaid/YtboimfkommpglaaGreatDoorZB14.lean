/-
  What functions of the program compute, stated as contracts over plain data; the conditions of each stand in its own statement.
-/
import Derived.Test.YtboimfkommpglaaGreatDoorZB13
set_option linter.unusedSimpArgs false
set_option maxRecDepth 100000
set_option maxHeartbeats 2000000
namespace Go.Proofs
open Go Go.Tr
structure Ed where
 r:Int
 id:Int
def Ed.cs(x:Ed):List D:=[.int .i64 x.r,.int .i64 x.id]
def lX(l:List Ed):List (List D):=l.map Ed.cs
structure Pn where
 gU:Int
 len:Int
 es:List Ed
def iE(p:Pn):TV:=.agg [.d (.int .i64 p.gU),.d (.int .i64 p.len),.d (.sl (lX p.es))]
@[simp]theorem an6(l:List Ed):(lX l).length=l.length:=by simp[lX]
theorem Fv{l:List Ed}{i:Nat}{x:Ed}(h:l[i]? = some x):(lX l)[i]? = some x.cs:=by grind[lX]
theorem Rx{l:List Ed}{i:Nat}{x:Ed}(h:l[i]? = some x)(hi:i<(lX l).length):(lX l)[i]=x.cs:=by
 have:=Fv h
 grind
theorem r_{l:List Rt}{i:Nat}{x:Rt}(h:l[i]? = some x):(rts l)[i]? = some x.cs:=by grind[rts]
theorem SE:∀(n i:Nat) (T:Tp) (l:List Int),mW (xI n i T l).2=mW T
 | 0,_,_,_=>rfl
 | n+1,i,T,l=>by rw[xI,SE];simp
@[simp]theorem al_(T:Tp)(n:Int):mW (yx T n).2=mW T:=SE _ _ _ _
theorem Pv:∀(n i:Nat) (T:Tp) (l:List Int),(∀x∈l,0≤x∧x<(i:Int))→∀x∈(xI n i T l).1,0≤x∧x<((i+n:Nat):Int)
 | 0,_,_,_,h=>h
 | n+1,i,T,l,h=>fun x hx=>by
   have:=Pv n (i+1) _ _ (fun y hy=>?_) x hx
   ·omega
   grind
theorem Pq:∀(n i:Nat) (T:Tp) (l:List Int),(xI n i T l).1.length=l.length+n
 | 0,_,_,_=>rfl
 | n+1,i,T,l=>by
   rw[xI,Pq n]
   grind
theorem SH(T:Tp)(n:Nat):∀x∈(yx T n).1,0≤x∧x<(n:Int):=fun x hx=>by have:=Pv n 0 T [] (by simp) x (by trivial);omega
theorem SG(T:Tp)(n:Nat):(yx T n).1.length=n:=by simp[yx,Pq]
def inB(n lo hi:Int):Bool:=decide (lo≤n)&&decide (n≤hi)
theorem wZ(n lo hi:Int):Contract Tryz.prog 168 [.d (.int .i64 n),.d (.int .i64 lo),.d (.int .i64 hi)] [] (.d (.bool (inB n lo hi))) [] []:=by
 refine aC Tryz.func168 rfl (fun E0=>?_);refine iK.sound (g:=.mk) (ow:=[]) (kp:=(kb 0x47)) ?_;rw[Tryz.ntmps168];by_cases h:lo≤n
 ·simp -dsimp[h];refine Fin.of ?_;simp[inB,h]
 ·simp -dsimp[h];refine Fin.of ?_;simp[inB,h]
theorem OD(n lo hi:Int):Contract Tryz.prog 208 [.d (.int .i64 n),.d (.int .i64 lo),.d (.int .i64 hi)] [] (.d (.bool (inB n lo hi))) [] []:=by
 refine aC Tryz.func208 rfl (fun E0=>?_);refine iK.sound (g:=.mk) (ow:=[]) (kp:=(kb 0x47)) ?_;rw[Tryz.ntmps208];by_cases h:lo≤n
 ·simp -dsimp[h];refine Fin.of ?_;simp[inB,h]
 ·simp -dsimp[h];refine Fin.of ?_;simp[inB,h]
open Classical in
noncomputable def afv(l:List Int):Bool:=decide (∃i j,j<i∧i<l.length∧l.getD i 0=l.getD j 0)
theorem WU{l:List Int}{i j:Nat}(h1:j<i)(h2:i<l.length)(h3:l.getD i 0=l.getD j 0):afv l=true:=by simp only[afv,decide_eq_true_eq];exact⟨i,j,h1,h2,h3⟩
theorem Ur{l:List Int}(h:∀i j,j<i→i<l.length→l.getD i 0≠l.getD j 0):afv l=false:=by grind[afv]
theorem WV(l:List Int)(hl:l.length≤100000):Contract Tryz.prog 186 [.d (ints l)] [] (.d (.bool (afv l))) [] []:=by
 refine aC Tryz.func186 rfl (fun E0=>?_);refine iK.sound (g:=.mk) (ow:=[]) (kp:=(kb 0x100211d)) ?_;rw[Tryz.ntmps186];simp -dsimp
 refine bY.of [] (kb 0x100211d) (ι:={i:Nat // i≤l.length∧∀a b,b<a→a<i→l.getD a 0≠l.getD b 0}) (fun z=>[(.s 0,It.v (.d (ints l))),(.s 3,It.v (.d (.int .i64 z.1)))]) (fun z=>l.length-z.1) ⟨0,by omega,fun a b _ h=>by omega⟩ ?_ ?_
 ·simp[GS.to]
 ·rintro⟨i,i1,i2⟩;by_cases hi:i<l.length
  ·simp -dsimp[ints,hi];refine bY.of [] (kb 0x100211d) (ι:={j:Nat // j≤i∧∀b,b<j→l.getD i 0≠l.getD b 0}) (fun z=>[(.s 0,It.v (.d (ints l))),(.s 3,It.v (.d (.int .i64 i))),(.s 4,It.v (.d (.int .i64 z.1)))]) (fun z=>i-z.1) ⟨0,by omega,fun b h=>by omega⟩ ?_ ?_
   ·simp[GS.to,ints]
   ·rintro⟨j,j1,j2⟩;by_cases hj:j<i
    ·have hj2:j<l.length:=by omega
     have gi:l.getD i 0=l[i]:=by simp[List.getD,hi]
     have gj:l.getD j 0=l[j]:=by simp[List.getD,hj2]
     simp -dsimp[ints,hi,hj,hj2];refine⟨PZ.dec (fun h=>?_) (fun h=>?_),⟨by kernel_rfl⟩⟩
     ·simp -dsimp;refine Fin.of ?_;simp;exact WU hj hi (by rw[gi,gj,h])
     ·simp -dsimp[wrap_i64 (n:=(j:Int)+1) (by omega) (by omega)];exact⟨⟨j+1,by omega,fun b hb=>by
       by_cases e:b=j
       ·subst e;rw[gi,gj];exact h
       ·exact j2 b (by omega)⟩,GS.to (by simp[ints]),by simp;omega⟩
    ·simp -dsimp[ints,hi,hj,wrap_i64 (n:=(i:Int)+1) (by omega) (by omega)];exact⟨⟨i+1,by omega,fun a b h1 h2=>by
      by_cases e:a=i
      ·subst e;exact j2 b (by omega)
      ·exact i2 a b h1 (by omega)⟩,GS.to (by simp[ints]),by simp;omega⟩
  ·simp -dsimp[ints,hi];refine Fin.of ?_;simp;exact Ur fun a b h1 h2=>i2 a b h1 (by omega)
def gid(es:List Ed)(i:Nat):Int:=(es.getD i ⟨0,0⟩).id
def G5(es:List Ed)(i:Nat):Int:=(es.getD i ⟨0,0⟩).r
def vV(p:Pn):Bool:=inB p.gU 0 7&&((dQ p.len||(decide (p.len=0)&&decide (p.es.length=0)))&&decide (p.es.length≤24))
def Oc(es:List Ed)(i:Nat):Bool:=inB (gid es i) 1 256&&(inB (G5 es i) 1 99&&(decide (i=0)||decide (gid es (i-1)<gid es i)))
open Classical in
noncomputable def iT(p:Pn):Bool:=decide (vV p=true∧(∀i,i<p.es.length→Oc p.es i=true)∧∀i j,j<i→i<p.es.length→G5 p.es i≠G5 p.es j)
theorem xq{p:Pn}(h:vV p=false):iT p=false:=by grind[iT]
theorem EK{p:Pn}{i:Nat}(hi:i<p.es.length)(h:Oc p.es i=false):iT p=false:=by grind[iT]
theorem aah{p:Pn}{i j:Nat}(hj:j<i)(hi:i<p.es.length)(h:G5 p.es i=G5 p.es j):iT p=false:=by grind[iT]
theorem H6{p:Pn}(h:vV p=true)(h1:∀i,i<p.es.length→Oc p.es i=true)(h2:∀i j,j<i→i<p.es.length→G5 p.es i≠G5 p.es j):iT p=true:=by
 simp only[iT,decide_eq_true_eq]
 trivial
theorem WO{p:Pn}(h:vV p=true)(h1:∀i,i<p.es.length→Oc p.es i=true):iT p = !(afv (p.es.map (·.r))):=by
 have hg:∀i,i<p.es.length→(p.es.map (·.r)).getD i 0=G5 p.es i:=by grind[G5,List.getD]
 by_cases h2:∀i j,j<i→i<p.es.length→G5 p.es i≠G5 p.es j
 ·grind[H6,Ur]
 ·grind[aah,WU]
theorem DV(p:Pn)(hp:p.es.length≤1000):Contract Tryz.prog 124 [iE p] [] (.d (.bool (iT p))) [] []:=by
 refine aC Tryz.func124 rfl (fun E0=>?_);refine iK.sound (g:=.mk) (ow:=[]) (kp:=(kb 0x40000000210000003f)) ?_;rw[Tryz.ntmps124];simp -dsimp[iE];refine aF.of (wZ p.gU 0 7) [] 0 ?_;rcases (au (inB p.gU 0 7)).symm with a1|a1
 ·simp -dsimp[a1];refine Fin.of ?_;simp
  grind[xq,vV]
 ·simp -dsimp[a1];refine aF.of (uJ p.len) [] 0 ?_;rcases (au (dQ p.len)).symm with a2|a2
  ·by_cases a3:p.len=0
   ·by_cases a4:p.es.length=0
    ·have hb:vV p=true:=by simp[vV,a1,a2,a3,a4,show dQ 0=false from rfl]
     simp -dsimp[a1,a2,a3,a4,show dQ 0=false from rfl];refine bY.of [] (kb 0x40000000210000003f) (ι:={i:Nat // i≤p.es.length∧∀a,a<i→Oc p.es a=true})
      (fun z=>[(.s 0,It.v (.agg [TV.d (.int .i64 p.gU),TV.d (.int .i64 p.len),TV.d (.sl (lX p.es))])),(.o 1,It.box [TV.d (.int .i64 p.gU),TV.d (.int .i64 p.len),TV.d (.sl (lX p.es))]),
       (.s 1,It.v (.ptr (.o 1) 0)),(.s 2,It.v (.d (.bool false))),(.s 3,It.v (.bK 3 z.1)),(.o 3,.row 3 1 (dd ((p.es.take z.1).map fun e=>[.int .i64 e.r])) false),(.s 4,It.v (.d (.int .i64 z.1)))])
      (fun z=>p.es.length-z.1) ⟨0,by omega,fun a h=>by omega⟩ ?_ ?_
     ·exact GS.own' (k:=3) 3 1 (by simp) (by simp) (by simp[a1,a2,a3,a4,show dQ 0=false from rfl])
     ·rintro⟨i,i1,i2⟩;have hi :¬i<p.es.length:=by omega
      obtain rfl:i=p.es.length:=by omega
      simp -dsimp[hi];refine aF.of (WV (p.es.map (·.r)) (by simp;omega)) [] 0 ?_;simp -dsimp[ints,bQ,Function.comp_def];refine Fin.of ?_;simp[WO hb i2]
    ·have a5:0<p.es.length:=by omega
     simp -dsimp[a1,a2,a3,a4,a5,show dQ 0=false from rfl];refine Fin.of ?_;simp;exact xq (by simp[vV,a1,a2,a3,a4,show dQ 0=false from rfl])
   ·simp -dsimp[a1,a2,a3];refine Fin.of ?_;simp;exact xq (by simp[vV,a1,a2,a3])
  ·by_cases a6:p.es.length≤24
   ·have a7 :¬(24:Int)<p.es.length:=by omega
    have hb:vV p=true:=by simp[vV,a1,a2,a6]
    simp -dsimp[a1,a2,a7];refine bY.of [] (kb 0x40000000210000003f) (ι:={i:Nat // i≤p.es.length∧∀a,a<i→Oc p.es a=true})
     (fun z=>[(.s 0,It.v (.agg [TV.d (.int .i64 p.gU),TV.d (.int .i64 p.len),TV.d (.sl (lX p.es))])),(.o 1,It.box [TV.d (.int .i64 p.gU),TV.d (.int .i64 p.len),TV.d (.sl (lX p.es))]),
      (.s 1,It.v (.ptr (.o 1) 0)),(.s 2,It.v (.d (.bool false))),(.s 3,It.v (.bK 3 z.1)),(.o 3,.row 3 1 (dd ((p.es.take z.1).map fun e=>[.int .i64 e.r])) false),(.s 4,It.v (.d (.int .i64 z.1)))])
     (fun z=>p.es.length-z.1) ⟨0,by omega,fun a h=>by omega⟩ ?_ ?_
    ·exact GS.own' (k:=3) 3 1 (by simp) (by simp) (by simp[a1,a2])
    ·rintro⟨i,i1,i2⟩;by_cases hi:i<p.es.length
     ·obtain⟨x,hx⟩:∃x,p.es[i]? = some x:=⟨p.es[i],ah hi⟩
      have gx:gid p.es i=x.id∧G5 p.es i=x.r:=by simp[gid,G5,List.getD,hx]
      simp -dsimp[hi,Rx hx,Ed.cs];refine aF.of (wZ x.id 1 256) [] 0 ?_;rcases (au (inB x.id 1 256)).symm with b1|b1
      ·simp -dsimp[b1];refine⟨?_,⟨by kernel_rfl⟩⟩;refine Fin.of ?_;simp;exact EK hi (by simp[Oc,gx,b1])
      ·simp -dsimp[b1];refine aF.of (wZ x.r 1 99) [] 0 ?_;rcases (au (inB x.r 1 99)).symm with b2|b2
       ·simp -dsimp[b1,b2];refine⟨?_,⟨by kernel_rfl⟩⟩;refine Fin.of ?_;simp;exact EK hi (by simp[Oc,gx,b1,b2])
       ·by_cases b3:0<i
        ·obtain⟨y,hy⟩:∃y,p.es[i-1]? = some y:=⟨p.es[i-1],ah (by omega)⟩
         have gy:gid p.es (i-1)=y.id:=by simp[gid,List.getD,hy]
         have b5:(1:Int)≤i:=by omega
         have b6:(i:Int)-1<p.es.length:=by omega
         have b7:i≠0:=by omega
         by_cases b4:x.id≤y.id
         ·simp -dsimp[b1,b2,b3,b4,b5,b6,Fv hy,Ed.cs,wrap_i64 (n:=(i:Int)-1) (by omega) (by omega)];refine⟨?_,⟨by kernel_rfl⟩⟩;refine Fin.of ?_;simp;exact EK hi (by simp[Oc,gx,gy,b1,b2,b7]<;>omega)
         ·simp -dsimp[b1,b2,b3,b4,b5,b6,Fv hy,Ed.cs,wrap_i64 (n:=(i:Int)-1) (by omega) (by omega),wrap_i64 (n:=(i:Int)+1) (by omega) (by omega)];and_intros;all_goals try first|omega|exact⟨by kernel_rfl⟩
          exact⟨⟨i+1,by omega,fun a ha=>by
           by_cases e:a=i
           ·subst e;simp[Oc,gx,gy,b1,b2]<;>omega
           ·exact i2 a (by omega)⟩,GS.to (by simp[aO,hx]),by simp;omega⟩
        ·obtain rfl:i=0:=by omega
         simp -dsimp[b1,b2,wrap_i64 (n:=1) (by omega) (by omega)];and_intros;all_goals try first|omega|exact⟨by kernel_rfl⟩
         exact⟨⟨1,by omega,fun a ha=>by
          obtain rfl:a=0:=by omega
          simp[Oc,gx,b1,b2]⟩,GS.to (by simp[aO,hx]),by simp;omega⟩
     ·obtain rfl:i=p.es.length:=by omega
      simp -dsimp[hi];refine aF.of (WV (p.es.map (·.r)) (by simp;omega)) [] 0 ?_;simp -dsimp[ints,bQ,Function.comp_def];refine Fin.of ?_;simp[WO hb i2]
   ·have a7:(24:Int)<p.es.length:=by omega
    simp -dsimp[a1,a2,a7];refine Fin.of ?_;simp;exact xq (by simp[vV,a1,a2,a6])
def sS(id len:Int):Int:=if dQ len&&inB id 1 256 then(id-1)/len else 0
def rC(id len:Int):Int:=if dQ len&&inB id 1 256 then(id-1)%len else 0
theorem plB(id len:Int):0≤sS id len∧sS id len≤255∧0≤rC id len∧rC id len<64:=by grind[sS,rC,dQ,inB]
def AA(id len:Int):TV:=.sZ [.d (.int .i64 (sS id len)),.d (.int .i64 (rC id len)),.d (.bool (dQ len&&inB id 1 256))]
theorem WM(id len:Int):Contract Tryz.prog 87 [.d (.int .i64 id),.d (.int .i64 len)] [] (AA id len) [] []:=by
 refine aC Tryz.func87 rfl (fun E0=>?_);refine iK.sound (g:=.mk) (ow:=[]) (kp:=(kb 0x4073)) ?_;rw[Tryz.ntmps87];simp -dsimp;refine aF.of (uJ len) [] 0 ?_;rcases (au (dQ len)).symm with a1|a1
 ·simp -dsimp[a1];refine Fin.of ?_;simp[AA,sS,rC,a1]
 ·have hl:len=8∨len=16∨len=32∨len=64:=by simp[dQ]at a1;omega
  simp -dsimp[a1];refine aF.of (wZ id 1 256) [] 0 ?_;rcases (au (inB id 1 256)).symm with a2|a2
  ·simp -dsimp[a1,a2];refine Fin.of ?_;simp[AA,sS,rC,a1,a2]
  ·have hi:1≤id∧id≤256:=by simpa[inB]using a2
   have e1:(id-1).tdiv len=(id-1)/len:=Int.tdiv_eq_ediv_of_nonneg (by omega);have e2:(id-1).tmod len=(id-1)%len:=iw (by omega);have d1:0≤(id-1)/len∧(id-1)/len≤255:=by rcases hl with rfl|rfl|rfl|rfl<;>omega
   simp -dsimp[a1,a2,e1,e2,wrap_i64 (n:=id-1) (by omega) (by omega),wrap_i64 (n:=(id-1)/len) (by omega) (by omega)];refine⟨by omega,?_,⟨by kernel_rfl⟩⟩;refine Fin.of ?_;simp[AA,sS,rC,a1,a2]
theorem Ui(id len:Int):Contract Tryz.prog 217 [.d (.int .i64 id),.d (.int .i64 len)] [] (AA id len) [] []:=by
 refine aC Tryz.func217 rfl (fun E0=>?_);refine iK.sound (g:=.mk) (ow:=[]) (kp:=(kb 0x4073)) ?_;rw[Tryz.ntmps217];simp -dsimp;refine aF.of (qN len) [] 0 ?_;rcases (au (dQ len)).symm with a1|a1
 ·simp -dsimp[a1];refine Fin.of ?_;simp[AA,sS,rC,a1]
 ·have hl:len=8∨len=16∨len=32∨len=64:=by simp[dQ]at a1;omega
  simp -dsimp[a1];refine aF.of (OD id 1 256) [] 0 ?_;rcases (au (inB id 1 256)).symm with a2|a2
  ·simp -dsimp[a1,a2];refine Fin.of ?_;simp[AA,sS,rC,a1,a2]
  ·have hi:1≤id∧id≤256:=by simpa[inB]using a2
   have e1:(id-1).tdiv len=(id-1)/len:=Int.tdiv_eq_ediv_of_nonneg (by omega);have e2:(id-1).tmod len=(id-1)%len:=iw (by omega);have d1:0≤(id-1)/len∧(id-1)/len≤255:=by rcases hl with rfl|rfl|rfl|rfl<;>omega
   simp -dsimp[a1,a2,e1,e2,wrap_i64 (n:=id-1) (by omega) (by omega),wrap_i64 (n:=(id-1)/len) (by omega) (by omega)];refine⟨by omega,?_,⟨by kernel_rfl⟩⟩;refine Fin.of ?_;simp[AA,sS,rC,a1,a2]
structure Sb where
 set:Int
 bits:BitVec 64
def Sb.cs(x:Sb):List D:=[.int .i64 x.set,bv x.bits]
def adg(l:List Int):List (List D):=l.map fun n=>[.int .i64 n]
@[simp]theorem akj(l:List Int):(adg l).length=l.length:=by simp[adg]
def JQ{α:Type}(q:α→Bool)(l:List α):Int:=match l.findIdx? q with|some i=>i|none=>-1
theorem AZ{α:Type}(q:α→Bool)(l:List α):decide (0≤JQ q l)=l.any q:=by grind[JQ]
theorem FK{α:Type}{q:α→Bool}{l:List α}{i:Nat}{x:α}(hx:l[i]? = some x)(hq:q x=true)(h:∀a,a<i→∀y,l[a]? = some y→q y=false):JQ q l=i:=by
 unfold JQ;have:l.findIdx? q=some i:=by grind[List.findIdx?_eq_some_iff_getElem,List.getElem?_eq_getElem]
 simp[*]
theorem FM{α:Type}{q:α→Bool}{l:List α}(h:∀a,a<l.length→∀y,l[a]? = some y→q y=false):JQ q l = -1:=by grind[JQ,List.getElem?_of_mem]
theorem agy(l:List Ed)(i:Nat):(lX l).take i=lX (l.take i):=by simp[lX]
def Pk.with(q:Pk)(p:Pn)(s:Sb):Pk:=⟨q.mode,p.gU,s.set,p.len,q.ttl,q.ent,q.ing,q.proto,s.bits,q.pay⟩
def e0:ByteArray:=⟨#[]⟩
theorem Zp(cost tree:Int)(skip:Bool)(b:Int):∀(n:Nat) (a:Int) (T:Tp) (l:List Lk),mW (SL cost tree skip b n a T l).2=mW T
 | 0,_,_,_=>rfl
 | n+1,a,T,l=>by rw[SL,Zp cost tree skip b n,agR]
theorem Zq(cost:Int):∀(n:Nat) (b:Int) (T:Tp) (l:List Lk),mW (ac9 cost n b T l).2=mW T
 | 0,_,_,_=>rfl
 | n+1,b,T,l=>by rw[ac9,Zq cost n];simp[agQ,Zp]
@[simp]theorem aqL(T:Tp)(most:Int):mW (akW T most).2=mW T:=by simp only[akW];rw[Zq];simp
@[simp]theorem am9(T:Tp):mW (AL T).2=mW T:=by simp[AL]
@[simp]theorem aqK(T:Tp):mW (Zn T).2=mW T:=by simp[Zn]
@[simp]theorem akS(T:Tp)(n:Int):mW (ac7 T n).2=mW T:=by
 unfold ac7;split
 ·split
  ·unfold ac8;simp only
   repeat' split
   all_goals simp
  ·simp
 ·simp
theorem w_(n lo hi:Int):Contract Tryz.prog 206 [.d (.int .i64 n),.d (.int .i64 lo),.d (.int .i64 hi)] [] (.d (.bool (inB n lo hi))) [] []:=by
 refine aC Tryz.func206 rfl (fun E0=>?_);refine iK.sound (g:=.mk) (ow:=[]) (kp:=(kb 0x47)) ?_;rw[Tryz.ntmps206];by_cases h:lo≤n
 ·simp -dsimp[h];refine Fin.of ?_;simp[inB,h]
 ·simp -dsimp[h];refine Fin.of ?_;simp[inB,h]
theorem G9(n lo hi:Int):Contract Tryz.prog 229 [.d (.int .i64 n),.d (.int .i64 lo),.d (.int .i64 hi)] [] (.d (.bool (inB n lo hi))) [] []:=by
 refine aC Tryz.func229 rfl (fun E0=>?_);refine iK.sound (g:=.mk) (ow:=[]) (kp:=(kb 0x47)) ?_;rw[Tryz.ntmps229];by_cases h:lo≤n
 ·simp -dsimp[h];refine Fin.of ?_;simp[inB,h]
 ·simp -dsimp[h];refine Fin.of ?_;simp[inB,h]
def Au(set bit len:Int):Bool:=dQ len&&(inB bit 0 (len-1)&&(inB set 0 31&&decide (set*len+bit+1≤256)))
def Gx(set bit len:Int):TV:=.sZ [.d (.int .i64 (if Au set bit len then set*len+bit+1 else 0)),.d (.bool (Au set bit len))]
def pY(l:List Int)(n:Int):Bool:=decide (n∈l)
theorem SS(l:List Int)(hl:l.length≤9223372036854775807)(n:Int):Contract Tryz.prog 93 [.d (ints l),.d (.int .i64 n)] [] (.d (.bool (pY l n))) [] []:=by
 refine aC Tryz.func93 rfl (fun E0=>?_);refine iK.sound (g:=.mk) (ow:=[]) (kp:=(kb 0x20233)) ?_;rw[Tryz.ntmps93];simp -dsimp[ints]
 refine bY.of [] (kb 0x20233) (ι:={i:Nat // i≤l.length∧∀a,a<i→∀x,l[a]? = some x→x≠n}) (fun z=>[(.s 0,It.v (.d (ints l))),(.s 1,It.v (.d (.int .i64 n))),(.s 4,It.v (.d (.bool false))),(.s 5,It.v (.d (.int .i64 z.1)))]) (fun z=>l.length-z.1) ⟨0,by omega,fun a h=>by omega⟩ ?_ ?_
 ·simp[GS.to,ints]
 ·rintro⟨i,i1,i2⟩;by_cases hi:i<l.length
  ·by_cases h:l[i]=n
   ·simp -dsimp[ints,hi,h];try refine⟨?_,⟨by kernel_rfl⟩⟩
    refine Fin.of ?_;have:pY l n=true:=by simp only[pY,decide_eq_true_eq];grind
    simp[*]
   ·simp -dsimp[ints,hi,h,wrap_i64 (n:=(i:Int)+1) (by omega) (by omega)];try refine⟨?_,⟨by kernel_rfl⟩⟩
    exact⟨⟨i+1,by omega,fun a ha x hx=>by
     by_cases e:a=i
     ·subst e;rw[ah hi]at hx;simp only[aj]at hx;rw[←hx];exact h
     ·exact i2 a (by omega) x hx⟩,GS.to (by simp[ints]),by simp;omega⟩
  ·simp -dsimp[ints,hi];refine Fin.of ?_;have:pY l n=false:=by
    simp only[pY,decide_eq_false_iff_not];intro hm;obtain⟨a,ha⟩:=bM hm;exact i2 a (by have:=(aA.1 ha).1;omega) n ha rfl
   simp[this]
theorem XP(l:List Int)(hl:l.length≤1000000)(n:Int):Contract Tryz.prog 93 [.d (ints l),.d (.int .i64 n)] [] (.d (.bool (pY l n))) [] []:=SS l (aY hl (by decide)) n
theorem Tf(l:List Int)(hl:l.length≤1000000)(n:Int):Contract Tryz.prog 221 [.d (ints l),.d (.int .i64 n)] [] (.d (ints (nT l n))) [] []:=by
 refine aC Tryz.func221 rfl (fun E0=>?_);refine iK.sound (g:=.mk) (ow:=[]) (kp:=(kb 0x100040073)) ?_;rw[Tryz.ntmps221];simp -dsimp[ints]
 refine bY.of [] (kb 0x100040073) (ι:={p:Nat // p≤l.length∧insPos n l=p+insPos n (l.drop p)}) (fun z=>[(.s 0,It.v (.d (ints l))),(.s 1,It.v (.d (.int .i64 n))),(.s 4,It.v (.c (Value.slice none 0 0))),(.s 5,It.v (.d (.int .i64 z.1)))]) (fun z=>l.length-z.1) ⟨0,by omega,by simp⟩ ?_ ?_
 ·simp[GS.to,ints]
 ·rintro⟨p,p1,p2⟩;by_cases hp:p<l.length
  ·have hd:l.drop p=l[p]::l.drop (p+1):=aU _;by_cases h:l[p]<n
   ·simp -dsimp[ints,hp,h,wrap_i64 (n:=(p:Int)+1) (by omega) (by omega)];try refine⟨?_,⟨by kernel_rfl⟩⟩
    exact⟨⟨p+1,by omega,by rw[p2,hd,insPos,if_pos h];omega⟩,GS.to (by simp[ints]),by simp;omega⟩
   ·have hq:insPos n l=p:=by rw[p2,hd,insPos,if_neg h];omega
    by_cases he:l[p]=n
    ·simp -dsimp[ints,hp,h,he];try refine⟨?_,⟨by kernel_rfl⟩⟩
     refine Fin.of ?_;have hI:nT l n=l:=by rw[nT,if_pos (by rw[hq,ah hp,he])]
     simp[hI]
    ·simp -dsimp[ints,hp,h,he];have dl:dLen 1 (l.map fun x=>[D.int .i64 x]):=mO 1 _ _ fun _=>rfl
     and_intros;all_goals try first|omega|exact⟨by kernel_rfl⟩|exact oP dl|exact xG (oP dl)|(simp;omega)
     refine Fin.view 4 ?_;simp -dsimp;and_intros;all_goals try first|omega|exact⟨by kernel_rfl⟩|(simp;omega)
     refine Fin.of ?_;have hI:nT l n=l.take p++[n]++l.drop p:=by rw[nT,hq,if_neg (by rw[ah hp];simpa using he)]
     simp[hI,ints,aW]
  ·have hq:insPos n l=p:=by rw[p2,dJ (by omega),insPos];omega
   simp -dsimp[ints,hp];have dl:dLen 1 (l.map fun x=>[D.int .i64 x]):=mO 1 _ _ fun _=>rfl
   and_intros;all_goals try first|omega|exact⟨by kernel_rfl⟩|exact oP dl|exact xG (oP dl)|(simp;omega)
   refine Fin.view 4 ?_;simp -dsimp;and_intros;all_goals try first|omega|exact⟨by kernel_rfl⟩|(simp;omega)
   refine Fin.of ?_;have hI:nT l n=l.take p++[n]++l.drop p:=by rw[nT,hq,if_neg (by rw[dK (by omega)];simp)]
   simp[hI,ints,aW]
def abI(v:Int)(l:List Int):Int:=match l.findIdx? (fun x=>decide (x=v))with|some i=>i|none=>-1
theorem ajh{v:Int}{l:List Int}{i:Nat}(hx:l[i]? = some v)(h:∀a,a<i→∀y,l[a]? = some y→y≠v):abI v l=i:=by
 unfold abI;have:l.findIdx? (fun x=>decide (x=v))=some i:=by grind[decide,List.findIdx?_eq_some_iff_getElem,List.getElem?_eq_getElem]
 simp[*]
theorem aji{v:Int}{l:List Int}(h:∀a,a<l.length→∀y,l[a]? = some y→y≠v):abI v l = -1:=by grind[abI,List.getElem?_of_mem]
theorem ahg(v:Int)(l:List Int):decide (0≤abI v l)=pY l v:=by grind[abI,pY]
theorem ahj(l:List Int)(hl:l.length≤9223372036854775807)(v:Int):Contract Tryz.prog 215 [.d (ints l),.d (.int .i64 v)] [] (.d (.int .i64 (abI v l))) [] []:=by
 refine aC Tryz.func215 rfl (fun E0=>?_);refine iK.sound (g:=.mk) (ow:=[]) (kp:=(kb 0x103b3)) ?_;rw[Tryz.ntmps215];simp -dsimp[ints]
 refine bY.of [] (kb 0x103b3) (ι:={i:Nat // i≤l.length∧∀a,a<i→∀x,l[a]? = some x→x≠v}) (fun z=>[(.s 0,It.v (.d (ints l))),(.s 1,It.v (.d (.int .i64 v))),(.s 4,It.v (.d (.int .i64 0))),(.s 7,It.v (.d (.int .i64 l.length))),(.s 8,It.v (.d (.int .i64 z.1)))]) (fun z=>l.length-z.1) ⟨0,by omega,fun a h=>by omega⟩ ?_ ?_
 ·simp[GS.to,ints]
 ·rintro⟨i,i1,i2⟩;by_cases hi:i<l.length
  ·by_cases h:l[i]=v
   ·have h':v=l[i]:=h.symm;simp -dsimp[ints,hi,h,wrap_i64 (n:=(i:Int)+1) (by omega) (by omega)];try refine⟨?_,⟨by kernel_rfl⟩⟩
    refine Fin.of ?_;simp[ajh (v:=v) (l:=l) (i:=i) (by rw[ah hi,h]) i2]
   ·have h' :¬v=l[i]:=fun e=>h e.symm
    simp -dsimp[ints,hi,h,h',wrap_i64 (n:=(i:Int)+1) (by omega) (by omega)];try refine⟨?_,⟨by kernel_rfl⟩⟩
    exact⟨⟨i+1,by omega,fun a ha x hx=>by
     by_cases e:a=i
     ·subst e;rw[ah hi]at hx;simp only[aj]at hx;rw[←hx];exact h
     ·exact i2 a (by omega) x hx⟩,GS.to (by simp[ints]),by simp;omega⟩
  ·simp -dsimp[ints,hi];refine Fin.of ?_;simp[aji (v:=v) (l:=l) fun a ha=>i2 a (by omega)]
theorem Dk(l:List Int)(hl:l.length≤9223372036854775807)(v:Int):Contract Tryz.prog 139 [.d (ints l),.d (.int .i64 v)] [] (.d (.bool (pY l v))) [] []:=by refine aC Tryz.func139 rfl (fun E0=>?_);refine iK.sound (g:=.mk) (ow:=[]) (kp:=(kb 0x13)) ?_;rw[Tryz.ntmps139];simp -dsimp;refine aF.of (ahj l hl v) [] 0 ?_;simp -dsimp;refine Fin.of ?_;simp[ahg]
end Go.Proofs
