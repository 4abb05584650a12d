/-
  What functions of the program compute, stated as contracts over plain data; the conditions of each stand in its own statement.
-/
import Derived.Test.YtboimfkommpglaaGreatDoorZA13
set_option linter.unusedSimpArgs false
set_option maxRecDepth 100000
set_option maxHeartbeats 2000000
namespace Go.Proofs
open Go Go.Tr
def wS(n m:Int):Bool:=decide (0≤n)&&decide (n≤m)
theorem E_(n m:Int):Contract Tryz.prog 190 [.d (.int .i64 n),.d (.int .i64 m)] [] (.d (.bool (wS n m))) [] []:=by
 refine aj Tryz.func190 rfl (fun E0=>?_);refine cO.sound (g:=.mk) (ow:=[]) (kp:=(fun k=>k==0||k==1||k==4)) ?_;rw[Tryz.ntmps190];by_cases h:0≤n
 ·simp -dsimp[h];refine Fin.of ?_;simp[wS,h]
 ·simp -dsimp[h];refine Fin.of ?_;simp[wS,h]
theorem ac0(n m:Int):Contract Tryz.prog 187 [.d (.int .i64 n),.d (.int .i64 m)] [] (.d (.bool (wS n m))) [] []:=by
 refine aj Tryz.func187 rfl (fun E0=>?_);refine cO.sound (g:=.mk) (ow:=[]) (kp:=(fun k=>k==0||k==1||k==4)) ?_;rw[Tryz.ntmps187];by_cases h:0≤n
 ·simp -dsimp[h];refine Fin.of ?_;simp[wS,h]
 ·simp -dsimp[h];refine Fin.of ?_;simp[wS,h]
def nG(b:BitVec 64)(n:Int):Bool:=aG n&&decide (b &&& ~~~ tN n=0#64)
theorem agp(b:BitVec 64)(n:Int):Contract Tryz.prog 191 [.d (bv b),.d (.int .i64 n)] [] (.d (.bool (nG b n))) [] []:=by
 refine aj Tryz.func191 rfl (fun E0=>?_);refine cO.sound (g:=.mk) (ow:=[]) (kp:=(fun k=>k==0||k==1||k==4)) ?_;rw[Tryz.ntmps191];simp -dsimp[bv];refine ah.of (nM n) [] 0 ?_;cases h:aG n
 ·simp -dsimp[h,bv];refine Fin.of ?_;simp[nG,h]
 ·simp -dsimp[h,bv];refine ah.of (RF n) [] 0 ?_;simp -dsimp[h,bv];refine Fin.of ?_;simp[nG,h]
theorem ag8(n:Int):Contract Tryz.prog 239 [.d (.int .i64 n)] [] (.d (bv (tN n))) [] []:=by
 refine aj Tryz.func239 rfl (fun E0=>?_);refine cO.sound (g:=.mk) (ow:=[]) (kp:=(fun k=>k==0||k==2||k==5)) ?_;rw[Tryz.ntmps239];simp -dsimp[bv];refine ah.of (qH n) [] 0 ?_;cases h:aG n
 ·simp -dsimp[h,bv];refine Fin.of ?_;simp[tN,h]
 ·have hk:n=8∨n=16∨n=32∨n=64:=by simp[aG]at h;omega
  simp -dsimp[h,bv,wrap_i64 (n:=64-n) (by omega) (by omega)];refine⟨by omega,?_⟩;refine Fin.of ?_;simp[tN,h];rcases hk with rfl|rfl|rfl|rfl<;>decide
theorem adT(b:BitVec 64)(n:Int):Contract Tryz.prog 188 [.d (bv b),.d (.int .i64 n)] [] (.d (.bool (nG b n))) [] []:=by
 refine aj Tryz.func188 rfl (fun E0=>?_);refine cO.sound (g:=.mk) (ow:=[]) (kp:=(fun k=>k==0||k==1||k==4)) ?_;rw[Tryz.ntmps188];simp -dsimp[bv];refine ah.of (qH n) [] 0 ?_;cases h:aG n
 ·simp -dsimp[h,bv];refine Fin.of ?_;simp[nG,h]
 ·simp -dsimp[h,bv];refine ah.of (ag8 n) [] 0 ?_;simp -dsimp[h,bv];refine Fin.of ?_;simp[nG,h]
def Pk.ok(p:Pk):Bool:=decide (1≤p.mode)&&(decide (p.mode≤3)&&(wS p.bF 7&&(wS p.set 31&&(nG p.bits p.len&&(wS p.ttl 63&&(wS p.ent 1023&&(wS p.ing 256&&(wS p.proto 7&&decide (p.pay.size≤64)))))))))
theorem o9(p:Pk):Contract Tryz.prog 117 [dX p] [] (.d (.bool p.ok)) [] []:=by
 refine aj Tryz.func117 rfl (fun E0=>?_);refine cO.sound (g:=.mk) (ow:=[]) (kp:=(fun k=>k==0||k==1||k==2)) ?_;rw[Tryz.ntmps117];by_cases c1:1≤p.mode
 rotate_left
 ·simp -dsimp[dX,Pk.cs,c1];try refine⟨?_,⟨by kernel_rfl⟩⟩
  refine Fin.of ?_;simp[Pk.ok,c1]
 by_cases c2:p.mode≤3
 rotate_left
 ·simp -dsimp[dX,Pk.cs,c1,c2];try refine⟨?_,⟨by kernel_rfl⟩⟩
  refine Fin.of ?_;simp[Pk.ok,c1,c2]
 simp -dsimp[dX,Pk.cs,c1,c2];refine ah.of (E_ p.bF 7) [] 0 ?_;cases d0:wS p.bF 7
 ·simp -dsimp[dX,Pk.cs,c1,c2,d0];try refine⟨?_,⟨by kernel_rfl⟩⟩
  refine Fin.of ?_;simp[Pk.ok,c1,c2,d0]
 simp -dsimp[dX,Pk.cs,c1,c2,d0];refine ah.of (E_ p.set 31) [] 0 ?_;cases d1:wS p.set 31
 ·simp -dsimp[dX,Pk.cs,c1,c2,d0,d1];try refine⟨?_,⟨by kernel_rfl⟩⟩
  refine Fin.of ?_;simp[Pk.ok,c1,c2,d0,d1]
 simp -dsimp[dX,Pk.cs,c1,c2,d0,d1];refine ah.of (agp p.bits p.len) [] 0 ?_;cases d2:nG p.bits p.len
 ·simp -dsimp[dX,Pk.cs,c1,c2,d0,d1,d2];try refine⟨?_,⟨by kernel_rfl⟩⟩
  refine Fin.of ?_;simp[Pk.ok,c1,c2,d0,d1,d2]
 simp -dsimp[dX,Pk.cs,c1,c2,d0,d1,d2];refine ah.of (E_ p.ttl 63) [] 0 ?_;cases d3:wS p.ttl 63
 ·simp -dsimp[dX,Pk.cs,c1,c2,d0,d1,d2,d3];try refine⟨?_,⟨by kernel_rfl⟩⟩
  refine Fin.of ?_;simp[Pk.ok,c1,c2,d0,d1,d2,d3]
 simp -dsimp[dX,Pk.cs,c1,c2,d0,d1,d2,d3];refine ah.of (E_ p.ent 1023) [] 0 ?_;cases d4:wS p.ent 1023
 ·simp -dsimp[dX,Pk.cs,c1,c2,d0,d1,d2,d3,d4];try refine⟨?_,⟨by kernel_rfl⟩⟩
  refine Fin.of ?_;simp[Pk.ok,c1,c2,d0,d1,d2,d3,d4]
 simp -dsimp[dX,Pk.cs,c1,c2,d0,d1,d2,d3,d4];refine ah.of (E_ p.ing 256) [] 0 ?_;cases d5:wS p.ing 256
 ·simp -dsimp[dX,Pk.cs,c1,c2,d0,d1,d2,d3,d4,d5];try refine⟨?_,⟨by kernel_rfl⟩⟩
  refine Fin.of ?_;simp[Pk.ok,c1,c2,d0,d1,d2,d3,d4,d5]
 simp -dsimp[dX,Pk.cs,c1,c2,d0,d1,d2,d3,d4,d5];refine ah.of (E_ p.proto 7) [] 0 ?_;cases d6:wS p.proto 7
 ·simp -dsimp[dX,Pk.cs,c1,c2,d0,d1,d2,d3,d4,d5,d6];try refine⟨?_,⟨by kernel_rfl⟩⟩
  refine Fin.of ?_;simp[Pk.ok,c1,c2,d0,d1,d2,d3,d4,d5,d6]
 simp -dsimp[dX,Pk.cs,c1,c2,d0,d1,d2,d3,d4,d5,d6];try refine⟨?_,⟨by kernel_rfl⟩⟩
 refine Fin.of ?_;simp[Pk.ok,c1,c2,d0,d1,d2,d3,d4,d5,d6];omega
theorem FU(p:Pk):Contract Tryz.prog 113 [dX p] [] (.d (.bool p.ok)) [] []:=by
 refine aj Tryz.func113 rfl (fun E0=>?_);refine cO.sound (g:=.mk) (ow:=[]) (kp:=(fun k=>k==0||k==1||k==2)) ?_;rw[Tryz.ntmps113];by_cases c1:1≤p.mode
 rotate_left
 ·simp -dsimp[dX,Pk.cs,c1];try refine⟨?_,⟨by kernel_rfl⟩⟩
  refine Fin.of ?_;simp[Pk.ok,c1]
 by_cases c2:p.mode≤3
 rotate_left
 ·simp -dsimp[dX,Pk.cs,c1,c2];try refine⟨?_,⟨by kernel_rfl⟩⟩
  refine Fin.of ?_;simp[Pk.ok,c1,c2]
 simp -dsimp[dX,Pk.cs,c1,c2];refine ah.of (ac0 p.bF 7) [] 0 ?_;cases d0:wS p.bF 7
 ·simp -dsimp[dX,Pk.cs,c1,c2,d0];try refine⟨?_,⟨by kernel_rfl⟩⟩
  refine Fin.of ?_;simp[Pk.ok,c1,c2,d0]
 simp -dsimp[dX,Pk.cs,c1,c2,d0];refine ah.of (ac0 p.set 31) [] 0 ?_;cases d1:wS p.set 31
 ·simp -dsimp[dX,Pk.cs,c1,c2,d0,d1];try refine⟨?_,⟨by kernel_rfl⟩⟩
  refine Fin.of ?_;simp[Pk.ok,c1,c2,d0,d1]
 simp -dsimp[dX,Pk.cs,c1,c2,d0,d1];refine ah.of (adT p.bits p.len) [] 0 ?_;cases d2:nG p.bits p.len
 ·simp -dsimp[dX,Pk.cs,c1,c2,d0,d1,d2];try refine⟨?_,⟨by kernel_rfl⟩⟩
  refine Fin.of ?_;simp[Pk.ok,c1,c2,d0,d1,d2]
 simp -dsimp[dX,Pk.cs,c1,c2,d0,d1,d2];refine ah.of (ac0 p.ttl 63) [] 0 ?_;cases d3:wS p.ttl 63
 ·simp -dsimp[dX,Pk.cs,c1,c2,d0,d1,d2,d3];try refine⟨?_,⟨by kernel_rfl⟩⟩
  refine Fin.of ?_;simp[Pk.ok,c1,c2,d0,d1,d2,d3]
 simp -dsimp[dX,Pk.cs,c1,c2,d0,d1,d2,d3];refine ah.of (ac0 p.ent 1023) [] 0 ?_;cases d4:wS p.ent 1023
 ·simp -dsimp[dX,Pk.cs,c1,c2,d0,d1,d2,d3,d4];try refine⟨?_,⟨by kernel_rfl⟩⟩
  refine Fin.of ?_;simp[Pk.ok,c1,c2,d0,d1,d2,d3,d4]
 simp -dsimp[dX,Pk.cs,c1,c2,d0,d1,d2,d3,d4];refine ah.of (ac0 p.ing 256) [] 0 ?_;cases d5:wS p.ing 256
 ·simp -dsimp[dX,Pk.cs,c1,c2,d0,d1,d2,d3,d4,d5];try refine⟨?_,⟨by kernel_rfl⟩⟩
  refine Fin.of ?_;simp[Pk.ok,c1,c2,d0,d1,d2,d3,d4,d5]
 simp -dsimp[dX,Pk.cs,c1,c2,d0,d1,d2,d3,d4,d5];refine ah.of (ac0 p.proto 7) [] 0 ?_;cases d6:wS p.proto 7
 ·simp -dsimp[dX,Pk.cs,c1,c2,d0,d1,d2,d3,d4,d5,d6];try refine⟨?_,⟨by kernel_rfl⟩⟩
  refine Fin.of ?_;simp[Pk.ok,c1,c2,d0,d1,d2,d3,d4,d5,d6]
 simp -dsimp[dX,Pk.cs,c1,c2,d0,d1,d2,d3,d4,d5,d6];try refine⟨?_,⟨by kernel_rfl⟩⟩
 refine Fin.of ?_;simp[Pk.ok,c1,c2,d0,d1,d2,d3,d4,d5,d6];omega
structure Rt where
 id:Int
 cap:Bool
def Rt.cs(x:Rt):List D:=[.int .i64 x.id,.bool x.cap]
def rts(l:List Rt):List (List D):=l.map Rt.cs
@[simp]theorem anN(l:List Rt):(rts l).length=l.length:=by simp[rts]
def cu(k:Nat):List Rt:=(List.range k).map fun (i:Nat)=>⟨(i:Int)+1,true⟩
@[simp]theorem EY(k:Nat):(cu k).length=k:=by simp[cu]
def dI(cost tree:Int)(skip:Bool)(b a:Int)(T:Tp)(l:List Lk):List Lk×Tp:=
 let c:=if decide (a=tree) && !skip then(true,T)else dD T 3
 if c.1 then
  let x:=aT c.2 1 cost
  let y:=aT x.2 1 cost
  let z:=au y.2 4
  (l++[⟨a,b,x.1,y.1,z.1⟩],z.2)
 else(l,c.2)
def dV(cost tree:Int)(skip:Bool)(b:Int):Nat→Int→Tp→List Lk→List Lk×Tp
 | 0,_,T,l=>(l,T)
 | n+1,a,T,l=>dV cost tree skip b n (a+1) (dI cost tree skip b a T l).2 (dI cost tree skip b a T l).1
def gW(cost b:Int)(T:Tp)(l:List Lk):List Lk×Tp:=
 let t:=aT T 1 (b-1)
 let s:=dD t.2 9
 dV cost t.1 s.1 b (b-1).toNat 1 s.2 l
def dS(cost:Int):Nat→Int→Tp→List Lk→List Lk×Tp
 | 0,_,T,l=>(l,T)
 | n+1,b,T,l=>dS cost n (b+1) (gW cost b T l).2 (gW cost b T l).1
structure ay where
 rs:List Rt
 ls:List Lk
def aH(g:ay):TV:=.agg [.d (.sl (rts g.rs)),.d (.sl (dO g.ls))]
def dG(T:Tp)(most:Int):ay×Tp:=
 let R:=aT T 1 most
 let C:=aK R.2 [1,2,2,5]
 let X:=dS C.1 (R.1+1-2).toNat 2 C.2 []
 (⟨cu R.1.toNat,jO X.1 []⟩,X.2)
theorem dA{T:Tp}{l:List Int}{p:Int→Prop}(h0:0<l.length)(h:∀x∈l,p x):p (aK T l).1:=by
 unfold aK;have h1:=aC T l.length;have h2:=bg T (n:=l.length) (by omega);have h3:(au T l.length).1.toNat<l.length:=by omega
 rw[List.getD_eq_getElem?_getD,List.getElem?_eq_getElem h3];exact h _ (List.getElem_mem _)
theorem aeW(cost tree:Int)(skip:Bool)(b a:Int)(T:Tp)(l:List Lk):ak (dI cost tree skip b a T l).2=ak T:=by
 unfold dI;simp only;split<;>split<;>simp
theorem zN(cost tree:Int)(skip:Bool)(b a:Int)(T:Tp)(l:List Lk):(dI cost tree skip b a T l).1.length≤l.length+1:=by
 unfold dI;simp only;split<;>split<;>simp
structure Ed where
 r:Int
 id:Int
def Ed.cs(x:Ed):List D:=[.int .i64 x.r,.int .i64 x.id]
def rJ(l:List Ed):List (List D):=l.map Ed.cs
structure Pn where
 bF:Int
 len:Int
 es:List Ed
def bI(p:Pn):TV:=.agg [.d (.int .i64 p.bF),.d (.int .i64 p.len),.d (.sl (rJ p.es))]
@[simp]theorem alj(l:List Ed):(rJ l).length=l.length:=by simp[rJ]
theorem mP{l:List Ed}{i:Nat}{x:Ed}(h:l[i]? = some x):(rJ l)[i]? = some x.cs:=by simp[rJ,h]
theorem aes{l:List Ed}{i:Nat}{x:Ed}(h:l[i]? = some x)(hi:i<(rJ l).length):(rJ l)[i]=x.cs:=by
 have:=mP h;rw[List.getElem?_eq_getElem hi]at this
 simpa using this
theorem fF{l:List Rt}{i:Nat}{x:Rt}(h:l[i]? = some x):(rts l)[i]? = some x.cs:=by simp[rts,h]
theorem RJ:∀(n i:Nat) (T:Tp) (l:List Int),ak (kY n i T l).2=ak T
 | 0,_,_,_=>rfl
 | n+1,i,T,l=>by rw[kY,RJ];simp
@[simp]theorem Vp(T:Tp)(n:Int):ak (bT T n).2=ak T:=RJ _ _ _ _
theorem Px:∀(n i:Nat) (T:Tp) (l:List Int),(∀x∈l,0≤x∧x<(i:Int))→∀x∈(kY n i T l).1,0≤x∧x<((i+n:Nat):Int)
 | 0,_,_,_,h=>h
 | n+1,i,T,l,h=>fun x hx=>by
   have:=Px n (i+1) _ _ (fun y hy=>?_) x hx
   ·omega
   ·simp only[List.mem_append,List.mem_singleton]at hy;rcases hy with (hy|hy)|hy
    ·have:=h y (List.mem_of_mem_take hy);omega
    ·omega
    ·have:=h y (List.mem_of_mem_drop hy);omega
theorem Pv:∀(n i:Nat) (T:Tp) (l:List Int),(kY n i T l).1.length=l.length+n
 | 0,_,_,_=>rfl
 | n+1,i,T,l=>by
   rw[kY,Pv n];simp;omega
theorem lZ(T:Tp)(n:Nat):∀x∈(bT T n).1,0≤x∧x<(n:Int):=fun x hx=>by
 have:=Px n 0 T [] (by simp) x (by simpa[bT]using hx);omega
theorem iK(T:Tp)(n:Nat):(bT T n).1.length=n:=by simp[bT,Pv]
def inB(n lo hi:Int):Bool:=decide (lo≤n)&&decide (n≤hi)
theorem oK(n lo hi:Int):Contract Tryz.prog 168 [.d (.int .i64 n),.d (.int .i64 lo),.d (.int .i64 hi)] [] (.d (.bool (inB n lo hi))) [] []:=by
 refine aj Tryz.func168 rfl (fun E0=>?_);refine cO.sound (g:=.mk) (ow:=[]) (kp:=(fun k=>k==0||k==1||k==2||k==6)) ?_;rw[Tryz.ntmps168];by_cases h:lo≤n
 ·simp -dsimp[h];refine Fin.of ?_;simp[inB,h]
 ·simp -dsimp[h];refine Fin.of ?_;simp[inB,h]
theorem aat(n lo hi:Int):Contract Tryz.prog 208 [.d (.int .i64 n),.d (.int .i64 lo),.d (.int .i64 hi)] [] (.d (.bool (inB n lo hi))) [] []:=by
 refine aj Tryz.func208 rfl (fun E0=>?_);refine cO.sound (g:=.mk) (ow:=[]) (kp:=(fun k=>k==0||k==1||k==2||k==6)) ?_;rw[Tryz.ntmps208];by_cases h:lo≤n
 ·simp -dsimp[h];refine Fin.of ?_;simp[inB,h]
 ·simp -dsimp[h];refine Fin.of ?_;simp[inB,h]
open Classical in
noncomputable def UY(l:List Int):Bool:=decide (∃i j,j<i∧i<l.length∧l.getD i 0=l.getD j 0)
theorem VT{l:List Int}{i j:Nat}(h1:j<i)(h2:i<l.length)(h3:l.getD i 0=l.getD j 0):UY l=true:=by
 simp only[UY,decide_eq_true_eq];exact⟨i,j,h1,h2,h3⟩
theorem TW{l:List Int}(h:∀i j,j<i→i<l.length→l.getD i 0≠l.getD j 0):UY l=false:=by
 simp only[UY,decide_eq_false_iff_not];rintro⟨i,j,h1,h2,h3⟩;exact h i j h1 h2 h3
theorem JE(l:List Int)(hl:l.length≤100000):Contract Tryz.prog 186 [.d (ints l)] [] (.d (.bool (UY l))) [] []:=by
 refine aj Tryz.func186 rfl (fun E0=>?_);refine cO.sound (g:=.mk) (ow:=[]) (kp:=(fun k=>k==0||k==2||k==3||k==4||k==8||k==13||k==24)) ?_;rw[Tryz.ntmps186];simp -dsimp
 refine aN.of [] (fun k=>k==0||k==2||k==3||k==4||k==8||k==13||k==24) (ι:={i:Nat // i≤l.length∧∀a b,b<a→a<i→l.getD a 0≠l.getD b 0}) (fun z=>[(Pl.s 0,It.v (.d (ints l))),(Pl.s 3,It.v (.d (.int .i64 z.1)))]) (fun z=>l.length-z.1) ⟨0,by omega,fun a b _ h=>by omega⟩ ?_ ?_
 ·exact GS.to (by simp)
 ·rintro⟨i,i1,i2⟩;by_cases hi:i<l.length
  ·simp -dsimp[ints,hi];refine aN.of [] (fun k=>k==0||k==2||k==3||k==4||k==8||k==13||k==24) (ι:={j:Nat // j≤i∧∀b,b<j→l.getD i 0≠l.getD b 0}) (fun z=>[(Pl.s 0,It.v (.d (ints l))),(Pl.s 3,It.v (.d (.int .i64 i))),(Pl.s 4,It.v (.d (.int .i64 z.1)))]) (fun z=>i-z.1) ⟨0,by omega,fun b h=>by omega⟩ ?_ ?_
   ·exact GS.to (by simp[ints])
   ·rintro⟨j,j1,j2⟩;by_cases hj:j<i
    ·have hj2:j<l.length:=by omega
     have gi:l.getD i 0=l[i]:=by simp[List.getD,hi]
     have gj:l.getD j 0=l[j]:=by simp[List.getD,hj2]
     simp -dsimp[ints,hi,hj,hj2];refine⟨qM.dec (fun h=>?_) (fun h=>?_),⟨by kernel_rfl⟩⟩
     ·simp -dsimp;refine Fin.of ?_;simp;exact VT hj hi (by rw[gi,gj,h])
     ·simp -dsimp[wrap_i64 (n:=(j:Int)+1) (by omega) (by omega)];exact⟨⟨j+1,by omega,fun b hb=>by
       by_cases e:b=j
       ·subst e;rw[gi,gj];exact h
       ·exact j2 b (by omega)⟩,GS.to (by simp[ints]),by simp;omega⟩
    ·simp -dsimp[ints,hi,hj,wrap_i64 (n:=(i:Int)+1) (by omega) (by omega)];exact⟨⟨i+1,by omega,fun a b h1 h2=>by
      by_cases e:a=i
      ·subst e;exact j2 b (by omega)
      ·exact i2 a b h1 (by omega)⟩,GS.to (by simp[ints]),by simp;omega⟩
  ·simp -dsimp[ints,hi];refine Fin.of ?_;simp;exact TW fun a b h1 h2=>i2 a b h1 (by omega)
def gid(es:List Ed)(i:Nat):Int:=(es.getD i ⟨0,0⟩).id
def KA(es:List Ed)(i:Nat):Int:=(es.getD i ⟨0,0⟩).r
def yD(p:Pn):Bool:=inB p.bF 0 7&&((aG p.len||(decide (p.len=0)&&decide (p.es.length=0)))&&decide (p.es.length≤24))
def LD(es:List Ed)(i:Nat):Bool:=inB (gid es i) 1 256&&(inB (KA es i) 1 99&&(decide (i=0)||decide (gid es (i-1)<gid es i)))
open Classical in
noncomputable def d_(p:Pn):Bool:=decide (yD p=true∧(∀i,i<p.es.length→LD p.es i=true)∧∀i j,j<i→i<p.es.length→KA p.es i≠KA p.es j)
theorem GL{p:Pn}(h:yD p=false):d_ p=false:=by
 simp only[d_,decide_eq_false_iff_not];rintro⟨h1,_⟩;rw[h]at h1;simp at h1
theorem TP{p:Pn}{i:Nat}(hi:i<p.es.length)(h:LD p.es i=false):d_ p=false:=by
 simp only[d_,decide_eq_false_iff_not];rintro⟨_,h1,_⟩;have:=h1 i hi;rw[h]at this;simp at this
theorem afF{p:Pn}{i j:Nat}(hj:j<i)(hi:i<p.es.length)(h:KA p.es i=KA p.es j):d_ p=false:=by
 simp only[d_,decide_eq_false_iff_not];rintro⟨_,_,h1⟩;exact h1 i j hj hi h
theorem AL{p:Pn}(h:yD p=true)(h1:∀i,i<p.es.length→LD p.es i=true)(h2:∀i j,j<i→i<p.es.length→KA p.es i≠KA p.es j):d_ p=true:=by
 simp only[d_,decide_eq_true_eq];exact⟨h,h1,h2⟩
theorem VO{p:Pn}(h:yD p=true)(h1:∀i,i<p.es.length→LD p.es i=true):d_ p = !(UY (p.es.map (·.r))):=by
 have hg:∀i,i<p.es.length→(p.es.map (·.r)).getD i 0=KA p.es i:=fun i hi=>by simp[KA,List.getD,hi]
 by_cases h2:∀i j,j<i→i<p.es.length→KA p.es i≠KA p.es j
 ·rw[AL h h1 h2,TW fun i j hj hi=>by simp at hi;rw[hg i hi,hg j (by omega)];exact h2 i j hj hi];rfl
 ·have:∃i j,j<i∧i<p.es.length∧KA p.es i=KA p.es j:=Classical.byContradiction fun hc=>h2 fun i j hj hi he=>hc ⟨i,j,hj,hi,he⟩
  obtain⟨i,j,hj,hi,he⟩:=this;rw[afF hj hi he,VT (l:=p.es.map (·.r)) hj (by simpa using hi) (by rw[hg i hi,hg j (by omega)];exact he)];rfl
theorem uQ(p:Pn)(hp:p.es.length≤1000):Contract Tryz.prog 124 [bI p] [] (.d (.bool (d_ p))) [] []:=by
 refine aj Tryz.func124 rfl (fun E0=>?_);refine cO.sound (g:=.mk) (ow:=[]) (kp:=(fun k=>k==0||k==1||k==2||k==3||k==4||k==5||k==32||k==37||k==70)) ?_;rw[Tryz.ntmps124];simp -dsimp[bI];refine ah.of (oK p.bF 0 7) [] 0 ?_;rcases (Bool.eq_false_or_eq_true (inB p.bF 0 7)).symm with a1|a1
 ·simp -dsimp[a1];refine Fin.of ?_;simp;exact GL (by simp[yD,a1])
 ·simp -dsimp[a1];refine ah.of (nM p.len) [] 0 ?_;rcases (Bool.eq_false_or_eq_true (aG p.len)).symm with a2|a2
  ·by_cases a3:p.len=0
   ·by_cases a4:p.es.length=0
    ·have hb:yD p=true:=by simp[yD,a1,a2,a3,a4,show aG 0=false from rfl]
     simp -dsimp[a1,a2,a3,a4,show aG 0=false from rfl];refine aN.of [] (fun k=>k==0||k==1||k==2||k==3||k==4||k==5||k==32||k==37||k==70) (ι:={i:Nat // i≤p.es.length∧∀a,a<i→LD p.es a=true})
      (fun z=>[(Pl.s 0,It.v (.agg [TV.d (.int .i64 p.bF),TV.d (.int .i64 p.len),TV.d (.sl (rJ p.es))])),(Pl.o 1,It.box [TV.d (.int .i64 p.bF),TV.d (.int .i64 p.len),TV.d (.sl (rJ p.es))]),
       (Pl.s 1,It.v (.ptr (Pl.o 1) 0)),(Pl.s 2,It.v (.d (.bool false))),(Pl.s 3,It.v (.aB 3 z.1)),(Pl.o 3,.row 3 1 (dd ((p.es.take z.1).map fun e=>[.int .i64 e.r])) false),(Pl.s 4,It.v (.d (.int .i64 z.1)))])
      (fun z=>p.es.length-z.1) ⟨0,by omega,fun a h=>by omega⟩ ?_ ?_
     ·exact GS.own' (k:=3) 3 1 (by simp) (by simp) (by simp[a1,a2,a3,a4,show aG 0=false from rfl])
     ·rintro⟨i,i1,i2⟩;have hi :¬i<p.es.length:=by omega
      obtain rfl:i=p.es.length:=by omega
      simp -dsimp[hi];refine ah.of (JE (p.es.map (·.r)) (by simp;omega)) [] 0 ?_;simp -dsimp[ints,List.map_map,Function.comp_def];refine Fin.of ?_;simp[VO hb i2]
    ·have a5:0<p.es.length:=by omega
     simp -dsimp[a1,a2,a3,a4,a5,show aG 0=false from rfl];refine Fin.of ?_;simp;exact GL (by simp[yD,a1,a2,a3,a4,show aG 0=false from rfl])
   ·simp -dsimp[a1,a2,a3];refine Fin.of ?_;simp;exact GL (by simp[yD,a1,a2,a3])
  ·by_cases a6:p.es.length≤24
   ·have a7 :¬(24:Int)<p.es.length:=by omega
    have hb:yD p=true:=by simp[yD,a1,a2,a6]
    simp -dsimp[a1,a2,a7];refine aN.of [] (fun k=>k==0||k==1||k==2||k==3||k==4||k==5||k==32||k==37||k==70) (ι:={i:Nat // i≤p.es.length∧∀a,a<i→LD p.es a=true})
     (fun z=>[(Pl.s 0,It.v (.agg [TV.d (.int .i64 p.bF),TV.d (.int .i64 p.len),TV.d (.sl (rJ p.es))])),(Pl.o 1,It.box [TV.d (.int .i64 p.bF),TV.d (.int .i64 p.len),TV.d (.sl (rJ p.es))]),
      (Pl.s 1,It.v (.ptr (Pl.o 1) 0)),(Pl.s 2,It.v (.d (.bool false))),(Pl.s 3,It.v (.aB 3 z.1)),(Pl.o 3,.row 3 1 (dd ((p.es.take z.1).map fun e=>[.int .i64 e.r])) false),(Pl.s 4,It.v (.d (.int .i64 z.1)))])
     (fun z=>p.es.length-z.1) ⟨0,by omega,fun a h=>by omega⟩ ?_ ?_
    ·exact GS.own' (k:=3) 3 1 (by simp) (by simp) (by simp[a1,a2])
    ·rintro⟨i,i1,i2⟩;by_cases hi:i<p.es.length
     ·obtain⟨x,hx⟩:∃x,p.es[i]? = some x:=⟨p.es[i],List.getElem?_eq_getElem hi⟩
      have gx:gid p.es i=x.id∧KA p.es i=x.r:=by simp[gid,KA,List.getD,hx]
      simp -dsimp[hi,aes hx,Ed.cs];refine ah.of (oK x.id 1 256) [] 0 ?_;rcases (Bool.eq_false_or_eq_true (inB x.id 1 256)).symm with b1|b1
      ·simp -dsimp[b1];refine⟨?_,⟨by kernel_rfl⟩⟩;refine Fin.of ?_;simp;exact TP hi (by simp[LD,gx,b1])
      ·simp -dsimp[b1];refine ah.of (oK x.r 1 99) [] 0 ?_;rcases (Bool.eq_false_or_eq_true (inB x.r 1 99)).symm with b2|b2
       ·simp -dsimp[b1,b2];refine⟨?_,⟨by kernel_rfl⟩⟩;refine Fin.of ?_;simp;exact TP hi (by simp[LD,gx,b1,b2])
       ·by_cases b3:0<i
        ·obtain⟨y,hy⟩:∃y,p.es[i-1]? = some y:=⟨p.es[i-1],List.getElem?_eq_getElem (by omega)⟩
         have gy:gid p.es (i-1)=y.id:=by simp[gid,List.getD,hy]
         have b5:(1:Int)≤i:=by omega
         have b6:(i:Int)-1<p.es.length:=by omega
         have b7:i≠0:=by omega
         by_cases b4:x.id≤y.id
         ·simp -dsimp[b1,b2,b3,b4,b5,b6,mP hy,Ed.cs,wrap_i64 (n:=(i:Int)-1) (by omega) (by omega)];refine⟨?_,⟨by kernel_rfl⟩⟩;refine Fin.of ?_;simp;exact TP hi (by simp[LD,gx,gy,b1,b2,b7]<;>omega)
         ·simp -dsimp[b1,b2,b3,b4,b5,b6,mP hy,Ed.cs,wrap_i64 (n:=(i:Int)-1) (by omega) (by omega),wrap_i64 (n:=(i:Int)+1) (by omega) (by omega)];and_intros;all_goals try first|omega|exact⟨by kernel_rfl⟩
          exact⟨⟨i+1,by omega,fun a ha=>by
           by_cases e:a=i
           ·subst e;simp[LD,gx,gy,b1,b2]<;>omega
           ·exact i2 a (by omega)⟩,GS.to (by simp[List.take_add_one,hx]),by simp;omega⟩
        ·obtain rfl:i=0:=by omega
         simp -dsimp[b1,b2,wrap_i64 (n:=1) (by omega) (by omega)];and_intros;all_goals try first|omega|exact⟨by kernel_rfl⟩
         exact⟨⟨1,by omega,fun a ha=>by
          obtain rfl:a=0:=by omega
          simp[LD,gx,b1,b2]⟩,GS.to (by simp[List.take_add_one,hx]),by simp;omega⟩
     ·obtain rfl:i=p.es.length:=by omega
      simp -dsimp[hi];refine ah.of (JE (p.es.map (·.r)) (by simp;omega)) [] 0 ?_;simp -dsimp[ints,List.map_map,Function.comp_def];refine Fin.of ?_;simp[VO hb i2]
   ·have a7:(24:Int)<p.es.length:=by omega
    simp -dsimp[a1,a2,a7];refine Fin.of ?_;simp;exact GL (by simp[yD,a1,a2,a6])
def fJ(id len:Int):Int:=if aG len&&inB id 1 256 then(id-1)/len else 0
def gG(id len:Int):Int:=if aG len&&inB id 1 256 then(id-1)%len else 0
theorem plB(id len:Int):0≤fJ id len∧fJ id len≤255∧0≤gG id len∧gG id len<64:=by
 unfold fJ gG;split
 ·rename_i h;simp[aG,inB]at h
  obtain⟨((h|h)|h)|h,h1,h2⟩:=h<;>subst h<;>omega
 ·omega
def eH(id len:Int):TV:=.rG [.d (.int .i64 (fJ id len)),.d (.int .i64 (gG id len)),.d (.bool (aG len&&inB id 1 256))]
theorem kU(id len:Int):Contract Tryz.prog 87 [.d (.int .i64 id),.d (.int .i64 len)] [] (eH id len) [] []:=by
 refine aj Tryz.func87 rfl (fun E0=>?_);refine cO.sound (g:=.mk) (ow:=[]) (kp:=(fun k=>k==0||k==1||k==4||k==5||k==6||k==14)) ?_;rw[Tryz.ntmps87];simp -dsimp;refine ah.of (nM len) [] 0 ?_;rcases (Bool.eq_false_or_eq_true (aG len)).symm with a1|a1
 ·simp -dsimp[a1];refine Fin.of ?_;simp[eH,fJ,gG,a1]
 ·have hl:len=8∨len=16∨len=32∨len=64:=by simp[aG]at a1;omega
  simp -dsimp[a1];refine ah.of (oK id 1 256) [] 0 ?_;rcases (Bool.eq_false_or_eq_true (inB id 1 256)).symm with a2|a2
  ·simp -dsimp[a1,a2];refine Fin.of ?_;simp[eH,fJ,gG,a1,a2]
  ·have hi:1≤id∧id≤256:=by simpa[inB]using a2
   have e1:(id-1).tdiv len=(id-1)/len:=Int.tdiv_eq_ediv_of_nonneg (by omega);have e2:(id-1).tmod len=(id-1)%len:=Int.tmod_eq_emod_of_nonneg (by omega);have d1:0≤(id-1)/len∧(id-1)/len≤255:=by rcases hl with rfl|rfl|rfl|rfl<;>omega
   simp -dsimp[a1,a2,e1,e2,wrap_i64 (n:=id-1) (by omega) (by omega),wrap_i64 (n:=(id-1)/len) (by omega) (by omega)];refine⟨by omega,?_,⟨by kernel_rfl⟩⟩;refine Fin.of ?_;simp[eH,fJ,gG,a1,a2]
theorem aaS(id len:Int):Contract Tryz.prog 217 [.d (.int .i64 id),.d (.int .i64 len)] [] (eH id len) [] []:=by
 refine aj Tryz.func217 rfl (fun E0=>?_);refine cO.sound (g:=.mk) (ow:=[]) (kp:=(fun k=>k==0||k==1||k==4||k==5||k==6||k==14)) ?_;rw[Tryz.ntmps217];simp -dsimp;refine ah.of (qH len) [] 0 ?_;rcases (Bool.eq_false_or_eq_true (aG len)).symm with a1|a1
 ·simp -dsimp[a1];refine Fin.of ?_;simp[eH,fJ,gG,a1]
 ·have hl:len=8∨len=16∨len=32∨len=64:=by simp[aG]at a1;omega
  simp -dsimp[a1];refine ah.of (aat id 1 256) [] 0 ?_;rcases (Bool.eq_false_or_eq_true (inB id 1 256)).symm with a2|a2
  ·simp -dsimp[a1,a2];refine Fin.of ?_;simp[eH,fJ,gG,a1,a2]
  ·have hi:1≤id∧id≤256:=by simpa[inB]using a2
   have e1:(id-1).tdiv len=(id-1)/len:=Int.tdiv_eq_ediv_of_nonneg (by omega);have e2:(id-1).tmod len=(id-1)%len:=Int.tmod_eq_emod_of_nonneg (by omega);have d1:0≤(id-1)/len∧(id-1)/len≤255:=by rcases hl with rfl|rfl|rfl|rfl<;>omega
   simp -dsimp[a1,a2,e1,e2,wrap_i64 (n:=id-1) (by omega) (by omega),wrap_i64 (n:=(id-1)/len) (by omega) (by omega)];refine⟨by omega,?_,⟨by kernel_rfl⟩⟩;refine Fin.of ?_;simp[eH,fJ,gG,a1,a2]
structure Sb where
 set:Int
 bits:BitVec 64
def Sb.cs(x:Sb):List D:=[.int .i64 x.set,bv x.bits]
def abN(l:List Int):List (List D):=l.map fun n=>[.int .i64 n]
@[simp]theorem ah8(l:List Int):(abN l).length=l.length:=by simp[abN]
def MI{α:Type}(q:α→Bool)(l:List α):Int:=match l.findIdx? q with|some i=>i|none=>-1
theorem D6{α:Type}(q:α→Bool)(l:List α):decide (0≤MI q l)=l.any q:=by
 unfold MI;cases h:l.findIdx? q with
 | none=>
   have:=List.findIdx?_eq_none_iff.1 h;simp;intro x hx;exact this x hx
 | some i=>
   have:=List.findIdx?_eq_some_iff_getElem.1 h;obtain⟨hi,h1,_⟩:=this;simp;exact⟨_,List.getElem_mem hi,h1⟩
theorem Iq{α:Type}{q:α→Bool}{l:List α}{i:Nat}{x:α}(hx:l[i]? = some x)(hq:q x=true)(h:∀a,a<i→∀y,l[a]? = some y→q y=false):MI q l=i:=by
 unfold MI;obtain⟨hi,rfl⟩:=List.getElem?_eq_some_iff.1 hx;have:l.findIdx? q=some i:=by
  rw[List.findIdx?_eq_some_iff_getElem];exact⟨hi,hq,fun j hj=>by have:=h j hj _ (List.getElem?_eq_getElem (by omega));simp[this]⟩
 rw[this]
theorem Ir{α:Type}{q:α→Bool}{l:List α}(h:∀a,a<l.length→∀y,l[a]? = some y→q y=false):MI q l = -1:=by
 unfold MI;have:l.findIdx? q=none:=by
  rw[List.findIdx?_eq_none_iff];intro x hx;obtain⟨i,hi⟩:=List.getElem?_of_mem hx;exact h i (List.getElem?_eq_some_iff.1 hi).1 x hi
 rw[this]
def Pk.with(q:Pk)(p:Pn)(s:Sb):Pk:=⟨q.mode,p.bF,s.set,p.len,q.ttl,q.ent,q.ing,q.proto,s.bits,q.pay⟩
def e0:ByteArray:=⟨#[]⟩
theorem Yt(cost tree:Int)(skip:Bool)(b:Int):∀(n:Nat) (a:Int) (T:Tp) (l:List Lk),ak (dV cost tree skip b n a T l).2=ak T
 | 0,_,_,_=>rfl
 | n+1,a,T,l=>by rw[dV,Yt cost tree skip b n,aeW]
theorem Yu(cost:Int):∀(n:Nat) (b:Int) (T:Tp) (l:List Lk),ak (dS cost n b T l).2=ak T
 | 0,_,_,_=>rfl
 | n+1,b,T,l=>by
   rw[dS,Yu cost n];simp only[gW];rw[Yt];simp
@[simp]theorem anI(T:Tp)(most:Int):ak (dG T most).2=ak T:=by
 simp only[dG];rw[Yu];simp
@[simp]theorem aeX(T:Tp):ak (iY T).2=ak T:=by simp[iY]
@[simp]theorem anH(T:Tp):ak (Bg T).2=ak T:=by simp[Bg]
@[simp]theorem RN(T:Tp)(n:Int):ak (bY T n).2=ak T:=by
 unfold bY;split
 ·split
  ·unfold yP;simp only
   repeat' split
   all_goals simp
  ·simp
 ·simp
theorem wz(n lo hi:Int):Contract Tryz.prog 206 [.d (.int .i64 n),.d (.int .i64 lo),.d (.int .i64 hi)] [] (.d (.bool (inB n lo hi))) [] []:=by
 refine aj Tryz.func206 rfl (fun E0=>?_);refine cO.sound (g:=.mk) (ow:=[]) (kp:=(fun k=>k==0||k==1||k==2||k==6)) ?_;rw[Tryz.ntmps206];by_cases h:lo≤n
 ·simp -dsimp[h];refine Fin.of ?_;simp[inB,h]
 ·simp -dsimp[h];refine Fin.of ?_;simp[inB,h]
theorem Iu(n lo hi:Int):Contract Tryz.prog 229 [.d (.int .i64 n),.d (.int .i64 lo),.d (.int .i64 hi)] [] (.d (.bool (inB n lo hi))) [] []:=by
 refine aj Tryz.func229 rfl (fun E0=>?_);refine cO.sound (g:=.mk) (ow:=[]) (kp:=(fun k=>k==0||k==1||k==2||k==6)) ?_;rw[Tryz.ntmps229];by_cases h:lo≤n
 ·simp -dsimp[h];refine Fin.of ?_;simp[inB,h]
 ·simp -dsimp[h];refine Fin.of ?_;simp[inB,h]
def Ej(set bit len:Int):Bool:=aG len&&(inB bit 0 (len-1)&&(inB set 0 31&&decide (set*len+bit+1≤256)))
def zD(set bit len:Int):TV:=.rG [.d (.int .i64 (if Ej set bit len then set*len+bit+1 else 0)),.d (.bool (Ej set bit len))]
def mF(l:List Int)(n:Int):Bool:=decide (n∈l)
theorem RS(l:List Int)(hl:l.length≤9223372036854775807)(n:Int):Contract Tryz.prog 93 [.d (ints l),.d (.int .i64 n)] [] (.d (.bool (mF l n))) [] []:=by
 refine aj Tryz.func93 rfl (fun E0=>?_);refine cO.sound (g:=.mk) (ow:=[]) (kp:=(fun k=>k==0||k==1||k==4||k==5||k==9||k==17)) ?_;rw[Tryz.ntmps93];simp -dsimp[ints]
 refine aN.of [] (fun k=>k==0||k==1||k==4||k==5||k==9||k==17) (ι:={i:Nat // i≤l.length∧∀a,a<i→∀x,l[a]? = some x→x≠n}) (fun z=>[(Pl.s 0,It.v (.d (ints l))),(Pl.s 1,It.v (.d (.int .i64 n))),(Pl.s 4,It.v (.d (.bool false))),(Pl.s 5,It.v (.d (.int .i64 z.1)))]) (fun z=>l.length-z.1) ⟨0,by omega,fun a h=>by omega⟩ ?_ ?_
 ·exact GS.to (by simp[ints])
 ·rintro⟨i,i1,i2⟩;by_cases hi:i<l.length
  ·by_cases h:l[i]=n
   ·simp -dsimp[ints,hi,h];try refine⟨?_,⟨by kernel_rfl⟩⟩
    refine Fin.of ?_;have:mF l n=true:=by simp only[mF,decide_eq_true_eq];rw[←h];exact List.getElem_mem hi
    simp[this]
   ·simp -dsimp[ints,hi,h,wrap_i64 (n:=(i:Int)+1) (by omega) (by omega)];try refine⟨?_,⟨by kernel_rfl⟩⟩
    exact⟨⟨i+1,by omega,fun a ha x hx=>by
     by_cases e:a=i
     ·subst e;rw[List.getElem?_eq_getElem hi]at hx;simp only[Option.some.injEq]at hx;rw[←hx];exact h
     ·exact i2 a (by omega) x hx⟩,GS.to (by simp[ints]),by simp;omega⟩
  ·simp -dsimp[ints,hi];refine Fin.of ?_;have:mF l n=false:=by
    simp only[mF,decide_eq_false_iff_not];intro hm;obtain⟨a,ha⟩:=List.getElem?_of_mem hm;exact i2 a (by have:=(List.getElem?_eq_some_iff.1 ha).1;omega) n ha rfl
   simp[this]
theorem Qm(l:List Int)(hl:l.length≤1000000)(n:Int):Contract Tryz.prog 93 [.d (ints l),.d (.int .i64 n)] [] (.d (.bool (mF l n))) [] []:=RS l (Nat.le_trans hl (by decide)) n
theorem yU(a b:List Int)(hl:a.length≤1000000):Contract Tryz.prog 20 [.d (ints a),.d (ints b)] [] (.d (.bool (decide (a=b)))) [] []:=by
 refine aj Tryz.func20 rfl (fun E0=>?_);refine cO.sound (g:=.mk) (ow:=[]) (kp:=(fun k=>k==0||k==1||k==4||k==5||k==10||k==14||k==25)) ?_;rw[Tryz.ntmps20];by_cases hlen:a.length=b.length
 ·simp -dsimp[ints,hlen];refine aN.of [] (fun k=>k==0||k==1||k==4||k==5||k==10||k==14||k==25) (ι:={i:Nat // i≤a.length∧∀j,j<i→a[j]? = b[j]? }) (fun z=>[(Pl.s 0,It.v (.d (ints a))),(Pl.s 1,It.v (.d (ints b))),(Pl.s 4,It.v (.d (.bool false))),(Pl.s 5,It.v (.d (.int .i64 z.1)))]) (fun z=>a.length-z.1) ⟨0,by omega,fun j h=>by omega⟩ ?_ ?_
  ·exact GS.to (by simp[ints])
  ·rintro⟨i,i1,i2⟩;by_cases hi:i<a.length
   ·have hi':i<b.length:=by omega
    by_cases h:a[i]=b[i]
    ·simp -dsimp[ints,hi,hi',h,wrap_i64 (n:=(i:Int)+1) (by omega) (by omega)];try refine⟨?_,⟨by kernel_rfl⟩⟩
     exact⟨⟨i+1,by omega,fun j hj=>by
      by_cases e:j=i
      ·subst e;rw[List.getElem?_eq_getElem hi,List.getElem?_eq_getElem hi',h]
      ·exact i2 j (by omega)⟩,GS.to (by simp[ints]),by simp;omega⟩
    ·simp -dsimp[ints,hi,hi',h];try refine⟨?_,⟨by kernel_rfl⟩⟩
     refine Fin.of ?_;have:a≠b:=fun e=>by subst e;exact h rfl
     simp[this]
   ·simp -dsimp[ints,hi];refine Fin.of ?_;have:a=b:=List.ext_getElem? fun j=>by
     by_cases hj:j<i
     ·exact i2 j hj
     ·rw[List.getElem?_eq_none (by omega),List.getElem?_eq_none (by omega)]
    simp[this]
 ·have hlen' :¬(a.length:Int)=b.length:=by omega
  simp -dsimp[ints,hlen,hlen'];refine Fin.of ?_;have:a≠b:=fun e=>hlen (by rw[e])
  simp[this]
theorem aaA(l:List Int)(hl:l.length≤1000000)(n:Int):Contract Tryz.prog 221 [.d (ints l),.d (.int .i64 n)] [] (.d (ints (E8 l n))) [] []:=by
 refine aj Tryz.func221 rfl (fun E0=>?_);refine cO.sound (g:=.mk) (ow:=[]) (kp:=(fun k=>k==0||k==1||k==4||k==5||k==6||k==18||k==32)) ?_;rw[Tryz.ntmps221];simp -dsimp[ints]
 refine aN.of [] (fun k=>k==0||k==1||k==4||k==5||k==6||k==18||k==32) (ι:={p:Nat // p≤l.length∧insPos n l=p+insPos n (l.drop p)}) (fun z=>[(Pl.s 0,It.v (.d (ints l))),(Pl.s 1,It.v (.d (.int .i64 n))),(Pl.s 4,It.v (.c (Value.slice none 0 0))),(Pl.s 5,It.v (.d (.int .i64 z.1)))]) (fun z=>l.length-z.1) ⟨0,by omega,by simp⟩ ?_ ?_
 ·exact GS.to (by simp[ints])
 ·rintro⟨p,p1,p2⟩;by_cases hp:p<l.length
  ·have hd:l.drop p=l[p]::l.drop (p+1):=List.drop_eq_getElem_cons _;by_cases h:l[p]<n
   ·simp -dsimp[ints,hp,h,wrap_i64 (n:=(p:Int)+1) (by omega) (by omega)];try refine⟨?_,⟨by kernel_rfl⟩⟩
    exact⟨⟨p+1,by omega,by rw[p2,hd,insPos,if_pos h];omega⟩,GS.to (by simp[ints]),by simp;omega⟩
   ·have hq:insPos n l=p:=by rw[p2,hd,insPos,if_neg h];omega
    by_cases he:l[p]=n
    ·simp -dsimp[ints,hp,h,he];try refine⟨?_,⟨by kernel_rfl⟩⟩
     refine Fin.of ?_;have hI:E8 l n=l:=by rw[E8,if_pos (by rw[hq,List.getElem?_eq_getElem hp,he])]
     simp[hI]
    ·simp -dsimp[ints,hp,h,he];have dl:dLen 1 (l.map fun x=>[D.int .i64 x]):=iF 1 _ _ fun _=>rfl
     and_intros;all_goals try first|omega|exact⟨by kernel_rfl⟩|exact kJ dl|exact ni (kJ dl)|(simp;omega)
     refine Fin.view 4 ?_;simp -dsimp;and_intros;all_goals try first|omega|exact⟨by kernel_rfl⟩|(simp;omega)
     refine Fin.of ?_;have hI:E8 l n=l.take p++[n]++l.drop p:=by rw[E8,hq,if_neg (by rw[List.getElem?_eq_getElem hp];simpa using he)]
     simp[hI,ints,List.take_of_length_le]
  ·have hq:insPos n l=p:=by rw[p2,List.drop_eq_nil_of_le (by omega),insPos];omega
   simp -dsimp[ints,hp];have dl:dLen 1 (l.map fun x=>[D.int .i64 x]):=iF 1 _ _ fun _=>rfl
   and_intros;all_goals try first|omega|exact⟨by kernel_rfl⟩|exact kJ dl|exact ni (kJ dl)|(simp;omega)
   refine Fin.view 4 ?_;simp -dsimp;and_intros;all_goals try first|omega|exact⟨by kernel_rfl⟩|(simp;omega)
   refine Fin.of ?_;have hI:E8 l n=l.take p++[n]++l.drop p:=by rw[E8,hq,if_neg (by rw[List.getElem?_eq_none (by omega)];simp)]
   simp[hI,ints,List.take_of_length_le]
def aas(v:Int)(l:List Int):Int:=match l.findIdx? (fun x=>decide (x=v))with|some i=>i|none=>-1
theorem ahf{v:Int}{l:List Int}{i:Nat}(hx:l[i]? = some v)(h:∀a,a<i→∀y,l[a]? = some y→y≠v):aas v l=i:=by
 unfold aas;obtain⟨hi,hv⟩:=List.getElem?_eq_some_iff.1 hx;have:l.findIdx? (fun x=>decide (x=v))=some i:=by
  rw[List.findIdx?_eq_some_iff_getElem];exact⟨hi,by simp[hv],fun j hj=>by have:=h j hj _ (List.getElem?_eq_getElem (by omega));simpa using this⟩
 rw[this]
theorem ahg{v:Int}{l:List Int}(h:∀a,a<l.length→∀y,l[a]? = some y→y≠v):aas v l = -1:=by
 unfold aas;have:l.findIdx? (fun x=>decide (x=v))=none:=by
  rw[List.findIdx?_eq_none_iff];intro x hx;obtain⟨i,hi⟩:=List.getElem?_of_mem hx;simpa using h i (List.getElem?_eq_some_iff.1 hi).1 x hi
 rw[this]
theorem afb(v:Int)(l:List Int):decide (0≤aas v l)=mF l v:=by
 unfold aas mF;cases h:l.findIdx? (fun x=>decide (x=v))with
 | none=>
   have:=List.findIdx?_eq_none_iff.1 h;simp;intro hm;simpa using this v hm
 | some i=>
   obtain⟨hi,h1,_⟩:=List.findIdx?_eq_some_iff_getElem.1 h;simp at h1;simp;rw[←h1];exact List.getElem_mem hi
theorem afe(l:List Int)(hl:l.length≤9223372036854775807)(v:Int):Contract Tryz.prog 215 [.d (ints l),.d (.int .i64 v)] [] (.d (.int .i64 (aas v l))) [] []:=by
 refine aj Tryz.func215 rfl (fun E0=>?_);refine cO.sound (g:=.mk) (ow:=[]) (kp:=(fun k=>k==0||k==1||k==4||k==5||k==7||k==8||k==9||k==16)) ?_;rw[Tryz.ntmps215];simp -dsimp[ints]
 refine aN.of [] (fun k=>k==0||k==1||k==4||k==5||k==7||k==8||k==9||k==16) (ι:={i:Nat // i≤l.length∧∀a,a<i→∀x,l[a]? = some x→x≠v}) (fun z=>[(Pl.s 0,It.v (.d (ints l))),(Pl.s 1,It.v (.d (.int .i64 v))),(Pl.s 4,It.v (.d (.int .i64 0))),(Pl.s 7,It.v (.d (.int .i64 l.length))),(Pl.s 8,It.v (.d (.int .i64 z.1)))]) (fun z=>l.length-z.1) ⟨0,by omega,fun a h=>by omega⟩ ?_ ?_
 ·exact GS.to (by simp[ints])
 ·rintro⟨i,i1,i2⟩;by_cases hi:i<l.length
  ·by_cases h:l[i]=v
   ·have h':v=l[i]:=h.symm;simp -dsimp[ints,hi,h,wrap_i64 (n:=(i:Int)+1) (by omega) (by omega)];try refine⟨?_,⟨by kernel_rfl⟩⟩
    refine Fin.of ?_;simp[ahf (v:=v) (l:=l) (i:=i) (by rw[List.getElem?_eq_getElem hi,h]) i2]
   ·have h' :¬v=l[i]:=fun e=>h e.symm
    simp -dsimp[ints,hi,h,h',wrap_i64 (n:=(i:Int)+1) (by omega) (by omega)];try refine⟨?_,⟨by kernel_rfl⟩⟩
    exact⟨⟨i+1,by omega,fun a ha x hx=>by
     by_cases e:a=i
     ·subst e;rw[List.getElem?_eq_getElem hi]at hx;simp only[Option.some.injEq]at hx;rw[←hx];exact h
     ·exact i2 a (by omega) x hx⟩,GS.to (by simp[ints]),by simp;omega⟩
  ·simp -dsimp[ints,hi];refine Fin.of ?_;simp[ahg (v:=v) (l:=l) fun a ha=>i2 a (by omega)]
theorem Ph(l:List Int)(hl:l.length≤9223372036854775807)(v:Int):Contract Tryz.prog 139 [.d (ints l),.d (.int .i64 v)] [] (.d (.bool (mF l v))) [] []:=by
 refine aj Tryz.func139 rfl (fun E0=>?_);refine cO.sound (g:=.mk) (ow:=[]) (kp:=(fun k=>k==0||k==1||k==4)) ?_;rw[Tryz.ntmps139];simp -dsimp;refine ah.of (afe l hl v) [] 0 ?_;simp -dsimp;refine Fin.of ?_;simp[afb]
theorem contains_c(l:List Int)(hl:l.length≤1000000)(v:Int):Contract Tryz.prog 139 [.d (ints l),.d (.int .i64 v)] [] (.d (.bool (mF l v))) [] []:=Ph l (Nat.le_trans hl (by decide)) v
end Go.Proofs
