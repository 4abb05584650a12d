/-
  What functions of the program compute, stated as contracts over plain data; the conditions of each stand in its own statement.
-/
import Derived.Test.YtboimfkommpglaaGreatDoorZA12
set_option linter.unusedSimpArgs false
namespace Go.Proofs
open Go Go.Tr
def kE(T:Tp)(k:Int):BitVec 64×Tp:=
 let r1:=Et T
 let r2:=Et r1.2
 let s:=au r2.2 6
 if s.1=0 then(0#64,s.2)
 else if s.1=1 then(lS (au s.2 k).1&&&tN k,(au s.2 k).2)
 else if s.1=2 then(~~~ 0#64&&&tN k,s.2)
 else((wu (tn (wu r1.1)*11400714819323198485) ^^^ wu r2.1)&&&tN k,s.2)
theorem zF(T:Tp)(hT:ak T)(k:Int)(hk:I64 k):Contract Tryz.prog 89 [.ptr (.x 0) 0,.d (.int .i64 k)] [aJ T] (.d (bv (kE T k).1)) [aJ (kE T k).2] []:=by
 refine aj Tryz.func89 rfl (fun E0=>?_);refine cO.sound (g:=.mk) (ow:=[]) (kp:=(fun k=>k==0||k==1||k==4||k==5||k==15||k==16||k==18||k==24)) ?_;rw[Tryz.ntmps89];simp -dsimp;refine ah.of (afK T hT) [.x 0] 0 ?_;simp -dsimp[xQ];refine ah.of (afK (Et T).2 (by simpa using hT)) [.x 0] 0 ?_;simp -dsimp[xQ]
 refine ah.of (bn (Et (Et T).2).2 (by simpa using hT) 6 ⟨by omega,by omega⟩) [.x 0] 0 ?_;simp -dsimp[xQ];refine qM.dec (fun h0=>?_) (fun h0=>?_)
 ·simp -dsimp[xQ];refine ah.of (RF k) [] 0 ?_;simp -dsimp[xQ,bv];refine Fin.of ?_;simp[kE,h0,bv]
 ·simp -dsimp[h0];refine qM.dec (fun h1=>?_) (fun h1=>?_)
  ·simp -dsimp[xQ];refine ah.of (bn (au (Et (Et T).2).2 6).2 (by simpa using hT) k hk) [.x 0] 0 ?_;simp -dsimp;refine ah.of (uD (au (au (Et (Et T).2).2 6).2 k).1) [] 0 ?_;simp -dsimp;refine ah.of (RF k) [] 0 ?_;simp -dsimp[xQ,bv];refine Fin.of ?_;simp[kE,h0,h1,bv]
  ·simp -dsimp[h1];refine qM.dec (fun h2=>?_) (fun h2=>?_)
   ·simp -dsimp;refine ah.of (RF k) [] 0 ?_;simp -dsimp[xQ,bv];refine Fin.of ?_;simp[kE,h0,h1,h2,bv];try rfl
   ·simp -dsimp;refine ah.of (RF k) [] 0 ?_;simp -dsimp[xQ,bv];refine Fin.of ?_;simp[kE,h0,h1,h2,bv]
def kY:Nat→Nat→Tp→List Int→List Int×Tp
 | 0,_,T,out=>(out,T)
 | n+1,i,T,out=>kY n (i+1) (au T (i+1)).2 (out.take (au T (i+1)).1.toNat++[(i:Int)]++out.drop (au T (i+1)).1.toNat)
def bT(T:Tp)(n:Int):List Int×Tp:=kY n.toNat 0 T []
theorem D9(T:Tp)(hT:ak T)(n:Int)(hn:n≤1000):Contract Tryz.prog 85 [.ptr (.x 0) 0,.d (.int .i64 n)] [aJ T] (.d (ints (bT T n).1)) [aJ (bT T n).2] []:=by
 refine aj Tryz.func85 rfl (fun E0=>?_);refine cO.sound (g:=.mk) (ow:=[]) (kp:=(fun k=>k==0||k==1||k==4||k==5||k==6||k==7||k==8||k==11)) ?_;rw[Tryz.ntmps85];simp -dsimp
 refine aN.of [] (fun k=>k==0||k==1||k==4||k==5||k==6||k==7||k==8||k==11) (ι:={i:Nat×Tp×List Int // ak i.2.1∧i.2.2.length=i.1∧(i.1:Int)≤max n 0∧bT T n=kY (n.toNat-i.1) i.1 i.2.1 i.2.2}) (fun i=>[(Pl.s 0,It.v (.ptr (Pl.x 0) 0)),(Pl.s 1,It.v (.d (.int .i64 n))),(Pl.x 0,aJ i.1.2.1),
    (Pl.s 4,It.v (.c (Value.slice none 0 0))),(Pl.s 5,It.v (.d (ints i.1.2.2))),
    (Pl.s 6,It.v (.d (.int .i64 i.1.1)))]) (fun i=>n.toNat-i.1.1) ⟨(0,T,[]),hT,rfl,by simp;omega,rfl⟩ ?_ ?_
 ·exact GS.J9 5 (by simp[ints])
 ·rintro⟨⟨i,T',out⟩,h1,h2,h3,h4⟩;simp only at h1 h2 h3 h4;simp -dsimp[ints];refine qM.dec (fun h=>?_) (fun h=>?_)
  ·simp -dsimp[wrap_i64 (n:=(i:Int)+1) (by omega) (by omega)];refine ah.of (bn T' h1 (i+1) ⟨by omega,by omega⟩) [.x 0] 0 ?_;have g1:=aC T' (i+1);have g2:=bg T' (n:=i+1) (by omega);simp -dsimp[wrap_i64 (n:=(i:Int)+1) (by omega) (by omega)];have dl:dLen 1 (out.map fun x=>[D.int .i64 x]):=iF 1 _ _ fun _=>rfl
   and_intros;all_goals try first|omega|exact kJ dl|exact ni (kJ dl)|(simp;omega)
   refine⟨⟨(i+1,(au T' (i+1)).2,out.take (au T' (i+1)).1.toNat++[(i:Int)]++out.drop (au T' (i+1)).1.toNat),by simpa using h1,by simp;omega,by simp;omega,?_⟩,GS.J9 5 ?_,by simp;omega⟩
   ·rw[h4,show n.toNat-i=n.toNat-(i+1)+1 by omega];rfl
   ·simp[ints];exact⟨by omega,by rw[List.take_of_length_le (by simp)]⟩
  ·simp -dsimp;refine Fin.view 4 ?_;simp -dsimp;refine Fin.of ?_;have:n.toNat-i=0:=by omega
   simp[h4,this,kY,ints]
structure Pk where
 mode:Int
 bF:Int
 set:Int
 len:Int
 ttl:Int
 ent:Int
 ing:Int
 proto:Int
 bits:BitVec 64
 pay:ByteArray
def Pk.cs(p:Pk):List D:=[.int .i64 p.mode,.int .i64 p.bF,.int .i64 p.set,.int .i64 p.len,.int .i64 p.ttl,.int .i64 p.ent,.int .i64 p.ing,.int .i64 p.proto,bv p.bits,.str p.pay]
def Bg(T:Tp):Pk×Tp:=
 let L:=aK T [8,8,16,32,64]
 let m:=aT L.2 1 3
 let d:=aT m.2 0 7
 let s:=aK d.2 [0,0,1,2,31]
 let t:=aK s.2 [0,1,2,5,63]
 let e:=au t.2 1024
 let i:=aK e.2 [0,1,8,255,256]
 let p:=au i.2 8
 let b:=kE p.2 L.1
 let y:=G_ b.2 6
 (⟨m.1,d.1,s.1,L.1,t.1,e.1,i.1,p.1,b.1,strOf y.1⟩,y.2)
theorem acV(T:Tp)(l:List Int)(h:∀x∈l,I64 x):I64 (aK T l).1:=by
 unfold aK;rw[List.getD_eq_getElem?_getD];cases hl:l[(au T l.length).1.toNat]? with
 | none=>simp[I64]
 | some x=>exact h x (List.mem_of_getElem? hl)
theorem Vq:∀(n:Nat) (T:Tp),ak (CU n T).2=ak T
 | 0,T=>rfl
 | n+1,T=>by simp[CU,Vq n]
@[simp]theorem akB(T:Tp)(k:Int):ak (G_ T k).2=ak T:=by simp[G_,Vq]
@[simp]theorem akA(T:Tp)(k:Int):ak (kE T k).2=ak T:=by
 simp only[kE];split
 ·simp
 ·split
  ·simp
  ·split<;>simp
theorem RQ:∀(n:Nat) (T:Tp),(CU n T).1.length=n
 | 0,T=>rfl
 | n+1,T=>by simp[CU,RQ n]
theorem abb(l:List Int):(strOf l).size=l.length:=by
 have:∀(l:List Int) (r:ByteArray),(l.foldl (fun r n=>r.push (UInt8.ofNat n.toNat)) r).size=r.size+l.length:=by
  intro l
  induction l with
  | nil=>intro r;simp
  | cons x l ih=>intro r;simp[ih];omega
 simpa[strOf]using this l ByteArray.empty
theorem xR(T:Tp){k:Int}(hk:0≤k):(strOf (G_ T k).1).size≤k.toNat:=by
 have:=aQ T (a:=0) (b:=k) hk;rw[abb,G_,RQ];omega
def abc:ByteArray:=⟨#[97,98,99]⟩
def grow:Nat→ByteArray→ByteArray
 | 0,s=>s
 | n+1,s=>if s.size<62 then grow n (s++abc)else s
def yP(T:Tp)(p:Pk):Pk×Tp:=
 let s:=au T 9
 if s.1=0 then(⟨(iY s.2).1,p.bF,p.set,p.len,p.ttl,p.ent,p.ing,p.proto,p.bits,p.pay⟩,(iY s.2).2)
 else if s.1=1 then(⟨p.mode,(iY s.2).1,p.set,p.len,p.ttl,p.ent,p.ing,p.proto,p.bits,p.pay⟩,(iY s.2).2)
 else if s.1=2 then(⟨p.mode,p.bF,(iY s.2).1,p.len,p.ttl,p.ent,p.ing,p.proto,p.bits,p.pay⟩,(iY s.2).2)
 else if s.1=3 then(⟨p.mode,p.bF,p.set,(aK s.2 [0,8,16,24,63,64,65,-8]).1,p.ttl,p.ent,p.ing,p.proto,p.bits,p.pay⟩,(aK s.2 [0,8,16,24,63,64,65,-8]).2)
 else if s.1=4 then(⟨p.mode,p.bF,p.set,p.len,(iY s.2).1,p.ent,p.ing,p.proto,p.bits,p.pay⟩,(iY s.2).2)
 else if s.1=5 then(⟨p.mode,p.bF,p.set,p.len,p.ttl,(iY s.2).1,p.ing,p.proto,p.bits,p.pay⟩,(iY s.2).2)
 else if s.1=6 then(⟨p.mode,p.bF,p.set,p.len,p.ttl,p.ent,(iY s.2).1,p.proto,p.bits,p.pay⟩,(iY s.2).2)
 else if s.1=7 then(⟨p.mode,p.bF,p.set,p.len,p.ttl,p.ent,p.ing,(iY s.2).1,p.bits,p.pay⟩,(iY s.2).2)
 else(⟨p.mode,p.bF,p.set,p.len,p.ttl,p.ent,p.ing,p.proto,p.bits,grow 62 p.pay++strOf (G_ s.2 4).1⟩,(G_ s.2 4).2)
def bY(T:Tp)(n:Int):Pk×Tp:=
 if 0<n then
  if(dD (Bg T).2 n).1 then yP (dD (Bg T).2 n).2 (Bg T).1 else((Bg T).1,(dD (Bg T).2 n).2)
 else Bg T
def dX(p:Pk):TV:=.agg (p.cs.map .d)
set_option maxHeartbeats 2000000 in
theorem wC(T:Tp)(hT:ak T)(n:Int)(hn:I64 n):Contract Tryz.prog 40 [.ptr (.x 0) 0,.d (.int .i64 n)] [aJ T] (dX (bY T n).1) [aJ (bY T n).2] []:=by
 refine aj Tryz.func40 rfl (fun E0=>?_);refine cO.sound (g:=.mk) (ow:=[]) (kp:=(fun k=>k==0||k==1||k==4||k==5||k==6||k==39||k==41||k==45||k==56||k==61||k==66||k==71||k==77||k==82||k==87||k==92)) ?_;rw[Tryz.ntmps40];simp -dsimp;refine ah.of (C9 T hT) [.x 0] 0 ?_;simp -dsimp;generalize hL:aK T [8,8,16,32,64]=L;have kL:ak L.2:=by rw[←hL];simpa using hT
 have iL:I64 L.1:=by rw[←hL];exact acV _ _ (by simp[I64])
 have b1:=aS L.2 1 3;have b2:=aQ L.2 (a:=1) (b:=3) (by omega);refine ah.of (dw L.2 kL 1 3 ⟨by omega,by omega⟩ ⟨by omega,by omega⟩ ⟨by omega,by omega⟩ ⟨by omega,by omega⟩) [.x 0] 0 ?_;simp -dsimp;generalize hm:aT L.2 1 3=m at b1 b2⊢;have km:ak m.2:=by rw[←hm];simpa using kL
 have b3:=aS m.2 0 7;have b4:=aQ m.2 (a:=0) (b:=7) (by omega);refine ah.of (dw m.2 km 0 7 ⟨by omega,by omega⟩ ⟨by omega,by omega⟩ ⟨by omega,by omega⟩ ⟨by omega,by omega⟩) [.x 0] 0 ?_;simp -dsimp;generalize hd:aT m.2 0 7=d at b3 b4⊢;have kd:ak d.2:=by rw[←hd];simpa using km
 refine ah.of (fE d.2 kd [0,0,1,2,31] (by simp) (by simp)) [.x 0] 0 ?_;simp -dsimp[ints];generalize hs:aK d.2 [0,0,1,2,31]=s;have ks:ak s.2:=by rw[←hs];simpa using kd
 refine ah.of (fE s.2 ks [0,1,2,5,63] (by simp) (by simp)) [.x 0] 0 ?_;simp -dsimp[ints];generalize ht:aK s.2 [0,1,2,5,63]=t;have kt:ak t.2:=by rw[←ht];simpa using ks
 refine ah.of (bn t.2 kt 1024 ⟨by omega,by omega⟩) [.x 0] 0 ?_;simp -dsimp;generalize he:au t.2 1024=e;have ke:ak e.2:=by rw[←he];simpa using kt
 refine ah.of (fE e.2 ke [0,1,8,255,256] (by simp) (by simp)) [.x 0] 0 ?_;simp -dsimp[ints];generalize hi:aK e.2 [0,1,8,255,256]=i;have ki:ak i.2:=by rw[←hi];simpa using ke
 refine ah.of (bn i.2 ki 8 ⟨by omega,by omega⟩) [.x 0] 0 ?_;simp -dsimp;generalize hp:au i.2 8=p;have kp:ak p.2:=by rw[←hp];simpa using ki
 refine ah.of (zF p.2 kp L.1 iL) [.x 0] 0 ?_;simp -dsimp;generalize hb:kE p.2 L.1=b;have kb:ak b.2:=by rw[←hb];simpa using kp
 refine ah.of (agf b.2 kb 6 (by omega)) [.x 0] 0 ?_;simp -dsimp;generalize hy:G_ b.2 6=y;have ky:ak y.2:=by rw[←hy];simpa using kb
 have g0:Bg T=(⟨m.1,d.1,s.1,L.1,t.1,e.1,i.1,p.1,b.1,strOf y.1⟩,y.2):=by
  simp only[Bg,hL,hm,hd,hs,ht,he,hi,hp,hb,hy]
 by_cases hn0:0<n
 ·simp -dsimp[hn0];refine ah.of (gK y.2 ky n hn ⟨by omega,by have:=hn.2;omega⟩) [.x 0] 0 ?_;simp -dsimp[hn0];generalize ho:dD y.2 n=o;have ko:ak o.2:=by rw[←ho];simpa using ky
  cases ho1:o.1
  ·simp -dsimp[ho1];refine Fin.of ?_;simp[bY,hn0,g0,ho,ho1,dX,Pk.cs]
  ·simp -dsimp[ho1];refine ah.of (bn o.2 ko 9 ⟨by omega,by omega⟩) [.x 0] 0 ?_;simp -dsimp;generalize hq:au o.2 9=q;have kq:ak q.2:=by rw[←hq];simpa using ko
   refine qM.dec (fun c0=>?_) (fun c0=>?_)
   ·simp -dsimp;refine ah.of (qI q.2 kq) [.x 0] 0 ?_;simp -dsimp[ints];refine Fin.of ?_;simp[bY,hn0,g0,ho,ho1,yP,hq,dX,Pk.cs,c0]
   ·simp -dsimp[c0];refine qM.dec (fun c1=>?_) (fun c1=>?_)
    ·simp -dsimp;refine ah.of (qI q.2 kq) [.x 0] 0 ?_;simp -dsimp[ints];refine Fin.of ?_;simp[bY,hn0,g0,ho,ho1,yP,hq,dX,Pk.cs,c0,c1]
    ·simp -dsimp[c1];refine qM.dec (fun c2=>?_) (fun c2=>?_)
     ·simp -dsimp;refine ah.of (qI q.2 kq) [.x 0] 0 ?_;simp -dsimp[ints];refine Fin.of ?_;simp[bY,hn0,g0,ho,ho1,yP,hq,dX,Pk.cs,c0,c1,c2]
     ·simp -dsimp[c2];refine qM.dec (fun c3=>?_) (fun c3=>?_)
      ·simp -dsimp;refine ah.of (fE q.2 kq [0,8,16,24,63,64,65,-8] (by simp) (by simp)) [.x 0] 0 ?_;simp -dsimp[ints];refine Fin.of ?_;simp[bY,hn0,g0,ho,ho1,yP,hq,dX,Pk.cs,c0,c1,c2,c3]
      ·simp -dsimp[c3];refine qM.dec (fun c4=>?_) (fun c4=>?_)
       ·simp -dsimp;refine ah.of (qI q.2 kq) [.x 0] 0 ?_;simp -dsimp[ints];refine Fin.of ?_;simp[bY,hn0,g0,ho,ho1,yP,hq,dX,Pk.cs,c0,c1,c2,c3,c4]
       ·simp -dsimp[c4];refine qM.dec (fun c5=>?_) (fun c5=>?_)
        ·simp -dsimp;refine ah.of (qI q.2 kq) [.x 0] 0 ?_;simp -dsimp[ints];refine Fin.of ?_;simp[bY,hn0,g0,ho,ho1,yP,hq,dX,Pk.cs,c0,c1,c2,c3,c4,c5]
        ·simp -dsimp[c5];refine qM.dec (fun c6=>?_) (fun c6=>?_)
         ·simp -dsimp;refine ah.of (qI q.2 kq) [.x 0] 0 ?_;simp -dsimp[ints];refine Fin.of ?_;simp[bY,hn0,g0,ho,ho1,yP,hq,dX,Pk.cs,c0,c1,c2,c3,c4,c5,c6]
         ·simp -dsimp[c6];refine qM.dec (fun c7=>?_) (fun c7=>?_)
          ·simp -dsimp;refine ah.of (qI q.2 kq) [.x 0] 0 ?_;simp -dsimp[ints];refine Fin.of ?_;simp[bY,hn0,g0,ho,ho1,yP,hq,dX,Pk.cs,c0,c1,c2,c3,c4,c5,c6,c7]
          ·simp -dsimp[c7];refine aN.of [] (fun k=>k==0||k==1||k==4||k==5||k==6||k==39||k==41||k==45||k==56||k==61||k==66||k==71||k==77||k==82||k==87||k==92) (ι:={z:Nat×ByteArray // z.2.size≤100∧62-z.2.size≤z.1∧grow 62 (strOf y.1)=grow z.1 z.2}) (fun z=>[(Pl.s 0,It.v (.ptr (Pl.x 0) 0)),(Pl.s 1,It.v (.d (.int .i64 n))),
             (Pl.x 0,aJ q.2),(Pl.o 6,It.box [TV.d (.int .i64 m.1),TV.d (.int .i64 d.1),TV.d (.int .i64 s.1),
              TV.d (.int .i64 L.1),TV.d (.int .i64 t.1),TV.d (.int .i64 e.1),TV.d (.int .i64 i.1),TV.d (.int .i64 p.1),TV.d (bv b.1),TV.d (.str z.1.2)]),
             (Pl.s 6,It.v (.ptr (Pl.o 6) 0)),(Pl.s 4,It.v (.ptr (Pl.o 4) 0)),(Pl.o 4,It.box [TV.d (.int .i64 0),TV.d (.int .i64 0),TV.d (.int .i64 0),
              TV.d (.int .i64 0),TV.d (.int .i64 0),TV.d (.int .i64 0),TV.d (.int .i64 0),TV.d (.int .i64 0),TV.d (.int IntKind.u64 0),TV.d (.str ⟨#[]⟩)])]) (fun z=>z.1.1) ⟨(62,strOf y.1),by have:=xR b.2 (k:=6) (by omega);rw[hy]at this;simp at *;omega,by simp,rfl⟩ ?_ ?_
           ·exact GS.to (by simp)
           ·rintro⟨⟨z,w⟩,z1,z2,z3⟩;simp only at z1 z2 z3;simp -dsimp;refine qM.dec (fun h=>?_) (fun h=>?_)
            ·obtain⟨z,rfl⟩:∃x,z=x+1:=⟨z-1,by omega⟩
             have hs3:(w++abc).size=w.size+3:=ByteArray.size_append;simp -dsimp;refine⟨show w.size+3≤_ by omega,⟨(z,w++abc),by simp only[hs3];omega,by simp only[hs3];omega,?_⟩,GS.to (by simp[abc]),by simp⟩;rw[z3,grow,if_pos (by omega)]
            ·have hg:grow 62 (strOf y.1)=w:=by
              rw[z3];cases z with
              | zero=>rfl
              | succ z=>rw[grow,if_neg (by omega)]
             simp -dsimp;refine ah.of (agf q.2 kq 4 (by omega)) [.x 0] 0 ?_;have hsz:=xR q.2 (k:=4) (by omega);simp -dsimp;refine⟨by simp at *;omega,?_,⟨by kernel_rfl⟩⟩;refine Fin.of ?_;simp[bY,hn0,g0,ho,ho1,yP,hq,dX,Pk.cs,c0,c1,c2,c3,c4,c5,c6,c7,hg]
 ·simp -dsimp[hn0];refine Fin.of ?_;simp[bY,hn0,g0,dX,Pk.cs]
theorem new_c(l:List Int):Contract Tryz.prog 15 [.d (ints l)] [] (.ptr (.o 10) 0) [] [(10,aJ (l.take 600,0))]:=by
 refine aj Tryz.func15 rfl (fun E0=>?_);refine cO.sound (g:=.mk) (ow:=[]) (kp:=(fun k=>k==0||k==2||k==5)) ?_;rw[Tryz.ntmps15];simp -dsimp[ints];refine qM.dec (fun h=>?_) (fun h=>?_)
 ·simp -dsimp;refine⟨by omega,?_⟩;refine Fin.of ?_;simp[aJ,ints]
 ·simp -dsimp;refine Fin.of ?_;simp[aJ,ints,List.take_of_length_le (show l.length≤600 by omega)]
set_option maxRecDepth 100000
structure Lk where
 a:Int
 b:Int
 ca:Int
 cb:Int
 cap:Int
def Lk.cs(x:Lk):List D:=[.int .i64 x.a,.int .i64 x.b,.int .i64 x.ca,.int .i64 x.cb,.int .i64 x.cap]
def dO(l:List Lk):List (List D):=l.map Lk.cs
def Lk.before(y x:Lk):Bool:=decide (y.a<x.a)||(decide (y.a=x.a)&&decide (y.b<x.b))
def bU(x:Lk):List Lk→Nat
 | []=>0
 | y::r=>if y.before x then bU x r+1 else 0
def jO:List Lk→List Lk→List Lk
 | [],out=>out
 | x::l,out=>jO l (out.take (bU x out)++[x]++out.drop (bU x out))
@[simp]theorem anK(l:List Lk):(dO l).length=l.length:=by simp[dO]
theorem o8{l:List Lk}{i:Nat}{x:Lk}(h:l[i]? = some x):(dO l)[i]? = some x.cs:=by simp[dO,h]
theorem MQ{l:List Lk}{i:Nat}{x:Lk}(h:l[i]? = some x)(hi:i<(dO l).length):(dO l)[i]=x.cs:=by
 have:=o8 h;rw[List.getElem?_eq_getElem hi]at this
 simpa using this
theorem jo(l:List Lk):dLen 5 (dO l):=iF 5 _ _ fun _=>rfl
theorem Tn(l:List Lk)(hl:l.length≤1000):Contract Tryz.prog 76 [.d (.sl (dO l))] [] (.d (.sl (dO (jO l [])))) [] []:=by
 refine aj Tryz.func76 rfl (fun E0=>?_);refine cO.sound (g:=.mk) (ow:=[]) (kp:=(fun k=>k==0||k==2||k==3||k==4||k==5||k==6||k==10||k==55)) ?_;rw[Tryz.ntmps76];simp -dsimp;refine aN.of [] (fun k=>k==0||k==2||k==3||k==4||k==5||k==6||k==10||k==55) (ι:={i:Nat×List Lk // i.1≤l.length∧i.2.length=i.1∧jO l []=jO (l.drop i.1) i.2}) (fun i=>[(Pl.s 0,It.v (.d (.sl (dO l)))),
    (Pl.s 2,It.v (.c (Value.slice none 0 0))),(Pl.s 3,It.v (.d (.sl (dO i.1.2)))),
    (Pl.s 4,It.v (.d (.int .i64 i.1.1)))]) (fun i=>l.length-i.1.1) ⟨(0,[]),by simp,rfl,rfl⟩ ?_ ?_
 ·exact GS.J9 3 (by simp[dO])
 ·rintro⟨⟨i,out⟩,h1,h2,h3⟩;simp only at h1 h2 h3;simp -dsimp;refine qM.dec (fun h=>?_) (fun h=>?_)
  ·have hi:i<l.length:=by simpa using h
   obtain⟨x,hx⟩:∃x,l[i]? = some x:=⟨l[i],List.getElem?_eq_getElem hi⟩
   have hx':=MQ hx;have hdl:l.drop i=x::l.drop (i+1):=by rw[List.getElem?_eq_some_iff]at hx;obtain⟨_,rfl⟩:=hx;exact List.drop_eq_getElem_cons _
   simp -dsimp;refine aN.of [] (fun k=>k==0||k==2||k==3||k==4||k==5||k==6||k==10||k==55) (ι:={p:Nat // p≤out.length∧bU x out=p+bU x (out.drop p)}) (fun p=>[(Pl.s 0,It.v (.d (.sl (dO l)))),
    (Pl.s 2,It.v (.c (Value.slice none 0 0))),(Pl.s 3,It.v (.d (.sl (dO out)))),(Pl.s 4,It.v (.d (.int .i64 i))),(Pl.s 5,It.v (.d (.int .i64 p.1)))]) (fun p=>out.length-p.1) ⟨0,by omega,by simp⟩ ?_ ?_
   ·exact GS.to (by simp)
   ·rintro⟨p,p1,p2⟩;by_cases hp:p<out.length
    ·obtain⟨y,hy⟩:∃y,out[p]? = some y:=⟨out[p],List.getElem?_eq_getElem hp⟩
     have hy':=MQ hy;have hd:out.drop p=y::out.drop (p+1):=by rw[List.getElem?_eq_some_iff]at hy;obtain⟨_,rfl⟩:=hy;exact List.drop_eq_getElem_cons _
     by_cases c1:y.a<x.a
     ·simp -dsimp[hp,hi,hy',hx',Lk.cs,c1,wrap_i64 (n:=(p:Int)+1) (by omega) (by omega)];refine⟨⟨⟨p+1,by omega,?_⟩,GS.to (by simp),by simp;omega⟩,⟨by kernel_rfl⟩⟩;rw[p2,hd,bU,if_pos (by simp[Lk.before,c1])];omega
     ·by_cases c2:y.a=x.a
      ·by_cases c3:y.b<x.b
       ·simp -dsimp[hp,hi,hy',hx',Lk.cs,c1,c2,c3,wrap_i64 (n:=(p:Int)+1) (by omega) (by omega)];refine⟨⟨⟨p+1,by omega,?_⟩,GS.to (by simp),by simp;omega⟩,⟨by kernel_rfl⟩⟩;rw[p2,hd,bU,if_pos (by simp[Lk.before,c2,c3])];omega
       ·have hq:bU x out=p:=by rw[p2,hd,bU,if_neg (by simp[Lk.before,c2,c3])];omega
        simp -dsimp[hp,hi,hy',c1,c2,c3,hx',Lk.cs,wrap_i64 (n:=(i:Int)+1) (by omega) (by omega)];and_intros;all_goals try first|omega|exact⟨by kernel_rfl⟩|exact jo out|exact kJ (jo out)|exact ni (jo out)|exact ni (kJ (jo out))|(simp;omega)
        refine⟨⟨(i+1,out.take p++[x]++out.drop p),by omega,by simp;omega,?_⟩,GS.J9 3 ?_,by simp;omega⟩
        ·rw[h3,hdl,jO,hq]
        ·simp;refine⟨by omega,?_⟩;simp[dO,Lk.cs,List.take_of_length_le]
      ·have hq:bU x out=p:=by rw[p2,hd,bU,if_neg (by simp[Lk.before,c1,c2])];omega
       simp -dsimp[hp,hi,hy',c1,c2,hx',Lk.cs,wrap_i64 (n:=(i:Int)+1) (by omega) (by omega)];and_intros;all_goals try first|omega|exact⟨by kernel_rfl⟩|exact jo out|exact kJ (jo out)|exact ni (jo out)|exact ni (kJ (jo out))|(simp;omega)
       refine⟨⟨(i+1,out.take p++[x]++out.drop p),by omega,by simp;omega,?_⟩,GS.J9 3 ?_,by simp;omega⟩
       ·rw[h3,hdl,jO,hq]
       ·simp;refine⟨by omega,?_⟩;simp[dO,Lk.cs,List.take_of_length_le]
    ·have hq:bU x out=p:=by rw[p2,List.drop_eq_nil_of_le (by omega),bU];omega
     simp -dsimp[hp,hi,hx',Lk.cs,wrap_i64 (n:=(i:Int)+1) (by omega) (by omega)];and_intros;all_goals try first|omega|exact⟨by kernel_rfl⟩|exact jo out|exact kJ (jo out)|exact ni (jo out)|exact ni (kJ (jo out))|(simp;omega)
     refine⟨⟨(i+1,out.take p++[x]++out.drop p),by omega,by simp;omega,?_⟩,GS.J9 3 ?_,by simp;omega⟩
     ·rw[h3,hdl,jO,hq]
     ·simp;refine⟨by omega,?_⟩;simp[dO,Lk.cs,List.take_of_length_le]
  ·simp -dsimp;refine Fin.of ?_;have:l.drop i = []:=List.drop_eq_nil_of_le (by simpa using h);simp[h3,this,jO]
set_option maxHeartbeats 2000000
def wS(n m:Int):Bool:=decide (0≤n)&&decide (n≤m)
theorem E_(n m:Int):Contract Tryz.prog 190 [.d (.int .i64 n),.d (.int .i64 m)] [] (.d (.bool (wS n m))) [] []:=by
 refine aj Tryz.func190 rfl (fun E0=>?_);refine cO.sound (g:=.mk) (ow:=[]) (kp:=(fun k=>k==0||k==1||k==4)) ?_;rw[Tryz.ntmps190];by_cases h:0≤n
 ·simp -dsimp[h];refine Fin.of ?_;simp[wS,h]
 ·simp -dsimp[h];refine Fin.of ?_;simp[wS,h]
theorem ac0(n m:Int):Contract Tryz.prog 187 [.d (.int .i64 n),.d (.int .i64 m)] [] (.d (.bool (wS n m))) [] []:=by
 refine aj Tryz.func187 rfl (fun E0=>?_);refine cO.sound (g:=.mk) (ow:=[]) (kp:=(fun k=>k==0||k==1||k==4)) ?_;rw[Tryz.ntmps187];by_cases h:0≤n
 ·simp -dsimp[h];refine Fin.of ?_;simp[wS,h]
 ·simp -dsimp[h];refine Fin.of ?_;simp[wS,h]
def nG(b:BitVec 64)(n:Int):Bool:=aG n&&decide (b &&& ~~~ tN n=0#64)
theorem agp(b:BitVec 64)(n:Int):Contract Tryz.prog 191 [.d (bv b),.d (.int .i64 n)] [] (.d (.bool (nG b n))) [] []:=by
 refine aj Tryz.func191 rfl (fun E0=>?_);refine cO.sound (g:=.mk) (ow:=[]) (kp:=(fun k=>k==0||k==1||k==4)) ?_;rw[Tryz.ntmps191];simp -dsimp[bv];refine ah.of (nM n) [] 0 ?_;cases h:aG n
 ·simp -dsimp[h,bv];refine Fin.of ?_;simp[nG,h]
 ·simp -dsimp[h,bv];refine ah.of (RF n) [] 0 ?_;simp -dsimp[h,bv];refine Fin.of ?_;simp[nG,h]
theorem ag8(n:Int):Contract Tryz.prog 239 [.d (.int .i64 n)] [] (.d (bv (tN n))) [] []:=by
 refine aj Tryz.func239 rfl (fun E0=>?_);refine cO.sound (g:=.mk) (ow:=[]) (kp:=(fun k=>k==0||k==2||k==5)) ?_;rw[Tryz.ntmps239];simp -dsimp[bv];refine ah.of (qH n) [] 0 ?_;cases h:aG n
 ·simp -dsimp[h,bv];refine Fin.of ?_;simp[tN,h]
 ·have hk:n=8∨n=16∨n=32∨n=64:=by simp[aG]at h;omega
  simp -dsimp[h,bv,wrap_i64 (n:=64-n) (by omega) (by omega)];refine⟨by omega,?_⟩;refine Fin.of ?_;simp[tN,h];rcases hk with rfl|rfl|rfl|rfl<;>decide
theorem adT(b:BitVec 64)(n:Int):Contract Tryz.prog 188 [.d (bv b),.d (.int .i64 n)] [] (.d (.bool (nG b n))) [] []:=by
 refine aj Tryz.func188 rfl (fun E0=>?_);refine cO.sound (g:=.mk) (ow:=[]) (kp:=(fun k=>k==0||k==1||k==4)) ?_;rw[Tryz.ntmps188];simp -dsimp[bv];refine ah.of (qH n) [] 0 ?_;cases h:aG n
 ·simp -dsimp[h,bv];refine Fin.of ?_;simp[nG,h]
 ·simp -dsimp[h,bv];refine ah.of (ag8 n) [] 0 ?_;simp -dsimp[h,bv];refine Fin.of ?_;simp[nG,h]
def Pk.ok(p:Pk):Bool:=decide (1≤p.mode)&&(decide (p.mode≤3)&&(wS p.bF 7&&(wS p.set 31&&(nG p.bits p.len&&(wS p.ttl 63&&(wS p.ent 1023&&(wS p.ing 256&&(wS p.proto 7&&decide (p.pay.size≤64)))))))))
theorem o9(p:Pk):Contract Tryz.prog 117 [dX p] [] (.d (.bool p.ok)) [] []:=by
 refine aj Tryz.func117 rfl (fun E0=>?_);refine cO.sound (g:=.mk) (ow:=[]) (kp:=(fun k=>k==0||k==1||k==2)) ?_;rw[Tryz.ntmps117];by_cases c1:1≤p.mode
 rotate_left
 ·simp -dsimp[dX,Pk.cs,c1];try refine⟨?_,⟨by kernel_rfl⟩⟩
  refine Fin.of ?_;simp[Pk.ok,c1]
 by_cases c2:p.mode≤3
 rotate_left
 ·simp -dsimp[dX,Pk.cs,c1,c2];try refine⟨?_,⟨by kernel_rfl⟩⟩
  refine Fin.of ?_;simp[Pk.ok,c1,c2]
 simp -dsimp[dX,Pk.cs,c1,c2];refine ah.of (E_ p.bF 7) [] 0 ?_;cases d0:wS p.bF 7
 ·simp -dsimp[dX,Pk.cs,c1,c2,d0];try refine⟨?_,⟨by kernel_rfl⟩⟩
  refine Fin.of ?_;simp[Pk.ok,c1,c2,d0]
 simp -dsimp[dX,Pk.cs,c1,c2,d0];refine ah.of (E_ p.set 31) [] 0 ?_;cases d1:wS p.set 31
 ·simp -dsimp[dX,Pk.cs,c1,c2,d0,d1];try refine⟨?_,⟨by kernel_rfl⟩⟩
  refine Fin.of ?_;simp[Pk.ok,c1,c2,d0,d1]
 simp -dsimp[dX,Pk.cs,c1,c2,d0,d1];refine ah.of (agp p.bits p.len) [] 0 ?_;cases d2:nG p.bits p.len
 ·simp -dsimp[dX,Pk.cs,c1,c2,d0,d1,d2];try refine⟨?_,⟨by kernel_rfl⟩⟩
  refine Fin.of ?_;simp[Pk.ok,c1,c2,d0,d1,d2]
 simp -dsimp[dX,Pk.cs,c1,c2,d0,d1,d2];refine ah.of (E_ p.ttl 63) [] 0 ?_;cases d3:wS p.ttl 63
 ·simp -dsimp[dX,Pk.cs,c1,c2,d0,d1,d2,d3];try refine⟨?_,⟨by kernel_rfl⟩⟩
  refine Fin.of ?_;simp[Pk.ok,c1,c2,d0,d1,d2,d3]
 simp -dsimp[dX,Pk.cs,c1,c2,d0,d1,d2,d3];refine ah.of (E_ p.ent 1023) [] 0 ?_;cases d4:wS p.ent 1023
 ·simp -dsimp[dX,Pk.cs,c1,c2,d0,d1,d2,d3,d4];try refine⟨?_,⟨by kernel_rfl⟩⟩
  refine Fin.of ?_;simp[Pk.ok,c1,c2,d0,d1,d2,d3,d4]
 simp -dsimp[dX,Pk.cs,c1,c2,d0,d1,d2,d3,d4];refine ah.of (E_ p.ing 256) [] 0 ?_;cases d5:wS p.ing 256
 ·simp -dsimp[dX,Pk.cs,c1,c2,d0,d1,d2,d3,d4,d5];try refine⟨?_,⟨by kernel_rfl⟩⟩
  refine Fin.of ?_;simp[Pk.ok,c1,c2,d0,d1,d2,d3,d4,d5]
 simp -dsimp[dX,Pk.cs,c1,c2,d0,d1,d2,d3,d4,d5];refine ah.of (E_ p.proto 7) [] 0 ?_;cases d6:wS p.proto 7
 ·simp -dsimp[dX,Pk.cs,c1,c2,d0,d1,d2,d3,d4,d5,d6];try refine⟨?_,⟨by kernel_rfl⟩⟩
  refine Fin.of ?_;simp[Pk.ok,c1,c2,d0,d1,d2,d3,d4,d5,d6]
 simp -dsimp[dX,Pk.cs,c1,c2,d0,d1,d2,d3,d4,d5,d6];try refine⟨?_,⟨by kernel_rfl⟩⟩
 refine Fin.of ?_;simp[Pk.ok,c1,c2,d0,d1,d2,d3,d4,d5,d6];omega
theorem FU(p:Pk):Contract Tryz.prog 113 [dX p] [] (.d (.bool p.ok)) [] []:=by
 refine aj Tryz.func113 rfl (fun E0=>?_);refine cO.sound (g:=.mk) (ow:=[]) (kp:=(fun k=>k==0||k==1||k==2)) ?_;rw[Tryz.ntmps113];by_cases c1:1≤p.mode
 rotate_left
 ·simp -dsimp[dX,Pk.cs,c1];try refine⟨?_,⟨by kernel_rfl⟩⟩
  refine Fin.of ?_;simp[Pk.ok,c1]
 by_cases c2:p.mode≤3
 rotate_left
 ·simp -dsimp[dX,Pk.cs,c1,c2];try refine⟨?_,⟨by kernel_rfl⟩⟩
  refine Fin.of ?_;simp[Pk.ok,c1,c2]
 simp -dsimp[dX,Pk.cs,c1,c2];refine ah.of (ac0 p.bF 7) [] 0 ?_;cases d0:wS p.bF 7
 ·simp -dsimp[dX,Pk.cs,c1,c2,d0];try refine⟨?_,⟨by kernel_rfl⟩⟩
  refine Fin.of ?_;simp[Pk.ok,c1,c2,d0]
 simp -dsimp[dX,Pk.cs,c1,c2,d0];refine ah.of (ac0 p.set 31) [] 0 ?_;cases d1:wS p.set 31
 ·simp -dsimp[dX,Pk.cs,c1,c2,d0,d1];try refine⟨?_,⟨by kernel_rfl⟩⟩
  refine Fin.of ?_;simp[Pk.ok,c1,c2,d0,d1]
 simp -dsimp[dX,Pk.cs,c1,c2,d0,d1];refine ah.of (adT p.bits p.len) [] 0 ?_;cases d2:nG p.bits p.len
 ·simp -dsimp[dX,Pk.cs,c1,c2,d0,d1,d2];try refine⟨?_,⟨by kernel_rfl⟩⟩
  refine Fin.of ?_;simp[Pk.ok,c1,c2,d0,d1,d2]
 simp -dsimp[dX,Pk.cs,c1,c2,d0,d1,d2];refine ah.of (ac0 p.ttl 63) [] 0 ?_;cases d3:wS p.ttl 63
 ·simp -dsimp[dX,Pk.cs,c1,c2,d0,d1,d2,d3];try refine⟨?_,⟨by kernel_rfl⟩⟩
  refine Fin.of ?_;simp[Pk.ok,c1,c2,d0,d1,d2,d3]
 simp -dsimp[dX,Pk.cs,c1,c2,d0,d1,d2,d3];refine ah.of (ac0 p.ent 1023) [] 0 ?_;cases d4:wS p.ent 1023
 ·simp -dsimp[dX,Pk.cs,c1,c2,d0,d1,d2,d3,d4];try refine⟨?_,⟨by kernel_rfl⟩⟩
  refine Fin.of ?_;simp[Pk.ok,c1,c2,d0,d1,d2,d3,d4]
 simp -dsimp[dX,Pk.cs,c1,c2,d0,d1,d2,d3,d4];refine ah.of (ac0 p.ing 256) [] 0 ?_;cases d5:wS p.ing 256
 ·simp -dsimp[dX,Pk.cs,c1,c2,d0,d1,d2,d3,d4,d5];try refine⟨?_,⟨by kernel_rfl⟩⟩
  refine Fin.of ?_;simp[Pk.ok,c1,c2,d0,d1,d2,d3,d4,d5]
 simp -dsimp[dX,Pk.cs,c1,c2,d0,d1,d2,d3,d4,d5];refine ah.of (ac0 p.proto 7) [] 0 ?_;cases d6:wS p.proto 7
 ·simp -dsimp[dX,Pk.cs,c1,c2,d0,d1,d2,d3,d4,d5,d6];try refine⟨?_,⟨by kernel_rfl⟩⟩
  refine Fin.of ?_;simp[Pk.ok,c1,c2,d0,d1,d2,d3,d4,d5,d6]
 simp -dsimp[dX,Pk.cs,c1,c2,d0,d1,d2,d3,d4,d5,d6];try refine⟨?_,⟨by kernel_rfl⟩⟩
 refine Fin.of ?_;simp[Pk.ok,c1,c2,d0,d1,d2,d3,d4,d5,d6];omega
structure Rt where
 id:Int
 cap:Bool
def Rt.cs(x:Rt):List D:=[.int .i64 x.id,.bool x.cap]
def rts(l:List Rt):List (List D):=l.map Rt.cs
@[simp]theorem anN(l:List Rt):(rts l).length=l.length:=by simp[rts]
def cu(k:Nat):List Rt:=(List.range k).map fun (i:Nat)=>⟨(i:Int)+1,true⟩
@[simp]theorem EY(k:Nat):(cu k).length=k:=by simp[cu]
def dI(cost tree:Int)(skip:Bool)(b a:Int)(T:Tp)(l:List Lk):List Lk×Tp:=
 let c:=if decide (a=tree) && !skip then(true,T)else dD T 3
 if c.1 then
  let x:=aT c.2 1 cost
  let y:=aT x.2 1 cost
  let z:=au y.2 4
  (l++[⟨a,b,x.1,y.1,z.1⟩],z.2)
 else(l,c.2)
def dV(cost tree:Int)(skip:Bool)(b:Int):Nat→Int→Tp→List Lk→List Lk×Tp
 | 0,_,T,l=>(l,T)
 | n+1,a,T,l=>dV cost tree skip b n (a+1) (dI cost tree skip b a T l).2 (dI cost tree skip b a T l).1
def gW(cost b:Int)(T:Tp)(l:List Lk):List Lk×Tp:=
 let t:=aT T 1 (b-1)
 let s:=dD t.2 9
 dV cost t.1 s.1 b (b-1).toNat 1 s.2 l
def dS(cost:Int):Nat→Int→Tp→List Lk→List Lk×Tp
 | 0,_,T,l=>(l,T)
 | n+1,b,T,l=>dS cost n (b+1) (gW cost b T l).2 (gW cost b T l).1
structure ay where
 rs:List Rt
 ls:List Lk
def aH(g:ay):TV:=.agg [.d (.sl (rts g.rs)),.d (.sl (dO g.ls))]
def dG(T:Tp)(most:Int):ay×Tp:=
 let R:=aT T 1 most
 let C:=aK R.2 [1,2,2,5]
 let X:=dS C.1 (R.1+1-2).toNat 2 C.2 []
 (⟨cu R.1.toNat,jO X.1 []⟩,X.2)
theorem dA{T:Tp}{l:List Int}{p:Int→Prop}(h0:0<l.length)(h:∀x∈l,p x):p (aK T l).1:=by
 unfold aK;have h1:=aC T l.length;have h2:=bg T (n:=l.length) (by omega);have h3:(au T l.length).1.toNat<l.length:=by omega
 rw[List.getD_eq_getElem?_getD,List.getElem?_eq_getElem h3];exact h _ (List.getElem_mem _)
theorem aeW(cost tree:Int)(skip:Bool)(b a:Int)(T:Tp)(l:List Lk):ak (dI cost tree skip b a T l).2=ak T:=by
 unfold dI;simp only;split<;>split<;>simp
theorem zN(cost tree:Int)(skip:Bool)(b a:Int)(T:Tp)(l:List Lk):(dI cost tree skip b a T l).1.length≤l.length+1:=by
 unfold dI;simp only;split<;>split<;>simp
structure Ed where
 r:Int
 id:Int
def Ed.cs(x:Ed):List D:=[.int .i64 x.r,.int .i64 x.id]
def rJ(l:List Ed):List (List D):=l.map Ed.cs
structure Pn where
 bF:Int
 len:Int
 es:List Ed
def bI(p:Pn):TV:=.agg [.d (.int .i64 p.bF),.d (.int .i64 p.len),.d (.sl (rJ p.es))]
@[simp]theorem alj(l:List Ed):(rJ l).length=l.length:=by simp[rJ]
theorem mP{l:List Ed}{i:Nat}{x:Ed}(h:l[i]? = some x):(rJ l)[i]? = some x.cs:=by simp[rJ,h]
theorem aes{l:List Ed}{i:Nat}{x:Ed}(h:l[i]? = some x)(hi:i<(rJ l).length):(rJ l)[i]=x.cs:=by
 have:=mP h;rw[List.getElem?_eq_getElem hi]at this
 simpa using this
theorem fF{l:List Rt}{i:Nat}{x:Rt}(h:l[i]? = some x):(rts l)[i]? = some x.cs:=by simp[rts,h]
theorem RJ:∀(n i:Nat) (T:Tp) (l:List Int),ak (kY n i T l).2=ak T
 | 0,_,_,_=>rfl
 | n+1,i,T,l=>by rw[kY,RJ];simp
@[simp]theorem Vp(T:Tp)(n:Int):ak (bT T n).2=ak T:=RJ _ _ _ _
theorem Px:∀(n i:Nat) (T:Tp) (l:List Int),(∀x∈l,0≤x∧x<(i:Int))→∀x∈(kY n i T l).1,0≤x∧x<((i+n:Nat):Int)
 | 0,_,_,_,h=>h
 | n+1,i,T,l,h=>fun x hx=>by
   have:=Px n (i+1) _ _ (fun y hy=>?_) x hx
   ·omega
   ·simp only[List.mem_append,List.mem_singleton]at hy;rcases hy with (hy|hy)|hy
    ·have:=h y (List.mem_of_mem_take hy);omega
    ·omega
    ·have:=h y (List.mem_of_mem_drop hy);omega
theorem Pv:∀(n i:Nat) (T:Tp) (l:List Int),(kY n i T l).1.length=l.length+n
 | 0,_,_,_=>rfl
 | n+1,i,T,l=>by
   rw[kY,Pv n];simp;omega
theorem lZ(T:Tp)(n:Nat):∀x∈(bT T n).1,0≤x∧x<(n:Int):=fun x hx=>by
 have:=Px n 0 T [] (by simp) x (by simpa[bT]using hx);omega
theorem iK(T:Tp)(n:Nat):(bT T n).1.length=n:=by simp[bT,Pv]
def inB(n lo hi:Int):Bool:=decide (lo≤n)&&decide (n≤hi)
theorem oK(n lo hi:Int):Contract Tryz.prog 168 [.d (.int .i64 n),.d (.int .i64 lo),.d (.int .i64 hi)] [] (.d (.bool (inB n lo hi))) [] []:=by
 refine aj Tryz.func168 rfl (fun E0=>?_);refine cO.sound (g:=.mk) (ow:=[]) (kp:=(fun k=>k==0||k==1||k==2||k==6)) ?_;rw[Tryz.ntmps168];by_cases h:lo≤n
 ·simp -dsimp[h];refine Fin.of ?_;simp[inB,h]
 ·simp -dsimp[h];refine Fin.of ?_;simp[inB,h]
theorem aat(n lo hi:Int):Contract Tryz.prog 208 [.d (.int .i64 n),.d (.int .i64 lo),.d (.int .i64 hi)] [] (.d (.bool (inB n lo hi))) [] []:=by
 refine aj Tryz.func208 rfl (fun E0=>?_);refine cO.sound (g:=.mk) (ow:=[]) (kp:=(fun k=>k==0||k==1||k==2||k==6)) ?_;rw[Tryz.ntmps208];by_cases h:lo≤n
 ·simp -dsimp[h];refine Fin.of ?_;simp[inB,h]
 ·simp -dsimp[h];refine Fin.of ?_;simp[inB,h]
open Classical in
noncomputable def UY(l:List Int):Bool:=decide (∃i j,j<i∧i<l.length∧l.getD i 0=l.getD j 0)
theorem VT{l:List Int}{i j:Nat}(h1:j<i)(h2:i<l.length)(h3:l.getD i 0=l.getD j 0):UY l=true:=by
 simp only[UY,decide_eq_true_eq];exact⟨i,j,h1,h2,h3⟩
theorem TW{l:List Int}(h:∀i j,j<i→i<l.length→l.getD i 0≠l.getD j 0):UY l=false:=by
 simp only[UY,decide_eq_false_iff_not];rintro⟨i,j,h1,h2,h3⟩;exact h i j h1 h2 h3
theorem JE(l:List Int)(hl:l.length≤100000):Contract Tryz.prog 186 [.d (ints l)] [] (.d (.bool (UY l))) [] []:=by
 refine aj Tryz.func186 rfl (fun E0=>?_);refine cO.sound (g:=.mk) (ow:=[]) (kp:=(fun k=>k==0||k==2||k==3||k==4||k==8||k==13||k==24)) ?_;rw[Tryz.ntmps186];simp -dsimp
 refine aN.of [] (fun k=>k==0||k==2||k==3||k==4||k==8||k==13||k==24) (ι:={i:Nat // i≤l.length∧∀a b,b<a→a<i→l.getD a 0≠l.getD b 0}) (fun z=>[(Pl.s 0,It.v (.d (ints l))),(Pl.s 3,It.v (.d (.int .i64 z.1)))]) (fun z=>l.length-z.1) ⟨0,by omega,fun a b _ h=>by omega⟩ ?_ ?_
 ·exact GS.to (by simp)
 ·rintro⟨i,i1,i2⟩;by_cases hi:i<l.length
  ·simp -dsimp[ints,hi];refine aN.of [] (fun k=>k==0||k==2||k==3||k==4||k==8||k==13||k==24) (ι:={j:Nat // j≤i∧∀b,b<j→l.getD i 0≠l.getD b 0}) (fun z=>[(Pl.s 0,It.v (.d (ints l))),(Pl.s 3,It.v (.d (.int .i64 i))),(Pl.s 4,It.v (.d (.int .i64 z.1)))]) (fun z=>i-z.1) ⟨0,by omega,fun b h=>by omega⟩ ?_ ?_
   ·exact GS.to (by simp[ints])
   ·rintro⟨j,j1,j2⟩;by_cases hj:j<i
    ·have hj2:j<l.length:=by omega
     have gi:l.getD i 0=l[i]:=by simp[List.getD,hi]
     have gj:l.getD j 0=l[j]:=by simp[List.getD,hj2]
     simp -dsimp[ints,hi,hj,hj2];refine⟨qM.dec (fun h=>?_) (fun h=>?_),⟨by kernel_rfl⟩⟩
     ·simp -dsimp;refine Fin.of ?_;simp;exact VT hj hi (by rw[gi,gj,h])
     ·simp -dsimp[wrap_i64 (n:=(j:Int)+1) (by omega) (by omega)];exact⟨⟨j+1,by omega,fun b hb=>by
       by_cases e:b=j
       ·subst e;rw[gi,gj];exact h
       ·exact j2 b (by omega)⟩,GS.to (by simp[ints]),by simp;omega⟩
    ·simp -dsimp[ints,hi,hj,wrap_i64 (n:=(i:Int)+1) (by omega) (by omega)];exact⟨⟨i+1,by omega,fun a b h1 h2=>by
      by_cases e:a=i
      ·subst e;exact j2 b (by omega)
      ·exact i2 a b h1 (by omega)⟩,GS.to (by simp[ints]),by simp;omega⟩
  ·simp -dsimp[ints,hi];refine Fin.of ?_;simp;exact TW fun a b h1 h2=>i2 a b h1 (by omega)
def gid(es:List Ed)(i:Nat):Int:=(es.getD i ⟨0,0⟩).id
def KA(es:List Ed)(i:Nat):Int:=(es.getD i ⟨0,0⟩).r
def yD(p:Pn):Bool:=inB p.bF 0 7&&((aG p.len||(decide (p.len=0)&&decide (p.es.length=0)))&&decide (p.es.length≤24))
def LD(es:List Ed)(i:Nat):Bool:=inB (gid es i) 1 256&&(inB (KA es i) 1 99&&(decide (i=0)||decide (gid es (i-1)<gid es i)))
open Classical in
noncomputable def d_(p:Pn):Bool:=decide (yD p=true∧(∀i,i<p.es.length→LD p.es i=true)∧∀i j,j<i→i<p.es.length→KA p.es i≠KA p.es j)
theorem GL{p:Pn}(h:yD p=false):d_ p=false:=by
 simp only[d_,decide_eq_false_iff_not];rintro⟨h1,_⟩;rw[h]at h1;simp at h1
theorem TP{p:Pn}{i:Nat}(hi:i<p.es.length)(h:LD p.es i=false):d_ p=false:=by
 simp only[d_,decide_eq_false_iff_not];rintro⟨_,h1,_⟩;have:=h1 i hi;rw[h]at this;simp at this
theorem afF{p:Pn}{i j:Nat}(hj:j<i)(hi:i<p.es.length)(h:KA p.es i=KA p.es j):d_ p=false:=by
 simp only[d_,decide_eq_false_iff_not];rintro⟨_,_,h1⟩;exact h1 i j hj hi h
theorem AL{p:Pn}(h:yD p=true)(h1:∀i,i<p.es.length→LD p.es i=true)(h2:∀i j,j<i→i<p.es.length→KA p.es i≠KA p.es j):d_ p=true:=by
 simp only[d_,decide_eq_true_eq];exact⟨h,h1,h2⟩
theorem VO{p:Pn}(h:yD p=true)(h1:∀i,i<p.es.length→LD p.es i=true):d_ p = !(UY (p.es.map (·.r))):=by
 have hg:∀i,i<p.es.length→(p.es.map (·.r)).getD i 0=KA p.es i:=fun i hi=>by simp[KA,List.getD,hi]
 by_cases h2:∀i j,j<i→i<p.es.length→KA p.es i≠KA p.es j
 ·rw[AL h h1 h2,TW fun i j hj hi=>by simp at hi;rw[hg i hi,hg j (by omega)];exact h2 i j hj hi];rfl
 ·have:∃i j,j<i∧i<p.es.length∧KA p.es i=KA p.es j:=Classical.byContradiction fun hc=>h2 fun i j hj hi he=>hc ⟨i,j,hj,hi,he⟩
  obtain⟨i,j,hj,hi,he⟩:=this;rw[afF hj hi he,VT (l:=p.es.map (·.r)) hj (by simpa using hi) (by rw[hg i hi,hg j (by omega)];exact he)];rfl
theorem uQ(p:Pn)(hp:p.es.length≤1000):Contract Tryz.prog 124 [bI p] [] (.d (.bool (d_ p))) [] []:=by
 refine aj Tryz.func124 rfl (fun E0=>?_);refine cO.sound (g:=.mk) (ow:=[]) (kp:=(fun k=>k==0||k==1||k==2||k==3||k==4||k==5||k==32||k==37||k==70)) ?_;rw[Tryz.ntmps124];simp -dsimp[bI];refine ah.of (oK p.bF 0 7) [] 0 ?_;rcases (Bool.eq_false_or_eq_true (inB p.bF 0 7)).symm with a1|a1
 ·simp -dsimp[a1];refine Fin.of ?_;simp;exact GL (by simp[yD,a1])
 ·simp -dsimp[a1];refine ah.of (nM p.len) [] 0 ?_;rcases (Bool.eq_false_or_eq_true (aG p.len)).symm with a2|a2
  ·by_cases a3:p.len=0
   ·by_cases a4:p.es.length=0
    ·have hb:yD p=true:=by simp[yD,a1,a2,a3,a4,show aG 0=false from rfl]
     simp -dsimp[a1,a2,a3,a4,show aG 0=false from rfl];refine aN.of [] (fun k=>k==0||k==1||k==2||k==3||k==4||k==5||k==32||k==37||k==70) (ι:={i:Nat // i≤p.es.length∧∀a,a<i→LD p.es a=true})
      (fun z=>[(Pl.s 0,It.v (.agg [TV.d (.int .i64 p.bF),TV.d (.int .i64 p.len),TV.d (.sl (rJ p.es))])),(Pl.o 1,It.box [TV.d (.int .i64 p.bF),TV.d (.int .i64 p.len),TV.d (.sl (rJ p.es))]),
       (Pl.s 1,It.v (.ptr (Pl.o 1) 0)),(Pl.s 2,It.v (.d (.bool false))),(Pl.s 3,It.v (.aB 3 z.1)),(Pl.o 3,.row 3 1 (dd ((p.es.take z.1).map fun e=>[.int .i64 e.r])) false),(Pl.s 4,It.v (.d (.int .i64 z.1)))])
      (fun z=>p.es.length-z.1) ⟨0,by omega,fun a h=>by omega⟩ ?_ ?_
     ·exact GS.own' (k:=3) 3 1 (by simp) (by simp) (by simp[a1,a2,a3,a4,show aG 0=false from rfl])
     ·rintro⟨i,i1,i2⟩;have hi :¬i<p.es.length:=by omega
      obtain rfl:i=p.es.length:=by omega
      simp -dsimp[hi];refine ah.of (JE (p.es.map (·.r)) (by simp;omega)) [] 0 ?_;simp -dsimp[ints,List.map_map,Function.comp_def];refine Fin.of ?_;simp[VO hb i2]
    ·have a5:0<p.es.length:=by omega
     simp -dsimp[a1,a2,a3,a4,a5,show aG 0=false from rfl];refine Fin.of ?_;simp;exact GL (by simp[yD,a1,a2,a3,a4,show aG 0=false from rfl])
   ·simp -dsimp[a1,a2,a3];refine Fin.of ?_;simp;exact GL (by simp[yD,a1,a2,a3])
  ·by_cases a6:p.es.length≤24
   ·have a7 :¬(24:Int)<p.es.length:=by omega
    have hb:yD p=true:=by simp[yD,a1,a2,a6]
    simp -dsimp[a1,a2,a7];refine aN.of [] (fun k=>k==0||k==1||k==2||k==3||k==4||k==5||k==32||k==37||k==70) (ι:={i:Nat // i≤p.es.length∧∀a,a<i→LD p.es a=true})
     (fun z=>[(Pl.s 0,It.v (.agg [TV.d (.int .i64 p.bF),TV.d (.int .i64 p.len),TV.d (.sl (rJ p.es))])),(Pl.o 1,It.box [TV.d (.int .i64 p.bF),TV.d (.int .i64 p.len),TV.d (.sl (rJ p.es))]),
      (Pl.s 1,It.v (.ptr (Pl.o 1) 0)),(Pl.s 2,It.v (.d (.bool false))),(Pl.s 3,It.v (.aB 3 z.1)),(Pl.o 3,.row 3 1 (dd ((p.es.take z.1).map fun e=>[.int .i64 e.r])) false),(Pl.s 4,It.v (.d (.int .i64 z.1)))])
     (fun z=>p.es.length-z.1) ⟨0,by omega,fun a h=>by omega⟩ ?_ ?_
    ·exact GS.own' (k:=3) 3 1 (by simp) (by simp) (by simp[a1,a2])
    ·rintro⟨i,i1,i2⟩;by_cases hi:i<p.es.length
     ·obtain⟨x,hx⟩:∃x,p.es[i]? = some x:=⟨p.es[i],List.getElem?_eq_getElem hi⟩
      have gx:gid p.es i=x.id∧KA p.es i=x.r:=by simp[gid,KA,List.getD,hx]
      simp -dsimp[hi,aes hx,Ed.cs];refine ah.of (oK x.id 1 256) [] 0 ?_;rcases (Bool.eq_false_or_eq_true (inB x.id 1 256)).symm with b1|b1
      ·simp -dsimp[b1];refine⟨?_,⟨by kernel_rfl⟩⟩;refine Fin.of ?_;simp;exact TP hi (by simp[LD,gx,b1])
      ·simp -dsimp[b1];refine ah.of (oK x.r 1 99) [] 0 ?_;rcases (Bool.eq_false_or_eq_true (inB x.r 1 99)).symm with b2|b2
       ·simp -dsimp[b1,b2];refine⟨?_,⟨by kernel_rfl⟩⟩;refine Fin.of ?_;simp;exact TP hi (by simp[LD,gx,b1,b2])
       ·by_cases b3:0<i
        ·obtain⟨y,hy⟩:∃y,p.es[i-1]? = some y:=⟨p.es[i-1],List.getElem?_eq_getElem (by omega)⟩
         have gy:gid p.es (i-1)=y.id:=by simp[gid,List.getD,hy]
         have b5:(1:Int)≤i:=by omega
         have b6:(i:Int)-1<p.es.length:=by omega
         have b7:i≠0:=by omega
         by_cases b4:x.id≤y.id
         ·simp -dsimp[b1,b2,b3,b4,b5,b6,mP hy,Ed.cs,wrap_i64 (n:=(i:Int)-1) (by omega) (by omega)];refine⟨?_,⟨by kernel_rfl⟩⟩;refine Fin.of ?_;simp;exact TP hi (by simp[LD,gx,gy,b1,b2,b7]<;>omega)
         ·simp -dsimp[b1,b2,b3,b4,b5,b6,mP hy,Ed.cs,wrap_i64 (n:=(i:Int)-1) (by omega) (by omega),wrap_i64 (n:=(i:Int)+1) (by omega) (by omega)];and_intros;all_goals try first|omega|exact⟨by kernel_rfl⟩
          exact⟨⟨i+1,by omega,fun a ha=>by
           by_cases e:a=i
           ·subst e;simp[LD,gx,gy,b1,b2]<;>omega
           ·exact i2 a (by omega)⟩,GS.to (by simp[List.take_add_one,hx]),by simp;omega⟩
        ·obtain rfl:i=0:=by omega
         simp -dsimp[b1,b2,wrap_i64 (n:=1) (by omega) (by omega)];and_intros;all_goals try first|omega|exact⟨by kernel_rfl⟩
         exact⟨⟨1,by omega,fun a ha=>by
          obtain rfl:a=0:=by omega
          simp[LD,gx,b1,b2]⟩,GS.to (by simp[List.take_add_one,hx]),by simp;omega⟩
     ·obtain rfl:i=p.es.length:=by omega
      simp -dsimp[hi];refine ah.of (JE (p.es.map (·.r)) (by simp;omega)) [] 0 ?_;simp -dsimp[ints,List.map_map,Function.comp_def];refine Fin.of ?_;simp[VO hb i2]
   ·have a7:(24:Int)<p.es.length:=by omega
    simp -dsimp[a1,a2,a7];refine Fin.of ?_;simp;exact GL (by simp[yD,a1,a2,a6])
def fJ(id len:Int):Int:=if aG len&&inB id 1 256 then(id-1)/len else 0
def gG(id len:Int):Int:=if aG len&&inB id 1 256 then(id-1)%len else 0
theorem plB(id len:Int):0≤fJ id len∧fJ id len≤255∧0≤gG id len∧gG id len<64:=by
 unfold fJ gG;split
 ·rename_i h;simp[aG,inB]at h
  obtain⟨((h|h)|h)|h,h1,h2⟩:=h<;>subst h<;>omega
 ·omega
def eH(id len:Int):TV:=.rG [.d (.int .i64 (fJ id len)),.d (.int .i64 (gG id len)),.d (.bool (aG len&&inB id 1 256))]
theorem kU(id len:Int):Contract Tryz.prog 87 [.d (.int .i64 id),.d (.int .i64 len)] [] (eH id len) [] []:=by
 refine aj Tryz.func87 rfl (fun E0=>?_);refine cO.sound (g:=.mk) (ow:=[]) (kp:=(fun k=>k==0||k==1||k==4||k==5||k==6||k==14)) ?_;rw[Tryz.ntmps87];simp -dsimp;refine ah.of (nM len) [] 0 ?_;rcases (Bool.eq_false_or_eq_true (aG len)).symm with a1|a1
 ·simp -dsimp[a1];refine Fin.of ?_;simp[eH,fJ,gG,a1]
 ·have hl:len=8∨len=16∨len=32∨len=64:=by simp[aG]at a1;omega
  simp -dsimp[a1];refine ah.of (oK id 1 256) [] 0 ?_;rcases (Bool.eq_false_or_eq_true (inB id 1 256)).symm with a2|a2
  ·simp -dsimp[a1,a2];refine Fin.of ?_;simp[eH,fJ,gG,a1,a2]
  ·have hi:1≤id∧id≤256:=by simpa[inB]using a2
   have e1:(id-1).tdiv len=(id-1)/len:=Int.tdiv_eq_ediv_of_nonneg (by omega);have e2:(id-1).tmod len=(id-1)%len:=Int.tmod_eq_emod_of_nonneg (by omega);have d1:0≤(id-1)/len∧(id-1)/len≤255:=by rcases hl with rfl|rfl|rfl|rfl<;>omega
   simp -dsimp[a1,a2,e1,e2,wrap_i64 (n:=id-1) (by omega) (by omega),wrap_i64 (n:=(id-1)/len) (by omega) (by omega)];refine⟨by omega,?_,⟨by kernel_rfl⟩⟩;refine Fin.of ?_;simp[eH,fJ,gG,a1,a2]
theorem aaS(id len:Int):Contract Tryz.prog 217 [.d (.int .i64 id),.d (.int .i64 len)] [] (eH id len) [] []:=by
 refine aj Tryz.func217 rfl (fun E0=>?_);refine cO.sound (g:=.mk) (ow:=[]) (kp:=(fun k=>k==0||k==1||k==4||k==5||k==6||k==14)) ?_;rw[Tryz.ntmps217];simp -dsimp;refine ah.of (qH len) [] 0 ?_;rcases (Bool.eq_false_or_eq_true (aG len)).symm with a1|a1
 ·simp -dsimp[a1];refine Fin.of ?_;simp[eH,fJ,gG,a1]
 ·have hl:len=8∨len=16∨len=32∨len=64:=by simp[aG]at a1;omega
  simp -dsimp[a1];refine ah.of (aat id 1 256) [] 0 ?_;rcases (Bool.eq_false_or_eq_true (inB id 1 256)).symm with a2|a2
  ·simp -dsimp[a1,a2];refine Fin.of ?_;simp[eH,fJ,gG,a1,a2]
  ·have hi:1≤id∧id≤256:=by simpa[inB]using a2
   have e1:(id-1).tdiv len=(id-1)/len:=Int.tdiv_eq_ediv_of_nonneg (by omega);have e2:(id-1).tmod len=(id-1)%len:=Int.tmod_eq_emod_of_nonneg (by omega);have d1:0≤(id-1)/len∧(id-1)/len≤255:=by rcases hl with rfl|rfl|rfl|rfl<;>omega
   simp -dsimp[a1,a2,e1,e2,wrap_i64 (n:=id-1) (by omega) (by omega),wrap_i64 (n:=(id-1)/len) (by omega) (by omega)];refine⟨by omega,?_,⟨by kernel_rfl⟩⟩;refine Fin.of ?_;simp[eH,fJ,gG,a1,a2]
structure Sb where
 set:Int
 bits:BitVec 64
def Sb.cs(x:Sb):List D:=[.int .i64 x.set,bv x.bits]
def abN(l:List Int):List (List D):=l.map fun n=>[.int .i64 n]
@[simp]theorem ah8(l:List Int):(abN l).length=l.length:=by simp[abN]
def MI{α:Type}(q:α→Bool)(l:List α):Int:=match l.findIdx? q with|some i=>i|none=>-1
theorem D6{α:Type}(q:α→Bool)(l:List α):decide (0≤MI q l)=l.any q:=by
 unfold MI;cases h:l.findIdx? q with
 | none=>
   have:=List.findIdx?_eq_none_iff.1 h;simp;intro x hx;exact this x hx
 | some i=>
   have:=List.findIdx?_eq_some_iff_getElem.1 h;obtain⟨hi,h1,_⟩:=this;simp;exact⟨_,List.getElem_mem hi,h1⟩
theorem Iq{α:Type}{q:α→Bool}{l:List α}{i:Nat}{x:α}(hx:l[i]? = some x)(hq:q x=true)(h:∀a,a<i→∀y,l[a]? = some y→q y=false):MI q l=i:=by
 unfold MI;obtain⟨hi,rfl⟩:=List.getElem?_eq_some_iff.1 hx;have:l.findIdx? q=some i:=by
  rw[List.findIdx?_eq_some_iff_getElem];exact⟨hi,hq,fun j hj=>by have:=h j hj _ (List.getElem?_eq_getElem (by omega));simp[this]⟩
 rw[this]
theorem Ir{α:Type}{q:α→Bool}{l:List α}(h:∀a,a<l.length→∀y,l[a]? = some y→q y=false):MI q l = -1:=by
 unfold MI;have:l.findIdx? q=none:=by
  rw[List.findIdx?_eq_none_iff];intro x hx;obtain⟨i,hi⟩:=List.getElem?_of_mem hx;exact h i (List.getElem?_eq_some_iff.1 hi).1 x hi
 rw[this]
end Go.Proofs
