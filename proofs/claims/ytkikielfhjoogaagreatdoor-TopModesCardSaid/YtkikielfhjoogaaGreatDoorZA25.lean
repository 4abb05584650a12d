/-
  What functions of the program compute, stated as contracts over plain data; the conditions of each stand in its own statement.
-/
import Derived.Test.YtkikielfhjoogaaGreatDoorZA24
import Derived.Test.YtkikielfhjoogaaGreatDoorZA23
import Derived.Test.YtkikielfhjoogaaGreatDoorZA13
import Derived.Test.YtkikielfhjoogaaGreatDoorZA16
import Derived.Test.YtkikielfhjoogaaGreatDoorZA21
import Derived.Test.YtkikielfhjoogaaGreatDoorZA18
import Derived.Test.YtkikielfhjoogaaGreatDoorZA19
set_option linter.unusedSimpArgs false
set_option linter.unusedVariables false
set_option maxRecDepth 100000
namespace Go.Proofs
open Go Go.Tr
theorem afc{g:aX}(hg:jo g=0){p:Pn}(hp:oJ p=true):EL g p=(tabs g p g.rs,0):=by unfold EL;simp[*]
theorem V5{g:aX}{p:Pn}:∀b∈tabs g p g.rs,b.sd=p.jd∧b.len=p.len:=fun b hb=>by
 obtain⟨x,_,_,rfl⟩:=YU hb
 trivial
theorem YS{g:aX}(hg:jo g=0){p:Pn}(hp:oJ p=true):∀b∈tabs g p g.rs,chk b=0:=fun b hb=>by
 obtain⟨x,hx,_,rfl⟩:=YU hb
 grind[adi,jQ]
theorem aik{g:aX}(hg:g.Ok)(p:Pn):(tabs g p g.rs).Pairwise fun x y=>x.r<y.r:=by unfold tabs;rw[d_];exact(hg.rpw.sublist lI).imp fun h=>h
theorem aiM{l:List Tb}(h1:l.length≤24)(h2:∀b∈l,chk b=0)(h3:l.Pairwise fun x y=>x.r<y.r)(h4:∀b∈l,∀c∈l,b.sd=c.sd∧b.len=c.len):Jt l=0:=by
 have a1:decide (24<l.length)=false:=by simp[*]
 have a2:(l.any fun b=>decide (chk b≠0))=false:=by simp_all
 have a3:o8 (fun x y:Tb=>decide (y.r≤x.r)) l=false:=by grind[o8,decide,Vy]
 have a4:(l.any fun b=>decide (b.sd≠(l.headD tb0).sd)||decide (b.len≠(l.headD tb0).len))=false:=by
  rw[iq];intro b hb;have:l.headD tb0∈l:=by
   cases l with
   | nil=>trivial
   | cons a l=>simp
  grind
 simp only[Jt,lG,a1,a2,a3,a4,cond_false]
theorem aij{g:aX}(hg:jo g=0){p:Pn}(hp:oJ p=true):Jt (tabs g p g.rs)=0:=
 aiM (dw (YT g p) (dV hg).nr) (YS hg hp) (aik (dV hg) p) fun b hb c hc=>by
  have h1:=V5 b hb
  grind[V5]
theorem Om{l:List Tb}{r:Int}:(lZ l r).isSome↔r∈l.map (·.r):=by simp[lZ]
structure Wv(p:Pn)(rs:List Int)(l:List Tb):Prop where
 all:Jt l=0
 ck:∀b∈l,chk b=0
 sd:∀b∈l,b.sd=p.jd∧b.len=p.len
 rs:∀r,(lZ l r).isSome↔r∈rs
 n:l.length≤24
theorem amr{g:aX}(hg:jo g=0){p:Pn}(hp:oJ p=true):Wv p ((tabs g p g.rs).map (·.r)) (tabs g p g.rs):=
 ⟨aij hg hp,YS hg hp,V5,fun r=>Om,dw (YT g p) (dV hg).nr⟩
set_option maxHeartbeats 4000000
def Pk.for(q:Pk)(jd len set:Int)(B:BitVec 64):Pk:=⟨1,jd,set,len,q.ttl,q.ent,q.ing,q.proto,B,q.pay⟩
set_option maxHeartbeats 8000000
@[simp]theorem alL(T:Tp):isObj (kH T)=true:=rfl
theorem Qx{n:Int}(h:eP n=true):n=8∨n=16∨n=32∨n=64:=by grind[eP]
theorem ZU{len:Int}(hl:eP len=true){k:Nat}(hk:k<64):(EP len).getLsbD k=decide ((k:Int)<len):=by have:=Qx hl;rw[EP,if_pos hl,JF hk _ (by omega)];simp
theorem ae4{B:BitVec 64}{len:Int}(hl:eP len=true)(h:∀k<64,B.getLsbD k=true→(k:Int)<len):wz B len=true:=by
 simp only[wz,hl,jq,decide_eq_true_eq];apply fE;intro k hk;rw[dG,jw,ZU hl hk]
 simp_all
theorem Vr(p:Pk):p.ok=true↔(1≤p.mode∧p.mode≤3)∧(0≤p.jd∧p.jd≤7)∧(0≤p.set∧p.set≤31)∧wz p.bits p.len=true∧(0≤p.ttl∧p.ttl≤63)∧(0≤p.ent∧p.ent≤1023)∧(0≤p.ing∧p.ing≤256)∧(0≤p.proto∧p.proto≤7)∧p.pay.size≤64:=by simp[Pk.ok,zh]
structure acZ(p:Pn)(q:Pk):Prop where
 ok:q.ok=true
 mode:q.mode=1
 jd:q.jd=p.jd
 len:q.len=p.len
def Pk.live(q:Pk)(n:Int):Pk:=⟨q.mode,q.jd,q.set,q.len,n,q.ent,q.ing,q.proto,q.bits,q.pay⟩
theorem acZ.live{p:Pn}{q:Pk}(h:acZ p q){n:Int}(hn:0≤n∧n≤63):acZ p (q.live n):=by obtain⟨h1,h2,h3,h4⟩:=h;obtain⟨a1,a2,a3,a4,a5,a6⟩:=(Vr q).1 h1;exact⟨(Vr _).2 ⟨a1,a2,a3,a4,hn,a6⟩,h2,h3,h4⟩
theorem Wv.fit{p:Pn}{rs:List Int}{l:List Tb}(h:Wv p rs l){q:Pk}(hq:acZ p q):wE l q:=
 ⟨hq.ok,fun b hb=>⟨h.ck b hb,(h.sd b hb).1.trans hq.jd.symm,(h.sd b hb).2.trans hq.len.symm,hq.ok,by rw[hq.mode];decide⟩⟩
theorem Wv.run{p:Pn}{rs:List Int}{l:List Tb}(h:Wv p rs l){q:Pk}(hq:acZ p q){r:Int}(hr:r∈rs):xA l q r=(sD l (wt q) [(r,q)] qV,0)∧(lZ l r).isSome:=by have hs:=(h.rs r).2 hr;refine⟨?_,hs⟩;obtain⟨b,hb⟩:=gq.1 hs;have hsd:=h.sd b (mO hb).1;unfold xA;rw[if_neg (by simp[h.all,hq.ok]),hb];simp only;rw[if_neg (by rw[hq.mode];decide),if_neg (by rw[hsd.1,hsd.2,hq.jd,hq.len];simp)]
theorem Wv.sm{p:Pn}{rs:List Int}{l:List Tb}(h:Wv p rs l):SmL l:=⟨by have:=h.n;omega,fun b hb=>ak9 (h.ck b hb)⟩
theorem aki{g:aX}(hg:g.Ok)(p:Pn)(r:Int):r∈(tabs g p g.rs).map (·.r)↔lF g.rs r=true:=by rw[←Om,vZ hg];simp
def iD(T:Tp):Prop:=T.1.length≤2000∧∀x∈T.1,I64 x
@[simp]theorem OB(T:Tp):iD (JH T).2=iD T:=by simp[iD,JI]
@[simp]theorem SK(T:Tp)(n:Int):iD (eG T n).2=iD T:=OB T
@[simp]theorem alq(T:Tp)(a b:Int):iD (ji T a b).2=iD T:=OB T
@[simp]theorem adC(T:Tp)(l:List Int):iD (m_ T l).2=iD T:=OB T
theorem ae0(L:List Int)(hL:∀x∈L,I64 x):iD (L.take 2000,0):=⟨by simp;omega,fun x hx=>hL x (iW hx)⟩
theorem alb(x n:Int)(hn:I64 n):Contract Tryz.prog 27 [.d (.int .i64 x),.d (.int .i64 n)] [] (.d (.int .i64 (U6 x n))) [] []:=by
 refine ay Tryz.func27 rfl (fun E0=>?_);refine iC.sound (g:=.mk) (ow:=[]) (kp:=(kb 0x853)) ?_;rw[Tryz.ntmps27];obtain⟨h1,h2⟩:=hn;simp -dsimp;refine QD.dec (fun h=>?_) (fun h=>?_)
 ·simp -dsimp;refine Fin.of ?_;simp[U6,h]
 ·simp -dsimp;refine⟨by omega,QD.dec (fun g=>?_) (fun g=>?_)⟩
  ·have:=ais (by omega) g;have:=oK x (b:=n) (by omega);have:=jy x (b:=n) (by omega);simp -dsimp(disch:=omega) [wrap_i64];refine Fin.of ?_;simp[U6,h];omega
  ·simp -dsimp;refine Fin.of ?_;simp[U6,h];exact air (by omega) g
theorem al8(T:Tp)(hT:iD T):Contract Tryz.prog 28 [.ptr (.x 0) 0] [kH T] (.d (.int .i64 (JH T).1)) [kH (JH T).2] []:=by
 obtain⟨l,i⟩:=T;have hi:l.length≤2000:=hT.1;refine ay Tryz.func28 rfl (fun E0=>?_);refine iC.sound (g:=.mk) (ow:=[]) (kp:=(kb 0x1005)) ?_;rw[Tryz.ntmps28];simp -dsimp[kH,ints];refine⟨QD.dec (fun h=>?_) (fun h=>?_),⟨by kernel_rfl⟩⟩
 ·simp -dsimp;refine Fin.of ?_;simp[kH,ints,h,JH]
 ·have h1:i<l.length:=by omega
  simp -dsimp(disch:=omega) [wrap_i64,aj h1];refine⟨h1,?_,⟨by kernel_rfl⟩⟩;refine Fin.of ?_;simp[kH,ints,JH,h,aj h1]
theorem t_(T:Tp)(hT:iD T)(n:Int)(hn:I64 n):Contract Tryz.prog 9 [.ptr (.x 0) 0,.d (.int .i64 n)] [kH T] (.d (.int .i64 (eG T n).1)) [kH (eG T n).2] []:=by refine ay Tryz.func9 rfl (fun E0=>?_);refine iC.sound (g:=.mk) (ow:=[]) (kp:=(kb 0x13)) ?_;rw[Tryz.ntmps9];simp -dsimp;refine aI.of (al8 T hT) [.x 0] 0 ?_;simp -dsimp;refine aI.of (alb (JH T).1 n hn) [] 0 ?_;simp -dsimp;refine Fin.of ?_;simp[eG]
theorem P8(T:Tp)(hT:iD T)(a b:Int)(_ha:I64 a)(hn:I64 (b-a))(hn1:I64 (b-a+1))(hb:I64 (ji T a b).1):Contract Tryz.prog 50 [.ptr (.x 0) 0,.d (.int .i64 a),.d (.int .i64 b)] [kH T] (.d (.int .i64 (ji T a b).1)) [kH (ji T a b).2] []:=by refine ay Tryz.func50 rfl (fun E0=>?_);refine iC.sound (g:=.mk) (ow:=[]) (kp:=(kb 0x47)) ?_;rw[Tryz.ntmps50];simp -dsimp[wrap_i64 hn.1 hn.2,wrap_i64 hn1.1 hn1.2];refine aI.of (t_ T hT (b-a+1) hn1) [.x 0] 0 ?_;have hb':I64 (a+(eG T (b-a+1)).1):=hb;simp -dsimp[wrap_i64 hb'.1 hb'.2];refine Fin.of ?_;simp[ji]
theorem M_(T:Tp)(hT:iD T)(l:List Int)(hl:0<l.length)(hl2:l.length<1000):Contract Tryz.prog 51 [.ptr (.x 0) 0,.d (ints l)] [kH T] (.d (.int .i64 (m_ T l).1)) [kH (m_ T l).2] []:=by
 refine ay Tryz.func51 rfl (fun E0=>?_);refine iC.sound (g:=.mk) (ow:=[]) (kp:=(kb 0x13)) ?_;rw[Tryz.ntmps51];simp -dsimp[ints];refine aI.of (t_ T hT l.length ⟨by omega,by omega⟩) [.x 0] 0 ?_;have h1:=iT T l.length;have h2:=l7 T (n:=l.length) (by omega);have h3:(eG T l.length).1.toNat<l.length:=by omega
 simp -dsimp[aj h3];refine⟨by omega,by omega,?_⟩;refine Fin.of ?_;simp[m_,ints,aj h3]
theorem ag8(l:List Int):Contract Tryz.prog 4 [.d (ints l)] [] (.ptr (.o 9) 0) [] [(9,kH (l.take 2000,0))]:=by
 have hm:X3 IntKind.i64 l.length 2000 = .d (.int .i64 (min l.length 2000:Nat)):=by simp[X3];omega
 refine ay Tryz.func4 rfl (fun E0=>?_);refine iC.sound (g:=.mk) (ow:=[]) (kp:=(kb 5)) ?_;rw[Tryz.ntmps4];simp -dsimp[ints,hm];refine⟨by omega,?_⟩;refine Fin.of ?_;simp[kH,ints];exact Nat.min_comm _ _
theorem H_:∀(n i:Nat) (T:Tp) (l:List Int),(D6 n i T l).2.1=T.1
 | 0,_,_,_=>rfl
 | n+1,i,T,l=>by rw[D6,H_];exact JI T
@[simp]theorem alo(T:Tp)(n:Int):iD (ZW T n).2=iD T:=by unfold ZW iD;rw[H_]
theorem aaM(l:List Int)(hl:l.length≤1000000)(n:Int):Contract Tryz.prog 13 [.d (ints l),.d (.int .i64 n)] [] (.d (ints (yg l n))) [] []:=by
 refine ay Tryz.func13 rfl (fun E0=>?_);refine iC.sound (g:=.mk) (ow:=[35]) (kp:=(kb 0x100040073)) ?_;rw[Tryz.ntmps13];simp -dsimp[ints]
 refine dD.of [] (kb 0x100040073) (ι:={p:Nat // p≤l.length∧insPos n l=p+insPos n (l.drop p)}) (fun z=>[(.s 0,It.v (.d (ints l))),(.s 1,It.v (.d (.int .i64 n))),(.s 4,It.v (.c (Value.slice none 0 0))),(.s 5,It.v (.d (.int .i64 z.1)))]) (fun z=>l.length-z.1) ⟨0,by omega,by simp⟩ ?_ ?_
 ·exact GS.to (by simp[ints])
 ·rintro⟨p,p1,p2⟩;by_cases hp:p<l.length
  ·have hd:l.drop p=l[p]::l.drop (p+1):=cZ _;by_cases h:l[p]<n
   ·simp -dsimp[ints,hp,h,wrap_i64 (n:=(p:Int)+1) (by omega) (by omega)];try refine⟨?_,⟨by kernel_rfl⟩⟩
    exact⟨⟨p+1,by omega,by rw[p2,hd,insPos,if_pos h];omega⟩,GS.to (by simp[ints]),by simp;omega⟩
   ·have hq:insPos n l=p:=by rw[p2,hd,insPos,if_neg h];omega
    by_cases he:l[p]=n
    ·simp -dsimp[ints,hp,h,he];try refine⟨?_,⟨by kernel_rfl⟩⟩
     refine Fin.of ?_;have hI:yg l n=l:=by rw[yg,if_pos (by rw[hq,aj hp,he])]
     simp[hI]
    ·simp -dsimp[ints,hp,h,he];have dl:dLen 1 (l.map fun x=>[D.int .i64 x]):=zK 1 _ _ fun _=>rfl
     and_intros;all_goals try first|omega|exact⟨by kernel_rfl⟩|exact DY dl|exact Sl (DY dl)|(simp;omega)
     refine Fin.view 4 ?_;simp -dsimp;and_intros;all_goals try first|omega|exact⟨by kernel_rfl⟩|(simp;omega)
     refine Fin.of ?_;have hI:yg l n=l.take p++[n]++l.drop p:=by rw[yg,hq,if_neg (by rw[aj hp];simpa using he)]
     simp[hI,ints,aS]
  ·have hq:insPos n l=p:=by rw[p2,g_ (by omega),insPos];omega
   simp -dsimp[ints,hp];have dl:dLen 1 (l.map fun x=>[D.int .i64 x]):=zK 1 _ _ fun _=>rfl
   and_intros;all_goals try first|omega|exact⟨by kernel_rfl⟩|exact DY dl|exact Sl (DY dl)|(simp;omega)
   refine Fin.view 4 ?_;simp -dsimp;and_intros;all_goals try first|omega|exact⟨by kernel_rfl⟩|(simp;omega)
   refine Fin.of ?_;have hI:yg l n=l.take p++[n]++l.drop p:=by rw[yg,hq,if_neg (by rw[dX (by omega)];simp)]
   simp[hI,ints,aS]
theorem aai(l:List Int)(hl:l.length≤1000000):Contract Tryz.prog 17 [.d (ints l),.d (ints l)] [] (.d (.bool true)) [] []:=by
 refine ay Tryz.func17 rfl (fun E0=>?_);refine iC.sound (g:=.mk) (ow:=[]) (kp:=(kb 0x2004433)) ?_;rw[Tryz.ntmps17];simp -dsimp[ints];and_intros;all_goals try first|rfl|omega|exact⟨by kernel_rfl⟩
 refine dD.of [] (kb 0x2004433) (ι:={i:Nat // i≤l.length}) (fun z=>[(.s 0,It.v (.d (ints l))),(.s 1,It.v (.d (ints l))),(.s 4,It.v (.d (.bool false))),(.s 5,It.v (.d (.int .i64 z.1)))]) (fun z=>l.length-z.1) ⟨0,by omega⟩ ?_ ?_
 ·exact GS.to (by simp[ints])
 ·rintro⟨i,i1⟩;by_cases hi:i<l.length
  ·have hiz:(i:Int)<l.length:=by omega
   have hg:l[i]? = some l[i]:=aj hi;generalize l[i]=v at hg;simp -dsimp[ints,hiz,hg,wrap_i64 (n:=(i:Int)+1) (by omega) (by omega)];and_intros;all_goals try first|rfl|omega|exact⟨by kernel_rfl⟩
   exact⟨⟨i+1,by omega⟩,GS.to (by simp[ints]),by simp;omega⟩
  ·have hiz :¬(i:Int)<l.length:=by omega
   simp -dsimp[ints,hiz];refine Fin.of ?_;simp
theorem adq(g:aX)(h0:jo g=0)(f t:Int):Contract Tryz.prog 37 [eU g,.d (.int .i64 f),.d (.int .i64 t)] [] (tq (price g.ls f t)) [] []:=by
 have hs:=(dV h0).sm;have hp:=Uc g hs f t;simp only[eU]at hp;refine ay Tryz.func37 rfl (fun E0=>?_);refine iC.sound (g:=.mk) (ow:=[]) (kp:=(kb 0x4cf)) ?_;rw[Tryz.ntmps37];simp -dsimp[eU];refine aI.of (Js g hs.r hs.l) [] 0 ?_;simp -dsimp[h0,eU];and_intros;all_goals try first|rfl|omega|exact⟨by kernel_rfl⟩
 refine aI.of hp [] 0 ?_;cases h:price g.ls f t with
 | none=>simp -dsimp[tq];refine Fin.of ?_;simp
 | some c=>simp -dsimp[tq];refine Fin.of ?_;simp
theorem aaw(g:aX)(h0:jo g=0)(r:Int):Contract Tryz.prog 54 [eU g,.d (.int .i64 r)] [] (.d (ints (near g r))) [] []:=by
 have hs:=(dV h0).sm;have hp:=ag6 g hs r;simp only[eU]at hp;refine ay Tryz.func54 rfl (fun E0=>?_);refine iC.sound (g:=.mk) (ow:=[]) (kp:=(kb 0x97)) ?_;rw[Tryz.ntmps54];simp -dsimp[eU];refine aI.of (Js g hs.r hs.l) [] 0 ?_;simp -dsimp[h0,eU];and_intros;all_goals try first|rfl|omega|exact⟨by kernel_rfl⟩
 refine aI.of hp [] 0 ?_;simp -dsimp[ints];refine Fin.of ?_;simp[ints]
theorem aan(n:Int):Contract Tryz.prog 53 [.d (.int .i64 n)] [] (.d (.bool (decide (n=8)||(decide (n=16)||(decide (n=32)||decide (n=64)))))) [] []:=by
 refine ay Tryz.func53 rfl (fun E0=>?_);refine iC.sound (g:=.mk) (ow:=[]) (kp:=(kb 5)) ?_;rw[Tryz.ntmps53];by_cases h1:n=8
 ·simp -dsimp[eq_true h1];and_intros;all_goals try first|rfl|omega|exact⟨by kernel_rfl⟩
  refine Fin.of ?_;simp[h1]
 by_cases h2:n=16
 ·simp -dsimp[h1,eq_true h2];and_intros;all_goals try first|rfl|omega|exact⟨by kernel_rfl⟩
  refine Fin.of ?_;simp[h1,h2]
 by_cases h3:n=32
 ·simp -dsimp[h1,h2,eq_true h3];and_intros;all_goals try first|rfl|omega|exact⟨by kernel_rfl⟩
  refine Fin.of ?_;simp[h1,h2,h3]
 by_cases h4:n=64
 ·simp -dsimp[h1,h2,h3,eq_true h4];and_intros;all_goals try first|rfl|omega|exact⟨by kernel_rfl⟩
  refine Fin.of ?_;simp[h1,h2,h3,h4]
 ·simp -dsimp[h1,h2,h3,h4];and_intros;all_goals try first|rfl|omega|exact⟨by kernel_rfl⟩
  refine Fin.of ?_;simp[h1,h2,h3,h4]
end Go.Proofs

namespace Go.Proofs
structure Ad where
 b:Nat
 r:Int
 k:Int
 to:Int
 deriving DecidableEq
def ownB(l:List Ad)(r:Int):BitVec 64:=l.foldl (fun o a=>if a.r=r then o|||1#64<<<a.b else o) 0#64
def y7(l:List Ad)(v:Int)(p:Pk):List Ad:=l.filter fun a=>decide (a.r=v∧a.k=3)&&p.bits.getLsbD a.b
def O0(l:List Ad)(v:Int)(p:Pk):List Ad:=l.filter fun a=>decide (a.r=v∧a.k≠3)&&p.bits.getLsbD a.b
def xG(l:List Ad)(q:Int×Pk):List (Int×Pk):=if q.2.bits &&& ~~~ ownB l q.1=0#64 then []else(O0 l q.1 q.2).map fun a=>(a.to,lX q.2 (~~~ ownB l q.1))
def Af(l:List Ad)(q:Int×Pk)(t:sG):sG:=⟨t.dl++(y7 l q.1 q.2).map (fun a=>(q.1,rY q.2 a.b)),t.cr++(xG l q).map (fun c=>(q.1,c.1,c.2.bits)),t.ls⟩
def yK(l:List Ad):Nat→List (Int×Pk)→sG→sG
 | 0,_,t=>t
 | _+1,[],t=>t
 | n+1,q::Q,t=>yK l n (Q++xG l q) (Af l q t)
def okE(g:aX)(l:List Ad):Nat→List (Int×Pk)→sG→Prop
 | 0,Q,_=>Q = []
 | _+1,[],_=>True
 | n+1,q::Q,t=>q.2.ok=true∧q.2.ttl≠0∧(∀c∈xG l q,(price g.ls q.1 c.1).isSome)∧(Af l q t).cr.length≤2000∧okE g l n (Q++xG l q) (Af l q t)
theorem ahY(l:List Ad)(n:Nat)(t:sG):yK l n [] t=t:=by cases n<;>rfl
structure acY(l:List Ad):Prop where
 BP:l.Pairwise fun a b=>a.b<b.b
 lt:∀a∈l,a.b<64
theorem acy{l:List Ad}(h:∀a∈l,a.b<64)(r:Int){k:Nat}(hk:k<64):(ownB l r).getLsbD k=true↔∃a∈l,a.r=r∧a.b=k:=by
 have key:∀(l:List Ad) (o:BitVec 64),(∀a∈l,a.b<64)→((l.foldl (fun o a=>if a.r=r then o|||1#64<<<a.b else o) o).getLsbD k=true↔o.getLsbD k=true∨∃a∈l,a.r=r∧a.b=k):=by
  intro l
  induction l with
  | nil=>intro o _;simp
  | cons a l ih=>
    intro o h;rw[bV,ih _ fun x hx=>h x (by simp[hx])];have ha:=h a (by simp);by_cases e:a.r=r
    ·rw[if_pos e,kX,bJ,Ak ha hk];simp only[decide_eq_true_eq,aF,exists_eq_or_imp,e,true_and];constructor
     ·rintro ((h|h)|h)
      ·exact .inl h
      ·exact .inr (.inl h.symm)
      ·exact .inr (.inr h)
     ·rintro (h|h|h)
      ·exact .inl (.inl h)
      ·exact .inl (.inr h.symm)
      ·exact .inr h
    ·rw[if_neg e];simp[e]
 have:=key l 0#64 h;simpa[ownB]using this
theorem acY.inj{l:List Ad}(h:acY l){a b:Ad}(ha:a∈l)(hb:b∈l)(e:a.b=b.b):a=b:=by
 have:=h.BP
 induction l with
 | nil=>simp at ha
 | cons x l ih=>
   rw[dM]at this
   rcases aF.1 ha with rfl|ha'<;>rcases aF.1 hb with rfl|hb'
   ·rfl
   ·have:=this.1 b hb';omega
   ·have:=this.1 a ha';omega
   ·exact ih ⟨this.2,fun y hy=>h.lt y (by simp[hy])⟩ ha' hb' this.2
structure RJ(g:aX)(l:List Ad)(T:List (Int×Int))(rec:List Int)(root:Int)(N:List Int)(B:BitVec 64):Prop where
 eng:acY l
 kd:∀a∈l,a.k=1∨a.k=3
 dl:∀v∈N,l.filter (fun a=>decide (a.r=v∧a.k=3))=(l.filter (fun a=>decide (a.r=v∧a.k=3))).take 1
 dr:∀v∈rec,∃a∈l,a.r=v∧a.k=3
 lk:∀h∈T,∃a∈l,a.r=h.1∧a.k=1∧a.to=h.2
 bits:∀a∈l,B.getLsbD a.b=true↔(a.k=3∧a.r∈rec)∨(a.k=1∧(a.r,a.to)∈T)
 all:∀k<64,B.getLsbD k=true→∃a∈l,a.b=k
 nd:∀v,((l.filter fun a=>decide (a.r=v∧a.k=1)).map (·.to)).Nodup
 price:∀h∈T,(price g.ls h.1 h.2).isSome
 one:∀u v w,(v,u)∈T→(w,u)∈T→v=w
 no:∀v,(v,root)∉T
 sub:∀h∈T,h.2∈N
 root:root∈N
 n:N.length≤60
 leaf:∀h∈T,h.2∈rec∨∃w,(h.2,w)∈T
 atG:∀v∈rec,v∈N
def chE(l:List Ad)(T:List (Int×Int))(v:Int):List Int:=(l.filter fun a=>decide (a.r=v∧a.k=1)&&decide ((a.r,a.to)∈T)).map (·.to)
section
variable {g:aX} {l:List Ad} {T:List (Int×Int)} {rec:List Int} {root:Int} {N:List Int} {B:BitVec 64}
theorem FP(hE:RJ g l T rec root N B){v u:Int}:u∈chE l T v↔(v,u)∈T:=by
 simp only[chE,ak,bK,aG,decide_eq_true_eq];constructor
 ·rintro⟨a,⟨_,⟨rfl,_⟩,h⟩,rfl⟩;exact h
 ·intro h;obtain⟨a,ha,h1,h2,h3⟩:=hE.lk _ h;simp only at h1 h3;exact⟨a,⟨ha,⟨h1,h2⟩,by rw[h1,h3];exact h⟩,h3⟩
theorem RJ.tree(hE:RJ g l T rec root N B):abm (chE l T) root N where
 one u v w h1 h2:=hE.one u v w ((FP hE).1 h1) ((FP hE).1 h2)
 no v h:=hE.no v ((FP hE).1 h)
 nd v:=by
  refine List.Nodup.sublist ?_ (hE.nd v);have e:chE l T v=((l.filter fun a=>decide (a.r=v∧a.k=1)).filter fun a=>decide ((a.r,a.to)∈T)).map (·.to):=by
   unfold chE;rw[mF]
   congr 2
   funext a
   exact oC _ _
  rw[e];exact(lI).map _
 sub v _ u hu:=hE.sub _ ((FP hE).1 hu)
 root:=hE.root
structure ae_(g:aX)(l:List Ad)(T:List (Int×Int))(rec:List Int)(root:Int)(N:List Int)(B:BitVec 64)(P:List Int)(Q:List (Int×Pk)):Prop where
 q:Wq (chE l T) root N P (Q.map (·.1))
 ok:∀c∈Q,c.2.ok=true∧(63:Int)≤c.2.ttl+P.length∧(∀k<64,c.2.bits.getLsbD k=true→B.getLsbD k=true)∧∀a∈l,B.getLsbD a.b=true→a.r∉P→c.2.bits.getLsbD a.b=true
theorem ae_.step(hE:RJ g l T rec root N B){P:List Int}{Q:List (Int×Pk)}{v:Int}{p:Pk}(h:ae_ g l T rec root N B P ((v,p)::Q)):
  p.ok=true∧p.ttl≠0∧v∉P∧v∈N∧(xG l (v,p)).map (·.1)=chE l T v∧(y7 l v p).map (fun a=>v)=(if v∈rec then [v]else [])∧ae_ g l T rec root N B (P++[v]) (Q++xG l (v,p)):=by
 obtain⟨h1,h2,h3,h4⟩:=h.ok (v,p) (by simp);simp only at h1 h2 h3 h4;have hq:=h.q;rw[aC]at hq
 have hnd:=hq.nd;have hvP:v∉P:=fun hv=>(fV.1 hnd).2.2 v hv v (by simp) rfl
 have hvN:v∈N:=hq.sub v (by simp);have hlen:=qP hnd hq.sub;rw[aU,aH]at hlen
 have hN:=hE.n;have axF:=AP h1;have ht:p.ttl≠0:=by omega
 have hbit:∀a∈l,a.r=v→(p.bits.getLsbD a.b=true↔B.getLsbD a.b=true):=fun a ha e=>⟨h3 _ (hE.eng.lt a ha),fun hb=>h4 a ha hb (by rw[e];exact hvP)⟩
 have aod:O0 l v p=l.filter fun a=>decide (a.r=v∧a.k=1)&&decide ((a.r,a.to)∈T):=by
  unfold O0;refine iy fun a ha=>?_
  rw[iE];simp only[aG,decide_eq_true_eq];have hk:=hE.kd a ha;constructor
  ·rintro⟨⟨a1,a2⟩,a3⟩;have:=(hE.bits a ha).1 ((hbit a ha a1).1 a3);exact⟨⟨a1,by omega⟩,this.elim (fun h=>absurd h.1 a2) (fun h=>h.2)⟩
  ·rintro⟨⟨a1,a2⟩,a3⟩;exact⟨⟨a1,by omega⟩,(hbit a ha a1).2 ((hE.bits a ha).2 (.inr ⟨a2,a3⟩))⟩
 have hrest:O0 l v p≠[]→p.bits &&& ~~~ ownB l v≠0#64:=by
  intro hne;obtain⟨a,ha⟩:=List.exists_mem_of_ne_nil _ hne;rw[aod,bK]at ha
  simp only[aG,decide_eq_true_eq]at ha;obtain⟨ha,⟨rfl,_⟩,hT⟩:=ha;have hu:∃c∈l,c.r=a.to∧B.getLsbD c.b=true:=by
   rcases hE.leaf _ hT with h|⟨w,h⟩
   ·obtain⟨c,hc,c1,c2⟩:=hE.dr _ h;exact⟨c,hc,c1,(hE.bits c hc).2 (.inl ⟨c2,by rw[c1];exact h⟩)⟩
   ·obtain⟨c,hc,c1,c2,c3⟩:=hE.lk _ h;exact⟨c,hc,c1,(hE.bits c hc).2 (.inr ⟨c2,by rw[c1,c3];exact h⟩)⟩
  obtain⟨c,hc,c1,c2⟩:=hu;have hch:a.to∈chE l T a.r:=(FP hE).2 hT;have hnP:a.to∉P∧a.to≠a.r:=by have hs:=(hq.step hE.tree).nd;have hm:a.to∈Q.map (·.1)++chE l T a.r:=aN.2 (.inr hch);have h5:=(fV.1 hs).2.2;exact⟨fun hp=>h5 a.to (by simp[hp]) a.to hm rfl,fun e=>h5 a.r (by simp) a.to hm e.symm⟩
  intro hz;have hz2:=congrArg (fun z=>z.getLsbD c.b) hz;have hcl:=hE.eng.lt c hc;simp only[dG,jw,hcl,decide_true,jq,gQ,Bool.and_eq_false_iff,Bool.not_eq_false']at hz2;rcases hz2 with hz2|hz2
  ·rw[h4 c hc c2 (by rw[c1];exact hnP.1)]at hz2;simp at hz2
  ·obtain⟨d,hd,d1,d2⟩:=(acy hE.eng.lt a.r hcl).1 hz2;have:=hE.eng.inj hd hc d2;subst this;exact hnP.2 (c1.symm.trans d1)
 have hnext:xG l (v,p)=(O0 l v p).map fun a=>(a.to,lX p (~~~ ownB l v)):=by
  unfold xG;by_cases e:O0 l v p = []
  ·simp[e]
  ·rw[if_neg (hrest e)]
 have hmap:(xG l (v,p)).map (·.1)=chE l T v:=by rw[hnext,aod,aY];rfl
 refine⟨h1,ht,hvP,hvN,hmap,?_,?_,?_⟩
 ·by_cases hr:v∈rec
  ·rw[if_pos hr];have e1:y7 l v p=l.filter fun a=>decide (a.r=v∧a.k=3):=by
    unfold y7;refine iy fun a ha=>?_
    rw[iE];simp only[aG,decide_eq_true_eq];exact⟨fun h=>h.1,fun h=>⟨h,(hbit a ha h.1).2 ((hE.bits a ha).2 (.inl ⟨h.2,by rw[h.1];exact hr⟩))⟩⟩
   obtain⟨a,ha,a1,a2⟩:=hE.dr v hr;have hmem:a∈l.filter fun a=>decide (a.r=v∧a.k=3):=bK.2 ⟨ha,by simp[a1,a2]⟩
   have e2:=hE.dl v hvN;rw[e1];generalize (l.filter fun a=>decide (a.r=v∧a.k=3))=D at hmem e2
   match D,hmem,e2 with
   | [x],_,_=>rfl
   | x::y::z,_,e2=>simp at e2
  ·rw[if_neg hr];have e1:y7 l v p = []:=by
    unfold y7;rw[fJ];intro a ha hb;simp only[aG,decide_eq_true_eq]at hb;rcases (hE.bits a ha).1 ((hbit a ha hb.1.1).1 hb.2)with h|h
    ·exact hr (by rw[←hb.1.1];exact h.2)
    ·omega
   rw[e1];rfl
 ·rw[gu,hmap];exact hq.step hE.tree
 ·intro c hc;rcases aN.1 hc with hc|hc
  ·obtain⟨g1,g2,g3,g4⟩:=h.ok c (by simp[hc]);refine⟨g1,by rw[aU,aH,dh];omega,g3,fun a ha hb hp=>g4 a ha hb fun e=>hp (by simp[e])⟩
  ·rw[hnext]at hc
   obtain⟨a,_,rfl⟩:=ak.1 hc;refine⟨MS h1 ht _,?_,fun k hk hb=>?_,fun a ha hb hp=>?_⟩
   ·simp only[lX,aU,aH,dh];omega
   ·simp only[lX,dG,aG]at hb;exact h3 k hk hb.1
   ·have hal:=hE.eng.lt a ha;simp only[lX,dG,jw,hal,decide_true,jq,aG,fB];simp only[aN,dH,not_or]at hp;refine⟨h4 a ha hb hp.1,?_⟩;rw[←nV,acy hE.eng.lt v hal];rintro⟨d,hd,d1,d2⟩;have:=hE.eng.inj hd ha d2;subst this;exact hp.2 d1
theorem Uj(hE:RJ g l T rec root N B):∀(n:Nat) {P:List Int} {Q:List (Int×Pk)} {t:sG},ae_ g l T rec root N B P Q→N.length≤P.length+n→t.cr.length+1≤P.length+Q.length→t.ls = []→
  okE g l n Q t∧(yK l n Q t).ls = []∧(yK l n Q t).dl.map (·.1)=t.dl.map (·.1)++(NG (chE l T) n (Q.map (·.1))).filter (fun v=>decide (v∈rec))
 | 0,P,Q,t,h,hn,hc,hl=>by
   have h1:=qP h.q.nd h.q.sub;rw[aU,aV]at h1
   obtain rfl:Q = []:=dS.1 (by omega);exact⟨rfl,hl,by simp[yK,NG]⟩
 | n+1,P,[],t,h,hn,hc,hl=>⟨trivial,hl,by simp[yK,NG]⟩
 | n+1,P,(v,p)::Q,t,h,hn,hc,hl=>by
   obtain⟨s1,s2,s3,s4,s5,s6,s7⟩:=h.step hE;have hlen:=qP s7.q.nd s7.q.sub;have hnl:(xG l (v,p)).length=(chE l T v).length:=by rw[←s5,aV]
   rw[aU,aU,aV,aU]at hlen
   have hN:=hE.n;have hcr:(Af l (v,p) t).cr.length=t.cr.length+(xG l (v,p)).length:=by simp[Af]
   obtain⟨r1,r2,r3⟩:=Uj hE n s7 (t:=Af l (v,p) t) (by simp;omega) (by rw[hcr];simp only[aU,aH,dh]at *;omega) hl;refine⟨⟨s1,s2,fun c hc=>?_,by rw[hcr];simp only[aH,dh]at hlen hc;omega,r1⟩,r2,?_⟩
   ·have:c.1∈chE l T v:=by rw[←s5];exact eX hc
    exact hE.price _ ((FP hE).1 this)
   ·have e:(Af l (v,p) t).dl.map (·.1)=t.dl.map (·.1)++if v∈rec then [v]else []:=by
     rw[←s6];simp[Af]
    rw[yK,r3,e,aC,NG,dI,gu,s5,dP]
    congr 1
    by_cases hr:v∈rec<;>simp[hr]
end
end Go.Proofs

set_option maxHeartbeats 4000000
namespace Go.Proofs
open Go Go.Tr
def Ad.cs(a:Ad):List D:=[.int .i64 a.b,.int .i64 a.r,.int .i64 a.k,.int .i64 a.to]
def wZ(l:List Ad):List (List D):=l.map Ad.cs
def rX(n:Int)(l:List Ad):TV:=.agg [.d (.int .i64 n),.d (.sl (wZ l))]
def qY(l:List Ad)(r k to:Int):List Ad:=l++[⟨l.length,r,k,to⟩]
def sW(l:List Ad)(r:Int)(qs:List Int):List Ad:=qs.foldl (fun l q=>qY l r 1 q) l
def zN(g:aX)(l:List Ad)(r:Int):List Ad:=sW (qY l r 3 r) r (near g r)
def jJ(g:aX):List Ad:=g.rs.foldl (fun l x=>zN g l x.id) []
theorem vU(r:Int):∀(qs:List Int) (l:List Ad),(sW l r qs).length=l.length+qs.length
 | [],l=>rfl
 | q::qs,l=>by have:=vU r qs (qY l r 1 q);simp only[sW,bV]at this⊢;rw[this];simp[qY];omega
theorem Xp{g:aX}(n:Nat)(hn:g.rs.length≤n):∀(rs:List Rt) (l:List Ad),(rs.foldl (fun l x=>zN g l x.id) l).length≤l.length+rs.length*(n+1)
 | [],l=>by simp
 | x::rs,l=>by
   have:=Xp n hn rs (zN g l x.id);have h2:=Yb g x.id;rw[bV];have h3:(zN g l x.id).length=l.length+1+(near g x.id).length:=by simp[zN,vU,qY]
   rw[aH,Nat.succ_mul];omega
def abK(g:aX)(n:Int):TV:=if n<(jJ g).length then .qh [rX 0 [],.d (.int .i64 3)]else .qh [rX n (jJ g),.d (.int .i64 0)]
theorem af7(g:aX)(h0:jo g=0):Contract Tryz.prog 20 [eU g,.d (.int .i64 64)] [] (abK g 64) [] []:=by
 have hg:=dV h0;have hs:=hg.sm;have hne:=aaw g h0;simp only[eU]at hne;have aoe:=hg.nr;refine ay Tryz.func20 rfl (fun E0=>?_);refine iC.sound (g:=.mk) (ow:=[]) (kp:=(kb 0x100000f00003c22577)) ?_;rw[Tryz.ntmps20];simp -dsimp[eU]
 refine aI.of (Js g hs.r hs.l) [] 0 ?_;simp -dsimp[h0,eU];and_intros;all_goals try first|rfl|omega|exact⟨by kernel_rfl⟩
 refine aI.of (aan 64) [] 0 ?_;simp -dsimp[h0,eU];and_intros;all_goals try first|rfl|omega|exact⟨by kernel_rfl⟩
 have hfl:∀i,i≤g.rs.length→((g.rs.take i).foldl (fun l x=>zN g l x.id) []).length≤600:=fun i hi=>by
  have:=Xp (g:=g) 24 aoe (g.rs.take i) [];rw[gG,dh]at this
  have:min i g.rs.length*25≤24*25:=dN _ (by omega);omega
 refine dD.of [] (kb 0x100000f00003c22577) (ι:={z:Nat×List Ad // z.1≤g.rs.length∧z.2=(g.rs.take z.1).foldl (fun l x=>zN g l x.id) []})
  (fun z=>[(.s 0,It.v (.agg [TV.d (.sl (rts g.rs)),TV.d (.sl (nS g.ls))])),(.s 1,It.v (.d (.int .i64 64))),(.o 2,It.box [TV.d (.sl (rts g.rs)),TV.d (.sl (nS g.ls))]),
   (.s 2,It.v (.ptr (.o 2) 0)),(.o 4,It.box [TV.d (.int .i64 0),TV.c (Value.slice none 0 0)]),(.s 4,It.v (.ptr (.o 4) 0)),(.s 5,It.v (.d (.int .i64 0))),
   (.o 6,It.box [TV.d (.int .i64 64),TV.aW 60 z.1.2.length]),(.s 6,It.v (.ptr (.o 6) 0)),(.o 60,It.row 149 4 (dd (z.1.2.map Ad.cs)) false),
   (.s 22,It.v (.d (.sl (rts g.rs)))),(.s 23,It.v (.d (.int .i64 g.rs.length))),(.s 24,It.v (.d (.int .i64 z.1.1)))])
  (fun z=>g.rs.length-z.1.1) ⟨(0,[]),by omega,rfl⟩ ?_ ?_
 ·exact GS.Df (.o 6) 1 60 (cs:=[.d (.int .i64 64),.c (.slice none 0 0)]) 149 4 (by simp) (by simp) (by simp) (by simp) (by simp)
 ·rintro⟨⟨i,l⟩,i1,i2⟩;simp only at i1 i2;have hl6:=hfl i i1;rw[←i2]at hl6
  by_cases hi:i<g.rs.length
  ·have hiz:(i:Int)<g.rs.length:=by omega
   have hgr:g.rs[i]? = some g.rs[i]:=aj hi;have ht:g.rs.take (i+1)=g.rs.take i++[g.rs[i]]:=by rw[aT,hgr];rfl
   have hl7:=hfl (i+1) (by omega);rw[ht,dZ,←i2]at hl7
   have hi2:zN g l g.rs[i].id=(g.rs.take (i+1)).foldl (fun l x=>zN g l x.id) []:=by rw[ht,dZ,←i2];rfl
   simp only[bV,List.foldl_nil]at hl7;generalize g.rs[i]=x at hgr hi2 hl7;have hnr:=Yb g x.id;have hgx:(rts g.rs)[i]? = some [.int .i64 x.id,.bool x.cap]:=by simp[rts,hgr,Rt.cs]
   simp -dsimp[hiz,hgx];and_intros;all_goals try first|rfl|omega|exact⟨by kernel_rfl⟩
   refine aI.of (hne x.id) [] 0 ?_;obtain⟨N,hN⟩:∃N,N=near g x.id:=⟨_,rfl⟩
   have hlR:zN g l x.id=sW (qY l x.id 3 x.id) x.id N:=by rw[hN];rfl
   rw[←hN]at hnr⊢
   rw[hlR]at hi2 hl7
   rw[vU]at hl7
   have hal:(qY l x.id 3 x.id).length=l.length+1:=by simp[qY]
   simp -dsimp[ints];refine dD.of [] (kb 0x100000f00003c22577) (ι:={z:Nat×List Ad // z.1≤N.length∧z.2=sW (qY l x.id 3 x.id) x.id (N.take z.1)})
    (fun z=>[(.s 0,It.v (.agg [TV.d (.sl (rts g.rs)),TV.d (.sl (nS g.ls))])),(.s 1,It.v (.d (.int .i64 64))),(.o 2,It.box [TV.d (.sl (rts g.rs)),TV.d (.sl (nS g.ls))]),
     (.s 2,It.v (.ptr (.o 2) 0)),(.o 4,It.box [TV.d (.int .i64 0),TV.c (Value.slice none 0 0)]),(.s 4,It.v (.ptr (.o 4) 0)),(.s 5,It.v (.d (.int .i64 0))),
     (.o 6,It.box [TV.d (.int .i64 64),TV.aW 60 z.1.2.length]),(.s 6,It.v (.ptr (.o 6) 0)),(.o 60,It.row 149 4 (dd (z.1.2.map Ad.cs)) false),
     (.s 22,It.v (.d (.sl (rts g.rs)))),(.s 23,It.v (.d (.int .i64 g.rs.length))),(.s 24,It.v (.d (.int .i64 i))),
     (.o 8,It.box [TV.d (.int .i64 x.id),TV.d (.bool x.cap)]),(.s 8,It.v (.ptr (.o 8) 0)),
     (.s 44,It.v (.d (.sl (List.map (fun n=>[D.int .i64 n]) N)))),(.s 45,It.v (.d (.int .i64 N.length))),(.s 46,It.v (.d (.int .i64 z.1.1)))])
    (fun z=>N.length-z.1.1) ⟨(0,qY l x.id 3 x.id),by omega,rfl⟩ ?_ ?_
   ·exact GS.to (by simp[hal,qY,Ad.cs])
   ·rintro⟨⟨j,m⟩,j1,j2⟩;simp only at j1 j2;have hml:m.length≤l.length+1+j:=by rw[j2,vU,hal,gG];omega
    by_cases hj:j<N.length
    ·have hjz:(j:Int)<N.length:=by omega
     have hgn:N[j]? = some N[j]:=aj hj;have ht2:N.take (j+1)=N.take j++[N[j]]:=by rw[aT,hgn];rfl
     generalize N[j]=q at hgn ht2;have hm2:qY m x.id 1 q=sW (qY l x.id 3 x.id) x.id (N.take (j+1)):=by rw[ht2,sW,dZ,j2];rfl
     simp -dsimp[hjz,hgn,wrap_i64 (n:=(j:Int)+1) (by omega) (by omega)];and_intros;all_goals try first|rfl|omega|exact⟨by kernel_rfl⟩
     exact⟨⟨(j+1,qY m x.id 1 q),by omega,hm2⟩,GS.to (by simp[qY,Ad.cs]),by simp;omega⟩
    ·have hjz :¬(j:Int)<N.length:=by omega
     have hm2:m=sW (qY l x.id 3 x.id) x.id N:=by rw[j2,aS (by omega)]
     simp -dsimp[hjz,wrap_i64 (n:=(i:Int)+1) (by omega) (by omega)];and_intros;all_goals try first|rfl|omega|exact⟨by kernel_rfl⟩
     exact⟨⟨(i+1,m),by omega,by rw[hm2];exact hi2⟩,GS.to (by simp),by simp;omega⟩
  ·have hiz :¬(i:Int)<g.rs.length:=by omega
   have hlE:l=jJ g:=by rw[i2,aS (by omega)];rfl
   simp -dsimp[hiz];by_cases hc:64<l.length
   ·have hcz:(64:Int)<l.length:=by omega
    simp -dsimp[hcz];and_intros;all_goals try first|rfl|omega|exact⟨by kernel_rfl⟩
    refine Fin.box (.o 4) rfl ?_;simp -dsimp;refine Fin.of ?_;simp[abK,rX,wZ,←hlE,hcz]
   ·have hcz :¬(64:Int)<l.length:=by omega
    simp -dsimp[hcz];and_intros;all_goals try first|rfl|omega|exact⟨by kernel_rfl⟩
    refine Fin.box (.o 4) rfl ?_;simp -dsimp;refine Fin.of ?_;simp[abK,rX,wZ,←hlE,hcz]
set_option maxHeartbeats 8000000
def Ad.tg(a:Ad):List Int:=[a.r,a.k,a.to]
structure BR(n:Int)(l:List Ad):Prop where
 len:eP n=true
 bit:∀a∈l,(a.b:Int)<n
 rt:∀a∈l,(1≤a.r∧a.r≤99)∧1≤a.to∧a.to≤99
 kd:∀a∈l,1≤a.k∧a.k≤3
 dv:∀a∈l,a.to=a.r↔a.k=3
 BP:l.Pairwise fun a b=>a.b<b.b
 nd:(l.map Ad.tg).Nodup
 sm:l.length≤64
theorem zD(n:Int):Contract Tryz.prog 108 [.d (.int .i64 n)] [] (.d (.bool (decide (1≤n∧n≤99)))) [] []:=by
 refine ay Tryz.func108 rfl (fun E0=>?_);refine iC.sound (g:=.mk) (ow:=[]) (kp:=(kb 5)) ?_;rw[Tryz.ntmps108];by_cases h1:1≤n
 ·by_cases h2:n≤99
  ·simp -dsimp[eq_true h1,eq_true h2];and_intros;all_goals try first|rfl|omega|exact⟨by kernel_rfl⟩
   refine Fin.of ?_;simp[h1,h2]
  ·simp -dsimp[eq_true h1,h2];and_intros;all_goals try first|rfl|omega|exact⟨by kernel_rfl⟩
   refine Fin.of ?_;simp[h1,h2]
 ·simp -dsimp[h1];and_intros;all_goals try first|rfl|omega|exact⟨by kernel_rfl⟩
  refine Fin.of ?_;simp[h1]
theorem akD(a:Ad):Contract Tryz.prog 109 [.agg (a.cs.map .d)] [] (.agg (a.tg.map fun x=>.d (.int .i64 x))) [] []:=by
 refine ay Tryz.func109 rfl (fun E0=>?_);refine iC.sound (g:=.mk) (ow:=[]) (kp:=(kb 7)) ?_;rw[Tryz.ntmps109];simp -dsimp[Ad.cs];and_intros;all_goals try first|rfl|omega|exact⟨by kernel_rfl⟩
 refine Fin.box (.o 2) rfl ?_;simp -dsimp;refine Fin.of ?_;simp[Ad.tg]
def tgM(l:List Ad):List (List Int×TV):=l.map fun a=>(a.tg,TV.d (.bool true))
theorem akk(l:List Ad):rQ 3 (tgM l):=fun y hy=>by obtain⟨a,_,rfl⟩:=ak.1 hy;rfl
theorem amz{l:List Ad}{k:List Int}:k∉l.map Ad.tg→kJ (tgM l) k=none:=by
 induction l with
 | nil=>intro _;rfl
 | cons a l ih=>intro h;simp only[aC,aF,not_or]at h;simp only[tgM,aC,kJ];rw[if_neg h.1];exact ih h.2
theorem akl{l:List Ad}{k:List Int}(h:k∉l.map Ad.tg)(v:TV):oq (tgM l) k v=tgM l++[(k,v)]:=CX fun x hx e=>by obtain⟨a,ha,rfl⟩:=ak.1 hx;exact h (ak.2 ⟨a,ha,e⟩)
@[simp]theorem aoQ{po:Nat→Prop}{l:List Ad}{c:Nat}{pd:Option (List Int)}{s:Option jB}:It.only po (It.fO (tgM l) c pd s):=by intro x hx;obtain⟨y,_,rfl⟩:=ak.1 hx;exact trivial
theorem Qw(n:Int)(l:List Ad)(h:BR n l):Contract Tryz.prog 44 [rX n l] [] (.d (.int .i64 0)) [] []:=by
 have hof:=fun a=>akD a
 refine ay Tryz.func44 rfl (fun E0=>?_);refine iC.sound (g:=.mk) (ow:=[3000101]) (kp:=(kb 0x107900010400f200f2000003d1757)) ?_;rw[Tryz.ntmps44];simp -dsimp[rX]
 refine aI.of (jY n) [] 0 ?_;simp -dsimp[h.len];and_intros;all_goals try first|rfl|omega|exact⟨by kernel_rfl⟩
 have hsm:=h.sm;have hlen:(wZ l).length=l.length:=by simp[wZ]
 have hget:∀(i:Nat) (a:Ad),l[i]? = some a→(wZ l)[i]? = some a.cs:=fun i a h=>by simp[wZ,h]
 refine dD.of [3000101] (kb 0x107900010400f200f2000003d1757) (ι:={i:Nat // i≤l.length}) (fun z=>[(.s 0,It.v (.agg [TV.d (.int .i64 n),TV.d (.sl (wZ l))])),(.o 1,It.box [TV.d (.int .i64 n),TV.d (.sl (wZ l))]),(.s 1,It.v (.ptr (.o 1) 0)),(.s 2,It.v (.d (.int .i64 0))),(.s 18,It.v (.d (.sl (wZ l)))),(.s 19,It.v (.d (.int .i64 l.length))),(.s 20,It.v (.d (.int .i64 z.1)))]) (fun z=>l.length-z.1) ⟨0,by omega⟩ ?_ ?_
 ·exact GS.to (by simp[hlen])
 ·rintro⟨i,i1⟩;by_cases hi:i<l.length
  ·have hiz:(i:Int)<l.length:=by omega
   have hl:=aj hi;have hm:=aJ hi;have hg:=hget i _ hl;generalize l[i]=a at hm hg;have c1:=h.bit a hm;obtain⟨c2,c3⟩:=h.rt a hm;have n1 :¬((a.b:Int)<0):=by omega
   have n2 :¬(n≤(a.b:Int)):=by omega
   simp -dsimp[hiz,hg,hlen,Ad.cs,n1,n2];and_intros;all_goals try first|rfl|omega|exact⟨by kernel_rfl⟩
   refine aI.of (zD a.r) [] 0 ?_;simp -dsimp[c2];refine aI.of (zD a.to) [] 0 ?_;simp -dsimp[c3,wrap_i64 (n:=(i:Int)+1) (by omega) (by omega)];and_intros;all_goals try first|rfl|omega|exact⟨by kernel_rfl⟩
   exact⟨⟨i+1,by omega⟩,GS.to (by simp),by simp;omega⟩
  ·have hiz :¬(i:Int)<l.length:=by omega
   simp -dsimp[hiz];and_intros;all_goals try first|rfl|omega|exact⟨by kernel_rfl⟩
   refine dD.of [3000101] (kb 0x107900010400f200f2000003d1757) (ι:={i:Nat // i≤l.length}) (fun z=>[(.s 0,It.v (.agg [TV.d (.int .i64 n),TV.d (.sl (wZ l))])),(.o 1,It.box [TV.d (.int .i64 n),TV.d (.sl (wZ l))]),(.s 1,It.v (.ptr (.o 1) 0)),(.s 2,It.v (.d (.int .i64 0))),(.s 48,It.v (.d (.sl (wZ l)))),(.s 49,It.v (.d (.int .i64 l.length))),(.s 50,It.v (.d (.int .i64 z.1)))]) (fun z=>l.length-z.1) ⟨0,by omega⟩ ?_ ?_
   ·exact GS.to (by simp[hlen])
   ·rintro⟨i,i1⟩;by_cases hi:i<l.length
    ·have hiz:(i:Int)<l.length:=by omega
     have hl:=aj hi;have hm:=aJ hi;have hg:=hget i _ hl;generalize l[i]=a at hm hg;obtain⟨c1,c2⟩:=h.kd a hm;have n1 :¬(a.k<1):=by omega
     have n2 :¬(3<a.k):=by omega
     simp -dsimp[hiz,hg,hlen,Ad.cs,n1,n2,wrap_i64 (n:=(i:Int)+1) (by omega) (by omega)];and_intros;all_goals try first|rfl|omega|exact⟨by kernel_rfl⟩
     exact⟨⟨i+1,by omega⟩,GS.to (by simp),by simp;omega⟩
    ·have hiz :¬(i:Int)<l.length:=by omega
     simp -dsimp[hiz];and_intros;all_goals try first|rfl|omega|exact⟨by kernel_rfl⟩
     refine dD.of [3000101] (kb 0x107900010400f200f2000003d1757) (ι:={i:Nat // i≤l.length}) (fun z=>[(.s 0,It.v (.agg [TV.d (.int .i64 n),TV.d (.sl (wZ l))])),(.o 1,It.box [TV.d (.int .i64 n),TV.d (.sl (wZ l))]),(.s 1,It.v (.ptr (.o 1) 0)),(.s 2,It.v (.d (.int .i64 0))),(.s 64,It.v (.d (.sl (wZ l)))),(.s 65,It.v (.d (.int .i64 l.length))),(.s 66,It.v (.d (.int .i64 z.1)))]) (fun z=>l.length-z.1) ⟨0,by omega⟩ ?_ ?_
     ·exact GS.to (by simp[hlen])
     ·rintro⟨i,i1⟩;by_cases hi:i<l.length
      ·have hiz:(i:Int)<l.length:=by omega
       have hl:=aj hi;have hm:=aJ hi;have hg:=hget i _ hl;generalize l[i]=a at hm hg;have hd:=h.dv a hm;by_cases hk:a.k=3
       ·have ht:=hd.2 hk;simp -dsimp[hiz,hg,hlen,Ad.cs,eq_true hk,eq_true ht,wrap_i64 (n:=(i:Int)+1) (by omega) (by omega)];and_intros;all_goals try first|rfl|omega|exact⟨by kernel_rfl⟩
        exact⟨⟨i+1,by omega⟩,GS.to (by simp),by simp;omega⟩
       ·have ht :¬a.to=a.r:=fun e=>hk (hd.1 e)
        simp -dsimp[hiz,hg,hlen,Ad.cs,hk,ht,wrap_i64 (n:=(i:Int)+1) (by omega) (by omega)];and_intros;all_goals try first|rfl|omega|exact⟨by kernel_rfl⟩
        exact⟨⟨i+1,by omega⟩,GS.to (by simp),by simp;omega⟩
      ·have hiz :¬(i:Int)<l.length:=by omega
       simp -dsimp[hiz];and_intros;all_goals try first|rfl|omega|exact⟨by kernel_rfl⟩
       refine dD.of [3000101] (kb 0x107900010400f200f2000003d1757) (ι:={i:Nat // 1≤i∧i≤l.length+1}) (fun z=>[(.s 0,It.v (.agg [TV.d (.int .i64 n),TV.d (.sl (wZ l))])),(.o 1,It.box [TV.d (.int .i64 n),TV.d (.sl (wZ l))]),(.s 1,It.v (.ptr (.o 1) 0)),(.s 2,It.v (.d (.int .i64 0))),(.s 9,It.v (.d (.int .i64 z.1)))]) (fun z=>l.length+1-z.1) ⟨1,by omega⟩ ?_ ?_
       ·exact GS.to (by simp)
       ·rintro⟨i,i0,i1⟩;by_cases hi:i<l.length
        ·have hiz:(i:Int)<l.length:=by omega
         have hg:=hget i _ (aj hi);have hp:=hget (i-1) _ (aj (show i-1<l.length by omega));have hlt:=bC.1 h.BP (i-1) i (by omega) hi (by omega);have hw:((i:Int)-1).toNat=i-1:=by omega
         generalize l[i-1]=a at hp hlt;generalize l[i]=b at hg hlt;have n1 :¬((b.b:Int)≤(a.b:Int)):=by omega
         have hi2:i<(wZ l).length:=by omega
         simp -dsimp[hiz,hg,hp,hw,hlen,Ad.cs,n1,wrap_i64 (n:=(i:Int)-1) (by omega) (by omega),wrap_i64 (n:=(i:Int)+1) (by omega) (by omega)];and_intros;all_goals try first|rfl|omega|exact⟨by kernel_rfl⟩
         exact⟨⟨i+1,by omega⟩,GS.to (by simp),by simp;omega⟩
        ·have hiz :¬(i:Int)<l.length:=by omega
         simp -dsimp[hiz,hlen];and_intros;all_goals try first|rfl|omega|exact⟨by kernel_rfl⟩
         refine dD.of [3000101] (kb 0x107900010400f200f2000003d1757) (ι:={i:Nat // i≤l.length}) (fun z=>[(.s 0,It.v (.agg [TV.d (.int .i64 n),TV.d (.sl (wZ l))])),(.o 1,It.box [TV.d (.int .i64 n),TV.d (.sl (wZ l))]),(.s 1,It.v (.ptr (.o 1) 0)),(.s 2,It.v (.d (.int .i64 0))),(.o 101,It.fO (tgM (l.take z.1)) 0 none none),(.s 10,It.v (.mref 101)),(.s 103,It.v (.d (.sl (wZ l)))),(.s 104,It.v (.d (.int .i64 l.length))),(.s 105,It.v (.d (.int .i64 z.1)))]) (fun z=>l.length-z.1) ⟨0,by omega⟩ ?_ ?_
         ·exact GS.to (by simp[tgM])
         ·rintro⟨i,i1⟩;by_cases hi:i<l.length
          ·have hiz:(i:Int)<l.length:=by omega
           have hl:=aj hi;have hg:=hget i _ hl;have ht:l.take (i+1)=l.take i++[l[i]]:=by rw[aT,hl];rfl
           have hnew:l[i].tg∉(l.take i).map Ad.tg:=by
            have h1:=h.nd;rw[←List.take_append_drop (i+1) l,ht,dP,gu]at h1
            have h2:=(fV.1 h1).2.2;exact fun hm=>h2 _ hm _ (eX (aN.2 (.inl (dH.2 rfl)))) rfl
           generalize l[i]=a at hg ht hnew;have hk1:=amz hnew;have hk2:=fun v=>akl hnew v
           have hk3:=akk (l.take i);have alC:=hof a;have hnx:tgM (l.take (i+1))=tgM (l.take i)++[(a.tg,TV.d (.bool true))]:=by rw[ht];simp[tgM]
           simp only[Ad.cs,Ad.tg,aC,dQ]at alC hk1 hk2 hnx;simp -dsimp[hiz,hg,hlen,Ad.cs];and_intros;all_goals try first|rfl|omega|exact⟨by kernel_rfl⟩
           refine aI.of alC [] 0 ?_;simp -dsimp[hk1,hk3];and_intros;all_goals try first|rfl|omega|exact⟨by kernel_rfl⟩
           refine aI.of alC [] 0 ?_;simp -dsimp[hk1,hk2,hk3,wrap_i64 (n:=(i:Int)+1) (by omega) (by omega)];and_intros;all_goals try first|rfl|omega|exact⟨by kernel_rfl⟩
           exact⟨⟨i+1,by omega⟩,GS.to (by simp[←hnx]),by simp;omega⟩
          ·have hiz :¬(i:Int)<l.length:=by omega
           simp -dsimp[hiz];and_intros;all_goals try first|rfl|omega|exact⟨by kernel_rfl⟩
           refine Fin.of ?_;simp
end Go.Proofs
