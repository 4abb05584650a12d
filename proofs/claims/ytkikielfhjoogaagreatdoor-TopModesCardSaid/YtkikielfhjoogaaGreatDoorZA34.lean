/-
  What functions of the program compute, stated as contracts over plain data; the conditions of each stand in its own statement.
-/
import Derived.Test.YtkikielfhjoogaaGreatDoorZA26
import Derived.Test.YtkikielfhjoogaaGreatDoorZA23
import Derived.Test.YtkikielfhjoogaaGreatDoorZA28
import Derived.Test.YtkikielfhjoogaaGreatDoorZA20
import Derived.Test.YtkikielfhjoogaaGreatDoorZA33
import Derived.Test.YtkikielfhjoogaaGreatDoorZA30
set_option linter.unusedSimpArgs false
set_option linter.unusedVariables false
namespace Go.Proofs
open Go Go.Tr
def lk0:Lk:=⟨0,0,0,0,0⟩
def zi(lo hi:Int)(x:Lk):Bool:=decide (x.a<lo)||(decide (x.a=lo)&&decide (x.b<hi))
def QG(l:List Lk)(lo hi:Int):Nat:=bsI (fun a=>zi lo hi (l.getD a lk0)) l.length
theorem lbs{l:List Lk}(h:l.Pairwise BL)(lo hi:Int){x:Lk}(hx:x∈l)(ha:x.a=lo)(hb:x.b=hi):l[QG l lo hi]? = some x:=by
 have hp:=bC.1 h;have hr:∀a,(ha:a<l.length)→l.getD a lk0=l[a]:=fun a ha=>by simp[*]
 obtain⟨p,Va⟩:∃p:Nat→Bool,p=fun a=>decide (a<l.length)&&zi lo hi (l.getD a lk0):=⟨_,rfl⟩
 have agm:∀(q q':Nat→Bool) (n:Nat),(∀a,a<n→q a=q' a)→∀k i j,j≤n→bsGo q k i j=bsGo q' k i j:=by
  intro q q' n hq k
  induction k with
  | zero=>intro i j _;rfl
  | succ k ih=>grind[bsGo]
 have hbs:QG l lo hi=bsGo p l.length 0 l.length:=agm _ _ l.length (fun a ha=>by simp[*]) _ _ _ (au _);obtain⟨g1,g2,g3⟩:=bsGo_spec (p:=p) (fun a b hab hb=>by
  rw[Va]at hb⊢
  simp only[aG,decide_eq_true_eq]at hb⊢;obtain⟨h1,h2⟩:=hb;rcases Nat.eq_or_lt_of_le hab with e|e
  ·simp_all
  ·have:=hp a b (by omega) h1 e;rw[hr b h1]at h2
   refine⟨by omega,?_⟩;rw[hr a (by omega)];unfold zi BL at *
   grind) l.length 0 l.length (by omega) (by omega) (fun a ha=>by omega)
 rw[←hbs]at g1 g2 g3
 obtain⟨a,hal,rfl⟩:=dW.1 hx;have key:a=QG l lo hi:=by
  rcases lq a (QG l lo hi)with c|c|c
  ·have:=g2 a c;rw[Va]at this
   simp only[aG,decide_eq_true_eq]at this;rw[hr a hal]at this
   unfold zi at this
   simp_all
  ·omega
  ·have h1:=g3 (QG l lo hi) (au _) (by omega);have hsl:QG l lo hi<l.length:=by omega
   rw[Va]at h1
   simp only[hsl,decide_true,jq]at h1;rw[hr _ hsl]at h1
   have:=hp (QG l lo hi) a hsl hal c;unfold zi at h1;unfold BL at this;simp only[kY,Bool.and_eq_false_iff,decide_eq_false_iff_not]at h1;omega
 simp[*]
def lsF(l:List Lk)(lo hi:Int):Bool:=decide (QG l lo hi<l.length)&&(decide ((l.getD (QG l lo hi) lk0).a=lo)&&decide ((l.getD (QG l lo hi) lk0).b=hi))
theorem ach{l:List Lk}(h:l.Pairwise BL)(lo hi:Int):lsF l lo hi=true↔∃x∈l,x.a=lo∧x.b=hi:=by
 unfold lsF;constructor
 ·grind
 ·rintro⟨x,hx,ha,hb⟩;have hg:=lbs h lo hi hx ha hb
  grind
def V6(g:aX)(f t:Int):Option Int:=
 if jo g=0∧lsF g.ls (min f t) (max f t)=true then some (if f<t then(g.ls.getD (QG g.ls (min f t) (max f t)) lk0).ca else(g.ls.getD (QG g.ls (min f t) (max f t)) lk0).cb)else none
theorem aio{g:aX}(h0:jo g=0)(f t:Int):V6 g f t=price g.ls f t:=by
 have hg:=dV h0;have hab:∀x∈g.ls,x.a<x.b:=fun x hx=>by
  have a:=iq.1 hg.ab x hx
  simp_all
 have hpw:=hg.lpw;unfold V6;by_cases hF:lsF g.ls (min f t) (max f t)=true
 ·obtain⟨x,hx,ha,hb⟩:=(ach hpw _ _).1 hF;have e:g.ls.getD (QG g.ls (min f t) (max f t)) lk0=x:=by rw[aK,lbs hpw _ _ hx ha hb];rfl
  obtain⟨p1,p2⟩:=zY hpw hab hx
  grind
 ·rw[if_neg (fun a=>hF a.2)];cases hp:price g.ls f t with
  | none=>rfl
  | some c=>grind[qQ,ach]
set_option maxRecDepth 100000
set_option maxHeartbeats 16000000
theorem abB(x:Lk)(lo up:Int):(cmpL x ⟨lo,up,0,0,0⟩<0)=(zi lo up x=true):=by
 apply propext
 show Jv (xk x.a lo) (xk x.b up)<0↔_
 unfold Jv zi;by_cases c:x.a=lo
 ·rw[if_neg (by rw[ne_eq,yQ];simp[c]),L_];simp[c]
 ·rw[if_pos (by rw[ne_eq,yQ];exact c),L_];simp[c]
theorem cmpL_eq(x:Lk)(lo up:Int):(cmpL x ⟨lo,up,0,0,0⟩ = 0)=(x.a=lo∧x.b=up):=by
 apply propext
 show Jv (xk x.a lo) (xk x.b up)=0↔_
 unfold Jv;by_cases c:x.a=lo
 ·rw[if_neg (by rw[ne_eq,yQ];simp[c]),yQ];simp[c]
 ·rw[if_pos (by rw[ne_eq,yQ];exact c),yQ];simp[c]
theorem Zm(l:List Lk)(hl:l.length≤1000000)(lo up:Int):Contract Tryz.prog 157 [.d (.sl (nS l)),OZ ⟨lo,up,0,0,0⟩,.clo 69 []] []
  (.qh [.d (.int .i64 (QG l lo up)),.d (.bool (lsF l lo up))]) [] []:=by
 obtain⟨p,hp⟩:∃p:Nat→Bool,p=fun a=>zi lo up (l.getD a lk0):=⟨_,rfl⟩
 have hR:QG l lo up=bsI p l.length:=by rw[hp];rfl
 have hok:dB Tryz.prog 69=true:=by kernel_rfl
 unfold lsF;rw[hR];refine ay Tryz.func157 rfl (fun E0=>?_);refine iC.sound (g:=.mk) (ow:=[]) (kp:=(kb 0x80020fd7)) ?_;rw[Tryz.ntmps157];simp -dsimp[nS,OZ,Lk.cs]
 refine dD.of [] (kb 0x80020fd7) (ι:={z:Nat×Nat // z.1≤z.2∧z.2≤l.length∧bsI p l.length=bsGo p (z.2-z.1) z.1 z.2})
  (fun z=>[(.s 0,It.v (.d (.sl (nS l)))),(.o 4,It.box [.d (.int .i64 lo),.d (.int .i64 up),.d (.int .i64 0),.d (.int .i64 0),.d (.int .i64 0)]),(.s 4,It.v (.ptr (.o 4) 0)),(.s 2,It.v (.clo 69 [])),(.s 8,It.v (.d (.int .i64 l.length))),(.s 9,It.v (.d (.int .i64 z.1.1))),(.s 10,It.v (.d (.int .i64 z.1.2)))])
  (fun z=>z.1.2-z.1.1) ⟨(0,l.length),by omega,by omega,rfl⟩ ?_ ?_
 ·exact GS.to (by simp[nS])
 ·rintro⟨⟨i,j⟩,j1,j2,j3⟩;simp only at j1 j2 j3;by_cases hi:i<j
  ·have hiz:(i:Int)<j:=by omega
   rw[RV hi]at j3
   have hm:(i+j)/2<l.length:=by omega
   have hx:l[(i+j)/2]? = some l[(i+j)/2]:=aj hm;have hpm:p ((i+j)/2)=zi lo up l[(i+j)/2]:=by rw[hp];simp[hm]
   generalize l[(i+j)/2]=x at hx hpm;have hx':=uT hx;have hmd:=aat (i:=i) (j:=j) (by omega);have hij:i≤(i+j)/2∧(i+j)/2<j:=by omega
   generalize (i+j)/2=m at hx hpm hm hmd j3 hx' hij;have hmz:(m:Int)<l.length:=by omega
   have hb:=Gj x ⟨lo,up,0,0,0⟩;simp only[OZ,Lk.cs,List.map]at hb;simp -dsimp[hiz,hmd,hx',Lk.cs,hmz];refine aI.of hb [] 0 ?_;rcases (aA (zi lo up x)).symm with hc|hc
   ·rw[hpm,hc,if_neg (by simp)]at j3
    simp -dsimp[hok,abB,hc];and_intros;all_goals try first|rfl|omega|exact⟨by kernel_rfl⟩
    exact⟨⟨(i,m),by omega,by omega,j3⟩,GS.to (by simp[nS]),by simp;omega⟩
   ·rw[hpm,hc,if_pos rfl]at j3
    simp -dsimp[hok,abB,hc,wrap_i64 (n:=(m:Int)+1) (by omega) (by omega)];and_intros;all_goals try first|rfl|omega|exact⟨by kernel_rfl⟩
    exact⟨⟨(m+1,j),by omega,by omega,j3⟩,GS.to (by simp[nS]),by simp;omega⟩
  ·have hiz :¬(i:Int)<j:=by omega
   obtain rfl:i=j:=by omega
   rw[WJ hi]at j3
   by_cases hl2:i<l.length
   ·have hlz:(i:Int)<l.length:=by omega
    have hx:l[i]? = some l[i]:=aj hl2;obtain⟨x,hxe⟩:∃x,l[i]=x:=⟨_,rfl⟩
    rw[hxe]at hx
    have hx':=uT hx;have hb:=Gj x ⟨lo,up,0,0,0⟩;simp only[OZ,Lk.cs,List.map]at hb;simp -dsimp[hiz,hlz,hx',Lk.cs,j3];refine aI.of hb [] 0 ?_;simp -dsimp[hok,cmpL_eq,hl2,hlz,j3];and_intros;all_goals try first|rfl|omega|exact⟨by kernel_rfl⟩
    refine Fin.of ?_;simp[cmpL_eq,hl2,j3,hxe,Bool.decide_and]
   ·have hlz :¬(i:Int)<l.length:=by omega
    simp -dsimp[hiz,hlz,j3];and_intros;all_goals try first|rfl|omega|exact⟨by kernel_rfl⟩
    refine Fin.of ?_;simp[hl2,j3]
theorem alO{l:List Lk}{lo hi:Int}(h:lsF l lo hi=true):QG l lo hi<l.length:=by unfold lsF at h;simp only[aG,decide_eq_true_eq]at h;exact h.1
theorem akj(g:aX)(hs:g.Sm)(f t:Int):Contract Tryz.prog 113 [eU g,.d (.int .i64 f),.d (.int .i64 t)] [] (tq (V6 g f t)) [] []:=by
 have h1:=I_ g hs;have h2:=Zm g.ls hs.l (min f t) (max f t);simp only[eU]at h1;simp only[OZ,Lk.cs,List.map]at h2;have hmn:X3 IntKind.i64 f t = .d (.int .i64 (min f t)):=by simp[X3];omega
 have hmx:ad9 IntKind.i64 f t = .d (.int .i64 (max f t)):=by simp[ad9];omega
 unfold V6;by_cases h0:jo g=0
 case neg=>
  rw[if_neg (by simp[h0])];refine ay Tryz.func113 rfl (fun E0=>?_);refine iC.sound (g:=.mk) (ow:=[]) (kp:=(kb 0x240013cf)) ?_;rw[Tryz.ntmps113];simp -dsimp[eU];refine aI.of h1 [] 0 ?_;simp -dsimp[h0];and_intros;all_goals try first|rfl|omega|exact⟨by kernel_rfl⟩
  refine Fin.of ?_;simp[tq]
 rcases (aA (lsF g.ls (min f t) (max f t))).symm with hF|hF
 ·rw[if_neg (by simp[hF])];refine ay Tryz.func113 rfl (fun E0=>?_);refine iC.sound (g:=.mk) (ow:=[]) (kp:=(kb 0x240013cf)) ?_;rw[Tryz.ntmps113];simp -dsimp[eU];refine aI.of h1 [] 0 ?_;simp -dsimp[h0,hmn,hmx];and_intros;all_goals try first|omega|exact⟨by kernel_rfl⟩|rfl
  refine aI.of h2 [] 0 ?_;simp -dsimp[hF];and_intros;all_goals try first|rfl|omega|exact⟨by kernel_rfl⟩
  refine Fin.of ?_;simp[tq]
 ·have hlt:=alO hF;rw[if_pos ⟨h0,hF⟩];have hx:g.ls[QG g.ls (min f t) (max f t)]? = some g.ls[QG g.ls (min f t) (max f t)]:=aj hlt;have hr:g.ls.getD (QG g.ls (min f t) (max f t)) lk0=g.ls[QG g.ls (min f t) (max f t)]:=by simp[hlt]
  rw[hr];generalize g.ls[QG g.ls (min f t) (max f t)]=x at hx;generalize QG g.ls (min f t) (max f t)=m at hlt hx h2;have hx':=uT hx;have hmz:(m:Int)<g.ls.length:=by omega
  by_cases c:f<t
  ·rw[if_pos c];refine ay Tryz.func113 rfl (fun E0=>?_);refine iC.sound (g:=.mk) (ow:=[]) (kp:=(kb 0x240013cf)) ?_;rw[Tryz.ntmps113];simp -dsimp[eU];refine aI.of h1 [] 0 ?_;simp -dsimp[h0,hmn,hmx];and_intros;all_goals try first|omega|exact⟨by kernel_rfl⟩|rfl
   refine aI.of h2 [] 0 ?_;simp -dsimp[hF,c,hx',Lk.cs,hmz];and_intros;all_goals try first|rfl|omega|exact⟨by kernel_rfl⟩
   refine Fin.of ?_;simp[tq]
  ·rw[if_neg c];refine ay Tryz.func113 rfl (fun E0=>?_);refine iC.sound (g:=.mk) (ow:=[]) (kp:=(kb 0x240013cf)) ?_;rw[Tryz.ntmps113];simp -dsimp[eU];refine aI.of h1 [] 0 ?_;simp -dsimp[h0,hmn,hmx];and_intros;all_goals try first|omega|exact⟨by kernel_rfl⟩|rfl
   refine aI.of h2 [] 0 ?_;simp -dsimp[hF,c,hx',Lk.cs,hmz];and_intros;all_goals try first|rfl|omega|exact⟨by kernel_rfl⟩
   refine Fin.of ?_;simp[tq]
theorem akg(n:Int)(l:List Ad)(p:Pk)(h1:p.mode=2)(h2:p.len=n):Contract Tryz.prog 46 [rX n l,sH p] [] (.d (.int .i64 0)) [] []:=by
 refine ay Tryz.func46 rfl (fun E0=>?_);refine iC.sound (g:=.mk) (ow:=[]) (kp:=(kb 0x23f)) ?_;rw[Tryz.ntmps46];simp -dsimp[rX,sH,Pk.cs,eq_true h1,eq_true h2];and_intros;all_goals try first|rfl|omega|exact⟨by kernel_rfl⟩
 refine Fin.of ?_;simp
theorem apb(g:aX)(h0:jo g=0)(v:Int)(a:Ad)(hk:a.k≠2)(hp:(price g.ls v a.to).isSome):Contract Tryz.prog 49 [eU g,.d (.int .i64 v),.agg (a.cs.map .d)] [] (.qh [.d (ints [a.to]),.d (.bool true)]) [] []:=by
 have hs:=(dV h0).sm;have hc:=akj g hs v a.to;rw[aio h0]at hc
 obtain⟨c,hc0⟩:=gq.1 hp;rw[hc0]at hc
 simp only[eU,tq]at hc;refine ay Tryz.func49 rfl (fun E0=>?_);refine iC.sound (g:=.mk) (ow:=[]) (kp:=(kb 0x25ef)) ?_;rw[Tryz.ntmps49];simp -dsimp[eU,Ad.cs,hk];refine aI.of hc [] 0 ?_;simp -dsimp;and_intros;all_goals try first|rfl|omega|exact⟨by kernel_rfl⟩
 refine Fin.view 6 ?_;simp -dsimp;refine Fin.of ?_;simp[ints]
def JQ(l:List Ad)(v:Int)(p:Pk):BitVec 64:=(y7 l v p).foldl (fun b a=>b|||1#64<<<a.b) 0#64
def EF(l m:List Ad)(v:Int)(p:Pk):List (Ad×Pk):=if p.bits &&& ~~~ ownB l v=0#64 then []else(O0 m v p).map fun a=>(a,lX p (~~~ ownB l v))
def snC(x:Ad×Pk):List D:=x.1.cs++Wi (x.1.to,x.2)
def aly(l:List Ad)(v:Int)(p:Pk):TV:=.qh [.agg [.d (bv (JQ l v p)),.d (bv 0#64),.d (.sl ((EF l l v p).map fun x=>Wi (x.1.to,x.2)))],.d (.sl ((EF l l v p).map snC))]
theorem agj(n:Int)(l:List Ad)(h:BR n l)(hk:∀a∈l,a.k≠2)(v:Int)(p:Pk)(ht:p.ttl≠0)(hb :-1000≤p.ttl∧p.ttl≤1000):Contract Tryz.prog 47 [rX n l,.d (.int .i64 v),sH p] [] (aly l v p) [] []:=by
 have ho:=al1 n l h v;simp only[rX,bv]at ho;have hlen:=Gv l;have hsm:=h.sm;have hb64:∀a∈l,a.b<64:=fun a ha=>by have h1:=h.bit a ha;have h2:=h.len;simp[eP]at h2;omega
 refine ay Tryz.func47 rfl (fun E0=>?_);refine iC.sound (g:=.mk) (ow:=[]) (kp:=(kb 0x40000402018000f01def)) ?_;rw[Tryz.ntmps47];simp -dsimp[rX,sH,Pk.cs,bv];refine aI.of ho [] 0 ?_;simp -dsimp[bv];and_intros;all_goals try first|rfl|omega|exact⟨by kernel_rfl⟩
 obtain⟨R,hR⟩:∃R,R=p.bits &&& ~~~ ownB l v:=⟨_,rfl⟩
 have agn:∀m,EF l m v p=if R=0#64 then []else(O0 m v p).map fun a=>(a,lX p (~~~ ownB l v)):=fun m=>by rw[hR];rfl
 have hmk:lX p (~~~ ownB l v)=⟨p.mode,p.jd,p.set,p.len,p.ttl-1,p.ent,p.ing,p.proto,R,p.pay⟩:=by rw[hR];rfl
 rw[hmk]at agn
 have hcl:∀i,(EF l (l.take i) v p).length≤i:=fun i=>by
  rw[agn];split
  ·simp
  ·rw[aV,O0];refine dw (dY _ _) ?_;rw[gG];omega
 rw[←hR];refine dD.of [] (kb 0x40000402018000f01def) (ι:={i:Nat // i≤l.length}) (fun z=>[(.s 0,It.v (.agg [TV.d (.int .i64 n),TV.d (.sl (wZ l))])),(.s 1,It.v (.d (.int .i64 v))),(.o 3,It.box [TV.d (.int .i64 n),TV.d (.sl (wZ l))]),(.s 3,It.v (.ptr (.o 3) 0)),
  (.o 5,It.box (p.cs.map .d)),(.s 5,It.v (.ptr (.o 5) 0)),(.o 6,It.box [TV.d (.int IntKind.u64 (tn (JQ (l.take z.1) v p))),TV.d (.int IntKind.u64 0),TV.aW 60 (EF l (l.take z.1) v p).length]),(.s 6,It.v (.ptr (.o 6) 0)),
  (.o 60,It.row 122 12 (dd ((EF l (l.take z.1) v p).map fun x=>Wi (x.1.to,x.2))) false),(.s 7,It.v (.aW 7 (EF l (l.take z.1) v p).length)),(.o 7,It.row 152 16 (dd ((EF l (l.take z.1) v p).map snC)) false),
  (.s 8,It.v (.d (.int IntKind.u64 (tn R)))),(.s 20,It.v (.d (.sl (wZ l)))),(.s 21,It.v (.d (.int .i64 l.length))),(.s 22,It.v (.d (.int .i64 z.1)))]) (fun z=>l.length-z.1) ⟨0,by omega⟩ ?_ ?_
 ·refine(GS.TQ (.o 6) 2 60 (cs:=[TV.d (.int IntKind.u64 0),TV.d (.int IntKind.u64 0),TV.c (Value.slice none 0 0)]) 122 12 (by simp) (by simp) (by simp) (by simp)).trans ?_;simp only[jL,Pl.o.injEq,reduceCtorEq,if_false,if_true,Nat.reduceEqDiff,List.set];exact GS.own' (k:=7) 152 16 (by simp) (by simp) (by simp[agn,O0,JQ,y7,Pk.cs,bv,hlen])
 ·rintro⟨i,i1⟩;by_cases hi:i<l.length
  ·have hiz:(i:Int)<l.length:=by omega
   have hl:=aj hi;have hm:=aJ hi;have hg:=Gu hl;have htk:l.take (i+1)=l.take i++[l[i]]:=by rw[aT,hl];rfl
   generalize l[i]=a at hg hm htk;have hk2:=hk a hm;have hab:=hb64 a hm;have hloc:JQ (l.take (i+1)) v p=if a.r=v∧a.k=3∧p.bits.getLsbD a.b=true then JQ (l.take i) v p|||1#64<<<a.b else JQ (l.take i) v p:=by
    rw[JQ,y7,htk,fP,dZ];by_cases c:a.r=v∧a.k=3∧p.bits.getLsbD a.b=true
    ·rw[if_pos c];simp[dI,c.1,c.2.1,c.2.2,JQ,y7]
    ·rw[if_neg c];have:List.filter (fun a=>decide (a.r=v∧a.k=3)&&p.bits.getLsbD a.b) [a] = []:=by
      rw[fJ];intro x hx;simp at hx;subst hx;simp only[aG,decide_eq_true_eq];exact fun h=>c ⟨h.1.1,h.1.2,h.2⟩
     rw[this];rfl
   have hcp:EF l (l.take (i+1)) v p=EF l (l.take i) v p++(if R≠0#64∧a.r=v∧a.k≠3∧p.bits.getLsbD a.b=true then [(a,⟨p.mode,p.jd,p.set,p.len,p.ttl-1,p.ent,p.ing,p.proto,R,p.pay⟩)]else []):=by
    rw[agn,agn];by_cases h0:R=0#64
    ·simp[h0]
    ·rw[if_neg h0,if_neg h0,O0,htk,fP,gu]
     congr 1
     by_cases c:a.r=v∧a.k≠3∧p.bits.getLsbD a.b=true
     ·rw[if_pos ⟨h0,c⟩];simp[dI,c.1,c.2.1,c.2.2]
     ·rw[if_neg (fun h=>c h.2)];have:List.filter (fun a=>decide (a.r=v∧a.k≠3)&&p.bits.getLsbD a.b) [a] = []:=by
       rw[fJ];intro x hx;simp at hx;subst hx;simp only[aG,decide_eq_true_eq];exact fun h=>c ⟨h.1.1,h.1.2,h.2⟩
      rw[this];rfl
   have hC:=hcl i;generalize EF l (l.take i) v p=C at hcp hC⊢;generalize JQ (l.take i) v p=Lc at hloc⊢;by_cases hr:a.r=v
   ·by_cases hb0:p.bits&&&1#64<<<a.b=0#64
    ·have hbit :¬p.bits.getLsbD a.b=true:=fun hb=>by
      have:=congrArg (fun z=>z.getLsbD a.b) hb0;simp only[dG,hb,Ak hab hab,gQ]at this;simp at this
     rw[if_neg (fun h=>hbit h.2.2)]at hloc
     rw[if_neg (fun h=>hbit h.2.2.2),bQ]at hcp
     simp -dsimp[hiz,hg,hlen,Ad.cs,Pk.cs,bv,eq_true hr,hb0,wrap_i64 (n:=(i:Int)+1) (by omega) (by omega)];and_intros;all_goals try first|rfl|omega|exact⟨by kernel_rfl⟩
     exact⟨⟨i+1,by omega⟩,GS.to (by simp[hcp,hloc,Pk.cs,bv]),by simp;omega⟩
    ·have hbit:p.bits.getLsbD a.b=true:=Classical.byContradiction fun hb=>hb0 (by
      apply fE;intro k hk;rw[dG,gQ,Ak hab hk];by_cases e:k=a.b
      ·subst e;simp[hb]
      ·simp[e])
     by_cases h3:a.k=3
     ·rw[if_pos ⟨hr,h3,hbit⟩]at hloc
      rw[if_neg (fun h=>h.2.2.1 h3),bQ]at hcp
      simp -dsimp[hiz,hg,hlen,Ad.cs,Pk.cs,bv,eq_true hr,hb0,eq_true h3,wrap_i64 (n:=(i:Int)+1) (by omega) (by omega)];and_intros;all_goals try first|rfl|omega|exact⟨by kernel_rfl⟩
      exact⟨⟨i+1,by omega⟩,GS.to (by simp[hcp,hloc,Pk.cs,bv]),by simp;omega⟩
     ·rw[if_neg (fun h=>h3 h.2.1)]at hloc
      by_cases hR0:R=0#64
      ·rw[if_neg (fun h=>h.1 hR0),bQ]at hcp
       simp -dsimp[hiz,hg,hlen,Ad.cs,Pk.cs,bv,eq_true hr,hb0,h3,ht,hR0,wrap_i64 (n:=(i:Int)+1) (by omega) (by omega)];and_intros;all_goals try first|rfl|omega|exact⟨by kernel_rfl⟩
       exact⟨⟨i+1,by omega⟩,GS.to (by simp[hcp,hloc,Pk.cs,bv,hR0]),by simp;omega⟩
      ·rw[if_pos ⟨hR0,hr,h3,hbit⟩]at hcp
       have w1:IntKind.i64.wrap (p.ttl-1)=p.ttl-1:=wrap_i64 (by omega) (by omega);simp -dsimp[hiz,hg,hlen,Ad.cs,Pk.cs,bv,eq_true hr,hb0,h3,ht,hR0,hk2,w1,wrap_i64 (n:=(i:Int)+1) (by omega) (by omega)];and_intros;all_goals try first|rfl|omega|exact⟨by kernel_rfl⟩
       exact⟨⟨i+1,by omega⟩,GS.to (by simp[hcp,hloc,Pk.cs,bv,Wi,snC,Ad.cs]),by simp;omega⟩
   ·rw[if_neg (fun h=>hr h.1)]at hloc
    rw[if_neg (fun h=>hr h.2.1),bQ]at hcp
    simp -dsimp[hiz,hg,hlen,Ad.cs,Pk.cs,bv,hr,wrap_i64 (n:=(i:Int)+1) (by omega) (by omega)];and_intros;all_goals try first|rfl|omega|exact⟨by kernel_rfl⟩
    exact⟨⟨i+1,by omega⟩,GS.to (by simp[hcp,hloc,Pk.cs,bv]),by simp;omega⟩
  ·have hiz :¬(i:Int)<l.length:=by omega
   rw[show l.take i=l from aS (by omega)];simp -dsimp[hiz];refine Fin.view 7 ?_;simp -dsimp;refine Fin.box (.o 6) rfl ?_;simp -dsimp;refine Fin.of ?_;simp[aly,bv]
def pkE(p:Pk)(n:Int)(B:BitVec 64):Pk:=⟨2,p.jd,p.set,n,p.ttl,p.ent,p.ing,p.proto,B,p.pay⟩
theorem TR(n:Int)(l:List Ad)(he:BR n l)(r:Int)(T:List (Int×Int))(hg:Nr r T)(rs:List Int)(hr:UC l r T rs)(p:Pk)(hok:(pkE p n (tK l (qF rs T))).ok=true):
  Contract Tryz.prog 15 [rX n l,vw r T,.d (ints rs),sH p] [] (.qh [sH (pkE p n (tK l (qF rs T))),.d (.int .i64 0)]) [] []:=by
 have hb:=ak5 n l he r T hg rs hr;have hv:=wY (pkE p n (tK l (qF rs T)));rw[hok]at hv
 simp only[rX,vw]at hb;generalize tK l (qF rs T)=B at hb hv⊢;simp only[sH,pkE,Pk.cs,List.map]at hv;refine ay Tryz.func15 rfl (fun E0=>?_);refine iC.sound (g:=.mk) (ow:=[]) (kp:=(kb 0x80100fbf)) ?_;rw[Tryz.ntmps15];simp -dsimp[rX,vw,sH,Pk.cs,bv];simp only[bv]at hb hv;refine aI.of hb [] 0 ?_
 simp -dsimp[bv];and_intros;all_goals try first|rfl|omega|exact⟨by kernel_rfl⟩
 refine aI.of hv [] 0 ?_;simp -dsimp[bv];and_intros;all_goals try first|rfl|omega|exact⟨by kernel_rfl⟩
 refine Fin.box (.o 8) rfl ?_;simp -dsimp;refine Fin.of ?_;simp[sH,pkE,Pk.cs,bv]
theorem ajs{l:List Ad}(h:acY l)(v:Int)(p:Pk){a:Ad}(ha:a∈l):(JQ l v p).getLsbD a.b=true↔a.r=v∧a.k=3∧p.bits.getLsbD a.b=true:=by
 have key:∀(m:List Ad) (o:BitVec 64),(∀x∈m,x∈l)→((m.foldl (fun b x=>b|||1#64<<<x.b) o).getLsbD a.b=true↔o.getLsbD a.b=true∨a∈m):=by
  intro m
  induction m with
  | nil=>intro o _;simp
  | cons x m ih=>
    intro o hm;have hx:=hm x (by simp);rw[bV,ih _ fun y hy=>hm y (by simp[hy]),kX,bJ,Ak (h.lt x hx) (h.lt a ha)];simp only[decide_eq_true_eq,aF];constructor
    ·rintro ((h1|h1)|h1)
     ·exact .inl h1
     ·exact .inr (.inl (h.inj ha hx h1))
     ·exact .inr (.inr h1)
    ·rintro (h1|h1|h1)
     ·exact .inl (.inl h1)
     ·exact .inl (.inr (by rw[h1]))
     ·exact .inr h1
 have:=key (y7 l v p) 0#64 fun x hx=>(bK.1 hx).1
 rw[JQ,this];simp only[gQ,eu,false_or,y7,bK,ha,true_and,aG,decide_eq_true_eq,and_assoc]
theorem BR.v{n:Int}{l:List Ad}(h:BR n l):acY l:=⟨h.BP,fun a ha=>by
 have h1:=h.bit a ha;have h2:=h.len;simp[eP]at h2;omega⟩
theorem Lj(B:BitVec 64)(k:Nat):(B>>>k&&&1#64=1#64)↔B.getLsbD k=true:=by
 constructor
 ·intro h;have:=congrArg (fun z=>z.getLsbD 0) h;simpa using this
 ·intro h;apply fE;intro i hi;rw[dG,BitVec.getLsbD_ushiftRight];by_cases e:i=0
  ·subst e;simp[h]
  ·have:(1#64).getLsbD i=false:=by rw[BitVec.getLsbD_one];simp[e]
   rw[this,Bool.and_false]
theorem ag9(l:List Ad)(v:Int)(p:Pk):xG l (v,p)=(EF l l v p).map fun x=>(x.1.to,x.2):=by
 unfold xG EF;simp only;split
 ·rfl
 ·rw[aY];rfl
theorem ahX(n:Int)(l:List Ad)(he:BR n l)(hk:∀a∈l,a.k≠2)(g:aX)(h0:jo g=0)(p:Pk)(hp:p.ok=true)(hm:p.mode=2)(hn:p.len=n)(r:Int)(hr:dF g.rs r=true)(N:Nat)(hN:N≤60)(hok:okE g l N [(r,p)] qV):
  Contract Tryz.prog 16 [rX n l,eU g,sH p,.d (.int .i64 r)] [] (.qh [Gl (yK l N [(r,p)] qV),.d (.int .i64 0)]) [] []:=by
 have hs:=(dV h0).sm;have hv:=Qw n l he;have hpv:=wY p;have hth:=aip g hs r;have hsu:=akg n l p hm hn;have hlen:=Gv l;have hsm:=he.sm;simp only[rX,eU,sH,Pk.cs,List.map,bv]at hv hpv hth hsu;rw[hp]at hpv
 refine ay Tryz.func16 rfl (fun E0=>?_);refine iC.sound (g:=.mk) (ow:=[54]) (kp:=(kb 0x100000f0002001e004000201e0002010420017aff7f)) ?_
 rw[Tryz.ntmps16];simp -dsimp[rX,eU,sH,Pk.cs,bv];refine aI.of hv [] 0 ?_;simp -dsimp;refine aI.of (xW g hs.r hs.l) [] 0 ?_;simp -dsimp[h0,eU];and_intros;all_goals try first|rfl|omega|exact⟨by kernel_rfl⟩
 refine aI.of hpv [] 0 ?_;simp -dsimp;and_intros;all_goals try first|rfl|omega|exact⟨by kernel_rfl⟩
 refine aI.of hth [] 0 ?_;simp -dsimp[h0,hr];and_intros;all_goals try first|rfl|omega|exact⟨by kernel_rfl⟩
 refine aI.of hsu [] 0 ?_;simp -dsimp;and_intros;all_goals try first|rfl|omega|exact⟨by kernel_rfl⟩
 refine dD.of [54] (kb 0x100000f0002001e004000201e0002010420017aff7f) (ι:={z:Nat×List (Int×Pk)×sG // yK l N [(r,p)] qV=yK l z.1 z.2.1 z.2.2∧okE g l z.1 z.2.1 z.2.2∧z.1≤60∧z.2.2.dl.length+64*z.1≤10000∧z.2.2.cr.length≤2000∧z.2.2.ls = []∧z.2.1.length+64*z.1≤10000})
  (fun z=>[(.o 4,It.box [TV.d (.int .i64 n),TV.d (.sl (wZ l))]),(.s 4,It.v (.ptr (.o 4) 0)),(.o 5,It.box [TV.d (.sl (rts g.rs)),TV.d (.sl (nS g.ls))]),(.s 5,It.v (.ptr (.o 5) 0)),(.o 8,It.box [TV.c (Value.slice none 0 0),TV.c (Value.slice none 0 0),TV.c (Value.slice none 0 0)]),(.s 8,It.v (.ptr (.o 8) 0)),(.s 9,It.v (.d (.int .i64 0))),(.s 11,It.v (.ptr (.o 11) 0)),(.o 11,It.box [TV.aW 70 z.1.2.2.dl.length,TV.aW 71 z.1.2.2.cr.length,TV.c (Value.slice none 0 0)]),(.o 70,It.row 87 11 (dd (z.1.2.2.dl.map rF)) false),(.o 71,It.row 124 3 (dd (z.1.2.2.cr.map Ci)) false),
   (.o 54,It.sJ 143 11 (dd (z.1.2.1.map rF))),(.s 12,It.v (.aW 54 z.1.2.1.length))])
  (fun z=>z.1.1) ⟨(N,[(r,p)],qV),rfl,hok,hN,by simp[qV];omega,by simp[qV],rfl,by simp;omega⟩ ?_ ?_
 ·refine(GS.aoY 54 (e:=143) (k:=11) (es:=dd ([(r,p)].map rF)) (by simp[rF,Pk.cs,bv]) (by simp)).trans ?_;simp only[jL,Pl.o.injEq,reduceCtorEq,if_false,if_true,Nat.reduceEqDiff];refine(GS.TQ (.o 11) 0 70 (cs:=[.c (.slice none 0 0),.c (.slice none 0 0),.c (.slice none 0 0)]) 87 11 (by simp) (by simp) (by simp) (by simp)).trans ?_
  simp only[jL,Pl.o.injEq,reduceCtorEq,if_false,if_true,Nat.reduceEqDiff,List.set];exact GS.Df (.o 11) 1 71 (cs:=[.aW 70 0,.c (.slice none 0 0),.c (.slice none 0 0)]) 124 3 (by simp) (by simp) (by simp) (by simp) (by simp[qV,rF,Pk.cs,bv])
 ·rintro⟨⟨m,Q,t⟩,i1,i2,i3,i4,i5,i6,i7⟩;simp only at i1 i2 i3 i4 i5 i6 i7;cases Q with
  | nil=>
    rw[ahY]at i1
    simp -dsimp;refine Fin.box (.o 8) rfl ?_;simp -dsimp;refine Fin.of ?_;simp[i1,Gl,i6]
  | cons q Q=>
    obtain⟨v,pk⟩:=q;obtain⟨m,rfl⟩:∃j,m=j+1:=by
     cases m with
     | zero=>exact absurd i2 (by simp[okE])
     | succ j=>exact⟨j,rfl⟩
    rw[yK]at i1
    obtain⟨k1,k2,k3,k4,k5⟩:=i2;simp only at k1 k2 k3;rw[aH]at i7
    simp -dsimp[rF,Pk.cs,bv];and_intros;all_goals try first|rfl|omega|exact⟨by kernel_rfl⟩
    have htt:=AP k1;have hh:=agj n l he hk v pk k2 (by omega);obtain⟨S,hS⟩:∃S,S=EF l l v pk:=⟨_,rfl⟩
    have hSn:xG l (v,pk)=S.map fun x=>(x.1.to,x.2):=by rw[hS];exact ag9 l v pk
    have hSl:S.length≤64:=by
     rw[hS];unfold EF;split
     ·simp
     ·rw[aV];exact dw (dY _ _) hsm
    simp only[rX,sH,Pk.cs,aC,dQ,bv,aly]at hh;rw[←hS]at hh
    refine aI.of hh [] 0 ?_;simp -dsimp[Pk.cs,bv];and_intros;all_goals try first|rfl|omega|exact⟨by kernel_rfl⟩
    have hdl:∀i,i<l.length→∀a,l[i]? = some a→y7 (l.take (i+1)) v pk=y7 (l.take i) v pk++if a.r=v∧a.k=3∧pk.bits.getLsbD a.b=true then [a]else []:=fun i hi a ha=>by
     rw[y7,aT,ha,iF,fP]
     congr 1
     by_cases c:a.r=v∧a.k=3∧pk.bits.getLsbD a.b=true
     ·rw[if_pos c];simp[dI,c.1,c.2.1,c.2.2]
     ·rw[if_neg c,fJ];intro x hx;simp at hx;subst hx;simp only[aG,decide_eq_true_eq];exact fun h=>c ⟨h.1.1,h.1.2,h.2⟩
    have hdn:∀i,(y7 (l.take i) v pk).length≤i:=fun i=>by refine dw (dY _ _) ?_;rw[gG];omega
    refine dD.of [54] (kb 0x100000f0002001e004000201e0002010420017aff7f) (ι:={i:Nat // i≤l.length})
     (fun z=>[(.o 4,It.box [TV.d (.int .i64 n),TV.d (.sl (wZ l))]),(.s 4,It.v (.ptr (.o 4) 0)),(.o 5,It.box [TV.d (.sl (rts g.rs)),TV.d (.sl (nS g.ls))]),(.s 5,It.v (.ptr (.o 5) 0)),(.o 8,It.box [TV.c (Value.slice none 0 0),TV.c (Value.slice none 0 0),TV.c (Value.slice none 0 0)]),(.s 8,It.v (.ptr (.o 8) 0)),(.s 9,It.v (.d (.int .i64 0))),(.s 11,It.v (.ptr (.o 11) 0)),(.o 11,It.box [TV.aW 70 (t.dl.length+(y7 (l.take z.1) v pk).length),TV.aW 71 t.cr.length,TV.c (Value.slice none 0 0)]),(.o 70,It.row 87 11 (dd (t.dl.map rF)++dd (((y7 (l.take z.1) v pk).map fun a=>(v,rY pk a.b)).map rF)) false),(.o 71,It.row 124 3 (dd (t.cr.map Ci)) false),
      (.o 54,It.sJ 143 11 (dd (((v,pk)::Q).map rF))),(.s 12,It.v (.aW 54 (Q.length+1))),(.o 13,It.box (TV.d (.int .i64 v)::pk.cs.map .d)),(.s 13,It.v (.ptr (.o 13) 0)),
      (.o 14,It.box [TV.d (.int IntKind.u64 (tn (JQ l v pk))),TV.d (.int IntKind.u64 0),TV.d (.sl (List.map (fun x=>Wi (x.fst.to,x.snd)) S))]),(.s 14,It.v (.ptr (.o 14) 0)),(.s 15,It.v (.d (.sl (List.map snC S)))),
      (.s 73,It.v (.d (.sl (wZ l)))),(.s 74,It.v (.d (.int .i64 l.length))),(.s 75,It.v (.d (.int .i64 z.1)))])
     (fun z=>l.length-z.1) ⟨0,by omega⟩ ?_ ?_
    ·exact GS.to (by simp[hlen,y7,Pk.cs,bv,rF])
    ·rintro⟨i,j1⟩;by_cases hi:i<l.length
     ·have hiz:(i:Int)<l.length:=by omega
      have hl:=aj hi;have hmem:=aJ hi;have hg:=Gu hl;have hd1:=hdl i hi _ hl;generalize l[i]=a at hg hmem hd1;have hlb:=ajs he.v v pk hmem;have hab:=he.v.lt a hmem;have hdi:=hdn i;generalize JQ l v pk=LO at hlb⊢;have hon:=ahe pk a.b;simp only[sH,Pk.cs,List.map,bv]at hon;by_cases hc:LO.getLsbD a.b=true
      ·rw[if_pos (hlb.1 hc)]at hd1
       have hsh:LO>>>a.b&&&1#64=1#64:=(Lj LO a.b).2 hc;simp -dsimp[hiz,hg,hlen,Ad.cs,Pk.cs,bv,hsh];and_intros;all_goals try first|rfl|omega|exact⟨by kernel_rfl⟩
       refine aI.of hon [] 0 ?_;simp -dsimp[hiz,hg,hlen,Ad.cs,Pk.cs,bv,wrap_i64 (n:=(i:Int)+1) (by omega) (by omega)];and_intros;all_goals try first|rfl|omega|exact⟨by kernel_rfl⟩
       exact⟨⟨i+1,by omega⟩,GS.to (by simp[hd1,rF,Pk.cs,bv,iZ]),by simp;omega⟩
      ·rw[if_neg (fun h=>hc (hlb.2 h)),bQ]at hd1
       have hsh :¬(LO>>>a.b&&&1#64=1#64):=fun h=>hc ((Lj LO a.b).1 h)
       simp -dsimp[hiz,hg,hlen,Ad.cs,Pk.cs,bv,hsh,wrap_i64 (n:=(i:Int)+1) (by omega) (by omega)];and_intros;all_goals try first|rfl|omega|exact⟨by kernel_rfl⟩
       exact⟨⟨i+1,by omega⟩,GS.to (by simp[hd1,rF,Pk.cs,bv]),by simp;omega⟩
     ·have hiz :¬(i:Int)<l.length:=by omega
      have hdi:=hdn i;rw[show l.take i=l from aS (by omega)]at hdi⊢
      obtain⟨DL,hDL⟩:∃DL,DL=(y7 l v pk).map fun a=>(v,rY pk a.b):=⟨_,rfl⟩
      have hDl:(y7 l v pk).length=DL.length:=by rw[hDL,aV]
      rw[←hDL,hDl];have axC:(t.dl++DL).length=t.dl.length+DL.length:=by simp
      have axB:dd ((t.dl++DL).map rF)=dd (t.dl.map rF)++dd (DL.map rF):=by simp
      have hk4:t.cr.length+S.length≤2000:=by have:=k4;simpa[Af,hSn]using this
      have hSm:∀x∈S,x.1∈l∧(price g.ls v x.1.to).isSome:=fun x hx=>by
       refine⟨?_,k3 (x.1.to,x.2) (by rw[hSn];exact ak.2 ⟨x,hx,rfl⟩)⟩;rw[hS]at hx
       unfold EF at hx;split at hx
       ·simp at hx
       ·obtain⟨a,ha,rfl⟩:=ak.1 hx;exact(bK.1 ha).1
      simp -dsimp[hiz,Pk.cs,bv];and_intros;all_goals try first|rfl|omega|exact⟨by kernel_rfl⟩
      refine dD.of [54] (kb 0x100000f0002001e004000201e0002010420017aff7f) (ι:={j:Nat // j≤S.length})
       (fun z=>[(.o 4,It.box [TV.d (.int .i64 n),TV.d (.sl (wZ l))]),(.s 4,It.v (.ptr (.o 4) 0)),(.o 5,It.box [TV.d (.sl (rts g.rs)),TV.d (.sl (nS g.ls))]),(.s 5,It.v (.ptr (.o 5) 0)),(.o 8,It.box [TV.c (Value.slice none 0 0),TV.c (Value.slice none 0 0),TV.c (Value.slice none 0 0)]),(.s 8,It.v (.ptr (.o 8) 0)),(.s 9,It.v (.d (.int .i64 0))),(.s 11,It.v (.ptr (.o 11) 0)),(.o 11,It.box [TV.aW 70 (t.dl++DL).length,TV.aW 71 (t.cr.length+z.1),TV.c (Value.slice none 0 0)]),(.o 70,It.row 87 11 (dd ((t.dl++DL).map rF)) false),(.o 71,It.row 124 3 (dd (t.cr.map Ci)++dd (((S.take z.1).map fun x=>(v,x.1.to,x.2.bits)).map Ci)) false),
        (.o 54,It.sJ 143 11 (dd (((v,pk)::Q).map rF)++dd (((S.take z.1).map fun x=>(x.1.to,x.2)).map rF))),(.s 12,It.v (.aW 54 (Q.length+1+z.1))),(.o 13,It.box (TV.d (.int .i64 v)::pk.cs.map .d)),(.s 13,It.v (.ptr (.o 13) 0)),
        (.s 113,It.v (.d (.sl (List.map snC S)))),(.s 114,It.v (.d (.int .i64 S.length))),(.s 115,It.v (.d (.int .i64 z.1)))])
       (fun z=>S.length-z.1) ⟨0,by omega⟩ ?_ ?_
      ·exact GS.to (by simp[Pk.cs,bv,rF])
      ·rintro⟨j,m1⟩;by_cases hj:j<S.length
       ·have hjz:(j:Int)<S.length:=by omega
        have hl:=aj hj;obtain⟨s1,s2⟩:=hSm _ (aJ hj);have ht:S.take (j+1)=S.take j++[S[j]]:=by rw[aT,hl];rfl
        generalize S[j]=x at hl s1 s2 ht;obtain⟨a,pc⟩:=x;simp only at s1 s2;have hgs:(List.map snC S)[j]? = some (snC (a,pc)):=by simp[hl]
        have aos:=apb g h0 v a (hk a s1) s2;simp only[eU,Ad.cs,aC,dQ,ints]at aos;have hm1:min j S.length=j:=by omega
        simp -dsimp[hjz,hgs,snC,Wi,Ad.cs,Pk.cs,bv,bg,dJ];and_intros;all_goals try first|rfl|omega|exact⟨by kernel_rfl⟩
        refine aI.of aos [] 0 ?_;simp -dsimp[Ad.cs,Pk.cs,bv];and_intros;all_goals try first|rfl|omega|exact⟨by kernel_rfl⟩
        refine dD.of [54] (kb 0x100000f0002001e004000201e0002010420017aff7f) (ι:={k:Nat // k≤1})
         (fun z=>[(.o 4,It.box [TV.d (.int .i64 n),TV.d (.sl (wZ l))]),(.s 4,It.v (.ptr (.o 4) 0)),(.o 5,It.box [TV.d (.sl (rts g.rs)),TV.d (.sl (nS g.ls))]),(.s 5,It.v (.ptr (.o 5) 0)),(.o 8,It.box [TV.c (Value.slice none 0 0),TV.c (Value.slice none 0 0),TV.c (Value.slice none 0 0)]),(.s 8,It.v (.ptr (.o 8) 0)),(.s 9,It.v (.d (.int .i64 0))),(.s 11,It.v (.ptr (.o 11) 0)),(.o 11,It.box [TV.aW 70 (t.dl++DL).length,TV.aW 71 (t.cr.length+j+z.1),TV.c (Value.slice none 0 0)]),(.o 70,It.row 87 11 (dd ((t.dl++DL).map rF)) false),(.o 71,It.row 124 3 (dd (t.cr.map Ci)++dd (((S.take j).map fun x=>(v,x.1.to,x.2.bits)).map Ci)++(if z.1=0 then []else [(Ci (v,a.to,pc.bits)).map .d])) false),
          (.o 54,It.sJ 143 11 (dd (((v,pk)::Q).map rF)++dd (((S.take j).map fun x=>(x.1.to,x.2)).map rF))),(.s 12,It.v (.aW 54 (Q.length+1+j))),(.o 13,It.box (TV.d (.int .i64 v)::pk.cs.map .d)),(.s 13,It.v (.ptr (.o 13) 0)),
          (.s 113,It.v (.d (.sl (List.map snC S)))),(.s 114,It.v (.d (.int .i64 S.length))),(.s 115,It.v (.d (.int .i64 j))),
          (.o 19,It.box ((snC (a,pc)).map .d)),(.s 19,It.v (.ptr (.o 19) 0)),(.s 22,It.v (.d (.int .i64 (if z.1=0 then v else a.to)))),
          (.s 144,It.v (.d (ints [a.to]))),(.s 145,It.v (.d (.int .i64 1))),(.s 146,It.v (.d (.int .i64 z.1)))])
         (fun z=>1-z.1) ⟨0,by omega⟩ ?_ ?_
        ·exact GS.to (by simp[Pk.cs,Ad.cs,bv,rF,snC,Wi,Ci,ints])
        ·rintro⟨k,n1⟩;by_cases hk0:k=0
         ·subst hk0;simp -dsimp[Pk.cs,Ad.cs,bv,snC,Wi,Ci,ints];and_intros;all_goals try first|rfl|omega|exact⟨by kernel_rfl⟩
          exact⟨⟨1,by omega⟩,GS.to (by simp[Ci,bv,rF,Pk.cs,snC,Wi,Ad.cs,ints];rfl),by simp⟩
         ·obtain rfl:k=1:=by omega
          have hfi :¬((2000:Int)<t.cr.length+j+1):=by omega
          simp -dsimp[Pk.cs,Ad.cs,bv,snC,Wi,Ci,ints,hfi,wrap_i64 (n:=(j:Int)+1) (by omega) (by omega)];and_intros;all_goals try first|rfl|omega|exact⟨by kernel_rfl⟩
          exact⟨⟨j+1,by omega⟩,GS.to (by simp[ht,Ci,bv,rF,Pk.cs,snC,Wi,Ad.cs,ints,iZ]),by simp;omega⟩
       ·have hjz :¬(j:Int)<S.length:=by omega
        have hjl:j=S.length:=by omega
        rw[show S.take j=S from aS (by omega)];simp -dsimp[hjz];and_intros;all_goals try first|rfl|omega|exact⟨by kernel_rfl⟩
        have hst:Af l (v,pk) t=⟨t.dl++DL,t.cr++(S.map fun x=>(v,x.1.to,x.2.bits)),t.ls⟩:=by simp[Af,hSn,hDL]
        rw[hst,hSn]at i1 k5
        rw[hst]at k4
        refine⟨⟨(m,Q++S.map fun x=>(x.1.to,x.2),⟨t.dl++DL,t.cr++(S.map fun x=>(v,x.1.to,x.2.bits)),t.ls⟩),i1,k5,by simp only;omega,?_,k4,i6,?_⟩,?_,by simp⟩
        ·simp only[aU];omega
        ·simp only[aU,aV];omega
        refine GS.cut' 12 54 (n:=Q.length+1+j) (j:=1) (k:=11) (e:=143) (((v,pk)::Q).map rF++(S.map fun x=>(x.1.to,x.2)).map rF) (by simp) (by simp[rF,Pk.cs]) (by simp;omega) (by omega) (by simp[Pk.cs,bv,rF];omega) (by simp) (by simp[Pk.cs,bv,rF,Ci];try omega)
theorem Kz:∀{a b:List Int},a.Pairwise (fun x y=>x<y)→b.Pairwise (fun x y=>x<y)→(∀x,x∈a↔x∈b)→a=b
 | [],[],_,_,_=>rfl
 | [],y::b,_,_,h=>by have:=(h y).2 (by simp);simp at this
 | x::a,[],_,_,h=>by have:=(h x).1 (by simp);simp at this
 | x::a,y::b,ha,hb,h=>by
   rw[dM]at ha hb
   have e:x=y:=by
    rcases aF.1 ((h x).1 (by simp))with e|e
    ·exact e
    ·rcases aF.1 ((h y).2 (by simp))with e2|e2
     ·exact e2.symm
     ·have:=hb.1 x e;have:=ha.1 y e2;omega
   subst e;rw[Kz ha.2 hb.2 fun z=>?_];constructor
   ·intro hz;rcases aF.1 ((h z).1 (by simp[hz]))with e|e
    ·have:=ha.1 z hz;omega
    ·exact e
   ·intro hz;rcases aF.1 ((h z).2 (by simp[hz]))with e|e
    ·have:=hb.1 z hz;omega
    ·exact e
theorem put_eq{l rs:List Int}(ha:rs.Pairwise (· < ·))(h:∀x,x∈l↔x∈rs):Iz l=rs:=by have h1:=abZ l [] List.Pairwise.nil;exact Kz h1.1 ha fun x=>by rw[Iz,h1.2,h];simp
theorem ag5{l rs:List Int}(hl:l.Nodup)(hr:rs.Nodup)(h:∀x,x∈l↔x∈rs):l.length=rs.length:=
 Nat.le_antisymm (qP hl fun x hx=>(h x).1 hx) (qP hr fun x hx=>(h x).2 hx)
theorem acH{g:aX}{l:List Ad}:∀{n:Nat} {Q:List (Int×Pk)} {t:sG},okE g l n Q t→t.cr.length≤2000→(yK l n Q t).cr.length≤2000
 | 0,Q,t,_,h=>by simpa[yK]using h
 | n+1,[],t,_,h=>by simpa[yK]using h
 | n+1,q::Q,t,⟨_,_,_,h4,h5⟩,h=>by rw[yK];exact acH h5 h4
def trM(g:aX)(r:Int)(rs:List Int):List (Int×Int):=zu (rG g r rs)
def p0M:Pk:=⟨0,0,0,0,63,0,0,0,0#64,ByteArray.empty⟩
def qM(g:aX)(r:Int)(rs:List Int):Pk:=pkE p0M 64 (tK (jJ g) (qF rs (trM g r rs)))
section
variable {g:aX} {r:Int} {rs:List Int} {e:Int}
theorem ako{h:Int×Int}:h∈trM g r rs↔h∈rG g r rs:=(fU _ _).mem_iff
theorem aiw:(trM g r rs).Nodup:=(fU _ _).symm.nodup (XF g r rs)
theorem qX.rts(H:qX g r rs e):BH g r rs (fun z=>tH g z r) (trM g r rs) where
 ok:=dV H.h0
 rt:=H.rt
 has:=H.has
 near:=H.near
 lr z hz:=Eu (dV H.h0) (H.has z hz) H.rt (H.near z hz)
 mem h:=by rw[ako,adI]
theorem aib{L:List (Int×Int)}(hn:L.Nodup):(zu L).Pairwise fun a b=>a.1<b.1∨(a.1=b.1∧a.2<b.2):=by
 have key:∀a b:Int×Int,(!decide (Lr [b.1,b.2] [a.1,a.2]<0))=true↔a.1<b.1∨a.1=b.1∧a.2≤b.2:=fun a b=>by rw[L9];simp
 have h1:(zu L).Pairwise fun a b=>(!decide (Lr [b.1,b.2] [a.1,a.2]<0))=true:=
  jH (fun a b c=>by simp only[key];omega) (fun a b=>by rw[bJ];simp only[key];omega) L
 have h2:(zu L).Nodup:=(fU _ _).symm.nodup hn;refine(h1.and (gV.1 h2)).imp fun {a b} h=>?_
 obtain⟨h3,h4⟩:=h;rcases (key a b).1 h3 with h|⟨h,h5⟩
 ·exact .inl h
 ·refine .inr ⟨h,?_⟩;have:a.2≠b.2:=fun e=>h4 (Prod.ext h e)
  omega
theorem qX.id(H:qX g r rs e){x:Int}(hx:dF g.rs x=true):1≤x∧x≤99:=by have:=(dV H.h0).id hx;simpa[EU]using this
theorem qX.good(H:qX g r rs e):Nr r (trM g r rs) where
 rt:=H.id H.rt
 ls h hm:=by obtain⟨c,hc⟩:=gq.1 (H.rts.price h hm);have:=mW (dV H.h0) hc;exact⟨H.id this.1,H.id this.2⟩
 BP:=aib (XF g r rs)
 nd:=H.rts.nds aiw
 kn:=H.rts.kn
 n:=by
  have h1:=(bG.1 (H.rts.nds aiw)).2;have h2:=qP h1 (b:=g.rs.map Rt.id) fun x hx=>by obtain⟨h,hm,rfl⟩:=ak.1 hx;obtain⟨_,_,_,h4,_⟩:=H.rts.pre hm;exact jQ.1 h4
  have:=H.n;simp only[aV]at h2;omega
theorem qX.need(H:qX g r rs e):UC (jJ g) r (trM g r rs) rs where
 BP:=H.BP
 n:=by have:=H.l;omega
 mem x hx:=by
  rw[YC];rcases H.rts.on x hx with h|⟨v,h⟩
  ·exact .inl h
  ·exact .inr ⟨_,h,rfl⟩
 has t ht:=by
  have hg:=dV H.h0;simp only[qF,aN,ak]at ht;rcases ht with⟨x,hx,rfl⟩|⟨h,hm,rfl⟩
  ·obtain⟨a,ha,e1,e2,e3⟩:=H7 hg (x:=(x,3,x)) ((zU hg).2 ⟨H.has x hx,.inl ⟨rfl,rfl⟩⟩);exact⟨a,ha,by simp[Ad.tg,e1,e2,e3]⟩
  ·obtain⟨c,hc⟩:=gq.1 (H.rts.price h hm);obtain⟨a,ha,e1,e2,e3⟩:=H7 hg (x:=(h.1,1,h.2)) ((zU hg).2 ⟨(mW hg hc).1,.inr ⟨rfl,c,hc⟩⟩);exact⟨a,ha,by simp[Ad.tg,e1,e2,e3]⟩
theorem ahE:(qM g r rs).ok=true:=by
 have hv:wz (tK (jJ g) (qF rs (trM g r rs))) 64=true:=ae4 rfl fun k hk _=>by omega
 rw[Vr];simp[qM,pkE,p0M,hv]
theorem qX.sJ(H:qX g r rs e)(hl:(jJ g).length≤64):ae_ g (jJ g) (trM g r rs) rs r (g.rs.map Rt.id) (tK (jJ g) (qF rs (trM g r rs))) [] [(r,qM g r rs)] where
 q:=⟨by simp,by simp,by simp,by simpa using jQ.1 H.rt,by simp⟩
 ok c hc:=by obtain rfl:=dH.1 hc;exact⟨ahE,by simp[qM,pkE,p0M],fun k _ h=>h,fun a _ h _=>h⟩
theorem qX.yK(H:qX g r rs e)(hl:(jJ g).length≤64):
  okE g (jJ g) g.rs.length [(r,qM g r rs)] qV∧(∀x,x∈(Go.Proofs.yK (jJ g) g.rs.length [(r,qM g r rs)] qV).dl.map (·.1)↔x∈rs)∧((Go.Proofs.yK (jJ g) g.rs.length [(r,qM g r rs)] qV).dl.map (·.1)).Nodup:=by
 have hE:=ahW H.rts hl;obtain⟨h1,_,h3⟩:=Uj hE g.rs.length (t:=qV) (H.sJ hl) (by simp) (by simp[qV]) rfl;refine⟨h1,?_⟩;have hb:=afn hE.tree;rw[aV]at hb
 rw[h3];rw[show([(r,qM g r rs)].map (·.1)) = [r] from rfl]at h3⊢
 generalize NG (chE (jJ g) (trM g r rs)) g.rs.length [r]=K at hb h3;have hcl:∀h∈trM g r rs,h.1∈K→h.2∈K:=fun h hm hk=>by have:=hb.cl h.1 hk h.2 ((FP hE).2 hm);simpa using this
 have hrt:r∈K:=by simpa using hb.rt
 have hin:∀z∈rs,z∈K:=fun z hz=>by
  rcases H.rts.on z hz with h|⟨v,h⟩
  ·rw[h];exact hrt
  ·obtain⟨w,hw,hm⟩:=(H.rts.mem _).1 h;exact(Z7 hcl hrt (fun x hx=>(H.rts.mem x).2 ⟨w,hw,hx⟩) _ hm).2
 refine⟨fun x=>?_,?_⟩
 ·simp only[qV,dQ,dJ,bK,decide_eq_true_eq];exact⟨fun h=>h.2,fun h=>⟨hin x h,h⟩⟩
 ·simp only[qV,dQ,dJ];have:=hb.nd;rw[bQ]at this
  exact this.filter _
end
end Go.Proofs
