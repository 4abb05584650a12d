/-
  What functions of the program compute, stated as contracts over plain data; the conditions of each stand in its own statement.
-/
import Derived.Test.YtkikielfhjoogaaGreatDoorZA26
import Derived.Test.YtkikielfhjoogaaGreatDoorZA19
import Derived.Test.YtkikielfhjoogaaGreatDoorZA17
import Derived.Test.YtkikielfhjoogaaGreatDoorZA00
import Derived.Test.YtkikielfhjoogaaGreatDoorZA09
set_option linter.unusedVariables false
set_option linter.unusedSimpArgs false
set_option maxRecDepth 100000
set_option maxHeartbeats 2000000
namespace Go.Proofs
open Go Go.Tr
@[simp]theorem PW(t:S)(ν:List Pl):∀ds:List D,TV.n_ t ν (ds.map .d)=some (ds.map .d)
 | []=>rfl
 | d::ds=>by simp[TV.n_,TV.pass,PW t ν ds]
@[simp]theorem J8(t:S):∀ds:List D,TV.pU t (ds.map .d)=True
 | []=>by simp[TV.pU]
 | d::ds=>by simp[TV.pU,TV.yU,J8 t ds]
@[simp]theorem Qh:∀ds:List D,TV.qG (ds.map .d) = []
 | []=>rfl
 | d::ds=>by simp[TV.qG,TV.rows,Qh ds]
@[simp]theorem GL(ν:List Pl)(b:Nat):∀ds:List D,TV.backs ν b (ds.map .d)=ds.map .d
 | []=>rfl
 | d::ds=>by simp[TV.backs,TV.back,GL ν b ds]
theorem alv(id:Int)(y:Ed):Contract Tryz.prog 131 [.agg (y.cs.map .d),.ptr (.x 0) 0] [.box ([D.int .i64 id].map .d)] (.d (.bool (decide (y.id=id)))) [.box ([D.int .i64 id].map .d)] []:=by refine ay Tryz.func131 rfl (fun E0=>?_);refine iC.sound (g:=.mk) (ow:=[]) (kp:=(kb 0xf)) ?_;rw[Tryz.ntmps131];simp -dsimp[Ed.cs];refine Fin.of ?_;simp
theorem an9(p:Pn)(hp:p.es.length≤1000)(id:Int):Contract Tryz.prog 75 [su p,.d (.int .i64 id)] [] (.d (.bool (p.es.any fun y=>decide (y.id=id)))) [] []:=by refine ay Tryz.func75 rfl (fun E0=>?_);refine iC.sound (g:=.mk) (ow:=[]) (kp:=(kb 0x1f)) ?_;rw[Tryz.ntmps75];simp -dsimp[su];refine aI.of (GY p.es (by omega) 131 [.int .i64 id] (fun y=>decide (y.id=id)) (alv id) (by simp)) [.o 3] 0 ?_;simp -dsimp;refine Fin.of ?_;simp
theorem aj9(p:Pn)(hp:p.es.length≤1000)(id:Int):Contract Tryz.prog 74 [.d (.int .i64 id),.ptr (.x 0) 0] [.box ([D.int .i64 p.jd,.int .i64 p.len,.sl (zA p.es)].map .d)] (.d (.bool (!(p.es.any fun y=>decide (y.id=id))))) [.box ([D.int .i64 p.jd,.int .i64 p.len,.sl (zA p.es)].map .d)] []:=by refine ay Tryz.func74 rfl (fun E0=>?_);refine iC.sound (g:=.mk) (ow:=[]) (kp:=(kb 0xb)) ?_;rw[Tryz.ntmps74];simp -dsimp;refine aI.of (an9 p hp id) [] 0 ?_;simp -dsimp[su];refine Fin.of ?_;simp
theorem aml(p:Pn)(hp:p.es.length≤1000)(ids:List Int)(hi:ids.length≤100000):Contract Tryz.prog 25 [su p,.d (ints ids)] [] (Qp (xI p ids)) [] []:=by
 refine ay Tryz.func25 rfl (fun E0=>?_);refine iC.sound (g:=.mk) (ow:=[]) (kp:=(kb 0x800000f88001d2ef7)) ?_;rw[Tryz.ntmps25];simp -dsimp[su];refine aI.of (Dy p hp) [] 0 ?_;rcases (aA (oJ p)).symm with a1|a1
 ·simp -dsimp[a1,su];refine Fin.view 4 ?_;simp -dsimp;refine Fin.of ?_;simp[Qp,xI,a1,Un]
 ·simp -dsimp[a1,su,ints];refine dD.of [] (kb 0x800000f88001d2ef7) (ι:={i:Nat // i≤ids.length∧∀a,0<a→a<i→ids.getD (a-1) 0<ids.getD a 0})
   (fun z=>[(.s 0,It.v (.agg [TV.d (.int .i64 p.jd),TV.d (.int .i64 p.len),TV.d (.sl (zA p.es))])),(.s 1,It.v (.d (ints ids))),
    (.o 2,It.box [TV.d (.int .i64 p.jd),TV.d (.int .i64 p.len),TV.d (.sl (zA p.es))]),
    (.s 2,It.v (.ptr (.o 2) 0)),(.s 4,It.v (.c (Value.slice none 0 0))),(.s 5,It.v (.d (.int .i64 0))),(.s 18,It.v (.d (.int .i64 ids.length))),(.s 19,It.v (.d (.int .i64 z.1)))])
   (fun z=>ids.length-z.1) ⟨0,by omega,fun a h=>by omega⟩ ?_ ?_
  ·exact GS.to (by simp[ints])
  ·rintro⟨i,i1,i2⟩;by_cases hi:i<ids.length
   ·by_cases h0:0<i
    ·have hi1:i-1<ids.length:=by omega
     have g1:ids.getD i 0=ids[i]:=by simp[List.getD,hi]
     have g2:ids.getD (i-1) 0=ids[i-1]:=by simp[List.getD,hi1]
     have b5:(1:Int)≤i:=by omega
     have b6:(i:Int)-1<ids.length:=by omega
     by_cases h:ids[i]≤ids[i-1]
     ·simp -dsimp[ints,hi,hi1,h0,b5,b6,h,wrap_i64 (n:=(i:Int)-1) (by omega) (by omega),wrap_i64 (n:=(i:Int)+1) (by omega) (by omega)];refine⟨?_,⟨by kernel_rfl⟩⟩;refine Fin.view 4 ?_;simp -dsimp;refine Fin.of ?_;have hasc:Zf ids=false:=by
       simp only[Zf,decide_eq_false_iff_not];exact fun hc=>by have:=hc i (by omega) hi;rw[g1,g2]at this;omega
      simp[Qp,xI,a1,hasc,Un]
     ·simp -dsimp[ints,hi,hi1,h0,b5,b6,h,wrap_i64 (n:=(i:Int)-1) (by omega) (by omega),wrap_i64 (n:=(i:Int)+1) (by omega) (by omega)];refine⟨?_,⟨by kernel_rfl⟩⟩;exact⟨⟨i+1,by omega,fun a h0 ha=>by
       by_cases e:a=i
       ·subst e;rw[g1,g2];omega
       ·exact i2 a h0 (by omega)⟩,GS.to (by simp[ints]),by simp;omega⟩
    ·obtain rfl:i=0:=by omega
     simp -dsimp[ints,hi,wrap_i64 (n:=1) (by omega) (by omega)];try refine⟨?_,⟨by kernel_rfl⟩⟩
     exact⟨⟨1,by omega,fun a h0 ha=>by omega⟩,GS.to (by simp[ints]),by simp;omega⟩
   ·have hasc:Zf ids=true:=by
     simp only[Zf,decide_eq_true_eq];exact fun a h0 ha=>i2 a h0 (by omega)
    simp -dsimp[ints,hi];refine aI.of (UO ids (by omega) 74 [.int .i64 p.jd,.int .i64 p.len,.sl (zA p.es)] (fun id=>!(p.es.any fun y=>decide (y.id=id))) (aj9 p hp) (by simp)) [.o 2] 0 ?_;rcases (aA (ids.any (fun id=>!(p.es.any fun y=>decide (y.id=id))))).symm with a2|a2
    ·have hkn:ids.all (FN p)=true:=by
      rw[bM];intro x hx;rw[iq]at a2
      have:=a2 x hx;rw[Tn]at this
      simpa using this
     simp -dsimp[a2,uS];refine dD.of [] (kb 0x800000f88001d2ef7) (ι:={z:Nat×List Sb // z.1≤ids.length∧z.2.length≤z.1∧z_ p.len ids []=z_ p.len (ids.drop z.1) z.2})
      (fun z=>[(.s 0,It.v (.agg [TV.d (.int .i64 p.jd),TV.d (.int .i64 p.len),TV.d (.sl (zA p.es))])),(.s 1,It.v (.d (ints ids))),
       (.o 2,It.box [TV.d (.int .i64 p.jd),TV.d (.int .i64 p.len),TV.d (.sl (zA p.es))]),
       (.s 2,It.v (.ptr (.o 2) 0)),(.s 4,It.v (.c (Value.slice none 0 0))),(.s 5,It.v (.d (.int .i64 0))),(.s 7,It.v (.aW 7 z.1.2.length)),(.o 7,.row 94 2 (dd (Un z.1.2)) false),
       (.s 40,It.v (.d (ints ids))),(.s 41,It.v (.d (.int .i64 ids.length))),(.s 42,It.v (.d (.int .i64 z.1.1)))])
      (fun z=>ids.length-z.1.1) ⟨(0,[]),by simp,by simp,rfl⟩ ?_ ?_
     ·exact GS.own' (k:=7) 94 2 (by simp) (by simp) (by simp[ints,Un])
     ·rintro⟨⟨i,l⟩,q1,q2,q3⟩;simp only at q1 q2 q3;by_cases hq:i<ids.length
      ·have hd:ids.drop i=ids[i]::ids.drop (i+1):=cZ _;have hB:=plB ids[i] p.len;have hsh:=aj_ ⟨hB.2.2.1,hB.2.2.2⟩;have hsg:0≤tV ids[i] p.len:=hB.2.2.1;simp -dsimp[ints,hq,wrap_i64 (n:=(i:Int)+1) (by omega) (by omega)];refine aI.of (PX ids[i] p.len) [] 0 ?_;rcases List.eq_nil_or_concat l with rfl|⟨pre,y,rfl⟩
       ·simp -dsimp[Dn,su,Un,hsg,wrap_i64 (n:=0) (by omega) (by omega),wrap_i64 (n:=(i:Int)+1) (by omega) (by omega)];refine⟨?_,⟨by kernel_rfl⟩⟩;exact⟨⟨(i+1,[⟨uX ids[i] p.len,Jl (tV ids[i] p.len)⟩]),by dsimp only;omega,by simp,by dsimp only;rw[q3,hd,z_,Um]⟩,GS.to (by simp[ints,Un,Sb.cs,bv,hsh]),by simp;omega⟩
       ·rw[List.concat_eq_append]at *
        have hlen:pre.length+1≤i:=by simpa using q2
        have d1:∀x,(dd (List.map Sb.cs pre)++[x])[pre.length]? = some x:=fun x=>by simp[dd]
        have d2:∀x y,(dd (List.map Sb.cs pre)++[x]).set pre.length y=dd (List.map Sb.cs pre)++[y]:=fun x y=>by simp[dd,ni]
        have d3:∀x y,(dd (List.map Sb.cs pre)++[x,y])[pre.length+1]? = some y:=fun x y=>by simp[dd,b_]
        have d4:∀x y z,(dd (List.map Sb.cs pre)++[x,y]).set (pre.length+1) z=dd (List.map Sb.cs pre)++[x,z]:=fun x y z=>by simp[dd,ni]
        have n0 :¬(pre.length:Int)+1=0:=by omega
        by_cases hs:y.set=uX ids[i] p.len
        ·simp -dsimp[Dn,hs,Un,Sb.cs,bv,hsg,n0,d1,d2,d3,d4,wrap_i64 (n:=(pre.length:Int)) (by omega) (by omega),wrap_i64 (n:=(pre.length:Int)+1) (by omega) (by omega),wrap_i64 (n:=(i:Int)+1) (by omega) (by omega)];and_intros;all_goals try first|omega|exact⟨by kernel_rfl⟩
         exact⟨⟨(i+1,pre++[⟨y.set,y.bits|||Jl (tV ids[i] p.len)⟩]),by dsimp only;omega,by simp;omega,by dsimp only;rw[q3,hd,z_,←hs,Qn]⟩,GS.to (by simp[ints,Un,Sb.cs,bv,hs,hsh]),by simp;omega⟩
        ·simp -dsimp[Dn,hs,Un,Sb.cs,bv,hsg,n0,d1,d2,d3,d4,wrap_i64 (n:=(pre.length:Int)) (by omega) (by omega),wrap_i64 (n:=(pre.length:Int)+1) (by omega) (by omega),wrap_i64 (n:=(i:Int)+1) (by omega) (by omega)];and_intros;all_goals try first|omega|exact⟨by kernel_rfl⟩
         exact⟨⟨(i+1,pre++[y]++[⟨uX ids[i] p.len,Jl (tV ids[i] p.len)⟩]),by dsimp only;omega,by simp;omega,by dsimp only;rw[q3,hd,z_,Ul _ _ hs]⟩,GS.to (by simp[ints,Un,Sb.cs,bv,hsh]),by simp;omega⟩
      ·simp -dsimp[ints,hq];refine Fin.view 4 ?_;simp -dsimp;refine Fin.of ?_;have hX:z_ p.len ids []=l:=by rw[q3,g_ (by omega)];rfl
       simp[Qp,xI,a1,hasc,hkn,hX]
    ·have hkn:ids.all (FN p)=false:=by
      rw[iG]at a2
      obtain⟨x,hx,he⟩:=a2;rw[Tn]at he
      rw[List.all_eq_false];exact⟨x,hx,by simpa using he⟩
     simp -dsimp[a2,uS];refine Fin.view 4 ?_;simp -dsimp;refine Fin.of ?_;simp[Qp,xI,a1,hasc,hkn,Un]
theorem aem(p:Pn)(hp:p.es.length≤1000)(ids:List Int)(hi:ids.length≤100000)(q:Pk):Contract Tryz.prog 8 [su p,.d (ints ids),sH q] [] (Yg (acz p ids q)) [] []:=by
 refine ay Tryz.func8 rfl (fun E0=>?_);refine iC.sound (g:=.mk) (ow:=[]) (kp:=(kb 0x40003d017ef)) ?_;rw[Tryz.ntmps8];have hlen:=aeV p ids;simp -dsimp[su,sH,Pk.cs];refine aI.of (aml p hp ids hi) [] 0 ?_
 have hR:acz p ids q=if(xI p ids).2=0 then Iy q p (xI p ids).1 []else([],(xI p ids).2):=rfl
 rw[hR];generalize hr:xI p ids=r at hlen;by_cases h0:r.2=0
 ·simp -dsimp[Qp,su,h0];refine dD.of [] (kb 0x40003d017ef) (ι:={z:Nat×Pk×List Pk // z.1≤r.1.length∧z.2.2.length≤z.1∧(∀s,z.2.1.with p s=q.with p s)∧Iy q p r.1 []=Iy q p (r.1.drop z.1) z.2.2})
   (fun z=>[(.s 0,It.v (.agg [TV.d (.int .i64 p.jd),TV.d (.int .i64 p.len),TV.d (.sl (zA p.es))])),(.s 1,It.v (.d (ints ids))),
    (.s 2,It.v (.agg [TV.d (.int .i64 q.mode),TV.d (.int .i64 q.jd),TV.d (.int .i64 q.set),TV.d (.int .i64 q.len),TV.d (.int .i64 q.ttl),TV.d (.int .i64 q.ent),TV.d (.int .i64 q.ing),TV.d (.int .i64 q.proto),TV.d (bv q.bits),TV.d (.str q.pay)])),
    (.o 3,It.box [TV.d (.int .i64 p.jd),TV.d (.int .i64 p.len),TV.d (.sl (zA p.es))]),(.s 3,It.v (.ptr (.o 3) 0)),
    (.o 5,It.box [TV.d (.int .i64 z.1.2.1.mode),TV.d (.int .i64 z.1.2.1.jd),TV.d (.int .i64 z.1.2.1.set),TV.d (.int .i64 z.1.2.1.len),TV.d (.int .i64 z.1.2.1.ttl),TV.d (.int .i64 z.1.2.1.ent),TV.d (.int .i64 z.1.2.1.ing),TV.d (.int .i64 z.1.2.1.proto),TV.d (bv z.1.2.1.bits),TV.d (.str z.1.2.1.pay)]),
    (.s 5,It.v (.ptr (.o 5) 0)),(.s 6,It.v (.c (Value.slice none 0 0))),(.s 7,It.v (.d (.int .i64 0))),
    (.s 8,It.v (.d (.sl (Un r.1)))),(.s 9,It.v (.d (.int .i64 0))),(.s 10,It.v (.aW 10 z.1.2.2.length)),(.o 10,.row 55 10 (dd (pks z.1.2.2)) false),(.s 22,It.v (.d (.sl (Un r.1)))),(.s 23,It.v (.d (.int .i64 r.1.length))),(.s 24,It.v (.d (.int .i64 z.1.1)))])
   (fun z=>r.1.length-z.1.1) ⟨(0,q,[]),by simp,by simp,fun s=>rfl,rfl⟩ ?_ ?_
  ·exact GS.own' (k:=10) 55 10 (by simp) (by simp) (by simp[ints,pks,h0])
  ·rintro⟨⟨i,qc,out⟩,q1,q2,q4,q3⟩;simp only at q1 q2 q3 q4;by_cases hq:i<r.1.length
   ·obtain⟨s,hs⟩:∃s,r.1[i]? = some s:=⟨r.1[i],aj hq⟩
    have hd:r.1.drop i=s::r.1.drop (i+1):=by rw[aB]at hs;obtain⟨_,rfl⟩:=hs;exact cZ _
    have hw:=q4 s;have ew:sH (q.with p s) = .agg [TV.d (.int .i64 qc.mode),TV.d (.int .i64 p.jd),TV.d (.int .i64 s.set),TV.d (.int .i64 p.len),TV.d (.int .i64 qc.ttl),TV.d (.int .i64 qc.ent),TV.d (.int .i64 qc.ing),TV.d (.int .i64 qc.proto),TV.d (bv s.bits),TV.d (.str qc.pay)]:=by rw[←hw];rfl
    simp -dsimp[hq,ah0 hs,Sb.cs,wrap_i64 (n:=(i:Int)+1) (by omega) (by omega)];try refine⟨?_,⟨by kernel_rfl⟩⟩
    refine aI.of (wY (q.with p s)) [] 0 ?_;rcases (aA (q.with p s).ok).symm with ho|ho
    ·simp -dsimp[ho,ew];refine Fin.view 6 ?_;simp -dsimp;refine Fin.of ?_;simp[Yg,h0,q3,hd,Iy,ho,pks]
    ·simp -dsimp[ho,ew,wrap_i64 (n:=(i:Int)+1) (by omega) (by omega)];and_intros;all_goals try first|omega|exact⟨by kernel_rfl⟩
     exact⟨⟨(i+1,qc.with p s,out++[qc.with p s]),by dsimp only;omega,by simp;omega,fun s'=>q4 s',by dsimp only;rw[q3,hd,Iy,if_pos ho,hw]⟩,GS.to (by simp[pks,Pk.with,Pk.cs]),by simp;omega⟩
   ·simp -dsimp[hq];refine Fin.view 6 ?_;simp -dsimp;refine Fin.of ?_;have hX:Iy q p r.1 []=(out,0):=by rw[q3,g_ (by omega)];rfl
    simp[Yg,h0,hX]
 ·simp -dsimp[Qp,su,h0];refine Fin.view 6 ?_;simp -dsimp;refine Fin.of ?_;simp[Yg,h0,pks]
end Go.Proofs

namespace Go.Tr
theorem aov{A B C:Type}{G H:A→B→C→Prop}{X:Prop}(b:∀a b c,H a b c→G a b c)(a:(∀a b c,H a b c→G a b c)→X):X:=a b
end Go.Tr

namespace Go.Proofs
open Go Go.Tr
theorem Ur(S:Nat):∀(l:List Int) (t:Int) (i:Nat) (z:CM×SM),uH S (l++[t]) i z=if S=2^(i+l.length)then yL (uH S l i z) t 0 (0,0)else uH S l i z
 | [],t,i,z=>by simp[uH]
 | x::l,t,i,z=>by have:=Ur S l t (i+1) (if S=2^i then yL z x 0 (0,0)else z);simp only[bg,uH,this,aH];rw[show i+1+l.length=i+(l.length+1) by omega]
theorem aff:((List.range 65).all fun p=>(List.range 65).all fun n=>decide (Lp .i64 ((p:Int)-1) (n:Int)=(((p-1)&&&n:Nat):Int))||decide (p=0))=true:=by decide+kernel
theorem abp{p n:Nat}(hp:p<65)(hn:n<65)(h0:0<p):Lp .i64 ((p:Int)-1) (n:Int)=(((p-1)&&&n:Nat):Int):=by have h1:=bM.1 (bM.1 aff p (bI.2 hp)) n (bI.2 hn);simp only[bJ,decide_eq_true_eq]at h1;exact h1.resolve_right (by omega)
theorem afe:Lp .i64 (((0:Nat):Int)-1) ((0:Nat):Int)=0:=by decide+kernel
theorem ac7:((List.range 65).all fun n=>decide (Lp .i64 (n:Int) ((n:Int)-1)=((n&&&(n-1):Nat):Int))||decide (n=0))=true:=by decide+kernel
theorem afd{n:Nat}(hn:n<65)(h0:0<n):Lp .i64 (n:Int) ((n:Int)-1)=((n&&&(n-1):Nat):Int):=by have h1:=bM.1 ac7 n (bI.2 hn);simp only[bJ,decide_eq_true_eq]at h1;exact h1.resolve_right (by omega)
theorem ac6:Lp .i64 ((0:Nat):Int) (((0:Nat):Int)-1)=0:=by decide+kernel
def akB(n q:Nat)(R:List Nat):Prop:=(q=0∧R = [])∨(0<q∧q<n∧q&&&n=q∧R=q::xJ n (q-1))
theorem Tv{n p:Nat}(hn:n<64)(hp:p≤n)(h0:0<p)(hs:p&&&n=p):akB n ((p-1)&&&n) (xJ n (p-1)):=by
 rw[aeY n hn p hp hs h0];by_cases h:(p-1)&&&n=0
 ·exact .inl ⟨h,if_pos h⟩
 ·have h1:(p-1)&&&n≤p-1:=Nat.and_le_left;refine .inr ⟨by omega,by omega,?_,if_neg h⟩;rw[Nat.and_assoc,Nat.and_self]
def sV(p q:CM)(part:Nat)(done:List Int)(z:CM×SM):CM×SM:=
 (fun r=>if r∈done then(lV p q part z).1 r else z.1 r,fun r=>if r∈done then(lV p q part z).2 r else z.2 r)
theorem aeo(p q:CM)(part:Nat)(z:CM×SM):sV p q part [] z=z:=by simp[sV]
theorem aaB{p q:CM}{part:Nat}{done:List Int}{z:CM×SM}{r c:Int}(hr:r∉done)(hc:p r=some c):yL (sV p q part done z) r (c+lC q r) (0,(part:Int))=sV p q part (done++[r]) z:=by
 have e:lC (sV p q part done z).1 r=lC z.1 r:=by simp[lC,sV,hr]
 unfold yL;rw[e];by_cases h:lC z.1 r≤c+lC q r
 ·rw[if_pos h];unfold sV;refine Prod.ext (funext fun x=>?_) (funext fun x=>?_)
  ·by_cases hx:x=r
   ·subst hx;simp[hr,lV,hc,h]
   ·simp[hx]
  ·by_cases hx:x=r
   ·subst hx;simp[hr,lV,hc,h]
   ·simp[hx]
 ·rw[if_neg h];unfold sV;refine Prod.ext (funext fun x=>?_) (funext fun x=>?_)
  ·by_cases hx:x=r
   ·subst hx;simp[lV,hc,h,yM]
   ·simp[hx,yM]
  ·by_cases hx:x=r
   ·subst hx;simp[lV,hc,h,yM]
   ·simp[hx,yM]
theorem Yh{p q:CM}{part:Nat}{done:List Int}{z:CM×SM}{r c:Int}(hr:r∈done)(hc:p r=some c):yL (sV p q part done z) r (c+lC q r) (0,(part:Int))=sV p q part done z:=by
 have e:lC (sV p q part done z).1 r=lC (lV p q part z).1 r:=by simp[lC,sV,hr]
 have h:lC (lV p q part z).1 r≤c+lC q r:=by
  rw[Vw,hc];simp only;split
  ·assumption
  ·exact fM _
 unfold yL;rw[e,if_pos h]
theorem aaA{p q:CM}{part:Nat}{done:List Int}{z:CM×SM}{r:Int}(hr:r∈done):sV p q part (done++[r]) z=sV p q part done z:=by
 have:∀x,(x∈done++[r])↔x∈done:=fun x=>by simp only[aN,dH];exact⟨fun h=>h.elim id fun e=>by rw[e];exact hr,.inl⟩
 unfold sV;simp only[this]
theorem aaz{p q:CM}{part:Nat}{done:List Int}{z:CM×SM}{r c:Int}(hc:p r=some c):yL (sV p q part done z) r (c+lC q r) (0,(part:Int))=sV p q part (done++[r]) z:=by
 by_cases hr:r∈done
 ·rw[Yh hr hc,aaA hr]
 ·exact aaB hr hc
theorem XK:∀{es:List (List Int×TV)} {k:List Int},k∈es.map (·.1)→∃v,kJ es k=some v
 | (a,v)::es,k,h=>by
   by_cases e:k=a
   ·exact⟨v,by simp[kJ,e]⟩
   ·have h':k∈es.map (·.1):=by simpa[e]using h
    obtain⟨w,hw⟩:=XK h';exact⟨w,by simp[kJ,e,hw]⟩
theorem aen{p q:CM}{part:Nat}{done:List Int}{z:CM×SM}(h:∀r c,p r=some c→r∈done):sV p q part done z=lV p q part z:=by
 unfold sV;refine Prod.ext (funext fun x=>?_) (funext fun x=>?_)
 ·by_cases hx:x∈done
  ·simp[hx]
  ·cases e:p x with
   | none=>simp[hx,lV,e]
   | some c=>exact absurd (h x c e) hx
 ·by_cases hx:x∈done
  ·simp[hx]
  ·cases e:p x with
   | none=>simp[hx,lV,e]
   | some c=>exact absurd (h x c e) hx
end Go.Proofs
