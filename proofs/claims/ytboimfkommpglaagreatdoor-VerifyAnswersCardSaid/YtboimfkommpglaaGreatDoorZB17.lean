/-
  What functions of the program compute, stated as contracts over plain data; the conditions of each stand in its own statement.
-/
import Derived.Test.YtboimfkommpglaaGreatDoorZB16
set_option linter.unusedVariables false
set_option linter.unusedSimpArgs false
set_option maxRecDepth 100000
set_option maxHeartbeats 2000000
namespace Go.Proofs
open Go Go.Tr
section
variable {α:Type} {q:α→Bool} {l:List α} {i:Nat} {x:α}
theorem BK(hx:l[i]? = some x)(h:l.any q=(l.drop i).any q)(hq:q x=false):l.any q=(l.drop (i+1)).any q:=by obtain⟨hi,rfl⟩:=aA.1 hx;rw[h,aU hi,List.any_cons,hq,qF]
theorem AX(hx:l[i]? = some x)(hq:q x=true):l.any q=true:=by grind
theorem Fg(h:l.any q=(l.drop i).any q)(hi :¬i<l.length):l.any q=false:=by grind[List.drop_eq_nil_of_le]
theorem Oo(hx:l[i]? = some x)(h:l.find? q=(l.drop i).find? q)(hq:q x=false):l.find? q=(l.drop (i+1)).find? q:=by grind[List.drop_eq_getElem_cons]
theorem R_(hx:l[i]? = some x)(h:l.find? q=(l.drop i).find? q)(hq:q x=true):l.find? q=some x:=by grind[List.drop_eq_getElem_cons]
theorem RZ(h:l.find? q=(l.drop i).find? q)(hi :¬i<l.length):l.find? q=none:=by grind[List.drop_eq_nil_of_le]
end
def pV{α:Type}(q:α→α→Bool):List α→Bool
 | x::y::r=>q x y||pV q (y::r)
 | _=>false
section
variable {α:Type} {q:α→α→Bool} {l:List α} {i:Nat} {x y:α}
theorem xX(hx:l[i]? = some x)(hy:l[i+1]? = some y)(h:pV q l=pV q (l.drop i))(hq:q x y=false):pV q l=pV q (l.drop (i+1)):=by obtain⟨hi,rfl⟩:=aA.1 hx;obtain⟨hj,rfl⟩:=aA.1 hy;rw[h,aU hi,aU hj,pV,hq,qF]
theorem zN(hx:l[i]? = some x)(hy:l[i+1]? = some y)(h:pV q l=pV q (l.drop i))(hq:q x y=true):pV q l=true:=by obtain⟨hi,rfl⟩:=aA.1 hx;obtain⟨hj,rfl⟩:=aA.1 hy;rw[h,aU hi,aU hj,pV,hq,rM]
theorem zM(h:pV q l=pV q (l.drop i))(hi :¬i+1<l.length):pV q l=false:=by
 rw[h];cases h:l.drop i with
 | nil=>rfl
 | cons a r=>
   cases r with
   | nil=>rfl
   | cons b r=>have:=congrArg List.length h;grind
end
def fM(l:List Rt)(r:Int):Bool:=l.any fun x=>decide (x.id=r)
theorem XQ(g:bV)(hg:g.rs.length≤1000000)(r:Int):Contract Tryz.prog 164 [d_ g,.d (.int .i64 r)] [] (.d (.bool (fM g.rs r))) [] []:=by
 refine aC Tryz.func164 rfl (fun E0=>?_);refine iK.sound (g:=.mk) (ow:=[]) (kp:=(kb 0x100437)) ?_;rw[Tryz.ntmps164];simp -dsimp[d_]
 refine bY.of [] (kb 0x100437) (ι:={i:Nat // i≤g.rs.length∧fM g.rs r=fM (g.rs.drop i) r}) (fun z=>[(.s 0,It.v (.agg [TV.d (.sl (rts g.rs)),TV.d (.sl (pq g.ls))])),(.s 1,It.v (.d (.int .i64 r))),(.o 2,It.box [TV.d (.sl (rts g.rs)),TV.d (.sl (pq g.ls))]),(.s 2,It.v (.ptr (.o 2) 0)),(.s 4,It.v (.d (.bool false))),(.s 5,It.v (.d (.int .i64 z.1)))]) (fun z=>g.rs.length-z.1) ⟨0,by omega,rfl⟩ ?_ ?_
 ·simp[GS.to]
 ·rintro⟨i,i1,i2⟩;by_cases hi:i<g.rs.length
  ·have hiz:(i:Int)<g.rs.length:=by omega
   have hx:g.rs[i]? = some g.rs[i]:=ah hi;generalize g.rs[i]=x at hx;have hx':=r_ hx;by_cases h:x.id=r
   ·simp -dsimp[hiz,hx',Rt.cs,eq_true h];and_intros;all_goals try first|rfl|omega|exact⟨by kernel_rfl⟩
    refine Fin.of ?_;simp[show fM g.rs r=true from AX hx (by simp[h])]
   ·simp -dsimp[hiz,hx',Rt.cs,eq_false h,wrap_i64 (n:=(i:Int)+1) (by omega) (by omega)];and_intros;all_goals try first|rfl|omega|exact⟨by kernel_rfl⟩
    exact⟨⟨i+1,by omega,BK hx i2 (by simp[h])⟩,GS.to (by simp[]),by simp;omega⟩
  ·have hiz :¬(i:Int)<g.rs.length:=by omega
   simp -dsimp[hiz];refine Fin.of ?_;simp[show fM g.rs r=false from Fg i2 hi]
theorem YX(n:Int):Contract Tryz.prog 170 [.d (.int .i64 n)] [] (.d (.bool (inB n 1 1000))) [] []:=by
 refine aC Tryz.func170 rfl (fun E0=>?_);refine iK.sound (g:=.mk) (ow:=[]) (kp:=(kb 5)) ?_;rw[Tryz.ntmps170];simp -dsimp;refine PZ.dec (fun h=>?_) (fun h=>?_)
 ·simp -dsimp[eq_true h];refine Fin.of ?_;simp[inB,h]
 ·simp -dsimp[eq_false h];refine Fin.of ?_;simp[inB,h]
def Lk.bad(x:Lk):Bool:=!inB x.ca 1 1000 || !inB x.cb 1 1000 || !inB x.cap 0 1000
def oG:List (Bool×Int)→Int
 | []=>0
 | (c,e)::r=>bif c then e else oG r
def jE(g:bV):Int:=oG [
 (decide (24<g.rs.length),3),(decide (60<g.ls.length),3),
 (g.rs.any fun x=>!inB x.id 1 99,2),
 (pV (fun x y=>decide (y.id≤x.id)) g.rs,25),
 (g.ls.any Lk.bad,2),
 (g.ls.any fun x=>!fM g.rs x.a || !fM g.rs x.b,4),
 (g.ls.any fun x=>decide (x.b≤x.a),8),
 (pV (fun x y=>decide (y.a<x.a)||decide (x.a=y.a)&&decide (y.b≤x.b)) g.ls,25)]
theorem D8(g:bV)(hg:g.rs.length≤1000000)(hl:g.ls.length≤1000000):Contract Tryz.prog 92 [d_ g] [] (.d (.int .i64 (jE g))) [] []:=by
 refine aC Tryz.func92 rfl (fun E0=>?_);refine iK.sound (g:=.mk) (ow:=[]) (kp:=(kb 0x2000000021000210000042000000420002100004200fff)) ?_;rw[Tryz.ntmps92];by_cases c1:24<g.rs.length
 ·have xB:(24:Int)<g.rs.length:=by omega
  simp -dsimp[d_,xB];refine Fin.of ?_;simp[jE,oG,c1]
 by_cases c2:60<g.ls.length
 ·have xB :¬(24:Int)<g.rs.length:=by omega
  have c2z:(60:Int)<g.ls.length:=by omega
  simp -dsimp[d_,xB,c2z];refine Fin.of ?_;simp[jE,oG,c1,c2]
 have xB :¬(24:Int)<g.rs.length:=by omega
 have c2z :¬(60:Int)<g.ls.length:=by omega
 simp -dsimp[d_,xB,c2z];clear xB c2z
 as_aux_lemma=>
 refine bY.of [] (kb 0x2000000021000210000042000000420002100004200fff) (ι:={i:Nat // i≤g.rs.length∧(g.rs.any fun x=>!inB x.id 1 99)=(g.rs.drop i).any fun x=>!inB x.id 1 99}) (fun z=>[(.o 1,It.box [TV.d (.sl (rts g.rs)),TV.d (.sl (pq g.ls))]),(.s 1,It.v (.ptr (.o 1) 0)),(.s 2,It.v (.d (.int .i64 0))),(.s 3,It.v (.d (.int .i64 z.1)))]) (fun z=>g.rs.length-z.1) ⟨0,by omega,rfl⟩ ?_ ?_
 ·simp[GS.to]
 ·rintro⟨i,i1,i2⟩;by_cases hi:i<g.rs.length
  ·have hiz:(i:Int)<g.rs.length:=by omega
   have hx:g.rs[i]? = some g.rs[i]:=ah hi;generalize g.rs[i]=x at hx;have hx':=r_ hx;by_cases a1:x.id<1
   ·simp -dsimp[hiz,hx',Rt.cs,a1];and_intros;all_goals try first|rfl|omega|exact⟨by kernel_rfl⟩
    refine Fin.of ?_;have e:(g.rs.any fun x=>!inB x.id 1 99)=true:=AX hx (by grind[inB]);simp only[jE,oG,cond_true,cond_false,decide_eq_false c1,decide_eq_false c2,e];simp
   by_cases a2:99<x.id
   ·simp -dsimp[hiz,hx',Rt.cs,a1,a2];and_intros;all_goals try first|rfl|omega|exact⟨by kernel_rfl⟩
    refine Fin.of ?_;have e:(g.rs.any fun x=>!inB x.id 1 99)=true:=AX hx (by grind[inB]);simp only[jE,oG,cond_true,cond_false,decide_eq_false c1,decide_eq_false c2,e];simp
   ·simp -dsimp[hiz,hx',Rt.cs,a1,a2,wrap_i64 (n:=(i:Int)+1) (by omega) (by omega)];and_intros;all_goals try first|rfl|omega|exact⟨by kernel_rfl⟩
    exact⟨⟨i+1,by omega,BK hx i2 (by grind[inB])⟩,GS.to (by simp[]),by grind⟩
  have e1:=Fg i2 hi;have hiz :¬(i:Int)<g.rs.length:=by omega
  simp -dsimp[hiz]
  as_aux_lemma=>
  refine bY.of [] (kb 0x2000000021000210000042000000420002100004200fff) (ι:={i:Nat // i≤g.rs.length∧pV (fun x y=>decide (y.id≤x.id)) g.rs=pV (fun (x y:Rt)=>decide (y.id≤x.id)) (g.rs.drop i)}) (fun z=>[(.o 1,It.box [TV.d (.sl (rts g.rs)),TV.d (.sl (pq g.ls))]),(.s 1,It.v (.ptr (.o 1) 0)),(.s 2,It.v (.d (.int .i64 0))),(.s 4,It.v (.d (.int .i64 ((z.1:Int)+1))))]) (fun z=>g.rs.length-z.1) ⟨0,by omega,rfl⟩ ?_ ?_
  ·simp[GS.to]
  ·rintro⟨i,i1,i2⟩;by_cases hi:i+1<g.rs.length
   ·have hi0:i<g.rs.length:=by omega
    have hiz:(i:Int)+1<g.rs.length:=by omega
    have hx:g.rs[i]? = some g.rs[i]:=ah hi0;have hy:g.rs[i+1]? = some g.rs[i+1]:=ah hi;generalize g.rs[i]=x at hx;generalize g.rs[i+1]=y at hy;have hx':=r_ hx;have hy':=r_ hy;by_cases a1:y.id≤x.id
    ·simp -dsimp[hiz,hx',hy',Rt.cs,a1,kH,wrap_i64 (n:=(i:Int)) (by omega) (by omega)];and_intros;all_goals try first|rfl|omega|exact⟨by kernel_rfl⟩
     refine Fin.of ?_;have e:=zN hx hy i2 (by simp[*]);simp only[jE,oG,cond_true,cond_false,decide_eq_false c1,decide_eq_false c2,e1,e];simp
    ·simp -dsimp[hiz,hx',hy',Rt.cs,a1,kH,wrap_i64 (n:=(i:Int)) (by omega) (by omega),wrap_i64 (n:=(i:Int)+1+1) (by omega) (by omega)];and_intros;all_goals try first|rfl|omega|exact⟨by kernel_rfl⟩
     exact⟨⟨i+1,by omega,xX hx hy i2 (by simp[*])⟩,GS.to (by simp),by grind⟩
   have e2:=zM i2 hi;have hiz :¬(i:Int)+1<g.rs.length:=by omega
   simp -dsimp[hiz]
   as_aux_lemma=>
   refine bY.of [] (kb 0x2000000021000210000042000000420002100004200fff) (ι:={i:Nat // i≤g.ls.length∧g.ls.any Lk.bad=(g.ls.drop i).any Lk.bad}) (fun z=>[(.o 1,It.box [TV.d (.sl (rts g.rs)),TV.d (.sl (pq g.ls))]),(.s 1,It.v (.ptr (.o 1) 0)),(.s 2,It.v (.d (.int .i64 0))),(.s 5,It.v (.d (.int .i64 z.1)))]) (fun z=>g.ls.length-z.1) ⟨0,by omega,rfl⟩ ?_ ?_
   ·simp[GS.to]
   ·rintro⟨i,i1,i2⟩;by_cases hi:i<g.ls.length
    ·have hiz:(i:Int)<g.ls.length:=by omega
     have hx:g.ls[i]? = some g.ls[i]:=ah hi;generalize g.ls[i]=x at hx;have hx':=A8 hx;have hit:Lk.bad x=true→jE g=2:=fun h=>by have e:=AX hx h;simp only[jE,oG,cond_true,cond_false,decide_eq_false c1,decide_eq_false c2,e1,e2,e]
     simp -dsimp[hiz,hx',Lk.cs];refine aF.of (YX x.ca) [] 0 ?_;rcases (au (inB x.ca 1 1000)).symm with b1|b1
     ·simp -dsimp[hiz,hx',Lk.cs,b1];and_intros;all_goals try first|rfl|omega|exact⟨by kernel_rfl⟩
      refine Fin.of ?_;simp[hit (by simp[Lk.bad,b1])]
     simp -dsimp[hiz,hx',Lk.cs,b1];refine aF.of (YX x.cb) [] 0 ?_;rcases (au (inB x.cb 1 1000)).symm with b2|b2
     ·simp -dsimp[hiz,hx',Lk.cs,b1,b2];and_intros;all_goals try first|rfl|omega|exact⟨by kernel_rfl⟩
      refine Fin.of ?_;simp[hit (by simp[Lk.bad,b2])]
     by_cases b3:x.cap<0
     ·simp -dsimp[hiz,hx',Lk.cs,b1,b2,b3];and_intros;all_goals try first|rfl|omega|exact⟨by kernel_rfl⟩
      refine Fin.of ?_;simp[hit (by simp[Lk.bad,inB,b1,b2];omega)]
     by_cases b4:1000<x.cap
     ·simp -dsimp[hiz,hx',Lk.cs,b1,b2,b3,b4];and_intros;all_goals try first|rfl|omega|exact⟨by kernel_rfl⟩
      refine Fin.of ?_;simp[hit (by simp[Lk.bad,inB,b1,b2];omega)]
     ·simp -dsimp[hiz,hx',Lk.cs,b1,b2,b3,b4,wrap_i64 (n:=(i:Int)+1) (by omega) (by omega)];and_intros;all_goals try first|rfl|omega|exact⟨by kernel_rfl⟩
      exact⟨⟨i+1,by omega,BK hx i2 (by simp[Lk.bad,b1,b2];simp[inB];omega)⟩,GS.to (by simp[]),by simp;omega⟩
    have e3:=Fg i2 hi;have hiz :¬(i:Int)<g.ls.length:=by omega
    simp -dsimp[hiz]
    as_aux_lemma=>
    refine bY.of [] (kb 0x2000000021000210000042000000420002100004200fff) (ι:={i:Nat // i≤g.ls.length∧(g.ls.any fun x=>!fM g.rs x.a || !fM g.rs x.b)=(g.ls.drop i).any fun x=>!fM g.rs x.a || !fM g.rs x.b}) (fun z=>[(.o 1,It.box [TV.d (.sl (rts g.rs)),TV.d (.sl (pq g.ls))]),(.s 1,It.v (.ptr (.o 1) 0)),(.s 2,It.v (.d (.int .i64 0))),(.s 7,It.v (.d (.int .i64 z.1)))]) (fun z=>g.ls.length-z.1) ⟨0,by omega,rfl⟩ ?_ ?_
    ·exact GS.to (by simp)
    ·rintro⟨i,i1,i2⟩;by_cases hi:i<g.ls.length
     ·have hiz:(i:Int)<g.ls.length:=by omega
      have hx:g.ls[i]? = some g.ls[i]:=ah hi;generalize g.ls[i]=x at hx;have hx':=A8 hx;have hit:(!fM g.rs x.a || !fM g.rs x.b)=true→jE g=4:=fun h=>by have e:=AX (q:=fun x:Lk=>!fM g.rs x.a || !fM g.rs x.b) hx h;simp only[jE,oG,cond_true,cond_false,decide_eq_false c1,decide_eq_false c2,e1,e2,e3,e]
      simp -dsimp[hiz,hx',Lk.cs];refine aF.of (XQ g hg x.a) [] 0 ?_;rcases (au (fM g.rs x.a)).symm with b1|b1
      ·simp -dsimp[hiz,hx',Lk.cs,b1];and_intros;all_goals try first|rfl|omega|exact⟨by kernel_rfl⟩
       refine Fin.of ?_;simp[hit (by simp[b1])]
      simp -dsimp[hiz,hx',Lk.cs,b1,d_];refine aF.of (XQ g hg x.b) [] 0 ?_;rcases (au (fM g.rs x.b)).symm with b2|b2
      ·simp -dsimp[hiz,hx',Lk.cs,b1,b2];and_intros;all_goals try first|rfl|omega|exact⟨by kernel_rfl⟩
       refine Fin.of ?_;simp[hit (by simp[b2])]
      ·simp -dsimp[hiz,hx',Lk.cs,b1,b2,wrap_i64 (n:=(i:Int)+1) (by omega) (by omega)];and_intros;all_goals try first|rfl|omega|exact⟨by kernel_rfl⟩
       exact⟨⟨i+1,by omega,BK hx i2 (by simp[b1,b2])⟩,GS.to (by simp[]),by simp;omega⟩
     have e4:=Fg i2 hi;have hiz :¬(i:Int)<g.ls.length:=by omega
     simp -dsimp[hiz]
     as_aux_lemma=>
     refine bY.of [] (kb 0x2000000021000210000042000000420002100004200fff) (ι:={i:Nat // i≤g.ls.length∧(g.ls.any fun x=>decide (x.b≤x.a))=(g.ls.drop i).any fun x=>decide (x.b≤x.a)}) (fun z=>[(.o 1,It.box [TV.d (.sl (rts g.rs)),TV.d (.sl (pq g.ls))]),(.s 1,It.v (.ptr (.o 1) 0)),(.s 2,It.v (.d (.int .i64 0))),(.s 8,It.v (.d (.int .i64 z.1)))]) (fun z=>g.ls.length-z.1) ⟨0,by omega,rfl⟩ ?_ ?_
     ·exact GS.to (by simp)
     ·rintro⟨i,i1,i2⟩;by_cases hi:i<g.ls.length
      ·have hiz:(i:Int)<g.ls.length:=by omega
       have hx:g.ls[i]? = some g.ls[i]:=ah hi;generalize g.ls[i]=x at hx;have hx':=A8 hx;by_cases b1:x.b≤x.a
       ·simp -dsimp[hiz,hx',Lk.cs,b1];and_intros;all_goals try first|rfl|omega|exact⟨by kernel_rfl⟩
        refine Fin.of ?_;have e:=AX (q:=fun x:Lk=>decide (x.b≤x.a)) hx (by simpa using b1);simp only[jE,oG,cond_true,cond_false,decide_eq_false c1,decide_eq_false c2,e1,e2,e3,e4,e];simp
       ·simp -dsimp[hiz,hx',Lk.cs,b1,wrap_i64 (n:=(i:Int)+1) (by omega) (by omega)];and_intros;all_goals try first|rfl|omega|exact⟨by kernel_rfl⟩
        exact⟨⟨i+1,by omega,BK hx i2 (by simpa using b1)⟩,GS.to (by simp[]),by simp;omega⟩
      have e5:=Fg i2 hi;have hiz :¬(i:Int)<g.ls.length:=by omega
      simp -dsimp[hiz]
      as_aux_lemma=>
      refine bY.of [] (kb 0x2000000021000210000042000000420002100004200fff) (ι:={i:Nat // i≤g.ls.length∧pV (fun x y=>decide (y.a<x.a)||decide (x.a=y.a)&&decide (y.b≤x.b)) g.ls=pV (fun (x y:Lk)=>decide (y.a<x.a)||decide (x.a=y.a)&&decide (y.b≤x.b)) (g.ls.drop i)}) (fun z=>[(.o 1,It.box [TV.d (.sl (rts g.rs)),TV.d (.sl (pq g.ls))]),(.s 1,It.v (.ptr (.o 1) 0)),(.s 2,It.v (.d (.int .i64 0))),(.s 9,It.v (.d (.int .i64 ((z.1:Int)+1))))]) (fun z=>g.ls.length-z.1) ⟨0,by omega,rfl⟩ ?_ ?_
      ·exact GS.to (by simp)
      ·rintro⟨i,i1,i2⟩;by_cases hi:i+1<g.ls.length
       ·have hi0:i<g.ls.length:=by omega
        have hiz:(i:Int)+1<g.ls.length:=by omega
        have hx:g.ls[i]? = some g.ls[i]:=ah hi0;have hy:g.ls[i+1]? = some g.ls[i+1]:=ah hi;generalize g.ls[i]=x at hx;generalize g.ls[i+1]=y at hy;have hx':=A8 hx;have hy':=A8 hy;have hit:(decide (y.a<x.a)||decide (x.a=y.a)&&decide (y.b≤x.b))=true→jE g=25:=fun h=>by have e:=zN hx hy i2 h;simp only[jE,oG,cond_true,cond_false,decide_eq_false c1,decide_eq_false c2,e1,e2,e3,e4,e5,e]
        have go:(decide (y.a<x.a)||decide (x.a=y.a)&&decide (y.b≤x.b))=false→pV (fun x y=>decide (y.a<x.a)||decide (x.a=y.a)&&decide (y.b≤x.b)) g.ls=pV (fun (x y:Lk)=>decide (y.a<x.a)||decide (x.a=y.a)&&decide (y.b≤x.b)) (g.ls.drop (i+1)):=fun h=>xX hx hy i2 h
        by_cases b1:y.a<x.a
        ·simp -dsimp[hiz,hx',hy',Lk.cs,b1,kH,wrap_i64 (n:=(i:Int)) (by omega) (by omega)];and_intros;all_goals try first|rfl|omega|exact⟨by kernel_rfl⟩
         refine Fin.of ?_;simp[hit (by simp[b1])]
        by_cases b2:x.a=y.a
        ·by_cases b3:y.b≤x.b
         ·simp -dsimp[hiz,hx',hy',Lk.cs,b1,b2,b3,kH,wrap_i64 (n:=(i:Int)) (by omega) (by omega)];and_intros;all_goals try first|rfl|omega|exact⟨by kernel_rfl⟩
          refine Fin.of ?_;simp[hit (by simp[b2,b3])]
         ·simp -dsimp[hiz,hx',hy',Lk.cs,b1,b2,b3,kH,wrap_i64 (n:=(i:Int)) (by omega) (by omega),wrap_i64 (n:=(i:Int)+1+1) (by omega) (by omega)];and_intros;all_goals try first|rfl|omega|exact⟨by kernel_rfl⟩
          exact⟨⟨i+1,by omega,go (by simp[b1,b3])⟩,GS.to (by simp[]),by simp;omega⟩
        ·simp -dsimp[hiz,hx',hy',Lk.cs,b1,b2,kH,wrap_i64 (n:=(i:Int)) (by omega) (by omega),wrap_i64 (n:=(i:Int)+1+1) (by omega) (by omega)];and_intros;all_goals try first|rfl|omega|exact⟨by kernel_rfl⟩
         exact⟨⟨i+1,by omega,go (by simp[b1,b2])⟩,GS.to (by simp[]),by simp;omega⟩
       have e6:=zM i2 hi;have hiz :¬(i:Int)+1<g.ls.length:=by omega
       simp -dsimp[hiz];refine Fin.of ?_;simp only[jE,oG,cond_true,cond_false,decide_eq_false c1,decide_eq_false c2,e1,e2,e3,e4,e5,e6];simp
end Go.Proofs

namespace Go.Proofs
open Go Go.Tr
structure bV.Sm(g:bV):Prop where
 r:g.rs.length≤1000000
 l:g.ls.length≤1000000
theorem LK(g:bV)(hg:g.Sm)(r:Int):Contract Tryz.prog 82 [d_ g,.d (.int .i64 r)] [] (.d (.bool (decide (jE g=0)&&fM g.rs r))) [] []:=by
 refine aC Tryz.func82 rfl (fun E0=>?_);refine iK.sound (g:=.mk) (ow:=[]) (kp:=(kb 0x17)) ?_;rw[Tryz.ntmps82];simp -dsimp[d_];refine aF.of (D8 g hg.r hg.l) [] 0 ?_;by_cases h:jE g=0
 ·simp -dsimp[eq_true h,d_];refine aF.of (XQ g hg.r r) [] 0 ?_;simp -dsimp[eq_true h,d_];and_intros;all_goals try first|rfl|omega|exact⟨by kernel_rfl⟩
  refine Fin.of ?_;simp[h]
 ·simp -dsimp[eq_false h,d_];and_intros;all_goals try first|rfl|omega|exact⟨by kernel_rfl⟩
  refine Fin.of ?_;simp[h]
def Nb(l:List Rt)(r:Int):Option Rt:=l.find? fun x=>decide (x.id=r)
def mZ(l:List Rt)(r:Int):Bool:=((Nb l r).getD ⟨0,false⟩).cap
theorem O9(g:bV)(hg:g.Sm)(r:Int):Contract Tryz.prog 48 [d_ g,.d (.int .i64 r)] [] (.d (.bool (decide (jE g=0)&&mZ g.rs r))) [] []:=by
 have hr:=hg.r;refine aC Tryz.func48 rfl (fun E0=>?_);refine iK.sound (g:=.mk) (ow:=[]) (kp:=(kb 0x802137)) ?_;rw[Tryz.ntmps48];simp -dsimp[d_];refine aF.of (D8 g hg.r hg.l) [] 0 ?_;by_cases h:jE g=0
 ·simp -dsimp[eq_true h,d_]
  refine bY.of [] (kb 0x802137) (ι:={i:Nat // i≤g.rs.length∧Nb g.rs r=Nb (g.rs.drop i) r}) (fun z=>[(.s 0,It.v (.agg [TV.d (.sl (rts g.rs)),TV.d (.sl (pq g.ls))])),(.s 1,It.v (.d (.int .i64 r))),(.o 2,It.box [TV.d (.sl (rts g.rs)),TV.d (.sl (pq g.ls))]),(.s 2,It.v (.ptr (.o 2) 0)),(.s 4,It.v (.d (.bool false))),(.s 5,It.v (.d (.int .i64 z.1)))]) (fun z=>g.rs.length-z.1) ⟨0,by omega,rfl⟩ ?_ ?_
  ·simp[GS.to]
  ·rintro⟨i,i1,i2⟩;by_cases hi:i<g.rs.length
   ·have hiz:(i:Int)<g.rs.length:=by omega
    have hx:g.rs[i]? = some g.rs[i]:=ah hi;generalize g.rs[i]=x at hx;have hx':=r_ hx;by_cases a:x.id=r
    ·simp -dsimp[hiz,hx',Rt.cs,eq_true a];and_intros;all_goals try first|rfl|omega|exact⟨by kernel_rfl⟩
     refine Fin.of ?_;have e:Nb g.rs r=some x:=R_ hx i2 (by simp[a]);simp[h,mZ,e]
    ·simp -dsimp[hiz,hx',Rt.cs,eq_false a,wrap_i64 (n:=(i:Int)+1) (by omega) (by omega)];and_intros;all_goals try first|rfl|omega|exact⟨by kernel_rfl⟩
     exact⟨⟨i+1,by omega,Oo hx i2 (by simp[a])⟩,GS.to (by simp[]),by simp;omega⟩
   ·have hiz :¬(i:Int)<g.rs.length:=by omega
    simp -dsimp[hiz];refine Fin.of ?_;have e:Nb g.rs r=none:=RZ i2 hi;simp[h,mZ,e]
 ·simp -dsimp[eq_false h,d_];refine Fin.of ?_;simp[h]
def price:List Lk→Int→Int→Option Int
 | [],_,_=>none
 | x::l,f,t=>if x.a=f∧x.b=t then some x.ca else if x.b=f∧x.a=t then some x.cb else price l f t
def CO(o:Option Int):TV:=.sZ [.d (.int .i64 (o.getD 0)),.d (.bool o.isSome)]
theorem WQ(g:bV)(hg:g.Sm)(f t:Int):Contract Tryz.prog 47 [d_ g,.d (.int .i64 f),.d (.int .i64 t)] [] (CO (price g.ls f t)) [] []:=by
 have hl:=hg.l;refine aC Tryz.func47 rfl (fun E0=>?_);refine iK.sound (g:=.mk) (ow:=[]) (kp:=(kb 0x800800043cf)) ?_;rw[Tryz.ntmps47];simp -dsimp[d_]
 refine bY.of [] (kb 0x800800043cf) (ι:={i:Nat // i≤g.ls.length∧price g.ls f t=price (g.ls.drop i) f t}) (fun z=>[(.s 0,It.v (.agg [TV.d (.sl (rts g.rs)),TV.d (.sl (pq g.ls))])),(.s 1,It.v (.d (.int .i64 f))),(.s 2,It.v (.d (.int .i64 t))),(.o 3,It.box [TV.d (.sl (rts g.rs)),TV.d (.sl (pq g.ls))]),(.s 3,It.v (.ptr (.o 3) 0)),(.s 6,It.v (.d (.int .i64 0))),(.s 7,It.v (.d (.bool false))),(.s 8,It.v (.d (.int .i64 z.1)))]) (fun z=>g.ls.length-z.1) ⟨0,by omega,rfl⟩ ?_ ?_
 ·simp[GS.to]
 ·rintro⟨i,i1,i2⟩;by_cases hi:i<g.ls.length
  ·have hiz:(i:Int)<g.ls.length:=by omega
   have hx:g.ls[i]? = some g.ls[i]:=ah hi;have hd:g.ls.drop i=g.ls[i]::g.ls.drop (i+1):=aU hi;generalize g.ls[i]=x at hx hd;have hx':=A8 hx;rw[hd,price]at i2
   by_cases a1:x.a=f
   ·by_cases a2:x.b=t
    ·simp -dsimp[hiz,hx',Lk.cs,eq_true a1,eq_true a2];and_intros;all_goals try first|rfl|omega|exact⟨by kernel_rfl⟩
     refine Fin.of ?_;rw[if_pos ⟨a1,a2⟩]at i2
     simp[i2,CO]
    ·by_cases a3:x.b=f
     ·by_cases a4:x.a=t
      ·exfalso;omega
      ·simp -dsimp[hiz,hx',Lk.cs,eq_true a1,eq_false a2,eq_true a3,eq_false a4,wrap_i64 (n:=(i:Int)+1) (by omega) (by omega)];and_intros;all_goals try first|rfl|omega|exact⟨by kernel_rfl⟩
       exact⟨⟨i+1,by omega,by rw[i2,if_neg (by omega),if_neg (by omega)]⟩,GS.to (by simp[]),by simp;omega⟩
     ·simp -dsimp[hiz,hx',Lk.cs,eq_true a1,eq_false a2,eq_false a3,wrap_i64 (n:=(i:Int)+1) (by omega) (by omega)];and_intros;all_goals try first|rfl|omega|exact⟨by kernel_rfl⟩
      exact⟨⟨i+1,by omega,by rw[i2,if_neg (by omega),if_neg (by omega)]⟩,GS.to (by simp[]),by simp;omega⟩
   ·by_cases a3:x.b=f
    ·by_cases a4:x.a=t
     ·simp -dsimp[hiz,hx',Lk.cs,eq_false a1,eq_true a3,eq_true a4];and_intros;all_goals try first|rfl|omega|exact⟨by kernel_rfl⟩
      refine Fin.of ?_;rw[if_neg (by omega),if_pos ⟨a3,a4⟩]at i2
      simp[i2,CO]
     ·simp -dsimp[hiz,hx',Lk.cs,eq_false a1,eq_true a3,eq_false a4,wrap_i64 (n:=(i:Int)+1) (by omega) (by omega)];and_intros;all_goals try first|rfl|omega|exact⟨by kernel_rfl⟩
      exact⟨⟨i+1,by omega,by rw[i2,if_neg (by omega),if_neg (by omega)]⟩,GS.to (by simp[]),by simp;omega⟩
    ·simp -dsimp[hiz,hx',Lk.cs,eq_false a1,eq_false a3,wrap_i64 (n:=(i:Int)+1) (by omega) (by omega)];and_intros;all_goals try first|rfl|omega|exact⟨by kernel_rfl⟩
     exact⟨⟨i+1,by omega,by rw[i2,if_neg (by omega),if_neg (by omega)]⟩,GS.to (by simp[]),by simp;omega⟩
  ·have hiz :¬(i:Int)<g.ls.length:=by omega
   simp -dsimp[hiz];refine Fin.of ?_;rw[dJ (by omega),price]at i2
   simp[i2,CO]
def near(g:bV)(r:Int):List Int:=(g.rs.filter fun x=>(price g.ls r x.id).isSome).map (·.id)
theorem Z5(g:bV)(hg:g.Sm)(r:Int):Contract Tryz.prog 220 [d_ g,.d (.int .i64 r)] [] (.d (ints (near g r))) [] []:=by
 have hl:=hg.r;refine aC Tryz.func220 rfl (fun E0=>?_);refine iK.sound (g:=.mk) (ow:=[]) (kp:=(kb 0x10002177)) ?_;rw[Tryz.ntmps220];simp -dsimp[d_]
 refine bY.of [] (kb 0x10002177) (ι:={i:Nat // i≤g.rs.length∧True}) (fun z=>[(.s 0,It.v (.agg [TV.d (.sl (rts g.rs)),TV.d (.sl (pq g.ls))])),(.s 1,It.v (.d (.int .i64 r))),(.o 2,It.box [TV.d (.sl (rts g.rs)),TV.d (.sl (pq g.ls))]),(.s 2,It.v (.ptr (.o 2) 0)),(.s 4,It.v (.c (Value.slice none 0 0))),(.s 5,It.v (.bK 5 (near ⟨g.rs.take z.1,g.ls⟩ r).length)),(.o 5,It.row 3 1 (dd (fE .i64 (near ⟨g.rs.take z.1,g.ls⟩ r))) false),(.s 6,It.v (.d (.int .i64 z.1)))]) (fun z=>g.rs.length-z.1) ⟨0,by omega,trivial⟩ ?_ ?_
 ·exact GS.own' (k:=5) 3 1 (by simp) (by simp) (by simp[fE,near])
 ·rintro⟨i,i1,i2⟩;by_cases hi:i<g.rs.length
  ·have hiz:(i:Int)<g.rs.length:=by omega
   have hx:g.rs[i]? = some g.rs[i]:=ah hi;have ht:g.rs.take (i+1)=g.rs.take i++[g.rs[i]]:=by simp
   generalize g.rs[i]=x at hx ht;have hx':=r_ hx;simp -dsimp[hiz,hx',Rt.cs,d_];refine aF.of (WQ g hg r x.id) [] 0 ?_;have hn:(near ⟨g.rs.take i,g.ls⟩ r).length≤1000000:=by grind[near]
   have dl:dLen 1 ((near ⟨g.rs.take i,g.ls⟩ r).map fun x=>[D.int .i64 x]):=mO 1 _ _ fun _=>rfl
   rcases (au (price g.ls r x.id).isSome).symm with h|h
   ·simp -dsimp[hiz,hx',Rt.cs,d_,CO,h,wrap_i64 (n:=(i:Int)+1) (by omega) (by omega)];and_intros;all_goals try first|rfl|omega|exact⟨by kernel_rfl⟩
    exact⟨⟨i+1,by omega,trivial⟩,GS.to (by simp[near,ht,h]),by simp;omega⟩
   ·simp -dsimp[hiz,hx',Rt.cs,d_,CO,h,ints,wrap_i64 (n:=(i:Int)+1) (by omega) (by omega)];and_intros;all_goals try first|rfl|omega|exact⟨by kernel_rfl⟩
    exact⟨⟨i+1,by omega,trivial⟩,GS.to (by simp[near,ht,h,fE]),by simp;omega⟩
  ·have hiz :¬(i:Int)<g.rs.length:=by omega
   simp -dsimp[hiz];refine Fin.view 4 ?_;simp -dsimp;refine Fin.of ?_;simp[aW (show g.rs.length≤i by omega),ints,fE]
def oH:List Rt→Int→Option Nat
 | [],_=>none
 | x::l,r=>if x.id=r then some 0 else(oH l r).map (· + 1)
theorem OV:∀{l:List Rt} {r:Int} {i:Nat},oH l r=some i→i<l.length
 | [],_,_,h=>by trivial
 | x::l,r,i,h=>by
   rw[oH]at h
   split at h
   ·grind
   ·cases hp:oH l r with
    | none=>simp_all
    | some j=>simp[hp]at h;subst h;have:=OV hp;simp[*]
def FX(g:bV)(r:Int):Nat:=(oH g.rs r).getD 0
theorem ah0{g:bV}(r:Int)(h:0<g.rs.length):FX g r<g.rs.length:=by
 unfold FX;cases hp:oH g.rs r with
 | none=>trivial
 | some i=>simpa using OV hp
theorem PV{l:List Rt}{r:Int}{i:Nat}{x:Rt}(hx:l[i]? = some x)(h:oH l r=(oH (l.drop i) r).map (· + i))(hq :¬x.id=r):oH l r=(oH (l.drop (i+1)) r).map (· + (i+1)):=by
 obtain⟨hi,rfl⟩:=aA.1 hx;rw[h,aU hi,oH,if_neg hq,Option.map_map]
 congr 1;grind
theorem Uk{l:List Rt}{r:Int}{i:Nat}{x:Rt}(hx:l[i]? = some x)(h:oH l r=(oH (l.drop i) r).map (· + i))(hq:x.id=r):oH l r=some i:=by obtain⟨hi,rfl⟩:=aA.1 hx;rw[h,aU hi,oH,if_pos hq];simp
theorem Uj{l:List Rt}{r:Int}{i:Nat}(h:oH l r=(oH (l.drop i) r).map (· + i))(hi :¬i<l.length):oH l r=none:=by rw[h,dJ (by omega)];rfl
theorem WL(g:bV)(hg:g.Sm)(r:Int):Contract Tryz.prog 166 [d_ g,.d (.int .i64 r)] [] (.d (.int .i64 (FX g r))) [] []:=by
 have hr:=hg.r;refine aC Tryz.func166 rfl (fun E0=>?_);refine iK.sound (g:=.mk) (ow:=[]) (kp:=(kb 0x100437)) ?_;rw[Tryz.ntmps166];simp -dsimp[d_]
 refine bY.of [] (kb 0x100437) (ι:={i:Nat // i≤g.rs.length∧oH g.rs r=(oH (g.rs.drop i) r).map (· + i)}) (fun z=>[(.s 0,It.v (.agg [TV.d (.sl (rts g.rs)),TV.d (.sl (pq g.ls))])),(.s 1,It.v (.d (.int .i64 r))),(.o 2,It.box [TV.d (.sl (rts g.rs)),TV.d (.sl (pq g.ls))]),(.s 2,It.v (.ptr (.o 2) 0)),(.s 4,It.v (.d (.int .i64 0))),(.s 5,It.v (.d (.int .i64 z.1)))]) (fun z=>g.rs.length-z.1) ⟨0,by omega,by simp⟩ ?_ ?_
 ·simp[GS.to]
 ·rintro⟨i,i1,i2⟩;by_cases hi:i<g.rs.length
  ·have hiz:(i:Int)<g.rs.length:=by omega
   have hx:g.rs[i]? = some g.rs[i]:=ah hi;generalize g.rs[i]=x at hx;have hx':=r_ hx;by_cases h:x.id=r
   ·simp -dsimp[hiz,hx',Rt.cs,eq_true h];and_intros;all_goals try first|rfl|omega|exact⟨by kernel_rfl⟩
    refine Fin.of ?_;simp[FX,Uk hx i2 h]
   ·simp -dsimp[hiz,hx',Rt.cs,eq_false h,wrap_i64 (n:=(i:Int)+1) (by omega) (by omega)];and_intros;all_goals try first|rfl|omega|exact⟨by kernel_rfl⟩
    exact⟨⟨i+1,by omega,PV hx i2 h⟩,GS.to (by simp[]),by simp;omega⟩
  ·have hiz :¬(i:Int)<g.rs.length:=by omega
   simp -dsimp[hiz];refine Fin.of ?_;simp[FX,Uj i2 hi]
def atR(g:bV)(d:List Int)(r:Int):Int:=match oH g.rs r with|some i=>d.getD i 0|none=>1073741824
theorem aaV(g:bV)(hg:g.Sm)(d:List Int)(hd:g.rs.length≤d.length)(r:Int):Contract Tryz.prog 122 [d_ g,.d (ints d),.d (.int .i64 r)] [] (.d (.int .i64 (atR g d r))) [] []:=by
 have hr:=hg.r;refine aC Tryz.func122 rfl (fun E0=>?_);refine iK.sound (g:=.mk) (ow:=[]) (kp:=(kb 0x4010cf)) ?_;rw[Tryz.ntmps122];simp -dsimp[d_]
 refine bY.of [] (kb 0x4010cf) (ι:={i:Nat // i≤g.rs.length∧oH g.rs r=(oH (g.rs.drop i) r).map (· + i)}) (fun z=>[(.s 0,It.v (.agg [TV.d (.sl (rts g.rs)),TV.d (.sl (pq g.ls))])),(.s 1,It.v (.d (ints d))),(.s 2,It.v (.d (.int .i64 r))),(.o 3,It.box [TV.d (.sl (rts g.rs)),TV.d (.sl (pq g.ls))]),(.s 3,It.v (.ptr (.o 3) 0)),(.s 6,It.v (.d (.int .i64 0))),(.s 7,It.v (.d (.int .i64 z.1)))]) (fun z=>g.rs.length-z.1) ⟨0,by omega,by simp⟩ ?_ ?_
 ·simp[GS.to]
 ·rintro⟨i,i1,i2⟩;by_cases hi:i<g.rs.length
  ·have hiz:(i:Int)<g.rs.length:=by omega
   have hx:g.rs[i]? = some g.rs[i]:=ah hi;generalize g.rs[i]=x at hx;have hx':=r_ hx;by_cases h:x.id=r
   ·have hq:d[i]? = some d[i]:=ah (by omega);generalize d[i]=y at hq;simp -dsimp[hiz,hx',Rt.cs,eq_true h,ints,hq];and_intros;all_goals try first|rfl|omega|exact⟨by kernel_rfl⟩
    refine Fin.of ?_;simp[atR,Uk hx i2 h,hq]
   ·simp -dsimp[hiz,hx',Rt.cs,eq_false h,wrap_i64 (n:=(i:Int)+1) (by omega) (by omega)];and_intros;all_goals try first|rfl|omega|exact⟨by kernel_rfl⟩
    exact⟨⟨i+1,by omega,PV hx i2 h⟩,GS.to (by simp[]),by simp;omega⟩
  ·have hiz :¬(i:Int)<g.rs.length:=by omega
   simp -dsimp[hiz];refine Fin.of ?_;simp[atR,Uj i2 hi]
theorem wX:∀{l:List (Bool×Int)},(∀x∈l,x.2≠0)→oG l=0→∀x∈l,x.1=false
 | [],_,_=>by simp
 | (c,e)::l,h,h0=>by
   cases c with
   | true=>exact absurd h0 (h (true,e) (by simp))
   | false=>
     intro x hx;rcases aG.1 hx with rfl|hx
     ·rfl
     ·exact wX (l:=l) (fun y hy=>h y (by simp[*])) h0 x hx
structure bV.Ok(g:bV):Prop where
 nr:g.rs.length≤24
 nl:g.ls.length≤60
 ids:(g.rs.any fun x=>!inB x.id 1 99)=false
 ord:pV (fun x y=>decide (y.id≤x.id)) g.rs=false
 cost:g.ls.any Lk.bad=false
 ends:(g.ls.any fun x=>!fM g.rs x.a || !fM g.rs x.b)=false
 ab:(g.ls.any fun x=>decide (x.b≤x.a))=false
 asF:pV (fun x y=>decide (y.a<x.a)||decide (x.a=y.a)&&decide (y.b≤x.b)) g.ls=false
theorem gY{g:bV}(h:jE g=0):g.Ok:=by have:=wX (l:=_) (by simp) h;simp only[aG,fP,or_false,forall_eq_or_imp,forall_eq]at this;obtain⟨h1,h2,h3,h4,h5,h6,h7,h8⟩:=this;exact⟨by simp_all,by simp_all,h3,h4,h5,h6,h7,h8⟩
theorem bV.Ok.sm{g:bV}(h:g.Ok):g.Sm:=⟨by have:=h.nr;omega,by have:=h.nl;omega⟩
theorem bV.Ok.c{g:bV}(h:g.Ok){x:Lk}(hx:x∈g.ls):(1≤x.ca∧x.ca≤1000)∧1≤x.cb∧x.cb≤1000:=by
 have:=dL.1 h.cost x hx
 grind[Lk.bad,inB]
def far:Int:=1073741824
def relax(g:bV)(d:List Int)(l:Lk):List Int:=
 let a:=FX g l.a
 let b:=FX g l.b
 let d1:=if d.getD b 0<far then d.set a (min (d.getD a 0) (l.ca+d.getD b 0))else d
 if d1.getD a 0<far then d1.set b (min (d1.getD b 0) (l.cb+d1.getD a 0))else d1
theorem BA(g:bV)(d:List Int)(l:Lk):(relax g d l).length=d.length:=by grind[relax]
def Bd(d:List Int):Prop:=∀v∈d,0≤v∧v≤far
theorem Bd.get{d:List Int}(h:Bd d){i:Nat}{v:Int}(hv:d[i]? = some v):0≤v∧v≤far:=h v (bU hv)
theorem Bd.set{d:List Int}(h:Bd d)(i:Nat){v:Int}(hv:0≤v∧v≤far):Bd (d.set i v):=fun x hx=>by
 rcases jQ hx with hx|rfl
 ·exact h x hx
 omega
theorem Bd.getD{d:List Int}(h:Bd d)(i:Nat):0≤d.getD i 0∧d.getD i 0≤far:=by
 rw[ak];cases hv:d[i]? with
 | none=>trivial
 | some v=>exact h.get hv
theorem Bd.relax{g:bV}{d:List Int}(h:Bd d){l:Lk}(h1:1≤l.ca)(h2:1≤l.cb):Bd (relax g d l):=by
 unfold Proofs.relax;simp only;have e:Bd (if d.getD (FX g l.b) 0<far then d.set (FX g l.a) (min (d.getD (FX g l.a) 0) (l.ca+d.getD (FX g l.b) 0))else d):=by
  split
  ·have:=h.getD (FX g l.a);have:=h.getD (FX g l.b);exact h.set _ (by omega)
  omega
 generalize (if d.getD (FX g l.b) 0<far then d.set (FX g l.a) (min (d.getD (FX g l.a) 0) (l.ca+d.getD (FX g l.b) 0))else d)=d1 at e⊢;split
 ·have:=e.getD (FX g l.a);have:=e.getD (FX g l.b);exact e.set _ (by omega)
 omega
def FZ(g:bV)(d:List Int):List Int:=g.ls.foldl (relax g) d
def Dw(g:bV):Nat→List Int→List Int
 | 0,d=>d
 | n+1,d=>Dw g n (FZ g d)
def Dp(g:bV)(to:Int):List Int:=g.rs.map fun x=>if x.id=to then 0 else far
def dist(g:bV)(to:Int):List Int:=Dw g g.rs.length (Dp g to)
theorem QH(k:IntKind)(a b:Int):TD k a b = .d (.int k (min a b)):=by
 unfold TD
 grind
@[simp]theorem ac1:far=1073741824:=rfl
theorem Bh{d:List Int}{i:Nat}{v:Int}(h:d[i]? = some v):(dd (fE .i64 d))[i]? = some [TV.d (.int .i64 v)]:=by simp[dd,fE,h]
theorem Dx(d:List Int)(i:Nat)(v:Int):(dd (fE .i64 d)).set i [TV.d (.int .i64 v)]=dd (fE .i64 (d.set i v)):=by simp[dd,fE]
theorem Dt{d:List Int}{i:Nat}{v:Int}(h:d[i]? = some v):d.getD i 0=v:=by simp[*]
theorem alY(g:bV)(hg:g.Ok)(to:Int):Contract Tryz.prog 84 [d_ g,.d (.int .i64 to)] [] (.d (ints (dist g to))) [] []:=by
 have hr:=hg.sm.r;have hl:=hg.sm.l;have hsm:=hg.sm;refine aC Tryz.func84 rfl (fun E0=>?_);refine iK.sound (g:=.mk) (ow:=[]) (kp:=(kb 0x4000040000408100080ff7)) ?_;rw[Tryz.ntmps84];simp -dsimp[d_];refine⟨by omega,by omega,?_⟩
 rw[show List.replicate g.rs.length [TV.d (.int .i64 0)]=dd (fE .i64 (List.replicate g.rs.length 0)) by simp[dd,fE]]
 refine bY.of [] (kb 0x4000040000408100080ff7) (ι:={z:Nat×List Int // z.1≤g.rs.length∧z.2.length=g.rs.length∧∀k,k<z.1→z.2[k]? = (Dp g to)[k]? }) (fun z=>[(.s 0,It.v (.agg [TV.d (.sl (rts g.rs)),TV.d (.sl (pq g.ls))])),(.s 1,It.v (.d (.int .i64 to))),(.o 2,It.box [TV.d (.sl (rts g.rs)),TV.d (.sl (pq g.ls))]),(.s 2,It.v (.ptr (.o 2) 0)),(.s 4,It.v (.c (Value.slice none 0 0))),(.s 5,It.v (.bK 15 g.rs.length)),(.o 15,It.row 3 1 (dd (fE .i64 z.1.2)) false),(.s 6,It.v (.d (.int .i64 z.1.1)))]) (fun z=>g.rs.length-z.1.1) ⟨(0,List.replicate g.rs.length 0),by simp,by simp,by simp⟩ ?_ ?_
 ·simp[GS.to]
 ·rintro⟨⟨i,d⟩,i1,i2,i3⟩;simp only at i1 i2 i3;by_cases hi:i<g.rs.length
  ·have hiz:(i:Int)<g.rs.length:=by omega
   have hx:g.rs[i]? = some g.rs[i]:=ah hi;generalize g.rs[i]=x at hx;have hx':=r_ hx;obtain⟨v,hv⟩:∃v,d[i]? = some v:=⟨d[i],ah (by omega)⟩
   have hw:=Bh hv;have hu:(dd (fE .i64 (d.set i 1073741824)))[i]? = some [TV.d (.int .i64 1073741824)]:=Bh (by simp[*]);by_cases h:x.id=to
   ·simp -dsimp[hiz,i2,hw,Dx,hu,hx',Rt.cs,eq_true h,wrap_i64 (n:=(i:Int)+1) (by omega) (by omega)];and_intros;all_goals try first|rfl|omega|exact⟨by kernel_rfl⟩
    refine⟨⟨(i+1,(d.set i far).set i 0),by omega,by simp[*],fun k hk=>?_⟩,GS.to (by simp[Dx,far]),by simp;omega⟩
    grind[Dp]
   ·simp -dsimp[hiz,i2,hw,Dx,hu,hx',Rt.cs,eq_false h,wrap_i64 (n:=(i:Int)+1) (by omega) (by omega)];and_intros;all_goals try first|rfl|omega|exact⟨by kernel_rfl⟩
    refine⟨⟨(i+1,d.set i far),by omega,by simp[*],fun k hk=>?_⟩,GS.to (by simp[Dx,far]),by simp;omega⟩
    grind[Dp]
  have hiz :¬(i:Int)<g.rs.length:=by omega
  have hd:d=Dp g to:=iV fun k=>by grind[Dp]
  simp -dsimp[hiz];refine⟨by omega,?_⟩
  as_aux_lemma=>
  have hd0:d.length=g.rs.length:=i2;have hb0:Bd d:=by rw[hd];intro v hv;obtain⟨x,_,rfl⟩:=ay.1 hv;split<;>simp
  refine bY.of [] (kb 0x4000040000408100080ff7) (ι:={z:Nat×List Int // z.1≤g.rs.length∧z.2.length=g.rs.length∧Bd z.2∧dist g to=Dw g (g.rs.length-z.1) z.2}) (fun z=>[(.s 0,It.v (.agg [TV.d (.sl (rts g.rs)),TV.d (.sl (pq g.ls))])),(.s 1,It.v (.d (.int .i64 to))),(.o 2,It.box [TV.d (.sl (rts g.rs)),TV.d (.sl (pq g.ls))]),(.s 2,It.v (.ptr (.o 2) 0)),(.s 4,It.v (.c (Value.slice none 0 0))),(.s 5,It.v (.bK 15 g.rs.length)),(.o 15,It.row 3 1 (dd (fE .i64 z.1.2)) false),(.s 7,It.v (.d (.int .i64 z.1.1)))]) (fun z=>g.rs.length-z.1.1) ⟨(0,d),by simp,hd0,hb0,by grind[dist]⟩ ?_ ?_
  ·simp[GS.to]
  clear i1 i3 hi hiz hd hd0 hb0 i2;rintro⟨⟨k,d⟩,k1,k2,k3,k4⟩;simp only at k1 k2 k3 k4;by_cases hk:k<g.rs.length
  ·have hkz:(k:Int)<g.rs.length:=by omega
   simp -dsimp[hkz,k2]
   refine bY.of [] (kb 0x4000040000408100080ff7) (ι:={z:Nat×List Int // z.1≤g.ls.length∧z.2.length=g.rs.length∧Bd z.2∧FZ g d=(g.ls.drop z.1).foldl (relax g) z.2}) (fun z=>[(.s 0,It.v (.agg [TV.d (.sl (rts g.rs)),TV.d (.sl (pq g.ls))])),(.s 1,It.v (.d (.int .i64 to))),(.o 2,It.box [TV.d (.sl (rts g.rs)),TV.d (.sl (pq g.ls))]),(.s 2,It.v (.ptr (.o 2) 0)),(.s 4,It.v (.c (Value.slice none 0 0))),(.s 5,It.v (.bK 15 g.rs.length)),(.o 15,It.row 3 1 (dd (fE .i64 z.1.2)) false),(.s 7,It.v (.d (.int .i64 k))),(.s 8,It.v (.d (.int .i64 z.1.1)))]) (fun z=>g.ls.length-z.1.1) ⟨(0,d),by simp,k2,k3,rfl⟩ ?_ ?_
   ·simp[GS.to]
   rintro⟨⟨i,e⟩,j1,j2,j3,j4⟩;simp only at j1 j2 j3 j4;by_cases hi:i<g.ls.length
   ·have hiz:(i:Int)<g.ls.length:=by omega
    have hx:g.ls[i]? = some g.ls[i]:=ah hi;have hm:g.ls[i]∈g.ls:=aB hi;have hdr:g.ls.drop i=g.ls[i]::g.ls.drop (i+1):=aU hi;generalize g.ls[i]=x at hx hm hdr;have hx':=A8 hx;have hc:=hg.c hm;have pa:=ah0 (g:=g) x.a (by omega);have pb:=ah0 (g:=g) x.b (by omega);simp -dsimp[hiz,hx',Lk.cs]
    refine aF.of (WL g hsm x.a) [] 0 ?_;simp -dsimp[d_];refine aF.of (WL g hsm x.b) [] 0 ?_;obtain⟨va,hva⟩:∃v,e[FX g x.a]? = some v:=⟨e[FX g x.a],ah (by omega)⟩
    obtain⟨vb,hvb⟩:∃v,e[FX g x.b]? = some v:=⟨e[FX g x.b],ah (by omega)⟩
    have wa:=Bh hva;have wb:=Bh hvb;have ba:=j3.get hva;have bb:=j3.get hvb;rw[ac1]at ba bb
    have hrx:relax g e x=(let d1:=if vb<1073741824 then e.set (FX g x.a) (min va (x.ca+vb))else e
     if d1.getD (FX g x.a) 0<1073741824 then d1.set (FX g x.b) (min (d1.getD (FX g x.b) 0) (x.cb+d1.getD (FX g x.a) 0))else d1):=by
     rw[relax,ac1,Dt hva,Dt hvb]
    have hnl:=BA g e x;have hnb:=j3.relax (g:=g) (l:=x) hc.1.1 hc.2.1;rw[hdr,cO]at j4
    generalize relax g e x=e2 at hrx hnl hnb j4;clear hdr hm hx;generalize FX g x.a=a at *;generalize FX g x.b=b at *;have nx:∀e',e'=e2→(⟨i+1,e'⟩:Nat×List Int).1≤g.ls.length∧e'.length=g.rs.length∧Bd e'∧FZ g d=(g.ls.drop (i+1)).foldl (relax g) e':=fun e' h=>by grind
    by_cases c1:vb<1073741824
    ·have wv:x.ca+vb=IntKind.i64.wrap (x.ca+vb):=(wrap_i64 (by omega) (by omega)).symm;have hs1:(e.set a (min va (x.ca+vb)))[a]? = some (min va (x.ca+vb)):=by rw[List.getElem?_set_self (by omega)]
     obtain⟨v2,hv2⟩:∃v,(e.set a (min va (x.ca+vb)))[b]? = some v:=⟨(e.set a (min va (x.ca+vb)))[b]'(by simp;omega),ah (by simp;omega)⟩
     have ws1:=Bh hs1;have ws2:=Bh hv2;simp only[if_pos c1,Dt hs1,Dt hv2]at hrx;simp -dsimp[wa,wb,j2,d_,c1,QH,Dx,ws1,ws2,wrap_i64 (n:=x.ca+vb) (by omega) (by omega)];by_cases c2:min va (x.ca+vb)<1073741824
     ·rw[if_pos c2]at hrx
      and_intros;all_goals try first|rfl|omega|exact⟨by kernel_rfl⟩
      simp -dsimp[wa,wb,j2,d_,c1,c2,QH,Dx,ws1,ws2,wrap_i64 (n:=x.cb+min va (x.ca+vb)) (by omega) (by omega),wrap_i64 (n:=(i:Int)+1) (by omega) (by omega)];and_intros;all_goals try first|rfl|omega|exact⟨by kernel_rfl⟩
      exact⟨⟨(i+1,((e.set a (min va (x.ca+vb))).set b (min v2 (x.cb+min va (x.ca+vb))))),nx _ hrx.symm⟩,GS.to (by simp),by simp;omega⟩
     ·rw[if_neg c2]at hrx
      and_intros;all_goals try first|rfl|omega|exact⟨by kernel_rfl⟩
      simp -dsimp[wa,wb,j2,d_,c1,c2,QH,Dx,ws1,ws2,wrap_i64 (n:=(i:Int)+1) (by omega) (by omega)];and_intros;all_goals try first|rfl|omega|exact⟨by kernel_rfl⟩
      exact⟨⟨(i+1,(e.set a (min va (x.ca+vb)))),nx _ hrx.symm⟩,GS.to (by simp),by simp;omega⟩
    ·simp only[if_neg c1,Dt hva,Dt hvb]at hrx;by_cases c2:va<1073741824
     ·rw[if_pos c2]at hrx
      simp -dsimp[wa,wb,j2,d_,c1,c2,QH,Dx,wrap_i64 (n:=x.cb+va) (by omega) (by omega),wrap_i64 (n:=(i:Int)+1) (by omega) (by omega)];and_intros;all_goals try first|rfl|omega|exact⟨by kernel_rfl⟩
      exact⟨⟨(i+1,(e.set b (min vb (x.cb+va)))),nx _ hrx.symm⟩,GS.to (by simp),by simp;omega⟩
     ·rw[if_neg c2]at hrx
      simp -dsimp[wa,wb,j2,d_,c1,c2,wrap_i64 (n:=(i:Int)+1) (by omega) (by omega)];and_intros;all_goals try first|rfl|omega|exact⟨by kernel_rfl⟩
      exact⟨⟨(i+1,e),nx _ hrx.symm⟩,GS.to (by simp),by simp;omega⟩
   ·have hiz :¬(i:Int)<g.ls.length:=by omega
    simp -dsimp[hiz,wrap_i64 (n:=(k:Int)+1) (by omega) (by omega)];rw[dJ (by omega),rD]at j4
    exact⟨⟨(k+1,e),by simp;omega,j2,j3,by rw[k4,show g.rs.length-k=(g.rs.length-(k+1))+1 by omega,Dw,j4]⟩,GS.to (by simp),by simp;omega⟩
  ·have hkz :¬(k:Int)<g.rs.length:=by omega
   rw[show g.rs.length-k=0 by omega,Dw]at k4
   simp -dsimp[hkz,k2];refine Fin.view 4 ?_;simp -dsimp[k2];refine Fin.of ?_;simp[k4,ints,fE]
theorem TL(g:bV)(r:Int):(near g r).length≤g.rs.length:=by simp[near,aQ]
theorem aaW{g:bV}{d:List Int}(h:Bd d)(r:Int):0≤atR g d r∧atR g d r≤1073741824:=by
 unfold atR;split
 ·exact h.getD _
 omega
theorem ah1{g:bV}(hg:g.Ok)(f t:Int):0≤(price g.ls f t).getD 0∧(price g.ls f t).getD 0≤1000:=by
 have:∀l:List Lk,(∀x∈l,x∈g.ls)→0≤(price l f t).getD 0∧(price l f t).getD 0≤1000:=by
  intro l
  induction l with
  | nil=>simp[price]
  | cons x l ih=>
    intro hm;have hc:=hg.c (hm x (by simp))
    grind[price]
 simp[*]
def DU(g:bV)(d:List Int)(f n:Int):Bool:=decide (atR g d n<1073741824)&&decide ((price g.ls f n).getD 0+atR g d n=atR g d f)
def steps(g:bV)(d:List Int)(f:Int):List Int:=if atR g d f=1073741824∨atR g d f=0 then []else(near g f).filter (DU g d f)
theorem afL(g:bV)(d:List Int)(f:Int):(steps g d f).length≤g.rs.length:=by grind[steps,TL]
theorem afJ(g:bV)(hg:g.Ok)(d:List Int)(hd:g.rs.length≤d.length)(hb:Bd d)(f:Int):Contract Tryz.prog 165 [d_ g,.d (ints d),.d (.int .i64 f)] [] (.d (ints (steps g d f))) [] []:=by
 have hr:=hg.sm.r;have hsm:=hg.sm;refine aC Tryz.func165 rfl (fun E0=>?_);refine iK.sound (g:=.mk) (ow:=[]) (kp:=(kb 0x4000000020400fcf)) ?_;rw[Tryz.ntmps165];simp -dsimp[d_];refine aF.of (aaV g hsm d hd f) [] 0 ?_;by_cases c1:atR g d f=1073741824
 ·simp -dsimp[d_,eq_true c1];and_intros;all_goals try first|rfl|omega|exact⟨by kernel_rfl⟩
  refine Fin.view 6 ?_;simp -dsimp;refine Fin.of ?_;simp[steps,c1,ints]
 by_cases c2:atR g d f=0
 ·simp -dsimp[d_,eq_false c1,eq_true c2];and_intros;all_goals try first|rfl|omega|exact⟨by kernel_rfl⟩
  refine Fin.view 6 ?_;simp -dsimp;refine Fin.of ?_;simp[steps,c2,ints]
 simp -dsimp[d_,eq_false c1,eq_false c2];refine aF.of (Z5 g hsm f) [] 0 ?_;simp -dsimp[d_];have hst:steps g d f=(near g f).filter (DU g d f):=by rw[steps,if_neg (by omega)]
 have hnl:=TL g f;rw[hst];clear hst;generalize near g f=n at hnl;have hn1:n.length≤1000000:=by omega
 refine bY.of [] (kb 0x4000000020400fcf) (ι:={i:Nat // i≤n.length∧True}) (fun z=>[(.s 0,It.v (.agg [TV.d (.sl (rts g.rs)),TV.d (.sl (pq g.ls))])),(.s 1,It.v (.d (ints d))),(.s 2,It.v (.d (.int .i64 f))),(.o 3,It.box [TV.d (.sl (rts g.rs)),TV.d (.sl (pq g.ls))]),(.s 3,It.v (.ptr (.o 3) 0)),(.s 6,It.v (.c (Value.slice none 0 0))),(.s 8,It.v (.d (.int .i64 (atR g d f)))),(.s 7,It.v (.bK 7 ((n.take z.1).filter (DU g d f)).length)),(.o 7,It.row 3 1 (dd (fE .i64 ((n.take z.1).filter (DU g d f)))) false),(.s 9,It.v (.d (ints n))),(.s 10,It.v (.d (.int .i64 z.1)))]) (fun z=>n.length-z.1) ⟨0,by omega,trivial⟩ ?_ ?_
 ·exact GS.own' (k:=7) 3 1 (by simp) (by simp) (by simp[fE])
 ·rintro⟨i,i1,i2⟩;by_cases hi:i<n.length
  ·have hiz:(i:Int)<n.length:=by omega
   have hx:n[i]? = some n[i]:=ah hi;have ht:n.take (i+1)=n.take i++[n[i]]:=by rw[aO,ah hi];rfl
   generalize n[i]=x at hx ht;have hp:=ah1 hg f x;have hfl:((n.take i).filter (DU g d f)).length≤1000000:=aY (aQ _ _) (by simp;omega);have ha:=aaW (g:=g) hb x;simp -dsimp[hiz,ints,hx];refine aF.of (WQ g hsm f x) [] 0 ?_;simp -dsimp[CO,d_,hx,ints];and_intros;all_goals try first|rfl|omega|exact⟨by kernel_rfl⟩
   refine aF.of (aaV g hsm d hd x) [] 0 ?_;by_cases b1:atR g d x<1073741824
   ·simp -dsimp[CO,d_,hx,ints,b1];and_intros;all_goals try first|rfl|omega|exact⟨by kernel_rfl⟩
    refine aF.of (aaV g hsm d hd x) [] 0 ?_;by_cases b2:(price g.ls f x).getD 0+atR g d x=atR g d f
    ·simp -dsimp[CO,d_,hx,ints,b1,eq_true b2,wrap_i64 (n:=(price g.ls f x).getD 0+atR g d x) (by omega) (by omega),wrap_i64 (n:=(i:Int)+1) (by omega) (by omega)];and_intros;all_goals try first|rfl|omega|exact⟨by kernel_rfl⟩
     exact⟨⟨i+1,by omega,trivial⟩,GS.to (by simp[ht,DU,b1,b2,fE,ints]),by simp;omega⟩
    ·simp -dsimp[CO,d_,hx,ints,b1,eq_false b2,wrap_i64 (n:=(price g.ls f x).getD 0+atR g d x) (by omega) (by omega),wrap_i64 (n:=(i:Int)+1) (by omega) (by omega)];and_intros;all_goals try first|rfl|omega|exact⟨by kernel_rfl⟩
     exact⟨⟨i+1,by omega,trivial⟩,GS.to (by simp[ht,DU,b1,b2,fE,ints]),by simp;omega⟩
   ·simp -dsimp[CO,d_,hx,ints,b1,wrap_i64 (n:=(i:Int)+1) (by omega) (by omega)];and_intros;all_goals try first|rfl|omega|exact⟨by kernel_rfl⟩
    exact⟨⟨i+1,by omega,trivial⟩,GS.to (by simp[ht,DU,b1,fE,ints]),by simp;omega⟩
  ·have hiz :¬(i:Int)<n.length:=by omega
   simp -dsimp[hiz,ints];refine Fin.view 6 ?_;simp -dsimp;refine Fin.of ?_;simp[aW (show n.length≤i by omega),ints,fE]
end Go.Proofs
