/-
  What functions of the program compute, stated as contracts over plain data; the conditions of each stand in its own statement.
-/
import Derived.Test.YtboimfkommpglaaGreatDoorZB15
set_option linter.unusedVariables false
set_option linter.unusedSimpArgs false
set_option maxRecDepth 100000
set_option maxHeartbeats 4000000
namespace Go.Proofs
open Go Go.Tr
theorem abJ(l:List Int)(hl:l.length≤9223372036854775807)(f:FuncId)(q:Int→Bool)(hf:∀x,x∈l→Contract Tryz.prog f [.d (.int .i64 x)] [] (.d (.bool (q x))) [] [])(hok:dP Tryz.prog f=true):
  Contract Tryz.prog 235 [.d (.sl (l.map (fun n=>[D.int .i64 n]))),.clo f []] [] (.d (.int .i64 (JQ q l))) [] []:=by
 refine aC Tryz.func235 rfl (fun E0=>?_);refine iK.sound (g:=.mk) (ow:=[]) (kp:=(kb 0x103b3)) ?_;rw[Tryz.ntmps235];simp -dsimp;refine bY.of [] (kb 0x103b3) (ι:={i:Nat // i≤l.length∧∀a,a<i→∀x,l[a]? = some x→q x=false})
  (fun z=>[(.s 0,It.v (.d (.sl (l.map (fun n=>[D.int .i64 n]))))),(.s 1,It.v (.clo f [])),(.s 4,It.v (.d (.int .i64 0))),(.s 7,It.v (.d (.int .i64 l.length))),(.s 8,It.v (.d (.int .i64 z.1)))]) (fun z=>l.length-z.1) ⟨0,by omega,fun a h=>by omega⟩ ?_ ?_
 ·simp[GS.to]
 ·rintro⟨i,i1,i2⟩;by_cases hi:i<l.length
  ·have hiz:(i:Int)<l.length:=by omega
   have hx:l[i]? = some l[i]:=ah hi;have hm:l[i]∈l:=aB hi;generalize l[i]=x at hx hm;simp -dsimp[hiz,hx,Rw.cs,wrap_i64 (n:=(i:Int)+1) (by omega) (by omega)];and_intros;all_goals try first|rfl|omega|exact⟨by kernel_rfl⟩
   refine aF.of (hf x hm) [] 0 ?_;rcases (au (q x)).symm with h|h
   ·simp -dsimp[h,hok,Bl,wrap_i64 (n:=(i:Int)+1) (by omega) (by omega)];and_intros;all_goals try first|rfl|omega|exact⟨by kernel_rfl⟩
    exact⟨⟨i+1,by omega,fun a ha y hy=>by
     grind⟩,GS.to (by simp),by grind⟩
   ·simp -dsimp[h,hok,Bl];and_intros;all_goals try first|rfl|omega|exact⟨by kernel_rfl⟩
    refine Fin.of ?_;simp[FK hx h i2]
  ·simp -dsimp[hi];refine Fin.of ?_;simp;exact(FM fun a ha=>i2 a (by omega)).symm
theorem Rj(l:List Int)(hl:l.length≤9223372036854775807)(f:FuncId)(q:Int→Bool)(hf:∀x,x∈l→Contract Tryz.prog f [.d (.int .i64 x)] [] (.d (.bool (q x))) [] [])(hok:dP Tryz.prog f=true):
  Contract Tryz.prog 175 [.d (.sl (l.map (fun n=>[D.int .i64 n]))),.clo f []] [] (.d (.bool (l.any q))) [] []:=by
 refine aC Tryz.func175 rfl (fun E0=>?_);refine iK.sound (g:=.mk) (ow:=[]) (kp:=(kb 0x13)) ?_;rw[Tryz.ntmps175];simp -dsimp;refine aF.of (abJ l hl f q hf hok) [] 0 ?_;simp -dsimp;refine Fin.of ?_;simp[AZ]
theorem abN(l:List Rw)(hl:l.length≤9223372036854775807)(f:FuncId)(q:Rw→Bool)(hf:∀x,x∈l→Contract Tryz.prog f [Bl x] [] (.d (.bool (q x))) [] [])(hok:dP Tryz.prog f=true):
  Contract Tryz.prog 256 [.d (.sl (l.map Rw.cs)),.clo f []] [] (.d (.int .i64 (JQ q l))) [] []:=by
 refine aC Tryz.func256 rfl (fun E0=>?_);refine iK.sound (g:=.mk) (ow:=[]) (kp:=(kb 0x103b3)) ?_;rw[Tryz.ntmps256];simp -dsimp;refine bY.of [] (kb 0x103b3) (ι:={i:Nat // i≤l.length∧∀a,a<i→∀x,l[a]? = some x→q x=false})
  (fun z=>[(.s 0,It.v (.d (.sl (l.map Rw.cs)))),(.s 1,It.v (.clo f [])),(.s 4,It.v (.d (.int .i64 0))),(.s 7,It.v (.d (.int .i64 l.length))),(.s 8,It.v (.d (.int .i64 z.1)))]) (fun z=>l.length-z.1) ⟨0,by omega,fun a h=>by omega⟩ ?_ ?_
 ·simp[GS.to]
 ·rintro⟨i,i1,i2⟩;by_cases hi:i<l.length
  ·have hiz:(i:Int)<l.length:=by omega
   have hx:l[i]? = some l[i]:=ah hi;have hm:l[i]∈l:=aB hi;generalize l[i]=x at hx hm;simp -dsimp[hiz,hx,Rw.cs,wrap_i64 (n:=(i:Int)+1) (by omega) (by omega)];and_intros;all_goals try first|rfl|omega|exact⟨by kernel_rfl⟩
   refine aF.of (hf x hm) [] 0 ?_;rcases (au (q x)).symm with h|h
   ·simp -dsimp[h,hok,Bl,wrap_i64 (n:=(i:Int)+1) (by omega) (by omega)];and_intros;all_goals try first|rfl|omega|exact⟨by kernel_rfl⟩
    exact⟨⟨i+1,by omega,fun a ha y hy=>by
     grind⟩,GS.to (by simp),by grind⟩
   ·simp -dsimp[h,hok,Bl];and_intros;all_goals try first|rfl|omega|exact⟨by kernel_rfl⟩
    refine Fin.of ?_;simp[FK hx h i2]
  ·simp -dsimp[hi];refine Fin.of ?_;simp;exact(FM fun a ha=>i2 a (by omega)).symm
theorem yZ(l:List Rw)(hl:l.length≤9223372036854775807)(f:FuncId)(q:Rw→Bool)(hf:∀x,x∈l→Contract Tryz.prog f [Bl x] [] (.d (.bool (q x))) [] [])(hok:dP Tryz.prog f=true):
  Contract Tryz.prog 230 [.d (.sl (l.map Rw.cs)),.clo f []] [] (.d (.bool (l.any q))) [] []:=by
 refine aC Tryz.func230 rfl (fun E0=>?_);refine iK.sound (g:=.mk) (ow:=[]) (kp:=(kb 0x13)) ?_;rw[Tryz.ntmps230];simp -dsimp;refine aF.of (abN l hl f q hf hok) [] 0 ?_;simp -dsimp;refine Fin.of ?_;simp[AZ]
theorem abO(l:List Rw)(hl:l.length≤9223372036854775807)(f:FuncId)(ds:List D)(q:Rw→Bool)(hf:∀x,x∈l→Contract Tryz.prog f [Bl x,.ptr (.x 0) 0] [.box (ds.map .d)] (.d (.bool (q x))) [.box (ds.map .d)] [])(hok:dP Tryz.prog f=true):
  Contract Tryz.prog 256 [.d (.sl (l.map Rw.cs)),.clo f [.ptr (.x 0) 0]] [.box (ds.map .d)] (.d (.int .i64 (JQ q l))) [.box (ds.map .d)] []:=by
 refine aC Tryz.func256 rfl (fun E0=>?_);refine iK.sound (g:=.mk) (ow:=[]) (kp:=(kb 0x103b3)) ?_;rw[Tryz.ntmps256];simp -dsimp;refine bY.of [] (kb 0x103b3) (ι:={i:Nat // i≤l.length∧∀a,a<i→∀x,l[a]? = some x→q x=false})
  (fun z=>[(.s 0,It.v (.d (.sl (l.map Rw.cs)))),(.s 1,It.v (.clo f [TV.ptr (.x 0) 0])),(.x 0,It.box (List.map TV.d ds)),(.s 4,It.v (.d (.int .i64 0))),(.s 7,It.v (.d (.int .i64 l.length))),(.s 8,It.v (.d (.int .i64 z.1)))]) (fun z=>l.length-z.1) ⟨0,by omega,fun a h=>by omega⟩ ?_ ?_
 ·simp[GS.to]
 ·rintro⟨i,i1,i2⟩;by_cases hi:i<l.length
  ·have hiz:(i:Int)<l.length:=by omega
   have hx:l[i]? = some l[i]:=ah hi;have hm:l[i]∈l:=aB hi;generalize l[i]=x at hx hm;simp -dsimp[hiz,hx,Rw.cs,wrap_i64 (n:=(i:Int)+1) (by omega) (by omega)];and_intros;all_goals try first|rfl|omega|exact⟨by kernel_rfl⟩
   refine aF.of (hf x hm) [.x 0] 0 ?_;rcases (au (q x)).symm with h|h
   ·simp -dsimp[h,hok,Bl,wrap_i64 (n:=(i:Int)+1) (by omega) (by omega)];and_intros;all_goals try first|rfl|omega|exact⟨by kernel_rfl⟩
    exact⟨⟨i+1,by omega,fun a ha y hy=>by
     grind⟩,GS.to (by simp),by grind⟩
   ·simp -dsimp[h,hok,Bl];and_intros;all_goals try first|rfl|omega|exact⟨by kernel_rfl⟩
    refine Fin.of ?_;simp[FK hx h i2]
  ·simp -dsimp[hi];refine Fin.of ?_;simp;exact(FM fun a ha=>i2 a (by omega)).symm
theorem GL(l:List Rw)(hl:l.length≤9223372036854775807)(f:FuncId)(ds:List D)(q:Rw→Bool)(hf:∀x,x∈l→Contract Tryz.prog f [Bl x,.ptr (.x 0) 0] [.box (ds.map .d)] (.d (.bool (q x))) [.box (ds.map .d)] [])(hok:dP Tryz.prog f=true):
  Contract Tryz.prog 230 [.d (.sl (l.map Rw.cs)),.clo f [.ptr (.x 0) 0]] [.box (ds.map .d)] (.d (.bool (l.any q))) [.box (ds.map .d)] []:=by
 refine aC Tryz.func230 rfl (fun E0=>?_);refine iK.sound (g:=.mk) (ow:=[]) (kp:=(kb 0x13)) ?_;rw[Tryz.ntmps230];simp -dsimp;refine aF.of (abO l hl f ds q hf hok) [.x 0] 0 ?_;simp -dsimp;refine Fin.of ?_;simp[AZ]
theorem ajj(n lo hi:Int):inB n lo hi=decide (Df n lo hi):=by grind[fQ,qV]
theorem ab3(n:Int):Contract Tryz.prog 257 [.d (.int .i64 n)] [] (.d (.bool (!decide (Df n 1 99)))) [] []:=by
 refine aC Tryz.func257 rfl (fun E0=>?_);refine iK.sound (g:=.mk) (ow:=[]) (kp:=(kb 5)) ?_;rw[Tryz.ntmps257];simp -dsimp;refine aF.of (G9 n 1 99) [] 0 ?_;simp -dsimp;and_intros;all_goals try first|rfl|omega|exact⟨by kernel_rfl⟩
 refine Fin.of ?_;simp[ajj]
theorem TU(x:Rw)(hx:x.nx.length≤9223372036854775807):Contract Tryz.prog 231 [Bl x] [] (.d (.bool (decide x.out))) [] []:=by
 refine aC Tryz.func231 rfl (fun E0=>?_);refine iK.sound (g:=.mk) (ow:=[]) (kp:=(kb 7)) ?_;rw[Tryz.ntmps231];simp -dsimp[Bl];refine aF.of (G9 x.id 1 256) [] 0 ?_;by_cases c1:Df x.id 1 256
 ·simp -dsimp[fQ c1];and_intros;all_goals try first|rfl|omega|exact⟨by kernel_rfl⟩
  refine aF.of (Rj x.nx hx 257 (fun n=>!decide (Df n 1 99)) (fun n _=>ab3 n) (by simp)) [] 0 ?_;simp -dsimp[ints];and_intros;all_goals try first|rfl|omega|exact⟨by kernel_rfl⟩
  refine Fin.of ?_;have:(x.nx.any fun n=>!decide (Df n 1 99))=decide x.out:=by refine jO.2 ?_;simp only[jU,nZ,decide_eq_false_iff_not,decide_eq_true_eq,Rw.out,c1,not_true_eq_false,false_or]
  simp[this]
 ·simp -dsimp[qV c1];and_intros;all_goals try first|rfl|omega|exact⟨by kernel_rfl⟩
  refine Fin.of ?_;have:x.out:=.inl c1;simp[this]
theorem YT(x:Rw):Contract Tryz.prog 232 [Bl x] [] (.d (.bool (decide (24<x.nx.length)))) [] []:=by
 refine aC Tryz.func232 rfl (fun E0=>?_);refine iK.sound (g:=.mk) (ow:=[]) (kp:=(kb 7)) ?_;rw[Tryz.ntmps232];simp -dsimp[Bl,ints];and_intros;all_goals try first|rfl|omega|exact⟨by kernel_rfl⟩
 refine Fin.of ?_;simp;omega
def Tb.ds(b:Tb):List D:=[.int .i64 b.r,.int .i64 b.sd,.int .i64 b.len,dZ b.rows]
theorem VH(b:Tb)(x:Rw)(hx:x.nx.length≤9223372036854775807):Contract Tryz.prog 234 [Bl x,.ptr (.x 0) 0] [.box (b.ds.map .d)] (.d (.bool ((decide (1<x.nx.length)&&decide (b.r∈x.nx))))) [.box (b.ds.map .d)] []:=by
 refine aC Tryz.func234 rfl (fun E0=>?_);refine iK.sound (g:=.mk) (ow:=[]) (kp:=(kb 0xf)) ?_;rw[Tryz.ntmps234];by_cases c1:1<x.nx.length
 ·have xB:(1:Int)<x.nx.length:=by omega
  simp -dsimp[Bl,ints,c1,xB,Tb.ds];refine aF.of (Dk x.nx hx b.r) [] 0 ?_;simp -dsimp[ints,c1,xB,Tb.ds];and_intros;all_goals try first|rfl|omega|exact⟨by kernel_rfl⟩
  refine Fin.of ?_;simp[c1,pY,Tb.ds]
 ·have xB :¬(1:Int)<x.nx.length:=by omega
  simp -dsimp[Bl,ints,c1,xB,Tb.ds];and_intros;all_goals try first|rfl|omega|exact⟨by kernel_rfl⟩
  refine Fin.of ?_;simp[c1,Tb.ds]
theorem KJ(l:List Int)(hl:l.length≤9223372036854775807):Contract Tryz.prog 233 [.d (ints l)] [] (.d (.bool (decide (l.Pairwise (· < ·))))) [] []:=by
 refine aC Tryz.func233 rfl (fun E0=>?_);refine iK.sound (g:=.mk) (ow:=[]) (kp:=(kb 0x4000ed)) ?_;rw[Tryz.ntmps233];simp -dsimp[ints];refine bY.of [] (kb 0x4000ed) (ι:={i:Nat // i≤l.length∧∀a,a<i→∀x y,0<a→l[a-1]? = some x→l[a]? = some y→x<y})
  (fun z=>[(.s 0,It.v (.d (ints l))),(.s 2,It.v (.d (.bool false))),(.s 5,It.v (.d (.int .i64 l.length))),(.s 6,It.v (.d (.int .i64 z.1)))]) (fun z=>l.length-z.1) ⟨0,by omega,fun a h=>by omega⟩ ?_ ?_
 ·simp[GS.to,ints]
 ·rintro⟨i,i1,i2⟩;by_cases hi:i<l.length
  ·have hiz:(i:Int)<l.length:=by omega
   have hg:l[i]? = some l[i]:=ah hi;by_cases c0:0<i
   ·have Qn:(0:Int)<i:=by omega
    have hi0:i-1<l.length:=by omega
    have hp:l[i-1]? = some l[i-1]:=ah hi0;have hw:((i:Int)-1).toNat=i-1:=by omega
    have hlt:∀u v,l[i-1]? = some u→l[i]? = some v→(l.Pairwise (· < ·))→u<v:=fun u v hu hv hpw=>by grind[List.pairwise_iff_getElem]
    generalize l[i-1]=u at hp;generalize l[i]=v at hg;by_cases c1:v≤u
    ·simp -dsimp[ints,hiz,hg,c0,Qn,hp,hw,c1,wrap_i64 (n:=(i:Int)-1) (by omega) (by omega)];and_intros;all_goals try first|rfl|omega|exact⟨by kernel_rfl⟩
     refine Fin.of ?_;have :¬l.Pairwise (· < ·):=fun h=>by have:=hlt u v hp hg h;omega
     simp[this]
    ·simp -dsimp[ints,hiz,hg,c0,Qn,hp,hw,c1,wrap_i64 (n:=(i:Int)-1) (by omega) (by omega),wrap_i64 (n:=(i:Int)+1) (by omega) (by omega)];and_intros;all_goals try first|rfl|omega|exact⟨by kernel_rfl⟩
     exact⟨⟨i+1,by omega,fun a ha x y h0 hx hy=>by
      by_cases e:a=i
      ·subst e;rw[hp]at hx;rw[hg]at hy;simp only[aj]at hx hy;omega
      ·exact i2 a (by omega) x y h0 hx hy⟩,GS.to (by simp[ints]),by simp;omega⟩
   ·have Qn :¬(0:Int)<i:=by omega
    simp -dsimp[ints,hiz,c0,Qn,wrap_i64 (n:=(i:Int)+1) (by omega) (by omega)];and_intros;all_goals try first|rfl|omega|exact⟨by kernel_rfl⟩
    exact⟨⟨i+1,by omega,fun a ha x y h0 hx hy=>by
     by_cases e:a=i
     ·omega
     ·exact i2 a (by omega) x y h0 hx hy⟩,GS.to (by simp[ints]),by simp;omega⟩
  ·have hiz :¬(i:Int)<l.length:=by omega
   simp -dsimp[ints,hiz];refine Fin.of ?_;have:l.Pairwise (· < ·):=BM fun a x y hx hy=>i2 (a+1) (by have:=(aA.1 hy).1;omega) x y (by omega) (by simpa using hx) hy
   simp[this]
theorem Xd(b:Tb)(hb:b.rows.length≤9223372036854775807)(hn:∀x∈b.rows,x.nx.length≤9223372036854775807):Contract Tryz.prog 173 [gQ b] [] (.d (.int .i64 (chk b))) [] []:=by
 refine aC Tryz.func173 rfl (fun E0=>?_);refine iK.sound (g:=.mk) (ow:=[]) (kp:=(kb 0x8400000f002000000803f)) ?_;rw[Tryz.ntmps173];by_cases a4:b.len=0
 ·by_cases a5:b.rows.length=0
  ·have a5z:(b.rows.length:Int)=0:=by omega
   simp -dsimp[gQ,dZ,eq_true a4,a5,a5z];and_intros;all_goals try first|rfl|omega|exact⟨by kernel_rfl⟩
   refine aF.of (G9 b.r 1 99) [] 0 ?_;by_cases a1:Df b.r 1 99
   ·simp -dsimp[fQ a1];refine aF.of (G9 b.sd 0 7) [] 0 ?_;by_cases a2:Df b.sd 0 7
    ·simp -dsimp[fQ a1,fQ a2];refine aF.of (qN b.len) [] 0 ?_;have a3:dQ b.len=false:=by rw[a4];rfl
     have hh:b.head:=⟨a1,a2,.inr ⟨a4,a5⟩⟩
     clear a5 a5z;simp -dsimp[fQ a1,fQ a2,a3];and_intros;all_goals try first|rfl|omega|exact⟨by kernel_rfl⟩
     refine aF.of (yZ b.rows hb 231 (fun x=>decide x.out) (fun x hx=>TU x (hn x hx)) (by simp)) [] 0 ?_;by_cases ho:∃x∈b.rows,x.out
     ·have e1:(b.rows.any fun x=>decide x.out)=true:=by simpa using ho
      simp -dsimp[fQ a1,fQ a2,a3,e1,dZ];and_intros;all_goals try first|rfl|omega|exact⟨by kernel_rfl⟩
      refine Fin.of ?_;have hc:=Fj hh ho;simp[hc]
     ·have e1:(b.rows.any fun x=>decide x.out)=false:=by simpa using ho
      by_cases c3:256<b.rows.length
      ·have P8:(256:Int)<b.rows.length:=by omega
       simp -dsimp[fQ a1,fQ a2,a3,e1,c3,P8,dZ];and_intros;all_goals try first|rfl|omega|exact⟨by kernel_rfl⟩
       refine Fin.of ?_;have hc:=Qo hh ho c3;simp[hc]
      ·have P8 :¬(256:Int)<b.rows.length:=by omega
       simp -dsimp[fQ a1,fQ a2,a3,e1,c3,P8,dZ];and_intros;all_goals try first|rfl|omega|exact⟨by kernel_rfl⟩
       refine aF.of (yZ b.rows hb 232 (fun x=>decide (24<x.nx.length)) (fun x hx=>YT x) (by simp)) [] 0 ?_;by_cases hlim:∃x∈b.rows,24<x.nx.length
       ·have e2:(b.rows.any fun x=>decide (24<x.nx.length))=true:=by simpa using hlim
        simp -dsimp[fQ a1,fQ a2,a3,e1,c3,P8,e2,dZ];and_intros;all_goals try first|rfl|omega|exact⟨by kernel_rfl⟩
        refine Fin.of ?_;have hc:=Qp hh ho c3 hlim;simp[hc]
       ·have e2:(b.rows.any fun x=>decide (24<x.nx.length))=false:=by simpa using hlim
        simp -dsimp[fQ a1,fQ a2,a3,e1,c3,P8,e2,dZ];and_intros;all_goals try first|rfl|omega|exact⟨by kernel_rfl⟩
        as_aux_lemma=>
        refine bY.of [] (kb 0x8400000f002000000803f) (ι:={i:Nat // i≤b.rows.length∧∀a,a<i→∀x,b.rows[a]? = some x→x.nx.Pairwise (· < ·)∧∀y,0<a→b.rows[a-1]? = some y→y.id<x.id})
         (fun z=>[(.o 1,It.box [TV.d (.int .i64 b.r),TV.d (.int .i64 b.sd),TV.d (.int .i64 b.len),TV.d (dZ b.rows)]),(.s 1,It.v (.ptr (.o 1) 0)),(.s 2,It.v (.d (.int .i64 0))),
          (.s 52,It.v (.d (dZ b.rows))),(.s 53,It.v (.d (.int .i64 b.rows.length))),(.s 54,It.v (.d (.int .i64 z.1)))]) (fun z=>b.rows.length-z.1) ⟨0,by omega,fun a h=>by omega⟩ ?_ ?_
        ·exact GS.to (by simp[dZ])
        ·rintro⟨i3,i31,i32⟩;by_cases hi3:i3<b.rows.length
         ·have FI:(i3:Int)<b.rows.length:=by omega
          have hg3:b.rows[i3]? = some b.rows[i3]:=ah hi3;have hx3:=hn _ (aB hi3);have hm3:b.rows[i3]∈b.rows:=aB hi3;generalize b.rows[i3]=x at hg3 hx3 hm3;simp -dsimp[dZ,hg3,FI,Rw.cs];and_intros;all_goals try first|rfl|omega|exact⟨by kernel_rfl⟩
          refine aF.of (KJ x.nx hx3) [] 0 ?_;by_cases hpw:x.nx.Pairwise (· < ·)
          ·by_cases c0:0<i3
           ·have Qn:(0:Int)<i3:=by omega
            have abB:i3-1<b.rows.length:=by omega
            have hp3:b.rows[i3-1]? = some b.rows[i3-1]:=ah abB;generalize b.rows[i3-1]=y at hp3;have hiw:((i3:Int)-1).toNat=i3-1:=by omega
            by_cases c1:x.id≤y.id
            ·simp -dsimp[hpw,dZ,c0,Qn,hp3,hiw,Rw.cs,c1,wrap_i64 (n:=(i3:Int)-1) (by omega) (by omega)];and_intros;all_goals try first|rfl|omega|exact⟨by kernel_rfl⟩
             refine Fin.of ?_;have hc:=wB hh ho (by omega) hlim (fun h=>QB h hp3 hg3 c0 c1);simp[hc]
            ·simp -dsimp[hpw,dZ,c0,Qn,hp3,hiw,Rw.cs,c1,wrap_i64 (n:=(i3:Int)-1) (by omega) (by omega),wrap_i64 (n:=(i3:Int)+1) (by omega) (by omega)];and_intros;all_goals try first|rfl|omega|exact⟨by kernel_rfl⟩
             exact⟨⟨i3+1,by omega,fun a ha y' hy=>by
              by_cases e:a=i3
              ·subst e;rw[hg3]at hy;simp only[aj]at hy;subst hy
               exact⟨hpw,fun z _ hz=>by rw[hp3]at hz;simp only[aj]at hz;subst hz;omega⟩
              ·exact i32 a (by omega) y' hy⟩,GS.to (by simp[dZ]),by simp;omega⟩
           ·have Qn :¬(0:Int)<i3:=by omega
            simp -dsimp[hpw,dZ,c0,Qn,Rw.cs,wrap_i64 (n:=(i3:Int)+1) (by omega) (by omega)];and_intros;all_goals try first|rfl|omega|exact⟨by kernel_rfl⟩
            exact⟨⟨i3+1,by omega,fun a ha y' hy=>by
             by_cases e:a=i3
             ·subst e;rw[hg3]at hy;simp only[aj]at hy;subst hy
              exact⟨hpw,fun z h0 _=>absurd h0 c0⟩
             ·exact i32 a (by omega) y' hy⟩,GS.to (by simp[dZ]),by simp;omega⟩
          ·simp -dsimp[hpw,dZ,Rw.cs];and_intros;all_goals try first|rfl|omega|exact⟨by kernel_rfl⟩
           refine Fin.of ?_;have hc:=wB hh ho (by omega) hlim (fun h=>hpw (h.2 x hm3));simp[hc]
         ·have FI :¬(i3:Int)<b.rows.length:=by omega
          have hasc:b.NR:=Q5 (fun a x y hx hy=>((i32 (a+1) (by have:=(aA.1 hy).1;omega) y hy).2 x (by omega) hx)) (fun x hx=>by obtain⟨a,ha⟩:=bM hx;exact(i32 a (by have:=(aA.1 ha).1;omega) x ha).1);simp -dsimp[dZ,FI];and_intros;all_goals try first|rfl|omega|exact⟨by kernel_rfl⟩
          refine aF.of (GL b.rows hb 234 b.ds (fun x=>(decide (1<x.nx.length)&&decide (b.r∈x.nx))) (fun x hx=>VH b x (hn x hx)) (by simp)) [.o 1] 0 ?_;by_cases hcf:∃x∈b.rows,1<x.nx.length∧b.r∈x.nx
          ·have e3:(b.rows.any fun x=>(decide (1<x.nx.length)&&decide (b.r∈x.nx)))=true:=by simpa using hcf
           simp -dsimp[e3,Tb.ds,dZ];and_intros;all_goals try first|rfl|omega|exact⟨by kernel_rfl⟩
           refine Fin.of ?_;have hc:=KR hh ho (by omega) hlim hasc hcf;simp[hc]
          ·have e3:(b.rows.any fun x=>(decide (1<x.nx.length)&&decide (b.r∈x.nx)))=false:=by
            rw[mQ];intro h;exact hcf (by simpa using h)
           simp -dsimp[e3,Tb.ds,dZ];and_intros;all_goals try first|rfl|omega|exact⟨by kernel_rfl⟩
           refine Fin.of ?_;have hc:=N_ hh ho (by omega) hlim hasc hcf;simp[hc]
    ·simp -dsimp[fQ a1,qV a2];and_intros;all_goals try first|rfl|omega|exact⟨by kernel_rfl⟩
     refine Fin.of ?_;have hc:=uj (b:=b) (fun h=>a2 h.2.1);simp[hc]
   ·simp -dsimp[qV a1];and_intros;all_goals try first|rfl|omega|exact⟨by kernel_rfl⟩
    refine Fin.of ?_;have hc:=uj (b:=b) (fun h=>a1 h.1);simp[hc]
  ·have a5z :¬(b.rows.length:Int)=0:=by omega
   simp -dsimp[gQ,dZ,eq_true a4,a5,a5z];and_intros;all_goals try first|rfl|omega|exact⟨by kernel_rfl⟩
   refine aF.of (G9 b.r 1 99) [] 0 ?_;by_cases a1:Df b.r 1 99
   ·simp -dsimp[fQ a1];refine aF.of (G9 b.sd 0 7) [] 0 ?_;by_cases a2:Df b.sd 0 7
    ·simp -dsimp[fQ a1,fQ a2];refine aF.of (qN b.len) [] 0 ?_;have a3:dQ b.len=false:=by rw[a4];rfl
     simp -dsimp[fQ a1,fQ a2,a3];and_intros;all_goals try first|rfl|omega|exact⟨by kernel_rfl⟩
     refine Fin.of ?_;have hc:=uj (b:=b) (fun h=>h.2.2.elim (fun h=>by rw[a3]at h;simp at h) fun h=>a5 h.2);simp[hc]
    ·simp -dsimp[fQ a1,qV a2];and_intros;all_goals try first|rfl|omega|exact⟨by kernel_rfl⟩
     refine Fin.of ?_;have hc:=uj (b:=b) (fun h=>a2 h.2.1);simp[hc]
   ·simp -dsimp[qV a1];and_intros;all_goals try first|rfl|omega|exact⟨by kernel_rfl⟩
    refine Fin.of ?_;have hc:=uj (b:=b) (fun h=>a1 h.1);simp[hc]
 ·simp -dsimp[gQ,dZ,a4];and_intros;all_goals try first|rfl|omega|exact⟨by kernel_rfl⟩
  refine aF.of (G9 b.r 1 99) [] 0 ?_;by_cases a1:Df b.r 1 99
  ·simp -dsimp[fQ a1];refine aF.of (G9 b.sd 0 7) [] 0 ?_;by_cases a2:Df b.sd 0 7
   ·simp -dsimp[fQ a1,fQ a2];refine aF.of (qN b.len) [] 0 ?_;rcases (au (dQ b.len)).symm with a3|a3
    ·simp -dsimp[fQ a1,fQ a2,a3];and_intros;all_goals try first|rfl|omega|exact⟨by kernel_rfl⟩
     refine Fin.of ?_;have hc:=uj (b:=b) (fun h=>h.2.2.elim (fun h=>by rw[a3]at h;simp at h) fun h=>a4 h.1);simp[hc]
    ·have hh:b.head:=⟨a1,a2,.inl a3⟩
     simp -dsimp[fQ a1,fQ a2,a3];and_intros;all_goals try first|rfl|omega|exact⟨by kernel_rfl⟩
     refine aF.of (yZ b.rows hb 231 (fun x=>decide x.out) (fun x hx=>TU x (hn x hx)) (by simp)) [] 0 ?_;by_cases ho:∃x∈b.rows,x.out
     ·have e1:(b.rows.any fun x=>decide x.out)=true:=by simpa using ho
      simp -dsimp[fQ a1,fQ a2,a3,e1,dZ];and_intros;all_goals try first|rfl|omega|exact⟨by kernel_rfl⟩
      refine Fin.of ?_;have hc:=Fj hh ho;simp[hc]
     ·have e1:(b.rows.any fun x=>decide x.out)=false:=by simpa using ho
      by_cases c3:256<b.rows.length
      ·have P8:(256:Int)<b.rows.length:=by omega
       simp -dsimp[fQ a1,fQ a2,a3,e1,c3,P8,dZ];and_intros;all_goals try first|rfl|omega|exact⟨by kernel_rfl⟩
       refine Fin.of ?_;have hc:=Qo hh ho c3;simp[hc]
      ·have P8 :¬(256:Int)<b.rows.length:=by omega
       simp -dsimp[fQ a1,fQ a2,a3,e1,c3,P8,dZ];and_intros;all_goals try first|rfl|omega|exact⟨by kernel_rfl⟩
       refine aF.of (yZ b.rows hb 232 (fun x=>decide (24<x.nx.length)) (fun x hx=>YT x) (by simp)) [] 0 ?_;by_cases hlim:∃x∈b.rows,24<x.nx.length
       ·have e2:(b.rows.any fun x=>decide (24<x.nx.length))=true:=by simpa using hlim
        simp -dsimp[fQ a1,fQ a2,a3,e1,c3,P8,e2,dZ];and_intros;all_goals try first|rfl|omega|exact⟨by kernel_rfl⟩
        refine Fin.of ?_;have hc:=Qp hh ho c3 hlim;simp[hc]
       ·have e2:(b.rows.any fun x=>decide (24<x.nx.length))=false:=by simpa using hlim
        simp -dsimp[fQ a1,fQ a2,a3,e1,c3,P8,e2,dZ];and_intros;all_goals try first|rfl|omega|exact⟨by kernel_rfl⟩
        as_aux_lemma=>
        refine bY.of [] (kb 0x8400000f002000000803f) (ι:={i:Nat // i≤b.rows.length∧∀a,a<i→∀x,b.rows[a]? = some x→x.nx.Pairwise (· < ·)∧∀y,0<a→b.rows[a-1]? = some y→y.id<x.id})
         (fun z=>[(.o 1,It.box [TV.d (.int .i64 b.r),TV.d (.int .i64 b.sd),TV.d (.int .i64 b.len),TV.d (dZ b.rows)]),(.s 1,It.v (.ptr (.o 1) 0)),(.s 2,It.v (.d (.int .i64 0))),
          (.s 52,It.v (.d (dZ b.rows))),(.s 53,It.v (.d (.int .i64 b.rows.length))),(.s 54,It.v (.d (.int .i64 z.1)))]) (fun z=>b.rows.length-z.1) ⟨0,by omega,fun a h=>by omega⟩ ?_ ?_
        ·exact GS.to (by simp[dZ])
        ·rintro⟨i3,i31,i32⟩;by_cases hi3:i3<b.rows.length
         ·have FI:(i3:Int)<b.rows.length:=by omega
          have hg3:b.rows[i3]? = some b.rows[i3]:=ah hi3;have hx3:=hn _ (aB hi3);have hm3:b.rows[i3]∈b.rows:=aB hi3;generalize b.rows[i3]=x at hg3 hx3 hm3;simp -dsimp[dZ,hg3,FI,Rw.cs];and_intros;all_goals try first|rfl|omega|exact⟨by kernel_rfl⟩
          refine aF.of (KJ x.nx hx3) [] 0 ?_;by_cases hpw:x.nx.Pairwise (· < ·)
          ·by_cases c0:0<i3
           ·have Qn:(0:Int)<i3:=by omega
            have abB:i3-1<b.rows.length:=by omega
            have hp3:b.rows[i3-1]? = some b.rows[i3-1]:=ah abB;generalize b.rows[i3-1]=y at hp3;have hiw:((i3:Int)-1).toNat=i3-1:=by omega
            by_cases c1:x.id≤y.id
            ·simp -dsimp[hpw,dZ,c0,Qn,hp3,hiw,Rw.cs,c1,wrap_i64 (n:=(i3:Int)-1) (by omega) (by omega)];and_intros;all_goals try first|rfl|omega|exact⟨by kernel_rfl⟩
             refine Fin.of ?_;have hc:=wB hh ho (by omega) hlim (fun h=>QB h hp3 hg3 c0 c1);simp[hc]
            ·simp -dsimp[hpw,dZ,c0,Qn,hp3,hiw,Rw.cs,c1,wrap_i64 (n:=(i3:Int)-1) (by omega) (by omega),wrap_i64 (n:=(i3:Int)+1) (by omega) (by omega)];and_intros;all_goals try first|rfl|omega|exact⟨by kernel_rfl⟩
             exact⟨⟨i3+1,by omega,fun a ha y' hy=>by
              by_cases e:a=i3
              ·subst e;rw[hg3]at hy;simp only[aj]at hy;subst hy
               exact⟨hpw,fun z _ hz=>by rw[hp3]at hz;simp only[aj]at hz;subst hz;omega⟩
              ·exact i32 a (by omega) y' hy⟩,GS.to (by simp[dZ]),by simp;omega⟩
           ·have Qn :¬(0:Int)<i3:=by omega
            simp -dsimp[hpw,dZ,c0,Qn,Rw.cs,wrap_i64 (n:=(i3:Int)+1) (by omega) (by omega)];and_intros;all_goals try first|rfl|omega|exact⟨by kernel_rfl⟩
            exact⟨⟨i3+1,by omega,fun a ha y' hy=>by
             by_cases e:a=i3
             ·subst e;rw[hg3]at hy;simp only[aj]at hy;subst hy
              exact⟨hpw,fun z h0 _=>absurd h0 c0⟩
             ·exact i32 a (by omega) y' hy⟩,GS.to (by simp[dZ]),by simp;omega⟩
          ·simp -dsimp[hpw,dZ,Rw.cs];and_intros;all_goals try first|rfl|omega|exact⟨by kernel_rfl⟩
           refine Fin.of ?_;have hc:=wB hh ho (by omega) hlim (fun h=>hpw (h.2 x hm3));simp[hc]
         ·have FI :¬(i3:Int)<b.rows.length:=by omega
          have hasc:b.NR:=Q5 (fun a x y hx hy=>((i32 (a+1) (by have:=(aA.1 hy).1;omega) y hy).2 x (by omega) hx)) (fun x hx=>by obtain⟨a,ha⟩:=bM hx;exact(i32 a (by have:=(aA.1 ha).1;omega) x ha).1);simp -dsimp[dZ,FI];and_intros;all_goals try first|rfl|omega|exact⟨by kernel_rfl⟩
          refine aF.of (GL b.rows hb 234 b.ds (fun x=>(decide (1<x.nx.length)&&decide (b.r∈x.nx))) (fun x hx=>VH b x (hn x hx)) (by simp)) [.o 1] 0 ?_;by_cases hcf:∃x∈b.rows,1<x.nx.length∧b.r∈x.nx
          ·have e3:(b.rows.any fun x=>(decide (1<x.nx.length)&&decide (b.r∈x.nx)))=true:=by simpa using hcf
           simp -dsimp[e3,Tb.ds,dZ];and_intros;all_goals try first|rfl|omega|exact⟨by kernel_rfl⟩
           refine Fin.of ?_;have hc:=KR hh ho (by omega) hlim hasc hcf;simp[hc]
          ·have e3:(b.rows.any fun x=>(decide (1<x.nx.length)&&decide (b.r∈x.nx)))=false:=by
            rw[mQ];intro h;exact hcf (by simpa using h)
           simp -dsimp[e3,Tb.ds,dZ];and_intros;all_goals try first|rfl|omega|exact⟨by kernel_rfl⟩
           refine Fin.of ?_;have hc:=N_ hh ho (by omega) hlim hasc hcf;simp[hc]
   ·simp -dsimp[fQ a1,qV a2];and_intros;all_goals try first|rfl|omega|exact⟨by kernel_rfl⟩
    refine Fin.of ?_;have hc:=uj (b:=b) (fun h=>a2 h.2.1);simp[hc]
  ·simp -dsimp[qV a1];and_intros;all_goals try first|rfl|omega|exact⟨by kernel_rfl⟩
   refine Fin.of ?_;have hc:=uj (b:=b) (fun h=>a1 h.1);simp[hc]
theorem aaH(b:Tb)(hb:b.rows.length≤1000000)(hn:∀x∈b.rows,x.nx.length≤1000000):Contract Tryz.prog 173 [gQ b] [] (.d (.int .i64 (chk b))) [] []:=Xd b (aY hb (by decide)) (fun x hx=>aY (hn x hx) (by decide))
theorem O_(ad:Option Addr)(c:Nat):Contract Tryz.prog 179 [.c (.slice ad 0 c)] [] (.d (ints [])) [] []:=by
 refine aC Tryz.func179 rfl (fun E0=>?_);refine iK.sound (g:=.mk) (ow:=[5]) (kp:=(kb 0x15)) ?_;rw[Tryz.ntmps179];cases ad with
 | none=>
   simp -dsimp[ints];and_intros;all_goals try first|rfl|omega|exact⟨by kernel_rfl⟩
   refine Fin.view 2 ?_;simp -dsimp;refine Fin.of ?_;simp[ints]
 | some ad=>
   simp -dsimp[ints];and_intros;all_goals try first|rfl|omega|exact⟨by kernel_rfl⟩
   refine Fin.view 2 ?_;simp -dsimp;refine Fin.of ?_;simp[ints]
theorem acP(l:List Int)(hl:l.length≤1000000):Contract Tryz.prog 179 [.d (ints l)] [] (.d (ints l)) [] []:=by
 by_cases h0:l.length=0
 ·obtain rfl:l = []:=dB.1 h0;refine Contract.cases fun E us ha=>?_
  simp only[b_,aV,Rep,ints]at ha;obtain⟨u,us',rfl,hu,rfl⟩:=ha;rcases hu with⟨_,ad,c,rfl⟩|⟨b,o,c,k,rfl,_⟩
  ·grind[b_,aV,O_]
  grind[b_,aV,O_]
 ·have dl:dLen 1 (l.map fun x=>[D.int .i64 x]):=mO 1 _ _ fun _=>rfl
  refine aC Tryz.func179 rfl (fun E0=>?_);refine iK.sound (g:=.mk) (ow:=[5]) (kp:=(kb 0x15)) ?_;rw[Tryz.ntmps179];simp -dsimp[ints];and_intros;all_goals try first|rfl|omega|exact dl|exact⟨by kernel_rfl⟩
  refine Fin.view 2 ?_;simp -dsimp;refine Fin.of ?_;simp
def rowOf(b:Tb)(id:Int):Option Rw:=b.rows.find? fun x=>decide (x.id=id)
def rowT(o:Option Rw):TV:=.sZ [Bl (o.getD ⟨0,[]⟩),.d (.bool o.isSome)]
theorem Ih{l:List Rw}{q:Rw→Bool}{i:Nat}{x:Rw}(hx:l[i]? = some x)(hq:q x=true)(h:∀a,a<i→∀y,l[a]? = some y→q y=false):l.find? q=some x:=by
 induction l generalizing i with
 | nil=>trivial
 | cons y l ih=>
   cases i with
   | zero=>simp_all
   | succ i=>
     have h0:=h 0 (by omega) y rfl
     grind
theorem Ii{l:List Rw}{q:Rw→Bool}(h:∀a,a<l.length→∀y,l[a]? = some y→q y=false):l.find? q=none:=by grind[List.getElem?_of_mem]
theorem alZ(b:Tb)(hb:b.rows.length≤1000000)(hn:∀x∈b.rows,x.nx.length≤1000000)(id:Int):Contract Tryz.prog 204 [gQ b,.d (.int .i64 id)] [] (rowT (rowOf b id)) [] []:=by
 refine aC Tryz.func204 rfl (fun E0=>?_);refine iK.sound (g:=.mk) (ow:=[]) (kp:=(kb 0x41eb7)) ?_;rw[Tryz.ntmps204];simp -dsimp[gQ,dZ];refine bY.of [] (kb 0x41eb7) (ι:={i:Nat // i≤b.rows.length∧∀a,a<i→∀x,b.rows[a]? = some x→decide (x.id=id)=false})
  (fun z=>[(.s 1,It.v (.d (.int .i64 id))),(.o 2,It.box [TV.d (.int .i64 b.r),TV.d (.int .i64 b.sd),TV.d (.int .i64 b.len),TV.d (dZ b.rows)]),(.s 2,It.v (.ptr (.o 2) 0)),(.o 4,It.box [TV.d (.int .i64 0),TV.c (Value.slice none 0 0)]),(.s 4,It.v (.ptr (.o 4) 0)),(.s 5,It.v (.d (.bool false))),(.s 9,It.v (.d (dZ b.rows))),(.s 10,It.v (.d (.int .i64 b.rows.length))),(.s 11,It.v (.d (.int .i64 z.1)))]) (fun z=>b.rows.length-z.1) ⟨0,by omega,fun a h=>by omega⟩ ?_ ?_
 ·simp[GS.to,dZ]
 ·rintro⟨i,i1,i2⟩;by_cases hi:i<b.rows.length
  ·have hiz:(i:Int)<b.rows.length:=by omega
   have hg:b.rows[i]? = some b.rows[i]:=ah hi;have hx:=hn _ (aB hi);generalize b.rows[i]=x at hg hx;by_cases c1:x.id=id
   ·simp -dsimp[dZ,hg,hiz,Rw.cs,eq_true c1];and_intros;all_goals try first|rfl|omega|exact⟨by kernel_rfl⟩
    refine aF.of (acP x.nx hx) [] 0 ?_;simp -dsimp[dZ,Rw.cs,c1];and_intros;all_goals try first|rfl|omega|exact⟨by kernel_rfl⟩
    refine Fin.of ?_;simp[rowT,rowOf,Ih hg (by simpa using c1) i2,Bl,c1]
   ·simp -dsimp[dZ,hg,hiz,Rw.cs,c1,wrap_i64 (n:=(i:Int)+1) (by omega) (by omega)];and_intros;all_goals try first|rfl|omega|exact⟨by kernel_rfl⟩
    exact⟨⟨i+1,by omega,fun a ha y hy=>by
     by_cases e:a=i
     ·subst e;rw[hg]at hy;simp only[aj]at hy;subst hy;simpa using c1
     ·exact i2 a (by omega) y hy⟩,GS.to (by simp[dZ]),by simp;omega⟩
  ·have hiz :¬(i:Int)<b.rows.length:=by omega
   simp -dsimp[dZ,hiz];refine Fin.box (.o 4) rfl ?_;simp -dsimp;refine Fin.of ?_;simp[rowT,rowOf,Ii (q:=fun x=>decide (x.id=id)) (fun a ha=>i2 a (by omega)),Bl,ints]
def tH(x:Rw)(p:Int):Int:=if x.nx.length=0 then 0 else x.nx.getD (p%x.nx.length).toNat 0
theorem adv(x:Rw)(p:Int)(hp:0≤p∧p≤7)(hx:x.nx.length≤1000000):Contract Tryz.prog 205 [Bl x,.d (.int .i64 p)] [] (.d (.int .i64 (tH x p))) [] []:=by
 refine aC Tryz.func205 rfl (fun E0=>?_);refine iK.sound (g:=.mk) (ow:=[]) (kp:=(kb 0x117)) ?_;rw[Tryz.ntmps205];by_cases h0:x.nx.length=0
 ·have h0z:(x.nx.length:Int)=0:=by omega
  simp -dsimp[Bl,ints,h0,h0z];and_intros;all_goals try first|rfl|omega|exact⟨by kernel_rfl⟩
  refine Fin.of ?_;simp[tH,h0]
 ·have h0z :¬(x.nx.length:Int)=0:=by omega
  have e:p.tmod x.nx.length=p%x.nx.length:=iw hp.1;have m1:=jP p (b:=(x.nx.length:Int)) (by omega);have m2:=iL p (b:=(x.nx.length:Int)) (by omega);have hlt:(p%x.nx.length).toNat<x.nx.length:=by omega
  have hg:x.nx[(p%x.nx.length).toNat]? = some x.nx[(p%x.nx.length).toNat]:=ah hlt;simp -dsimp[Bl,ints,h0,h0z,e,hg];and_intros;all_goals try first|rfl|omega|exact⟨by kernel_rfl⟩
  refine Fin.of ?_;simp[tH,h0,hg]
structure Tb.Sm(b:Tb):Prop where
 rows:b.rows.length≤1000000
 nx:∀x∈b.rows,x.nx.length≤1000000
def qc(b:Tb)(id p:Int):Int:=tH ((rowOf b id).getD ⟨0,[]⟩) p
theorem ER{b:Tb}(hb:b.Sm)(id:Int):((rowOf b id).getD ⟨0,[]⟩).nx.length≤1000000:=by
 unfold rowOf;cases h:b.rows.find? (fun x=>decide (x.id=id))with
 | none=>simp
 | some x=>exact hb.nx x (gG h)
def Ar(b:Tb)(p s:Int):Bool:=decide (chk b=0)&&(inB p 0 7&&inB s 0 31)
theorem ZV(b:Tb)(hb:b.Sm)(p s:Int):Contract Tryz.prog 203 [gQ b,.d (.int .i64 p),.d (.int .i64 s)] [] (.d (.bool (Ar b p s))) [] []:=by
 refine aC Tryz.func203 rfl (fun E0=>?_);refine iK.sound (g:=.mk) (ow:=[]) (kp:=(kb 0x4f)) ?_;rw[Tryz.ntmps203];simp -dsimp[gQ];refine aF.of (aaH b hb.rows hb.nx) [] 0 ?_;by_cases h0:chk b=0
 ·by_cases h1:0≤p
  ·by_cases h2:p<8
   ·by_cases h3:0≤s
    ·simp -dsimp[gQ,h0,h1,h2,h3];and_intros;all_goals try first|rfl|omega|exact⟨by kernel_rfl⟩
     refine Fin.of ?_;simp[Ar,inB,h0,h1,h3];omega
    ·simp -dsimp[gQ,h0,h1,h2,h3];and_intros;all_goals try first|rfl|omega|exact⟨by kernel_rfl⟩
     refine Fin.of ?_;simp[Ar,inB,h0,h1,h3]
   ·simp -dsimp[gQ,h0,h1,h2];and_intros;all_goals try first|rfl|omega|exact⟨by kernel_rfl⟩
    refine Fin.of ?_;have h2' :¬p≤7:=by omega
    simp[Ar,inB,h0,h1,h2']
  ·simp -dsimp[gQ,h0,h1];and_intros;all_goals try first|rfl|omega|exact⟨by kernel_rfl⟩
   refine Fin.of ?_;simp[Ar,inB,h0,h1]
 ·simp -dsimp[gQ,h0];and_intros;all_goals try first|rfl|omega|exact⟨by kernel_rfl⟩
  refine Fin.of ?_;simp[Ar,h0]
theorem qw{b:Tb}{p s:Int}:Ar b p s=true↔chk b=0∧(0≤p∧p≤7)∧0≤s∧s≤31:=by simp[Ar,inB]
def jo(b:Tb)(id p:Int):Int:=if Ar b p 0=true then qc b id p else 0
theorem adt(b:Tb)(hb:b.Sm)(id p:Int):Contract Tryz.prog 129 [gQ b,.d (.int .i64 id),.d (.int .i64 p)] [] (.d (.int .i64 (jo b id p))) [] []:=by
 refine aC Tryz.func129 rfl (fun E0=>?_);refine iK.sound (g:=.mk) (ow:=[]) (kp:=(kb 0x10cf)) ?_;rw[Tryz.ntmps129];simp -dsimp[gQ];refine aF.of (ZV b hb p 0) [] 0 ?_;rcases (au (Ar b p 0)).symm with h|h
 ·simp -dsimp[gQ,h];and_intros;all_goals try first|rfl|omega|exact⟨by kernel_rfl⟩
  refine Fin.of ?_;simp[jo,h]
 ·simp -dsimp[gQ,h];and_intros;all_goals try first|rfl|omega|exact⟨by kernel_rfl⟩
  refine aF.of (alZ b hb.rows hb.nx id) [] 0 ?_;simp -dsimp[gQ,rowT,Bl];and_intros;all_goals try first|rfl|omega|exact⟨by kernel_rfl⟩
  refine aF.of (adv ((rowOf b id).getD ⟨0,[]⟩) p (qw.1 h).2.1 (ER hb id)) [] 0 ?_;simp -dsimp[Bl];and_intros;all_goals try first|rfl|omega|exact⟨by kernel_rfl⟩
  refine Fin.of ?_;simp[jo,h,qc]
abbrev Mk:=List (Int×BitVec 64)
def mk(m:Mk):List (Int×D):=m.map fun e=>(e.1,bv e.2)
def Gt(m:Mk)(k:Int):BitVec 64:=((m.find? fun e=>decide (k=e.1)).map (·.2)).getD 0#64
def aaY:Mk→Int→BitVec 64→Mk
 | [],k,d=>[(k,d)]
 | (k',d')::es,k,d=>if k=k' then(k,d)::es else(k',d')::aaY es k d
theorem X_(k:Int)(d:BitVec 64):∀m:Mk,OJ (mk m) k (bv d)=mk (aaY m k d)
 | []=>rfl
 | (k',d')::es=>by
   have ih:=X_ k d es
   grind[mk,OJ,aaY]
theorem JX(k:Int):∀m:Mk,(L9 (mk m) k=none∧Gt m k=0#64)∨L9 (mk m) k=some (.int .u64 (tn (Gt m k)))
 | []=>.inl ⟨rfl,rfl⟩
 | (k',d')::es=>by
   have ih:=JX k es;simp only[mk,aH,L9,Gt,iC]at ih⊢;by_cases e:k=k'
   ·grind[bv]
   simp[*]
theorem anK(X:BitVec 64):orI .u64 0 (tn X)=tn X:=by simp
def uQ(b:Tb)(p s:Int)(m:Mk)(x:Rw):Mk:=if sS x.id b.len=s∧tH x p≠0 then aaY m (tH x p) (Gt m (tH x p)|||(1#64<<<(rC x.id b.len).toNat))else m
def coll(b:Tb)(p s:Int):Mk:=b.rows.foldl (uQ b p s) []
theorem aeo(b:Tb)(hb:b.Sm)(p s:Int)(hp:0≤p∧p≤7):Contract Tryz.prog 238 [gQ b,.d (.int .i64 p),.d (.int .i64 s)] [] (.mref 14) [] [(14,.mp (mk (coll b p s)))]:=by
 refine aC Tryz.func238 rfl (fun E0=>?_);refine iK.sound (g:=.mk) (ow:=[]) (kp:=(kb 0x100000f2ecf)) ?_;rw[Tryz.ntmps238];simp -dsimp[gQ,dZ];refine bY.of [] (kb 0x100000f2ecf) (ι:={i:Nat // i≤b.rows.length})
  (fun z=>[(.s 1,It.v (.d (.int .i64 p))),(.s 2,It.v (.d (.int .i64 s))),
   (.o 3,It.box [TV.d (.int .i64 b.r),TV.d (.int .i64 b.sd),TV.d (.int .i64 b.len),TV.d (dZ b.rows)]),(.s 3,It.v (.ptr (.o 3) 0)),(.s 6,It.v (.c (Value.map none))),
   (.o 14,It.mp (mk ((b.rows.take z.1).foldl (uQ b p s) []))),(.s 7,It.v (.mref 14)),
   (.s 16,It.v (.d (dZ b.rows))),(.s 17,It.v (.d (.int .i64 b.rows.length))),(.s 18,It.v (.d (.int .i64 z.1)))]) (fun z=>b.rows.length-z.1) ⟨0,by omega⟩ ?_ ?_
 ·simp[GS.to,dZ,mk]
 ·rintro⟨i,i1⟩;by_cases hi:i<b.rows.length
  ·have hiz:(i:Int)<b.rows.length:=by omega
   have hg:b.rows[i]? = some b.rows[i]:=ah hi;have hx:=hb.nx _ (aB hi);have hs:(b.rows.take (i+1)).foldl (uQ b p s) []=uQ b p s ((b.rows.take i).foldl (uQ b p s) []) b.rows[i]:=by grind[List.take_add_one]
   generalize b.rows[i]=x at hg hx hs;generalize (b.rows.take i).foldl (uQ b p s) []=m at hs⊢;have hpl:=plB x.id b.len;have hb1:=hb.rows;obtain⟨pb,hpb⟩:∃n:Nat,rC x.id b.len=n:=⟨(rC x.id b.len).toNat,by omega⟩
   simp -dsimp[dZ,hg,hiz,Rw.cs];and_intros;all_goals try first|rfl|omega|exact⟨by kernel_rfl⟩
   refine aF.of (Ui x.id b.len) [] 0 ?_;simp -dsimp[AA];and_intros;all_goals try first|rfl|omega|exact⟨by kernel_rfl⟩
   refine aF.of (adv x p hp hx) [] 0 ?_;by_cases c1:sS x.id b.len=s
   ·by_cases c2:tH x p=0
    ·simp -dsimp[Bl,c1,c2,wrap_i64 (n:=(i:Int)+1) (by omega) (by omega)];and_intros;all_goals try first|rfl|omega|exact⟨by kernel_rfl⟩
     exact⟨⟨i+1,by omega⟩,GS.to (by simp[dZ,hs,uQ,c2]),by simp;omega⟩
    ·rcases JX (tH x p) m with⟨e1,e2⟩|e1
     ·simp -dsimp[Bl,c1,c2,e1,anK,hpb,wrap_i64 (n:=(i:Int)+1) (by omega) (by omega)];and_intros;all_goals try first|rfl|omega|exact⟨by kernel_rfl⟩
      have hst:OJ (mk m) (tH x p) (D.int .u64 (tn (1#64<<<pb)))=mk (uQ b p s m x):=by unfold uQ;rw[if_pos ⟨c1,c2⟩,←X_,e2,hpb];simp[bv]
      exact⟨⟨i+1,by omega⟩,GS.to (by simp[dZ,hs,hst]),by simp;omega⟩
     ·simp -dsimp[Bl,c1,c2,e1,hpb,wrap_i64 (n:=(i:Int)+1) (by omega) (by omega)];and_intros;all_goals try first|rfl|omega|exact⟨by kernel_rfl⟩
      have hst:OJ (mk m) (tH x p) (D.int .u64 (tn (Gt m (tH x p)|||1#64<<<pb)))=mk (uQ b p s m x):=by unfold uQ;rw[if_pos ⟨c1,c2⟩,←X_,hpb];simp[bv]
      exact⟨⟨i+1,by omega⟩,GS.to (by simp[dZ,hs,hst]),by simp;omega⟩
   ·simp -dsimp[Bl,c1,wrap_i64 (n:=(i:Int)+1) (by omega) (by omega)];and_intros;all_goals try first|rfl|omega|exact⟨by kernel_rfl⟩
    exact⟨⟨i+1,by omega⟩,GS.to (by simp[dZ,hs,uQ,c1]),by simp;omega⟩
  ·obtain rfl:i=b.rows.length:=by omega
   simp -dsimp;refine Fin.of ?_;simp[coll]
theorem Ea{b:Tb}(h:chk b=0):∀x∈b.rows,(1≤x.id∧x.id≤256)∧∀n∈x.nx,1≤n∧n≤99:=by
 intro x hx;have ho :¬∃x∈b.rows,x.out:=fun g=>by
  by_cases hh:b.head
  ·grind[Fj]
  grind[uj]
 have h1 :¬x.out:=by simp_all
 constructor
 ·exact Classical.byContradiction fun g=>h1 (.inl g)
 ·intro n hn;exact Classical.byContradiction fun g=>h1 (.inr ⟨n,hn,g⟩)
theorem Zy{x:Rw}{p:Int}(h:tH x p≠0):tH x p∈x.nx:=by
 unfold tH at h⊢
 grind
def Ci(b:Tb)(p s n:Int):BitVec 64:=if Ar b p s=true then Gt (coll b p s) n else 0#64
theorem alg(b:Tb)(hb:b.Sm)(p s n:Int):Contract Tryz.prog 184 [gQ b,.d (.int .i64 p),.d (.int .i64 s),.d (.int .i64 n)] [] (.d (bv (Ci b p s n))) [] []:=by
 refine aC Tryz.func184 rfl (fun E0=>?_);refine iK.sound (g:=.mk) (ow:=[]) (kp:=(kb 0x211f)) ?_;rw[Tryz.ntmps184];simp -dsimp[gQ];refine aF.of (ZV b hb p s) [] 0 ?_;rcases (au (Ar b p s)).symm with h|h
 ·simp -dsimp[gQ,h];and_intros;all_goals try first|rfl|omega|exact⟨by kernel_rfl⟩
  refine Fin.of ?_;simp[Ci,h,bv]
 ·simp -dsimp[gQ,h];and_intros;all_goals try first|rfl|omega|exact⟨by kernel_rfl⟩
  refine aF.of (aeo b hb p s (qw.1 h).2.1) [] 1000 ?_;rcases JX n (coll b p s)with⟨e1,e2⟩|e1
  ·simp -dsimp[gQ,h,e1];and_intros;all_goals try first|rfl|omega|exact⟨by kernel_rfl⟩
   refine Fin.of ?_;simp[Ci,h,bv,e2]
  ·simp -dsimp[gQ,h,e1];and_intros;all_goals try first|rfl|omega|exact⟨by kernel_rfl⟩
   refine Fin.of ?_;simp[Ci,h,bv]
def qh(b:Tb)(p s n:Int):Nat→BitVec 64
 | 0=>0#64
 | k+1=>if Au s k b.len=true∧0<n∧qc b (s*b.len+k+1) p=n then qh b p s n k|||wV k else qh b p s n k
def ads(b:Tb)(p s n:Int):BitVec 64:=if Ar b p s=true∧1≤n∧n≤99 then qh b p s n b.len.toNat else 0#64
theorem acO{b:Tb}(h:chk b=0):dQ b.len=true∨b.len=0∧b.rows.length=0:=by
 by_cases hh:b.head
 ·exact hh.2.2
 grind[uj]
theorem agk{b:Tb}(h:chk b=0):0≤b.len∧b.len≤64:=by grind[acO,dQ]
theorem adP{B:BitVec 64}:tn B=0↔B=0#64:=by simp
theorem af6(m:Mk)(k n:Int)(d:BitVec 64):Gt (aaY m k d) n=if n=k then d else Gt m n:=by
 induction m with
 | nil=>grind[aaY,Gt]
 | cons a m ih=>
   obtain⟨k',d'⟩:=a;simp only[aaY];by_cases e:k=k'
   ·subst e
    grind[Gt]
   ·rw[if_neg e];by_cases e2:n=k'
    ·have e3 :¬n=k:=by omega
     simp only[Gt,iC,decide_eq_true e2,if_neg e3]
    grind[Gt]
theorem Di{j k:Nat}(hj:j<64)(hk:k<64):(1#64<<<j).getLsbD k=decide (k=j):=by grind
theorem YV(b:Tb)(p s n:Int){k:Nat}(hk:k<64):∀(l:List Rw) (m:Mk),(Gt (l.foldl (uQ b p s) m) n).getLsbD k=true↔(Gt m n).getLsbD k=true∨∃x∈l,sS x.id b.len=s∧rC x.id b.len=k∧tH x p=n∧n≠0
 | [],m=>by simp
 | x::l,m=>by
   rw[cO,YV b p s n hk l];have hpl:=plB x.id b.len;have hs:(Gt (uQ b p s m x) n).getLsbD k=true↔(Gt m n).getLsbD k=true∨(sS x.id b.len=s∧rC x.id b.len=k∧tH x p=n∧n≠0):=by
    unfold uQ;split
    ·rw[af6]
     grind
    simp_all
   grind
theorem YN{k j:Nat}(hk:k<64)(hj:j<64):(wV k).getLsbD j=decide (j=k):=by
 unfold wV;rw[if_neg (by omega),BF]
 grind
theorem IG(b:Tb)(p s n:Int){j:Nat}(hj:j<64):∀K:Nat,K≤64→((qh b p s n K).getLsbD j=true↔j<K∧Au s j b.len=true∧0<n∧qc b (s*b.len+j+1) p=n)
 | 0,_=>by simp[qh]
 | K+1,hK=>by
   have ih:=IG b p s n hj K (by omega);rw[qh];split
   ·rw[BitVec.getLsbD_or,YN (by omega) hj,gJ,decide_eq_true_eq,ih]
    grind
   grind
theorem acN{b:Tb}(h:chk b=0):b.NR:=Classical.byContradiction fun g=>by
 unfold chk at h;split at h
 ·omega
 omega
theorem afz{b:Tb}(h:chk b=0){x:Rw}(hx:x∈b.rows):rowOf b x.id=some x:=by
 have hasc:=(acN h).1;unfold rowOf;have:∀l:List Rw,(l.map (·.id)).Pairwise (· < ·)→x∈l→l.find? (fun y=>decide (y.id=x.id))=some x:=by
  intro l
  induction l with
  | nil=>simp
  | cons y l ih=>
    intro hp hm;rw[aH,fB]at hp
    by_cases e:y.id=x.id
    ·rcases aG.1 hm with rfl|hm
     ·simp
     grind[List.mem_map_of_mem]
    grind
 simp[*]
theorem ZP(b:Tb)(p s n:Int):Ci b p s n=ads b p s n:=by
 unfold Ci ads;by_cases hv:Ar b p s=true
 ·obtain⟨hc,hp,hs⟩:=qw.1 hv;have hl:=agk hc;rw[if_pos hv];apply jc;intro k hk;rw[jO,show coll b p s=b.rows.foldl (uQ b p s) [] from rfl,YV b p s n hk];have h0 :¬(Gt [] n).getLsbD k=true:=by simp[Gt]
  by_cases hn:1≤n∧n≤99
  ·rw[if_pos ⟨hv,hn⟩,IG b p s n hk _ (by omega)];constructor
   ·rintro (h|⟨x,hx,h1,h2,h3,h4⟩)
    ·trivial
    ·have hid:=(Ea hc x hx).1;have hvl:dQ b.len=true:=by grind[dQ,acO,List.length_eq_zero_iff]
     have hin:inB x.id 1 256=true:=by grind[inB]
     have hlp:0<b.len:=by grind[dQ]
     simp only[sS,rC,hvl,hin,l7,if_true]at h1 h2;have hde:=Int.mul_ediv_add_emod (x.id-1) b.len;have hmul:b.len*((x.id-1)/b.len)=s*b.len:=by grind
     have hml:=iL (x.id-1) hlp;have he:s*b.len+k+1=x.id:=by omega
     refine⟨by omega,?_,by omega,?_⟩
     ·simp only[Au,hvl,inB,jZ,aP,decide_eq_true_eq];omega
     grind[qc,afz]
   ·rintro⟨h1,h2,h3,h4⟩;refine .inr ?_;simp only[Au,aP,decide_eq_true_eq,inB]at h2;obtain⟨hvl,⟨h5,h6⟩,_,h8⟩:=h2;unfold qc at h4;cases hr:rowOf b (s*b.len+k+1)with
    | none=>grind[tH]
    | some x=>
      rw[hr]at h4
      have hx:x∈b.rows:=gG hr;have hid:x.id=s*b.len+k+1:=by simpa using qG hr
      have hlp:0<b.len:=by omega
      have hi0:x.id-1=k+s*b.len:=by omega
      have hin:inB x.id 1 256=true:=by grind[inB,Ea]
      refine⟨x,hx,?_,?_,h4,by omega⟩
      ·simp only[sS,hvl,hin,l7,if_true];rw[hi0,Int.add_mul_ediv_right _ _ (by omega),Int.ediv_eq_zero_of_lt (by omega) (by omega)];omega
      ·simp only[rC,hvl,hin,l7,if_true];rw[hi0,Int.add_mul_emod_self_right];exact Int.emod_eq_of_lt (by omega) (by omega)
  ·rw[if_neg fun h=>hn h.2];constructor
   ·rintro (h|⟨x,hx,h1,h2,h3,h4⟩)
    ·trivial
    ·have hm:=Zy (x:=x) (p:=p) (by omega);rw[h3]at hm
     exact absurd ((Ea hc x hx).2 n hm) hn
   simp
 simp[*]
theorem Ou{j:Nat}(hj:j<64):∀K:Nat,K≤64→((Pm K).getLsbD j=decide (j<K))
 | 0,_=>by simp[Pm]
 | K+1,hK=>by
   rw[Pm,BitVec.getLsbD_or,Ou hj K (by omega),YN (by omega) hj,jO]
   grind
def VX:List Rt→Tp→List Rt×Tp
 | [],T=>([],T)
 | x::l,T=>(⟨x.id,!(Vl T 3).1⟩::(VX l (Vl T 3).2).1,(VX l (Vl T 3).2).2)
def am3(T:Tp)(most:Int):bV×Tp:=let g:=akW T most;(⟨(VX g.1.rs g.2).1,g.1.ls⟩,(VX g.1.rs g.2).2)
end Go.Proofs
