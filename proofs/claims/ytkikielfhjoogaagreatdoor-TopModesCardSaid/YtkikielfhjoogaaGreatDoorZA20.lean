/-
  What functions of the program compute, stated as contracts over plain data; the conditions of each stand in its own statement.
-/
import Derived.Test.YtkikielfhjoogaaGreatDoorZA19
set_option linter.unusedVariables false
set_option linter.unusedSimpArgs false
set_option maxRecDepth 100000
set_option maxHeartbeats 4000000
namespace Go.Proofs
open Go Go.Tr
theorem aac(l:List Int)(hl:l.length≤9223372036854775807)(f:FuncId)(q:Int→Bool)(hf:∀x,x∈l→Contract Tryz.prog f [.d (.int .i64 x)] [] (.d (.bool (q x))) [] [])(hok:dB Tryz.prog f=true):
  Contract Tryz.prog 130 [.d (.sl (l.map (fun n=>[D.int .i64 n]))),.clo f []] [] (.d (.int .i64 (BK q l))) [] []:=by
 refine ay Tryz.func130 rfl (fun E0=>?_);refine iC.sound (g:=.mk) (ow:=[]) (kp:=(kb 0x103b3)) ?_;rw[Tryz.ntmps130];simp -dsimp;refine dD.of [] (kb 0x103b3) (ι:={i:Nat // i≤l.length∧∀a,a<i→∀x,l[a]? = some x→q x=false})
  (fun z=>[(.s 0,It.v (.d (.sl (l.map (fun n=>[D.int .i64 n]))))),(.s 1,It.v (.clo f [])),(.s 4,It.v (.d (.int .i64 0))),(.s 7,It.v (.d (.int .i64 l.length))),(.s 8,It.v (.d (.int .i64 z.1)))]) (fun z=>l.length-z.1) ⟨0,by omega,fun a h=>by omega⟩ ?_ ?_
 ·exact GS.to (by simp)
 ·rintro⟨i,i1,i2⟩;by_cases hi:i<l.length
  ·have hiz:(i:Int)<l.length:=by omega
   have hx:l[i]? = some l[i]:=aj hi;have hm:l[i]∈l:=aJ hi;generalize l[i]=x at hx hm;simp -dsimp[hiz,hx,Rw.cs,wrap_i64 (n:=(i:Int)+1) (by omega) (by omega)];and_intros;all_goals try first|rfl|omega|exact⟨by kernel_rfl⟩
   refine aI.of (hf x hm) [] 0 ?_;rcases (aA (q x)).symm with h|h
   ·simp -dsimp[h,hok,IW,wrap_i64 (n:=(i:Int)+1) (by omega) (by omega)];and_intros;all_goals try first|rfl|omega|exact⟨by kernel_rfl⟩
    exact⟨⟨i+1,by omega,fun a ha y hy=>by
     by_cases e:a=i
     ·subst e;rw[hx]at hy;simp only[ah]at hy;subst hy;exact h
     ·exact i2 a (by omega) y hy⟩,GS.to (by simp),by simp;omega⟩
   ·simp -dsimp[h,hok,IW];and_intros;all_goals try first|rfl|omega|exact⟨by kernel_rfl⟩
    refine Fin.of ?_;simp[xq hx h i2]
  ·simp -dsimp[hi];refine Fin.of ?_;simp;exact(yc fun a ha=>i2 a (by omega)).symm
theorem NP(l:List Int)(hl:l.length≤9223372036854775807)(f:FuncId)(q:Int→Bool)(hf:∀x,x∈l→Contract Tryz.prog f [.d (.int .i64 x)] [] (.d (.bool (q x))) [] [])(hok:dB Tryz.prog f=true):
  Contract Tryz.prog 73 [.d (.sl (l.map (fun n=>[D.int .i64 n]))),.clo f []] [] (.d (.bool (l.any q))) [] []:=by
 refine ay Tryz.func73 rfl (fun E0=>?_);refine iC.sound (g:=.mk) (ow:=[]) (kp:=(kb 0x13)) ?_;rw[Tryz.ntmps73];simp -dsimp;refine aI.of (aac l hl f q hf hok) [] 0 ?_;simp -dsimp;refine Fin.of ?_;simp[wB]
theorem aag(l:List Rw)(hl:l.length≤9223372036854775807)(f:FuncId)(q:Rw→Bool)(hf:∀x,x∈l→Contract Tryz.prog f [IW x] [] (.d (.bool (q x))) [] [])(hok:dB Tryz.prog f=true):
  Contract Tryz.prog 160 [.d (.sl (l.map Rw.cs)),.clo f []] [] (.d (.int .i64 (BK q l))) [] []:=by
 refine ay Tryz.func160 rfl (fun E0=>?_);refine iC.sound (g:=.mk) (ow:=[]) (kp:=(kb 0x103b3)) ?_;rw[Tryz.ntmps160];simp -dsimp;refine dD.of [] (kb 0x103b3) (ι:={i:Nat // i≤l.length∧∀a,a<i→∀x,l[a]? = some x→q x=false})
  (fun z=>[(.s 0,It.v (.d (.sl (l.map Rw.cs)))),(.s 1,It.v (.clo f [])),(.s 4,It.v (.d (.int .i64 0))),(.s 7,It.v (.d (.int .i64 l.length))),(.s 8,It.v (.d (.int .i64 z.1)))]) (fun z=>l.length-z.1) ⟨0,by omega,fun a h=>by omega⟩ ?_ ?_
 ·exact GS.to (by simp)
 ·rintro⟨i,i1,i2⟩;by_cases hi:i<l.length
  ·have hiz:(i:Int)<l.length:=by omega
   have hx:l[i]? = some l[i]:=aj hi;have hm:l[i]∈l:=aJ hi;generalize l[i]=x at hx hm;simp -dsimp[hiz,hx,Rw.cs,wrap_i64 (n:=(i:Int)+1) (by omega) (by omega)];and_intros;all_goals try first|rfl|omega|exact⟨by kernel_rfl⟩
   refine aI.of (hf x hm) [] 0 ?_;rcases (aA (q x)).symm with h|h
   ·simp -dsimp[h,hok,IW,wrap_i64 (n:=(i:Int)+1) (by omega) (by omega)];and_intros;all_goals try first|rfl|omega|exact⟨by kernel_rfl⟩
    exact⟨⟨i+1,by omega,fun a ha y hy=>by
     by_cases e:a=i
     ·subst e;rw[hx]at hy;simp only[ah]at hy;subst hy;exact h
     ·exact i2 a (by omega) y hy⟩,GS.to (by simp),by simp;omega⟩
   ·simp -dsimp[h,hok,IW];and_intros;all_goals try first|rfl|omega|exact⟨by kernel_rfl⟩
    refine Fin.of ?_;simp[xq hx h i2]
  ·simp -dsimp[hi];refine Fin.of ?_;simp;exact(yc fun a ha=>i2 a (by omega)).symm
theorem uM(l:List Rw)(hl:l.length≤9223372036854775807)(f:FuncId)(q:Rw→Bool)(hf:∀x,x∈l→Contract Tryz.prog f [IW x] [] (.d (.bool (q x))) [] [])(hok:dB Tryz.prog f=true):
  Contract Tryz.prog 135 [.d (.sl (l.map Rw.cs)),.clo f []] [] (.d (.bool (l.any q))) [] []:=by
 refine ay Tryz.func135 rfl (fun E0=>?_);refine iC.sound (g:=.mk) (ow:=[]) (kp:=(kb 0x13)) ?_;rw[Tryz.ntmps135];simp -dsimp;refine aI.of (aag l hl f q hf hok) [] 0 ?_;simp -dsimp;refine Fin.of ?_;simp[wB]
theorem aah(l:List Rw)(hl:l.length≤9223372036854775807)(f:FuncId)(ds:List D)(q:Rw→Bool)(hf:∀x,x∈l→Contract Tryz.prog f [IW x,.ptr (.x 0) 0] [.box (ds.map .d)] (.d (.bool (q x))) [.box (ds.map .d)] [])(hok:dB Tryz.prog f=true):
  Contract Tryz.prog 160 [.d (.sl (l.map Rw.cs)),.clo f [.ptr (.x 0) 0]] [.box (ds.map .d)] (.d (.int .i64 (BK q l))) [.box (ds.map .d)] []:=by
 refine ay Tryz.func160 rfl (fun E0=>?_);refine iC.sound (g:=.mk) (ow:=[]) (kp:=(kb 0x103b3)) ?_;rw[Tryz.ntmps160];simp -dsimp;refine dD.of [] (kb 0x103b3) (ι:={i:Nat // i≤l.length∧∀a,a<i→∀x,l[a]? = some x→q x=false})
  (fun z=>[(.s 0,It.v (.d (.sl (l.map Rw.cs)))),(.s 1,It.v (.clo f [TV.ptr (.x 0) 0])),(.x 0,It.box (List.map TV.d ds)),(.s 4,It.v (.d (.int .i64 0))),(.s 7,It.v (.d (.int .i64 l.length))),(.s 8,It.v (.d (.int .i64 z.1)))]) (fun z=>l.length-z.1) ⟨0,by omega,fun a h=>by omega⟩ ?_ ?_
 ·exact GS.to (by simp)
 ·rintro⟨i,i1,i2⟩;by_cases hi:i<l.length
  ·have hiz:(i:Int)<l.length:=by omega
   have hx:l[i]? = some l[i]:=aj hi;have hm:l[i]∈l:=aJ hi;generalize l[i]=x at hx hm;simp -dsimp[hiz,hx,Rw.cs,wrap_i64 (n:=(i:Int)+1) (by omega) (by omega)];and_intros;all_goals try first|rfl|omega|exact⟨by kernel_rfl⟩
   refine aI.of (hf x hm) [.x 0] 0 ?_;rcases (aA (q x)).symm with h|h
   ·simp -dsimp[h,hok,IW,wrap_i64 (n:=(i:Int)+1) (by omega) (by omega)];and_intros;all_goals try first|rfl|omega|exact⟨by kernel_rfl⟩
    exact⟨⟨i+1,by omega,fun a ha y hy=>by
     by_cases e:a=i
     ·subst e;rw[hx]at hy;simp only[ah]at hy;subst hy;exact h
     ·exact i2 a (by omega) y hy⟩,GS.to (by simp),by simp;omega⟩
   ·simp -dsimp[h,hok,IW];and_intros;all_goals try first|rfl|omega|exact⟨by kernel_rfl⟩
    refine Fin.of ?_;simp[xq hx h i2]
  ·simp -dsimp[hi];refine Fin.of ?_;simp;exact(yc fun a ha=>i2 a (by omega)).symm
theorem Cc(l:List Rw)(hl:l.length≤9223372036854775807)(f:FuncId)(ds:List D)(q:Rw→Bool)(hf:∀x,x∈l→Contract Tryz.prog f [IW x,.ptr (.x 0) 0] [.box (ds.map .d)] (.d (.bool (q x))) [.box (ds.map .d)] [])(hok:dB Tryz.prog f=true):
  Contract Tryz.prog 135 [.d (.sl (l.map Rw.cs)),.clo f [.ptr (.x 0) 0]] [.box (ds.map .d)] (.d (.bool (l.any q))) [.box (ds.map .d)] []:=by
 refine ay Tryz.func135 rfl (fun E0=>?_);refine iC.sound (g:=.mk) (ow:=[]) (kp:=(kb 0x13)) ?_;rw[Tryz.ntmps135];simp -dsimp;refine aI.of (aah l hl f ds q hf hok) [.x 0] 0 ?_;simp -dsimp;refine Fin.of ?_;simp[wB]
theorem ajm(n lo hi:Int):inB n lo hi=decide (EU n lo hi):=by
 by_cases h:EU n lo hi
 ·rw[fH h];simp[h]
 ·rw[uF h];simp[h]
theorem aay(n:Int):Contract Tryz.prog 161 [.d (.int .i64 n)] [] (.d (.bool (!decide (EU n 1 99)))) [] []:=by
 refine ay Tryz.func161 rfl (fun E0=>?_);refine iC.sound (g:=.mk) (ow:=[]) (kp:=(kb 5)) ?_;rw[Tryz.ntmps161];simp -dsimp;refine aI.of (CU n 1 99) [] 0 ?_;simp -dsimp;and_intros;all_goals try first|rfl|omega|exact⟨by kernel_rfl⟩
 refine Fin.of ?_;simp[ajm]
theorem PD(x:Rw)(hx:x.nx.length≤9223372036854775807):Contract Tryz.prog 136 [IW x] [] (.d (.bool (decide x.out))) [] []:=by
 refine ay Tryz.func136 rfl (fun E0=>?_);refine iC.sound (g:=.mk) (ow:=[]) (kp:=(kb 7)) ?_;rw[Tryz.ntmps136];simp -dsimp[IW];refine aI.of (CU x.id 1 256) [] 0 ?_;by_cases c1:EU x.id 1 256
 ·simp -dsimp[fH c1];and_intros;all_goals try first|rfl|omega|exact⟨by kernel_rfl⟩
  refine aI.of (NP x.nx hx 161 (fun n=>!decide (EU n 1 99)) (fun n _=>aay n) (by simp)) [] 0 ?_;simp -dsimp[ints];and_intros;all_goals try first|rfl|omega|exact⟨by kernel_rfl⟩
  refine Fin.of ?_;have:(x.nx.any fun n=>!decide (EU n 1 99))=decide x.out:=by refine iE.2 ?_;simp only[iG,fB,decide_eq_false_iff_not,decide_eq_true_eq,Rw.out,c1,not_true_eq_false,false_or]
  simp[this]
 ·simp -dsimp[uF c1];and_intros;all_goals try first|rfl|omega|exact⟨by kernel_rfl⟩
  refine Fin.of ?_;have:x.out:=.inl c1;simp[this]
theorem WO(x:Rw):Contract Tryz.prog 137 [IW x] [] (.d (.bool (decide (24<x.nx.length)))) [] []:=by
 refine ay Tryz.func137 rfl (fun E0=>?_);refine iC.sound (g:=.mk) (ow:=[]) (kp:=(kb 7)) ?_;rw[Tryz.ntmps137];simp -dsimp[IW,ints];and_intros;all_goals try first|rfl|omega|exact⟨by kernel_rfl⟩
 refine Fin.of ?_;simp;omega
def Tb.ds(b:Tb):List D:=[.int .i64 b.r,.int .i64 b.sd,.int .i64 b.len,jM b.rows]
theorem Si(b:Tb)(x:Rw)(hx:x.nx.length≤9223372036854775807):Contract Tryz.prog 139 [IW x,.ptr (.x 0) 0] [.box (b.ds.map .d)] (.d (.bool ((decide (1<x.nx.length)&&decide (b.r∈x.nx))))) [.box (b.ds.map .d)] []:=by
 refine ay Tryz.func139 rfl (fun E0=>?_);refine iC.sound (g:=.mk) (ow:=[]) (kp:=(kb 0xf)) ?_;rw[Tryz.ntmps139];by_cases c1:1<x.nx.length
 ·have L8:(1:Int)<x.nx.length:=by omega
  simp -dsimp[IW,ints,c1,L8,Tb.ds];refine aI.of (WV x.nx hx b.r) [] 0 ?_;simp -dsimp[ints,c1,L8,Tb.ds];and_intros;all_goals try first|rfl|omega|exact⟨by kernel_rfl⟩
  refine Fin.of ?_;simp[c1,Rh,Tb.ds]
 ·have L8 :¬(1:Int)<x.nx.length:=by omega
  simp -dsimp[IW,ints,c1,L8,Tb.ds];and_intros;all_goals try first|rfl|omega|exact⟨by kernel_rfl⟩
  refine Fin.of ?_;simp[c1,Tb.ds]
theorem Gz(l:List Int)(hl:l.length≤9223372036854775807):Contract Tryz.prog 138 [.d (ints l)] [] (.d (.bool (decide (l.Pairwise (· < ·))))) [] []:=by
 refine ay Tryz.func138 rfl (fun E0=>?_);refine iC.sound (g:=.mk) (ow:=[]) (kp:=(kb 0x4000ed)) ?_;rw[Tryz.ntmps138];simp -dsimp[ints];refine dD.of [] (kb 0x4000ed) (ι:={i:Nat // i≤l.length∧∀a,a<i→∀x y,0<a→l[a-1]? = some x→l[a]? = some y→x<y})
  (fun z=>[(.s 0,It.v (.d (ints l))),(.s 2,It.v (.d (.bool false))),(.s 5,It.v (.d (.int .i64 l.length))),(.s 6,It.v (.d (.int .i64 z.1)))]) (fun z=>l.length-z.1) ⟨0,by omega,fun a h=>by omega⟩ ?_ ?_
 ·exact GS.to (by simp[ints])
 ·rintro⟨i,i1,i2⟩;by_cases hi:i<l.length
  ·have hiz:(i:Int)<l.length:=by omega
   have hg:l[i]? = some l[i]:=aj hi;by_cases c0:0<i
   ·have c0z:(0:Int)<i:=by omega
    have hi0:i-1<l.length:=by omega
    have hp:l[i-1]? = some l[i-1]:=aj hi0;have hw:((i:Int)-1).toNat=i-1:=by omega
    have hlt:∀u v,l[i-1]? = some u→l[i]? = some v→(l.Pairwise (· < ·))→u<v:=fun u v hu hv hpw=>by
     obtain⟨h1,h2⟩:=aB.1 hu;obtain⟨h3,h4⟩:=aB.1 hv;have:=bC.1 hpw (i-1) i h1 h3 (by omega);rw[h2,h4]at this
     exact this
    generalize l[i-1]=u at hp;generalize l[i]=v at hg;by_cases c1:v≤u
    ·simp -dsimp[ints,hiz,hg,c0,c0z,hp,hw,c1,wrap_i64 (n:=(i:Int)-1) (by omega) (by omega)];and_intros;all_goals try first|rfl|omega|exact⟨by kernel_rfl⟩
     refine Fin.of ?_;have :¬l.Pairwise (· < ·):=fun h=>by have:=hlt u v hp hg h;omega
     simp[this]
    ·simp -dsimp[ints,hiz,hg,c0,c0z,hp,hw,c1,wrap_i64 (n:=(i:Int)-1) (by omega) (by omega),wrap_i64 (n:=(i:Int)+1) (by omega) (by omega)];and_intros;all_goals try first|rfl|omega|exact⟨by kernel_rfl⟩
     exact⟨⟨i+1,by omega,fun a ha x y h0 hx hy=>by
      by_cases e:a=i
      ·subst e;rw[hp]at hx;rw[hg]at hy;simp only[ah]at hx hy;omega
      ·exact i2 a (by omega) x y h0 hx hy⟩,GS.to (by simp[ints]),by simp;omega⟩
   ·have c0z :¬(0:Int)<i:=by omega
    simp -dsimp[ints,hiz,c0,c0z,wrap_i64 (n:=(i:Int)+1) (by omega) (by omega)];and_intros;all_goals try first|rfl|omega|exact⟨by kernel_rfl⟩
    exact⟨⟨i+1,by omega,fun a ha x y h0 hx hy=>by
     by_cases e:a=i
     ·omega
     ·exact i2 a (by omega) x y h0 hx hy⟩,GS.to (by simp[ints]),by simp;omega⟩
  ·have hiz :¬(i:Int)<l.length:=by omega
   simp -dsimp[ints,hiz];refine Fin.of ?_;have:l.Pairwise (· < ·):=NC fun a x y hx hy=>i2 (a+1) (by have:=(aB.1 hy).1;omega) x y (by omega) (by simpa using hx) hy
   simp[this]
theorem Uu(b:Tb)(hb:b.rows.length≤9223372036854775807)(hn:∀x∈b.rows,x.nx.length≤9223372036854775807):Contract Tryz.prog 82 [mD b] [] (.d (.int .i64 (chk b))) [] []:=by
 refine ay Tryz.func82 rfl (fun E0=>?_);refine iC.sound (g:=.mk) (ow:=[]) (kp:=(kb 0x8400000f002000000803f)) ?_;rw[Tryz.ntmps82];by_cases a4:b.len=0
 ·by_cases a5:b.rows.length=0
  ·have a5z:(b.rows.length:Int)=0:=by omega
   simp -dsimp[mD,jM,eq_true a4,a5,a5z];and_intros;all_goals try first|rfl|omega|exact⟨by kernel_rfl⟩
   refine aI.of (CU b.r 1 99) [] 0 ?_;by_cases a1:EU b.r 1 99
   ·simp -dsimp[fH a1];refine aI.of (CU b.sd 0 7) [] 0 ?_;by_cases a2:EU b.sd 0 7
    ·simp -dsimp[fH a1,fH a2];refine aI.of (jY b.len) [] 0 ?_;have a3:eP b.len=false:=by rw[a4];rfl
     have hh:b.head:=⟨a1,a2,.inr ⟨a4,a5⟩⟩
     clear a5 a5z;simp -dsimp[fH a1,fH a2,a3];and_intros;all_goals try first|rfl|omega|exact⟨by kernel_rfl⟩
     refine aI.of (uM b.rows hb 136 (fun x=>decide x.out) (fun x hx=>PD x (hn x hx)) (by simp)) [] 0 ?_;by_cases ho:∃x∈b.rows,x.out
     ·have e1:(b.rows.any fun x=>decide x.out)=true:=by simpa using ho
      simp -dsimp[fH a1,fH a2,a3,e1,jM];and_intros;all_goals try first|rfl|omega|exact⟨by kernel_rfl⟩
      refine Fin.of ?_;have hc:=UL hh ho;simp[hc]
     ·have e1:(b.rows.any fun x=>decide x.out)=false:=by simpa using ho
      by_cases c3:256<b.rows.length
      ·have c3z:(256:Int)<b.rows.length:=by omega
       simp -dsimp[fH a1,fH a2,a3,e1,c3,c3z,jM];and_intros;all_goals try first|rfl|omega|exact⟨by kernel_rfl⟩
       refine Fin.of ?_;have hc:=abx hh ho c3;simp[hc]
      ·have c3z :¬(256:Int)<b.rows.length:=by omega
       simp -dsimp[fH a1,fH a2,a3,e1,c3,c3z,jM];and_intros;all_goals try first|rfl|omega|exact⟨by kernel_rfl⟩
       refine aI.of (uM b.rows hb 137 (fun x=>decide (24<x.nx.length)) (fun x hx=>WO x) (by simp)) [] 0 ?_;by_cases hlim:∃x∈b.rows,24<x.nx.length
       ·have e2:(b.rows.any fun x=>decide (24<x.nx.length))=true:=by simpa using hlim
        simp -dsimp[fH a1,fH a2,a3,e1,c3,c3z,e2,jM];and_intros;all_goals try first|rfl|omega|exact⟨by kernel_rfl⟩
        refine Fin.of ?_;have hc:=abz hh ho c3 hlim;simp[hc]
       ·have e2:(b.rows.any fun x=>decide (24<x.nx.length))=false:=by simpa using hlim
        simp -dsimp[fH a1,fH a2,a3,e1,c3,c3z,e2,jM];and_intros;all_goals try first|rfl|omega|exact⟨by kernel_rfl⟩
        as_aux_lemma=>
        refine dD.of [] (kb 0x8400000f002000000803f) (ι:={i:Nat // i≤b.rows.length∧∀a,a<i→∀x,b.rows[a]? = some x→x.nx.Pairwise (· < ·)∧∀y,0<a→b.rows[a-1]? = some y→y.id<x.id})
         (fun z=>[(.o 1,It.box [TV.d (.int .i64 b.r),TV.d (.int .i64 b.sd),TV.d (.int .i64 b.len),TV.d (jM b.rows)]),(.s 1,It.v (.ptr (.o 1) 0)),(.s 2,It.v (.d (.int .i64 0))),
          (.s 52,It.v (.d (jM b.rows))),(.s 53,It.v (.d (.int .i64 b.rows.length))),(.s 54,It.v (.d (.int .i64 z.1)))]) (fun z=>b.rows.length-z.1) ⟨0,by omega,fun a h=>by omega⟩ ?_ ?_
        ·exact GS.to (by simp[jM])
        ·rintro⟨i3,i31,i32⟩;by_cases hi3:i3<b.rows.length
         ·have ZY:(i3:Int)<b.rows.length:=by omega
          have hg3:b.rows[i3]? = some b.rows[i3]:=aj hi3;have hx3:=hn _ (aJ hi3);have hm3:b.rows[i3]∈b.rows:=aJ hi3;generalize b.rows[i3]=x at hg3 hx3 hm3;simp -dsimp[jM,hg3,ZY,Rw.cs];and_intros;all_goals try first|rfl|omega|exact⟨by kernel_rfl⟩
          refine aI.of (Gz x.nx hx3) [] 0 ?_;by_cases hpw:x.nx.Pairwise (· < ·)
          ·by_cases c0:0<i3
           ·have c0z:(0:Int)<i3:=by omega
            have alz:i3-1<b.rows.length:=by omega
            have hp3:b.rows[i3-1]? = some b.rows[i3-1]:=aj alz;generalize b.rows[i3-1]=y at hp3;have hiw:((i3:Int)-1).toNat=i3-1:=by omega
            by_cases c1:x.id≤y.id
            ·simp -dsimp[hpw,jM,c0,c0z,hp3,hiw,Rw.cs,c1,wrap_i64 (n:=(i3:Int)-1) (by omega) (by omega)];and_intros;all_goals try first|rfl|omega|exact⟨by kernel_rfl⟩
             refine Fin.of ?_;have hc:=DW hh ho (by omega) hlim (fun h=>abX h hp3 hg3 c0 c1);simp[hc]
            ·simp -dsimp[hpw,jM,c0,c0z,hp3,hiw,Rw.cs,c1,wrap_i64 (n:=(i3:Int)-1) (by omega) (by omega),wrap_i64 (n:=(i3:Int)+1) (by omega) (by omega)];and_intros;all_goals try first|rfl|omega|exact⟨by kernel_rfl⟩
             exact⟨⟨i3+1,by omega,fun a ha y' hy=>by
              by_cases e:a=i3
              ·subst e;rw[hg3]at hy;simp only[ah]at hy;subst hy
               exact⟨hpw,fun z _ hz=>by rw[hp3]at hz;simp only[ah]at hz;subst hz;omega⟩
              ·exact i32 a (by omega) y' hy⟩,GS.to (by simp[jM]),by simp;omega⟩
           ·have c0z :¬(0:Int)<i3:=by omega
            simp -dsimp[hpw,jM,c0,c0z,Rw.cs,wrap_i64 (n:=(i3:Int)+1) (by omega) (by omega)];and_intros;all_goals try first|rfl|omega|exact⟨by kernel_rfl⟩
            exact⟨⟨i3+1,by omega,fun a ha y' hy=>by
             by_cases e:a=i3
             ·subst e;rw[hg3]at hy;simp only[ah]at hy;subst hy
              exact⟨hpw,fun z h0 _=>absurd h0 c0⟩
             ·exact i32 a (by omega) y' hy⟩,GS.to (by simp[jM]),by simp;omega⟩
          ·simp -dsimp[hpw,jM,Rw.cs];and_intros;all_goals try first|rfl|omega|exact⟨by kernel_rfl⟩
           refine Fin.of ?_;have hc:=DW hh ho (by omega) hlim (fun h=>hpw (h.2 x hm3));simp[hc]
         ·have ZY :¬(i3:Int)<b.rows.length:=by omega
          have hasc:b.BP:=Zg (fun a x y hx hy=>((i32 (a+1) (by have:=(aB.1 hy).1;omega) y hy).2 x (by omega) hx)) (fun x hx=>by obtain⟨a,ha⟩:=bU hx;exact(i32 a (by have:=(aB.1 ha).1;omega) x ha).1);simp -dsimp[jM,ZY];and_intros;all_goals try first|rfl|omega|exact⟨by kernel_rfl⟩
          refine aI.of (Cc b.rows hb 139 b.ds (fun x=>(decide (1<x.nx.length)&&decide (b.r∈x.nx))) (fun x hx=>Si b x (hn x hx)) (by simp)) [.o 1] 0 ?_;by_cases hcf:∃x∈b.rows,1<x.nx.length∧b.r∈x.nx
          ·have e3:(b.rows.any fun x=>(decide (1<x.nx.length)&&decide (b.r∈x.nx)))=true:=by simpa using hcf
           simp -dsimp[e3,Tb.ds,jM];and_intros;all_goals try first|rfl|omega|exact⟨by kernel_rfl⟩
           refine Fin.of ?_;have hc:=WR hh ho (by omega) hlim hasc hcf;simp[hc]
          ·have e3:(b.rows.any fun x=>(decide (1<x.nx.length)&&decide (b.r∈x.nx)))=false:=by
            rw[pq];intro h;exact hcf (by simpa using h)
           simp -dsimp[e3,Tb.ds,jM];and_intros;all_goals try first|rfl|omega|exact⟨by kernel_rfl⟩
           refine Fin.of ?_;have hc:=Zx hh ho (by omega) hlim hasc hcf;simp[hc]
    ·simp -dsimp[fH a1,uF a2];and_intros;all_goals try first|rfl|omega|exact⟨by kernel_rfl⟩
     refine Fin.of ?_;have hc:=tN (b:=b) (fun h=>a2 h.2.1);simp[hc]
   ·simp -dsimp[uF a1];and_intros;all_goals try first|rfl|omega|exact⟨by kernel_rfl⟩
    refine Fin.of ?_;have hc:=tN (b:=b) (fun h=>a1 h.1);simp[hc]
  ·have a5z :¬(b.rows.length:Int)=0:=by omega
   simp -dsimp[mD,jM,eq_true a4,a5,a5z];and_intros;all_goals try first|rfl|omega|exact⟨by kernel_rfl⟩
   refine aI.of (CU b.r 1 99) [] 0 ?_;by_cases a1:EU b.r 1 99
   ·simp -dsimp[fH a1];refine aI.of (CU b.sd 0 7) [] 0 ?_;by_cases a2:EU b.sd 0 7
    ·simp -dsimp[fH a1,fH a2];refine aI.of (jY b.len) [] 0 ?_;have a3:eP b.len=false:=by rw[a4];rfl
     simp -dsimp[fH a1,fH a2,a3];and_intros;all_goals try first|rfl|omega|exact⟨by kernel_rfl⟩
     refine Fin.of ?_;have hc:=tN (b:=b) (fun h=>h.2.2.elim (fun h=>by rw[a3]at h;simp at h) fun h=>a5 h.2);simp[hc]
    ·simp -dsimp[fH a1,uF a2];and_intros;all_goals try first|rfl|omega|exact⟨by kernel_rfl⟩
     refine Fin.of ?_;have hc:=tN (b:=b) (fun h=>a2 h.2.1);simp[hc]
   ·simp -dsimp[uF a1];and_intros;all_goals try first|rfl|omega|exact⟨by kernel_rfl⟩
    refine Fin.of ?_;have hc:=tN (b:=b) (fun h=>a1 h.1);simp[hc]
 ·simp -dsimp[mD,jM,a4];and_intros;all_goals try first|rfl|omega|exact⟨by kernel_rfl⟩
  refine aI.of (CU b.r 1 99) [] 0 ?_;by_cases a1:EU b.r 1 99
  ·simp -dsimp[fH a1];refine aI.of (CU b.sd 0 7) [] 0 ?_;by_cases a2:EU b.sd 0 7
   ·simp -dsimp[fH a1,fH a2];refine aI.of (jY b.len) [] 0 ?_;rcases (aA (eP b.len)).symm with a3|a3
    ·simp -dsimp[fH a1,fH a2,a3];and_intros;all_goals try first|rfl|omega|exact⟨by kernel_rfl⟩
     refine Fin.of ?_;have hc:=tN (b:=b) (fun h=>h.2.2.elim (fun h=>by rw[a3]at h;simp at h) fun h=>a4 h.1);simp[hc]
    ·have hh:b.head:=⟨a1,a2,.inl a3⟩
     simp -dsimp[fH a1,fH a2,a3];and_intros;all_goals try first|rfl|omega|exact⟨by kernel_rfl⟩
     refine aI.of (uM b.rows hb 136 (fun x=>decide x.out) (fun x hx=>PD x (hn x hx)) (by simp)) [] 0 ?_;by_cases ho:∃x∈b.rows,x.out
     ·have e1:(b.rows.any fun x=>decide x.out)=true:=by simpa using ho
      simp -dsimp[fH a1,fH a2,a3,e1,jM];and_intros;all_goals try first|rfl|omega|exact⟨by kernel_rfl⟩
      refine Fin.of ?_;have hc:=UL hh ho;simp[hc]
     ·have e1:(b.rows.any fun x=>decide x.out)=false:=by simpa using ho
      by_cases c3:256<b.rows.length
      ·have c3z:(256:Int)<b.rows.length:=by omega
       simp -dsimp[fH a1,fH a2,a3,e1,c3,c3z,jM];and_intros;all_goals try first|rfl|omega|exact⟨by kernel_rfl⟩
       refine Fin.of ?_;have hc:=abx hh ho c3;simp[hc]
      ·have c3z :¬(256:Int)<b.rows.length:=by omega
       simp -dsimp[fH a1,fH a2,a3,e1,c3,c3z,jM];and_intros;all_goals try first|rfl|omega|exact⟨by kernel_rfl⟩
       refine aI.of (uM b.rows hb 137 (fun x=>decide (24<x.nx.length)) (fun x hx=>WO x) (by simp)) [] 0 ?_;by_cases hlim:∃x∈b.rows,24<x.nx.length
       ·have e2:(b.rows.any fun x=>decide (24<x.nx.length))=true:=by simpa using hlim
        simp -dsimp[fH a1,fH a2,a3,e1,c3,c3z,e2,jM];and_intros;all_goals try first|rfl|omega|exact⟨by kernel_rfl⟩
        refine Fin.of ?_;have hc:=abz hh ho c3 hlim;simp[hc]
       ·have e2:(b.rows.any fun x=>decide (24<x.nx.length))=false:=by simpa using hlim
        simp -dsimp[fH a1,fH a2,a3,e1,c3,c3z,e2,jM];and_intros;all_goals try first|rfl|omega|exact⟨by kernel_rfl⟩
        as_aux_lemma=>
        refine dD.of [] (kb 0x8400000f002000000803f) (ι:={i:Nat // i≤b.rows.length∧∀a,a<i→∀x,b.rows[a]? = some x→x.nx.Pairwise (· < ·)∧∀y,0<a→b.rows[a-1]? = some y→y.id<x.id})
         (fun z=>[(.o 1,It.box [TV.d (.int .i64 b.r),TV.d (.int .i64 b.sd),TV.d (.int .i64 b.len),TV.d (jM b.rows)]),(.s 1,It.v (.ptr (.o 1) 0)),(.s 2,It.v (.d (.int .i64 0))),
          (.s 52,It.v (.d (jM b.rows))),(.s 53,It.v (.d (.int .i64 b.rows.length))),(.s 54,It.v (.d (.int .i64 z.1)))]) (fun z=>b.rows.length-z.1) ⟨0,by omega,fun a h=>by omega⟩ ?_ ?_
        ·exact GS.to (by simp[jM])
        ·rintro⟨i3,i31,i32⟩;by_cases hi3:i3<b.rows.length
         ·have ZY:(i3:Int)<b.rows.length:=by omega
          have hg3:b.rows[i3]? = some b.rows[i3]:=aj hi3;have hx3:=hn _ (aJ hi3);have hm3:b.rows[i3]∈b.rows:=aJ hi3;generalize b.rows[i3]=x at hg3 hx3 hm3;simp -dsimp[jM,hg3,ZY,Rw.cs];and_intros;all_goals try first|rfl|omega|exact⟨by kernel_rfl⟩
          refine aI.of (Gz x.nx hx3) [] 0 ?_;by_cases hpw:x.nx.Pairwise (· < ·)
          ·by_cases c0:0<i3
           ·have c0z:(0:Int)<i3:=by omega
            have alz:i3-1<b.rows.length:=by omega
            have hp3:b.rows[i3-1]? = some b.rows[i3-1]:=aj alz;generalize b.rows[i3-1]=y at hp3;have hiw:((i3:Int)-1).toNat=i3-1:=by omega
            by_cases c1:x.id≤y.id
            ·simp -dsimp[hpw,jM,c0,c0z,hp3,hiw,Rw.cs,c1,wrap_i64 (n:=(i3:Int)-1) (by omega) (by omega)];and_intros;all_goals try first|rfl|omega|exact⟨by kernel_rfl⟩
             refine Fin.of ?_;have hc:=DW hh ho (by omega) hlim (fun h=>abX h hp3 hg3 c0 c1);simp[hc]
            ·simp -dsimp[hpw,jM,c0,c0z,hp3,hiw,Rw.cs,c1,wrap_i64 (n:=(i3:Int)-1) (by omega) (by omega),wrap_i64 (n:=(i3:Int)+1) (by omega) (by omega)];and_intros;all_goals try first|rfl|omega|exact⟨by kernel_rfl⟩
             exact⟨⟨i3+1,by omega,fun a ha y' hy=>by
              by_cases e:a=i3
              ·subst e;rw[hg3]at hy;simp only[ah]at hy;subst hy
               exact⟨hpw,fun z _ hz=>by rw[hp3]at hz;simp only[ah]at hz;subst hz;omega⟩
              ·exact i32 a (by omega) y' hy⟩,GS.to (by simp[jM]),by simp;omega⟩
           ·have c0z :¬(0:Int)<i3:=by omega
            simp -dsimp[hpw,jM,c0,c0z,Rw.cs,wrap_i64 (n:=(i3:Int)+1) (by omega) (by omega)];and_intros;all_goals try first|rfl|omega|exact⟨by kernel_rfl⟩
            exact⟨⟨i3+1,by omega,fun a ha y' hy=>by
             by_cases e:a=i3
             ·subst e;rw[hg3]at hy;simp only[ah]at hy;subst hy
              exact⟨hpw,fun z h0 _=>absurd h0 c0⟩
             ·exact i32 a (by omega) y' hy⟩,GS.to (by simp[jM]),by simp;omega⟩
          ·simp -dsimp[hpw,jM,Rw.cs];and_intros;all_goals try first|rfl|omega|exact⟨by kernel_rfl⟩
           refine Fin.of ?_;have hc:=DW hh ho (by omega) hlim (fun h=>hpw (h.2 x hm3));simp[hc]
         ·have ZY :¬(i3:Int)<b.rows.length:=by omega
          have hasc:b.BP:=Zg (fun a x y hx hy=>((i32 (a+1) (by have:=(aB.1 hy).1;omega) y hy).2 x (by omega) hx)) (fun x hx=>by obtain⟨a,ha⟩:=bU hx;exact(i32 a (by have:=(aB.1 ha).1;omega) x ha).1);simp -dsimp[jM,ZY];and_intros;all_goals try first|rfl|omega|exact⟨by kernel_rfl⟩
          refine aI.of (Cc b.rows hb 139 b.ds (fun x=>(decide (1<x.nx.length)&&decide (b.r∈x.nx))) (fun x hx=>Si b x (hn x hx)) (by simp)) [.o 1] 0 ?_;by_cases hcf:∃x∈b.rows,1<x.nx.length∧b.r∈x.nx
          ·have e3:(b.rows.any fun x=>(decide (1<x.nx.length)&&decide (b.r∈x.nx)))=true:=by simpa using hcf
           simp -dsimp[e3,Tb.ds,jM];and_intros;all_goals try first|rfl|omega|exact⟨by kernel_rfl⟩
           refine Fin.of ?_;have hc:=WR hh ho (by omega) hlim hasc hcf;simp[hc]
          ·have e3:(b.rows.any fun x=>(decide (1<x.nx.length)&&decide (b.r∈x.nx)))=false:=by
            rw[pq];intro h;exact hcf (by simpa using h)
           simp -dsimp[e3,Tb.ds,jM];and_intros;all_goals try first|rfl|omega|exact⟨by kernel_rfl⟩
           refine Fin.of ?_;have hc:=Zx hh ho (by omega) hlim hasc hcf;simp[hc]
   ·simp -dsimp[fH a1,uF a2];and_intros;all_goals try first|rfl|omega|exact⟨by kernel_rfl⟩
    refine Fin.of ?_;have hc:=tN (b:=b) (fun h=>a2 h.2.1);simp[hc]
  ·simp -dsimp[uF a1];and_intros;all_goals try first|rfl|omega|exact⟨by kernel_rfl⟩
   refine Fin.of ?_;have hc:=tN (b:=b) (fun h=>a1 h.1);simp[hc]
theorem YV(b:Tb)(hb:b.rows.length≤1000000)(hn:∀x∈b.rows,x.nx.length≤1000000):Contract Tryz.prog 82 [mD b] [] (.d (.int .i64 (chk b))) [] []:=Uu b (dw hb (by decide)) (fun x hx=>dw (hn x hx) (by decide))
theorem KD(ad:Option Addr)(c:Nat):Contract Tryz.prog 84 [.c (.slice ad 0 c)] [] (.d (ints [])) [] []:=by
 refine ay Tryz.func84 rfl (fun E0=>?_);refine iC.sound (g:=.mk) (ow:=[5]) (kp:=(kb 0x15)) ?_;rw[Tryz.ntmps84];cases ad with
 | none=>
   simp -dsimp[ints];and_intros;all_goals try first|rfl|omega|exact⟨by kernel_rfl⟩
   refine Fin.view 2 ?_;simp -dsimp;refine Fin.of ?_;simp[ints]
 | some ad=>
   simp -dsimp[ints];and_intros;all_goals try first|rfl|omega|exact⟨by kernel_rfl⟩
   refine Fin.view 2 ?_;simp -dsimp;refine Fin.of ?_;simp[ints]
theorem abA(l:List Int)(hl:l.length≤1000000):Contract Tryz.prog 84 [.d (ints l)] [] (.d (ints l)) [] []:=by
 by_cases h0:l.length=0
 ·obtain rfl:l = []:=dS.1 h0;refine Contract.cases fun E us ha=>?_
  simp only[bD,aP,Rep,ints]at ha;obtain⟨u,us',rfl,hu,rfl⟩:=ha;rcases hu with⟨_,ad,c,rfl⟩|⟨b,o,c,k,rfl,_⟩
  ·exact⟨[.c (.slice ad 0 c)],by simp[bD,aP],KD ad c⟩
  ·exact⟨[.c (.slice (some ⟨b,o,none⟩) 0 c)],by simp[bD,aP],KD _ c⟩
 ·have dl:dLen 1 (l.map fun x=>[D.int .i64 x]):=zK 1 _ _ fun _=>rfl
  refine ay Tryz.func84 rfl (fun E0=>?_);refine iC.sound (g:=.mk) (ow:=[5]) (kp:=(kb 0x15)) ?_;rw[Tryz.ntmps84];simp -dsimp[ints];and_intros;all_goals try first|rfl|omega|exact dl|exact⟨by kernel_rfl⟩
  refine Fin.view 2 ?_;simp -dsimp;refine Fin.of ?_;simp[ints]
def rowOf(b:Tb)(id:Int):Option Rw:=b.rows.find? fun x=>decide (x.id=id)
def rowT(o:Option Rw):TV:=.qh [IW (o.getD ⟨0,[]⟩),.d (.bool o.isSome)]
theorem ahQ{l:List Rw}{q:Rw→Bool}{i:Nat}{x:Rw}(hx:l[i]? = some x)(hq:q x=true)(h:∀a,a<i→∀y,l[a]? = some y→q y=false):l.find? q=some x:=by
 induction l generalizing i with
 | nil=>simp at hx
 | cons y l ih=>
   cases i with
   | zero=>simp at hx;subst hx;simp[hq]
   | succ i=>have h0:=h 0 (by omega) y rfl;rw[fQ,h0];exact ih (by simpa using hx) fun a ha z hz=>h (a+1) (by omega) z (by simpa using hz)
theorem ahR{l:List Rw}{q:Rw→Bool}(h:∀a,a<l.length→∀y,l[a]? = some y→q y=false):l.find? q=none:=by rw[jV];intro x hx;obtain⟨a,ha⟩:=bU hx;simp[h a (aB.1 ha).1 x ha]
theorem amD(b:Tb)(hb:b.rows.length≤1000000)(hn:∀x∈b.rows,x.nx.length≤1000000)(id:Int):Contract Tryz.prog 143 [mD b,.d (.int .i64 id)] [] (rowT (rowOf b id)) [] []:=by
 refine ay Tryz.func143 rfl (fun E0=>?_);refine iC.sound (g:=.mk) (ow:=[]) (kp:=(kb 0x41eb7)) ?_;rw[Tryz.ntmps143];simp -dsimp[mD,jM];refine dD.of [] (kb 0x41eb7) (ι:={i:Nat // i≤b.rows.length∧∀a,a<i→∀x,b.rows[a]? = some x→decide (x.id=id)=false})
  (fun z=>[(.s 1,It.v (.d (.int .i64 id))),(.o 2,It.box [TV.d (.int .i64 b.r),TV.d (.int .i64 b.sd),TV.d (.int .i64 b.len),TV.d (jM b.rows)]),(.s 2,It.v (.ptr (.o 2) 0)),(.o 4,It.box [TV.d (.int .i64 0),TV.c (Value.slice none 0 0)]),(.s 4,It.v (.ptr (.o 4) 0)),(.s 5,It.v (.d (.bool false))),(.s 9,It.v (.d (jM b.rows))),(.s 10,It.v (.d (.int .i64 b.rows.length))),(.s 11,It.v (.d (.int .i64 z.1)))]) (fun z=>b.rows.length-z.1) ⟨0,by omega,fun a h=>by omega⟩ ?_ ?_
 ·exact GS.to (by simp[jM])
 ·rintro⟨i,i1,i2⟩;by_cases hi:i<b.rows.length
  ·have hiz:(i:Int)<b.rows.length:=by omega
   have hg:b.rows[i]? = some b.rows[i]:=aj hi;have hx:=hn _ (aJ hi);generalize b.rows[i]=x at hg hx;by_cases c1:x.id=id
   ·simp -dsimp[jM,hg,hiz,Rw.cs,eq_true c1];and_intros;all_goals try first|rfl|omega|exact⟨by kernel_rfl⟩
    refine aI.of (abA x.nx hx) [] 0 ?_;simp -dsimp[jM,Rw.cs,c1];and_intros;all_goals try first|rfl|omega|exact⟨by kernel_rfl⟩
    refine Fin.of ?_;simp[rowT,rowOf,ahQ hg (by simpa using c1) i2,IW,c1]
   ·simp -dsimp[jM,hg,hiz,Rw.cs,c1,wrap_i64 (n:=(i:Int)+1) (by omega) (by omega)];and_intros;all_goals try first|rfl|omega|exact⟨by kernel_rfl⟩
    exact⟨⟨i+1,by omega,fun a ha y hy=>by
     by_cases e:a=i
     ·subst e;rw[hg]at hy;simp only[ah]at hy;subst hy;simpa using c1
     ·exact i2 a (by omega) y hy⟩,GS.to (by simp[jM]),by simp;omega⟩
  ·have hiz :¬(i:Int)<b.rows.length:=by omega
   simp -dsimp[jM,hiz];refine Fin.box (.o 4) rfl ?_;simp -dsimp;refine Fin.of ?_;simp[rowT,rowOf,ahR (q:=fun x=>decide (x.id=id)) (fun a ha=>i2 a (by omega)),IW,ints]
def vT(x:Rw)(p:Int):Int:=if x.nx.length=0 then 0 else x.nx.getD (p%x.nx.length).toNat 0
theorem acr(x:Rw)(p:Int)(hp:0≤p∧p≤7)(hx:x.nx.length≤1000000):Contract Tryz.prog 144 [IW x,.d (.int .i64 p)] [] (.d (.int .i64 (vT x p))) [] []:=by
 refine ay Tryz.func144 rfl (fun E0=>?_);refine iC.sound (g:=.mk) (ow:=[]) (kp:=(kb 0x117)) ?_;rw[Tryz.ntmps144];by_cases h0:x.nx.length=0
 ·have h0z:(x.nx.length:Int)=0:=by omega
  simp -dsimp[IW,ints,h0,h0z];and_intros;all_goals try first|rfl|omega|exact⟨by kernel_rfl⟩
  refine Fin.of ?_;simp[vT,h0]
 ·have h0z :¬(x.nx.length:Int)=0:=by omega
  have e:p.tmod x.nx.length=p%x.nx.length:=nG hp.1;have m1:=oK p (b:=(x.nx.length:Int)) (by omega);have m2:=jy p (b:=(x.nx.length:Int)) (by omega);have hlt:(p%x.nx.length).toNat<x.nx.length:=by omega
  have hg:x.nx[(p%x.nx.length).toNat]? = some x.nx[(p%x.nx.length).toNat]:=aj hlt;simp -dsimp[IW,ints,h0,h0z,e,hg];and_intros;all_goals try first|rfl|omega|exact⟨by kernel_rfl⟩
  refine Fin.of ?_;simp[vT,h0,hg]
structure Tb.Sm(b:Tb):Prop where
 rows:b.rows.length≤1000000
 nx:∀x∈b.rows,x.nx.length≤1000000
def xP(b:Tb)(id p:Int):Int:=vT ((rowOf b id).getD ⟨0,[]⟩) p
theorem aeJ{b:Tb}(hb:b.Sm)(id:Int):((rowOf b id).getD ⟨0,[]⟩).nx.length≤1000000:=by
 unfold rowOf;cases h:b.rows.find? (fun x=>decide (x.id=id))with
 | none=>simp
 | some x=>exact hb.nx x (fG h)
def EJ(b:Tb)(p s:Int):Bool:=decide (chk b=0)&&(inB p 0 7&&inB s 0 31)
theorem X7(b:Tb)(hb:b.Sm)(p s:Int):Contract Tryz.prog 142 [mD b,.d (.int .i64 p),.d (.int .i64 s)] [] (.d (.bool (EJ b p s))) [] []:=by
 refine ay Tryz.func142 rfl (fun E0=>?_);refine iC.sound (g:=.mk) (ow:=[]) (kp:=(kb 0x4f)) ?_;rw[Tryz.ntmps142];simp -dsimp[mD];refine aI.of (YV b hb.rows hb.nx) [] 0 ?_;by_cases h0:chk b=0
 ·by_cases h1:0≤p
  ·by_cases h2:p<8
   ·by_cases h3:0≤s
    ·simp -dsimp[mD,h0,h1,h2,h3];and_intros;all_goals try first|rfl|omega|exact⟨by kernel_rfl⟩
     refine Fin.of ?_;simp[EJ,inB,h0,h1,h3];omega
    ·simp -dsimp[mD,h0,h1,h2,h3];and_intros;all_goals try first|rfl|omega|exact⟨by kernel_rfl⟩
     refine Fin.of ?_;simp[EJ,inB,h0,h1,h3]
   ·simp -dsimp[mD,h0,h1,h2];and_intros;all_goals try first|rfl|omega|exact⟨by kernel_rfl⟩
    refine Fin.of ?_;have h2' :¬p≤7:=by omega
    simp[EJ,inB,h0,h1,h2']
  ·simp -dsimp[mD,h0,h1];and_intros;all_goals try first|rfl|omega|exact⟨by kernel_rfl⟩
   refine Fin.of ?_;simp[EJ,inB,h0,h1]
 ·simp -dsimp[mD,h0];and_intros;all_goals try first|rfl|omega|exact⟨by kernel_rfl⟩
  refine Fin.of ?_;simp[EJ,h0]
theorem yH{b:Tb}{p s:Int}:EJ b p s=true↔chk b=0∧(0≤p∧p≤7)∧0≤s∧s≤31:=by simp[EJ,inB]
def wR(b:Tb)(id p:Int):Int:=if EJ b p 0=true then xP b id p else 0
theorem ajB(b:Tb)(hb:b.Sm)(id p:Int):Contract Tryz.prog 88 [mD b,.d (.int .i64 id),.d (.int .i64 p)] [] (.d (.int .i64 (wR b id p))) [] []:=by
 refine ay Tryz.func88 rfl (fun E0=>?_);refine iC.sound (g:=.mk) (ow:=[]) (kp:=(kb 0x10cf)) ?_;rw[Tryz.ntmps88];simp -dsimp[mD];refine aI.of (X7 b hb p 0) [] 0 ?_;rcases (aA (EJ b p 0)).symm with h|h
 ·simp -dsimp[mD,h];and_intros;all_goals try first|rfl|omega|exact⟨by kernel_rfl⟩
  refine Fin.of ?_;simp[wR,h]
 ·simp -dsimp[mD,h];and_intros;all_goals try first|rfl|omega|exact⟨by kernel_rfl⟩
  refine aI.of (amD b hb.rows hb.nx id) [] 0 ?_;simp -dsimp[mD,rowT,IW];and_intros;all_goals try first|rfl|omega|exact⟨by kernel_rfl⟩
  refine aI.of (acr ((rowOf b id).getD ⟨0,[]⟩) p (yH.1 h).2.1 (aeJ hb id)) [] 0 ?_;simp -dsimp[IW];and_intros;all_goals try first|rfl|omega|exact⟨by kernel_rfl⟩
  refine Fin.of ?_;simp[wR,h,xP]
abbrev Mk:=List (Int×BitVec 64)
def mk(m:Mk):List (Int×D):=m.map fun e=>(e.1,bv e.2)
def BI(m:Mk)(k:Int):BitVec 64:=((m.find? fun e=>decide (k=e.1)).map (·.2)).getD 0#64
def Zl:Mk→Int→BitVec 64→Mk
 | [],k,d=>[(k,d)]
 | (k',d')::es,k,d=>if k=k' then(k,d)::es else(k',d')::Zl es k d
theorem Vl(k:Int)(d:BitVec 64):∀m:Mk,JW (mk m) k (bv d)=mk (Zl m k d)
 | []=>rfl
 | (k',d')::es=>by
   have ih:=Vl k d es;simp only[mk,aC,JW,Zl]at ih⊢;split
   ·rfl
   ·simp only[aC,ih]
theorem FQ(k:Int):∀m:Mk,(LD (mk m) k=none∧BI m k=0#64)∨LD (mk m) k=some (.int .u64 (tn (BI m k)))
 | []=>.inl ⟨rfl,rfl⟩
 | (k',d')::es=>by
   have ih:=FQ k es;simp only[mk,aC,LD,BI,fQ]at ih⊢;by_cases e:k=k'
   ·exact .inr (by simp[e,bv])
   ·simp only[if_neg e,decide_eq_false e];exact ih
theorem aoT(X:BitVec 64):orI .u64 0 (tn X)=tn X:=by rw[Go.Tr.u64_or,E8];simp[wu]
def ql(b:Tb)(p s:Int)(m:Mk)(x:Rw):Mk:=if uX x.id b.len=s∧vT x p≠0 then Zl m (vT x p) (BI m (vT x p)|||(1#64<<<(tV x.id b.len).toNat))else m
def coll(b:Tb)(p s:Int):Mk:=b.rows.foldl (ql b p s) []
theorem adp(b:Tb)(hb:b.Sm)(p s:Int)(hp:0≤p∧p≤7):Contract Tryz.prog 145 [mD b,.d (.int .i64 p),.d (.int .i64 s)] [] (.mref 14) [] [(14,.mp (mk (coll b p s)))]:=by
 refine ay Tryz.func145 rfl (fun E0=>?_);refine iC.sound (g:=.mk) (ow:=[]) (kp:=(kb 0x100000f2ecf)) ?_;rw[Tryz.ntmps145];simp -dsimp[mD,jM];refine dD.of [] (kb 0x100000f2ecf) (ι:={i:Nat // i≤b.rows.length})
  (fun z=>[(.s 1,It.v (.d (.int .i64 p))),(.s 2,It.v (.d (.int .i64 s))),
   (.o 3,It.box [TV.d (.int .i64 b.r),TV.d (.int .i64 b.sd),TV.d (.int .i64 b.len),TV.d (jM b.rows)]),(.s 3,It.v (.ptr (.o 3) 0)),(.s 6,It.v (.c (Value.map none))),
   (.o 14,It.mp (mk ((b.rows.take z.1).foldl (ql b p s) []))),(.s 7,It.v (.mref 14)),
   (.s 16,It.v (.d (jM b.rows))),(.s 17,It.v (.d (.int .i64 b.rows.length))),(.s 18,It.v (.d (.int .i64 z.1)))]) (fun z=>b.rows.length-z.1) ⟨0,by omega⟩ ?_ ?_
 ·exact GS.to (by simp[jM,mk])
 ·rintro⟨i,i1⟩;by_cases hi:i<b.rows.length
  ·have hiz:(i:Int)<b.rows.length:=by omega
   have hg:b.rows[i]? = some b.rows[i]:=aj hi;have hx:=hb.nx _ (aJ hi);have hs:(b.rows.take (i+1)).foldl (ql b p s) []=ql b p s ((b.rows.take i).foldl (ql b p s) []) b.rows[i]:=by rw[aT,hg,iF,dZ];rfl
   generalize b.rows[i]=x at hg hx hs;generalize (b.rows.take i).foldl (ql b p s) []=m at hs⊢;have hpl:=plB x.id b.len;have hb1:=hb.rows;obtain⟨pb,hpb⟩:∃n:Nat,tV x.id b.len=n:=⟨(tV x.id b.len).toNat,by omega⟩
   simp -dsimp[jM,hg,hiz,Rw.cs];and_intros;all_goals try first|rfl|omega|exact⟨by kernel_rfl⟩
   refine aI.of (PX x.id b.len) [] 0 ?_;simp -dsimp[Dn];and_intros;all_goals try first|rfl|omega|exact⟨by kernel_rfl⟩
   refine aI.of (acr x p hp hx) [] 0 ?_;by_cases c1:uX x.id b.len=s
   ·by_cases c2:vT x p=0
    ·simp -dsimp[IW,c1,c2,wrap_i64 (n:=(i:Int)+1) (by omega) (by omega)];and_intros;all_goals try first|rfl|omega|exact⟨by kernel_rfl⟩
     exact⟨⟨i+1,by omega⟩,GS.to (by simp[jM,hs,ql,c2]),by simp;omega⟩
    ·rcases FQ (vT x p) m with⟨e1,e2⟩|e1
     ·simp -dsimp[IW,c1,c2,e1,aoT,hpb,wrap_i64 (n:=(i:Int)+1) (by omega) (by omega)];and_intros;all_goals try first|rfl|omega|exact⟨by kernel_rfl⟩
      have hst:JW (mk m) (vT x p) (D.int .u64 (tn (1#64<<<pb)))=mk (ql b p s m x):=by unfold ql;rw[if_pos ⟨c1,c2⟩,←Vl,e2,hpb];simp[bv]
      exact⟨⟨i+1,by omega⟩,GS.to (by simp[jM,hs,hst]),by simp;omega⟩
     ·simp -dsimp[IW,c1,c2,e1,hpb,wrap_i64 (n:=(i:Int)+1) (by omega) (by omega)];and_intros;all_goals try first|rfl|omega|exact⟨by kernel_rfl⟩
      have hst:JW (mk m) (vT x p) (D.int .u64 (tn (BI m (vT x p)|||1#64<<<pb)))=mk (ql b p s m x):=by unfold ql;rw[if_pos ⟨c1,c2⟩,←Vl,hpb];simp[bv]
      exact⟨⟨i+1,by omega⟩,GS.to (by simp[jM,hs,hst]),by simp;omega⟩
   ·simp -dsimp[IW,c1,wrap_i64 (n:=(i:Int)+1) (by omega) (by omega)];and_intros;all_goals try first|rfl|omega|exact⟨by kernel_rfl⟩
    exact⟨⟨i+1,by omega⟩,GS.to (by simp[jM,hs,ql,c1]),by simp;omega⟩
  ·obtain rfl:i=b.rows.length:=by omega
   simp -dsimp;refine Fin.of ?_;simp[coll]
theorem B_{b:Tb}(h:chk b=0):∀x∈b.rows,(1≤x.id∧x.id≤256)∧∀n∈x.nx,1≤n∧n≤99:=by
 intro x hx;have ho :¬∃x∈b.rows,x.out:=fun g=>by
  by_cases hh:b.head
  ·rw[UL hh g]at h;simp at h
  ·rw[tN hh]at h;simp at h
 have h1 :¬x.out:=fun g=>ho ⟨x,hx,g⟩
 constructor
 ·exact Classical.byContradiction fun g=>h1 (.inl g)
 ·intro n hn;exact Classical.byContradiction fun g=>h1 (.inr ⟨n,hn,g⟩)
theorem XD{x:Rw}{p:Int}(h:vT x p≠0):vT x p∈x.nx:=by
 unfold vT at h⊢;split at h
 ·exact absurd rfl h
 ·rename_i h0;rw[if_neg h0];have m1:=oK p (b:=(x.nx.length:Int)) (by omega);have m2:=jy p (b:=(x.nx.length:Int)) (by omega);have hlt:(p%x.nx.length).toNat<x.nx.length:=by omega
  rw[aK,aj hlt];exact aJ hlt
def Bz(b:Tb)(p s n:Int):BitVec 64:=if EJ b p s=true then BI (coll b p s) n else 0#64
theorem alP(b:Tb)(hb:b.Sm)(p s n:Int):Contract Tryz.prog 89 [mD b,.d (.int .i64 p),.d (.int .i64 s),.d (.int .i64 n)] [] (.d (bv (Bz b p s n))) [] []:=by
 refine ay Tryz.func89 rfl (fun E0=>?_);refine iC.sound (g:=.mk) (ow:=[]) (kp:=(kb 0x211f)) ?_;rw[Tryz.ntmps89];simp -dsimp[mD];refine aI.of (X7 b hb p s) [] 0 ?_;rcases (aA (EJ b p s)).symm with h|h
 ·simp -dsimp[mD,h];and_intros;all_goals try first|rfl|omega|exact⟨by kernel_rfl⟩
  refine Fin.of ?_;simp[Bz,h,bv]
 ·simp -dsimp[mD,h];and_intros;all_goals try first|rfl|omega|exact⟨by kernel_rfl⟩
  refine aI.of (adp b hb p s (yH.1 h).2.1) [] 1000 ?_;rcases FQ n (coll b p s)with⟨e1,e2⟩|e1
  ·simp -dsimp[mD,h,e1];and_intros;all_goals try first|rfl|omega|exact⟨by kernel_rfl⟩
   refine Fin.of ?_;simp[Bz,h,bv,e2]
  ·simp -dsimp[mD,h,e1];and_intros;all_goals try first|rfl|omega|exact⟨by kernel_rfl⟩
   refine Fin.of ?_;simp[Bz,h,bv]
def NJ(b:Tb)(p s n:Int):Nat→BitVec 64
 | 0=>0#64
 | k+1=>if Y2 s k b.len=true∧0<n∧xP b (s*b.len+k+1) p=n then NJ b p s n k|||Jl k else NJ b p s n k
def aci(b:Tb)(p s n:Int):BitVec 64:=if EJ b p s=true∧1≤n∧n≤99 then NJ b p s n b.len.toNat else 0#64
theorem aby{b:Tb}(h:chk b=0):eP b.len=true∨b.len=0∧b.rows.length=0:=by
 by_cases hh:b.head
 ·exact hh.2.2
 ·rw[tN hh]at h;simp at h
theorem afA{b:Tb}(h:chk b=0):0≤b.len∧b.len≤64:=by
 rcases aby h with g|g
 ·simp[eP]at g;omega
 ·omega
theorem acQ{B:BitVec 64}:tn B=0↔B=0#64:=by
 constructor
 ·intro h;apply BitVec.eq_of_toNat_eq;simpa[tn]using h
 ·rintro rfl;simp[tn]
end Go.Proofs
