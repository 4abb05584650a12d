/-
  What functions of the program compute, stated as contracts over plain data; the conditions of each stand in its own statement.
-/
import Derived.Test.YtboimfkommpglaaGreatDoorZA15
set_option linter.unusedSimpArgs false
set_option maxRecDepth 100000
set_option maxHeartbeats 4000000
namespace Go.Proofs
open Go Go.Tr
theorem aau(l:List Int)(hl:l.length≤9223372036854775807)(f:FuncId)(q:Int→Bool)(hf:∀x,x∈l→Contract Tryz.prog f [.d (.int .i64 x)] [] (.d (.bool (q x))) [] [])(hok:aZ Tryz.prog f=true):
  Contract Tryz.prog 235 [.d (.sl (l.map (fun n=>[D.int .i64 n]))),.clo f []] [] (.d (.int .i64 (MI q l))) [] []:=by
 refine aj Tryz.func235 rfl (fun E0=>?_);refine cO.sound (g:=.mk) (ow:=[]) (kp:=(fun k=>k==0||k==1||k==4||k==5||k==7||k==8||k==9||k==16)) ?_;rw[Tryz.ntmps235];simp -dsimp;refine aN.of [] (fun k=>k==0||k==1||k==4||k==5||k==7||k==8||k==9||k==16) (ι:={i:Nat // i≤l.length∧∀a,a<i→∀x,l[a]? = some x→q x=false})
  (fun z=>[(Pl.s 0,It.v (.d (.sl (l.map (fun n=>[D.int .i64 n]))))),(Pl.s 1,It.v (.clo f [])),(Pl.s 4,It.v (.d (.int .i64 0))),(Pl.s 7,It.v (.d (.int .i64 l.length))),(Pl.s 8,It.v (.d (.int .i64 z.1)))]) (fun z=>l.length-z.1) ⟨0,by omega,fun a h=>by omega⟩ ?_ ?_
 ·exact GS.to (by simp)
 ·rintro⟨i,i1,i2⟩;by_cases hi:i<l.length
  ·have hiz:(i:Int)<l.length:=by omega
   have hx:l[i]? = some l[i]:=List.getElem?_eq_getElem hi;have hm:l[i]∈l:=List.getElem_mem hi;generalize l[i]=x at hx hm;simp -dsimp[hiz,hx,Rw.cs,wrap_i64 (n:=(i:Int)+1) (by omega) (by omega)];and_intros;all_goals try first|rfl|omega|exact⟨by kernel_rfl⟩
   refine ah.of (hf x hm) [] 0 ?_;rcases (Bool.eq_false_or_eq_true (q x)).symm with h|h
   ·simp -dsimp[h,hok,BF,wrap_i64 (n:=(i:Int)+1) (by omega) (by omega)];and_intros;all_goals try first|rfl|omega|exact⟨by kernel_rfl⟩
    exact⟨⟨i+1,by omega,fun a ha y hy=>by
     by_cases e:a=i
     ·subst e;rw[hx]at hy;simp only[Option.some.injEq]at hy;subst hy;exact h
     ·exact i2 a (by omega) y hy⟩,GS.to (by simp),by simp;omega⟩
   ·simp -dsimp[h,hok,BF];and_intros;all_goals try first|rfl|omega|exact⟨by kernel_rfl⟩
    refine Fin.of ?_;simp[Iq hx h i2]
  ·simp -dsimp[hi];refine Fin.of ?_;simp;exact(Ir fun a ha=>i2 a (by omega)).symm
theorem H6(l:List Int)(hl:l.length≤9223372036854775807)(f:FuncId)(q:Int→Bool)(hf:∀x,x∈l→Contract Tryz.prog f [.d (.int .i64 x)] [] (.d (.bool (q x))) [] [])(hok:aZ Tryz.prog f=true):
  Contract Tryz.prog 175 [.d (.sl (l.map (fun n=>[D.int .i64 n]))),.clo f []] [] (.d (.bool (l.any q))) [] []:=by
 refine aj Tryz.func175 rfl (fun E0=>?_);refine cO.sound (g:=.mk) (ow:=[]) (kp:=(fun k=>k==0||k==1||k==4)) ?_;rw[Tryz.ntmps175];simp -dsimp;refine ah.of (aau l hl f q hf hok) [] 0 ?_;simp -dsimp;refine Fin.of ?_;simp[D6]
theorem Uw(l:List Int)(hl:l.length≤1000000)(f:FuncId)(q:Int→Bool)(hf:∀x,x∈l→Contract Tryz.prog f [.d (.int .i64 x)] [] (.d (.bool (q x))) [] [])(hok:aZ Tryz.prog f=true):
  Contract Tryz.prog 175 [.d (.sl (l.map (fun n=>[D.int .i64 n]))),.clo f []] [] (.d (.bool (l.any q))) [] []:=H6 l (Nat.le_trans hl (by decide)) f q hf hok
theorem aay(l:List Rw)(hl:l.length≤9223372036854775807)(f:FuncId)(q:Rw→Bool)(hf:∀x,x∈l→Contract Tryz.prog f [BF x] [] (.d (.bool (q x))) [] [])(hok:aZ Tryz.prog f=true):
  Contract Tryz.prog 256 [.d (.sl (l.map Rw.cs)),.clo f []] [] (.d (.int .i64 (MI q l))) [] []:=by
 refine aj Tryz.func256 rfl (fun E0=>?_);refine cO.sound (g:=.mk) (ow:=[]) (kp:=(fun k=>k==0||k==1||k==4||k==5||k==7||k==8||k==9||k==16)) ?_;rw[Tryz.ntmps256];simp -dsimp;refine aN.of [] (fun k=>k==0||k==1||k==4||k==5||k==7||k==8||k==9||k==16) (ι:={i:Nat // i≤l.length∧∀a,a<i→∀x,l[a]? = some x→q x=false})
  (fun z=>[(Pl.s 0,It.v (.d (.sl (l.map Rw.cs)))),(Pl.s 1,It.v (.clo f [])),(Pl.s 4,It.v (.d (.int .i64 0))),(Pl.s 7,It.v (.d (.int .i64 l.length))),(Pl.s 8,It.v (.d (.int .i64 z.1)))]) (fun z=>l.length-z.1) ⟨0,by omega,fun a h=>by omega⟩ ?_ ?_
 ·exact GS.to (by simp)
 ·rintro⟨i,i1,i2⟩;by_cases hi:i<l.length
  ·have hiz:(i:Int)<l.length:=by omega
   have hx:l[i]? = some l[i]:=List.getElem?_eq_getElem hi;have hm:l[i]∈l:=List.getElem_mem hi;generalize l[i]=x at hx hm;simp -dsimp[hiz,hx,Rw.cs,wrap_i64 (n:=(i:Int)+1) (by omega) (by omega)];and_intros;all_goals try first|rfl|omega|exact⟨by kernel_rfl⟩
   refine ah.of (hf x hm) [] 0 ?_;rcases (Bool.eq_false_or_eq_true (q x)).symm with h|h
   ·simp -dsimp[h,hok,BF,wrap_i64 (n:=(i:Int)+1) (by omega) (by omega)];and_intros;all_goals try first|rfl|omega|exact⟨by kernel_rfl⟩
    exact⟨⟨i+1,by omega,fun a ha y hy=>by
     by_cases e:a=i
     ·subst e;rw[hx]at hy;simp only[Option.some.injEq]at hy;subst hy;exact h
     ·exact i2 a (by omega) y hy⟩,GS.to (by simp),by simp;omega⟩
   ·simp -dsimp[h,hok,BF];and_intros;all_goals try first|rfl|omega|exact⟨by kernel_rfl⟩
    refine Fin.of ?_;simp[Iq hx h i2]
  ·simp -dsimp[hi];refine Fin.of ?_;simp;exact(Ir fun a ha=>i2 a (by omega)).symm
theorem yH(l:List Rw)(hl:l.length≤9223372036854775807)(f:FuncId)(q:Rw→Bool)(hf:∀x,x∈l→Contract Tryz.prog f [BF x] [] (.d (.bool (q x))) [] [])(hok:aZ Tryz.prog f=true):
  Contract Tryz.prog 230 [.d (.sl (l.map Rw.cs)),.clo f []] [] (.d (.bool (l.any q))) [] []:=by
 refine aj Tryz.func230 rfl (fun E0=>?_);refine cO.sound (g:=.mk) (ow:=[]) (kp:=(fun k=>k==0||k==1||k==4)) ?_;rw[Tryz.ntmps230];simp -dsimp;refine ah.of (aay l hl f q hf hok) [] 0 ?_;simp -dsimp;refine Fin.of ?_;simp[D6]
theorem aaz(l:List Rw)(hl:l.length≤9223372036854775807)(f:FuncId)(ds:List D)(q:Rw→Bool)(hf:∀x,x∈l→Contract Tryz.prog f [BF x,.ptr (.x 0) 0] [.box (ds.map .d)] (.d (.bool (q x))) [.box (ds.map .d)] [])(hok:aZ Tryz.prog f=true):
  Contract Tryz.prog 256 [.d (.sl (l.map Rw.cs)),.clo f [.ptr (.x 0) 0]] [.box (ds.map .d)] (.d (.int .i64 (MI q l))) [.box (ds.map .d)] []:=by
 refine aj Tryz.func256 rfl (fun E0=>?_);refine cO.sound (g:=.mk) (ow:=[]) (kp:=(fun k=>k==0||k==1||k==4||k==5||k==7||k==8||k==9||k==16)) ?_;rw[Tryz.ntmps256];simp -dsimp;refine aN.of [] (fun k=>k==0||k==1||k==4||k==5||k==7||k==8||k==9||k==16) (ι:={i:Nat // i≤l.length∧∀a,a<i→∀x,l[a]? = some x→q x=false})
  (fun z=>[(Pl.s 0,It.v (.d (.sl (l.map Rw.cs)))),(Pl.s 1,It.v (.clo f [TV.ptr (Pl.x 0) 0])),(Pl.x 0,It.box (List.map TV.d ds)),(Pl.s 4,It.v (.d (.int .i64 0))),(Pl.s 7,It.v (.d (.int .i64 l.length))),(Pl.s 8,It.v (.d (.int .i64 z.1)))]) (fun z=>l.length-z.1) ⟨0,by omega,fun a h=>by omega⟩ ?_ ?_
 ·exact GS.to (by simp)
 ·rintro⟨i,i1,i2⟩;by_cases hi:i<l.length
  ·have hiz:(i:Int)<l.length:=by omega
   have hx:l[i]? = some l[i]:=List.getElem?_eq_getElem hi;have hm:l[i]∈l:=List.getElem_mem hi;generalize l[i]=x at hx hm;simp -dsimp[hiz,hx,Rw.cs,wrap_i64 (n:=(i:Int)+1) (by omega) (by omega)];and_intros;all_goals try first|rfl|omega|exact⟨by kernel_rfl⟩
   refine ah.of (hf x hm) [.x 0] 0 ?_;rcases (Bool.eq_false_or_eq_true (q x)).symm with h|h
   ·simp -dsimp[h,hok,BF,wrap_i64 (n:=(i:Int)+1) (by omega) (by omega)];and_intros;all_goals try first|rfl|omega|exact⟨by kernel_rfl⟩
    exact⟨⟨i+1,by omega,fun a ha y hy=>by
     by_cases e:a=i
     ·subst e;rw[hx]at hy;simp only[Option.some.injEq]at hy;subst hy;exact h
     ·exact i2 a (by omega) y hy⟩,GS.to (by simp),by simp;omega⟩
   ·simp -dsimp[h,hok,BF];and_intros;all_goals try first|rfl|omega|exact⟨by kernel_rfl⟩
    refine Fin.of ?_;simp[Iq hx h i2]
  ·simp -dsimp[hi];refine Fin.of ?_;simp;exact(Ir fun a ha=>i2 a (by omega)).symm
theorem H8(l:List Rw)(hl:l.length≤9223372036854775807)(f:FuncId)(ds:List D)(q:Rw→Bool)(hf:∀x,x∈l→Contract Tryz.prog f [BF x,.ptr (.x 0) 0] [.box (ds.map .d)] (.d (.bool (q x))) [.box (ds.map .d)] [])(hok:aZ Tryz.prog f=true):
  Contract Tryz.prog 230 [.d (.sl (l.map Rw.cs)),.clo f [.ptr (.x 0) 0]] [.box (ds.map .d)] (.d (.bool (l.any q))) [.box (ds.map .d)] []:=by
 refine aj Tryz.func230 rfl (fun E0=>?_);refine cO.sound (g:=.mk) (ow:=[]) (kp:=(fun k=>k==0||k==1||k==4)) ?_;rw[Tryz.ntmps230];simp -dsimp;refine ah.of (aaz l hl f ds q hf hok) [.x 0] 0 ?_;simp -dsimp;refine Fin.of ?_;simp[D6]
theorem ahh(n lo hi:Int):inB n lo hi=decide (DJ n lo hi):=by
 by_cases h:DJ n lo hi
 ·rw[b_ h];simp[h]
 ·rw[oH h];simp[h]
theorem aaL(n:Int):Contract Tryz.prog 257 [.d (.int .i64 n)] [] (.d (.bool (!decide (DJ n 1 99)))) [] []:=by
 refine aj Tryz.func257 rfl (fun E0=>?_);refine cO.sound (g:=.mk) (ow:=[]) (kp:=(fun k=>k==0||k==2)) ?_;rw[Tryz.ntmps257];simp -dsimp;refine ah.of (Iu n 1 99) [] 0 ?_;simp -dsimp;and_intros;all_goals try first|rfl|omega|exact⟨by kernel_rfl⟩
 refine Fin.of ?_;simp[ahh]
theorem Tt(x:Rw)(hx:x.nx.length≤9223372036854775807):Contract Tryz.prog 231 [BF x] [] (.d (.bool (decide x.out))) [] []:=by
 refine aj Tryz.func231 rfl (fun E0=>?_);refine cO.sound (g:=.mk) (ow:=[]) (kp:=(fun k=>k==0||k==1||k==2)) ?_;rw[Tryz.ntmps231];simp -dsimp[BF];refine ah.of (Iu x.id 1 256) [] 0 ?_;by_cases c1:DJ x.id 1 256
 ·simp -dsimp[b_ c1];and_intros;all_goals try first|rfl|omega|exact⟨by kernel_rfl⟩
  refine ah.of (H6 x.nx hx 257 (fun n=>!decide (DJ n 1 99)) (fun n _=>aaL n) (by simp)) [] 0 ?_;simp -dsimp[ints];and_intros;all_goals try first|rfl|omega|exact⟨by kernel_rfl⟩
  refine Fin.of ?_;have:(x.nx.any fun n=>!decide (DJ n 1 99))=decide x.out:=by
   refine Bool.eq_iff_iff.2 ?_;simp only[List.any_eq_true,Bool.not_eq_true',decide_eq_false_iff_not,decide_eq_true_eq,Rw.out,c1,not_true_eq_false,false_or]
  simp[this]
 ·simp -dsimp[oH c1];and_intros;all_goals try first|rfl|omega|exact⟨by kernel_rfl⟩
  refine Fin.of ?_;have:x.out:=.inl c1;simp[this]
theorem XY(x:Rw):Contract Tryz.prog 232 [BF x] [] (.d (.bool (decide (24<x.nx.length)))) [] []:=by
 refine aj Tryz.func232 rfl (fun E0=>?_);refine cO.sound (g:=.mk) (ow:=[]) (kp:=(fun k=>k==0||k==1||k==2)) ?_;rw[Tryz.ntmps232];simp -dsimp[BF,ints];and_intros;all_goals try first|rfl|omega|exact⟨by kernel_rfl⟩
 refine Fin.of ?_;simp;omega
def Tb.ds(b:Tb):List D:=[.int .i64 b.r,.int .i64 b.sd,.int .i64 b.len,bV b.rows]
theorem U_(b:Tb)(x:Rw)(hx:x.nx.length≤9223372036854775807):Contract Tryz.prog 234 [BF x,.ptr (.x 0) 0] [.box (b.ds.map .d)] (.d (.bool ((decide (1<x.nx.length)&&decide (b.r∈x.nx))))) [.box (b.ds.map .d)] []:=by
 refine aj Tryz.func234 rfl (fun E0=>?_);refine cO.sound (g:=.mk) (ow:=[]) (kp:=(fun k=>k==0||k==1||k==2||k==3)) ?_;rw[Tryz.ntmps234];by_cases c1:1<x.nx.length
 ·have yw:(1:Int)<x.nx.length:=by omega
  simp -dsimp[BF,ints,c1,yw,Tb.ds];refine ah.of (Ph x.nx hx b.r) [] 0 ?_;simp -dsimp[ints,c1,yw,Tb.ds];and_intros;all_goals try first|rfl|omega|exact⟨by kernel_rfl⟩
  refine Fin.of ?_;simp[c1,mF,Tb.ds]
 ·have yw :¬(1:Int)<x.nx.length:=by omega
  simp -dsimp[BF,ints,c1,yw,Tb.ds];and_intros;all_goals try first|rfl|omega|exact⟨by kernel_rfl⟩
  refine Fin.of ?_;simp[c1,Tb.ds]
theorem Lm(l:List Int)(hl:l.length≤9223372036854775807):Contract Tryz.prog 233 [.d (ints l)] [] (.d (.bool (decide (l.Pairwise (· < ·))))) [] []:=by
 refine aj Tryz.func233 rfl (fun E0=>?_);refine cO.sound (g:=.mk) (ow:=[]) (kp:=(fun k=>k==0||k==2||k==3||k==5||k==6||k==7||k==22)) ?_;rw[Tryz.ntmps233];simp -dsimp[ints];refine aN.of [] (fun k=>k==0||k==2||k==3||k==5||k==6||k==7||k==22) (ι:={i:Nat // i≤l.length∧∀a,a<i→∀x y,0<a→l[a-1]? = some x→l[a]? = some y→x<y})
  (fun z=>[(Pl.s 0,It.v (.d (ints l))),(Pl.s 2,It.v (.d (.bool false))),(Pl.s 5,It.v (.d (.int .i64 l.length))),(Pl.s 6,It.v (.d (.int .i64 z.1)))]) (fun z=>l.length-z.1) ⟨0,by omega,fun a h=>by omega⟩ ?_ ?_
 ·exact GS.to (by simp[ints])
 ·rintro⟨i,i1,i2⟩;by_cases hi:i<l.length
  ·have hiz:(i:Int)<l.length:=by omega
   have hg:l[i]? = some l[i]:=List.getElem?_eq_getElem hi;by_cases c0:0<i
   ·have Jr:(0:Int)<i:=by omega
    have hi0:i-1<l.length:=by omega
    have hp:l[i-1]? = some l[i-1]:=List.getElem?_eq_getElem hi0;have hw:((i:Int)-1).toNat=i-1:=by omega
    have hlt:∀u v,l[i-1]? = some u→l[i]? = some v→(l.Pairwise (· < ·))→u<v:=fun u v hu hv hpw=>by
     obtain⟨h1,h2⟩:=List.getElem?_eq_some_iff.1 hu;obtain⟨h3,h4⟩:=List.getElem?_eq_some_iff.1 hv;have:=List.pairwise_iff_getElem.1 hpw (i-1) i h1 h3 (by omega);rw[h2,h4]at this
     exact this
    generalize l[i-1]=u at hp;generalize l[i]=v at hg;by_cases c1:v≤u
    ·simp -dsimp[ints,hiz,hg,c0,Jr,hp,hw,c1,wrap_i64 (n:=(i:Int)-1) (by omega) (by omega)];and_intros;all_goals try first|rfl|omega|exact⟨by kernel_rfl⟩
     refine Fin.of ?_;have :¬l.Pairwise (· < ·):=fun h=>by have:=hlt u v hp hg h;omega
     simp[this]
    ·simp -dsimp[ints,hiz,hg,c0,Jr,hp,hw,c1,wrap_i64 (n:=(i:Int)-1) (by omega) (by omega),wrap_i64 (n:=(i:Int)+1) (by omega) (by omega)];and_intros;all_goals try first|rfl|omega|exact⟨by kernel_rfl⟩
     exact⟨⟨i+1,by omega,fun a ha x y h0 hx hy=>by
      by_cases e:a=i
      ·subst e;rw[hp]at hx;rw[hg]at hy;simp only[Option.some.injEq]at hx hy;omega
      ·exact i2 a (by omega) x y h0 hx hy⟩,GS.to (by simp[ints]),by simp;omega⟩
   ·have Jr :¬(0:Int)<i:=by omega
    simp -dsimp[ints,hiz,c0,Jr,wrap_i64 (n:=(i:Int)+1) (by omega) (by omega)];and_intros;all_goals try first|rfl|omega|exact⟨by kernel_rfl⟩
    exact⟨⟨i+1,by omega,fun a ha x y h0 hx hy=>by
     by_cases e:a=i
     ·omega
     ·exact i2 a (by omega) x y h0 hx hy⟩,GS.to (by simp[ints]),by simp;omega⟩
  ·have hiz :¬(i:Int)<l.length:=by omega
   simp -dsimp[ints,hiz];refine Fin.of ?_;have:l.Pairwise (· < ·):=Cc fun a x y hx hy=>i2 (a+1) (by have:=(List.getElem?_eq_some_iff.1 hy).1;omega) x y (by omega) (by simpa using hx) hy
   simp[this]
theorem V3(b:Tb)(hb:b.rows.length≤9223372036854775807)(hn:∀x∈b.rows,x.nx.length≤9223372036854775807):Contract Tryz.prog 173 [bZ b] [] (.d (.int .i64 (chk b))) [] []:=by
 refine aj Tryz.func173 rfl (fun E0=>?_);refine cO.sound (g:=.mk) (ow:=[]) (kp:=(fun k=>k==0||k==1||k==2||k==3||k==4||k==5||k==15||k==41||k==52||k==53||k==54||k==55||k==78||k==83)) ?_;rw[Tryz.ntmps173];by_cases a4:b.len=0
 ·by_cases a5:b.rows.length=0
  ·have a5z:(b.rows.length:Int)=0:=by omega
   simp -dsimp[bZ,bV,eq_true a4,a5,a5z];and_intros;all_goals try first|rfl|omega|exact⟨by kernel_rfl⟩
   refine ah.of (Iu b.r 1 99) [] 0 ?_;by_cases a1:DJ b.r 1 99
   ·simp -dsimp[b_ a1];refine ah.of (Iu b.sd 0 7) [] 0 ?_;by_cases a2:DJ b.sd 0 7
    ·simp -dsimp[b_ a1,b_ a2];refine ah.of (qH b.len) [] 0 ?_;have a3:aG b.len=false:=by rw[a4];rfl
     have hh:b.head:=⟨a1,a2,.inr ⟨a4,a5⟩⟩
     clear a5 a5z;simp -dsimp[b_ a1,b_ a2,a3];and_intros;all_goals try first|rfl|omega|exact⟨by kernel_rfl⟩
     refine ah.of (yH b.rows hb 231 (fun x=>decide x.out) (fun x hx=>Tt x (hn x hx)) (by simp)) [] 0 ?_;by_cases ho:∃x∈b.rows,x.out
     ·have e1:(b.rows.any fun x=>decide x.out)=true:=by simpa using ho
      simp -dsimp[b_ a1,b_ a2,a3,e1,bV];and_intros;all_goals try first|rfl|omega|exact⟨by kernel_rfl⟩
      refine Fin.of ?_;have hc:=Gg hh ho;simp[hc]
     ·have e1:(b.rows.any fun x=>decide x.out)=false:=by simpa using ho
      by_cases c3:256<b.rows.length
      ·have Ws:(256:Int)<b.rows.length:=by omega
       simp -dsimp[b_ a1,b_ a2,a3,e1,c3,Ws,bV];and_intros;all_goals try first|rfl|omega|exact⟨by kernel_rfl⟩
       refine Fin.of ?_;have hc:=Qc hh ho c3;simp[hc]
      ·have Ws :¬(256:Int)<b.rows.length:=by omega
       simp -dsimp[b_ a1,b_ a2,a3,e1,c3,Ws,bV];and_intros;all_goals try first|rfl|omega|exact⟨by kernel_rfl⟩
       refine ah.of (yH b.rows hb 232 (fun x=>decide (24<x.nx.length)) (fun x hx=>XY x) (by simp)) [] 0 ?_;by_cases hlim:∃x∈b.rows,24<x.nx.length
       ·have e2:(b.rows.any fun x=>decide (24<x.nx.length))=true:=by simpa using hlim
        simp -dsimp[b_ a1,b_ a2,a3,e1,c3,Ws,e2,bV];and_intros;all_goals try first|rfl|omega|exact⟨by kernel_rfl⟩
        refine Fin.of ?_;have hc:=Qd hh ho c3 hlim;simp[hc]
       ·have e2:(b.rows.any fun x=>decide (24<x.nx.length))=false:=by simpa using hlim
        simp -dsimp[b_ a1,b_ a2,a3,e1,c3,Ws,e2,bV];and_intros;all_goals try first|rfl|omega|exact⟨by kernel_rfl⟩
        as_aux_lemma=>
        refine aN.of [] (fun k=>k==0||k==1||k==2||k==3||k==4||k==5||k==15||k==41||k==52||k==53||k==54||k==55||k==78||k==83) (ι:={i:Nat // i≤b.rows.length∧∀a,a<i→∀x,b.rows[a]? = some x→x.nx.Pairwise (· < ·)∧∀y,0<a→b.rows[a-1]? = some y→y.id<x.id})
         (fun z=>[(Pl.o 1,It.box [TV.d (.int .i64 b.r),TV.d (.int .i64 b.sd),TV.d (.int .i64 b.len),TV.d (bV b.rows)]),(Pl.s 1,It.v (.ptr (Pl.o 1) 0)),(Pl.s 2,It.v (.d (.int .i64 0))),
          (Pl.s 52,It.v (.d (bV b.rows))),(Pl.s 53,It.v (.d (.int .i64 b.rows.length))),(Pl.s 54,It.v (.d (.int .i64 z.1)))]) (fun z=>b.rows.length-z.1) ⟨0,by omega,fun a h=>by omega⟩ ?_ ?_
        ·exact GS.to (by simp[bV])
        ·rintro⟨i3,i31,i32⟩;by_cases hi3:i3<b.rows.length
         ·have Gs:(i3:Int)<b.rows.length:=by omega
          have hg3:b.rows[i3]? = some b.rows[i3]:=List.getElem?_eq_getElem hi3;have hx3:=hn _ (List.getElem_mem hi3);have kM:b.rows[i3]∈b.rows:=List.getElem_mem hi3;generalize b.rows[i3]=x at hg3 hx3 kM;simp -dsimp[bV,hg3,Gs,Rw.cs];and_intros;all_goals try first|rfl|omega|exact⟨by kernel_rfl⟩
          refine ah.of (Lm x.nx hx3) [] 0 ?_;by_cases hpw:x.nx.Pairwise (· < ·)
          ·by_cases c0:0<i3
           ·have Jr:(0:Int)<i3:=by omega
            have aan:i3-1<b.rows.length:=by omega
            have hp3:b.rows[i3-1]? = some b.rows[i3-1]:=List.getElem?_eq_getElem aan;generalize b.rows[i3-1]=y at hp3;have hiw:((i3:Int)-1).toNat=i3-1:=by omega
            by_cases c1:x.id≤y.id
            ·simp -dsimp[hpw,bV,c0,Jr,hp3,hiw,Rw.cs,c1,wrap_i64 (n:=(i3:Int)-1) (by omega) (by omega)];and_intros;all_goals try first|rfl|omega|exact⟨by kernel_rfl⟩
             refine Fin.of ?_;have hc:=uM hh ho (by omega) hlim (fun h=>Qo h hp3 hg3 c0 c1);simp[hc]
            ·simp -dsimp[hpw,bV,c0,Jr,hp3,hiw,Rw.cs,c1,wrap_i64 (n:=(i3:Int)-1) (by omega) (by omega),wrap_i64 (n:=(i3:Int)+1) (by omega) (by omega)];and_intros;all_goals try first|rfl|omega|exact⟨by kernel_rfl⟩
             exact⟨⟨i3+1,by omega,fun a ha y' hy=>by
              by_cases e:a=i3
              ·subst e;rw[hg3]at hy;simp only[Option.some.injEq]at hy;subst hy
               exact⟨hpw,fun z _ hz=>by rw[hp3]at hz;simp only[Option.some.injEq]at hz;subst hz;omega⟩
              ·exact i32 a (by omega) y' hy⟩,GS.to (by simp[bV]),by simp;omega⟩
           ·have Jr :¬(0:Int)<i3:=by omega
            simp -dsimp[hpw,bV,c0,Jr,Rw.cs,wrap_i64 (n:=(i3:Int)+1) (by omega) (by omega)];and_intros;all_goals try first|rfl|omega|exact⟨by kernel_rfl⟩
            exact⟨⟨i3+1,by omega,fun a ha y' hy=>by
             by_cases e:a=i3
             ·subst e;rw[hg3]at hy;simp only[Option.some.injEq]at hy;subst hy
              exact⟨hpw,fun z h0 _=>absurd h0 c0⟩
             ·exact i32 a (by omega) y' hy⟩,GS.to (by simp[bV]),by simp;omega⟩
          ·simp -dsimp[hpw,bV,Rw.cs];and_intros;all_goals try first|rfl|omega|exact⟨by kernel_rfl⟩
           refine Fin.of ?_;have hc:=uM hh ho (by omega) hlim (fun h=>hpw (h.2 x kM));simp[hc]
         ·have Gs :¬(i3:Int)<b.rows.length:=by omega
          have hasc:b.xX:=QJ (fun a x y hx hy=>((i32 (a+1) (by have:=(List.getElem?_eq_some_iff.1 hy).1;omega) y hy).2 x (by omega) hx)) (fun x hx=>by obtain⟨a,ha⟩:=List.getElem?_of_mem hx;exact(i32 a (by have:=(List.getElem?_eq_some_iff.1 ha).1;omega) x ha).1);simp -dsimp[bV,Gs];and_intros;all_goals try first|rfl|omega|exact⟨by kernel_rfl⟩
          refine ah.of (H8 b.rows hb 234 b.ds (fun x=>(decide (1<x.nx.length)&&decide (b.r∈x.nx))) (fun x hx=>U_ b x (hn x hx)) (by simp)) [.o 1] 0 ?_;by_cases hcf:∃x∈b.rows,1<x.nx.length∧b.r∈x.nx
          ·have e3:(b.rows.any fun x=>(decide (1<x.nx.length)&&decide (b.r∈x.nx)))=true:=by simpa using hcf
           simp -dsimp[e3,Tb.ds,bV];and_intros;all_goals try first|rfl|omega|exact⟨by kernel_rfl⟩
           refine Fin.of ?_;have hc:=Lu hh ho (by omega) hlim hasc hcf;simp[hc]
          ·have e3:(b.rows.any fun x=>(decide (1<x.nx.length)&&decide (b.r∈x.nx)))=false:=by
            rw[Bool.eq_false_iff];intro h;exact hcf (by simpa using h)
           simp -dsimp[e3,Tb.ds,bV];and_intros;all_goals try first|rfl|omega|exact⟨by kernel_rfl⟩
           refine Fin.of ?_;have hc:=Gf hh ho (by omega) hlim hasc hcf;simp[hc]
    ·simp -dsimp[b_ a1,oH a2];and_intros;all_goals try first|rfl|omega|exact⟨by kernel_rfl⟩
     refine Fin.of ?_;have hc:=qX (b:=b) (fun h=>a2 h.2.1);simp[hc]
   ·simp -dsimp[oH a1];and_intros;all_goals try first|rfl|omega|exact⟨by kernel_rfl⟩
    refine Fin.of ?_;have hc:=qX (b:=b) (fun h=>a1 h.1);simp[hc]
  ·have a5z :¬(b.rows.length:Int)=0:=by omega
   simp -dsimp[bZ,bV,eq_true a4,a5,a5z];and_intros;all_goals try first|rfl|omega|exact⟨by kernel_rfl⟩
   refine ah.of (Iu b.r 1 99) [] 0 ?_;by_cases a1:DJ b.r 1 99
   ·simp -dsimp[b_ a1];refine ah.of (Iu b.sd 0 7) [] 0 ?_;by_cases a2:DJ b.sd 0 7
    ·simp -dsimp[b_ a1,b_ a2];refine ah.of (qH b.len) [] 0 ?_;have a3:aG b.len=false:=by rw[a4];rfl
     simp -dsimp[b_ a1,b_ a2,a3];and_intros;all_goals try first|rfl|omega|exact⟨by kernel_rfl⟩
     refine Fin.of ?_;have hc:=qX (b:=b) (fun h=>h.2.2.elim (fun h=>by rw[a3]at h;simp at h) fun h=>a5 h.2);simp[hc]
    ·simp -dsimp[b_ a1,oH a2];and_intros;all_goals try first|rfl|omega|exact⟨by kernel_rfl⟩
     refine Fin.of ?_;have hc:=qX (b:=b) (fun h=>a2 h.2.1);simp[hc]
   ·simp -dsimp[oH a1];and_intros;all_goals try first|rfl|omega|exact⟨by kernel_rfl⟩
    refine Fin.of ?_;have hc:=qX (b:=b) (fun h=>a1 h.1);simp[hc]
 ·simp -dsimp[bZ,bV,a4];and_intros;all_goals try first|rfl|omega|exact⟨by kernel_rfl⟩
  refine ah.of (Iu b.r 1 99) [] 0 ?_;by_cases a1:DJ b.r 1 99
  ·simp -dsimp[b_ a1];refine ah.of (Iu b.sd 0 7) [] 0 ?_;by_cases a2:DJ b.sd 0 7
   ·simp -dsimp[b_ a1,b_ a2];refine ah.of (qH b.len) [] 0 ?_;rcases (Bool.eq_false_or_eq_true (aG b.len)).symm with a3|a3
    ·simp -dsimp[b_ a1,b_ a2,a3];and_intros;all_goals try first|rfl|omega|exact⟨by kernel_rfl⟩
     refine Fin.of ?_;have hc:=qX (b:=b) (fun h=>h.2.2.elim (fun h=>by rw[a3]at h;simp at h) fun h=>a4 h.1);simp[hc]
    ·have hh:b.head:=⟨a1,a2,.inl a3⟩
     simp -dsimp[b_ a1,b_ a2,a3];and_intros;all_goals try first|rfl|omega|exact⟨by kernel_rfl⟩
     refine ah.of (yH b.rows hb 231 (fun x=>decide x.out) (fun x hx=>Tt x (hn x hx)) (by simp)) [] 0 ?_;by_cases ho:∃x∈b.rows,x.out
     ·have e1:(b.rows.any fun x=>decide x.out)=true:=by simpa using ho
      simp -dsimp[b_ a1,b_ a2,a3,e1,bV];and_intros;all_goals try first|rfl|omega|exact⟨by kernel_rfl⟩
      refine Fin.of ?_;have hc:=Gg hh ho;simp[hc]
     ·have e1:(b.rows.any fun x=>decide x.out)=false:=by simpa using ho
      by_cases c3:256<b.rows.length
      ·have Ws:(256:Int)<b.rows.length:=by omega
       simp -dsimp[b_ a1,b_ a2,a3,e1,c3,Ws,bV];and_intros;all_goals try first|rfl|omega|exact⟨by kernel_rfl⟩
       refine Fin.of ?_;have hc:=Qc hh ho c3;simp[hc]
      ·have Ws :¬(256:Int)<b.rows.length:=by omega
       simp -dsimp[b_ a1,b_ a2,a3,e1,c3,Ws,bV];and_intros;all_goals try first|rfl|omega|exact⟨by kernel_rfl⟩
       refine ah.of (yH b.rows hb 232 (fun x=>decide (24<x.nx.length)) (fun x hx=>XY x) (by simp)) [] 0 ?_;by_cases hlim:∃x∈b.rows,24<x.nx.length
       ·have e2:(b.rows.any fun x=>decide (24<x.nx.length))=true:=by simpa using hlim
        simp -dsimp[b_ a1,b_ a2,a3,e1,c3,Ws,e2,bV];and_intros;all_goals try first|rfl|omega|exact⟨by kernel_rfl⟩
        refine Fin.of ?_;have hc:=Qd hh ho c3 hlim;simp[hc]
       ·have e2:(b.rows.any fun x=>decide (24<x.nx.length))=false:=by simpa using hlim
        simp -dsimp[b_ a1,b_ a2,a3,e1,c3,Ws,e2,bV];and_intros;all_goals try first|rfl|omega|exact⟨by kernel_rfl⟩
        as_aux_lemma=>
        refine aN.of [] (fun k=>k==0||k==1||k==2||k==3||k==4||k==5||k==15||k==41||k==52||k==53||k==54||k==55||k==78||k==83) (ι:={i:Nat // i≤b.rows.length∧∀a,a<i→∀x,b.rows[a]? = some x→x.nx.Pairwise (· < ·)∧∀y,0<a→b.rows[a-1]? = some y→y.id<x.id})
         (fun z=>[(Pl.o 1,It.box [TV.d (.int .i64 b.r),TV.d (.int .i64 b.sd),TV.d (.int .i64 b.len),TV.d (bV b.rows)]),(Pl.s 1,It.v (.ptr (Pl.o 1) 0)),(Pl.s 2,It.v (.d (.int .i64 0))),
          (Pl.s 52,It.v (.d (bV b.rows))),(Pl.s 53,It.v (.d (.int .i64 b.rows.length))),(Pl.s 54,It.v (.d (.int .i64 z.1)))]) (fun z=>b.rows.length-z.1) ⟨0,by omega,fun a h=>by omega⟩ ?_ ?_
        ·exact GS.to (by simp[bV])
        ·rintro⟨i3,i31,i32⟩;by_cases hi3:i3<b.rows.length
         ·have Gs:(i3:Int)<b.rows.length:=by omega
          have hg3:b.rows[i3]? = some b.rows[i3]:=List.getElem?_eq_getElem hi3;have hx3:=hn _ (List.getElem_mem hi3);have kM:b.rows[i3]∈b.rows:=List.getElem_mem hi3;generalize b.rows[i3]=x at hg3 hx3 kM;simp -dsimp[bV,hg3,Gs,Rw.cs];and_intros;all_goals try first|rfl|omega|exact⟨by kernel_rfl⟩
          refine ah.of (Lm x.nx hx3) [] 0 ?_;by_cases hpw:x.nx.Pairwise (· < ·)
          ·by_cases c0:0<i3
           ·have Jr:(0:Int)<i3:=by omega
            have aan:i3-1<b.rows.length:=by omega
            have hp3:b.rows[i3-1]? = some b.rows[i3-1]:=List.getElem?_eq_getElem aan;generalize b.rows[i3-1]=y at hp3;have hiw:((i3:Int)-1).toNat=i3-1:=by omega
            by_cases c1:x.id≤y.id
            ·simp -dsimp[hpw,bV,c0,Jr,hp3,hiw,Rw.cs,c1,wrap_i64 (n:=(i3:Int)-1) (by omega) (by omega)];and_intros;all_goals try first|rfl|omega|exact⟨by kernel_rfl⟩
             refine Fin.of ?_;have hc:=uM hh ho (by omega) hlim (fun h=>Qo h hp3 hg3 c0 c1);simp[hc]
            ·simp -dsimp[hpw,bV,c0,Jr,hp3,hiw,Rw.cs,c1,wrap_i64 (n:=(i3:Int)-1) (by omega) (by omega),wrap_i64 (n:=(i3:Int)+1) (by omega) (by omega)];and_intros;all_goals try first|rfl|omega|exact⟨by kernel_rfl⟩
             exact⟨⟨i3+1,by omega,fun a ha y' hy=>by
              by_cases e:a=i3
              ·subst e;rw[hg3]at hy;simp only[Option.some.injEq]at hy;subst hy
               exact⟨hpw,fun z _ hz=>by rw[hp3]at hz;simp only[Option.some.injEq]at hz;subst hz;omega⟩
              ·exact i32 a (by omega) y' hy⟩,GS.to (by simp[bV]),by simp;omega⟩
           ·have Jr :¬(0:Int)<i3:=by omega
            simp -dsimp[hpw,bV,c0,Jr,Rw.cs,wrap_i64 (n:=(i3:Int)+1) (by omega) (by omega)];and_intros;all_goals try first|rfl|omega|exact⟨by kernel_rfl⟩
            exact⟨⟨i3+1,by omega,fun a ha y' hy=>by
             by_cases e:a=i3
             ·subst e;rw[hg3]at hy;simp only[Option.some.injEq]at hy;subst hy
              exact⟨hpw,fun z h0 _=>absurd h0 c0⟩
             ·exact i32 a (by omega) y' hy⟩,GS.to (by simp[bV]),by simp;omega⟩
          ·simp -dsimp[hpw,bV,Rw.cs];and_intros;all_goals try first|rfl|omega|exact⟨by kernel_rfl⟩
           refine Fin.of ?_;have hc:=uM hh ho (by omega) hlim (fun h=>hpw (h.2 x kM));simp[hc]
         ·have Gs :¬(i3:Int)<b.rows.length:=by omega
          have hasc:b.xX:=QJ (fun a x y hx hy=>((i32 (a+1) (by have:=(List.getElem?_eq_some_iff.1 hy).1;omega) y hy).2 x (by omega) hx)) (fun x hx=>by obtain⟨a,ha⟩:=List.getElem?_of_mem hx;exact(i32 a (by have:=(List.getElem?_eq_some_iff.1 ha).1;omega) x ha).1);simp -dsimp[bV,Gs];and_intros;all_goals try first|rfl|omega|exact⟨by kernel_rfl⟩
          refine ah.of (H8 b.rows hb 234 b.ds (fun x=>(decide (1<x.nx.length)&&decide (b.r∈x.nx))) (fun x hx=>U_ b x (hn x hx)) (by simp)) [.o 1] 0 ?_;by_cases hcf:∃x∈b.rows,1<x.nx.length∧b.r∈x.nx
          ·have e3:(b.rows.any fun x=>(decide (1<x.nx.length)&&decide (b.r∈x.nx)))=true:=by simpa using hcf
           simp -dsimp[e3,Tb.ds,bV];and_intros;all_goals try first|rfl|omega|exact⟨by kernel_rfl⟩
           refine Fin.of ?_;have hc:=Lu hh ho (by omega) hlim hasc hcf;simp[hc]
          ·have e3:(b.rows.any fun x=>(decide (1<x.nx.length)&&decide (b.r∈x.nx)))=false:=by
            rw[Bool.eq_false_iff];intro h;exact hcf (by simpa using h)
           simp -dsimp[e3,Tb.ds,bV];and_intros;all_goals try first|rfl|omega|exact⟨by kernel_rfl⟩
           refine Fin.of ?_;have hc:=Gf hh ho (by omega) hlim hasc hcf;simp[hc]
   ·simp -dsimp[b_ a1,oH a2];and_intros;all_goals try first|rfl|omega|exact⟨by kernel_rfl⟩
    refine Fin.of ?_;have hc:=qX (b:=b) (fun h=>a2 h.2.1);simp[hc]
  ·simp -dsimp[oH a1];and_intros;all_goals try first|rfl|omega|exact⟨by kernel_rfl⟩
   refine Fin.of ?_;have hc:=qX (b:=b) (fun h=>a1 h.1);simp[hc]
theorem Zk(b:Tb)(hb:b.rows.length≤1000000)(hn:∀x∈b.rows,x.nx.length≤1000000):Contract Tryz.prog 173 [bZ b] [] (.d (.int .i64 (chk b))) [] []:=V3 b (Nat.le_trans hb (by decide)) (fun x hx=>Nat.le_trans (hn x hx) (by decide))
theorem Pg(ad:Option Addr)(c:Nat):Contract Tryz.prog 179 [.c (.slice ad 0 c)] [] (.d (ints [])) [] []:=by
 refine aj Tryz.func179 rfl (fun E0=>?_);refine cO.sound (g:=.mk) (ow:=[5]) (kp:=(fun k=>k==0||k==2||k==4)) ?_;rw[Tryz.ntmps179];cases ad with
 | none=>
   simp -dsimp[ints];and_intros;all_goals try first|rfl|omega|exact⟨by kernel_rfl⟩
   refine Fin.view 2 ?_;simp -dsimp;refine Fin.of ?_;simp[ints]
 | some ad=>
   simp -dsimp[ints];and_intros;all_goals try first|rfl|omega|exact⟨by kernel_rfl⟩
   refine Fin.view 2 ?_;simp -dsimp;refine Fin.of ?_;simp[ints]
theorem Wx(l:List Int)(hl:l.length≤1000000):Contract Tryz.prog 179 [.d (ints l)] [] (.d (ints l)) [] []:=by
 by_cases h0:l.length=0
 ·obtain rfl:l = []:=List.length_eq_zero_iff.1 h0;refine Contract.cases fun E us ha=>?_
  simp only[aP,aA,Rep,ints]at ha;obtain⟨u,us',rfl,hu,rfl⟩:=ha;rcases hu with⟨_,ad,c,rfl⟩|⟨b,o,c,k,rfl,_⟩
  ·exact⟨[.c (.slice ad 0 c)],by simp[aP,aA],Pg ad c⟩
  ·exact⟨[.c (.slice (some ⟨b,o,none⟩) 0 c)],by simp[aP,aA],Pg _ c⟩
 ·have dl:dLen 1 (l.map fun x=>[D.int .i64 x]):=iF 1 _ _ fun _=>rfl
  refine aj Tryz.func179 rfl (fun E0=>?_);refine cO.sound (g:=.mk) (ow:=[5]) (kp:=(fun k=>k==0||k==2||k==4)) ?_;rw[Tryz.ntmps179];simp -dsimp[ints];and_intros;all_goals try first|rfl|omega|exact dl|exact⟨by kernel_rfl⟩
  refine Fin.view 2 ?_;simp -dsimp;refine Fin.of ?_;simp[ints]
def rowOf(b:Tb)(id:Int):Option Rw:=b.rows.find? fun x=>decide (x.id=id)
def rowT(o:Option Rw):TV:=.rG [BF (o.getD ⟨0,[]⟩),.d (.bool o.isSome)]
theorem IY{l:List Rw}{q:Rw→Bool}{i:Nat}{x:Rw}(hx:l[i]? = some x)(hq:q x=true)(h:∀a,a<i→∀y,l[a]? = some y→q y=false):l.find? q=some x:=by
 induction l generalizing i with
 | nil=>simp at hx
 | cons y l ih=>
   cases i with
   | zero=>simp at hx;subst hx;simp[hq]
   | succ i=>
     have h0:=h 0 (by omega) y rfl;rw[List.find?_cons,h0];exact ih (by simpa using hx) fun a ha z hz=>h (a+1) (by omega) z (by simpa using hz)
theorem IZ{l:List Rw}{q:Rw→Bool}(h:∀a,a<l.length→∀y,l[a]? = some y→q y=false):l.find? q=none:=by
 rw[List.find?_eq_none];intro x hx;obtain⟨a,ha⟩:=List.getElem?_of_mem hx;simp[h a (List.getElem?_eq_some_iff.1 ha).1 x ha]
theorem ajG(b:Tb)(hb:b.rows.length≤1000000)(hn:∀x∈b.rows,x.nx.length≤1000000)(id:Int):Contract Tryz.prog 204 [bZ b,.d (.int .i64 id)] [] (rowT (rowOf b id)) [] []:=by
 refine aj Tryz.func204 rfl (fun E0=>?_);refine cO.sound (g:=.mk) (ow:=[]) (kp:=(fun k=>k==0||k==1||k==2||k==4||k==5||k==7||k==9||k==10||k==11||k==12||k==18)) ?_;rw[Tryz.ntmps204];simp -dsimp[bZ,bV];refine aN.of [] (fun k=>k==0||k==1||k==2||k==4||k==5||k==7||k==9||k==10||k==11||k==12||k==18) (ι:={i:Nat // i≤b.rows.length∧∀a,a<i→∀x,b.rows[a]? = some x→decide (x.id=id)=false})
  (fun z=>[(Pl.s 1,It.v (.d (.int .i64 id))),(Pl.o 2,It.box [TV.d (.int .i64 b.r),TV.d (.int .i64 b.sd),TV.d (.int .i64 b.len),TV.d (bV b.rows)]),(Pl.s 2,It.v (.ptr (Pl.o 2) 0)),(Pl.o 4,It.box [TV.d (.int .i64 0),TV.c (Value.slice none 0 0)]),(Pl.s 4,It.v (.ptr (Pl.o 4) 0)),(Pl.s 5,It.v (.d (.bool false))),(Pl.s 9,It.v (.d (bV b.rows))),(Pl.s 10,It.v (.d (.int .i64 b.rows.length))),(Pl.s 11,It.v (.d (.int .i64 z.1)))]) (fun z=>b.rows.length-z.1) ⟨0,by omega,fun a h=>by omega⟩ ?_ ?_
 ·exact GS.to (by simp[bV])
 ·rintro⟨i,i1,i2⟩;by_cases hi:i<b.rows.length
  ·have hiz:(i:Int)<b.rows.length:=by omega
   have hg:b.rows[i]? = some b.rows[i]:=List.getElem?_eq_getElem hi;have hx:=hn _ (List.getElem_mem hi);generalize b.rows[i]=x at hg hx;by_cases c1:x.id=id
   ·simp -dsimp[bV,hg,hiz,Rw.cs,eq_true c1];and_intros;all_goals try first|rfl|omega|exact⟨by kernel_rfl⟩
    refine ah.of (Wx x.nx hx) [] 0 ?_;simp -dsimp[bV,Rw.cs,c1];and_intros;all_goals try first|rfl|omega|exact⟨by kernel_rfl⟩
    refine Fin.of ?_;simp[rowT,rowOf,IY hg (by simpa using c1) i2,BF,c1]
   ·simp -dsimp[bV,hg,hiz,Rw.cs,c1,wrap_i64 (n:=(i:Int)+1) (by omega) (by omega)];and_intros;all_goals try first|rfl|omega|exact⟨by kernel_rfl⟩
    exact⟨⟨i+1,by omega,fun a ha y hy=>by
     by_cases e:a=i
     ·subst e;rw[hg]at hy;simp only[Option.some.injEq]at hy;subst hy;simpa using c1
     ·exact i2 a (by omega) y hy⟩,GS.to (by simp[bV]),by simp;omega⟩
  ·have hiz :¬(i:Int)<b.rows.length:=by omega
   simp -dsimp[bV,hiz];refine Fin.box (.o 4) rfl ?_;simp -dsimp;refine Fin.of ?_;simp[rowT,rowOf,IZ (q:=fun x=>decide (x.id=id)) (fun a ha=>i2 a (by omega)),BF,ints]
def og(x:Rw)(p:Int):Int:=if x.nx.length=0 then 0 else x.nx.getD (p%x.nx.length).toNat 0
theorem ab1(x:Rw)(p:Int)(hp:0≤p∧p≤7)(hx:x.nx.length≤1000000):Contract Tryz.prog 205 [BF x,.d (.int .i64 p)] [] (.d (.int .i64 (og x p))) [] []:=by
 refine aj Tryz.func205 rfl (fun E0=>?_);refine cO.sound (g:=.mk) (ow:=[]) (kp:=(fun k=>k==0||k==1||k==2||k==4||k==8)) ?_;rw[Tryz.ntmps205];by_cases h0:x.nx.length=0
 ·have h0z:(x.nx.length:Int)=0:=by omega
  simp -dsimp[BF,ints,h0,h0z];and_intros;all_goals try first|rfl|omega|exact⟨by kernel_rfl⟩
  refine Fin.of ?_;simp[og,h0]
 ·have h0z :¬(x.nx.length:Int)=0:=by omega
  have e:p.tmod x.nx.length=p%x.nx.length:=Int.tmod_eq_emod_of_nonneg hp.1;have m1:=Int.emod_nonneg p (b:=(x.nx.length:Int)) (by omega);have m2:=Int.emod_lt_of_pos p (b:=(x.nx.length:Int)) (by omega);have hlt:(p%x.nx.length).toNat<x.nx.length:=by omega
  have hg:x.nx[(p%x.nx.length).toNat]? = some x.nx[(p%x.nx.length).toNat]:=List.getElem?_eq_getElem hlt;simp -dsimp[BF,ints,h0,h0z,e,hg];and_intros;all_goals try first|rfl|omega|exact⟨by kernel_rfl⟩
  refine Fin.of ?_;simp[og,h0,hg]
structure Tb.Sm(b:Tb):Prop where
 rows:b.rows.length≤1000000
 nx:∀x∈b.rows,x.nx.length≤1000000
def mG(b:Tb)(id p:Int):Int:=og ((rowOf b id).getD ⟨0,[]⟩) p
theorem FB{b:Tb}(hb:b.Sm)(id:Int):((rowOf b id).getD ⟨0,[]⟩).nx.length≤1000000:=by
 unfold rowOf;cases h:b.rows.find? (fun x=>decide (x.id=id))with
 | none=>simp
 | some x=>exact hb.nx x (List.mem_of_find?_eq_some h)
def JU(b:Tb)(p s:Int):Bool:=decide (chk b=0)&&(inB p 0 7&&inB s 0 31)
theorem YT(b:Tb)(hb:b.Sm)(p s:Int):Contract Tryz.prog 203 [bZ b,.d (.int .i64 p),.d (.int .i64 s)] [] (.d (.bool (JU b p s))) [] []:=by
 refine aj Tryz.func203 rfl (fun E0=>?_);refine cO.sound (g:=.mk) (ow:=[]) (kp:=(fun k=>k==0||k==1||k==2||k==3||k==6)) ?_;rw[Tryz.ntmps203];simp -dsimp[bZ];refine ah.of (Zk b hb.rows hb.nx) [] 0 ?_;by_cases h0:chk b=0
 ·by_cases h1:0≤p
  ·by_cases h2:p<8
   ·by_cases h3:0≤s
    ·simp -dsimp[bZ,h0,h1,h2,h3];and_intros;all_goals try first|rfl|omega|exact⟨by kernel_rfl⟩
     refine Fin.of ?_;simp[JU,inB,h0,h1,h3];omega
    ·simp -dsimp[bZ,h0,h1,h2,h3];and_intros;all_goals try first|rfl|omega|exact⟨by kernel_rfl⟩
     refine Fin.of ?_;simp[JU,inB,h0,h1,h3]
   ·simp -dsimp[bZ,h0,h1,h2];and_intros;all_goals try first|rfl|omega|exact⟨by kernel_rfl⟩
    refine Fin.of ?_;have h2' :¬p≤7:=by omega
    simp[JU,inB,h0,h1,h2']
  ·simp -dsimp[bZ,h0,h1];and_intros;all_goals try first|rfl|omega|exact⟨by kernel_rfl⟩
   refine Fin.of ?_;simp[JU,inB,h0,h1]
 ·simp -dsimp[bZ,h0];and_intros;all_goals try first|rfl|omega|exact⟨by kernel_rfl⟩
  refine Fin.of ?_;simp[JU,h0]
theorem Dy{b:Tb}{p s:Int}:JU b p s=true↔chk b=0∧(0≤p∧p≤7)∧0≤s∧s≤31:=by simp[JU,inB]
def Aw(b:Tb)(id p:Int):Int:=if JU b p 0=true then mG b id p else 0
theorem ahn(b:Tb)(hb:b.Sm)(id p:Int):Contract Tryz.prog 129 [bZ b,.d (.int .i64 id),.d (.int .i64 p)] [] (.d (.int .i64 (Aw b id p))) [] []:=by
 refine aj Tryz.func129 rfl (fun E0=>?_);refine cO.sound (g:=.mk) (ow:=[]) (kp:=(fun k=>k==0||k==1||k==2||k==3||k==6||k==7||k==12)) ?_;rw[Tryz.ntmps129];simp -dsimp[bZ];refine ah.of (YT b hb p 0) [] 0 ?_;rcases (Bool.eq_false_or_eq_true (JU b p 0)).symm with h|h
 ·simp -dsimp[bZ,h];and_intros;all_goals try first|rfl|omega|exact⟨by kernel_rfl⟩
  refine Fin.of ?_;simp[Aw,h]
 ·simp -dsimp[bZ,h];and_intros;all_goals try first|rfl|omega|exact⟨by kernel_rfl⟩
  refine ah.of (ajG b hb.rows hb.nx id) [] 0 ?_;simp -dsimp[bZ,rowT,BF];and_intros;all_goals try first|rfl|omega|exact⟨by kernel_rfl⟩
  refine ah.of (ab1 ((rowOf b id).getD ⟨0,[]⟩) p (Dy.1 h).2.1 (FB hb id)) [] 0 ?_;simp -dsimp[BF];and_intros;all_goals try first|rfl|omega|exact⟨by kernel_rfl⟩
  refine Fin.of ?_;simp[Aw,h,mG]
abbrev Mk:=List (Int×BitVec 64)
def mk(m:Mk):List (Int×D):=m.map fun e=>(e.1,bv e.2)
def Ht(m:Mk)(k:Int):BitVec 64:=((m.find? fun e=>decide (k=e.1)).map (·.2)).getD 0#64
def ZG:Mk→Int→BitVec 64→Mk
 | [],k,d=>[(k,d)]
 | (k',d')::es,k,d=>if k=k' then(k,d)::es else(k',d')::ZG es k d
theorem Xf(k:Int)(d:BitVec 64):∀m:Mk,OE (mk m) k (bv d)=mk (ZG m k d)
 | []=>rfl
 | (k',d')::es=>by
   have ih:=Xf k d es;simp only[mk,List.map_cons,OE,ZG]at ih⊢;split
   ·rfl
   ·simp only[List.map_cons,ih]
theorem KF(k:Int):∀m:Mk,(JR (mk m) k=none∧Ht m k=0#64)∨JR (mk m) k=some (.int .u64 (tn (Ht m k)))
 | []=>.inl ⟨rfl,rfl⟩
 | (k',d')::es=>by
   have ih:=KF k es;simp only[mk,List.map_cons,JR,Ht,List.find?_cons]at ih⊢;by_cases e:k=k'
   ·exact .inr (by simp[e,bv])
   ·simp only[if_neg e,decide_eq_false e];exact ih
theorem ak4(X:BitVec 64):orI .u64 0 (tn X)=tn X:=by
 rw[Go.Tr.u64_or,Hl];simp[wu]
def rU(b:Tb)(p s:Int)(m:Mk)(x:Rw):Mk:=if fJ x.id b.len=s∧og x p≠0 then ZG m (og x p) (Ht m (og x p)|||(1#64<<<(gG x.id b.len).toNat))else m
def coll(b:Tb)(p s:Int):Mk:=b.rows.foldl (rU b p s) []
theorem acL(b:Tb)(hb:b.Sm)(p s:Int)(hp:0≤p∧p≤7):Contract Tryz.prog 238 [bZ b,.d (.int .i64 p),.d (.int .i64 s)] [] (.mref 14) [] [(14,.mp (mk (coll b p s)))]:=by
 refine aj Tryz.func238 rfl (fun E0=>?_);refine cO.sound (g:=.mk) (ow:=[]) (kp:=(fun k=>k==0||k==1||k==2||k==3||k==6||k==7||k==9||k==10||k==11||k==13||k==16||k==17||k==18||k==19||k==40)) ?_;rw[Tryz.ntmps238];simp -dsimp[bZ,bV];refine aN.of [] (fun k=>k==0||k==1||k==2||k==3||k==6||k==7||k==9||k==10||k==11||k==13||k==16||k==17||k==18||k==19||k==40) (ι:={i:Nat // i≤b.rows.length})
  (fun z=>[(Pl.s 1,It.v (.d (.int .i64 p))),(Pl.s 2,It.v (.d (.int .i64 s))),
   (Pl.o 3,It.box [TV.d (.int .i64 b.r),TV.d (.int .i64 b.sd),TV.d (.int .i64 b.len),TV.d (bV b.rows)]),(Pl.s 3,It.v (.ptr (Pl.o 3) 0)),(Pl.s 6,It.v (.c (Value.map none))),
   (Pl.o 14,It.mp (mk ((b.rows.take z.1).foldl (rU b p s) []))),(Pl.s 7,It.v (.mref 14)),
   (Pl.s 16,It.v (.d (bV b.rows))),(Pl.s 17,It.v (.d (.int .i64 b.rows.length))),(Pl.s 18,It.v (.d (.int .i64 z.1)))]) (fun z=>b.rows.length-z.1) ⟨0,by omega⟩ ?_ ?_
 ·exact GS.to (by simp[bV,mk])
 ·rintro⟨i,i1⟩;by_cases hi:i<b.rows.length
  ·have hiz:(i:Int)<b.rows.length:=by omega
   have hg:b.rows[i]? = some b.rows[i]:=List.getElem?_eq_getElem hi;have hx:=hb.nx _ (List.getElem_mem hi);have hs:(b.rows.take (i+1)).foldl (rU b p s) []=rU b p s ((b.rows.take i).foldl (rU b p s) []) b.rows[i]:=by
    rw[List.take_add_one,hg,Option.toList_some,List.foldl_append];rfl
   generalize b.rows[i]=x at hg hx hs;generalize (b.rows.take i).foldl (rU b p s) []=m at hs⊢;have hpl:=plB x.id b.len;have hb1:=hb.rows;obtain⟨pb,hpb⟩:∃n:Nat,gG x.id b.len=n:=⟨(gG x.id b.len).toNat,by omega⟩
   simp -dsimp[bV,hg,hiz,Rw.cs];and_intros;all_goals try first|rfl|omega|exact⟨by kernel_rfl⟩
   refine ah.of (aaS x.id b.len) [] 0 ?_;simp -dsimp[eH];and_intros;all_goals try first|rfl|omega|exact⟨by kernel_rfl⟩
   refine ah.of (ab1 x p hp hx) [] 0 ?_;by_cases c1:fJ x.id b.len=s
   ·by_cases c2:og x p=0
    ·simp -dsimp[BF,c1,c2,wrap_i64 (n:=(i:Int)+1) (by omega) (by omega)];and_intros;all_goals try first|rfl|omega|exact⟨by kernel_rfl⟩
     exact⟨⟨i+1,by omega⟩,GS.to (by simp[bV,hs,rU,c2]),by simp;omega⟩
    ·rcases KF (og x p) m with⟨e1,e2⟩|e1
     ·simp -dsimp[BF,c1,c2,e1,ak4,hpb,wrap_i64 (n:=(i:Int)+1) (by omega) (by omega)];and_intros;all_goals try first|rfl|omega|exact⟨by kernel_rfl⟩
      have hst:OE (mk m) (og x p) (D.int .u64 (tn (1#64<<<pb)))=mk (rU b p s m x):=by
       unfold rU;rw[if_pos ⟨c1,c2⟩,←Xf,e2,hpb];simp[bv]
      exact⟨⟨i+1,by omega⟩,GS.to (by simp[bV,hs,hst]),by simp;omega⟩
     ·simp -dsimp[BF,c1,c2,e1,hpb,wrap_i64 (n:=(i:Int)+1) (by omega) (by omega)];and_intros;all_goals try first|rfl|omega|exact⟨by kernel_rfl⟩
      have hst:OE (mk m) (og x p) (D.int .u64 (tn (Ht m (og x p)|||1#64<<<pb)))=mk (rU b p s m x):=by
       unfold rU;rw[if_pos ⟨c1,c2⟩,←Xf,hpb];simp[bv]
      exact⟨⟨i+1,by omega⟩,GS.to (by simp[bV,hs,hst]),by simp;omega⟩
   ·simp -dsimp[BF,c1,wrap_i64 (n:=(i:Int)+1) (by omega) (by omega)];and_intros;all_goals try first|rfl|omega|exact⟨by kernel_rfl⟩
    exact⟨⟨i+1,by omega⟩,GS.to (by simp[bV,hs,rU,c1]),by simp;omega⟩
  ·obtain rfl:i=b.rows.length:=by omega
   simp -dsimp;refine Fin.of ?_;simp[coll]
theorem yG{b:Tb}(h:chk b=0):∀x∈b.rows,(1≤x.id∧x.id≤256)∧∀n∈x.nx,1≤n∧n≤99:=by
 intro x hx;have ho :¬∃x∈b.rows,x.out:=fun g=>by
  by_cases hh:b.head
  ·rw[Gg hh g]at h;simp at h
  ·rw[qX hh]at h;simp at h
 have h1 :¬x.out:=fun g=>ho ⟨x,hx,g⟩
 constructor
 ·exact Classical.byContradiction fun g=>h1 (.inl g)
 ·intro n hn;exact Classical.byContradiction fun g=>h1 (.inr ⟨n,hn,g⟩)
theorem YC{x:Rw}{p:Int}(h:og x p≠0):og x p∈x.nx:=by
 unfold og at h⊢;split at h
 ·exact absurd rfl h
 ·rename_i h0;rw[if_neg h0];have m1:=Int.emod_nonneg p (b:=(x.nx.length:Int)) (by omega);have m2:=Int.emod_lt_of_pos p (b:=(x.nx.length:Int)) (by omega);have hlt:(p%x.nx.length).toNat<x.nx.length:=by omega
  rw[List.getD_eq_getElem?_getD,List.getElem?_eq_getElem hlt];exact List.getElem_mem hlt
def Bl(b:Tb)(p s n:Int):BitVec 64:=if JU b p s=true then Ht (coll b p s) n else 0#64
theorem ai2(b:Tb)(hb:b.Sm)(p s n:Int):Contract Tryz.prog 184 [bZ b,.d (.int .i64 p),.d (.int .i64 s),.d (.int .i64 n)] [] (.d (bv (Bl b p s n))) [] []:=by
 refine aj Tryz.func184 rfl (fun E0=>?_);refine cO.sound (g:=.mk) (ow:=[]) (kp:=(fun k=>k==0||k==1||k==2||k==3||k==4||k==8||k==13)) ?_;rw[Tryz.ntmps184];simp -dsimp[bZ];refine ah.of (YT b hb p s) [] 0 ?_;rcases (Bool.eq_false_or_eq_true (JU b p s)).symm with h|h
 ·simp -dsimp[bZ,h];and_intros;all_goals try first|rfl|omega|exact⟨by kernel_rfl⟩
  refine Fin.of ?_;simp[Bl,h,bv]
 ·simp -dsimp[bZ,h];and_intros;all_goals try first|rfl|omega|exact⟨by kernel_rfl⟩
  refine ah.of (acL b hb p s (Dy.1 h).2.1) [] 1000 ?_;rcases KF n (coll b p s)with⟨e1,e2⟩|e1
  ·simp -dsimp[bZ,h,e1];and_intros;all_goals try first|rfl|omega|exact⟨by kernel_rfl⟩
   refine Fin.of ?_;simp[Bl,h,bv,e2]
  ·simp -dsimp[bZ,h,e1];and_intros;all_goals try first|rfl|omega|exact⟨by kernel_rfl⟩
   refine Fin.of ?_;simp[Bl,h,bv]
def gu(b:Tb)(p s n:Int):Nat→BitVec 64
 | 0=>0#64
 | k+1=>if Ej s k b.len=true∧0<n∧mG b (s*b.len+k+1) p=n then gu b p s n k|||lS k else gu b p s n k
def abW(b:Tb)(p s n:Int):BitVec 64:=if JU b p s=true∧1≤n∧n≤99 then gu b p s n b.len.toNat else 0#64
theorem abw{b:Tb}(h:chk b=0):aG b.len=true∨b.len=0∧b.rows.length=0:=by
 by_cases hh:b.head
 ·exact hh.2.2
 ·rw[qX hh]at h;simp at h
theorem aef{b:Tb}(h:chk b=0):0≤b.len∧b.len≤64:=by
 rcases abw h with g|g
 ·simp[aG]at g;omega
 ·omega
theorem aco{B:BitVec 64}:tn B=0↔B=0#64:=by
 constructor
 ·intro h;apply BitVec.eq_of_toNat_eq;simpa[tn]using h
 ·rintro rfl;simp[tn]
end Go.Proofs
