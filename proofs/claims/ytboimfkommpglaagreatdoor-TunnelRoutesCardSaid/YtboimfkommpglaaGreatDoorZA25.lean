/-
  What functions of the program compute, stated as contracts over plain data; the conditions of each stand in its own statement.
-/
import Derived.Test.YtboimfkommpglaaGreatDoorZA17
import Derived.Test.YtboimfkommpglaaGreatDoorZA18
import Derived.Test.YtboimfkommpglaaGreatDoorZA24
set_option linter.unusedSimpArgs false
set_option maxRecDepth 100000
set_option maxHeartbeats 4000000
namespace Go.Proofs
open Go Go.Tr
def aO(x:Rt):TV:=.agg (x.cs.map .d)
def SH(x:Lk):TV:=.agg (x.cs.map .d)
theorem aax(l:List Rt)(hl:l.length≤9223372036854775807)(f:FuncId)(q:Rt→Bool)(hf:∀x,x∈l→Contract Tryz.prog f [aO x] [] (.d (.bool (q x))) [] [])(hok:aZ Tryz.prog f=true):
  Contract Tryz.prog 222 [.d (.sl (l.map Rt.cs)),.clo f []] [] (.d (.int .i64 (MI q l))) [] []:=by
 refine aj Tryz.func222 rfl (fun E0=>?_);refine cO.sound (g:=.mk) (ow:=[]) (kp:=(fun k=>k==0||k==1||k==4||k==5||k==7||k==8||k==9||k==16)) ?_;rw[Tryz.ntmps222];simp -dsimp;refine aN.of [] (fun k=>k==0||k==1||k==4||k==5||k==7||k==8||k==9||k==16) (ι:={i:Nat // i≤l.length∧∀a,a<i→∀x,l[a]? = some x→q x=false})
  (fun z=>[(Pl.s 0,It.v (.d (.sl (l.map Rt.cs)))),(Pl.s 1,It.v (.clo f [])),(Pl.s 4,It.v (.d (.int .i64 0))),(Pl.s 7,It.v (.d (.int .i64 l.length))),(Pl.s 8,It.v (.d (.int .i64 z.1)))]) (fun z=>l.length-z.1) ⟨0,by omega,fun a h=>by omega⟩ ?_ ?_
 ·exact GS.to (by simp)
 ·rintro⟨i,i1,i2⟩;by_cases hi:i<l.length
  ·have hiz:(i:Int)<l.length:=by omega
   have hx:l[i]? = some l[i]:=List.getElem?_eq_getElem hi;have hm:l[i]∈l:=List.getElem_mem hi;generalize l[i]=x at hx hm;simp -dsimp[hiz,hx,Rt.cs,wrap_i64 (n:=(i:Int)+1) (by omega) (by omega)];and_intros;all_goals try first|rfl|omega|exact⟨by kernel_rfl⟩
   refine ah.of (hf x hm) [] 0 ?_;rcases (Bool.eq_false_or_eq_true (q x)).symm with h|h
   ·simp -dsimp[h,hok,aO,wrap_i64 (n:=(i:Int)+1) (by omega) (by omega)];and_intros;all_goals try first|rfl|omega|exact⟨by kernel_rfl⟩
    exact⟨⟨i+1,by omega,fun a ha y hy=>by
     by_cases e:a=i
     ·subst e;rw[hx]at hy;simp only[Option.some.injEq]at hy;subst hy;exact h
     ·exact i2 a (by omega) y hy⟩,GS.to (by simp),by simp;omega⟩
   ·simp -dsimp[h,hok,aO];and_intros;all_goals try first|rfl|omega|exact⟨by kernel_rfl⟩
    refine Fin.of ?_;simp[Iq hx h i2]
  ·simp -dsimp[hi];refine Fin.of ?_;simp;exact(Ir fun a ha=>i2 a (by omega)).symm
theorem QW(l:List Rt)(hl:l.length≤9223372036854775807)(f:FuncId)(q:Rt→Bool)(hf:∀x,x∈l→Contract Tryz.prog f [aO x] [] (.d (.bool (q x))) [] [])(hok:aZ Tryz.prog f=true):
  Contract Tryz.prog 147 [.d (.sl (l.map Rt.cs)),.clo f []] [] (.d (.bool (l.any q))) [] []:=by
 refine aj Tryz.func147 rfl (fun E0=>?_);refine cO.sound (g:=.mk) (ow:=[]) (kp:=(fun k=>k==0||k==1||k==4)) ?_;rw[Tryz.ntmps147];simp -dsimp;refine ah.of (aax l hl f q hf hok) [] 0 ?_;simp -dsimp;refine Fin.of ?_;simp[D6]
theorem aav(l:List Lk)(hl:l.length≤9223372036854775807)(f:FuncId)(q:Lk→Bool)(hf:∀x,x∈l→Contract Tryz.prog f [SH x] [] (.d (.bool (q x))) [] [])(hok:aZ Tryz.prog f=true):
  Contract Tryz.prog 224 [.d (.sl (l.map Lk.cs)),.clo f []] [] (.d (.int .i64 (MI q l))) [] []:=by
 refine aj Tryz.func224 rfl (fun E0=>?_);refine cO.sound (g:=.mk) (ow:=[]) (kp:=(fun k=>k==0||k==1||k==4||k==5||k==7||k==8||k==9||k==16)) ?_;rw[Tryz.ntmps224];simp -dsimp;refine aN.of [] (fun k=>k==0||k==1||k==4||k==5||k==7||k==8||k==9||k==16) (ι:={i:Nat // i≤l.length∧∀a,a<i→∀x,l[a]? = some x→q x=false})
  (fun z=>[(Pl.s 0,It.v (.d (.sl (l.map Lk.cs)))),(Pl.s 1,It.v (.clo f [])),(Pl.s 4,It.v (.d (.int .i64 0))),(Pl.s 7,It.v (.d (.int .i64 l.length))),(Pl.s 8,It.v (.d (.int .i64 z.1)))]) (fun z=>l.length-z.1) ⟨0,by omega,fun a h=>by omega⟩ ?_ ?_
 ·exact GS.to (by simp)
 ·rintro⟨i,i1,i2⟩;by_cases hi:i<l.length
  ·have hiz:(i:Int)<l.length:=by omega
   have hx:l[i]? = some l[i]:=List.getElem?_eq_getElem hi;have hm:l[i]∈l:=List.getElem_mem hi;generalize l[i]=x at hx hm;simp -dsimp[hiz,hx,Lk.cs,wrap_i64 (n:=(i:Int)+1) (by omega) (by omega)];and_intros;all_goals try first|rfl|omega|exact⟨by kernel_rfl⟩
   refine ah.of (hf x hm) [] 0 ?_;rcases (Bool.eq_false_or_eq_true (q x)).symm with h|h
   ·simp -dsimp[h,hok,SH,wrap_i64 (n:=(i:Int)+1) (by omega) (by omega)];and_intros;all_goals try first|rfl|omega|exact⟨by kernel_rfl⟩
    exact⟨⟨i+1,by omega,fun a ha y hy=>by
     by_cases e:a=i
     ·subst e;rw[hx]at hy;simp only[Option.some.injEq]at hy;subst hy;exact h
     ·exact i2 a (by omega) y hy⟩,GS.to (by simp),by simp;omega⟩
   ·simp -dsimp[h,hok,SH];and_intros;all_goals try first|rfl|omega|exact⟨by kernel_rfl⟩
    refine Fin.of ?_;simp[Iq hx h i2]
  ·simp -dsimp[hi];refine Fin.of ?_;simp;exact(Ir fun a ha=>i2 a (by omega)).symm
theorem H7(l:List Lk)(hl:l.length≤9223372036854775807)(f:FuncId)(q:Lk→Bool)(hf:∀x,x∈l→Contract Tryz.prog f [SH x] [] (.d (.bool (q x))) [] [])(hok:aZ Tryz.prog f=true):
  Contract Tryz.prog 153 [.d (.sl (l.map Lk.cs)),.clo f []] [] (.d (.bool (l.any q))) [] []:=by
 refine aj Tryz.func153 rfl (fun E0=>?_);refine cO.sound (g:=.mk) (ow:=[]) (kp:=(fun k=>k==0||k==1||k==4)) ?_;rw[Tryz.ntmps153];simp -dsimp;refine ah.of (aav l hl f q hf hok) [] 0 ?_;simp -dsimp;refine Fin.of ?_;simp[D6]
theorem aaw(l:List Lk)(hl:l.length≤9223372036854775807)(f:FuncId)(u:FuncId)(ds:List D)(q:Lk→Bool)(hf:∀x,x∈l→Contract Tryz.prog f [SH x,.ptr (.x 0) 0] [.box [.clo u [.ptr (.x 1) 0]],.box (ds.map .d)] (.d (.bool (q x))) [.box [.clo u [.ptr (.x 1) 0]],.box (ds.map .d)] [])(hok:aZ Tryz.prog f=true):
  Contract Tryz.prog 224 [.d (.sl (l.map Lk.cs)),.clo f [.ptr (.x 0) 0]] [.box [.clo u [.ptr (.x 1) 0]],.box (ds.map .d)] (.d (.int .i64 (MI q l))) [.box [.clo u [.ptr (.x 1) 0]],.box (ds.map .d)] []:=by
 refine aj Tryz.func224 rfl (fun E0=>?_);refine cO.sound (g:=.mk) (ow:=[]) (kp:=(fun k=>k==0||k==1||k==4||k==5||k==7||k==8||k==9||k==16)) ?_;rw[Tryz.ntmps224];simp -dsimp;refine aN.of [] (fun k=>k==0||k==1||k==4||k==5||k==7||k==8||k==9||k==16) (ι:={i:Nat // i≤l.length∧∀a,a<i→∀x,l[a]? = some x→q x=false})
  (fun z=>[(Pl.s 0,It.v (.d (.sl (l.map Lk.cs)))),(Pl.s 1,It.v (.clo f [TV.ptr (Pl.x 0) 0])),(Pl.x 0,It.box [TV.clo u [TV.ptr (Pl.x 1) 0]]),(Pl.x 1,It.box (List.map TV.d ds)),(Pl.s 4,It.v (.d (.int .i64 0))),(Pl.s 7,It.v (.d (.int .i64 l.length))),(Pl.s 8,It.v (.d (.int .i64 z.1)))]) (fun z=>l.length-z.1) ⟨0,by omega,fun a h=>by omega⟩ ?_ ?_
 ·exact GS.to (by simp)
 ·rintro⟨i,i1,i2⟩;by_cases hi:i<l.length
  ·have hiz:(i:Int)<l.length:=by omega
   have hx:l[i]? = some l[i]:=List.getElem?_eq_getElem hi;have hm:l[i]∈l:=List.getElem_mem hi;generalize l[i]=x at hx hm;simp -dsimp[hiz,hx,Lk.cs,wrap_i64 (n:=(i:Int)+1) (by omega) (by omega)];and_intros;all_goals try first|rfl|omega|exact⟨by kernel_rfl⟩
   refine ah.of (hf x hm) [.x 0,.x 1] 0 ?_;rcases (Bool.eq_false_or_eq_true (q x)).symm with h|h
   ·simp -dsimp[h,hok,SH,wrap_i64 (n:=(i:Int)+1) (by omega) (by omega)];and_intros;all_goals try first|rfl|omega|exact⟨by kernel_rfl⟩
    exact⟨⟨i+1,by omega,fun a ha y hy=>by
     by_cases e:a=i
     ·subst e;rw[hx]at hy;simp only[Option.some.injEq]at hy;subst hy;exact h
     ·exact i2 a (by omega) y hy⟩,GS.to (by simp),by simp;omega⟩
   ·simp -dsimp[h,hok,SH];and_intros;all_goals try first|rfl|omega|exact⟨by kernel_rfl⟩
    refine Fin.of ?_;simp[Iq hx h i2]
  ·simp -dsimp[hi];refine Fin.of ?_;simp;exact(Ir fun a ha=>i2 a (by omega)).symm
theorem QV(l:List Lk)(hl:l.length≤9223372036854775807)(f:FuncId)(u:FuncId)(ds:List D)(q:Lk→Bool)(hf:∀x,x∈l→Contract Tryz.prog f [SH x,.ptr (.x 0) 0] [.box [.clo u [.ptr (.x 1) 0]],.box (ds.map .d)] (.d (.bool (q x))) [.box [.clo u [.ptr (.x 1) 0]],.box (ds.map .d)] [])(hok:aZ Tryz.prog f=true):
  Contract Tryz.prog 153 [.d (.sl (l.map Lk.cs)),.clo f [.ptr (.x 0) 0]] [.box [.clo u [.ptr (.x 1) 0]],.box (ds.map .d)] (.d (.bool (l.any q))) [.box [.clo u [.ptr (.x 1) 0]],.box (ds.map .d)] []:=by
 refine aj Tryz.func153 rfl (fun E0=>?_);refine cO.sound (g:=.mk) (ow:=[]) (kp:=(fun k=>k==0||k==1||k==4)) ?_;rw[Tryz.ntmps153];simp -dsimp;refine ah.of (aaw l hl f u ds q hf hok) [.x 0,.x 1] 0 ?_;simp -dsimp;refine Fin.of ?_;simp[D6]
def bsGo(p:Nat→Bool):Nat→Nat→Nat→Nat
 | 0,i,_=>i
 | k+1,i,j=>if i<j then(if p ((i+j)/2)=true then bsGo p k ((i+j)/2+1) j else bsGo p k i ((i+j)/2))else i
theorem bsGo_fuel{p:Nat→Bool}:∀(k i j:Nat),j-i≤k→bsGo p (k+1) i j=bsGo p k i j
 | 0,i,j,h=>by
   rw[show 0+1=Nat.succ 0 from rfl,bsGo,bsGo,if_neg (by omega)]
 | k+1,i,j,h=>by
   rw[bsGo]
   conv=>rhs;rw[bsGo]
   split
   ·split
    ·exact bsGo_fuel k _ _ (by omega)
    ·exact bsGo_fuel k _ _ (by omega)
   ·rfl
theorem N7{p:Nat→Bool}(i j:Nat):∀m k,j-i≤k→bsGo p (k+m) i j=bsGo p k i j
 | 0,_,_=>rfl
 | m+1,k,h=>(bsGo_fuel (k+m) i j (by omega)).trans (N7 i j m k h)
theorem U6{p:Nat→Bool}{i j:Nat}(h:i<j):bsGo p (j-i) i j=if p ((i+j)/2)=true then bsGo p (j-((i+j)/2+1)) ((i+j)/2+1) j else bsGo p ((i+j)/2-i) i ((i+j)/2):=by
 obtain⟨k,hk⟩:∃k,j-i=k+1:=⟨j-i-1,by omega⟩
 rw[hk,bsGo,if_pos h];split
 ·rw[show k=(j-((i+j)/2+1))+(k-(j-((i+j)/2+1))) by omega];exact N7 _ _ _ _ (by omega)
 ·rw[show k=((i+j)/2-i)+(k-((i+j)/2-i)) by omega];exact N7 _ _ _ _ (by omega)
theorem XW{p:Nat→Bool}{i j:Nat}(h :¬i<j):bsGo p (j-i) i j=i:=by
 rw[show j-i=0 by omega,bsGo]
def bsI(p:Nat→Bool)(n:Nat):Nat:=bsGo p n 0 n
theorem bsGo_spec{p:Nat→Bool}(hp:∀a b,a≤b→p b=true→p a=true):∀(k i j:Nat),i≤j→j-i≤k→(∀a,a<i→p a=true)→(i≤bsGo p k i j∧bsGo p k i j≤j)∧(∀a,a<bsGo p k i j→p a=true)∧∀a,bsGo p k i j≤a→a<j→p a=false
 | 0,i,j,h1,h2,h3=>by
   rw[bsGo];exact⟨⟨by omega,by omega⟩,h3,fun a _ _=>by omega⟩
 | k+1,i,j,h1,h2,h3=>by
   rw[bsGo];split
   ·rename_i h;split
    ·rename_i hm;obtain⟨g1,g2,g3⟩:=bsGo_spec hp k ((i+j)/2+1) j (by omega) (by omega) fun a ha=>hp a _ (by omega) hm
     exact⟨⟨by omega,by omega⟩,g2,g3⟩
    ·rename_i hm;obtain⟨g1,g2,g3⟩:=bsGo_spec hp k i ((i+j)/2) (by omega) (by omega) h3;refine⟨⟨by omega,by omega⟩,g2,fun a ha hj=>?_⟩;by_cases e:a<(i+j)/2
     ·exact g3 a ha e
     ·refine Bool.eq_false_iff.2 fun e2=>hm (hp _ a (by omega) e2)
   ·rename_i h;exact⟨⟨by omega,by omega⟩,h3,fun a _ _=>by omega⟩
def KY(l:List Rt)(i:Nat):Int:=(l.getD i ⟨0,false⟩).id
def Hu(a b:Int):Int:=if a<b then -1 else if b<a then 1 else 0
theorem Qe(a b:Int):(Hu a b<0)=(a<b):=by unfold Hu;apply propext;split<;>(try split)<;>omega
theorem DX(a b:Int):(Hu a b=0)=(a=b):=by unfold Hu;apply propext;split<;>(try split)<;>omega
theorem abO(a:Int):Contract Tryz.prog 254 [.d (.int .i64 a)] [] (.d (.bool false)) [] []:=by
 refine aj Tryz.func254 rfl (fun E0=>?_);refine cO.sound (g:=.mk) (ow:=[]) (kp:=(fun k=>k==0||k==2)) ?_;rw[Tryz.ntmps254];simp -dsimp;refine Fin.of ?_;simp
theorem Oe(a b:Int):Contract Tryz.prog 223 [.d (.int .i64 a),.d (.int .i64 b)] [] (.d (.int .i64 (Hu a b))) [] []:=by
 refine aj Tryz.func223 rfl (fun E0=>?_);refine cO.sound (g:=.mk) (ow:=[]) (kp:=(fun k=>k==0||k==1||k==4||k==5||k==6||k==11||k==12||k==13||k==16||k==19)) ?_;rw[Tryz.ntmps223];simp -dsimp;refine ah.of (abO a) [] 0 ?_;simp -dsimp;refine ah.of (abO b) [] 0 ?_;by_cases h1:a<b
 ·simp -dsimp[h1];refine Fin.of ?_;simp[Hu,h1]
 ·by_cases h2:b<a
  ·simp -dsimp[h1,h2];refine Fin.of ?_;simp[Hu,h1,h2]
  ·simp -dsimp[h1,h2];refine Fin.of ?_;simp[Hu,h1,h2]
theorem aeb(x:Rt)(id:Int):Contract Tryz.prog 152 [aO x,.d (.int .i64 id)] [] (.d (.int .i64 (Hu x.id id))) [] []:=by
 refine aj Tryz.func152 rfl (fun E0=>?_);refine cO.sound (g:=.mk) (ow:=[]) (kp:=(fun k=>k==0||k==1||k==2||k==4)) ?_;rw[Tryz.ntmps152];simp -dsimp[aO,Rt.cs];refine ah.of (Oe x.id id) [] 0 ?_;simp -dsimp;and_intros;all_goals try first|rfl|omega|exact⟨by kernel_rfl⟩
 refine Fin.of ?_;simp
theorem ahE(n:Nat):Zh .u64 (n:Int) 1=((n/2:Nat):Int):=by
 rw[Zh];have:min (Int.toNat 1) (IntKind.u64.bits)=1:=by decide
 rw[this,Int.fdiv_eq_ediv_of_nonneg _ (by decide)];omega
theorem afp{i j:Nat}(h:i+j≤2000000):IntKind.i64.wrap (Zh .u64 (IntKind.u64.wrap (IntKind.i64.wrap ((i:Int)+j))) 1)=(((i+j)/2:Nat):Int):=by
 rw[show(i:Int)+j=((i+j:Nat):Int) by omega,wrap_i64 (n:=((i+j:Nat):Int)) (by omega) (by omega),wrap_u64 (n:=((i+j:Nat):Int)) (by omega) (by omega),ahE,wrap_i64 (n:=(((i+j)/2:Nat):Int)) (by omega) (by omega)]
theorem U8(l:List Rt)(hl:l.length≤1000000)(id:Int):Contract Tryz.prog 151 [.d (.sl (rts l)),.d (.int .i64 id),.clo 152 []] []
  (.rG [.d (.int .i64 (bsI (fun a=>decide (KY l a<id)) l.length)),.d (.bool (decide (bsI (fun a=>decide (KY l a<id)) l.length<l.length)&&decide (KY l (bsI (fun a=>decide (KY l a<id)) l.length)=id)))]) [] []:=by
 obtain⟨p,hp⟩:∃p:Nat→Bool,p=fun a=>decide (KY l a<id):=⟨_,rfl⟩
 rw[←hp];have hok:aZ Tryz.prog 152=true:=by kernel_rfl
 refine aj Tryz.func151 rfl (fun E0=>?_);refine cO.sound (g:=.mk) (ow:=[]) (kp:=(fun k=>k==0||k==1||k==2||k==6||k==7||k==8||k==9||k==10||k==11||k==17||k==31)) ?_;rw[Tryz.ntmps151];simp -dsimp[rts];refine aN.of [] (fun k=>k==0||k==1||k==2||k==6||k==7||k==8||k==9||k==10||k==11||k==17||k==31) (ι:={z:Nat×Nat // z.1≤z.2∧z.2≤l.length∧bsI p l.length=bsGo p (z.2-z.1) z.1 z.2})
  (fun z=>[(Pl.s 0,It.v (.d (.sl (rts l)))),(Pl.s 1,It.v (.d (.int .i64 id))),(Pl.s 2,It.v (.clo 152 [])),(Pl.s 8,It.v (.d (.int .i64 l.length))),(Pl.s 9,It.v (.d (.int .i64 z.1.1))),(Pl.s 10,It.v (.d (.int .i64 z.1.2)))])
  (fun z=>z.1.2-z.1.1) ⟨(0,l.length),by omega,by omega,rfl⟩ ?_ ?_
 ·exact GS.to (by simp[rts])
 ·rintro⟨⟨i,j⟩,j1,j2,j3⟩;simp only at j1 j2 j3;by_cases hi:i<j
  ·have hiz:(i:Int)<j:=by omega
   rw[U6 hi]at j3
   have hm:(i+j)/2<l.length:=by omega
   have hx:l[(i+j)/2]? = some l[(i+j)/2]:=List.getElem?_eq_getElem hm;have hpm:p ((i+j)/2)=decide (l[(i+j)/2].id<id):=by rw[hp];simp[KY,hm]
   generalize l[(i+j)/2]=x at hx hpm;have hx':=fF hx;have hmd:=afp (i:=i) (j:=j) (by omega);have hij:i≤(i+j)/2∧(i+j)/2<j:=by omega
   generalize (i+j)/2=m at hx hpm hm hmd j3 hx' hij;have hmz:(m:Int)<l.length:=by omega
   have hb:=aeb x id;simp only[aO,Rt.cs,List.map]at hb;simp -dsimp[hiz,hmd,hx',Rt.cs,hmz];refine ah.of hb [] 0 ?_;by_cases hc:x.id<id
   ·rw[hpm,decide_eq_true hc,if_pos rfl]at j3
    simp -dsimp[hok,Qe,hc,wrap_i64 (n:=(m:Int)+1) (by omega) (by omega)];and_intros;all_goals try first|rfl|omega|exact⟨by kernel_rfl⟩
    exact⟨⟨(m+1,j),by omega,by omega,j3⟩,GS.to (by simp),by simp;omega⟩
   ·rw[hpm,decide_eq_false hc,if_neg (by simp)]at j3
    simp -dsimp[hok,Qe,hc];and_intros;all_goals try first|rfl|omega|exact⟨by kernel_rfl⟩
    exact⟨⟨(i,m),by omega,by omega,j3⟩,GS.to (by simp),by simp;omega⟩
  ·have hiz :¬(i:Int)<j:=by omega
   obtain rfl:i=j:=by omega
   rw[XW hi]at j3
   by_cases hl2:i<l.length
   ·have hlz:(i:Int)<l.length:=by omega
    have hx:l[i]? = some l[i]:=List.getElem?_eq_getElem hl2;have hr:KY l i=l[i].id:=by simp[KY,hl2]
    generalize l[i]=x at hx hr;have hx':=fF hx;have hb:=aeb x id;simp only[aO,Rt.cs,List.map]at hb;simp -dsimp[hiz,hlz,hx',Rt.cs,j3];refine ah.of hb [] 0 ?_;simp -dsimp[hok,DX,hl2,hlz,j3];and_intros;all_goals try first|rfl|omega|exact⟨by kernel_rfl⟩
    refine Fin.of ?_;simp[DX,hl2,j3,hr]
   ·have hlz :¬(i:Int)<l.length:=by omega
    simp -dsimp[hiz,hlz,j3];and_intros;all_goals try first|rfl|omega|exact⟨by kernel_rfl⟩
    refine Fin.of ?_;simp[hl2,j3]
def U7(l:List Rt)(id:Int):Nat:=bsI (fun a=>decide (KY l a<id)) l.length
def kQ(l:List Rt)(id:Int):Bool:=decide (U7 l id<l.length)&&decide (KY l (U7 l id)=id)
theorem aiw{l:List Rt}{id:Int}(h:kQ l id=true):U7 l id<l.length:=by
 simp only[kQ,Bool.and_eq_true,decide_eq_true_eq]at h;exact h.1
def bsX(l:List Rt)(id:Int):Rt:=if kQ l id=true then l.getD (U7 l id) ⟨0,false⟩else ⟨0,false⟩
theorem abt{α:Type}{q:α→α→Bool}{r:α→α→Prop}(hr:∀x y,q x y=false→r x y)(ht:∀x y z,r x y→r y z→r x z):∀{l:List α},nO q l=false→l.Pairwise r
 | [],_=>.nil
 | [x],_=>by simp
 | x::y::l,h=>by
   simp only[nO,Bool.or_eq_false_iff]at h;have ih:=abt hr ht (l:=y::l) h.2;refine List.pairwise_cons.2 ⟨fun z hz=>?_,ih⟩;rcases List.mem_cons.1 hz with rfl|hz
   ·exact hr _ _ h.1
   ·exact ht _ _ _ (hr _ _ h.1) ((List.pairwise_cons.1 ih).1 z hz)
theorem aa3{l:List Rt}(h:nO (fun (x y:Rt)=>decide (y.id≤x.id)) l=false):l.Pairwise (fun x y=>x.id<y.id):=
 abt (r:=fun x y=>x.id<y.id) (fun x y h=>by simpa using h) (fun _ _ _=>Int.lt_trans) h
theorem N8{l:List Rt}(h:l.Pairwise fun x y=>x.id<y.id)(id:Int):kQ l id=aY l id∧bsX l id=(O1 l id).getD ⟨0,false⟩:=by
 have hp:=List.pairwise_iff_getElem.1 h;have hr:∀a,(ha:a<l.length)→KY l a=l[a].id:=fun a ha=>by simp[KY,ha]
 have h0:∀a,l.length≤a→KY l a=0:=fun a ha=>by simp[KY,List.getD_eq_getElem?_getD,List.getElem?_eq_none ha]
 obtain⟨p,Vt⟩:∃p:Nat→Bool,p=fun a=>decide (a<l.length∧KY l a<id):=⟨_,rfl⟩
 have ae0:∀(q q':Nat→Bool) (n:Nat),(∀a,a<n→q a=q' a)→∀k i j,j≤n→bsGo q k i j=bsGo q' k i j:=by
  intro q q' n hq k
  induction k with
  | zero=>intro i j _;rfl
  | succ k ih=>
    intro i j hj;rw[bsGo,bsGo];split
    ·rw[hq ((i+j)/2) (by omega),ih _ _ hj,ih i ((i+j)/2) (by omega)]
    ·rfl
 have hb:U7 l id=bsGo p l.length 0 l.length:=ae0 _ _ l.length (fun a ha=>by rw[Vt];simp[ha]) _ _ _ (Nat.le_refl _);obtain⟨g1,g2,g3⟩:=bsGo_spec (p:=p) (fun a b hab hb=>by
  rw[Vt]at hb⊢
  simp only[decide_eq_true_eq]at hb⊢;obtain⟨h1,h2⟩:=hb;rcases Nat.eq_or_lt_of_le hab with e|e
  ·subst e;exact⟨h1,h2⟩
  ·have:=hp a b (by omega) h1 e;rw[hr b h1]at h2
   exact⟨by omega,by rw[hr a (by omega)];omega⟩) l.length 0 l.length (by omega) (by omega) (fun a ha=>by omega)
 rw[←hb]at g1 g2 g3
 have key:∀a,(ha:a<l.length)→l[a].id=id→a=U7 l id:=fun a ha e=>by
  rcases Nat.lt_trichotomy a (U7 l id)with c|c|c
  ·have:=g2 a c;rw[Vt]at this
   simp only[decide_eq_true_eq]at this;rw[hr a ha]at this;omega
  ·exact c
  ·have:=g3 (U7 l id) (Nat.le_refl _) (by omega);rw[Vt]at this
   simp only[decide_eq_false_iff_not,not_and]at this;have h1:=this (by omega);rw[hr _ (by omega)]at h1
   have:=hp (U7 l id) a (by omega) ha c;omega
 by_cases hh:aY l id=true
 ·obtain⟨x,hx,e⟩:=List.any_eq_true.1 hh;obtain⟨a,ha,rfl⟩:=List.mem_iff_getElem.1 hx;simp only[decide_eq_true_eq]at e;obtain rfl:=key a ha e;have hF:kQ l id=true:=by
   simp only[kQ,Bool.and_eq_true,decide_eq_true_eq];exact⟨ha,by rw[hr _ ha];exact e⟩
  refine⟨hF.trans hh.symm,?_⟩;unfold bsX;rw[if_pos hF];have:O1 l id=some l[U7 l id]:=by
   unfold O1;rw[List.find?_eq_some_iff_getElem];refine⟨by simpa using e,U7 l id,ha,rfl,fun j hj=>?_⟩;have:=hp j (U7 l id) (by omega) ha hj;simp;omega
  rw[this];simp[ha]
 ·have hh':aY l id=false:=by simpa using hh
  have hF:kQ l id=false:=by
   refine Bool.eq_false_iff.2 fun e=>hh ?_
   simp only[kQ,Bool.and_eq_true,decide_eq_true_eq]at e;rw[hr _ e.1]at e
   exact List.any_eq_true.2 ⟨_,List.getElem_mem e.1,by simpa using e.2⟩
  refine⟨hF.trans hh'.symm,?_⟩;unfold bsX;rw[hF];have:O1 l id=none:=by
   unfold O1;rw[List.find?_eq_none];intro x hx;have:=List.any_eq_false.1 hh' x hx;simpa using this
  rw[this];simp
theorem abB(g:ay)(hs:g.Sm)(id:Int):Contract Tryz.prog 162 [aH g,.d (.int .i64 id)] [] (.rG [aO (bsX g.rs id),.d (.bool (kQ g.rs id))]) [] []:=by
 have hb:=U8 g.rs hs.r id;have hlt:=aiw (l:=g.rs) (id:=id);simp only[bsX]
 change Contract Tryz.prog _ _ _ (.rG [.d (.int .i64 (U7 g.rs id)),.d (.bool (kQ g.rs id))]) [] []at hb
 refine aj Tryz.func162 rfl (fun E0=>?_);refine cO.sound (g:=.mk) (ow:=[]) (kp:=(fun k=>k==0||k==1||k==2||k==4||k==5||k==6||k==7||k==16)) ?_;rw[Tryz.ntmps162];simp -dsimp[aH];refine ah.of hb [] 0 ?_;rcases (Bool.eq_false_or_eq_true (kQ g.rs id)).symm with h|h
 ·simp -dsimp[h];and_intros;all_goals try first|rfl|omega|exact⟨by kernel_rfl⟩
  refine Fin.of ?_;simp[h,aO,Rt.cs]
 ·have hl:=hlt h;have hx:g.rs[U7 g.rs id]? = some g.rs[U7 g.rs id]:=List.getElem?_eq_getElem hl;have hgd:g.rs.getD (U7 g.rs id) ⟨0,false⟩ = g.rs[U7 g.rs id]:=by simp[hl]
  rw[hgd];generalize g.rs[U7 g.rs id]=x at hx;have hx':=fF hx;have hlz:(U7 g.rs id:Int)<g.rs.length:=by omega
  simp -dsimp[h,hx',Rt.cs,hlz];and_intros;all_goals try first|rfl|omega|exact⟨by kernel_rfl⟩
  refine Fin.of ?_;simp[h,aO,Rt.cs]
theorem acn(n lo hi:Int):Contract Tryz.prog 149 [.d (.int .i64 n),.d (.int .i64 lo),.d (.int .i64 hi)] [] (.d (.bool (inB n lo hi))) [] []:=by
 refine aj Tryz.func149 rfl (fun E0=>?_);refine cO.sound (g:=.mk) (ow:=[]) (kp:=(fun k=>k==0||k==1||k==2||k==6)) ?_;rw[Tryz.ntmps149];by_cases h:lo≤n
 ·simp -dsimp[h];refine Fin.of ?_;simp[inB,h]
 ·simp -dsimp[h];refine Fin.of ?_;simp[inB,h]
theorem ajz(x:Rt):Contract Tryz.prog 148 [aO x] [] (.d (.bool (!inB x.id 1 99))) [] []:=by
 refine aj Tryz.func148 rfl (fun E0=>?_);refine cO.sound (g:=.mk) (ow:=[]) (kp:=(fun k=>k==0||k==1||k==2)) ?_;rw[Tryz.ntmps148];simp -dsimp[aO,Rt.cs];refine ah.of (acn x.id 1 99) [] 0 ?_;simp -dsimp;and_intros;all_goals try first|rfl|omega|exact⟨by kernel_rfl⟩
 refine Fin.of ?_;simp
theorem ajA(x:Lk):Contract Tryz.prog 154 [SH x] [] (.d (.bool x.bad)) [] []:=by
 refine aj Tryz.func154 rfl (fun E0=>?_);refine cO.sound (g:=.mk) (ow:=[]) (kp:=(fun k=>k==0||k==1||k==2)) ?_;rw[Tryz.ntmps154];simp -dsimp[SH,Lk.cs];refine ah.of (acn x.ca 1 1000) [] 0 ?_;rcases (Bool.eq_false_or_eq_true (inB x.ca 1 1000)).symm with b1|b1
 ·simp -dsimp[b1];and_intros;all_goals try first|rfl|omega|exact⟨by kernel_rfl⟩
  refine Fin.of ?_;simp[Lk.bad,b1]
 simp -dsimp[b1];refine ah.of (acn x.cb 1 1000) [] 0 ?_;rcases (Bool.eq_false_or_eq_true (inB x.cb 1 1000)).symm with b2|b2
 ·simp -dsimp[b2];and_intros;all_goals try first|rfl|omega|exact⟨by kernel_rfl⟩
  refine Fin.of ?_;simp[Lk.bad,b1,b2]
 simp -dsimp[b2];refine ah.of (acn x.cap 0 1000) [] 0 ?_;simp -dsimp;and_intros;all_goals try first|rfl|omega|exact⟨by kernel_rfl⟩
 refine Fin.of ?_;simp[Lk.bad,b1,b2]
theorem ajC(x:Lk):Contract Tryz.prog 156 [SH x] [] (.d (.bool (decide (x.b≤x.a)))) [] []:=by
 refine aj Tryz.func156 rfl (fun E0=>?_);refine cO.sound (g:=.mk) (ow:=[]) (kp:=(fun k=>k==0||k==1||k==2)) ?_;rw[Tryz.ntmps156];simp -dsimp[SH,Lk.cs];and_intros;all_goals try first|rfl|omega|exact⟨by kernel_rfl⟩
 refine Fin.of ?_;simp
theorem agc(g:ay)(hs:g.Sm)(hp:g.rs.Pairwise fun x y=>x.id<y.id)(id:Int):Contract Tryz.prog 150 [.d (.int .i64 id),.ptr (.x 0) 0] [.box ([D.sl (rts g.rs),D.sl (dO g.ls)].map .d)] (.d (.bool (!aY g.rs id))) [.box ([D.sl (rts g.rs),D.sl (dO g.ls)].map .d)] []:=by
 have hb:=U8 g.rs hs.r id
 change Contract Tryz.prog _ _ _ (.rG [.d (.int .i64 (U7 g.rs id)),.d (.bool (kQ g.rs id))]) [] []at hb
 rw[(N8 hp id).1]at hb
 refine aj Tryz.func150 rfl (fun E0=>?_);refine cO.sound (g:=.mk) (ow:=[]) (kp:=(fun k=>k==0||k==1||k==3||k==5)) ?_;rw[Tryz.ntmps150];simp -dsimp;refine ah.of hb [] 0 ?_;simp -dsimp;and_intros;all_goals try first|rfl|omega|exact⟨by kernel_rfl⟩
 refine Fin.of ?_;simp
theorem ajB(g:ay)(hs:g.Sm)(hp:g.rs.Pairwise fun x y=>x.id<y.id)(x:Lk):Contract Tryz.prog 155 [SH x,.ptr (.x 0) 0] [.box [.clo 150 [.ptr (.x 1) 0]],.box ([D.sl (rts g.rs),D.sl (dO g.ls)].map .d)] (.d (.bool (!aY g.rs x.a || !aY g.rs x.b)))
  [.box [.clo 150 [.ptr (.x 1) 0]],.box ([D.sl (rts g.rs),D.sl (dO g.ls)].map .d)] []:=by
 have hok:aZ Tryz.prog 150=true:=by kernel_rfl
 refine aj Tryz.func155 rfl (fun E0=>?_);refine cO.sound (g:=.mk) (ow:=[]) (kp:=(fun k=>k==0||k==1||k==2||k==3)) ?_;rw[Tryz.ntmps155];simp -dsimp[SH,Lk.cs];try refine⟨?_,⟨by kernel_rfl⟩⟩
 refine ah.of (agc g hs hp x.a) [.x 1] 0 ?_;rcases (Bool.eq_false_or_eq_true (aY g.rs x.a)).symm with b1|b1
 ·simp -dsimp[b1,hok];and_intros;all_goals try first|rfl|omega|exact⟨by kernel_rfl⟩
  refine Fin.of ?_;simp[b1]
 simp -dsimp[b1,hok];refine ah.of (agc g hs hp x.b) [.x 1] 0 ?_;simp -dsimp[b1,hok];and_intros;all_goals try first|rfl|omega|exact⟨by kernel_rfl⟩
 refine Fin.of ?_;simp[b1]
def Uz(x y:Int):Int:=if x≠0 then x else y
theorem akc(x y:Int):Contract Tryz.prog 225 [.d (ints [x,y])] [] (.d (.int .i64 (Uz x y))) [] []:=by
 refine aj Tryz.func225 rfl (fun E0=>?_);refine cO.sound (g:=.mk) (ow:=[]) (kp:=(fun k=>k==0||k==2||k==3||k==5||k==6||k==7||k==8||k==9||k==14)) ?_;rw[Tryz.ntmps225];simp -dsimp[ints];refine aN.of [] (fun k=>k==0||k==2||k==3||k==5||k==6||k==7||k==8||k==9||k==14) (ι:={i:Nat // i≤2∧(0<i→x=0)∧(1<i→y=0)})
  (fun z=>[(Pl.s 0,It.v (.d (.sl [[D.int .i64 x],[D.int .i64 y]]))),(Pl.s 2,It.v (.d (.int .i64 0))),(Pl.s 3,It.v (.d (.int .i64 0))),
   (Pl.s 6,It.v (.d (.sl [[D.int .i64 x],[D.int .i64 y]]))),(Pl.s 7,It.v (.d (.int .i64 2))),(Pl.s 8,It.v (.d (.int .i64 z.1)))]) (fun z=>2-z.1) ⟨0,by omega,by omega,by omega⟩ ?_ ?_
 ·exact GS.to (by simp)
 ·rintro⟨i,i1,i2,i3⟩;rcases (by omega:i=0∨i=1∨i=2)with rfl|rfl|rfl
  ·by_cases h:x=0
   ·simp -dsimp[h];try refine⟨?_,⟨by kernel_rfl⟩⟩
    exact⟨⟨1,by omega,fun _=>h,by omega⟩,GS.to (by simp[h,wrap_i64 (n:=1) (by omega) (by omega)]),by simp⟩
   ·simp -dsimp[h];try refine⟨?_,⟨by kernel_rfl⟩⟩
    refine Fin.of ?_;simp[Uz,h]
  ·have hx:=i2 (by omega);by_cases h:y=0
   ·simp -dsimp[h];try refine⟨?_,⟨by kernel_rfl⟩⟩
    exact⟨⟨2,by omega,fun _=>hx,fun _=>h⟩,GS.to (by simp[h,wrap_i64 (n:=2) (by omega) (by omega)]),by simp⟩
   ·simp -dsimp[h];try refine⟨?_,⟨by kernel_rfl⟩⟩
    refine Fin.of ?_;simp[Uz,hx]
  ·have hx:=i2 (by omega);have hy:=i3 (by omega);simp -dsimp;refine Fin.of ?_;simp[Uz,hx,hy]
def cmpL(a b:Lk):Int:=Uz (Hu a.a b.a) (Hu a.b b.b)
theorem agI(a b:Lk):decide (0≤cmpL a b)=(decide (b.a<a.a)||decide (a.a=b.a)&&decide (b.b≤a.b)):=by
 unfold cmpL Uz Hu;rcases Int.lt_trichotomy a.a b.a with h|h|h
 ·have e1 :¬b.a<a.a:=by omega
  have e2 :¬a.a=b.a:=by omega
  simp[h,e1,e2]
 ·rcases Int.lt_trichotomy a.b b.b with k|k|k
  ·have e1 :¬b.b≤a.b:=by omega
   simp[h,k,e1]
  ·simp[h,k]
  ·have e1:b.b≤a.b:=by omega
   have e2 :¬a.b<b.b:=by omega
   simp[h,k,e1,e2]
 ·have e1 :¬a.a<b.a:=by omega
  simp[h,e1]
theorem K_(a b:Lk):Contract Tryz.prog 157 [SH a,SH b] [] (.d (.int .i64 (cmpL a b))) [] []:=by
 refine aj Tryz.func157 rfl (fun E0=>?_);refine cO.sound (g:=.mk) (ow:=[]) (kp:=(fun k=>k==0||k==1||k==2||k==3||k==4)) ?_;rw[Tryz.ntmps157];simp -dsimp[SH,Lk.cs];refine ah.of (Oe a.a b.a) [] 0 ?_;simp -dsimp;refine ah.of (Oe a.b b.b) [] 0 ?_;simp -dsimp;have hc:=akc (Hu a.a b.a) (Hu a.b b.b);simp only[ints,List.map]at hc;refine ah.of hc [] 0 ?_;simp -dsimp
 and_intros;all_goals try first|rfl|omega|exact⟨by kernel_rfl⟩
 refine Fin.of ?_;simp[cmpL]
set_option maxHeartbeats 8000000
theorem FQ(g:ay)(hg:g.rs.length≤1000000)(hl:g.ls.length≤1000000):Contract Tryz.prog 78 [aH g] [] (.d (.int .i64 (cZ g))) [] []:=by
 have hs:g.Sm:=⟨hg,hl⟩
 have q1:=QW g.rs (by omega) 148 (fun x=>!inB x.id 1 99) (fun x _=>ajz x) (by kernel_rfl);have q3:=H7 g.ls (by omega) 154 Lk.bad (fun x _=>ajA x) (by kernel_rfl);have q5:=H7 g.ls (by omega) 156 (fun x=>decide (x.b≤x.a)) (fun x _=>ajC x) (by kernel_rfl);by_cases c1:24<g.rs.length
 ·refine aj Tryz.func78 rfl (fun E0=>?_);refine cO.sound (g:=.mk) (ow:=[]) (kp:=(fun k=>k==0||k==1||k==2||k==3||k==4||k==5||k==6||k==17||k==23||k==24||k==25||k==44||k==47||k==51||k==56||k==62||k==63||k==64||k==82)) ?_;rw[Tryz.ntmps78];have yw:(24:Int)<g.rs.length:=by omega
  simp -dsimp[aH,yw];and_intros;all_goals try first|rfl|omega|exact⟨by kernel_rfl⟩
  refine Fin.of ?_;simp[cZ,jc,c1]
 by_cases c2:60<g.ls.length
 ·refine aj Tryz.func78 rfl (fun E0=>?_);refine cO.sound (g:=.mk) (ow:=[]) (kp:=(fun k=>k==0||k==1||k==2||k==3||k==4||k==5||k==6||k==17||k==23||k==24||k==25||k==44||k==47||k==51||k==56||k==62||k==63||k==64||k==82)) ?_;rw[Tryz.ntmps78];have yw :¬(24:Int)<g.rs.length:=by omega
  have c2z:(60:Int)<g.ls.length:=by omega
  simp -dsimp[aH,yw,c2z];and_intros;all_goals try first|rfl|omega|exact⟨by kernel_rfl⟩
  refine Fin.of ?_;simp[cZ,jc,c1,c2]
 have yw :¬(24:Int)<g.rs.length:=by omega
 have c2z :¬(60:Int)<g.ls.length:=by omega
 rcases (Bool.eq_false_or_eq_true (g.rs.any fun x=>!inB x.id 1 99)).symm with e1|e1
 case inr=>
  rw[e1]at q1
  refine aj Tryz.func78 rfl (fun E0=>?_);refine cO.sound (g:=.mk) (ow:=[]) (kp:=(fun k=>k==0||k==1||k==2||k==3||k==4||k==5||k==6||k==17||k==23||k==24||k==25||k==44||k==47||k==51||k==56||k==62||k==63||k==64||k==82)) ?_;rw[Tryz.ntmps78];simp -dsimp[aH,yw,c2z,rts];refine ah.of q1 [] 0 ?_;simp -dsimp;and_intros;all_goals try first|rfl|omega|exact⟨by kernel_rfl⟩
  refine Fin.of ?_;simp only[cZ,jc,cond_true,cond_false,decide_eq_false c1,decide_eq_false c2,e1];simp
 rw[e1]at q1
 refine aj Tryz.func78 rfl (fun E0=>?_);refine cO.sound (g:=.mk) (ow:=[]) (kp:=(fun k=>k==0||k==1||k==2||k==3||k==4||k==5||k==6||k==17||k==23||k==24||k==25||k==44||k==47||k==51||k==56||k==62||k==63||k==64||k==82)) ?_;rw[Tryz.ntmps78];simp -dsimp[aH,yw,c2z,rts];refine ah.of q1 [] 0 ?_;simp -dsimp;try refine⟨?_,⟨by kernel_rfl⟩⟩
 refine aN.of [] (fun k=>k==0||k==1||k==2||k==3||k==4||k==5||k==6||k==17||k==23||k==24||k==25||k==44||k==47||k==51||k==56||k==62||k==63||k==64||k==82) (ι:={i:Nat // i≤g.rs.length∧nO (fun x y=>decide (y.id≤x.id)) g.rs=nO (fun (x y:Rt)=>decide (y.id≤x.id)) (g.rs.drop (i-1))})
  (fun z=>[(Pl.o 1,It.box [TV.d (.sl (rts g.rs)),TV.d (.sl (dO g.ls))]),(Pl.s 1,It.v (.ptr (Pl.o 1) 0)),(Pl.s 2,It.v (.d (.int .i64 0))),(Pl.s 23,It.v (.d (.int .i64 g.rs.length))),(Pl.s 24,It.v (.d (.int .i64 z.1)))])
  (fun z=>g.rs.length-z.1) ⟨0,by omega,by simp⟩ ?_ ?_
 ·exact GS.to (by simp[rts])
 ·rintro⟨i,i1,i2⟩;by_cases hi:i<g.rs.length
  ·have hiz:(i:Int)<g.rs.length:=by omega
   have w1:IntKind.i64.wrap ((i:Int)+1)=(i:Int)+1:=wrap_i64 (by omega) (by omega);by_cases h0:i=0
   ·subst h0;have aiT:0<g.rs.length:=hi;simp -dsimp[aiT,w1];and_intros;all_goals try first|rfl|omega|exact⟨by kernel_rfl⟩
    exact⟨⟨1,by omega,by simp⟩,GS.to (by simp[wrap_i64 (n:=1) (by omega) (by omega)]),by simp;omega⟩
   ·have h0z:(0:Int)<i:=by omega
    obtain⟨j,rfl⟩:∃j,i=j+1:=⟨i-1,by omega⟩
    rw[Nat.add_sub_cancel]at i2
    have hx:g.rs[j]? = some g.rs[j]:=List.getElem?_eq_getElem (by omega);have hy:g.rs[j+1]? = some g.rs[j+1]:=List.getElem?_eq_getElem hi;generalize g.rs[j]=x at hx;generalize g.rs[j+1]=y at hy;have hx':=fF hx;have hy':=fF hy;have w0:IntKind.i64.wrap ((j:Int)+1-1)=j:=by rw[wrap_i64 (by omega) (by omega)];omega
    have w0':IntKind.i64.wrap (j:Int)=j:=wrap_i64 (by omega) (by omega);have hjz:(j:Int)<g.rs.length:=by omega
    have KC:(j:Int)+1<g.rs.length:=by omega
    have aeY:(0:Int)<(j:Int)+1:=by omega
    by_cases a1:y.id≤x.id
    ·simp -dsimp[KC,aeY,hjz,hx',hy',Rt.cs,a1,gZ,w0,w0',w1];and_intros;all_goals try first|rfl|omega|exact⟨by kernel_rfl⟩
     refine Fin.of ?_;have e:=Jo hx hy i2 (by simpa using a1);simp only[cZ,jc,cond_true,cond_false,decide_eq_false c1,decide_eq_false c2,e1,e];simp
    ·simp -dsimp[KC,aeY,hjz,hx',hy',Rt.cs,a1,gZ,w0,w0',wrap_i64 (n:=(j:Int)+1+1) (by omega) (by omega)];and_intros;all_goals try first|rfl|omega|exact⟨by kernel_rfl⟩
     exact⟨⟨j+1+1,by omega,EF hx hy i2 (by simpa using a1)⟩,GS.to (by simp),by simp;omega⟩
  have e2:=Jm (i:=i-1) i2 (by omega);have hiz :¬(i:Int)<g.rs.length:=by omega
  have hpw:=aa3 e2;have q4:=QV g.ls (by omega) 155 150 [D.sl (rts g.rs),D.sl (dO g.ls)] (fun x=>!aY g.rs x.a || !aY g.rs x.b) (fun x _=>ajB g hs hpw x) (by kernel_rfl);simp only[rts,dO]at q4;rcases (Bool.eq_false_or_eq_true (g.ls.any Lk.bad)).symm with e3|e3
  case inr=>
   rw[e3]at q3
   simp -dsimp[hiz,dO];refine ah.of q3 [] 0 ?_;simp -dsimp;and_intros;all_goals try first|rfl|omega|exact⟨by kernel_rfl⟩
   refine Fin.of ?_;simp only[cZ,jc,cond_true,cond_false,decide_eq_false c1,decide_eq_false c2,e1,e2,e3];simp
  rw[e3]at q3
  rcases (Bool.eq_false_or_eq_true (g.ls.any fun x=>!aY g.rs x.a || !aY g.rs x.b)).symm with e4|e4
  case inr=>
   rw[e4]at q4
   simp -dsimp[hiz,dO,rts];refine ah.of q3 [] 0 ?_;simp -dsimp;refine ah.of q4 [.o 4,.o 1] 0 ?_;simp -dsimp;and_intros;all_goals try first|rfl|omega|exact⟨by kernel_rfl⟩
   refine Fin.of ?_;simp only[cZ,jc,cond_true,cond_false,decide_eq_false c1,decide_eq_false c2,e1,e2,e3,e4];simp
  rw[e4]at q4
  rcases (Bool.eq_false_or_eq_true (g.ls.any fun x=>decide (x.b≤x.a))).symm with e5|e5
  case inr=>
   rw[e5]at q5
   simp -dsimp[hiz,dO,rts];refine ah.of q3 [] 0 ?_;simp -dsimp;refine ah.of q4 [.o 4,.o 1] 0 ?_;simp -dsimp;and_intros;all_goals try first|rfl|omega|exact⟨by kernel_rfl⟩
   refine ah.of q5 [] 0 ?_;simp -dsimp;and_intros;all_goals try first|rfl|omega|exact⟨by kernel_rfl⟩
   refine Fin.of ?_;simp only[cZ,jc,cond_true,cond_false,decide_eq_false c1,decide_eq_false c2,e1,e2,e3,e4,e5];simp
  rw[e5]at q5
  simp -dsimp[hiz,dO,rts];refine ah.of q3 [] 0 ?_;simp -dsimp;refine ah.of q4 [.o 4,.o 1] 0 ?_;simp -dsimp;and_intros;all_goals try first|rfl|omega|exact⟨by kernel_rfl⟩
  refine ah.of q5 [] 0 ?_;simp -dsimp;and_intros;all_goals try first|rfl|omega|exact⟨by kernel_rfl⟩
  refine aN.of [] (fun k=>k==0||k==1||k==2||k==3||k==4||k==5||k==6||k==17||k==23||k==24||k==25||k==44||k==47||k==51||k==56||k==62||k==63||k==64||k==82) (ι:={i:Nat // i≤g.ls.length∧nO (fun x y=>decide (y.a<x.a)||decide (x.a=y.a)&&decide (y.b≤x.b)) g.ls=nO (fun (x y:Lk)=>decide (y.a<x.a)||decide (x.a=y.a)&&decide (y.b≤x.b)) (g.ls.drop (i-1))})
   (fun z=>[(Pl.o 1,It.box [TV.d (.sl (rts g.rs)),TV.d (.sl (dO g.ls))]),(Pl.s 1,It.v (.ptr (Pl.o 1) 0)),(Pl.s 2,It.v (.d (.int .i64 0))),(Pl.s 62,It.v (.d (.int .i64 g.ls.length))),(Pl.s 63,It.v (.d (.int .i64 z.1)))])
   (fun z=>g.ls.length-z.1) ⟨0,by omega,by simp⟩ ?_ ?_
  ·exact GS.to (by simp[rts,dO])
  ·rintro⟨i,i1,i2⟩;by_cases hi:i<g.ls.length
   ·have hiz:(i:Int)<g.ls.length:=by omega
    have w1:IntKind.i64.wrap ((i:Int)+1)=(i:Int)+1:=wrap_i64 (by omega) (by omega);by_cases h0:i=0
    ·subst h0;have aiT:0<g.ls.length:=hi;simp -dsimp[aiT,w1];and_intros;all_goals try first|rfl|omega|exact⟨by kernel_rfl⟩
     exact⟨⟨1,by omega,by simp⟩,GS.to (by simp[wrap_i64 (n:=1) (by omega) (by omega)]),by simp;omega⟩
    ·obtain⟨j,rfl⟩:∃j,i=j+1:=⟨i-1,by omega⟩
     rw[Nat.add_sub_cancel]at i2
     have hx:g.ls[j]? = some g.ls[j]:=List.getElem?_eq_getElem (by omega);have hy:g.ls[j+1]? = some g.ls[j+1]:=List.getElem?_eq_getElem hi;generalize g.ls[j]=x at hx;generalize g.ls[j+1]=y at hy;have hx':=o8 hx;have hy':=o8 hy;have w0:IntKind.i64.wrap ((j:Int)+1-1)=j:=by rw[wrap_i64 (by omega) (by omega)];omega
     have w0':IntKind.i64.wrap (j:Int)=j:=wrap_i64 (by omega) (by omega);have hjz:(j:Int)<g.ls.length:=by omega
     have KC:(j:Int)+1<g.ls.length:=by omega
     have aeY:(0:Int)<(j:Int)+1:=by omega
     have hcm:=K_ x y;simp only[SH,Lk.cs,List.map]at hcm;have hge:=agI x y;generalize cmpL x y=cc at hcm hge;by_cases a1:0≤cc
     ·rw[decide_eq_true a1]at hge
      simp -dsimp[KC,aeY,hjz,hx',hy',Lk.cs,gZ,w0,w0',w1];and_intros;all_goals try first|rfl|omega|exact⟨by kernel_rfl⟩
      refine ah.of hcm [] 0 ?_;simp -dsimp[a1];and_intros;all_goals try first|rfl|omega|exact⟨by kernel_rfl⟩
      refine Fin.of ?_;have e:=Jo hx hy i2 hge.symm;simp only[cZ,jc,cond_true,cond_false,decide_eq_false c1,decide_eq_false c2,e1,e2,e3,e4,e5,e];simp
     ·rw[decide_eq_false a1]at hge
      simp -dsimp[KC,aeY,hjz,hx',hy',Lk.cs,gZ,w0,w0'];and_intros;all_goals try first|rfl|omega|exact⟨by kernel_rfl⟩
      refine ah.of hcm [] 0 ?_;simp -dsimp[a1,wrap_i64 (n:=(j:Int)+1+1) (by omega) (by omega)];and_intros;all_goals try first|rfl|omega|exact⟨by kernel_rfl⟩
      exact⟨⟨j+1+1,by omega,EF hx hy i2 hge.symm⟩,GS.to (by simp),by simp;omega⟩
   ·have e6:=Jm (i:=i-1) i2 (by omega);have hiz :¬(i:Int)<g.ls.length:=by omega
    simp -dsimp[hiz];and_intros;all_goals try first|rfl|omega|exact⟨by kernel_rfl⟩
    refine Fin.of ?_;simp only[cZ,jc,cond_true,cond_false,decide_eq_false c1,decide_eq_false c2,e1,e2,e3,e4,e5,e6];simp
theorem Ul(g:ay)(hs:g.Sm):Contract Tryz.prog 163 [aH g] [] (.d (.bool (decide (cZ g=0)))) [] []:=by
 refine aj Tryz.func163 rfl (fun E0=>?_);refine cO.sound (g:=.mk) (ow:=[]) (kp:=(fun k=>k==0||k==1||k==2)) ?_;rw[Tryz.ntmps163];simp -dsimp[aH];refine ah.of (FQ g hs.r hs.l) [] 0 ?_;simp -dsimp[aH];and_intros;all_goals try first|rfl|omega|exact⟨by kernel_rfl⟩
 refine Fin.of ?_;simp
theorem agh(g:ay)(hs:g.Sm)(r:Int):Contract Tryz.prog 101 [aH g,.d (.int .i64 r)] [] (.d (.bool (decide (cZ g=0)&&aY g.rs r))) [] []:=by
 have hf:=abB g hs r;simp only[aO,Rt.cs,List.map]at hf;have hsd:=fun h=>(N8 (aa3 (aU (g:=g) h).ord) r).1
 refine aj Tryz.func101 rfl (fun E0=>?_);refine cO.sound (g:=.mk) (ow:=[]) (kp:=(fun k=>k==0||k==1||k==2||k==4||k==6)) ?_;rw[Tryz.ntmps101];simp -dsimp[aH];refine ah.of hf [] 0 ?_;simp -dsimp[aH];refine ah.of (Ul g hs) [] 0 ?_;by_cases h:cZ g=0
 ·simp -dsimp[h];and_intros;all_goals try first|rfl|omega|exact⟨by kernel_rfl⟩
  refine Fin.of ?_;simp[h,hsd h]
 ·simp -dsimp[h];and_intros;all_goals try first|rfl|omega|exact⟨by kernel_rfl⟩
  refine Fin.of ?_;simp[h]
theorem abd(g:ay)(hs:g.Sm)(r:Int):Contract Tryz.prog 81 [aH g,.d (.int .i64 r)] [] (.d (.bool (decide (cZ g=0)&&dY g.rs r))) [] []:=by
 have hf:=abB g hs r;simp only[aO,Rt.cs,List.map]at hf;have hsd:=fun h=>(N8 (aa3 (aU (g:=g) h).ord) r).2
 refine aj Tryz.func81 rfl (fun E0=>?_);refine cO.sound (g:=.mk) (ow:=[]) (kp:=(fun k=>k==0||k==1||k==2||k==4||k==5)) ?_;rw[Tryz.ntmps81];simp -dsimp[aH];refine ah.of hf [] 0 ?_;simp -dsimp[aH];refine ah.of (Ul g hs) [] 0 ?_;by_cases h:cZ g=0
 ·simp -dsimp[h];and_intros;all_goals try first|rfl|omega|exact⟨by kernel_rfl⟩
  refine Fin.of ?_;simp[h,hsd h,dY]
 ·simp -dsimp[h];and_intros;all_goals try first|rfl|omega|exact⟨by kernel_rfl⟩
  refine Fin.of ?_;simp[h]
set_option linter.unusedVariables false
set_option maxHeartbeats 16000000
theorem Zi(g:ay)(hs:g.Sm):Contract Tryz.prog 158 [aH g] [] (.d (.bool (decide (cZ g=0)))) [] []:=by
 refine aj Tryz.func158 rfl (fun E0=>?_);refine cO.sound (g:=.mk) (ow:=[]) (kp:=(fun k=>k==0||k==1||k==2)) ?_;rw[Tryz.ntmps158];simp -dsimp[aH];refine ah.of (FQ g hs.r hs.l) [] 0 ?_;simp -dsimp[aH];and_intros;all_goals try first|omega|exact⟨by kernel_rfl⟩|rfl
 refine Fin.of ?_;simp
def XO(g:ay)(to:Int)(l:IM):List (List Int×D):=l.map fun x=>([x.1],ints (steps g (dist g to) x.1))
def Zv(g:ay)(to:Int)(l:IM):List (List Int×TV):=(XO g to l).map fun x=>(x.1,.d x.2)
def Zp(g:ay)(to:Int):D:=if cZ g=0 then PZ (XO g to (DM g to))else .mp [] []
theorem ahM(g:ay)(to:Int)(l:IM):DR 1 (Zv g to l):=fun y hy=>by
 simp only[Zv,XO,List.map_map,List.mem_map]at hy;obtain⟨x,_,rfl⟩:=hy;rfl
theorem ahN{g:ay}{to:Int}{l:IM}{x:Int}(h:x∉l.map (·.1))(v:TV):zu (Zv g to l) [x] v=Zv g to l++[([x],v)]:=by
 refine YH fun y hy e=>?_
 simp only[Zv,XO,List.map_map,List.mem_map]at hy;obtain⟨z,hz,rfl⟩:=hy;simp only[Function.comp,List.cons.injEq,and_true]at e;exact h (List.mem_map.2 ⟨z,hz,e⟩)
@[simp]theorem ak3{po:Nat→Prop}{g:ay}{to:Int}{l:IM}{c:Nat}{pd:Option (List Int)}{s:Option mJ}:It.only po (It.jX (Zv g to l) c pd s):=by
 intro x hx;simp only[Zv,XO,List.map_map,List.mem_map]at hx;obtain⟨y,_,rfl⟩:=hx;exact trivial
@[simp]theorem ah_{po:Nat→Prop}{l:IM}{s:mJ}:It.only po (It.IE (im l) s):=by
 intro x hx;obtain⟨y,_,rfl⟩:=List.mem_map.1 hx;exact trivial
theorem agm(g:ay)(hs:g.Sm)(to:Int):Contract Tryz.prog 79 [aH g,.d (.int .i64 to)] [] (.d (Zp g to)) [] []:=by
 refine aj Tryz.func79 rfl (fun E0=>?_);refine cO.sound (g:=.mk) (ow:=[3000009]) (kp:=(fun k=>k==0||k==1||k==2||k==4||k==5||k==6||k==7||k==8||k==12||k==21||k==23)) ?_;rw[Tryz.ntmps79];by_cases h0:cZ g=0
 ·have hg:=aU h0;have hrd:=aje g (by have:=hg.nr;omega) (by have:=hg.nl;omega) (ak9 hg) (fun x hx=>by
   obtain⟨h1,h2⟩:=hg.ends' hx;exact⟨dH.1 h1,dH.1 h2⟩) (fun x hx=>by have:=hg.lab hx;omega) (fun v=>ab6 hg v)
  have hds:=X7 g hg to;have hnx:=fun x=>ahp g hg to x
  have hnd:=aem hg to;have hst:∀x∈DM g to,nxG (DM g to) (BN g.ls x.1) x.1=steps g (dist g to) x.1:=fun x hx=>by
   by_cases hto:aY g.rs to=true
   ·exact adl hg hto (aiC hg hto) ((Oh hto).1 (show(x.1,x.2)∈_ from hx)).1
   ·unfold DM at hx;rw[if_neg hto]at hx;simp at hx
  have hD:Zp g to=PZ (XO g to (DM g to)):=by unfold Zp;rw[if_pos h0]
  rw[hD];obtain⟨L,hL⟩:∃L,L=DM g to:=⟨_,rfl⟩
  rw[←hL]at hds hnx hnd hst⊢
  simp only[XL]at hds;simp only[grT,ouM,XL]at hnx;simp -dsimp[aH];refine ah.of (Zi g hs) [] 0 ?_;simp -dsimp[aH,h0];refine ah.of hrd [] 0 ?_;simp -dsimp[aH,h0];and_intros;all_goals try first|omega|exact⟨by kernel_rfl⟩|rfl
  refine ah.of hds [] 0 ?_;simp -dsimp[aH,h0];and_intros;all_goals try first|omega|exact⟨by kernel_rfl⟩|rfl
  refine Ho.range ?_;simp -dsimp[Lh,OY,Vu,Qr,abM];intro sn;refine aN.of [3000009] (fun k=>k==0||k==1||k==2||k==4||k==5||k==6||k==7||k==8||k==12||k==21||k==23) (ι:={z:IM×List (List Int)×Option (List Int) // ((z.1.map fun x=>[x.1])++z.2.1).Perm (L.map fun x=>[x.1])∧∀x∈z.1,x∈L})
   (fun z=>[(Pl.s 5,It.v (.mref 9)),(Pl.o 9,It.jX (Zv g to z.1.1) 0 none none),(Pl.s 6,It.v (.ptr (Pl.o 6) 0)),(Pl.o 6,It.box [.d (ouM g),.d (XL g)]),(Pl.s 7,It.v (.d (Vu L))),
    (Pl.s 21,It.v (.ptr (Pl.o 21) 0)),(Pl.o 21,It.DK 4000021 sn z.1.2.1 z.1.2.2),(Pl.o 4000021,It.IE (im L) sn)])
   (fun z=>z.1.2.1.length) ⟨([],L.map (fun x=>[x.1]),none),by simp,by simp⟩ ?_ ?_
  ·exact GS.to (by simp[Zv,XO,ouM,XL,Vu])
  ·rintro⟨⟨dn,left,cur⟩,j1,j2⟩;simp only at j1 j2;simp -dsimp;refine Ho.next ?_;simp -dsimp[VD];refine⟨fun hl0=>?_,fun x hx=>?_⟩
   ·subst hl0;rw[List.append_nil]at j1
    have hp:=ab8 j1 j2 hnd;refine Fin.ghost ?_ (GS.afE (l':=[(Pl.s 4,It.v (.mref 9)),(Pl.o 9,It.jX (Zv g to L) 0 none none)]) 9 (c:=0) (pd:=none) (s:=none) (es:=Zv g to dn) (es':=Zv g to L) (by simp) ((hp.map _).map _) (by simp));refine Fin.yc 9 (XO g to L) (c:=0) (pd:=none) (s:=none) (by simp[Zv]) ?_;simp -dsimp;refine Fin.of ?_;simp
   ·have hxm:x∈L.map fun x=>[x.1]:=j1.mem_iff.1 (List.mem_append.2 (.inr hx))
    obtain⟨y,hy,rfl⟩:=afc hxm;have hgy:gI L y.1=some y.2:=JZ hnd (show(y.1,y.2)∈L from hy);have hnk:y.1∉dn.map (·.1):=fun hm=>by
     obtain⟨z,hz,e⟩:=List.mem_map.1 hm;have nd:((dn.map fun x=>[x.1])++left).Nodup:=j1.symm.nodup (by
      rw[List.nodup_iff_pairwise_ne,List.pairwise_map]at hnd⊢
      exact hnd.imp fun h e=>h (by simpa using e))
     exact(List.nodup_append.1 nd).2.2 [z.1] (List.mem_map.2 ⟨z,hz,rfl⟩) [y.1] hx (by rw[e])
    have hkp:=fun v=>ahN (g:=g) (to:=to) hnk v
    have hkl:=ahM g to dn;simp -dsimp[uw,hgy];refine ah.of (hnx y.1) [] 0 ?_;rw[hst y hy];simp -dsimp[uw,hgy,hkl,hkp];have jp:(((dn++[y]).map fun x=>[x.1])++left.erase [y.1]).Perm (L.map fun x=>[x.1]):=by
     rw[List.map_append,List.append_assoc];exact(((List.perm_cons_erase hx).symm).append_left _).trans j1
    have jm:∀x∈dn++[y],x∈L:=fun x hx=>by
     rcases List.mem_append.1 hx with h|h
     ·exact j2 x h
     ·rw[List.mem_singleton.1 h];exact hy
    have hlt:(left.erase [y.1]).length<left.length:=by
     rw[List.length_erase_of_mem hx];have:=List.length_pos_of_mem hx;omega
    have hsn:Zv g to (dn++[y])=Zv g to dn++[([y.1],TV.d (ints (steps g (dist g to) y.1)))]:=by simp[Zv,XO]
    exact⟨rfl,rfl,⟨⟨(dn++[y],left.erase [y.1],some [y.1]),jp,jm⟩,GS.to (by simp[←hsn]),hlt⟩⟩
 ·have hD:Zp g to = .mp [] []:=by unfold Zp;rw[if_neg h0]
  rw[hD];simp -dsimp[aH];refine ah.of (Zi g hs) [] 0 ?_;simp -dsimp[aH,h0];refine Fin.yc 9 [] rfl ?_;simp -dsimp;refine Fin.of ?_;simp[PZ]
end Go.Proofs
