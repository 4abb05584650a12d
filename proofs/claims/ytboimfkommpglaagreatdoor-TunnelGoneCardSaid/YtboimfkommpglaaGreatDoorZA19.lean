/-
  What functions of the program compute, stated as contracts over plain data; the conditions of each stand in its own statement.
-/
import Derived.Test.YtboimfkommpglaaGreatDoorZA18
import Derived.Test.YtboimfkommpglaaGreatDoorZA13
import Derived.Test.YtboimfkommpglaaGreatDoorZA14
import Derived.Test.YtboimfkommpglaaGreatDoorZA17
set_option linter.unusedSimpArgs false
set_option maxRecDepth 100000
set_option maxHeartbeats 2000000
namespace Go.Proofs
open Go Go.Tr
theorem ac1(l:List Tb)(hl:l.length≤1000000)(f:FuncId)(q:Tb→Bool)(hf:∀x,x∈l→Contract Tryz.prog f [bZ x] [] (.d (.bool (q x))) [] [])(hok:aZ Tryz.prog f=true):
  Contract Tryz.prog 228 [.d (.sl (l.map Tb.cs)),.clo f []] [] (.d (.int .i64 (MI q l))) [] []:=by
 refine aj Tryz.func228 rfl (fun E0=>?_);refine cO.sound (g:=.mk) (ow:=[]) (kp:=(fun k=>k==0||k==1||k==4||k==5||k==7||k==8||k==9||k==16)) ?_;rw[Tryz.ntmps228];simp -dsimp;refine aN.of [] (fun k=>k==0||k==1||k==4||k==5||k==7||k==8||k==9||k==16) (ι:={i:Nat // i≤l.length∧∀a,a<i→∀x,l[a]? = some x→q x=false})
  (fun z=>[(Pl.s 0,It.v (.d (.sl (l.map Tb.cs)))),(Pl.s 1,It.v (.clo f [])),(Pl.s 4,It.v (.d (.int .i64 0))),(Pl.s 7,It.v (.d (.int .i64 l.length))),(Pl.s 8,It.v (.d (.int .i64 z.1)))]) (fun z=>l.length-z.1) ⟨0,by omega,fun a h=>by omega⟩ ?_ ?_
 ·exact GS.to (by simp)
 ·rintro⟨i,i1,i2⟩;by_cases hi:i<l.length
  ·have hiz:(i:Int)<l.length:=by omega
   have hx:l[i]? = some l[i]:=List.getElem?_eq_getElem hi;have hm:l[i]∈l:=List.getElem_mem hi;generalize l[i]=x at hx hm;simp -dsimp[hiz,hx,Tb.cs,bV,wrap_i64 (n:=(i:Int)+1) (by omega) (by omega)];and_intros;all_goals try first|rfl|omega|exact⟨by kernel_rfl⟩
   refine ah.of (hf x hm) [] 0 ?_;rcases (Bool.eq_false_or_eq_true (q x)).symm with h|h
   ·simp -dsimp[h,hok,bZ,bV,wrap_i64 (n:=(i:Int)+1) (by omega) (by omega)];and_intros;all_goals try first|rfl|omega|exact⟨by kernel_rfl⟩
    exact⟨⟨i+1,by omega,fun a ha y hy=>by
     by_cases e:a=i
     ·subst e;rw[hx]at hy;simp only[Option.some.injEq]at hy;subst hy;exact h
     ·exact i2 a (by omega) y hy⟩,GS.to (by simp),by simp;omega⟩
   ·simp -dsimp[h,hok,bZ,bV];and_intros;all_goals try first|rfl|omega|exact⟨by kernel_rfl⟩
    refine Fin.of ?_;simp[Iq hx h i2]
  ·simp -dsimp[hi];refine Fin.of ?_;simp;exact(Ir fun a ha=>i2 a (by omega)).symm
theorem Ux(l:List Tb)(hl:l.length≤1000000)(f:FuncId)(q:Tb→Bool)(hf:∀x,x∈l→Contract Tryz.prog f [bZ x] [] (.d (.bool (q x))) [] [])(hok:aZ Tryz.prog f=true):
  Contract Tryz.prog 171 [.d (.sl (l.map Tb.cs)),.clo f []] [] (.d (.bool (l.any q))) [] []:=by
 refine aj Tryz.func171 rfl (fun E0=>?_);refine cO.sound (g:=.mk) (ow:=[]) (kp:=(fun k=>k==0||k==1||k==4)) ?_;rw[Tryz.ntmps171];simp -dsimp;refine ah.of (ac1 l hl f q hf hok) [] 0 ?_;simp -dsimp;refine Fin.of ?_;simp[D6]
theorem ac2(l:List Tb)(hl:l.length≤1000000)(f:FuncId)(ds:List D)(q:Tb→Bool)(hf:∀x,x∈l→Contract Tryz.prog f [bZ x,.ptr (.x 0) 0] [.box (ds.map .d)] (.d (.bool (q x))) [.box (ds.map .d)] [])(hok:aZ Tryz.prog f=true):
  Contract Tryz.prog 228 [.d (.sl (l.map Tb.cs)),.clo f [.ptr (.x 0) 0]] [.box (ds.map .d)] (.d (.int .i64 (MI q l))) [.box (ds.map .d)] []:=by
 refine aj Tryz.func228 rfl (fun E0=>?_);refine cO.sound (g:=.mk) (ow:=[]) (kp:=(fun k=>k==0||k==1||k==4||k==5||k==7||k==8||k==9||k==16)) ?_;rw[Tryz.ntmps228];simp -dsimp;refine aN.of [] (fun k=>k==0||k==1||k==4||k==5||k==7||k==8||k==9||k==16) (ι:={i:Nat // i≤l.length∧∀a,a<i→∀x,l[a]? = some x→q x=false})
  (fun z=>[(Pl.s 0,It.v (.d (.sl (l.map Tb.cs)))),(Pl.s 1,It.v (.clo f [TV.ptr (Pl.x 0) 0])),(Pl.x 0,It.box (List.map TV.d ds)),(Pl.s 4,It.v (.d (.int .i64 0))),(Pl.s 7,It.v (.d (.int .i64 l.length))),(Pl.s 8,It.v (.d (.int .i64 z.1)))]) (fun z=>l.length-z.1) ⟨0,by omega,fun a h=>by omega⟩ ?_ ?_
 ·exact GS.to (by simp)
 ·rintro⟨i,i1,i2⟩;by_cases hi:i<l.length
  ·have hiz:(i:Int)<l.length:=by omega
   have hx:l[i]? = some l[i]:=List.getElem?_eq_getElem hi;have hm:l[i]∈l:=List.getElem_mem hi;generalize l[i]=x at hx hm;simp -dsimp[hiz,hx,Tb.cs,bV,wrap_i64 (n:=(i:Int)+1) (by omega) (by omega)];and_intros;all_goals try first|rfl|omega|exact⟨by kernel_rfl⟩
   refine ah.of (hf x hm) [.x 0] 0 ?_;rcases (Bool.eq_false_or_eq_true (q x)).symm with h|h
   ·simp -dsimp[h,hok,bZ,bV,wrap_i64 (n:=(i:Int)+1) (by omega) (by omega)];and_intros;all_goals try first|rfl|omega|exact⟨by kernel_rfl⟩
    exact⟨⟨i+1,by omega,fun a ha y hy=>by
     by_cases e:a=i
     ·subst e;rw[hx]at hy;simp only[Option.some.injEq]at hy;subst hy;exact h
     ·exact i2 a (by omega) y hy⟩,GS.to (by simp),by simp;omega⟩
   ·simp -dsimp[h,hok,bZ,bV];and_intros;all_goals try first|rfl|omega|exact⟨by kernel_rfl⟩
    refine Fin.of ?_;simp[Iq hx h i2]
  ·simp -dsimp[hi];refine Fin.of ?_;simp;exact(Ir fun a ha=>i2 a (by omega)).symm
theorem Uy(l:List Tb)(hl:l.length≤1000000)(f:FuncId)(ds:List D)(q:Tb→Bool)(hf:∀x,x∈l→Contract Tryz.prog f [bZ x,.ptr (.x 0) 0] [.box (ds.map .d)] (.d (.bool (q x))) [.box (ds.map .d)] [])(hok:aZ Tryz.prog f=true):
  Contract Tryz.prog 171 [.d (.sl (l.map Tb.cs)),.clo f [.ptr (.x 0) 0]] [.box (ds.map .d)] (.d (.bool (l.any q))) [.box (ds.map .d)] []:=by
 refine aj Tryz.func171 rfl (fun E0=>?_);refine cO.sound (g:=.mk) (ow:=[]) (kp:=(fun k=>k==0||k==1||k==4)) ?_;rw[Tryz.ntmps171];simp -dsimp;refine ah.of (ac2 l hl f ds q hf hok) [.x 0] 0 ?_;simp -dsimp;refine Fin.of ?_;simp[D6]
def oq(l:List Tb):List (List D):=l.map Tb.cs
def rws(l:List Rw):List (List D):=l.map Rw.cs
theorem Nz{l:List Rw}{i:Nat}{x:Rw}(h:l[i]? = some x):(rws l)[i]? = some [.int .i64 x.id,ints x.nx]:=by simp[rws,h,Rw.cs]
@[simp]theorem anO(l:List Rw):(rws l).length=l.length:=by simp[rws]
theorem JF(l:List Rw)(x:Rw):rws (l++[x])=rws l++[[.int .i64 x.id,ints x.nx]]:=by simp[rws,Rw.cs]
theorem jf(l:List Rw):bV l = .sl (rws l):=rfl
theorem wX{l:List Tb}{i:Nat}{b:Tb}(h:l[i]? = some b):(oq l)[i]? = some [.int .i64 b.r,.int .i64 b.sd,.int .i64 b.len,.sl (rws b.rows)]:=by simp[oq,h,Tb.cs,jf]
@[simp]theorem anQ(l:List Tb):(oq l).length=l.length:=by simp[oq]
structure DL(l:List Tb):Prop where
 n:l.length≤1000
 t:∀b∈l,b.Sm
structure Tb.SmB(b:Tb):Prop where
 rows:b.rows.length≤9223372036854775807
 nx:∀x∈b.rows,x.nx.length≤9223372036854775807
theorem Tb.Sm.big{b:Tb}(h:b.Sm):b.SmB:=⟨Nat.le_trans h.rows (by decide),fun x hx=>Nat.le_trans (h.nx x hx) (by decide)⟩
structure ZB(l:List Tb):Prop where
 n:l.length≤1000
 t:∀b∈l,b.SmB
theorem DL.big{l:List Tb}(h:DL l):ZB l:=⟨h.n,fun b hb=>(h.t b hb).big⟩
def tb0:Tb:=⟨0,0,0,[]⟩
def nR(l:List Tb):Int:=jc [(decide (24<l.length),3),(l.any fun b=>decide (chk b≠0),1),(nO (fun x y=>decide (y.r≤x.r)) l,25),
 (l.any fun b=>decide (b.sd≠(l.headD tb0).sd)||decide (b.len≠(l.headD tb0).len),8)]
def bH(l:List Tb)(r:Int):Option Tb:=l.find? fun b=>decide (b.r=r)
def su(o:Option Tb):TV:=.rG [bZ (o.getD tb0),.d (.bool o.isSome)]
theorem CO(l:List Tb)(hl:DL l)(r:Int):Contract Tryz.prog 108 [.d (.sl (oq l)),.d (.int .i64 r)] [] (su (bH l r)) [] []:=by
 have hn:=hl.n;refine aj Tryz.func108 rfl (fun E0=>?_);refine cO.sound (g:=.mk) (ow:=[]) (kp:=(fun k=>k==0||k==1||k==4||k==5||k==6||k==10||k==19)) ?_;rw[Tryz.ntmps108];simp -dsimp
 refine aN.of [] (fun k=>k==0||k==1||k==4||k==5||k==6||k==10||k==19) (ι:={i:Nat // i≤l.length∧bH l r=bH (l.drop i) r}) (fun z=>[(Pl.s 0,It.v (.d (.sl (oq l)))),(Pl.s 1,It.v (.d (.int .i64 r))),(Pl.o 4,It.box [TV.d (.int .i64 0),TV.d (.int .i64 0),TV.d (.int .i64 0),TV.c (Value.slice none 0 0)]),(Pl.s 4,It.v (.ptr (Pl.o 4) 0)),(Pl.s 5,It.v (.d (.bool false))),(Pl.s 6,It.v (.d (.int .i64 z.1)))]) (fun z=>l.length-z.1) ⟨0,by omega,rfl⟩ ?_ ?_
 ·exact GS.to (by simp)
 rintro⟨i,i1,i2⟩;by_cases hi:i<l.length
 ·have hiz:(i:Int)<l.length:=by omega
  have hx:l[i]? = some l[i]:=List.getElem?_eq_getElem hi;generalize l[i]=b at hx;have hx':=wX hx;by_cases hr:b.r=r
  ·have e:bH l r=some b:=Rq hx i2 (by simpa using hr);simp -dsimp[hiz,hx',eq_true hr];and_intros;all_goals try first|rfl|omega|exact⟨by kernel_rfl⟩
   refine Fin.of ?_;simp[su,e,bZ,jf]
  ·have e:bH l r=bH (l.drop (i+1)) r:=Ot hx i2 (by simpa using hr);simp -dsimp[hiz,hx',eq_false hr,wrap_i64 (n:=(i:Int)+1) (by omega) (by omega)];and_intros;all_goals try first|rfl|omega|exact⟨by kernel_rfl⟩
   exact⟨⟨i+1,by omega,e⟩,GS.to (by simp[]),by simp;omega⟩
 ·have e:bH l r=none:=Ro i2 hi;have hiz :¬(i:Int)<l.length:=by omega
  simp -dsimp[hiz];refine Fin.box (.o 4) rfl ?_;simp -dsimp;refine Fin.of ?_;simp[su,e,bZ,jf,tb0,rws]
theorem DV(l:List Tb)(hl:ZB l):Contract Tryz.prog 106 [.d (.sl (oq l))] [] (.d (.int .i64 (nR l))) [] []:=by
 have hn:=hl.n;refine aj Tryz.func106 rfl (fun E0=>?_);refine cO.sound (g:=.mk) (ow:=[]) (kp:=(fun k=>k==0||k==2||k==3||k==4||k==5||k==8||k==12||k==20||k==24||k==38||k==42||k==66)) ?_;rw[Tryz.ntmps106];by_cases c1:24<l.length
 ·have yw:(24:Int)<l.length:=by omega
  simp -dsimp[yw];refine Fin.of ?_;simp[nR,jc,c1]
 have yw :¬(24:Int)<l.length:=by omega
 simp -dsimp[yw];clear yw;refine aN.of [] (fun k=>k==0||k==2||k==3||k==4||k==5||k==8||k==12||k==20||k==24||k==38||k==42||k==66) (ι:={i:Nat // i≤l.length∧(l.any fun b=>decide (chk b≠0))=(l.drop i).any fun b=>decide (chk b≠0)}) (fun z=>[(Pl.s 0,It.v (.d (.sl (oq l)))),(Pl.s 2,It.v (.d (.int .i64 0))),(Pl.s 3,It.v (.d (.int .i64 z.1)))]) (fun z=>l.length-z.1) ⟨0,by omega,rfl⟩ ?_ ?_
 ·exact GS.to (by simp)
 rintro⟨i,i1,i2⟩;by_cases hi:i<l.length
 ·have hiz:(i:Int)<l.length:=by omega
  have hx:l[i]? = some l[i]:=List.getElem?_eq_getElem hi;have hm:=hl.t l[i] (List.getElem_mem hi);generalize l[i]=b at hx hm;have hx':=wX hx;simp -dsimp[hiz,hx'];and_intros;all_goals try first|rfl|omega|exact⟨by kernel_rfl⟩
  refine ah.of (Kr b hm.rows hm.nx) [] 0 ?_;by_cases a1:chk b=0
  ·simp -dsimp[hiz,hx',bZ,jf,eq_true a1,wrap_i64 (n:=(i:Int)+1) (by omega) (by omega)];and_intros;all_goals try first|rfl|omega|exact⟨by kernel_rfl⟩
   exact⟨⟨i+1,by omega,Cb hx i2 (by simpa using a1)⟩,GS.to (by simp[]),by simp;omega⟩
  ·simp -dsimp[hiz,hx',bZ,jf,eq_false a1];and_intros;all_goals try first|rfl|omega|exact⟨by kernel_rfl⟩
   refine Fin.of ?_;have e:(l.any fun b=>decide (chk b≠0))=true:=Bo hx (by simpa using a1);simp only[nR,jc,cond_true,cond_false,decide_eq_false c1,e];simp
 have e1:=F5 i2 hi;have hiz :¬(i:Int)<l.length:=by omega
 simp -dsimp[hiz]
 as_aux_lemma=>
 refine aN.of [] (fun k=>k==0||k==2||k==3||k==4||k==5||k==8||k==12||k==20||k==24||k==38||k==42||k==66) (ι:={i:Nat // i≤l.length∧nO (fun x y=>decide (y.r≤x.r)) l=nO (fun (x y:Tb)=>decide (y.r≤x.r)) (l.drop i)}) (fun z=>[(Pl.s 0,It.v (.d (.sl (oq l)))),(Pl.s 2,It.v (.d (.int .i64 0))),(Pl.s 4,It.v (.d (.int .i64 ((z.1:Int)+1))))]) (fun z=>l.length-z.1) ⟨0,by omega,rfl⟩ ?_ ?_
 ·exact GS.to (by simp)
 rintro⟨i,i1,i2⟩;by_cases hi:i+1<l.length
 ·have hi0:i<l.length:=by omega
  have hiz:(i:Int)+1<l.length:=by omega
  have hx:l[i]? = some l[i]:=List.getElem?_eq_getElem hi0;have hy:l[i+1]? = some l[i+1]:=List.getElem?_eq_getElem hi;generalize l[i]=x at hx;generalize l[i+1]=y at hy;have hx':=wX hx;have hy':=wX hy;by_cases a1:y.r≤x.r
  ·simp -dsimp[hiz,hx',hy',a1,gZ,wrap_i64 (n:=(i:Int)) (by omega) (by omega)];and_intros;all_goals try first|rfl|omega|exact⟨by kernel_rfl⟩
   refine Fin.of ?_;have e:=Jo hx hy i2 (by simpa using a1);simp only[nR,jc,cond_true,cond_false,decide_eq_false c1,e1,e];simp
  ·simp -dsimp[hiz,hx',hy',a1,gZ,wrap_i64 (n:=(i:Int)) (by omega) (by omega),wrap_i64 (n:=(i:Int)+1+1) (by omega) (by omega)];and_intros;all_goals try first|rfl|omega|exact⟨by kernel_rfl⟩
   exact⟨⟨i+1,by omega,EF hx hy i2 (by simpa using a1)⟩,GS.to (by simp[]),by simp;omega⟩
 have e2:=Jm i2 hi;have hiz :¬(i:Int)+1<l.length:=by omega
 simp -dsimp[hiz]
 as_aux_lemma=>
 have hcf:(l.any fun b=>decide (b.sd≠(l.headD tb0).sd)||decide (b.len≠(l.headD tb0).len))=((l.drop 1).any fun b=>decide (b.sd≠(l.headD tb0).sd)||decide (b.len≠(l.headD tb0).len)):=by
  cases l with
  | nil=>rfl
  | cons c m=>
    have:(decide (c.sd≠c.sd)||decide (c.len≠c.len))=false:=by simp
    exact(congrArg (· || _) this).trans (Bool.false_or _)
 have hget:∀(i:Nat) (b:Tb),l[i]? = some b→l[0]? = some (l.headD tb0):=fun i b h=>by
  have hi:=(List.getElem?_eq_some_iff.1 h).1;obtain⟨c,m,e⟩:=List.exists_cons_of_length_pos (show 0<l.length by omega);rw[e];rfl
 have hck:nR l=bif (l.any fun b=>decide (b.sd≠(l.headD tb0).sd)||decide (b.len≠(l.headD tb0).len))then 8 else 0:=by
  simp only[nR,jc,cond_true,cond_false,decide_eq_false c1,e1,e2]
 generalize l.headD tb0=c at hcf hget hck
 refine aN.of [] (fun k=>k==0||k==2||k==3||k==4||k==5||k==8||k==12||k==20||k==24||k==38||k==42||k==66) (ι:={i:Nat // (l.any fun b=>decide (b.sd≠c.sd)||decide (b.len≠c.len))=(l.drop (i+1)).any fun b=>decide (b.sd≠c.sd)||decide (b.len≠c.len)}) (fun z=>[(Pl.s 0,It.v (.d (.sl (oq l)))),(Pl.s 2,It.v (.d (.int .i64 0))),(Pl.s 5,It.v (.d (.int .i64 ((z.1:Int)+1))))]) (fun z=>l.length-z.1) ⟨0,hcf⟩ ?_ ?_
 ·exact GS.to (by simp)
 rintro⟨i,i2⟩;by_cases hi:i+1<l.length
 ·have hiz:(i:Int)+1<l.length:=by omega
  have hx:l[i+1]? = some l[i+1]:=List.getElem?_eq_getElem hi;have h0:=hget _ _ hx;generalize l[i+1]=b at hx;have hx':=wX hx;have h0':=wX h0;by_cases a1:b.sd=c.sd
  ·by_cases a2:b.len=c.len
   ·simp -dsimp[hiz,hx',h0',eq_true a1,eq_true a2,gZ,wrap_i64 (n:=(i:Int)+1+1) (by omega) (by omega)];and_intros;all_goals try first|rfl|omega|exact⟨by kernel_rfl⟩
    exact⟨⟨i+1,Cb hx i2 (by simp[a1,a2])⟩,GS.to (by simp),by simp;omega⟩
   ·simp -dsimp[hiz,hx',h0',eq_true a1,eq_false a2,gZ];and_intros;all_goals try first|rfl|omega|exact⟨by kernel_rfl⟩
    refine Fin.of ?_;have e:=Bo (q:=fun b=>decide (b.sd≠c.sd)||decide (b.len≠c.len)) hx (by simp[a2]);rw[hck,e];simp
  ·simp -dsimp[hiz,hx',h0',eq_false a1,gZ];and_intros;all_goals try first|rfl|omega|exact⟨by kernel_rfl⟩
   refine Fin.of ?_;have e:=Bo (q:=fun b=>decide (b.sd≠c.sd)||decide (b.len≠c.len)) hx (by simp[a1]);rw[hck,e];simp
 ·have e3:=F5 i2 hi;have hiz :¬(i:Int)+1<l.length:=by omega
  simp -dsimp[hiz];refine Fin.of ?_;rw[hck,e3];simp
theorem aiz(b:Tb)(hb:b.SmB):Contract Tryz.prog 172 [bZ b] [] (.d (.bool (decide (chk b≠0)))) [] []:=by
 refine aj Tryz.func172 rfl (fun E0=>?_);refine cO.sound (g:=.mk) (ow:=[]) (kp:=(fun k=>k==0||k==1||k==2)) ?_;rw[Tryz.ntmps172];simp -dsimp[bZ];refine ah.of (V3 b hb.rows hb.nx) [] 0 ?_;simp -dsimp[bZ];refine Fin.of ?_;simp
theorem akb(l:List Tb)(c:Tb)(h0:l[0]? = some c)(b:Tb):Contract Tryz.prog 174 [bZ b,.ptr (.x 0) 0] [.box ([D.sl (oq l)].map .d)] (.d (.bool (decide (b.sd≠c.sd)||decide (b.len≠c.len)))) [.box ([D.sl (oq l)].map .d)] []:=by
 have h0':=wX h0;have hl:0<l.length:=(List.getElem?_eq_some_iff.1 h0).1;refine aj Tryz.func174 rfl (fun E0=>?_);refine cO.sound (g:=.mk) (ow:=[]) (kp:=(fun k=>k==0||k==1||k==2||k==3)) ?_;rw[Tryz.ntmps174];by_cases a1:b.sd=c.sd
 ·simp -dsimp[bZ,h0',eq_true a1];and_intros;all_goals try first|rfl|omega|exact⟨by kernel_rfl⟩
  refine Fin.of ?_;simp
 ·simp -dsimp[bZ,h0',eq_false a1];and_intros;all_goals try first|rfl|omega|exact⟨by kernel_rfl⟩
  refine Fin.of ?_;simp[a1]
theorem acK(l:List Tb)(hl:ZB l):Contract Tryz.prog 98 [.d (.sl (oq l))] [] (.d (.int .i64 (nR l))) [] []:=by
 have hn:=hl.n;refine aj Tryz.func98 rfl (fun E0=>?_);refine cO.sound (g:=.mk) (ow:=[]) (kp:=(fun k=>k==0||k==1||k==2||k==3||k==4||k==8||k==12||k==13||k==14||k==31||k==35)) ?_;rw[Tryz.ntmps98];by_cases c1:24<l.length
 ·have yw:(24:Int)<l.length:=by omega
  simp -dsimp[yw];refine Fin.of ?_;simp[nR,jc,c1]
 have yw :¬(24:Int)<l.length:=by omega
 simp -dsimp[yw];have hA:=Ux l (by omega) 172 (fun b=>decide (chk b≠0)) (fun b hb=>aiz b (hl.t b hb)) (by simp);refine ah.of hA [] 0 ?_;rcases Bool.eq_false_or_eq_true (l.any fun b=>decide (chk b≠0))with e1|e1
 ·rw[e1];simp -dsimp[yw,oq];refine Fin.of ?_;simp only[nR,jc,cond_true,cond_false,decide_eq_false c1,e1];simp
 rw[e1];simp -dsimp[yw,oq]
 as_aux_lemma=>
 refine aN.of [] (fun k=>k==0||k==1||k==2||k==3||k==4||k==8||k==12||k==13||k==14||k==31||k==35) (ι:={i:Nat // i≤l.length∧nO (fun x y=>decide (y.r≤x.r)) l=nO (fun (x y:Tb)=>decide (y.r≤x.r)) (l.drop (i-1))}) (fun z=>[(Pl.s 0,It.v (.d (.sl (oq l)))),(Pl.o 1,It.box [TV.d (.sl (oq l))]),(Pl.s 1,It.v (.ptr (Pl.o 1) 0)),(Pl.s 2,It.v (.d (.int .i64 0))),(Pl.s 12,It.v (.d (.int .i64 l.length))),(Pl.s 13,It.v (.d (.int .i64 z.1)))]) (fun z=>l.length-z.1) ⟨0,by omega,rfl⟩ ?_ ?_
 ·exact GS.to (by simp[oq])
 rintro⟨i,i1,i2⟩;by_cases hi:i<l.length
 ·have hiz:(i:Int)<l.length:=by omega
  have hy:l[i]? = some l[i]:=List.getElem?_eq_getElem hi;generalize l[i]=y at hy;have hy':=wX hy;by_cases h0:i=0
  ·have h0z :¬0<i:=by omega
   simp -dsimp[hiz,hy',h0z,wrap_i64 (n:=(i:Int)+1) (by omega) (by omega)];and_intros;all_goals try first|rfl|omega|exact⟨by kernel_rfl⟩
   exact⟨⟨i+1,by omega,by simp[h0]⟩,GS.to (by simp),by simp;omega⟩
  ·have h0z:0<i:=by omega
   have hx:l[i-1]? = some l[i-1]:=List.getElem?_eq_getElem (by omega);have hi1:((i:Int)-1).toNat=i-1:=by omega
   have hy2:l[i-1+1]? = some y:=by rw[show i-1+1=i by omega];exact hy
   generalize l[i-1]=x at hx;have hx':=wX hx;by_cases a1:y.r≤x.r
   ·simp -dsimp[hiz,hx',hy',h0z,hi1,a1,wrap_i64 (n:=(i:Int)-1) (by omega) (by omega)];and_intros;all_goals try first|rfl|omega|exact⟨by kernel_rfl⟩
    refine Fin.of ?_;have e:=Jo hx hy2 i2 (by simpa using a1);simp only[nR,jc,cond_true,cond_false,decide_eq_false c1,e1,e];simp
   ·simp -dsimp[hiz,hx',hy',h0z,hi1,a1,wrap_i64 (n:=(i:Int)-1) (by omega) (by omega),wrap_i64 (n:=(i:Int)+1) (by omega) (by omega)];and_intros;all_goals try first|rfl|omega|exact⟨by kernel_rfl⟩
    have e:=EF hx hy2 i2 (by simpa using a1);rw[show i-1+1=i by omega]at e
    exact⟨⟨i+1,by omega,e⟩,GS.to (by simp),by simp;omega⟩
 have e2:nO (fun x y=>decide (y.r≤x.r)) l=false:=Jm i2 (by omega);have hiz :¬(i:Int)<l.length:=by omega
 simp -dsimp[hiz];have hget:∀b∈l,l[0]? = some (l.headD tb0):=fun b h=>by
  have hi:=List.length_pos_of_mem h;obtain⟨c,m,e⟩:=List.exists_cons_of_length_pos hi;rw[e];rfl
 have hck:nR l=bif (l.any fun b=>decide (b.sd≠(l.headD tb0).sd)||decide (b.len≠(l.headD tb0).len))then 8 else 0:=by
  simp only[nR,jc,cond_true,cond_false,decide_eq_false c1,e1,e2]
 have hB:=Uy l (by omega) 174 [D.sl (oq l)] (fun b=>decide (b.sd≠(l.headD tb0).sd)||decide (b.len≠(l.headD tb0).len)) (fun b hb=>akb l _ (hget b hb) b) (by simp);rw[hck];generalize (l.any fun b=>decide (b.sd≠(l.headD tb0).sd)||decide (b.len≠(l.headD tb0).len))=B at hB⊢;have hT:l.map Tb.cs=oq l:=rfl;rw[hT]at hB
 refine ah.of hB [.o 1] 0 ?_;cases B
 ·simp -dsimp;refine Fin.of ?_;simp
 ·simp -dsimp;refine Fin.of ?_;simp
theorem XZ(l:List Tb)(hl:DL l):Contract Tryz.prog 98 [.d (.sl (oq l))] [] (.d (.int .i64 (nR l))) [] []:=acK l hl.big
theorem aeD(l:List Tb)(hl:DL l)(r:Int):Contract Tryz.prog 100 [.d (.sl (oq l)),.d (.int .i64 r)] [] (su (bH l r)) [] []:=by
 have hn:=hl.n;refine aj Tryz.func100 rfl (fun E0=>?_);refine cO.sound (g:=.mk) (ow:=[]) (kp:=(fun k=>k==0||k==1||k==4||k==5||k==7||k==8||k==10||k==11||k==12||k==13||k==14||k==20||k==24||k==25||k==26||k==27)) ?_;rw[Tryz.ntmps100];simp -dsimp
 refine aN.of [] (fun k=>k==0||k==1||k==4||k==5||k==7||k==8||k==10||k==11||k==12||k==13||k==14||k==20||k==24||k==25||k==26||k==27) (ι:={i:Nat // i≤l.length∧bH l r=bH (l.drop i) r}) (fun z=>[(Pl.s 0,It.v (.d (.sl (oq l)))),(Pl.s 1,It.v (.d (.int .i64 r))),(Pl.o 4,It.box [TV.d (.int .i64 0),TV.d (.int .i64 0),TV.d (.int .i64 0),TV.c (Value.slice none 0 0)]),(Pl.s 4,It.v (.ptr (Pl.o 4) 0)),(Pl.s 5,It.v (.d (.bool false))),(Pl.s 11,It.v (.d (.sl (oq l)))),(Pl.s 12,It.v (.d (.int .i64 l.length))),(Pl.s 13,It.v (.d (.int .i64 z.1)))]) (fun z=>l.length-z.1) ⟨0,by omega,rfl⟩ ?_ ?_
 ·exact GS.to (by simp)
 rintro⟨i,i1,i2⟩;by_cases hi:i<l.length
 ·have hiz:(i:Int)<l.length:=by omega
  have hx:l[i]? = some l[i]:=List.getElem?_eq_getElem hi;have hm:=hl.t l[i] (List.getElem_mem hi);generalize l[i]=b at hx hm;have hx':=wX hx;by_cases hr:b.r=r
  ·have e:bH l r=some b:=Rq hx i2 (by simpa using hr);have hrl:=hm.rows;simp -dsimp[hiz,hx',eq_true hr];and_intros;all_goals try first|rfl|omega|exact⟨by kernel_rfl⟩
   as_aux_lemma=>
   refine aN.of [] (fun k=>k==0||k==1||k==4||k==5||k==7||k==8||k==10||k==11||k==12||k==13||k==14||k==20||k==24||k==25||k==26||k==27) (ι:={k:Nat // k≤b.rows.length}) (fun z=>[(Pl.o 4,It.box [TV.d (.int .i64 0),TV.d (.int .i64 0),TV.d (.int .i64 0),TV.c (Value.slice none 0 0)]),(Pl.s 4,It.v (.ptr (Pl.o 4) 0)),(Pl.s 5,It.v (.d (.bool false))),(Pl.o 8,It.box [TV.d (.int .i64 b.r),TV.d (.int .i64 b.sd),TV.d (.int .i64 b.len),TV.aB 1000 z.1]),(Pl.s 8,It.v (.ptr (Pl.o 8) 0)),(Pl.o 1000,.row 167 2 (dd (rws (b.rows.take z.1))) false),(Pl.s 24,It.v (.d (.sl (rws b.rows)))),(Pl.s 25,It.v (.d (.int .i64 b.rows.length))),(Pl.s 26,It.v (.d (.int .i64 z.1)))]) (fun z=>b.rows.length-z.1) ⟨0,by omega⟩ ?_ ?_
   ·exact GS.gq (.o 8) 3 1000 (cs:=[TV.d (.int .i64 b.r),TV.d (.int .i64 b.sd),TV.d (.int .i64 b.len),TV.c (Value.slice none 0 0)]) 167 2 (by simp) (by simp) (by simp) (by simp) (by simp[rws])
   rintro⟨k,k1⟩;by_cases hk:k<b.rows.length
   ·have hkz:(k:Int)<b.rows.length:=by omega
    have hy:b.rows[k]? = some b.rows[k]:=List.getElem?_eq_getElem hk;have ht:b.rows.take (k+1)=b.rows.take k++[b.rows[k]]:=by rw[List.take_add_one,List.getElem?_eq_getElem hk];rfl
    have hnx:=hm.nx b.rows[k] (List.getElem_mem hk);generalize b.rows[k]=y at hy ht hnx;have hy':=Nz hy;simp -dsimp[hkz,hy'];and_intros;all_goals try first|rfl|omega|exact⟨by kernel_rfl⟩
    refine ah.of (Wx y.nx (by omega)) [] 0 ?_;simp -dsimp[hkz,hy',ints,wrap_i64 (n:=(k:Int)+1) (by omega) (by omega)];and_intros;all_goals try first|rfl|omega|exact⟨by kernel_rfl⟩
    exact⟨⟨k+1,by omega⟩,GS.to (by simp[ht,JF,ints]),by simp;omega⟩
   ·have hkz :¬(k:Int)<b.rows.length:=by omega
    obtain rfl:k=b.rows.length:=by omega
    simp -dsimp[hkz];refine Fin.box (.o 4) rfl ?_;simp -dsimp;refine Fin.of ?_;simp[su,e,bZ,jf]
  ·have e:bH l r=bH (l.drop (i+1)) r:=Ot hx i2 (by simpa using hr);simp -dsimp[hiz,hx',eq_false hr,wrap_i64 (n:=(i:Int)+1) (by omega) (by omega)];and_intros;all_goals try first|rfl|omega|exact⟨by kernel_rfl⟩
   exact⟨⟨i+1,by omega,e⟩,GS.to (by simp[]),by simp;omega⟩
 ·have e:bH l r=none:=Ro i2 hi;have hiz :¬(i:Int)<l.length:=by omega
  simp -dsimp[hiz];refine Fin.box (.o 4) rfl ?_;simp -dsimp;refine Fin.of ?_;simp[su,e,bZ,jf,tb0,rws]
theorem uN{b:Tb}(h:chk b=0):b.head∧b.rows.length≤256∧(∀x∈b.rows,x.nx.length≤24)∧∀x∈b.rows,¬(1<x.nx.length∧b.r∈x.nx):=by
 unfold chk at h;split at h
 ·simp at h
 rename_i h1;split at h
 ·simp at h
 split at h
 ·simp at h
 rename_i h2;split at h
 ·simp at h
 rename_i h3;split at h
 ·simp at h
 split at h
 ·simp at h
 rename_i h4;exact⟨Classical.byContradiction fun g=>h1 g,by omega,fun x hx=>Nat.le_of_not_lt fun g=>h3 ⟨x,hx,g⟩,fun x hx g=>h4 ⟨x,hx,g⟩⟩
theorem Bc{b:Tb}(h:chk b=0):b.Sm:=⟨by have:=(uN h).2.1;omega,fun x hx=>by have:=(uN h).2.2.1 x hx;omega⟩
theorem Vr(cost tree:Int)(skip:Bool)(b:Int):∀(n:Nat) (a:Int) (T:Tp) (l:List Lk),(dV cost tree skip b n a T l).1.length≤l.length+n
 | 0,_,_,_=>Nat.le_refl _
 | n+1,a,T,l=>by
   have h1:=Vr cost tree skip b n (a+1) (dI cost tree skip b a T l).2 (dI cost tree skip b a T l).1;have h2:=zN cost tree skip b a T l;rw[dV];omega
theorem Vs(cost:Int):∀(n:Nat) (b:Int) (T:Tp) (l:List Lk),0≤b→(dS cost n b T l).1.length≤l.length+n*(b+n).toNat
 | 0,_,_,_,_=>by simp[dS]
 | n+1,b,T,l,hb=>by
   have h1:=Vs cost n (b+1) (gW cost b T l).2 (gW cost b T l).1 (by omega);have h2:(gW cost b T l).1.length≤l.length+(b-1).toNat:=Vr _ _ _ _ _ _ _ _;rw[dS];have e:(b+1+n).toNat=(b+(n+1:Nat)).toNat:=by omega
   rw[e]at h1
   have h3:(n+1)*(b+(n+1:Nat)).toNat=n*(b+(n+1:Nat)).toNat+(b+(n+1:Nat)).toNat:=Nat.succ_mul _ _;omega
theorem Tm:∀(l out:List Lk),(jO l out).length=l.length+out.length
 | [],_=>by simp[jO]
 | x::l,out=>by
   rw[jO,Tm l];simp;omega
theorem vV(T:Tp){most:Int}(hm:1≤most∧most≤24):(dG T most).1.rs.length≤24∧(dG T most).1.ls.length≤1000:=by
 have b1:=aS T 1 most;have b2:=aQ T (a:=1) (b:=most) (by omega);simp only[dG,Tm];generalize aT T 1 most=R at b1 b2⊢;have h:=Vs (aK R.2 [1,2,2,5]).1 (R.1+1-2).toNat 2 (aK R.2 [1,2,2,5]).2 [] (by omega);have h1:(R.1+1-2).toNat≤23:=by omega
 have h2:(2+((R.1+1-2).toNat:Int)).toNat≤25:=by omega
 have h3:=Nat.mul_le_mul h1 h2;simp only[List.length_nil]at h⊢;exact⟨by simp[cu];omega,by omega⟩
theorem RI:∀(l:List Rt) (T:Tp),ak (iy l T).2=ak T
 | [],_=>rfl
 | x::l,T=>by simp[iy,RI l]
@[simp]theorem ajT(T:Tp)(most:Int):ak (bW T most).2=ak T:=by simp[bW,RI]
def xq(l:List Rw)(k:Nat)(y:Rw)(id:Nat):List (List TV):=dd (rws (l.take k))++[TV.d (.int .i64 y.id),TV.aB id y.nx.length]::dd (rws (l.drop (k+1)))
@[simp]theorem ak1(po:Nat→Prop)(l:List Rw)(k:Nat)(y:Rw)(id:Nat):rD po (xq l k y id)=po id:=by simp[xq,TV.xE,TV.only]
@[simp]theorem aic(ν:List Pl)(rs:List (Nat×Nat))(T:Tp):KR ν rs (aJ T)=some (aJ T):=by simp[aJ,ints,TI]
@[simp]theorem ajQ(ν:List Pl)(c:Nat)(l:List Rw)(k:Nat)(y:Rw)(id:Nat):(xq l k y id).map (TV.backs ν c)=xq l k y (c+id):=by simp[xq]
theorem eY{l:List Tb}{r:Int}{b:Tb}(h:bH l r=some b):b∈l∧b.r=r:=⟨List.mem_of_find?_eq_some h,by simpa using List.find?_some h⟩
theorem ajc{l:List Tb}{pr:List Int}(h:pr.Nodup)(hf:∀x∈pr,(bH l x).isSome):pr.length≤l.length:=by
 have:=S9 (m:=l.map (·.r)) h fun x hx=>by
  obtain⟨b,hb⟩:=Option.isSome_iff_exists.1 (hf x hx);obtain⟨h1,h2⟩:=eY hb;exact List.mem_map.2 ⟨b,h1,h2⟩
 simpa using this
def tz(B:BitVec 64):Nat:=((List.range 64).find? fun i=>B.getLsbD i).getD 64
theorem xP{B:BitVec 64}(h:B≠0#64):tz B<64∧B.getLsbD (tz B)=true∧∀i<tz B,B.getLsbD i=false:=by
 unfold tz;cases hf:(List.range 64).find? fun i=>B.getLsbD i with
 | none=>
   exfalso;apply h;apply BitVec.eq_of_getLsbD_eq;intro i hi;have:=List.find?_eq_none.1 hf i (by simpa using hi);simpa using this
 | some k=>
   have h1:=List.find?_some hf;have h2:=List.mem_of_find?_eq_some hf;refine⟨by simpa using h2,h1,fun i hi=>?_⟩;obtain⟨_,ps,qs,e,ha⟩:=List.find?_eq_some_iff_append.1 hf;have hi':i∈ps:=by
    have hk:ps.length=k:=by
     have h3:(List.range 64)[ps.length]? = some k:=by rw[e];simp
     have h4:ps.length<64:=by
      have:=congrArg List.length e;simp at this;omega
     rw[List.getElem?_range h4]at h3
     exact Option.some.inj h3
    have h5:(List.range 64)[i]? = some i:=List.getElem?_range (by simp at h2 hi;omega);rw[e,List.getElem?_append_left (by simp at hi;omega)]at h5
    exact List.mem_of_getElem? h5
   simpa using ha i hi'
theorem ahk{B:BitVec 64}(h:B≠0#64):B &&& -B=1#64<<<tz B:=by
 obtain⟨h1,h2,h3⟩:=xP h;apply BitVec.eq_of_getLsbD_eq;intro i hi;rw[BitVec.getLsbD_and,BitVec.getLsbD_neg];simp only[BitVec.getLsbD_shiftLeft,BitVec.getLsbD_one];rcases Nat.lt_trichotomy i (tz B)with g|g|g
 ·simp[h3 i g,g]
 ·have :¬∃j<i,B.getLsbD j=true:=fun⟨j,hj,e⟩=>by rw[h3 j (by omega)]at e;cases e
  subst g;rw[h2];simp[this,h1]
 ·have:∃j<i,B.getLsbD j=true:=⟨_,g,h2⟩
  have e :¬i<tz B:=by omega
  have e' :¬i-tz B=0:=by omega
  simp[this,e,e',hi]
theorem aiB:∀k:Nat,k<64→deb[(((1#64<<<k)*0x03f79d71b4ca8b09#64)>>>58).toNat]? = some (k:Int):=by decide
theorem ajJ(X:BitVec 64)(c:Int):wu (tn X*c)=X*wu c:=by
 rw[wu,BitVec.ofInt_mul];exact congrArg (· * wu c) (Hl X)
theorem ajK(X:BitVec 64):wu (tn (wu (-tn X))) = -X:=by
 rw[Hl,wu,BitVec.ofInt_neg];exact congrArg (- ·) (Hl X)
theorem aiA{B:BitVec 64}(h:B≠0#64):∃v:Nat,Zh IntKind.u64 (IntKind.u64.wrap (tn (B&&&wu (IntKind.u64.wrap (-tn B)))*285870213051353865)) 58=v∧v<64∧deb[v]? = some (tz B:Int):=by
 refine⟨(((1#64<<<tz B)*0x03f79d71b4ca8b09#64)>>>58).toNat,?_,?_,aiB _ (xP h).1⟩
 ·rw[xQ,xQ,ajK,ahk h,ajJ,acr];rfl
 ·rw[BitVec.toNat_ushiftRight,Nat.shiftRight_eq_div_pow];have:=((1#64<<<tz B)*0x03f79d71b4ca8b09#64).isLt;omega
theorem ajH(B:BitVec 64):Contract Tryz.prog 237 [.d (bv B)] [] (.d (.int .i64 (tz B))) [] []:=by
 refine aj Tryz.func237 rfl (fun E0=>?_);refine cO.sound (g:=.mk) (ow:=[]) (kp:=(fun k=>k==0||k==2||k==4)) ?_;rw[Tryz.ntmps237];by_cases h:B=0#64
 ·subst h;simp -dsimp[bv];refine Fin.of ?_;simp;decide
 ·obtain⟨v,e,hv,hd⟩:=aiA h;have ht:=(xP h).1;simp -dsimp[bv,h,e,hd];refine⟨by omega,?_⟩;simp -dsimp[bv,h,e,hd,wrap_i64 (n:=(tz B:Int)) (by omega) (by omega)];refine Fin.of ?_;simp
def jF(B:BitVec 64):Int:=if B=0#64 then -1 else(tz B:Int)
theorem abC(B:BitVec 64):Contract Tryz.prog 182 [.d (bv B)] [] (.d (.int .i64 (jF B))) [] []:=by
 refine aj Tryz.func182 rfl (fun E0=>?_);refine cO.sound (g:=.mk) (ow:=[]) (kp:=(fun k=>k==0||k==2||k==4)) ?_;rw[Tryz.ntmps182];by_cases h:B=0#64
 ·subst h;simp -dsimp[bv];refine Fin.of ?_;simp[jF]
 ·simp -dsimp[bv,h];refine ah.of (ajH B) [] 0 ?_;simp -dsimp;refine⟨rfl,Fin.of ?_⟩;simp[jF,h]
def ku(B:BitVec 64):List Nat:=(List.range 64).filter fun i=>B.getLsbD i
theorem Oc(B:BitVec 64)(i:Nat)(hi:i<64):(B&&&wu (tn B-1)).getLsbD i=(B.getLsbD i&&decide (∃j<i,B.getLsbD j=true)):=by
 have e:wu (tn B-1) = ~~~(-B):=by
  rw[BitVec.not_neg,wu,Int.sub_eq_add_neg,BitVec.ofInt_add];rw[show BitVec.ofInt 64 (tn B)=B from Hl B,show BitVec.ofInt 64 (-1) = -1#64 by decide,BitVec.sub_eq_add_neg]
 rw[e,BitVec.getLsbD_and,BitVec.getLsbD_not,BitVec.getLsbD_neg];cases h:B.getLsbD i
 ·simp
 ·simp[hi]
theorem QN{B:BitVec 64}(h:B≠0#64):ku B=tz B::ku (B&&&wu (tn B-1)):=by
 obtain⟨h1,h2,h3⟩:=xP h;have e:List.range 64=List.range (tz B)++(tz B::(List.range' (tz B+1) (63-tz B))):=by
  rw[←List.range'_succ,List.range_eq_range',List.range_eq_range',show 64=tz B+(63-tz B+1) by omega,←List.range'_append_1];simp
 have f1:∀(C:BitVec 64),(∀i<tz B,C.getLsbD i=false)→(List.range (tz B)).filter (fun i=>C.getLsbD i) = []:=fun C hC=>by
  rw[List.filter_eq_nil_iff];intro i hi;simp[hC i (by simpa using hi)]
 have c0:∀i<tz B,(B&&&wu (tn B-1)).getLsbD i=false:=fun i hi=>by rw[Oc B i (by omega),h3 i hi];rfl
 have c1:(B&&&wu (tn B-1)).getLsbD (tz B)=false:=by
  rw[Oc B _ h1,h2];have :¬∃j<tz B,B.getLsbD j=true:=fun⟨j,hj,e⟩=>by rw[h3 j hj]at e;cases e
  simp[this]
 unfold ku;rw[e,List.filter_append,List.filter_append,f1 B h3,f1 _ c0,List.filter_cons,List.filter_cons,h2,c1];simp only[List.nil_append,if_true,Bool.false_eq_true,if_false,List.cons.injEq,true_and];apply List.filter_congr;intro i hi;have hi':=List.mem_range'_1.1 hi;rw[Oc B i (by omega)];have:∃j<i,B.getLsbD j=true:=⟨tz B,by omega,h2⟩
 simp[this]
theorem QO:ku 0#64 = []:=by simp[ku]
theorem xY(B:BitVec 64):(ku B).length≤64:=by
 have:=List.length_filter_le (fun i=>B.getLsbD i) (List.range 64);simpa[ku]using this
def lg(B:BitVec 64):List Int:=(ku B).map Int.ofNat
theorem iT(B:BitVec 64):(lg B).length≤64:=by simpa[lg]using xY B
theorem Cm{B:BitVec 64}(h:B≠0#64):lg B=(tz B:Int)::lg (B&&&wu (tn B-1)):=by simp[lg,QN h]
theorem vK:lg 0#64 = []:=by simp[lg,QO]
theorem ai0(B:BitVec 64):Contract Tryz.prog 240 [.d (bv B)] [] (.d (ints (lg B))) [] []:=by
 have hB:=iT B;refine aj Tryz.func240 rfl (fun E0=>?_);refine cO.sound (g:=.mk) (ow:=[]) (kp:=(fun k=>k==0||k==2||k==3||k==5)) ?_;rw[Tryz.ntmps240];simp -dsimp[bv]
 refine aN.of [3] (fun k=>k==0||k==2||k==3||k==5) (ι:={z:BitVec 64×List Int // lg B=z.2++lg z.1}) (fun z=>[(Pl.s 0,It.v (.d (.int IntKind.u64 (tn z.1.1)))),(Pl.s 2,It.v (.c (Value.slice none 0 0))),(Pl.s 3,It.v (.aB 3 z.1.2.length)),(Pl.o 3,.row 3 1 (dd (dJ .i64 z.1.2)) false)]) (fun z=>(lg z.1.1).length) ⟨(B,[]),by simp⟩ ?_ ?_
 ·exact GS.own' (k:=3) 3 1 (by simp) (by simp) (by simp[dJ])
 ·rintro⟨⟨R,l⟩,h⟩;simp only at h;have hl:=congrArg List.length h;simp only[List.length_append]at hl;simp -dsimp;by_cases h0:R=0#64
  ·subst h0;simp -dsimp;refine Fin.view 2 ?_;simp -dsimp;refine Fin.of ?_;simp[h,vK,ints,dJ]
  ·have hs:=Cm h0;have hf:=abC R;simp only[bv]at hf;have ht:=(xP h0).1;rw[hs]at hl
   simp only[List.length_cons]at hl;simp -dsimp[h0];refine ah.of hf [] 0 ?_;have e:jF R=(tz R:Int):=by simp[jF,h0]
   rw[e];simp -dsimp[h0];and_intros;all_goals try first|rfl|omega|exact⟨by kernel_rfl⟩
   refine⟨⟨(R&&&wu (tn R-1),l++[(tz R:Int)]),by simp[h,hs]⟩,GS.to (by simp[dJ,xQ]),by simp[hs]⟩
theorem aj7(set bit len:Int):Contract Tryz.prog 183 [.d (.int .i64 set),.d (.int .i64 bit),.d (.int .i64 len)] [] (zD set bit len) [] []:=by
 refine aj Tryz.func183 rfl (fun E0=>?_);refine cO.sound (g:=.mk) (ow:=[]) (kp:=(fun k=>k==0||k==1||k==2||k==6||k==7||k==8||k==23||k==31)) ?_;rw[Tryz.ntmps183];simp -dsimp;refine ah.of (qH len) [] 0 ?_;rcases (Bool.eq_false_or_eq_true (aG len)).symm with a1|a1
 ·simp -dsimp[a1];try refine⟨?_,⟨by kernel_rfl⟩⟩
  refine Fin.of ?_;simp[zD,Ej,a1]
 ·have hl:len=8∨len=16∨len=32∨len=64:=by simp[aG]at a1;omega
  simp -dsimp[a1,wrap_i64 (n:=len-1) (by omega) (by omega)];refine ah.of (aat bit 0 (len-1)) [] 0 ?_;rcases (Bool.eq_false_or_eq_true (inB bit 0 (len-1))).symm with a2|a2
  ·simp -dsimp[a1,a2];try refine⟨?_,⟨by kernel_rfl⟩⟩
   refine Fin.of ?_;simp[zD,Ej,a1,a2]
  ·simp -dsimp[a1,a2];refine ah.of (aat set 0 31) [] 0 ?_;rcases (Bool.eq_false_or_eq_true (inB set 0 31)).symm with a3|a3
   ·simp -dsimp[a1,a2,a3];try refine⟨?_,⟨by kernel_rfl⟩⟩
    refine Fin.of ?_;simp[zD,Ej,a1,a2,a3]
   ·have b2:0≤bit∧bit≤len-1:=by simpa[inB]using a2
    have b3:0≤set∧set≤31:=by simpa[inB]using a3
    have b4:0≤set*len∧set*len≤1984:=by rcases hl with rfl|rfl|rfl|rfl<;>omega
    by_cases a4:set*len+bit+1≤256
    ·have a5 :¬256<set*len+bit+1:=by omega
     simp -dsimp[a1,a2,a3,a4,a5,wrap_i64 (n:=set*len) (by omega) (by omega),wrap_i64 (n:=set*len+bit) (by omega) (by omega),wrap_i64 (n:=set*len+bit+1) (by omega) (by omega)];try refine⟨?_,⟨by kernel_rfl⟩⟩
     refine Fin.of ?_;simp[zD,Ej,a1,a2,a3,a4]
    ·have a5:256<set*len+bit+1:=by omega
     simp -dsimp[a1,a2,a3,a4,a5,wrap_i64 (n:=set*len) (by omega) (by omega),wrap_i64 (n:=set*len+bit) (by omega) (by omega),wrap_i64 (n:=set*len+bit+1) (by omega) (by omega)];try refine⟨?_,⟨by kernel_rfl⟩⟩
     refine Fin.of ?_;simp[zD,Ej,a1,a2,a3,a4]
def kX(p:Pk):Int:=if p.ok=true then p.ent%8 else 0
theorem Tj{p:Pk}(h:p.ok=true):0≤p.ent∧p.ent≤1023:=by
 simp only[Pk.ok,wS,Bool.and_eq_true,decide_eq_true_eq]at h;omega
theorem ahu(p:Pk):Contract Tryz.prog 181 [dX p] [] (.d (.int .i64 (kX p))) [] []:=by
 refine aj Tryz.func181 rfl (fun E0=>?_);refine cO.sound (g:=.mk) (ow:=[]) (kp:=(fun k=>k==0||k==1||k==2||k==5)) ?_;rw[Tryz.ntmps181];have hv:=FU p;simp only[dX,Pk.cs,List.map]at hv;simp -dsimp[dX,Pk.cs];refine ah.of hv [] 0 ?_;rcases (Bool.eq_false_or_eq_true p.ok).symm with a1|a1
 ·simp -dsimp[a1];refine Fin.of ?_;simp[kX,a1]
 ·have h:=Tj a1;simp -dsimp[a1,wrap_i64 (n:=p.ent%8) (by omega) (by omega),Int.tmod_eq_emod_of_nonneg h.1];refine Fin.of ?_;simp[kX,a1]
def ji(p:Pk)(m:BitVec 64):Pk:=⟨p.mode,p.bF,p.set,p.len,p.ttl-1,p.ent,p.ing,p.proto,p.bits&&&m,p.pay⟩
def Bh:Pk:=⟨0,0,0,0,0,0,0,0,0#64,⟨#[]⟩⟩
def jg(p:Pk)(m:BitVec 64):Pk×Bool:=if p.ok=true∧p.ttl≠0∧p.bits&&&m≠0#64 then(ji p m,true)else(Bh,false)
theorem qA{p:Pk}(h:p.ok=true):0≤p.ttl∧p.ttl≤63:=by
 simp only[Pk.ok,wS,Bool.and_eq_true,decide_eq_true_eq]at h;omega
theorem afm(p:Pk)(m:BitVec 64):Contract Tryz.prog 185 [dX p,.d (bv m)] [] (.rG [dX (jg p m).1,.d (.bool (jg p m).2)]) [] []:=by
 refine aj Tryz.func185 rfl (fun E0=>?_);refine cO.sound (g:=.mk) (ow:=[]) (kp:=(fun k=>k==0||k==1||k==2||k==4||k==5||k==20)) ?_;rw[Tryz.ntmps185];have hv:=FU p;simp only[dX,Pk.cs,List.map,bv]at hv;simp -dsimp[dX,Pk.cs,bv];refine ah.of hv [] 0 ?_;rcases (Bool.eq_false_or_eq_true p.ok).symm with a1|a1
 ·simp -dsimp[a1];refine Fin.of ?_;simp[jg,a1,Bh,dX,Pk.cs,bv]
 ·have h:=qA a1;by_cases a2:p.ttl=0
  ·simp -dsimp[a1,a2];refine Fin.of ?_;simp[jg,a2,Bh,dX,Pk.cs,bv]
  by_cases a3:p.bits&&&m=0#64
  ·simp -dsimp[a1,a2,a3];refine Fin.of ?_;simp[jg,a3,Bh,dX,Pk.cs,bv]
  simp -dsimp[a1,a2,a3,wrap_i64 (n:=p.ttl-1) (by omega) (by omega)];refine Fin.of ?_;simp[jg,a1,a2,a3,ji,dX,Pk.cs,bv]
def f_(p:Pk)(k:Int):Pk:=if p.ok=true∧0≤k∧k≤63∧p.bits.getLsbD k.toNat=true then ⟨p.mode,p.bF,p.set,p.len,p.ttl,p.ent,p.ing,p.proto,1#64<<<k.toNat,p.pay⟩else Bh
theorem ai9(p:Pk)(k:Int):Contract Tryz.prog 241 [dX p,.d (.int .i64 k)] [] (dX (f_ p k)) [] []:=by
 refine aj Tryz.func241 rfl (fun E0=>?_);refine cO.sound (g:=.mk) (ow:=[]) (kp:=(fun k=>k==0||k==1||k==2||k==4||k==23)) ?_;rw[Tryz.ntmps241];have hv:=FU p;simp only[dX,Pk.cs,List.map,bv]at hv;simp -dsimp[dX,Pk.cs,bv];refine ah.of hv [] 0 ?_;rcases (Bool.eq_false_or_eq_true p.ok).symm with a1|a1
 ·simp -dsimp[a1];refine Fin.of ?_;simp[f_,a1,Bh,dX,Pk.cs,bv]
 ·by_cases a2:k<0
  ·simp -dsimp[a1,a2];refine Fin.of ?_;have :¬0≤k:=by omega
   simp[f_,this,Bh,dX,Pk.cs,bv]
  by_cases a3:63<k
  ·simp -dsimp[a1,a2,a3];refine Fin.of ?_;have :¬k≤63:=by omega
   simp[f_,this,Bh,dX,Pk.cs,bv]
  have a4:0≤k:=by omega
  have a5:k≤63:=by omega
  simp -dsimp[a1,a2,a3,a4];have hb:(p.bits>>>k.toNat&&&1#64=0#64)↔p.bits.getLsbD k.toNat=false:=by
   rw[BitVec.and_one_eq_setWidth_ofBool_getLsbD,BitVec.getLsbD_ushiftRight,Nat.add_zero];cases p.bits.getLsbD k.toNat<;>decide
  refine qM.dec (fun g=>?_) (fun g=>?_)
  ·simp -dsimp;refine Fin.of ?_;simp[f_,hb.1 g,Bh,dX,Pk.cs,bv]
  ·have g':p.bits.getLsbD k.toNat=true:=by
    cases h:p.bits.getLsbD k.toNat with
    | true=>rfl
    | false=>exact absurd (by simpa using hb.2 h) g
   simp -dsimp[a4];refine Fin.of ?_;simp[f_,a1,a4,a5,g',dX,Pk.cs,bv]
structure Out where
 loc:BitVec 64
 lost:BitVec 64
 g_:List (Int×Pk)
def iC:Out:=⟨0#64,0#64,[]⟩
def vZ(p:Pk)(k:Nat):Int:=if Ej p.set k p.len=true then p.set*p.len+k+1 else 0
def Pk.setB(p:Pk)(R:BitVec 64):Pk:=⟨p.mode,p.bF,p.set,p.len,p.ttl,p.ent,p.ing,p.proto,R,p.pay⟩
def aF(b:Tb)(p:Pk)(k:Nat):Int:=Aw b (vZ p k) (kX p)
def jR(b:Tb)(p:Pk)(R:BitVec 64)(n:Int):BitVec 64:=R&&&Bl b (kX p) p.set n
def mV(b:Tb)(p:Pk)(o:Out)(R:BitVec 64):Out:=
 if aF b p (tz R)=0 then ⟨o.loc,o.lost|||1#64<<<tz R,o.g_⟩
 else if aF b p (tz R)=b.r then ⟨o.loc|||1#64<<<tz R,o.lost,o.g_⟩
 else if(jg (p.setB R) (jR b p R (aF b p (tz R)))).2=true then ⟨o.loc,o.lost,o.g_++[(aF b p (tz R),(jg (p.setB R) (jR b p R (aF b p (tz R)))).1)]⟩
 else ⟨o.loc,o.lost|||jR b p R (aF b p (tz R)),o.g_⟩
def mQ(b:Tb)(p:Pk)(R:BitVec 64):BitVec 64:=
 if aF b p (tz R)=0∨aF b p (tz R)=b.r then 1#64<<<tz R else jR b p R (aF b p (tz R))
def yx(b:Tb)(p:Pk):Nat→Out→BitVec 64→Out
 | 0,o,_=>o
 | n+1,o,R=>if R=0#64 then o else yx b p n (mV b p o R) (R &&& ~~~ mQ b p R)
def iH(b:Tb)(p:Pk):Out:=yx b p 64 iC p.bits
def jC(b:Tb)(p:Pk):Out×Int:=
 if chk b≠0∨p.ok=false then(iC,1)else if p.mode=2 then(iC,7)else if b.sd≠p.bF∨b.len≠p.len then(iC,8)else(iH b p,0)
theorem Fv{R m:BitVec 64}{k:Nat}(hk:k<64)(h1:R.getLsbD k=true)(h2:m.getLsbD k=true):(ku (R &&& ~~~ m)).length<(ku R).length:=by
 have e:ku (R &&& ~~~ m)=(ku R).filter fun i=>!m.getLsbD i:=by
  unfold ku;rw[List.filter_filter];apply List.filter_congr;intro i hi;have:i<64:=by simpa using hi
  rw[BitVec.getLsbD_and,BitVec.getLsbD_not];simp[this,Bool.and_comm]
 rw[e];refine List.length_filter_lt_length_iff_exists.2 ⟨k,?_,by simp[h2]⟩;simp[ku,hk,h1]
theorem Y2{R:BitVec 64}(h:(ku R).length=0):R=0#64:=Classical.byContradiction fun g=>by
 rw[QN g]at h
 simp at h
theorem D8{p:Pk}(h:p.ok=true):aG p.len=true∧∀k<64,p.bits.getLsbD k=true→(k:Int)<p.len:=by
 simp only[Pk.ok,Bool.and_eq_true,nG,decide_eq_true_eq]at h;obtain⟨_,_,_,_,⟨h1,h2⟩,_⟩:=h;refine⟨h1,fun k hk hb=>?_⟩;have hl:p.len=8∨p.len=16∨p.len=32∨p.len=64:=by simp[aG]at h1;omega
 have h3:=congrArg (fun z=>z.getLsbD k) h2;simp only[BitVec.getLsbD_and,BitVec.getLsbD_not,hb,hk,decide_true,Bool.true_and,BitVec.getLsbD_zero,Bool.not_eq_false',tN,h1,if_true]at h3;rw[zK hk _ (by omega)]at h3
 have:=of_decide_eq_true h3;omega
theorem YD{b:Tb}(h:chk b=0)(p:Int):mG b 0 p=0:=by
 have:rowOf b 0=none:=by
  rw[rowOf,List.find?_eq_none];intro x hx;have:=(yG h x hx).1;simp;omega
 simp[mG,this,og]
theorem BL{b:Tb}(h:chk b=0){id p:Int}(h0:mG b id p≠0):1≤mG b id p∧mG b id p≤99:=by
 unfold mG at h0⊢;have hm:=YC h0;cases hr:rowOf b id with
 | none=>rw[hr]at h0;exact absurd (by simp[og]) h0
 | some x=>
   simp only[hr,Option.getD_some]at hm⊢;exact(yG h x (List.mem_of_find?_eq_some hr)).2 _ hm
theorem EP{b:Tb}{p:Pk}(hc:chk b=0)(hp:p.ok=true)(hl:b.len=p.len){R:BitVec 64}(hR:∀k<64,R.getLsbD k=true→p.bits.getLsbD k=true)(h0:R≠0#64):(mQ b p R).getLsbD (tz R)=true:=by
 obtain⟨t1,t2,_⟩:=xP h0;unfold mQ;split
 ·rw[j_ t1 t1];simp
 ·rename_i hn;have hn0:aF b p (tz R)≠0:=fun e=>hn (.inl e)
  have hk:((tz R:Nat):Int)<p.len:=(D8 hp).2 _ t1 (hR _ t1 t2);have hpl:0≤kX p∧kX p≤7:=by unfold kX;split<;>omega
  have hs:0≤p.set∧p.set≤31:=by
   simp only[Pk.ok,wS,Bool.and_eq_true,decide_eq_true_eq]at hp;omega
  have v0:JU b (kX p) 0=true:=Dy.2 ⟨hc,hpl,by omega,by omega⟩;have vs:JU b (kX p) p.set=true:=Dy.2 ⟨hc,hpl,hs⟩;have ha:Ej p.set (tz R) p.len=true:=Classical.byContradiction fun g=>hn0 (by
   rw[aF,vZ,if_neg g,Aw,if_pos v0];exact YD hc _)
  have hh:aF b p (tz R)=mG b (p.set*p.len+tz R+1) (kX p):=by rw[aF,vZ,if_pos ha,Aw,if_pos v0]
  have hr:=BL hc (hh▸hn0);rw[jR,BitVec.getLsbD_and,t2,Bool.true_and,YP,abW,if_pos ⟨vs,by rw[hh];exact hr⟩];have hlen:b.len≤64:=by
   have:=(D8 hp).1;simp[aG]at this
   omega
  rw[Jq b _ _ _ t1 _ (by omega)];exact⟨by omega,by rw[hl];exact ha,by rw[hh];omega,by rw[hl,hh]⟩
end Go.Proofs
