/-
  What functions of the program compute, stated as contracts over plain data; the conditions of each stand in its own statement.
-/
import Derived.Test.YtboimfkommpglaaGreatDoorZA19
import Derived.Test.YtboimfkommpglaaGreatDoorZA56
import Derived.Test.YtboimfkommpglaaGreatDoorZA20
import Derived.Test.YtboimfkommpglaaGreatDoorZA21
import Derived.Test.YtboimfkommpglaaGreatDoorZA28
set_option linter.unusedSimpArgs false
set_option maxRecDepth 100000
set_option maxHeartbeats 2000000
namespace Go.Proofs
open Go Go.Tr
def JV(r n:Int)(T:Tp)(x:Rw):Rw×Tp:=
 let o:=dD T 3
 if o.1=false then(x,o.2)else
 let s:=au o.2 4
 if s.1=0 then(⟨x.id,[]⟩,s.2)
 else if s.1=1 then(⟨x.id,[r]⟩,s.2)
 else
  let a:=au s.2 (n+1)
  let m:=au a.2 n
  (⟨x.id,if 1+a.1<1+m.1∧1+a.1≠r∧1+m.1≠r then [1+a.1,1+m.1]else if 1+a.1≠r then [1+a.1]else x.nx⟩,m.2)
def o_(r n:Int):List Rw→Tp→List Rw×Tp
 | [],T=>([],T)
 | x::l,T=>((JV r n T x).1::(o_ r n l (JV r n T x).2).1,(o_ r n l (JV r n T x).2).2)
def DU(n:Int):List Tb→Tp→List Tb×Tp
 | [],T=>([],T)
 | b::l,T=>(⟨b.r,b.sd,b.len,(o_ b.r n b.rows T).1⟩::(DU n l (o_ b.r n b.rows T).2).1,(DU n l (o_ b.r n b.rows T).2).2)
theorem Un(r n:Int)(T:Tp)(x:Rw):ak (JV r n T x).2=ak T:=by
 unfold JV;simp only;split
 ·simp
 split
 ·simp
 split<;>simp
theorem FW(r n:Int):∀(l:List Rw) (T:Tp),ak (o_ r n l T).2=ak T
 | [],_=>rfl
 | x::l,T=>by rw[o_];exact(FW r n l _).trans (Un r n T x)
theorem Jk(n:Int):∀(l:List Tb) (T:Tp),ak (DU n l T).2=ak T
 | [],_=>rfl
 | b::l,T=>by rw[DU];exact(Jk n l _).trans (FW b.r n b.rows T)
theorem Ji(r n:Int):∀(l:List Rw) (T:Tp),(o_ r n l T).1.length=l.length
 | [],_=>rfl
 | x::l,T=>by simp[o_,Ji r n l]
theorem XJ(T:Tp)(hT:ak T)(l:List Tb)(hl:DL l)(n:Int)(hn:1≤n∧n≤1000):Contract Tryz.prog 39 [.ptr (.x 0) 0,.d (.sl (oq l)),.d (.int .i64 n)] [aJ T] (.d (.sl (oq (DU n l T).1))) [aJ (DU n l T).2] []:=by
 have hll:=hl.n;refine aj Tryz.func39 rfl (fun E0=>?_);refine cO.sound (g:=.mk) (ow:=[]) (kp:=(fun k=>k==0||k==1||k==2||k==6||k==7||k==8||k==9||k==10||k==11||k==12||k==16||k==28||k==33||k==35||k==44||k==70||k==79||k==86)) ?_;rw[Tryz.ntmps39];simp -dsimp
 refine aN.of [] (fun k=>k==0||k==1||k==2||k==6||k==7||k==8||k==9||k==10||k==11||k==12||k==16||k==28||k==33||k==35||k==44||k==70||k==79||k==86) (ι:={z:Nat×Tp×List Tb // z.1≤l.length∧ak z.2.1∧z.2.2.length=z.1∧DU n l T=(z.2.2++(DU n (l.drop z.1) z.2.1).1,(DU n (l.drop z.1) z.2.1).2)})
  (fun z=>[(Pl.s 0,It.v (.ptr (Pl.x 0) 0)),(Pl.s 1,It.v (.d (.sl (oq l)))),(Pl.s 2,It.v (.d (.int .i64 n))),(Pl.x 0,aJ z.1.2.1),(Pl.s 6,It.v (.c (Value.slice none 0 0))),
   (Pl.s 7,It.v (.aB 7 z.1.2.2.length)),(Pl.o 7,It.row 65 4 (dd (oq z.1.2.2)) false),(Pl.s 8,It.v (.d (.int .i64 z.1.1)))]) (fun z=>l.length-z.1.1) ⟨(0,T,[]),by simp,hT,rfl,by simp⟩ ?_ ?_
 ·exact GS.own' (k:=7) 65 4 (by simp) (by simp) (by simp[oq])
 rintro⟨⟨i,T1,out⟩,i1,i2,i3,i4⟩;simp only at i1 i2 i3 i4;by_cases hi:i<l.length
 ·have hiz:(i:Int)<l.length:=by omega
  have hx:l[i]? = some l[i]:=List.getElem?_eq_getElem hi;have hm:=hl.t l[i] (List.getElem_mem hi);have hd:l.drop i=l[i]::l.drop (i+1):=List.drop_eq_getElem_cons hi;generalize l[i]=b at hx hm hd;have hx':=wX hx;simp -dsimp[hiz,hx'];and_intros;all_goals try first|rfl|omega|exact⟨by kernel_rfl⟩
  refine ah.of (EJ b hm.rows hm.nx) [] 2000 ?_;simp -dsimp[hiz,hx',bZ,jf];have hrl:=hm.rows
  refine aN.of [] (fun k=>k==0||k==1||k==2||k==6||k==7||k==8||k==9||k==10||k==11||k==12||k==16||k==28||k==33||k==35||k==44||k==70||k==79||k==86) (ι:={z:Nat×Tp×List Rw // z.1≤b.rows.length∧ak z.2.1∧z.2.2.length=b.rows.length∧o_ b.r n b.rows T1=(z.2.2.take z.1++(o_ b.r n (z.2.2.drop z.1) z.2.1).1,(o_ b.r n (z.2.2.drop z.1) z.2.1).2)})
   (fun z=>[(Pl.s 0,It.v (.ptr (Pl.x 0) 0)),(Pl.s 1,It.v (.d (.sl (oq l)))),(Pl.s 2,It.v (.d (.int .i64 n))),(Pl.x 0,aJ z.1.2.1),(Pl.s 6,It.v (.c (Value.slice none 0 0))),
    (Pl.s 7,It.v (.aB 7 out.length)),(Pl.o 7,It.row 65 4 (dd (oq out)) false),(Pl.s 8,It.v (.d (.int .i64 i))),
    (Pl.o 2003,It.row 167 2 (dd (rws z.1.2.2)) false),(Pl.o 9,It.box [TV.d (.int .i64 b.r),TV.d (.int .i64 b.sd),TV.d (.int .i64 b.len),TV.aB 2003 b.rows.length]),(Pl.s 9,It.v (.ptr (Pl.o 9) 0)),(Pl.s 10,It.v (.d (.int .i64 z.1.1)))]) (fun z=>b.rows.length-z.1.1) ⟨(0,T1,b.rows),by simp,i2,rfl,by simp⟩ ?_ ?_
  ·exact GS.to (by simp)
  rintro⟨⟨k,T2,L⟩,k1,k2,k3,k4⟩;simp only at k1 k2 k3 k4;have Il:(rws L).length=b.rows.length:=by simp[k3]
  by_cases hk:k<b.rows.length
  ·have hkz:(k:Int)<b.rows.length:=by omega
   have hkL:k<L.length:=by omega
   have hg:L[k]? = some L[k]:=List.getElem?_eq_getElem hkL;have hdL:L.drop k=L[k]::L.drop (k+1):=List.drop_eq_getElem_cons hkL;generalize L[k]=x at hg hdL;have hgr:(dd (rws L))[k]? = some [TV.d (.int .i64 x.id),TV.d (ints x.nx)]:=by simp[dd,rws,hg,Rw.cs]
   have hgl:((dd (rws L)).getD k []) = [TV.d (.int .i64 x.id),TV.d (ints x.nx)]:=by rw[List.getD_eq_getElem?_getD,hgr];rfl
   have hset:∀y:List Int,(dd (rws L)).set k [TV.d (.int .i64 x.id),TV.d (ints y)]=dd (rws (L.set k ⟨x.id,y⟩)):=fun y=>by simp[dd,rws,List.map_set,Rw.cs]
   have hnext:∀(y:List Int) (T3:Tp),JV b.r n T2 x=(⟨x.id,y⟩,T3)→o_ b.r n b.rows T1=((L.set k ⟨x.id,y⟩).take (k+1)++(o_ b.r n ((L.set k ⟨x.id,y⟩).drop (k+1)) T3).1,(o_ b.r n ((L.set k ⟨x.id,y⟩).drop (k+1)) T3).2):=fun y T3 h=>by
    have e1:(L.set k ⟨x.id,y⟩).take (k+1)=L.take k++[⟨x.id,y⟩]:=by
     rw[List.take_add_one,List.getElem?_set_self hkL,List.take_set_of_le (Nat.le_refl _)];rfl
    have e2:(L.set k ⟨x.id,y⟩).drop (k+1)=L.drop (k+1):=List.drop_set_of_lt (by omega);rw[k4,hdL,o_,h,e1,e2];simp
   have hself:L.set k ⟨x.id,x.nx⟩ = L:=by
    refine List.ext_getElem? fun m=>?_
    rw[List.getElem?_set];split
    ·rename_i e;subst e;exact hg.symm
    ·rfl
   unfold JV at hnext;simp -dsimp[hkz,Il,k3];and_intros;all_goals try first|rfl|omega|exact⟨by kernel_rfl⟩
   refine ah.of (gK T2 k2 3 ⟨by omega,by omega⟩ ⟨by omega,by omega⟩) [.x 0] 0 ?_;have kO:ak (dD T2 3).2:=by simpa using k2
   generalize dD T2 3=o at kO hnext⊢;simp only at hnext;rcases (Bool.eq_false_or_eq_true o.1).symm with ho|ho
   ·have e:=hnext x.nx o.2 (by rw[if_pos ho]);rw[hself]at e
    simp -dsimp[hkz,ho,Il,k3,wrap_i64 (n:=(k:Int)+1) (by omega) (by omega)];and_intros;all_goals try first|rfl|omega|exact⟨by kernel_rfl⟩
    exact⟨⟨(k+1,o.2,L),by dsimp only;omega,kO,k3,e⟩,GS.to (by simp),by simp;omega⟩
   have hof :¬o.1=false:=by simp[ho]
   simp -dsimp[hkz,ho,Il,k3];refine ah.of (bn o.2 kO 4 ⟨by omega,by omega⟩) [.x 0] 0 ?_;have n1:=aC o.2 4;have n2:=bg o.2 (n:=4) (by omega);have kS:ak (au o.2 4).2:=by simpa using kO
   generalize au o.2 4=s at n1 n2 kS hnext⊢;by_cases s0:s.1=0
   ·have e:=hnext [] s.2 (by rw[if_neg hof,if_pos s0]);have hnl:eu ((dd (rws L)).set k [TV.d (.int .i64 x.id),TV.c (Value.slice none 0 0)])=some (rws (L.set k ⟨x.id,[]⟩)):=by
     rw[O8 (Jg _) (x:=[.int .i64 x.id,.sl []]) rfl];simp[rws,List.map_set,Rw.cs,ints]
    simp -dsimp[hkz,ho,eq_true s0,hgr,hgl,Il,k3,wrap_i64 (n:=(k:Int)+1) (by omega) (by omega)];and_intros;all_goals try first|rfl|omega|exact⟨by kernel_rfl⟩
    exact⟨⟨(k+1,s.2,L.set k ⟨x.id,[]⟩),by dsimp only;omega,kS,by simpa using k3,e⟩,GS.aaU 2003 (e:=167) (k:=2) (es:=(dd (rws L)).set k [TV.d (.int .i64 x.id),TV.c (Value.slice none 0 0)]) (sh:=false) (by simp) hnl (by simp),by simp;omega⟩
   by_cases s1:s.1=1
   ·have e:=hnext [b.r] s.2 (by rw[if_neg hof,if_neg s0,if_pos s1]);have hs:=hset [b.r];simp only[ints,List.map_nil,List.map_cons]at hs;simp -dsimp[hkz,ho,eq_false s0,eq_true s1,hgr,hgl,Il,k3,hs,wrap_i64 (n:=(k:Int)+1) (by omega) (by omega)];and_intros;all_goals try first|rfl|omega|exact⟨by kernel_rfl⟩
    exact⟨⟨(k+1,s.2,L.set k ⟨x.id,[b.r]⟩),by dsimp only;omega,kS,by simpa using k3,e⟩,GS.to (by simp),by simp;omega⟩
   simp -dsimp[hkz,ho,eq_false s0,eq_false s1,Il,k3,wrap_i64 (n:=n+1) (by omega) (by omega)];refine ah.of (bn s.2 kS (n+1) ⟨by omega,by omega⟩) [.x 0] 0 ?_;have a1:=aC s.2 (n+1);have a2:=bg s.2 (n:=n+1) (by omega);have kA:ak (au s.2 (n+1)).2:=by simpa using kS
   generalize au s.2 (n+1)=a at a1 a2 kA hnext⊢;have b1:=aC a.2 n;have b2:=bg a.2 (n:=n) (by omega);have kM:ak (au a.2 n).2:=by simpa using kA
   have hnc:=bn a.2 kA n ⟨by omega,by omega⟩;generalize au a.2 n=m at b1 b2 kM hnc hnext;have ae9:∀y z:List Int,(dd (rws (L.set k ⟨x.id,y⟩))).set k [TV.d (.int .i64 x.id),TV.d (ints z)]=dd (rws (L.set k ⟨x.id,z⟩)):=fun y z=>by simp[dd,rws,List.map_set,Rw.cs]
   have ae3:∀y:List Int,(dd (rws (L.set k ⟨x.id,y⟩)))[k]? = some [TV.d (.int .i64 x.id),TV.d (ints y)]:=fun y=>by simp[dd,rws,List.getElem?_set,hkL,Rw.cs]
   have aiR:∀y:List Int,((dd (rws (L.set k ⟨x.id,y⟩))).getD k []) = [TV.d (.int .i64 x.id),TV.d (ints y)]:=fun y=>by rw[List.getD_eq_getElem?_getD,ae3];rfl
   have aiW:∀y:List Int,(rws (L.set k ⟨x.id,y⟩)).length=b.rows.length:=fun y=>by simp[k3]
   by_cases v1:1+a.1=b.r
   ·have e:=hnext x.nx m.2 (by rw[if_neg hof,if_neg s0,if_neg s1,if_neg (by omega),if_neg (by omega)]);rw[hself]at e
    by_cases v2:a.1<m.1
    ·simp -dsimp[hkz,ho,eq_false s0,eq_false s1,eq_true v1,Il,k3,wrap_i64 (n:=n+1) (by omega) (by omega),wrap_i64 (n:=1+a.1) (by omega) (by omega),wrap_i64 (n:=1+m.1) (by omega) (by omega),wrap_i64 (n:=(k:Int)+1) (by omega) (by omega)];refine ah.of hnc [.x 0] 0 ?_
     simp -dsimp[hkz,ho,eq_false s0,eq_false s1,eq_true v1,v2,Il,k3,wrap_i64 (n:=n+1) (by omega) (by omega),wrap_i64 (n:=1+a.1) (by omega) (by omega),wrap_i64 (n:=1+m.1) (by omega) (by omega),wrap_i64 (n:=(k:Int)+1) (by omega) (by omega)];and_intros;all_goals try first|rfl|omega|exact⟨by kernel_rfl⟩
     exact⟨⟨(k+1,m.2,L),by dsimp only;omega,kM,k3,e⟩,GS.to (by simp),by simp;omega⟩
    ·simp -dsimp[hkz,ho,eq_false s0,eq_false s1,eq_true v1,Il,k3,wrap_i64 (n:=n+1) (by omega) (by omega),wrap_i64 (n:=1+a.1) (by omega) (by omega),wrap_i64 (n:=1+m.1) (by omega) (by omega),wrap_i64 (n:=(k:Int)+1) (by omega) (by omega)];refine ah.of hnc [.x 0] 0 ?_
     simp -dsimp[hkz,ho,eq_false s0,eq_false s1,eq_true v1,v2,Il,k3,wrap_i64 (n:=n+1) (by omega) (by omega),wrap_i64 (n:=1+a.1) (by omega) (by omega),wrap_i64 (n:=1+m.1) (by omega) (by omega),wrap_i64 (n:=(k:Int)+1) (by omega) (by omega)];and_intros;all_goals try first|rfl|omega|exact⟨by kernel_rfl⟩
     exact⟨⟨(k+1,m.2,L),by dsimp only;omega,kM,k3,e⟩,GS.to (by simp),by simp;omega⟩
   have hs1:=hset [1+a.1];have hs2:=ae9 [1+a.1] [1+a.1,1+m.1];have hq1:=ae3 [1+a.1];have hq2:=aiR [1+a.1];have hq3:=aiW [1+a.1];simp only[ints,List.map_nil,List.map_cons]at hs1 hs2 hq1 hq2;by_cases v2:a.1<m.1
   ·by_cases v3:1+m.1=b.r
    ·have e:=hnext [1+a.1] m.2 (by rw[if_neg hof,if_neg s0,if_neg s1,if_neg (by omega),if_pos (by omega)]);simp -dsimp[hkz,ho,eq_false s0,eq_false s1,eq_false v1,hgr,hgl,hs1,Il,k3,wrap_i64 (n:=n+1) (by omega) (by omega),wrap_i64 (n:=1+a.1) (by omega) (by omega),wrap_i64 (n:=1+m.1) (by omega) (by omega),wrap_i64 (n:=(k:Int)+1) (by omega) (by omega)];and_intros
     all_goals try first|rfl|omega|exact⟨by kernel_rfl⟩
     refine ah.of hnc [.x 0] 0 ?_;simp -dsimp[hkz,ho,eq_false s0,eq_false s1,eq_false v1,v2,eq_true v3,hgr,hgl,hs1,Il,k3,wrap_i64 (n:=n+1) (by omega) (by omega),wrap_i64 (n:=1+a.1) (by omega) (by omega),wrap_i64 (n:=1+m.1) (by omega) (by omega),wrap_i64 (n:=(k:Int)+1) (by omega) (by omega)];and_intros;all_goals try first|rfl|omega|exact⟨by kernel_rfl⟩
     exact⟨⟨(k+1,m.2,L.set k ⟨x.id,[1+a.1]⟩),by dsimp only;omega,kM,by simpa using k3,e⟩,GS.to (by simp),by simp;omega⟩
    ·have e:=hnext [1+a.1,1+m.1] m.2 (by rw[if_neg hof,if_neg s0,if_neg s1,if_pos (by omega)]);simp -dsimp[hkz,ho,eq_false s0,eq_false s1,eq_false v1,hgr,hgl,hs1,Il,k3,wrap_i64 (n:=n+1) (by omega) (by omega),wrap_i64 (n:=1+a.1) (by omega) (by omega),wrap_i64 (n:=1+m.1) (by omega) (by omega),wrap_i64 (n:=(k:Int)+1) (by omega) (by omega)];and_intros
     all_goals try first|rfl|omega|exact⟨by kernel_rfl⟩
     refine ah.of hnc [.x 0] 0 ?_;simp -dsimp[hkz,ho,eq_false s0,eq_false s1,eq_false v1,v2,eq_false v3,hgr,hgl,hs1,hs2,hq1,hq2,hq3,Il,k3,wrap_i64 (n:=n+1) (by omega) (by omega),wrap_i64 (n:=1+a.1) (by omega) (by omega),wrap_i64 (n:=1+m.1) (by omega) (by omega),wrap_i64 (n:=(k:Int)+1) (by omega) (by omega)];and_intros;all_goals try first|rfl|omega|exact⟨by kernel_rfl⟩
     exact⟨⟨(k+1,m.2,L.set k ⟨x.id,[1+a.1,1+m.1]⟩),by dsimp only;omega,kM,by simpa using k3,e⟩,GS.to (by simp),by simp;omega⟩
   ·have e:=hnext [1+a.1] m.2 (by rw[if_neg hof,if_neg s0,if_neg s1,if_neg (by omega),if_pos (by omega)]);simp -dsimp[hkz,ho,eq_false s0,eq_false s1,eq_false v1,hgr,hgl,hs1,Il,k3,wrap_i64 (n:=n+1) (by omega) (by omega),wrap_i64 (n:=1+a.1) (by omega) (by omega),wrap_i64 (n:=1+m.1) (by omega) (by omega),wrap_i64 (n:=(k:Int)+1) (by omega) (by omega)];and_intros
    all_goals try first|rfl|omega|exact⟨by kernel_rfl⟩
    refine ah.of hnc [.x 0] 0 ?_;simp -dsimp[hkz,ho,eq_false s0,eq_false s1,eq_false v1,v2,hgr,hgl,hs1,Il,k3,wrap_i64 (n:=n+1) (by omega) (by omega),wrap_i64 (n:=1+a.1) (by omega) (by omega),wrap_i64 (n:=1+m.1) (by omega) (by omega),wrap_i64 (n:=(k:Int)+1) (by omega) (by omega)];and_intros;all_goals try first|rfl|omega|exact⟨by kernel_rfl⟩
    exact⟨⟨(k+1,m.2,L.set k ⟨x.id,[1+a.1]⟩),by dsimp only;omega,kM,by simpa using k3,e⟩,GS.to (by simp),by simp;omega⟩
  ·have hkz :¬(k:Int)<b.rows.length:=by omega
   obtain rfl:k=b.rows.length:=by omega
   simp -dsimp[hkz,Il,wrap_i64 (n:=(i:Int)+1) (by omega) (by omega)];and_intros;all_goals try first|rfl|omega|exact⟨by kernel_rfl⟩
   have e0:L.drop b.rows.length = []:=List.drop_eq_nil_of_le (by omega);have e1:L.take b.rows.length=L:=List.take_of_length_le (by omega);simp only[e0,e1,o_,List.append_nil]at k4;refine⟨⟨(i+1,T2,out++[⟨b.r,b.sd,b.len,L⟩]),by dsimp only;omega,k2,by simp[i3],?_⟩,GS.to (by simp[oq,Tb.cs,jf,i3]),by simp;omega⟩;rw[i4,hd,DU,k4];simp
 ·have hiz :¬(i:Int)<l.length:=by omega
  obtain rfl:i=l.length:=by omega
  simp -dsimp[hiz];refine Fin.view 6 ?_;simp -dsimp;refine Fin.of ?_;simp only[List.drop_length,DU,List.append_nil]at i4;simp[i4]
set_option maxHeartbeats 8000000
def hasK(B:BitVec 64)(k:Int):Bool:=decide (0≤k)&&(decide (k<64)&&B.getLsbD k.toNat)
theorem Bq(B:BitVec 64)(k:Nat):(B>>>k&&&1#64=1#64)↔B.getLsbD k=true:=by
 rw[BitVec.and_one_eq_setWidth_ofBool_getLsbD,BitVec.getLsbD_ushiftRight,Nat.add_zero];cases B.getLsbD k<;>decide
theorem xM(B:BitVec 64)(k:Int):Contract Tryz.prog 244 [.d (bv B),.d (.int .i64 k)] [] (.d (.bool (hasK B k))) [] []:=by
 refine aj Tryz.func244 rfl (fun E0=>?_);refine cO.sound (g:=.mk) (ow:=[]) (kp:=(fun k=>k==0||k==1||k==4)) ?_;rw[Tryz.ntmps244];by_cases a2:0≤k
 ·by_cases a3:k<64
  ·have hb:=Bq B k.toNat;simp -dsimp[bv,eq_true a2,eq_true a3];have hw:IntKind.u64.wrap k=k:=wrap_u64 (by omega) (by omega);refine⟨by rw[hw];exact a2,?_⟩;refine Fin.of ?_;rw[hw];simp[hasK,a2,a3,hb]
  ·simp -dsimp[bv,eq_true a2,a3];try refine⟨?_,⟨by kernel_rfl⟩⟩
   refine Fin.of ?_;simp[hasK,a3]
 ·simp -dsimp[bv,a2];try refine⟨?_,⟨by kernel_rfl⟩⟩
  refine Fin.of ?_;simp[hasK,a2]
def jl(B:BitVec 64)(k:Nat):List Int:=((List.range k).filter fun i=>B.getLsbD i).map Int.ofNat
theorem tY(B:BitVec 64)(k:Nat):jl B (k+1)=jl B k++(if B.getLsbD k=true then [(k:Int)]else []):=by
 unfold jl;rw[List.range_succ,List.filter_append,List.map_append];cases h:B.getLsbD k<;>simp[h]
theorem wL(B:BitVec 64)(k:Nat):(jl B k).length≤k:=by
 unfold jl;rw[List.length_map];exact Nat.le_trans (List.length_filter_le _ _) (by simp)
theorem wK(B:BitVec 64):jl B 64=lg B:=rfl
theorem sK(B:BitVec 64):Contract Tryz.prog 198 [.d (bv B)] [] (.d (ints (lg B))) [] []:=by
 refine aj Tryz.func198 rfl (fun E0=>?_);refine cO.sound (g:=.mk) (ow:=[]) (kp:=(fun k=>k==0||k==2||k==3||k==4||k==6||k==11)) ?_;rw[Tryz.ntmps198];simp -dsimp[bv];refine aN.of [] (fun k=>k==0||k==2||k==3||k==4||k==6||k==11) (ι:={k:Nat // k≤64})
  (fun z=>[(Pl.s 0,It.v (.d (.int IntKind.u64 (tn B)))),(Pl.s 2,It.v (.c (Value.slice none 0 0))),(Pl.s 3,It.v (.aB 3 (jl B z.1).length)),(Pl.o 3,.row 3 1 (dd (dJ .i64 (jl B z.1))) false),(Pl.s 4,It.v (.d (.int .i64 z.1)))])
  (fun z=>64-z.1) ⟨0,by omega⟩ ?_ ?_
 ·exact GS.own' (k:=3) 3 1 (by simp) (by simp) (by simp[dJ,jl])
 ·rintro⟨k,k1⟩;have hll:=wL B k;by_cases hk:k<64
  ·have hkz:(k:Int)<64:=by omega
   have hh:=xM B k;have hv:hasK B k=B.getLsbD k:=by simp[hasK,hk,hkz]
   rw[hv]at hh
   simp only[bv]at hh;have hn:=tY B k;simp -dsimp[hkz];try refine⟨?_,⟨by kernel_rfl⟩⟩
   refine ah.of hh [] 0 ?_;rcases (Bool.eq_false_or_eq_true (B.getLsbD k)).symm with b1|b1
   ·rw[b1]at hn⊢
    simp only[Bool.false_eq_true,if_false,List.append_nil]at hn;simp -dsimp[wrap_i64 (n:=(k:Int)+1) (by omega) (by omega)];and_intros;all_goals try first|rfl|omega|exact⟨by kernel_rfl⟩
    exact⟨⟨k+1,by omega⟩,GS.to (by simp[hn]),by simp;omega⟩
   ·rw[b1]at hn⊢
    simp only[if_true]at hn;simp -dsimp[wrap_i64 (n:=(k:Int)+1) (by omega) (by omega)];and_intros;all_goals try first|rfl|omega|exact⟨by kernel_rfl⟩
    exact⟨⟨k+1,by omega⟩,GS.to (by simp[hn,dJ]),by simp;omega⟩
  ·have hkz :¬(k:Int)<64:=by omega
   obtain rfl:k=64:=by omega
   have e:=wK B;simp -dsimp[hkz];refine Fin.view 2 ?_;simp -dsimp;refine Fin.of ?_;simp[←e,ints,dJ]
end Go.Proofs

set_option linter.unusedVariables false
namespace Go.Proofs
theorem dQ.u_(t:dQ):t.app gX=t:=by simp[dQ.app,gX]
theorem dQ.zC(t u v:dQ):(t.app u).app v=t.app (u.app v):=by simp[dQ.app]
theorem Af(B:BitVec 64):(ku B).Nodup:=List.nodup_range.sublist List.filter_sublist
theorem Gx{p:Pk}(h:p.ok=true){o:Out}(ho:∀k<64,o.loc.getLsbD k=true→p.bits.getLsbD k=true)(r:Int){k:Nat}(hk:k<64):
  (nI r o p).filter (fun d=>d.2.bits.getLsbD k)=if o.loc.getLsbD k=true then [(r,f_ p k)]else []:=by
 have e:(nI r o p).filter (fun d=>d.2.bits.getLsbD k)=((ku o.loc).filter fun j=>decide (j=k)).map fun (j:Nat)=>(r,f_ p j):=by
  unfold nI lg;rw[List.map_map,List.filter_map]
  congr 1
  apply List.filter_congr;intro j hj;obtain⟨h1,h2⟩:=sN.1 hj
  show(f_ p (Int.ofNat j)).bits.getLsbD k=_
  have:=IL h h1 (ho j h1 h2);simp only[Int.ofNat_eq_natCast]at *;rw[this]
  show(1#64<<<j).getLsbD k=_
  rw[j_ h1 hk];by_cases e:k=j
  ·subst e;simp
  ·simp[e,Ne.symm e]
 rw[e,wP (Af _)];by_cases hl:o.loc.getLsbD k=true
 ·rw[if_pos (sN.2 ⟨hk,hl⟩),if_pos hl];rfl
 ·rw[if_neg (fun a=>hl (sN.1 a).2),if_neg hl];rfl
theorem Gy(l:List (Int×BitVec 64))(r:Int)(B:BitVec 64)(k:Nat):
  (if B=0#64 then l else l++[(r,B)]).filter (fun x=>x.2.getLsbD k)=l.filter (fun x=>x.2.getLsbD k)++if B.getLsbD k=true then [(r,B)]else []:=by
 by_cases h:B=0#64
 ·subst h;simp
 ·rw[if_neg h,List.filter_append,List.filter_cons];split<;>simp
theorem jM(x:Lk):∀(l:List Lk),∀y∈l.take (bU x l),y.before x=true
 | []=>by simp
 | z::r=>by
   intro y hy;rw[bU]at hy
   split at hy
   ·rename_i hz;rw[List.take_succ_cons]at hy
    rcases List.mem_cons.1 hy with rfl|hy
    ·exact hz
    ·exact jM x r y hy
   ·simp at hy
theorem nU(x:Lk):∀(l:List Lk) (y:Lk),l[bU x l]? = some y→y.before x=false
 | [],y,h=>by simp at h
 | z::r,y,h=>by
   rw[bU]at h
   split at h
   ·exact nU x r y (by simpa using h)
   ·rename_i hz;simp at h;subst h;simpa using hz
theorem lI{x y:Lk}:y.before x=true↔gB y x:=by simp[Lk.before,gB]
theorem Iy{l:List Lk}(x:Lk)(h:l.Pairwise gB)(hd:∀y∈l,¬(y.a=x.a∧y.b=x.b)):(l.take (bU x l)++[x]++l.drop (bU x l)).Pairwise gB∧∀y,y∈l.take (bU x l)++[x]++l.drop (bU x l)↔y∈l∨y=x:=by
 have hl:l.take (bU x l)++l.drop (bU x l)=l:=List.take_append_drop _ _;have hp:(l.take (bU x l)++l.drop (bU x l)).Pairwise gB:=by rw[hl];exact h
 rw[List.pairwise_append]at hp
 have hdr:∀y∈l.drop (bU x l),gB x y:=fun y hy=>by
  cases hc:l.drop (bU x l)with
  | nil=>rw[hc]at hy;simp at hy
  | cons z r=>
    have hz:l[bU x l]? = some z:=by
     have:(l.drop (bU x l))[0]? = some z:=by rw[hc];rfl
     simpa using this
    have h1:=nU x l z hz;have h2:=hd z (List.mem_of_getElem? hz);have h3:gB x z:=by
     have :¬gB z x:=fun a=>by rw[lI.2 a]at h1;simp at h1
     unfold gB at *;omega
    rw[hc]at hy
    rcases List.mem_cons.1 hy with rfl|hy
    ·exact h3
    ·have:=hp.2.1;rw[hc,List.pairwise_cons]at this
     exact nC h3 (this.1 y hy)
 refine⟨?_,fun y=>?_⟩
 ·rw[List.append_assoc,List.pairwise_append];refine⟨hp.1,?_,fun a ha b hb=>?_⟩
  ·rw[List.singleton_append,List.pairwise_cons];exact⟨hdr,hp.2.1⟩
  ·have h1:=lI.1 (jM x l a ha);rcases List.mem_append.1 hb with hb|hb
   ·simp at hb;subst hb;exact h1
   ·exact nC h1 (hdr b hb)
 ·conv=>rhs;rw[←hl]
  simp only[List.mem_append,List.mem_singleton];constructor
  ·rintro ((a|a)|a)
   ·exact .inl (.inl a)
   ·exact .inr a
   ·exact .inl (.inr a)
  ·rintro ((a|a)|a)
   ·exact .inl (.inl a)
   ·exact .inr a
   ·exact .inl (.inr a)
theorem rC:∀(l out:List Lk),l.Pairwise MP→out.Pairwise gB→(∀x∈l,∀y∈out,MP x y)→(jO l out).Pairwise gB∧∀y,y∈jO l out↔y∈l∨y∈out
 | [],out,_,h,_=>⟨h,by simp[jO]⟩
 | x::l,out,hl,h,hd=>by
   rw[List.pairwise_cons]at hl
   obtain⟨h1,h2⟩:=Iy x h (fun y hy e=>hd x (by simp) y hy ⟨e.1.symm,e.2.symm⟩);obtain⟨h3,h4⟩:=rC l _ hl.2 h1 (fun z hz y hy=>by
    rcases (h2 y).1 hy with hy|rfl
    ·exact hd z (by simp[hz]) y hy
    ·exact fun e=>hl.1 z hz ⟨e.1.symm,e.2.symm⟩)
   refine⟨h3,fun y=>?_⟩;rw[jO,h4,h2];simp only[List.mem_cons];constructor
   ·rintro (a|a|a)
    ·exact .inl (.inr a)
    ·exact .inr a
    ·exact .inl (.inl a)
   ·rintro ((a|a)|a)
    ·exact .inr (.inr a)
    ·exact .inl a
    ·exact .inr (.inl a)
theorem zx.nP{cost:Int}(hc:1≤cost∧cost≤1000):∀(n:Nat) (b:Int) (T:Tp) (l:List Lk),zx b 1 l→2≤b→zx (b+n) 1 (dS cost n b T l).1
 | 0,b,T,l,h,_=>by simpa[dS]using h
 | n+1,b,T,l,h,hb=>by
   rw[dS];have h1:zx b b (gW cost b T l).1:=by
    unfold gW;simp only;have:=zx.row (b:=b) (tree:=(aT T 1 (b-1)).1) (skip:=(dD (aT T 1 (b-1)).2 9).1) hc (b-1).toNat 1 (dD (aT T 1 (b-1)).2 9).2 l h (by omega) (by omega);rw[show 1+(((b-1).toNat:Nat):Int)=b by omega]at this
    exact this
   have h2:zx (b+1) 1 (gW cost b T l).1:=⟨fun x hx=>by have:=h1.all x hx;omega,h1.ne⟩
   have:=zx.nP hc n (b+1) (gW cost b T l).2 _ h2 (by omega);rw[show b+((n+1:Nat):Int)=b+1+n by omega];exact this
theorem jJ(cost tree:Int)(skip:Bool)(b:Int):∀(n:Nat) (a:Int) (T:Tp) (l:List Lk),(dV cost tree skip b n a T l).1.length≤l.length+n
 | 0,_,_,_=>Nat.le_refl _
 | n+1,a,T,l=>by
   have h1:=jJ cost tree skip b n (a+1) (dI cost tree skip b a T l).2 (dI cost tree skip b a T l).1;have h2:=zN cost tree skip b a T l;rw[dV];omega
theorem jK(cost:Int)(m:Nat):∀(n:Nat) (b:Int) (T:Tp) (l:List Lk),1≤b→b+n≤m+2→(dS cost n b T l).1.length≤l.length+n*m
 | 0,_,_,_,_,_=>by simp[dS]
 | n+1,b,T,l,hb,hm=>by
   have h1:=jK cost m n (b+1) (gW cost b T l).2 (gW cost b T l).1 (by omega) (by omega);have h2:(gW cost b T l).1.length≤l.length+(b-1).toNat:=jJ _ _ _ _ _ _ _ _;rw[dS];have h3:(n+1)*m=n*m+m:=Nat.succ_mul _ _;omega
theorem oV{g:ay}(h1:g.rs.length≤24)(h2:g.ls.length≤60)(h3:∀x∈g.rs,1≤x.id∧x.id≤99)(h4:g.rs.Pairwise fun x y=>x.id<y.id)
  (h5:∀x∈g.ls,(1≤x.ca∧x.ca≤1000)∧(1≤x.cb∧x.cb≤1000)∧0≤x.cap∧x.cap≤1000) (h6:∀x∈g.ls,aY g.rs x.a=true∧aY g.rs x.b=true) (h7:∀x∈g.ls,x.a<x.b) (h8:g.ls.Pairwise gB):cZ g=0:=by
 have a1:decide (24<g.rs.length)=false:=by simp;omega
 have a2:decide (60<g.ls.length)=false:=by simp;omega
 have a3:(g.rs.any fun x=>!inB x.id 1 99)=false:=by
  rw[List.any_eq_false];intro x hx;have:=h3 x hx;simp[inB];omega
 have a4:nO (fun x y=>decide (y.id≤x.id)) g.rs=false:=y8 (r:=fun x y=>x.id<y.id) (fun x y h=>by simpa using h) h4;have a5:g.ls.any Lk.bad=false:=by
  rw[List.any_eq_false];intro x hx;have:=h5 x hx;simp[Lk.bad,inB];omega
 have a6:(g.ls.any fun x=>!aY g.rs x.a || !aY g.rs x.b)=false:=by
  rw[List.any_eq_false];intro x hx;have:=h6 x hx;simp[this.1,this.2]
 have a7:(g.ls.any fun x=>decide (x.b≤x.a))=false:=by
  rw[List.any_eq_false];intro x hx;have:=h7 x hx;simp;omega
 have a8:nO (fun x y=>decide (y.a<x.a)||decide (x.a=y.a)&&decide (y.b≤x.b)) g.ls=false:=y8 (r:=gB) (fun x y h=>by
  unfold gB at h;simp only[Bool.or_eq_false_iff,Bool.and_eq_false_iff,decide_eq_false_iff_not];omega) h8
 simp only[cZ,jc,a1,a2,a3,a4,a5,a6,a7,a8,cond_false]
theorem jr{k:Nat}{x:Rt}:x∈cu k↔x.cap=true∧1≤x.id∧x.id≤k:=by
 simp only[cu,List.mem_map,List.mem_range];constructor
 ·rintro⟨i,hi,rfl⟩;simp only;exact⟨trivial,by omega,by omega⟩
 ·rintro⟨h1,h2,h3⟩;refine⟨(x.id-1).toNat,by omega,?_⟩;cases x;simp only at *;subst h1;congr 1;omega
theorem yO(k:Nat):(cu k).Pairwise fun x y=>x.id<y.id:=by
 unfold cu;rw[List.pairwise_map];exact List.pairwise_lt_range.imp fun h=>by simp only;omega
structure zq(most:Int)(g:ay):Prop where
 n:1≤g.rs.length∧(g.rs.length:Int)≤most
 ids:g.rs.map (·.id)=(cu g.rs.length).map (·.id)
 ok:cZ g=0
theorem qY{l m:List Rt}(h:l.map (·.id)=m.map (·.id))(r:Int):aY l r=aY m r:=by
 rw[Bool.eq_iff_iff,dH,dH,h]
theorem yF{rs rs':List Rt}{ls:List Lk}(h:rs.map (·.id)=rs'.map (·.id))(hc:cZ ⟨rs',ls⟩ = 0):cZ ⟨rs,ls⟩ = 0:=by
 have hO:=aU hc;have hl:rs.length=rs'.length:=by have:=congrArg List.length h;simpa using this
 refine oV (by have:=hO.nr;simp only at this⊢;omega) hO.nl (fun x hx=>?_) ?_ (fun x hx=>?_) (fun x hx=>?_) (fun x hx=>hO.lab hx) hO.Zu
 ·have:x.id∈rs'.map (·.id):=by rw[←h];exact List.mem_map_of_mem hx
  obtain⟨y,hy,e⟩:=List.mem_map.1 this;have:=List.any_eq_false.1 hO.ids y hy;simp[inB]at this
  omega
 ·have h1:=hO.rpw;have h2:(rs'.map (·.id)).Pairwise (· < ·):=by rw[List.pairwise_map];exact h1
  rw[←h,List.pairwise_map]at h2
  exact h2
 ·have:=List.any_eq_false.1 hO.cost x hx;simp[Lk.bad,inB]at this
  omega
 ·have:=hO.ends' hx;simp only at this⊢;rw[qY h,qY h];exact this
theorem vU(T:Tp)(most:Int):(dG T most).1.rs=cu (aT T 1 most).1.toNat:=rfl
theorem qm(T:Tp){most:Int}(hm:1≤most∧most≤8):zq most (dG T most).1:=by
 have r1:=aS T 1 most;have r2:=aQ T (a:=1) (b:=most) hm.1;have e:=vU T most;have hlen:(dG T most).1.rs.length=(aT T 1 most).1.toNat:=by rw[e];simp[cu]
 refine⟨by omega,by rw[hlen,e],?_⟩;unfold dG;simp only;generalize aT T 1 most=R at r1 r2;have hc:=dA (T:=R.2) (l:=[1,2,2,5]) (p:=fun x=>1≤x∧x≤1000) (by simp) (by simp);generalize aK R.2 [1,2,2,5]=C at hc;have hI:=zx.nP hc (R.1+1-2).toNat 2 C.2 [] ⟨by simp,List.Pairwise.nil⟩ (by omega);have hl:=jK C.1 7 (R.1+1-2).toNat 2 C.2 [] (by omega) (by omega)
 generalize (dS C.1 (R.1+1-2).toNat 2 C.2 []).1=L at hI hl;obtain⟨h1,h2⟩:=rC L [] hI.ne List.Pairwise.nil (by simp);have hall:∀x∈jO L [],(1≤x.a∧x.a<x.b∧x.b≤R.1)∧(1≤x.ca∧x.ca≤1000)∧(1≤x.cb∧x.cb≤1000)∧0≤x.cap∧x.cap≤1000:=fun x hx=>by
  have:=hI.all x (by simpa using(h2 x).1 hx);omega
 have hol:∀(l out:List Lk),(jO l out).length=l.length+out.length:=fun l=>by
  induction l with
  | nil=>intro out;simp[jO]
  | cons x l ih=>
    intro out;have:=nV x out;rw[jO,ih];simp;omega
 refine oV (by simp[cu];omega) ?_ (fun x hx=>?_) (yO _) (fun x hx=>(hall x hx).2) (fun x hx=>?_) (fun x hx=>(hall x hx).1.2.1) h1
 ·simp only[hol,List.length_nil]at hl⊢;have:(R.1+1-2).toNat≤7:=by omega
  have:=Nat.mul_le_mul_right 7 this;omega
 ·have:=jr.1 hx;omega
 ·have:=(hall x hx).1;constructor
  ·exact dH.2 (List.mem_map.2 ⟨⟨x.a,true⟩,jr.2 ⟨rfl,by simp only;omega⟩,rfl⟩)
  ·exact dH.2 (List.mem_map.2 ⟨⟨x.b,true⟩,jr.2 ⟨rfl,by simp only;omega⟩,rfl⟩)
theorem oD:∀(l:List Rt) (T:Tp),(iy l T).1.map (·.id)=l.map (·.id)
 | [],_=>rfl
 | x::l,T=>by
   simp only[iy,List.map_cons,oD l]
theorem uj(T:Tp){most:Int}(hm:1≤most∧most≤8):zq most (bW T most).1:=by
 have h:=qm T hm;have e:(bW T most).1.rs.map (·.id)=(dG T most).1.rs.map (·.id):=oD _ _;have hl:(bW T most).1.rs.length=(dG T most).1.rs.length:=by have:=congrArg List.length e;simpa using this
 refine⟨by rw[hl];exact h.n,by rw[e,hl];exact h.ids,?_⟩;have:=yF (rs:=(bW T most).1.rs) (rs':=(dG T most).1.rs) (ls:=(dG T most).1.ls) e h.ok;exact this
noncomputable def Ai:List (BitVec 64)→BitVec 64→Option (BitVec 64)
 | [],s=>some s
 | b::l,s=>if pc b≠1∨s&&&b≠0#64 then none else Ai l (s|||b)
noncomputable def oN:List (BitVec 64)→BitVec 64→Option (BitVec 64)
 | [],s=>some s
 | b::l,s=>if b=0#64∨s&&&b≠0#64 then none else oN l (s|||b)
noncomputable def EM(t:dQ)(B:BitVec 64):Bool:=match Ai (t.dl.map fun d=>d.2.bits) 0#64 with
 | none=>false
 | some s=>match oN (t.ls.map fun x=>x.2) s with
   | none=>false
   | some s=>decide (s=B)
theorem Ae{s b:BitVec 64}(h:∀k<64,¬(s.getLsbD k=true∧b.getLsbD k=true)):s&&&b=0#64:=by
 apply BitVec.eq_of_getLsbD_eq;intro k hk;have:=h k hk;rw[BitVec.getLsbD_and,BitVec.getLsbD_zero];cases h1:s.getLsbD k<;>cases h2:b.getLsbD k<;>simp_all
theorem aaR{k:Nat}(hk:k<64):pc (1#64<<<k)=1:=by
 have:ku (1#64<<<k) = [k]:=by
  have e:ku (1#64<<<k)=(List.range 64).filter fun i=>decide (i=k):=by
   unfold ku;apply List.filter_congr;intro i hi;rw[j_ hk (by simpa using hi)]
  rw[e,wP List.nodup_range,if_pos (by simpa using hk)]
 rw[pc,this];rfl
theorem Ie:∀(l:List (BitVec 64)) (s:BitVec 64),(∀b∈l,b≠0#64)→(∀k<64,(l.filter fun b=>b.getLsbD k).length+(if s.getLsbD k=true then 1 else 0)≤1)→∃s',oN l s=some s'∧∀k<64,s'.getLsbD k=true↔s.getLsbD k=true∨(l.filter fun b=>b.getLsbD k).length=1
 | [],s,_,_=>⟨s,rfl,by simp⟩
 | b::l,s,h0,h1=>by
   have hz:s&&&b=0#64:=Ae fun k hk ⟨a1,a2⟩=>by
    have:=h1 k hk;rw[if_pos a1,List.filter_cons,if_pos a2]at this
    simp at this
   have hk1:∀k<64,(l.filter fun b=>b.getLsbD k).length+(if(s|||b).getLsbD k=true then 1 else 0)≤1:=fun k hk=>by
    have:=h1 k hk;rw[List.filter_cons]at this
    by_cases a1:s.getLsbD k=true
    ·rw[if_pos (or_bit s b |>.2 (.inl a1))];rw[if_pos a1]at this;split at this<;>(try simp only[List.length_cons]at this)<;>omega
    ·by_cases a2:b.getLsbD k=true
     ·rw[if_pos (or_bit s b |>.2 (.inr a2))];rw[if_pos a2,if_neg a1]at this;simp only[List.length_cons]at this;omega
     ·rw[if_neg (fun a=>((or_bit s b).1 a).elim a1 a2)];rw[if_neg a2,if_neg a1]at this;omega
   obtain⟨s',h2,h3⟩:=Ie l (s|||b) (fun c hc=>h0 c (by simp[hc])) hk1;refine⟨s',by rw[oN,if_neg (fun a=>a.elim (h0 b (by simp)) (fun a=>a hz))];exact h2,fun k hk=>?_⟩;rw[h3 k hk,or_bit,List.filter_cons];have:=h1 k hk;rw[List.filter_cons]at this
   by_cases a2:b.getLsbD k=true
   ·rw[if_pos a2]at this⊢
    simp only[List.length_cons]at this⊢;simp only[a2,or_true,true_or,true_iff];exact .inr (by omega)
   ·rw[if_neg a2];simp[a2]
theorem Ic:∀(l:List (BitVec 64)) (s:BitVec 64),(∀b∈l,∃k<64,b=1#64<<<k)→Ai l s=oN l s
 | [],_,_=>rfl
 | b::l,s,h=>by
   obtain⟨k,hk,rfl⟩:=h b (by simp);have hnz:(1#64<<<k)≠0#64:=fun e=>by
    have:=congrArg (fun z=>z.getLsbD k) e;simp only[j_ hk hk]at this;simp at this
   rw[Ai,oN,Ic l _ (fun c hc=>h c (by simp[hc]))];simp only[aaR hk,ne_eq,not_true_eq_false,false_or,hnz]
theorem EL:∀(a b:List (BitVec 64)) (s:BitVec 64),oN (a++b) s=match oN a s with|none=>none|some s=>oN b s
 | [],b,s=>rfl
 | x::a,b,s=>by
   rw[List.cons_append,oN,oN];split
   ·rfl
   ·exact EL a b _
theorem WS{t:dQ}{B:BitVec 64}(h1:∀d∈t.dl,∃k<64,d.2.bits=1#64<<<k)(h2:∀x∈t.ls,x.2≠0#64)
  (h3:∀k<64,(t.dl.filter fun d=>d.2.bits.getLsbD k).length+(t.ls.filter fun x=>x.2.getLsbD k).length=if B.getLsbD k=true then 1 else 0):EM t B=true:=by
 have hd:∀b∈t.dl.map (fun d=>d.2.bits),∃k<64,b=1#64<<<k:=fun b hb=>by
  obtain⟨d,hd,rfl⟩:=List.mem_map.1 hb;exact h1 d hd
 have hall:∀b∈t.dl.map (fun d=>d.2.bits)++t.ls.map (fun x=>x.2),b≠0#64:=fun b hb=>by
  rcases List.mem_append.1 hb with hb|hb
  ·obtain⟨k,hk,rfl⟩:=hd b hb;intro e;have:=congrArg (fun z=>z.getLsbD k) e;simp only[j_ hk hk]at this;simp at this
  ·obtain⟨x,hx,rfl⟩:=List.mem_map.1 hb;exact h2 x hx
 have hlen:∀k,((t.dl.map (fun d=>d.2.bits)++t.ls.map (fun x=>x.2)).filter fun b=>b.getLsbD k).length=(t.dl.filter fun d=>d.2.bits.getLsbD k).length+(t.ls.filter fun x=>x.2.getLsbD k).length:=fun k=>by
  rw[List.filter_append,List.length_append,List.filter_map,List.filter_map,List.length_map,List.length_map];rfl
 obtain⟨s',g1,g2⟩:=Ie (t.dl.map (fun d=>d.2.bits)++t.ls.map (fun x=>x.2)) 0#64 hall (fun k hk=>by
  rw[hlen,h3 k hk];simp;split<;>omega)
 rw[EL]at g1
 unfold EM;rw[Ic _ _ hd];cases hx:oN (t.dl.map fun d=>d.2.bits) 0#64 with
 | none=>rw[hx]at g1;simp at g1
 | some s=>
   rw[hx]at g1
   simp only at g1⊢;rw[g1];simp only[decide_eq_true_eq];apply BitVec.eq_of_getLsbD_eq;intro k hk;have:=g2 k hk;rw[hlen,h3 k hk]at this
   rw[Bool.eq_iff_iff,this];simp
open Go Go.Tr
structure qW(rs:List Rt)(p:Pn):Prop where
 bF:0≤p.bF∧p.bF≤7
 len:aG p.len=true
 n:p.es.length≤24
 rt:∀e∈p.es,1≤e.r∧e.r≤99
 ids:∀e∈p.es,1≤e.id∧e.id≤256
 xX:p.es.Pairwise fun a b=>a.id<b.id
 Fp:(p.es.map (·.r)).Nodup
theorem uI{rs:List Rt}{p:Pn}(h:qW rs p):d_ p=true:=by
 have gi:∀i (hi:i<p.es.length),gid p.es i=p.es[i].id∧KA p.es i=p.es[i].r:=fun i hi=>by simp[gid,KA,List.getD,hi]
 refine AL (by simp[yD,inB,h.bF,h.len,h.n]) (fun i hi=>?_) (fun i j hj hi=>?_)
 ·have h1:=h.ids p.es[i] (List.getElem_mem hi);have h2:=h.rt p.es[i] (List.getElem_mem hi);have h3:=gi i hi;by_cases h0:i=0
  ·simp[LD,inB,h3,h1,h2,h0];subst h0;simp[h3,h1,h2]
  ·have h4:=gi (i-1) (by omega);have h5:=List.pairwise_iff_getElem.1 h.xX (i-1) i (by omega) hi (by omega);simp[LD,inB,h3,h1,h2,h0,h4,h5]
 ·rw[(gi i hi).2,(gi j (by omega)).2];have:=List.pairwise_iff_getElem.1 h.Fp j i (by simp;omega) (by simpa using hi) hj;simp only[List.getElem_map]at this;exact fun e=>this e.symm
theorem gQ:∀(n i:Nat) (T:Tp) (l:List Int),l.Nodup→(∀x∈l,x<(i:Int))→(kY n i T l).1.Nodup
 | 0,_,_,_,h,_=>h
 | n+1,i,T,l,h,hb=>by
   rw[kY];generalize (au T (i+1)).1.toNat=k;have hs:(l.take k++l.drop k).Nodup:=by rw[List.take_append_drop];exact h
   have hi:(i:Int)∉l:=fun hm=>by have:=hb _ hm;omega
   refine gQ n (i+1) _ _ ?_ fun x hx=>?_
   ·rw[List.nodup_append]at hs⊢
    obtain⟨h1,h2,h3⟩:=hs;refine⟨?_,h2,fun a ha b hb'=>?_⟩
    ·rw[List.nodup_append];refine⟨h1,by simp,fun a ha b hb'=>?_⟩;simp at hb';subst hb';intro e;subst e;exact hi (List.mem_of_mem_take ha)
    ·rcases List.mem_append.1 ha with ha|ha
     ·exact h3 a ha b hb'
     ·simp at ha;subst ha;intro e;subst e;exact hi (List.mem_of_mem_drop hb')
   ·simp only[List.mem_append,List.mem_singleton]at hx;rcases hx with (hx|hx)|hx
    ·have:=hb x (List.mem_of_mem_take hx);omega
    ·omega
    ·have:=hb x (List.mem_of_mem_drop hx);omega
theorem vT(k:Nat){i:Nat}(h:i<k)(d:Rt):((cu k).getD i d).id=(i:Int)+1:=by
 simp[cu,List.getD,h]
structure QE(k:Nat)(o:List Int)(id:Int)(l:List Ed):Prop where
 pos:0≤id
 rt:∀e∈l,1≤e.r∧e.r≤k∧e.r-1∉o
 ids:∀e∈l,1≤e.id∧e.id≤256∧e.id≤id
 xX:l.Pairwise fun a b=>a.id<b.id
 Fp:(l.map (·.r)).Nodup
theorem nZ(k:Nat)(len:Int)(hl:8≤len):∀(o:List Int) (T:Tp) (id:Int) (l:List Ed),o.Nodup→(∀x∈o,0≤x∧x<(k:Int))→QE k o id l→
  QE k [] (aX (cu k) len o T id l).2.1 (aX (cu k) len o T id l).1
 | [],T,id,l,_,_,h=>h
 | x::o,T,id,l,hn,hb,h=>by
   rw[List.nodup_cons]at hn
   rw[aX];have hbx:=hb x (by simp);refine nZ k len hl o _ _ _ hn.2 (fun y hy=>hb y (by simp[hy])) ?_;unfold aV;simp only;have h0:QE k o id l:=⟨h.pos,fun e he=>by have:=h.rt e he;simp at this;exact⟨this.1,this.2.1,this.2.2.2⟩,h.ids,h.xX,h.Fp⟩
   split
   ·exact h0
   ·have bp:1≤(aK (au T 4).2 [1,1,1,2,len-1]).1:=dA (p:=fun x=>1≤x) (by simp) (by simp;omega);simp only;generalize aK (au T 4).2 [1,1,1,2,len-1]=p at bp⊢;split
    ·rename_i hid;have hr:((cu k).getD x.toNat ⟨0,false⟩).id=x+1:=by rw[vT k (by omega)];omega
     rw[hr];refine⟨by have:=h.pos;first|omega|(simp only;omega),fun e he=>?_,fun e he=>?_,?_,?_⟩
     ·simp only[List.mem_append,List.mem_singleton]at he;rcases he with he|rfl
      ·exact h0.rt e he
      ·refine⟨by first|omega|(simp only;omega),by first|omega|(simp only;omega),?_⟩;rw[show(x+1-1:Int)=x by omega];exact hn.1
     ·simp only[List.mem_append,List.mem_singleton]at he;rcases he with he|rfl
      ·have:=h.ids e he;first|omega|(simp only;omega)
      ·have:=h.pos;first|omega|(simp only;omega)
     ·rw[List.pairwise_append];refine⟨h.xX,by simp,fun a ha b hb'=>?_⟩;simp at hb';subst hb';have:=h.ids a ha;first|omega|(simp only;omega)
     ·rw[List.map_append,List.nodup_append];refine⟨h.Fp,by simp,fun a ha b hb'=>?_⟩;simp at hb';subst hb';obtain⟨e,he,rfl⟩:=List.mem_map.1 ha;have:=(h.rt e he).2.2;intro e1;apply this;rw[e1];simp
    ·exact⟨by have:=h.pos;first|omega|(simp only;omega),h0.rt,fun e he=>by have:=h.ids e he;first|omega|(simp only;omega),h.xX,h.Fp⟩
theorem l7(T:Tp){k:Nat}(hk:k≤24):qW (cu k) (bJ T (cu k)).1:=by
 have hl:((8:Int)≤(aK (au T 3).2 [8,8,16,32,64]).1)∧aG (aK (au T 3).2 [8,8,16,32,64]).1=true:=dA (p:=fun x=>(8:Int)≤x∧aG x=true) (by simp) (by simp;decide);have h1:=aC T 3;have h2:=bg T (n:=3) (by omega);have hln:=qh T (cu k);rw[EY]at hln
 have hord:=lZ (aK (au T 3).2 [8,8,16,32,64]).2 k;have hnd:(bT (aK (au T 3).2 [8,8,16,32,64]).2 k).1.Nodup:=gQ _ _ _ _ (by simp) (by simp);have hI:=nZ k _ hl.1 _ (bT (aK (au T 3).2 [8,8,16,32,64]).2 k).2 0 [] hnd hord ⟨by omega,by simp,by simp,by simp,by simp⟩;refine⟨by simp only[bJ];omega,hl.2,by omega,fun e he=>?_,fun e he=>?_,?_,?_⟩
 ·have he':e∈(aX (cu k) (aK (au T 3).2 [8,8,16,32,64]).1 (bT (aK (au T 3).2 [8,8,16,32,64]).2 k).1 (bT (aK (au T 3).2 [8,8,16,32,64]).2 k).2 0 []).1:=by simpa[bJ]using he
  have:=hI.rt e he';omega
 ·have he':e∈(aX (cu k) (aK (au T 3).2 [8,8,16,32,64]).1 (bT (aK (au T 3).2 [8,8,16,32,64]).2 k).1 (bT (aK (au T 3).2 [8,8,16,32,64]).2 k).2 0 []).1:=by simpa[bJ]using he
  have:=hI.ids e he';omega
 ·simpa[bJ]using hI.xX
 ·simpa[bJ]using hI.Fp
end Go.Proofs
