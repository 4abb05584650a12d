/-
  What functions of the program compute, stated as contracts over plain data; the conditions of each stand in its own statement.
-/
import Derived.Test.YtboimfkommpglaaGreatDoorZA19
import Derived.Test.YtboimfkommpglaaGreatDoorZA31
import Derived.Test.YtboimfkommpglaaGreatDoorZA20
import Derived.Test.YtboimfkommpglaaGreatDoorZA21
set_option linter.unusedSimpArgs false
set_option maxRecDepth 100000
set_option maxHeartbeats 2000000
namespace Go.Proofs
open Go Go.Tr
def JV(r n:Int)(T:Tp)(x:Rw):Rw×Tp:=
 let o:=dD T 3
 if o.1=false then(x,o.2)else
 let s:=au o.2 4
 if s.1=0 then(⟨x.id,[]⟩,s.2)
 else if s.1=1 then(⟨x.id,[r]⟩,s.2)
 else
  let a:=au s.2 (n+1)
  let m:=au a.2 n
  (⟨x.id,if 1+a.1<1+m.1∧1+a.1≠r∧1+m.1≠r then [1+a.1,1+m.1]else if 1+a.1≠r then [1+a.1]else x.nx⟩,m.2)
def o_(r n:Int):List Rw→Tp→List Rw×Tp
 | [],T=>([],T)
 | x::l,T=>((JV r n T x).1::(o_ r n l (JV r n T x).2).1,(o_ r n l (JV r n T x).2).2)
def DU(n:Int):List Tb→Tp→List Tb×Tp
 | [],T=>([],T)
 | b::l,T=>(⟨b.r,b.sd,b.len,(o_ b.r n b.rows T).1⟩::(DU n l (o_ b.r n b.rows T).2).1,(DU n l (o_ b.r n b.rows T).2).2)
theorem Un(r n:Int)(T:Tp)(x:Rw):ak (JV r n T x).2=ak T:=by
 unfold JV;simp only;split
 ·simp
 split
 ·simp
 split<;>simp
theorem FW(r n:Int):∀(l:List Rw) (T:Tp),ak (o_ r n l T).2=ak T
 | [],_=>rfl
 | x::l,T=>by rw[o_];exact(FW r n l _).trans (Un r n T x)
theorem Jk(n:Int):∀(l:List Tb) (T:Tp),ak (DU n l T).2=ak T
 | [],_=>rfl
 | b::l,T=>by rw[DU];exact(Jk n l _).trans (FW b.r n b.rows T)
theorem Ji(r n:Int):∀(l:List Rw) (T:Tp),(o_ r n l T).1.length=l.length
 | [],_=>rfl
 | x::l,T=>by simp[o_,Ji r n l]
theorem XJ(T:Tp)(hT:ak T)(l:List Tb)(hl:DL l)(n:Int)(hn:1≤n∧n≤1000):Contract Tryz.prog 39 [.ptr (.x 0) 0,.d (.sl (oq l)),.d (.int .i64 n)] [aJ T] (.d (.sl (oq (DU n l T).1))) [aJ (DU n l T).2] []:=by
 have hll:=hl.n;refine aj Tryz.func39 rfl (fun E0=>?_);refine cO.sound (g:=.mk) (ow:=[]) (kp:=(fun k=>k==0||k==1||k==2||k==6||k==7||k==8||k==9||k==10||k==11||k==12||k==16||k==28||k==33||k==35||k==44||k==70||k==79||k==86)) ?_;rw[Tryz.ntmps39];simp -dsimp
 refine aN.of [] (fun k=>k==0||k==1||k==2||k==6||k==7||k==8||k==9||k==10||k==11||k==12||k==16||k==28||k==33||k==35||k==44||k==70||k==79||k==86) (ι:={z:Nat×Tp×List Tb // z.1≤l.length∧ak z.2.1∧z.2.2.length=z.1∧DU n l T=(z.2.2++(DU n (l.drop z.1) z.2.1).1,(DU n (l.drop z.1) z.2.1).2)})
  (fun z=>[(Pl.s 0,It.v (.ptr (Pl.x 0) 0)),(Pl.s 1,It.v (.d (.sl (oq l)))),(Pl.s 2,It.v (.d (.int .i64 n))),(Pl.x 0,aJ z.1.2.1),(Pl.s 6,It.v (.c (Value.slice none 0 0))),
   (Pl.s 7,It.v (.aB 7 z.1.2.2.length)),(Pl.o 7,It.row 65 4 (dd (oq z.1.2.2)) false),(Pl.s 8,It.v (.d (.int .i64 z.1.1)))]) (fun z=>l.length-z.1.1) ⟨(0,T,[]),by simp,hT,rfl,by simp⟩ ?_ ?_
 ·exact GS.own' (k:=7) 65 4 (by simp) (by simp) (by simp[oq])
 rintro⟨⟨i,T1,out⟩,i1,i2,i3,i4⟩;simp only at i1 i2 i3 i4;by_cases hi:i<l.length
 ·have hiz:(i:Int)<l.length:=by omega
  have hx:l[i]? = some l[i]:=List.getElem?_eq_getElem hi;have hm:=hl.t l[i] (List.getElem_mem hi);have hd:l.drop i=l[i]::l.drop (i+1):=List.drop_eq_getElem_cons hi;generalize l[i]=b at hx hm hd;have hx':=wX hx;simp -dsimp[hiz,hx'];and_intros;all_goals try first|rfl|omega|exact⟨by kernel_rfl⟩
  refine ah.of (EJ b hm.rows hm.nx) [] 2000 ?_;simp -dsimp[hiz,hx',bZ,jf];have hrl:=hm.rows
  refine aN.of [] (fun k=>k==0||k==1||k==2||k==6||k==7||k==8||k==9||k==10||k==11||k==12||k==16||k==28||k==33||k==35||k==44||k==70||k==79||k==86) (ι:={z:Nat×Tp×List Rw // z.1≤b.rows.length∧ak z.2.1∧z.2.2.length=b.rows.length∧o_ b.r n b.rows T1=(z.2.2.take z.1++(o_ b.r n (z.2.2.drop z.1) z.2.1).1,(o_ b.r n (z.2.2.drop z.1) z.2.1).2)})
   (fun z=>[(Pl.s 0,It.v (.ptr (Pl.x 0) 0)),(Pl.s 1,It.v (.d (.sl (oq l)))),(Pl.s 2,It.v (.d (.int .i64 n))),(Pl.x 0,aJ z.1.2.1),(Pl.s 6,It.v (.c (Value.slice none 0 0))),
    (Pl.s 7,It.v (.aB 7 out.length)),(Pl.o 7,It.row 65 4 (dd (oq out)) false),(Pl.s 8,It.v (.d (.int .i64 i))),
    (Pl.o 2003,It.row 167 2 (dd (rws z.1.2.2)) false),(Pl.o 9,It.box [TV.d (.int .i64 b.r),TV.d (.int .i64 b.sd),TV.d (.int .i64 b.len),TV.aB 2003 b.rows.length]),(Pl.s 9,It.v (.ptr (Pl.o 9) 0)),(Pl.s 10,It.v (.d (.int .i64 z.1.1)))]) (fun z=>b.rows.length-z.1.1) ⟨(0,T1,b.rows),by simp,i2,rfl,by simp⟩ ?_ ?_
  ·exact GS.to (by simp)
  rintro⟨⟨k,T2,L⟩,k1,k2,k3,k4⟩;simp only at k1 k2 k3 k4;have Il:(rws L).length=b.rows.length:=by simp[k3]
  by_cases hk:k<b.rows.length
  ·have hkz:(k:Int)<b.rows.length:=by omega
   have hkL:k<L.length:=by omega
   have hg:L[k]? = some L[k]:=List.getElem?_eq_getElem hkL;have hdL:L.drop k=L[k]::L.drop (k+1):=List.drop_eq_getElem_cons hkL;generalize L[k]=x at hg hdL;have hgr:(dd (rws L))[k]? = some [TV.d (.int .i64 x.id),TV.d (ints x.nx)]:=by simp[dd,rws,hg,Rw.cs]
   have hgl:((dd (rws L)).getD k []) = [TV.d (.int .i64 x.id),TV.d (ints x.nx)]:=by rw[List.getD_eq_getElem?_getD,hgr];rfl
   have hset:∀y:List Int,(dd (rws L)).set k [TV.d (.int .i64 x.id),TV.d (ints y)]=dd (rws (L.set k ⟨x.id,y⟩)):=fun y=>by simp[dd,rws,List.map_set,Rw.cs]
   have hnext:∀(y:List Int) (T3:Tp),JV b.r n T2 x=(⟨x.id,y⟩,T3)→o_ b.r n b.rows T1=((L.set k ⟨x.id,y⟩).take (k+1)++(o_ b.r n ((L.set k ⟨x.id,y⟩).drop (k+1)) T3).1,(o_ b.r n ((L.set k ⟨x.id,y⟩).drop (k+1)) T3).2):=fun y T3 h=>by
    have e1:(L.set k ⟨x.id,y⟩).take (k+1)=L.take k++[⟨x.id,y⟩]:=by
     rw[List.take_add_one,List.getElem?_set_self hkL,List.take_set_of_le (Nat.le_refl _)];rfl
    have e2:(L.set k ⟨x.id,y⟩).drop (k+1)=L.drop (k+1):=List.drop_set_of_lt (by omega);rw[k4,hdL,o_,h,e1,e2];simp
   have hself:L.set k ⟨x.id,x.nx⟩ = L:=by
    refine List.ext_getElem? fun m=>?_
    rw[List.getElem?_set];split
    ·rename_i e;subst e;exact hg.symm
    ·rfl
   unfold JV at hnext;simp -dsimp[hkz,Il,k3];and_intros;all_goals try first|rfl|omega|exact⟨by kernel_rfl⟩
   refine ah.of (gK T2 k2 3 ⟨by omega,by omega⟩ ⟨by omega,by omega⟩) [.x 0] 0 ?_;have kO:ak (dD T2 3).2:=by simpa using k2
   generalize dD T2 3=o at kO hnext⊢;simp only at hnext;rcases (Bool.eq_false_or_eq_true o.1).symm with ho|ho
   ·have e:=hnext x.nx o.2 (by rw[if_pos ho]);rw[hself]at e
    simp -dsimp[hkz,ho,Il,k3,wrap_i64 (n:=(k:Int)+1) (by omega) (by omega)];and_intros;all_goals try first|rfl|omega|exact⟨by kernel_rfl⟩
    exact⟨⟨(k+1,o.2,L),by dsimp only;omega,kO,k3,e⟩,GS.to (by simp),by simp;omega⟩
   have hof :¬o.1=false:=by simp[ho]
   simp -dsimp[hkz,ho,Il,k3];refine ah.of (bn o.2 kO 4 ⟨by omega,by omega⟩) [.x 0] 0 ?_;have n1:=aC o.2 4;have n2:=bg o.2 (n:=4) (by omega);have kS:ak (au o.2 4).2:=by simpa using kO
   generalize au o.2 4=s at n1 n2 kS hnext⊢;by_cases s0:s.1=0
   ·have e:=hnext [] s.2 (by rw[if_neg hof,if_pos s0]);have hnl:eu ((dd (rws L)).set k [TV.d (.int .i64 x.id),TV.c (Value.slice none 0 0)])=some (rws (L.set k ⟨x.id,[]⟩)):=by
     rw[O8 (Jg _) (x:=[.int .i64 x.id,.sl []]) rfl];simp[rws,List.map_set,Rw.cs,ints]
    simp -dsimp[hkz,ho,eq_true s0,hgr,hgl,Il,k3,wrap_i64 (n:=(k:Int)+1) (by omega) (by omega)];and_intros;all_goals try first|rfl|omega|exact⟨by kernel_rfl⟩
    exact⟨⟨(k+1,s.2,L.set k ⟨x.id,[]⟩),by dsimp only;omega,kS,by simpa using k3,e⟩,GS.aaU 2003 (e:=167) (k:=2) (es:=(dd (rws L)).set k [TV.d (.int .i64 x.id),TV.c (Value.slice none 0 0)]) (sh:=false) (by simp) hnl (by simp),by simp;omega⟩
   by_cases s1:s.1=1
   ·have e:=hnext [b.r] s.2 (by rw[if_neg hof,if_neg s0,if_pos s1]);have hs:=hset [b.r];simp only[ints,List.map_nil,List.map_cons]at hs;simp -dsimp[hkz,ho,eq_false s0,eq_true s1,hgr,hgl,Il,k3,hs,wrap_i64 (n:=(k:Int)+1) (by omega) (by omega)];and_intros;all_goals try first|rfl|omega|exact⟨by kernel_rfl⟩
    exact⟨⟨(k+1,s.2,L.set k ⟨x.id,[b.r]⟩),by dsimp only;omega,kS,by simpa using k3,e⟩,GS.to (by simp),by simp;omega⟩
   simp -dsimp[hkz,ho,eq_false s0,eq_false s1,Il,k3,wrap_i64 (n:=n+1) (by omega) (by omega)];refine ah.of (bn s.2 kS (n+1) ⟨by omega,by omega⟩) [.x 0] 0 ?_;have a1:=aC s.2 (n+1);have a2:=bg s.2 (n:=n+1) (by omega);have kA:ak (au s.2 (n+1)).2:=by simpa using kS
   generalize au s.2 (n+1)=a at a1 a2 kA hnext⊢;have b1:=aC a.2 n;have b2:=bg a.2 (n:=n) (by omega);have kM:ak (au a.2 n).2:=by simpa using kA
   have hnc:=bn a.2 kA n ⟨by omega,by omega⟩;generalize au a.2 n=m at b1 b2 kM hnc hnext;have ae9:∀y z:List Int,(dd (rws (L.set k ⟨x.id,y⟩))).set k [TV.d (.int .i64 x.id),TV.d (ints z)]=dd (rws (L.set k ⟨x.id,z⟩)):=fun y z=>by simp[dd,rws,List.map_set,Rw.cs]
   have ae3:∀y:List Int,(dd (rws (L.set k ⟨x.id,y⟩)))[k]? = some [TV.d (.int .i64 x.id),TV.d (ints y)]:=fun y=>by simp[dd,rws,List.getElem?_set,hkL,Rw.cs]
   have aiR:∀y:List Int,((dd (rws (L.set k ⟨x.id,y⟩))).getD k []) = [TV.d (.int .i64 x.id),TV.d (ints y)]:=fun y=>by rw[List.getD_eq_getElem?_getD,ae3];rfl
   have aiW:∀y:List Int,(rws (L.set k ⟨x.id,y⟩)).length=b.rows.length:=fun y=>by simp[k3]
   by_cases v1:1+a.1=b.r
   ·have e:=hnext x.nx m.2 (by rw[if_neg hof,if_neg s0,if_neg s1,if_neg (by omega),if_neg (by omega)]);rw[hself]at e
    by_cases v2:a.1<m.1
    ·simp -dsimp[hkz,ho,eq_false s0,eq_false s1,eq_true v1,Il,k3,wrap_i64 (n:=n+1) (by omega) (by omega),wrap_i64 (n:=1+a.1) (by omega) (by omega),wrap_i64 (n:=1+m.1) (by omega) (by omega),wrap_i64 (n:=(k:Int)+1) (by omega) (by omega)];refine ah.of hnc [.x 0] 0 ?_
     simp -dsimp[hkz,ho,eq_false s0,eq_false s1,eq_true v1,v2,Il,k3,wrap_i64 (n:=n+1) (by omega) (by omega),wrap_i64 (n:=1+a.1) (by omega) (by omega),wrap_i64 (n:=1+m.1) (by omega) (by omega),wrap_i64 (n:=(k:Int)+1) (by omega) (by omega)];and_intros;all_goals try first|rfl|omega|exact⟨by kernel_rfl⟩
     exact⟨⟨(k+1,m.2,L),by dsimp only;omega,kM,k3,e⟩,GS.to (by simp),by simp;omega⟩
    ·simp -dsimp[hkz,ho,eq_false s0,eq_false s1,eq_true v1,Il,k3,wrap_i64 (n:=n+1) (by omega) (by omega),wrap_i64 (n:=1+a.1) (by omega) (by omega),wrap_i64 (n:=1+m.1) (by omega) (by omega),wrap_i64 (n:=(k:Int)+1) (by omega) (by omega)];refine ah.of hnc [.x 0] 0 ?_
     simp -dsimp[hkz,ho,eq_false s0,eq_false s1,eq_true v1,v2,Il,k3,wrap_i64 (n:=n+1) (by omega) (by omega),wrap_i64 (n:=1+a.1) (by omega) (by omega),wrap_i64 (n:=1+m.1) (by omega) (by omega),wrap_i64 (n:=(k:Int)+1) (by omega) (by omega)];and_intros;all_goals try first|rfl|omega|exact⟨by kernel_rfl⟩
     exact⟨⟨(k+1,m.2,L),by dsimp only;omega,kM,k3,e⟩,GS.to (by simp),by simp;omega⟩
   have hs1:=hset [1+a.1];have hs2:=ae9 [1+a.1] [1+a.1,1+m.1];have hq1:=ae3 [1+a.1];have hq2:=aiR [1+a.1];have hq3:=aiW [1+a.1];simp only[ints,List.map_nil,List.map_cons]at hs1 hs2 hq1 hq2;by_cases v2:a.1<m.1
   ·by_cases v3:1+m.1=b.r
    ·have e:=hnext [1+a.1] m.2 (by rw[if_neg hof,if_neg s0,if_neg s1,if_neg (by omega),if_pos (by omega)]);simp -dsimp[hkz,ho,eq_false s0,eq_false s1,eq_false v1,hgr,hgl,hs1,Il,k3,wrap_i64 (n:=n+1) (by omega) (by omega),wrap_i64 (n:=1+a.1) (by omega) (by omega),wrap_i64 (n:=1+m.1) (by omega) (by omega),wrap_i64 (n:=(k:Int)+1) (by omega) (by omega)];and_intros
     all_goals try first|rfl|omega|exact⟨by kernel_rfl⟩
     refine ah.of hnc [.x 0] 0 ?_;simp -dsimp[hkz,ho,eq_false s0,eq_false s1,eq_false v1,v2,eq_true v3,hgr,hgl,hs1,Il,k3,wrap_i64 (n:=n+1) (by omega) (by omega),wrap_i64 (n:=1+a.1) (by omega) (by omega),wrap_i64 (n:=1+m.1) (by omega) (by omega),wrap_i64 (n:=(k:Int)+1) (by omega) (by omega)];and_intros;all_goals try first|rfl|omega|exact⟨by kernel_rfl⟩
     exact⟨⟨(k+1,m.2,L.set k ⟨x.id,[1+a.1]⟩),by dsimp only;omega,kM,by simpa using k3,e⟩,GS.to (by simp),by simp;omega⟩
    ·have e:=hnext [1+a.1,1+m.1] m.2 (by rw[if_neg hof,if_neg s0,if_neg s1,if_pos (by omega)]);simp -dsimp[hkz,ho,eq_false s0,eq_false s1,eq_false v1,hgr,hgl,hs1,Il,k3,wrap_i64 (n:=n+1) (by omega) (by omega),wrap_i64 (n:=1+a.1) (by omega) (by omega),wrap_i64 (n:=1+m.1) (by omega) (by omega),wrap_i64 (n:=(k:Int)+1) (by omega) (by omega)];and_intros
     all_goals try first|rfl|omega|exact⟨by kernel_rfl⟩
     refine ah.of hnc [.x 0] 0 ?_;simp -dsimp[hkz,ho,eq_false s0,eq_false s1,eq_false v1,v2,eq_false v3,hgr,hgl,hs1,hs2,hq1,hq2,hq3,Il,k3,wrap_i64 (n:=n+1) (by omega) (by omega),wrap_i64 (n:=1+a.1) (by omega) (by omega),wrap_i64 (n:=1+m.1) (by omega) (by omega),wrap_i64 (n:=(k:Int)+1) (by omega) (by omega)];and_intros;all_goals try first|rfl|omega|exact⟨by kernel_rfl⟩
     exact⟨⟨(k+1,m.2,L.set k ⟨x.id,[1+a.1,1+m.1]⟩),by dsimp only;omega,kM,by simpa using k3,e⟩,GS.to (by simp),by simp;omega⟩
   ·have e:=hnext [1+a.1] m.2 (by rw[if_neg hof,if_neg s0,if_neg s1,if_neg (by omega),if_pos (by omega)]);simp -dsimp[hkz,ho,eq_false s0,eq_false s1,eq_false v1,hgr,hgl,hs1,Il,k3,wrap_i64 (n:=n+1) (by omega) (by omega),wrap_i64 (n:=1+a.1) (by omega) (by omega),wrap_i64 (n:=1+m.1) (by omega) (by omega),wrap_i64 (n:=(k:Int)+1) (by omega) (by omega)];and_intros
    all_goals try first|rfl|omega|exact⟨by kernel_rfl⟩
    refine ah.of hnc [.x 0] 0 ?_;simp -dsimp[hkz,ho,eq_false s0,eq_false s1,eq_false v1,v2,hgr,hgl,hs1,Il,k3,wrap_i64 (n:=n+1) (by omega) (by omega),wrap_i64 (n:=1+a.1) (by omega) (by omega),wrap_i64 (n:=1+m.1) (by omega) (by omega),wrap_i64 (n:=(k:Int)+1) (by omega) (by omega)];and_intros;all_goals try first|rfl|omega|exact⟨by kernel_rfl⟩
    exact⟨⟨(k+1,m.2,L.set k ⟨x.id,[1+a.1]⟩),by dsimp only;omega,kM,by simpa using k3,e⟩,GS.to (by simp),by simp;omega⟩
  ·have hkz :¬(k:Int)<b.rows.length:=by omega
   obtain rfl:k=b.rows.length:=by omega
   simp -dsimp[hkz,Il,wrap_i64 (n:=(i:Int)+1) (by omega) (by omega)];and_intros;all_goals try first|rfl|omega|exact⟨by kernel_rfl⟩
   have e0:L.drop b.rows.length = []:=List.drop_eq_nil_of_le (by omega);have e1:L.take b.rows.length=L:=List.take_of_length_le (by omega);simp only[e0,e1,o_,List.append_nil]at k4;refine⟨⟨(i+1,T2,out++[⟨b.r,b.sd,b.len,L⟩]),by dsimp only;omega,k2,by simp[i3],?_⟩,GS.to (by simp[oq,Tb.cs,jf,i3]),by simp;omega⟩;rw[i4,hd,DU,k4];simp
 ·have hiz :¬(i:Int)<l.length:=by omega
  obtain rfl:i=l.length:=by omega
  simp -dsimp[hiz];refine Fin.view 6 ?_;simp -dsimp;refine Fin.of ?_;simp only[List.drop_length,DU,List.append_nil]at i4;simp[i4]
set_option maxHeartbeats 8000000
theorem zX(p:Pk):Contract Tryz.prog 195 [dX p] [] (.d (.int .i64 (kX p))) [] []:=by
 refine aj Tryz.func195 rfl (fun E0=>?_);refine cO.sound (g:=.mk) (ow:=[]) (kp:=(fun k=>k==0||k==1||k==2||k==5)) ?_;rw[Tryz.ntmps195];have hv:=o9 p;simp only[dX,Pk.cs,List.map]at hv;simp -dsimp[dX,Pk.cs];refine ah.of hv [] 0 ?_;rcases (Bool.eq_false_or_eq_true p.ok).symm with a1|a1
 ·simp -dsimp[a1];refine Fin.of ?_;simp[kX,a1]
 ·have h:=Tj a1;simp -dsimp[a1,wrap_i64 (n:=p.ent%8) (by omega) (by omega),Int.tmod_eq_emod_of_nonneg h.1];refine Fin.of ?_;simp[kX,a1]
theorem xU(p:Pk)(m:BitVec 64):Contract Tryz.prog 197 [dX p,.d (bv m)] [] (.rG [dX (jg p m).1,.d (.bool (jg p m).2)]) [] []:=by
 refine aj Tryz.func197 rfl (fun E0=>?_);refine cO.sound (g:=.mk) (ow:=[]) (kp:=(fun k=>k==0||k==1||k==2||k==4||k==5||k==20)) ?_;rw[Tryz.ntmps197];have hv:=o9 p;simp only[dX,Pk.cs,List.map,bv]at hv;simp -dsimp[dX,Pk.cs,bv];refine ah.of hv [] 0 ?_;rcases (Bool.eq_false_or_eq_true p.ok).symm with a1|a1
 ·simp -dsimp[a1];refine Fin.of ?_;simp[jg,a1,Bh,dX,Pk.cs,bv]
 ·have h:=qA a1;by_cases a2:p.ttl=0
  ·simp -dsimp[a1,a2];refine Fin.of ?_;simp[jg,a2,Bh,dX,Pk.cs,bv]
  by_cases a3:p.bits&&&m=0#64
  ·simp -dsimp[a1,a2,a3];refine Fin.of ?_;simp[jg,a3,Bh,dX,Pk.cs,bv]
  simp -dsimp[a1,a2,a3,wrap_i64 (n:=p.ttl-1) (by omega) (by omega)];refine Fin.of ?_;simp[jg,a1,a2,a3,ji,dX,Pk.cs,bv]
def hasK(B:BitVec 64)(k:Int):Bool:=decide (0≤k)&&(decide (k<64)&&B.getLsbD k.toNat)
theorem Bq(B:BitVec 64)(k:Nat):(B>>>k&&&1#64=1#64)↔B.getLsbD k=true:=by
 rw[BitVec.and_one_eq_setWidth_ofBool_getLsbD,BitVec.getLsbD_ushiftRight,Nat.add_zero];cases B.getLsbD k<;>decide
theorem xM(B:BitVec 64)(k:Int):Contract Tryz.prog 244 [.d (bv B),.d (.int .i64 k)] [] (.d (.bool (hasK B k))) [] []:=by
 refine aj Tryz.func244 rfl (fun E0=>?_);refine cO.sound (g:=.mk) (ow:=[]) (kp:=(fun k=>k==0||k==1||k==4)) ?_;rw[Tryz.ntmps244];by_cases a2:0≤k
 ·by_cases a3:k<64
  ·have hb:=Bq B k.toNat;simp -dsimp[bv,eq_true a2,eq_true a3];have hw:IntKind.u64.wrap k=k:=wrap_u64 (by omega) (by omega);refine⟨by rw[hw];exact a2,?_⟩;refine Fin.of ?_;rw[hw];simp[hasK,a2,a3,hb]
  ·simp -dsimp[bv,eq_true a2,a3];try refine⟨?_,⟨by kernel_rfl⟩⟩
   refine Fin.of ?_;simp[hasK,a3]
 ·simp -dsimp[bv,a2];try refine⟨?_,⟨by kernel_rfl⟩⟩
  refine Fin.of ?_;simp[hasK,a2]
def jl(B:BitVec 64)(k:Nat):List Int:=((List.range k).filter fun i=>B.getLsbD i).map Int.ofNat
theorem tY(B:BitVec 64)(k:Nat):jl B (k+1)=jl B k++(if B.getLsbD k=true then [(k:Int)]else []):=by
 unfold jl;rw[List.range_succ,List.filter_append,List.map_append];cases h:B.getLsbD k<;>simp[h]
theorem wL(B:BitVec 64)(k:Nat):(jl B k).length≤k:=by
 unfold jl;rw[List.length_map];exact Nat.le_trans (List.length_filter_le _ _) (by simp)
theorem wK(B:BitVec 64):jl B 64=lg B:=rfl
theorem sK(B:BitVec 64):Contract Tryz.prog 198 [.d (bv B)] [] (.d (ints (lg B))) [] []:=by
 refine aj Tryz.func198 rfl (fun E0=>?_);refine cO.sound (g:=.mk) (ow:=[]) (kp:=(fun k=>k==0||k==2||k==3||k==4||k==6||k==11)) ?_;rw[Tryz.ntmps198];simp -dsimp[bv];refine aN.of [] (fun k=>k==0||k==2||k==3||k==4||k==6||k==11) (ι:={k:Nat // k≤64})
  (fun z=>[(Pl.s 0,It.v (.d (.int IntKind.u64 (tn B)))),(Pl.s 2,It.v (.c (Value.slice none 0 0))),(Pl.s 3,It.v (.aB 3 (jl B z.1).length)),(Pl.o 3,.row 3 1 (dd (dJ .i64 (jl B z.1))) false),(Pl.s 4,It.v (.d (.int .i64 z.1)))])
  (fun z=>64-z.1) ⟨0,by omega⟩ ?_ ?_
 ·exact GS.own' (k:=3) 3 1 (by simp) (by simp) (by simp[dJ,jl])
 ·rintro⟨k,k1⟩;have hll:=wL B k;by_cases hk:k<64
  ·have hkz:(k:Int)<64:=by omega
   have hh:=xM B k;have hv:hasK B k=B.getLsbD k:=by simp[hasK,hk,hkz]
   rw[hv]at hh
   simp only[bv]at hh;have hn:=tY B k;simp -dsimp[hkz];try refine⟨?_,⟨by kernel_rfl⟩⟩
   refine ah.of hh [] 0 ?_;rcases (Bool.eq_false_or_eq_true (B.getLsbD k)).symm with b1|b1
   ·rw[b1]at hn⊢
    simp only[Bool.false_eq_true,if_false,List.append_nil]at hn;simp -dsimp[wrap_i64 (n:=(k:Int)+1) (by omega) (by omega)];and_intros;all_goals try first|rfl|omega|exact⟨by kernel_rfl⟩
    exact⟨⟨k+1,by omega⟩,GS.to (by simp[hn]),by simp;omega⟩
   ·rw[b1]at hn⊢
    simp only[if_true]at hn;simp -dsimp[wrap_i64 (n:=(k:Int)+1) (by omega) (by omega)];and_intros;all_goals try first|rfl|omega|exact⟨by kernel_rfl⟩
    exact⟨⟨k+1,by omega⟩,GS.to (by simp[hn,dJ]),by simp;omega⟩
  ·have hkz :¬(k:Int)<64:=by omega
   obtain rfl:k=64:=by omega
   have e:=wK B;simp -dsimp[hkz];refine Fin.view 2 ?_;simp -dsimp;refine Fin.of ?_;simp[←e,ints,dJ]
theorem zJ(B:BitVec 64):Contract Tryz.prog 193 [.d (bv B)] [] (.d (.int .i64 (jF B))) [] []:=by
 have hl:=sK B;have hlen:=iT B;have hN:Contract Tryz.prog 243 [.d (bv B),.d (.int .i64 0)] [] (.d (.int .i64 (jF B))) [] []:=by
  refine aj Tryz.func243 rfl (fun E0=>?_);refine cO.sound (g:=.mk) (ow:=[]) (kp:=(fun k=>k==0||k==1||k==4||k==5||k==15)) ?_;rw[Tryz.ntmps243];simp -dsimp;try refine⟨?_,⟨by kernel_rfl⟩⟩
  refine ah.of hl [] 0 ?_;by_cases h0:B=0#64
  ·have e:lg B = []:=by rw[h0];exact vK
   rw[e];simp -dsimp[ints];try refine⟨?_,⟨by kernel_rfl⟩⟩
   refine Fin.of ?_;simp[jF,h0]
  ·have e:=Cm h0;have ef:jF B=(tz B:Int):=by simp[jF,h0]
   rw[e,ef];rw[e]at hlen
   generalize lg (B&&&wu (tn B-1))=L at hlen⊢;simp -dsimp[ints];have hlz :¬(L.length:Int)+1≤0:=by omega
   simp -dsimp[hlz];try refine⟨?_,⟨by kernel_rfl⟩⟩
   refine Fin.of ?_;simp
 refine aj Tryz.func193 rfl (fun E0=>?_);refine cO.sound (g:=.mk) (ow:=[]) (kp:=(fun k=>k==0||k==2)) ?_;rw[Tryz.ntmps193];simp -dsimp;refine ah.of hN [] 0 ?_;simp -dsimp;refine Fin.of ?_;simp
theorem IK(p:Pk)(k:Int):Contract Tryz.prog 242 [dX p,.d (.int .i64 k)] [] (dX (f_ p k)) [] []:=by
 refine aj Tryz.func242 rfl (fun E0=>?_);refine cO.sound (g:=.mk) (ow:=[]) (kp:=(fun k=>k==0||k==1||k==2||k==4||k==14)) ?_;rw[Tryz.ntmps242];have hv:=o9 p;have hh:=xM p.bits k;have hb:=uD k;simp only[dX,Pk.cs,List.map]at hv;simp -dsimp[dX,Pk.cs];try refine⟨?_,⟨by kernel_rfl⟩⟩
 refine ah.of hv [] 0 ?_;rcases (Bool.eq_false_or_eq_true p.ok).symm with a1|a1
 ·simp -dsimp[a1];try refine⟨?_,⟨by kernel_rfl⟩⟩
  refine Fin.of ?_;simp[f_,a1,Bh,dX,Pk.cs,bv]
 ·simp -dsimp[a1];try refine⟨?_,⟨by kernel_rfl⟩⟩
  refine ah.of hh [] 0 ?_;rcases (Bool.eq_false_or_eq_true (hasK p.bits k)).symm with a2|a2
  ·have :¬(0≤k∧k≤63∧p.bits.getLsbD k.toNat=true):=fun⟨h1,h2,h3⟩=>by
    simp[hasK,h1,h3]at a2;omega
   simp -dsimp[a2];try refine⟨?_,⟨by kernel_rfl⟩⟩
   refine Fin.of ?_;simp[f_,this,Bh,dX,Pk.cs,bv]
  ·simp only[hasK,Bool.and_eq_true,decide_eq_true_eq]at a2;obtain⟨b1,b2,b3⟩:=a2;have b4:k≤63:=by omega
   have eb:lS k=1#64<<<k.toNat:=(Ad ⟨b1,b2⟩).symm;rw[eb]at hb
   have a2':hasK p.bits k=true:=by simp[hasK,b1,b2,b3]
   simp -dsimp[a2'];try refine⟨?_,⟨by kernel_rfl⟩⟩
   refine ah.of hb [] 0 ?_;simp -dsimp;try refine⟨?_,⟨by kernel_rfl⟩⟩
   refine Fin.of ?_;simp[f_,a1,b1,b4,b3,dX,Pk.cs,bv]
theorem FZ{p R X:BitVec 64}(hR:∀k<64,R.getLsbD k=true→p.getLsbD k=true):p&&&(R&&&X)=R&&&(R&&&X):=by
 apply BitVec.eq_of_getLsbD_eq;intro k hk;simp only[BitVec.getLsbD_and];cases hr:R.getLsbD k with
 | false=>simp
 | true=>rw[hR k hk hr]
theorem KU{p:Pk}{R:BitVec 64}(X:BitVec 64)(hp:p.ok=true)(hR:∀k<64,R.getLsbD k=true→p.bits.getLsbD k=true):jg p (R&&&X)=jg (p.setB R) (R&&&X):=by
 have h1:=Nj hp hR;have h2:=FZ (X:=X) hR;unfold jg;simp only[hp,h1];simp only[Pk.setB,ji,h2]
 congr
theorem Kt(b:Tb)(hb:b.Sm)(p:Pk)(h1:chk b=0)(h2:p.ok=true)(h5:b.len=p.len):Contract Tryz.prog 120 [bZ b,dX p] [] (outT (iH b p)) [] []:=by
 have hpl:=zX p;simp only[dX,Pk.cs,List.map]at hpl;have Gt:=BO p;have hlen:b.len≤1000:=by
  have:=(D8 h2).1;simp[aG]at this
  omega
 refine aj Tryz.func120 rfl (fun E0=>?_);refine cO.sound (g:=.mk) (ow:=[]) (kp:=(fun k=>k==0||k==1||k==2||k==3||k==4||k==5||k==6||k==7||k==8||k==10||k==11||k==12||k==13||k==17||k==51||k==66||k==74)) ?_;rw[Tryz.ntmps120];simp -dsimp[bZ,dX,Pk.cs];try refine⟨?_,⟨by kernel_rfl⟩⟩
 refine aN.of [] (fun k=>k==0||k==1||k==2||k==3||k==4||k==5||k==6||k==7||k==8||k==10||k==11||k==12||k==13||k==17||k==51||k==66||k==74) (ι:={z:Nat×Out×BitVec 64 // iH b p=yx b p z.1 z.2.1 z.2.2∧(ku z.2.2).length≤z.1∧z.2.1.g_.length+z.1≤64∧∀k<64,z.2.2.getLsbD k=true→p.bits.getLsbD k=true})
  (fun z=>[(Pl.o 2,It.box [TV.d (.int .i64 b.r),TV.d (.int .i64 b.sd),TV.d (.int .i64 b.len),TV.d (bV b.rows)]),(Pl.s 2,It.v (.ptr (Pl.o 2) 0)),
   (Pl.o 3,It.box (p.cs.map .d)),(Pl.s 3,It.v (.ptr (Pl.o 3) 0)),
   (Pl.o 4,It.box [TV.d (.int IntKind.u64 0),TV.d (.int IntKind.u64 0),TV.c (Value.slice none 0 0)]),(Pl.s 4,It.v (.ptr (Pl.o 4) 0)),
   (Pl.o 5,It.box [TV.d (.int IntKind.u64 (tn z.1.2.1.loc)),TV.d (.int IntKind.u64 (tn z.1.2.1.lost)),TV.aB 50 z.1.2.1.g_.length]),(Pl.s 5,It.v (.ptr (Pl.o 5) 0)),
   (Pl.o 50,It.row 29 12 (dd (z.1.2.1.g_.map DI)) false),(Pl.s 6,It.v (.d (.int IntKind.u64 (tn z.1.2.2))))])
  (fun z=>z.1.1) ⟨(64,iC,p.bits),rfl,xY _,by simp[iC],fun _ _ h=>h⟩ ?_ ?_
 ·exact GS.gq (.o 5) 2 50 (cs:=[TV.d (.int IntKind.u64 0),TV.d (.int IntKind.u64 0),TV.c (Value.slice none 0 0)]) 29 12 (by simp) (by simp) (by simp) (by simp) (by simp[iC,Pk.cs,bv])
 ·rintro⟨⟨n,o,R⟩,i1,i2,i3,i4⟩;simp only at i1 i2 i3 i4;by_cases h0:R=0#64
  ·subst h0;have e:iH b p=o:=by rw[i1];cases n<;>simp[yx]
   simp -dsimp;try refine⟨?_,⟨by kernel_rfl⟩⟩
   refine Fin.box (.o 4) rfl ?_;simp -dsimp;refine Fin.of ?_;simp[outT,bv,e]
  ·have hf:=zJ R;have e:jF R=(tz R:Int):=by simp[jF,h0]
   rw[e]at hf
   simp only[bv]at hf;obtain⟨t1,t2,t3⟩:=xP h0;have hat:=Ce p.set (tz R) p.len;simp only[zD]at hat;have hnx:=yS b hb (vZ p (tz R)) (kX p) ⟨Gt.1,Gt.2⟩;have hho:mG b (vZ p (tz R)) (kX p)=aF b p (tz R):=(RU h1 p _).symm;rw[hho]at hnx
   have hid:(if Ej p.set (tz R) p.len=true then p.set*p.len+(tz R:Int)+1 else 0)=vZ p (tz R):=rfl;simp only[hid]at hat;simp only[bZ]at hnx;have hbt:=uD (tz R);have ebt:lS (tz R)=1#64<<<tz R:=by
    rw[←Ad ⟨by omega,by omega⟩];simp
   rw[ebt]at hbt
   simp -dsimp[h0];try refine⟨?_,⟨by kernel_rfl⟩⟩
   refine ah.of hf [] 0 ?_;have hmb:=EP h1 h2 h5 i4 h0;have hpop:=Fv t1 t2 hmb;have hto:jR b p R (aF b p (tz R))=R&&&Bl b (kX p) p.set (aF b p (tz R)):=rfl;obtain⟨n,rfl⟩:∃j,n=j+1:=⟨n-1,by omega⟩
   have hstep:iH b p=yx b p n (mV b p o R) (R &&& ~~~ mQ b p R):=by rw[i1,yx,if_neg h0]
   have hsub:∀k<64,(R &&& ~~~ mQ b p R).getLsbD k=true→p.bits.getLsbD k=true:=fun k hk hb=>by
    rw[BitVec.getLsbD_and]at hb
    simp only[Bool.and_eq_true]at hb;exact i4 k hk hb.1
   simp -dsimp[h0,Pk.cs];try refine⟨?_,⟨by kernel_rfl⟩⟩
   refine ah.of hat [] 0 ?_;simp -dsimp;try refine⟨?_,⟨by kernel_rfl⟩⟩
   refine ah.of hpl [] 0 ?_;simp -dsimp;try refine⟨?_,⟨by kernel_rfl⟩⟩
   refine ah.of hnx [] 0 ?_;simp -dsimp;try refine⟨?_,⟨by kernel_rfl⟩⟩
   refine ah.of hbt [] 0 ?_;by_cases c0:aF b p (tz R)=0
   ·have eM:mQ b p R=1#64<<<tz R:=by rw[mQ,if_pos (.inl c0)]
    have eO:mV b p o R=⟨o.loc,o.lost|||1#64<<<tz R,o.g_⟩:=by rw[mV,if_pos c0]
    rw[eM]at hpop hsub hstep
    rw[eO]at hstep
    simp -dsimp[eq_true c0,bv];try refine⟨?_,⟨by kernel_rfl⟩⟩
    exact⟨⟨(n,⟨o.loc,o.lost|||1#64<<<tz R,o.g_⟩,R &&& ~~~ (1#64<<<tz R)),hstep,by simp only;omega,by simp only;omega,hsub⟩,GS.to (by simp[Pk.cs,bv]),by simp⟩
   by_cases c1:aF b p (tz R)=b.r
   ·have eM:mQ b p R=1#64<<<tz R:=by rw[mQ,if_pos (.inr c1)]
    have eO:mV b p o R=⟨o.loc|||1#64<<<tz R,o.lost,o.g_⟩:=by rw[mV,if_neg c0,if_pos c1]
    rw[eM]at hpop hsub hstep
    rw[eO]at hstep
    rw[c1]at c0⊢
    simp -dsimp[c0,bv];try refine⟨?_,⟨by kernel_rfl⟩⟩
    exact⟨⟨(n,⟨o.loc|||1#64<<<tz R,o.lost,o.g_⟩,R &&& ~~~ (1#64<<<tz R)),hstep,by simp only;omega,by simp only;omega,hsub⟩,GS.to (by simp[Pk.cs,bv]),by simp⟩
   have eM:mQ b p R=jR b p R (aF b p (tz R)):=by rw[mQ,if_neg (fun h=>h.elim c0 c1)]
   rw[eM]at hpop hsub hstep
   have hhr:1≤aF b p (tz R)∧aF b p (tz R)≤99:=by
    rw[←hho];exact BL h1 (by rw[hho];exact c0)
   have hmk:=Cj b hb (kX p) p.set (aF b p (tz R)) ⟨Gt.1,Gt.2⟩ hlen;rw[←MR h1 h2 hhr]at hmk
   simp only[bZ,bv]at hmk;have hms:=xU p (jR b p R (aF b p (tz R)));have hpk:jg p (jR b p R (aF b p (tz R)))=jg (p.setB R) (jR b p R (aF b p (tz R))):=KU _ h2 i4;rw[hpk]at hms
   obtain⟨Q,hQ⟩:∃Q,jg (p.setB R) (jR b p R (aF b p (tz R)))=Q:=⟨_,rfl⟩
   rw[hQ]at hms
   simp only[dX,Pk.cs,List.map,bv]at hms;simp -dsimp[c0,c1];try refine⟨?_,⟨by kernel_rfl⟩⟩
   refine ah.of hpl [] 0 ?_;simp -dsimp;try refine⟨?_,⟨by kernel_rfl⟩⟩
   refine ah.of hmk [] 0 ?_;simp -dsimp[←hto];try refine⟨?_,⟨by kernel_rfl⟩⟩
   have eO:mV b p o R=if(jg (p.setB R) (jR b p R (aF b p (tz R)))).2=true then ⟨o.loc,o.lost,o.g_++[(aF b p (tz R),(jg (p.setB R) (jR b p R (aF b p (tz R)))).1)]⟩else ⟨o.loc,o.lost|||jR b p R (aF b p (tz R)),o.g_⟩:=by
    rw[mV,if_neg c0,if_neg c1]
   rw[eO]at hstep
   rw[hQ]at hstep
   clear hQ eO hpk;generalize jR b p R (aF b p (tz R))=M at hms hstep hpop hsub⊢;refine ah.of hms [] 0 ?_;rcases (Bool.eq_false_or_eq_true Q.2).symm with q1|q1
   ·rw[if_neg (by rw[q1];simp)]at hstep
    simp -dsimp[q1];and_intros;all_goals try first|omega|exact rfl|exact⟨by kernel_rfl⟩
    exact⟨⟨(n,⟨o.loc,o.lost|||M,o.g_⟩,R &&& ~~~ M),hstep,by simp only;omega,by simp only;omega,hsub⟩,GS.to (by simp[Pk.cs,bv]),by simp⟩
   ·rw[if_pos q1]at hstep
    simp -dsimp[q1];and_intros;all_goals try first|omega|exact rfl|exact⟨by kernel_rfl⟩
    exact⟨⟨(n,⟨o.loc,o.lost,o.g_++[(aF b p (tz R),Q.1)]⟩,R &&& ~~~ M),hstep,by simp only;omega,by simp only[List.length_append,List.length_cons,List.length_nil];omega,hsub⟩,GS.to (by simp[Pk.cs,bv,DI]),by simp⟩
end Go.Proofs

set_option linter.unusedVariables false
namespace Go.Proofs
theorem jM(x:Lk):∀(l:List Lk),∀y∈l.take (bU x l),y.before x=true
 | []=>by simp
 | z::r=>by
   intro y hy;rw[bU]at hy
   split at hy
   ·rename_i hz;rw[List.take_succ_cons]at hy
    rcases List.mem_cons.1 hy with rfl|hy
    ·exact hz
    ·exact jM x r y hy
   ·simp at hy
theorem nU(x:Lk):∀(l:List Lk) (y:Lk),l[bU x l]? = some y→y.before x=false
 | [],y,h=>by simp at h
 | z::r,y,h=>by
   rw[bU]at h
   split at h
   ·exact nU x r y (by simpa using h)
   ·rename_i hz;simp at h;subst h;simpa using hz
theorem lI{x y:Lk}:y.before x=true↔gB y x:=by simp[Lk.before,gB]
theorem Iy{l:List Lk}(x:Lk)(h:l.Pairwise gB)(hd:∀y∈l,¬(y.a=x.a∧y.b=x.b)):(l.take (bU x l)++[x]++l.drop (bU x l)).Pairwise gB∧∀y,y∈l.take (bU x l)++[x]++l.drop (bU x l)↔y∈l∨y=x:=by
 have hl:l.take (bU x l)++l.drop (bU x l)=l:=List.take_append_drop _ _;have hp:(l.take (bU x l)++l.drop (bU x l)).Pairwise gB:=by rw[hl];exact h
 rw[List.pairwise_append]at hp
 have hdr:∀y∈l.drop (bU x l),gB x y:=fun y hy=>by
  cases hc:l.drop (bU x l)with
  | nil=>rw[hc]at hy;simp at hy
  | cons z r=>
    have hz:l[bU x l]? = some z:=by
     have:(l.drop (bU x l))[0]? = some z:=by rw[hc];rfl
     simpa using this
    have h1:=nU x l z hz;have h2:=hd z (List.mem_of_getElem? hz);have h3:gB x z:=by
     have :¬gB z x:=fun a=>by rw[lI.2 a]at h1;simp at h1
     unfold gB at *;omega
    rw[hc]at hy
    rcases List.mem_cons.1 hy with rfl|hy
    ·exact h3
    ·have:=hp.2.1;rw[hc,List.pairwise_cons]at this
     exact nC h3 (this.1 y hy)
 refine⟨?_,fun y=>?_⟩
 ·rw[List.append_assoc,List.pairwise_append];refine⟨hp.1,?_,fun a ha b hb=>?_⟩
  ·rw[List.singleton_append,List.pairwise_cons];exact⟨hdr,hp.2.1⟩
  ·have h1:=lI.1 (jM x l a ha);rcases List.mem_append.1 hb with hb|hb
   ·simp at hb;subst hb;exact h1
   ·exact nC h1 (hdr b hb)
 ·conv=>rhs;rw[←hl]
  simp only[List.mem_append,List.mem_singleton];constructor
  ·rintro ((a|a)|a)
   ·exact .inl (.inl a)
   ·exact .inr a
   ·exact .inl (.inr a)
  ·rintro ((a|a)|a)
   ·exact .inl (.inl a)
   ·exact .inr a
   ·exact .inl (.inr a)
theorem rC:∀(l out:List Lk),l.Pairwise MP→out.Pairwise gB→(∀x∈l,∀y∈out,MP x y)→(jO l out).Pairwise gB∧∀y,y∈jO l out↔y∈l∨y∈out
 | [],out,_,h,_=>⟨h,by simp[jO]⟩
 | x::l,out,hl,h,hd=>by
   rw[List.pairwise_cons]at hl
   obtain⟨h1,h2⟩:=Iy x h (fun y hy e=>hd x (by simp) y hy ⟨e.1.symm,e.2.symm⟩);obtain⟨h3,h4⟩:=rC l _ hl.2 h1 (fun z hz y hy=>by
    rcases (h2 y).1 hy with hy|rfl
    ·exact hd z (by simp[hz]) y hy
    ·exact fun e=>hl.1 z hz ⟨e.1.symm,e.2.symm⟩)
   refine⟨h3,fun y=>?_⟩;rw[jO,h4,h2];simp only[List.mem_cons];constructor
   ·rintro (a|a|a)
    ·exact .inl (.inr a)
    ·exact .inr a
    ·exact .inl (.inl a)
   ·rintro ((a|a)|a)
    ·exact .inr (.inr a)
    ·exact .inl a
    ·exact .inr (.inl a)
theorem zx.nP{cost:Int}(hc:1≤cost∧cost≤1000):∀(n:Nat) (b:Int) (T:Tp) (l:List Lk),zx b 1 l→2≤b→zx (b+n) 1 (dS cost n b T l).1
 | 0,b,T,l,h,_=>by simpa[dS]using h
 | n+1,b,T,l,h,hb=>by
   rw[dS];have h1:zx b b (gW cost b T l).1:=by
    unfold gW;simp only;have:=zx.row (b:=b) (tree:=(aT T 1 (b-1)).1) (skip:=(dD (aT T 1 (b-1)).2 9).1) hc (b-1).toNat 1 (dD (aT T 1 (b-1)).2 9).2 l h (by omega) (by omega);rw[show 1+(((b-1).toNat:Nat):Int)=b by omega]at this
    exact this
   have h2:zx (b+1) 1 (gW cost b T l).1:=⟨fun x hx=>by have:=h1.all x hx;omega,h1.ne⟩
   have:=zx.nP hc n (b+1) (gW cost b T l).2 _ h2 (by omega);rw[show b+((n+1:Nat):Int)=b+1+n by omega];exact this
theorem jJ(cost tree:Int)(skip:Bool)(b:Int):∀(n:Nat) (a:Int) (T:Tp) (l:List Lk),(dV cost tree skip b n a T l).1.length≤l.length+n
 | 0,_,_,_=>Nat.le_refl _
 | n+1,a,T,l=>by
   have h1:=jJ cost tree skip b n (a+1) (dI cost tree skip b a T l).2 (dI cost tree skip b a T l).1;have h2:=zN cost tree skip b a T l;rw[dV];omega
theorem jK(cost:Int)(m:Nat):∀(n:Nat) (b:Int) (T:Tp) (l:List Lk),1≤b→b+n≤m+2→(dS cost n b T l).1.length≤l.length+n*m
 | 0,_,_,_,_,_=>by simp[dS]
 | n+1,b,T,l,hb,hm=>by
   have h1:=jK cost m n (b+1) (gW cost b T l).2 (gW cost b T l).1 (by omega) (by omega);have h2:(gW cost b T l).1.length≤l.length+(b-1).toNat:=jJ _ _ _ _ _ _ _ _;rw[dS];have h3:(n+1)*m=n*m+m:=Nat.succ_mul _ _;omega
theorem oV{g:ay}(h1:g.rs.length≤24)(h2:g.ls.length≤60)(h3:∀x∈g.rs,1≤x.id∧x.id≤99)(h4:g.rs.Pairwise fun x y=>x.id<y.id)
  (h5:∀x∈g.ls,(1≤x.ca∧x.ca≤1000)∧(1≤x.cb∧x.cb≤1000)∧0≤x.cap∧x.cap≤1000) (h6:∀x∈g.ls,aY g.rs x.a=true∧aY g.rs x.b=true) (h7:∀x∈g.ls,x.a<x.b) (h8:g.ls.Pairwise gB):cZ g=0:=by
 have a1:decide (24<g.rs.length)=false:=by simp;omega
 have a2:decide (60<g.ls.length)=false:=by simp;omega
 have a3:(g.rs.any fun x=>!inB x.id 1 99)=false:=by
  rw[List.any_eq_false];intro x hx;have:=h3 x hx;simp[inB];omega
 have a4:nO (fun x y=>decide (y.id≤x.id)) g.rs=false:=y8 (r:=fun x y=>x.id<y.id) (fun x y h=>by simpa using h) h4;have a5:g.ls.any Lk.bad=false:=by
  rw[List.any_eq_false];intro x hx;have:=h5 x hx;simp[Lk.bad,inB];omega
 have a6:(g.ls.any fun x=>!aY g.rs x.a || !aY g.rs x.b)=false:=by
  rw[List.any_eq_false];intro x hx;have:=h6 x hx;simp[this.1,this.2]
 have a7:(g.ls.any fun x=>decide (x.b≤x.a))=false:=by
  rw[List.any_eq_false];intro x hx;have:=h7 x hx;simp;omega
 have a8:nO (fun x y=>decide (y.a<x.a)||decide (x.a=y.a)&&decide (y.b≤x.b)) g.ls=false:=y8 (r:=gB) (fun x y h=>by
  unfold gB at h;simp only[Bool.or_eq_false_iff,Bool.and_eq_false_iff,decide_eq_false_iff_not];omega) h8
 simp only[cZ,jc,a1,a2,a3,a4,a5,a6,a7,a8,cond_false]
theorem jr{k:Nat}{x:Rt}:x∈cu k↔x.cap=true∧1≤x.id∧x.id≤k:=by
 simp only[cu,List.mem_map,List.mem_range];constructor
 ·rintro⟨i,hi,rfl⟩;simp only;exact⟨trivial,by omega,by omega⟩
 ·rintro⟨h1,h2,h3⟩;refine⟨(x.id-1).toNat,by omega,?_⟩;cases x;simp only at *;subst h1;congr 1;omega
theorem yO(k:Nat):(cu k).Pairwise fun x y=>x.id<y.id:=by
 unfold cu;rw[List.pairwise_map];exact List.pairwise_lt_range.imp fun h=>by simp only;omega
structure zq(most:Int)(g:ay):Prop where
 n:1≤g.rs.length∧(g.rs.length:Int)≤most
 ids:g.rs.map (·.id)=(cu g.rs.length).map (·.id)
 ok:cZ g=0
theorem qY{l m:List Rt}(h:l.map (·.id)=m.map (·.id))(r:Int):aY l r=aY m r:=by
 rw[Bool.eq_iff_iff,dH,dH,h]
theorem yF{rs rs':List Rt}{ls:List Lk}(h:rs.map (·.id)=rs'.map (·.id))(hc:cZ ⟨rs',ls⟩ = 0):cZ ⟨rs,ls⟩ = 0:=by
 have hO:=aU hc;have hl:rs.length=rs'.length:=by have:=congrArg List.length h;simpa using this
 refine oV (by have:=hO.nr;simp only at this⊢;omega) hO.nl (fun x hx=>?_) ?_ (fun x hx=>?_) (fun x hx=>?_) (fun x hx=>hO.lab hx) hO.Zu
 ·have:x.id∈rs'.map (·.id):=by rw[←h];exact List.mem_map_of_mem hx
  obtain⟨y,hy,e⟩:=List.mem_map.1 this;have:=List.any_eq_false.1 hO.ids y hy;simp[inB]at this
  omega
 ·have h1:=hO.rpw;have h2:(rs'.map (·.id)).Pairwise (· < ·):=by rw[List.pairwise_map];exact h1
  rw[←h,List.pairwise_map]at h2
  exact h2
 ·have:=List.any_eq_false.1 hO.cost x hx;simp[Lk.bad,inB]at this
  omega
 ·have:=hO.ends' hx;simp only at this⊢;rw[qY h,qY h];exact this
theorem vU(T:Tp)(most:Int):(dG T most).1.rs=cu (aT T 1 most).1.toNat:=rfl
theorem qm(T:Tp){most:Int}(hm:1≤most∧most≤8):zq most (dG T most).1:=by
 have r1:=aS T 1 most;have r2:=aQ T (a:=1) (b:=most) hm.1;have e:=vU T most;have hlen:(dG T most).1.rs.length=(aT T 1 most).1.toNat:=by rw[e];simp[cu]
 refine⟨by omega,by rw[hlen,e],?_⟩;unfold dG;simp only;generalize aT T 1 most=R at r1 r2;have hc:=dA (T:=R.2) (l:=[1,2,2,5]) (p:=fun x=>1≤x∧x≤1000) (by simp) (by simp);generalize aK R.2 [1,2,2,5]=C at hc;have hI:=zx.nP hc (R.1+1-2).toNat 2 C.2 [] ⟨by simp,List.Pairwise.nil⟩ (by omega);have hl:=jK C.1 7 (R.1+1-2).toNat 2 C.2 [] (by omega) (by omega)
 generalize (dS C.1 (R.1+1-2).toNat 2 C.2 []).1=L at hI hl;obtain⟨h1,h2⟩:=rC L [] hI.ne List.Pairwise.nil (by simp);have hall:∀x∈jO L [],(1≤x.a∧x.a<x.b∧x.b≤R.1)∧(1≤x.ca∧x.ca≤1000)∧(1≤x.cb∧x.cb≤1000)∧0≤x.cap∧x.cap≤1000:=fun x hx=>by
  have:=hI.all x (by simpa using(h2 x).1 hx);omega
 have hol:∀(l out:List Lk),(jO l out).length=l.length+out.length:=fun l=>by
  induction l with
  | nil=>intro out;simp[jO]
  | cons x l ih=>
    intro out;have:=nV x out;rw[jO,ih];simp;omega
 refine oV (by simp[cu];omega) ?_ (fun x hx=>?_) (yO _) (fun x hx=>(hall x hx).2) (fun x hx=>?_) (fun x hx=>(hall x hx).1.2.1) h1
 ·simp only[hol,List.length_nil]at hl⊢;have:(R.1+1-2).toNat≤7:=by omega
  have:=Nat.mul_le_mul_right 7 this;omega
 ·have:=jr.1 hx;omega
 ·have:=(hall x hx).1;constructor
  ·exact dH.2 (List.mem_map.2 ⟨⟨x.a,true⟩,jr.2 ⟨rfl,by simp only;omega⟩,rfl⟩)
  ·exact dH.2 (List.mem_map.2 ⟨⟨x.b,true⟩,jr.2 ⟨rfl,by simp only;omega⟩,rfl⟩)
theorem oD:∀(l:List Rt) (T:Tp),(iy l T).1.map (·.id)=l.map (·.id)
 | [],_=>rfl
 | x::l,T=>by
   simp only[iy,List.map_cons,oD l]
theorem uj(T:Tp){most:Int}(hm:1≤most∧most≤8):zq most (bW T most).1:=by
 have h:=qm T hm;have e:(bW T most).1.rs.map (·.id)=(dG T most).1.rs.map (·.id):=oD _ _;have hl:(bW T most).1.rs.length=(dG T most).1.rs.length:=by have:=congrArg List.length e;simpa using this
 refine⟨by rw[hl];exact h.n,by rw[e,hl];exact h.ids,?_⟩;have:=yF (rs:=(bW T most).1.rs) (rs':=(dG T most).1.rs) (ls:=(dG T most).1.ls) e h.ok;exact this
end Go.Proofs
