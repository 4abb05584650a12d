/-
  What functions of the program compute, stated as contracts over plain data; the conditions of each stand in its own statement.
-/
import Derived.Test.YtboimfkommpglaaGreatDoorZA29
import Derived.Test.YtboimfkommpglaaGreatDoorZA12
import Derived.Test.YtboimfkommpglaaGreatDoorZA19
import Derived.Test.YtboimfkommpglaaGreatDoorZA69
import Derived.Test.YtboimfkommpglaaGreatDoorZA28
import Derived.Test.YtboimfkommpglaaGreatDoorZA10
import Derived.Test.YtboimfkommpglaaGreatDoorZA14
import Derived.Test.YtboimfkommpglaaGreatDoorZA17
import Derived.Test.YtboimfkommpglaaGreatDoorZA27
set_option linter.unusedSimpArgs false
set_option maxRecDepth 100000
set_option maxHeartbeats 16000000
namespace Go.Proofs
open Go Go.Tr
theorem rV(T:Tp)(hT:ak T)(most:Int)(hm:1≤most∧most≤24):Contract Tryz.prog 16 [.ptr (.x 0) 0,.d (.int .i64 most)] [aJ T] (aH (bW T most).1) [aJ (bW T most).2] []:=by
 refine aj Tryz.func16 rfl (fun E0=>?_);refine cO.sound (g:=.mk) (ow:=[]) (kp:=(fun k=>k==0||k==1||k==4||k==5||k==6||k==14)) ?_;rw[Tryz.ntmps16];simp -dsimp;refine ah.of (zl T hT most hm) [.x 0] 1000 ?_;have kG:ak (dG T most).2:=by simpa using hT
 have hlen:(dG T most).1.rs.length≤24:=by
  have:=aQ T (a:=1) (b:=most) (by omega);simp[dG,cu];omega
 generalize hG:dG T most=G at kG hlen⊢;simp -dsimp;refine aN.of [] (fun k=>k==0||k==1||k==4||k==5||k==6||k==14) (ι:={z:Nat×Tp×List Rt // z.1≤G.1.rs.length∧ak z.2.1∧z.2.2.length=G.1.rs.length∧iy G.1.rs G.2=(z.2.2.take z.1++(iy (z.2.2.drop z.1) z.2.1).1,(iy (z.2.2.drop z.1) z.2.1).2)})
  (fun z=>[(Pl.s 0,It.v (.ptr (Pl.x 0) 0)),(Pl.s 1,It.v (.d (.int .i64 most))),(Pl.x 0,aJ z.1.2.1),
   (Pl.o 4,It.box [TV.c (Value.slice none 0 0),TV.c (Value.slice none 0 0)]),(Pl.s 4,It.v (.ptr (Pl.o 4) 0)),
   (Pl.o 2000,It.row 117 2 (dd (rts z.1.2.2)) false),(Pl.o 5,It.box [TV.aB 2000 G.1.rs.length,TV.d (.sl (dO G.1.ls))]),(Pl.s 5,It.v (.ptr (Pl.o 5) 0)),
   (Pl.s 6,It.v (.d (.int .i64 z.1.1)))]) (fun z=>G.1.rs.length-z.1.1) ⟨(0,G.2,G.1.rs),by simp,kG,rfl,by simp⟩ ?_ ?_
 ·exact GS.to (by simp)
 ·rintro⟨⟨i,T1,L⟩,i1,i2,i3,i4⟩;simp only at i1 i2 i3 i4;have hrl:(rts L).length=G.1.rs.length:=by simp[rts,i3]
  by_cases hi:i<G.1.rs.length
  ·have hiz:(i:Int)<G.1.rs.length:=by omega
   have hil:i<L.length:=by omega
   have hg:L[i]? = some L[i]:=List.getElem?_eq_getElem hil;have hd:L.drop i=L[i]::L.drop (i+1):=List.drop_eq_getElem_cons _;generalize L[i]=x at hg hd;have hgr:(dd (rts L))[i]? = some [TV.d (.int .i64 x.id),TV.d (.bool x.cap)]:=by simp[dd,rts,hg,Rt.cs]
   simp -dsimp[hiz,i3,hrl];and_intros;all_goals try first|rfl|omega|exact⟨by kernel_rfl⟩
   refine ah.of (gK T1 i2 3 ⟨by omega,by omega⟩ ⟨by omega,by omega⟩) [.x 0] 0 ?_;generalize ho:dD T1 3=o;have ko:ak o.2:=by rw[←ho];simpa using i2
   simp -dsimp[hiz,i3,hrl,hgr,wrap_i64 (n:=(i:Int)+1) (by omega) (by omega)];and_intros;all_goals try first|rfl|omega|exact⟨by kernel_rfl⟩
   have hrow:(dd (rts L)).set i [TV.d (.int .i64 x.id),TV.d (.bool !o.1)]=dd (rts (L.set i ⟨x.id,!o.1⟩)):=by
    simp[dd,rts,List.map_set,Rt.cs]
   refine⟨⟨(i+1,o.2,L.set i ⟨x.id,!o.1⟩),by dsimp only;omega,ko,by simpa using i3,?_⟩,GS.to (by simp[hrow]),by simp;omega⟩;rw[i4,hd,iy];simp only[ho];have e1:(L.set i ⟨x.id,!o.1⟩).take (i+1)=L.take i++[⟨x.id,!o.1⟩]:=by
    rw[List.take_add_one,List.getElem?_set_self hil,List.take_set_of_le (Nat.le_refl _)];rfl
   have e2:(L.set i ⟨x.id,!o.1⟩).drop (i+1)=L.drop (i+1):=List.drop_set_of_lt (by omega);rw[e1,e2];simp
  ·obtain rfl:i=G.1.rs.length:=by omega
   simp -dsimp[hrl];refine Fin.box (.o 4) rfl ?_;simp -dsimp[hrl];refine Fin.of ?_;have e0:L.drop G.1.rs.length = []:=List.drop_eq_nil_of_le (by omega);have e1:L.take G.1.rs.length=L:=List.take_of_length_le (by omega);simp only[e0,e1,iy,List.append_nil]at i4;simp[bW,hG,i4,aH]
theorem abj{es:List (List TV)}{xs:List (List D)}{k:Nat}{r:List TV}{x:List D}(h:eu es=some xs)(hr:G7 r=some x):eu (es.set k r)=some (xs.set k x):=by
 induction es generalizing xs k with
 | nil=>simp[eu]at h;subst h;rfl
 | cons e es ih=>
   simp only[eu]at h;split at h
   ·rename_i x' xs' h1 h2;simp only[Option.some.injEq]at h;subst h;cases k with
    | zero=>simp only[List.set_cons_zero,eu,hr,h2]
    | succ k=>simp only[List.set_cons_succ,eu,h1,ih h2]
   ·simp at h
theorem agB(T:Tp)(hT:ak T)(b:Tb)(hb:b.rows.length≤1000)(hn:F7 T b=none):jT Tryz.prog 97 [.ptr (.x 0) 0,.agg [TV.d (.int .i64 b.r),TV.d (.int .i64 b.sd),TV.d (.int .i64 b.len),.aB 900 b.rows.length]] [aJ T] [(900,.row 167 2 (dd (rws b.rows)) false)] (bZ (ER T b).1) [aJ (ER T b).2] []:=by
 refine t_ Tryz.func97 rfl (fun E0=>?_);refine cO.sound (g:=.mk) (ow:=[]) (kp:=(fun k=>k==0||k==1||k==3||k==4||k==5||k==7||k==11||k==21||k==31||k==45||k==58||k==63||k==69||k==74||k==80)) ?_;rw[Tryz.ntmps97];simp -dsimp;refine ah.of (bn T hT 8 ⟨by omega,by omega⟩) [.x 0] 0 ?_;have m1:=aC T 8;have m2:=bg T (n:=8) (by omega)
 have kN:ak (au T 8).2:=by simpa using hT
 unfold F7 at hn;unfold ER;generalize au T 8=s at m1 m2 kN hn⊢;simp only at hn⊢;have hrb:(dd (rws b.rows)).length=b.rows.length:=by simp
 by_cases c0:s.1=0
 ·rw[if_pos c0];simp -dsimp[eq_true c0];refine ah.of (fE s.2 kN [0,1,2,99,100] (by simp) (by simp)) [.x 0] 0 ?_;generalize aK s.2 [0,1,2,99,100]=p;simp -dsimp[eq_true c0,ints];refine Fin.box (.o 4) rfl ?_;simp -dsimp;refine Fin.of ?_;simp[bZ,jf]
 by_cases c1:s.1=1
 ·rw[if_neg c0,if_pos c1];simp -dsimp[eq_false c0,eq_true c1];refine ah.of (qI s.2 kN) [.x 0] 0 ?_;generalize iY s.2=p;simp -dsimp[eq_false c0,eq_true c1];refine Fin.box (.o 4) rfl ?_;simp -dsimp;refine Fin.of ?_;simp[bZ,jf]
 by_cases c2:s.1=2
 ·rw[if_neg c0,if_neg c1,if_pos c2];simp -dsimp[eq_false c0,eq_false c1,eq_true c2];refine ah.of (fE s.2 kN [0,8,16,24,64] (by simp) (by simp)) [.x 0] 0 ?_;generalize aK s.2 [0,8,16,24,64]=p;simp -dsimp[eq_false c0,eq_false c1,eq_true c2,ints];refine Fin.box (.o 4) rfl ?_;simp -dsimp;refine Fin.of ?_;simp[bZ,jf]
 by_cases c3:s.1=3
 ·rw[if_neg c0,if_neg c1,if_neg c2,if_pos c3];simp -dsimp[eq_false c0,eq_false c1,eq_false c2,eq_true c3];refine ah.of (fE s.2 kN [0,1,256,257] (by simp) (by simp)) [.x 0] 0 ?_;generalize aK s.2 [0,1,256,257]=p;simp -dsimp[eq_false c0,eq_false c1,eq_false c2,eq_true c3,ints];and_intros;all_goals try first|rfl|omega|exact⟨by kernel_rfl⟩
  refine Fin.box (.o 4) rfl ?_;simp -dsimp;refine Fin.of ?_;simp[bZ,jf,JF,ints]
 rw[if_neg (by omega)]at hn
 rw[if_neg c0,if_neg c1,if_neg c2,if_neg c3];by_cases ce:b.rows = []
 ·rw[if_pos ce];have hl0 :¬0<b.rows.length:=by simp[ce]
  simp -dsimp[eq_false c0,eq_false c1,eq_false c2,eq_false c3,hl0];refine Fin.box (.o 4) rfl ?_;simp -dsimp;refine Fin.of ?_;simp[bZ,jf]
 rw[if_neg ce]at hn⊢
 have hl0:0<b.rows.length:=List.length_pos_iff.2 ce;simp -dsimp[eq_false c0,eq_false c1,eq_false c2,eq_false c3,hl0];refine ah.of (bn s.2 kN b.rows.length ⟨by omega,by omega⟩) [.x 0] 0 ?_;have k1:=aC s.2 b.rows.length;have k2:=bg s.2 (n:=b.rows.length) (by omega);have kK:ak (au s.2 b.rows.length).2:=by simpa using kN
 generalize au s.2 b.rows.length=q at k1 k2 kK hn⊢;obtain⟨k,hk⟩:∃k:Nat,q.1=k:=⟨q.1.toNat,by omega⟩
 have hkl:k<b.rows.length:=by omega
 simp only[hk,Int.toNat_natCast]at hn⊢;have hg:b.rows[k]? = some b.rows[k]:=List.getElem?_eq_getElem hkl;have hgd:b.rows.getD k ⟨0,[]⟩ = b.rows[k]:=by rw[List.getD_eq_getElem?_getD,hg];rfl
 simp only[P8,hgd];generalize b.rows[k]=y at hg;have hgr:(dd (rws b.rows))[k]? = some [TV.d (.int .i64 y.id),TV.d (ints y.nx)]:=by simp[dd,rws,hg,Rw.cs]
 simp -dsimp[eq_false c0,eq_false c1,eq_false c2,eq_false c3,hl0,hrb];and_intros;all_goals try first|rfl|omega|exact⟨by kernel_rfl⟩
 refine ah.of (bn q.2 kK 4 ⟨by omega,by omega⟩) [.x 0] 0 ?_;have n1:=aC q.2 4;have n2:=bg q.2 (n:=4) (by omega);have kM:ak (au q.2 4).2:=by simpa using kK
 generalize au q.2 4=m at n1 n2 kM hn⊢;have hm :¬m.1≤1:=fun h=>by rw[if_pos h]at hn;simp at hn
 have hset:∀l:List Int,(dd (rws b.rows)).set k [TV.d (.int .i64 y.id),TV.d (ints l)]=dd (rws (b.rows.set k ⟨y.id,l⟩)):=fun l=>by
  simp[dd,rws,List.map_set,Rw.cs]
 have hm0 :¬m.1=0:=by omega
 have hm1 :¬m.1=1:=by omega
 have hgl:((dd (rws b.rows)).getD k []) = [TV.d (.int .i64 y.id),TV.d (ints y.nx)]:=by rw[List.getD_eq_getElem?_getD,hgr];rfl
 rw[if_neg hm0,if_neg hm1];by_cases hm2:m.1=2
 ·rw[if_pos hm2];have h0:=hset [];simp only[ints,List.map_nil]at h0;have hnl:eu ((dd (rws b.rows)).set k [TV.d (.int .i64 y.id),TV.c (Value.slice none 0 0)])=some (rws (b.rows.set k ⟨y.id,[]⟩)):=by
   rw[abj (Jg _) (x:=[.int .i64 y.id,.sl []]) rfl];simp[rws,List.map_set,Rw.cs,ints]
  simp -dsimp[eq_false hm0,eq_false hm1,eq_true hm2,hrb,hgr,hgl];and_intros;all_goals try first|rfl|omega|exact⟨by kernel_rfl⟩
  refine Fin.box (.o 4) rfl ?_;simp -dsimp[hnl,hrb];refine Fin.of ?_;simp[bZ,jf,hk,hg]
 ·rw[if_neg hm2];have h0:=hset [(aK m.2 [1,2,3,9,b.r]).1];simp only[ints,List.map_nil,List.map_cons]at h0;simp -dsimp[eq_false hm0,eq_false hm1,eq_false hm2,hrb,hgr,hgl];refine ah.of (fE m.2 kM [1,2,3,9,b.r] (by simp) (by simp)) [.x 0] 0 ?_;generalize aK m.2 [1,2,3,9,b.r]=p at h0⊢;simp -dsimp[eq_false hm0,eq_false hm1,eq_false hm2,hrb,hgr,hgl,ints,h0];and_intros
  all_goals try first|rfl|omega|exact⟨by kernel_rfl⟩
  refine Fin.box (.o 4) rfl ?_;simp -dsimp[hrb];refine Fin.of ?_;simp[bZ,jf,hk,hg]
theorem agA(T:Tp)(hT:ak T)(b:Tb)(hb:b.rows.length≤1000)(k:Nat)(hn:F7 T b=some k)(y:Rw)(hy:b.rows[k]? = some y)(hyl:y.nx.length≤1000):jT Tryz.prog 97 [.ptr (.x 0) 0,.agg [TV.d (.int .i64 b.r),TV.d (.int .i64 b.sd),TV.d (.int .i64 b.len),.aB 900 b.rows.length]] [aJ T] [(900,.row 167 2 (xq b.rows k y 901) false),(901,.row 3 1 (dd (dJ .i64 y.nx)) false)] (bZ (ER T b).1) [aJ (ER T b).2] []:=by
 refine t_ Tryz.func97 rfl (fun E0=>?_);refine cO.sound (g:=.mk) (ow:=[]) (kp:=(fun k=>k==0||k==1||k==3||k==4||k==5||k==7||k==11||k==21||k==31||k==45||k==58||k==63||k==69||k==74||k==80)) ?_;rw[Tryz.ntmps97];simp -dsimp;refine ah.of (bn T hT 8 ⟨by omega,by omega⟩) [.x 0] 0 ?_;have m1:=aC T 8;have m2:=bg T (n:=8) (by omega)
 have kN:ak (au T 8).2:=by simpa using hT
 unfold F7 at hn;unfold ER;generalize au T 8=s at m1 m2 kN hn⊢;simp only at hn⊢;have c3' :¬s.1≤3:=fun h=>by rw[if_pos h]at hn;simp at hn
 have c0 :¬s.1=0:=by omega
 have c1 :¬s.1=1:=by omega
 have c2 :¬s.1=2:=by omega
 have c3 :¬s.1=3:=by omega
 have hkl:k<b.rows.length:=(List.getElem?_eq_some_iff.1 hy).1;have ce :¬b.rows = []:=fun h=>by simp[h]at hkl
 rw[if_neg c3',if_neg ce]at hn
 rw[if_neg c0,if_neg c1,if_neg c2,if_neg c3,if_neg ce];have hl0:0<b.rows.length:=List.length_pos_iff.2 ce;have hrb:=MS y 901 hkl;simp -dsimp[eq_false c0,eq_false c1,eq_false c2,eq_false c3,hl0,hrb];refine ah.of (bn s.2 kN b.rows.length ⟨by omega,by omega⟩) [.x 0] 0 ?_;have k1:=aC s.2 b.rows.length;have k2:=bg s.2 (n:=b.rows.length) (by omega)
 have kK:ak (au s.2 b.rows.length).2:=by simpa using kN
 generalize au s.2 b.rows.length=q at k1 k2 kK hn⊢;have n1:=aC q.2 4;have n2:=bg q.2 (n:=4) (by omega);have kM:ak (au q.2 4).2:=by simpa using kK
 have hq:q.1.toNat=k∧(au q.2 4).1≤1:=by
  split at hn
  ·rename_i h;simp only[Option.some.injEq]at hn;exact⟨hn,h⟩
  ·simp at hn
 have hk:q.1=k:=by omega
 have hgd:b.rows.getD k ⟨0,[]⟩ = y:=by rw[List.getD_eq_getElem?_getD,hy];rfl
 simp only[P8,hq.1,hgd];rw[hk];have htk:(dd (rws (b.rows.take k))).length=k:=by simp;omega
 have hgr:(xq b.rows k y 901)[k]? = some [TV.d (.int .i64 y.id),TV.aB 901 y.nx.length]:=by
  rw[xq,List.getElem?_append_right (by omega),htk];simp
 have hgl:((xq b.rows k y 901).getD k []) = [TV.d (.int .i64 y.id),TV.aB 901 y.nx.length]:=by rw[List.getD_eq_getElem?_getD,hgr];rfl
 simp -dsimp[eq_false c0,eq_false c1,eq_false c2,eq_false c3,hl0,hrb];and_intros;all_goals try first|rfl|omega|exact⟨by kernel_rfl⟩
 refine ah.of (bn q.2 kK 4 ⟨by omega,by omega⟩) [.x 0] 0 ?_;generalize au q.2 4=m at n1 n2 kM hq⊢;by_cases hm0:m.1=0
 ·rw[if_pos hm0];simp -dsimp[eq_true hm0,hrb,hgr,hgl];and_intros;all_goals try first|rfl|omega|exact⟨by kernel_rfl⟩
  refine ah.of (fE m.2 kM [0,1,6,99,100] (by simp) (by simp)) [.x 0] 0 ?_;generalize aK m.2 [0,1,6,99,100]=p;simp -dsimp[eq_true hm0,hrb,hgr,hgl,ints];and_intros;all_goals try first|rfl|omega|exact⟨by kernel_rfl⟩
  have hmg:=abX (y:=y) (id:=901) (m:=y.nx.length+1) hkl;have hms:=abY (y:=y) (id:=901) (m:=y.nx.length+1) hkl (y.nx++[p.1]);generalize (xq b.rows k y 901).set k [TV.d (.int .i64 y.id),TV.aB 901 (y.nx.length+1)]=EE at hmg hms⊢
  refine Fin.sV 900 k 1 901 (e0:=167) (k0:=2) (es0:=EE) (Ez:=false) (n:=y.nx.length+1) (e:=3) (k:=1) (es:=dd (dJ .i64 y.nx)++[[TV.d (.int .i64 p.1)]]) (sh:=false) (xs:=dJ .i64 (y.nx++[p.1])) (by simp) (by omega) hmg (by simp) (by simp[dJ]) (by simp[dJ]) (by simp[dJ,eu,G7]) ?_;simp only[ints,dJ]at hms;simp[dJ]at hms⊢
  simp only[hms];refine Fin.box (.o 4) rfl ?_;simp -dsimp;refine Fin.of ?_;simp[bZ,jf,hy]
 ·have hm1:m.1=1:=by omega
  rw[if_neg hm0,if_pos hm1];simp -dsimp[eq_false hm0,eq_true hm1,hrb,hgr,hgl];and_intros;all_goals try first|rfl|omega|exact⟨by kernel_rfl⟩
  have hmg:=abX (y:=y) (id:=901) (m:=y.nx.length+1) hkl;have hms:=abY (y:=y) (id:=901) (m:=y.nx.length+1) hkl (y.nx++[b.r]);generalize (xq b.rows k y 901).set k [TV.d (.int .i64 y.id),TV.aB 901 (y.nx.length+1)]=EE at hmg hms⊢
  refine Fin.sV 900 k 1 901 (e0:=167) (k0:=2) (es0:=EE) (Ez:=false) (n:=y.nx.length+1) (e:=3) (k:=1) (es:=dd (dJ .i64 y.nx)++[[TV.d (.int .i64 b.r)]]) (sh:=false) (xs:=dJ .i64 (y.nx++[b.r])) (by simp) (by omega) hmg (by simp) (by simp[dJ]) (by simp[dJ]) (by simp[dJ,eu,G7]) ?_;simp only[ints,dJ]at hms;simp[dJ]at hms⊢
  simp only[hms];refine Fin.box (.o 4) rfl ?_;simp -dsimp;refine Fin.of ?_;simp[bZ,jf,hy]
theorem ahH(T:Tp)(hT:ak T)(n:Int)(hn:1≤n∧n≤1000):Contract Tryz.prog 33 [.ptr (.x 0) 0,.d (.int .i64 n)] [aJ T] (bZ (gTab T n).1) [aJ (gTab T n).2] []:=by
 have hn0:0<n:=by omega
 refine aj Tryz.func33 rfl (fun E0=>?_);refine cO.sound (g:=.mk) (ow:=[1000097]) (kp:=(fun k=>k==0||k==1||k==4||k==5||k==6||k==7||k==9||k==23||k==39)) ?_;rw[Tryz.ntmps33];simp -dsimp;refine ah.of (rV T hT 6 (by omega)) [.x 0] 0 ?_;have kG:ak (bW T 6).2:=by simpa using hT
 have hsm:=fO T (most:=6) (by omega);have e0:gTab T n=gTab T n:=rfl
 conv at e0=>rhs;unfold gTab
 simp only at e0;generalize hG:bW T 6=G at kG hsm e0⊢;simp -dsimp[aH];refine ah.of (xu G.2 kG G.1.rs G.1.ls (by omega) 0 (by omega)) [.x 0] 0 ?_;obtain⟨kP,lP⟩:=fV G.2 G.1.rs;have kG:ak (dh G.2 G.1.rs 0).2:=kP.symm▸kG;clear kP;generalize hP:dh G.2 G.1.rs 0=p at kG lP e0⊢;simp -dsimp[aH,bI];refine ah.of (FY G.1 ⟨by omega,by omega⟩ p.1 (by omega)) [] 0 ?_
 have hlen:=NW G.1 p.1;have hok:=Lj G.1 p.1;generalize (rY G.1 p.1).1=l at hlen hok e0⊢;generalize (rY G.1 p.1).2=er;simp -dsimp[aH,bI,Wj];by_cases hl:l = []
 ·simp -dsimp[eq_true hl];refine Fin.box (.o 4) rfl ?_;simp -dsimp;refine Fin.of ?_;rw[if_pos (by simp[hl])]at e0
  simp[e0,bZ,bV]
 have hlz:0<l.length:=List.length_pos_iff.2 hl;rw[if_neg (by omega)]at e0
 simp -dsimp[eq_false hl];refine ah.of (bn p.2 kG l.length ⟨by omega,by omega⟩) [.x 0] 0 ?_;have m1:=aC p.2 l.length;have m2:=bg p.2 (n:=l.length) (by omega);have kN:ak (au p.2 l.length).2:=by simpa using kG
 generalize au p.2 l.length=q at m1 m2 kN e0⊢;obtain⟨i,hi⟩:∃i:Nat,q.1=i:=⟨q.1.toNat,by omega⟩
 have hil:i<l.length:=by omega
 have hx:l[i]? = some l[i]:=List.getElem?_eq_getElem hil;have hxo:=hok l[i] (List.getElem_mem hil);have hxs:=Bc hxo;obtain⟨_,hx1,hx2,_⟩:=uN hxo;rw[hi,Int.toNat_natCast,List.getD_eq_getElem?_getD,hx]at e0
 simp only[Option.getD_some]at e0;generalize l[i]=b at hx hxo hxs hx1 hx2 e0;have hx':=wX hx;rw[hi];have kO:ak (dD q.2 n).2:=by simpa using kN
 have hone:=gK q.2 kN n ⟨by omega,by omega⟩ ⟨by omega,by omega⟩;generalize dD q.2 n=o at kO hone e0;have key:o.1=true→(F7 o.2 b=none∨∃k y,F7 o.2 b=some k∧b.rows[k]? = some y):=fun _=>by
  cases h:F7 o.2 b with
  | none=>exact .inl rfl
  | some k=>exact .inr ⟨k,_,rfl,List.getElem?_eq_getElem (acH h)⟩
 rcases (Bool.eq_false_or_eq_true o.1).symm with ho|ho
 ·rw[if_neg (by simp[ho])]at e0
  simp -dsimp[eq_false hl,hx'];and_intros;all_goals try first|rfl|omega|exact⟨by kernel_rfl⟩
  refine ah.of (EJ b hxs.rows hxs.nx) [] 2000 ?_;simp -dsimp[eq_false hl,hx',bZ,jf,hn0];refine ah.of hone [.x 0] 0 ?_;simp -dsimp[ho];refine Fin.box (.o 4) rfl ?_;simp -dsimp;refine Fin.of ?_;simp[e0,bZ,jf]
 rw[if_pos ho]at e0
 rcases key ho with hb|⟨k,y,hb,hy⟩
 ·simp -dsimp[eq_false hl,hx'];and_intros;all_goals try first|rfl|omega|exact⟨by kernel_rfl⟩
  refine ah.of (EJ b hxs.rows hxs.nx) [] 2000 ?_;simp -dsimp[eq_false hl,hx',bZ,jf,hn0];refine ah.of hone [.x 0] 0 ?_;simp -dsimp[ho];refine ah.of2 (agB o.2 kO b (by omega) hb) [.x 0] [(900,2003)] 0 ?_;rw[←e0];generalize gTab T n=X;simp -dsimp[bZ,jf];refine Fin.box (.o 4) rfl ?_;simp -dsimp;refine Fin.of ?_;simp
 ·simp -dsimp[eq_false hl,hx'];and_intros;all_goals try first|rfl|omega|exact⟨by kernel_rfl⟩
  refine ah.of (acM b hxs.rows hxs.nx k y hy) [] 2000 ?_;simp -dsimp[eq_false hl,hx',bZ,jf,hn0];refine ah.of hone [.x 0] 0 ?_;simp -dsimp[ho];refine ah.of2 (agA o.2 kO b (by omega) k hb y hy (by have:=hx2 y (List.mem_of_getElem? hy);omega)) [.x 0] [(900,2003),(901,3001)] 0 ?_;rw[←e0];generalize gTab T n=X
  have hpm:=aaO [.x 0] [(900,2003),(901,3001)] b.rows k y 3001 901 rfl;simp -dsimp[hpm,bZ,jf];refine Fin.box (.o 4) rfl ?_;simp -dsimp;refine Fin.of ?_;simp
set_option linter.unusedVariables false
theorem uF(T:Tp){most:Int}(hm:1≤most∧most≤24):1≤(dG T most).1.rs.length∧(dG T most).1.rs.length≤24∧(dG T most).1.ls.length≤1000:=by
 have h1:=fO T hm;have h2:=aS T 1 most;have h3:(bW T most).1.rs.length=(dG T most).1.rs.length:=by simp[bW,fQ]
 have h4:(bW T most).1.ls=(dG T most).1.ls:=rfl;refine⟨?_,by omega,by rw[←h4];exact h1.2⟩;simp[dG,cu];omega
theorem vS(T:Tp){most:Int}(hm:1≤most∧most≤24):(bW T most).1.Fit:=by
 have h1:=uF T hm;have h3:(bW T most).1.rs.length=(dG T most).1.rs.length:=by simp[bW,fQ]
 have h4:(bW T most).1.ls=(dG T most).1.ls:=rfl;exact⟨by omega,by omega,by rw[h4];omega⟩
def bD(T:Tp)(most:Int):ay×Pn×List Tb×Tp:=
 ((bW T most).1,(dh (bW T most).2 (bW T most).1.rs 0).1,tabs (bW T most).1 (dh (bW T most).2 (bW T most).1.rs 0).1 (bW T most).1.rs,(dh (bW T most).2 (bW T most).1.rs 0).2)
theorem eF(T:Tp){most:Int}(hm:1≤most∧most≤8):QC most (bD T most).1 (bD T most).2.1 (bD T most).2.2.1:=by
 have h:=uj T hm;have hp:=qE h (by omega) (bW T most).2;exact⟨h,uI hp,hp.len,hp.bF,rfl⟩
theorem wQ(T:Tp){most:Int}(hm:1≤most∧most≤8):ak (bD T most).2.2.2=ak T∧(bD T most).2.1.es.length≤24∧1≤(bD T most).1.rs.length∧(bD T most).1.rs.length≤24∧(bD T most).1.Sm∧(bD T most).2.2.1.length≤24∧DL (bD T most).2.2.1:=by
 have hf:=vS T (most:=most) ⟨hm.1,by omega⟩;have hs:=fO T (most:=most) ⟨hm.1,by omega⟩;have hv:=eF T hm;obtain⟨h1,h2⟩:=fV (bW T most).2 (bW T most).1.rs;have ht:(bD T most).2.2.1.length≤24:=Nat.le_trans (oU _ _) hs.1;exact⟨h1.trans (by simp),Nat.le_trans h2 hs.1,hf.r1,hs.1,hf.sm,ht,⟨by omega,fun b hb=>Bc (by
  rw[hv.tab]at hb
  exact m_ hv.top.ok hv.plan b hb)⟩⟩
theorem CG(T:Tp)(hT:ak T)(most:Int)(hm:1≤most∧most≤8):Contract Tryz.prog 28 [.ptr (.x 0) 0,.d (.int .i64 most)] [aJ T] (.rG [aH (bD T most).1,bI (bD T most).2.1,.aB 6 (bD T most).2.2.1.length]) [aJ (bD T most).2.2.2] [(6,.row 65 4 (dd (oq (bD T most).2.2.1)) false)]:=by
 refine aj Tryz.func28 rfl (fun E0=>?_);refine cO.sound (g:=.mk) (ow:=[]) (kp:=(fun k=>k==0||k==1||k==4||k==5||k==6||k==7||k==8||k==9)) ?_;rw[Tryz.ntmps28];simp -dsimp;refine ah.of (rV T hT most ⟨hm.1,by omega⟩) [.x 0] 0 ?_;have kG:ak (bW T most).2:=by simpa using hT
 have hsm:=fO T (most:=most) ⟨hm.1,by omega⟩;have hD:=eF T hm;have hok:=hD.top.ok;have hpl:=hD.plan;clear hD;unfold bD at hok hpl⊢;simp only at hok hpl⊢;generalize bW T most=G at kG hsm hok hpl⊢;simp -dsimp[aH];and_intros;all_goals try first|rfl|omega|exact⟨by kernel_rfl⟩
 refine ah.of (xu G.2 kG G.1.rs G.1.ls (by omega) 0 (by omega)) [.x 0] 0 ?_;obtain⟨kP,lP⟩:=fV G.2 G.1.rs;have kG:ak (dh G.2 G.1.rs 0).2:=kP.symm▸kG;clear kP;generalize dh G.2 G.1.rs 0=p at kG lP hpl⊢;simp -dsimp[aH,bI];and_intros;all_goals try first|rfl|omega|exact⟨by kernel_rfl⟩
 refine ah.of (yC G.1 ⟨by omega,by omega⟩ hok p.1 hpl (by omega)) [] 0 ?_;generalize tabs G.1 p.1 G.1.rs=l;simp -dsimp[aH,bI];and_intros;all_goals try first|rfl|omega|exact⟨by kernel_rfl⟩
 refine Fin.of ?_;simp[aH,bI]
def nX(l:List (Int×Int))(a b:Int):Bool:=l.any fun x=>(decide (x.1=a)&&decide (x.2=b))||(decide (x.1=b)&&decide (x.2=a))
def xJ(g:ay)(fl:List (Int×Int))(fr:List Int):ay:=
 if cZ g=0 then ⟨g.rs.filter fun x=>!decide (x.id∈fr),g.ls.filter fun x=>!decide (x.a∈fr)&&(!decide (x.b∈fr) && !nX fl x.a x.b)⟩else ⟨[],[]⟩
theorem FV{g:ay}(h:cZ g=0)(fl:List (Int×Int))(fr:List Int):cZ (xJ g fl fr)=0:=by
 have hg:=aU h;have hr:=hg.rpw;have hl:=hg.Zu;unfold xJ;rw[if_pos h];have lk:∀x∈g.ls,((1≤x.ca∧x.ca≤1000)∧(1≤x.cb∧x.cb≤1000)∧0≤x.cap∧x.cap≤1000)∧(aY g.rs x.a=true∧aY g.rs x.b=true)∧x.a<x.b:=fun x hx=>by
  have c:=List.any_eq_false.1 hg.cost x hx;have e:=List.any_eq_false.1 hg.ends x hx;have a:=List.any_eq_false.1 hg.ab x hx;simp[Lk.bad,inB]at c
  simp at e a;refine⟨⟨?_,?_,?_⟩,⟨e.1,e.2⟩,a⟩<;>omega
 refine oV (Nat.le_trans (List.length_filter_le _ _) hg.nr) (Nat.le_trans (List.length_filter_le _ _) hg.nl) (fun x hx=>?_) (hr.sublist List.filter_sublist) (fun x hx=>(lk x (List.mem_filter.1 hx).1).1) (fun x hx=>?_) (fun x hx=>(lk x (List.mem_filter.1 hx).1).2.2) (hl.sublist List.filter_sublist)
 ·have:=List.any_eq_false.1 hg.ids x (List.mem_filter.1 hx).1;simp[inB]at this
  omega
 ·obtain⟨h1,h2⟩:=List.mem_filter.1 hx;have h3:=(lk x h1).2.1;simp only[Bool.and_eq_true,Bool.not_eq_true',decide_eq_false_iff_not]at h2;have sub:∀{r:Int},aY g.rs r=true→r∉fr→aY (g.rs.filter fun x=>!decide (x.id∈fr)) r=true:=fun {r} h4 h5=>by
   obtain⟨y,hy,rfl⟩:=List.mem_map.1 (dH.1 h4);exact dH.2 (List.mem_map.2 ⟨y,List.mem_filter.2 ⟨hy,by simpa using h5⟩,rfl⟩)
  exact⟨sub h3.1 h2.1,sub h3.2 h2.2.1⟩
def jL(x:Int×Int):List D:=[.int .i64 x.1,.int .i64 x.2]
abbrev Fl:=List (Int×Int)×List Int
def rM(f:Fl):TV:=.agg [.d (.sl (f.1.map jL)),.d (ints f.2)]
def pX(T:Tp)(g:ay):Fl×Tp:=if g.rs.length=0 then(([],[]),T)else(([],[(g.rs.getD (au T g.rs.length).1.toNat ⟨0,false⟩).id]),(au T g.rs.length).2)
def vP(T:Tp)(g:ay):Fl×Tp:=
 let b:=au T g.ls.length
 let c:=au b.2 2
 let x:=g.ls.getD b.1.toNat XM
 ((if c.1=0 then [(x.b,x.a)]else [(x.a,x.b)],[]),c.2)
def dW(T:Tp)(g:ay):Fl×Tp:=
 if 0<g.ls.length then(if 0<(au T 3).1 then vP (au T 3).2 g else pX (au T 3).2 g)else pX T g
theorem yg(T:Tp)(g:ay):ak (pX T g).2=ak T:=by
 unfold pX;split<;>simp[dP]
theorem ES(T:Tp)(g:ay):ak (vP T g).2=ak T:=by
 unfold vP;simp[dP]
theorem nS(T:Tp)(g:ay):ak (dW T g).2=ak T:=by
 unfold dW;split
 ·split
  ·rw[ES,dP]
  ·rw[yg,dP]
 ·rw[yg]
theorem oC(T:Tp)(g:ay):(dW T g).1.1.length≤1∧(dW T g).1.2.length≤1:=by
 unfold dW vP pX;split
 ·split
  ·simp only;split<;>simp
  ·split<;>simp
 ·split<;>simp
def tJ(f:Fl):List (Nat×It):=[(6,It.row 157 2 (dd (f.1.map jL)) false),(7,It.row 3 1 (dd (dJ .i64 f.2)) false)]
def tK(f:Fl):TV:=.agg [.aB 6 f.1.length,.aB 7 f.2.length]
theorem D5(T:Tp)(hT:ak T)(g:ay)(hs:g.Sm):Contract Tryz.prog 95 [.ptr (.x 0) 0,aH g] [aJ T] (tK (dW T g).1) [aJ (dW T g).2] (tJ (dW T g).1):=by
 have hr:=hs.r;have hl:=hs.l;have key:∀T':Tp,True:=fun _=>trivial
 obtain⟨w,hw⟩:∃w,w=dW T g:=⟨_,rfl⟩
 rw[←hw];refine aj Tryz.func95 rfl (fun E0=>?_);refine cO.sound (g:=.mk) (ow:=[32,39,56,2000032,2000039,2000056]) (kp:=(fun k=>k==0||k==1||k==3||k==4||k==5||k==14||k==26||k==44)) ?_;rw[Tryz.ntmps95];by_cases c0:0<g.ls.length
 ·have Jr:(0:Int)<g.ls.length:=by omega
  have n3:=bn T hT 3 ⟨by omega,by omega⟩;have a1:=aC T 3;have a2:=bg T (n:=3) (by omega);have aO:=dP T 3;unfold dW at hw;rw[if_pos c0]at hw
  generalize au T 3=a at n3 a1 a2 aO hw;obtain⟨a,Ta⟩:=a;simp only at a1 a2 aO hw;simp -dsimp[aH,Jr,c0];refine ah.of n3 [.x 0] 0 ?_;by_cases c1:0<a
  ·rw[if_pos c1]at hw
   have hTa:ak Ta:=by rw[aO];exact hT
   have n4:=bn Ta hTa g.ls.length ⟨by omega,by omega⟩;unfold vP at hw;have b1:=aC Ta g.ls.length;have b2:=bg Ta (n:=g.ls.length) (by omega);have bO:=dP Ta g.ls.length;generalize au Ta g.ls.length=b at n4 b1 b2 bO hw;obtain⟨b,Tb⟩:=b;simp only at b1 b2 bO hw;have hTb:ak Tb:=by rw[bO];exact hTa
   obtain⟨k,rfl⟩:∃k:Nat,b=k:=⟨b.toNat,by omega⟩
   have hkl:k<g.ls.length:=by omega
   have hx:g.ls[k]? = some g.ls[k]:=List.getElem?_eq_getElem hkl;have hxd:g.ls.getD k XM=g.ls[k]:=by simp[hkl]
   rw[Int.toNat_natCast,hxd]at hw
   generalize g.ls[k]=x at hx hw;have hx':=o8 hx;have n5:=bn Tb hTb 2 ⟨by omega,by omega⟩;generalize au Tb 2=c at n5 hw;obtain⟨c,Tc⟩:=c;simp only at hw;simp -dsimp[c1];and_intros;all_goals try first|rfl|omega|exact⟨by kernel_rfl⟩
   refine ah.of n4 [.x 0] 0 ?_;simp -dsimp[hx',Lk.cs];and_intros;all_goals try first|rfl|omega|exact⟨by kernel_rfl⟩
   refine ah.of n5 [.x 0] 0 ?_;by_cases c2:c=0
   ·rw[if_pos c2]at hw
    simp -dsimp[c2];and_intros;all_goals try first|rfl|omega|exact⟨by kernel_rfl⟩
    refine Fin.gs ((GS.gq (l':=[(Pl.x 0,aJ Tc),(Pl.o 4,It.box [TV.aB 32 1,TV.aB 7 0]),(Pl.s 4,It.v (.ptr (Pl.o 4) 0)),(Pl.o 32,It.row 157 2 [[TV.d (.int .i64 x.b),TV.d (.int .i64 x.a)]] false),(Pl.o 7,It.row 3 1 [] false)]) (.o 4) 1 7 (cs:=[TV.aB 32 1,TV.c (.slice none 0 0)]) 3 1 rfl (by simp) (by simp) (by simp) (by simp)).trans
     (GS.ren' (l':=[(Pl.x 0,aJ Tc),(Pl.o 4,It.box [TV.aB 6 1,TV.aB 7 0]),(Pl.s 4,It.v (.ptr (Pl.o 4) 0)),(Pl.o 6,It.row 157 2 [[TV.d (.int .i64 x.b),TV.d (.int .i64 x.a)]] false),(Pl.o 7,It.row 3 1 [] false)]) 32 6 (by decide) (by simp) (by simp[aJ]))) ?_
    refine Fin.of ?_;simp[hw,tK,tJ,jL,dJ]
   ·rw[if_neg c2]at hw
    simp -dsimp[c2];and_intros;all_goals try first|rfl|omega|exact⟨by kernel_rfl⟩
    refine Fin.gs ((GS.gq (l':=[(Pl.x 0,aJ Tc),(Pl.o 4,It.box [TV.aB 39 1,TV.aB 7 0]),(Pl.s 4,It.v (.ptr (Pl.o 4) 0)),(Pl.o 39,It.row 157 2 [[TV.d (.int .i64 x.a),TV.d (.int .i64 x.b)]] false),(Pl.o 7,It.row 3 1 [] false)]) (.o 4) 1 7 (cs:=[TV.aB 39 1,TV.c (.slice none 0 0)]) 3 1 rfl (by simp) (by simp) (by simp) (by simp)).trans
     (GS.ren' (l':=[(Pl.x 0,aJ Tc),(Pl.o 4,It.box [TV.aB 6 1,TV.aB 7 0]),(Pl.s 4,It.v (.ptr (Pl.o 4) 0)),(Pl.o 6,It.row 157 2 [[TV.d (.int .i64 x.a),TV.d (.int .i64 x.b)]] false),(Pl.o 7,It.row 3 1 [] false)]) 39 6 (by decide) (by simp) (by simp[aJ]))) ?_
    refine Fin.of ?_;simp[hw,tK,tJ,jL,dJ]
  ·have hTa:ak Ta:=by rw[aO];exact hT
   rw[if_neg c1]at hw
   unfold pX at hw;have hgr:g.rs.length=0∨0<g.rs.length:=by omega
   rcases hgr with hg0|hg0
   ·have hgn:g.rs = []:=List.length_eq_zero_iff.1 hg0;rw[if_pos hg0]at hw
    simp -dsimp[hgn,c1];and_intros;all_goals try first|rfl|omega|exact⟨by kernel_rfl⟩
    refine Fin.gs ((GS.gq (l':=[(Pl.x 0,aJ Ta),(Pl.o 4,It.box [TV.aB 6 0,TV.c (.slice none 0 0)]),(Pl.s 4,It.v (.ptr (Pl.o 4) 0)),(Pl.o 6,It.row 157 2 [] false)]) (.o 4) 0 6 (cs:=[TV.c (.slice none 0 0),TV.c (.slice none 0 0)]) 157 2 rfl (by simp) (by simp) (by simp) (by simp)).trans
     (GS.gq (l':=[(Pl.x 0,aJ Ta),(Pl.o 4,It.box [TV.aB 6 0,TV.aB 7 0]),(Pl.s 4,It.v (.ptr (Pl.o 4) 0)),(Pl.o 6,It.row 157 2 [] false),(Pl.o 7,It.row 3 1 [] false)]) (.o 4) 1 7 (cs:=[TV.aB 6 0,TV.c (.slice none 0 0)]) 3 1 rfl (by simp) (by simp) (by simp) (by simp))) ?_
    refine Fin.of ?_;simp[hw,tK,tJ,jL,dJ]
   ·have hgn :¬g.rs = []:=fun e=>by rw[e]at hg0;simp at hg0
    have hg0' :¬g.rs.length=0:=by omega
    rw[if_neg hg0']at hw
    have n6:=bn Ta hTa g.rs.length ⟨by omega,by omega⟩;have e1:=aC Ta g.rs.length;have e2:=bg Ta (n:=g.rs.length) (by omega);generalize au Ta g.rs.length=b at n6 e1 e2 hw;obtain⟨b,Tz⟩:=b;simp only at e1 e2 hw;obtain⟨k,rfl⟩:∃k:Nat,b=k:=⟨b.toNat,by omega⟩
    have hkl:k<g.rs.length:=by omega
    have hx:g.rs[k]? = some g.rs[k]:=List.getElem?_eq_getElem hkl;have hxd:g.rs.getD k ⟨0,false⟩ = g.rs[k]:=by simp[hkl]
    rw[Int.toNat_natCast,hxd]at hw
    generalize g.rs[k]=x at hx hw;have hx':=fF hx;simp -dsimp[hgn,c1];and_intros;all_goals try first|rfl|omega|exact⟨by kernel_rfl⟩
    refine ah.of n6 [.x 0] 0 ?_;simp -dsimp[hx',Rt.cs];and_intros;all_goals try first|rfl|omega|exact⟨by kernel_rfl⟩
    refine Fin.gs ((GS.gq (l':=[(Pl.x 0,aJ Tz),(Pl.o 4,It.box [TV.aB 6 0,TV.aB 56 1]),(Pl.s 4,It.v (.ptr (Pl.o 4) 0)),(Pl.o 56,It.row 3 1 [[TV.d (.int .i64 x.id)]] false),(Pl.o 6,It.row 157 2 [] false)]) (.o 4) 0 6 (cs:=[TV.c (.slice none 0 0),TV.aB 56 1]) 157 2 rfl (by simp) (by simp) (by simp) (by simp)).trans
     (GS.ren' (l':=[(Pl.x 0,aJ Tz),(Pl.o 4,It.box [TV.aB 6 0,TV.aB 7 1]),(Pl.s 4,It.v (.ptr (Pl.o 4) 0)),(Pl.o 7,It.row 3 1 [[TV.d (.int .i64 x.id)]] false),(Pl.o 6,It.row 157 2 [] false)]) 56 7 (by decide) (by simp) (by simp[aJ]))) ?_
    refine Fin.of ?_;simp[hw,tK,tJ,jL,dJ]
 ·have c0e:g.ls.length=0:=by omega
  have c0n:g.ls = []:=List.length_eq_zero_iff.1 c0e;unfold dW pX at hw;rw[if_neg c0]at hw
  have hgr:g.rs.length=0∨0<g.rs.length:=by omega
  rcases hgr with hg0|hg0
  ·have hgn:g.rs = []:=List.length_eq_zero_iff.1 hg0;rw[if_pos hg0]at hw
   simp -dsimp[hgn,c0n,aH];and_intros;all_goals try first|rfl|omega|exact⟨by kernel_rfl⟩
   refine Fin.gs ((GS.gq (l':=[(Pl.x 0,aJ T),(Pl.o 4,It.box [TV.aB 6 0,TV.c (.slice none 0 0)]),(Pl.s 4,It.v (.ptr (Pl.o 4) 0)),(Pl.o 6,It.row 157 2 [] false)]) (.o 4) 0 6 (cs:=[TV.c (.slice none 0 0),TV.c (.slice none 0 0)]) 157 2 rfl (by simp) (by simp) (by simp) (by simp)).trans
    (GS.gq (l':=[(Pl.x 0,aJ T),(Pl.o 4,It.box [TV.aB 6 0,TV.aB 7 0]),(Pl.s 4,It.v (.ptr (Pl.o 4) 0)),(Pl.o 6,It.row 157 2 [] false),(Pl.o 7,It.row 3 1 [] false)]) (.o 4) 1 7 (cs:=[TV.aB 6 0,TV.c (.slice none 0 0)]) 3 1 rfl (by simp) (by simp) (by simp) (by simp))) ?_
   refine Fin.of ?_;simp[hw,tK,tJ,jL,dJ]
  ·have hgn :¬g.rs = []:=fun e=>by rw[e]at hg0;simp at hg0
   have hg0' :¬g.rs.length=0:=by omega
   rw[if_neg hg0']at hw
   have n6:=bn T hT g.rs.length ⟨by omega,by omega⟩;have e1:=aC T g.rs.length;have e2:=bg T (n:=g.rs.length) (by omega);generalize au T g.rs.length=b at n6 e1 e2 hw;obtain⟨b,Tz⟩:=b;simp only at e1 e2 hw;obtain⟨k,rfl⟩:∃k:Nat,b=k:=⟨b.toNat,by omega⟩
   have hkl:k<g.rs.length:=by omega
   have hx:g.rs[k]? = some g.rs[k]:=List.getElem?_eq_getElem hkl;have hxd:g.rs.getD k ⟨0,false⟩ = g.rs[k]:=by simp[hkl]
   rw[Int.toNat_natCast,hxd]at hw
   generalize g.rs[k]=x at hx hw;have hx':=fF hx;simp -dsimp[hgn,c0n,aH];and_intros;all_goals try first|rfl|omega|exact⟨by kernel_rfl⟩
   refine ah.of n6 [.x 0] 0 ?_;simp -dsimp[hx',Rt.cs];and_intros;all_goals try first|rfl|omega|exact⟨by kernel_rfl⟩
   refine Fin.gs ((GS.gq (l':=[(Pl.x 0,aJ Tz),(Pl.o 4,It.box [TV.aB 6 0,TV.aB 56 1]),(Pl.s 4,It.v (.ptr (Pl.o 4) 0)),(Pl.o 56,It.row 3 1 [[TV.d (.int .i64 x.id)]] false),(Pl.o 6,It.row 157 2 [] false)]) (.o 4) 0 6 (cs:=[TV.c (.slice none 0 0),TV.aB 56 1]) 157 2 rfl (by simp) (by simp) (by simp) (by simp)).trans
    (GS.ren' (l':=[(Pl.x 0,aJ Tz),(Pl.o 4,It.box [TV.aB 6 0,TV.aB 7 1]),(Pl.s 4,It.v (.ptr (Pl.o 4) 0)),(Pl.o 7,It.row 3 1 [[TV.d (.int .i64 x.id)]] false),(Pl.o 6,It.row 157 2 [] false)]) 56 7 (by decide) (by simp) (by simp[aJ]))) ?_
   refine Fin.of ?_;simp[hw,tK,tJ,jL,dJ]
def gV(g:ay):Nat→Fl→Tp→Fl×Tp
 | 0,f,T=>(f,T)
 | k+1,f,T=>gV g k (f.1++(dW T g).1.1,f.2++(dW T g).1.2) (dW T g).2
def vk(f:Fl)(T:Tp):Fl×Tp:=
 let a:=au T 9
 let b:=au a.2 9
 let c:=aK b.2 [0,77,-1]
 ((f.1++[(a.1,b.1)],f.2++[c.1]),c.2)
def jh(T:Tp)(g:ay):Fl×Tp:=
 let f:=dW T g
 let k:=au f.2 3
 let x:=gV g k.1.toNat f.1 k.2
 let o:=dD x.2 6
 if o.1=true then vk x.1 o.2 else(x.1,o.2)
theorem pY(g:ay):∀(k:Nat) (f:Fl) (T:Tp),ak (gV g k f T).2=ak T
 | 0,_,_=>rfl
 | k+1,f,T=>by rw[gV,pY g k,nS]
theorem BK(T:Tp)(g:ay):ak (jh T g).2=ak T:=by
 unfold jh vk;simp only;split
 ·simp only[Mc,dP,oW,pY,nS]
 ·simp only[dP,oW,pY,nS]
theorem tV(g:ay):∀(k:Nat) (f:Fl) (T:Tp),(gV g k f T).1.1.length≤f.1.length+k∧(gV g k f T).1.2.length≤f.2.length+k
 | 0,_,_=>by simp[gV]
 | k+1,f,T=>by
   have h1:=tV g k (f.1++(dW T g).1.1,f.2++(dW T g).1.2) (dW T g).2;have h2:=oC T g;simp only[List.length_append]at h1;rw[gV];omega
theorem zL(T:Tp)(g:ay):(jh T g).1.1.length≤5∧(jh T g).1.2.length≤5:=by
 have h1:=oC T g;have h2:=tV g (au (dW T g).2 3).1.toNat (dW T g).1 (au (dW T g).2 3).2;have h3:=bg (dW T g).2 (n:=3) (by omega);have h4:=aC (dW T g).2 3;unfold jh vk;simp only;split
 ·simp only[List.length_append,List.length_cons,List.length_nil];omega
 ·simp only;omega
theorem zI(T:Tp)(hT:ak T)(g:ay)(hs:g.Sm):Contract Tryz.prog 32 [.ptr (.x 0) 0,aH g] [aJ T] (rM (jh T g).1) [aJ (jh T g).2] []:=by
 obtain⟨w,hw⟩:∃w,w=jh T g:=⟨_,rfl⟩
 rw[←hw];unfold jh at hw;have h1:=D5 T hT g hs;have k1:ak (dW T g).2:=by rw[nS];exact hT
 have l1:=oC T g;generalize dW T g=a at h1 k1 l1 hw;obtain⟨f,T1⟩:=a;simp only at k1 l1 hw;have h2:=bn T1 k1 3 ⟨by omega,by omega⟩;have k2:ak (au T1 3).2:=by rw[dP];exact k1
 have n1:=aC T1 3;have n2:=bg T1 (n:=3) (by omega);generalize au T1 3=b at h2 k2 n1 n2 hw;obtain⟨k,T2⟩:=b;simp only at k2 n1 n2 hw;obtain⟨k,rfl⟩:∃j:Nat,k=j:=⟨k.toNat,by omega⟩
 rw[Int.toNat_natCast]at hw
 have hF:=fun T hT=>D5 T hT g hs
 simp only[tK,tJ,aH]at h1 hF;refine aj Tryz.func32 rfl (fun E0=>?_);refine cO.sound (g:=.mk) (ow:=[1000095]) (kp:=(fun k=>k==0||k==1||k==3||k==4||k==5||k==6||k==7||k==14||k==33)) ?_;rw[Tryz.ntmps32];simp -dsimp[aH];refine ah.of h1 [.x 0] 2000 ?_;simp -dsimp;and_intros;all_goals try first|rfl|omega|exact⟨by kernel_rfl⟩
 refine ah.of h2 [.x 0] 0 ?_;simp -dsimp;and_intros;all_goals try first|rfl|omega|exact⟨by kernel_rfl⟩
 refine aN.of [1000095] (fun k=>k==0||k==1||k==3||k==4||k==5||k==6||k==7||k==14||k==33) (ι:={z:Nat×Fl×Tp // z.1≤2∧ak z.2.2∧z.2.1.1.length+z.1≤3∧z.2.1.2.length+z.1≤3∧gV g k f T2=gV g z.1 z.2.1 z.2.2})
  (fun z=>[(Pl.s 0,It.v (.ptr (Pl.x 0) 0)),(Pl.x 0,aJ z.1.2.2),(Pl.o 3,It.box [TV.d (.sl (rts g.rs)),TV.d (.sl (dO g.ls))]),(Pl.s 3,It.v (.ptr (.o 3) 0)),(Pl.o 4,It.box [TV.c (.slice none 0 0),TV.c (.slice none 0 0)]),(Pl.s 4,It.v (.ptr (.o 4) 0)),
   (Pl.o 5,It.box [TV.aB 70 z.1.2.1.1.length,TV.aB 71 z.1.2.1.2.length]),(Pl.s 5,It.v (.ptr (.o 5) 0)),(Pl.o 70,It.row 157 2 (dd (z.1.2.1.1.map jL)) false),(Pl.o 71,It.row 3 1 (dd (dJ .i64 z.1.2.1.2)) false),(Pl.s 6,It.v (.d (.int .i64 z.1.1)))])
  (fun z=>z.1.1) ⟨(k,f,T2),by simp only;omega,k2,by simp only;omega,by simp only;omega,rfl⟩ ?_ ?_
 ·refine(GS.to (l':=[(Pl.s 0,It.v (.ptr (Pl.x 0) 0)),(Pl.x 0,aJ T2),(Pl.o 3,It.box [TV.d (.sl (rts g.rs)),TV.d (.sl (dO g.ls))]),(Pl.s 3,It.v (.ptr (.o 3) 0)),(Pl.o 4,It.box [TV.c (.slice none 0 0),TV.c (.slice none 0 0)]),(Pl.s 4,It.v (.ptr (.o 4) 0)),(Pl.o 5,It.box [TV.aB 2006 f.1.length,TV.aB 2007 f.2.length]),(Pl.s 5,It.v (.ptr (.o 5) 0)),
   (Pl.o 2006,It.row 157 2 (dd (f.1.map jL)) false),(Pl.o 2007,It.row 3 1 (dd (dJ .i64 f.2)) false),(Pl.s 6,It.v (.d (.int .i64 k)))]) (by simp)).trans
   ((GS.ren' (l':=[(Pl.s 0,It.v (.ptr (Pl.x 0) 0)),(Pl.x 0,aJ T2),(Pl.o 3,It.box [TV.d (.sl (rts g.rs)),TV.d (.sl (dO g.ls))]),(Pl.s 3,It.v (.ptr (.o 3) 0)),(Pl.o 4,It.box [TV.c (.slice none 0 0),TV.c (.slice none 0 0)]),(Pl.s 4,It.v (.ptr (.o 4) 0)),(Pl.o 5,It.box [TV.aB 70 f.1.length,TV.aB 2007 f.2.length]),(Pl.s 5,It.v (.ptr (.o 5) 0)),
   (Pl.o 70,It.row 157 2 (dd (f.1.map jL)) false),(Pl.o 2007,It.row 3 1 (dd (dJ .i64 f.2)) false),(Pl.s 6,It.v (.d (.int .i64 k)))]) 2006 70 (by decide) (by simp) (by simp[aJ])).trans (GS.ren' 2007 71 (by decide) (by simp) (by simp[aJ])))
 ·rintro⟨⟨i,F,T3⟩,i1,i2,i3,i4,i5⟩;simp only at i1 i2 i3 i4 i5;by_cases hi:0<i
  ·obtain⟨i,rfl⟩:∃j,i=j+1:=⟨i-1,by omega⟩
   have h3:=hF T3 i2;have k3:ak (dW T3 g).2:=by rw[nS];exact i2
   have l3:=oC T3 g;rw[gV]at i5
   generalize dW T3 g=a at h3 k3 l3 i5;obtain⟨x,T4⟩:=a;simp only at k3 l3 i5;have iz:(0:Int)<(i:Int)+1:=by omega
   have w1:IntKind.i64.wrap (i:Int)=(i:Int):=wrap_i64 (by omega) (by omega);have d1:dLen 2 (x.1.map jL):=iF 2 _ _ fun _=>rfl
   have d2:dLen 1 (dJ .i64 x.2):=iF 1 _ _ fun _=>rfl
   simp -dsimp[iz];and_intros;all_goals try first|rfl|omega|exact⟨by kernel_rfl⟩
   refine ah.of h3 [.x 0] 4000 ?_;simp -dsimp[iz,w1];and_intros;all_goals try first|omega|exact d1|exact d2|exact⟨by kernel_rfl⟩|rfl
   refine⟨⟨(i,(F.1++x.1,F.2++x.2),T4),by simp only;omega,k3,by simp only[List.length_append];omega,by simp only[List.length_append];omega,i5⟩,GS.to (by simp[dJ]),by simp⟩
  ·obtain rfl:i=0:=by omega
   rw[gV]at i5
   rw[i5]at hw
   have h4:=gK T3 i2 6 ⟨by omega,by omega⟩ ⟨by omega,by omega⟩;have k4:ak (dD T3 6).2:=by rw[oW];exact i2
   simp only at hw;generalize dD T3 6=o at h4 k4 hw;obtain⟨o,T4⟩:=o;simp only at k4 hw;simp -dsimp;and_intros;all_goals try first|rfl|omega|exact⟨by kernel_rfl⟩
   refine ah.of h4 [.x 0] 0 ?_;cases o with
   | false=>
     simp only[Bool.false_eq_true,if_false]at hw;simp -dsimp;and_intros;all_goals try first|rfl|omega|exact⟨by kernel_rfl⟩
     refine Fin.box (.o 4) rfl ?_;simp -dsimp;refine Fin.of ?_;simp[hw,rM,ints,dJ]
   | true=>
     simp only[if_true]at hw;unfold vk at hw;have h5:=bn T4 k4 9 ⟨by omega,by omega⟩;have k5:ak (au T4 9).2:=by rw[dP];exact k4
     generalize au T4 9=a at h5 k5 hw;obtain⟨a,T5⟩:=a;simp only at k5 hw;have h6:=bn T5 k5 9 ⟨by omega,by omega⟩;have k6:ak (au T5 9).2:=by rw[dP];exact k5
     generalize au T5 9=b at h6 k6 hw;obtain⟨b,T6⟩:=b;simp only at k6 hw;have h7:=fE T6 k6 [0,77,-1] (by simp) (by simp);generalize aK T6 [0,77,-1]=c at h7 hw;obtain⟨c,T7⟩:=c;simp only at hw;simp only[ints,List.map]at h7;simp -dsimp;and_intros;all_goals try first|omega|exact⟨by kernel_rfl⟩|rfl
     refine ah.of h5 [.x 0] 0 ?_;simp -dsimp;and_intros;all_goals try first|omega|exact⟨by kernel_rfl⟩|rfl
     refine ah.of h6 [.x 0] 0 ?_;simp -dsimp;and_intros;all_goals try first|omega|exact⟨by kernel_rfl⟩|rfl
     refine ah.of h7 [.x 0] 0 ?_;simp -dsimp;and_intros;all_goals try first|omega|exact⟨by kernel_rfl⟩|rfl
     refine Fin.box (.o 4) rfl ?_;simp -dsimp;refine Fin.of ?_;simp[hw,rM,ints,dJ,jL]
end Go.Proofs
