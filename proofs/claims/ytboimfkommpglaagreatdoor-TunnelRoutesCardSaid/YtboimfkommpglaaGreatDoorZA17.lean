/-
  What functions of the program compute, stated as contracts over plain data; the conditions of each stand in its own statement.
-/
import Derived.Test.YtboimfkommpglaaGreatDoorZA16
set_option linter.unusedSimpArgs false
namespace Go.Proofs
open Go Go.Tr
theorem ad6(m:Mk)(k n:Int)(d:BitVec 64):Ht (ZG m k d) n=if n=k then d else Ht m n:=by
 induction m with
 | nil=>
   by_cases e:n=k<;>simp[ZG,Ht,e]
 | cons a m ih=>
   obtain⟨k',d'⟩:=a;simp only[ZG];by_cases e:k=k'
   ·subst e;rw[if_pos rfl];by_cases e2:n=k<;>simp[Ht,e2]
   ·rw[if_neg e];by_cases e2:n=k'
    ·have e3 :¬n=k:=fun h=>e (by rw[←h,e2])
     simp only[Ht,List.find?_cons,decide_eq_true e2,if_neg e3]
    ·simp only[Ht,List.find?_cons,decide_eq_false e2]at ih⊢;exact ih
theorem j_{j k:Nat}(hj:j<64)(hk:k<64):(1#64<<<j).getLsbD k=decide (k=j):=by
 rw[BitVec.getLsbD_shiftLeft];by_cases e:k=j
 ·subst e;simp[hk]
 ·simp[hk,e];omega
theorem X0(b:Tb)(p s n:Int){k:Nat}(hk:k<64):∀(l:List Rw) (m:Mk),(Ht (l.foldl (rU b p s) m) n).getLsbD k=true↔(Ht m n).getLsbD k=true∨∃x∈l,fJ x.id b.len=s∧gG x.id b.len=k∧og x p=n∧n≠0
 | [],m=>by simp
 | x::l,m=>by
   rw[List.foldl_cons,X0 b p s n hk l];have hpl:=plB x.id b.len;have hs:(Ht (rU b p s m x) n).getLsbD k=true↔(Ht m n).getLsbD k=true∨(fJ x.id b.len=s∧gG x.id b.len=k∧og x p=n∧n≠0):=by
    unfold rU;split
    ·rename_i hc;rw[ad6];by_cases e:n=og x p
     ·rw[if_pos e,BitVec.getLsbD_or,j_ (by omega) hk,Bool.or_eq_true,decide_eq_true_eq,←e];constructor
      ·rintro (h|h)
       ·exact .inl h
       ·exact .inr ⟨hc.1,by omega,rfl,by rw[e];exact hc.2⟩
      ·rintro (h|h)
       ·exact .inl h
       ·exact .inr (by omega)
     ·rw[if_neg e];constructor
      ·exact .inl
      ·rintro (h|h)
       ·exact h
       ·exact absurd h.2.2.1.symm e
    ·rename_i hc;constructor
     ·exact .inl
     ·rintro (h|h)
      ·exact h
      ·exact absurd ⟨h.1,by rw[h.2.2.1];exact h.2.2.2⟩ hc
   rw[hs];simp only[List.mem_cons,exists_eq_or_imp,or_assoc]
theorem XU{k j:Nat}(hk:k<64)(hj:j<64):(lS k).getLsbD j=decide (j=k):=by
 unfold lS;rw[if_neg (by omega),yu];have:((k:Int)%18446744073709551616).toNat=k:=by omega
 rw[this,j_ hk hj]
theorem Jq(b:Tb)(p s n:Int){j:Nat}(hj:j<64):∀K:Nat,K≤64→((gu b p s n K).getLsbD j=true↔j<K∧Ej s j b.len=true∧0<n∧mG b (s*b.len+j+1) p=n)
 | 0,_=>by simp[gu]
 | K+1,hK=>by
   have ih:=Jq b p s n hj K (by omega);rw[gu];split
   ·rename_i hc;rw[BitVec.getLsbD_or,XU (by omega) hj,Bool.or_eq_true,decide_eq_true_eq,ih];constructor
    ·rintro (h|h)
     ·exact⟨by omega,h.2⟩
     ·subst h;exact⟨by omega,hc⟩
    ·rintro⟨h1,h2⟩;by_cases e:j=K
     ·exact .inr e
     ·exact .inl ⟨by omega,h2⟩
   ·rename_i hc;rw[ih];constructor
    ·rintro⟨h1,h2⟩;exact⟨by omega,h2⟩
    ·rintro⟨h1,h2⟩;by_cases e:j=K
     ·subst e;exact absurd h2 hc
     ·exact⟨by omega,h2⟩
theorem Ls{b:Tb}(h:chk b=0):b.xX:=Classical.byContradiction fun g=>by
 unfold chk at h;split at h
 ·simp at h
 split at h
 ·simp at h
 split at h
 ·simp at h
 split at h
 ·simp at h
 simp at h
theorem adB{b:Tb}(h:chk b=0){x:Rw}(hx:x∈b.rows):rowOf b x.id=some x:=by
 have hasc:=(Ls h).1;unfold rowOf;have:∀l:List Rw,(l.map (·.id)).Pairwise (· < ·)→x∈l→l.find? (fun y=>decide (y.id=x.id))=some x:=by
  intro l
  induction l with
  | nil=>intro _ h;simp at h
  | cons y l ih=>
    intro hp hm;rw[List.map_cons,List.pairwise_cons]at hp
    by_cases e:y.id=x.id
    ·rcases List.mem_cons.1 hm with rfl|hm
     ·simp
     ·have:=hp.1 x.id (List.mem_map_of_mem hm);omega
    ·rw[List.find?_cons,decide_eq_false e];rcases List.mem_cons.1 hm with rfl|hm
     ·exact absurd rfl e
     ·exact ih hp.2 hm
 exact this b.rows hasc hx
theorem YP(b:Tb)(p s n:Int):Bl b p s n=abW b p s n:=by
 unfold Bl abW;by_cases hv:JU b p s=true
 ·obtain⟨hc,hp,hs⟩:=Dy.1 hv;have hl:=aef hc;rw[if_pos hv];apply BitVec.eq_of_getLsbD_eq;intro k hk;rw[Bool.eq_iff_iff,show coll b p s=b.rows.foldl (rU b p s) [] from rfl,X0 b p s n hk];have h0 :¬(Ht [] n).getLsbD k=true:=by simp[Ht]
  by_cases hn:1≤n∧n≤99
  ·rw[if_pos ⟨hv,hn⟩,Jq b p s n hk _ (by omega)];constructor
   ·rintro (h|⟨x,hx,h1,h2,h3,h4⟩)
    ·exact absurd h h0
    ·have hid:=(yG hc x hx).1;have hvl:aG b.len=true:=by
      rcases abw hc with g|g
      ·exact g
      ·rw[List.length_eq_zero_iff.1 g.2]at hx;simp at hx
     have hin:inB x.id 1 256=true:=by simp[inB,hid]
     have hlp:0<b.len:=by simp[aG]at hvl;omega
     simp only[fJ,gG,hvl,hin,Bool.and_self,if_true]at h1 h2;have hde:=Int.mul_ediv_add_emod (x.id-1) b.len;have hmul:b.len*((x.id-1)/b.len)=s*b.len:=by rw[h1,Int.mul_comm]
     have hml:=Int.emod_lt_of_pos (x.id-1) hlp;have he:s*b.len+k+1=x.id:=by omega
     refine⟨by omega,?_,by omega,?_⟩
     ·simp only[Ej,hvl,inB,Bool.true_and,Bool.and_eq_true,decide_eq_true_eq];exact⟨by omega,by omega,by omega⟩
     ·rw[he,mG,adB hc hx];exact h3
   ·rintro⟨h1,h2,h3,h4⟩;refine .inr ?_;simp only[Ej,Bool.and_eq_true,decide_eq_true_eq,inB]at h2;obtain⟨hvl,⟨h5,h6⟩,_,h8⟩:=h2;unfold mG at h4;cases hr:rowOf b (s*b.len+k+1)with
    | none=>rw[hr]at h4;simp[og]at h4;omega
    | some x=>
      rw[hr]at h4
      have hx:x∈b.rows:=List.mem_of_find?_eq_some hr;have hid:x.id=s*b.len+k+1:=by simpa using List.find?_some hr
      have hlp:0<b.len:=by simp[aG]at hvl;omega
      have hi0:x.id-1=k+s*b.len:=by omega
      have hin:inB x.id 1 256=true:=by have:=(yG hc x hx).1;simp[inB,this]
      refine⟨x,hx,?_,?_,h4,by omega⟩
      ·simp only[fJ,hvl,hin,Bool.and_self,if_true];rw[hi0,Int.add_mul_ediv_right _ _ (by omega),Int.ediv_eq_zero_of_lt (by omega) (by omega)];omega
      ·simp only[gG,hvl,hin,Bool.and_self,if_true];rw[hi0,Int.add_mul_emod_self_right];exact Int.emod_eq_of_lt (by omega) (by omega)
  ·rw[if_neg fun h=>hn h.2];constructor
   ·rintro (h|⟨x,hx,h1,h2,h3,h4⟩)
    ·exact absurd h h0
    ·have hm:=YC (x:=x) (p:=p) (by rw[h3];exact h4);rw[h3]at hm
     exact absurd ((yG hc x hx).2 n hm) hn
   ·intro h;simp at h
 ·rw[if_neg hv,if_neg fun h=>hv h.1]
theorem zK{j:Nat}(hj:j<64):∀K:Nat,K≤64→((Pq K).getLsbD j=decide (j<K))
 | 0,_=>by simp[Pq]
 | K+1,hK=>by
   rw[Pq,BitVec.getLsbD_or,zK hj K (by omega),XU (by omega) hj,Bool.eq_iff_iff];simp;omega
set_option maxRecDepth 100000
set_option maxHeartbeats 2000000
theorem zl(T:Tp)(hT:ak T)(most:Int)(hm:1≤most∧most≤24):Contract Tryz.prog 18 [.ptr (.x 0) 0,.d (.int .i64 most),.d (.int .i64 0)] [aJ T] (.agg [.aB 1000 (dG T most).1.rs.length,.d (.sl (dO (dG T most).1.ls))]) [aJ (dG T most).2] [(1000,.row 117 2 (dd (rts (dG T most).1.rs)) false)]:=by
 have b1:=aS T 1 most;have b2:=aQ T (a:=1) (b:=most) (by omega);refine aj Tryz.func18 rfl (fun E0=>?_);refine cO.sound (g:=.mk) (ow:=[]) (kp:=(fun k=>k==0||k==1||k==2||k==6||k==7||k==8||k==9||k==10||k==11||k==12||k==13||k==14||k==15||k==21||k==36||k==47||k==60||k==87||k==89||k==91||k==101||k==112||k==124||k==129||k==141||k==146||k==158||k==163||k==175||k==180)) ?_
 rw[Tryz.ntmps18];simp -dsimp;refine ah.of (dw T hT 1 most ⟨by omega,by omega⟩ ⟨by omega,by omega⟩ ⟨by omega,by omega⟩ ⟨by omega,by omega⟩) [.x 0] 0 ?_;simp -dsimp;generalize hR:aT T 1 most=R at b1 b2⊢;have kR:ak R.2:=by rw[←hR];simpa using hT
 refine aN.of [] (fun k=>k==0||k==1||k==2||k==6||k==7||k==8||k==9||k==10||k==11||k==12||k==13||k==14||k==15||k==21||k==36||k==47||k==60||k==87||k==89||k==91||k==101||k==112||k==124||k==129||k==141||k==146||k==158||k==163||k==175||k==180) (ι:={i:Nat // (i:Int)≤R.1}) (fun i=>[(Pl.s 0,It.v (.ptr (Pl.x 0) 0)),(Pl.s 1,It.v (.d (.int .i64 most))),(Pl.s 2,It.v (.d (.int .i64 0))),(Pl.x 0,aJ R.2),
  (Pl.o 6,It.box [TV.c (Value.slice none 0 0),TV.c (Value.slice none 0 0)]),(Pl.s 6,It.v (.ptr (Pl.o 6) 0)),(Pl.o 7,It.box [TV.aB 1000 i.1,TV.c (Value.slice none 0 0)]),(Pl.s 7,It.v (.ptr (Pl.o 7) 0)),
  (Pl.s 8,It.v (.d (.int .i64 R.1))),(Pl.s 9,It.v (.d (.int .i64 (i.1+1)))),(Pl.o 1000,.row 117 2 (dd (rts (cu i.1))) false)]) (fun i=>R.1.toNat-i.1) ⟨0,by omega⟩ ?_ ?_
 ·exact GS.gq (.o 7) 0 1000 (cs:=[TV.c (Value.slice none 0 0),TV.c (Value.slice none 0 0)]) 117 2 (by simp) (by simp) (by simp) (by simp) (by simp[cu,rts])
 ·rintro⟨i,hi⟩;simp -dsimp;refine qM.dec (fun h=>?_) (fun h=>?_)
  ·simp -dsimp[wrap_i64 (n:=(i:Int)+1+1) (by omega) (by omega)];and_intros;all_goals try omega
   exact⟨⟨⟨i+1,by omega⟩,GS.to (by simp[cu,rts,List.range_succ,Rt.cs]),by simp;omega⟩⟩
  ·have hk:R.1=i:=by omega
   simp -dsimp;refine ah.of (fE R.2 kR [1,2,2,5] (by simp) (by simp)) [.x 0] 0 ?_;simp -dsimp[ints];generalize hC:aK R.2 [1,2,2,5]=C;have kC:ak C.2:=by rw[←hC];simpa using kR
   have bC:1≤C.1∧C.1≤5:=by rw[←hC];exact dA (p:=fun x=>1≤x∧x≤5) (by simp) (by simp)
   refine aN.of [] (fun k=>k==0||k==1||k==2||k==6||k==7||k==8||k==9||k==10||k==11||k==12||k==13||k==14||k==15||k==21||k==36||k==47||k==60||k==87||k==89||k==91||k==101||k==112||k==124||k==129||k==141||k==146||k==158||k==163||k==175||k==180) (ι:={z:Int×Tp×List Lk // 2≤z.1∧z.1≤R.1+1∧ak z.2.1∧z.2.2.length≤24*(z.1.toNat-2)∧dS C.1 (R.1+1-2).toNat 2 C.2 []=dS C.1 (R.1+1-z.1).toNat z.1 z.2.1 z.2.2})
    (fun z=>[(Pl.s 0,It.v (.ptr (Pl.x 0) 0)),(Pl.s 1,It.v (.d (.int .i64 most))),(Pl.s 2,It.v (.d (.int .i64 0))),(Pl.x 0,aJ z.1.2.1),
     (Pl.o 6,It.box [TV.c (Value.slice none 0 0),TV.c (Value.slice none 0 0)]),(Pl.s 6,It.v (.ptr (Pl.o 6) 0)),(Pl.o 7,It.box [TV.aB 1000 i,TV.aB 1001 z.1.2.2.length]),(Pl.s 7,It.v (.ptr (Pl.o 7) 0)),
     (Pl.s 8,It.v (.d (.int .i64 R.1))),(Pl.o 1000,.row 117 2 (dd (rts (cu i))) false),(Pl.o 1001,.row 142 5 (dd (dO z.1.2.2)) false),
     (Pl.s 10,It.v (.d (.int .i64 C.1))),(Pl.s 11,It.v (.d (.int .i64 z.1.1)))]) (fun z=>(R.1+1-z.1.1).toNat) ⟨(2,C.2,[]),by omega,by omega,kC,by simp,rfl⟩ ?_ ?_
   ·exact GS.gq (.o 7) 1 1001 (cs:=[TV.aB 1000 i,TV.c (Value.slice none 0 0)]) 142 5 (by simp) (by simp) (by simp) (by simp) (by simp[dO])
   ·rintro⟨⟨b,T0,l0⟩,i1,i2,i3,i4,i5⟩;simp only at i1 i2 i3 i4 i5;simp -dsimp;refine qM.dec (fun hb=>?_) (fun hb=>?_)
    ·have t1:=aS T0 1 (b-1);have t2:=aQ T0 (a:=1) (b:=b-1) (by omega);simp -dsimp[wrap_i64 (n:=b-1) (by omega) (by omega)];refine ah.of (dw T0 i3 1 (b-1) ⟨by omega,by omega⟩ ⟨by omega,by omega⟩ ⟨by omega,by omega⟩ ⟨by omega,by omega⟩) [.x 0] 0 ?_;simp -dsimp;generalize ht:aT T0 1 (b-1)=t at t1 t2⊢;have kt:ak t.2:=by rw[←ht];simpa using i3
     refine ah.of (gK t.2 kt 9 ⟨by omega,by omega⟩ ⟨by omega,by omega⟩) [.x 0] 0 ?_;simp -dsimp;generalize hs:dD t.2 9=s;have ks:ak s.2:=by rw[←hs];simpa using kt
     refine aN.of [] (fun k=>k==0||k==1||k==2||k==6||k==7||k==8||k==9||k==10||k==11||k==12||k==13||k==14||k==15||k==21||k==36||k==47||k==60||k==87||k==89||k==91||k==101||k==112||k==124||k==129||k==141||k==146||k==158||k==163||k==175||k==180) (ι:={z:Int×Tp×List Lk // 1≤z.1∧z.1≤b∧ak z.2.1∧z.2.2.length≤24*(b.toNat-2)+(z.1.toNat-1)∧dV C.1 t.1 s.1 b (b-1).toNat 1 s.2 l0=dV C.1 t.1 s.1 b (b-z.1).toNat z.1 z.2.1 z.2.2})
      (fun z=>[(Pl.s 0,It.v (.ptr (Pl.x 0) 0)),(Pl.s 1,It.v (.d (.int .i64 most))),(Pl.s 2,It.v (.d (.int .i64 0))),(Pl.x 0,aJ z.1.2.1),
       (Pl.o 6,It.box [TV.c (Value.slice none 0 0),TV.c (Value.slice none 0 0)]),(Pl.s 6,It.v (.ptr (Pl.o 6) 0)),(Pl.o 7,It.box [TV.aB 1000 i,TV.aB 1001 z.1.2.2.length]),(Pl.s 7,It.v (.ptr (Pl.o 7) 0)),
       (Pl.s 8,It.v (.d (.int .i64 R.1))),(Pl.o 1000,.row 117 2 (dd (rts (cu i))) false),(Pl.o 1001,.row 142 5 (dd (dO z.1.2.2)) false),
       (Pl.s 10,It.v (.d (.int .i64 C.1))),(Pl.s 11,It.v (.d (.int .i64 b))),(Pl.s 12,It.v (.d (.int .i64 t.1))),(Pl.s 13,It.v (.d (.bool s.1))),(Pl.s 14,It.v (.d (.int .i64 z.1.1)))]) (fun z=>(b-z.1.1).toNat) ⟨(1,s.2,l0),by omega,by omega,ks,by simpa using i4,rfl⟩ ?_ ?_
     ·exact GS.to (by simp)
     ·rintro⟨⟨a,T1,l⟩,j1,j2,j3,j4,j5⟩;simp only at j1 j2 j3 j4 j5;by_cases hab:a<b
      ·have hab':decide (a<b)=true:=by simpa using hab
       by_cases ha:a=t.1
       ·have ha':decide (a=t.1)=true:=by simpa using ha
        rcases (Bool.eq_false_or_eq_true s.1).symm with hs1|hs1
        ·simp -dsimp[hab',ha',hs1];have x1:=aS T1 1 C.1;have x2:=aQ T1 (a:=1) (b:=C.1) (by omega);refine ah.of (dw T1 j3 1 C.1 ⟨by omega,by omega⟩ ⟨by omega,by omega⟩ ⟨by omega,by omega⟩ ⟨by omega,by omega⟩) [.x 0] 0 ?_;simp -dsimp;generalize hx:aT T1 1 C.1=x at x1 x2⊢;have kx:ak x.2:=by rw[←hx];simpa using j3
         have y1:=aS x.2 1 C.1;have y2:=aQ x.2 (a:=1) (b:=C.1) (by omega);refine ah.of (dw x.2 kx 1 C.1 ⟨by omega,by omega⟩ ⟨by omega,by omega⟩ ⟨by omega,by omega⟩ ⟨by omega,by omega⟩) [.x 0] 0 ?_;simp -dsimp;generalize hy:aT x.2 1 C.1=y at y1 y2⊢;have ky:ak y.2:=by rw[←hy];simpa using kx
         refine ah.of (bn y.2 ky 4 ⟨by omega,by omega⟩) [.x 0] 0 ?_;simp -dsimp[wrap_i64 (n:=a+1) (by omega) (by omega)];have e:dI C.1 t.1 s.1 b a T1 l=(l++[⟨a,b,x.1,y.1,(au y.2 4).1⟩],(au y.2 4).2):=by simp[dI,ha',hs1,hx,hy]
         and_intros;all_goals try first|omega|exact⟨by kernel_rfl⟩|(simp;omega)
         exact⟨⟨(a+1,(au y.2 4).2,l++[⟨a,b,x.1,y.1,(au y.2 4).1⟩]),by omega,by omega,by simpa using ky,by simp;omega,by rw[j5,show(b-a).toNat=(b-(a+1)).toNat+1 by omega,dV,e]⟩,GS.to (by simp[dO,Lk.cs,ha',hs1]),by simp;omega⟩
        ·simp -dsimp[hab',ha',hs1];refine ah.of (gK T1 j3 3 ⟨by omega,by omega⟩ ⟨by omega,by omega⟩) [.x 0] 0 ?_;generalize ho:dD T1 3=o;have ko:ak o.2:=by rw[←ho];simpa using j3
         rcases (Bool.eq_false_or_eq_true o.1).symm with ho1|ho1
         ·simp -dsimp[ho1,wrap_i64 (n:=a+1) (by omega) (by omega)];have e:dI C.1 t.1 s.1 b a T1 l=(l,o.2):=by simp[dI,ha',hs1,ho,ho1]
          and_intros;all_goals try first|omega|exact⟨by kernel_rfl⟩|(simp;omega)
          exact⟨⟨(a+1,o.2,l),by omega,by omega,ko,by simp;omega,by rw[j5,show(b-a).toNat=(b-(a+1)).toNat+1 by omega,dV,e]⟩,GS.to (by simp[ha',hs1]),by simp;omega⟩
         ·simp -dsimp[ho1];have x1:=aS o.2 1 C.1;have x2:=aQ o.2 (a:=1) (b:=C.1) (by omega);refine ah.of (dw o.2 ko 1 C.1 ⟨by omega,by omega⟩ ⟨by omega,by omega⟩ ⟨by omega,by omega⟩ ⟨by omega,by omega⟩) [.x 0] 0 ?_;simp -dsimp;generalize hx:aT o.2 1 C.1=x at x1 x2⊢;have kx:ak x.2:=by rw[←hx];simpa using ko
          have y1:=aS x.2 1 C.1;have y2:=aQ x.2 (a:=1) (b:=C.1) (by omega);refine ah.of (dw x.2 kx 1 C.1 ⟨by omega,by omega⟩ ⟨by omega,by omega⟩ ⟨by omega,by omega⟩ ⟨by omega,by omega⟩) [.x 0] 0 ?_;simp -dsimp;generalize hy:aT x.2 1 C.1=y at y1 y2⊢;have ky:ak y.2:=by rw[←hy];simpa using kx
          refine ah.of (bn y.2 ky 4 ⟨by omega,by omega⟩) [.x 0] 0 ?_;simp -dsimp[wrap_i64 (n:=a+1) (by omega) (by omega)];have e:dI C.1 t.1 s.1 b a T1 l=(l++[⟨a,b,x.1,y.1,(au y.2 4).1⟩],(au y.2 4).2):=by simp[dI,ha',hs1,ho,ho1,hx,hy]
          and_intros;all_goals try first|omega|exact⟨by kernel_rfl⟩|(simp;omega)
          exact⟨⟨(a+1,(au y.2 4).2,l++[⟨a,b,x.1,y.1,(au y.2 4).1⟩]),by omega,by omega,by simpa using ky,by simp;omega,by rw[j5,show(b-a).toNat=(b-(a+1)).toNat+1 by omega,dV,e]⟩,GS.to (by simp[dO,Lk.cs,ha',hs1,ho,ho1]),by simp;omega⟩
       ·have ha':decide (a=t.1)=false:=by simpa using ha
        simp -dsimp[hab',ha'];refine ah.of (gK T1 j3 3 ⟨by omega,by omega⟩ ⟨by omega,by omega⟩) [.x 0] 0 ?_;generalize ho:dD T1 3=o;have ko:ak o.2:=by rw[←ho];simpa using j3
        rcases (Bool.eq_false_or_eq_true o.1).symm with ho1|ho1
        ·simp -dsimp[ho1,wrap_i64 (n:=a+1) (by omega) (by omega)];have e:dI C.1 t.1 s.1 b a T1 l=(l,o.2):=by simp[dI,ha',ho,ho1]
         and_intros;all_goals try first|omega|exact⟨by kernel_rfl⟩|(simp;omega)
         exact⟨⟨(a+1,o.2,l),by omega,by omega,ko,by simp;omega,by rw[j5,show(b-a).toNat=(b-(a+1)).toNat+1 by omega,dV,e]⟩,GS.to (by simp[ha']),by simp;omega⟩
        ·simp -dsimp[ho1];have x1:=aS o.2 1 C.1;have x2:=aQ o.2 (a:=1) (b:=C.1) (by omega);refine ah.of (dw o.2 ko 1 C.1 ⟨by omega,by omega⟩ ⟨by omega,by omega⟩ ⟨by omega,by omega⟩ ⟨by omega,by omega⟩) [.x 0] 0 ?_;simp -dsimp;generalize hx:aT o.2 1 C.1=x at x1 x2⊢;have kx:ak x.2:=by rw[←hx];simpa using ko
         have y1:=aS x.2 1 C.1;have y2:=aQ x.2 (a:=1) (b:=C.1) (by omega);refine ah.of (dw x.2 kx 1 C.1 ⟨by omega,by omega⟩ ⟨by omega,by omega⟩ ⟨by omega,by omega⟩ ⟨by omega,by omega⟩) [.x 0] 0 ?_;simp -dsimp;generalize hy:aT x.2 1 C.1=y at y1 y2⊢;have ky:ak y.2:=by rw[←hy];simpa using kx
         refine ah.of (bn y.2 ky 4 ⟨by omega,by omega⟩) [.x 0] 0 ?_;simp -dsimp[wrap_i64 (n:=a+1) (by omega) (by omega)];have e:dI C.1 t.1 s.1 b a T1 l=(l++[⟨a,b,x.1,y.1,(au y.2 4).1⟩],(au y.2 4).2):=by simp[dI,ha',ho,ho1,hx,hy]
         and_intros;all_goals try first|omega|exact⟨by kernel_rfl⟩|(simp;omega)
         exact⟨⟨(a+1,(au y.2 4).2,l++[⟨a,b,x.1,y.1,(au y.2 4).1⟩]),by omega,by omega,by simpa using ky,by simp;omega,by rw[j5,show(b-a).toNat=(b-(a+1)).toNat+1 by omega,dV,e]⟩,GS.to (by simp[dO,Lk.cs,ha',ho,ho1]),by simp;omega⟩
      ·have hab':decide (a<b)=false:=by simpa using hab
       obtain rfl:a=b:=by omega
       simp -dsimp[hab',wrap_i64 (n:=a+1) (by omega) (by omega)];have e:gW C.1 a T0 l0=(l,T1):=by unfold gW;simp only[ht,hs];rw[j5];simp[dV]
       exact⟨⟨(a+1,T1,l),by omega,by omega,j3,by simp;omega,by rw[i5,show(R.1+1-a).toNat=(R.1+1-(a+1)).toNat+1 by omega,dS,e]⟩,GS.to (by simp),by simp;omega⟩
    ·obtain rfl:b=R.1+1:=by omega
     simp -dsimp;refine ah.of (Tn l0 (by omega)) [] 0 ?_;simp -dsimp;refine Fin.of ?_;have hX:dS C.1 (R.1+1-2).toNat 2 C.2 []=(l0,T0):=by rw[i5];simp[dS]
     simp only[dG,hR,hC,hX];simp[hk,cu]
def iy:List Rt→Tp→List Rt×Tp
 | [],T=>([],T)
 | x::l,T=>(⟨x.id,!(dD T 3).1⟩::(iy l (dD T 3).2).1,(iy l (dD T 3).2).2)
def bW(T:Tp)(most:Int):ay×Tp:=let g:=dG T most;(⟨(iy g.1.rs g.2).1,g.1.ls⟩,(iy g.1.rs g.2).2)
theorem fQ:∀(l:List Rt) (T:Tp),(iy l T).1.length=l.length
 | [],_=>rfl
 | x::l,T=>by simp[iy,fQ l]
section
variable {α:Type} {q:α→Bool} {l:List α} {i:Nat} {x:α}
theorem Cb(hx:l[i]? = some x)(h:l.any q=(l.drop i).any q)(hq:q x=false):l.any q=(l.drop (i+1)).any q:=by
 obtain⟨hi,rfl⟩:=List.getElem?_eq_some_iff.1 hx;rw[h,List.drop_eq_getElem_cons hi,List.any_cons,hq,Bool.false_or]
theorem Bo(hx:l[i]? = some x)(hq:q x=true):l.any q=true:=by
 rw[List.any_eq_true];exact⟨x,List.mem_of_getElem? hx,hq⟩
theorem F5(h:l.any q=(l.drop i).any q)(hi :¬i<l.length):l.any q=false:=by
 rw[h,List.drop_eq_nil_of_le (by omega)];rfl
theorem Ot(hx:l[i]? = some x)(h:l.find? q=(l.drop i).find? q)(hq:q x=false):l.find? q=(l.drop (i+1)).find? q:=by
 obtain⟨hi,rfl⟩:=List.getElem?_eq_some_iff.1 hx;rw[h,List.drop_eq_getElem_cons hi,List.find?_cons,hq]
theorem Rq(hx:l[i]? = some x)(h:l.find? q=(l.drop i).find? q)(hq:q x=true):l.find? q=some x:=by
 obtain⟨hi,rfl⟩:=List.getElem?_eq_some_iff.1 hx;rw[h,List.drop_eq_getElem_cons hi,List.find?_cons,hq]
theorem Ro(h:l.find? q=(l.drop i).find? q)(hi :¬i<l.length):l.find? q=none:=by
 rw[h,List.drop_eq_nil_of_le (by omega)];rfl
end
def nO{α:Type}(q:α→α→Bool):List α→Bool
 | x::y::r=>q x y||nO q (y::r)
 | _=>false
section
variable {α:Type} {q:α→α→Bool} {l:List α} {i:Nat} {x y:α}
theorem EF(hx:l[i]? = some x)(hy:l[i+1]? = some y)(h:nO q l=nO q (l.drop i))(hq:q x y=false):nO q l=nO q (l.drop (i+1)):=by
 obtain⟨hi,rfl⟩:=List.getElem?_eq_some_iff.1 hx;obtain⟨hj,rfl⟩:=List.getElem?_eq_some_iff.1 hy;rw[h,List.drop_eq_getElem_cons hi,List.drop_eq_getElem_cons hj,nO,hq,Bool.false_or]
theorem Jo(hx:l[i]? = some x)(hy:l[i+1]? = some y)(h:nO q l=nO q (l.drop i))(hq:q x y=true):nO q l=true:=by
 obtain⟨hi,rfl⟩:=List.getElem?_eq_some_iff.1 hx;obtain⟨hj,rfl⟩:=List.getElem?_eq_some_iff.1 hy;rw[h,List.drop_eq_getElem_cons hi,List.drop_eq_getElem_cons hj,nO,hq,Bool.true_or]
theorem Jm(h:nO q l=nO q (l.drop i))(hi :¬i+1<l.length):nO q l=false:=by
 rw[h];cases h:l.drop i with
 | nil=>rfl
 | cons a r=>
   cases r with
   | nil=>rfl
   | cons b r=>have:=congrArg List.length h;simp at this;omega
end
def aY(l:List Rt)(r:Int):Bool:=l.any fun x=>decide (x.id=r)
theorem WY(g:ay)(hg:g.rs.length≤1000000)(r:Int):Contract Tryz.prog 164 [aH g,.d (.int .i64 r)] [] (.d (.bool (aY g.rs r))) [] []:=by
 refine aj Tryz.func164 rfl (fun E0=>?_);refine cO.sound (g:=.mk) (ow:=[]) (kp:=(fun k=>k==0||k==1||k==2||k==4||k==5||k==10||k==20)) ?_;rw[Tryz.ntmps164];simp -dsimp[aH]
 refine aN.of [] (fun k=>k==0||k==1||k==2||k==4||k==5||k==10||k==20) (ι:={i:Nat // i≤g.rs.length∧aY g.rs r=aY (g.rs.drop i) r}) (fun z=>[(Pl.s 0,It.v (.agg [TV.d (.sl (rts g.rs)),TV.d (.sl (dO g.ls))])),(Pl.s 1,It.v (.d (.int .i64 r))),(Pl.o 2,It.box [TV.d (.sl (rts g.rs)),TV.d (.sl (dO g.ls))]),(Pl.s 2,It.v (.ptr (Pl.o 2) 0)),(Pl.s 4,It.v (.d (.bool false))),(Pl.s 5,It.v (.d (.int .i64 z.1)))]) (fun z=>g.rs.length-z.1) ⟨0,by omega,rfl⟩ ?_ ?_
 ·exact GS.to (by simp)
 ·rintro⟨i,i1,i2⟩;by_cases hi:i<g.rs.length
  ·have hiz:(i:Int)<g.rs.length:=by omega
   have hx:g.rs[i]? = some g.rs[i]:=List.getElem?_eq_getElem hi;generalize g.rs[i]=x at hx;have hx':=fF hx;by_cases h:x.id=r
   ·simp -dsimp[hiz,hx',Rt.cs,eq_true h];and_intros;all_goals try first|rfl|omega|exact⟨by kernel_rfl⟩
    refine Fin.of ?_;simp[show aY g.rs r=true from Bo hx (by simp[h])]
   ·simp -dsimp[hiz,hx',Rt.cs,eq_false h,wrap_i64 (n:=(i:Int)+1) (by omega) (by omega)];and_intros;all_goals try first|rfl|omega|exact⟨by kernel_rfl⟩
    exact⟨⟨i+1,by omega,Cb hx i2 (by simp[h])⟩,GS.to (by simp[]),by simp;omega⟩
  ·have hiz :¬(i:Int)<g.rs.length:=by omega
   simp -dsimp[hiz];refine Fin.of ?_;simp[show aY g.rs r=false from F5 i2 hi]
theorem X4(n:Int):Contract Tryz.prog 170 [.d (.int .i64 n)] [] (.d (.bool (inB n 1 1000))) [] []:=by
 refine aj Tryz.func170 rfl (fun E0=>?_);refine cO.sound (g:=.mk) (ow:=[]) (kp:=(fun k=>k==0||k==2)) ?_;rw[Tryz.ntmps170];simp -dsimp;refine qM.dec (fun h=>?_) (fun h=>?_)
 ·simp -dsimp[eq_true h];refine Fin.of ?_;simp[inB,h]
 ·simp -dsimp[eq_false h];refine Fin.of ?_;simp[inB,h]
def Lk.bad(x:Lk):Bool:=!inB x.ca 1 1000 || !inB x.cb 1 1000 || !inB x.cap 0 1000
def jc:List (Bool×Int)→Int
 | []=>0
 | (c,e)::r=>bif c then e else jc r
def cZ(g:ay):Int:=jc [
 (decide (24<g.rs.length),3),(decide (60<g.ls.length),3),
 (g.rs.any fun x=>!inB x.id 1 99,2),
 (nO (fun x y=>decide (y.id≤x.id)) g.rs,25),
 (g.ls.any Lk.bad,2),
 (g.ls.any fun x=>!aY g.rs x.a || !aY g.rs x.b,4),
 (g.ls.any fun x=>decide (x.b≤x.a),8),
 (nO (fun x y=>decide (y.a<x.a)||decide (x.a=y.a)&&decide (y.b≤x.b)) g.ls,25)]
theorem oz(g:ay)(hg:g.rs.length≤1000000)(hl:g.ls.length≤1000000):Contract Tryz.prog 92 [aH g] [] (.d (.int .i64 (cZ g))) [] []:=by
 refine aj Tryz.func92 rfl (fun E0=>?_);refine cO.sound (g:=.mk) (ow:=[]) (kp:=(fun k=>k==0||k==1||k==2||k==3||k==4||k==5||k==6||k==7||k==8||k==9||k==10||k==11||k==21||k==26||k==44||k==49||k==65||k==70||k==97||k==102||k==124||k==129||k==144||k==149||k==181)) ?_;rw[Tryz.ntmps92];by_cases c1:24<g.rs.length
 ·have yw:(24:Int)<g.rs.length:=by omega
  simp -dsimp[aH,yw];refine Fin.of ?_;simp[cZ,jc,c1]
 by_cases c2:60<g.ls.length
 ·have yw :¬(24:Int)<g.rs.length:=by omega
  have c2z:(60:Int)<g.ls.length:=by omega
  simp -dsimp[aH,yw,c2z];refine Fin.of ?_;simp[cZ,jc,c1,c2]
 have yw :¬(24:Int)<g.rs.length:=by omega
 have c2z :¬(60:Int)<g.ls.length:=by omega
 simp -dsimp[aH,yw,c2z];clear yw c2z
 as_aux_lemma=>
 refine aN.of [] (fun k=>k==0||k==1||k==2||k==3||k==4||k==5||k==6||k==7||k==8||k==9||k==10||k==11||k==21||k==26||k==44||k==49||k==65||k==70||k==97||k==102||k==124||k==129||k==144||k==149||k==181) (ι:={i:Nat // i≤g.rs.length∧(g.rs.any fun x=>!inB x.id 1 99)=(g.rs.drop i).any fun x=>!inB x.id 1 99}) (fun z=>[(Pl.o 1,It.box [TV.d (.sl (rts g.rs)),TV.d (.sl (dO g.ls))]),(Pl.s 1,It.v (.ptr (Pl.o 1) 0)),(Pl.s 2,It.v (.d (.int .i64 0))),(Pl.s 3,It.v (.d (.int .i64 z.1)))]) (fun z=>g.rs.length-z.1) ⟨0,by omega,rfl⟩ ?_ ?_
 ·exact GS.to (by simp)
 ·rintro⟨i,i1,i2⟩;by_cases hi:i<g.rs.length
  ·have hiz:(i:Int)<g.rs.length:=by omega
   have hx:g.rs[i]? = some g.rs[i]:=List.getElem?_eq_getElem hi;generalize g.rs[i]=x at hx;have hx':=fF hx;by_cases a1:x.id<1
   ·simp -dsimp[hiz,hx',Rt.cs,a1];and_intros;all_goals try first|rfl|omega|exact⟨by kernel_rfl⟩
    refine Fin.of ?_;have e:(g.rs.any fun x=>!inB x.id 1 99)=true:=Bo hx (by simp[inB];omega);simp only[cZ,jc,cond_true,cond_false,decide_eq_false c1,decide_eq_false c2,e];simp
   by_cases a2:99<x.id
   ·simp -dsimp[hiz,hx',Rt.cs,a1,a2];and_intros;all_goals try first|rfl|omega|exact⟨by kernel_rfl⟩
    refine Fin.of ?_;have e:(g.rs.any fun x=>!inB x.id 1 99)=true:=Bo hx (by simp[inB];omega);simp only[cZ,jc,cond_true,cond_false,decide_eq_false c1,decide_eq_false c2,e];simp
   ·simp -dsimp[hiz,hx',Rt.cs,a1,a2,wrap_i64 (n:=(i:Int)+1) (by omega) (by omega)];and_intros;all_goals try first|rfl|omega|exact⟨by kernel_rfl⟩
    exact⟨⟨i+1,by omega,Cb hx i2 (by simp[inB];omega)⟩,GS.to (by simp[]),by simp;omega⟩
  have e1:=F5 i2 hi;have hiz :¬(i:Int)<g.rs.length:=by omega
  simp -dsimp[hiz]
  as_aux_lemma=>
  refine aN.of [] (fun k=>k==0||k==1||k==2||k==3||k==4||k==5||k==6||k==7||k==8||k==9||k==10||k==11||k==21||k==26||k==44||k==49||k==65||k==70||k==97||k==102||k==124||k==129||k==144||k==149||k==181) (ι:={i:Nat // i≤g.rs.length∧nO (fun x y=>decide (y.id≤x.id)) g.rs=nO (fun (x y:Rt)=>decide (y.id≤x.id)) (g.rs.drop i)}) (fun z=>[(Pl.o 1,It.box [TV.d (.sl (rts g.rs)),TV.d (.sl (dO g.ls))]),(Pl.s 1,It.v (.ptr (Pl.o 1) 0)),(Pl.s 2,It.v (.d (.int .i64 0))),(Pl.s 4,It.v (.d (.int .i64 ((z.1:Int)+1))))]) (fun z=>g.rs.length-z.1) ⟨0,by omega,rfl⟩ ?_ ?_
  ·exact GS.to (by simp)
  ·rintro⟨i,i1,i2⟩;by_cases hi:i+1<g.rs.length
   ·have hi0:i<g.rs.length:=by omega
    have hiz:(i:Int)+1<g.rs.length:=by omega
    have hx:g.rs[i]? = some g.rs[i]:=List.getElem?_eq_getElem hi0;have hy:g.rs[i+1]? = some g.rs[i+1]:=List.getElem?_eq_getElem hi;generalize g.rs[i]=x at hx;generalize g.rs[i+1]=y at hy;have hx':=fF hx;have hy':=fF hy;by_cases a1:y.id≤x.id
    ·simp -dsimp[hiz,hx',hy',Rt.cs,a1,gZ,wrap_i64 (n:=(i:Int)) (by omega) (by omega)];and_intros;all_goals try first|rfl|omega|exact⟨by kernel_rfl⟩
     refine Fin.of ?_;have e:=Jo hx hy i2 (by simpa using a1);simp only[cZ,jc,cond_true,cond_false,decide_eq_false c1,decide_eq_false c2,e1,e];simp
    ·simp -dsimp[hiz,hx',hy',Rt.cs,a1,gZ,wrap_i64 (n:=(i:Int)) (by omega) (by omega),wrap_i64 (n:=(i:Int)+1+1) (by omega) (by omega)];and_intros;all_goals try first|rfl|omega|exact⟨by kernel_rfl⟩
     exact⟨⟨i+1,by omega,EF hx hy i2 (by simpa using a1)⟩,GS.to (by simp[]),by simp;omega⟩
   have e2:=Jm i2 hi;have hiz :¬(i:Int)+1<g.rs.length:=by omega
   simp -dsimp[hiz]
   as_aux_lemma=>
   refine aN.of [] (fun k=>k==0||k==1||k==2||k==3||k==4||k==5||k==6||k==7||k==8||k==9||k==10||k==11||k==21||k==26||k==44||k==49||k==65||k==70||k==97||k==102||k==124||k==129||k==144||k==149||k==181) (ι:={i:Nat // i≤g.ls.length∧g.ls.any Lk.bad=(g.ls.drop i).any Lk.bad}) (fun z=>[(Pl.o 1,It.box [TV.d (.sl (rts g.rs)),TV.d (.sl (dO g.ls))]),(Pl.s 1,It.v (.ptr (Pl.o 1) 0)),(Pl.s 2,It.v (.d (.int .i64 0))),(Pl.s 5,It.v (.d (.int .i64 z.1)))]) (fun z=>g.ls.length-z.1) ⟨0,by omega,rfl⟩ ?_ ?_
   ·exact GS.to (by simp)
   ·rintro⟨i,i1,i2⟩;by_cases hi:i<g.ls.length
    ·have hiz:(i:Int)<g.ls.length:=by omega
     have hx:g.ls[i]? = some g.ls[i]:=List.getElem?_eq_getElem hi;generalize g.ls[i]=x at hx;have hx':=o8 hx;have hit:Lk.bad x=true→cZ g=2:=fun h=>by
      have e:=Bo hx h;simp only[cZ,jc,cond_true,cond_false,decide_eq_false c1,decide_eq_false c2,e1,e2,e]
     simp -dsimp[hiz,hx',Lk.cs];refine ah.of (X4 x.ca) [] 0 ?_;rcases (Bool.eq_false_or_eq_true (inB x.ca 1 1000)).symm with b1|b1
     ·simp -dsimp[hiz,hx',Lk.cs,b1];and_intros;all_goals try first|rfl|omega|exact⟨by kernel_rfl⟩
      refine Fin.of ?_;simp[hit (by simp[Lk.bad,b1])]
     simp -dsimp[hiz,hx',Lk.cs,b1];refine ah.of (X4 x.cb) [] 0 ?_;rcases (Bool.eq_false_or_eq_true (inB x.cb 1 1000)).symm with b2|b2
     ·simp -dsimp[hiz,hx',Lk.cs,b1,b2];and_intros;all_goals try first|rfl|omega|exact⟨by kernel_rfl⟩
      refine Fin.of ?_;simp[hit (by simp[Lk.bad,b2])]
     by_cases b3:x.cap<0
     ·simp -dsimp[hiz,hx',Lk.cs,b1,b2,b3];and_intros;all_goals try first|rfl|omega|exact⟨by kernel_rfl⟩
      refine Fin.of ?_;simp[hit (by simp[Lk.bad,inB,b1,b2];omega)]
     by_cases b4:1000<x.cap
     ·simp -dsimp[hiz,hx',Lk.cs,b1,b2,b3,b4];and_intros;all_goals try first|rfl|omega|exact⟨by kernel_rfl⟩
      refine Fin.of ?_;simp[hit (by simp[Lk.bad,inB,b1,b2];omega)]
     ·simp -dsimp[hiz,hx',Lk.cs,b1,b2,b3,b4,wrap_i64 (n:=(i:Int)+1) (by omega) (by omega)];and_intros;all_goals try first|rfl|omega|exact⟨by kernel_rfl⟩
      exact⟨⟨i+1,by omega,Cb hx i2 (by simp[Lk.bad,b1,b2];simp[inB];omega)⟩,GS.to (by simp[]),by simp;omega⟩
    have e3:=F5 i2 hi;have hiz :¬(i:Int)<g.ls.length:=by omega
    simp -dsimp[hiz]
    as_aux_lemma=>
    refine aN.of [] (fun k=>k==0||k==1||k==2||k==3||k==4||k==5||k==6||k==7||k==8||k==9||k==10||k==11||k==21||k==26||k==44||k==49||k==65||k==70||k==97||k==102||k==124||k==129||k==144||k==149||k==181) (ι:={i:Nat // i≤g.ls.length∧(g.ls.any fun x=>!aY g.rs x.a || !aY g.rs x.b)=(g.ls.drop i).any fun x=>!aY g.rs x.a || !aY g.rs x.b}) (fun z=>[(Pl.o 1,It.box [TV.d (.sl (rts g.rs)),TV.d (.sl (dO g.ls))]),(Pl.s 1,It.v (.ptr (Pl.o 1) 0)),(Pl.s 2,It.v (.d (.int .i64 0))),(Pl.s 7,It.v (.d (.int .i64 z.1)))]) (fun z=>g.ls.length-z.1) ⟨0,by omega,rfl⟩ ?_ ?_
    ·exact GS.to (by simp)
    ·rintro⟨i,i1,i2⟩;by_cases hi:i<g.ls.length
     ·have hiz:(i:Int)<g.ls.length:=by omega
      have hx:g.ls[i]? = some g.ls[i]:=List.getElem?_eq_getElem hi;generalize g.ls[i]=x at hx;have hx':=o8 hx;have hit:(!aY g.rs x.a || !aY g.rs x.b)=true→cZ g=4:=fun h=>by
       have e:=Bo (q:=fun x:Lk=>!aY g.rs x.a || !aY g.rs x.b) hx h;simp only[cZ,jc,cond_true,cond_false,decide_eq_false c1,decide_eq_false c2,e1,e2,e3,e]
      simp -dsimp[hiz,hx',Lk.cs];refine ah.of (WY g hg x.a) [] 0 ?_;rcases (Bool.eq_false_or_eq_true (aY g.rs x.a)).symm with b1|b1
      ·simp -dsimp[hiz,hx',Lk.cs,b1];and_intros;all_goals try first|rfl|omega|exact⟨by kernel_rfl⟩
       refine Fin.of ?_;simp[hit (by simp[b1])]
      simp -dsimp[hiz,hx',Lk.cs,b1,aH];refine ah.of (WY g hg x.b) [] 0 ?_;rcases (Bool.eq_false_or_eq_true (aY g.rs x.b)).symm with b2|b2
      ·simp -dsimp[hiz,hx',Lk.cs,b1,b2];and_intros;all_goals try first|rfl|omega|exact⟨by kernel_rfl⟩
       refine Fin.of ?_;simp[hit (by simp[b2])]
      ·simp -dsimp[hiz,hx',Lk.cs,b1,b2,wrap_i64 (n:=(i:Int)+1) (by omega) (by omega)];and_intros;all_goals try first|rfl|omega|exact⟨by kernel_rfl⟩
       exact⟨⟨i+1,by omega,Cb hx i2 (by simp[b1,b2])⟩,GS.to (by simp[]),by simp;omega⟩
     have e4:=F5 i2 hi;have hiz :¬(i:Int)<g.ls.length:=by omega
     simp -dsimp[hiz]
     as_aux_lemma=>
     refine aN.of [] (fun k=>k==0||k==1||k==2||k==3||k==4||k==5||k==6||k==7||k==8||k==9||k==10||k==11||k==21||k==26||k==44||k==49||k==65||k==70||k==97||k==102||k==124||k==129||k==144||k==149||k==181) (ι:={i:Nat // i≤g.ls.length∧(g.ls.any fun x=>decide (x.b≤x.a))=(g.ls.drop i).any fun x=>decide (x.b≤x.a)}) (fun z=>[(Pl.o 1,It.box [TV.d (.sl (rts g.rs)),TV.d (.sl (dO g.ls))]),(Pl.s 1,It.v (.ptr (Pl.o 1) 0)),(Pl.s 2,It.v (.d (.int .i64 0))),(Pl.s 8,It.v (.d (.int .i64 z.1)))]) (fun z=>g.ls.length-z.1) ⟨0,by omega,rfl⟩ ?_ ?_
     ·exact GS.to (by simp)
     ·rintro⟨i,i1,i2⟩;by_cases hi:i<g.ls.length
      ·have hiz:(i:Int)<g.ls.length:=by omega
       have hx:g.ls[i]? = some g.ls[i]:=List.getElem?_eq_getElem hi;generalize g.ls[i]=x at hx;have hx':=o8 hx;by_cases b1:x.b≤x.a
       ·simp -dsimp[hiz,hx',Lk.cs,b1];and_intros;all_goals try first|rfl|omega|exact⟨by kernel_rfl⟩
        refine Fin.of ?_;have e:=Bo (q:=fun x:Lk=>decide (x.b≤x.a)) hx (by simpa using b1);simp only[cZ,jc,cond_true,cond_false,decide_eq_false c1,decide_eq_false c2,e1,e2,e3,e4,e];simp
       ·simp -dsimp[hiz,hx',Lk.cs,b1,wrap_i64 (n:=(i:Int)+1) (by omega) (by omega)];and_intros;all_goals try first|rfl|omega|exact⟨by kernel_rfl⟩
        exact⟨⟨i+1,by omega,Cb hx i2 (by simpa using b1)⟩,GS.to (by simp[]),by simp;omega⟩
      have e5:=F5 i2 hi;have hiz :¬(i:Int)<g.ls.length:=by omega
      simp -dsimp[hiz]
      as_aux_lemma=>
      refine aN.of [] (fun k=>k==0||k==1||k==2||k==3||k==4||k==5||k==6||k==7||k==8||k==9||k==10||k==11||k==21||k==26||k==44||k==49||k==65||k==70||k==97||k==102||k==124||k==129||k==144||k==149||k==181) (ι:={i:Nat // i≤g.ls.length∧nO (fun x y=>decide (y.a<x.a)||decide (x.a=y.a)&&decide (y.b≤x.b)) g.ls=nO (fun (x y:Lk)=>decide (y.a<x.a)||decide (x.a=y.a)&&decide (y.b≤x.b)) (g.ls.drop i)}) (fun z=>[(Pl.o 1,It.box [TV.d (.sl (rts g.rs)),TV.d (.sl (dO g.ls))]),(Pl.s 1,It.v (.ptr (Pl.o 1) 0)),(Pl.s 2,It.v (.d (.int .i64 0))),(Pl.s 9,It.v (.d (.int .i64 ((z.1:Int)+1))))]) (fun z=>g.ls.length-z.1) ⟨0,by omega,rfl⟩ ?_ ?_
      ·exact GS.to (by simp)
      ·rintro⟨i,i1,i2⟩;by_cases hi:i+1<g.ls.length
       ·have hi0:i<g.ls.length:=by omega
        have hiz:(i:Int)+1<g.ls.length:=by omega
        have hx:g.ls[i]? = some g.ls[i]:=List.getElem?_eq_getElem hi0;have hy:g.ls[i+1]? = some g.ls[i+1]:=List.getElem?_eq_getElem hi;generalize g.ls[i]=x at hx;generalize g.ls[i+1]=y at hy;have hx':=o8 hx;have hy':=o8 hy;have hit:(decide (y.a<x.a)||decide (x.a=y.a)&&decide (y.b≤x.b))=true→cZ g=25:=fun h=>by
         have e:=Jo hx hy i2 h;simp only[cZ,jc,cond_true,cond_false,decide_eq_false c1,decide_eq_false c2,e1,e2,e3,e4,e5,e]
        have go:(decide (y.a<x.a)||decide (x.a=y.a)&&decide (y.b≤x.b))=false→nO (fun x y=>decide (y.a<x.a)||decide (x.a=y.a)&&decide (y.b≤x.b)) g.ls=nO (fun (x y:Lk)=>decide (y.a<x.a)||decide (x.a=y.a)&&decide (y.b≤x.b)) (g.ls.drop (i+1)):=fun h=>EF hx hy i2 h
        by_cases b1:y.a<x.a
        ·simp -dsimp[hiz,hx',hy',Lk.cs,b1,gZ,wrap_i64 (n:=(i:Int)) (by omega) (by omega)];and_intros;all_goals try first|rfl|omega|exact⟨by kernel_rfl⟩
         refine Fin.of ?_;simp[hit (by simp[b1])]
        by_cases b2:x.a=y.a
        ·by_cases b3:y.b≤x.b
         ·simp -dsimp[hiz,hx',hy',Lk.cs,b1,b2,b3,gZ,wrap_i64 (n:=(i:Int)) (by omega) (by omega)];and_intros;all_goals try first|rfl|omega|exact⟨by kernel_rfl⟩
          refine Fin.of ?_;simp[hit (by simp[b2,b3])]
         ·simp -dsimp[hiz,hx',hy',Lk.cs,b1,b2,b3,gZ,wrap_i64 (n:=(i:Int)) (by omega) (by omega),wrap_i64 (n:=(i:Int)+1+1) (by omega) (by omega)];and_intros;all_goals try first|rfl|omega|exact⟨by kernel_rfl⟩
          exact⟨⟨i+1,by omega,go (by simp[b1,b3])⟩,GS.to (by simp[]),by simp;omega⟩
        ·simp -dsimp[hiz,hx',hy',Lk.cs,b1,b2,gZ,wrap_i64 (n:=(i:Int)) (by omega) (by omega),wrap_i64 (n:=(i:Int)+1+1) (by omega) (by omega)];and_intros;all_goals try first|rfl|omega|exact⟨by kernel_rfl⟩
         exact⟨⟨i+1,by omega,go (by simp[b1,b2])⟩,GS.to (by simp[]),by simp;omega⟩
       have e6:=Jm i2 hi;have hiz :¬(i:Int)+1<g.ls.length:=by omega
       simp -dsimp[hiz];refine Fin.of ?_;simp only[cZ,jc,cond_true,cond_false,decide_eq_false c1,decide_eq_false c2,e1,e2,e3,e4,e5,e6];simp
end Go.Proofs

set_option maxRecDepth 100000
set_option maxHeartbeats 2000000
namespace Go.Proofs
open Go Go.Tr
structure ay.Sm(g:ay):Prop where
 r:g.rs.length≤1000000
 l:g.ls.length≤1000000
theorem sG(g:ay)(hg:g.Sm)(r:Int):Contract Tryz.prog 82 [aH g,.d (.int .i64 r)] [] (.d (.bool (decide (cZ g=0)&&aY g.rs r))) [] []:=by
 refine aj Tryz.func82 rfl (fun E0=>?_);refine cO.sound (g:=.mk) (ow:=[]) (kp:=(fun k=>k==0||k==1||k==2||k==4)) ?_;rw[Tryz.ntmps82];simp -dsimp[aH];refine ah.of (oz g hg.r hg.l) [] 0 ?_;by_cases h:cZ g=0
 ·simp -dsimp[eq_true h,aH];refine ah.of (WY g hg.r r) [] 0 ?_;simp -dsimp[eq_true h,aH];and_intros;all_goals try first|rfl|omega|exact⟨by kernel_rfl⟩
  refine Fin.of ?_;simp[h]
 ·simp -dsimp[eq_false h,aH];and_intros;all_goals try first|rfl|omega|exact⟨by kernel_rfl⟩
  refine Fin.of ?_;simp[h]
def O1(l:List Rt)(r:Int):Option Rt:=l.find? fun x=>decide (x.id=r)
def dY(l:List Rt)(r:Int):Bool:=((O1 l r).getD ⟨0,false⟩).cap
theorem xZ(g:ay)(hg:g.Sm)(r:Int):Contract Tryz.prog 48 [aH g,.d (.int .i64 r)] [] (.d (.bool (decide (cZ g=0)&&dY g.rs r))) [] []:=by
 have hr:=hg.r;refine aj Tryz.func48 rfl (fun E0=>?_);refine cO.sound (g:=.mk) (ow:=[]) (kp:=(fun k=>k==0||k==1||k==2||k==4||k==5||k==8||k==13||k==23)) ?_;rw[Tryz.ntmps48];simp -dsimp[aH];refine ah.of (oz g hg.r hg.l) [] 0 ?_;by_cases h:cZ g=0
 ·simp -dsimp[eq_true h,aH]
  refine aN.of [] (fun k=>k==0||k==1||k==2||k==4||k==5||k==8||k==13||k==23) (ι:={i:Nat // i≤g.rs.length∧O1 g.rs r=O1 (g.rs.drop i) r}) (fun z=>[(Pl.s 0,It.v (.agg [TV.d (.sl (rts g.rs)),TV.d (.sl (dO g.ls))])),(Pl.s 1,It.v (.d (.int .i64 r))),(Pl.o 2,It.box [TV.d (.sl (rts g.rs)),TV.d (.sl (dO g.ls))]),(Pl.s 2,It.v (.ptr (Pl.o 2) 0)),(Pl.s 4,It.v (.d (.bool false))),(Pl.s 5,It.v (.d (.int .i64 z.1)))]) (fun z=>g.rs.length-z.1) ⟨0,by omega,rfl⟩ ?_ ?_
  ·exact GS.to (by simp)
  ·rintro⟨i,i1,i2⟩;by_cases hi:i<g.rs.length
   ·have hiz:(i:Int)<g.rs.length:=by omega
    have hx:g.rs[i]? = some g.rs[i]:=List.getElem?_eq_getElem hi;generalize g.rs[i]=x at hx;have hx':=fF hx;by_cases a:x.id=r
    ·simp -dsimp[hiz,hx',Rt.cs,eq_true a];and_intros;all_goals try first|rfl|omega|exact⟨by kernel_rfl⟩
     refine Fin.of ?_;have e:O1 g.rs r=some x:=Rq hx i2 (by simp[a]);simp[h,dY,e]
    ·simp -dsimp[hiz,hx',Rt.cs,eq_false a,wrap_i64 (n:=(i:Int)+1) (by omega) (by omega)];and_intros;all_goals try first|rfl|omega|exact⟨by kernel_rfl⟩
     exact⟨⟨i+1,by omega,Ot hx i2 (by simp[a])⟩,GS.to (by simp[]),by simp;omega⟩
   ·have hiz :¬(i:Int)<g.rs.length:=by omega
    simp -dsimp[hiz];refine Fin.of ?_;have e:O1 g.rs r=none:=Ro i2 hi;simp[h,dY,e]
 ·simp -dsimp[eq_false h,aH];refine Fin.of ?_;simp[h]
def price:List Lk→Int→Int→Option Int
 | [],_,_=>none
 | x::l,f,t=>if x.a=f∧x.b=t then some x.ca else if x.b=f∧x.a=t then some x.cb else price l f t
def mO(o:Option Int):TV:=.rG [.d (.int .i64 (o.getD 0)),.d (.bool o.isSome)]
theorem yt(g:ay)(hg:g.Sm)(f t:Int):Contract Tryz.prog 47 [aH g,.d (.int .i64 f),.d (.int .i64 t)] [] (mO (price g.ls f t)) [] []:=by
 have hl:=hg.l;refine aj Tryz.func47 rfl (fun E0=>?_);refine cO.sound (g:=.mk) (ow:=[]) (kp:=(fun k=>k==0||k==1||k==2||k==3||k==6||k==7||k==8||k==9||k==14||k==31||k==43)) ?_;rw[Tryz.ntmps47];simp -dsimp[aH]
 refine aN.of [] (fun k=>k==0||k==1||k==2||k==3||k==6||k==7||k==8||k==9||k==14||k==31||k==43) (ι:={i:Nat // i≤g.ls.length∧price g.ls f t=price (g.ls.drop i) f t}) (fun z=>[(Pl.s 0,It.v (.agg [TV.d (.sl (rts g.rs)),TV.d (.sl (dO g.ls))])),(Pl.s 1,It.v (.d (.int .i64 f))),(Pl.s 2,It.v (.d (.int .i64 t))),(Pl.o 3,It.box [TV.d (.sl (rts g.rs)),TV.d (.sl (dO g.ls))]),(Pl.s 3,It.v (.ptr (Pl.o 3) 0)),(Pl.s 6,It.v (.d (.int .i64 0))),(Pl.s 7,It.v (.d (.bool false))),(Pl.s 8,It.v (.d (.int .i64 z.1)))]) (fun z=>g.ls.length-z.1) ⟨0,by omega,rfl⟩ ?_ ?_
 ·exact GS.to (by simp)
 ·rintro⟨i,i1,i2⟩;by_cases hi:i<g.ls.length
  ·have hiz:(i:Int)<g.ls.length:=by omega
   have hx:g.ls[i]? = some g.ls[i]:=List.getElem?_eq_getElem hi;have hd:g.ls.drop i=g.ls[i]::g.ls.drop (i+1):=List.drop_eq_getElem_cons hi;generalize g.ls[i]=x at hx hd;have hx':=o8 hx;rw[hd,price]at i2
   by_cases a1:x.a=f
   ·by_cases a2:x.b=t
    ·simp -dsimp[hiz,hx',Lk.cs,eq_true a1,eq_true a2];and_intros;all_goals try first|rfl|omega|exact⟨by kernel_rfl⟩
     refine Fin.of ?_;rw[if_pos ⟨a1,a2⟩]at i2
     simp[i2,mO]
    ·by_cases a3:x.b=f
     ·by_cases a4:x.a=t
      ·exfalso;omega
      ·simp -dsimp[hiz,hx',Lk.cs,eq_true a1,eq_false a2,eq_true a3,eq_false a4,wrap_i64 (n:=(i:Int)+1) (by omega) (by omega)];and_intros;all_goals try first|rfl|omega|exact⟨by kernel_rfl⟩
       exact⟨⟨i+1,by omega,by rw[i2,if_neg (by omega),if_neg (by omega)]⟩,GS.to (by simp[]),by simp;omega⟩
     ·simp -dsimp[hiz,hx',Lk.cs,eq_true a1,eq_false a2,eq_false a3,wrap_i64 (n:=(i:Int)+1) (by omega) (by omega)];and_intros;all_goals try first|rfl|omega|exact⟨by kernel_rfl⟩
      exact⟨⟨i+1,by omega,by rw[i2,if_neg (by omega),if_neg (by omega)]⟩,GS.to (by simp[]),by simp;omega⟩
   ·by_cases a3:x.b=f
    ·by_cases a4:x.a=t
     ·simp -dsimp[hiz,hx',Lk.cs,eq_false a1,eq_true a3,eq_true a4];and_intros;all_goals try first|rfl|omega|exact⟨by kernel_rfl⟩
      refine Fin.of ?_;rw[if_neg (by omega),if_pos ⟨a3,a4⟩]at i2
      simp[i2,mO]
     ·simp -dsimp[hiz,hx',Lk.cs,eq_false a1,eq_true a3,eq_false a4,wrap_i64 (n:=(i:Int)+1) (by omega) (by omega)];and_intros;all_goals try first|rfl|omega|exact⟨by kernel_rfl⟩
      exact⟨⟨i+1,by omega,by rw[i2,if_neg (by omega),if_neg (by omega)]⟩,GS.to (by simp[]),by simp;omega⟩
    ·simp -dsimp[hiz,hx',Lk.cs,eq_false a1,eq_false a3,wrap_i64 (n:=(i:Int)+1) (by omega) (by omega)];and_intros;all_goals try first|rfl|omega|exact⟨by kernel_rfl⟩
     exact⟨⟨i+1,by omega,by rw[i2,if_neg (by omega),if_neg (by omega)]⟩,GS.to (by simp[]),by simp;omega⟩
  ·have hiz :¬(i:Int)<g.ls.length:=by omega
   simp -dsimp[hiz];refine Fin.of ?_;rw[List.drop_eq_nil_of_le (by omega),price]at i2
   simp[i2,mO]
def near(g:ay)(r:Int):List Int:=(g.rs.filter fun x=>(price g.ls r x.id).isSome).map (·.id)
theorem afr(g:ay)(hg:g.Sm)(r:Int):Contract Tryz.prog 220 [aH g,.d (.int .i64 r)] [] (.d (ints (near g r))) [] []:=by
 have hl:=hg.r;refine aj Tryz.func220 rfl (fun E0=>?_);refine cO.sound (g:=.mk) (ow:=[]) (kp:=(fun k=>k==0||k==1||k==2||k==4||k==5||k==6||k==8||k==13||k==28)) ?_;rw[Tryz.ntmps220];simp -dsimp[aH]
 refine aN.of [] (fun k=>k==0||k==1||k==2||k==4||k==5||k==6||k==8||k==13||k==28) (ι:={i:Nat // i≤g.rs.length∧True}) (fun z=>[(Pl.s 0,It.v (.agg [TV.d (.sl (rts g.rs)),TV.d (.sl (dO g.ls))])),(Pl.s 1,It.v (.d (.int .i64 r))),(Pl.o 2,It.box [TV.d (.sl (rts g.rs)),TV.d (.sl (dO g.ls))]),(Pl.s 2,It.v (.ptr (Pl.o 2) 0)),(Pl.s 4,It.v (.c (Value.slice none 0 0))),(Pl.s 5,It.v (.aB 5 (near ⟨g.rs.take z.1,g.ls⟩ r).length)),(Pl.o 5,It.row 3 1 (dd (dJ .i64 (near ⟨g.rs.take z.1,g.ls⟩ r))) false),(Pl.s 6,It.v (.d (.int .i64 z.1)))]) (fun z=>g.rs.length-z.1) ⟨0,by omega,trivial⟩ ?_ ?_
 ·exact GS.own' (k:=5) 3 1 (by simp) (by simp) (by simp[ints,dJ,near])
 ·rintro⟨i,i1,i2⟩;by_cases hi:i<g.rs.length
  ·have hiz:(i:Int)<g.rs.length:=by omega
   have hx:g.rs[i]? = some g.rs[i]:=List.getElem?_eq_getElem hi;have ht:g.rs.take (i+1)=g.rs.take i++[g.rs[i]]:=by rw[List.take_add_one,List.getElem?_eq_getElem hi];rfl
   generalize g.rs[i]=x at hx ht;have hx':=fF hx;simp -dsimp[hiz,hx',Rt.cs,aH];refine ah.of (yt g hg r x.id) [] 0 ?_;have hn:(near ⟨g.rs.take i,g.ls⟩ r).length≤1000000:=by
    simp only[near,List.length_map];exact Nat.le_trans (List.length_filter_le _ _) (by simp;omega)
   have dl:dLen 1 ((near ⟨g.rs.take i,g.ls⟩ r).map fun x=>[D.int .i64 x]):=iF 1 _ _ fun _=>rfl
   rcases (Bool.eq_false_or_eq_true (price g.ls r x.id).isSome).symm with h|h
   ·simp -dsimp[hiz,hx',Rt.cs,aH,mO,h,wrap_i64 (n:=(i:Int)+1) (by omega) (by omega)];and_intros;all_goals try first|rfl|omega|exact⟨by kernel_rfl⟩
    exact⟨⟨i+1,by omega,trivial⟩,GS.to (by simp[near,ht,h]),by simp;omega⟩
   ·simp -dsimp[hiz,hx',Rt.cs,aH,mO,h,ints,wrap_i64 (n:=(i:Int)+1) (by omega) (by omega)];and_intros;all_goals try first|rfl|omega|exact⟨by kernel_rfl⟩
    exact⟨⟨i+1,by omega,trivial⟩,GS.to (by simp[near,ht,h,dJ]),by simp;omega⟩
  ·have hiz :¬(i:Int)<g.rs.length:=by omega
   simp -dsimp[hiz];refine Fin.view 4 ?_;simp -dsimp;refine Fin.of ?_;simp[List.take_of_length_le (show g.rs.length≤i by omega),ints,dJ]
end Go.Proofs
