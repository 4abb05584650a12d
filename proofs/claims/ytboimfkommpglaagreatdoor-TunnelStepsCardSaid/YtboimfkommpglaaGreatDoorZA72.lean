/-
  What functions of the program compute, stated as contracts over plain data; the conditions of each stand in its own statement.
-/
import Derived.Test.YtboimfkommpglaaGreatDoorZA28
import Derived.Test.YtboimfkommpglaaGreatDoorZA21
import Derived.Test.YtboimfkommpglaaGreatDoorZA29
import Derived.Test.YtboimfkommpglaaGreatDoorZA18
import Derived.Test.YtboimfkommpglaaGreatDoorZA71
import Derived.Test.YtboimfkommpglaaGreatDoorZA23
import Derived.Test.YtboimfkommpglaaGreatDoorZA22
import Derived.Test.YtboimfkommpglaaGreatDoorZA11
import Derived.Test.YtboimfkommpglaaGreatDoorZA27
import Derived.Test.YtboimfkommpglaaGreatDoorZA10
import Derived.Test.YtboimfkommpglaaGreatDoorZA14
import Derived.Test.YtboimfkommpglaaGreatDoorZA26
import Derived.Test.YtboimfkommpglaaGreatDoorZA19
import Derived.Test.YtboimfkommpglaaGreatDoorZA17
import Derived.LaidMore
import Derived.Stop.Joined
import Derived.SevenTiedAt
import Derived.JoinedOf
set_option linter.unusedSimpArgs false
set_option linter.unusedVariables false
set_option maxRecDepth 100000
set_option maxHeartbeats 8000000
namespace Go.Proofs
open Go Go.Tr
theorem IG(g:ay)(hg:cZ g=0)(h0:0<g.rs.length)(T:Tp):∀i:Nat,(l9 g.rs T i).2.Pairwise (· < ·)∧∀x∈(l9 g.rs T i).2,1≤x∧x≤99
 | 0=>by simp[l9]
 | i+1=>by
   obtain⟨h1,h2⟩:=IG g hg h0 T i;have v1:=aC (l9 g.rs T i).1 g.rs.length;have v2:=bg (l9 g.rs T i).1 (n:=g.rs.length) (by omega);simp only[l9];obtain⟨h3,h4⟩:=MK (rid g.rs (au (l9 g.rs T i).1 g.rs.length).1.toNat) h1;refine⟨h3,fun x hx=>?_⟩;rcases (h4 x).1 hx with hx|rfl
   ·exact h2 x hx
   ·have:=(aU hg).id (Xr (rs:=g.rs) (i:=(au (l9 g.rs T i).1 g.rs.length).1.toNat) (by omega));exact this
theorem Z9{r:Int}{L:List Int}(h:L.Pairwise (· < ·))(g:∀x∈L,1≤x∧x≤99):(flR r L).Pairwise (· < ·)∧(∀x∈flR r L,1≤x∧x≤99)∧r∉flR r L:=by
 refine⟨h.filter _,fun x hx=>g x (List.mem_filter.1 hx).1,fun hr=>?_⟩;have:=(List.mem_filter.1 hr).2;simp at this
theorem Uc{g:ay}(hg:cZ g=0)(h0:0<g.rs.length){r:Int}(hr:1≤r∧r≤99)(T:Tp):(zk g.rs r T).1.length≤24∧(zk g.rs r T).1.Pairwise (· < ·)∧(∀x∈(zk g.rs r T).1,1≤x∧x≤99)∧¬(1<(zk g.rs r T).1.length∧r∈(zk g.rs r T).1):=by
 unfold zk;simp only;split
 ·simp[hr]
 ·split
  ·simp
  ·have q1:=aC (au T 4).2 (2+1);have q2:=bg (au T 4).2 (n:=2+1) (by omega);have hl:=Fj g.rs (au (au T 4).2 (2+1)).2 (au (au T 4).2 (2+1)).1.toNat;obtain⟨h1,h2⟩:=IG g hg h0 (au (au T 4).2 (2+1)).2 (au (au T 4).2 (2+1)).1.toNat;obtain⟨a1,a2,a3⟩:=Z9 (r:=r) h1 h2;refine⟨?_,a1,a2,fun h=>a3 h.2⟩
   have:(flR r (l9 g.rs (au (au T 4).2 (2+1)).2 (au (au T 4).2 (2+1)).1.toNat).2).length≤_:=List.length_filter_le _ _
   show(flR r (l9 g.rs (au (au T 4).2 (2+1)).2 (au (au T 4).2 (2+1)).1.toNat).2).length≤24
   omega
theorem Wv{b:Tb}(h:chk b=0){j:Nat}{x:Rw}(hx:b.rows[j]? = some x){nx:List Int}(h1:nx.length≤24)(h2:nx.Pairwise (· < ·))(h3:∀y∈nx,1≤y∧y≤99)(h4 :¬(1<nx.length∧b.r∈nx)):chk ⟨b.r,b.sd,b.len,b.rows.set j ⟨x.id,nx⟩⟩ = 0:=by
 obtain⟨p1,p2,p3,p4⟩:=uN h;have hN:=yG h;have hA:=Ls h;have hxm:=List.mem_of_getElem? hx;have hM:∀y∈b.rows.set j ⟨x.id,nx⟩,y∈b.rows∨y=⟨x.id,nx⟩:=fun y hy=>List.mem_or_eq_of_mem_set hy
 have aiS:(b.rows.set j ⟨x.id,nx⟩).map (·.id)=b.rows.map (·.id):=by
  rw[List.map_set];refine List.ext_getElem? fun i=>?_
  rw[List.getElem?_set];split
  ·rename_i e;subst e;have hj:j<b.rows.length:=(List.getElem?_eq_some_iff.1 hx).1;rw[if_pos (by simpa using hj),List.getElem?_map,hx];rfl
  ·rfl
 refine Gf ⟨p1.1,p1.2.1,?_⟩ ?_ ?_ ?_ ⟨?_,fun y hy=>?_⟩ ?_
 ·simp only[List.length_set];exact p1.2.2
 ·rintro⟨y,hy,ho⟩;rcases hM y hy with hy|rfl
  ·rcases ho with ho|⟨z,hz,ho⟩
   ·exact ho (hN y hy).1
   ·exact ho ((hN y hy).2 z hz)
  ·rcases ho with ho|⟨z,hz,ho⟩
   ·exact ho (hN x hxm).1
   ·exact ho (h3 z hz)
 ·simp only[List.length_set];omega
 ·rintro⟨y,hy,hl⟩;rcases hM y hy with hy|rfl
  ·have:=p3 y hy;omega
  ·simp only at hl;omega
 ·simp only[aiS];exact hA.1
 ·rcases hM y hy with hy|rfl
  ·exact hA.2 y hy
  ·exact h2
 ·rintro⟨y,hy,hc⟩;rcases hM y hy with hy|rfl
  ·exact p4 y hy hc
  ·exact h4 hc
structure HY(g:ay)(p:Pn)(l:List Tb):Prop where
 rs:l.map (·.r)=(tabs g p g.rs).map (·.r)
 ck:∀b∈l,chk b=0
 sd:∀b∈l,b.sd=p.bF∧b.len=p.len
theorem HY.init{g:ay}(hg:cZ g=0){p:Pn}(hp:d_ p=true):HY g p (tabs g p g.rs):=⟨rfl,m_ hg hp,rW⟩
theorem HY.step{g:ay}(hg:cZ g=0)(h0:0<g.rs.length){p:Pn}{l:List Tb}(h:HY g p l)(T:Tp):HY g p (O7 g.rs l T).1.1:=by
 unfold O7;split
 ·exact h
 ·rename_i hl;have k1:=aC T l.length;have k2:=bg T (n:=l.length) (by omega);simp only;split
  ·exact h
  ·rename_i hr;obtain⟨k,hk⟩:∃k:Nat,(au T l.length).1=k:=⟨(au T l.length).1.toNat,by omega⟩
   simp only[hk,Int.toNat_natCast]at hr⊢;have hkl:k<l.length:=by omega
   have hgd:l.getD k tb0=l[k]:=by rw[List.getD_eq_getElem?_getD,List.getElem?_eq_getElem hkl];rfl
   rw[hgd]at hr⊢
   have hbm:l[k]∈l:=List.getElem_mem hkl;have hb:=h.ck _ hbm;have hsd:=h.sd _ hbm;obtain⟨b,hb0⟩:∃b,l[k]=b:=⟨_,rfl⟩
   rw[hb0]at hr hb hsd hbm⊢
   have j1:=aC (au T l.length).2 b.rows.length;have j2:=bg (au T l.length).2 (n:=b.rows.length) (by omega);obtain⟨j,hj⟩:∃j:Nat,(au (au T l.length).2 b.rows.length).1=j:=⟨(au (au T l.length).2 b.rows.length).1.toNat,by omega⟩
   simp only[hj,Int.toNat_natCast];have hjl:j<b.rows.length:=by omega
   have hx:b.rows[j]? = some b.rows[j]:=List.getElem?_eq_getElem hjl;have hxd:b.rows.getD j ⟨0,[]⟩ = b.rows[j]:=by rw[List.getD_eq_getElem?_getD,hx];rfl
   rw[hxd];obtain⟨s1,s2,s3,s4⟩:=Uc hg h0 (uN hb).1.1 (au (au T l.length).2 b.rows.length).2;have hnew:=Wv hb hx s1 s2 s3 s4;refine⟨?_,fun c hc=>?_,fun c hc=>?_⟩
   ·rw[←h.rs,List.map_set];refine List.ext_getElem? fun i=>?_
    rw[List.getElem?_set];split
    ·rename_i e;subst e;rw[if_pos (by simpa using hkl),List.getElem?_map,List.getElem?_eq_getElem hkl,hb0];rfl
    ·rfl
   ·rcases List.mem_or_eq_of_mem_set hc with hc|rfl
    ·exact h.ck c hc
    ·exact hnew
   ·rcases List.mem_or_eq_of_mem_set hc with hc|rfl
    ·exact h.sd c hc
    ·exact hsd
theorem HY.aga{g:ay}(hg:cZ g=0){p:Pn}{l:List Tb}(h:HY g p l):DN p ((tabs g p g.rs).map (·.r)) l:=by
 have hl:l.length≤24:=by
  have:=congrArg List.length h.rs;simp only[List.length_map]at this;rw[this];exact Nat.le_trans (oU g p) (aU hg).nr
 refine⟨DW hl h.ck ?_ fun b hb c hc=>?_,h.ck,h.sd,fun r=>?_,hl⟩
 ·have h1:=xH (aU hg) p;have h2:((tabs g p g.rs).map (·.r)).Pairwise (· < ·):=by rw[List.pairwise_map];exact h1
  rw[←h.rs,List.pairwise_map]at h2
  exact h2
 ·have h1:=h.sd b hb;have h2:=h.sd c hc;exact⟨h1.1.trans h2.1.symm,h1.2.trans h2.2.symm⟩
 ·rw[ny,h.rs]
def aaJ(rs:List Rt)(l:List Tb)(T:Tp):Nat→List Tb×Tp
 | 0=>(l,T)
 | i+1=>let s:=aaJ rs l T i;((O7 rs s.1 s.2).1.1,(O7 rs s.1 s.2).2)
@[simp]theorem SV(rs:List Rt)(l:List Tb)(T:Tp):∀i:Nat,dZ (aaJ rs l T i).2=dZ T
 | 0=>rfl
 | i+1=>by simp only[aaJ,Ud];exact SV rs l T i
structure NU(g:ay)(p:Pn)(l:List Tb):Prop where
 ok:cZ g=0
 cap:B_ g
 n:1≤g.rs.length∧g.rs.length≤7
 plan:d_ p=true
 len:p.len=0↔p.es = []
 val:p.len=0∨aG p.len=true
 bF:0≤p.bF∧p.bF≤2
 es:p.es.length≤7
 tab:HY g p l
@[simp]theorem aeV(T:Tp)(most:Int):dZ (aeU T most).2=dZ T:=by
 have e:(aeU T most).2=(Xi (Ak T most).flat (Ak T most).rs (Ak T most).M2 (Ak T most).T4 (Ak T most).n (Ak T most).n 0).2:=rfl;rw[e,SS];unfold Ak;simp
theorem NU.find{g:ay}{p:Pn}{l:List Tb}(h:NU g p l){b:Tb}(hb:b∈l):bH l b.r=some b:=by
 have h1:=xH (aU h.ok) p;have h2:((tabs g p g.rs).map (·.r)).Pairwise (· < ·):=by rw[List.pairwise_map];exact h1
 rw[←h.tab.rs,List.pairwise_map]at h2
 refine r_ hb (by simp) fun y hy e=>?_
 have e:y.r=b.r:=of_decide_eq_true e;obtain⟨i,hi,rfl⟩:=List.getElem_of_mem hb;obtain⟨j,hj,rfl⟩:=List.getElem_of_mem hy;have hp:=List.pairwise_iff_getElem.1 h2;rcases Nat.lt_trichotomy i j with hlt|rfl|hlt
 ·have:=hp i j hi hj hlt;omega
 ·rfl
 ·have:=hp j i hj hi hlt;omega
theorem NU.sm{g:ay}{p:Pn}{l:List Tb}(h:NU g p l):DL l:=(h.tab.aga h.ok).sm
theorem Xo{p:Pn}(hp:d_ p=true){e:Ed}(he:e∈p.es):1≤e.id∧e.id≤256:=by
 simp only[d_,decide_eq_true_eq]at hp;obtain⟨i,hi,rfl⟩:=List.getElem_of_mem he;have h3:=hp.2.1 i hi;simp only[LD,gid,Bool.and_eq_true]at h3;have h4:=h3.1;rw[List.getD_eq_getElem?_getD,List.getElem?_eq_getElem hi]at h4
 simpa[inB]using h4
theorem NU.one{g:ay}{p:Pn}{l:List Tb}(h:NU g p l){b:Tb}(hb:b∈l){e:Ed}(he:e∈p.es){en ttl:Int}(hn:0≤en∧en≤1023)(ht:0≤ttl∧ttl≤63):afu l b.r e.id en ttl=0:=by
 have hT:=h.tab.aga h.ok;have hsd:=h.tab.sd b hb;have hne:p.len≠0:=fun z=>by rw[h.len.1 z]at he;simp at he
 have hv:aG p.len=true:=h.val.resolve_left hne;have hid:=Xo h.plan he;have hs:=uH (id:=e.id) hv;unfold afu;rw[if_neg (by simp[hT.all]),h.find hb];simp only;rw[hsd.2,if_neg];have:inB e.id 1 256=true:=b_ hid;simp only[hv,this,Bool.and_self,Bool.true_eq_false,false_or];omega
set_option maxHeartbeats 16000000
def tyP:Ty:=.st [.int .i64,.int .i64,.int .i64,.int .i64,.int .i64,.int .i64,.int .i64,.int .i64,.int .u64,.str]
theorem aam{ds:List D}(h:tyP.has ds):∃p:Pk,ds=p.cs:=by
 simp only[tyP,Ty.has,Ty.hass]at h;obtain⟨_,_,rfl,⟨a,rfl,_⟩,_,_,rfl,⟨b,rfl,_⟩,_,_,rfl,⟨c,rfl,_⟩,_,_,rfl,⟨d,rfl,_⟩,_,_,rfl,⟨e,rfl,_⟩,_,_,rfl,⟨f,rfl,_⟩,_,_,rfl,⟨g,rfl,_⟩,_,_,rfl,⟨i,rfl,_⟩,_,_,rfl,⟨n,rfl,hw⟩,_,_,rfl,⟨s,rfl,_⟩,rfl⟩:=h;obtain⟨B,rfl⟩:=wf_u64 hw;exact⟨⟨a,b,c,d,e,f,g,i,B,s⟩,by simp[Pk.cs,bv]⟩
def tyF:Ty:=.st [.sl (.int .i64),.st [.int .i64,.int .i64,.int .i64,.int .i64,.int .i64,.int .i64,.int .i64,.int .i64,.int .u64,.str]]
theorem aal{ds:List D}(h:tyF.has ds):∃f:Fr,ds=vH f:=by
 unfold tyF at h;rw[Ty.has]at h
 obtain⟨a,b,rfl,ha,c,d,rfl,hc,hd⟩:=h;rw[Ty.hass]at hd
 subst hd;obtain⟨l,rfl,_⟩:=yQ ha;obtain⟨p,rfl⟩:=aam hc;exact⟨⟨l,p⟩,by simp[vH,ints]⟩
theorem Eh(g:ay)(l:List Tb)(r:Int)(f:Fr):(iZ g l r f).1.g_.length≤64∧∀c∈(iZ g l r f).1.g_,c.2.rt.length≤24:=by
 by_cases h:(iZ g l r f).2=0
 ·have e:eP g l (r,f)=(iZ g l r f).1.g_:=by unfold eP iD;simp[h]
  rw[←e];refine⟨yh g l _,?_⟩;by_cases hf:f.rt.length≤24
  ·exact SX (q:=(r,f)) hf
  ·have:frB f=false:=by simp[frB];omega
   simp[iZ,this]at h
 ·have e:(iZ g l r f).1=zn:=by
   unfold iZ at h⊢;split
   ·rfl
   ·split
    ·rfl
    ·rename_i a b;rw[if_neg a,if_neg b]at h
     cases hrt:f.rt with
     | cons n w=>rw[hrt]at h;simp at h
     | nil=>
       rw[hrt]at h
       simp only at h⊢;split
       ·rfl
       ·rename_i c hc;rw[hc]at h
        simp only at h;split
        ·rfl
        ·rename_i d;rw[if_neg d]at h
         simp at h
  rw[e];simp[zn]
theorem abm(L:List Int)(hL:∀x∈L,I64 x)(r0:Int)(F0:Fr):Contract Tryz.prog 4 [.d (ints L),.d (.int .i64 r0),xK F0] [] (.d (.bool true)) [] []:=by
 refine aj Tryz.func4 rfl (fun E0=>?_);refine cO.sound (g:=.mk) (ow:=[]) (kp:=(fun k=>k==0||k==1||k==2||k==5||k==6||k==7||k==8||k==9||k==10||k==11||k==12||k==13||k==14||k==15||k==16||k==17||k==18||k==19||k==20||k==21||k==36||k==42||k==46||k==53||k==67||k==100||k==104)) ?_;rw[Tryz.ntmps4];simp -dsimp[ints,xK,vH,Pk.cs];refine ah.of (new_c L) [] 3000 ?_;simp -dsimp[ints]
 have kT:ak (L.take 600,0):=Dx L hL;generalize (L.take 600,0)=T0 at kT⊢;try refine⟨rfl,?_⟩
 refine ah.of (CG T0 kT 6 (by omega)) [.o 3010] 4000 ?_;have Am:=eF T0 (most:=6) (by omega);obtain⟨d1,d2,d3,d4,d5,d6,d7⟩:=wQ T0 (most:=6) (by omega);have kD:ak (bD T0 6).2.2.2:=d1.symm▸kT;clear d1;generalize bD T0 6=D0 at Am d2 d3 d4 d5 d6 d7 kD⊢;obtain⟨g,p,X,T1⟩:=D0;simp only at Am d2 d3 d4 d5 d6 d7 kD⊢;have hX:=Am.tab;have h0:=Am.top.ok
 have hp:=Am.plan;have hlen:=Am.len;have hl0:p.len≠0:=fun e=>by rw[e]at hlen;simp[aG]at hlen
 have hlI:I64 p.len:=by simp[aG]at hlen;unfold I64;omega
 simp -dsimp[aH,bI];try and_intros
 all_goals try first|rfl|omega|exact⟨by kernel_rfl⟩
 refine ah.of (Ih T1 kD p (by omega) hl0 hlI) [.o 3010] 0 ?_;have kF:ak (mM T1 p).2:=by rw[yM];exact kD
 have WX:=ug T1 Am.bF Am.len;generalize mM T1 p=F at kF WX⊢;obtain⟨q,T2⟩:=F;simp only at kF WX⊢;simp only[dX,Pk.cs,List.map];simp -dsimp[bI];try and_intros
 all_goals try first|rfl|omega|exact⟨by kernel_rfl⟩
 refine ah.of (bn T2 kF 2 ⟨by omega,by omega⟩) [.o 3010] 0 ?_;have k3:ak (au T2 2).2:=by rw[dP];exact kF
 generalize au T2 2=B at k3⊢;obtain⟨b,T3⟩:=B;simp only at k3⊢;simp -dsimp[aH];and_intros;all_goals try first|rfl|omega|exact⟨by kernel_rfl⟩
 obtain⟨v,hv⟩:∃v,v=TV.c (Value.slice none 0 0):=⟨_,rfl⟩
 apply Sz (H:=fun (v:TV) (T:Tp)=>(v=TV.c (Value.slice none 0 0)∨∃rt:List Int,rt.length≤29∧v=TV.d (.sl (rt.map fun n=>[D.int .i64 n])))∧ak T)
 case a=>
  intro J;refine⟨fun _=>?_,fun _=>?_⟩
  ·simp -dsimp[aH];and_intros;all_goals try first|rfl|omega|exact⟨by kernel_rfl⟩
   refine ah.of (L8 T3 k3 0 ⟨by omega,by omega⟩ ⟨by omega,by omega⟩) [.o 3010] 0 ?_;have kW:ak (qc T3 0).2:=by rw[EU];exact k3
   have lW:=RH T3 0;generalize qc T3 0=W at kW lW⊢;obtain⟨f,T4⟩:=W;simp only at kW lW⊢;simp -dsimp[xK,vH,ints,Pk.cs];and_intros;all_goals try first|rfl|omega|exact⟨by kernel_rfl⟩
   obtain⟨v',hv'⟩:∃v',v'=TV.d (.sl (f.rt.map fun n=>[D.int .i64 n])):=⟨_,rfl⟩
   rw[←hv'];exact J v' T4 ⟨.inr ⟨f.rt,lW,hv'⟩,kW⟩
  ·simp -dsimp[aH];and_intros;all_goals try first|rfl|omega|exact⟨by kernel_rfl⟩
   rw[←hv];exact J v T3 ⟨.inl hv,k3⟩
 case b=>
 rintro v T4 ⟨hv,k4⟩;refine ah.of (gK T4 k4 8 ⟨by omega,by omega⟩ ⟨by omega,by omega⟩) [.o 3010] 0 ?_;have k5:ak (dD T4 8).2:=by simpa using k4
 generalize dD T4 8=B at k5⊢;obtain⟨u,T5⟩:=B;simp only at k5⊢;simp -dsimp[aH];and_intros;all_goals try first|rfl|omega|exact⟨by kernel_rfl⟩
 apply akQ (H:=fun (v:TV) (q:Pk) (T:Tp)=>(v=TV.c (Value.slice none 0 0)∨∃rt:List Int,rt.length≤29∧v=TV.d (.sl (rt.map fun n=>[D.int .i64 n])))∧ak T)
 case a=>
  intro J;refine⟨fun _=>?_,fun _=>?_⟩
  ·simp -dsimp[aH];and_intros;all_goals try first|rfl|omega|exact⟨by kernel_rfl⟩
   refine ah.of (L8 T5 k5 2 ⟨by omega,by omega⟩ ⟨by omega,by omega⟩) [.o 3010] 0 ?_;have kW:ak (qc T5 2).2:=by rw[EU];exact k5
   have lW:=RH T5 2;generalize qc T5 2=W at kW lW⊢;obtain⟨f,T6⟩:=W;simp only at kW lW⊢;simp -dsimp[xK,vH,ints,Pk.cs];and_intros;all_goals try first|rfl|omega|exact⟨by kernel_rfl⟩
   obtain⟨rt,q'⟩:=f;simp only at lW⊢;obtain⟨v',hv'⟩:∃v',v'=TV.d (.sl (rt.map fun n=>[D.int .i64 n])):=⟨_,rfl⟩
   rw[←hv'];exact J v' q' T6 ⟨.inr ⟨rt,lW,hv'⟩,kW⟩
  ·simp -dsimp[aH];and_intros;all_goals try first|rfl|omega|exact⟨by kernel_rfl⟩
   exact J v q T5 ⟨hv,k5⟩
 case b=>
 clear WX;rintro v q T6 ⟨hv,k6⟩;refine ah.of (gK T6 k6 5 ⟨by omega,by omega⟩ ⟨by omega,by omega⟩) [.o 3010] 0 ?_;have k7:ak (dD T6 5).2:=by simpa using k6
 generalize dD T6 5=B at k7⊢;obtain⟨u,T7⟩:=B;simp only at k7⊢;simp -dsimp[aH];and_intros;all_goals try first|rfl|omega|exact⟨by kernel_rfl⟩
 apply Sz (H:=fun (g:ay) (T:Tp)=>g.Sm∧g.rs.length≤1000∧ak T)
 case a=>
  intro J;refine⟨fun _=>?_,fun _=>?_⟩
  ·simp -dsimp[aH];and_intros;all_goals try first|rfl|omega|exact⟨by kernel_rfl⟩
   have v1:=zL T7 g;have kG:ak (jh T7 g).2:=by rw[BK];exact k7
   refine ah.of (zI T7 k7 g d5) [.o 3010] 0 ?_;generalize jh T7 g=FF at v1 kG⊢;obtain⟨f,T8⟩:=FF;simp only at v1 kG⊢;simp -dsimp[aH,rM];and_intros;all_goals try first|rfl|omega|exact⟨by kernel_rfl⟩
   have hW:=BZ g d5 f (by omega) (by omega);simp only[aH,rM]at hW;refine ah.of hW [] 0 ?_;have g0:=FV h0 f.1 f.2;generalize xJ g f.1 f.2=g' at g0;have hs:=(aU g0).sm;have hrn:=(aU g0).nr;simp -dsimp[aH];and_intros;all_goals try first|rfl|omega|exact⟨by kernel_rfl⟩
   exact J g' T8 ⟨hs,by omega,kG⟩
  ·simp -dsimp[aH];and_intros;all_goals try first|rfl|omega|exact⟨by kernel_rfl⟩
   exact J g T7 ⟨d5,by omega,k7⟩
 case b=>
 clear Am d2 d3 d4 d5 hX h0;rintro g T8 ⟨d5,hrn,k8⟩;refine ah.of (gK T8 k8 8 ⟨by omega,by omega⟩ ⟨by omega,by omega⟩) [.o 3010] 0 ?_;have k9:ak (dD T8 8).2:=by simpa using k8
 generalize dD T8 8=B at k9⊢;obtain⟨u,T9⟩:=B;simp only at k9⊢;simp -dsimp[aH];and_intros;all_goals try first|rfl|omega|exact⟨by kernel_rfl⟩
 apply Sz (H:=fun (l:List Tb) (T:Tp)=>DL l∧ak T)
 case a=>
  intro J;refine⟨fun _=>?_,fun _=>?_⟩
  ·simp -dsimp[aH];and_intros;all_goals try first|rfl|omega|exact⟨by kernel_rfl⟩
   refine ah.of (ahH T9 k9 2 ⟨by omega,by omega⟩) [.o 3010] 0 ?_;have kW:ak (gTab T9 2).2:=by rw[acX];exact k9
   have sW:=ahb T9 2;generalize gTab T9 2=W at kW sW⊢;obtain⟨b,T10⟩:=W;simp only at kW sW⊢;obtain⟨Y,hY⟩:∃Y,Y=X++[b]:=⟨_,rfl⟩
   have e1:X.length+1=Y.length:=by simp[hY]
   have e2:dd (oq X)++[[TV.d (.int .i64 b.r),TV.d (.int .i64 b.sd),TV.d (.int .i64 b.len),TV.d (bV b.rows)]]=dd (oq Y):=by simp[hY,oq,dd,Tb.cs]
   have sY:DL Y:=⟨by rw[←e1];omega,fun c hc=>by
    rw[hY]at hc
    rcases List.mem_append.1 hc with hc|hc
    ·exact d7.2 c hc
    ·obtain rfl:=List.mem_singleton.1 hc;exact sW⟩
   clear hY;simp -dsimp[bZ,e1];and_intros;all_goals try first|rfl|omega|exact⟨by kernel_rfl⟩
   rw[e2];exact J Y T10 ⟨sY,kW⟩
  ·simp -dsimp[aH];and_intros;all_goals try first|rfl|omega|exact⟨by kernel_rfl⟩
   exact J X T9 ⟨d7,k9⟩
 case b=>
 rintro l T10 ⟨hl,k10⟩;refine ah.of (TR T10 k10 0 7 (by omega)) [.o 3010] 0 ?_;have kA:ak (aT T10 0 7).2:=by simpa using k10
 generalize aT T10 0 7=B at kA⊢;obtain⟨r1,T11⟩:=B;simp only at kA⊢;simp -dsimp[aH];and_intros;all_goals try first|rfl|omega|exact⟨by kernel_rfl⟩
 refine ah.of (BR T11 kA g.rs g.ls (by omega)) [.o 3010] 0 ?_;generalize ql T11 g.rs=A;obtain⟨r2,T12⟩:=A;simp only;simp -dsimp;and_intros;all_goals try first|rfl|omega|exact⟨by kernel_rfl⟩
 obtain⟨R,hR⟩:∃R:List Int,R = [r0,r1,r2]:=⟨_,rfl⟩
 have hRl:R.length=3:=by simp[hR]
 rcases hv with rfl|⟨rt,hrt,rfl⟩
 ·as_aux_lemma=>
   refine aN.of [] (fun k=>k==0||k==1||k==2||k==5||k==6||k==7||k==8||k==9||k==10||k==11||k==12||k==13||k==14||k==15||k==16||k==17||k==18||k==19||k==20||k==21||k==36||k==42||k==46||k==53||k==67||k==100||k==104) (ι:={j:Nat // j≤3})
    (fun z=>[(Pl.s 1,It.v (.d (.int .i64 r0))),(Pl.o 5,It.box ((vH F0).map .d)),(Pl.s 5,It.v (.ptr (.o 5) 0)),(Pl.o 8,It.box [TV.d (.sl (rts g.rs)),TV.d (.sl (dO g.ls))]),(Pl.s 8,It.v (.ptr (.o 8) 0)),(Pl.s 10,It.v (.d (.sl (oq l)))),(Pl.o 11,It.box ((vH ⟨([]:List Int),q⟩).map .d)),(Pl.s 11,It.v (.ptr (.o 11) 0)),(Pl.s 12,It.v (.d (ints R))),(Pl.s 13,It.v (.d (.int .i64 z.1)))])
    (fun z=>3-z.1) ⟨0,by omega⟩ ?_ ?_
   ·trace_state
    refine(GS.J9 (l':=[(Pl.s 1,It.v (.d (.int .i64 r0))),(Pl.o 5,It.box ((vH F0).map .d)),(Pl.s 5,It.v (.ptr (.o 5) 0)),(Pl.o 8,It.box [TV.d (.sl (rts g.rs)),TV.d (.sl (dO g.ls))]),(Pl.s 8,It.v (.ptr (.o 8) 0)),(Pl.s 10,It.v (.d (.sl (oq l)))),(Pl.o 11,It.box (TV.c (Value.slice none 0 0)::q.cs.map .d)),(Pl.s 11,It.v (.ptr (.o 11) 0)),(Pl.s 12,It.v (.d (ints R))),(Pl.s 13,It.v (.d (.int .i64 0)))]) 10 (by simp[vH,Pk.cs,ints,hR])).trans ?_
    exact GS.ajj (.o 11) rfl (by simp[vH,Pk.cs,ints,hR])
   rintro⟨j,j1⟩;by_cases hj:j<3
   ·have hjz:(j:Int)<3:=by omega
    obtain⟨x,hx⟩:∃x,R[j]? = some x:=⟨_,List.getElem?_eq_getElem (by omega)⟩
    have hfl:(⟨([]:List Int),q⟩:Fr).rt.length≤100000:=by simp;try omega
    have h1:=NJ g d5 l hl x ⟨([]:List Int),q⟩ hfl;have h2:=FK g d5 l hl x ⟨([]:List Int),q⟩ hfl;obtain⟨s1,s2⟩:=Eh g l x ⟨([]:List Int),q⟩;generalize iZ g l x ⟨([]:List Int),q⟩ = U at h1 h2 s1 s2;obtain⟨U,e⟩:=U;simp only at s1 s2;have h3:=Qy U (by omega) (fun c hc=>by have:=s2 c hc;omega);simp only[aH,xK,vH,ints,Pk.cs,List.map,nD,bv]at h1 h2 h3
    have w1:IntKind.i64.wrap ((j:Int)+1)=(j:Int)+1:=wrap_i64 (by omega) (by omega);simp -dsimp[hjz,hx,vH,Pk.cs,ints,bv];and_intros;all_goals try first|rfl|omega|exact⟨by kernel_rfl⟩
    refine ah.of h1 [] 0 ?_;simp -dsimp[hx,vH,Pk.cs,ints,bv];and_intros;all_goals try first|rfl|omega|exact⟨by kernel_rfl⟩
    refine ah.of h2 [] 0 ?_;simp -dsimp[bv];and_intros;all_goals try first|rfl|omega|exact⟨by kernel_rfl⟩
    refine ah.of h3 [] 0 ?_;simp -dsimp[w1];and_intros;all_goals try first|rfl|omega|exact⟨by kernel_rfl⟩
    exact⟨⟨j+1,by omega⟩,GS.to (by simp[vH,Pk.cs,bv,ints]),by simp;omega⟩
   have hjz :¬(j:Int)<3:=by omega
   by_cases hF:(60:Int)<F0.rt.length
   ·simp -dsimp[hjz,vH,ints,hF,Pk.cs];and_intros;all_goals try first|rfl|omega|exact⟨by kernel_rfl⟩
    refine ah.of mg [] 0 ?_;simp -dsimp;and_intros;all_goals try first|rfl|omega|exact⟨by kernel_rfl⟩
    refine Fin.of ?_;simp
   ·have hfl:F0.rt.length≤100000:=by omega
    have h1:=NJ g d5 l hl r0 F0 hfl;have h2:=FK g d5 l hl r0 F0 hfl;obtain⟨s1,s2⟩:=Eh g l r0 F0;generalize iZ g l r0 F0=U at h1 h2 s1 s2;obtain⟨U,e⟩:=U;simp only at s1 s2;have h3:=Qy U (by omega) (fun c hc=>by have:=s2 c hc;omega);simp only[aH,xK,vH,ints,Pk.cs,List.map,nD,bv]at h1 h2 h3;simp -dsimp[hjz,vH,ints,hF,Pk.cs,bv];and_intros
    all_goals try first|rfl|omega|exact⟨by kernel_rfl⟩
    refine ah.of h1 [] 0 ?_;simp -dsimp[vH,Pk.cs,ints,bv];and_intros;all_goals try first|rfl|omega|exact⟨by kernel_rfl⟩
    refine ah.of h2 [] 0 ?_;simp -dsimp[bv];and_intros;all_goals try first|rfl|omega|exact⟨by kernel_rfl⟩
    refine ah.of h3 [] 0 ?_;simp -dsimp;and_intros;all_goals try first|rfl|omega|exact⟨by kernel_rfl⟩
    refine ah.of mg [] 0 ?_;simp -dsimp;and_intros;all_goals try first|rfl|omega|exact⟨by kernel_rfl⟩
    refine Fin.of ?_;simp
 ·as_aux_lemma=>
   refine aN.of [] (fun k=>k==0||k==1||k==2||k==5||k==6||k==7||k==8||k==9||k==10||k==11||k==12||k==13||k==14||k==15||k==16||k==17||k==18||k==19||k==20||k==21||k==36||k==42||k==46||k==53||k==67||k==100||k==104) (ι:={j:Nat // j≤3})
    (fun z=>[(Pl.s 1,It.v (.d (.int .i64 r0))),(Pl.o 5,It.box ((vH F0).map .d)),(Pl.s 5,It.v (.ptr (.o 5) 0)),(Pl.o 8,It.box [TV.d (.sl (rts g.rs)),TV.d (.sl (dO g.ls))]),(Pl.s 8,It.v (.ptr (.o 8) 0)),(Pl.s 10,It.v (.d (.sl (oq l)))),(Pl.o 11,It.box ((vH ⟨rt,q⟩).map .d)),(Pl.s 11,It.v (.ptr (.o 11) 0)),(Pl.s 12,It.v (.d (ints R))),(Pl.s 13,It.v (.d (.int .i64 z.1)))])
    (fun z=>3-z.1) ⟨0,by omega⟩ ?_ ?_
   ·exact GS.J9 10 (by simp[vH,Pk.cs,ints,hR])
   rintro⟨j,j1⟩;by_cases hj:j<3
   ·have hjz:(j:Int)<3:=by omega
    obtain⟨x,hx⟩:∃x,R[j]? = some x:=⟨_,List.getElem?_eq_getElem (by omega)⟩
    have hfl:(⟨rt,q⟩:Fr).rt.length≤100000:=by simp;try omega
    have h1:=NJ g d5 l hl x ⟨rt,q⟩ hfl;have h2:=FK g d5 l hl x ⟨rt,q⟩ hfl;obtain⟨s1,s2⟩:=Eh g l x ⟨rt,q⟩;generalize iZ g l x ⟨rt,q⟩ = U at h1 h2 s1 s2;obtain⟨U,e⟩:=U;simp only at s1 s2;have h3:=Qy U (by omega) (fun c hc=>by have:=s2 c hc;omega);simp only[aH,xK,vH,ints,Pk.cs,List.map,nD,bv]at h1 h2 h3
    have w1:IntKind.i64.wrap ((j:Int)+1)=(j:Int)+1:=wrap_i64 (by omega) (by omega);simp -dsimp[hjz,hx,vH,Pk.cs,ints,bv];and_intros;all_goals try first|rfl|omega|exact⟨by kernel_rfl⟩
    refine ah.of h1 [] 0 ?_;simp -dsimp[hx,vH,Pk.cs,ints,bv];and_intros;all_goals try first|rfl|omega|exact⟨by kernel_rfl⟩
    refine ah.of h2 [] 0 ?_;simp -dsimp[bv];and_intros;all_goals try first|rfl|omega|exact⟨by kernel_rfl⟩
    refine ah.of h3 [] 0 ?_;simp -dsimp[w1];and_intros;all_goals try first|rfl|omega|exact⟨by kernel_rfl⟩
    exact⟨⟨j+1,by omega⟩,GS.to (by simp[vH,Pk.cs,bv,ints]),by simp;omega⟩
   have hjz :¬(j:Int)<3:=by omega
   by_cases hF:(60:Int)<F0.rt.length
   ·simp -dsimp[hjz,vH,ints,hF,Pk.cs];and_intros;all_goals try first|rfl|omega|exact⟨by kernel_rfl⟩
    refine ah.of mg [] 0 ?_;simp -dsimp;and_intros;all_goals try first|rfl|omega|exact⟨by kernel_rfl⟩
    refine Fin.of ?_;simp
   ·have hfl:F0.rt.length≤100000:=by omega
    have h1:=NJ g d5 l hl r0 F0 hfl;have h2:=FK g d5 l hl r0 F0 hfl;obtain⟨s1,s2⟩:=Eh g l r0 F0;generalize iZ g l r0 F0=U at h1 h2 s1 s2;obtain⟨U,e⟩:=U;simp only at s1 s2;have h3:=Qy U (by omega) (fun c hc=>by have:=s2 c hc;omega);simp only[aH,xK,vH,ints,Pk.cs,List.map,nD,bv]at h1 h2 h3;simp -dsimp[hjz,vH,ints,hF,Pk.cs,bv];and_intros
    all_goals try first|rfl|omega|exact⟨by kernel_rfl⟩
    refine ah.of h1 [] 0 ?_;simp -dsimp[vH,Pk.cs,ints,bv];and_intros;all_goals try first|rfl|omega|exact⟨by kernel_rfl⟩
    refine ah.of h2 [] 0 ?_;simp -dsimp[bv];and_intros;all_goals try first|rfl|omega|exact⟨by kernel_rfl⟩
    refine ah.of h3 [] 0 ?_;simp -dsimp;and_intros;all_goals try first|rfl|omega|exact⟨by kernel_rfl⟩
    refine ah.of mg [] 0 ?_;simp -dsimp;and_intros;all_goals try first|rfl|omega|exact⟨by kernel_rfl⟩
    refine Fin.of ?_;simp
end Go.Proofs

namespace Go.Proofs.YtboimfkommpglaaGreatDoor.tunnelSteps
open Go
theorem j10:(Rows.tunnelStepsRow.inPlace==Tryz.prog.inPlace 4)=true:=by kernel_rfl
theorem j11:(Rows.tunnelStepsRow.unfollowed==Tryz.prog.unfollowed 4)=true:=by kernel_rfl
theorem j12:(Rows.tunnelStepsRow.recurses==Tryz.prog.recurses 4)=true:=by kernel_rfl
theorem j13:(Rows.tunnelStepsRow.named==Tryz.prog.varsNamed 4)=true:=by kernel_rfl
theorem j23:(Rows.tunnelStepsRow.plainKeys==Tryz.prog.plainKeys)=true:=by kernel_rfl
theorem j27:(Rows.tunnelStepsRow.lifted==Tryz.prog.liftsFinal)=true:=by kernel_rfl
theorem j28:(Tryz.prog.make==some Rows.tunnelStepsRow.make)=true:=by kernel_rfl
theorem goes:false=Rows.tunnelStepsRow.goesBy Tryz.prog:=by kernel_rfl
theorem VB : Tryz.prog.funcNamed "bitcast/bitcastlaw16.TunnelSteps" = some 4 := by kernel_rfl
set_option maxRecDepth 100000 in
theorem closed:joinedFacts Tryz.prog 4 Tryz.f4 Rows.tunnelStepsSpec Rows.tunnelStepsRow=true:=by
 delta joinedFacts
 exact(cf.bK (cf.bK (cf.bK (cf.bK (cf.bK (cf.bK (cf.bK (cf.bK (cf.bK (cf.bK (cf.bK (cf.bK (cf.bK (cf.bK (cf.bK (cf.bK (cf.bK (cf.bK (cf.bK (cf.bK (cf.bK (cf.bK (cf.bK (cf.bK (cf.bK (cf.bK (cf.bK (cf.bK (cf.bK (cf.bK (cf.bK (by kernel_rfl) cf.laidOut) cf.rowed) (by kernel_rfl)) (by kernel_rfl)) (by kernel_rfl)) (by kernel_rfl)) (by kernel_rfl)) (by kernel_rfl)) j10) j11) j12) j13) (by kernel_rfl)) (by kernel_rfl)) (by kernel_rfl)) (by kernel_rfl)) (by kernel_rfl)) (by kernel_rfl)) (by kernel_rfl)) (by kernel_rfl)) (by kernel_rfl)) j23) (by kernel_rfl)) cf.heard) cf.may) j27) j28) (by kernel_rfl)) (by kernel_rfl)) (by kernel_rfl)) (by kernel_rfl))
theorem inst:Tryz.f4.isInstance Tryz.prog Rows.tunnelStepsRow.origin Rows.tunnelStepsRow.targs:=of_decide_eq_true (by kernel_rfl)
theorem wrap:Tryz.f4.isWrapper Tryz.prog Rows.tunnelStepsRow.wrapper Rows.tunnelStepsRow.mainSum:=by unfold Func.isWrapper;first|(rw[if_pos (by decide+kernel)];kernel_rfl)|(rw[if_neg (by decide+kernel)];exact⟨rfl,rfl⟩)
end Go.Proofs.YtboimfkommpglaaGreatDoor.tunnelSteps
