/-
  What functions of the program compute, stated as contracts over plain data; the conditions of each stand in its own statement.
-/
import Derived.Test.YtboimfkommpglaaGreatDoorZA30
import Derived.Test.YtboimfkommpglaaGreatDoorZA10
import Derived.Test.YtboimfkommpglaaGreatDoorZA27
import Derived.Test.YtboimfkommpglaaGreatDoorRows
import Derived.Test.YtboimfkommpglaaGreatDoorChecked
import Derived.LaidMore
import Derived.Stop.Joined
import Derived.SevenTiedAt
import Derived.JoinedOf
set_option linter.unusedSimpArgs false
set_option linter.unusedVariables false
set_option maxRecDepth 100000
set_option maxHeartbeats 8000000
namespace Go.Proofs
open Go Go.Tr
theorem IG(g:ay)(hg:cZ g=0)(h0:0<g.rs.length)(T:Tp):∀i:Nat,(l9 g.rs T i).2.Pairwise (· < ·)∧∀x∈(l9 g.rs T i).2,1≤x∧x≤99
 | 0=>by simp[l9]
 | i+1=>by
   obtain⟨h1,h2⟩:=IG g hg h0 T i;have v1:=aC (l9 g.rs T i).1 g.rs.length;have v2:=bg (l9 g.rs T i).1 (n:=g.rs.length) (by omega);simp only[l9];obtain⟨h3,h4⟩:=MK (rid g.rs (au (l9 g.rs T i).1 g.rs.length).1.toNat) h1;refine⟨h3,fun x hx=>?_⟩;rcases (h4 x).1 hx with hx|rfl
   ·exact h2 x hx
   ·have:=(aU hg).id (Xr (rs:=g.rs) (i:=(au (l9 g.rs T i).1 g.rs.length).1.toNat) (by omega));exact this
theorem Z9{r:Int}{L:List Int}(h:L.Pairwise (· < ·))(g:∀x∈L,1≤x∧x≤99):(flR r L).Pairwise (· < ·)∧(∀x∈flR r L,1≤x∧x≤99)∧r∉flR r L:=by
 refine⟨h.filter _,fun x hx=>g x (List.mem_filter.1 hx).1,fun hr=>?_⟩;have:=(List.mem_filter.1 hr).2;simp at this
theorem Uc{g:ay}(hg:cZ g=0)(h0:0<g.rs.length){r:Int}(hr:1≤r∧r≤99)(T:Tp):(zk g.rs r T).1.length≤24∧(zk g.rs r T).1.Pairwise (· < ·)∧(∀x∈(zk g.rs r T).1,1≤x∧x≤99)∧¬(1<(zk g.rs r T).1.length∧r∈(zk g.rs r T).1):=by
 unfold zk;simp only;split
 ·simp[hr]
 ·split
  ·simp
  ·have q1:=aC (au T 4).2 (2+1);have q2:=bg (au T 4).2 (n:=2+1) (by omega);have hl:=Fj g.rs (au (au T 4).2 (2+1)).2 (au (au T 4).2 (2+1)).1.toNat;obtain⟨h1,h2⟩:=IG g hg h0 (au (au T 4).2 (2+1)).2 (au (au T 4).2 (2+1)).1.toNat;obtain⟨a1,a2,a3⟩:=Z9 (r:=r) h1 h2;refine⟨?_,a1,a2,fun h=>a3 h.2⟩
   have:(flR r (l9 g.rs (au (au T 4).2 (2+1)).2 (au (au T 4).2 (2+1)).1.toNat).2).length≤_:=List.length_filter_le _ _
   show(flR r (l9 g.rs (au (au T 4).2 (2+1)).2 (au (au T 4).2 (2+1)).1.toNat).2).length≤24
   omega
theorem Wv{b:Tb}(h:chk b=0){j:Nat}{x:Rw}(hx:b.rows[j]? = some x){nx:List Int}(h1:nx.length≤24)(h2:nx.Pairwise (· < ·))(h3:∀y∈nx,1≤y∧y≤99)(h4 :¬(1<nx.length∧b.r∈nx)):chk ⟨b.r,b.sd,b.len,b.rows.set j ⟨x.id,nx⟩⟩ = 0:=by
 obtain⟨p1,p2,p3,p4⟩:=uN h;have hN:=yG h;have hA:=Ls h;have hxm:=List.mem_of_getElem? hx;have hM:∀y∈b.rows.set j ⟨x.id,nx⟩,y∈b.rows∨y=⟨x.id,nx⟩:=fun y hy=>List.mem_or_eq_of_mem_set hy
 have aiS:(b.rows.set j ⟨x.id,nx⟩).map (·.id)=b.rows.map (·.id):=by
  rw[List.map_set];refine List.ext_getElem? fun i=>?_
  rw[List.getElem?_set];split
  ·rename_i e;subst e;have hj:j<b.rows.length:=(List.getElem?_eq_some_iff.1 hx).1;rw[if_pos (by simpa using hj),List.getElem?_map,hx];rfl
  ·rfl
 refine Gf ⟨p1.1,p1.2.1,?_⟩ ?_ ?_ ?_ ⟨?_,fun y hy=>?_⟩ ?_
 ·simp only[List.length_set];exact p1.2.2
 ·rintro⟨y,hy,ho⟩;rcases hM y hy with hy|rfl
  ·rcases ho with ho|⟨z,hz,ho⟩
   ·exact ho (hN y hy).1
   ·exact ho ((hN y hy).2 z hz)
  ·rcases ho with ho|⟨z,hz,ho⟩
   ·exact ho (hN x hxm).1
   ·exact ho (h3 z hz)
 ·simp only[List.length_set];omega
 ·rintro⟨y,hy,hl⟩;rcases hM y hy with hy|rfl
  ·have:=p3 y hy;omega
  ·simp only at hl;omega
 ·simp only[aiS];exact hA.1
 ·rcases hM y hy with hy|rfl
  ·exact hA.2 y hy
  ·exact h2
 ·rintro⟨y,hy,hc⟩;rcases hM y hy with hy|rfl
  ·exact p4 y hy hc
  ·exact h4 hc
structure HY(g:ay)(p:Pn)(l:List Tb):Prop where
 rs:l.map (·.r)=(tabs g p g.rs).map (·.r)
 ck:∀b∈l,chk b=0
 sd:∀b∈l,b.sd=p.bF∧b.len=p.len
theorem HY.init{g:ay}(hg:cZ g=0){p:Pn}(hp:d_ p=true):HY g p (tabs g p g.rs):=⟨rfl,m_ hg hp,rW⟩
theorem HY.step{g:ay}(hg:cZ g=0)(h0:0<g.rs.length){p:Pn}{l:List Tb}(h:HY g p l)(T:Tp):HY g p (O7 g.rs l T).1.1:=by
 unfold O7;split
 ·exact h
 ·rename_i hl;have k1:=aC T l.length;have k2:=bg T (n:=l.length) (by omega);simp only;split
  ·exact h
  ·rename_i hr;obtain⟨k,hk⟩:∃k:Nat,(au T l.length).1=k:=⟨(au T l.length).1.toNat,by omega⟩
   simp only[hk,Int.toNat_natCast]at hr⊢;have hkl:k<l.length:=by omega
   have hgd:l.getD k tb0=l[k]:=by rw[List.getD_eq_getElem?_getD,List.getElem?_eq_getElem hkl];rfl
   rw[hgd]at hr⊢
   have hbm:l[k]∈l:=List.getElem_mem hkl;have hb:=h.ck _ hbm;have hsd:=h.sd _ hbm;obtain⟨b,hb0⟩:∃b,l[k]=b:=⟨_,rfl⟩
   rw[hb0]at hr hb hsd hbm⊢
   have j1:=aC (au T l.length).2 b.rows.length;have j2:=bg (au T l.length).2 (n:=b.rows.length) (by omega);obtain⟨j,hj⟩:∃j:Nat,(au (au T l.length).2 b.rows.length).1=j:=⟨(au (au T l.length).2 b.rows.length).1.toNat,by omega⟩
   simp only[hj,Int.toNat_natCast];have hjl:j<b.rows.length:=by omega
   have hx:b.rows[j]? = some b.rows[j]:=List.getElem?_eq_getElem hjl;have hxd:b.rows.getD j ⟨0,[]⟩ = b.rows[j]:=by rw[List.getD_eq_getElem?_getD,hx];rfl
   rw[hxd];obtain⟨s1,s2,s3,s4⟩:=Uc hg h0 (uN hb).1.1 (au (au T l.length).2 b.rows.length).2;have hnew:=Wv hb hx s1 s2 s3 s4;refine⟨?_,fun c hc=>?_,fun c hc=>?_⟩
   ·rw[←h.rs,List.map_set];refine List.ext_getElem? fun i=>?_
    rw[List.getElem?_set];split
    ·rename_i e;subst e;rw[if_pos (by simpa using hkl),List.getElem?_map,List.getElem?_eq_getElem hkl,hb0];rfl
    ·rfl
   ·rcases List.mem_or_eq_of_mem_set hc with hc|rfl
    ·exact h.ck c hc
    ·exact hnew
   ·rcases List.mem_or_eq_of_mem_set hc with hc|rfl
    ·exact h.sd c hc
    ·exact hsd
theorem HY.aga{g:ay}(hg:cZ g=0){p:Pn}{l:List Tb}(h:HY g p l):DN p ((tabs g p g.rs).map (·.r)) l:=by
 have hl:l.length≤24:=by
  have:=congrArg List.length h.rs;simp only[List.length_map]at this;rw[this];exact Nat.le_trans (oU g p) (aU hg).nr
 refine⟨DW hl h.ck ?_ fun b hb c hc=>?_,h.ck,h.sd,fun r=>?_,hl⟩
 ·have h1:=xH (aU hg) p;have h2:((tabs g p g.rs).map (·.r)).Pairwise (· < ·):=by rw[List.pairwise_map];exact h1
  rw[←h.rs,List.pairwise_map]at h2
  exact h2
 ·have h1:=h.sd b hb;have h2:=h.sd c hc;exact⟨h1.1.trans h2.1.symm,h1.2.trans h2.2.symm⟩
 ·rw[ny,h.rs]
def aaJ(rs:List Rt)(l:List Tb)(T:Tp):Nat→List Tb×Tp
 | 0=>(l,T)
 | i+1=>let s:=aaJ rs l T i;((O7 rs s.1 s.2).1.1,(O7 rs s.1 s.2).2)
@[simp]theorem SV(rs:List Rt)(l:List Tb)(T:Tp):∀i:Nat,dZ (aaJ rs l T i).2=dZ T
 | 0=>rfl
 | i+1=>by simp only[aaJ,Ud];exact SV rs l T i
structure NU(g:ay)(p:Pn)(l:List Tb):Prop where
 ok:cZ g=0
 cap:B_ g
 n:1≤g.rs.length∧g.rs.length≤7
 plan:d_ p=true
 len:p.len=0↔p.es = []
 val:p.len=0∨aG p.len=true
 bF:0≤p.bF∧p.bF≤2
 es:p.es.length≤7
 tab:HY g p l
@[simp]theorem aeV(T:Tp)(most:Int):dZ (aeU T most).2=dZ T:=by
 have e:(aeU T most).2=(Xi (Ak T most).flat (Ak T most).rs (Ak T most).M2 (Ak T most).T4 (Ak T most).n (Ak T most).n 0).2:=rfl;rw[e,SS];unfold Ak;simp
theorem NU.find{g:ay}{p:Pn}{l:List Tb}(h:NU g p l){b:Tb}(hb:b∈l):bH l b.r=some b:=by
 have h1:=xH (aU h.ok) p;have h2:((tabs g p g.rs).map (·.r)).Pairwise (· < ·):=by rw[List.pairwise_map];exact h1
 rw[←h.tab.rs,List.pairwise_map]at h2
 refine r_ hb (by simp) fun y hy e=>?_
 have e:y.r=b.r:=of_decide_eq_true e;obtain⟨i,hi,rfl⟩:=List.getElem_of_mem hb;obtain⟨j,hj,rfl⟩:=List.getElem_of_mem hy;have hp:=List.pairwise_iff_getElem.1 h2;rcases Nat.lt_trichotomy i j with hlt|rfl|hlt
 ·have:=hp i j hi hj hlt;omega
 ·rfl
 ·have:=hp j i hj hi hlt;omega
theorem NU.sm{g:ay}{p:Pn}{l:List Tb}(h:NU g p l):DL l:=(h.tab.aga h.ok).sm
theorem Xo{p:Pn}(hp:d_ p=true){e:Ed}(he:e∈p.es):1≤e.id∧e.id≤256:=by
 simp only[d_,decide_eq_true_eq]at hp;obtain⟨i,hi,rfl⟩:=List.getElem_of_mem he;have h3:=hp.2.1 i hi;simp only[LD,gid,Bool.and_eq_true]at h3;have h4:=h3.1;rw[List.getD_eq_getElem?_getD,List.getElem?_eq_getElem hi]at h4
 simpa[inB]using h4
theorem NU.one{g:ay}{p:Pn}{l:List Tb}(h:NU g p l){b:Tb}(hb:b∈l){e:Ed}(he:e∈p.es){en ttl:Int}(hn:0≤en∧en≤1023)(ht:0≤ttl∧ttl≤63):afu l b.r e.id en ttl=0:=by
 have hT:=h.tab.aga h.ok;have hsd:=h.tab.sd b hb;have hne:p.len≠0:=fun z=>by rw[h.len.1 z]at he;simp at he
 have hv:aG p.len=true:=h.val.resolve_left hne;have hid:=Xo h.plan he;have hs:=uH (id:=e.id) hv;unfold afu;rw[if_neg (by simp[hT.all]),h.find hb];simp only;rw[hsd.2,if_neg];have:inB e.id 1 256=true:=b_ hid;simp only[hv,this,Bool.and_self,Bool.true_eq_false,false_or];omega
set_option maxHeartbeats 16000000
def tyP:Ty:=.st [.int .i64,.int .i64,.int .i64,.int .i64,.int .i64,.int .i64,.int .i64,.int .i64,.int .u64,.str]
theorem aam{ds:List D}(h:tyP.has ds):∃p:Pk,ds=p.cs:=by
 simp only[tyP,Ty.has,Ty.hass]at h;obtain⟨_,_,rfl,⟨a,rfl,_⟩,_,_,rfl,⟨b,rfl,_⟩,_,_,rfl,⟨c,rfl,_⟩,_,_,rfl,⟨d,rfl,_⟩,_,_,rfl,⟨e,rfl,_⟩,_,_,rfl,⟨f,rfl,_⟩,_,_,rfl,⟨g,rfl,_⟩,_,_,rfl,⟨i,rfl,_⟩,_,_,rfl,⟨n,rfl,hw⟩,_,_,rfl,⟨s,rfl,_⟩,rfl⟩:=h;obtain⟨B,rfl⟩:=wf_u64 hw;exact⟨⟨a,b,c,d,e,f,g,i,B,s⟩,by simp[Pk.cs,bv]⟩
def tyF:Ty:=.st [.sl (.int .i64),.st [.int .i64,.int .i64,.int .i64,.int .i64,.int .i64,.int .i64,.int .i64,.int .i64,.int .u64,.str]]
def tyC:Ty:=.st [.int .i64,tyF]
theorem aal{ds:List D}(h:tyF.has ds):∃f:Fr,ds=vH f:=by
 unfold tyF at h;rw[Ty.has]at h
 obtain⟨a,b,rfl,ha,c,d,rfl,hc,hd⟩:=h;rw[Ty.hass]at hd
 subst hd;obtain⟨l,rfl,_⟩:=yQ ha;obtain⟨p,rfl⟩:=aam hc;exact⟨⟨l,p⟩,by simp[vH,ints]⟩
theorem aiQ{ds:List D}(h:tyC.has ds):∃c:Int×Fr,ds=n_ c:=by
 unfold tyC at h;rw[Ty.has]at h
 obtain⟨a,b,rfl,ha,c,d,rfl,hc,hd⟩:=h;rw[Ty.hass]at hd
 subst hd;obtain⟨n,rfl⟩:=Gq ha;obtain⟨f,rfl⟩:=aal hc;exact⟨(n,f),by simp[n_,vH]⟩
end Go.Proofs

namespace Go.Proofs.YtboimfkommpglaaGreatDoor.cf
open Go
theorem bK{a b:Bool}(h:a=true)(k:b=true):(a&&b)=true:=by rw[h,k];rfl
theorem own:ownKnob Tryz.prog.godebug=none:=by kernel_rfl
theorem laidOut:laidOutB Tryz.prog=true:=by kernel_rfl
theorem rowed:mapsRowed Tryz.prog=true:=by kernel_rfl
theorem heard:Tryz.prog.stopsHeard=true:=by kernel_rfl
theorem may:Tryz.prog.mayEnter=true:=by kernel_rfl
theorem main : Tryz.prog.mainIs = some (true, "22e48be9cd61c4ef9d5f14216729acba0b833e18762d81acefabb4729de81b78".toList) := by kernel_rfl
theorem looks:false=Tryz.prog.looks []:=by kernel_rfl
end Go.Proofs.YtboimfkommpglaaGreatDoor.cf

namespace Go.Proofs.YtboimfkommpglaaGreatDoor.tunnelRoutes
open Go
theorem j10:(Rows.tunnelRoutesRow.inPlace==Tryz.prog.inPlace 3)=true:=by kernel_rfl
theorem j11:(Rows.tunnelRoutesRow.unfollowed==Tryz.prog.unfollowed 3)=true:=by kernel_rfl
theorem j12:(Rows.tunnelRoutesRow.recurses==Tryz.prog.recurses 3)=true:=by kernel_rfl
theorem j13:(Rows.tunnelRoutesRow.named==Tryz.prog.varsNamed 3)=true:=by kernel_rfl
theorem j23:(Rows.tunnelRoutesRow.plainKeys==Tryz.prog.plainKeys)=true:=by kernel_rfl
theorem j27:(Rows.tunnelRoutesRow.lifted==Tryz.prog.liftsFinal)=true:=by kernel_rfl
theorem j28:(Tryz.prog.make==some Rows.tunnelRoutesRow.make)=true:=by kernel_rfl
theorem goes:false=Rows.tunnelRoutesRow.goesBy Tryz.prog:=by kernel_rfl
theorem VB : Tryz.prog.funcNamed "bitcast/bitcastlaw16.TunnelRoutes" = some 3 := by kernel_rfl
set_option maxRecDepth 100000 in
theorem closed:joinedFacts Tryz.prog 3 Tryz.f3 Rows.tunnelRoutesSpec Rows.tunnelRoutesRow=true:=by
 delta joinedFacts
 exact(cf.bK (cf.bK (cf.bK (cf.bK (cf.bK (cf.bK (cf.bK (cf.bK (cf.bK (cf.bK (cf.bK (cf.bK (cf.bK (cf.bK (cf.bK (cf.bK (cf.bK (cf.bK (cf.bK (cf.bK (cf.bK (cf.bK (cf.bK (cf.bK (cf.bK (cf.bK (cf.bK (cf.bK (cf.bK (cf.bK (cf.bK (by kernel_rfl) cf.laidOut) cf.rowed) (by kernel_rfl)) (by kernel_rfl)) (by kernel_rfl)) (by kernel_rfl)) (by kernel_rfl)) (by kernel_rfl)) j10) j11) j12) j13) (by kernel_rfl)) (by kernel_rfl)) (by kernel_rfl)) (by kernel_rfl)) (by kernel_rfl)) (by kernel_rfl)) (by kernel_rfl)) (by kernel_rfl)) (by kernel_rfl)) j23) (by kernel_rfl)) cf.heard) cf.may) j27) j28) (by kernel_rfl)) (by kernel_rfl)) (by kernel_rfl)) (by kernel_rfl))
theorem inst:Tryz.f3.isInstance Tryz.prog Rows.tunnelRoutesRow.origin Rows.tunnelRoutesRow.targs:=of_decide_eq_true (by kernel_rfl)
theorem wrap:Tryz.f3.isWrapper Tryz.prog Rows.tunnelRoutesRow.wrapper Rows.tunnelRoutesRow.mainSum:=by unfold Func.isWrapper;first|(rw[if_pos (by decide+kernel)];kernel_rfl)|(rw[if_neg (by decide+kernel)];exact⟨rfl,rfl⟩)
end Go.Proofs.YtboimfkommpglaaGreatDoor.tunnelRoutes
