/-
  What functions of the program compute, stated as contracts over plain data; the conditions of each stand in its own statement.
-/
import Derived.Test.YtboimfkommpglaaGreatDoorZA28
import Derived.Test.YtboimfkommpglaaGreatDoorZA68
import Derived.Test.YtboimfkommpglaaGreatDoorZA29
set_option linter.unusedSimpArgs false
set_option maxRecDepth 100000
set_option maxHeartbeats 2000000
namespace Go.Proofs
open Go Go.Tr
structure qW(rs:List Rt)(p:Pn):Prop where
 bF:0≤p.bF∧p.bF≤7
 len:aG p.len=true
 n:p.es.length≤24
 rt:∀e∈p.es,1≤e.r∧e.r≤99
 ids:∀e∈p.es,1≤e.id∧e.id≤256
 xX:p.es.Pairwise fun a b=>a.id<b.id
 Fp:(p.es.map (·.r)).Nodup
theorem uI{rs:List Rt}{p:Pn}(h:qW rs p):d_ p=true:=by
 have gi:∀i (hi:i<p.es.length),gid p.es i=p.es[i].id∧KA p.es i=p.es[i].r:=fun i hi=>by simp[gid,KA,List.getD,hi]
 refine AL (by simp[yD,inB,h.bF,h.len,h.n]) (fun i hi=>?_) (fun i j hj hi=>?_)
 ·have h1:=h.ids p.es[i] (List.getElem_mem hi);have h2:=h.rt p.es[i] (List.getElem_mem hi);have h3:=gi i hi;by_cases h0:i=0
  ·simp[LD,inB,h3,h1,h2,h0];subst h0;simp[h3,h1,h2]
  ·have h4:=gi (i-1) (by omega);have h5:=List.pairwise_iff_getElem.1 h.xX (i-1) i (by omega) hi (by omega);simp[LD,inB,h3,h1,h2,h0,h4,h5]
 ·rw[(gi i hi).2,(gi j (by omega)).2];have:=List.pairwise_iff_getElem.1 h.Fp j i (by simp;omega) (by simpa using hi) hj;simp only[List.getElem_map]at this;exact fun e=>this e.symm
theorem gQ:∀(n i:Nat) (T:Tp) (l:List Int),l.Nodup→(∀x∈l,x<(i:Int))→(kY n i T l).1.Nodup
 | 0,_,_,_,h,_=>h
 | n+1,i,T,l,h,hb=>by
   rw[kY];generalize (au T (i+1)).1.toNat=k;have hs:(l.take k++l.drop k).Nodup:=by rw[List.take_append_drop];exact h
   have hi:(i:Int)∉l:=fun hm=>by have:=hb _ hm;omega
   refine gQ n (i+1) _ _ ?_ fun x hx=>?_
   ·rw[List.nodup_append]at hs⊢
    obtain⟨h1,h2,h3⟩:=hs;refine⟨?_,h2,fun a ha b hb'=>?_⟩
    ·rw[List.nodup_append];refine⟨h1,by simp,fun a ha b hb'=>?_⟩;simp at hb';subst hb';intro e;subst e;exact hi (List.mem_of_mem_take ha)
    ·rcases List.mem_append.1 ha with ha|ha
     ·exact h3 a ha b hb'
     ·simp at ha;subst ha;intro e;subst e;exact hi (List.mem_of_mem_drop hb')
   ·simp only[List.mem_append,List.mem_singleton]at hx;rcases hx with (hx|hx)|hx
    ·have:=hb x (List.mem_of_mem_take hx);omega
    ·omega
    ·have:=hb x (List.mem_of_mem_drop hx);omega
theorem vT(k:Nat){i:Nat}(h:i<k)(d:Rt):((cu k).getD i d).id=(i:Int)+1:=by
 simp[cu,List.getD,h]
structure QE(k:Nat)(o:List Int)(id:Int)(l:List Ed):Prop where
 pos:0≤id
 rt:∀e∈l,1≤e.r∧e.r≤k∧e.r-1∉o
 ids:∀e∈l,1≤e.id∧e.id≤256∧e.id≤id
 xX:l.Pairwise fun a b=>a.id<b.id
 Fp:(l.map (·.r)).Nodup
theorem nZ(k:Nat)(len:Int)(hl:8≤len):∀(o:List Int) (T:Tp) (id:Int) (l:List Ed),o.Nodup→(∀x∈o,0≤x∧x<(k:Int))→QE k o id l→
  QE k [] (aX (cu k) len o T id l).2.1 (aX (cu k) len o T id l).1
 | [],T,id,l,_,_,h=>h
 | x::o,T,id,l,hn,hb,h=>by
   rw[List.nodup_cons]at hn
   rw[aX];have hbx:=hb x (by simp);refine nZ k len hl o _ _ _ hn.2 (fun y hy=>hb y (by simp[hy])) ?_;unfold aV;simp only;have h0:QE k o id l:=⟨h.pos,fun e he=>by have:=h.rt e he;simp at this;exact⟨this.1,this.2.1,this.2.2.2⟩,h.ids,h.xX,h.Fp⟩
   split
   ·exact h0
   ·have bp:1≤(aK (au T 4).2 [1,1,1,2,len-1]).1:=dA (p:=fun x=>1≤x) (by simp) (by simp;omega);simp only;generalize aK (au T 4).2 [1,1,1,2,len-1]=p at bp⊢;split
    ·rename_i hid;have hr:((cu k).getD x.toNat ⟨0,false⟩).id=x+1:=by rw[vT k (by omega)];omega
     rw[hr];refine⟨by have:=h.pos;first|omega|(simp only;omega),fun e he=>?_,fun e he=>?_,?_,?_⟩
     ·simp only[List.mem_append,List.mem_singleton]at he;rcases he with he|rfl
      ·exact h0.rt e he
      ·refine⟨by first|omega|(simp only;omega),by first|omega|(simp only;omega),?_⟩;rw[show(x+1-1:Int)=x by omega];exact hn.1
     ·simp only[List.mem_append,List.mem_singleton]at he;rcases he with he|rfl
      ·have:=h.ids e he;first|omega|(simp only;omega)
      ·have:=h.pos;first|omega|(simp only;omega)
     ·rw[List.pairwise_append];refine⟨h.xX,by simp,fun a ha b hb'=>?_⟩;simp at hb';subst hb';have:=h.ids a ha;first|omega|(simp only;omega)
     ·rw[List.map_append,List.nodup_append];refine⟨h.Fp,by simp,fun a ha b hb'=>?_⟩;simp at hb';subst hb';obtain⟨e,he,rfl⟩:=List.mem_map.1 ha;have:=(h.rt e he).2.2;intro e1;apply this;rw[e1];simp
    ·exact⟨by have:=h.pos;first|omega|(simp only;omega),h0.rt,fun e he=>by have:=h.ids e he;first|omega|(simp only;omega),h.xX,h.Fp⟩
theorem l7(T:Tp){k:Nat}(hk:k≤24):qW (cu k) (bJ T (cu k)).1:=by
 have hl:((8:Int)≤(aK (au T 3).2 [8,8,16,32,64]).1)∧aG (aK (au T 3).2 [8,8,16,32,64]).1=true:=dA (p:=fun x=>(8:Int)≤x∧aG x=true) (by simp) (by simp;decide);have h1:=aC T 3;have h2:=bg T (n:=3) (by omega);have hln:=qh T (cu k);rw[EY]at hln
 have hord:=lZ (aK (au T 3).2 [8,8,16,32,64]).2 k;have hnd:(bT (aK (au T 3).2 [8,8,16,32,64]).2 k).1.Nodup:=gQ _ _ _ _ (by simp) (by simp);have hI:=nZ k _ hl.1 _ (bT (aK (au T 3).2 [8,8,16,32,64]).2 k).2 0 [] hnd hord ⟨by omega,by simp,by simp,by simp,by simp⟩;refine⟨by simp only[bJ];omega,hl.2,by omega,fun e he=>?_,fun e he=>?_,?_,?_⟩
 ·have he':e∈(aX (cu k) (aK (au T 3).2 [8,8,16,32,64]).1 (bT (aK (au T 3).2 [8,8,16,32,64]).2 k).1 (bT (aK (au T 3).2 [8,8,16,32,64]).2 k).2 0 []).1:=by simpa[bJ]using he
  have:=hI.rt e he';omega
 ·have he':e∈(aX (cu k) (aK (au T 3).2 [8,8,16,32,64]).1 (bT (aK (au T 3).2 [8,8,16,32,64]).2 k).1 (bT (aK (au T 3).2 [8,8,16,32,64]).2 k).2 0 []).1:=by simpa[bJ]using he
  have:=hI.ids e he';omega
 ·simpa[bJ]using hI.xX
 ·simpa[bJ]using hI.Fp
set_option linter.unusedVariables false
theorem kV(T:Tp)(rs:List Rt):dh T rs 0=((bJ T rs).1,(bJ T rs).2.2):=by
 simp[dh]
structure QC(most:Int)(g:ay)(p:Pn)(l:List Tb):Prop where
 top:zq most g
 plan:d_ p=true
 len:aG p.len=true
 bF:0≤p.bF∧p.bF≤7
 tab:l=tabs g p g.rs
theorem qj{rs rs':List Rt}(h:rs.map (·.id)=rs'.map (·.id))(len x:Int)(T:Tp)(id:Int)(l:List Ed):aV rs len x T id l=aV rs' len x T id l:=by
 have e:∀i:Nat,(rs.getD i ⟨0,false⟩).id=(rs'.getD i ⟨0,false⟩).id:=fun i=>by
  have:=congrArg (fun l=>l[i]?) h;simp only[List.getElem?_map]at this;rw[List.getD_eq_getElem?_getD,List.getD_eq_getElem?_getD];cases h1:rs[i]? with
  | none=>
    rw[h1]at this
    cases h2:rs'[i]? with
    | none=>rfl
    | some y=>rw[h2]at this;simp at this
  | some x=>
    rw[h1]at this
    cases h2:rs'[i]? with
    | none=>rw[h2]at this;simp at this
    | some y=>rw[h2]at this;simpa using this
 unfold aV;simp only[e]
theorem jG{rs rs':List Rt}(h:rs.map (·.id)=rs'.map (·.id))(len:Int):∀(o:List Int) (T:Tp) (id:Int) (l:List Ed),aX rs len o T id l=aX rs' len o T id l
 | [],_,_,_=>rfl
 | x::o,T,id,l=>by
   rw[aX,aX,qj h,jG h]
theorem qg{rs rs':List Rt}(h:rs.map (·.id)=rs'.map (·.id))(T:Tp):bJ T rs=bJ T rs':=by
 have hl:rs.length=rs'.length:=by have:=congrArg List.length h;simpa using this
 unfold bJ;simp only[hl,jG h]
theorem qE{most:Int}{g:ay}(h:zq most g)(hm:most≤24)(T:Tp):qW (cu g.rs.length) (dh T g.rs 0).1:=by
 rw[kV]
 show qW _ (bJ T g.rs).1
 rw[qg h.ids];exact l7 T (by have:=h.n;omega)
theorem ny{l:List Tb}{r:Int}:(bH l r).isSome↔r∈l.map (·.r):=by
 rw[bH,List.find?_isSome];simp
theorem um(T:Tp):∃(L m d s t e i p y:Int) (B:BitVec 64) (w:List Int) (T':Tp),Bg T=(⟨m,d,s,L,t,e,i,p,B,strOf w⟩,T')∧(1≤m∧m≤3)∧(0≤t∧t≤63)∧(0≤e∧e≤1023)∧(0≤i∧i≤256)∧(0≤p∧p≤7)∧(strOf w).size≤6∧ak T'=ak T:=by
 unfold Bg;dsimp only;refine⟨_,_,_,_,_,_,_,_,0,_,_,_,rfl,⟨aS _ _ _,aQ _ (by omega)⟩,dA (p:=fun x=>0≤x∧x≤63) (by simp) (by simp),⟨aC _ _,?_⟩,dA (p:=fun x=>0≤x∧x≤256) (by simp) (by simp),⟨aC _ _,?_⟩,?_,by simp⟩
 ·have:=bg (aK (aK (aT (aT (aK T [8,8,16,32,64]).2 1 3).2 0 7).2 [0,0,1,2,31]).2 [0,1,2,5,63]).2 (n:=1024) (by omega);omega
 ·exact Int.le_of_lt_add_one (bg _ (n:=8) (by omega))
 ·exact xR _ (by omega)
set_option maxHeartbeats 4000000
theorem yC(g:ay)(hg:g.Sm)(hc:cZ g=0)(p:Pn)(a1:d_ p=true)(hp:p.es.length≤1000):Contract Tryz.prog 54 [aH g,bI p] [] (.rG [.aB 6 (tabs g p g.rs).length,.d (.int .i64 0)]) [] [(6,.row 65 4 (dd (oq (tabs g p g.rs))) false)]:=by
 have hr:=hg.r;refine aj Tryz.func54 rfl (fun E0=>?_);refine cO.sound (g:=.mk) (ow:=[]) (kp:=(fun k=>k==0||k==1||k==2||k==3||k==4||k==5||k==6||k==7||k==15||k==20||k==28)) ?_;rw[Tryz.ntmps54];simp -dsimp[aH,bI];refine ah.of (oz g hg.r hg.l) [] 0 ?_;simp -dsimp[eq_true hc,aH];refine ah.of (uQ p hp) [] 0 ?_;have hn:g.rs.length≤24:=(aU hc).nr
 simp -dsimp[eq_true hc,a1,bI];and_intros;all_goals try first|rfl|omega|exact⟨by kernel_rfl⟩
 refine aN.of [] (fun k=>k==0||k==1||k==2||k==3||k==4||k==5||k==6||k==7||k==15||k==20||k==28) (ι:={i:Nat // i≤g.rs.length∧True}) (fun z=>[(Pl.s 0,It.v (.agg [TV.d (.sl (rts g.rs)),TV.d (.sl (dO g.ls))])),(Pl.s 1,It.v (.agg [TV.d (.int .i64 p.bF),TV.d (.int .i64 p.len),TV.d (.sl (rJ p.es))])),(Pl.o 2,It.box [TV.d (.sl (rts g.rs)),TV.d (.sl (dO g.ls))]),(Pl.s 2,It.v (.ptr (Pl.o 2) 0)),(Pl.o 3,It.box [TV.d (.int .i64 p.bF),TV.d (.int .i64 p.len),TV.d (.sl (rJ p.es))]),(Pl.s 3,It.v (.ptr (Pl.o 3) 0)),(Pl.s 4,It.v (.c (Value.slice none 0 0))),(Pl.s 5,It.v (.d (.int .i64 0))),(Pl.s 6,It.v (.aB 6 (yA g p (g.rs.take z.1)).length)),(Pl.o 6,It.row 65 4 (dd (yA g p (g.rs.take z.1))) false),(Pl.s 7,It.v (.d (.int .i64 z.1)))]) (fun z=>g.rs.length-z.1) ⟨0,by omega,trivial⟩ ?_ ?_
 ·exact GS.own' (k:=6) 65 4 (by simp) (by simp) (by simp[yA,tabs])
 rintro⟨i,i1,i2⟩;by_cases hi:i<g.rs.length
 ·have hiz:(i:Int)<g.rs.length:=by omega
  have hx:g.rs[i]? = some g.rs[i]:=List.getElem?_eq_getElem hi;have ht:g.rs.take (i+1)=g.rs.take i++[g.rs[i]]:=by rw[List.take_add_one,List.getElem?_eq_getElem hi];rfl
  generalize g.rs[i]=x at hx ht;have hx':=fF hx;have hta:=FN g p (g.rs.take i) x;have htl:=FP g p (g.rs.take i);rw[←ht]at hta
  simp at htl;rcases (Bool.eq_false_or_eq_true x.cap).symm with c1|c1
  ·rw[if_neg (by simp[c1])]at hta
   simp -dsimp[hiz,hx',Rt.cs,c1,wrap_i64 (n:=(i:Int)+1) (by omega) (by omega)];and_intros;all_goals try first|rfl|omega|exact⟨by kernel_rfl⟩
   exact⟨⟨i+1,by omega,trivial⟩,GS.to (by simp[hta]),by simp;omega⟩
  ·rw[if_pos c1]at hta
   simp -dsimp[hiz,hx',Rt.cs,c1];refine ah.of (BH g hg p (by omega) x.id) [] 0 ?_;simp -dsimp[hiz,hx',Rt.cs,c1,aH,bI,bZ,bV,wrap_i64 (n:=(i:Int)+1) (by omega) (by omega)];and_intros;all_goals try first|rfl|omega|exact⟨by kernel_rfl⟩
   exact⟨⟨i+1,by omega,trivial⟩,GS.to (by simp[hta,Tb.cs,bV]),by simp;omega⟩
 ·have hiz :¬(i:Int)<g.rs.length:=by omega
  obtain rfl:i=g.rs.length:=by omega
  simp -dsimp[hiz];refine Fin.of ?_;simp[yA,oq]
def fA(len set:Int):List Ed→Tp→BitVec 64→BitVec 64×Tp
 | [],T,B=>(B,T)
 | e::es,T,B=>if fJ e.id len=set then(if 0<(au T 4).1 then fA len set es (au T 4).2 (B|||lS (gG e.id len))else fA len set es (au T 4).2 B)else fA len set es T B
def jB(T:Tp)(p:Pn):Int×Tp:=if p.es = []then(0,T)else(fJ (p.es.getD (au T p.es.length).1.toNat ⟨0,0⟩).id p.len,(au T p.es.length).2)
def mM(T:Tp)(p:Pn):Pk×Tp:=
 let q:=bY T 0
 let s:=jB q.2 p
 let b:=fA p.len s.1 p.es s.2 0#64
 let o:=dD b.2 6
 if o.1=true then(q.1.for p.bF p.len s.1 (b.1|||(kE o.2 p.len).1),(kE o.2 p.len).2)else(q.1.for p.bF p.len s.1 b.1,o.2)
theorem jq(len set:Int):∀(es:List Ed) (T:Tp) (B:BitVec 64),ak (fA len set es T B).2=ak T
 | [],_,_=>rfl
 | e::es,T,B=>by
   rw[fA];split
   ·split
    ·rw[jq];simp
    ·rw[jq];simp
   ·exact jq len set es T B
theorem yK(T:Tp)(p:Pn):ak (jB T p).2=ak T:=by
 unfold jB;split
 ·rfl
 ·simp
theorem yM(T:Tp)(p:Pn):ak (mM T p).2=ak T:=by
 unfold mM;simp only;split<;>simp[jq,yK]
theorem Ih(T:Tp)(hT:ak T)(p:Pn)(hp:p.es.length≤1000)(l0:p.len≠0)(hl:I64 p.len):Contract Tryz.prog 29 [.ptr (.x 0) 0,bI p] [aJ T] (dX (mM T p).1) [aJ (mM T p).2] []:=by
 refine aj Tryz.func29 rfl (fun E0=>?_);refine cO.sound (g:=.mk) (ow:=[]) (kp:=(fun k=>k==0||k==1||k==3||k==4||k==5||k==6||k==7||k==8||k==23||k==28||k==51||k==75||k==83)) ?_;rw[Tryz.ntmps29];simp -dsimp[bI];try refine⟨?_,⟨by kernel_rfl⟩⟩
 refine ah.of (wC T hT 0 ⟨by omega,by omega⟩) [.x 0] 0 ?_;have kQ:ak (bY T 0).2:=by simpa using hT
 unfold mM;simp only;generalize bY T 0=q at kQ⊢;obtain⟨q,T1⟩:=q;simp only at kQ⊢;simp only[dX,Pk.cs,List.map];by_cases e0:p.es = []
 ·have eS:jB T1 p=(0,T1):=by rw[jB,if_pos e0]
  rw[eS];simp -dsimp[l0,e0];try refine⟨?_,⟨by kernel_rfl⟩⟩
  refine aN.of [] (fun k=>k==0||k==1||k==3||k==4||k==5||k==6||k==7||k==8||k==23||k==28||k==51||k==75||k==83) (ι:={z:Nat×Tp×BitVec 64 // z.1≤p.es.length∧ak z.2.1∧fA p.len 0 p.es T1 0#64=fA p.len 0 (p.es.drop z.1) z.2.1 z.2.2})
   (fun z=>[(Pl.s 0,It.v (.ptr (Pl.x 0) 0)),(Pl.x 0,aJ z.1.2.1),(Pl.o 3,It.box [TV.d (.int .i64 p.bF),TV.d (.int .i64 p.len),TV.d (.sl (rJ p.es))]),(Pl.s 3,It.v (.ptr (Pl.o 3) 0)),
    (Pl.o 4,It.box [TV.d (.int .i64 0),TV.d (.int .i64 0),TV.d (.int .i64 0),TV.d (.int .i64 0),TV.d (.int .i64 0),TV.d (.int .i64 0),TV.d (.int .i64 0),TV.d (.int .i64 0),TV.d (.int IntKind.u64 0),TV.d (.str ⟨#[]⟩)]),
    (Pl.s 4,It.v (.ptr (Pl.o 4) 0)),
    (Pl.o 5,It.box [TV.d (.int .i64 1),TV.d (.int .i64 p.bF),TV.d (.int .i64 0),TV.d (.int .i64 p.len),TV.d (.int .i64 q.ttl),TV.d (.int .i64 q.ent),TV.d (.int .i64 q.ing),TV.d (.int .i64 q.proto),TV.d (.int IntKind.u64 (tn z.1.2.2)),TV.d (.str q.pay)]),
    (Pl.s 5,It.v (.ptr (Pl.o 5) 0)),(Pl.s 6,It.v (.d (.int .i64 z.1.1)))])
   (fun z=>p.es.length-z.1.1) ⟨(0,T1,0#64),by simp,kQ,rfl⟩ ?_ ?_
  ·exact GS.to (by simp[e0])
  generalize fA p.len 0 p.es T1 0#64=X;rintro⟨⟨i,T3,B⟩,i1,i2,i3⟩;simp only at i1 i2 i3;by_cases hi:i<p.es.length
  ·have hiz:(i:Int)<p.es.length:=by omega
   have hg:p.es[i]? = some p.es[i]:=List.getElem?_eq_getElem hi;have hd:p.es.drop i=p.es[i]::p.es.drop (i+1):=List.drop_eq_getElem_cons hi;generalize p.es[i]=y at hg hd;have hg':=mP hg;rw[hd,fA]at i3
   have pb:=plB y.id p.len;have hbc:=uD (gG y.id p.len);simp -dsimp[hiz,hg',Ed.cs];try refine⟨?_,⟨by kernel_rfl⟩⟩
   and_intros;all_goals try first|rfl|omega|exact⟨by kernel_rfl⟩
   refine ah.of (kU y.id p.len) [] 0 ?_;simp only[eH];generalize fJ y.id p.len=sy at i3 pb;generalize gG y.id p.len=QS at i3 pb hbc;by_cases c0:sy=0
   ·rw[if_pos c0]at i3
    simp -dsimp[hiz,hg',Ed.cs,eH,eq_true c0];try refine⟨?_,⟨by kernel_rfl⟩⟩
    refine ah.of (bn T3 i2 4 ⟨by omega,by omega⟩) [.x 0] 0 ?_;have n1:=aC T3 4;have kS:ak (au T3 4).2:=by simpa using i2
    generalize au T3 4=m4 at n1 kS i3⊢;obtain⟨m4,T4⟩:=m4;simp only at n1 kS i3⊢;by_cases c1:0<m4
    ·rw[if_pos c1]at i3
     simp -dsimp[c1];try refine⟨?_,⟨by kernel_rfl⟩⟩
     refine ah.of hbc [] 0 ?_;simp -dsimp[bv,wrap_i64 (n:=(i:Int)+1) (by omega) (by omega)];try refine⟨?_,⟨by kernel_rfl⟩⟩
     and_intros;all_goals try first|rfl|omega|exact⟨by kernel_rfl⟩
     exact⟨⟨(i+1,T4,B|||lS QS),by dsimp only;omega,kS,i3⟩,GS.to (by simp),by simp;omega⟩
    ·rw[if_neg c1]at i3
     simp -dsimp[c1,wrap_i64 (n:=(i:Int)+1) (by omega) (by omega)];try refine⟨?_,⟨by kernel_rfl⟩⟩
     and_intros;all_goals try first|rfl|omega|exact⟨by kernel_rfl⟩
     exact⟨⟨(i+1,T4,B),by dsimp only;omega,kS,i3⟩,GS.to (by simp),by simp;omega⟩
   ·rw[if_neg c0]at i3
    simp -dsimp[hiz,hg',Ed.cs,eH,eq_false c0,wrap_i64 (n:=(i:Int)+1) (by omega) (by omega)];try refine⟨?_,⟨by kernel_rfl⟩⟩
    and_intros;all_goals try first|rfl|omega|exact⟨by kernel_rfl⟩
    exact⟨⟨(i+1,T3,B),by dsimp only;omega,i2,i3⟩,GS.to (by simp),by simp;omega⟩
  ·have hiz :¬(i:Int)<p.es.length:=by omega
   have e1:p.es.drop i = []:=List.drop_eq_nil_of_le (by omega);rw[e1,fA]at i3
   subst i3;simp -dsimp[hiz];try refine⟨?_,⟨by kernel_rfl⟩⟩
   refine ah.of (gK T3 i2 6 ⟨by omega,by omega⟩ ⟨by omega,by omega⟩) [.x 0] 0 ?_;have kO:ak (dD T3 6).2:=by simpa using i2
   generalize dD T3 6=o at kO⊢;obtain⟨o,T5⟩:=o;simp only at kO⊢;rcases (Bool.eq_false_or_eq_true o).symm with ho|ho
   ·subst ho;simp -dsimp;try refine⟨?_,⟨by kernel_rfl⟩⟩
    refine Fin.box (.o 4) rfl ?_;simp -dsimp;try refine⟨?_,⟨by kernel_rfl⟩⟩
    refine Fin.of ?_;simp[Pk.for,bv]
   ·subst ho;simp -dsimp;try refine⟨?_,⟨by kernel_rfl⟩⟩
    refine ah.of (zF T5 kO p.len hl) [.x 0] 0 ?_;generalize kE T5 p.len=gb;simp -dsimp[bv];try refine⟨?_,⟨by kernel_rfl⟩⟩
    refine Fin.box (.o 4) rfl ?_;simp -dsimp;try refine⟨?_,⟨by kernel_rfl⟩⟩
    refine Fin.of ?_;simp[Pk.for,bv]
 ·have eS:jB T1 p=(fJ (p.es.getD (au T1 p.es.length).1.toNat ⟨0,0⟩).id p.len,(au T1 p.es.length).2):=by rw[jB,if_neg e0]
  have hlen:0<p.es.length:=List.length_pos_iff.2 e0;rw[eS];simp -dsimp[l0,e0,hlen];try refine⟨?_,⟨by kernel_rfl⟩⟩
  and_intros;all_goals try first|rfl|omega|exact⟨by kernel_rfl⟩
  refine ah.of (bn T1 kQ p.es.length ⟨by omega,by omega⟩) [.x 0] 0 ?_;have m1:=aC T1 p.es.length;have m2:=bg T1 (n:=p.es.length) (by omega);have kN:ak (au T1 p.es.length).2:=by simpa using kQ
  clear eS;generalize au T1 p.es.length=m at m1 m2 kN⊢;obtain⟨m,T2⟩:=m;simp only at m1 m2 kN⊢;obtain⟨j,rfl⟩:∃j:Nat,m=j:=⟨m.toNat,by omega⟩
  have hj:j<p.es.length:=by omega
  have hx:p.es[j]? = some p.es[j]:=List.getElem?_eq_getElem hj;have hgd:p.es.getD ((j:Int)).toNat ⟨0,0⟩ = p.es[j]:=by rw[List.getD_eq_getElem?_getD,show((j:Int)).toNat=j by omega,hx];rfl
  rw[hgd];generalize p.es[j]=x at hx;have hx':=mP hx;simp -dsimp[l0,e0,hlen,hx',Ed.cs];try refine⟨?_,⟨by kernel_rfl⟩⟩
  and_intros;all_goals try first|rfl|omega|exact⟨by kernel_rfl⟩
  refine ah.of (kU x.id p.len) [] 0 ?_;simp only[eH];generalize fJ x.id p.len=S;simp -dsimp[l0,e0,eH];try refine⟨?_,⟨by kernel_rfl⟩⟩
  refine aN.of [] (fun k=>k==0||k==1||k==3||k==4||k==5||k==6||k==7||k==8||k==23||k==28||k==51||k==75||k==83) (ι:={z:Nat×Tp×BitVec 64 // z.1≤p.es.length∧ak z.2.1∧fA p.len S p.es T2 0#64=fA p.len S (p.es.drop z.1) z.2.1 z.2.2})
   (fun z=>[(Pl.s 0,It.v (.ptr (Pl.x 0) 0)),(Pl.x 0,aJ z.1.2.1),(Pl.o 3,It.box [TV.d (.int .i64 p.bF),TV.d (.int .i64 p.len),TV.d (.sl (rJ p.es))]),(Pl.s 3,It.v (.ptr (Pl.o 3) 0)),
    (Pl.o 4,It.box [TV.d (.int .i64 0),TV.d (.int .i64 0),TV.d (.int .i64 0),TV.d (.int .i64 0),TV.d (.int .i64 0),TV.d (.int .i64 0),TV.d (.int .i64 0),TV.d (.int .i64 0),TV.d (.int IntKind.u64 0),TV.d (.str ⟨#[]⟩)]),
    (Pl.s 4,It.v (.ptr (Pl.o 4) 0)),
    (Pl.o 5,It.box [TV.d (.int .i64 1),TV.d (.int .i64 p.bF),TV.d (.int .i64 S),TV.d (.int .i64 p.len),TV.d (.int .i64 q.ttl),TV.d (.int .i64 q.ent),TV.d (.int .i64 q.ing),TV.d (.int .i64 q.proto),TV.d (.int IntKind.u64 (tn z.1.2.2)),TV.d (.str q.pay)]),
    (Pl.s 5,It.v (.ptr (Pl.o 5) 0)),(Pl.s 6,It.v (.d (.int .i64 z.1.1)))])
   (fun z=>p.es.length-z.1.1) ⟨(0,T2,0#64),by simp,kN,rfl⟩ ?_ ?_
  ·exact GS.to (by simp[e0])
  generalize fA p.len S p.es T2 0#64=X;rintro⟨⟨i,T3,B⟩,i1,i2,i3⟩;simp only at i1 i2 i3;by_cases hi:i<p.es.length
  ·have hiz:(i:Int)<p.es.length:=by omega
   have hg:p.es[i]? = some p.es[i]:=List.getElem?_eq_getElem hi;have hd:p.es.drop i=p.es[i]::p.es.drop (i+1):=List.drop_eq_getElem_cons hi;generalize p.es[i]=y at hg hd;have hg':=mP hg;rw[hd,fA]at i3
   have pb:=plB y.id p.len;have hbc:=uD (gG y.id p.len);simp -dsimp[hiz,hg',Ed.cs];try refine⟨?_,⟨by kernel_rfl⟩⟩
   and_intros;all_goals try first|rfl|omega|exact⟨by kernel_rfl⟩
   refine ah.of (kU y.id p.len) [] 0 ?_;simp only[eH];generalize fJ y.id p.len=sy at i3 pb;generalize gG y.id p.len=QS at i3 pb hbc;by_cases c0:sy=S
   ·rw[if_pos c0]at i3
    simp -dsimp[hiz,hg',Ed.cs,eH,eq_true c0];try refine⟨?_,⟨by kernel_rfl⟩⟩
    refine ah.of (bn T3 i2 4 ⟨by omega,by omega⟩) [.x 0] 0 ?_;have n1:=aC T3 4;have kS:ak (au T3 4).2:=by simpa using i2
    generalize au T3 4=m4 at n1 kS i3⊢;obtain⟨m4,T4⟩:=m4;simp only at n1 kS i3⊢;by_cases c1:0<m4
    ·rw[if_pos c1]at i3
     simp -dsimp[c1];try refine⟨?_,⟨by kernel_rfl⟩⟩
     refine ah.of hbc [] 0 ?_;simp -dsimp[bv,wrap_i64 (n:=(i:Int)+1) (by omega) (by omega)];try refine⟨?_,⟨by kernel_rfl⟩⟩
     and_intros;all_goals try first|rfl|omega|exact⟨by kernel_rfl⟩
     exact⟨⟨(i+1,T4,B|||lS QS),by dsimp only;omega,kS,i3⟩,GS.to (by simp),by simp;omega⟩
    ·rw[if_neg c1]at i3
     simp -dsimp[c1,wrap_i64 (n:=(i:Int)+1) (by omega) (by omega)];try refine⟨?_,⟨by kernel_rfl⟩⟩
     and_intros;all_goals try first|rfl|omega|exact⟨by kernel_rfl⟩
     exact⟨⟨(i+1,T4,B),by dsimp only;omega,kS,i3⟩,GS.to (by simp),by simp;omega⟩
   ·rw[if_neg c0]at i3
    simp -dsimp[hiz,hg',Ed.cs,eH,eq_false c0,wrap_i64 (n:=(i:Int)+1) (by omega) (by omega)];try refine⟨?_,⟨by kernel_rfl⟩⟩
    and_intros;all_goals try first|rfl|omega|exact⟨by kernel_rfl⟩
    exact⟨⟨(i+1,T3,B),by dsimp only;omega,i2,i3⟩,GS.to (by simp),by simp;omega⟩
  ·have hiz :¬(i:Int)<p.es.length:=by omega
   have e1:p.es.drop i = []:=List.drop_eq_nil_of_le (by omega);rw[e1,fA]at i3
   subst i3;simp -dsimp[hiz];try refine⟨?_,⟨by kernel_rfl⟩⟩
   refine ah.of (gK T3 i2 6 ⟨by omega,by omega⟩ ⟨by omega,by omega⟩) [.x 0] 0 ?_;have kO:ak (dD T3 6).2:=by simpa using i2
   generalize dD T3 6=o at kO⊢;obtain⟨o,T5⟩:=o;simp only at kO⊢;rcases (Bool.eq_false_or_eq_true o).symm with ho|ho
   ·subst ho;simp -dsimp;try refine⟨?_,⟨by kernel_rfl⟩⟩
    refine Fin.box (.o 4) rfl ?_;simp -dsimp;try refine⟨?_,⟨by kernel_rfl⟩⟩
    refine Fin.of ?_;simp[Pk.for,bv]
   ·subst ho;simp -dsimp;try refine⟨?_,⟨by kernel_rfl⟩⟩
    refine ah.of (zF T5 kO p.len hl) [.x 0] 0 ?_;generalize kE T5 p.len=gb;simp -dsimp[bv];try refine⟨?_,⟨by kernel_rfl⟩⟩
    refine Fin.box (.o 4) rfl ?_;simp -dsimp;try refine⟨?_,⟨by kernel_rfl⟩⟩
    refine Fin.of ?_;simp[Pk.for,bv]
set_option maxHeartbeats 16000000
theorem KN(b:Tb)(hb:b.Sm)(p:Pk):Contract Tryz.prog 110 [bZ b,dX p] [] (.rG [outT (jC b p).1,.d (.int .i64 (jC b p).2)]) [] []:=by
 have h1:=Ob b hb.1 hb.2;have h2:=o9 p;simp only[dX,Pk.cs,List.map]at h2;simp only[bZ]at h1;obtain⟨w,hw⟩:∃w,w=jC b p:=⟨_,rfl⟩
 rw[←hw];refine aj Tryz.func110 rfl (fun E0=>?_);refine cO.sound (g:=.mk) (ow:=[]) (kp:=(fun k=>k==0||k==1||k==2||k==3||k==4||k==5||k==13||k==17||k==30)) ?_;rw[Tryz.ntmps110];simp -dsimp[bZ,dX,Pk.cs];refine ah.of h1 [] 0 ?_;by_cases c1:chk b=0
 case neg=>
  have vw:w=(iC,1):=hw.trans (by unfold jC;rw[if_pos (.inl c1)]);simp -dsimp[c1];and_intros;all_goals try first|rfl|omega|exact⟨by kernel_rfl⟩
  refine Fin.box (.o 4) rfl ?_;simp -dsimp;refine Fin.of ?_;simp[vw,outT,iC,bv]
 simp -dsimp[c1];and_intros;all_goals try first|rfl|omega|exact⟨by kernel_rfl⟩
 refine ah.of h2 [] 0 ?_;rcases (Bool.eq_false_or_eq_true p.ok).symm with c2|c2
 ·have vw:w=(iC,1):=hw.trans (by unfold jC;rw[if_pos (.inr c2)]);simp -dsimp[c2];and_intros;all_goals try first|rfl|omega|exact⟨by kernel_rfl⟩
  refine Fin.box (.o 4) rfl ?_;simp -dsimp;refine Fin.of ?_;simp[vw,outT,iC,bv]
 by_cases c3:p.mode=2
 ·have vw:w=(iC,7):=hw.trans (by unfold jC;rw[if_neg (by simp[c1,c2]),if_pos c3]);simp -dsimp[c2,eq_true c3];and_intros;all_goals try first|rfl|omega|exact⟨by kernel_rfl⟩
  refine Fin.box (.o 4) rfl ?_;simp -dsimp;refine Fin.of ?_;simp[vw,outT,iC,bv]
 by_cases c4:p.bF=b.sd
 case neg=>
  have vw:w=(iC,8):=hw.trans (by unfold jC;rw[if_neg (by simp[c1,c2]),if_neg c3,if_pos (.inl fun e=>c4 e.symm)]);simp -dsimp[c2,eq_false c3,eq_false c4];and_intros;all_goals try first|rfl|omega|exact⟨by kernel_rfl⟩
  refine Fin.box (.o 4) rfl ?_;simp -dsimp;refine Fin.of ?_;simp[vw,outT,iC,bv]
 by_cases c5:p.len=b.len
 case neg=>
  have vw:w=(iC,8):=hw.trans (by unfold jC;rw[if_neg (by simp[c1,c2]),if_neg c3,if_pos (.inr fun e=>c5 e.symm)]);simp -dsimp[c2,eq_false c3,eq_true c4,eq_false c5];and_intros;all_goals try first|rfl|omega|exact⟨by kernel_rfl⟩
  refine Fin.box (.o 4) rfl ?_;simp -dsimp;refine Fin.of ?_;simp[vw,outT,iC,bv]
 have vw:w=(iH b p,0):=hw.trans (by unfold jC;rw[if_neg (by simp[c1,c2]),if_neg c3,if_neg (by simp[c4,c5])]);have h3:=Kt b hb p c1 c2 c5.symm;simp only[bZ,dX,Pk.cs,List.map]at h3;have e:w.1=iH b p:=by rw[vw]
 rw[←e]at h3
 have e2:w.2=0:=by rw[vw]
 rw[e2];generalize w.1=o at h3⊢;obtain⟨lC,fP,bP⟩:=o;simp only[outT]at h3;simp -dsimp[c2,eq_false c3,eq_true c4,eq_true c5];and_intros;all_goals try first|rfl|omega|exact⟨by kernel_rfl⟩
 refine ah.of h3 [] 0 ?_;simp -dsimp;and_intros;all_goals try first|rfl|omega|exact⟨by kernel_rfl⟩
 refine Fin.of ?_;simp[outT]
theorem dU{n:Int}(h:aG n=true):n=8∨n=16∨n=32∨n=64:=by
 simp[aG]at h;omega
theorem lY{len:Int}(hl:aG len=true){k:Nat}(hk:k<64):(tN len).getLsbD k=decide ((k:Int)<len):=by
 have:=dU hl;rw[tN,if_pos hl,zK hk _ (by omega)]
 congr 1
 rw[eq_iff_iff];omega
theorem wY{B:BitVec 64}{len:Int}(hl:aG len=true)(h:∀k<64,B.getLsbD k=true→(k:Int)<len):nG B len=true:=by
 simp only[nG,hl,Bool.true_and,decide_eq_true_eq];apply BitVec.eq_of_getLsbD_eq;intro k hk;rw[BitVec.getLsbD_and,BitVec.getLsbD_not,lY hl hk];simp only[hk,decide_true,Bool.true_and,BitVec.getLsbD_zero];cases hb:B.getLsbD k with
 | false=>rfl
 | true=>simp[h k hk hb]
theorem yE{j:Int}{k:Nat}(hk:k<64):(lS j).getLsbD k=true↔(k:Int)=j:=by
 unfold lS;split
 ·rename_i h;simp;omega
 ·rename_i h;rw[wrap_u64 (by omega) (by omega),j_ (by omega) hk];simp;omega
theorem y7{id len:Int}(hl:aG len=true):gG id len<len∧0≤gG id len:=by
 have:=dU hl;unfold gG;split
 ·have h1:=Int.emod_lt_of_pos (id-1) (b:=len) (by omega);have h2:=Int.emod_nonneg (id-1) (b:=len) (by omega);omega
 ·omega
theorem uH{id len:Int}(hl:aG len=true):0≤fJ id len∧fJ id len≤31:=by
 have:=dU hl;unfold fJ;split
 ·rename_i h;simp only[Bool.and_eq_true,inB,decide_eq_true_eq]at h;have h1:0≤(id-1)/len:=Int.ediv_nonneg (by omega) (by omega);have h2:(id-1)/len≤(id-1)/8:=by
   rcases this with rfl|rfl|rfl|rfl<;>omega
  omega
 ·omega
theorem iE{len set:Int}(hl:aG len=true):∀(es:List Ed) (T:Tp) (B:BitVec 64),(∀k<64,B.getLsbD k=true→(k:Int)<len)→∀k<64,(fA len set es T B).1.getLsbD k=true→(k:Int)<len
 | [],_,_,h=>h
 | e::es,T,B,h=>by
   rw[fA];split
   ·split
    ·refine iE hl es _ _ fun k hk hb=>?_
     rcases (or_bit B (lS (gG e.id len))).1 hb with hb|hb
     ·exact h k hk hb
     ·have:=(yE hk).1 hb;have:=(y7 (id:=e.id) hl).1;omega
    ·exact iE hl es _ _ h
   ·exact iE hl es _ _ h
theorem uf(T:Tp){len:Int}(hl:aG len=true):∀k<64,(kE T len).1.getLsbD k=true→(k:Int)<len:=fun k hk hb=>by
 have key:∀X:BitVec 64,(X&&&tN len).getLsbD k=true→(k:Int)<len:=fun X hX=>by
  rw[BitVec.getLsbD_and,Bool.and_eq_true,lY hl hk]at hX
  simpa using hX.2
 unfold kE at hb;dsimp only at hb;split at hb
 ·simp at hb
 split at hb
 ·exact key _ hb
 split at hb
 ·exact key _ hb
 ·exact key _ hb
theorem zV(p:Pk):p.ok=true↔(1≤p.mode∧p.mode≤3)∧(0≤p.bF∧p.bF≤7)∧(0≤p.set∧p.set≤31)∧nG p.bits p.len=true∧(0≤p.ttl∧p.ttl≤63)∧(0≤p.ent∧p.ent≤1023)∧(0≤p.ing∧p.ing≤256)∧(0≤p.proto∧p.proto≤7)∧p.pay.size≤64:=by
 simp[Pk.ok,wS,and_assoc]
theorem yL{p:Pn}{q:Pk}(hs:0≤p.bF∧p.bF≤7)(hl:aG p.len=true)(hq:(0≤q.ttl∧q.ttl≤63)∧(0≤q.ent∧q.ent≤1023)∧(0≤q.ing∧q.ing≤256)∧(0≤q.proto∧q.proto≤7)∧q.pay.size≤64){set:Int}(hset:0≤set∧set≤31)
  {B:BitVec 64} (hB:∀k<64,B.getLsbD k=true→(k:Int)<p.len):zo p (q.for p.bF p.len set B):=by
 have hv:=wY hl hB;exact⟨(zV _).2 ⟨⟨by show(1:Int)≤1;omega,by show(1:Int)≤3;omega⟩,hs,hset,hv,hq.1,hq.2.1,hq.2.2.1,hq.2.2.2.1,hq.2.2.2.2⟩,rfl,rfl,rfl⟩
theorem oZ(T:Tp):bY T 0=Bg T:=by
 simp[bY]
theorem ug(T:Tp){p:Pn}(hs:0≤p.bF∧p.bF≤7)(hl:aG p.len=true):zo p (mM T p).1:=by
 have hpk:∀q,q=(bY T 0).1→(0≤q.ttl∧q.ttl≤63)∧(0≤q.ent∧q.ent≤1023)∧(0≤q.ing∧q.ing≤256)∧(0≤q.proto∧q.proto≤7)∧q.pay.size≤64:=fun q hq=>by
  rw[oZ]at hq
  obtain⟨L,m,d,s,t,e,i,pr,y,B,w,T',h1,_,h2,h3,h4,h5,h6,_⟩:=um T;rw[h1]at hq
  subst hq;exact⟨h2,h3,h4,h5,by simp only;omega⟩
 have hset:∀T',0≤(jB T' p).1∧(jB T' p).1≤31:=fun T'=>by
  unfold jB;split
  ·simp
  ·exact uH hl
 unfold mM;simp only;have hq:=hpk _ rfl;have hb:=iE (set:=(jB (bY T 0).2 p).1) hl p.es (jB (bY T 0).2 p).2 0#64 (by simp);split
 ·refine yL hs hl hq (hset _) fun k hk hk2=>?_
  rcases (or_bit _ _).1 hk2 with hk2|hk2
  ·exact hb k hk hk2
  ·exact uf _ hl k hk hk2
 ·exact yL hs hl hq (hset _) hb
theorem JG(f:Fr)(hf:f.rt.length≤1000000):Contract Tryz.prog 26 [xK f,xK f] [] (.d (.bool true)) [] []:=by
 have h1:=yU f.rt f.rt hf;simp only[decide_true,ints]at h1;refine aj Tryz.func26 rfl (fun E0=>?_);refine cO.sound (g:=.mk) (ow:=[]) (kp:=(fun k=>k==0||k==1||k==2||k==3||k==4)) ?_;rw[Tryz.ntmps26];simp -dsimp[xK,vH,ints,Pk.cs,bv];and_intros;all_goals try first|rfl|omega|exact⟨by kernel_rfl⟩
 refine ah.of h1 [] 0 ?_;simp -dsimp;and_intros;all_goals try first|rfl|omega|exact⟨by kernel_rfl⟩
 refine Fin.of ?_;simp
theorem Qy(o:Ox)(ho:o.g_.length≤1000000)(hr:∀c∈o.g_,c.2.rt.length≤1000000):Contract Tryz.prog 37 [nD o,nD o] [] (.d (.bool true)) [] []:=by
 obtain⟨lC,fP,bP⟩:=o;simp only at ho hr;refine aj Tryz.func37 rfl (fun E0=>?_);refine cO.sound (g:=.mk) (ow:=[]) (kp:=(fun k=>k==0||k==1||k==2||k==3||k==4||k==5||k==26||k==31||k==62)) ?_;rw[Tryz.ntmps37];simp -dsimp[nD,bv];and_intros;all_goals try first|rfl|omega|exact⟨by kernel_rfl⟩
 refine aN.of [] (fun k=>k==0||k==1||k==2||k==3||k==4||k==5||k==26||k==31||k==62) (ι:={i:Nat // i≤bP.length})
  (fun z=>[(Pl.o 2,It.box [TV.d (bv lC),TV.d (bv fP),TV.d (.sl (bP.map n_))]),(Pl.s 2,It.v (.ptr (Pl.o 2) 0)),(Pl.o 3,It.box [TV.d (bv lC),TV.d (bv fP),TV.d (.sl (bP.map n_))]),(Pl.s 3,It.v (.ptr (Pl.o 3) 0)),(Pl.s 5,It.v (.d (.int .i64 z.1)))])
  (fun z=>bP.length-z.1) ⟨0,by omega⟩ ?_ ?_
 ·exact GS.to (by simp[bv])
 rintro⟨i,i1⟩;by_cases hi:i<bP.length
 ·have hiz:(i:Int)<bP.length:=by omega
  have hg:bP[i]? = some bP[i]:=List.getElem?_eq_getElem hi;have hm:=hr bP[i] (List.getElem_mem hi);generalize bP[i]=c at hg hm;obtain⟨c1,⟨cr,c2⟩⟩:=c;have hs:=JG ⟨cr,c2⟩ hm;simp only[xK,vH,ints,Pk.cs,List.map]at hs;simp -dsimp[hiz,hg,n_,ints,Pk.cs];and_intros;all_goals try first|omega|exact⟨by kernel_rfl⟩|rfl
  refine ah.of hs [] 0 ?_;simp -dsimp[wrap_i64 (n:=(i:Int)+1) (by omega) (by omega)];and_intros;all_goals try first|omega|exact⟨by kernel_rfl⟩|rfl
  exact⟨⟨i+1,by omega⟩,GS.to (by simp[bv]),by simp;omega⟩
 ·have hiz :¬(i:Int)<bP.length:=by omega
  simp -dsimp[hiz];and_intros;all_goals try first|rfl|omega|exact⟨by kernel_rfl⟩
  refine Fin.of ?_;simp
theorem TR(T:Tp)(hT:ak T)(a b:Int)(h :-1000≤a∧a≤b∧b≤1000):Contract Tryz.prog 34 [.ptr (.x 0) 0,.d (.int .i64 a),.d (.int .i64 b)] [aJ T] (.d (.int .i64 (aT T a b).1)) [aJ (aT T a b).2] []:=by
 have h1:=aS T a b;have h2:=aQ T (a:=a) (b:=b) (by omega);exact dw T hT a b ⟨by omega,by omega⟩ ⟨by omega,by omega⟩ ⟨by omega,by omega⟩ ⟨by omega,by omega⟩
end Go.Proofs
