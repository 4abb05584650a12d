/-
  What functions of the program compute, stated as contracts over plain data; the conditions of each stand in its own statement.
-/
import Derived.Test.YtboimfkommpglaaGreatDoorZA28
import Derived.Test.YtboimfkommpglaaGreatDoorZA57
import Derived.Test.YtboimfkommpglaaGreatDoorZA27
import Derived.Test.YtboimfkommpglaaGreatDoorZA29
import Derived.Test.YtboimfkommpglaaGreatDoorZA20
import Derived.Test.YtboimfkommpglaaGreatDoorZA12
import Derived.Test.YtboimfkommpglaaGreatDoorZA19
set_option linter.unusedSimpArgs false
set_option linter.unusedVariables false
set_option maxRecDepth 100000
namespace Go.Proofs
open Go Go.Tr
theorem kV(T:Tp)(rs:List Rt):dh T rs 0=((bJ T rs).1,(bJ T rs).2.2):=by
 simp[dh]
structure QC(most:Int)(g:ay)(p:Pn)(l:List Tb):Prop where
 top:zq most g
 plan:d_ p=true
 len:aG p.len=true
 bF:0≤p.bF∧p.bF≤7
 tab:l=tabs g p g.rs
theorem qj{rs rs':List Rt}(h:rs.map (·.id)=rs'.map (·.id))(len x:Int)(T:Tp)(id:Int)(l:List Ed):aV rs len x T id l=aV rs' len x T id l:=by
 have e:∀i:Nat,(rs.getD i ⟨0,false⟩).id=(rs'.getD i ⟨0,false⟩).id:=fun i=>by
  have:=congrArg (fun l=>l[i]?) h;simp only[List.getElem?_map]at this;rw[List.getD_eq_getElem?_getD,List.getD_eq_getElem?_getD];cases h1:rs[i]? with
  | none=>
    rw[h1]at this
    cases h2:rs'[i]? with
    | none=>rfl
    | some y=>rw[h2]at this;simp at this
  | some x=>
    rw[h1]at this
    cases h2:rs'[i]? with
    | none=>rw[h2]at this;simp at this
    | some y=>rw[h2]at this;simpa using this
 unfold aV;simp only[e]
theorem jG{rs rs':List Rt}(h:rs.map (·.id)=rs'.map (·.id))(len:Int):∀(o:List Int) (T:Tp) (id:Int) (l:List Ed),aX rs len o T id l=aX rs' len o T id l
 | [],_,_,_=>rfl
 | x::o,T,id,l=>by
   rw[aX,aX,qj h,jG h]
theorem qg{rs rs':List Rt}(h:rs.map (·.id)=rs'.map (·.id))(T:Tp):bJ T rs=bJ T rs':=by
 have hl:rs.length=rs'.length:=by have:=congrArg List.length h;simpa using this
 unfold bJ;simp only[hl,jG h]
theorem qE{most:Int}{g:ay}(h:zq most g)(hm:most≤24)(T:Tp):qW (cu g.rs.length) (dh T g.rs 0).1:=by
 rw[kV]
 show qW _ (bJ T g.rs).1
 rw[qg h.ids];exact l7 T (by have:=h.n;omega)
theorem Dw{g:ay}(hg:cZ g=0){p:Pn}(hp:d_ p=true):nR (tabs g p g.rs)=0:=
 DW (Nat.le_trans (oU g p) (aU hg).nr) (m_ hg hp) (xH (aU hg) p) fun b hb c hc=>by
  have h1:=rW b hb;have h2:=rW c hc;exact⟨h1.1.trans h2.1.symm,h1.2.trans h2.2.symm⟩
theorem abo{r n:Int}(hn:1≤n∧n≤90)(hr:DJ r 1 99)(T:Tp)(x:Rw):(JV r n T x).1.id=x.id∧((JV r n T x).1.nx=x.nx∨
  ((∀y∈(JV r n T x).1.nx,DJ y 1 99)∧(JV r n T x).1.nx.length≤2∧(JV r n T x).1.nx.Pairwise (· < ·)∧¬(1<(JV r n T x).1.nx.length∧r∈(JV r n T x).1.nx))):=by
 unfold JV;simp only;split
 ·exact⟨rfl,.inl rfl⟩
 split
 ·exact⟨rfl,.inr ⟨by simp,by simp,by simp,by simp⟩⟩
 split
 ·exact⟨rfl,.inr ⟨by simpa using hr,by simp,by simp,by simp⟩⟩
 ·refine⟨rfl,?_⟩;simp only;have a1:=aC (au (dD T 3).2 4).2 (n+1);have a2:=bg (au (dD T 3).2 4).2 (n:=n+1) (by omega);generalize au (au (dD T 3).2 4).2 (n+1)=a at a1 a2;have m1:=aC a.2 n;have m2:=bg a.2 (n:=n) (by omega);generalize au a.2 n=m at m1 m2;split
  ·rename_i h;exact .inr ⟨by simp[DJ];omega,by simp,by simp;omega,by simp;omega⟩
  ·split
   ·exact .inr ⟨by simp[DJ];omega,by simp,by simp,by simp⟩
   ·exact .inl rfl
theorem Jh(r n:Int):∀(l:List Rw) (T:Tp),(o_ r n l T).1.map (·.id)=l.map (·.id)
 | [],_=>rfl
 | x::l,T=>by
   simp only[o_,List.map_cons,Jh r n l]
   congr 1
   unfold JV;simp only;split
   ·rfl
   split
   ·rfl
   split<;>rfl
theorem Jj{r n:Int}(hn:1≤n∧n≤90)(hr:DJ r 1 99):∀(l:List Rw) (T:Tp),∀y∈(o_ r n l T).1,(∃x∈l,y.id=x.id)∧((∃x∈l,y.nx=x.nx)∨
  ((∀z∈y.nx,DJ z 1 99)∧y.nx.length≤2∧y.nx.Pairwise (· < ·)∧¬(1<y.nx.length∧r∈y.nx)))
 | [],_,y,hy=>by simp[o_]at hy
 | x::l,T,y,hy=>by
   simp only[o_,List.mem_cons]at hy;rcases hy with rfl|hy
   ·obtain⟨h1,h2⟩:=abo hn hr T x;refine⟨⟨x,by simp,h1⟩,?_⟩;rcases h2 with h2|h2
    ·exact .inl ⟨x,by simp,h2⟩
    ·exact .inr h2
   ·obtain⟨⟨z,hz,e⟩,h2⟩:=Jj hn hr l _ y hy;refine⟨⟨z,by simp[hz],e⟩,?_⟩;rcases h2 with⟨w,hw,e2⟩|h2
    ·exact .inl ⟨w,by simp[hw],e2⟩
    ·exact .inr h2
theorem abp{n:Int}(hn:1≤n∧n≤90){b:Tb}(h:chk b=0)(T:Tp):chk ⟨b.r,b.sd,b.len,(o_ b.r n b.rows T).1⟩ = 0:=by
 obtain⟨h1,h2,h3,h4⟩:=uN h;have hN:=yG h;have hA:=Ls h;have hM:=Jj hn h1.1 b.rows T;have hl:=Ji b.r n b.rows T;refine Gf ⟨h1.1,h1.2.1,?_⟩ ?_ ?_ ?_ ⟨?_,fun x hx=>?_⟩ ?_
 ·simp only[hl];exact h1.2.2
 ·rintro⟨x,hx,ho⟩;obtain⟨⟨y,hy,e⟩,h5⟩:=hM x hx;rcases ho with ho|⟨z,hz,ho⟩
  ·apply ho;rw[e];exact(hN y hy).1
  ·apply ho;rcases h5 with⟨w,hw,e2⟩|h5
   ·rw[e2]at hz;exact(hN w hw).2 z hz
   ·exact h5.1 z hz
 ·simp only[hl];omega
 ·rintro⟨x,hx,hlx⟩;rcases (hM x hx).2 with⟨w,hw,e2⟩|h5
  ·rw[e2]at hlx;have:=h3 w hw;omega
  ·omega
 ·simp only[Jh];exact hA.1
 ·rcases (hM x hx).2 with⟨w,hw,e2⟩|h5
  ·rw[e2];exact hA.2 w hw
  ·exact h5.2.2.1
 ·rintro⟨x,hx,hc⟩;rcases (hM x hx).2 with⟨w,hw,e2⟩|h5
  ·rw[e2]at hc;exact h4 w hw hc
  ·exact h5.2.2.2 hc
theorem NP{n:Int}:∀(l:List Tb) (T:Tp),∀c∈(DU n l T).1,∃b∈l,∃T',c=⟨b.r,b.sd,b.len,(o_ b.r n b.rows T').1⟩
 | [],_,c,hc=>by simp[DU]at hc
 | b::l,T,c,hc=>by
   simp only[DU,List.mem_cons]at hc;rcases hc with rfl|hc
   ·exact⟨b,by simp,T,rfl⟩
   ·obtain⟨d,hd,T',e⟩:=NP l _ c hc;exact⟨d,by simp[hd],T',e⟩
theorem G8(n:Int):∀(l:List Tb) (T:Tp),(DU n l T).1.map (·.r)=l.map (·.r)
 | [],_=>rfl
 | b::l,T=>by simp only[DU,List.map_cons,G8 n l]
theorem ny{l:List Tb}{r:Int}:(bH l r).isSome↔r∈l.map (·.r):=by
 rw[bH,List.find?_isSome];simp
theorem Uh{g:ay}(hg:cZ g=0){p:Pn}(hp:d_ p=true):DN p ((tabs g p g.rs).map (·.r)) (tabs g p g.rs):=
 ⟨Dw hg hp,m_ hg hp,rW,fun r=>ny,Nat.le_trans (oU g p) (aU hg).nr⟩
theorem agu{g:ay}(hg:cZ g=0){p:Pn}(hp:d_ p=true){n:Int}(hn:1≤n∧n≤90)(T:Tp):DN p ((tabs g p g.rs).map (·.r)) (DU n (tabs g p g.rs) T).1:=by
 have hM:=NP (n:=n) (tabs g p g.rs) T;have hc:∀b∈(DU n (tabs g p g.rs) T).1,chk b=0:=fun c hc=>by
  obtain⟨b,hb,T',rfl⟩:=hM c hc;exact abp hn (m_ hg hp b hb) T'
 have hs:∀b∈(DU n (tabs g p g.rs) T).1,b.sd=p.bF∧b.len=p.len:=fun c hc=>by
  obtain⟨b,hb,T',rfl⟩:=hM c hc;exact rW b hb
 have hl:(DU n (tabs g p g.rs) T).1.length≤24:=by
  have:=congrArg List.length (G8 n (tabs g p g.rs) T);simp only[List.length_map]at this;rw[this];exact Nat.le_trans (oU g p) (aU hg).nr
 refine⟨DW hl hc ?_ fun b hb c hc=>?_,hc,hs,fun r=>?_,hl⟩
 ·have h1:=xH (aU hg) p;have h2:((tabs g p g.rs).map (·.r)).Pairwise (· < ·):=by rw[List.pairwise_map];exact h1
  rw[←G8 n (tabs g p g.rs) T,List.pairwise_map]at h2
  exact h2
 ·have h1:=hs b hb;have h2:=hs c hc;exact⟨h1.1.trans h2.1.symm,h1.2.trans h2.2.symm⟩
 ·rw[ny,G8]
theorem um(T:Tp):∃(L m d s t e i p y:Int) (B:BitVec 64) (w:List Int) (T':Tp),Bg T=(⟨m,d,s,L,t,e,i,p,B,strOf w⟩,T')∧(1≤m∧m≤3)∧(0≤t∧t≤63)∧(0≤e∧e≤1023)∧(0≤i∧i≤256)∧(0≤p∧p≤7)∧(strOf w).size≤6∧ak T'=ak T:=by
 unfold Bg;dsimp only;refine⟨_,_,_,_,_,_,_,_,0,_,_,_,rfl,⟨aS _ _ _,aQ _ (by omega)⟩,dA (p:=fun x=>0≤x∧x≤63) (by simp) (by simp),⟨aC _ _,?_⟩,dA (p:=fun x=>0≤x∧x≤256) (by simp) (by simp),⟨aC _ _,?_⟩,?_,by simp⟩
 ·have:=bg (aK (aK (aT (aT (aK T [8,8,16,32,64]).2 1 3).2 0 7).2 [0,0,1,2,31]).2 [0,1,2,5,63]).2 (n:=1024) (by omega);omega
 ·exact Int.le_of_lt_add_one (bg _ (n:=8) (by omega))
 ·exact xR _ (by omega)
set_option maxHeartbeats 4000000
theorem yC(g:ay)(hg:g.Sm)(hc:cZ g=0)(p:Pn)(a1:d_ p=true)(hp:p.es.length≤1000):Contract Tryz.prog 54 [aH g,bI p] [] (.rG [.aB 6 (tabs g p g.rs).length,.d (.int .i64 0)]) [] [(6,.row 65 4 (dd (oq (tabs g p g.rs))) false)]:=by
 have hr:=hg.r;refine aj Tryz.func54 rfl (fun E0=>?_);refine cO.sound (g:=.mk) (ow:=[]) (kp:=(fun k=>k==0||k==1||k==2||k==3||k==4||k==5||k==6||k==7||k==15||k==20||k==28)) ?_;rw[Tryz.ntmps54];simp -dsimp[aH,bI];refine ah.of (oz g hg.r hg.l) [] 0 ?_;simp -dsimp[eq_true hc,aH];refine ah.of (uQ p hp) [] 0 ?_;have hn:g.rs.length≤24:=(aU hc).nr
 simp -dsimp[eq_true hc,a1,bI];and_intros;all_goals try first|rfl|omega|exact⟨by kernel_rfl⟩
 refine aN.of [] (fun k=>k==0||k==1||k==2||k==3||k==4||k==5||k==6||k==7||k==15||k==20||k==28) (ι:={i:Nat // i≤g.rs.length∧True}) (fun z=>[(Pl.s 0,It.v (.agg [TV.d (.sl (rts g.rs)),TV.d (.sl (dO g.ls))])),(Pl.s 1,It.v (.agg [TV.d (.int .i64 p.bF),TV.d (.int .i64 p.len),TV.d (.sl (rJ p.es))])),(Pl.o 2,It.box [TV.d (.sl (rts g.rs)),TV.d (.sl (dO g.ls))]),(Pl.s 2,It.v (.ptr (Pl.o 2) 0)),(Pl.o 3,It.box [TV.d (.int .i64 p.bF),TV.d (.int .i64 p.len),TV.d (.sl (rJ p.es))]),(Pl.s 3,It.v (.ptr (Pl.o 3) 0)),(Pl.s 4,It.v (.c (Value.slice none 0 0))),(Pl.s 5,It.v (.d (.int .i64 0))),(Pl.s 6,It.v (.aB 6 (yA g p (g.rs.take z.1)).length)),(Pl.o 6,It.row 65 4 (dd (yA g p (g.rs.take z.1))) false),(Pl.s 7,It.v (.d (.int .i64 z.1)))]) (fun z=>g.rs.length-z.1) ⟨0,by omega,trivial⟩ ?_ ?_
 ·exact GS.own' (k:=6) 65 4 (by simp) (by simp) (by simp[yA,tabs])
 rintro⟨i,i1,i2⟩;by_cases hi:i<g.rs.length
 ·have hiz:(i:Int)<g.rs.length:=by omega
  have hx:g.rs[i]? = some g.rs[i]:=List.getElem?_eq_getElem hi;have ht:g.rs.take (i+1)=g.rs.take i++[g.rs[i]]:=by rw[List.take_add_one,List.getElem?_eq_getElem hi];rfl
  generalize g.rs[i]=x at hx ht;have hx':=fF hx;have hta:=FN g p (g.rs.take i) x;have htl:=FP g p (g.rs.take i);rw[←ht]at hta
  simp at htl;rcases (Bool.eq_false_or_eq_true x.cap).symm with c1|c1
  ·rw[if_neg (by simp[c1])]at hta
   simp -dsimp[hiz,hx',Rt.cs,c1,wrap_i64 (n:=(i:Int)+1) (by omega) (by omega)];and_intros;all_goals try first|rfl|omega|exact⟨by kernel_rfl⟩
   exact⟨⟨i+1,by omega,trivial⟩,GS.to (by simp[hta]),by simp;omega⟩
  ·rw[if_pos c1]at hta
   simp -dsimp[hiz,hx',Rt.cs,c1];refine ah.of (BH g hg p (by omega) x.id) [] 0 ?_;simp -dsimp[hiz,hx',Rt.cs,c1,aH,bI,bZ,bV,wrap_i64 (n:=(i:Int)+1) (by omega) (by omega)];and_intros;all_goals try first|rfl|omega|exact⟨by kernel_rfl⟩
   exact⟨⟨i+1,by omega,trivial⟩,GS.to (by simp[hta,Tb.cs,bV]),by simp;omega⟩
 ·have hiz :¬(i:Int)<g.rs.length:=by omega
  obtain rfl:i=g.rs.length:=by omega
  simp -dsimp[hiz];refine Fin.of ?_;simp[yA,oq]
def fA(len set:Int):List Ed→Tp→BitVec 64→BitVec 64×Tp
 | [],T,B=>(B,T)
 | e::es,T,B=>if fJ e.id len=set then(if 0<(au T 4).1 then fA len set es (au T 4).2 (B|||lS (gG e.id len))else fA len set es (au T 4).2 B)else fA len set es T B
def jB(T:Tp)(p:Pn):Int×Tp:=if p.es = []then(0,T)else(fJ (p.es.getD (au T p.es.length).1.toNat ⟨0,0⟩).id p.len,(au T p.es.length).2)
def mM(T:Tp)(p:Pn):Pk×Tp:=
 let q:=bY T 0
 let s:=jB q.2 p
 let b:=fA p.len s.1 p.es s.2 0#64
 let o:=dD b.2 6
 if o.1=true then(q.1.for p.bF p.len s.1 (b.1|||(kE o.2 p.len).1),(kE o.2 p.len).2)else(q.1.for p.bF p.len s.1 b.1,o.2)
theorem jq(len set:Int):∀(es:List Ed) (T:Tp) (B:BitVec 64),ak (fA len set es T B).2=ak T
 | [],_,_=>rfl
 | e::es,T,B=>by
   rw[fA];split
   ·split
    ·rw[jq];simp
    ·rw[jq];simp
   ·exact jq len set es T B
theorem yK(T:Tp)(p:Pn):ak (jB T p).2=ak T:=by
 unfold jB;split
 ·rfl
 ·simp
theorem yM(T:Tp)(p:Pn):ak (mM T p).2=ak T:=by
 unfold mM;simp only;split<;>simp[jq,yK]
theorem Ih(T:Tp)(hT:ak T)(p:Pn)(hp:p.es.length≤1000)(l0:p.len≠0)(hl:I64 p.len):Contract Tryz.prog 29 [.ptr (.x 0) 0,bI p] [aJ T] (dX (mM T p).1) [aJ (mM T p).2] []:=by
 refine aj Tryz.func29 rfl (fun E0=>?_);refine cO.sound (g:=.mk) (ow:=[]) (kp:=(fun k=>k==0||k==1||k==3||k==4||k==5||k==6||k==7||k==8||k==23||k==28||k==51||k==75||k==83)) ?_;rw[Tryz.ntmps29];simp -dsimp[bI];try refine⟨?_,⟨by kernel_rfl⟩⟩
 refine ah.of (wC T hT 0 ⟨by omega,by omega⟩) [.x 0] 0 ?_;have kQ:ak (bY T 0).2:=by simpa using hT
 unfold mM;simp only;generalize bY T 0=q at kQ⊢;obtain⟨q,T1⟩:=q;simp only at kQ⊢;simp only[dX,Pk.cs,List.map];by_cases e0:p.es = []
 ·have eS:jB T1 p=(0,T1):=by rw[jB,if_pos e0]
  rw[eS];simp -dsimp[l0,e0];try refine⟨?_,⟨by kernel_rfl⟩⟩
  refine aN.of [] (fun k=>k==0||k==1||k==3||k==4||k==5||k==6||k==7||k==8||k==23||k==28||k==51||k==75||k==83) (ι:={z:Nat×Tp×BitVec 64 // z.1≤p.es.length∧ak z.2.1∧fA p.len 0 p.es T1 0#64=fA p.len 0 (p.es.drop z.1) z.2.1 z.2.2})
   (fun z=>[(Pl.s 0,It.v (.ptr (Pl.x 0) 0)),(Pl.x 0,aJ z.1.2.1),(Pl.o 3,It.box [TV.d (.int .i64 p.bF),TV.d (.int .i64 p.len),TV.d (.sl (rJ p.es))]),(Pl.s 3,It.v (.ptr (Pl.o 3) 0)),
    (Pl.o 4,It.box [TV.d (.int .i64 0),TV.d (.int .i64 0),TV.d (.int .i64 0),TV.d (.int .i64 0),TV.d (.int .i64 0),TV.d (.int .i64 0),TV.d (.int .i64 0),TV.d (.int .i64 0),TV.d (.int IntKind.u64 0),TV.d (.str ⟨#[]⟩)]),
    (Pl.s 4,It.v (.ptr (Pl.o 4) 0)),
    (Pl.o 5,It.box [TV.d (.int .i64 1),TV.d (.int .i64 p.bF),TV.d (.int .i64 0),TV.d (.int .i64 p.len),TV.d (.int .i64 q.ttl),TV.d (.int .i64 q.ent),TV.d (.int .i64 q.ing),TV.d (.int .i64 q.proto),TV.d (.int IntKind.u64 (tn z.1.2.2)),TV.d (.str q.pay)]),
    (Pl.s 5,It.v (.ptr (Pl.o 5) 0)),(Pl.s 6,It.v (.d (.int .i64 z.1.1)))])
   (fun z=>p.es.length-z.1.1) ⟨(0,T1,0#64),by simp,kQ,rfl⟩ ?_ ?_
  ·exact GS.to (by simp[e0])
  generalize fA p.len 0 p.es T1 0#64=X;rintro⟨⟨i,T3,B⟩,i1,i2,i3⟩;simp only at i1 i2 i3;by_cases hi:i<p.es.length
  ·have hiz:(i:Int)<p.es.length:=by omega
   have hg:p.es[i]? = some p.es[i]:=List.getElem?_eq_getElem hi;have hd:p.es.drop i=p.es[i]::p.es.drop (i+1):=List.drop_eq_getElem_cons hi;generalize p.es[i]=y at hg hd;have hg':=mP hg;rw[hd,fA]at i3
   have pb:=plB y.id p.len;have hbc:=uD (gG y.id p.len);simp -dsimp[hiz,hg',Ed.cs];try refine⟨?_,⟨by kernel_rfl⟩⟩
   and_intros;all_goals try first|rfl|omega|exact⟨by kernel_rfl⟩
   refine ah.of (kU y.id p.len) [] 0 ?_;simp only[eH];generalize fJ y.id p.len=sy at i3 pb;generalize gG y.id p.len=QS at i3 pb hbc;by_cases c0:sy=0
   ·rw[if_pos c0]at i3
    simp -dsimp[hiz,hg',Ed.cs,eH,eq_true c0];try refine⟨?_,⟨by kernel_rfl⟩⟩
    refine ah.of (bn T3 i2 4 ⟨by omega,by omega⟩) [.x 0] 0 ?_;have n1:=aC T3 4;have kS:ak (au T3 4).2:=by simpa using i2
    generalize au T3 4=m4 at n1 kS i3⊢;obtain⟨m4,T4⟩:=m4;simp only at n1 kS i3⊢;by_cases c1:0<m4
    ·rw[if_pos c1]at i3
     simp -dsimp[c1];try refine⟨?_,⟨by kernel_rfl⟩⟩
     refine ah.of hbc [] 0 ?_;simp -dsimp[bv,wrap_i64 (n:=(i:Int)+1) (by omega) (by omega)];try refine⟨?_,⟨by kernel_rfl⟩⟩
     and_intros;all_goals try first|rfl|omega|exact⟨by kernel_rfl⟩
     exact⟨⟨(i+1,T4,B|||lS QS),by dsimp only;omega,kS,i3⟩,GS.to (by simp),by simp;omega⟩
    ·rw[if_neg c1]at i3
     simp -dsimp[c1,wrap_i64 (n:=(i:Int)+1) (by omega) (by omega)];try refine⟨?_,⟨by kernel_rfl⟩⟩
     and_intros;all_goals try first|rfl|omega|exact⟨by kernel_rfl⟩
     exact⟨⟨(i+1,T4,B),by dsimp only;omega,kS,i3⟩,GS.to (by simp),by simp;omega⟩
   ·rw[if_neg c0]at i3
    simp -dsimp[hiz,hg',Ed.cs,eH,eq_false c0,wrap_i64 (n:=(i:Int)+1) (by omega) (by omega)];try refine⟨?_,⟨by kernel_rfl⟩⟩
    and_intros;all_goals try first|rfl|omega|exact⟨by kernel_rfl⟩
    exact⟨⟨(i+1,T3,B),by dsimp only;omega,i2,i3⟩,GS.to (by simp),by simp;omega⟩
  ·have hiz :¬(i:Int)<p.es.length:=by omega
   have e1:p.es.drop i = []:=List.drop_eq_nil_of_le (by omega);rw[e1,fA]at i3
   subst i3;simp -dsimp[hiz];try refine⟨?_,⟨by kernel_rfl⟩⟩
   refine ah.of (gK T3 i2 6 ⟨by omega,by omega⟩ ⟨by omega,by omega⟩) [.x 0] 0 ?_;have kO:ak (dD T3 6).2:=by simpa using i2
   generalize dD T3 6=o at kO⊢;obtain⟨o,T5⟩:=o;simp only at kO⊢;rcases (Bool.eq_false_or_eq_true o).symm with ho|ho
   ·subst ho;simp -dsimp;try refine⟨?_,⟨by kernel_rfl⟩⟩
    refine Fin.box (.o 4) rfl ?_;simp -dsimp;try refine⟨?_,⟨by kernel_rfl⟩⟩
    refine Fin.of ?_;simp[Pk.for,bv]
   ·subst ho;simp -dsimp;try refine⟨?_,⟨by kernel_rfl⟩⟩
    refine ah.of (zF T5 kO p.len hl) [.x 0] 0 ?_;generalize kE T5 p.len=gb;simp -dsimp[bv];try refine⟨?_,⟨by kernel_rfl⟩⟩
    refine Fin.box (.o 4) rfl ?_;simp -dsimp;try refine⟨?_,⟨by kernel_rfl⟩⟩
    refine Fin.of ?_;simp[Pk.for,bv]
 ·have eS:jB T1 p=(fJ (p.es.getD (au T1 p.es.length).1.toNat ⟨0,0⟩).id p.len,(au T1 p.es.length).2):=by rw[jB,if_neg e0]
  have hlen:0<p.es.length:=List.length_pos_iff.2 e0;rw[eS];simp -dsimp[l0,e0,hlen];try refine⟨?_,⟨by kernel_rfl⟩⟩
  and_intros;all_goals try first|rfl|omega|exact⟨by kernel_rfl⟩
  refine ah.of (bn T1 kQ p.es.length ⟨by omega,by omega⟩) [.x 0] 0 ?_;have m1:=aC T1 p.es.length;have m2:=bg T1 (n:=p.es.length) (by omega);have kN:ak (au T1 p.es.length).2:=by simpa using kQ
  clear eS;generalize au T1 p.es.length=m at m1 m2 kN⊢;obtain⟨m,T2⟩:=m;simp only at m1 m2 kN⊢;obtain⟨j,rfl⟩:∃j:Nat,m=j:=⟨m.toNat,by omega⟩
  have hj:j<p.es.length:=by omega
  have hx:p.es[j]? = some p.es[j]:=List.getElem?_eq_getElem hj;have hgd:p.es.getD ((j:Int)).toNat ⟨0,0⟩ = p.es[j]:=by rw[List.getD_eq_getElem?_getD,show((j:Int)).toNat=j by omega,hx];rfl
  rw[hgd];generalize p.es[j]=x at hx;have hx':=mP hx;simp -dsimp[l0,e0,hlen,hx',Ed.cs];try refine⟨?_,⟨by kernel_rfl⟩⟩
  and_intros;all_goals try first|rfl|omega|exact⟨by kernel_rfl⟩
  refine ah.of (kU x.id p.len) [] 0 ?_;simp only[eH];generalize fJ x.id p.len=S;simp -dsimp[l0,e0,eH];try refine⟨?_,⟨by kernel_rfl⟩⟩
  refine aN.of [] (fun k=>k==0||k==1||k==3||k==4||k==5||k==6||k==7||k==8||k==23||k==28||k==51||k==75||k==83) (ι:={z:Nat×Tp×BitVec 64 // z.1≤p.es.length∧ak z.2.1∧fA p.len S p.es T2 0#64=fA p.len S (p.es.drop z.1) z.2.1 z.2.2})
   (fun z=>[(Pl.s 0,It.v (.ptr (Pl.x 0) 0)),(Pl.x 0,aJ z.1.2.1),(Pl.o 3,It.box [TV.d (.int .i64 p.bF),TV.d (.int .i64 p.len),TV.d (.sl (rJ p.es))]),(Pl.s 3,It.v (.ptr (Pl.o 3) 0)),
    (Pl.o 4,It.box [TV.d (.int .i64 0),TV.d (.int .i64 0),TV.d (.int .i64 0),TV.d (.int .i64 0),TV.d (.int .i64 0),TV.d (.int .i64 0),TV.d (.int .i64 0),TV.d (.int .i64 0),TV.d (.int IntKind.u64 0),TV.d (.str ⟨#[]⟩)]),
    (Pl.s 4,It.v (.ptr (Pl.o 4) 0)),
    (Pl.o 5,It.box [TV.d (.int .i64 1),TV.d (.int .i64 p.bF),TV.d (.int .i64 S),TV.d (.int .i64 p.len),TV.d (.int .i64 q.ttl),TV.d (.int .i64 q.ent),TV.d (.int .i64 q.ing),TV.d (.int .i64 q.proto),TV.d (.int IntKind.u64 (tn z.1.2.2)),TV.d (.str q.pay)]),
    (Pl.s 5,It.v (.ptr (Pl.o 5) 0)),(Pl.s 6,It.v (.d (.int .i64 z.1.1)))])
   (fun z=>p.es.length-z.1.1) ⟨(0,T2,0#64),by simp,kN,rfl⟩ ?_ ?_
  ·exact GS.to (by simp[e0])
  generalize fA p.len S p.es T2 0#64=X;rintro⟨⟨i,T3,B⟩,i1,i2,i3⟩;simp only at i1 i2 i3;by_cases hi:i<p.es.length
  ·have hiz:(i:Int)<p.es.length:=by omega
   have hg:p.es[i]? = some p.es[i]:=List.getElem?_eq_getElem hi;have hd:p.es.drop i=p.es[i]::p.es.drop (i+1):=List.drop_eq_getElem_cons hi;generalize p.es[i]=y at hg hd;have hg':=mP hg;rw[hd,fA]at i3
   have pb:=plB y.id p.len;have hbc:=uD (gG y.id p.len);simp -dsimp[hiz,hg',Ed.cs];try refine⟨?_,⟨by kernel_rfl⟩⟩
   and_intros;all_goals try first|rfl|omega|exact⟨by kernel_rfl⟩
   refine ah.of (kU y.id p.len) [] 0 ?_;simp only[eH];generalize fJ y.id p.len=sy at i3 pb;generalize gG y.id p.len=QS at i3 pb hbc;by_cases c0:sy=S
   ·rw[if_pos c0]at i3
    simp -dsimp[hiz,hg',Ed.cs,eH,eq_true c0];try refine⟨?_,⟨by kernel_rfl⟩⟩
    refine ah.of (bn T3 i2 4 ⟨by omega,by omega⟩) [.x 0] 0 ?_;have n1:=aC T3 4;have kS:ak (au T3 4).2:=by simpa using i2
    generalize au T3 4=m4 at n1 kS i3⊢;obtain⟨m4,T4⟩:=m4;simp only at n1 kS i3⊢;by_cases c1:0<m4
    ·rw[if_pos c1]at i3
     simp -dsimp[c1];try refine⟨?_,⟨by kernel_rfl⟩⟩
     refine ah.of hbc [] 0 ?_;simp -dsimp[bv,wrap_i64 (n:=(i:Int)+1) (by omega) (by omega)];try refine⟨?_,⟨by kernel_rfl⟩⟩
     and_intros;all_goals try first|rfl|omega|exact⟨by kernel_rfl⟩
     exact⟨⟨(i+1,T4,B|||lS QS),by dsimp only;omega,kS,i3⟩,GS.to (by simp),by simp;omega⟩
    ·rw[if_neg c1]at i3
     simp -dsimp[c1,wrap_i64 (n:=(i:Int)+1) (by omega) (by omega)];try refine⟨?_,⟨by kernel_rfl⟩⟩
     and_intros;all_goals try first|rfl|omega|exact⟨by kernel_rfl⟩
     exact⟨⟨(i+1,T4,B),by dsimp only;omega,kS,i3⟩,GS.to (by simp),by simp;omega⟩
   ·rw[if_neg c0]at i3
    simp -dsimp[hiz,hg',Ed.cs,eH,eq_false c0,wrap_i64 (n:=(i:Int)+1) (by omega) (by omega)];try refine⟨?_,⟨by kernel_rfl⟩⟩
    and_intros;all_goals try first|rfl|omega|exact⟨by kernel_rfl⟩
    exact⟨⟨(i+1,T3,B),by dsimp only;omega,i2,i3⟩,GS.to (by simp),by simp;omega⟩
  ·have hiz :¬(i:Int)<p.es.length:=by omega
   have e1:p.es.drop i = []:=List.drop_eq_nil_of_le (by omega);rw[e1,fA]at i3
   subst i3;simp -dsimp[hiz];try refine⟨?_,⟨by kernel_rfl⟩⟩
   refine ah.of (gK T3 i2 6 ⟨by omega,by omega⟩ ⟨by omega,by omega⟩) [.x 0] 0 ?_;have kO:ak (dD T3 6).2:=by simpa using i2
   generalize dD T3 6=o at kO⊢;obtain⟨o,T5⟩:=o;simp only at kO⊢;rcases (Bool.eq_false_or_eq_true o).symm with ho|ho
   ·subst ho;simp -dsimp;try refine⟨?_,⟨by kernel_rfl⟩⟩
    refine Fin.box (.o 4) rfl ?_;simp -dsimp;try refine⟨?_,⟨by kernel_rfl⟩⟩
    refine Fin.of ?_;simp[Pk.for,bv]
   ·subst ho;simp -dsimp;try refine⟨?_,⟨by kernel_rfl⟩⟩
    refine ah.of (zF T5 kO p.len hl) [.x 0] 0 ?_;generalize kE T5 p.len=gb;simp -dsimp[bv];try refine⟨?_,⟨by kernel_rfl⟩⟩
    refine Fin.box (.o 4) rfl ?_;simp -dsimp;try refine⟨?_,⟨by kernel_rfl⟩⟩
    refine Fin.of ?_;simp[Pk.for,bv]
noncomputable def jU(g:ay)(l:List Tb)(k:Nat):Nat→Int×Fr→dQ
 | 0,_=>gX
 | n+1,(r,⟨x::w,p⟩)=>if(price g.ls r x).isSome then(⟨[],[(r,x,p.bits)],[]⟩:dQ).app (jU g l k n (x,⟨w,p⟩))else ⟨[],[],[(r,p.bits)]⟩
 | n+1,(r,⟨[],p⟩)=>match bH l r with
   | none=>⟨[],[],[(r,p.bits)]⟩
   | some b=>if aF b p k=0 then ⟨[],[],[(r,(iD g l (r,⟨[],p⟩)).lost)]⟩
     else if aF b p k=b.r then ⟨[(r,f_ p k)],[],[]⟩
     else if p.ttl=0 then ⟨[],[],[(r,(iD g l (r,⟨[],p⟩)).lost)]⟩
     else match jZ g r (aF b p k,qJ b p (aF b p k))with
      | none=>⟨[],[],[(r,(iD g l (r,⟨[],p⟩)).lost)]⟩
      | some x=>(⟨[],[(r,x.1,x.2.pk.bits)],[]⟩:dQ).app (jU g l k n x)
theorem pU(g:ay)(l:List Tb)(k n:Nat)(r x:Int)(w:List Int)(p:Pk):jU g l k (n+1) (r,⟨x::w,p⟩) =
  if(price g.ls r x).isSome then(⟨[],[(r,x,p.bits)],[]⟩:dQ).app (jU g l k n (x,⟨w,p⟩))else ⟨[],[],[(r,p.bits)]⟩:=by rw[jU]
theorem oJ{g:ay}{l:List Tb}{k n:Nat}{r:Int}{p:Pk}(h:bH l r=none):jU g l k (n+1) (r,⟨[],p⟩)=⟨[],[],[(r,p.bits)]⟩:=by rw[jU];simp only[h]
theorem iU{g:ay}{l:List Tb}{k n:Nat}{r:Int}{p:Pk}{b:Tb}(h:bH l r=some b):jU g l k (n+1) (r,⟨[],p⟩) =
  if aF b p k=0 then ⟨[],[],[(r,(iD g l (r,⟨[],p⟩)).lost)]⟩
   else if aF b p k=b.r then ⟨[(r,f_ p k)],[],[]⟩
   else if p.ttl=0 then ⟨[],[],[(r,(iD g l (r,⟨[],p⟩)).lost)]⟩
   else match jZ g r (aF b p k,qJ b p (aF b p k))with
    | none=>⟨[],[],[(r,(iD g l (r,⟨[],p⟩)).lost)]⟩
    | some x=>(⟨[],[(r,x.1,x.2.pk.bits)],[]⟩:dQ).app (jU g l k n x):=by rw[jU];simp only[h]
def iJ(f:Fr):Nat:=f.pk.ttl.toNat*26+f.rt.length+1
noncomputable def alg(g:ay)(l:List Tb)(k:Nat):List (Int×Fr)→dQ
 | []=>gX
 | q::_=>jU g l k (iJ q.2) q
theorem AY{g:ay}{l:List Tb}{q:Int×Fr}(h:w_ g l q)(hloc:∀k<64,(iD g l q).loc.getLsbD k=true→q.2.pk.bits.getLsbD k=true)(t:dQ){k:Nat}(hk:k<64):
  (jw g l q t).at k=(t.at k).app ⟨if(iD g l q).loc.getLsbD k=true then [(q.1,f_ q.2.pk k)]else [],((eP g l q).filter fun c=>c.2.pk.bits.getLsbD k).map (fun c=>(q.1,c.1,c.2.pk.bits)),if(iD g l q).lost.getLsbD k=true then [(q.1,(iD g l q).lost)]else []⟩:=by
 simp only[jw,dQ.at,dQ.app,List.filter_append];rw[Au,Gx h.fit.ok hloc q.1 hk,Gy,List.filter_map];rfl
theorem Je{g:ay}{l:List Tb}{q:Int×Fr}(h:w_ g l q)(t:dQ){k:Nat}(hk:k<64)(hq:q.2.pk.bits.getLsbD k=true){m:Nat}(hm:iJ q.2≤m+1):
  ((eP g l q).filter fun c=>c.2.pk.bits.getLsbD k).length≤1∧(∀c∈(eP g l q).filter fun c=>c.2.pk.bits.getLsbD k,iJ c.2≤m)∧
  ((jw g l q t).at k).app (match (eP g l q).filter fun c=>c.2.pk.bits.getLsbD k with|[]=>gX|c::_=>jU g l k m c)=(t.at k).app (jU g l k (m+1) q):=by
 rw[AY h (Dh h) t hk,dQ.zC];obtain⟨r,f,p⟩:=q;cases f with
 | cons n w=>
   unfold eP;rw[pJ h];simp only at hq;rw[pU];unfold qP;split
   ·simp only[iJ,List.length_cons]at hm;simp[List.filter_cons,hq,dQ.app,gX,iJ];omega
   ·simp[hq,dQ.app,gX]
 | nil=>
   simp only at hq;cases hf:bH l r with
   | none=>
     unfold eP;rw[uO h hf,oJ hf];simp[hq,dQ.app,gX]
   | some b=>
     have hb:=h.fit.all b (eY hf).1;obtain⟨hl,hn,hs⟩:=Df h hf hk;simp only[hq,true_and]at hl hn hs;rw[hn,iU hf];by_cases c0:aF b p k=0
     ·have l1 :¬(iD g l (r,⟨[],p⟩)).loc.getLsbD k=true:=fun a=>(hl.1 a).1 c0
      have l2:(iD g l (r,⟨[],p⟩)).lost.getLsbD k=true:=hs.2 (.inl c0);rw[if_neg l1,if_neg (fun a=>a.2.1 c0),if_pos l2,if_pos c0];simp[dQ.app,gX]
     by_cases c1:aF b p k=b.r
     ·have l1:(iD g l (r,⟨[],p⟩)).loc.getLsbD k=true:=hl.2 ⟨c0,c1⟩;have l2 :¬(iD g l (r,⟨[],p⟩)).lost.getLsbD k=true:=fun a=>by
       rcases hs.1 a with a|a
       ·exact c0 a
       ·exact a.1 c1
      rw[if_pos l1,if_neg (fun a=>a.2.2 c1),if_neg l2,if_neg c0,if_pos c1];simp[dQ.app,gX]
     have l1 :¬(iD g l (r,⟨[],p⟩)).loc.getLsbD k=true:=fun a=>c1 (hl.1 a).2
     by_cases c2:p.ttl=0
     ·have l2:(iD g l (r,⟨[],p⟩)).lost.getLsbD k=true:=hs.2 (.inr ⟨c1,.inl c2⟩);rw[if_neg l1,if_neg (fun a=>a.1 c2),if_pos l2,if_neg c0,if_neg c1,if_pos c2];simp[dQ.app,gX]
     ·rw[if_neg l1,if_pos ⟨c2,c0,c1⟩,if_neg c0,if_neg c1,if_neg c2];cases hx:jZ g r (aF b p k,qJ b p (aF b p k))with
      | none=>
        have l2:(iD g l (r,⟨[],p⟩)).lost.getLsbD k=true:=hs.2 (.inr ⟨c1,.inr hx⟩);rw[if_pos l2];simp[dQ.app,gX]
      | some x=>
        have l2 :¬(iD g l (r,⟨[],p⟩)).lost.getLsbD k=true:=fun a=>by
         rcases hs.1 a with a|a
         ·exact c0 a
         ·rcases a.2 with a|a
          ·exact c2 a
          ·rw[hx]at a;simp at a
        rw[if_neg l2];have ht:=qA h.fit.ok;simp only at ht;obtain⟨x1,x2,x3⟩:=qU hx;have e:(qJ b p (aF b p k)).ttl.toNat+1=p.ttl.toNat:=by simp only[qJ,ji];omega
        simp only[Option.toList_some,List.length_singleton,List.mem_singleton,forall_eq,List.map_cons,List.map_nil];refine⟨by omega,?_,?_⟩
        ·simp only[iJ,x1,List.length_nil]at hm⊢;omega
        ·simp[dQ.app]
theorem FM{g:ay}{l:List Tb}{q:Int×Fr}(h:w_ g l q)(t:dQ){k:Nat}(hk:k<64)(hq :¬q.2.pk.bits.getLsbD k=true):
  ((eP g l q).filter fun c=>c.2.pk.bits.getLsbD k) = []∧(jw g l q t).at k=t.at k:=by
 rw[AY h (Dh h) t hk];obtain⟨r,f,p⟩:=q;simp only[Bool.not_eq_true]at hq;cases f with
 | cons n w=>
   unfold eP;rw[pJ h];unfold qP;split
   ·simp[List.filter_cons,hq,dQ.app]
   ·simp[hq,dQ.app]
 | nil=>
   cases hf:bH l r with
   | none=>
     unfold eP;rw[uO h hf];simp[hq,dQ.app]
   | some b=>
     obtain⟨hl,hn,hs⟩:=Df h hf hk;simp only[hq,Bool.false_eq_true,false_and,iff_false,if_false]at hl hn hs;rw[hn,if_neg hl,if_neg hs];exact⟨rfl,by simp[dQ.app]⟩
theorem vF(g:ay)(l:List Tb){k:Nat}(hk:k<64):∀(n:Nat) (Q:List (Int×Fr)) (t:dQ) (m:Nat),tH Q≤n→(∀q∈Q,w_ g l q)→(Q.filter fun c=>c.2.pk.bits.getLsbD k).length≤1→
  (∀q∈Q.filter (fun c=>c.2.pk.bits.getLsbD k),iJ q.2≤m)→
  (pR g l n Q t).at k=(t.at k).app (match Q.filter fun c=>c.2.pk.bits.getLsbD k with|[]=>gX|c::_=>jU g l k m c)
 | 0,Q,t,m,h,_,_,_=>by
   have:=xC Q;obtain rfl:Q = []:=List.length_eq_zero_iff.1 (by omega);simp[lN,dQ.u_]
 | n+1,[],t,m,_,_,_,_=>by simp[lN,dQ.u_]
 | n+1,q::Q,t,m,h,hF,h1,h2=>by
   have hq:=yY g l q;rw[tq]at h
   have MB:=hF q (by simp);have hF':∀c∈Q++eP g l q,w_ g l c:=fun c hc=>by
    rcases List.mem_append.1 hc with hc|hc
    ·exact hF c (by simp[hc])
    ·exact yZ MB c hc
   rw[pR];have hw:tH (Q++eP g l q)≤n:=by rw[xI];omega
   by_cases hb:q.2.pk.bits.getLsbD k=true
   ·rw[List.filter_cons,if_pos hb]at h1 h2⊢
    simp only[List.length_cons]at h1;have hQ:Q.filter (fun c=>c.2.pk.bits.getLsbD k) = []:=List.length_eq_zero_iff.1 (by omega);have hm:=h2 q (by simp);obtain⟨m',rfl⟩:∃m',m=m'+1:=⟨m-1,by unfold iJ at hm;omega⟩
    obtain⟨a1,a3,a2⟩:=Je MB t hk hb hm;rw[vF g l hk n _ _ m' hw hF' (by rw[List.filter_append,hQ];simpa using a1) (by rw[List.filter_append,hQ,List.nil_append];exact a3),List.filter_append,hQ,List.nil_append,a2]
   ·rw[List.filter_cons,if_neg hb]at h1 h2⊢
    obtain⟨a1,a2⟩:=FM MB t hk hb;rw[vF g l hk n _ _ m hw hF' (by rw[List.filter_append,a1,List.append_nil];exact h1) (by rw[List.filter_append,a1,List.append_nil];exact h2),List.filter_append,a1,List.append_nil,a2]
theorem GZ{g:ay}{l:List Tb}{r:Int}{p:Pk}(h:w_ g l (r,⟨[],p⟩)){k:Nat}(hk:k<64)(hb:p.bits.getLsbD k=true):(runT g l r p).at k=jU g l k (iJ ⟨[],p⟩) (r,⟨[],p⟩):=by
 unfold runT;rw[vF g l hk _ _ _ (iJ ⟨[],p⟩) (by simp[tH]) (by simpa using h) (by simp[List.filter_cons];split<;>simp) (by simp[List.filter_cons,hb])];simp[List.filter_cons,hb,dQ.at,gX,dQ.app]
theorem Dq{g:ay}{l:List Tb}{r:Int}{p:Pk}(h:w_ g l (r,⟨[],p⟩)){k:Nat}(hk:k<64)(hb :¬p.bits.getLsbD k=true):(runT g l r p).at k=gX:=by
 unfold runT;rw[vF g l hk _ _ _ (iJ ⟨[],p⟩) (by simp[tH]) (by simpa using h) (by simp[List.filter_cons,hb]) (by simp[List.filter_cons,hb])];simp[List.filter_cons,hb,dQ.at,gX,dQ.app]
theorem AU{g:ay}{l:List Tb}{I:List (Int×Fr)→dQ→Prop}(hs:∀q Q t,I (q::Q) t→I (Q++eP g l q) (jw g l q t)):∀(n:Nat) (Q:List (Int×Fr)) (t:dQ),tH Q≤n→I Q t→I [] (pR g l n Q t)
 | 0,Q,t,h,hI=>by
   have:=xC Q;obtain rfl:Q = []:=List.length_eq_zero_iff.1 (by omega);rw[lN];exact hI
 | n+1,[],t,_,hI=>by rw[lN];exact hI
 | n+1,q::Q,t,h,hI=>by
   have hq:=yY g l q;rw[tq]at h
   rw[pR];exact AU hs n _ _ (by rw[xI];omega) (hs q Q t hI)
theorem zf{g:ay}{l:List Tb}{r:Int}{p:Pk}(h:w_ g l (r,⟨[],p⟩))(hr:(bH l r).isSome):Wi g l [] (runT g l r p):=
 AU (I:=Wi g l) (fun q Q t h=>h.step) _ _ _ (by simp[tH]) ⟨fun q hq=>by
  simp only[List.mem_singleton]at hq;subst hq;exact⟨h,fun e=>by rcases e with e|e<;>simp[e]at hr e⟩,by simp[gX],by simp[gX],by simp[gX]⟩
theorem DC(g:ay)(l:List Tb)(k:Nat):∀(m:Nat) (q:Int×Fr),w_ g l q→iJ q.2≤m→(jU g l k m q).dl.length+(jU g l k m q).ls.length=1
 | 0,q,_,h=>by unfold iJ at h;omega
 | m+1,(r,⟨x::w,p⟩),hI,h=>by
   rw[pU];split
   ·rename_i hp;have hn:(x,(⟨w,p⟩:Fr))∈eP g l (r,⟨x::w,p⟩):=by
     unfold eP;rw[pJ hI];unfold qP;rw[if_pos hp];simp
    have:=DC g l k m (x,⟨w,p⟩) (yZ hI _ hn) (by simp only[iJ,List.length_cons]at h⊢;omega);simpa[dQ.app]using this
   ·rfl
 | m+1,(r,⟨[],p⟩),hI,h=>by
   cases hf:bH l r with
   | none=>rw[oJ hf];rfl
   | some b=>
     rw[iU hf];split
     ·rfl
     split
     ·rfl
     split
     ·rfl
     rename_i c2;cases hx:jZ g r (aF b p k,qJ b p (aF b p k))with
     | none=>rfl
     | some x=>
       obtain⟨x1,x2,x3⟩:=qU hx;have ht:=qA hI.fit.ok;simp only at ht;have e:(qJ b p (aF b p k)).ttl.toNat+1=p.ttl.toNat:=by simp only[qJ,ji];omega
       obtain⟨d,hg⟩:=BQ hx;have hn:=List.nodup_cons.1 (List.nodup_cons.1 d.nodup).2;have hF:w_ g l x:=⟨hI.top,hI.tab,by rw[x1];exact hI.fit.mask c2 _,d.has _ (by simp),hn.2,fun y hy=>d.has y (by simp[hy])⟩
       have:=DC g l k m x hF (by simp only[iJ,x1,List.length_nil]at h⊢;omega);simpa[dQ.app]using this
theorem O3{g:ay}{l:List Tb}{r:Int}{p:Pk}(h:w_ g l (r,⟨[],p⟩))(hr:(bH l r).isSome):EM (runT g l r p) p.bits=true:=by
 have hA:=zf h hr;refine WS hA.dl hA.ls fun k hk=>?_
 by_cases hb:p.bits.getLsbD k=true
 ·have e:=GZ h hk hb;rw[if_pos hb,←DC g l k (iJ ⟨[],p⟩) (r,⟨[],p⟩) h (Nat.le_refl _),←e];rfl
 ·have e:=Dq h hk hb;rw[if_neg hb];have h1:((runT g l r p).at k).dl = []:=by rw[e];rfl
  have h2:((runT g l r p).at k).ls = []:=by rw[e];rfl
  simp only[dQ.at]at h1 h2;rw[h1,h2];rfl
theorem dU{n:Int}(h:aG n=true):n=8∨n=16∨n=32∨n=64:=by
 simp[aG]at h;omega
theorem lY{len:Int}(hl:aG len=true){k:Nat}(hk:k<64):(tN len).getLsbD k=decide ((k:Int)<len):=by
 have:=dU hl;rw[tN,if_pos hl,zK hk _ (by omega)]
 congr 1
 rw[eq_iff_iff];omega
theorem wY{B:BitVec 64}{len:Int}(hl:aG len=true)(h:∀k<64,B.getLsbD k=true→(k:Int)<len):nG B len=true:=by
 simp only[nG,hl,Bool.true_and,decide_eq_true_eq];apply BitVec.eq_of_getLsbD_eq;intro k hk;rw[BitVec.getLsbD_and,BitVec.getLsbD_not,lY hl hk];simp only[hk,decide_true,Bool.true_and,BitVec.getLsbD_zero];cases hb:B.getLsbD k with
 | false=>rfl
 | true=>simp[h k hk hb]
theorem yE{j:Int}{k:Nat}(hk:k<64):(lS j).getLsbD k=true↔(k:Int)=j:=by
 unfold lS;split
 ·rename_i h;simp;omega
 ·rename_i h;rw[wrap_u64 (by omega) (by omega),j_ (by omega) hk];simp;omega
theorem y7{id len:Int}(hl:aG len=true):gG id len<len∧0≤gG id len:=by
 have:=dU hl;unfold gG;split
 ·have h1:=Int.emod_lt_of_pos (id-1) (b:=len) (by omega);have h2:=Int.emod_nonneg (id-1) (b:=len) (by omega);omega
 ·omega
theorem uH{id len:Int}(hl:aG len=true):0≤fJ id len∧fJ id len≤31:=by
 have:=dU hl;unfold fJ;split
 ·rename_i h;simp only[Bool.and_eq_true,inB,decide_eq_true_eq]at h;have h1:0≤(id-1)/len:=Int.ediv_nonneg (by omega) (by omega);have h2:(id-1)/len≤(id-1)/8:=by
   rcases this with rfl|rfl|rfl|rfl<;>omega
  omega
 ·omega
theorem iE{len set:Int}(hl:aG len=true):∀(es:List Ed) (T:Tp) (B:BitVec 64),(∀k<64,B.getLsbD k=true→(k:Int)<len)→∀k<64,(fA len set es T B).1.getLsbD k=true→(k:Int)<len
 | [],_,_,h=>h
 | e::es,T,B,h=>by
   rw[fA];split
   ·split
    ·refine iE hl es _ _ fun k hk hb=>?_
     rcases (or_bit B (lS (gG e.id len))).1 hb with hb|hb
     ·exact h k hk hb
     ·have:=(yE hk).1 hb;have:=(y7 (id:=e.id) hl).1;omega
    ·exact iE hl es _ _ h
   ·exact iE hl es _ _ h
theorem uf(T:Tp){len:Int}(hl:aG len=true):∀k<64,(kE T len).1.getLsbD k=true→(k:Int)<len:=fun k hk hb=>by
 have key:∀X:BitVec 64,(X&&&tN len).getLsbD k=true→(k:Int)<len:=fun X hX=>by
  rw[BitVec.getLsbD_and,Bool.and_eq_true,lY hl hk]at hX
  simpa using hX.2
 unfold kE at hb;dsimp only at hb;split at hb
 ·simp at hb
 split at hb
 ·exact key _ hb
 split at hb
 ·exact key _ hb
 ·exact key _ hb
theorem zV(p:Pk):p.ok=true↔(1≤p.mode∧p.mode≤3)∧(0≤p.bF∧p.bF≤7)∧(0≤p.set∧p.set≤31)∧nG p.bits p.len=true∧(0≤p.ttl∧p.ttl≤63)∧(0≤p.ent∧p.ent≤1023)∧(0≤p.ing∧p.ing≤256)∧(0≤p.proto∧p.proto≤7)∧p.pay.size≤64:=by
 simp[Pk.ok,wS,and_assoc]
theorem yL{p:Pn}{q:Pk}(hs:0≤p.bF∧p.bF≤7)(hl:aG p.len=true)(hq:(0≤q.ttl∧q.ttl≤63)∧(0≤q.ent∧q.ent≤1023)∧(0≤q.ing∧q.ing≤256)∧(0≤q.proto∧q.proto≤7)∧q.pay.size≤64){set:Int}(hset:0≤set∧set≤31)
  {B:BitVec 64} (hB:∀k<64,B.getLsbD k=true→(k:Int)<p.len):zo p (q.for p.bF p.len set B):=by
 have hv:=wY hl hB;exact⟨(zV _).2 ⟨⟨by show(1:Int)≤1;omega,by show(1:Int)≤3;omega⟩,hs,hset,hv,hq.1,hq.2.1,hq.2.2.1,hq.2.2.2.1,hq.2.2.2.2⟩,rfl,rfl,rfl⟩
theorem oZ(T:Tp):bY T 0=Bg T:=by
 simp[bY]
theorem ug(T:Tp){p:Pn}(hs:0≤p.bF∧p.bF≤7)(hl:aG p.len=true):zo p (mM T p).1:=by
 have hpk:∀q,q=(bY T 0).1→(0≤q.ttl∧q.ttl≤63)∧(0≤q.ent∧q.ent≤1023)∧(0≤q.ing∧q.ing≤256)∧(0≤q.proto∧q.proto≤7)∧q.pay.size≤64:=fun q hq=>by
  rw[oZ]at hq
  obtain⟨L,m,d,s,t,e,i,pr,y,B,w,T',h1,_,h2,h3,h4,h5,h6,_⟩:=um T;rw[h1]at hq
  subst hq;exact⟨h2,h3,h4,h5,by simp only;omega⟩
 have hset:∀T',0≤(jB T' p).1∧(jB T' p).1≤31:=fun T'=>by
  unfold jB;split
  ·simp
  ·exact uH hl
 unfold mM;simp only;have hq:=hpk _ rfl;have hb:=iE (set:=(jB (bY T 0).2 p).1) hl p.es (jB (bY T 0).2 p).2 0#64 (by simp);split
 ·refine yL hs hl hq (hset _) fun k hk hk2=>?_
  rcases (or_bit _ _).1 hk2 with hk2|hk2
  ·exact hb k hk hk2
  ·exact uf _ hl k hk hk2
 ·exact yL hs hl hq (hset _) hb
set_option maxHeartbeats 16000000
theorem wW(g:ay)(l:List Tb)(q:Int×Fr)(t:dQ):(jw g l q t).dl.length≤t.dl.length+64∧(jw g l q t).cr.length≤t.cr.length+64∧(jw g l q t).ls.length≤t.ls.length+64:=by
 have h1:(Au q.1 (iD g l q) q.2.pk).length≤64:=by unfold Au nI;rw[List.length_map];exact iT _
 have h2:=yh g l q;unfold jw;refine⟨by simp only[List.length_append];omega,by simp only[List.length_append,List.length_map];omega,?_⟩;simp only;split
 ·omega
 ·simp
theorem rF(g:ay)(l:List Tb):∀(n:Nat) (Q:List (Int×Fr)) (t:dQ),(pR g l n Q t).dl.length≤t.dl.length+64*n∧(pR g l n Q t).cr.length≤t.cr.length+64*n∧(pR g l n Q t).ls.length≤t.ls.length+64*n
 | 0,Q,t=>by simp[pR]
 | n+1,[],t=>by rw[lN];omega
 | n+1,q::Q,t=>by
   have h1:=rF g l n (Q++eP g l q) (jw g l q t);have h2:=wW g l q t;rw[pR];omega
theorem rH(g:ay)(l:List Tb)(p:Pk)(r:Int):(mZ g l p r).1.dl.length≤100000000∧(mZ g l p r).1.cr.length≤100000000∧(mZ g l p r).1.ls.length≤100000000:=by
 rw[xW];split
 ·simp[gX]
 ·rename_i h;split
  ·have h2:p.ok=true:=by
    cases hp:p.ok with
    | true=>rfl
    | false=>exact absurd (.inr (.inr hp)) h
   have h3:=rF g l (PX ⟨[],p⟩) [(r,⟨[],p⟩)] gX;have h4:=Le h2;simp only[runT,gX,List.length_nil]at h3⊢;omega
  ·simp[gX]
theorem Og(B:BitVec 64):Contract Tryz.prog 121 [.d (bv B)] [] (.d (.int .i64 (pc B))) [] []:=by
 have hl:=sK B;refine aj Tryz.func121 rfl (fun E0=>?_);refine cO.sound (g:=.mk) (ow:=[]) (kp:=(fun k=>k==0||k==2)) ?_;rw[Tryz.ntmps121];simp -dsimp;refine ah.of hl [] 0 ?_;simp -dsimp[ints];refine Fin.of ?_;simp[pc,lg]
theorem rV(T:Tp)(hT:ak T)(most:Int)(hm:1≤most∧most≤24):Contract Tryz.prog 16 [.ptr (.x 0) 0,.d (.int .i64 most)] [aJ T] (aH (bW T most).1) [aJ (bW T most).2] []:=by
 refine aj Tryz.func16 rfl (fun E0=>?_);refine cO.sound (g:=.mk) (ow:=[]) (kp:=(fun k=>k==0||k==1||k==4||k==5||k==6||k==14)) ?_;rw[Tryz.ntmps16];simp -dsimp;refine ah.of (zl T hT most hm) [.x 0] 1000 ?_;have kG:ak (dG T most).2:=by simpa using hT
 have hlen:(dG T most).1.rs.length≤24:=by
  have:=aQ T (a:=1) (b:=most) (by omega);simp[dG,cu];omega
 generalize hG:dG T most=G at kG hlen⊢;simp -dsimp;refine aN.of [] (fun k=>k==0||k==1||k==4||k==5||k==6||k==14) (ι:={z:Nat×Tp×List Rt // z.1≤G.1.rs.length∧ak z.2.1∧z.2.2.length=G.1.rs.length∧iy G.1.rs G.2=(z.2.2.take z.1++(iy (z.2.2.drop z.1) z.2.1).1,(iy (z.2.2.drop z.1) z.2.1).2)})
  (fun z=>[(Pl.s 0,It.v (.ptr (Pl.x 0) 0)),(Pl.s 1,It.v (.d (.int .i64 most))),(Pl.x 0,aJ z.1.2.1),
   (Pl.o 4,It.box [TV.c (Value.slice none 0 0),TV.c (Value.slice none 0 0)]),(Pl.s 4,It.v (.ptr (Pl.o 4) 0)),
   (Pl.o 2000,It.row 117 2 (dd (rts z.1.2.2)) false),(Pl.o 5,It.box [TV.aB 2000 G.1.rs.length,TV.d (.sl (dO G.1.ls))]),(Pl.s 5,It.v (.ptr (Pl.o 5) 0)),
   (Pl.s 6,It.v (.d (.int .i64 z.1.1)))]) (fun z=>G.1.rs.length-z.1.1) ⟨(0,G.2,G.1.rs),by simp,kG,rfl,by simp⟩ ?_ ?_
 ·exact GS.to (by simp)
 ·rintro⟨⟨i,T1,L⟩,i1,i2,i3,i4⟩;simp only at i1 i2 i3 i4;have hrl:(rts L).length=G.1.rs.length:=by simp[rts,i3]
  by_cases hi:i<G.1.rs.length
  ·have hiz:(i:Int)<G.1.rs.length:=by omega
   have hil:i<L.length:=by omega
   have hg:L[i]? = some L[i]:=List.getElem?_eq_getElem hil;have hd:L.drop i=L[i]::L.drop (i+1):=List.drop_eq_getElem_cons _;generalize L[i]=x at hg hd;have hgr:(dd (rts L))[i]? = some [TV.d (.int .i64 x.id),TV.d (.bool x.cap)]:=by simp[dd,rts,hg,Rt.cs]
   simp -dsimp[hiz,i3,hrl];and_intros;all_goals try first|rfl|omega|exact⟨by kernel_rfl⟩
   refine ah.of (gK T1 i2 3 ⟨by omega,by omega⟩ ⟨by omega,by omega⟩) [.x 0] 0 ?_;generalize ho:dD T1 3=o;have ko:ak o.2:=by rw[←ho];simpa using i2
   simp -dsimp[hiz,i3,hrl,hgr,wrap_i64 (n:=(i:Int)+1) (by omega) (by omega)];and_intros;all_goals try first|rfl|omega|exact⟨by kernel_rfl⟩
   have hrow:(dd (rts L)).set i [TV.d (.int .i64 x.id),TV.d (.bool !o.1)]=dd (rts (L.set i ⟨x.id,!o.1⟩)):=by
    simp[dd,rts,List.map_set,Rt.cs]
   refine⟨⟨(i+1,o.2,L.set i ⟨x.id,!o.1⟩),by dsimp only;omega,ko,by simpa using i3,?_⟩,GS.to (by simp[hrow]),by simp;omega⟩;rw[i4,hd,iy];simp only[ho];have e1:(L.set i ⟨x.id,!o.1⟩).take (i+1)=L.take i++[⟨x.id,!o.1⟩]:=by
    rw[List.take_add_one,List.getElem?_set_self hil,List.take_set_of_le (Nat.le_refl _)];rfl
   have e2:(L.set i ⟨x.id,!o.1⟩).drop (i+1)=L.drop (i+1):=List.drop_set_of_lt (by omega);rw[e1,e2];simp
  ·obtain rfl:i=G.1.rs.length:=by omega
   simp -dsimp[hrl];refine Fin.box (.o 4) rfl ?_;simp -dsimp[hrl];refine Fin.of ?_;have e0:L.drop G.1.rs.length = []:=List.drop_eq_nil_of_le (by omega);have e1:L.take G.1.rs.length=L:=List.take_of_length_le (by omega);simp only[e0,e1,iy,List.append_nil]at i4;simp[bW,hG,i4,aH]
theorem uF(T:Tp){most:Int}(hm:1≤most∧most≤24):1≤(dG T most).1.rs.length∧(dG T most).1.rs.length≤24∧(dG T most).1.ls.length≤1000:=by
 have h1:=fO T hm;have h2:=aS T 1 most;have h3:(bW T most).1.rs.length=(dG T most).1.rs.length:=by simp[bW,fQ]
 have h4:(bW T most).1.ls=(dG T most).1.ls:=rfl;refine⟨?_,by omega,by rw[←h4];exact h1.2⟩;simp[dG,cu];omega
theorem vS(T:Tp){most:Int}(hm:1≤most∧most≤24):(bW T most).1.Fit:=by
 have h1:=uF T hm;have h3:(bW T most).1.rs.length=(dG T most).1.rs.length:=by simp[bW,fQ]
 have h4:(bW T most).1.ls=(dG T most).1.ls:=rfl;exact⟨by omega,by omega,by rw[h4];omega⟩
end Go.Proofs
