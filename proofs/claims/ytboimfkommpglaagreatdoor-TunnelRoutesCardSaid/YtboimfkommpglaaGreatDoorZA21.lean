/-
  What functions of the program compute, stated as contracts over plain data; the conditions of each stand in its own statement.
-/
import Derived.Test.YtboimfkommpglaaGreatDoorZA20
import Derived.Test.YtboimfkommpglaaGreatDoorZA18
import Derived.Test.YtboimfkommpglaaGreatDoorZA17
import Derived.Test.YtboimfkommpglaaGreatDoorZA12
set_option linter.unusedSimpArgs false
namespace Go.Proofs
inductive Hr (g:ay) (t f:Int):Int→Prop
 | nil:Hr g t f f
 | via {x y:Int}:Hr g t f x→y∈steps g (dist g t) x→dY g.rs y=false→Hr g t f y
def zA(g:ay)(t f n:Int):Prop:=∃x,Hr g t f x∧n∈steps g (dist g t) x∧dY g.rs n=true
structure uZ(g:ay)(t f:Int)(s:List Int×List Int):Prop where
 nd:s.1.Nodup
 seen:∀x∈s.1,Hr g t f x∧aY g.rs x=true
 xX:s.2.Pairwise (· < ·)
 out:∀x∈s.2,zA g t f x
theorem uZ.step{g:ay}{t f x n:Int}{s:List Int×List Int}(h:uZ g t f s)(hx:Hr g t f x)(hn:n∈steps g (dist g t) x):uZ g t f (jS g s n)∧(∀y∈s.2,y∈(jS g s n).2)∧(if dY g.rs n=true then n∈(jS g s n).2 else n∈(jS g s n).1):=by
 unfold jS;by_cases hc:dY g.rs n=true
 ·rw[if_pos hc,if_pos hc];obtain⟨h3,h4⟩:=MK n h.xX;refine⟨⟨h.nd,h.seen,h3,fun y hy=>?_⟩,fun y hy=>(h4 y).2 (.inl hy),(h4 n).2 (.inr rfl)⟩;rcases (h4 y).1 hy with hy|rfl
  ·exact h.out y hy
  ·exact⟨x,hx,hn,hc⟩
 ·rw[if_neg hc,if_neg hc];by_cases hh:mF s.1 n=true
  ·rw[if_pos hh];exact⟨h,fun _ h=>h,by simpa[mF]using hh⟩
  ·rw[if_neg hh];have hni:n∉s.1:=by simpa[mF]using hh
   refine⟨⟨List.nodup_append.2 ⟨h.nd,by simp,fun a ha b hb=>by simp at hb;subst hb;exact fun e=>hni (e▸ha)⟩,fun y hy=>?_,h.xX,h.out⟩,fun _ h=>h,by simp⟩;rcases List.mem_append.1 hy with hy|hy
   ·exact h.seen y hy
   ·simp at hy;subst hy;exact⟨.via hx hn (by simpa using hc),zZ hn⟩
theorem zY{g:ay}(hg:g.Ok){t x y:Int}(h:y∈steps g (dist g t) x):dst g t y<dst g t x∧dst g t x<far:=by
 obtain⟨h1,h2,h3,c,h4,h5⟩:=(lM hg).1 h;have:=oP hg h4;have:=rZ hg t x;omega
theorem Hr.le{g:ay}(hg:g.Ok){t f x:Int}(h:Hr g t f x):dst g t x≤dst g t f:=by
 induction h with
 | nil=>exact Int.le_refl _
 | via _ hy _ ih=>have:=zY hg hy;omega
theorem zA.near{g:ay}(hg:g.Ok){t f n:Int}(h:zA g t f n):dst g t n<dst g t f∧dst g t f<far∧dst g t n<far∧dY g.rs n=true∧aY g.rs n=true:=by
 obtain⟨x,hx,hn,hc⟩:=h;have h1:=hx.le hg;have h2:=zY hg hn;obtain⟨_,_,h3,_⟩:=(lM hg).1 hn;refine⟨by omega,?_,h3,hc,zZ hn⟩;have h4:=rZ hg t f;cases hx with
 | nil=>exact h2.2
 | via h5 h6 h7=>
   have:∀z,Hr g t f z→z=f∨dst g t f<far:=fun z hz=>by
    induction hz with
    | nil=>exact .inl rfl
    | via a b _ ih=>
      rcases ih with e|e
      ·subst e;exact .inr (zY hg b).2
      ·exact .inr e
   rcases this x (.via h5 h6 h7)with e|e
   ·subst e;exact h2.2
   ·exact e
theorem zA.some{g:ay}(hg:g.Ok){t f:Int}(hf:aY g.rs f=true)(ht:aY g.rs t=true)(hc:dY g.rs t=true)(hne:f≠t)(hd:dst g t f<far):∃n,zA g t f n:=by
 have key:∀(m:Nat) (x:Int),(dst g t x).toNat≤m→Hr g t f x→aY g.rs x=true→x≠t→dst g t x<far→∃n,zA g t f n:=by
  intro m
  induction m with
  | zero=>
    intro x hm hx hh hn hl;have:=rZ hg t x;exact absurd (X9 hg ht hh (by omega)) hn
  | succ m ih=>
    intro x hm hx hh hn hl;obtain⟨y,hy⟩:=aa_ hg ht hh hn hl;by_cases hcy:dY g.rs y=true
    ·exact⟨y,x,hx,hy,hcy⟩
    ·have h1:=zY hg hy;obtain⟨_,_,h3,_⟩:=(lM hg).1 hy;have:=rZ hg t y;exact ih y (by omega) (.via hx hy (by simpa using hcy)) (zZ hy) (fun e=>by subst e;exact hcy hc) h3
 exact key _ f (Nat.le_refl _) .nil hf hne hd
set_option linter.unusedVariables false
structure Fits(b:Tb)(p:Pk):Prop where
 ck:chk b=0
 sd:b.sd=p.bF
 len:b.len=p.len
 ok:p.ok=true
 mode:p.mode≠2
theorem Fits.bit{b:Tb}{p:Pk}(h:Fits b p){k:Nat}(hk:k<64)(hb:p.bits.getLsbD k=true):(k:Int)<p.len:=(D8 h.ok).2 k hk hb
theorem vX{b:Tb}{p:Pk}(hc:chk b=0)(k:Nat):aF b p k=mG b (vZ p k) (kX p):=RU hc p _
theorem CX{b:Tb}{p:Pk}(hc:chk b=0){k:Nat}(h0:aF b p k≠0):Ej p.set k p.len=true∧1≤aF b p k∧aF b p k≤99:=by
 rw[vX hc]at h0⊢
 refine⟨Classical.byContradiction fun g=>h0 (by rw[vZ,if_neg g];exact YD hc _),BL hc h0⟩
theorem Fh{b:Tb}{p:Pk}(h:Fits b p){k:Nat}(hk:k<64)(hb:p.bits.getLsbD k=true){n:Int}(hn:1≤n∧n≤99):(Bl b (kX p) p.set n).getLsbD k=true↔aF b p k=n:=by
 have hl:=(D8 h.ok).1;have hlen:b.len≤64:=by
  rw[h.len];simp[aG]at hl;omega
 have hkl:=h.bit hk hb;rw[MR h.ck h.ok hn,Jq b _ _ _ hk _ (by omega),h.len];constructor
 ·rintro⟨h1,h2,h3,h4⟩;rw[vX h.ck,vZ,if_pos h2];exact h4
 ·intro e;have h2:=CX h.ck (k:=k) (p:=p) (by omega);rw[vX h.ck,vZ,if_pos h2.1]at e
  exact⟨by omega,h2.1,by omega,e⟩
noncomputable def qJ(b:Tb)(p:Pk)(h:Int):Pk:=ji p (Bl b (kX p) p.set h)
theorem DY{b:Tb}{p:Pk}(h:Fits b p){k:Nat}(hk:k<64){n:Int}(hn:1≤n∧n≤99):(qJ b p n).bits.getLsbD k=true↔p.bits.getLsbD k=true∧aF b p k=n:=by
 simp only[qJ,ji,BitVec.getLsbD_and,Bool.and_eq_true];constructor
 ·rintro⟨h1,h2⟩;exact⟨h1,(Fh h hk h1 hn).1 h2⟩
 ·rintro⟨h1,h2⟩;exact⟨h1,(Fh h hk h1 hn).2 h2⟩
theorem Xd{p:Pk}(h:p.ok=true)(ht:p.ttl≠0)(m:BitVec 64):(ji p m).ok=true:=by
 have h2:=qA h;cases p
 simp only[ji]at *;simp only[Pk.ok,Bool.and_eq_true,nG,decide_eq_true_eq,wS]at h⊢;obtain⟨a1,a2,a3,a4,⟨b1,b2⟩,a5,a6⟩:=h;refine⟨a1,a2,a3,a4,⟨b1,?_⟩,⟨by omega,by omega⟩,a6⟩;apply BitVec.eq_of_getLsbD_eq;intro k hk;have h3:=congrArg (fun z=>z.getLsbD k) b2;simp only[BitVec.getLsbD_and,BitVec.getLsbD_not,hk,decide_true,Bool.true_and,BitVec.getLsbD_zero]at h3⊢
 revert h3
 generalize BitVec.getLsbD _ k=x;generalize BitVec.getLsbD _ k=y;generalize BitVec.getLsbD _ k=z;cases x<;>cases y<;>cases z<;>simp
theorem Fits.mask{b c:Tb}{p:Pk}(h:Fits b p)(hc:Fits c p)(ht:p.ttl≠0)(m:BitVec 64):Fits c (ji p m):=
 ⟨hc.ck,hc.sd,hc.len,Xd h.ok ht m,h.mode⟩
theorem Ko(R M:BitVec 64){k:Nat}(hk:k<64):(R &&& ~~~ M).getLsbD k=true↔R.getLsbD k=true∧M.getLsbD k=false:=by
 simp[hk]
theorem or_bit(R M:BitVec 64){k:Nat}:(R|||M).getLsbD k=true↔R.getLsbD k=true∨M.getLsbD k=true:=by
 simp
theorem Xm{j k:Nat}(hj:j<64)(hk:k<64):(1#64<<<j).getLsbD k=true↔k=j:=by rw[j_ hj hk];simp
def Whole(b:Tb)(p:Pk)(R:BitVec 64):Prop:=(∀k<64,R.getLsbD k=true→p.bits.getLsbD k=true)∧
 ∀j k,j<64→k<64→p.bits.getLsbD j=true→aF b p j=aF b p k→aF b p k≠0→aF b p k≠b.r→R.getLsbD k=true→R.getLsbD j=true
structure acw(b:Tb)(p:Pk)(o o':Out)(R:BitVec 64):Prop where
 loc:∀k<64,o'.loc.getLsbD k=true↔o.loc.getLsbD k=true∨(R.getLsbD k=true∧aF b p k≠0∧aF b p k=b.r)
 lost:∀k<64,o'.lost.getLsbD k=true↔o.lost.getLsbD k=true∨(R.getLsbD k=true∧(aF b p k=0∨(aF b p k≠b.r∧p.ttl=0)))
 g_:∃H:List Int,o'.g_=o.g_++H.map (fun h=>(h,qJ b p h))∧H.Nodup∧∀h,h∈H↔p.ttl≠0∧h≠0∧h≠b.r∧∃k<64,R.getLsbD k=true∧aF b p k=h
theorem acw.nil{b:Tb}{p:Pk}(o:Out):acw b p o o 0#64:=⟨by simp,by simp,[],by simp,by simp,by simp⟩
theorem EO{b:Tb}{p:Pk}(h:Fits b p):∀(n:Nat) (o:Out) (R:BitVec 64),(ku R).length≤n→Whole b p R→acw b p o (yx b p n o R) R
 | 0,o,R,hn,_=>by
   obtain rfl:=Y2 (R:=R) (by omega);exact .nil o
 | n+1,o,R,hn,hW=>by
   rw[yx];by_cases h0:R=0#64
   ·subst h0;rw[if_pos rfl];exact .nil o
   rw[if_neg h0];obtain⟨t1,t2,t3⟩:=xP h0;have hmb:=EP h.ck h.ok h.len hW.1 h0;have hpop:=Fv t1 t2 hmb;have hpz:=hW.1 _ t1 t2;generalize hj:tz R=j at t1 t2 t3 hmb hpop hpz;by_cases c0:aF b p j=0
   ·have eM:mQ b p R=1#64<<<j:=by rw[mQ,hj,if_pos (.inl c0)]
    have eO:mV b p o R=⟨o.loc,o.lost|||1#64<<<j,o.g_⟩:=by rw[mV,hj,if_pos c0]
    rw[eM]at hpop
    rw[eM,eO];have hb:∀k<64,(R &&& ~~~ (1#64<<<j)).getLsbD k=true↔R.getLsbD k=true∧k≠j:=fun k hk=>by rw[Ko _ _ hk,j_ t1 hk];simp
    have ih:=EO h n ⟨o.loc,o.lost|||1#64<<<j,o.g_⟩ (R &&& ~~~ (1#64<<<j)) (by omega)
     ⟨fun k hk hb'=>hW.1 k hk ((hb k hk).1 hb').1,fun i k hi hk hpi e e0 er hr=>(hb i hi).2 ⟨hW.2 i k hi hk hpi e e0 er ((hb k hk).1 hr).1,fun e'=>by subst e';rw[c0]at e;exact e0 e.symm⟩⟩
    refine⟨fun k hk=>?_,fun k hk=>?_,?_⟩
    ·rw[ih.loc k hk,hb k hk];constructor
     ·rintro (a|⟨⟨a1,a2⟩,a3⟩)
      ·exact .inl a
      ·exact .inr ⟨a1,a3⟩
     ·rintro (a|⟨a1,a3⟩)
      ·exact .inl a
      ·exact .inr ⟨⟨a1,fun e=>by subst e;exact a3.1 c0⟩,a3⟩
    ·rw[ih.lost k hk,hb k hk,or_bit,Xm t1 hk];constructor
     ·rintro ((a|rfl)|⟨⟨a1,a2⟩,a3⟩)
      ·exact .inl a
      ·exact .inr ⟨t2,.inl c0⟩
      ·exact .inr ⟨a1,a3⟩
     ·rintro (a|⟨a1,a3⟩)
      ·exact .inl (.inl a)
      ·by_cases e:k=j
       ·exact .inl (.inr e)
       ·exact .inr ⟨⟨a1,e⟩,a3⟩
    ·obtain⟨H,h1,h2,h3⟩:=ih.g_;refine⟨H,h1,h2,fun x=>?_⟩;rw[h3];constructor
     ·rintro⟨a1,a2,a3,k,hk,a4,a5⟩;exact⟨a1,a2,a3,k,hk,((hb k hk).1 a4).1,a5⟩
     ·rintro⟨a1,a2,a3,k,hk,a4,a5⟩;exact⟨a1,a2,a3,k,hk,(hb k hk).2 ⟨a4,fun e=>by subst e;rw[c0]at a5;exact a2 a5.symm⟩,a5⟩
   by_cases c1:aF b p j=b.r
   ·have eM:mQ b p R=1#64<<<j:=by rw[mQ,hj,if_pos (.inr c1)]
    have eO:mV b p o R=⟨o.loc|||1#64<<<j,o.lost,o.g_⟩:=by rw[mV,hj,if_neg c0,if_pos c1]
    rw[eM]at hpop
    rw[eM,eO];have hb:∀k<64,(R &&& ~~~ (1#64<<<j)).getLsbD k=true↔R.getLsbD k=true∧k≠j:=fun k hk=>by rw[Ko _ _ hk,j_ t1 hk];simp
    have ih:=EO h n ⟨o.loc|||1#64<<<j,o.lost,o.g_⟩ (R &&& ~~~ (1#64<<<j)) (by omega)
     ⟨fun k hk hb'=>hW.1 k hk ((hb k hk).1 hb').1,fun i k hi hk hpi e e0 er hr=>(hb i hi).2 ⟨hW.2 i k hi hk hpi e e0 er ((hb k hk).1 hr).1,fun e'=>by subst e';rw[c1]at e;exact er e.symm⟩⟩
    refine⟨fun k hk=>?_,fun k hk=>?_,?_⟩
    ·rw[ih.loc k hk,hb k hk,or_bit,Xm t1 hk];constructor
     ·rintro ((a|rfl)|⟨⟨a1,a2⟩,a3⟩)
      ·exact .inl a
      ·exact .inr ⟨t2,c0,c1⟩
      ·exact .inr ⟨a1,a3⟩
     ·rintro (a|⟨a1,a3⟩)
      ·exact .inl (.inl a)
      ·by_cases e:k=j
       ·exact .inl (.inr e)
       ·exact .inr ⟨⟨a1,e⟩,a3⟩
    ·rw[ih.lost k hk,hb k hk];constructor
     ·rintro (a|⟨⟨a1,a2⟩,a3⟩)
      ·exact .inl a
      ·exact .inr ⟨a1,a3⟩
     ·rintro (a|⟨a1,a3⟩)
      ·exact .inl a
      ·exact .inr ⟨⟨a1,fun e=>by subst e;exact a3.elim c0 fun a=>a.1 c1⟩,a3⟩
    ·obtain⟨H,h1,h2,h3⟩:=ih.g_;refine⟨H,h1,h2,fun x=>?_⟩;rw[h3];constructor
     ·rintro⟨a1,a2,a3,k,hk,a4,a5⟩;exact⟨a1,a2,a3,k,hk,((hb k hk).1 a4).1,a5⟩
     ·rintro⟨a1,a2,a3,k,hk,a4,a5⟩;exact⟨a1,a2,a3,k,hk,(hb k hk).2 ⟨a4,fun e=>by subst e;rw[c1]at a5;exact a3 a5.symm⟩,a5⟩
   have hr:=(CX h.ck c0).2;have eM:mQ b p R=jR b p R (aF b p j):=by rw[mQ,hj,if_neg (fun h=>h.elim c0 c1)]
   rw[eM]at hpop⊢
   have afa:∀k<64,(jR b p R (aF b p j)).getLsbD k=true↔R.getLsbD k=true∧aF b p k=aF b p j:=fun k hk=>by
    rw[jR,BitVec.getLsbD_and,Bool.and_eq_true];constructor
    ·rintro⟨a1,a2⟩;exact⟨a1,(Fh h hk (hW.1 k hk a1) hr).1 a2⟩
    ·rintro⟨a1,a2⟩;exact⟨a1,(Fh h hk (hW.1 k hk a1) hr).2 a2⟩
   have hb:∀k<64,(R &&& ~~~ jR b p R (aF b p j)).getLsbD k=true↔R.getLsbD k=true∧aF b p k≠aF b p j:=fun k hk=>by
    rw[Ko _ _ hk];constructor
    ·rintro⟨a1,a2⟩;exact⟨a1,fun e=>by rw[(afa k hk).2 ⟨a1,e⟩]at a2;simp at a2⟩
    ·rintro⟨a1,a2⟩;refine⟨a1,?_⟩;cases ht:(jR b p R (aF b p j)).getLsbD k with
     | false=>rfl
     | true=>exact absurd ((afa k hk).1 ht).2 a2
   have hW':Whole b p (R &&& ~~~ jR b p R (aF b p j)):=⟨fun k hk hb'=>hW.1 k hk ((hb k hk).1 hb').1,fun i k hi hk hpi e e0 er hr=>(hb i hi).2 ⟨hW.2 i k hi hk hpi e e0 er ((hb k hk).1 hr).1,by rw[e];exact((hb k hk).1 hr).2⟩⟩
   have akD:(p.setB R).bits&&&jR b p R (aF b p j)=p.bits&&&Bl b (kX p) p.set (aF b p j):=by
    apply BitVec.eq_of_getLsbD_eq;intro k hk
    show(R&&&jR b p R (aF b p j)).getLsbD k=_
    rw[Bool.eq_iff_iff,BitVec.getLsbD_and,Bool.and_eq_true,afa k hk,BitVec.getLsbD_and,Bool.and_eq_true];constructor
    ·rintro⟨_,a1,a2⟩;have:=hW.1 k hk a1;exact⟨this,(Fh h hk this hr).2 a2⟩
    ·rintro⟨a1,a2⟩;have e:=(Fh h hk a1 hr).1 a2;have:=hW.2 k j hk t1 a1 e c0 c1 t2;exact⟨this,this,e⟩
   have hnz:(p.setB R).bits&&&jR b p R (aF b p j)≠0#64:=fun e=>by
    have:=congrArg (fun z=>z.getLsbD j) e;simp only[BitVec.getLsbD_zero]at this
    change (R&&&jR b p R (aF b p j)).getLsbD j=false at this
    rw[BitVec.getLsbD_and,t2,(afa j t1).2 ⟨t2,rfl⟩]at this
    simp at this
   have hok:=Nj h.ok hW.1;by_cases ht:p.ttl=0
   ·have eC:(jg (p.setB R) (jR b p R (aF b p j))).2=false:=by
     rw[jg,if_neg (fun a=>a.2.1 ht)]
    have eO:mV b p o R=⟨o.loc,o.lost|||jR b p R (aF b p j),o.g_⟩:=by
     rw[mV,hj,if_neg c0,if_neg c1,if_neg (by rw[eC];simp)]
    rw[eO];have ih:=EO h n ⟨o.loc,o.lost|||jR b p R (aF b p j),o.g_⟩ _ (by omega) hW';refine⟨fun k hk=>?_,fun k hk=>?_,?_⟩
    ·rw[ih.loc k hk,hb k hk];constructor
     ·rintro (a|⟨⟨a1,a2⟩,a3⟩)
      ·exact .inl a
      ·exact .inr ⟨a1,a3⟩
     ·rintro (a|⟨a1,a3⟩)
      ·exact .inl a
      ·exact .inr ⟨⟨a1,fun e=>c1 (by rw[←e];exact a3.2)⟩,a3⟩
    ·rw[ih.lost k hk,hb k hk,or_bit,afa k hk];constructor
     ·rintro ((a|⟨a1,a2⟩)|⟨⟨a1,a2⟩,a3⟩)
      ·exact .inl a
      ·exact .inr ⟨a1,.inr ⟨by rw[a2];exact c1,ht⟩⟩
      ·exact .inr ⟨a1,a3⟩
     ·rintro (a|⟨a1,a3⟩)
      ·exact .inl (.inl a)
      ·by_cases e:aF b p k=aF b p j
       ·exact .inl (.inr ⟨a1,e⟩)
       ·exact .inr ⟨⟨a1,e⟩,a3⟩
    ·obtain⟨H,h1,h2,h3⟩:=ih.g_;refine⟨H,h1,h2,fun x=>?_⟩;rw[h3];exact⟨fun a=>absurd ht a.1,fun a=>absurd ht a.1⟩
   ·have eC:jg (p.setB R) (jR b p R (aF b p j))=(qJ b p (aF b p j),true):=by
     rw[jg,if_pos ⟨hok,ht,hnz⟩,ji,akD];rfl
    have eO:mV b p o R=⟨o.loc,o.lost,o.g_++[(aF b p j,qJ b p (aF b p j))]⟩:=by
     rw[mV,hj,if_neg c0,if_neg c1,eC];rfl
    rw[eO];have ih:=EO h n ⟨o.loc,o.lost,o.g_++[(aF b p j,qJ b p (aF b p j))]⟩ _ (by omega) hW';refine⟨fun k hk=>?_,fun k hk=>?_,?_⟩
    ·rw[ih.loc k hk,hb k hk];constructor
     ·rintro (a|⟨⟨a1,a2⟩,a3⟩)
      ·exact .inl a
      ·exact .inr ⟨a1,a3⟩
     ·rintro (a|⟨a1,a3⟩)
      ·exact .inl a
      ·exact .inr ⟨⟨a1,fun e=>c1 (by rw[←e];exact a3.2)⟩,a3⟩
    ·rw[ih.lost k hk,hb k hk];constructor
     ·rintro (a|⟨⟨a1,a2⟩,a3⟩)
      ·exact .inl a
      ·exact .inr ⟨a1,a3⟩
     ·rintro (a|⟨a1,a3⟩)
      ·exact .inl a
      ·refine .inr ⟨⟨a1,fun e=>?_⟩,a3⟩;rcases a3 with a3|a3
       ·exact c0 (by rw[←e];exact a3)
       ·exact ht a3.2
    ·obtain⟨H,h1,h2,h3⟩:=ih.g_;refine⟨aF b p j::H,by rw[h1];simp,List.nodup_cons.2 ⟨fun hm=>?_,h2⟩,fun x=>?_⟩
     ·obtain⟨_,_,_,k,hk,a4,a5⟩:=(h3 _).1 hm;exact((hb k hk).1 a4).2 a5
     ·rw[List.mem_cons,h3];constructor
      ·rintro (rfl|⟨a1,a2,a3,k,hk,a4,a5⟩)
       ·exact⟨ht,c0,c1,j,t1,t2,rfl⟩
       ·exact⟨a1,a2,a3,k,hk,((hb k hk).1 a4).1,a5⟩
      ·rintro⟨a1,a2,a3,k,hk,a4,a5⟩;by_cases e:x=aF b p j
       ·exact .inl e
       ·exact .inr ⟨a1,a2,a3,k,hk,(hb k hk).2 ⟨a4,fun e'=>e (by rw[←a5,e'])⟩,a5⟩
theorem pW{b:Tb}{p:Pk}(h:Fits b p):jC b p=(iH b p,0)∧acw b p iC (iH b p) p.bits:=by
 refine⟨?_,EO h 64 iC p.bits (xY _) ⟨fun _ _ h=>h,fun j k _ _ h _ _ _ _=>h⟩⟩;rw[jC,if_neg (by simp[h.ck,h.ok]),if_neg h.mode,if_neg (by simp[h.sd,h.len])]
def dQ.at(t:dQ)(k:Nat):dQ:=⟨t.dl.filter fun d=>d.2.bits.getLsbD k,t.cr.filter fun c=>c.2.2.getLsbD k,t.ls.filter fun x=>x.2.getLsbD k⟩
def dQ.app(t u:dQ):dQ:=⟨t.dl++u.dl,t.cr++u.cr,t.ls++u.ls⟩
structure vG(l:List Tb)(p:Pk):Prop where
 ok:p.ok=true
 all:∀b∈l,Fits b p
theorem vG.mask{l:List Tb}{p:Pk}(h:vG l p)(ht:p.ttl≠0)(m:BitVec 64):vG l (ji p m):=⟨Xd h.ok ht m,fun b hb=>(h.all b hb).mask (h.all b hb) ht m⟩
noncomputable def way(l:List Tb)(k:Nat):Nat→Int×Pk→dQ
 | 0,_=>gX
 | n+1,q=>match bH l q.1 with
   | none=>⟨[],[],[(q.1,q.2.bits)]⟩
   | some b=>if aF b q.2 k=0 then ⟨[],[],[(q.1,(iH b q.2).lost)]⟩
     else if aF b q.2 k=b.r then ⟨[(q.1,f_ q.2 k)],[],[]⟩
     else if q.2.ttl=0 then ⟨[],[],[(q.1,(iH b q.2).lost)]⟩
     else(⟨[],[(q.1,aF b q.2 k,(qJ b q.2 (aF b q.2 k)).bits)],[]⟩:dQ).app (way l k n (aF b q.2 k,qJ b q.2 (aF b q.2 k)))
theorem wP{α:Type}[DecidableEq α]{l:List α}(h:l.Nodup)(a:α):l.filter (fun x=>decide (x=a))=if a∈l then [a]else []:=by
 induction l with
 | nil=>simp
 | cons x l ih=>
   rw[List.nodup_cons]at h
   rw[List.filter_cons,ih h.2];by_cases e:x=a
   ·subst e;simp[h.1]
   ·simp[e,Ne.symm e]
theorem sN{B:BitVec 64}{k:Nat}:k∈ku B↔k<64∧B.getLsbD k=true:=by simp[ku]
theorem IL{p:Pk}(h:p.ok=true){j:Nat}(hj:j<64)(hb:p.bits.getLsbD j=true):f_ p j=⟨p.mode,p.bF,p.set,p.len,p.ttl,p.ent,p.ing,p.proto,1#64<<<j,p.pay⟩:=by
 rw[f_,if_pos ⟨h,by omega,by omega,by simpa using hb⟩];simp
theorem acw.hop{b:Tb}{p:Pk}(h:Fits b p){o:Out}(hF:acw b p iC o p.bits){k:Nat}(hk:k<64):
  o.g_.filter (fun c=>c.2.bits.getLsbD k)=if p.bits.getLsbD k=true∧p.ttl≠0∧aF b p k≠0∧aF b p k≠b.r then [(aF b p k,qJ b p (aF b p k))]else []:=by
 obtain⟨H,h1,h2,h3⟩:=hF.g_;rw[h1];simp only[iC,List.nil_append];rw[List.filter_map];by_cases hb:p.bits.getLsbD k=true
 ·have e:H.filter ((fun c:Int×Pk=>c.2.bits.getLsbD k)∘fun x=>(x,qJ b p x))=H.filter fun x=>decide (x=aF b p k):=by
   apply List.filter_congr;intro x hx;obtain⟨_,a1,a2,j,hj,a3,a4⟩:=(h3 x).1 hx;have hr:=(CX h.ck (k:=j) (p:=p) (by rw[a4];exact a1)).2;rw[a4]at hr
   show(qJ b p x).bits.getLsbD k=_
   rw[Bool.eq_iff_iff,DY h hk hr];simp[hb,eq_comm]
  rw[e,wP h2];by_cases hc:p.ttl≠0∧aF b p k≠0∧aF b p k≠b.r
  ·rw[if_pos ((h3 _).2 ⟨hc.1,hc.2.1,hc.2.2,k,hk,hb,rfl⟩),if_pos ⟨hb,hc⟩];rfl
  ·rw[if_neg (fun a=>hc ⟨((h3 _).1 a).1,((h3 _).1 a).2.1,((h3 _).1 a).2.2.1⟩),if_neg (fun a=>hc a.2)];rfl
 ·rw[if_neg (fun a=>hb a.1)];simp only[List.map_eq_nil_iff,List.filter_eq_nil_iff];intro x hx hc;obtain⟨_,a1,a2,j,hj,a3,a4⟩:=(h3 x).1 hx;have hr:=(CX h.ck (k:=j) (p:=p) (by rw[a4];exact a1)).2;rw[a4]at hr
  exact hb ((DY h hk hr).1 hc).1
theorem II{l:List Tb}{q:Int×Pk}(hF:vG l q.2):∀c∈nextQ l q,vG l c.2:=fun c hc=>by
 cases hf:bH l q.1 with
 | none=>simp[nextQ,hf]at hc
 | some b=>
   have hb:=hF.all b (eY hf).1;obtain⟨h1,h2⟩:=pW hb;have hn:nextQ l q=(iH b q.2).g_:=by simp[nextQ,hf,h1]
   obtain⟨H,h3,h4,h5⟩:=h2.g_;rw[hn,h3]at hc
   simp only[iC,List.nil_append,List.mem_map]at hc;obtain⟨x,hx,rfl⟩:=hc;exact hF.mask ((h5 x).1 hx).1 _
inductive Dl (l:List Tb) (id pl:Int):Int→List Int→Prop
 | here {r:Int} {b:Tb}:bH l r=some b→mG b id pl=r→r≠0→Dl l id pl r []
 | next {r h:Int} {b:Tb} {ws:List Int}:bH l r=some b→mG b id pl=h→h≠0→h≠r→Dl l id pl h ws→Dl l id pl r (h::ws)
theorem Dl.det{l:List Tb}{id pl r:Int}{ws:List Int}(h:Dl l id pl r ws):∀{us:List Int},Dl l id pl r us→ws=us:=by
 induction h with
 | here h1 h2 h3=>
   intro us g;cases g with
   | here=>rfl
   | next g1 g2 g3 g4 _=>
     rw[h1]at g1;simp at g1;subst g1
     exact absurd (g2.symm.trans h2) g4
 | next h1 h2 h3 h4 _ ih=>
   intro us g;cases g with
   | here g1 g2 g3=>
     rw[h1]at g1;simp at g1;subst g1
     exact absurd (h2.symm.trans g2) h4
   | next g1 g2 g3 g4 g5=>
     rw[h1]at g1;simp at g1;subst g1
     have e:=h2.symm.trans g2;subst e;rw[ih g5]
def jW(r:Int):List Int→Int
 | []=>r
 | h::ws=>jW h ws
theorem Dl.rest{l:List Tb}{id pl r:Int}{ws:List Int}(h:Dl l id pl r ws):∀{x:Int},x∈ws→∃us,Dl l id pl x us∧us.length<ws.length:=by
 induction h with
 | here=>intro x hx;simp at hx
 | next h1 h2 h3 h4 h5 ih=>
   intro x hx;rcases List.mem_cons.1 hx with rfl|hx
   ·exact⟨_,h5,by simp⟩
   ·obtain⟨us,g1,g2⟩:=ih hx;exact⟨us,g1,by simp;omega⟩
theorem Dl.nodup{l:List Tb}{id pl r:Int}{ws:List Int}(h:Dl l id pl r ws):(r::ws).Nodup:=by
 induction h with
 | here=>simp
 | @next r h b ws h1 h2 h3 h4 h5 ih=>
   refine List.nodup_cons.2 ⟨fun hm=>?_,ih⟩;have hD:=Dl.next h1 h2 h3 h4 h5;obtain⟨us,g1,g2⟩:=hD.rest hm;have:=hD.det g1;rw[←this]at g2;omega
theorem Dl.found{l:List Tb}{id pl r:Int}{ws:List Int}(h:Dl l id pl r ws):∀x∈r::ws,(bH l x).isSome:=by
 induction h with
 | here h1=>intro x hx;simp at hx;subst hx;simp[h1]
 | next h1 _ _ _ _ ih=>
   intro x hx;rcases List.mem_cons.1 hx with rfl|hx
   ·simp[h1]
   ·exact ih x hx
theorem Dl.len{l:List Tb}{id pl r:Int}{ws:List Int}(h:Dl l id pl r ws):ws.length+1≤l.length:=by
 have:=ajc h.nodup h.found;simpa using this
theorem r_{α:Type}{q:α→Bool}:∀{l:List α} {x:α},x∈l→q x=true→(∀y∈l,q y=true→y=x)→l.find? q=some x
 | [],x,h,_,_=>by simp at h
 | a::l,x,h,hq,hu=>by
   rw[List.find?_cons];cases ha:q a with
   | true=>rw[hu a (by simp) ha]
   | false=>
     rcases List.mem_cons.1 h with rfl|h
     ·rw[hq]at ha;simp at ha
     ·exact r_ h hq (fun y hy=>hu y (by simp[hy]))
theorem aji{g:ay}(hg:g.Ok){x y:Rt}(hx:x∈g.rs)(hy:y∈g.rs)(e:x.id=y.id):x=y:=by
 obtain⟨i,hi,rfl⟩:=List.mem_iff_getElem.1 hx;obtain⟨j,hj,rfl⟩:=List.mem_iff_getElem.1 hy;have hp:=List.pairwise_iff_getElem.1 hg.rpw;rcases Nat.lt_trichotomy i j with hlt|rfl|hlt
 ·have:=hp i j hi hj hlt;omega
 ·rfl
 ·have:=hp j i hj hi hlt;omega
theorem adD{g:ay}(hg:g.Ok){x:Rt}(hx:x∈g.rs):O1 g.rs x.id=some x:=
 r_ hx (by simp) (fun y hy e=>aji hg hy hx (by simpa using e))
theorem xw{g:ay}(hg:g.Ok){r:Int}:dY g.rs r=true↔∃x∈g.rs,x.id=r∧x.cap=true:=by
 constructor
 ·intro h;unfold dY at h;cases hr:O1 g.rs r with
  | none=>simp[hr]at h
  | some x=>
    simp only[hr,Option.getD_some]at h;exact⟨x,List.mem_of_find?_eq_some hr,by simpa using List.find?_some hr,h⟩
 ·rintro⟨x,hx,rfl,hc⟩;simp[dY,adD hg hx,hc]
theorem Zj{g:ay}{p:Pn}{b:Tb}(h:b∈tabs g p g.rs):∃x∈g.rs,x.cap=true∧b=jE g p x.id:=by
 obtain⟨z,hz,rfl⟩:=List.mem_map.1 h;obtain⟨h1,h2⟩:=List.mem_filter.1 hz;exact⟨z,h1,h2,rfl⟩
theorem oU(g:ay)(p:Pn):(tabs g p g.rs).length≤g.rs.length:=by
 simp only[tabs,List.length_map];exact List.length_filter_le _ _
theorem Wk.app{g:ay}{a b:Int}{j k:Nat}{x v w:Int}(h1:Wk g a j x v)(h2:Wk g b k a w):∃u,Wk g b (j+k) x u:=by
 induction h1 with
 | nil=>exact⟨w,by rw[Nat.zero_add];exact h2⟩
 | @cons k' x y c v hp _ ih=>
   obtain⟨u,hu⟩:=ih;exact⟨c+u,by rw[show k'+1+k=k'+k+1 by omega];exact .cons hp hu⟩
def MP(x y:Lk):Prop:=¬(x.a=y.a∧x.b=y.b)
structure zx(b a:Int)(l:List Lk):Prop where
 all:∀x∈l,(1≤x.a∧x.a<x.b∧(x.b<b∨(x.b=b∧x.a<a)))∧(1≤x.ca∧x.ca≤1000)∧(1≤x.cb∧x.cb≤1000)∧0≤x.cap∧x.cap≤1000
 ne:l.Pairwise MP
theorem zx.step{b a cost tree:Int}{skip:Bool}{T:Tp}{l:List Lk}(h:zx b a l)(ha:1≤a)(hab:a<b)(hc:1≤cost∧cost≤1000):zx b (a+1) (dI cost tree skip b a T l).1:=by
 have hw:zx b (a+1) l:=⟨fun x hx=>by have:=h.all x hx;omega,h.ne⟩
 unfold dI;simp only;generalize (if(decide (a=tree) && !skip)=true then(true,T)else dD T 3)=c;cases c.1 with
 | false=>simpa using hw
 | true=>
   simp only[if_true];have r1:=aS c.2 1 cost;have r2:=aQ c.2 (a:=1) (b:=cost) hc.1;generalize aT c.2 1 cost=X at r1 r2;have r3:=aS X.2 1 cost;have r4:=aQ X.2 (a:=1) (b:=cost) hc.1;generalize aT X.2 1 cost=Y at r3 r4;have r5:=aC Y.2 4;have r6:=bg Y.2 (n:=4) (by omega);generalize au Y.2 4=Z at r5 r6;refine⟨fun x hx=>?_,?_⟩
   ·rcases List.mem_append.1 hx with hx|hx
    ·exact hw.all x hx
    ·simp at hx;subst hx;exact⟨⟨ha,hab,.inr ⟨rfl,by show a<a+1;omega⟩⟩,⟨r1,Int.le_trans r2 hc.2⟩,⟨r3,Int.le_trans r4 hc.2⟩,r5,by show Z.1≤1000;omega⟩
   ·rw[List.pairwise_append];refine⟨h.ne,by simp,fun x hx y hy=>?_⟩;simp at hy;subst hy;have:=h.all x hx;unfold MP;simp only;omega
theorem zx.row{b cost tree:Int}{skip:Bool}(hc:1≤cost∧cost≤1000):∀(n:Nat) (a:Int) (T:Tp) (l:List Lk),zx b a l→1≤a→a+n≤b→zx b (a+n) (dV cost tree skip b n a T l).1
 | 0,a,T,l,h,_,_=>by simpa[dV]using h
 | n+1,a,T,l,h,h1,h2=>by
   rw[dV];have:=zx.row (tree:=tree) (skip:=skip) hc n (a+1) (dI cost tree skip b a T l).2 _ (h.step (tree:=tree) (skip:=skip) (T:=T) h1 (by omega) hc) (by omega) (by omega);rw[show a+((n+1:Nat):Int)=a+1+n by omega];exact this
theorem y8{α:Type}{q:α→α→Bool}{r:α→α→Prop}(hr:∀x y,r x y→q x y=false):∀{l:List α},l.Pairwise r→nO q l=false
 | [],_=>rfl
 | [x],_=>rfl
 | x::y::l,h=>by
   rw[List.pairwise_cons]at h
   rw[nO,hr x y (h.1 y (by simp)),y8 hr h.2];rfl
structure Wh(l:List Tb)(Q:List (Int×Pk))(t:dQ):Prop where
 fit:∀q∈Q,vG l q.2∧(bH l q.1=none→q.2.bits≠0#64)
 dl:∀d∈t.dl,∃k<64,d.2.bits=1#64<<<k
 ls:∀x∈t.ls,x.2≠0#64
 cr:∀c∈t.cr,c.2.2≠0#64
theorem Wh.step{l:List Tb}{q:Int×Pk}{Q:List (Int×Pk)}{t:dQ}(h:Wh l (q::Q) t):Wh l (Q++nextQ l q) (stepT l q t):=by
 have hq:=h.fit q (by simp);have hQ:∀c∈Q,vG l c.2∧(bH l c.1=none→c.2.bits≠0#64):=fun c hc=>h.fit c (by simp[hc])
 cases hf:bH l q.1 with
 | none=>
   have hn:nextQ l q = []:=by simp[nextQ,hf]
   rw[hn,List.append_nil];refine⟨hQ,?_,?_,?_⟩<;>simp only[stepT,hf]
   ·exact h.dl
   ·intro x hx;rcases List.mem_append.1 hx with hx|hx
    ·exact h.ls x hx
    ·simp at hx;subst hx;exact hq.2 hf
   ·exact h.cr
 | some b=>
   have hb:=hq.1.all b (eY hf).1;obtain⟨h1,h2⟩:=pW hb;have hn:nextQ l q=(iH b q.2).g_:=by simp[nextQ,hf,h1]
   obtain⟨H,h3,h4,h5⟩:=h2.g_;have hc:∀c∈(iH b q.2).g_,c.2.bits≠0#64:=fun c hc=>by
    rw[h3]at hc
    simp only[iC,List.nil_append,List.mem_map]at hc;obtain⟨x,hx,rfl⟩:=hc;obtain⟨_,a1,a2,k,hk,a3,a4⟩:=(h5 x).1 hx;have hr:=(CX hb.ck (k:=k) (p:=q.2) (by rw[a4];exact a1)).2;rw[a4]at hr
    have:=(DY hb hk hr).2 ⟨a3,a4⟩;intro e;simp only at e;rw[e]at this;simp at this
   refine⟨fun c hm=>?_,?_,?_,?_⟩
   ·rcases List.mem_append.1 hm with hm|hm
    ·exact hQ c hm
    ·exact⟨II hq.1 c hm,fun _=>hc c (by rw[←hn];exact hm)⟩
   ·simp only[stepT,hf,h1];intro d hd;rcases List.mem_append.1 hd with hd|hd
    ·exact h.dl d hd
    ·simp only[nI,lg,List.map_map,List.mem_map]at hd;obtain⟨k,hk,rfl⟩:=hd;obtain⟨k1,k2⟩:=sN.1 hk;have hpb:q.2.bits.getLsbD k=true:=by
      rcases (h2.loc k k1).1 k2 with a|a
      ·simp[iC]at a
      ·exact a.1
     refine⟨k,k1,?_⟩
     show(f_ q.2 (Int.ofNat k)).bits=_
     have:=IL hq.1.ok k1 hpb;rw[Int.ofNat_eq_natCast,this]
   ·simp only[stepT,hf,h1];intro x hx;split at hx
    ·exact h.ls x hx
    ·rename_i hne;rcases List.mem_append.1 hx with hx|hx
     ·exact h.ls x hx
     ·simp at hx;subst hx;exact hne
   ·simp only[stepT,hf,h1];intro c hm;rcases List.mem_append.1 hm with hm|hm
    ·exact h.cr c hm
    ·obtain⟨x,hx,rfl⟩:=List.mem_map.1 hm;exact hc x hx
def fH(g:ay):Int→List Int→Option Int
 | _,[]=>some 0
 | r,h::ws=>match price g.ls r h,fH g h ws with
   | some c,some v=>some (c+v)
   | _,_=>none
def B_(g:ay):Prop:=∀x∈g.rs,x.cap=true
theorem B_.cap{g:ay}(hg:g.Ok)(h:B_ g){r:Int}(hr:aY g.rs r=true):dY g.rs r=true:=by
 obtain⟨x,hx,rfl⟩:=List.mem_map.1 (dH.1 hr);exact(xw hg).2 ⟨x,hx,rfl,h x hx⟩
open Go Go.Tr
def BU(cp:Int→Bool)(to:Int)(go:Int→List Int):List Int→List Int
 | []=>[]
 | n::l=>if n=to then [to]else if cp n=true then BU cp to go l else if go n = []then BU cp to go l else n::go n
def J5(nx:Int→List Int)(cp:Int→Bool)(to:Int):Nat→Int→List Int
 | 0,_=>[]
 | k+1,r=>BU cp to (J5 nx cp to k) (nx r)
def Xk(l:List Int):TV:=match l with
 | []=>.c (.slice none 0 0)
 | _::_=>.d (ints l)
theorem SY{l:List Int}(h:l = []):Xk l = .c (.slice none 0 0):=by subst h;rfl
theorem ahq{l:List Int}(h:l≠[]):Xk l = .d (ints l):=by
 cases l with
 | nil=>exact absurd rfl h
 | cons x l=>rfl
def Hf(g:ay)(to r:Int):List Int:=steps g (dist g to) r
def route(g:ay)(f t:Int):List Int:=
 if cZ g=0∧aY g.rs f=true∧aY g.rs t=true∧¬f=t then J5 (Hf g t) (dY g.rs) t ((dst g t f).toNat+1) f else []
theorem XG{g:ay}(hg:g.Ok){to x y:Int}(h:y∈Hf g to x):∃c,price g.ls x y=some c∧c+dst g to y=dst g to x∧aY g.rs x=true∧aY g.rs y=true:=by
 obtain⟨_,_,_,c,hp,hc⟩:=(lM hg).1 h;exact⟨c,hp,hc,(jA hg hp).1,(jA hg hp).2⟩
theorem QA{g:ay}(hg:g.Ok)(to r:Int):(Hf g to r).length≤24:=by
 have:(Hf g to r).length≤g.rs.length:=by
  unfold Hf steps;split
  ·simp
  ·refine Nat.le_trans (List.length_filter_le _ _) ?_;unfold near;rw[List.length_map];exact List.length_filter_le _ _
 have:=hg.nr;omega
theorem Ei{g:ay}(hg:g.Ok){to r n:Int}{k:Nat}(hk:(dst g to r).toNat<k+1)(hn:n∈Hf g to r):(dst g to n).toNat<k∧aY g.rs n=true:=by
 have h1:=(zY hg hn).1;have h2:=(rZ hg to n).1;obtain⟨_,_,_,_,h⟩:=XG hg hn;exact⟨by omega,h⟩
structure Down(g:ay)(to:Int)(r:Int)(w:List Int):Prop where
 cost:∃C,fH g r w=some C∧C=dst g to r
 last:jW r w=to
 inn:∀x∈w,x=to∨dY g.rs x=false
 dsc:(r::w).Pairwise fun x y=>dst g to y<dst g to x
 has:∀x∈w,aY g.rs x=true
theorem Down.one{g:ay}(hg:g.Ok){to r:Int}(hto:aY g.rs to=true)(h:to∈Hf g to r):Down g to r [to]:=by
 obtain⟨c,hp,hc,_,_⟩:=XG hg h;have h0:=QY hg hto;have h1:=(zY hg h).1;exact⟨⟨c,by simp[fH,hp],by omega⟩,rfl,by simp,by simp;omega,by simpa using hto⟩
theorem Down.cons{g:ay}(hg:g.Ok){to r n:Int}{w:List Int}(h:n∈Hf g to r)(hc:dY g.rs n=false)(hw:Down g to n w):Down g to r (n::w):=by
 obtain⟨c,hp,hcd,_,hn⟩:=XG hg h;have h1:=(zY hg h).1;obtain⟨C,hC,hCd⟩:=hw.cost;refine⟨⟨c+C,by simp[fH,hp,hC],by omega⟩,hw.last,fun x hx=>?_,?_,fun x hx=>?_⟩
 ·rcases List.mem_cons.1 hx with rfl|hx
  ·exact .inr hc
  ·exact hw.inn x hx
 ·refine List.pairwise_cons.2 ⟨fun y hy=>?_,hw.dsc⟩;rcases List.mem_cons.1 hy with rfl|hy
  ·exact h1
  ·have:=(List.pairwise_cons.1 hw.dsc).1 y hy;omega
 ·rcases List.mem_cons.1 hx with rfl|hx
  ·exact hn
  ·exact hw.has x hx
theorem Y_{g:ay}(hg:g.Ok){to r:Int}(hto:aY g.rs to=true){go:Int→List Int}(hgo:∀n∈Hf g to r,n≠to→go n≠[]→Down g to n (go n)):
  ∀l:List Int,(∀n∈l,n∈Hf g to r)→BU (dY g.rs) to go l≠[]→Down g to r (BU (dY g.rs) to go l)
 | [],_,h=>absurd rfl h
 | n::l,hl,h=>by
   have ih:=Y_ hg hto hgo l fun x hx=>hl x (List.mem_cons_of_mem _ hx)
   have hn:=hl n (List.mem_cons_self ..);unfold BU at h⊢;split
   ·rename_i e;subst e;exact Down.one hg hto hn
   ·rename_i h1;rw[if_neg h1]at h
    split
    ·rename_i h2;rw[if_pos h2]at h;exact ih h
    ·rename_i h2;rw[if_neg h2]at h
     split
     ·rename_i h3;rw[if_pos h3]at h;exact ih h
     ·rename_i h3;exact Down.cons hg hn (by simpa using h2) (hgo n hn h1 h3)
theorem FD{g:ay}(hg:g.Ok){to:Int}(hto:aY g.rs to=true):∀(k:Nat) (r:Int),(dst g to r).toNat<k→J5 (Hf g to) (dY g.rs) to k r≠[]→Down g to r (J5 (Hf g to) (dY g.rs) to k r)
 | 0,_,h,_=>by omega
 | k+1,r,hk,h=>Y_ hg hto (fun n hn _ hne=>FD hg hto k n (Ei hg hk hn).1 hne) _ (fun _ h=>h) h
theorem Dk{g:ay}{f t:Int}(h:route g f t≠[]):Down g t f (route g f t)∧g.Ok:=by
 unfold route at h⊢;split
 ·rename_i hc;rw[if_pos hc]at h
  exact⟨FD (aU hc.1) hc.2.2.1 _ _ (by omega) h,aU hc.1⟩
 ·rename_i hc;rw[if_neg hc]at h;exact absurd rfl h
theorem Down.nodup{g:ay}{t r:Int}{w:List Int}(h:Down g t r w):(r::w).Nodup:=h.dsc.imp fun {x y} hlt e=>by subst e;omega
theorem Down.len{g:ay}(hg:g.Ok){t r:Int}{w:List Int}(h:Down g t r w):w.length≤24:=by
 have:=BG (g:=g) (List.nodup_cons.1 h.nodup).2 h.has;have:=hg.nr;omega
theorem pK(g:ay)(f t:Int):(route g f t).length≤24:=by
 by_cases h:route g f t = []
 ·simp[h]
 ·obtain⟨h1,h2⟩:=Dk h;exact h1.len h2
end Go.Proofs

set_option linter.unusedVariables false
set_option maxRecDepth 100000
set_option maxHeartbeats 16000000
namespace Go.Proofs
open Go Go.Tr
theorem Nw{cp:Int→Bool}{to:Int}{go:Int→List Int}{l:List Int}{i:Nat}{n:Int}(h:l[i]? = some n):BU cp to go (l.drop i)=if n=to then [to]else if cp n=true then BU cp to go (l.drop (i+1))else if go n = []then BU cp to go (l.drop (i+1))else n::go n:=by
 obtain⟨hi,rfl⟩:=List.getElem?_eq_some_iff.1 h;rw[List.drop_eq_getElem_cons hi,BU]
theorem A8(g:ay)(h0:cZ g=0)(to:Int)(hto:aY g.rs to=true):∀(k:Nat) (r:Int),(dst g to r).toNat<k→
  Contract Tryz.prog 83 [aH g,.d (ints (dist g to)),.d (.int .i64 r),.d (.int .i64 to)] [] (.d (ints (J5 (Hf g to) (dY g.rs) to k r))) [] []
 | 0,_,h=>by omega
 | k+1,r,hk=>by
   have hg:=aU h0;have hs:=hg.sm;have IH:=A8 g h0 to hto k;have hst:=JJ g hg (dist g to) (by rw[H_];exact Nat.le_refl _) (LC hg to) r;obtain⟨l,hl⟩:∃l,l=Hf g to r:=⟨_,rfl⟩
   have hll:l.length≤24:=hl▸QA hg to r;have hlm:∀n∈l,(dst g to n).toNat<k∧aY g.rs n=true:=fun n hn=>Ei hg hk (hl▸hn)
   rw[show steps g (dist g to) r=l from hl.symm]at hst
   obtain⟨go,hgo⟩:∃go,go=J5 (Hf g to) (dY g.rs) to k:=⟨_,rfl⟩
   have hS:J5 (Hf g to) (dY g.rs) to (k+1) r=BU (dY g.rs) to go l:=by rw[J5,hl,hgo]
   have hgl:∀n∈l,(go n).length≤24:=fun n hn=>by
    by_cases hne:go n = []
    ·simp[hne]
    ·rw[hgo]at hne⊢
     exact(FD hg hto k n (hlm n hn).1 hne).len hg
   rw[hS];obtain⟨w,hw⟩:∃w,w=BU (dY g.rs) to go l:=⟨_,rfl⟩
   rw[←hw];rw[←hgo]at IH
   generalize dist g to=d at IH hst⊢;simp only[aH]at IH hst;refine aj Tryz.func83 rfl (fun E0=>?_);refine cO.sound (g:=.mk) (ow:=[51]) (kp:=(fun k=>k==0||k==1||k==2||k==3||k==4||k==8||k==9||k==10||k==11||k==19||k==27||k==35||k==46)) ?_;rw[Tryz.ntmps83];simp -dsimp[aH];refine ah.of hst [] 0 ?_;simp -dsimp[aH,ints]
   refine aN.of [51] (fun k=>k==0||k==1||k==2||k==3||k==4||k==8||k==9||k==10||k==11||k==19||k==27||k==35||k==46) (ι:={i:Nat // i≤l.length∧BU (dY g.rs) to go l=BU (dY g.rs) to go (l.drop i)})
    (fun z=>[(Pl.s 1,It.v (.d (ints d))),(Pl.s 3,It.v (.d (.int .i64 to))),(Pl.o 4,It.box [.d (.sl (rts g.rs)),.d (.sl (dO g.ls))]),(Pl.s 4,It.v (.ptr (.o 4) 0)),(Pl.s 9,It.v (.d (ints l))),(Pl.s 10,It.v (.d (.int .i64 z.1)))])
    (fun z=>l.length-z.1) ⟨0,by omega,by simp⟩ ?_ ?_
   ·exact GS.to (by simp[ints])
   ·rintro⟨i,i1,i2⟩;by_cases hi:i<l.length
    ·have hiz:(i:Int)<l.length:=by omega
     have hx:l[i]? = some l[i]:=List.getElem?_eq_getElem hi;have hmem:=List.getElem_mem hi;have hd:=Nw (cp:=dY g.rs) (to:=to) (go:=go) hx;generalize l[i]=n at hx hmem hd;have hm:=hlm n hmem;have hgn:=hgl n hmem;have hcp:=xZ g hs n;simp only[aH,h0,decide_true,Bool.true_and]at hcp;have hx':(l.map fun n=>[D.int .i64 n])[i]? = some [.int .i64 n]:=by simp[hx]
     have w1:IntKind.i64.wrap ((i:Int)+1)=(i:Int)+1:=wrap_i64 (by omega) (by omega);by_cases hn:n=to
     ·have vw:w = [to]:=hw.trans (i2.trans (by rw[hd,if_pos hn]));simp -dsimp[hiz,hx,hx',ints,hn];and_intros;all_goals try first|omega|exact⟨by kernel_rfl⟩|rfl
      refine Fin.view 8 ?_;simp -dsimp;refine Fin.of ?_;simp[ints,vw]
     ·have hcz:w=if dY g.rs n=true then BU (dY g.rs) to go (l.drop (i+1))else if go n = []then BU (dY g.rs) to go (l.drop (i+1))else n::go n:=hw.trans (i2.trans (by rw[hd,if_neg hn]))
      simp -dsimp[hiz,hx,hx',ints,hn];and_intros;all_goals try first|omega|exact⟨by kernel_rfl⟩|rfl
      refine ah.of hcp [] 0 ?_;rcases (Bool.eq_false_or_eq_true (dY g.rs n)).symm with hc|hc
      ·rw[if_neg (by simp[hc])]at hcz
       simp -dsimp[hc,hiz,hx,hx',ints];and_intros;all_goals try first|omega|exact⟨by kernel_rfl⟩|rfl
       refine ah.of (IH n hm.1) [] 0 ?_;by_cases EZ:go n = []
       ·rw[EZ];simp -dsimp[ints,w1,hiz];and_intros;all_goals try first|omega|exact⟨by kernel_rfl⟩|rfl
        refine⟨⟨i+1,by omega,i2.trans (by rw[hd,if_neg hn,if_neg (by simp[hc]),if_pos EZ])⟩,GS.to (by simp[ints]),by simp;omega⟩
       ·have hgp:0<(go n).length:=List.length_pos_iff.2 EZ;have hgz:(0:Int)<(go n).length:=by omega
        rw[if_neg EZ]at hcz
        simp -dsimp[ints,hgz,hgp,hiz,hx,hx'];and_intros;all_goals try first|omega|exact⟨by kernel_rfl⟩|exact iF 1 _ _ (fun _=>rfl)|rfl
        refine Fin.view 8 ?_;simp -dsimp;refine⟨by omega,?_⟩;refine Fin.of ?_;simp[ints,hcz]
      ·simp -dsimp[hc,w1];and_intros;all_goals try first|omega|exact⟨by kernel_rfl⟩|rfl
       refine⟨⟨i+1,by omega,i2.trans (by rw[hd,if_neg hn,if_pos hc])⟩,GS.to (by simp[ints]),by simp;omega⟩
    ·have hiz :¬(i:Int)<l.length:=by omega
     have hdn:l.drop i = []:=List.drop_eq_nil_of_le (by omega);have vw:w = []:=hw.trans (i2.trans (by rw[hdn,BU]));simp -dsimp[hiz,ints];refine Fin.view 8 ?_;simp -dsimp;refine Fin.of ?_;simp[ints,vw]
theorem sS(g:ay)(hs:g.Sm)(f t:Int):Contract Tryz.prog 22 [aH g,.d (.int .i64 f),.d (.int .i64 t)] [] (.d (ints (route g f t))) [] []:=by
 have h1:=sG g hs f;have h2:=sG g hs t;simp only[aH]at h1 h2;by_cases h0:cZ g=0
 ·simp only[h0,decide_true,Bool.true_and]at h1 h2;rcases (Bool.eq_false_or_eq_true (aY g.rs f)).symm with hf|hf
  ·have e:route g f t = []:=by unfold route;rw[if_neg (by simp[hf])]
   rw[e];rw[hf]at h1
   refine aj Tryz.func22 rfl (fun E0=>?_);refine cO.sound (g:=.mk) (ow:=[]) (kp:=(fun k=>k==0||k==1||k==2||k==3||k==6||k==21)) ?_;rw[Tryz.ntmps22];simp -dsimp[aH];refine ah.of h1 [] 0 ?_;simp -dsimp[aH];and_intros;all_goals try first|omega|exact⟨by kernel_rfl⟩|rfl
   refine Fin.view 6 ?_;simp -dsimp;refine Fin.of ?_;simp[ints]
  rcases (Bool.eq_false_or_eq_true (aY g.rs t)).symm with ht|ht
  ·have e:route g f t = []:=by unfold route;rw[if_neg (by simp[ht])]
   rw[e];rw[hf]at h1
   rw[ht]at h2
   refine aj Tryz.func22 rfl (fun E0=>?_);refine cO.sound (g:=.mk) (ow:=[]) (kp:=(fun k=>k==0||k==1||k==2||k==3||k==6||k==21)) ?_;rw[Tryz.ntmps22];simp -dsimp[aH];refine ah.of h1 [] 0 ?_;simp -dsimp[aH];refine ah.of h2 [] 0 ?_;simp -dsimp[aH];and_intros;all_goals try first|omega|exact⟨by kernel_rfl⟩|rfl
   refine Fin.view 6 ?_;simp -dsimp;refine Fin.of ?_;simp[ints]
  rw[hf]at h1
  rw[ht]at h2
  by_cases hne:f=t
  ·have e:route g f t = []:=by unfold route;rw[if_neg (by simp[hne])]
   rw[e];refine aj Tryz.func22 rfl (fun E0=>?_);refine cO.sound (g:=.mk) (ow:=[]) (kp:=(fun k=>k==0||k==1||k==2||k==3||k==6||k==21)) ?_;rw[Tryz.ntmps22];simp -dsimp[aH];refine ah.of h1 [] 0 ?_;simp -dsimp[aH];refine ah.of h2 [] 0 ?_;simp -dsimp[aH,hne];and_intros;all_goals try first|omega|exact⟨by kernel_rfl⟩|rfl
   refine Fin.view 6 ?_;simp -dsimp;refine Fin.of ?_;simp[ints]
  ·have hg:=aU h0;have h3:=Uj g hg t;have h4:=A8 g h0 t ht ((dst g t f).toNat+1) f (by omega);have e:route g f t=J5 (Hf g t) (dY g.rs) t ((dst g t f).toNat+1) f:=by unfold route;rw[if_pos ⟨h0,hf,ht,hne⟩]
   rw[e];simp only[aH]at h3 h4;refine aj Tryz.func22 rfl (fun E0=>?_);refine cO.sound (g:=.mk) (ow:=[]) (kp:=(fun k=>k==0||k==1||k==2||k==3||k==6||k==21)) ?_;rw[Tryz.ntmps22];simp -dsimp[aH];refine ah.of h1 [] 0 ?_;simp -dsimp[aH];refine ah.of h2 [] 0 ?_;simp -dsimp[aH,hne];refine ah.of h3 [] 0 ?_;simp -dsimp[aH];refine ah.of h4 [] 0 ?_;simp -dsimp[aH];and_intros
   all_goals try first|omega|exact⟨by kernel_rfl⟩|rfl
   refine Fin.of ?_;simp
 ·have e:route g f t = []:=by unfold route;rw[if_neg (by simp[h0])]
  rw[e];simp only[h0,decide_false,Bool.false_and]at h1;refine aj Tryz.func22 rfl (fun E0=>?_);refine cO.sound (g:=.mk) (ow:=[]) (kp:=(fun k=>k==0||k==1||k==2||k==3||k==6||k==21)) ?_;rw[Tryz.ntmps22];simp -dsimp[aH];refine ah.of h1 [] 0 ?_;simp -dsimp[aH];and_intros;all_goals try first|omega|exact⟨by kernel_rfl⟩|rfl
  refine Fin.view 6 ?_;simp -dsimp;refine Fin.of ?_;simp[ints]
end Go.Proofs

namespace Go.Tr
open Go
theorem ah.view{P:Program}{A:eX}{ops:Array Oper}{i:Nat}{t:S}{k:List Pl→List (Pl×It)→Prop}{g:Tg k}(ss:List Nat)
  (h:(pF t (ss.map .tmp)).C∧ah P A ops i (over t (pF t (ss.map .tmp)).W) (fun rp W=>k ((pF t (ss.map .tmp)).rp++rp) (W++(pF t (ss.map .tmp)).W)) .mk):ah P A ops i t k g:=by
 obtain⟨h0,⟨rp,W,h1,h2⟩⟩:=h;exact⟨⟨_,_,h1.viewed _ h0,h2⟩⟩
end Go.Tr
