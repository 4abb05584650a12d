/-
  What functions of the program compute, stated as contracts over plain data; the conditions of each stand in its own statement.
-/
import Derived.Test.YtboimfkommpglaaGreatDoorZA21
import Derived.Test.YtboimfkommpglaaGreatDoorZA22
import Derived.Test.YtboimfkommpglaaGreatDoorZA23
set_option linter.unusedSimpArgs false
set_option linter.unusedVariables false
namespace Go.Proofs
open Go Go.Tr
theorem Ov{es:IM}{k v:Int}(h:gI es k=some v):(k,v)∈es:=by
 induction es with
 | nil=>simp[gI]at h
 | cons x es ih=>
   rw[gI]at h
   split at h
   ·rename_i e;simp only[Option.some.injEq]at h;subst e;subst h;simp
   ·exact List.mem_cons_of_mem _ (ih h)
theorem JZ{es:IM}(nd:(es.map (·.1)).Nodup){k v:Int}(h:(k,v)∈es):gI es k=some v:=by
 induction es with
 | nil=>simp at h
 | cons x es ih=>
   rw[List.map_cons,List.nodup_cons]at nd
   rw[gI];rcases List.mem_cons.1 h with rfl|h
   ·simp
   ·have:k≠x.1:=fun e=>nd.1 (List.mem_map.2 ⟨_,h,e⟩)
    rw[if_neg this];exact ih nd.2 h
theorem abK{es:IM}{k:Int}:gI es k=none↔k∉es.map (·.1):=by
 induction es with
 | nil=>simp[gI]
 | cons x es ih=>
   rw[gI];by_cases h:k=x.1
   ·simp[h]
   ·rw[if_neg h,ih,List.map_cons,List.mem_cons];simp[h]
theorem afB{es:IM}(nd:(es.map (·.1)).Nodup){k v:Int}{x:Int×Int}:x∈pI es k v↔x=(k,v)∨(x∈es∧x.1≠k):=by
 induction es with
 | nil=>simp[pI]
 | cons y es ih=>
   rw[List.map_cons,List.nodup_cons]at nd
   rw[pI];by_cases h:k=y.1
   ·rw[if_pos h,List.mem_cons,List.mem_cons];constructor
    ·rintro (e|e)
     ·exact .inl e
     ·refine .inr ⟨.inr e,fun g=>nd.1 (List.mem_map.2 ⟨x,e,by rw[g,h]⟩)⟩
    ·rintro (e|⟨e|e,g⟩)
     ·exact .inl e
     ·exact absurd (by rw[e,h]) g
     ·exact .inr e
   ·rw[if_neg h,List.mem_cons,List.mem_cons,ih nd.2];constructor
    ·rintro (e|e|⟨e,g⟩)
     ·exact .inr ⟨.inl e,by rw[e];exact fun g=>h g.symm⟩
     ·exact .inl e
     ·exact .inr ⟨.inr e,g⟩
    ·rintro (e|⟨e|e,g⟩)
     ·exact .inr (.inl e)
     ·exact .inl e
     ·exact .inr (.inr ⟨e,g⟩)
theorem ab7{es:IM}{k v:Int}:∀x,x∈(pI es k v).map (·.1)↔x=k∨x∈es.map (·.1):=by
 induction es with
 | nil=>intro x;simp[pI]
 | cons y es ih=>
   intro x;rw[pI];by_cases h:k=y.1
   ·rw[if_pos h];simp[h]
   ·rw[if_neg h,List.map_cons,List.mem_cons,ih x,List.map_cons,List.mem_cons];constructor
    ·rintro (e|e|e)
     ·exact .inr (.inl e)
     ·exact .inl e
     ·exact .inr (.inr e)
    ·rintro (e|e|e)
     ·exact .inr (.inl e)
     ·exact .inl e
     ·exact .inr (.inr e)
theorem aib{es:IM}(nd:(es.map (·.1)).Nodup)(k v:Int):((pI es k v).map (·.1)).Nodup:=by
 induction es with
 | nil=>simp[pI]
 | cons y es ih=>
   rw[List.map_cons,List.nodup_cons]at nd
   rw[pI];by_cases h:k=y.1
   ·rw[if_pos h,List.map_cons,List.nodup_cons];exact⟨by simpa[h]using nd.1,nd.2⟩
   ·rw[if_neg h,List.map_cons,List.nodup_cons];refine⟨fun g=>?_,ih nd.2⟩;rcases (ab7 y.1).1 g with e|e
    ·exact h e.symm
    ·exact nd.1 e
theorem ajb{es:IM}{k:Int}(h:k∉es.map (·.1))(v:Int):(pI es k v).length=es.length+1:=by
 induction es with
 | nil=>rfl
 | cons y es ih=>
   simp only[List.map_cons,List.mem_cons,not_or]at h;rw[pI,if_neg h.1,List.length_cons,ih h.2,List.length_cons]
theorem aaX{es:IM}{k:Int}{x:Int×Int}:x∈rI es k↔x∈es∧x.1≠k:=by simp[rI,List.mem_filter]
theorem ak8{es:IM}(nd:(es.map (·.1)).Nodup)(k:Int):((rI es k).map (·.1)).Nodup:=by
 unfold rI;exact nd.sublist (List.filter_sublist.map _)
structure Dj(g:ay)(to:Int)(out opn:IM):Prop where
 o1:∀x∈out,aY g.rs x.1=true∧x.2=dst g to x.1∧x.2<far
 o2:∀x∈opn,aY g.rs x.1=true∧x.1∉out.map (·.1)∧∃k,Wk g to k x.1 x.2
 o3:∀b∈out,∀y q,price g.ls y b.1=some q→y∈out.map (·.1)∨∃c,(y,c)∈opn∧c≤q+b.2
 o4:to∈out.map (·.1)∨(to,0)∈opn
 n1:(out.map (·.1)).Nodup
 n2:(opn.map (·.1)).Nodup
theorem Dj.init{g:ay}{to:Int}(hto:aY g.rs to=true):Dj g to [] [(to,0)]:=
 ⟨by simp,by simp only[List.mem_singleton];rintro x rfl;exact⟨hto,by simp,0,.nil⟩,by simp,.inr (by simp),by simp,by simp⟩
theorem Dj.low{g:ay}(hg:g.Ok){to:Int}{out opn:IM}(h:Dj g to out opn){k:Nat}{x v:Int}(hw:Wk g to k x v):x∉out.map (·.1)→∃y∈opn,y.2≤v:=by
 induction hw with
 | nil=>
   intro hx;exact⟨_,h.o4.resolve_left hx,Int.le_refl _⟩
 | @cons k x y c v hp hw ih=>
   intro hx;have hc:=oP hg hp;by_cases hy:y∈out.map (·.1)
   ·obtain⟨b,hb,rfl⟩:=List.mem_map.1 hy;have hv:=(h.o1 b hb).2.1;rcases h.o3 b hb x c hp with g1|⟨d,g1,g2⟩
    ·exact absurd g1 hx
    ·refine⟨_,g1,?_⟩;have hto:aY g.rs to=true:=by
      rcases h.o4 with g3|g3
      ·obtain⟨z,hz,rfl⟩:=List.mem_map.1 g3;exact(h.o1 z hz).1
      ·exact(h.o2 _ g3).1
     have:=(vO hg hto hw).1
     show d≤c+v
     omega
   ·obtain⟨z,hz,hle⟩:=ih hy;exact⟨z,hz,by omega⟩
theorem Dj.abk{g:ay}{to:Int}{out opn:IM}(h:Dj g to out opn):aY g.rs to=true:=by
 rcases h.o4 with g3|g3
 ·obtain⟨z,hz,rfl⟩:=List.mem_map.1 g3;exact(h.o1 z hz).1
 ·exact(h.o2 _ g3).1
theorem Dj.pick{g:ay}(hg:g.Ok){to:Int}{out opn:IM}(h:Dj g to out opn){b:Int×Int}(hb:b∈opn)(hm:∀x∈opn,b.2≤x.2):b.2=dst g to b.1∧b.2<far:=by
 obtain⟨h1,h2,k,hw⟩:=h.o2 b hb;have hto:=h.abk;have hd:=vO hg hto hw;obtain⟨k',hw'⟩:=yI hg hto h1 hd.2;obtain⟨z,hz,hle⟩:=h.low hg hw' h2;have:=hm z hz;omega
structure kF(g:ay)(to:Int)(b:Int×Int)(done:List Int)(out opn:IM):Prop where
 o1:∀x∈out,aY g.rs x.1=true∧x.2=dst g to x.1∧x.2<far
 o2:∀x∈opn,aY g.rs x.1=true∧x.1∉out.map (·.1)∧∃k,Wk g to k x.1 x.2
 o3:∀a∈out,a≠b→∀y q,price g.ls y a.1=some q→y∈out.map (·.1)∨∃c,(y,c)∈opn∧c≤q+a.2
 o5:∀y∈done,∀q,price g.ls y b.1=some q→y∈out.map (·.1)∨∃c,(y,c)∈opn∧c≤q+b.2
 o4:to∈out.map (·.1)∨(to,0)∈opn
 hb:b∈out
 n1:(out.map (·.1)).Nodup
 n2:(opn.map (·.1)).Nodup
theorem Dj.move{g:ay}(hg:g.Ok){to:Int}{out opn:IM}(h:Dj g to out opn){b:Int×Int}(hb:b∈opn)(hm:∀x∈opn,b.2≤x.2):kF g to b [] (pI out b.1 b.2) (rI opn b.1):=by
 obtain⟨h1,h2,k,hw⟩:=h.o2 b hb;obtain⟨p1,p2⟩:=h.pick hg hb hm;have hmem:∀x,x∈pI out b.1 b.2↔x=b∨(x∈out∧x.1≠b.1):=fun x=>afB h.n1
 have hkey:∀x,x∈(pI out b.1 b.2).map (·.1)↔x=b.1∨x∈out.map (·.1):=ab7;refine⟨fun x hx=>?_,fun x hx=>?_,fun a ha hne y q hq=>?_,by simp,?_,(hmem b).2 (.inl rfl),aib h.n1 _ _,ak8 h.n2 _⟩
 ·rcases (hmem x).1 hx with rfl|⟨hx,_⟩
  ·exact⟨h1,p1,p2⟩
  ·exact h.o1 x hx
 ·obtain⟨hx,hxb⟩:=aaX.1 hx;obtain⟨q1,q2,q3⟩:=h.o2 x hx;refine⟨q1,fun hk=>?_,q3⟩;rcases (hkey x.1).1 hk with e|e
  ·exact hxb e
  ·exact q2 e
 ·rcases (hmem a).1 ha with e|⟨ha,_⟩
  ·exact absurd e hne
  ·rcases h.o3 a ha y q hq with e|⟨c,e1,e2⟩
   ·exact .inl ((hkey y).2 (.inr e))
   ·by_cases hy:y=b.1
    ·exact .inl ((hkey y).2 (.inl hy))
    ·exact .inr ⟨c,aaX.2 ⟨e1,hy⟩,e2⟩
 ·rcases h.o4 with e|e
  ·exact .inl ((hkey to).2 (.inr e))
  ·by_cases hy:to=b.1
   ·exact .inl ((hkey to).2 (.inl hy))
   ·exact .inr (aaX.2 ⟨e,hy⟩)
def ajf(out opn:IM)(cb:Int)(y q:Int):IM:=match gI out y with
 | some _=>opn
 | none=>match gI opn y with
   | some c=>if cb+q<c then pI opn y (cb+q)else opn
   | none=>pI opn y (cb+q)
theorem kF.step{g:ay}(hg:g.Ok){to:Int}{b:Int×Int}{done:List Int}{out opn:IM}(h:kF g to b done out opn){y q:Int}(hq:price g.ls y b.1=some q):kF g to b (done++[y]) out (ajf out opn b.2 y q):=by
 have hto:aY g.rs to=true:=by
  rcases h.o4 with g3|g3
  ·obtain⟨z,hz,rfl⟩:=List.mem_map.1 g3;exact(h.o1 z hz).1
  ·exact(h.o2 _ g3).1
 obtain⟨hb1,hb2,hb3⟩:=h.o1 b h.hb;obtain⟨kb,hwb⟩:=yI hg hto hb1 (hb2▸hb3);rw[←hb2]at hwb
 have hwy:∃k,Wk g to k y (b.2+q):=⟨kb+1,by rw[Int.add_comm];exact .cons hq hwb⟩
 have lW:=(jA hg hq).1;have hq1:=oP hg hq;have put:∀(hy:y∉out.map (·.1)),(∀c,(y,c)∈opn→b.2+q≤c)→kF g to b (done++[y]) out (pI opn y (b.2+q)):=fun hy hle=>by
  have hm:∀x,x∈pI opn y (b.2+q)↔x=(y,b.2+q)∨(x∈opn∧x.1≠y):=fun x=>afB h.n2
  have keep:∀z d v,(z,d)∈opn→d≤v→∃c,(z,c)∈pI opn y (b.2+q)∧c≤v:=fun z d v hz hd=>by
   by_cases e:z=y
   ·subst e;exact⟨b.2+q,(hm _).2 (.inl rfl),Int.le_trans (hle d hz) hd⟩
   ·exact⟨d,(hm _).2 (.inr ⟨hz,e⟩),hd⟩
  refine⟨h.o1,fun x hx=>?_,fun a ha hne z p hp=>?_,fun z hz p hp=>?_,?_,h.hb,h.n1,aib h.n2 _ _⟩
  ·rcases (hm x).1 hx with rfl|⟨hx,_⟩
   ·exact⟨lW,hy,hwy⟩
   ·exact h.o2 x hx
  ·rcases h.o3 a ha hne z p hp with e|⟨c,e1,e2⟩
   ·exact .inl e
   ·exact .inr (keep z c _ e1 e2)
  ·rcases List.mem_append.1 hz with hz|hz
   ·rcases h.o5 z hz p hp with e|⟨c,e1,e2⟩
    ·exact .inl e
    ·exact .inr (keep z c _ e1 e2)
   ·obtain rfl:=List.mem_singleton.1 hz;rw[hq]at hp
    obtain rfl:=Option.some.inj hp;exact .inr ⟨b.2+q,(hm _).2 (.inl rfl),by omega⟩
  ·rcases h.o4 with e|e
   ·exact .inl e
   ·by_cases ht:to=y
    ·subst ht;have h0:=hle 0 e;have hbz:0≤b.2:=by
      have:=(rZ hg to b.1).1;omega
     omega
    ·exact .inr ((hm _).2 (.inr ⟨e,ht⟩))
 unfold ajf;cases ho:gI out y with
 | some v=>
   have hyo:y∈out.map (·.1):=List.mem_map.2 ⟨_,Ov ho,rfl⟩;refine⟨h.o1,h.o2,h.o3,fun z hz p hp=>?_,h.o4,h.hb,h.n1,h.n2⟩;rcases List.mem_append.1 hz with hz|hz
   ·exact h.o5 z hz p hp
   ·obtain rfl:=List.mem_singleton.1 hz;exact .inl hyo
 | none=>
   have hyo:y∉out.map (·.1):=abK.1 ho;cases hp:gI opn y with
   | none=>
     simp only;exact put hyo fun c hc=>absurd (List.mem_map.2 ⟨_,hc,rfl⟩) (abK.1 hp)
   | some c=>
     simp only;have hcm:=Ov hp;split
     ·rename_i hlt;refine put hyo fun d hd=>?_
      have:=JZ h.n2 hd;rw[hp]at this
      have:=Option.some.inj this;omega
     ·rename_i hlt;refine⟨h.o1,h.o2,h.o3,fun z hz p hpz=>?_,h.o4,h.hb,h.n1,h.n2⟩;rcases List.mem_append.1 hz with hz|hz
      ·exact h.o5 z hz p hpz
      ·obtain rfl:=List.mem_singleton.1 hz;rw[hq]at hpz
       obtain rfl:=Option.some.inj hpz;exact .inr ⟨c,hcm,by omega⟩
theorem kF.fin{g:ay}{to:Int}{b:Int×Int}{done:List Int}{out opn:IM}(h:kF g to b done out opn)(hd:∀y q,price g.ls y b.1=some q→y∈done):Dj g to out opn:=
 ⟨h.o1,h.o2,fun a ha y q hq=>by
  by_cases e:a=b
  ·subst e;exact h.o5 y (hd y q hq) q hq
  ·exact h.o3 a ha e y q hq,h.o4,h.n1,h.n2⟩
theorem Dj.done{g:ay}(hg:g.Ok){to:Int}{out opn:IM}(h:Dj g to out opn)(he:opn = []∨∀r,aY g.rs r=true→r∈out.map (·.1))(r c:Int):gI out r=some c↔aY g.rs r=true∧dst g to r<far∧c=dst g to r:=by
 constructor
 ·intro hr;obtain⟨h1,h2,h3⟩:=h.o1 _ (Ov hr);exact⟨h1,by simp only at h2 h3;omega,h2⟩
 ·rintro⟨h1,h2,rfl⟩;have hin:r∈out.map (·.1):=by
   rcases he with he|he
   ·obtain⟨k,hw⟩:=yI hg h.abk h1 h2;refine Classical.byContradiction fun hx=>?_
    obtain⟨y,hy,_⟩:=h.low hg hw hx;rw[he]at hy;simp at hy
   ·exact he r h1
  obtain⟨x,hx,rfl⟩:=List.mem_map.1 hin;rw[←(h.o1 x hx).2.1];exact JZ h.n1 hx
theorem ahl{ls:List Lk}{x y q:Int}:(y,q)∈Gv ls x↔∃l∈ls,(l.b=x∧l.a=y∧l.ca=q)∨(l.a=x∧l.b=y∧l.cb=q):=by
 unfold Gv;rw[List.mem_flatMap];refine exists_congr fun l=>and_congr Iff.rfl ?_
 rw[List.mem_append];refine or_congr ?_ ?_<;>split<;>simp_all [eq_comm]
theorem ahm{ls:List Lk}{x y q:Int}:(y,q)∈BN ls x↔∃l∈ls,(l.a=x∧l.b=y∧l.ca=q)∨(l.b=x∧l.a=y∧l.cb=q):=by
 unfold BN;rw[List.mem_flatMap];refine exists_congr fun l=>and_congr Iff.rfl ?_
 rw[List.mem_append];refine or_congr ?_ ?_<;>split<;>simp_all [eq_comm]
theorem VP{g:ay}(hg:g.Ok){f t c:Int}:price g.ls f t=some c↔∃l∈g.ls,(l.a=f∧l.b=t∧l.ca=c)∨(l.b=f∧l.a=t∧l.cb=c):=by
 constructor
 ·exact wU
 ·rintro⟨l,hl,h⟩;obtain⟨h1,h2⟩:=Di hg.Zu (fun _ h=>hg.lab h) hl;rcases h with⟨rfl,rfl,rfl⟩|⟨rfl,rfl,rfl⟩
  ·exact h1
  ·exact h2
theorem Vw{g:ay}(hg:g.Ok){x y q:Int}:(y,q)∈Gv g.ls x↔price g.ls y x=some q:=by
 rw[ahl,VP hg];refine exists_congr fun l=>and_congr Iff.rfl (or_congr ?_ ?_)
 ·exact⟨fun h=>⟨h.2.1,h.1,h.2.2⟩,fun h=>⟨h.2.1,h.1,h.2.2⟩⟩
 ·exact⟨fun h=>⟨h.2.1,h.1,h.2.2⟩,fun h=>⟨h.2.1,h.1,h.2.2⟩⟩
theorem OL{g:ay}(hg:g.Ok){x y q:Int}:(y,q)∈BN g.ls x↔price g.ls x y=some q:=by
 rw[ahm,VP hg]
theorem QI{f:Lk→IM}:∀{ls:List Lk},(∀l∈ls,(f l).Pairwise fun a b=>a.1<b.1)→ls.Pairwise gB→(∀l∈ls,∀m∈ls,gB l m→∀a∈f l,∀b∈f m,a.1<b.1)→(ls.flatMap f).Pairwise fun a b=>a.1<b.1
 | [],_,_,_=>by simp
 | l::ls,hf,h,hg=>by
   obtain⟨h1,h2⟩:=List.pairwise_cons.1 h;rw[List.flatMap_cons,List.pairwise_append];refine⟨hf l (by simp),QI (fun m hm=>hf m (by simp[hm])) h2 fun l' hl' m hm=>hg l' (by simp[hl']) m (by simp[hm]),fun a ha b hb=>?_⟩;obtain⟨m,hm,hb⟩:=List.mem_flatMap.1 hb;exact hg l (by simp) m (by simp[hm]) (h1 m hm) a ha b hb
theorem anJ{g:ay}(hg:g.Ok)(x:Int):(Gv g.ls x).Pairwise fun a b=>a.1<b.1:=by
 refine QI (fun l hl=>?_) hg.Zu fun l hl m hm hlt a ha b hb=>?_
 ·have:=hg.lab hl;by_cases h1:l.b=x<;>by_cases h2:l.a=x<;>simp[h1,h2]<;>omega
 ·have l1:=hg.lab hl;have m1:=hg.lab hm;unfold gB at hlt;rcases List.mem_append.1 ha with ha|ha<;>rcases List.mem_append.1 hb with hb|hb<;>(split at ha<;>split at hb<;>simp at ha hb)<;>subst ha<;>subst hb<;>simp only<;>omega
theorem ab6{g:ay}(hg:g.Ok)(x:Int):(BN g.ls x).Pairwise fun a b=>a.1<b.1:=by
 have h:∀z∈BN g.ls x,True:=fun _ _=>trivial
 refine QI (fun l hl=>?_) hg.Zu fun l hl m hm hlt a ha b hb=>?_
 ·have:=hg.lab hl;by_cases h1:l.a=x<;>by_cases h2:l.b=x<;>simp[h1,h2]<;>omega
 ·have l1:=hg.lab hl;have m1:=hg.lab hm;unfold gB at hlt;rcases List.mem_append.1 ha with ha|ha<;>rcases List.mem_append.1 hb with hb|hb<;>(split at ha<;>split at hb<;>simp at ha hb)<;>subst ha<;>subst hb<;>simp only<;>omega
def nxG(costs ls:IM)(x:Int):List Int:=match gI costs x with
 | none=>[]
 | some all=>(ls.filter fun s=>match gI costs s.1 with
   | some c=>decide (s.2+c=all)
   | none=>false).map (·.1)
def aj6(g:ay)(to:Int)(costs:IM):Prop:=∀r c,gI costs r=some c↔aY g.rs r=true∧dst g to r<far∧c=dst g to r
theorem adM{g:ay}(hg:g.Ok)(d:List Int)(x:Int):(steps g d x).Pairwise (· < ·):=by
 unfold steps near;split
 ·exact List.Pairwise.nil
 ·refine List.Pairwise.filter _ ?_;rw[List.pairwise_map];exact hg.rpw.filter _
theorem adl{g:ay}(hg:g.Ok){to:Int}(hto:aY g.rs to=true){costs:IM}(hD:aj6 g to costs){x:Int}(hx:aY g.rs x=true):nxG costs (BN g.ls x) x=steps g (dist g to) x:=by
 refine abu ?_ (adM hg _ x) fun y=>?_
 ·unfold nxG;split
  ·exact List.Pairwise.nil
  ·rw[List.pairwise_map];exact(ab6 hg x).filter _
 ·rw[lM hg];unfold nxG;cases hc:gI costs x with
  | none=>
    have :¬dst g to x<far:=fun h=>by
     have:=(hD x _).2 ⟨hx,h,rfl⟩;rw[hc]at this;simp at this
    have hb:=(rZ hg to x).2;simp only[List.not_mem_nil,false_iff];rintro⟨h1,_⟩;exact h1 (by omega)
  | some all=>
    obtain⟨_,h1,rfl⟩:=(hD x all).1 hc;simp only[List.mem_map,List.mem_filter];constructor
    ·rintro⟨s,⟨hs,hm⟩,rfl⟩;have hp:=(OL hg (y:=s.1) (q:=s.2)).1 hs;cases hg1:gI costs s.1 with
     | none=>rw[hg1]at hm;simp at hm
     | some c=>
       rw[hg1]at hm
       simp only[decide_eq_true_eq]at hm;obtain⟨_,h2,rfl⟩:=(hD s.1 c).1 hg1;have:=oP hg hp;have:=(rZ hg to s.1).1;exact⟨by omega,by omega,h2,s.2,hp,hm⟩
    ·rintro⟨_,_,h2,q,hp,he⟩;refine⟨(y,q),⟨(OL hg).2 hp,?_⟩,rfl⟩;have:=(hD y _).2 ⟨(jA hg hp).2,h2,rfl⟩;simp only[this,he,decide_true]
structure Least(opn:IM)(b:Int×Int):Prop where
 mem:b∈opn
 min:∀x∈opn,b.2<x.2∨(b.2=x.2∧b.1≤x.1)
theorem Least.perm{o o':IM}(h:o.Perm o'){b:Int×Int}(hb:Least o b):Least o' b:=⟨h.mem_iff.1 hb.mem,fun x hx=>hb.min x (h.mem_iff.2 hx)⟩
theorem Least.snoc{dn:IM}{b x:Int×Int}(h:Least dn b):Least (dn++[x]) (if x.2<b.2∨(x.2=b.2∧x.1<b.1)then x else b):=by
 split
 ·rename_i hc;refine⟨by simp,fun y hy=>?_⟩;rcases List.mem_append.1 hy with hy|hy
  ·have:=h.min y hy;omega
  ·obtain rfl:=List.mem_singleton.1 hy;omega
 ·rename_i hc;refine⟨List.mem_append.2 (.inl h.mem),fun y hy=>?_⟩;rcases List.mem_append.1 hy with hy|hy
  ·exact h.min y hy
  ·obtain rfl:=List.mem_singleton.1 hy;omega
theorem Least.one(x:Int×Int):Least [x] x:=⟨by simp,fun y hy=>by obtain rfl:=List.mem_singleton.1 hy;omega⟩
def XL(g:ay):D:=.mp (g.rs.map fun x=>[x.id]) (g.rs.map fun x=>.sl (Ef (Gv g.ls x.id)))
def ouM(g:ay):D:=.mp (g.rs.map fun x=>[x.id]) (g.rs.map fun x=>.sl (Ef (BN g.ls x.id)))
def grT(g:ay):TV:=.agg [.d (ouM g),.d (XL g)]
def Vu(l:IM):D:=.mp (l.map fun x=>[x.1]) (l.map fun x=>.int .i64 x.2)
def DM(g:ay)(to:Int):IM:=if aY g.rs to then(g.rs.filter fun r=>decide (dst g to r.id<far)).map fun r=>(r.id,dst g to r.id)else []
theorem Xb(F:Int→D)(x:Int):∀rs:List Rt,uq (vI (rs.map fun r=>[r.id]) (rs.map fun r=>F r.id)) [x]=if aY rs x then some (.d (F x))else none
 | []=>rfl
 | r::rs=>by
   have ih:=Xb F x rs;unfold vI at ih;simp only[vI,List.map_cons,List.zip_cons_cons,uq,List.cons.injEq,and_true,aY,List.any_cons,Bool.or_eq_true,decide_eq_true_eq];by_cases h:x=r.id
   ·subst h;simp
   ·rw[if_neg h,ih];simp only[aY];have :¬r.id=x:=fun e=>h e.symm
    simp[this]
theorem abT(F:Int→D)(rs:List Rt):DR 1 (vI (rs.map fun r=>[r.id]) (rs.map fun r=>F r.id)):=fun y hy=>by
 simp only[vI,List.mem_map]at hy;obtain⟨x,hx,rfl⟩:=hy;obtain⟨h1,h2⟩:=List.of_mem_zip (show(x.1,x.2)∈_ from hx);obtain⟨r,_,e⟩:=List.mem_map.1 h1;simp only;rw[←e];rfl
theorem vC(es:IM):DR 1 (im es):=fun y hy=>by
 obtain⟨x,hx,rfl⟩:=List.mem_map.1 hy;rfl
theorem Sj(es:IM):(im es).length=es.length:=by simp[im]
theorem abM(es:IM):(im es).map (·.1)=es.map fun x=>[x.1]:=by simp[im]
@[simp]theorem anM{po:Nat→Prop}{es:IM}{c:Nat}{pd:Option (List Int)}{s:Option mJ}:It.only po (It.jX (im es) c pd s):=by
 intro x hx;obtain⟨y,_,rfl⟩:=List.mem_map.1 hx;exact trivial
theorem Oh{g:ay}{to:Int}(hto:aY g.rs to=true){r c:Int}:(r,c)∈DM g to↔aY g.rs r=true∧dst g to r<far∧c=dst g to r:=by
 unfold DM;rw[if_pos hto,List.mem_map];constructor
 ·rintro⟨x,hx,e⟩;obtain⟨h1,h2⟩:=List.mem_filter.1 hx;obtain⟨rfl,rfl⟩:=Prod.mk.inj e;exact⟨dH.2 (List.mem_map.2 ⟨x,h1,rfl⟩),of_decide_eq_true h2,rfl⟩
 ·rintro⟨h1,h2,rfl⟩;obtain⟨x,hx,rfl⟩:=List.mem_map.1 (dH.1 h1);exact⟨x,List.mem_filter.2 ⟨hx,decide_eq_true h2⟩,rfl⟩
theorem ak9{g:ay}(hg:g.Ok):(g.rs.map Rt.id).Nodup:=by
 rw[List.nodup_iff_pairwise_ne,List.pairwise_map];exact hg.rpw.imp fun {a b} h e=>by omega
theorem aem{g:ay}(hg:g.Ok)(to:Int):((DM g to).map (·.1)).Nodup:=by
 unfold DM;split
 ·rw[List.map_map,List.nodup_iff_pairwise_ne,List.pairwise_map];exact(hg.rpw.filter _).imp fun {a b} h e=>by simp at e;omega
 ·simp
theorem Qq{l:IM}(h:(l.map (·.1)).Nodup):l.Nodup:=List.Pairwise.of_map (R:=(· ≠·)) (S:=(· ≠·)) (·.1) (fun a b h e=>h (by rw[e])) h
theorem aby{g:ay}(hg:g.Ok){to:Int}{out opn:IM}(h:Dj g to out opn)(he:opn = []∨∀r,aY g.rs r=true→r∈out.map (·.1)):out.Perm (DM g to):=by
 refine(List.perm_ext_iff_of_nodup (Qq h.n1) (Qq (aem hg to))).2 fun x=>?_
 obtain⟨r,c⟩:=x;rw[Oh h.abk,←h.done hg he];exact⟨fun hx=>JZ h.n1 hx,Ov⟩
theorem aiC{g:ay}(hg:g.Ok){to:Int}(hto:aY g.rs to=true):aj6 g to (DM g to):=fun r c=>by
 rw[←Oh hto];exact⟨Ov,JZ (aem hg to)⟩
theorem MN:∀{a b:List Int},a.Nodup→(∀x∈a,x∈b)→a.length≤b.length
 | [],_,_,_=>Nat.zero_le _
 | x::a,b,nd,h=>by
   have nd':=List.nodup_cons.1 nd;have hx:x∈b:=h x (by simp);have:=MN (a:=a) (b:=b.erase x) nd'.2 fun y hy=>(List.mem_erase_of_ne fun e=>nd'.1 (by rw[←e];exact hy)).2 (h y (by simp[hy]))
   rw[List.length_erase_of_mem hx]at this
   have:=List.length_pos_of_mem hx;rw[List.length_cons];omega
theorem aeQ{a b:List Int}(nd:a.Nodup)(h:∀x∈a,x∈b)(hl:b.length≤a.length):∀x∈b,x∈a:=by
 intro x hx;refine Classical.byContradiction fun hn=>?_
 have:=MN (a:=x::a) (b:=b) (List.nodup_cons.2 ⟨hn,nd⟩) fun y hy=>by
  rcases List.mem_cons.1 hy with rfl|hy
  ·exact hx
  ·exact h y hy
 rw[List.length_cons]at this
 omega
theorem Dj.len{g:ay}{to:Int}{out opn:IM}(h:Dj g to out opn):out.length≤g.rs.length:=by
 have:=MN h.n1 (b:=g.rs.map Rt.id) fun x hx=>by
  obtain⟨y,hy,rfl⟩:=List.mem_map.1 hx;exact dH.1 (h.o1 y hy).1
 simpa using this
theorem kF.len{g:ay}{to:Int}{b:Int×Int}{dn:List Int}{out opn:IM}(h:kF g to b dn out opn):out.length≤g.rs.length:=by
 have:=MN h.n1 (b:=g.rs.map Rt.id) fun x hx=>by
  obtain⟨y,hy,rfl⟩:=List.mem_map.1 hx;exact dH.1 (h.o1 y hy).1
 simpa using this
theorem kF.all{g:ay}{to:Int}{b:Int×Int}{dn:List Int}{out opn:IM}(h:kF g to b dn out opn)(hl:out.length=g.rs.length)(r:Int)(hr:aY g.rs r=true):r∈out.map (·.1):=by
 refine aeQ h.n1 (b:=g.rs.map Rt.id) (fun x hx=>?_) (by simp[hl]) r (dH.1 hr);obtain⟨y,hy,rfl⟩:=List.mem_map.1 hx;exact dH.1 (h.o1 y hy).1
theorem kF.full{g:ay}{to:Int}{b:Int×Int}{dn:List Int}{out opn:IM}(h:kF g to b dn out opn)(hl:out.length=g.rs.length)(hg:g.Ok):Dj g to out opn:=
 ⟨h.o1,h.o2,fun a ha y q hq=>.inl (h.all hl y (jA hg hq).1),h.o4,h.n1,h.n2⟩
theorem ab8:∀{dn acc:IM},(dn.map fun x=>[x.1]).Perm (acc.map fun x=>[x.1])→(∀x∈dn,x∈acc)→(acc.map (·.1)).Nodup→dn.Perm acc:=by
 intro dn acc h hs nd;have h1:(dn.map (·.1)).Perm (acc.map (·.1)):=by
  have:=h.map (fun k:List Int=>k.headD 0);simpa[List.map_map,Function.comp_def]using this
 have nd1:(dn.map (·.1)).Nodup:=h1.symm.nodup nd;refine(List.perm_ext_iff_of_nodup (Qq nd1) (Qq nd)).2 fun x=>⟨hs x,fun hx=>?_⟩
 obtain⟨y,hy,e⟩:=List.mem_map.1 (h1.mem_iff.2 (List.mem_map_of_mem (f:=(·.1)) hx));have h2:=JZ nd (hs y hy);have h3:=JZ nd (show(x.1,x.2)∈acc from hx);rw[show y.1=x.1 from e,h3]at h2
 have:y=x:=Prod.ext e (Option.some.inj h2).symm;rw[←this];exact hy
set_option maxRecDepth 100000
set_option maxHeartbeats 16000000
theorem pG:DR 1 []:=fun y hy=>by simp at hy
theorem aiP{g:ay}(hg:g.Ok){to:Int}{out opn:IM}(h:Dj g to out opn){x:Int×Int}(hx:x∈opn):1≤x.1:=(hg.id (h.o2 x hx).1).1
theorem afc{opn:IM}{k:List Int}(h:k∈opn.map fun x=>[x.1]):∃x∈opn,k = [x.1]:=by
 obtain⟨x,hx,rfl⟩:=List.mem_map.1 h;exact⟨x,hx,rfl⟩
def Bst(dn:IM)(best:Int):Prop:=(dn = []∧best=0)∨∃b,Least dn b∧b.1=best
theorem X7(g:ay)(hg:g.Ok)(to:Int):Contract Tryz.prog 160 [.d (XL g),.d (.int .i64 to)] [] (.d (Vu (DM g to))) [] []:=by
 have hget:∀x,uq (vI (g.rs.map fun r=>[r.id]) (g.rs.map fun r=>D.sl (Ef (Gv g.ls r.id)))) [x]=if aY g.rs x then some (.d (.sl (Ef (Gv g.ls x))))else none:=fun x=>Xb (fun x=>.sl (Ef (Gv g.ls x))) x g.rs
 have hkl:DR 1 (vI (g.rs.map fun r=>[r.id]) (g.rs.map fun r=>D.sl (Ef (Gv g.ls r.id)))):=abT (fun x=>.sl (Ef (Gv g.ls x))) g.rs;refine aj Tryz.func160 rfl (fun E0=>?_)
 refine cO.sound (g:=.mk) (ow:=[3000019,3000029]) (kp:=(fun k=>k==0||k==1||k==4||k==5||k==7||k==8||k==9||k==10||k==11||k==12||k==14||k==16||k==17||k==18||k==27||k==34||k==36||k==38||k==62||k==76||k==79||k==80||k==81||k==82||k==92||k==109)) ?_;rw[Tryz.ntmps160];by_cases hto:aY g.rs to=true
 ·simp -dsimp[XL,hget,hkl,hto];and_intros;all_goals try first|exact pG|omega|exact⟨by kernel_rfl⟩|rfl
  refine aN.of [3000019,3000029] (fun k=>k==0||k==1||k==4||k==5||k==7||k==8||k==9||k==10||k==11||k==12||k==14||k==16||k==17||k==18||k==27||k==34||k==36||k==38||k==62||k==76||k==79||k==80||k==81||k==82||k==92||k==109) (ι:={z:IM×IM // Dj g to z.1 z.2})
   (fun z=>[(Pl.s 0,It.v (.d (XL g))),(Pl.s 5,It.v (.mref 19)),(Pl.o 19,It.jX (im z.1.1) 0 none none),(Pl.s 8,It.v (.mref 29)),(Pl.o 29,It.jX (im z.1.2) 0 none none)])
   (fun z=>g.rs.length+1-z.1.1.length) ⟨([],[(to,0)]),Dj.init hto⟩ ?_ ?_
  ·exact GS.to (by simp[XL,im,It.only,TV.only])
  ·rintro⟨⟨out,opn⟩,hD⟩;simp only at hD;have kO:=vC out;have kP:=vC opn;have lo:=Sj opn
   have hfin:∀(t:List (Pl×It)) (A:eX) (fn:Func) (o:IM),o.Perm (DM g to)→Fin Tryz.prog A fn (.d (Vu (DM g to))) [] [] (Tr.look [(Pl.s 4,It.v (.mref 19)),(Pl.o 19,It.jX (im (DM g to)) 0 none none)])→Fin Tryz.prog A fn (.d (Vu (DM g to))) [] [] (Tr.look [(Pl.s 4,It.v (.mref 19)),(Pl.o 19,It.jX (im o) 0 none none)]):=fun t A fn o hp h=>
    Fin.ghost h (GS.afE 19 (c:=0) (pd:=none) (s:=none) (es:=im o) (es':=im (DM g to)) (by simp) (hp.map _) (by simp))
   by_cases ho:opn = []
   ·subst ho;simp -dsimp[Sj];refine Fin.ghost (hfin [] _ _ out (aby hg hD (.inl rfl)) ?_) (GS.to (by simp));refine Fin.yc 19 ((DM g to).map fun x=>([x.1],D.int .i64 x.2)) (c:=0) (pd:=none) (s:=none) (by simp[im]) ?_;simp -dsimp;refine Fin.of ?_;simp[PZ,Vu]
   ·have hz:0<opn.length:=List.length_pos_iff.2 ho;simp -dsimp[Sj,hz];refine Ho.range ?_;simp -dsimp[Lh,OY,abM];intro sn
    refine aN.of [3000019,3000029] (fun k=>k==0||k==1||k==4||k==5||k==7||k==8||k==9||k==10||k==11||k==12||k==14||k==16||k==17||k==18||k==27||k==34||k==36||k==38||k==62||k==76||k==79||k==80||k==81||k==82||k==92||k==109) (ι:={z:(IM×Int)×List (List Int)×Option (List Int) // ((z.1.1.map fun x=>[x.1])++z.2.1).Perm (opn.map fun x=>[x.1])∧(∀x∈z.1.1,x∈opn)∧Bst z.1.1 z.1.2})
     (fun z=>[(Pl.s 0,It.v (.d (XL g))),(Pl.s 5,It.v (.mref 19)),(Pl.o 19,It.jX (im out) 0 none none),(Pl.s 8,It.v (.mref 29)),(Pl.o 29,It.jX (im opn) 0 none (some sn)),(Pl.s 36,It.v (.ptr (Pl.o 36) 0)),(Pl.o 36,It.DK 29 sn z.1.2.1 z.1.2.2),(Pl.s 9,It.v (.d (.int .i64 z.1.1.2)))])
     (fun z=>z.1.2.1.length) ⟨(([],0),opn.map (fun x=>[x.1]),none),by simp,by simp,.inl ⟨rfl,rfl⟩⟩ ?_ ?_
    ·exact GS.to (by simp[XL])
    ·rintro⟨⟨⟨dn,best⟩,left,cur⟩,j1,j2,j3⟩;simp only at j1 j2 j3;simp -dsimp;refine Ho.next ?_;simp -dsimp[VD];refine⟨fun hl0=>?_,fun x hx=>?_⟩
     ·subst hl0;rw[List.append_nil]at j1
      have hp:=ab8 j1 j2 hD.n2;rcases j3 with⟨e,_⟩|⟨b,hb,rfl⟩
      ·subst e;have:=hp.length_eq;simp at this;omega
      ·have hbo:=hb.perm hp;have hgb:gI opn b.1=some b.2:=JZ hD.n2 hbo.mem;have hmin:∀x∈opn,b.2≤x.2:=fun x hx=>by have:=hbo.min x hx;omega
       have hM:=hD.move hg hbo.mem hmin;have hpk:=hD.pick hg hbo.mem hmin;have hb0:=(rZ hg to b.1).1;have hbr:=(hD.o2 b hbo.mem).1;have hnew:=ajb (hD.o2 b hbo.mem).2.1 b.2;have hlen:=hM.len;unfold far at hpk;by_cases hfull:(pI out b.1 b.2).length=g.rs.length
       ·simp -dsimp[XL,uw,hgb,abQ,Gw,Sj,vC,hfull];and_intros;all_goals try first|exact pG|omega|exact⟨by kernel_rfl⟩|rfl
        refine Fin.ghost (hfin [] _ _ _ (aby hg (hM.full hfull hg) (.inr fun r hr=>hM.all hfull r hr)) ?_) (GS.to (by simp));refine Fin.yc 19 ((DM g to).map fun x=>([x.1],D.int .i64 x.2)) (c:=0) (pd:=none) (s:=none) (by simp[im]) ?_;simp -dsimp;refine Fin.of ?_;simp[PZ,Vu]
       ·have hfz :¬((pI out b.1 b.2).length:Int)=g.rs.length:=by omega
        obtain⟨I,hI⟩:∃I,I=Gv g.ls b.1:=⟨_,rfl⟩
        have hpr:∀s∈I,price g.ls s.1 b.1=some s.2:=fun s hs=>(Vw hg (y:=s.1) (q:=s.2)).1 (by rw[←hI];exact hs)
        have hIl:=W_ b.1 g.ls;have hls:=hg.nl;rw[←hI]at hIl
        simp -dsimp[XL,uw,hgb,abQ,Gw,Sj,vC,hfz,hget,hkl,hbr,←hI];and_intros;all_goals try first|exact pG|omega|exact⟨by kernel_rfl⟩|rfl
        generalize pI out b.1 b.2=O at hM hnew hlen hfull;refine aN.of [3000019,3000029] (fun k=>k==0||k==1||k==4||k==5||k==7||k==8||k==9||k==10||k==11||k==12||k==14||k==16||k==17||k==18||k==27||k==34||k==36||k==38||k==62||k==76||k==79||k==80||k==81||k==82||k==92||k==109) (ι:={z:IM×Nat // z.2≤I.length∧kF g to b ((I.take z.2).map (·.1)) O z.1})
         (fun z=>[(Pl.s 0,It.v (.d (XL g))),(Pl.s 5,It.v (.mref 19)),(Pl.o 19,It.jX (im O) 0 none none),(Pl.s 8,It.v (.mref 29)),(Pl.o 29,It.jX (im z.1.1) 0 none none),(Pl.s 12,It.v (.d (.int .i64 b.2))),
          (Pl.s 79,It.v (.d (.sl (Ef I)))),(Pl.s 80,It.v (.d (.int .i64 I.length))),(Pl.s 81,It.v (.d (.int .i64 z.1.2)))])
         (fun z=>I.length-z.1.2) ⟨(rI opn b.1,0),by omega,by simpa using hM⟩ ?_ ?_
        ·exact GS.to (by simp[XL])
        ·rintro⟨⟨op,i⟩,k1,k2⟩;simp only at k1 k2;by_cases hi:i<I.length
         ·have hiz:(i:Int)<I.length:=by omega
          have hs:I[i]? = some I[i]:=List.getElem?_eq_getElem hi;have hp1:=hpr I[i] (List.getElem_mem hi);have ht:(I.take (i+1)).map (·.1)=(I.take i).map (·.1)++[I[i].1]:=by rw[List.take_add_one,hs,List.map_append];rfl
          generalize I[i]=s at hs hp1 ht;have hq:=oP hg hp1;have hs':(Ef I)[i]? = some [.int .i64 s.1,.int .i64 s.2]:=by simp[Ef,hs]
          have w1:IntKind.i64.wrap ((i:Int)+1)=(i:Int)+1:=wrap_i64 (by omega) (by omega);have w2:IntKind.i64.wrap (b.2+s.2)=b.2+s.2:=wrap_i64 (by omega) (by omega);have hst:=k2.step hg hp1;rw[←ht]at hst
          unfold ajf at hst;cases ho1:gI O s.1 with
          | some c0=>
            rw[ho1]at hst
            simp -dsimp[hiz,hs',uw,Gw,vC,ho1,w1,w2];and_intros;all_goals try first|exact pG|omega|exact⟨by kernel_rfl⟩|rfl
            exact⟨⟨(op,i+1),by omega,hst⟩,GS.to (by simp),by simp;omega⟩
          | none=>
            rw[ho1]at hst
            simp only at hst;cases ho2:gI op s.1 with
            | none=>
              rw[ho2]at hst
              simp -dsimp[hiz,hs',uw,Gw,vC,ho1,ho2,w1,w2];and_intros;all_goals try first|exact pG|omega|exact⟨by kernel_rfl⟩|rfl
              exact⟨⟨(_,i+1),by omega,hst⟩,GS.to (by simp),by simp;omega⟩
            | some c=>
              rw[ho2]at hst
              simp only at hst;by_cases hc:b.2+s.2<c
              ·rw[if_pos hc]at hst
               simp -dsimp[hiz,hs',uw,Gw,vC,ho1,ho2,w1,w2,hc];and_intros;all_goals try first|exact pG|omega|exact⟨by kernel_rfl⟩|rfl
               exact⟨⟨(_,i+1),by omega,hst⟩,GS.to (by simp),by simp;omega⟩
              ·rw[if_neg hc]at hst
               simp -dsimp[hiz,hs',uw,Gw,vC,ho1,ho2,w1,w2,hc];and_intros;all_goals try first|exact pG|omega|exact⟨by kernel_rfl⟩|rfl
               exact⟨⟨(op,i+1),by omega,hst⟩,GS.to (by simp),by simp;omega⟩
         ·have hiz :¬(i:Int)<I.length:=by omega
          obtain rfl:i=I.length:=by omega
          rw[List.take_length]at k2
          have hdn:=k2.fin (fun y q hy=>List.mem_map.2 ⟨(y,q),by rw[hI];exact(Vw hg).2 hy,rfl⟩);simp -dsimp[hiz];and_intros;all_goals try first|exact pG|omega|exact⟨by kernel_rfl⟩|rfl
          exact⟨⟨(O,op),hdn⟩,GS.to (by simp),by simp only;omega⟩
     ·have hxm:x∈opn.map fun x=>[x.1]:=j1.mem_iff.1 (List.mem_append.2 (.inr hx))
      obtain⟨y,hy,rfl⟩:=afc hxm;have hgy:gI opn y.1=some y.2:=JZ hD.n2 (show(y.1,y.2)∈opn from hy);have jp:(((dn++[y]).map fun x=>[x.1])++left.erase [y.1]).Perm (opn.map fun x=>[x.1]):=by
       rw[List.map_append,List.append_assoc];exact(((List.perm_cons_erase hx).symm).append_left _).trans j1
      have jm:∀x∈dn++[y],x∈opn:=fun x hx=>by
       rcases List.mem_append.1 hx with h|h
       ·exact j2 x h
       ·rw[List.mem_singleton.1 h];exact hy
      have hlt:(left.erase [y.1]).length<left.length:=by
       rw[List.length_erase_of_mem hx];have:=List.length_pos_of_mem hx;omega
      rcases j3 with⟨rfl,rfl⟩|⟨b,hb,rfl⟩
      ·simp -dsimp[uw,hgy,vC];and_intros;all_goals try first|exact pG|omega|exact⟨by kernel_rfl⟩|rfl
       exact⟨⟨(([]++[y],y.1),left.erase [y.1],some [y.1]),jp,jm,.inr ⟨y,Least.one y,rfl⟩⟩,GS.to (by simp),hlt⟩
      ·have hbm:=j2 b hb.mem;have hb1:=aiP hg hD hbm;have hbz :¬b.1=0:=by omega
       have hgb:gI opn b.1=some b.2:=JZ hD.n2 hbm;have hsn:=hb.snoc (x:=y);by_cases c1:y.2<b.2
       ·rw[if_pos (.inl c1)]at hsn
        simp -dsimp[uw,hgy,hgb,vC,hbz,c1];and_intros;all_goals try first|exact pG|omega|exact⟨by kernel_rfl⟩|rfl
        exact⟨⟨((dn++[y],y.1),left.erase [y.1],some [y.1]),jp,jm,.inr ⟨y,hsn,rfl⟩⟩,GS.to (by simp),hlt⟩
       ·by_cases c2:y.2=b.2
        ·by_cases c3:y.1<b.1
         ·rw[if_pos (.inr ⟨c2,c3⟩)]at hsn
          simp -dsimp[uw,hgy,hgb,vC,hbz,c1,c2,c3];and_intros;all_goals try first|exact pG|omega|exact⟨by kernel_rfl⟩|rfl
          exact⟨⟨((dn++[y],y.1),left.erase [y.1],some [y.1]),jp,jm,.inr ⟨y,hsn,rfl⟩⟩,GS.to (by simp),hlt⟩
         ·rw[if_neg (by omega)]at hsn
          simp -dsimp[uw,hgy,hgb,vC,hbz,c1,c2,c3];and_intros;all_goals try first|exact pG|omega|exact⟨by kernel_rfl⟩|rfl
          exact⟨⟨((dn++[y],b.1),left.erase [y.1],some [y.1]),jp,jm,.inr ⟨b,hsn,rfl⟩⟩,GS.to (by simp),hlt⟩
        ·rw[if_neg (by omega)]at hsn
         simp -dsimp[uw,hgy,hgb,vC,hbz,c1,c2];and_intros;all_goals try first|exact pG|omega|exact⟨by kernel_rfl⟩|rfl
         exact⟨⟨((dn++[y],b.1),left.erase [y.1],some [y.1]),jp,jm,.inr ⟨b,hsn,rfl⟩⟩,GS.to (by simp),hlt⟩
 ·simp -dsimp[XL,hget,hkl,hto];refine Fin.yc 19 [] rfl ?_;simp -dsimp;refine Fin.of ?_;simp[PZ,Vu,DM,hto]
theorem Qr:∀l:IM,vI (l.map fun x=>[x.1]) (l.map fun x=>D.int .i64 x.2)=im l
 | []=>rfl
 | x::l=>by
   have ih:=Qr l;unfold vI im at ih;simp only[vI,im,List.map_cons,List.zip_cons_cons,ih]
def sW(costs:IM)(all:Int)(ls:IM):List Int:=(ls.filter fun s=>match gI costs s.1 with
  | some c=>decide (s.2+c=all)
  | none=>false).map (·.1)
theorem afs(costs:IM)(all:Int)(ls:IM)(s:Int×Int):sW costs all (ls++[s])=sW costs all ls++(match gI costs s.1 with|some c=>if s.2+c=all then [s.1]else []|none=>[]):=by
 unfold sW;rw[List.filter_append,List.map_append]
 congr 1
 cases h:gI costs s.1 with
 | none=>simp[List.filter,h]
 | some c=>by_cases e:s.2+c=all<;>simp[List.filter,h,e]
theorem ai6(costs:IM)(all:Int)(ls:IM):(sW costs all ls).length≤ls.length:=by
 unfold sW;rw[List.length_map];exact List.length_filter_le _ _
theorem akd{g:ay}(hg:g.Ok){to x c:Int}(h:gI (DM g to) x=some c):aY g.rs x=true∧0≤c∧c<far:=by
 by_cases hto:aY g.rs to=true
 ·obtain⟨h1,h2,rfl⟩:=(Oh hto).1 (Ov h);exact⟨h1,(rZ hg to x).1,h2⟩
 ·unfold DM at h;rw[if_neg hto]at h
  simp[gI]at h
theorem ahp(g:ay)(hg:g.Ok)(to x:Int):Contract Tryz.prog 161 [grT g,.d (Vu (DM g to)),.d (.int .i64 x)] [] (.d (ints (nxG (DM g to) (BN g.ls x) x))) [] []:=by
 have hbd:=fun x c=>akd (g:=g) hg (to:=to) (x:=x) (c:=c)
 generalize DM g to=L at hbd⊢;have hget:∀k,uq (vI (L.map fun x=>[x.1]) (L.map fun x=>D.int .i64 x.2)) [k]=(gI L k).map fun v=>TV.d (.int .i64 v):=fun k=>by rw[Qr];exact uw L k
 have hkl:DR 1 (vI (L.map fun x=>[x.1]) (L.map fun x=>D.int .i64 x.2)):=by rw[Qr];exact vC L
 have akF:∀x,uq (vI (g.rs.map fun r=>[r.id]) (g.rs.map fun r=>D.sl (Ef (BN g.ls r.id)))) [x]=if aY g.rs x then some (.d (.sl (Ef (BN g.ls x))))else none:=fun x=>Xb (fun x=>.sl (Ef (BN g.ls x))) x g.rs
 have ao2:DR 1 (vI (g.rs.map fun r=>[r.id]) (g.rs.map fun r=>D.sl (Ef (BN g.ls r.id)))):=abT (fun x=>.sl (Ef (BN g.ls x))) g.rs;cases hc:gI L x with
 | none=>
   refine aj Tryz.func161 rfl (fun E0=>?_);refine cO.sound (g:=.mk) (ow:=[]) (kp:=(fun k=>k==0||k==1||k==2||k==3||k==6||k==7||k==8||k==9||k==11||k==12||k==13||k==21||k==25||k==26||k==27||k==28||k==46)) ?_;rw[Tryz.ntmps161];simp -dsimp[grT,Vu,hget,hkl,hc];and_intros;all_goals try first|omega|exact⟨by kernel_rfl⟩|rfl
   refine Fin.view 6 ?_;simp -dsimp;refine Fin.of ?_;simp[nxG,hc,ints]
 | some all=>
   obtain⟨hx,b1,b2⟩:=hbd x all hc;have hle:=Tq x g.ls;have hls:=hg.nl;obtain⟨O,hO⟩:∃O,O=BN g.ls x:=⟨_,rfl⟩
   have hpr:∀s∈O,1≤s.2∧s.2≤1000:=fun s hs=>oP hg ((OL hg (y:=s.1) (q:=s.2)).1 (by rw[←hO];exact hs))
   have hnx:nxG L O x=sW L all O:=by unfold nxG sW;rw[hc];try rfl
   rw[←hO]at hle⊢
   rw[hnx];refine aj Tryz.func161 rfl (fun E0=>?_);refine cO.sound (g:=.mk) (ow:=[]) (kp:=(fun k=>k==0||k==1||k==2||k==3||k==6||k==7||k==8||k==9||k==11||k==12||k==13||k==21||k==25||k==26||k==27||k==28||k==46)) ?_;rw[Tryz.ntmps161];simp -dsimp[grT,Vu,ouM,hget,hkl,hc,akF,ao2,hx,←hO];and_intros;all_goals try first|omega|exact⟨by kernel_rfl⟩|rfl
   refine aN.of [] (fun k=>k==0||k==1||k==2||k==3||k==6||k==7||k==8||k==9||k==11||k==12||k==13||k==21||k==25||k==26||k==27||k==28||k==46) (ι:={i:Nat // i≤O.length})
    (fun z=>[(Pl.s 1,It.v (.d (Vu L))),(Pl.o 3,It.box [.d (ouM g),.d (XL g)]),(Pl.s 3,It.v (.ptr (Pl.o 3) 0)),(Pl.s 6,It.v (.c (Value.slice none 0 0))),(Pl.s 7,It.v (.aB 7 (sW L all (O.take z.1)).length)),(Pl.o 7,It.row 3 1 (dd ((sW L all (O.take z.1)).map fun x=>[D.int .i64 x])) false),(Pl.s 8,It.v (.d (.int .i64 all))),
     (Pl.s 25,It.v (.d (.sl (Ef O)))),(Pl.s 26,It.v (.d (.int .i64 O.length))),(Pl.s 27,It.v (.d (.int .i64 z.1)))])
    (fun z=>O.length-z.1) ⟨0,by omega⟩ ?_ ?_
   ·exact GS.own' (k:=7) 3 1 (by simp) (by simp) (by simp[sW,Vu,ouM,XL])
   ·rintro⟨i,i1⟩;by_cases hi:i<O.length
    ·have hiz:(i:Int)<O.length:=by omega
     have hs:O[i]? = some O[i]:=List.getElem?_eq_getElem hi;have hm:=hpr O[i] (List.getElem_mem hi);have ht:O.take (i+1)=O.take i++[O[i]]:=by rw[List.take_add_one,List.getElem?_eq_getElem hi];rfl
     generalize O[i]=s at hs hm ht;have hs':(Ef O)[i]? = some [.int .i64 s.1,.int .i64 s.2]:=by simp[Ef,hs]
     have hn:=afs L all (O.take i) s;rw[←ht]at hn
     have hnl:=ai6 L all (O.take i);rw[List.length_take]at hnl
     have w1:IntKind.i64.wrap ((i:Int)+1)=(i:Int)+1:=wrap_i64 (by omega) (by omega);cases hcs:gI L s.1 with
     | none=>
       rw[hcs]at hn
       simp -dsimp[hiz,hs',Vu,hget,hkl,hcs,w1];and_intros;all_goals try first|omega|exact⟨by kernel_rfl⟩|rfl
       exact⟨⟨i+1,by omega⟩,GS.to (by simp[hn,Vu]),by simp;omega⟩
     | some c=>
       obtain⟨_,c1,c2⟩:=hbd s.1 c hcs;unfold far at c2;rw[hcs]at hn
       simp only at hn;have w2:IntKind.i64.wrap (s.2+c)=s.2+c:=wrap_i64 (by omega) (by omega);by_cases he:s.2+c=all
       ·rw[if_pos he]at hn
        have w3:IntKind.i64.wrap all=all:=by rw[he]at w2;exact w2
        simp -dsimp[hiz,hs',Vu,hget,hkl,hcs,w1,w2,he,w3];and_intros;all_goals try first|omega|exact⟨by kernel_rfl⟩|rfl
        exact⟨⟨i+1,by omega⟩,GS.to (by simp[hn,Vu]),by simp;omega⟩
       ·rw[if_neg he]at hn
        simp -dsimp[hiz,hs',Vu,hget,hkl,hcs,w1,w2,he];and_intros;all_goals try first|omega|exact⟨by kernel_rfl⟩|rfl
        exact⟨⟨i+1,by omega⟩,GS.to (by simp[hn,Vu]),by simp;omega⟩
    ·have hiz :¬(i:Int)<O.length:=by omega
     simp -dsimp[hiz];refine Fin.view 6 ?_;simp -dsimp;refine Fin.of ?_;simp[List.take_of_length_le (show O.length≤i by omega),ints,dJ]
end Go.Proofs
