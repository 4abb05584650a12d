/-
  What functions of the program compute, stated as contracts over plain data; the conditions of each stand in its own statement.
-/
import Derived.Test.YtboimfkommpglaaGreatDoorZB30
import Derived.Test.YtboimfkommpglaaGreatDoorZB25
import Derived.Test.YtboimfkommpglaaGreatDoorZB24
import Derived.Test.YtboimfkommpglaaGreatDoorZB39
import Derived.Test.YtboimfkommpglaaGreatDoorZB10
import Derived.Test.YtboimfkommpglaaGreatDoorZB29
import Derived.Test.YtboimfkommpglaaGreatDoorZB26
import Derived.Test.YtboimfkommpglaaGreatDoorZB21
import Derived.Test.YtboimfkommpglaaGreatDoorZB27
set_option linter.unusedSimpArgs false
set_option linter.unusedVariables false
namespace Go.Proofs
open Go Go.Tr
def RM(es:List Ed):IM:=es.foldl (fun m e=>pI m e.id e.r) []
theorem KD{es:List Ed}{k:Nat}{e:Ed}(h:es[k]? = some e):RM (es.take (k+1))=pI (RM (es.take k)) e.id e.r:=by unfold RM;rw[aO,h,fJ,g_];rfl
theorem Po:∀(m:IM) (k v q:Int),gI (pI m k v) q=if q=k then some v else gI m q
 | [],k,v,q=>by rfl
 | x::m,k,v,q=>by
   have ih:=Po m k v q;by_cases h:k=x.1
   ·grind[pI,gI]
   ·by_cases h2:q=k
    ·grind[pI,gI]
    ·grind[pI,gI]
theorem Gu:∀(es:List Ed) (m:IM) (q:Int),(es.map (·.id)).Nodup→gI (es.foldl (fun m e=>pI m e.id e.r) m) q=((es.find? fun e=>decide (e.id=q)).map (·.r)).or (gI m q)
 | [],m,q,_=>by simp
 | e::es,m,q,h=>by
   rw[aH,dG]at h
   rw[cO,Gu es _ q h.2,Po,iC]
   grind
theorem QU{p:Pn}(h:(p.es.map (·.id)).Nodup)(id:Int):(gI (RM p.es) id).getD 0=own p id:=by grind[RM,own,Gu,gI]
def dO(l:List An):List Int:=(jS l).foldl (fun s a=>if a.id∈s then s else s++[a.id]) []
theorem sW{l:List An}{i:Nat}{a:An}(h:l[i]? = some a):dO (l.take (i+1))=if a.kd=1 then(if a.id∈dO (l.take i)then dO (l.take i)else dO (l.take i)++[a.id])else dO (l.take i):=by
 unfold dO jS;rw[aO,h,bJ,fJ,g_]
 grind
theorem sV:∀(d:List An) (s:List Int),s.Nodup→(d.foldl (fun s a=>if a.id∈s then s else s++[a.id]) s).Nodup∧∀x,x∈d.foldl (fun s a=>if a.id∈s then s else s++[a.id]) s↔x∈s∨x∈d.map (·.id)
 | [],s,h=>⟨h,by simp⟩
 | a::d,s,h=>by
   have h1:(if a.id∈s then s else s++[a.id]).Nodup∧∀x,x∈(if a.id∈s then s else s++[a.id])↔x∈s∨x=a.id:=by grind
   obtain⟨h2,h3⟩:=sV d _ h1.1
   grind
theorem uD(l:List An):(dO l).Nodup:=(sV (jS l) [] oN).1
theorem qY{l:List An}{x:Int}:x∈dO l↔x∈(jS l).map (·.id):=by simp[sV,dO]
theorem yQ(l:List An):(dO l).length≤l.length:=by
 have key:∀(d:List An) (s:List Int),(d.foldl (fun s a=>if a.id∈s then s else s++[a.id]) s).length≤s.length+d.length:=fun d=>by
  induction d with
  | nil=>simp
  | cons a d ih=>grind
 grind[jS,dO]
theorem Gw{a b:List Int}(ha:a.Pairwise (· < ·))(hb:b.Pairwise (· < ·))(h:∀x,x∈a↔x∈b):a=b:=by
 have na:a.Nodup:=ha.imp fun h=>by omega
 have nb:b.Nodup:=hb.imp fun h=>by omega
 have hp:a.Perm b:=by grind
 exact hp.eq_of_pairwise (le:=(· < ·)) (fun x y _ _ h1 h2=>by omega) ha hb
theorem GZ(l:List An):(oz l).Pairwise (· < ·):=by simp[Du,wO]
theorem CW(l:List An):((dO l).mergeSort fun x y=>decide (x≤y))=oz l:=by
 have hp:=jd (dO l) fun x y=>decide (x≤y)
 have hn:((dO l).mergeSort fun x y=>decide (x≤y)).Nodup:=hp.nodup_iff.2 (uD l);have hs:=Aq (dO l);refine Gw ?_ (GZ l) fun x=>by rw[hp.mem_iff,qY,sK]
 have:=hs.and (dI.1 hn)
 grind
def iP(l:List An)(id:Int):List Int:=(jF l id).map (·.rt)
theorem sU{l:List An}{i:Nat}{a:An}(h:l[i]? = some a)(id:Int):iP (l.take (i+1)) id=iP (l.take i) id++if a.kd=1∧a.id=id then [a.rt]else []:=by
 unfold iP jF jS;rw[aO,h,fJ,bJ,bJ,fH]
 grind
theorem EU{l:List An}{id:Int}(h:id∉dO l):iP l id = []:=by
 have:jF l id = []:=fU.2 fun a ha=>by simp only[decide_eq_true_eq];intro e;exact h (qY.2 (ay.2 ⟨a,ha,e⟩))
 grind[iP]
theorem yP(l:List An)(id:Int):(iP l id).length≤l.length:=by simp only[iP,aN];exact aY (aQ _ _) (aQ _ _)
theorem ET(l:List An)(id:Int)(k:Nat):(iP l id).getD k 0=((jF l id).getD k ⟨0,0,0,0⟩).rt:=by
 simp only[iP,ak,bC]
 grind
theorem Nj{l:List An}{i:Nat}{a:An}(h:l[i]? = some a)(hk :¬a.kd=1):dO (l.take (i+1))=dO (l.take i)∧∀x,iP (l.take (i+1)) x=iP (l.take i) x:=
 ⟨by rw[sW h,if_neg hk],fun x=>by rw[sU h,if_neg (fun e=>hk e.1),aZ]⟩
theorem Ir{l:List An}{i:Nat}{a:An}(h:l[i]? = some a)(hk:a.kd=1)(hm:a.id∈dO (l.take i)):
  dO (l.take (i+1))=dO (l.take i)∧∃j0,j0<(dO (l.take i)).length∧(dO (l.take i)).getD j0 0=a.id∧
   ∀j,j<(dO (l.take i)).length→iP (l.take (i+1)) ((dO (l.take i)).getD j 0)=if j=j0 then iP (l.take i) ((dO (l.take i)).getD j0 0)++[a.rt]else iP (l.take i) ((dO (l.take i)).getD j 0):=by
 refine⟨by rw[sW h,if_pos hk,if_pos hm],?_⟩;have hnd:=uD (l.take i);generalize dO (l.take i)=ks at hm hnd;obtain⟨j0,hj0,e0⟩:=cu.1 hm;have hg:∀j (hj:j<ks.length),ks.getD j 0=ks[j]:=by simp_all
 refine⟨j0,hj0,by rw[hg j0 hj0,e0],fun j hj=>?_⟩;rw[sU h];by_cases e:j=j0
 ·simp[*]
 ·rw[if_neg e,if_neg,aZ];rintro⟨_,e2⟩;have h2:=bT.1 (dI.1 hnd)
  grind
theorem Iq{l:List An}{i:Nat}{a:An}(h:l[i]? = some a)(hk:a.kd=1)(hm:a.id∉dO (l.take i)):
  dO (l.take (i+1))=dO (l.take i)++[a.id]∧(∀j,j<(dO (l.take i)).length→(dO (l.take (i+1))).getD j 0=(dO (l.take i)).getD j 0)∧(dO (l.take (i+1))).getD (dO (l.take i)).length 0=a.id∧
   (∀j,j<(dO (l.take i)).length→iP (l.take (i+1)) ((dO (l.take i)).getD j 0)=iP (l.take i) ((dO (l.take i)).getD j 0))∧iP (l.take (i+1)) a.id = [a.rt]:=by
 have e:dO (l.take (i+1))=dO (l.take i)++[a.id]:=by rw[sW h,if_pos hk,if_neg hm]
 have hn:=EU hm;have hr:=fun x=>sU h x
 grind
end Go.Proofs

namespace Go.Proofs
open Go Go.Tr Go.RowKit Go.Maps Go.Sort Go.Shelf
theorem Nl(m:Nat):AnyZI.SortsIn Tryz.prog Tryz.vK Fence.wide m:=
 ⟨fun blk off cap ss W hH hblk hsz=>callsIn_wide.2 (AnyM.slices_Sort_int Tryz.Tz blk off cap ss W hH hblk hsz),
  fun p cap W=>callsIn_wide.2 (AnyM.slices_Sort_int_none Tryz.Tz p cap W)⟩
def zX:Value→Option (DataW Unit×List MemPlace):=fun _=>some (.nil,[])
theorem Hr{k:TypeId}(hk:Tryz.prog.underlying k=some (.int .i64)):∀{l:List MapEntry} {ks:List Int},l.map (·.key)=ks.map (Value.int .i64)→(∀k∈ks,(Lit.int .i64 k).wf=true)→
  (∀x∈l,∃y,Go.WideElems.rd Tryz.prog k zX x=some y)∧l.map (Go.WideElems.rg Tryz.prog k zX)=ks.map fun n=>(Lit.int .i64 n,DataW.nil)
 | [],[],_,_=>⟨by simp,rfl⟩
 | [],_::_,h,_=>by simp at h
 | _::_,[],h,_=>by simp at h
 | a::l,n::ks,h,hw=>by
   simp only[aH,eH]at h;obtain⟨ih1,ih2⟩:=Hr hk h.2 fun k hk=>hw k (dM _ hk)
   have hr:Go.WideElems.rd Tryz.prog k zX a=some (Lit.int .i64 n,DataW.nil):=by unfold Go.WideElems.rd;rw[h.1,keyOf_int_mk hk (hw n (by simp))];rfl
   refine⟨fun x hx=>?_,?_⟩
   ·rcases aG.1 hx with rfl|hx
    ·exact⟨_,hr⟩
    ·exact ih1 x hx
   ·simp only[aH,ih2,Go.WideElems.rg_of hr]
theorem He:DY Tryz.prog 138 137 214 3:=by
 refine⟨fun b w=>(callsIn_wide.1 (AnyZI.keys_in Tryz.PD Fence.wide 5 trivial rfl (some b) w)).mono fun e' w' ⟨h1,h2⟩=>⟨_,h1,h2⟩,fun Bm b l clock ks w hlt hcell hh hst hkeys hwf hlen=>?_⟩;obtain⟨hrd,hrg⟩:=Hr (k:=3) Tryz.underlying3 hkeys hwf;have hl:l.size=ks.length:=by have:=congrArg List.length hkeys;simpa using this
 let D0:DataW Unit:=.map ((l.toList.map (Go.WideElems.rg Tryz.prog 3 zX)).foldr DataW.insert [])
 have hperm:(intKeys D0).Perm ks:=by
  have h1:=(Go.WideShapes.sorted_perm (l.toList.map (Go.WideElems.rg Tryz.prog 3 zX))).map fun p:Lit×DataW Unit=>Go.intOf p.1
  rw[hrg]at h1
  simp only[bQ]at h1;have h2:ks.map ((fun p:Lit×DataW Unit=>Go.intOf p.1)∘fun n=>(Lit.int .i64 n,DataW.nil))=ks:=by
   conv=>rhs;rw[←qP ks]
   exact bW fun _ _=>rfl
  rw[h2]at h1
  show(List.map (fun p:Lit×DataW Unit=>Go.intOf p.1) ((l.toList.map (Go.WideElems.rg Tryz.prog 3 zX)).foldr DataW.insert [])).Perm ks
  rw[hrg];exact h1
 have hsz:Maps.size D0=ks.length:=by
  show((l.toList.map (Go.WideElems.rg Tryz.prog 3 zX)).foldr DataW.insert []).length=_
  rw[length_sorted];simp[hl]
 have hown:w.ownsMap Tryz.prog 3 zX b l.size D0:=⟨l,clock,hh,⟨by simp only[maxLen];omega,hst,hrd⟩,aI _,rfl⟩
 have hseq:SeqGives Fence.wide 2 Tryz.prog 214 #[.pointer (some ⟨Bm,0,none⟩)] encZ (fun ss=>ss.Perm (intKeys D0)) (Maps.size D0) w:=
  AnyZI.keys_gives (ρ:=Tryz.yJ) {Tryz.PD with} Fence.wide _ trivial rfl (by omega) Bm b l.size D0 _ hlt hcell hown
 have cS:=AnyZI.sorted_in Tryz.LY Fence.wide 5 trivial trivial trivial trivial rfl (by omega) (Nl _) (enters_of Tryz.func213 (by kernel_rfl) rfl) 214 #[.pointer (some ⟨Bm,0,none⟩)] trivial (enters_of Tryz.func214 (by kernel_rfl) rfl) _ _ (by rw[hsz];simp only[maxLen];omega) (by rw[hsz];omega) _ hseq;refine(callsIn_wide.1 cS).mono fun e' w' ⟨v,ss,he,hS,hrow,_,hb⟩=>⟨v,he,?_,hb⟩
 have hp:ss.Perm ks:=hS.trans hperm;have hm:(ss.mergeSort fun x y=>decide (x≤y))=ks.mergeSort fun x y=>decide (x≤y):=yN hp
 rw[hp.length_eq,hm]at hrow
 exact hrow
end Go.Proofs

set_option maxRecDepth 100000
set_option maxHeartbeats 16000000
namespace Go.Proofs
open Go Go.Tr
def xP(ks:List Int)(j:Nat):Int:=ks.getD j 0
def oM(ks:List Int)(j:Nat):List Int:=[ks.getD j 0]
theorem LX{ks:List Int}(nd:ks.Nodup){i j:Nat}(hi:i<ks.length)(hj:j<ks.length)(h:oM ks i=oM ks j):i=j:=by
 simp only[oM,ak,ah hi,ah hj,bf,eH,and_true]at h;have h2:=bT.1 (dI.1 nd);rcases h_ i j with e|e|e
 ·exact absurd h (h2 i j hi hj e)
 ·exact e
 ·exact absurd h.symm (h2 j i hj hi e)
theorem LU{ks:List Int}{n b:Nat}{f:Nat→Nat}{x:Int}(hn:n=ks.length)(h:x∉ks):mJ (iO n b (oM ks) f) [x]=none:=by
 have:∀y∈iO n b (oM ks) f,y.1≠[x]:=fun y hy=>by
  obtain⟨i,hi,rfl⟩:=ay.1 hy;have hi:=bD.1 hi;intro e;simp only[oM,eH,and_true]at e;rw[ak,ah (by omega),bf]at e
  exact h (e▸aB _)
 generalize iO n b (oM ks) f=es at this
 induction es with
 | nil=>rfl
 | cons y es ih=>rw[mJ,if_neg (fun e=>this y (by simp) e.symm)];exact ih fun z hz=>this z (dM _ hz)
theorem LW{ks:List Int}{n b:Nat}{f:Nat→Nat}{x:Int}{v:TV}(hn:n=ks.length)(h:x∉ks):vO (iO n b (oM ks) f) [x] v=iO n b (oM ks) f++[([x],v)]:=by
 refine Ew fun y hy=>?_
 obtain⟨i,hi,rfl⟩:=ay.1 hy;have hi:=bD.1 hi;intro e;simp only[oM,eH,and_true]at e;rw[ak,ah (by omega),bf]at e
 exact h (e▸aB _)
theorem Dv(n b:Nat)(ks:List Int)(f:Nat→Nat):zh 1 (iO n b (oM ks) f):=fun y hy=>by obtain⟨i,hi,rfl⟩:=ay.1 hy;rfl
theorem EO{a n b c:Nat}{k:Nat→List Int}{f f':Nat→Nat}{k':Nat→List Int}{x:Int}(h:a<b)(hk:∀j,j<n→k' j=k j)(hf:∀j,j<n→f' j=f j)(hx:k' n = [x])(m:Nat)(hm:f' n=m)(pd:Option (List Int))(s:Option oO):
  qU a (b+n) (It.jA (iO n b k f++[([x],TV.bK a m)]) c pd s)=It.jA (iO (n+1) b k' f') c pd s:=by
 rw[IZ];simp only[qU,fH,aH,dY,TV.ren,wQ,if_pos]
 congr 2
 ·simp only[iO,bQ];refine bW fun i hi=>?_
  have hi:=bD.1 hi;simp only[Function.comp_def,TV.ren,wQ,hk i hi,hf i hi];rw[if_neg (by omega)]
 ·simp[hx,hm]
theorem MS{a b c:Nat}{M:IM}{pd:Option (List Int)}{s:Option oO}:qU a b (It.jA (im M) c pd s)=It.jA (im M) c pd s:=by simp[qU,im,bQ,Function.comp_def,TV.ren]
theorem MR{a b e z:Nat}{xs:List (List D)}{sh:Bool}:qU a b (It.row e z (dd xs) sh)=It.row e z (dd xs) sh:=by simp[qU,dd,bQ,Function.comp_def,Ig]
theorem Hf{ks:List Int}{G:Nat→List (List D)}(nd:ks.Nodup){H:Int→List (List D)}(hH:∀j,j<ks.length→G j=H (ks.getD j 0))(x:Int):
  (x∈ks∧mJ ((List.range ks.length).map fun i=>(oM ks i,TV.d (.sl (G i)))) [x]=some (TV.d (.sl (H x))))∨(x∉ks∧mJ ((List.range ks.length).map fun i=>(oM ks i,TV.d (.sl (G i)))) [x]=none):=by
 have key:∀l:List Nat,(∀i∈l,i<ks.length)→(∃i∈l,ks.getD i 0=x)∧mJ (l.map fun i=>(oM ks i,TV.d (.sl (G i)))) [x]=some (TV.d (.sl (H x)))∨(∀i∈l,ks.getD i 0≠x)∧mJ (l.map fun i=>(oM ks i,TV.d (.sl (G i)))) [x]=none:=fun l=>by
  induction l with
  | nil=>intro _;exact .inr ⟨by simp,rfl⟩
  | cons i l ih=>
    intro hl;by_cases e:ks.getD i 0=x
    ·refine .inl ⟨⟨i,by simp,e⟩,?_⟩;rw[aH,mJ,if_pos (by rw[oM,e]),hH i (hl i (by simp)),e]
    ·have en :¬[x]=oM ks i:=fun h=>e (by simpa[oM]using h.symm)
     rcases ih (fun j hj=>hl j (dM _ hj))with⟨⟨j,hj,ej⟩,h2⟩|⟨h1,h2⟩
     ·exact .inl ⟨⟨j,dM _ hj,ej⟩,by rw[aH,mJ,if_neg en,h2]⟩
     ·refine .inr ⟨fun j hj=>?_,by rw[aH,mJ,if_neg en,h2]⟩;rcases aG.1 hj with rfl|hj
      ·exact e
      ·exact h1 j hj
 rcases key (List.range ks.length) (fun i hi=>bD.1 hi)with⟨⟨i,hi,e⟩,h⟩|⟨h1,h⟩
 ·have hi:=bD.1 hi;rw[ak,ah hi,bf]at e
  exact .inl ⟨e▸aB hi,h⟩
 ·refine .inr ⟨fun hx=>?_,h⟩;obtain⟨i,hi,e⟩:=cu.1 hx;exact h1 i (bD.2 hi) (by rw[ak,ah hi,bf,e])
theorem KC{p:Pn}(h:iT p=true)(x:Int):(gI (RM p.es) x=none∧own p x=0)∨gI (RM p.es) x=some (own p x):=by
 have hn:(p.es.map (·.id)).Nodup:=by rw[dI,dA];exact(xu h).imp fun h=>by omega
 have:=QU hn x;cases hg:gI (RM p.es) x with
 | none=>rw[hg]at this;exact .inl ⟨rfl,by simpa using this.symm⟩
 | some v=>rw[hg]at this;exact .inr (by rw[←this];rfl)
theorem vU(p:Pn)(hp:p.es.length≤1000)(ids:List Int)(hl:ids.length≤1000000)(l:List An)(hl2:l.length≤1000000)(h64:∀a∈l,I64 a.id):Contract Tryz.prog 62 [iE p,.d (ints ids),.d (.sl (ans l))] []
  (.sZ [.d (.sl (lC (vI p ids l).1)),.d (.int .i64 (vI p ids l).2)]) [] []:=by
 have h1:=Dz p hp;obtain⟨w,hw⟩:∃w,w=vI p ids l:=⟨_,rfl⟩
 rw[←hw];unfold vI Gy asQ at hw;simp only[iE]at h1;refine aC Tryz.func62 rfl (fun E0=>?_)
 refine iK.sound (g:=.mk) (ow:=[3000047,3000072]) (kp:=(kb 0x4001e00203c0041e0081e00021e41e01e40044b576bcf)) ?_
 rw[Tryz.ntmps62];simp -dsimp[iE];and_intros;all_goals try first|rfl|omega|exact⟨by kernel_rfl⟩
 refine aF.of h1 [] 0 ?_;cases hpb:iT p with
 | false=>
   rw[hpb]at hw
   simp -dsimp[hpb];and_intros;all_goals try first|rfl|omega|exact⟨by kernel_rfl⟩
   refine Fin.view 6 ?_;simp -dsimp;refine Fin.of ?_;simp[hw,lC]
 | true=>
 have hM:=KC hpb;rw[hpb]at hw
 simp -dsimp[hpb];and_intros;all_goals try first|rfl|omega|exact⟨by kernel_rfl⟩
 refine bY.of [3000047,3000072] (kb 0x4001e00203c0041e0081e00021e41e01e40044b576bcf) (ι:={j:Nat // j≤ids.length∧pV (fun x y:Int=>decide (y≤x)) ids=pV (fun x y:Int=>decide (y≤x)) (ids.drop j)})
  (fun z=>[(.s 1,It.v (.d (ints ids))),(.s 2,It.v (.d (.sl (ans l)))),(.o 3,It.box [TV.d (.int .i64 p.gU),TV.d (.int .i64 p.len),TV.d (.sl (lX p.es))]),(.s 3,It.v (.ptr (.o 3) 0)),(.s 6,It.v (.c (.slice none 0 0))),(.s 7,It.v (.d (.int .i64 0))),(.s 8,It.v (.d (.int .i64 ((z.1:Int)+1))))]) (fun z=>ids.length-z.1) ⟨0,by omega,by simp⟩ ?_ ?_
 ·exact GS.to (by simp[ints])
 rintro⟨j,j1,j2⟩;by_cases hj:j+1<ids.length
 ·have hjz:(j:Int)+1<ids.length:=by omega
  have hx:ids[j]? = some ids[j]:=ah (by omega);have hy:ids[j+1]? = some ids[j+1]:=ah hj;generalize ids[j]=x at hx;generalize ids[j+1]=y at hy;have w0:IntKind.i64.wrap (j:Int)=(j:Int):=wrap_i64 (by omega) (by omega);have jz:(j:Int)<ids.length:=by omega
  have w1:IntKind.i64.wrap ((j:Int)+1+1)=(j:Int)+1+1:=wrap_i64 (by omega) (by omega);have t1:((j:Int)+1).toNat=j+1:=by omega
  by_cases c:y≤x
  ·rw[zN hx hy j2 (by simpa using c)]at hw
   simp -dsimp[hjz,jz,hx,hy,ints,w0,t1,c];and_intros;all_goals try first|omega|exact⟨by kernel_rfl⟩|rfl
   refine Fin.view 6 ?_;simp -dsimp;refine Fin.of ?_;simp[hw,lC]
  ·simp -dsimp[hjz,hx,hy,ints,w0,w1,t1,c];and_intros;all_goals try first|omega|exact⟨by kernel_rfl⟩|rfl
   exact⟨⟨j+1,by omega,xX hx hy j2 (by simpa using c)⟩,GS.to (by simp[ints]),by simp;omega⟩
 have hjz :¬(j:Int)+1<ids.length:=by omega
 rw[zM j2 hj]at hw
 simp only[j_,oU,reduceCtorEq,if_false,kY]at hw;simp -dsimp[hjz,ints];and_intros;all_goals try first|rfl|omega|exact⟨by kernel_rfl⟩
 refine bY.of [3000047,3000072] (kb 0x4001e00203c0041e0081e00021e41e01e40044b576bcf) (ι:={k:Nat // k≤p.es.length})
  (fun z=>[(.s 1,It.v (.d (ints ids))),(.s 2,It.v (.d (.sl (ans l)))),(.o 3,It.box [TV.d (.int .i64 p.gU),TV.d (.int .i64 p.len),TV.d (.sl (lX p.es))]),(.s 3,It.v (.ptr (.o 3) 0)),(.s 6,It.v (.c (.slice none 0 0))),(.s 7,It.v (.d (.int .i64 0))),(.o 47,It.jA (im (RM (p.es.take z.1))) 0 none none),(.s 9,It.v (.mref 47)),(.s 49,It.v (.d (.sl (lX p.es)))),(.s 50,It.v (.d (.int .i64 p.es.length))),(.s 51,It.v (.d (.int .i64 z.1)))])
  (fun z=>p.es.length-z.1) ⟨0,by omega⟩ ?_ ?_
 ·exact GS.to (by simp[ints,RM,im])
 rintro⟨k,k1⟩;by_cases hk:k<p.es.length
 ·have hkz:(k:Int)<p.es.length:=by omega
  have hx:p.es[k]? = some p.es[k]:=ah hk;generalize p.es[k]=e at hx;have ht:=KD hx;have hx':(lX p.es)[k]? = some [.int .i64 e.r,.int .i64 e.id]:=by simp[lX,hx,Ed.cs]
  have w1:IntKind.i64.wrap ((k:Int)+1)=(k:Int)+1:=wrap_i64 (by omega) (by omega);generalize RM (p.es.take k)=M at ht⊢;simp -dsimp[hkz,hx',zQ,iY,w1];and_intros;all_goals try first|exact pU|omega|exact⟨by kernel_rfl⟩|rfl
  exact⟨⟨k+1,by omega⟩,GS.to (by simp[ht,ints]),by simp;omega⟩
 have hkz :¬(k:Int)<p.es.length:=by omega
 rw[aW (show p.es.length≤k by omega)];obtain⟨M,hMe⟩:∃M,M=RM p.es:=⟨_,rfl⟩
 obtain⟨o,ho⟩:∃o,o=own p:=⟨_,rfl⟩
 unfold BP at hw;rw[←hMe,←ho]at hM
 rw[←hMe];rw[←ho]at hw
 clear hMe ho;simp -dsimp[hkz,ints];and_intros;all_goals try first|rfl|omega|exact⟨by kernel_rfl⟩
 refine bY.of [3000047,3000072] (kb 0x4001e00203c0041e0081e00021e41e01e40044b576bcf) (ι:={j:Nat // j≤ids.length∧(ids.any fun id=>decide (o id=0))=((ids.drop j).any fun id=>decide (o id=0))})
  (fun z=>[(.s 1,It.v (.d (ints ids))),(.s 2,It.v (.d (.sl (ans l)))),(.o 3,It.box [TV.d (.int .i64 p.gU),TV.d (.int .i64 p.len),TV.d (.sl (lX p.es))]),(.s 3,It.v (.ptr (.o 3) 0)),(.s 6,It.v (.c (.slice none 0 0))),(.s 7,It.v (.d (.int .i64 0))),(.o 47,It.jA (im M) 0 none none),(.s 9,It.v (.mref 47)),(.s 61,It.v (.d (ints ids))),(.s 62,It.v (.d (.int .i64 ids.length))),(.s 63,It.v (.d (.int .i64 z.1)))])
  (fun z=>ids.length-z.1) ⟨0,by omega,by simp⟩ ?_ ?_
 ·exact GS.to (by simp[ints])
 rintro⟨j,j1,j2⟩;by_cases hj:j<ids.length
 ·have hjz:(j:Int)<ids.length:=by omega
  have hx:ids[j]? = some ids[j]:=ah hj;have hd:ids.drop j=ids[j]::ids.drop (j+1):=aU hj;generalize ids[j]=x at hx hd;rw[hd,List.any_cons]at j2
  have w1:IntKind.i64.wrap ((j:Int)+1)=(j:Int)+1:=wrap_i64 (by omega) (by omega);rcases hM x with⟨hg,h0⟩|hg
  ·rw[j2,h0]at hw
   simp only[decide_true,rM,if_true]at hw;simp -dsimp[hjz,hx,ints,jG,hg];and_intros;all_goals try first|rfl|omega|exact⟨by kernel_rfl⟩|exact iY _
   refine Fin.view 6 ?_;simp -dsimp;refine Fin.of ?_;simp[hw,lC]
  by_cases c:o x=0
  ·rw[j2,c]at hw
   simp only[decide_true,rM,if_true]at hw;simp -dsimp[hjz,hx,ints,jG,hg,c];and_intros;all_goals try first|rfl|omega|exact⟨by kernel_rfl⟩|exact iY _
   refine Fin.view 6 ?_;simp -dsimp;refine Fin.of ?_;simp[hw,lC]
  ·simp only[c,decide_false,qF]at j2;simp -dsimp[hjz,hx,ints,jG,hg,eq_false c,w1];and_intros;all_goals try first|rfl|omega|exact⟨by kernel_rfl⟩|exact iY _
   exact⟨⟨j+1,by omega,j2⟩,GS.to (by simp[ints]),by simp;omega⟩
 have hjz :¬(j:Int)<ids.length:=by omega
 rw[j2,oD (by omega)]at hw
 simp only[List.any_nil,bI,if_false,if_true]at hw;simp -dsimp[hjz];and_intros;all_goals try first|rfl|omega|exact⟨by kernel_rfl⟩
 refine bY.of [3000047,3000072] (kb 0x4001e00203c0041e0081e00021e41e01e40044b576bcf) (ι:={i:Nat // i≤l.length})
  (fun z=>sJ 9000 (dO (l.take z.1)).length (fun j=>It.row 3 1 (dd (fE .i64 (iP (l.take z.1) (xP (dO (l.take z.1)) j)))) false) [(.s 1,It.v (.d (ints ids))),(.s 2,It.v (.d (.sl (ans l)))),(.o 3,It.box [TV.d (.int .i64 p.gU),TV.d (.int .i64 p.len),TV.d (.sl (lX p.es))]),(.s 3,It.v (.ptr (.o 3) 0)),(.s 6,It.v (.c (.slice none 0 0))),(.s 7,It.v (.d (.int .i64 0))),(.o 47,It.jA (im M) 0 none none),(.s 9,It.v (.mref 47)),(.o 72,It.jA (iO (dO (l.take z.1)).length 9000 (oM (dO (l.take z.1))) fun j=>(iP (l.take z.1) (xP (dO (l.take z.1)) j)).length) 0 none none),(.s 14,It.v (.mref 72)),(.s 73,It.v (.d (.sl (ans l)))),(.s 74,It.v (.d (.int .i64 l.length))),(.s 75,It.v (.d (.int .i64 z.1)))])
  (fun z=>l.length-z.1) ⟨0,by omega⟩ ?_ ?_
 ·exact GS.to (by simp[ints,dO,jS,Ee,iO])
 rintro⟨i,i1⟩;by_cases hi:i<l.length
 ·have hiz:(i:Int)<l.length:=by omega
  have hx:l[i]? = some l[i]:=ah hi;have hno:=Nj hx;have hold:=Ir hx;have hnew:=Iq hx;have hkl:=yQ (l.take i);have hnd:=uD (l.take i);have hrl:=yP (l.take i);rw[bF]at hkl
  have hrl:∀x,(iP (l.take i) x).length≤1000000:=fun x=>aY (hrl x) (by rw[bF];omega)
  generalize l[i]=a at hx hno hold hnew;have hx':=yX hx;have w1:IntKind.i64.wrap ((i:Int)+1)=(i:Int)+1:=wrap_i64 (by omega) (by omega);obtain⟨ks,hks⟩:∃ks,ks=dO (l.take i):=⟨_,rfl⟩
  obtain⟨R,hR⟩:∃R:Int→List Int,R=iP (l.take i):=⟨_,rfl⟩
  obtain⟨Tv,LM⟩:∃ks,ks=dO (l.take (i+1)):=⟨_,rfl⟩
  obtain⟨R2,hR2⟩:∃R:Int→List Int,R=iP (l.take (i+1)):=⟨_,rfl⟩
  rw[←hks,←hR,←LM,←hR2]at hno hold hnew
  rw[←hks]at hkl hnd
  rw[←hR]at hrl
  rw[←hks,←hR];by_cases c1:a.kd=1
  ·by_cases c2:a.id∈ks
   ·obtain⟨e1,j0,hj0,ej,e2⟩:=hold c1 c2;have e2:∀j,j<ks.length→R2 (xP ks j)=if j=j0 then R (xP ks j0)++[a.rt]else R (xP ks j):=e2
    have hinj:∀i j,i<ks.length→j<ks.length→oM ks i=oM ks j→i=j:=fun i j hi hj e=>LX hnd hi hj e
    have hga:∀f,mJ (iO ks.length 9000 (oM ks) f) [a.id]=some (.bK (9000+j0) (f j0)):=fun f=>by rw[←ej];exact EF hinj hj0
    have hpa:∀f m,vO (iO ks.length 9000 (oM ks) f) [a.id] (.bK (9000+j0) m)=iO ks.length 9000 (oM ks) (fun j=>if j=j0 then m else f j):=fun f m=>by rw[←ej];exact Hq hinj hj0
    have hr0:=hrl (xP ks j0);clear hno hold hnew;simp -dsimp[hiz,hx',BJ,eq_true c1,w1,hga,hpa,hj0,ji,jk];and_intros;all_goals try first|omega|exact Dv _ _ _ _
    ·refine⟨⟨i+1,by omega⟩,?_,by simp;omega⟩;dsimp only;rw[←LM,←hR2,e1];have hM2:(iO ks.length 9000 (oM ks) fun j=>(R2 (xP ks j)).length)=iO ks.length 9000 (oM ks) fun j=>if j=j0 then(R (xP ks j0)).length+1 else(R (xP ks j)).length:=
      Ce fun j hj=>by rw[e2 j hj];split<;>simp
     refine GS.to ⟨Sub.sJ (fun j hj=>?_) ?_ ?_ ?_,?_⟩
     ·rw[e2 j hj];simp[hj];split<;>simp[fE,dd]
     ·simp(disch:=omega) [ji,jk,ints,hM2]
     ·simp
     ·simp(disch:=omega);exact fun j hj=>.inl hj
     ·simp
    ·refine Dh.ren (fun p=>if p = .o (9000+j0)then .o 9000 else p) ?_
     conv=>lhs;arg 2;simp[zB,ji,jk]
     kernel_rfl
   ·obtain⟨e1,e2,e3,e4,e5⟩:=hnew c1 c2;have ag3:Tv.length=ks.length+1:=by rw[e1];simp
    have hk2:∀j,j<ks.length→oM Tv j=oM ks j:=fun j hj=>by unfold oM;rw[e2 j hj]
    have hk3:oM Tv ks.length = [a.id]:=by unfold oM;rw[e3]
    have e2:∀j,j<ks.length→xP Tv j=xP ks j:=e2;have e3:xP Tv ks.length=a.id:=e3;have e4:∀j,j<ks.length→R2 (xP ks j)=R (xP ks j):=e4;have hga:∀f,mJ (iO ks.length 9000 (oM ks) f) [a.id]=none:=fun f=>LU rfl c2
    have hpa:∀f v,vO (iO ks.length 9000 (oM ks) f) [a.id] v=iO ks.length 9000 (oM ks) f++[([a.id],v)]:=fun f v=>LW rfl c2
    have hmap:qU 92 (9000+ks.length) (It.jA ((iO ks.length 9000 (oM ks) fun j=>(R (xP ks j)).length)++[([a.id],TV.bK 92 1)]) 0 none none)=It.jA (iO (ks.length+1) 9000 (oM Tv) fun j=>(R2 (xP Tv j)).length) 0 none none:=
     EO (by omega) hk2 (fun j hj=>by rw[e2 j hj,e4 j hj]) hk3 1 (by rw[e3,e5];rfl) none none
    clear hno hold hnew;simp -dsimp[hiz,hx',BJ,eq_true c1,w1,hga,hpa,ji,jk];and_intros;all_goals try first|omega|exact⟨by kernel_rfl⟩|rfl|exact Dv _ _ _ _
    refine⟨⟨i+1,by omega⟩,?_,by simp;omega⟩;dsimp only;rw[←LM,←hR2,ag3];refine GS.ren' 92 (9000+ks.length) (by omega) ?_ ?_
    ·simp(disch:=omega) [MI];omega
    rw[Ib (show 92<9000 by omega)];simp only[EP,Ic,hmap,MS,MR];refine⟨Sub.sJ (fun j hj=>?_) ?_ ?_ ?_,?_⟩
    ·rcases (by omega:j<ks.length∨j=ks.length)with h|h
     ·simp[h,e2 j h,e4 j h]
     ·subst h;simp(disch:=omega) [yC,qU,TV.ren,TV.vP,wQ,ji,jk,e3,e5,fE,dd]
    ·simp(disch:=omega) [yC,qU,TV.ren,TV.vP,wQ,ji,jk,ints]
    ·simp
    ·simp(disch:=omega);exact fun j hj=>.inl hj
    ·simp[yC,qU]
  ·obtain⟨e1,e2⟩:=hno c1;clear hold hnew;simp -dsimp[hiz,hx',BJ,eq_false c1,w1,ji,jk];and_intros;all_goals try first|omega|exact⟨by kernel_rfl⟩|rfl
   refine⟨⟨i+1,by omega⟩,?_,by simp;omega⟩;dsimp only;rw[←LM,←hR2,e1];refine GS.to ⟨Sub.sJ (fun j hj=>?_) ?_ ?_ ?_,?_⟩
   ·simp[hj,e2]
   ·simp(disch:=omega) [ji,jk,ints,e2]
   ·simp
   ·simp(disch:=omega);exact fun j hj=>.inl hj
   ·simp
 have hiz :¬(i:Int)<l.length:=by omega
 rw[aW (show l.length≤i by omega)];have hkl:=yQ l;have hnd:=uD l;have hrl:=yP l;have hst:=CW l;have hmk:∀x,x∈dO l↔x∈oz l:=fun x=>by rw[qY,sK]
 have zA:∀x∈dO l,I64 x:=fun x hx=>by obtain⟨a,ha,rfl⟩:=ay.1 (qY.1 hx);exact h64 a (bG.1 ha).1
 have hGl:=Ad l;have hGp:∀x∈oz l,0<(iP l x).length:=fun x hx=>by rw[iP,aN];exact Bo hx
 have hR0:∀x k,(iP l x).getD k 0=((jF l x).getD k ⟨0,0,0,0⟩).rt:=fun x k=>ET l x k
 have hR1:∀x,(jF l x).length=(iP l x).length:=fun x=>by simp[iP]
 simp only[←hR0,hR1]at hw;obtain⟨ks,hks⟩:∃ks,ks=dO l:=⟨_,rfl⟩
 obtain⟨R,hR⟩:∃R:Int→List Int,R=iP l:=⟨_,rfl⟩
 rw[←hR]at hw hrl hGp
 rw[←hks]at hkl hnd hst zA
 rw[←hks,←hR];simp only[←hks]at hmk;clear hR0 hR1 hks hR;have hes:∀x∈iO ks.length 9000 (oM ks) (fun j=>(R (xP ks j)).length),x.1.length=1∧I64 (x.1.headD 0):=fun x hx=>by obtain⟨j,hj,rfl⟩:=ay.1 hx;have hj:=bD.1 hj;refine⟨rfl,zA _ ?_⟩;simp only[oM,List.headD_cons,ak,ah hj,bf];exact aB hj
 have hel:(iO ks.length 9000 (oM ks) (fun j=>(R (xP ks j)).length)).length=ks.length:=by simp[iO]
 have hkk:qW (iO ks.length 9000 (oM ks) (fun j=>(R (xP ks j)).length))=oz l:=by
  rw[←hst,qW]
  congr 1
  rw[iO,bQ];refine lU (by simp) fun i h1 h2=>?_
  simp[oM,h2]
 have hgl:(oz l).length=ks.length:=by rw[←hst,gZ]
 generalize oz l=G at hw hmk hGl hGp hkk hgl;simp -dsimp[hiz];and_intros;all_goals try first|omega|exact⟨by kernel_rfl⟩|rfl
 refine aF.keys He ?_;simp -dsimp;and_intros;all_goals try first|omega|exact⟨by kernel_rfl⟩|rfl
 refine aF.sortedK He ?_;simp -dsimp[hel,hkk,ints];and_intros;all_goals try first|omega|exact⟨by kernel_rfl⟩|rfl
 ·intro a b h;have:=hes (a,b) h;simpa using this
 have hval:=Hf (ks:=ks) (G:=fun j=>fE .i64 (R (xP ks j))) hnd (H:=fun x=>fE .i64 (R x)) (fun j hj=>rfl);obtain⟨ES,hES⟩:∃ES,ES=(List.range ks.length).map fun j=>(oM ks j,TV.d (.sl (fE .i64 (R (xP ks j))))):=⟨_,rfl⟩
 have hlk:zh 1 ES:=fun y hy=>by
  rw[hES]at hy
  obtain⟨j,hj,rfl⟩:=ay.1 hy;rfl
 have lD:∀po:Nat→Prop,It.only po (It.jA ES 0 none none):=fun po=>by rw[hES];exact TS (k:=oM ks)
 simp only[←hES]at hval;have hA:∀x,(x∈G∧mJ ES [x]=some (TV.d (.sl (fE .i64 (R x))))∧0<(R x).length)∨(x∉G∧mJ ES [x]=none):=fun x=>by
  rcases hval x with⟨h1,h2⟩|⟨h1,h2⟩
  ·exact .inl ⟨(hmk x).1 h1,h2,hGp x ((hmk x).1 h1)⟩
  ·exact .inr ⟨fun h=>h1 ((hmk x).2 h),h2⟩
 have hrl:∀x,(R x).length≤1000000:=fun x=>aY (hrl x) hl2
 have hDD:(jS l).filter (fun a=>decide (a.rt≠o a.id))=l.filter (fun a:An=>decide (a.kd=1)&&decide (a.rt≠o a.id)):=by unfold jS;rw[iM];apply eu;intro a _;rw[ny]
 rw[hDD]at hw
 obtain⟨PF,hP0,AP,hPl,AO⟩:∃PF:Nat→List (List Int),PF 0 = []∧(∀(i:Nat) x,(ids)[i]? = some x→PF (i+1)=PF i++if(fun id=>!decide (id∈G)) x=true then [(fun id=>[1,o id,id,0]) x]else [])∧(∀i,(PF i).length≤(ids).length)∧PF (ids).length=((ids).filter (fun id=>!decide (id∈G))).map (fun id=>[1,o id,id,0]):=
  ⟨fun i=>(((ids).take i).filter (fun id=>!decide (id∈G))).map (fun id=>[1,o id,id,0]),by simp,fun i x h=>rX h,fun i=>aY (nV _ _ _) (by rw[bF];omega),by simp only[bP]⟩
 refine bY.of [3000047,3000072] (kb 0x4001e00203c0041e0081e00021e41e01e40044b576bcf) (ι:={i:Nat // i≤(ids).length})
  (fun z=>[(.s 1,It.v (.d (ints ids))),(.s 2,It.v (.d (.sl (ans l)))),(.o 3,It.box [TV.d (.int .i64 p.gU),TV.d (.int .i64 p.len),TV.d (.sl (lX p.es))]),(.s 3,It.v (.ptr (.o 3) 0)),(.s 6,It.v (.c (.slice none 0 0))),(.s 7,It.v (.d (.int .i64 0))),(.o 47,It.jA (im M) 0 none none),(.s 9,It.v (.mref 47)),(.o 72,It.jA ES 0 none none),(.s 14,It.v (.mref 72)),(.s 17,It.v (.d (ints G))),(.s 18,It.v (.bK 18 ((PF z.1).length))),(.o 18,It.row 113 4 (dd (lC (PF z.1))) false),(.s 97,It.v (.d (ints ids))),(.s 98,It.v (.d (.int .i64 (ids).length))),(.s 99,It.v (.d (.int .i64 z.1)))])
  (fun z=>(ids).length-z.1) ⟨0,by omega⟩ ?_ ?_
 ·refine((GS.UD (qL:=72) (b:=9000) (n:=ks.length) (e:=3) (z:=1) (k:=oM ks) (xs:=fun j=>fE .i64 (R (xP ks j))) (c:=0) (pd:=none) (s:=none) (by simp[fE]) (fun i hi=>by simp[hi]) (by omega)).trans (GS.Lu (l':=[(.s 1,It.v (.d (ints ids))),(.s 2,It.v (.d (.sl (ans l)))),(.o 3,It.box [TV.d (.int .i64 p.gU),TV.d (.int .i64 p.len),TV.d (.sl (lX p.es))]),(.s 3,It.v (.ptr (.o 3) 0)),(.s 6,It.v (.c (.slice none 0 0))),(.s 7,It.v (.d (.int .i64 0))),(.o 47,It.jA (im M) 0 none none),(.s 9,It.v (.mref 47)),(.o 72,It.jA ES 0 none none),(.s 14,It.v (.mref 72)),(.o 96,It.row 3 1 (dd (fE .i64 G)) false),(.s 17,It.v (.bK 96 ks.length)),(.s 18,It.v (.c (Value.slice none 0 0))),(.s 97,It.v (.d (ints ids))),(.s 98,It.v (.d (.int .i64 ids.length))),(.s 99,It.v (.d (.int .i64 0)))]) ⟨?_,?_⟩ ?_)).trans ((GS.Gm 17 (l':=[(.s 1,It.v (.d (ints ids))),(.s 2,It.v (.d (.sl (ans l)))),(.o 3,It.box [TV.d (.int .i64 p.gU),TV.d (.int .i64 p.len),TV.d (.sl (lX p.es))]),(.s 3,It.v (.ptr (.o 3) 0)),(.s 6,It.v (.c (.slice none 0 0))),(.s 7,It.v (.d (.int .i64 0))),(.o 47,It.jA (im M) 0 none none),(.s 9,It.v (.mref 47)),(.o 72,It.jA ES 0 none none),(.s 14,It.v (.mref 72)),(.s 17,It.v (.d (ints G))),(.s 18,It.v (.c (Value.slice none 0 0))),(.s 97,It.v (.d (ints ids))),(.s 98,It.v (.d (.int .i64 ids.length))),(.s 99,It.v (.d (.int .i64 0)))]) ?_).trans (GS.own' (k:=18) 113 4 (by simp) (by simp) (by simp[ints,ans,lC,hP0,lD])))
  ·simp only[pF,fP,false_imp_iff,implies_true,and_true];and_intros;all_goals first|(rw[Io,←hES];simp)|(rw[Am (by omega) (by omega)];simp[ints])|(rw[UE];simp[ints])|skip
  ·simp[lD]
  ·intro i;rw[UF];simp
  ·simp[ints,lD,hgl]<;>simp[fE]
 rintro⟨i,i1⟩;have hpl:=hPl i;by_cases hi:i<(ids).length
 ·have hiz:(i:Int)<(ids).length:=by omega
  have hx:(ids)[i]? = some (ids)[i]:=ah hi;have hm:=aB hi;have ht:=AP i _ hx;dsimp only at ht;have w1:IntKind.i64.wrap ((i:Int)+1)=(i:Int)+1:=wrap_i64 (by omega) (by omega);generalize (ids)[i]=x at hx hm ht;generalize PF i=S at hpl ht⊢;rcases hA x with⟨c1,hg,hp1⟩|⟨c1,hg⟩
  ·simp only[c1,decide_true,oq,bI,if_false,aZ]at ht;have hn1:R x≠[]:=fun e=>by rw[e]at hp1;simp at hp1
   simp -dsimp[hiz,hx,ints,hg,hn1,w1,fE];and_intros;all_goals try first|rfl|omega|exact⟨by kernel_rfl⟩|exact hlk
   exact⟨⟨i+1,by omega⟩,GS.to (by simp[ht,ints,ans,lC,aX,lD]),by simp;omega⟩
  ·simp only[c1,decide_false,j_,if_true]at ht;rcases hM x with⟨hq,h0⟩|hq
   ·rw[h0]at ht
    simp -dsimp[hiz,hx,ints,hg,jG,hq,w1,ng];and_intros;all_goals try first|rfl|omega|exact⟨by kernel_rfl⟩|exact hlk|exact iY _
    exact⟨⟨i+1,by omega⟩,GS.to (by simp[ht,ints,ans,lC,aX,lD]),by simp;omega⟩
   ·simp -dsimp[hiz,hx,ints,hg,jG,hq,w1,ng];and_intros;all_goals try first|rfl|omega|exact⟨by kernel_rfl⟩|exact hlk|exact iY _
    exact⟨⟨i+1,by omega⟩,GS.to (by simp[ht,ints,ans,lC,aX,lD]),by simp;omega⟩
 have hiz :¬(i:Int)<(ids).length:=by omega
 obtain rfl:i=(ids).length:=by omega
 obtain⟨A,hA⟩:∃A,A=PF (ids).length:=⟨_,rfl⟩
 rw[←hA];rw[AO]at hA
 rw[←hA]at hw
 have hA1:(A).length≤(ids).length:=by rw[hA];exact nV _ _ _
 clear hpl hP0 AP hPl AO hA;simp -dsimp[hiz,ints,ans];and_intros;all_goals try first|rfl|omega|exact⟨by kernel_rfl⟩
 obtain⟨PF,hP0,AP,hPl,AO⟩:∃PF:Nat→List (List Int),PF 0 = []∧(∀(i:Nat) x,(G)[i]? = some x→PF (i+1)=PF i++if(fun id=>!decide (id∈ids)) x=true then [(fun id=>[2,(R id).getD 0 0,id,0]) x]else [])∧(∀i,(PF i).length≤(G).length)∧PF (G).length=((G).filter (fun id=>!decide (id∈ids))).map (fun id=>[2,(R id).getD 0 0,id,0]):=
  ⟨fun i=>(((G).take i).filter (fun id=>!decide (id∈ids))).map (fun id=>[2,(R id).getD 0 0,id,0]),by simp,fun i x h=>rX h,fun i=>aY (nV _ _ _) (by rw[bF];omega),by simp only[bP]⟩
 refine bY.of [3000047,3000072] (kb 0x4001e00203c0041e0081e00021e41e01e40044b576bcf) (ι:={i:Nat // i≤(G).length})
  (fun z=>[(.s 1,It.v (.d (ints ids))),(.s 2,It.v (.d (.sl (ans l)))),(.o 3,It.box [TV.d (.int .i64 p.gU),TV.d (.int .i64 p.len),TV.d (.sl (lX p.es))]),(.s 3,It.v (.ptr (.o 3) 0)),(.s 6,It.v (.c (.slice none 0 0))),(.s 7,It.v (.d (.int .i64 0))),(.o 47,It.jA (im M) 0 none none),(.s 9,It.v (.mref 47)),(.o 72,It.jA ES 0 none none),(.s 14,It.v (.mref 72)),(.s 17,It.v (.d (ints G))),(.s 18,It.v (.bK 18 ((A).length+(PF z.1).length))),(.o 18,It.row 113 4 (dd (lC (A))++dd (lC (PF z.1))) false),(.s 117,It.v (.d (ints G))),(.s 118,It.v (.d (.int .i64 (G).length))),(.s 119,It.v (.d (.int .i64 z.1)))])
  (fun z=>(G).length-z.1) ⟨0,by omega⟩ ?_ ?_
 ·exact GS.to (by simp[ints,ans,uS,lC,hP0,aX,lD])
 rintro⟨i,i1⟩;have hpl:=hPl i;by_cases hi:i<(G).length
 ·have hiz:(i:Int)<(G).length:=by omega
  have hx:(G)[i]? = some (G)[i]:=ah hi;have hm:=aB hi;have ht:=AP i _ hx;dsimp only at ht;have w1:IntKind.i64.wrap ((i:Int)+1)=(i:Int)+1:=wrap_i64 (by omega) (by omega);generalize (G)[i]=x at hx hm ht;generalize PF i=S at hpl ht⊢;have hin:=contains_c ids hl x;simp only[ints]at hin;rcases hA x with⟨_,hg,hp1⟩|⟨c0,_⟩
  case inr=>exact absurd hm c0
  have hrx:=hrl x;generalize R x=M at hg hp1 ht hrx;obtain⟨y,M,rfl⟩:∃a M',M=a::M':=by cases M with
   | nil=>simp at hp1
   | cons a M=>exact⟨a,M,rfl⟩
  by_cases c1:x∈ids
  ·simp only[c1,decide_true,oq,bI,if_false,aZ]at ht;simp -dsimp[hiz,hx,ints];and_intros;all_goals try first|rfl|omega|exact⟨by kernel_rfl⟩
   refine aF.of hin [] 0 ?_;simp -dsimp[pY,c1,w1];and_intros;all_goals try first|rfl|omega|exact⟨by kernel_rfl⟩
   exact⟨⟨i+1,by omega⟩,GS.to (by simp[ht,ints,ans,lC,aX,lD]),by simp;omega⟩
  ·simp only[c1,decide_false,j_,if_true,lH]at ht;simp -dsimp[hiz,hx,ints];and_intros;all_goals try first|rfl|omega|exact⟨by kernel_rfl⟩
   refine aF.of hin [] 0 ?_;simp -dsimp[pY,c1,w1,hg,fE,ng];and_intros;all_goals try first|rfl|omega|exact⟨by kernel_rfl⟩|exact hlk
   exact⟨⟨i+1,by omega⟩,GS.to (by simp[ht,ints,ans,lC,aX,lD]),by simp;omega⟩
 have hiz :¬(i:Int)<(G).length:=by omega
 obtain rfl:i=(G).length:=by omega
 obtain⟨B,hB⟩:∃B,B=PF (G).length:=⟨_,rfl⟩
 rw[←hB];rw[AO]at hB
 rw[←hB]at hw
 have hB1:(B).length≤(G).length:=by rw[hB];exact nV _ _ _
 clear hpl hP0 AP hPl AO hB;simp -dsimp[hiz,ints,ans];and_intros;all_goals try first|rfl|omega|exact⟨by kernel_rfl⟩
 obtain⟨PF,hP0,AP,hPl,AO⟩:∃PF:Nat→List (List Int),PF 0 = []∧(∀(i:Nat) x,(G)[i]? = some x→PF (i+1)=PF i++if(fun id=>decide (1<(R id).length)) x=true then [(fun id=>[3,(R id).getD 1 0,id,((R id).length:Int)]) x]else [])∧(∀i,(PF i).length≤(G).length)∧PF (G).length=((G).filter (fun id=>decide (1<(R id).length))).map (fun id=>[3,(R id).getD 1 0,id,((R id).length:Int)]):=
  ⟨fun i=>(((G).take i).filter (fun id=>decide (1<(R id).length))).map (fun id=>[3,(R id).getD 1 0,id,((R id).length:Int)]),by simp,fun i x h=>rX h,fun i=>aY (nV _ _ _) (by rw[bF];omega),by simp only[bP]⟩
 refine bY.of [3000047,3000072] (kb 0x4001e00203c0041e0081e00021e41e01e40044b576bcf) (ι:={i:Nat // i≤(G).length})
  (fun z=>[(.s 1,It.v (.d (ints ids))),(.s 2,It.v (.d (.sl (ans l)))),(.o 3,It.box [TV.d (.int .i64 p.gU),TV.d (.int .i64 p.len),TV.d (.sl (lX p.es))]),(.s 3,It.v (.ptr (.o 3) 0)),(.s 6,It.v (.c (.slice none 0 0))),(.s 7,It.v (.d (.int .i64 0))),(.o 47,It.jA (im M) 0 none none),(.s 9,It.v (.mref 47)),(.o 72,It.jA ES 0 none none),(.s 14,It.v (.mref 72)),(.s 17,It.v (.d (ints G))),(.s 18,It.v (.bK 18 ((A++B).length+(PF z.1).length))),(.o 18,It.row 113 4 (dd (lC (A++B))++dd (lC (PF z.1))) false),(.s 138,It.v (.d (ints G))),(.s 139,It.v (.d (.int .i64 (G).length))),(.s 140,It.v (.d (.int .i64 z.1)))])
  (fun z=>(G).length-z.1) ⟨0,by omega⟩ ?_ ?_
 ·exact GS.to (by simp[ints,ans,uS,lC,hP0,aX,lD])
 rintro⟨i,i1⟩;have hpl:=hPl i;by_cases hi:i<(G).length
 ·have hiz:(i:Int)<(G).length:=by omega
  have hx:(G)[i]? = some (G)[i]:=ah hi;have hm:=aB hi;have ht:=AP i _ hx;dsimp only at ht;have w1:IntKind.i64.wrap ((i:Int)+1)=(i:Int)+1:=wrap_i64 (by omega) (by omega);generalize (G)[i]=x at hx hm ht;generalize PF i=S at hpl ht⊢;rcases hA x with⟨_,hg,hp1⟩|⟨c0,_⟩
  case inr=>exact absurd hm c0
  have hrx:=hrl x;have ht:PF (i+1)=S++if 1<(R x).length then [[3,(R x).getD 1 0,x,((R x).length:Int)]]else []:=by rw[ht];simp
  generalize R x=M at hg hp1 ht hrx;by_cases c1:1<M.length
  ·obtain⟨y,y2,M,rfl⟩:∃a b M',M=a::b::M':=by
    match M,c1 with
    | a::b::M,_=>exact⟨a,b,M,rfl⟩
   simp only[c1,if_true,sD,lH]at ht;simp only[aT]at hrx;have xB:(1:Int)<(M.length:Int)+1+1:=by omega
   simp -dsimp[hiz,hx,ints,hg,fE,w1,xB,ng];and_intros;all_goals try first|rfl|omega|exact⟨by kernel_rfl⟩|exact hlk
   have e2:(M.length:Int)+2=(M.length:Int)+1+1:=by omega
   exact⟨⟨i+1,by omega⟩,GS.to (by simp[ht,ints,ans,lC,aX,e2,lD]),by simp;omega⟩
  ·have xB :¬(1:Int)<M.length:=by omega
   rw[if_neg c1,aZ]at ht
   simp -dsimp[hiz,hx,ints,hg,fE,w1,xB];and_intros;all_goals try first|rfl|omega|exact⟨by kernel_rfl⟩|exact hlk
   exact⟨⟨i+1,by omega⟩,GS.to (by simp[ht,ints,ans,lC,aX,lD]),by simp;omega⟩
 have hiz :¬(i:Int)<(G).length:=by omega
 obtain rfl:i=(G).length:=by omega
 obtain⟨C,hC⟩:∃C,C=PF (G).length:=⟨_,rfl⟩
 rw[←hC];rw[AO]at hC
 rw[←hC]at hw
 have hC1:(C).length≤(G).length:=by rw[hC];exact nV _ _ _
 clear hpl hP0 AP hPl AO hC;simp -dsimp[hiz,ints,ans];and_intros;all_goals try first|rfl|omega|exact⟨by kernel_rfl⟩
 obtain⟨PF,hP0,AP,hPl,AO⟩:∃PF:Nat→List (List Int),PF 0 = []∧(∀(i:Nat) x,(l)[i]? = some x→PF (i+1)=PF i++if(fun a:An=>decide (a.kd=1)&&decide (a.rt≠o a.id)) x=true then [(fun a:An=>[4,o a.id,a.id,a.rt]) x]else [])∧(∀i,(PF i).length≤(l).length)∧PF (l).length=((l).filter (fun a:An=>decide (a.kd=1)&&decide (a.rt≠o a.id))).map (fun a:An=>[4,o a.id,a.id,a.rt]):=
  ⟨fun i=>(((l).take i).filter (fun a:An=>decide (a.kd=1)&&decide (a.rt≠o a.id))).map (fun a:An=>[4,o a.id,a.id,a.rt]),by simp,fun i x h=>rX h,fun i=>aY (nV _ _ _) (by rw[bF];omega),by simp only[bP]⟩
 refine bY.of [3000047,3000072] (kb 0x4001e00203c0041e0081e00021e41e01e40044b576bcf) (ι:={i:Nat // i≤(l).length})
  (fun z=>[(.s 1,It.v (.d (ints ids))),(.s 2,It.v (.d (.sl (ans l)))),(.o 3,It.box [TV.d (.int .i64 p.gU),TV.d (.int .i64 p.len),TV.d (.sl (lX p.es))]),(.s 3,It.v (.ptr (.o 3) 0)),(.s 6,It.v (.c (.slice none 0 0))),(.s 7,It.v (.d (.int .i64 0))),(.o 47,It.jA (im M) 0 none none),(.s 9,It.v (.mref 47)),(.o 72,It.jA ES 0 none none),(.s 14,It.v (.mref 72)),(.s 17,It.v (.d (ints G))),(.s 18,It.v (.bK 18 ((A++(B++C)).length+(PF z.1).length))),(.o 18,It.row 113 4 (dd (lC (A++(B++C)))++dd (lC (PF z.1))) false),(.s 161,It.v (.d (.sl (ans l)))),(.s 162,It.v (.d (.int .i64 (l).length))),(.s 163,It.v (.d (.int .i64 z.1)))])
  (fun z=>(l).length-z.1) ⟨0,by omega⟩ ?_ ?_
 ·exact GS.to (by simp[ints,ans,uS,lC,hP0,aX,lD])
 rintro⟨i,i1⟩;have hpl:=hPl i;by_cases hi:i<(l).length
 ·have hiz:(i:Int)<(l).length:=by omega
  have hx:(l)[i]? = some (l)[i]:=ah hi;have hm:=aB hi;have ht:=AP i _ hx;dsimp only at ht;have w1:IntKind.i64.wrap ((i:Int)+1)=(i:Int)+1:=wrap_i64 (by omega) (by omega);generalize (l)[i]=x at hx hm ht;generalize PF i=S at hpl ht⊢;have hx':=yX hx;by_cases c1:x.kd=1
  ·by_cases c2:x.rt=o x.id
   ·simp only[c1,c2,decide_true,ne_eq,not_true_eq_false,decide_false,pK,bI,if_false,aZ]at ht;rcases hM x.id with⟨hq,h0⟩|hq
    ·rw[h0]at c2
     simp -dsimp[hiz,hx',BJ,eq_true c1,eq_true c2,jG,hq,w1];and_intros;all_goals try first|rfl|omega|exact⟨by kernel_rfl⟩|exact iY _
     exact⟨⟨i+1,by omega⟩,GS.to (by simp[ht,ints,ans,lC,aX,lD]),by simp;omega⟩
    ·simp -dsimp[hiz,hx',BJ,eq_true c1,eq_true c2,jG,hq,w1];and_intros;all_goals try first|rfl|omega|exact⟨by kernel_rfl⟩|exact iY _
     exact⟨⟨i+1,by omega⟩,GS.to (by simp[ht,ints,ans,lC,aX,lD]),by simp;omega⟩
   ·simp only[c1,c2,decide_true,ne_eq,not_false_eq_true,l7,if_true]at ht;rcases hM x.id with⟨hq,h0⟩|hq
    ·rw[h0]at c2 ht
     simp -dsimp[hiz,hx',BJ,eq_true c1,eq_false c2,jG,hq,w1,ng];and_intros;all_goals try first|rfl|omega|exact⟨by kernel_rfl⟩|exact iY _
     exact⟨⟨i+1,by omega⟩,GS.to (by simp[ht,ints,ans,lC,aX,lD,c1]),by simp;omega⟩
    ·simp -dsimp[hiz,hx',BJ,eq_true c1,eq_false c2,jG,hq,w1,ng];and_intros;all_goals try first|rfl|omega|exact⟨by kernel_rfl⟩|exact iY _
     exact⟨⟨i+1,by omega⟩,GS.to (by simp[ht,ints,ans,lC,aX,lD,c1]),by simp;omega⟩
  ·simp only[c1,decide_false,lF,bI,if_false,aZ]at ht;simp -dsimp[hiz,hx',BJ,eq_false c1,w1];and_intros;all_goals try first|rfl|omega|exact⟨by kernel_rfl⟩|exact iY _
   exact⟨⟨i+1,by omega⟩,GS.to (by simp[ht,ints,ans,lC,aX,lD]),by simp;omega⟩
 have hiz :¬(i:Int)<(l).length:=by omega
 obtain rfl:i=(l).length:=by omega
 obtain⟨E,hE⟩:∃E,E=PF (l).length:=⟨_,rfl⟩
 rw[←hE];rw[AO]at hE
 rw[←hE]at hw
 have hE1:(E).length≤(l).length:=by rw[hE];exact nV _ _ _
 clear hpl hP0 AP hPl AO hE;simp -dsimp[hiz,ints,ans];and_intros;all_goals try first|rfl|omega|exact⟨by kernel_rfl⟩
 refine Fin.view 6 ?_;simp -dsimp[ng];refine Fin.of ?_;simp[hw,lC]
def zW(l:List Tb)(r en id:Int):An:=⟨JR (jM l id (en%8) 63 r),(jM l id (en%8) 63 r).2.1,id,ltE (jM l id (en%8) 63 r)⟩
theorem zI{l:List Tb}{id pl:Int}:∀(t:Nat) {r:Int},r≠0→(jM l id pl t r).1=true→∃ws,Dl l id pl r ws
 | 0,r,h0,h=>by
   unfold jM at h;cases hf:iq l r with
   | none=>simp_all
   | some b=>
     rw[hf]at h
     simp only at h;split at h
     ·trivial
     split at h
     ·rename_i h1 h2;exact⟨[],.here hf h2 h0⟩
     trivial
 | t+1,r,h0,h=>by
   unfold jM at h;cases hf:iq l r with
   | none=>simp_all
   | some b=>
     rw[hf]at h
     simp only at h;split at h
     ·trivial
     rename_i h1;split at h
     ·rename_i h2;exact⟨[],.here hf h2 h0⟩
     ·rename_i h2;obtain⟨ws,hw⟩:=zI t h1 h;exact⟨_,.next hf rfl h1 h2 hw⟩
theorem Ec{g:bV}(hg:jE g=0)(hA:yu g){p:Pn}(hp:iT p=true){e:Ed}(he:e∈p.es){r:Int}(hr:fM g.rs r=true)(pl:Int):
  ((jM (tabs g p g.rs) e.id pl 63 r).1=true↔conn g r e.r=true)∧((jM (tabs g p g.rs) e.id pl 63 r).1=true→(jM (tabs g p g.rs) e.id pl 63 r).2.1=e.r):=by
 have hO:=gY hg;have h0:r≠0:=by have:=hO.id hr;grind[Df]
 have hd:(∃ws,Dl (tabs g p g.rs) e.id pl r ws)↔conn g r e.r=true:=by
  rw[aa9 hg hp he,Ri hg];constructor
  ·grind[vM]
  ·rintro⟨h1,h2,h3⟩;exact⟨hA.cap hO h2,hA.cap hO h1,h3⟩
 have hE:∀ws,Dl (tabs g p g.rs) e.id pl r ws→jM (tabs g p g.rs) e.id pl 63 r=(true,e.r,63-ws.length):=fun ws hw=>by
  have h1:=hw.len;have h2:=CZ g p;have h3:=hO.nr;obtain⟨e',b1,b2,b3,_⟩:=GR hg hp hw;rw[xw hp b1 he b2]at b3
  rw[XK hw 63,if_pos (by omega),b3]
 grind[zI]
end Go.Proofs
