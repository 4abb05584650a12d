/-
  What functions of the program compute, stated as contracts over plain data; the conditions of each stand in its own statement.
-/
import Derived.Orders
import Derived.Below
import Derived.Tactics
import Derived.MapKept
set_option linter.unusedVariables false
set_option linter.unusedSimpArgs false
namespace Go.Tr
open Go
inductive D where
 | int (k:IntKind) (n:Int)
 | bool (b:Bool)
 | str (s:ByteArray)
 | sl (xs:List (List D))
 | mp (ks:List (List Int)) (vs:List D)
 | mq (ks:List (List Int)) (vs:List (List D))
def deb:List Int:=[0,1,56,2,57,49,28,3,61,58,42,50,38,29,17,4,62,47,59,36,45,43,51,22,53,39,33,30,24,18,12,5,63,55,48,27,60,41,37,16,46,35,44,21,52,32,23,11,54,26,40,15,34,20,31,10,25,14,19,9,13,8,7,6]
def Xz:List (Nat×List D):=[(0,deb.map fun n=>.int .u8 n)]
def kb(m k:Nat):Bool:=(m/2^k)%2==1
attribute [simp] kb
end Go.Tr
namespace Go
abbrev eF:=@Array.all_eq_true_iff_forall_mem
abbrev iR:=@Array.append_empty
abbrev fD:=@Array.empty_append
abbrev eH:=@Array.getElem?_eq_getElem
abbrev aZ:=@Array.getElem?_eq_some_iff
abbrev jO:=@Array.getElem_setIfInBounds
abbrev gK:=@Array.length_toList
abbrev nK:=@Array.replicate_succ
abbrev nM:=@Array.replicate_zero
abbrev iM:=@Array.size_push
abbrev jr:=@Array.toList_inj
abbrev fE:=@BitVec.eq_of_getLsbD_eq
abbrev dG:=@BitVec.getLsbD_and
abbrev jw:=@BitVec.getLsbD_not
abbrev kX:=@BitVec.getLsbD_or
abbrev gQ:=@BitVec.getLsbD_zero
abbrev oC:=@Bool.and_comm
abbrev aG:=@Bool.and_eq_true
abbrev pq:=@Bool.eq_false_iff
abbrev aA:=@Bool.eq_false_or_eq_true
abbrev iE:=@Bool.eq_iff_iff
abbrev eu:=@Bool.false_eq_true
abbrev nV:=@Bool.not_eq_true
abbrev fB:=@Bool.not_eq_true'
abbrev kY:=@Bool.or_eq_false_iff
abbrev bJ:=@Bool.or_eq_true
abbrev jq:=@Bool.true_and
abbrev jy:=@Int.emod_lt_of_pos
abbrev oK:=@Int.emod_nonneg
abbrev fM:=@Int.le_refl
abbrev iK:=@Int.le_trans
abbrev nG:=@Int.tmod_eq_emod_of_nonneg
abbrev iL:=@Int.toNat_natCast
abbrev bM:=@List.all_eq_true
abbrev iq:=@List.any_eq_false
abbrev iG:=@List.any_eq_true
abbrev dP:=@List.append_assoc
abbrev bQ:=@List.append_nil
abbrev nY:=@List.append_toArray
abbrev dR:=@List.cons.injEq
abbrev bg:=@List.cons_append
abbrev cZ:=@List.drop_eq_getElem_cons
abbrev g_:=@List.drop_eq_nil_of_le
abbrev cO:=@List.eq_nil_of_length_eq_zero
abbrev lQ:=@List.ext_getElem
abbrev iw:=@List.ext_getElem?
abbrev fP:=@List.filter_append
abbrev iy:=@List.filter_congr
abbrev dI:=@List.filter_cons
abbrev fJ:=@List.filter_eq_nil_iff
abbrev jP:=@List.filter_eq_self
abbrev mF:=@List.filter_filter
abbrev lI:=@List.filter_sublist
abbrev fQ:=@List.find?_cons
abbrev jV:=@List.find?_eq_none
abbrev mX:=@List.find?_some
abbrev kG:=@List.findIdx?_eq_none_iff
abbrev iV:=@List.findIdx?_eq_some_iff_getElem
abbrev jf:=@List.flatMap_cons
abbrev dZ:=@List.foldl_append
abbrev bV:=@List.foldl_cons
abbrev aK:=@List.getD_eq_getElem?_getD
abbrev bW:=@List.getElem?_append_left
abbrev b_:=@List.getElem?_append_right
abbrev mG:=@List.getElem?_drop
abbrev aj:=@List.getElem?_eq_getElem
abbrev dX:=@List.getElem?_eq_none
abbrev aB:=@List.getElem?_eq_some_iff
abbrev bn:=@List.getElem?_map
abbrev nN:=@List.getElem?_modify
abbrev bU:=@List.getElem?_of_mem
abbrev lJ:=@List.getElem?_range
abbrev gZ:=@List.getElem?_take
abbrev jv:=@List.getElem_map
abbrev aJ:=@List.getElem_mem
abbrev lK:=@List.getElem_of_mem
abbrev oO:=@List.getLastD_cons
abbrev nU:=@List.getLastD_eq_getLast?
abbrev aU:=@List.length_append
abbrev aH:=@List.length_cons
abbrev dS:=@List.length_eq_zero_iff
abbrev ig:=@List.length_erase_of_mem
abbrev dY:=@List.length_filter_le
abbrev aV:=@List.length_map
abbrev iO:=@List.length_mergeSort
abbrev dh:=@List.length_nil
abbrev nZ:=@List.length_pos_iff
abbrev fZ:=@List.length_pos_of_mem
abbrev pz:=@List.length_range
abbrev gG:=@List.length_take
abbrev gu:=@List.map_append
abbrev gU:=@List.map_congr_left
abbrev aC:=@List.map_cons
abbrev aY:=@List.map_map
abbrev dQ:=@List.map_nil
abbrev fA:=@List.map_toArray
abbrev aN:=@List.mem_append
abbrev kZ:=@List.mem_append_left
abbrev jZ:=@List.mem_append_right
abbrev aF:=@List.mem_cons
abbrev gY:=@List.mem_cons_of_mem
abbrev nO:=@List.mem_erase_of_ne
abbrev bK:=@List.mem_filter
abbrev gJ:=@List.mem_flatMap
abbrev dW:=@List.mem_iff_getElem
abbrev ak:=@List.mem_map
abbrev eX:=@List.mem_map_of_mem
abbrev fG:=@List.mem_of_find?_eq_some
abbrev bF:=@List.mem_of_getElem?
abbrev iW:=@List.mem_of_mem_take
abbrev bI:=@List.mem_range
abbrev dH:=@List.mem_singleton
abbrev fU:=@List.mergeSort_perm
abbrev dJ:=@List.nil_append
abbrev fV:=@List.nodup_append
abbrev bG:=@List.nodup_cons
abbrev gV:=@List.nodup_iff_pairwise_ne
abbrev jC:=@List.pairwise_append
abbrev dM:=@List.pairwise_cons
abbrev bC:=@List.pairwise_iff_getElem
abbrev d_:=@List.pairwise_map
abbrev jH:=@List.pairwise_mergeSort
abbrev lg:=@List.perm_cons_erase
abbrev pF:=@List.push_toArray
abbrev lS:=@List.range'_succ
abbrev jD:=@List.range_eq_range'
abbrev jI:=@List.range_succ
abbrev jE:=@List.reverse_reverse
abbrev ni:=@List.set_append_right
abbrev jg:=@List.size_toArray
abbrev iY:=@List.sum_cons
abbrev aT:=@List.take_add_one
abbrev lT:=@List.take_length
abbrev aS:=@List.take_of_length_le
abbrev lM:=@List.take_succ_cons
abbrev mJ:=@List.zip_cons_cons
abbrev iZ:=@Nat.add_assoc
abbrev fF:=@Nat.add_mul
abbrev mM:=@Nat.add_sub_cancel
abbrev jA:=@Nat.eq_zero_or_pos
abbrev au:=@Nat.le_refl
abbrev dw:=@Nat.le_trans
abbrev dA:=@Nat.lt_of_lt_of_le
abbrev lq:=@Nat.lt_trichotomy
abbrev lN:=@Nat.mul_le_mul
abbrev dN:=@Nat.mul_le_mul_right
abbrev nP:=@Nat.pow_le_pow_right
abbrev lW:=@Nat.sub_zero
abbrev pG:=@Nat.testBit_or
abbrev bT:=@Nat.zero_add
abbrev jk:=@Nat.zero_le
abbrev bY:=@Option.bind_some
abbrev lU:=@Option.getD_none
abbrev bZ:=@Option.getD_some
abbrev gq:=@Option.isSome_iff_exists
abbrev dO:=@Option.map_eq_some_iff
abbrev mY:=@Option.map_none
abbrev bH:=@Option.map_some
abbrev ah:=@Option.some.injEq
abbrev iF:=@Option.toList_some
abbrev aO:=@Prod.mk.injEq
end Go

namespace Go.Proofs
structure Ar where
 f:Int
 t:Int
 c:Int
abbrev CM:=Int→Option Int
abbrev SM:=Int→Option (Int×Int)
def uO:Int:=2305843009213693951
def lC(m:CM)(r:Int):Int:=(m r).getD uO
def yM{α:Type}(m:Int→Option α)(r:Int)(v:α):Int→Option α:=fun x=>if x=r then some v else m x
def yL(z:CM×SM)(r c:Int)(x:Int×Int):CM×SM:=if lC z.1 r≤c then z else(yM z.1 r c,yM z.2 r x)
def Gy(z:CM×SM)(a:Ar):CM×SM:=yL z a.f (a.c+lC z.1 a.t) (a.t,0)
def zI:List Ar→CM×SM→Bool
 | [],_=>false
 | a::l,z=>decide (a.c+lC z.1 a.t<lC z.1 a.f)||zI l (Gy z a)
def tu(l:List Ar)(z:CM×SM):CM×SM:=l.foldl Gy z
def VB(l:List Ar):Nat→CM×SM→CM×SM
 | 0,z=>z
 | n+1,z=>if zI l z then VB l n (tu l z)else tu l z
def xK(m:CM):Prop:=∀r c,m r=some c→0≤c∧c<uO
theorem vN{m:CM}(h:xK m)(r:Int):0≤lC m r∧lC m r≤uO:=by
 unfold lC;cases e:m r with
 | none=>simp[uO]
 | some c=>have:=h r c e;simp;omega
theorem EC{z:CM×SM}(h:xK z.1){r c:Int}(hc:0≤c)(x:Int×Int):xK (yL z r c x).1:=by
 unfold yL;split
 ·exact h
 ·intro q v e;have:=vN h r;simp only[yM]at e;split at e
  ·simp at e;omega
  ·exact h q v e
theorem acT{z:CM×SM}(h:xK z.1)(r c:Int)(x:Int×Int)(q:Int):lC (yL z r c x).1 q≤lC z.1 q:=by
 unfold yL;split
 ·omega
 ·simp only[lC,yM];split
  ·subst q;simp;unfold lC at *;omega
  ·omega
theorem acS{z:CM×SM}(r c:Int)(x:Int×Int):lC (yL z r c x).1 r≤c:=by
 unfold yL;split
 ·assumption
 ·simp[lC,yM]
def zl(l:List Ar)(m:CM):Nat:=(l.map fun a=>(lC m a.f).toNat).sum
theorem ahz{m m':CM}(h:∀q,lC m' q≤lC m q):∀l:List Ar,zl l m'≤zl l m
 | []=>by simp[zl]
 | a::l=>by have:=h a.f;have ih:=ahz h l;simp only[zl,aC,iY]at *;omega
theorem Vx{m m':CM}(h:∀q,lC m' q≤lC m q)(h0:∀q,0≤lC m' q){b:Ar}(hb:lC m' b.f<lC m b.f):∀l:List Ar,b∈l→zl l m'<zl l m
 | [],hm=>by simp at hm
 | a::l,hm=>by
   have:=h a.f;have ih:=ahz h l;have:=h0 a.f;have:=h0 b.f;rcases aF.1 hm with rfl|hm
   ·simp only[zl,aC,iY]at *;omega
   ·have:=Vx h h0 hb l hm;simp only[zl,aC,iY]at *;omega
theorem LX{z:CM×SM}(h:xK z.1){a:Ar}(ha:0≤a.c):xK (Gy z a).1:=EC h (by have:=vN h a.t;omega) _
theorem abq{z:CM×SM}(h:xK z.1)(a:Ar)(q:Int):lC (Gy z a).1 q≤lC z.1 q:=acT h _ _ _ q
theorem tX:∀{l:List Ar},(∀a∈l,0≤a.c)→∀{z:CM×SM},xK z.1→xK (tu l z).1
 | [],_,_,h=>h
 | a::l,hl,z,h=>tX (l:=l) (fun b hb=>hl b (by simp[hb])) (LX h (hl a (by simp)))
theorem zZ:∀{l:List Ar},(∀a∈l,0≤a.c)→∀{z:CM×SM},xK z.1→∀q,lC (tu l z).1 q≤lC z.1 q
 | [],_,_,_,_=>fM _
 | a::l,hl,z,h,q=>iK (zZ (l:=l) (fun b hb=>hl b (by simp[hb])) (LX h (hl a (by simp))) q) (abq h a q)
theorem GR:∀{l:List Ar},(∀a∈l,0≤a.c)→∀{z:CM×SM},xK z.1→zI l z=true→∃b∈l,lC (tu l z).1 b.f<lC z.1 b.f
 | [],_,_,_,h=>by simp[zI]at h
 | a::l,hl,z,h,hc=>by
   have hl':∀b∈l,0≤b.c:=fun b hb=>hl b (by simp[hb])
   have hb:=LX h (hl a (by simp));rw[zI,bJ,decide_eq_true_eq]at hc
   rcases hc with hc|hc
   ·refine⟨a,by simp,?_⟩;have h1:=zZ hl' hb a.f;have h2:=acS (z:=z) a.f (a.c+lC z.1 a.t) (a.t,0);unfold Gy at h1
    show lC (tu l (Gy z a)).1 a.f<_
    unfold Gy;omega
   ·obtain⟨b,hm,hf⟩:=GR hl' hb hc;exact⟨b,by simp[hm],Int.lt_of_lt_of_le hf (abq h a b.f)⟩
theorem GU:∀{l:List Ar} {z:CM×SM},zI l z=false→tu l z=z∧∀a∈l,lC z.1 a.f≤a.c+lC z.1 a.t
 | [],_,_=>⟨rfl,by simp⟩
 | a::l,z,h=>by
   rw[zI,kY,decide_eq_false_iff_not]at h
   have e:Gy z a=z:=by unfold Gy yL;rw[if_pos (by omega)]
   obtain⟨h1,h2⟩:=GU (l:=l) (z:=z) (by rw[←e];exact h.2);refine⟨by show tu l (Gy z a)=z;rw[e,h1],fun b hb=>?_⟩;rcases aF.1 hb with rfl|hb
   ·omega
   ·exact h2 b hb
def relE(l:List Ar)(z:CM×SM):CM×SM:=VB l (zl l z.1+1) z
theorem Ld{l:List Ar}(hl:∀a∈l,0≤a.c):∀(n m:Nat) {z:CM×SM},xK z.1→zl l z.1<n→zl l z.1<m→VB l n z=VB l m z
 | 0,_,_,_,h,_=>by omega
 | _,0,_,_,_,h=>by omega
 | n+1,m+1,z,hb,h1,h2=>by
   rw[VB,VB];split
   ·rename_i hc;obtain⟨b,hm,hf⟩:=GR hl hb hc;have:=Vx (fun q=>zZ hl hb q) (fun q=>(vN (tX hl hb) q).1) hf l hm;exact Ld hl n m (tX hl hb) (by omega) (by omega)
   ·rfl
theorem Es{l:List Ar}(hl:∀a∈l,0≤a.c){z:CM×SM}(hb:xK z.1):relE l z=if zI l z then relE l (tu l z)else z:=by
 rw[relE,VB];split
 ·rename_i hc;obtain⟨b,hm,hf⟩:=GR hl hb hc;have:=Vx (fun q=>zZ hl hb q) (fun q=>(vN (tX hl hb) q).1) hf l hm;exact Ld hl _ _ (tX hl hb) (by omega) (by omega)
 ·rename_i hc;exact(GU (by simpa using hc)).1
theorem GV{l:List Ar}(hl:∀a∈l,0≤a.c){z:CM×SM}(hb:xK z.1)(hc:zI l z=true):zl l (tu l z).1<zl l z.1:=by obtain⟨b,hm,hf⟩:=GR hl hb hc;exact Vx (fun q=>zZ hl hb q) (fun q=>(vN (tX hl hb) q).1) hf l hm
theorem Ep{l:List Ar}(hl:∀a∈l,0≤a.c):∀(n:Nat) {z:CM×SM},xK z.1→zl l z.1≤n→xK (relE l z).1∧(∀q,lC (relE l z).1 q≤lC z.1 q)∧∀a∈l,lC (relE l z).1 a.f≤a.c+lC (relE l z).1 a.t:=by
 intro n
 induction n with
 | zero=>
   intro z hb hn;rw[Es hl hb];split
   ·rename_i hc;have:=GV hl hb hc;omega
   ·rename_i hc;exact⟨hb,fun _=>fM _,(GU (by simpa using hc)).2⟩
 | succ n ih=>
   intro z hb hn;rw[Es hl hb];split
   ·rename_i hc;obtain⟨h1,h2,h3⟩:=ih (tX hl hb) (by have:=GV hl hb hc;omega);exact⟨h1,fun q=>iK (h2 q) (zZ hl hb q),h3⟩
   ·rename_i hc;exact⟨hb,fun _=>fM _,(GU (by simpa using hc)).2⟩
def lV(p q:CM)(part:Nat)(z:CM×SM):CM×SM:=
 (fun r=>match p r with
  | none=>z.1 r
  | some c=>if lC z.1 r≤c+lC q r then z.1 r else some (c+lC q r),
  fun r=>match p r with
   | none=>z.2 r
   | some c=>if lC z.1 r≤c+lC q r then z.2 r else some (0,part))
theorem Dh{p q:CM}{z:CM×SM}(hp:xK p)(hq:xK q)(hz:xK z.1)(part:Nat):xK (lV p q part z).1:=by
 intro r v e;have h1:=vN hz r;have h2:=vN hq r;simp only[lV]at e;split at e
 ·exact hz r v e
 ·rename_i c hc;have:=hp r c hc;split at e
  ·exact hz r v e
  ·simp at e;omega
theorem Vw{p q:CM}{z:CM×SM}(part:Nat)(r:Int):lC (lV p q part z).1 r=match p r with
  | none=>lC z.1 r
  | some c=>if lC z.1 r≤c+lC q r then lC z.1 r else c+lC q r:=by
 cases hc:p r with
 | none=>simp[lV,hc,lC]
 | some c=>
   have e:(lV p q part z).1 r=if lC z.1 r≤c+lC q r then z.1 r else some (c+lC q r):=by simp[lV,hc]
   by_cases h:lC z.1 r≤c+lC q r
   ·rw[if_pos h]at e;simp only[if_pos h];unfold lC;rw[e]
   ·rw[if_neg h]at e;simp only[if_neg h];unfold lC at *;rw[e];rfl
theorem PE{p q:CM}{z:CM×SM}(part:Nat)(r:Int):lC (lV p q part z).1 r≤lC z.1 r:=by
 rw[Vw];split
 ·omega
 ·split
  ·omega
  ·rename_i h;exact Int.le_of_lt (Int.not_le.1 h)
theorem ahl{p q:CM}{z:CM×SM}(hp:xK p)(hq:xK q)(hz:xK z.1)(part:Nat)(r:Int):lC (lV p q part z).1 r≤lC p r+lC q r:=by
 have h1:=vN hz r;have h2:=vN hq r;rw[Vw];split
 ·rename_i hc;have:lC p r=uO:=by simp[lC,hc]
  omega
 ·rename_i c hc;have:lC p r=c:=by simp[lC,hc]
  rw[this];split
  ·assumption
  ·exact fM _
def xJ(S:Nat):Nat→List Nat
 | 0=>[]
 | n+1=>if(n+1)&&&S=n+1 then(n+1)::xJ S n else xJ S n
theorem aeY:∀S<64,∀p≤S,p&&&S=p→0<p→xJ S (p-1)=if(p-1)&&&S=0 then []else((p-1)&&&S)::xJ S (((p-1)&&&S)-1):=by decide+kernel
theorem O6{S p:Nat}:∀{n:Nat},p∈xJ S n↔0<p∧p≤n∧p&&&S=p
 | 0=>by simp[xJ];omega
 | n+1=>by
   rw[xJ];have ih:=O6 (S:=S) (p:=p) (n:=n);split
   ·rw[aF,ih];constructor
    ·rintro (rfl|⟨h1,h2,h3⟩)
     ·exact⟨by omega,au _,by assumption⟩
     ·exact⟨h1,by omega,h3⟩
    ·rintro⟨h1,h2,h3⟩;by_cases e:p=n+1
     ·exact .inl e
     ·exact .inr ⟨h1,by omega,h3⟩
   ·rw[ih];constructor
    ·rintro⟨h1,h2,h3⟩;exact⟨h1,by omega,h3⟩
    ·rintro⟨h1,h2,h3⟩;refine⟨h1,?_,h3⟩;by_cases e:p=n+1
     ·subst e;contradiction
     ·omega
def uH(S:Nat):List Int→Nat→CM×SM→CM×SM
 | [],_,z=>z
 | t::l,i,z=>uH S l (i+1) (if S=2^i then yL z t 0 (0,0)else z)
def iP:CM×SM:=(fun _=>none,fun _=>none)
def VU(l:List Ar)(ts:List Int)(T:List (CM×SM))(S:Nat):CM×SM:=
 relE l ((xJ S (S-1)).foldl (fun z p=>lV (T.getD p iP).1 (T.getD (S-p) iP).1 p z) (if S&&&(S-1)=0∧0<S then uH S ts 0 iP else iP))
def kE(l:List Ar)(ts:List Int):Nat→List (CM×SM)
 | 0=>[]
 | n+1=>kE l ts n++[VU l ts (kE l ts n) n]
theorem Nk(l:List Ar)(ts:List Int):∀n,(kE l ts n).length=n
 | 0=>rfl
 | n+1=>by simp[kE,Nk l ts n]
theorem oN(l:List Ar)(ts:List Int):∀{n i:Nat},i<n→(kE l ts n).getD i iP=VU l ts (kE l ts i) i
 | 0,_,h=>by omega
 | n+1,i,h=>by
   have hl:=Nk l ts n;by_cases e:i=n
   ·subst e;simp[kE,hl,b_]
   ·have ih:=oN l ts (n:=n) (i:=i) (by omega);rw[aK]at ih⊢
    rw[kE,bW (by omega),ih]
theorem IZ(S:Nat):∀(ts:List Int) (i:Nat) {z:CM×SM},xK z.1→xK (uH S ts i z).1
 | [],_,_,h=>h
 | t::ts,i,z,h=>by
   rw[uH];refine IZ S ts (i+1) ?_;split
   ·exact EC h (fM _) _
   ·exact h
theorem VQ(S:Nat):∀(ts:List Int) (i:Nat) {z:CM×SM},xK z.1→∀q,lC (uH S ts i z).1 q≤lC z.1 q
 | [],_,_,_,_=>fM _
 | t::ts,i,z,h,q=>by
   rw[uH];split
   ·exact iK (VQ S ts (i+1) (EC h (fM _) _) q) (acT h _ _ _ q)
   ·exact VQ S ts (i+1) h q
theorem acK:∀(ts:List Int) (i j:Nat) {z:CM×SM},xK z.1→∀{t:Int},ts[j]? = some t→lC (uH (2^(i+j)) ts i z).1 t≤0
 | [],_,_,_,_,_,h=>by simp at h
 | x::ts,i,0,z,hb,t,h=>by simp only[List.getElem?_cons_zero,ah]at h;subst h;rw[uH,if_pos (by simp)];exact iK (VQ _ ts (i+1) (EC hb (fM _) _) _) (acS _ _ _)
 | x::ts,i,j+1,z,hb,t,h=>by
   rw[uH,show i+(j+1)=i+1+j by omega];refine acK ts (i+1) j ?_ (by simpa using h);split
   ·exact EC hb (fM _) _
   ·exact hb
theorem xu:xK iP.1:=fun _ _ h=>by simp[iP]at h
theorem abH{f:CM×SM→Nat→CM×SM}(hf:∀z p,xK z.1→xK (f z p).1):∀(ps:List Nat) {z:CM×SM},xK z.1→xK (ps.foldl f z).1
 | [],_,h=>h
 | p::ps,_,h=>abH hf ps (hf _ p h)
theorem Oq{f:CM×SM→Nat→CM×SM}(hf:∀z p q,lC (f z p).1 q≤lC z.1 q):∀(ps:List Nat) (z:CM×SM) (q:Int),lC (ps.foldl f z).1 q≤lC z.1 q
 | [],_,_=>fM _
 | p::ps,z,q=>iK (Oq hf ps (f z p) q) (hf z p q)
def BdT(T:List (CM×SM)):Prop:=∀i,xK (T.getD i iP).1
theorem I4{l:List Ar}(hl:∀a∈l,0≤a.c)(ts:List Int){T:List (CM×SM)}(hT:BdT T)(S:Nat):
  xK ((xJ S (S-1)).foldl (fun z p=>lV (T.getD p iP).1 (T.getD (S-p) iP).1 p z) (if S&&&(S-1)=0∧0<S then uH S ts 0 iP else iP)).1:=by
 refine abH (fun z p h=>Dh (hT p) (hT (S-p)) h p) _ ?_;split
 ·exact IZ S ts 0 xu
 ·exact xu
theorem vY{l:List Ar}(hl:∀a∈l,0≤a.c)(ts:List Int):∀n,BdT (kE l ts n)
 | 0,i=>by simpa[kE]using xu
 | n+1,i=>by
   by_cases h:i<n+1
   ·rw[oN l ts h];exact(Ep hl _ (I4 hl ts (vY hl ts i) i) (au _)).1
   ·have:=Nk l ts (n+1);rw[aK,dX (by omega)];exact xu
termination_by n=>n
def zy(l:List Ar)(ts:List Int)(S:Nat)(v:Int):Int:=lC (VU l ts (kE l ts S) S).1 v
theorem ale{l:List Ar}(hl:∀a∈l,0≤a.c)(ts:List Int)(S:Nat){a:Ar}(ha:a∈l):zy l ts S a.f≤a.c+zy l ts S a.t:=
 (Ep hl _ (I4 hl ts (vY hl ts S) S) (au _)).2.2 a ha
theorem alf{l:List Ar}(hl:∀a∈l,0≤a.c){ts:List Int}{i:Nat}{t:Int}(ht:ts[i]? = some t):zy l ts (2^i) t≤0:=by have h1:=(Ep hl _ (I4 hl ts (vY hl ts (2^i)) (2^i)) (au _)).2.1 t;refine iK h1 ?_;refine iK (Oq (fun z p q=>PE p q) _ _ t) ?_;have hp:0<2^i:=Nat.two_pow_pos i;rw[if_pos ⟨by rw[Nat.and_two_pow_sub_one_eq_mod];exact Nat.mod_self _,hp⟩];have:=acK ts 0 i xu ht;simpa using this
theorem SC{T:List (CM×SM)}(hT:BdT T)(S:Nat){p:Nat}(v:Int):∀(ps:List Nat) {z:CM×SM},xK z.1→p∈ps→
  lC (ps.foldl (fun z p=>lV (T.getD p iP).1 (T.getD (S-p) iP).1 p z) z).1 v≤lC (T.getD p iP).1 v+lC (T.getD (S-p) iP).1 v
 | [],_,_,h=>by simp at h
 | q::ps,z,hz,h=>by
   have hb:=Dh (hT q) (hT (S-q)) hz q;rcases aF.1 h with rfl|h
   ·exact iK (Oq (fun z p q=>PE p q) ps _ v) (ahl (hT p) (hT (S-p)) hz p v)
   ·exact SC hT S v ps hb h
theorem aiY{l:List Ar}(hl:∀a∈l,0≤a.c)(ts:List Int){S p:Nat}(hp:0<p)(hS:p<S)(hs:p&&&S=p)(v:Int):zy l ts S v≤zy l ts p v+zy l ts (S-p) v:=by
 have h1:=(Ep hl _ (I4 hl ts (vY hl ts S) S) (au _)).2.1 v;refine iK h1 ?_;have h2:=SC (vY hl ts S) S v (xJ S (S-1)) (z:=if S&&&(S-1)=0∧0<S then uH S ts 0 iP else iP) (by
  split
  ·exact IZ S ts 0 xu
  ·exact xu) (O6.2 ⟨hp,by omega,hs⟩)
 rw[oN l ts hS,oN l ts (by omega)]at h2
 exact h2
theorem afL{l:List Ar}(hl:∀a∈l,0≤a.c)(ts:List Int){p q:Nat}(hp:0<p)(hq:0<q)(hs:p&&&(p+q)=p)(v:Int):zy l ts (p+q) v≤zy l ts p v+zy l ts q v:=by
 have:=aiY hl ts hp (S:=p+q) (by omega) hs v
 rwa [show p+q-p=q by omega]at this
theorem aaC:((List.range 64).all fun S=>(List.range 64).all fun p=>!decide (p&&&S=p)||(List.range 6).all fun i=>!S.testBit i||(p.testBit i||(S-p).testBit i))=true:=by decide+kernel
theorem aep(S:Nat)(hS:S<64)(p:Nat)(hp:p<64)(h:p&&&S=p)(i:Nat)(hi:i<6)(hb:S.testBit i=true):p.testBit i=true∨(S-p).testBit i=true:=by
 have h1:=bM.1 (bM.1 aaC S (bI.2 hS)) p (bI.2 hp);rw[bJ]at h1
 have h2:=bM.1 (h1.resolve_left (by simp[h])) i (bI.2 hi);simpa[hb]using h2
inductive RaC (l:List Ar):Int→Int→Prop
 | nil {v:Int}:RaC l v v
 | cons {a:Ar} {t:Int}:a∈l→RaC l a.t t→RaC l a.f t
def Ws(l:List Ar)(ts:List Int)(T:List (CM×SM))(S:Nat)(z:CM×SM)(v c:Int):Prop:=
 ∃u p,z.2 v=some (u,p)∧((u≠0∧∃c',z.1 u=some c'∧c'<c∧∃a∈l,a.f=v∧a.t=u)∨
  (u=0∧p≠0∧∃q:Nat,p=q∧q<S∧q&&&S=q∧(∃c1,(T.getD q iP).1 v=some c1)∧∃c2,(T.getD (S-q) iP).1 v=some c2)∨
  (u=0∧p=0∧∃i,S=2^i∧ts[i]? = some v))
def DF(l:List Ar)(ts:List Int)(T:List (CM×SM))(S:Nat)(z:CM×SM):Prop:=∀v c,z.1 v=some c→Ws l ts T S z v c
theorem DF.put{l:List Ar}{ts:List Int}{T:List (CM×SM)}{S:Nat}{z:CM×SM}(h:DF l ts T S z){r c:Int}{x:Int×Int}(hc:c<lC z.1 r)
  (hx:Ws l ts T S (yM z.1 r c,yM z.2 r x) r c):DF l ts T S (yM z.1 r c,yM z.2 r x):=by
 intro v cv e;by_cases hv:v=r
 ·subst hv;simp only[yM,if_true,ah]at e;subst e;exact hx
 ·simp only[yM,if_neg hv]at e;obtain⟨u,p,h1,h2⟩:=h v cv e;refine⟨u,p,by simp[yM,hv,h1],?_⟩;rcases h2 with⟨hu,c',h3,h4,h5⟩|h2|h2
  ·by_cases hr:u=r
   ·subst hr;exact .inl ⟨hu,c,by simp[yM],by simp only[lC,h3,bZ]at hc;omega,h5⟩
   ·exact .inl ⟨hu,c',by simp[yM,hr,h3],h4,h5⟩
  ·exact .inr (.inl h2)
  ·exact .inr (.inr h2)
theorem DF.arc{l:List Ar}(hl:∀a∈l,1≤a.c∧a.t≠0){ts:List Int}{T:List (CM×SM)}{S:Nat}{z:CM×SM}(hz:xK z.1)(h:DF l ts T S z){a:Ar}(ha:a∈l):DF l ts T S (Gy z a):=by
 unfold Gy yL;split
 ·exact h
 ·rename_i hlt;have h1:=vN hz a.f;have hl:=hl a ha;refine h.put (by omega) ?_;cases e:z.1 a.t with
  | none=>
    have:lC z.1 a.t=uO:=by simp[lC,e]
    omega
  | some c'=>
    have hc':lC z.1 a.t=c':=by simp[lC,e]
    refine⟨a.t,0,by simp[yM],.inl ⟨hl.2,?_⟩⟩;by_cases hr:a.t=a.f
    ·rw[hr]at hlt;omega
    ·exact⟨c',by simp[yM,hr,e],by omega,a,ha,rfl,rfl⟩
theorem DF.round{ls:List Ar}(hls:∀a∈ls,1≤a.c∧a.t≠0){ts:List Int}{T:List (CM×SM)}{S:Nat}:∀{l:List Ar},(∀a∈l,a∈ls)→∀{z:CM×SM},xK z.1→DF ls ts T S z→DF ls ts T S (tu l z)
 | [],_,_,_,h=>h
 | a::l,hl,z,hz,h=>by have ha:=hl a (by simp);exact DF.round hls (l:=l) (fun b hb=>hl b (by simp[hb])) (LX hz (by have:=hls a ha;omega)) (h.arc hls hz ha)
theorem DF.rel{l:List Ar}(hl:∀a∈l,1≤a.c∧a.t≠0){ts:List Int}{T:List (CM×SM)}{S:Nat}:∀(n:Nat) {z:CM×SM},xK z.1→zl l z.1≤n→DF l ts T S z→DF l ts T S (relE l z):=by
 have hl0:∀a∈l,0≤a.c:=fun a ha=>by have:=hl a ha;omega
 intro n
 induction n with
 | zero=>
   intro z hb hn h;rw[Es hl0 hb];split
   ·rename_i hc;have:=GV hl0 hb hc;omega
   ·exact h
 | succ n ih=>
   intro z hb hn h;rw[Es hl0 hb];split
   ·rename_i hc;exact ih (tX hl0 hb) (by have:=GV hl0 hb hc;omega) (h.round hl (fun _ h=>h) hb)
   ·exact h
theorem DF.part{l:List Ar}{ts:List Int}{T:List (CM×SM)}(hT:BdT T){S q:Nat}{z:CM×SM}(hz:xK z.1)(h:DF l ts T S z)(h0:0<q)(h1:q<S)(h2:q&&&S=q):DF l ts T S (lV (T.getD q iP).1 (T.getD (S-q) iP).1 q z):=by
 intro v c e;have hb:=vN hz v;have hold:z.1 v=some c→(lV (T.getD q iP).1 (T.getD (S-q) iP).1 q z).2 v=z.2 v→Ws l ts T S (lV (T.getD q iP).1 (T.getD (S-q) iP).1 q z) v c:=by
  intro e1 e2;obtain⟨u,p,g1,g2⟩:=h v c e1;refine⟨u,p,by rw[e2,g1],?_⟩;rcases g2 with⟨hu,c',g3,g4,g5⟩|g2|g2
  ·have hle:=PE (p:=(T.getD q iP).1) (q:=(T.getD (S-q) iP).1) (z:=z) q u;have hbd:=Dh (hT q) (hT (S-q)) hz q;cases e3:(lV (T.getD q iP).1 (T.getD (S-q) iP).1 q z).1 u with
   | none=>have h5:=hz u c' g3;simp only[lC,e3,g3,bZ,lU]at hle;omega
   | some c''=>simp only[lC,e3,g3,bZ]at hle;exact .inl ⟨hu,c'',rfl,by omega,g5⟩
  ·exact .inr (.inl g2)
  ·exact .inr (.inr g2)
 cases hp:(T.getD q iP).1 v with
 | none=>
   have e1:(lV (T.getD q iP).1 (T.getD (S-q) iP).1 q z).1 v=z.1 v:=by simp only[lV,hp]
   exact hold (by rw[←e1,e]) (by simp only[lV,hp])
 | some c1=>
   by_cases hle:lC z.1 v≤c1+lC (T.getD (S-q) iP).1 v
   ·have e1:(lV (T.getD q iP).1 (T.getD (S-q) iP).1 q z).1 v=z.1 v:=by simp only[lV,hp,if_pos hle]
    exact hold (by rw[←e1,e]) (by simp only[lV,hp,if_pos hle])
   ·have hq2:∃c2,(T.getD (S-q) iP).1 v=some c2:=by
     cases e2:(T.getD (S-q) iP).1 v with
     | none=>
       have h3:lC (T.getD (S-q) iP).1 v=uO:=by rw[lC,e2];rfl
       have h4:=hT q v c1 hp;omega
     | some c2=>exact⟨c2,rfl⟩
    exact⟨0,q,by simp only[lV,hp,if_neg hle],.inr (.inl ⟨rfl,by omega,q,rfl,h1,h2,⟨c1,hp⟩,hq2⟩)⟩
theorem DF.nil{l:List Ar}{ts:List Int}{T:List (CM×SM)}{S:Nat}:DF l ts T S iP:=fun v c e=>by simp[iP]at e
theorem DF.seed{l:List Ar}{ts:List Int}{T:List (CM×SM)}{S:Nat}:∀{l':List Int} {i:Nat} {z:CM×SM},(∀j t,l'[j]? = some t→ts[i+j]? = some t)→xK z.1→DF l ts T S z→DF l ts T S (uH S l' i z)
 | [],_,_,_,_,h=>h
 | t::l',i,z,hs,hz,h=>by
   rw[uH];have hs':∀j x,l'[j]? = some x→ts[i+1+j]? = some x:=fun j x hx=>by
    have:=hs (j+1) x (by simpa using hx)
    rwa [show i+(j+1)=i+1+j by omega]at this
   split
   ·rename_i e;refine DF.seed hs' (EC hz (fM _) _) ?_;unfold yL;split
    ·exact h
    ·exact h.put (by omega) ⟨0,0,by simp[yM],.inr (.inr ⟨rfl,rfl,i,e,by simpa using hs 0 t (by simp)⟩)⟩
   ·exact DF.seed hs' hz h
theorem DF.fold{l:List Ar}{ts:List Int}{T:List (CM×SM)}(hT:BdT T){S:Nat}:∀{ps:List Nat} {z:CM×SM},(∀q∈ps,0<q∧q<S∧q&&&S=q)→xK z.1→DF l ts T S z→
  DF l ts T S (ps.foldl (fun z p=>lV (T.getD p iP).1 (T.getD (S-p) iP).1 p z) z)
 | [],_,_,_,h=>h
 | q::ps,z,hp,hz,h=>by obtain⟨h0,h1,h2⟩:=hp q (by simp);exact DF.fold hT (ps:=ps) (fun x hx=>hp x (by simp[hx])) (Dh (hT q) (hT (S-q)) hz q) (h.part hT hz h0 h1 h2)
theorem aj8{l:List Ar}(hl:∀a∈l,1≤a.c∧a.t≠0){ts:List Int}{T:List (CM×SM)}(hT:BdT T)(S:Nat):DF l ts T S (VU l ts T S):=by
 have hl0:∀a∈l,0≤a.c:=fun a ha=>by have:=hl a ha;omega
 refine DF.rel hl _ (I4 hl0 ts hT S) (au _) ?_;refine DF.fold hT (fun q hq=>?_) ?_ ?_
 ·obtain⟨h1,h2,h3⟩:=O6.1 hq;exact⟨h1,by omega,h3⟩
 ·split
  ·exact IZ S ts 0 xu
  ·exact xu
 ·split
  ·exact DF.seed (fun j t h=>by simpa using h) xu DF.nil
  ·exact DF.nil
theorem ake{l:List Ar}{ts:List Int}{n S:Nat}(h:S<n){z:CM×SM}{v c:Int}(hs:Ws l ts (kE l ts S) S z v c):Ws l ts (kE l ts n) S z v c:=by
 obtain⟨u,p,h1,h2⟩:=hs;refine⟨u,p,h1,?_⟩;rcases h2 with h2|⟨a,b,q,h3,h4,h5,h6,h7⟩|h2
 ·exact .inl h2
 ·have e1:(kE l ts S).getD q iP=(kE l ts n).getD q iP:=by rw[oN l ts h4,oN l ts (by omega)]
  have hq:0<q:=by omega
  have e2:(kE l ts S).getD (S-q) iP=(kE l ts n).getD (S-q) iP:=by rw[oN l ts (by omega),oN l ts (by omega)]
  rw[e1]at h6
  rw[e2]at h7
  exact .inr (.inl ⟨a,b,q,h3,h4,h5,h6,h7⟩)
 ·exact .inr (.inr h2)
theorem V4{l:List Ar}(hl:∀a∈l,1≤a.c∧a.t≠0){ts:List Int}{n S:Nat}(h:S<n):DF l ts (kE l ts n) S ((kE l ts n).getD S iP):=by
 have hl0:∀a∈l,0≤a.c:=fun a ha=>by have:=hl a ha;omega
 intro v c e;rw[oN l ts h]at e⊢
 exact ake h (aj8 hl (vY hl0 ts S) S v c e)
theorem akh{l:List Ar}(hl:∀a∈l,1≤a.c∧a.t≠0){ts:List Int}{n:Nat}{P:Nat→Int→Prop}
  (h0:∀i v,2^i<n→ts[i]? = some v→P (2^i) v) (h1:∀S,S<n→∀a∈l,P S a.t→P S a.f) (h2:∀S q v,S<n→q≠0→q<S→q&&&S=q→P q v→P (S-q) v→P S v) :
  ∀(S:Nat),S<n→∀(v c:Int),((kE l ts n).getD S iP).1 v=some c→P S v:=by
 have hl0:∀a∈l,0≤a.c:=fun a ha=>by have:=hl a ha;omega
 intro S
 induction S using Nat.strongRecOn with
 | _ S ihS=>
   intro hS;have key:∀(m:Nat) (v c:Int),c.toNat≤m→((kE l ts n).getD S iP).1 v=some c→P S v:=by
    intro m
    induction m with
    | zero=>
      intro v c hc e;have hb:=vY hl0 ts n S v c e;obtain⟨u,p,h3,h4⟩:=V4 hl hS v c e;rcases h4 with⟨hu,c',h5,h6,a,h7,h8,h9⟩|⟨hu,hp,q,h5,h6,h7,⟨c1,h8⟩,c2,h9⟩|⟨_,_,i,h5,h6⟩
      ·have:=vY hl0 ts n S u c' h5;omega
      ·exact h2 S q v hS (by omega) h6 h7 (ihS q h6 (by omega) v c1 h8) (ihS (S-q) (by omega) (by omega) v c2 h9)
      ·rw[h5];exact h0 i v (by omega) h6
    | succ m ihm=>
      intro v c hc e;obtain⟨u,p,h3,h4⟩:=V4 hl hS v c e;rcases h4 with⟨hu,c',h5,h6,a,h7,h8,h9⟩|⟨hu,hp,q,h5,h6,h7,⟨c1,h8⟩,c2,h9⟩|⟨_,_,i,h5,h6⟩
      ·have:=vY hl0 ts n S u c' h5;rw[←h8];exact h1 S hS a h7 (by rw[h9];exact ihm u c' (by omega) h5)
      ·exact h2 S q v hS (by omega) h6 h7 (ihS q h6 (by omega) v c1 h8) (ihS (S-q) (by omega) (by omega) v c2 h9)
      ·rw[h5];exact h0 i v (by omega) h6
   intro v c e;exact key _ v c (au _) e
theorem aeZ{l:List Ar}(hl:∀a∈l,1≤a.c∧a.t≠0){ts:List Int}{k:Nat}(hk:k≤6){S:Nat}(hS:S<2^k){v c:Int}(e:((kE l ts (2^k)).getD S iP).1 v=some c):
  ∀i<k,S.testBit i=true→∀t,ts[i]? = some t→RaC l v t:=by
 have h64:2^k≤64:=nP (by omega) hk;refine akh hl (P:=fun S v=>∀i<k,S.testBit i=true→∀t,ts[i]? = some t→RaC l v t) ?_ ?_ ?_ S hS v c e
 ·intro i v _ hv j hj hb t ht;rw[Nat.testBit_two_pow]at hb
  simp only[decide_eq_true_eq]at hb;subst hb;rw[hv]at ht;simp at ht;subst ht;exact .nil
 ·intro S _ a ha h i hi hb t ht;exact .cons ha (h i hi hb t ht)
 ·intro S q v hS hq hlt hs p1 p2 i hi hb t ht;rcases aep S (by omega) q (by omega) hs i (by omega) hb with h|h
  ·exact p1 i hi h t ht
  ·exact p2 i hi h t ht
inductive vJ (T:List (CM×SM)):Nat→Int→List (Int×Int)→Prop
 | none {S:Nat} {v:Int}:(T.getD S iP).2 v=none→vJ T S v []
 | base {S:Nat} {v:Int}:(T.getD S iP).2 v=some (0,0)→vJ T S v []
 | arc {S:Nat} {v u p:Int} {L:List (Int×Int)}:(T.getD S iP).2 v=some (u,p)→u≠0→vJ T S u L→vJ T S v ((v,u)::L)
 | part {S q:Nat} {v:Int} {L1 L2:List (Int×Int)}:(T.getD S iP).2 v=some (0,(q:Int))→q≠0→q<S→q&&&S=q→vJ T q v L1→vJ T (S-q) v L2→vJ T S v (L1++L2)
theorem vJ.det{T:List (CM×SM)}{S:Nat}{v:Int}{L:List (Int×Int)}(h:vJ T S v L):∀{M:List (Int×Int)},vJ T S v M→L=M:=by
 induction h with
 | none e=>intro M g;cases g<;>simp_all
 | base e=>intro M g;cases g<;>simp_all<;>omega
 | arc e hu _ ih=>
   intro M g;cases g with
   | none e'=>simp_all
   | base e'=>simp_all
   | arc e' hu' g'=>rw[e]at e';simp at e';obtain⟨rfl,rfl⟩:=e';rw[ih g']
   | part e'=>rw[e]at e';simp at e';exact absurd e'.1 hu
 | part e hq _ _ _ _ ih1 ih2=>
   intro M g;cases g with
   | none e'=>simp_all
   | base e'=>rw[e]at e';simp at e';omega
   | arc e' hu' g'=>rw[e]at e';simp at e';exact absurd e'.1.symm hu'
   | part e' hq' _ _ g1 g2=>
     rw[e]at e'
     simp only[ah,aO,true_and]at e';have:=Int.ofNat_inj.1 e';subst this;rw[ih1 g1,ih2 g2]
end Go.Proofs

namespace Go.Tr
open Go
inductive Pl where
 | s (k:Nat)
 | o (k:Nat)
 | x (k:Nat)
 deriving DecidableEq
inductive TV where
 | junk
 | d (x:D)
 | c (v:Value)
 | agg (vs:List TV)
 | qh (vs:List TV)
 | aW (id n:Nat)
 | ptr (p:Pl) (off:Nat)
 | ep (e:List D) (off:Nat)
 | qH (id n i off:Nat)
 | clo (f:FuncId) (caps:List TV)
 | mref (id:Nat)
 | sx (xs:List (List D))
 | LG (id n j:Nat)
structure jB where
 m:Nat
 l:Array MapEntry
 clock:Nat
inductive It where
 | none
 | v (t:TV)
 | box (cs:List TV)
 | row (e:TypeId) (k:Nat) (es:List (List TV)) (sh:Bool)
 | mp (es:List (Int×D))
 | sJ (e:TypeId) (k:Nat) (es:List (List TV))
 | fO (es:List (List Int×TV)) (c:Nat) (pd:Option (List Int)) (s:Option jB)
 | yt (m:Nat) (s:jB) (left:List (List Int)) (cur:Option (List Int))
 | BM (es:List (List Int×TV)) (s:jB)
abbrev S:=Pl→It
structure En where
 w:World
 St:Nat→Nat→Prop
 blk:Pl→Option Nat
 val:Nat→Option (Nat×Nat×Value)
def gW:List Int→Value
 | [k]=>.int .i64 k
 | ks=>.agg (ks.map (Value.int .i64)).toArray
def QE(w:World)(b o:Nat):Option (Value ⊕ (Array MapEntry×Nat)):=
 match w.heap[b]? with
 | some (.map l c)=>some (.inr (l,c))
 | _=>(w.cell? ⟨b,o,none⟩).map .inl
theorem h_{w w':World}{b o:Nat}(h:w'.heap[b]? = w.heap[b]?):QE w' b o=QE w b o:=by grind[World.cell?_of_block,QE]
theorem Zu{w w':World}{b o:Nat}(h:QE w' b o=QE w b o):w'.cell? ⟨b,o,none⟩ = w.cell? ⟨b,o,none⟩:=by grind[QE,World.cell?]
theorem Ef{w w':World}{b o c:Nat}{l:Array MapEntry}(h:QE w' b o=QE w b o)(hm:w.heap[b]? = some (.map l c)):w'.heap[b]? = some (.map l c):=by
 unfold QE at h;rw[hm]at h
 split at h
 ·simp_all
 simp_all
theorem WC{w w':World}{b o:Nat}{us us':Array Value}{e e':TypeId}{f f':Nat×Nat}(h1:w.heap[b]? = some (.cells us e f))(h2:w'.heap[b]? = some (.cells us' e' f'))(h:w'.cell? ⟨b,o,none⟩ = w.cell? ⟨b,o,none⟩):QE w' b o=QE w b o:=by simp_all[QE]
mutual
def Rep(E:En):D→Value→Prop
 | .int k n,u=>u = .int k n
 | .bool b,u=>u = .bool b
 | .str s,u=>u = .string s
 | .sl xs,u=>(xs.length=0∧∃a c,u = .slice a 0 c)∨∃b o c k,u = .slice (some ⟨b,o,none⟩) xs.length c∧xs.length≤c∧jK E b k o xs
 | .mp ks vs,u=>∃b l clock l',u = .map (some b)∧E.St b 0∧E.w.heap[b]? = some (.map l clock)∧l'.Perm l.toList∧MapKept.Stamped l clock∧l'.map (·.key)=ks.map gW∧Bj E vs l'
 | .mq ks vs,u=>∃b l clock l',u = .map (some b)∧E.St b 0∧E.w.heap[b]? = some (.map l clock)∧l'.Perm l.toList∧MapKept.Stamped l clock∧l'.map (·.key)=ks.map gW∧zB E vs l'
def Bh(E:En):List D→List Value→Prop
 | [],us=>us = []
 | d::ds,us=>∃u us',us=u::us'∧Rep E d u∧Bh E ds us'
def zB(E:En):List (List D)→List MapEntry→Prop
 | [],l=>l = []
 | d::ds,l=>∃a l',l=a::l'∧(∃us:Array Value,a.val = .agg us∧Bh E d us.toList)∧zB E ds l'
def Bj(E:En):List D→List MapEntry→Prop
 | [],l=>l = []
 | d::ds,l=>∃a l',l=a::l'∧Rep E d a.val∧Bj E ds l'
def jK(E:En)(b k:Nat):Nat→List (List D)→Prop
 | _,[]=>True
 | o,e::es=>e.length=k∧dU E b o e∧jK E b k (o+k) es
def dU(E:En)(b:Nat):Nat→List D→Prop
 | _,[]=>True
 | o,x::ds=>(E.St b o∧∃u,E.w.cell? ⟨b,o,none⟩ = some u∧Rep E x u)∧dU E b (o+1) ds
end
mutual
def aP(E:En):TV→Value→Prop
 | .junk,_=>True
 | .d x,u=>Rep E x u
 | .c v,u=>u=v
 | .agg vs,u=>∃us:Array Value,u = .agg us∧bD E vs us.toList
 | .qh vs,u=>∃us:Array Value,u = .tuple us∧bD E vs us.toList
 | .aW id n,u=>u.oneCell'=true∧∃k c v,E.val id=some (k,c,v)∧n≤c∧(n=c→u=v)
 | .ptr p off,u=>∃b,E.blk p=some b∧u = .pointer (some ⟨b,off,none⟩)
 | .ep e off,u=>∃b o,u = .pointer (some ⟨b,o+off,none⟩)∧dU E b o e
 | .qH id n i off,u=>u.oneCell'=true∧∃k c v,E.val id=some (k,c,v)∧n≤c∧
   (n=c→∃b o cp,v = .slice (some ⟨b,o,none⟩) c cp∧u = .pointer (some ⟨b,o+i*k+off,none⟩))
 | .clo f caps,u=>∃us:Array Value,u = .func (.func f) #[] us∧bD E caps us.toList
 | .mref id,u=>∃b,E.blk (.o id)=some b∧u = .map (some b)
 | .sx xs,u=>Rep E (.sl xs) u∧∃ad,u = .slice ad xs.length xs.length
 | .LG id n j,u=>u.oneCell'=true∧∃k c v,E.val id=some (k,c,v)∧n≤c∧
   (n=c→∃b o cp o',v = .slice (some ⟨b,o,none⟩) c cp∧j≤c∧(o'=o+j*k∨(o'=o∧cp-j=0))∧u = .slice (some ⟨b,o',none⟩) (c-j) (cp-j))
def bD(E:En):List TV→List Value→Prop
 | [],us=>us = []
 | v::vs,us=>∃u us',us=u::us'∧aP E v u∧bD E vs us'
end
mutual
def TV.only(po:Nat→Prop):TV→Prop
 | .agg vs|.qh vs|.clo _ vs=>TV.rJ po vs
 | .aW id _|.qH id _ _ _|.mref id|.LG id _ _=>po id
 | .ptr (.o id) _=>po id
 | _=>True
def TV.rJ(po:Nat→Prop):List TV→Prop
 | []=>True
 | v::vs=>v.only po∧TV.rJ po vs
end
structure Ext(po:Nat→Prop)(E E':En):Prop where
 st:∀b o,E.St b o→E'.St b o
 cell:∀b o,E.St b o→QE E'.w b o=QE E.w b o
 aft:∀id b,po id→E.blk (.o id)=some b→E'.blk (.o id)=some b
 aiI:∀i b,E.blk (.x i)=some b→E'.blk (.x i)=some b
 blks:∀i b,E.blk (.s i)=some b→E'.blk (.s i)=some b
 val:∀id k c v,po id→E.val id=some (k,c,v)→∃c' v',E'.val id=some (k,c',v')∧c≤c'∧(c=c'→v'=v)
theorem Ext.refl(po:Nat→Prop)(E:En):Ext po E E:=
 ⟨fun _ _ h=>h,fun _ _ _=>rfl,fun _ _ _ h=>h,fun _ _ h=>h,fun _ _ h=>h,fun _ _ c v _ h=>⟨c,v,h,au _,fun _=>rfl⟩⟩
theorem Ext.trans{po:Nat→Prop}{A B C:En}(h:Ext po A B)(g:Ext po B C):Ext po A C:=
 ⟨fun b o x=>g.st _ _ (h.st _ _ x),fun b o x=>(g.cell _ _ (h.st _ _ x)).trans (h.cell _ _ x),fun id b p x=>g.aft _ _ p (h.aft _ _ p x),
  fun i b x=>g.aiI _ _ (h.aiI _ _ x),fun i b x=>g.blks _ _ (h.blks _ _ x),fun id k c v p x=>by
   obtain⟨c',v',h1,h2,h3⟩:=h.val _ _ _ _ p x;obtain⟨c'',v'',g1,g2,g3⟩:=g.val _ _ _ _ p h1
   grind⟩
structure Fa(E E':En):Prop where
 st:∀b o,E.St b o→E'.St b o
 cell:∀b o,E.St b o→QE E'.w b o=QE E.w b o
theorem Ext.r{po:Nat→Prop}{E E':En}(h:Ext po E E'):Fa E E':=⟨h.st,h.cell⟩
mutual
theorem Rep.ext{E E':En}(h:Fa E E'):∀(x:D) (u:Value),Rep E x u→Rep E' x u
 | .int k n,u,r=>by trivial
 | .bool b,u,r=>by trivial
 | .str s,u,r=>by trivial
 | .sl xs,u,r=>by
   simp only[Rep]at r⊢;rcases r with r|⟨b,o,c,k,hu,hc,hr⟩
   ·simp[*]
   ·exact .inr ⟨b,o,c,k,hu,hc,jK.ext h b k o xs hr⟩
 | .mp ks vs,u,r=>by simp only[Rep]at r⊢;obtain⟨b,l,clock,l',hu,hs,hb,hp,hst,hk,hv⟩:=r;exact⟨b,l,clock,l',hu,h.st _ _ hs,Ef (h.cell _ _ hs) hb,hp,hst,hk,Bj.ext h vs l' hv⟩
 | .mq ks vs,u,r=>by simp only[Rep]at r⊢;obtain⟨b,l,clock,l',hu,hs,hb,hp,hst,hk,hv⟩:=r;exact⟨b,l,clock,l',hu,h.st _ _ hs,Ef (h.cell _ _ hs) hb,hp,hst,hk,zB.ext h vs l' hv⟩
theorem Bh.ext{E E':En}(h:Fa E E'):∀(ds:List D) (l:List Value),Bh E ds l→Bh E' ds l
 | [],_,r=>by simpa only[Bh]using r
 | d::ds,l,r=>by simp only[Bh]at r⊢;obtain⟨a,l',hl,h1,h2⟩:=r;exact⟨a,l',hl,Rep.ext h d _ h1,Bh.ext h ds l' h2⟩
theorem zB.ext{E E':En}(h:Fa E E'):∀(ds:List (List D)) (l:List MapEntry),zB E ds l→zB E' ds l
 | [],_,r=>by simpa only[zB]using r
 | d::ds,l,r=>by simp only[zB]at r⊢;obtain⟨a,l',hl,⟨us,h1,h3⟩,h2⟩:=r;exact⟨a,l',hl,⟨us,h1,Bh.ext h d _ h3⟩,zB.ext h ds l' h2⟩
theorem Bj.ext{E E':En}(h:Fa E E'):∀(ds:List D) (l:List MapEntry),Bj E ds l→Bj E' ds l
 | [],_,r=>by simpa only[Bj]using r
 | d::ds,l,r=>by simp only[Bj]at r⊢;obtain⟨a,l',hl,h1,h2⟩:=r;exact⟨a,l',hl,Rep.ext h d _ h1,Bj.ext h ds l' h2⟩
theorem jK.ext{E E':En}(h:Fa E E')(b k:Nat):∀(o:Nat) (xs:List (List D)),jK E b k o xs→jK E' b k o xs
 | _,[],_=>by simp only[jK]
 | o,e::es,r=>by simp only[jK]at r⊢;exact⟨r.1,dU.ext h b o e r.2.1,jK.ext h b k (o+k) es r.2.2⟩
theorem dU.ext{E E':En}(h:Fa E E')(b:Nat):∀(o:Nat) (xs:List D),dU E b o xs→dU E' b o xs
 | _,[],_=>by simp only[dU]
 | o,x::ds,r=>by simp only[dU]at r⊢;obtain⟨⟨hs,u,hc,hr⟩,r2⟩:=r;exact⟨⟨h.st _ _ hs,u,(Zu (h.cell _ _ hs)).trans hc,Rep.ext h x u hr⟩,dU.ext h b (o+1) ds r2⟩
end
mutual
theorem aP.ext{po:Nat→Prop}{E E':En}(h:Ext po E E'):∀(t:TV) (u:Value),t.only po→aP E t u→aP E' t u
 | .junk,_,_,_=>by trivial
 | .d x,u,_,r=>by simp only[aP]at r⊢;exact Rep.ext h.r x u r
 | .c v,u,_,r=>by trivial
 | .agg vs,u,p,r=>by simp only[aP,TV.only]at r p⊢;obtain⟨us,hu,hr⟩:=r;exact⟨us,hu,bD.ext h vs _ p hr⟩
 | .qh vs,u,p,r=>by simp only[aP,TV.only]at r p⊢;obtain⟨us,hu,hr⟩:=r;exact⟨us,hu,bD.ext h vs _ p hr⟩
 | .aW id n,u,p,r=>by
   simp only[aP,TV.only]at r p⊢;obtain⟨h1,k,c,v,hv,hn,hu⟩:=r;obtain⟨c',v',hv',hle,he⟩:=h.val id k c v p hv
   grind
 | .ptr (.o id) off,u,p,r=>by simp only[aP,TV.only]at r p⊢;obtain⟨b,hb,hu⟩:=r;exact⟨b,h.aft _ _ p hb,hu⟩
 | .ptr (.x id) off,u,p,r=>by simp only[aP]at r⊢;obtain⟨b,hb,hu⟩:=r;exact⟨b,h.aiI _ _ hb,hu⟩
 | .ptr (.s id) off,u,p,r=>by simp only[aP]at r⊢;obtain⟨b,hb,hu⟩:=r;exact⟨b,h.blks _ _ hb,hu⟩
 | .ep e off,u,_,r=>by simp only[aP]at r⊢;obtain⟨b,o,hu,hr⟩:=r;exact⟨b,o,hu,dU.ext h.r b o e hr⟩
 | .qH id n i off,u,p,r=>by
   simp only[aP,TV.only]at r p⊢;obtain⟨h1,k,c,v,hv,hn,hu⟩:=r;obtain⟨c',v',hv',hle,he⟩:=h.val id k c v p hv
   grind
 | .clo f caps,u,p,r=>by simp only[aP,TV.only]at r p⊢;obtain⟨us,hu,hr⟩:=r;exact⟨us,hu,bD.ext h caps _ p hr⟩
 | .mref id,u,p,r=>by simp only[aP,TV.only]at r p⊢;obtain⟨b,hb,hu⟩:=r;exact⟨b,h.aft _ _ p hb,hu⟩
 | .sx xs,u,_,r=>by simp only[aP]at r⊢;exact⟨Rep.ext h.r (.sl xs) u r.1,r.2⟩
 | .LG id n j,u,p,r=>by
   simp only[aP,TV.only]at r p⊢;obtain⟨h1,k,c,v,hv,hn,hu⟩:=r;obtain⟨c',v',hv',hle,he⟩:=h.val id k c v p hv
   grind
theorem bD.ext{po:Nat→Prop}{E E':En}(h:Ext po E E'):∀(ts:List TV) (us:List Value),TV.rJ po ts→bD E ts us→bD E' ts us
 | [],us,_,r=>by trivial
 | t::ts,us,p,r=>by simp only[bD,TV.rJ]at r p⊢;obtain⟨u,us',hu,h1,h2⟩:=r;exact⟨u,us',hu,aP.ext h t u p.1 h1,bD.ext h ts us' p.2 h2⟩
end
mutual
theorem TV.TM:∀t:TV,t.only (fun _=>True)
 | .junk=>by trivial
 | .d x=>by trivial
 | .c v=>by trivial
 | .agg vs=>by simp[TV.only,TV.yA]
 | .qh vs=>by simp[TV.only,TV.yA]
 | .aW id n=>by trivial
 | .ptr (.o id) off=>by trivial
 | .ptr (.x id) off=>by trivial
 | .ptr (.s id) off=>by trivial
 | .ep e off=>by trivial
 | .qH id n i off=>by trivial
 | .clo f caps=>by simp[TV.only,TV.yA]
 | .mref id=>by trivial
 | .sx xs=>by trivial
 | .LG id n j=>by trivial
theorem TV.yA:∀ts:List TV,TV.rJ (fun _=>True) ts
 | []=>by trivial
 | t::ts=>by simp[TV.rJ,TV.TM,TV.yA]
end
abbrev oQ:=Ext (fun _=>True)
theorem aP.up{E E':En}{t:TV}{u:Value}(r:aP E t u)(h:oQ E E'):aP E' t u:=aP.ext h t u (TV.TM t) r
theorem bD.up{E E':En}{t:List TV}{u:List Value}(r:bD E t u)(h:oQ E E'):bD E' t u:=bD.ext h t u (TV.yA t) r
theorem Rep.up{E E':En}{t:D}{u:Value}(r:Rep E t u)(h:oQ E E'):Rep E' t u:=Rep.ext h.r t u r
def cu(E:En)(us:List Value):Nat→List TV→Prop
 | _,[]=>True
 | o,t::ts=>(∃u,us[o]? = some u∧u.oneCell'=true∧aP E t u)∧cu E us (o+1) ts
def fC(E:En)(us:List Value)(k:Nat):Nat→List (List TV)→Prop
 | _,[]=>True
 | o,e::es=>e.length=k∧cu E us o e∧fC E us k (o+k) es
def En.own(E:En)(p:Pl):Option Nat:=
 match E.blk p with
 | some b=>some b
 | none=>match p with
   | .o id=>(E.val id).bind fun x=>x.2.2.ownBlock
   | _=>none
def rW(E:En):List (Int×D)→List MapEntry→Prop
 | [],l=>l = []
 | (k,d)::es,l=>∃a l',l=a::l'∧a.key = .int .i64 k∧a.val.oneCell'=true∧Rep E d a.val∧rW E es l'
theorem rW.ext{E E':En}(h:Fa E E'):∀{es:List (Int×D)} {l:List MapEntry},rW E es l→rW E' es l
 | [],_,r=>r
 | (_,d)::_,_,⟨a,l',h1,h2,h3,h4,h5⟩=>⟨a,l',h1,h2,h3,Rep.ext h d _ h4,rW.ext h h5⟩
def jW(E:En):List (List Int×TV)→List MapEntry→Prop
 | [],l=>l = []
 | (k,v)::es,l=>∃a l',l=a::l'∧a.key=gW k∧aP E v a.val∧jW E es l'
theorem jW.up{E E':En}(h:oQ E E'):∀{es:List (List Int×TV)} {l:List MapEntry},jW E es l→jW E' es l
 | [],_,r=>r
 | (_,_)::_,_,⟨a,l',h1,h2,h3,h4⟩=>⟨a,l',h1,h2,h3.up h,jW.up h h4⟩
theorem jW.ext{po:Nat→Prop}{E E':En}(h:Ext po E E'):∀{es:List (List Int×TV)} {l:List MapEntry},(∀x∈es,x.2.only po)→jW E es l→jW E' es l
 | [],_,_,r=>r
 | (_,v)::_,_,p,⟨a,l',h1,h2,h3,h4⟩=>⟨a,l',h1,h2,aP.ext h v _ (p _ (List.mem_cons_self ..)) h3,jW.ext h (fun x hx=>p x (gY _ hx)) h4⟩
def ajN(l:Array MapEntry):Option (List Int)→Value→Prop
 | none,_=>True
 | some k,v=>∃a∈l.toList,a.key=gW k∧v = .int .i64 a.born
def ajo(s:jB)(left:List (List Int))(cur:Option (List Int))(seen:Array Nat):Prop:=
 ((s.l.toList.filter fun x=>!seen.contains x.born).map (·.key)).Perm (left.map gW)∧(∀x∈s.l.toList,x.born<s.clock)∧∀k,cur=some k→∃x∈s.l.toList,x.key=gW k∧seen.back? = some x.born
def Ir(w:World)(e:TypeId)(k:Nat)(v:Value)(n:Nat)(xs:List Value):Prop:=
 xs.length=n*k∧∃g o cap cur,v = .slice (some ⟨g,o,none⟩) n cap∧w.heap[g]? = some (.cells cur e (0,0))∧n≤cap∧cap≤maxLen∧o+cap*k≤cur.size∧(cur.toList.drop o).take (n*k)=xs
def vM(E:En)(p:Pl):It→Prop
 | .none=>∀id,p = .o id→E.blk p=none∧E.val id=none
 | .v _=>E.own p=none
 | .box cs=>(∀id,p = .o id→E.val id=none)∧∃b ty us,E.blk p=some b∧E.w.heap[b]? = some (.cells us ty (0,0))∧us.size=cs.length∧cu E us.toList 0 cs
 | .row e k es _=>E.blk p=none∧∃id v us,p = .o id∧E.val id=some (k,es.length,v)∧E.w.ownsRow 0 e k v es.length us∧fC E us k 0 es
 | .sJ e k es=>E.blk p=none∧∃id v us,p = .o id∧E.val id=some (k,es.length,v)∧Ir E.w e k v es.length us∧fC E us k 0 es
 | .mp es=>(∀id,p = .o id→E.val id=none)∧∃b l clock,E.blk p=some b∧E.w.heap[b]? = some (.map l clock)∧rW E es l.toList∧MapKept.Stamped l clock
 | .fO es c pd s=>∃id b l clock l' ty v,p = .o id∧E.blk p=some b∧E.w.heap[b]? = some (.map l clock)∧l'.Perm l.toList∧jW E es l'∧MapKept.Stamped l clock∧E.val id=some (ty,c,v)∧ajN l pd v∧∀x,s=some x→x=⟨b,l,clock⟩
 | .BM es s=>E.own p=none∧E.St s.m 0∧E.w.heap[s.m]? = some (.map s.l s.clock)∧MapKept.Stamped s.l s.clock∧∃l',l'.Perm s.l.toList∧jW E es l'
 | .yt _ s left cur=>(∀id,p = .o id→E.val id=none)∧∃r seen,E.blk p=some r∧E.w.heap[r]? = some (.mapIter (some s.m) s.clock seen s.clock)∧ajo s left cur seen
structure lD(E:En)(H:S):Prop where
 item:∀p,(∀k,p≠.s k)→vM E p (H p)
 frees:∀k,E.blk (.s k)=none
 inj:∀p q b,E.own p=some b→E.own q=some b→p=q
 size:∀p b,E.own p=some b→b<E.w.heap.size
 o_:∀b o,E.St b o→b<E.w.heap.size
 sep:∀b o,E.St b o→∀p,E.own p=some b→∃e k es,H p = .row e k es true∧o<es.length*k
 gl:∀y∈Xz,dU E y.1 0 y.2
structure Fr(E0 E:En):Prop where
 os:E.w.os=E0.w.os
 tape:E.w.tape=E0.w.tape
 output:E.w.output=E0.w.output
 size:E0.w.heap.size≤E.w.heap.size
 old:∀b,b<E0.w.heap.size→(∀i,E0.blk (.x i)≠some b)→(∀j,E0.own (.o j)≠some b)→E.w.heap[b]? = E0.w.heap[b]?
 xb:∀i,E.blk (.x i)=E0.blk (.x i)
 new:∀id b,E.own (.o id)=some b→E0.w.heap.size≤b∨∃j,E0.own (.o j)=some b
 st:∀b o,E0.St b o→E.St b o
 xE:∀b o,E.St b o→E0.St b o∨(E0.w.heap.size≤b∨∃j,E0.own (.o j)=some b)
structure f_ where
 E0:En
 N:Nat
structure eY(A:f_)(t:S)(a:Act)(E:En):Prop where
 h:lD E t
 fr:Fr A.E0 E
 sl:∀k tv,t (.s k) = .v tv→∃u,a.tmps[k]? = some u∧aP E tv u
 defers:a.defers = []
 size:A.N≤a.tmps.size
def Inv(A:f_)(t:S)(a:Act)(w:World):Prop:=∃E:En,E.w=w∧eY A t a E
def upd(t:S)(p:Pl)(i:It):S:=fun q=>if q=p then i else t q
def over(t:S):List (Pl×It)→S
 | []=>t
 | (p,i)::W=>upd (over t W) p i
end Go.Tr
