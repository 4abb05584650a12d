/-
  What functions of the program compute, stated as contracts over plain data; the conditions of each stand in its own statement.
-/
import Derived.Orders
import Derived.Below
import Derived.Tactics
import Derived.MapKept
import Derived.Maps.AppendAt
import Derived.Laws.OwnMore
import Derived.Laws.StructEq
namespace Go.Tr
open Go
inductive D where
 | int (k:IntKind) (n:Int)
 | bool (b:Bool)
 | str (s:ByteArray)
 | sl (xs:List (List D))
 | mp (ks:List (List Int)) (vs:List D)
def deb:List Int:=[0,1,56,2,57,49,28,3,61,58,42,50,38,29,17,4,62,47,59,36,45,43,51,22,53,39,33,30,24,18,12,5,63,55,48,27,60,41,37,16,46,35,44,21,52,32,23,11,54,26,40,15,34,20,31,10,25,14,19,9,13,8,7,6]
def Zt:List (Nat×List D):=[(0,deb.map fun n=>.int .u8 n)]
def kb(m k:Nat):Bool:=(m/2^k)%2==1
attribute [simp] kb
end Go.Tr
namespace Go
abbrev mF:=@Array.all_eq_true_iff_forall_mem
abbrev kM:=@Array.append_empty
abbrev iF:=@Array.empty_append
abbrev iQ:=@Array.getElem?_eq_getElem
abbrev bZ:=@Array.getElem?_eq_some_iff
abbrev iZ:=@Array.length_toList
abbrev oV:=@Array.mem_of_getElem?
abbrev nD:=@Array.toList_inj
abbrev iU:=@BitVec.and_one_eq_setWidth_ofBool_getLsbD
abbrev jc:=@BitVec.eq_of_getLsbD_eq
abbrev fA:=@BitVec.getLsbD_and
abbrev nG:=@BitVec.getLsbD_not
abbrev mP:=@BitVec.getLsbD_ushiftRight
abbrev mX:=@BitVec.getLsbD_zero
abbrev ny:=@Bool.and_comm
abbrev aP:=@Bool.and_eq_true
abbrev pK:=@Bool.and_false
abbrev l7:=@Bool.and_self
abbrev mQ:=@Bool.eq_false_iff
abbrev au:=@Bool.eq_false_or_eq_true
abbrev jO:=@Bool.eq_iff_iff
abbrev lF:=@Bool.false_and
abbrev bI:=@Bool.false_eq_true
abbrev qF:=@Bool.false_or
abbrev kY:=@Bool.not_eq_true
abbrev nZ:=@Bool.not_eq_true'
abbrev j_:=@Bool.not_false
abbrev oq:=@Bool.not_true
abbrev gJ:=@Bool.or_eq_true
abbrev jZ:=@Bool.true_and
abbrev oU:=@Bool.true_eq_false
abbrev rM:=@Bool.true_or
abbrev iL:=@Int.emod_lt_of_pos
abbrev jP:=@Int.emod_nonneg
abbrev iw:=@Int.tmod_eq_emod_of_nonneg
abbrev dV:=@Int.toNat_natCast
abbrev dN:=@List.all_eq_true
abbrev dL:=@List.any_eq_false
abbrev jU:=@List.any_eq_true
abbrev eU:=@List.append_assoc
abbrev aZ:=@List.append_nil
abbrev eH:=@List.cons.injEq
abbrev fF:=@List.cons_append
abbrev aU:=@List.drop_eq_getElem_cons
abbrev dJ:=@List.drop_eq_nil_of_le
abbrev oD:=@List.drop_of_length_le
abbrev eF:=@List.eq_nil_of_length_eq_zero
abbrev lU:=@List.ext_getElem
abbrev iV:=@List.ext_getElem?
abbrev bJ:=@List.filter_append
abbrev eu:=@List.filter_congr
abbrev dD:=@List.filter_cons
abbrev fU:=@List.filter_eq_nil_iff
abbrev su:=@List.filter_eq_self
abbrev iM:=@List.filter_filter
abbrev jw:=@List.filter_map
abbrev jB:=@List.filter_sublist
abbrev iC:=@List.find?_cons
abbrev iW:=@List.find?_eq_none
abbrev qG:=@List.find?_some
abbrev lG:=@List.flatMap_append
abbrev gV:=@List.flatMap_cons
abbrev g_:=@List.foldl_append
abbrev cO:=@List.foldl_cons
abbrev uF:=@List.foldl_filter
abbrev rD:=@List.foldl_nil
abbrev pF:=@List.forall_mem_cons
abbrev sD:=@List.getD_cons_succ
abbrev lH:=@List.getD_cons_zero
abbrev ak:=@List.getD_eq_getElem?_getD
abbrev cZ:=@List.getElem?_append_left
abbrev dh:=@List.getElem?_append_right
abbrev jv:=@List.getElem?_drop
abbrev ah:=@List.getElem?_eq_getElem
abbrev dK:=@List.getElem?_eq_none
abbrev aA:=@List.getElem?_eq_some_iff
abbrev bC:=@List.getElem?_map
abbrev bM:=@List.getElem?_of_mem
abbrev lI:=@List.getElem?_range
abbrev jY:=@List.getElem?_set
abbrev eG:=@List.getElem?_take
abbrev aB:=@List.getElem_mem
abbrev jC:=@List.getElem_of_mem
abbrev aS:=@List.length_append
abbrev aT:=@List.length_cons
abbrev kZ:=@List.length_drop
abbrev dB:=@List.length_eq_zero_iff
abbrev aQ:=@List.length_filter_le
abbrev aN:=@List.length_map
abbrev gZ:=@List.length_mergeSort
abbrev eY:=@List.length_nil
abbrev jr:=@List.length_pos_of_mem
abbrev bF:=@List.length_take
abbrev fH:=@List.map_append
abbrev bW:=@List.map_congr_left
abbrev aH:=@List.map_cons
abbrev qP:=@List.map_id
abbrev bQ:=@List.map_map
abbrev dY:=@List.map_nil
abbrev jy:=@List.map_set
abbrev iy:=@List.map_toArray
abbrev aJ:=@List.mem_append
abbrev pG:=@List.mem_append_left
abbrev lQ:=@List.mem_append_right
abbrev aG:=@List.mem_cons
abbrev dM:=@List.mem_cons_of_mem
abbrev bG:=@List.mem_filter
abbrev fG:=@List.mem_flatMap
abbrev cu:=@List.mem_iff_getElem
abbrev ay:=@List.mem_map
abbrev gB:=@List.mem_map_of_mem
abbrev gG:=@List.mem_of_find?_eq_some
abbrev bU:=@List.mem_of_getElem?
abbrev jI:=@List.mem_of_mem_take
abbrev jQ:=@List.mem_or_eq_of_mem_set
abbrev bD:=@List.mem_range
abbrev bn:=@List.mem_singleton
abbrev jd:=@List.mergeSort_perm
abbrev gW:=@List.nil_append
abbrev jh:=@List.nodup_append
abbrev dG:=@List.nodup_cons
abbrev dI:=@List.nodup_iff_pairwise_ne
abbrev oN:=@List.nodup_nil
abbrev fP:=@List.not_mem_nil
abbrev jJ:=@List.pairwise_append
abbrev fB:=@List.pairwise_cons
abbrev bT:=@List.pairwise_iff_getElem
abbrev dA:=@List.pairwise_map
abbrev kV:=@List.perm_ext_iff_of_nodup
abbrev rV:=@List.range'_succ
abbrev nS:=@List.range_eq_range'
abbrev je:=@List.range_succ
abbrev qQ:=@List.size_toArray
abbrev aO:=@List.take_add_one
abbrev lS:=@List.take_append_drop
abbrev bP:=@List.take_length
abbrev aW:=@List.take_of_length_le
abbrev aX:=@Nat.add_assoc
abbrev dX:=@Nat.add_mul
abbrev qx:=@Nat.add_sub_cancel
abbrev lW:=@Nat.add_zero
abbrev aI:=@Nat.le_refl
abbrev aY:=@Nat.le_trans
abbrev fC:=@Nat.lt_of_lt_of_le
abbrev h_:=@Nat.lt_trichotomy
abbrev nK:=@Nat.mul_le_mul
abbrev f_:=@Nat.mul_le_mul_right
abbrev pW:=@Nat.sub_zero
abbrev lJ:=@Nat.testBit_or
abbrev dR:=@Nat.zero_add
abbrev og:=@Nat.zero_le
abbrev dH:=@Option.bind_some
abbrev jf:=@Option.getD_none
abbrev bf:=@Option.getD_some
abbrev nM:=@Option.isSome_iff_exists
abbrev jK:=@Option.isSome_none
abbrev kU:=@Option.isSome_some
abbrev fV:=@Option.map_eq_some_iff
abbrev o8:=@Option.map_none
abbrev dF:=@Option.map_some
abbrev aj:=@Option.some.injEq
abbrev fJ:=@Option.toList_some
abbrev aK:=@Prod.mk.injEq
end Go

namespace Go.Tr
open Go
inductive Pl where
 | s (k:Nat)
 | o (k:Nat)
 | x (k:Nat)
 deriving DecidableEq
inductive TV where
 | junk
 | d (x:D)
 | c (v:Value)
 | agg (vs:List TV)
 | sZ (vs:List TV)
 | bK (id n:Nat)
 | ptr (p:Pl) (off:Nat)
 | ep (e:List D) (off:Nat)
 | tV (id n i off:Nat)
 | clo (f:FuncId) (caps:List TV)
 | mref (id:Nat)
 | sx (xs:List (List D))
 | Qg (id n j:Nat)
structure oO where
 m:Nat
 l:Array MapEntry
 clock:Nat
inductive It where
 | none
 | v (t:TV)
 | box (cs:List TV)
 | row (e:TypeId) (k:Nat) (es:List (List TV)) (sh:Bool)
 | mp (es:List (Int×D))
 | yj (e:TypeId) (k:Nat) (es:List (List TV))
 | jA (es:List (List Int×TV)) (c:Nat) (pd:Option (List Int)) (s:Option oO)
 | Fb (m:Nat) (s:oO) (left:List (List Int)) (cur:Option (List Int))
 | Mc (es:List (List Int×TV)) (s:oO)
abbrev S:=Pl→It
structure En where
 w:World
 St:Nat→Nat→Prop
 blk:Pl→Option Nat
 val:Nat→Option (Nat×Nat×Value)
def jX:List Int→Value
 | [k]=>.int .i64 k
 | ks=>.agg (ks.map (Value.int .i64)).toArray
def U0(w:World)(b o:Nat):Option (Value ⊕ (Array MapEntry×Nat)):=
 match w.heap[b]? with
 | some (.map l c)=>some (.inr (l,c))
 | _=>(w.cell? ⟨b,o,none⟩).map .inl
theorem jV{w w':World}{b o:Nat}(h:w'.heap[b]? = w.heap[b]?):U0 w' b o=U0 w b o:=by grind[World.cell?_of_block,U0]
theorem aa4{w w':World}{b o:Nat}(h:U0 w' b o=U0 w b o):w'.cell? ⟨b,o,none⟩ = w.cell? ⟨b,o,none⟩:=by grind[U0,World.cell?]
theorem OI{w w':World}{b o c:Nat}{l:Array MapEntry}(h:U0 w' b o=U0 w b o)(hm:w.heap[b]? = some (.map l c)):w'.heap[b]? = some (.map l c):=by
 unfold U0 at h;rw[hm]at h
 split at h
 ·simp_all
 simp_all
theorem YL{w w':World}{b o:Nat}{us us':Array Value}{e e':TypeId}{f f':Nat×Nat}(h1:w.heap[b]? = some (.cells us e f))(h2:w'.heap[b]? = some (.cells us' e' f'))(h:w'.cell? ⟨b,o,none⟩ = w.cell? ⟨b,o,none⟩):U0 w' b o=U0 w b o:=by simp_all[U0]
mutual
def Rep(E:En):D→Value→Prop
 | .int k n,u=>u = .int k n
 | .bool b,u=>u = .bool b
 | .str s,u=>u = .string s
 | .sl xs,u=>(xs.length=0∧∃a c,u = .slice a 0 c)∨∃b o c k,u = .slice (some ⟨b,o,none⟩) xs.length c∧xs.length≤c∧mV E b k o xs
 | .mp ks vs,u=>∃b l clock l',u = .map (some b)∧E.St b 0∧E.w.heap[b]? = some (.map l clock)∧l'.Perm l.toList∧MapKept.Stamped l clock∧l'.map (·.key)=ks.map jX∧AB E vs l'
def AB(E:En):List D→List MapEntry→Prop
 | [],l=>l = []
 | d::ds,l=>∃a l',l=a::l'∧Rep E d a.val∧AB E ds l'
def mV(E:En)(b k:Nat):Nat→List (List D)→Prop
 | _,[]=>True
 | o,e::es=>e.length=k∧gq E b o e∧mV E b k (o+k) es
def gq(E:En)(b:Nat):Nat→List D→Prop
 | _,[]=>True
 | o,x::ds=>(E.St b o∧∃u,E.w.cell? ⟨b,o,none⟩ = some u∧Rep E x u)∧gq E b (o+1) ds
end
mutual
def aV(E:En):TV→Value→Prop
 | .junk,_=>True
 | .d x,u=>Rep E x u
 | .c v,u=>u=v
 | .agg vs,u=>∃us:Array Value,u = .agg us∧b_ E vs us.toList
 | .sZ vs,u=>∃us:Array Value,u = .tuple us∧b_ E vs us.toList
 | .bK id n,u=>u.oneCell'=true∧∃k c v,E.val id=some (k,c,v)∧n≤c∧(n=c→u=v)
 | .ptr p off,u=>∃b,E.blk p=some b∧u = .pointer (some ⟨b,off,none⟩)
 | .ep e off,u=>∃b o,u = .pointer (some ⟨b,o+off,none⟩)∧gq E b o e
 | .tV id n i off,u=>u.oneCell'=true∧∃k c v,E.val id=some (k,c,v)∧n≤c∧
   (n=c→∃b o cp,v = .slice (some ⟨b,o,none⟩) c cp∧u = .pointer (some ⟨b,o+i*k+off,none⟩))
 | .clo f caps,u=>∃us:Array Value,u = .func (.func f) #[] us∧b_ E caps us.toList
 | .mref id,u=>∃b,E.blk (.o id)=some b∧u = .map (some b)
 | .sx xs,u=>Rep E (.sl xs) u∧∃ad,u = .slice ad xs.length xs.length
 | .Qg id n j,u=>u.oneCell'=true∧∃k c v,E.val id=some (k,c,v)∧n≤c∧
   (n=c→∃b o cp o',v = .slice (some ⟨b,o,none⟩) c cp∧j≤c∧(o'=o+j*k∨(o'=o∧cp-j=0))∧u = .slice (some ⟨b,o',none⟩) (c-j) (cp-j))
def b_(E:En):List TV→List Value→Prop
 | [],us=>us = []
 | v::vs,us=>∃u us',us=u::us'∧aV E v u∧b_ E vs us'
end
mutual
def TV.only(po:Nat→Prop):TV→Prop
 | .agg vs|.sZ vs|.clo _ vs=>TV.uw po vs
 | .bK id _|.tV id _ _ _|.mref id|.Qg id _ _=>po id
 | .ptr (.o id) _=>po id
 | _=>True
def TV.uw(po:Nat→Prop):List TV→Prop
 | []=>True
 | v::vs=>v.only po∧TV.uw po vs
end
structure Ext(po:Nat→Prop)(E E':En):Prop where
 st:∀b o,E.St b o→E'.St b o
 cell:∀b o,E.St b o→U0 E'.w b o=U0 E.w b o
 aga:∀id b,po id→E.blk (.o id)=some b→E'.blk (.o id)=some b
 aiL:∀i b,E.blk (.x i)=some b→E'.blk (.x i)=some b
 blks:∀i b,E.blk (.s i)=some b→E'.blk (.s i)=some b
 val:∀id k c v,po id→E.val id=some (k,c,v)→∃c' v',E'.val id=some (k,c',v')∧c≤c'∧(c=c'→v'=v)
theorem Ext.refl(po:Nat→Prop)(E:En):Ext po E E:=
 ⟨fun _ _ h=>h,fun _ _ _=>rfl,fun _ _ _ h=>h,fun _ _ h=>h,fun _ _ h=>h,fun _ _ c v _ h=>⟨c,v,h,aI _,fun _=>rfl⟩⟩
theorem Ext.trans{po:Nat→Prop}{A B C:En}(h:Ext po A B)(g:Ext po B C):Ext po A C:=
 ⟨fun b o x=>g.st _ _ (h.st _ _ x),fun b o x=>(g.cell _ _ (h.st _ _ x)).trans (h.cell _ _ x),fun id b p x=>g.aga _ _ p (h.aga _ _ p x),
  fun i b x=>g.aiL _ _ (h.aiL _ _ x),fun i b x=>g.blks _ _ (h.blks _ _ x),fun id k c v p x=>by
   obtain⟨c',v',h1,h2,h3⟩:=h.val _ _ _ _ p x;obtain⟨c'',v'',g1,g2,g3⟩:=g.val _ _ _ _ p h1
   grind⟩
structure P6(E E':En):Prop where
 st:∀b o,E.St b o→E'.St b o
 cell:∀b o,E.St b o→U0 E'.w b o=U0 E.w b o
theorem Ext.r{po:Nat→Prop}{E E':En}(h:Ext po E E'):P6 E E':=⟨h.st,h.cell⟩
mutual
theorem Rep.ext{E E':En}(h:P6 E E'):∀(x:D) (u:Value),Rep E x u→Rep E' x u
 | .int k n,u,r=>by trivial
 | .bool b,u,r=>by trivial
 | .str s,u,r=>by trivial
 | .sl xs,u,r=>by
   simp only[Rep]at r⊢;rcases r with r|⟨b,o,c,k,hu,hc,hr⟩
   ·simp[*]
   ·exact .inr ⟨b,o,c,k,hu,hc,mV.ext h b k o xs hr⟩
 | .mp ks vs,u,r=>by simp only[Rep]at r⊢;obtain⟨b,l,clock,l',hu,hs,hb,hp,hst,hk,hv⟩:=r;exact⟨b,l,clock,l',hu,h.st _ _ hs,OI (h.cell _ _ hs) hb,hp,hst,hk,AB.ext h vs l' hv⟩
theorem AB.ext{E E':En}(h:P6 E E'):∀(ds:List D) (l:List MapEntry),AB E ds l→AB E' ds l
 | [],_,r=>by simpa only[AB]using r
 | d::ds,l,r=>by simp only[AB]at r⊢;obtain⟨a,l',hl,h1,h2⟩:=r;exact⟨a,l',hl,Rep.ext h d _ h1,AB.ext h ds l' h2⟩
theorem mV.ext{E E':En}(h:P6 E E')(b k:Nat):∀(o:Nat) (xs:List (List D)),mV E b k o xs→mV E' b k o xs
 | _,[],_=>by simp only[mV]
 | o,e::es,r=>by simp only[mV]at r⊢;exact⟨r.1,gq.ext h b o e r.2.1,mV.ext h b k (o+k) es r.2.2⟩
theorem gq.ext{E E':En}(h:P6 E E')(b:Nat):∀(o:Nat) (xs:List D),gq E b o xs→gq E' b o xs
 | _,[],_=>by simp only[gq]
 | o,x::ds,r=>by simp only[gq]at r⊢;obtain⟨⟨hs,u,hc,hr⟩,r2⟩:=r;exact⟨⟨h.st _ _ hs,u,(aa4 (h.cell _ _ hs)).trans hc,Rep.ext h x u hr⟩,gq.ext h b (o+1) ds r2⟩
end
mutual
theorem aV.ext{po:Nat→Prop}{E E':En}(h:Ext po E E'):∀(t:TV) (u:Value),t.only po→aV E t u→aV E' t u
 | .junk,_,_,_=>by trivial
 | .d x,u,_,r=>by simp only[aV]at r⊢;exact Rep.ext h.r x u r
 | .c v,u,_,r=>by trivial
 | .agg vs,u,p,r=>by simp only[aV,TV.only]at r p⊢;obtain⟨us,hu,hr⟩:=r;exact⟨us,hu,b_.ext h vs _ p hr⟩
 | .sZ vs,u,p,r=>by simp only[aV,TV.only]at r p⊢;obtain⟨us,hu,hr⟩:=r;exact⟨us,hu,b_.ext h vs _ p hr⟩
 | .bK id n,u,p,r=>by
   simp only[aV,TV.only]at r p⊢;obtain⟨h1,k,c,v,hv,hn,hu⟩:=r;obtain⟨c',v',hv',hle,he⟩:=h.val id k c v p hv
   grind
 | .ptr (.o id) off,u,p,r=>by simp only[aV,TV.only]at r p⊢;obtain⟨b,hb,hu⟩:=r;exact⟨b,h.aga _ _ p hb,hu⟩
 | .ptr (.x id) off,u,p,r=>by simp only[aV]at r⊢;obtain⟨b,hb,hu⟩:=r;exact⟨b,h.aiL _ _ hb,hu⟩
 | .ptr (.s id) off,u,p,r=>by simp only[aV]at r⊢;obtain⟨b,hb,hu⟩:=r;exact⟨b,h.blks _ _ hb,hu⟩
 | .ep e off,u,_,r=>by simp only[aV]at r⊢;obtain⟨b,o,hu,hr⟩:=r;exact⟨b,o,hu,gq.ext h.r b o e hr⟩
 | .tV id n i off,u,p,r=>by
   simp only[aV,TV.only]at r p⊢;obtain⟨h1,k,c,v,hv,hn,hu⟩:=r;obtain⟨c',v',hv',hle,he⟩:=h.val id k c v p hv
   grind
 | .clo f caps,u,p,r=>by simp only[aV,TV.only]at r p⊢;obtain⟨us,hu,hr⟩:=r;exact⟨us,hu,b_.ext h caps _ p hr⟩
 | .mref id,u,p,r=>by simp only[aV,TV.only]at r p⊢;obtain⟨b,hb,hu⟩:=r;exact⟨b,h.aga _ _ p hb,hu⟩
 | .sx xs,u,_,r=>by simp only[aV]at r⊢;exact⟨Rep.ext h.r (.sl xs) u r.1,r.2⟩
 | .Qg id n j,u,p,r=>by
   simp only[aV,TV.only]at r p⊢;obtain⟨h1,k,c,v,hv,hn,hu⟩:=r;obtain⟨c',v',hv',hle,he⟩:=h.val id k c v p hv
   grind
theorem b_.ext{po:Nat→Prop}{E E':En}(h:Ext po E E'):∀(ts:List TV) (us:List Value),TV.uw po ts→b_ E ts us→b_ E' ts us
 | [],us,_,r=>by trivial
 | t::ts,us,p,r=>by simp only[b_,TV.uw]at r p⊢;obtain⟨u,us',hu,h1,h2⟩:=r;exact⟨u,us',hu,aV.ext h t u p.1 h1,b_.ext h ts us' p.2 h2⟩
end
mutual
theorem TV.Wx:∀t:TV,t.only (fun _=>True)
 | .junk=>by trivial
 | .d x=>by trivial
 | .c v=>by trivial
 | .agg vs=>by simp[TV.only,TV.CG]
 | .sZ vs=>by simp[TV.only,TV.CG]
 | .bK id n=>by trivial
 | .ptr (.o id) off=>by trivial
 | .ptr (.x id) off=>by trivial
 | .ptr (.s id) off=>by trivial
 | .ep e off=>by trivial
 | .tV id n i off=>by trivial
 | .clo f caps=>by simp[TV.only,TV.CG]
 | .mref id=>by trivial
 | .sx xs=>by trivial
 | .Qg id n j=>by trivial
theorem TV.CG:∀ts:List TV,TV.uw (fun _=>True) ts
 | []=>by trivial
 | t::ts=>by simp[TV.uw,TV.Wx,TV.CG]
end
abbrev uG:=Ext (fun _=>True)
theorem aV.up{E E':En}{t:TV}{u:Value}(r:aV E t u)(h:uG E E'):aV E' t u:=aV.ext h t u (TV.Wx t) r
theorem b_.up{E E':En}{t:List TV}{u:List Value}(r:b_ E t u)(h:uG E E'):b_ E' t u:=b_.ext h t u (TV.CG t) r
theorem Rep.up{E E':En}{t:D}{u:Value}(r:Rep E t u)(h:uG E E'):Rep E' t u:=Rep.ext h.r t u r
def eP(E:En)(us:List Value):Nat→List TV→Prop
 | _,[]=>True
 | o,t::ts=>(∃u,us[o]? = some u∧u.oneCell'=true∧aV E t u)∧eP E us (o+1) ts
def iJ(E:En)(us:List Value)(k:Nat):Nat→List (List TV)→Prop
 | _,[]=>True
 | o,e::es=>e.length=k∧eP E us o e∧iJ E us k (o+k) es
def En.own(E:En)(p:Pl):Option Nat:=
 match E.blk p with
 | some b=>some b
 | none=>match p with
   | .o id=>(E.val id).bind fun x=>x.2.2.ownBlock
   | _=>none
def uV(E:En):List (Int×D)→List MapEntry→Prop
 | [],l=>l = []
 | (k,d)::es,l=>∃a l',l=a::l'∧a.key = .int .i64 k∧a.val.oneCell'=true∧Rep E d a.val∧uV E es l'
theorem uV.ext{E E':En}(h:P6 E E'):∀{es:List (Int×D)} {l:List MapEntry},uV E es l→uV E' es l
 | [],_,r=>r
 | (_,d)::_,_,⟨a,l',h1,h2,h3,h4,h5⟩=>⟨a,l',h1,h2,h3,Rep.ext h d _ h4,uV.ext h h5⟩
def nH(E:En):List (List Int×TV)→List MapEntry→Prop
 | [],l=>l = []
 | (k,v)::es,l=>∃a l',l=a::l'∧a.key=jX k∧aV E v a.val∧nH E es l'
theorem nH.up{E E':En}(h:uG E E'):∀{es:List (List Int×TV)} {l:List MapEntry},nH E es l→nH E' es l
 | [],_,r=>r
 | (_,_)::_,_,⟨a,l',h1,h2,h3,h4⟩=>⟨a,l',h1,h2,h3.up h,nH.up h h4⟩
theorem nH.ext{po:Nat→Prop}{E E':En}(h:Ext po E E'):∀{es:List (List Int×TV)} {l:List MapEntry},(∀x∈es,x.2.only po)→nH E es l→nH E' es l
 | [],_,_,r=>r
 | (_,v)::_,_,p,⟨a,l',h1,h2,h3,h4⟩=>⟨a,l',h1,h2,aV.ext h v _ (p _ (List.mem_cons_self ..)) h3,nH.ext h (fun x hx=>p x (dM _ hx)) h4⟩
def ajB(l:Array MapEntry):Option (List Int)→Value→Prop
 | none,_=>True
 | some k,v=>∃a∈l.toList,a.key=jX k∧v = .int .i64 a.born
def ajl(s:oO)(left:List (List Int))(cur:Option (List Int))(seen:Array Nat):Prop:=
 ((s.l.toList.filter fun x=>!seen.contains x.born).map (·.key)).Perm (left.map jX)∧(∀x∈s.l.toList,x.born<s.clock)∧∀k,cur=some k→∃x∈s.l.toList,x.key=jX k∧seen.back? = some x.born
def ML(w:World)(e:TypeId)(k:Nat)(v:Value)(n:Nat)(xs:List Value):Prop:=
 xs.length=n*k∧∃g o cap cur,v = .slice (some ⟨g,o,none⟩) n cap∧w.heap[g]? = some (.cells cur e (0,0))∧n≤cap∧cap≤maxLen∧o+cap*k≤cur.size∧(cur.toList.drop o).take (n*k)=xs
def zD(E:En)(p:Pl):It→Prop
 | .none=>∀id,p = .o id→E.blk p=none∧E.val id=none
 | .v _=>E.own p=none
 | .box cs=>(∀id,p = .o id→E.val id=none)∧∃b ty us,E.blk p=some b∧E.w.heap[b]? = some (.cells us ty (0,0))∧us.size=cs.length∧eP E us.toList 0 cs
 | .row e k es _=>E.blk p=none∧∃id v us,p = .o id∧E.val id=some (k,es.length,v)∧E.w.ownsRow 0 e k v es.length us∧iJ E us k 0 es
 | .yj e k es=>E.blk p=none∧∃id v us,p = .o id∧E.val id=some (k,es.length,v)∧ML E.w e k v es.length us∧iJ E us k 0 es
 | .mp es=>(∀id,p = .o id→E.val id=none)∧∃b l clock,E.blk p=some b∧E.w.heap[b]? = some (.map l clock)∧uV E es l.toList∧MapKept.Stamped l clock
 | .jA es c pd s=>∃id b l clock l' ty v,p = .o id∧E.blk p=some b∧E.w.heap[b]? = some (.map l clock)∧l'.Perm l.toList∧nH E es l'∧MapKept.Stamped l clock∧E.val id=some (ty,c,v)∧ajB l pd v∧∀x,s=some x→x=⟨b,l,clock⟩
 | .Mc es s=>E.own p=none∧E.St s.m 0∧E.w.heap[s.m]? = some (.map s.l s.clock)∧MapKept.Stamped s.l s.clock∧∃l',l'.Perm s.l.toList∧nH E es l'
 | .Fb _ s left cur=>(∀id,p = .o id→E.val id=none)∧∃r seen,E.blk p=some r∧E.w.heap[r]? = some (.mapIter (some s.m) s.clock seen s.clock)∧ajl s left cur seen
structure pX(E:En)(H:S):Prop where
 item:∀p,(∀k,p≠.s k)→zD E p (H p)
 frees:∀k,E.blk (.s k)=none
 inj:∀p q b,E.own p=some b→E.own q=some b→p=q
 size:∀p b,E.own p=some b→b<E.w.heap.size
 uP:∀b o,E.St b o→b<E.w.heap.size
 sep:∀b o,E.St b o→∀p,E.own p=some b→∃e k es,H p = .row e k es true∧o<es.length*k
 gl:∀y∈Zt,gq E y.1 0 y.2
structure Fr(E0 E:En):Prop where
 os:E.w.os=E0.w.os
 tape:E.w.tape=E0.w.tape
 output:E.w.output=E0.w.output
 size:E0.w.heap.size≤E.w.heap.size
 old:∀b,b<E0.w.heap.size→(∀i,E0.blk (.x i)≠some b)→(∀j,E0.own (.o j)≠some b)→E.w.heap[b]? = E0.w.heap[b]?
 xb:∀i,E.blk (.x i)=E0.blk (.x i)
 new:∀id b,E.own (.o id)=some b→E0.w.heap.size≤b∨∃j,E0.own (.o j)=some b
 st:∀b o,E0.St b o→E.St b o
 AU:∀b o,E.St b o→E0.St b o∨(E0.w.heap.size≤b∨∃j,E0.own (.o j)=some b)
structure jL where
 E0:En
 N:Nat
structure iI(A:jL)(t:S)(a:Act)(E:En):Prop where
 h:pX E t
 fr:Fr A.E0 E
 sl:∀k tv,t (.s k) = .v tv→∃u,a.tmps[k]? = some u∧aV E tv u
 defers:a.defers = []
 size:A.N≤a.tmps.size
def Inv(A:jL)(t:S)(a:Act)(w:World):Prop:=∃E:En,E.w=w∧iI A t a E
def upd(t:S)(p:Pl)(i:It):S:=fun q=>if q=p then i else t q
def over(t:S):List (Pl×It)→S
 | []=>t
 | (p,i)::W=>upd (over t W) p i
end Go.Tr

namespace Go.Tr
open Go
theorem qK(b o n:Nat):(⟨b,o,none⟩:Addr).add n=⟨b,o+n,none⟩:=by simp[Addr.add]
theorem eP.up{E E':En}(h:uG E E'){us:List Value}:∀{o:Nat} {ts:List TV},eP E us o ts→eP E' us o ts
 | _,[],_=>trivial
 | _,_::_,⟨⟨u,h1,h2,h3⟩,r⟩=>⟨⟨u,h1,h2,h3.up h⟩,r.up h⟩
theorem iJ.up{E E':En}(h:uG E E'){us:List Value}{k:Nat}:∀{o:Nat} {es:List (List TV)},iJ E us k o es→iJ E' us k o es
 | _,[],_=>trivial
 | _,_::_,⟨h1,h2,r⟩=>⟨h1,h2.up h,r.up h⟩
theorem eP.get{E:En}{us:List Value}:∀{o:Nat} {ts:List TV} (_:eP E us o ts) {i:Nat} {t:TV},ts[i]? = some t→
  ∃u,us[o+i]? = some u∧u.oneCell'=true∧aV E t u
 | _,[],_,_,_,h=>by trivial
 | o,t::ts,⟨h,r⟩,0,t',e=>by simp_all
 | o,t::ts,⟨_,r⟩,i+1,t',e=>by
   have:=eP.get r (i:=i) (t:=t') (by simpa using e)
   rwa [show o+(i+1)=o+1+i by omega]
theorem eP.lq{E:En}{us:List Value}:∀{o:Nat} {ts:List TV},(∀i t,ts[i]? = some t→∃u,us[o+i]? = some u∧u.oneCell'=true∧aV E t u)→eP E us o ts
 | _,[],_=>trivial
 | o,t::ts,h=>⟨by simpa using h 0 t rfl,eP.lq fun i t' e=>by
   have:=h (i+1) t' (by trivial)
   grind⟩
theorem iJ.get{E:En}{us:List Value}{k:Nat}:∀{o:Nat} {es:List (List TV)} (_:iJ E us k o es) {i:Nat} {e:List TV},es[i]? = some e→
  e.length=k∧eP E us (o+i*k) e
 | _,[],_,_,_,h=>by trivial
 | o,e::es,⟨h1,h2,r⟩,0,e',he=>by simp_all
 | o,e::es,⟨_,_,r⟩,i+1,e',he=>by
   have:=iJ.get r (i:=i) (e:=e') (by trivial)
   grind
theorem iJ.lq{E:En}{us:List Value}{k:Nat}:∀{o:Nat} {es:List (List TV)},(∀i e,es[i]? = some e→e.length=k∧eP E us (o+i*k) e)→iJ E us k o es
 | _,[],_=>trivial
 | o,e::es,h=>⟨(h 0 e rfl).1,by simpa using(h 0 e rfl).2,iJ.lq fun i e' he=>by
   have:=h (i+1) e' (by trivial)
   grind⟩
theorem mV.get{E:En}{b k:Nat}:∀{o:Nat} {xs:List (List D)} (_:mV E b k o xs) {i:Nat} {e:List D},xs[i]? = some e→
  e.length=k∧gq E b (o+i*k) e
 | _,[],_,_,_,h=>by trivial
 | o,e::es,h,0,e',he=>by grind[mV]
 | o,e::es,h,i+1,e',he=>by
   have:=mV.get h.2.2 (i:=i) (e:=e') (by simpa using he);refine⟨this.1,?_⟩;have h:=this.2
   rwa [show o+k+i*k=o+(i+1)*k by rw[dX];omega]at h
theorem mV.lq{E:En}{b k:Nat}:∀{o:Nat} {xs:List (List D)},(∀i e,xs[i]? = some e→e.length=k∧gq E b (o+i*k) e)→mV E b k o xs
 | _,[],_=>by trivial
 | o,e::es,h=>by
   exact⟨(h 0 e rfl).1,by simpa using(h 0 e rfl).2,mV.lq fun i e' he=>by
    have:=h (i+1) e' (by trivial)
    grind⟩
theorem gq.get{E:En}{b:Nat}:∀{o:Nat} {xs:List D} (_:gq E b o xs) {i:Nat} {x:D},xs[i]? = some x→
  E.St b (o+i)∧∃u,E.w.cell? ⟨b,o+i,none⟩ = some u∧Rep E x u
 | _,[],_,_,_,h=>by trivial
 | o,x::ds,h,0,x',he=>by grind[gq]
 | o,x::ds,h,i+1,x',he=>by
   have:=gq.get h.2 (i:=i) (x:=x') (by trivial)
   grind
theorem gq.lq{E:En}{b:Nat}:∀{o:Nat} {xs:List D},(∀i x,xs[i]? = some x→E.St b (o+i)∧∃u,E.w.cell? ⟨b,o+i,none⟩ = some u∧Rep E x u)→gq E b o xs
 | _,[],_=>by trivial
 | o,x::ds,h=>by
   exact⟨by simpa using h 0 x rfl,gq.lq fun i x' he=>by
    have:=h (i+1) x' (by trivial)
    grind⟩
theorem Rep.one{E:En}:∀{x:D} {u:Value},Rep E x u→u.oneCell'=true
 | .int k n,u,h=>by subst h;rfl
 | .bool b,u,h=>by subst h;rfl
 | .str s,u,h=>by subst h;rfl
 | .sl xs,u,h=>by rcases h with⟨_,a,c,rfl⟩|⟨b,o,c,k,rfl,_⟩<;>rfl
 | .mp ks vs,u,h=>by obtain⟨b,l,clock,l',rfl,_⟩:=h;rfl
def TV.one:TV→Bool
 | .d _|.bK _ _|.ptr _ _|.ep _ _|.tV _ _ _ _|.clo _ _|.mref _|.sx _|.Qg _ _ _=>true
 | .c v=>v.oneCell'
 | _=>false
theorem aV.one{E:En}:∀{t:TV} {u:Value},t.one=true→aV E t u→u.oneCell'=true
 | .d x,u,_,h=>by simp only[aV]at h;exact h.one
 | .c v,u,h1,h=>by grind[aV,TV.one]
 | .bK id n,u,_,h=>by grind[aV]
 | .ptr p off,u,_,h=>by obtain⟨b,_,rfl⟩:=h;rfl
 | .ep e off,u,_,h=>by obtain⟨b,o,rfl,_⟩:=h;rfl
 | .tV id n i off,u,_,h=>by grind[aV]
 | .Qg id n j,u,_,h=>by grind[aV]
 | .mref id,u,_,h=>by obtain⟨b,_,rfl⟩:=h;rfl
 | .sx xs,u,_,h=>by obtain⟨_,b,rfl⟩:=h;rfl
 | .clo f caps,u,_,h=>by obtain⟨us,rfl,_⟩:=h;rfl
 | .junk,_,h,_=>by trivial
 | .agg _,_,h,_=>by trivial
 | .sZ _,_,h,_=>by trivial
theorem b_.length{E:En}:∀{ts:List TV} {us:List Value},b_ E ts us→us.length=ts.length
 | [],us,h=>by grind[b_]
 | t::ts,us,h=>by obtain⟨u,us',rfl,_,h2⟩:=h;simp[h2.length]
theorem b_.get{E:En}:∀{ts:List TV} {us:List Value},b_ E ts us→∀{i:Nat} {t:TV},ts[i]? = some t→∃u,us[i]? = some u∧aV E t u
 | [],us,h,i,t,e=>by trivial
 | t::ts,us,h,i,t',e=>by
   obtain⟨u,us',rfl,h1,h2⟩:=h;cases i with
   | zero=>simp_all
   | succ i=>simpa using h2.get (i:=i) (by trivial)
theorem b_.lq{E:En}:∀{ts:List TV} {us:List Value},us.length=ts.length→(∀(i:Nat) (t:TV) (u:Value),ts[i]? = some t→us[i]? = some u→aV E t u)→b_ E ts us
 | [],us,hl,_=>by grind[b_]
 | t::ts,[],hl,_=>by trivial
 | t::ts,u::us,hl,h=>by exact⟨u,us,rfl,h 0 t u rfl rfl,b_.lq (by simp_all) fun i t' u' e e'=>h (i+1) t' u' (by trivial) (by trivial)⟩
theorem b_.cells{E:En}{ts:List TV}{us:List Value}(h:b_ E ts us)(h1:∀t∈ts,t.one=true):eP E us 0 ts:=
 eP.lq fun i t e=>by obtain⟨u,hu,hr⟩:=h.get e;exact⟨u,by simp[*],hr.one (h1 t (bU e)),hr⟩
theorem pX.slot{E:En}{H:S}(h:pX E H)(k:Nat)(i:It):pX E (upd H (.s k) i) where
 item p hp:=by rw[upd,if_neg (hp k)];exact h.item p hp
 frees:=h.frees
 inj:=h.inj
 size:=h.size
 uP:=h.uP
 gl:=h.gl
 sep b o hst p hp:=by
  obtain⟨e,k',es,h1,h2⟩:=h.sep b o hst p hp;refine⟨e,k',es,?_,h2⟩;rw[upd,if_neg]
  ·omega
  ·rintro rfl;simp[En.own,h.frees k]at hp
theorem En.qB{E E':En}{p:Pl}(hb:E'.blk p=E.blk p)(hv:∀id,p = .o id→E'.val id=E.val id):E'.own p=E.own p:=by
 unfold En.own
 grind
theorem zD.up{E E':En}{p:Pl}{it:It}(h:zD E p it)(x:uG E E')(hb:E'.blk p=E.blk p)(hv:∀id,p = .o id→E'.val id=E.val id)
  (hh:∀b,E.own p=some b→E'.w.heap[b]? = E.w.heap[b]?):zD E' p it:=by
 cases it with
 | none=>exact fun id e=>by rw[hb,hv id e];exact h id e
 | v t=>exact(En.qB hb hv).trans h
 | box cs=>obtain⟨h0,b,ty,us,h1,h2,h3,h4⟩:=h;exact⟨fun id e=>by simp[*],b,ty,us,hb.trans h1,(hh b (by simp[En.own,h1])).trans h2,h3,h4.up x⟩
 | row e k es sh=>
   obtain⟨h0,id,v,us,rfl,h1,h2,h3⟩:=h;refine⟨hb.trans h0,id,v,us,rfl,(hv id rfl).trans h1,⟨h2.1,?_⟩,h3.up x⟩;rcases h2.2 with hn|⟨g,cap,cur,rfl,hg,hgg,rest⟩
   ·simp[*]
   ·exact .inr ⟨g,cap,cur,rfl,hg,(hh g (by grind[En.own,Value.ownBlock])).trans hgg,rest⟩
 | yj e k es=>obtain⟨h0,id,v,us,rfl,h1,h2,h3⟩:=h;obtain⟨h4,g,o,cap,cur,rfl,hgg,rest⟩:=h2;exact⟨hb.trans h0,id,_,us,rfl,(hv id rfl).trans h1,⟨h4,g,o,cap,cur,rfl,(hh g (by grind[En.own,Value.ownBlock])).trans hgg,rest⟩,h3.up x⟩
 | mp es=>obtain⟨h0,b,l,clock,h1,h2,h3,h4⟩:=h;exact⟨fun id e=>by simp[*],b,l,clock,hb.trans h1,(hh b (by simp[En.own,h1])).trans h2,h3.ext x.r,h4⟩
 | jA es c pd s=>obtain⟨id,b,l,clock,l',ty,v,rfl,h1,h2,h3,h4,h5,h6,h7,h8⟩:=h;exact⟨id,b,l,clock,l',ty,v,rfl,hb.trans h1,(hh b (by grind[En.own])).trans h2,h3,h4.up x,h5,(hv id rfl).trans h6,h7,h8⟩
 | Mc es s=>obtain⟨h0,h1,h2,h3,l',h4,h5⟩:=h;exact⟨(En.qB hb hv).trans h0,x.st _ _ h1,OI (x.cell _ _ h1) h2,h3,l',h4,h5.up x⟩
 | Fb m s left cur=>obtain⟨h0,r,seen,h1,h2,h3⟩:=h;exact⟨fun id e=>by simp[*],r,seen,hb.trans h1,(hh r (by simp[En.own,h1])).trans h2,h3⟩
theorem pX.change{E E':En}{H:S}{p:Pl}{it:It}(h:pX E H)(hp:∀k,p≠.s k)(x:uG E E')
  (hSt:∀b o,E'.St b o→E.St b o∨(E'.own p≠some b∧E.w.heap.size≤b∧b<E'.w.heap.size)) (hblk:∀q,q≠p→E'.blk q=E.blk q) (hval:∀id,p≠.o id→E'.val id=E.val id)
  (hs:E.w.heap.size≤E'.w.heap.size) (hoth:∀q b,q≠p→E.own q=some b→E'.w.heap[b]? = E.w.heap[b]?)
  (hown:∀b,E'.own p=some b→b<E'.w.heap.size∧(E.own p=some b∨E.w.heap.size≤b))
  (hit:zD E' p it) (hsep:∀b o,E.St b o→E'.own p=some b→∃e k es,it = .row e k es true∧o<es.length*k):pX E' (upd H p it):=by
 have hq:∀q,q≠p→E'.own q=E.own q:=fun q hne=>En.qB (hblk q hne) (fun id e=>hval id (fun e'=>hne (e.trans e'.symm)))
 refine⟨fun q hqs=>?_,fun k=>?_,fun q r b h1 h2=>?_,fun q b h1=>?_,fun b o h1=>?_,fun b o h1 q h2=>?_,fun y hy=>gq.ext x.r _ _ _ (h.gl y hy)⟩
 ·by_cases e:q=p
  ·subst e;simpa only[upd,if_true]using hit
  ·rw[upd,if_neg e];exact(h.item q hqs).up x (hblk q e) (fun id e'=>hval id (fun e''=>e (e'.trans e''.symm))) (fun b hb=>hoth q b e hb)
 ·rw[hblk _ (fun e=>hp k e.symm)];exact h.frees k
 ·by_cases e1:q=p<;>by_cases e2:r=p
  ·rw[e1,e2]
  ·subst e1;rw[hq r e2]at h2
   rcases (hown b h1).2 with h3|h3
   ·exact h.inj _ _ b h3 h2
   grind
  ·subst e2;rw[hq q e1]at h1
   rcases (hown b h2).2 with h3|h3
   ·exact h.inj _ _ b h1 h3
   grind
  ·rw[hq q e1]at h1;rw[hq r e2]at h2;exact h.inj _ _ b h1 h2
 ·by_cases e:q=p
  ·simp_all
  ·rw[hq q e]at h1;exact fC (h.size q b h1) hs
 ·rcases hSt b o h1 with h2|⟨_,_,h2⟩
  ·exact fC (h.uP b o h2) hs
  omega
 ·rcases hSt b o h1 with h3|⟨hb,h3,_⟩
  ·by_cases e:q=p
   ·subst e;obtain⟨e',k,es,h4,h5⟩:=hsep b o h3 h2;exact⟨e',k,es,by simpa only[upd,if_true]using h4,h5⟩
   ·rw[hq q e]at h2
    obtain⟨e',k,es,h4,h5⟩:=h.sep b o h3 q h2;exact⟨e',k,es,by rw[upd,if_neg e];exact h4,h5⟩
  ·by_cases e:q=p
   ·subst e;exact absurd h2 hb
   ·rw[hq q e]at h2
    have:=h.size q b h2;omega
theorem pX.more{E E':En}{H:S}(h:pX E H)(x:uG E E')(hblk:E'.blk=E.blk)(hval:E'.val=E.val)(hs:E.w.heap.size≤E'.w.heap.size)
  (hoth:∀b,b<E.w.heap.size→E'.w.heap[b]? = E.w.heap[b]?)
  (hSt:∀b o,E'.St b o→E.St b o∨(b<E'.w.heap.size∧∀p,E.own p=some b→∃e k es,H p = .row e k es true∧o<es.length*k)):pX E' H:=by
 have hq:∀q,E'.own q=E.own q:=by grind[En.qB]
 refine⟨fun q hqs=>(h.item q hqs).up x (by rw[hblk]) (fun id _=>by rw[hval]) (fun b hb=>hoth b (h.size q b hb)),fun k=>by rw[hblk];exact h.frees k,
  fun q r b h1 h2=>h.inj q r b (by rwa [hq]at h1) (by rwa [hq]at h2),fun q b h1=>fC (h.size q b (by rwa [hq]at h1)) hs,fun b o h1=>?_,fun b o h1 q h2=>?_,fun y hy=>gq.ext x.r _ _ _ (h.gl y hy)⟩
 ·rcases hSt b o h1 with h2|h2
  ·exact fC (h.uP b o h2) hs
  omega
 ·rcases hSt b o h1 with h3|h3
  ·exact h.sep b o h3 q (by rwa [hq]at h2)
  simp_all
set_option linter.unusedSimpArgs false
def xW(P:Program)(t:TypeId):Option Bool:=(P.underlying t).map fun|.struct _|.array _ _=>true|_=>false
def wL(P:Program)(t:TypeId)(f:Nat):Option (Nat×TypeId):=match P.underlying t with|some (.struct fs)=>(fs[f]?).map fun f=>(f.offset,f.type)|_=>none
def wI(P:Program)(t:TypeId):Option TypeId:=match P.underlying t with|some (.slice e)=>some e|_=>none
def arE(P:Program)(t:TypeId):Option (Nat×TypeId):=match P.underlying t with|some (.array n e)=>some (n,e)|_=>none
def qp(P:Program)(t:TypeId):Option Nat:=(P.info? t).map (·.size)
def Ky(P:Program)(t:TypeId):Option Nat:=(P.info? t).map (·.bytes)
def wS(P:Program)(t:TypeId):Option Value:=(P.info? t).bind (·.zero)
def knd(P:Program)(t:TypeId):Option IntKind:=match P.underlying t with|some (.int k)=>some k|_=>none
def isStr(P:Program)(t:TypeId):Bool:=match P.underlying t with|some .string=>true|_=>false
def o7:Value→TV
 | .int k n=>.d (.int k n)
 | .bool b=>.d (.bool b)
 | .string s=>.d (.str s)
 | v=>.c v
def adw:Value→TV
 | .agg cs=>.agg (cs.toList.map o7)
 | v=>o7 v
theorem sO(E:En)(v:Value):aV E (o7 v) v:=by
 unfold o7
 grind[aV,Rep]
theorem Ah(E:En):∀vs:List Value,b_ E (vs.map o7) vs
 | []=>by rfl
 | v::vs=>by exact⟨v,vs,rfl,sO E v,Ah E vs⟩
theorem afi(E:En)(v:Value):aV E (adw v) v:=by
 unfold adw;split
 ·exact⟨_,rfl,Ah E _⟩
 simp[sO]
def gev(g:Nat):TV:=match Zt.find? (fun y=>y.1==g)with|some y=>.ep y.2 0|none=>.junk
def ev(t:S):Operand→TV
 | .tmp k=>match t (.s k)with|.v x=>x|_=>.junk
 | .const v=>adw v
 | .func f=>.clo f []
 | .global g=>gev g
def pl:Operand→List Pl
 | .tmp k=>[.s k]
 | _=>[]
theorem dS{A:jL}{t:S}{a:Act}{E:En}(h:iI A t a E)(x:Operand):aV E (ev t x) (a.eval x):=by
 cases x with
 | tmp k=>
   simp only[ev];split
   ·rename_i tv ht;obtain⟨u,hu,hr⟩:=h.sl k tv ht;simpa only[Act.eval,Array.getD_eq_getD_getElem?,hu,bf]using hr
   trivial
 | const v=>exact afi E v
 | global g=>
   simp only[ev,gev];split
   ·rename_i y hy;have h1:=h.h.gl y (gG hy);have h2:=qG hy;simp only[aV,Act.eval]
    grind
   trivial
 | func f=>simp only[ev,aV,b_,Act.eval];simp
theorem fZ{t t':S}{x:Operand}(h:∀p∈pl x,t' p=t p):ev t' x=ev t x:=by
 cases x<;>simp only[ev]
 grind[pl]
structure Eff where
 C:Prop
 rp:List Pl
 W:List (Pl×It)
 v:TV
def aqW(nx:Next)(u:Value):Prop:=nx = .value u∨(nx = .skip∧u=undef)
def jD(P:Program)(A:jL)(o:Oper)(t:S)(e:Eff):Prop:=
 e.C→∀t',(∀p∈e.rp,t' p=t p)→∀a E,iI A t' a E→
  ∃nx u E',(execOp a.eval o).run P E.w = .ok nx E'.w∧aqW nx u∧iI A (over t' e.W) a E'∧aV E' e.v u
theorem jD.pure{P:Program}{A:jL}{o:Oper}{t:S}{C:Prop}{rp:List Pl}{v:TV}
  (h:C→∀t',(∀p∈rp,t' p=t p)→∀a E,iI A t' a E→∃u,(execOp a.eval o).run P E.w = .ok (.value u) E.w∧aV E v u) :
  jD P A o t ⟨C,rp,[],v⟩:=fun hC t' hr a E hi=>by
 obtain⟨u,h1,h2⟩:=h hC t' hr a E hi;exact⟨_,u,E,h1,.inl rfl,hi,h2⟩
theorem dw{l r:List Pl}{t t':S}(h:∀p∈l++r,t' p=t p):∀p∈l,t' p=t p:=fun p hp=>h p (pG _ hp)
theorem bg{l r:List Pl}{t t':S}(h:∀p∈l++r,t' p=t p):∀p∈r,t' p=t p:=fun p hp=>h p (lQ _ hp)
def TV.cells:TV→List TV
 | .agg vs=>vs
 | v=>[v]
def aiF(k:IntKind)(a b:Int):Int:=k.wrap (BitVec.ofInt k.bits a&&&BitVec.ofInt k.bits b).toNat
def orI(k:IntKind)(a b:Int):Int:=k.wrap (BitVec.ofInt k.bits a|||BitVec.ofInt k.bits b).toNat
def an3(k:IntKind)(a b:Int):Int:=k.wrap (BitVec.ofInt k.bits a ^^^ BitVec.ofInt k.bits b).toNat
def Qj(k:IntKind)(a b:Int):Int:=k.wrap (BitVec.ofInt k.bits a &&& ~~~ BitVec.ofInt k.bits b).toNat
def anG(k:IntKind)(n:Int):Int:=k.wrap (BitVec.ofInt k.bits (if k.signed then -1 else k.max) ^^^ BitVec.ofInt k.bits n).toNat
def ajO(k:IntKind)(a b:Int):Int:=k.wrap (a*2^(min b.toNat k.bits))
def aaA(k:IntKind)(a b:Int):Int:=a.fdiv (2^(min b.toNat k.bits))
def aiK(op:BinOp)(k:IntKind)(a b:Int):Option (Prop×TV):=
 match op with
 | .add=>some (True,.d (.int k (k.wrap (a+b))))
 | .sub=>some (True,.d (.int k (k.wrap (a-b))))
 | .mul=>some (True,.d (.int k (k.wrap (a*b))))
 | .quo=>some (b≠0,.d (.int k (k.wrap (a.tdiv b))))
 | .rem=>some (b≠0,.d (.int k (a.tmod b)))
 | .and=>some (True,.d (.int k (aiF k a b)))
 | .or=>some (True,.d (.int k (orI k a b)))
 | .xor=>some (True,.d (.int k (an3 k a b)))
 | .andNot=>some (True,.d (.int k (Qj k a b)))
 | .eql=>some (True,.d (.bool (a==b)))
 | .neq=>some (True,.d (.bool (a != b)))
 | .lss=>some (True,.d (.bool (a<b)))
 | .leq=>some (True,.d (.bool (a≤b)))
 | .gtr=>some (True,.d (.bool (a>b)))
 | .geq=>some (True,.d (.bool (a ≥ b)))
 | _=>none
def aku(op:BinOp)(k:IntKind)(a b:Int):Option (Prop×TV):=
 match op with
 | .shl=>some (0≤b,.d (.int k (ajO k a b)))
 | .shr=>some (0≤b,.d (.int k (aaA k a b)))
 | _=>none
def Q7(op:BinOp)(a b:ByteArray):Option (Prop×TV):=
 match op with
 | .add=>some (a.size+b.size≤9223372036854775807,.d (.str (a++b)))
 | .eql=>some (True,.d (.bool (a.toList==b.toList)))
 | .neq=>some (True,.d (.bool (!(a.toList==b.toList))))
 | .lss=>some (True,.d (.bool (Op.bytesLess a.toList b.toList)))
 | .gtr=>some (True,.d (.bool (!(Op.bytesLess a.toList b.toList||a.toList==b.toList))))
 | .leq=>some (True,.d (.bool (Op.bytesLess a.toList b.toList||a.toList==b.toList)))
 | .geq=>some (True,.d (.bool (!Op.bytesLess a.toList b.toList)))
 | _=>none
def QC:BinOp→Bool
 | .shl|.shr=>true
 | _=>false
def af7(P:Program)(op:BinOp)(ty:TypeId):TV→TV→Option (Prop×TV)
 | .d (.int k a),.d (.int k' b)=>if QC op then aku op k a b else if k=k' then aiK op k a b else none
 | .d (.str a),.d (.str b)=>Q7 op a b
 | .d (.bool a),.d (.bool b)=>match P.underlying ty,op with
   | some .bool,.eql=>some (True,.d (.bool (a==b)))
   | some .bool,.neq=>some (True,.d (.bool (!(a==b))))
   | _,_=>none
 | .d (.sl xs),.c (.slice none 0 0)=>match P.underlying ty,op with
   | some (.slice _),.eql=>some (0<xs.length,.d (.bool false))
   | some (.slice _),.neq=>some (0<xs.length,.d (.bool true))
   | _,_=>none
 | .c (.slice a _ _),.c (.slice none 0 0)=>match P.underlying ty,op with
   | some (.slice _),.eql=>some (True,.d (.bool a.isNone))
   | some (.slice _),.neq=>some (True,.d (.bool (!a.isNone)))
   | _,_=>none
 | .ep _ _,.c (.pointer none)=>match P.underlying ty,op with
   | some (.pointer _),.eql=>some (True,.d (.bool false))
   | some (.pointer _),.neq=>some (True,.d (.bool true))
   | _,_=>none
 | .ptr _ _,.c (.pointer none)=>match P.underlying ty,op with
   | some (.pointer _),.eql=>some (True,.d (.bool false))
   | some (.pointer _),.neq=>some (True,.d (.bool true))
   | _,_=>none
 | .c (.pointer a),.c (.pointer none)=>match P.underlying ty,op with
   | some (.pointer _),.eql=>some (True,.d (.bool a.isNone))
   | some (.pointer _),.neq=>some (True,.d (.bool (!a.isNone)))
   | _,_=>none
 | _,_=>none
theorem Jp{P:Program}{ty e:TypeId}(h:P.underlying ty=some (.slice e))(a:Option Addr)(n c m d k:Nat)(w:World):(Op.equalIn (k+1) ty (.slice a n c) (.slice none m d)).run P w = .ok a.isNone w:=by cases a<;>simp[Op.equalIn,Sem.run_bind,run_underlying h]
theorem DR{P:Program}{ty e:TypeId}(h:P.underlying ty=some (.pointer e))(a:Option Addr)(k:Nat)(w:World):(Op.equalIn (k+1) ty (.pointer a) (.pointer none)).run P w = .ok a.isNone w:=by cases a<;>simp[Op.equalIn,Sem.run_bind,run_underlying h]
theorem aiJ{P:Program}{op:BinOp}{ty:TypeId}{x y v:TV}{C:Prop}(h:af7 P op ty x y=some (C,v))(hC:C){E:En}{u u':Value}(hx:aV E x u)(hy:aV E y u')
  (xo yo:Operand) (w:World):∃r,((do eqGuard op ty xo yo u u';binOp op ty u u':Sem Value)).run P w = .ok r w∧aV E v r:=by
 unfold af7 at h;split at h
 ·rename_i k a k' b;simp only[aV,Rep]at hx hy;subst hx;subst hy;rw[eqGuard_at_int];split at h
  ·rename_i hs;cases op<;>first
    | (simp only[QC,bI]at hs;done)
    | (simp only[aku,aj,aK]at h
       obtain⟨rfl,rfl⟩:=h;simp[binOp,Op.shift,show ¬b<0 by omega,aV,Rep,ajO,aaA])
  ·rename_i hs;split at h
   ·rename_i hk;subst hk;cases op<;>first
     | (simp only[QC,not_true_eq_false]at hs;done)
     | (simp only[aiK,aj,aK]at h
        obtain⟨rfl,rfl⟩:=h;simp[binOp,Op.intArith,Op.intDiv,Op.intBits,Op.intCmp,aV,Rep,aiF,orI,an3,Qj]
        done)
     | (simp only[aiK,aj,aK]at h
        obtain⟨rfl,rfl⟩:=h;simp[binOp,Op.intArith,Op.intDiv,Op.intBits,Op.intCmp,aV,Rep,hC])
   trivial
 ·rename_i a b;simp only[aV,Rep]at hx hy;subst hx;subst hy;rw[eqGuard_at_string];cases op<;>first
   | (simp only[Q7,reduceCtorEq]at h;done)
   | (simp only[Q7,aj,aK]at h
      obtain⟨rfl,rfl⟩:=h;simp[binOp,Op.stringOp,aV,Rep]
      done)
   | (simp only[Q7,aj,aK]at h
      obtain⟨rfl,rfl⟩:=h;have h1 :¬(9223372036854775807<(a.size:Int)+(b.size:Int)):=by omega
      simp[binOp,Op.stringOp,aV,Rep,h1])
 ·rename_i a b;simp only[aV,Rep]at hx hy;subst hx;subst hy;rw[eqGuard_at_bool];split at h
  ·rename_i hu;simp only[aj,aK]at h;obtain⟨rfl,rfl⟩:=h;have hb:=run_equalIn_bool (P:=P) w 9999 ty a b hu;simp only[binOp,Op.equal,Op.maxDepth,Sem.run_bind,Sem.run_pure,Result.andThen_ok,hb,Result.ok.injEq,and_true,exists_eq_left',aV,Rep]
  ·rename_i hu;simp only[aj,aK]at h;obtain⟨rfl,rfl⟩:=h;have hb:=run_equalIn_bool (P:=P) w 9999 ty a b hu;simp only[binOp,Op.equal,Op.maxDepth,Sem.run_bind,Sem.run_pure,Result.andThen_ok,hb,Result.ok.injEq,and_true,exists_eq_left',aV,Rep]
  trivial
 ·rename_i xs;simp only[aV,Rep]at hx hy;subst hy;split at h;all_goals first
   | (simp at h;done)
   | (rename_i hu
      simp only[aj,aK]at h;obtain⟨rfl,rfl⟩:=h;rcases hx with⟨h0,_⟩|⟨b,o,c,k,rfl,_⟩
      ·omega
      ·have hb:=Jp hu (some ⟨b,o,none⟩) xs.length c 0 0 9999 w;rw[eqGuard_at_slice];simp only[binOp,Op.equal,Op.maxDepth,Sem.run_bind,Sem.run_pure,Result.andThen_ok,hb,Result.ok.injEq,and_true,exists_eq_left',aV,Rep];rfl)
 ·rename_i a n c;simp only[aV]at hx hy;subst hx;subst hy;split at h;all_goals first
   | (simp at h;done)
   | (rename_i hu
      simp only[aj,aK]at h;obtain⟨rfl,rfl⟩:=h;have hb:=Jp hu a n c 0 0 9999 w;rw[eqGuard_at_slice];simp only[binOp,Op.equal,Op.maxDepth,Sem.run_bind,Sem.run_pure,Result.andThen_ok,hb,Result.ok.injEq,and_true,exists_eq_left',aV,Rep])
 ·simp only[aV]at hx hy;subst hy;obtain⟨b,o,rfl,_⟩:=hx;split at h;all_goals first
   | (simp at h;done)
   | (rename_i hu
      simp only[aj,aK]at h;obtain⟨rfl,rfl⟩:=h;have hb:=fun a=>DR hu a 9999 w
      rw[eqGuard_at_pointer];simp only[binOp,Op.equal,Op.maxDepth,Sem.run_bind,Sem.run_pure,Result.andThen_ok,hb,Result.ok.injEq,and_true,exists_eq_left',aV,Rep];rfl)
 ·simp only[aV]at hx hy;subst hy;obtain⟨b,_,rfl⟩:=hx;split at h;all_goals first
   | (simp at h;done)
   | (rename_i hu
      simp only[aj,aK]at h;obtain⟨rfl,rfl⟩:=h;have hb:=fun a=>DR hu a 9999 w
      rw[eqGuard_at_pointer];simp only[binOp,Op.equal,Op.maxDepth,Sem.run_bind,Sem.run_pure,Result.andThen_ok,hb,Result.ok.injEq,and_true,exists_eq_left',aV,Rep];rfl)
 ·rename_i a;simp only[aV]at hx hy;subst hx;subst hy;split at h;all_goals first
   | (simp at h;done)
   | (rename_i hu
      simp only[aj,aK]at h;obtain⟨rfl,rfl⟩:=h;have hb:=DR hu a 9999 w;rw[eqGuard_at_pointer];simp only[binOp,Op.equal,Op.maxDepth,Sem.run_bind,Sem.run_pure,Result.andThen_ok,hb,Result.ok.injEq,and_true,exists_eq_left',aV,Rep])
 trivial
end Go.Tr
