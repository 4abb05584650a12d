/-
  What functions of the program compute, stated as contracts over plain data; the conditions of each stand in its own statement.
-/
import Derived.Test.YtkikielfhjoogaaGreatDoorZA11
import Derived.Test.YtkikielfhjoogaaGreatDoorZA14
import Derived.Shelf.SlSortCmp.NoneTotal
import Derived.Test.YtkikielfhjoogaaGreatDoorZA13
set_option linter.unusedVariables false
set_option linter.unusedSimpArgs false
set_option linter.unusedSectionVars false
namespace Go.Tr
open Go Go.Proofs Go.Shelf Go.Sort Go.Lib
abbrev KL(zs:List (List Int)):={l:List Int // l∈zs}
def vK(zs:List (List Int))(x:KL zs):List Value:=x.1.map (Value.int .i64)
section
variable {zs:List (List Int)} [Inhabited (KL zs)] {k:Nat}
theorem ady(hz:∀z∈zs,z.length=k)(x:KL zs):(vK zs x).length=k:=by grind[vK]
theorem SB(hz:∀z∈zs,z.length=k)(hk:0<k):∀{ys:List (KL zs)} {t:Nat},t<ys.length*k→(flat (ys.map (·.1)))[t]? = some ((vK zs ys[t/k]!)[t%k]!)
 | [],t,h=>by simp_all
 | z::ys,t,h=>by
   have hz2:=hz z.1 z.2;rw[aC,zM];by_cases ht:t<k
   ·rw[bW (by simp[*]),Nat.div_eq_of_lt ht,Nat.mod_eq_of_lt ht];have:t<(z.1.map (Value.int .i64)).length:=by simp[*]
    rw[aj this]
    show _=some ((vK zs z)[t]!)
    rw[getElem!_pos (vK zs z) t (by trivial)];rfl
   ·obtain⟨s,rfl⟩:∃s,t=s+k:=⟨t-k,by omega⟩
    rw[b_ (by simp[*])];rw[aV,hz2,mM];have h2:s<ys.length*k:=by grind[List.length_cons,Nat.add_mul]
    rw[SB hz hk h2,Nat.add_div_right _ hk,Nat.add_mod_right];rfl
theorem Xm(hz:∀z∈zs,z.length=k)(hk:0<k)(ys:List (KL zs)):(flatK (vK zs) k ys.toArray).toList=flat (ys.map (·.1)):=by
 apply iw;have hl:(flat (ys.map (·.1))).length=ys.length*k:=by rw[CG (k:=k) fun z hz'=>by grind];simp
 grind[SB,flatK]
theorem Z5(hz:∀z∈zs,z.length=k)(hk:0<k){w:World}{b:Nat}{ys:List (KL zs)}{cur:Array Value}{e:TypeId}(h1:w.heap[b]? = some (.cells cur e (0,0)))(h2:cur.toList.take (ys.length*k)=flat (ys.map (·.1))):HoldsK (vK zs) k w b 0 ys.toArray:=fun j hj=>by
 have h3:cur[j]? = some ((flatK (vK zs) k ys.toArray)[j]!):=by
  have h4:(cur.toList.take (ys.length*k))[j]? = some ((flatK (vK zs) k ys.toArray)[j]!):=by grind[flatK,vK,Xm,Array.getElem?_eq_getElem]
  grind
 grind[World.cell?,World.frozen?]
theorem ahU(hz:∀z∈zs,z.length=k)(hk:0<k){w:World}{b:Nat}{ys:List (KL zs)}{cur:Array Value}{e:TypeId}(n:Nat)(os:Array Obj)(h1:w.heap[b]? = some (.cells cur e (0,0)))(hc:ys.length*k≤cur.size):
  w.grownBy (sortWorldK (vK zs) k w b 0 n ys.toArray os) (some b)∧
   ∃cur',(sortWorldK (vK zs) k w b 0 n ys.toArray os).heap[b]? = some (.cells cur' e (0,0))∧cur'.size=cur.size∧cur'.toList.take (ys.length*k)=flat (ys.map (·.1)):=by
 have hsz:(putRowK (vK zs) k (Sort.ahead w n) b 0 ys.toArray).heap.size=w.heap.size:=by simp[putRowK]
 unfold sortWorldK;refine⟨⟨rfl,rfl,rfl,by simp[*],fun j hj hne=>?_⟩,putCells id 0 (flatK (vK zs) k ys.toArray) cur,?_,by simp[putCells],?_⟩
 ·grind[heap_grow_old,putRowK,putRow,mapBlock,Sort.ahead]
 ·grind[heap_grow_old,putRowK,putRow,mapBlock,Sort.ahead,onCells]
 ·rw[←Xm hz hk ys];apply iw;intro i;rw[gZ];by_cases hi:i<ys.length*k
  ·rw[if_pos hi]
   grind[flatK,putCells]
  simp[*]
end
theorem aoC{zs:List (List Int)}:∀(xs:List (List Int)),(∀z∈xs,z∈zs)→∃ys:List (KL zs),ys.map (·.1)=xs
 | [],_=>⟨[],rfl⟩
 | z::xs,h=>by
   obtain⟨ys,hy⟩:=aoC xs fun y hy=>h y (by simp[*])
   exact⟨⟨z,h z (by simp)⟩::ys,by simp[*]⟩
structure yX(cf:List Int→List Int→Int)(zs:List (List Int)):Prop where
 irr:∀x∈zs,¬cf x x<0
 tr:∀x∈zs,∀y∈zs,∀z∈zs,cf x y<0→cf y z<0→cf x z<0
 ntr:∀x∈zs,∀y∈zs,∀z∈zs,¬cf x y<0→¬cf y z<0→¬cf x z<0
 one:∀x∈zs,∀y∈zs,¬cf x y<0→¬cf y x<0→x=y
theorem Bl.of{P:Program}{ρ:Ren}(L:SlLaysF0.n6 P ρ){k:Nat}(hk:0<k)(aE:∀w,(isAgg (ρ.t 24)).run P w = .ok true w)(zE:∀w,(Go.sizeOf (ρ.t 24)).run P w = .ok k w)(cf:List Int→List Int→Int)(g:Nat)
  (eg:∀args w,(callFunc g args).run P w = .ok (.enter g args) w)
  (hcmp:∀(x y:List Int) (W:World),x.length=k→y.length=k→Calls P g #[.agg (x.map (Value.int .i64)).toArray,.agg (y.map (Value.int .i64)).toArray] W fun e w'=>e = .returned (.int .i64 (cf x y))∧∃q os',w'=grow (W.drewN q) os') :
  Bl P (ρ.f 6) g k (yX cf) (fun zs=>zs.mergeSort fun x y=>!decide (cf y x<0)):=by
 refine⟨fun zs=>iO _,fun zs h z hz=>h z (List.mem_mergeSort.1 hz),fun w b cap zs cur e h1 h2 h3 h4 h5 h6 hp h7 h8=>?_,fun p cap w=>AnyF.slices_SortFunc_none L p cap _ w⟩;obtain⟨ys,hys⟩:=aoC (zs:=zs) zs fun _ h=>h
 have hl:ys.length=zs.length:=by grind
 have inh:Inhabited (KL zs):=⟨⟨zs[0],aJ h7⟩⟩
 have hO:SWO (ltOf fun x y:KL zs=>cf x.1 y.1):=
  ⟨fun x=>by have:=hp.irr x.1 x.2;grind[ltOf],fun x y z h1 h2=>by
   have:=hp.tr x.1 x.2 y.1 y.2 z.1 z.2;simp only[ltOf,decide_eq_true_eq]at h1 h2⊢;omega,fun x y z h1 h2=>by
   have:=hp.ntr x.1 x.2 y.1 y.2 z.1 z.2
   grind[ltOf]⟩
 have hT:∀x y:KL zs,(ltOf fun x y:KL zs=>cf x.1 y.1) x y=false→(ltOf fun x y:KL zs=>cf x.1 y.1) y x=false→x=y:=fun x y h1 h2=>by simp only[ltOf,decide_eq_false_iff_not]at h1 h2;exact Subtype.ext (hp.one x.1 x.2 y.1 y.2 h1 h2)
 rw[←hl]at h2 h5 h7 h8⊢
 have h5':cur.toList.take (ys.length*k)=flat (ys.map (·.1)):=by simp_all
 have hcl:CmpLays P g #[] (vK zs) k (fun x y=>cf x.1 y.1) b 0 ys.toArray.size w:=by grind[CmpLays,vK,sortWorldK]
 have hs:=AnyQ.slices_SortFunc_total L k aE zE (vK zs) (ady h6) (fun x v hv=>by simp only[vK,ak]at hv;obtain⟨n,_,rfl⟩:=hv;rfl) (fun x y=>cf x.1 y.1) hO g #[] b 0 cap ys.toArray w eg hcl (Z5 h6 hk h1 h5') (aZ.1 h1).1 (by omega) hT;refine hs.mono fun e' w' ⟨he,n,os,hw⟩=>?_
 have hm:((ys.toArray.toList.mergeSort fun x y=>!(ltOf fun x y:KL zs=>cf x.1 y.1) y x).map (·.1))=zs.mergeSort fun x y=>!decide (cf y x<0):=by
  have:=List.map_mergeSort (f:=fun x:KL zs=>x.1) (l:=ys) (r:=fun x y=>!(ltOf fun x y:KL zs=>cf x.1 y.1) y x) (s:=fun x y=>!decide (cf y x<0)) fun a _ b _=>rfl
  simp[*]
 have hml:(ys.toArray.toList.mergeSort fun x y=>!(ltOf fun x y:KL zs=>cf x.1 y.1) y x).length=ys.length:=iO _;obtain⟨k1,cur',k2,k3,k4⟩:=ahU h6 hk (ys:=ys.toArray.toList.mergeSort fun x y=>!(ltOf fun x y:KL zs=>cf x.1 y.1) y x) n os h1 (by rw[hml,h4];exact dN k h2)
 simp_all
end Go.Tr

namespace Go.Tr
open Go
def ANo{ι:Type}(k:List Pl→List (Pl×It)→Prop)(_:Tg k)(X:ι→Prop):Option (Prop×(ι→List (Pl×It)))→Prop
 | some (C,W)=>C∧∀c,X c→k [] (W c)
 | none=>False
theorem Gp{ι:Type}{k:List Pl→List (Pl×It)→Prop}{g:Tg k}{X:ι→Prop}{C:Prop}{W:ι→List (Pl×It)}:ANo k g X (some (C,W))=(C∧∀c,X c→k [] (W c)):=rfl
section
variable {P:Program} {A:f_} {ops:Array Oper}
def F9(P:Program)(N:Nat)(t:S)(ops:Array Oper):Option Oper→Option (Prop×(jB→List (Pl×It)))
 | some o=>match gv ops t o with
   | some (_,g)=>match o.op with
     | .range ty x=>match ev t x with
       | .mref id=>match t (.o id)with
         | .fO es c pd _=>some (g=true∧mZ N o=true∧EX P ty=true∧t (.o (o.dst.getD 0)) = .none,fun s=>rM o (.ptr (.o (o.dst.getD 0)) 0) [(.o (o.dst.getD 0),.yt id s (es.map (·.1)) none),(.o id,.fO es c pd (some s))])
         | _=>none
       | .d (.mp ks vs)=>some (g=true∧mZ N o=true∧EX P ty=true∧t (.o (o.dst.getD 0)) = .none∧t (.o (o.dst.getD 0+4000000)) = .none,
         fun s=>rM o (.ptr (.o (o.dst.getD 0)) 0) [(.o (o.dst.getD 0),.yt (o.dst.getD 0+4000000) s ((kV ks vs).map (·.1)) none),(.o (o.dst.getD 0+4000000),.BM (kV ks vs) s)])
       | _=>none
     | _=>none
   | none=>none
 | none=>none
theorem oG.range{i:Nat}{t:S}{k:List Pl→List (Pl×It)→Prop}{g:Tg k}(h:ANo k g (fun _=>True) (F9 P A.N t ops ops[i]?)):oG P A ops i t k g:=by
 unfold ANo at h;split at h
 ·rename_i C W hc;obtain⟨h1,h2⟩:=h;refine⟨jB,fun _=>[],W,?_,fun s=>h2 s trivial⟩;unfold F9 at hc;split at hc
  ·rename_i o ho;split at hc
   ·rename_i gp g0 hg;split at hc
    ·rename_i ty x hop;split at hc
     ·rename_i id hx;split at hc
      ·rename_i es c pd s0 ht;simp only[ah,aO]at hc;obtain⟨rfl,rfl⟩:=hc;obtain⟨rfl,q1,q2,q3⟩:=h1;intro a w hinv K Q hK;obtain⟨E,hw,hi⟩:=hinv;subst hw;have hwant:=kU hg (fun _ _=>rfl) hi;obtain⟨kt,e,hu⟩:∃kt e,P.underlying ty=some (.map kt e):=by
        unfold EX at q2;split at q2
        ·rename_i kt e hu;exact⟨kt,e,hu⟩
        ·simp at q2
       obtain⟨s,u,E',r1,r2,r3⟩:=ahG hop hu hx ht q3 t (fun _ _=>rfl) a E hi;unfold wpOp;simp only[ho,hwant,if_true];refine .inl ?_;unfold Oper.wp;rw[r1];exact hK s _ _ ⟨E',rfl,r2.dst q1 r3⟩
      ·simp at hc
     ·rename_i ks vs hx;simp only[ah,aO]at hc;obtain⟨rfl,rfl⟩:=hc;obtain⟨rfl,q1,q2,q3,q4⟩:=h1;intro a w hinv K Q hK;obtain⟨E,hw,hi⟩:=hinv;subst hw;have hwant:=kU hg (fun _ _=>rfl) hi;obtain⟨kt,e,hu⟩:∃kt e,P.underlying ty=some (.map kt e):=by
       unfold EX at q2;split at q2
       ·rename_i kt e hu;exact⟨kt,e,hu⟩
       ·simp at q2
      obtain⟨s,u,E',r1,r2,r3⟩:=aeD hop hu hx q3 q4 (by omega) t (fun _ _=>rfl) a E hi;unfold wpOp;simp only[ho,hwant,if_true];refine .inl ?_;unfold Oper.wp;rw[r1];exact hK s _ _ ⟨E',rfl,r2.dst q1 r3⟩
     ·simp at hc
    ·simp at hc
   ·simp at hc
  ·simp at hc
 ·exact h.elim
def Ph(N:Nat)(t:S)(ops:Array Oper):Option Oper→Option (List (List Int)×(Prop×(Option (List Int)→List (Pl×It))))
 | some o=>match gv ops t o with
   | some (_,g)=>match o.op with
     | .next x false=>match ev t x with
       | .ptr (.o d) off=>match t (.o d)with
         | .yt id s left _=>match t (.o id)with
           | .fO _ _ _ (some s')=>some (left,(g=true∧mZ N o=true∧off=0∧s'=s,fun k=>rM o (wR k) (Yc d id s left k)))
           | .BM _ s'=>some (left,(g=true∧mZ N o=true∧off=0∧s'=s,fun k=>rM o (wR k) (Yc d id s left k)))
           | _=>none
         | _=>none
       | _=>none
     | _=>none
   | none=>none
 | none=>none
def ANn(k:List Pl→List (Pl×It)→Prop)(_:Tg k):Option (List (List Int)×(Prop×(Option (List Int)→List (Pl×It))))→Prop
 | some (left,(C,W))=>C∧(left = []→k [] (W none))∧∀x,x∈left→k [] (W (some x))
 | none=>False
theorem ae7{k:List Pl→List (Pl×It)→Prop}{g:Tg k}{left:List (List Int)}{C:Prop}{W:Option (List Int)→List (Pl×It)}:ANn k g (some (left,(C,W)))=(C∧(left = []→k [] (W none))∧∀x,x∈left→k [] (W (some x))):=rfl
theorem QK.next{i d id off:Nat}{t:S}{o:Oper}{gp:List Pl}{x:Operand}{es:List (List Int×TV)}{s:jB}{left:List (List Int)}{cur:Option (List Int)}(ho:ops[i]? = some o)(hg:gv ops t o=some (gp,true))(hop:o.op = .next x false)(hx:ev t x = .ptr (.o d) off)(hd:t (.o d) = .yt id s left cur)
  (hm:O_ es s (t (.o id))) (q1:mZ A.N o=true) (q2:off=0):QK P A ops i t (ι:={k // Vp left k}) fun k=>rM o (wR k.1) (Yc d id s left k.1):=fun a w hinv K Q hK=>by
 subst q2;obtain⟨E,hw,hi⟩:=hinv;subst hw;have hwant:=kU hg (fun _ _=>rfl) hi;obtain⟨k,u,E',hk,r1,r2,r3⟩:=ajH (P:=P) hop hx hd hm t (fun _ _=>rfl) a E hi;unfold wpOp;simp only[ho,hwant,if_true];refine .inl ?_;unfold Oper.wp;rw[r1];exact hK ⟨k,hk⟩ _ _ ⟨E',rfl,r2.dst q1 r3⟩
theorem oG.next{i:Nat}{t:S}{k:List Pl→List (Pl×It)→Prop}{g:Tg k}(h:ANn k g (Ph A.N t ops ops[i]?)):oG P A ops i t k g:=by
 unfold ANn at h;split at h
 ·rename_i left C W hc;obtain⟨h1,h2,h3⟩:=h;refine⟨{k // Vp left k},fun _=>[],fun k=>W k.1,?_,fun⟨k,hk⟩=>?_⟩
  ·unfold Ph at hc;split at hc
   ·rename_i o ho;split at hc
    ·rename_i gp g0 hg;split at hc
     ·rename_i x hop;split at hc
      ·rename_i d off hx;split at hc
       ·rename_i id s left' cur hd;split at hc
        ·rename_i es c pd s' hm;simp only[ah,aO]at hc;obtain⟨rfl,rfl,rfl⟩:=hc;obtain⟨rfl,q1,q2,rfl⟩:=h1;exact QK.next ho hg hop hx hd (es:=es) (by rw[hm];exact⟨rfl,rfl⟩) q1 q2
        ·rename_i es s' hm;simp only[ah,aO]at hc;obtain⟨rfl,rfl,rfl⟩:=hc;obtain⟨rfl,q1,q2,rfl⟩:=h1;exact QK.next ho hg hop hx hd (es:=es) (by rw[hm];exact⟨rfl,rfl⟩) q1 q2
        ·simp at hc
       ·simp at hc
      ·simp at hc
     ·simp at hc
    ·simp at hc
   ·simp at hc
  ·cases k with
   | none=>exact h2 hk
   | some x=>exact h3 x hk
 ·exact h.elim
attribute [simp] Gp ae7 F9 Ph wR Yc
end
mutual
def TV.rO(id:Nat)(v:D):TV→TV
 | .agg vs=>.agg (TV.vF id v vs)
 | .qh vs=>.qh (TV.vF id v vs)
 | .clo f vs=>.clo f (TV.vF id v vs)
 | .aW i n=>if i=id then .junk else .aW i n
 | .qH i n j q=>if i=id then .junk else .qH i n j q
 | .mref i=>if i=id then .d v else .mref i
 | .LG i n j=>if i=id then .junk else .LG i n j
 | .ptr p q=>if p = .o id then .junk else .ptr p q
 | t=>t
def TV.vF(id:Nat)(v:D):List TV→List TV
 | []=>[]
 | t::ts=>t.rO id v::TV.vF id v ts
end
def EG(id:Nat)(v:D):It→It
 | .v t=>.v (t.rO id v)
 | .box cs=>.box (TV.vF id v cs)
 | .row e k es sh=>.row e k (es.map (TV.vF id v)) sh
 | .sJ e k es=>.sJ e k (es.map (TV.vF id v))
 | .fO es c pd s=>.fO (es.map fun x=>(x.1,x.2.rO id v)) c pd s
 | .BM es s=>.BM (es.map fun x=>(x.1,x.2.rO id v)) s
 | i=>i
def En.rO(E:En)(id b:Nat):En:=
 {E with St:=fun b' o=>E.St b' o∨(b'=b∧o=0),blk:=fun p=>if p = .o id then none else E.blk p,val:=fun k=>if k=id then none else E.val k}
theorem Ox(E:En)(id b:Nat):Fa E (E.rO id b):=⟨fun _ _ h=>.inl h,fun _ _ _=>rfl⟩
section
variable {E:En} {id b:Nat} {v:D}
mutual
theorem MF(hb:E.blk (.o id)=some b)(hv:Rep (E.rO id b) v (.map (some b))):∀{t:TV} {u:Value},aP E t u→aP (E.rO id b) (t.rO id v) u
 | .junk,u,_=>by simp only[TV.rO,aP]
 | .d x,u,h=>by simp only[TV.rO,aP]at h⊢;exact Rep.ext (Ox E id b) x u h
 | .c w,u,h=>by simp only[TV.rO,aP]at h⊢;exact h
 | .agg vs,u,h=>by simp only[TV.rO,aP]at h⊢;obtain⟨us,hu,h⟩:=h;exact⟨us,hu,HY hb hv h⟩
 | .qh vs,u,h=>by simp only[TV.rO,aP]at h⊢;obtain⟨us,hu,h⟩:=h;exact⟨us,hu,HY hb hv h⟩
 | .aW i n,u,h=>by
   simp only[TV.rO];split
   ·simp only[aP]
   ·rename_i e;simp only[aP]at h⊢;obtain⟨h1,k,c,w,h2,h3⟩:=h;exact⟨h1,k,c,w,by simp only[En.rO,if_neg e];exact h2,h3⟩
 | .ptr p q,u,h=>by
   simp only[TV.rO];split
   ·simp only[aP]
   ·rename_i e;simp only[aP]at h⊢;obtain⟨b',h1,h2⟩:=h;exact⟨b',by simp only[En.rO,if_neg e];exact h1,h2⟩
 | .ep e q,u,h=>by simp only[TV.rO,aP]at h⊢;obtain⟨b',o,hu,hc⟩:=h;exact⟨b',o,hu,dU.ext (Ox E id b) b' o e hc⟩
 | .qH i n j q,u,h=>by
   simp only[TV.rO];split
   ·simp only[aP]
   ·rename_i e;simp only[aP]at h⊢;obtain⟨h1,k,c,w,h2,h3⟩:=h;exact⟨h1,k,c,w,by simp only[En.rO,if_neg e];exact h2,h3⟩
 | .LG i n j,u,h=>by
   simp only[TV.rO];split
   ·simp only[aP]
   ·rename_i e;simp only[aP]at h⊢;obtain⟨h1,k,c,w,h2,h3⟩:=h;exact⟨h1,k,c,w,by simp only[En.rO,if_neg e];exact h2,h3⟩
 | .mref i,u,h=>by
   simp only[TV.rO];simp only[aP]at h;obtain⟨b',h1,h2⟩:=h;split
   ·rename_i e;subst e;rw[hb]at h1
    simp only[ah]at h1;subst h1;subst h2;simp only[aP];exact hv
   ·rename_i e;simp only[aP];exact⟨b',by simp only[En.rO];rw[if_neg (by simpa using e)];exact h1,h2⟩
 | .sx xs,u,h=>by simp only[TV.rO,aP]at h⊢;exact⟨Rep.ext (Ox E id b) (.sl xs) u h.1,h.2⟩
 | .clo f vs,u,h=>by simp only[TV.rO,aP]at h⊢;obtain⟨us,hu,h⟩:=h;exact⟨us,hu,HY hb hv h⟩
theorem HY(hb:E.blk (.o id)=some b)(hv:Rep (E.rO id b) v (.map (some b))):∀{ts:List TV} {us:List Value},bD E ts us→bD (E.rO id b) (TV.vF id v ts) us
 | [],us,h=>by simpa only[TV.vF,bD]using h
 | t::ts,us,h=>by simp only[TV.vF,bD]at h⊢;obtain⟨u,us',hu,h1,h2⟩:=h;exact⟨u,us',hu,MF hb hv h1,HY hb hv h2⟩
end
theorem CO:∀ts:List TV,(TV.vF id v ts).length=ts.length
 | []=>by simp only[TV.vF]
 | t::ts=>by simp only[TV.vF,aH,CO ts]
theorem Ov(hb:E.blk (.o id)=some b)(hv:Rep (E.rO id b) v (.map (some b))){us:List Value}:∀{o:Nat} {cs:List TV},cu E us o cs→cu (E.rO id b) us o (TV.vF id v cs)
 | _,[],_=>by simp only[TV.vF];trivial
 | _,_::_,⟨⟨u,h1,h2,h3⟩,r⟩=>by simp only[TV.vF];exact⟨⟨u,h1,h2,MF hb hv h3⟩,Ov hb hv r⟩
theorem ZT(hb:E.blk (.o id)=some b)(hv:Rep (E.rO id b) v (.map (some b))){us:List Value}{k:Nat}:∀{o:Nat} {es:List (List TV)},fC E us k o es→fC (E.rO id b) us k o (es.map (TV.vF id v))
 | _,[],_=>trivial
 | _,_::_,⟨h1,h2,r⟩=>⟨(CO _).trans h1,Ov hb hv h2,ZT hb hv r⟩
theorem alk(hb:E.blk (.o id)=some b)(hv:Rep (E.rO id b) v (.map (some b))):∀{es:List (List Int×TV)} {l:List MapEntry},jW E es l→jW (E.rO id b) (es.map fun x=>(x.1,x.2.rO id v)) l
 | [],_,h=>h
 | _::_,_,⟨e,l',rfl,h1,h2,h3⟩=>⟨e,l',rfl,h1,MF hb hv h2,alk hb hv h3⟩
theorem af6(hb:E.blk (.o id)=some b)(hv:Rep (E.rO id b) v (.map (some b))){p:Pl}(hp:p≠.o id){i:It}(h:vM E p i):vM (E.rO id b) p (EG id v i):=by
 have hblk:(E.rO id b).blk p=E.blk p:=by simp only[En.rO,if_neg hp]
 have hval:∀k,p = .o k→(E.rO id b).val k=E.val k:=fun k e=>by
  have:k≠id:=fun e2=>hp (by rw[e,e2])
  simp only[En.rO,if_neg this]
 cases i with
 | none=>exact fun k e=>by rw[hblk,hval k e];exact h k e
 | v t=>exact(En.mV hblk hval).trans h
 | box cs=>obtain⟨h0,b',ty,us,g1,g2,g3,g4⟩:=h;exact⟨fun k e=>by rw[hval k e];exact h0 k e,b',ty,us,hblk.trans g1,g2,by rw[CO];exact g3,Ov hb hv g4⟩
 | row e k es sh=>obtain⟨h0,i,w,us,rfl,g2,g3,g4⟩:=h;exact⟨hblk.trans h0,i,w,us,rfl,by rw[hval i rfl,aV];exact g2,by rw[aV];exact g3,ZT hb hv g4⟩
 | sJ e k es=>obtain⟨h0,i,w,us,rfl,g2,g3,g4⟩:=h;exact⟨hblk.trans h0,i,w,us,rfl,by rw[hval i rfl,aV];exact g2,by rw[aV];exact g3,ZT hb hv g4⟩
 | mp es=>obtain⟨h0,b',l,clock,g1,g2,g3,g4⟩:=h;exact⟨fun k e=>by rw[hval k e];exact h0 k e,b',l,clock,hblk.trans g1,g2,g3.ext (Ox E id b),g4⟩
 | fO es c pd s=>obtain⟨i,b',l,clock,l',ty,w,rfl,g1,g2,g3,g4,g5,g6,g7,g8⟩:=h;exact⟨i,b',l,clock,l',ty,w,rfl,hblk.trans g1,g2,g3,alk hb hv g4,g5,(hval i rfl).trans g6,g7,g8⟩
 | yt m s left cur=>obtain⟨h0,r,seen,g1,g2,g3⟩:=h;exact⟨fun k e=>by rw[hval k e];exact h0 k e,r,seen,hblk.trans g1,g2,g3⟩
 | BM es s=>obtain⟨h0,g1,g2,g3,l',g4,g5⟩:=h;exact⟨(En.mV hblk hval).trans h0,.inl g1,g2,g3,l',g4,alk hb hv g5⟩
end
def CJ(id:Nat)(v:D)(t:S):S:=fun p=>if p = .o id then .none else EG id v (t p)
def qj(es:List (List Int×D)):D:=.mp (es.map (·.1)) (es.map (·.2))
theorem GS.anW{A:f_}{t:S}{id c:Nat}{es:List (List Int×TV)}{pd:Option (List Int)}{s:Option jB}(v:D)(ht:t (.o id) = .fO es c pd s)
  (hv:∀(E:En) (b:Nat) (l:Array MapEntry) (clock:Nat) (l':List MapEntry),E.w.heap[b]? = some (.map l clock)→l'.Perm l.toList→jW E es l'→MapKept.Stamped l clock→Rep (E.rO id b) v (.map (some b))):GS A t (CJ id v t):=fun a w ⟨E,hw,hi⟩=>by
 obtain⟨b,l,clock,l',ty,w0,hb,hg,hp,hrel,hs,hval,_⟩:=yh hi ht;have nI:E.own (.o id)=some b:=by simp[En.own,hb]
 have hrep:Rep (E.rO id b) v (.map (some b)):=hv E b l clock l' hg hp hrel hs;have hown:∀{p q},(E.rO id b).own p=some q→E.own p=some q∧p≠.o id:=fun {p q} h=>by
  by_cases e:p = .o id
  ·subst e;simp[En.own,En.rO]at h
  ·rw[En.mV (E:=E) (by simp only[En.rO,if_neg e]) (fun k e2=>by
    have:k≠id:=fun e3=>e (by rw[e2,e3])
    simp only[En.rO,if_neg this])]at h
   exact⟨h,e⟩
 refine⟨E.rO id b,hw,⟨⟨fun p hp=>?_,fun k=>?_,fun p q r h1 h2=>hi.h.inj p q r (hown h1).1 (hown h2).1,fun p r h=>hi.h.size p r (hown h).1,fun r o h=>?_,fun r o h1 p h2=>?_,fun y hy=>dU.ext (Ox E id b) _ _ _ (hi.h.gl y hy)⟩,?_,fun k tv hk=>?_,hi.defers,hi.size⟩⟩
 ·unfold CJ;by_cases e:p = .o id
  ·subst e;simp only[if_true];exact fun k e=>by simp only[Pl.o.injEq]at e;subst e;simp[En.rO]
  ·rw[if_neg e];exact af6 hb hrep e (hi.h.item p hp)
 ·simp only[En.rO];rw[if_neg (by simp)];exact hi.h.frees k
 ·rcases h with h|⟨rfl,_⟩
  ·exact hi.h.o_ r o h
  ·exact(aZ.1 hg).1
 ·obtain⟨g1,g2⟩:=hown h2;rcases h1 with h1|⟨rfl,_⟩
  ·obtain⟨e,k,es',g3,g4⟩:=hi.h.sep r o h1 p g1;refine⟨e,k,es'.map (TV.vF id v),?_,by simpa using g4⟩;simp only[CJ,if_neg g2,g3];rfl
  ·exact absurd (hi.h.inj _ _ _ g1 nI) g2
 ·refine⟨hi.fr.os,hi.fr.tape,hi.fr.output,hi.fr.size,hi.fr.old,fun i=>?_,fun i r h=>hi.fr.new i r (hown h).1,fun r o h=>.inl (hi.fr.st r o h),fun r o h=>?_⟩
  ·simp only[En.rO];rw[if_neg (by simp)];exact hi.fr.xb i
  ·rcases h with h|⟨rfl,_⟩
   ·exact hi.fr.xE r o h
   ·exact .inr (hi.fr.new id r nI)
 ·unfold CJ at hk;rw[if_neg (by simp)]at hk
  cases hsk:t (.s k)with
  | v tv'=>
    rw[hsk]at hk
    simp only[EG,It.v.injEq]at hk;subst hk;obtain⟨u,h1,h2⟩:=hi.sl k tv' hsk;exact⟨u,h1,MF hb hrep h2⟩
  | none=>rw[hsk]at hk;simp[EG]at hk
  | box _=>rw[hsk]at hk;simp[EG]at hk
  | row _ _ _ _=>rw[hsk]at hk;simp[EG]at hk
  | sJ _ _ _=>rw[hsk]at hk;simp[EG]at hk
  | mp _=>rw[hsk]at hk;simp[EG]at hk
  | fO _ _ _ _=>rw[hsk]at hk;simp[EG]at hk
  | yt _ _ _ _=>rw[hsk]at hk;simp[EG]at hk
  | BM _ _=>rw[hsk]at hk;simp[EG]at hk
theorem GS.rO{A:f_}{t:S}{id c:Nat}{es:List (List Int×D)}{pd:Option (List Int)}{s:Option jB}(ht:t (.o id) = .fO (es.map fun x=>(x.1,.d x.2)) c pd s):GS A t (CJ id (qj es) t):=
 GS.anW _ ht fun E b l clock l' hg hp hrel hs=>by have h1:=OW hrel;simp only[qj,Rep];exact⟨b,l,clock,l',rfl,.inr ⟨rfl,rfl⟩,hg,hp,hs,h1.1,Bj.ext (Ox E id b) _ _ h1.2⟩
def Bq(es:List (List Int×List D)):D:=.mq (es.map (·.1)) (es.map (·.2))
theorem GS.as5{A:f_}{t:S}{id c:Nat}{es:List (List Int×List D)}{pd:Option (List Int)}{s:Option jB}(ht:t (.o id) = .fO (es.map fun x=>(x.1,.agg (x.2.map .d))) c pd s):GS A t (CJ id (Bq es) t):=
 GS.anW _ ht fun E b l clock l' hg hp hrel hs=>by have h1:=OX hrel;simp only[Bq,Rep];exact⟨b,l,clock,l',rfl,.inr ⟨rfl,rfl⟩,hg,hp,hs,h1.1,zB.ext (Ox E id b) _ _ h1.2⟩
def Hz(id:Nat)(v:D):List (Pl×It)→List (Pl×It)
 | []=>[]
 | (p,i)::l=>if p = .o id then Hz id v l else(p,EG id v i)::Hz id v l
theorem ZR(id:Nat)(v:D):∀l:List (Pl×It),look (Hz id v l) (.o id) = .none
 | []=>rfl
 | (p,i)::l=>by
   by_cases e:p = .o id
   ·simp only[Hz,if_pos e];exact ZR id v l
   ·simp only[Hz,if_neg e,look];rw[if_neg (fun h:Pl.o id=p=>e h.symm)];exact ZR id v l
theorem D5(id:Nat)(v:D):∀(l:List (Pl×It)),CJ id v (look l)=look (Hz id v l)
 | []=>by funext p;unfold CJ;split<;>rfl
 | (q,i)::l=>by
   have ih:=fun p=>congrFun (D5 id v l) p
   funext p
   by_cases hp:p = .o id
   ·subst hp;rw[ZR];simp[CJ]
   ·have h1:=ih p;simp only[CJ,if_neg hp]at h1⊢;by_cases hq:q = .o id
    ·simp only[Hz,if_pos hq,look];rw[if_neg (fun h=>hp (h.trans hq))];exact h1
    ·simp only[Hz,if_neg hq,look];by_cases e:p=q
     ·simp[e]
     ·simp only[if_neg e];exact h1
theorem GS.anV{A:f_}{l l':List (Pl×It)}(id:Nat)(es:List (List Int×D)){c:Nat}{pd:Option (List Int)}{s:Option jB}(ht:look l (.o id) = .fO (es.map fun x=>(x.1,.d x.2)) c pd s)
  (h:Sub (look (Hz id (qj es) l)) l'∧lu l'=lu (Hz id (qj es) l)):GS A (look l) (look l'):=by
 have:=GS.rO (A:=A) ht;rw[D5]at this
 exact this.trans (GS.forget h.1 h.2)
theorem GS.akH{A:f_}{l l':List (Pl×It)}(id:Nat)(es:List (List Int×List D)){c:Nat}{pd:Option (List Int)}{s:Option jB}(ht:look l (.o id) = .fO (es.map fun x=>(x.1,.agg (x.2.map .d))) c pd s)
  (h:Sub (look (Hz id (Bq es) l)) l'∧lu l'=lu (Hz id (Bq es) l)):GS A (look l) (look l'):=by
 have:=GS.as5 (A:=A) ht;rw[D5]at this
 exact this.trans (GS.forget h.1 h.2)
theorem Fin.rO{P:Program}{A:f_}{fn:Func}{r:TV}{xs:List It}{ro:List (Nat×It)}{l:List (Pl×It)}(id:Nat)(es:List (List Int×D)){c:Nat}{pd:Option (List Int)}{s:Option jB}(ht:look l (.o id) = .fO (es.map fun x=>(x.1,.d x.2)) c pd s)
  (h:Fin P A fn r xs ro (look (Hz id (qj es) l))):Fin P A fn r xs ro (look l):=by
 have:=GS.rO (A:=A) ht;rw[D5]at this
 exact h.ghost this
attribute [simp] Hz EG TV.rO TV.vF
end Go.Tr

namespace Go.Tr
open Go
def V3(p:Pl)(i:Nat)(L:List (List Pl×List Pl)):List (List Pl×List Pl):=L.modify i fun x=>(x.1.filter (fun q=>decide (q≠p)),x.2)
def wC(p:Pl)(i:Nat)(L:Log):Log:=L.modify i fun x=>(x.1.filter (fun q=>decide (q≠p)),x.2)
theorem YQ(p:Pl)(i:Nat)(L:Log)(k:Nat):((wC p i L)[k]?).map (·.2)=(L[k]?).map (·.2):=by
 unfold wC;rw[nN];cases L[k]? with
 | none=>rfl
 | some x=>by_cases e:i=k<;>simp[e]
theorem Di(p:Pl)(i:Nat)(L:Log)(X:Nat→Bool)(t:S):∀k,part (wC p i L) X t k=part L X t k
 | 0=>rfl
 | k+1=>by
   have ih:=Di p i L X t k;have hg:=YQ p i L k;rw[part,part,ih];cases h1:(wC p i L)[k]? with
   | none=>cases h2:L[k]? with
     | none=>rfl
     | some y=>rw[h1,h2]at hg;simp at hg
   | some x=>cases h2:L[k]? with
     | none=>rw[h1,h2]at hg;simp at hg
     | some y=>
       rw[h1,h2]at hg
       simp only[bH,ah]at hg;obtain⟨x1,x2⟩:=x;obtain⟨y1,y2⟩:=y;simp only at hg;subst hg;rfl
theorem WY{ops:Array Oper}(L:Log):G8 ops (L.map fun x=>(x.1,x.2.map (·.1)))=Fj ops L:=by
 have:=Am (ops:=ops) L.reverse;rw[Ae,jE,bQ]at this
 exact this
theorem aa_(p:Pl)(i:Nat)(L:Log):V3 p i (L.map fun x=>(x.1,x.2.map (·.1)))=(wC p i L).map fun x=>(x.1,x.2.map (·.1)):=by
 apply iw;intro k;unfold V3 wC;rw[nN,bn,bn,nN];cases L[k]? with
 | none=>rfl
 | some x=>by_cases e:i=k<;>simp[e]
section
variable {P:Program} {A:f_} {ops:Array Oper} {ow:List Nat}
theorem aaP{Q:Exit→Act→World→Prop}{id:Nat}{t t':S}{L:Log}{i0:Nat}{p0:Pl}{rp0:List Pl}{W0:List (Pl×It)}(alt:It)(hm:P.follows .mixedOrders=true)(c:Chain P A ops 0 t L t')(hl:L.length=ops.size)(hd:Fj ops (wC p0 i0 L)=true)(hr0:L[i0]? = some (rp0,W0))(halt:Sum P A ops i0 (upd (part L (fun _=>true) t i0) p0 alt) rp0 W0)
  (hreach:∀X,pJ ops X→X i0=false→part L X t ops.size p0=part L (fun _=>true) t i0 p0∨part L X t ops.size p0=alt)
  (hQ:∀a w,Inv A t' a w→Q .normal a w) (a:Act) (w:World) (hi:Inv A t a w):(Code.region id ops true).wp P Q a w:=by
 have hD:=yS hd;obtain⟨hs,ht'⟩:=c.sums;rw[hl]at ht'
 have key:∀(fuel:Nat) (listed:Array Bool),listed.size=ops.size→pJ ops (fun i=>listed.getD i false)→todo (fun i=>listed.getD i false) ops.size≤fuel→
   ∀a w,Inv A (part L (fun i=>listed.getD i false) t ops.size) a w→wpAny P .any ops Q fuel listed a w:=by
  intro fuel;have full:∀(listed:Array Bool),(∀k,k<ops.size→listed.getD k false=true)→∀m,m≤ops.size→part L (fun i=>listed.getD i false) t m=part L (fun _=>true) t m:=by
   intro listed h m
   induction m with
   | zero=>intro _;rfl
   | succ m ih=>intro hm;have h1:=h m (by omega);have h2:=ih (by omega);simp only[part,h1,if_true,h2]
  have last:∀(listed:Array Bool),listed.size=ops.size→Region.ready .any ops listed = []→∀k,k<ops.size→listed.getD k false=true:=by
   intro listed hsz hr k
   induction k using Nat.strongRecOn with
   | _ k ih=>
     intro hk;rcases hx:listed.getD k false with _|_
     ·exfalso;have hmem:k∈Region.ready .any ops listed:=by
       unfold Region.ready;rw[bK];refine⟨by simpa using hk,?_⟩;have ho:ops[k]? = some ops[k]:=eH hk;have hk':k<listed.size:=by omega
       have hx':listed[k]=false:=by simpa[Array.getD,hk']using hx
       simp only[ho,bH,bZ,aG,eF,bJ,fB];refine⟨by simp[Array.getD,hk',hx'],fun e he=>?_⟩;rcases hb:Region.binds .any e with _|_
       ·exact .inl rfl
       ·have hlt:=hD.lt k _ ho e he hb;exact .inr (ih e.on hlt (by omega))
      rw[hr]at hmem;simp at hmem
     ·rfl
  induction fuel with
  | zero=>
    intro listed hsz hdc hle a w hi;have hall:=Ez (X:=fun i=>listed.getD i false) (n:=ops.size) (by omega);refine⟨?_,?_⟩
    ·unfold Region.ready;rw[fJ];intro k hk;have hk':k<ops.size:=by simpa using hk
     have:=hall k hk';have hkl:k<listed.size:=by omega
     simp[Array.getD,hkl]at this⊢
     simp[this]
    ·rw[full listed hall _ (au _)]at hi
     exact hQ a w (ht'▸hi)
  | succ fuel ih=>
    intro listed hsz hdc hle a w hi;refine⟨fun hr=>?_,fun i hir=>?_⟩
    ·rw[full listed (last listed hsz hr) _ (au _)]at hi
     exact hQ a w (ht'▸hi)
    ·unfold Region.ready at hir;rw[bK]at hir
     obtain⟨h1,h2⟩:=hir;have hin:i<ops.size:=by simpa using h1
     have ho:ops[i]? = some ops[i]:=eH hin;have hil:i<listed.size:=by omega
     simp only[ho,bH,bZ,aG,eF,bJ,fB]at h2;obtain⟨h3,h4⟩:=h2;have hxi:listed.getD i false=false:=by simpa[Array.getD,hil]using h3
     have AB:∀e∈(ops[i]).after,Region.binds .any e=true→(fun i=>listed.getD i false) e.on=true:=fun e he hb=>by
      rcases h4 e he with h5|h5
      ·rw[hb]at h5;simp at h5
      ·exact h5
     have hLi:i<L.length:=by omega
     have hLg:L[i]? = some (L[i].1,L[i].2):=aj hLi;have hsum:=hs i _ _ hLg;rw[bT]at hsum
     have hLm:(wC p0 i0 L)[i]? = some (if i=i0 then L[i].1.filter (fun q=>decide (q≠p0))else L[i].1,L[i].2):=by
      unfold wC;rw[nN,hLg];by_cases e:i0=i
      ·simp[e]
      ·simp[e,show ¬i=i0 from fun h=>e h.symm]
     have hrd:∀q,q∈L[i].1→(i=i0→q≠p0)→part L (fun i=>listed.getD i false) t ops.size q=part L (fun _=>true) t i q:=fun q hq hne=>by
      obtain⟨g1,g2⟩:=FV (t:=t) hD hdc ho AB hxi hLm (p:=q) (.inl (by
       split
       ·rename_i e;simp only[bK,decide_eq_true_eq];exact⟨hq,hne e⟩
       ·exact hq))
      simp only[Di]at g1 g2;rw[g2 ops.size (by omega) (au _),g1 i (au _)]
     have aon:∀(K:Act→World→Prop) (Q':Exit→Act→World→Prop),(∀a' w',Inv A (over (part L (fun i=>listed.getD i false) t ops.size) L[i].2) a' w'→K a' w')→wpOp P ops Q' i K a w:=by
      intro K Q' hK;by_cases e:i=i0
      ·subst e;rcases hreach _ hdc hxi with h|h
       ·refine hsum _ (fun q hq=>?_) a w hi K Q' hK;by_cases eq:q=p0
        ·rw[eq];exact h
        ·exact hrd q hq fun _=>eq
       ·rw[hLg]at hr0
        obtain⟨rfl,rfl⟩:=Prod.mk.inj (Option.some.inj hr0);refine halt _ (fun q hq=>?_) a w hi K Q' hK;unfold upd;by_cases eq:q=p0
        ·rw[if_pos eq,eq];exact h
        ·rw[if_neg eq];exact hrd q hq fun _=>eq
      ·exact hsum _ (fun q hq=>hrd q hq fun h=>absurd h e) a w hi K Q' hK
     refine aon _ Q fun a' w' hi'=>?_
     ·have hnx:=Ej (t:=t) hD hdc hin hxi hLm ops.size (au _);simp only[Di]at hnx;have hset:(fun j=>(listed.setIfInBounds i true).getD j false)=fun j=>if j=i then true else listed.getD j false:=by
       funext j
       by_cases e:j=i
       ·subst e;simp[Array.getD,hil]
       ·by_cases hj:j<listed.size
        ·simp[Array.getD,hj,e,jO,show ¬i=j from fun h=>e h.symm]
        ·simp[Array.getD,hj,e]
      refine ih (listed.setIfInBounds i true) (by simpa using hsz) ?_ ?_ a' w' ?_
      ·rw[hset];intro j o' ho' hxj e he hb;by_cases ej:j=i
       ·subst ej;rw[ho]at ho';simp only[ah]at ho';subst ho'
        have:=AB e he hb;by_cases ee:e.on=j
        ·simp[ee]
        ·simpa[ee]using this
       ·simp only[ej,if_false]at hxj;have:=hdc j o' ho' hxj e he hb;by_cases ee:e.on=i
        ·simp[ee]
        ·simpa[ee]using this
      ·rw[hset];have:=(I9 (X:=fun i=>listed.getD i false) hxi (n:=ops.size)).2 hin;omega
      ·rw[hset,hnx,if_pos hin];exact hi'
 refine wp_region_any hm ?_;have hinit:(fun i=>(Array.replicate ops.size false).getD i false)=fun _=>false:=by
  funext i
  by_cases h:i<ops.size<;>simp[Array.getD,h]
 refine key ops.size (Array.replicate ops.size false) (by simp) ?_ ?_ a _ ?_
 ·rw[hinit];intro j o _ hx;simp at hx
 ·rw[hinit];have:∀n,todo (fun _=>false) n=n:=fun n=>by induction n with
   | zero=>rfl
   | succ n ih=>simp[todo,ih]
  rw[this];exact au _
 ·rw[hinit];have:∀n,part L (fun _=>false) t n=t:=fun n=>by induction n with
   | zero=>rfl
   | succ n ih=>rw[part];simpa using ih
  rw[this];obtain⟨E,hw,hE⟩:=hi;subst hw
  let E':En:={E with w:={E.w with drawn:=E.w.drawn+1}}
  have x:oQ E E':=⟨fun _ _ h=>h,fun _ _ _=>rfl,fun _ _ _ h=>h,fun _ _ h=>h,fun _ _ h=>h,fun _ _ c v _ h=>⟨c,v,h,au _,fun _=>rfl⟩⟩
  exact⟨E',rfl,hE.step (hE.h.more x rfl rfl (au _) (fun _ _=>rfl) (fun b o h=>.inl h)) x
   (hE.fr.next rfl rfl rfl (au _) (fun _ _ _ _=>rfl) (fun _=>rfl) (fun _ _ h=>.inl h) (fun _ _ h=>h) (fun _ _ h=>.inl h)) (fun _=>rfl)⟩
def ao9(ops:Array Oper)(L:List (List Pl×List Pl))(i0 j0:Nat)(p:Pl):Bool:=
 NV ops (V3 p i0 L)&&(decide (i0<ops.size)&&(!((L.getD i0 ([],[])).2.contains p) &&
  (List.range ops.size).all fun k=>!((L.getD k ([],[])).2.contains p)||((k==j0&&decide (i0<j0))||(decide (i0<k)&&((qZ ops.toList []).getD k []).contains i0))))
theorem ahI{L:Log}{t:S}{i0 j0:Nat}{p:Pl}(hD:DOK ops (wC p i0 L) (fun j=>(qZ ops.toList []).getD j []))(hl:L.length=ops.size)
  (hk:∀k,k<ops.size→p∈(L.getD k ([],[])).2.map (·.1)→(k=j0∧i0<j0)∨(i0<k∧i0∈(qZ ops.toList []).getD k [])) (h0:i0<ops.size)
  (X:Nat→Bool) (hx:pJ ops X) (hxi:X i0=false):part L X t ops.size p=part L (fun _=>true) t i0 p∨part L X t ops.size p=over t (L.getD j0 ([],[])).2 p:=by
 have hpre:∀k,k≤i0→part L (fun _=>true) t k p=t p:=by
  intro k
  induction k with
  | zero=>intro _;rfl
  | succ k ih=>
    intro hle;rw[zW L _ t k fun _ hp=>?_]
    ·exact ih (by omega)
    ·rcases hk k (by omega) hp with h|h<;>omega
 rw[hpre i0 (au _)];have key:∀m,m≤ops.size→part L X t m p=t p∨part L X t m p=over t (L.getD j0 ([],[])).2 p:=by
  intro m
  induction m with
  | zero=>intro _;exact .inl rfl
  | succ m ih=>
    intro hm;by_cases hp:X m=true∧p∈(L.getD m ([],[])).2.map (·.1)
    ·rcases hk m (by omega) hp.2 with h|h
     ·obtain⟨rfl,_⟩:=h;refine .inr ?_;rw[part,hp.1];simp only[if_true];have hg:L[m]? = some (L.getD m ([],[])):=by
       rw[aK,aj (by omega:m<L.length)];rfl
      rw[hg];exact uG hp.2
     ·exfalso;have:=hx.anc hD m (by omega) hp.1 i0 h.2;rw[hxi]at this;simp at this
    ·rw[zW L X t m fun hxm hpm=>hp ⟨hxm,hpm⟩];exact ih (by omega)
 exact key _ (au _)
structure Uz(P:Program)(A:f_)(ow:List Nat)(ops:Array Oper)(L:Log)(t:S):Prop where
 ok:NV ops (shapes L [])=true∨∃(i0 j0:Nat) (p:Pl),ao9 ops (shapes L []) i0 j0 p=true∧
  Sum P A ops i0 (upd (part L.reverse (fun _=>true) t i0) p (over t (L.reverse.getD j0 ([],[])).2 p)) (L.reverse.getD i0 ([],[])).1 (L.reverse.getD i0 ([],[])).2
theorem VA{Q:Exit→Act→World→Prop}{id:Nat}{t t':S}{L:Log}(hm:P.follows .mixedOrders=true)(c:Chain P A ops 0 t L t')(hl:L.length=ops.size)(hd:Uz P A ow ops L.reverse t)
  (hQ:∀a w,Inv A t' a w→Q .normal a w) (a:Act) (w:World) (hi:Inv A t a w):(Code.region id ops true).wp P Q a w:=by
 rcases hd.ok with h|⟨i0,j0,p,h1,h2⟩
 ·have h7:=G7 h;rw[Am,jE]at h7
  exact La hm c hl h7 hQ a w hi
 ·rw[jE]at h2
  unfold ao9 at h1;rw[Ae,jE,bQ]at h1
  simp only[aG,decide_eq_true_eq,fB,bM,bJ,beq_iff_eq,bI]at h1;obtain⟨k1,k2,k3,k4⟩:=h1;have k5:=G7 k1;rw[aa_,WY]at k5
  have hgd:∀k,((L.map fun x=>(x.1,x.2.map (·.1))).getD k ([],[])).2=(L.getD k ([],[])).2.map (·.1):=fun k=>by rw[aK,bn,aK];cases L[k]? <;> rfl
  have hg0:L[i0]? = some ((L.getD i0 ([],[])).1,(L.getD i0 ([],[])).2):=by rw[aK,aj (by omega:i0<L.length)];rfl
  refine aaP (over t (L.getD j0 ([],[])).2 p) hm c hl k5 hg0 h2 (fun X hx hxi=>ahI (yS k5) hl (fun k hk hp=>?_) k2 X hx hxi) hQ a w hi;have:=k4 k hk;rw[hgd]at this
  rcases this with (h|h)
  ·rw[List.contains_eq_mem,decide_eq_false_iff_not]at h
   exact absurd hp h
  ·rcases h with h|h
   ·exact .inl h
   ·exact .inr ⟨h.1,by simpa using h.2⟩
end
end Go.Tr

namespace Go.Tr
open Go
def am2(P:Program)(A:f_)(ow:List Nat)(ops:Array Oper)(L:Log)(t:S)(X:Prop):Bool→Prop
 | true=>X∧(P.follows .mixedOrders=true∧Uz P A ow ops L t)
 | false=>X
def vC(P:Program)(A:f_)(ow:List Nat)(kp:Nat→Bool):Code→(Q:Exit→S→Prop)→Tg Q→S→Prop
 | .skip,Q,_,t=>Q .normal t
 | .label _,Q,_,t=>Q .normal t
 | .seq x y,Q,g,t=>vC P A ow kp x (thn (vC P A ow kp y Q g) Q) .mk t
 | .cond c x y,Q,g,t=>Rz (NM (ev t c)) (vC P A ow kp x Q g t) (vC P A ow kp y Q g t) .mk .mk
 | .block id c,Q,_,t=>vC P A ow kp c (UG id Q) .mk t
 | .exit id,Q,_,t=>Q (.exit id) t
 | .goto l,Q,_,t=>Q (.goto l) t
 | .ret,Q,_,t=>Q .ret t
 | .region _ ops draw,Q,_,t=>ae8 ow ops (xg P A ow ops ops.toList 0 [] .mk t (fun L t'=>am2 P A ow ops L t (Q .normal (kept kp t')) draw) .mk) draw
 | .loop c,Q,g,t=>dD P A c Q g t
 | .scope c,Q,_,t=>vC P A ow kp c (aj3 Q) .mk t
 | _,_,_,_=>False
section
variable {P:Program} {A:f_}
theorem vC.sound{ow:List Nat}{kp:Nat→Bool}:∀{c:Code} {Q:Exit→S→Prop} {g:Tg Q} {t:S},vC P A ow kp c Q g t→AW P A c Q t
 | .skip,Q,_,t,h=>fun a w hi=>wp_skip ⟨t,hi,by simpa only[vC]using h⟩
 | .label _,Q,_,t,h=>fun a w hi=>wp_label ⟨t,hi,by simpa only[vC]using h⟩
 | .seq x y,Q,_,t,h=>fun a w hi=>by
   simp only[vC]at h;refine wp_seq (Code.wp_mono (fun e a w ⟨t',h1,h2⟩=>?_) (vC.sound (c:=x) h a w hi));cases e<;>first
    | exact vC.sound (c:=y) h2 a w h1
    | exact⟨t',h1,h2⟩
 | .cond c x y,Q,_,t,h=>fun a w hi=>by
   simp only[vC]at h;obtain⟨E,hw,hE⟩:=hi;have hr:=bP hE c;unfold NM at h;split at h
   ·rename_i b hb;rw[hb]at hr
    simp only[aP,Rep]at hr;unfold Rz at h;cases b
    ·exact wp_cond_false hr (vC.sound (c:=y) (h.no rfl) a w ⟨E,hw,hE⟩)
    ·exact wp_cond_true hr (vC.sound (c:=x) (h.yes rfl) a w ⟨E,hw,hE⟩)
   ·exact h.elim
 | .block id c,Q,_,t,h=>fun a w hi=>by
   simp only[vC]at h;refine wp_block (Code.wp_mono (fun e a w ⟨t',h1,h2⟩=>?_) (vC.sound (c:=c) h a w hi));cases e<;>first
    | exact⟨t',h1,h2⟩
    | (simp only[Exit.inBlock]
       simp only[UG]at h2;split
       ·rename_i he;rw[if_pos he]at h2;exact⟨t',h1,h2⟩
       ·rename_i he;rw[if_neg he]at h2;exact⟨t',h1,h2⟩)
 | .exit id,Q,_,t,h=>fun a w hi=>wp_exit ⟨t,hi,by simpa only[vC]using h⟩
 | .goto l,Q,_,t,h=>fun a w hi=>wp_goto ⟨t,hi,by simpa only[vC]using h⟩
 | .ret,Q,_,t,h=>fun a w hi=>wp_ret ⟨t,hi,by simpa only[vC]using h⟩
 | .region id ops draw,Q,_,t,h=>fun a w hi=>by
   simp only[vC]at h;cases draw
   ·rw[Np]at h
    refine wp_region ?_;have:=xg.wps (Q:=lift A Q) (fun j=>by simp) h (fun L t' h3 a w hi'=>⟨_,hi'.kept kp,h3⟩) a w hi
    rwa [gK,←jD]at this
   ·rw[RD]at h
    obtain⟨hn,h⟩:=h;obtain⟨L,t',h1,h2,h3⟩:=xg.sound (fun o ho=>by
     have:=bM.1 hn o ho;simpa using this) (fun j o h=>by simpa using h) h
    rw[gK]at h2
    obtain⟨h4,h5,h6⟩:=h3;simp only[bQ]at h6;exact VA h5 h1 h2 h6 (fun a w hi'=>⟨_,hi'.kept kp,h4⟩) a w hi
 | .loop c,Q,_,t,h=>by simp only[vC]at h;exact h.aw
 | .rangeFunc ..,_,_,_,h=>by simp only[vC]at h
 | .scope c,Q,_,t,h=>fun a w hi=>by
   simp only[vC]at h;refine wp_scope_straight (Code.wp_mono (fun e a w ⟨t',h1,h2⟩=>?_) (vC.sound (c:=c) h a w hi));cases e<;>first
    | exact⟨t',h1,h2⟩
    | exact h2.elim
 | .refuse _,_,_,_,h=>by simp only[vC]at h
theorem Uz.plain{ow:List Nat}{ops:Array Oper}{L:Log}{t:S}(h:NV ops (shapes L [])=true):Uz P A ow ops L t:=⟨.inl h⟩
end
attribute [simp] vC
end Go.Tr
