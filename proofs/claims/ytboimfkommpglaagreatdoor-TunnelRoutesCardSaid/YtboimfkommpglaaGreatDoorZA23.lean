/-
  What functions of the program compute, stated as contracts over plain data; the conditions of each stand in its own statement.
-/
import Derived.Test.YtboimfkommpglaaGreatDoorZA22
import Derived.Test.YtboimfkommpglaaGreatDoorZA21
import Derived.Shelf.SlGeneric
import Derived.Shelf.SlSortCmp.NoneTotal
import Derived.Shelf.SlicesG.Cmp
import Derived.Ground.SlsfProg
import Derived.Ground.SlgcProg
import Derived.Test.YtboimfkommpglaaGreatDoorChecked
import Derived.WalkKit
import Derived.StillTailTactics
import Derived.Deep.QuietTactic
import Derived.BigQuiet
import Derived.LoopN
import Derived.KernelRfl
set_option linter.unusedSimpArgs false
namespace Go.Tr
open Go
def ANo{ι:Type}(k:List Pl→List (Pl×It)→Prop)(_:Tg k)(X:ι→Prop):Option (Prop×(ι→List (Pl×It)))→Prop
 | some (C,W)=>C∧∀c,X c→k [] (W c)
 | none=>False
theorem Lh{ι:Type}{k:List Pl→List (Pl×It)→Prop}{g:Tg k}{X:ι→Prop}{C:Prop}{W:ι→List (Pl×It)}:ANo k g X (some (C,W))=(C∧∀c,X c→k [] (W c)):=rfl
section
variable {P:Program} {A:eX} {ops:Array Oper}
def OY(P:Program)(N:Nat)(t:S)(ops:Array Oper):Option Oper→Option (Prop×(mJ→List (Pl×It)))
 | some o=>match gv ops t o with
   | some (_,g)=>match o.op with
     | .range ty x=>match ev t x with
       | .mref id=>match t (.o id)with
         | .jX es c pd _=>some (g=true∧pz N o=true∧J4 P ty=true∧t (.o (o.dst.getD 0)) = .none,fun s=>xA o (.ptr (.o (o.dst.getD 0)) 0) [(.o (o.dst.getD 0),.DK id s (es.map (·.1)) none),(.o id,.jX es c pd (some s))])
         | _=>none
       | .d (.mp ks vs)=>some (g=true∧pz N o=true∧J4 P ty=true∧t (.o (o.dst.getD 0)) = .none∧t (.o (o.dst.getD 0+4000000)) = .none,
         fun s=>xA o (.ptr (.o (o.dst.getD 0)) 0) [(.o (o.dst.getD 0),.DK (o.dst.getD 0+4000000) s ((vI ks vs).map (·.1)) none),(.o (o.dst.getD 0+4000000),.IE (vI ks vs) s)])
       | _=>none
     | _=>none
   | none=>none
 | none=>none
theorem Ho.range{i:Nat}{t:S}{k:List Pl→List (Pl×It)→Prop}{g:Tg k}(h:ANo k g (fun _=>True) (OY P A.N t ops ops[i]?)):Ho P A ops i t k g:=by
 unfold ANo at h;split at h
 ·rename_i C W hc;obtain⟨h1,h2⟩:=h;refine⟨mJ,fun _=>[],W,?_,fun s=>h2 s trivial⟩;unfold OY at hc;split at hc
  ·rename_i o ho;split at hc
   ·rename_i gp g0 hg;split at hc
    ·rename_i ty x hop;split at hc
     ·rename_i id hx;split at hc
      ·rename_i es c pd s0 ht;simp only[Option.some.injEq,Prod.mk.injEq]at hc;obtain⟨rfl,rfl⟩:=hc;obtain⟨rfl,q1,q2,q3⟩:=h1;intro a w hinv K Q hK;obtain⟨E,hw,hi⟩:=hinv;subst hw;have hwant:=mD hg (fun _ _=>rfl) hi;obtain⟨kt,e,hu⟩:∃kt e,P.underlying ty=some (.map kt e):=by
        unfold J4 at q2;split at q2
        ·rename_i kt e hu;exact⟨kt,e,hu⟩
        ·simp at q2
       obtain⟨s,u,E',r1,r2,r3⟩:=afJ hop hu hx ht q3 t (fun _ _=>rfl) a E hi;unfold wpOp;simp only[ho,hwant,if_true];refine .inl ?_;unfold Oper.wp;rw[r1];exact hK s _ _ ⟨E',rfl,r2.dst q1 r3⟩
      ·simp at hc
     ·rename_i ks vs hx;simp only[Option.some.injEq,Prod.mk.injEq]at hc;obtain⟨rfl,rfl⟩:=hc;obtain⟨rfl,q1,q2,q3,q4⟩:=h1;intro a w hinv K Q hK;obtain⟨E,hw,hi⟩:=hinv;subst hw;have hwant:=mD hg (fun _ _=>rfl) hi;obtain⟨kt,e,hu⟩:∃kt e,P.underlying ty=some (.map kt e):=by
       unfold J4 at q2;split at q2
       ·rename_i kt e hu;exact⟨kt,e,hu⟩
       ·simp at q2
      obtain⟨s,u,E',r1,r2,r3⟩:=adw hop hu hx q3 q4 (by omega) t (fun _ _=>rfl) a E hi;unfold wpOp;simp only[ho,hwant,if_true];refine .inl ?_;unfold Oper.wp;rw[r1];exact hK s _ _ ⟨E',rfl,r2.dst q1 r3⟩
     ·simp at hc
    ·simp at hc
   ·simp at hc
  ·simp at hc
 ·exact h.elim
def VD(N:Nat)(t:S)(ops:Array Oper):Option Oper→Option (List (List Int)×(Prop×(Option (List Int)→List (Pl×It))))
 | some o=>match gv ops t o with
   | some (_,g)=>match o.op with
     | .next x false=>match ev t x with
       | .ptr (.o d) off=>match t (.o d)with
         | .DK id s left _=>match t (.o id)with
           | .jX _ _ _ (some s')=>some (left,(g=true∧pz N o=true∧off=0∧s'=s,fun k=>xA o (Aw k) (YW d id s left k)))
           | .IE _ s'=>some (left,(g=true∧pz N o=true∧off=0∧s'=s,fun k=>xA o (Aw k) (YW d id s left k)))
           | _=>none
         | _=>none
       | _=>none
     | _=>none
   | none=>none
 | none=>none
def ANn(k:List Pl→List (Pl×It)→Prop)(_:Tg k):Option (List (List Int)×(Prop×(Option (List Int)→List (Pl×It))))→Prop
 | some (left,(C,W))=>C∧(left = []→k [] (W none))∧∀x,x∈left→k [] (W (some x))
 | none=>False
theorem adX{k:List Pl→List (Pl×It)→Prop}{g:Tg k}{left:List (List Int)}{C:Prop}{W:Option (List Int)→List (Pl×It)}:ANn k g (some (left,(C,W)))=(C∧(left = []→k [] (W none))∧∀x,x∈left→k [] (W (some x))):=rfl
theorem Ut.next{i d id off:Nat}{t:S}{o:Oper}{gp:List Pl}{x:Operand}{es:List (List Int×TV)}{s:mJ}{left:List (List Int)}{cur:Option (List Int)}(ho:ops[i]? = some o)(hg:gv ops t o=some (gp,true))(hop:o.op = .next x false)(hx:ev t x = .ptr (.o d) off)(hd:t (.o d) = .DK id s left cur)
  (hm:SN es s (t (.o id))) (q1:pz A.N o=true) (q2:off=0):Ut P A ops i t (ι:={k // Xj left k}) fun k=>xA o (Aw k.1) (YW d id s left k.1):=fun a w hinv K Q hK=>by
 subst q2;obtain⟨E,hw,hi⟩:=hinv;subst hw;have hwant:=mD hg (fun _ _=>rfl) hi;obtain⟨k,u,E',hk,r1,r2,r3⟩:=Qv (P:=P) hop hx hd hm t (fun _ _=>rfl) a E hi;unfold wpOp;simp only[ho,hwant,if_true];refine .inl ?_;unfold Oper.wp;rw[r1];exact hK ⟨k,hk⟩ _ _ ⟨E',rfl,r2.dst q1 r3⟩
theorem Ho.next{i:Nat}{t:S}{k:List Pl→List (Pl×It)→Prop}{g:Tg k}(h:ANn k g (VD A.N t ops ops[i]?)):Ho P A ops i t k g:=by
 unfold ANn at h;split at h
 ·rename_i left C W hc;obtain⟨h1,h2,h3⟩:=h;refine⟨{k // Xj left k},fun _=>[],fun k=>W k.1,?_,fun⟨k,hk⟩=>?_⟩
  ·unfold VD at hc;split at hc
   ·rename_i o ho;split at hc
    ·rename_i gp g0 hg;split at hc
     ·rename_i x hop;split at hc
      ·rename_i d off hx;split at hc
       ·rename_i id s left' cur hd;split at hc
        ·rename_i es c pd s' hm;simp only[Option.some.injEq,Prod.mk.injEq]at hc;obtain⟨rfl,rfl,rfl⟩:=hc;obtain⟨rfl,q1,q2,rfl⟩:=h1;exact Ut.next ho hg hop hx hd (es:=es) (by rw[hm];exact⟨rfl,rfl⟩) q1 q2
        ·rename_i es s' hm;simp only[Option.some.injEq,Prod.mk.injEq]at hc;obtain⟨rfl,rfl,rfl⟩:=hc;obtain⟨rfl,q1,q2,rfl⟩:=h1;exact Ut.next ho hg hop hx hd (es:=es) (by rw[hm];exact⟨rfl,rfl⟩) q1 q2
        ·simp at hc
       ·simp at hc
      ·simp at hc
     ·simp at hc
    ·simp at hc
   ·simp at hc
  ·cases k with
   | none=>exact h2 hk
   | some x=>exact h3 x hk
 ·exact h.elim
attribute [simp] Lh adX OY VD Aw YW
end
mutual
def TV.yc(id:Nat)(v:D):TV→TV
 | .agg vs=>.agg (TV.Gm id v vs)
 | .rG vs=>.rG (TV.Gm id v vs)
 | .clo f vs=>.clo f (TV.Gm id v vs)
 | .aB i n=>if i=id then .junk else .aB i n
 | .rQ i n j q=>if i=id then .junk else .rQ i n j q
 | .mref i=>if i=id then .d v else .mref i
 | .NS i n j=>if i=id then .junk else .NS i n j
 | .ptr p q=>if p = .o id then .junk else .ptr p q
 | t=>t
def TV.Gm(id:Nat)(v:D):List TV→List TV
 | []=>[]
 | t::ts=>t.yc id v::TV.Gm id v ts
end
def Ou(id:Nat)(v:D):It→It
 | .v t=>.v (t.yc id v)
 | .box cs=>.box (TV.Gm id v cs)
 | .row e k es sh=>.row e k (es.map (TV.Gm id v)) sh
 | .wI e k es=>.wI e k (es.map (TV.Gm id v))
 | .jX es c pd s=>.jX (es.map fun x=>(x.1,x.2.yc id v)) c pd s
 | .IE es s=>.IE (es.map fun x=>(x.1,x.2.yc id v)) s
 | i=>i
def En.yc(E:En)(id b:Nat):En:=
 {E with St:=fun b' o=>E.St b' o∨(b'=b∧o=0),blk:=fun p=>if p = .o id then none else E.blk p,val:=fun k=>if k=id then none else E.val k}
theorem Vo(E:En)(id b:Nat):J_ E (E.yc id b):=⟨fun _ _ h=>.inl h,fun _ _ _=>rfl⟩
section
variable {E:En} {id b:Nat} {v:D}
mutual
theorem Qk(hb:E.blk (.o id)=some b)(hv:Rep (E.yc id b) v (.map (some b))):∀{t:TV} {u:Value},aA E t u→aA (E.yc id b) (t.yc id v) u
 | .junk,u,_=>by simp only[TV.yc,aA]
 | .d x,u,h=>by simp only[TV.yc,aA]at h⊢;exact Rep.ext (Vo E id b) x u h
 | .c w,u,h=>by simp only[TV.yc,aA]at h⊢;exact h
 | .agg vs,u,h=>by
   simp only[TV.yc,aA]at h⊢;obtain⟨us,hu,h⟩:=h;exact⟨us,hu,L9 hb hv h⟩
 | .rG vs,u,h=>by
   simp only[TV.yc,aA]at h⊢;obtain⟨us,hu,h⟩:=h;exact⟨us,hu,L9 hb hv h⟩
 | .aB i n,u,h=>by
   simp only[TV.yc];split
   ·simp only[aA]
   ·rename_i e;simp only[aA]at h⊢;obtain⟨h1,k,c,w,h2,h3⟩:=h;exact⟨h1,k,c,w,by simp only[En.yc,if_neg e];exact h2,h3⟩
 | .ptr p q,u,h=>by
   simp only[TV.yc];split
   ·simp only[aA]
   ·rename_i e;simp only[aA]at h⊢;obtain⟨b',h1,h2⟩:=h;exact⟨b',by simp only[En.yc,if_neg e];exact h1,h2⟩
 | .ep e q,u,h=>by
   simp only[TV.yc,aA]at h⊢;obtain⟨b',o,hu,hc⟩:=h;exact⟨b',o,hu,bQ.ext (Vo E id b) b' o e hc⟩
 | .rQ i n j q,u,h=>by
   simp only[TV.yc];split
   ·simp only[aA]
   ·rename_i e;simp only[aA]at h⊢;obtain⟨h1,k,c,w,h2,h3⟩:=h;exact⟨h1,k,c,w,by simp only[En.yc,if_neg e];exact h2,h3⟩
 | .NS i n j,u,h=>by
   simp only[TV.yc];split
   ·simp only[aA]
   ·rename_i e;simp only[aA]at h⊢;obtain⟨h1,k,c,w,h2,h3⟩:=h;exact⟨h1,k,c,w,by simp only[En.yc,if_neg e];exact h2,h3⟩
 | .mref i,u,h=>by
   simp only[TV.yc];simp only[aA]at h;obtain⟨b',h1,h2⟩:=h;split
   ·rename_i e;subst e;rw[hb]at h1
    simp only[Option.some.injEq]at h1;subst h1;subst h2;simp only[aA];exact hv
   ·rename_i e;simp only[aA];exact⟨b',by simp only[En.yc];rw[if_neg (by simpa using e)];exact h1,h2⟩
 | .sx xs,u,h=>by
   simp only[TV.yc,aA]at h⊢;exact⟨Rep.ext (Vo E id b) (.sl xs) u h.1,h.2⟩
 | .clo f vs,u,h=>by
   simp only[TV.yc,aA]at h⊢;obtain⟨us,hu,h⟩:=h;exact⟨us,hu,L9 hb hv h⟩
theorem L9(hb:E.blk (.o id)=some b)(hv:Rep (E.yc id b) v (.map (some b))):∀{ts:List TV} {us:List Value},aP E ts us→aP (E.yc id b) (TV.Gm id v ts) us
 | [],us,h=>by simpa only[TV.Gm,aP]using h
 | t::ts,us,h=>by
   simp only[TV.Gm,aP]at h⊢;obtain⟨u,us',hu,h1,h2⟩:=h;exact⟨u,us',hu,Qk hb hv h1,L9 hb hv h2⟩
end
theorem Ii:∀ts:List TV,(TV.Gm id v ts).length=ts.length
 | []=>by simp only[TV.Gm]
 | t::ts=>by simp only[TV.Gm,List.length_cons,Ii ts]
theorem RD(hb:E.blk (.o id)=some b)(hv:Rep (E.yc id b) v (.map (some b))){us:List Value}:∀{o:Nat} {cs:List TV},bG E us o cs→bG (E.yc id b) us o (TV.Gm id v cs)
 | _,[],_=>by simp only[TV.Gm];trivial
 | _,_::_,⟨⟨u,h1,h2,h3⟩,r⟩=>by simp only[TV.Gm];exact⟨⟨u,h1,h2,Qk hb hv h3⟩,RD hb hv r⟩
theorem aae(hb:E.blk (.o id)=some b)(hv:Rep (E.yc id b) v (.map (some b))){us:List Value}{k:Nat}:∀{o:Nat} {es:List (List TV)},dK E us k o es→dK (E.yc id b) us k o (es.map (TV.Gm id v))
 | _,[],_=>trivial
 | _,_::_,⟨h1,h2,r⟩=>⟨(Ii _).trans h1,RD hb hv h2,aae hb hv r⟩
theorem aiO(hb:E.blk (.o id)=some b)(hv:Rep (E.yc id b) v (.map (some b))):∀{es:List (List Int×TV)} {l:List MapEntry},jD E es l→jD (E.yc id b) (es.map fun x=>(x.1,x.2.yc id v)) l
 | [],_,h=>h
 | _::_,_,⟨e,l',rfl,h1,h2,h3⟩=>⟨e,l',rfl,h1,Qk hb hv h2,aiO hb hv h3⟩
theorem aeP(hb:E.blk (.o id)=some b)(hv:Rep (E.yc id b) v (.map (some b))){p:Pl}(hp:p≠.o id){i:It}(h:zB E p i):zB (E.yc id b) p (Ou id v i):=by
 have hblk:(E.yc id b).blk p=E.blk p:=by simp only[En.yc,if_neg hp]
 have hval:∀k,p = .o k→(E.yc id b).val k=E.val k:=fun k e=>by
  have:k≠id:=fun e2=>hp (by rw[e,e2])
  simp only[En.yc,if_neg this]
 cases i with
 | none=>exact fun k e=>by rw[hblk,hval k e];exact h k e
 | v t=>exact(En.lU hblk hval).trans h
 | box cs=>
   obtain⟨h0,b',ty,us,g1,g2,g3,g4⟩:=h;exact⟨fun k e=>by rw[hval k e];exact h0 k e,b',ty,us,hblk.trans g1,g2,by rw[Ii];exact g3,RD hb hv g4⟩
 | row e k es sh=>
   obtain⟨h0,i,w,us,rfl,g2,g3,g4⟩:=h;exact⟨hblk.trans h0,i,w,us,rfl,by rw[hval i rfl,List.length_map];exact g2,by rw[List.length_map];exact g3,aae hb hv g4⟩
 | wI e k es=>
   obtain⟨h0,i,w,us,rfl,g2,g3,g4⟩:=h;exact⟨hblk.trans h0,i,w,us,rfl,by rw[hval i rfl,List.length_map];exact g2,by rw[List.length_map];exact g3,aae hb hv g4⟩
 | mp es=>
   obtain⟨h0,b',l,clock,g1,g2,g3,g4⟩:=h;exact⟨fun k e=>by rw[hval k e];exact h0 k e,b',l,clock,hblk.trans g1,g2,g3.ext (Vo E id b),g4⟩
 | jX es c pd s=>
   obtain⟨i,b',l,clock,l',ty,w,rfl,g1,g2,g3,g4,g5,g6,g7,g8⟩:=h;exact⟨i,b',l,clock,l',ty,w,rfl,hblk.trans g1,g2,g3,aiO hb hv g4,g5,(hval i rfl).trans g6,g7,g8⟩
 | DK m s left cur=>
   obtain⟨h0,r,seen,g1,g2,g3⟩:=h;exact⟨fun k e=>by rw[hval k e];exact h0 k e,r,seen,hblk.trans g1,g2,g3⟩
 | IE es s=>
   obtain⟨h0,g1,g2,g3,l',g4,g5⟩:=h;exact⟨(En.lU hblk hval).trans h0,.inl g1,g2,g3,l',g4,aiO hb hv g5⟩
end
def Yp(id:Nat)(v:D)(t:S):S:=fun p=>if p = .o id then .none else Ou id v (t p)
def PZ(es:List (List Int×D)):D:=.mp (es.map (·.1)) (es.map (·.2))
theorem GS.yc{A:eX}{t:S}{id c:Nat}{es:List (List Int×D)}{pd:Option (List Int)}{s:Option mJ}(ht:t (.o id) = .jX (es.map fun x=>(x.1,.d x.2)) c pd s):GS A t (Yp id (PZ es) t):=fun a w ⟨E,hw,hi⟩=>by
 obtain⟨b,l,clock,l',ty,w0,hb,hg,hp,hrel,hs,hval,_⟩:=Fg hi ht;have lq:E.own (.o id)=some b:=by simp[En.own,hb]
 have hrep:Rep (E.yc id b) (PZ es) (.map (some b)):=by
  have h1:=SC hrel;simp only[PZ,Rep];exact⟨b,l,clock,l',rfl,.inr ⟨rfl,rfl⟩,hg,hp,hs,h1.1,Bj.ext (Vo E id b) _ _ h1.2⟩
 have hown:∀{p q},(E.yc id b).own p=some q→E.own p=some q∧p≠.o id:=fun {p q} h=>by
  by_cases e:p = .o id
  ·subst e;simp[En.own,En.yc]at h
  ·rw[En.lU (E:=E) (by simp only[En.yc,if_neg e]) (fun k e2=>by
    have:k≠id:=fun e3=>e (by rw[e2,e3])
    simp only[En.yc,if_neg this])]at h
   exact⟨h,e⟩
 refine⟨E.yc id b,hw,⟨⟨fun p hp=>?_,fun k=>?_,fun p q r h1 h2=>hi.h.inj p q r (hown h1).1 (hown h2).1,fun p r h=>hi.h.size p r (hown h).1,fun r o h=>?_,fun r o h1 p h2=>?_,fun y hy=>bQ.ext (Vo E id b) _ _ _ (hi.h.gl y hy)⟩,?_,fun k tv hk=>?_,hi.defers,hi.size⟩⟩
 ·unfold Yp;by_cases e:p = .o id
  ·subst e;simp only[if_true];exact fun k e=>by simp only[Pl.o.injEq]at e;subst e;simp[En.yc]
  ·rw[if_neg e];exact aeP hb hrep e (hi.h.item p hp)
 ·simp only[En.yc];rw[if_neg (by simp)];exact hi.h.frees k
 ·rcases h with h|⟨rfl,_⟩
  ·exact hi.h.oQ r o h
  ·exact(Array.getElem?_eq_some_iff.1 hg).1
 ·obtain⟨g1,g2⟩:=hown h2;rcases h1 with h1|⟨rfl,_⟩
  ·obtain⟨e,k,es',g3,g4⟩:=hi.h.sep r o h1 p g1;refine⟨e,k,es'.map (TV.Gm id (PZ es)),?_,by simpa using g4⟩;simp only[Yp,if_neg g2,g3];rfl
  ·exact absurd (hi.h.inj _ _ _ g1 lq) g2
 ·refine⟨hi.fr.os,hi.fr.tape,hi.fr.output,hi.fr.size,hi.fr.old,fun i=>?_,fun i r h=>hi.fr.new i r (hown h).1,fun r o h=>.inl (hi.fr.st r o h),fun r o h=>?_⟩
  ·simp only[En.yc];rw[if_neg (by simp)];exact hi.fr.xb i
  ·rcases h with h|⟨rfl,_⟩
   ·exact hi.fr.xg r o h
   ·exact .inr (hi.fr.new id r lq)
 ·unfold Yp at hk;rw[if_neg (by simp)]at hk
  cases hsk:t (.s k)with
  | v tv'=>
    rw[hsk]at hk
    simp only[Ou,It.v.injEq]at hk;subst hk;obtain⟨u,h1,h2⟩:=hi.sl k tv' hsk;exact⟨u,h1,Qk hb hrep h2⟩
  | none=>rw[hsk]at hk;simp[Ou]at hk
  | box _=>rw[hsk]at hk;simp[Ou]at hk
  | row _ _ _ _=>rw[hsk]at hk;simp[Ou]at hk
  | wI _ _ _=>rw[hsk]at hk;simp[Ou]at hk
  | mp _=>rw[hsk]at hk;simp[Ou]at hk
  | jX _ _ _ _=>rw[hsk]at hk;simp[Ou]at hk
  | DK _ _ _ _=>rw[hsk]at hk;simp[Ou]at hk
  | IE _ _=>rw[hsk]at hk;simp[Ou]at hk
def UO(id:Nat)(v:D):List (Pl×It)→List (Pl×It)
 | []=>[]
 | (p,i)::l=>if p = .o id then UO id v l else(p,Ou id v i)::UO id v l
theorem aad(id:Nat)(v:D):∀l:List (Pl×It),look (UO id v l) (.o id) = .none
 | []=>rfl
 | (p,i)::l=>by
   by_cases e:p = .o id
   ·simp only[UO,if_pos e];exact aad id v l
   ·simp only[UO,if_neg e,look];rw[if_neg (fun h:Pl.o id=p=>e h.symm)];exact aad id v l
theorem Vm(id:Nat)(v:D):∀(l:List (Pl×It)),Yp id v (look l)=look (UO id v l)
 | []=>by funext p;unfold Yp;split<;>rfl
 | (q,i)::l=>by
   have ih:=fun p=>congrFun (Vm id v l) p
   funext p
   by_cases hp:p = .o id
   ·subst hp;rw[aad];simp[Yp]
   ·have h1:=ih p;simp only[Yp,if_neg hp]at h1⊢;by_cases hq:q = .o id
    ·simp only[UO,if_pos hq,look];rw[if_neg (fun h=>hp (h.trans hq))];exact h1
    ·simp only[UO,if_neg hq,look];by_cases e:p=q
     ·simp[e]
     ·simp only[if_neg e];exact h1
theorem Fin.yc{P:Program}{A:eX}{fn:Func}{r:TV}{xs:List It}{ro:List (Nat×It)}{l:List (Pl×It)}(id:Nat)(es:List (List Int×D)){c:Nat}{pd:Option (List Int)}{s:Option mJ}(ht:look l (.o id) = .jX (es.map fun x=>(x.1,.d x.2)) c pd s)
  (h:Fin P A fn r xs ro (look (UO id (PZ es) l))):Fin P A fn r xs ro (look l):=by
 have:=GS.yc (A:=A) ht;rw[Vm]at this
 exact h.ghost this
attribute [simp] UO Ou TV.yc TV.Gm
end Go.Tr

namespace Go.Proofs
open Go.Shelf
def Tryz.XE:Go.Shelf.Ren:=⟨fun|6=>226|15=>249|14=>255|28=>268|29=>269|20=>271|21=>272|22=>273|23=>274|24=>275|25=>276|26=>277|27=>278|46=>293|47=>281|48=>282|49=>294|50=>295|57=>300|n=>n,fun|22=>255|24=>257|25=>259|3=>3|39=>193|0=>0|53=>290|55=>23|4=>4|46=>284|45=>283|50=>93|5=>5|9=>9|66=>302|70=>306|76=>315|77=>316|n=>n,fun|n=>n⟩
theorem Tryz.af4:Go.Proofs.SlLaysF0.n6 Tryz.prog Tryz.XE:={
 mixed:=by kernel_rfl
 f6:=⟨Tryz.f226.name,by decide,Tryz.func226.trans (congrArg some (by kernel_rfl))⟩
 f14:=⟨Tryz.f255.name,by decide,Tryz.func255.trans (congrArg some (by kernel_rfl))⟩
 f15:=Tryz.func249.trans (congrArg some (by kernel_rfl))
 f20:=⟨Tryz.f271.name,by decide,Tryz.func271.trans (congrArg some (by kernel_rfl))⟩
 f21:=⟨Tryz.f272.name,by decide,Tryz.func272.trans (congrArg some (by kernel_rfl))⟩
 f22:=⟨Tryz.f273.name,by decide,Tryz.func273.trans (congrArg some (by kernel_rfl))⟩
 f23:=⟨Tryz.f274.name,by decide,Tryz.func274.trans (congrArg some (by kernel_rfl))⟩
 f24:=⟨Tryz.f275.name,by decide,Tryz.func275.trans (congrArg some (by kernel_rfl))⟩
 f25:=⟨Tryz.f276.name,by decide,Tryz.func276.trans (congrArg some (by kernel_rfl))⟩
 f26:=⟨Tryz.f277.name,by decide,Tryz.func277.trans (congrArg some (by kernel_rfl))⟩
 f27:=⟨Tryz.f278.name,by decide,Tryz.func278.trans (congrArg some (by kernel_rfl))⟩
 f28:=Tryz.func268.trans (congrArg some (by kernel_rfl))
 f29:=Tryz.func269.trans (congrArg some (by kernel_rfl))
 f46:=⟨Tryz.f293.name,by decide,Tryz.func293.trans (congrArg some (by kernel_rfl))⟩
 f47:=Tryz.func281.trans (congrArg some (by kernel_rfl))
 f48:=Tryz.func282.trans (congrArg some (by kernel_rfl))
 f49:=⟨Tryz.f294.name,by decide,Tryz.func294.trans (congrArg some (by kernel_rfl))⟩
 f50:=⟨Tryz.f295.name,by decide,Tryz.func295.trans (congrArg some (by kernel_rfl))⟩
 f57:=⟨Tryz.f300.name,by decide,Tryz.func300.trans (congrArg some (by kernel_rfl))⟩
 t0:=Tryz.underlying0
 a0:=Tryz.isAgg0
 z0:=Tryz.sizeOf0
 v0:=Tryz.zeroValue0
 t3:=Tryz.underlying3
 a3:=Tryz.isAgg3
 z3:=Tryz.sizeOf3
 v3:=Tryz.zeroValue3
 t4:=Tryz.underlying4
 a4:=Tryz.isAgg4
 z4:=Tryz.sizeOf4
 v4:=Tryz.zeroValue4
 t5:=Tryz.underlying5
 a5:=Tryz.isAgg5
 z5:=Tryz.sizeOf5
 v5:=Tryz.zeroValue5
 t9:=Tryz.underlying9
 a9:=Tryz.isAgg9
 z9:=Tryz.sizeOf9
 v9:=Tryz.zeroValue9
 t22:=Tryz.underlying255
 a22:=Tryz.isAgg255
 z22:=Tryz.sizeOf255
 v22:=Tryz.zeroValue255
 t25:=Tryz.underlying259
 a25:=Tryz.isAgg259
 z25:=Tryz.sizeOf259
 v25:=Tryz.zeroValue259
 t39:=Tryz.underlying193
 a39:=Tryz.isAgg193
 z39:=Tryz.sizeOf193
 v39:=Tryz.zeroValue193
 t45:=Tryz.underlying283
 a45:=Tryz.isAgg283
 z45:=Tryz.sizeOf283
 v45:=Tryz.zeroValue283
 t46:=Tryz.underlying284
 a46:=Tryz.isAgg284
 z46:=Tryz.sizeOf284
 v46:=Tryz.zeroValue284
 t50:=Tryz.underlying93
 a50:=Tryz.isAgg93
 z50:=Tryz.sizeOf93
 v50:=Tryz.zeroValue93
 t53:=Tryz.underlying290
 a53:=Tryz.isAgg290
 z53:=Tryz.sizeOf290
 v53:=Tryz.zeroValue290
 t55:=Tryz.underlying23
 a55:=Tryz.isAgg23
 z55:=Tryz.sizeOf23
 v55:=Tryz.zeroValue23
 t66:=Tryz.underlying302
 a66:=Tryz.isAgg302
 z66:=Tryz.sizeOf302
 v66:=Tryz.zeroValue302
 t70:=Tryz.underlying306
 a70:=Tryz.isAgg306
 z70:=Tryz.sizeOf306
 v70:=Tryz.zeroValue306
 t76:=Tryz.underlying315
 a76:=Tryz.isAgg315
 z76:=Tryz.sizeOf315
 v76:=Tryz.zeroValue315
 t77:=Tryz.underlying316
 a77:=Tryz.isAgg316
 z77:=Tryz.sizeOf316
 v77:=Tryz.zeroValue316}
def Tryz.ZL:Go.Shelf.Ren:=⟨fun|5=>223|7=>254|n=>n,fun|22=>3|3=>3|4=>4|n=>n,fun|n=>n⟩
theorem Tryz.cmpInt:Go.Proofs.SlLaysC2.n5 Tryz.prog Tryz.ZL:={
 mixed:=by kernel_rfl
 f5:=⟨Tryz.f223.name,by decide,Tryz.func223.trans (congrArg some (by kernel_rfl))⟩
 f7:=⟨Tryz.f254.name,by decide,Tryz.func254.trans (congrArg some (by kernel_rfl))⟩
 t3:=Tryz.underlying3
 a3:=Tryz.isAgg3
 z3:=Tryz.sizeOf3
 v3:=Tryz.zeroValue3
 t4:=Tryz.underlying4
 a4:=Tryz.isAgg4
 z4:=Tryz.sizeOf4
 v4:=Tryz.zeroValue4
 t22:=Tryz.underlying3
 a22:=Tryz.isAgg3
 z22:=Tryz.sizeOf3
 v22:=Tryz.zeroValue3}
end Go.Proofs

set_option linter.unusedVariables false
set_option maxRecDepth 100000
set_option maxHeartbeats 2000000
namespace Go.Proofs
open Go.Shelf Go.RowKit Go.Lib Go.Sort
theorem aju(x y:List Int)(W:World)(hx:x.length=2)(hy:y.length=2):Calls Tryz.prog 227 #[.agg (x.map (Value.int .i64)).toArray,.agg (y.map (Value.int .i64)).toArray] W fun e w'=>e = .returned (.int .i64 (Lib.compareInt (x.getD 0 0) (y.getD 0 0)))∧∃q os',w'=Go.Sort.grow (W.drewN q) os':=by
 obtain⟨x0,x1,rfl⟩:∃a b,x = [a,b]:=by
  match x,hx with
  | [a,b],_=>exact⟨a,b,rfl⟩
 obtain⟨y0,y1,rfl⟩:∃a b,y = [a,b]:=by
  match y,hy with
  | [a,b],_=>exact⟨a,b,rfl⟩
 have hcon:=fun W'=>AnyG.cmp_Compare_int Tryz.cmpInt x0 y0 W'
 change ∀W',Calls Tryz.prog 223 _ _ _ at hcon
 change Calls Tryz.prog 227 #[.agg #[.int .i64 x0,.int .i64 x1],.agg #[.int .i64 y0,.int .i64 y1]] W fun e w'=>e = .returned (.int .i64 (Lib.compareInt x0 y0))∧∃q os',w'=Go.Sort.grow (W.drewN q) os'
 generalize Lib.compareInt x0 y0=r at hcon⊢
 go_enter Tryz.func227,Tryz.ntmps227
 go_wp2_with (go_at_call 223;refine(hcon _).mono ?_;rintro e w' ⟨rfl,rfl⟩)
 go_ret
 exact⟨rfl,0,_,by rw[alloc_eq_grow,alloc_eq_grow,grow_grow];rfl⟩
end Go.Proofs

namespace Go.Proofs
open Go Go.Tr Go.Shelf
def cfS(x y:List Int):Int:=Lib.compareInt (x.getD 0 0) (y.getD 0 0)
theorem aa8:U3 Tryz.prog 226 227 2 (ZA cfS) (fun zs=>zs.mergeSort fun x y=>!decide (cfS y x<0)):=
 U3.of Tryz.af4 (by omega) (fun w=>by kernel_rfl) (fun w=>by kernel_rfl) cfS 227 (enters_of Tryz.func227 (by kernel_rfl) rfl) (fun x y W hx hy=>aju x y W hx hy)
theorem agH(x y:Int):Lib.compareInt x y<0↔x<y:=by
 unfold Lib.compareInt;split<;>(try split)<;>omega
theorem Em(x y:List Int):cfS x y<0↔x.getD 0 0<y.getD 0 0:=agH _ _
theorem adq{zs:List (List Int)}(h:zs.Pairwise fun x y=>x.getD 0 0<y.getD 0 0):ZA cfS zs:=
 ⟨fun x _=>by rw[Em];omega,fun x _ y _ z _=>by rw[Em,Em,Em];omega,fun x _ y _ z _=>by rw[Em,Em,Em];omega,
  fun x hx y hy=>by
   rw[Em,Em];intro h1 h2;have e:x.getD 0 0=y.getD 0 0:=by omega
   obtain⟨i,hi,rfl⟩:=List.mem_iff_getElem.1 hx;obtain⟨j,hj,rfl⟩:=List.mem_iff_getElem.1 hy;have hp:=List.pairwise_iff_getElem.1 h;rcases Nat.lt_trichotomy i j with g|g|g
   ·have:=hp i j hi hj g;omega
   ·subst g;rfl
   ·have:=hp j i hj hi g;omega⟩
theorem af5{zs:List (List Int)}(h:zs.Pairwise fun x y=>x.getD 0 0<y.getD 0 0):(zs.mergeSort fun x y=>!decide (cfS y x<0))=zs:=by
 refine List.mergeSort_of_pairwise (h.imp fun {x y} hxy=>?_);rw[Bool.not_eq_true',decide_eq_false_iff_not,Em];omega
end Go.Proofs

set_option maxHeartbeats 16000000
namespace Go.Proofs
open Go Go.Tr
def mX(rs:List Rt)(i:Nat):Int:=(rs.getD i ⟨0,false⟩).id
def uX(rs:List Rt)(i:Nat):List Int:=[mX rs i]
def Ef(l:IM):List (List D):=l.map fun x=>[.int .i64 x.1,.int .i64 x.2]
@[simp]theorem anP(l:IM):(Ef l).length=l.length:=by simp[Ef]
theorem Nr{rs:List Rt}(nd:(rs.map Rt.id).Nodup){i j:Nat}(hi:i<rs.length)(hj:j<rs.length)(h:mX rs i=mX rs j):i=j:=by
 unfold mX at h;rw[List.getD_eq_getElem?_getD,List.getD_eq_getElem?_getD,List.getElem?_eq_getElem hi,List.getElem?_eq_getElem hj]at h
 simp only[Option.getD_some]at h;have h2:=List.pairwise_iff_getElem.1 (List.nodup_iff_pairwise_ne.1 nd);rcases Nat.lt_trichotomy i j with e|e|e
 ·exact absurd (by rw[List.getElem_map,List.getElem_map];exact h) (h2 i j (by simpa using hi) (by simpa using hj) e)
 ·exact e
 ·exact absurd (by rw[List.getElem_map,List.getElem_map];exact h.symm) (h2 j i (by simpa using hj) (by simpa using hi) e)
theorem afQ{rs:List Rt}{v:Int}(h:v∈rs.map Rt.id):∃i,i<rs.length∧mX rs i=v:=by
 obtain⟨r,hr,rfl⟩:=List.mem_map.1 h;obtain⟨i,hi,rfl⟩:=List.mem_iff_getElem.1 hr;exact⟨i,hi,by simp[mX,hi]⟩
theorem Jy(n b:Nat)(rs:List Rt)(f:Nat→Nat):DR 1 (oh n b (uX rs) f):=fun y hy=>by
 obtain⟨i,hi,rfl⟩:=List.mem_map.1 hy;rfl
theorem afy(ls:List Lk)(x:Lk)(v:Int):BN (ls++[x]) v=BN ls v++((if x.a=v then [(x.b,x.ca)]else [])++(if x.b=v then [(x.a,x.cb)]else [])):=by
 simp[BN]
theorem afd(ls:List Lk)(x:Lk)(v:Int):Gv (ls++[x]) v=Gv ls v++((if x.b=v then [(x.a,x.ca)]else [])++(if x.a=v then [(x.b,x.cb)]else [])):=by
 simp[Gv]
theorem Tq(v:Int):∀ls:List Lk,(BN ls v).length≤2*ls.length
 | []=>by simp[BN]
 | x::ls=>by
   have h:=Tq v ls;rw[BN,List.flatMap_cons,List.length_append,List.length_append,←BN,List.length_cons];split<;>split<;>simp only[List.length_cons,List.length_nil]<;>omega
theorem W_(v:Int):∀ls:List Lk,(Gv ls v).length≤2*ls.length
 | []=>by simp[Gv]
 | x::ls=>by
   have h:=W_ v ls;rw[Gv,List.flatMap_cons,List.length_append,List.length_append,←Gv,List.length_cons];split<;>split<;>simp only[List.length_cons,List.length_nil]<;>omega
theorem VQ{α:Type}{rs:List Rt}(F:Int→α):(List.range rs.length).map (fun i=>F (mX rs i))=rs.map fun x=>F x.id:=by
 refine List.ext_getElem (by simp) fun i h1 h2=>?_
 simp only[List.length_map,List.length_range]at h1;simp[mX,h1]
theorem aje(g:ay)(hn:g.rs.length≤256)(hl:g.ls.length≤1024)(nd:(g.rs.map Rt.id).Nodup)(he:∀x∈g.ls,x.a∈g.rs.map Rt.id∧x.b∈g.rs.map Rt.id)(hab:∀x∈g.ls,x.a≠x.b)(hpw:∀v,(BN g.ls v).Pairwise fun a b=>a.1<b.1):Contract Tryz.prog 159 [aH g] [] (.agg [.d (.mp (g.rs.map fun x=>[x.id]) (g.rs.map fun x=>.sl (Ef (BN g.ls x.id)))),.d (.mp (g.rs.map fun x=>[x.id]) (g.rs.map fun x=>.sl (Ef (Gv g.ls x.id))))]) [] []:=by
 refine aj Tryz.func159 rfl (fun E0=>?_);refine cO.sound (g:=.mk) (ow:=[3000009,3000010,1000226]) (kp:=(fun k=>k==0||k==1||k==2||k==3||k==5||k==7||k==8||k==13||k==14||k==15||k==16||k==29||k==30||k==31||k==32||k==102||k==104)) ?_;rw[Tryz.ntmps159];simp -dsimp[aH];and_intros;all_goals try first|omega|exact⟨by kernel_rfl⟩|rfl
 refine aN.of [3000009,3000010,1000226] (fun k=>k==0||k==1||k==2||k==3||k==5||k==7||k==8||k==13||k==14||k==15||k==16||k==29||k==30||k==31||k==32||k==102||k==104) (ι:={z:Nat×(Nat×Option (List Int))×Nat×Option (List Int) // z.1≤g.rs.length})
  (fun z=>Bf 9000 z.1.1 (fun _=>It.row 257 2 [] false) (Bf 19000 z.1.1 (fun _=>It.row 257 2 [] false) [(Pl.o 1,It.box [TV.d (.sl (rts g.rs)),TV.d (.sl (dO g.ls))]),(Pl.s 1,It.v (.ptr (Pl.o 1) 0)),
    (Pl.o 2,It.box [TV.c (Value.map none),TV.c (Value.map none)]),(Pl.s 2,It.v (.ptr (Pl.o 2) 0)),
    (Pl.o 9,It.jX (oh z.1.1 9000 (uX g.rs) fun _=>0) z.1.2.1.1 z.1.2.1.2 none),(Pl.o 10,It.jX (oh z.1.1 19000 (uX g.rs) fun _=>0) z.1.2.2.1 z.1.2.2.2 none),(Pl.o 3,It.box [TV.mref 9,TV.mref 10]),
    (Pl.s 3,It.v (.ptr (Pl.o 3) 0)),(Pl.s 13,It.v (.d (.sl (rts g.rs)))),
    (Pl.s 14,It.v (.d (.int .i64 ↑g.rs.length))),(Pl.s 15,It.v (.d (.int .i64 z.1.1)))]))
  (fun z=>g.rs.length-z.1.1) ⟨(0,(0,none),0,none),by omega⟩ ?_ ?_
 ·exact GS.to (by simp[aeC,oh])
 ·rintro⟨⟨i,⟨c1,p1⟩,c2,p2⟩,i1⟩;simp only at i1;by_cases hi:i<g.rs.length
  ·have hiz:(i:Int)<g.rs.length:=by omega
   have hgi:g.rs[i]? = some g.rs[i]:=List.getElem?_eq_getElem hi;have hid:g.rs[i].id=mX g.rs i:=by simp[mX,hi]
   have hkn:=fun b f v=>afk (n:=i) (b:=b) (f:=f) (k:=uX g.rs) (fun j hj e=>by have:=Nr nd (i:=j) (j:=i) (by omega) hi (by simpa[uX]using e);omega) v
   simp only[uX]at hkn;generalize g.rs[i]=y at hgi hid;have w1:IntKind.i64.wrap ((i:Int)+1)=(i:Int)+1:=wrap_i64 (by omega) (by omega);have ei:i≤10000:=by omega
   simp -dsimp[hiz,rts,hgi,hid,hkn,Rt.cs,w1];refine⟨Jy _ _ _ _,Jy _ _ _ _,⟨⟨(i+1,(c1,none),c2,none),by omega⟩,?_,by simp;omega⟩,?_⟩
   ·refine GS.akC (i:=i) (k:=uX g.rs) (c0:=c1) (c1:=c2) (pd0:=none) (pd1:=none) (s0:=none) (s1:=none) 9 10 9000 19000 257 2 (by simp[uX]) (by simp[uX]) (by simp(disch:=omega) [uT,uU]) (by simp(disch:=omega) [uT,uU]) (by decide) (by omega) (by omega) (by omega) (by omega) (by omega) ?_;refine⟨Sub.aeB (n:=i+1) (m:=i+1) (by omega) (fun j hj=>?_) (fun j hj=>?_) ?_ ?_ ?_ ?_,?_⟩
    ·rcases (by omega:j<i∨j=i)with h|h
     ·simp(disch:=omega) [uT,uU,h]
     ·subst h;simp(disch:=omega) [uT,uU]
    ·rcases (by omega:j<i∨j=i)with h|h
     ·simp(disch:=omega) [uT,uU,h]
     ·subst h;simp(disch:=omega) [uT,uU]
    ·simp(disch:=omega) [uT,uU,rts]
    ·simp
    ·simp
    ·simp(disch:=omega);exact⟨fun j hj=>by omega,fun j hj=>by omega⟩
    ·simp(disch:=omega) [uT,uU]
   ·exact⟨by kernel_rfl⟩
  ·have hiz :¬(i:Int)<g.rs.length:=by omega
   obtain rfl:i=g.rs.length:=by omega
   simp -dsimp[hiz];and_intros;all_goals try first|omega|exact⟨by kernel_rfl⟩|rfl
   refine aN.of [3000009,3000010,1000226] (fun k=>k==0||k==1||k==2||k==3||k==5||k==7||k==8||k==13||k==14||k==15||k==16||k==29||k==30||k==31||k==32||k==102||k==104) (ι:={z:Nat×(Nat×Option (List Int))×Nat×Option (List Int) // z.1≤g.ls.length})
    (fun z=>Bf 9000 g.rs.length (fun j=>It.row 257 2 (dd (Ef (BN (g.ls.take z.1.1) (mX g.rs j)))) false) (Bf 19000 g.rs.length (fun j=>It.row 257 2 (dd (Ef (Gv (g.ls.take z.1.1) (mX g.rs j)))) false) [
      (Pl.o 2,It.box [TV.c (Value.map none),TV.c (Value.map none)]),(Pl.s 2,It.v (.ptr (Pl.o 2) 0)),
      (Pl.o 9,It.jX (oh g.rs.length 9000 (uX g.rs) fun j=>(BN (g.ls.take z.1.1) (mX g.rs j)).length) z.1.2.1.1 z.1.2.1.2 none),(Pl.o 10,It.jX (oh g.rs.length 19000 (uX g.rs) fun j=>(Gv (g.ls.take z.1.1) (mX g.rs j)).length) z.1.2.2.1 z.1.2.2.2 none),(Pl.o 3,It.box [TV.mref 9,TV.mref 10]),
      (Pl.s 3,It.v (.ptr (Pl.o 3) 0)),(Pl.s 29,It.v (.d (.sl (dO g.ls)))),
      (Pl.s 30,It.v (.d (.int .i64 ↑g.ls.length))),(Pl.s 31,It.v (.d (.int .i64 z.1.1)))]))
    (fun z=>g.ls.length-z.1.1) ⟨(0,(c1,p1),c2,p2),by omega⟩ ?_ ?_
   ·refine GS.to ⟨Sub.aeB (n:=g.rs.length) (m:=g.rs.length) (by omega) (fun j hj=>?_) (fun j hj=>?_) ?_ ?_ ?_ ?_,?_⟩
    ·simp(disch:=omega) [uT,uU,hj,BN,Ef]
    ·simp(disch:=omega) [uT,uU,hj,Gv,Ef]
    ·simp(disch:=omega) [uT,uU,dO,BN,Gv]
    ·simp
    ·simp
    ·simp(disch:=omega);exact⟨fun j hj=>by omega,fun j hj=>by omega⟩
    ·simp(disch:=omega) [uT,uU]
   ·rintro⟨⟨k,⟨c1,p1⟩,c2,p2⟩,k1⟩;simp only at k1;by_cases hk:k<g.ls.length
    ·have hkz:(k:Int)<g.ls.length:=by omega
     have hgk:g.ls[k]? = some g.ls[k]:=List.getElem?_eq_getElem hk;have hx:=he g.ls[k] (List.getElem_mem hk);have hab:=hab g.ls[k] (List.getElem_mem hk);have htk:g.ls.take (k+1)=g.ls.take k++[g.ls[k]]:=by rw[List.take_add_one,hgk];rfl
     obtain⟨x,ex⟩:∃x,g.ls[k]=x:=⟨_,rfl⟩
     rw[ex]at hgk hx hab htk
     obtain⟨ia,hia,ea⟩:=afQ hx.1;obtain⟨ib,hib,eb⟩:=afQ hx.2;have hne:ia≠ib:=fun e=>hab (by rw[←ea,←eb,e])
     have hne':ib≠ia:=fun e=>hne e.symm
     have hinj:∀i j,i<g.rs.length→j<g.rs.length→uX g.rs i=uX g.rs j→i=j:=fun i j hi hj e=>Nr nd hi hj (by simpa[uX]using e)
     have hga:∀b f,uq (oh g.rs.length b (uX g.rs) f) [x.a]=some (.aB (b+ia) (f ia)):=fun b f=>by rw[←ea];exact SK hinj hia
     have hgb:∀b f,uq (oh g.rs.length b (uX g.rs) f) [x.b]=some (.aB (b+ib) (f ib)):=fun b f=>by rw[←eb];exact SK hinj hib
     have hpa:∀b f m,zu (oh g.rs.length b (uX g.rs) f) [x.a] (.aB (b+ia) m)=oh g.rs.length b (uX g.rs) (fun j=>if j=ia then m else f j):=fun b f m=>by rw[←ea];exact YO hinj hia
     have hpb:∀b f m,zu (oh g.rs.length b (uX g.rs) f) [x.b] (.aB (b+ib) m)=oh g.rs.length b (uX g.rs) (fun j=>if j=ib then m else f j):=fun b f m=>by rw[←eb];exact YO hinj hib
     have w1:IntKind.i64.wrap ((k:Int)+1)=(k:Int)+1:=wrap_i64 (by omega) (by omega);have da1:9000+g.rs.length≤19000+ia:=by omega
     have da2:g.rs.length≤10000+ia:=by omega
     have db1:9000+g.rs.length≤19000+ib:=by omega
     have db2:g.rs.length≤10000+ib:=by omega
     simp -dsimp(maxSteps:=1000000) [hkz,dO,hgk,ex,Lk.cs,w1,hga,hgb,hpa,hpb,hia,hib,hne,hne',Jy,uT,uU,da1,da2,db1,db2];have akH:∀j,j<g.rs.length→(x.a=mX g.rs j↔j=ia)∧(x.b=mX g.rs j↔j=ib):=fun j hj=>by
      rw[←ea,←eb];exact⟨⟨fun e=>(Nr nd hia hj e).symm,fun e=>by rw[e]⟩,⟨fun e=>(Nr nd hib hj e).symm,fun e=>by rw[e]⟩⟩
     have hO:∀j,j<g.rs.length→BN (g.ls.take (k+1)) (mX g.rs j)=if j=ib then BN (g.ls.take k) (mX g.rs ib)++[(x.a,x.cb)]else if j=ia then BN (g.ls.take k) (mX g.rs ia)++[(x.b,x.ca)]else BN (g.ls.take k) (mX g.rs j):=fun j hj=>by
      obtain⟨r1,r2⟩:=akH j hj;rw[htk,afy];by_cases h1:j=ib
      ·have h2:j≠ia:=fun e=>hne (e.symm.trans h1)
       rw[if_neg (fun e=>h2 (r1.1 e)),if_pos (r2.2 h1),if_pos h1,h1];rfl
      ·rw[if_neg (fun e=>h1 (r2.1 e)),if_neg h1];by_cases h2:j=ia
       ·rw[if_pos (r1.2 h2),if_pos h2,h2];rfl
       ·rw[if_neg (fun e=>h2 (r1.1 e)),if_neg h2];simp
     have hI:∀j,j<g.rs.length→Gv (g.ls.take (k+1)) (mX g.rs j)=if j=ia then Gv (g.ls.take k) (mX g.rs ia)++[(x.b,x.cb)]else if j=ib then Gv (g.ls.take k) (mX g.rs ib)++[(x.a,x.ca)]else Gv (g.ls.take k) (mX g.rs j):=fun j hj=>by
      obtain⟨r1,r2⟩:=akH j hj;rw[htk,afd];by_cases h1:j=ia
      ·have h2:j≠ib:=fun e=>hne (h1.symm.trans e)
       rw[if_neg (fun e=>h2 (r2.1 e)),if_pos (r1.2 h1),if_pos h1,h1];rfl
      ·rw[if_neg (fun e=>h1 (r1.1 e)),if_neg h1];by_cases h2:j=ib
       ·rw[if_pos (r2.2 h2),if_pos h2,h2];rfl
       ·rw[if_neg (fun e=>h2 (r2.1 e)),if_neg h2];simp
     have hMO:(oh g.rs.length 9000 (uX g.rs) fun j=>(BN (g.ls.take (k+1)) (mX g.rs j)).length)=oh g.rs.length 9000 (uX g.rs) fun j=>if j=ib then(BN (g.ls.take k) (mX g.rs ib)).length+1 else if j=ia then(BN (g.ls.take k) (mX g.rs ia)).length+1 else(BN (g.ls.take k) (mX g.rs j)).length:=
      SI fun j hj=>by rw[hO j hj];(split<;>try split)<;>simp
     have hMI:(oh g.rs.length 19000 (uX g.rs) fun j=>(Gv (g.ls.take (k+1)) (mX g.rs j)).length)=oh g.rs.length 19000 (uX g.rs) fun j=>if j=ia then(Gv (g.ls.take k) (mX g.rs ia)).length+1 else if j=ib then(Gv (g.ls.take k) (mX g.rs ib)).length+1 else(Gv (g.ls.take k) (mX g.rs j)).length:=
      SI fun j hj=>by rw[hI j hj];(split<;>try split)<;>simp
     have lk:=List.length_take_le k g.ls;have l1:=Tq (mX g.rs ia) (g.ls.take k);have l2:=Tq (mX g.rs ib) (g.ls.take k);have l3:=W_ (mX g.rs ia) (g.ls.take k);have l4:=W_ (mX g.rs ib) (g.ls.take k);refine⟨by omega,by omega,by omega,by omega,by omega,by omega,by omega,by omega,⟨⟨(k+1,(c1,none),c2,none),by omega⟩,?_,by simp;omega⟩,?_,?_,?_,?_⟩
     ·refine GS.to ⟨Sub.aeB (n:=g.rs.length) (m:=g.rs.length) (by omega) (fun j hj=>?_) (fun j hj=>?_) ?_ ?_ ?_ ?_,?_⟩
      ·simp[hj,hO j hj];split<;>try split
       all_goals simp[Ef,dd]
      ·have e1:9000+g.rs.length≤19000+j:=by omega
       have e2:g.rs.length≤10000+j:=by omega
       simp[hj,hI j hj,e1,e2];split<;>try split
       all_goals simp[Ef,dd]
      ·simp[dO,hMO,hMI]
      ·simp
      ·simp
      ·simp;exact⟨fun j hj=>by omega,fun j hj=>by omega⟩
      ·simp
     ·refine O_.ren (fun p=>if p = .o (19000+ia)then .o 9000 else p) ?_
      conv=>lhs;arg 2;simp[He,uT,uU]
      kernel_rfl
     ·refine O_.ren (fun p=>if p = .o (19000+ib)then .o 9000 else p) ?_
      conv=>lhs;arg 2;simp[He,uT,uU]
      kernel_rfl
     ·refine O_.ren (fun p=>if p = .o (9000+ib)then .o 9000 else p) ?_
      conv=>lhs;arg 2;simp[He,uT,uU]
      kernel_rfl
     ·refine O_.ren (fun p=>if p = .o (9000+ia)then .o 9000 else p) ?_
      conv=>lhs;arg 2;simp[He,uT,uU]
      kernel_rfl
    ·have hkz :¬(k:Int)<g.ls.length:=by omega
     obtain rfl:k=g.ls.length:=by omega
     rw[List.take_length];simp -dsimp[hkz];refine Ho.range ?_;simp -dsimp[Lh,OY];intro sn;refine aN.of [3000009,3000010,1000226] (fun k=>k==0||k==1||k==2||k==3||k==5||k==7||k==8||k==13||k==14||k==15||k==16||k==29||k==30||k==31||k==32||k==102||k==104) (ι:={z:List (List Int)×Option (List Int) // ∀k∈z.1,∃i,i<g.rs.length∧k = [mX g.rs i]})
      (fun z=>Bf 9000 g.rs.length (fun j=>It.row 257 2 (dd (Ef (BN g.ls (mX g.rs j)))) false) (Bf 19000 g.rs.length (fun j=>It.row 257 2 (dd (Ef (Gv g.ls (mX g.rs j)))) false) [
        (Pl.o 2,It.box [TV.c (Value.map none),TV.c (Value.map none)]),(Pl.s 2,It.v (.ptr (Pl.o 2) 0)),
        (Pl.o 9,It.jX (oh g.rs.length 9000 (uX g.rs) fun j=>(BN g.ls (mX g.rs j)).length) c1 p1 (some sn)),(Pl.o 10,It.jX (oh g.rs.length 19000 (uX g.rs) fun j=>(Gv g.ls (mX g.rs j)).length) c2 p2 none),(Pl.o 3,It.box [TV.mref 9,TV.mref 10]),
        (Pl.s 3,It.v (.ptr (Pl.o 3) 0)),(Pl.s 102,It.v (.ptr (Pl.o 102) 0)),(Pl.o 102,It.DK 9 sn z.1.1 z.1.2)]))
      (fun z=>z.1.1.length) ⟨((oh g.rs.length 9000 (uX g.rs) fun j=>(BN g.ls (mX g.rs j)).length).map (·.1),none),fun k hk=>?_⟩ ?_ ?_
     ·simp only[oh,List.map_map,List.mem_map,List.mem_range]at hk;obtain⟨i,hi,rfl⟩:=hk;exact⟨i,hi,rfl⟩
     ·refine GS.to ⟨Sub.aeB (n:=g.rs.length) (m:=g.rs.length) (by omega) (fun j hj=>?_) (fun j hj=>?_) ?_ ?_ ?_ ?_,?_⟩
      ·simp[hj]
      ·have e1:9000+g.rs.length≤19000+j:=by omega
       have e2:g.rs.length≤10000+j:=by omega
       simp[hj,e1,e2]
      ·simp
      ·simp
      ·simp
      ·simp;exact⟨fun j hj=>by omega,fun j hj=>by omega⟩
      ·simp
     ·rintro⟨⟨left,cur⟩,j1⟩;simp only at j1;simp -dsimp;refine Ho.next ?_;simp -dsimp[VD];refine⟨fun hl0=>?_,fun x hx=>?_⟩
      ·subst hl0;refine Fin.ghost (t':=Tr.look [(Pl.o 9,It.jX ((List.range g.rs.length).map fun i=>(uX g.rs i,TV.d (.sl (Ef (BN g.ls (mX g.rs i)))))) c1 p1 (some sn)),(Pl.o 10,It.jX ((List.range g.rs.length).map fun i=>(uX g.rs i,TV.d (.sl (Ef (Gv g.ls (mX g.rs i)))))) c2 p2 none),(Pl.o 2,It.box [TV.mref 9,TV.mref 10]),(Pl.s 2,It.v (.ptr (Pl.o 2) 0))]) ?_
        ((GS.afY (nH:=9) (b:=9000) (n:=g.rs.length) (e:=257) (z:=2) (k:=uX g.rs) (xs:=fun j=>Ef (BN g.ls (mX g.rs j))) (c:=c1) (pd:=p1) (s:=some sn) (by simp) (fun i hi=>by simp[hi]) (by omega)).trans
          ((GS.afY (nH:=10) (b:=19000) (n:=g.rs.length) (e:=257) (z:=2) (k:=uX g.rs) (xs:=fun j=>Ef (Gv g.ls (mX g.rs j))) (c:=c2) (pd:=p2) (s:=none) ?_ (fun i hi=>?_) (by omega)).trans (GS.ag7 ⟨?_,?_⟩ ?_)))
       ·have eO:((List.range g.rs.length).map fun i=>(uX g.rs i,TV.d (.sl (Ef (BN g.ls (mX g.rs i))))))=(g.rs.map fun x=>([x.id],D.sl (Ef (BN g.ls x.id)))).map fun x=>(x.1,TV.d x.2):=by
         exact(VQ (rs:=g.rs) (fun v=>([v],TV.d (.sl (Ef (BN g.ls v)))))).trans (by rw[List.map_map];rfl)
        have eI:((List.range g.rs.length).map fun i=>(uX g.rs i,TV.d (.sl (Ef (Gv g.ls (mX g.rs i))))))=(g.rs.map fun x=>([x.id],D.sl (Ef (Gv g.ls x.id)))).map fun x=>(x.1,TV.d x.2):=by
         exact(VQ (rs:=g.rs) (fun v=>([v],TV.d (.sl (Ef (Gv g.ls v)))))).trans (by rw[List.map_map];rfl)
        rw[eO,eI];refine Fin.yc 9 (g.rs.map fun x=>([x.id],D.sl (Ef (BN g.ls x.id)))) rfl ?_;simp;refine Fin.yc 10 (g.rs.map fun x=>([x.id],D.sl (Ef (Gv g.ls x.id)))) (c:=c2) (pd:=p2) (s:=none) (by simp) ?_;simp;refine Fin.of ?_;simp[PZ]
       ·rw[Ja (by omega) (by omega)];simp
       ·rw[Ja (by omega) (by omega)];have e1:9000+g.rs.length≤19000+i:=by omega
        have e2:g.rs.length≤10000+i:=by omega
        simp[hi,e1,e2]
       ·simp only[List.forall_mem_cons,List.not_mem_nil,false_imp_iff,implies_true,and_true];refine⟨?_,?_,?_,?_⟩
        ·rw[Ja (by omega) (by omega),Zc];simp
        ·rw[Zc];simp
        ·rw[Ja (by omega) (by omega),Ja (by omega) (by omega)];simp
        ·rw[afZ,afZ];simp
       ·simp
       ·intro i;rw[af0,af0];simp
      ·obtain⟨ia,hia,rfl⟩:=j1 x hx;have hinj:∀i j,i<g.rs.length→j<g.rs.length→uX g.rs i=uX g.rs j→i=j:=fun i j hi hj e=>Nr nd hi hj (by simpa[uX]using e)
       have hga:∀b f,uq (oh g.rs.length b (uX g.rs) f) [mX g.rs ia]=some (.aB (b+ia) (f ia)):=fun b f=>SK hinj hia
       simp -dsimp[hia,hga,Jy,uT,uU];have hpw:=hpw (mX g.rs ia);have hle:=Tq (mX g.rs ia) g.ls;obtain⟨zs,hzs⟩:∃zs,zs=(BN g.ls (mX g.rs ia)).map fun x=>[x.1,x.2]:=⟨_,rfl⟩
       have hR:dd (Ef (BN g.ls (mX g.rs ia)))=dd (JQ zs):=by rw[hzs];simp[Ef,JQ,dd]
       have hpz:zs.Pairwise fun x y=>x.getD 0 0<y.getD 0 0:=by
        rw[hzs,List.pairwise_map];exact hpw.imp fun {a b} h=>by simpa using h
       have hlz:zs.length=(BN g.ls (mX g.rs ia)).length:=by rw[hzs,List.length_map]
       have hpre:=adq hpz;have hS:=af5 hpz;refine ah.af2 aa8 zs ?_;simp -dsimp[hia,hR,hlz,hpre,hS];refine⟨by omega,⟨(left.erase [mX g.rs ia],some [mX g.rs ia]),fun y hy=>j1 y (List.mem_of_mem_erase hy)⟩,GS.to ⟨Sub.aeB (n:=g.rs.length) (m:=g.rs.length) (by omega) (fun j hj=>?_) (fun j hj=>?_) ?_ ?_ ?_ ?_,?_⟩,?_⟩
       ·simp[hj];intro e;rw[e,hR]
       ·have e1:9000+g.rs.length≤19000+j:=by omega
        have e2:g.rs.length≤10000+j:=by omega
        simp[hj,e1,e2]
       ·simp
       ·simp
       ·simp
       ·simp;exact⟨fun j hj=>by omega,fun j hj=>by omega⟩
       ·simp
       ·simp only[List.length_erase_of_mem hx];have:=List.length_pos_of_mem hx;omega
end Go.Proofs
