/-
  What functions of the program compute, stated as contracts over plain data; the conditions of each stand in its own statement.
-/
import Derived.Test.YtboimfkommpglaaGreatDoorZA09
import Derived.Test.YtboimfkommpglaaGreatDoorZA05
import Derived.KernelRfl
import Derived.Test.YtboimfkommpglaaGreatDoorChecked
import Derived.ProofKit
set_option linter.unusedSimpArgs false
namespace Go.Tr
open Go
def MJ(w:World):En:={w:=w,St:=fun b _=>b<w.heap.size,blk:=fun _=>none,val:=fun _=>none}
def Hz(w:World):Prop:=∀y∈Yx,bQ (MJ w) y.1 0 y.2
theorem ahi(w:World)(hg:Hz w):jQ (MJ w) (NR []):=by
 refine⟨fun p hp=>?_,fun _=>rfl,fun p q b h=>?_,fun p b h=>?_,fun b o h=>h,fun b o h p g=>?_,hg⟩
 ·have:NR [] p = .none:=by cases p<;>simp[NR]
  rw[this];exact fun id _=>⟨rfl,rfl⟩
 ·cases p<;>simp[En.own,MJ]at h
 ·cases p<;>simp[En.own,MJ]at h
 ·cases p<;>simp[En.own,MJ]at g
theorem Contract.law{P:Program}{f:FuncId}{args:List TV}{r:TV}{ro:List (Nat×It)}(c:Contract P f args [] r [] ro){w:World}(hg:Hz w){us:List Value}(h:aP (MJ w) args us):
  Calls P f us.toArray w fun e w'=>∃u E',e = .returned u∧aA E' r u∧RowKit.Below w.heap.size w w':=by
 refine(c (MJ w) us (ahi w hg) h).mono fun e w' ⟨u,E',he,hw,hp⟩=>⟨u,E',he,hp.rel,?_⟩
 subst hw;exact⟨hp.fr.os,hp.fr.tape,hp.fr.output,hp.fr.size,fun k hk=>hp.fr.old k hk (fun i=>by simp[MJ]) (fun i=>by simp[En.own,MJ])⟩
section
variable {A:eX}
theorem bG.vs{E:En}{us:List Value}:∀{ts:List TV} {o:Nat},bG E us o ts→aP E ts ((us.drop o).take ts.length)∧(∀i,o≤i→i<o+ts.length→∃u,us[i]? = some u∧u.oneCell'=true)
 | [],o,_=>⟨by rfl,fun i h1 h2=>by grind⟩
 | t::ts,o,⟨⟨u,h1,h2,h3⟩,r⟩=>by
   obtain⟨g1,g2⟩:=bG.vs r;have hlt:o<us.length:=(List.getElem?_eq_some_iff.1 h1).1;have hu:us[o]=u:=by rw[List.getElem?_eq_getElem hlt]at h1;simpa using h1
   refine⟨?_,fun i i1 i2=>?_⟩
   ·rw[List.drop_eq_getElem_cons hlt,List.length_cons,List.take_succ_cons,hu];simp only[aP];exact⟨u,_,rfl,h3,g1⟩
   ·by_cases e:i=o
    ·subst e;exact⟨u,h1,h2⟩
    ·exact g2 i (by omega) (by simp at i2;omega)
theorem aP.len{E:En}:∀{ts:List TV} {us:List Value},aP E ts us→us.length=ts.length
 | [],us,h=>by grind[aP]
 | t::ts,us,h=>by
   obtain⟨u,us',rfl,_,g⟩:=h;simp[aP.len g]
theorem aP.cellsB{E:En}{us:List Value}:∀{ts:List TV} {o:Nat},o+ts.length≤us.length→aP E ts ((us.drop o).take ts.length)→(∀i,o≤i→i<o+ts.length→∃u,us[i]? = some u∧u.oneCell'=true)→bG E us o ts
 | [],_,_,_,_=>trivial
 | t::ts,o,hl,h,h1=>by
   have hlt:o<us.length:=by grind
   rw[List.drop_eq_getElem_cons hlt,List.length_cons,List.take_succ_cons]at h
   obtain⟨u,us',he,g1,g2⟩:=h;obtain⟨rfl,rfl⟩:=he;refine⟨⟨us[o],List.getElem?_eq_getElem hlt,?_,g1⟩,aP.cellsB (by grind) g2 fun i i1 i2=>h1 i (by omega) (by grind)⟩;obtain⟨u,e1,e2⟩:=h1 o (by omega) (by simp)
   simp_all
theorem dL.aiv{t:S}{a:Act}{E:En}{p:Pl}{cs cs':List TV}(hi:dL A t a E)(hs:∀k,p≠.s k)(hp:t p = .box cs)
  (hrel:∀(b:Nat) (ty:TypeId) (us:Array Value),E.blk p=some b→E.w.heap[b]? = some (.cells us ty (0,0))→us.size=cs.length→aP E cs' us.toList) :
  dL A (upd t p (.box cs')) a E:=by
 refine⟨⟨fun q hq=>?_,hi.h.frees,hi.h.inj,hi.h.size,hi.h.oQ,fun b o h1 q h2=>?_,hi.h.gl⟩,hi.fr,fun k tv hk=>?_,hi.defers,hi.size⟩
 ·by_cases e:q=p
  ·subst e;have h:=hi.h.item q hq;rw[hp]at h
   simp only[upd,if_true];obtain⟨h1,b,ty,us,h2,h3,h4,h5⟩:=h;obtain⟨g1,g2⟩:=h5.vs;have g3:=hrel b ty us h2 h3 h4;have hl:=g3.len;rw[Array.length_toList]at hl
   refine⟨h1,b,ty,us,h2,h3,hl,aP.cellsB (by simp_all) ?_ fun i i1 i2=>g2 i i1 (by omega)⟩
   grind[List.take_of_length_le]
  ·simp only[upd,if_neg e];exact hi.h.item q hq
 ·obtain⟨e,k,es,h3,h4⟩:=hi.h.sep b o h1 q h2;refine⟨e,k,es,?_,h4⟩;have:q≠p:=by grind
  simp only[upd,if_neg this];omega
 ·have:Pl.s k≠p:=by grind
  simp only[upd,if_neg this]at hk;exact hi.sl k tv hk
def Wp(t:S)(p:Pl):VR:=
 match t p with
 | .box cs=>match Jb t cs with
   | some (C,rp,vs',W)=>.some C (p::rp) ((p,.box vs')::W)
   | none=>.none
 | _=>.none
theorem ajl{t:S}{c c':TV}{C:Prop}{rp:List Pl}{W:List (Pl×It)}(h:Zd t c=some (C,rp,c',W)):∀p∈W.map (·.1),∃e k es sh,t p = .row e k es sh:=by
 unfold Zd at h
 grind
theorem ajk{t:S}{c c':TV}{C:Prop}{rp:List Pl}{W:List (Pl×It)}(h:Zd t c=some (C,rp,c',W)):∀x∈W,∃e k es sh,x.2 = .row e k es sh:=by
 unfold Zd at h
 grind
theorem XD:∀{vs:List TV} {t:S} {vs':List TV} {C:Prop} {rp:List Pl} {W:List (Pl×It)},Jb t vs=some (C,rp,vs',W)→(∀x∈W,∃e k es sh,x.2 = .row e k es sh)∧∀p cs,t p = .box cs→p∉W.map (·.1)
 | [],_,_,_,_,_,h=>by trivial
 | c::l,t,vs',C,rp,W,h=>by
   simp only[Jb]at h;split at h
   ·split at h
    ·trivial
    ·rename_i hl;obtain⟨rfl,rfl,rfl,rfl⟩:=h;exact XD hl
   ·rename_i C1 rp1 c1 W1 hc;have hW:=ajl hc;have hR:=ajk hc;have hn:∀p cs,t p = .box cs→p∉W1.map (·.1):=by grind
    split at h
    ·grind
    ·rename_i hl;simp only[Option.some.injEq,Prod.mk.injEq]at h;obtain⟨rfl,rfl,rfl,rfl⟩:=h;obtain⟨g1,g2⟩:=XD hl
     grind[mW]
theorem abv{t:S}{p:Pl}(hs:qw p=true)(hC:(Wp t p).C):GS A t (over t (Wp t p).W):=fun a w hi=>by
 unfold Wp at hC⊢;split
 ·rename_i cs hp;rw[hp]at hC
  split
  ·rename_i C rp vs' W hv;simp only[hv,VR.C]at hC;obtain⟨E,hw,hi⟩:=hi;obtain⟨E',k1,k2,k3,k4⟩:=NC hv hC (fun _ _=>rfl) hi;have hbox:over t W p = .box cs:=by grind[over,mW,XD]
   refine⟨E',k1.trans hw,k3.aiv (fun k e=>by simp_all) hbox fun b ty us e1 e2 e3=>k4 _ ?_⟩;have h:=hi.h.item p (fun k e=>by simp_all);rw[hp]at h
   obtain⟨h1,b0,ty0,Zq,h2,h3,h4,h5⟩:=h;have hb:E'.blk p=some b0:=by
    cases p with
    | o id=>exact k2.aea id b0 trivial h2
    | x id=>exact k2.agE id b0 h2
    | s id=>trivial
   rw[hb]at e1
   simp only[Option.some.injEq]at e1;subst e1;rw[k1,h3]at e2
   have:=h5.vs.1
   grind[List.take_of_length_le]
  trivial
 trivial
end
section
variable {A:eX}
attribute [simp] Wp
end
theorem Fin.gs{P:Program}{A:eX}{fn:Func}{r:TV}{xs:List It}{ro:List (Nat×It)}{l l':List (Pl×It)}(g:GS A (look l) (look l'))(h:Fin P A fn r xs ro (look l')):Fin P A fn r xs ro (look l):=
 fun a w hi=>h a w (g a w hi)
theorem Fin.box{P:Program}{A:eX}{fn:Func}{r:TV}{xs:List It}{ro:List (Nat×It)}{l:List (Pl×It)}(p:Pl)(hs:qw p=true)(h:(Wp (look l) p).C∧Fin P A fn r xs ro (over (look l) (Wp (look l) p).W)):Fin P A fn r xs ro (look l):=
 fun a w hi=>h.2 a w (abv hs h.1 a w hi)
end Go.Tr

namespace Go.Proofs
open Go Go.Tr
@[simp]theorem lf3:lf Tryz.prog 3=some 0:=by kernel_rfl
@[simp]theorem arX:uJ Tryz.prog 3=some false:=by kernel_rfl
@[simp]theorem ar1:lQ Tryz.prog 3=some 1:=by kernel_rfl
@[simp]theorem arV:knd Tryz.prog 3=some .i64:=by kernel_rfl
@[simp]theorem arQ:Hy Tryz.prog 3=some 8:=by kernel_rfl
@[simp]theorem ar7:tC Tryz.prog 3=some (Value.int .i64 0):=by kernel_rfl
@[simp]theorem arY:uJ Tryz.prog 4=some false:=by kernel_rfl
@[simp]theorem ar2:lQ Tryz.prog 4=some 1:=by kernel_rfl
@[simp]theorem an4:Hy Tryz.prog 4=some 1:=by kernel_rfl
@[simp]theorem ar8:tC Tryz.prog 4=some (Value.bool false):=by kernel_rfl
@[simp]theorem ar6:u8K Tryz.prog 5=true:=by kernel_rfl
@[simp]theorem arZ:uJ Tryz.prog 5=some false:=by kernel_rfl
@[simp]theorem ar4:lQ Tryz.prog 5=some 1:=by kernel_rfl
@[simp]theorem arW:knd Tryz.prog 5=some .u8:=by kernel_rfl
@[simp]theorem arR:Hy Tryz.prog 5=some 1:=by kernel_rfl
@[simp]theorem ar9:tC Tryz.prog 5=some (Value.int .u8 0):=by kernel_rfl
@[simp]theorem lf9:lf Tryz.prog 9=some 2:=by kernel_rfl
@[simp]theorem ar0:uJ Tryz.prog 9=some false:=by kernel_rfl
@[simp]theorem ar5:lQ Tryz.prog 9=some 1:=by kernel_rfl
@[simp]theorem ao8:isStr Tryz.prog 9=true:=by kernel_rfl
@[simp]theorem aqn:uJ Tryz.prog 22=some false:=by kernel_rfl
@[simp]theorem aq6:lQ Tryz.prog 22=some 1:=by kernel_rfl
@[simp]theorem aqK:uY Tryz.prog 22=some 3:=by kernel_rfl
@[simp]theorem arz:tC Tryz.prog 22=some (Value.slice none 0 0):=by kernel_rfl
@[simp]theorem lf23:lf Tryz.prog 23=some 0:=by kernel_rfl
@[simp]theorem aqo:uJ Tryz.prog 23=some false:=by kernel_rfl
@[simp]theorem aq7:lQ Tryz.prog 23=some 1:=by kernel_rfl
@[simp]theorem aqm:knd Tryz.prog 23=some .u64:=by kernel_rfl
@[simp]theorem arA:tC Tryz.prog 23=some (Value.int .u64 0):=by kernel_rfl
@[simp]theorem an7:acS Tryz.prog 25=some [(0,3),(1,3),(2,3),(3,3),(4,3),(5,3),(6,3),(7,3),(8,23),(9,9)]:=by kernel_rfl
@[simp]theorem an_:Yk Tryz.prog 25=true:=by kernel_rfl
@[simp]theorem aqp:uJ Tryz.prog 25=some true:=by kernel_rfl
@[simp]theorem aq8:lQ Tryz.prog 25=some 10:=by kernel_rfl
@[simp]theorem aln:qL Tryz.prog 25 0=some (0,3):=by kernel_rfl
@[simp]theorem alx:qL Tryz.prog 25 1=some (1,3):=by kernel_rfl
@[simp]theorem alG:qL Tryz.prog 25 2=some (2,3):=by kernel_rfl
@[simp]theorem alM:qL Tryz.prog 25 3=some (3,3):=by kernel_rfl
@[simp]theorem alO:qL Tryz.prog 25 4=some (4,3):=by kernel_rfl
@[simp]theorem alP:qL Tryz.prog 25 5=some (5,3):=by kernel_rfl
@[simp]theorem alQ:qL Tryz.prog 25 6=some (6,3):=by kernel_rfl
@[simp]theorem alR:qL Tryz.prog 25 7=some (7,3):=by kernel_rfl
@[simp]theorem alS:qL Tryz.prog 25 8=some (8,23):=by kernel_rfl
@[simp]theorem alT:qL Tryz.prog 25 9=some (9,9):=by kernel_rfl
@[simp]theorem aqU:Jd Tryz.prog 25=some [(0,1),(1,1),(2,1),(3,1),(4,1),(5,1),(6,1),(7,1),(8,1),(9,1)]:=by kernel_rfl
@[simp]theorem arB:tC Tryz.prog 25=some (Value.agg #[.int .i64 0,.int .i64 0,.int .i64 0,.int .i64 0,.int .i64 0,.int .i64 0,.int .i64 0,.int .i64 0,.int .u64 0,.string ⟨#[]⟩]):=by kernel_rfl
@[simp]theorem aqr:uJ Tryz.prog 27=some true:=by kernel_rfl
@[simp]theorem aq9:lQ Tryz.prog 27=some 11:=by kernel_rfl
@[simp]theorem alo:qL Tryz.prog 27 0=some (0,22):=by kernel_rfl
@[simp]theorem aly:qL Tryz.prog 27 1=some (1,25):=by kernel_rfl
@[simp]theorem aqV:Jd Tryz.prog 27=some [(0,1),(1,10)]:=by kernel_rfl
@[simp]theorem arC:tC Tryz.prog 27=some (Value.agg #[.slice none 0 0,.int .i64 0,.int .i64 0,.int .i64 0,.int .i64 0,.int .i64 0,.int .i64 0,.int .i64 0,.int .i64 0,.int .u64 0,.string ⟨#[]⟩]):=by kernel_rfl
@[simp]theorem aqs:uJ Tryz.prog 29=some true:=by kernel_rfl
@[simp]theorem aq_:lQ Tryz.prog 29=some 12:=by kernel_rfl
@[simp]theorem alp:qL Tryz.prog 29 0=some (0,3):=by kernel_rfl
@[simp]theorem alz:qL Tryz.prog 29 1=some (1,27):=by kernel_rfl
@[simp]theorem aqW:Jd Tryz.prog 29=some [(0,1),(1,11)]:=by kernel_rfl
@[simp]theorem aqf:Hy Tryz.prog 29=some 120:=by kernel_rfl
@[simp]theorem arD:tC Tryz.prog 29=some (Value.agg #[.int .i64 0,.slice none 0 0,.int .i64 0,.int .i64 0,.int .i64 0,.int .i64 0,.int .i64 0,.int .i64 0,.int .i64 0,.int .i64 0,.int .u64 0,.string ⟨#[]⟩]):=by kernel_rfl
@[simp]theorem aqt:uJ Tryz.prog 32=some false:=by kernel_rfl
@[simp]theorem ara:lQ Tryz.prog 32=some 1:=by kernel_rfl
@[simp]theorem aqL:uY Tryz.prog 32=some 117:=by kernel_rfl
@[simp]theorem aqu:uJ Tryz.prog 33=some false:=by kernel_rfl
@[simp]theorem arb:lQ Tryz.prog 33=some 1:=by kernel_rfl
@[simp]theorem aqM:uY Tryz.prog 33=some 142:=by kernel_rfl
@[simp]theorem aqv:uJ Tryz.prog 35=some true:=by kernel_rfl
@[simp]theorem ard:lQ Tryz.prog 35=some 2:=by kernel_rfl
@[simp]theorem alq:qL Tryz.prog 35 0=some (0,32):=by kernel_rfl
@[simp]theorem alA:qL Tryz.prog 35 1=some (1,33):=by kernel_rfl
@[simp]theorem aqX:Jd Tryz.prog 35=some [(0,1),(1,1)]:=by kernel_rfl
@[simp]theorem arG:tC Tryz.prog 35=some (Value.agg #[.slice none 0 0,.slice none 0 0]):=by kernel_rfl
@[simp]theorem aqw:uJ Tryz.prog 37=some false:=by kernel_rfl
@[simp]theorem arf:lQ Tryz.prog 37=some 1:=by kernel_rfl
@[simp]theorem arH:tC Tryz.prog 37=some Value.nilFunc:=by kernel_rfl
@[simp]theorem arh:lQ Tryz.prog 39=some 2:=by kernel_rfl
@[simp]theorem aqb:kN Tryz.prog 39=some (2,3):=by kernel_rfl
@[simp]theorem aqY:Jd Tryz.prog 39=none:=by kernel_rfl
@[simp]theorem aqd:arF Tryz.prog 39=some 1:=by kernel_rfl
@[simp]theorem arI:tC Tryz.prog 39=some (Value.agg #[.int .i64 0,.int .i64 0]):=by kernel_rfl
@[simp]theorem ari:lQ Tryz.prog 41=some 6:=by kernel_rfl
@[simp]theorem aqc:kN Tryz.prog 41=some (3,39):=by kernel_rfl
@[simp]theorem aqZ:Jd Tryz.prog 41=none:=by kernel_rfl
@[simp]theorem aqe:arF Tryz.prog 41=some 2:=by kernel_rfl
@[simp]theorem arJ:tC Tryz.prog 41=some (Value.agg #[.int .i64 0,.int .i64 0,.int .i64 0,.int .i64 0,.int .i64 0,.int .i64 0]):=by kernel_rfl
@[simp]theorem aqx:uJ Tryz.prog 50=some false:=by kernel_rfl
@[simp]theorem arj:lQ Tryz.prog 50=some 1:=by kernel_rfl
@[simp]theorem aqN:uY Tryz.prog 50=some 115:=by kernel_rfl
@[simp]theorem aqy:uJ Tryz.prog 52=some true:=by kernel_rfl
@[simp]theorem ark:lQ Tryz.prog 52=some 3:=by kernel_rfl
@[simp]theorem alr:qL Tryz.prog 52 0=some (0,3):=by kernel_rfl
@[simp]theorem alB:qL Tryz.prog 52 1=some (1,3):=by kernel_rfl
@[simp]theorem alH:qL Tryz.prog 52 2=some (2,50):=by kernel_rfl
@[simp]theorem aq0:Jd Tryz.prog 52=some [(0,1),(1,1),(2,1)]:=by kernel_rfl
@[simp]theorem arK:tC Tryz.prog 52=some (Value.agg #[.int .i64 0,.int .i64 0,.slice none 0 0]):=by kernel_rfl
@[simp]theorem aqz:uJ Tryz.prog 53=some false:=by kernel_rfl
@[simp]theorem aqO:uY Tryz.prog 53=some 65:=by kernel_rfl
@[simp]theorem aqA:uJ Tryz.prog 63=some false:=by kernel_rfl
@[simp]theorem arl:lQ Tryz.prog 63=some 1:=by kernel_rfl
@[simp]theorem aqP:uY Tryz.prog 63=some 167:=by kernel_rfl
@[simp]theorem aqB:uJ Tryz.prog 65=some true:=by kernel_rfl
@[simp]theorem arn:lQ Tryz.prog 65=some 4:=by kernel_rfl
@[simp]theorem als:qL Tryz.prog 65 0=some (0,3):=by kernel_rfl
@[simp]theorem alC:qL Tryz.prog 65 1=some (1,3):=by kernel_rfl
@[simp]theorem alI:qL Tryz.prog 65 2=some (2,3):=by kernel_rfl
@[simp]theorem alN:qL Tryz.prog 65 3=some (3,63):=by kernel_rfl
@[simp]theorem aq1:Jd Tryz.prog 65=some [(0,1),(1,1),(2,1),(3,1)]:=by kernel_rfl
@[simp]theorem aqg:Hy Tryz.prog 65=some 48:=by kernel_rfl
@[simp]theorem arL:tC Tryz.prog 65=some (Value.agg #[.int .i64 0,.int .i64 0,.int .i64 0,.slice none 0 0]):=by kernel_rfl
@[simp]theorem aqC:uJ Tryz.prog 68=some false:=by kernel_rfl
@[simp]theorem aro:lQ Tryz.prog 68=some 1:=by kernel_rfl
@[simp]theorem aqQ:uY Tryz.prog 68=some 29:=by kernel_rfl
@[simp]theorem aqD:uJ Tryz.prog 70=some true:=by kernel_rfl
@[simp]theorem arp:lQ Tryz.prog 70=some 3:=by kernel_rfl
@[simp]theorem alu:qL Tryz.prog 70 0=some (0,23):=by kernel_rfl
@[simp]theorem alD:qL Tryz.prog 70 1=some (1,23):=by kernel_rfl
@[simp]theorem alJ:qL Tryz.prog 70 2=some (2,68):=by kernel_rfl
@[simp]theorem aq2:Jd Tryz.prog 70=some [(0,1),(1,1),(2,1)]:=by kernel_rfl
@[simp]theorem arM:tC Tryz.prog 70=some (Value.agg #[.int .u64 0,.int .u64 0,.slice none 0 0]):=by kernel_rfl
@[simp]theorem aqE:uJ Tryz.prog 79=some false:=by kernel_rfl
@[simp]theorem arq:lQ Tryz.prog 79=some 1:=by kernel_rfl
@[simp]theorem aqR:uY Tryz.prog 79=some 92:=by kernel_rfl
@[simp]theorem aqF:uJ Tryz.prog 80=some false:=by kernel_rfl
@[simp]theorem ars:lQ Tryz.prog 80=some 1:=by kernel_rfl
@[simp]theorem aqS:uY Tryz.prog 80=some 96:=by kernel_rfl
@[simp]theorem aqG:uJ Tryz.prog 81=some false:=by kernel_rfl
@[simp]theorem aru:lQ Tryz.prog 81=some 1:=by kernel_rfl
@[simp]theorem aqT:uY Tryz.prog 81=some 176:=by kernel_rfl
@[simp]theorem aqH:uJ Tryz.prog 83=some true:=by kernel_rfl
@[simp]theorem arv:lQ Tryz.prog 83=some 3:=by kernel_rfl
@[simp]theorem alv:qL Tryz.prog 83 0=some (0,79):=by kernel_rfl
@[simp]theorem alE:qL Tryz.prog 83 1=some (1,80):=by kernel_rfl
@[simp]theorem alK:qL Tryz.prog 83 2=some (2,81):=by kernel_rfl
@[simp]theorem aq3:Jd Tryz.prog 83=some [(0,1),(1,1),(2,1)]:=by kernel_rfl
@[simp]theorem arN:tC Tryz.prog 83=some (Value.agg #[.slice none 0 0,.slice none 0 0,.slice none 0 0]):=by kernel_rfl
@[simp]theorem an8:acS Tryz.prog 92=some [(0,3),(1,25)]:=by kernel_rfl
@[simp]theorem aoa:Yk Tryz.prog 92=true:=by kernel_rfl
@[simp]theorem aqI:uJ Tryz.prog 92=some true:=by kernel_rfl
@[simp]theorem arw:lQ Tryz.prog 92=some 11:=by kernel_rfl
@[simp]theorem abE:qL Tryz.prog 92 0=some (0,3):=by kernel_rfl
@[simp]theorem alF:qL Tryz.prog 92 1=some (1,25):=by kernel_rfl
@[simp]theorem aq4:Jd Tryz.prog 92=some [(0,1),(1,10)]:=by kernel_rfl
@[simp]theorem aqh:Hy Tryz.prog 92=some 96:=by kernel_rfl
@[simp]theorem arO:tC Tryz.prog 92=some (Value.agg #[.int .i64 0,.int .i64 0,.int .i64 0,.int .i64 0,.int .i64 0,.int .i64 0,.int .i64 0,.int .i64 0,.int .i64 0,.int .u64 0,.string ⟨#[]⟩]):=by kernel_rfl
@[simp]theorem an9:acS Tryz.prog 96=some [(0,3),(1,3),(2,23)]:=by kernel_rfl
@[simp]theorem aob:Yk Tryz.prog 96=true:=by kernel_rfl
@[simp]theorem aqJ:uJ Tryz.prog 96=some true:=by kernel_rfl
@[simp]theorem arx:lQ Tryz.prog 96=some 3:=by kernel_rfl
@[simp]theorem aq5:Jd Tryz.prog 96=some [(0,1),(1,1),(2,1)]:=by kernel_rfl
@[simp]theorem aqi:Hy Tryz.prog 96=some 24:=by kernel_rfl
@[simp]theorem arP:tC Tryz.prog 96=some (Value.agg #[.int .i64 0,.int .i64 0,.int .u64 0]):=by kernel_rfl
@[simp]theorem apf:uJ Tryz.prog 115=some true:=by kernel_rfl
@[simp]theorem apL:lQ Tryz.prog 115=some 2:=by kernel_rfl
@[simp]theorem ake:qL Tryz.prog 115 0=some (0,3):=by kernel_rfl
@[simp]theorem akn:qL Tryz.prog 115 1=some (1,3):=by kernel_rfl
@[simp]theorem apB:Jd Tryz.prog 115=some [(0,1),(1,1)]:=by kernel_rfl
@[simp]theorem anW:Hy Tryz.prog 115=some 16:=by kernel_rfl
@[simp]theorem apZ:tC Tryz.prog 115=some (Value.agg #[.int .i64 0,.int .i64 0]):=by kernel_rfl
@[simp]theorem apg:uJ Tryz.prog 117=some true:=by kernel_rfl
@[simp]theorem apM:lQ Tryz.prog 117=some 2:=by kernel_rfl
@[simp]theorem akf:qL Tryz.prog 117 0=some (0,3):=by kernel_rfl
@[simp]theorem ako:qL Tryz.prog 117 1=some (1,4):=by kernel_rfl
@[simp]theorem apC:Jd Tryz.prog 117=some [(0,1),(1,1)]:=by kernel_rfl
@[simp]theorem anX:Hy Tryz.prog 117=some 16:=by kernel_rfl
@[simp]theorem ap0:tC Tryz.prog 117=some (Value.agg #[.int .i64 0,.bool false]):=by kernel_rfl
@[simp]theorem ajm:uJ Tryz.prog 118=some false:=by kernel_rfl
@[simp]theorem ajv:lQ Tryz.prog 118=some 1:=by kernel_rfl
@[simp]theorem ajp:uY Tryz.prog 118=some 120:=by kernel_rfl
@[simp]theorem ajM:tC Tryz.prog 118=some (Value.slice none 0 0):=by kernel_rfl
@[simp]theorem ajn:uJ Tryz.prog 120=some true:=by kernel_rfl
@[simp]theorem ajw:lQ Tryz.prog 120=some 4:=by kernel_rfl
@[simp]theorem aeE:qL Tryz.prog 120 0=some (0,3):=by kernel_rfl
@[simp]theorem aeH:qL Tryz.prog 120 1=some (1,3):=by kernel_rfl
@[simp]theorem aeJ:qL Tryz.prog 120 3=some (3,3):=by kernel_rfl
@[simp]theorem ajs:Jd Tryz.prog 120=some [(0,1),(1,1),(2,1),(3,1)]:=by kernel_rfl
@[simp]theorem aix:Hy Tryz.prog 120=some 32:=by kernel_rfl
@[simp]theorem ajN:tC Tryz.prog 120=some (Value.agg #[.int .i64 0,.int .i64 0,.int .i64 0,.int .i64 0]):=by kernel_rfl
@[simp]theorem akg:qL Tryz.prog 140 0=some (0,22):=by kernel_rfl
@[simp]theorem akp:qL Tryz.prog 140 1=some (1,3):=by kernel_rfl
@[simp]theorem apD:Jd Tryz.prog 140=some [(0,1),(1,1)]:=by kernel_rfl
@[simp]theorem ap1:tC Tryz.prog 140=some (Value.agg #[.slice none 0 0,.int .i64 0]):=by kernel_rfl
@[simp]theorem aph:uJ Tryz.prog 142=some true:=by kernel_rfl
@[simp]theorem apN:lQ Tryz.prog 142=some 5:=by kernel_rfl
@[simp]theorem akh:qL Tryz.prog 142 0=some (0,3):=by kernel_rfl
@[simp]theorem akq:qL Tryz.prog 142 1=some (1,3):=by kernel_rfl
@[simp]theorem akx:qL Tryz.prog 142 2=some (2,3):=by kernel_rfl
@[simp]theorem aky:qL Tryz.prog 142 3=some (3,3):=by kernel_rfl
@[simp]theorem akz:qL Tryz.prog 142 4=some (4,3):=by kernel_rfl
@[simp]theorem apE:Jd Tryz.prog 142=some [(0,1),(1,1),(2,1),(3,1),(4,1)]:=by kernel_rfl
@[simp]theorem anY:Hy Tryz.prog 142=some 40:=by kernel_rfl
@[simp]theorem ap2:tC Tryz.prog 142=some (Value.agg #[.int .i64 0,.int .i64 0,.int .i64 0,.int .i64 0,.int .i64 0]):=by kernel_rfl
@[simp]theorem apj:uJ Tryz.prog 146=some false:=by kernel_rfl
@[simp]theorem apO:lQ Tryz.prog 146=some 1:=by kernel_rfl
@[simp]theorem akV:YR Tryz.prog 146 1=some 22:=by kernel_rfl
@[simp]theorem ap3:tC Tryz.prog 146=some (Value.map none):=by kernel_rfl
@[simp]theorem apk:uJ Tryz.prog 148=some false:=by kernel_rfl
@[simp]theorem apP:lQ Tryz.prog 148=some 1:=by kernel_rfl
@[simp]theorem ap4:tC Tryz.prog 148=some Value.nilFunc:=by kernel_rfl
@[simp]theorem apl:uJ Tryz.prog 167=some true:=by kernel_rfl
@[simp]theorem apQ:lQ Tryz.prog 167=some 2:=by kernel_rfl
@[simp]theorem aki:qL Tryz.prog 167 0=some (0,3):=by kernel_rfl
@[simp]theorem akr:qL Tryz.prog 167 1=some (1,22):=by kernel_rfl
@[simp]theorem apF:Jd Tryz.prog 167=some [(0,1),(1,1)]:=by kernel_rfl
@[simp]theorem anZ:Hy Tryz.prog 167=some 32:=by kernel_rfl
@[simp]theorem ap5:tC Tryz.prog 167=some (Value.agg #[.int .i64 0,.slice none 0 0]):=by kernel_rfl
@[simp]theorem alk:acS Tryz.prog 176=some [(0,3),(1,23)]:=by kernel_rfl
@[simp]theorem alm:Yk Tryz.prog 176=true:=by kernel_rfl
@[simp]theorem apm:uJ Tryz.prog 176=some true:=by kernel_rfl
@[simp]theorem apR:lQ Tryz.prog 176=some 2:=by kernel_rfl
@[simp]theorem aeF:qL Tryz.prog 176 0=some (0,3):=by kernel_rfl
@[simp]theorem aks:qL Tryz.prog 176 1=some (1,23):=by kernel_rfl
@[simp]theorem apG:Jd Tryz.prog 176=some [(0,1),(1,1)]:=by kernel_rfl
@[simp]theorem an0:Hy Tryz.prog 176=some 16:=by kernel_rfl
@[simp]theorem ap6:tC Tryz.prog 176=some (Value.agg #[.int .i64 0,.int .u64 0]):=by kernel_rfl
@[simp]theorem aeG:qL Tryz.prog 180 0=some (0,22):=by kernel_rfl
@[simp]theorem aeI:qL Tryz.prog 180 1=some (1,3):=by kernel_rfl
@[simp]theorem ajt:Jd Tryz.prog 180=some [(0,1),(1,1)]:=by kernel_rfl
@[simp]theorem ajO:tC Tryz.prog 180=some (Value.agg #[.slice none 0 0,.int .i64 0]):=by kernel_rfl
@[simp]theorem ajq:uY Tryz.prog 181=some 182:=by kernel_rfl
@[simp]theorem ajo:uJ Tryz.prog 182=some false:=by kernel_rfl
@[simp]theorem ajx:lQ Tryz.prog 182=some 1:=by kernel_rfl
@[simp]theorem ajr:uY Tryz.prog 182=some 4:=by kernel_rfl
@[simp]theorem aiy:Hy Tryz.prog 182=some 24:=by kernel_rfl
@[simp]theorem ajP:tC Tryz.prog 182=some (Value.slice none 0 0):=by kernel_rfl
@[simp]theorem apn:uJ Tryz.prog 193=some false:=by kernel_rfl
@[simp]theorem ao9:knd Tryz.prog 193=some .u64:=by kernel_rfl
@[simp]theorem apa:mpE Tryz.prog 196=some 3:=by kernel_rfl
@[simp]theorem akS:J4 Tryz.prog 196=true:=by kernel_rfl
@[simp]theorem akW:YR Tryz.prog 196 1=some 3:=by kernel_rfl
@[simp]theorem apo:uJ Tryz.prog 213=some false:=by kernel_rfl
@[simp]theorem apS:lQ Tryz.prog 213=some 1:=by kernel_rfl
@[simp]theorem apb:mpE Tryz.prog 213=some 255:=by kernel_rfl
@[simp]theorem akT:J4 Tryz.prog 213=true:=by kernel_rfl
@[simp]theorem akX:YR Tryz.prog 213 1=some 255:=by kernel_rfl
@[simp]theorem apq:uJ Tryz.prog 215=some true:=by kernel_rfl
@[simp]theorem apT:lQ Tryz.prog 215=some 2:=by kernel_rfl
@[simp]theorem akj:qL Tryz.prog 215 0=some (0,213):=by kernel_rfl
@[simp]theorem akt:qL Tryz.prog 215 1=some (1,213):=by kernel_rfl
@[simp]theorem apH:Jd Tryz.prog 215=some [(0,1),(1,1)]:=by kernel_rfl
@[simp]theorem ap7:tC Tryz.prog 215=some (Value.agg #[.map none,.map none]):=by kernel_rfl
@[simp]theorem apw:uY Tryz.prog 232=some 5:=by kernel_rfl
@[simp]theorem apr:uJ Tryz.prog 236=some true:=by kernel_rfl
@[simp]theorem apU:lQ Tryz.prog 236=some 12:=by kernel_rfl
@[simp]theorem akk:qL Tryz.prog 236 0=some (0,3):=by kernel_rfl
@[simp]theorem aku:qL Tryz.prog 236 1=some (1,27):=by kernel_rfl
@[simp]theorem apI:Jd Tryz.prog 236=some [(0,1),(1,11)]:=by kernel_rfl
@[simp]theorem an1:Hy Tryz.prog 236=some 120:=by kernel_rfl
@[simp]theorem ap8:tC Tryz.prog 236=some (Value.agg #[.int .i64 0,.slice none 0 0,.int .i64 0,.int .i64 0,.int .i64 0,.int .i64 0,.int .i64 0,.int .i64 0,.int .i64 0,.int .i64 0,.int .u64 0,.string ⟨#[]⟩]):=by kernel_rfl
@[simp]theorem apx:uY Tryz.prog 237=some 236:=by kernel_rfl
@[simp]theorem apy:uY Tryz.prog 255=some 257:=by kernel_rfl
@[simp]theorem ap9:tC Tryz.prog 255=some (Value.slice none 0 0):=by kernel_rfl
@[simp]theorem aps:uJ Tryz.prog 257=some true:=by kernel_rfl
@[simp]theorem apV:lQ Tryz.prog 257=some 2:=by kernel_rfl
@[simp]theorem akl:qL Tryz.prog 257 0=some (0,3):=by kernel_rfl
@[simp]theorem akv:qL Tryz.prog 257 1=some (1,3):=by kernel_rfl
@[simp]theorem apJ:Jd Tryz.prog 257=some [(0,1),(1,1)]:=by kernel_rfl
@[simp]theorem an2:Hy Tryz.prog 257=some 16:=by kernel_rfl
@[simp]theorem ap_:tC Tryz.prog 257=some (Value.agg #[.int .i64 0,.int .i64 0]):=by kernel_rfl
@[simp]theorem apc:mpE Tryz.prog 265=some 23:=by kernel_rfl
@[simp]theorem anS:kN Tryz.prog 280=some (64,5):=by kernel_rfl
@[simp]theorem apt:uJ Tryz.prog 292=some true:=by kernel_rfl
@[simp]theorem apW:lQ Tryz.prog 292=some 11:=by kernel_rfl
@[simp]theorem akm:qL Tryz.prog 292 0=some (0,3):=by kernel_rfl
@[simp]theorem akw:qL Tryz.prog 292 1=some (1,25):=by kernel_rfl
@[simp]theorem apK:Jd Tryz.prog 292=some [(0,1),(1,10)]:=by kernel_rfl
@[simp]theorem an3:Hy Tryz.prog 292=some 96:=by kernel_rfl
@[simp]theorem aqa:tC Tryz.prog 292=some (Value.agg #[.int .i64 0,.int .i64 0,.int .i64 0,.int .i64 0,.int .i64 0,.int .i64 0,.int .i64 0,.int .i64 0,.int .i64 0,.int .u64 0,.string ⟨#[]⟩]):=by kernel_rfl
@[simp]theorem apz:uY Tryz.prog 293=some 292:=by kernel_rfl
@[simp]theorem apu:uJ Tryz.prog 300=some false:=by kernel_rfl
@[simp]theorem akY:YR Tryz.prog 300 1=some 4:=by kernel_rfl
@[simp]theorem apv:uJ Tryz.prog 301=some false:=by kernel_rfl
@[simp]theorem aoc:aZ Tryz.prog 15=true:=by kernel_rfl
@[simp]theorem aod:aZ Tryz.prog 16=true:=by kernel_rfl
@[simp]theorem aoe:aZ Tryz.prog 17=true:=by kernel_rfl
@[simp]theorem aof:aZ Tryz.prog 18=true:=by kernel_rfl
@[simp]theorem aog:aZ Tryz.prog 19=true:=by kernel_rfl
@[simp]theorem aoh:aZ Tryz.prog 20=true:=by kernel_rfl
@[simp]theorem aoi:aZ Tryz.prog 21=true:=by kernel_rfl
@[simp]theorem aoj:aZ Tryz.prog 22=true:=by kernel_rfl
@[simp]theorem aiF:aZ Tryz.prog 23=true:=by kernel_rfl
@[simp]theorem aok:aZ Tryz.prog 24=true:=by kernel_rfl
@[simp]theorem aeK:aZ Tryz.prog 25=true:=by kernel_rfl
@[simp]theorem aol:aZ Tryz.prog 26=true:=by kernel_rfl
@[simp]theorem aom:aZ Tryz.prog 27=true:=by kernel_rfl
@[simp]theorem aon:aZ Tryz.prog 30=true:=by kernel_rfl
@[simp]theorem aop:aZ Tryz.prog 34=true:=by kernel_rfl
@[simp]theorem aoq:aZ Tryz.prog 35=true:=by kernel_rfl
@[simp]theorem aos:aZ Tryz.prog 38=true:=by kernel_rfl
@[simp]theorem aot:aZ Tryz.prog 40=true:=by kernel_rfl
@[simp]theorem aou:aZ Tryz.prog 41=true:=by kernel_rfl
@[simp]theorem Z_:aZ Tryz.prog 44=true:=by kernel_rfl
@[simp]theorem aox:aZ Tryz.prog 47=true:=by kernel_rfl
@[simp]theorem aoy:aZ Tryz.prog 48=true:=by kernel_rfl
@[simp]theorem aoB:aZ Tryz.prog 54=true:=by kernel_rfl
@[simp]theorem aiK:aZ Tryz.prog 59=true:=by kernel_rfl
@[simp]theorem aiL:aZ Tryz.prog 60=true:=by kernel_rfl
@[simp]theorem aiM:aZ Tryz.prog 61=true:=by kernel_rfl
@[simp]theorem aiN:aZ Tryz.prog 66=true:=by kernel_rfl
@[simp]theorem aoC:aZ Tryz.prog 76=true:=by kernel_rfl
@[simp]theorem aoD:aZ Tryz.prog 77=true:=by kernel_rfl
@[simp]theorem aoE:aZ Tryz.prog 78=true:=by kernel_rfl
@[simp]theorem aoF:aZ Tryz.prog 79=true:=by kernel_rfl
@[simp]theorem aoG:aZ Tryz.prog 81=true:=by kernel_rfl
@[simp]theorem aoH:aZ Tryz.prog 82=true:=by kernel_rfl
@[simp]theorem aoI:aZ Tryz.prog 83=true:=by kernel_rfl
@[simp]theorem aoJ:aZ Tryz.prog 84=true:=by kernel_rfl
@[simp]theorem aoK:aZ Tryz.prog 85=true:=by kernel_rfl
@[simp]theorem aoL:aZ Tryz.prog 86=true:=by kernel_rfl
@[simp]theorem aoM:aZ Tryz.prog 87=true:=by kernel_rfl
@[simp]theorem aoN:aZ Tryz.prog 88=true:=by kernel_rfl
@[simp]theorem aoO:aZ Tryz.prog 89=true:=by kernel_rfl
@[simp]theorem aoP:aZ Tryz.prog 90=true:=by kernel_rfl
@[simp]theorem aoQ:aZ Tryz.prog 91=true:=by kernel_rfl
@[simp]theorem aoR:aZ Tryz.prog 92=true:=by kernel_rfl
@[simp]theorem aoS:aZ Tryz.prog 93=true:=by kernel_rfl
@[simp]theorem aoT:aZ Tryz.prog 96=true:=by kernel_rfl
@[simp]theorem aoU:aZ Tryz.prog 97=true:=by kernel_rfl
@[simp]theorem aoV:aZ Tryz.prog 98=true:=by kernel_rfl
@[simp]theorem aoW:aZ Tryz.prog 99=true:=by kernel_rfl
@[simp]theorem alU:aZ Tryz.prog 100=true:=by kernel_rfl
@[simp]theorem alV:aZ Tryz.prog 101=true:=by kernel_rfl
@[simp]theorem alW:aZ Tryz.prog 102=true:=by kernel_rfl
@[simp]theorem alX:aZ Tryz.prog 104=true:=by kernel_rfl
@[simp]theorem alY:aZ Tryz.prog 105=true:=by kernel_rfl
@[simp]theorem alZ:aZ Tryz.prog 106=true:=by kernel_rfl
@[simp]theorem al0:aZ Tryz.prog 108=true:=by kernel_rfl
@[simp]theorem al1:aZ Tryz.prog 111=true:=by kernel_rfl
@[simp]theorem al2:aZ Tryz.prog 112=true:=by kernel_rfl
@[simp]theorem al3:aZ Tryz.prog 113=true:=by kernel_rfl
@[simp]theorem al4:aZ Tryz.prog 114=true:=by kernel_rfl
@[simp]theorem al5:aZ Tryz.prog 115=true:=by kernel_rfl
@[simp]theorem al6:aZ Tryz.prog 117=true:=by kernel_rfl
@[simp]theorem al7:aZ Tryz.prog 118=true:=by kernel_rfl
@[simp]theorem al8:aZ Tryz.prog 119=true:=by kernel_rfl
@[simp]theorem al9:aZ Tryz.prog 120=true:=by kernel_rfl
@[simp]theorem al_:aZ Tryz.prog 121=true:=by kernel_rfl
@[simp]theorem ama:aZ Tryz.prog 122=true:=by kernel_rfl
@[simp]theorem agV:aZ Tryz.prog 123=true:=by kernel_rfl
@[simp]theorem amb:aZ Tryz.prog 124=true:=by kernel_rfl
@[simp]theorem amc:aZ Tryz.prog 125=true:=by kernel_rfl
@[simp]theorem agW:aZ Tryz.prog 126=true:=by kernel_rfl
@[simp]theorem amd:aZ Tryz.prog 129=true:=by kernel_rfl
@[simp]theorem ame:aZ Tryz.prog 130=true:=by kernel_rfl
@[simp]theorem agX:aZ Tryz.prog 131=true:=by kernel_rfl
@[simp]theorem amf:aZ Tryz.prog 132=true:=by kernel_rfl
@[simp]theorem agY:aZ Tryz.prog 133=true:=by kernel_rfl
@[simp]theorem agZ:aZ Tryz.prog 134=true:=by kernel_rfl
@[simp]theorem ag0:aZ Tryz.prog 135=true:=by kernel_rfl
@[simp]theorem amg:aZ Tryz.prog 139=true:=by kernel_rfl
@[simp]theorem ag1:aZ Tryz.prog 141=true:=by kernel_rfl
@[simp]theorem ag2:aZ Tryz.prog 144=true:=by kernel_rfl
@[simp]theorem abJ:aZ Tryz.prog 146=true:=by kernel_rfl
@[simp]theorem amh:aZ Tryz.prog 147=true:=by kernel_rfl
@[simp]theorem ami:aZ Tryz.prog 149=true:=by kernel_rfl
@[simp]theorem amj:aZ Tryz.prog 151=true:=by kernel_rfl
@[simp]theorem amk:aZ Tryz.prog 153=true:=by kernel_rfl
@[simp]theorem aml:aZ Tryz.prog 157=true:=by kernel_rfl
@[simp]theorem amm:aZ Tryz.prog 158=true:=by kernel_rfl
@[simp]theorem amn:aZ Tryz.prog 159=true:=by kernel_rfl
@[simp]theorem amo:aZ Tryz.prog 160=true:=by kernel_rfl
@[simp]theorem amq:aZ Tryz.prog 161=true:=by kernel_rfl
@[simp]theorem amr:aZ Tryz.prog 162=true:=by kernel_rfl
@[simp]theorem ams:aZ Tryz.prog 163=true:=by kernel_rfl
@[simp]theorem amu:aZ Tryz.prog 164=true:=by kernel_rfl
@[simp]theorem amv:aZ Tryz.prog 165=true:=by kernel_rfl
@[simp]theorem amw:aZ Tryz.prog 166=true:=by kernel_rfl
@[simp]theorem amx:aZ Tryz.prog 167=true:=by kernel_rfl
@[simp]theorem amy:aZ Tryz.prog 168=true:=by kernel_rfl
@[simp]theorem amz:aZ Tryz.prog 169=true:=by kernel_rfl
@[simp]theorem amA:aZ Tryz.prog 170=true:=by kernel_rfl
@[simp]theorem amB:aZ Tryz.prog 171=true:=by kernel_rfl
@[simp]theorem amC:aZ Tryz.prog 172=true:=by kernel_rfl
@[simp]theorem amD:aZ Tryz.prog 173=true:=by kernel_rfl
@[simp]theorem amE:aZ Tryz.prog 174=true:=by kernel_rfl
@[simp]theorem amF:aZ Tryz.prog 175=true:=by kernel_rfl
@[simp]theorem amG:aZ Tryz.prog 177=true:=by kernel_rfl
@[simp]theorem amH:aZ Tryz.prog 178=true:=by kernel_rfl
@[simp]theorem amI:aZ Tryz.prog 179=true:=by kernel_rfl
@[simp]theorem amJ:aZ Tryz.prog 180=true:=by kernel_rfl
@[simp]theorem amK:aZ Tryz.prog 181=true:=by kernel_rfl
@[simp]theorem amL:aZ Tryz.prog 182=true:=by kernel_rfl
@[simp]theorem amM:aZ Tryz.prog 183=true:=by kernel_rfl
@[simp]theorem amN:aZ Tryz.prog 184=true:=by kernel_rfl
@[simp]theorem amO:aZ Tryz.prog 185=true:=by kernel_rfl
@[simp]theorem amP:aZ Tryz.prog 186=true:=by kernel_rfl
@[simp]theorem amQ:aZ Tryz.prog 187=true:=by kernel_rfl
@[simp]theorem amR:aZ Tryz.prog 188=true:=by kernel_rfl
@[simp]theorem amS:aZ Tryz.prog 189=true:=by kernel_rfl
@[simp]theorem amT:aZ Tryz.prog 190=true:=by kernel_rfl
@[simp]theorem amU:aZ Tryz.prog 191=true:=by kernel_rfl
@[simp]theorem amV:aZ Tryz.prog 192=true:=by kernel_rfl
@[simp]theorem amW:aZ Tryz.prog 193=true:=by kernel_rfl
@[simp]theorem amX:aZ Tryz.prog 194=true:=by kernel_rfl
@[simp]theorem amY:aZ Tryz.prog 195=true:=by kernel_rfl
@[simp]theorem amZ:aZ Tryz.prog 196=true:=by kernel_rfl
@[simp]theorem am0:aZ Tryz.prog 197=true:=by kernel_rfl
@[simp]theorem am1:aZ Tryz.prog 198=true:=by kernel_rfl
@[simp]theorem am2:aZ Tryz.prog 199=true:=by kernel_rfl
@[simp]theorem am3:aZ Tryz.prog 203=true:=by kernel_rfl
@[simp]theorem am4:aZ Tryz.prog 204=true:=by kernel_rfl
@[simp]theorem am5:aZ Tryz.prog 205=true:=by kernel_rfl
@[simp]theorem am6:aZ Tryz.prog 206=true:=by kernel_rfl
@[simp]theorem am7:aZ Tryz.prog 207=true:=by kernel_rfl
@[simp]theorem am8:aZ Tryz.prog 208=true:=by kernel_rfl
@[simp]theorem am9:aZ Tryz.prog 209=true:=by kernel_rfl
@[simp]theorem am_:aZ Tryz.prog 215=true:=by kernel_rfl
@[simp]theorem ana:aZ Tryz.prog 217=true:=by kernel_rfl
@[simp]theorem ag3:aZ Tryz.prog 218=true:=by kernel_rfl
@[simp]theorem anb:aZ Tryz.prog 220=true:=by kernel_rfl
@[simp]theorem ane:aZ Tryz.prog 221=true:=by kernel_rfl
@[simp]theorem anf:aZ Tryz.prog 222=true:=by kernel_rfl
@[simp]theorem ang:aZ Tryz.prog 223=true:=by kernel_rfl
@[simp]theorem anh:aZ Tryz.prog 224=true:=by kernel_rfl
@[simp]theorem ani:aZ Tryz.prog 225=true:=by kernel_rfl
@[simp]theorem anj:aZ Tryz.prog 226=true:=by kernel_rfl
@[simp]theorem ank:aZ Tryz.prog 228=true:=by kernel_rfl
@[simp]theorem anl:aZ Tryz.prog 229=true:=by kernel_rfl
@[simp]theorem anm:aZ Tryz.prog 230=true:=by kernel_rfl
@[simp]theorem ano:aZ Tryz.prog 231=true:=by kernel_rfl
@[simp]theorem anp:aZ Tryz.prog 232=true:=by kernel_rfl
@[simp]theorem anq:aZ Tryz.prog 233=true:=by kernel_rfl
@[simp]theorem anr:aZ Tryz.prog 234=true:=by kernel_rfl
@[simp]theorem ant:aZ Tryz.prog 235=true:=by kernel_rfl
@[simp]theorem anu:aZ Tryz.prog 236=true:=by kernel_rfl
@[simp]theorem anv:aZ Tryz.prog 237=true:=by kernel_rfl
@[simp]theorem anw:aZ Tryz.prog 238=true:=by kernel_rfl
@[simp]theorem anx:aZ Tryz.prog 239=true:=by kernel_rfl
@[simp]theorem anz:aZ Tryz.prog 240=true:=by kernel_rfl
@[simp]theorem anA:aZ Tryz.prog 241=true:=by kernel_rfl
@[simp]theorem anB:aZ Tryz.prog 242=true:=by kernel_rfl
@[simp]theorem anC:aZ Tryz.prog 243=true:=by kernel_rfl
@[simp]theorem anD:aZ Tryz.prog 244=true:=by kernel_rfl
@[simp]theorem ag4:aZ Tryz.prog 250=true:=by kernel_rfl
@[simp]theorem ag5:aZ Tryz.prog 251=true:=by kernel_rfl
@[simp]theorem ag6:aZ Tryz.prog 252=true:=by kernel_rfl
@[simp]theorem anE:aZ Tryz.prog 254=true:=by kernel_rfl
@[simp]theorem anF:aZ Tryz.prog 256=true:=by kernel_rfl
@[simp]theorem anG:aZ Tryz.prog 257=true:=by kernel_rfl
@[simp]theorem mixed:Tryz.prog.follows .mixedOrders=true:=by kernel_rfl
end Go.Proofs

namespace Go.Tr
open Go
inductive Ty where
 | int (k:IntKind)
 | bool
 | str
 | sl (e:Ty)
 | st (fs:List Ty)
mutual
def Ty.size:Ty→Nat
 | .st fs=>Ty.sizes fs
 | _=>1
def Ty.sizes:List Ty→Nat
 | []=>0
 | f::fs=>f.size+Ty.sizes fs
end
mutual
def Ty.has:Ty→List D→Prop
 | .int k,ds=>∃n,ds = [.int k n]∧(Lit.int k n).wf=true
 | .bool,ds=>∃b,ds = [.bool b]
 | .str,ds=>∃s:ByteArray,ds = [.str s]∧s.size≤maxLen
 | .sl e,ds=>∃xs,ds = [.sl xs]∧xs.length≤maxLen∧∀x∈xs,e.has x
 | .st fs,ds=>Ty.hass fs ds
def Ty.hass:List Ty→List D→Prop
 | [],ds=>ds = []
 | f::fs,ds=>∃a b,ds=a++b∧f.has a∧Ty.hass fs b
end
mutual
def kK(P:Program):Ty→TypeId→Bool
 | .int k,t=>match P.underlying t with|some (.int k')=>decide (k'=k)|_=>false
 | .bool,t=>match P.underlying t with|some .bool=>true|_=>false
 | .str,t=>match P.underlying t with|some .string=>true|_=>false
 | .sl e,t=>match P.underlying t with|some (.slice u)=>kK P e u&&(decide (P.cellsOf u=e.size)&&decide (0<e.size))|_=>false
 | .st fs,t=>match P.underlying t with|some (.struct a)=>agn P fs a.toList 0&&decide (P.cellsOf t=Ty.sizes fs)|_=>false
def agn(P:Program):List Ty→List Field→Nat→Bool
 | [],[],_=>true
 | T::fs,f::l,o=>decide (f.offset=o)&&(decide (P.cellsOf f.type=T.size)&&(kK P T f.type&&agn P fs l (o+T.size)))
 | _,_,_=>false
end
mutual
theorem Ty.WZ:∀(T:Ty) {ds:List D},T.has ds→ds.length=T.size
 | .int k,ds,h=>by obtain⟨n,rfl,_⟩:=h;rfl
 | .bool,ds,h=>by obtain⟨n,rfl⟩:=h;rfl
 | .str,ds,h=>by obtain⟨n,rfl,_⟩:=h;rfl
 | .sl e,ds,h=>by obtain⟨n,rfl,_⟩:=h;rfl
 | .st fs,ds,h=>by exact Ty.YA fs h
theorem Ty.YA:∀(fs:List Ty) {ds:List D},Ty.hass fs ds→ds.length=Ty.sizes fs
 | [],ds,h=>by grind[Ty.hass,Ty.sizes]
 | f::fs,ds,h=>by
   obtain⟨a,b,rfl,h1,h2⟩:=h;simp only[Ty.sizes,List.length_append,Ty.WZ f h1,Ty.YA fs h2]
end
theorem aP.app{E:En}:∀{a b:List TV} {us vs:List Value},aP E a us→aP E b vs→aP E (a++b) (us++vs)
 | [],b,us,vs,h,g=>by grind[aP]
 | t::a,b,us,vs,h,g=>by
   obtain⟨u,us',rfl,h1,h2⟩:=h;exact⟨u,_,rfl,h1,aP.app h2 g⟩
theorem ad3(b o m:Nat):(⟨b,o,none⟩:Addr).add m=⟨b,o+m,none⟩:=by
 simp[Addr.add]
theorem cell_lt{w:World}{a:Addr}{v:Value}(h:w.cell? a=some v):a.block<w.heap.size∧a.spot=none:=by
 simp only[World.cell?]at h;split at h
 ·rename_i hh;refine⟨(Array.getElem?_eq_some_iff.1 hh).1,?_⟩
  simp_all
 trivial
theorem U9{w:World}{b:Nat}:∀{ds:List D} {vs:List Value} {o:Nat},aP (MJ w) (ds.map .d) vs→(∀i,i<ds.length→w.cell? ⟨b,o+i,none⟩ = vs[i]?)→bQ (MJ w) b o ds
 | [],_,_,_,_=>by trivial
 | d::ds,vs,o,h,hc=>by
   obtain⟨u,vs',rfl,h1,h2⟩:=h;have h0:=hc 0 (by simp);refine⟨⟨(cell_lt h0).1,u,h0,by trivial⟩,U9 h2 fun i hi=>?_⟩;have:=hc (i+1) (by simp[*])
   grind
theorem T_{E:En}{b k:Nat}{p:List D→Prop}:∀(n:Nat) {o:Nat},(∀i,i<n→∃ds,p ds∧ds.length=k∧bQ E b (o+i*k) ds)→∃xs:List (List D),xs.length=n∧(∀x∈xs,p x)∧jd E b k o xs
 | 0,o,_=>⟨[],rfl,by simp,by trivial⟩
 | n+1,o,h=>by
   obtain⟨d,h1,h2,h3⟩:=h 0 (by omega);obtain⟨xs,g1,g2,g3⟩:=T_ (p:=p) n (o:=o+k) fun i hi=>by
    obtain⟨ds,k1,k2,k3⟩:=h (i+1) (by omega);refine⟨ds,k1,k2,?_⟩;rw[show o+k+i*k=o+(i+1)*k by grind];omega
   refine⟨d::xs,by simp[*],by simp_all,?_⟩
   grind[jd]
section
variable {H:Type} {enc:TypeId×Value→H} {P:Program} {w:World} {sp:Nat→Bool} {held:Bool}
mutual
theorem Uk:∀(T:Ty) {t:TypeId} {fuel:Nat} {cs:List Value} {x:DataW H×List MemPlace},kK P T t=true→DataW.trod enc P w 0 sp held fuel t cs=some x→∃ds,T.has ds∧aP (MJ w) (ds.map .d) cs
 | .int k,t,fuel,cs,x,hT,h=>by
   simp only[kK]at hT;split at hT
   ·rename_i ht;simp only[decide_eq_true_eq]at hT;subst hT;obtain⟨n,rfl,_,hw⟩:=DataW.trod_int ht h;exact⟨[.int _ n],by simp only[Ty.has];exact⟨n,rfl,hw⟩,by simp[aP,aA,Rep]⟩
   trivial
 | .bool,t,fuel,cs,x,hT,h=>by
   simp only[kK]at hT;split at hT
   ·rename_i ht;obtain⟨n,rfl,_⟩:=DataW.trod_bool ht h;exact⟨[.bool n],by simp only[Ty.has];simp,by simp[aP,aA,Rep]⟩
   trivial
 | .str,t,fuel,cs,x,hT,h=>by
   simp only[kK]at hT;split at hT
   ·rename_i ht;obtain⟨n,rfl,_,hw⟩:=DataW.trod_string ht h;exact⟨[.str n],by simp only[Ty.has];simp[*],by simp[aP,aA,Rep]⟩
   trivial
 | .sl e,t,fuel,cs,x,hT,h=>by
   simp only[kK]at hT;split at hT
   ·rename_i u ht;simp only[Bool.and_eq_true,decide_eq_true_eq]at hT;obtain⟨hu,hk,hk0⟩:=hT;rcases DataW.trod_slice ht h with⟨rfl,_⟩|⟨a,len,cap,elems,rest,n,_,rfl,_,_,hl,hm,hlen,hel,_,_⟩
    ·exact⟨[.sl []],by simp only[Ty.has];simp,by simp only[List.map_cons,List.map_nil,aP,aA,Rep];simp⟩
    ·by_cases h0:len=0
     ·subst h0;exact⟨[.sl []],by simp only[Ty.has];simp,by simp only[List.map_cons,List.map_nil,aP,aA,Rep];simp⟩
     ·have each:∀i,i<len→∃vs y,w.cells? 0 (a.add (i*P.cellsOf u)) (P.cellsOf u)=some vs∧DataW.trod enc P w 0 sp held n u vs=some y:=fun i hi=>by
       grind[Option.bind_eq_some_iff]
      have hspot:a.spot=none:=by
       obtain⟨vs,y,g1,_⟩:=each 0 (by omega);obtain⟨_,g3,g4⟩:=World.cells?_some g1;have g5:=g4 0 (by omega);have g6:vs[0]? = some vs[0]:=List.getElem?_eq_getElem (by omega);rw[g6]at g5
       simp only[Nat.zero_mul,Addr.add,if_true]at g5;exact(cell_lt g5).2
      obtain⟨b,o,s⟩:=a;simp only at hspot;subst hspot;obtain⟨xs,x1,x2,x3⟩:=T_ (E:=MJ w) (b:=b) (k:=e.size) (p:=e.has) len (o:=o) fun i hi=>by
       obtain⟨vs,y,g1,g2⟩:=each i hi;obtain⟨ds,d1,d2⟩:=Uk e hu g2;obtain⟨_,g3,g4⟩:=World.cells?_some g1;refine⟨ds,d1,e.WZ d1,U9 d2 fun j hj=>?_⟩;rw[e.WZ d1]at hj
       grind[ad3]
      exact⟨[.sl xs],by simp only[Ty.has];grind,by
       simp only[List.map_cons,List.map_nil,aP,aA,Rep]
       grind⟩
   trivial
 | .st fs,t,fuel,cs,x,hT,h=>by
   simp only[kK]at hT;split at hT
   ·rename_i a ht;simp only[Bool.and_eq_true,decide_eq_true_eq]at hT;obtain⟨hf,hs⟩:=hT;obtain⟨xs,n,_,_,hl,hlen,hel⟩:=DataW.trod_struct ht h;obtain⟨ds,d1,d2⟩:=V7 fs (l:=a.toList) (o:=0) (n:=n) (cs:=cs) hf (fun f hfm=>by
     grind[List.getElem?_of_mem])
    grind[Ty.has]
   trivial
theorem V7:∀(fs:List Ty) {l:List Field} {o n:Nat} {cs:List Value},agn P fs l o=true→(∀f∈l,∃x,DataW.trod enc P w 0 sp held n f.type ((cs.drop f.offset).take (P.cellsOf f.type))=some x)→
  ∃ds,Ty.hass fs ds∧aP (MJ w) (ds.map .d) ((cs.drop o).take (Ty.sizes fs))
 | [],l,o,n,cs,hT,h=>⟨[],by rfl,by rfl⟩
 | T::fs,[],o,n,cs,hT,h=>by trivial
 | T::fs,f::l,o,n,cs,hT,h=>by
   simp only[agn,Bool.and_eq_true,decide_eq_true_eq]at hT;obtain⟨ho,hk,hu,hr⟩:=hT;obtain⟨x,hx⟩:=h f (by simp);rw[ho,hk]at hx
   obtain⟨d1,a1,a2⟩:=Uk T hu hx;obtain⟨d2,b1,b2⟩:=V7 fs (o:=o+T.size) hr fun g hg=>h g (by simp[hg])
   refine⟨d1++d2,by simp only[Ty.hass];exact⟨_,_,rfl,a1,b1⟩,?_⟩
   grind[Ty.sizes,List.drop_drop,aP.app]
end
def Ty.tv:Ty→List D→TV
 | .st _,ds=>.agg (ds.map .d)
 | _,d::_=>.d d
 | _,[]=>.junk
theorem wJ(T:Ty){t:TypeId}{r:Reach}{b0:Nat}{v:Value}{d:DataW H}{ps:List MemPlace}(hT:kK P T t=true)(hv:Value.okWide P w r b0 t v)(h:DataW.Trod enc P w 0 sp held t v d ps):
  ∃ds,T.has ds∧aA (MJ w) (T.tv ds) v:=by
 obtain⟨fuel,hf⟩:=h;obtain⟨ds,h1,h2⟩:=Uk T hT hf;refine⟨ds,h1,?_⟩;cases T with
 | st fs=>
   simp only[kK]at hT;split at hT
   ·rename_i a ht;obtain⟨cs,rfl,_⟩:=WideShapes.okWide_struct ht hv;exact⟨cs,rfl,by trivial⟩
   trivial
 | int k=>
   simp only[kK]at hT;split at hT
   ·rename_i ht;obtain⟨n,rfl⟩:=WideShapes.okWide_int ht hv;obtain⟨m,rfl,_⟩:=h1
    grind[Value.cells,aP,Ty.tv]
   trivial
 | bool=>
   simp only[kK]at hT;split at hT
   ·rename_i ht;obtain⟨n,rfl⟩:=WideShapes.okWide_bool ht hv;simp only[Ty.has]at h1;obtain⟨m,rfl⟩:=h1
    grind[Value.cells,aP,Ty.tv]
   trivial
 | str=>
   simp only[kK]at hT;split at hT
   ·rename_i ht;obtain⟨n,rfl⟩:=WideShapes.okWide_string ht hv;simp only[Ty.has]at h1;obtain⟨m,rfl,_⟩:=h1
    grind[Value.cells,aP,Ty.tv]
   trivial
 | sl e=>
   simp only[kK]at hT;split at hT
   ·rename_i ht;obtain⟨a,len,cap,rfl⟩:=WideShapes.okWide_slice ht hv;simp only[Ty.has]at h1;obtain⟨m,rfl,_⟩:=h1
    grind[Value.cells,aP,Ty.tv]
   trivial
end
end Go.Tr

namespace Go.Tr
open Go
theorem Contract.true{P:Program}{f:FuncId}{args:List TV}{ro:List (Nat×It)}(c:Contract P f args [] (.d (.bool true)) [] ro){w:World}(hg:Hz w){us:List Value}(h:aP (MJ w) args us):
  Calls P f us.toArray w fun e w'=>e = .returned (.bool true)∧RowKit.Below w.heap.size w w':=
 (c.law hg h).mono fun e w' ⟨u,E',he,hr,hb⟩=>by
  simp only[aA,Rep]at hr;subst hr;exact⟨he,hb⟩
theorem yQ{k:IntKind}{ds:List D}(h:(Ty.sl (.int k)).has ds):∃l:List Int,ds = [.sl (l.map fun n=>[.int k n])]∧l.length≤maxLen∧∀n∈l,(Lit.int k n).wf=true:=by
 simp only[Ty.has]at h;obtain⟨xs,rfl,h1,h2⟩:=h;have:∀(xs:List (List D)),(∀x∈xs,∃n,x = [D.int k n]∧(Lit.int k n).wf=true)→∃l:List Int,xs=l.map (fun n=>[D.int k n])∧∀n∈l,(Lit.int k n).wf=true:=by
  intro xs
  induction xs with
  | nil=>exact fun _=>⟨[],rfl,by simp⟩
  | cons x xs ih=>
    intro h;obtain⟨n,rfl,hn⟩:=h x (by simp);obtain⟨l,rfl,hl⟩:=ih fun y hy=>h y (by simp[hy])
    exact⟨n::l,rfl,by simpa using⟨hn,hl⟩⟩
 obtain⟨l,rfl,hl⟩:=this xs h2;exact⟨l,rfl,by simpa using h1,hl⟩
theorem wf_i64{n:Int}(h:(Lit.int .i64 n).wf=true):I64 n:=by
 simp only[Lit.wf,Bool.and_eq_true,decide_eq_true_eq]at h;have m1:IntKind.i64.min = -9223372036854775808:=by decide
 have m2:IntKind.i64.max=9223372036854775807:=by decide
 exact⟨by omega,by omega⟩
theorem wf_u64{n:Int}(h:(Lit.int .u64 n).wf=true):∃B:BitVec 64,n=tn B:=by
 simp only[Lit.wf,Bool.and_eq_true,decide_eq_true_eq]at h;have m1:IntKind.u64.min=0:=by decide
 have m2:IntKind.u64.max=18446744073709551615:=by decide
 refine⟨BitVec.ofNat 64 n.toNat,?_⟩;simp only[tn,BitVec.toNat_ofNat];omega
end Go.Tr
