/-
  What functions of the program compute, stated as contracts over plain data; the conditions of each stand in its own statement.
-/
import Derived.Test.YtboimfkommpglaaGreatDoorZB09
import Derived.Test.YtboimfkommpglaaGreatDoorZB05
import Derived.KernelRfl
import Derived.Test.YtboimfkommpglaaGreatDoorChecked
import Derived.ProofKit
set_option linter.unusedSimpArgs false
namespace Go.Tr
open Go
def NI(w:World):En:={w:=w,St:=fun b _=>b<w.heap.size,blk:=fun _=>none,val:=fun _=>none}
def KA(w:World):Prop:=∀y∈Zt,gq (NI w) y.1 0 y.2
theorem ajk(w:World)(hg:KA w):pX (NI w) (Js []):=by
 refine⟨fun p hp=>?_,fun _=>rfl,fun p q b h=>?_,fun p b h=>?_,fun b o h=>h,fun b o h p g=>?_,hg⟩
 ·have:Js [] p = .none:=by cases p<;>simp[Js]
  rw[this];exact fun id _=>⟨rfl,rfl⟩
 ·cases p<;>simp[En.own,NI]at h
 ·cases p<;>simp[En.own,NI]at h
 ·cases p<;>simp[En.own,NI]at g
theorem Contract.law{P:Program}{f:FuncId}{args:List TV}{r:TV}{ro:List (Nat×It)}(c:Contract P f args [] r [] ro){w:World}(hg:KA w){us:List Value}(h:b_ (NI w) args us):
  Calls P f us.toArray w fun e w'=>∃u E',e = .returned u∧aV E' r u∧RowKit.Below w.heap.size w w':=by
 refine(c (NI w) us (ajk w hg) h).mono fun e w' ⟨u,E',he,hw,hp⟩=>⟨u,E',he,hp.rel,?_⟩
 subst hw;exact⟨hp.fr.os,hp.fr.tape,hp.fr.output,hp.fr.size,fun k hk=>hp.fr.old k hk (fun i=>by simp[NI]) (fun i=>by simp[En.own,NI])⟩
section
variable {A:jL}
theorem eP.vs{E:En}{us:List Value}:∀{ts:List TV} {o:Nat},eP E us o ts→b_ E ts ((us.drop o).take ts.length)∧(∀i,o≤i→i<o+ts.length→∃u,us[i]? = some u∧u.oneCell'=true)
 | [],o,_=>⟨by rfl,fun i h1 h2=>by grind⟩
 | t::ts,o,⟨⟨u,h1,h2,h3⟩,r⟩=>by
   obtain⟨g1,g2⟩:=eP.vs r;have hlt:o<us.length:=(aA.1 h1).1;have hu:us[o]=u:=by rw[ah hlt]at h1;simpa using h1
   refine⟨?_,fun i i1 i2=>?_⟩
   ·rw[aU hlt,aT,List.take_succ_cons,hu];simp only[b_];exact⟨u,_,rfl,h3,g1⟩
   ·by_cases e:i=o
    ·subst e;exact⟨u,h1,h2⟩
    ·exact g2 i (by omega) (by simp at i2;omega)
theorem b_.len{E:En}:∀{ts:List TV} {us:List Value},b_ E ts us→us.length=ts.length
 | [],us,h=>by grind[b_]
 | t::ts,us,h=>by obtain⟨u,us',rfl,_,g⟩:=h;simp[b_.len g]
theorem b_.cellsB{E:En}{us:List Value}:∀{ts:List TV} {o:Nat},o+ts.length≤us.length→b_ E ts ((us.drop o).take ts.length)→(∀i,o≤i→i<o+ts.length→∃u,us[i]? = some u∧u.oneCell'=true)→eP E us o ts
 | [],_,_,_,_=>trivial
 | t::ts,o,hl,h,h1=>by
   have hlt:o<us.length:=by grind
   rw[aU hlt,aT,List.take_succ_cons]at h
   obtain⟨u,us',he,g1,g2⟩:=h;obtain⟨rfl,rfl⟩:=he;refine⟨⟨us[o],ah hlt,?_,g1⟩,b_.cellsB (by grind) g2 fun i i1 i2=>h1 i (by omega) (by grind)⟩;obtain⟨u,e1,e2⟩:=h1 o (by omega) (by simp)
   simp_all
theorem iI.akv{t:S}{a:Act}{E:En}{p:Pl}{cs cs':List TV}(hi:iI A t a E)(hs:∀k,p≠.s k)(hp:t p = .box cs)
  (hrel:∀(b:Nat) (ty:TypeId) (us:Array Value),E.blk p=some b→E.w.heap[b]? = some (.cells us ty (0,0))→us.size=cs.length→b_ E cs' us.toList) :
  iI A (upd t p (.box cs')) a E:=by
 refine⟨⟨fun q hq=>?_,hi.h.frees,hi.h.inj,hi.h.size,hi.h.uP,fun b o h1 q h2=>?_,hi.h.gl⟩,hi.fr,fun k tv hk=>?_,hi.defers,hi.size⟩
 ·by_cases e:q=p
  ·subst e;have h:=hi.h.item q hq;rw[hp]at h
   simp only[upd,if_true];obtain⟨h1,b,ty,us,h2,h3,h4,h5⟩:=h;obtain⟨g1,g2⟩:=h5.vs;have g3:=hrel b ty us h2 h3 h4;have hl:=g3.len;rw[iZ]at hl
   refine⟨h1,b,ty,us,h2,h3,hl,b_.cellsB (by simp_all) ?_ fun i i1 i2=>g2 i i1 (by omega)⟩
   grind[List.take_of_length_le]
  ·simp only[upd,if_neg e];exact hi.h.item q hq
 ·obtain⟨e,k,es,h3,h4⟩:=hi.h.sep b o h1 q h2;refine⟨e,k,es,?_,h4⟩;have:q≠p:=by grind
  simp only[upd,if_neg this];omega
 ·have:Pl.s k≠p:=by grind
  simp only[upd,if_neg this]at hk;exact hi.sl k tv hk
def aef(t:S)(p:Pl):VR:=
 match t p with
 | .box cs=>match Ip t cs with
   | some (C,rp,vs',W)=>.some C (p::rp) ((p,.box vs')::W)
   | none=>.none
 | _=>.none
theorem alK{t:S}{c c':TV}{C:Prop}{rp:List Pl}{W:List (Pl×It)}(h:aaw t c=some (C,rp,c',W)):∀p∈W.map (·.1),∃e k es sh,t p = .row e k es sh:=by
 unfold aaw at h
 grind
theorem alJ{t:S}{c c':TV}{C:Prop}{rp:List Pl}{W:List (Pl×It)}(h:aaw t c=some (C,rp,c',W)):∀x∈W,∃e k es sh,x.2 = .row e k es sh:=by
 unfold aaw at h
 grind
theorem Yw:∀{vs:List TV} {t:S} {vs':List TV} {C:Prop} {rp:List Pl} {W:List (Pl×It)},Ip t vs=some (C,rp,vs',W)→(∀x∈W,∃e k es sh,x.2 = .row e k es sh)∧∀p cs,t p = .box cs→p∉W.map (·.1)
 | [],_,_,_,_,_,h=>by trivial
 | c::l,t,vs',C,rp,W,h=>by
   simp only[Ip]at h;split at h
   ·split at h
    ·trivial
    ·rename_i hl;obtain⟨rfl,rfl,rfl,rfl⟩:=h;exact Yw hl
   ·rename_i C1 rp1 c1 W1 hc;have hW:=alK hc;have hR:=alJ hc;have hn:∀p cs,t p = .box cs→p∉W1.map (·.1):=by grind
    split at h
    ·grind
    ·rename_i hl;simp only[aj,aK]at h;obtain⟨rfl,rfl,rfl,rfl⟩:=h;obtain⟨g1,g2⟩:=Yw hl
     grind[qm]
theorem aiN{t:S}{p:Pl}(hs:vY p=true)(hC:(aef t p).C):GS A t (over t (aef t p).W):=fun a w hi=>by
 unfold aef at hC⊢;split
 ·rename_i cs hp;rw[hp]at hC
  split
  ·rename_i C rp vs' W hv;simp only[hv,VR.C]at hC;obtain⟨E,hw,hi⟩:=hi;obtain⟨E',k1,k2,k3,k4⟩:=Nh hv hC (fun _ _=>rfl) hi;have hbox:over t W p = .box cs:=by grind[over,qm,Yw]
   refine⟨E',k1.trans hw,k3.akv (fun k e=>by simp_all) hbox fun b ty us e1 e2 e3=>k4 _ ?_⟩;have h:=hi.h.item p (fun k e=>by simp_all);rw[hp]at h
   obtain⟨h1,b0,ty0,us0,h2,h3,h4,h5⟩:=h;have hb:E'.blk p=some b0:=by
    cases p with
    | o id=>exact k2.aga id b0 trivial h2
    | x id=>exact k2.aiL id b0 h2
    | s id=>trivial
   rw[hb]at e1
   simp only[aj]at e1;subst e1;rw[k1,h3]at e2
   have:=h5.vs.1
   grind[List.take_of_length_le]
  trivial
 trivial
end
section
variable {A:jL}
attribute [simp] aef
end
theorem Fin.gs{P:Program}{A:jL}{fn:Func}{r:TV}{xs:List It}{ro:List (Nat×It)}{l l':List (Pl×It)}(g:GS A (look l) (look l'))(h:Fin P A fn r xs ro (look l')):Fin P A fn r xs ro (look l):=
 fun a w hi=>h a w (g a w hi)
theorem Fin.box{P:Program}{A:jL}{fn:Func}{r:TV}{xs:List It}{ro:List (Nat×It)}{l:List (Pl×It)}(p:Pl)(hs:vY p=true)(h:(aef (look l) p).C∧Fin P A fn r xs ro (over (look l) (aef (look l) p).W)):Fin P A fn r xs ro (look l):=
 fun a w hi=>h.2 a w (aiN hs h.1 a w hi)
end Go.Tr

namespace Go.Proofs
open Go Go.Tr
@[simp]theorem lf3:lf Tryz.prog 3=some 0:=by kernel_rfl
@[simp]theorem avX:xW Tryz.prog 3=some false:=by kernel_rfl
@[simp]theorem av2:qp Tryz.prog 3=some 1:=by kernel_rfl
@[simp]theorem avV:knd Tryz.prog 3=some .i64:=by kernel_rfl
@[simp]theorem avL:Ky Tryz.prog 3=some 8:=by kernel_rfl
@[simp]theorem av7:wS Tryz.prog 3=some (Value.int .i64 0):=by kernel_rfl
@[simp]theorem avY:xW Tryz.prog 4=some false:=by kernel_rfl
@[simp]theorem av3:qp Tryz.prog 4=some 1:=by kernel_rfl
@[simp]theorem avM:Ky Tryz.prog 4=some 1:=by kernel_rfl
@[simp]theorem av8:wS Tryz.prog 4=some (Value.bool false):=by kernel_rfl
@[simp]theorem av6:u8K Tryz.prog 5=true:=by kernel_rfl
@[simp]theorem avZ:xW Tryz.prog 5=some false:=by kernel_rfl
@[simp]theorem av4:qp Tryz.prog 5=some 1:=by kernel_rfl
@[simp]theorem avW:knd Tryz.prog 5=some .u8:=by kernel_rfl
@[simp]theorem avN:Ky Tryz.prog 5=some 1:=by kernel_rfl
@[simp]theorem av9:wS Tryz.prog 5=some (Value.int .u8 0):=by kernel_rfl
@[simp]theorem lf9:lf Tryz.prog 9=some 2:=by kernel_rfl
@[simp]theorem av1:xW Tryz.prog 9=some false:=by kernel_rfl
@[simp]theorem av5:qp Tryz.prog 9=some 1:=by kernel_rfl
@[simp]theorem asD:isStr Tryz.prog 9=true:=by kernel_rfl
@[simp]theorem auq:xW Tryz.prog 22=some false:=by kernel_rfl
@[simp]theorem au8:qp Tryz.prog 22=some 1:=by kernel_rfl
@[simp]theorem auN:wI Tryz.prog 22=some 3:=by kernel_rfl
@[simp]theorem avu:wS Tryz.prog 22=some (Value.slice none 0 0):=by kernel_rfl
@[simp]theorem lf23:lf Tryz.prog 23=some 0:=by kernel_rfl
@[simp]theorem aur:xW Tryz.prog 23=some false:=by kernel_rfl
@[simp]theorem au9:qp Tryz.prog 23=some 1:=by kernel_rfl
@[simp]theorem aup:knd Tryz.prog 23=some .u64:=by kernel_rfl
@[simp]theorem avv:wS Tryz.prog 23=some (Value.int .u64 0):=by kernel_rfl
@[simp]theorem arf:abn Tryz.prog 25=some [(0,3),(1,3),(2,3),(3,3),(4,3),(5,3),(6,3),(7,3),(8,23),(9,9)]:=by kernel_rfl
@[simp]theorem aus:xW Tryz.prog 25=some true:=by kernel_rfl
@[simp]theorem au_:qp Tryz.prog 25=some 10:=by kernel_rfl
@[simp]theorem aoa:wL Tryz.prog 25 0=some (0,3):=by kernel_rfl
@[simp]theorem aoi:wL Tryz.prog 25 1=some (1,3):=by kernel_rfl
@[simp]theorem aor:wL Tryz.prog 25 2=some (2,3):=by kernel_rfl
@[simp]theorem aow:wL Tryz.prog 25 3=some (3,3):=by kernel_rfl
@[simp]theorem aoy:wL Tryz.prog 25 4=some (4,3):=by kernel_rfl
@[simp]theorem aoz:wL Tryz.prog 25 5=some (5,3):=by kernel_rfl
@[simp]theorem aoA:wL Tryz.prog 25 6=some (6,3):=by kernel_rfl
@[simp]theorem aoB:wL Tryz.prog 25 7=some (7,3):=by kernel_rfl
@[simp]theorem aoC:wL Tryz.prog 25 8=some (8,23):=by kernel_rfl
@[simp]theorem aoD:wL Tryz.prog 25 9=some (9,9):=by kernel_rfl
@[simp]theorem auX:PY Tryz.prog 25=some [(0,1),(1,1),(2,1),(3,1),(4,1),(5,1),(6,1),(7,1),(8,1),(9,1)]:=by kernel_rfl
@[simp]theorem avw:wS Tryz.prog 25=some (Value.agg #[.int .i64 0,.int .i64 0,.int .i64 0,.int .i64 0,.int .i64 0,.int .i64 0,.int .i64 0,.int .i64 0,.int .u64 0,.string ⟨#[]⟩]):=by kernel_rfl
@[simp]theorem ava:qp Tryz.prog 27=some 11:=by kernel_rfl
@[simp]theorem aoj:wL Tryz.prog 27 1=some (1,25):=by kernel_rfl
@[simp]theorem auY:PY Tryz.prog 27=some [(0,1),(1,10)]:=by kernel_rfl
@[simp]theorem avx:wS Tryz.prog 27=some (Value.agg #[.slice none 0 0,.int .i64 0,.int .i64 0,.int .i64 0,.int .i64 0,.int .i64 0,.int .i64 0,.int .i64 0,.int .i64 0,.int .u64 0,.string ⟨#[]⟩]):=by kernel_rfl
@[simp]theorem aut:xW Tryz.prog 29=some true:=by kernel_rfl
@[simp]theorem avb:qp Tryz.prog 29=some 12:=by kernel_rfl
@[simp]theorem aob:wL Tryz.prog 29 0=some (0,3):=by kernel_rfl
@[simp]theorem aok:wL Tryz.prog 29 1=some (1,27):=by kernel_rfl
@[simp]theorem auZ:PY Tryz.prog 29=some [(0,1),(1,11)]:=by kernel_rfl
@[simp]theorem auj:Ky Tryz.prog 29=some 120:=by kernel_rfl
@[simp]theorem avy:wS Tryz.prog 29=some (Value.agg #[.int .i64 0,.slice none 0 0,.int .i64 0,.int .i64 0,.int .i64 0,.int .i64 0,.int .i64 0,.int .i64 0,.int .i64 0,.int .i64 0,.int .u64 0,.string ⟨#[]⟩]):=by kernel_rfl
@[simp]theorem auu:xW Tryz.prog 32=some false:=by kernel_rfl
@[simp]theorem avc:qp Tryz.prog 32=some 1:=by kernel_rfl
@[simp]theorem auO:wI Tryz.prog 32=some 117:=by kernel_rfl
@[simp]theorem auv:xW Tryz.prog 33=some false:=by kernel_rfl
@[simp]theorem avd:qp Tryz.prog 33=some 1:=by kernel_rfl
@[simp]theorem auP:wI Tryz.prog 33=some 142:=by kernel_rfl
@[simp]theorem auw:xW Tryz.prog 35=some true:=by kernel_rfl
@[simp]theorem ave:qp Tryz.prog 35=some 2:=by kernel_rfl
@[simp]theorem aoc:wL Tryz.prog 35 0=some (0,32):=by kernel_rfl
@[simp]theorem aol:wL Tryz.prog 35 1=some (1,33):=by kernel_rfl
@[simp]theorem avz:wS Tryz.prog 35=some (Value.agg #[.slice none 0 0,.slice none 0 0]):=by kernel_rfl
@[simp]theorem auy:xW Tryz.prog 37=some false:=by kernel_rfl
@[simp]theorem avf:qp Tryz.prog 37=some 1:=by kernel_rfl
@[simp]theorem avA:wS Tryz.prog 37=some Value.nilFunc:=by kernel_rfl
@[simp]theorem auz:xW Tryz.prog 39=some true:=by kernel_rfl
@[simp]theorem avg:qp Tryz.prog 39=some 2:=by kernel_rfl
@[simp]theorem auh:arE Tryz.prog 39=some (2,3):=by kernel_rfl
@[simp]theorem au1:PY Tryz.prog 39=none:=by kernel_rfl
@[simp]theorem aui:arF Tryz.prog 39=some 1:=by kernel_rfl
@[simp]theorem avC:wS Tryz.prog 39=some (Value.agg #[.int .i64 0,.int .i64 0]):=by kernel_rfl
@[simp]theorem auA:xW Tryz.prog 50=some false:=by kernel_rfl
@[simp]theorem avh:qp Tryz.prog 50=some 1:=by kernel_rfl
@[simp]theorem auQ:wI Tryz.prog 50=some 115:=by kernel_rfl
@[simp]theorem auB:xW Tryz.prog 52=some true:=by kernel_rfl
@[simp]theorem avi:qp Tryz.prog 52=some 3:=by kernel_rfl
@[simp]theorem aod:wL Tryz.prog 52 0=some (0,3):=by kernel_rfl
@[simp]theorem aom:wL Tryz.prog 52 1=some (1,3):=by kernel_rfl
@[simp]theorem aos:wL Tryz.prog 52 2=some (2,50):=by kernel_rfl
@[simp]theorem au2:PY Tryz.prog 52=some [(0,1),(1,1),(2,1)]:=by kernel_rfl
@[simp]theorem avD:wS Tryz.prog 52=some (Value.agg #[.int .i64 0,.int .i64 0,.slice none 0 0]):=by kernel_rfl
@[simp]theorem auC:xW Tryz.prog 53=some false:=by kernel_rfl
@[simp]theorem auR:wI Tryz.prog 53=some 65:=by kernel_rfl
@[simp]theorem auD:xW Tryz.prog 63=some false:=by kernel_rfl
@[simp]theorem avk:qp Tryz.prog 63=some 1:=by kernel_rfl
@[simp]theorem auS:wI Tryz.prog 63=some 167:=by kernel_rfl
@[simp]theorem auE:xW Tryz.prog 65=some true:=by kernel_rfl
@[simp]theorem avl:qp Tryz.prog 65=some 4:=by kernel_rfl
@[simp]theorem aoe:wL Tryz.prog 65 0=some (0,3):=by kernel_rfl
@[simp]theorem aon:wL Tryz.prog 65 1=some (1,3):=by kernel_rfl
@[simp]theorem aot:wL Tryz.prog 65 2=some (2,3):=by kernel_rfl
@[simp]theorem aox:wL Tryz.prog 65 3=some (3,63):=by kernel_rfl
@[simp]theorem au3:PY Tryz.prog 65=some [(0,1),(1,1),(2,1),(3,1)]:=by kernel_rfl
@[simp]theorem auk:Ky Tryz.prog 65=some 48:=by kernel_rfl
@[simp]theorem avF:wS Tryz.prog 65=some (Value.agg #[.int .i64 0,.int .i64 0,.int .i64 0,.slice none 0 0]):=by kernel_rfl
@[simp]theorem auF:xW Tryz.prog 68=some false:=by kernel_rfl
@[simp]theorem avm:qp Tryz.prog 68=some 1:=by kernel_rfl
@[simp]theorem auT:wI Tryz.prog 68=some 29:=by kernel_rfl
@[simp]theorem auG:xW Tryz.prog 70=some true:=by kernel_rfl
@[simp]theorem avn:qp Tryz.prog 70=some 3:=by kernel_rfl
@[simp]theorem aof:wL Tryz.prog 70 0=some (0,23):=by kernel_rfl
@[simp]theorem aoo:wL Tryz.prog 70 1=some (1,23):=by kernel_rfl
@[simp]theorem aou:wL Tryz.prog 70 2=some (2,68):=by kernel_rfl
@[simp]theorem au4:PY Tryz.prog 70=some [(0,1),(1,1),(2,1)]:=by kernel_rfl
@[simp]theorem avG:wS Tryz.prog 70=some (Value.agg #[.int .u64 0,.int .u64 0,.slice none 0 0]):=by kernel_rfl
@[simp]theorem auH:xW Tryz.prog 79=some false:=by kernel_rfl
@[simp]theorem avo:qp Tryz.prog 79=some 1:=by kernel_rfl
@[simp]theorem auU:wI Tryz.prog 79=some 92:=by kernel_rfl
@[simp]theorem auI:xW Tryz.prog 80=some false:=by kernel_rfl
@[simp]theorem avp:qp Tryz.prog 80=some 1:=by kernel_rfl
@[simp]theorem auV:wI Tryz.prog 80=some 96:=by kernel_rfl
@[simp]theorem auJ:xW Tryz.prog 81=some false:=by kernel_rfl
@[simp]theorem avq:qp Tryz.prog 81=some 1:=by kernel_rfl
@[simp]theorem auW:wI Tryz.prog 81=some 176:=by kernel_rfl
@[simp]theorem auK:xW Tryz.prog 83=some true:=by kernel_rfl
@[simp]theorem avr:qp Tryz.prog 83=some 3:=by kernel_rfl
@[simp]theorem aog:wL Tryz.prog 83 0=some (0,79):=by kernel_rfl
@[simp]theorem aop:wL Tryz.prog 83 1=some (1,80):=by kernel_rfl
@[simp]theorem aov:wL Tryz.prog 83 2=some (2,81):=by kernel_rfl
@[simp]theorem au5:PY Tryz.prog 83=some [(0,1),(1,1),(2,1)]:=by kernel_rfl
@[simp]theorem avH:wS Tryz.prog 83=some (Value.agg #[.slice none 0 0,.slice none 0 0,.slice none 0 0]):=by kernel_rfl
@[simp]theorem arh:abn Tryz.prog 92=some [(0,3),(1,25)]:=by kernel_rfl
@[simp]theorem arj:Zb Tryz.prog 92=true:=by kernel_rfl
@[simp]theorem auL:xW Tryz.prog 92=some true:=by kernel_rfl
@[simp]theorem avs:qp Tryz.prog 92=some 11:=by kernel_rfl
@[simp]theorem aoh:wL Tryz.prog 92 0=some (0,3):=by kernel_rfl
@[simp]theorem aoq:wL Tryz.prog 92 1=some (1,25):=by kernel_rfl
@[simp]theorem au6:PY Tryz.prog 92=some [(0,1),(1,10)]:=by kernel_rfl
@[simp]theorem aul:Ky Tryz.prog 92=some 96:=by kernel_rfl
@[simp]theorem avI:wS Tryz.prog 92=some (Value.agg #[.int .i64 0,.int .i64 0,.int .i64 0,.int .i64 0,.int .i64 0,.int .i64 0,.int .i64 0,.int .i64 0,.int .i64 0,.int .u64 0,.string ⟨#[]⟩]):=by kernel_rfl
@[simp]theorem ari:abn Tryz.prog 96=some [(0,3),(1,3),(2,23)]:=by kernel_rfl
@[simp]theorem ark:Zb Tryz.prog 96=true:=by kernel_rfl
@[simp]theorem auM:xW Tryz.prog 96=some true:=by kernel_rfl
@[simp]theorem avt:qp Tryz.prog 96=some 3:=by kernel_rfl
@[simp]theorem au7:PY Tryz.prog 96=some [(0,1),(1,1),(2,1)]:=by kernel_rfl
@[simp]theorem aum:Ky Tryz.prog 96=some 24:=by kernel_rfl
@[simp]theorem avJ:wS Tryz.prog 96=some (Value.agg #[.int .i64 0,.int .i64 0,.int .u64 0]):=by kernel_rfl
@[simp]theorem as7:wI Tryz.prog 108=some 113:=by kernel_rfl
@[simp]theorem an7:abn Tryz.prog 113=some [(0,3),(1,3),(2,3),(3,3)]:=by kernel_rfl
@[simp]theorem an9:Zb Tryz.prog 113=true:=by kernel_rfl
@[simp]theorem asN:xW Tryz.prog 113=some true:=by kernel_rfl
@[simp]theorem aty:qp Tryz.prog 113=some 4:=by kernel_rfl
@[simp]theorem atl:PY Tryz.prog 113=some [(0,1),(1,1),(2,1),(3,1)]:=by kernel_rfl
@[simp]theorem aq2:Ky Tryz.prog 113=some 32:=by kernel_rfl
@[simp]theorem atQ:wS Tryz.prog 113=some (Value.agg #[.int .i64 0,.int .i64 0,.int .i64 0,.int .i64 0]):=by kernel_rfl
@[simp]theorem asO:xW Tryz.prog 115=some true:=by kernel_rfl
@[simp]theorem atz:qp Tryz.prog 115=some 2:=by kernel_rfl
@[simp]theorem amA:wL Tryz.prog 115 0=some (0,3):=by kernel_rfl
@[simp]theorem amL:wL Tryz.prog 115 1=some (1,3):=by kernel_rfl
@[simp]theorem atm:PY Tryz.prog 115=some [(0,1),(1,1)]:=by kernel_rfl
@[simp]theorem aq3:Ky Tryz.prog 115=some 16:=by kernel_rfl
@[simp]theorem atS:wS Tryz.prog 115=some (Value.agg #[.int .i64 0,.int .i64 0]):=by kernel_rfl
@[simp]theorem asP:xW Tryz.prog 117=some true:=by kernel_rfl
@[simp]theorem atA:qp Tryz.prog 117=some 2:=by kernel_rfl
@[simp]theorem amB:wL Tryz.prog 117 0=some (0,3):=by kernel_rfl
@[simp]theorem amM:wL Tryz.prog 117 1=some (1,4):=by kernel_rfl
@[simp]theorem atn:PY Tryz.prog 117=some [(0,1),(1,1)]:=by kernel_rfl
@[simp]theorem aq4:Ky Tryz.prog 117=some 16:=by kernel_rfl
@[simp]theorem atU:wS Tryz.prog 117=some (Value.agg #[.int .i64 0,.bool false]):=by kernel_rfl
@[simp]theorem asR:xW Tryz.prog 118=some false:=by kernel_rfl
@[simp]theorem atC:qp Tryz.prog 118=some 1:=by kernel_rfl
@[simp]theorem as8:wI Tryz.prog 118=some 120:=by kernel_rfl
@[simp]theorem atV:wS Tryz.prog 118=some (Value.slice none 0 0):=by kernel_rfl
@[simp]theorem asT:xW Tryz.prog 120=some true:=by kernel_rfl
@[simp]theorem atD:qp Tryz.prog 120=some 4:=by kernel_rfl
@[simp]theorem amC:wL Tryz.prog 120 0=some (0,3):=by kernel_rfl
@[simp]theorem amN:wL Tryz.prog 120 1=some (1,3):=by kernel_rfl
@[simp]theorem amW:wL Tryz.prog 120 2=some (2,3):=by kernel_rfl
@[simp]theorem amY:wL Tryz.prog 120 3=some (3,3):=by kernel_rfl
@[simp]theorem ato:PY Tryz.prog 120=some [(0,1),(1,1),(2,1),(3,1)]:=by kernel_rfl
@[simp]theorem aq5:Ky Tryz.prog 120=some 32:=by kernel_rfl
@[simp]theorem atX:wS Tryz.prog 120=some (Value.agg #[.int .i64 0,.int .i64 0,.int .i64 0,.int .i64 0]):=by kernel_rfl
@[simp]theorem amD:wL Tryz.prog 140 0=some (0,22):=by kernel_rfl
@[simp]theorem amO:wL Tryz.prog 140 1=some (1,3):=by kernel_rfl
@[simp]theorem atp:PY Tryz.prog 140=some [(0,1),(1,1)]:=by kernel_rfl
@[simp]theorem atY:wS Tryz.prog 140=some (Value.agg #[.slice none 0 0,.int .i64 0]):=by kernel_rfl
@[simp]theorem asU:xW Tryz.prog 142=some true:=by kernel_rfl
@[simp]theorem atE:qp Tryz.prog 142=some 5:=by kernel_rfl
@[simp]theorem amE:wL Tryz.prog 142 0=some (0,3):=by kernel_rfl
@[simp]theorem amP:wL Tryz.prog 142 1=some (1,3):=by kernel_rfl
@[simp]theorem amX:wL Tryz.prog 142 2=some (2,3):=by kernel_rfl
@[simp]theorem amZ:wL Tryz.prog 142 3=some (3,3):=by kernel_rfl
@[simp]theorem am0:wL Tryz.prog 142 4=some (4,3):=by kernel_rfl
@[simp]theorem atq:PY Tryz.prog 142=some [(0,1),(1,1),(2,1),(3,1),(4,1)]:=by kernel_rfl
@[simp]theorem aq6:Ky Tryz.prog 142=some 40:=by kernel_rfl
@[simp]theorem atZ:wS Tryz.prog 142=some (Value.agg #[.int .i64 0,.int .i64 0,.int .i64 0,.int .i64 0,.int .i64 0]):=by kernel_rfl
@[simp]theorem asV:xW Tryz.prog 146=some false:=by kernel_rfl
@[simp]theorem asG:mpE Tryz.prog 146=some 22:=by kernel_rfl
@[simp]theorem anA:ZR Tryz.prog 146 1=some 22:=by kernel_rfl
@[simp]theorem asW:xW Tryz.prog 167=some true:=by kernel_rfl
@[simp]theorem atF:qp Tryz.prog 167=some 2:=by kernel_rfl
@[simp]theorem amF:wL Tryz.prog 167 0=some (0,3):=by kernel_rfl
@[simp]theorem amQ:wL Tryz.prog 167 1=some (1,22):=by kernel_rfl
@[simp]theorem atr:PY Tryz.prog 167=some [(0,1),(1,1)]:=by kernel_rfl
@[simp]theorem aq7:Ky Tryz.prog 167=some 32:=by kernel_rfl
@[simp]theorem at1:wS Tryz.prog 167=some (Value.agg #[.int .i64 0,.slice none 0 0]):=by kernel_rfl
@[simp]theorem an8:abn Tryz.prog 176=some [(0,3),(1,23)]:=by kernel_rfl
@[simp]theorem an_:Zb Tryz.prog 176=true:=by kernel_rfl
@[simp]theorem asX:xW Tryz.prog 176=some true:=by kernel_rfl
@[simp]theorem atG:qp Tryz.prog 176=some 2:=by kernel_rfl
@[simp]theorem amG:wL Tryz.prog 176 0=some (0,3):=by kernel_rfl
@[simp]theorem amR:wL Tryz.prog 176 1=some (1,23):=by kernel_rfl
@[simp]theorem att:PY Tryz.prog 176=some [(0,1),(1,1)]:=by kernel_rfl
@[simp]theorem aq8:Ky Tryz.prog 176=some 16:=by kernel_rfl
@[simp]theorem at6:wS Tryz.prog 176=some (Value.agg #[.int .i64 0,.int .u64 0]):=by kernel_rfl
@[simp]theorem amH:wL Tryz.prog 180 0=some (0,22):=by kernel_rfl
@[simp]theorem amS:wL Tryz.prog 180 1=some (1,3):=by kernel_rfl
@[simp]theorem atu:PY Tryz.prog 180=some [(0,1),(1,1)]:=by kernel_rfl
@[simp]theorem at7:wS Tryz.prog 180=some (Value.agg #[.slice none 0 0,.int .i64 0]):=by kernel_rfl
@[simp]theorem ate:wI Tryz.prog 181=some 182:=by kernel_rfl
@[simp]theorem asY:xW Tryz.prog 182=some false:=by kernel_rfl
@[simp]theorem atH:qp Tryz.prog 182=some 1:=by kernel_rfl
@[simp]theorem atf:wI Tryz.prog 182=some 4:=by kernel_rfl
@[simp]theorem aq9:Ky Tryz.prog 182=some 24:=by kernel_rfl
@[simp]theorem aua:wS Tryz.prog 182=some (Value.slice none 0 0):=by kernel_rfl
@[simp]theorem atg:wI Tryz.prog 192=some 39:=by kernel_rfl
@[simp]theorem asZ:xW Tryz.prog 193=some false:=by kernel_rfl
@[simp]theorem asE:knd Tryz.prog 193=some .u64:=by kernel_rfl
@[simp]theorem asH:mpE Tryz.prog 196=some 3:=by kernel_rfl
@[simp]theorem anw:Jo Tryz.prog 196=true:=by kernel_rfl
@[simp]theorem anB:ZR Tryz.prog 196 1=some 3:=by kernel_rfl
@[simp]theorem as1:xW Tryz.prog 213=some false:=by kernel_rfl
@[simp]theorem atI:qp Tryz.prog 213=some 1:=by kernel_rfl
@[simp]theorem asI:mpE Tryz.prog 213=some 255:=by kernel_rfl
@[simp]theorem anx:Jo Tryz.prog 213=true:=by kernel_rfl
@[simp]theorem anD:ZR Tryz.prog 213 1=some 255:=by kernel_rfl
@[simp]theorem as2:xW Tryz.prog 215=some true:=by kernel_rfl
@[simp]theorem atJ:qp Tryz.prog 215=some 2:=by kernel_rfl
@[simp]theorem amI:wL Tryz.prog 215 0=some (0,213):=by kernel_rfl
@[simp]theorem amT:wL Tryz.prog 215 1=some (1,213):=by kernel_rfl
@[simp]theorem atv:PY Tryz.prog 215=some [(0,1),(1,1)]:=by kernel_rfl
@[simp]theorem aub:wS Tryz.prog 215=some (Value.agg #[.map none,.map none]):=by kernel_rfl
@[simp]theorem ath:wI Tryz.prog 232=some 5:=by kernel_rfl
@[simp]theorem ati:wI Tryz.prog 255=some 257:=by kernel_rfl
@[simp]theorem auc:wS Tryz.prog 255=some (Value.slice none 0 0):=by kernel_rfl
@[simp]theorem as3:xW Tryz.prog 257=some true:=by kernel_rfl
@[simp]theorem atK:qp Tryz.prog 257=some 2:=by kernel_rfl
@[simp]theorem amJ:wL Tryz.prog 257 0=some (0,3):=by kernel_rfl
@[simp]theorem amU:wL Tryz.prog 257 1=some (1,3):=by kernel_rfl
@[simp]theorem atw:PY Tryz.prog 257=some [(0,1),(1,1)]:=by kernel_rfl
@[simp]theorem aq_:Ky Tryz.prog 257=some 16:=by kernel_rfl
@[simp]theorem aud:wS Tryz.prog 257=some (Value.agg #[.int .i64 0,.int .i64 0]):=by kernel_rfl
@[simp]theorem asJ:mpE Tryz.prog 265=some 23:=by kernel_rfl
@[simp]theorem aqY:arE Tryz.prog 280=some (64,5):=by kernel_rfl
@[simp]theorem as4:xW Tryz.prog 292=some true:=by kernel_rfl
@[simp]theorem atL:qp Tryz.prog 292=some 11:=by kernel_rfl
@[simp]theorem amK:wL Tryz.prog 292 0=some (0,3):=by kernel_rfl
@[simp]theorem amV:wL Tryz.prog 292 1=some (1,25):=by kernel_rfl
@[simp]theorem atx:PY Tryz.prog 292=some [(0,1),(1,10)]:=by kernel_rfl
@[simp]theorem ara:Ky Tryz.prog 292=some 96:=by kernel_rfl
@[simp]theorem aue:wS Tryz.prog 292=some (Value.agg #[.int .i64 0,.int .i64 0,.int .i64 0,.int .i64 0,.int .i64 0,.int .i64 0,.int .i64 0,.int .i64 0,.int .i64 0,.int .u64 0,.string ⟨#[]⟩]):=by kernel_rfl
@[simp]theorem atj:wI Tryz.prog 293=some 292:=by kernel_rfl
@[simp]theorem as5:xW Tryz.prog 300=some false:=by kernel_rfl
@[simp]theorem atM:qp Tryz.prog 300=some 1:=by kernel_rfl
@[simp]theorem anE:ZR Tryz.prog 300 1=some 4:=by kernel_rfl
@[simp]theorem auf:wS Tryz.prog 300=some (Value.map none):=by kernel_rfl
@[simp]theorem as6:xW Tryz.prog 301=some false:=by kernel_rfl
@[simp]theorem atN:qp Tryz.prog 301=some 1:=by kernel_rfl
@[simp]theorem aug:wS Tryz.prog 301=some Value.nilFunc:=by kernel_rfl
@[simp]theorem arl:dP Tryz.prog 16=true:=by kernel_rfl
@[simp]theorem arn:dP Tryz.prog 17=true:=by kernel_rfl
@[simp]theorem aro:dP Tryz.prog 18=true:=by kernel_rfl
@[simp]theorem arp:dP Tryz.prog 30=true:=by kernel_rfl
@[simp]theorem arq:dP Tryz.prog 34=true:=by kernel_rfl
@[simp]theorem ars:dP Tryz.prog 38=true:=by kernel_rfl
@[simp]theorem aru:dP Tryz.prog 40=true:=by kernel_rfl
@[simp]theorem arv:dP Tryz.prog 44=true:=by kernel_rfl
@[simp]theorem arw:dP Tryz.prog 47=true:=by kernel_rfl
@[simp]theorem arx:dP Tryz.prog 48=true:=by kernel_rfl
@[simp]theorem arz:dP Tryz.prog 51=true:=by kernel_rfl
@[simp]theorem arA:dP Tryz.prog 52=true:=by kernel_rfl
@[simp]theorem arB:dP Tryz.prog 53=true:=by kernel_rfl
@[simp]theorem arC:dP Tryz.prog 54=true:=by kernel_rfl
@[simp]theorem arD:dP Tryz.prog 56=true:=by kernel_rfl
@[simp]theorem arG:dP Tryz.prog 58=true:=by kernel_rfl
@[simp]theorem arH:dP Tryz.prog 59=true:=by kernel_rfl
@[simp]theorem arI:dP Tryz.prog 60=true:=by kernel_rfl
@[simp]theorem arJ:dP Tryz.prog 61=true:=by kernel_rfl
@[simp]theorem arK:dP Tryz.prog 62=true:=by kernel_rfl
@[simp]theorem arO:dP Tryz.prog 66=true:=by kernel_rfl
@[simp]theorem arQ:dP Tryz.prog 68=true:=by kernel_rfl
@[simp]theorem arV:dP Tryz.prog 74=true:=by kernel_rfl
@[simp]theorem arX:dP Tryz.prog 76=true:=by kernel_rfl
@[simp]theorem arY:dP Tryz.prog 77=true:=by kernel_rfl
@[simp]theorem arZ:dP Tryz.prog 78=true:=by kernel_rfl
@[simp]theorem ar0:dP Tryz.prog 79=true:=by kernel_rfl
@[simp]theorem ar1:dP Tryz.prog 81=true:=by kernel_rfl
@[simp]theorem ar2:dP Tryz.prog 82=true:=by kernel_rfl
@[simp]theorem ar4:dP Tryz.prog 84=true:=by kernel_rfl
@[simp]theorem ar5:dP Tryz.prog 85=true:=by kernel_rfl
@[simp]theorem ar6:dP Tryz.prog 86=true:=by kernel_rfl
@[simp]theorem ar7:dP Tryz.prog 87=true:=by kernel_rfl
@[simp]theorem ar8:dP Tryz.prog 88=true:=by kernel_rfl
@[simp]theorem ar9:dP Tryz.prog 89=true:=by kernel_rfl
@[simp]theorem ar_:dP Tryz.prog 90=true:=by kernel_rfl
@[simp]theorem asa:dP Tryz.prog 91=true:=by kernel_rfl
@[simp]theorem asb:dP Tryz.prog 92=true:=by kernel_rfl
@[simp]theorem ase:dP Tryz.prog 93=true:=by kernel_rfl
@[simp]theorem asf:dP Tryz.prog 96=true:=by kernel_rfl
@[simp]theorem asg:dP Tryz.prog 97=true:=by kernel_rfl
@[simp]theorem ash:dP Tryz.prog 98=true:=by kernel_rfl
@[simp]theorem aoE:dP Tryz.prog 100=true:=by kernel_rfl
@[simp]theorem aoF:dP Tryz.prog 105=true:=by kernel_rfl
@[simp]theorem aoG:dP Tryz.prog 106=true:=by kernel_rfl
@[simp]theorem aoH:dP Tryz.prog 108=true:=by kernel_rfl
@[simp]theorem aoI:dP Tryz.prog 111=true:=by kernel_rfl
@[simp]theorem aoJ:dP Tryz.prog 112=true:=by kernel_rfl
@[simp]theorem aoK:dP Tryz.prog 113=true:=by kernel_rfl
@[simp]theorem aoL:dP Tryz.prog 117=true:=by kernel_rfl
@[simp]theorem aoM:dP Tryz.prog 118=true:=by kernel_rfl
@[simp]theorem aoN:dP Tryz.prog 119=true:=by kernel_rfl
@[simp]theorem aoO:dP Tryz.prog 120=true:=by kernel_rfl
@[simp]theorem aoP:dP Tryz.prog 121=true:=by kernel_rfl
@[simp]theorem aoQ:dP Tryz.prog 122=true:=by kernel_rfl
@[simp]theorem aoR:dP Tryz.prog 123=true:=by kernel_rfl
@[simp]theorem aoS:dP Tryz.prog 124=true:=by kernel_rfl
@[simp]theorem aoT:dP Tryz.prog 125=true:=by kernel_rfl
@[simp]theorem aoU:dP Tryz.prog 126=true:=by kernel_rfl
@[simp]theorem aoV:dP Tryz.prog 127=true:=by kernel_rfl
@[simp]theorem aoW:dP Tryz.prog 128=true:=by kernel_rfl
@[simp]theorem aoX:dP Tryz.prog 129=true:=by kernel_rfl
@[simp]theorem aoY:dP Tryz.prog 130=true:=by kernel_rfl
@[simp]theorem aoZ:dP Tryz.prog 131=true:=by kernel_rfl
@[simp]theorem ao0:dP Tryz.prog 132=true:=by kernel_rfl
@[simp]theorem ao1:dP Tryz.prog 133=true:=by kernel_rfl
@[simp]theorem ao2:dP Tryz.prog 134=true:=by kernel_rfl
@[simp]theorem ao3:dP Tryz.prog 135=true:=by kernel_rfl
@[simp]theorem ao4:dP Tryz.prog 136=true:=by kernel_rfl
@[simp]theorem ao5:dP Tryz.prog 137=true:=by kernel_rfl
@[simp]theorem ao6:dP Tryz.prog 138=true:=by kernel_rfl
@[simp]theorem ao7:dP Tryz.prog 139=true:=by kernel_rfl
@[simp]theorem ao8:dP Tryz.prog 140=true:=by kernel_rfl
@[simp]theorem ao9:dP Tryz.prog 141=true:=by kernel_rfl
@[simp]theorem ao_:dP Tryz.prog 142=true:=by kernel_rfl
@[simp]theorem apa:dP Tryz.prog 143=true:=by kernel_rfl
@[simp]theorem apb:dP Tryz.prog 144=true:=by kernel_rfl
@[simp]theorem apd:dP Tryz.prog 146=true:=by kernel_rfl
@[simp]theorem ape:dP Tryz.prog 147=true:=by kernel_rfl
@[simp]theorem apf:dP Tryz.prog 149=true:=by kernel_rfl
@[simp]theorem apg:dP Tryz.prog 151=true:=by kernel_rfl
@[simp]theorem aph:dP Tryz.prog 153=true:=by kernel_rfl
@[simp]theorem apj:dP Tryz.prog 157=true:=by kernel_rfl
@[simp]theorem apk:dP Tryz.prog 158=true:=by kernel_rfl
@[simp]theorem apl:dP Tryz.prog 159=true:=by kernel_rfl
@[simp]theorem apm:dP Tryz.prog 160=true:=by kernel_rfl
@[simp]theorem apn:dP Tryz.prog 161=true:=by kernel_rfl
@[simp]theorem apo:dP Tryz.prog 162=true:=by kernel_rfl
@[simp]theorem apq:dP Tryz.prog 163=true:=by kernel_rfl
@[simp]theorem apr:dP Tryz.prog 164=true:=by kernel_rfl
@[simp]theorem aps:dP Tryz.prog 165=true:=by kernel_rfl
@[simp]theorem apt:dP Tryz.prog 166=true:=by kernel_rfl
@[simp]theorem apu:dP Tryz.prog 167=true:=by kernel_rfl
@[simp]theorem apv:dP Tryz.prog 168=true:=by kernel_rfl
@[simp]theorem apw:dP Tryz.prog 169=true:=by kernel_rfl
@[simp]theorem apx:dP Tryz.prog 170=true:=by kernel_rfl
@[simp]theorem apy:dP Tryz.prog 171=true:=by kernel_rfl
@[simp]theorem apz:dP Tryz.prog 172=true:=by kernel_rfl
@[simp]theorem apA:dP Tryz.prog 173=true:=by kernel_rfl
@[simp]theorem apB:dP Tryz.prog 174=true:=by kernel_rfl
@[simp]theorem apC:dP Tryz.prog 175=true:=by kernel_rfl
@[simp]theorem apD:dP Tryz.prog 179=true:=by kernel_rfl
@[simp]theorem apE:dP Tryz.prog 181=true:=by kernel_rfl
@[simp]theorem apF:dP Tryz.prog 182=true:=by kernel_rfl
@[simp]theorem apG:dP Tryz.prog 183=true:=by kernel_rfl
@[simp]theorem apH:dP Tryz.prog 184=true:=by kernel_rfl
@[simp]theorem apI:dP Tryz.prog 185=true:=by kernel_rfl
@[simp]theorem apJ:dP Tryz.prog 186=true:=by kernel_rfl
@[simp]theorem apK:dP Tryz.prog 187=true:=by kernel_rfl
@[simp]theorem apL:dP Tryz.prog 188=true:=by kernel_rfl
@[simp]theorem apM:dP Tryz.prog 189=true:=by kernel_rfl
@[simp]theorem apN:dP Tryz.prog 190=true:=by kernel_rfl
@[simp]theorem apO:dP Tryz.prog 191=true:=by kernel_rfl
@[simp]theorem apP:dP Tryz.prog 192=true:=by kernel_rfl
@[simp]theorem apQ:dP Tryz.prog 193=true:=by kernel_rfl
@[simp]theorem apR:dP Tryz.prog 194=true:=by kernel_rfl
@[simp]theorem apS:dP Tryz.prog 195=true:=by kernel_rfl
@[simp]theorem apT:dP Tryz.prog 196=true:=by kernel_rfl
@[simp]theorem apU:dP Tryz.prog 197=true:=by kernel_rfl
@[simp]theorem apV:dP Tryz.prog 198=true:=by kernel_rfl
@[simp]theorem apW:dP Tryz.prog 199=true:=by kernel_rfl
@[simp]theorem apX:dP Tryz.prog 200=true:=by kernel_rfl
@[simp]theorem apY:dP Tryz.prog 201=true:=by kernel_rfl
@[simp]theorem apZ:dP Tryz.prog 203=true:=by kernel_rfl
@[simp]theorem ap0:dP Tryz.prog 204=true:=by kernel_rfl
@[simp]theorem ap1:dP Tryz.prog 205=true:=by kernel_rfl
@[simp]theorem ap2:dP Tryz.prog 206=true:=by kernel_rfl
@[simp]theorem ap3:dP Tryz.prog 207=true:=by kernel_rfl
@[simp]theorem ap4:dP Tryz.prog 208=true:=by kernel_rfl
@[simp]theorem ap5:dP Tryz.prog 209=true:=by kernel_rfl
@[simp]theorem ap6:dP Tryz.prog 210=true:=by kernel_rfl
@[simp]theorem ap7:dP Tryz.prog 211=true:=by kernel_rfl
@[simp]theorem ap8:dP Tryz.prog 213=true:=by kernel_rfl
@[simp]theorem ap9:dP Tryz.prog 215=true:=by kernel_rfl
@[simp]theorem ap_:dP Tryz.prog 216=true:=by kernel_rfl
@[simp]theorem aqa:dP Tryz.prog 217=true:=by kernel_rfl
@[simp]theorem aqb:dP Tryz.prog 218=true:=by kernel_rfl
@[simp]theorem aqc:dP Tryz.prog 220=true:=by kernel_rfl
@[simp]theorem aqd:dP Tryz.prog 221=true:=by kernel_rfl
@[simp]theorem aqe:dP Tryz.prog 222=true:=by kernel_rfl
@[simp]theorem aqf:dP Tryz.prog 223=true:=by kernel_rfl
@[simp]theorem aqg:dP Tryz.prog 224=true:=by kernel_rfl
@[simp]theorem aqh:dP Tryz.prog 225=true:=by kernel_rfl
@[simp]theorem aqi:dP Tryz.prog 226=true:=by kernel_rfl
@[simp]theorem aqj:dP Tryz.prog 228=true:=by kernel_rfl
@[simp]theorem aqk:dP Tryz.prog 229=true:=by kernel_rfl
@[simp]theorem aql:dP Tryz.prog 230=true:=by kernel_rfl
@[simp]theorem aqm:dP Tryz.prog 231=true:=by kernel_rfl
@[simp]theorem aqn:dP Tryz.prog 232=true:=by kernel_rfl
@[simp]theorem aqo:dP Tryz.prog 233=true:=by kernel_rfl
@[simp]theorem aqp:dP Tryz.prog 234=true:=by kernel_rfl
@[simp]theorem aqr:dP Tryz.prog 235=true:=by kernel_rfl
@[simp]theorem aqs:dP Tryz.prog 237=true:=by kernel_rfl
@[simp]theorem aqt:dP Tryz.prog 238=true:=by kernel_rfl
@[simp]theorem aqu:dP Tryz.prog 239=true:=by kernel_rfl
@[simp]theorem aqv:dP Tryz.prog 240=true:=by kernel_rfl
@[simp]theorem aqw:dP Tryz.prog 241=true:=by kernel_rfl
@[simp]theorem aqx:dP Tryz.prog 242=true:=by kernel_rfl
@[simp]theorem aqy:dP Tryz.prog 243=true:=by kernel_rfl
@[simp]theorem aqz:dP Tryz.prog 244=true:=by kernel_rfl
@[simp]theorem aqA:dP Tryz.prog 245=true:=by kernel_rfl
@[simp]theorem aqB:dP Tryz.prog 246=true:=by kernel_rfl
@[simp]theorem aqC:dP Tryz.prog 250=true:=by kernel_rfl
@[simp]theorem aqD:dP Tryz.prog 251=true:=by kernel_rfl
@[simp]theorem aqE:dP Tryz.prog 252=true:=by kernel_rfl
@[simp]theorem aqF:dP Tryz.prog 254=true:=by kernel_rfl
@[simp]theorem aqG:dP Tryz.prog 256=true:=by kernel_rfl
@[simp]theorem aqH:dP Tryz.prog 257=true:=by kernel_rfl
@[simp]theorem aqI:dP Tryz.prog 258=true:=by kernel_rfl
@[simp]theorem mixed:Tryz.prog.follows .mixedOrders=true:=by kernel_rfl
end Go.Proofs

namespace Go.Tr
open Go
inductive Ty where
 | int (k:IntKind)
 | bool
 | str
 | sl (e:Ty)
 | st (fs:List Ty)
mutual
def Ty.size:Ty→Nat
 | .st fs=>Ty.sizes fs
 | _=>1
def Ty.sizes:List Ty→Nat
 | []=>0
 | f::fs=>f.size+Ty.sizes fs
end
mutual
def Ty.has:Ty→List D→Prop
 | .int k,ds=>∃n,ds = [.int k n]∧(Lit.int k n).wf=true
 | .bool,ds=>∃b,ds = [.bool b]
 | .str,ds=>∃s:ByteArray,ds = [.str s]∧s.size≤maxLen
 | .sl e,ds=>∃xs,ds = [.sl xs]∧xs.length≤maxLen∧∀x∈xs,e.has x
 | .st fs,ds=>Ty.hass fs ds
def Ty.hass:List Ty→List D→Prop
 | [],ds=>ds = []
 | f::fs,ds=>∃a b,ds=a++b∧f.has a∧Ty.hass fs b
end
mutual
def tyB(P:Program):Ty→TypeId→Bool
 | .int k,t=>match P.underlying t with|some (.int k')=>decide (k'=k)|_=>false
 | .bool,t=>match P.underlying t with|some .bool=>true|_=>false
 | .str,t=>match P.underlying t with|some .string=>true|_=>false
 | .sl e,t=>match P.underlying t with|some (.slice u)=>tyB P e u&&(decide (P.cellsOf u=e.size)&&decide (0<e.size))|_=>false
 | .st fs,t=>match P.underlying t with|some (.struct a)=>aix P fs a.toList 0&&decide (P.cellsOf t=Ty.sizes fs)|_=>false
def aix(P:Program):List Ty→List Field→Nat→Bool
 | [],[],_=>true
 | T::fs,f::l,o=>decide (f.offset=o)&&(decide (P.cellsOf f.type=T.size)&&(tyB P T f.type&&aix P fs l (o+T.size)))
 | _,_,_=>false
end
mutual
theorem Ty.XR:∀(T:Ty) {ds:List D},T.has ds→ds.length=T.size
 | .int k,ds,h=>by obtain⟨n,rfl,_⟩:=h;rfl
 | .bool,ds,h=>by obtain⟨n,rfl⟩:=h;rfl
 | .str,ds,h=>by obtain⟨n,rfl,_⟩:=h;rfl
 | .sl e,ds,h=>by obtain⟨n,rfl,_⟩:=h;rfl
 | .st fs,ds,h=>by exact Ty.Zv fs h
theorem Ty.Zv:∀(fs:List Ty) {ds:List D},Ty.hass fs ds→ds.length=Ty.sizes fs
 | [],ds,h=>by grind[Ty.hass,Ty.sizes]
 | f::fs,ds,h=>by obtain⟨a,b,rfl,h1,h2⟩:=h;simp only[Ty.sizes,aS,Ty.XR f h1,Ty.Zv fs h2]
end
theorem b_.app{E:En}:∀{a b:List TV} {us vs:List Value},b_ E a us→b_ E b vs→b_ E (a++b) (us++vs)
 | [],b,us,vs,h,g=>by grind[b_]
 | t::a,b,us,vs,h,g=>by obtain⟨u,us',rfl,h1,h2⟩:=h;exact⟨u,_,rfl,h1,b_.app h2 g⟩
theorem afY(b o m:Nat):(⟨b,o,none⟩:Addr).add m=⟨b,o+m,none⟩:=by simp[Addr.add]
theorem cell_lt{w:World}{a:Addr}{v:Value}(h:w.cell? a=some v):a.block<w.heap.size∧a.spot=none:=by
 simp only[World.cell?]at h;split at h
 ·rename_i hh;refine⟨(bZ.1 hh).1,?_⟩
  simp_all
 trivial
theorem VG{w:World}{b:Nat}:∀{ds:List D} {vs:List Value} {o:Nat},b_ (NI w) (ds.map .d) vs→(∀i,i<ds.length→w.cell? ⟨b,o+i,none⟩ = vs[i]?)→gq (NI w) b o ds
 | [],_,_,_,_=>by trivial
 | d::ds,vs,o,h,hc=>by
   obtain⟨u,vs',rfl,h1,h2⟩:=h;have h0:=hc 0 (by simp);refine⟨⟨(cell_lt h0).1,u,h0,by trivial⟩,VG h2 fun i hi=>?_⟩;have:=hc (i+1) (by simp[*])
   grind
theorem Uw{E:En}{b k:Nat}{p:List D→Prop}:∀(n:Nat) {o:Nat},(∀i,i<n→∃ds,p ds∧ds.length=k∧gq E b (o+i*k) ds)→∃xs:List (List D),xs.length=n∧(∀x∈xs,p x)∧mV E b k o xs
 | 0,o,_=>⟨[],rfl,by simp,by trivial⟩
 | n+1,o,h=>by
   obtain⟨d,h1,h2,h3⟩:=h 0 (by omega);obtain⟨xs,g1,g2,g3⟩:=Uw (p:=p) n (o:=o+k) fun i hi=>by obtain⟨ds,k1,k2,k3⟩:=h (i+1) (by omega);refine⟨ds,k1,k2,?_⟩;rw[show o+k+i*k=o+(i+1)*k by grind];omega
   refine⟨d::xs,by simp[*],by simp_all,?_⟩
   grind[mV]
section
variable {H:Type} {enc:TypeId×Value→H} {P:Program} {w:World} {sp:Nat→Bool} {held:Bool}
mutual
theorem UM:∀(T:Ty) {t:TypeId} {fuel:Nat} {cs:List Value} {x:DataW H×List MemPlace},tyB P T t=true→DataW.trod enc P w 0 sp held fuel t cs=some x→∃ds,T.has ds∧b_ (NI w) (ds.map .d) cs
 | .int k,t,fuel,cs,x,hT,h=>by
   simp only[tyB]at hT;split at hT
   ·rename_i ht;simp only[decide_eq_true_eq]at hT;subst hT;obtain⟨n,rfl,_,hw⟩:=DataW.trod_int ht h;exact⟨[.int _ n],by simp only[Ty.has];exact⟨n,rfl,hw⟩,by simp[b_,aV,Rep]⟩
   trivial
 | .bool,t,fuel,cs,x,hT,h=>by
   simp only[tyB]at hT;split at hT
   ·rename_i ht;obtain⟨n,rfl,_⟩:=DataW.trod_bool ht h;exact⟨[.bool n],by simp only[Ty.has];simp,by simp[b_,aV,Rep]⟩
   trivial
 | .str,t,fuel,cs,x,hT,h=>by
   simp only[tyB]at hT;split at hT
   ·rename_i ht;obtain⟨n,rfl,_,hw⟩:=DataW.trod_string ht h;exact⟨[.str n],by simp only[Ty.has];simp[*],by simp[b_,aV,Rep]⟩
   trivial
 | .sl e,t,fuel,cs,x,hT,h=>by
   simp only[tyB]at hT;split at hT
   ·rename_i u ht;simp only[aP,decide_eq_true_eq]at hT;obtain⟨hu,hk,hk0⟩:=hT;rcases DataW.trod_slice ht h with⟨rfl,_⟩|⟨a,len,cap,elems,rest,n,_,rfl,_,_,hl,hm,hlen,hel,_,_⟩
    ·exact⟨[.sl []],by simp only[Ty.has];simp,by simp only[aH,dY,b_,aV,Rep];simp⟩
    ·by_cases h0:len=0
     ·subst h0;exact⟨[.sl []],by simp only[Ty.has];simp,by simp only[aH,dY,b_,aV,Rep];simp⟩
     ·have each:∀i,i<len→∃vs y,w.cells? 0 (a.add (i*P.cellsOf u)) (P.cellsOf u)=some vs∧DataW.trod enc P w 0 sp held n u vs=some y:=fun i hi=>by
       grind[Option.bind_eq_some_iff]
      have hspot:a.spot=none:=by
       obtain⟨vs,y,g1,_⟩:=each 0 (by omega);obtain⟨_,g3,g4⟩:=World.cells?_some g1;have g5:=g4 0 (by omega);have g6:vs[0]? = some vs[0]:=ah (by omega);rw[g6]at g5
       simp only[Nat.zero_mul,Addr.add,if_true]at g5;exact(cell_lt g5).2
      obtain⟨b,o,s⟩:=a;simp only at hspot;subst hspot;obtain⟨xs,x1,x2,x3⟩:=Uw (E:=NI w) (b:=b) (k:=e.size) (p:=e.has) len (o:=o) fun i hi=>by
       obtain⟨vs,y,g1,g2⟩:=each i hi;obtain⟨ds,d1,d2⟩:=UM e hu g2;obtain⟨_,g3,g4⟩:=World.cells?_some g1;refine⟨ds,d1,e.XR d1,VG d2 fun j hj=>?_⟩;rw[e.XR d1]at hj
       grind[afY]
      exact⟨[.sl xs],by simp only[Ty.has];grind,by
       simp only[aH,dY,b_,aV,Rep]
       grind⟩
   trivial
 | .st fs,t,fuel,cs,x,hT,h=>by
   simp only[tyB]at hT;split at hT
   ·rename_i a ht;simp only[aP,decide_eq_true_eq]at hT;obtain⟨hf,hs⟩:=hT;obtain⟨xs,n,_,_,hl,hlen,hel⟩:=DataW.trod_struct ht h;obtain⟨ds,d1,d2⟩:=Xh fs (l:=a.toList) (o:=0) (n:=n) (cs:=cs) hf (fun f hfm=>by
     grind[List.getElem?_of_mem])
    grind[Ty.has]
   trivial
theorem Xh:∀(fs:List Ty) {l:List Field} {o n:Nat} {cs:List Value},aix P fs l o=true→(∀f∈l,∃x,DataW.trod enc P w 0 sp held n f.type ((cs.drop f.offset).take (P.cellsOf f.type))=some x)→
  ∃ds,Ty.hass fs ds∧b_ (NI w) (ds.map .d) ((cs.drop o).take (Ty.sizes fs))
 | [],l,o,n,cs,hT,h=>⟨[],by rfl,by rfl⟩
 | T::fs,[],o,n,cs,hT,h=>by trivial
 | T::fs,f::l,o,n,cs,hT,h=>by
   simp only[aix,aP,decide_eq_true_eq]at hT;obtain⟨ho,hk,hu,hr⟩:=hT;obtain⟨x,hx⟩:=h f (by simp);rw[ho,hk]at hx
   obtain⟨d1,a1,a2⟩:=UM T hu hx;obtain⟨d2,b1,b2⟩:=Xh fs (o:=o+T.size) hr fun g hg=>h g (by simp[hg])
   refine⟨d1++d2,by simp only[Ty.hass];exact⟨_,_,rfl,a1,b1⟩,?_⟩
   grind[Ty.sizes,List.drop_drop,b_.app]
end
def Ty.tv:Ty→List D→TV
 | .st _,ds=>.agg (ds.map .d)
 | _,d::_=>.d d
 | _,[]=>.junk
theorem yh(T:Ty){t:TypeId}{r:Reach}{b0:Nat}{v:Value}{d:DataW H}{ps:List MemPlace}(hT:tyB P T t=true)(hv:Value.okWide P w r b0 t v)(h:DataW.Trod enc P w 0 sp held t v d ps):
  ∃ds,T.has ds∧aV (NI w) (T.tv ds) v:=by
 obtain⟨fuel,hf⟩:=h;obtain⟨ds,h1,h2⟩:=UM T hT hf;refine⟨ds,h1,?_⟩;cases T with
 | st fs=>
   simp only[tyB]at hT;split at hT
   ·rename_i a ht;obtain⟨cs,rfl,_⟩:=WideShapes.okWide_struct ht hv;exact⟨cs,rfl,by trivial⟩
   trivial
 | int k=>
   simp only[tyB]at hT;split at hT
   ·rename_i ht;obtain⟨n,rfl⟩:=WideShapes.okWide_int ht hv;obtain⟨m,rfl,_⟩:=h1
    grind[Value.cells,b_,Ty.tv]
   trivial
 | bool=>
   simp only[tyB]at hT;split at hT
   ·rename_i ht;obtain⟨n,rfl⟩:=WideShapes.okWide_bool ht hv;simp only[Ty.has]at h1;obtain⟨m,rfl⟩:=h1
    grind[Value.cells,b_,Ty.tv]
   trivial
 | str=>
   simp only[tyB]at hT;split at hT
   ·rename_i ht;obtain⟨n,rfl⟩:=WideShapes.okWide_string ht hv;simp only[Ty.has]at h1;obtain⟨m,rfl,_⟩:=h1
    grind[Value.cells,b_,Ty.tv]
   trivial
 | sl e=>
   simp only[tyB]at hT;split at hT
   ·rename_i ht;obtain⟨a,len,cap,rfl⟩:=WideShapes.okWide_slice ht hv;simp only[Ty.has]at h1;obtain⟨m,rfl,_⟩:=h1
    grind[Value.cells,b_,Ty.tv]
   trivial
end
end Go.Tr

namespace Go.Tr
open Go
theorem Contract.true{P:Program}{f:FuncId}{args:List TV}{ro:List (Nat×It)}(c:Contract P f args [] (.d (.bool true)) [] ro){w:World}(hg:KA w){us:List Value}(h:b_ (NI w) args us):
  Calls P f us.toArray w fun e w'=>e = .returned (.bool true)∧RowKit.Below w.heap.size w w':=
 (c.law hg h).mono fun e w' ⟨u,E',he,hr,hb⟩=>by grind[aV,Rep]
theorem BZ{k:IntKind}{ds:List D}(h:(Ty.sl (.int k)).has ds):∃l:List Int,ds = [.sl (l.map fun n=>[.int k n])]∧l.length≤maxLen∧∀n∈l,(Lit.int k n).wf=true:=by
 obtain⟨xs,rfl,h1,h2⟩:=h;have:∀(xs:List (List D)),(∀x∈xs,∃n,x = [D.int k n]∧(Lit.int k n).wf=true)→∃l:List Int,xs=l.map (fun n=>[D.int k n])∧∀n∈l,(Lit.int k n).wf=true:=by
  intro xs
  induction xs with
  | nil=>simp
  | cons x xs ih=>
    intro h;obtain⟨n,rfl,hn⟩:=h x (by simp);obtain⟨l,rfl,hl⟩:=ih fun y hy=>h y (by simp[*])
    exact⟨n::l,rfl,by simp_all⟩
 obtain⟨l,rfl,hl⟩:=this xs h2
 grind
theorem wf_i64{n:Int}(h:(Lit.int .i64 n).wf=true):I64 n:=by
 simp only[Lit.wf,aP,decide_eq_true_eq]at h
 trivial
end Go.Tr
