/-
  What functions of the program compute, stated as contracts over plain data; the conditions of each stand in its own statement.
-/
import Derived.Test.YtkikielfhjoogaaGreatDoorZA09
import Derived.Test.YtkikielfhjoogaaGreatDoorZA06
import Derived.KernelRfl
import Derived.Test.YtkikielfhjoogaaGreatDoorChecked
import Derived.ProofKit
set_option linter.unusedVariables false
set_option linter.unusedSimpArgs false
namespace Go.Tr
open Go
def XG(w:World):En:={w:=w,St:=fun b _=>b<w.heap.size,blk:=fun _=>none,val:=fun _=>none}
def Wn(w:World):Prop:=∀y∈Xz,dU (XG w) y.1 0 y.2
theorem ajn(w:World)(hg:Wn w):lD (XG w) (BG []):=by
 refine⟨fun p hp=>?_,fun _=>rfl,fun p q b h=>?_,fun p b h=>?_,fun b o h=>h,fun b o h p g=>?_,hg⟩
 ·have:BG [] p = .none:=by cases p<;>simp[BG]
  rw[this];exact fun id _=>⟨rfl,rfl⟩
 ·cases p<;>simp[En.own,XG]at h
 ·cases p<;>simp[En.own,XG]at h
 ·cases p<;>simp[En.own,XG]at g
theorem Contract.law{P:Program}{f:FuncId}{args:List TV}{r:TV}{ro:List (Nat×It)}(c:Contract P f args [] r [] ro){w:World}(hg:Wn w){us:List Value}(h:bD (XG w) args us):
  Calls P f us.toArray w fun e w'=>∃u E',e = .returned u∧aP E' r u∧RowKit.Below w.heap.size w w':=by
 refine(c (XG w) us (ajn w hg) h).mono fun e w' ⟨u,E',he,hw,hp⟩=>⟨u,E',he,hp.rel,?_⟩
 subst hw;exact⟨hp.fr.os,hp.fr.tape,hp.fr.output,hp.fr.size,fun k hk=>hp.fr.old k hk (fun i=>by simp[XG]) (fun i=>by simp[En.own,XG])⟩
section
variable {A:f_}
theorem cu.vs{E:En}{us:List Value}:∀{ts:List TV} {o:Nat},cu E us o ts→bD E ts ((us.drop o).take ts.length)∧(∀i,o≤i→i<o+ts.length→∃u,us[i]? = some u∧u.oneCell'=true)
 | [],o,_=>⟨by rfl,fun i h1 h2=>by grind⟩
 | t::ts,o,⟨⟨u,h1,h2,h3⟩,r⟩=>by
   obtain⟨g1,g2⟩:=cu.vs r;have hlt:o<us.length:=(aB.1 h1).1;have hu:us[o]=u:=by rw[aj hlt]at h1;simpa using h1
   refine⟨?_,fun i i1 i2=>?_⟩
   ·rw[cZ hlt,aH,lM,hu];simp only[bD];exact⟨u,_,rfl,h3,g1⟩
   ·by_cases e:i=o
    ·subst e;exact⟨u,h1,h2⟩
    ·exact g2 i (by omega) (by simp at i2;omega)
theorem bD.len{E:En}:∀{ts:List TV} {us:List Value},bD E ts us→us.length=ts.length
 | [],us,h=>by grind[bD]
 | t::ts,us,h=>by obtain⟨u,us',rfl,_,g⟩:=h;simp[bD.len g]
theorem bD.cellsB{E:En}{us:List Value}:∀{ts:List TV} {o:Nat},o+ts.length≤us.length→bD E ts ((us.drop o).take ts.length)→(∀i,o≤i→i<o+ts.length→∃u,us[i]? = some u∧u.oneCell'=true)→cu E us o ts
 | [],_,_,_,_=>trivial
 | t::ts,o,hl,h,h1=>by
   have hlt:o<us.length:=by grind
   rw[cZ hlt,aH,lM]at h
   obtain⟨u,us',he,g1,g2⟩:=h;obtain⟨rfl,rfl⟩:=he;refine⟨⟨us[o],aj hlt,?_,g1⟩,bD.cellsB (by grind) g2 fun i i1 i2=>h1 i (by omega) (by grind)⟩;obtain⟨u,e1,e2⟩:=h1 o (by omega) (by simp)
   simp_all
theorem eY.ak6{t:S}{a:Act}{E:En}{p:Pl}{cs cs':List TV}(hi:eY A t a E)(hs:∀k,p≠.s k)(hp:t p = .box cs)
  (hrel:∀(b:Nat) (ty:TypeId) (us:Array Value),E.blk p=some b→E.w.heap[b]? = some (.cells us ty (0,0))→us.size=cs.length→bD E cs' us.toList) :
  eY A (upd t p (.box cs')) a E:=by
 refine⟨⟨fun q hq=>?_,hi.h.frees,hi.h.inj,hi.h.size,hi.h.o_,fun b o h1 q h2=>?_,hi.h.gl⟩,hi.fr,fun k tv hk=>?_,hi.defers,hi.size⟩
 ·by_cases e:q=p
  ·subst e;have h:=hi.h.item q hq;rw[hp]at h
   simp only[upd,if_true];obtain⟨h1,b,ty,us,h2,h3,h4,h5⟩:=h;obtain⟨g1,g2⟩:=h5.vs;have g3:=hrel b ty us h2 h3 h4;have hl:=g3.len;rw[gK]at hl
   refine⟨h1,b,ty,us,h2,h3,hl,bD.cellsB (by simp_all) ?_ fun i i1 i2=>g2 i i1 (by omega)⟩
   grind[List.take_of_length_le]
  ·simp only[upd,if_neg e];exact hi.h.item q hq
 ·obtain⟨e,k,es,h3,h4⟩:=hi.h.sep b o h1 q h2;refine⟨e,k,es,?_,h4⟩;have:q≠p:=by grind
  simp only[upd,if_neg this];omega
 ·have:Pl.s k≠p:=by grind
  simp only[upd,if_neg this]at hk;exact hi.sl k tv hk
def UH(t:S)(p:Pl):VR:=
 match t p with
 | .box cs=>match IX t cs with
   | some (C,rp,vs',W)=>.some C (p::rp) ((p,.box vs')::W)
   | none=>.none
 | _=>.none
theorem amj{t:S}{c c':TV}{C:Prop}{rp:List Pl}{W:List (Pl×It)}(h:YE t c=some (C,rp,c',W)):∀p∈W.map (·.1),∃e k es sh,t p = .row e k es sh:=by
 unfold YE at h
 grind
theorem ami{t:S}{c c':TV}{C:Prop}{rp:List Pl}{W:List (Pl×It)}(h:YE t c=some (C,rp,c',W)):∀x∈W,∃e k es sh,x.2 = .row e k es sh:=by
 unfold YE at h
 grind
theorem VP:∀{vs:List TV} {t:S} {vs':List TV} {C:Prop} {rp:List Pl} {W:List (Pl×It)},IX t vs=some (C,rp,vs',W)→(∀x∈W,∃e k es sh,x.2 = .row e k es sh)∧∀p cs,t p = .box cs→p∉W.map (·.1)
 | [],_,_,_,_,_,h=>by trivial
 | c::l,t,vs',C,rp,W,h=>by
   simp only[IX]at h;split at h
   ·split at h
    ·trivial
    ·rename_i hl;obtain⟨rfl,rfl,rfl,rfl⟩:=h;exact VP hl
   ·rename_i C1 rp1 c1 W1 hc;have hW:=amj hc;have hR:=ami hc;have hn:∀p cs,t p = .box cs→p∉W1.map (·.1):=by grind
    split at h
    ·grind
    ·rename_i hl;simp only[ah,aO]at h;obtain⟨rfl,rfl,rfl,rfl⟩:=h;obtain⟨g1,g2⟩:=VP hl
     grind[r_]
theorem abv{t:S}{p:Pl}(hs:rP p=true)(hC:(UH t p).C):GS A t (over t (UH t p).W):=fun a w hi=>by
 unfold UH at hC⊢;split
 ·rename_i cs hp;rw[hp]at hC
  split
  ·rename_i C rp vs' W hv;simp only[hv,VR.C]at hC;obtain⟨E,hw,hi⟩:=hi;obtain⟨E',k1,k2,k3,k4⟩:=IY hv hC (fun _ _=>rfl) hi;have hbox:over t W p = .box cs:=by grind[over,r_,VP]
   refine⟨E',k1.trans hw,k3.ak6 (fun k e=>by simp_all) hbox fun b ty us e1 e2 e3=>k4 _ ?_⟩;have h:=hi.h.item p (fun k e=>by simp_all);rw[hp]at h
   obtain⟨h1,b0,ty0,us0,h2,h3,h4,h5⟩:=h;have hb:E'.blk p=some b0:=by
    cases p with
    | o id=>exact k2.aft id b0 trivial h2
    | x id=>exact k2.aiI id b0 h2
    | s id=>trivial
   rw[hb]at e1
   simp only[ah]at e1;subst e1;rw[k1,h3]at e2
   have:=h5.vs.1
   grind[List.take_of_length_le]
  trivial
 trivial
end
section
variable {A:f_}
attribute [simp] UH
end
theorem Fin.gs{P:Program}{A:f_}{fn:Func}{r:TV}{xs:List It}{ro:List (Nat×It)}{l l':List (Pl×It)}(g:GS A (look l) (look l'))(h:Fin P A fn r xs ro (look l')):Fin P A fn r xs ro (look l):=
 fun a w hi=>h a w (g a w hi)
theorem Fin.box{P:Program}{A:f_}{fn:Func}{r:TV}{xs:List It}{ro:List (Nat×It)}{l:List (Pl×It)}(p:Pl)(hs:rP p=true)(h:(UH (look l) p).C∧Fin P A fn r xs ro (over (look l) (UH (look l) p).W)):Fin P A fn r xs ro (look l):=
 fun a w hi=>h.2 a w (abv hs h.1 a w hi)
end Go.Tr

namespace Go.Proofs
open Go Go.Tr
@[simp]theorem lf3:lf Tryz.prog 3=some 0:=by kernel_rfl
@[simp]theorem axI:qE Tryz.prog 3=some false:=by kernel_rfl
@[simp]theorem axM:kM Tryz.prog 3=some 1:=by kernel_rfl
@[simp]theorem axG:knd Tryz.prog 3=some .i64:=by kernel_rfl
@[simp]theorem axz:BJ Tryz.prog 3=some 8:=by kernel_rfl
@[simp]theorem axQ:qm Tryz.prog 3=some (Value.int .i64 0):=by kernel_rfl
@[simp]theorem axJ:qE Tryz.prog 4=some false:=by kernel_rfl
@[simp]theorem axN:kM Tryz.prog 4=some 1:=by kernel_rfl
@[simp]theorem axA:BJ Tryz.prog 4=some 1:=by kernel_rfl
@[simp]theorem axR:qm Tryz.prog 4=some (Value.bool false):=by kernel_rfl
@[simp]theorem axK:qE Tryz.prog 5=some false:=by kernel_rfl
@[simp]theorem axO:kM Tryz.prog 5=some 1:=by kernel_rfl
@[simp]theorem axL:qE Tryz.prog 9=some false:=by kernel_rfl
@[simp]theorem axP:kM Tryz.prog 9=some 1:=by kernel_rfl
@[simp]theorem atx:isStr Tryz.prog 9=true:=by kernel_rfl
@[simp]theorem av1:qE Tryz.prog 22=some false:=by kernel_rfl
@[simp]theorem awS:kM Tryz.prog 22=some 1:=by kernel_rfl
@[simp]theorem aws:qO Tryz.prog 22=some 3:=by kernel_rfl
@[simp]theorem axf:qm Tryz.prog 22=some (Value.slice none 0 0):=by kernel_rfl
@[simp]theorem av2:qE Tryz.prog 25=some false:=by kernel_rfl
@[simp]theorem awT:kM Tryz.prog 25=some 1:=by kernel_rfl
@[simp]theorem awt:qO Tryz.prog 25=some 78:=by kernel_rfl
@[simp]theorem av3:qE Tryz.prog 26=some false:=by kernel_rfl
@[simp]theorem awU:kM Tryz.prog 26=some 1:=by kernel_rfl
@[simp]theorem awu:qO Tryz.prog 26=some 85:=by kernel_rfl
@[simp]theorem av4:qE Tryz.prog 28=some true:=by kernel_rfl
@[simp]theorem awV:kM Tryz.prog 28=some 2:=by kernel_rfl
@[simp]theorem apm:pO Tryz.prog 28 0=some (0,25):=by kernel_rfl
@[simp]theorem apA:pO Tryz.prog 28 1=some (1,26):=by kernel_rfl
@[simp]theorem awG:EI Tryz.prog 28=some [(0,1),(1,1)]:=by kernel_rfl
@[simp]theorem axg:qm Tryz.prog 28=some (Value.agg #[.slice none 0 0,.slice none 0 0]):=by kernel_rfl
@[simp]theorem av5:qE Tryz.prog 29=some false:=by kernel_rfl
@[simp]theorem awW:kM Tryz.prog 29=some 1:=by kernel_rfl
@[simp]theorem awv:qO Tryz.prog 29=some 149:=by kernel_rfl
@[simp]theorem av6:qE Tryz.prog 31=some true:=by kernel_rfl
@[simp]theorem awX:kM Tryz.prog 31=some 2:=by kernel_rfl
@[simp]theorem apn:pO Tryz.prog 31 0=some (0,3):=by kernel_rfl
@[simp]theorem apB:pO Tryz.prog 31 1=some (1,29):=by kernel_rfl
@[simp]theorem awH:EI Tryz.prog 31=some [(0,1),(1,1)]:=by kernel_rfl
@[simp]theorem axh:qm Tryz.prog 31=some (Value.agg #[.int .i64 0,.slice none 0 0]):=by kernel_rfl
@[simp]theorem av7:qE Tryz.prog 32=some false:=by kernel_rfl
@[simp]theorem awY:kM Tryz.prog 32=some 1:=by kernel_rfl
@[simp]theorem aww:qO Tryz.prog 32=some 131:=by kernel_rfl
@[simp]theorem axi:qm Tryz.prog 32=some (Value.slice none 0 0):=by kernel_rfl
@[simp]theorem av8:qE Tryz.prog 34=some true:=by kernel_rfl
@[simp]theorem awZ:kM Tryz.prog 34=some 2:=by kernel_rfl
@[simp]theorem apo:pO Tryz.prog 34 0=some (0,3):=by kernel_rfl
@[simp]theorem apC:pO Tryz.prog 34 1=some (1,32):=by kernel_rfl
@[simp]theorem awI:EI Tryz.prog 34=some [(0,1),(1,1)]:=by kernel_rfl
@[simp]theorem axj:qm Tryz.prog 34=some (Value.agg #[.int .i64 0,.slice none 0 0]):=by kernel_rfl
@[simp]theorem av9:qE Tryz.prog 36=some true:=by kernel_rfl
@[simp]theorem aw0:kM Tryz.prog 36=some 9:=by kernel_rfl
@[simp]theorem apq:pO Tryz.prog 36 0=some (0,28):=by kernel_rfl
@[simp]theorem apD:pO Tryz.prog 36 1=some (2,31):=by kernel_rfl
@[simp]theorem apM:pO Tryz.prog 36 2=some (4,3):=by kernel_rfl
@[simp]theorem apR:pO Tryz.prog 36 3=some (5,22):=by kernel_rfl
@[simp]theorem apU:pO Tryz.prog 36 4=some (6,34):=by kernel_rfl
@[simp]theorem apX:pO Tryz.prog 36 5=some (8,3):=by kernel_rfl
@[simp]theorem axk:qm Tryz.prog 36=some (Value.agg #[.slice none 0 0,.slice none 0 0,.int .i64 0,.slice none 0 0,.int .i64 0,.slice none 0 0,.int .i64 0,.slice none 0 0,.int .i64 0]):=by kernel_rfl
@[simp]theorem av_:qE Tryz.prog 40=some false:=by kernel_rfl
@[simp]theorem aw1:kM Tryz.prog 40=some 1:=by kernel_rfl
@[simp]theorem awx:qO Tryz.prog 40=some 44:=by kernel_rfl
@[simp]theorem awc:qE Tryz.prog 42=some true:=by kernel_rfl
@[simp]theorem aw2:kM Tryz.prog 42=some 3:=by kernel_rfl
@[simp]theorem apr:pO Tryz.prog 42 0=some (0,3):=by kernel_rfl
@[simp]theorem apE:pO Tryz.prog 42 1=some (1,3):=by kernel_rfl
@[simp]theorem apN:pO Tryz.prog 42 2=some (2,40):=by kernel_rfl
@[simp]theorem awJ:EI Tryz.prog 42=some [(0,1),(1,1),(2,1)]:=by kernel_rfl
@[simp]theorem axl:qm Tryz.prog 42=some (Value.agg #[.int .i64 0,.int .i64 0,.slice none 0 0]):=by kernel_rfl
@[simp]theorem awd:qE Tryz.prog 44=some true:=by kernel_rfl
@[simp]theorem aw3:kM Tryz.prog 44=some 2:=by kernel_rfl
@[simp]theorem aps:pO Tryz.prog 44 0=some (0,3):=by kernel_rfl
@[simp]theorem apF:pO Tryz.prog 44 1=some (1,3):=by kernel_rfl
@[simp]theorem awK:EI Tryz.prog 44=some [(0,1),(1,1)]:=by kernel_rfl
@[simp]theorem avL:BJ Tryz.prog 44=some 16:=by kernel_rfl
@[simp]theorem axm:qm Tryz.prog 44=some (Value.agg #[.int .i64 0,.int .i64 0]):=by kernel_rfl
@[simp]theorem awe:qE Tryz.prog 45=some false:=by kernel_rfl
@[simp]theorem awy:qO Tryz.prog 45=some 105:=by kernel_rfl
@[simp]theorem awf:qE Tryz.prog 46=some false:=by kernel_rfl
@[simp]theorem aw4:kM Tryz.prog 46=some 1:=by kernel_rfl
@[simp]theorem axn:qm Tryz.prog 46=some (Value.int .i64 0):=by kernel_rfl
@[simp]theorem awz:qO Tryz.prog 49=some 55:=by kernel_rfl
@[simp]theorem awg:qE Tryz.prog 53=some false:=by kernel_rfl
@[simp]theorem aw5:kM Tryz.prog 53=some 1:=by kernel_rfl
@[simp]theorem axo:qm Tryz.prog 53=some (Value.int .u64 0):=by kernel_rfl
@[simp]theorem awh:qE Tryz.prog 55=some true:=by kernel_rfl
@[simp]theorem aw6:kM Tryz.prog 55=some 10:=by kernel_rfl
@[simp]theorem apt:pO Tryz.prog 55 0=some (0,3):=by kernel_rfl
@[simp]theorem apG:pO Tryz.prog 55 1=some (1,3):=by kernel_rfl
@[simp]theorem apO:pO Tryz.prog 55 2=some (2,3):=by kernel_rfl
@[simp]theorem apS:pO Tryz.prog 55 3=some (3,3):=by kernel_rfl
@[simp]theorem apV:pO Tryz.prog 55 4=some (4,3):=by kernel_rfl
@[simp]theorem apY:pO Tryz.prog 55 5=some (5,3):=by kernel_rfl
@[simp]theorem apZ:pO Tryz.prog 55 6=some (6,3):=by kernel_rfl
@[simp]theorem ap0:pO Tryz.prog 55 7=some (7,3):=by kernel_rfl
@[simp]theorem ap1:pO Tryz.prog 55 8=some (8,53):=by kernel_rfl
@[simp]theorem ap2:pO Tryz.prog 55 9=some (9,9):=by kernel_rfl
@[simp]theorem awL:EI Tryz.prog 55=some [(0,1),(1,1),(2,1),(3,1),(4,1),(5,1),(6,1),(7,1),(8,1),(9,1)]:=by kernel_rfl
@[simp]theorem avM:BJ Tryz.prog 55=some 88:=by kernel_rfl
@[simp]theorem axp:qm Tryz.prog 55=some (Value.agg #[.int .i64 0,.int .i64 0,.int .i64 0,.int .i64 0,.int .i64 0,.int .i64 0,.int .i64 0,.int .i64 0,.int .u64 0,.string ⟨#[]⟩]):=by kernel_rfl
@[simp]theorem awi:qE Tryz.prog 57=some false:=by kernel_rfl
@[simp]theorem aw7:kM Tryz.prog 57=some 1:=by kernel_rfl
@[simp]theorem awC:qO Tryz.prog 57=some 87:=by kernel_rfl
@[simp]theorem awj:qE Tryz.prog 58=some false:=by kernel_rfl
@[simp]theorem aw8:kM Tryz.prog 58=some 1:=by kernel_rfl
@[simp]theorem awD:qO Tryz.prog 58=some 124:=by kernel_rfl
@[simp]theorem awk:qE Tryz.prog 59=some false:=by kernel_rfl
@[simp]theorem aw9:kM Tryz.prog 59=some 1:=by kernel_rfl
@[simp]theorem awE:qO Tryz.prog 59=some 112:=by kernel_rfl
@[simp]theorem awl:qE Tryz.prog 61=some true:=by kernel_rfl
@[simp]theorem aw_:kM Tryz.prog 61=some 3:=by kernel_rfl
@[simp]theorem apu:pO Tryz.prog 61 0=some (0,57):=by kernel_rfl
@[simp]theorem apH:pO Tryz.prog 61 1=some (1,58):=by kernel_rfl
@[simp]theorem apP:pO Tryz.prog 61 2=some (2,59):=by kernel_rfl
@[simp]theorem awM:EI Tryz.prog 61=some [(0,1),(1,1),(2,1)]:=by kernel_rfl
@[simp]theorem axq:qm Tryz.prog 61=some (Value.agg #[.slice none 0 0,.slice none 0 0,.slice none 0 0]):=by kernel_rfl
@[simp]theorem apv:pO Tryz.prog 75 0=some (0,22):=by kernel_rfl
@[simp]theorem apI:pO Tryz.prog 75 1=some (1,3):=by kernel_rfl
@[simp]theorem awN:EI Tryz.prog 75=some [(0,1),(1,1)]:=by kernel_rfl
@[simp]theorem axr:qm Tryz.prog 75=some (Value.agg #[.slice none 0 0,.int .i64 0]):=by kernel_rfl
@[simp]theorem awm:qE Tryz.prog 78=some true:=by kernel_rfl
@[simp]theorem axa:kM Tryz.prog 78=some 2:=by kernel_rfl
@[simp]theorem apw:pO Tryz.prog 78 0=some (0,3):=by kernel_rfl
@[simp]theorem apJ:pO Tryz.prog 78 1=some (1,4):=by kernel_rfl
@[simp]theorem awO:EI Tryz.prog 78=some [(0,1),(1,1)]:=by kernel_rfl
@[simp]theorem avN:BJ Tryz.prog 78=some 16:=by kernel_rfl
@[simp]theorem axt:qm Tryz.prog 78=some (Value.agg #[.int .i64 0,.bool false]):=by kernel_rfl
@[simp]theorem awn:qE Tryz.prog 85=some true:=by kernel_rfl
@[simp]theorem axb:kM Tryz.prog 85=some 5:=by kernel_rfl
@[simp]theorem apx:pO Tryz.prog 85 0=some (0,3):=by kernel_rfl
@[simp]theorem apK:pO Tryz.prog 85 1=some (1,3):=by kernel_rfl
@[simp]theorem apQ:pO Tryz.prog 85 2=some (2,3):=by kernel_rfl
@[simp]theorem apT:pO Tryz.prog 85 3=some (3,3):=by kernel_rfl
@[simp]theorem apW:pO Tryz.prog 85 4=some (4,3):=by kernel_rfl
@[simp]theorem awP:EI Tryz.prog 85=some [(0,1),(1,1),(2,1),(3,1),(4,1)]:=by kernel_rfl
@[simp]theorem avO:BJ Tryz.prog 85=some 40:=by kernel_rfl
@[simp]theorem axu:qm Tryz.prog 85=some (Value.agg #[.int .i64 0,.int .i64 0,.int .i64 0,.int .i64 0,.int .i64 0]):=by kernel_rfl
@[simp]theorem awo:qE Tryz.prog 87=some true:=by kernel_rfl
@[simp]theorem axc:kM Tryz.prog 87=some 11:=by kernel_rfl
@[simp]theorem apy:pO Tryz.prog 87 0=some (0,3):=by kernel_rfl
@[simp]theorem awQ:EI Tryz.prog 87=some [(0,1),(1,10)]:=by kernel_rfl
@[simp]theorem avP:BJ Tryz.prog 87=some 96:=by kernel_rfl
@[simp]theorem axv:qm Tryz.prog 87=some (Value.agg #[.int .i64 0,.int .i64 0,.int .i64 0,.int .i64 0,.int .i64 0,.int .i64 0,.int .i64 0,.int .i64 0,.int .i64 0,.int .u64 0,.string ⟨#[]⟩]):=by kernel_rfl
@[simp]theorem awF:qO Tryz.prog 90=some 94:=by kernel_rfl
@[simp]theorem awq:qE Tryz.prog 94=some true:=by kernel_rfl
@[simp]theorem axd:kM Tryz.prog 94=some 2:=by kernel_rfl
@[simp]theorem apz:pO Tryz.prog 94 0=some (0,3):=by kernel_rfl
@[simp]theorem apL:pO Tryz.prog 94 1=some (1,53):=by kernel_rfl
@[simp]theorem awR:EI Tryz.prog 94=some [(0,1),(1,1)]:=by kernel_rfl
@[simp]theorem avQ:BJ Tryz.prog 94=some 16:=by kernel_rfl
@[simp]theorem axw:qm Tryz.prog 94=some (Value.agg #[.int .i64 0,.int .u64 0]):=by kernel_rfl
@[simp]theorem awr:qE Tryz.prog 99=some false:=by kernel_rfl
@[simp]theorem axe:kM Tryz.prog 99=some 1:=by kernel_rfl
@[simp]theorem axx:qm Tryz.prog 99=some Value.nilFunc:=by kernel_rfl
@[simp]theorem atJ:qE Tryz.prog 103=some false:=by kernel_rfl
@[simp]theorem auT:kM Tryz.prog 103=some 1:=by kernel_rfl
@[simp]theorem aul:qO Tryz.prog 103=some 174:=by kernel_rfl
@[simp]theorem atK:qE Tryz.prog 105=some true:=by kernel_rfl
@[simp]theorem auU:kM Tryz.prog 105=some 4:=by kernel_rfl
@[simp]theorem anh:pO Tryz.prog 105 0=some (0,3):=by kernel_rfl
@[simp]theorem anz:pO Tryz.prog 105 1=some (1,3):=by kernel_rfl
@[simp]theorem anP:pO Tryz.prog 105 2=some (2,3):=by kernel_rfl
@[simp]theorem anT:pO Tryz.prog 105 3=some (3,103):=by kernel_rfl
@[simp]theorem auB:EI Tryz.prog 105=some [(0,1),(1,1),(2,1),(3,1)]:=by kernel_rfl
@[simp]theorem arb:BJ Tryz.prog 105=some 48:=by kernel_rfl
@[simp]theorem avm:qm Tryz.prog 105=some (Value.agg #[.int .i64 0,.int .i64 0,.int .i64 0,.slice none 0 0]):=by kernel_rfl
@[simp]theorem atL:qE Tryz.prog 109=some true:=by kernel_rfl
@[simp]theorem auV:kM Tryz.prog 109=some 11:=by kernel_rfl
@[simp]theorem ani:pO Tryz.prog 109 0=some (0,3):=by kernel_rfl
@[simp]theorem anA:pO Tryz.prog 109 1=some (1,55):=by kernel_rfl
@[simp]theorem auC:EI Tryz.prog 109=some [(0,1),(1,10)]:=by kernel_rfl
@[simp]theorem ard:BJ Tryz.prog 109=some 96:=by kernel_rfl
@[simp]theorem avn:qm Tryz.prog 109=some (Value.agg #[.int .i64 0,.int .i64 0,.int .i64 0,.int .i64 0,.int .i64 0,.int .i64 0,.int .i64 0,.int .i64 0,.int .i64 0,.int .u64 0,.string ⟨#[]⟩]):=by kernel_rfl
@[simp]theorem aum:qO Tryz.prog 110=some 109:=by kernel_rfl
@[simp]theorem auW:kM Tryz.prog 112=some 2:=by kernel_rfl
@[simp]theorem auD:EI Tryz.prog 112=some [(0,1),(1,1)]:=by kernel_rfl
@[simp]theorem arf:BJ Tryz.prog 112=some 16:=by kernel_rfl
@[simp]theorem avo:qm Tryz.prog 112=some (Value.agg #[.int .i64 0,.int .u64 0]):=by kernel_rfl
@[simp]theorem atM:qE Tryz.prog 113=some false:=by kernel_rfl
@[simp]theorem auX:kM Tryz.prog 113=some 1:=by kernel_rfl
@[simp]theorem aun:qO Tryz.prog 113=some 122:=by kernel_rfl
@[simp]theorem atN:qE Tryz.prog 115=some true:=by kernel_rfl
@[simp]theorem auY:kM Tryz.prog 115=some 3:=by kernel_rfl
@[simp]theorem anj:pO Tryz.prog 115 0=some (0,53):=by kernel_rfl
@[simp]theorem anB:pO Tryz.prog 115 1=some (1,53):=by kernel_rfl
@[simp]theorem anQ:pO Tryz.prog 115 2=some (2,113):=by kernel_rfl
@[simp]theorem auE:EI Tryz.prog 115=some [(0,1),(1,1),(2,1)]:=by kernel_rfl
@[simp]theorem avp:qm Tryz.prog 115=some (Value.agg #[.int .u64 0,.int .u64 0,.slice none 0 0]):=by kernel_rfl
@[simp]theorem auZ:kM Tryz.prog 120=some 11:=by kernel_rfl
@[simp]theorem anC:pO Tryz.prog 120 1=some (1,55):=by kernel_rfl
@[simp]theorem auF:EI Tryz.prog 120=some [(0,1),(1,10)]:=by kernel_rfl
@[simp]theorem avq:qm Tryz.prog 120=some (Value.agg #[.slice none 0 0,.int .i64 0,.int .i64 0,.int .i64 0,.int .i64 0,.int .i64 0,.int .i64 0,.int .i64 0,.int .i64 0,.int .u64 0,.string ⟨#[]⟩]):=by kernel_rfl
@[simp]theorem atO:qE Tryz.prog 122=some true:=by kernel_rfl
@[simp]theorem au0:kM Tryz.prog 122=some 12:=by kernel_rfl
@[simp]theorem ank:pO Tryz.prog 122 0=some (0,3):=by kernel_rfl
@[simp]theorem anD:pO Tryz.prog 122 1=some (1,120):=by kernel_rfl
@[simp]theorem auG:EI Tryz.prog 122=some [(0,1),(1,11)]:=by kernel_rfl
@[simp]theorem arh:BJ Tryz.prog 122=some 120:=by kernel_rfl
@[simp]theorem avr:qm Tryz.prog 122=some (Value.agg #[.int .i64 0,.slice none 0 0,.int .i64 0,.int .i64 0,.int .i64 0,.int .i64 0,.int .i64 0,.int .i64 0,.int .i64 0,.int .i64 0,.int .u64 0,.string ⟨#[]⟩]):=by kernel_rfl
@[simp]theorem atP:qE Tryz.prog 124=some true:=by kernel_rfl
@[simp]theorem au1:kM Tryz.prog 124=some 3:=by kernel_rfl
@[simp]theorem anl:pO Tryz.prog 124 0=some (0,3):=by kernel_rfl
@[simp]theorem anE:pO Tryz.prog 124 1=some (1,3):=by kernel_rfl
@[simp]theorem auH:EI Tryz.prog 124=some [(0,1),(1,1),(2,1)]:=by kernel_rfl
@[simp]theorem ari:BJ Tryz.prog 124=some 24:=by kernel_rfl
@[simp]theorem avs:qm Tryz.prog 124=some (Value.agg #[.int .i64 0,.int .i64 0,.int .u64 0]):=by kernel_rfl
@[simp]theorem aoI:QH Tryz.prog 128 2=some 4:=by kernel_rfl
@[simp]theorem atQ:qE Tryz.prog 131=some true:=by kernel_rfl
@[simp]theorem au2:kM Tryz.prog 131=some 2:=by kernel_rfl
@[simp]theorem anm:pO Tryz.prog 131 0=some (0,3):=by kernel_rfl
@[simp]theorem anF:pO Tryz.prog 131 1=some (1,3):=by kernel_rfl
@[simp]theorem auI:EI Tryz.prog 131=some [(0,1),(1,1)]:=by kernel_rfl
@[simp]theorem arj:BJ Tryz.prog 131=some 16:=by kernel_rfl
@[simp]theorem avt:qm Tryz.prog 131=some (Value.agg #[.int .i64 0,.int .i64 0]):=by kernel_rfl
@[simp]theorem atS:qE Tryz.prog 143=some true:=by kernel_rfl
@[simp]theorem au3:kM Tryz.prog 143=some 11:=by kernel_rfl
@[simp]theorem ano:pO Tryz.prog 143 0=some (0,3):=by kernel_rfl
@[simp]theorem anG:pO Tryz.prog 143 1=some (1,55):=by kernel_rfl
@[simp]theorem auJ:EI Tryz.prog 143=some [(0,1),(1,10)]:=by kernel_rfl
@[simp]theorem ark:BJ Tryz.prog 143=some 96:=by kernel_rfl
@[simp]theorem avu:qm Tryz.prog 143=some (Value.agg #[.int .i64 0,.int .i64 0,.int .i64 0,.int .i64 0,.int .i64 0,.int .i64 0,.int .i64 0,.int .i64 0,.int .i64 0,.int .u64 0,.string ⟨#[]⟩]):=by kernel_rfl
@[simp]theorem auo:qO Tryz.prog 144=some 143:=by kernel_rfl
@[simp]theorem aup:qO Tryz.prog 145=some 152:=by kernel_rfl
@[simp]theorem atU:qE Tryz.prog 149=some true:=by kernel_rfl
@[simp]theorem au4:kM Tryz.prog 149=some 4:=by kernel_rfl
@[simp]theorem anp:pO Tryz.prog 149 0=some (0,3):=by kernel_rfl
@[simp]theorem anH:pO Tryz.prog 149 1=some (1,3):=by kernel_rfl
@[simp]theorem anR:pO Tryz.prog 149 2=some (2,3):=by kernel_rfl
@[simp]theorem anU:pO Tryz.prog 149 3=some (3,3):=by kernel_rfl
@[simp]theorem auK:EI Tryz.prog 149=some [(0,1),(1,1),(2,1),(3,1)]:=by kernel_rfl
@[simp]theorem arl:BJ Tryz.prog 149=some 32:=by kernel_rfl
@[simp]theorem avv:qm Tryz.prog 149=some (Value.agg #[.int .i64 0,.int .i64 0,.int .i64 0,.int .i64 0]):=by kernel_rfl
@[simp]theorem atV:qE Tryz.prog 152=some true:=by kernel_rfl
@[simp]theorem au5:kM Tryz.prog 152=some 16:=by kernel_rfl
@[simp]theorem anq:pO Tryz.prog 152 0=some (0,149):=by kernel_rfl
@[simp]theorem anI:pO Tryz.prog 152 1=some (4,122):=by kernel_rfl
@[simp]theorem auL:EI Tryz.prog 152=some [(0,4),(4,12)]:=by kernel_rfl
@[simp]theorem arn:BJ Tryz.prog 152=some 152:=by kernel_rfl
@[simp]theorem avw:qm Tryz.prog 152=some (Value.agg #[.int .i64 0,.int .i64 0,.int .i64 0,.int .i64 0,.int .i64 0,.slice none 0 0,.int .i64 0,.int .i64 0,.int .i64 0,.int .i64 0,.int .i64 0,.int .i64 0,.int .i64 0,.int .i64 0,.int .u64 0,.string ⟨#[]⟩]):=by kernel_rfl
@[simp]theorem auq:qO Tryz.prog 156=some 157:=by kernel_rfl
@[simp]theorem atX:qE Tryz.prog 157=some false:=by kernel_rfl
@[simp]theorem au6:kM Tryz.prog 157=some 1:=by kernel_rfl
@[simp]theorem aur:qO Tryz.prog 157=some 4:=by kernel_rfl
@[simp]theorem aro:BJ Tryz.prog 157=some 24:=by kernel_rfl
@[simp]theorem avx:qm Tryz.prog 157=some (Value.slice none 0 0):=by kernel_rfl
@[simp]theorem atY:qE Tryz.prog 161=some false:=by kernel_rfl
@[simp]theorem au7:kM Tryz.prog 161=some 1:=by kernel_rfl
@[simp]theorem aus:qO Tryz.prog 161=some 232:=by kernel_rfl
@[simp]theorem atZ:qE Tryz.prog 171=some false:=by kernel_rfl
@[simp]theorem aoD:QH Tryz.prog 171 1=some 22:=by kernel_rfl
@[simp]theorem at1:qE Tryz.prog 174=some true:=by kernel_rfl
@[simp]theorem au8:kM Tryz.prog 174=some 2:=by kernel_rfl
@[simp]theorem anr:pO Tryz.prog 174 0=some (0,3):=by kernel_rfl
@[simp]theorem anJ:pO Tryz.prog 174 1=some (1,22):=by kernel_rfl
@[simp]theorem auM:EI Tryz.prog 174=some [(0,1),(1,1)]:=by kernel_rfl
@[simp]theorem arp:BJ Tryz.prog 174=some 32:=by kernel_rfl
@[simp]theorem avy:qm Tryz.prog 174=some (Value.agg #[.int .i64 0,.slice none 0 0]):=by kernel_rfl
@[simp]theorem at6:qE Tryz.prog 196=some false:=by kernel_rfl
@[simp]theorem au9:kM Tryz.prog 196=some 1:=by kernel_rfl
@[simp]theorem atA:mpE Tryz.prog 196=some 252:=by kernel_rfl
@[simp]theorem aoA:EX Tryz.prog 196=true:=by kernel_rfl
@[simp]theorem aoE:QH Tryz.prog 196 1=some 252:=by kernel_rfl
@[simp]theorem at7:qE Tryz.prog 198=some true:=by kernel_rfl
@[simp]theorem au_:kM Tryz.prog 198=some 2:=by kernel_rfl
@[simp]theorem ant:pO Tryz.prog 198 0=some (0,196):=by kernel_rfl
@[simp]theorem anK:pO Tryz.prog 198 1=some (1,196):=by kernel_rfl
@[simp]theorem auN:EI Tryz.prog 198=some [(0,1),(1,1)]:=by kernel_rfl
@[simp]theorem avz:qm Tryz.prog 198=some (Value.agg #[.map none,.map none]):=by kernel_rfl
@[simp]theorem aua:qE Tryz.prog 200=some false:=by kernel_rfl
@[simp]theorem ava:kM Tryz.prog 200=some 1:=by kernel_rfl
@[simp]theorem atD:mpE Tryz.prog 200=some 3:=by kernel_rfl
@[simp]theorem aoB:EX Tryz.prog 200=true:=by kernel_rfl
@[simp]theorem aoF:QH Tryz.prog 200 1=some 3:=by kernel_rfl
@[simp]theorem arq:BJ Tryz.prog 200=some 8:=by kernel_rfl
@[simp]theorem avA:qm Tryz.prog 200=some (Value.map none):=by kernel_rfl
@[simp]theorem aut:qO Tryz.prog 209=some 212:=by kernel_rfl
@[simp]theorem apj:alh Tryz.prog 212=some [(0,3),(1,3),(2,3)]:=by kernel_rfl
@[simp]theorem apk:afV Tryz.prog 212=true:=by kernel_rfl
@[simp]theorem aub:qE Tryz.prog 212=some true:=by kernel_rfl
@[simp]theorem avb:kM Tryz.prog 212=some 3:=by kernel_rfl
@[simp]theorem auO:EI Tryz.prog 212=some [(0,1),(1,1),(2,1)]:=by kernel_rfl
@[simp]theorem ars:BJ Tryz.prog 212=some 24:=by kernel_rfl
@[simp]theorem avC:qm Tryz.prog 212=some (Value.agg #[.int .i64 0,.int .i64 0,.int .i64 0]):=by kernel_rfl
@[simp]theorem aoJ:QH Tryz.prog 214 3=some 4:=by kernel_rfl
@[simp]theorem auc:qE Tryz.prog 220=some false:=by kernel_rfl
@[simp]theorem avc:kM Tryz.prog 220=some 1:=by kernel_rfl
@[simp]theorem auu:qO Tryz.prog 220=some 200:=by kernel_rfl
@[simp]theorem aud:qE Tryz.prog 221=some false:=by kernel_rfl
@[simp]theorem avd:kM Tryz.prog 221=some 1:=by kernel_rfl
@[simp]theorem auv:qO Tryz.prog 221=some 224:=by kernel_rfl
@[simp]theorem anu:pO Tryz.prog 223 0=some (0,161):=by kernel_rfl
@[simp]theorem anL:pO Tryz.prog 223 1=some (1,220):=by kernel_rfl
@[simp]theorem anS:pO Tryz.prog 223 2=some (2,221):=by kernel_rfl
@[simp]theorem auP:EI Tryz.prog 223=some [(0,1),(1,1),(2,1)]:=by kernel_rfl
@[simp]theorem avD:qm Tryz.prog 223=some (Value.agg #[.slice none 0 0,.slice none 0 0,.slice none 0 0]):=by kernel_rfl
@[simp]theorem aue:qE Tryz.prog 224=some false:=by kernel_rfl
@[simp]theorem ave:kM Tryz.prog 224=some 1:=by kernel_rfl
@[simp]theorem aoG:QH Tryz.prog 224 1=some 227:=by kernel_rfl
@[simp]theorem aru:BJ Tryz.prog 224=some 8:=by kernel_rfl
@[simp]theorem avE:qm Tryz.prog 224=some (Value.map none):=by kernel_rfl
@[simp]theorem auf:qE Tryz.prog 227=some true:=by kernel_rfl
@[simp]theorem avf:kM Tryz.prog 227=some 2:=by kernel_rfl
@[simp]theorem anv:pO Tryz.prog 227 0=some (0,3):=by kernel_rfl
@[simp]theorem anM:pO Tryz.prog 227 1=some (1,3):=by kernel_rfl
@[simp]theorem auQ:EI Tryz.prog 227=some [(0,1),(1,1)]:=by kernel_rfl
@[simp]theorem avF:qm Tryz.prog 227=some (Value.agg #[.int .i64 0,.int .i64 0]):=by kernel_rfl
@[simp]theorem aug:qE Tryz.prog 228=some false:=by kernel_rfl
@[simp]theorem avg:kM Tryz.prog 228=some 1:=by kernel_rfl
@[simp]theorem avG:qm Tryz.prog 228=some Value.nilFunc:=by kernel_rfl
@[simp]theorem auh:qE Tryz.prog 232=some true:=by kernel_rfl
@[simp]theorem avh:kM Tryz.prog 232=some 3:=by kernel_rfl
@[simp]theorem anw:pO Tryz.prog 232 0=some (0,131):=by kernel_rfl
@[simp]theorem anN:pO Tryz.prog 232 1=some (2,3):=by kernel_rfl
@[simp]theorem auR:EI Tryz.prog 232=some [(0,2),(2,1)]:=by kernel_rfl
@[simp]theorem arv:BJ Tryz.prog 232=some 24:=by kernel_rfl
@[simp]theorem avH:qm Tryz.prog 232=some (Value.agg #[.int .i64 0,.int .i64 0,.int .i64 0]):=by kernel_rfl
@[simp]theorem aui:qE Tryz.prog 236=some false:=by kernel_rfl
@[simp]theorem aty:knd Tryz.prog 236=some .u64:=by kernel_rfl
@[simp]theorem auj:qE Tryz.prog 238=some false:=by kernel_rfl
@[simp]theorem avi:kM Tryz.prog 238=some 1:=by kernel_rfl
@[simp]theorem aoH:QH Tryz.prog 238 1=some 4:=by kernel_rfl
@[simp]theorem avI:qm Tryz.prog 238=some (Value.map none):=by kernel_rfl
@[simp]theorem atE:mpE Tryz.prog 250=some 53:=by kernel_rfl
@[simp]theorem auw:qO Tryz.prog 252=some 254:=by kernel_rfl
@[simp]theorem avJ:qm Tryz.prog 252=some (Value.slice none 0 0):=by kernel_rfl
@[simp]theorem auk:qE Tryz.prog 254=some true:=by kernel_rfl
@[simp]theorem avj:kM Tryz.prog 254=some 2:=by kernel_rfl
@[simp]theorem anx:pO Tryz.prog 254 0=some (0,3):=by kernel_rfl
@[simp]theorem anO:pO Tryz.prog 254 1=some (1,3):=by kernel_rfl
@[simp]theorem auS:EI Tryz.prog 254=some [(0,1),(1,1)]:=by kernel_rfl
@[simp]theorem arw:BJ Tryz.prog 254=some 16:=by kernel_rfl
@[simp]theorem avK:qm Tryz.prog 254=some (Value.agg #[.int .i64 0,.int .i64 0]):=by kernel_rfl
@[simp]theorem auy:qO Tryz.prog 261=some 46:=by kernel_rfl
@[simp]theorem aq7:arE Tryz.prog 270=some (64,5):=by kernel_rfl
@[simp]theorem avR:dB Tryz.prog 4=true:=by kernel_rfl
@[simp]theorem avS:dB Tryz.prog 5=true:=by kernel_rfl
@[simp]theorem avT:dB Tryz.prog 6=true:=by kernel_rfl
@[simp]theorem avU:dB Tryz.prog 7=true:=by kernel_rfl
@[simp]theorem avV:dB Tryz.prog 8=true:=by kernel_rfl
@[simp]theorem avW:dB Tryz.prog 9=true:=by kernel_rfl
@[simp]theorem arD:dB Tryz.prog 10=true:=by kernel_rfl
@[simp]theorem arG:dB Tryz.prog 11=true:=by kernel_rfl
@[simp]theorem arH:dB Tryz.prog 12=true:=by kernel_rfl
@[simp]theorem arI:dB Tryz.prog 13=true:=by kernel_rfl
@[simp]theorem arJ:dB Tryz.prog 14=true:=by kernel_rfl
@[simp]theorem arK:dB Tryz.prog 15=true:=by kernel_rfl
@[simp]theorem arL:dB Tryz.prog 16=true:=by kernel_rfl
@[simp]theorem arM:dB Tryz.prog 17=true:=by kernel_rfl
@[simp]theorem arN:dB Tryz.prog 18=true:=by kernel_rfl
@[simp]theorem arO:dB Tryz.prog 19=true:=by kernel_rfl
@[simp]theorem arP:dB Tryz.prog 20=true:=by kernel_rfl
@[simp]theorem arQ:dB Tryz.prog 21=true:=by kernel_rfl
@[simp]theorem arR:dB Tryz.prog 22=true:=by kernel_rfl
@[simp]theorem arS:dB Tryz.prog 23=true:=by kernel_rfl
@[simp]theorem arT:dB Tryz.prog 24=true:=by kernel_rfl
@[simp]theorem arU:dB Tryz.prog 25=true:=by kernel_rfl
@[simp]theorem arV:dB Tryz.prog 26=true:=by kernel_rfl
@[simp]theorem arW:dB Tryz.prog 27=true:=by kernel_rfl
@[simp]theorem arX:dB Tryz.prog 28=true:=by kernel_rfl
@[simp]theorem arY:dB Tryz.prog 29=true:=by kernel_rfl
@[simp]theorem arZ:dB Tryz.prog 30=true:=by kernel_rfl
@[simp]theorem ar0:dB Tryz.prog 31=true:=by kernel_rfl
@[simp]theorem ar1:dB Tryz.prog 32=true:=by kernel_rfl
@[simp]theorem ar2:dB Tryz.prog 33=true:=by kernel_rfl
@[simp]theorem ar4:dB Tryz.prog 34=true:=by kernel_rfl
@[simp]theorem ar5:dB Tryz.prog 35=true:=by kernel_rfl
@[simp]theorem ar6:dB Tryz.prog 36=true:=by kernel_rfl
@[simp]theorem ar7:dB Tryz.prog 37=true:=by kernel_rfl
@[simp]theorem ar8:dB Tryz.prog 38=true:=by kernel_rfl
@[simp]theorem ar9:dB Tryz.prog 39=true:=by kernel_rfl
@[simp]theorem ar_:dB Tryz.prog 43=true:=by kernel_rfl
@[simp]theorem asa:dB Tryz.prog 44=true:=by kernel_rfl
@[simp]theorem asb:dB Tryz.prog 45=true:=by kernel_rfl
@[simp]theorem ase:dB Tryz.prog 46=true:=by kernel_rfl
@[simp]theorem asf:dB Tryz.prog 47=true:=by kernel_rfl
@[simp]theorem asg:dB Tryz.prog 48=true:=by kernel_rfl
@[simp]theorem ash:dB Tryz.prog 49=true:=by kernel_rfl
@[simp]theorem asi:dB Tryz.prog 50=true:=by kernel_rfl
@[simp]theorem asj:dB Tryz.prog 51=true:=by kernel_rfl
@[simp]theorem asl:dB Tryz.prog 52=true:=by kernel_rfl
@[simp]theorem asn:dB Tryz.prog 53=true:=by kernel_rfl
@[simp]theorem aso:dB Tryz.prog 54=true:=by kernel_rfl
@[simp]theorem asq:dB Tryz.prog 55=true:=by kernel_rfl
@[simp]theorem asr:dB Tryz.prog 56=true:=by kernel_rfl
@[simp]theorem asu:dB Tryz.prog 58=true:=by kernel_rfl
@[simp]theorem asv:dB Tryz.prog 59=true:=by kernel_rfl
@[simp]theorem asw:dB Tryz.prog 61=true:=by kernel_rfl
@[simp]theorem asx:dB Tryz.prog 63=true:=by kernel_rfl
@[simp]theorem asy:dB Tryz.prog 65=true:=by kernel_rfl
@[simp]theorem asz:dB Tryz.prog 69=true:=by kernel_rfl
@[simp]theorem asA:dB Tryz.prog 70=true:=by kernel_rfl
@[simp]theorem asB:dB Tryz.prog 71=true:=by kernel_rfl
@[simp]theorem asC:dB Tryz.prog 72=true:=by kernel_rfl
@[simp]theorem asD:dB Tryz.prog 73=true:=by kernel_rfl
@[simp]theorem asE:dB Tryz.prog 74=true:=by kernel_rfl
@[simp]theorem asF:dB Tryz.prog 75=true:=by kernel_rfl
@[simp]theorem asG:dB Tryz.prog 76=true:=by kernel_rfl
@[simp]theorem asH:dB Tryz.prog 77=true:=by kernel_rfl
@[simp]theorem asI:dB Tryz.prog 78=true:=by kernel_rfl
@[simp]theorem asJ:dB Tryz.prog 79=true:=by kernel_rfl
@[simp]theorem asK:dB Tryz.prog 80=true:=by kernel_rfl
@[simp]theorem asL:dB Tryz.prog 81=true:=by kernel_rfl
@[simp]theorem asM:dB Tryz.prog 82=true:=by kernel_rfl
@[simp]theorem asN:dB Tryz.prog 83=true:=by kernel_rfl
@[simp]theorem asO:dB Tryz.prog 84=true:=by kernel_rfl
@[simp]theorem asP:dB Tryz.prog 85=true:=by kernel_rfl
@[simp]theorem asQ:dB Tryz.prog 86=true:=by kernel_rfl
@[simp]theorem asR:dB Tryz.prog 87=true:=by kernel_rfl
@[simp]theorem asT:dB Tryz.prog 88=true:=by kernel_rfl
@[simp]theorem asU:dB Tryz.prog 89=true:=by kernel_rfl
@[simp]theorem asV:dB Tryz.prog 90=true:=by kernel_rfl
@[simp]theorem asW:dB Tryz.prog 91=true:=by kernel_rfl
@[simp]theorem asX:dB Tryz.prog 92=true:=by kernel_rfl
@[simp]theorem asY:dB Tryz.prog 93=true:=by kernel_rfl
@[simp]theorem asZ:dB Tryz.prog 94=true:=by kernel_rfl
@[simp]theorem as1:dB Tryz.prog 95=true:=by kernel_rfl
@[simp]theorem as2:dB Tryz.prog 96=true:=by kernel_rfl
@[simp]theorem as3:dB Tryz.prog 97=true:=by kernel_rfl
@[simp]theorem as4:dB Tryz.prog 99=true:=by kernel_rfl
@[simp]theorem ap3:dB Tryz.prog 101=true:=by kernel_rfl
@[simp]theorem ap4:dB Tryz.prog 102=true:=by kernel_rfl
@[simp]theorem ap5:dB Tryz.prog 103=true:=by kernel_rfl
@[simp]theorem ap6:dB Tryz.prog 104=true:=by kernel_rfl
@[simp]theorem ap7:dB Tryz.prog 105=true:=by kernel_rfl
@[simp]theorem ap8:dB Tryz.prog 106=true:=by kernel_rfl
@[simp]theorem ap9:dB Tryz.prog 107=true:=by kernel_rfl
@[simp]theorem ap_:dB Tryz.prog 108=true:=by kernel_rfl
@[simp]theorem aqa:dB Tryz.prog 109=true:=by kernel_rfl
@[simp]theorem aqb:dB Tryz.prog 110=true:=by kernel_rfl
@[simp]theorem aqc:dB Tryz.prog 111=true:=by kernel_rfl
@[simp]theorem aqd:dB Tryz.prog 112=true:=by kernel_rfl
@[simp]theorem aqe:dB Tryz.prog 113=true:=by kernel_rfl
@[simp]theorem aqf:dB Tryz.prog 114=true:=by kernel_rfl
@[simp]theorem aqg:dB Tryz.prog 115=true:=by kernel_rfl
@[simp]theorem aqh:dB Tryz.prog 116=true:=by kernel_rfl
@[simp]theorem aqi:dB Tryz.prog 123=true:=by kernel_rfl
@[simp]theorem aqj:dB Tryz.prog 125=true:=by kernel_rfl
@[simp]theorem aqk:dB Tryz.prog 126=true:=by kernel_rfl
@[simp]theorem aql:dB Tryz.prog 127=true:=by kernel_rfl
@[simp]theorem aqm:dB Tryz.prog 129=true:=by kernel_rfl
@[simp]theorem aqn:dB Tryz.prog 130=true:=by kernel_rfl
@[simp]theorem aqo:dB Tryz.prog 131=true:=by kernel_rfl
@[simp]theorem aqp:dB Tryz.prog 132=true:=by kernel_rfl
@[simp]theorem aqr:dB Tryz.prog 133=true:=by kernel_rfl
@[simp]theorem aqs:dB Tryz.prog 134=true:=by kernel_rfl
@[simp]theorem aqt:dB Tryz.prog 135=true:=by kernel_rfl
@[simp]theorem aqu:dB Tryz.prog 136=true:=by kernel_rfl
@[simp]theorem aqv:dB Tryz.prog 137=true:=by kernel_rfl
@[simp]theorem aqw:dB Tryz.prog 138=true:=by kernel_rfl
@[simp]theorem aqx:dB Tryz.prog 139=true:=by kernel_rfl
@[simp]theorem aqy:dB Tryz.prog 140=true:=by kernel_rfl
@[simp]theorem aqz:dB Tryz.prog 141=true:=by kernel_rfl
@[simp]theorem aqA:dB Tryz.prog 142=true:=by kernel_rfl
@[simp]theorem aqB:dB Tryz.prog 143=true:=by kernel_rfl
@[simp]theorem aqC:dB Tryz.prog 144=true:=by kernel_rfl
@[simp]theorem aqD:dB Tryz.prog 145=true:=by kernel_rfl
@[simp]theorem aqE:dB Tryz.prog 146=true:=by kernel_rfl
@[simp]theorem aqF:dB Tryz.prog 151=true:=by kernel_rfl
@[simp]theorem aqG:dB Tryz.prog 152=true:=by kernel_rfl
@[simp]theorem aqH:dB Tryz.prog 153=true:=by kernel_rfl
@[simp]theorem aqI:dB Tryz.prog 155=true:=by kernel_rfl
@[simp]theorem aqJ:dB Tryz.prog 156=true:=by kernel_rfl
@[simp]theorem aqK:dB Tryz.prog 157=true:=by kernel_rfl
@[simp]theorem aqL:dB Tryz.prog 160=true:=by kernel_rfl
@[simp]theorem aqM:dB Tryz.prog 161=true:=by kernel_rfl
@[simp]theorem aqN:dB Tryz.prog 162=true:=by kernel_rfl
@[simp]theorem mixed:Tryz.prog.follows .mixedOrders=true:=by kernel_rfl
end Go.Proofs

namespace Go.Tr
open Go
inductive Ty where
 | int (k:IntKind)
 | bool
 | str
 | sl (e:Ty)
 | st (fs:List Ty)
mutual
def Ty.size:Ty→Nat
 | .st fs=>Ty.sizes fs
 | _=>1
def Ty.sizes:List Ty→Nat
 | []=>0
 | f::fs=>f.size+Ty.sizes fs
end
mutual
def Ty.has:Ty→List D→Prop
 | .int k,ds=>∃n,ds = [.int k n]∧(Lit.int k n).wf=true
 | .bool,ds=>∃b,ds = [.bool b]
 | .str,ds=>∃s:ByteArray,ds = [.str s]∧s.size≤maxLen
 | .sl e,ds=>∃xs,ds = [.sl xs]∧xs.length≤maxLen∧∀x∈xs,e.has x
 | .st fs,ds=>Ty.hass fs ds
def Ty.hass:List Ty→List D→Prop
 | [],ds=>ds = []
 | f::fs,ds=>∃a b,ds=a++b∧f.has a∧Ty.hass fs b
end
mutual
def tyB(P:Program):Ty→TypeId→Bool
 | .int k,t=>match P.underlying t with|some (.int k')=>decide (k'=k)|_=>false
 | .bool,t=>match P.underlying t with|some .bool=>true|_=>false
 | .str,t=>match P.underlying t with|some .string=>true|_=>false
 | .sl e,t=>match P.underlying t with|some (.slice u)=>tyB P e u&&(decide (P.cellsOf u=e.size)&&decide (0<e.size))|_=>false
 | .st fs,t=>match P.underlying t with|some (.struct a)=>akr P fs a.toList 0&&decide (P.cellsOf t=Ty.sizes fs)|_=>false
def akr(P:Program):List Ty→List Field→Nat→Bool
 | [],[],_=>true
 | T::fs,f::l,o=>decide (f.offset=o)&&(decide (P.cellsOf f.type=T.size)&&(tyB P T f.type&&akr P fs l (o+T.size)))
 | _,_,_=>false
end
mutual
theorem Ty.U8:∀(T:Ty) {ds:List D},T.has ds→ds.length=T.size
 | .int k,ds,h=>by obtain⟨n,rfl,_⟩:=h;rfl
 | .bool,ds,h=>by obtain⟨n,rfl⟩:=h;rfl
 | .str,ds,h=>by obtain⟨n,rfl,_⟩:=h;rfl
 | .sl e,ds,h=>by obtain⟨n,rfl,_⟩:=h;rfl
 | .st fs,ds,h=>by exact Ty.XA fs h
theorem Ty.XA:∀(fs:List Ty) {ds:List D},Ty.hass fs ds→ds.length=Ty.sizes fs
 | [],ds,h=>by grind[Ty.hass,Ty.sizes]
 | f::fs,ds,h=>by obtain⟨a,b,rfl,h1,h2⟩:=h;simp only[Ty.sizes,aU,Ty.U8 f h1,Ty.XA fs h2]
end
theorem bD.app{E:En}:∀{a b:List TV} {us vs:List Value},bD E a us→bD E b vs→bD E (a++b) (us++vs)
 | [],b,us,vs,h,g=>by grind[bD]
 | t::a,b,us,vs,h,g=>by obtain⟨u,us',rfl,h1,h2⟩:=h;exact⟨u,_,rfl,h1,bD.app h2 g⟩
theorem ak2(b o m:Nat):(⟨b,o,none⟩:Addr).add m=⟨b,o+m,none⟩:=by simp[Addr.add]
theorem cell_lt{w:World}{a:Addr}{v:Value}(h:w.cell? a=some v):a.block<w.heap.size∧a.spot=none:=by
 simp only[World.cell?]at h;split at h
 ·rename_i hh;refine⟨(aZ.1 hh).1,?_⟩
  simp_all
 trivial
theorem R_{w:World}{b:Nat}:∀{ds:List D} {vs:List Value} {o:Nat},bD (XG w) (ds.map .d) vs→(∀i,i<ds.length→w.cell? ⟨b,o+i,none⟩ = vs[i]?)→dU (XG w) b o ds
 | [],_,_,_,_=>by trivial
 | d::ds,vs,o,h,hc=>by
   obtain⟨u,vs',rfl,h1,h2⟩:=h;have h0:=hc 0 (by simp);refine⟨⟨(cell_lt h0).1,u,h0,by trivial⟩,R_ h2 fun i hi=>?_⟩;have:=hc (i+1) (by simp[*])
   grind
theorem Qg{E:En}{b k:Nat}{p:List D→Prop}:∀(n:Nat) {o:Nat},(∀i,i<n→∃ds,p ds∧ds.length=k∧dU E b (o+i*k) ds)→∃xs:List (List D),xs.length=n∧(∀x∈xs,p x)∧jK E b k o xs
 | 0,o,_=>⟨[],rfl,by simp,by trivial⟩
 | n+1,o,h=>by
   obtain⟨d,h1,h2,h3⟩:=h 0 (by omega);obtain⟨xs,g1,g2,g3⟩:=Qg (p:=p) n (o:=o+k) fun i hi=>by obtain⟨ds,k1,k2,k3⟩:=h (i+1) (by omega);refine⟨ds,k1,k2,?_⟩;rw[show o+k+i*k=o+(i+1)*k by grind];omega
   refine⟨d::xs,by simp[*],by simp_all,?_⟩
   grind[jK]
section
variable {H:Type} {enc:TypeId×Value→H} {P:Program} {w:World} {sp:Nat→Bool} {held:Bool}
mutual
theorem Qu:∀(T:Ty) {t:TypeId} {fuel:Nat} {cs:List Value} {x:DataW H×List MemPlace},tyB P T t=true→DataW.trod enc P w 0 sp held fuel t cs=some x→∃ds,T.has ds∧bD (XG w) (ds.map .d) cs
 | .int k,t,fuel,cs,x,hT,h=>by
   simp only[tyB]at hT;split at hT
   ·rename_i ht;simp only[decide_eq_true_eq]at hT;subst hT;obtain⟨n,rfl,_,hw⟩:=DataW.trod_int ht h;exact⟨[.int _ n],by simp only[Ty.has];exact⟨n,rfl,hw⟩,by simp[bD,aP,Rep]⟩
   trivial
 | .bool,t,fuel,cs,x,hT,h=>by
   simp only[tyB]at hT;split at hT
   ·rename_i ht;obtain⟨n,rfl,_⟩:=DataW.trod_bool ht h;exact⟨[.bool n],by simp only[Ty.has];simp,by simp[bD,aP,Rep]⟩
   trivial
 | .str,t,fuel,cs,x,hT,h=>by
   simp only[tyB]at hT;split at hT
   ·rename_i ht;obtain⟨n,rfl,_,hw⟩:=DataW.trod_string ht h;exact⟨[.str n],by simp only[Ty.has];simp[*],by simp[bD,aP,Rep]⟩
   trivial
 | .sl e,t,fuel,cs,x,hT,h=>by
   simp only[tyB]at hT;split at hT
   ·rename_i u ht;simp only[aG,decide_eq_true_eq]at hT;obtain⟨hu,hk,hk0⟩:=hT;rcases DataW.trod_slice ht h with⟨rfl,_⟩|⟨a,len,cap,elems,rest,n,_,rfl,_,_,hl,hm,hlen,hel,_,_⟩
    ·exact⟨[.sl []],by simp only[Ty.has];simp,by simp only[aC,dQ,bD,aP,Rep];simp⟩
    ·by_cases h0:len=0
     ·subst h0;exact⟨[.sl []],by simp only[Ty.has];simp,by simp only[aC,dQ,bD,aP,Rep];simp⟩
     ·have each:∀i,i<len→∃vs y,w.cells? 0 (a.add (i*P.cellsOf u)) (P.cellsOf u)=some vs∧DataW.trod enc P w 0 sp held n u vs=some y:=fun i hi=>by
       grind[Option.bind_eq_some_iff]
      have hspot:a.spot=none:=by
       obtain⟨vs,y,g1,_⟩:=each 0 (by omega);obtain⟨_,g3,g4⟩:=World.cells?_some g1;have g5:=g4 0 (by omega);have g6:vs[0]? = some vs[0]:=aj (by omega);rw[g6]at g5
       simp only[Nat.zero_mul,Addr.add,if_true]at g5;exact(cell_lt g5).2
      obtain⟨b,o,s⟩:=a;simp only at hspot;subst hspot;obtain⟨xs,x1,x2,x3⟩:=Qg (E:=XG w) (b:=b) (k:=e.size) (p:=e.has) len (o:=o) fun i hi=>by
       obtain⟨vs,y,g1,g2⟩:=each i hi;obtain⟨ds,d1,d2⟩:=Qu e hu g2;obtain⟨_,g3,g4⟩:=World.cells?_some g1;refine⟨ds,d1,e.U8 d1,R_ d2 fun j hj=>?_⟩;rw[e.U8 d1]at hj
       grind[ak2]
      exact⟨[.sl xs],by simp only[Ty.has];grind,by
       simp only[aC,dQ,bD,aP,Rep]
       grind⟩
   trivial
 | .st fs,t,fuel,cs,x,hT,h=>by
   simp only[tyB]at hT;split at hT
   ·rename_i a ht;simp only[aG,decide_eq_true_eq]at hT;obtain⟨hf,hs⟩:=hT;obtain⟨xs,n,_,_,hl,hlen,hel⟩:=DataW.trod_struct ht h;obtain⟨ds,d1,d2⟩:=Ux fs (l:=a.toList) (o:=0) (n:=n) (cs:=cs) hf (fun f hfm=>by
     grind[List.getElem?_of_mem])
    grind[Ty.has]
   trivial
theorem Ux:∀(fs:List Ty) {l:List Field} {o n:Nat} {cs:List Value},akr P fs l o=true→(∀f∈l,∃x,DataW.trod enc P w 0 sp held n f.type ((cs.drop f.offset).take (P.cellsOf f.type))=some x)→
  ∃ds,Ty.hass fs ds∧bD (XG w) (ds.map .d) ((cs.drop o).take (Ty.sizes fs))
 | [],l,o,n,cs,hT,h=>⟨[],by rfl,by rfl⟩
 | T::fs,[],o,n,cs,hT,h=>by trivial
 | T::fs,f::l,o,n,cs,hT,h=>by
   simp only[akr,aG,decide_eq_true_eq]at hT;obtain⟨ho,hk,hu,hr⟩:=hT;obtain⟨x,hx⟩:=h f (by simp);rw[ho,hk]at hx
   obtain⟨d1,a1,a2⟩:=Qu T hu hx;obtain⟨d2,b1,b2⟩:=Ux fs (o:=o+T.size) hr fun g hg=>h g (by simp[hg])
   refine⟨d1++d2,by simp only[Ty.hass];exact⟨_,_,rfl,a1,b1⟩,?_⟩
   grind[Ty.sizes,List.drop_drop,bD.app]
end
def Ty.tv:Ty→List D→TV
 | .st _,ds=>.agg (ds.map .d)
 | _,d::_=>.d d
 | _,[]=>.junk
theorem aiF(T:Ty){t:TypeId}{r:Reach}{b0:Nat}{v:Value}{d:DataW H}{ps:List MemPlace}(hT:tyB P T t=true)(hv:Value.okWide P w r b0 t v)(h:DataW.Trod enc P w 0 sp held t v d ps):
  ∃ds,T.has ds∧aP (XG w) (T.tv ds) v:=by
 obtain⟨fuel,hf⟩:=h;obtain⟨ds,h1,h2⟩:=Qu T hT hf;refine⟨ds,h1,?_⟩;cases T with
 | st fs=>
   simp only[tyB]at hT;split at hT
   ·rename_i a ht;obtain⟨cs,rfl,_⟩:=WideShapes.okWide_struct ht hv;exact⟨cs,rfl,by trivial⟩
   trivial
 | int k=>
   simp only[tyB]at hT;split at hT
   ·rename_i ht;obtain⟨n,rfl⟩:=WideShapes.okWide_int ht hv;obtain⟨m,rfl,_⟩:=h1
    grind[Value.cells,bD,Ty.tv]
   trivial
 | bool=>
   simp only[tyB]at hT;split at hT
   ·rename_i ht;obtain⟨n,rfl⟩:=WideShapes.okWide_bool ht hv;simp only[Ty.has]at h1;obtain⟨m,rfl⟩:=h1
    grind[Value.cells,bD,Ty.tv]
   trivial
 | str=>
   simp only[tyB]at hT;split at hT
   ·rename_i ht;obtain⟨n,rfl⟩:=WideShapes.okWide_string ht hv;simp only[Ty.has]at h1;obtain⟨m,rfl,_⟩:=h1
    grind[Value.cells,bD,Ty.tv]
   trivial
 | sl e=>
   simp only[tyB]at hT;split at hT
   ·rename_i ht;obtain⟨a,len,cap,rfl⟩:=WideShapes.okWide_slice ht hv;simp only[Ty.has]at h1;obtain⟨m,rfl,_⟩:=h1
    grind[Value.cells,bD,Ty.tv]
   trivial
end
end Go.Tr
