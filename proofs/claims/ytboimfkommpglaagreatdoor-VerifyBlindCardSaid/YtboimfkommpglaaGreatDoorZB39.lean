/-
  What functions of the program compute, stated as contracts over plain data; the conditions of each stand in its own statement.
-/
import Derived.Test.YtboimfkommpglaaGreatDoorZB21
import Derived.Test.YtboimfkommpglaaGreatDoorZB19
import Derived.Test.YtboimfkommpglaaGreatDoorZB38
import Derived.Test.YtboimfkommpglaaGreatDoorZB22
import Derived.Test.YtboimfkommpglaaGreatDoorZB23
import Derived.Test.YtboimfkommpglaaGreatDoorZB24
import Derived.Test.YtboimfkommpglaaGreatDoorZB29
import Derived.Test.YtboimfkommpglaaGreatDoorZB11
import Derived.Shelf.SlGeneric
import Derived.Shelf.SortM.SortNone
import Derived.Shelf.SortM.Plain
import Derived.Shelf.SlicesG.CompactI
import Derived.Shelf.SlIterI.Nil
import Derived.Ground.GgzProg
import Derived.Ground.SlgmProg
import Derived.Test.YtboimfkommpglaaGreatDoorChecked
import Derived.Test.YtboimfkommpglaaGreatDoorZB30
set_option linter.unusedVariables false
set_option linter.unusedSimpArgs false
set_option maxRecDepth 100000
set_option maxHeartbeats 8000000
namespace Go.Proofs
open Go Go.Tr
theorem J3{l:List Tb}{q:Int×Pk}{b:Tb}(hf:iq l q.1=some b)(t:uN):stepT l q t=lY t q.1 q.2 (yT b q.2).1:=by simp[stepT,hf,lY]
theorem JZ{l:List Tb}{q:Int×Pk}(hf:iq l q.1=none)(hq:q.2.bits≠0#64)(t:uN):stepT l q t=lY t q.1 q.2 ⟨0#64,q.2.bits,[]⟩:=by simp[stepT,hf,lY,hq,xU,BN]
theorem Yr(l:List Tb)(hl:UY l)(p:Pk)(r:Int):Contract Tryz.prog 44 [.d (.sl (ig l)),mM p,.d (.int .i64 r)] [] (.sZ [C9 (oh l p r).1,.d (.int .i64 (oh l p r).2)]) [] []:=by
 have hfi:=Sj l hl p r;simp only[mM,Pk.cs,List.map]at hfi;refine aC Tryz.func44 rfl (fun E0=>?_);refine iK.sound (g:=.mk) (ow:=[29,1000119]) (kp:=(kb 0x10000020041ffd7)) ?_;rw[Tryz.ntmps44];simp -dsimp[mM,Pk.cs];try refine⟨?_,⟨by kernel_rfl⟩⟩
 refine aF.of hfi [] 0 ?_;by_cases h1:wK l p r=0
 rotate_left
 ·simp -dsimp[h1];try refine⟨?_,⟨by kernel_rfl⟩⟩
  refine Fin.box (.o 6) rfl ?_;simp -dsimp;refine Fin.of ?_;simp[Sr h1,C9,o_]
 simp -dsimp[h1];try refine⟨?_,⟨by kernel_rfl⟩⟩
 obtain⟨hF,hfr,hr⟩:=Sl h1;have hwt:=adU hF.ok;rw[hr];have ZB:wR [(r,p)]=wt p:=by simp[wR]
 refine bY.of [29,1000119] (kb 0x10000020041ffd7) (ι:={z:Nat×Nat×List (Int×Pk)×uN // lK l (wt p) [(r,p)] o_=lK l z.1 (z.2.2.1.drop z.2.1) z.2.2.2∧wR (z.2.2.1.drop z.2.1)≤z.1∧z.2.1+z.1≤8129∧z.2.1≤z.2.2.1.length∧(∀q∈z.2.2.1.drop z.2.1,uU l q.2∧(iq l q.1=none→q.2.bits≠0#64))∧z.2.2.2.dl.length+64*z.1≤600000∧z.2.2.2.cr.length+64*z.1≤600000∧z.2.2.2.ls.length+z.1≤600000})
  (fun z=>[(.s 0,It.v (.d (.sl (ig l)))),(.o 6,It.box [TV.c (Value.slice none 0 0),TV.c (Value.slice none 0 0),TV.c (Value.slice none 0 0)]),(.s 6,It.v (.ptr (.o 6) 0)),(.s 7,It.v (.d (.int .i64 0))),
   (.o 10,It.box [TV.bK 70 z.1.2.2.2.dl.length,TV.bK 71 z.1.2.2.2.cr.length,TV.bK 72 z.1.2.2.2.ls.length]),(.s 10,It.v (.ptr (.o 10) 0)),
   (.o 70,It.row 92 11 (dd (z.1.2.2.2.dl.map uH)) false),(.o 71,It.row 96 3 (dd (z.1.2.2.2.cr.map yH)) false),(.o 72,It.row 176 2 (dd (z.1.2.2.2.ls.map Bq)) false),
   (.o 29,It.row 29 12 (dd (z.1.2.2.1.map Jb)) false),(.s 9,It.v (.bK 29 z.1.2.2.1.length)),(.s 11,It.v (.d (.int .i64 z.1.2.1)))])
  (fun z=>z.1.1) ⟨(wt p,0,[(r,p)],o_),rfl,by simp only[List.drop_zero,ZB];omega,by simp only;omega,by simp,by intro q hq;simp at hq;subst hq;exact⟨hF,fun e=>by simp[e]at hfr⟩,by simp[o_];omega,by simp[o_];omega,by simp[o_];omega⟩ ?_ ?_
 ·refine(GS.WB (.o 10) 0 70 (cs:=[.c (.slice none 0 0),.c (.slice none 0 0),.c (.slice none 0 0)]) 92 11 (by simp) (by simp) (by simp) (by simp)).trans ?_;simp only[oC,Pl.o.injEq,reduceCtorEq,if_false,if_true,Nat.reduceEqDiff,List.set];refine(GS.WB (.o 10) 1 71 (cs:=[.bK 70 0,.c (.slice none 0 0),.c (.slice none 0 0)]) 96 3 (by simp) (by simp) (by simp) (by simp)).trans ?_
  simp only[oC,Pl.o.injEq,reduceCtorEq,if_false,if_true,Nat.reduceEqDiff,List.set];exact GS.AV (.o 10) 2 72 (cs:=[.bK 70 0,.bK 71 0,.c (.slice none 0 0)]) 176 2 (by simp) (by simp) (by simp) (by simp) (by simp[o_,Jb,Pk.cs])
 ·rintro⟨⟨n,i,Q,t⟩,i1,i2,i3,i4,i5,i6,i7,i8⟩;simp only at i1 i2 i3 i4 i5 i6 i7 i8;by_cases hi:i<Q.length
  ·have hiz:(i:Int)<Q.length:=by omega
   have hg:Q[i]? = some Q[i]:=ah hi;have hd:Q.drop i=Q[i]::Q.drop (i+1):=aU hi;generalize Q[i]=q at hg hd;obtain⟨q1,q2⟩:=q;rw[hd]at i1 i2 i5
   rw[BG]at i2
   have hq:=MB l (q1,q2);have hQl:=Hg (Q.drop (i+1));rw[kZ]at hQl
   have hw1:1≤wt q2:=by unfold wt;omega
   simp only at i2 hq;obtain⟨n,rfl⟩:∃j,n=j+1:=⟨n-1,by omega⟩
   rw[lK]at i1
   have hFq:=(i5 (q1,q2) (by simp)).1;have hFb:=(i5 (q1,q2) (by simp)).2;have V5:=Ef l hl q1;have hgr:(dd (Q.map Jb))[i]? = some (TV.d (.int .i64 q1)::TV.d (.sl [])::q2.cs.map .d):=by simp[dd,hg,Jb]
   simp -dsimp[hiz,hgr,Pk.cs];and_intros;all_goals try first|omega|exact⟨by kernel_rfl⟩
   have step:∀(o:Out) (Q':List (Int×Pk)) (i':Int),GS {E0:=E0,N:=70}
     (Tr.look [(.s 0,It.v (.d (.sl (ig l)))),(.o 6,It.box [TV.c (Value.slice none 0 0),TV.c (Value.slice none 0 0),TV.c (Value.slice none 0 0)]),(.s 6,It.v (.ptr (.o 6) 0)),(.s 7,It.v (.d (.int .i64 0))),
      (.o 10,It.box [TV.bK 1900 (lY t q1 q2 o).dl.length,TV.bK 1901 (lY t q1 q2 o).cr.length,TV.bK 1902 (lY t q1 q2 o).ls.length]),(.s 10,It.v (.ptr (.o 10) 0)),
      (.o 1900,It.row 92 11 (dd ((lY t q1 q2 o).dl.map uH)) false),(.o 1901,It.row 96 3 (dd ((lY t q1 q2 o).cr.map yH)) false),(.o 1902,It.row 176 2 (dd ((lY t q1 q2 o).ls.map Bq)) false),
      (.o 29,It.row 29 12 (dd (Q'.map Jb)) false),(.s 9,It.v (.bK 29 Q'.length)),(.s 11,It.v (.d (.int .i64 i')))])
     (Tr.look [(.s 0,It.v (.d (.sl (ig l)))),(.o 6,It.box [TV.c (Value.slice none 0 0),TV.c (Value.slice none 0 0),TV.c (Value.slice none 0 0)]),(.s 6,It.v (.ptr (.o 6) 0)),(.s 7,It.v (.d (.int .i64 0))),
      (.o 10,It.box [TV.bK 70 (lY t q1 q2 o).dl.length,TV.bK 71 (lY t q1 q2 o).cr.length,TV.bK 72 (lY t q1 q2 o).ls.length]),(.s 10,It.v (.ptr (.o 10) 0)),
      (.o 70,It.row 92 11 (dd ((lY t q1 q2 o).dl.map uH)) false),(.o 71,It.row 96 3 (dd ((lY t q1 q2 o).cr.map yH)) false),(.o 72,It.row 176 2 (dd ((lY t q1 q2 o).ls.map Bq)) false),
      (.o 29,It.row 29 12 (dd (Q'.map Jb)) false),(.s 9,It.v (.bK 29 Q'.length)),(.s 11,It.v (.d (.int .i64 i')))]):=fun o Q' i'=>by
    refine GS.trans (GS.ren (a:=1900) (b:=70) (by decide) (by rw[Tr.OH];simp)) ?_;rw[BD (by decide) (by simp)];refine GS.trans (GS.ren (a:=1901) (b:=71) (by decide) (by rw[Tr.OH];simp)) ?_;rw[BD (by decide) (by simp)];exact GS.ren' 1902 72 (by decide) (by simp) (by simp)
   have rest:∀o:Out,o.qy.length≤64→lK l (wt p) [(r,p)] o_=lK l n (Q.drop (i+1)++o.qy) (lY t q1 q2 o)→wR o.qy+1≤wt q2→(∀c∈o.qy,uU l c.2∧(iq l c.1=none→c.2.bits≠0#64))→
     ∃j :{z:Nat×Nat×List (Int×Pk)×uN // lK l (wt p) [(r,p)] o_=lK l z.1 (z.2.2.1.drop z.2.1) z.2.2.2∧wR (z.2.2.1.drop z.2.1)≤z.1∧z.2.1+z.1≤8129∧z.2.1≤z.2.2.1.length∧(∀q∈z.2.2.1.drop z.2.1,uU l q.2∧(iq l q.1=none→q.2.bits≠0#64))∧z.2.2.2.dl.length+64*z.1≤600000∧z.2.2.2.cr.length+64*z.1≤600000∧z.2.2.2.ls.length+z.1≤600000},j.1=(n,i+1,Q++o.qy,lY t q1 q2 o):=fun o ho e1 e2 e3=>by
    have hdrop:(Q++o.qy).drop (i+1)=Q.drop (i+1)++o.qy:=List.drop_append_of_le_length (by omega);have hlv:(xU q1 o q2).length≤64:=by unfold xU;rw[aN];exact tZ _
    refine⟨⟨(n,i+1,Q++o.qy,lY t q1 q2 o),by simp only[hdrop];exact e1,by simp only[hdrop,Fa];omega,by simp only;omega,by simp only[aS];omega,?_,?_,?_,?_⟩,rfl⟩
    ·intro q hq;simp only[hdrop]at hq;rcases aJ.1 hq with hq|hq
     ·exact i5 q (by simp[hq])
     ·exact e3 q hq
    ·simp only[lY,aS];omega
    ·simp only[lY,aS,aN];omega
    ·simp only[lY];split<;>(try simp only[aS,aT,eY])<;>omega
   cases hfd:iq l q1 with
   | none=>
     have eN:nextQ l (q1,q2) = []:=by simp[nextQ,hfd]
     have eS:=JZ (q:=(q1,q2)) hfd (hFb hfd) t;rw[eN,eS]at i1
     obtain⟨jj,hjj⟩:=rest ⟨0#64,q2.bits,[]⟩ (by simp) i1 (by simp[wR];omega) (by simp);rw[hfd]at V5
     simp only[rY,jf,jK,tb0,gQ]at V5;have hnt:=Hz t (by omega) (by omega) (by omega) q1 q2 ⟨0#64,q2.bits,[]⟩ (by simp);simp only[mM,Pk.cs,List.map,outT,CP]at hnt;refine aF.of V5 [] 0 ?_;simp -dsimp[hiz];try refine⟨?_,⟨by kernel_rfl⟩⟩
     refine aF.view [63] ?_;simp -dsimp;try refine⟨?_,⟨by kernel_rfl⟩⟩
     refine aF.of2 hnt [] [(900,70),(901,71),(902,72)] 1000 ?_;simp -dsimp[bv,wrap_i64 (n:=(i:Int)+1) (by omega) (by omega)];and_intros;all_goals try first|omega|exact⟨by kernel_rfl⟩
     refine⟨jj,?_,by rw[hjj];simp⟩;rw[hjj];refine(GS.to ?_).trans (step ⟨0#64,q2.bits,[]⟩ (Q++[]) ((i:Int)+1));simp[bv,Pk.cs]
   | some b2=>
     have hb2:b2.Sm:=hl.t b2 (gG hfd);have hB2:=hFq.all b2 (nO hfd).1;obtain⟨hV1,hV2⟩:=BR hB2;have eN:nextQ l (q1,q2)=(vX b2 q2).qy:=by simp[nextQ,hfd,hV1]
     have eS:=J3 (q:=(q1,q2)) hfd t;have hnf:=MC (q:=(q1,q2)) hFq;have hRI:=(afW.step (l:=l) (q:=(q1,q2)) (Q:=[]) (t:=o_) ⟨fun c hc=>by simp at hc;subst hc;exact⟨hFq,hFb⟩,by simp[o_],by simp[o_],by simp[o_]⟩).fit;rw[gW]at hRI
     rw[eN]at i1 hq hRI
     rw[eS,hV1]at i1
     have hcl:=LG b2 q2;rw[hV1]at hcl
     simp only at hcl i1;have hdo:=aa_ b2 hb2 q2 hB2.ck hFq.ok hB2.len;rw[hfd]at V5
     simp only[rY,bf,kU,gQ]at V5;clear hV1 hV2 eN eS hnf;generalize vX b2 q2=o at i1 hq hRI hcl hdo;obtain⟨jj,hjj⟩:=rest o hcl i1 hq hRI;have hnt:=Hz t (by omega) (by omega) (by omega) q1 q2 o hcl;simp only[mM,Pk.cs,List.map,outT,CP,gQ]at hnt hdo;have hdl:dLen 12 (o.qy.map Jb):=mO 12 _ _ fun _=>rfl
     refine aF.of V5 [] 0 ?_;simp -dsimp[hiz];try refine⟨?_,⟨by kernel_rfl⟩⟩
     refine aF.of hdo [] 0 ?_;simp -dsimp;try refine⟨?_,⟨by kernel_rfl⟩⟩
     refine aF.of2 hnt [] [(900,70),(901,71),(902,72)] 1000 ?_;simp -dsimp[bv,wrap_i64 (n:=(i:Int)+1) (by omega) (by omega)];and_intros;all_goals try first|omega|exact hdl|exact⟨by kernel_rfl⟩
     refine⟨jj,?_,by rw[hjj];simp⟩;rw[hjj];refine(GS.to ?_).trans (step o (Q++o.qy) ((i:Int)+1));simp[bv,Pk.cs]
  ·have hiz :¬(i:Int)<Q.length:=by omega
   have e0:Q.drop i = []:=dJ (by omega);rw[e0,EW]at i1
   simp -dsimp[hiz];try refine⟨?_,⟨by kernel_rfl⟩⟩
   refine Fin.box (.o 6) rfl ?_;simp -dsimp;refine Fin.of ?_;simp[C9,i1]
set_option linter.unusedVariables false
theorem H8{p:Pn}(h:iT p=true){e:Ed}(he:e∈p.es):1≤e.id∧e.id≤256:=by
 simp only[iT,decide_eq_true_eq]at h;obtain⟨_,h2,_⟩:=h;obtain⟨i,hi,rfl⟩:=cu.1 he;have h3:=h2 i hi;have e:gid p.es i=p.es[i].id:=by grind[gid,List.getElem?_eq_getElem]
 simp only[Oc,inB,aP,decide_eq_true_eq]at h3;omega
def agx(p:Pn)(id:Int):Option Ed:=p.es.find? fun e=>decide (e.id=id)
theorem Oe{p:Pn}(h:iT p=true){e:Ed}(he:e∈p.es):agx p e.id=some e:=
 wC he (by simp) fun y hy hq=>xw h hy he (of_decide_eq_true hq)
theorem Lj(l:List Tb)(id pl:Int):∀(t:Nat) (r:Int),(jM l id pl t r).2.2≤t
 | 0,r=>by grind[jM]
 | t+1,r=>by
   rw[jM];cases iq l r with
   | none=>simp
   | some b=>
     have:=Lj l id pl t (qc b id pl)
     grind
section
variable {l:List Tb} {p:Pk} {r:Int}
end
end Go.Proofs

set_option linter.unusedVariables false
namespace Go.Proofs
open Go Go.Tr
theorem Yt(l:List Tb)(hl:Good l)(p:Pk)(r:Int):Contract Tryz.prog 44 [.d (.sl (ig l)),mM p,.d (.int .i64 r)] [] (.sZ [C9 (oh l p r).1,.d (.int .i64 (oh l p r).2)]) [] []:=by
 rcases hl with hl|⟨hb,hA⟩
 ·exact Yr l hl p r
 have hck:=wW l hb;have hR:oh l p r=(o_,1):=by unfold oh;rw[if_pos (.inl hA)]
 have hfi:Contract Tryz.prog 118 [.d (.sl (ig l)),mM p,.d (.int .i64 r)] [] (.d (.int .i64 1)) [] []:=by
  refine aC Tryz.func118 rfl (fun E0=>?_);refine iK.sound (g:=.mk) (ow:=[]) (kp:=(kb 0x80090101d7)) ?_;rw[Tryz.ntmps118];simp -dsimp[mM,Pk.cs];try refine⟨?_,⟨by kernel_rfl⟩⟩
  refine aF.of hck [] 0 ?_;simp -dsimp[hA];try refine⟨?_,⟨by kernel_rfl⟩⟩
  refine Fin.of ?_;simp
 rw[hR];simp only[mM,Pk.cs,List.map]at hfi;refine aC Tryz.func44 rfl (fun E0=>?_);refine iK.sound (g:=.mk) (ow:=[29,1000119]) (kp:=(kb 0x10000020041ffd7)) ?_;rw[Tryz.ntmps44];simp -dsimp[mM,Pk.cs];try refine⟨?_,⟨by kernel_rfl⟩⟩
 refine aF.of hfi [] 0 ?_;simp -dsimp;try refine⟨?_,⟨by kernel_rfl⟩⟩
 refine Fin.box (.o 6) rfl ?_;simp -dsimp;refine Fin.of ?_;simp[C9,o_]
theorem XK{l:List Tb}{id pl:Int}:∀{r:Int} {ws:List Int},Dl l id pl r ws→∀t:Nat,jM l id pl t r=if ws.length≤t then(true,xg r ws,t-ws.length)else(false,xg r (ws.take t),0):=by
 intro r ws h
 induction h with
 | @here r b h1 h2 h3=>
   intro t;cases t with
   | zero=>grind[jM,xg]
   | succ t=>grind[jM,xg]
 | @next r h b ws h1 h2 h3 h4 h5 ih=>
   intro t;cases t with
   | zero=>grind[jM,xg]
   | succ t=>rw[jM,h1];simp only[h2,if_neg h3,if_neg h4];rw[ih t];simp[xg]
def jS(l:List An):List An:=l.filter fun a=>decide (a.kd=1)
def jF(l:List An)(id:Int):List An:=(jS l).filter fun a=>decide (a.id=id)
def oz(l:List An):List Int:=(jS l).foldl (fun s a=>nT s a.id) []
def BP(p:Pn)(ids:List Int)(l:List An):List (List Int):=
 (ids.filter fun id=>!decide (id∈oz l)).map (fun id=>[1,own p id,id,0]) ++
 (((oz l).filter fun id=>!decide (id∈ids)).map (fun id=>[2,((jF l id).getD 0 ⟨0,0,0,0⟩).rt,id,0]) ++
 (((oz l).filter fun id=>decide (1<(jF l id).length)).map (fun id=>[3,((jF l id).getD 1 ⟨0,0,0,0⟩).rt,id,((jF l id).length:Int)]) ++
 ((jS l).filter fun a=>decide (a.rt≠own p a.id)).map (fun a=>[4,own p a.id,a.id,a.rt])))
theorem aer(l:List An):jS (jS l)=jS l:=by simp[jS]
theorem ael(p:Pn)(ids:List Int)(l:List An):BP p ids l=BP p ids (jS l):=by grind[BP,oz,jF,aer]
theorem Du(l:List An):oz l=((jS l).map (·.id)).foldl nT []:=by simp[oz,List.foldl_map]
theorem sK{l:List An}{x:Int}:x∈oz l↔x∈(jS l).map (·.id):=by simp[Du,wO]
theorem JF{p:Pn}{ids:List Int}{l:List An}(h1:∀a∈jS l,a.id∈ids∧a.rt=own p a.id)(h2:((jS l).map (·.id)).Nodup):
  BP p ids l=(ids.filter fun id=>!decide (id∈(jS l).map (·.id))).map fun id=>[1,own p id,id,0]:=by
 have e1:((oz l).filter fun id=>!decide (id∈ids)) = []:=fU.2 fun x hx=>by obtain⟨a,ha,rfl⟩:=ay.1 (sK.1 hx);simp[*]
 have hc:∀x,(jF l x).length≤1:=fun x=>by
  unfold jF;generalize jS l=d at h2
  induction d with
  | nil=>simp
  | cons a d ih=>
    rw[aH,dG]at h2
    rw[dD];split
    ·simp_all
    simp[*]
 have e2:((oz l).filter fun id=>decide (1<(jF l id).length)) = []:=by simp[*]
 have e3:((jS l).filter fun a=>decide (a.rt≠own p a.id)) = []:=by simp_all
 unfold BP;rw[e1,e2,e3];simp[sK]
end Go.Proofs

namespace Go.Proofs
open Go.Shelf
def Tryz.yJ:Go.Shelf.Ren:=⟨fun|7=>138|10=>214|n=>n,fun|23=>146|26=>3|3=>22|28=>199|0=>0|27=>198|33=>37|4=>4|n=>n,fun|n=>n⟩
theorem Tryz.PD:Go.Proofs.SlLaysZI.n7 Tryz.prog Tryz.yJ:={
 mixed:=by kernel_rfl
 f7:=⟨Tryz.f138.name,by decide,Tryz.func138.trans (congrArg some (by kernel_rfl))⟩
 f10:=⟨Tryz.f214.name,by decide,Tryz.func214.trans (congrArg some (by kernel_rfl))⟩
 t0:=Tryz.underlying0
 a0:=Tryz.isAgg0
 z0:=Tryz.sizeOf0
 v0:=Tryz.zeroValue0
 t4:=Tryz.underlying4
 a4:=Tryz.isAgg4
 z4:=Tryz.sizeOf4
 v4:=Tryz.zeroValue4
 t23:=Tryz.underlying146
 a23:=Tryz.isAgg146
 z23:=Tryz.sizeOf146
 v23:=Tryz.zeroValue146
 t26:=Tryz.underlying3
 a26:=Tryz.isAgg3
 z26:=Tryz.sizeOf3
 v26:=Tryz.zeroValue3
 t27:=Tryz.underlying198
 a27:=Tryz.isAgg198
 z27:=Tryz.sizeOf198
 v27:=Tryz.zeroValue198
 t28:=Tryz.underlying199
 a28:=Tryz.isAgg199
 z28:=Tryz.sizeOf199
 v28:=Tryz.zeroValue199
 t33:=Tryz.underlying37
 a33:=Tryz.isAgg37
 z33:=Tryz.sizeOf37
 v33:=Tryz.zeroValue37}
def Tryz.vK:Go.Shelf.Ren:=⟨fun|6=>137|8=>212|9=>213|11=>247|13=>249|12=>248|23=>268|24=>269|14=>259|15=>260|16=>261|17=>262|18=>263|19=>264|20=>265|21=>266|22=>267|25=>280|26=>281|27=>282|28=>283|29=>284|30=>254|31=>296|n=>n,fun|26=>3|28=>199|24=>22|0=>0|3=>3|37=>193|48=>290|50=>23|4=>4|40=>284|39=>283|45=>93|5=>5|9=>9|51=>302|55=>306|57=>315|58=>316|33=>37|n=>n,fun|n=>n⟩
theorem Tryz.LY:Go.Proofs.SlLaysZI.n6 Tryz.prog Tryz.vK:={
 mixed:=by kernel_rfl
 f6:=⟨Tryz.f137.name,by decide,Tryz.func137.trans (congrArg some (by kernel_rfl))⟩
 f8:=⟨Tryz.f212.name,by decide,Tryz.func212.trans (congrArg some (by kernel_rfl))⟩
 f11:=⟨Tryz.f247.name,by decide,Tryz.func247.trans (congrArg some (by kernel_rfl))⟩
 t0:=Tryz.underlying0
 a0:=Tryz.isAgg0
 z0:=Tryz.sizeOf0
 v0:=Tryz.zeroValue0
 t24:=Tryz.underlying22
 a24:=Tryz.isAgg22
 z24:=Tryz.sizeOf22
 v24:=Tryz.zeroValue22
 t26:=Tryz.underlying3
 a26:=Tryz.isAgg3
 z26:=Tryz.sizeOf3
 v26:=Tryz.zeroValue3
 t28:=Tryz.underlying199
 a28:=Tryz.isAgg199
 z28:=Tryz.sizeOf199
 v28:=Tryz.zeroValue199
 i26:=by kernel_rfl}
open Go.Tr
end Go.Proofs

set_option maxHeartbeats 16000000
namespace Go.Proofs
open Go Go.Tr
theorem and1(B:BitVec 64)(i:Nat):B>>>i&&&1#64=if B.getLsbD i=true then 1#64 else 0#64:=by rw[iU,mP,lW];cases B.getLsbD i<;>decide
def fD(k:Nat)(a:Int×Int×Int)(d:Int×Pk):Int×Int×Int:=if d.2.bits.getLsbD k=true then(1,d.1,d.2.ttl)else a
def fL(k:Nat)(a:Int×Int×Int)(x:Int×BitVec 64):Int×Int×Int:=if x.2.getLsbD k=true then(a.1,x.1,a.2.2)else a
def acg(U:uN)(k:Nat):Int×Int×Int:=U.ls.foldl (fL k) (U.dl.foldl (fD k) (2,0,0))
theorem Yj{l:List Tb}{p:Pk}(hF:uU l p)(r:Int){k:Nat}(hk:k<64)(hb:p.bits.getLsbD k=true):
  acg (lK l (wt p) [(r,p)] o_) k=(JR (jM l (lT p k) (lN p) p.ttl.toNat r),(jM l (lT p k) (lN p) p.ttl.toNat r).2.1,ltE (jM l (lT p k) (lN p) p.ttl.toNat r)):=by
 have hW:=Ik hF r hk hb;have h1:∀(L:List (Int×Pk)) (a:Int×Int×Int),L.foldl (fD k) a=(L.filter fun d=>d.2.bits.getLsbD k).foldl (fun _ d=>(1,d.1,d.2.ttl)) a:=fun L a=>by rw[uF];rfl
 have h2:∀(L:List (Int×BitVec 64)) (a:Int×Int×Int),L.foldl (fL k) a=(L.filter fun x=>x.2.getLsbD k).foldl (fun a x=>(a.1,x.1,a.2.2)) a:=fun L a=>by rw[uF];rfl
 unfold acg;rw[h1,h2];have hd:((lK l (wt p) [(r,p)] o_).dl.filter fun d=>d.2.bits.getLsbD k)=((lK l (wt p) [(r,p)] o_).at k).dl:=rfl;have hs:((lK l (wt p) [(r,p)] o_).ls.filter fun x=>x.2.getLsbD k)=((lK l (wt p) [(r,p)] o_).at k).ls:=rfl;rw[hd,hs];have ht:=yB hF.ok;have hle:=Lj l (lT p k) (lN p) p.ttl.toNat r
 generalize jM l (lT p k) (lN p) p.ttl.toNat r=E at hW hle⊢;cases he:E.1 with
 | true=>obtain⟨a1,a2⟩:=hW.yes he;rw[a1,a2];simp only[cO,rD,JR,ltE,he,if_true,pkD,aK,true_and];omega
 | false=>obtain⟨a1,B,a2⟩:=hW.no he;rw[a1,a2];simp[JR,ltE,he]
def pJ(B:BitVec 64)(i:Nat):List Nat:=(List.range i).filter fun k=>B.getLsbD k
theorem NW{B:BitVec 64}{i:Nat}(h:B.getLsbD i=true):pJ B (i+1)=pJ B i++[i]:=by unfold pJ;rw[je,bJ];simp[h]
theorem Rf{B:BitVec 64}{i:Nat}(h:B.getLsbD i=false):pJ B (i+1)=pJ B i:=by unfold pJ;rw[je,bJ];simp[h]
theorem NV(B:BitVec 64)(i:Nat):(pJ B i).length≤i:=aY (aQ _ _) (by simp)
theorem UG(l:List Tb)(hl:Good l)(p:Pk)(r:Int):Contract Tryz.prog 135 [.d (.sl (ig l)),mM p,.d (.int .i64 r)] [] (.sZ [.d (.sl (oW (Iu l p r).1)),.d (.int .i64 (Iu l p r).2)]) [] []:=by
 have h1:=Yt l hl p r;have hfit:=UA (l:=l) (p:=p) (r:=r);have hsm:=O5 l p r;have hS:Iu l p r=if(oh l p r).2≠0 then([],(oh l p r).2)else if p.mode≠3 then([],7)else if yF p=true then(KH l p r,0)else([],2):=rfl
 rw[hS];simp only[mM,Pk.cs,List.map,C9]at h1;refine aC Tryz.func135 rfl (fun E0=>?_);refine iK.sound (g:=.mk) (ow:=[10]) (kp:=(kb 0x201e00401e20040288057fd7)) ?_;rw[Tryz.ntmps135];simp -dsimp[mM,Pk.cs]
 try refine⟨?_,⟨by kernel_rfl⟩⟩
 refine aF.of h1 [] 0 ?_;by_cases he :¬(oh l p r).2=0
 ·rw[if_pos he];simp -dsimp[he];and_intros;all_goals try first|omega|exact⟨by kernel_rfl⟩|rfl
  refine Fin.view 6 ?_;simp -dsimp;and_intros;all_goals try first|omega|exact⟨by kernel_rfl⟩|rfl
  refine Fin.of ?_;simp[oW]
 have he:(oh l p r).2=0:=Decidable.not_not.1 he;rw[if_neg (fun h=>h he)];by_cases hm :¬p.mode=3
 ·rw[if_pos hm];simp -dsimp[he,hm];and_intros;all_goals try first|omega|exact⟨by kernel_rfl⟩|rfl
  refine Fin.view 6 ?_;simp -dsimp;and_intros;all_goals try first|omega|exact⟨by kernel_rfl⟩|rfl
  refine Fin.of ?_;simp[oW]
 have hm:p.mode=3:=Decidable.not_not.1 hm;rw[if_neg (fun h=>h hm)];obtain⟨hF,hs,hR⟩:=hfit he;rw[hR]at hsm⊢
 have hrA:=fun {k:Nat} (hk:k<64) (hb:p.bits.getLsbD k=true)=>Yj hF r hk hb
 have akX:KH l p r=(pJ p.bits 64).map (zV l p r):=rfl;rw[akX];simp -dsimp[he,hm,hR];and_intros;all_goals try first|omega|exact⟨by kernel_rfl⟩|rfl
 generalize lK l (wt p) [(r,p)] o_=U at hsm hrA;simp only at hsm;refine bY.of [10] (kb 0x201e00401e20040288057fd7) (ι:={i:Nat // i≤64∧∀k∈pJ p.bits i,Au p.set k p.len=true})
  (fun z=>[(.o 4,It.box (p.cs.map .d)),(.s 4,It.v (.ptr (.o 4) 0)),(.s 6,It.v (.c (Value.slice none 0 0))),(.s 7,It.v (.d (.int .i64 0))),(.o 8,It.box [TV.d (.sl (U.dl.map uH)),TV.d (.sl (U.cr.map yH)),TV.d (.sl (U.ls.map Bq))]),(.s 8,It.v (.ptr (.o 8) 0)),(.s 10,It.v (.bK 10 ((pJ p.bits z.1).map (zV l p r)).length)),(.o 10,It.row 120 4 (dd (oW ((pJ p.bits z.1).map (zV l p r)))) false),(.s 11,It.v (.d (.int .i64 z.1)))])
  (fun z=>64-z.1) ⟨0,by omega,by simp[pJ]⟩ ?_ ?_
 ·exact GS.own' (k:=10) 120 4 (by simp) (by simp) (by simp[pJ,oW,Pk.cs,hm])
 rintro⟨i,i1,i2⟩;have hbl:=NV p.bits i;by_cases hi:i<64
 ·have hiz:(i:Int)<64:=by omega
  have ha1:=and1 p.bits i;cases hb:p.bits.getLsbD i with
  | false=>
    rw[if_neg (by simp[hb])]at ha1
    have hs2:=Rf hb;simp -dsimp[hi,hiz,ha1,Pk.cs,bv,wrap_u64 (n:=(i:Int)) (by omega) (by omega),wrap_i64 (n:=(i:Int)+1) (by omega) (by omega)];and_intros;all_goals try first|omega|exact⟨by kernel_rfl⟩|rfl
    exact⟨⟨i+1,by omega,by rw[hs2];exact i2⟩,GS.to (by simp[hs2,Pk.cs,bv]),by simp;omega⟩
  | true=>
    rw[if_pos hb]at ha1
    have hs2:=NW hb;have hat:=Jv p.set i p.len;simp only[Gx]at hat;have hrk:=hrA hi hb;simp -dsimp[hi,hiz,ha1,Pk.cs,bv,wrap_u64 (n:=(i:Int)) (by omega) (by omega)];and_intros;all_goals try first|omega|exact⟨by kernel_rfl⟩|rfl
    refine aF.of hat [] 0 ?_;rcases (au (Au p.set i p.len)).symm with hA|hA
    ·have hno :¬yF p=true:=fun h=>by
      have:=dN.1 h i (nP.2 ⟨hi,hb⟩);rw[hA]at this;simp at this
     rw[if_neg hno];simp -dsimp[hA];and_intros;all_goals try first|omega|exact⟨by kernel_rfl⟩|rfl
     refine Fin.view 6 ?_;simp -dsimp;and_intros;all_goals try first|omega|exact⟨by kernel_rfl⟩|rfl
     refine Fin.of ?_;simp[oW]
    ·have hid:lT p i=p.set*p.len+(i:Int)+1:=by unfold lT;rw[if_pos hA]
     simp -dsimp[hA];and_intros;all_goals try first|omega|exact⟨by kernel_rfl⟩|rfl
     refine bY.of [10] (kb 0x201e00401e20040288057fd7) (ι:={j:Nat // j≤U.dl.length})
      (fun z=>[(.o 4,It.box (p.cs.map .d)),(.s 4,It.v (.ptr (.o 4) 0)),(.s 6,It.v (.c (Value.slice none 0 0))),(.s 7,It.v (.d (.int .i64 0))),(.o 8,It.box [TV.d (.sl (U.dl.map uH)),TV.d (.sl (U.cr.map yH)),TV.d (.sl (U.ls.map Bq))]),(.s 8,It.v (.ptr (.o 8) 0)),(.s 10,It.v (.bK 10 ((pJ p.bits i).map (zV l p r)).length)),(.o 10,It.row 120 4 (dd (oW ((pJ p.bits i).map (zV l p r)))) false),(.s 11,It.v (.d (.int .i64 i))),(.o 14,It.box [TV.d (.int .i64 ((U.dl.take z.1).foldl (fD i) (2,0,0)).1),TV.d (.int .i64 ((U.dl.take z.1).foldl (fD i) (2,0,0)).2.1),TV.d (.int .i64 (lT p i)),TV.d (.int .i64 ((U.dl.take z.1).foldl (fD i) (2,0,0)).2.2)]),(.s 14,It.v (.ptr (.o 14) 0)),(.s 57,It.v (.d (.sl (U.dl.map uH)))),(.s 58,It.v (.d (.int .i64 U.dl.length))),(.s 59,It.v (.d (.int .i64 z.1)))])
      (fun z=>U.dl.length-z.1) ⟨0,by omega⟩ ?_ ?_
     ·exact GS.to (by simp[Pk.cs,bv,hid])
     rintro⟨j,j1⟩;by_cases hj:j<U.dl.length
     ·have hjz:(j:Int)<U.dl.length:=by omega
      have hge:U.dl[j]? = some U.dl[j]:=ah hj;obtain⟨d,hd0⟩:∃d,U.dl[j]=d:=⟨_,rfl⟩
      rw[hd0]at hge
      have hst:(U.dl.take (j+1)).foldl (fD i) (2,0,0)=fD i ((U.dl.take j).foldl (fD i) (2,0,0)) d:=by rw[aO,hge,g_];rfl
      have ha2:=and1 d.2.bits i;generalize (U.dl.take j).foldl (fD i) (2,0,0)=a at hst;cases hdb:d.2.bits.getLsbD i with
      | false=>
        rw[if_neg (by simp[hdb])]at ha2
        have hst2:fD i a d=a:=by unfold fD;rw[if_neg (by simp[hdb])]
        rw[hst2]at hst
        simp -dsimp[hj,hjz,hge,hd0,uH,Pk.cs,bv,ha2,wrap_u64 (n:=(i:Int)) (by omega) (by omega),wrap_i64 (n:=(j:Int)+1) (by omega) (by omega)];and_intros;all_goals try first|omega|exact⟨by kernel_rfl⟩|rfl
        exact⟨⟨j+1,by omega⟩,GS.to (by simp[hst,Pk.cs,bv]),by simp;omega⟩
      | true=>
        rw[if_pos hdb]at ha2
        have hst2:fD i a d=(1,d.1,d.2.ttl):=by unfold fD;rw[if_pos hdb]
        rw[hst2]at hst
        simp -dsimp[hj,hjz,hge,hd0,uH,Pk.cs,bv,ha2,wrap_u64 (n:=(i:Int)) (by omega) (by omega),wrap_i64 (n:=(j:Int)+1) (by omega) (by omega)];and_intros;all_goals try first|omega|exact⟨by kernel_rfl⟩|rfl
        exact⟨⟨j+1,by omega⟩,GS.to (by simp[hst,Pk.cs,bv]),by simp;omega⟩
     have hjz :¬(j:Int)<U.dl.length:=by omega
     obtain rfl:j=U.dl.length:=by omega
     simp only[bP];unfold acg at hrk;generalize U.dl.foldl (fD i) (2,0,0)=a at hrk;simp -dsimp[hjz];and_intros;all_goals try first|omega|exact⟨by kernel_rfl⟩|rfl
     refine bY.of [10] (kb 0x201e00401e20040288057fd7) (ι:={j:Nat // j≤U.ls.length})
      (fun z=>[(.o 4,It.box (p.cs.map .d)),(.s 4,It.v (.ptr (.o 4) 0)),(.s 6,It.v (.c (Value.slice none 0 0))),(.s 7,It.v (.d (.int .i64 0))),(.o 8,It.box [TV.d (.sl (U.dl.map uH)),TV.d (.sl (U.cr.map yH)),TV.d (.sl (U.ls.map Bq))]),(.s 8,It.v (.ptr (.o 8) 0)),(.s 10,It.v (.bK 10 ((pJ p.bits i).map (zV l p r)).length)),(.o 10,It.row 120 4 (dd (oW ((pJ p.bits i).map (zV l p r)))) false),(.s 11,It.v (.d (.int .i64 i))),(.o 14,It.box [TV.d (.int .i64 ((U.ls.take z.1).foldl (fL i) a).1),TV.d (.int .i64 ((U.ls.take z.1).foldl (fL i) a).2.1),TV.d (.int .i64 (lT p i)),TV.d (.int .i64 ((U.ls.take z.1).foldl (fL i) a).2.2)]),(.s 14,It.v (.ptr (.o 14) 0)),(.s 81,It.v (.d (.sl (U.ls.map Bq)))),(.s 82,It.v (.d (.int .i64 U.ls.length))),(.s 83,It.v (.d (.int .i64 z.1)))])
      (fun z=>U.ls.length-z.1) ⟨0,by omega⟩ ?_ ?_
     ·exact GS.to (by simp[Pk.cs,bv])
     rintro⟨j,j1⟩;by_cases hj:j<U.ls.length
     ·have hjz:(j:Int)<U.ls.length:=by omega
      have hge:U.ls[j]? = some U.ls[j]:=ah hj;obtain⟨d,hd0⟩:∃d,U.ls[j]=d:=⟨_,rfl⟩
      rw[hd0]at hge
      have hst:(U.ls.take (j+1)).foldl (fL i) a=fL i ((U.ls.take j).foldl (fL i) a) d:=by rw[aO,hge,g_];rfl
      have ha2:=and1 d.2 i;generalize (U.ls.take j).foldl (fL i) a=a' at hst;cases hdb:d.2.getLsbD i with
      | false=>
        rw[if_neg (by simp[hdb])]at ha2
        have hst2:fL i a' d=a':=by unfold fL;rw[if_neg (by simp[hdb])]
        rw[hst2]at hst
        simp -dsimp[hj,hjz,hge,hd0,Bq,bv,ha2,wrap_u64 (n:=(i:Int)) (by omega) (by omega),wrap_i64 (n:=(j:Int)+1) (by omega) (by omega)];and_intros;all_goals try first|omega|exact⟨by kernel_rfl⟩|rfl
        exact⟨⟨j+1,by omega⟩,GS.to (by simp[hst,Pk.cs,bv]),by simp;omega⟩
      | true=>
        rw[if_pos hdb]at ha2
        have hst2:fL i a' d=(a'.1,d.1,a'.2.2):=by unfold fL;rw[if_pos hdb]
        rw[hst2]at hst
        simp -dsimp[hj,hjz,hge,hd0,Bq,bv,ha2,wrap_u64 (n:=(i:Int)) (by omega) (by omega),wrap_i64 (n:=(j:Int)+1) (by omega) (by omega)];and_intros;all_goals try first|omega|exact⟨by kernel_rfl⟩|rfl
        exact⟨⟨j+1,by omega⟩,GS.to (by simp[hst,Pk.cs,bv]),by simp;omega⟩
     have hjz :¬(j:Int)<U.ls.length:=by omega
     obtain rfl:j=U.ls.length:=by omega
     simp only[bP,hrk];have hak:zV l p r i = [JR (jM l (lT p i) (lN p) p.ttl.toNat r),(jM l (lT p i) (lN p) p.ttl.toNat r).2.1,lT p i,ltE (jM l (lT p i) (lN p) p.ttl.toNat r)]:=KG _ _;generalize jM l (lT p i) (lN p) p.ttl.toNat r=E at hak;have hil:(oW ((pJ p.bits i).map (zV l p r))).length=(pJ p.bits i).length:=by simp[oW]
     simp -dsimp[hjz,hil,wrap_i64 (n:=(i:Int)+1) (by omega) (by omega)];and_intros;all_goals try first|omega|exact⟨by kernel_rfl⟩|rfl|(simp[oW];done)|(simp[oW];omega)
     exact⟨⟨i+1,by omega,fun k hk=>by
      rw[hs2]at hk
      rcases aJ.1 hk with hk|hk
      ·exact i2 k hk
      ·obtain rfl:=bn.1 hk;exact hA⟩,GS.to (by simp[hs2,hak,oW,Pk.cs,bv]),by simp;omega⟩
 have hiz :¬(i:Int)<64:=by omega
 obtain rfl:i=64:=by omega
 have hA:yF p=true:=dN.2 fun k hk=>i2 k hk
 rw[if_pos hA];simp -dsimp[hiz];and_intros;all_goals try first|omega|exact⟨by kernel_rfl⟩|rfl
 refine Fin.view 6 ?_;simp -dsimp;and_intros;all_goals try first|omega|exact⟨by kernel_rfl⟩|rfl|(simp[oW];done)
 refine Fin.of ?_;simp[oW]
theorem MJ(l:List Tb)(hl:Good l)(r id en ttl:Int):Contract Tryz.prog 60 [.d (.sl (ig l)),.d (.int .i64 r),.d (.int .i64 id),.d (.int .i64 en),.d (.int .i64 ttl)] [] (.sZ [uX (decide (qI l r id en ttl=0)) (jM l id (en%8) ttl.toNat r) id,.d (.int .i64 (qI l r id en ttl))]) [] []:=by
 have hck:=wW l hl.big;refine aC Tryz.func60 rfl (fun E0=>?_);refine iK.sound (g:=.mk) (ow:=[]) (kp:=(kb 0x100000040000000804ffc1f)) ?_;rw[Tryz.ntmps60];simp -dsimp;and_intros;all_goals try first|omega|exact⟨by kernel_rfl⟩|rfl
 refine aF.of hck [] 0 ?_;by_cases hA :¬tK l=0
 ·have hB:qI l r id en ttl=1:=by unfold qI;rw[if_pos hA]
  rw[hB];simp -dsimp[hA];and_intros;all_goals try first|omega|exact⟨by kernel_rfl⟩|rfl
  refine Fin.of ?_;simp[uX]
 have hA:tK l=0:=Decidable.not_not.1 hA;have hf:=Ef l (hl.sm hA) r;cases Zw:iq l r with
 | none=>
   have hB:qI l r id en ttl=4:=by unfold qI;rw[if_neg (by simp[hA]),Zw]
   rw[hB];rw[Zw]at hf
   simp only[rY,jf,jK,gQ,tb0]at hf;simp -dsimp[hA];and_intros;all_goals try first|omega|exact⟨by kernel_rfl⟩|rfl
   refine aF.of hf [] 0 ?_;simp -dsimp;and_intros;all_goals try first|omega|exact⟨by kernel_rfl⟩|rfl
   refine Fin.of ?_;simp[uX]
 | some b=>
   rw[Zw]at hf
   simp only[rY,bf,kU,gQ]at hf;have hpl:=WM id b.len;simp only[AA]at hpl;have hB:qI l r id en ttl=if(dQ b.len&&inB id 1 256)=false∨31<sS id b.len∨en<0∨1023<en∨ttl<0∨63<ttl then 2 else 0:=by unfold qI;rw[if_neg (by simp[hA]),Zw]
   simp -dsimp[hA];and_intros;all_goals try first|omega|exact⟨by kernel_rfl⟩|rfl
   refine aF.of hf [] 0 ?_;simp -dsimp;and_intros;all_goals try first|omega|exact⟨by kernel_rfl⟩|rfl
   refine aF.of hpl [] 0 ?_;rcases (au (dQ b.len&&inB id 1 256)).symm with hv|hv
   ·rw[if_pos (by simp[hv])]at hB
    rw[hB];simp -dsimp[hv];and_intros;all_goals try first|omega|exact⟨by kernel_rfl⟩|rfl
    refine Fin.of ?_;simp[uX]
   ·by_cases hs:31<sS id b.len
    ·rw[if_pos (by simp[hv,hs])]at hB
     rw[hB];simp -dsimp[hv,hs];and_intros;all_goals try first|omega|exact⟨by kernel_rfl⟩|rfl
     refine Fin.of ?_;simp[uX]
    by_cases he0:en<0
    ·rw[if_pos (by simp[hv,hs,he0])]at hB
     rw[hB];simp -dsimp[hv,hs,he0];and_intros;all_goals try first|omega|exact⟨by kernel_rfl⟩|rfl
     refine Fin.of ?_;simp[uX]
    by_cases he1:1023<en
    ·rw[if_pos (by simp[hv,hs,he0,he1])]at hB
     rw[hB];simp -dsimp[hv,hs,he0,he1];and_intros;all_goals try first|omega|exact⟨by kernel_rfl⟩|rfl
     refine Fin.of ?_;simp[uX]
    by_cases ht0:ttl<0
    ·rw[if_pos (by simp[hv,hs,he0,he1,ht0])]at hB
     rw[hB];simp -dsimp[hv,hs,he0,he1,ht0];and_intros;all_goals try first|omega|exact⟨by kernel_rfl⟩|rfl
     refine Fin.of ?_;simp[uX]
    by_cases ht1:63<ttl
    ·rw[if_pos (by simp[hv,hs,he0,he1,ht0,ht1])]at hB
     rw[hB];simp -dsimp[hv,hs,he0,he1,ht0,ht1];and_intros;all_goals try first|omega|exact⟨by kernel_rfl⟩|rfl
     refine Fin.of ?_;simp[uX]
    rw[if_neg (by simp[hv];omega)]at hB
    rw[hB];have hS:=UG l hl (xk b id en ttl) r;rw[ab2 hA Zw hv ⟨by omega,by omega⟩ ⟨by omega,by omega⟩,KG]at hS
    simp only[mM,Pk.cs,xk,List.map,oW,bv]at hS;have hpb:=plB id b.len;have hsh:(1#64<<<(rC id b.len).toNat)=wV (rC id b.len):=by unfold wV;rw[if_neg (by omega),wrap_u64 (by omega) (by omega)]
    simp -dsimp[hv,hs,he0,he1,ht0,ht1,hsh,wrap_u64 (n:=rC id b.len) (by omega) (by omega)];and_intros;all_goals try first|omega|exact⟨by kernel_rfl⟩|rfl
    refine aF.of hS [] 0 ?_;simp -dsimp;and_intros;all_goals try first|omega|exact⟨by kernel_rfl⟩|rfl|exact hsh
    refine Fin.of ?_;simp[uX]
theorem rX{α β:Type}{q:α→Bool}{f:α→β}{l:List α}{i:Nat}{x:α}(h:l[i]? = some x):((l.take (i+1)).filter q).map f=((l.take i).filter q).map f++if q x=true then [f x]else []:=by
 rw[aO,h,bJ,fH]
 congr 1
 show List.map f ([x].filter q)=_
 rw[dD];split<;>rfl
theorem nV{α β:Type}(q:α→Bool)(f:α→β)(l:List α):((l.filter q).map f).length≤l.length:=by rw[aN];exact aQ _ _
theorem yX{l:List An}{i:Nat}{a:An}(h:l[i]? = some a):(ans l)[i]? = some (BJ a):=by simp[ans,h]
theorem LP(l:List Int)(n:Int):(nT l n).length≤l.length+1:=by
 unfold nT;split
 ·omega
 ·simp only[aS,bF,kZ,aT,eY];omega
theorem Ad(l:List An):(oz l).length≤l.length:=by
 have key:∀(d:List An) (s:List Int),(d.foldl (fun s a=>nT s a.id) s).length≤s.length+d.length:=fun d=>by
  induction d with
  | nil=>intro s;simp
  | cons a d ih=>intro s;have h1:=ih (nT s a.id);have h2:=LP s a.id;rw[cO,aT];omega
 have h1:=key (jS l) [];have h2:(jS l).length≤l.length:=aQ _ _;unfold oz;simp only[eY]at h1;omega
def asQ(l:List Int):Bool:=!pV (fun x y:Int=>decide (y≤x)) l
noncomputable def Gy(p:Pn)(ids:List Int):Int:=if iT p=false then 1 else if asQ ids=false then 25 else if ids.any (fun id=>decide (own p id=0))=true then 4 else 0
noncomputable def vI(p:Pn)(ids:List Int)(l:List An):List (List Int)×Int:=if Gy p ids=0 then(BP p ids l,0)else([],Gy p ids)
theorem Bo{l:List An}{id:Int}(h:id∈oz l):0<(jF l id).length:=by obtain⟨a,ha,e⟩:=ay.1 (sK.1 h);exact jr (a:=a) (bG.2 ⟨ha,by simpa using e⟩)
end Go.Proofs

namespace Go.Tr
open Go Go.Proofs
theorem Eu(es:List (List Int×TV)):(qW es).length=es.length:=by simp[qW]
theorem yN{a b:List Int}(h:a.Perm b):(a.mergeSort fun x y=>decide (x≤y))=b.mergeSort fun x y=>decide (x≤y):=by grind[List.Perm.eq_of_pairwise,List.pairwise_mergeSort,List.mergeSort_perm]
theorem Ez{E:En}{es:List (List Int×TV)}{l' l:List MapEntry}(hp:l'.Perm l)(h:nH E es l')(hk:∀x∈es,x.1.length=1):∃ks:List Int,l.map (·.key)=ks.map (Value.int .i64)∧ks.Perm (es.map fun x=>x.1.headD 0):=by
 have key:∀x∈es,jX x.1=Value.int .i64 (x.1.headD 0):=fun x hx=>by
  have:=hk x hx
  match e:x.1,this with
  | [k],_=>rfl
 have h1:=EC h
 let f:MapEntry→Int:=fun a=>match a.key with|.int _ n=>n|_=>0
 have h2:∀a∈l',a.key=Value.int .i64 (f a):=by grind[List.mem_map_of_mem]
 refine⟨l.map f,?_,?_⟩
 ·grind[List.map_congr_left]
 ·have h3:l'.map (fun a=>Value.int .i64 (f a))=es.map fun x=>Value.int .i64 (x.1.headD 0):=by grind[List.map_congr_left]
  have h4:=congrArg (List.map fun v:Value=>match v with|.int _ n=>n|_=>0) h3
  grind[Function.comp_def]
section
variable {P:Program} {A:jL} {ops:Array Oper}
theorem Sum.sortedK{t:S}{i d:Nat}{o:Oper}{gp:List Pl}{fo x:Operand}{tys:Array TypeId}{f fK g:FuncId}{e:TypeId}{id:Nat}{p:Pl}{es:List (List Int×TV)}{c:Nat}{pd:Option (List Int)}{sn:Option oO}
  (ho:ops[i]? = some o) (hg:gv ops t o=some (gp,true)) (hd:qj A.N o=true) (hop:o.op = .call {callee:=.value fo,args:=#[x],argTypes:=tys}) (hf:ev t fo = .clo f []) (hfn:dP P f=true)
  (C:DY P fK f g e) (hx:ev t x = .clo g [.ptr p 0]) (hpl:vY p=true) (hp:t p = .box [.mref id]) (hm:t (.o id) = .jA es c pd sn) (hk:∀x∈es,x.1.length=1∧I64 (x.1.headD 0)) (hl:es.length≤1000000) (ht:t (.o d) = .none) :
  Sum P A ops i t (gp++(pl fo++(pl x++[p,.o id,.o d]))) (wF o (.bK d es.length) [(.o d,.row e 1 (dd (fE .i64 (qW es))) false)]):=fun t' hr a w ⟨E,hw,hi⟩ K Q hK=>by
 subst hw;have hwant:=oQ hg (dw hr) hi;have hr1:=bg hr;have hr2:=bg hr1;have hr3:=bg hr2;have hfo:ev t' fo = .clo f []:=(fZ (dw hr1)).trans hf;have hx':ev t' x = .clo g [.ptr p 0]:=(fZ (dw hr2)).trans hx;have hp':t' p = .box [.mref id]:=(hr3 _ (by simp)).trans hp;have hm':t' (.o id) = .jA es c pd sn:=(hr3 _ (by simp)).trans hm
 have ht':t' (.o d) = .none:=(hr3 _ (by simp)).trans ht;have hfr:=dS hi fo;rw[hfo]at hfr
 simp only[aV,b_]at hfr;obtain⟨vF,Cb,wY⟩:=hfr;obtain rfl:vF = #[]:=by cases vF;simpa using wY
 have hxr:=dS hi x;rw[hx']at hxr
 simp only[aV,b_]at hxr;obtain⟨us,hu,u0,us',hus,⟨b0,hb0,hu0⟩,OB⟩:=hxr;subst OB hu0;obtain rfl:us = #[.pointer (some ⟨b0,0,none⟩)]:=by cases us;simpa using hus
 have hbox:=hi.h.item p (fun k e=>by subst e;simp[vY]at hpl);rw[hp']at hbox
 obtain⟨_,b1,ty,cs,hb1,hh1,hsz,hc1⟩:=hbox;rw[hb0]at hb1
 simp only[aj]at hb1;subst hb1;obtain⟨⟨u1,hg1,_,hr1'⟩,_⟩:=hc1;simp only[aV]at hr1';obtain⟨b2,hb2,hu1⟩:=hr1';subst hu1;have hit:=hi.h.item (.o id) (fun k e=>by simp at e);rw[hm']at hit
 obtain⟨id',b3,l,clock,l',_,_,hpe,hb3,hh3,hperm,hrel,hst,_⟩:=hit;obtain rfl:id=id':=by simpa using hpe
 rw[hb2]at hb3
 simp only[aj]at hb3;subst hb3;obtain⟨ks,hks,hkp⟩:=Ez hperm hrel fun x hx=>(hk x hx).1
 have hcell:E.w.cell? ⟨b0,0,none⟩ = some (.map (some b2)):=by rw[xE hh1];simpa using hg1
 have hlt:b0<E.w.heap.size:=(bZ.1 hh1).1;unfold wpOp;simp only[ho,hwant,if_true];refine .inl ?_;unfold Oper.wp;have hrun:(execOp a.eval o).run P E.w = .ok (.enter f #[.func (.func g) #[] #[.pointer (some ⟨b0,0,none⟩)]]) E.w:=by simp only[execOp,hop,resolve,Cb,Deferred.ofValue,invoke,Sem.run_bind,Sem.run_pure,Result.andThen_ok,iy,iF,jH hfn,hu,Array.map,kM];simp[hu,jH hfn]
 rw[hrun];simp only[Oper.upon];have hwf:∀k∈ks,(Lit.int .i64 k).wf=true:=fun k hk'=>by
  obtain⟨x,hx,rfl⟩:=ay.1 (hkp.mem_iff.1 hk');have:=(hk x hx).2;simp only[Lit.wf,aP,decide_eq_true_eq];have m1:IntKind.i64.min = -9223372036854775808:=by decide
  have m2:IntKind.i64.max=9223372036854775807:=by decide
  exact⟨by have:=this.1;omega,by have:=this.2;omega⟩
 have ag2:ks.length=es.length:=by rw[hkp.length_eq,aN]
 refine(C.sorted b0 b2 l clock ks E.w hlt hcell hh3 hst hks hwf (by omega)).mono fun e' w' ⟨v,he,hown,hbel⟩=>?_
 rw[show(ks.mergeSort fun x y=>decide (x≤y))=qW es from yN hkp,ag2]at hown
 subst he;have hgr:E.w.grownBy w' none:=⟨hbel.os,hbel.tape,hbel.output,hbel.size,fun k hk _=>hbel.block k hk⟩
 have hkl:(dd (fE .i64 (qW es))).length=es.length:=by rw[Dn,Eu]
 obtain⟨E',hw2,x',hinv,hval⟩:=hi.A_ ht' (es:=dd (fE .i64 (qW es))) (v:=v) (us:=(qW es).map (Value.int .i64)) (e:=e) (k:=1) (w':=w') hgr
  (by rw[hkl];simpa[qW]using hown) (fun E' _ _=>yO (by simp))
 refine hK _ _ ⟨E',hw2,?_⟩;refine iI.dst (W:=[(.o d,.row e 1 (dd (fE .i64 (qW es))) false)]) hinv hd ?_;simp only[aV];have h1:v.oneCell'=true:=by rcases hown.2 with⟨rfl,_⟩|⟨g,cap,cur,rfl,_⟩<;>rfl
 rw[hkl]at hval
 exact⟨h1,1,es.length,v,hval,aI _,fun _=>rfl⟩
theorem aF.sortedK{i:Nat}{t:S}{k:List Pl→List (Pl×It)→Prop}{gt:Tg k}{f fK g:FuncId}{e:TypeId}(C:DY P fK f g e)
  (h:UW k gt (aad t ops (fun o gp gd fo x=>sortK P A.N t o f g e gp gd fo x) ops[i]?)):aF P A ops i t k gt:=
 aF.one (fun o gp gd fo x tys D rp W ho hg hop hc h1=>by
  unfold sortK at hc;split at hc
  ·rename_i f' caps hf;split at hc
   ·rename_i g' p hx;split at hc
    ·rename_i id hp;split at hc
     ·rename_i es cc pd sn hm;split at hc
      ·rename_i d hod;simp only[aj,aK]at hc;obtain⟨rfl,rfl,rfl⟩:=hc;obtain⟨rfl,q1,rfl,rfl,q2,rfl,q3,q4,q5,q6⟩:=h1;exact Sum.sortedK ho hg q1 hop hf q2 C hx q3 hp hm q4 q5 q6
      trivial
     trivial
    trivial
   trivial
  trivial) h
end
end Go.Tr
