/-
  What functions of the program compute, stated as contracts over plain data; the conditions of each stand in its own statement.
-/
import Derived.Test.YtboimfkommpglaaGreatDoorZA08
set_option linter.unusedSimpArgs false
namespace Go.Tr
open Go
section
variable {P:Program} {A:eX} {ops:Array Oper}
theorem adt{t:S}{ν:List Pl}:∀{v v':TV},v.pass t ν=some v'→∀id∈v.rows,∃e k es xs,t (.o id) = .row e k es true∧eu es=some xs:=by
 intro v;exact(TV.rec (motive_1:=fun v=>∀{v':TV},v.pass t ν=some v'→∀id∈v.rows,∃e k es xs,t (.o id) = .row e k es true∧eu es=some xs)
  (motive_2:=fun vs=>∀{vs':List TV},TV.qQ t ν vs=some vs'→∀id∈TV.tX vs,∃e k es xs,t (.o id) = .row e k es true∧eu es=some xs)
  (by intro _ _ id h;simp[TV.rows]at h) (by intro _ _ _ id h;simp[TV.rows]at h) (by intro _ _ _ id h;simp[TV.rows]at h)
  (by
   intro vs ih v' h id hid;simp only[TV.pass]at h;split at h
   ·rename_i hv;exact ih hv id (by simpa only[TV.rows]using hid)
   ·simp at h)
  (by intro vs ih v' h;simp[TV.pass]at h)
  (by
   intro i n v' h id hid;simp only[TV.rows,List.mem_singleton]at hid;subst hid;simp only[TV.pass]at h;split at h
   ·rename_i e k es ht;split at h
    ·rename_i xs hx;exact⟨e,k,es,xs,ht,hx⟩
    ·simp at h
   ·simp at h)
  (by intro _ _ _ _ id h;simp[TV.rows]at h) (by intro _ _ _ _ id h;simp[TV.rows]at h) (by intro _ _ _ _ _ h;simp[TV.pass]at h)
  (by
   intro f vs ih v' h id hid;simp only[TV.pass]at h;split at h
   ·rename_i hv;exact ih hv id (by simpa only[TV.rows]using hid)
   ·simp at h)
  (by intro _ _ h;simp[TV.pass]at h)
  (by intro _ _ h;simp[TV.pass]at h)
  (by intro _ _ _ _ h;simp[TV.pass]at h)
  (by intro _ _ id h;simp[TV.tX]at h)
  (by
   intro v vs ih1 ih2 vs' h id hid;simp only[TV.qQ]at h;split at h
   ·rename_i h1 h2;simp only[TV.tX,List.mem_append]at hid;rcases hid with hid|hid
    ·exact ih1 h1 id hid
    ·exact ih2 h2 id hid
   ·simp at h) v)
theorem KT{t:S}{ν:List Pl}:∀{vs vs':List TV},TV.qQ t ν vs=some vs'→∀id∈TV.tX vs,∃e k es xs,t (.o id) = .row e k es true∧eu es=some xs
 | [],_,_,id,hid=>by simp[TV.tX]at hid
 | v::vs,vs',h,id,hid=>by
   simp only[TV.qQ]at h;split at h
   ·rename_i h1 h2;simp only[TV.tX,List.mem_append]at hid;rcases hid with hid|hid
    ·exact adt h1 id hid
    ·exact KT h2 id hid
   ·simp at h
theorem jQ.callee{t:S}{a:Act}{E:En}(hi:dL A t a E){ν:List Pl}{qK:List It}(Aq:ν.Nodup)(hI:zW t ν ν=some qK)(hIC:∀p∈ν,KQ t (t p))
  (hf:∀p∈ν,∀id∈Nu (t p),∀e k es xs,t (.o id) = .row e k es true→eu es=some xs→∀u,aA E (.aB id es.length) u→Rep E (.sl xs) u) (sJ:∀p∈ν,qw p=true) :
  jQ (E.callee ν) (NR qK):=by
 obtain⟨hl0,hIs⟩:=AA hI;have lV:∀{i b'},(E.callee ν).blk (.x i)=some b'→∃p,ν[i]? = some p∧E.blk p=some b'∧E.own p=some b':=fun {i b'} h=>by
  have h:(ν[i]?).bind E.blk=some b':=h;cases hp:ν[i]? with
  | none=>simp[hp]at h
  | some p=>
    simp only[hp,Option.bind_some]at h;exact⟨p,rfl,h,by simp[En.own,h]⟩
 have hown:∀{p b'},(E.callee ν).own p=some b'→∃i,p = .x i∧(E.callee ν).blk (.x i)=some b':=fun {p b'} h=>by
  cases p with
  | s k=>simp[En.own,En.callee]at h
  | o k=>simp[En.own,En.callee]at h
  | x i=>
    refine⟨i,rfl,?_⟩;unfold En.own at h;split at h
    ·rename_i b2 hb;simp only[Option.some.injEq]at h;subst h;exact hb
    ·simp at h
 refine⟨fun p hps=>?_,fun k=>rfl,fun p q b' h1 h2=>?_,fun p b' h1=>?_,fun b' o h=>hi.h.oQ b' o h,fun b' o h p hp=>?_,fun y hy=>bQ.ext (E:=E) (E':=E.callee ν) ⟨fun _ _ h=>h,fun _ _ _=>rfl⟩ _ _ _ (hi.h.gl y hy)⟩
 ·cases p with
  | s k=>exact absurd rfl (hps k)
  | o k=>exact fun id _=>⟨rfl,rfl⟩
  | x i=>
    cases hp:ν[i]? with
    | none=>
      have:qK.length≤i:=by rw[hl0];exact List.getElem?_eq_none_iff.1 hp
      simp only[NR,List.getD,List.getElem?_eq_none this,Option.getD_none];exact fun id h=>by simp at h
    | some p=>
      obtain⟨cs,cs',h1,h2,h3⟩:=hIs i p hp;have hpm:=List.mem_of_getElem? hp;simp only[NR,List.getD,h3,Option.getD_some];have RX:∀k,p≠.s k:=fun k e=>by subst e;have:=sJ _ hpm;simp[qw]at this
      have hit:=hi.h.item p RX;rw[h1]at hit
      obtain⟨_,b',ty,us,g1,g2,g3,g4⟩:=hit;have hfc:=hf p hpm;have hcc:=hIC p hpm;rw[h1]at hfc hcc
      refine⟨fun id h=>by simp at h,b',ty,us,?_,g2,by rw[g3,VL h2],VJ hfc h2 hcc g4⟩
      show(ν[i]?).bind E.blk=some b'
      rw[hp];exact g1
 ·obtain⟨i,rfl,g1⟩:=hown h1;obtain⟨j,rfl,g2⟩:=hown h2;obtain⟨p,k1,_,k2⟩:=lV g1;obtain⟨q,k3,_,k4⟩:=lV g2;have:=hi.h.inj p q b' k2 k4;subst this;have hil:=(List.getElem?_eq_some_iff.1 k1).1;have hjl:=(List.getElem?_eq_some_iff.1 k3).1;have:i=j:=by
   have e1:=(List.getElem?_eq_some_iff.1 k1).2;have e2:=(List.getElem?_eq_some_iff.1 k3).2;exact(List.getElem_inj Aq).1 (e1.trans e2.symm)
  rw[this]
 ·obtain⟨i,rfl,g1⟩:=hown h1;obtain⟨p,_,_,k2⟩:=lV g1;exact hi.h.size p b' k2
 ·obtain⟨i,rfl,g1⟩:=hown hp;obtain⟨p,k1,_,k2⟩:=lV g1;obtain⟨e,k,es,k3,_⟩:=hi.h.sep b' o h p k2;obtain⟨cs,_,h1,_⟩:=hIs i p k1;rw[h1]at k3;simp at k3
def aZ(P:Program)(f:FuncId):Bool:=
 match P.funcs[f]? with
 | some fn => fn.body.isSome && !(fn.name == "runtime.NumGoroutine")
 | none=>false
theorem jv{f:FuncId}(h:aZ P f=true)(args:Array Value)(w:World):(callFunc f args).run P w = .ok (.enter f args) w:=by
 unfold aZ at h;cases hf:P.funcs[f]? with
 | none=>simp[hf]at h
 | some fn=>
   simp only[hf,Bool.and_eq_true,Bool.not_eq_true']at h;have h1:fn.body.isNone=false:=by cases hb:fn.body<;>simp[hb]at h⊢
   simp only[callFunc,Sem.run_bind,run_program,Result.andThen_ok,hf,h.2,h1,Bool.false_eq_true,if_false,Sem.run_pure]
theorem Sum.call{t:S}{i:Nat}{o:Oper}{gp:List Pl}{fo:Operand}{xs:List Operand}{tys:Array TypeId}{f:FuncId}{caps iR:List TV}{qK dF:List It}{r:TV}{ro:List (Nat×It)}
  (ho:ops[i]? = some o) (hg:gv ops t o=some (gp,true)) (hd:pz A.N o=true) (hop:o.op = .call {callee:=.value fo,args:=xs.toArray,argTypes:=tys}) (hf:ev t fo = .clo f caps) (hfn:aZ P f=true)
  (C:Contract P f iR qK r dF ro) (ν:List Pl) (b:Nat) (Aq:ν.Nodup) (sJ:∀p∈ν,qw p=true) (hp:TV.qQ t ν (xs.map (ev t)++caps)=some iR) (hc:TV.sQ t (xs.map (ev t)++caps)) (hI:zW t ν ν=some qK) (hIC:∀p∈ν,KQ t (t p))
  (hl:dF.length=ν.length) (hbox:∀i∈dF,gU i=true) (CW:∀x∈ro,isObj x.2=true) (hfree:∀x∈ro,t (.o (b+x.1)) = .none) :
  Sum P A ops i t (gp++(pl fo++(xs.flatMap pl++(ν++((TV.tX (xs.map (ev t)++caps)++ν.flatMap (fun p=>Nu (t p))).map .o++ro.map fun x=>.o (b+x.1))))))
   (xA o (r.back ν b) (wx ν b ν dF++wo ν b ro)):=fun t' hr a w ⟨E,hw,hi⟩ K Q hK=>by
 subst hw;have hwant:=mD hg (aW hr) hi;have hr1:=aI hr;have hr2:=aI hr1;have hr3:=aI hr2;have hr4:=aI hr3;have hfo:ev t' fo = .clo f caps:=(dB (aW hr1)).trans hf;have hxs:xs.map (ev t')=xs.map (ev t):=Kz (aW hr2);have Si:∀p∈ν,t' p=t p:=aW hr3
 have hrows:∀id,id∈TV.tX (xs.map (ev t)++caps)++ν.flatMap (fun p=>Nu (t p))→t' (.o id)=t (.o id):=fun id hid=>
  (aW hr4) (.o id) (List.mem_map.2 ⟨id,hid,rfl⟩)
 have MF:∀x∈ro,t' (.o (b+x.1)) = .none:=fun x hx=>((aI hr4) (.o (b+x.1)) (List.mem_map.2 ⟨x,hx,rfl⟩)).trans (hfree x hx)
 have an5:∀{v v':TV},(∀id∈v.rows,t' (.o id)=t (.o id))→v.pass t ν=some v'→v.pass t' ν=some v'∧(v.D_ t→v.D_ t'):=by
  intro v;exact(TV.rec (motive_1:=fun v=>∀{v':TV},(∀id∈v.rows,t' (.o id)=t (.o id))→v.pass t ν=some v'→v.pass t' ν=some v'∧(v.D_ t→v.D_ t'))
   (motive_2:=fun vs=>∀{vs':List TV},(∀id∈TV.tX vs,t' (.o id)=t (.o id))→TV.qQ t ν vs=some vs'→TV.qQ t' ν vs=some vs'∧(TV.sQ t vs→TV.sQ t' vs))
   (by intro _ _ h;exact⟨h,fun h=>h⟩) (by intro _ _ _ h;exact⟨h,fun h=>h⟩) (by intro _ _ _ h;exact⟨h,fun h=>h⟩)
   (by
    intro vs ih v' hr h;simp only[TV.pass]at h⊢;split at h
    ·rename_i hv;obtain⟨h1,h2⟩:=ih (by simpa only[TV.rows]using hr) hv;rw[h1];exact⟨h,by simpa only[TV.D_]using h2⟩
    ·simp at h)
   (by intro vs _ v' _ h;simp[TV.pass]at h)
   (by
    intro i n v' hr h;have:=hr i (by simp[TV.rows]);simp only[TV.pass,TV.D_,this]at h⊢;exact⟨h,fun h=>h⟩)
   (by intro _ _ _ _ h;exact⟨h,fun h=>h⟩) (by intro _ _ _ _ h;exact⟨h,fun h=>h⟩) (by intro _ _ _ _ _ _ h;simp[TV.pass]at h)
   (by
    intro f vs ih v' hr h;simp only[TV.pass]at h⊢;split at h
    ·rename_i hv;obtain⟨h1,h2⟩:=ih (by simpa only[TV.rows]using hr) hv;rw[h1];exact⟨h,by simpa only[TV.D_]using h2⟩
    ·simp at h)
   (by intro _ _ _ h;simp[TV.pass]at h)
   (by intro _ _ _ h;simp[TV.pass]at h)
   (by intro _ _ _ _ _ h;simp[TV.pass]at h)
   (by intro _ _ h;exact⟨h,fun h=>h⟩)
   (by
    intro v vs ih1 ih2 vs' hr h;simp only[TV.qQ]at h⊢;simp only[TV.tX,List.mem_append]at hr;split at h
    ·rename_i g1 g2;obtain⟨h1,h2⟩:=ih1 (fun id hid=>hr id (.inl hid)) g1;obtain⟨h3,h4⟩:=ih2 (fun id hid=>hr id (.inr hid)) g2;rw[h1,h3];exact⟨h,by simp only[TV.sQ];exact fun h=>⟨h2 h.1,h4 h.2⟩⟩
    ·simp at h) v)
 have aeh:∀{vs vs':List TV},(∀id∈TV.tX vs,t' (.o id)=t (.o id))→TV.qQ t ν vs=some vs'→TV.qQ t' ν vs=some vs'∧(TV.sQ t vs→TV.sQ t' vs):=by
  intro vs
  induction vs with
  | nil=>exact fun _ h=>⟨h,fun h=>h⟩
  | cons v vs ih=>
    intro vs' hr h;simp only[TV.qQ]at h⊢;simp only[TV.tX,List.mem_append]at hr;split at h
    ·rename_i g1 g2;obtain⟨h1,h2⟩:=an5 (fun id hid=>hr id (.inl hid)) g1;obtain⟨h3,h4⟩:=ih (fun id hid=>hr id (.inr hid)) g2;rw[h1,h3];exact⟨h,by simp only[TV.sQ];exact fun h=>⟨h2 h.1,h4 h.2⟩⟩
    ·simp at h
 obtain⟨hp',hc'⟩:=aeh (fun id hid=>hrows id (List.mem_append_left _ hid)) hp;have ae8:∀p∈ν,∀id∈Nu (t p),t' (.o id)=t (.o id):=fun p hp id hid=>hrows id (List.mem_append_right _ (List.mem_flatMap.2 ⟨p,hp,hid⟩))
 have hI':zW t' ν ν=some qK:=by
  have go:∀{l:List Pl} {xs:List It},(∀p∈l,p∈ν)→zW t ν l=some xs→zW t' ν l=some xs:=by
   intro l
   induction l with
   | nil=>exact fun _ h=>h
   | cons p l ih=>
     intro xs hm h;simp only[zW]at h⊢;split at h
     ·rename_i g1 g2;rw[ih (fun q hq=>hm q (by simp[hq])) g2,Si p (hm p (by simp))];have:TG t' ν (t p)=TG t ν (t p):=by
       unfold TG at g1⊢;split
       ·rename_i cs hcs;rw[hcs]at g1
        simp only at g1;split at g1
        ·rename_i g3;rw[(aeh (fun id hid=>ae8 p (hm p (by simp)) id (by rw[hcs];exact hid)) g3).1]
        ·simp at g1
       ·rfl
      rw[this,g1];exact h
     ·simp at h
  exact go (fun p hp=>hp) hI
 have aoY:∀p∈ν,KQ t' (t' p):=fun p gJ=>by
  rw[Si p gJ];have h1:=hIC p gJ;unfold KQ at h1⊢;split
  ·rename_i cs hcs;rw[hcs]at h1
   obtain⟨i,hi'⟩:=List.getElem?_of_mem gJ;obtain⟨cs0,cs',g1,g2,_⟩:=(AA hI).2 i p hi';rw[hcs]at g1;simp only[It.box.injEq]at g1;subst g1
   exact(aeh (fun id hid=>ae8 p gJ id (by rw[hcs];exact hid)) g2).2 h1
  ·trivial
 have hsh:∀id∈TV.tX (xs.map (ev t)++caps)++ν.flatMap (fun p=>Nu (t p)),∃e k es xs,t' (.o id) = .row e k es true∧eu es=some xs:=fun id hid=>by
  rw[hrows id hid];rcases List.mem_append.1 hid with h|h
  ·exact KT hp id h
  ·obtain⟨p,gJ,h⟩:=List.mem_flatMap.1 h;obtain⟨i,hi'⟩:=List.getElem?_of_mem gJ;obtain⟨cs0,cs',g1,g2,_⟩:=(AA hI).2 i p hi';rw[g1]at h
   exact KT g2 id h
 obtain⟨E1,hw1,x1,hb1,hv1,hi1,hfz⟩:=hi.Vl _ hsh;have hfr:=bM hi1 fo;rw[hfo]at hfr
 simp only[aA]at hfr;obtain⟨sZ,Gu,yT⟩:=hfr;have hxr:=Ac hi1 xs;rw[hxs]at hxr
 have happ:∀{ts ts':List TV} {us us':List Value},aP E1 ts us→aP E1 ts' us'→aP E1 (ts++ts') (us++us'):=by
  intro ts
  induction ts with
  | nil=>intro ts' us us' h g;simp only[aP]at h;subst h;simpa using g
  | cons v ts ih=>
    intro ts' us us' h g;simp only[aP]at h;obtain⟨u,Zq,rfl,h1,h2⟩:=h;simp only[List.cons_append,aP];exact⟨u,Zq++us',rfl,h1,ih h2 g⟩
 have hargs:=happ hxr yT;have hfz1:∀id,id∈TV.tX (xs.map (ev t)++caps)++ν.flatMap (fun p=>Nu (t p))→∀e k es xs,t' (.o id) = .row e k es true→eu es=some xs→∀u,aA E1 (.aB id es.length) u→Rep E1 (.sl xs) u:=hfz;have CV:aP (E1.callee ν) iR (xs.map a.eval++sZ.toList):=JC (fun id hid=>hfz1 id (List.mem_append_left _ hid)) hp' (hc' hc) hargs
 have hH0:jQ (E1.callee ν) (NR qK):=jQ.callee hi1 Aq hI' aoY (fun p gJ id hid=>hfz1 id (List.mem_append_right _ (List.mem_flatMap.2 ⟨p,gJ,by rw[←Si p gJ];exact hid⟩))) sJ;have hcall:=C (E1.callee ν) _ hH0 CV;have hwc:(E1.callee ν).w=E.w:=hw1;rw[hwc]at hcall
 unfold wpOp;simp only[ho,hwant,if_true];refine .inl ?_;unfold Oper.wp;have hrun:(execOp a.eval o).run P E.w = .ok (.enter f (xs.map a.eval++sZ.toList).toArray) E.w:=by
  have harr:(List.map a.eval xs++sZ.toList).toArray=(List.map a.eval xs).toArray++sZ:=by simp
  simp only[execOp,hop,resolve,Gu,Deferred.ofValue,invoke,Sem.run_bind,Sem.run_pure,Result.andThen_ok,List.map_toArray,Array.empty_append,jv hfn,harr]
 rw[hrun];simp only[Oper.upon];refine hcall.mono fun e w' ⟨u,E',he,hw',hpost⟩=>?_
 subst he;have aiU:∀x∈ro,t' (.o (b+x.1)) = .none:=MF;obtain⟨E2,hw2,hi2,hr2⟩:=hi1.called Aq sJ hI' hl hbox CW aiU hpost;refine hK _ _ ⟨E2,hw2.trans hw',dL.dst ?_ hd hr2⟩;exact hi2
end
end Go.Tr

namespace Go.Tr
open Go
def look:List (Pl×It)→S
 | [],_=>.none
 | (q,i)::l,p=>if p=q then i else look l p
def iI(p:Pl)(i:It):List (Pl×It)→List (Pl×It)
 | []=>[(p,i)]
 | (q,j)::l=>if p=q then(p,i)::l else(q,j)::iI p i l
theorem eU(p:Pl)(i:It):∀l:List (Pl×It),upd (look l) p i=look (iI p i l)
 | []=>by funext q;simp[upd,look,iI]
 | (q,j)::l=>by
   funext r
   have ih:=congrFun (eU p i l) r;simp only[upd]at ih;simp only[iI,upd,look];by_cases e:p=q
   ·subst e;simp only[if_true,look];by_cases h:r=p
    ·simp[h]
    ·simp[h]
   ·simp only[if_neg e,look];by_cases h:r=q
    ·subst h;rw[if_neg (fun h=>e h.symm)];simp
    ·rw[if_neg h,if_neg h];exact ih
def rO(kp:Nat→Bool):List (Pl×It)→List (Pl×It)
 | []=>[]
 | (.s k,i)::l=>if kp k then(.s k,i)::rO kp l else rO kp l
 | x::l=>x::rO kp l
theorem Jw(kp:Nat→Bool):∀l:List (Pl×It),kept kp (look l)=look (rO kp l)
 | []=>by funext q;cases q<;>simp[kept,look,rO]
 | (.s k,i)::l=>by
   funext r
   have ih:=congrFun (Jw kp l) r;cases r with
   | s j=>
     simp only[kept]at ih;simp only[rO,kept,look];by_cases hk:kp k
     ·rw[if_pos hk];simp only[look];by_cases hj:Pl.s j=Pl.s k
      ·simp only[Pl.s.injEq]at hj;subst hj;simp[hk]
      ·rw[if_neg hj,if_neg hj];exact ih
     ·rw[if_neg hk];by_cases hj:Pl.s j=Pl.s k
      ·simp only[Pl.s.injEq]at hj;subst hj;rw[if_neg hk]at ih
       rw[if_neg hk,←ih]
      ·rw[if_neg hj];exact ih
   | o j=>
     simp only[kept]at ih⊢;simp only[rO,look,reduceCtorEq,if_false];split
     ·simp only[look,reduceCtorEq,if_false];exact ih
     ·exact ih
   | x j=>
     simp only[kept]at ih⊢;simp only[rO,look,reduceCtorEq,if_false];split
     ·simp only[look,reduceCtorEq,if_false];exact ih
     ·exact ih
 | (.o k,i)::l=>by
   funext r
   have ih:=congrFun (Jw kp l) r;cases r with
   | s j=>simp only[rO,kept,look]at ih⊢;simpa using ih
   | o j=>simp only[rO,kept,look]at ih⊢;rw[ih]
   | x j=>simp only[rO,kept,look]at ih⊢;simpa using ih
 | (.x k,i)::l=>by
   funext r
   have ih:=congrFun (Jw kp l) r;cases r with
   | s j=>simp only[rO,kept,look]at ih⊢;simpa using ih
   | o j=>simp only[rO,kept,look]at ih⊢;simpa using ih
   | x j=>simp only[rO,kept,look]at ih⊢;rw[ih]
def It.only(po:Nat→Prop):It→Prop
 | .none=>True
 | .v t=>t.only po
 | .box cs=>TV.xE po cs
 | .row _ _ es _=>∀e∈es,TV.xE po e
 | .wI _ _ es=>∀e∈es,TV.xE po e
 | .mp _=>True
 | .jX es _ _ _=>∀x∈es,x.2.only po
 | .DK _ _ _ _=>True
 | .IE es _=>∀x∈es,x.2.only po
def En.res(E:En)(ids:List Nat):En:=
 {E with blk:=fun p=>match p with|.o k=>if k∈ids then E.blk (.o k)else none|p=>E.blk p,val:=fun k=>if k∈ids then E.val k else none}
theorem En.Xq(E:En)(ids:List Nat):Ext (· ∈ids) E (E.res ids):=
 ⟨fun _ _ h=>h,fun _ _ _=>rfl,fun id b h hb=>by simp only[En.res,if_pos h];exact hb,fun _ _ h=>h,fun _ _ h=>h,fun id k c v h hv=>⟨c,v,by simp only[En.res,if_pos h];exact hv,Nat.le_refl _,fun _=>rfl⟩⟩
theorem En.res_own{E:En}{ids:List Nat}{p:Pl}{b:Nat}(h:(E.res ids).own p=some b):E.own p=some b∧∀k,p = .o k→k∈ids:=by
 cases p with
 | o k=>
   by_cases hk:k∈ids
   ·refine⟨?_,fun j e=>by simp only[Pl.o.injEq]at e;subst e;exact hk⟩;have:(E.res ids).own (.o k)=E.own (.o k):=En.lU (by simp only[En.res,if_pos hk]) (fun id e=>by simp only[Pl.o.injEq]at e;subst e;simp only[En.res,if_pos hk])
    rwa [this]at h
   ·simp[En.own,En.res,hk]at h
 | s k=>exact⟨h,fun _ e=>by simp at e⟩
 | x k=>exact⟨h,fun _ e=>by simp at e⟩
theorem bG.ext{po:Nat→Prop}{E E':En}(h:Ext po E E'){us:List Value}:∀{o:Nat} {ts:List TV},TV.xE po ts→bG E us o ts→bG E' us o ts
 | _,[],_,_=>trivial
 | _,_::_,hp,⟨⟨u,h1,h2,h3⟩,r⟩=>by
   simp only[TV.xE]at hp;exact⟨⟨u,h1,h2,aA.ext h _ _ hp.1 h3⟩,bG.ext h hp.2 r⟩
theorem dK.ext{po:Nat→Prop}{E E':En}(h:Ext po E E'){us:List Value}{k:Nat}:∀{o:Nat} {es:List (List TV)},(∀e∈es,TV.xE po e)→dK E us k o es→dK E' us k o es
 | _,[],_,_=>trivial
 | _,_::_,hp,⟨h1,h2,r⟩=>⟨h1,bG.ext h (hp _ (by simp)) h2,dK.ext h (fun e he=>hp e (by simp[he])) r⟩
theorem jQ.res{E:En}{t t':S}{ids:List Nat}(h:jQ E t)(ho:∀id,id∈ids→t' (.o id)=t (.o id))(hn:∀id,id∉ids→t' (.o id) = .none)(hx:∀i,t' (.x i)=t (.x i))
  (hc:∀p,(∀k,p≠.s k)→(t' p).only (· ∈ids)):jQ (E.res ids) t':=by
 have x:=En.Xq E ids;refine⟨fun p hp=>?_,fun k=>h.frees k,fun p q b h1 h2=>h.inj p q b (En.res_own h1).1 (En.res_own h2).1,fun p b h1=>h.size p b (En.res_own h1).1,fun b o h1=>h.oQ b o h1,fun b o h1 p h2=>?_,fun y hy=>bQ.ext x.r _ _ _ (h.gl y hy)⟩
 ·have hcp:=hc p hp;have hit:=h.item p hp;cases p with
  | s k=>exact absurd rfl (hp k)
  | o k=>
    by_cases hk:k∈ids
    ·rw[ho k hk]at hcp⊢
     have hb:(E.res ids).blk (.o k)=E.blk (.o k):=by simp only[En.res,if_pos hk]
     have hv:(E.res ids).val k=E.val k:=by simp only[En.res,if_pos hk]
     cases hi:t (.o k)with
     | none=>rw[hi]at hit;exact fun id e=>by simp only[Pl.o.injEq]at e;subst e;rw[hb,hv];exact hit k rfl
     | v _=>rw[hi]at hit;exact(En.lU hb (fun id e=>by simp only[Pl.o.injEq]at e;subst e;exact hv)).trans hit
     | box cs=>
       rw[hi]at hit hcp
       obtain⟨h0,b,ty,us,h1,h2,h3,h4⟩:=hit;exact⟨fun id e=>by simp only[Pl.o.injEq]at e;subst e;rw[hv];exact h0 k rfl,b,ty,us,hb.trans h1,h2,h3,bG.ext x hcp h4⟩
     | row e k' es sh=>
       rw[hi]at hit hcp
       obtain⟨h0,id,v,us,e1,h1,h2,h3⟩:=hit;simp only[Pl.o.injEq]at e1;subst e1;exact⟨hb.trans h0,k,v,us,rfl,hv.trans h1,h2,dK.ext x hcp h3⟩
     | wI e k' es=>
       rw[hi]at hit hcp
       obtain⟨h0,id,v,us,e1,h1,h2,h3⟩:=hit;simp only[Pl.o.injEq]at e1;subst e1;exact⟨hb.trans h0,k,v,us,rfl,hv.trans h1,h2,dK.ext x hcp h3⟩
     | mp es=>
       rw[hi]at hit
       obtain⟨h0,b,l,clock,h1,h2,h3,h4⟩:=hit;exact⟨fun id e=>by simp only[Pl.o.injEq]at e;subst e;rw[hv];exact h0 k rfl,b,l,clock,hb.trans h1,h2,h3.ext x.r,h4⟩
     | jX es c pd s=>
       rw[hi]at hit hcp
       obtain⟨id,b,l,clock,l',ty,v,e1,h1,h2,h3,h4,h5,h6,h7,h8⟩:=hit;simp only[Pl.o.injEq]at e1;subst e1;exact⟨k,b,l,clock,l',ty,v,rfl,hb.trans h1,h2,h3,jD.ext x hcp h4,h5,hv.trans h6,h7,h8⟩
     | IE es s=>
       rw[hi]at hit hcp
       obtain⟨h0,h1,h2,h3,l',h4,h5⟩:=hit;exact⟨(En.lU hb (fun id e=>by simp only[Pl.o.injEq]at e;subst e;exact hv)).trans h0,h1,h2,h3,l',h4,jD.ext x hcp h5⟩
     | DK m s left cur=>
       rw[hi]at hit
       obtain⟨h0,r,seen,h1,h2,h3⟩:=hit;exact⟨fun id e=>by simp only[Pl.o.injEq]at e;subst e;rw[hv];exact h0 k rfl,r,seen,hb.trans h1,h2,h3⟩
    ·rw[hn k hk];exact fun id e=>by simp only[Pl.o.injEq]at e;subst e;simp[En.res,hk]
  | x k=>
    rw[hx k]at hcp⊢
    cases hi:t (.x k)with
    | none=>exact fun id e=>by simp at e
    | v _=>rw[hi]at hit;exact hit
    | box cs=>
      rw[hi]at hit hcp
      obtain⟨h0,b,ty,us,h1,h2,h3,h4⟩:=hit;exact⟨fun id e=>by simp at e,b,ty,us,h1,h2,h3,bG.ext x hcp h4⟩
    | row e k' es sh=>
      rw[hi]at hit
      obtain⟨_,id,_,_,e1,_⟩:=hit;simp at e1
    | wI e k' es=>
      rw[hi]at hit
      obtain⟨_,id,_,_,e1,_⟩:=hit;simp at e1
    | mp es=>
      rw[hi]at hit
      obtain⟨h0,b,l,clock,h1,h2,h3,h4⟩:=hit;exact⟨fun id e=>by simp at e,b,l,clock,h1,h2,h3.ext x.r,h4⟩
    | jX es c pd s=>
      rw[hi]at hit
      obtain⟨id,_,_,_,_,_,_,e1,_⟩:=hit;simp at e1
    | IE es s=>
      rw[hi]at hit hcp
      obtain⟨h0,h1,h2,h3,l',h4,h5⟩:=hit;exact⟨h0,h1,h2,h3,l',h4,jD.ext x hcp h5⟩
    | DK m s left cur=>
      rw[hi]at hit
      obtain⟨h0,r,seen,h1,h2,h3⟩:=hit;exact⟨fun id e=>by simp at e,r,seen,h1,h2,h3⟩
 ·obtain⟨g1,g2⟩:=En.res_own h2;obtain⟨e,k,es,g3,g4⟩:=h.sep b o h1 p g1;refine⟨e,k,es,?_,g4⟩;cases p with
  | o j=>rw[ho j (g2 j rfl)];exact g3
  | x j=>rw[hx j];exact g3
  | s j=>have:=h.frees j;simp[En.own,this]at g1
section
variable {P:Program} {A:eX}
theorem Fr.res{E0 E:En}(h:Fr E0 E)(ids:List Nat):Fr E0 (E.res ids):=
 ⟨h.os,h.tape,h.output,h.size,h.old,h.xb,fun id b hb=>h.new id b (En.res_own hb).1,h.st,h.xg⟩
def jy:List (Pl×It)→List Nat
 | []=>[]
 | (.o k,_)::l=>k::jy l
 | _::l=>jy l
def jP:List (Pl×It)→List Nat
 | []=>[]
 | (.x k,_)::l=>k::jP l
 | _::l=>jP l
theorem zU{l:List (Pl×It)}{k:Nat}:k∉jy l→look l (.o k) = .none:=by
 induction l with
 | nil=>intro _;rfl
 | cons x l ih=>
   obtain⟨p,i⟩:=x;intro h;cases p with
   | o j=>
     simp only[jy,List.mem_cons,not_or]at h;simp only[look,Pl.o.injEq,if_neg h.1];exact ih h.2
   | s j=>simp only[jy]at h;simp only[look,reduceCtorEq,if_false];exact ih h
   | x j=>simp only[jy]at h;simp only[look,reduceCtorEq,if_false];exact ih h
theorem afj{l:List (Pl×It)}{k:Nat}:k∉jP l→look l (.x k) = .none:=by
 induction l with
 | nil=>intro _;rfl
 | cons x l ih=>
   obtain⟨p,i⟩:=x;intro h;cases p with
   | x j=>
     simp only[jP,List.mem_cons,not_or]at h;simp only[look,Pl.x.injEq,if_neg h.1];exact ih h.2
   | s j=>simp only[jP]at h;simp only[look,reduceCtorEq,if_false];exact ih h
   | o j=>simp only[jP]at h;simp only[look,reduceCtorEq,if_false];exact ih h
theorem YM{l:List (Pl×It)}{p:Pl}:look l p = .none∨(p,look l p)∈l:=by
 induction l with
 | nil=>exact .inl rfl
 | cons x l ih=>
   obtain⟨q,i⟩:=x;simp only[look];by_cases e:p=q
   ·subst e;simp
   ·rw[if_neg e];exact ih.imp id fun h=>List.mem_cons_of_mem _ h
theorem afo{l:List (Pl×It)}{k:Nat}(h:k∈jP l):∃i,(Pl.x k,i)∈l:=by
 induction l with
 | nil=>simp[jP]at h
 | cons x l ih=>
   obtain⟨q,j⟩:=x;cases q with
   | x m=>
     simp only[jP,List.mem_cons]at h;rcases h with rfl|h
     ·exact⟨j,by simp⟩
     ·obtain⟨i,hi⟩:=ih h;exact⟨i,by simp[hi]⟩
   | s m=>simp only[jP]at h;obtain⟨i,hi⟩:=ih h;exact⟨i,by simp[hi]⟩
   | o m=>simp only[jP]at h;obtain⟨i,hi⟩:=ih h;exact⟨i,by simp[hi]⟩
def Sub(t:S)(l':List (Pl×It)):Prop:=(∀x∈l',look l' x.1=t x.1)∧∀x∈l',x.2.only (· ∈jy l')
theorem dL.forget{t:S}{l':List (Pl×It)}{a:Act}{E:En}(hi:dL A t a E)(h:Sub t l')(hx:∀i,look l' (.x i)=t (.x i)):dL A (look l') a (E.res (jy l')):=by
 have hget:∀p,look l' p = .none∨look l' p=t p:=fun p=>by
  rcases YM (l:=l') (p:=p)with h1|h1
  ·exact .inl h1
  ·exact .inr (h.1 _ h1)
 have ah7:∀p,(look l' p).only (· ∈jy l'):=fun p=>by
  rcases YM (l:=l') (p:=p)with h1|h1
  ·rw[h1];trivial
  ·exact h.2 _ h1
 have ao3:∀{k:Nat} {i:It} {l:List (Pl×It)},k∈jy l→∃i,(Pl.o k,i)∈l:=by
  intro k i l
  induction l with
  | nil=>intro h;simp[jy]at h
  | cons x l ih=>
    obtain⟨q,j⟩:=x;intro h;cases q with
    | o m=>
      simp only[jy,List.mem_cons]at h;rcases h with rfl|h
      ·exact⟨j,by simp⟩
      ·obtain⟨i,hi⟩:=ih h;exact⟨i,by simp[hi]⟩
    | s m=>simp only[jy]at h;obtain⟨i,hi⟩:=ih h;exact⟨i,by simp[hi]⟩
    | x m=>simp only[jy]at h;obtain⟨i,hi⟩:=ih h;exact⟨i,by simp[hi]⟩
 refine⟨hi.h.res (fun id hid=>?_) (fun id hid=>zU hid) hx (fun p _=>ah7 p),hi.fr.res _,fun k tv hk=>?_,hi.defers,hi.size⟩
 ·obtain⟨i,hm⟩:=ao3 (i:=.none) hid;exact h.1 _ hm
 ·have h1:=hget (.s k);rw[hk]at h1
  rcases h1 with h1|h1
  ·simp at h1
  ·obtain⟨u,h2,h3⟩:=hi.sl k tv h1.symm;have h4:=ah7 (.s k);rw[hk]at h4
   exact⟨u,h2,aA.ext (En.Xq E _) _ _ h4 h3⟩
theorem abq{l l':List (Pl×It)}(hs:∀x∈l',look l' x.1=look l x.1)(hx:jP l'=jP l)(i:Nat):look l' (.x i)=look l (.x i):=by
 by_cases h:i∈jP l'
 ·obtain⟨it,hm⟩:=afo h;exact hs _ hm
 ·rw[afj h,afj (by rwa [←hx])]
theorem GS.forget{l l':List (Pl×It)}(h:Sub (look l) l')(hx:jP l'=jP l):GS A (look l) (look l'):=fun _ _ ⟨E,hw,hi⟩=>
 ⟨E.res (jy l'),hw,hi.forget h (abq h.1 hx)⟩
theorem GS.own{t:S}{k:Nat}(e z:Nat)(hk:t (.s k) = .v (.c (.slice none 0 0)))(ho:t (.o k) = .none):GS A t (upd (upd t (.o k) (.row e z [] false)) (.s k) (.v (.aB k 0))):=fun a w ⟨E,hw,hi⟩=>by
 obtain⟨u,h1,h2⟩:=hi.sl k _ hk;obtain⟨E',hw',x,hi',hv⟩:=hi.newRow ho e z;simp only[aA]at h2;refine⟨E',hw'.trans hw,⟨hi'.h.slot k _,hi'.fr,fun j tv hj=>?_,hi'.defers,hi'.size⟩⟩;by_cases ej:j=k
 ·subst ej;simp only[upd,if_true,It.v.injEq]at hj;subst hj;exact⟨u,h1,by simp only[aA];exact⟨by rw[h2];rfl,z,0,_,hv,Nat.le_refl _,fun _=>h2⟩⟩
 ·simp only[upd,Pl.s.injEq,ej,if_false,reduceCtorEq]at hj;exact hi'.sl j tv (by simpa[upd]using hj)
theorem GS.view{t:S}{s id n e k:Nat}{es:List (List TV)}{sh:Bool}{xs:List (List D)}(hs:t (.s s) = .v (.aB id n))(ht:t (.o id) = .row e k es sh)(hn:n=es.length)(hx:eu es=some xs):
  GS A t (upd (upd t (.o id) (.row e k es true)) (.s s) (.v (.d (.sl xs)))):=fun a w ⟨E,hw,hi⟩=>by
 obtain⟨u,h1,h2⟩:=hi.sl s _ hs;obtain⟨E',hw',x,_,_,hi',hr,_⟩:=hi.freeze ht hx;subst hn;refine⟨E',hw'.trans hw,⟨hi'.h.slot s _,hi'.fr,fun j tv hj=>?_,hi'.defers,hi'.size⟩⟩;by_cases ej:j=s
 ·subst ej;simp only[upd,if_true,It.v.injEq]at hj;subst hj;exact⟨u,h1,by simp only[aA];exact hr u h2⟩
 ·simp only[upd,Pl.s.injEq,ej,if_false,reduceCtorEq]at hj;exact hi'.sl j tv (by simpa[upd]using hj)
end
end Go.Tr

namespace Go.Tr
open Go
def UN:List TV→Nat→List (Pl×It)
 | [],_=>[]
 | a::l,k=>(.s k,.v a)::UN l (k+1)
def xL:List It→Nat→List (Pl×It)
 | [],_=>[]
 | i::l,k=>(.x k,i)::xL l (k+1)
def oL(ro:List (Nat×It)):List (Pl×It):=ro.map fun x=>(.o x.1,x.2)
theorem Ew{l m:List (Pl×It)}{p:Pl}(h:∀x∈l,x.1≠p):look (l++m) p=look m p:=by
 induction l with
 | nil=>rfl
 | cons x l ih=>
   obtain⟨q,i⟩:=x;simp only[List.cons_append,look];rw[if_neg (fun e=>h (q,i) (by simp) e.symm)];exact ih fun x hx=>h x (by simp[hx])
theorem Z4{k:Nat}:∀{l:List TV} {n:Nat} {m:List (Pl×It)},look (UN l n++m) (.s k)=if n≤k∧k<n+l.length then(match l[k-n]? with|some a=>.v a|none=>.none)else look m (.s k)
 | [],n,m=>by simp[UN];intros;omega
 | a::l,n,m=>by
   simp only[UN,List.cons_append,look,Pl.s.injEq];by_cases e:k=n
   ·subst e;simp
   ·rw[if_neg e,Z4 (l:=l) (n:=n+1)];by_cases h:n+1≤k∧k<n+1+l.length
    ·rw[if_pos h,if_pos ⟨by omega,by simp;omega⟩,show k-n=(k-(n+1))+1 by omega];simp
    ·rw[if_neg h,if_neg (by simp;omega)]
theorem Rn{l:List TV}{n:Nat}{m:List (Pl×It)}{p:Pl}(h:∀k,p≠.s k):look (UN l n++m) p=look m p:=by
 refine Ew ?_
 induction l generalizing n with
 | nil=>simp[UN]
 | cons a l ih=>
   intro x hx;simp only[UN,List.mem_cons]at hx;rcases hx with rfl|hx
   ·exact fun e=>h _ e.symm
   ·exact ih x hx
theorem ahV{i:Nat}:∀{l:List It} {n:Nat} {m:List (Pl×It)},look (xL l n++m) (.x i)=if n≤i∧i<n+l.length then l.getD (i-n) .none else look m (.x i)
 | [],n,m=>by simp[xL];intros;omega
 | a::l,n,m=>by
   simp only[xL,List.cons_append,look,Pl.x.injEq];by_cases e:i=n
   ·subst e;simp
   ·rw[if_neg e,ahV (l:=l) (n:=n+1)];by_cases h:n+1≤i∧i<n+1+l.length
    ·rw[if_pos h,if_pos ⟨by omega,by simp;omega⟩,show i-n=(i-(n+1))+1 by omega];simp
    ·rw[if_neg h,if_neg (by simp;omega)]
theorem Jl{l:List It}{n:Nat}{m:List (Pl×It)}{p:Pl}(h:∀k,p≠.x k):look (xL l n++m) p=look m p:=by
 refine Ew ?_
 induction l generalizing n with
 | nil=>simp[xL]
 | cons a l ih=>
   intro x hx;simp only[xL,List.mem_cons]at hx;rcases hx with rfl|hx
   ·exact fun e=>h _ e.symm
   ·exact ih x hx
theorem ai7{k:Nat}:∀{ro:List (Nat×It)},look (oL ro) (.o k)=qx ro k
 | []=>rfl
 | (j,i)::ro=>by
   have ih:=ai7 (k:=k) (ro:=ro);simp only[oL]at ih;simp only[oL,List.map_cons,look,Pl.o.injEq,qx,ih]
theorem S_{ro:List (Nat×It)}{p:Pl}(h:∀k,p≠.o k):look (oL ro) p = .none:=by
 have:=Ew (l:=oL ro) (m:=[]) (p:=p) (fun x hx=>by
  simp only[oL,List.mem_map]at hx;obtain⟨y,_,rfl⟩:=hx;exact fun e=>h _ e.symm)
 simpa[look]using this
theorem jQ.congr{E:En}{H H':S}(h:jQ E H)(he:∀p,(∀k,p≠.s k)→H' p=H p):jQ E H':=
 ⟨fun p hp=>by rw[he p hp];exact h.item p hp,h.frees,h.inj,h.size,h.oQ,fun b o h1 p h2=>by
  obtain⟨e,k,es,h3,h4⟩:=h.sep b o h1 p h2;refine⟨e,k,es,?_,h4⟩;rw[he p ?_]
  ·exact h3
  ·rintro k rfl;simp[En.own,h.frees k]at h2,h.gl⟩
def resV(P:Program)(t:S):ResultVar→Option (Prop×TV)
 | .tmp k=>match t (.s k)with
   | .v x=>some (True,x)
   | _=>none
 | .cell k ty=>match ev t (.tmp k)with
   | .ptr p q=>match t p with
     | .box cs=>cellsOf P ty cs q
     | _=>none
   | _=>none
def VU(P:Program)(t:S):List ResultVar→Option (Prop×List TV)
 | []=>some (True,[])
 | x::l=>match resV P t x,VU P t l with
   | some (C,v),some (C',vs)=>some (C∧C',v::vs)
   | _,_=>none
def ahy(P:Program)(t:S)(l:List ResultVar):Option (Prop×TV):=
 match VU P t l with
 | some (C,[v])=>some (C,v)
 | some (C,vs)=>some (C,.rG vs)
 | none=>none
def Fin(P:Program)(A:eX)(fn:Func)(r:TV)(xs:List It)(ro:List (Nat×It))(t:S):Prop:=
 ∀a w,Inv A t a w→∃u E',(results fn a.tmps).run P w = .ok u w∧E'.w=w∧Post A.E0 xs ro r u E'
def fin(P:Program)(A:eX)(fn:Func)(r:TV)(xs:List It)(ro:List (Nat×It)):Exit→S→Prop
 | .normal,t=>Fin P A fn r xs ro t
 | .ret,t=>Fin P A fn r xs ro t
 | _,_=>False
section
variable {P:Program} {A:eX}
theorem Fin.ghost{fn:Func}{r:TV}{xs:List It}{ro:List (Nat×It)}{t t':S}(h:Fin P A fn r xs ro t')(g:GS A t t'):Fin P A fn r xs ro t:=fun a w hi=>h a w (g a w hi)
def adx(a:Act):ResultVar→Sem Value
 | .tmp t=>Pure.pure (a.tmps.getD t undef)
 | .cell b t=>do loadVar t (←asAddr (a.tmps.getD b undef))
theorem aaZ(fn:Func)(a:Act):results fn a.tmps=(do
  let vs ←fn.results.mapM (adx a)
  pure (if h:vs.size=1 then vs[0]else .tuple vs)):=rfl
theorem afP{t:S}{a:Act}{E:En}(hi:dL A t a E){x:ResultVar}{C:Prop}{v:TV}(h:resV P t x=some (C,v))(hC:C):
  ∃u,(adx a x).run P E.w = .ok u E.w∧aA E v u:=by
 unfold adx;cases x with
 | tmp k=>
   simp only[resV]at h;split at h
   ·rename_i tv ht;simp only[Option.some.injEq,Prod.mk.injEq]at h;obtain⟨_,rfl⟩:=h;obtain⟨u,h1,h2⟩:=hi.sl k tv ht;exact⟨u,by simp[Array.getD_eq_getD_getElem?,h1],h2⟩
   ·simp at h
 | cell k ty=>
   simp only[resV]at h;have hr:=bM hi (.tmp k);split at h
   ·rename_i p q hp;split at h
    ·rename_i cs ht;rw[hp]at hr
     obtain⟨b,ty',us,hu,hb,hh,hs,hc⟩:=Wq hi ht hr;have hu':a.tmps.getD k undef = .pointer (some ⟨b,q,none⟩):=hu;unfold cellsOf at h;split at h
     ·rename_i hsh;split at h
      ·rename_i tv hv;simp only[Option.some.injEq,Prod.mk.injEq]at h;obtain⟨_,rfl⟩:=h;obtain⟨u,h1,_,h2⟩:=hc.get hv;have hcell:E.w.cell? ⟨b,q,none⟩ = some u:=by rw[BJ hh];simpa using h1
       exact⟨u,by simp only[hu',asAddr,Sem.run_bind,Sem.run_pure,Result.andThen_ok,zi hsh hcell],h2⟩
      ·simp at h
     ·rename_i hsh;split at h
      ·rename_i z hz;simp only[Option.some.injEq,Prod.mk.injEq]at h;obtain⟨rfl,rfl⟩:=h;have hc':=(hc.sub q z).vals;simp only[Nat.zero_add]at hc';have hl:((cs.drop q).take z).length=z:=by simp;omega
       rw[hl]at hc'
       have:=zh (P:=P) hsh hz hc'.2 (w:=E.w) (GR (b:=b) (fun j u hj=>by rw[BJ hh];simpa using hj) q z);exact⟨.agg ((us.toList.drop q).take z).toArray,by simp only[hu',asAddr,Sem.run_bind,Sem.run_pure,Result.andThen_ok,this],by simp only[aA];exact⟨_,rfl,hc'.1⟩⟩
      ·simp at h
     ·simp at h
    ·simp at h
   ·simp at h
theorem OZ{t:S}{a:Act}{E:En}(hi:dL A t a E):∀{l:List ResultVar} {C:Prop} {vs:List TV},VU P t l=some (C,vs)→C→
  ∃us,(l.mapM (adx a)).run P E.w = .ok us E.w∧aP E vs us
 | [],C,vs,h,_=>by
   simp only[VU,Option.some.injEq,Prod.mk.injEq]at h;obtain⟨_,rfl⟩:=h;exact⟨[],by simp,by simp only[aP]⟩
 | x::l,C,vs,h,hC=>by
   simp only[VU]at h;split at h
   ·rename_i C1 v C2 vs' h1 h2;simp only[Option.some.injEq,Prod.mk.injEq]at h;obtain⟨rfl,rfl⟩:=h;obtain⟨u,g1,g2⟩:=afP hi h1 hC.1;obtain⟨us,g3,g4⟩:=OZ hi h2 hC.2;refine⟨u::us,?_,by simp only[aP];exact⟨u,us,rfl,g2,g4⟩⟩;rw[List.mapM_cons,Sem.run_bind,g1];simp only[Result.andThen_ok,Sem.run_bind,g3,Sem.run_pure]
   ·simp at h
theorem Fin.done{fn:Func}{r:TV}{xs:List It}{ro:List (Nat×It)}{l:List (Pl×It)}{C:Prop}(hres:ahy P (look l) fn.results.toList=some (C,r))(hC:C)(hr:r.only (· ∈jy (oL ro)))
  (hs:Sub (look l) (xL xs 0++oL ro)) (hx:jP (xL xs 0++oL ro)=jP l) (ho:jy (xL xs 0++oL ro)=jy (oL ro)):Fin P A fn r xs ro (look l):=fun a w ⟨E,hw,hi⟩=>by
 subst hw;have hi2:=hi.forget hs (abq hs.1 hx);rw[ho]at hi2
 have hH:jQ (E.res (jy (oL ro))) (h_ xs ro):=hi2.h.congr fun p hp=>by
  cases p with
  | s k=>exact absurd rfl (hp k)
  | x i=>
    rw[ahV];simp only[h_,Nat.zero_le,true_and,Nat.zero_add,Nat.sub_zero];split
    ·rfl
    ·rename_i h;rw[S_ (fun k e=>by simp at e),List.getD,List.getElem?_eq_none (by omega)];rfl
  | o k=>rw[Jl (fun j e=>by simp at e),ai7];rfl
 have hrun:∃u,(results fn a.tmps).run P E.w = .ok u E.w∧aA E r u:=by
  unfold ahy at hres;rw[aaZ];have hm:∀l:List ResultVar,l.toArray.mapM (adx a)=Functor.map List.toArray (l.mapM (adx a)):=fun l=>List.mapM_toArray
  have hfn:fn.results=fn.results.toList.toArray:=by simp
  rw[hfn,hm];split at hres
  ·rename_i C' v hv;simp only[Option.some.injEq,Prod.mk.injEq]at hres;obtain⟨rfl,rfl⟩:=hres;obtain⟨us,g1,g2⟩:=OZ hi hv hC;simp only[aP]at g2;obtain⟨u,_,rfl,g3,rfl⟩:=g2;refine⟨u,?_,g3⟩;rw[Sem.run_bind,Sem.run_map,g1];simp
  ·rename_i C' vs hne hv;simp only[Option.some.injEq,Prod.mk.injEq]at hres;obtain⟨rfl,rfl⟩:=hres;obtain⟨us,g1,g2⟩:=OZ hi hv hC;refine⟨.tuple us.toArray,?_,by simp only[aA];exact⟨us.toArray,rfl,by simpa using g2⟩⟩;have hl:=g2.length;have hl1:vs.length≠1:=fun h=>by
    match vs,h with
    | [v],_=>exact hne _ rfl
   rw[Sem.run_bind,Sem.run_map,g1];have :¬(us.length=1):=by omega
   simp[this]
  ·simp at hres
 obtain⟨u,h1,h2⟩:=hrun;exact⟨u,E.res (jy (oL ro)),h1,rfl,hH,hi2.fr,aA.ext (En.Xq E _) _ _ hr h2⟩
theorem aj{f:FuncId}{fn:Func}{c:Code}{args:List TV}{xs:List It}{r:TV}{xs':List It}{ro:List (Nat×It)}(hf:P.funcs[f]? = some fn)(hb:fn.body=some c)
  (h:∀E0,AW P ⟨E0,fn.ntmps⟩ c (fin P ⟨E0,fn.ntmps⟩ fn r xs' ro) (look (UN args 0++xL xs 0))):Contract P f args xs r xs' ro:=fun E us hH hargs=>by
 refine calls_of_wp hf hb (Code.wp_mono (fun e a w hq=>?_) (h E {tmps:=us.toArray++Array.replicate (fn.ntmps-us.toArray.size) undef,defers:=[]} E.w ⟨E,rfl,⟨?_,?_,?_,rfl,?_⟩⟩))
 ·obtain⟨t,hi,hq⟩:=hq;have key:Fin P ⟨E,fn.ntmps⟩ fn r xs' ro t→a.defers = []∧∃v,(results fn a.tmps).run P w = .ok v w∧∃u E',Ending.returned v = .returned u∧E'.w=w∧Post E xs' ro r u E':=fun hF=>by
   obtain⟨u,E',h1,h2,h3⟩:=hF a w hi;obtain⟨E1,_,hi1⟩:=hi;exact⟨hi1.defers,u,h1,u,E',rfl,h2,h3⟩
  cases e<;>first
   | exact hq.elim
   | exact key hq
 ·refine hH.congr fun p hp=>?_
  rw[Rn hp];cases p with
  | s k=>exact absurd rfl (hp k)
  | x i=>
    have:=ahV (i:=i) (l:=xs) (n:=0) (m:=[]);rw[List.append_nil]at this
    rw[this];simp only[NR,Nat.zero_le,true_and,Nat.zero_add,Nat.sub_zero];split
    ·rfl
    ·rename_i h;rw[List.getD,List.getElem?_eq_none (by omega)];rfl
  | o k=>
    have:=Jl (l:=xs) (n:=0) (m:=[]) (p:=.o k) (fun j e=>by simp at e);rw[List.append_nil]at this
    rw[this];rfl
 ·have hno:∀id,E.own (.o id)=none:=fun id=>by
   have:=hH.item (.o id) (by simp);obtain⟨h1,h2⟩:=this id rfl;simp[En.own,h1,h2]
  exact⟨rfl,rfl,rfl,Nat.le_refl _,fun _ _ _ _=>rfl,fun _=>rfl,fun id b hb=>by rw[hno]at hb;simp at hb,fun _ _ h=>h,fun _ _ h=>.inl h⟩
 ·intro k tv hk;rw[Z4]at hk
  simp only[Nat.zero_le,true_and,Nat.zero_add,Nat.sub_zero]at hk;have hx:look (xL xs 0) (.s k) = .none:=by
   have:=Jl (l:=xs) (n:=0) (m:=[]) (p:=.s k) (fun j e=>by simp at e);rw[List.append_nil]at this
   rw[this];rfl
  split at hk
  ·rename_i hlt;have hak:args[k]? = some args[k]:=List.getElem?_eq_getElem hlt;rw[hak]at hk
   simp only[It.v.injEq]at hk;subst hk;obtain⟨u,h1,h2⟩:=hargs.get hak;refine⟨u,?_,h2⟩;have hl:k<us.length:=by rw[hargs.length];exact hlt
   rw[Array.getElem?_append_left (by simpa using hl)];simpa using h1
  ·rw[hx]at hk;simp at hk
 ·simp;omega
end
end Go.Tr

namespace Go.Tr
open Go
theorem acu{N:Nat}{o:Oper}{gp:List Pl}{e:Eff}{k:List Pl→List (Pl×It)→Prop}{g:Tg k}:V_ N o gp (some e) k g=(pz N o=true∧e.C∧k (gp++e.rp) (xA o e.v e.W)):=rfl
theorem adW{N:Nat}{o:Oper}{gp:List Pl}{b:Bool}{X:List Pl→Prop}{k:List Pl→List (Pl×It)→Prop}{x:Tg X}{g:Tg k}:AGv N o (some (gp,b)) X k x g=qM b (X gp) (pz N o=true∧k gp (xA o (.c undef) [])) .mk .mk:=rfl
theorem Zw{b:Bool}{X Y:Prop}{x:Tg X}{y:Tg Y}:adU (some b) X Y x y=qM b X Y .mk .mk:=rfl
theorem look_nil(p:Pl):look [] p = .none:=rfl
theorem adg(q:Pl)(i:It)(l:List (Pl×It))(p:Pl):look ((q,i)::l) p=if p=q then i else look l p:=rfl
theorem adb(kp:Nat→Bool):rO kp [] = []:=rfl
theorem abR(kp:Nat→Bool)(k:Nat)(i:It)(l:List (Pl×It)):rO kp ((.s k,i)::l)=if kp k then(.s k,i)::rO kp l else rO kp l:=rfl
theorem Xa(kp:Nat→Bool)(k:Nat)(i:It)(l:List (Pl×It)):rO kp ((.o k,i)::l)=(.o k,i)::rO kp l:=rfl
theorem abS(kp:Nat→Bool)(k:Nat)(i:It)(l:List (Pl×It)):rO kp ((.x k,i)::l)=(.x k,i)::rO kp l:=rfl
theorem abf(K:S→Prop)(Q:Exit→S→Prop)(t:S):thn K Q .normal t=K t:=rfl
theorem ahJ(K:S→Prop)(Q:Exit→S→Prop)(t:S):thn K Q .ret t=Q .ret t:=rfl
theorem agi(K:S→Prop)(Q:Exit→S→Prop)(t:S)(n:Nat):thn K Q (.exit n) t=Q (.exit n) t:=rfl
theorem afX(Q:Exit→S→Prop)(t:S):ak_ Q .ret t=Q .ret t:=rfl
theorem XV(Q:Exit→S→Prop)(t:S)(b:Nat):ad9 b Q .normal t=Q .normal t:=rfl
theorem ad_(Q:Exit→S→Prop)(t:S)(b:Nat):ad9 b Q .ret t=Q .ret t:=rfl
theorem acJ(Q:Exit→S→Prop)(t:S)(b n:Nat):ad9 b Q (.exit n) t=if n=b then Q .normal t else Q (.exit n) t:=rfl
theorem Zy{X:Prop}{Y:List Pl→List (Pl×It)→Prop}{x:Tg X}{y:Tg Y}:U2 .none X Y x y=X:=rfl
theorem Zz{C:Prop}{rp:List Pl}{W:List (Pl×It)}{X:Prop}{Y:List Pl→List (Pl×It)→Prop}{x:Tg X}{y:Tg Y}:U2 (.some C rp W) X Y x y=(C∧Y rp W):=rfl
theorem acy:VR.none.C=True:=rfl
theorem acA:VR.none.W = []:=rfl
theorem acz(C:Prop)(rp:List Pl)(W:List (Pl×It)):(VR.some C rp W).C=C:=rfl
theorem acB(C:Prop)(rp:List Pl)(W:List (Pl×It)):(VR.some C rp W).W=W:=rfl
attribute [simp] Zy Zz acy acz acA acB pF Hg wZ undef Zd Jb eqT eqL u8s G9
theorem acv{P:Program}{ops:Array Oper}{L:Log}{X:Prop}:aip P ops L X true=(X∧(P.follows .mixedOrders=true∧O_ ops (shapes L []))):=rfl
theorem Zx{P:Program}{ops:Array Oper}{L:Log}{X:Prop}:aip P ops L X false=X:=rfl
theorem ais{P:Program}{A:eX}{ow:List Nat}{ops:Array Oper}{o:Oper}{i:Nat}{t:S}{k:List Pl→List (Pl×It)→Prop}{g:Tg k}:AOp P A ow ops o i t k g =
  AGv A.N o (gv ops t o) (fun gp=>U2 (pF t (wZ ow o.op)) (qM (isGo o.op) (qM (ac6 ow o.op) (Ho P A ops i t k .mk) (ah P A ops i t k .mk) .mk .mk) (qM (ac5 o.op) (Ho P A ops i t k .mk) (V_ A.N o gp (eff P ow t o) k .mk) .mk .mk) .mk .mk)
  (fun rp0 W0=>qM (isGo o.op) (ah P A ops i (over t W0) (fun rp W=>k (rp0++rp) (W++W0)) .mk)
  (V_ A.N o gp (eff P ow (over t W0) o) (fun rp W=>k (rp0++rp) (W++W0)) .mk) .mk .mk) .mk .mk) k .mk .mk:=rfl
attribute [simp] and_assoc List.getElem?_cons_zero List.getElem?_cons_succ acv Zx shapes acu adW Zw yB rX cO Hq ais gv isGo ac5 ac6 ai5 U1 QB eff ev pl look_nil adg iI eU over xA pz aeg abf ahJ agi XV ad_ acJ afX Jw adb abR Xa abS UN xL gev Yx WL ZP ad7 agD aiu Qp QM aeu unD WH ZT Gh Q8 Gi Q9 Kv cellsOf WJ Rf ZR aci Oi QZ ZQ Q5 Eo Q_ Oo EK WG Kw Om Gl Ol Ia Ep Q7 Oj uq zu UW Pz toKey adQ Gj lkV JR OE WI TV.cells TV.one setAt partT ab3 lu lH plO WB Kq
end Go.Tr
