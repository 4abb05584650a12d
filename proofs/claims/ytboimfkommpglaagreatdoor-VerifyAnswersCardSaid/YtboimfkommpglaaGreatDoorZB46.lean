/-
  What functions of the program compute, stated as contracts over plain data; the conditions of each stand in its own statement.
-/
import Derived.Test.YtboimfkommpglaaGreatDoorZB30
import Derived.Test.YtboimfkommpglaaGreatDoorZB29
import Derived.Test.YtboimfkommpglaaGreatDoorZB45
import Derived.Test.YtboimfkommpglaaGreatDoorZB25
import Derived.Test.YtboimfkommpglaaGreatDoorZB24
import Derived.Test.YtboimfkommpglaaGreatDoorZB10
set_option linter.unusedSimpArgs false
set_option linter.unusedVariables false
namespace Go.Tr
open Go Go.Proofs
theorem Eu(es:List (List Int×TV)):(qW es).length=es.length:=by simp[qW]
theorem yN{a b:List Int}(h:a.Perm b):(a.mergeSort fun x y=>decide (x≤y))=b.mergeSort fun x y=>decide (x≤y):=by grind[List.Perm.eq_of_pairwise,List.pairwise_mergeSort,List.mergeSort_perm]
theorem Ez{E:En}{es:List (List Int×TV)}{l' l:List MapEntry}(hp:l'.Perm l)(h:nH E es l')(hk:∀x∈es,x.1.length=1):∃ks:List Int,l.map (·.key)=ks.map (Value.int .i64)∧ks.Perm (es.map fun x=>x.1.headD 0):=by
 have key:∀x∈es,jX x.1=Value.int .i64 (x.1.headD 0):=fun x hx=>by
  have:=hk x hx
  match e:x.1,this with
  | [k],_=>rfl
 have h1:=EC h
 let f:MapEntry→Int:=fun a=>match a.key with|.int _ n=>n|_=>0
 have h2:∀a∈l',a.key=Value.int .i64 (f a):=by grind[List.mem_map_of_mem]
 refine⟨l.map f,?_,?_⟩
 ·grind[List.map_congr_left]
 ·have h3:l'.map (fun a=>Value.int .i64 (f a))=es.map fun x=>Value.int .i64 (x.1.headD 0):=by grind[List.map_congr_left]
  have h4:=congrArg (List.map fun v:Value=>match v with|.int _ n=>n|_=>0) h3
  grind[Function.comp_def]
section
variable {P:Program} {A:jL} {ops:Array Oper}
theorem Sum.sortedK{t:S}{i d:Nat}{o:Oper}{gp:List Pl}{fo x:Operand}{tys:Array TypeId}{f fK g:FuncId}{e:TypeId}{id:Nat}{p:Pl}{es:List (List Int×TV)}{c:Nat}{pd:Option (List Int)}{sn:Option oO}
  (ho:ops[i]? = some o) (hg:gv ops t o=some (gp,true)) (hd:qj A.N o=true) (hop:o.op = .call {callee:=.value fo,args:=#[x],argTypes:=tys}) (hf:ev t fo = .clo f []) (hfn:dP P f=true)
  (C:DY P fK f g e) (hx:ev t x = .clo g [.ptr p 0]) (hpl:vY p=true) (hp:t p = .box [.mref id]) (hm:t (.o id) = .jA es c pd sn) (hk:∀x∈es,x.1.length=1∧I64 (x.1.headD 0)) (hl:es.length≤1000000) (ht:t (.o d) = .none) :
  Sum P A ops i t (gp++(pl fo++(pl x++[p,.o id,.o d]))) (wF o (.bK d es.length) [(.o d,.row e 1 (dd (fE .i64 (qW es))) false)]):=fun t' hr a w ⟨E,hw,hi⟩ K Q hK=>by
 subst hw;have hwant:=oQ hg (dw hr) hi;have hr1:=bg hr;have hr2:=bg hr1;have hr3:=bg hr2;have hfo:ev t' fo = .clo f []:=(fZ (dw hr1)).trans hf;have hx':ev t' x = .clo g [.ptr p 0]:=(fZ (dw hr2)).trans hx;have hp':t' p = .box [.mref id]:=(hr3 _ (by simp)).trans hp;have hm':t' (.o id) = .jA es c pd sn:=(hr3 _ (by simp)).trans hm
 have ht':t' (.o d) = .none:=(hr3 _ (by simp)).trans ht;have hfr:=dS hi fo;rw[hfo]at hfr
 simp only[aV,b_]at hfr;obtain⟨vF,Cb,wY⟩:=hfr;obtain rfl:vF = #[]:=by cases vF;simpa using wY
 have hxr:=dS hi x;rw[hx']at hxr
 simp only[aV,b_]at hxr;obtain⟨us,hu,u0,us',hus,⟨b0,hb0,hu0⟩,OB⟩:=hxr;subst OB hu0;obtain rfl:us = #[.pointer (some ⟨b0,0,none⟩)]:=by cases us;simpa using hus
 have hbox:=hi.h.item p (fun k e=>by subst e;simp[vY]at hpl);rw[hp']at hbox
 obtain⟨_,b1,ty,cs,hb1,hh1,hsz,hc1⟩:=hbox;rw[hb0]at hb1
 simp only[aj]at hb1;subst hb1;obtain⟨⟨u1,hg1,_,hr1'⟩,_⟩:=hc1;simp only[aV]at hr1';obtain⟨b2,hb2,hu1⟩:=hr1';subst hu1;have hit:=hi.h.item (.o id) (fun k e=>by simp at e);rw[hm']at hit
 obtain⟨id',b3,l,clock,l',_,_,hpe,hb3,hh3,hperm,hrel,hst,_⟩:=hit;obtain rfl:id=id':=by simpa using hpe
 rw[hb2]at hb3
 simp only[aj]at hb3;subst hb3;obtain⟨ks,hks,hkp⟩:=Ez hperm hrel fun x hx=>(hk x hx).1
 have hcell:E.w.cell? ⟨b0,0,none⟩ = some (.map (some b2)):=by rw[xE hh1];simpa using hg1
 have hlt:b0<E.w.heap.size:=(bZ.1 hh1).1;unfold wpOp;simp only[ho,hwant,if_true];refine .inl ?_;unfold Oper.wp;have hrun:(execOp a.eval o).run P E.w = .ok (.enter f #[.func (.func g) #[] #[.pointer (some ⟨b0,0,none⟩)]]) E.w:=by simp only[execOp,hop,resolve,Cb,Deferred.ofValue,invoke,Sem.run_bind,Sem.run_pure,Result.andThen_ok,iy,iF,jH hfn,hu,Array.map,kM];simp[hu,jH hfn]
 rw[hrun];simp only[Oper.upon];have hwf:∀k∈ks,(Lit.int .i64 k).wf=true:=fun k hk'=>by
  obtain⟨x,hx,rfl⟩:=ay.1 (hkp.mem_iff.1 hk');have:=(hk x hx).2;simp only[Lit.wf,aP,decide_eq_true_eq];have m1:IntKind.i64.min = -9223372036854775808:=by decide
  have m2:IntKind.i64.max=9223372036854775807:=by decide
  exact⟨by have:=this.1;omega,by have:=this.2;omega⟩
 have ag2:ks.length=es.length:=by rw[hkp.length_eq,aN]
 refine(C.sorted b0 b2 l clock ks E.w hlt hcell hh3 hst hks hwf (by omega)).mono fun e' w' ⟨v,he,hown,hbel⟩=>?_
 rw[show(ks.mergeSort fun x y=>decide (x≤y))=qW es from yN hkp,ag2]at hown
 subst he;have hgr:E.w.grownBy w' none:=⟨hbel.os,hbel.tape,hbel.output,hbel.size,fun k hk _=>hbel.block k hk⟩
 have hkl:(dd (fE .i64 (qW es))).length=es.length:=by rw[Dn,Eu]
 obtain⟨E',hw2,x',hinv,hval⟩:=hi.A_ ht' (es:=dd (fE .i64 (qW es))) (v:=v) (us:=(qW es).map (Value.int .i64)) (e:=e) (k:=1) (w':=w') hgr
  (by rw[hkl];simpa[qW]using hown) (fun E' _ _=>yO (by simp))
 refine hK _ _ ⟨E',hw2,?_⟩;refine iI.dst (W:=[(.o d,.row e 1 (dd (fE .i64 (qW es))) false)]) hinv hd ?_;simp only[aV];have h1:v.oneCell'=true:=by rcases hown.2 with⟨rfl,_⟩|⟨g,cap,cur,rfl,_⟩<;>rfl
 rw[hkl]at hval
 exact⟨h1,1,es.length,v,hval,aI _,fun _=>rfl⟩
theorem aF.sortedK{i:Nat}{t:S}{k:List Pl→List (Pl×It)→Prop}{gt:Tg k}{f fK g:FuncId}{e:TypeId}(C:DY P fK f g e)
  (h:UW k gt (aad t ops (fun o gp gd fo x=>sortK P A.N t o f g e gp gd fo x) ops[i]?)):aF P A ops i t k gt:=
 aF.one (fun o gp gd fo x tys D rp W ho hg hop hc h1=>by
  unfold sortK at hc;split at hc
  ·rename_i f' caps hf;split at hc
   ·rename_i g' p hx;split at hc
    ·rename_i id hp;split at hc
     ·rename_i es cc pd sn hm;split at hc
      ·rename_i d hod;simp only[aj,aK]at hc;obtain⟨rfl,rfl,rfl⟩:=hc;obtain⟨rfl,q1,rfl,rfl,q2,rfl,q3,q4,q5,q6⟩:=h1;exact Sum.sortedK ho hg q1 hop hf q2 C hx q3 hp hm q4 q5 q6
      trivial
     trivial
    trivial
   trivial
  trivial) h
end
end Go.Tr

namespace Go.Proofs
open Go Go.Tr
def RM(es:List Ed):IM:=es.foldl (fun m e=>pI m e.id e.r) []
theorem KD{es:List Ed}{k:Nat}{e:Ed}(h:es[k]? = some e):RM (es.take (k+1))=pI (RM (es.take k)) e.id e.r:=by unfold RM;rw[aO,h,fJ,g_];rfl
theorem Po:∀(m:IM) (k v q:Int),gI (pI m k v) q=if q=k then some v else gI m q
 | [],k,v,q=>by rfl
 | x::m,k,v,q=>by
   have ih:=Po m k v q;by_cases h:k=x.1
   ·grind[pI,gI]
   ·by_cases h2:q=k
    ·grind[pI,gI]
    ·grind[pI,gI]
theorem Gu:∀(es:List Ed) (m:IM) (q:Int),(es.map (·.id)).Nodup→gI (es.foldl (fun m e=>pI m e.id e.r) m) q=((es.find? fun e=>decide (e.id=q)).map (·.r)).or (gI m q)
 | [],m,q,_=>by simp
 | e::es,m,q,h=>by
   rw[aH,dG]at h
   rw[cO,Gu es _ q h.2,Po,iC]
   grind
theorem QU{p:Pn}(h:(p.es.map (·.id)).Nodup)(id:Int):(gI (RM p.es) id).getD 0=own p id:=by grind[RM,own,Gu,gI]
def dO(l:List An):List Int:=(jS l).foldl (fun s a=>if a.id∈s then s else s++[a.id]) []
theorem sW{l:List An}{i:Nat}{a:An}(h:l[i]? = some a):dO (l.take (i+1))=if a.kd=1 then(if a.id∈dO (l.take i)then dO (l.take i)else dO (l.take i)++[a.id])else dO (l.take i):=by
 unfold dO jS;rw[aO,h,bJ,fJ,g_]
 grind
theorem sV:∀(d:List An) (s:List Int),s.Nodup→(d.foldl (fun s a=>if a.id∈s then s else s++[a.id]) s).Nodup∧∀x,x∈d.foldl (fun s a=>if a.id∈s then s else s++[a.id]) s↔x∈s∨x∈d.map (·.id)
 | [],s,h=>⟨h,by simp⟩
 | a::d,s,h=>by
   have h1:(if a.id∈s then s else s++[a.id]).Nodup∧∀x,x∈(if a.id∈s then s else s++[a.id])↔x∈s∨x=a.id:=by grind
   obtain⟨h2,h3⟩:=sV d _ h1.1
   grind
theorem uD(l:List An):(dO l).Nodup:=(sV (jS l) [] oN).1
theorem qY{l:List An}{x:Int}:x∈dO l↔x∈(jS l).map (·.id):=by simp[sV,dO]
theorem yQ(l:List An):(dO l).length≤l.length:=by
 have key:∀(d:List An) (s:List Int),(d.foldl (fun s a=>if a.id∈s then s else s++[a.id]) s).length≤s.length+d.length:=fun d=>by
  induction d with
  | nil=>simp
  | cons a d ih=>grind
 grind[jS,dO]
theorem Gw{a b:List Int}(ha:a.Pairwise (· < ·))(hb:b.Pairwise (· < ·))(h:∀x,x∈a↔x∈b):a=b:=by
 have na:a.Nodup:=ha.imp fun h=>by omega
 have nb:b.Nodup:=hb.imp fun h=>by omega
 have hp:a.Perm b:=by grind
 exact hp.eq_of_pairwise (le:=(· < ·)) (fun x y _ _ h1 h2=>by omega) ha hb
theorem GZ(l:List An):(oz l).Pairwise (· < ·):=by simp[Du,wO]
theorem CW(l:List An):((dO l).mergeSort fun x y=>decide (x≤y))=oz l:=by
 have hp:=jd (dO l) fun x y=>decide (x≤y)
 have hn:((dO l).mergeSort fun x y=>decide (x≤y)).Nodup:=hp.nodup_iff.2 (uD l);have hs:=Aq (dO l);refine Gw ?_ (GZ l) fun x=>by rw[hp.mem_iff,qY,sK]
 have:=hs.and (dI.1 hn)
 grind
def iP(l:List An)(id:Int):List Int:=(jF l id).map (·.rt)
theorem sU{l:List An}{i:Nat}{a:An}(h:l[i]? = some a)(id:Int):iP (l.take (i+1)) id=iP (l.take i) id++if a.kd=1∧a.id=id then [a.rt]else []:=by
 unfold iP jF jS;rw[aO,h,fJ,bJ,bJ,fH]
 grind
theorem EU{l:List An}{id:Int}(h:id∉dO l):iP l id = []:=by
 have:jF l id = []:=fU.2 fun a ha=>by simp only[decide_eq_true_eq];intro e;exact h (qY.2 (ay.2 ⟨a,ha,e⟩))
 grind[iP]
theorem yP(l:List An)(id:Int):(iP l id).length≤l.length:=by simp only[iP,aN];exact aY (aQ _ _) (aQ _ _)
theorem ET(l:List An)(id:Int)(k:Nat):(iP l id).getD k 0=((jF l id).getD k ⟨0,0,0,0⟩).rt:=by
 simp only[iP,ak,bC]
 grind
theorem Nj{l:List An}{i:Nat}{a:An}(h:l[i]? = some a)(hk :¬a.kd=1):dO (l.take (i+1))=dO (l.take i)∧∀x,iP (l.take (i+1)) x=iP (l.take i) x:=
 ⟨by rw[sW h,if_neg hk],fun x=>by rw[sU h,if_neg (fun e=>hk e.1),aZ]⟩
theorem Ir{l:List An}{i:Nat}{a:An}(h:l[i]? = some a)(hk:a.kd=1)(hm:a.id∈dO (l.take i)):
  dO (l.take (i+1))=dO (l.take i)∧∃j0,j0<(dO (l.take i)).length∧(dO (l.take i)).getD j0 0=a.id∧
   ∀j,j<(dO (l.take i)).length→iP (l.take (i+1)) ((dO (l.take i)).getD j 0)=if j=j0 then iP (l.take i) ((dO (l.take i)).getD j0 0)++[a.rt]else iP (l.take i) ((dO (l.take i)).getD j 0):=by
 refine⟨by rw[sW h,if_pos hk,if_pos hm],?_⟩;have hnd:=uD (l.take i);generalize dO (l.take i)=ks at hm hnd;obtain⟨j0,hj0,e0⟩:=cu.1 hm;have hg:∀j (hj:j<ks.length),ks.getD j 0=ks[j]:=by simp_all
 refine⟨j0,hj0,by rw[hg j0 hj0,e0],fun j hj=>?_⟩;rw[sU h];by_cases e:j=j0
 ·simp[*]
 ·rw[if_neg e,if_neg,aZ];rintro⟨_,e2⟩;have h2:=bT.1 (dI.1 hnd)
  grind
theorem Iq{l:List An}{i:Nat}{a:An}(h:l[i]? = some a)(hk:a.kd=1)(hm:a.id∉dO (l.take i)):
  dO (l.take (i+1))=dO (l.take i)++[a.id]∧(∀j,j<(dO (l.take i)).length→(dO (l.take (i+1))).getD j 0=(dO (l.take i)).getD j 0)∧(dO (l.take (i+1))).getD (dO (l.take i)).length 0=a.id∧
   (∀j,j<(dO (l.take i)).length→iP (l.take (i+1)) ((dO (l.take i)).getD j 0)=iP (l.take i) ((dO (l.take i)).getD j 0))∧iP (l.take (i+1)) a.id = [a.rt]:=by
 have e:dO (l.take (i+1))=dO (l.take i)++[a.id]:=by rw[sW h,if_pos hk,if_neg hm]
 have hn:=EU hm;have hr:=fun x=>sU h x
 grind
end Go.Proofs

namespace Go.Proofs
open Go Go.Tr Go.RowKit Go.Maps Go.Sort Go.Shelf
theorem Nl(m:Nat):AnyZI.SortsIn Tryz.prog Tryz.vK Fence.wide m:=
 ⟨fun blk off cap ss W hH hblk hsz=>callsIn_wide.2 (AnyM.slices_Sort_int Tryz.Tz blk off cap ss W hH hblk hsz),
  fun p cap W=>callsIn_wide.2 (AnyM.slices_Sort_int_none Tryz.Tz p cap W)⟩
def zX:Value→Option (DataW Unit×List MemPlace):=fun _=>some (.nil,[])
theorem Hr{k:TypeId}(hk:Tryz.prog.underlying k=some (.int .i64)):∀{l:List MapEntry} {ks:List Int},l.map (·.key)=ks.map (Value.int .i64)→(∀k∈ks,(Lit.int .i64 k).wf=true)→
  (∀x∈l,∃y,Go.WideElems.rd Tryz.prog k zX x=some y)∧l.map (Go.WideElems.rg Tryz.prog k zX)=ks.map fun n=>(Lit.int .i64 n,DataW.nil)
 | [],[],_,_=>⟨by simp,rfl⟩
 | [],_::_,h,_=>by simp at h
 | _::_,[],h,_=>by simp at h
 | a::l,n::ks,h,hw=>by
   simp only[aH,eH]at h;obtain⟨ih1,ih2⟩:=Hr hk h.2 fun k hk=>hw k (dM _ hk)
   have hr:Go.WideElems.rd Tryz.prog k zX a=some (Lit.int .i64 n,DataW.nil):=by unfold Go.WideElems.rd;rw[h.1,keyOf_int_mk hk (hw n (by simp))];rfl
   refine⟨fun x hx=>?_,?_⟩
   ·rcases aG.1 hx with rfl|hx
    ·exact⟨_,hr⟩
    ·exact ih1 x hx
   ·simp only[aH,ih2,Go.WideElems.rg_of hr]
theorem He:DY Tryz.prog 138 137 214 3:=by
 refine⟨fun b w=>(callsIn_wide.1 (AnyZI.keys_in Tryz.PD Fence.wide 5 trivial rfl (some b) w)).mono fun e' w' ⟨h1,h2⟩=>⟨_,h1,h2⟩,fun Bm b l clock ks w hlt hcell hh hst hkeys hwf hlen=>?_⟩;obtain⟨hrd,hrg⟩:=Hr (k:=3) Tryz.underlying3 hkeys hwf;have hl:l.size=ks.length:=by have:=congrArg List.length hkeys;simpa using this
 let D0:DataW Unit:=.map ((l.toList.map (Go.WideElems.rg Tryz.prog 3 zX)).foldr DataW.insert [])
 have hperm:(intKeys D0).Perm ks:=by
  have h1:=(Go.WideShapes.sorted_perm (l.toList.map (Go.WideElems.rg Tryz.prog 3 zX))).map fun p:Lit×DataW Unit=>Go.intOf p.1
  rw[hrg]at h1
  simp only[bQ]at h1;have h2:ks.map ((fun p:Lit×DataW Unit=>Go.intOf p.1)∘fun n=>(Lit.int .i64 n,DataW.nil))=ks:=by
   conv=>rhs;rw[←qP ks]
   exact bW fun _ _=>rfl
  rw[h2]at h1
  show(List.map (fun p:Lit×DataW Unit=>Go.intOf p.1) ((l.toList.map (Go.WideElems.rg Tryz.prog 3 zX)).foldr DataW.insert [])).Perm ks
  rw[hrg];exact h1
 have hsz:Maps.size D0=ks.length:=by
  show((l.toList.map (Go.WideElems.rg Tryz.prog 3 zX)).foldr DataW.insert []).length=_
  rw[length_sorted];simp[hl]
 have hown:w.ownsMap Tryz.prog 3 zX b l.size D0:=⟨l,clock,hh,⟨by simp only[maxLen];omega,hst,hrd⟩,aI _,rfl⟩
 have hseq:SeqGives Fence.wide 2 Tryz.prog 214 #[.pointer (some ⟨Bm,0,none⟩)] encZ (fun ss=>ss.Perm (intKeys D0)) (Maps.size D0) w:=
  AnyZI.keys_gives (ρ:=Tryz.yJ) {Tryz.PD with} Fence.wide _ trivial rfl (by omega) Bm b l.size D0 _ hlt hcell hown
 have cS:=AnyZI.sorted_in Tryz.LY Fence.wide 5 trivial trivial trivial trivial rfl (by omega) (Nl _) (enters_of Tryz.func213 (by kernel_rfl) rfl) 214 #[.pointer (some ⟨Bm,0,none⟩)] trivial (enters_of Tryz.func214 (by kernel_rfl) rfl) _ _ (by rw[hsz];simp only[maxLen];omega) (by rw[hsz];omega) _ hseq;refine(callsIn_wide.1 cS).mono fun e' w' ⟨v,ss,he,hS,hrow,_,hb⟩=>⟨v,he,?_,hb⟩
 have hp:ss.Perm ks:=hS.trans hperm;have hm:(ss.mergeSort fun x y=>decide (x≤y))=ks.mergeSort fun x y=>decide (x≤y):=yN hp
 rw[hp.length_eq,hm]at hrow
 exact hrow
end Go.Proofs
