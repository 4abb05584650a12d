/-
  What functions of the program compute, stated as contracts over plain data; the conditions of each stand in its own statement.
-/
import Derived.Test.YtboimfkommpglaaGreatDoorZA21
set_option linter.unusedSimpArgs false
set_option linter.unusedVariables false
namespace Go.Proofs
def aek(cp:Int→Bool)(go:Int→List Int×List Int→List Int×List Int)(s:List Int×List Int)(n:Int):List Int×List Int:=
 if n∈s.1 then s else if cp n=true then(s.1++[n],s.2++[n])else go n (s.1++[n],s.2)
structure pq(nx:Int→List Int)(cp:Int→Bool)(R:Int→Prop)(ns:List Int)(s s':List Int×List Int):Prop where
 sub:∀x∈s.1,x∈s'.1
 dn:∀n∈ns,n∈s'.1
 cl:∀x∈s'.1,x∈s.1∨cp x=true∨∀n∈nx x,n∈s'.1
 out:∀n,n∈s'.2↔n∈s.2∨(n∈s'.1∧n∉s.1∧cp n=true)
 nd:s.1.Nodup→s'.1.Nodup
 ndo:s.2.Nodup→(∀x∈s.2,x∈s.1)→s'.2.Nodup∧(∀x∈s'.2,x∈s'.1)
 via:∀x∈s'.1,x∈s.1∨R x
 len:s'.2.length+s.1.length≤s'.1.length+s.2.length
section
variable {nx:Int→List Int} {cp:Int→Bool} {R:Int→Prop}
theorem pq.refl{ns:List Int}{s:List Int×List Int}(h:∀n∈ns,n∈s.1):pq nx cp R ns s s:=
 ⟨fun _ h=>h,h,fun _ h=>.inl h,fun n=>⟨.inl,fun h=>h.elim id fun h=>absurd h.1 h.2.1⟩,id,fun h g=>⟨h,g⟩,fun _ h=>.inl h,by omega⟩
theorem pq.trans{a b:List Int}{s t u:List Int×List Int}(h:pq nx cp R a s t)(g:pq nx cp R b t u):pq nx cp R (a++b) s u:=by
 refine⟨fun x hx=>g.sub x (h.sub x hx),fun n hn=>?_,fun x hx=>?_,fun n=>?_,fun hn=>g.nd (h.nd hn),fun h1 h2=>?_,fun x hx=>?_,?_⟩
 ·rcases List.mem_append.1 hn with hn|hn
  ·exact g.sub n (h.dn n hn)
  ·exact g.dn n hn
 ·rcases g.cl x hx with h1|h1
  ·rcases h.cl x h1 with h2|h2|h2
   ·exact .inl h2
   ·exact .inr (.inl h2)
   ·exact .inr (.inr fun n hn=>g.sub n (h2 n hn))
  ·exact .inr h1
 ·rw[g.out,h.out];have hs:=h.sub n;have hg:=g.sub n;constructor
  ·rintro ((h1|⟨h1,h2,h3⟩)|⟨h1,h2,h3⟩)
   ·exact .inl h1
   ·exact .inr ⟨hg h1,h2,h3⟩
   ·exact .inr ⟨h1,fun e=>h2 (hs e),h3⟩
  ·rintro (h1|⟨h1,h2,h3⟩)
   ·exact .inl (.inl h1)
   ·by_cases e:n∈t.1
    ·exact .inl (.inr ⟨e,h2,h3⟩)
    ·exact .inr ⟨h1,e,h3⟩
 ·obtain⟨h3,h4⟩:=h.ndo h1 h2;exact g.ndo h3 h4
 ·rcases g.via x hx with h1|h1
  ·exact h.via x h1
  ·exact .inr h1
 ·have:=h.len;have:=g.len;omega
theorem KG{l:List Int}{n:Int}(h:l.Nodup)(hn:n∉l):(l++[n]).Nodup:=by
 rw[List.nodup_append];exact⟨h,by simp,fun a ha b hb e=>by
  obtain rfl:=List.mem_singleton.1 hb;subst e;exact hn ha⟩
theorem pq.one{go:Int→List Int×List Int→List Int×List Int}{n:Int}{s:List Int×List Int}(hR:R n)(hgo:cp n=false→∀s,pq nx cp R (nx n) s (go n s)):pq nx cp R [n] s (aek cp go s n):=by
 unfold aek;split
 ·rename_i h;exact pq.refl fun m hm=>by
   obtain rfl:=List.mem_singleton.1 hm;exact h
 ·rename_i h;split
  ·rename_i hc;refine⟨fun x hx=>by simp[hx],fun m hm=>by simp_all,fun x hx=>?_,fun m=>?_,fun hn=>KG hn h,fun h1 h2=>⟨KG h1 fun e=>h (h2 n e),fun x hx=>?_⟩,fun x hx=>?_,?_⟩
   ·rcases List.mem_append.1 hx with hx|hx
    ·exact .inl hx
    ·obtain rfl:=List.mem_singleton.1 hx;exact .inr (.inl hc)
   ·simp only[List.mem_append,List.mem_singleton];constructor
    ·rintro (h1|rfl)
     ·exact .inl h1
     ·exact .inr ⟨.inr rfl,h,hc⟩
    ·rintro (h1|⟨h1|h1,h2,_⟩)
     ·exact .inl h1
     ·exact absurd h1 h2
     ·exact .inr h1
   ·rcases List.mem_append.1 hx with hx|hx
    ·exact List.mem_append.2 (.inl (h2 x hx))
    ·exact List.mem_append.2 (.inr hx)
   ·rcases List.mem_append.1 hx with hx|hx
    ·exact .inl hx
    ·obtain rfl:=List.mem_singleton.1 hx;exact .inr hR
   ·simp only[List.length_append,List.length_singleton];omega
  ·rename_i hc;have hcf:cp n=false:=by simpa using hc
   have g:=hgo hcf (s.1++[n],s.2);refine⟨fun x hx=>g.sub x (by simp[hx]),fun m hm=>?_,fun x hx=>?_,fun m=>?_,fun hn=>g.nd (KG hn h),fun h1 h2=>g.ndo h1 fun x hx=>by simp[h2 x hx],fun x hx=>?_,?_⟩
   ·obtain rfl:=List.mem_singleton.1 hm;exact g.sub _ (by simp)
   ·rcases g.cl x hx with h1|h1
    ·rcases List.mem_append.1 h1 with h1|h1
     ·exact .inl h1
     ·obtain rfl:=List.mem_singleton.1 h1;exact .inr (.inr g.dn)
    ·exact .inr h1
   ·rw[g.out];simp only[List.mem_append,List.mem_singleton];constructor
    ·rintro (h1|⟨h1,h2,h3⟩)
     ·exact .inl h1
     ·exact .inr ⟨h1,fun e=>h2 (.inl e),h3⟩
    ·rintro (h1|⟨h1,h2,h3⟩)
     ·exact .inl h1
     ·refine .inr ⟨h1,fun e=>?_,h3⟩;rcases e with e|rfl
      ·exact h2 e
      ·exact hc h3
   ·rcases g.via x hx with h1|h1
    ·rcases List.mem_append.1 h1 with h1|h1
     ·exact .inl h1
     ·obtain rfl:=List.mem_singleton.1 h1;exact .inr hR
    ·exact .inr h1
   ·have:=g.len;simp only[List.length_append,List.length_singleton]at this;omega
end
end Go.Proofs

namespace Go.Tr
open Go
mutual
def TV.y5(ν:List Pl)(rs:List (Nat×Nat)):TV→Option TV
 | .junk=>some .junk
 | .d x=>some (.d x)
 | .c v=>some (.c v)
 | .agg vs=>match TV.qR ν rs vs with|some vs=>some (.agg vs)|none=>none
 | .rG _=>none
 | .aB id n=>match Xx rs id with|some j=>some (.aB j n)|none=>none
 | .ptr p q=>match YE p ν 0 with|some i=>some (.ptr (.x i) q)|none=>none
 | .ep e q=>some (.ep e q)
 | .rQ _ _ _ _=>none
 | .mref id=>match Xx rs id with|some j=>some (.mref j)|none=>none
 | .sx _=>none
 | .NS _ _ _=>none
 | .clo f vs=>match TV.qR ν rs vs with|some vs=>some (.clo f vs)|none=>none
def TV.qR(ν:List Pl)(rs:List (Nat×Nat)):List TV→Option (List TV)
 | []=>some []
 | v::vs=>match TV.y5 ν rs v,TV.qR ν rs vs with
   | some v,some vs=>some (v::vs)
   | _,_=>none
end
section
variable {P:Program} {A:eX}
def En.iP(E:En)(ν:List Pl)(rs:List (Nat×Nat)):En:=
 {w:=E.w,St:=E.St,blk:=fun p=>match p with|.x i=>(ν[i]?).bind E.blk|.o j=>(pO rs j).bind fun k=>E.blk (.o k)|_=>none,val:=fun j=>(pO rs j).bind E.val}
theorem Oa(E:En)(ν:List Pl)(rs:List (Nat×Nat)):J_ E (E.iP ν rs):=⟨fun _ _ h=>h,fun _ _ _=>rfl⟩
mutual
theorem OU{ν:List Pl}{rs:List (Nat×Nat)}{E:En}(hn:(rs.map (·.1)).Nodup):∀{v v':TV} {u:Value},v.y5 ν rs=some v'→aA E v u→aA (E.iP ν rs) v' u
 | .junk,v',u,h,_=>by simp only[TV.y5,Option.some.injEq]at h;subst h;simp only[aA]
 | .d x,v',u,h,hr=>by
   simp only[TV.y5,Option.some.injEq]at h;subst h;simp only[aA]at hr⊢;exact Rep.ext (Oa E ν rs) x u hr
 | .c v,v',u,h,hr=>by
   simp only[TV.y5,Option.some.injEq]at h;simp only[aA]at hr;subst hr;subst h;simp only[aA]
 | .agg vs,v',u,h,hr=>by
   simp only[TV.y5]at h;split at h
   ·rename_i vs' hv;simp only[Option.some.injEq]at h;subst h;simp only[aA]at hr⊢;obtain⟨us,hu,hs⟩:=hr;exact⟨us,hu,Gz hn hv hs⟩
   ·simp at h
 | .rG vs,v',u,h,_=>by simp[TV.y5]at h
 | .aB id n,v',u,h,hr=>by
   simp only[TV.y5]at h;split at h
   ·rename_i j hj;simp only[Option.some.injEq]at h;subst h;simp only[aA]at hr⊢;obtain⟨h1,k,c,v,h2,h3⟩:=hr;exact⟨h1,k,c,v,by simp only[En.iP,GY hn (Dp hj),Option.bind_some];exact h2,h3⟩
   ·simp at h
 | .ptr p q,v',u,h,hr=>by
   simp only[TV.y5]at h;split at h
   ·rename_i i hi;simp only[Option.some.injEq]at h;subst h;simp only[aA]at hr⊢;obtain⟨b,hb,hu⟩:=hr;obtain⟨_,h2⟩:=zS hi;exact⟨b,by simpa[En.iP,h2]using(by simpa using h2:ν[i]? = some p)▸hb,hu⟩
   ·simp at h
 | .ep e q,v',u,h,hr=>by
   simp only[TV.y5,Option.some.injEq]at h;subst h;simp only[aA]at hr⊢;obtain⟨b,o,hu,hc⟩:=hr;exact⟨b,o,hu,bQ.ext (Oa E ν rs) b o e hc⟩
 | .rQ _ _ _ _,v',u,h,_=>by simp[TV.y5]at h
 | .mref id,v',u,h,hr=>by
   simp only[TV.y5]at h;split at h
   ·rename_i j hj;simp only[Option.some.injEq]at h;subst h;simp only[aA]at hr⊢;obtain⟨b,h1,h2⟩:=hr;exact⟨b,by simp only[En.iP,GY hn (Dp hj),Option.bind_some];exact h1,h2⟩
   ·simp at h
 | .sx _,v',u,h,_=>by simp[TV.y5]at h
 | .NS _ _ _,v',u,h,_=>by simp[TV.y5]at h
 | .clo f vs,v',u,h,hr=>by
   simp only[TV.y5]at h;split at h
   ·rename_i vs' hv;simp only[Option.some.injEq]at h;subst h;simp only[aA]at hr⊢;obtain⟨us,hu,hs⟩:=hr;exact⟨us,hu,Gz hn hv hs⟩
   ·simp at h
theorem Gz{ν:List Pl}{rs:List (Nat×Nat)}{E:En}(hn:(rs.map (·.1)).Nodup):∀{vs vs':List TV} {us:List Value},TV.qR ν rs vs=some vs'→aP E vs us→aP (E.iP ν rs) vs' us
 | [],vs',us,h,hr=>by
   simp only[TV.qR,Option.some.injEq]at h;subst h;simpa only[aP]using hr
 | v::vs,vs',us,h,hr=>by
   simp only[TV.qR]at h;split at h
   ·rename_i v1 vs1 h1 h2;simp only[Option.some.injEq]at h;subst h;simp only[aP]at hr⊢;obtain⟨u,us',hu,g1,g2⟩:=hr;exact⟨u,us',hu,OU hn h1 g1,Gz hn h2 g2⟩
   ·simp at h
end
def aaP(ν:List Pl)(rs:List (Nat×Nat)):It→Option It
 | .box cs=>match TV.qR ν rs cs with|some cs=>some (.box cs)|none=>none
 | _=>none
def Bz(t:S)(ν:List Pl)(rs:List (Nat×Nat)):List Pl→Option (List It)
 | []=>some []
 | p::l=>match aaP ν rs (t p),Bz t ν rs l with
   | some i,some is=>some (i::is)
   | _,_=>none
theorem GH{t:S}{ν:List Pl}{rs:List (Nat×Nat)}:∀{l:List Pl} {xs:List It},Bz t ν rs l=some xs→xs.length=l.length∧∀(i:Nat) (p:Pl),l[i]? = some p→∃cs cs',t p = .box cs∧TV.qR ν rs cs=some cs'∧xs[i]? = some (.box cs')
 | [],xs,h=>by simp only[Bz,Option.some.injEq]at h;subst h;simp
 | p::l,xs,h=>by
   simp only[Bz]at h;split at h
   ·rename_i it is h1 h2;simp only[Option.some.injEq]at h;subst h;obtain⟨h3,h4⟩:=GH h2;refine⟨by simp[h3],fun i q hq=>?_⟩;cases i with
    | zero=>
      simp at hq;subst hq;unfold aaP at h1;split at h1
      ·rename_i cs hcs;split at h1
       ·rename_i cs' hcs';simp only[Option.some.injEq]at h1;subst h1;exact⟨cs,cs',hcs,hcs',by simp⟩
       ·simp at h1
      ·simp at h1
    | succ i=>simpa using h4 i q (by simpa using hq)
   ·simp at h
theorem KP{ν:List Pl}{rs:List (Nat×Nat)}:∀{vs vs':List TV},TV.qR ν rs vs=some vs'→vs'.length=vs.length
 | [],vs',h=>by simp only[TV.qR,Option.some.injEq]at h;subst h;rfl
 | v::vs,vs',h=>by
   simp only[TV.qR]at h;split at h
   ·rename_i h1 h2;simp only[Option.some.injEq]at h;subst h;simp[KP h2]
   ·simp at h
theorem KO{ν:List Pl}{rs:List (Nat×Nat)}{E:En}(hn:(rs.map (·.1)).Nodup){us:List Value}:∀{o:Nat} {vs vs':List TV},TV.qR ν rs vs=some vs'→bG E us o vs→bG (E.iP ν rs) us o vs'
 | o,[],vs',h,_=>by simp only[TV.qR,Option.some.injEq]at h;subst h;trivial
 | o,v::vs,vs',h,⟨⟨u,h1,h2,h3⟩,hr⟩=>by
   simp only[TV.qR]at h;split at h
   ·rename_i v1 vs1 g1 g2;simp only[Option.some.injEq]at h;subst h;exact⟨⟨u,h1,h2,OU hn g1 h3⟩,KO hn g2 hr⟩
   ·simp at h
def oI(ν:List Pl)(rs:List (Nat×Nat)):List (List TV)→Option (List (List TV))
 | []=>some []
 | e::es=>match TV.qR ν rs e,oI ν rs es with
   | some e,some es=>some (e::es)
   | _,_=>none
def GI(ν:List Pl)(rs:List (Nat×Nat)):List (List Int×TV)→Option (List (List Int×TV))
 | []=>some []
 | (k,v)::es=>match TV.y5 ν rs v,GI ν rs es with
   | some v,some es=>some ((k,v)::es)
   | _,_=>none
def TL(ν:List Pl)(rs:List (Nat×Nat)):It→Option It
 | .row e z es false=>match oI ν rs es with|some es=>some (.row e z es false)|none=>none
 | .jX es c pd none=>match GI ν rs es with|some es=>some (.jX es c pd none)|none=>none
 | _=>none
def ac9(i:It):Prop:=(∃e z es,i = .row e z es false)∨∃es c pd,i = .jX es c pd none
theorem PO{ν:List Pl}{rs:List (Nat×Nat)}{i i':It}(h:TL ν rs i=some i'):(∃e z es es',i = .row e z es false∧oI ν rs es=some es'∧i' = .row e z es' false)∨
  ∃es c pd es',i = .jX es c pd none∧GI ν rs es=some es'∧i' = .jX es' c pd none:=by
 unfold TL at h;split at h
 ·rename_i e z es;split at h
  ·rename_i es' hes;simp only[Option.some.injEq]at h;exact .inl ⟨e,z,es,es',rfl,hes,h.symm⟩
  ·simp at h
 ·rename_i es c pd;split at h
  ·rename_i es' hes;simp only[Option.some.injEq]at h;exact .inr ⟨es,c,pd,es',rfl,hes,h.symm⟩
  ·simp at h
 ·simp at h
theorem TK{ν:List Pl}{rs:List (Nat×Nat)}{E:En}(hn:(rs.map (·.1)).Nodup):∀{es es':List (List Int×TV)} {l:List MapEntry},GI ν rs es=some es'→jD E es l→jD (E.iP ν rs) es' l
 | [],_,_,h,hr=>by simp only[GI,Option.some.injEq]at h;subst h;exact hr
 | (k,v)::es,es',l,h,hr=>by
   simp only[GI]at h;split at h
   ·rename_i v1 es1 g1 g2;simp only[Option.some.injEq]at h;subst h;simp only[jD]at hr⊢;obtain⟨a,l',h1,h2,h3,h4⟩:=hr;exact⟨a,l',h1,h2,OU hn g1 h3,TK hn g2 h4⟩
   ·simp at h
theorem IQ{ν:List Pl}{rs:List (Nat×Nat)}:∀{es es':List (List TV)},oI ν rs es=some es'→es'.length=es.length
 | [],_,h=>by simp only[oI,Option.some.injEq]at h;subst h;rfl
 | e::es,_,h=>by
   simp only[oI]at h;split at h
   ·rename_i h1 h2;simp only[Option.some.injEq]at h;subst h;simp[IQ h2]
   ·simp at h
theorem Np{ν:List Pl}{rs:List (Nat×Nat)}{E:En}(hn:(rs.map (·.1)).Nodup){us:List Value}{k:Nat}:∀{o:Nat} {es es':List (List TV)},oI ν rs es=some es'→dK E us k o es→dK (E.iP ν rs) us k o es'
 | _,[],_,h,_=>by simp only[oI,Option.some.injEq]at h;subst h;trivial
 | _,e::es,_,h,⟨h1,h2,hr⟩=>by
   simp only[oI]at h;split at h
   ·rename_i g1 g2;simp only[Option.some.injEq]at h;subst h;exact⟨by rw[KP g1];exact h1,KO hn g1 h2,Np hn g2 hr⟩
   ·simp at h
def I4(t:S)(ν:List Pl)(rs:List (Nat×Nat)):List (Nat×Nat)→Option (List (Nat×It))
 | []=>some []
 | (j,k)::l=>match TL ν rs (t (.o k)),I4 t ν rs l with
   | some i,some r=>some ((j,i)::r)
   | _,_=>none
theorem Ua{t:S}{ν:List Pl}{rs:List (Nat×Nat)}{j:Nat}:∀{l:List (Nat×Nat)} {ri:List (Nat×It)},I4 t ν rs l=some ri→(pO l j=none→qx ri j = .none)∧∀k,pO l j=some k→TL ν rs (t (.o k))=some (qx ri j)
 | [],ri,h=>by
   simp only[I4,Option.some.injEq]at h;subst h;exact⟨fun _=>rfl,fun k h=>by simp[pO]at h⟩
 | (a,b)::l,ri,h=>by
   simp only[I4]at h;split at h
   ·rename_i i r h1 h2;simp only[Option.some.injEq]at h;subst h;obtain⟨g1,g2⟩:=Ua (j:=j) h2;simp only[pO,qx];by_cases e:j=a
    ·simp only[if_pos e];exact⟨fun h=>by simp at h,fun k h=>by simp only[Option.some.injEq]at h;subst h;exact h1⟩
    ·simp only[if_neg e];exact⟨g1,g2⟩
   ·simp at h
theorem O0{t:S}{ν:List Pl}{rs:List (Nat×Nat)}:∀{l:List (Nat×Nat)} {ri:List (Nat×It)},I4 t ν rs l=some ri→∀x∈l,ac9 (t (.o x.2))
 | [],_,_,x,hx=>by simp at hx
 | (a,b)::l,ri,h,x,hx=>by
   simp only[I4]at h;split at h
   ·rename_i i r h1 h2;rcases List.mem_cons.1 hx with rfl|hx
    ·rcases PO h1 with⟨e,z,es,_,h3,_⟩|⟨es,c,pd,_,h3,_⟩
     ·exact .inl ⟨e,z,es,h3⟩
     ·exact .inr ⟨es,c,pd,h3⟩
    ·exact O0 h2 x hx
   ·simp at h
theorem Ag{E:En}{ν:List Pl}{rs:List (Nat×Nat)}{p:Pl}{b:Nat}(h:(E.iP ν rs).own p=some b):
  (∃i q,p = .x i∧ν[i]? = some q∧E.blk q=some b∧E.own q=some b)∨(∃j k,p = .o j∧(j,k)∈rs∧pO rs j=some k∧E.own (.o k)=some b):=by
 cases p with
 | s k=>simp[En.own,En.iP]at h
 | x i=>
   left;unfold En.own at h;split at h
   ·rename_i b2 hb;simp only[Option.some.injEq]at h;subst h;have hb:(ν[i]?).bind E.blk=some b2:=hb;cases hp:ν[i]? with
    | none=>simp[hp]at hb
    | some p=>
      simp only[hp,Option.bind_some]at hb;exact⟨i,p,rfl,hp,hb,by simp[En.own,hb]⟩
   ·simp at h
 | o j=>
   right;simp only[En.own,En.iP]at h;cases hk:pO rs j with
   | none=>simp[hk]at h
   | some k=>
     simp only[hk,Option.bind_some]at h;exact⟨j,k,rfl,FC hk,hk,h⟩
theorem Sr{i:It}(h:ac9 i){cs:List TV}:i≠.box cs:=by
 rcases h with⟨e,z,es,rfl⟩|⟨es,c,pd,rfl⟩<;>simp
theorem abP{i:It}(h:ac9 i){e k:Nat}{es:List (List TV)}:i≠.row e k es true:=by
 rcases h with⟨e,z,es,rfl⟩|⟨es,c,pd,rfl⟩<;>simp
theorem ac_{i:It}(h:ac9 i):i≠.none:=by
 rcases h with⟨e,z,es,rfl⟩|⟨es,c,pd,rfl⟩<;>simp
theorem jQ.iP{t:S}{a:Act}{E:En}(hi:dL A t a E){ν:List Pl}{rs:List (Nat×Nat)}{qK:List It}(Aq:ν.Nodup)(hI:Bz t ν rs ν=some qK)(sJ:∀p∈ν,qw p=true)
  (hr1:(rs.map (·.1)).Nodup) (hr2:(rs.map (·.2)).Nodup) {ri:List (Nat×It)} (hrs:I4 t ν rs rs=some ri):jQ (E.iP ν rs) (h_ qK ri):=by
 obtain⟨hl0,hIs⟩:=GH hI;have hrow:∀{j k},(j,k)∈rs→ac9 (t (.o k)):=fun h=>O0 hrs _ h
 refine⟨fun p hps=>?_,fun k=>rfl,fun p q b' h1 h2=>?_,fun p b' h1=>?_,fun b' o h=>hi.h.oQ b' o h,fun b' o h p hp=>?_,fun y hy=>bQ.ext (Oa E ν rs) _ _ _ (hi.h.gl y hy)⟩
 ·cases p with
  | s k=>exact absurd rfl (hps k)
  | o j=>
    simp only[h_];obtain⟨hl1,hl2⟩:=Ua (j:=j) hrs;cases hk:pO rs j with
    | none=>rw[hl1 hk];exact fun id e=>by simp only[Pl.o.injEq]at e;subst e;exact⟨by simp[En.iP,hk],by simp[En.iP,hk]⟩
    | some k=>
      have hit:=hi.h.item (.o k) (by simp);rcases PO (hl2 k hk)with⟨e,z,es,es',h4,h5,h6⟩|⟨es,c,pd,es',h4,h5,h6⟩
      ·rw[h6];simp only[h4]at hit;obtain⟨g0,id,v,us,g1,g2,g3,g4⟩:=hit;simp only[Pl.o.injEq]at g1;subst g1;refine⟨by simp only[En.iP,hk,Option.bind_some];exact g0,j,v,us,rfl,by simp only[En.iP,hk,Option.bind_some];rw[IQ h5];exact g2,?_,Np hr1 h5 g4⟩;rw[IQ h5];exact g3
      ·rw[h6];simp only[h4]at hit;obtain⟨id,b,l,clock,l',ty,v,g1,g2,g3,g4,g5,g6,g7,g8,g9⟩:=hit;simp only[Pl.o.injEq]at g1;subst g1;exact⟨j,b,l,clock,l',ty,v,rfl,by simp only[En.iP,hk,Option.bind_some];exact g2,g3,g4,TK hr1 h5 g5,g6,by simp only[En.iP,hk,Option.bind_some];exact g7,g8,g9⟩
  | x i=>
    cases hp:ν[i]? with
    | none=>
      have:qK.length≤i:=by rw[hl0];exact List.getElem?_eq_none_iff.1 hp
      simp only[h_,List.getD,List.getElem?_eq_none this,Option.getD_none];exact fun id h=>by simp at h
    | some p=>
      obtain⟨cs,cs',h1,h2,h3⟩:=hIs i p hp;have hpm:=List.mem_of_getElem? hp;simp only[h_,List.getD,h3,Option.getD_some];have RX:∀k,p≠.s k:=fun k e=>by subst e;have:=sJ _ hpm;simp[qw]at this
      have hit:=hi.h.item p RX;rw[h1]at hit
      obtain⟨_,b',ty,us,g1,g2,g3,g4⟩:=hit;refine⟨fun id h=>by simp at h,b',ty,us,?_,g2,by rw[g3,KP h2],KO hr1 h2 g4⟩
      show(ν[i]?).bind E.blk=some b'
      rw[hp];exact g1
 ·rcases Ag h1 with⟨i,p',rfl,k1,_,k2⟩|⟨j,k,rfl,m1,_,o1⟩<;>rcases Ag h2 with⟨i',q',rfl,k3,_,k4⟩|⟨j',k',rfl,m2,_,o2⟩
  ·have:=hi.h.inj p' q' b' k2 k4;subst this;have e1:=(List.getElem?_eq_some_iff.1 k1).2;have e2:=(List.getElem?_eq_some_iff.1 k3).2;rw[(List.getElem_inj Aq).1 (e1.trans e2.symm)]
  ·have:=hi.h.inj p' (.o k') b' k2 o2;subst this;obtain⟨cs,_,g1,_⟩:=hIs i _ k1;exact absurd g1 (Sr (hrow m2))
  ·have:=hi.h.inj q' (.o k) b' k4 o1;subst this;obtain⟨cs,_,g1,_⟩:=hIs i' _ k3;exact absurd g1 (Sr (hrow m1))
  ·have:=hi.h.inj (.o k) (.o k') b' o1 o2;simp only[Pl.o.injEq]at this;subst this;rw[JI hr2 m1 m2]
 ·rcases Ag h1 with⟨i,p',rfl,k1,_,k2⟩|⟨j,k,rfl,m1,_,o1⟩
  ·exact hi.h.size p' b' k2
  ·exact hi.h.size _ b' o1
 ·rcases Ag hp with⟨i,p',rfl,k1,_,k2⟩|⟨j,k,rfl,m1,_,o1⟩
  ·obtain⟨e,k,es,k3,_⟩:=hi.h.sep b' o h p' k2;obtain⟨cs,_,h1,_⟩:=hIs i p' k1;rw[h1]at k3;simp at k3
  ·obtain⟨e,z,es,k3,_⟩:=hi.h.sep b' o h _ o1;exact absurd k3 (abP (hrow m1))
theorem zB.ext{po:Nat→Prop}{E E':En}{p:Pl}{it:It}(h:zB E p it)(x:Ext po E E')(ho:it.only po)(hb:E'.blk p=E.blk p)(hv:∀id,p = .o id→E'.val id=E.val id)
  (hh:∀b,E.own p=some b→E'.w.heap[b]? = E.w.heap[b]?):zB E' p it:=by
 cases it with
 | none=>exact fun id e=>by rw[hb,hv id e];exact h id e
 | v t=>exact(En.lU hb hv).trans h
 | box cs=>
   obtain⟨h0,b,ty,us,h1,h2,h3,h4⟩:=h;exact⟨fun id e=>by rw[hv id e];exact h0 id e,b,ty,us,hb.trans h1,(hh b (by simp[En.own,h1])).trans h2,h3,bG.ext x ho h4⟩
 | row e k es sh=>
   obtain⟨h0,id,v,us,rfl,h1,h2,h3⟩:=h;refine⟨hb.trans h0,id,v,us,rfl,(hv id rfl).trans h1,⟨h2.1,?_⟩,dK.ext x ho h3⟩;rcases h2.2 with hn|⟨g,cap,cur,rfl,hg,hgg,rest⟩
   ·exact .inl hn
   ·exact .inr ⟨g,cap,cur,rfl,hg,(hh g (by simp[En.own,h0,h1,Value.ownBlock])).trans hgg,rest⟩
 | wI e k es=>
   obtain⟨h0,id,v,us,rfl,h1,h2,h3⟩:=h;obtain⟨h4,g,o,cap,cur,rfl,hgg,rest⟩:=h2;exact⟨hb.trans h0,id,_,us,rfl,(hv id rfl).trans h1,⟨h4,g,o,cap,cur,rfl,(hh g (by simp[En.own,h0,h1,Value.ownBlock])).trans hgg,rest⟩,dK.ext x ho h3⟩
 | mp es=>
   obtain⟨h0,b,l,clock,h1,h2,h3,h4⟩:=h;exact⟨fun id e=>by rw[hv id e];exact h0 id e,b,l,clock,hb.trans h1,(hh b (by simp[En.own,h1])).trans h2,h3.ext x.r,h4⟩
 | jX es c pd s=>
   obtain⟨id,b,l,clock,l',ty,v,rfl,h1,h2,h3,h4,h5,h6,h7,h8⟩:=h;exact⟨id,b,l,clock,l',ty,v,rfl,hb.trans h1,(hh b (by simp[En.own,h1])).trans h2,h3,jD.ext x ho h4,h5,(hv id rfl).trans h6,h7,h8⟩
 | IE es s=>
   obtain⟨h0,h1,h2,h3,l',h4,h5⟩:=h;exact⟨(En.lU hb hv).trans h0,x.st _ _ h1,OD (x.cell _ _ h1) h2,h3,l',h4,jD.ext x ho h5⟩
 | DK m s left cur=>
   obtain⟨h0,r,seen,h1,h2,h3⟩:=h;exact⟨fun id e=>by rw[hv id e];exact h0 id e,r,seen,hb.trans h1,(hh r (by simp[En.own,h1])).trans h2,h3⟩
theorem dL.agG{t:S}{a:Act}{E:En}(hi:dL A t a E){ν:List Pl}{rs:List (Nat×Nat)}{qK dF:List It}{ro:List (Nat×It)}{b:Nat}(Aq:ν.Nodup)(sJ:∀p∈ν,qw p=true)(hI:Bz t ν rs ν=some qK)
  (hr1:(rs.map (·.1)).Nodup) (hr2:(rs.map (·.2)).Nodup) {ri:List (Nat×It)} (hrs:I4 t ν rs rs=some ri)
  (hl:dF.length=ν.length) (hbox:∀i∈dF,gU i=true) (CW:∀x∈ro,isObj x.2=true) (hfree:∀x∈ro,t (.o (b+x.1)) = .none)
  (hon:∀p,p∉ν→(∀k,p = .o k→k∉rs.map (·.2))→(t p).only fun id=>id∉rs.map (·.2))
  {r:TV} {u:Value} {E':En} (hp:Post (E.iP ν rs) dF ro r u E') :
  ∃E2:En,E2.w=E'.w∧dL A (over t (wx ν b ν dF++(wo ν b ro++wr rs))) a E2∧aA E2 (r.back ν b) u:=by
 obtain⟨hl0,hIs⟩:=GH hI;have hrow:∀{k},k∈rs.map (·.2)→ac9 (t (.o k)):=fun h=>by
  obtain⟨x,hx,rfl⟩:=List.mem_map.1 h;exact O0 hrs _ hx
 have wR:∀{i:Nat} {p:Pl},ν[i]? = some p→∃cs,t p = .box cs:=fun h=>by
  obtain⟨cs,_,h1,_⟩:=hIs _ _ h;exact⟨cs,h1⟩
 have P5:∀{p:Pl},p∈ν→∀k,p≠.s k:=fun hp k e=>by subst e;have:=sJ _ hp;simp[qw]at this
 have JO:∀{k},k∈rs.map (·.2)→Pl.o k∉ν:=fun h hp=>by
  obtain⟨i,hi'⟩:=List.getElem?_of_mem hp;obtain⟨cs,g⟩:=wR hi';exact Sr (hrow h) g
 let nw:Nat→Option Nat:=fun k=>if b≤k∧(k-b)∈ro.map (·.1)then some (k-b)else none
 have hnw:∀{k j},nw k=some j↔k=b+j∧j∈ro.map (·.1):=fun {k j}=>by
  simp only[nw];constructor
  ·intro h;split at h
   ·rename_i h1;simp only[Option.some.injEq]at h;subst h;exact⟨by omega,h1.2⟩
   ·simp at h
  ·rintro⟨rfl,h⟩;rw[if_pos ⟨by omega,by rw[show b+j-b=j by omega];exact h⟩];simp
 have jV:∀{k j},nw k=some j→t (.o k) = .none:=fun h=>by
  obtain⟨rfl,h1⟩:=hnw.1 h;obtain⟨x,hx,rfl⟩:=List.mem_map.1 h1;exact hfree x hx
 have vW:∀{k j},nw k=some j→E.blk (.o k)=none∧E.val k=none:=fun {k j} h=>by
  have:=hi.h.item (.o k) (by simp);rw[jV h]at this
  exact this k rfl
 have hnr:∀{k j},nw k=some j→k∉rs.map (·.2):=fun h g=>by
  exact ac_ (hrow g) (jV h)
 let E2:En:={w:=E'.w,St:=E'.St,blk:=fun p=>match p with|.o k=>(match nw k with|some j=>E'.blk (.o j)|none=>if k∈rs.map (·.2)then none else E.blk (.o k))|p=>E.blk p,
             val:=fun k=>match nw k with|some j=>E'.val j|none=>if k∈rs.map (·.2)then none else E.val k}
 have eG:∀{p:Pl},(∀k j,p = .o k→nw k≠some j)→(∀k,p = .o k→k∉rs.map (·.2))→E2.blk p=E.blk p:=fun {p} h g=>by
  cases p with
  | o k=>
    simp only[E2];cases hn:nw k with
    | none=>simp only;rw[if_neg (g k rfl)]
    | some j=>exact absurd hn (h k j rfl)
  | s k=>rfl
  | x k=>rfl
 have iq:∀{k:Nat},(∀j,nw k≠some j)→k∉rs.map (·.2)→E2.val k=E.val k:=fun {k} h g=>by
  simp only[E2];cases hn:nw k with
  | none=>rw[if_neg g]
  | some j=>exact absurd hn (h j)
 have ig:∀{k j:Nat},nw k=some j→E2.blk (.o k)=E'.blk (.o j)∧E2.val k=E'.val j:=fun {k j} h=>by simp only[E2,h,and_self]
 have dN:∀{p:Pl},(∀k j,p = .o k→nw k≠some j)→(∀k,p = .o k→k∉rs.map (·.2))→E2.own p=E.own p:=fun {p} h g=>
  En.lU (eG h g) (fun id e=>iq (fun j=>h id j e) (g id e))
 have dM:∀{k j:Nat},nw k=some j→E2.own (.o k)=E'.own (.o j):=fun {k j} h=>by
  obtain⟨h1,h2⟩:=ig h;simp only[En.own,h1,h2]
 have fU:∀{k},k∈rs.map (·.2)→E2.own (.o k)=none:=fun {k} h=>by
  have hn:nw k=none:=by
   cases hn:nw k with
   | none=>rfl
   | some j=>exact absurd h (hnr hn)
  simp only[En.own,E2,hn,if_pos h,Option.bind_none]
 have hcx:∀i,(E.iP ν rs).blk (.x i)=(ν[i]?).bind E.blk:=fun i=>rfl
 have hown2:∀{j b'},(E.iP ν rs).own (.o j)=some b'→∃k,k∈rs.map (·.2)∧E.own (.o k)=some b':=fun {j b'} h=>by
  rcases Ag h with⟨i,q,e,_⟩|⟨j',k,e,m,_,o⟩
  ·simp at e
  ·exact⟨k,List.mem_map.2 ⟨_,m,rfl⟩,o⟩
 have lV:∀{i b'},(E.iP ν rs).blk (.x i)=some b'→∃p,ν[i]? = some p∧E.blk p=some b'∧E.own p=some b':=fun {i b'} h=>by
  rw[hcx]at h
  cases hp:ν[i]? with
  | none=>simp[hp]at h
  | some p=>
    simp only[hp,Option.bind_some]at h;exact⟨p,rfl,h,by simp[En.own,h]⟩
 have CY:∀{b' o},E.St b' o→E'.w.heap[b']? = E.w.heap[b']? :=fun {b' o} h=>hp.fr.old b' (hi.h.oQ _ _ h) (fun i hx=>by
  obtain⟨p,h1,h2,h3⟩:=lV hx;obtain⟨cs,h4⟩:=wR h1;obtain⟨e,k,es,h5,_⟩:=hi.h.sep _ _ h p h3;rw[h4]at h5;simp at h5) (fun j hj=>by
  obtain⟨k,h1,h2⟩:=hown2 hj;obtain⟨e,z,es,h5,_⟩:=hi.h.sep _ _ h _ h2;exact abP (hrow h1) h5)
 have x:Ext (fun id=>id∉rs.map (·.2)) E E2:=by
  refine⟨fun b' o h=>hp.fr.st b' o h,fun b' o h=>fC (CY h),fun id b' hid h=>?_,fun i b' h=>h,fun i b' h=>h,fun id k c v hid h=>?_⟩
  ·rw[eG]
   ·exact h
   ·rintro k j e hn;simp only[Pl.o.injEq]at e;subst e;rw[(vW hn).1]at h;simp at h
   ·intro k e;simp only[Pl.o.injEq]at e;subst e;exact hid
  ·refine⟨c,v,?_,Nat.le_refl _,fun _=>rfl⟩;rw[iq _ hid]
   ·exact h
   ·intro j hn;rw[(vW hn).2]at h;simp at h
 have hmem:∀{j:Nat},(E'.blk (.o j)≠none∨E'.val j≠none)→j∈ro.map (·.1):=fun {j} h=>by
  by_cases hj:j∈ro.map (·.1)
  ·exact hj
  ·have:=hp.h.item (.o j) (by simp);simp only[h_,zT hj]at this;obtain⟨h1,h2⟩:=this j rfl;rcases h with h|h
   ·exact absurd h1 h
   ·exact absurd h2 h
 have hback:∀{v:TV} {u:Value},aA E' v u→aA E2 (v.back ν b) u:=fun {v u} h=>by
  refine Ci (E':=E') (E2:=E2) ⟨fun _ _ h=>h,fun _ _ _=>rfl⟩ (fun i b' hb=>?_) (fun id b' hb=>?_) (fun id y hy=>?_) hp.h.frees h
  ·rw[hp.fr.xb]at hb
   obtain⟨p,h1,h2,h3⟩:=lV hb;have hg:ν.getD i (.s 0)=p:=by simp[List.getD,h1]
   rw[hg,eG]
   ·exact h2
   ·rintro k j rfl hn;rw[(vW hn).1]at h2;simp at h2
   ·rintro k rfl hk;exact JO hk (List.mem_of_getElem? h1)
  ·have hj:=hmem (j:=id) (.inl (by rw[hb];simp));rw[(ig (hnw.2 ⟨rfl,hj⟩)).1];exact hb
  ·have hj:=hmem (j:=id) (.inr (by rw[hy];simp));rw[(ig (hnw.2 ⟨rfl,hj⟩)).2];exact hy
 have JM:∀{p:Pl},(∀k j,p = .o k→nw k≠some j)→∀j∈ro.map (·.1),p≠.o (b+j):=fun h j hj e=>h _ j e (hnw.2 ⟨rfl,hj⟩)
 have qp:∀{p:Pl},p∈ν→∀k j,p = .o k→nw k≠some j:=fun {p} gJ k j e hn=>by
  subst e;obtain⟨i,hi'⟩:=List.getElem?_of_mem gJ;obtain⟨cs,h⟩:=wR hi';rw[jV hn]at h;simp at h
 have oG:∀p,over t (wx ν b ν dF++(wo ν b ro++wr rs)) p=if p∈ν then over t (wx ν b ν dF) p else over (over t (wr rs)) (wo ν b ro) p:=fun p=>by
  rw[oO,oO];split
  ·rename_i h;obtain⟨i,h1⟩:=List.getElem?_of_mem h;have hil:i<dF.length:=by rw[hl];exact(List.getElem?_eq_some_iff.1 h1).1
   rw[uz Aq hl h1 (List.getElem?_eq_getElem hil),uz Aq hl h1 (List.getElem?_eq_getElem hil)]
  ·rename_i h;rw[DF h]
 have hold:∀{p:Pl},p∉ν→(∀k j,p = .o k→nw k≠some j)→(∀k,p = .o k→k∉rs.map (·.2))→over t (wx ν b ν dF++(wo ν b ro++wr rs)) p=t p:=fun h1 h2 h3=>by
  rw[oG,if_neg h1,uK (JM h2),FX (fun k hk e=>h3 k e hk)]
 have MC:∀{k},k∈rs.map (·.2)→over t (wx ν b ν dF++(wo ν b ro++wr rs)) (.o k) = .v .junk:=fun {k} h=>by
  rw[oG,if_neg (JO h),uK (JM (p:=.o k) (fun k' j e hn=>by simp only[Pl.o.injEq]at e;subst e;exact hnr hn h)),O9 h]
 have hH:jQ E2 (over t (wx ν b ν dF++(wo ν b ro++wr rs))):=by
  refine⟨fun p hps=>?_,fun k=>hi.h.frees k,fun p q b' h1 h2=>?_,fun p b' h1=>?_,fun b' o h1=>hp.h.oQ b' o h1,fun b' o h1 p h2=>?_,fun y hy=>bQ.ext x.r _ _ _ (hi.h.gl y hy)⟩
  ·by_cases gJ:p∈ν
   ·obtain⟨i,h1⟩:=List.getElem?_of_mem gJ;have hil:i<dF.length:=by rw[hl];exact(List.getElem?_eq_some_iff.1 h1).1
    rw[oG,if_pos gJ,uz Aq hl h1 (List.getElem?_eq_getElem hil)];have hb:=hbox dF[i] (List.getElem_mem hil);have hit:=hp.h.item (.x i) (by simp);have hr:h_ dF ro (.x i)=dF[i]:=by simp[h_,List.getD,hil]
    rw[hr]at hit
    cases hc:dF[i]with
    | box cs=>
      rw[hc]at hit
      obtain⟨_,b',ty,us,h2,h3,h4,h5⟩:=hit;rw[hp.fr.xb]at h2
      obtain⟨p',g1,g2,g3⟩:=lV h2;rw[h1]at g1;simp only[Option.some.injEq]at g1;subst g1
      refine⟨fun id e=>?_,b',ty,us,?_,h3,by rw[h4,jk],ou hback h5⟩
      ·subst e;rw[iq (fun j=>qp gJ id j rfl) (fun h=>JO h gJ)];obtain⟨cs0,g4⟩:=wR h1;have:=hi.h.item (.o id) (by simp);rw[g4]at this
       exact this.1 id rfl
      ·rw[eG (qp gJ) (fun k e hk=>by subst e;exact JO hk gJ)];exact g2
    | none=>rw[hc]at hb;simp[gU]at hb
    | v _=>rw[hc]at hb;simp[gU]at hb
    | row _ _ _ _=>rw[hc]at hb;simp[gU]at hb
    | wI _ _ _=>rw[hc]at hb;simp[gU]at hb
    | mp _=>rw[hc]at hb;simp[gU]at hb
    | jX _ _ _ _=>rw[hc]at hb;simp[gU]at hb
    | DK _ _ _ _=>rw[hc]at hb;simp[gU]at hb
    | IE _ _=>rw[hc]at hb;simp[gU]at hb
   ·by_cases hn:∃k j,p = .o k∧nw k=some j
    ·obtain⟨k,j,rfl,hn⟩:=hn;obtain⟨rfl,hj⟩:=hnw.1 hn;rw[oG,if_neg gJ,Aa hj];have ho:=BM CW hj;have hit:=hp.h.item (.o j) (by simp);simp only[h_]at hit;obtain⟨hb1,hv1⟩:=ig hn;cases hc:qx ro j with
     | box cs=>
       rw[hc]at hit
       obtain⟨h0,b',ty,us,h2,h3,h4,h5⟩:=hit;exact⟨fun id e=>by simp only[Pl.o.injEq]at e;subst e;rw[hv1];exact h0 j rfl,b',ty,us,hb1.trans h2,h3,by rw[h4,jk],ou hback h5⟩
     | row e k' es sh=>
       rw[hc]at hit
       obtain⟨h0,id,v,us,e1,h2,h3,h4⟩:=hit;simp only[Pl.o.injEq]at e1;subst e1;exact⟨hb1.trans h0,b+j,v,us,rfl,by rw[hv1,List.length_map];exact h2,by rw[List.length_map];exact h3,F6 hback h4⟩
     | mp es=>
       rw[hc]at hit
       obtain⟨h0,b',l,clock,h2,h3,h4,h5⟩:=hit;exact⟨fun id e=>by simp only[Pl.o.injEq]at e;subst e;rw[hv1];exact h0 j rfl,b',l,clock,hb1.trans h2,h3,pV.ext (E:=E') (E':=E2) ⟨fun _ _ h=>h,fun _ _ _=>rfl⟩ h4,h5⟩
     | jX es c pd s=>
       rw[hc]at hit
       obtain⟨id,b',l,clock,l',ty,v,e1,h2,h3,h4,h5,h6,h7,h8,h9⟩:=hit;simp only[Pl.o.injEq]at e1;subst e1;exact⟨b+j,b',l,clock,l',ty,v,rfl,hb1.trans h2,h3,h4,QL hback h5,h6,by rw[hv1];exact h7,h8,h9⟩
     | DK _ _ _ _=>rw[hc]at ho;simp[isObj]at ho
     | IE _ _=>rw[hc]at ho;simp[isObj]at ho
     | wI _ _ _=>rw[hc]at ho;simp[isObj]at ho
     | none=>rw[hc]at ho;simp[isObj]at ho
     | v _=>rw[hc]at ho;simp[isObj]at ho
    ·have hn':∀k j,p = .o k→nw k≠some j:=fun k j e h=>hn ⟨k,j,e,h⟩
     by_cases hg:∃k,p = .o k∧k∈rs.map (·.2)
     ·obtain⟨k,rfl,hk⟩:=hg;rw[MC hk];exact fU hk
     ·have hg':∀k,p = .o k→k∉rs.map (·.2):=fun k e h=>hg ⟨k,e,h⟩
      rw[hold gJ hn' hg'];refine(hi.h.item p hps).ext x (hon p gJ hg') (eG hn' hg') (fun id e=>iq (fun j=>hn' id j e) (hg' id e)) (fun b' hb'=>?_);refine hp.fr.old b' (hi.h.size p b' hb') (fun i hx=>?_) (fun j hj=>?_)
      ·obtain⟨q,g1,g2,g3⟩:=lV hx;have:=hi.h.inj p q b' hb' g3;subst this;exact gJ (List.mem_of_getElem? g1)
      ·obtain⟨k,g1,g2⟩:=hown2 hj;exact hg' k (hi.h.inj p _ b' hb' g2) g1
  ·have hgo:∀{p b'},E2.own p=some b'→∀k,p = .o k→k∉rs.map (·.2):=fun {p b'} h k e g=>by
    subst e;rw[fU g]at h;simp at h
   have yR:∀{j q},E'.own (.o j)=some b'→E.own q=some b'→(∀k,q = .o k→k∉rs.map (·.2))→False:=fun {j q} h1 h2 h3=>by
    have g2:=hi.h.size q b' h2;rcases hp.fr.new j b' h1 with g1|⟨i,g1⟩
    ·simp only[En.iP]at g1;omega
    ·obtain⟨k,g3,g4⟩:=hown2 g1;exact h3 k (hi.h.inj q _ b' h2 g4) g3
   by_cases n1:∃k j,p = .o k∧nw k=some j<;>by_cases n2:∃k j,q = .o k∧nw k=some j
   ·obtain⟨k,j,rfl,hn⟩:=n1;obtain⟨k',j',rfl,hn'⟩:=n2;rw[dM hn]at h1;rw[dM hn']at h2
    have:=hp.h.inj _ _ b' h1 h2;simp only[Pl.o.injEq]at this;subst this;rw[(hnw.1 hn).1,(hnw.1 hn').1]
   ·obtain⟨k,j,rfl,hn⟩:=n1;have hq:=hgo h2;rw[dM hn]at h1
    rw[dN (fun k j e h=>n2 ⟨k,j,e,h⟩) hq]at h2
    exact(yR h1 h2 hq).elim
   ·obtain⟨k,j,rfl,hn⟩:=n2;have hq:=hgo h1;rw[dM hn]at h2
    rw[dN (fun k j e h=>n1 ⟨k,j,e,h⟩) hq]at h1
    exact(yR h2 h1 hq).elim
   ·have hq1:=hgo h1;have hq2:=hgo h2;rw[dN (fun k j e h=>n1 ⟨k,j,e,h⟩) hq1]at h1
    rw[dN (fun k j e h=>n2 ⟨k,j,e,h⟩) hq2]at h2
    exact hi.h.inj p q b' h1 h2
  ·by_cases n1:∃k j,p = .o k∧nw k=some j
   ·obtain⟨k,j,rfl,hn⟩:=n1;rw[dM hn]at h1
    exact hp.h.size _ b' h1
   ·by_cases hg:∃k,p = .o k∧k∈rs.map (·.2)
    ·obtain⟨k,rfl,hk⟩:=hg;rw[fU hk]at h1;simp at h1
    ·rw[dN (fun k j e h=>n1 ⟨k,j,e,h⟩) (fun k e h=>hg ⟨k,e,h⟩)]at h1
     exact Nat.lt_of_lt_of_le (hi.h.size p b' h1) hp.fr.size
  ·by_cases n1:∃k j,p = .o k∧nw k=some j
   ·obtain⟨k,j,rfl,hn⟩:=n1;rw[dM hn]at h2
    obtain⟨e,k',es,g1,g2⟩:=hp.h.sep b' o h1 _ h2;obtain⟨rfl,hj⟩:=hnw.1 hn;have gJ:Pl.o (b+j)∉ν:=fun h=>qp h _ j rfl hn
    refine⟨e,k',es.map (TV.backs ν b),?_,by simpa using g2⟩;rw[oG,if_neg gJ,Aa hj];simp only[h_]at g1;rw[g1];rfl
   ·have n1':∀k j,p = .o k→nw k≠some j:=fun k j e h=>n1 ⟨k,j,e,h⟩
    by_cases hg:∃k,p = .o k∧k∈rs.map (·.2)
    ·obtain⟨k,rfl,hk⟩:=hg;rw[fU hk]at h2;simp at h2
    ·have hg':∀k,p = .o k→k∉rs.map (·.2):=fun k e h=>hg ⟨k,e,h⟩
     rw[dN n1' hg']at h2
     have hsz:=hi.h.size p b' h2;rcases hp.fr.xg b' o h1 with g1|g1|⟨i,g1⟩
     ·obtain⟨e,k,es,g2,g3⟩:=hi.h.sep b' o g1 p h2;refine⟨e,k,es,?_,g3⟩;rw[hold _ n1' hg',g2];intro gJ;obtain⟨i,hi'⟩:=List.getElem?_of_mem gJ;obtain⟨cs,h⟩:=wR hi';rw[h]at g2;simp at g2
     ·simp only[En.iP]at g1;omega
     ·obtain⟨k,g3,g4⟩:=hown2 g1;exact absurd g3 (hg' k (hi.h.inj p _ b' h2 g4))
 have hsl:∀k,over t (wx ν b ν dF++(wo ν b ro++wr rs)) (.s k)=t (.s k):=fun k=>
  hold (fun h=>P5 h k rfl) (fun _ _ e=>by simp at e) (fun _ e=>by simp at e)
 have hE0:∀{j b'},(E.iP ν rs).own (.o j)=some b'→A.E0.w.heap.size≤b'∨∃i,A.E0.own (.o i)=some b':=fun {j b'} h=>by
  obtain⟨k,_,g⟩:=hown2 h;exact hi.fr.new k b' g
 refine⟨E2,rfl,⟨hH,(hi.fr.YV hp.fr.os hp.fr.tape hp.fr.output hp.fr.size (fun b' h1 h2 h3=>?_) (fun i=>rfl) (fun id b' h=>?_) (fun b' o h=>hp.fr.st b' o h) (fun b' o h=>?_)),fun k tv hk=>?_,hi.defers,hi.size⟩,hback hp.rel⟩
 ·refine hp.fr.old b' (Nat.lt_of_lt_of_le h1 hi.fr.size) (fun i hx=>?_) (fun j hj=>?_)
  ·obtain⟨q,g1,g2,g3⟩:=lV hx;cases q with
   | s k=>rw[hi.h.frees k]at g2;simp at g2
   | x j=>exact h2 j ((hi.fr.xb j).symm.trans g2)
   | o k=>exact(hi.fr.new k b' g3).elim (fun h=>by omega) (fun⟨j,h⟩=>h3 j h)
  ·exact(hE0 hj).elim (fun h=>by omega) (fun⟨j,h⟩=>h3 j h)
 ·cases hn:nw id with
  | some j=>
    rw[dM hn]at h
    rcases hp.fr.new j b' h with g|⟨i,g⟩
    ·exact .inr g
    ·obtain⟨k,_,g2⟩:=hown2 g;exact .inl ⟨k,g2⟩
  | none=>
    by_cases hk:id∈rs.map (·.2)
    ·rw[fU hk]at h;simp at h
    ·rw[dN (fun k j e h=>by simp only[Pl.o.injEq]at e;subst e;rw[hn]at h;simp at h) (fun k e=>by simp only[Pl.o.injEq]at e;subst e;exact hk)]at h
     exact .inl ⟨id,h⟩
 ·rcases hp.fr.xg b' o h with g|g|⟨i,g⟩
  ·exact .inl g
  ·exact .inr (.inl (Nat.le_trans hi.fr.size g))
  ·exact .inr (hE0 g)
 ·rw[hsl]at hk
  obtain⟨u',h1,h2⟩:=hi.sl k tv hk;refine⟨u',h1,aA.ext x tv u' ?_ h2⟩;have:=hon (.s k) (fun h=>P5 h k rfl) (fun _ e=>by simp at e)
  rwa [hk]at this
variable {ops:Array Oper}
def QD(ν:List Pl)(gone:List Nat):List (Pl×It)→Prop
 | []=>True
 | (p,i)::l=>(p∈ν∨(∃k,k∈gone∧p = .o k)∨i.only fun id=>id∉gone)∧QD ν gone l
theorem QD.spec{ν:List Pl}{gone:List Nat}:∀{l:List (Pl×It)},QD ν gone l→∀p,p∉ν→(∀k,p = .o k→k∉gone)→(look l p).only fun id=>id∉gone
 | [],_,p,_,_=>by simp only[look];trivial
 | (q,i)::l,h,p,h1,h2=>by
   simp only[QD]at h;simp only[look];split
   ·rename_i e;subst e;rcases h.1 with h3|⟨k,h3,e⟩|h3
    ·exact absurd h3 h1
    ·exact absurd h3 (h2 k e)
    ·exact h3
   ·exact QD.spec h.2 p h1 h2
theorem Ut.call3{t:S}{i:Nat}{o:Oper}{gp:List Pl}{fo:Operand}{xs:List Operand}{tys:Array TypeId}{f:FuncId}{caps iR:List TV}{qK dF:List It}{ri:List (Nat×It)}{r:TV}{ro:List (Nat×It)}
  (ho:ops[i]? = some o) (hg:gv ops t o=some (gp,true)) (hd:pz A.N o=true) (hop:o.op = .call {callee:=.value fo,args:=xs.toArray,argTypes:=tys}) (hf:ev t fo = .clo f caps) (hfn:aZ P f=true)
  (C:jT P f iR qK ri r dF ro) (ν:List Pl) (rs:List (Nat×Nat)) (b:Nat) (Aq:ν.Nodup) (sJ:∀p∈ν,qw p=true) (hp:TV.qR ν rs (xs.map (ev t)++caps)=some iR) (hI:Bz t ν rs ν=some qK)
  (hr1:(rs.map (·.1)).Nodup) (hr2:(rs.map (·.2)).Nodup) (RY:I4 t ν rs rs=some ri)
  (hl:dF.length=ν.length) (hbox:∀i∈dF,gU i=true) (CW:∀x∈ro,isObj x.2=true) (hfree:∀x∈ro,t (.o (b+x.1)) = .none)
  (hon:∀p,p∉ν→(∀k,p = .o k→k∉rs.map (·.2))→(t p).only fun id=>id∉rs.map (·.2)) :
  Ut P A ops i t fun _:Unit=>xA o (r.back ν b) (wx ν b ν dF++(wo ν b ro++wr rs)):=fun a w ⟨E,hw,hi⟩ K Q hK=>by
 subst hw;have hwant:=mD hg (fun _ _=>rfl) hi;have hfr:=bM hi fo;rw[hf]at hfr
 simp only[aA]at hfr;obtain⟨sZ,Gu,yT⟩:=hfr;have hxr:=Ac hi xs;have happ:∀{ts ts':List TV} {us us':List Value},aP E ts us→aP E ts' us'→aP E (ts++ts') (us++us'):=by
  intro ts
  induction ts with
  | nil=>intro ts' us us' h g;simp only[aP]at h;subst h;simpa using g
  | cons v ts ih=>
    intro ts' us us' h g;simp only[aP]at h;obtain⟨u,Zq,rfl,h1,h2⟩:=h;simp only[List.cons_append,aP];exact⟨u,Zq++us',rfl,h1,ih h2 g⟩
 have hargs:=happ hxr yT;have CV:aP (E.iP ν rs) iR (xs.map a.eval++sZ.toList):=Gz hr1 hp hargs;have hH0:jQ (E.iP ν rs) (h_ qK ri):=jQ.iP hi Aq hI sJ hr1 hr2 RY;have hcall:=C (E.iP ν rs) _ hH0 CV;have hwc:(E.iP ν rs).w=E.w:=rfl;rw[hwc]at hcall
 unfold wpOp;simp only[ho,hwant,if_true];refine .inl ?_;unfold Oper.wp;have hrun:(execOp a.eval o).run P E.w = .ok (.enter f (xs.map a.eval++sZ.toList).toArray) E.w:=by
  have harr:(List.map a.eval xs++sZ.toList).toArray=(List.map a.eval xs).toArray++sZ:=by simp
  simp only[execOp,hop,resolve,Gu,Deferred.ofValue,invoke,Sem.run_bind,Sem.run_pure,Result.andThen_ok,List.map_toArray,Array.empty_append,jv hfn,harr]
 rw[hrun];simp only[Oper.upon];refine hcall.mono fun e w' ⟨u,E',he,hw',hpost⟩=>?_
 subst he;obtain⟨E2,hw2,hi2,hr2'⟩:=hi.agG Aq sJ hI hr1 hr2 RY hl hbox CW hfree hon hpost;refine hK () _ _ ⟨E2,hw2.trans hw',dL.dst ?_ hd hr2'⟩;exact hi2
def ZJ(P:Program)(N:Nat)(l:List (Pl×It))(o:Oper)(f:FuncId)(iR:List TV)(qK:List It)(ri:List (Nat×It))(r:TV)(dF:List It)(ro:List (Nat×It))(ν:List Pl)(rs:List (Nat×Nat))(b:Nat)(gp:List Pl)(g:Bool):Option (Prop×List Pl×List (Pl×It)):=
 match o.op with
 | .call {callee:=.value fo,args:=xs,argTypes:=_}=>
   match ev (look l) fo with
   | .clo f' caps=>
     match Bz (look l) ν rs ν,TV.qR ν rs (xs.toList.map (ev (look l))++caps),I4 (look l) ν rs rs with
     | some c0,some a0,some r0=>
       some (g=true∧pz N o=true∧f'=f∧aZ P f=true∧ν.Nodup∧(∀p∈ν,qw p=true)∧a0=iR∧c0=qK∧(rs.map (·.1)).Nodup∧(rs.map (·.2)).Nodup∧r0=ri∧
        dF.length=ν.length∧(∀x∈dF,gU x=true)∧(∀x∈ro,isObj x.2=true)∧(∀x∈ro,look l (.o (b+x.1)) = .none)∧QD ν (rs.map (·.2)) l,
        gp++(pl fo++(xs.toList.flatMap pl++(ν++((rs.map fun x=>.o x.2)++ro.map fun x=>.o (b+x.1))))),
        xA o (r.back ν b) (wx ν b ν dF++(wo ν b ro++wr rs)))
     | _,_,_=>none
   | _=>none
 | _=>none
def ZI(P:Program)(N:Nat)(l:List (Pl×It))(ops:Array Oper)(f:FuncId)(iR:List TV)(qK:List It)(ri:List (Nat×It))(r:TV)(dF:List It)(ro:List (Nat×It))(ν:List Pl)(rs:List (Nat×Nat))(b:Nat):Option Oper→Option (Prop×List Pl×List (Pl×It))
 | some o=>match gv ops (look l) o with
   | some (gp,g)=>ZJ P N l o f iR qK ri r dF ro ν rs b gp g
   | none=>none
 | none=>none
theorem Ho.of3{i:Nat}{l:List (Pl×It)}{k:List Pl→List (Pl×It)→Prop}{g:Tg k}{f:FuncId}{iR:List TV}{qK dF:List It}{ri:List (Nat×It)}{r:TV}{ro:List (Nat×It)}(C:jT P f iR qK ri r dF ro)(ν:List Pl)(rs:List (Nat×Nat))(b:Nat)
  (h:Us k g (ZI P A.N l ops f iR qK ri r dF ro ν rs b ops[i]?)):Ho P A ops i (look l) k g:=by
 unfold Us at h;split at h
 ·rename_i D rp W hc;obtain⟨h1,h2⟩:=h;refine⟨Unit,fun _=>rp,fun _=>W,?_,fun _=>h2⟩;unfold ZI at hc;split at hc
  ·rename_i o ho;split at hc
   ·rename_i gp g0 hg;unfold ZJ at hc;split at hc
    ·rename_i fo xs tys hop;split at hc
     ·rename_i f' caps hf;split at hc
      ·rename_i c0 a0 r0 hI hp RY;simp only[Option.some.injEq,Prod.mk.injEq]at hc;obtain⟨rfl,rfl,rfl⟩:=hc;obtain⟨rfl,q1,rfl,q2,q3,q4,rfl,rfl,q5,q6,rfl,q8,q9,q10,q11,q12⟩:=h1;exact Ut.call3 (xs:=xs.toList) ho hg q1 (by simpa using hop) hf q2 C ν rs b q3 q4 hp hI q5 q6 RY q8 q9 q10 q11 q12.spec
      ·simp at hc
     ·simp at hc
    ·simp at hc
   ·simp at hc
  ·simp at hc
 ·exact h.elim
theorem TB(ν:List Pl)(rs:List (Nat×Nat)):∀l:List D,TV.qR ν rs (l.map .d)=some (l.map .d)
 | []=>rfl
 | x::l=>by simp[TV.qR,TV.y5,TB ν rs l]
theorem TD(ν:List Pl)(rs:List (Nat×Nat)):∀l:List (List D),oI ν rs (dd l)=some (dd l)
 | []=>rfl
 | x::l=>by
   have:=TD ν rs l;simp only[dd]at this;simp only[dd,List.map_cons,oI,TB,this]
theorem PN(ν:List Pl)(rs:List (Nat×Nat)):∀a b:List (List TV),oI ν rs (a++b)=match oI ν rs a,oI ν rs b with
  | some x,some y=>some (x++y)
  | _,_=>none
 | [],b=>by cases h:oI ν rs b<;>simp[oI,h]
 | e::a,b=>by
   simp only[List.cons_append,oI,PN ν rs a b];cases TV.qR ν rs e<;>cases oI ν rs a<;>cases oI ν rs b<;>rfl
theorem aaQ(ν:List Pl)(rs:List (Nat×Nat))(cs:List TV):aaP ν rs (.box cs)=match TV.qR ν rs cs with|some cs=>some (.box cs)|none=>none:=rfl
theorem TJ{α:Type}(ν:List Pl)(rs:List (Nat×Nat))(f:α→List Int)(g:α→D):∀l:List α,GI ν rs (l.map fun x=>(f x,TV.d (g x)))=some (l.map fun x=>(f x,TV.d (g x)))
 | []=>rfl
 | x::l=>by simp[GI,TV.y5,TJ ν rs f g l]
theorem ac7(es:List (List Int×TV))(c:Nat)(pd:Option (List Int))(s:Option mJ):isObj (.jX es c pd s)=true:=rfl
theorem acE(ν:List Pl)(b:Nat)(es:List (List Int×TV))(c:Nat)(pd:Option (List Int))(s:Option mJ):Lr ν b (.jX es c pd s) = .jX (es.map fun x=>(x.1,x.2.back ν b)) c pd s:=rfl
theorem afN(a b:Nat)(es:List (List Int×TV))(c:Nat)(pd:Option (List Int))(s:Option mJ):AO a b (.jX es c pd s) = .jX (es.map fun x=>(x.1,x.2.ren a b)) c pd s:=rfl
attribute [simp] ac7 acE afN ZI ZJ TV.y5 TV.qR Bz aaQ TL oI TD PN I4 QD
end
end Go.Tr
