/-
  What functions of the program compute, stated as contracts over plain data; the conditions of each stand in its own statement.
-/
import Derived.Test.YtboimfkommpglaaGreatDoorZB21
set_option linter.unusedSimpArgs false
set_option linter.unusedVariables false
namespace Go.Tr
open Go
mutual
def TV.zl(ν:List Pl)(rs:List (Nat×Nat)):TV→Option TV
 | .junk=>some .junk
 | .d x=>some (.d x)
 | .c v=>some (.c v)
 | .agg vs=>match TV.tY ν rs vs with|some vs=>some (.agg vs)|none=>none
 | .sZ _=>none
 | .bK id n=>match aat rs id with|some j=>some (.bK j n)|none=>none
 | .ptr p q=>match ZC p ν 0 with|some i=>some (.ptr (.x i) q)|none=>none
 | .ep e q=>some (.ep e q)
 | .tV _ _ _ _=>none
 | .mref id=>match aat rs id with|some j=>some (.mref j)|none=>none
 | .sx _=>none
 | .Qg _ _ _=>none
 | .clo f vs=>match TV.tY ν rs vs with|some vs=>some (.clo f vs)|none=>none
def TV.tY(ν:List Pl)(rs:List (Nat×Nat)):List TV→Option (List TV)
 | []=>some []
 | v::vs=>match TV.zl ν rs v,TV.tY ν rs vs with
   | some v,some vs=>some (v::vs)
   | _,_=>none
end
section
variable {P:Program} {A:jL}
def En.mD(E:En)(ν:List Pl)(rs:List (Nat×Nat)):En:=
 {w:=E.w,St:=E.St,blk:=fun p=>match p with|.x i=>(ν[i]?).bind E.blk|.o j=>(Bj rs j).bind fun k=>E.blk (.o k)|_=>none,val:=fun j=>(Bj rs j).bind E.val}
theorem N9(E:En)(ν:List Pl)(rs:List (Nat×Nat)):P6 E (E.mD ν rs):=⟨fun _ _ h=>h,fun _ _ _=>rfl⟩
mutual
theorem OU{ν:List Pl}{rs:List (Nat×Nat)}{E:En}(hn:(rs.map (·.1)).Nodup):∀{v v':TV} {u:Value},v.zl ν rs=some v'→aV E v u→aV (E.mD ν rs) v' u
 | .junk,v',u,h,_=>by grind[TV.zl,aV]
 | .d x,v',u,h,hr=>by grind[TV.zl,aV,Rep.ext,N9]
 | .c v,v',u,h,hr=>by grind[TV.zl,aV]
 | .agg vs,v',u,h,hr=>by
   simp only[TV.zl]at h;split at h
   ·rename_i vs' hv;simp only[aj]at h;subst h;obtain⟨us,hu,hs⟩:=hr;exact⟨us,hu,FT hn hv hs⟩
   trivial
 | .sZ vs,v',u,h,_=>by trivial
 | .bK id n,v',u,h,hr=>by
   simp only[TV.zl]at h;split at h
   ·rename_i j hj;simp only[aj]at h;subst h;obtain⟨h1,k,c,v,h2,h3⟩:=hr;exact⟨h1,k,c,v,by simp only[En.mD,QM hn (M_ hj),dH];omega,h3⟩
   trivial
 | .ptr p q,v',u,h,hr=>by
   simp only[TV.zl]at h;split at h
   ·rename_i i hi;simp only[aj]at h;subst h;simp only[aV]at hr⊢;obtain⟨_,h2⟩:=IQ hi
    grind[En.mD]
   trivial
 | .ep e q,v',u,h,hr=>by grind[TV.zl,aV,gq.ext,N9]
 | .tV _ _ _ _,v',u,h,_=>by trivial
 | .mref id,v',u,h,hr=>by
   simp only[TV.zl]at h;split at h
   ·rename_i j hj;simp only[aj]at h;subst h;obtain⟨b,h1,h2⟩:=hr;exact⟨b,by simp only[En.mD,QM hn (M_ hj),dH];omega,h2⟩
   trivial
 | .sx _,v',u,h,_=>by trivial
 | .Qg _ _ _,v',u,h,_=>by trivial
 | .clo f vs,v',u,h,hr=>by
   simp only[TV.zl]at h;split at h
   ·rename_i vs' hv;simp only[aj]at h;subst h;simp only[aV]at hr⊢;obtain⟨us,hu,hs⟩:=hr;exact⟨us,hu,FT hn hv hs⟩
   trivial
theorem FT{ν:List Pl}{rs:List (Nat×Nat)}{E:En}(hn:(rs.map (·.1)).Nodup):∀{vs vs':List TV} {us:List Value},TV.tY ν rs vs=some vs'→b_ E vs us→b_ (E.mD ν rs) vs' us
 | [],vs',us,h,hr=>by grind[TV.tY,b_]
 | v::vs,vs',us,h,hr=>by
   simp only[TV.tY]at h;split at h
   ·rename_i v1 vs1 h1 h2;simp only[aj]at h;subst h;simp only[b_]at hr⊢;obtain⟨u,us',hu,g1,g2⟩:=hr;exact⟨u,us',hu,OU hn h1 g1,FT hn h2 g2⟩
   trivial
end
def ab6(ν:List Pl)(rs:List (Nat×Nat)):It→Option It
 | .box cs=>match TV.tY ν rs cs with|some cs=>some (.box cs)|none=>none
 | _=>none
def Ba(t:S)(ν:List Pl)(rs:List (Nat×Nat)):List Pl→Option (List It)
 | []=>some []
 | p::l=>match ab6 ν rs (t p),Ba t ν rs l with
   | some i,some is=>some (i::is)
   | _,_=>none
theorem FV{t:S}{ν:List Pl}{rs:List (Nat×Nat)}:∀{l:List Pl} {xs:List It},Ba t ν rs l=some xs→xs.length=l.length∧∀(i:Nat) (p:Pl),l[i]? = some p→∃cs cs',t p = .box cs∧TV.tY ν rs cs=some cs'∧xs[i]? = some (.box cs')
 | [],xs,h=>by grind[Ba]
 | p::l,xs,h=>by
   simp only[Ba]at h;split at h
   ·rename_i it is h1 h2;simp only[aj]at h;subst h;obtain⟨h3,h4⟩:=FV h2;refine⟨by simp[*],fun i q hq=>?_⟩;cases i with
    | zero=>
      simp at hq;unfold ab6 at h1
      grind
    | succ i=>simp_all
   trivial
theorem J8{ν:List Pl}{rs:List (Nat×Nat)}:∀{vs vs':List TV},TV.tY ν rs vs=some vs'→vs'.length=vs.length
 | [],vs',h=>by grind[TV.tY]
 | v::vs,vs',h=>by
   simp only[TV.tY]at h;split at h
   ·rename_i h1 h2;simp only[aj]at h;subst h;simp[J8 h2]
   trivial
theorem J7{ν:List Pl}{rs:List (Nat×Nat)}{E:En}(hn:(rs.map (·.1)).Nodup){us:List Value}:∀{o:Nat} {vs vs':List TV},TV.tY ν rs vs=some vs'→eP E us o vs→eP (E.mD ν rs) us o vs'
 | o,[],vs',h,_=>by simp only[TV.tY,aj]at h;subst h;trivial
 | o,v::vs,vs',h,⟨⟨u,h1,h2,h3⟩,hr⟩=>by
   simp only[TV.tY]at h;split at h
   ·rename_i v1 vs1 g1 g2;simp only[aj]at h;subst h;exact⟨⟨u,h1,h2,OU hn g1 h3⟩,J7 hn g2 hr⟩
   trivial
def qZ(ν:List Pl)(rs:List (Nat×Nat)):List (List TV)→Option (List (List TV))
 | []=>some []
 | e::es=>match TV.tY ν rs e,qZ ν rs es with
   | some e,some es=>some (e::es)
   | _,_=>none
def DN(ν:List Pl)(rs:List (Nat×Nat)):List (List Int×TV)→Option (List (List Int×TV))
 | []=>some []
 | (k,v)::es=>match TV.zl ν rs v,DN ν rs es with
   | some v,some es=>some ((k,v)::es)
   | _,_=>none
def Uf(ν:List Pl)(rs:List (Nat×Nat)):It→Option It
 | .row e z es false=>match qZ ν rs es with|some es=>some (.row e z es false)|none=>none
 | .jA es c pd none=>match DN ν rs es with|some es=>some (.jA es c pd none)|none=>none
 | _=>none
def aeW(i:It):Prop:=(∃e z es,i = .row e z es false)∨∃es c pd,i = .jA es c pd none
theorem PU{ν:List Pl}{rs:List (Nat×Nat)}{i i':It}(h:Uf ν rs i=some i'):(∃e z es es',i = .row e z es false∧qZ ν rs es=some es'∧i' = .row e z es' false)∨
  ∃es c pd es',i = .jA es c pd none∧DN ν rs es=some es'∧i' = .jA es' c pd none:=by
 unfold Uf at h
 grind
theorem Ue{ν:List Pl}{rs:List (Nat×Nat)}{E:En}(hn:(rs.map (·.1)).Nodup):∀{es es':List (List Int×TV)} {l:List MapEntry},DN ν rs es=some es'→nH E es l→nH (E.mD ν rs) es' l
 | [],_,_,h,hr=>by simp only[DN,aj]at h;subst h;trivial
 | (k,v)::es,es',l,h,hr=>by
   simp only[DN]at h;split at h
   ·rename_i v1 es1 g1 g2;simp only[aj]at h;subst h;obtain⟨a,l',h1,h2,h3,h4⟩:=hr;exact⟨a,l',h1,h2,OU hn g1 h3,Ue hn g2 h4⟩
   trivial
theorem HY{ν:List Pl}{rs:List (Nat×Nat)}:∀{es es':List (List TV)},qZ ν rs es=some es'→es'.length=es.length
 | [],_,h=>by grind[qZ]
 | e::es,_,h=>by
   simp only[qZ]at h;split at h
   ·rename_i h1 h2;simp only[aj]at h;subst h;simp[HY h2]
   trivial
theorem MN{ν:List Pl}{rs:List (Nat×Nat)}{E:En}(hn:(rs.map (·.1)).Nodup){us:List Value}{k:Nat}:∀{o:Nat} {es es':List (List TV)},qZ ν rs es=some es'→iJ E us k o es→iJ (E.mD ν rs) us k o es'
 | _,[],_,h,_=>by simp only[qZ,aj]at h;subst h;trivial
 | _,e::es,_,h,⟨h1,h2,hr⟩=>by
   simp only[qZ]at h;split at h
   ·rename_i g1 g2;simp only[aj]at h;subst h;exact⟨by grind[J8],J7 hn g1 h2,MN hn g2 hr⟩
   trivial
def Ij(t:S)(ν:List Pl)(rs:List (Nat×Nat)):List (Nat×Nat)→Option (List (Nat×It))
 | []=>some []
 | (j,k)::l=>match Uf ν rs (t (.o k)),Ij t ν rs l with
   | some i,some r=>some ((j,i)::r)
   | _,_=>none
theorem Ux{t:S}{ν:List Pl}{rs:List (Nat×Nat)}{j:Nat}:∀{l:List (Nat×Nat)} {ri:List (Nat×It)},Ij t ν rs l=some ri→(Bj l j=none→zi ri j = .none)∧∀k,Bj l j=some k→Uf ν rs (t (.o k))=some (zi ri j)
 | [],ri,h=>by simp only[Ij,aj]at h;subst h;exact⟨fun _=>rfl,fun k h=>by trivial⟩
 | (a,b)::l,ri,h=>by
   simp only[Ij]at h;split at h
   ·rename_i i r h1 h2;simp only[aj]at h;subst h;obtain⟨g1,g2⟩:=Ux (j:=j) h2;simp only[Bj,zi]
    grind
   trivial
theorem O4{t:S}{ν:List Pl}{rs:List (Nat×Nat)}:∀{l:List (Nat×Nat)} {ri:List (Nat×It)},Ij t ν rs l=some ri→∀x∈l,aeW (t (.o x.2))
 | [],_,_,x,hx=>by trivial
 | (a,b)::l,ri,h,x,hx=>by
   simp only[Ij]at h;split at h
   ·rename_i i r h1 h2;rcases aG.1 hx with rfl|hx
    ·rcases PU h1 with⟨e,z,es,_,h3,_⟩|⟨es,c,pd,_,h3,_⟩
     ·exact .inl ⟨e,z,es,h3⟩
     ·exact .inr ⟨es,c,pd,h3⟩
    ·exact O4 h2 x hx
   trivial
theorem z_{E:En}{ν:List Pl}{rs:List (Nat×Nat)}{p:Pl}{b:Nat}(h:(E.mD ν rs).own p=some b):
  (∃i q,p = .x i∧ν[i]? = some q∧E.blk q=some b∧E.own q=some b)∨(∃j k,p = .o j∧(j,k)∈rs∧Bj rs j=some k∧E.own (.o k)=some b):=by
 cases p with
 | s k=>trivial
 | x i=>
   left;unfold En.own at h;split at h
   ·rename_i b2 hb;simp only[aj]at h;subst h;have hb:(ν[i]?).bind E.blk=some b2:=hb;cases hp:ν[i]? with
    | none=>simp_all
    | some p=>simp only[hp,dH]at hb;exact⟨i,p,rfl,hp,hb,by simp[En.own,hb]⟩
   trivial
 | o j=>
   right;simp only[En.own,En.mD]at h;cases hk:Bj rs j with
   | none=>simp_all
   | some k=>simp only[hk,dH]at h;exact⟨j,k,rfl,Uz hk,hk,h⟩
theorem Ti{i:It}(h:aeW i){cs:List TV}:i≠.box cs:=by rcases h with⟨e,z,es,rfl⟩|⟨es,c,pd,rfl⟩<;>simp
theorem adi{i:It}(h:aeW i){e k:Nat}{es:List (List TV)}:i≠.row e k es true:=by rcases h with⟨e,z,es,rfl⟩|⟨es,c,pd,rfl⟩<;>simp
theorem aeX{i:It}(h:aeW i):i≠.none:=by rcases h with⟨e,z,es,rfl⟩|⟨es,c,pd,rfl⟩<;>simp
theorem pX.mD{t:S}{a:Act}{E:En}(hi:iI A t a E){ν:List Pl}{rs:List (Nat×Nat)}{Aw:List It}(Px:ν.Nodup)(hI:Ba t ν rs ν=some Aw)(Eo:∀p∈ν,vY p=true)
  (hr1:(rs.map (·.1)).Nodup) (hr2:(rs.map (·.2)).Nodup) {ri:List (Nat×It)} (hrs:Ij t ν rs rs=some ri):pX (E.mD ν rs) (tJ Aw ri):=by
 obtain⟨hl0,hIs⟩:=FV hI;have hrow:∀{j k},(j,k)∈rs→aeW (t (.o k)):=fun h=>O4 hrs _ h
 refine⟨fun p hps=>?_,fun k=>rfl,fun p q b' h1 h2=>?_,fun p b' h1=>?_,fun b' o h=>hi.h.uP b' o h,fun b' o h p hp=>?_,fun y hy=>gq.ext (N9 E ν rs) _ _ _ (hi.h.gl y hy)⟩
 ·cases p with
  | s k=>simp_all
  | o j=>
    simp only[tJ];obtain⟨hl1,hl2⟩:=Ux (j:=j) hrs;cases hk:Bj rs j with
    | none=>rw[hl1 hk];exact fun id e=>by grind[En.mD]
    | some k=>
      have hit:=hi.h.item (.o k) (by simp);rcases PU (hl2 k hk)with⟨e,z,es,es',h4,h5,h6⟩|⟨es,c,pd,es',h4,h5,h6⟩
      ·rw[h6];simp only[h4]at hit;obtain⟨g0,id,v,us,g1,g2,g3,g4⟩:=hit;simp only[Pl.o.injEq]at g1;subst g1;refine⟨by grind[En.mD],j,v,us,rfl,by grind[En.mD,HY],?_,MN hr1 h5 g4⟩;rw[HY h5];trivial
      ·rw[h6];simp only[h4]at hit;obtain⟨id,b,l,clock,l',ty,v,g1,g2,g3,g4,g5,g6,g7,g8,g9⟩:=hit;simp only[Pl.o.injEq]at g1;subst g1;exact⟨j,b,l,clock,l',ty,v,rfl,by grind[En.mD],g3,g4,Ue hr1 h5 g5,g6,by grind[En.mD],g8,g9⟩
  | x i=>
    cases hp:ν[i]? with
    | none=>
      have:Aw.length≤i:=by simp_all
      simp only[tJ,List.getD,dK this,jf];exact fun id h=>by trivial
    | some p=>
      obtain⟨cs,cs',h1,h2,h3⟩:=hIs i p hp;have hpm:=bU hp;simp only[tJ,List.getD,h3,bf];have ag8:∀k,p≠.s k:=by grind[vY]
      have hit:=hi.h.item p ag8;rw[h1]at hit
      obtain⟨_,b',ty,us,g1,g2,g3,g4⟩:=hit;refine⟨fun id h=>by trivial,b',ty,us,?_,g2,by rw[g3,J8 h2],J7 hr1 h2 g4⟩
      show(ν[i]?).bind E.blk=some b'
      simp[*]
 ·rcases z_ h1 with⟨i,p',rfl,k1,_,k2⟩|⟨j,k,rfl,m1,_,o1⟩<;>rcases z_ h2 with⟨i',q',rfl,k3,_,k4⟩|⟨j',k',rfl,m2,_,o2⟩
  ·have:=hi.h.inj p' q' b' k2 k4
   grind[List.getElem_inj]
  ·have:=hi.h.inj p' (.o k') b' k2 o2
   grind[Ti]
  ·have:=hi.h.inj q' (.o k) b' k4 o1
   grind[Ti]
  ·have:=hi.h.inj (.o k) (.o k') b' o1 o2
   grind[Yy]
 ·rcases z_ h1 with⟨i,p',rfl,k1,_,k2⟩|⟨j,k,rfl,m1,_,o1⟩
  ·exact hi.h.size p' b' k2
  ·exact hi.h.size _ b' o1
 ·rcases z_ hp with⟨i,p',rfl,k1,_,k2⟩|⟨j,k,rfl,m1,_,o1⟩
  ·obtain⟨e,k,es,k3,_⟩:=hi.h.sep b' o h p' k2
   grind
  ·obtain⟨e,z,es,k3,_⟩:=hi.h.sep b' o h _ o1
   grind[adi]
theorem zD.ext{po:Nat→Prop}{E E':En}{p:Pl}{it:It}(h:zD E p it)(x:Ext po E E')(ho:it.only po)(hb:E'.blk p=E.blk p)(hv:∀id,p = .o id→E'.val id=E.val id)
  (hh:∀b,E.own p=some b→E'.w.heap[b]? = E.w.heap[b]?):zD E' p it:=by
 cases it with
 | none=>exact fun id e=>by rw[hb,hv id e];exact h id e
 | v t=>exact(En.qB hb hv).trans h
 | box cs=>obtain⟨h0,b,ty,us,h1,h2,h3,h4⟩:=h;exact⟨fun id e=>by simp[*],b,ty,us,hb.trans h1,(hh b (by simp[En.own,h1])).trans h2,h3,eP.ext x ho h4⟩
 | row e k es sh=>
   obtain⟨h0,id,v,us,rfl,h1,h2,h3⟩:=h;refine⟨hb.trans h0,id,v,us,rfl,(hv id rfl).trans h1,⟨h2.1,?_⟩,iJ.ext x ho h3⟩;rcases h2.2 with hn|⟨g,cap,cur,rfl,hg,hgg,rest⟩
   ·simp[*]
   ·exact .inr ⟨g,cap,cur,rfl,hg,(hh g (by grind[En.own,Value.ownBlock])).trans hgg,rest⟩
 | yj e k es=>obtain⟨h0,id,v,us,rfl,h1,h2,h3⟩:=h;obtain⟨h4,g,o,cap,cur,rfl,hgg,rest⟩:=h2;exact⟨hb.trans h0,id,_,us,rfl,(hv id rfl).trans h1,⟨h4,g,o,cap,cur,rfl,(hh g (by grind[En.own,Value.ownBlock])).trans hgg,rest⟩,iJ.ext x ho h3⟩
 | mp es=>obtain⟨h0,b,l,clock,h1,h2,h3,h4⟩:=h;exact⟨fun id e=>by simp[*],b,l,clock,hb.trans h1,(hh b (by simp[En.own,h1])).trans h2,h3.ext x.r,h4⟩
 | jA es c pd s=>obtain⟨id,b,l,clock,l',ty,v,rfl,h1,h2,h3,h4,h5,h6,h7,h8⟩:=h;exact⟨id,b,l,clock,l',ty,v,rfl,hb.trans h1,(hh b (by grind[En.own])).trans h2,h3,nH.ext x ho h4,h5,(hv id rfl).trans h6,h7,h8⟩
 | Mc es s=>obtain⟨h0,h1,h2,h3,l',h4,h5⟩:=h;exact⟨(En.qB hb hv).trans h0,x.st _ _ h1,OI (x.cell _ _ h1) h2,h3,l',h4,nH.ext x ho h5⟩
 | Fb m s left cur=>obtain⟨h0,r,seen,h1,h2,h3⟩:=h;exact⟨fun id e=>by simp[*],r,seen,hb.trans h1,(hh r (by simp[En.own,h1])).trans h2,h3⟩
theorem iI.aiP{t:S}{a:Act}{E:En}(hi:iI A t a E){ν:List Pl}{rs:List (Nat×Nat)}{Aw lg:List It}{ro:List (Nat×It)}{b:Nat}(Px:ν.Nodup)(Eo:∀p∈ν,vY p=true)(hI:Ba t ν rs ν=some Aw)
  (hr1:(rs.map (·.1)).Nodup) (hr2:(rs.map (·.2)).Nodup) {ri:List (Nat×It)} (hrs:Ij t ν rs rs=some ri)
  (hl:lg.length=ν.length) (hbox:∀i∈lg,qM i=true) (SX:∀x∈ro,isObj x.2=true) (hfree:∀x∈ro,t (.o (b+x.1)) = .none)
  (hon:∀p,p∉ν→(∀k,p = .o k→k∉rs.map (·.2))→(t p).only fun id=>id∉rs.map (·.2))
  {r:TV} {u:Value} {E':En} (hp:Post (E.mD ν rs) lg ro r u E') :
  ∃E2:En,E2.w=E'.w∧iI A (over t (wx ν b ν lg++(wo ν b ro++wr rs))) a E2∧aV E2 (r.back ν b) u:=by
 obtain⟨hl0,hIs⟩:=FV hI;have hrow:∀{k},k∈rs.map (·.2)→aeW (t (.o k)):=fun h=>by
  obtain⟨x,hx,rfl⟩:=ay.1 h
  grind[O4]
 have Jc:∀{i:Nat} {p:Pl},ν[i]? = some p→∃cs,t p = .box cs:=fun h=>by grind
 have aeK:∀{p:Pl},p∈ν→∀k,p≠.s k:=fun hp k e=>by grind[vY]
 have abH:∀{k},k∈rs.map (·.2)→Pl.o k∉ν:=fun h hp=>by grind[List.getElem?_of_mem,Ti]
 let nw:Nat→Option Nat:=fun k=>if b≤k∧(k-b)∈ro.map (·.1)then some (k-b)else none
 have hnw:∀{k j},nw k=some j↔k=b+j∧j∈ro.map (·.1):=fun {k j}=>by grind
 have xZ:∀{k j},nw k=some j→t (.o k) = .none:=fun h=>by grind
 have G6:∀{k j},nw k=some j→E.blk (.o k)=none∧E.val k=none:=fun {k j} h=>by
  have:=hi.h.item (.o k) (by simp);rw[xZ h]at this
  exact this k rfl
 have hnr:∀{k j},nw k=some j→k∉rs.map (·.2):=fun h g=>by grind[aeX]
 let E2:En:={w:=E'.w,St:=E'.St,blk:=fun p=>match p with|.o k=>(match nw k with|some j=>E'.blk (.o j)|none=>if k∈rs.map (·.2)then none else E.blk (.o k))|p=>E.blk p,
             val:=fun k=>match nw k with|some j=>E'.val j|none=>if k∈rs.map (·.2)then none else E.val k}
 have ql:∀{p:Pl},(∀k j,p = .o k→nw k≠some j)→(∀k,p = .o k→k∉rs.map (·.2))→E2.blk p=E.blk p:=fun {p} h g=>by grind
 have uo:∀{k:Nat},(∀j,nw k≠some j)→k∉rs.map (·.2)→E2.val k=E.val k:=fun {k} h g=>by grind
 have um:∀{k j:Nat},nw k=some j→E2.blk (.o k)=E'.blk (.o j)∧E2.val k=E'.val j:=fun {k j} h=>by grind
 have nY:∀{p:Pl},(∀k j,p = .o k→nw k≠some j)→(∀k,p = .o k→k∉rs.map (·.2))→E2.own p=E.own p:=fun {p} h g=>En.qB (ql h g) (fun id e=>uo (fun j=>h id j e) (g id e))
 have nX:∀{k j:Nat},nw k=some j→E2.own (.o k)=E'.own (.o j):=fun {k j} h=>by
  obtain⟨h1,h2⟩:=um h
  grind[En.own]
 have u_:∀{k},k∈rs.map (·.2)→E2.own (.o k)=none:=fun {k} h=>by
  have hn:nw k=none:=by grind
  simp only[En.own,E2,hn,if_pos h,Option.bind_none]
 have hcx:∀i,(E.mD ν rs).blk (.x i)=(ν[i]?).bind E.blk:=fun i=>rfl
 have hown2:∀{j b'},(E.mD ν rs).own (.o j)=some b'→∃k,k∈rs.map (·.2)∧E.own (.o k)=some b':=fun {j b'} h=>by
  rcases z_ h with⟨i,q,e,_⟩|⟨j',k,e,m,_,o⟩
  ·trivial
  grind
 have xO:∀{i b'},(E.mD ν rs).blk (.x i)=some b'→∃p,ν[i]? = some p∧E.blk p=some b'∧E.own p=some b':=fun {i b'} h=>by
  rw[hcx]at h
  cases hp:ν[i]? with
  | none=>grind
  | some p=>simp only[hp,dH]at h;exact⟨p,rfl,h,by simp[En.own,h]⟩
 have Tc:∀{b' o},E.St b' o→E'.w.heap[b']? = E.w.heap[b']? :=fun {b' o} h=>hp.fr.old b' (hi.h.uP _ _ h) (fun i hx=>by
  obtain⟨p,h1,h2,h3⟩:=xO hx;obtain⟨cs,h4⟩:=Jc h1;obtain⟨e,k,es,h5,_⟩:=hi.h.sep _ _ h p h3;rw[h4]at h5;simp at h5) (fun j hj=>by
  obtain⟨k,h1,h2⟩:=hown2 hj;obtain⟨e,z,es,h5,_⟩:=hi.h.sep _ _ h _ h2;exact adi (hrow h1) h5)
 have x:Ext (fun id=>id∉rs.map (·.2)) E E2:=by
  refine⟨fun b' o h=>hp.fr.st b' o h,fun b' o h=>jV (Tc h),fun id b' hid h=>?_,fun i b' h=>h,fun i b' h=>h,fun id k c v hid h=>?_⟩
  ·rw[ql]
   ·exact h
   ·rintro k j e hn;simp only[Pl.o.injEq]at e;subst e;rw[(G6 hn).1]at h;simp at h
   ·intro k e;simp only[Pl.o.injEq]at e;subst e;exact hid
  ·refine⟨c,v,?_,aI _,fun _=>rfl⟩;rw[uo _ hid]
   ·exact h
   ·intro j hn;rw[(G6 hn).2]at h;simp at h
 have hmem:∀{j:Nat},(E'.blk (.o j)≠none∨E'.val j≠none)→j∈ro.map (·.1):=fun {j} h=>by
  by_cases hj:j∈ro.map (·.1)
  ·omega
  ·have:=hp.h.item (.o j) (by simp);simp only[tJ,IY hj]at this;obtain⟨h1,h2⟩:=this j rfl;rcases h with h|h
   ·exact absurd h1 h
   ·exact absurd h2 h
 have hback:∀{v:TV} {u:Value},aV E' v u→aV E2 (v.back ν b) u:=fun {v u} h=>by
  refine KQ (E':=E') (E2:=E2) ⟨fun _ _ h=>h,fun _ _ _=>rfl⟩ (fun i b' hb=>?_) (fun id b' hb=>?_) (fun id y hy=>?_) hp.h.frees h
  ·rw[hp.fr.xb]at hb
   obtain⟨p,h1,h2,h3⟩:=xO hb;have hg:ν.getD i (.s 0)=p:=by simp[*]
   rw[hg,ql]
   ·omega
   ·rintro k j rfl hn;rw[(G6 hn).1]at h2;trivial
   ·rintro k rfl hk;exact abH hk (bU h1)
  ·have hj:=hmem (j:=id) (.inl (by simp[*]));rw[(um (hnw.2 ⟨rfl,hj⟩)).1];omega
  ·have hj:=hmem (j:=id) (.inr (by simp[*]));rw[(um (hnw.2 ⟨rfl,hj⟩)).2];omega
 have abD:∀{p:Pl},(∀k j,p = .o k→nw k≠some j)→∀j∈ro.map (·.1),p≠.o (b+j):=fun h j hj e=>h _ j e (hnw.2 ⟨rfl,hj⟩)
 have Cc:∀{p:Pl},p∈ν→∀k j,p = .o k→nw k≠some j:=fun {p} qA k j e hn=>by subst e;obtain⟨i,hi'⟩:=bM qA;obtain⟨cs,h⟩:=Jc hi';rw[xZ hn]at h;simp at h
 have AQ:∀p,over t (wx ν b ν lg++(wo ν b ro++wr rs)) p=if p∈ν then over t (wx ν b ν lg) p else over (over t (wr rs)) (wo ν b ro) p:=fun p=>by
  rw[yc,yc];split
  ·rename_i h;obtain⟨i,h1⟩:=bM h;have hil:i<lg.length:=by rw[hl];exact(aA.1 h1).1
   rw[DW Px hl h1 (ah hil),DW Px hl h1 (ah hil)]
  ·rename_i h;rw[ND h]
 have hold:∀{p:Pl},p∉ν→(∀k j,p = .o k→nw k≠some j)→(∀k,p = .o k→k∉rs.map (·.2))→over t (wx ν b ν lg++(wo ν b ro++wr rs)) p=t p:=fun h1 h2 h3=>by rw[AQ,if_neg h1,E_ (abD h2),UR (fun k hk e=>h3 k e hk)]
 have ag1:∀{k},k∈rs.map (·.2)→over t (wx ν b ν lg++(wo ν b ro++wr rs)) (.o k) = .v .junk:=fun {k} h=>by rw[AQ,if_neg (abH h),E_ (abD (p:=.o k) (fun k' j e hn=>by simp only[Pl.o.injEq]at e;subst e;exact hnr hn h)),acH h]
 have hH:pX E2 (over t (wx ν b ν lg++(wo ν b ro++wr rs))):=by
  refine⟨fun p hps=>?_,fun k=>hi.h.frees k,fun p q b' h1 h2=>?_,fun p b' h1=>?_,fun b' o h1=>hp.h.uP b' o h1,fun b' o h1 p h2=>?_,fun y hy=>gq.ext x.r _ _ _ (hi.h.gl y hy)⟩
  ·by_cases qA:p∈ν
   ·obtain⟨i,h1⟩:=bM qA;have hil:i<lg.length:=by rw[hl];exact(aA.1 h1).1
    rw[AQ,if_pos qA,DW Px hl h1 (ah hil)];have hb:=hbox lg[i] (aB hil);have hit:=hp.h.item (.x i) (by simp);have hr:tJ lg ro (.x i)=lg[i]:=by simp[tJ,List.getD,hil]
    rw[hr]at hit
    cases hc:lg[i]with
    | box cs=>
      rw[hc]at hit
      obtain⟨_,b',ty,us,h2,h3,h4,h5⟩:=hit;rw[hp.fr.xb]at h2
      obtain⟨p',g1,g2,g3⟩:=xO h2;rw[h1]at g1;simp only[aj]at g1;subst g1
      refine⟨fun id e=>?_,b',ty,us,?_,h3,by rw[h4,uf],yG hback h5⟩
      ·subst e;rw[uo (fun j=>Cc qA id j rfl) (fun h=>abH h qA)];obtain⟨cs0,g4⟩:=Jc h1;have:=hi.h.item (.o id) (by simp);rw[g4]at this
       exact this.1 id rfl
      ·rw[ql (Cc qA) (fun k e hk=>by subst e;exact abH hk qA)];exact g2
    | none=>rw[hc]at hb;simp[qM]at hb
    | v _=>rw[hc]at hb;simp[qM]at hb
    | row _ _ _ _=>rw[hc]at hb;simp[qM]at hb
    | yj _ _ _=>rw[hc]at hb;simp[qM]at hb
    | mp _=>rw[hc]at hb;simp[qM]at hb
    | jA _ _ _ _=>rw[hc]at hb;simp[qM]at hb
    | Fb _ _ _ _=>rw[hc]at hb;simp[qM]at hb
    | Mc _ _=>rw[hc]at hb;simp[qM]at hb
   ·by_cases hn:∃k j,p = .o k∧nw k=some j
    ·obtain⟨k,j,rfl,hn⟩:=hn;obtain⟨rfl,hj⟩:=hnw.1 hn;rw[AQ,if_neg qA,Kw hj];have ho:=OG SX hj;have hit:=hp.h.item (.o j) (by simp);simp only[tJ]at hit;obtain⟨hb1,hv1⟩:=um hn;cases hc:zi ro j with
     | box cs=>
       rw[hc]at hit
       obtain⟨h0,b',ty,us,h2,h3,h4,h5⟩:=hit;exact⟨fun id e=>by simp only[Pl.o.injEq]at e;subst e;rw[hv1];exact h0 j rfl,b',ty,us,hb1.trans h2,h3,by rw[h4,uf],yG hback h5⟩
     | row e k' es sh=>
       rw[hc]at hit
       obtain⟨h0,id,v,us,e1,h2,h3,h4⟩:=hit;simp only[Pl.o.injEq]at e1;subst e1;exact⟨hb1.trans h0,b+j,v,us,rfl,by rw[hv1,aN];exact h2,by rw[aN];exact h3,Ql hback h4⟩
     | mp es=>
       rw[hc]at hit
       obtain⟨h0,b',l,clock,h2,h3,h4,h5⟩:=hit;exact⟨fun id e=>by simp only[Pl.o.injEq]at e;subst e;rw[hv1];exact h0 j rfl,b',l,clock,hb1.trans h2,h3,uV.ext (E:=E') (E':=E2) ⟨fun _ _ h=>h,fun _ _ _=>rfl⟩ h4,h5⟩
     | jA es c pd s=>
       rw[hc]at hit
       obtain⟨id,b',l,clock,l',ty,v,e1,h2,h3,h4,h5,h6,h7,h8,h9⟩:=hit;simp only[Pl.o.injEq]at e1;subst e1;exact⟨b+j,b',l,clock,l',ty,v,rfl,hb1.trans h2,h3,h4,acL hback h5,h6,by rw[hv1];exact h7,h8,h9⟩
     | Fb _ _ _ _=>rw[hc]at ho;simp[isObj]at ho
     | Mc _ _=>rw[hc]at ho;simp[isObj]at ho
     | yj _ _ _=>rw[hc]at ho;simp[isObj]at ho
     | none=>rw[hc]at ho;simp[isObj]at ho
     | v _=>rw[hc]at ho;simp[isObj]at ho
    ·have hn':∀k j,p = .o k→nw k≠some j:=fun k j e h=>hn ⟨k,j,e,h⟩
     by_cases hg:∃k,p = .o k∧k∈rs.map (·.2)
     ·obtain⟨k,rfl,hk⟩:=hg;rw[ag1 hk];exact u_ hk
     ·have hg':∀k,p = .o k→k∉rs.map (·.2):=fun k e h=>hg ⟨k,e,h⟩
      rw[hold qA hn' hg'];refine(hi.h.item p hps).ext x (hon p qA hg') (ql hn' hg') (fun id e=>uo (fun j=>hn' id j e) (hg' id e)) (fun b' hb'=>?_);refine hp.fr.old b' (hi.h.size p b' hb') (fun i hx=>?_) (fun j hj=>?_)
      ·obtain⟨q,g1,g2,g3⟩:=xO hx;have:=hi.h.inj p q b' hb' g3;subst this;exact qA (bU g1)
      ·obtain⟨k,g1,g2⟩:=hown2 hj;exact hg' k (hi.h.inj p _ b' hb' g2) g1
  ·have hgo:∀{p b'},E2.own p=some b'→∀k,p = .o k→k∉rs.map (·.2):=fun {p b'} h k e g=>by
    subst e;rw[u_ g]at h;simp at h
   have SV:∀{j q},E'.own (.o j)=some b'→E.own q=some b'→(∀k,q = .o k→k∉rs.map (·.2))→False:=fun {j q} h1 h2 h3=>by
    have g2:=hi.h.size q b' h2;rcases hp.fr.new j b' h1 with g1|⟨i,g1⟩
    ·simp only[En.mD]at g1;omega
    ·obtain⟨k,g3,g4⟩:=hown2 g1;exact h3 k (hi.h.inj q _ b' h2 g4) g3
   by_cases n1:∃k j,p = .o k∧nw k=some j<;>by_cases n2:∃k j,q = .o k∧nw k=some j
   ·obtain⟨k,j,rfl,hn⟩:=n1;obtain⟨k',j',rfl,hn'⟩:=n2;rw[nX hn]at h1;rw[nX hn']at h2
    have:=hp.h.inj _ _ b' h1 h2;simp only[Pl.o.injEq]at this;subst this;rw[(hnw.1 hn).1,(hnw.1 hn').1]
   ·obtain⟨k,j,rfl,hn⟩:=n1;have hq:=hgo h2;rw[nX hn]at h1
    rw[nY (fun k j e h=>n2 ⟨k,j,e,h⟩) hq]at h2
    exact(SV h1 h2 hq).elim
   ·obtain⟨k,j,rfl,hn⟩:=n2;have hq:=hgo h1;rw[nX hn]at h2
    rw[nY (fun k j e h=>n1 ⟨k,j,e,h⟩) hq]at h1
    exact(SV h2 h1 hq).elim
   ·have hq1:=hgo h1;have hq2:=hgo h2;rw[nY (fun k j e h=>n1 ⟨k,j,e,h⟩) hq1]at h1
    rw[nY (fun k j e h=>n2 ⟨k,j,e,h⟩) hq2]at h2
    exact hi.h.inj p q b' h1 h2
  ·by_cases n1:∃k j,p = .o k∧nw k=some j
   ·obtain⟨k,j,rfl,hn⟩:=n1;rw[nX hn]at h1
    exact hp.h.size _ b' h1
   ·by_cases hg:∃k,p = .o k∧k∈rs.map (·.2)
    ·obtain⟨k,rfl,hk⟩:=hg;rw[u_ hk]at h1;simp at h1
    ·rw[nY (fun k j e h=>n1 ⟨k,j,e,h⟩) (fun k e h=>hg ⟨k,e,h⟩)]at h1
     exact fC (hi.h.size p b' h1) hp.fr.size
  ·by_cases n1:∃k j,p = .o k∧nw k=some j
   ·obtain⟨k,j,rfl,hn⟩:=n1;rw[nX hn]at h2
    obtain⟨e,k',es,g1,g2⟩:=hp.h.sep b' o h1 _ h2;obtain⟨rfl,hj⟩:=hnw.1 hn;have qA:Pl.o (b+j)∉ν:=fun h=>Cc h _ j rfl hn
    refine⟨e,k',es.map (TV.backs ν b),?_,by simpa using g2⟩;rw[AQ,if_neg qA,Kw hj];simp only[tJ]at g1;rw[g1];rfl
   ·have n1':∀k j,p = .o k→nw k≠some j:=fun k j e h=>n1 ⟨k,j,e,h⟩
    by_cases hg:∃k,p = .o k∧k∈rs.map (·.2)
    ·obtain⟨k,rfl,hk⟩:=hg;rw[u_ hk]at h2;simp at h2
    ·have hg':∀k,p = .o k→k∉rs.map (·.2):=fun k e h=>hg ⟨k,e,h⟩
     rw[nY n1' hg']at h2
     have hsz:=hi.h.size p b' h2;rcases hp.fr.AU b' o h1 with g1|g1|⟨i,g1⟩
     ·obtain⟨e,k,es,g2,g3⟩:=hi.h.sep b' o g1 p h2;refine⟨e,k,es,?_,g3⟩;rw[hold _ n1' hg',g2];intro qA;obtain⟨i,hi'⟩:=bM qA;obtain⟨cs,h⟩:=Jc hi';rw[h]at g2;simp at g2
     ·simp only[En.mD]at g1;omega
     ·obtain⟨k,g3,g4⟩:=hown2 g1;exact absurd g3 (hg' k (hi.h.inj p _ b' h2 g4))
 have hsl:∀k,over t (wx ν b ν lg++(wo ν b ro++wr rs)) (.s k)=t (.s k):=fun k=>hold (fun h=>aeK h k rfl) (fun _ _ e=>by simp at e) (fun _ e=>by simp at e)
 have hE0:∀{j b'},(E.mD ν rs).own (.o j)=some b'→A.E0.w.heap.size≤b'∨∃i,A.E0.own (.o i)=some b':=fun {j b'} h=>by obtain⟨k,_,g⟩:=hown2 h;exact hi.fr.new k b' g
 refine⟨E2,rfl,⟨hH,(hi.fr.akk hp.fr.os hp.fr.tape hp.fr.output hp.fr.size (fun b' h1 h2 h3=>?_) (fun i=>rfl) (fun id b' h=>?_) (fun b' o h=>hp.fr.st b' o h) (fun b' o h=>?_)),fun k tv hk=>?_,hi.defers,hi.size⟩,hback hp.rel⟩
 ·refine hp.fr.old b' (fC h1 hi.fr.size) (fun i hx=>?_) (fun j hj=>?_)
  ·obtain⟨q,g1,g2,g3⟩:=xO hx;cases q with
   | s k=>rw[hi.h.frees k]at g2;simp at g2
   | x j=>exact h2 j ((hi.fr.xb j).symm.trans g2)
   | o k=>exact(hi.fr.new k b' g3).elim (fun h=>by omega) (fun⟨j,h⟩=>h3 j h)
  ·exact(hE0 hj).elim (fun h=>by omega) (fun⟨j,h⟩=>h3 j h)
 ·cases hn:nw id with
  | some j=>
    rw[nX hn]at h
    rcases hp.fr.new j b' h with g|⟨i,g⟩
    ·exact .inr g
    ·obtain⟨k,_,g2⟩:=hown2 g;exact .inl ⟨k,g2⟩
  | none=>
    by_cases hk:id∈rs.map (·.2)
    ·rw[u_ hk]at h;simp at h
    ·rw[nY (fun k j e h=>by simp only[Pl.o.injEq]at e;subst e;rw[hn]at h;simp at h) (fun k e=>by simp only[Pl.o.injEq]at e;subst e;exact hk)]at h
     exact .inl ⟨id,h⟩
 ·rcases hp.fr.AU b' o h with g|g|⟨i,g⟩
  ·exact .inl g
  ·exact .inr (.inl (aY hi.fr.size g))
  ·exact .inr (hE0 g)
 ·rw[hsl]at hk
  obtain⟨u',h1,h2⟩:=hi.sl k tv hk;refine⟨u',h1,aV.ext x tv u' ?_ h2⟩;have:=hon (.s k) (fun h=>aeK h k rfl) (fun _ e=>by simp at e)
  rwa [hk]at this
variable {ops:Array Oper}
def QT(ν:List Pl)(gone:List Nat):List (Pl×It)→Prop
 | []=>True
 | (p,i)::l=>(p∈ν∨(∃k,k∈gone∧p = .o k)∨i.only fun id=>id∉gone)∧QT ν gone l
theorem QT.spec{ν:List Pl}{gone:List Nat}:∀{l:List (Pl×It)},QT ν gone l→∀p,p∉ν→(∀k,p = .o k→k∉gone)→(look l p).only fun id=>id∉gone
 | [],_,p,_,_=>by simp
 | (q,i)::l,h,p,h1,h2=>by
   simp only[look];split
   ·rename_i e;subst e;rcases h.1 with h3|⟨k,h3,e⟩|h3
    ·exact absurd h3 h1
    ·exact absurd h3 (h2 k e)
    ·exact h3
   ·exact QT.spec h.2 p h1 h2
theorem U1.call3{t:S}{i:Nat}{o:Oper}{gp:List Pl}{fo:Operand}{xs:List Operand}{tys:Array TypeId}{f:FuncId}{caps mY:List TV}{Aw lg:List It}{ri:List (Nat×It)}{r:TV}{ro:List (Nat×It)}
  (ho:ops[i]? = some o) (hg:gv ops t o=some (gp,true)) (hd:qj A.N o=true) (hop:o.op = .call {callee:=.value fo,args:=xs.toArray,argTypes:=tys}) (hf:ev t fo = .clo f caps) (hfn:dP P f=true)
  (C:wz P f mY Aw ri r lg ro) (ν:List Pl) (rs:List (Nat×Nat)) (b:Nat) (Px:ν.Nodup) (Eo:∀p∈ν,vY p=true) (hp:TV.tY ν rs (xs.map (ev t)++caps)=some mY) (hI:Ba t ν rs ν=some Aw)
  (hr1:(rs.map (·.1)).Nodup) (hr2:(rs.map (·.2)).Nodup) (XV:Ij t ν rs rs=some ri)
  (hl:lg.length=ν.length) (hbox:∀i∈lg,qM i=true) (SX:∀x∈ro,isObj x.2=true) (hfree:∀x∈ro,t (.o (b+x.1)) = .none)
  (hon:∀p,p∉ν→(∀k,p = .o k→k∉rs.map (·.2))→(t p).only fun id=>id∉rs.map (·.2)) :
  U1 P A ops i t fun _:Unit=>wF o (r.back ν b) (wx ν b ν lg++(wo ν b ro++wr rs)):=fun a w ⟨E,hw,hi⟩ K Q hK=>by
 subst hw;have hwant:=oQ hg (fun _ _=>rfl) hi;have hfr:=dS hi fo;rw[hf]at hfr
 simp only[aV]at hfr;obtain⟨vF,Cb,wY⟩:=hfr;have hxr:=Dq hi xs;have happ:∀{ts ts':List TV} {us us':List Value},b_ E ts us→b_ E ts' us'→b_ E (ts++ts') (us++us'):=by
  intro ts
  induction ts with
  | nil=>intro ts' us us' h g;simp only[b_]at h;subst h;simpa using g
  | cons v ts ih=>intro ts' us us' h g;simp only[b_]at h;obtain⟨u,us0,rfl,h1,h2⟩:=h;simp only[fF,b_];exact⟨u,us0++us',rfl,h1,ih h2 g⟩
 have hargs:=happ hxr wY;have JM:b_ (E.mD ν rs) mY (xs.map a.eval++vF.toList):=FT hr1 hp hargs;have hH0:pX (E.mD ν rs) (tJ Aw ri):=pX.mD hi Px hI Eo hr1 hr2 XV;have hcall:=C (E.mD ν rs) _ hH0 JM;have hwc:(E.mD ν rs).w=E.w:=rfl;rw[hwc]at hcall
 unfold wpOp;simp only[ho,hwant,if_true];refine .inl ?_;unfold Oper.wp;have hrun:(execOp a.eval o).run P E.w = .ok (.enter f (xs.map a.eval++vF.toList).toArray) E.w:=by
  have harr:(List.map a.eval xs++vF.toList).toArray=(List.map a.eval xs).toArray++vF:=by simp
  simp only[execOp,hop,resolve,Cb,Deferred.ofValue,invoke,Sem.run_bind,Sem.run_pure,Result.andThen_ok,iy,iF,jH hfn,harr]
 rw[hrun];simp only[Oper.upon];refine hcall.mono fun e w' ⟨u,E',he,hw',hpost⟩=>?_
 subst he;obtain⟨E2,hw2,hi2,hr2'⟩:=hi.aiP Px Eo hI hr1 hr2 XV hl hbox SX hfree hon hpost;refine hK () _ _ ⟨E2,hw2.trans hw',iI.dst ?_ hd hr2'⟩;exact hi2
def aa2(P:Program)(N:Nat)(l:List (Pl×It))(o:Oper)(f:FuncId)(mY:List TV)(Aw:List It)(ri:List (Nat×It))(r:TV)(lg:List It)(ro:List (Nat×It))(ν:List Pl)(rs:List (Nat×Nat))(b:Nat)(gp:List Pl)(g:Bool):Option (Prop×List Pl×List (Pl×It)):=
 match o.op with
 | .call {callee:=.value fo,args:=xs,argTypes:=_}=>
   match ev (look l) fo with
   | .clo f' caps=>
     match Ba (look l) ν rs ν,TV.tY ν rs (xs.toList.map (ev (look l))++caps),Ij (look l) ν rs rs with
     | some c0,some a0,some r0=>
       some (g=true∧qj N o=true∧f'=f∧dP P f=true∧ν.Nodup∧(∀p∈ν,vY p=true)∧a0=mY∧c0=Aw∧(rs.map (·.1)).Nodup∧(rs.map (·.2)).Nodup∧r0=ri∧
        lg.length=ν.length∧(∀x∈lg,qM x=true)∧(∀x∈ro,isObj x.2=true)∧(∀x∈ro,look l (.o (b+x.1)) = .none)∧QT ν (rs.map (·.2)) l,
        gp++(pl fo++(xs.toList.flatMap pl++(ν++((rs.map fun x=>.o x.2)++ro.map fun x=>.o (b+x.1))))),
        wF o (r.back ν b) (wx ν b ν lg++(wo ν b ro++wr rs)))
     | _,_,_=>none
   | _=>none
 | _=>none
def aa0(P:Program)(N:Nat)(l:List (Pl×It))(ops:Array Oper)(f:FuncId)(mY:List TV)(Aw:List It)(ri:List (Nat×It))(r:TV)(lg:List It)(ro:List (Nat×It))(ν:List Pl)(rs:List (Nat×Nat))(b:Nat):Option Oper→Option (Prop×List Pl×List (Pl×It))
 | some o=>match gv ops (look l) o with
   | some (gp,g)=>aa2 P N l o f mY Aw ri r lg ro ν rs b gp g
   | none=>none
 | none=>none
theorem Fe.of3{i:Nat}{l:List (Pl×It)}{k:List Pl→List (Pl×It)→Prop}{g:Tg k}{f:FuncId}{mY:List TV}{Aw lg:List It}{ri:List (Nat×It)}{r:TV}{ro:List (Nat×It)}(C:wz P f mY Aw ri r lg ro)(ν:List Pl)(rs:List (Nat×Nat))(b:Nat)
  (h:UW k g (aa0 P A.N l ops f mY Aw ri r lg ro ν rs b ops[i]?)):Fe P A ops i (look l) k g:=by
 unfold UW at h;split at h
 ·rename_i D rp W hc;obtain⟨h1,h2⟩:=h;refine⟨Unit,fun _=>rp,fun _=>W,?_,fun _=>h2⟩;unfold aa0 at hc;split at hc
  ·rename_i o ho;split at hc
   ·rename_i gp g0 hg;unfold aa2 at hc;split at hc
    ·rename_i fo xs tys hop;split at hc
     ·rename_i f' caps hf;split at hc
      ·rename_i c0 a0 r0 hI hp XV;simp only[aj,aK]at hc;obtain⟨rfl,rfl,rfl⟩:=hc;obtain⟨rfl,q1,rfl,q2,q3,q4,rfl,rfl,q5,q6,rfl,q8,q9,q10,q11,q12⟩:=h1;exact U1.call3 (xs:=xs.toList) ho hg q1 (by omega) hf q2 C ν rs b q3 q4 hp hI q5 q6 XV q8 q9 q10 q11 q12.spec
      trivial
     trivial
    trivial
   trivial
  trivial
 trivial
theorem TY(ν:List Pl)(rs:List (Nat×Nat)):∀l:List D,TV.tY ν rs (l.map .d)=some (l.map .d)
 | []=>rfl
 | x::l=>by simp[TV.tY,TV.zl,TY ν rs l]
theorem T_(ν:List Pl)(rs:List (Nat×Nat)):∀l:List (List D),qZ ν rs (dd l)=some (dd l)
 | []=>rfl
 | x::l=>by
   have:=T_ ν rs l
   grind[dd,qZ,TY]
theorem PN(ν:List Pl)(rs:List (Nat×Nat)):∀a b:List (List TV),qZ ν rs (a++b)=match qZ ν rs a,qZ ν rs b with
  | some x,some y=>some (x++y)
  | _,_=>none
 | [],b=>by cases h:qZ ν rs b<;>simp[qZ,h]
 | e::a,b=>by
   simp only[fF,qZ,PN ν rs a b]
   grind
theorem ab7(ν:List Pl)(rs:List (Nat×Nat))(cs:List TV):ab6 ν rs (.box cs)=match TV.tY ν rs cs with|some cs=>some (.box cs)|none=>none:=rfl
theorem ab8(ν:List Pl)(rs:List (Nat×Nat)):DN ν rs []=some []:=rfl
theorem Ko{α:Type}(ν:List Pl)(rs:List (Nat×Nat))(f:α→List Int)(g:α→D):∀l:List α,DN ν rs (l.map fun x=>(f x,TV.d (g x)))=some (l.map fun x=>(f x,TV.d (g x)))
 | []=>rfl
 | x::l=>by simp[DN,TV.zl,Ko ν rs f g l]
theorem aeU(es:List (List Int×TV))(c:Nat)(pd:Option (List Int))(s:Option oO):isObj (.jA es c pd s)=true:=rfl
theorem ad9(ν:List Pl)(b:Nat)(es:List (List Int×TV))(c:Nat)(pd:Option (List Int))(s:Option oO):KP ν b (.jA es c pd s) = .jA (es.map fun x=>(x.1,x.2.back ν b)) c pd s:=rfl
theorem ah6(a b:Nat)(es:List (List Int×TV))(c:Nat)(pd:Option (List Int))(s:Option oO):qU a b (.jA es c pd s) = .jA (es.map fun x=>(x.1,x.2.ren a b)) c pd s:=rfl
attribute [simp] aeU ad9 ah6 aa0 aa2 TV.zl TV.tY Ba ab7 Uf qZ T_ PN Ij QT ab8 Ko
end
end Go.Tr
