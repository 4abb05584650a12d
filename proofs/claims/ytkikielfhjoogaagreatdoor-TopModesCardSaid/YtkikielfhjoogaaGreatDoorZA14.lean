/-
  What functions of the program compute, stated as contracts over plain data; the conditions of each stand in its own statement.
-/
import Derived.Test.YtkikielfhjoogaaGreatDoorZA13
import Derived.Test.YtkikielfhjoogaaGreatDoorZA11
set_option linter.unusedSimpArgs false
set_option linter.unusedVariables false
namespace Go.Tr
open Go
mutual
def TV.xH(ν:List Pl)(rs:List (Nat×Nat)):TV→Option TV
 | .junk=>some .junk
 | .d x=>some (.d x)
 | .c v=>some (.c v)
 | .agg vs=>match TV.oW ν rs vs with|some vs=>some (.agg vs)|none=>none
 | .qh _=>none
 | .aW id n=>match aaY rs id with|some j=>some (.aW j n)|none=>none
 | .ptr p q=>match Z9 p ν 0 with|some i=>some (.ptr (.x i) q)|none=>none
 | .ep e q=>some (.ep e q)
 | .qH _ _ _ _=>none
 | .mref id=>match aaY rs id with|some j=>some (.mref j)|none=>none
 | .sx _=>none
 | .LG _ _ _=>none
 | .clo f vs=>match TV.oW ν rs vs with|some vs=>some (.clo f vs)|none=>none
def TV.oW(ν:List Pl)(rs:List (Nat×Nat)):List TV→Option (List TV)
 | []=>some []
 | v::vs=>match TV.xH ν rs v,TV.oW ν rs vs with
   | some v,some vs=>some (v::vs)
   | _,_=>none
end
section
variable {P:Program} {A:f_}
def En.jl(E:En)(ν:List Pl)(rs:List (Nat×Nat)):En:=
 {w:=E.w,St:=E.St,blk:=fun p=>match p with|.x i=>(ν[i]?).bind E.blk|.o j=>(zn rs j).bind fun k=>E.blk (.o k)|_=>none,val:=fun j=>(zn rs j).bind E.val}
theorem Jr(E:En)(ν:List Pl)(rs:List (Nat×Nat)):Fa E (E.jl ν rs):=⟨fun _ _ h=>h,fun _ _ _=>rfl⟩
mutual
theorem J7{ν:List Pl}{rs:List (Nat×Nat)}{E:En}(hn:(rs.map (·.1)).Nodup):∀{v v':TV} {u:Value},v.xH ν rs=some v'→aP E v u→aP (E.jl ν rs) v' u
 | .junk,v',u,h,_=>by grind[TV.xH,aP]
 | .d x,v',u,h,hr=>by grind[TV.xH,aP,Rep.ext,Jr]
 | .c v,v',u,h,hr=>by grind[TV.xH,aP]
 | .agg vs,v',u,h,hr=>by
   simp only[TV.xH]at h;split at h
   ·rename_i vs' hv;simp only[ah]at h;subst h;obtain⟨us,hu,hs⟩:=hr;exact⟨us,hu,AU hn hv hs⟩
   trivial
 | .qh vs,v',u,h,_=>by trivial
 | .aW id n,v',u,h,hr=>by
   simp only[TV.xH]at h;split at h
   ·rename_i j hj;simp only[ah]at h;subst h;obtain⟨h1,k,c,v,h2,h3⟩:=hr;exact⟨h1,k,c,v,by simp only[En.jl,Nh hn (IQ hj),bY];omega,h3⟩
   trivial
 | .ptr p q,v',u,h,hr=>by
   simp only[TV.xH]at h;split at h
   ·rename_i i hi;simp only[ah]at h;subst h;simp only[aP]at hr⊢;obtain⟨_,h2⟩:=D8 hi
    grind[En.jl]
   trivial
 | .ep e q,v',u,h,hr=>by grind[TV.xH,aP,dU.ext,Jr]
 | .qH _ _ _ _,v',u,h,_=>by trivial
 | .mref id,v',u,h,hr=>by
   simp only[TV.xH]at h;split at h
   ·rename_i j hj;simp only[ah]at h;subst h;obtain⟨b,h1,h2⟩:=hr;exact⟨b,by simp only[En.jl,Nh hn (IQ hj),bY];omega,h2⟩
   trivial
 | .sx _,v',u,h,_=>by trivial
 | .LG _ _ _,v',u,h,_=>by trivial
 | .clo f vs,v',u,h,hr=>by
   simp only[TV.xH]at h;split at h
   ·rename_i vs' hv;simp only[ah]at h;subst h;simp only[aP]at hr⊢;obtain⟨us,hu,hs⟩:=hr;exact⟨us,hu,AU hn hv hs⟩
   trivial
theorem AU{ν:List Pl}{rs:List (Nat×Nat)}{E:En}(hn:(rs.map (·.1)).Nodup):∀{vs vs':List TV} {us:List Value},TV.oW ν rs vs=some vs'→bD E vs us→bD (E.jl ν rs) vs' us
 | [],vs',us,h,hr=>by grind[TV.oW,bD]
 | v::vs,vs',us,h,hr=>by
   simp only[TV.oW]at h;split at h
   ·rename_i v1 vs1 h1 h2;simp only[ah]at h;subst h;simp only[bD]at hr⊢;obtain⟨u,us',hu,g1,g2⟩:=hr;exact⟨u,us',hu,J7 hn h1 g1,AU hn h2 g2⟩
   trivial
end
def aaG(ν:List Pl)(rs:List (Nat×Nat)):It→Option It
 | .box cs=>match TV.oW ν rs cs with|some cs=>some (.box cs)|none=>none
 | _=>none
def xQ(t:S)(ν:List Pl)(rs:List (Nat×Nat)):List Pl→Option (List It)
 | []=>some []
 | p::l=>match aaG ν rs (t p),xQ t ν rs l with
   | some i,some is=>some (i::is)
   | _,_=>none
theorem AX{t:S}{ν:List Pl}{rs:List (Nat×Nat)}:∀{l:List Pl} {xs:List It},xQ t ν rs l=some xs→xs.length=l.length∧∀(i:Nat) (p:Pl),l[i]? = some p→∃cs cs',t p = .box cs∧TV.oW ν rs cs=some cs'∧xs[i]? = some (.box cs')
 | [],xs,h=>by grind[xQ]
 | p::l,xs,h=>by
   simp only[xQ]at h;split at h
   ·rename_i it is h1 h2;simp only[ah]at h;subst h;obtain⟨h3,h4⟩:=AX h2;refine⟨by simp[*],fun i q hq=>?_⟩;cases i with
    | zero=>
      simp at hq;unfold aaG at h1
      grind
    | succ i=>simp_all
   trivial
theorem FZ{ν:List Pl}{rs:List (Nat×Nat)}:∀{vs vs':List TV},TV.oW ν rs vs=some vs'→vs'.length=vs.length
 | [],vs',h=>by grind[TV.oW]
 | v::vs,vs',h=>by
   simp only[TV.oW]at h;split at h
   ·rename_i h1 h2;simp only[ah]at h;subst h;simp[FZ h2]
   trivial
theorem FY{ν:List Pl}{rs:List (Nat×Nat)}{E:En}(hn:(rs.map (·.1)).Nodup){us:List Value}:∀{o:Nat} {vs vs':List TV},TV.oW ν rs vs=some vs'→cu E us o vs→cu (E.jl ν rs) us o vs'
 | o,[],vs',h,_=>by simp only[TV.oW,ah]at h;subst h;trivial
 | o,v::vs,vs',h,⟨⟨u,h1,h2,h3⟩,hr⟩=>by
   simp only[TV.oW]at h;split at h
   ·rename_i v1 vs1 g1 g2;simp only[ah]at h;subst h;exact⟨⟨u,h1,h2,J7 hn g1 h3⟩,FY hn g2 hr⟩
   trivial
def oM(ν:List Pl)(rs:List (Nat×Nat)):List (List TV)→Option (List (List TV))
 | []=>some []
 | e::es=>match TV.oW ν rs e,oM ν rs es with
   | some e,some es=>some (e::es)
   | _,_=>none
def vX(ν:List Pl)(rs:List (Nat×Nat)):List (List Int×TV)→Option (List (List Int×TV))
 | []=>some []
 | (k,v)::es=>match TV.xH ν rs v,vX ν rs es with
   | some v,some es=>some ((k,v)::es)
   | _,_=>none
def PU(ν:List Pl)(rs:List (Nat×Nat)):It→Option It
 | .row e z es false=>match oM ν rs es with|some es=>some (.row e z es false)|none=>none
 | .fO es c pd none=>match vX ν rs es with|some es=>some (.fO es c pd none)|none=>none
 | _=>none
def adW(i:It):Prop:=(∃e z es,i = .row e z es false)∨∃es c pd,i = .fO es c pd none
theorem KZ{ν:List Pl}{rs:List (Nat×Nat)}{i i':It}(h:PU ν rs i=some i'):(∃e z es es',i = .row e z es false∧oM ν rs es=some es'∧i' = .row e z es' false)∨
  ∃es c pd es',i = .fO es c pd none∧vX ν rs es=some es'∧i' = .fO es' c pd none:=by
 unfold PU at h
 grind
theorem PS{ν:List Pl}{rs:List (Nat×Nat)}{E:En}(hn:(rs.map (·.1)).Nodup):∀{es es':List (List Int×TV)} {l:List MapEntry},vX ν rs es=some es'→jW E es l→jW (E.jl ν rs) es' l
 | [],_,_,h,hr=>by simp only[vX,ah]at h;subst h;trivial
 | (k,v)::es,es',l,h,hr=>by
   simp only[vX]at h;split at h
   ·rename_i v1 es1 g1 g2;simp only[ah]at h;subst h;obtain⟨a,l',h1,h2,h3,h4⟩:=hr;exact⟨a,l',h1,h2,J7 hn g1 h3,PS hn g2 h4⟩
   trivial
theorem Dk{ν:List Pl}{rs:List (Nat×Nat)}:∀{es es':List (List TV)},oM ν rs es=some es'→es'.length=es.length
 | [],_,h=>by grind[oM]
 | e::es,_,h=>by
   simp only[oM]at h;split at h
   ·rename_i h1 h2;simp only[ah]at h;subst h;simp[Dk h2]
   trivial
theorem Iu{ν:List Pl}{rs:List (Nat×Nat)}{E:En}(hn:(rs.map (·.1)).Nodup){us:List Value}{k:Nat}:∀{o:Nat} {es es':List (List TV)},oM ν rs es=some es'→fC E us k o es→fC (E.jl ν rs) us k o es'
 | _,[],_,h,_=>by simp only[oM,ah]at h;subst h;trivial
 | _,e::es,_,h,⟨h1,h2,hr⟩=>by
   simp only[oM]at h;split at h
   ·rename_i g1 g2;simp only[ah]at h;subst h;exact⟨by grind[FZ],FY hn g1 h2,Iu hn g2 hr⟩
   trivial
def Du(t:S)(ν:List Pl)(rs:List (Nat×Nat)):List (Nat×Nat)→Option (List (Nat×It))
 | []=>some []
 | (j,k)::l=>match PU ν rs (t (.o k)),Du t ν rs l with
   | some i,some r=>some ((j,i)::r)
   | _,_=>none
theorem Qi{t:S}{ν:List Pl}{rs:List (Nat×Nat)}{j:Nat}:∀{l:List (Nat×Nat)} {ri:List (Nat×It)},Du t ν rs l=some ri→(zn l j=none→uU ri j = .none)∧∀k,zn l j=some k→PU ν rs (t (.o k))=some (uU ri j)
 | [],ri,h=>by simp only[Du,ah]at h;subst h;exact⟨fun _=>rfl,fun k h=>by trivial⟩
 | (a,b)::l,ri,h=>by
   simp only[Du]at h;split at h
   ·rename_i i r h1 h2;simp only[ah]at h;subst h;obtain⟨g1,g2⟩:=Qi (j:=j) h2;simp only[zn,uU]
    grind
   trivial
theorem Kv{t:S}{ν:List Pl}{rs:List (Nat×Nat)}:∀{l:List (Nat×Nat)} {ri:List (Nat×It)},Du t ν rs l=some ri→∀x∈l,adW (t (.o x.2))
 | [],_,_,x,hx=>by trivial
 | (a,b)::l,ri,h,x,hx=>by
   simp only[Du]at h;split at h
   ·rename_i i r h1 h2;rcases aF.1 hx with rfl|hx
    ·rcases KZ h1 with⟨e,z,es,_,h3,_⟩|⟨es,c,pd,_,h3,_⟩
     ·exact .inl ⟨e,z,es,h3⟩
     ·exact .inr ⟨es,c,pd,h3⟩
    ·exact Kv h2 x hx
   trivial
theorem wG{E:En}{ν:List Pl}{rs:List (Nat×Nat)}{p:Pl}{b:Nat}(h:(E.jl ν rs).own p=some b):
  (∃i q,p = .x i∧ν[i]? = some q∧E.blk q=some b∧E.own q=some b)∨(∃j k,p = .o j∧(j,k)∈rs∧zn rs j=some k∧E.own (.o k)=some b):=by
 cases p with
 | s k=>trivial
 | x i=>
   left;unfold En.own at h;split at h
   ·rename_i b2 hb;simp only[ah]at h;subst h;have hb:(ν[i]?).bind E.blk=some b2:=hb;cases hp:ν[i]? with
    | none=>simp_all
    | some p=>simp only[hp,bY]at hb;exact⟨i,p,rfl,hp,hb,by simp[En.own,hb]⟩
   trivial
 | o j=>
   right;simp only[En.own,En.jl]at h;cases hk:zn rs j with
   | none=>simp_all
   | some k=>simp only[hk,bY]at h;exact⟨j,k,rfl,Qk hk,hk,h⟩
theorem OT{i:It}(h:adW i){cs:List TV}:i≠.box cs:=by rcases h with⟨e,z,es,rfl⟩|⟨es,c,pd,rfl⟩<;>simp
theorem ab1{i:It}(h:adW i){e k:Nat}{es:List (List TV)}:i≠.row e k es true:=by rcases h with⟨e,z,es,rfl⟩|⟨es,c,pd,rfl⟩<;>simp
theorem adX{i:It}(h:adW i):i≠.none:=by rcases h with⟨e,z,es,rfl⟩|⟨es,c,pd,rfl⟩<;>simp
theorem lD.jl{t:S}{a:Act}{E:En}(hi:eY A t a E){ν:List Pl}{rs:List (Nat×Nat)}{w_:List It}(MI:ν.Nodup)(hI:xQ t ν rs ν=some w_)(FK:∀p∈ν,rP p=true)
  (hr1:(rs.map (·.1)).Nodup) (hr2:(rs.map (·.2)).Nodup) {ri:List (Nat×It)} (hrs:Du t ν rs rs=some ri):lD (E.jl ν rs) (oP w_ ri):=by
 obtain⟨hl0,hIs⟩:=AX hI;have hrow:∀{j k},(j,k)∈rs→adW (t (.o k)):=fun h=>Kv hrs _ h
 refine⟨fun p hps=>?_,fun k=>rfl,fun p q b' h1 h2=>?_,fun p b' h1=>?_,fun b' o h=>hi.h.o_ b' o h,fun b' o h p hp=>?_,fun y hy=>dU.ext (Jr E ν rs) _ _ _ (hi.h.gl y hy)⟩
 ·cases p with
  | s k=>simp_all
  | o j=>
    simp only[oP];obtain⟨hl1,hl2⟩:=Qi (j:=j) hrs;cases hk:zn rs j with
    | none=>rw[hl1 hk];exact fun id e=>by grind[En.jl]
    | some k=>
      have hit:=hi.h.item (.o k) (by simp);rcases KZ (hl2 k hk)with⟨e,z,es,es',h4,h5,h6⟩|⟨es,c,pd,es',h4,h5,h6⟩
      ·rw[h6];simp only[h4]at hit;obtain⟨g0,id,v,us,g1,g2,g3,g4⟩:=hit;simp only[Pl.o.injEq]at g1;subst g1;refine⟨by grind[En.jl],j,v,us,rfl,by grind[En.jl,Dk],?_,Iu hr1 h5 g4⟩;rw[Dk h5];trivial
      ·rw[h6];simp only[h4]at hit;obtain⟨id,b,l,clock,l',ty,v,g1,g2,g3,g4,g5,g6,g7,g8,g9⟩:=hit;simp only[Pl.o.injEq]at g1;subst g1;exact⟨j,b,l,clock,l',ty,v,rfl,by grind[En.jl],g3,g4,PS hr1 h5 g5,g6,by grind[En.jl],g8,g9⟩
  | x i=>
    cases hp:ν[i]? with
    | none=>
      have:w_.length≤i:=by simp_all
      simp only[oP,List.getD,dX this,lU];exact fun id h=>by trivial
    | some p=>
      obtain⟨cs,cs',h1,h2,h3⟩:=hIs i p hp;have hpm:=bF hp;simp only[oP,List.getD,h3,bZ];have agv:∀k,p≠.s k:=by grind[rP]
      have hit:=hi.h.item p agv;rw[h1]at hit
      obtain⟨_,b',ty,us,g1,g2,g3,g4⟩:=hit;refine⟨fun id h=>by trivial,b',ty,us,?_,g2,by rw[g3,FZ h2],FY hr1 h2 g4⟩
      show(ν[i]?).bind E.blk=some b'
      simp[*]
 ·rcases wG h1 with⟨i,p',rfl,k1,_,k2⟩|⟨j,k,rfl,m1,_,o1⟩<;>rcases wG h2 with⟨i',q',rfl,k3,_,k4⟩|⟨j',k',rfl,m2,_,o2⟩
  ·have:=hi.h.inj p' q' b' k2 k4
   grind[List.getElem_inj]
  ·have:=hi.h.inj p' (.o k') b' k2 o2
   grind[OT]
  ·have:=hi.h.inj q' (.o k) b' k4 o1
   grind[OT]
  ·have:=hi.h.inj (.o k) (.o k') b' o1 o2
   grind[VW]
 ·rcases wG h1 with⟨i,p',rfl,k1,_,k2⟩|⟨j,k,rfl,m1,_,o1⟩
  ·exact hi.h.size p' b' k2
  ·exact hi.h.size _ b' o1
 ·rcases wG hp with⟨i,p',rfl,k1,_,k2⟩|⟨j,k,rfl,m1,_,o1⟩
  ·obtain⟨e,k,es,k3,_⟩:=hi.h.sep b' o h p' k2
   grind
  ·obtain⟨e,z,es,k3,_⟩:=hi.h.sep b' o h _ o1
   grind[ab1]
theorem vM.ext{po:Nat→Prop}{E E':En}{p:Pl}{it:It}(h:vM E p it)(x:Ext po E E')(ho:it.only po)(hb:E'.blk p=E.blk p)(hv:∀id,p = .o id→E'.val id=E.val id)
  (hh:∀b,E.own p=some b→E'.w.heap[b]? = E.w.heap[b]?):vM E' p it:=by
 cases it with
 | none=>exact fun id e=>by rw[hb,hv id e];exact h id e
 | v t=>exact(En.mV hb hv).trans h
 | box cs=>obtain⟨h0,b,ty,us,h1,h2,h3,h4⟩:=h;exact⟨fun id e=>by simp[*],b,ty,us,hb.trans h1,(hh b (by simp[En.own,h1])).trans h2,h3,cu.ext x ho h4⟩
 | row e k es sh=>
   obtain⟨h0,id,v,us,rfl,h1,h2,h3⟩:=h;refine⟨hb.trans h0,id,v,us,rfl,(hv id rfl).trans h1,⟨h2.1,?_⟩,fC.ext x ho h3⟩;rcases h2.2 with hn|⟨g,cap,cur,rfl,hg,hgg,rest⟩
   ·simp[*]
   ·exact .inr ⟨g,cap,cur,rfl,hg,(hh g (by grind[En.own,Value.ownBlock])).trans hgg,rest⟩
 | sJ e k es=>obtain⟨h0,id,v,us,rfl,h1,h2,h3⟩:=h;obtain⟨h4,g,o,cap,cur,rfl,hgg,rest⟩:=h2;exact⟨hb.trans h0,id,_,us,rfl,(hv id rfl).trans h1,⟨h4,g,o,cap,cur,rfl,(hh g (by grind[En.own,Value.ownBlock])).trans hgg,rest⟩,fC.ext x ho h3⟩
 | mp es=>obtain⟨h0,b,l,clock,h1,h2,h3,h4⟩:=h;exact⟨fun id e=>by simp[*],b,l,clock,hb.trans h1,(hh b (by simp[En.own,h1])).trans h2,h3.ext x.r,h4⟩
 | fO es c pd s=>obtain⟨id,b,l,clock,l',ty,v,rfl,h1,h2,h3,h4,h5,h6,h7,h8⟩:=h;exact⟨id,b,l,clock,l',ty,v,rfl,hb.trans h1,(hh b (by grind[En.own])).trans h2,h3,jW.ext x ho h4,h5,(hv id rfl).trans h6,h7,h8⟩
 | BM es s=>obtain⟨h0,h1,h2,h3,l',h4,h5⟩:=h;exact⟨(En.mV hb hv).trans h0,x.st _ _ h1,Ef (x.cell _ _ h1) h2,h3,l',h4,jW.ext x ho h5⟩
 | yt m s left cur=>obtain⟨h0,r,seen,h1,h2,h3⟩:=h;exact⟨fun id e=>by simp[*],r,seen,hb.trans h1,(hh r (by simp[En.own,h1])).trans h2,h3⟩
theorem eY.aiL{t:S}{a:Act}{E:En}(hi:eY A t a E){ν:List Pl}{rs:List (Nat×Nat)}{w_ iH:List It}{ro:List (Nat×It)}{b:Nat}(MI:ν.Nodup)(FK:∀p∈ν,rP p=true)(hI:xQ t ν rs ν=some w_)
  (hr1:(rs.map (·.1)).Nodup) (hr2:(rs.map (·.2)).Nodup) {ri:List (Nat×It)} (hrs:Du t ν rs rs=some ri)
  (hl:iH.length=ν.length) (hbox:∀i∈iH,nD i=true) (OI:∀x∈ro,isObj x.2=true) (hfree:∀x∈ro,t (.o (b+x.1)) = .none)
  (hon:∀p,p∉ν→(∀k,p = .o k→k∉rs.map (·.2))→(t p).only fun id=>id∉rs.map (·.2))
  {r:TV} {u:Value} {E':En} (hp:Post (E.jl ν rs) iH ro r u E') :
  ∃E2:En,E2.w=E'.w∧eY A (over t (wx ν b ν iH++(wo ν b ro++wr rs))) a E2∧aP E2 (r.back ν b) u:=by
 obtain⟨hl0,hIs⟩:=AX hI;have hrow:∀{k},k∈rs.map (·.2)→adW (t (.o k)):=fun h=>by
  obtain⟨x,hx,rfl⟩:=ak.1 h
  grind[Kv]
 have Ib:∀{i:Nat} {p:Pl},ν[i]? = some p→∃cs,t p = .box cs:=fun h=>by grind
 have adK:∀{p:Pl},p∈ν→∀k,p≠.s k:=fun hp k e=>by grind[rP]
 have Z8:∀{k},k∈rs.map (·.2)→Pl.o k∉ν:=fun h hp=>by grind[List.getElem?_of_mem,OT]
 let nw:Nat→Option Nat:=fun k=>if b≤k∧(k-b)∈ro.map (·.1)then some (k-b)else none
 have hnw:∀{k j},nw k=some j↔k=b+j∧j∈ro.map (·.1):=fun {k j}=>by grind
 have wI:∀{k j},nw k=some j→t (.o k) = .none:=fun h=>by grind
 have ET:∀{k j},nw k=some j→E.blk (.o k)=none∧E.val k=none:=fun {k j} h=>by
  have:=hi.h.item (.o k) (by simp);rw[wI h]at this
  exact this k rfl
 have hnr:∀{k j},nw k=some j→k∉rs.map (·.2):=fun h g=>by grind[adX]
 let E2:En:={w:=E'.w,St:=E'.St,blk:=fun p=>match p with|.o k=>(match nw k with|some j=>E'.blk (.o j)|none=>if k∈rs.map (·.2)then none else E.blk (.o k))|p=>E.blk p,
             val:=fun k=>match nw k with|some j=>E'.val j|none=>if k∈rs.map (·.2)then none else E.val k}
 have l9:∀{p:Pl},(∀k j,p = .o k→nw k≠some j)→(∀k,p = .o k→k∉rs.map (·.2))→E2.blk p=E.blk p:=fun {p} h g=>by grind
 have qC:∀{k:Nat},(∀j,nw k≠some j)→k∉rs.map (·.2)→E2.val k=E.val k:=fun {k} h g=>by grind
 have qA:∀{k j:Nat},nw k=some j→E2.blk (.o k)=E'.blk (.o j)∧E2.val k=E'.val j:=fun {k j} h=>by grind
 have jG:∀{p:Pl},(∀k j,p = .o k→nw k≠some j)→(∀k,p = .o k→k∉rs.map (·.2))→E2.own p=E.own p:=fun {p} h g=>En.mV (l9 h g) (fun id e=>qC (fun j=>h id j e) (g id e))
 have jF:∀{k j:Nat},nw k=some j→E2.own (.o k)=E'.own (.o j):=fun {k j} h=>by
  obtain⟨h1,h2⟩:=qA h
  grind[En.own]
 have qB:∀{k},k∈rs.map (·.2)→E2.own (.o k)=none:=fun {k} h=>by
  have hn:nw k=none:=by grind
  simp only[En.own,E2,hn,if_pos h,Option.bind_none]
 have hcx:∀i,(E.jl ν rs).blk (.x i)=(ν[i]?).bind E.blk:=fun i=>rfl
 have hown2:∀{j b'},(E.jl ν rs).own (.o j)=some b'→∃k,k∈rs.map (·.2)∧E.own (.o k)=some b':=fun {j b'} h=>by
  rcases wG h with⟨i,q,e,_⟩|⟨j',k,e,m,_,o⟩
  ·trivial
  grind
 have sU:∀{i b'},(E.jl ν rs).blk (.x i)=some b'→∃p,ν[i]? = some p∧E.blk p=some b'∧E.own p=some b':=fun {i b'} h=>by
  rw[hcx]at h
  cases hp:ν[i]? with
  | none=>grind
  | some p=>simp only[hp,bY]at h;exact⟨p,rfl,h,by simp[En.own,h]⟩
 have OO:∀{b' o},E.St b' o→E'.w.heap[b']? = E.w.heap[b']? :=fun {b' o} h=>hp.fr.old b' (hi.h.o_ _ _ h) (fun i hx=>by
  obtain⟨p,h1,h2,h3⟩:=sU hx;obtain⟨cs,h4⟩:=Ib h1;obtain⟨e,k,es,h5,_⟩:=hi.h.sep _ _ h p h3;rw[h4]at h5;simp at h5) (fun j hj=>by
  obtain⟨k,h1,h2⟩:=hown2 hj;obtain⟨e,z,es,h5,_⟩:=hi.h.sep _ _ h _ h2;exact ab1 (hrow h1) h5)
 have x:Ext (fun id=>id∉rs.map (·.2)) E E2:=by
  refine⟨fun b' o h=>hp.fr.st b' o h,fun b' o h=>h_ (OO h),fun id b' hid h=>?_,fun i b' h=>h,fun i b' h=>h,fun id k c v hid h=>?_⟩
  ·rw[l9]
   ·exact h
   ·rintro k j e hn;simp only[Pl.o.injEq]at e;subst e;rw[(ET hn).1]at h;simp at h
   ·intro k e;simp only[Pl.o.injEq]at e;subst e;exact hid
  ·refine⟨c,v,?_,au _,fun _=>rfl⟩;rw[qC _ hid]
   ·exact h
   ·intro j hn;rw[(ET hn).2]at h;simp at h
 have hmem:∀{j:Nat},(E'.blk (.o j)≠none∨E'.val j≠none)→j∈ro.map (·.1):=fun {j} h=>by
  by_cases hj:j∈ro.map (·.1)
  ·omega
  ·have:=hp.h.item (.o j) (by simp);simp only[oP,Ec hj]at this;obtain⟨h1,h2⟩:=this j rfl;rcases h with h|h
   ·exact absurd h1 h
   ·exact absurd h2 h
 have hback:∀{v:TV} {u:Value},aP E' v u→aP E2 (v.back ν b) u:=fun {v u} h=>by
  refine GK (E':=E') (E2:=E2) ⟨fun _ _ h=>h,fun _ _ _=>rfl⟩ (fun i b' hb=>?_) (fun id b' hb=>?_) (fun id y hy=>?_) hp.h.frees h
  ·rw[hp.fr.xb]at hb
   obtain⟨p,h1,h2,h3⟩:=sU hb;have hg:ν.getD i (.s 0)=p:=by simp[*]
   rw[hg,l9]
   ·omega
   ·rintro k j rfl hn;rw[(ET hn).1]at h2;trivial
   ·rintro k rfl hk;exact Z8 hk (bF h1)
  ·have hj:=hmem (j:=id) (.inl (by simp[*]));rw[(qA (hnw.2 ⟨rfl,hj⟩)).1];omega
  ·have hj:=hmem (j:=id) (.inr (by simp[*]));rw[(qA (hnw.2 ⟨rfl,hj⟩)).2];omega
 have Z4:∀{p:Pl},(∀k j,p = .o k→nw k≠some j)→∀j∈ro.map (·.1),p≠.o (b+j):=fun h j hj e=>h _ j e (hnw.2 ⟨rfl,hj⟩)
 have x9:∀{p:Pl},p∈ν→∀k j,p = .o k→nw k≠some j:=fun {p} mP k j e hn=>by subst e;obtain⟨i,hi'⟩:=bU mP;obtain⟨cs,h⟩:=Ib hi';rw[wI hn]at h;simp at h
 have xC:∀p,over t (wx ν b ν iH++(wo ν b ro++wr rs)) p=if p∈ν then over t (wx ν b ν iH) p else over (over t (wr rs)) (wo ν b ro) p:=fun p=>by
  rw[rZ,rZ];split
  ·rename_i h;obtain⟨i,h1⟩:=bU h;have hil:i<iH.length:=by rw[hl];exact(aB.1 h1).1
   rw[zx MI hl h1 (aj hil),zx MI hl h1 (aj hil)]
  ·rename_i h;rw[Jd h]
 have hold:∀{p:Pl},p∉ν→(∀k j,p = .o k→nw k≠some j)→(∀k,p = .o k→k∉rs.map (·.2))→over t (wx ν b ν iH++(wo ν b ro++wr rs)) p=t p:=fun h1 h2 h3=>by rw[xC,if_neg h1,Ah (Z4 h2),QB (fun k hk e=>h3 k e hk)]
 have agq:∀{k},k∈rs.map (·.2)→over t (wx ν b ν iH++(wo ν b ro++wr rs)) (.o k) = .v .junk:=fun {k} h=>by rw[xC,if_neg (Z8 h),Ah (Z4 (p:=.o k) (fun k' j e hn=>by simp only[Pl.o.injEq]at e;subst e;exact hnr hn h)),abh h]
 have hH:lD E2 (over t (wx ν b ν iH++(wo ν b ro++wr rs))):=by
  refine⟨fun p hps=>?_,fun k=>hi.h.frees k,fun p q b' h1 h2=>?_,fun p b' h1=>?_,fun b' o h1=>hp.h.o_ b' o h1,fun b' o h1 p h2=>?_,fun y hy=>dU.ext x.r _ _ _ (hi.h.gl y hy)⟩
  ·by_cases mP:p∈ν
   ·obtain⟨i,h1⟩:=bU mP;have hil:i<iH.length:=by rw[hl];exact(aB.1 h1).1
    rw[xC,if_pos mP,zx MI hl h1 (aj hil)];have hb:=hbox iH[i] (aJ hil);have hit:=hp.h.item (.x i) (by simp);have hr:oP iH ro (.x i)=iH[i]:=by simp[oP,List.getD,hil]
    rw[hr]at hit
    cases hc:iH[i]with
    | box cs=>
      rw[hc]at hit
      obtain⟨_,b',ty,us,h2,h3,h4,h5⟩:=hit;rw[hp.fr.xb]at h2
      obtain⟨p',g1,g2,g3⟩:=sU h2;rw[h1]at g1;simp only[ah]at g1;subst g1
      refine⟨fun id e=>?_,b',ty,us,?_,h3,by rw[h4,o9],uw hback h5⟩
      ·subst e;rw[qC (fun j=>x9 mP id j rfl) (fun h=>Z8 h mP)];obtain⟨cs0,g4⟩:=Ib h1;have:=hi.h.item (.o id) (by simp);rw[g4]at this
       exact this.1 id rfl
      ·rw[l9 (x9 mP) (fun k e hk=>by subst e;exact Z8 hk mP)];exact g2
    | none=>rw[hc]at hb;simp[nD]at hb
    | v _=>rw[hc]at hb;simp[nD]at hb
    | row _ _ _ _=>rw[hc]at hb;simp[nD]at hb
    | sJ _ _ _=>rw[hc]at hb;simp[nD]at hb
    | mp _=>rw[hc]at hb;simp[nD]at hb
    | fO _ _ _ _=>rw[hc]at hb;simp[nD]at hb
    | yt _ _ _ _=>rw[hc]at hb;simp[nD]at hb
    | BM _ _=>rw[hc]at hb;simp[nD]at hb
   ·by_cases hn:∃k j,p = .o k∧nw k=some j
    ·obtain⟨k,j,rfl,hn⟩:=hn;obtain⟨rfl,hj⟩:=hnw.1 hn;rw[xC,if_neg mP,Gm hj];have ho:=JR OI hj;have hit:=hp.h.item (.o j) (by simp);simp only[oP]at hit;obtain⟨hb1,hv1⟩:=qA hn;cases hc:uU ro j with
     | box cs=>
       rw[hc]at hit
       obtain⟨h0,b',ty,us,h2,h3,h4,h5⟩:=hit;exact⟨fun id e=>by simp only[Pl.o.injEq]at e;subst e;rw[hv1];exact h0 j rfl,b',ty,us,hb1.trans h2,h3,by rw[h4,o9],uw hback h5⟩
     | row e k' es sh=>
       rw[hc]at hit
       obtain⟨h0,id,v,us,e1,h2,h3,h4⟩:=hit;simp only[Pl.o.injEq]at e1;subst e1;exact⟨hb1.trans h0,b+j,v,us,rfl,by rw[hv1,aV];exact h2,by rw[aV];exact h3,LZ hback h4⟩
     | mp es=>
       rw[hc]at hit
       obtain⟨h0,b',l,clock,h2,h3,h4,h5⟩:=hit;exact⟨fun id e=>by simp only[Pl.o.injEq]at e;subst e;rw[hv1];exact h0 j rfl,b',l,clock,hb1.trans h2,h3,rW.ext (E:=E') (E':=E2) ⟨fun _ _ h=>h,fun _ _ _=>rfl⟩ h4,h5⟩
     | fO es c pd s=>
       rw[hc]at hit
       obtain⟨id,b',l,clock,l',ty,v,e1,h2,h3,h4,h5,h6,h7,h8,h9⟩:=hit;simp only[Pl.o.injEq]at e1;subst e1;exact⟨b+j,b',l,clock,l',ty,v,rfl,hb1.trans h2,h3,h4,abt hback h5,h6,by rw[hv1];exact h7,h8,h9⟩
     | yt _ _ _ _=>rw[hc]at ho;simp[isObj]at ho
     | BM _ _=>rw[hc]at ho;simp[isObj]at ho
     | sJ _ _ _=>rw[hc]at ho;simp[isObj]at ho
     | none=>rw[hc]at ho;simp[isObj]at ho
     | v _=>rw[hc]at ho;simp[isObj]at ho
    ·have hn':∀k j,p = .o k→nw k≠some j:=fun k j e h=>hn ⟨k,j,e,h⟩
     by_cases hg:∃k,p = .o k∧k∈rs.map (·.2)
     ·obtain⟨k,rfl,hk⟩:=hg;rw[agq hk];exact qB hk
     ·have hg':∀k,p = .o k→k∉rs.map (·.2):=fun k e h=>hg ⟨k,e,h⟩
      rw[hold mP hn' hg'];refine(hi.h.item p hps).ext x (hon p mP hg') (l9 hn' hg') (fun id e=>qC (fun j=>hn' id j e) (hg' id e)) (fun b' hb'=>?_);refine hp.fr.old b' (hi.h.size p b' hb') (fun i hx=>?_) (fun j hj=>?_)
      ·obtain⟨q,g1,g2,g3⟩:=sU hx;have:=hi.h.inj p q b' hb' g3;subst this;exact mP (bF g1)
      ·obtain⟨k,g1,g2⟩:=hown2 hj;exact hg' k (hi.h.inj p _ b' hb' g2) g1
  ·have hgo:∀{p b'},E2.own p=some b'→∀k,p = .o k→k∉rs.map (·.2):=fun {p b'} h k e g=>by
    subst e;rw[qB g]at h;simp at h
   have OH:∀{j q},E'.own (.o j)=some b'→E.own q=some b'→(∀k,q = .o k→k∉rs.map (·.2))→False:=fun {j q} h1 h2 h3=>by
    have g2:=hi.h.size q b' h2;rcases hp.fr.new j b' h1 with g1|⟨i,g1⟩
    ·simp only[En.jl]at g1;omega
    ·obtain⟨k,g3,g4⟩:=hown2 g1;exact h3 k (hi.h.inj q _ b' h2 g4) g3
   by_cases n1:∃k j,p = .o k∧nw k=some j<;>by_cases n2:∃k j,q = .o k∧nw k=some j
   ·obtain⟨k,j,rfl,hn⟩:=n1;obtain⟨k',j',rfl,hn'⟩:=n2;rw[jF hn]at h1;rw[jF hn']at h2
    have:=hp.h.inj _ _ b' h1 h2;simp only[Pl.o.injEq]at this;subst this;rw[(hnw.1 hn).1,(hnw.1 hn').1]
   ·obtain⟨k,j,rfl,hn⟩:=n1;have hq:=hgo h2;rw[jF hn]at h1
    rw[jG (fun k j e h=>n2 ⟨k,j,e,h⟩) hq]at h2
    exact(OH h1 h2 hq).elim
   ·obtain⟨k,j,rfl,hn⟩:=n2;have hq:=hgo h1;rw[jF hn]at h2
    rw[jG (fun k j e h=>n1 ⟨k,j,e,h⟩) hq]at h1
    exact(OH h2 h1 hq).elim
   ·have hq1:=hgo h1;have hq2:=hgo h2;rw[jG (fun k j e h=>n1 ⟨k,j,e,h⟩) hq1]at h1
    rw[jG (fun k j e h=>n2 ⟨k,j,e,h⟩) hq2]at h2
    exact hi.h.inj p q b' h1 h2
  ·by_cases n1:∃k j,p = .o k∧nw k=some j
   ·obtain⟨k,j,rfl,hn⟩:=n1;rw[jF hn]at h1
    exact hp.h.size _ b' h1
   ·by_cases hg:∃k,p = .o k∧k∈rs.map (·.2)
    ·obtain⟨k,rfl,hk⟩:=hg;rw[qB hk]at h1;simp at h1
    ·rw[jG (fun k j e h=>n1 ⟨k,j,e,h⟩) (fun k e h=>hg ⟨k,e,h⟩)]at h1
     exact dA (hi.h.size p b' h1) hp.fr.size
  ·by_cases n1:∃k j,p = .o k∧nw k=some j
   ·obtain⟨k,j,rfl,hn⟩:=n1;rw[jF hn]at h2
    obtain⟨e,k',es,g1,g2⟩:=hp.h.sep b' o h1 _ h2;obtain⟨rfl,hj⟩:=hnw.1 hn;have mP:Pl.o (b+j)∉ν:=fun h=>x9 h _ j rfl hn
    refine⟨e,k',es.map (TV.backs ν b),?_,by simpa using g2⟩;rw[xC,if_neg mP,Gm hj];simp only[oP]at g1;rw[g1];rfl
   ·have n1':∀k j,p = .o k→nw k≠some j:=fun k j e h=>n1 ⟨k,j,e,h⟩
    by_cases hg:∃k,p = .o k∧k∈rs.map (·.2)
    ·obtain⟨k,rfl,hk⟩:=hg;rw[qB hk]at h2;simp at h2
    ·have hg':∀k,p = .o k→k∉rs.map (·.2):=fun k e h=>hg ⟨k,e,h⟩
     rw[jG n1' hg']at h2
     have hsz:=hi.h.size p b' h2;rcases hp.fr.xE b' o h1 with g1|g1|⟨i,g1⟩
     ·obtain⟨e,k,es,g2,g3⟩:=hi.h.sep b' o g1 p h2;refine⟨e,k,es,?_,g3⟩;rw[hold _ n1' hg',g2];intro mP;obtain⟨i,hi'⟩:=bU mP;obtain⟨cs,h⟩:=Ib hi';rw[h]at g2;simp at g2
     ·simp only[En.jl]at g1;omega
     ·obtain⟨k,g3,g4⟩:=hown2 g1;exact absurd g3 (hg' k (hi.h.inj p _ b' h2 g4))
 have hsl:∀k,over t (wx ν b ν iH++(wo ν b ro++wr rs)) (.s k)=t (.s k):=fun k=>hold (fun h=>adK h k rfl) (fun _ _ e=>by simp at e) (fun _ e=>by simp at e)
 have hE0:∀{j b'},(E.jl ν rs).own (.o j)=some b'→A.E0.w.heap.size≤b'∨∃i,A.E0.own (.o i)=some b':=fun {j b'} h=>by obtain⟨k,_,g⟩:=hown2 h;exact hi.fr.new k b' g
 refine⟨E2,rfl,⟨hH,(hi.fr.akS hp.fr.os hp.fr.tape hp.fr.output hp.fr.size (fun b' h1 h2 h3=>?_) (fun i=>rfl) (fun id b' h=>?_) (fun b' o h=>hp.fr.st b' o h) (fun b' o h=>?_)),fun k tv hk=>?_,hi.defers,hi.size⟩,hback hp.rel⟩
 ·refine hp.fr.old b' (dA h1 hi.fr.size) (fun i hx=>?_) (fun j hj=>?_)
  ·obtain⟨q,g1,g2,g3⟩:=sU hx;cases q with
   | s k=>rw[hi.h.frees k]at g2;simp at g2
   | x j=>exact h2 j ((hi.fr.xb j).symm.trans g2)
   | o k=>exact(hi.fr.new k b' g3).elim (fun h=>by omega) (fun⟨j,h⟩=>h3 j h)
  ·exact(hE0 hj).elim (fun h=>by omega) (fun⟨j,h⟩=>h3 j h)
 ·cases hn:nw id with
  | some j=>
    rw[jF hn]at h
    rcases hp.fr.new j b' h with g|⟨i,g⟩
    ·exact .inr g
    ·obtain⟨k,_,g2⟩:=hown2 g;exact .inl ⟨k,g2⟩
  | none=>
    by_cases hk:id∈rs.map (·.2)
    ·rw[qB hk]at h;simp at h
    ·rw[jG (fun k j e h=>by simp only[Pl.o.injEq]at e;subst e;rw[hn]at h;simp at h) (fun k e=>by simp only[Pl.o.injEq]at e;subst e;exact hk)]at h
     exact .inl ⟨id,h⟩
 ·rcases hp.fr.xE b' o h with g|g|⟨i,g⟩
  ·exact .inl g
  ·exact .inr (.inl (dw hi.fr.size g))
  ·exact .inr (hE0 g)
 ·rw[hsl]at hk
  obtain⟨u',h1,h2⟩:=hi.sl k tv hk;refine⟨u',h1,aP.ext x tv u' ?_ h2⟩;have:=hon (.s k) (fun h=>adK h k rfl) (fun _ e=>by simp at e)
  rwa [hk]at this
variable {ops:Array Oper}
def RI(ν:List Pl)(gone:List Nat):List (Pl×It)→Prop
 | []=>True
 | (p,i)::l=>(p∈ν∨(∃k,k∈gone∧p = .o k)∨i.only fun id=>id∉gone)∧RI ν gone l
theorem RI.spec{ν:List Pl}{gone:List Nat}:∀{l:List (Pl×It)},RI ν gone l→∀p,p∉ν→(∀k,p = .o k→k∉gone)→(look l p).only fun id=>id∉gone
 | [],_,p,_,_=>by simp
 | (q,i)::l,h,p,h1,h2=>by
   simp only[look];split
   ·rename_i e;subst e;rcases h.1 with h3|⟨k,h3,e⟩|h3
    ·exact absurd h3 h1
    ·exact absurd h3 (h2 k e)
    ·exact h3
   ·exact RI.spec h.2 p h1 h2
theorem QK.call3{t:S}{i:Nat}{o:Oper}{gp:List Pl}{fo:Operand}{xs:List Operand}{tys:Array TypeId}{f:FuncId}{caps nC:List TV}{w_ iH:List It}{ri:List (Nat×It)}{r:TV}{ro:List (Nat×It)}
  (ho:ops[i]? = some o) (hg:gv ops t o=some (gp,true)) (hd:mZ A.N o=true) (hop:o.op = .call {callee:=.value fo,args:=xs.toArray,argTypes:=tys}) (hf:ev t fo = .clo f caps) (hfn:dB P f=true)
  (C:nH P f nC w_ ri r iH ro) (ν:List Pl) (rs:List (Nat×Nat)) (b:Nat) (MI:ν.Nodup) (FK:∀p∈ν,rP p=true) (hp:TV.oW ν rs (xs.map (ev t)++caps)=some nC) (hI:xQ t ν rs ν=some w_)
  (hr1:(rs.map (·.1)).Nodup) (hr2:(rs.map (·.2)).Nodup) (JL:Du t ν rs rs=some ri)
  (hl:iH.length=ν.length) (hbox:∀i∈iH,nD i=true) (OI:∀x∈ro,isObj x.2=true) (hfree:∀x∈ro,t (.o (b+x.1)) = .none)
  (hon:∀p,p∉ν→(∀k,p = .o k→k∉rs.map (·.2))→(t p).only fun id=>id∉rs.map (·.2)) :
  QK P A ops i t fun _:Unit=>rM o (r.back ν b) (wx ν b ν iH++(wo ν b ro++wr rs)):=fun a w ⟨E,hw,hi⟩ K Q hK=>by
 subst hw;have hwant:=kU hg (fun _ _=>rfl) hi;have hfr:=bP hi fo;rw[hf]at hfr
 simp only[aP]at hfr;obtain⟨rU,zf,uQ⟩:=hfr;have hxr:=AA hi xs;have happ:∀{ts ts':List TV} {us us':List Value},bD E ts us→bD E ts' us'→bD E (ts++ts') (us++us'):=by
  intro ts
  induction ts with
  | nil=>intro ts' us us' h g;simp only[bD]at h;subst h;simpa using g
  | cons v ts ih=>intro ts' us us' h g;simp only[bD]at h;obtain⟨u,us0,rfl,h1,h2⟩:=h;simp only[bg,bD];exact⟨u,us0++us',rfl,h1,ih h2 g⟩
 have hargs:=happ hxr uQ;have FD:bD (E.jl ν rs) nC (xs.map a.eval++rU.toList):=AU hr1 hp hargs;have hH0:lD (E.jl ν rs) (oP w_ ri):=lD.jl hi MI hI FK hr1 hr2 JL;have hcall:=C (E.jl ν rs) _ hH0 FD;have hwc:(E.jl ν rs).w=E.w:=rfl;rw[hwc]at hcall
 unfold wpOp;simp only[ho,hwant,if_true];refine .inl ?_;unfold Oper.wp;have hrun:(execOp a.eval o).run P E.w = .ok (.enter f (xs.map a.eval++rU.toList).toArray) E.w:=by
  have harr:(List.map a.eval xs++rU.toList).toArray=(List.map a.eval xs).toArray++rU:=by simp
  simp only[execOp,hop,resolve,zf,Deferred.ofValue,invoke,Sem.run_bind,Sem.run_pure,Result.andThen_ok,fA,fD,iU hfn,harr]
 rw[hrun];simp only[Oper.upon];refine hcall.mono fun e w' ⟨u,E',he,hw',hpost⟩=>?_
 subst he;obtain⟨E2,hw2,hi2,hr2'⟩:=hi.aiL MI FK hI hr1 hr2 JL hl hbox OI hfree hon hpost;refine hK () _ _ ⟨E2,hw2.trans hw',eY.dst ?_ hd hr2'⟩;exact hi2
def Zr(P:Program)(N:Nat)(l:List (Pl×It))(o:Oper)(f:FuncId)(nC:List TV)(w_:List It)(ri:List (Nat×It))(r:TV)(iH:List It)(ro:List (Nat×It))(ν:List Pl)(rs:List (Nat×Nat))(b:Nat)(gp:List Pl)(g:Bool):Option (Prop×List Pl×List (Pl×It)):=
 match o.op with
 | .call {callee:=.value fo,args:=xs,argTypes:=_}=>
   match ev (look l) fo with
   | .clo f' caps=>
     match xQ (look l) ν rs ν,TV.oW ν rs (xs.toList.map (ev (look l))++caps),Du (look l) ν rs rs with
     | some c0,some a0,some r0=>
       some (g=true∧mZ N o=true∧f'=f∧dB P f=true∧ν.Nodup∧(∀p∈ν,rP p=true)∧a0=nC∧c0=w_∧(rs.map (·.1)).Nodup∧(rs.map (·.2)).Nodup∧r0=ri∧
        iH.length=ν.length∧(∀x∈iH,nD x=true)∧(∀x∈ro,isObj x.2=true)∧(∀x∈ro,look l (.o (b+x.1)) = .none)∧RI ν (rs.map (·.2)) l,
        gp++(pl fo++(xs.toList.flatMap pl++(ν++((rs.map fun x=>.o x.2)++ro.map fun x=>.o (b+x.1))))),
        rM o (r.back ν b) (wx ν b ν iH++(wo ν b ro++wr rs)))
     | _,_,_=>none
   | _=>none
 | _=>none
def Zp(P:Program)(N:Nat)(l:List (Pl×It))(ops:Array Oper)(f:FuncId)(nC:List TV)(w_:List It)(ri:List (Nat×It))(r:TV)(iH:List It)(ro:List (Nat×It))(ν:List Pl)(rs:List (Nat×Nat))(b:Nat):Option Oper→Option (Prop×List Pl×List (Pl×It))
 | some o=>match gv ops (look l) o with
   | some (gp,g)=>Zr P N l o f nC w_ ri r iH ro ν rs b gp g
   | none=>none
 | none=>none
theorem oG.Y3{i:Nat}{l:List (Pl×It)}{k:List Pl→List (Pl×It)→Prop}{g:Tg k}{f:FuncId}{nC:List TV}{w_ iH:List It}{ri:List (Nat×It)}{r:TV}{ro:List (Nat×It)}(C:nH P f nC w_ ri r iH ro)(ν:List Pl)(rs:List (Nat×Nat))(b:Nat)
  (h:QC k g (Zp P A.N l ops f nC w_ ri r iH ro ν rs b ops[i]?)):oG P A ops i (look l) k g:=by
 unfold QC at h;split at h
 ·rename_i D rp W hc;obtain⟨h1,h2⟩:=h;refine⟨Unit,fun _=>rp,fun _=>W,?_,fun _=>h2⟩;unfold Zp at hc;split at hc
  ·rename_i o ho;split at hc
   ·rename_i gp g0 hg;unfold Zr at hc;split at hc
    ·rename_i fo xs tys hop;split at hc
     ·rename_i f' caps hf;split at hc
      ·rename_i c0 a0 r0 hI hp JL;simp only[ah,aO]at hc;obtain⟨rfl,rfl,rfl⟩:=hc;obtain⟨rfl,q1,rfl,q2,q3,q4,rfl,rfl,q5,q6,rfl,q8,q9,q10,q11,q12⟩:=h1;exact QK.call3 (xs:=xs.toList) ho hg q1 (by omega) hf q2 C ν rs b q3 q4 hp hI q5 q6 JL q8 q9 q10 q11 q12.spec
      trivial
     trivial
    trivial
   trivial
  trivial
 trivial
theorem PI(ν:List Pl)(rs:List (Nat×Nat)):∀l:List D,TV.oW ν rs (l.map .d)=some (l.map .d)
 | []=>rfl
 | x::l=>by simp[TV.oW,TV.xH,PI ν rs l]
theorem PK(ν:List Pl)(rs:List (Nat×Nat)):∀l:List (List D),oM ν rs (dd l)=some (dd l)
 | []=>rfl
 | x::l=>by
   have:=PK ν rs l
   grind[dd,oM,PI]
theorem KX(ν:List Pl)(rs:List (Nat×Nat)):∀a b:List (List TV),oM ν rs (a++b)=match oM ν rs a,oM ν rs b with
  | some x,some y=>some (x++y)
  | _,_=>none
 | [],b=>by cases h:oM ν rs b<;>simp[oM,h]
 | e::a,b=>by
   simp only[bg,oM,KX ν rs a b]
   grind
theorem aaH(ν:List Pl)(rs:List (Nat×Nat))(cs:List TV):aaG ν rs (.box cs)=match TV.oW ν rs cs with|some cs=>some (.box cs)|none=>none:=rfl
theorem aaI(ν:List Pl)(rs:List (Nat×Nat)):vX ν rs []=some []:=rfl
theorem AY{α:Type}(ν:List Pl)(rs:List (Nat×Nat))(f:α→List Int)(g:α→D):∀l:List α,vX ν rs (l.map fun x=>(f x,TV.d (g x)))=some (l.map fun x=>(f x,TV.d (g x)))
 | []=>rfl
 | x::l=>by simp[vX,TV.xH,AY ν rs f g l]
theorem adU(es:List (List Int×TV))(c:Nat)(pd:Option (List Int))(s:Option jB):isObj (.fO es c pd s)=true:=rfl
theorem adb(ν:List Pl)(b:Nat)(es:List (List Int×TV))(c:Nat)(pd:Option (List Int))(s:Option jB):GI ν b (.fO es c pd s) = .fO (es.map fun x=>(x.1,x.2.back ν b)) c pd s:=rfl
theorem ahM(a b:Nat)(es:List (List Int×TV))(c:Nat)(pd:Option (List Int))(s:Option jB):xw a b (.fO es c pd s) = .fO (es.map fun x=>(x.1,x.2.ren a b)) c pd s:=rfl
attribute [simp] adU adb ahM Zp Zr TV.xH TV.oW xQ aaH PU oM PK KX Du RI aaI AY
end
end Go.Tr

namespace Go.Tr
open Go
def uj(zs:List (List Int)):List (List D):=zs.map fun z=>z.map (.int .i64)
@[simp]theorem aou(zs:List (List Int)):(uj zs).length=zs.length:=by simp[uj]
@[simp]theorem GZ(zs:List (List Int)):(dd (uj zs)).length=zs.length:=by simp
def flat(zs:List (List Int)):List Value:=zs.flatMap fun z=>z.map (.int .i64)
theorem zM(z:List Int)(zs:List (List Int)):flat (z::zs)=z.map (.int .i64)++flat zs:=rfl
theorem CG{k:Nat}:∀{zs:List (List Int)},(∀z∈zs,z.length=k)→(flat zs).length=zs.length*k
 | [],_=>by simp[flat]
 | z::zs,h=>by
   have h2:=CG (zs:=zs) fun y hy=>h y (by simp[*])
   grind[zM]
theorem EM{E:En}{us:List Value}:∀{z:List Int} {o:Nat},(∀j n,z[j]? = some n→us[o+j]? = some (.int .i64 n))→cu E us o ((z.map (D.int .i64)).map .d)
 | [],_,_=>trivial
 | n::z,o,h=>⟨⟨.int .i64 n,by simpa using h 0 n rfl,rfl,by rfl⟩,EM fun j m hj=>by
   have:=h (j+1) m hj
   grind⟩
theorem Dq{E:En}{k:Nat}{us:List Value}:∀{zs:List (List Int)} {o:Nat},(∀z∈zs,z.length=k)→(∀i v,(flat zs)[i]? = some v→us[o+i]? = some v)→fC E us k o (dd (uj zs))
 | [],_,_,_=>trivial
 | z::zs,o,hl,h=>by
   refine⟨by simp[*],EM fun j n hj=>?_,Dq (fun y hy=>hl y (by simp[*])) fun i v hv=>?_⟩
   ·grind[zM]
   ·have:=h (k+i) v (by grind[zM])
    grind
theorem EW{E:En}{us:List Value}:∀{z:List Int} {o:Nat},cu E us o ((z.map (D.int .i64)).map .d)→∀j n,z[j]? = some n→us[o+j]? = some (.int .i64 n)
 | n::z,o,⟨⟨u,h1,_,h3⟩,h4⟩,j,m,hj=>by
   cases j with
   | zero=>grind[aP,Rep]
   | succ j=>
     have:=EW h4 j m (by trivial)
     grind
theorem KI{E:En}{k:Nat}{us:List Value}:∀{zs:List (List Int)} {o:Nat},fC E us k o (dd (uj zs))→(∀z∈zs,z.length=k)∧∀i v,(flat zs)[i]? = some v→us[o+i]? = some v
 | [],_,_=>⟨by simp,by simp[flat]⟩
 | z::zs,o,h=>by
   obtain⟨h1,h2,h3⟩:((z.map (D.int .i64)).map TV.d).length=k∧cu E us o ((z.map (D.int .i64)).map .d)∧fC E us k (o+k) (dd (uj zs)):=h;obtain⟨h4,h5⟩:=KI h3
   grind[zM,EW]
structure Bl(P:Program)(f g:FuncId)(k:Nat)(pre:List (List Int)→Prop)(F:List (List Int)→List (List Int)):Prop where
 len:∀zs,(F zs).length=zs.length
 row:∀zs,(∀z∈zs,z.length=k)→∀z∈F zs,z.length=k
 run:∀(w:World) (b cap:Nat) (zs:List (List Int)) (cur:Array Value) (e:TypeId),w.heap[b]? = some (.cells cur e (0,0))→zs.length≤cap→cap≤maxLen→cur.size=cap*k→cur.toList.take (zs.length*k)=flat zs→(∀z∈zs,z.length=k)→pre zs→0<zs.length→zs.length<4611686018427387904→
  Calls P f #[.slice (some ⟨b,0,none⟩) zs.length cap,.func (.func g) #[] #[]] w fun e' w'=>e' = .returned (.tuple #[])∧w.grownBy w' (some b)∧
   ∃cur',w'.heap[b]? = some (.cells cur' e (0,0))∧cur'.size=cap*k∧cur'.toList.take (zs.length*k)=flat (F zs)
 none:∀p cap w,Calls P f #[.slice p 0 cap,.func (.func g) #[] #[]] w fun e' w'=>e' = .returned (.tuple #[])∧w'=w
section
variable {P:Program} {A:f_} {ops:Array Oper}
theorem Sum.YL{t:S}{i:Nat}{o:Oper}{gp:List Pl}{fo x y:Operand}{tys:Array TypeId}{f g:FuncId}{pre:List (List Int)→Prop}{F:List (List Int)→List (List Int)}{id n k:Nat}{e:TypeId}{zs:List (List Int)}
  (ho:ops[i]? = some o) (hg:gv ops t o=some (gp,true)) (hd:mZ A.N o=true) (hop:o.op = .call {callee:=.value fo,args:=#[x,y],argTypes:=tys}) (hf:ev t fo = .clo f []) (hfn:dB P f=true)
  (C:Bl P f g k pre F) (hpre:pre zs) (hx:ev t x = .aW id n) (hy:ev t y = .clo g []) (ht:t (.o id) = .row e k (dd (uj zs)) false) (hn:n=zs.length) (hsz:zs.length<4611686018427387904) :
  Sum P A ops i t (gp++(pl fo++(pl x++(pl y++[.o id])))) (rM o (.qh []) [(.o id,.row e k (dd (uj (F zs))) false)]):=fun t' hr a w ⟨E,hw,hi⟩ K Q hK=>by
 subst hw;have hwant:=kU hg (bf hr) hi;have hr1:=aQ hr;have hr2:=aQ hr1;have hr3:=aQ hr2;have hfo:ev t' fo = .clo f []:=(dK (bf hr1)).trans hf;have hx':ev t' x = .aW id n:=(dK (bf hr2)).trans hx;have hy':ev t' y = .clo g []:=(dK (bf hr3)).trans hy;have ht':t' (.o id) = .row e k (dd (uj zs)) false:=(aQ hr3 _ (by simp)).trans ht
 have hfr:=bP hi fo;rw[hfo]at hfr
 simp only[aP,bD]at hfr;obtain⟨rU,zf,uQ⟩:=hfr;obtain rfl:rU = #[]:=by simp_all
 have LC:=bP hi y;rw[hy']at LC
 simp only[aP,bD]at LC;obtain⟨aky,huy,akQ⟩:=LC;obtain rfl:aky = #[]:=by simp_all
 have hxr:=bP hi x;rw[hx']at hxr
 obtain⟨hblk,v,us,hval,hown,hrel,hcur⟩:=xR hi ht';have hnl:(dd (uj zs)).length=zs.length:=GZ zs;rw[hn,←hnl]at hxr
 have hxv:=hcur _ hxr;rw[hnl]at hval hown
 unfold wpOp;simp only[ho,hwant,if_true];refine .inl ?_;unfold Oper.wp;have hrun:(execOp a.eval o).run P E.w = .ok (.enter f #[v,.func (.func g) #[] #[]]) E.w:=by simp only[execOp,hop,resolve,zf,Deferred.ofValue,invoke,Sem.run_bind,Sem.run_pure,Result.andThen_ok,fA,fD,iU hfn,hxv,huy,Array.map,iR];simp[*]
 rw[hrun];simp only[Oper.upon];obtain⟨hlz,hnum⟩:=KI hrel;simp only[bT]at hnum;have nI:E.own (.o id)=v.ownBlock:=by grind[En.own]
 have aop:∀(b:Nat),E.own (.o id)=some b→∀o',¬E.St b o':=fun b hb o' hs=>by
  obtain⟨e2,k2,es2,h1,_⟩:=hi.h.sep b o' hs _ hb
  grind
 have fin:∀(w':World) (us':List Value),E.w.grownBy w' v.ownBlock→w'.ownsRow 0 e k v zs.length us'→(∀(i:Nat) (u:Value),(flat (F zs))[i]? = some u→us'[i]? = some u)→K (a.put o.dst (.tuple #[])) w':=fun w' us' hgr hown' hcells=>by
  obtain⟨E',hw',x1,hi',hval'⟩:=hi.Nc ht' (es':=dd (uj (F zs))) (sh':=false) (us':=us') (v':=v) (w':=w') (by rw[hnl];exact hval) hgr
   (by rw[GZ,C.len];exact hown') (by rw[GZ,GZ,C.len];exact au _) (fun _=>rfl) (.inl rfl)
   (fun b o' hst=>by
    by_cases hb:v.ownBlock=some b
    ·exact absurd hst (aop b (by rw[nI,hb]) o')
    ·exact h_ (hgr.block b (hi.h.o_ b o' hst) (fun e=>hb e.symm)))
   (fun h=>by simp at h) (fun E' hw' x=>Dq (C.row zs hlz) (by simpa using hcells))
  refine hK _ _ ⟨E',hw',?_⟩;exact eY.dst (W:=[(.o id,.row e k (dd (uj (F zs))) false)]) hi' hd (by simp only[aP];exact⟨#[],rfl,by simp[bD]⟩)
 have hsame:zs.length=0→∀(i:Nat) (u:Value),(flat (F zs))[i]? = some u→us[i]? = some u:=fun h0 i u hu=>by
  have:=C.len zs;rw[h0]at this
  rw[dS.1 this]at hu
  simp[flat]at hu
 rcases hown.2 with⟨hv,h0⟩|⟨b,cap,cur,hv,hb0,hgg,hnc,hcm,hcs,htake⟩
 ·subst hv;refine(C.none none 0 E.w).mono fun e' w' ⟨he,hw'⟩=>?_
  subst he hw';exact fin E.w us ⟨rfl,rfl,rfl,au _,fun _ _ _=>rfl⟩ hown (hsame h0)
 ·by_cases h0:zs.length=0
  ·subst hv;have:=hsame h0;rw[h0];refine(C.none _ cap E.w).mono fun e' w' ⟨he,hw'⟩=>?_
   subst he hw';rw[h0]at fin hown
   exact fin E.w us ⟨rfl,rfl,rfl,au _,fun _ _ _=>rfl⟩ hown this
  ·subst hv;have alH:us=flat zs:=by
    apply iw;intro i;by_cases hi2:i<(flat zs).length
    ·rw[hnum i _ (aj hi2),aj hi2]
    ·have h1:=hown.1;rw[←CG hlz]at h1
     rw[dX (by omega),dX (by omega)]
   rw[alH]at htake
   refine(C.run E.w b cap zs cur e hgg hnc hcm hcs htake hlz hpre (by omega) hsz).mono fun e' w' ⟨he,hgr,cur',h1,h2,h3⟩=>?_
   subst he;exact fin w' (flat (F zs)) hgr ⟨by rw[CG (C.row zs hlz),C.len],.inr ⟨b,cap,cur',rfl,hb0,h1,hnc,hcm,h2,h3⟩⟩ fun i u hu=>hu
def aa6(P:Program)(N:Nat)(t:S)(o:Oper)(f g:FuncId)(k:Nat)(pre:List (List Int)→Prop)(F:List (List Int)→List (List Int))(zs:List (List Int))(gp:List Pl)(gd:Bool)(fo x y:Operand):Option (Prop×List Pl×List (Pl×It)):=
 match ev t x with
 | .aW id n=>match ev t fo with
   | .clo f' caps=>match ev t y with
     | .clo g' WM=>match t (.o id)with
       | .row e z es sh=>some (gd=true∧mZ N o=true∧f'=f∧caps = []∧g'=g∧WM = []∧dB P f=true∧z=k∧sh=false∧es=dd (uj zs)∧n=zs.length∧zs.length<4611686018427387904∧pre zs,gp++(pl fo++(pl x++(pl y++[.o id]))),rM o (.qh []) [(.o id,.row e z (dd (uj (F zs))) false)])
       | _=>none
     | _=>none
   | _=>none
 | _=>none
def aa5(P:Program)(N:Nat)(t:S)(ops:Array Oper)(f g:FuncId)(k:Nat)(pre:List (List Int)→Prop)(F:List (List Int)→List (List Int))(zs:List (List Int)):Option Oper→Option (Prop×List Pl×List (Pl×It))
 | some o=>match gv ops t o with
   | some (gp,gd)=>match o.op with
     | .call {callee:=.value fo,args:=xs,argTypes:=_}=>match xs.toList with
       | [x,y]=>aa6 P N t o f g k pre F zs gp gd fo x y
       | _=>none
     | _=>none
   | none=>none
 | none=>none
theorem aI.YL{i:Nat}{t:S}{kk:List Pl→List (Pl×It)→Prop}{gt:Tg kk}{f g:FuncId}{k:Nat}{pre:List (List Int)→Prop}{F:List (List Int)→List (List Int)}(C:Bl P f g k pre F)(zs:List (List Int))
  (h:QC kk gt (aa5 P A.N t ops f g k pre F zs ops[i]?)):aI P A ops i t kk gt:=by
 unfold QC at h;split at h
 ·rename_i D rp W hc;obtain⟨h1,h2⟩:=h;refine⟨rp,W,?_,h2⟩;unfold aa5 at hc;split at hc
  ·rename_i o ho;split at hc
   ·rename_i gp g0 hg;split at hc
    ·rename_i fo xs tys hop;split at hc
     ·rename_i x y hxs;obtain rfl:xs = #[x,y]:=by grind
      unfold aa6 at hc;split at hc
      ·rename_i id n hx;split at hc
       ·rename_i f' caps hf;split at hc
        ·rename_i g' WM hy;split at hc
         ·rename_i e z es sh ht;simp only[ah,aO]at hc;obtain⟨rfl,rfl,rfl⟩:=hc;obtain⟨rfl,q1,rfl,rfl,rfl,rfl,q2,rfl,rfl,rfl,q3,q4,q5⟩:=h1
          grind[Sum.YL]
         trivial
        trivial
       trivial
      trivial
     trivial
    trivial
   trivial
  trivial
 trivial
attribute [simp] aa5 aa6
end
end Go.Tr
