/-
  What functions of the program compute, stated as contracts over plain data; the conditions of each stand in its own statement.
-/
import Derived.Test.YtkikielfhjoogaaGreatDoorZA11
set_option linter.unusedSimpArgs false
set_option linter.unusedVariables false
namespace Go.Tr
open Go
def nH(P:Program)(f:FuncId)(args:List TV)(xs:List It)(ri:List (Nat×It))(r:TV)(xs':List It)(ro:List (Nat×It)):Prop:=
 ∀(E:En) (us:List Value),lD E (oP xs ri)→bD E args us→Calls P f us.toArray E.w fun e w'=>∃u E',e = .returned u∧E'.w=w'∧Post E xs' ro r u E'
def aaY:List (Nat×Nat)→Nat→Option Nat
 | [],_=>none
 | (j,k)::l,id=>if id=k then some j else aaY l id
def zn:List (Nat×Nat)→Nat→Option Nat
 | [],_=>none
 | (j,k)::l,id=>if id=j then some k else zn l id
theorem Qk{j k:Nat}:∀{rs:List (Nat×Nat)},zn rs j=some k→(j,k)∈rs
 | [],h=>by trivial
 | (a,b)::l,h=>by
   simp only[zn]at h;split at h
   ·simp_all
   ·exact gY _ (Qk h)
theorem Nh{j k:Nat}:∀{rs:List (Nat×Nat)},(rs.map (·.1)).Nodup→(j,k)∈rs→zn rs j=some k
 | [],_,h=>by trivial
 | (a,b)::l,hn,h=>by
   simp only[aC,bG]at hn;simp only[zn];rcases aF.1 h with h|h
   ·simp_all
   ·have:j≠a:=by grind
    rw[if_neg this];exact Nh hn.2 h
theorem IQ{j k:Nat}:∀{rs:List (Nat×Nat)},aaY rs k=some j→(j,k)∈rs
 | [],h=>by trivial
 | (a,b)::l,h=>by
   simp only[aaY]at h;split at h
   ·simp_all
   ·exact gY _ (IQ h)
theorem VW{j j' k:Nat}:∀{rs:List (Nat×Nat)},(rs.map (·.2)).Nodup→(j,k)∈rs→(j',k)∈rs→j=j'
 | [],_,h,_=>by trivial
 | (a,b)::l,hn,h,g=>by
   simp only[aC,bG]at hn;rcases aF.1 h with h|h<;>rcases aF.1 g with g|g
   ·simp_all
   ·simp_all
   ·simp_all
   ·exact VW hn.2 h g
mutual
def TV.BA(ν:List Pl)(rs:List (Nat×Nat)):TV→Option TV
 | .junk=>some .junk
 | .d x=>some (.d x)
 | .c v=>some (.c v)
 | .agg vs=>match TV.pR ν rs vs with|some vs=>some (.agg vs)|none=>none
 | .qh _=>none
 | .aW id n=>match aaY rs id with|some j=>some (.aW j n)|none=>none
 | .ptr p q=>match Z9 p ν 0 with|some i=>some (.ptr (.x i) q)|none=>none
 | .ep e q=>some (.ep e q)
 | .qH _ _ _ _=>none
 | .mref _=>none
 | .sx _=>none
 | .LG _ _ _=>none
 | .clo f vs=>match TV.pR ν rs vs with|some vs=>some (.clo f vs)|none=>none
def TV.pR(ν:List Pl)(rs:List (Nat×Nat)):List TV→Option (List TV)
 | []=>some []
 | v::vs=>match TV.BA ν rs v,TV.pR ν rs vs with
   | some v,some vs=>some (v::vs)
   | _,_=>none
end
section
variable {P:Program} {A:f_}
def En.j_(E:En)(ν:List Pl)(rs:List (Nat×Nat)):En:=
 {w:=E.w,St:=E.St,blk:=fun p=>match p with|.x i=>(ν[i]?).bind E.blk|_=>none,val:=fun j=>(zn rs j).bind E.val}
theorem Jq(E:En)(ν:List Pl)(rs:List (Nat×Nat)):Fa E (E.j_ ν rs):=⟨fun _ _ h=>h,fun _ _ _=>rfl⟩
mutual
theorem TU{ν:List Pl}{rs:List (Nat×Nat)}{E:En}(hn:(rs.map (·.1)).Nodup):∀{v v':TV} {u:Value},v.BA ν rs=some v'→aP E v u→aP (E.j_ ν rs) v' u
 | .junk,v',u,h,_=>by grind[TV.BA,aP]
 | .d x,v',u,h,hr=>by grind[TV.BA,aP,Rep.ext,Jq]
 | .c v,v',u,h,hr=>by grind[TV.BA,aP]
 | .agg vs,v',u,h,hr=>by
   simp only[TV.BA]at h;split at h
   ·rename_i vs' hv;simp only[ah]at h;subst h;obtain⟨us,hu,hs⟩:=hr;exact⟨us,hu,AQ hn hv hs⟩
   trivial
 | .qh vs,v',u,h,_=>by trivial
 | .aW id n,v',u,h,hr=>by
   simp only[TV.BA]at h;split at h
   ·rename_i j hj;simp only[ah]at h;subst h;obtain⟨h1,k,c,v,h2,h3⟩:=hr;exact⟨h1,k,c,v,by simp only[En.j_,Nh hn (IQ hj),bY];omega,h3⟩
   trivial
 | .ptr p q,v',u,h,hr=>by
   simp only[TV.BA]at h;split at h
   ·rename_i i hi;simp only[ah]at h;subst h;simp only[aP]at hr⊢;obtain⟨_,h2⟩:=D8 hi
    grind[En.j_]
   trivial
 | .ep e q,v',u,h,hr=>by grind[TV.BA,aP,dU.ext,Jq]
 | .qH _ _ _ _,v',u,h,_=>by trivial
 | .mref _,v',u,h,_=>by trivial
 | .sx _,v',u,h,_=>by trivial
 | .LG _ _ _,v',u,h,_=>by trivial
 | .clo f vs,v',u,h,hr=>by
   simp only[TV.BA]at h;split at h
   ·rename_i vs' hv;simp only[ah]at h;subst h;obtain⟨us,hu,hs⟩:=hr;exact⟨us,hu,AQ hn hv hs⟩
   trivial
theorem AQ{ν:List Pl}{rs:List (Nat×Nat)}{E:En}(hn:(rs.map (·.1)).Nodup):∀{vs vs':List TV} {us:List Value},TV.pR ν rs vs=some vs'→bD E vs us→bD (E.j_ ν rs) vs' us
 | [],vs',us,h,hr=>by grind[TV.pR,bD]
 | v::vs,vs',us,h,hr=>by
   simp only[TV.pR]at h;split at h
   ·rename_i v1 vs1 h1 h2;simp only[ah]at h;subst h;simp only[bD]at hr⊢;obtain⟨u,us',hu,g1,g2⟩:=hr;exact⟨u,us',hu,TU hn h1 g1,AQ hn h2 g2⟩
   trivial
end
def aaE(ν:List Pl)(rs:List (Nat×Nat)):It→Option It
 | .box cs=>match TV.pR ν rs cs with|some cs=>some (.box cs)|none=>none
 | _=>none
def sQ(t:S)(ν:List Pl)(rs:List (Nat×Nat)):List Pl→Option (List It)
 | []=>some []
 | p::l=>match aaE ν rs (t p),sQ t ν rs l with
   | some i,some is=>some (i::is)
   | _,_=>none
theorem AV{t:S}{ν:List Pl}{rs:List (Nat×Nat)}:∀{l:List Pl} {xs:List It},sQ t ν rs l=some xs→xs.length=l.length∧∀(i:Nat) (p:Pl),l[i]? = some p→∃cs cs',t p = .box cs∧TV.pR ν rs cs=some cs'∧xs[i]? = some (.box cs')
 | [],xs,h=>by grind[sQ]
 | p::l,xs,h=>by
   simp only[sQ]at h;split at h
   ·rename_i it is h1 h2;simp only[ah]at h;subst h;obtain⟨h3,h4⟩:=AV h2;refine⟨by simp[*],fun i q hq=>?_⟩;cases i with
    | zero=>
      simp at hq;unfold aaE at h1
      grind
    | succ i=>simp_all
   trivial
theorem PO{t t':S}{ν:List Pl}{rs:List (Nat×Nat)}:∀{l:List Pl},(∀p∈l,t' p=t p)→sQ t' ν rs l=sQ t ν rs l
 | [],_=>rfl
 | p::l,h=>by simp only[sQ];rw[h p (by simp),PO fun q hq=>h q (by simp[*])]
theorem FX{ν:List Pl}{rs:List (Nat×Nat)}:∀{vs vs':List TV},TV.pR ν rs vs=some vs'→vs'.length=vs.length
 | [],vs',h=>by grind[TV.pR]
 | v::vs,vs',h=>by
   simp only[TV.pR]at h;split at h
   ·rename_i h1 h2;simp only[ah]at h;subst h;simp[FX h2]
   trivial
theorem FW{ν:List Pl}{rs:List (Nat×Nat)}{E:En}(hn:(rs.map (·.1)).Nodup){us:List Value}:∀{o:Nat} {vs vs':List TV},TV.pR ν rs vs=some vs'→cu E us o vs→cu (E.j_ ν rs) us o vs'
 | o,[],vs',h,_=>by simp only[TV.pR,ah]at h;subst h;trivial
 | o,v::vs,vs',h,⟨⟨u,h1,h2,h3⟩,hr⟩=>by
   simp only[TV.pR]at h;split at h
   ·rename_i v1 vs1 g1 g2;simp only[ah]at h;subst h;exact⟨⟨u,h1,h2,TU hn g1 h3⟩,FW hn g2 hr⟩
   trivial
def rC(ν:List Pl)(rs:List (Nat×Nat)):List (List TV)→Option (List (List TV))
 | []=>some []
 | e::es=>match TV.pR ν rs e,rC ν rs es with
   | some e,some es=>some (e::es)
   | _,_=>none
def Yj(ν:List Pl)(rs:List (Nat×Nat)):It→Option It
 | .row e z es false=>match rC ν rs es with|some es=>some (.row e z es false)|none=>none
 | _=>none
theorem PV{ν:List Pl}{rs:List (Nat×Nat)}{i i':It}(h:Yj ν rs i=some i'):∃e z es es',i = .row e z es false∧rC ν rs es=some es'∧i' = .row e z es' false:=by
 unfold Yj at h
 grind
theorem F6{ν:List Pl}{rs:List (Nat×Nat)}:∀{es es':List (List TV)},rC ν rs es=some es'→es'.length=es.length
 | [],_,h=>by grind[rC]
 | e::es,_,h=>by
   simp only[rC]at h;split at h
   ·rename_i h1 h2;simp only[ah]at h;subst h;simp[F6 h2]
   trivial
theorem KY{ν:List Pl}{rs:List (Nat×Nat)}{E:En}(hn:(rs.map (·.1)).Nodup){us:List Value}{k:Nat}:∀{o:Nat} {es es':List (List TV)},rC ν rs es=some es'→fC E us k o es→fC (E.j_ ν rs) us k o es'
 | _,[],_,h,_=>by simp only[rC,ah]at h;subst h;trivial
 | _,e::es,_,h,⟨h1,h2,hr⟩=>by
   simp only[rC]at h;split at h
   ·rename_i g1 g2;simp only[ah]at h;subst h;exact⟨by grind[FX],FW hn g1 h2,KY hn g2 hr⟩
   trivial
def Gh(t:S)(ν:List Pl)(rs:List (Nat×Nat)):List (Nat×Nat)→Option (List (Nat×It))
 | []=>some []
 | (j,k)::l=>match Yj ν rs (t (.o k)),Gh t ν rs l with
   | some i,some r=>some ((j,i)::r)
   | _,_=>none
theorem Ui{t:S}{ν:List Pl}{rs:List (Nat×Nat)}{j:Nat}:∀{l:List (Nat×Nat)} {ri:List (Nat×It)},Gh t ν rs l=some ri→(zn l j=none→uU ri j = .none)∧∀k,zn l j=some k→Yj ν rs (t (.o k))=some (uU ri j)
 | [],ri,h=>by simp only[Gh,ah]at h;subst h;exact⟨fun _=>rfl,fun k h=>by trivial⟩
 | (a,b)::l,ri,h=>by
   simp only[Gh]at h;split at h
   ·rename_i i r h1 h2;simp only[ah]at h;subst h;obtain⟨g1,g2⟩:=Ui (j:=j) h2;simp only[zn,uU]
    grind
   trivial
theorem Qj{t:S}{ν:List Pl}{rs:List (Nat×Nat)}:∀{l:List (Nat×Nat)} {ri:List (Nat×It)},Gh t ν rs l=some ri→∀x∈l,∃e z es,t (.o x.2) = .row e z es false
 | [],_,_,x,hx=>by trivial
 | (a,b)::l,ri,h,x,hx=>by
   simp only[Gh]at h;split at h
   ·rename_i i r h1 h2;rcases aF.1 hx with rfl|hx
    ·grind[PV]
    ·exact Qj h2 x hx
   trivial
theorem acG{t t':S}{ν:List Pl}{rs:List (Nat×Nat)}:∀{l:List (Nat×Nat)},(∀x∈l,t' (.o x.2)=t (.o x.2))→Gh t' ν rs l=Gh t ν rs l
 | [],_=>rfl
 | (a,b)::l,h=>by simp only[Gh];rw[h (a,b) (by simp),acG fun x hx=>h x (by simp[*])]
theorem wF{E:En}{ν:List Pl}{rs:List (Nat×Nat)}{p:Pl}{b:Nat}(h:(E.j_ ν rs).own p=some b):
  (∃i q,p = .x i∧ν[i]? = some q∧E.blk q=some b∧E.own q=some b)∨(∃j k x,p = .o j∧(j,k)∈rs∧zn rs j=some k∧E.val k=some x∧x.2.2.ownBlock=some b):=by
 cases p with
 | s k=>trivial
 | x i=>
   left;unfold En.own at h;split at h
   ·rename_i b2 hb;simp only[ah]at h;subst h;have hb:(ν[i]?).bind E.blk=some b2:=hb;cases hp:ν[i]? with
    | none=>simp_all
    | some p=>simp only[hp,bY]at hb;exact⟨i,p,rfl,hp,hb,by simp[En.own,hb]⟩
   trivial
 | o j=>
   right;simp only[En.own,En.j_]at h;cases hk:zn rs j with
   | none=>simp_all
   | some k=>
     simp only[hk,bY]at h;cases hv:E.val k with
     | none=>simp_all
     | some x=>simp only[hv,bY]at h;exact⟨j,k,x,rfl,Qk hk,hk,hv,h⟩
theorem lD.j_{t:S}{a:Act}{E:En}(hi:eY A t a E){ν:List Pl}{rs:List (Nat×Nat)}{w_:List It}(MI:ν.Nodup)(hI:sQ t ν rs ν=some w_)(FK:∀p∈ν,rP p=true)
  (hr1:(rs.map (·.1)).Nodup) (hr2:(rs.map (·.2)).Nodup) {ri:List (Nat×It)} (hrs:Gh t ν rs rs=some ri):lD (E.j_ ν rs) (oP w_ ri):=by
 obtain⟨hl0,hIs⟩:=AV hI;have hrow:∀{j k},(j,k)∈rs→∃e z es,t (.o k) = .row e z es false:=by grind[Qj]
 have SQ:∀{k x b},E.val k=some x→x.2.2.ownBlock=some b→(∃j,(j,k)∈rs)→E.own (.o k)=some b:=fun {k x b} h1 h2 ⟨j,h3⟩=>by
  obtain⟨e,z,es,h4⟩:=hrow h3;have:=hi.h.item (.o k) (by simp);rw[h4]at this
  simp[En.own,this.1,h1,h2]
 refine⟨fun p hps=>?_,fun k=>rfl,fun p q b' h1 h2=>?_,fun p b' h1=>?_,fun b' o h=>hi.h.o_ b' o h,fun b' o h p hp=>?_,fun y hy=>dU.ext (Jq E ν rs) _ _ _ (hi.h.gl y hy)⟩
 ·cases p with
  | s k=>simp_all
  | o j=>
    simp only[oP];obtain⟨hl1,hl2⟩:=Ui (j:=j) hrs;cases hk:zn rs j with
    | none=>rw[hl1 hk];exact fun id e=>by simp only[Pl.o.injEq]at e;subst e;exact⟨rfl,by grind[En.j_]⟩
    | some k=>obtain⟨e,z,es,es',h4,h5,h6⟩:=PV (hl2 k hk);have hit:=hi.h.item (.o k) (by simp);rw[h6];simp only[h4]at hit;obtain⟨g0,id,v,us,g1,g2,g3,g4⟩:=hit;simp only[Pl.o.injEq]at g1;subst g1;refine⟨rfl,j,v,us,rfl,by grind[En.j_,F6],?_,KY hr1 h5 g4⟩;rw[F6 h5];trivial
  | x i=>
    cases hp:ν[i]? with
    | none=>
      have:w_.length≤i:=by simp_all
      simp only[oP,List.getD,dX this,lU];exact fun id h=>by trivial
    | some p=>
      obtain⟨cs,cs',h1,h2,h3⟩:=hIs i p hp;have hpm:=bF hp;simp only[oP,List.getD,h3,bZ];have agv:∀k,p≠.s k:=by grind[rP]
      have hit:=hi.h.item p agv;rw[h1]at hit
      obtain⟨_,b',ty,us,g1,g2,g3,g4⟩:=hit;refine⟨fun id h=>by trivial,b',ty,us,?_,g2,by rw[g3,FX h2],FW hr1 h2 g4⟩
      show(ν[i]?).bind E.blk=some b'
      simp[*]
 ·rcases wF h1 with⟨i,p',rfl,k1,_,k2⟩|⟨j,k,x,rfl,m1,_,v1,o1⟩<;>rcases wF h2 with⟨i',q',rfl,k3,_,k4⟩|⟨j',k',x',rfl,m2,_,v2,o2⟩
  ·have:=hi.h.inj p' q' b' k2 k4
   grind[List.getElem_inj]
  ·have:=hi.h.inj p' (.o k') b' k2 (SQ v2 o2 ⟨_,m2⟩)
   grind
  ·have:=hi.h.inj q' (.o k) b' k4 (SQ v1 o1 ⟨_,m1⟩)
   grind
  ·have:=hi.h.inj (.o k) (.o k') b' (SQ v1 o1 ⟨_,m1⟩) (SQ v2 o2 ⟨_,m2⟩)
   grind[VW]
 ·rcases wF h1 with⟨i,p',rfl,k1,_,k2⟩|⟨j,k,x,rfl,m1,_,v1,o1⟩
  ·exact hi.h.size p' b' k2
  ·exact hi.h.size _ b' (SQ v1 o1 ⟨_,m1⟩)
 ·rcases wF hp with⟨i,p',rfl,k1,_,k2⟩|⟨j,k,x,rfl,m1,_,v1,o1⟩
  ·obtain⟨e,k,es,k3,_⟩:=hi.h.sep b' o h p' k2
   grind
  ·obtain⟨e,z,es,k3,_⟩:=hi.h.sep b' o h _ (SQ v1 o1 ⟨_,m1⟩)
   grind
theorem Fr.akS{E0 E E':En}(f:Fr E0 E)(os:E'.w.os=E.w.os)(tape:E'.w.tape=E.w.tape)(output:E'.w.output=E.w.output)(size:E.w.heap.size≤E'.w.heap.size)
  (old:∀b,b<E0.w.heap.size→(∀i,E0.blk (.x i)≠some b)→(∀j,E0.own (.o j)≠some b)→E'.w.heap[b]? = E.w.heap[b]?) (xb:∀i,E'.blk (.x i)=E.blk (.x i))
  (new:∀id b,E'.own (.o id)=some b→(∃j,E.own (.o j)=some b)∨E.w.heap.size≤b) (st:∀b o,E.St b o→E'.St b o)
  (xE:∀b o,E'.St b o→E.St b o∨(E0.w.heap.size≤b∨∃j,E0.own (.o j)=some b)):Fr E0 E':=
 ⟨os.trans f.os,tape.trans f.tape,output.trans f.output,dw f.size size,fun b h1 h2 h3=>(old b h1 h2 h3).trans (f.old b h1 h2 h3),fun i=>(xb i).trans (f.xb i),
  fun id b h=>(new id b h).elim (fun⟨j,h⟩=>f.new j b h) (fun h=>.inl (dw f.size h)),fun b o h=>st b o (f.st b o h),fun b o h=>(xE b o h).elim (f.xE b o) .inr⟩
def wr:List (Nat×Nat)→List (Pl×It)
 | []=>[]
 | (_,k)::l=>(.o k,.v .junk)::wr l
theorem abh{t:S}{k:Nat}:∀{rs:List (Nat×Nat)},k∈rs.map (·.2)→over t (wr rs) (.o k) = .v .junk
 | [],h=>by trivial
 | (a,b)::l,h=>by
   simp only[wr,over];by_cases e:k=b
   ·grind[upd]
   ·simp only[aC,aF,e,false_or]at h;rw[upd,if_neg (by simp[*])];exact abh h
theorem QB{t:S}{p:Pl}:∀{rs:List (Nat×Nat)},(∀k∈rs.map (·.2),p≠.o k)→over t (wr rs) p=t p
 | [],_=>rfl
 | (a,b)::l,h=>by simp only[wr,over,upd,if_neg (h b (by simp))];exact QB fun k hk=>h k (by simp[*])
theorem eY.aiK{t:S}{a:Act}{E:En}(hi:eY A t a E){ν:List Pl}{rs:List (Nat×Nat)}{w_ iH:List It}{ro:List (Nat×It)}{b:Nat}(MI:ν.Nodup)(FK:∀p∈ν,rP p=true)(hI:sQ t ν rs ν=some w_)
  (hr1:(rs.map (·.1)).Nodup) (hr2:(rs.map (·.2)).Nodup) {ri:List (Nat×It)} (hrs:Gh t ν rs rs=some ri)
  (hl:iH.length=ν.length) (hbox:∀i∈iH,nD i=true) (OI:∀x∈ro,isObj x.2=true) (hfree:∀x∈ro,t (.o (b+x.1)) = .none)
  {r:TV} {u:Value} {E':En} (hp:Post (E.j_ ν rs) iH ro r u E') :
  ∃E2:En,E2.w=E'.w∧eY A (over t (wx ν b ν iH++(wo ν b ro++wr rs))) a E2∧aP E2 (r.back ν b) u:=by
 obtain⟨hl0,hIs⟩:=AV hI;have hrow:∀{k},k∈rs.map (·.2)→∃e z es,t (.o k) = .row e z es false:=fun h=>by
  obtain⟨x,hx,rfl⟩:=ak.1 h
  grind[Qj]
 have aoi:∀{k},k∈rs.map (·.2)→E.blk (.o k)=none∧∃z c v,E.val k=some (z,c,v)∧E.own (.o k)=v.ownBlock:=fun {k} h=>by
  obtain⟨e,z,es,h4⟩:=hrow h;have hit:=hi.h.item (.o k) (by simp);rw[h4]at hit
  obtain⟨g0,id,v,us,g1,g2,_,_⟩:=hit
  grind[En.own]
 have Ib:∀{i:Nat} {p:Pl},ν[i]? = some p→∃cs,t p = .box cs:=fun h=>by grind
 have adK:∀{p:Pl},p∈ν→∀k,p≠.s k:=fun hp k e=>by grind[rP]
 have Z8:∀{k},k∈rs.map (·.2)→Pl.o k∉ν:=fun h hp=>by grind[List.getElem?_of_mem]
 let nw:Nat→Option Nat:=fun k=>if b≤k∧(k-b)∈ro.map (·.1)then some (k-b)else none
 have hnw:∀{k j},nw k=some j↔k=b+j∧j∈ro.map (·.1):=fun {k j}=>by grind
 have wI:∀{k j},nw k=some j→t (.o k) = .none:=fun h=>by grind
 have ET:∀{k j},nw k=some j→E.blk (.o k)=none∧E.val k=none:=fun {k j} h=>by
  have:=hi.h.item (.o k) (by simp);rw[wI h]at this
  exact this k rfl
 have hnr:∀{k j},nw k=some j→k∉rs.map (·.2):=fun h g=>by grind
 let E2:En:={w:=E'.w,St:=E'.St,blk:=fun p=>match p with|.o k=>(match nw k with|some j=>E'.blk (.o j)|none=>E.blk (.o k))|p=>E.blk p,
             val:=fun k=>match nw k with|some j=>E'.val j|none=>if k∈rs.map (·.2)then(E.val k).map (fun x=>(x.1,x.2.1+1,.slice none 0 0))else E.val k}
 have l9:∀{p:Pl},(∀k j,p = .o k→nw k≠some j)→E2.blk p=E.blk p:=fun {p} h=>by grind
 have qC:∀{k:Nat},(∀j,nw k≠some j)→k∉rs.map (·.2)→E2.val k=E.val k:=fun {k} h g=>by grind
 have SY:∀{k:Nat},k∈rs.map (·.2)→E2.val k=(E.val k).map (fun x=>(x.1,x.2.1+1,.slice none 0 0)):=fun {k} g=>by grind
 have qA:∀{k j:Nat},nw k=some j→E2.blk (.o k)=E'.blk (.o j)∧E2.val k=E'.val j:=fun {k j} h=>by grind
 have jG:∀{p:Pl},(∀k j,p = .o k→nw k≠some j)→(∀k,p = .o k→k∉rs.map (·.2))→E2.own p=E.own p:=fun {p} h g=>En.mV (l9 h) (fun id e=>qC (fun j=>h id j e) (g id e))
 have jF:∀{k j:Nat},nw k=some j→E2.own (.o k)=E'.own (.o j):=fun {k j} h=>by
  obtain⟨h1,h2⟩:=qA h
  grind[En.own]
 have qB:∀{k},k∈rs.map (·.2)→E2.own (.o k)=none:=fun {k} h=>by
  obtain⟨g1,z,c,v,g2,_⟩:=aoi h;have hb:E2.blk (.o k)=none:=by
   rw[l9 (p:=.o k)]
   ·exact g1
   ·intro k' j e hn;simp only[Pl.o.injEq]at e;subst e;exact hnr hn h
  simp only[En.own,hb,SY h,g2,bH,bY,Value.ownBlock]
 have hcx:∀i,(E.j_ ν rs).blk (.x i)=(ν[i]?).bind E.blk:=fun i=>rfl
 have hown2:∀{j b'},(E.j_ ν rs).own (.o j)=some b'→∃k,k∈rs.map (·.2)∧E.own (.o k)=some b':=fun {j b'} h=>by
  rcases wF h with⟨i,q,e,_⟩|⟨j',k,x,e,m,_,v,o⟩
  ·trivial
  ·have hk:k∈rs.map (·.2):=ak.2 ⟨_,m,rfl⟩
   grind
 have sU:∀{i b'},(E.j_ ν rs).blk (.x i)=some b'→∃p,ν[i]? = some p∧E.blk p=some b'∧E.own p=some b':=fun {i b'} h=>by
  rw[hcx]at h
  cases hp:ν[i]? with
  | none=>simp[hp]at h
  | some p=>simp only[hp,bY]at h;exact⟨p,rfl,h,by simp[En.own,h]⟩
 have OO:∀{b' o},E.St b' o→E'.w.heap[b']? = E.w.heap[b']? :=fun {b' o} h=>hp.fr.old b' (hi.h.o_ _ _ h) (fun i hx=>by
  obtain⟨p,h1,h2,h3⟩:=sU hx;obtain⟨cs,h4⟩:=Ib h1;obtain⟨e,k,es,h5,_⟩:=hi.h.sep _ _ h p h3;rw[h4]at h5;simp at h5) (fun j hj=>by
  obtain⟨k,h1,h2⟩:=hown2 hj;obtain⟨e,z,es,h5,_⟩:=hi.h.sep _ _ h _ h2;obtain⟨e',z',es',h6⟩:=hrow h1;rw[h6]at h5;simp at h5)
 have x:oQ E E2:=by
  refine⟨fun b' o h=>hp.fr.st b' o h,fun b' o h=>h_ (OO h),fun id b' _ h=>?_,fun i b' h=>h,fun i b' h=>h,fun id k c v _ h=>?_⟩
  ·rw[l9]
   ·exact h
   ·rintro k j e hn;simp only[Pl.o.injEq]at e;subst e;rw[(ET hn).1]at h;simp at h
  ·by_cases hr:id∈rs.map (·.2)
   ·exact⟨c+1,.slice none 0 0,by rw[SY hr,h];rfl,by omega,fun e=>by omega⟩
   ·refine⟨c,v,?_,au _,fun _=>rfl⟩;rw[qC _ hr]
    ·exact h
    ·intro j hn;rw[(ET hn).2]at h;simp at h
 have hmem:∀{j:Nat},(E'.blk (.o j)≠none∨E'.val j≠none)→j∈ro.map (·.1):=fun {j} h=>by
  by_cases hj:j∈ro.map (·.1)
  ·omega
  ·have:=hp.h.item (.o j) (by simp);simp only[oP,Ec hj]at this;obtain⟨h1,h2⟩:=this j rfl;rcases h with h|h
   ·exact absurd h1 h
   ·exact absurd h2 h
 have hback:∀{v:TV} {u:Value},aP E' v u→aP E2 (v.back ν b) u:=fun {v u} h=>by
  refine GK (E':=E') (E2:=E2) ⟨fun _ _ h=>h,fun _ _ _=>rfl⟩ (fun i b' hb=>?_) (fun id b' hb=>?_) (fun id y hy=>?_) hp.h.frees h
  ·rw[hp.fr.xb]at hb
   obtain⟨p,h1,h2,h3⟩:=sU hb;have hg:ν.getD i (.s 0)=p:=by simp[*]
   rw[hg,l9]
   ·omega
   ·rintro k j rfl hn;rw[(ET hn).1]at h2;trivial
  ·have hj:=hmem (j:=id) (.inl (by simp[*]));rw[(qA (hnw.2 ⟨rfl,hj⟩)).1];omega
  ·have hj:=hmem (j:=id) (.inr (by simp[*]));rw[(qA (hnw.2 ⟨rfl,hj⟩)).2];omega
 have Z4:∀{p:Pl},(∀k j,p = .o k→nw k≠some j)→∀j∈ro.map (·.1),p≠.o (b+j):=fun h j hj e=>h _ j e (hnw.2 ⟨rfl,hj⟩)
 have x9:∀{p:Pl},p∈ν→∀k j,p = .o k→nw k≠some j:=fun {p} mP k j e hn=>by subst e;obtain⟨i,hi'⟩:=bU mP;obtain⟨cs,h⟩:=Ib hi';rw[wI hn]at h;simp at h
 have xC:∀p,over t (wx ν b ν iH++(wo ν b ro++wr rs)) p=if p∈ν then over t (wx ν b ν iH) p else over (over t (wr rs)) (wo ν b ro) p:=fun p=>by
  rw[rZ,rZ];split
  ·rename_i h;obtain⟨i,h1⟩:=bU h;have hil:i<iH.length:=by rw[hl];exact(aB.1 h1).1
   rw[zx MI hl h1 (aj hil),zx MI hl h1 (aj hil)]
  ·rename_i h;rw[Jd h]
 have hold:∀{p:Pl},p∉ν→(∀k j,p = .o k→nw k≠some j)→(∀k,p = .o k→k∉rs.map (·.2))→over t (wx ν b ν iH++(wo ν b ro++wr rs)) p=t p:=fun h1 h2 h3=>by rw[xC,if_neg h1,Ah (Z4 h2),QB (fun k hk e=>h3 k e hk)]
 have agq:∀{k},k∈rs.map (·.2)→over t (wx ν b ν iH++(wo ν b ro++wr rs)) (.o k) = .v .junk:=fun {k} h=>by rw[xC,if_neg (Z8 h),Ah (Z4 (p:=.o k) (fun k' j e hn=>by simp only[Pl.o.injEq]at e;subst e;exact hnr hn h)),abh h]
 have hH:lD E2 (over t (wx ν b ν iH++(wo ν b ro++wr rs))):=by
  refine⟨fun p hps=>?_,fun k=>hi.h.frees k,fun p q b' h1 h2=>?_,fun p b' h1=>?_,fun b' o h1=>hp.h.o_ b' o h1,fun b' o h1 p h2=>?_,fun y hy=>dU.ext x.r _ _ _ (hi.h.gl y hy)⟩
  ·by_cases mP:p∈ν
   ·obtain⟨i,h1⟩:=bU mP;have hil:i<iH.length:=by rw[hl];exact(aB.1 h1).1
    rw[xC,if_pos mP,zx MI hl h1 (aj hil)];have hb:=hbox iH[i] (aJ hil);have hit:=hp.h.item (.x i) (by simp);have hr:oP iH ro (.x i)=iH[i]:=by simp[oP,List.getD,hil]
    rw[hr]at hit
    cases hc:iH[i]with
    | box cs=>
      rw[hc]at hit
      obtain⟨_,b',ty,us,h2,h3,h4,h5⟩:=hit;rw[hp.fr.xb]at h2
      obtain⟨p',g1,g2,g3⟩:=sU h2;rw[h1]at g1;simp only[ah]at g1;subst g1
      refine⟨fun id e=>?_,b',ty,us,?_,h3,by rw[h4,o9],uw hback h5⟩
      ·subst e;rw[qC (fun j=>x9 mP id j rfl) (fun h=>Z8 h mP)];obtain⟨cs0,g4⟩:=Ib h1;have:=hi.h.item (.o id) (by simp);rw[g4]at this
       exact this.1 id rfl
      ·rw[l9 (x9 mP)];exact g2
    | none=>rw[hc]at hb;simp[nD]at hb
    | v _=>rw[hc]at hb;simp[nD]at hb
    | row _ _ _ _=>rw[hc]at hb;simp[nD]at hb
    | sJ _ _ _=>rw[hc]at hb;simp[nD]at hb
    | mp _=>rw[hc]at hb;simp[nD]at hb
    | fO _ _ _ _=>rw[hc]at hb;simp[nD]at hb
    | yt _ _ _ _=>rw[hc]at hb;simp[nD]at hb
    | BM _ _=>rw[hc]at hb;simp[nD]at hb
   ·by_cases hn:∃k j,p = .o k∧nw k=some j
    ·obtain⟨k,j,rfl,hn⟩:=hn;obtain⟨rfl,hj⟩:=hnw.1 hn;rw[xC,if_neg mP,Gm hj];have ho:=JR OI hj;have hit:=hp.h.item (.o j) (by simp);simp only[oP]at hit;obtain⟨hb1,hv1⟩:=qA hn;cases hc:uU ro j with
     | box cs=>
       rw[hc]at hit
       obtain⟨h0,b',ty,us,h2,h3,h4,h5⟩:=hit;exact⟨fun id e=>by simp only[Pl.o.injEq]at e;subst e;rw[hv1];exact h0 j rfl,b',ty,us,hb1.trans h2,h3,by rw[h4,o9],uw hback h5⟩
     | row e k' es sh=>
       rw[hc]at hit
       obtain⟨h0,id,v,us,e1,h2,h3,h4⟩:=hit;simp only[Pl.o.injEq]at e1;subst e1;exact⟨hb1.trans h0,b+j,v,us,rfl,by rw[hv1,aV];exact h2,by rw[aV];exact h3,LZ hback h4⟩
     | mp es=>
       rw[hc]at hit
       obtain⟨h0,b',l,clock,h2,h3,h4,h5⟩:=hit;exact⟨fun id e=>by simp only[Pl.o.injEq]at e;subst e;rw[hv1];exact h0 j rfl,b',l,clock,hb1.trans h2,h3,rW.ext (E:=E') (E':=E2) ⟨fun _ _ h=>h,fun _ _ _=>rfl⟩ h4,h5⟩
     | fO es c pd s=>
       rw[hc]at hit
       obtain⟨id,b',l,clock,l',ty,v,e1,h2,h3,h4,h5,h6,h7,h8,h9⟩:=hit;simp only[Pl.o.injEq]at e1;subst e1;exact⟨b+j,b',l,clock,l',ty,v,rfl,hb1.trans h2,h3,h4,abt hback h5,h6,by rw[hv1];exact h7,h8,h9⟩
     | yt _ _ _ _=>rw[hc]at ho;simp[isObj]at ho
     | BM _ _=>rw[hc]at ho;simp[isObj]at ho
     | sJ _ _ _=>rw[hc]at ho;simp[isObj]at ho
     | none=>rw[hc]at ho;simp[isObj]at ho
     | v _=>rw[hc]at ho;simp[isObj]at ho
    ·have hn':∀k j,p = .o k→nw k≠some j:=fun k j e h=>hn ⟨k,j,e,h⟩
     by_cases hg:∃k,p = .o k∧k∈rs.map (·.2)
     ·obtain⟨k,rfl,hk⟩:=hg;rw[agq hk];exact qB hk
     ·have hg':∀k,p = .o k→k∉rs.map (·.2):=fun k e h=>hg ⟨k,e,h⟩
      rw[hold mP hn' hg'];refine(hi.h.item p hps).up x (l9 hn') (fun id e=>qC (fun j=>hn' id j e) (hg' id e)) (fun b' hb'=>?_);refine hp.fr.old b' (hi.h.size p b' hb') (fun i hx=>?_) (fun j hj=>?_)
      ·obtain⟨q,g1,g2,g3⟩:=sU hx;have:=hi.h.inj p q b' hb' g3;subst this;exact mP (bF g1)
      ·obtain⟨k,g1,g2⟩:=hown2 hj;exact hg' k (hi.h.inj p _ b' hb' g2) g1
  ·have hgo:∀{p b'},E2.own p=some b'→∀k,p = .o k→k∉rs.map (·.2):=fun {p b'} h k e g=>by
    subst e;rw[qB g]at h;simp at h
   have OH:∀{j q},E'.own (.o j)=some b'→E.own q=some b'→(∀k,q = .o k→k∉rs.map (·.2))→False:=fun {j q} h1 h2 h3=>by
    have g2:=hi.h.size q b' h2;rcases hp.fr.new j b' h1 with g1|⟨i,g1⟩
    ·simp only[En.j_]at g1;omega
    ·obtain⟨k,g3,g4⟩:=hown2 g1;exact h3 k (hi.h.inj q _ b' h2 g4) g3
   by_cases n1:∃k j,p = .o k∧nw k=some j<;>by_cases n2:∃k j,q = .o k∧nw k=some j
   ·obtain⟨k,j,rfl,hn⟩:=n1;obtain⟨k',j',rfl,hn'⟩:=n2;rw[jF hn]at h1;rw[jF hn']at h2
    have:=hp.h.inj _ _ b' h1 h2;simp only[Pl.o.injEq]at this;subst this;rw[(hnw.1 hn).1,(hnw.1 hn').1]
   ·obtain⟨k,j,rfl,hn⟩:=n1;have hq:=hgo h2;rw[jF hn]at h1
    rw[jG (fun k j e h=>n2 ⟨k,j,e,h⟩) hq]at h2
    exact(OH h1 h2 hq).elim
   ·obtain⟨k,j,rfl,hn⟩:=n2;have hq:=hgo h1;rw[jF hn]at h2
    rw[jG (fun k j e h=>n1 ⟨k,j,e,h⟩) hq]at h1
    exact(OH h2 h1 hq).elim
   ·have hq1:=hgo h1;have hq2:=hgo h2;rw[jG (fun k j e h=>n1 ⟨k,j,e,h⟩) hq1]at h1
    rw[jG (fun k j e h=>n2 ⟨k,j,e,h⟩) hq2]at h2
    exact hi.h.inj p q b' h1 h2
  ·by_cases n1:∃k j,p = .o k∧nw k=some j
   ·obtain⟨k,j,rfl,hn⟩:=n1;rw[jF hn]at h1
    exact hp.h.size _ b' h1
   ·by_cases hg:∃k,p = .o k∧k∈rs.map (·.2)
    ·obtain⟨k,rfl,hk⟩:=hg;rw[qB hk]at h1;simp at h1
    ·rw[jG (fun k j e h=>n1 ⟨k,j,e,h⟩) (fun k e h=>hg ⟨k,e,h⟩)]at h1
     exact dA (hi.h.size p b' h1) hp.fr.size
  ·by_cases n1:∃k j,p = .o k∧nw k=some j
   ·obtain⟨k,j,rfl,hn⟩:=n1;rw[jF hn]at h2
    obtain⟨e,k',es,g1,g2⟩:=hp.h.sep b' o h1 _ h2;obtain⟨rfl,hj⟩:=hnw.1 hn;have mP:Pl.o (b+j)∉ν:=fun h=>x9 h _ j rfl hn
    refine⟨e,k',es.map (TV.backs ν b),?_,by simpa using g2⟩;rw[xC,if_neg mP,Gm hj];simp only[oP]at g1;rw[g1];rfl
   ·have n1':∀k j,p = .o k→nw k≠some j:=fun k j e h=>n1 ⟨k,j,e,h⟩
    by_cases hg:∃k,p = .o k∧k∈rs.map (·.2)
    ·obtain⟨k,rfl,hk⟩:=hg;rw[qB hk]at h2;simp at h2
    ·have hg':∀k,p = .o k→k∉rs.map (·.2):=fun k e h=>hg ⟨k,e,h⟩
     rw[jG n1' hg']at h2
     have hsz:=hi.h.size p b' h2;rcases hp.fr.xE b' o h1 with g1|g1|⟨i,g1⟩
     ·obtain⟨e,k,es,g2,g3⟩:=hi.h.sep b' o g1 p h2;refine⟨e,k,es,?_,g3⟩;rw[hold _ n1' hg',g2];intro mP;obtain⟨i,hi'⟩:=bU mP;obtain⟨cs,h⟩:=Ib hi';rw[h]at g2;simp at g2
     ·simp only[En.j_]at g1;omega
     ·obtain⟨k,g3,g4⟩:=hown2 g1;exact absurd g3 (hg' k (hi.h.inj p _ b' h2 g4))
 have hsl:∀k,over t (wx ν b ν iH++(wo ν b ro++wr rs)) (.s k)=t (.s k):=fun k=>hold (fun h=>adK h k rfl) (fun _ _ e=>by simp at e) (fun _ e=>by simp at e)
 have hE0:∀{j b'},(E.j_ ν rs).own (.o j)=some b'→A.E0.w.heap.size≤b'∨∃i,A.E0.own (.o i)=some b':=fun {j b'} h=>by obtain⟨k,_,g⟩:=hown2 h;exact hi.fr.new k b' g
 refine⟨E2,rfl,hi.step hH x (hi.fr.akS hp.fr.os hp.fr.tape hp.fr.output hp.fr.size (fun b' h1 h2 h3=>?_) (fun i=>rfl) (fun id b' h=>?_) (fun b' o h=>hp.fr.st b' o h) (fun b' o h=>?_)) hsl,hback hp.rel⟩
 ·refine hp.fr.old b' (dA h1 hi.fr.size) (fun i hx=>?_) (fun j hj=>?_)
  ·obtain⟨q,g1,g2,g3⟩:=sU hx;cases q with
   | s k=>rw[hi.h.frees k]at g2;simp at g2
   | x j=>exact h2 j ((hi.fr.xb j).symm.trans g2)
   | o k=>exact(hi.fr.new k b' g3).elim (fun h=>by omega) (fun⟨j,h⟩=>h3 j h)
  ·exact(hE0 hj).elim (fun h=>by omega) (fun⟨j,h⟩=>h3 j h)
 ·cases hn:nw id with
  | some j=>
    rw[jF hn]at h
    rcases hp.fr.new j b' h with g|⟨i,g⟩
    ·exact .inr g
    ·obtain⟨k,_,g2⟩:=hown2 g;exact .inl ⟨k,g2⟩
  | none=>
    by_cases hk:id∈rs.map (·.2)
    ·rw[qB hk]at h;simp at h
    ·rw[jG (fun k j e h=>by simp only[Pl.o.injEq]at e;subst e;rw[hn]at h;simp at h) (fun k e=>by simp only[Pl.o.injEq]at e;subst e;exact hk)]at h
     exact .inl ⟨id,h⟩
 ·rcases hp.fr.xE b' o h with g|g|⟨i,g⟩
  ·exact .inl g
  ·exact .inr (.inl (dw hi.fr.size g))
  ·exact .inr (hE0 g)
variable {ops:Array Oper}
theorem Sum.call2{t:S}{i:Nat}{o:Oper}{gp:List Pl}{fo:Operand}{xs:List Operand}{tys:Array TypeId}{f:FuncId}{caps nC:List TV}{w_ iH:List It}{ri:List (Nat×It)}{r:TV}{ro:List (Nat×It)}
  (ho:ops[i]? = some o) (hg:gv ops t o=some (gp,true)) (hd:mZ A.N o=true) (hop:o.op = .call {callee:=.value fo,args:=xs.toArray,argTypes:=tys}) (hf:ev t fo = .clo f caps) (hfn:dB P f=true)
  (C:nH P f nC w_ ri r iH ro) (ν:List Pl) (rs:List (Nat×Nat)) (b:Nat) (MI:ν.Nodup) (FK:∀p∈ν,rP p=true) (hp:TV.pR ν rs (xs.map (ev t)++caps)=some nC) (hI:sQ t ν rs ν=some w_)
  (hr1:(rs.map (·.1)).Nodup) (hr2:(rs.map (·.2)).Nodup) (JL:Gh t ν rs rs=some ri)
  (hl:iH.length=ν.length) (hbox:∀i∈iH,nD i=true) (OI:∀x∈ro,isObj x.2=true) (hfree:∀x∈ro,t (.o (b+x.1)) = .none) :
  Sum P A ops i t (gp++(pl fo++(xs.flatMap pl++(ν++((rs.map fun x=>.o x.2)++ro.map fun x=>.o (b+x.1))))))
   (rM o (r.back ν b) (wx ν b ν iH++(wo ν b ro++wr rs))):=fun t' hr a w ⟨E,hw,hi⟩ K Q hK=>by
 subst hw;have hwant:=kU hg (bf hr) hi;have hr1':=aQ hr;have hr2':=aQ hr1';have hr3:=aQ hr2';have hr4:=aQ hr3;have hfo:ev t' fo = .clo f caps:=(dK (bf hr1')).trans hf;have hxs:xs.map (ev t')=xs.map (ev t):=Oj (bf hr2');have agB:∀p∈ν,t' p=t p:=bf hr3
 have atq:∀x∈rs,t' (.o x.2)=t (.o x.2):=fun x hx=>(bf hr4) (.o x.2) (ak.2 ⟨x,hx,rfl⟩)
 have ags:∀x∈ro,t' (.o (b+x.1)) = .none:=fun x hx=>((aQ hr4) (.o (b+x.1)) (ak.2 ⟨x,hx,rfl⟩)).trans (hfree x hx)
 have hI':sQ t' ν rs ν=some w_:=(PO agB).trans hI;have aoh:Gh t' ν rs rs=some ri:=(acG atq).trans JL;have hfr:=bP hi fo;rw[hfo]at hfr
 simp only[aP]at hfr;obtain⟨rU,zf,uQ⟩:=hfr;have hxr:=AA hi xs;rw[hxs]at hxr
 have happ:∀{ts ts':List TV} {us us':List Value},bD E ts us→bD E ts' us'→bD E (ts++ts') (us++us'):=by
  intro ts
  induction ts with
  | nil=>intro ts' us us' h g;simp only[bD]at h;subst h;simpa using g
  | cons v ts ih=>intro ts' us us' h g;simp only[bD]at h;obtain⟨u,us0,rfl,h1,h2⟩:=h;simp only[bg,bD];exact⟨u,us0++us',rfl,h1,ih h2 g⟩
 have hargs:=happ hxr uQ;have FD:bD (E.j_ ν rs) nC (xs.map a.eval++rU.toList):=AQ hr1 hp hargs;have hH0:lD (E.j_ ν rs) (oP w_ ri):=lD.j_ hi MI hI' FK hr1 hr2 aoh;have hcall:=C (E.j_ ν rs) _ hH0 FD;have hwc:(E.j_ ν rs).w=E.w:=rfl;rw[hwc]at hcall
 unfold wpOp;simp only[ho,hwant,if_true];refine .inl ?_;unfold Oper.wp;have hrun:(execOp a.eval o).run P E.w = .ok (.enter f (xs.map a.eval++rU.toList).toArray) E.w:=by
  have harr:(List.map a.eval xs++rU.toList).toArray=(List.map a.eval xs).toArray++rU:=by simp
  simp only[execOp,hop,resolve,zf,Deferred.ofValue,invoke,Sem.run_bind,Sem.run_pure,Result.andThen_ok,fA,fD,iU hfn,harr]
 rw[hrun];simp only[Oper.upon];refine hcall.mono fun e w' ⟨u,E',he,hw',hpost⟩=>?_
 subst he;obtain⟨E2,hw2,hi2,hr2'⟩:=hi.aiK MI FK hI' hr1 hr2 aoh hl hbox OI ags hpost;refine hK _ _ ⟨E2,hw2.trans hw',eY.dst ?_ hd hr2'⟩;exact hi2
def Zq(P:Program)(N:Nat)(t:S)(o:Oper)(f:FuncId)(nC:List TV)(w_:List It)(ri:List (Nat×It))(r:TV)(iH:List It)(ro:List (Nat×It))(ν:List Pl)(rs:List (Nat×Nat))(b:Nat)(gp:List Pl)(g:Bool):Option (Prop×List Pl×List (Pl×It)):=
 match o.op with
 | .call {callee:=.value fo,args:=xs,argTypes:=_}=>
   match ev t fo with
   | .clo f' caps=>
     match sQ t ν rs ν,TV.pR ν rs (xs.toList.map (ev t)++caps),Gh t ν rs rs with
     | some c0,some a0,some r0=>
       some (g=true∧mZ N o=true∧f'=f∧dB P f=true∧ν.Nodup∧(∀p∈ν,rP p=true)∧a0=nC∧c0=w_∧(rs.map (·.1)).Nodup∧(rs.map (·.2)).Nodup∧r0=ri∧
        iH.length=ν.length∧(∀x∈iH,nD x=true)∧(∀x∈ro,isObj x.2=true)∧(∀x∈ro,t (.o (b+x.1)) = .none),
        gp++(pl fo++(xs.toList.flatMap pl++(ν++((rs.map fun x=>.o x.2)++ro.map fun x=>.o (b+x.1))))),
        rM o (r.back ν b) (wx ν b ν iH++(wo ν b ro++wr rs)))
     | _,_,_=>none
   | _=>none
 | _=>none
def Zo(P:Program)(N:Nat)(t:S)(ops:Array Oper)(f:FuncId)(nC:List TV)(w_:List It)(ri:List (Nat×It))(r:TV)(iH:List It)(ro:List (Nat×It))(ν:List Pl)(rs:List (Nat×Nat))(b:Nat):Option Oper→Option (Prop×List Pl×List (Pl×It))
 | some o=>match gv ops t o with
   | some (gp,g)=>Zq P N t o f nC w_ ri r iH ro ν rs b gp g
   | none=>none
 | none=>none
theorem aI.of2{i:Nat}{t:S}{k:List Pl→List (Pl×It)→Prop}{g:Tg k}{f:FuncId}{nC:List TV}{w_ iH:List It}{ri:List (Nat×It)}{r:TV}{ro:List (Nat×It)}(C:nH P f nC w_ ri r iH ro)(ν:List Pl)(rs:List (Nat×Nat))(b:Nat)
  (h:QC k g (Zo P A.N t ops f nC w_ ri r iH ro ν rs b ops[i]?)):aI P A ops i t k g:=by
 unfold QC at h;split at h
 ·rename_i D rp W hc;obtain⟨h1,h2⟩:=h;refine⟨rp,W,?_,h2⟩;unfold Zo at hc;split at hc
  ·rename_i o ho;split at hc
   ·rename_i gp g0 hg;unfold Zq at hc;split at hc
    ·rename_i fo xs tys hop;split at hc
     ·rename_i f' caps hf;split at hc
      ·rename_i c0 a0 r0 hI hp JL;simp only[ah,aO]at hc;obtain⟨rfl,rfl,rfl⟩:=hc;obtain⟨rfl,q1,rfl,q2,q3,q4,rfl,rfl,q5,q6,rfl,q8,q9,q10,q11⟩:=h1;exact Sum.call2 (xs:=xs.toList) ho hg q1 (by simpa using hop) hf q2 C ν rs b q3 q4 hp hI q5 q6 JL q8 q9 q10 q11
      trivial
     trivial
    trivial
   trivial
  trivial
 trivial
theorem kD{f:FuncId}{fn:Func}{c:Code}{args:List TV}{xs:List It}{ri:List (Nat×It)}{r:TV}{xs':List It}{ro:List (Nat×It)}(hf:P.funcs[f]? = some fn)(hb:fn.body=some c)
  (h:∀E0,AW P ⟨E0,fn.ntmps⟩ c (fin P ⟨E0,fn.ntmps⟩ fn r xs' ro) (look (Q_ args 0++(xL xs 0++oL ri)))):nH P f args xs ri r xs' ro:=fun E us hH hargs=>by
 refine calls_of_wp hf hb (Code.wp_mono (fun e a w hq=>?_) (h E {tmps:=us.toArray++Array.replicate (fn.ntmps-us.toArray.size) undef,defers:=[]} E.w ⟨E,rfl,⟨?_,?_,?_,rfl,?_⟩⟩))
 ·obtain⟨t,hi,hq⟩:=hq;have key:Fin P ⟨E,fn.ntmps⟩ fn r xs' ro t→a.defers = []∧∃v,(results fn a.tmps).run P w = .ok v w∧∃u E',Ending.returned v = .returned u∧E'.w=w∧Post E xs' ro r u E':=fun hF=>by
   obtain⟨u,E',h1,h2,h3⟩:=hF a w hi;obtain⟨E1,_,hi1⟩:=hi;exact⟨hi1.defers,u,h1,u,E',rfl,h2,h3⟩
  cases e<;>first
   | exact hq.elim
   | exact key hq
 ·refine hH.congr fun p hp=>?_
  rw[Oi hp];cases p with
  | s k=>simp_all
  | x i=>
    rw[akx];simp only[oP,jk,true_and,bT,lW]
    grind[Pv]
  | o k=>rw[DC (fun j e=>by trivial),alV];rfl
 ·exact⟨rfl,rfl,rfl,au _,fun _ _ _ _=>rfl,fun _=>rfl,fun id b hb=>.inr ⟨id,hb⟩,fun _ _ h=>h,fun _ _ h=>.inl h⟩
 ·intro k tv hk;rw[ZN]at hk
  simp only[jk,true_and,bT,lW]at hk;have hx:look (xL xs 0++oL ri) (.s k) = .none:=by rw[DC (fun j e=>by trivial),Pv (fun j e=>by trivial)]
  split at hk
  ·have hak:args[k]? = some args[k]:=by simp
   rw[hak]at hk
   simp only[It.v.injEq]at hk;obtain⟨u,h1,h2⟩:=hargs.get hak
   grind
  simp_all
 grind
theorem PG(ν:List Pl)(rs:List (Nat×Nat)):∀l:List D,TV.pR ν rs (l.map .d)=some (l.map .d)
 | []=>rfl
 | x::l=>by simp[TV.pR,TV.BA,PG ν rs l]
theorem TY(ν:List Pl)(rs:List (Nat×Nat)):∀l:List (List D),rC ν rs (dd l)=some (dd l)
 | []=>rfl
 | x::l=>by
   have:=TY ν rs l
   grind[dd,rC,PG]
theorem PL(ν:List Pl)(rs:List (Nat×Nat)):∀a b:List (List TV),rC ν rs (a++b)=match rC ν rs a,rC ν rs b with
  | some x,some y=>some (x++y)
  | _,_=>none
 | [],b=>by cases h:rC ν rs b<;>simp[rC,h]
 | e::a,b=>by
   simp only[bg,rC,PL ν rs a b]
   grind
theorem aaF(ν:List Pl)(rs:List (Nat×Nat))(cs:List TV):aaE ν rs (.box cs)=match TV.pR ν rs cs with|some cs=>some (.box cs)|none=>none:=rfl
attribute [simp] Zo Zq TV.BA TV.pR sQ aaF aaY zn Gh wr Yj rC TY PL
end
end Go.Tr
